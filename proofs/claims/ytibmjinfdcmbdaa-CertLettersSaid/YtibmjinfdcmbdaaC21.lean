/- The closure that reads a spot into a row (45). -/
import Derived.Test.YtibmjinfdcmbdaaC20
set_option maxRecDepth 4000
namespace Go.Proofs.Ytibmjinfdcmbdaa
open Go Go.Proofs.Ytibmjinfdcmbdaa.R
def Keep {α : Type} (rd : Rd α) : Prop := ∀ l e, Bytes l → Bytes (rd l e).2.1 ∧ (rd l e).2.1.length ≤ l.length
theorem Keep.pair {α β : Type} {f : Rd α} {g : Rd β} (h : Keep f) (h' : Keep g) : Keep (pairR f g) := fun l e hl => by
  obtain ⟨a1, a2⟩ := h l e hl
  obtain ⟨b1, b2⟩ := h' _ (f l e).2.2 a1
  exact ⟨b1, Nat.le_trans b2 a2⟩
theorem plnI_keep : Keep plnI := fun l e h => ⟨(pln_keeps h e).2.2, (pln_keeps h e).2.1⟩
theorem wide_keep : Keep wide := fun l e h => ⟨(wide_keeps h e).2.2, (wide_keeps h e).2.1⟩
theorem rdSpot_keep : Keep rdSpot := fun l e h => (plnI_keep.pair (plnI_keep.pair (plnI_keep.pair (plnI_keep.pair (plnI_keep.pair (wide_keep.pair (wide_keep.pair (wide_keep.pair (plnI_keep.pair plnI_keep))))))))) l e h
theorem rep_keep {α : Type} {rd : Rd α} (h : Keep rd) : ∀ n, Keep (rep rd n)
  | 0 => fun l e hl => ⟨hl, Nat.le_refl _⟩
  | n + 1 => fun l e hl => by
    rw [rep]
    split
    · exact ⟨hl, Nat.le_refl _⟩
    · obtain ⟨a1, a2⟩ := h l e hl
      obtain ⟨b1, b2⟩ := rep_keep h n _ (rd l e).2.2 a1
      exact ⟨b1, Nat.le_trans b2 a2⟩
theorem Keep.each {α : Type} {rd : Rd α} (h : Keep rd) : Keep (eachR rd) := fun l e hl => by
  obtain ⟨_, a2, a1⟩ := cnt_keeps hl e
  obtain ⟨b1, b2⟩ := rep_keep h (cnt l e).1 _ (cnt l e).2.2 a1
  exact ⟨b1, Nat.le_trans b2 a2⟩
theorem rdLayer_keep : Keep rdLayer := rdSpot_keep.each
theorem rdPart_keep : Keep rdPart := rdLayer_keep.each

theorem layer_step {q x rr : Nat} {σ : Nat → AObj} {nx j : Nat} {l : List Nat} {rows : List (List T)} (h : Row q x rr [] 10 σ nx j l 0 rows) (hn : rows.length < 1048576) (hl : l.length < 2 ^ 62) (h8 : Bytes l) (hr : ∀ y ∈ rows, ∃ a : Spot, y = a.t) :
    CallQ P 45 [.ptr x 0, .ptr rr 0] σ nx fun _ σ'' nx'' => Filled q x rr [] 10 σ nx j (rdSpot l 0).2.1 (rdSpot l 0).2.2 (rows ++ [(rdSpot l 0).1.t]) σ'' nx'' := by
  have hx := h.fx
  rw [List.nil_append] at hx
  have hy : ∀ y ∈ rows, y.length = 10 := fun y hy => by
    obtain ⟨a, rfl⟩ := hr y hy
    rfl
  refine spec_of Try.func45 rfl rfl (by simp [Try.f45]) fun B hB hnx hσ => ?_
  simp only [Try.f45] at hB ⊢
  refine K_drawn [2, 4, 5] rfl (by rw [hB]; kernel_rfl) ?_
  refine K_dFloat rfl (v := .ref j) (by simp [go_sem, hx]) (by decide) ?_
  refine K_dRead rfl (v := .ptr q 0) (by simp [go_sem, h.fr]) (by kernel_rfl) ?_
  refine K_dCall rfl rfl rfl (args := [.ptr q 0]) (f := 46) (by simp [go_sem]) (spot_r h.fq h.ql hl h8) (by decide) ?_ ?_
  · intro p hp
    rw [List.mem_singleton] at hp
    subst hp
    refine .inr (does_store (e := .none) rfl rfl ?_)
    have := (h.rd (rdSpot l 0).2.1 (rdSpot l 0).2.2).fx
    simp [go_sem, oput, Ne.symm h.qx, hx]
  have h' := h.rd (rdSpot l 0).2.1 (rdSpot l 0).2.2
  have hrd := h.read (rdSpot l 0).2.1 (rdSpot l 0).2.2
  generalize (rdSpot l 0).1 = s at *
  generalize (rdSpot l 0).2 = a at *
  have hxq := Ne.symm h.qx
  have hjq := Ne.symm h.qj
  have hxj := h.xj
  have hm : mostLen = 4294967296 := rfl
  have hm1 : rows.length + 1 ≤ mostLen := by omega
  refine K_dPure rfl (v := .fsl [s.t]) (by simp [go_sem, Spot.t]) ?_
  refine K_dLoud (v := .ref nx) (e := .next j (.arr 10 (rows ++ [s.t]))) rfl (by simp [go_sem, hjq, h.fj, hm1, hy, Spot.t]) (by decide) ?_ ?_
  · intro p hp
    rw [List.mem_singleton] at hp
    subst hp
    exact .inl (by kernel_rfl)
  refine K_dLoud (v := .tup []) (e := .set x (.box [.ref nx])) rfl (by simp [go_sem, hxq, hxj, hx, Nat.ne_of_lt h.xl]) (by decide) ?_ ?_
  · intro p hp
    rw [List.mem_singleton] at hp
    subst hp
    exact .inl (by kernel_rfl)
  refine K_dNil ?_
  refine K_run hB 10 ?_
  simp [go_sem]
  exact hrd.trans (.inl rfl) (h'.app s.t)
end Go.Proofs.Ytibmjinfdcmbdaa
