/- A part (31), the closure that reads a part into a proof (30). -/
import Derived.Test.YtibmjinfdcmbdaaC22
set_option maxRecDepth 4000
namespace Go.Proofs.Ytibmjinfdcmbdaa
open Go Go.Proofs.Ytibmjinfdcmbdaa.R
theorem part_r {σ : Nat → AObj} {nx q : Nat} {l : List Nat} {e : Int} (h : σ q = rdB l e) (hq : q < nx) (hl : l.length < 2 ^ 62) (h8 : Bytes l) :
    CallSpec P 31 [.ptr q 0] σ nx (.agg ((partT (rdPart l e).1).map .t)) (oput σ q (rdB (rdPart l e).2.1 (rdPart l e).2.2)) nx := by
  refine spec_down (P := P) Try.func31 rfl rfl (by simp [Try.f31]) hq (by simp [go_sem]) (by simp [go_sem, partT]) fun hk B hB hnx hσ => ?_
  simp only [Try.f31] at hB ⊢
  refine K_run hB 40 ?_
  simp [go_sem, Nat.add_assoc]
  refine K_imp (Imp.ownB (b := nx + 2) (off := 0) (sz := 1) (cs := [.fsl []]) (by simp [oput]) rfl) ?_
  have row : Row q (nx + 2) nx [] 1 (oput (oput (oput (oput (oput σ nx (.box [.ptr q 0])) (nx + 1) (.box [.fsl []])) (nx + 2) (.box [.fsl []])) (nx + 2) (.box [.ref (nx + 3)])) (nx + 3) (.arr 1 [])) (nx + 4) (nx + 3) l e [] := by
    refine ⟨?_, by simp [oput], by simp [oput], by simp [oput], by omega, by omega, by omega, by omega⟩
    simp [oput, show q ≠ nx by omega, show q ≠ nx + 1 by omega, show q ≠ nx + 2 by omega, show q ≠ nx + 3 by omega, h]
  refine K_callQ rfl rfl rfl (args := [.ptr q 0, .fn (.func 44) [] [.ptr nx 0, .ptr (nx + 2) 0]]) (f := 29) (by simp [go_sem]) (by simp [go_sem, hB]) (each_rows rdLayer (fun l => [layT l]) row hl h8 (fun l' h => rdLayer_keep l' 0 h) (fun σ' nx' j' l' rows R a b c d => part_step R a b c d)) ?_
  intro r σ' nx' F
  replace F : Filled q (nx + 2) nx [] 1 (oput (oput (oput (oput (oput σ nx (.box [.ptr q 0])) (nx + 1) (.box [.fsl []])) (nx + 2) (.box [.fsl []])) (nx + 2) (.box [.ref (nx + 3)])) (nx + 3) (.arr 1 [])) (nx + 4) (nx + 3) (rdPart l e).2.1 (rdPart l e).2.2 ((rdPart l e).1.map fun l => [layT l]) σ' nx' := F
  have hle := F.le
  obtain ⟨j', R, hj⟩ := F.row
  have hj' : nx + 3 ≤ j' := by omega
  have hold : ∀ i, i < nx → i ≠ q → σ' i = σ i := fun i hi hiq => by
    rw [F.old i (by omega) hiq (by omega) (by omega)]
    simp [oput, show i ≠ nx by omega, show i ≠ nx + 1 by omega, show i ≠ nx + 2 by omega, show i ≠ nx + 3 by omega]
  have hres : σ' (nx + 1) = .box [.fsl []] := by
    rw [F.old (nx + 1) (by omega) (by omega) (by omega) (by omega)]
    simp [oput]
  have hRx := R.fx
  rw [List.nil_append] at hRx
  refine K_imp (Imp.freeze (q := j') R.fj) ?_
  refine K_imp (t := ⟨sl [(2, .ptr (nx + 1) 0), (3, .ptr (nx + 2) 0)], fun i => if i = q then rdB (rdPart l e).2.1 (rdPart l e).2.2 else if i < nx then σ i else if i = nx + 1 then .box [.fsl []] else if i = nx + 2 then .box ((partT (rdPart l e).1).map .t) else .dead, nx'⟩) (Imp.of (by simp [go_sem, frz1]) (fun i => ?_) rfl) ?_
  · dsimp only
    have hqj := R.qj
    have hxj' := R.xj
    by_cases hi : i = q
    · subst hi
      right
      rw [if_pos rfl, if_neg hqj, R.fq]
      rfl
    · rw [if_neg hi]
      by_cases hi2 : i < nx
      · right
        rw [if_pos hi2, if_neg (by omega), hold i hi2 hi]
        rcases hk i with e | ⟨e, _⟩
        · rw [e]; rfl
        · exact (frzO_id (by omega) _ e).symm
      · rw [if_neg hi2]
        by_cases hi3 : i = nx + 1
        · subst hi3
          right
          rw [if_pos rfl, if_neg (by omega), hres]
          rfl
        · rw [if_neg hi3]
          by_cases hi4 : i = nx + 2
          · subst hi4
            right
            rw [if_pos rfl, if_neg hxj', hRx]
            simp [frzO, frz1.frzL, frz1, partT, rdPart]
          · exact .inl (by rw [if_neg hi4])
  have e1 : nx + 1 ≠ q := by omega
  have e2 : nx + 2 ≠ q := by omega
  generalize (rdPart l e).1 = y at *
  refine K_run hB 40 ?_
  simp [go_sem, e1, e2, Ne.symm e1, Ne.symm e2, partT, show ¬ nx + 2 < nx by omega, show ¬ nx + 1 < nx by omega]
  refine ⟨by omega, fun i hi hiq => ?_⟩
  rw [if_neg (by omega), if_neg hiq, if_pos hi]

theorem body_step {n : Int} {q x rr : Nat} {σ : Nat → AObj} {nx j : Nat} {l : List Nat} {rows : List (List T)} (h : Row q x rr [.i n] 1 σ nx j l 0 rows) (hn : rows.length < 1048576) (hl : l.length < 2 ^ 62) (h8 : Bytes l) (hr : ∀ y ∈ rows, ∃ a : Part, y = partT a) :
    CallQ P 30 [.ptr x 0, .ptr rr 0] σ nx fun _ σ'' nx'' => Filled q x rr [.i n] 1 σ nx j (rdPart l 0).2.1 (rdPart l 0).2.2 (rows ++ [partT (rdPart l 0).1]) σ'' nx'' := by
  have hx := h.fx
  rw [List.singleton_append] at hx
  have hy : ∀ y ∈ rows, y.length = 1 := fun y hy => by
    obtain ⟨a, rfl⟩ := hr y hy
    rfl
  refine spec_of Try.func30 rfl rfl (by simp [Try.f30]) fun B hB hnx hσ => ?_
  simp only [Try.f30] at hB ⊢
  refine K_drawn [3, 5, 7] rfl (by rw [hB]; kernel_rfl) ?_
  refine K_dPure rfl (v := .ptr x 1) (by simp [go_sem]) ?_
  refine K_dFloat rfl (v := .ref j) (by simp [go_sem, hx]) (by decide) ?_
  refine K_dRead rfl (v := .ptr q 0) (by simp [go_sem, h.fr]) (by kernel_rfl) ?_
  refine K_dCall rfl rfl rfl (args := [.ptr q 0]) (f := 31) (by simp [go_sem]) (part_r h.fq h.ql hl h8) (by decide) ?_ ?_
  · intro p hp
    rw [List.mem_singleton] at hp
    subst hp
    refine .inr (does_store (e := .none) rfl rfl ?_)
    simp [go_sem, oput, Ne.symm h.qx, hx]
  have h' := h.rd (rdPart l 0).2.1 (rdPart l 0).2.2
  have hrd := h.read (rdPart l 0).2.1 (rdPart l 0).2.2
  generalize (rdPart l 0).1 = s at *
  generalize (rdPart l 0).2 = a at *
  have hxq := Ne.symm h.qx
  have hjq := Ne.symm h.qj
  have hxj := h.xj
  have hm : mostLen = 4294967296 := rfl
  have hm1 : rows.length + 1 ≤ mostLen := by omega
  refine K_dPure rfl (v := .fsl [partT s]) (by simp [go_sem, partT]) ?_
  refine K_dLoud (v := .ref nx) (e := .next j (.arr 1 (rows ++ [partT s]))) rfl (by simp [go_sem, hjq, h.fj, hm1, hy, partT]) (by decide) ?_ ?_
  · intro p hp
    rw [List.mem_singleton] at hp
    subst hp
    exact .inl (by kernel_rfl)
  refine K_dPure rfl (v := .ptr x 1) (by simp [go_sem]) ?_
  refine K_dLoud (v := .tup []) (e := .set x (.box [.i n, .ref nx])) rfl (by simp [go_sem, hxq, hxj, hx, Nat.ne_of_lt h.xl]) (by decide) ?_ ?_
  · intro p hp
    rw [List.mem_singleton] at hp
    subst hp
    exact .inl (by kernel_rfl)
  refine K_dNil ?_
  refine K_run hB 10 ?_
  simp [go_sem]
  exact hrd.trans (.inl rfl) (h'.app (partT s))
end Go.Proofs.Ytibmjinfdcmbdaa
