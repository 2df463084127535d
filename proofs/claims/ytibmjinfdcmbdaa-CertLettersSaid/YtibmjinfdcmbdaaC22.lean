/- The closure that reads a layer into a part (44), a part (31), the closure that reads a part into a proof (30). -/
import Derived.Test.YtibmjinfdcmbdaaC21
set_option maxRecDepth 4000
namespace Go.Proofs.Ytibmjinfdcmbdaa
open Go Go.Proofs.Ytibmjinfdcmbdaa.R
theorem Filled.pre {q x rr : Nat} {pre : List AV} {sz : Nat} {σ σ1 σ' : Nat → AObj} {nx nx1 nx' j : Nat} {l : List Nat} {e : Int} {rows : List (List T)} (h : Filled q x rr pre sz σ1 nx1 j l e rows σ' nx') (hle : nx ≤ nx1) (ho : ∀ i, i < nx → i ≠ q → σ1 i = σ i) :
    Filled q x rr pre sz σ nx j l e rows σ' nx' := by
  have h1 := h.le
  obtain ⟨j', g1, g2⟩ := h.row
  exact ⟨by omega, ⟨j', g1, g2.imp id fun g => by omega⟩, fun i a b c d => by rw [h.old i (by omega) b c d, ho i a b]⟩

theorem part_step {q x rr : Nat} {σ : Nat → AObj} {nx j : Nat} {l : List Nat} {rows : List (List T)} (h : Row q x rr [] 1 σ nx j l 0 rows) (hn : rows.length < 1048576) (hl : l.length < 2 ^ 62) (h8 : Bytes l) (hr : ∀ y ∈ rows, ∃ a : Layer, y = [layT a]) :
    CallQ P 44 [.ptr rr 0, .ptr x 0] σ nx fun _ σ'' nx'' => Filled q x rr [] 1 σ nx j (rdLayer l 0).2.1 (rdLayer l 0).2.2 (rows ++ [[layT (rdLayer l 0).1]]) σ'' nx'' := by
  refine CallQ.known (by simp [goodFn, Try.func44, Try.f44]) fun hk => ?_
  have hx := h.fx
  rw [List.nil_append] at hx
  have hy : ∀ y ∈ rows, y.length = 1 := fun y hy => by
    obtain ⟨a, rfl⟩ := hr y hy
    rfl
  have hxq := Ne.symm h.qx
  have hjq := Ne.symm h.qj
  have hxj := h.xj
  have hm : mostLen = 4294967296 := rfl
  have hm1 : rows.length + 1 ≤ mostLen := by omega
  have q1 := h.ql; have x1 := h.xl; have j1 := h.jl; have r1 := h.rl
  refine spec_of Try.func44 rfl rfl (by simp [Try.f44]) fun B hB hnx hσ => ?_
  simp only [Try.f44] at hB ⊢
  refine K_run hB 20 ?_
  simp [go_sem, h.fr, Nat.ne_of_lt r1]
  refine K_imp (Imp.ownB (b := nx) (off := 0) (sz := 10) (cs := [.fsl []]) (by simp [oput]) rfl) ?_
  have row : Row q nx rr [] 10 (oput (oput (oput σ nx (.box [.fsl []])) nx (.box [.ref (nx + 1)])) (nx + 1) (.arr 10 [])) (nx + 2) (nx + 1) l 0 [] := by
    refine ⟨?_, by simp [oput], by simp [oput], ?_, by omega, by omega, by omega, by omega⟩
    · simp [oput, show q ≠ nx by omega, show q ≠ nx + 1 by omega, h.fq]
    · simp [oput, show rr ≠ nx by omega, show rr ≠ nx + 1 by omega, h.fr]
  refine K_callQ rfl rfl rfl (args := [.ptr q 0, .fn (.func 45) [] [.ptr nx 0, .ptr rr 0]]) (f := 29) (by simp [go_sem]) (by simp [go_sem, hB]) (each_rows rdSpot Spot.t row hl h8 (fun l' h => rdSpot_keep l' 0 h) (fun σ' nx' j' l' rows R a b c d => layer_step R a b c d)) ?_
  intro r σ' nx' F
  replace F : Filled q nx rr [] 10 (oput (oput (oput σ nx (.box [.fsl []])) nx (.box [.ref (nx + 1)])) (nx + 1) (.arr 10 [])) (nx + 2) (nx + 1) (rdLayer l 0).2.1 (rdLayer l 0).2.2 ((rdLayer l 0).1.map Spot.t) σ' nx' := F
  have hle := F.le
  obtain ⟨j', R, hj⟩ := F.row
  have hj' : nx ≤ j' := by omega
  have hold : ∀ i, i < nx → i ≠ q → σ' i = σ i := fun i hi hiq => by
    rw [F.old i (by omega) hiq (by omega) (by omega)]
    simp [oput, show i ≠ nx by omega, show i ≠ nx + 1 by omega]
  have hRx := R.fx
  rw [List.nil_append] at hRx
  refine K_imp (Imp.freeze (q := j') R.fj) ?_
  refine K_imp (t := ⟨sl [(1, .ptr x 0), (2, .ptr nx 0)], fun i => if i = q then rdB (rdLayer l 0).2.1 (rdLayer l 0).2.2 else if i < nx then σ i else if i = nx then .box [.t (layT (rdLayer l 0).1)] else .dead, nx'⟩) (Imp.of (by simp [go_sem, frz1]) (fun i => ?_) rfl) ?_
  · dsimp only
    have hqj := R.qj
    have hxj' := R.xj
    by_cases hi : i = q
    · subst hi
      right
      rw [if_pos rfl, if_neg hqj, R.fq]
      rfl
    · rw [if_neg hi]
      by_cases hi2 : i < nx
      · right
        rw [if_pos hi2, if_neg (by omega), hold i hi2 hi]
        rcases hk i with e | ⟨e, _⟩
        · rw [e]; rfl
        · exact (frzO_id hj' _ e).symm
      · rw [if_neg hi2]
        by_cases hi3 : i = nx
        · subst hi3
          right
          rw [if_pos rfl, if_neg hxj', hRx]
          simp [frzO, frz1.frzL, frz1, layT, rdLayer]
        · exact .inl (by rw [if_neg hi3])
  obtain ⟨σ3, h3⟩ : ∃ σ3 : Nat → AObj, σ3 = fun i => if i = q then rdB (rdLayer l 0).2.1 (rdLayer l 0).2.2 else if i < nx then σ i else if i = nx then .box [.t (layT (rdLayer l 0).1)] else .dead := ⟨_, rfl⟩
  rw [← h3]
  have g0 : σ3 nx = .box [.t (layT (rdLayer l 0).1)] := by rw [h3]; simp [show nx ≠ q by omega]
  have R3 : Row q x rr [] 1 σ3 nx' j (rdLayer l 0).2.1 (rdLayer l 0).2.2 rows := by
    refine ⟨by rw [h3]; simp, ?_, ?_, ?_, by omega, by omega, by omega, by omega⟩
    · rw [h3]; simp only [if_neg hxq, if_pos x1]; exact h.fx
    · rw [h3]; simp only [if_neg hjq, if_pos j1]; exact h.fj
    · rw [h3]; simp only [if_neg (Ne.symm h.qr), if_pos r1]; exact h.fr
  have hR3x := R3.fx
  rw [List.nil_append] at hR3x
  generalize layT (rdLayer l 0).1 = y at *
  refine K_run hB 60 ?_
  simp [go_sem, g0, hR3x, R3.fj, hm1, hy, hxj, show x ≠ nx' by omega]
  refine (?_ : ∀ S, Filled q x rr [] 1 σ nx j _ _ _ S (nx' + 1) → nx ≤ nx' + 1 ∧ Filled q x rr [] 1 σ nx j _ _ _ S (nx' + 1)) _ ?_
  · exact fun S hS => ⟨by omega, hS⟩
  · exact (R3.app [y]).pre (by omega) fun i hi hiq => by rw [h3]; simp only [if_neg hiq, if_pos hi]
end Go.Proofs.Ytibmjinfdcmbdaa
