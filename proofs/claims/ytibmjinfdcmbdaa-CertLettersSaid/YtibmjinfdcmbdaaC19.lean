/- The reader's spot (46). -/
import Derived.Test.YtibmjinfdcmbdaaC18
import Derived.Test.YtibmjinfdcmbdaaR18
set_option maxRecDepth 4000
namespace Go.Proofs.Ytibmjinfdcmbdaa
open Go Go.Proofs.Ytibmjinfdcmbdaa.R
theorem pln_r' {l : List Nat} (h8 : Bytes l) (e : Int) : Bytes (pln l e).2.1 ∧ (pln l e).2.1.length ≤ l.length ∧ (pln l e).1 < 2 ^ 63 := ⟨(pln_keeps h8 e).2.2, (pln_keeps h8 e).2.1, (pln_keeps h8 e).1⟩
theorem wide_r' {l : List Nat} (h8 : Bytes l) (e : Int) : Bytes (wide l e).2.1 ∧ (wide l e).2.1.length ≤ l.length ∧ (wide l e).1 < 2 ^ 64 := ⟨(wide_keeps h8 e).2.2, (wide_keeps h8 e).2.1, (wide_keeps h8 e).1⟩
/-- How far a reader is. -/
abbrev At (σ' : Nat → AObj) (σ : Nat → AObj) (nx q : Nat) (a : List Nat × Int) (cs : List AV) : Prop := σ' q = rdB a.1 a.2 ∧ σ' (nx + 1) = .box cs ∧ (∀ i, i < nx → i ≠ q → σ' i = σ i) ∧ σ' nx = .box [.i 0, .i 0, .i 0, .i 0, .i 0, .u 0, .u 0, .u 0, .i 0, .i 0]
theorem spot_r {σ : Nat → AObj} {nx q : Nat} {l : List Nat} {e : Int} (h : σ q = rdB l e) (hq : q < nx) (hl : l.length < 2 ^ 62) (h8 : Bytes l) :
    CallSpec P 46 [.ptr q 0] σ nx (.agg ((rdSpot l e).1.t.map .t)) (oput σ q (rdB (rdSpot l e).2.1 (rdSpot l e).2.2)) nx := by
  refine spec_down (P := P) Try.func46 rfl rfl (by simp [Try.f46]) hq (by simp [go_sem]) (by simp [go_sem, Spot.t]) fun hdead B hB hnx hσ => ?_
  simp only [Try.f46] at hB ⊢
  generalize ha1 : pln l e = a1
  generalize ha2 : pln a1.2.1 a1.2.2 = a2
  generalize ha3 : pln a2.2.1 a2.2.2 = a3
  generalize ha4 : pln a3.2.1 a3.2.2 = a4
  generalize ha5 : pln a4.2.1 a4.2.2 = a5
  generalize ha6 : wide a5.2.1 a5.2.2 = a6
  generalize ha7 : wide a6.2.1 a6.2.2 = a7
  generalize ha8 : wide a7.2.1 a7.2.2 = a8
  generalize ha9 : pln a8.2.1 a8.2.2 = a9
  generalize ha10 : pln a9.2.1 a9.2.2 = a10
  have hrd : rdSpot l e = (⟨a1.1, a2.1, a3.1, a4.1, a5.1, a6.1, a7.1, a8.1, a9.1, a10.1⟩, a10.2) := by
    simp only [rdSpot, Spot.of, rdSpotT, pairR, plnI, ha1, ha2, ha3, ha4, ha5, ha6, ha7, ha8, ha9, ha10]
  rw [hrd]
  obtain ⟨b1, l1, v1⟩ := pln_r' h8 e; rw [ha1] at b1 l1 v1
  obtain ⟨b2, l2, v2⟩ := pln_r' b1 a1.2.2; rw [ha2] at b2 l2 v2
  obtain ⟨b3, l3, v3⟩ := pln_r' b2 a2.2.2; rw [ha3] at b3 l3 v3
  obtain ⟨b4, l4, v4⟩ := pln_r' b3 a3.2.2; rw [ha4] at b4 l4 v4
  obtain ⟨b5, l5, v5⟩ := pln_r' b4 a4.2.2; rw [ha5] at b5 l5 v5
  obtain ⟨b6, l6, v6⟩ := wide_r' b5 a5.2.2; rw [ha6] at b6 l6 v6
  obtain ⟨b7, l7, v7⟩ := wide_r' b6 a6.2.2; rw [ha7] at b7 l7 v7
  obtain ⟨b8, l8, v8⟩ := wide_r' b7 a7.2.2; rw [ha8] at b8 l8 v8
  obtain ⟨b9, l9, v9⟩ := pln_r' b8 a8.2.2; rw [ha9] at b9 l9 v9
  obtain ⟨b10, l10, v10⟩ := pln_r' b9 a9.2.2; rw [ha10] at b10 l10 v10
  have hqn : q ≠ nx := by omega
  have hqn1 : q ≠ nx + 1 := by omega
  refine K_run hB 100 ?_
  simp [go_sem]
  refine K_loopP (α := Nat × (Nat → AObj)) (fun (k, σ') => k ≤ 5 ∧ At σ' σ nx q (match k with | 0 => (l, e) | 1 => a1.2 | 2 => a2.2 | 3 => a3.2 | 4 => a4.2 | _ => a5.2)
      [if 0 < k then .i a1.1 else .i 0, if 1 < k then .i a2.1 else .i 0, if 2 < k then .i a3.1 else .i 0, if 3 < k then .i a4.1 else .i 0, if 4 < k then .i a5.1 else .i 0, .u 0, .u 0, .u 0, .i 0, .i 0])
    (fun (k, σ') => ⟨sl [(0, .ptr q 0), (2, .ptr nx 0), (3, .ptr (nx + 1) 0), (4, .fn (.func 28) [.ptr q 0] []), (5, .fn (.func 42) [.ptr q 0] []), (24, .agg [.ptr (nx + 1) 0, .ptr (nx + 1) 1, .ptr (nx + 1) 2, .ptr (nx + 1) 3, .ptr (nx + 1) 4]), (25, .i k)], σ', nx + 2⟩) (fun x => 5 - x.1) (0, _)
    ?_ (Imp.slots (by simp [go_sem]) rfl rfl) ?_
  · exact ⟨Nat.zero_le _, by simp [oput, hqn, hqn1, h], by simp [oput], fun i hi hiq => (by simp [oput, show i ≠ nx by omega, show i ≠ nx + 1 by omega]), by simp [oput]⟩
  rintro ⟨k, σ'⟩ ⟨h1, h2⟩
  rcases (by omega : k = 0 ∨ k = 1 ∨ k = 2 ∨ k = 3 ∨ k = 4 ∨ k = 5) with rfl | rfl | rfl | rfl | rfl | rfl
  · obtain ⟨c1, c2, c3, c4⟩ := h2
    replace c1 : σ' q = rdB l e := c1
    simp at c2
    refine K_run hB 60 ?_
    simp [go_sem]
    refine K_call rfl rfl rfl (args := [.ptr q 0]) (f := 28) (by simp [go_sem]) (by simp [go_sem, hB]) (plain_r c1 (by show q < nx + 2; omega) hl h8) ?_
    rw [ha1]
    refine K_run hB 60 ?_
    simp [go_sem, c2, Ne.symm hqn1]
    refine Next.mk (1, _) ?_ (Imp.slots (by simp [go_sem]; try decide) rfl rfl) (by simp)
    exact ⟨by omega, by simp [oput, hqn1], by simp [oput], fun i hi hiq => (by simp [oput, hiq, show i ≠ nx + 1 by omega]; exact c3 i hi hiq), by simp [oput, Ne.symm hqn, c4]⟩
  · obtain ⟨c1, c2, c3, c4⟩ := h2
    replace c1 : σ' q = rdB a1.2.1 a1.2.2 := c1
    simp at c2
    refine K_run hB 60 ?_
    simp [go_sem]
    refine K_call rfl rfl rfl (args := [.ptr q 0]) (f := 28) (by simp [go_sem]) (by simp [go_sem, hB]) (plain_r c1 (by show q < nx + 2; omega) (by omega) b1) ?_
    rw [ha2]
    refine K_run hB 60 ?_
    simp [go_sem, c2, Ne.symm hqn1]
    refine Next.mk (2, _) ?_ (Imp.slots (by simp [go_sem]; try decide) rfl rfl) (by simp)
    exact ⟨by omega, by simp [oput, hqn1], by simp [oput], fun i hi hiq => (by simp [oput, hiq, show i ≠ nx + 1 by omega]; exact c3 i hi hiq), by simp [oput, Ne.symm hqn, c4]⟩
  · obtain ⟨c1, c2, c3, c4⟩ := h2
    replace c1 : σ' q = rdB a2.2.1 a2.2.2 := c1
    simp at c2
    refine K_run hB 60 ?_
    simp [go_sem]
    refine K_call rfl rfl rfl (args := [.ptr q 0]) (f := 28) (by simp [go_sem]) (by simp [go_sem, hB]) (plain_r c1 (by show q < nx + 2; omega) (by omega) b2) ?_
    rw [ha3]
    refine K_run hB 60 ?_
    simp [go_sem, c2, Ne.symm hqn1]
    refine Next.mk (3, _) ?_ (Imp.slots (by simp [go_sem]; try decide) rfl rfl) (by simp)
    exact ⟨by omega, by simp [oput, hqn1], by simp [oput], fun i hi hiq => (by simp [oput, hiq, show i ≠ nx + 1 by omega]; exact c3 i hi hiq), by simp [oput, Ne.symm hqn, c4]⟩
  · obtain ⟨c1, c2, c3, c4⟩ := h2
    replace c1 : σ' q = rdB a3.2.1 a3.2.2 := c1
    simp at c2
    refine K_run hB 60 ?_
    simp [go_sem]
    refine K_call rfl rfl rfl (args := [.ptr q 0]) (f := 28) (by simp [go_sem]) (by simp [go_sem, hB]) (plain_r c1 (by show q < nx + 2; omega) (by omega) b3) ?_
    rw [ha4]
    refine K_run hB 60 ?_
    simp [go_sem, c2, Ne.symm hqn1]
    refine Next.mk (4, _) ?_ (Imp.slots (by simp [go_sem]; try decide) rfl rfl) (by simp)
    exact ⟨by omega, by simp [oput, hqn1], by simp [oput], fun i hi hiq => (by simp [oput, hiq, show i ≠ nx + 1 by omega]; exact c3 i hi hiq), by simp [oput, Ne.symm hqn, c4]⟩
  · obtain ⟨c1, c2, c3, c4⟩ := h2
    replace c1 : σ' q = rdB a4.2.1 a4.2.2 := c1
    simp at c2
    refine K_run hB 60 ?_
    simp [go_sem]
    refine K_call rfl rfl rfl (args := [.ptr q 0]) (f := 28) (by simp [go_sem]) (by simp [go_sem, hB]) (plain_r c1 (by show q < nx + 2; omega) (by omega) b4) ?_
    rw [ha5]
    refine K_run hB 60 ?_
    simp [go_sem, c2, Ne.symm hqn1]
    refine Next.mk (5, _) ?_ (Imp.slots (by simp [go_sem]; try decide) rfl rfl) (by simp)
    exact ⟨by omega, by simp [oput, hqn1], by simp [oput], fun i hi hiq => (by simp [oput, hiq, show i ≠ nx + 1 by omega]; exact c3 i hi hiq), by simp [oput, Ne.symm hqn, c4]⟩
  obtain ⟨c1, c2, c3, c4⟩ := h2
  replace c1 : σ' q = rdB a5.2.1 a5.2.2 := c1
  simp at c2
  refine K_run hB 100 ?_
  simp [go_sem]
  refine K_loopP (α := Nat × (Nat → AObj)) (fun (k, σ') => k ≤ 3 ∧ At σ' σ nx q (match k with | 0 => a5.2 | 1 => a6.2 | 2 => a7.2 | _ => a8.2)
      [.i a1.1, .i a2.1, .i a3.1, .i a4.1, .i a5.1, if 0 < k then .u a6.1 else .u 0, if 1 < k then .u a7.1 else .u 0, if 2 < k then .u a8.1 else .u 0, .i 0, .i 0])
    (fun (k, σ') => ⟨sl [(0, .ptr q 0), (2, .ptr nx 0), (3, .ptr (nx + 1) 0), (4, .fn (.func 28) [.ptr q 0] []), (5, .fn (.func 42) [.ptr q 0] []), (39, .agg [.ptr (nx + 1) 5, .ptr (nx + 1) 6, .ptr (nx + 1) 7]), (40, .i k)], σ', nx + 2⟩) (fun x => 3 - x.1) (0, _)
    ?_ (Imp.slots (by simp [go_sem]) rfl rfl) ?_
  · exact ⟨Nat.zero_le _, c1, by simp [c2], c3, c4⟩
  clear c1 c2 c3 c4 σ'
  rintro ⟨k, σ'⟩ ⟨h1, h2⟩
  rcases (by omega : k = 0 ∨ k = 1 ∨ k = 2 ∨ k = 3) with rfl | rfl | rfl | rfl
  · obtain ⟨c1, c2, c3, c4⟩ := h2
    replace c1 : σ' q = rdB a5.2.1 a5.2.2 := c1
    simp at c2
    refine K_run hB 60 ?_
    simp [go_sem]
    refine K_call rfl rfl rfl (args := [.ptr q 0]) (f := 42) (by simp [go_sem]) (by simp [go_sem, hB]) (wide_r c1 (by show q < nx + 2; omega) (by omega) b5) ?_
    rw [ha6]
    refine K_run hB 60 ?_
    simp [go_sem, c2, Ne.symm hqn1]
    refine Next.mk (1, _) ?_ (Imp.slots (by simp [go_sem]; try decide) rfl rfl) (by simp)
    exact ⟨by omega, by simp [oput, hqn1], by simp [oput], fun i hi hiq => (by simp [oput, hiq, show i ≠ nx + 1 by omega]; exact c3 i hi hiq), by simp [oput, Ne.symm hqn, c4]⟩
  · obtain ⟨c1, c2, c3, c4⟩ := h2
    replace c1 : σ' q = rdB a6.2.1 a6.2.2 := c1
    simp at c2
    refine K_run hB 60 ?_
    simp [go_sem]
    refine K_call rfl rfl rfl (args := [.ptr q 0]) (f := 42) (by simp [go_sem]) (by simp [go_sem, hB]) (wide_r c1 (by show q < nx + 2; omega) (by omega) b6) ?_
    rw [ha7]
    refine K_run hB 60 ?_
    simp [go_sem, c2, Ne.symm hqn1]
    refine Next.mk (2, _) ?_ (Imp.slots (by simp [go_sem]; try decide) rfl rfl) (by simp)
    exact ⟨by omega, by simp [oput, hqn1], by simp [oput], fun i hi hiq => (by simp [oput, hiq, show i ≠ nx + 1 by omega]; exact c3 i hi hiq), by simp [oput, Ne.symm hqn, c4]⟩
  · obtain ⟨c1, c2, c3, c4⟩ := h2
    replace c1 : σ' q = rdB a7.2.1 a7.2.2 := c1
    simp at c2
    refine K_run hB 60 ?_
    simp [go_sem]
    refine K_call rfl rfl rfl (args := [.ptr q 0]) (f := 42) (by simp [go_sem]) (by simp [go_sem, hB]) (wide_r c1 (by show q < nx + 2; omega) (by omega) b7) ?_
    rw [ha8]
    refine K_run hB 60 ?_
    simp [go_sem, c2, Ne.symm hqn1]
    refine Next.mk (3, _) ?_ (Imp.slots (by simp [go_sem]; try decide) rfl rfl) (by simp)
    exact ⟨by omega, by simp [oput, hqn1], by simp [oput], fun i hi hiq => (by simp [oput, hiq, show i ≠ nx + 1 by omega]; exact c3 i hi hiq), by simp [oput, Ne.symm hqn, c4]⟩
  obtain ⟨c1, c2, c3, c4⟩ := h2
  replace c1 : σ' q = rdB a8.2.1 a8.2.2 := c1
  simp at c2
  refine K_run hB 60 ?_
  simp [go_sem]
  refine K_call rfl rfl rfl (args := [.ptr q 0]) (f := 28) (by simp [go_sem]) (by simp [go_sem, hB]) (plain_r c1 (by show q < nx + 2; omega) (by omega) b8) ?_
  rw [ha9]
  refine K_run hB 60 ?_
  simp [go_sem, c2, Ne.symm hqn1]
  refine K_call rfl rfl rfl (args := [.ptr q 0]) (f := 28) (by simp [go_sem]) (by simp [go_sem, hB]) (plain_r (l := a9.2.1) (e := a9.2.2) (by simp [oput, hqn1]) (by show q < nx + 2; omega) (by omega) b9) ?_
  rw [ha10]
  refine K_run hB 60 ?_
  simp [go_sem, c2, c4, Ne.symm hqn1, hqn1, Ne.symm hqn, hqn, Spot.t]
  intro i hi hiq
  rw [if_neg (by omega), if_neg (by omega), if_neg hiq, if_neg (by omega), if_neg hiq]
  exact c3 i hi hiq
end Go.Proofs.Ytibmjinfdcmbdaa
