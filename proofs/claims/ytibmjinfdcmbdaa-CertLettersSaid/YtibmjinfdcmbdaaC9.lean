/- A part of the proof: C9. -/
import Derived.Test.YtibmjinfdcmbdaaC8
set_option maxRecDepth 4000
namespace Go.Proofs.Ytibmjinfdcmbdaa
open Go Go.Proofs.Ytibmjinfdcmbdaa.R
theorem wid_keeps (n sh c : Nat) (l : List Nat) (e : Int) (hn : n < 2 ^ 64) (h8 : ∀ c ∈ l, c < 256) : (wid n sh c l e).1 < 2 ^ 64 ∧ (wid n sh c l e).2.1.length ≤ l.length ∧ ∀ x ∈ (wid n sh c l e).2.1, x < 256 := by
  fun_induction wid n sh c l e with
  | case1 => exact ⟨Nat.two_pow_pos _, Nat.le_refl _, h8⟩
  | case2 => exact ⟨Nat.two_pow_pos _, Nat.le_refl _, h8⟩
  | case3 n sh c l e _ _ _ ih =>
    have h1 := nxt_u8 h8 e
    have h2 := nxt_len l e
    obtain ⟨g1, g2, g3⟩ := ih (Nat.or_lt_two_pow hn (Nat.mod_lt _ (by decide))) h1.2
    exact ⟨g1, by omega, g3⟩
  | case4 n sh c l e => exact ⟨Nat.or_lt_two_pow hn (Nat.mod_lt _ (by decide)), Nat.le_refl _, h8⟩
theorem wide_keeps {l : List Nat} (h8 : ∀ c ∈ l, c < 256) (e : Int) : (wide l e).1 < 2 ^ 64 ∧ (wide l e).2.1.length ≤ l.length ∧ ∀ c ∈ (wide l e).2.1, c < 256 := by
  have h1 := nxt_u8 h8 e
  have h2 := nxt_len l e
  obtain ⟨g1, g2, g3⟩ := wid_keeps 0 0 (nxt l e).1 (nxt l e).2.1 (nxt l e).2.2 (by decide) h1.2
  exact ⟨g1, Nat.le_trans g2 h2, g3⟩

/-- A number that is one with a sign, too. -/
def pln (l : List Nat) (e : Int) : Nat × List Nat × Int := if 9223372036854775807 < (wide l e).1 then (0, (wide l e).2.1, failE (wide l e).2.2 2) else wide l e
def cnt (l : List Nat) (e : Int) : Nat × List Nat × Int := if 1048576 < (pln l e).1 then (0, (pln l e).2.1, failE (pln l e).2.2 6) else pln l e
theorem pln_keeps {l : List Nat} (h8 : ∀ c ∈ l, c < 256) (e : Int) : (pln l e).1 < 2 ^ 63 ∧ (pln l e).2.1.length ≤ l.length ∧ ∀ c ∈ (pln l e).2.1, c < 256 := by
  obtain ⟨g1, g2, g3⟩ := wide_keeps h8 e
  unfold pln; split
  · exact ⟨by simp only; omega, g2, g3⟩
  · exact ⟨by omega, g2, g3⟩
theorem cnt_keeps {l : List Nat} (h8 : ∀ c ∈ l, c < 256) (e : Int) : (cnt l e).1 ≤ 1048576 ∧ (cnt l e).2.1.length ≤ l.length ∧ ∀ c ∈ (cnt l e).2.1, c < 256 := by
  obtain ⟨g1, g2, g3⟩ := pln_keeps h8 e
  unfold cnt; split
  · exact ⟨by simp only; omega, g2, g3⟩
  · exact ⟨by omega, g2, g3⟩

theorem plain_r {σ : Nat → AObj} {nx q : Nat} {l : List Nat} {e : Int} (h : σ q = rdB l e) (hq : q < nx) (hl : l.length < 2 ^ 62) (h8 : ∀ c ∈ l, c < 256) : CallSpec P 28 [.ptr q 0] σ nx (.i (pln l e).1) (oput σ q (rdB (pln l e).2.1 (pln l e).2.2)) nx := by
  obtain ⟨w1, w2, w3⟩ := wide_keeps h8 e
  refine (spec_of Try.func28 rfl rfl (by simp [Try.f28]) fun B hB hnx hσ => ?_).spec
  simp only [Try.f28] at hB ⊢
  refine K_run hB 60 ?_
  simp [go_sem]
  refine K_call rfl rfl rfl (args := [.ptr q 0]) (f := 42) (by simp [go_sem]) (by simp [go_sem, hB]) (wide_r h hq hl h8) ?_
  by_cases hb : (9223372036854775807 : Int) < (wide l e).1
  · have hb' : 9223372036854775807 < (wide l e).1 := by omega
    refine K_run hB 60 ?_
    simp [go_sem, hb]
    refine K_call rfl rfl rfl (args := [.ptr q 0, .i 2]) (f := 27) (by simp [go_sem]) (by simp [go_sem, hB]) (fail_spec (oput_eq (σ := σ)) 2) ?_
    refine K_run hB 60 ?_
    simp [go_sem, pln, if_pos hb', oput_oput]
  · have hb' : ¬ 9223372036854775807 < (wide l e).1 := by omega
    refine K_run hB 60 ?_
    simp [go_sem, hb, pln, if_neg hb']
    rw [w64 _ (by omega)]

theorem count_r {σ : Nat → AObj} {nx q : Nat} {l : List Nat} {e : Int} (h : σ q = rdB l e) (hq : q < nx) (hl : l.length < 2 ^ 62) (h8 : ∀ c ∈ l, c < 256) : CallSpec P 43 [.ptr q 0] σ nx (.i (cnt l e).1) (oput σ q (rdB (cnt l e).2.1 (cnt l e).2.2)) nx := by
  refine (spec_of Try.func43 rfl rfl (by simp [Try.f43]) fun B hB hnx hσ => ?_).spec
  simp only [Try.f43] at hB ⊢
  refine K_run hB 60 ?_
  simp [go_sem]
  refine K_call rfl rfl rfl (args := [.ptr q 0]) (f := 28) (by simp [go_sem]) (by simp [go_sem, hB]) (plain_r h hq hl h8) ?_
  by_cases hb : (1048576 : Int) < (pln l e).1
  · have hb' : 1048576 < (pln l e).1 := by omega
    refine K_run hB 60 ?_
    simp [go_sem, hb]
    refine K_call rfl rfl rfl (args := [.ptr q 0, .i 6]) (f := 27) (by simp [go_sem]) (by simp [go_sem, hB]) (fail_spec (oput_eq (σ := σ)) 6) ?_
    refine K_run hB 60 ?_
    simp [go_sem, cnt, if_pos hb', oput_oput]
  · have hb' : ¬ 1048576 < (pln l e).1 := by omega
    refine K_run hB 60 ?_
    simp [go_sem, hb, cnt, if_neg hb']
end Go.Proofs.Ytibmjinfdcmbdaa
