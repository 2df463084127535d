/- A part of the proof: C12. -/
import Derived.Test.YtibmjinfdcmbdaaC11
set_option maxRecDepth 4000
namespace Go.Proofs.Ytibmjinfdcmbdaa
open Go Go.Proofs.Ytibmjinfdcmbdaa.R
theorem dec0 : Utf8.decode ⟨#[72, 76, 82, 49]⟩ 0 = (72, 1) := by kernel_rfl
theorem dec1 : Utf8.decode ⟨#[72, 76, 82, 49]⟩ 1 = (76, 1) := by kernel_rfl
theorem dec2 : Utf8.decode ⟨#[72, 76, 82, 49]⟩ 2 = (82, 1) := by kernel_rfl
theorem dec3 : Utf8.decode ⟨#[72, 76, 82, 49]⟩ 3 = (49, 1) := by kernel_rfl
theorem bsz : (⟨#[72, 76, 82, 49]⟩ : ByteArray).size = 4 := rfl
attribute [local go_sem] dec0 dec1 dec2 dec3 bsz
theorem u8_72 : IntKind.u8.wrap 72 = 72 := by decide
theorem u8_76 : IntKind.u8.wrap 76 = 76 := by decide
theorem u8_82 : IntKind.u8.wrap 82 = 82 := by decide
theorem u8_49 : IntKind.u8.wrap 49 = 49 := by decide
attribute [local go_sem] u8_72 u8_76 u8_82 u8_49
theorem pln_aw : pln [172, 2, 0] 0 = (300, [0], 0) := by simp [pln, wide, nxt, wid]
theorem cnt_aw : cnt [0] 0 = (0, [], 0) := by simp [cnt, pln, wide, nxt, wid]
theorem decode_awake : Pure P 13 [.t (.sl (byt [72, 76, 82, 49, 172, 2, 0]))] (.tup [.agg [.i 300, .t (.sl [])], .i 0]) := by
  refine pure_of Try.func13 rfl rfl (by simp [Try.f13]) (by simp [bnd]) (by simp [bnd, bnd.bndL]) fun B hB hnx => ?_
  simp only [Try.f13] at hB ⊢
  generalize hpost : (fun (e : Exit) (s : St) => (e = .ret ∨ e = .normal) ∧ ∃ rs, resL P s _ = some rs ∧ frz s.σ (resV rs) = _) = post
  refine K_run hB 60 ?_
  simp [go_sem]
  refine K_loopP (α := Nat) (fun k => k ≤ 4) (fun k => ⟨sl [(2, .ptr 0 0), (3, .i 0), (4, .ptr 2 0), (11, .ptr 3 0)], ob [(0, .box [.i 0, .fsl []]), (1, rdB ([72, 76, 82, 49, 172, 2, 0].drop k) 0), (2, .box [.ptr 1 0]), (3, .iter ⟨#[72, 76, 82, 49]⟩ k)], 4⟩) (fun k => 4 - k) 0 (Nat.zero_le _)
    (Sub.of (by omega) (by simp) (by simp [go_sem]) (by simp [go_sem])) ?_
  intro k hk
  rcases (by omega : k = 0 ∨ k = 1 ∨ k = 2 ∨ k = 3 ∨ k = 4) with rfl | rfl | rfl | rfl | rfl
  · refine K_run hB 60 ?_
    simp [go_sem]
    refine K_call rfl rfl rfl (args := [.ptr 1 0]) (f := 26) (by simp [go_sem]) (by simp [go_sem, hB]) (next_spec (l := [72, 76, 82, 49, 172, 2, 0].drop 0) (e := 0) (by simp [go_sem]) (by simp)) ?_
    refine K_run hB 60 ?_
    simp [go_sem, nxt]
    exact Next.mk 1 (by omega) (Sub.of (by omega) (by simp) (by simp [go_sem]) (by simp [go_sem])) (by omega)
  · refine K_run hB 60 ?_
    simp [go_sem]
    refine K_call rfl rfl rfl (args := [.ptr 1 0]) (f := 26) (by simp [go_sem]) (by simp [go_sem, hB]) (next_spec (l := [72, 76, 82, 49, 172, 2, 0].drop 1) (e := 0) (by simp [go_sem]) (by simp)) ?_
    refine K_run hB 60 ?_
    simp [go_sem, nxt]
    exact Next.mk 2 (by omega) (Sub.of (by omega) (by simp) (by simp [go_sem]) (by simp [go_sem])) (by omega)
  · refine K_run hB 60 ?_
    simp [go_sem]
    refine K_call rfl rfl rfl (args := [.ptr 1 0]) (f := 26) (by simp [go_sem]) (by simp [go_sem, hB]) (next_spec (l := [72, 76, 82, 49, 172, 2, 0].drop 2) (e := 0) (by simp [go_sem]) (by simp)) ?_
    refine K_run hB 60 ?_
    simp [go_sem, nxt]
    exact Next.mk 3 (by omega) (Sub.of (by omega) (by simp) (by simp [go_sem]) (by simp [go_sem])) (by omega)
  · refine K_run hB 60 ?_
    simp [go_sem]
    refine K_call rfl rfl rfl (args := [.ptr 1 0]) (f := 26) (by simp [go_sem]) (by simp [go_sem, hB]) (next_spec (l := [72, 76, 82, 49, 172, 2, 0].drop 3) (e := 0) (by simp [go_sem]) (by simp)) ?_
    refine K_run hB 60 ?_
    simp [go_sem, nxt]
    exact Next.mk 4 (by omega) (Sub.of (by omega) (by simp) (by simp [go_sem]) (by simp [go_sem])) (by omega)
  · refine K_run hB 60 ?_
    simp [go_sem]
    refine K_call rfl rfl rfl (args := [.ptr 1 0]) (f := 28) (by simp [go_sem]) (by simp [go_sem, hB]) (plain_r (l := [172, 2, 0]) (e := 0) (by simp [go_sem]) (by simp) (by simp) (by simp)) ?_
    rw [pln_aw]
    refine K_run hB 60 ?_
    simp [go_sem]
    refine K_callQ rfl rfl rfl (args := [.ptr 1 0, .fn (.func 30) [] [.ptr 4 0, .ptr 2 0]]) (f := 29) (by simp [go_sem]) (by simp [go_sem, hB]) (each_r (l := [0]) (e := 0) (by simp [go_sem]) (by simp) (by simp) (by simp) 30 [.ptr 4 0, .ptr 2 0] (fun k σ' nx' => k = 0 ∧ σ' 1 = rdB [] 0 ∧ σ' 0 = .box [.i 0, .fsl []] ∧ σ' 2 = .box [.ptr 1 0] ∧ σ' 4 = .box [.i 300, .fsl []] ∧ nx' = 5) ?_ ?_ ?_) ?_
    · rw [cnt_aw]
      simp [go_sem]
    · rintro k σ' nx' ⟨_, a1, _, _, _, rfl⟩
      exact ⟨by simp, [], 0, a1⟩
    · intro k σ' nx' l' _ _ hk
      rw [cnt_aw] at hk
      exact absurd hk (by omega)
    · rintro r σ' nx' ⟨k, ⟨rfl, a1, a0, a2, a4, rfl⟩, _⟩
      refine K_run hB 60 ?_
      simp [go_sem, a0, a1, a2, a4, byt]
      rw [← hpost]
      simp [go_sem, a0, a1, a2, a4]
end Go.Proofs.Ytibmjinfdcmbdaa
