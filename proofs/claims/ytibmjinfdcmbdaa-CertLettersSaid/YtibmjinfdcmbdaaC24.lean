/- Decode (13), at any bytes. -/
import Derived.Test.YtibmjinfdcmbdaaC23
set_option maxRecDepth 4000
namespace Go.Proofs.Ytibmjinfdcmbdaa
open Go Go.Proofs.Ytibmjinfdcmbdaa.R
theorem dce0 : Utf8.decode ⟨#[72, 76, 82, 49]⟩ 0 = (72, 1) := by kernel_rfl
theorem dce1 : Utf8.decode ⟨#[72, 76, 82, 49]⟩ 1 = (76, 1) := by kernel_rfl
theorem dce2 : Utf8.decode ⟨#[72, 76, 82, 49]⟩ 2 = (82, 1) := by kernel_rfl
theorem dce3 : Utf8.decode ⟨#[72, 76, 82, 49]⟩ 3 = (49, 1) := by kernel_rfl
theorem bsze : (⟨#[72, 76, 82, 49]⟩ : ByteArray).size = 4 := rfl
attribute [local go_sem] dce0 dce1 dce2 dce3 bsze u8_72 u8_76 u8_82 u8_49
theorem letR_keep (x : Nat) : Keep (letR x) := fun l e h => ⟨(nxt_u8 h e).2, nxt_len l e⟩
theorem letR_fst (x : Nat) (l : List Nat) (e : Int) : (letR x l e).2.1 = (nxt l e).2.1 := rfl
theorem letR_ok {x : Nat} {l : List Nat} {e : Int} (h : (nxt l e).1 = x) : (letR x l e).2 = (nxt l e).2 := by
  simp only [letR, if_pos h]
theorem letR_no {x : Nat} {l : List Nat} {e : Int} (h : ¬ (nxt l e).1 = x) : (letR x l e).2 = ((nxt l e).2.1, failE (nxt l e).2.2 2) := by
  simp only [letR, if_neg h]
theorem decode_pure (l : List Nat) (hl : l.length < 2 ^ 62) (h8 : Bytes l) : Pure P 13 [.t (.sl (byt l))] (.tup [(dec l).1.a, .i (dec l).2]) := by
  refine pure_of Try.func13 rfl rfl (by simp [Try.f13]) (by simp [bnd]) (by simp [bnd, bnd.bndL, Prf.a]) fun B hB hnx => ?_
  simp only [Try.f13] at hB ⊢
  generalize hpost : (fun (e : Exit) (s : St) => (e = .ret ∨ e = .normal) ∧ ∃ rs, resL P s _ = some rs ∧ frz s.σ (resV rs) = _) = post
  have b1 := letR_keep 72 l 0 h8
  generalize ha1 : letR 72 l 0 = a1 at b1
  have b2 := letR_keep 76 _ a1.2.2 b1.1
  generalize ha2 : letR 76 a1.2.1 a1.2.2 = a2 at b2
  have b3 := letR_keep 82 _ a2.2.2 b2.1
  generalize ha3 : letR 82 a2.2.1 a2.2.2 = a3 at b3
  have b4 := letR_keep 49 _ a3.2.2 b3.1
  generalize ha4 : letR 49 a3.2.1 a3.2.2 = a4 at b4
  have b5 := plnI_keep _ a4.2.2 b4.1
  generalize ha5 : plnI a4.2.1 a4.2.2 = a5 at b5
  have b6 := rdPart_keep.each _ a5.2.2 b5.1
  generalize ha6 : eachR rdPart a5.2.1 a5.2.2 = a6 at b6
  have hall : rdAll l 0 = (⟨a5.1, a6.1⟩, a6.2) := by
    simp only [rdAll, rdAllT, lettersR, rdBodyT, pairR, ha1, ha2, ha3, ha4, ha5, ha6]
  refine K_run hB 60 ?_
  simp [go_sem]
  refine K_loopP (α := Nat) (fun k => k ≤ 4) (fun k => ⟨sl [(2, .ptr 0 0), (3, .i 0), (4, .ptr 2 0), (11, .ptr 3 0)], ob [(0, .box [.i 0, .fsl []]), (1, match k with | 0 => rdB l 0 | 1 => rdB a1.2.1 a1.2.2 | 2 => rdB a2.2.1 a2.2.2 | 3 => rdB a3.2.1 a3.2.2 | _ => rdB a4.2.1 a4.2.2), (2, .box [.ptr 1 0]), (3, .iter ⟨#[72, 76, 82, 49]⟩ k)], 4⟩) (fun k => 4 - k) 0 (Nat.zero_le _)
    (Sub.of (by omega) (by simp) (by simp [go_sem]) (by simp [go_sem])) ?_
  intro k hk
  rcases (by omega : k = 0 ∨ k = 1 ∨ k = 2 ∨ k = 3 ∨ k = 4) with rfl | rfl | rfl | rfl | rfl
  · have hlen : List.length l < 2 ^ 62 := by omega
    refine K_run hB 60 ?_
    simp [go_sem]
    refine K_call rfl rfl rfl (args := [.ptr 1 0]) (f := 26) (by simp [go_sem]) (by simp [go_sem, hB]) (next_spec (l := l) (e := 0) (by simp [go_sem]) hlen) ?_
    by_cases hc : (nxt l 0).1 = 72
    · have ho := letR_ok hc
      rw [ha1] at ho
      refine K_run hB 60 ?_
      simp [go_sem, hc]
      refine Next.mk 1 (by omega) (Sub.of (by omega) (by simp) (by simp [go_sem]) (by simp [go_sem, ho])) (by omega)
    · have ho := letR_no hc
      rw [ha1] at ho
      have hc' : ¬ ((nxt l 0).1 : Int) = 72 := by omega
      refine K_run hB 60 ?_
      simp [go_sem, hc, hc']
      refine K_call rfl rfl rfl (args := [.ptr 1 0, .i 2]) (f := 27) (by simp [go_sem]) (by simp [go_sem, hB]) (fail_spec (l := (nxt l 0).2.1) (e := (nxt l 0).2.2) (by simp [go_sem]) 2) ?_
      refine K_run hB 60 ?_
      simp [go_sem]
      refine Next.mk 1 (by omega) (Sub.of (by omega) (by simp) (by simp [go_sem]) (by simp [go_sem, ho])) (by omega)
  · have hlen : List.length a1.2.1 < 2 ^ 62 := by omega
    refine K_run hB 60 ?_
    simp [go_sem]
    refine K_call rfl rfl rfl (args := [.ptr 1 0]) (f := 26) (by simp [go_sem]) (by simp [go_sem, hB]) (next_spec (l := a1.2.1) (e := a1.2.2) (by simp [go_sem]) hlen) ?_
    by_cases hc : (nxt a1.2.1 a1.2.2).1 = 76
    · have ho := letR_ok hc
      rw [ha2] at ho
      refine K_run hB 60 ?_
      simp [go_sem, hc]
      refine Next.mk 2 (by omega) (Sub.of (by omega) (by simp) (by simp [go_sem]) (by simp [go_sem, ho])) (by omega)
    · have ho := letR_no hc
      rw [ha2] at ho
      have hc' : ¬ ((nxt a1.2.1 a1.2.2).1 : Int) = 76 := by omega
      refine K_run hB 60 ?_
      simp [go_sem, hc, hc']
      refine K_call rfl rfl rfl (args := [.ptr 1 0, .i 2]) (f := 27) (by simp [go_sem]) (by simp [go_sem, hB]) (fail_spec (l := (nxt a1.2.1 a1.2.2).2.1) (e := (nxt a1.2.1 a1.2.2).2.2) (by simp [go_sem]) 2) ?_
      refine K_run hB 60 ?_
      simp [go_sem]
      refine Next.mk 2 (by omega) (Sub.of (by omega) (by simp) (by simp [go_sem]) (by simp [go_sem, ho])) (by omega)
  · have hlen : List.length a2.2.1 < 2 ^ 62 := by omega
    refine K_run hB 60 ?_
    simp [go_sem]
    refine K_call rfl rfl rfl (args := [.ptr 1 0]) (f := 26) (by simp [go_sem]) (by simp [go_sem, hB]) (next_spec (l := a2.2.1) (e := a2.2.2) (by simp [go_sem]) hlen) ?_
    by_cases hc : (nxt a2.2.1 a2.2.2).1 = 82
    · have ho := letR_ok hc
      rw [ha3] at ho
      refine K_run hB 60 ?_
      simp [go_sem, hc]
      refine Next.mk 3 (by omega) (Sub.of (by omega) (by simp) (by simp [go_sem]) (by simp [go_sem, ho])) (by omega)
    · have ho := letR_no hc
      rw [ha3] at ho
      have hc' : ¬ ((nxt a2.2.1 a2.2.2).1 : Int) = 82 := by omega
      refine K_run hB 60 ?_
      simp [go_sem, hc, hc']
      refine K_call rfl rfl rfl (args := [.ptr 1 0, .i 2]) (f := 27) (by simp [go_sem]) (by simp [go_sem, hB]) (fail_spec (l := (nxt a2.2.1 a2.2.2).2.1) (e := (nxt a2.2.1 a2.2.2).2.2) (by simp [go_sem]) 2) ?_
      refine K_run hB 60 ?_
      simp [go_sem]
      refine Next.mk 3 (by omega) (Sub.of (by omega) (by simp) (by simp [go_sem]) (by simp [go_sem, ho])) (by omega)
  · have hlen : List.length a3.2.1 < 2 ^ 62 := by omega
    refine K_run hB 60 ?_
    simp [go_sem]
    refine K_call rfl rfl rfl (args := [.ptr 1 0]) (f := 26) (by simp [go_sem]) (by simp [go_sem, hB]) (next_spec (l := a3.2.1) (e := a3.2.2) (by simp [go_sem]) hlen) ?_
    by_cases hc : (nxt a3.2.1 a3.2.2).1 = 49
    · have ho := letR_ok hc
      rw [ha4] at ho
      refine K_run hB 60 ?_
      simp [go_sem, hc]
      refine Next.mk 4 (by omega) (Sub.of (by omega) (by simp) (by simp [go_sem]) (by simp [go_sem, ho])) (by omega)
    · have ho := letR_no hc
      rw [ha4] at ho
      have hc' : ¬ ((nxt a3.2.1 a3.2.2).1 : Int) = 49 := by omega
      refine K_run hB 60 ?_
      simp [go_sem, hc, hc']
      refine K_call rfl rfl rfl (args := [.ptr 1 0, .i 2]) (f := 27) (by simp [go_sem]) (by simp [go_sem, hB]) (fail_spec (l := (nxt a3.2.1 a3.2.2).2.1) (e := (nxt a3.2.1 a3.2.2).2.2) (by simp [go_sem]) 2) ?_
      refine K_run hB 60 ?_
      simp [go_sem]
      refine Next.mk 4 (by omega) (Sub.of (by omega) (by simp) (by simp [go_sem]) (by simp [go_sem, ho])) (by omega)
  · refine K_run hB 60 ?_
    simp [go_sem]
    refine K_call rfl rfl rfl (args := [.ptr 1 0]) (f := 28) (by simp [go_sem]) (by simp [go_sem, hB]) (plain_r (l := a4.2.1) (e := a4.2.2) (by simp [go_sem]) (by simp) (by omega) b4.1) ?_
    have e5 : (((pln a4.2.1 a4.2.2).1 : Nat) : Int) = a5.1 := by rw [← ha5]; rfl
    have e6 : (pln a4.2.1 a4.2.2).2 = a5.2 := by rw [← ha5]; rfl
    rw [e5, e6]
    refine K_run hB 60 ?_
    simp [go_sem]
    refine K_imp (Imp.ownB (b := 4) (off := 1) (sz := 1) (cs := [.i a5.1, .fsl []]) (by simp [go_sem]) rfl) ?_
    refine K_callQ rfl rfl rfl (args := [.ptr 1 0, .fn (.func 30) [] [.ptr 4 0, .ptr 2 0]]) (f := 29) (by simp [go_sem]) (by simp [go_sem, hB]) (each_rows rdPart partT (q := 1) (x := 4) (rr := 2) (pre := [.i a5.1]) (sz := 1) (j := 5) (l := a5.2.1) (e := a5.2.2)
      ⟨by simp [go_sem], by simp [go_sem], by simp [go_sem], by simp [go_sem], by simp, by simp, by simp, by simp⟩ (by omega) b5.1 (fun l' h => rdPart_keep l' 0 h) (fun σ' nx' j' l' rows R a b c d => body_step R a b c d)) ?_
    intro r σ' nx' F
    have hle : 6 ≤ nx' := F.le
    obtain ⟨j', R, hj⟩ := F.row
    replace hj : j' = 5 ∨ 6 ≤ j' := hj
    have c0 : σ' 0 = .box [.i 0, .fsl []] := (F.old 0 (by show 0 < 6; omega) (by omega) (by omega) (by omega)).trans (by simp [go_sem])
    rw [ha6] at R
    have c1 := R.fq
    have c4 := R.fx
    have c2 := R.fr
    have cj := R.fj
    rw [List.singleton_append] at c4
    have hj0 : j' ≠ 0 := by omega
    have hj1 : j' ≠ 1 := by omega
    clear F R
    by_cases hL : a6.2.1 = []
    · have hE : decE l = a6.2.2 := by rw [decE, hall]; simp [hL]
      by_cases he : a6.2.2 = 0
      · have hd : dec l = (⟨a5.1, a6.1⟩, 0) := by rw [dec, hE, if_pos he, hall]
        refine K_run hB 80 ?_
        simp [go_sem, c0, c1, c2, c4, hL, he, byt]
        rw [← hpost]
        simp [go_sem, c0, c1, c2, c4, cj, hd, Prf.a, hj0]
      · have hd : dec l = (⟨0, []⟩, a6.2.2) := by rw [dec, hE, if_neg he]
        refine K_run hB 80 ?_
        simp [go_sem, c0, c1, c2, c4, hL, he, byt]
        refine K_drawn [5] rfl (by rw [hB]; kernel_rfl) ?_
        refine K_dPure rfl (v := .agg [.i 0, .fsl []]) (by simp [go_sem]) ?_
        refine K_dFloat rfl (v := .ptr 1 0) (by simp [go_sem, c2]) (by decide) ?_
        refine K_dPure rfl (v := .ptr 1 0) (by simp [go_sem]) ?_
        refine K_dPure rfl (v := .ptr 1 1) (by simp [go_sem]) ?_
        refine K_dFloat rfl (v := .i a6.2.2) (by simp [go_sem, c1]) (by decide) ?_
        refine K_dLoud (v := .tup []) (e := .set 0 (.box [.i 0, .fsl []])) rfl (by simp [go_sem, c0]) (by decide) ?_ ?_
        · intro p hp
          simp only [List.mem_cons, List.not_mem_nil, or_false] at hp
          rcases hp with rfl | rfl
          · exact .inr (does_store (e := .none) rfl rfl (by simp [go_sem, c1]))
          · exact .inr (does_store (e := .none) rfl rfl (by simp [go_sem, c2]))
        refine K_dPure rfl (v := .i a6.2.2) (by simp [go_sem]) ?_
        refine K_dNil ?_
        refine K_run hB 10 ?_
        simp [go_sem]
        rw [← hpost]
        simp [go_sem, hd, Prf.a]
    · have hE : decE l = failE a6.2.2 2 := by rw [decE, hall]; simp [hL]
      have he : failE a6.2.2 2 ≠ 0 := failE_ne _ _ (by decide)
      have hd : dec l = (⟨0, []⟩, failE a6.2.2 2) := by rw [dec, hE, if_neg he]
      have hpos : 0 < a6.2.1.length := List.length_pos_iff.2 hL
      refine K_run hB 80 ?_
      simp [go_sem, c0, c1, c2, c4, byt_len, hpos]
      refine K_call rfl rfl rfl (args := [.ptr 1 0, .i 2]) (f := 27) (by simp [go_sem]) (by simp [go_sem, hB]) (fail_spec (l := a6.2.1) (e := a6.2.2) c1 2) ?_
      refine K_run hB 80 ?_
      simp [go_sem, c0, c1, c2, c4, he]
      refine K_drawn [5] rfl (by rw [hB]; kernel_rfl) ?_
      refine K_dPure rfl (v := .agg [.i 0, .fsl []]) (by simp [go_sem]) ?_
      refine K_dFloat rfl (v := .ptr 1 0) (by simp [go_sem, c2]) (by decide) ?_
      refine K_dPure rfl (v := .ptr 1 0) (by simp [go_sem]) ?_
      refine K_dPure rfl (v := .ptr 1 1) (by simp [go_sem]) ?_
      refine K_dFloat rfl (v := .i (failE a6.2.2 2)) (by simp [go_sem, c1]) (by decide) ?_
      refine K_dLoud (v := .tup []) (e := .set 0 (.box [.i 0, .fsl []])) rfl (by simp [go_sem, c0]) (by decide) ?_ ?_
      · intro p hp
        simp only [List.mem_cons, List.not_mem_nil, or_false] at hp
        rcases hp with rfl | rfl
        · exact .inr (does_store (e := .none) rfl rfl (by simp [go_sem, c1]))
        · exact .inr (does_store (e := .none) rfl rfl (by simp [go_sem, c2]))
      refine K_dPure rfl (v := .i (failE a6.2.2 2)) (by simp [go_sem]) ?_
      refine K_dNil ?_
      refine K_run hB 10 ?_
      simp [go_sem]
      rw [← hpost]
      simp [go_sem, hd, Prf.a]
end Go.Proofs.Ytibmjinfdcmbdaa
