/- The laws CertBack (4) and CertLetters (6): what they give. -/
import Derived.Test.YtibmjinfdcmbdaaC26
set_option maxRecDepth 4000
namespace Go.Proofs.Ytibmjinfdcmbdaa
open Go Go.Proofs.Ytibmjinfdcmbdaa.R
theorem back_pure (p : Prf) (cut : Int) (more : Nat) (hp : p.small) (fp : p.fit) (hm8 : more < 256) : Pure P 4 [p.a, .i cut, .t (.v (.int .u8 more))] (.b true) := by
  refine pure_of Try.func4 rfl rfl (by simp [Try.f4]) (by simp [bnd, bnd.bndL, Prf.a]) (by simp [bnd]) fun B hB hnx => ?_
  simp only [Try.f4] at hB ⊢
  refine K_run hB 60 ?_
  simp [go_sem, Prf.a]
  refine K_call rfl rfl rfl (args := []) (f := 9) (by simp [go_sem]) (by simp [go_sem, hB]) (awake_pure.spec _ _) ?_
  refine K_run hB 60 ?_
  simp [go_sem, Prf.a]
  refine K_call rfl rfl rfl (args := [p.a]) (f := 10) (by simp [go_sem, Prf.a]) (by simp [go_sem, hB]) ((few_pure p hp).spec _ _) ?_
  by_cases h1 : p.few = true
  rotate_left
  · have h1' : p.few = false := by simpa using h1
    refine K_run hB 60 ?_
    simp [go_sem, h1']
  obtain ⟨op, lp⟩ := few_ok h1 fp.num
  have hm : mostLen = 4294967296 := rfl
  refine K_run hB 60 ?_
  simp [go_sem, h1]
  refine K_call rfl rfl rfl (args := [p.a]) (f := 11) (by simp [go_sem, Prf.a]) (by simp [go_sem, hB]) ((encode_pure p op lp).spec _ _) ?_
  by_cases ep : p.err = 0
  rotate_left
  · rw [if_neg ep]
    refine K_run hB 60 ?_
    simp [go_sem, ep]
  have gp := good_of fp op ep
  rw [if_pos ep]
  refine K_run hB 60 ?_
  simp [go_sem]
  refine K_call rfl rfl rfl (args := [.t (.sl (byt p.enc))]) (f := 13) (by simp [go_sem]) (by simp [go_sem, hB]) ((decode_pure p.enc (by omega) p.enc_bytes).spec _ _) ?_
  rw [dec_enc gp]
  refine K_run hB 60 ?_
  simp [go_sem, Prf.a]
  refine K_call rfl rfl rfl (args := [p.a, p.a]) (f := 14) (by simp [go_sem, Prf.a]) (by simp [go_sem, hB]) ((same_pure p p hp).spec _ _) ?_
  rw [(same_iff p p).2 rfl]
  have hcap : p.enc.length ≤ mostLen := by omega
  have hcap1 : p.enc.length + 1 ≤ mostLen := by omega
  refine K_run hB 60 ?_
  simp [go_sem, byt_len, byt_ok, hcap, hcap1]
  refine K_imp (Imp.freeze (q := 3) (sz := 1) (es := byt (p.enc ++ [more])) (by simp [go_sem, byt_app, byt])) ?_
  refine K_imp (t := ⟨sl [(1, .i cut), (9, .t (.sl (byt p.enc))), (12, .i 0), (13, .b true), (51, .t (.sl (byt (p.enc ++ [more]))))], noObj, 4⟩) (Imp.of (by simp [go_sem, frz1]) (fun i => .inl rfl) rfl) ?_
  have hb1 : Bytes (p.enc ++ [more]) := fun c hc => by
    rcases List.mem_append.1 hc with hc | hc
    · exact p.enc_bytes c hc
    · rw [List.mem_singleton] at hc; omega
  refine K_call rfl rfl rfl (args := [.t (.sl (byt (p.enc ++ [more])))]) (f := 13) (by simp [go_sem]) (by simp [go_sem, hB]) ((decode_pure (p.enc ++ [more]) (by simp; omega) hb1).spec _ _) ?_
  rw [dec_more gp more]
  generalize (dec (p.enc ++ [more])).1 = p2
  by_cases hneg : cut < 0
  · refine K_run hB 100 ?_
    simp [go_sem, Prf.a, hneg]
  by_cases hge : (p.enc.length : Int) ≤ cut
  · refine K_run hB 100 ?_
    simp [go_sem, Prf.a, hneg, byt_len, hge]
  obtain ⟨c, rfl⟩ : ∃ c : Nat, cut = c := ⟨cut.toNat, by omega⟩
  have hc : c < p.enc.length := by omega
  have hcl : c ≤ p.enc.length := by omega
  refine K_run hB 100 ?_
  simp [go_sem, Prf.a, byt_len, byt_ok, hneg, hge, hc, hcl]
  refine K_call rfl rfl rfl (args := [.t (.sl (byt (p.enc.take c)))]) (f := 13) (by simp [go_sem, byt]) (by simp [go_sem, hB]) ((decode_pure (p.enc.take c) (by rw [List.length_take]; omega) (fun x hx => p.enc_bytes x (List.mem_of_mem_take hx))).spec _ _) ?_
  rw [dec_cut gp hc]
  generalize (dec (p.enc.take c)).1 = p3
  refine K_run hB 40 ?_
  simp [go_sem, Prf.a]
theorem byt_get (l : List Nat) (i : Nat) (h : i < (byt l).length) : (byt l)[i] = [.v (.int .u8 (l[i]'(by rwa [byt_len] at h) : Nat))] := by simp [byt]
theorem letters_pure (p : Prf) (at_ : Int) (x : Nat) (hp : p.small) (fp : p.fit) (hx8 : x < 256) : Pure P 6 [p.a, .i at_, .t (.v (.int .u8 x))] (.b true) := by
  refine pure_of Try.func6 rfl rfl (by simp [Try.f6]) (by simp [bnd, bnd.bndL, Prf.a]) (by simp [bnd]) fun B hB hnx => ?_
  simp only [Try.f6] at hB ⊢
  refine K_run hB 60 ?_
  simp [go_sem, Prf.a]
  refine K_call rfl rfl rfl (args := []) (f := 9) (by simp [go_sem]) (by simp [go_sem, hB]) (awake_pure.spec _ _) ?_
  refine K_run hB 60 ?_
  simp [go_sem, Prf.a]
  refine K_call rfl rfl rfl (args := [p.a]) (f := 10) (by simp [go_sem, Prf.a]) (by simp [go_sem, hB]) ((few_pure p hp).spec _ _) ?_
  by_cases h1 : p.few = true
  rotate_left
  · have h1' : p.few = false := by simpa using h1
    refine K_run hB 60 ?_
    simp [go_sem, h1']
  by_cases hneg : at_ < 0
  · refine K_run hB 60 ?_
    simp [go_sem, h1, hneg]
  by_cases hbig : 3 < at_
  · refine K_run hB 60 ?_
    simp [go_sem, h1, hneg, hbig]
  obtain ⟨op, lp⟩ := few_ok h1 fp.num
  have hm : mostLen = 4294967296 := rfl
  refine K_run hB 60 ?_
  simp [go_sem, h1, hneg, hbig]
  refine K_call rfl rfl rfl (args := [p.a]) (f := 11) (by simp [go_sem, Prf.a]) (by simp [go_sem, hB]) ((encode_pure p op lp).spec _ _) ?_
  by_cases ep : p.err = 0
  rotate_left
  · rw [if_neg ep]
    refine K_run hB 60 ?_
    simp [go_sem, ep]
  have gp := good_of fp op ep
  rw [if_pos ep]
  obtain ⟨r, hr⟩ : ∃ r, p.enc = 72 :: 76 :: 82 :: 49 :: r := ⟨encI [p.least] ++ encI [(p.parts.length : Int)] ++ p.parts.flatMap partEnc, by simp [Prf.enc]⟩
  have h4 : ¬ (p.enc.length : Int) < 4 := by rw [hr]; simp only [List.length_cons]; omega
  have hcap : p.enc.length ≤ mostLen := by omega
  obtain ⟨i, rfl⟩ : ∃ i : Nat, at_ = i := ⟨at_.toNat, by omega⟩
  have hi3 : i ≤ 3 := by omega
  have hil : i < p.enc.length := by omega
  refine K_run hB 100 ?_
  simp [go_sem, byt_len, byt_ok, hcap, h4, hil, byt_get, Nat.mod_one]
  refine K_imp (Imp.freeze (q := 1) (sz := 1) (es := byt (p.enc.set i x)) (by simp [go_sem, byt, List.map_set])) ?_
  refine K_imp (t := ⟨sl [(1, .i i), (2, .t (.v (.int .u8 x))), (9, .t (.sl (byt p.enc))), (11, .t (.sl (byt (p.enc.set i x)))), (53, .t (.sl (byt (p.enc.set i x))))], noObj, 2⟩) (Imp.of (by simp [go_sem, frz1]) (fun i => .inl rfl) rfl) ?_
  have hb1 : Bytes (p.enc.set i x) := fun c hc => by
    rcases List.mem_or_eq_of_mem_set hc with hc | rfl
    · exact p.enc_bytes c hc
    · exact hx8
  refine K_call rfl rfl rfl (args := [.t (.sl (byt (p.enc.set i x)))]) (f := 13) (by simp [go_sem]) (by simp [go_sem, hB]) ((decode_pure (p.enc.set i x) (by simp; omega) hb1).spec _ _) ?_
  by_cases hx : p.enc[i] = x
  · have e1 : p.enc.set i x = p.enc := by rw [← hx]; exact List.set_getElem_self hil
    rw [e1, dec_enc gp]
    refine K_run hB 100 ?_
    simp [go_sem, Prf.a, byt_len, byt_get, Nat.mod_one, hil, hx]
  · have e1 := dec_letter (p := p) (i := i) (x := x) hi3 (by rw [List.getElem?_eq_getElem hil]; simpa using hx)
    have hx' : ¬ x = p.enc[i] := fun e => hx e.symm
    rw [e1]
    generalize (dec (p.enc.set i x)).1 = p2
    refine K_run hB 100 ?_
    simp [go_sem, Prf.a, byt_len, byt_get, Nat.mod_one, hil, hx']
end Go.Proofs.Ytibmjinfdcmbdaa
