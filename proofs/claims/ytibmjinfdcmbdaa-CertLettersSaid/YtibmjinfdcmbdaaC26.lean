/- The laws CertLong (7) and CertOnce (5): what they give. -/
import Derived.Test.YtibmjinfdcmbdaaC25
set_option maxRecDepth 4000
namespace Go.Proofs.Ytibmjinfdcmbdaa
open Go Go.Proofs.Ytibmjinfdcmbdaa.R
abbrev Prf.small (p : Prf) : Prop := p.parts.length < 2 ^ 63 ∧ ∀ q ∈ p.parts, q.length < 2 ^ 63 ∧ ∀ l ∈ q, l.length < 2 ^ 63
theorem long_pure (p q : Prf) (hp : p.small) (hq : q.small) (fp : p.fit) (fq : q.fit) : Pure P 7 [p.a, q.a] (.b true) := by
  refine pure_of Try.func7 rfl rfl (by simp [Try.f7]) (by simp [bnd, bnd.bndL, Prf.a]) (by simp [bnd]) fun B hB hnx => ?_
  simp only [Try.f7] at hB ⊢
  refine K_run hB 60 ?_
  simp [go_sem, Prf.a]
  refine K_call rfl rfl rfl (args := []) (f := 9) (by simp [go_sem]) (by simp [go_sem, hB]) (awake_pure.spec _ _) ?_
  refine K_run hB 60 ?_
  simp [go_sem, Prf.a]
  refine K_call rfl rfl rfl (args := [p.a]) (f := 10) (by simp [go_sem, Prf.a]) (by simp [go_sem, hB]) ((few_pure p hp).spec _ _) ?_
  refine K_run hB 60 ?_
  simp [go_sem, Prf.a]
  refine K_call rfl rfl rfl (args := [q.a]) (f := 10) (by simp [go_sem, Prf.a]) (by simp [go_sem, hB]) ((few_pure q hq).spec _ _) ?_
  by_cases h1 : p.few = true
  rotate_left
  · have h1' : p.few = false := by simpa using h1
    refine K_run hB 60 ?_
    simp [go_sem, h1']
  by_cases h2 : q.few = true
  rotate_left
  · have h2' : q.few = false := by simpa using h2
    refine K_run hB 60 ?_
    simp [go_sem, h1, h2']
  obtain ⟨op, lp⟩ := few_ok h1 fp.num
  obtain ⟨oq, lq⟩ := few_ok h2 fq.num
  refine K_run hB 60 ?_
  simp [go_sem, h1, h2]
  refine K_call rfl rfl rfl (args := [p.a]) (f := 11) (by simp [go_sem, Prf.a]) (by simp [go_sem, hB]) ((encode_pure p op lp).spec _ _) ?_
  obtain ⟨x, hx, hx2⟩ : ∃ x : List Nat, (.tup (if p.err = 0 then [.t (.sl (byt p.enc)), .i 0] else [.t (.sl []), .i p.err]) : AV) = .tup [.t (.sl (byt x)), .i p.err] ∧ (p.err = 0 → x = p.enc) := by
    by_cases h : p.err = 0
    · exact ⟨p.enc, by rw [if_pos h, h], fun _ => rfl⟩
    · exact ⟨[], by rw [if_neg h]; rfl, fun e => absurd e h⟩
  obtain ⟨y, hy, hy2⟩ : ∃ x : List Nat, (.tup (if q.err = 0 then [.t (.sl (byt q.enc)), .i 0] else [.t (.sl []), .i q.err]) : AV) = .tup [.t (.sl (byt x)), .i q.err] ∧ (q.err = 0 → x = q.enc) := by
    by_cases h : q.err = 0
    · exact ⟨q.enc, by rw [if_pos h, h], fun _ => rfl⟩
    · exact ⟨[], by rw [if_neg h]; rfl, fun e => absurd e h⟩
  rw [hx]
  refine K_run hB 60 ?_
  simp [go_sem]
  refine K_call rfl rfl rfl (args := [q.a]) (f := 11) (by simp [go_sem, Prf.a]) (by simp [go_sem, hB]) ((encode_pure q oq lq).spec _ _) ?_
  rw [hy]
  refine K_run hB 60 ?_
  simp [go_sem]
  refine K_call rfl rfl rfl (args := [p.a, q.a]) (f := 14) (by simp [go_sem, Prf.a]) (by simp [go_sem, hB]) ((same_pure p q hp).spec _ _) ?_
  by_cases ep : p.err = 0
  rotate_left
  · refine K_run hB 60 ?_
    simp [go_sem, ep]
  by_cases eq : q.err = 0
  rotate_left
  · refine K_run hB 60 ?_
    simp [go_sem, ep, eq]
  have gp := good_of fp op ep
  have gq := good_of fq oq eq
  have key : (p.enc.map UInt8.ofNat = q.enc.map UInt8.ofNat) = (p.same q = true) := by
    rw [ofNat_inj p.enc_bytes q.enc_bytes, enc_inj gp gq, same_iff]
  rw [hx2 ep, hy2 eq]
  refine K_run hB 60 ?_
  simp [go_sem, ep, eq, unbytes_map]
  rw [Bool.eq_iff_iff, beq_iff_eq, key]
theorem once_pure (l : List Nat) (hl : l.length < 2 ^ 63) (h8 : Bytes l) : Pure P 5 [.t (.sl (byt l))] (.b true) := by
  refine pure_of Try.func5 rfl rfl (by simp [Try.f5]) (by simp [bnd, bnd.bndL]) (by simp [bnd]) fun B hB hnx => ?_
  simp only [Try.f5] at hB ⊢
  refine K_run hB 60 ?_
  simp [go_sem]
  refine K_call rfl rfl rfl (args := []) (f := 9) (by simp [go_sem]) (by simp [go_sem, hB]) (awake_pure.spec _ _) ?_
  by_cases h20 : (20000 : Int) < l.length
  · refine K_run hB 60 ?_
    simp [go_sem, byt_len, h20]
  refine K_run hB 60 ?_
  simp [go_sem, byt_len, h20]
  refine K_call rfl rfl rfl (args := [.t (.sl (byt l))]) (f := 13) (by simp [go_sem]) (by simp [go_sem, hB]) ((decode_pure l (by omega) h8).spec _ _) ?_
  by_cases he : (dec l).2 = 0
  rotate_left
  · rw [dec_none he]
    refine K_run hB 60 ?_
    simp [go_sem, he, Prf.a]
  obtain ⟨h1, h2⟩ := dec_once h8 he
  generalize (dec l).1 = p at *
  rw [he]
  have hm : mostLen = 4294967296 := rfl
  refine K_run hB 60 ?_
  simp [go_sem, Prf.a]
  refine K_call rfl rfl rfl (args := [p.a]) (f := 11) (by simp [go_sem, Prf.a]) (by simp [go_sem, hB]) ((encode_pure p (ok_good h2) (by rw [← h1]; omega)).spec _ _) ?_
  rw [if_pos (err_good h2), ← h1]
  refine K_run hB 60 ?_
  simp [go_sem, unbytes_map]
end Go.Proofs.Ytibmjinfdcmbdaa
