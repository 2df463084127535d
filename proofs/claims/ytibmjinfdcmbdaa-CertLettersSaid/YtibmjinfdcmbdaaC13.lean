/- A part of the proof: C13. -/
import Derived.Test.YtibmjinfdcmbdaaC12
set_option maxRecDepth 4000
namespace Go.Proofs.Ytibmjinfdcmbdaa
open Go Go.Proofs.Ytibmjinfdcmbdaa.R
/-- Less is said of slices: not that length is capacity. -/
def loosen : AV → AV
  | .fsl es => .t (.sl es)
  | .agg cs => .agg (loosenL cs)
  | a => a
  where
  loosenL : List AV → List AV
  | [] => []
  | c :: cs => loosen c :: loosenL cs
theorem loosenL_get : ∀ {cs : List AV} {k : Nat} {a : AV}, (loosen.loosenL cs)[k]? = some a → ∃ b, cs[k]? = some b ∧ a = loosen b
  | [], k, a, h => by simp [loosen.loosenL] at h
  | c :: cs, k, a, h => by
    cases k with
    | zero => simp [loosen.loosenL] at h; exact ⟨c, rfl, h.symm⟩
    | succ k =>
      simp only [loosen.loosenL, List.getElem?_cons_succ] at h
      obtain ⟨b, h1, h2⟩ := loosenL_get h
      exact ⟨b, by simpa using h1, h2⟩
theorem loosenL_length : ∀ (cs : List AV), (loosen.loosenL cs).length = cs.length
  | [] => rfl
  | c :: cs => by simp only [loosen.loosenL, List.length_cons, loosenL_length cs]
theorem loosen_rep {w : World} {C : Ctx} {x : AV} {v : Value} (h : RepA w C x v) : RepA w C (loosen x) v := by
  induction h with
  | agg hl _ ih =>
    simp only [loosen]
    refine .agg (by rw [loosenL_length]; exact hl) fun k a u ha hu => ?_
    obtain ⟨b, h1, rfl⟩ := loosenL_get ha
    exact ih k b u h1 hu
  | fsl h => exact .t h
  | t h => exact .t h
  | tup a b _ => exact .tup a b
  | ref a b => exact .ref a b
  | ptr a b => exact .ptr a b
  | rd a b c => exact .rd a b c
  | el a b c => exact .el a b c
  | mapr a b => exact .mapr a b
  | fn a b c d _ _ => exact .fn a b c d
  | any => exact .any
theorem CallSpec.loose {f : FuncId} {args : List AV} {σ : Nat → AObj} {nx : Nat} {r : AV} {σ' : Nat → AObj} {nx' : Nat} (h : CallSpec P f (args.map loosen) σ nx r σ' nx') : CallSpec P f args σ nx r σ' nx' := by
  refine ⟨h.1, fun C w vs h1 h2 h3 => h.2 C w vs h1 h2 ⟨by rw [List.length_map]; exact h3.1, fun k a u ha hu => ?_⟩⟩
  rw [List.getElem?_map] at ha
  obtain ⟨b, hb, rfl⟩ := Option.map_eq_some_iff.1 ha
  exact loosen_rep (h3.2 k b u hb hu)

theorem enc_aw : (Prf.mk 300 []).enc = [72, 76, 82, 49, 172, 2, 0] := by
  have e1 : un 300 = 300 := by decide
  have e2 : un 0 = 0 := by decide
  have e3 : enc 300 = [172, 2] := by rw [enc_ge (by omega), enc_lt (by omega)]
  have e4 : enc 0 = [0] := enc_lt (by omega)
  simp [Prf.enc, encI, e1, e2, e3, e4]
theorem err_aw : (Prf.mk 300 []).err = 0 := by simp [Prf.err, Prf.spots, err1]
theorem encode_aw : Pure P 11 [.agg [.i 300, .t (.sl [])]] (.tup [.t (.sl (byt [72, 76, 82, 49, 172, 2, 0])), .i 0]) := by
  have h := encode_pure ⟨300, []⟩ ⟨by simp, by simp, by simp, by simp⟩ (by rw [enc_aw]; simp [mostLen])
  rw [enc_aw, err_aw] at h
  exact h
theorem awake_pure : Pure P 9 [] (.b true) := by
  refine pure_of Try.func9 rfl rfl (by simp [Try.f9]) (by simp) (by simp [bnd]) fun B hB hnx => ?_
  simp only [Try.f9] at hB ⊢
  refine K_run hB 60 ?_
  simp [go_sem]
  refine K_call rfl rfl rfl (args := [.agg [.i 300, .fsl []]]) (f := 11) (by simp [go_sem]) (by simp [go_sem, hB]) (CallSpec.loose (encode_aw.spec _ _)) ?_
  refine K_run hB 60 ?_
  simp [go_sem]
  refine K_call rfl rfl rfl (args := [.t (.sl (byt [72, 76, 82, 49, 172, 2, 0]))]) (f := 13) (by simp [go_sem]) (by simp [go_sem, hB]) (decode_awake.spec _ _) ?_
  refine K_run hB 60 ?_
  simp [go_sem, byt, unbytes]
theorem unbytes_byt (l : List Nat) : ∃ b, unbytes (byt l) = some b := by
  induction l with
  | nil => exact ⟨[], rfl⟩
  | cons n l ih =>
    obtain ⟨b, hb⟩ := ih
    exact ⟨UInt8.ofNat n :: b, by
      show (unbytes (byt l)).map _ = _
      rw [hb]; rfl⟩
/-- CertEncodes: what the law gives at every proof. -/
theorem encodes_pure (p : Prf) (hlen : p.parts.length < 2 ^ 63 ∧ ∀ q ∈ p.parts, q.length < 2 ^ 63 ∧ ∀ l ∈ q, l.length < 2 ^ 63) (hn : p.few = true → p.ok ∧ p.enc.length + 1000 ≤ mostLen) : Pure P 3 [p.a] (.b true) := by
  refine pure_of Try.func3 rfl rfl (by simp [Try.f3]) (by simp [bnd, bnd.bndL, Prf.a]) (by simp [bnd]) fun B hB hnx => ?_
  simp only [Try.f3] at hB ⊢
  refine K_run hB 60 ?_
  simp [go_sem, Prf.a]
  refine K_call rfl rfl rfl (args := []) (f := 9) (by simp [go_sem]) (by simp [go_sem, hB]) (awake_pure.spec _ _) ?_
  refine K_run hB 60 ?_
  simp [go_sem, Prf.a]
  refine K_call rfl rfl rfl (args := [p.a]) (f := 10) (by simp [go_sem, Prf.a]) (by simp [go_sem, hB]) ((few_pure p hlen).spec _ _) ?_
  by_cases hf : p.few = true
  rotate_left
  · have hf' : p.few = false := by simpa using hf
    refine K_run hB 60 ?_
    simp [go_sem, hf']
  obtain ⟨h1, h2⟩ := hn hf
  refine K_run hB 60 ?_
  simp [go_sem, hf]
  refine K_call rfl rfl rfl (args := [p.a]) (f := 11) (by simp [go_sem, Prf.a]) (by simp [go_sem, hB]) ((encode_pure p h1 h2).spec _ _) ?_
  by_cases he : p.err = 0
  · rw [if_pos he]
    refine K_run hB 60 ?_
    simp [go_sem]
    refine K_call rfl rfl rfl (args := [p.a]) (f := 12) (by simp [go_sem, Prf.a]) (by simp [go_sem, hB]) ((ref_encode_pure p h1 h2).spec _ _) ?_
    rw [if_pos he]
    obtain ⟨b, hb⟩ := unbytes_byt p.enc
    refine K_run hB 60 ?_
    simp [go_sem, hb]
  · rw [if_neg he]
    refine K_run hB 60 ?_
    simp [go_sem]
    refine K_call rfl rfl rfl (args := [p.a]) (f := 12) (by simp [go_sem, Prf.a]) (by simp [go_sem, hB]) ((ref_encode_pure p h1 h2).spec _ _) ?_
    rw [if_neg he]
    refine K_run hB 60 ?_
    simp [go_sem, unbytes]
end Go.Proofs.Ytibmjinfdcmbdaa
