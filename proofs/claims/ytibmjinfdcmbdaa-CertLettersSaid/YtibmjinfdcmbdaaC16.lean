/- Proved here: CertEncodesSaid, the statement of the law CertEncodes: at every proof that the call may be given the law returns true. Conditions: none beyond those of the given statement itself. -/
import Derived.Test.YtibmjinfdcmbdaaC15
import Derived.Test.YtibmjinfdcmbdaaRows
import Derived.WalkKit
import Derived.ProofKit
import Derived.OpenShut
import Derived.Carry
set_option maxRecDepth 100000
set_option linter.unusedVariables false
namespace Go.Proofs.Ytibmjinfdcmbdaa
open Go.ChangeShapes Go.WideShapes Go.ChangeAt Go.RowKit Go.Proofs.Ytibmjinfdcmbdaa.R

/-- What the statement asks for, behind a call that left all that was old as it was. -/
theorem post_below {H : Type} {enc : TypeId × Value → H} {Q : Program} {f : Func} {s : ChangeSpec} {apart fresh handsOn again : Bool} {W W' : World} {args : Array Value} {v : Value} {ds gs : List (DataW H)} {before pa pv : List MemPlace}
    (hW : DataW.Whole enc Q f.params.toList s.vars apart W args.toList ds gs before) (hb : Below W.heap.size W W')
    (hres : ∀ (b : Nat) (sp : Nat → Bool) (hd : Bool), DataW.TrodAll enc Q W' b sp hd f.resultTypes.toList (v.resultList f.resultTypes.size) (s.fn H (ds ++ gs)).results [])
    (hargs : ∀ sp : Nat → Bool, (∀ p ∈ before, sp p.block = true) → DataW.TrodAll enc Q W' 0 sp true f.params.toList args.toList (s.fn H (ds ++ gs)).args pa)
    (hvars : ∀ sp : Nat → Bool, (∀ p ∈ before, sp p.block = true) → DataW.TrodVars enc Q W' sp s.vars (s.fn H (ds ++ gs)).vars pv)
    (hps : before = pa ++ pv)
    (hok : ∀ (j : Nat) (t : TypeId) (r : Value), f.resultTypes[j]? = some t → (v.resultList f.resultTypes.size)[j]? = some r → Value.okWide Q W' .any 0 t r) : s.post enc Q f apart fresh handsOn again W args v W' := by
  have hlt : ∀ p ∈ before, p.block < W.heap.size := fun p hp => hW.lt p hp
  have hold : ∀ p ∈ before, (fun b => decide (b < W.heap.size)) p.block = true := fun p hp => by simpa using hlt p hp
  refine ⟨ds, gs, before, [], pa, pv, hW, hres _ _ _, hargs _ hold, hvars _ hold, World.keptBut_mono (fun p hp => ⟨hp, ?_⟩) (hb.frame (· ∈ before)), fun _ => ?_⟩
  · rw [hps, List.mem_append] at hp
    exact Or.inr hp
  · obtain ⟨_, _, _, _, _, hz, hn⟩ := hW
    refine ⟨hok, _, _, ([] ++ pa) ++ pv, ⟨[] ++ pa, pv, trodAll_append (hargs _ (fun _ _ => rfl)) (hres _ _ _), hvars _ (fun _ _ => rfl), rfl, ?_, ?_⟩, ?_⟩
    · intro b off hp
      have hp' : MemPlace.cell b off ∈ before := by rw [hps]; simpa using hp
      rw [hb.frozen (p := ⟨b, off, none⟩) (hlt _ hp')]
      exact hz b off hp'
    · intro ha
      have := hn ha
      rw [hps] at this
      simpa using this
    · intro p hp _
      rw [hps]
      simpa using hp

theorem own : ownKnob Try.prog.godebug = none := by kernel_rfl
theorem lifted (os : Os) (started : os.Started) (H : Type) (enc : TypeId × Value → H) :
    ReturnsInHanded {} Try.checked os 3 .any (Rows.certEncodesSpec.pre6 enc Try.prog Try.f3 Rows.certEncodesRow.domain false) (Rows.certEncodesSpec.post enc Try.prog Try.f3 false true false false) := by
  refine returnsInHanded_of_change (C := Try.checked) own started (by kernel_rfl) Try.func3
    (ChangeSpec.witness6 (enc := enc) (C := Try.checked) false ⟨#[], #[.agg #[.int .i64 0, .slice none 0 0]], []⟩ 8 (by kernel_rfl) (by kernel_rfl) (by kernel_rfl) (by kernel_rfl)) ?_
  intro W base args ds gs before hval0 hW hcnd _
  have hval : ∀ (j : Nat) t v, Try.f3.params[j]? = some t → args[j]? = some v → Value.okWide Try.prog W .any base t v := hval0
  have hW' := hW
  obtain ⟨p, q, hA0, hV, rfl, hfz, hnd⟩ := hW
  have hA : DataW.TrodAll enc Try.prog W 0 (fun _ => true) true Try.f3.params.toList args.toList ds p := hA0
  have hpar : Try.f3.params = #[24] := rfl
  rw [hpar] at hA hval
  obtain ⟨v0, vs0, d0, ds0, p0, q0, hargs, rfl, rfl, h0, r0⟩ := trodAll_cons hA
  obtain ⟨rfl, rfl, rfl⟩ := trodAll_nil r0
  obtain rfl : args = #[v0] := by cases args; simp_all
  obtain ⟨rfl, rfl⟩ := trodVars_none hV
  have hv := hval 0 24 v0 rfl rfl
  have h24 := (tt_some tt24).1
  unfold Value.okWide at hv
  rw [h24] at hv
  obtain ⟨cs, rfl, _⟩ := hv
  have h0' := h0
  obtain ⟨fuel, ht⟩ := h0'
  obtain ⟨ts, g1, g2, g3⟩ := trod_rep fuel 10 24 _ _ _ ht (by kernel_rfl)
  obtain ⟨pr, rfl, e1, e2⟩ := has24 g1
  obtain ⟨_, _, hg, hc⟩ := encodes_all pr e1 e2
  have hsim : Sim ⟨old W, fun _ => none, fun _ => undef, 0⟩ noObj W := ⟨fun _ _ => rfl, fun _ => True.intro, fun _ _ _ hi => absurd rfl hi, fun _ _ hi => absurd rfl hi, fun b hb => hb⟩
  have hrep : RepA W ⟨old W, fun _ => none, fun _ => undef, 0⟩ pr.a (.agg cs) := .agg (by simpa [Value.cells] using g2) fun k a u ha hu => by
    have h2 : ([T.i pr.least, T.sl (pr.parts.map partT)].map AV.t)[k]? = some a := ha
    rw [List.getElem?_map] at h2
    obtain ⟨b, hb, rfl⟩ := Option.map_eq_some_iff.1 h2
    exact .t (g3 k b u hb (by simpa [Value.cells] using hu))
  have hcall := hc ⟨old W, fun _ => none, fun _ => undef, 0⟩ W [.agg cs] hsim rfl ⟨rfl, fun k a u ha hu => by
    cases k with
    | zero => simp at ha hu; subst ha; subst hu; exact hrep
    | succ k => simp at ha⟩
  refine hcall.mono ?_
  rintro e W' ⟨C', v, rfl, _, _, hr, st⟩
  obtain ⟨rfl, _⟩ := rep_v hr
  have hb : Below W.heap.size W W' := st.below (fun _ => rfl)
  have hlt : ∀ x ∈ p0, x.block < W.heap.size := fun x hx => hW'.lt x (by simpa using hx)
  refine ⟨_, rfl, post_below (pa := p0) (pv := []) hW' hb (fun _ _ _ => trodAll_mk1 (shut_bool (tt_some tt4).1 _)) (fun sp hsp => ?_) (fun _ _ => rfl) (by simp) (ok_one (by kernel_rfl) rfl (okWide_bool_mk (tt_some tt4).1 _))⟩
  exact trodAll_mk1 (WideElems.Trod_stays (by kernel_rfl) (by kernel_rfl) (of_decide_eq_true (by kernel_rfl)) h0 (fun x hx => hb.same (hlt x hx)) (fun x hx => hsp x (by simpa using hx)))

theorem certEncodes_proved : Rows.CertEncodesSaid :=
  OpenClaim.holds_of_wide 3 Try.f3 rfl rfl rfl rfl rfl rfl rfl ⟨rfl, rfl, rfl, rfl, rfl⟩ rfl rfl rfl rfl rfl (by kernel_rfl) Try.func3 (by kernel_rfl)
    (of_decide_eq_true (by kernel_rfl)) (by unfold Func.isWrapper; first | (rw [if_pos (by decide +kernel)]; kernel_rfl) | (rw [if_neg (by decide +kernel)]; exact ⟨rfl, rfl⟩))
    (fun os started H enc _ => lifted os started H enc)
end Go.Proofs.Ytibmjinfdcmbdaa
