/- Proved here: CheckPartsSaid, the statement of the law CheckParts: at all arguments that the call may be given the law returns true, and every argument reads as it did. Conditions: none beyond those of the given statement itself. -/
import Derived.Test.YtackfabapangdaaGreatMH
import Derived.Test.YtackfabapangdaaGreatRows
set_option linter.all false
set_option maxHeartbeats 4000000
set_option maxRecDepth 100000
set_option linter.unusedVariables false
namespace Go.Proofs.YtackfabapangdaaGreat
open Go Go.ChangeShapes Go.WideShapes Go.ChangeAt Go.RowKit Go.Proofs.YtackfabapangdaaGreat.R
theorem checkParts_lifted (os : Os) (started : os.Started) (H : Type) (enc : TypeId × Value → H) :
    ReturnsInHanded {} Tryz.checked os 5 .any (Rows.checkPartsSpec.pre6 enc Tryz.prog Tryz.f5 Rows.checkPartsRow.domain false) (Rows.checkPartsSpec.post enc Tryz.prog Tryz.f5 false true false false) := by
  refine returnsInHanded_of_change (C := Tryz.checked) own0 started (by kernel_rfl) Tryz.func5
    (ChangeSpec.witness6 (enc := enc) (C := Tryz.checked) false ⟨#[], #[.slice none 0 0, .slice none 0 0, .slice none 0 0], []⟩ 8 (by kernel_rfl) (by kernel_rfl) (by kernel_rfl) (by kernel_rfl)) ?_
  intro W base args ds gs before hval0 hW hcnd _
  have hval : ∀ (j : Nat) t v, Tryz.f5.params[j]? = some t → args[j]? = some v → Value.okWide Tryz.prog W .any base t v := hval0
  have hW' := hW
  obtain ⟨p, q, hA0, hV, rfl, hfz, hnd⟩ := hW
  have hA : DataW.TrodAll enc Tryz.prog W 0 (fun _ => true) true Tryz.f5.params.toList args.toList ds p := hA0
  have hpar : Tryz.f5.params = #[22, 22, 22] := rfl
  rw [hpar] at hA hval
  obtain ⟨v0, vs0, d0, ds0, p0, q0, hargs, rfl, rfl, h0, t0⟩ := trodAll_cons hA
  obtain ⟨v1, vs1, d1, ds1, p1, q1, rfl, rfl, rfl, h1, t1⟩ := trodAll_cons t0
  obtain ⟨v2, vs2, d2, ds2, p2, q2, rfl, rfl, rfl, h2, t2⟩ := trodAll_cons t1
  obtain ⟨rfl, rfl, rfl⟩ := trodAll_nil t2
  obtain rfl : args = #[v0, v1, v2] := by cases args; simp_all
  obtain ⟨rfl, rfl⟩ := trodVars_none hV
  obtain ⟨b0, bl0, r0⟩ := arg_bytes h0 (hval 0 22 v0 rfl rfl)
  obtain ⟨b1, bl1, r1⟩ := arg_bytes h1 (hval 1 22 v1 rfl rfl)
  obtain ⟨b2, bl2, r2⟩ := arg_bytes h2 (hval 2 22 v2 rfl rfl)
  have hm : maxLen < 2 ^ 63 := by decide
  obtain ⟨_, _, hg, hc⟩ := lcparts_pure b0 b1 b2 (Nat.lt_of_le_of_lt bl0.1 (by decide)) bl0.2 (Nat.lt_of_le_of_lt bl1.1 (by decide)) bl1.2 (Nat.lt_of_le_of_lt bl2.1 (by decide)) bl2.2
  have hcall := hc (C0 W) W [v0, v1, v2] (sim0 W) rfl (repL3 r0 r1 r2)
  refine hcall.mono ?_
  rintro e W' ⟨C', v, rfl, _, _, hr, st⟩
  obtain ⟨rfl, _⟩ := rep_v hr
  have hb : Below W.heap.size W W' := st.below (fun _ => rfl)
  have hlt0 : ∀ x ∈ p0, x.block < W.heap.size := fun x hx => hW'.lt x (by simp [hx])
  have hlt1 : ∀ x ∈ p1, x.block < W.heap.size := fun x hx => hW'.lt x (by simp [hx])
  have hlt2 : ∀ x ∈ p2, x.block < W.heap.size := fun x hx => hW'.lt x (by simp [hx])
  refine ⟨_, rfl, post_below (pa := p0 ++ (p1 ++ (p2))) (pv := []) hW' hb (fun _ _ _ => trodAll_mk1 (shut_bool (tt_some tt4).1 _)) (fun sp hsp => ?_) (fun _ _ => rfl) (by simp) (ok_one (by kernel_rfl) rfl (okWide_bool_mk (tt_some tt4).1 _))⟩
  exact trodAll_mk3 (WideElems.Trod_stays (by kernel_rfl) (by kernel_rfl) (of_decide_eq_true (by kernel_rfl)) h0 (fun x hx => hb.same (hlt0 x hx)) (fun x hx => hsp x (by simp [hx])))
    (WideElems.Trod_stays (by kernel_rfl) (by kernel_rfl) (of_decide_eq_true (by kernel_rfl)) h1 (fun x hx => hb.same (hlt1 x hx)) (fun x hx => hsp x (by simp [hx])))
    (WideElems.Trod_stays (by kernel_rfl) (by kernel_rfl) (of_decide_eq_true (by kernel_rfl)) h2 (fun x hx => hb.same (hlt2 x hx)) (fun x hx => hsp x (by simp [hx])))
theorem checkParts_jr : jRest Tryz.prog 5 Tryz.f5 Rows.checkPartsSpec Rows.checkPartsRow = true := by kernel_rfl
theorem checkParts_ju : (Rows.checkPartsRow.unfollowed == Tryz.prog.unfollowed 5) = true := by kernel_rfl
theorem checkParts_jc : (Rows.checkPartsRow.recurses == Tryz.prog.recurses 5) = true := by kernel_rfl
theorem checkParts_jn : (Rows.checkPartsRow.named == Tryz.prog.varsNamed 5) = true := by kernel_rfl
theorem checkParts_proved : Rows.CheckPartsSaid :=
  OpenClaim.holds_of_wide 5 Tryz.f5 rfl rfl rfl rfl rfl rfl rfl ⟨rfl, rfl, rfl, rfl, rfl⟩ rfl rfl rfl rfl rfl (by kernel_rfl) Tryz.func5 (joined_of checkParts_jr checkParts_ju checkParts_jc checkParts_jn w_enter w_lift w_make)
    (of_decide_eq_true (by kernel_rfl)) (by unfold Func.isWrapper; first | (rw [if_pos (by decide +kernel)]; kernel_rfl) | (rw [if_neg (by decide +kernel)]; exact ⟨rfl, rfl⟩))
    (fun os started H enc _ => checkParts_lifted os started H enc)
end Go.Proofs.YtackfabapangdaaGreat
