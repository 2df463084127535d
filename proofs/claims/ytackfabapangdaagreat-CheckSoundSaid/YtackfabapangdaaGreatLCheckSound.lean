/- Proved here: CheckSoundSaid, the statement of the law CheckSound: at all arguments that the call may be given the law returns true, and every argument reads as it did. Conditions: none beyond those of the given statement itself. -/
import Derived.Test.YtackfabapangdaaGreatMH
import Derived.Test.YtackfabapangdaaGreatRows
set_option linter.all false
set_option maxHeartbeats 4000000
set_option maxRecDepth 100000
set_option linter.unusedVariables false
namespace Go.Proofs.YtackfabapangdaaGreat
open Go Go.ChangeShapes Go.WideShapes Go.ChangeAt Go.RowKit Go.Proofs.YtackfabapangdaaGreat.R
theorem checkSound_lifted (os : Os) (started : os.Started) (H : Type) (enc : TypeId × Value → H) :
    ReturnsInHanded {} Tryz.checked os 4 .any (Rows.checkSoundSpec.pre6 enc Tryz.prog Tryz.f4 Rows.checkSoundRow.domain false) (Rows.checkSoundSpec.post enc Tryz.prog Tryz.f4 false true false false) := by
  refine returnsInHanded_of_change (C := Tryz.checked) own0 started (by kernel_rfl) Tryz.func4
    (ChangeSpec.witness6 (enc := enc) (C := Tryz.checked) false ⟨#[], #[.slice none 0 0, .slice none 0 0, .slice none 0 0, .agg #[.slice none 0 0]], []⟩ 8 (by kernel_rfl) (by kernel_rfl) (by kernel_rfl) (by kernel_rfl)) ?_
  intro W base args ds gs before hval0 hW hcnd _
  have hval : ∀ (j : Nat) t v, Tryz.f4.params[j]? = some t → args[j]? = some v → Value.okWide Tryz.prog W .any base t v := hval0
  have hW' := hW
  obtain ⟨p, q, hA0, hV, rfl, hfz, hnd⟩ := hW
  have hA : DataW.TrodAll enc Tryz.prog W 0 (fun _ => true) true Tryz.f4.params.toList args.toList ds p := hA0
  have hpar : Tryz.f4.params = #[22, 22, 22, 31] := rfl
  rw [hpar] at hA hval
  obtain ⟨v0, vs0, d0, ds0, p0, q0, hargs, rfl, rfl, h0, t0⟩ := trodAll_cons hA
  obtain ⟨v1, vs1, d1, ds1, p1, q1, rfl, rfl, rfl, h1, t1⟩ := trodAll_cons t0
  obtain ⟨v2, vs2, d2, ds2, p2, q2, rfl, rfl, rfl, h2, t2⟩ := trodAll_cons t1
  obtain ⟨v3, vs3, d3, ds3, p3, q3, rfl, rfl, rfl, h3, t3⟩ := trodAll_cons t2
  obtain ⟨rfl, rfl, rfl⟩ := trodAll_nil t3
  obtain rfl : args = #[v0, v1, v2, v3] := by cases args; simp_all
  obtain ⟨rfl, rfl⟩ := trodVars_none hV
  obtain ⟨b0, bl0, r0⟩ := arg_bytes h0 (hval 0 22 v0 rfl rfl)
  obtain ⟨b1, bl1, r1⟩ := arg_bytes h1 (hval 1 22 v1 rfl rfl)
  obtain ⟨b2, bl2, r2⟩ := arg_bytes h2 (hval 2 22 v2 rfl rfl)
  obtain ⟨g3, gl3, gr3, r3⟩ := arg_plan h3 (hval 3 31 v3 rfl rfl)
  have hm : maxLen < 2 ^ 63 := by decide
  obtain ⟨_, _, hg, hc⟩ := lcsound_pure b0 b1 b2 g3 (Nat.lt_of_le_of_lt bl0.1 (by decide)) bl0.2 (Nat.lt_of_le_of_lt bl1.1 (by decide)) bl1.2 (Nat.lt_of_le_of_lt bl2.1 (by decide)) bl2.2 (by omega) (fun r hr => by have := gr3 r hr; omega)
  have hcall := hc (C0 W) W [v0, v1, v2, v3] (sim0 W) rfl (repL4 r0 r1 r2 r3)
  refine hcall.mono ?_
  rintro e W' ⟨C', v, rfl, _, _, hr, st⟩
  obtain ⟨rfl, _⟩ := rep_v hr
  have hb : Below W.heap.size W W' := st.below (fun _ => rfl)
  have hlt0 : ∀ x ∈ p0, x.block < W.heap.size := fun x hx => hW'.lt x (by simp [hx])
  have hlt1 : ∀ x ∈ p1, x.block < W.heap.size := fun x hx => hW'.lt x (by simp [hx])
  have hlt2 : ∀ x ∈ p2, x.block < W.heap.size := fun x hx => hW'.lt x (by simp [hx])
  have hlt3 : ∀ x ∈ p3, x.block < W.heap.size := fun x hx => hW'.lt x (by simp [hx])
  refine ⟨_, rfl, post_below (pa := p0 ++ (p1 ++ (p2 ++ (p3)))) (pv := []) hW' hb (fun _ _ _ => trodAll_mk1 (shut_bool (tt_some tt4).1 _)) (fun sp hsp => ?_) (fun _ _ => rfl) (by simp) (ok_one (by kernel_rfl) rfl (okWide_bool_mk (tt_some tt4).1 _))⟩
  exact trodAll_mk4 (WideElems.Trod_stays (by kernel_rfl) (by kernel_rfl) (of_decide_eq_true (by kernel_rfl)) h0 (fun x hx => hb.same (hlt0 x hx)) (fun x hx => hsp x (by simp [hx])))
    (WideElems.Trod_stays (by kernel_rfl) (by kernel_rfl) (of_decide_eq_true (by kernel_rfl)) h1 (fun x hx => hb.same (hlt1 x hx)) (fun x hx => hsp x (by simp [hx])))
    (WideElems.Trod_stays (by kernel_rfl) (by kernel_rfl) (of_decide_eq_true (by kernel_rfl)) h2 (fun x hx => hb.same (hlt2 x hx)) (fun x hx => hsp x (by simp [hx])))
    (WideElems.Trod_stays (by kernel_rfl) (by kernel_rfl) (of_decide_eq_true (by kernel_rfl)) h3 (fun x hx => hb.same (hlt3 x hx)) (fun x hx => hsp x (by simp [hx])))
theorem checkSound_jr : jRest Tryz.prog 4 Tryz.f4 Rows.checkSoundSpec Rows.checkSoundRow = true := by kernel_rfl
theorem checkSound_ju : (Rows.checkSoundRow.unfollowed == Tryz.prog.unfollowed 4) = true := by kernel_rfl
theorem checkSound_jc : (Rows.checkSoundRow.recurses == Tryz.prog.recurses 4) = true := by kernel_rfl
theorem checkSound_jn : (Rows.checkSoundRow.named == Tryz.prog.varsNamed 4) = true := by kernel_rfl
theorem checkSound_proved : Rows.CheckSoundSaid :=
  OpenClaim.holds_of_wide 4 Tryz.f4 rfl rfl rfl rfl rfl rfl rfl ⟨rfl, rfl, rfl, rfl, rfl⟩ rfl rfl rfl rfl rfl (by kernel_rfl) Tryz.func4 (joined_of checkSound_jr checkSound_ju checkSound_jc checkSound_jn w_enter w_lift w_make)
    (of_decide_eq_true (by kernel_rfl)) (by unfold Func.isWrapper; first | (rw [if_pos (by decide +kernel)]; kernel_rfl) | (rw [if_neg (by decide +kernel)]; exact ⟨rfl, rfl⟩))
    (fun os started H enc _ => checkSound_lifted os started H enc)
end Go.Proofs.YtackfabapangdaaGreat
