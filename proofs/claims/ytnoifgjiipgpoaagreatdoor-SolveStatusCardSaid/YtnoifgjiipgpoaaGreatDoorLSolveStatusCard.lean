/- Proved here: SolveStatusCardSaid, the tied card of the law SolveStatus: at all arguments that the call may be given the law returns true, and every argument reads as it did. Conditions: none beyond those of the given statement itself (the three tables of the library read as its text lays them: the card ties that; the proof does not look at them). -/
import Derived.Test.YtnoifgjiipgpoaaGreatDoorMJ
import Derived.Test.YtnoifgjiipgpoaaGreatDoorRows
import Derived.Test.YtnoifgjiipgpoaaGreatDoorCards
import Derived.Test.YtnoifgjiipgpoaaGreatDoorTie
set_option linter.all false
set_option maxHeartbeats 4000000
set_option maxRecDepth 100000
set_option linter.unusedVariables false
namespace Go.Proofs.YtnoifgjiipgpoaaGreatDoor
open Go Go.ChangeShapes Go.WideShapes Go.ChangeAt Go.RowKit Go.Proofs.YtnoifgjiipgpoaaGreatDoor.R
theorem solveStatus_lifted (os : Os) (started : os.Started) (H : Type) (enc : TypeId × Value → H) :
    ReturnsInHanded {} Tryz.checked os 4 .any (fun w args => (Rows.solveStatusSpec.pre enc Tryz.prog Tryz.f4 Rows.solveStatusRow.domain false w args ∧ laidMet Tryz.prog Rows.solveStatusRow.laid w) ∧ sizedMet enc Tryz.prog Tryz.f4 (OpenSpec.ofChange Rows.solveStatusSpec) false w args) (Rows.solveStatusSpec.post enc Tryz.prog Tryz.f4 false true false false) := by
  refine returnsInHanded_of_change_and (C := Tryz.checked) (X := fun w _ => laidMet Tryz.prog Rows.solveStatusRow.laid w) (fun _ _ _ hh h => h.of_heap hh) own0 started (by kernel_rfl) Tryz.func4
    (ChangeSpec.witness_at (enc := enc) (C := Tryz.checked) (os := os) (X := fun w _ => laidMet Tryz.prog Rows.solveStatusRow.laid w) false (laidW os) #[.slice none 0 0, .slice none 0 0] 8 rfl (by kernel_rfl) (by kernel_rfl) (by kernel_rfl) (by kernel_rfl) (by kernel_rfl) (laidMet_of_run' 8 (by kernel_rfl) (by kernel_rfl))) ?_
  intro W base args ds gs before hval0 hW hcnd _ _ _
  have hval : ∀ (j : Nat) t v, Tryz.f4.params[j]? = some t → args[j]? = some v → Value.okWide Tryz.prog W .any base t v := hval0
  have hW' := hW
  obtain ⟨p, q, hA0, hV, rfl, hfz, hnd⟩ := hW
  have hA : DataW.TrodAll enc Tryz.prog W 0 (fun _ => true) true Tryz.f4.params.toList args.toList ds p := hA0
  have hpar : Tryz.f4.params = #[22, 22] := rfl
  rw [hpar] at hA hval
  obtain ⟨v0, vs0, d0, ds0, p0, q0, hargs, rfl, rfl, h0, t0⟩ := trodAll_cons hA
  obtain ⟨v1, vs1, d1, ds1, p1, q1, rfl, rfl, rfl, h1, t1⟩ := trodAll_cons t0
  obtain ⟨rfl, rfl, rfl⟩ := trodAll_nil t1
  obtain rfl : args = #[v0, v1] := by cases args; simp_all
  obtain ⟨rfl, rfl⟩ := trodVars_none hV
  obtain ⟨b0, bl0, r0⟩ := arg_bytes h0 (hval 0 22 v0 rfl rfl)
  obtain ⟨b1, bl1, r1⟩ := arg_bytes h1 (hval 1 22 v1 rfl rfl)
  have hm : maxLen < 2 ^ 63 := by decide
  obtain ⟨_, _, hg, hc⟩ := lsstatus_pure b0 b1 (Nat.lt_of_le_of_lt bl0.1 (by decide)) bl0.2 (Nat.lt_of_le_of_lt bl1.1 (by decide)) bl1.2
  have hcall := hc (C0 W) W [v0, v1] (sim0 W) rfl (repL2 r0 r1)
  refine hcall.mono ?_
  rintro e W' ⟨C', v, rfl, _, _, hr, st⟩
  obtain ⟨rfl, _⟩ := rep_v hr
  have hb : Below W.heap.size W W' := st.below (fun _ => rfl)
  have hlt0 : ∀ x ∈ p0, x.block < W.heap.size := fun x hx => hW'.lt x (by simp [hx])
  have hlt1 : ∀ x ∈ p1, x.block < W.heap.size := fun x hx => hW'.lt x (by simp [hx])
  refine ⟨_, rfl, post_below (pa := p0 ++ (p1)) (pv := []) hW' hb (fun _ _ _ => trodAll_mk1 (shut_bool (tt_some tt4).1 _)) (fun sp hsp => ?_) (fun _ _ => rfl) (by simp) (ok_one (by kernel_rfl) rfl (okWide_bool_mk (tt_some tt4).1 _))⟩
  exact trodAll_mk2 (WideElems.Trod_stays (by kernel_rfl) (by kernel_rfl) (of_decide_eq_true (by kernel_rfl)) h0 (fun x hx => hb.same (hlt0 x hx)) (fun x hx => hsp x (by simp [hx])))
    (WideElems.Trod_stays (by kernel_rfl) (by kernel_rfl) (of_decide_eq_true (by kernel_rfl)) h1 (fun x hx => hb.same (hlt1 x hx)) (fun x hx => hsp x (by simp [hx])))
theorem solveStatus_jr : jRest Tryz.prog 4 Tryz.f4 Rows.solveStatusSpec Rows.solveStatusRow = true := by kernel_rfl
theorem solveStatus_ju : (Rows.solveStatusRow.unfollowed == Tryz.prog.unfollowed 4) = true := by kernel_rfl
theorem solveStatus_jc : (Rows.solveStatusRow.recurses == Tryz.prog.recurses 4) = true := by kernel_rfl
theorem solveStatus_jn : (Rows.solveStatusRow.named == Tryz.prog.varsNamed 4) = true := by kernel_rfl
theorem solveStatus_row : Rows.SolveStatusSaid :=
  OpenClaim.holds_of_wide 4 Tryz.f4 rfl rfl rfl rfl rfl rfl rfl ⟨rfl, rfl, rfl, rfl, rfl⟩ rfl rfl rfl rfl rfl (by kernel_rfl) Tryz.func4 (joined_of solveStatus_jr solveStatus_ju solveStatus_jc solveStatus_jn w_enter w_lift w_make)
    (of_decide_eq_true (by kernel_rfl)) (by unfold Func.isWrapper; first | (rw [if_pos (by decide +kernel)]; kernel_rfl) | (rw [if_neg (by decide +kernel)]; exact ⟨rfl, rfl⟩))
    (fun os started H enc _ => solveStatus_lifted os started H enc)
theorem solveStatus_proved : Rows.SolveStatusCardSaid :=
  Claim7.holds_tied_plain_at .later [] [.data, .data, .data] true _ _
    solveStatus_row (fun _ h => by cases h) (by kernel_rfl) (fun _ h => by cases h) solveStatus_row_tie rfl ⟨rfl, rfl⟩ (by kernel_rfl) rfl
    (fun f fn hf hfn => by
      obtain rfl : f = 4 := Option.some.inj ((show Tryz.prog.funcNamed "haulier/haulierlaw23.SolveStatus" = some 4 by kernel_rfl).symm.trans hf) |>.symm
      obtain rfl : fn = Tryz.f4 := (Option.some.inj (Tryz.func4.symm.trans hfn)).symm
      refine ⟨by kernel_rfl, fun j t ht => ?_⟩
      have hpar : Tryz.f4.params = #[22, 22] := rfl
      rw [hpar] at ht
      rcases j with _ | _ | j
      · obtain rfl : 22 = t := by simpa using ht
        exact (show Tryz.prog.wantsStandIn 22 = false by kernel_rfl)
      · obtain rfl : 22 = t := by simpa using ht
        exact (show Tryz.prog.wantsStandIn 22 = false by kernel_rfl)
      · simp at ht)
    (by kernel_rfl)
end Go.Proofs.YtnoifgjiipgpoaaGreatDoor
