/- Parts of the proof: StateR, StateR2, StateR3, FollowR, Awake, Moves. -/
import Derived.Test.YtdfldfkgkooaeaaME
set_option linter.unusedVariables false
/- The document's states. -/
set_option maxRecDepth 4000
namespace Go.Proofs.Ytdfldfkgkooaeaa
open Go Go.Proofs.Ytdfldfkgkooaeaa.R
theorem rmay10_pure (x : Inst) (s : State) (hl : x.stops.length < 2 ^ 63) : Pure P 54 [x.a, s.a] (.b (x.may && s.mayB x)) := by
  generalize hR : s.mayB x = R
  refine pure_of Try.func54 rfl rfl (by simp [Try.f54]) (by simp [bnd, bnd.bndL, Inst.a, State.a, State.cs]) (by simp [bnd, bnd.bndL]) fun B hB hnx => ?_
  simp only [Try.f54] at hB ⊢
  rw [State.mayB] at hR
  refine K_run hB 100 ?_
  simp [go_sem, Inst.a, State.a, State.cs]
  refine K_call rfl rfl rfl (args := [x.a]) (f := 60) (by simp [go_sem, Inst.a]) (by simp [go_sem, hB]) ((rmay_pure x hl).spec _ _) ?_
  cases hm : x.may with
  | false =>
    refine K_run hB 100 ?_
    simp [go_sem]
  | true =>
    obtain ⟨p, hx⟩ := x.fit hm
    have hf := hx.few
    have w1 := w64 (2 * x.pairs) (by rw [hx.pairs]; omega)
    refine K_run hB 100 ?_
    simp [go_sem]
    refine atVal_decT (fun h1 => ?_) (fun h1 => by simp [go_sem, h1, w1, ← hR])
    simp [go_sem, h1, w1]
    refine atVal_decT (fun h2 => ?_) (fun h2 => by simp [go_sem, h2, w1, ← hR])
    simp [go_sem, h2, w1]
    refine atVal_decT (fun h3 => ?_) (fun h3 => by simp [go_sem, h3, w1, ← hR])
    simp [go_sem, h3, w1]
    refine atVal_decT (fun h4 => ?_) (fun h4 => by simp [go_sem, h4, w1, ← hR])
    simp [go_sem, h4, w1]
    refine atVal_decT (fun h5 => ?_) (fun h5 => by simp [go_sem, h5, w1, ← hR])
    simp [go_sem, h5, w1]
    refine atVal_decT (fun h6 => ?_) (fun h6 => by simp [go_sem, h6, w1, ← hR])
    simp [go_sem, h6, w1]
    refine atVal_decT (fun h7 => ?_) (fun h7 => by simp [go_sem, h7, w1, ← hR])
    simp [go_sem, h7, w1]
    simp [← hR, h1, h2, h3, h4, h5, h6, h7]
theorem rhome_pure (x : Inst) (s : State) {p : Nat} (hx : x.Fit p) (hs : s.Fit x p) (ho : s.ok) : Pure P 56 [x.a, s.a, .i (far (x.stop s.spot) (x.stop 0))] (mv ((x.home s).1, (if (x.home s).2 = true then far (x.stop s.spot) (x.stop 0) else 0), (x.home s).2)) := by
  generalize hR : x.home s = R
  refine pure_of Try.func56 rfl rfl (by simp [Try.f56]) (by simp [bnd, bnd.bndL, Inst.a, State.a, State.cs]) (by simp [bnd, bnd.bndL, mv, State.a, State.cs]) fun B hB hnx => ?_
  simp only [Try.f56] at hB ⊢
  have g2 : (0 : Int) < x.stops.length := hx.lt (j := 0) (by omega)
  have g3 : 0 < x.stops.length := by omega
  have g4 := hx.get0
  have hf := hx.at (j := 0) (by omega) (by omega)
  have hfi := far_in' (x.stop s.spot) (x.stop 0)
  rw [Inst.home, Inst.stayB, Inst.homeS] at hR
  generalize far (x.stop s.spot) (x.stop 0) = d at *
  generalize x.stop 0 = a at *
  have w1 := w64 (s.time + d) (by have := hs.time; omega)
  have w2 := w64 (s.car + 1) (by have := hs.car; have := hx.cars; omega)
  refine K_run hB 100 ?_
  simp [go_sem, Inst.a, State.a, State.cs]
  refine K_call rfl rfl rfl (args := [x.a, .u s.must]) (f := 61) (by simp [go_sem, Inst.a]) (by simp [go_sem, hB]) ((rall_pure x s.must ho.must hx).spec _ _) ?_
  by_cases c1 : s.spot = 0
  · have : R = (s, false) := by rw [← hR, if_pos (by simp [c1])]
    subst this
    refine K_run hB 100 ?_
    simp [go_sem, c1]
    refine K_drawn [] rfl (by rw [hB]; kernel_rfl) ?_
    refine K_run hB 100 ?_
    simp [go_sem, c1, mv, State.a, State.cs]
  by_cases c2 : s.on = 0
  rotate_left
  · have : R = (s, false) := by rw [← hR, if_pos (by simp [c2])]
    subst this
    refine K_run hB 100 ?_
    simp [go_sem, c1, c2]
    refine K_drawn [] rfl (by rw [hB]; kernel_rfl) ?_
    refine K_run hB 100 ?_
    simp [go_sem, c1, c2, mv, State.a, State.cs]
  by_cases c3 : x.cars ≤ s.car
  · have : R = (s, false) := by rw [← hR, if_pos (by simp [c3])]
    subst this
    refine K_run hB 100 ?_
    simp [go_sem, c1, c2, c3]
    refine K_drawn [] rfl (by rw [hB]; kernel_rfl) ?_
    refine K_run hB 100 ?_
    simp [go_sem, c1, c2, c3, mv, State.a, State.cs]
  cases c4 : x.allB s.must with
  | true =>
    have : R = (s, false) := by rw [← hR, if_pos (by simp [c4])]
    subst this
    refine K_run hB 100 ?_
    simp [go_sem, c1, c2, c3]
    refine K_drawn [] rfl (by rw [hB]; kernel_rfl) ?_
    refine K_run hB 100 ?_
    simp [go_sem, c1, c2, c3, mv, State.a, State.cs]
  | false =>
    by_cases c5 : a.due < s.time + d
    · have : R = (s, false) := by rw [← hR, if_pos (by simp [c5])]
      subst this
      refine K_run hB 100 ?_
      simp [go_sem, c1, c2, c3]
      refine K_drawn [] rfl (by rw [hB]; kernel_rfl) ?_
      refine K_run hB 100 ?_
      simp [go_sem, c1, c2, c3, c5, w1, g2, g3, g4, Stop.t, mv, State.a, State.cs]
    · rw [if_neg (by simp [c1, c2, c3, c4, c5])] at hR
      refine K_run hB 100 ?_
      simp [go_sem, c1, c2, c3]
      refine K_drawn [] rfl (by rw [hB]; kernel_rfl) ?_
      refine K_run hB 100 ?_
      simp [go_sem, c1, c2, c3, c5, w1, w2, g2, g3, g4, Stop.t, ← hR, mv, State.a, State.cs]
def Inst.rvisit (x : Inst) (s : State) (j b : Int) : State :=
  { spot := j, car := s.car, time := b + (x.stop j).service, load := max (s.load + (x.stop j).demand) 0, first := if s.spot = 0 then j else s.first, must := withN s.must j, can := withN s.can j, on := if j ≤ x.pairs then withN s.on j else withoutN s.on (j - x.pairs) }
theorem rvisit_pure (x : Inst) (s : State) (j b : Int) {p : Nat} (hx : x.Fit p) (hs : s.Fit x p) (ho : s.ok) (h2 : 0 ≤ j) (h3 : j ≤ 2 * p) (hb : 0 ≤ b ∧ b ≤ 1048576) : Pure P 57 [x.a, s.a, .i j, .i b] ((x.rvisit s j b).a) := by
  generalize hR : x.rvisit s j b = R
  refine pure_of Try.func57 rfl rfl (by simp [Try.f57]) (by simp [bnd, bnd.bndL, Inst.a, State.a, State.cs]) (by simp [bnd, bnd.bndL, State.a, State.cs]) fun B hB hnx => ?_
  simp only [Try.f57] at hB ⊢
  have g2 := hx.lt h3
  have g4 := hx.get h3
  have hf := hx.at h2 h3
  have hp := hx.pairs
  have hfew := hx.few
  rw [Inst.rvisit] at hR
  generalize x.stop j = a at *
  have w1 := w64 (b + a.service) (by have := hf.service; omega)
  have w2 := w64 (s.load + a.demand) (by have := hf.demand; have := hs.load; omega)
  have w3 := w64 (j - x.pairs) (by omega)
  refine K_run hB 100 ?_
  simp [go_sem, Inst.a, State.a, State.cs, h2, g2, g4, Stop.t, w1]
  refine K_drawnT [10] rfl (by rw [hB]; kernel_rfl) (by kernel_rfl) fun ht => ?_
  have hmax : (if s.load + a.demand < 0 then 0 else s.load + a.demand) = max (s.load + a.demand) 0 := by omega
  by_cases c1 : s.load + a.demand < 0
  all_goals
    by_cases c2 : s.spot = 0
    all_goals
      refine K_run hB 100 ?_
      simp [go_sem, ht, h2, g2, g4, Stop.t, w2, c1, c2]
      refine K_call rfl rfl rfl (args := [.u s.must, .i j]) (f := 33) (by simp [go_sem]) (by simp [go_sem, hB]) ((rwith_pure s.must j ho.must).spec _ _) ?_
      refine K_run hB 100 ?_
      simp [go_sem]
      refine K_call rfl rfl rfl (args := [.u s.can, .i j]) (f := 33) (by simp [go_sem]) (by simp [go_sem, hB]) ((rwith_pure s.can j ho.can).spec _ _) ?_
      by_cases c3 : j ≤ x.pairs
      · refine K_run hB 100 ?_
        simp [go_sem, c3]
        refine K_call rfl rfl rfl (args := [.u s.on, .i j]) (f := 33) (by simp [go_sem]) (by simp [go_sem, hB]) ((rwith_pure s.on j ho.on).spec _ _) ?_
        rw [if_pos c3] at hR
        first | rw [if_pos c1] at hmax | rw [if_neg c1] at hmax
        refine K_run hB 100 ?_
        simp [go_sem, ← hR, c2, ← hmax]
      · refine K_run hB 100 ?_
        simp [go_sem, c3, w3]
        refine K_call rfl rfl rfl (args := [.u s.on, .i (j - x.pairs)]) (f := 34) (by simp [go_sem]) (by simp [go_sem, hB]) ((rwithout_pure s.on (j - x.pairs) ho.on).spec _ _) ?_
        rw [if_neg c3] at hR
        first | rw [if_pos c1] at hmax | rw [if_neg c1] at hmax
        refine K_run hB 100 ?_
        simp [go_sem, ← hR, c2, ← hmax]
end Go.Proofs.Ytdfldfkgkooaeaa

/- The document's moves. -/
set_option maxRecDepth 4000
namespace Go.Proofs.Ytdfldfkgkooaeaa
open Go Go.Proofs.Ytdfldfkgkooaeaa.R
theorem move_no {x : Inst} {s : State} {j : Int} (h : ¬ (x.may = true ∧ s.mayB x = true ∧ 0 ≤ j ∧ j ≤ 2 * x.pairs)) : x.move s j = (s, 0, false) := by
  unfold Inst.move
  split
  · rename_i c
    unfold Inst.step
    rw [if_pos]
    have : ¬ (0 ≤ j ∧ j ≤ 2 * x.pairs) := fun e => h ⟨c.1, c.2, e.1, e.2⟩
    omega
  · rfl
theorem move_in {x : Inst} {s : State} {j : Int} (h1 : x.may = true) (h2 : s.mayB x = true) (h3 : 0 ≤ j) (h4 : j ≤ 2 * x.pairs) : x.move s j = if (x.to s j).2 = true then ((x.to s j).1, far (x.stop s.spot) (x.stop j), true) else (s, 0, false) := by
  unfold Inst.move Inst.step
  rw [if_pos ⟨h1, h2⟩, if_neg (by omega)]
theorem home_fst (x : Inst) (s : State) (h : (x.home s).2 = false) : (x.home s).1 = s := by
  unfold Inst.home at h ⊢
  split
  · rfl
  · rename_i c
    rw [if_neg c] at h
    cases h
theorem to_visit {x : Inst} {s : State} {j : Int} (h0 : j ≠ 0) (hl : x.lateB s j = false) (hf : j ≤ x.pairs → x.fullB s j = false) (he : x.pairs < j → x.emptyB s j = false) : x.to s j = (x.rvisit s j (x.begins s j), true) := by
  unfold Inst.to
  rw [if_neg h0]
  by_cases c : j ≤ x.pairs
  · rw [if_pos c]
    simp [Inst.take, hf c, Inst.visit, hl, Inst.seen, Inst.rvisit, c]
  · rw [if_neg c]
    simp [Inst.bring, he (by omega), Inst.visit, hl, Inst.seen, Inst.rvisit, c]
theorem to_not {x : Inst} {s : State} {j : Int} (h0 : j ≠ 0) (h : x.lateB s j = true ∨ (j ≤ x.pairs ∧ x.fullB s j = true) ∨ (x.pairs < j ∧ x.emptyB s j = true)) : (x.to s j).2 = false := by
  unfold Inst.to
  rw [if_neg h0]
  rcases h with h | ⟨h1, h2⟩ | ⟨h1, h2⟩
  · split
    · unfold Inst.take Inst.visit
      split
      · rfl
      · simp [h]
    · unfold Inst.bring Inst.visit
      split
      · rfl
      · simp [h]
  · rw [if_pos h1]
    simp [Inst.take, h2]
  · rw [if_neg (by omega)]
    simp [Inst.bring, h2]
theorem rmove_take (x : Inst) (s : State) (j : Int) (hl : x.stops.length < 2 ^ 63) (ho : s.ok) (hm : x.may = true) (hs : s.mayB x = true) (h2 : 0 ≤ j) (c2 : ¬ 2 * x.pairs < j) (c3 : j ≠ 0) (c6 : j ≤ x.pairs) : Pure P 23 [x.a, s.a, .i j] (mv (x.move s j)) := by
  generalize hR : x.move s j = R
  refine pure_of Try.func23 rfl rfl (by simp [Try.f23]) (by simp [bnd, bnd.bndL, Inst.a, State.a, State.cs]) (by simp [bnd, bnd.bndL, mv, State.a, State.cs]) fun B hB hnx => ?_
  simp only [Try.f23] at hB ⊢
  refine K_run hB 100 ?_
  simp [go_sem, Inst.a, State.a, State.cs]
  refine K_call rfl rfl rfl (args := [x.a, s.a]) (f := 54) (by simp [go_sem, Inst.a, State.a, State.cs]) (by simp [go_sem, hB]) ((rmay10_pure x s hl).spec _ _) ?_
  obtain ⟨p, hx⟩ := x.fit hm
  have hst := s.fit hx hs
  have hfew := hx.few
  have hp := hx.pairs
  have w1 := w64 (2 * x.pairs) (by omega)
  have c1 : ¬ j < 0 := by omega
  have h3 : j ≤ 2 * p := by omega
  have g1 := hx.lt hst.spot.2
  have g2 := hx.lt h3
  have g3 := hx.get hst.spot.2
  have g4 := hx.get h3
  have hsp := hst.spot.1
  rw [move_in hm hs h2 (by omega)] at hR
  refine K_run hB 100 ?_
  simp [go_sem, hm, hs, c1, c2, w1]
  refine K_drawn [] rfl (by rw [hB]; kernel_rfl) ?_
  have hfar := rfar_pure (x.stop s.spot) (x.stop j)
  have hfi := far_in' (x.stop s.spot) (x.stop j)
  refine K_run hB 100 ?_
  simp [go_sem, hsp, g1, h2, g2, g3, g4, Stop.t]
  refine K_dCallP rfl rfl rfl (args := [.agg ((x.stop s.spot).t.map .t), .agg ((x.stop j).t.map .t)]) (f := 55) (by simp [go_sem, Stop.t]) (hfar) ?_
  have hf := hx.at h2 h3
  have hlate : x.lateB s j = (hasB s.must j || decide (x.begins s j > (x.stop j).due)) := rfl
  have hbe : x.begins s j = max (s.time + far (x.stop s.spot) (x.stop j)) (x.stop j).ready := rfl
  have hfull : x.fullB s j = (decide (s.load + (x.stop j).demand > x.room) || (decide (s.spot = 0) && decide (j ≤ s.first))) := rfl
  have hempty : x.emptyB s j = (decide (s.spot = 0) || !hasB s.can (j - x.pairs)) := rfl
  have hto := to_visit (x := x) (s := s) (j := j) c3
  have htn := to_not (x := x) (s := s) (j := j) c3
  have hmax : (if s.time + far (x.stop s.spot) (x.stop j) < (x.stop j).ready then (x.stop j).ready else s.time + far (x.stop s.spot) (x.stop j)) = x.begins s j := by rw [hbe]; omega
  have hvis : x.begins s j ≤ (x.stop j).due → _ := fun h => rvisit_pure x s j (x.begins s j) hx hst ho h2 h3 (by have := hf.ready; have := hf.due; have := hst.time; omega)
  have w2 := w64 (s.time + far (x.stop s.spot) (x.stop j)) (by have := hst.time; omega)
  generalize x.begins s j = b at *
  generalize far (x.stop s.spot) (x.stop j) = d at *
  generalize x.lateB s j = late at *
  generalize x.fullB s j = full at *
  generalize x.emptyB s j = empty at *
  have hdem := hf.demand
  have hload := hst.load
  generalize x.stop j = a at *
  have w3 := w64 (s.load + a.demand) (by omega)
  have w4 := w64 (j - x.pairs) (by omega)
  have w5 := w64 b (by have := hf.ready; have := hst.time; omega)
  by_cases c4 : s.time + d < a.ready
  all_goals
    first | rw [if_pos c4] at hmax | rw [if_neg c4] at hmax
    rw [hmax] at c4
    refine K_run hB 100 ?_
    simp [go_sem, c3, c4, h2, g2, g4, Stop.t, w2, w5, hmax]
    refine K_call rfl rfl rfl (args := [.u s.must, .i j]) (f := 48) (by simp [go_sem]) (by simp [go_sem, hB]) ((rhas_pure s.must j ho.must).spec _ _) ?_
    cases hha : hasB s.must j with
    | true =>
      rw [if_neg (by rw [htn (.inl (by simp [hlate, hha]))]; simp)] at hR
      subst hR
      refine K_run hB 100 ?_
      simp [go_sem, mv, State.a, State.cs]
    | false =>
      rw [hha, Bool.false_or] at hlate
      by_cases c5 : a.due < b
      rotate_left
      · skip
        have hl0 : late = false := by rw [hlate]; exact decide_eq_false c5
        rw [hl0] at hto
        by_cases c7 : full = true
        · rw [if_neg (by rw [htn (.inr (.inl ⟨c6, c7⟩))]; simp)] at hR
          subst hR
          rw [c7, eq_comm, Bool.or_eq_true, Bool.and_eq_true, decide_eq_true_eq, decide_eq_true_eq, decide_eq_true_eq] at hfull
          refine K_run hB 100 ?_
          simp [go_sem, c5, c6, h2, g2, g4, Stop.t, w2, w5, hmax, w3]
          refine K_drawn [] rfl (by rw [hB]; kernel_rfl) ?_
          by_cases c8 : x.room < s.load + a.demand
          · refine K_run hB 100 ?_
            simp [go_sem, c5, c6, h2, g2, g4, Stop.t, w2, w5, hmax, w3, c8, mv, State.a, State.cs]
          · obtain ⟨c9, c10⟩ := hfull.resolve_left c8
            refine K_run hB 100 ?_
            simp [go_sem, c5, c6, h2, g2, g4, Stop.t, w2, w5, hmax, w3, c8, c9, c10, mv, State.a, State.cs]
        · have c7 : full = false := by simpa using c7
          have hv := hvis (by omega)
          rw [hto rfl (fun _ => c7) (by omega), if_pos rfl] at hR
          subst hR
          rw [c7, eq_comm, Bool.or_eq_false_iff, Bool.and_eq_false_iff, decide_eq_false_iff_not, decide_eq_false_iff_not, decide_eq_false_iff_not] at hfull
          obtain ⟨c8, c9⟩ := hfull
          have c10 : ¬ x.pairs < j := by omega
          refine K_run hB 100 ?_
          simp [go_sem, c5, c6, h2, g2, g4, Stop.t, w2, w5, hmax, w3]
          refine K_drawn [] rfl (by rw [hB]; kernel_rfl) ?_
          by_cases c9' : s.spot = 0
          all_goals
            first
            | have c11 := c9.resolve_left (fun h => h c9')
              refine K_run hB 100 ?_
              simp [go_sem, c6, h2, g2, g4, Stop.t, w2, w5, hmax, w3, c8, c9', c11, w4]
            | refine K_run hB 100 ?_
              simp [go_sem, c6, h2, g2, g4, Stop.t, w2, w5, hmax, w3, c8, c9', w4]
            refine K_call rfl rfl rfl (args := [.u s.can, .i (j - x.pairs)]) (f := 48) (by simp [go_sem]) (by simp [go_sem, hB]) ((rhas_pure s.can (j - x.pairs) ho.can).spec _ _) ?_
            refine K_run hB 100 ?_
            simp [go_sem, c10]
            refine K_call rfl rfl rfl (args := [x.a, s.a, .i j, .i b]) (f := 57) (by simp [go_sem, Inst.a, State.a, State.cs, c9']) (by simp [go_sem, hB]) ((hv).spec _ _) ?_
            refine K_run hB 100 ?_
            simp [go_sem, mv, State.a, State.cs]
      · rw [if_neg (by rw [htn (.inl (by rw [hlate]; exact decide_eq_true c5))]; simp)] at hR
        subst hR
        refine K_run hB 100 ?_
        simp [go_sem, c5, h2, g2, g4, Stop.t, hmax, w2, w5, mv, State.a, State.cs]
theorem rmove_bring (x : Inst) (s : State) (j : Int) (hl : x.stops.length < 2 ^ 63) (ho : s.ok) (hm : x.may = true) (hs : s.mayB x = true) (h2 : 0 ≤ j) (c2 : ¬ 2 * x.pairs < j) (c3 : j ≠ 0) (c6 : ¬ j ≤ x.pairs) : Pure P 23 [x.a, s.a, .i j] (mv (x.move s j)) := by
  generalize hR : x.move s j = R
  refine pure_of Try.func23 rfl rfl (by simp [Try.f23]) (by simp [bnd, bnd.bndL, Inst.a, State.a, State.cs]) (by simp [bnd, bnd.bndL, mv, State.a, State.cs]) fun B hB hnx => ?_
  simp only [Try.f23] at hB ⊢
  refine K_run hB 100 ?_
  simp [go_sem, Inst.a, State.a, State.cs]
  refine K_call rfl rfl rfl (args := [x.a, s.a]) (f := 54) (by simp [go_sem, Inst.a, State.a, State.cs]) (by simp [go_sem, hB]) ((rmay10_pure x s hl).spec _ _) ?_
  obtain ⟨p, hx⟩ := x.fit hm
  have hst := s.fit hx hs
  have hfew := hx.few
  have hp := hx.pairs
  have w1 := w64 (2 * x.pairs) (by omega)
  have c1 : ¬ j < 0 := by omega
  have h3 : j ≤ 2 * p := by omega
  have g1 := hx.lt hst.spot.2
  have g2 := hx.lt h3
  have g3 := hx.get hst.spot.2
  have g4 := hx.get h3
  have hsp := hst.spot.1
  rw [move_in hm hs h2 (by omega)] at hR
  refine K_run hB 100 ?_
  simp [go_sem, hm, hs, c1, c2, w1]
  refine K_drawn [] rfl (by rw [hB]; kernel_rfl) ?_
  have hfar := rfar_pure (x.stop s.spot) (x.stop j)
  have hfi := far_in' (x.stop s.spot) (x.stop j)
  refine K_run hB 100 ?_
  simp [go_sem, hsp, g1, h2, g2, g3, g4, Stop.t]
  refine K_dCallP rfl rfl rfl (args := [.agg ((x.stop s.spot).t.map .t), .agg ((x.stop j).t.map .t)]) (f := 55) (by simp [go_sem, Stop.t]) (hfar) ?_
  have hf := hx.at h2 h3
  have hlate : x.lateB s j = (hasB s.must j || decide (x.begins s j > (x.stop j).due)) := rfl
  have hbe : x.begins s j = max (s.time + far (x.stop s.spot) (x.stop j)) (x.stop j).ready := rfl
  have hfull : x.fullB s j = (decide (s.load + (x.stop j).demand > x.room) || (decide (s.spot = 0) && decide (j ≤ s.first))) := rfl
  have hempty : x.emptyB s j = (decide (s.spot = 0) || !hasB s.can (j - x.pairs)) := rfl
  have hto := to_visit (x := x) (s := s) (j := j) c3
  have htn := to_not (x := x) (s := s) (j := j) c3
  have hmax : (if s.time + far (x.stop s.spot) (x.stop j) < (x.stop j).ready then (x.stop j).ready else s.time + far (x.stop s.spot) (x.stop j)) = x.begins s j := by rw [hbe]; omega
  have hvis : x.begins s j ≤ (x.stop j).due → _ := fun h => rvisit_pure x s j (x.begins s j) hx hst ho h2 h3 (by have := hf.ready; have := hf.due; have := hst.time; omega)
  have w2 := w64 (s.time + far (x.stop s.spot) (x.stop j)) (by have := hst.time; omega)
  generalize x.begins s j = b at *
  generalize far (x.stop s.spot) (x.stop j) = d at *
  generalize x.lateB s j = late at *
  generalize x.fullB s j = full at *
  generalize x.emptyB s j = empty at *
  have hdem := hf.demand
  have hload := hst.load
  generalize x.stop j = a at *
  have w3 := w64 (s.load + a.demand) (by omega)
  have w4 := w64 (j - x.pairs) (by omega)
  have w5 := w64 b (by have := hf.ready; have := hst.time; omega)
  by_cases c4 : s.time + d < a.ready
  all_goals
    first | rw [if_pos c4] at hmax | rw [if_neg c4] at hmax
    rw [hmax] at c4
    refine K_run hB 100 ?_
    simp [go_sem, c3, c4, h2, g2, g4, Stop.t, w2, w5, hmax]
    refine K_call rfl rfl rfl (args := [.u s.must, .i j]) (f := 48) (by simp [go_sem]) (by simp [go_sem, hB]) ((rhas_pure s.must j ho.must).spec _ _) ?_
    cases hha : hasB s.must j with
    | true =>
      rw [if_neg (by rw [htn (.inl (by simp [hlate, hha]))]; simp)] at hR
      subst hR
      refine K_run hB 100 ?_
      simp [go_sem, mv, State.a, State.cs]
    | false =>
      rw [hha, Bool.false_or] at hlate
      by_cases c5 : a.due < b
      rotate_left
      · skip
        have hl0 : late = false := by rw [hlate]; exact decide_eq_false c5
        rw [hl0] at hto
        have c10 : x.pairs < j := by omega
        refine K_run hB 100 ?_
        simp [go_sem, c5, c6, h2, g2, g4, Stop.t, w2, w5, hmax, w3]
        refine K_drawn [] rfl (by rw [hB]; kernel_rfl) ?_
        refine K_run hB 100 ?_
        simp [go_sem, c6, h2, g2, g4, Stop.t, w2, w5, hmax, w3, w4]
        refine K_call rfl rfl rfl (args := [.u s.can, .i (j - x.pairs)]) (f := 48) (by simp [go_sem]) (by simp [go_sem, hB]) ((rhas_pure s.can (j - x.pairs) ho.can).spec _ _) ?_
        by_cases c7 : s.spot = 0
        · rw [if_neg (by rw [htn (.inr (.inr ⟨c10, by rw [hempty, c7]; rfl⟩))]; simp)] at hR
          subst hR
          refine K_run hB 100 ?_
          simp [go_sem, c10, c7, mv, State.a, State.cs]
        · cases c8 : hasB s.can (j - x.pairs) with
          | false =>
            rw [if_neg (by rw [htn (.inr (.inr ⟨c10, by rw [hempty, c8]; simp⟩))]; simp)] at hR
            subst hR
            refine K_run hB 100 ?_
            simp [go_sem, c10, c7, mv, State.a, State.cs]
          | true =>
            have hv := hvis (by omega)
            rw [hto rfl (fun h => absurd h c6) (fun _ => by rw [hempty, c8]; simp [c7]), if_pos rfl] at hR
            subst hR
            refine K_run hB 100 ?_
            simp [go_sem, c10, c7]
            refine K_call rfl rfl rfl (args := [x.a, s.a, .i j, .i b]) (f := 57) (by simp [go_sem, Inst.a, State.a, State.cs]) (by simp [go_sem, hB]) ((hv).spec _ _) ?_
            refine K_run hB 100 ?_
            simp [go_sem, mv, State.a, State.cs]
      · rw [if_neg (by rw [htn (.inl (by rw [hlate]; exact decide_eq_true c5))]; simp)] at hR
        subst hR
        refine K_run hB 100 ?_
        simp [go_sem, c5, h2, g2, g4, Stop.t, hmax, w2, w5, mv, State.a, State.cs]
theorem rmove_pure (x : Inst) (s : State) (j : Int) (hl : x.stops.length < 2 ^ 63) (ho : s.ok) : Pure P 23 [x.a, s.a, .i j] (mv (x.move s j)) := by
  by_cases q1 : x.may = true ∧ s.mayB x = true ∧ 0 ≤ j ∧ ¬ 2 * x.pairs < j ∧ j ≠ 0
  · obtain ⟨q1, q2, q3, q4, q5⟩ := q1
    by_cases q6 : j ≤ x.pairs
    · exact rmove_take x s j hl ho q1 q2 q3 q4 q5 q6
    · exact rmove_bring x s j hl ho q1 q2 q3 q4 q5 q6
  generalize hR : x.move s j = R
  refine pure_of Try.func23 rfl rfl (by simp [Try.f23]) (by simp [bnd, bnd.bndL, Inst.a, State.a, State.cs]) (by simp [bnd, bnd.bndL, mv, State.a, State.cs]) fun B hB hnx => ?_
  simp only [Try.f23] at hB ⊢
  refine K_run hB 100 ?_
  simp [go_sem, Inst.a, State.a, State.cs]
  refine K_call rfl rfl rfl (args := [x.a, s.a]) (f := 54) (by simp [go_sem, Inst.a, State.a, State.cs]) (by simp [go_sem, hB]) ((rmay10_pure x s hl).spec _ _) ?_
  cases hm : (x.may && s.mayB x) with
  | false =>
    have hn : x.move s j = (s, 0, false) := move_no fun h => by simp [h.1, h.2.1] at hm
    rw [hn] at hR
    subst hR
    refine K_run hB 100 ?_
    simp [go_sem, mv, State.a, State.cs]
  | true =>
    rw [Bool.and_eq_true] at hm
    obtain ⟨hm, hs⟩ := hm
    obtain ⟨p, hx⟩ := x.fit hm
    have hst := s.fit hx hs
    have hfew := hx.few
    have hp := hx.pairs
    have w1 := w64 (2 * x.pairs) (by omega)
    by_cases c1 : j < 0
    · rw [move_no (by omega)] at hR
      subst hR
      refine K_run hB 100 ?_
      simp [go_sem, c1, mv, State.a, State.cs]
    by_cases c2 : 2 * x.pairs < j
    · rw [move_no (by omega)] at hR
      subst hR
      refine K_run hB 100 ?_
      simp [go_sem, c1, c2, w1, mv, State.a, State.cs]
    obtain rfl : j = 0 := by
      rcases Decidable.em (j = 0) with e | e
      · exact e
      · exact absurd ⟨hm, hs, by omega, c2, e⟩ q1
    have h3 : (0 : Int) ≤ 2 * p := by omega
    have g1 := hx.lt hst.spot.2
    have g2 : (0 : Int) < x.stops.length := hx.lt h3
    have g3 := hx.get hst.spot.2
    have g4 := hx.get0
    have hsp := hst.spot.1
    have g5 : 0 < x.stops.length := by omega
    rw [move_in hm hs (by omega) (by omega)] at hR
    refine K_run hB 100 ?_
    simp [go_sem, c1, c2, w1]
    refine K_drawn [] rfl (by rw [hB]; kernel_rfl) ?_
    have hfar := rfar_pure (x.stop s.spot) (x.stop 0)
    refine K_run hB 100 ?_
    simp [go_sem, hsp, g1, g2, g3, g4, g5, Stop.t]
    refine K_dCallP rfl rfl rfl (args := [.agg ((x.stop s.spot).t.map .t), .agg ((x.stop 0).t.map .t)]) (f := 55) (by simp [go_sem, Stop.t]) (hfar) ?_
    have hh := rhome_pure x s hx hst ho
    have e : x.to s 0 = x.home s := by simp [Inst.to]
    have e2 := home_fst x s
    rw [e] at hR
    generalize x.home s = V at *
    obtain ⟨t, is⟩ := V
    generalize far (x.stop s.spot) (x.stop 0) = d at *
    refine K_run hB 100 ?_
    simp [go_sem]
    refine K_call rfl rfl rfl (args := [x.a, s.a, .i d]) (f := 56) (by simp [go_sem, Inst.a, State.a, State.cs]) (by simp [go_sem, hB]) ((hh).spec _ _) ?_
    cases is with
    | false =>
      have e3 : t = s := e2 rfl
      rw [if_neg (by simp)] at hR
      subst hR
      subst e3
      refine K_run hB 100 ?_
      simp [go_sem, mv, State.a, State.cs]
    | true =>
      rw [if_pos rfl] at hR
      subst hR
      refine K_run hB 100 ?_
      simp [go_sem, mv, State.a, State.cs]
end Go.Proofs.Ytdfldfkgkooaeaa

/- All of the document's moves, the end, what follows; whether two rows are the same. -/
set_option maxRecDepth 4000
namespace Go.Proofs.Ytdfldfkgkooaeaa
open Go Go.Proofs.Ytdfldfkgkooaeaa.R
theorem rsame_pure (l m : List Int) (hl : l.length < 2 ^ 63) (hm : m.length < 2 ^ 63) : Pure P 26 [.t (.sl (ints l)), .t (.sl (ints m))] (.b (decide (l = m))) := by
  refine pure_of Try.func26 rfl rfl (by simp [Try.f26]) (by simp [bnd, bnd.bndL]) (by simp [bnd, bnd.bndL]) fun B hB hnx => ?_
  simp only [Try.f26] at hB ⊢
  have h1 : (ints l).length = l.length := List.length_map _
  have h2 : (ints m).length = m.length := List.length_map _
  by_cases c0 : l.length = m.length
  rotate_left
  · have : ¬ l = m := fun e => c0 (by rw [e])
    refine K_run hB 100 ?_
    simp [go_sem, h1, h2, c0, this]
  refine K_run hB 100 ?_
  simp [go_sem, h1, h2, c0]
  refine K_loopP (α := Nat) (fun k => k ≤ m.length ∧ l.take k = m.take k) (fun k => ⟨sl [(0, .t (.sl (ints l))), (1, .t (.sl (ints m))), (5, .i k)], noObj, 0⟩) (fun k => m.length - k) 0 ⟨Nat.zero_le _, rfl⟩ (Imp.slots (by simp [go_sem]) rfl rfl) ?_
  rintro k ⟨g1, g2⟩
  refine K_run hB 100 ?_
  simp [go_sem, h1, c0]
  refine fork_dec (fun hk => ?_) (fun hk => ?_)
  · have hkk : IntKind.i64.wrap ((k : Int) + 1) = ((k + 1 : Nat) : Int) := by rw [w64 ((k : Int) + 1) (by omega)]; rfl
    have hk' : k < l.length := by omega
    have e1 := ints_getS l hk'
    have e2 := ints_getS m hk
    have n1 : l.take (k + 1) = l.take k ++ [l[k]] := by rw [List.take_add_one, List.getElem?_eq_getElem hk']; rfl
    have n2 : m.take (k + 1) = m.take k ++ [m[k]] := by rw [List.take_add_one, List.getElem?_eq_getElem hk]; rfl
    simp [go_sem]
    refine K_drawn [] rfl (by rw [hB]; kernel_rfl) ?_
    by_cases c1 : l[k] = m[k]
    · refine K_run hB 100 ?_
      simp [go_sem, h1, h2, hk, hk', e1, e2, c1, hkk]
      refine Next.mk (k + 1) ⟨by omega, by rw [n1, n2, g2, c1]⟩ (Imp.slots (by simp [go_sem]) rfl rfl) (by omega)
    · have : ¬ l = m := fun e => c1 (by subst e; rfl)
      refine K_run hB 100 ?_
      simp [go_sem, h1, h2, hk, hk', e1, e2, c1, this]
  · have : k = m.length := by omega
    subst this
    rw [List.take_of_length_le (by omega), List.take_of_length_le (by omega)] at g2
    simp [go_sem, g2]
theorem canB_no : ∀ k, canB (fun _ => false) k = []
  | 0 => rfl
  | k + 1 => by rw [canB, canB_no k]; rfl
theorem moves_can (x : Inst) (s : State) : x.moves s = canB (fun k => (x.move s k).2.2) x.stops.length := by
  unfold Inst.moves
  split
  · rename_i h
    congr 1
    funext k
    rw [Inst.move, if_pos h]
  · rename_i h
    have : (fun k : Nat => (x.move s (k : Int)).2.2) = fun _ => false := by
      funext k
      rw [Inst.move, if_neg h]
    rw [this, canB_no]
theorem rmoves_pure (x : Inst) (s : State) (hl : x.stops.length < 2 ^ 31) (ho : s.ok) : Pure P 28 [x.a, s.a] (.t (.sl (ints (x.moves s)))) := by
  generalize hR : x.moves s = R
  rw [moves_can] at hR
  have hl' : x.stops.length < 2 ^ 63 := by omega
  have hst := fun j => rmove_pure x s j hl' ho
  have hmost : mostLen = 4294967296 := rfl
  refine pure_of Try.func28 rfl rfl (by simp [Try.f28]) (by simp [bnd, bnd.bndL, Inst.a, State.a, State.cs]) (by simp [bnd, bnd.bndL]) fun B hB hnx => ?_
  simp only [Try.f28] at hB ⊢
  refine K_run hB 100 ?_
  simp [go_sem, Inst.a, State.a, State.cs]
  refine K_own 5 1 (by simp [go_sem]) ?_
  refine K_loopP (α := Nat × Nat × (Nat → AObj) × Nat) (fun (k, j, σ, nx) => k ≤ x.stops.length ∧ σ 0 = .box [.t (.i x.pairs), .t (.i x.cars), .t (.i x.room), .t (.sl (x.stops.map Stop.t))] ∧ σ 1 = .box s.cs ∧ σ j = .arr 1 (ints (canB (fun k => (x.move s k).2.2) k)) ∧ 1 < j ∧ j < nx)
    (fun (k, j, σ, nx) => ⟨sl [(2, .ptr 0 0), (3, .ptr 1 0), (5, .ref j), (6, .i k)], σ, nx⟩) (fun a => x.stops.length - a.1) (0, 2, _, 3) ?_ (Imp.slots (by simp [go_sem]) rfl rfl) ?_
  · exact ⟨Nat.zero_le _, by simp [oput], by simp [oput, State.cs], by simp [oput, canB, ints], by omega, by omega⟩
  rintro ⟨k, j, σ, nx⟩ ⟨g1, g2, g3, g4, g5, g6⟩
  refine K_run hB 100 ?_
  simp [go_sem, g2]
  refine fork_dec (fun hk => ?_) (fun hk => ?_)
  · have hkk : IntKind.i64.wrap ((k : Int) + 1) = ((k + 1 : Nat) : Int) := by rw [w64 ((k : Int) + 1) (by omega)]; rfl
    have hn : canB (fun k => (x.move s k).2.2) (k + 1) = canB (fun k => (x.move s k).2.2) k ++ (if (x.move s k).2.2 = true then [(k : Int)] else []) := rfl
    have hcl := canB_len (fun k => (x.move s k).2.2) k
    have h1 := hst k
    generalize canB (fun k => (x.move s k).2.2) k = L at g4 hn hcl
    generalize x.move s k = V at hn h1
    obtain ⟨t, c, is⟩ := V
    simp only at hn
    simp [go_sem, g2, g3, State.cs]
    refine K_call rfl rfl rfl (args := [x.a, s.a, .i k]) (f := 23) (by simp [go_sem, Inst.a, State.a, State.cs]) (by simp [go_sem, hB]) ((h1).spec _ _) ?_
    cases is with
    | false =>
      refine K_run hB 100 ?_
      simp [go_sem, mv, State.a, State.cs, hkk]
      refine Next.mk (k + 1, j, _, nx + 1) ?_ (Imp.slots (by simp [go_sem]) rfl rfl) (by simp only; omega)
      refine ⟨by simp only; omega, ?_, ?_, ?_, by simp only; omega, by simp only; omega⟩
      · simp [oput, show ¬ 0 = nx by omega, g2]
      · simp [oput, show ¬ 1 = nx by omega, g3, State.cs]
      · simp only [hn]
        simp [oput, show ¬ j = nx by omega, g4]
    | true =>
      have hlen' : (ints L).length = L.length := List.length_map _
      have hcap : L.length + 1 ≤ mostLen := by omega
      refine K_run hB 100 ?_
      simp [go_sem, mv, State.a, State.cs, hkk, g4, hlen', hcap, show ¬ j = nx by omega]
      refine Next.mk (k + 1, nx + 1, _, nx + 2) ?_ (Imp.slots (by simp [go_sem]) rfl rfl) (by simp only; omega)
      refine ⟨by simp only; omega, ?_, ?_, ?_, by simp only; omega, by simp only; omega⟩
      · simp [oput, show ¬ 0 = nx by omega, show ¬ 0 = nx + 1 by omega, show ¬ 0 = j by omega, g2]
      · simp [oput, show ¬ 1 = nx by omega, show ¬ 1 = nx + 1 by omega, show ¬ 1 = j by omega, show ¬ nx = 0 by omega, g3, State.cs]
      · simp only [hn]
        simp [oput, ints]
  · have : k = x.stops.length := by omega
    subst this
    rw [hR] at g4
    simp [go_sem, g4]
theorem endS_no {x : Inst} {s : State} (h1 : x.may = true) (h0 : ¬ (x.pairs = 0 ∧ s = x.rootS)) (h : ¬ (s.mayB x = true ∧ s.spot ≠ 0 ∧ s.on = 0 ∧ x.allB s.can = true ∧ s.time + far (x.stop s.spot) (x.stop 0) ≤ (x.stop 0).due)) : x.endS s = (0, false) := by
  unfold Inst.endS
  rw [if_neg (by simp [h1]), if_neg h0, if_neg h]
theorem rend_tail (x : Inst) (s : State) (hl : x.stops.length < 2 ^ 63) (ho : s.ok) (hm : x.may = true) (c1 : ¬ (x.pairs = 0 ∧ s = x.rootS)) : Pure P 25 [x.a, s.a] (.tup [.i (x.endS s).1, .b (x.endS s).2]) := by
  generalize hR : x.endS s = R
  refine pure_of Try.func25 rfl rfl (by simp [Try.f25]) (by simp [bnd, bnd.bndL, Inst.a, State.a, State.cs]) (by simp [bnd, bnd.bndL]) fun B hB hnx => ?_
  simp only [Try.f25] at hB ⊢
  obtain ⟨p, hx⟩ := x.fit hm
  have hrr := rroot_pureS x hl
  have hno := endS_no hm c1
  have hyes : s.mayB x = true ∧ s.spot ≠ 0 ∧ s.on = 0 ∧ x.allB s.can = true ∧ s.time + far (x.stop s.spot) (x.stop 0) ≤ (x.stop 0).due → x.endS s = (far (x.stop s.spot) (x.stop 0), true) := fun h => by
    unfold Inst.endS
    rw [if_neg (by simp [hm]), if_neg c1, if_pos h]
  have g2 : (0 : Int) < x.stops.length := hx.lt (j := 0) (by omega)
  have g3 : 0 < x.stops.length := by omega
  have g4 := hx.get0
  have hall := rall_pure x s.can ho.can hx
  refine K_run hB 100 ?_
  simp [go_sem, Inst.a, State.a, State.cs]
  refine K_call rfl rfl rfl (args := [x.a]) (f := 60) (by simp [go_sem, Inst.a]) (by simp [go_sem, hB]) ((rmay_pure x hl).spec _ _) ?_
  refine K_run hB 100 ?_
  simp [go_sem, hm]
  refine K_drawn [] rfl (by rw [hB]; kernel_rfl) ?_
  generalize x.rootS = r at *
  by_cases c2 : x.pairs = 0
  all_goals
    first
    | have c3 : ¬ s = r := fun h => c1 ⟨c2, h⟩
      refine K_run hB 100 ?_
      simp [go_sem, c2]
      refine K_dCallP rfl rfl rfl (args := [x.a]) (f := 30) (by simp [go_sem, Inst.a, c2]) (hrr) ?_
      refine K_dEq (op := .eql) (t := 27) (t' := 27) (x := .tmp 19) (y := .tmp 21) (xs := s.cs) (ys := r.cs) (by simp [go_sem, c2]) rfl (by simp [go_sem, State.cs]) (by simp [go_sem, State.a]) state_guard (state_eq s r) rfl ?_
      refine K_run hB 100 ?_
      simp [go_sem, c2, c3]
    | refine K_run hB 100 ?_
      simp [go_sem, c2]
    refine K_call rfl rfl rfl (args := [x.a, s.a]) (f := 54) (by simp [go_sem, Inst.a, State.a, State.cs, c2]) (by simp [go_sem, hB]) ((rmay10_pure x s hl).spec _ _) ?_
    rw [hm, Bool.true_and]
    cases hs : s.mayB x with
    | false =>
      rw [hno (by simp [hs])] at hR
      subst hR
      refine K_run hB 100 ?_
      simp [go_sem]
    | true =>
      by_cases c4 : s.spot = 0
      · rw [hno (by simp [c4])] at hR
        subst hR
        refine K_run hB 100 ?_
        simp [go_sem, c4]
      by_cases c5 : s.on = 0
      rotate_left
      · rw [hno (by simp [c5])] at hR
        subst hR
        refine K_run hB 100 ?_
        simp [go_sem, c4, c5]
      have hst := s.fit hx hs
      have hsp := hst.spot.1
      have g5 := hx.lt hst.spot.2
      have g6 := hx.get hst.spot.2
      have hfar := rfar_pure (x.stop s.spot) (x.stop 0)
      have hfi := far_in' (x.stop s.spot) (x.stop 0)
      refine K_run hB 100 ?_
      simp [go_sem, c4, c5]
      refine K_call rfl rfl rfl (args := [x.a, .u s.can]) (f := 61) (by simp [go_sem, Inst.a, c2]) (by simp [go_sem, hB]) ((hall).spec _ _) ?_
      refine K_run hB 100 ?_
      simp [go_sem]
      refine K_drawn [] rfl (by rw [hB]; kernel_rfl) ?_
      refine K_run hB 100 ?_
      simp [go_sem, hsp, g2, g3, g4, g5, g6, Stop.t]
      refine K_dCallP rfl rfl rfl (args := [.agg ((x.stop s.spot).t.map .t), .agg ((x.stop 0).t.map .t)]) (f := 55) (by simp [go_sem, Stop.t]) (hfar) ?_
      generalize far (x.stop s.spot) (x.stop 0) = d at *
      generalize x.stop 0 = a at *
      have w1 := w64 (s.time + d) (by have := hst.time; omega)
      cases c6 : x.allB s.can with
      | false =>
        rw [hno (by simp [c6])] at hR
        subst hR
        refine K_run hB 100 ?_
        simp [go_sem]
        refine K_drawn [] rfl (by rw [hB]; kernel_rfl) ?_
        refine K_run hB 100 ?_
        simp [go_sem]
      | true =>
        by_cases c7 : a.due < s.time + d
        · rw [hno (by intro h; have := h.2.2.2.2; omega)] at hR
          subst hR
          refine K_run hB 100 ?_
          simp [go_sem]
          refine K_drawn [] rfl (by rw [hB]; kernel_rfl) ?_
          refine K_run hB 100 ?_
          simp [go_sem, w1, c7, g2, g3, g4, Stop.t]
        · rw [hyes ⟨hs, c4, c5, c6, by omega⟩] at hR
          subst hR
          refine K_run hB 100 ?_
          simp [go_sem]
          refine K_drawn [] rfl (by rw [hB]; kernel_rfl) ?_
          refine K_run hB 100 ?_
          simp [go_sem, w1, c7, g2, g3, g4, Stop.t]
theorem rend_pure (x : Inst) (s : State) (hl : x.stops.length < 2 ^ 63) (ho : s.ok) : Pure P 25 [x.a, s.a] (.tup [.i (x.endS s).1, .b (x.endS s).2]) := by
  by_cases q : x.may = true ∧ ¬ (x.pairs = 0 ∧ s = x.rootS)
  · exact rend_tail x s hl ho q.1 q.2
  generalize hR : x.endS s = R
  refine pure_of Try.func25 rfl rfl (by simp [Try.f25]) (by simp [bnd, bnd.bndL, Inst.a, State.a, State.cs]) (by simp [bnd, bnd.bndL]) fun B hB hnx => ?_
  simp only [Try.f25] at hB ⊢
  rw [Inst.endS] at hR
  refine K_run hB 100 ?_
  simp [go_sem, Inst.a, State.a, State.cs]
  refine K_call rfl rfl rfl (args := [x.a]) (f := 60) (by simp [go_sem, Inst.a]) (by simp [go_sem, hB]) ((rmay_pure x hl).spec _ _) ?_
  cases hm : x.may with
  | false =>
    rw [if_pos hm] at hR
    subst hR
    refine K_run hB 100 ?_
    simp [go_sem]
    refine K_drawn [] rfl (by rw [hB]; kernel_rfl) ?_
    refine K_run hB 100 ?_
    simp [go_sem]
    refine K_call rfl rfl rfl (args := [x.a, s.a]) (f := 54) (by simp [go_sem, Inst.a, State.a, State.cs]) (by simp [go_sem, hB]) ((rmay10_pure x s hl).spec _ _) ?_
    rw [hm, Bool.false_and]
    refine K_run hB 100 ?_
    simp [go_sem]
  | true =>
    have c1 : x.pairs = 0 ∧ s = x.rootS := Decidable.byContradiction fun h => q ⟨hm, h⟩
    rw [if_neg (by simp [hm]), if_pos c1] at hR
    subst hR
    obtain ⟨c2, c3⟩ := c1
    have hrr := rroot_pureS x hl
    generalize x.rootS = r at *
    refine K_run hB 100 ?_
    simp [go_sem]
    refine K_drawn [] rfl (by rw [hB]; kernel_rfl) ?_
    refine K_run hB 100 ?_
    simp [go_sem, c2]
    refine K_dCallP rfl rfl rfl (args := [x.a]) (f := 30) (by simp [go_sem, Inst.a, c2]) (hrr) ?_
    refine K_dEq (op := .eql) (t := 27) (t' := 27) (x := .tmp 19) (y := .tmp 21) (xs := s.cs) (ys := r.cs) (by simp [go_sem, c2]) rfl (by simp [go_sem, State.cs]) (by simp [go_sem, State.a]) state_guard (state_eq s r) rfl ?_
    refine K_run hB 100 ?_
    simp [go_sem, c2, c3]
end Go.Proofs.Ytdfldfkgkooaeaa

/- What follows, by the document. -/
set_option maxRecDepth 4000
namespace Go.Proofs.Ytdfldfkgkooaeaa
open Go Go.Proofs.Ytdfldfkgkooaeaa.R
theorem rfollow_pure (x : Inst) (path : List Int) (hl : x.stops.length < 2 ^ 63) (hp : path.length < 2 ^ 63) : Pure P 32 [x.a, .t (.sl (ints path))] (fol (x.follow path)) := by
  generalize hR : x.follow path = R
  refine pure_of Try.func32 rfl rfl (by simp [Try.f32]) (by simp [bnd, bnd.bndL, Inst.a]) (by simp [bnd, bnd.bndL, fol, State.a, State.cs]) fun B hB hnx => ?_
  simp only [Try.f32] at hB ⊢
  rw [Inst.follow] at hR
  refine K_run hB 100 ?_
  simp [go_sem, Inst.a]
  refine K_call rfl rfl rfl (args := [x.a]) (f := 60) (by simp [go_sem, Inst.a]) (by simp [go_sem, hB]) ((rmay_pure x hl).spec _ _) ?_
  cases hm : x.may with
  | false =>
    rw [if_neg (by simp [hm])] at hR
    subst hR
    refine K_run hB 100 ?_
    simp [go_sem, fol, State.a, State.cs, State.zero]
  | true =>
    rw [if_pos hm] at hR
    have hro := rootS_ok x
    have hr := rroot_pureS x hl
    generalize x.rootS = r at *
    have hil : (ints path).length = path.length := List.length_map _
    refine K_run hB 100 ?_
    simp [go_sem]
    refine K_call rfl rfl rfl (args := [x.a]) (f := 30) (by simp [go_sem, Inst.a]) (by simp [go_sem, hB]) ((hr).spec _ _) ?_
    refine K_run hB 100 ?_
    simp [go_sem, State.a, State.cs, hil]
    refine K_loopP (α := Nat × State × Int × (Nat → AObj) × Nat) (fun (k, s, c, σ, nx) => k ≤ path.length ∧ s.ok ∧ folR (x.goes (path.drop k) s c) = R ∧ σ 0 = .box [.t (.i x.pairs), .t (.i x.cars), .t (.i x.room), .t (.sl (x.stops.map Stop.t))] ∧ σ 1 = .box State.zero.cs ∧ σ 2 = .box s.cs ∧ 2 < nx)
      (fun (k, s, c, σ, nx) => ⟨sl [(1, .t (.sl (ints path))), (2, .ptr 0 0), (4, .ptr 1 0), (8, .ptr 2 0), (9, .i c), (10, .i k)], σ, nx⟩) (fun a => path.length - a.1) (0, r, 0, _, 3) ?_ (Imp.slots (by simp [go_sem]) rfl rfl) ?_
    · exact ⟨Nat.zero_le _, hro, hR, by simp [oput], by simp [oput, State.zero, State.cs], by simp [oput, State.cs], by omega⟩
    rintro ⟨k, s, c, σ, nx⟩ ⟨g1, go, g2, g3, g4, g5, g6⟩
    refine K_run hB 60 ?_
    simp [go_sem, hil]
    refine fork_dec (fun hk => ?_) (fun hk => ?_)
    · rw [List.drop_eq_getElem_cons hk, Inst.goes] at g2
      have hkk : IntKind.i64.wrap ((k : Int) + 1) = ((k + 1 : Nat) : Int) := by rw [w64 ((k : Int) + 1) (by omega)]; rfl
      have hget := ints_getS path hk
      have hmo := move_ok x path[k] go
      have hmv := rmove_pure x s path[k] hl go
      generalize path[k] = j at *
      generalize x.move s j = V at *
      obtain ⟨t, d, is⟩ := V
      simp only at g2 hmo
      simp [go_sem]
      refine K_drawnF [11, 12] [0, 1, 2, 3, 4, 5, 6, 7, 8, 9, 10] rfl (by rw [hB]; kernel_rfl) (by kernel_rfl) fun ht hf' => ?_
      refine K_run hB 100 ?_
      simp [go_sem, ht, hf', hil, hk, hget, g3, g5, State.cs]
      refine K_dCallP rfl rfl rfl (args := [x.a, s.a, .i j]) (f := 23) (by simp [go_sem, Inst.a, State.a, State.cs]) (hmv) ?_
      cases is with
      | false =>
        rw [if_neg (by simp)] at g2
        subst g2
        refine K_run hB 100 ?_
        simp [go_sem, ht, hf', mv, State.a, State.cs, folR, fol, State.zero, g3, g4, g5, show ¬ 0 = nx by omega, show ¬ 1 = nx by omega, show ¬ 2 = nx by omega]
      | true =>
        rw [if_pos rfl] at g2
        refine K_run hB 100 ?_
        simp [go_sem, ht, hf', mv, State.a, State.cs, g3, g5, hkk, show ¬ 0 = nx by omega, show ¬ 2 = nx by omega]
        refine Next.mk (k + 1, t, IntKind.i64.wrap (c + d), _, nx + 1) ?_ (Imp.slots (by simp [go_sem]) rfl rfl) (by simp only; omega)
        refine ⟨by simp only; omega, hmo, g2, ?_, ?_, ?_, by simp only; omega⟩
        · simp [oput, show ¬ 0 = nx by omega, g3]
        · simp [oput, show ¬ 1 = nx by omega, g4, State.cs]
        · simp [oput, State.cs]
    · have : k = path.length := by omega
      subst this
      rw [List.drop_length, Inst.goes] at g2
      subst g2
      simp [go_sem, g5, g4, State.cs, folR, fol, State.a, State.zero]
end Go.Proofs.Ytdfldfkgkooaeaa

/- The laws of the states are awake. -/
set_option maxRecDepth 4000
namespace Go.Proofs.Ytdfldfkgkooaeaa
open Go Go.Proofs.Ytdfldfkgkooaeaa.R
theorem small_moves : small.moves small.rootS = [1] := by decide +kernel
theorem small_follow : (small.follow [1, 2]).2 = (8, 0) ∧ (small.follow [1, 2]).1.time = 10 ∧ small.endS (small.follow [1, 2]).1 = (4, true) := by decide +kernel
theorem go_ok (x : Inst) : ∀ (l : List Int) (s : State) (c : Int), s.ok → (folR (x.goes l s c)).1.ok
  | [], s, c, h => h
  | j :: l, s, c, h => by
    rw [Inst.goes]
    split
    · exact go_ok x l _ _ (move_ok x j h)
    · exact State.zero_ok
theorem follow_ok (x : Inst) (path : List Int) : (x.follow path).1.ok := by
  unfold Inst.follow
  split
  · exact go_ok x path _ _ (rootS_ok x)
  · exact State.zero_ok
theorem awake_pure : Pure P 21 [] (.b true) := by
  refine pure_of Try.func21 rfl rfl (by simp [Try.f21]) (by simp) (by simp [bnd]) fun B hB hnx => ?_
  simp only [Try.f21] at hB ⊢
  refine K_run hB 60 ?_
  simp [go_sem]
  refine K_call rfl rfl rfl (args := []) (f := 44) (by simp [go_sem]) (by simp [go_sem, hB]) (small_pure.spec _ _) ?_
  have hp := parse_pure smallB (by decide) (by decide)
  rw [small_parse] at hp
  refine K_run hB 60 ?_
  simp [go_sem, small_bytes]
  refine K_call rfl rfl rfl (args := [.t (.sl (byt smallB))]) (f := 43) (by simp [go_sem]) (by simp [go_sem, hB]) (hp.spec _ _) ?_
  have hl : small.stops.length < 2 ^ 63 := by decide
  have hr := root_pureS small hl
  have hm := moves_pure small small.rootS hl (rootS_ok small)
  have hf := follow_pure small [1, 2] hl (by decide)
  have he := end_pure small (small.follow [1, 2]).1 hl (follow_ok small [1, 2])
  rw [small_moves] at hm
  obtain ⟨e1, e2, e3⟩ := small_follow
  rw [e3] at he
  generalize small.follow [1, 2] = F at *
  obtain ⟨t, c, e⟩ := F
  simp only [Prod.mk.injEq] at e1
  obtain ⟨rfl, rfl⟩ := e1
  simp only at e2 he
  generalize small.rootS = r at *
  generalize small = x at *
  refine K_run hB 60 ?_
  simp [go_sem, Inst.a]
  refine K_drawn [] rfl (by rw [hB]; kernel_rfl) ?_
  refine K_run hB 60 ?_
  simp [go_sem]
  refine K_dCallP rfl rfl rfl (args := [x.a]) (f := 29) (by simp [go_sem, Inst.a]) hr ?_
  refine K_run hB 60 ?_
  simp [go_sem]
  refine K_dCallP rfl rfl rfl (args := [x.a, r.a]) (f := 27) (by simp [go_sem, Inst.a]) hm ?_
  refine K_run hB 60 ?_
  simp [go_sem]
  refine K_call rfl rfl rfl (args := [x.a, .fsl (ints [1, 2])]) (f := 31) (by simp [go_sem, Inst.a, ints]) (by simp [go_sem, hB]) (CallSpec.loose (hf.spec _ _)) ?_
  refine K_run hB 60 ?_
  simp [go_sem, fol, State.a, State.cs]
  refine K_call rfl rfl rfl (args := [x.a, t.a]) (f := 24) (by simp [go_sem, Inst.a, State.a, State.cs]) (by simp [go_sem, hB]) (he.spec _ _) ?_
  refine K_run hB 100 ?_
  simp [go_sem, e2, ints]
end Go.Proofs.Ytdfldfkgkooaeaa

/- StateMoves, StateFollows: what the laws give. -/
set_option maxRecDepth 4000
namespace Go.Proofs.Ytdfldfkgkooaeaa
open Go Go.Proofs.Ytdfldfkgkooaeaa.R
theorem lmoves_pure (x : Inst) (s : State) (j : Int) (hl : x.stops.length < 2 ^ 63) (ho : s.ok) : Pure P 5 [x.a, s.a, .i j] (.b true) := by
  refine pure_of Try.func5 rfl rfl (by simp [Try.f5]) (by simp [bnd, bnd.bndL, Inst.a, State.a, State.cs]) (by simp [bnd, bnd.bndL]) fun B hB hnx => ?_
  simp only [Try.f5] at hB ⊢
  refine K_run hB 100 ?_
  simp [go_sem, Inst.a, State.a, State.cs]
  refine K_call rfl rfl rfl (args := []) (f := 21) (by simp [go_sem]) (by simp [go_sem, hB]) ((awake_pure).spec _ _) ?_
  by_cases c1 : 100 < (x.stops.length : Int)
  · refine K_run hB 100 ?_
    simp [go_sem, c1]
  have hm := move_pure x s j hl ho
  have hrm := rmove_pure x s j hl ho
  have he := end_pure x s hl ho
  have hre := rend_pure x s hl ho
  have hms := moves_pure x s hl ho
  have hrms := rmoves_pure x s (by omega) ho
  have hsame := rsame_pure (x.moves s) (x.moves s) (by rw [moves_can]; have := canB_len (fun k => (x.move s k).2.2) x.stops.length; omega) (by rw [moves_can]; have := canB_len (fun k => (x.move s k).2.2) x.stops.length; omega)
  have hr := root_pureS x hl
  have hrr := rroot_pureS x hl
  generalize x.move s j = V at *
  generalize x.endS s = E at *
  generalize x.moves s = M at *
  generalize x.rootS = r at *
  refine K_run hB 100 ?_
  simp [go_sem, c1]
  refine K_call rfl rfl rfl (args := [x.a, s.a, .i j]) (f := 22) (by simp [go_sem, Inst.a, State.a, State.cs]) (by simp [go_sem, hB]) ((hm).spec _ _) ?_
  refine K_run hB 100 ?_
  simp [go_sem, mv, State.a, State.cs]
  refine K_call rfl rfl rfl (args := [x.a, s.a, .i j]) (f := 23) (by simp [go_sem, Inst.a, State.a, State.cs]) (by simp [go_sem, hB]) ((hrm).spec _ _) ?_
  refine K_run hB 100 ?_
  simp [go_sem, mv, State.a, State.cs]
  refine K_call rfl rfl rfl (args := [x.a, s.a]) (f := 24) (by simp [go_sem, Inst.a, State.a, State.cs]) (by simp [go_sem, hB]) ((he).spec _ _) ?_
  refine K_run hB 100 ?_
  simp [go_sem]
  refine K_call rfl rfl rfl (args := [x.a, s.a]) (f := 25) (by simp [go_sem, Inst.a, State.a, State.cs]) (by simp [go_sem, hB]) ((hre).spec _ _) ?_
  refine K_run hB 100 ?_
  simp [go_sem]
  refine K_drawn [] rfl (by rw [hB]; kernel_rfl) ?_
  refine K_run hB 100 ?_
  simp [go_sem]
  refine K_dCallP rfl rfl rfl (args := [x.a, s.a]) (f := 27) (by simp [go_sem, Inst.a, State.a, State.cs]) (hms) ?_
  refine K_run hB 100 ?_
  simp [go_sem]
  refine K_dCallP rfl rfl rfl (args := [x.a, s.a]) (f := 28) (by simp [go_sem, Inst.a, State.a, State.cs]) (hrms) ?_
  refine K_run hB 100 ?_
  simp [go_sem]
  refine K_dCallP rfl rfl rfl (args := [.t (.sl (ints M)), .t (.sl (ints M))]) (f := 26) (by simp [go_sem]) (hsame) ?_
  refine K_run hB 100 ?_
  simp [go_sem]
  refine K_drawn [] rfl (by rw [hB]; kernel_rfl) ?_
  refine K_run hB 100 ?_
  simp [go_sem]
  refine K_dEq (op := .eql) (t := 27) (t' := 27) (x := .tmp 66) (y := .tmp 67) (xs := V.1.cs) (ys := V.1.cs) (by simp [go_sem]) rfl (by simp [go_sem, State.cs]) (by simp [go_sem, State.cs]) state_guard (state_eq V.1 V.1) rfl ?_
  refine K_run hB 100 ?_
  simp [go_sem]
  refine K_dCallP rfl rfl rfl (args := [x.a]) (f := 29) (by simp [go_sem, Inst.a]) (hr) ?_
  refine K_run hB 100 ?_
  simp [go_sem]
  refine K_dCallP rfl rfl rfl (args := [x.a]) (f := 30) (by simp [go_sem, Inst.a]) (hrr) ?_
  refine K_run hB 100 ?_
  simp [go_sem]
  refine K_dEq (op := .eql) (t := 27) (t' := 27) (x := .tmp 92) (y := .tmp 94) (xs := r.cs) (ys := r.cs) (by simp [go_sem]) rfl (by simp [go_sem, State.a]) (by simp [go_sem, State.a]) state_guard (state_eq r r) rfl ?_
  refine K_run hB 100 ?_
  simp [go_sem]
theorem lfollows_pure (x : Inst) (path : List Int) (hl : x.stops.length < 2 ^ 63) (hp : path.length < 2 ^ 63) : Pure P 6 [x.a, .t (.sl (ints path))] (.b true) := by
  refine pure_of Try.func6 rfl rfl (by simp [Try.f6]) (by simp [bnd, bnd.bndL, Inst.a]) (by simp [bnd, bnd.bndL]) fun B hB hnx => ?_
  simp only [Try.f6] at hB ⊢
  refine K_run hB 100 ?_
  simp [go_sem, Inst.a]
  refine K_call rfl rfl rfl (args := []) (f := 21) (by simp [go_sem]) (by simp [go_sem, hB]) ((awake_pure).spec _ _) ?_
  have hil : (ints path).length = path.length := List.length_map _
  by_cases c1 : 100 < (x.stops.length : Int)
  · refine K_run hB 100 ?_
    simp [go_sem, c1]
  by_cases c2 : 100 < (path.length : Int)
  · refine K_run hB 100 ?_
    simp [go_sem, c1, hil, c2]
  have hf := follow_pure x path hl hp
  have hrf := rfollow_pure x path hl hp
  generalize x.follow path = F at *
  refine K_run hB 100 ?_
  simp [go_sem, c1, c2, hil]
  refine K_call rfl rfl rfl (args := [x.a, .t (.sl (ints path))]) (f := 31) (by simp [go_sem, Inst.a]) (by simp [go_sem, hB]) ((hf).spec _ _) ?_
  refine K_run hB 100 ?_
  simp [go_sem, fol, State.a, State.cs]
  refine K_call rfl rfl rfl (args := [x.a, .t (.sl (ints path))]) (f := 32) (by simp [go_sem, Inst.a]) (by simp [go_sem, hB]) ((hrf).spec _ _) ?_
  refine K_run hB 100 ?_
  simp [go_sem, fol, State.a, State.cs]
  refine K_eq (op := .eql) (t := 27) (t' := 27) (x := .tmp 41) (y := .tmp 42) (xs := F.1.cs) (ys := F.1.cs) rfl rfl (by simp [go_sem, hB]) (by simp [go_sem, State.cs]) (by simp [go_sem, State.cs]) state_guard (state_eq F.1 F.1) rfl ?_
  refine K_run hB 100 ?_
  simp [go_sem]
end Go.Proofs.Ytdfldfkgkooaeaa
