/- Parts of the proof: Sched3, PlanC, Law12, Law12b, Once, Split, Once2, OnceR, Expand, Expand2, ExpandR, Law14, OnceP, FrontP, KeepsP, ExactP. -/
import Derived.Test.YtmmdnflngbkjnaaMG
set_option linter.unusedVariables false
/- When a car is where: a whole route. -/
set_option maxRecDepth 4000
namespace Go.Proofs.Ytmmdnflngbkjnaa
open Go Go.Proofs.Ytmmdnflngbkjnaa.R
theorem visitC_fit {x : Inst} {c : Car} {i : Int} {p k : Nat} (hx : x.Fit p) (hc : c.Fit p k) (h : (x.visitC c i).2 = 0) : (x.visitC c i).1.Fit p (k + 1) := by
  have hok := visits_ok (x := x) (c := c) (i := i)
  rw [Inst.visitC] at h ⊢
  by_cases c0 : x.visitsE c i = 0
  rotate_left
  · rw [if_pos c0] at h; exact absurd h c0
  rw [if_neg (by simp [c0])] at h ⊢
  by_cases c1 : (x.stop i).due < max (c.now + far (x.stop c.spot) (x.stop i)) (x.stop i).ready
  · rw [if_pos c1] at h; cases h
  rw [if_neg c1]
  obtain ⟨k1, k2, k3, k4, k5⟩ := hok c0
  have hp := hx.pairs
  have hfi := hx.at (j := i) (by omega) (by omega)
  have hfar := far_le (x.stop c.spot) (x.stop i)
  have h1 := hc.now
  have h2 := hc.gone
  have h3 := hc.load
  have h4 := hfi.ready
  have h5 := hfi.due
  have h6 := hfi.service
  have h7 := hfi.demand
  have h8 := hx.room
  have h9 := hx.few
  constructor
  · simp only; omega
  · simp only; omega
  · simp only; omega
  · simp only; omega
  · exact withN_lt hc.seen _
  · simp only
    split
    · exact withN_lt hc.on _
    · exact withoutN_lt _ _
  · simp [hc.times]
  · simp [hc.loads]
  · intro y hy
    simp only [List.mem_append, List.mem_singleton] at hy
    rcases hy with hy | rfl
    · exact hc.three y hy
    · rfl
  · have h10 := hc.few
    obtain ⟨j, rfl⟩ : ∃ j : Nat, i = j := ⟨i.toNat, by omega⟩
    have := filter_lt (p := fun j : Nat => decide (1 ≤ j) && !hasB c.seen (j : Int)) (q := fun m : Nat => decide (1 ≤ m) && !hasB (withN c.seen (j : Int)) (m : Int)) (List.range (2 * p + 1)) (a := j) (List.mem_range.2 (by omega)) (by rw [k3]; simp; omega) (by rw [has_withN (by omega)]; simp) (fun m => by
      rw [has_withN (by omega)]
      simp only [Bool.and_eq_true, Bool.not_eq_true', Bool.or_eq_false_iff]
      exact fun h => ⟨h.1, h.2.1⟩)
    simp only
    omega
def Inst.homeC (x : Inst) (c : Car) : Car × Int :=
  if c.on ≠ 0 then (c, 8) else if (x.stop 0).due < c.now + far (x.stop c.spot) (x.stop 0) then (x.drive c 0, 7) else (x.drive c 0, 0)
theorem homeC_times (x : Inst) (c : Car) : (x.homeC c).1.times = c.times ∧ (x.homeC c).1.loads = c.loads := by
  rw [Inst.homeC]
  split
  · exact ⟨rfl, rfl⟩
  · split <;> exact ⟨rfl, rfl⟩
theorem homeC_spec (x : Inst) (c : Car) {p k : Nat} (hx : x.Fit p) (hc : c.Fit p k) {σ : Nat → AObj} {nx b qt ql : Nat} (hb : b < nx) (hσb : σ b = .box (carC x c qt ql)) (hqt : qt < nx) (hql : ql < nx) :
    CallSpec P 107 [.ptr b 0] σ nx (.i (x.homeC c).2) (oput σ b (.box (carC x (x.homeC c).1 qt ql))) nx := by
  generalize hR : x.homeC c = R
  refine spec_down Try.func107 rfl rfl (by simp [Try.f107]) hb (by simp [bndO, bnd, bnd.bndL, carC, hqt, hql]) (by simp [bnd]) fun hkn B hB hnx hσ => ?_
  simp only [Try.f107] at hB ⊢
  have hds := drive_spec x c 0 hx hc (by omega) (by omega) hb hσb hqt hql
  rw [Inst.homeC] at hR
  by_cases c0 : c.on = 0
  rotate_left
  · rw [if_pos c0] at hR
    subst hR
    have c0' : ¬ (c.on : Int) = 0 := by omega
    refine K_run hB 100 ?_
    simp [go_sem, hσb, carC, c0, c0']
  rw [if_neg (by simp [c0])] at hR
  have g1 := hx.lt (j := 0) (by omega)
  have g3 := hx.get0
  have hdr : x.drive c 0 = { c with spot := 0, gone := c.gone + far (x.stop c.spot) (x.stop 0) } := rfl
  generalize x.stop 0 = z at *
  generalize far (x.stop c.spot) z = d at *
  have g4 : (0 : Int) < x.stops.length := g1
  have g5 : 0 < x.stops.length := by omega
  refine K_run hB 100 ?_
  simp [go_sem, hσb, carC, c0]
  refine K_drawnGM [1] [2, 3, 4, 5, 6, 7, 8, 9] [] [⟨6, fun t => if t = 13 then .ptr b 3 else .any, .t (.sl (x.stops.map Stop.t)), some (noObj, 0)⟩] rfl (by rw [hB]; kernel_rfl) (by kernel_rfl) (fun q hq => ?_) fun ht hf' => ?_
  · simp only [List.mem_cons, List.not_mem_nil, or_false] at hq
    subst hq
    exact ⟨_, rfl, by simp [go_sem], by simp [go_sem, hσb, carC]⟩
  refine K_run hB 1 ?_
  simp [go_sem, hσb, carC]
  refine K_dCall rfl rfl rfl (args := [.ptr b 0, .i 0]) (f := 125) (by simp [go_sem]) hds (by decide) (okPends_does (by simp [go_sem, carC])) ?_
  refine K_run hB 4 ?_
  simp [go_sem, carC]
  refine K_dMark (v := .t (.sl (x.stops.map Stop.t))) (by simp [go_sem]) (by simp [go_sem, carC]) ⟨rfl, ⟨6, fun t => if t = 13 then .ptr b 3 else .any, .t (.sl (x.stops.map Stop.t)), some (noObj, 0)⟩, by simp, by simp, rfl, rfl, fun t h => ?_⟩ ?_
  · have : t = 13 := by simpa [looksOf, Oper.looksAt, Op.operands] using h
    subst this
    simp [go_sem]
  refine K_run hB 2 ?_
  simp [go_sem, g4, g5, g3, Stop.t]
  refine K_dAny (v := .i z.due) (by simp [go_sem]) (fun σ nx => by simp [go_sem, Stop.t, g3, g5]) ?_
  by_cases c1 : z.due < c.now + d
  · rw [if_pos c1] at hR
    subst hR
    refine K_run hB 100 ?_
    simp [go_sem, c1, hdr, carC]
    exact fun j h1 h2 h3 => absurd h3 h2
  · rw [if_neg c1] at hR
    subst hR
    refine K_run hB 100 ?_
    simp [go_sem, c1, hdr, carC]
    exact fun j h1 h2 h3 => absurd h3 h2
def Inst.car0 (x : Inst) : Car := ⟨0, (x.stop 0).ready, 0, 0, 0, 0, [], []⟩
theorem car0_fit {x : Inst} {p : Nat} (hx : x.Fit p) : x.car0.Fit p 0 := by
  have h1 := (hx.at (j := 0) (by omega) (by omega)).ready
  refine ⟨by simp only [Inst.car0]; omega, by simp only [Inst.car0]; omega, by simp only [Inst.car0]; omega, by simp only [Inst.car0]; omega, by simp [Inst.car0], by simp [Inst.car0], rfl, rfl, (fun y hy => by cases hy), ?_⟩
  have := filter_lt (p := fun _ : Nat => true) (q := fun j : Nat => decide (1 ≤ j) && !hasB x.car0.seen (j : Int)) (List.range (2 * p + 1)) (a := 0) (List.mem_range.2 (by omega)) rfl (by simp) (fun _ _ => rfl)
  rw [List.filter_eq_self.2 (fun _ _ => rfl), List.length_range] at this
  omega
theorem begin_spec (x : Inst) {p : Nat} (hx : x.Fit p) (σ : Nat → AObj) (nx : Nat) :
    CallQ P 105 [x.a] σ nx fun r σ' nx' => ∃ b, r = .ptr b 0 ∧ nx ≤ b ∧ b < nx' ∧ σ' b = .box [.t (.i x.pairs), .t (.i x.cars), .t (.i x.room), .t (.sl (x.stops.map Stop.t)), .i 0, .i (x.stop 0).ready, .i 0, .i 0, .u 0, .u 0, .fsl [], .fsl []] ∧ ∀ j, j < nx → σ' j = σ j := by
  refine spec_of Try.func105 rfl rfl (by simp [Try.f105]) fun B hB hnx hσ => ?_
  simp only [Try.f105] at hB ⊢
  have g1 := hx.lt (j := 0) (by omega)
  have g3 := hx.get0
  generalize x.stop 0 = z at *
  have g4 : (0 : Int) < x.stops.length := g1
  have g5 : 0 < x.stops.length := by omega
  refine K_run hB 100 ?_
  simp [go_sem, Inst.a]
  refine K_drawnT [7] rfl (by rw [hB]; kernel_rfl) (by kernel_rfl) fun ht => ?_
  refine K_run hB 100 ?_
  simp [go_sem, ht, g4, g5, g3, Stop.t]
  exact ⟨by omega, fun j h1 => by simp [show ¬ j = nx by omega, show ¬ j = nx + 1 by omega]⟩
def Inst.runC (x : Inst) : List Int → Car → Car × Int
  | [], c => x.homeC c
  | i :: r, c => if (x.visitC c i).2 ≠ 0 then x.visitC c i else x.runC r (x.visitC c i).1
/-- What a route that is gone leaves behind. -/
def RunQ (x : Inst) (R : Car × Int) (σ : Nat → AObj) (nx : Nat) (r : AV) (σ' : Nat → AObj) (nx' : Nat) : Prop :=
  nx ≤ nx' ∧ (∀ j, j < nx → σ' j = σ j) ∧ ((R.2 ≠ 0 ∧ r = .tup [.t (.v (.pointer none)), .i R.2]) ∨ (R.2 = 0 ∧ ∃ b qt ql, r = .tup [.ptr b 0, .i 0] ∧ b < nx' ∧ σ' b = .box (carC x R.1 qt ql) ∧ Rows3 R.1 σ' nx' b qt ql))
structure RX where
  lb : Nat
  k : Nat
  c : Car
  e : Int
  b : Nat
  qt : Nat
  ql : Nat
  σ : Nat → AObj
  nx : Nat
structure RX.I (x : Inst) (p : Nat) (route : List Int) (R : Car × Int) (σ0 : Nat → AObj) (nx0 : Nat) (a : RX) : Prop where
  go : (a.lb = 1 ∧ a.k ≤ route.length ∧ a.c.Fit p a.k ∧ a.b < a.nx ∧ nx0 < a.b ∧ nx0 < a.qt ∧ nx0 < a.ql ∧ a.σ a.b = .box (carC x a.c a.qt a.ql) ∧ Rows3 a.c a.σ a.nx a.b a.qt a.ql ∧ x.runC (route.drop a.k) a.c = R) ∨ (a.lb = 0 ∧ a.e = R.2 ∧ R.2 ≠ 0)
  old : ∀ j, j ≤ nx0 → a.σ j = σ0 j
  nx : nx0 < a.nx
def RX.st (route : List Int) (a : RX) : St := ⟨sl (if a.lb = 1 then [(1, .t (.sl (ints route))), (6, .ptr a.b 0), (7, .i a.k)] else [(8, .i a.e)]), a.σ, a.nx⟩
def RX.m (route : List Int) (a : RX) : Nat := if a.lb = 1 then route.length + 1 - a.k else 0
theorem run_spec (x : Inst) (route : List Int) (hm : x.may = true) (hr : route.length < 2 ^ 63) (σ : Nat → AObj) (nx : Nat) :
    CallQ P 77 [x.a, .t (.sl (ints route))] σ nx (RunQ x (x.runC route x.car0) σ nx) := by
  generalize hR : x.runC route x.car0 = R
  obtain ⟨p, hx⟩ := x.fit hm
  have hlen := hx.len
  have hfew := hx.few
  have hil : (ints route).length = route.length := List.length_map _
  refine spec_of Try.func77 rfl rfl (by simp [Try.f77]) fun B hB hnx hσ => ?_
  simp only [Try.f77] at hB ⊢
  refine K_run hB 100 ?_
  simp [go_sem, Inst.a]
  obtain ⟨σ1, hσ1⟩ : ∃ σ1 : Nat → AObj, σ1 = oput σ nx (.box x.cs) := ⟨_, rfl⟩
  refine K_scopeF RX.lb (RX.I x p route R σ1 nx) (RX.st route) (RX.m route) (fun a ha => ?_) ?_ ?_
  · rcases ha.go with ⟨h, _⟩ | ⟨h, _⟩ <;> rw [h] <;> rfl
  · rintro ⟨lb, k, c, e, b, qt, ql, σ', nx'⟩ ⟨hgo, hold, hnx'⟩ fall
    simp only at hgo hold hnx'
    rcases hgo with ⟨rfl, g1, g2, g3, g4, g5, g6, g7, g8, g9⟩ | ⟨rfl, rfl, g2⟩
    · show Kp P B (.code (tailC _ 1) :: _) _ _ _
      simp [tailC, findLabel]
      refine K_run hB 100 ?_
      simp [go_sem, RX.st, hil]
      refine fork_dec (fun hk => ?_) (fun hk => ?_)
      · have hget := ints_getS route hk
        rw [List.drop_eq_getElem_cons hk, Inst.runC] at g9
        have hfit := visitC_fit (i := route[k]) hx g2
        have hvs := visit_spec x c route[k] hx g2 g3 g7 g8
        have hkk : IntKind.i64.wrap ((k : Int) + 1) = ((k + 1 : Nat) : Int) := by rw [w64 ((k : Int) + 1) (by omega)]; rfl
        generalize route[k] = i at *
        generalize x.visitC c i = V at *
        simp [go_sem, hil, hk, hget]
        refine K_callQ rfl rfl rfl (args := [.ptr b 0, .i i]) (f := 106) (by simp [go_sem]) (by simp [go_sem, hB]) hvs ?_
        rintro r σ2 nx2 ⟨rfl, v1, qt2, ql2, v2, v3, v4, v5, v6⟩
        have hold2 : ∀ j, j ≤ nx → σ2 j = σ1 j := fun j hj => by
          rw [v4 j (by omega) (by omega) (by omega) (by omega)]
          exact hold j hj
        by_cases c1 : V.2 = 0
        · rw [if_neg (by simp [c1])] at g9
          refine K_run hB 100 ?_
          simp [go_sem, c1, hkk]
          refine ⟨⟨1, k + 1, V.1, 0, b, qt2, ql2, σ2, nx2⟩, ⟨.inl ⟨rfl, by simp only; omega, hfit c1, by simp only; omega, g4, by simp only; omega, by simp only; omega, v2, v3, g9⟩, hold2, by simp only; omega⟩, rfl, Imp.slots (by simp [go_sem, RX.st]) rfl rfl, by simp only [RX.m, if_true]; omega⟩
        · rw [if_pos c1] at g9
          subst g9
          refine K_run hB 100 ?_
          simp [go_sem, c1]
          refine ⟨⟨0, 0, c, V.2, b, qt2, ql2, σ2, nx2⟩, ⟨.inr ⟨rfl, rfl, c1⟩, hold2, by simp only; omega⟩, rfl, Imp.slots (by simp [go_sem, RX.st]) rfl rfl, by simp [RX.m]; omega⟩
      · have : k = route.length := by omega
        subst this
        rw [List.drop_length, Inst.runC] at g9
        have hhs := homeC_spec x c hx g2 g3 g7 g8.ltT g8.ltL
        have hht := homeC_times x c
        rw [g9] at hhs hht
        simp [go_sem]
        refine K_call rfl rfl rfl (args := [.ptr b 0]) (f := 107) (by simp [go_sem]) (by simp [go_sem, hB]) hhs ?_
        by_cases c1 : R.2 = 0
        · refine K_run hB 100 ?_
          simp [go_sem, c1]
          have hne : ∀ j, j < nx → j ≠ b := fun j hj => by omega
          refine ⟨by omega, by omega, fun j hj => ?_, .inr ⟨c1, b, qt, ql, rfl, g3, by simp [oput], ⟨?_, ?_, g8.ltT, g8.ltL, g8.neT, g8.neL, g8.ne⟩⟩⟩
          · have := hold j (by omega)
            simp [oput, hne j hj, this, hσ1, show ¬ j = nx by omega]
          · simp [oput, g8.neT, g8.tm, hht.1]
          · simp [oput, g8.neL, g8.ld, hht.2]
        · refine K_run hB 9 ?_
          simp [go_sem, c1]
          refine fall 0 _ ?_
          refine ⟨⟨0, 0, c, R.2, b, qt, ql, _, nx'⟩, ⟨.inr ⟨rfl, rfl, c1⟩, fun j hj => ?_, by simp only; omega⟩, rfl, Imp.slots (by simp [go_sem, RX.st]) rfl rfl, by simp [RX.m]⟩
          simp only at hj ⊢
          have := hold j hj
          simp [oput, show ¬ j = b by omega, this]
    · show Kp P B (.code (tailC _ 0) :: _) _ _ _
      simp [tailC, findLabel]
      refine K_run hB 100 ?_
      simp [go_sem, RX.st]
      exact ⟨by omega, by omega, fun j hj => by rw [hold j (by omega), hσ1]; simp [oput, show ¬ j = nx by omega], .inl ⟨g2, rfl⟩⟩
  · intro J hJ
    refine K_run hB 100 ?_
    simp [go_sem]
    refine K_call rfl rfl rfl (args := [x.a]) (f := 25) (by simp [go_sem, Inst.a]) (by simp [go_sem, hB]) ((may_pure x (by omega)).spec _ _) ?_
    refine K_run hB 100 ?_
    simp [go_sem, hm]
    refine K_callQ rfl rfl rfl (args := [x.a]) (f := 105) (by simp [go_sem, Inst.a]) (by simp [go_sem, hB]) (begin_spec x hx _ _) ?_
    rintro r σ2 nx2 ⟨b, rfl, b1, b2, b3, b4⟩
    simp only at b1 b2 b3 b4
    refine K_run hB 4 ?_
    simp [go_sem]
    obtain ⟨σ3, hσ3⟩ : ∃ σ3 : Nat → AObj, σ3 = oput (oput (oput (oput σ2 b (.box [.t (.i x.pairs), .t (.i x.cars), .t (.i x.room), .t (.sl (x.stops.map Stop.t)), .i 0, .i (x.stop 0).ready, .i 0, .i 0, .u 0, .u 0, .ref nx2, .fsl []])) nx2 (.arr 3 [])) b (.box (carC x x.car0 nx2 (nx2 + 1)))) (nx2 + 1) (.arr 1 []) := ⟨_, rfl⟩
    refine hJ 1 _ ⟨⟨1, 0, x.car0, 0, b, nx2, nx2 + 1, σ3, nx2 + 2⟩, ⟨.inl ⟨rfl, Nat.zero_le _, car0_fit hx, by simp only; omega, by simp only; omega, by simp only; omega, by simp only; omega, ?_, ⟨?_, ?_, by simp only; omega, by simp only; omega, by simp only; omega, by simp only; omega, by simp only; omega⟩, hR⟩, ?_, by simp only; omega⟩, rfl, ?_⟩
    · simp [hσ3, oput, show ¬ b = nx2 + 1 by omega]
    · simp [hσ3, oput, show ¬ nx2 = b by omega, Inst.car0]
    · simp [hσ3, oput, Inst.car0, ints]
    · intro j hj
      simp only at hj ⊢
      simp only [hσ3, oput]
      rw [if_neg (by omega), if_neg (by omega), if_neg (by omega), if_neg (by omega), hσ1]
      exact b4 j (by omega)
    · refine (Imp.ownB (b := b) (off := 10) (sz := 3) (by simpa using b3) rfl).trans ((Imp.ownB (b := b) (off := 11) (sz := 1) (cs := [.t (.i x.pairs), .t (.i x.cars), .t (.i x.room), .t (.sl (x.stops.map Stop.t)), .i 0, .i (x.stop 0).ready, .i 0, .i 0, .u 0, .u 0, .ref nx2, .fsl []]) (by simp [oput, show ¬ b = nx2 by omega]) rfl).trans (Imp.slots (by simp [go_sem, RX.st]) ?_ rfl))
      rw [hσ3]; rfl
theorem run_no_spec (x : Inst) (route : List Int) (hm : x.may = false) (hl : x.stops.length < 2 ^ 63) (σ : Nat → AObj) (nx : Nat) :
    CallQ P 77 [x.a, .t (.sl (ints route))] σ nx fun r σ' nx' => r = .tup [.t (.v (.pointer none)), .i 1] := by
  refine spec_of Try.func77 rfl rfl (by simp [Try.f77]) fun B hB hnx hσ => ?_
  simp only [Try.f77] at hB ⊢
  refine K_run hB 100 ?_
  simp [go_sem, Inst.a]
  refine K_scopeL (α := Unit) (fun _ => 0) (fun _ => False) (fun _ => ⟨fun _ => .any, σ, nx⟩) (fun _ => 0) (fun _ h => h.elim) ?_ (fun _ h => h.elim)
  refine K_run hB 100 ?_
  simp [go_sem]
  refine K_call rfl rfl rfl (args := [x.a]) (f := 25) (by simp [go_sem, Inst.a]) (by simp [go_sem, hB]) ((may_pure x hl).spec _ _) ?_
  refine K_run hB 100 ?_
  simp [go_sem, hm]
def Inst.times (x : Inst) (route : List Int) : List (List T) × Int × Int :=
  if x.may = false then ([], 0, 1) else if (x.runC route x.car0).2 ≠ 0 then ([], 0, (x.runC route x.car0).2) else ((x.runC route x.car0).1.times, (x.runC route x.car0).1.gone, 0)
def timesA (r : List (List T) × Int × Int) : AV := .tup [.t (.sl r.1), .i r.2.1, .i r.2.2]
theorem times_pure (x : Inst) (route : List Int) (hl : x.stops.length < 2 ^ 63) (hr : route.length < 2 ^ 63) : Pure P 52 [x.a, .t (.sl (ints route))] (timesA (x.times route)) := by
  generalize hR : x.times route = R
  refine pure_of Try.func52 rfl rfl (by simp [Try.f52]) (by simp [bnd, bnd.bndL, Inst.a]) (by simp [bnd, bnd.bndL, timesA]) fun B hB hnx => ?_
  simp only [Try.f52] at hB ⊢
  rw [Inst.times] at hR
  refine K_run hB 100 ?_
  simp [go_sem, Inst.a]
  cases hm : x.may with
  | false =>
    rw [if_pos hm] at hR
    refine K_callQ rfl rfl rfl (args := [x.a, .t (.sl (ints route))]) (f := 77) (by simp [go_sem, Inst.a]) (by simp [go_sem, hB]) (run_no_spec x route hm hl _ _) ?_
    rintro r σ' nx' rfl
    subst hR
    refine K_run hB 100 ?_
    simp [go_sem, timesA]
  | true =>
    rw [if_neg (by simp [hm])] at hR
    have hrs := run_spec x route hm hr
    generalize x.runC route x.car0 = V at *
    refine K_callQ rfl rfl rfl (args := [x.a, .t (.sl (ints route))]) (f := 77) (by simp [go_sem, Inst.a]) (by simp [go_sem, hB]) (hrs _ _) ?_
    rintro r σ' nx' ⟨h1, h2, ⟨h3, rfl⟩ | ⟨h3, b, qt, ql, rfl, h4, h5, h6⟩⟩
    · rw [if_pos h3] at hR
      subst hR
      refine K_run hB 100 ?_
      simp [go_sem, h3, timesA]
    · rw [if_neg (by simp [h3])] at hR
      subst hR
      refine K_run hB 100 ?_
      simp [go_sem]
      refine K_drawn [] rfl (by rw [hB]; kernel_rfl) ?_
      refine K_run hB 100 ?_
      simp [go_sem, h5, carC, h6.tm, timesA]
end Go.Proofs.Ytmmdnflngbkjnaa

/- What a plan costs. -/
set_option maxRecDepth 4000
namespace Go.Proofs.Ytmmdnflngbkjnaa
open Go Go.Proofs.Ytmmdnflngbkjnaa.R
def idxI (p : Int → Bool) : Nat → List Int → Int
  | _, [] => -1
  | i, n :: l => if p n = true then (i : Int) else idxI p (i + 1) l
theorem idxI_any (p : Int → Bool) : ∀ (i : Nat) (l : List Int), (0 ≤ idxI p i l) ↔ l.any p = true
  | _, [] => by simp [idxI]
  | i, n :: l => by
    rw [idxI, List.any_cons]
    cases h : p n with
    | true => simp
    | false => simp [idxI_any p (i + 1) l]
theorem indexI_pure (l : List Int) (p : Int → Bool) (f : FuncId) (hl : l.length < 2 ^ 62) (hf : ∀ n, Pure P f [.i n] (.b (p n))) : Pure P 50 [.t (.sl (ints l)), .fn (.func f) [] []] (.i (idxI p 0 l)) := by
  have hil : (ints l).length = l.length := List.length_map _
  refine pure_of Try.func50 rfl rfl (by simp [Try.f50]) (by simp [bnd, bnd.bndL]) (by simp [bnd, bnd.bndL]) fun B hB hnx => ?_
  simp only [Try.f50] at hB ⊢
  refine K_run hB 100 ?_
  simp [go_sem, hil]
  refine K_loopP (α := Nat) (fun k => k ≤ l.length ∧ idxI p k (l.drop k) = idxI p 0 l) (fun k => ⟨sl [(0, .t (.sl (ints l))), (1, .fn (.func f) [] []), (7, .i l.length), (8, .i k)], noObj, 0⟩) (fun k => l.length - k) 0 ⟨Nat.zero_le _, rfl⟩ (Imp.slots (by simp [go_sem]) rfl rfl) ?_
  rintro k ⟨h1, h2⟩
  refine K_run hB 60 ?_
  simp [go_sem]
  refine fork_dec (fun h => ?_) (fun h => ?_)
  · rw [List.drop_eq_getElem_cons h, idxI] at h2
    have hkk : IntKind.i64.wrap ((k : Int) + 1) = ((k + 1 : Nat) : Int) := by rw [w64 ((k : Int) + 1) (by omega)]; rfl
    have hget := ints_getS l h
    generalize l[k] = n at *
    have hp := hf n
    simp [go_sem, h, hil, hget]
    refine K_call rfl rfl rfl (args := [.i n]) (f := f) (by simp [go_sem]) (by simp [go_sem, hB]) (hp.spec _ _) ?_
    cases ho : p n with
    | true =>
      rw [ho, if_pos rfl] at h2
      refine K_run hB 100 ?_
      simp [go_sem, ← h2]
    | false =>
      rw [ho, if_neg (by simp)] at h2
      refine K_run hB 100 ?_
      simp [go_sem, hkk]
      exact Next.mk (k + 1) ⟨by omega, h2⟩ (Imp.slots (by simp [go_sem]) rfl rfl) (by omega)
  · have : k = l.length := by omega
    subst this
    rw [List.drop_length] at h2
    simp [go_sem, ← h2, idxI]
theorem containsI_pure (l : List Int) (p : Int → Bool) (f : FuncId) (hl : l.length < 2 ^ 62) (hf : ∀ n, Pure P f [.i n] (.b (p n))) : Pure P 54 [.t (.sl (ints l)), .fn (.func f) [] []] (.b (l.any p)) := by
  have hi := indexI_pure l p f hl hf
  have ha := idxI_any p 0 l
  refine pure_of Try.func54 rfl rfl (by simp [Try.f54]) (by simp [bnd, bnd.bndL]) (by simp [bnd, bnd.bndL]) fun B hB hnx => ?_
  simp only [Try.f54] at hB ⊢
  generalize idxI p 0 l = i at *
  refine K_run hB 100 ?_
  simp [go_sem]
  refine K_call rfl rfl rfl (args := [.t (.sl (ints l)), .fn (.func f) [] []]) (f := 50) (by simp [go_sem]) (by simp [go_sem, hB]) ((hi).spec _ _) ?_
  refine K_run hB 100 ?_
  simp [go_sem]
  rw [Bool.eq_iff_iff, decide_eq_true_eq]
  exact ha
theorem index1_pure (l : List Int) (v : Int) (hl : l.length < 2 ^ 62) : Pure P 78 [.t (.sl (ints l)), .i v] (.i (idxI (fun n => decide (n = v)) 0 l)) := by
  have hil : (ints l).length = l.length := List.length_map _
  refine pure_of Try.func78 rfl rfl (by simp [Try.f78]) (by simp [bnd, bnd.bndL]) (by simp [bnd, bnd.bndL]) fun B hB hnx => ?_
  simp only [Try.f78] at hB ⊢
  refine K_run hB 100 ?_
  simp [go_sem, hil]
  refine K_loopP (α := Nat) (fun k => k ≤ l.length ∧ idxI (fun n => decide (n = v)) k (l.drop k) = idxI (fun n => decide (n = v)) 0 l) (fun k => ⟨sl [(0, .t (.sl (ints l))), (1, .i v), (7, .i l.length), (8, .i k)], noObj, 0⟩) (fun k => l.length - k) 0 ⟨Nat.zero_le _, rfl⟩ (Imp.slots (by simp [go_sem]) rfl rfl) ?_
  rintro k ⟨h1, h2⟩
  refine K_run hB 60 ?_
  simp [go_sem]
  refine fork_dec (fun h => ?_) (fun h => ?_)
  · rw [List.drop_eq_getElem_cons h, idxI] at h2
    have hkk : IntKind.i64.wrap ((k : Int) + 1) = ((k + 1 : Nat) : Int) := by rw [w64 ((k : Int) + 1) (by omega)]; rfl
    have hget := ints_getS l h
    generalize l[k] = n at *
    by_cases ho : v = n
    · subst ho
      rw [if_pos (by simp)] at h2
      simp [go_sem, h, hil, hget, ← h2]
    · have ho' : ¬ n = v := fun e => ho e.symm
      rw [if_neg (by simp [ho'])] at h2
      simp [go_sem, h, hil, hget, ho, hkk]
      exact Next.mk (k + 1) ⟨by omega, h2⟩ (Imp.slots (by simp [go_sem]) rfl rfl) (by omega)
  · have : k = l.length := by omega
    subst this
    rw [List.drop_length] at h2
    simp [go_sem, ← h2, idxI]
theorem contains1_pure (l : List Int) (v : Int) (hl : l.length < 2 ^ 62) : Pure P 55 [.t (.sl (ints l)), .i v] (.b (l.any fun n => decide (n = v))) := by
  have hi := index1_pure l v hl
  have ha := idxI_any (fun n => decide (n = v)) 0 l
  refine pure_of Try.func55 rfl rfl (by simp [Try.f55]) (by simp [bnd, bnd.bndL]) (by simp [bnd, bnd.bndL]) fun B hB hnx => ?_
  simp only [Try.f55] at hB ⊢
  generalize idxI (fun n => decide (n = v)) 0 l = i at *
  refine K_run hB 100 ?_
  simp [go_sem]
  refine K_call rfl rfl rfl (args := [.t (.sl (ints l)), .i v]) (f := 78) (by simp [go_sem]) (by simp [go_sem, hB]) ((hi).spec _ _) ?_
  refine K_run hB 100 ?_
  simp [go_sem]
  rw [Bool.eq_iff_iff, decide_eq_true_eq]
  exact ha
theorem twice_pure (n : Int) : Pure P 53 [.i n] (.b (decide (1 < n))) := by
  refine pure_of Try.func53 rfl rfl (by simp [Try.f53]) (by simp [bnd, bnd.bndL]) (by simp [bnd, bnd.bndL]) fun B hB hnx => ?_
  simp only [Try.f53] at hB ⊢
  refine K_run hB 100 ?_
  simp [go_sem]
def bump (s : List Int) (i : Int) : List Int := s.set i.toNat (s.getD i.toNat 0 + 1)
def Inst.costGo (x : Inst) : List (List Int) → Int → List Int → Int × Int
  | [], all, seen => if (seen.any fun n => decide (1 < n)) = true then (0, 5) else if ((seen.drop 1).any fun n => decide (n = 0)) = true then (0, 4) else (all, 0)
  | r :: rs, all, seen => if r.length = 0 then (0, 1) else if (x.times r).2.2 ≠ 0 then (0, (x.times r).2.2) else x.costGo rs (all + (x.times r).2.1) (r.foldl bump seen)
def Inst.cost (x : Inst) (p : List (List Int)) : Int × Int :=
  if x.may = false then (0, 1) else if x.cars < p.length then (0, 6) else x.costGo p 0 (List.replicate (2 * x.pairs + 1).toNat 0)
/-- A route that can be gone. -/
theorem runC_ok {x : Inst} {p : Nat} (hx : x.Fit p) : ∀ (r : List Int) (c : Car) (k : Nat), c.Fit p k → (x.runC r c).2 = 0 → (∀ i ∈ r, 1 ≤ i ∧ i ≤ 2 * p) ∧ k + r.length ≤ 2 * p ∧ 0 ≤ (x.runC r c).1.gone ∧ (x.runC r c).1.gone ≤ 14143 * (k + r.length + 1)
  | [], c, k, hc, h => by
    have hg := hc.gone
    have hf := far_le (x.stop c.spot) (x.stop 0)
    have := hc.le
    refine ⟨fun i hi => (by cases hi), by simpa using this, ?_⟩
    rw [Inst.runC, Inst.homeC]
    simp only [List.length_nil]
    split
    · simp only; omega
    · split <;> simp only [Inst.drive] <;> omega
  | i :: r, c, k, hc, h => by
    rw [Inst.runC] at h ⊢
    by_cases c1 : (x.visitC c i).2 = 0
    · rw [if_neg (by simp [c1])] at h ⊢
      obtain ⟨h1, h2, h3, h4⟩ := runC_ok hx r _ _ (visitC_fit hx hc c1) h
      have hv : x.visitsE c i = 0 := by
        rw [Inst.visitC] at c1
        split at c1
        · rename_i hh; exact absurd c1 hh
        · rename_i hh; simpa using hh
      obtain ⟨k1, k2, _⟩ := visits_ok hv
      have hp := hx.pairs
      rw [List.length_cons]
      refine ⟨fun j hj => ?_, by omega, h3, by omega⟩
      rcases List.mem_cons.1 hj with rfl | hj
      · omega
      · exact h1 j hj
    · rw [if_pos c1] at h
      exact absurd h c1
theorem times_ok {x : Inst} {p : Nat} (hx : x.Fit p) (hm : x.may = true) {r : List Int} (h : (x.times r).2.2 = 0) : (∀ i ∈ r, 1 ≤ i ∧ i ≤ 2 * p) ∧ r.length ≤ 2 * p ∧ 0 ≤ (x.times r).2.1 ∧ (x.times r).2.1 ≤ 14143 * 33 := by
  rw [Inst.times, if_neg (by simp [hm])] at h ⊢
  by_cases c1 : (x.runC r x.car0).2 = 0
  · rw [if_neg (by simp [c1])]
    obtain ⟨h1, h2, h3, h4⟩ := runC_ok hx r _ 0 (car0_fit hx) c1
    have := hx.few
    exact ⟨h1, by omega, h3, by simp only; omega⟩
  · rw [if_pos c1] at h
    exact absurd h c1
theorem bump_len (s : List Int) (i : Int) : (bump s i).length = s.length := List.length_set
theorem bumps_len : ∀ (r : List Int) (s : List Int), (r.foldl bump s).length = s.length
  | [], s => rfl
  | i :: r, s => by rw [List.foldl_cons, bumps_len, bump_len]
/-- No number in a list grows above what was added. -/
theorem bump_le {s : List Int} {m : Int} (h : ∀ n ∈ s, 0 ≤ n ∧ n ≤ m) (i : Int) : ∀ n ∈ bump s i, 0 ≤ n ∧ n ≤ m + 1 := by
  intro n hn
  by_cases hi : i.toNat < s.length
  · rcases List.mem_or_eq_of_mem_set hn with h1 | h1
    · have := h n h1; omega
    · have e : s.getD i.toNat 0 = s[i.toNat] := by rw [List.getD_eq_getElem?_getD, List.getElem?_eq_getElem hi]; rfl
      rw [e] at h1
      have := h _ (List.getElem_mem hi)
      omega
  · rw [bump, List.set_eq_of_length_le (by omega)] at hn
    have := h _ hn
    omega
theorem cost_pure (x : Inst) (p : List (List Int)) (hl : x.stops.length < 2 ^ 63) (hp : p.length < 2 ^ 63) (hr : ∀ r ∈ p, r.length < 2 ^ 63) : Pure P 30 [x.a, .agg [.t (.sl (p.map rowT))]] (.tup [.i (x.cost p).1, .i (x.cost p).2]) := by
  generalize hR : x.cost p = R
  have hpl : (p.map rowT).length = p.length := List.length_map _
  refine pure_of Try.func30 rfl rfl (by simp [Try.f30]) (by simp [bnd, bnd.bndL, Inst.a]) (by simp [bnd, bnd.bndL]) fun B hB hnx => ?_
  simp only [Try.f30] at hB ⊢
  rw [Inst.cost] at hR
  refine K_run hB 100 ?_
  simp [go_sem, Inst.a]
  refine K_call rfl rfl rfl (args := [x.a]) (f := 25) (by simp [go_sem, Inst.a]) (by simp [go_sem, hB]) ((may_pure x hl).spec _ _) ?_
  cases hm : x.may with
  | false =>
    rw [if_pos hm] at hR
    subst hR
    refine K_run hB 100 ?_
    simp [go_sem]
  | true =>
    rw [if_neg (by simp [hm])] at hR
    obtain ⟨q, hx⟩ := x.fit hm
    have hpq := hx.pairs
    have hfew := hx.few
    have hcars := hx.cars
    by_cases c1 : x.cars < p.length
    · rw [if_pos c1] at hR
      subst hR
      refine K_run hB 100 ?_
      simp [go_sem, hpl, c1]
    rw [if_neg c1] at hR
    have w1 := w64 (2 * x.pairs) (by omega)
    have w2 := w64 (2 * x.pairs + 1) (by omega)
    refine K_run hB 100 ?_
    simp [go_sem, hpl, c1]
    refine K_drawnG [4] [5] [] rfl (by rw [hB]; kernel_rfl) (by kernel_rfl) fun ht hf' => ?_
    have hml : 2 * x.pairs + 1 ≤ (mostLen : Int) := by show _ ≤ (4294967296 : Int); omega
    refine K_run hB 100 ?_
    simp [go_sem, ht, hf', w1, w2, hml, show 0 ≤ 2 * x.pairs + 1 by omega, hpl]
    have hrep : List.replicate (2 * x.pairs + 1).toNat [(.i 0 : T)] = ints (List.replicate (2 * x.pairs + 1).toNat 0) := by simp [ints]
    refine K_loopP (α := Nat × Int × List Int) (fun (k, all, seen) => k ≤ p.length ∧ seen.length = 2 * q + 1 ∧ x.costGo (p.drop k) all seen = R ∧ (0 ≤ all ∧ all ≤ 466719 * k) ∧ ∀ n ∈ seen, 0 ≤ n ∧ n ≤ 33 * k)
      (fun (k, all, seen) => ⟨sl [(2, .ptr 0 0), (6, .i all), (7, .ref 2), (33, .t (.sl (p.map rowT))), (34, .i p.length), (35, .i k)], ob [(0, .box x.cs), (2, .arr 1 (ints seen))], 3⟩) (fun a => p.length - a.1) (0, 0, List.replicate (2 * x.pairs + 1).toNat 0) ?_
      (Sub.of (by omega) (by simp) (by simp [go_sem]) (by simp [go_sem, hrep])) ?_
    · refine ⟨Nat.zero_le _, by rw [List.length_replicate]; omega, hR, by omega, fun n hn => ?_⟩
      rw [(List.mem_replicate.1 hn).2]; omega
    rintro ⟨k, all, seen⟩ ⟨h1, h2, h3, h4, h5⟩
    refine K_run hB 60 ?_
    simp [go_sem, hpl]
    refine fork_dec (fun hk => ?_) (fun hk => ?_)
    · rw [List.drop_eq_getElem_cons hk, Inst.costGo] at h3
      have hkk : IntKind.i64.wrap ((k : Int) + 1) = ((k + 1 : Nat) : Int) := by rw [w64 ((k : Int) + 1) (by omega)]; rfl
      have hrl := hr p[k] (List.getElem_mem hk)
      have hget : (p.map rowT)[k]'(by rw [hpl]; exact hk) = [.sl (ints p[k])] := by simp [rowT]
      generalize p[k] = r at *
      have hil : (ints r).length = r.length := List.length_map _
      have hte := times_pure x r hl hrl
      have hok := times_ok hx hm (r := r)
      by_cases c2 : r.length = 0
      · rw [if_pos c2] at h3
        subst h3
        simp [go_sem, hk, hpl, hget, hil, c2]
      rw [if_neg c2] at h3
      generalize x.times r = V at *
      simp [go_sem, hk, hpl, hget, hil, c2]
      refine K_call rfl rfl rfl (args := [x.a, .t (.sl (ints r))]) (f := 52) (by simp [go_sem, Inst.a]) (by simp [go_sem, hB]) ((hte).spec _ _) ?_
      by_cases c3 : V.2.2 = 0
      rotate_left
      · rw [if_pos c3] at h3
        subst h3
        refine K_run hB 100 ?_
        simp [go_sem, timesA, c3]
      rw [if_neg (by simp [c3])] at h3
      obtain ⟨o1, o2, o3, o4⟩ := hok c3
      have w3 := w64 (all + V.2.1) (by omega)
      have hbl := bumps_len r seen
      refine K_run hB 100 ?_
      simp [go_sem, timesA, c3, w3, hil]
      refine K_loopP (α := Nat × List Int) (fun (j, s) => j ≤ r.length ∧ s.length = 2 * q + 1 ∧ (r.drop j).foldl bump s = r.foldl bump seen ∧ ∀ n ∈ s, 0 ≤ n ∧ n ≤ 33 * k + j)
        (fun (j, s) => ⟨sl [(2, .ptr 0 0), (6, .i (all + V.2.1)), (7, .ref 2), (33, .t (.sl (p.map rowT))), (34, .i p.length), (35, .i k), (55, .t (.sl (ints r))), (56, .i r.length), (57, .i j)], ob [(0, .box x.cs), (2, .arr 1 (ints s))], 3⟩) (fun a => r.length - a.1) (0, seen) ⟨Nat.zero_le _, h2, rfl, fun n hn => by have := h5 n hn; omega⟩
        (Sub.of (by omega) (by simp) (by simp [go_sem]) (by simp [go_sem])) ?_
      rintro ⟨j, s⟩ ⟨i1, i2, i3, i4⟩
      refine K_run hB 60 ?_
      simp [go_sem, hil]
      refine fork_dec (fun hj => ?_) (fun hj => ?_)
      · rw [List.drop_eq_getElem_cons hj, List.foldl_cons] at i3
        have hjj : IntKind.i64.wrap ((j : Int) + 1) = ((j + 1 : Nat) : Int) := by rw [w64 ((j : Int) + 1) (by omega)]; rfl
        have hgetj := ints_getS r hj
        have hin := o1 r[j] (List.getElem_mem hj)
        generalize r[j] = i at *
        have hisl : (ints s).length = s.length := List.length_map _
        have hlt : i.toNat < s.length := by omega
        have hltI : i < (s.length : Int) := by omega
        have hgets := ints_getS s hlt
        have hsi := i4 _ (List.getElem_mem hlt)
        have w4 := w64 (s[i.toNat] + 1) (by omega)
        have hb : bump s i = s.set i.toNat (s[i.toNat] + 1) := by rw [bump, List.getD_eq_getElem?_getD, List.getElem?_eq_getElem hlt]; rfl
        have hbi : ints (bump s i) = (ints s).set i.toNat [.i (s[i.toNat] + 1)] := by rw [hb, ints, ints, List.map_set]
        have hbl1 := bump_len s i
        have hble := bump_le (m := 33 * k + j) i4 i
        generalize s[i.toNat] = m at *
        simp [go_sem, hj, hil, hgetj, show 0 ≤ i by omega, hltI, hisl, hgets, w4, hjj, hlt, Nat.mod_one]
        refine Next.mk (j + 1, bump s i) ⟨by simp only; omega, by simp only; omega, i3, fun n hn => by have := hble n hn; simp only; omega⟩ (Sub.of (by omega) (by simp) (by simp [go_sem]) (by simp [go_sem, hbi])) (by simp only; omega)
      · have : j = r.length := by omega
        subst this
        rw [List.drop_length, List.foldl_nil] at i3
        subst i3
        simp [go_sem, hkk]
        exact Next.mk (k + 1, all + V.2.1, r.foldl bump seen) ⟨by simp only; omega, by simp only; omega, h3, by simp only; omega, fun n hn => by have := i4 n hn; simp only; omega⟩ (Sub.of (by omega) (by simp) (by simp [go_sem]) (by simp [go_sem])) (by simp only; omega)
    · have : k = p.length := by omega
      subst this
      rw [List.drop_length, Inst.costGo] at h3
      have hsl : seen.length < 2 ^ 62 := by omega
      have hc1 := containsI_pure seen (fun n => decide (1 < n)) 53 hsl twice_pure
      have hc2 := contains1_pure (seen.drop 1) 0 (by rw [List.length_drop]; omega)
      have hdr : ints (seen.drop 1) = (ints seen).drop 1 := by simp [ints, List.map_drop]
      have hisl : (ints seen).length = seen.length := List.length_map _
      have hone : ∀ y ∈ ints seen, y.length = 1 := by
        intro y hy
        simp only [ints, List.mem_map] at hy
        obtain ⟨n, _, rfl⟩ := hy
        rfl
      simp [go_sem]
      refine K_imp (t := ⟨sl [(6, .i all), (7, .t (.sl (ints seen))), (70, .t (.sl (ints seen))), (71, .fn (.func 53) [] [])], noObj, 3⟩) ((Imp.freeze (q := 2) (sz := 1) (es := ints seen) (by simp [go_sem])).trans (Imp.of (by simp [go_sem, frz1]) (fun i => .inl rfl) rfl)) ?_
      refine K_call rfl rfl rfl (args := [.t (.sl (ints seen)), .fn (.func 53) [] []]) (f := 54) (by simp [go_sem]) (by simp [go_sem, hB]) (hc1.spec _ _) ?_
      cases e1 : seen.any fun n => decide (1 < n) with
      | true =>
        rw [if_pos e1] at h3
        subst h3
        refine K_run hB 100 ?_
        simp [go_sem]
      | false =>
        rw [if_neg (by simp [e1])] at h3
        refine K_run hB 100 ?_
        simp [go_sem, hisl, h2, if_pos hone, hone, show (1 : Int) ≤ 2 * (q : Int) + 1 by omega]
        have hdr2 : (ints seen).tail = ints seen.tail := by simp [ints]
        cases e2 : (seen.drop 1).any fun n => decide (n = 0) with
        | true =>
          rw [if_pos e2] at h3
          rw [e2] at hc2
          subst h3
          refine K_call rfl rfl rfl (args := [.t (.sl (ints (seen.drop 1))), .i 0]) (f := 55) (by simp [go_sem, hdr2]) (by simp [go_sem, hB]) (hc2.spec _ _) ?_
          refine K_run hB 100 ?_
          simp [go_sem]
        | false =>
          rw [if_neg (by rw [e2]; simp)] at h3
          rw [e2] at hc2
          subst h3
          refine K_call rfl rfl rfl (args := [.t (.sl (ints (seen.drop 1))), .i 0]) (f := 55) (by simp [go_sem, hdr2]) (by simp [go_sem, hB]) (hc2.spec _ _) ?_
          refine K_run hB 100 ?_
          simp [go_sem]
end Go.Proofs.Ytmmdnflngbkjnaa

/- BoundSteps, BoundWays: what the laws give. -/
set_option maxRecDepth 4000
namespace Go.Proofs.Ytmmdnflngbkjnaa
open Go Go.Proofs.Ytmmdnflngbkjnaa.R
theorem canB_mem {f : Nat → Bool} : ∀ {n : Nat} {j : Int}, j ∈ canB f n → ∃ k : Nat, j = k ∧ k < n ∧ f k = true
  | 0, j, h => by cases h
  | n + 1, j, h => by
    rw [canB, List.mem_append] at h
    rcases h with h | h
    · obtain ⟨k, h1, h2, h3⟩ := canB_mem h
      exact ⟨k, h1, by omega, h3⟩
    · split at h
      · rename_i hf
        rw [List.mem_singleton] at h
        exact ⟨n, h, by omega, hf⟩
      · cases h
theorem moves_mem {x : Inst} {s : State} {j : Int} (h : j ∈ x.moves s) : (x.move s j).2.2 = true := by
  rw [moves_can] at h
  obtain ⟨k, rfl, _, h3⟩ := canB_mem h
  exact h3
theorem moves_len (x : Inst) (s : State) : (x.moves s).length ≤ x.stops.length := by
  rw [moves_can]
  exact canB_len _ _
theorem move_cost {x : Inst} {s : State} {j : Int} (h : (x.move s j).2.2 = true) : 0 ≤ (x.move s j).2.1 ∧ (x.move s j).2.1 ≤ 14143 := by
  obtain ⟨_, _, _, _, e⟩ := move_is h
  rw [e]
  exact far_le _ _
end Go.Proofs.Ytmmdnflngbkjnaa

/- BoundWays: what the law gives. -/
set_option maxRecDepth 4000
namespace Go.Proofs.Ytmmdnflngbkjnaa
open Go Go.Proofs.Ytmmdnflngbkjnaa.R
theorem sumI_two {a b : Int} (ha : 0 ≤ a) (hb : 0 ≤ b) (h : a + b ≤ 1152921504606846976) : sumI [a, b] = a + b := by
  simp only [sumI, List.foldl_cons, List.foldl_nil, sum1]
  omega
/-- Moves that can be followed: as costs that don't grow too great. -/
theorem goes_app (x : Inst) : ∀ (l m : List Int) (s : State) (c : Int), x.goes (l ++ m) s c = (x.goes l s c).bind fun r => x.goes m r.1 r.2
  | [], m, s, c => rfl
  | j :: l, m, s, c => by
    rw [List.cons_append, Inst.goes, Inst.goes]
    split
    · exact goes_app x l m _ _
    · rfl
theorem goes_facts (x : Inst) : ∀ (l : List Int) (s : State) (c : Int) (s' : State) (c' : Int), s.seenAt → 0 ≤ c → c + 14143 * l.length < 9223372036854775808 → x.goes l s c = some (s', c') →
    s'.seenAt ∧ c ≤ c' ∧ c' ≤ c + 14143 * l.length ∧ lowP x.near s.can + c ≤ c' + lowP x.near s'.can
  | [], s, c, s', c', hs, h0, _, h => by
    rw [Inst.goes] at h
    cases h
    refine ⟨hs, Int.le_refl _, by simp, by omega⟩
  | j :: l, s, c, s', c', hs, h0, hlt, h => by
    rw [Inst.goes] at h
    split at h
    · rename_i hm
      have h1 := move_cost hm
      have h2 := low_step hs hm
      rw [List.length_cons] at hlt
      rw [w64 _ (by omega)] at h
      obtain ⟨g1, g2, g3, g4⟩ := goes_facts x l _ _ s' c' (seen_step hm) (by omega) (by omega) h
      rw [List.length_cons]
      exact ⟨g1, by omega, by omega, by omega⟩
    · cases h
theorem seen_root (x : Inst) : x.rootS.seenAt := by
  unfold Inst.rootS
  split <;> exact .inl rfl
theorem goes_ok (x : Inst) : ∀ (l : List Int) (s : State) (c : Int) (s' : State) (c' : Int), s.ok → x.goes l s c = some (s', c') → s'.ok
  | [], s, c, s', c', hs, h => by rw [Inst.goes] at h; cases h; exact hs
  | j :: l, s, c, s', c', hs, h => by
    rw [Inst.goes] at h
    split at h
    · exact goes_ok x l _ _ s' c' (move_ok x j hs) h
    · cases h
theorem end_cost {x : Inst} {s : State} (h : (x.endS s).2 = true) : 0 ≤ (x.endS s).1 ∧ (x.endS s).1 ≤ 14143 := by
  obtain ⟨_, h | h⟩ := end_is h
  · rw [h.2.2]; omega
  · rw [h.2.2.2.2.2]; exact far_le _ _
theorem ints_take (l : List Int) (k : Nat) : (ints l).take k = ints (l.take k) := by simp [ints, List.map_take]
theorem ints_one (l : List Int) : ∀ y ∈ ints l, y.length = 1 := by
  intro y hy
  simp only [ints, List.mem_map] at hy
  obtain ⟨n, _, rfl⟩ := hy
  rfl
end Go.Proofs.Ytmmdnflngbkjnaa

/- Nodes with paths of their own; once of each state. -/
set_option maxRecDepth 4000
namespace Go.Proofs.Ytmmdnflngbkjnaa
open Go Go.Proofs.Ytmmdnflngbkjnaa.R
theorem clone_spec (l : List Int) (hl : l.length < 4294967296) (σ : Nat → AObj) (nx : Nat) : CallSpec P 49 [.t (.sl (ints l))] σ nx (.ref nx) (oput σ nx (.arr 1 (ints l))) (nx + 1) := by
  refine CallQ.spec (spec_of Try.func49 rfl rfl (by simp [Try.f49]) fun B hB hnx hσ => K_after ?_)
  simp only [Try.f49] at hB ⊢
  have hil : (ints l).length = l.length := List.length_map _
  have hne : ints l = [] ↔ l = [] := by simp [ints]
  have h1 := ints_one l
  have hmost : l.length ≤ mostLen := by show l.length ≤ 4294967296; omega
  refine K_run hB 100 ?_
  simp [go_sem]
  refine K_nilEq (es := ints l) rfl rfl (by simp [go_sem, hB]) tt30 rfl (by simp [go_sem]) fun b hb => ?_
  cases b with
  | true =>
    have e : l = [] := Decidable.byContradiction fun h => by have := hb (fun h' => h (hne.1 h')); cases this
    have e2 : ints l = [] := hne.2 e
    refine K_run hB 100 ?_
    simp [go_sem]
    refine ⟨_, fun a w hr => rel_own (t := 2) (sz := 1) (by simp [go_sem]) hr, ?_⟩
    simp [go_sem, e2]
  | false =>
    refine K_run hB 100 ?_
    simp [go_sem, hil, hne, hmost, if_pos h1]
    refine ⟨_, Imp.self, ?_⟩
    simp [go_sem]
theorem own_pure (n : Node) (hl : n.path.length < 4294967296) : Pure P 34 [n.a] (n.a) := by
  refine pure_of Try.func34 rfl rfl (by simp [Try.f34]) (by simp [bnd, bnd.bndL, Node.a, Node.cs]) (by simp [bnd, bnd.bndL, Node.a, Node.cs]) fun B hB hnx => ?_
  simp only [Try.f34] at hB ⊢
  refine K_run hB 100 ?_
  simp [go_sem, Node.a, Node.cs]
  refine K_call rfl rfl rfl (args := [.t (.sl (ints n.path))]) (f := 49) (by simp [go_sem]) (by simp [go_sem, hB]) (clone_spec n.path hl _ _) ?_
  refine K_run hB 100 ?_
  simp [go_sem]
end Go.Proofs.Ytmmdnflngbkjnaa

/- The plan that a tour is. -/
set_option maxRecDepth 4000
namespace Go.Proofs.Ytmmdnflngbkjnaa
open Go Go.Proofs.Ytmmdnflngbkjnaa.R
def lowI (n : Int) : Bool := decide (n ≤ 0)
theorem idxI_at (p : Int → Bool) : ∀ (i : Nat) (l : List Int), idxI p i l < 0 ∨ ∃ j, j < l.length ∧ idxI p i l = ((i + j : Nat) : Int) ∧ p (l.getD j 0) = true ∧ ∀ n ∈ l.take j, p n = false
  | _, [] => .inl (by simp [idxI])
  | i, n :: l => by
    rw [idxI]
    cases h : p n with
    | true => exact .inr ⟨0, by simp, by simp, by simpa using h, by simp⟩
    | false =>
      rcases idxI_at p (i + 1) l with h1 | ⟨j, hj, h1, h2, h3⟩
      · exact .inl (by simpa using h1)
      · refine .inr ⟨j + 1, by simpa using hj, ?_, by simpa using h2, ?_⟩
        · rw [if_neg (by simp), h1]
          omega
        · intro m hm
          rw [List.take_succ_cons] at hm
          rcases List.mem_cons.1 hm with rfl | hm
          · exact h
          · exact h3 m hm
def splitF : Nat → List Int → Int → Bool → List (List Int) → List (List Int) × Int
  | 0, _, _, _, _ => ([], 2)
  | f + 1, t, last, order, acc =>
    if idxI lowI 0 t < 0 then (if (order || decide (t.getD 0 0 ≤ last)) = true then ([], 8) else (acc ++ [t], 0))
    else if idxI lowI 0 t = 0 ∨ t.getD (idxI lowI 0 t).toNat 0 < 0 ∨ idxI lowI 0 t = (t.length : Int) - 1 then ([], 2)
    else splitF f (t.drop ((idxI lowI 0 t).toNat + 1)) (t.getD 0 0) (order || decide (t.getD 0 0 ≤ last)) (acc ++ [t.take (idxI lowI 0 t).toNat])
def splitR (t : List Int) : List (List Int) × Int := if t.length = 0 then ([], 0) else splitF (t.length + 1) t 0 false []
theorem low1_pure (n : Int) : Pure P 51 [.i n] (.b (lowI n)) := by
  refine pure_of Try.func51 rfl rfl (by simp [Try.f51]) (by simp [bnd, bnd.bndL]) (by simp [bnd, bnd.bndL]) fun B hB hnx => ?_
  simp only [Try.f51] at hB ⊢
  refine K_run hB 100 ?_
  simp [go_sem, lowI]
theorem split_pure (t : List Int) (ht : t.length < 2 ^ 31) : Pure P 29 [.t (.sl (ints t))] (.tup [.agg [.t (.sl ((splitR t).1.map rowT))], .i (splitR t).2]) := by
  generalize hR : splitR t = R
  have hil : (ints t).length = t.length := List.length_map _
  refine pure_of Try.func29 rfl rfl (by simp [Try.f29]) (by simp [bnd, bnd.bndL]) (by simp [bnd, bnd.bndL]) fun B hB hnx => ?_
  simp only [Try.f29] at hB ⊢
  rw [splitR] at hR
  refine K_run hB 100 ?_
  simp [go_sem]
  refine K_scopeL (α := Unit) (fun _ => 0) (fun _ => False) (fun _ => ⟨fun _ => .any, noObj, 0⟩) (fun _ => 0) (fun _ h => h.elim) ?_ (fun _ h => h.elim)
  by_cases c0 : t.length = 0
  · rw [if_pos c0] at hR
    subst hR
    refine K_run hB 100 ?_
    simp [go_sem, hil, c0]
  rw [if_neg c0] at hR
  refine K_run hB 100 ?_
  simp [go_sem, hil, c0]
  refine K_call rfl rfl rfl (args := [.t (.sl (ints t))]) (f := 49) (by simp [go_sem]) (by simp [go_sem, hB]) (clone_spec t (by omega) _ _) ?_
  refine K_run hB 100 ?_
  simp [go_sem]
  refine K_loopP (α := Nat × List Int × Int × Bool × List (List Int) × (Nat → AObj) × Nat × Nat) (fun (f, t', last, order, acc, σ, nx, q) => t'.length ≠ 0 ∧ t'.length < f ∧ acc.length + t'.length ≤ t.length ∧ splitF f t' last order acc = R ∧ σ 0 = .box [.fsl []] ∧ σ 1 = .box [.ref q] ∧ σ q = .arr 1 (acc.map rowT) ∧ 1 < q ∧ q < nx)
    (fun (f, t', last, order, acc, σ, nx, q) => ⟨sl [(0, .t (.sl (ints t'))), (2, .ptr 0 0), (4, .ptr 1 0), (5, .b order), (6, .i last)], σ, nx⟩) (fun a => a.1) (t.length + 1, t, 0, false, [], _, 4, 3) ?_
    ((Imp.freeze (q := 2) (sz := 1) (es := ints t) (by simp [go_sem])).trans ((Imp.ownB (b := 1) (off := 0) (sz := 1) (cs := [.fsl []]) (by simp [go_sem, frzO, frz1, frz1.frzL]) rfl).trans (Imp.slots (by simp [go_sem, frz1]) rfl rfl))) ?_
  · exact ⟨c0, by omega, by simp, hR, by simp [oput, frzO, frz1, frz1.frzL], by simp [oput], by simp [oput], by omega, by omega⟩
  rintro ⟨f, t', last, order, acc, σ, nx, q⟩ ⟨g1, g2, g3, g4, g5, g6, g7, g8, g9⟩
  obtain ⟨f, rfl⟩ : ∃ f', f = f' + 1 := ⟨f - 1, by omega⟩
  have hil2 : (ints t').length = t'.length := List.length_map _
  have hlt0 : 0 < t'.length := by omega
  have hix := indexI_pure t' lowI 51 (by omega) low1_pure
  have hat := idxI_at lowI 0 t'
  rw [splitF] at g4
  have hhd : t'.getD 0 0 = t'[0]'hlt0 := by rw [List.getD_eq_getElem?_getD, List.getElem?_eq_getElem hlt0]; rfl
  have hget0 := ints_getS t' (i := 0) hlt0
  rw [hhd] at g4
  generalize idxI lowI 0 t' = e at *
  refine K_run hB 100 ?_
  simp [go_sem, hil2]
  refine K_call rfl rfl rfl (args := [.t (.sl (ints t')), .fn (.func 51) [] []]) (f := 50) (by simp [go_sem]) (by simp [go_sem, hB]) ((hix).spec _ _) ?_
  have hm1 : (acc.map rowT).length + 1 ≤ mostLen := by rw [List.length_map]; show _ ≤ 4294967296; omega
  have hm2 : acc.length + 1 ≤ mostLen := by show _ ≤ 4294967296; omega
  have hone : ∀ y ∈ ints t', y.length = 1 := by
    intro y hy
    simp only [ints, List.mem_map] at hy
    obtain ⟨n, _, rfl⟩ := hy
    rfl
  have htl : List.take t'.length (ints t') = ints t' := by rw [← hil2, List.take_length]
  by_cases c1 : e < 0
  · rw [if_pos c1] at g4
    cases order <;> by_cases c2 : t'[0] ≤ last
    all_goals
      simp only [c2, Bool.false_or, Bool.true_or, decide_true, decide_false, if_true, Bool.false_eq_true, if_false] at g4
      subst g4
      refine K_run hB 100 ?_
      simp [go_sem, c1, hil2, hlt0, hget0, c2]
      refine K_drawnT [7, 9] rfl (by rw [hB]; kernel_rfl) (by kernel_rfl) fun ht => ?_
      refine K_run hB 100 ?_
      simp [go_sem, ht, hil2, g5, g6, g7, hm1, hm2, if_pos hone, hone, htl, show ¬ 1 = nx by omega, show ¬ 1 = q by omega, show ¬ 0 = nx by omega, show ¬ 0 = q by omega, show ¬ nx = 0 by omega, show ¬ nx = 1 by omega, rowT]
  · rw [if_neg c1] at g4
    obtain ⟨j, hj, rfl, k2, k3⟩ := hat.resolve_left c1
    have hgetj := ints_getS t' hj
    have hge : t'.getD j 0 = t'[j] := by rw [List.getD_eq_getElem?_getD, List.getElem?_eq_getElem hj]; rfl
    simp only [Nat.zero_add, Int.toNat_natCast] at g4 c1 ⊢
    rw [hge] at g4
    have hjI : (j : Int) < t'.length := by omega
    have hjle : j ≤ t'.length := by omega
    have htj : List.take j (ints t') = ints (t'.take j) := by simp [ints, List.map_take]
    have hdj : List.drop (j + 1) (ints t') = ints (t'.drop (j + 1)) := by simp [ints, List.map_drop]
    have wj : IntKind.i64.wrap ((j : Int) + 1) = ((j + 1 : Nat) : Int) := by rw [w64 _ (by omega)]; rfl
    have w1 := w64 ((t'.length : Int) - 1) (by omega)
    by_cases d1 : j = 0
    · rw [if_pos (.inl (by omega))] at g4
      subst g4
      refine K_run hB 100 ?_
      simp [go_sem, c1, hil2, d1, g5]
    by_cases d2 : t'[j] < 0
    · rw [if_pos (.inr (.inl d2))] at g4
      subst g4
      refine K_run hB 100 ?_
      simp [go_sem, c1, hil2, d1, hj, hgetj, d2, g5]
    by_cases d3 : (j : Int) = (t'.length : Int) - 1
    · rw [if_pos (.inr (.inr d3))] at g4
      subst g4
      have hv : IntKind.i64.wrap ((t'.length : Int) - 1) = j := by rw [w1]; omega
      refine K_run hB 100 ?_
      simp [go_sem, c1, hil2, d1, hj, hgetj, d2, hv, g5]
    rw [if_neg (by omega)] at g4
    refine K_run hB 100 ?_
    simp [go_sem, c1, hil2, d1, hj, hgetj, d2, w1, d3]
    cases order <;> by_cases c2 : t'[0] ≤ last
    all_goals
      simp only [c2, Bool.false_or, Bool.true_or, decide_true, decide_false] at g4
      simp [go_sem, c1, hil2, hlt0, hget0, c2]
      refine K_drawnT [7, 9] rfl (by rw [hB]; kernel_rfl) (by kernel_rfl) fun ht => ?_
      refine K_run hB 100 ?_
      simp [go_sem, ht, hil2, g5, g6, g7, hm1, hm2, if_pos hone, hone, hjle, htj, hdj, show ¬ 1 = nx by omega, show ¬ 1 = q by omega, show ¬ 0 = nx by omega, show ¬ 0 = q by omega, show ¬ j = t'.length by omega, wj, show 0 ≤ (j : Int) + 1 by omega, show (j : Int) + 1 ≤ t'.length by omega]
      refine Next.mk (f, t'.drop (j + 1), t'[0], _, acc ++ [t'.take j], _, nx + 1, nx) ⟨?_, ?_, ?_, g4, ?_, ?_, ?_, ?_, ?_⟩ (Imp.slots (by simp [go_sem, hdj, c2]) rfl rfl) (by simp only; omega)
      · simp only [List.drop_eq_nil_iff]; omega
      · simp only [List.length_drop]; omega
      · simp only [List.length_drop, List.length_append, List.length_cons, List.length_nil]; omega
      · simp [oput, show ¬ 0 = nx by omega, show ¬ 0 = q by omega, g5]
      · simp [oput]
      · simp [oput, show ¬ nx = 1 by omega, rowT]
      · simp only; omega
      · simp only; omega
end Go.Proofs.Ytmmdnflngbkjnaa

/- Once of each state: the program's, by a map. -/
set_option maxRecDepth 4000
namespace Go.Proofs.Ytmmdnflngbkjnaa
open Go Go.Proofs.Ytmmdnflngbkjnaa.R
def sIdx (s : State) : List Node → Option Nat
  | [] => none
  | m :: l => if m.s = s then some 0 else (sIdx s l).map (· + 1)
def once1 (out : List Node) (n : Node) : List Node := match sIdx n.s out with
  | none => out ++ [n]
  | some i => if n.cost < (out.getD i n).cost then out.set i n else out
def onceL (l : List Node) : List Node := l.foldl once1 []
def State.v (s : State) : Value := .agg #[.int .i64 s.spot, .int .i64 s.car, .int .i64 s.time, .int .i64 s.load, .int .i64 s.first, .int .u64 s.must, .int .u64 s.can, .int .u64 s.on]
theorem State.v_inj {a b : State} (h : a.v = b.v) : a = b := by
  simp only [State.v, Value.agg.injEq, Array.mk.injEq, List.cons.injEq, Value.int.injEq, and_true, true_and] at h
  cases a; cases b
  simp only [State.mk.injEq]
  simp only at h
  omega
theorem State.plain (s : State) : plainA s.a = some s.v := rfl
def keysM : Nat → List Node → List (Value × AV)
  | _, [] => []
  | k, m :: l => (m.s.v, .i k) :: keysM (k + 1) l
theorem findM_keys (s : State) : ∀ (k : Nat) (out : List Node), findM s.v (keysM k out) = (sIdx s out).map fun i => (i, .i ((k + i : Nat) : Int))
  | _, [] => rfl
  | k, m :: l => by
    rw [keysM, findM, sIdx, findM_keys s (k + 1) l]
    by_cases h : m.s = s
    · rw [if_pos (by rw [h]), if_pos h]; rfl
    · rw [if_neg (fun e => h (State.v_inj e)), if_neg h, Option.map_map, Option.map_map]
      congr 1
      funext i
      simp only [Function.comp]
      rw [show k + 1 + i = k + (i + 1) by omega]
theorem keysM_app (n : Node) : ∀ (k : Nat) (out : List Node), keysM k (out ++ [n]) = keysM k out ++ [(n.s.v, .i ((k + out.length : Nat) : Int))]
  | _, [] => rfl
  | k, m :: l => by
    rw [List.cons_append, keysM, keysM, keysM_app n (k + 1) l, List.cons_append, List.length_cons, show k + 1 + l.length = k + (l.length + 1) by omega]
theorem keysM_set {n : Node} : ∀ (k i : Nat) (out : List Node) (h : i < out.length), out[i].s = n.s → keysM k (out.set i n) = keysM k out
  | _, _, [], h, _ => by simp at h
  | k, 0, m :: l, _, e => by simp only [List.set_cons_zero, keysM]; rw [show m.s = n.s from e]
  | k, i + 1, m :: l, h, e => by
    rw [List.set_cons_succ, keysM, keysM, keysM_set (k + 1) i l (by simpa using h) (by simpa using e)]
theorem sIdx_some {s : State} : ∀ {out : List Node} {i : Nat}, sIdx s out = some i → ∃ h : i < out.length, out[i].s = s
  | [], i, h => by simp [sIdx] at h
  | m :: l, i, h => by
    rw [sIdx] at h
    split at h
    · rename_i e
      cases h
      exact ⟨by simp, e⟩
    · obtain ⟨j, h1, rfl⟩ := Option.map_eq_some_iff.1 h
      obtain ⟨h2, h3⟩ := sIdx_some h1
      exact ⟨by simpa using h2, by simpa using h3⟩
theorem keys_tell (s : State) (k : Nat) (out : List Node) : TellM P 29 s.a s.v (keysM k out) := by
  induction out generalizing k with
  | nil => intro e h; cases h
  | cons m l ih =>
    intro e h
    rw [keysM] at h
    rcases List.mem_cons.1 h with rfl | h
    · refine ⟨m.s.a, m.s.plain, ?_⟩
      rw [state_eq]
      congr 1
      rw [decide_eq_decide]
      exact ⟨fun h => by rw [h], fun h => (State.v_inj h).symm⟩
    · exact ih (k + 1) e h
theorem state_key (s : State) : ckA P 10000 29 s.a = true := by kernel_rfl
theorem once1_len (out : List Node) (n : Node) : (once1 out n).length ≤ out.length + 1 := by
  unfold once1
  split
  · simp
  · split <;> simp
def nodesT (l : List Node) : List (List T) := l.map Node.t
theorem nodesT_get (l : List Node) {k : Nat} (h : k < l.length) : (nodesT l)[k]'(by rw [nodesT, List.length_map]; exact h) = l[k].t := by simp [nodesT]
theorem nodesT_len (l : List Node) : ∀ y ∈ nodesT l, y.length = 10 := by
  intro y hy
  simp only [nodesT, List.mem_map] at hy
  obtain ⟨n, _, rfl⟩ := hy
  rfl
/-- Nodes as they may be. -/
structure Node.Fine (n : Node) : Prop where
  ok : n.s.ok
  len : n.path.length < 2 ^ 31
theorem once_pure (l : List Node) (hl : l.length < 2 ^ 31) (hn : ∀ n ∈ l, n.Fine) : Pure P 15 [.t (.sl (nodesT l))] (.t (.sl (nodesT (onceL l)))) := by
  generalize hR : onceL l = R
  refine pure_of Try.func15 rfl rfl (by simp [Try.f15]) (by simp [bnd, bnd.bndL]) (by simp [bnd, bnd.bndL]) fun B hB hnx => ?_
  simp only [Try.f15] at hB ⊢
  have hil : (nodesT l).length = l.length := List.length_map _
  have hgt : ∀ (k : Nat) (h : k < l.length), (nodesT l)[k]'(by rw [hil]; exact h) = l[k].t := fun k h => nodesT_get l h
  generalize hX : nodesT l = X at *
  have hmost : mostLen = 4294967296 := rfl
  refine K_run hB 100 ?_
  simp [go_sem, hil]
  refine K_own 4 10 (by simp [go_sem]) ?_
  refine K_loopP (α := Nat × List Node × Nat × (Nat → AObj) × Nat) (fun (k, out, j, σ, nx) => k ≤ l.length ∧ (l.drop k).foldl once1 out = R ∧ out.length ≤ k ∧ σ 0 = .map (keysM 0 out) ∧ σ j = .arr 10 (nodesT out) ∧ 0 < j ∧ j < nx)
    (fun (k, out, j, σ, nx) => ⟨sl [(3, .mapr 0), (4, .ref j), (10, .t (.sl X)), (11, .i l.length), (12, .i k)], σ, nx⟩) (fun a => l.length - a.1) (0, [], 1, _, 2) ?_ (Imp.slots (by simp [go_sem, hil]) rfl rfl) ?_
  · exact ⟨Nat.zero_le _, hR, Nat.le_refl _, by simp [oput, keysM], by simp [oput, nodesT], by omega, by omega⟩
  rintro ⟨k, out, j, σ, nx⟩ ⟨g1, g2, g3, g4, g5, g6, g7⟩
  refine K_run hB 60 ?_
  simp [go_sem]
  refine fork_dec (fun hk => ?_) (fun hk => ?_)
  · have hkk : IntKind.i64.wrap ((k : Int) + 1) = ((k + 1 : Nat) : Int) := by rw [w64 ((k : Int) + 1) (by omega)]; rfl
    have hget : ∀ h : k < X.length, X[k]'h = l[k].t := fun h => hgt k hk
    rw [List.drop_eq_getElem_cons hk, List.foldl_cons] at g2
    have hfine := hn l[k] (List.getElem_mem _)
    generalize l[k] = n at *
    have hown := own_pure n (by have := hfine.len; omega)
    simp [go_sem, hil, hk, hget, Node.t, g5]
    refine K_lookup (kt := 29) (et := 3) (es := keysM 0 out) (u := n.s.v) (m := 0) (r := match sIdx n.s out with | some i => .tup [.i i, .b true] | none => .tup [.i 0, .b false]) rfl rfl (by simp [go_sem, hB]) tt70 rfl tt3 (by kernel_rfl) (by simp [go_sem]) (by simp [go_sem, g4, show ¬ 0 = nx by omega]) (by simp [go_sem]; exact n.s.plain) (by simp [go_sem]; exact state_key n.s) (by simp [go_sem]; exact keys_tell n.s 0 out) ?_ ?_
    · rw [lookA, findM_keys]
      cases sIdx n.s out with
      | none => simp [go_sem]
      | some i => simp
    have ho : once1 out n = match sIdx n.s out with
      | none => out ++ [n]
      | some i => if n.cost < (out.getD i n).cost then out.set i n else out := rfl
    have hlen : (nodesT out).length = out.length := List.length_map _
    have hnj : ¬ j = nx := by omega
    have hn0 : ¬ 0 = nx := by omega
    have h0j : ¬ 0 = j := by omega
    cases hi : sIdx n.s out with
    | none =>
      rw [hi] at ho
      simp only at ho
      rw [ho] at g2
      have hcap : out.length + 1 ≤ mostLen := by omega
      refine K_run hB 100 ?_
      simp [go_sem, g5, hlen, hnj]
      refine K_mapSet (kt := 29) (et := 3) (es := keysM 0 out) (u := n.s.v) (m := 0) rfl rfl (by simp [go_sem, hB]) tt70 rfl (by kernel_rfl) (by simp [go_sem]) (by simp [go_sem, g4, hn0]) (by simp [go_sem]; exact n.s.plain) (by simp [go_sem]; exact state_key n.s) (by simp [go_sem]; exact keys_tell n.s 0 out) (.inl (by rw [findM_keys, hi]; rfl)) ?_
      refine K_run hB 100 ?_
      simp [go_sem, show ¬ nx = 0 by omega]
      refine K_call rfl rfl rfl (args := [n.a]) (f := 34) (by simp [go_sem, Node.a, Node.cs]) (by simp [go_sem, hB]) ((hown).spec _ _) ?_
      refine K_run hB 100 ?_
      simp [go_sem, Node.a, Node.cs, g5, hlen, hcap, hnj, hkk, h0j, show ¬ j = 0 by omega]
      refine Next.mk (k + 1, out ++ [n], nx + 1, _, nx + 2) ?_ (Imp.slots (by simp [go_sem]) rfl rfl) (by simp only; omega)
      refine ⟨by simp only; omega, g2, by simp only [List.length_append, List.length_cons, List.length_nil]; omega, ?_, ?_, by simp only; omega, by simp only; omega⟩
      · simp [oput, hn0, h0j, setM, findM_keys, hi, keysM_app]
      · simp [oput, nodesT, Node.t]
    | some i =>
      obtain ⟨hil2, his⟩ := sIdx_some hi
      rw [hi] at ho
      simp only at ho
      have hgi : ∀ h : i < (nodesT out).length, (nodesT out)[i]'h = out[i].t := fun h => nodesT_get out hil2
      have hgd : out.getD i n = out[i] := by rw [List.getD_eq_getElem?_getD, List.getElem?_eq_getElem hil2]; rfl
      rw [hgd] at ho
      have q1 : i * 10 / 10 = i := by omega
      have q2 : (i * 10 + 8) / 10 = i := by omega
      have q3 : (i * 10 + 8) % 10 = 8 := by omega
      have q4 : i * 10 % 10 = 0 := by omega
      have q5 : (i : Int) < out.length := by omega
      refine K_run hB 100 ?_
      simp [go_sem]
      refine K_drawn [] rfl (by rw [hB]; kernel_rfl) ?_
      by_cases c1 : n.cost < out[i].cost
      · rw [if_pos c1] at ho
        rw [ho] at g2
        refine K_run hB 100 ?_
        simp [go_sem, g5, hlen, hnj, hgi, q2, q3, q5, hil2, Node.t, c1]
        refine K_call rfl rfl rfl (args := [n.a]) (f := 34) (by simp [go_sem, Node.a, Node.cs]) (by simp [go_sem, hB]) ((hown).spec _ _) ?_
        refine K_run hB 100 ?_
        simp [go_sem, Node.a, Node.cs, g5, hlen, hnj, hgi, q1, q4, q5, hil2, Node.t, hkk]
        refine Next.mk (k + 1, out.set i n, j, _, nx + 1) ?_ (Imp.slots (by simp [go_sem]) rfl rfl) (by simp only; omega)
        refine ⟨by simp only; omega, g2, by simp only [List.length_set]; omega, ?_, ?_, by simp only; omega, by simp only; omega⟩
        · rw [keysM_set 0 i out hil2 his]
          simp [oput, hn0, h0j, g4]
        · simp [oput, nodesT, Node.t, List.map_set]
      · rw [if_neg c1] at ho
        rw [ho] at g2
        refine K_run hB 100 ?_
        simp [go_sem, g5, hlen, hnj, hgi, q2, q3, q5, hil2, Node.t, c1, hkk]
        refine Next.mk (k + 1, out, j, _, nx + 1) ?_ (Imp.slots (by simp [go_sem]) rfl rfl) (by simp only; omega)
        refine ⟨by simp only; omega, g2, by simp only; omega, ?_, ?_, by simp only; omega, by simp only; omega⟩
        · simp [oput, hn0, g4]
        · simp [oput, hnj, g5]
  · have : k = l.length := by omega
    subst this
    rw [List.drop_length, List.foldl_nil] at g2
    subst g2
    simp [go_sem, g5]
end Go.Proofs.Ytmmdnflngbkjnaa

/- Once of each state: the document's; whether two lists of nodes are the same; few. -/
set_option maxRecDepth 4000
namespace Go.Proofs.Ytmmdnflngbkjnaa
open Go Go.Proofs.Ytmmdnflngbkjnaa.R
def lastF (s : State) : Nat → List Node → Int → Int
  | _, [], v => v
  | i, m :: l, v => lastF s (i + 1) l (if m.s = s then (i : Int) else v)
theorem lastF_no {s : State} : ∀ (i : Nat) (l : List Node) (v : Int), (∀ m ∈ l, m.s ≠ s) → lastF s i l v = v
  | _, [], _, _ => rfl
  | i, m :: l, v, h => by rw [lastF, if_neg (h m List.mem_cons_self), lastF_no (i + 1) l v fun x hx => h x (List.mem_cons_of_mem _ hx)]
theorem lastF_idx {s : State} : ∀ (i : Nat) (l : List Node) (v : Int), (l.map Node.s).Nodup → lastF s i l v = match sIdx s l with | some j => ((i + j : Nat) : Int) | none => v
  | _, [], _, _ => rfl
  | i, m :: l, v, h => by
    rw [List.map_cons, List.nodup_cons] at h
    rw [lastF, sIdx]
    by_cases e : m.s = s
    · rw [if_pos e, if_pos e, lastF_no]
      · rfl
      · intro x hx hxs
        exact h.1 (List.mem_map.2 ⟨x, hx, by rw [hxs, e]⟩)
    · rw [if_neg e, if_neg e, lastF_idx (i + 1) l v h.2]
      cases sIdx s l with
      | none => rfl
      | some j => simp only [Option.map_some]; rw [show i + 1 + j = i + (j + 1) by omega]
theorem sIdx_none {s : State} : ∀ {l : List Node}, sIdx s l = none → ∀ m ∈ l, m.s ≠ s
  | [], _, m, h => by cases h
  | a :: l, h, m, hm => by
    rw [sIdx] at h
    split at h
    · cases h
    · rename_i e
      rcases List.mem_cons.1 hm with rfl | hm
      · exact e
      · exact sIdx_none (by simpa using h) m hm
theorem set_states {out : List Node} {n : Node} {i : Nat} (h : i < out.length) (e : out[i].s = n.s) : (out.set i n).map Node.s = out.map Node.s := by
  rw [List.map_set, ← e]
  apply List.ext_getElem?
  intro j
  by_cases hj : i = j
  · subst hj
    rw [List.getElem?_set_self (by simpa using h), List.getElem?_map, List.getElem?_eq_getElem h]; rfl
  · rw [List.getElem?_set_ne hj]
theorem once1_nodup {out : List Node} (h : (out.map Node.s).Nodup) (n : Node) : ((once1 out n).map Node.s).Nodup := by
  unfold once1
  split
  · rename_i e
    rw [List.map_append, List.nodup_append]
    refine ⟨h, by simp, ?_⟩
    intro a ha b hb
    simp only [List.map_cons, List.map_nil, List.mem_singleton] at hb
    obtain ⟨m, hm, rfl⟩ := List.mem_map.1 ha
    rw [hb]
    exact sIdx_none e m hm
  · rename_i i e
    obtain ⟨h1, h2⟩ := sIdx_some e
    split
    · rw [set_states h1 h2]; exact h
    · exact h
theorem ronce_pure (l : List Node) (hl : l.length < 2 ^ 31) : Pure P 75 [.t (.sl (nodesT l))] (.t (.sl (nodesT (onceL l)))) := by
  generalize hR : onceL l = R
  refine pure_of Try.func75 rfl rfl (by simp [Try.f75]) (by simp [bnd, bnd.bndL]) (by simp [bnd, bnd.bndL]) fun B hB hnx => ?_
  simp only [Try.f75] at hB ⊢
  have hil : (nodesT l).length = l.length := List.length_map _
  have hgt : ∀ (k : Nat) (h : k < l.length), (nodesT l)[k]'(by rw [hil]; exact h) = l[k].t := fun k h => nodesT_get l h
  generalize hX : nodesT l = X at *
  have hmost : mostLen = 4294967296 := rfl
  refine K_run hB 100 ?_
  simp [go_sem]
  refine K_own 3 10 (by simp [go_sem]) ?_
  refine K_loopP (α := Nat × List Node × Nat × (Nat → AObj) × Nat) (fun (k, out, j, σ, nx) => k ≤ l.length ∧ (l.drop k).foldl once1 out = R ∧ out.length ≤ k ∧ σ j = .arr 10 (nodesT out) ∧ j < nx ∧ (out.map Node.s).Nodup)
    (fun (k, out, j, σ, nx) => ⟨sl [(0, .t (.sl X)), (3, .ref j), (4, .i k)], σ, nx⟩) (fun a => l.length - a.1) (0, [], 0, _, 1) ?_ (Imp.slots (by simp [go_sem]) rfl rfl) ?_
  · exact ⟨Nat.zero_le _, hR, Nat.le_refl _, by simp [oput, nodesT], by omega, by simp⟩
  rintro ⟨k, out, j, σ, nx⟩ ⟨g1, g2, g3, g5, g7, gd⟩
  refine K_run hB 60 ?_
  simp [go_sem, hil]
  refine fork_dec (fun hk => ?_) (fun hk => ?_)
  · have hkk : IntKind.i64.wrap ((k : Int) + 1) = ((k + 1 : Nat) : Int) := by rw [w64 ((k : Int) + 1) (by omega)]; rfl
    have hget : ∀ h : k < X.length, X[k]'h = l[k].t := fun h => hgt k hk
    rw [List.drop_eq_getElem_cons hk, List.foldl_cons] at g2
    generalize l[k] = n at *
    have ho : once1 out n = match sIdx n.s out with
      | none => out ++ [n]
      | some i => if n.cost < (out.getD i n).cost then out.set i n else out := rfl
    have hnd := once1_nodup gd n
    have hlast := lastF_idx (s := n.s) 0 out (-1) gd
    have hlen : (nodesT out).length = out.length := List.length_map _
    simp [go_sem]
    refine K_loopP (α := Nat × Int) (fun (i, v) => i ≤ out.length ∧ lastF n.s i (out.drop i) v = lastF n.s 0 out (-1)) (fun (i, v) => ⟨sl [(0, .t (.sl X)), (3, .ref j), (4, .i k), (5, .i v), (6, .i i)], σ, nx⟩) (fun a => out.length - a.1) (0, -1) ⟨Nat.zero_le _, rfl⟩ (Imp.slots (by simp [go_sem]) rfl rfl) ?_
    rintro ⟨i, v⟩ ⟨f1, f2⟩
    refine K_run hB 60 ?_
    simp [go_sem, g5, hlen]
    refine fork_dec (fun hi => ?_) (fun hi => ?_)
    · have hii : IntKind.i64.wrap ((i : Int) + 1) = ((i + 1 : Nat) : Int) := by rw [w64 ((i : Int) + 1) (by omega)]; rfl
      have hgi : ∀ h : i < (nodesT out).length, (nodesT out)[i]'h = out[i].t := fun h => nodesT_get out hi
      rw [List.drop_eq_getElem_cons hi, lastF] at f2
      generalize out[i] = m at *
      have q1 : i * 10 / 10 = i := by omega
      have q4 : i * 10 % 10 = 0 := by omega
      simp [go_sem]
      refine K_drawn [] rfl (by rw [hB]; kernel_rfl) ?_
      refine K_run hB 100 ?_
      simp [go_sem, g5, hlen, hi, hgi, q1, q4, hil, hk, hget, Node.t]
      refine K_dEq (op := .eql) (t := 29) (t' := 29) (x := .tmp 23) (y := .tmp 28) (xs := m.s.cs) (ys := n.s.cs) (by simp [go_sem]) rfl (by simp [go_sem, State.cs]) (by simp [go_sem, State.cs]) state_guard (state_eq m.s n.s) rfl ?_
      by_cases e : m.s = n.s
      · rw [if_pos e] at f2
        refine K_run hB 100 ?_
        simp [go_sem, e, hii]
        exact Next.mk (i + 1, (i : Int)) ⟨by simp only; omega, f2⟩ (Imp.slots (by simp [go_sem]) rfl rfl) (by simp only; omega)
      · rw [if_neg e] at f2
        refine K_run hB 100 ?_
        simp [go_sem, e, hii]
        exact Next.mk (i + 1, v) ⟨by simp only; omega, f2⟩ (Imp.slots (by simp [go_sem]) rfl rfl) (by simp only; omega)
    · have : i = out.length := by omega
      subst this
      rw [List.drop_length, lastF, hlast] at f2
      cases hs : sIdx n.s out with
      | none =>
        rw [hs] at f2 ho
        simp only at f2 ho
        subst f2
        rw [ho] at g2 hnd
        have hcap : out.length + 1 ≤ mostLen := by omega
        simp [go_sem, g5, hlen, hcap, hil, hk, hget, Node.t, hkk]
        refine Next.mk (k + 1, out ++ [n], nx, _, nx + 1) ?_ (Imp.slots (by simp [go_sem]) rfl rfl) (by simp only; omega)
        refine ⟨by simp only; omega, g2, by simp only [List.length_append, List.length_cons, List.length_nil]; omega, ?_, by simp only; omega, hnd⟩
        simp [oput, nodesT, Node.t]
      | some i =>
        rw [hs] at f2 ho
        simp only [Nat.zero_add] at f2 ho
        subst f2
        obtain ⟨hil2, his⟩ := sIdx_some hs
        have hgi : ∀ h : i < (nodesT out).length, (nodesT out)[i]'h = out[i].t := fun h => nodesT_get out hil2
        have hgd : out.getD i n = out[i] := by rw [List.getD_eq_getElem?_getD, List.getElem?_eq_getElem hil2]; rfl
        rw [hgd] at ho
        have q1 : i * 10 / 10 = i := by omega
        have q2 : (i * 10 + 8) / 10 = i := by omega
        have q3 : (i * 10 + 8) % 10 = 8 := by omega
        have q4 : i * 10 % 10 = 0 := by omega
        have q5 : (i : Int) < out.length := by omega
        have q6 : ¬ (i : Int) < 0 := by omega
        simp [go_sem, q6]
        refine K_drawn [] rfl (by rw [hB]; kernel_rfl) ?_
        by_cases c1 : n.cost < out[i].cost
        · rw [if_pos c1] at ho
          rw [ho] at g2 hnd
          refine K_run hB 100 ?_
          simp [go_sem, g5, hlen, hgi, q1, q2, q3, q4, q5, hil2, hil, hk, hget, Node.t, c1, hkk]
          refine Next.mk (k + 1, out.set i n, j, _, nx) ?_ (Imp.slots (by simp [go_sem]) rfl rfl) (by simp only; omega)
          refine ⟨by simp only; omega, g2, by simp only [List.length_set]; omega, ?_, by simp only; omega, hnd⟩
          simp [oput, nodesT, Node.t, List.map_set]
        · rw [if_neg c1] at ho
          rw [ho] at g2 hnd
          refine K_run hB 100 ?_
          simp [go_sem, g5, hlen, hgi, q1, q2, q3, q4, q5, hil2, hil, hk, hget, Node.t, c1, hkk]
          exact Next.mk (k + 1, out, j, σ, nx) ⟨by simp only; omega, g2, by simp only; omega, g5, by simp only; omega, hnd⟩ (Imp.slots (by simp [go_sem]) rfl rfl) (by simp only; omega)
  · have : k = l.length := by omega
    subst this
    rw [List.drop_length, List.foldl_nil] at g2
    subst g2
    simp [go_sem, g5]
theorem rsameN_pure (a b : List Node) (ha : a.length < 2 ^ 63) (hb : b.length < 2 ^ 63) (hpa : ∀ n ∈ a, n.path.length < 2 ^ 63) (hpb : ∀ n ∈ b, n.path.length < 2 ^ 63) : Pure P 16 [.t (.sl (nodesT a)), .t (.sl (nodesT b))] (.b (decide (a = b))) := by
  refine pure_of Try.func16 rfl rfl (by simp [Try.f16]) (by simp [bnd, bnd.bndL]) (by simp [bnd, bnd.bndL]) fun B hB hnx => ?_
  simp only [Try.f16] at hB ⊢
  have h1 : (nodesT a).length = a.length := List.length_map _
  have h2 : (nodesT b).length = b.length := List.length_map _
  by_cases c0 : a.length = b.length
  rotate_left
  · have : ¬ a = b := fun e => c0 (by rw [e])
    refine K_run hB 100 ?_
    simp [go_sem, h1, h2, c0, this]
  refine K_run hB 100 ?_
  simp [go_sem, h1, h2, c0]
  refine K_loopP (α := Nat) (fun k => k ≤ b.length ∧ a.take k = b.take k) (fun k => ⟨sl [(0, .t (.sl (nodesT a))), (1, .t (.sl (nodesT b))), (5, .i k)], noObj, 0⟩) (fun k => b.length - k) 0 ⟨Nat.zero_le _, rfl⟩ (Imp.slots (by simp [go_sem]) rfl rfl) ?_
  rintro k ⟨g1, g2⟩
  refine K_run hB 100 ?_
  simp [go_sem, h1, c0]
  refine fork_dec (fun hk => ?_) (fun hk => ?_)
  · have hkk : IntKind.i64.wrap ((k : Int) + 1) = ((k + 1 : Nat) : Int) := by rw [w64 ((k : Int) + 1) (by omega)]; rfl
    have hk' : k < a.length := by omega
    have e1 : ∀ h : k < (nodesT a).length, (nodesT a)[k]'h = a[k].t := fun h => nodesT_get a hk'
    have e2 : ∀ h : k < (nodesT b).length, (nodesT b)[k]'h = b[k].t := fun h => nodesT_get b hk
    have n1 : a.take (k + 1) = a.take k ++ [a[k]] := by rw [List.take_add_one, List.getElem?_eq_getElem hk']; rfl
    have n2 : b.take (k + 1) = b.take k ++ [b[k]] := by rw [List.take_add_one, List.getElem?_eq_getElem hk]; rfl
    have hs := rsame_pure a[k].path b[k].path (hpa _ (List.getElem_mem _)) (hpb _ (List.getElem_mem _))
    have hne : a[k] ≠ b[k] → ¬ a = b := fun h e => h (by subst e; rfl)
    have heq : a[k] = b[k] ↔ a[k].path = b[k].path ∧ a[k].s = b[k].s ∧ a[k].cost = b[k].cost := by
      generalize a[k] = x
      generalize b[k] = y
      cases x; cases y
      simp only [Node.mk.injEq]
      exact ⟨fun h => ⟨h.2.2, h.1, h.2.1⟩, fun h => ⟨h.2.1, h.2.2, h.1⟩⟩
    simp [go_sem]
    refine K_drawn [] rfl (by rw [hB]; kernel_rfl) ?_
    generalize a[k] = x at *
    generalize b[k] = y at *
    refine K_run hB 100 ?_
    simp [go_sem, h1, h2, hk, hk', e1, e2, Node.t]
    refine K_dCallP rfl rfl rfl (args := [.t (.sl (ints x.path)), .t (.sl (ints y.path))]) (f := 35) (by simp [go_sem]) (hs) ?_
    by_cases d1 : x.path = y.path
    rotate_left
    · have := hne (fun h => d1 (heq.1 h).1)
      refine K_run hB 100 ?_
      simp [go_sem, d1]
      refine K_drawn [] rfl (by rw [hB]; kernel_rfl) ?_
      refine K_run hB 100 ?_
      simp [go_sem, this]
    refine K_run hB 100 ?_
    simp [go_sem, d1]
    refine K_drawn [] rfl (by rw [hB]; kernel_rfl) ?_
    refine K_run hB 100 ?_
    simp [go_sem, h1, h2, hk, hk', e1, e2, Node.t]
    refine K_dEq (op := .neq) (t := 29) (t' := 29) (x := .tmp 36) (y := .tmp 41) (xs := x.s.cs) (ys := y.s.cs) (by simp [go_sem]) rfl (by simp [go_sem, State.cs]) (by simp [go_sem, State.cs]) state_guard (state_eq x.s y.s) rfl ?_
    by_cases d2 : x.s = y.s
    rotate_left
    · have := hne (fun h => d2 (heq.1 h).2.1)
      refine K_run hB 100 ?_
      simp [go_sem, d2, this]
    by_cases d3 : x.cost = y.cost
    rotate_left
    · have := hne (fun h => d3 (heq.1 h).2.2)
      refine K_run hB 100 ?_
      simp [go_sem, d2, h1, h2, hk, hk', e1, e2, Node.t, d3, this]
    have hxy := heq.2 ⟨d1, d2, d3⟩
    refine K_run hB 100 ?_
    simp [go_sem, d2, h1, h2, hk, hk', e1, e2, Node.t, d3, hkk]
    refine Next.mk (k + 1) ⟨by omega, by rw [n1, n2, g2, hxy]⟩ (Imp.slots (by simp [go_sem]) rfl rfl) (by omega)
  · have : k = b.length := by omega
    subst this
    rw [List.take_of_length_le (by omega), List.take_of_length_le (by omega)] at g2
    simp [go_sem, g2]
def fewB (l : List Node) : Bool := decide (l.length ≤ 60) && l.all fun n => decide (n.path.length ≤ 100)
theorem few_pure (l : List Node) (hl : l.length < 2 ^ 63) : Pure P 14 [.t (.sl (nodesT l))] (.b (fewB l)) := by
  generalize hR : fewB l = R
  refine pure_of Try.func14 rfl rfl (by simp [Try.f14]) (by simp [bnd, bnd.bndL]) (by simp [bnd, bnd.bndL]) fun B hB hnx => ?_
  simp only [Try.f14] at hB ⊢
  rw [fewB] at hR
  have hil : (nodesT l).length = l.length := List.length_map _
  by_cases c1 : (60 : Int) < l.length
  · have : R = false := by rw [← hR]; simp; omega
    subst this
    refine K_run hB 100 ?_
    simp [go_sem, hil, c1]
  have c2 : l.length ≤ 60 := by omega
  rw [decide_eq_true c2, Bool.true_and] at hR
  refine K_run hB 100 ?_
  simp [go_sem, hil, c1]
  refine K_loopP (α := Nat) (fun k => k ≤ l.length ∧ ((l.drop k).all fun n => decide (n.path.length ≤ 100)) = R) (fun k => ⟨sl [(0, .t (.sl (nodesT l))), (3, .i k)], noObj, 0⟩) (fun k => l.length - k) 0 ⟨Nat.zero_le _, hR⟩ (Imp.slots (by simp [go_sem]) rfl rfl) ?_
  rintro k ⟨g1, g2⟩
  refine K_run hB 100 ?_
  simp [go_sem, hil]
  refine fork_dec (fun hk => ?_) (fun hk => ?_)
  · have hkk : IntKind.i64.wrap ((k : Int) + 1) = ((k + 1 : Nat) : Int) := by rw [w64 ((k : Int) + 1) (by omega)]; rfl
    have hget : ∀ h : k < (nodesT l).length, (nodesT l)[k]'h = l[k].t := fun h => nodesT_get l hk
    rw [List.drop_eq_getElem_cons hk, List.all_cons] at g2
    generalize l[k] = n at *
    have hpl : (ints n.path).length = n.path.length := List.length_map _
    by_cases c3 : (100 : Int) < n.path.length
    · have e9 : decide (n.path.length ≤ 100) = false := decide_eq_false (by omega)
      rw [e9, Bool.false_and] at g2
      subst g2
      simp [go_sem, hil, hk, hget, Node.t, hpl, c3]
    · have e9 : decide (n.path.length ≤ 100) = true := decide_eq_true (by omega)
      rw [e9, Bool.true_and] at g2
      simp [go_sem, hil, hk, hget, Node.t, hpl, c3, hkk]
      exact Next.mk (k + 1) ⟨by omega, g2⟩ (Imp.slots (by simp [go_sem]) rfl rfl) (by omega)
  · have : k = l.length := by omega
    subst this
    rw [List.drop_length, List.all_nil] at g2
    simp [go_sem, g2]
end Go.Proofs.Ytmmdnflngbkjnaa

/- The nodes behind all moves of one: the iterator. -/
set_option maxRecDepth 4000
namespace Go.Proofs.Ytmmdnflngbkjnaa
open Go Go.Proofs.Ytmmdnflngbkjnaa.R
def Inst.child (x : Inst) (n : Node) (j : Int) : Node := ⟨(x.move n.s j).1, sumI [n.cost, (x.move n.s j).2.1], n.path ++ [j]⟩
/-- A node whose path is a row of the call's own. -/
def Node.ra (n : Node) (r : Nat) : AV := .agg [.i n.s.spot, .i n.s.car, .i n.s.time, .i n.s.load, .i n.s.first, .u n.s.must, .u n.s.can, .u n.s.on, .i n.cost, .ref r]
theorem children_pure (x : Inst) (n : Node) (σ : Nat → AObj) (nx : Nat) : CallQ P 37 [x.a, n.a] σ nx fun r σ' nx' => r = .fn (.func 60) [] [.ptr nx 0, .ptr (nx + 1) 0] ∧ nx' = nx + 2 ∧
    σ' = oput (oput σ nx (.box x.cs)) (nx + 1) (.box n.cs) := by
  refine spec_of Try.func37 rfl rfl (by simp [Try.f37]) fun B hB hnx hσ => ?_
  simp only [Try.f37] at hB ⊢
  refine K_run hB 100 ?_
  simp [go_sem, Inst.a, Node.a, Node.cs, Inst.cs]
  omega
theorem children1_spec (x : Inst) (n : Node) (hl : x.stops.length < 2 ^ 63) (ho : n.s.ok) (hp : n.path.length < 2 ^ 31) (q b1 b2 : Nat) (J : Nat → (Nat → AObj) → Nat → Prop) (σ0 : Nat → AObj) (nx0 : Nat) (h0 : J 0 σ0 nx0)
    (hb : ∀ k σ nx, J k σ nx → nx0 ≤ nx ∧ b1 < nx ∧ b2 < nx ∧ σ b1 = .box x.cs ∧ σ b2 = .box n.cs)
    (hy : ∀ k (hk : k < (x.moves n.s).length) σ nx σ1 nx1 r, J k σ nx → (∀ i, i < nx → σ1 i = σ i) → nx ≤ r → r < nx1 → σ1 r = .arr 1 (ints (n.path ++ [(x.moves n.s)[k]])) →
      ∃ σ' nx', YieldQ P q [(x.child n (x.moves n.s)[k]).ra r] σ1 nx1 (fun a b => a = σ' ∧ b = nx') ∧ J (k + 1) σ' nx') :
    CallQ P 60 [.yld q, .ptr b1 0, .ptr b2 0] σ0 nx0 fun _ σ' nx' => J (x.moves n.s).length σ' nx' := by
  refine spec_of Try.func60 rfl rfl (by simp [Try.f60]) fun B hB hnx hσ => ?_
  simp only [Try.f60] at hB ⊢
  obtain ⟨_, _, _, a1, a2⟩ := hb 0 σ0 nx0 h0
  have hms := moves_pure x n.s hl ho
  have hmv := fun j => move_pure x n.s j hl ho
  have hil : (ints (x.moves n.s)).length = (x.moves n.s).length := List.length_map _
  have hpl : (ints n.path).length = n.path.length := List.length_map _
  have hgt : ∀ (k : Nat) (h : k < (x.moves n.s).length), (ints (x.moves n.s))[k]'(by rw [hil]; exact h) = [.i ((x.moves n.s)[k])] := fun k h => ints_getS _ h
  have hml : (x.moves n.s).length < 2 ^ 63 := by
    rw [moves_can]
    have := canB_len (fun k => (x.move n.s k).2.2) x.stops.length
    omega
  have hmost : mostLen = 4294967296 := rfl
  have hcl := clone_spec n.path (by omega)
  generalize hX : ints (x.moves n.s) = X at *
  generalize hL : x.moves n.s = L at *
  refine K_run hB 100 ?_
  simp [go_sem, a1, a2, Inst.cs, Node.cs]
  refine K_call rfl rfl rfl (args := [x.a, n.s.a]) (f := 48) (by simp [go_sem, Inst.a, State.a, State.cs]) (by simp [go_sem, hB]) ((hms).spec _ _) ?_
  refine K_run hB 100 ?_
  simp [go_sem, hil]
  refine K_loopP (α := Nat × (Nat → AObj) × Nat) (fun (k, σ, nx) => k ≤ L.length ∧ J k σ nx) (fun (k, σ, nx) => ⟨sl [(0, .yld q), (1, .ptr b1 0), (2, .ptr b2 0), (12, .t (.sl X)), (13, .i L.length), (14, .i k)], σ, nx⟩) (fun a => L.length - a.1) (0, σ0, nx0) ⟨Nat.zero_le _, h0⟩ (Imp.slots (by simp [go_sem]) rfl rfl) ?_
  rintro ⟨k, σ, nx⟩ ⟨g1, g2⟩
  obtain ⟨gn, l1, l2, d1, d2⟩ := hb k σ nx g2
  refine K_run hB 60 ?_
  simp [go_sem]
  refine fork_dec (fun hk => ?_) (fun hk => ?_)
  · have hkk : IntKind.i64.wrap ((k : Int) + 1) = ((k + 1 : Nat) : Int) := by rw [w64 ((k : Int) + 1) (by omega)]; rfl
    have hget : ∀ h : k < X.length, X[k]'h = [.i L[k]] := fun h => hgt k hk
    have hyk := hy k hk σ nx
    generalize L[k] = j at *
    have hm := hmv j
    have hch : x.child n j = ⟨(x.move n.s j).1, sumI [n.cost, (x.move n.s j).2.1], n.path ++ [j]⟩ := rfl
    generalize x.child n j = c at *
    generalize x.move n.s j = V at *
    obtain ⟨t, d, is⟩ := V
    simp only at hch
    have hsum := sum_pure [n.cost, d] (by simp)
    have n1 : ¬ b1 = nx := by omega
    have n2 : ¬ b2 = nx := by omega
    have n3 : ¬ b2 = nx + 1 := by omega
    have hcap : n.path.length + 1 ≤ mostLen := by omega
    simp [go_sem, hil, hk, hget, d1, d2, Inst.cs, Node.cs]
    refine K_call rfl rfl rfl (args := [x.a, n.s.a, .i j]) (f := 18) (by simp [go_sem, Inst.a, State.a, State.cs]) (by simp [go_sem, hB]) ((hm).spec _ _) ?_
    refine K_run hB 100 ?_
    simp [go_sem, mv, State.a, State.cs]
    refine K_drawnG [9, 12, 14] [0, 1, 10, 11] [1] rfl (by rw [hB]; kernel_rfl) (by kernel_rfl) fun ht hf' => ?_
    refine K_run hB 100 ?_
    simp [go_sem, ht, hf', d2, n2, Node.cs]
    refine K_dCallP rfl rfl rfl (args := [.fsl (ints [n.cost, d])]) (f := 36) (by simp [go_sem, ints]) (Pure.loose hsum (by simp [bnd])) ?_
    refine K_run hB 100 ?_
    simp [go_sem, ht, hf', d2, n2, Node.cs]
    refine K_dCall rfl rfl rfl (args := [.t (.sl (ints n.path))]) (f := 49) (by simp [go_sem]) (hcl _ _) (by decide) (okPends_does (by simp [go_sem])) ?_
    refine K_run hB 100 ?_
    simp [go_sem, ht, hf', hpl, hcap, show ¬ nx = nx + 1 + 1 by omega, show ¬ nx = nx + 1 by omega]
    obtain ⟨σ', nx', h1, h2⟩ := hyk (oput (oput (oput (oput (oput σ nx (.box [.i 0, .i 0, .i 0, .i 0, .i 0, .u 0, .u 0, .u 0])) nx (.box [.i t.spot, .i t.car, .i t.time, .i t.load, .i t.first, .u t.must, .u t.can, .u t.on])) (nx + 1) (.arr 1 (ints n.path))) (nx + 1) .dead) (nx + 2) (.arr 1 (ints n.path ++ [[.i j]]))) (nx + 3) (nx + 2) g2 (fun i hi => by simp [oput, show ¬ i = nx by omega, show ¬ i = nx + 1 by omega, show ¬ i = nx + 2 by omega]) (by omega) (by omega) (by simp [oput, ints])
    refine K_dYield rfl rfl rfl (q := q) (args := [c.ra (nx + 2)]) (σ' := σ') (nx' := nx') (by simp [go_sem]) (by simp [go_sem, Node.ra, hch]) h1 (by decide) (okPends_does ⟨.inl (by kernel_rfl), trivial⟩) ?_
    refine K_run hB 100 ?_
    simp [go_sem, hkk]
    exact Next.mk (k + 1, σ', nx') ⟨by simp only; omega, h2⟩ (Imp.slots (by simp [go_sem]) rfl rfl) (by simp only; omega)
  · have : k = L.length := by omega
    subst this
    simp [go_sem, hnx, g2]
    exact gn
end Go.Proofs.Ytmmdnflngbkjnaa

/- All moves of some nodes, and the best one that can be ended. -/
set_option maxRecDepth 4000
namespace Go.Proofs.Ytmmdnflngbkjnaa
open Go Go.Proofs.Ytmmdnflngbkjnaa.R
def Inst.kids (x : Inst) (up : Int) (n : Node) : List Node := ((x.moves n.s).map (x.child n)).filter fun c => decide (x.of c < up)
def Node.zero : Node := ⟨State.zero, 0, []⟩
def Inst.best1 (x : Inst) (b : Node × Bool) (n : Node) : Node × Bool :=
  if (x.endS n.s).2 = true ∧ (b.2 = false ∨ sumI [n.cost, (x.endS n.s).1] < b.1.cost) then ({ n with cost := sumI [n.cost, (x.endS n.s).1] }, true) else b
def Inst.bests (x : Inst) (l : List Node) : Node × Bool := l.foldl x.best1 (Node.zero, false)
def Inst.next (x : Inst) (l : List Node) (up : Int) : List Node := onceL (l.flatMap (x.kids up))
theorem moves_33 (x : Inst) (s : State) : (x.moves s).length ≤ 33 := by
  cases hm : x.may with
  | false =>
    rw [Inst.moves, if_neg (by simp [hm])]; simp
  | true =>
    obtain ⟨p, hx⟩ := x.fit hm
    have := hx.len
    have := hx.few
    have := moves_len x s
    omega
theorem kids_33 (x : Inst) (up : Int) (n : Node) : (x.kids up n).length ≤ 33 := by
  unfold Inst.kids
  refine Nat.le_trans (List.length_filter_le _ _) ?_
  rw [List.length_map]
  exact moves_33 x n.s
def expRes (l : List Node) (b : Node × Bool) : AV := .tup [.t (.sl (nodesT l)), b.1.a, .b b.2]
theorem take_kids (x : Inst) (up : Int) (n : Node) {k : Nat} (hk : k < (x.moves n.s).length) :
    (((x.moves n.s).take (k + 1)).map (x.child n)).filter (fun c => decide (x.of c < up)) = (((x.moves n.s).take k).map (x.child n)).filter (fun c => decide (x.of c < up)) ++ (if x.of (x.child n (x.moves n.s)[k]) < up then [x.child n (x.moves n.s)[k]] else []) := by
  rw [List.take_succ_eq_append_getElem hk, List.map_append, List.filter_append]
  congr 1
  simp only [List.map_cons, List.map_nil, List.filter_cons, List.filter_nil, decide_eq_true_eq]
theorem frz1_n {r : Nat} {es : List (List T)} (n : Node) : frz1 r es (.ref r) = .t (.sl es) := by simp [frz1]
/-- What holds while the moves of one node are made. -/
structure Loop14 (x : Inst) (up : Int) (n : Node) (all : List Node) (b : Node) (L : AObj) (nx0 b1 : Nat) (k : Nat) (σ : Nat → AObj) (nx : Nat) : Prop where
  o0 : σ 0 = .box x.cs
  o1 : σ 1 = .box [.i up]
  o2 : σ 2 = .box Node.zero.cs
  o4 : σ 4 = .box b.cs
  p1 : σ b1 = .box x.cs
  p2 : σ (b1 + 1) = .box n.cs
  q : σ (b1 + 2) = L
  le : nx0 ≤ nx ∧ b1 + 2 < nx ∧ 4 < b1
  row : ∃ a, σ 3 = .box [.ref a] ∧ σ a = .arr 10 (nodesT (all ++ (((x.moves n.s).take k).map (x.child n)).filter fun c => decide (x.of c < up))) ∧ 4 < a ∧ a < nx ∧ a ≠ b1 ∧ a ≠ b1 + 1 ∧ a ≠ b1 + 2
theorem expand_pure (x : Inst) (l : List Node) (up : Int) (hl : x.stops.length < 2 ^ 31) (hll : l.length < 2 ^ 20) (hn : ∀ n ∈ l, n.Fine) (hn2 : ∀ n ∈ l, n.path.length < 2 ^ 30) : Pure P 17 [x.a, .t (.sl (nodesT l)), .i up] (expRes (x.next l up) (x.bests l)) := by
  generalize hR : x.next l up = R
  generalize hRb : x.bests l = Rb
  refine pure_ofR Try.func17 rfl rfl (by simp [Try.f17]) (by simp [bnd, bnd.bndL, Inst.a]) (by simp [bnd, bnd.bndL, expRes, Node.a, Node.cs]) fun B hB hnx hro => ?_
  simp only [Try.f17] at hB ⊢
  have hil : (nodesT l).length = l.length := List.length_map _
  have hgt : ∀ (k : Nat) (h : k < l.length), (nodesT l)[k]'(by rw [hil]; exact h) = l[k].t := fun k h => nodesT_get l h
  generalize hX : nodesT l = X at *
  have hmost : mostLen = 4294967296 := rfl
  rw [Inst.next] at hR
  rw [Inst.bests] at hRb
  refine K_run hB 100 ?_
  simp [go_sem, Inst.a, hil]
  refine K_less (((Imp.ownB (b := 3) (off := 0) (sz := 10) (cs := [.fsl []]) (by simp [go_sem]) rfl).trans (Imp.looseB (b := 2) (cs := [.i 0, .i 0, .i 0, .i 0, .i 0, .u 0, .u 0, .u 0, .i 0, .fsl []]) (by simp [oput]))).trans (Imp.looseB (b := 4) (cs := [.i 0, .i 0, .i 0, .i 0, .i 0, .u 0, .u 0, .u 0, .i 0, .fsl []]) (by simp [oput]))) ?_
  refine K_loopP (α := Nat × List Node × (Node × Bool) × Nat × (Nat → AObj) × Nat) (fun (k, all, b, a, σ, nx) => k ≤ l.length ∧ (all ++ (l.drop k).flatMap (x.kids up) = l.flatMap (x.kids up) ∧ all.length ≤ 33 * k) ∧ (l.drop k).foldl x.best1 b = Rb ∧ σ 0 = .box x.cs ∧ σ 1 = .box [.i up] ∧ σ 2 = .box Node.zero.cs ∧ σ 3 = .box [.ref a] ∧ σ 4 = .box b.1.cs ∧ σ a = .arr 10 (nodesT all) ∧ 4 < a ∧ a < nx)
    (fun (k, all, b, a, σ, nx) => ⟨sl [(3, .ptr 0 0), (5, .ptr 1 0), (7, .ptr 2 0), (9, .ptr 3 0), (10, .ptr 4 0), (11, .b b.2), (18, .t (.sl X)), (19, .i l.length), (20, .i k)], σ, nx⟩) (fun a => l.length - a.1) (0, [], (Node.zero, false), 5, _, 6) ?_ (Imp.slots (by simp [go_sem]) rfl rfl) ?_
  · exact ⟨Nat.zero_le _, ⟨rfl, Nat.le_refl _⟩, hRb, by simp [oput, Inst.cs], by simp [oput], by simp [oput, Node.zero, State.zero, Node.cs, ints, loosen], by simp [oput], by simp [oput, Node.zero, State.zero, Node.cs, ints, loosen], by simp [oput, nodesT], by omega, by omega⟩
  rintro ⟨k, all, b, a, σ, nx⟩ ⟨g1, ⟨g2, g2'⟩, g3, h0, h1, h2, h3, h4, h5, h6, h7⟩
  refine K_run hB 60 ?_
  simp [go_sem]
  refine fork_dec (fun hk => ?_) (fun hk => ?_)
  · have hkk : IntKind.i64.wrap ((k : Int) + 1) = ((k + 1 : Nat) : Int) := by rw [w64 ((k : Int) + 1) (by omega)]; rfl
    have hget : ∀ h : k < X.length, X[k]'h = l[k].t := fun h => hgt k hk
    rw [List.drop_eq_getElem_cons hk, List.flatMap_cons] at g2
    rw [List.drop_eq_getElem_cons hk, List.foldl_cons] at g3
    have hfine := hn l[k] (List.getElem_mem _)
    have hpath := hn2 l[k] (List.getElem_mem _)
    generalize l[k] = n at *
    have hen := end_pure x n.s (by omega) hfine.ok
    have hown := own_pure n (by omega)
    have hbe : x.best1 b n = if (x.endS n.s).2 = true ∧ (b.2 = false ∨ sumI [n.cost, (x.endS n.s).1] < b.1.cost) then ({ n with cost := sumI [n.cost, (x.endS n.s).1] }, true) else b := rfl
    have m0 : ¬ 0 = nx := by omega
    have m1 : ¬ 1 = nx := by omega
    have m2 : ¬ 2 = nx := by omega
    have m3 : ¬ 3 = nx := by omega
    have m4 : ¬ 4 = nx := by omega
    have ma : ¬ a = nx := by omega
    have ma4 : ¬ a = 4 := by omega
    have mn4 : ¬ nx = 4 := by omega
    simp [go_sem, hil, hk, hget, Node.t, h0, m0, Inst.cs]
    refine K_call rfl rfl rfl (args := [x.a, n.s.a]) (f := 20) (by simp [go_sem, Inst.a, State.a, State.cs]) (by simp [go_sem, hB]) ((hen).spec _ _) ?_
    refine K_run hB 10 ?_
    simp [go_sem]
    refine K_cut (α := Nat → AObj) (fun σ' => σ' 0 = .box x.cs ∧ σ' 1 = .box [.i up] ∧ σ' 2 = .box Node.zero.cs ∧ σ' 3 = .box [.ref a] ∧ σ' 4 = .box (x.best1 b n).1.cs ∧ σ' a = .arr 10 (nodesT all) ∧ σ' nx = .box n.cs)
      (fun σ' => ⟨sl [(3, .ptr 0 0), (5, .ptr 1 0), (7, .ptr 2 0), (9, .ptr 3 0), (10, .ptr 4 0), (11, .b (x.best1 b n).2), (13, .ptr nx 0), (18, .t (.sl X)), (19, .i l.length), (20, .i k)], σ', nx + 1⟩) ?_ ?_
    · have hsum := sum_pure [n.cost, (x.endS n.s).1] (by simp)
      generalize x.best1 b n = b' at *
      generalize x.endS n.s = E at *
      obtain ⟨c, is⟩ := E
      cases is with
      | false =>
        rw [if_neg (by simp)] at hbe
        subst hbe
        refine K_run hB 100 ?_
        simp [go_sem]
        refine ⟨_, ⟨?_, ?_, ?_, ?_, ?_, ?_, ?_⟩, Imp.slots (by simp [go_sem]) rfl rfl⟩
        all_goals simp [oput, m0, m1, m2, m3, m4, ma, h0, h1, h2, h3, h4, h5, Inst.cs, Node.cs]
      | true =>
        simp only [true_and] at hbe
        refine K_run hB 100 ?_
        simp [go_sem]
        refine K_call rfl rfl rfl (args := [.fsl (ints [n.cost, c])]) (f := 36) (by simp [go_sem, ints]) (by simp [go_sem, hB]) ((Pure.loose hsum (by simp [bnd])).spec _ _) ?_
        generalize sumI [n.cost, c] = e at *
        by_cases c1 : b.2 = false ∨ e < b.1.cost
        · rw [if_pos c1] at hbe
          subst hbe
          cases c2 : b.2 with
          | false =>
            refine K_run hB 100 ?_
            simp [go_sem, c2]
            refine K_call rfl rfl rfl (args := [n.a]) (f := 34) (by simp [go_sem, Node.a, Node.cs]) (by simp [go_sem, hB]) ((hown).spec _ _) ?_
            refine K_run hB 100 ?_
            simp [go_sem, Node.a, Node.cs, h4, m4, mn4]
            refine ⟨_, ⟨?_, ?_, ?_, ?_, ?_, ?_, ?_⟩, Imp.slots (by simp [go_sem]) rfl rfl⟩
            all_goals simp [oput, m0, m1, m2, m3, m4, ma, ma4, mn4, h0, h1, h2, h3, h4, h5, Inst.cs, Node.cs]
          | true =>
            have c3 : e < b.1.cost := c1.resolve_left (by simp [c2])
            refine K_run hB 100 ?_
            simp [go_sem, c2, h4, m4, Node.cs, c3]
            refine K_call rfl rfl rfl (args := [n.a]) (f := 34) (by simp [go_sem, Node.a, Node.cs]) (by simp [go_sem, hB]) ((hown).spec _ _) ?_
            refine K_run hB 100 ?_
            simp [go_sem, Node.a, Node.cs, h4, m4, mn4]
            refine ⟨_, ⟨?_, ?_, ?_, ?_, ?_, ?_, ?_⟩, Imp.slots (by simp [go_sem]) rfl rfl⟩
            all_goals simp [oput, m0, m1, m2, m3, m4, ma, ma4, mn4, h0, h1, h2, h3, h4, h5, Inst.cs, Node.cs]
        · rw [if_neg c1] at hbe
          subst hbe
          have c2 : b'.2 = true := by
            cases h : b'.2 with
            | true => rfl
            | false => exact absurd (.inl h) c1
          have c3 : ¬ e < b'.1.cost := fun h => c1 (.inr h)
          refine K_run hB 100 ?_
          simp [go_sem, c2, h4, m4, Node.cs, c3]
          refine ⟨_, ⟨?_, ?_, ?_, ?_, ?_, ?_, ?_⟩, Imp.slots (by simp [go_sem, c2]) rfl rfl⟩
          all_goals simp [oput, m0, m1, m2, m3, m4, ma, h0, h1, h2, h3, h4, h5, Inst.cs, Node.cs]
    rintro σ' ⟨k0, k1, k2, k3, k4, k5, k6⟩
    have hch := children_pure x n
    refine K_run hB 100 ?_
    simp [go_sem, k0, k6, Inst.cs, Node.cs]
    refine K_callQ rfl rfl rfl (args := [x.a, n.a]) (f := 37) (by simp [go_sem, Inst.a, Node.a, Node.cs]) (by simp [go_sem, hB]) (hch _ _) ?_
    rintro r σ2 nx2 ⟨rfl, rfl, rfl⟩
    refine K_run hB 100 ?_
    simp [go_sem]
    generalize hb' : x.best1 b n = b' at *
    have hsp := children1_spec x n (by omega) hfine.ok (by omega)
    have hk33 := moves_33 x n.s
    refine K_less (Imp.slots (l := [(3, .ptr 0 0), (5, .ptr 1 0), (7, .ptr 2 0), (9, .ptr 3 0), (10, .ptr 4 0), (11, .b b'.2), (18, .t (.sl X)), (19, .i l.length), (20, .i k), (51, .fn (.func 60) [] [.ptr (nx + 1) 0, .ptr (nx + 2) 0])]) (by simp [go_sem]) rfl rfl) ?_
    refine K_range hro (f := 60) (args := [.yld (nx + 3), .ptr (nx + 1) 0, .ptr (nx + 2) 0]) (by simp [go_sem]) fun L hL => ⟨fun _ σ3 nx3 => Loop14 x up n all b'.1 L (nx + 4) (nx + 1) (x.moves n.s).length σ3 nx3, ?_, ?_⟩
    · refine hsp (nx + 3) (nx + 1) (nx + 2) (Loop14 x up n all b'.1 L (nx + 4) (nx + 1)) _ (nx + 4) ?_ ?_ ?_
      · refine ⟨?_, ?_, ?_, ?_, ?_, ?_, ?_, by omega, ⟨a, ?_, ?_, by omega, by omega, by omega, by omega, by omega⟩⟩
        all_goals simp [oput, k0, k1, k2, k3, k4, k5, show ¬ nx = 0 by omega, show ¬ nx = 1 by omega, show ¬ nx = 2 by omega, show ¬ nx = 3 by omega, show ¬ 0 = nx + 3 by omega, show ¬ 1 = nx + 3 by omega, show ¬ 2 = nx + 3 by omega, show ¬ 3 = nx + 3 by omega, show ¬ 4 = nx + 3 by omega, show ¬ a = nx + 3 by omega,
          show ¬ 0 = nx + 2 by omega, show ¬ 1 = nx + 2 by omega, show ¬ 2 = nx + 2 by omega, show ¬ 3 = nx + 2 by omega, show ¬ 4 = nx + 2 by omega, show ¬ a = nx + 2 by omega, show ¬ 0 = nx + 1 by omega, show ¬ 1 = nx + 1 by omega, show ¬ 2 = nx + 1 by omega, show ¬ 3 = nx + 1 by omega, show ¬ 4 = nx + 1 by omega, show ¬ a = nx + 1 by omega, Inst.cs, Node.cs]
      · rintro k' σ3 nx3 hJ
        have := hJ.le
        exact ⟨this.1, by omega, by omega, hJ.p1, hJ.p2⟩
      · intro k' hk' σ3 nx3 σ4 nx4 r hJ hag hr1 hr2 hr3
        have hle := hJ.le
        obtain ⟨a', r1, r2, r3, r4, r5, r6, r7⟩ := hJ.row
        have htk := take_kids x up n hk'
        have hcok : (x.child n (x.moves n.s)[k']).s.ok := move_ok x _ hfine.ok
        have hcp : (x.child n (x.moves n.s)[k']).path = n.path ++ [(x.moves n.s)[k']] := rfl
        rw [← hcp] at hr3
        generalize x.child n (x.moves n.s)[k'] = c at *
        have hof := of_pure x c hl hcok
        have hlen : (nodesT (all ++ (((x.moves n.s).take k').map (x.child n)).filter fun c => decide (x.of c < up))).length + 1 ≤ mostLen := by
          rw [nodesT, List.length_map, List.length_append]
          have := List.length_filter_le (fun c => decide (x.of c < up)) (((x.moves n.s).take k').map (x.child n))
          rw [List.length_map, List.length_take] at this
          omega
        generalize (((x.moves n.s).take k').map (x.child n)).filter (fun c => decide (x.of c < up)) = F at *
        have s0 : σ4 0 = .box x.cs := (hag 0 (by omega)).trans hJ.o0
        have s1 : σ4 1 = .box [.i up] := (hag 1 (by omega)).trans hJ.o1
        have s2 : σ4 2 = .box Node.zero.cs := (hag 2 (by omega)).trans hJ.o2
        have s3 : σ4 3 = .box [.ref a'] := (hag 3 (by omega)).trans r1
        have s4 : σ4 4 = .box b'.1.cs := (hag 4 (by omega)).trans hJ.o4
        have s5 : σ4 a' = .arr 10 (nodesT (all ++ F)) := (hag a' (by omega)).trans r2
        have s6 : σ4 (nx + 1) = .box x.cs := (hag (nx + 1) (by omega)).trans hJ.p1
        have s7 : σ4 (nx + 2) = .box n.cs := (hag (nx + 2) (by omega)).trans hJ.p2
        have s8 : σ4 (nx + 3) = L := (hag (nx + 3) (by omega)).trans hJ.q
        obtain ⟨σ5, hσ5⟩ : ∃ σ5 : Nat → AObj, σ5 = fun j => if j = r then AObj.dead else frzO r (ints c.path) (σ4 j) := ⟨_, rfl⟩
        have f0 : σ5 0 = .box x.cs := by simp [hσ5, show ¬ 0 = r by omega, s0, frzO, frz1, frz1.frzL, Inst.cs]
        have f1 : σ5 1 = .box [.i up] := by simp [hσ5, show ¬ 1 = r by omega, s1, frzO, frz1, frz1.frzL]
        have f2 : σ5 2 = .box Node.zero.cs := by simp [hσ5, show ¬ 2 = r by omega, s2, frzO, frz1, frz1.frzL, Node.cs]
        have f3 : σ5 3 = .box [.ref a'] := by simp [hσ5, show ¬ 3 = r by omega, s3, frzO, frz1, frz1.frzL, show ¬ a' = r by omega]
        have f4 : σ5 4 = .box b'.1.cs := by simp [hσ5, show ¬ 4 = r by omega, s4, frzO, frz1, frz1.frzL, Node.cs]
        have f5 : σ5 a' = .arr 10 (nodesT (all ++ F)) := by simp [hσ5, show ¬ a' = r by omega, s5, frzO]
        have f6 : σ5 (nx + 1) = .box x.cs := by simp [hσ5, show ¬ nx + 1 = r by omega, s6, frzO, frz1, frz1.frzL, Inst.cs]
        have f7 : σ5 (nx + 2) = .box n.cs := by simp [hσ5, show ¬ nx + 2 = r by omega, s7, frzO, frz1, frz1.frzL, Node.cs]
        have f8 : σ5 (nx + 3) = L := by simp [hσ5, show ¬ nx + 3 = r by omega, s8, hL, frzO]
        have d0 : ¬ 0 = nx4 := by omega
        have d1 : ¬ 1 = nx4 := by omega
        have d2 : ¬ 2 = nx4 := by omega
        have d3 : ¬ 3 = nx4 := by omega
        have d4 : ¬ 4 = nx4 := by omega
        have d5 : ¬ a' = nx4 := by omega
        have d6 : ¬ nx + 1 = nx4 := by omega
        have d7 : ¬ nx + 2 = nx4 := by omega
        have d8 : ¬ nx + 3 = nx4 := by omega
        have hB0 := hB
        by_cases hlt : x.of c < up
        · refine ⟨oput (oput (oput (oput (oput σ5 nx4 (.box c.cs)) a' .dead) (nx4 + 1) (.arr 10 (nodesT (all ++ F) ++ [c.t]))) 3 (.box [.ref (nx4 + 1)])) (nx + 3) L, nx4 + 2, ?y, ?j⟩
          case y =>
            refine yield_of (s8.trans hL) rfl (by rw [hB]; rfl) fun B' hB' hnx' hσ' => ?_
            have hL' := hL
            rw [hB] at hL'
            have hB := hB'.trans hB
            refine K_less ((Imp.freeze (q := r) (sz := 1) (es := ints c.path) hr3).trans (Imp.slots (l := [(3, .ptr 0 0), (5, .ptr 1 0), (9, .ptr 3 0), (52, c.a)]) (by simp [go_sem, roundM, putL, frz1, frz1.frzL, hB0, Node.ra, Node.a, Node.cs]) hσ5 rfl)) ?_
            refine K_run hB 100 ?_
            simp [go_sem, f8, d8, hL, Node.a, Node.cs]
            refine K_run hB 100 ?_
            simp [go_sem]
            refine K_drawn [] rfl (by rw [hB]; kernel_rfl) ?_
            refine K_run hB 100 ?_
            simp [go_sem, f0, d0, d8, show ¬ nx4 = nx + 3 by omega, Inst.cs]
            refine K_dCallP rfl rfl rfl (args := [x.a, c.a]) (f := 19) (by simp [go_sem, Inst.a, Node.a, Node.cs]) (hof) ?_
            refine K_run hB 100 ?_
            simp [go_sem, f1, f3, f5, d1, d3, d5, d8, hlt, hlen, Node.cs, show ¬ nx4 = nx + 3 by omega, show ¬ a' = nx + 3 by omega, show ¬ nx = 0 by omega, show ¬ nx + 3 = a' by omega, show ¬ nx + 3 = nx4 by omega, show ¬ nx + 3 = nx4 + 1 by omega, show ¬ nx4 = 2 by omega, show ¬ 3 = a' by omega, show ¬ nx4 = nx + 2 by omega, f8]
            funext i
            have w1 : ¬ nx = 0 := by omega
            have w2 : ¬ a' = nx + 3 := by omega
            have w3 : ¬ nx4 = nx + 3 := by omega
            have w4 : ¬ nx4 + 1 = nx + 3 := by omega
            have w6 : ¬ nx4 = nx + 2 := by omega
            have w7 : ¬ a' = 3 := by omega
            have w8 : ¬ a' = nx4 + 1 := by omega
            by_cases e1 : i = nx + 3
            · simp [oput, e1, hL, hB, hB0]
            by_cases e2 : i = 3
            · simp [oput, e2, w1]
            by_cases e3 : i = nx4 + 1
            · simp [oput, e3, w4, w6, Node.t, nodesT]
            by_cases e4 : i = a'
            · simp [oput, e4, w2, w7, w8]
            by_cases e5 : i = nx4
            · simp [oput, e1, e2, e3, e4, e5, w3, Node.cs]
            simp [oput, e1, e2, e3, e4, e5]
          case j =>
            rw [if_pos hlt] at htk
            have v0 : ∀ j, j ≤ 4 → j ≠ 3 → ¬ j = a' ∧ ¬ j = nx4 + 1 := by intros; omega
            have w0 : ¬ nx4 = 0 := by omega
            have w1 : ¬ nx4 = 1 := by omega
            have w2 : ¬ nx = 2 := by omega
            have w3 : ¬ nx = 1 := by omega
            have w4 : ¬ nx = nx4 := by omega
            have w5 : ¬ nx = 0 := by omega
            have w6 : ¬ nx4 = nx + 2 := by omega
            have w7 : ¬ nx4 = nx + 3 := by omega
            have w8 : ¬ nx4 = 2 := by omega
            have w9 : ¬ nx4 = 3 := by omega
            have wa := v0 0 (by omega) (by omega)
            have wb := v0 1 (by omega) (by omega)
            have wc := v0 2 (by omega) (by omega)
            have wd := v0 4 (by omega) (by omega)
            have we : ¬ nx + 1 = a' := by omega
            have wf : ¬ nx + 2 = a' := by omega
            refine ⟨?_, ?_, ?_, ?_, ?_, ?_, ?_, by omega, ⟨nx4 + 1, ?_, ?_, by omega, by omega, by omega, by omega, by omega⟩⟩
            · simp [oput, d0, f0, w0, Inst.cs, wa.1, wa.2, w0, show ¬ 0 = nx4 + 1 by omega]
            · simp [oput, d1, f1, wb.1, wb.2, w1, w0]
            · simp [oput, d2, f2, wc.1, wc.2, w8, Node.cs]
            · simp [oput, f4, wd.1, wd.2, show ¬ 4 = nx4 by omega, show ¬ 4 = nx4 + 1 by omega, show ¬ 4 = nx + 3 by omega, Node.cs]
            · simp [oput, d6, f6, we, w2, w4, show ¬ nx + 1 = nx4 by omega, Inst.cs]
            · simp [oput, d7, f7, wf, show ¬ nx + 1 = nx4 by omega, show ¬ nx + 2 = 3 by omega, show ¬ nx + 2 = nx4 + 1 by omega, Node.cs]
            · simp [oput]
            · simp [oput, w5]
            · rw [htk]
              simp [oput, w6, w8, nodesT]
        · refine ⟨oput (oput σ5 nx4 (.box c.cs)) (nx + 3) L, nx4 + 1, ?y, ?j⟩
          case y =>
            refine yield_of (s8.trans hL) rfl (by rw [hB]; rfl) fun B' hB' hnx' hσ' => ?_
            have hL' := hL
            rw [hB] at hL'
            have hB := hB'.trans hB
            refine K_less ((Imp.freeze (q := r) (sz := 1) (es := ints c.path) hr3).trans (Imp.slots (l := [(3, .ptr 0 0), (5, .ptr 1 0), (9, .ptr 3 0), (52, c.a)]) (by simp [go_sem, roundM, putL, frz1, frz1.frzL, hB0, Node.ra, Node.a, Node.cs]) hσ5 rfl)) ?_
            refine K_run hB 100 ?_
            simp [go_sem, f8, d8, hL, Node.a, Node.cs]
            refine K_run hB 100 ?_
            simp [go_sem]
            refine K_drawn [] rfl (by rw [hB]; kernel_rfl) ?_
            refine K_run hB 100 ?_
            simp [go_sem, f0, d0, d8, show ¬ nx4 = nx + 3 by omega, Inst.cs]
            refine K_dCallP rfl rfl rfl (args := [x.a, c.a]) (f := 19) (by simp [go_sem, Inst.a, Node.a, Node.cs]) (hof) ?_
            refine K_run hB 100 ?_
            simp [go_sem, f1, f3, f5, d1, d3, d5, d8, hlt, hlen, Node.cs, show ¬ nx4 = nx + 3 by omega, show ¬ a' = nx + 3 by omega, show ¬ nx = 0 by omega, show ¬ nx + 3 = a' by omega, show ¬ nx + 3 = nx4 by omega, show ¬ nx + 3 = nx4 + 1 by omega, show ¬ nx4 = 2 by omega, show ¬ 3 = a' by omega, show ¬ nx4 = nx + 2 by omega, f8]
            funext i
            have w3 : ¬ nx4 = nx + 3 := by omega
            by_cases e1 : i = nx + 3
            · simp [oput, e1, hL, hB, hB0]
            by_cases e5 : i = nx4
            · simp [oput, e5, w3, Node.cs]
            simp [oput, e1, e5]
          case j =>
            rw [if_neg hlt, List.append_nil] at htk
            have v0 : ∀ j, j ≤ 4 → ¬ j = nx4 ∧ ¬ j = nx + 3 := by intros; omega
            have w0 := v0 0 (by omega)
            have w1 := v0 1 (by omega)
            have w2 := v0 2 (by omega)
            have w3 := v0 3 (by omega)
            have w4 := v0 4 (by omega)
            have we : ¬ nx + 1 = nx4 := by omega
            have wf : ¬ nx + 2 = nx4 := by omega
            have wg : ¬ nx = 0 := by omega
            have wh : ¬ a' = nx4 := by omega
            have wi : ¬ a' = nx + 3 := by omega
            refine ⟨?_, ?_, ?_, ?_, ?_, ?_, ?_, by omega, ⟨a', ?_, ?_, by omega, by omega, by omega, by omega, by omega⟩⟩
            · simp [oput, f0, w0, Inst.cs]
            · simp [oput, f1, w1, w1.2]
            · simp [oput, f2, w2, Node.cs]
            · simp [oput, f4, w4, Node.cs]
            · simp [oput, f6, we, Inst.cs]
            · simp [oput, f7, wf, Node.cs]
            · simp [oput]
            · simp [oput, f3, w3, wg]
            · rw [htk]
              simp [oput, f5, wh, wi]
    · rintro r σ3 nx3 hJ
      refine ⟨hJ.q, ?_⟩
      have hle := hJ.le
      obtain ⟨a', r1, r2, r3, r4, r5, r6, r7⟩ := hJ.row
      rw [List.take_length] at r2
      have hkl : (((x.moves n.s).map (x.child n)).filter fun c => decide (x.of c < up)) = x.kids up n := rfl
      rw [hkl] at r2
      have hkl2 := kids_33 x up n
      refine K_run hB 100 ?_
      simp [go_sem, hkk]
      refine Next.mk (k + 1, all ++ x.kids up n, b', a', oput σ3 (nx + 3) .dead, nx3) ?_ (Imp.slots (by simp [go_sem]) rfl rfl) (by simp only; omega)
      have v0 : ∀ j, j ≤ 4 → ¬ j = nx + 3 := by intros; omega
      have w0 := v0 0 (by omega)
      have w1 := v0 1 (by omega)
      have w2 := v0 2 (by omega)
      have w3 : ¬ nx = 0 := by omega
      have w4 := v0 4 (by omega)
      have w5 : ¬ a' = nx + 3 := by omega
      refine ⟨by simp only; omega, ⟨by rw [List.append_assoc]; exact g2, by simp only [List.length_append]; omega⟩, g3, ?_, ?_, ?_, ?_, ?_, ?_, by simp only; omega, by simp only; omega⟩
      · simp [oput, w0, hJ.o0]
      · simp [oput, w1, hJ.o1]
      · simp [oput, w2, hJ.o2, Node.cs]
      · simp [oput, w3, r1]
      · simp [oput, w4, hJ.o4, Node.cs]
      · simp [oput, w5, r2]
  · have : k = l.length := by omega
    subst this
    rw [List.drop_length, List.flatMap_nil, List.append_nil] at g2
    rw [List.drop_length, List.foldl_nil] at g3
    subst g3
    rw [← g2] at hR
    have hfa : ∀ n ∈ all, n.Fine := by
      intro c hc
      rw [g2] at hc
      obtain ⟨n, hn3, hc⟩ := List.mem_flatMap.1 hc
      obtain ⟨hc, -⟩ := List.mem_filter.1 hc
      obtain ⟨j, hj, rfl⟩ := List.mem_map.1 hc
      refine ⟨move_ok x _ (hn n hn3).ok, ?_⟩
      have := hn2 n hn3
      show (n.path ++ [j]).length < 2 ^ 31
      rw [List.length_append]
      simp only [List.length_cons, List.length_nil]
      omega
    have hon := once_pure all (by omega) hfa
    rw [hR] at hon
    refine K_run hB 60 ?_
    simp [go_sem]
    obtain ⟨σ5, hσ5⟩ : ∃ σ5 : Nat → AObj, σ5 = fun j => if j = a then AObj.dead else frzO a (nodesT all) (σ j) := ⟨_, rfl⟩
    have f0 : σ5 0 = .box x.cs := by simp [hσ5, show ¬ 0 = a by omega, h0, frzO, frz1, frz1.frzL, Inst.cs]
    have f2 : σ5 2 = .box Node.zero.cs := by simp [hσ5, show ¬ 2 = a by omega, h2, frzO, frz1, frz1.frzL, Node.cs]
    have f3 : σ5 3 = .box [.t (.sl (nodesT all))] := by simp [hσ5, show ¬ 3 = a by omega, h3, frzO, frz1, frz1.frzL]
    have f4 : σ5 4 = .box b.1.cs := by simp [hσ5, show ¬ 4 = a by omega, h4, frzO, frz1, frz1.frzL, Node.cs]
    refine K_less ((Imp.freeze (q := a) (sz := 10) (es := nodesT all) h5).trans (Imp.slots (l := [(7, .ptr 2 0), (9, .ptr 3 0), (10, .ptr 4 0), (11, .b b.2)]) (by simp [go_sem, frz1, frz1.frzL]) hσ5 rfl)) ?_
    refine K_drawnF [5] [3] rfl (by rw [hB]; kernel_rfl) (by kernel_rfl) fun ht hf' => ?_
    refine K_run hB 100 ?_
    simp [go_sem, ht, hf', f3]
    refine K_dCallP rfl rfl rfl (args := [.t (.sl (nodesT all))]) (f := 15) (by simp [go_sem]) (hon) ?_
    refine K_run hB 100 ?_
    simp [go_sem, ht, hf', f4, f2, Node.cs]
    rfl
end Go.Proofs.Ytmmdnflngbkjnaa

/- All moves of some nodes, and the best one that can be ended: the document's. -/
set_option maxRecDepth 4000
namespace Go.Proofs.Ytmmdnflngbkjnaa
open Go Go.Proofs.Ytmmdnflngbkjnaa.R
theorem rexpand_pure (x : Inst) (l : List Node) (up : Int) (hl : x.stops.length < 2 ^ 31) (hll : l.length < 2 ^ 20) (hn : ∀ n ∈ l, n.Fine) (hn2 : ∀ n ∈ l, n.path.length < 2 ^ 30) : Pure P 44 [x.a, .t (.sl (nodesT l)), .i up] (expRes (x.next l up) (x.bests l)) := by
  generalize hR : x.next l up = R
  generalize hRb : x.bests l = Rb
  refine pure_of Try.func44 rfl rfl (by simp [Try.f44]) (by simp [bnd, bnd.bndL, Inst.a]) (by simp [bnd, bnd.bndL, expRes, Node.a, Node.cs]) fun B hB hnx => ?_
  simp only [Try.f44] at hB ⊢
  have hil : (nodesT l).length = l.length := List.length_map _
  have hgt : ∀ (k : Nat) (h : k < l.length), (nodesT l)[k]'(by rw [hil]; exact h) = l[k].t := fun k h => nodesT_get l h
  generalize hX : nodesT l = X at *
  have hmost : mostLen = 4294967296 := rfl
  rw [Inst.next] at hR
  rw [Inst.bests] at hRb
  refine K_run hB 100 ?_
  simp [go_sem, Inst.a, hil]
  refine K_own 9 10 (by simp [go_sem]) ?_
  refine K_less ((Imp.looseB (b := 1) (cs := [.i 0, .i 0, .i 0, .i 0, .i 0, .u 0, .u 0, .u 0, .i 0, .fsl []]) (by simp [oput])).trans (Imp.looseB (b := 2) (cs := [.i 0, .i 0, .i 0, .i 0, .i 0, .u 0, .u 0, .u 0, .i 0, .fsl []]) (by simp [oput]))) ?_
  refine K_loopP (α := Nat × List Node × (Node × Bool) × Nat × (Nat → AObj) × Nat) (fun (k, all, b, a, σ, nx) => k ≤ l.length ∧ (all ++ (l.drop k).flatMap (x.kids up) = l.flatMap (x.kids up) ∧ all.length ≤ 33 * k) ∧ (l.drop k).foldl x.best1 b = Rb ∧ σ 0 = .box x.cs ∧ σ 1 = .box Node.zero.cs ∧ σ 2 = .box b.1.cs ∧ σ a = .arr 10 (nodesT all) ∧ 2 < a ∧ a < nx)
    (fun (k, all, b, a, σ, nx) => ⟨sl [(1, .t (.sl X)), (2, .i up), (3, .ptr 0 0), (7, .ptr 1 0), (9, .ref a), (10, .ptr 2 0), (11, .b b.2), (12, .i k)], σ, nx⟩) (fun a => l.length - a.1) (0, [], (Node.zero, false), 3, _, 4) ?_ (Imp.slots (by simp [go_sem]) rfl rfl) ?_
  · exact ⟨Nat.zero_le _, ⟨rfl, Nat.le_refl _⟩, hRb, by simp [oput, Inst.cs], by simp [oput, Node.zero, State.zero, Node.cs, ints, loosen], by simp [oput, Node.zero, State.zero, Node.cs, ints, loosen], by simp [oput, nodesT], by omega, by omega⟩
  rintro ⟨k, all, b, a, σ, nx⟩ ⟨g1, ⟨g2, g2'⟩, g3, h0, h1, h2, h3, h4, h5⟩
  refine K_run hB 60 ?_
  simp [go_sem, hil]
  refine fork_dec (fun hk => ?_) (fun hk => ?_)
  · have hkk : IntKind.i64.wrap ((k : Int) + 1) = ((k + 1 : Nat) : Int) := by rw [w64 ((k : Int) + 1) (by omega)]; rfl
    have hget : ∀ h : k < X.length, X[k]'h = l[k].t := fun h => hgt k hk
    rw [List.drop_eq_getElem_cons hk, List.flatMap_cons] at g2
    rw [List.drop_eq_getElem_cons hk, List.foldl_cons] at g3
    have hfine := hn l[k] (List.getElem_mem _)
    have hpath := hn2 l[k] (List.getElem_mem _)
    generalize l[k] = n at *
    have hen := rend_pure x n.s (by omega) hfine.ok
    have hbe : x.best1 b n = if (x.endS n.s).2 = true ∧ (b.2 = false ∨ sumI [n.cost, (x.endS n.s).1] < b.1.cost) then ({ n with cost := sumI [n.cost, (x.endS n.s).1] }, true) else b := rfl
    have hsum := rsum_pure [n.cost, (x.endS n.s).1] (by simp)
    have hE : ∃ c is, x.endS n.s = (c, is) := ⟨_, _, rfl⟩
    obtain ⟨c, is, hE⟩ := hE
    rw [hE] at hen hbe hsum
    simp only at hen hbe hsum
    have m0 : ¬ 0 = nx := by omega
    have m1 : ¬ 1 = nx := by omega
    have m2 : ¬ 2 = nx := by omega
    have ma : ¬ a = nx := by omega
    have ma2 : ¬ a = 2 := by omega
    have mn2 : ¬ nx = 2 := by omega
    simp [go_sem, hil, hk, hget, Node.t, h0, m0, Inst.cs]
    refine K_call rfl rfl rfl (args := [x.a, n.s.a]) (f := 70) (by simp [go_sem, Inst.a, State.a, State.cs]) (by simp [go_sem, hB]) ((hen).spec _ _) ?_
    refine K_run hB 100 ?_
    simp [go_sem]
    refine K_call rfl rfl rfl (args := [.fsl (ints [n.cost, c])]) (f := 71) (by simp [go_sem, ints]) (by simp [go_sem, hB]) ((Pure.loose hsum (by simp [bnd])).spec _ _) ?_
    refine K_run hB 3 ?_
    simp [go_sem]
    refine K_cut (α := Nat → AObj) (fun σ' => σ' 0 = .box x.cs ∧ σ' 1 = .box Node.zero.cs ∧ σ' 2 = .box (x.best1 b n).1.cs ∧ σ' a = .arr 10 (nodesT all) ∧ σ' nx = .box n.cs)
      (fun σ' => ⟨sl [(1, .t (.sl X)), (2, .i up), (3, .ptr 0 0), (7, .ptr 1 0), (9, .ref a), (10, .ptr 2 0), (11, .b (x.best1 b n).2), (12, .i k), (13, .ptr nx 0)], σ', nx + 1⟩) ?_ ?_
    · generalize x.best1 b n = b' at *
      cases is with
      | false =>
        rw [if_neg (by simp)] at hbe
        subst hbe
        refine K_run hB 100 ?_
        simp [go_sem]
        refine ⟨_, ⟨?_, ?_, ?_, ?_, ?_⟩, Imp.slots (by simp [go_sem]) rfl rfl⟩
        all_goals simp [oput, m0, m1, m2, ma, h0, h1, h2, h3, Inst.cs, Node.cs]
      | true =>
        simp only [true_and] at hbe
        generalize sumI [n.cost, c] = e at *
        by_cases c1 : b.2 = false ∨ e < b.1.cost
        · rw [if_pos c1] at hbe
          subst hbe
          cases c2 : b.2 with
          | false =>
            refine K_run hB 100 ?_
            simp [go_sem, c2, Node.cs, h2, m2]
            refine ⟨_, ⟨?_, ?_, ?_, ?_, ?_⟩, Imp.slots (by simp [go_sem]) rfl rfl⟩
            all_goals simp [oput, m0, m1, m2, ma, ma2, mn2, h0, h1, h2, h3, Inst.cs, Node.cs]
          | true =>
            have c3 : e < b.1.cost := c1.resolve_left (by simp [c2])
            refine K_run hB 100 ?_
            simp [go_sem, c2, h2, m2, Node.cs, c3]
            refine ⟨_, ⟨?_, ?_, ?_, ?_, ?_⟩, Imp.slots (by simp [go_sem]) rfl rfl⟩
            all_goals simp [oput, m0, m1, m2, ma, ma2, mn2, h0, h1, h2, h3, Inst.cs, Node.cs]
        · rw [if_neg c1] at hbe
          subst hbe
          have c2 : b'.2 = true := by
            cases h : b'.2 with
            | true => rfl
            | false => exact absurd (.inl h) c1
          have c3 : ¬ e < b'.1.cost := fun h => c1 (.inr h)
          refine K_run hB 100 ?_
          simp [go_sem, c2, h2, m2, Node.cs, c3]
          refine ⟨_, ⟨?_, ?_, ?_, ?_, ?_⟩, Imp.slots (by simp [go_sem, c2]) rfl rfl⟩
          all_goals simp [oput, m0, m1, m2, ma, h0, h1, h2, h3, Inst.cs, Node.cs]
    rintro σ' ⟨k0, k1, k2, k3, k4⟩
    generalize hb' : x.best1 b n = b' at *
    have hms := rmoves_pure x n.s (by omega) hfine.ok
    have hk33 := moves_33 x n.s
    have hkl : (((x.moves n.s).map (x.child n)).filter fun c => decide (x.of c < up)) = x.kids up n := rfl
    have hcok : ∀ j, (x.child n j).s.ok := fun j => move_ok x j hfine.ok
    have hpl : (ints n.path).length = n.path.length := List.length_map _
    have hcap0 : n.path.length ≤ mostLen := by omega
    have hcap1 : n.path.length + 1 ≤ mostLen := by omega
    have hone : ∀ y : List T, y ∈ ints n.path → y.length = 1 := by simp [ints]
    have hmv := fun j => rmove_pure x n.s j (by omega) hfine.ok
    have hml : (ints (x.moves n.s)).length = (x.moves n.s).length := List.length_map _
    have hmg : ∀ (i : Nat) (h : i < (x.moves n.s).length), (ints (x.moves n.s))[i]'(by rw [hml]; exact h) = [.i ((x.moves n.s)[i])] := fun i h => ints_getS _ h
    have hk332 := kids_33 x up n
    refine K_run hB 100 ?_
    simp [go_sem, k0, k4, Inst.cs, Node.cs]
    refine K_call rfl rfl rfl (args := [x.a, n.s.a]) (f := 72) (by simp [go_sem, Inst.a, State.a, State.cs]) (by simp [go_sem, hB]) ((hms).spec _ _) ?_
    generalize hY : ints (x.moves n.s) = Y at *
    generalize x.moves n.s = M at *
    refine K_run hB 100 ?_
    simp [go_sem]
    refine K_loopP (α := Nat × List Node × Nat × (Nat → AObj) × Nat) (fun (i, acc, a, σ, ny) => i ≤ M.length ∧ (acc ++ ((M.drop i).map (x.child n)).filter (fun c => decide (x.of c < up)) = all ++ x.kids up n ∧ acc.length ≤ all.length + i) ∧ σ 0 = .box x.cs ∧ σ 1 = .box Node.zero.cs ∧ σ 2 = .box b'.1.cs ∧ σ nx = .box n.cs ∧ σ a = .arr 10 (nodesT acc) ∧ 2 < a ∧ a < ny ∧ nx < ny ∧ a ≠ nx)
      (fun (i, acc, a, σ, ny) => ⟨sl [(1, .t (.sl X)), (2, .i up), (3, .ptr 0 0), (7, .ptr 1 0), (9, .ref a), (10, .ptr 2 0), (11, .b b'.2), (12, .i k), (13, .ptr nx 0), (17, .t (.sl Y)), (18, .i i)], σ, ny⟩) (fun a => M.length - a.1) (0, all, a, _, nx + 1) ?_ (Imp.slots (by simp [go_sem]) rfl rfl) ?_
    · exact ⟨Nat.zero_le _, ⟨by rw [List.drop_zero, hkl], by omega⟩, k0, k1, k2, k4, k3, by omega, by omega, by omega, by omega⟩
    rintro ⟨i, acc, a, σ, ny⟩ ⟨f1, ⟨f2, f2'⟩, f3, f4, f5, f6, f7, f8, f9, fa, fb⟩
    refine K_run hB 60 ?_
    simp [go_sem, hml]
    refine fork_dec (fun hi => ?_) (fun hi => ?_)
    · have hii : IntKind.i64.wrap ((i : Int) + 1) = ((i + 1 : Nat) : Int) := by rw [w64 ((i : Int) + 1) (by omega)]; rfl
      have hgeti : ∀ h : i < Y.length, Y[i]'h = [.i M[i]] := fun h => hmg i hi
      rw [List.drop_eq_getElem_cons hi, List.map_cons, List.filter_cons] at f2
      generalize M[i] = j at *
      have hmj := hmv j
      have hcj := hcok j
      have hch : x.child n j = ⟨(x.move n.s j).1, sumI [n.cost, (x.move n.s j).2.1], n.path ++ [j]⟩ := rfl
      generalize x.child n j = c at *
      have hof := rof_pure x c hl hcj
      generalize x.move n.s j = V at *
      obtain ⟨t, d, is⟩ := V
      simp only at hch
      have hsum := rsum_pure [n.cost, d] (by simp)
      simp [go_sem]
      refine K_drawnF [12, 13] [0, 1, 2, 3, 4, 5, 6, 7, 8, 9, 10, 11] rfl (by rw [hB]; kernel_rfl) (by kernel_rfl) fun ht hf' => ?_
      refine K_run hB 100 ?_
      simp [go_sem, ht, hf', hml, hi, hgeti, f3, f6, Inst.cs, Node.cs]
      refine K_dCallP rfl rfl rfl (args := [x.a, n.s.a, .i j]) (f := 73) (by simp [go_sem, Inst.a, State.a, State.cs]) (hmj) ?_
      refine K_run hB 100 ?_
      simp [go_sem, ht, hf', mv, State.a, State.cs, f3, f6, show ¬ nx = ny by omega, show ¬ 0 = ny by omega, Node.cs, Inst.cs, hpl, hml, hi, hgeti, hcap0, hcap1, if_pos hone, show ¬ ny + 2 = ny + 1 by omega]
      have hcp : c.path = n.path ++ [j] := by rw [hch]
      have hci : ints c.path = ints n.path ++ [[.i j]] := by rw [hcp]; simp [ints]
      obtain ⟨σ4, hσ4⟩ : ∃ σ4 : Nat → AObj, σ4 = oput (oput (oput (oput (oput σ ny (.box [.i 0, .i 0, .i 0, .i 0, .i 0, .u 0, .u 0, .u 0])) ny (.box [.i t.spot, .i t.car, .i t.time, .i t.load, .i t.first, .u t.must, .u t.can, .u t.on])) (ny + 1) (.arr 1 (ints n.path))) (ny + 1) .dead) (ny + 2) (.arr 1 (ints c.path)) := ⟨_, rfl⟩
      obtain ⟨σ5, hσ5⟩ : ∃ σ5 : Nat → AObj, σ5 = fun j => if j = ny + 2 then AObj.dead else frzO (ny + 2) (ints c.path) (σ4 j) := ⟨_, rfl⟩
      have e0 : σ5 0 = .box x.cs := by simp [hσ5, hσ4, oput, show ¬ 0 = ny by omega, f3, frzO, frz1, frz1.frzL, Inst.cs]
      have e1 : σ5 1 = .box Node.zero.cs := by simp [hσ5, hσ4, oput, show ¬ 1 = ny by omega, show ¬ 1 = ny + 1 by omega, show ¬ ny = 0 by omega, show ¬ 1 = ny + 2 by omega, f4, frzO, frz1, frz1.frzL, Node.cs]
      have e2 : σ5 2 = .box b'.1.cs := by simp [hσ5, hσ4, oput, show ¬ 2 = ny by omega, show ¬ 2 = ny + 1 by omega, show ¬ ny = 0 by omega, show ¬ ny = 1 by omega, f5, frzO, frz1, frz1.frzL, Node.cs]
      have e3 : σ5 nx = .box n.cs := by simp [hσ5, hσ4, oput, show ¬ nx = ny by omega, show ¬ nx = ny + 1 by omega, show ¬ nx = ny + 2 by omega, f6, frzO, frz1, frz1.frzL, Node.cs]
      have e4 : σ5 a = .arr 10 (nodesT acc) := by simp [hσ5, hσ4, oput, show ¬ a = ny by omega, show ¬ a = ny + 1 by omega, show ¬ a = ny + 2 by omega, f7, frzO]
      have e5 : σ5 ny = .box t.cs := by simp [hσ5, hσ4, oput, frzO, frz1, frz1.frzL, State.cs]
      refine K_less ((Imp.freeze (q := ny + 2) (sz := 1) (es := ints c.path) (by simp [oput, hci])).trans (Imp.slots (l := [(1, .t (.sl X)), (2, .i up), (3, .ptr 0 0), (7, .ptr 1 0), (9, .ref a), (10, .ptr 2 0), (11, .b b'.2), (12, .i k), (13, .ptr nx 0), (17, .t (.sl Y)), (18, .i i), (19, .ptr ny 0), (20, .i d), (22, .t (.sl (ints c.path)))]) (by simp [go_sem, frz1, frz1.frzL, show ¬ a = ny + 2 by omega]) (hσ5.trans (by rw [hσ4, hci])) rfl)) ?_
      refine K_drawnF [8, 9] [0, 1, 2, 3, 4, 5, 6, 7] rfl (by rw [hB]; kernel_rfl) (by kernel_rfl) fun ht hf' => ?_
      refine K_run hB 100 ?_
      simp [go_sem, ht, hf', e3, e5, Node.cs, State.cs]
      refine K_dCallP rfl rfl rfl (args := [.fsl (ints [n.cost, d])]) (f := 71) (by simp [go_sem, ints]) (Pure.loose hsum (by simp [bnd])) ?_
      have hcs : c.s = t := by rw [hch]
      have hcc : c.cost = sumI [n.cost, d] := by rw [hch]
      have hlen : (nodesT acc).length + 1 ≤ mostLen := by rw [nodesT, List.length_map]; omega
      refine K_run hB 100 ?_
      simp [go_sem, ht, hf', e0, e3, e5, Inst.cs, Node.cs, State.cs, show ¬ 0 = ny + 1 + 1 + 1 by omega, show ¬ nx = ny + 1 + 1 + 1 by omega, show ¬ ny = ny + 1 + 1 + 1 by omega]
      refine K_call rfl rfl rfl (args := [x.a, c.a]) (f := 74) (by simp [go_sem, Inst.a, Node.a, Node.cs, hcs, hcc]) (by simp [go_sem, hB]) ((hof).spec _ _) ?_
      have v0 : ∀ j, j ≤ 2 → ¬ j = ny + 3 ∧ ¬ j = a ∧ ¬ j = ny + 4 := by intros; omega
      have w0 := v0 0 (by omega)
      have w1 := v0 1 (by omega)
      have w2 := v0 2 (by omega)
      have w3 : ¬ nx = ny + 3 := by omega
      have w4 : ¬ a = ny + 3 := by omega
      have w5 : ¬ nx = a := fun e => fb e.symm
      have w6 : ¬ nx = ny + 4 := by omega
      by_cases hlt : x.of c < up
      · rw [if_pos (by simpa using hlt), List.map_drop] at f2
        refine K_run hB 100 ?_
        simp [go_sem, hlt, e4, hlen, w4]
        refine Next.mk (i + 1, acc ++ [c], ny + 4, _, ny + 5) ?_ (Imp.slots (by simp [go_sem, hii]) rfl rfl) (by simp only; omega)
        refine ⟨by simp only; omega, ⟨by rw [List.append_assoc]; exact f2, by simp only [List.length_append, List.length_cons, List.length_nil]; omega⟩, ?_, ?_, ?_, ?_, ?_, by simp only; omega, by simp only; omega, by simp only; omega, by simp only; omega⟩
        · simp [oput, e0, w0, Inst.cs]
        · simp [oput, e1, w1, Node.cs]
        · simp [oput, e2, w2, Node.cs]
        · simp [oput, e3, w3, w5, w6, Node.cs]
        · simp [oput, nodesT, Node.t, hcs, hcc]
      · rw [if_neg (by simpa using hlt), List.map_drop] at f2
        refine K_run hB 100 ?_
        simp [go_sem, hlt]
        refine Next.mk (i + 1, acc, a, _, ny + 4) ?_ (Imp.slots (by simp [go_sem, hii]) rfl rfl) (by simp only; omega)
        refine ⟨by simp only; omega, ⟨f2, by simp only; omega⟩, ?_, ?_, ?_, ?_, ?_, by simp only; omega, by simp only; omega, by simp only; omega, by simp only; omega⟩
        · simp [oput, e0, w0, Inst.cs]
        · simp [oput, e1, w1, Node.cs]
        · simp [oput, e2, w2, Node.cs]
        · simp [oput, e3, w3, Node.cs]
        · simp [oput, e4, w4]
    · have : i = M.length := by omega
      subst this
      rw [List.drop_length, List.map_nil, List.filter_nil, List.append_nil] at f2
      simp [go_sem, hkk]
      refine Next.mk (k + 1, acc, b', a, σ, ny) ?_ (Imp.slots (by simp [go_sem]) rfl rfl) (by simp only; omega)
      refine ⟨by simp only; omega, ⟨by rw [f2, List.append_assoc]; exact g2, by rw [f2]; simp only [List.length_append]; omega⟩, g3, f3, f4, f5, f7, by simp only; omega, by simp only; omega⟩
  · have : k = l.length := by omega
    subst this
    rw [List.drop_length, List.flatMap_nil, List.append_nil] at g2
    rw [List.drop_length, List.foldl_nil] at g3
    subst g3
    rw [← g2] at hR
    have hon := ronce_pure all (by omega)
    rw [hR] at hon
    refine K_run hB 60 ?_
    simp [go_sem]
    obtain ⟨σ5, hσ5⟩ : ∃ σ5 : Nat → AObj, σ5 = fun j => if j = a then AObj.dead else frzO a (nodesT all) (σ j) := ⟨_, rfl⟩
    have f1 : σ5 1 = .box Node.zero.cs := by simp [hσ5, show ¬ 1 = a by omega, h1, frzO, frz1, frz1.frzL, Node.cs]
    have f2 : σ5 2 = .box b.1.cs := by simp [hσ5, show ¬ 2 = a by omega, h2, frzO, frz1, frz1.frzL, Node.cs]
    refine K_less ((Imp.freeze (q := a) (sz := 10) (es := nodesT all) h3).trans (Imp.slots (l := [(7, .ptr 1 0), (9, .t (.sl (nodesT all))), (10, .ptr 2 0), (11, .b b.2)]) (by simp [go_sem, frz1, frz1.frzL]) hσ5 rfl)) ?_
    refine K_drawnF [5] [3] rfl (by rw [hB]; kernel_rfl) (by kernel_rfl) fun ht hf' => ?_
    refine K_run hB 100 ?_
    simp [go_sem, ht, hf']
    refine K_dCallP rfl rfl rfl (args := [.t (.sl (nodesT all))]) (f := 75) (by simp [go_sem]) (hon) ?_
    refine K_run hB 100 ?_
    simp [go_sem, ht, hf', f1, f2, Node.cs]
    rfl
end Go.Proofs.Ytmmdnflngbkjnaa

/- The law of a level's next one. -/
set_option maxRecDepth 4000
namespace Go.Proofs.Ytmmdnflngbkjnaa
open Go Go.Proofs.Ytmmdnflngbkjnaa.R
theorem once1_mem {out : List Node} {n m : Node} (h : m ∈ once1 out n) : m ∈ out ∨ m = n := by
  unfold once1 at h
  split at h
  · rcases List.mem_append.1 h with h | h
    · exact .inl h
    · exact .inr (List.mem_singleton.1 h)
  · split at h
    · exact List.mem_or_eq_of_mem_set h
    · exact .inl h
theorem fold_mem : ∀ (l out : List Node) {m : Node}, m ∈ l.foldl once1 out → m ∈ out ∨ m ∈ l
  | [], out, m, h => .inl h
  | n :: l, out, m, h => by
    rcases fold_mem l (once1 out n) h with h | h
    · rcases once1_mem h with h | rfl
      · exact .inl h
      · exact .inr List.mem_cons_self
    · exact .inr (List.mem_cons_of_mem _ h)
theorem onceL_mem {l : List Node} {m : Node} (h : m ∈ onceL l) : m ∈ l := (fold_mem l [] h).resolve_left (by simp)
theorem fold_len : ∀ (l out : List Node), (l.foldl once1 out).length ≤ out.length + l.length
  | [], out => Nat.le_refl _
  | n :: l, out => by
    have h1 := fold_len l (once1 out n)
    have h2 := once1_len out n
    simp only [List.foldl_cons, List.length_cons]
    omega
theorem onceL_len (l : List Node) : (onceL l).length ≤ l.length := by
  have := fold_len l []
  simpa [onceL] using this
theorem flat_len {α β : Type} (f : α → List β) (k : Nat) (h : ∀ a, (f a).length ≤ k) : ∀ l : List α, (l.flatMap f).length ≤ k * l.length
  | [] => by simp
  | a :: l => by
    have h1 := h a
    have h2 := flat_len f k h l
    rw [List.flatMap_cons, List.length_append, List.length_cons, Nat.mul_add]
    omega
theorem next_len (x : Inst) (l : List Node) (up : Int) : (x.next l up).length ≤ 33 * l.length :=
  Nat.le_trans (onceL_len _) (flat_len _ 33 (kids_33 x up) l)
theorem next_mem {x : Inst} {l : List Node} {up : Int} {m : Node} (h : m ∈ x.next l up) : ∃ n ∈ l, ∃ j ∈ x.moves n.s, m = x.child n j ∧ x.of m < up := by
  obtain ⟨n, hn, hc⟩ := List.mem_flatMap.1 (onceL_mem h)
  obtain ⟨hc, hu⟩ := List.mem_filter.1 hc
  obtain ⟨j, hj, rfl⟩ := List.mem_map.1 hc
  exact ⟨n, hn, j, hj, rfl, by simpa using hu⟩
theorem best_path (x : Inst) (k : Nat) : ∀ (l : List Node) (b : Node × Bool), (∀ n ∈ l, n.path.length ≤ k) → b.1.path.length ≤ k → (l.foldl x.best1 b).1.path.length ≤ k
  | [], b, h, hb => hb
  | n :: l, b, h, hb => by
    refine best_path x k l _ (fun m hm => h m (List.mem_cons_of_mem _ hm)) ?_
    unfold Inst.best1
    split
    · exact h n List.mem_cons_self
    · exact hb
theorem bests_path {x : Inst} {k : Nat} {l : List Node} (h : ∀ n ∈ l, n.path.length ≤ k) : (x.bests l).1.path.length ≤ k := best_path x k l _ h (Nat.zero_le _)
theorem small_next : (small.next [⟨small.rootS, 0, []⟩] 1152921504606846976).map (fun n => (n.s.spot, n.cost, n.path)) = [(1, 3, [1])] ∧ (small.bests [⟨small.rootS, 0, []⟩]).2 = false := by decide +kernel
theorem small_next1 : ∃ s, small.next [⟨small.rootS, 0, []⟩] 1152921504606846976 = [⟨s, 3, [1]⟩] ∧ s.spot = 1 := by
  have h := small_next.1
  generalize small.next [⟨small.rootS, 0, []⟩] 1152921504606846976 = L at *
  rcases L with _ | ⟨⟨s, c, p⟩, _ | ⟨n, L⟩⟩
  · simp at h
  · simp only [List.map_cons, List.map_nil, List.cons.injEq, Prod.mk.injEq, and_true] at h
    obtain ⟨h1, rfl, rfl⟩ := h
    exact ⟨s, rfl, h1⟩
  · simp at h
theorem awake14_pure : Pure P 13 [] (.b true) := by
  refine pure_of Try.func13 rfl rfl (by simp [Try.f13]) (by simp [bnd, bnd.bndL]) (by simp [bnd, bnd.bndL]) fun B hB hnx => ?_
  simp only [Try.f13] at hB ⊢
  refine K_run hB 100 ?_
  simp [go_sem]
  refine K_call rfl rfl rfl (args := []) (f := 32) (by simp [go_sem]) (by simp [go_sem, hB]) ((small_pure).spec _ _) ?_
  have hp := parse_pure smallB (by decide) (by decide)
  rw [small_parse] at hp
  refine K_run hB 100 ?_
  simp [go_sem, small_bytes]
  refine K_call rfl rfl rfl (args := [.t (.sl (byt smallB))]) (f := 31) (by simp [go_sem]) (by simp [go_sem, hB]) ((hp).spec _ _) ?_
  have hl : small.stops.length < 2 ^ 31 := by decide
  have hr := root_pureS small (by omega)
  have hx := expand_pure small [⟨small.rootS, 0, []⟩] 1152921504606846976 hl (by decide) (by simp only [List.mem_singleton, forall_eq]; exact ⟨rootS_ok small, by simp⟩) (by simp)
  obtain ⟨s, hs, hs1⟩ := small_next1
  rw [hs] at hx
  have hb := small_next.2
  generalize small.bests [⟨small.rootS, 0, []⟩] = Rb at *
  generalize small.rootS = r at *
  generalize small = x at *
  refine K_run hB 100 ?_
  simp [go_sem, Inst.a]
  refine K_drawnF [10, 12] [0, 1, 2, 3, 4, 5, 6, 7, 8, 9] rfl (by rw [hB]; kernel_rfl) (by kernel_rfl) fun ht hf' => ?_
  refine K_run hB 100 ?_
  simp [go_sem, ht, hf']
  refine K_dCallP rfl rfl rfl (args := [x.a]) (f := 33) (by simp [go_sem, Inst.a]) (hr) ?_
  refine K_run hB 100 ?_
  simp [go_sem, ht, hf', State.a, State.cs]
  obtain ⟨b, is⟩ := Rb
  simp only at hb
  subst hb
  refine K_dCallP rfl rfl rfl (args := [x.a, .fsl (nodesT [⟨r, 0, []⟩]), .i 1152921504606846976]) (f := 17) (by simp [go_sem, Inst.a, nodesT, Node.t, ints]) (Pure.loose hx (by simp [bnd, bnd.bndL, expRes, Node.a, Node.cs, Inst.a])) ?_
  refine K_run hB 100 ?_
  simp [go_sem, ht, hf', expRes, Node.a, Node.cs, nodesT, Node.t, hs1, ints]
end Go.Proofs.Ytmmdnflngbkjnaa

/- Once of each state: the plain laws. -/
set_option maxRecDepth 4000
namespace Go.Proofs.Ytmmdnflngbkjnaa
open Go Go.Proofs.Ytmmdnflngbkjnaa.R
theorem fold_nodup : ∀ (l out : List Node), (out.map Node.s).Nodup → ((l.foldl once1 out).map Node.s).Nodup
  | [], _, h => h
  | n :: l, out, h => fold_nodup l _ (once1_nodup h n)
theorem onceL_nodup (l : List Node) : ((onceL l).map Node.s).Nodup := fold_nodup l [] (by simp)
theorem once1_self (out : List Node) (n : Node) : ∃ m ∈ once1 out n, m.s = n.s ∧ m.cost ≤ n.cost := by
  unfold once1
  split
  · exact ⟨n, by simp, rfl, Int.le_refl _⟩
  · rename_i i e
    obtain ⟨h1, h2⟩ := sIdx_some e
    have hgd : out.getD i n = out[i] := by rw [List.getD_eq_getElem?_getD, List.getElem?_eq_getElem h1]; rfl
    rw [hgd]
    split
    · exact ⟨n, List.mem_set h1 n, rfl, Int.le_refl _⟩
    · exact ⟨out[i], List.getElem_mem h1, h2, by omega⟩
theorem once1_has (out : List Node) (n k : Node) (h : ∃ m ∈ out, m.s = k.s ∧ m.cost ≤ k.cost) : ∃ m ∈ once1 out n, m.s = k.s ∧ m.cost ≤ k.cost := by
  obtain ⟨m, hm, h1, h2⟩ := h
  unfold once1
  split
  · exact ⟨m, List.mem_append_left _ hm, h1, h2⟩
  · rename_i i e
    obtain ⟨h3, h4⟩ := sIdx_some e
    have hgd : out.getD i n = out[i] := by rw [List.getD_eq_getElem?_getD, List.getElem?_eq_getElem h3]; rfl
    rw [hgd]
    split
    · rename_i hc
      obtain ⟨j, hj, rfl⟩ := List.mem_iff_getElem.1 hm
      by_cases e2 : i = j
      · subst e2
        exact ⟨n, List.mem_set h3 n, by rw [← h4, h1], by omega⟩
      · refine ⟨out[j], ?_, h1, h2⟩
        rw [List.mem_iff_getElem]
        exact ⟨j, by simpa using hj, by rw [List.getElem_set_ne e2]⟩
    · exact ⟨m, hm, h1, h2⟩
theorem fold_has : ∀ (l out : List Node) (k : Node), (k ∈ l ∨ ∃ m ∈ out, m.s = k.s ∧ m.cost ≤ k.cost) → ∃ m ∈ l.foldl once1 out, m.s = k.s ∧ m.cost ≤ k.cost
  | [], out, k, h => h.resolve_left (by simp)
  | n :: l, out, k, h => by
    refine fold_has l (once1 out n) k ?_
    rcases h with h | h
    · rcases List.mem_cons.1 h with rfl | h
      · exact .inr (once1_self out k)
      · exact .inl h
    · exact .inr (once1_has out n k h)
theorem onceL_has {l : List Node} {k : Node} (h : k ∈ l) : ∃ m ∈ onceL l, m.s = k.s ∧ m.cost ≤ k.cost := fold_has l [] k (.inl h)
theorem nodup_len {α : Type} [DecidableEq α] : ∀ (l m : List α), l.Nodup → (∀ a ∈ l, a ∈ m) → l.length ≤ m.length
  | [], m, _, _ => Nat.zero_le _
  | a :: l, m, h, hs => by
    rw [List.nodup_cons] at h
    have ha := hs a List.mem_cons_self
    have := nodup_len l (m.erase a) h.2 fun b hb => by
      have : b ≠ a := fun e => h.1 (e ▸ hb)
      exact (List.mem_erase_of_ne this).2 (hs b (List.mem_cons_of_mem _ hb))
    rw [List.length_erase_of_mem ha] at this
    have := List.length_pos_of_mem ha
    rw [List.length_cons]
    omega
theorem onceL_less {a b : List Node} (h : ∀ n ∈ b, n ∈ a) : (onceL b).length ≤ (onceL a).length := by
  have e1 : ((onceL b).map Node.s).length = (onceL b).length := List.length_map _
  have e2 : ((onceL a).map Node.s).length = (onceL a).length := List.length_map _
  rw [← e1, ← e2]
  refine nodup_len _ _ (onceL_nodup b) fun s hs => ?_
  obtain ⟨m, hm, rfl⟩ := List.mem_map.1 hs
  obtain ⟨k, hk, h1, _⟩ := onceL_has (h m (onceL_mem hm))
  exact List.mem_map.2 ⟨k, hk, h1⟩
theorem next_less (x : Inst) (l : List Node) {a b : Int} (h : b ≤ a) : (x.next l b).length ≤ (x.next l a).length := by
  refine onceL_less fun n hn => ?_
  obtain ⟨m, hm, hc⟩ := List.mem_flatMap.1 hn
  refine List.mem_flatMap.2 ⟨m, hm, ?_⟩
  obtain ⟨hc, hu⟩ := List.mem_filter.1 hc
  refine List.mem_filter.2 ⟨hc, ?_⟩
  simp only [decide_eq_true_eq] at hu ⊢
  omega
theorem of_pos (x : Inst) (n : Node) : 0 ≤ x.of n := (foldl_in [n.cost, x.low n.s] (by omega)).1
theorem next_zero (x : Inst) (l : List Node) {a : Int} (h : a ≤ 0) : x.next l a = [] := by
  have : l.flatMap (x.kids a) = [] := by
    rw [List.flatMap_eq_nil_iff]
    intro n _
    rw [Inst.kids, List.filter_eq_nil_iff]
    intro c _
    have := of_pos x c
    simp only [decide_eq_true_eq]
    omega
  rw [Inst.next, this]; rfl
end Go.Proofs.Ytmmdnflngbkjnaa

/- Nodes that no other one leaves without use: the plain laws. -/
set_option maxRecDepth 4000
namespace Go.Proofs.Ytmmdnflngbkjnaa
open Go Go.Proofs.Ytmmdnflngbkjnaa.R
theorem within_refl (s : Nat) : withinB s s = true := by
  rw [withinB, List.all_eq_true]
  intro i _
  cases s.testBit i <;> rfl
theorem within_trans {s t u : Nat} (h1 : withinB s t = true) (h2 : withinB t u = true) : withinB s u = true := by
  rw [withinB, List.all_eq_true] at *
  intro i hi
  have a := h1 i hi
  have b := h2 i hi
  revert a b
  cases s.testBit i <;> cases t.testBit i <;> cases u.testBit i <;> simp
def Node.than (a b : Node) : Bool := decide (a.cost ≤ b.cost) && (decide (a.s.must = b.s.must) && decide (a.s.can = b.s.can) && decide (a.s.on = b.s.on)) && coversB a.s b.s
theorem covers_refl (s : State) : coversB s s = true := by
  simp [coversB, within_refl]
theorem covers_trans {a b c : State} (h1 : coversB a b = true) (h2 : coversB b c = true) : coversB a c = true := by
  simp only [coversB, Bool.and_eq_true, decide_eq_true_eq] at *
  obtain ⟨⟨⟨⟨⟨⟨⟨a1, a2⟩, a3⟩, a4⟩, a5⟩, a6⟩, a7⟩, a8⟩ := h1
  obtain ⟨⟨⟨⟨⟨⟨⟨b1, b2⟩, b3⟩, b4⟩, b5⟩, b6⟩, b7⟩, b8⟩ := h2
  exact ⟨⟨⟨⟨⟨⟨⟨a1.trans b1, within_trans a2 b2⟩, within_trans a3 b3⟩, within_trans b4 a4⟩, by omega⟩, by omega⟩, by omega⟩, by omega⟩
theorem than_refl (a : Node) : a.than a = true := by simp [Node.than, covers_refl]
theorem than_trans {a b c : Node} (h1 : a.than b = true) (h2 : b.than c = true) : a.than c = true := by
  simp only [Node.than, Bool.and_eq_true, decide_eq_true_eq] at *
  obtain ⟨⟨a1, ⟨a2, a3⟩, a4⟩, a5⟩ := h1
  obtain ⟨⟨b1, ⟨b2, b3⟩, b4⟩, b5⟩ := h2
  exact ⟨⟨by omega, ⟨by omega, by omega⟩, by omega⟩, covers_trans a5 b5⟩
def front1 (out : List Node) (b : Node) : List Node := if out.any (fun a => a.than b) = true then out else (out.filter fun a => !b.than a) ++ [b]
def frontL (l : List Node) : List Node := l.foldl front1 []
def blk (pre : List Node) (b : Node) (post : List Node) : Bool := pre.any (fun a => a.than b) || post.any fun c => c.than b && !b.than c
def frR (pre : List Node) : List Node → List Node → List Node
  | [], _ => []
  | b :: l, post => (if blk pre b (l ++ post) = true then [] else [b]) ++ frR (pre ++ [b]) l post
theorem frR_post (c : Node) : ∀ (l pre : List Node), frR pre l [c] = (frR pre l []).filter fun b => !(c.than b && !b.than c)
  | [], pre => rfl
  | b :: l, pre => by
    rw [frR, frR, List.filter_append, frR_post c l]
    congr 1
    have : blk pre b (l ++ [c]) = (blk pre b (l ++ []) || (c.than b && !b.than c)) := by
      simp [blk, Bool.or_assoc]
    rw [this]
    generalize hq : (c.than b && !b.than c) = q
    cases blk pre b (l ++ []) <;> cases q <;> simp only [Bool.or_true, Bool.or_false, Bool.false_eq_true, if_true, if_false, List.filter_cons, List.filter_nil, hq, Bool.not_true, Bool.not_false]
theorem frR_app (c : Node) : ∀ (l pre : List Node), frR pre (l ++ [c]) [] = frR pre l [c] ++ (if (pre ++ l).any (fun a => a.than c) = true then [] else [c])
  | [], pre => by simp [frR, blk]
  | b :: l, pre => by
    rw [List.cons_append, frR, frR, frR_app c l, List.append_nil, List.append_assoc, List.append_assoc]
    simp
structure FrInv (pre F : List Node) : Prop where
  up : ∀ a ∈ pre, ∃ f ∈ F, f.than a = true
  sub : ∀ f ∈ F, f ∈ pre
  one : ∀ f ∈ F, ∀ b ∈ F, f.than b = true → f = b
  eq : F = frR [] pre []
theorem FrInv.step {pre F : List Node} (h : FrInv pre F) (c : Node) : FrInv (pre ++ [c]) (front1 F c) := by
  have hany : pre.any (fun a => a.than c) = F.any fun a => a.than c := by
    rw [Bool.eq_iff_iff, List.any_eq_true, List.any_eq_true]
    constructor
    · rintro ⟨a, ha, hc⟩
      obtain ⟨f, hf, hfa⟩ := h.up a ha
      exact ⟨f, hf, than_trans hfa hc⟩
    · rintro ⟨f, hf, hc⟩
      exact ⟨f, h.sub f hf, hc⟩
  have he : frR [] (pre ++ [c]) [] = front1 F c := by
    rw [frR_app, frR_post, ← h.eq, List.nil_append, hany]
    unfold front1
    by_cases hc : F.any (fun a => a.than c) = true
    · rw [if_pos hc, if_pos hc, List.append_nil]
      rw [List.filter_eq_self]
      intro b hb
      rw [List.any_eq_true] at hc
      obtain ⟨f, hf, hfc⟩ := hc
      cases h1 : c.than b with
      | false => rfl
      | true =>
        have := h.one f hf b hb (than_trans hfc h1)
        subst this
        simp [hfc]
    · rw [if_neg hc, if_neg hc]
      congr 1
      refine List.filter_congr fun b hb => ?_
      have : b.than c = false := by
        cases h1 : b.than c with
        | false => rfl
        | true => exact absurd (List.any_eq_true.2 ⟨b, hb, h1⟩) hc
      simp [this]
  refine ⟨?_, ?_, ?_, he.symm⟩
  · intro a ha
    unfold front1
    split
    · rename_i hc
      rcases List.mem_append.1 ha with ha | ha
      · exact h.up a ha
      · rw [List.mem_singleton.1 ha]
        obtain ⟨f, hf, hfc⟩ := List.any_eq_true.1 hc
        exact ⟨f, hf, hfc⟩
    · rcases List.mem_append.1 ha with ha | ha
      · obtain ⟨f, hf, hfa⟩ := h.up a ha
        cases h1 : c.than f with
        | true => exact ⟨c, by simp, than_trans h1 hfa⟩
        | false => exact ⟨f, List.mem_append_left _ (List.mem_filter.2 ⟨hf, by simp [h1]⟩), hfa⟩
      · rw [List.mem_singleton.1 ha]
        exact ⟨c, by simp, than_refl c⟩
  · intro f hf
    unfold front1 at hf
    split at hf
    · exact List.mem_append_left _ (h.sub f hf)
    · rcases List.mem_append.1 hf with hf | hf
      · exact List.mem_append_left _ (h.sub f (List.mem_filter.1 hf).1)
      · exact List.mem_append_right _ hf
  · intro f hf b hb hfb
    unfold front1 at hf hb
    split at hf
    · rename_i hc
      rw [if_pos hc] at hb
      exact h.one f hf b hb hfb
    · rename_i hc
      rw [if_neg hc] at hb
      rcases List.mem_append.1 hf with hf | hf <;> rcases List.mem_append.1 hb with hb | hb
      · exact h.one f (List.mem_filter.1 hf).1 b (List.mem_filter.1 hb).1 hfb
      · rw [List.mem_singleton.1 hb] at hfb
        exact absurd (List.any_eq_true.2 ⟨f, (List.mem_filter.1 hf).1, hfb⟩) hc
      · rw [List.mem_singleton.1 hf] at hfb
        have := (List.mem_filter.1 hb).2
        rw [hfb] at this
        cases this
      · rw [List.mem_singleton.1 hf, List.mem_singleton.1 hb]
theorem FrInv.fold : ∀ {l pre F : List Node}, FrInv pre F → FrInv (pre ++ l) (l.foldl front1 F)
  | [], pre, F, h => by rw [List.append_nil]; exact h
  | c :: l, pre, F, h => by
    have := (h.step c).fold (l := l)
    rw [List.append_assoc] at this
    exact this
theorem front_inv (l : List Node) : FrInv l (frontL l) := by
  have : FrInv [] [] := ⟨by simp, by simp, by simp, rfl⟩
  exact this.fold (l := l)
theorem front_eq (l : List Node) : frontL l = frR [] l [] := (front_inv l).eq
end Go.Proofs.Ytmmdnflngbkjnaa

/- What a level's next one keeps: the plain laws. -/
set_option maxRecDepth 4000
namespace Go.Proofs.Ytmmdnflngbkjnaa
open Go Go.Proofs.Ytmmdnflngbkjnaa.R
theorem canB_of {f : Nat → Bool} : ∀ {n k : Nat}, k < n → f k = true → (k : Int) ∈ canB f n
  | n + 1, k, h, hf => by
    rw [canB, List.mem_append]
    by_cases e : k = n
    · subst e
      exact .inr (by rw [if_pos hf]; simp)
    · exact .inl (canB_of (by omega) hf)
theorem mem_moves {x : Inst} {s : State} {j : Int} (h : (x.move s j).2.2 = true) : j ∈ x.moves s := by
  have hm : x.may = true := by
    by_cases e : j = 0
    · subst e; exact (move_home h).1
    · exact (move_pos h e).1
  obtain ⟨p, hx⟩ := x.fit hm
  have h1 := hx.len
  have h2 := hx.pairs
  have hj : 0 ≤ j ∧ j < x.stops.length := by
    by_cases e : j = 0
    · omega
    · have := move_pos h e
      omega
  rw [moves_can]
  have : ((j.toNat : Nat) : Int) = j := by omega
  rw [← this]
  exact canB_of (by omega) (by rw [this]; exact h)
theorem move_seen_low {x : Inst} (hl : x.stops.length < 2 ^ 31) (m : Node) (k : Int) (h0 : 0 ≤ m.cost) (h1 : m.cost + lowP x.near m.s.can ≤ k) (hk : k ≤ 1152921504606846976) : x.of m ≤ k := by
  have hin := lowP_in (near_le x) m.s.can
  rw [Inst.of, low_eq x m.s (by omega), sumI_two h0 hin.1 (by omega)]
  exact h1
theorem keeps_plain (x : Inst) (path : List Int) (i : Nat) (hi : i < path.length) (hlen : path.length ≤ 100) (hst : x.stops.length ≤ 100) (more : List Node) (limit : Int) {s : State} {cost : Int} (hg : x.goes path x.rootS 0 = some (s, cost)) (he : (x.endS s).2 = true) (hlt : cost + (x.endS s).1 < limit) :
    ∃ t fr u way, x.goes (path.take i) x.rootS 0 = some (t, fr) ∧ x.goes (path.take (i + 1)) x.rootS 0 = some (u, way) ∧ t.ok ∧ ∃ m ∈ x.next (⟨t, fr, path.take i⟩ :: more) limit, m.s = u ∧ m.cost ≤ way := by
  have hsplit : path = path.take i ++ path.drop i := (List.take_append_drop _ _).symm
  have hg0 := hg
  rw [hsplit, goes_app] at hg
  cases hgo : x.goes (path.take i) x.rootS 0 with
  | none => rw [hgo] at hg; cases hg
  | some r =>
    obtain ⟨t, fr⟩ := r
    rw [hgo] at hg
    have hg : x.goes (path.drop i) t fr = some (s, cost) := hg
    rw [List.drop_eq_getElem_cons hi, Inst.goes] at hg
    have hl1 : (path.take i).length ≤ 100 := by rw [List.length_take]; omega
    have hl2 : (path.drop (i + 1)).length ≤ 100 := by rw [List.length_drop]; omega
    obtain ⟨a1, a2, a3, a4⟩ := goes_facts x _ _ _ t fr (seen_root x) (Int.le_refl _) (by omega) hgo
    have hok := goes_ok x _ _ _ t fr (rootS_ok x) hgo
    split at hg
    · rename_i hm
      have hc := move_cost hm
      rw [w64 _ (by omega)] at hg
      have hgu : x.goes (path.take (i + 1)) x.rootS 0 = some ((x.move t path[i]).1, fr + (x.move t path[i]).2.1) := by
        rw [List.take_succ_eq_append_getElem hi, goes_app, hgo]
        show x.goes [path[i]] t fr = _
        rw [Inst.goes, if_pos hm, Inst.goes, w64 _ (by omega)]
      refine ⟨t, fr, _, _, rfl, hgu, hok, ?_⟩
      obtain ⟨b1, b2, b3, b4⟩ := goes_facts x _ _ _ _ _ (seen_step hm) (by omega) (by omega) hg
      have hle := low_end he
      have hec := end_cost he
      have hch : x.child ⟨t, fr, path.take i⟩ path[i] = ⟨(x.move t path[i]).1, fr + (x.move t path[i]).2.1, path.take i ++ [path[i]]⟩ := by
        rw [Inst.child]
        simp only
        rw [sumI_two a2 hc.1 (by omega)]
      have hof : x.of (x.child ⟨t, fr, path.take i⟩ path[i]) < limit := by
        have := move_seen_low (x := x) (by omega) (x.child ⟨t, fr, path.take i⟩ path[i]) (cost + (x.endS s).1) (by rw [hch]; simp only; omega) (by rw [hch]; simp only; omega) (by omega)
        omega
      have hmem : x.child ⟨t, fr, path.take i⟩ path[i] ∈ (Node.mk t fr (path.take i) :: more).flatMap (x.kids limit) := by
        refine List.mem_flatMap.2 ⟨_, List.mem_cons_self, ?_⟩
        rw [Inst.kids, List.mem_filter]
        exact ⟨List.mem_map.2 ⟨path[i], mem_moves hm, rfl⟩, by simpa using hof⟩
      obtain ⟨m, h1, h2, h3⟩ := onceL_has hmem
      rw [hch] at h2 h3
      exact ⟨m, h1, h2, h3⟩
    · cases hg
theorem bests_fold (x : Inst) (v : Int) : ∀ (l : List Node) (b : Node × Bool), ((∃ n ∈ l, (x.endS n.s).2 = true ∧ sumI [n.cost, (x.endS n.s).1] = v) ∨ (b.2 = true ∧ b.1.cost ≤ v)) → (l.foldl x.best1 b).2 = true ∧ (l.foldl x.best1 b).1.cost ≤ v
  | [], b, h => by
    rcases h with ⟨n, h, _⟩ | h
    · cases h
    · exact h
  | n :: l, b, h => by
    refine bests_fold x v l (x.best1 b n) ?_
    have key : b.2 = true ∧ b.1.cost ≤ v → (x.best1 b n).2 = true ∧ (x.best1 b n).1.cost ≤ v := by
      rintro ⟨h1, h2⟩
      unfold Inst.best1
      split
      · rename_i hc
        refine ⟨rfl, ?_⟩
        rcases hc.2 with hc | hc
        · rw [h1] at hc; cases hc
        · simp only; omega
      · exact ⟨h1, h2⟩
    rcases h with ⟨m, hm, h1, h2⟩ | h
    · rcases List.mem_cons.1 hm with rfl | hm
      · refine .inr ?_
        unfold Inst.best1
        split
        · exact ⟨rfl, by simp only; omega⟩
        · rename_i hc
          have hb : b.2 = true := by
            cases e : b.2 with
            | true => rfl
            | false => exact absurd ⟨h1, .inl e⟩ hc
          refine ⟨hb, ?_⟩
          have : ¬ sumI [m.cost, (x.endS m.s).1] < b.1.cost := fun e => hc ⟨h1, .inr e⟩
          omega
      · exact .inl ⟨m, hm, h1, h2⟩
    · exact .inr (key h)
theorem bests_has {x : Inst} {l : List Node} {n : Node} (hn : n ∈ l) (he : (x.endS n.s).2 = true) : (x.bests l).2 = true ∧ (x.bests l).1.cost ≤ sumI [n.cost, (x.endS n.s).1] := bests_fold x _ l _ (.inl ⟨n, hn, he, rfl⟩)
end Go.Proofs.Ytmmdnflngbkjnaa

/- Looking at all: the plain part. -/
set_option maxRecDepth 4000
namespace Go.Proofs.Ytmmdnflngbkjnaa
open Go Go.Proofs.Ytmmdnflngbkjnaa.R
def Inst.base (x : Inst) (s : State) : Nat := ((List.range (2 * x.pairs.toNat + 1)).filter fun j : Nat => decide (1 ≤ j) && !hasB s.must (j : Int)).length + (x.cars - s.car).toNat
theorem base_move {x : Inst} {s : State} {j : Int} (h : (x.move s j).2.2 = true) : x.base (x.move s j).1 < x.base s := by
  by_cases e : j = 0
  · subst e
    obtain ⟨_, _, h3, h4⟩ := move_home h
    rw [h4]
    simp only [Inst.stayB, Bool.or_eq_false_iff, decide_eq_false_iff_not] at h3
    simp only [Inst.base, Inst.homeS]
    have := h3.1.1.2
    omega
  · obtain ⟨h1, h2, h3, h4, h5, _, _, h6⟩ := move_pos h e
    obtain ⟨p, hx⟩ := x.fit h1
    have := hx.few
    have := hx.pairs
    rw [h6]
    simp only [Inst.lateB, Bool.or_eq_false_iff] at h5
    simp only [Inst.base, Inst.rvisit]
    obtain ⟨k, rfl⟩ : ∃ k : Nat, j = k := ⟨j.toNat, by omega⟩
    refine Nat.add_lt_add_right (filter_lt _ (a := k) (List.mem_range.2 (by omega)) ?_ ?_ ?_) _
    · rw [h5.1]
      simp only [Bool.not_false, Bool.and_true, decide_eq_true_eq]
      omega
    · rw [has_withN (by omega)]
      simp
    · intro b
      rw [has_withN (by omega)]
      simp only [Bool.and_eq_true, Bool.not_eq_true', Bool.or_eq_false_iff]
      exact fun h => ⟨h.1, h.2.1⟩
def Inst.meas (x : Inst) (s : State) : Nat := if x.may = true ∧ s.mayB x = true then x.base s else 0
theorem move_may {x : Inst} {s : State} {j : Int} (h : (x.move s j).2.2 = true) : x.may = true ∧ s.mayB x = true := by
  by_cases e : j = 0
  · subst e
    exact ⟨(move_home h).1, (move_home h).2.1⟩
  · exact ⟨(move_pos h e).1, (move_pos h e).2.1⟩
theorem meas_move {x : Inst} {s : State} {j : Int} (h : (x.move s j).2.2 = true) : x.meas (x.move s j).1 < x.meas s := by
  have h1 := base_move h
  have h2 := move_may h
  have : x.meas (x.move s j).1 ≤ x.base (x.move s j).1 := by
    unfold Inst.meas
    split <;> omega
  have : x.meas s = x.base s := by rw [Inst.meas, if_pos h2]
  omega
theorem meas_le (x : Inst) (s : State) : x.meas s ≤ 40 := by
  unfold Inst.meas
  split
  · rename_i h
    obtain ⟨p, hx⟩ := x.fit h.1
    have h1 := hx.few
    have h2 := hx.pairs
    have h3 := hx.cars
    have h4 := h.2
    simp only [State.mayB, Bool.and_eq_true, decide_eq_true_eq] at h4
    have h5 := h4.1.1.1.1.1.2
    have h6 : ((List.range (2 * x.pairs.toNat + 1)).filter fun j : Nat => decide (1 ≤ j) && !hasB s.must (j : Int)).length ≤ 2 * x.pairs.toNat + 1 := by
      refine Nat.le_trans (List.length_filter_le _ _) ?_
      rw [List.length_range]; exact Nat.le_refl _
    unfold Inst.base
    omega
  · omega
def Inst.look (x : Inst) (st : Node × Bool × Int) (l : List Node) : Node × Bool × Int :=
  if (x.bests l).2 = true ∧ (x.bests l).1.cost < st.2.2 then ((x.bests l).1, true, (x.bests l).1.cost) else st
def Inst.exGo (x : Inst) (most : Int) : Nat → Node × Bool × Int → List Node → Int → Node × Bool × Bool × Int
  | 0, st, _, n => (st.1, st.2.1, true, n)
  | d + 1, st, l, n => if l.length = 0 then (st.1, st.2.1, true, n) else if most < l.length then (st.1, st.2.1, false, n) else
    x.exGo most d (x.look st l) (frontL (x.next l st.2.2)) (IntKind.i64.wrap (n + l.length))
def Inst.exact (x : Inst) (n : Node) (up most : Int) : Node × Bool × Bool × Int := x.exGo most (x.meas n.s + 1) (Node.zero, false, up) [n] 0
def exRes4 (r : Node × Bool × Bool × Int) : AV := .tup [r.1.a, .b r.2.1, .b r.2.2.1, .i r.2.2.2]
/-- What holds of a level. -/
structure Level (x : Inst) (l : List Node) (d K : Nat) : Prop where
  ok : ∀ n ∈ l, n.s.ok
  deep : ∀ n ∈ l, x.meas n.s < d
  path : ∀ n ∈ l, n.path.length + d ≤ K
theorem Level.next {x : Inst} {l : List Node} {d K : Nat} (h : Level x l (d + 1) K) (up : Int) : Level x (frontL (x.next l up)) d K := by
  have key : ∀ m ∈ frontL (x.next l up), ∃ n ∈ l, ∃ j, (x.move n.s j).2.2 = true ∧ m = x.child n j := by
    intro m hm
    obtain ⟨n, hn, j, hj, e, _⟩ := next_mem ((front_inv _).sub m hm)
    exact ⟨n, hn, j, moves_mem hj, e⟩
  refine ⟨?_, ?_, ?_⟩
  · intro m hm
    obtain ⟨n, hn, j, hj, rfl⟩ := key m hm
    exact move_ok x j (h.ok n hn)
  · intro m hm
    obtain ⟨n, hn, j, hj, rfl⟩ := key m hm
    have := meas_move hj
    have := h.deep n hn
    show x.meas (x.move n.s j).1 < d
    omega
  · intro m hm
    obtain ⟨n, hn, j, hj, rfl⟩ := key m hm
    have := h.path n hn
    show (n.path ++ [j]).length + d ≤ K
    rw [List.length_append]
    simp only [List.length_cons, List.length_nil]
    omega
theorem Level.empty {x : Inst} {l : List Node} {K : Nat} (h : Level x l 0 K) : l = [] := by
  cases l with
  | nil => rfl
  | cons n l => exact absurd (h.deep n List.mem_cons_self) (by omega)
theorem Level.root (x : Inst) (n : Node) (h : n.s.ok) : Level x [n] (x.meas n.s + 1) (n.path.length + x.meas n.s + 1) := by
  refine ⟨?_, ?_, ?_⟩ <;> (intro m hm; rw [List.mem_singleton.1 hm])
  · exact h
  · omega
  · omega
end Go.Proofs.Ytmmdnflngbkjnaa
