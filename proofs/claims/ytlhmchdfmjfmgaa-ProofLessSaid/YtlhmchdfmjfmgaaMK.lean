/- Parts of the proof: Sched2, Sched3, PlanC, Split, ToursP, PlansP, Law20a. -/
import Derived.Test.YtlhmchdfmjfmgaaMJ
set_option linter.unusedVariables false
/- When a car is where: it visits a stop. -/
set_option maxRecDepth 4000
namespace Go.Proofs.Ytlhmchdfmjfmgaa
open Go Go.Proofs.Ytlhmchdfmjfmgaa.R
structure Rows3 (c : Car) (σ : Nat → AObj) (nx b qt ql : Nat) : Prop where
  tm : σ qt = .arr 3 c.times
  ld : σ ql = .arr 1 (ints c.loads)
  ltT : qt < nx
  ltL : ql < nx
  neT : qt ≠ b
  neL : ql ≠ b
  ne : qt ≠ ql
def Inst.visitC (x : Inst) (c : Car) (i : Int) : Car × Int :=
  if x.visitsE c i ≠ 0 then (c, x.visitsE c i)
  else if (x.stop i).due < max (c.now + far (x.stop c.spot) (x.stop i)) (x.stop i).ready then (x.drive c i, 7)
  else ({ spot := i, now := max (c.now + far (x.stop c.spot) (x.stop i)) (x.stop i).ready + (x.stop i).service, gone := c.gone + far (x.stop c.spot) (x.stop i), load := c.load + (x.stop i).demand, seen := withN c.seen i,
          on := if i ≤ x.pairs then withN c.on i else withoutN c.on (i - x.pairs), times := c.times ++ [[.i (c.now + far (x.stop c.spot) (x.stop i)), .i (max (c.now + far (x.stop c.spot) (x.stop i)) (x.stop i).ready), .i (max (c.now + far (x.stop c.spot) (x.stop i)) (x.stop i).ready + (x.stop i).service)]], loads := c.loads ++ [c.load + (x.stop i).demand] }, 0)
theorem visits_ok {x : Inst} {c : Car} {i : Int} (h : x.visitsE c i = 0) : 1 ≤ i ∧ i ≤ 2 * x.pairs ∧ hasB c.seen i = false ∧ (x.pairs < i → hasB c.seen (i - x.pairs) = true) ∧ c.load + (x.stop i).demand ≤ x.room := by
  rw [Inst.visitsE] at h
  split at h
  · cases h
  split at h
  · cases h
  split at h
  · cases h
  split at h
  · cases h
  rename_i h1 h2 h3 h4
  refine ⟨by omega, by omega, by simpa using h2, fun h => ?_, by omega⟩
  cases hq : hasB c.seen (i - x.pairs) with
  | true => rfl
  | false => exact absurd ⟨h, hq⟩ h3
/-- What a car that visits leaves behind. -/
def VisitQ (x : Inst) (c' : Car) (e : Int) (σ : Nat → AObj) (nx b qt ql : Nat) (r : AV) (σ' : Nat → AObj) (nx' : Nat) : Prop :=
  r = .i e ∧ nx ≤ nx' ∧ ∃ qt' ql', σ' b = .box (carC x c' qt' ql') ∧ Rows3 c' σ' nx' b qt' ql' ∧ (∀ j, j < nx → j ≠ b → j ≠ qt → j ≠ ql → σ' j = σ j) ∧ (qt' = qt ∨ nx ≤ qt') ∧ (ql' = ql ∨ nx ≤ ql')
theorem visit_spec (x : Inst) (c : Car) (i : Int) {p k : Nat} (hx : x.Fit p) (hc : c.Fit p k) {σ : Nat → AObj} {nx b qt ql : Nat} (hb : b < nx) (hσb : σ b = .box (carC x c qt ql)) (hr3 : Rows3 c σ nx b qt ql) :
    CallQ P 131 [.ptr b 0, .i i] σ nx (VisitQ x (x.visitC c i).1 (x.visitC c i).2 σ nx b qt ql) := by
  generalize hR : x.visitC c i = R
  refine spec_of Try.func131 rfl rfl (by simp [Try.f131]) fun B hB hnx hσ => ?_
  simp only [Try.f131] at hB ⊢
  have hvs := visits_spec x c i hx hc hb hσb hr3.ltT hr3.ltL
  rw [Inst.visitC] at hR
  have hok := visits_ok (x := x) (c := c) (i := i)
  generalize x.visitsE c i = e at *
  refine K_run hB 100 ?_
  simp [go_sem]
  refine K_call rfl rfl rfl (args := [.ptr b 0, .i i]) (f := 157) (by simp [go_sem]) (by simp [go_sem, hB]) hvs ?_
  by_cases c0 : e = 0
  rotate_left
  · rw [if_pos c0] at hR
    subst hR
    refine K_run hB 100 ?_
    simp [go_sem, c0]
    exact ⟨rfl, Nat.le_refl _, qt, ql, hσb, hr3, fun j _ _ _ _ => rfl, .inl rfl, .inl rfl⟩
  rw [if_neg (by simp [c0])] at hR
  obtain ⟨k1, k2, k3, k4, k5⟩ := hok c0
  have hp := hx.pairs
  have hfew := hx.few
  have g3 := hx.lt (j := i) (by omega)
  have g4 := hx.get (j := i) (by omega)
  have hds : ∀ {σ : Nat → AObj} {nx : Nat}, b < nx → σ b = .box (carC x c qt ql) → qt < nx → ql < nx → _ := fun {σ nx} => drive_spec x c i hx hc (by omega) (by omega) (σ := σ) (nx := nx) (b := b) (qt := qt) (ql := ql)
  have hfi := hx.at (j := i) (by omega) (by omega)
  have hfar := far_le (x.stop c.spot) (x.stop i)
  generalize hzz : x.stop i = z at *
  generalize hdd : far (x.stop c.spot) z = d at *
  have hn := hc.now
  have hg := hc.gone
  have hkle := hc.le
  have hne : ¬ b = nx := by omega
  have hne2 : ¬ nx = b := by omega
  have h0 : 0 ≤ i := by omega
  refine K_run hB 100 ?_
  simp [go_sem, c0, hσb, carC, h0, g3, g4, Stop.t]
  refine K_call rfl rfl rfl (args := [.ptr b 0, .i i]) (f := 158) (by simp [go_sem]) (by simp [go_sem, hB]) (hds (by simp only; omega) (by simp [oput, hne, hσb]) (by have := hr3.ltT; simp only; omega) (by have := hr3.ltL; simp only; omega)) ?_
  have hcd : x.drive c i = { c with spot := i, gone := c.gone + d } := by rw [Inst.drive, hzz, hdd]
  have hdc : carC x (x.drive c i) qt ql = [.t (.i x.pairs), .t (.i x.cars), .t (.i x.room), .t (.sl (x.stops.map Stop.t)), .i i, .i c.now, .i (c.gone + d), .i c.load, .u c.seen, .u c.on, .ref qt, .ref ql] := by rw [hcd]; rfl
  have f1 := hfi.ready
  have f2 := hfi.service
  have f3 := hfi.due
  have f4 := hfi.demand
  have f5 := hc.load
  generalize hbe : max (c.now + d) z.ready = be at *
  have w1 := w64 (be + z.service) (by omega)
  have w2 := w64 (c.load + z.demand) (by omega)
  by_cases c1 : z.due < be
  · rw [if_pos c1] at hR
    subst hR
    refine K_run hB 100 ?_
    simp [go_sem, hne, hne2, hbe, c1]
    rw [hdc]
    exact ⟨by omega, rfl, by omega, qt, ql, by simp [oput, hne, show ¬ b = nx + 1 by omega, hcd, carC], ⟨by simp [oput, show ¬ qt = nx by have := hr3.ltT; omega, show ¬ qt = nx + 1 by have := hr3.ltT; omega, hr3.neT, hr3.tm, hcd], by simp [oput, show ¬ ql = nx by have := hr3.ltL; omega, show ¬ ql = nx + 1 by have := hr3.ltL; omega, hr3.neL, hr3.ld, hcd], by have := hr3.ltT; omega, by have := hr3.ltL; omega, hr3.neT, hr3.neL, hr3.ne⟩, fun j h1 h2 h3 h4 => by simp [oput, h2, show ¬ j = nx by omega, show ¬ j = nx + 1 by omega], .inl rfl, .inl rfl⟩
  rw [if_neg c1] at hR
  refine K_run hB 100 ?_
  simp [go_sem, hne, hne2, hbe, c1, w1, show ¬ b = nx + 1 by omega, show ¬ nx = nx + 1 by omega]
  have ht1 := hr3.ltT
  have ht2 := hr3.ltL
  have ht3 := hr3.neT
  have ht4 := hr3.neL
  have ht5 := hr3.ne
  have ht6 := hr3.tm
  have ht7 := hr3.ld
  obtain ⟨σ1, hσ1⟩ : ∃ σ1 : Nat → AObj, σ1 = oput (oput (oput σ nx (.box [.i z.x, .i z.y, .i z.demand, .i z.ready, .i z.due, .i z.service])) (nx + 1) (.box [.i (c.now + d), .i be, .i (be + z.service)])) b (.box [.t (.i x.pairs), .t (.i x.cars), .t (.i x.room), .t (.sl (x.stops.map Stop.t)), .i i, .i c.now, .i (c.gone + d), .i c.load, .u c.seen, .u c.on, .ref qt, .ref ql]) := ⟨_, rfl⟩
  have s1 : σ1 b = .box [.t (.i x.pairs), .t (.i x.cars), .t (.i x.room), .t (.sl (x.stops.map Stop.t)), .i i, .i c.now, .i (c.gone + d), .i c.load, .u c.seen, .u c.on, .ref qt, .ref ql] := by rw [hσ1]; simp [oput]
  have s2 : σ1 (nx + 1) = .box [.i (c.now + d), .i be, .i (be + z.service)] := by rw [hσ1]; simp [oput, show ¬ nx + 1 = b by omega]
  have s3 : σ1 nx = .box [.i z.x, .i z.y, .i z.demand, .i z.ready, .i z.due, .i z.service] := by rw [hσ1]; simp [oput, hne2]
  have s4 : ∀ j, j < nx → j ≠ b → σ1 j = σ j := fun j h1 h2 => by rw [hσ1]; simp [oput, h2, show ¬ j = nx by omega, show ¬ j = nx + 1 by omega]
  refine K_impC (t := ⟨sl [(0, .ptr b 0), (1, .i i), (6, .ptr nx 0), (8, .ptr (nx + 1) 0)], σ1, nx + 1 + 1⟩) (Imp.slots (by simp [go_sem]) ?_ rfl) ?_
  · rw [hσ1]
    funext j
    simp only [oput, hdc]
    by_cases e1 : j = b
    · simp [e1, hne, show ¬ b = nx + 1 by omega]
    · by_cases e2 : j = nx + 1
      · simp [e2, show ¬ nx + 1 = b by omega]
      · by_cases e3 : j = nx <;> simp [e1, e2, e3]
  have hw1 := with_pure c.seen i hc.seen
  have hw2 := with_pure c.on i hc.on
  have hw3 := without_pure c.on (i - x.pairs)
  have w3 := w64 (i - x.pairs) (by omega)
  obtain ⟨on2, hon⟩ : ∃ on2, on2 = (if i ≤ x.pairs then withN c.on i else withoutN c.on (i - x.pairs)) := ⟨_, rfl⟩
  rw [← hon] at hR
  obtain ⟨σ2, hσ2⟩ : ∃ σ2 : Nat → AObj, σ2 = oput σ1 b (.box [.t (.i x.pairs), .t (.i x.cars), .t (.i x.room), .t (.sl (x.stops.map Stop.t)), .i i, .i (be + z.service), .i (c.gone + d), .i (c.load + z.demand), .u (withN c.seen i), .u on2, .ref qt, .ref ql]) := ⟨_, rfl⟩
  refine K_drawnF [20, 23, 26] [1, 2, 9, 10, 11] rfl (by rw [hB]; kernel_rfl) (by kernel_rfl) fun ht hf' => ?_
  refine K_run hB 100 ?_
  simp [go_sem, ht, hf', s1, s2, s3, w2]
  refine K_dCallP rfl rfl rfl (args := [.u c.seen, .i i]) (f := 159) (by simp [go_sem]) (hw1) ?_
  refine K_run hB 100 ?_
  simp [go_sem, ht, hf', s1, s2, s3, w2, hne, hne2, show ¬ nx + 1 = b by omega]
  by_cases c2 : i ≤ x.pairs
  case' pos =>
    rw [if_pos c2] at hon
    simp [go_sem, c2, s1]
    refine K_call rfl rfl rfl (args := [.u c.on, .i i]) (f := 159) (by simp [go_sem]) (by simp [go_sem, hB]) ((hw2).spec _ _) ?_
    refine K_run hB 100 ?_
    simp [go_sem, s1]
  case' neg =>
    rw [if_neg c2] at hon
    simp [go_sem, c2, s1]
    refine K_drawnT [15] rfl (by rw [hB]; kernel_rfl) (by kernel_rfl) fun ht => ?_
    refine K_run hB 100 ?_
    simp [go_sem, ht, s1, w3]
    refine K_dCallP rfl rfl rfl (args := [.u c.on, .i (i - x.pairs)]) (f := 160) (by simp [go_sem]) (hw3) ?_
    refine K_run hB 100 ?_
    simp [go_sem, ht, s1]
  all_goals
    have u1 : σ2 b = .box [.t (.i x.pairs), .t (.i x.cars), .t (.i x.room), .t (.sl (x.stops.map Stop.t)), .i i, .i (be + z.service), .i (c.gone + d), .i (c.load + z.demand), .u (withN c.seen i), .u on2, .ref qt, .ref ql] := by rw [hσ2]; simp [oput]
    have u2 : σ2 (nx + 1) = .box [.i (c.now + d), .i be, .i (be + z.service)] := by rw [hσ2]; simp [oput, s2, show ¬ nx + 1 = b by omega]
    have u3 : σ2 qt = .arr 3 c.times := by rw [hσ2]; simp [oput, ht3, s4 qt ht1 ht3, ht6]
    have u4 : σ2 ql = .arr 1 (ints c.loads) := by rw [hσ2]; simp [oput, ht4, s4 ql ht2 ht4, ht7]
    have u5 : ∀ j, j < nx → j ≠ b → σ2 j = σ j := fun j h1 h2 => by rw [hσ2]; simp [oput, h2, s4 j h1 h2]
    refine K_impC (t := ⟨sl [(0, .ptr b 0), (8, .ptr (nx + 1) 0)], σ2, nx + 1 + 1⟩) (Imp.slots (by simp [go_sem]) ?_ rfl) ?_
    · rw [hσ2]
      funext j
      by_cases e1 : j = b <;> simp [oput, e1, hon]
    refine K_drawnGM [8, 18, 21, 24] [0, 1, 9, 10, 11, 12, 13, 14, 15, 16, 17] [] [⟨12, fun t => if t = 109 then .ptr b 11 else .any, .ref ql, some (noObj, 0)⟩, ⟨16, fun t => if t = 113 then .ptr b 7 else .any, .i (c.load + z.demand), some (noObj, 0)⟩] rfl (by rw [hB]; kernel_rfl) (by kernel_rfl) (fun q hq => ?_) fun ht hf' => ?_
    · simp only [List.mem_cons, List.not_mem_nil, or_false] at hq
      rcases hq with rfl | rfl
      · exact ⟨_, rfl, by simp [go_sem], by simp [go_sem, u1]⟩
      · exact ⟨_, rfl, by simp [go_sem], by simp [go_sem, u1]⟩
    have hm1 : c.times.length + 1 ≤ mostLen := by rw [hc.times]; show k + 1 ≤ 4294967296; omega
    have hm2 : (ints c.loads).length + 1 ≤ mostLen := by rw [ints, List.length_map, hc.loads]; show k + 1 ≤ 4294967296; omega
    have hb1 : ¬ b = qt := fun e => ht3 e.symm
    have hb2 : ¬ b = ql := fun e => ht4 e.symm
    have hb3 : ¬ ql = qt := fun e => ht5 e.symm
    have hb4 : ¬ b = nx + 1 + 1 := by omega
    have hb5 : ¬ ql = nx + 1 + 1 := by omega
    refine K_run hB 12 ?_
    simp [go_sem, ht, hf', u1, u2, u3, u4, hm1, hb1, hb2, hb3, hb4, hb5]
    refine K_dMark (v := .ref ql) (by simp [go_sem]) (by simp [go_sem, u1, hb1, hb4]) ⟨rfl, ⟨12, fun t => if t = 109 then .ptr b 11 else .any, .ref ql, some (noObj, 0)⟩, by simp, by simp, rfl, rfl, fun t h => ?_⟩ ?_
    · have : t = 109 := by simpa [looksOf, Oper.looksAt, Op.operands] using h
      subst this
      simp [go_sem]
    refine K_run hB 3 ?_
    simp [go_sem]
    refine K_dMark (v := .i (c.load + z.demand)) (by simp [go_sem]) (by simp [go_sem, u1, hb1, hb4]) ⟨rfl, ⟨16, fun t => if t = 113 then .ptr b 7 else .any, .i (c.load + z.demand), some (noObj, 0)⟩, by simp, by simp, rfl, rfl, fun t h => ?_⟩ ?_
    · have : t = 113 := by simpa [looksOf, Oper.looksAt, Op.operands] using h
      subst this
      simp [go_sem]
    refine K_run hB 100 ?_
    simp [go_sem, ht, hf', u1, u2, u3, u4, hm2, hb1, hb2, hb3, hb4, hb5, show ¬ b = nx + 1 + 1 + 1 by omega]
    refine ⟨.inl (by kernel_rfl), by omega, ?_⟩
    rw [← hR]
    exact ⟨rfl, by omega, nx + 1 + 1, nx + 1 + 1 + 1, by simp [oput, hb5, show ¬ b = nx + 1 + 1 + 1 by omega, carC], ⟨by simp [oput, show ¬ nx + 1 + 1 = b by omega, show ¬ nx + 1 + 1 = ql by omega], by simp [oput, show ¬ nx + 1 + 1 + 1 = b by omega, ints], by omega, by omega, by omega, by omega, by omega⟩,
      fun j h1 h2 h3 h4 => by simp [oput, h2, h3, h4, show ¬ j = nx + 1 + 1 by omega, show ¬ j = nx + 1 + 1 + 1 by omega, u5 j h1 h2], .inr (by omega), .inr (by omega)⟩
end Go.Proofs.Ytlhmchdfmjfmgaa

/- When a car is where: a whole route. -/
set_option maxRecDepth 4000
namespace Go.Proofs.Ytlhmchdfmjfmgaa
open Go Go.Proofs.Ytlhmchdfmjfmgaa.R
theorem visitC_fit {x : Inst} {c : Car} {i : Int} {p k : Nat} (hx : x.Fit p) (hc : c.Fit p k) (h : (x.visitC c i).2 = 0) : (x.visitC c i).1.Fit p (k + 1) := by
  have hok := visits_ok (x := x) (c := c) (i := i)
  rw [Inst.visitC] at h ⊢
  by_cases c0 : x.visitsE c i = 0
  rotate_left
  · rw [if_pos c0] at h; exact absurd h c0
  rw [if_neg (by simp [c0])] at h ⊢
  by_cases c1 : (x.stop i).due < max (c.now + far (x.stop c.spot) (x.stop i)) (x.stop i).ready
  · rw [if_pos c1] at h; cases h
  rw [if_neg c1]
  obtain ⟨k1, k2, k3, k4, k5⟩ := hok c0
  have hp := hx.pairs
  have hfi := hx.at (j := i) (by omega) (by omega)
  have hfar := far_le (x.stop c.spot) (x.stop i)
  have h1 := hc.now
  have h2 := hc.gone
  have h3 := hc.load
  have h4 := hfi.ready
  have h5 := hfi.due
  have h6 := hfi.service
  have h7 := hfi.demand
  have h8 := hx.room
  have h9 := hx.few
  constructor
  · simp only; omega
  · simp only; omega
  · simp only; omega
  · simp only; omega
  · exact withN_lt hc.seen _
  · simp only
    split
    · exact withN_lt hc.on _
    · exact withoutN_lt _ _
  · simp [hc.times]
  · simp [hc.loads]
  · intro y hy
    simp only [List.mem_append, List.mem_singleton] at hy
    rcases hy with hy | rfl
    · exact hc.three y hy
    · rfl
  · have h10 := hc.few
    obtain ⟨j, rfl⟩ : ∃ j : Nat, i = j := ⟨i.toNat, by omega⟩
    have := filter_lt (p := fun j : Nat => decide (1 ≤ j) && !hasB c.seen (j : Int)) (q := fun m : Nat => decide (1 ≤ m) && !hasB (withN c.seen (j : Int)) (m : Int)) (List.range (2 * p + 1)) (a := j) (List.mem_range.2 (by omega)) (by rw [k3]; simp; omega) (by rw [has_withN (by omega)]; simp) (fun m => by
      rw [has_withN (by omega)]
      simp only [Bool.and_eq_true, Bool.not_eq_true', Bool.or_eq_false_iff]
      exact fun h => ⟨h.1, h.2.1⟩)
    simp only
    omega
def Inst.homeC (x : Inst) (c : Car) : Car × Int :=
  if c.on ≠ 0 then (c, 8) else if (x.stop 0).due < c.now + far (x.stop c.spot) (x.stop 0) then (x.drive c 0, 7) else (x.drive c 0, 0)
theorem homeC_times (x : Inst) (c : Car) : (x.homeC c).1.times = c.times ∧ (x.homeC c).1.loads = c.loads := by
  rw [Inst.homeC]
  split
  · exact ⟨rfl, rfl⟩
  · split <;> exact ⟨rfl, rfl⟩
theorem homeC_spec (x : Inst) (c : Car) {p k : Nat} (hx : x.Fit p) (hc : c.Fit p k) {σ : Nat → AObj} {nx b qt ql : Nat} (hb : b < nx) (hσb : σ b = .box (carC x c qt ql)) (hqt : qt < nx) (hql : ql < nx) :
    CallSpec P 132 [.ptr b 0] σ nx (.i (x.homeC c).2) (oput σ b (.box (carC x (x.homeC c).1 qt ql))) nx := by
  generalize hR : x.homeC c = R
  refine spec_down Try.func132 rfl rfl (by simp [Try.f132]) hb (by simp [bndO, bnd, bnd.bndL, carC, hqt, hql]) (by simp [bnd]) fun hkn B hB hnx hσ => ?_
  simp only [Try.f132] at hB ⊢
  have hds := drive_spec x c 0 hx hc (by omega) (by omega) hb hσb hqt hql
  rw [Inst.homeC] at hR
  by_cases c0 : c.on = 0
  rotate_left
  · rw [if_pos c0] at hR
    subst hR
    have c0' : ¬ (c.on : Int) = 0 := by omega
    refine K_run hB 100 ?_
    simp [go_sem, hσb, carC, c0, c0']
  rw [if_neg (by simp [c0])] at hR
  have g1 := hx.lt (j := 0) (by omega)
  have g3 := hx.get0
  have hdr : x.drive c 0 = { c with spot := 0, gone := c.gone + far (x.stop c.spot) (x.stop 0) } := rfl
  generalize x.stop 0 = z at *
  generalize far (x.stop c.spot) z = d at *
  have g4 : (0 : Int) < x.stops.length := g1
  have g5 : 0 < x.stops.length := by omega
  refine K_run hB 100 ?_
  simp [go_sem, hσb, carC, c0]
  refine K_drawnGM [1] [2, 3, 4, 5, 6, 7, 8, 9] [] [⟨6, fun t => if t = 13 then .ptr b 3 else .any, .t (.sl (x.stops.map Stop.t)), some (noObj, 0)⟩] rfl (by rw [hB]; kernel_rfl) (by kernel_rfl) (fun q hq => ?_) fun ht hf' => ?_
  · simp only [List.mem_cons, List.not_mem_nil, or_false] at hq
    subst hq
    exact ⟨_, rfl, by simp [go_sem], by simp [go_sem, hσb, carC]⟩
  refine K_run hB 1 ?_
  simp [go_sem, hσb, carC]
  refine K_dCall rfl rfl rfl (args := [.ptr b 0, .i 0]) (f := 158) (by simp [go_sem]) hds (by decide) (okPends_does (by simp [go_sem, carC])) ?_
  refine K_run hB 4 ?_
  simp [go_sem, carC]
  refine K_dMark (v := .t (.sl (x.stops.map Stop.t))) (by simp [go_sem]) (by simp [go_sem, carC]) ⟨rfl, ⟨6, fun t => if t = 13 then .ptr b 3 else .any, .t (.sl (x.stops.map Stop.t)), some (noObj, 0)⟩, by simp, by simp, rfl, rfl, fun t h => ?_⟩ ?_
  · have : t = 13 := by simpa [looksOf, Oper.looksAt, Op.operands] using h
    subst this
    simp [go_sem]
  refine K_run hB 2 ?_
  simp [go_sem, g4, g5, g3, Stop.t]
  refine K_dAny (v := .i z.due) (by simp [go_sem]) (fun σ nx => by simp [go_sem, Stop.t, g3, g5]) ?_
  by_cases c1 : z.due < c.now + d
  · rw [if_pos c1] at hR
    subst hR
    refine K_run hB 100 ?_
    simp [go_sem, c1, hdr, carC]
    exact fun j h1 h2 h3 => absurd h3 h2
  · rw [if_neg c1] at hR
    subst hR
    refine K_run hB 100 ?_
    simp [go_sem, c1, hdr, carC]
    exact fun j h1 h2 h3 => absurd h3 h2
def Inst.car0 (x : Inst) : Car := ⟨0, (x.stop 0).ready, 0, 0, 0, 0, [], []⟩
theorem car0_fit {x : Inst} {p : Nat} (hx : x.Fit p) : x.car0.Fit p 0 := by
  have h1 := (hx.at (j := 0) (by omega) (by omega)).ready
  refine ⟨by simp only [Inst.car0]; omega, by simp only [Inst.car0]; omega, by simp only [Inst.car0]; omega, by simp only [Inst.car0]; omega, by simp [Inst.car0], by simp [Inst.car0], rfl, rfl, (fun y hy => by cases hy), ?_⟩
  have := filter_lt (p := fun _ : Nat => true) (q := fun j : Nat => decide (1 ≤ j) && !hasB x.car0.seen (j : Int)) (List.range (2 * p + 1)) (a := 0) (List.mem_range.2 (by omega)) rfl (by simp) (fun _ _ => rfl)
  rw [List.filter_eq_self.2 (fun _ _ => rfl), List.length_range] at this
  omega
theorem begin_spec (x : Inst) {p : Nat} (hx : x.Fit p) (σ : Nat → AObj) (nx : Nat) :
    CallQ P 130 [x.a] σ nx fun r σ' nx' => ∃ b, r = .ptr b 0 ∧ nx ≤ b ∧ b < nx' ∧ σ' b = .box [.t (.i x.pairs), .t (.i x.cars), .t (.i x.room), .t (.sl (x.stops.map Stop.t)), .i 0, .i (x.stop 0).ready, .i 0, .i 0, .u 0, .u 0, .fsl [], .fsl []] ∧ ∀ j, j < nx → σ' j = σ j := by
  refine spec_of Try.func130 rfl rfl (by simp [Try.f130]) fun B hB hnx hσ => ?_
  simp only [Try.f130] at hB ⊢
  have g1 := hx.lt (j := 0) (by omega)
  have g3 := hx.get0
  generalize x.stop 0 = z at *
  have g4 : (0 : Int) < x.stops.length := g1
  have g5 : 0 < x.stops.length := by omega
  refine K_run hB 100 ?_
  simp [go_sem, Inst.a]
  refine K_drawnT [7] rfl (by rw [hB]; kernel_rfl) (by kernel_rfl) fun ht => ?_
  refine K_run hB 100 ?_
  simp [go_sem, ht, g4, g5, g3, Stop.t]
  exact ⟨by omega, fun j h1 => by simp [show ¬ j = nx by omega, show ¬ j = nx + 1 by omega]⟩
def Inst.runC (x : Inst) : List Int → Car → Car × Int
  | [], c => x.homeC c
  | i :: r, c => if (x.visitC c i).2 ≠ 0 then x.visitC c i else x.runC r (x.visitC c i).1
/-- What a route that is gone leaves behind. -/
def RunQ (x : Inst) (R : Car × Int) (σ : Nat → AObj) (nx : Nat) (r : AV) (σ' : Nat → AObj) (nx' : Nat) : Prop :=
  nx ≤ nx' ∧ (∀ j, j < nx → σ' j = σ j) ∧ ((R.2 ≠ 0 ∧ r = .tup [.t (.v (.pointer none)), .i R.2]) ∨ (R.2 = 0 ∧ ∃ b qt ql, r = .tup [.ptr b 0, .i 0] ∧ b < nx' ∧ σ' b = .box (carC x R.1 qt ql) ∧ Rows3 R.1 σ' nx' b qt ql))
structure RX where
  lb : Nat
  k : Nat
  c : Car
  e : Int
  b : Nat
  qt : Nat
  ql : Nat
  σ : Nat → AObj
  nx : Nat
structure RX.I (x : Inst) (p : Nat) (route : List Int) (R : Car × Int) (σ0 : Nat → AObj) (nx0 : Nat) (a : RX) : Prop where
  go : (a.lb = 1 ∧ a.k ≤ route.length ∧ a.c.Fit p a.k ∧ a.b < a.nx ∧ nx0 < a.b ∧ nx0 < a.qt ∧ nx0 < a.ql ∧ a.σ a.b = .box (carC x a.c a.qt a.ql) ∧ Rows3 a.c a.σ a.nx a.b a.qt a.ql ∧ x.runC (route.drop a.k) a.c = R) ∨ (a.lb = 0 ∧ a.e = R.2 ∧ R.2 ≠ 0)
  old : ∀ j, j ≤ nx0 → a.σ j = σ0 j
  nx : nx0 < a.nx
def RX.st (route : List Int) (a : RX) : St := ⟨sl (if a.lb = 1 then [(1, .t (.sl (ints route))), (6, .ptr a.b 0), (7, .i a.k)] else [(8, .i a.e)]), a.σ, a.nx⟩
def RX.m (route : List Int) (a : RX) : Nat := if a.lb = 1 then route.length + 1 - a.k else 0
theorem run_spec (x : Inst) (route : List Int) (hm : x.may = true) (hr : route.length < 2 ^ 63) (σ : Nat → AObj) (nx : Nat) :
    CallQ P 92 [x.a, .t (.sl (ints route))] σ nx (RunQ x (x.runC route x.car0) σ nx) := by
  generalize hR : x.runC route x.car0 = R
  obtain ⟨p, hx⟩ := x.fit hm
  have hlen := hx.len
  have hfew := hx.few
  have hil : (ints route).length = route.length := List.length_map _
  refine spec_of Try.func92 rfl rfl (by simp [Try.f92]) fun B hB hnx hσ => ?_
  simp only [Try.f92] at hB ⊢
  refine K_run hB 100 ?_
  simp [go_sem, Inst.a]
  obtain ⟨σ1, hσ1⟩ : ∃ σ1 : Nat → AObj, σ1 = oput σ nx (.box x.cs) := ⟨_, rfl⟩
  refine K_scopeF RX.lb (RX.I x p route R σ1 nx) (RX.st route) (RX.m route) (fun a ha => ?_) ?_ ?_
  · rcases ha.go with ⟨h, _⟩ | ⟨h, _⟩ <;> rw [h] <;> rfl
  · rintro ⟨lb, k, c, e, b, qt, ql, σ', nx'⟩ ⟨hgo, hold, hnx'⟩ fall
    simp only at hgo hold hnx'
    rcases hgo with ⟨rfl, g1, g2, g3, g4, g5, g6, g7, g8, g9⟩ | ⟨rfl, rfl, g2⟩
    · show Kp P B (.code (tailC _ 1) :: _) _ _ _
      simp [tailC, findLabel]
      refine K_run hB 100 ?_
      simp [go_sem, RX.st, hil]
      refine fork_dec (fun hk => ?_) (fun hk => ?_)
      · have hget := ints_getS route hk
        rw [List.drop_eq_getElem_cons hk, Inst.runC] at g9
        have hfit := visitC_fit (i := route[k]) hx g2
        have hvs := visit_spec x c route[k] hx g2 g3 g7 g8
        have hkk : IntKind.i64.wrap ((k : Int) + 1) = ((k + 1 : Nat) : Int) := by rw [w64 ((k : Int) + 1) (by omega)]; rfl
        generalize route[k] = i at *
        generalize x.visitC c i = V at *
        simp [go_sem, hil, hk, hget]
        refine K_callQ rfl rfl rfl (args := [.ptr b 0, .i i]) (f := 131) (by simp [go_sem]) (by simp [go_sem, hB]) hvs ?_
        rintro r σ2 nx2 ⟨rfl, v1, qt2, ql2, v2, v3, v4, v5, v6⟩
        have hold2 : ∀ j, j ≤ nx → σ2 j = σ1 j := fun j hj => by
          rw [v4 j (by omega) (by omega) (by omega) (by omega)]
          exact hold j hj
        by_cases c1 : V.2 = 0
        · rw [if_neg (by simp [c1])] at g9
          refine K_run hB 100 ?_
          simp [go_sem, c1, hkk]
          refine ⟨⟨1, k + 1, V.1, 0, b, qt2, ql2, σ2, nx2⟩, ⟨.inl ⟨rfl, by simp only; omega, hfit c1, by simp only; omega, g4, by simp only; omega, by simp only; omega, v2, v3, g9⟩, hold2, by simp only; omega⟩, rfl, Imp.slots (by simp [go_sem, RX.st]) rfl rfl, by simp only [RX.m, if_true]; omega⟩
        · rw [if_pos c1] at g9
          subst g9
          refine K_run hB 100 ?_
          simp [go_sem, c1]
          refine ⟨⟨0, 0, c, V.2, b, qt2, ql2, σ2, nx2⟩, ⟨.inr ⟨rfl, rfl, c1⟩, hold2, by simp only; omega⟩, rfl, Imp.slots (by simp [go_sem, RX.st]) rfl rfl, by simp [RX.m]; omega⟩
      · have : k = route.length := by omega
        subst this
        rw [List.drop_length, Inst.runC] at g9
        have hhs := homeC_spec x c hx g2 g3 g7 g8.ltT g8.ltL
        have hht := homeC_times x c
        rw [g9] at hhs hht
        simp [go_sem]
        refine K_call rfl rfl rfl (args := [.ptr b 0]) (f := 132) (by simp [go_sem]) (by simp [go_sem, hB]) hhs ?_
        by_cases c1 : R.2 = 0
        · refine K_run hB 100 ?_
          simp [go_sem, c1]
          have hne : ∀ j, j < nx → j ≠ b := fun j hj => by omega
          refine ⟨by omega, by omega, fun j hj => ?_, .inr ⟨c1, b, qt, ql, rfl, g3, by simp [oput], ⟨?_, ?_, g8.ltT, g8.ltL, g8.neT, g8.neL, g8.ne⟩⟩⟩
          · have := hold j (by omega)
            simp [oput, hne j hj, this, hσ1, show ¬ j = nx by omega]
          · simp [oput, g8.neT, g8.tm, hht.1]
          · simp [oput, g8.neL, g8.ld, hht.2]
        · refine K_run hB 9 ?_
          simp [go_sem, c1]
          refine fall 0 _ ?_
          refine ⟨⟨0, 0, c, R.2, b, qt, ql, _, nx'⟩, ⟨.inr ⟨rfl, rfl, c1⟩, fun j hj => ?_, by simp only; omega⟩, rfl, Imp.slots (by simp [go_sem, RX.st]) rfl rfl, by simp [RX.m]⟩
          simp only at hj ⊢
          have := hold j hj
          simp [oput, show ¬ j = b by omega, this]
    · show Kp P B (.code (tailC _ 0) :: _) _ _ _
      simp [tailC, findLabel]
      refine K_run hB 100 ?_
      simp [go_sem, RX.st]
      exact ⟨by omega, by omega, fun j hj => by rw [hold j (by omega), hσ1]; simp [oput, show ¬ j = nx by omega], .inl ⟨g2, rfl⟩⟩
  · intro J hJ
    refine K_run hB 100 ?_
    simp [go_sem]
    refine K_call rfl rfl rfl (args := [x.a]) (f := 28) (by simp [go_sem, Inst.a]) (by simp [go_sem, hB]) ((may_pure x (by omega)).spec _ _) ?_
    refine K_run hB 100 ?_
    simp [go_sem, hm]
    refine K_callQ rfl rfl rfl (args := [x.a]) (f := 130) (by simp [go_sem, Inst.a]) (by simp [go_sem, hB]) (begin_spec x hx _ _) ?_
    rintro r σ2 nx2 ⟨b, rfl, b1, b2, b3, b4⟩
    simp only at b1 b2 b3 b4
    refine K_run hB 4 ?_
    simp [go_sem]
    obtain ⟨σ3, hσ3⟩ : ∃ σ3 : Nat → AObj, σ3 = oput (oput (oput (oput σ2 b (.box [.t (.i x.pairs), .t (.i x.cars), .t (.i x.room), .t (.sl (x.stops.map Stop.t)), .i 0, .i (x.stop 0).ready, .i 0, .i 0, .u 0, .u 0, .ref nx2, .fsl []])) nx2 (.arr 3 [])) b (.box (carC x x.car0 nx2 (nx2 + 1)))) (nx2 + 1) (.arr 1 []) := ⟨_, rfl⟩
    refine hJ 1 _ ⟨⟨1, 0, x.car0, 0, b, nx2, nx2 + 1, σ3, nx2 + 2⟩, ⟨.inl ⟨rfl, Nat.zero_le _, car0_fit hx, by simp only; omega, by simp only; omega, by simp only; omega, by simp only; omega, ?_, ⟨?_, ?_, by simp only; omega, by simp only; omega, by simp only; omega, by simp only; omega, by simp only; omega⟩, hR⟩, ?_, by simp only; omega⟩, rfl, ?_⟩
    · simp [hσ3, oput, show ¬ b = nx2 + 1 by omega]
    · simp [hσ3, oput, show ¬ nx2 = b by omega, Inst.car0]
    · simp [hσ3, oput, Inst.car0, ints]
    · intro j hj
      simp only at hj ⊢
      simp only [hσ3, oput]
      rw [if_neg (by omega), if_neg (by omega), if_neg (by omega), if_neg (by omega), hσ1]
      exact b4 j (by omega)
    · refine (Imp.ownB (b := b) (off := 10) (sz := 3) (by simpa using b3) rfl).trans ((Imp.ownB (b := b) (off := 11) (sz := 1) (cs := [.t (.i x.pairs), .t (.i x.cars), .t (.i x.room), .t (.sl (x.stops.map Stop.t)), .i 0, .i (x.stop 0).ready, .i 0, .i 0, .u 0, .u 0, .ref nx2, .fsl []]) (by simp [oput, show ¬ b = nx2 by omega]) rfl).trans (Imp.slots (by simp [go_sem, RX.st]) ?_ rfl))
      rw [hσ3]; rfl
theorem run_no_spec (x : Inst) (route : List Int) (hm : x.may = false) (hl : x.stops.length < 2 ^ 63) (σ : Nat → AObj) (nx : Nat) :
    CallQ P 92 [x.a, .t (.sl (ints route))] σ nx fun r σ' nx' => r = .tup [.t (.v (.pointer none)), .i 1] := by
  refine spec_of Try.func92 rfl rfl (by simp [Try.f92]) fun B hB hnx hσ => ?_
  simp only [Try.f92] at hB ⊢
  refine K_run hB 100 ?_
  simp [go_sem, Inst.a]
  refine K_scopeL (α := Unit) (fun _ => 0) (fun _ => False) (fun _ => ⟨fun _ => .any, σ, nx⟩) (fun _ => 0) (fun _ h => h.elim) ?_ (fun _ h => h.elim)
  refine K_run hB 100 ?_
  simp [go_sem]
  refine K_call rfl rfl rfl (args := [x.a]) (f := 28) (by simp [go_sem, Inst.a]) (by simp [go_sem, hB]) ((may_pure x hl).spec _ _) ?_
  refine K_run hB 100 ?_
  simp [go_sem, hm]
def Inst.times (x : Inst) (route : List Int) : List (List T) × Int × Int :=
  if x.may = false then ([], 0, 1) else if (x.runC route x.car0).2 ≠ 0 then ([], 0, (x.runC route x.car0).2) else ((x.runC route x.car0).1.times, (x.runC route x.car0).1.gone, 0)
def timesA (r : List (List T) × Int × Int) : AV := .tup [.t (.sl r.1), .i r.2.1, .i r.2.2]
theorem times_pure (x : Inst) (route : List Int) (hl : x.stops.length < 2 ^ 63) (hr : route.length < 2 ^ 63) : Pure P 58 [x.a, .t (.sl (ints route))] (timesA (x.times route)) := by
  generalize hR : x.times route = R
  refine pure_of Try.func58 rfl rfl (by simp [Try.f58]) (by simp [bnd, bnd.bndL, Inst.a]) (by simp [bnd, bnd.bndL, timesA]) fun B hB hnx => ?_
  simp only [Try.f58] at hB ⊢
  rw [Inst.times] at hR
  refine K_run hB 100 ?_
  simp [go_sem, Inst.a]
  cases hm : x.may with
  | false =>
    rw [if_pos hm] at hR
    refine K_callQ rfl rfl rfl (args := [x.a, .t (.sl (ints route))]) (f := 92) (by simp [go_sem, Inst.a]) (by simp [go_sem, hB]) (run_no_spec x route hm hl _ _) ?_
    rintro r σ' nx' rfl
    subst hR
    refine K_run hB 100 ?_
    simp [go_sem, timesA]
  | true =>
    rw [if_neg (by simp [hm])] at hR
    have hrs := run_spec x route hm hr
    generalize x.runC route x.car0 = V at *
    refine K_callQ rfl rfl rfl (args := [x.a, .t (.sl (ints route))]) (f := 92) (by simp [go_sem, Inst.a]) (by simp [go_sem, hB]) (hrs _ _) ?_
    rintro r σ' nx' ⟨h1, h2, ⟨h3, rfl⟩ | ⟨h3, b, qt, ql, rfl, h4, h5, h6⟩⟩
    · rw [if_pos h3] at hR
      subst hR
      refine K_run hB 100 ?_
      simp [go_sem, h3, timesA]
    · rw [if_neg (by simp [h3])] at hR
      subst hR
      refine K_run hB 100 ?_
      simp [go_sem]
      refine K_drawn [] rfl (by rw [hB]; kernel_rfl) ?_
      refine K_run hB 100 ?_
      simp [go_sem, h5, carC, h6.tm, timesA]
end Go.Proofs.Ytlhmchdfmjfmgaa

/- What a plan costs. -/
set_option maxRecDepth 4000
namespace Go.Proofs.Ytlhmchdfmjfmgaa
open Go Go.Proofs.Ytlhmchdfmjfmgaa.R
def idxI (p : Int → Bool) : Nat → List Int → Int
  | _, [] => -1
  | i, n :: l => if p n = true then (i : Int) else idxI p (i + 1) l
theorem idxI_any (p : Int → Bool) : ∀ (i : Nat) (l : List Int), (0 ≤ idxI p i l) ↔ l.any p = true
  | _, [] => by simp [idxI]
  | i, n :: l => by
    rw [idxI, List.any_cons]
    cases h : p n with
    | true => simp
    | false => simp [idxI_any p (i + 1) l]
theorem indexI_pure (l : List Int) (p : Int → Bool) (f : FuncId) (hl : l.length < 2 ^ 62) (hf : ∀ n, Pure P f [.i n] (.b (p n))) : Pure P 56 [.t (.sl (ints l)), .fn (.func f) [] []] (.i (idxI p 0 l)) := by
  have hil : (ints l).length = l.length := List.length_map _
  refine pure_of Try.func56 rfl rfl (by simp [Try.f56]) (by simp [bnd, bnd.bndL]) (by simp [bnd, bnd.bndL]) fun B hB hnx => ?_
  simp only [Try.f56] at hB ⊢
  refine K_run hB 100 ?_
  simp [go_sem, hil]
  refine K_loopP (α := Nat) (fun k => k ≤ l.length ∧ idxI p k (l.drop k) = idxI p 0 l) (fun k => ⟨sl [(0, .t (.sl (ints l))), (1, .fn (.func f) [] []), (7, .i l.length), (8, .i k)], noObj, 0⟩) (fun k => l.length - k) 0 ⟨Nat.zero_le _, rfl⟩ (Imp.slots (by simp [go_sem]) rfl rfl) ?_
  rintro k ⟨h1, h2⟩
  refine K_run hB 60 ?_
  simp [go_sem]
  refine fork_dec (fun h => ?_) (fun h => ?_)
  · rw [List.drop_eq_getElem_cons h, idxI] at h2
    have hkk : IntKind.i64.wrap ((k : Int) + 1) = ((k + 1 : Nat) : Int) := by rw [w64 ((k : Int) + 1) (by omega)]; rfl
    have hget := ints_getS l h
    generalize l[k] = n at *
    have hp := hf n
    simp [go_sem, h, hil, hget]
    refine K_call rfl rfl rfl (args := [.i n]) (f := f) (by simp [go_sem]) (by simp [go_sem, hB]) (hp.spec _ _) ?_
    cases ho : p n with
    | true =>
      rw [ho, if_pos rfl] at h2
      refine K_run hB 100 ?_
      simp [go_sem, ← h2]
    | false =>
      rw [ho, if_neg (by simp)] at h2
      refine K_run hB 100 ?_
      simp [go_sem, hkk]
      exact Next.mk (k + 1) ⟨by omega, h2⟩ (Imp.slots (by simp [go_sem]) rfl rfl) (by omega)
  · have : k = l.length := by omega
    subst this
    rw [List.drop_length] at h2
    simp [go_sem, ← h2, idxI]
theorem containsI_pure (l : List Int) (p : Int → Bool) (f : FuncId) (hl : l.length < 2 ^ 62) (hf : ∀ n, Pure P f [.i n] (.b (p n))) : Pure P 60 [.t (.sl (ints l)), .fn (.func f) [] []] (.b (l.any p)) := by
  have hi := indexI_pure l p f hl hf
  have ha := idxI_any p 0 l
  refine pure_of Try.func60 rfl rfl (by simp [Try.f60]) (by simp [bnd, bnd.bndL]) (by simp [bnd, bnd.bndL]) fun B hB hnx => ?_
  simp only [Try.f60] at hB ⊢
  generalize idxI p 0 l = i at *
  refine K_run hB 100 ?_
  simp [go_sem]
  refine K_call rfl rfl rfl (args := [.t (.sl (ints l)), .fn (.func f) [] []]) (f := 56) (by simp [go_sem]) (by simp [go_sem, hB]) ((hi).spec _ _) ?_
  refine K_run hB 100 ?_
  simp [go_sem]
  rw [Bool.eq_iff_iff, decide_eq_true_eq]
  exact ha
theorem index1_pure (l : List Int) (v : Int) (hl : l.length < 2 ^ 62) : Pure P 93 [.t (.sl (ints l)), .i v] (.i (idxI (fun n => decide (n = v)) 0 l)) := by
  have hil : (ints l).length = l.length := List.length_map _
  refine pure_of Try.func93 rfl rfl (by simp [Try.f93]) (by simp [bnd, bnd.bndL]) (by simp [bnd, bnd.bndL]) fun B hB hnx => ?_
  simp only [Try.f93] at hB ⊢
  refine K_run hB 100 ?_
  simp [go_sem, hil]
  refine K_loopP (α := Nat) (fun k => k ≤ l.length ∧ idxI (fun n => decide (n = v)) k (l.drop k) = idxI (fun n => decide (n = v)) 0 l) (fun k => ⟨sl [(0, .t (.sl (ints l))), (1, .i v), (7, .i l.length), (8, .i k)], noObj, 0⟩) (fun k => l.length - k) 0 ⟨Nat.zero_le _, rfl⟩ (Imp.slots (by simp [go_sem]) rfl rfl) ?_
  rintro k ⟨h1, h2⟩
  refine K_run hB 60 ?_
  simp [go_sem]
  refine fork_dec (fun h => ?_) (fun h => ?_)
  · rw [List.drop_eq_getElem_cons h, idxI] at h2
    have hkk : IntKind.i64.wrap ((k : Int) + 1) = ((k + 1 : Nat) : Int) := by rw [w64 ((k : Int) + 1) (by omega)]; rfl
    have hget := ints_getS l h
    generalize l[k] = n at *
    by_cases ho : v = n
    · subst ho
      rw [if_pos (by simp)] at h2
      simp [go_sem, h, hil, hget, ← h2]
    · have ho' : ¬ n = v := fun e => ho e.symm
      rw [if_neg (by simp [ho'])] at h2
      simp [go_sem, h, hil, hget, ho, hkk]
      exact Next.mk (k + 1) ⟨by omega, h2⟩ (Imp.slots (by simp [go_sem]) rfl rfl) (by omega)
  · have : k = l.length := by omega
    subst this
    rw [List.drop_length] at h2
    simp [go_sem, ← h2, idxI]
theorem contains1_pure (l : List Int) (v : Int) (hl : l.length < 2 ^ 62) : Pure P 61 [.t (.sl (ints l)), .i v] (.b (l.any fun n => decide (n = v))) := by
  have hi := index1_pure l v hl
  have ha := idxI_any (fun n => decide (n = v)) 0 l
  refine pure_of Try.func61 rfl rfl (by simp [Try.f61]) (by simp [bnd, bnd.bndL]) (by simp [bnd, bnd.bndL]) fun B hB hnx => ?_
  simp only [Try.f61] at hB ⊢
  generalize idxI (fun n => decide (n = v)) 0 l = i at *
  refine K_run hB 100 ?_
  simp [go_sem]
  refine K_call rfl rfl rfl (args := [.t (.sl (ints l)), .i v]) (f := 93) (by simp [go_sem]) (by simp [go_sem, hB]) ((hi).spec _ _) ?_
  refine K_run hB 100 ?_
  simp [go_sem]
  rw [Bool.eq_iff_iff, decide_eq_true_eq]
  exact ha
theorem twice_pure (n : Int) : Pure P 59 [.i n] (.b (decide (1 < n))) := by
  refine pure_of Try.func59 rfl rfl (by simp [Try.f59]) (by simp [bnd, bnd.bndL]) (by simp [bnd, bnd.bndL]) fun B hB hnx => ?_
  simp only [Try.f59] at hB ⊢
  refine K_run hB 100 ?_
  simp [go_sem]
def bump (s : List Int) (i : Int) : List Int := s.set i.toNat (s.getD i.toNat 0 + 1)
def Inst.costGo (x : Inst) : List (List Int) → Int → List Int → Int × Int
  | [], all, seen => if (seen.any fun n => decide (1 < n)) = true then (0, 5) else if ((seen.drop 1).any fun n => decide (n = 0)) = true then (0, 4) else (all, 0)
  | r :: rs, all, seen => if r.length = 0 then (0, 1) else if (x.times r).2.2 ≠ 0 then (0, (x.times r).2.2) else x.costGo rs (all + (x.times r).2.1) (r.foldl bump seen)
def Inst.cost (x : Inst) (p : List (List Int)) : Int × Int :=
  if x.may = false then (0, 1) else if x.cars < p.length then (0, 6) else x.costGo p 0 (List.replicate (2 * x.pairs + 1).toNat 0)
/-- A route that can be gone. -/
theorem runC_ok {x : Inst} {p : Nat} (hx : x.Fit p) : ∀ (r : List Int) (c : Car) (k : Nat), c.Fit p k → (x.runC r c).2 = 0 → (∀ i ∈ r, 1 ≤ i ∧ i ≤ 2 * p) ∧ k + r.length ≤ 2 * p ∧ 0 ≤ (x.runC r c).1.gone ∧ (x.runC r c).1.gone ≤ 14143 * (k + r.length + 1)
  | [], c, k, hc, h => by
    have hg := hc.gone
    have hf := far_le (x.stop c.spot) (x.stop 0)
    have := hc.le
    refine ⟨fun i hi => (by cases hi), by simpa using this, ?_⟩
    rw [Inst.runC, Inst.homeC]
    simp only [List.length_nil]
    split
    · simp only; omega
    · split <;> simp only [Inst.drive] <;> omega
  | i :: r, c, k, hc, h => by
    rw [Inst.runC] at h ⊢
    by_cases c1 : (x.visitC c i).2 = 0
    · rw [if_neg (by simp [c1])] at h ⊢
      obtain ⟨h1, h2, h3, h4⟩ := runC_ok hx r _ _ (visitC_fit hx hc c1) h
      have hv : x.visitsE c i = 0 := by
        rw [Inst.visitC] at c1
        split at c1
        · rename_i hh; exact absurd c1 hh
        · rename_i hh; simpa using hh
      obtain ⟨k1, k2, _⟩ := visits_ok hv
      have hp := hx.pairs
      rw [List.length_cons]
      refine ⟨fun j hj => ?_, by omega, h3, by omega⟩
      rcases List.mem_cons.1 hj with rfl | hj
      · omega
      · exact h1 j hj
    · rw [if_pos c1] at h
      exact absurd h c1
theorem times_ok {x : Inst} {p : Nat} (hx : x.Fit p) (hm : x.may = true) {r : List Int} (h : (x.times r).2.2 = 0) : (∀ i ∈ r, 1 ≤ i ∧ i ≤ 2 * p) ∧ r.length ≤ 2 * p ∧ 0 ≤ (x.times r).2.1 ∧ (x.times r).2.1 ≤ 14143 * 33 := by
  rw [Inst.times, if_neg (by simp [hm])] at h ⊢
  by_cases c1 : (x.runC r x.car0).2 = 0
  · rw [if_neg (by simp [c1])]
    obtain ⟨h1, h2, h3, h4⟩ := runC_ok hx r _ 0 (car0_fit hx) c1
    have := hx.few
    exact ⟨h1, by omega, h3, by simp only; omega⟩
  · rw [if_pos c1] at h
    exact absurd h c1
theorem bump_len (s : List Int) (i : Int) : (bump s i).length = s.length := List.length_set
theorem bumps_len : ∀ (r : List Int) (s : List Int), (r.foldl bump s).length = s.length
  | [], s => rfl
  | i :: r, s => by rw [List.foldl_cons, bumps_len, bump_len]
/-- No number in a list grows above what was added. -/
theorem bump_le {s : List Int} {m : Int} (h : ∀ n ∈ s, 0 ≤ n ∧ n ≤ m) (i : Int) : ∀ n ∈ bump s i, 0 ≤ n ∧ n ≤ m + 1 := by
  intro n hn
  by_cases hi : i.toNat < s.length
  · rcases List.mem_or_eq_of_mem_set hn with h1 | h1
    · have := h n h1; omega
    · have e : s.getD i.toNat 0 = s[i.toNat] := by rw [List.getD_eq_getElem?_getD, List.getElem?_eq_getElem hi]; rfl
      rw [e] at h1
      have := h _ (List.getElem_mem hi)
      omega
  · rw [bump, List.set_eq_of_length_le (by omega)] at hn
    have := h _ hn
    omega
theorem cost_pure (x : Inst) (p : List (List Int)) (hl : x.stops.length < 2 ^ 63) (hp : p.length < 2 ^ 63) (hr : ∀ r ∈ p, r.length < 2 ^ 63) : Pure P 33 [x.a, .agg [.t (.sl (p.map rowT))]] (.tup [.i (x.cost p).1, .i (x.cost p).2]) := by
  generalize hR : x.cost p = R
  have hpl : (p.map rowT).length = p.length := List.length_map _
  refine pure_of Try.func33 rfl rfl (by simp [Try.f33]) (by simp [bnd, bnd.bndL, Inst.a]) (by simp [bnd, bnd.bndL]) fun B hB hnx => ?_
  simp only [Try.f33] at hB ⊢
  rw [Inst.cost] at hR
  refine K_run hB 100 ?_
  simp [go_sem, Inst.a]
  refine K_call rfl rfl rfl (args := [x.a]) (f := 28) (by simp [go_sem, Inst.a]) (by simp [go_sem, hB]) ((may_pure x hl).spec _ _) ?_
  cases hm : x.may with
  | false =>
    rw [if_pos hm] at hR
    subst hR
    refine K_run hB 100 ?_
    simp [go_sem]
  | true =>
    rw [if_neg (by simp [hm])] at hR
    obtain ⟨q, hx⟩ := x.fit hm
    have hpq := hx.pairs
    have hfew := hx.few
    have hcars := hx.cars
    by_cases c1 : x.cars < p.length
    · rw [if_pos c1] at hR
      subst hR
      refine K_run hB 100 ?_
      simp [go_sem, hpl, c1]
    rw [if_neg c1] at hR
    have w1 := w64 (2 * x.pairs) (by omega)
    have w2 := w64 (2 * x.pairs + 1) (by omega)
    refine K_run hB 100 ?_
    simp [go_sem, hpl, c1]
    refine K_drawnG [4] [5] [] rfl (by rw [hB]; kernel_rfl) (by kernel_rfl) fun ht hf' => ?_
    have hml : 2 * x.pairs + 1 ≤ (mostLen : Int) := by show _ ≤ (4294967296 : Int); omega
    refine K_run hB 100 ?_
    simp [go_sem, ht, hf', w1, w2, hml, show 0 ≤ 2 * x.pairs + 1 by omega, hpl]
    have hrep : List.replicate (2 * x.pairs + 1).toNat [(.i 0 : T)] = ints (List.replicate (2 * x.pairs + 1).toNat 0) := by simp [ints]
    refine K_loopP (α := Nat × Int × List Int) (fun (k, all, seen) => k ≤ p.length ∧ seen.length = 2 * q + 1 ∧ x.costGo (p.drop k) all seen = R ∧ (0 ≤ all ∧ all ≤ 466719 * k) ∧ ∀ n ∈ seen, 0 ≤ n ∧ n ≤ 33 * k)
      (fun (k, all, seen) => ⟨sl [(2, .ptr 0 0), (6, .i all), (7, .ref 2), (33, .t (.sl (p.map rowT))), (34, .i p.length), (35, .i k)], ob [(0, .box x.cs), (2, .arr 1 (ints seen))], 3⟩) (fun a => p.length - a.1) (0, 0, List.replicate (2 * x.pairs + 1).toNat 0) ?_
      (Sub.of (by omega) (by simp) (by simp [go_sem]) (by simp [go_sem, hrep])) ?_
    · refine ⟨Nat.zero_le _, by rw [List.length_replicate]; omega, hR, by omega, fun n hn => ?_⟩
      rw [(List.mem_replicate.1 hn).2]; omega
    rintro ⟨k, all, seen⟩ ⟨h1, h2, h3, h4, h5⟩
    refine K_run hB 60 ?_
    simp [go_sem, hpl]
    refine fork_dec (fun hk => ?_) (fun hk => ?_)
    · rw [List.drop_eq_getElem_cons hk, Inst.costGo] at h3
      have hkk : IntKind.i64.wrap ((k : Int) + 1) = ((k + 1 : Nat) : Int) := by rw [w64 ((k : Int) + 1) (by omega)]; rfl
      have hrl := hr p[k] (List.getElem_mem hk)
      have hget : (p.map rowT)[k]'(by rw [hpl]; exact hk) = [.sl (ints p[k])] := by simp [rowT]
      generalize p[k] = r at *
      have hil : (ints r).length = r.length := List.length_map _
      have hte := times_pure x r hl hrl
      have hok := times_ok hx hm (r := r)
      by_cases c2 : r.length = 0
      · rw [if_pos c2] at h3
        subst h3
        simp [go_sem, hk, hpl, hget, hil, c2]
      rw [if_neg c2] at h3
      generalize x.times r = V at *
      simp [go_sem, hk, hpl, hget, hil, c2]
      refine K_call rfl rfl rfl (args := [x.a, .t (.sl (ints r))]) (f := 58) (by simp [go_sem, Inst.a]) (by simp [go_sem, hB]) ((hte).spec _ _) ?_
      by_cases c3 : V.2.2 = 0
      rotate_left
      · rw [if_pos c3] at h3
        subst h3
        refine K_run hB 100 ?_
        simp [go_sem, timesA, c3]
      rw [if_neg (by simp [c3])] at h3
      obtain ⟨o1, o2, o3, o4⟩ := hok c3
      have w3 := w64 (all + V.2.1) (by omega)
      have hbl := bumps_len r seen
      refine K_run hB 100 ?_
      simp [go_sem, timesA, c3, w3, hil]
      refine K_loopP (α := Nat × List Int) (fun (j, s) => j ≤ r.length ∧ s.length = 2 * q + 1 ∧ (r.drop j).foldl bump s = r.foldl bump seen ∧ ∀ n ∈ s, 0 ≤ n ∧ n ≤ 33 * k + j)
        (fun (j, s) => ⟨sl [(2, .ptr 0 0), (6, .i (all + V.2.1)), (7, .ref 2), (33, .t (.sl (p.map rowT))), (34, .i p.length), (35, .i k), (55, .t (.sl (ints r))), (56, .i r.length), (57, .i j)], ob [(0, .box x.cs), (2, .arr 1 (ints s))], 3⟩) (fun a => r.length - a.1) (0, seen) ⟨Nat.zero_le _, h2, rfl, fun n hn => by have := h5 n hn; omega⟩
        (Sub.of (by omega) (by simp) (by simp [go_sem]) (by simp [go_sem])) ?_
      rintro ⟨j, s⟩ ⟨i1, i2, i3, i4⟩
      refine K_run hB 60 ?_
      simp [go_sem, hil]
      refine fork_dec (fun hj => ?_) (fun hj => ?_)
      · rw [List.drop_eq_getElem_cons hj, List.foldl_cons] at i3
        have hjj : IntKind.i64.wrap ((j : Int) + 1) = ((j + 1 : Nat) : Int) := by rw [w64 ((j : Int) + 1) (by omega)]; rfl
        have hgetj := ints_getS r hj
        have hin := o1 r[j] (List.getElem_mem hj)
        generalize r[j] = i at *
        have hisl : (ints s).length = s.length := List.length_map _
        have hlt : i.toNat < s.length := by omega
        have hltI : i < (s.length : Int) := by omega
        have hgets := ints_getS s hlt
        have hsi := i4 _ (List.getElem_mem hlt)
        have w4 := w64 (s[i.toNat] + 1) (by omega)
        have hb : bump s i = s.set i.toNat (s[i.toNat] + 1) := by rw [bump, List.getD_eq_getElem?_getD, List.getElem?_eq_getElem hlt]; rfl
        have hbi : ints (bump s i) = (ints s).set i.toNat [.i (s[i.toNat] + 1)] := by rw [hb, ints, ints, List.map_set]
        have hbl1 := bump_len s i
        have hble := bump_le (m := 33 * k + j) i4 i
        generalize s[i.toNat] = m at *
        simp [go_sem, hj, hil, hgetj, show 0 ≤ i by omega, hltI, hisl, hgets, w4, hjj, hlt, Nat.mod_one]
        refine Next.mk (j + 1, bump s i) ⟨by simp only; omega, by simp only; omega, i3, fun n hn => by have := hble n hn; simp only; omega⟩ (Sub.of (by omega) (by simp) (by simp [go_sem]) (by simp [go_sem, hbi])) (by simp only; omega)
      · have : j = r.length := by omega
        subst this
        rw [List.drop_length, List.foldl_nil] at i3
        subst i3
        simp [go_sem, hkk]
        exact Next.mk (k + 1, all + V.2.1, r.foldl bump seen) ⟨by simp only; omega, by simp only; omega, h3, by simp only; omega, fun n hn => by have := i4 n hn; simp only; omega⟩ (Sub.of (by omega) (by simp) (by simp [go_sem]) (by simp [go_sem])) (by simp only; omega)
    · have : k = p.length := by omega
      subst this
      rw [List.drop_length, Inst.costGo] at h3
      have hsl : seen.length < 2 ^ 62 := by omega
      have hc1 := containsI_pure seen (fun n => decide (1 < n)) 59 hsl twice_pure
      have hc2 := contains1_pure (seen.drop 1) 0 (by rw [List.length_drop]; omega)
      have hdr : ints (seen.drop 1) = (ints seen).drop 1 := by simp [ints, List.map_drop]
      have hisl : (ints seen).length = seen.length := List.length_map _
      have hone : ∀ y ∈ ints seen, y.length = 1 := by
        intro y hy
        simp only [ints, List.mem_map] at hy
        obtain ⟨n, _, rfl⟩ := hy
        rfl
      simp [go_sem]
      refine K_imp (t := ⟨sl [(6, .i all), (7, .t (.sl (ints seen))), (70, .t (.sl (ints seen))), (71, .fn (.func 59) [] [])], noObj, 3⟩) ((Imp.freeze (q := 2) (sz := 1) (es := ints seen) (by simp [go_sem])).trans (Imp.of (by simp [go_sem, frz1]) (fun i => .inl rfl) rfl)) ?_
      refine K_call rfl rfl rfl (args := [.t (.sl (ints seen)), .fn (.func 59) [] []]) (f := 60) (by simp [go_sem]) (by simp [go_sem, hB]) (hc1.spec _ _) ?_
      cases e1 : seen.any fun n => decide (1 < n) with
      | true =>
        rw [if_pos e1] at h3
        subst h3
        refine K_run hB 100 ?_
        simp [go_sem]
      | false =>
        rw [if_neg (by simp [e1])] at h3
        refine K_run hB 100 ?_
        simp [go_sem, hisl, h2, if_pos hone, hone, show (1 : Int) ≤ 2 * (q : Int) + 1 by omega]
        have hdr2 : (ints seen).tail = ints seen.tail := by simp [ints]
        cases e2 : (seen.drop 1).any fun n => decide (n = 0) with
        | true =>
          rw [if_pos e2] at h3
          rw [e2] at hc2
          subst h3
          refine K_call rfl rfl rfl (args := [.t (.sl (ints (seen.drop 1))), .i 0]) (f := 61) (by simp [go_sem, hdr2]) (by simp [go_sem, hB]) (hc2.spec _ _) ?_
          refine K_run hB 100 ?_
          simp [go_sem]
        | false =>
          rw [if_neg (by rw [e2]; simp)] at h3
          rw [e2] at hc2
          subst h3
          refine K_call rfl rfl rfl (args := [.t (.sl (ints (seen.drop 1))), .i 0]) (f := 61) (by simp [go_sem, hdr2]) (by simp [go_sem, hB]) (hc2.spec _ _) ?_
          refine K_run hB 100 ?_
          simp [go_sem]
end Go.Proofs.Ytlhmchdfmjfmgaa

/- The plan that a tour is. -/
set_option maxRecDepth 4000
namespace Go.Proofs.Ytlhmchdfmjfmgaa
open Go Go.Proofs.Ytlhmchdfmjfmgaa.R
def lowI (n : Int) : Bool := decide (n ≤ 0)
theorem idxI_at (p : Int → Bool) : ∀ (i : Nat) (l : List Int), idxI p i l < 0 ∨ ∃ j, j < l.length ∧ idxI p i l = ((i + j : Nat) : Int) ∧ p (l.getD j 0) = true ∧ ∀ n ∈ l.take j, p n = false
  | _, [] => .inl (by simp [idxI])
  | i, n :: l => by
    rw [idxI]
    cases h : p n with
    | true => exact .inr ⟨0, by simp, by simp, by simpa using h, by simp⟩
    | false =>
      rcases idxI_at p (i + 1) l with h1 | ⟨j, hj, h1, h2, h3⟩
      · exact .inl (by simpa using h1)
      · refine .inr ⟨j + 1, by simpa using hj, ?_, by simpa using h2, ?_⟩
        · rw [if_neg (by simp), h1]
          omega
        · intro m hm
          rw [List.take_succ_cons] at hm
          rcases List.mem_cons.1 hm with rfl | hm
          · exact h
          · exact h3 m hm
def splitF : Nat → List Int → Int → Bool → List (List Int) → List (List Int) × Int
  | 0, _, _, _, _ => ([], 2)
  | f + 1, t, last, order, acc =>
    if idxI lowI 0 t < 0 then (if (order || decide (t.getD 0 0 ≤ last)) = true then ([], 8) else (acc ++ [t], 0))
    else if idxI lowI 0 t = 0 ∨ t.getD (idxI lowI 0 t).toNat 0 < 0 ∨ idxI lowI 0 t = (t.length : Int) - 1 then ([], 2)
    else splitF f (t.drop ((idxI lowI 0 t).toNat + 1)) (t.getD 0 0) (order || decide (t.getD 0 0 ≤ last)) (acc ++ [t.take (idxI lowI 0 t).toNat])
def splitR (t : List Int) : List (List Int) × Int := if t.length = 0 then ([], 0) else splitF (t.length + 1) t 0 false []
theorem low1_pure (n : Int) : Pure P 57 [.i n] (.b (lowI n)) := by
  refine pure_of Try.func57 rfl rfl (by simp [Try.f57]) (by simp [bnd, bnd.bndL]) (by simp [bnd, bnd.bndL]) fun B hB hnx => ?_
  simp only [Try.f57] at hB ⊢
  refine K_run hB 100 ?_
  simp [go_sem, lowI]
theorem split_pure (t : List Int) (ht : t.length < 2 ^ 31) : Pure P 32 [.t (.sl (ints t))] (.tup [.agg [.t (.sl ((splitR t).1.map rowT))], .i (splitR t).2]) := by
  generalize hR : splitR t = R
  have hil : (ints t).length = t.length := List.length_map _
  refine pure_of Try.func32 rfl rfl (by simp [Try.f32]) (by simp [bnd, bnd.bndL]) (by simp [bnd, bnd.bndL]) fun B hB hnx => ?_
  simp only [Try.f32] at hB ⊢
  rw [splitR] at hR
  refine K_run hB 100 ?_
  simp [go_sem]
  refine K_scopeL (α := Unit) (fun _ => 0) (fun _ => False) (fun _ => ⟨fun _ => .any, noObj, 0⟩) (fun _ => 0) (fun _ h => h.elim) ?_ (fun _ h => h.elim)
  by_cases c0 : t.length = 0
  · rw [if_pos c0] at hR
    subst hR
    refine K_run hB 100 ?_
    simp [go_sem, hil, c0]
  rw [if_neg c0] at hR
  refine K_run hB 100 ?_
  simp [go_sem, hil, c0]
  refine K_call rfl rfl rfl (args := [.t (.sl (ints t))]) (f := 55) (by simp [go_sem]) (by simp [go_sem, hB]) (clone_spec t (by omega) _ _) ?_
  refine K_run hB 100 ?_
  simp [go_sem]
  refine K_loopP (α := Nat × List Int × Int × Bool × List (List Int) × (Nat → AObj) × Nat × Nat) (fun (f, t', last, order, acc, σ, nx, q) => t'.length ≠ 0 ∧ t'.length < f ∧ acc.length + t'.length ≤ t.length ∧ splitF f t' last order acc = R ∧ σ 0 = .box [.fsl []] ∧ σ 1 = .box [.ref q] ∧ σ q = .arr 1 (acc.map rowT) ∧ 1 < q ∧ q < nx)
    (fun (f, t', last, order, acc, σ, nx, q) => ⟨sl [(0, .t (.sl (ints t'))), (2, .ptr 0 0), (4, .ptr 1 0), (5, .b order), (6, .i last)], σ, nx⟩) (fun a => a.1) (t.length + 1, t, 0, false, [], _, 4, 3) ?_
    ((Imp.freeze (q := 2) (sz := 1) (es := ints t) (by simp [go_sem])).trans ((Imp.ownB (b := 1) (off := 0) (sz := 1) (cs := [.fsl []]) (by simp [go_sem, frzO, frz1, frz1.frzL]) rfl).trans (Imp.slots (by simp [go_sem, frz1]) rfl rfl))) ?_
  · exact ⟨c0, by omega, by simp, hR, by simp [oput, frzO, frz1, frz1.frzL], by simp [oput], by simp [oput], by omega, by omega⟩
  rintro ⟨f, t', last, order, acc, σ, nx, q⟩ ⟨g1, g2, g3, g4, g5, g6, g7, g8, g9⟩
  obtain ⟨f, rfl⟩ : ∃ f', f = f' + 1 := ⟨f - 1, by omega⟩
  have hil2 : (ints t').length = t'.length := List.length_map _
  have hlt0 : 0 < t'.length := by omega
  have hix := indexI_pure t' lowI 57 (by omega) low1_pure
  have hat := idxI_at lowI 0 t'
  rw [splitF] at g4
  have hhd : t'.getD 0 0 = t'[0]'hlt0 := by rw [List.getD_eq_getElem?_getD, List.getElem?_eq_getElem hlt0]; rfl
  have hget0 := ints_getS t' (i := 0) hlt0
  rw [hhd] at g4
  generalize idxI lowI 0 t' = e at *
  refine K_run hB 100 ?_
  simp [go_sem, hil2]
  refine K_call rfl rfl rfl (args := [.t (.sl (ints t')), .fn (.func 57) [] []]) (f := 56) (by simp [go_sem]) (by simp [go_sem, hB]) ((hix).spec _ _) ?_
  have hm1 : (acc.map rowT).length + 1 ≤ mostLen := by rw [List.length_map]; show _ ≤ 4294967296; omega
  have hm2 : acc.length + 1 ≤ mostLen := by show _ ≤ 4294967296; omega
  have hone : ∀ y ∈ ints t', y.length = 1 := by
    intro y hy
    simp only [ints, List.mem_map] at hy
    obtain ⟨n, _, rfl⟩ := hy
    rfl
  have htl : List.take t'.length (ints t') = ints t' := by rw [← hil2, List.take_length]
  by_cases c1 : e < 0
  · rw [if_pos c1] at g4
    cases order <;> by_cases c2 : t'[0] ≤ last
    all_goals
      simp only [c2, Bool.false_or, Bool.true_or, decide_true, decide_false, if_true, Bool.false_eq_true, if_false] at g4
      subst g4
      refine K_run hB 100 ?_
      simp [go_sem, c1, hil2, hlt0, hget0, c2]
      refine K_drawnT [7, 9] rfl (by rw [hB]; kernel_rfl) (by kernel_rfl) fun ht => ?_
      refine K_run hB 100 ?_
      simp [go_sem, ht, hil2, g5, g6, g7, hm1, hm2, if_pos hone, hone, htl, show ¬ 1 = nx by omega, show ¬ 1 = q by omega, show ¬ 0 = nx by omega, show ¬ 0 = q by omega, show ¬ nx = 0 by omega, show ¬ nx = 1 by omega, rowT]
  · rw [if_neg c1] at g4
    obtain ⟨j, hj, rfl, k2, k3⟩ := hat.resolve_left c1
    have hgetj := ints_getS t' hj
    have hge : t'.getD j 0 = t'[j] := by rw [List.getD_eq_getElem?_getD, List.getElem?_eq_getElem hj]; rfl
    simp only [Nat.zero_add, Int.toNat_natCast] at g4 c1 ⊢
    rw [hge] at g4
    have hjI : (j : Int) < t'.length := by omega
    have hjle : j ≤ t'.length := by omega
    have htj : List.take j (ints t') = ints (t'.take j) := by simp [ints, List.map_take]
    have hdj : List.drop (j + 1) (ints t') = ints (t'.drop (j + 1)) := by simp [ints, List.map_drop]
    have wj : IntKind.i64.wrap ((j : Int) + 1) = ((j + 1 : Nat) : Int) := by rw [w64 _ (by omega)]; rfl
    have w1 := w64 ((t'.length : Int) - 1) (by omega)
    by_cases d1 : j = 0
    · rw [if_pos (.inl (by omega))] at g4
      subst g4
      refine K_run hB 100 ?_
      simp [go_sem, c1, hil2, d1, g5]
    by_cases d2 : t'[j] < 0
    · rw [if_pos (.inr (.inl d2))] at g4
      subst g4
      refine K_run hB 100 ?_
      simp [go_sem, c1, hil2, d1, hj, hgetj, d2, g5]
    by_cases d3 : (j : Int) = (t'.length : Int) - 1
    · rw [if_pos (.inr (.inr d3))] at g4
      subst g4
      have hv : IntKind.i64.wrap ((t'.length : Int) - 1) = j := by rw [w1]; omega
      refine K_run hB 100 ?_
      simp [go_sem, c1, hil2, d1, hj, hgetj, d2, hv, g5]
    rw [if_neg (by omega)] at g4
    refine K_run hB 100 ?_
    simp [go_sem, c1, hil2, d1, hj, hgetj, d2, w1, d3]
    cases order <;> by_cases c2 : t'[0] ≤ last
    all_goals
      simp only [c2, Bool.false_or, Bool.true_or, decide_true, decide_false] at g4
      simp [go_sem, c1, hil2, hlt0, hget0, c2]
      refine K_drawnT [7, 9] rfl (by rw [hB]; kernel_rfl) (by kernel_rfl) fun ht => ?_
      refine K_run hB 100 ?_
      simp [go_sem, ht, hil2, g5, g6, g7, hm1, hm2, if_pos hone, hone, hjle, htj, hdj, show ¬ 1 = nx by omega, show ¬ 1 = q by omega, show ¬ 0 = nx by omega, show ¬ 0 = q by omega, show ¬ j = t'.length by omega, wj, show 0 ≤ (j : Int) + 1 by omega, show (j : Int) + 1 ≤ t'.length by omega]
      refine Next.mk (f, t'.drop (j + 1), t'[0], _, acc ++ [t'.take j], _, nx + 1, nx) ⟨?_, ?_, ?_, g4, ?_, ?_, ?_, ?_, ?_⟩ (Imp.slots (by simp [go_sem, hdj, c2]) rfl rfl) (by simp only; omega)
      · simp only [List.drop_eq_nil_iff]; omega
      · simp only [List.length_drop]; omega
      · simp only [List.length_drop, List.length_append, List.length_cons, List.length_nil]; omega
      · simp [oput, show ¬ 0 = nx by omega, show ¬ 0 = q by omega, g5]
      · simp [oput]
      · simp [oput, show ¬ nx = 1 by omega, rowT]
      · simp only; omega
      · simp only; omega
end Go.Proofs.Ytlhmchdfmjfmgaa

/- What can be followed and ended is the tour of a plan: the plain law. -/
set_option maxRecDepth 4000
namespace Go.Proofs.Ytlhmchdfmjfmgaa
open Go Go.Proofs.Ytlhmchdfmjfmgaa.R
/-- A car goes as a state says; what was seen ahead of its route: m0. -/
structure Sim1 (x : Inst) (p m0 : Nat) (s : State) (c : Car) (k : Nat) : Prop where
  spot : c.spot = s.spot
  now : c.now = s.time
  load : c.load = s.load
  on : c.on = s.on
  seen : ∀ i, 1 ≤ i → i ≤ 2 * p → s.must.testBit i = (m0.testBit i || c.seen.testBit i)
  old : ∀ i, 1 ≤ i → i ≤ p → m0.testBit i = true → m0.testBit (i + p) = true
  fit : c.Fit p k
  good : Good x p s
theorem Sim1.step {x : Inst} {p m0 k : Nat} {s : State} {c : Car} {j : Int} (hx : x.Fit p) (h : Sim1 x p m0 s c k) (hj : j ≠ 0) (hm : (x.move s j).2.2 = true) :
    (x.visitC c j).2 = 0 ∧ Sim1 x p m0 (x.move s j).1 (x.visitC c j).1 (k + 1) ∧ (x.visitC c j).1.gone = c.gone + (x.move s j).2.1 := by
  obtain ⟨g1, g2, g3, g4, g5, g6⟩ := good_step hx h.good hm
  obtain ⟨m1, m2, m3, m4, m5, m6, m7, m8⟩ := move_pos hm hj
  have hp := hx.pairs
  have hfew := hx.few
  obtain ⟨i, rfl⟩ : ∃ i : Nat, j = i := ⟨j.toNat, by omega⟩
  simp only [Inst.lateB, Bool.or_eq_false_iff, decide_eq_false_iff_not] at m5
  rw [has_testN (by omega)] at m5
  have hs := h.seen i (by omega) (by omega)
  rw [m5.1] at hs
  have hv : x.visitsE c i = 0 := by
    rw [Inst.visitsE, if_neg (by omega), if_neg, if_neg, if_neg]
    · rw [h.load]
      by_cases hi : (i : Int) ≤ x.pairs
      · have := m6 hi
        simp only [Inst.fullB, Bool.or_eq_false_iff, decide_eq_false_iff_not] at this
        omega
      · have hb := hx.bring (k := i - p) (by omega) (by omega)
        have ht := hx.take (k := i - p) (by omega) (by omega)
        have hr := h.good.room
        rw [show i - p + p = i by omega] at hb
        omega
    · rintro ⟨hi, hq⟩
      have := m7 hi
      simp only [Inst.emptyB, Bool.or_eq_false_iff, Bool.not_eq_false', decide_eq_false_iff_not] at this
      have e : (i : Int) - x.pairs = ((i - p : Nat) : Int) := by omega
      rw [e] at this hq
      rw [has_testN (by omega), h.good.eq] at this
      rw [has_testN (by omega)] at hq
      have h1 := h.seen (i - p) (by omega) (by omega)
      rw [this.2, hq, Bool.or_false] at h1
      have h2 := h.old (i - p) (by omega) (by omega) h1.symm
      rw [show i - p + p = i by omega] at h2
      rw [h2] at hs
      cases hs
    · rw [has_testN (by omega)]
      intro hq
      rw [hq, Bool.or_true] at hs
      cases hs
  have hfar : x.visitC c i = ({ spot := i, now := x.begins s i + (x.stop i).service, gone := c.gone + far (x.stop s.spot) (x.stop i), load := s.load + (x.stop i).demand, seen := withN c.seen i, on := if (i : Int) ≤ x.pairs then withN s.on i else withoutN s.on (i - x.pairs), times := c.times ++ [[.i (s.time + far (x.stop s.spot) (x.stop i)), .i (x.begins s i), .i (x.begins s i + (x.stop i).service)]], loads := c.loads ++ [s.load + (x.stop i).demand] }, 0) := by
    rw [Inst.visitC, if_neg (by simp [hv]), h.spot, h.now, h.load, h.on, if_neg]
    · rfl
    · have := m5.2
      unfold Inst.begins at this
      exact this
  have hfit := visitC_fit hx h.fit (i := i) (by rw [hfar])
  rw [hfar] at hfit ⊢
  rw [if_pos (by omega)] at g4 g6
  refine ⟨rfl, ⟨?_, ?_, ?_, ?_, ?_, h.old, hfit, g1⟩, ?_⟩
  · rw [m8]; rfl
  · rw [m8]; rfl
  · rw [g6]
  · rw [m8]; rfl
  · intro n n1 n2
    rw [g4, with_bit (by omega), with_bit (by omega), h.seen n n1 n2, Bool.or_assoc]
  · rw [m8]
/-- How often each stop stands in what was seen so far. -/
def MatchS (p must : Nat) (seen : List Int) : Prop := seen.length = 2 * p + 1 ∧ ∀ i (h : i < seen.length), seen[i] = if 1 ≤ i ∧ must.testBit i = true then 1 else 0
theorem MatchS.bump {p must : Nat} {seen : List Int} (h : MatchS p must seen) {j : Nat} (h1 : 1 ≤ j) (h2 : j ≤ 2 * p) (h64 : j ≤ 63) (hn : must.testBit j = false) : MatchS p (withN must j) (bump seen j) := by
  obtain ⟨hl, hs⟩ := h
  refine ⟨by rw [bump_len]; exact hl, fun i hi => ?_⟩
  have hi' : i < seen.length := by rw [bump_len] at hi; exact hi
  have e : seen.getD j 0 = seen[j] := by rw [List.getD_eq_getElem?_getD, List.getElem?_eq_getElem (by omega)]; rfl
  have h0 := hs j (by omega)
  rw [if_neg (by simp [hn])] at h0
  simp only [Go.Proofs.Ytlhmchdfmjfmgaa.bump, Int.toNat_natCast, e, h0, List.getElem_set, with_bit h64]
  by_cases hji : j = i
  · subst hji
    simp [h1]
  · rw [if_neg hji, hs i hi']
    simp [hji]
theorem MatchS.end {p must : Nat} {seen : List Int} (h : MatchS p must seen) (ha : ∀ i, 1 ≤ i → i ≤ 2 * p → must.testBit i = true) : (seen.any fun n => decide (1 < n)) = false ∧ ((seen.drop 1).any fun n => decide (n = 0)) = false := by
  obtain ⟨hl, hs⟩ := h
  constructor
  · rw [List.any_eq_false]
    intro n hn
    obtain ⟨i, hi, rfl⟩ := List.mem_iff_getElem.1 hn
    rw [hs i hi]
    split <;> simp
  · rw [List.any_eq_false]
    intro n hn
    obtain ⟨i, hi, rfl⟩ := List.mem_iff_getElem.1 hn
    rw [List.getElem_drop, hs (1 + i) (by rw [List.length_drop] at hi; omega), if_pos ⟨by omega, ha _ (by omega) (by rw [List.length_drop] at hi; omega)⟩]
    simp
theorem runC_cons {x : Inst} {i : Int} {r : List Int} {c : Car} (h : (x.visitC c i).2 = 0) : x.runC (i :: r) c = x.runC r (x.visitC c i).1 := by
  rw [Inst.runC, if_neg (by simp [h])]
/-- The rest of a route, in the middle of it. -/
theorem route_rest {x : Inst} {p m0 : Nat} (hx : x.Fit p) (h0 : x.pairs ≠ 0) : ∀ (path : List Int) (s : State) (c : Car) (k : Nat) (d : Int), Sim1 x p m0 s c k → s.spot ≠ 0 → x.way path s d →
    ∃ r rest c', path = r ++ rest ∧ (∀ i ∈ r, 0 < i) ∧ x.runC r c = (c', 0) ∧
      ((rest = [] ∧ d = c'.gone - c.gone ∧ ∀ seen, MatchS p s.must seen → ∃ must, MatchS p must (r.foldl bump seen) ∧ ∀ i, 1 ≤ i → i ≤ 2 * p → must.testBit i = true) ∨
       (∃ path' s' d', rest = 0 :: path' ∧ d = c'.gone - c.gone + d' ∧ x.way path' s' d' ∧ s'.spot = 0 ∧ s'.on = 0 ∧ s'.load = 0 ∧ s'.time = (x.stop 0).ready ∧ s'.first = s.first ∧ s'.car = s.car + 1 ∧ s.car < x.cars ∧ Good x p s' ∧ ∀ seen, MatchS p s.must seen → MatchS p s'.must (r.foldl bump seen)))
  | [], s, c, k, d, hs, hsp, hw => by
    obtain ⟨w1, w2⟩ := hw
    obtain ⟨e1, e2 | ⟨e2, e3, e4, e5, e6, e7⟩⟩ := end_is w1
    · exact absurd e2.1 h0
    · refine ⟨[], [], x.drive c 0, rfl, by simp, ?_, .inl ⟨rfl, ?_, fun seen hm => ⟨s.must, hm, fun i i1 i2 => ?_⟩⟩⟩
      · rw [Inst.runC, Inst.homeC, hs.on, hs.now, hs.spot, if_neg (by simp [e4]), if_neg (by omega)]
      · rw [w2, e7]
        show _ = c.gone + far (x.stop c.spot) (x.stop 0) - c.gone
        rw [hs.spot]
        simp only
        omega
      · rw [← hs.good.eq]
        exact Inst.all_bit hx e5 i1 i2
  | j :: path, s, c, k, d, hs, hsp, hw => by
    obtain ⟨w1, d', w2, w3⟩ := hw
    by_cases hj : j = 0
    · subst hj
      obtain ⟨g1, g2, g3, g4⟩ := move_home w1
      have hgs := (good_step hx hs.good w1).1
      simp only [Inst.stayB, Bool.or_eq_false_iff, decide_eq_false_iff_not] at g3
      obtain ⟨⟨⟨⟨a1, a2⟩, a3⟩, a4⟩, a5⟩ := g3
      rw [g4] at w2 w3 hgs
      have hon : s.on = 0 := by omega
      refine ⟨[], 0 :: path, x.drive c 0, rfl, by simp, ?_, .inr ⟨path, x.homeS s, d', rfl, ?_, w2, rfl, hon, rfl, rfl, rfl, rfl, by omega, hgs, fun seen hm => hm⟩⟩
      · rw [Inst.runC, Inst.homeC, hs.on, hs.now, hs.spot, if_neg (by simp [hon]), if_neg (by omega)]
      · show _ = c.gone + far (x.stop c.spot) (x.stop 0) - c.gone + d'
        rw [hs.spot, w3]
        simp only
        omega
    · obtain ⟨v1, v2, v3⟩ := hs.step hx hj w1
      obtain ⟨b1, b2, b3, b4, _, _⟩ := good_step hx hs.good w1
      obtain ⟨_, _, p3, p4, p5, _, _, m8⟩ := move_pos w1 hj
      have hfew := hx.few
      rw [if_pos p3] at b4
      have hsp' : (x.move s j).1.spot ≠ 0 := by rw [m8]; exact hj
      have hfi : (x.move s j).1.first = s.first := by rw [m8]; show (if s.spot = 0 then j else s.first) = s.first; rw [if_neg hsp]
      have hca : (x.move s j).1.car = s.car := by rw [m8]; rfl
      obtain ⟨r, rest, c', q1, q2, q3, q4⟩ := route_rest hx h0 path _ _ _ d' v2 hsp' w2
      have hmt : ∀ seen, MatchS p s.must seen → MatchS p (x.move s j).1.must (bump seen j) := fun seen hm => by
        obtain ⟨i, rfl⟩ : ∃ i : Nat, j = i := ⟨j.toNat, by omega⟩
        simp only [Inst.lateB, Bool.or_eq_false_iff] at p5
        have := p5.1
        rw [has_testN (by omega)] at this
        rw [b4]
        exact hm.bump (by omega) (by omega) (by omega) this
      refine ⟨j :: r, rest, c', by rw [q1]; rfl, fun i hi => ?_, by rw [runC_cons v1]; exact q3, ?_⟩
      · rcases List.mem_cons.1 hi with rfl | hi
        · exact p3
        · exact q2 i hi
      · rcases q4 with ⟨t1, t2, t3⟩ | ⟨path', s', d2, t1, t2, t3, t4, t5, t6, t7, t8, t9, t10, t11, t12⟩
        · exact .inl ⟨t1, by omega, fun seen hm => t3 _ (hmt seen hm)⟩
        · exact .inr ⟨path', s', d2, t1, by omega, t3, t4, t5, t6, t7, by rw [t8, hfi], by rw [t9, hca], by omega, t11, fun seen hm => t12 _ (hmt seen hm)⟩
theorem idx_none : ∀ (l : List Int) (k : Nat), (∀ i ∈ l, 0 < i) → idxI lowI k l = -1
  | [], _, _ => rfl
  | i :: l, k, h => by
    have := h i List.mem_cons_self
    rw [idxI, if_neg (by simp [lowI]; omega)]
    exact idx_none l (k + 1) fun j hj => h j (List.mem_cons_of_mem _ hj)
theorem idx_zero : ∀ (l m : List Int) (k : Nat), (∀ i ∈ l, 0 < i) → idxI lowI k (l ++ 0 :: m) = ((k + l.length : Nat) : Int)
  | [], m, k, _ => by rw [List.nil_append, idxI, if_pos (by simp [lowI])]; simp
  | i :: l, m, k, h => by
    have := h i List.mem_cons_self
    rw [List.cons_append, idxI, if_neg (by simp [lowI]; omega), idx_zero l m (k + 1) fun j hj => h j (List.mem_cons_of_mem _ hj), List.length_cons]
    congr 1
    omega
/-- From the yard: routes, one behind the other. -/
theorem yard_split {x : Inst} {p : Nat} (hx : x.Fit p) (hm : x.may = true) (h0 : x.pairs ≠ 0) : ∀ (f : Nat) (path : List Int) (s : State) (d : Int) (acc : List (List Int)), path.length < f → s.spot = 0 → s.on = 0 → s.load = 0 → s.time = (x.stop 0).ready → Good x p s → x.way path s d →
    path ≠ [] ∧ ∃ routes, splitF f path s.first false acc = (acc ++ routes, 0) ∧ (routes.length : Int) + s.car ≤ x.cars + 1 ∧ ∀ all seen, MatchS p s.must seen → x.costGo routes all seen = (all + d, 0)
  | 0, path, s, d, acc, hf, _, _, _, _, _, _ => absurd hf (by omega)
  | f + 1, [], s, d, acc, _, hsp, _, _, _, _, hw => by
    obtain ⟨w1, w2⟩ := hw
    obtain ⟨e1, e2 | ⟨e2, e3, _⟩⟩ := end_is w1
    · exact absurd e2.1 h0
    · exact absurd hsp e3
  | f + 1, j :: path, s, d, acc, hf, hsp, hon, hld, hti, hg, hw => by
    refine ⟨by simp, ?_⟩
    obtain ⟨w1, d1, w2, w3⟩ := hw
    have hj : j ≠ 0 := by
      intro e
      subst e
      obtain ⟨_, _, g3, _⟩ := move_home w1
      simp [Inst.stayB, hsp] at g3
    have hs : Sim1 x p s.must s x.car0 0 := by
      refine ⟨hsp.symm, hti.symm, hld.symm, hon.symm, fun i _ _ => by simp [Inst.car0], fun i i1 i2 h => ?_, car0_fit hx, hg⟩
      have := hg.on i i1 i2
      rw [hon, Nat.zero_testBit, h] at this
      simpa using this.symm
    obtain ⟨v1, v2, v3⟩ := hs.step hx hj w1
    obtain ⟨b1, b2, b3, b4, _, _⟩ := good_step hx hg w1
    obtain ⟨_, hmay, p3, p4, p5, p6, p7, m8⟩ := move_pos w1 hj
    have hfew := hx.few
    have hp := hx.pairs
    rw [if_pos p3] at b4
    have hjp : j ≤ x.pairs := by
      by_cases c : j ≤ x.pairs
      · exact c
      · have := p7 (by omega)
        simp [Inst.emptyB, hsp] at this
    have hfirst : s.first < j := by
      have := p6 hjp
      simp only [Inst.fullB, Bool.or_eq_false_iff, Bool.and_eq_false_iff, decide_eq_false_iff_not] at this
      rcases this.2 with h | h
      · exact absurd hsp h
      · omega
    have hsp' : (x.move s j).1.spot ≠ 0 := by rw [m8]; exact hj
    have hfi : (x.move s j).1.first = j := by rw [m8]; show (if s.spot = 0 then j else s.first) = j; rw [if_pos hsp]
    have hca : (x.move s j).1.car = s.car := by rw [m8]; rfl
    have hmt : ∀ seen, MatchS p s.must seen → MatchS p (x.move s j).1.must (bump seen j) := fun seen hm => by
      obtain ⟨i, rfl⟩ : ∃ i : Nat, j = i := ⟨j.toNat, by omega⟩
      simp only [Inst.lateB, Bool.or_eq_false_iff] at p5
      have := p5.1
      rw [has_testN (by omega)] at this
      rw [b4]
      exact hm.bump (by omega) (by omega) (by omega) this
    obtain ⟨r, rest, c', q1, q2, q3, q4⟩ := route_rest hx h0 path _ _ _ d1 v2 hsp' w2
    have hpos : ∀ i ∈ j :: r, 0 < i := fun i hi => by
      rcases List.mem_cons.1 hi with rfl | hi
      · exact p3
      · exact q2 i hi
    have hrun : x.runC (j :: r) x.car0 = (c', 0) := by rw [runC_cons v1]; exact q3
    have htimes : x.times (j :: r) = (c'.times, c'.gone, 0) := by rw [Inst.times, if_neg (by simp [hm]), hrun]; rfl
    have hg0 : x.car0.gone = 0 := rfl
    have hcgo : ∀ rs all seen, x.costGo ((j :: r) :: rs) all seen = x.costGo rs (all + c'.gone) (r.foldl bump (bump seen j)) := fun rs all seen => by
      rw [Inst.costGo, if_neg (by simp), htimes]
      simp
    rw [List.length_cons] at hf
    have hsc := s.fit hx hmay
    have hlast : (false || decide (j ≤ s.first)) = false := by rw [Bool.false_or]; exact decide_eq_false (by omega)
    rcases q4 with ⟨t1, t2, t3⟩ | ⟨path', s', d2, t1, t2, t3, t4, t5, t6, t7, t8, t9, t10, t11, t12⟩
    · subst t1
      rw [List.append_nil] at q1
      subst q1
      refine ⟨[j :: path], ?_, ?_, ?_⟩
      · rw [splitF, if_pos (by rw [idx_none _ 0 hpos]; omega), List.getD_cons_zero, hlast]
        rfl
      · have := hsc.car
        simp only [List.length_cons, List.length_nil]
        omega
      · intro all seen hms
        obtain ⟨must, k1, k2⟩ := t3 _ (hmt seen hms)
        obtain ⟨k3, k4⟩ := k1.end k2
        rw [hcgo, Inst.costGo, k3, k4]
        simp only [Bool.false_eq_true, if_false]
        congr 1
        omega
    · subst t1
      subst q1
      rw [List.length_append, List.length_cons] at hf
      obtain ⟨y1, routes, y2, y3, y4⟩ := yard_split hx hm h0 f path' s' d2 (acc ++ [j :: r]) (by omega) t4 t5 t6 t7 t11 t3
      have hlen' : path'.length ≠ 0 := fun e => y1 (List.eq_nil_of_length_eq_zero e)
      have hidx : idxI lowI 0 (j :: (r ++ 0 :: path')) = ((0 + (j :: r).length : Nat) : Int) := idx_zero (j :: r) path' 0 hpos
      rw [Nat.zero_add] at hidx
      refine ⟨(j :: r) :: routes, ?_, ?_, ?_⟩
      · rw [splitF, hidx, if_neg (by omega), if_neg, Int.toNat_natCast, List.getD_cons_zero, hlast]
        · have e1 : (j :: (r ++ 0 :: path')).drop ((j :: r).length + 1) = path' := by
            have : (j :: (r ++ 0 :: path')) = (j :: r ++ [0]) ++ path' := by simp
            rw [this, List.drop_left' (by simp)]
          have e2 : (j :: (r ++ 0 :: path')).take (j :: r).length = j :: r := by
            have : (j :: (r ++ 0 :: path')) = (j :: r) ++ (0 :: path') := by simp
            rw [this, List.take_left' rfl]
          rw [e1, e2]
          rw [t8, hfi] at y2
          rw [y2, List.append_assoc]
          rfl
        · have e3 : (j :: (r ++ 0 :: path')).getD ((j :: r).length : Int).toNat 0 = 0 := by
            have : (j :: (r ++ 0 :: path')) = (j :: r) ++ (0 :: path') := by simp
            rw [Int.toNat_natCast, this, List.getD_eq_getElem?_getD, List.getElem?_append_right (Nat.le_refl _)]
            simp
          rw [e3]
          simp only [List.length_cons, List.length_append]
          omega
      · rw [t9, hca] at y3
        simp only [List.length_cons]
        omega
      · intro all seen hms
        rw [hcgo, y4 _ _ (t12 _ (hmt seen hms))]
        congr 1
        omega
theorem tour_plain {x : Inst} (hm : x.may = true) {path : List Int} {d : Int} (hw : x.way path x.rootS d) : (splitR path).2 = 0 ∧ x.cost (splitR path).1 = (d, 0) := by
  obtain ⟨p, hx⟩ := x.fit hm
  have hp := hx.pairs
  have hc := hx.cars
  have hroot : x.rootS = { State.zero with car := 1, time := (x.stop 0).ready } := by rw [Inst.rootS, if_pos hm]
  have hms : MatchS p 0 (List.replicate (2 * x.pairs + 1).toNat 0) := by
    refine ⟨by rw [List.length_replicate]; omega, fun i hi => ?_⟩
    simp
  by_cases h0 : x.pairs = 0
  · match path, hw with
    | [], hw =>
      have hd : d = 0 := by
        obtain ⟨e1, e2 | ⟨e2, e3, _⟩⟩ := end_is hw.1
        · rw [hw.2, e2.2.2]
        · rw [hroot] at e3; exact absurd rfl e3
      have e : splitR [] = ([], 0) := rfl
      rw [e]
      refine ⟨rfl, ?_⟩
      obtain ⟨k3, k4⟩ := hms.end (fun i i1 i2 => by omega)
      rw [Inst.cost, if_neg (by simp [hm]), if_neg (by simp only [List.length_nil]; omega), Inst.costGo, k3, k4, hd]
      simp
    | j :: path, hw => exact absurd h0 (move_pairs hw.1)
  · obtain ⟨y1, routes, y2, y3, y4⟩ := yard_split hx hm h0 (path.length + 1) path x.rootS d [] (by omega) (by rw [hroot]; rfl) (by rw [hroot]; rfl) (by rw [hroot]; rfl) (by rw [hroot]) (good_root hx hm) hw
    have hf : x.rootS.first = 0 := by rw [hroot]; rfl
    have hca : x.rootS.car = 1 := by rw [hroot]
    have hmu : x.rootS.must = 0 := by rw [hroot]; rfl
    rw [hf] at y2
    rw [hca] at y3
    rw [hmu] at y4
    have hne : ¬ path.length = 0 := fun e => y1 (List.eq_nil_of_length_eq_zero e)
    rw [splitR, if_neg hne, y2]
    refine ⟨rfl, ?_⟩
    show x.cost ([] ++ routes) = (d, 0)
    rw [List.nil_append, Inst.cost, if_neg (by simp [hm]), if_neg (by omega), y4 _ _ hms]
    simp
end Go.Proofs.Ytlhmchdfmjfmgaa

/- Each plan that may be is the end of moves: the plain law. -/
set_option maxRecDepth 4000
namespace Go.Proofs.Ytlhmchdfmjfmgaa
open Go Go.Proofs.Ytlhmchdfmjfmgaa.R
/-- How far all routes go. -/
def Inst.gones (x : Inst) : List (List Int) → Int
  | [] => 0
  | r :: rs => (x.times r).2.1 + x.gones rs
theorem gones_perm (x : Inst) {a b : List (List Int)} (h : a.Perm b) : x.gones a = x.gones b := by
  induction h with
  | nil => rfl
  | cons r _ ih => simp only [Inst.gones, ih]
  | swap r s l => simp only [Inst.gones]; omega
  | trans _ _ h1 h2 => exact h1.trans h2
/-- Routes, each of which can be gone, which visit each stop once. -/
structure PlanOK (x : Inst) (p : Nat) (rs : List (List Int)) : Prop where
  cars : (rs.length : Int) ≤ x.cars
  each : ∀ r ∈ rs, r ≠ [] ∧ (x.times r).2.2 = 0
  once : rs.flatten.Nodup
  all : ∀ i : Nat, 1 ≤ i → i ≤ 2 * p → (i : Int) ∈ rs.flatten
theorem PlanOK.perm {x : Inst} {p : Nat} {a b : List (List Int)} (h : PlanOK x p a) (hp : a.Perm b) : PlanOK x p b :=
  ⟨by rw [← hp.length_eq]; exact h.cars, fun r hr => h.each r (hp.mem_iff.2 hr), (hp.flatten.nodup_iff).1 h.once, fun i h1 h2 => (hp.flatten.mem_iff).1 (h.all i h1 h2)⟩
theorem bump_count {i : Nat} : ∀ (r : List Int) (s : List Int) (h : i < s.length), (∀ j ∈ r, 0 ≤ j) → (r.foldl bump s)[i]'(by rw [bumps_len]; exact h) = s[i] + (r.count (i : Int) : Nat)
  | [], s, h, _ => by simp
  | j :: r, s, h, hr => by
    have h0 := hr j List.mem_cons_self
    have ih := bump_count r (bump s j) (by rw [bump_len]; exact h) fun k hk => hr k (List.mem_cons_of_mem _ hk)
    simp only [List.foldl_cons]
    rw [ih, List.count_cons]
    simp only [bump, List.getElem_set]
    by_cases e : j.toNat = i
    · have e2 : j = (i : Int) := by omega
      have e3 : s.getD j.toNat 0 = s[i] := by rw [e, List.getD_eq_getElem?_getD, List.getElem?_eq_getElem h]; rfl
      rw [if_pos e, e3, e2]
      simp only [beq_self_eq_true, if_true]
      omega
    · have e2 : ¬ j = (i : Int) := by omega
      rw [if_neg e]
      simp [e2]
theorem costGo_ok {x : Inst} {p : Nat} (hx : x.Fit p) (hm : x.may = true) : ∀ (rs : List (List Int)) (all : Int) (seen : List Int) {c : Int}, seen.length = 2 * p + 1 → x.costGo rs all seen = (c, 0) →
    c = all + x.gones rs ∧ (∀ r ∈ rs, r ≠ [] ∧ (x.times r).2.2 = 0) ∧ ((rs.flatten.foldl bump seen).any fun n => decide (1 < n)) = false ∧ (((rs.flatten.foldl bump seen).drop 1).any fun n => decide (n = 0)) = false
  | [], all, seen, c, hs, h => by
    rw [Inst.costGo] at h
    split at h
    · cases h
    split at h
    · cases h
    rename_i h1 h2
    simp only [Prod.mk.injEq, and_true] at h
    exact ⟨by simp only [Inst.gones]; omega, by simp, (Bool.not_eq_true _).mp h1, (Bool.not_eq_true _).mp h2⟩
  | r :: rs, all, seen, c, hs, h => by
    rw [Inst.costGo] at h
    split at h
    · cases h
    split at h
    · rename_i h1 h2
      simp only [Prod.mk.injEq] at h
      exact absurd h.2 h2
    rename_i h1 h2
    obtain ⟨g1, g2, g3, g4⟩ := costGo_ok hx hm rs _ _ (by rw [bumps_len]; exact hs) h
    refine ⟨by simp only [Inst.gones]; omega, fun q hq => ?_, by rw [List.flatten_cons, List.foldl_append]; exact g3, by rw [List.flatten_cons, List.foldl_append]; exact g4⟩
    rcases List.mem_cons.1 hq with rfl | hq
    · exact ⟨fun e => h1 (by rw [e]; rfl), by simpa using h2⟩
    · exact g2 q hq
theorem cost_ok {x : Inst} {p : Nat} (hx : x.Fit p) (hm : x.may = true) {rs : List (List Int)} {c : Int} (h : x.cost rs = (c, 0)) : PlanOK x p rs ∧ c = x.gones rs := by
  have hp := hx.pairs
  rw [Inst.cost, if_neg (by simp [hm])] at h
  split at h
  · cases h
  rename_i hc
  have hlen : (List.replicate (2 * x.pairs + 1).toNat (0 : Int)).length = 2 * p + 1 := by rw [List.length_replicate]; omega
  obtain ⟨g1, g2, g3, g4⟩ := costGo_ok hx hm rs _ _ hlen h
  have hstop : ∀ i ∈ rs.flatten, 1 ≤ i ∧ i ≤ 2 * p := fun i hi => by
    obtain ⟨r, hr, hir⟩ := List.mem_flatten.1 hi
    exact (times_ok hx hm (g2 r hr).2).1 i hir
  have hcnt : ∀ i : Nat, (hi : i ≤ 2 * p) → (rs.flatten.foldl bump (List.replicate (2 * x.pairs + 1).toNat 0))[i]'(by rw [bumps_len, hlen]; omega) = ((rs.flatten.count (i : Int) : Nat) : Int) := fun i hi => by
    rw [bump_count _ _ (by rw [hlen]; omega) (fun j hj => by have := hstop j hj; omega)]
    simp
  have hfl := bumps_len rs.flatten (List.replicate (2 * x.pairs + 1).toNat (0 : Int))
  rw [hlen] at hfl
  refine ⟨⟨by omega, g2, ?_, ?_⟩, by omega⟩
  · rw [List.nodup_iff_count]
    intro a
    by_cases ha : a ∈ rs.flatten
    · obtain ⟨h1, h2⟩ := hstop a ha
      obtain ⟨i, rfl⟩ : ∃ i : Nat, a = i := ⟨a.toNat, by omega⟩
      have h3 := hcnt i (by omega)
      rw [List.any_eq_false] at g3
      have h4 := g3 _ (List.getElem_mem (l := rs.flatten.foldl bump (List.replicate (2 * x.pairs + 1).toNat 0)) (n := i) (by rw [hfl]; omega))
      rw [h3] at h4
      simp only [decide_eq_true_eq] at h4
      omega
    · rw [List.count_eq_zero.2 ha]
      omega
  · intro i h1 h2
    by_cases ha : (i : Int) ∈ rs.flatten
    · exact ha
    · exfalso
      have h3 := hcnt i h2
      rw [List.count_eq_zero.2 ha] at h3
      rw [List.any_eq_false] at g4
      refine g4 _ (List.mem_iff_getElem.2 ⟨i - 1, by rw [List.length_drop, hfl]; omega, ?_⟩) (decide_eq_true rfl)
      rw [List.getElem_drop]
      have e : 1 + (i - 1) = i := by omega
      simp only [e]
      exact h3
/-- A visit that a car makes is a move. -/
theorem Sim1.back {x : Inst} {p m0 k : Nat} {s : State} {c : Car} {j : Int} (hx : x.Fit p) (hm : x.may = true) (h : Sim1 x p m0 s c k) (hcar : 1 ≤ s.car ∧ s.car ≤ x.cars) (hv : (x.visitC c j).2 = 0) (hn : ∀ i : Nat, j = i → s.must.testBit i = false) (hf : s.spot = 0 → c.seen = 0 ∧ s.first < j) :
    (x.move s j).2.2 = true ∧ 0 < j := by
  have hp := hx.pairs
  have hfew := hx.few
  rw [Inst.visitC] at hv
  split at hv
  · rename_i hh; exact absurd hv hh
  rename_i hvs
  split at hv
  · cases hv
  rename_i hdue
  obtain ⟨k1, k2, k3, k4, k5⟩ := visits_ok (by simpa using hvs)
  obtain ⟨i, rfl⟩ : ∃ i : Nat, j = i := ⟨j.toNat, by omega⟩
  have hmi := hn i rfl
  have hsum := sumOn_pos hx s.on p (Nat.le_refl _)
  have hmay : s.mayB x = true := by
    have h1 := h.fit.spot
    have h2 := h.fit.now
    have h3 := h.good.load
    have h4 := h.good.room
    have h5 := hx.room
    have h6 := h.spot
    have h7 := h.now
    simp only [State.mayB, Bool.and_eq_true, decide_eq_true_eq]
    omega
  have l1 : x.lateB s i = false := by
    simp only [Inst.lateB, Bool.or_eq_false_iff, decide_eq_false_iff_not]
    rw [has_testN (by omega)]
    refine ⟨hmi, ?_⟩
    unfold Inst.begins
    rw [← h.now, ← h.spot]
    omega
  have l2 : (i : Int) ≤ x.pairs → x.fullB s i = false := fun hi => by
    simp only [Inst.fullB, Bool.or_eq_false_iff, Bool.and_eq_false_iff, decide_eq_false_iff_not]
    rw [← h.load]
    refine ⟨by omega, ?_⟩
    by_cases hs : s.spot = 0
    · have := hf hs
      exact .inr (by omega)
    · exact .inl hs
  have l3 : x.pairs < (i : Int) → x.emptyB s i = false := fun hi => by
    have hb := k4 hi
    have e : (i : Int) - x.pairs = ((i - p : Nat) : Int) := by omega
    rw [e, has_testN (by omega)] at hb
    simp only [Inst.emptyB, Bool.or_eq_false_iff, Bool.not_eq_false', decide_eq_false_iff_not]
    rw [e, has_testN (by omega), h.good.eq, h.seen (i - p) (by omega) (by omega), hb]
    refine ⟨fun hs => ?_, by simp⟩
    have := (hf hs).1
    rw [this, Nat.zero_testBit] at hb
    cases hb
  have hto := to_visit (x := x) (s := s) (j := i) (by omega) l1 l2 l3
  have hmv := move_mk (j := i) hm hmay (by omega) (by rw [hto])
  exact ⟨by rw [hmv], by omega⟩
/-- The rest of a route, gone by moves. -/
theorem route_fwd {x : Inst} {p m0 : Nat} (hx : x.Fit p) (hm : x.may = true) : ∀ (r : List Int) (s : State) (c : Car) (k : Nat), Sim1 x p m0 s c k → s.spot ≠ 0 → (1 ≤ s.car ∧ s.car ≤ x.cars) → (x.runC r c).2 = 0 → r.Nodup → (∀ i : Nat, (i : Int) ∈ r → s.must.testBit i = false) →
    ∃ s' c1 k', Sim1 x p m0 s' c1 k' ∧ s'.spot ≠ 0 ∧ s'.car = s.car ∧ s'.first = s.first ∧ x.homeC c1 = x.runC r c ∧ (∀ i, 1 ≤ i → i ≤ 2 * p → s'.must.testBit i = (s.must.testBit i || decide ((i : Int) ∈ r))) ∧
      ∀ path d, x.way path s' d → x.way (r ++ path) s (c1.gone - c.gone + d)
  | [], s, c, k, hs, hsp, hcar, hr, _, _ => by
    refine ⟨s, c, k, hs, hsp, rfl, rfl, rfl, fun i _ _ => by simp, fun path d hw => ?_⟩
    have : c.gone - c.gone + d = d := by omega
    rw [this]
    exact hw
  | j :: r, s, c, k, hs, hsp, hcar, hr, hnd, hdis => by
    have hv : (x.visitC c j).2 = 0 := by
      rw [Inst.runC] at hr
      by_cases c1 : (x.visitC c j).2 = 0
      · exact c1
      · rw [if_pos c1] at hr; exact absurd hr c1
    rw [runC_cons hv] at hr ⊢
    rw [List.nodup_cons] at hnd
    obtain ⟨b1, b2⟩ := hs.back hx hm hcar hv (fun i e => hdis i (by rw [e]; exact List.mem_cons_self)) (fun h => absurd h hsp)
    obtain ⟨v1, v2, v3⟩ := hs.step hx (by omega) b1
    obtain ⟨_, _, p3, p4, _, _, _, m8⟩ := move_pos b1 (by omega)
    obtain ⟨_, _, _, q4, _, _⟩ := good_step hx hs.good b1
    have hfew := hx.few
    have hp := hx.pairs
    rw [if_pos b2] at q4
    have e1 : (x.move s j).1.car = s.car := by rw [m8]; rfl
    have e2 : (x.move s j).1.first = s.first := by rw [m8]; show (if s.spot = 0 then j else s.first) = s.first; rw [if_neg hsp]
    have e3 : (x.move s j).1.spot ≠ 0 := by rw [m8]; show j ≠ 0; omega
    obtain ⟨n, rfl⟩ : ∃ n : Nat, j = n := ⟨j.toNat, by omega⟩
    have hbit : ∀ i, (x.move s (n : Int)).1.must.testBit i = (s.must.testBit i || decide (n = i)) := fun i => by rw [q4, with_bit (by omega)]
    obtain ⟨s', c1, k', g1, g2, g3, g4, g5, g6, g7⟩ := route_fwd hx hm r _ _ _ v2 e3 (by rw [e1]; exact hcar) hr hnd.2 (fun i hi => by
      rw [hbit, hdis i (List.mem_cons_of_mem _ hi)]
      have : ¬ n = i := by rintro rfl; exact hnd.1 hi
      simp [this])
    refine ⟨s', c1, k', g1, g2, by rw [g3, e1], by rw [g4, e2], g5, fun i i1 i2 => ?_, fun path d hw => ?_⟩
    · rw [g6 i i1 i2, hbit, Bool.or_assoc]
      congr 1
      rw [Bool.eq_iff_iff]
      simp only [Bool.or_eq_true, decide_eq_true_eq, List.mem_cons]
      constructor
      · rintro (rfl | h)
        · exact .inl rfl
        · exact .inr h
      · rintro (h | h)
        · exact .inl (by omega)
        · exact .inr h
    · refine ⟨b1, _, g7 path d hw, ?_⟩
      omega
def headI (r : List Int) : Int := r.getD 0 0
theorem route_first {x : Inst} {p : Nat} (hx : x.Fit p) (hm : x.may = true) {r : List Int} {s : State} (hsp : s.spot = 0) (hon : s.on = 0) (hld : s.load = 0) (hti : s.time = (x.stop 0).ready) (hg : Good x p s) (hc : 1 ≤ s.car ∧ s.car ≤ x.cars) (hne : r ≠ []) (ht : (x.times r).2.2 = 0) (hnd : r.Nodup)
    (hdis : ∀ i : Nat, (i : Int) ∈ r → s.must.testBit i = false) (hfi : s.first < headI r) :
    ∃ s' c1 k', Sim1 x p s.must s' c1 k' ∧ s'.spot ≠ 0 ∧ s'.car = s.car ∧ s'.first = headI r ∧ (x.homeC c1).2 = 0 ∧ (x.times r).2.1 = (x.homeC c1).1.gone ∧ (∀ i, 1 ≤ i → i ≤ 2 * p → s'.must.testBit i = (s.must.testBit i || decide ((i : Int) ∈ r))) ∧
      ∀ path d, x.way path s' d → x.way (r ++ path) s (c1.gone + d) := by
  match r, hne with
  | j :: r, _ =>
    have hs : Sim1 x p s.must s x.car0 0 := by
      refine ⟨hsp.symm, hti.symm, hld.symm, hon.symm, fun i _ _ => by simp [Inst.car0], fun i i1 i2 h => ?_, car0_fit hx, hg⟩
      have := hg.on i i1 i2
      rw [hon, Nat.zero_testBit, h] at this
      simpa using this.symm
    have hrun : (x.runC (j :: r) x.car0).2 = 0 := by
      rw [Inst.times, if_neg (by simp [hm])] at ht
      by_cases c1 : (x.runC (j :: r) x.car0).2 = 0
      · exact c1
      · rw [if_pos c1] at ht; exact absurd ht c1
    have htm : (x.times (j :: r)).2.1 = (x.runC (j :: r) x.car0).1.gone := by rw [Inst.times, if_neg (by simp [hm]), if_neg (by simp [hrun])]
    have hv : (x.visitC x.car0 j).2 = 0 := by
      rw [Inst.runC] at hrun
      by_cases c1 : (x.visitC x.car0 j).2 = 0
      · exact c1
      · rw [if_pos c1] at hrun; exact absurd hrun c1
    rw [runC_cons hv] at hrun htm
    rw [List.nodup_cons] at hnd
    have hhd : headI (j :: r) = j := rfl
    rw [hhd] at hfi ⊢
    obtain ⟨b1, b2⟩ := hs.back hx hm hc hv (fun i e => hdis i (by rw [e]; exact List.mem_cons_self)) (fun _ => ⟨rfl, hfi⟩)
    obtain ⟨v1, v2, v3⟩ := hs.step hx (by omega) b1
    obtain ⟨_, _, p3, p4, _, _, _, m8⟩ := move_pos b1 (by omega)
    obtain ⟨_, _, _, q4, _, _⟩ := good_step hx hg b1
    have hfew := hx.few
    have hp := hx.pairs
    rw [if_pos b2] at q4
    have e1 : (x.move s j).1.car = s.car := by rw [m8]; rfl
    have e2 : (x.move s j).1.first = j := by rw [m8]; show (if s.spot = 0 then j else s.first) = j; rw [if_pos hsp]
    have e3 : (x.move s j).1.spot ≠ 0 := by rw [m8]; show j ≠ 0; omega
    have hg0 : x.car0.gone = 0 := rfl
    obtain ⟨n, rfl⟩ : ∃ n : Nat, j = n := ⟨j.toNat, by omega⟩
    have hbit : ∀ i, (x.move s (n : Int)).1.must.testBit i = (s.must.testBit i || decide (n = i)) := fun i => by rw [q4, with_bit (by omega)]
    obtain ⟨s', c1, k', g1, g2, g3, g4, g5, g6, g7⟩ := route_fwd hx hm r _ _ _ v2 e3 (by rw [e1]; exact hc) hrun hnd.2 (fun i hi => by
      rw [hbit, hdis i (List.mem_cons_of_mem _ hi)]
      have : ¬ n = i := by rintro rfl; exact hnd.1 hi
      simp [this])
    refine ⟨s', c1, k', g1, g2, by rw [g3, e1], by rw [g4, e2], by rw [g5]; exact hrun, by rw [htm, g5], fun i i1 i2 => ?_, fun path d hw => ?_⟩
    · rw [g6 i i1 i2, hbit, Bool.or_assoc]
      congr 1
      rw [Bool.eq_iff_iff]
      simp only [Bool.or_eq_true, decide_eq_true_eq, List.mem_cons]
      constructor
      · rintro (rfl | h)
        · exact .inl rfl
        · exact .inr h
      · rintro (h | h)
        · exact .inl (by omega)
        · exact .inr h
    · refine ⟨b1, _, g7 path d hw, ?_⟩
      omega
theorem homeC_ok {x : Inst} {c : Car} (h : (x.homeC c).2 = 0) : c.on = 0 ∧ c.now + far (x.stop c.spot) (x.stop 0) ≤ (x.stop 0).due ∧ (x.homeC c).1.gone = c.gone + far (x.stop c.spot) (x.stop 0) := by
  rw [Inst.homeC] at h ⊢
  by_cases c1 : c.on = 0
  · rw [if_neg (by simp [c1])] at h ⊢
    by_cases c2 : (x.stop 0).due < c.now + far (x.stop c.spot) (x.stop 0)
    · rw [if_pos c2] at h; cases h
    · rw [if_neg c2]
      exact ⟨c1, by omega, rfl⟩
  · rw [if_pos c1] at h; cases h
theorem Sim1.mayB {x : Inst} {p m0 k : Nat} {s : State} {c : Car} (hx : x.Fit p) (h : Sim1 x p m0 s c k) (hcar : 1 ≤ s.car ∧ s.car ≤ x.cars) : s.mayB x = true := by
  have hp := hx.pairs
  have hsum := sumOn_pos hx s.on p (Nat.le_refl _)
  have h1 := h.fit.spot
  have h2 := h.fit.now
  have h3 := h.good.load
  have h4 := h.good.room
  have h5 := hx.room
  have h6 := h.spot
  have h7 := h.now
  simp only [State.mayB, Bool.and_eq_true, decide_eq_true_eq]
  omega
theorem upto_only : ∀ (k : Nat) {i : Nat}, (uptoL k).testBit i = true → 1 ≤ i ∧ i ≤ k
  | 0, i, h => by simp [uptoL] at h
  | k + 1, i, h => by
    rw [uptoL, Nat.testBit_or, Bool.or_eq_true] at h
    rcases h with h | h
    · have := upto_only k h; omega
    · rw [Nat.testBit_two_pow] at h
      have : k + 1 = i := by simpa using h
      omega
theorem allB_of {x : Inst} {p t : Nat} (hx : x.Fit p) (h : ∀ i, 1 ≤ i → i ≤ 2 * p → t.testBit i = true) : x.allB t = true := by
  rw [Inst.allB, withinB, List.all_eq_true]
  intro i hi
  have hp := hx.pairs
  have hfew := hx.few
  have hu : (uptoN (2 * x.pairs)).testBit i = true → t.testBit i = true := fun hb => by
    unfold uptoN at hb
    have := upto_only _ hb
    exact h i this.1 (by omega)
  cases hb : (uptoN (2 * x.pairs)).testBit i with
  | false => rfl
  | true => rw [hu hb]; rfl
/-- From the yard: all routes that are left, in the order of their first stops. -/
theorem yard_fwd {x : Inst} {p : Nat} (hx : x.Fit p) (hm : x.may = true) (h0 : x.pairs ≠ 0) : ∀ (rs : List (List Int)) (r : List Int) (s : State), s.spot = 0 → s.on = 0 → s.load = 0 → s.time = (x.stop 0).ready → Good x p s → 1 ≤ s.car → s.car + rs.length ≤ x.cars → (∀ q ∈ r :: rs, q ≠ [] ∧ (x.times q).2.2 = 0) → (r :: rs).flatten.Nodup →
    (∀ i : Nat, (i : Int) ∈ (r :: rs).flatten → s.must.testBit i = false) → (∀ i : Nat, 1 ≤ i → i ≤ 2 * p → s.must.testBit i = true ∨ (i : Int) ∈ (r :: rs).flatten) → s.first < headI r → (r :: rs).Pairwise (fun a b => headI a < headI b) → ∃ path, x.way path s (x.gones (r :: rs)) := by
  intro rs
  induction rs with
  | nil =>
    intro r s hsp hon hld hti hg hc1 hc2 heach hnd hdis hall hfi hpw
    obtain ⟨e1, e2⟩ := heach r List.mem_cons_self
    simp only [List.flatten_cons, List.flatten_nil, List.append_nil] at hnd hdis hall
    obtain ⟨s', c1, k', g1, g2, g3, g4, g5, g6, g7, g8⟩ := route_first hx hm hsp hon hld hti hg ⟨hc1, by simp only [List.length_nil] at hc2; omega⟩ e1 e2 hnd hdis hfi
    obtain ⟨a1, a2, a3⟩ := homeC_ok g5
    have hend : x.endS s' = (far (x.stop s'.spot) (x.stop 0), true) := by
      rw [Inst.endS, if_neg (by simp [hm]), if_neg (fun h => h0 h.1), if_pos]
      refine ⟨g1.mayB hx (by rw [g3]; simp only [List.length_nil] at hc2; omega), g2, by rw [← g1.on]; exact a1, allB_of hx fun i i1 i2 => ?_, by rw [← g1.now, ← g1.spot]; exact a2⟩
      rw [g1.good.eq, g7 i i1 i2]
      rcases hall i i1 i2 with h | h
      · rw [h]; rfl
      · simp [h]
    have hw := g8 [] _ (show x.way [] s' (far (x.stop s'.spot) (x.stop 0)) from ⟨by rw [hend], by rw [hend]⟩)
    refine ⟨r ++ [], ?_⟩
    rw [Inst.gones, Inst.gones, g6, a3, g1.spot, Int.add_zero]
    exact hw
  | cons r2 rs ih =>
    intro r s hsp hon hld hti hg hc1 hc2 heach hnd hdis hall hfi hpw
    obtain ⟨e1, e2⟩ := heach r List.mem_cons_self
    rw [List.flatten_cons] at hnd hdis hall
    rw [List.length_cons] at hc2
    obtain ⟨n1, n2, n3⟩ := List.nodup_append.1 hnd
    obtain ⟨s', c1, k', g1, g2, g3, g4, g5, g6, g7, g8⟩ := route_first hx hm hsp hon hld hti hg ⟨hc1, by omega⟩ e1 e2 n1 (fun i hi => hdis i (List.mem_append_left _ hi)) hfi
    obtain ⟨a1, a2, a3⟩ := homeC_ok g5
    rw [List.pairwise_cons] at hpw
    obtain ⟨e3, e4⟩ := heach r2 (by simp)
    have hr2 := times_ok hx hm e4
    obtain ⟨j2, hj2⟩ : ∃ j2, j2 ∈ r2 := List.exists_mem_of_ne_nil _ e3
    have hp := hx.pairs
    have hfew := hx.few
    have hmay := g1.mayB hx (by rw [g3]; omega)
    have hstay : x.stayB s' = false := by
      simp only [Inst.stayB, Bool.or_eq_false_iff, decide_eq_false_iff_not]
      refine ⟨⟨⟨⟨g2, by rw [← g1.on, a1]; simp⟩, by rw [g3]; omega⟩, ?_⟩, by rw [← g1.now, ← g1.spot]; omega⟩
      cases hq : x.allB s'.must with
      | false => rfl
      | true =>
        exfalso
        obtain ⟨i, rfl⟩ : ∃ i : Nat, j2 = i := ⟨j2.toNat, by have := hr2.1 j2 hj2; omega⟩
        have hi := hr2.1 _ hj2
        have h1 := Inst.all_bit hx hq (i := i) (by omega) (by omega)
        have hmem : (i : Int) ∈ (r2 :: rs).flatten := by rw [List.flatten_cons]; exact List.mem_append_left _ hj2
        rw [g7 i (by omega) (by omega), hdis i (List.mem_append_right _ hmem), Bool.false_or, decide_eq_true_eq] at h1
        exact n3 _ h1 _ hmem rfl
    have hto : x.to s' 0 = (x.homeS s', true) := by rw [Inst.to, if_pos rfl, Inst.home, if_neg (by rw [hstay]; simp)]
    have hmv := move_mk (j := 0) hm hmay (by omega) (by rw [hto])
    rw [hto] at hmv
    have hmv1 : (x.move s' 0).2.2 = true := by rw [hmv]
    have hgood := (good_step hx g1.good hmv1).1
    rw [hmv] at hgood
    obtain ⟨path, hpath⟩ := ih r2 (x.homeS s') rfl (by show s'.on = 0; rw [← g1.on]; exact a1) rfl rfl hgood (by show 1 ≤ s'.car + 1; omega) (by show s'.car + 1 + (rs.length : Int) ≤ x.cars; rw [g3]; omega) (fun q hq => heach q (List.mem_cons_of_mem _ hq)) n2
      (fun i hi => by
        show s'.must.testBit i = false
        have hi2 : 1 ≤ i ∧ i ≤ 2 * p := by
          obtain ⟨q, hq, hiq⟩ := List.mem_flatten.1 hi
          have := (times_ok hx hm (heach q (List.mem_cons_of_mem _ hq)).2).1 _ hiq
          omega
        rw [g7 i hi2.1 hi2.2, hdis i (List.mem_append_right _ hi), Bool.false_or]
        exact decide_eq_false fun h => n3 _ h _ hi rfl)
      (fun i i1 i2 => by
        show s'.must.testBit i = true ∨ _
        rw [g7 i i1 i2]
        rcases hall i i1 i2 with h | h
        · exact .inl (by rw [h]; rfl)
        · rcases List.mem_append.1 h with h | h
          · exact .inl (by simp [h])
          · exact .inr h)
      (by show s'.first < headI r2; rw [g4]; exact hpw.1 r2 (by simp)) hpw.2
    have hw := g8 (0 :: path) _ (show x.way (0 :: path) s' (far (x.stop s'.spot) (x.stop 0) + x.gones (r2 :: rs)) from ⟨hmv1, _, by rw [hmv]; exact hpath, by rw [hmv]⟩)
    refine ⟨r ++ 0 :: path, ?_⟩
    rw [Inst.gones, g6, a3, g1.spot]
    have e : c1.gone + far (x.stop s'.spot) (x.stop 0) + x.gones (r2 :: rs) = c1.gone + (far (x.stop s'.spot) (x.stop 0) + x.gones (r2 :: rs)) := by omega
    rw [e]
    exact hw
/-- A plan that may be is the end of moves that cost as much. -/
theorem plan_way {x : Inst} (hm : x.may = true) {rs : List (List Int)} {c : Int} (h : x.cost rs = (c, 0)) : ∃ path, x.way path x.rootS c := by
  obtain ⟨p, hx⟩ := x.fit hm
  have hp := hx.pairs
  have hroot : x.rootS = { State.zero with car := 1, time := (x.stop 0).ready } := by rw [Inst.rootS, if_pos hm]
  obtain ⟨hok, rfl⟩ := cost_ok hx hm h
  by_cases h0 : x.pairs = 0
  · have hn : rs = [] := by
      cases rs with
      | nil => rfl
      | cons r rs =>
        obtain ⟨e1, e2⟩ := hok.each r List.mem_cons_self
        obtain ⟨j, hj⟩ := List.exists_mem_of_ne_nil _ e1
        have := (times_ok hx hm e2).1 j hj
        omega
    subst hn
    refine ⟨[], ?_, ?_⟩
    · rw [Inst.endS, if_neg (by simp [hm]), if_pos ⟨h0, rfl⟩]
    · rw [Inst.endS, if_neg (by simp [hm]), if_pos ⟨h0, rfl⟩]; rfl
  · obtain ⟨qs, hqs⟩ : ∃ qs, qs = rs.mergeSort (fun a b => decide (headI a ≤ headI b)) := ⟨_, rfl⟩
    have hperm : rs.Perm qs := by rw [hqs]; exact (List.mergeSort_perm _ _).symm
    have hsort : qs.Pairwise fun a b => decide (headI a ≤ headI b) = true := by
      rw [hqs]
      refine List.pairwise_mergeSort (fun a b c h1 h2 => ?_) (fun a b => ?_) rs
      · simp only [decide_eq_true_eq] at *; omega
      · simp only [Bool.or_eq_true, decide_eq_true_eq]; omega
    have hok2 := hok.perm hperm
    rw [gones_perm x hperm]
    have hne : qs ≠ [] := by
      intro e
      have := hok2.all 1 (Nat.le_refl _) (by omega)
      rw [e] at this
      cases this
    match qs, hne with
    | r :: qs, _ =>
      have hhead : ∀ q ∈ r :: qs, headI q ∈ q := fun q hq => by
        obtain ⟨e1, _⟩ := hok2.each q hq
        cases q with
        | nil => exact absurd rfl e1
        | cons j q => exact List.mem_cons_self
      have hpw : (r :: qs).Pairwise fun a b => headI a < headI b := by
        have hnd := hok2.once
        rw [List.Nodup, List.pairwise_flatten] at hnd
        refine (hsort.and hnd.2).imp_of_mem fun {a b} ha hb h => ?_
        have h1 := h.1
        simp only [decide_eq_true_eq] at h1
        have h2 := h.2 (headI a) (hhead a ha) (headI b) (hhead b hb)
        omega
      obtain ⟨e1, e2⟩ := hok2.each r List.mem_cons_self
      have hpos := (times_ok hx hm e2).1 _ (hhead r List.mem_cons_self)
      have hcars := hok2.cars
      rw [List.length_cons] at hcars
      refine yard_fwd hx hm h0 qs r x.rootS (by rw [hroot]; rfl) (by rw [hroot]; rfl) (by rw [hroot]; rfl) (by rw [hroot]) (good_root hx hm) (by rw [hroot]; show (1 : Int) ≤ 1; omega) (by rw [hroot]; show (1 : Int) + (qs.length : Int) ≤ x.cars; omega) hok2.each hok2.once
        (fun i _ => by rw [hroot]; exact Nat.zero_testBit i) (fun i i1 i2 => .inr (hok2.all i i1 i2)) (by rw [hroot]; show (0 : Int) < headI r; omega) hpw
end Go.Proofs.Ytlhmchdfmjfmgaa

/- What holds with a claim holds with any lesser one; no plan costs less: the laws. -/
set_option maxRecDepth 4000
namespace Go.Proofs.Ytlhmchdfmjfmgaa
open Go Go.Proofs.Ytlhmchdfmjfmgaa.R
theorem few_fine {p : Prf} (h : p.fewB = true) (ho : ∀ q ∈ p.parts, ∀ l ∈ q, ∀ n ∈ l, n.s.ok) : p.Fine := by
  simp only [Prf.fewB, fewLay, Bool.and_eq_true, decide_eq_true_eq, List.all_eq_true] at h
  exact ⟨by omega, fun q hq => by have := (h.2 q hq).1; omega, fun q hq l hl => by have := (h.2 q hq).2 l hl; omega, ho⟩
theorem lpless_pure (x : Inst) (p : Prf) (less : Int) (hl : x.stops.length < 2 ^ 63) (hp : p.parts.length < 2 ^ 63) (hq : ∀ q ∈ p.parts, q.length < 2 ^ 63) (ho : ∀ q ∈ p.parts, ∀ l ∈ q, ∀ n ∈ l, n.s.ok) : Pure P 3 [x.a, p.a, .i less] (.b true) := by
  refine pure_of Try.func3 rfl rfl (by simp [Try.f3]) (by simp [bnd, bnd.bndL, Inst.a, Prf.a, Prf.cs]) (by simp [bnd, bnd.bndL]) fun B hB hnx => ?_
  simp only [Try.f3] at hB ⊢
  have hf := few20_pure p hp hq
  refine K_run hB 100 ?_
  simp [go_sem, Inst.a, Prf.a, Prf.cs]
  refine K_call rfl rfl rfl (args := []) (f := 14) (by simp [go_sem]) (by simp [go_sem, hB]) ((awake20_pure).spec _ _) ?_
  refine K_run hB 100 ?_
  simp [go_sem]
  refine K_call rfl rfl rfl (args := [p.a]) (f := 15) (by simp [go_sem, Prf.a, Prf.cs]) (by simp [go_sem, hB]) ((hf).spec _ _) ?_
  cases c0 : p.fewB with
  | false =>
    refine K_run hB 100 ?_
    simp [go_sem]
  | true =>
    have hfine := few_fine c0 ho
    by_cases c1 : 9 < (x.stops.length : Int)
    · refine K_run hB 100 ?_
      simp [go_sem, c1]
    by_cases c2 : less < 0
    · refine K_run hB 100 ?_
      simp [go_sem, c1, c2]
    by_cases c3 : p.least < less
    · refine K_run hB 100 ?_
      simp [go_sem, c1, c2, c3]
    have h1 := check_pure x p (by omega) hfine
    have hfine2 : (p.less less).Fine := ⟨hfine.len, hfine.parts, hfine.lays, hfine.ok⟩
    have h2 := check_pure x (p.less less) (by omega) hfine2
    refine K_run hB 100 ?_
    simp [go_sem, c1, c2, c3]
    refine K_call rfl rfl rfl (args := [x.a, p.a]) (f := 16) (by simp [go_sem, Inst.a, Prf.a, Prf.cs]) (by simp [go_sem, hB]) ((h1).spec _ _) ?_
    by_cases c4 : x.checkE p = 0
    · rw [check_less (by omega) (by omega) c4] at h2
      refine K_run hB 100 ?_
      simp [go_sem, c4]
      refine K_call rfl rfl rfl (args := [x.a, (p.less less).a]) (f := 16) (by simp [go_sem, Inst.a, Prf.a, Prf.cs, Prf.less]) (by simp [go_sem, hB]) ((h2).spec _ _) ?_
      refine K_run hB 100 ?_
      simp [go_sem]
    · refine K_run hB 100 ?_
      simp [go_sem, c4]
theorem every_least {x : Inst} (hm : x.may = true) {k : Int} (hk : k ≤ infI) (h : ∀ (w : List Int) (c : Int), x.way w x.rootS c → k ≤ c) : k ≤ x.everyAll := by
  by_cases hi : x.everyAll < inf
  · obtain ⟨w, hw⟩ := every_from x _ x.rootS hi
    exact h w _ hw
  · have : infI = inf := rfl
    omega
theorem lpsound_pure (x : Inst) (p : Prf) (g : List (List Int)) (hl : x.stops.length < 2 ^ 63) (hp : p.parts.length < 2 ^ 63) (hq : ∀ q ∈ p.parts, q.length < 2 ^ 63) (ho : ∀ q ∈ p.parts, ∀ l ∈ q, ∀ n ∈ l, n.s.ok) (hg : g.length < 2 ^ 63) (hgr : ∀ r ∈ g, r.length < 2 ^ 63) : Pure P 11 [x.a, p.a, .agg [.t (.sl (g.map rowT))]] (.b true) := by
  refine pure_of Try.func11 rfl rfl (by simp [Try.f11]) (by simp [bnd, bnd.bndL, Inst.a, Prf.a, Prf.cs]) (by simp [bnd, bnd.bndL]) fun B hB hnx => ?_
  simp only [Try.f11] at hB ⊢
  have hf := few20_pure p hp hq
  refine K_run hB 100 ?_
  simp [go_sem, Inst.a, Prf.a, Prf.cs]
  refine K_call rfl rfl rfl (args := []) (f := 14) (by simp [go_sem]) (by simp [go_sem, hB]) ((awake20_pure).spec _ _) ?_
  refine K_run hB 100 ?_
  simp [go_sem]
  refine K_call rfl rfl rfl (args := [p.a]) (f := 15) (by simp [go_sem, Prf.a, Prf.cs]) (by simp [go_sem, hB]) ((hf).spec _ _) ?_
  cases c0 : p.fewB with
  | false =>
    refine K_run hB 100 ?_
    simp [go_sem]
  | true =>
    have hfine := few_fine c0 ho
    by_cases c1 : 9 < (x.stops.length : Int)
    · refine K_run hB 100 ?_
      simp [go_sem, c1]
    have h1 := check_pure x p (by omega) hfine
    refine K_run hB 100 ?_
    simp [go_sem, c1]
    refine K_call rfl rfl rfl (args := [x.a, p.a]) (f := 16) (by simp [go_sem, Inst.a, Prf.a, Prf.cs]) (by simp [go_sem, hB]) ((h1).spec _ _) ?_
    by_cases c4 : x.checkE p = 0
    rotate_left
    · refine K_run hB 100 ?_
      simp [go_sem, c4]
    obtain ⟨hm, hk, hs⟩ := check_sound (by omega) hfine.parts ho c4
    have h2 := cost_pure x g hl hg hgr
    have q1 : ∀ c e : Int, x.cost g = (c, e) → e = 0 → ¬ c < p.least := fun c e h he => by
      subst he
      obtain ⟨w, hw⟩ := plan_way hm h
      have := hs w c hw
      omega
    have q2 := every_least hm hk hs
    have h3 := everyAll_pure x hm
    have h4 := may_pure x hl
    rw [hm] at h4
    generalize x.everyAll = E at *
    generalize hC : x.cost g = C at *
    obtain ⟨c, e⟩ := C
    have q1 := q1 c e rfl
    refine K_run hB 100 ?_
    simp [go_sem, c4]
    refine K_call rfl rfl rfl (args := [x.a, .agg [.t (.sl (g.map rowT))]]) (f := 33) (by simp [go_sem, Inst.a]) (by simp [go_sem, hB]) ((h2).spec _ _) ?_
    by_cases c6 : 5 < (x.stops.length : Int)
    · by_cases c5 : e = 0
      · have c7 := q1 c5
        refine K_run hB 100 ?_
        simp [go_sem, c5, c7]
        refine K_drawn [] rfl (by rw [hB]; kernel_rfl) ?_
        refine K_run hB 100 ?_
        simp [go_sem, c6]
      · refine K_run hB 100 ?_
        simp [go_sem, c5]
        refine K_drawn [] rfl (by rw [hB]; kernel_rfl) ?_
        refine K_run hB 100 ?_
        simp [go_sem, c6]
    · by_cases c5 : e = 0
      · have c7 := q1 c5
        refine K_run hB 100 ?_
        simp [go_sem, c5, c7]
        refine K_drawn [] rfl (by rw [hB]; kernel_rfl) ?_
        refine K_run hB 100 ?_
        simp [go_sem, c6]
        refine K_dCallP rfl rfl rfl (args := [x.a]) (f := 28) (by simp [go_sem, Inst.a]) (h4) ?_
        refine K_run hB 100 ?_
        simp [go_sem]
        refine K_dCallP rfl rfl rfl (args := [x.a]) (f := 34) (by simp [go_sem, Inst.a]) (h3) ?_
        refine K_run hB 100 ?_
        simp [go_sem, q2]
      · refine K_run hB 100 ?_
        simp [go_sem, c5]
        refine K_drawn [] rfl (by rw [hB]; kernel_rfl) ?_
        refine K_run hB 100 ?_
        simp [go_sem, c6]
        refine K_dCallP rfl rfl rfl (args := [x.a]) (f := 28) (by simp [go_sem, Inst.a]) (h4) ?_
        refine K_run hB 100 ?_
        simp [go_sem]
        refine K_dCallP rfl rfl rfl (args := [x.a]) (f := 34) (by simp [go_sem, Inst.a]) (h3) ?_
        refine K_run hB 100 ?_
        simp [go_sem, q2]
end Go.Proofs.Ytlhmchdfmjfmgaa
