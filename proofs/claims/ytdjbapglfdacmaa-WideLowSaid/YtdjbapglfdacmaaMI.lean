/- Parts of the proof: PlansP, WideT, Law17, Law17b. -/
import Derived.Test.YtdjbapglfdacmaaMH
set_option linter.unusedVariables false
/- Each plan that may be is the end of moves: the plain law. -/
set_option maxRecDepth 4000
namespace Go.Proofs.Ytdjbapglfdacmaa
open Go Go.Proofs.Ytdjbapglfdacmaa.R
/-- How far all routes go. -/
def Inst.gones (x : Inst) : List (List Int) → Int
  | [] => 0
  | r :: rs => (x.times r).2.1 + x.gones rs
theorem gones_perm (x : Inst) {a b : List (List Int)} (h : a.Perm b) : x.gones a = x.gones b := by
  induction h with
  | nil => rfl
  | cons r _ ih => simp only [Inst.gones, ih]
  | swap r s l => simp only [Inst.gones]; omega
  | trans _ _ h1 h2 => exact h1.trans h2
/-- Routes, each of which can be gone, which visit each stop once. -/
structure PlanOK (x : Inst) (p : Nat) (rs : List (List Int)) : Prop where
  cars : (rs.length : Int) ≤ x.cars
  each : ∀ r ∈ rs, r ≠ [] ∧ (x.times r).2.2 = 0
  once : rs.flatten.Nodup
  all : ∀ i : Nat, 1 ≤ i → i ≤ 2 * p → (i : Int) ∈ rs.flatten
theorem PlanOK.perm {x : Inst} {p : Nat} {a b : List (List Int)} (h : PlanOK x p a) (hp : a.Perm b) : PlanOK x p b :=
  ⟨by rw [← hp.length_eq]; exact h.cars, fun r hr => h.each r (hp.mem_iff.2 hr), (hp.flatten.nodup_iff).1 h.once, fun i h1 h2 => (hp.flatten.mem_iff).1 (h.all i h1 h2)⟩
theorem bump_count {i : Nat} : ∀ (r : List Int) (s : List Int) (h : i < s.length), (∀ j ∈ r, 0 ≤ j) → (r.foldl bump s)[i]'(by rw [bumps_len]; exact h) = s[i] + (r.count (i : Int) : Nat)
  | [], s, h, _ => by simp
  | j :: r, s, h, hr => by
    have h0 := hr j List.mem_cons_self
    have ih := bump_count r (bump s j) (by rw [bump_len]; exact h) fun k hk => hr k (List.mem_cons_of_mem _ hk)
    simp only [List.foldl_cons]
    rw [ih, List.count_cons]
    simp only [bump, List.getElem_set]
    by_cases e : j.toNat = i
    · have e2 : j = (i : Int) := by omega
      have e3 : s.getD j.toNat 0 = s[i] := by rw [e, List.getD_eq_getElem?_getD, List.getElem?_eq_getElem h]; rfl
      rw [if_pos e, e3, e2]
      simp only [beq_self_eq_true, if_true]
      omega
    · have e2 : ¬ j = (i : Int) := by omega
      rw [if_neg e]
      simp [e2]
theorem costGo_ok {x : Inst} {p : Nat} (hx : x.Fit p) (hm : x.may = true) : ∀ (rs : List (List Int)) (all : Int) (seen : List Int) {c : Int}, seen.length = 2 * p + 1 → x.costGo rs all seen = (c, 0) →
    c = all + x.gones rs ∧ (∀ r ∈ rs, r ≠ [] ∧ (x.times r).2.2 = 0) ∧ ((rs.flatten.foldl bump seen).any fun n => decide (1 < n)) = false ∧ (((rs.flatten.foldl bump seen).drop 1).any fun n => decide (n = 0)) = false
  | [], all, seen, c, hs, h => by
    rw [Inst.costGo] at h
    split at h
    · cases h
    split at h
    · cases h
    rename_i h1 h2
    simp only [Prod.mk.injEq, and_true] at h
    exact ⟨by simp only [Inst.gones]; omega, by simp, (Bool.not_eq_true _).mp h1, (Bool.not_eq_true _).mp h2⟩
  | r :: rs, all, seen, c, hs, h => by
    rw [Inst.costGo] at h
    split at h
    · cases h
    split at h
    · rename_i h1 h2
      simp only [Prod.mk.injEq] at h
      exact absurd h.2 h2
    rename_i h1 h2
    obtain ⟨g1, g2, g3, g4⟩ := costGo_ok hx hm rs _ _ (by rw [bumps_len]; exact hs) h
    refine ⟨by simp only [Inst.gones]; omega, fun q hq => ?_, by rw [List.flatten_cons, List.foldl_append]; exact g3, by rw [List.flatten_cons, List.foldl_append]; exact g4⟩
    rcases List.mem_cons.1 hq with rfl | hq
    · exact ⟨fun e => h1 (by rw [e]; rfl), by simpa using h2⟩
    · exact g2 q hq
theorem cost_ok {x : Inst} {p : Nat} (hx : x.Fit p) (hm : x.may = true) {rs : List (List Int)} {c : Int} (h : x.cost rs = (c, 0)) : PlanOK x p rs ∧ c = x.gones rs := by
  have hp := hx.pairs
  rw [Inst.cost, if_neg (by simp [hm])] at h
  split at h
  · cases h
  rename_i hc
  have hlen : (List.replicate (2 * x.pairs + 1).toNat (0 : Int)).length = 2 * p + 1 := by rw [List.length_replicate]; omega
  obtain ⟨g1, g2, g3, g4⟩ := costGo_ok hx hm rs _ _ hlen h
  have hstop : ∀ i ∈ rs.flatten, 1 ≤ i ∧ i ≤ 2 * p := fun i hi => by
    obtain ⟨r, hr, hir⟩ := List.mem_flatten.1 hi
    exact (times_ok hx hm (g2 r hr).2).1 i hir
  have hcnt : ∀ i : Nat, (hi : i ≤ 2 * p) → (rs.flatten.foldl bump (List.replicate (2 * x.pairs + 1).toNat 0))[i]'(by rw [bumps_len, hlen]; omega) = ((rs.flatten.count (i : Int) : Nat) : Int) := fun i hi => by
    rw [bump_count _ _ (by rw [hlen]; omega) (fun j hj => by have := hstop j hj; omega)]
    simp
  have hfl := bumps_len rs.flatten (List.replicate (2 * x.pairs + 1).toNat (0 : Int))
  rw [hlen] at hfl
  refine ⟨⟨by omega, g2, ?_, ?_⟩, by omega⟩
  · rw [List.nodup_iff_count]
    intro a
    by_cases ha : a ∈ rs.flatten
    · obtain ⟨h1, h2⟩ := hstop a ha
      obtain ⟨i, rfl⟩ : ∃ i : Nat, a = i := ⟨a.toNat, by omega⟩
      have h3 := hcnt i (by omega)
      rw [List.any_eq_false] at g3
      have h4 := g3 _ (List.getElem_mem (l := rs.flatten.foldl bump (List.replicate (2 * x.pairs + 1).toNat 0)) (n := i) (by rw [hfl]; omega))
      rw [h3] at h4
      simp only [decide_eq_true_eq] at h4
      omega
    · rw [List.count_eq_zero.2 ha]
      omega
  · intro i h1 h2
    by_cases ha : (i : Int) ∈ rs.flatten
    · exact ha
    · exfalso
      have h3 := hcnt i h2
      rw [List.count_eq_zero.2 ha] at h3
      rw [List.any_eq_false] at g4
      refine g4 _ (List.mem_iff_getElem.2 ⟨i - 1, by rw [List.length_drop, hfl]; omega, ?_⟩) (decide_eq_true rfl)
      rw [List.getElem_drop]
      have e : 1 + (i - 1) = i := by omega
      simp only [e]
      exact h3
/-- A visit that a car makes is a move. -/
theorem Sim1.back {x : Inst} {p m0 k : Nat} {s : State} {c : Car} {j : Int} (hx : x.Fit p) (hm : x.may = true) (h : Sim1 x p m0 s c k) (hcar : 1 ≤ s.car ∧ s.car ≤ x.cars) (hv : (x.visitC c j).2 = 0) (hn : ∀ i : Nat, j = i → s.must.testBit i = false) (hf : s.spot = 0 → c.seen = 0 ∧ s.first < j) :
    (x.move s j).2.2 = true ∧ 0 < j := by
  have hp := hx.pairs
  have hfew := hx.few
  rw [Inst.visitC] at hv
  split at hv
  · rename_i hh; exact absurd hv hh
  rename_i hvs
  split at hv
  · cases hv
  rename_i hdue
  obtain ⟨k1, k2, k3, k4, k5⟩ := visits_ok (by simpa using hvs)
  obtain ⟨i, rfl⟩ : ∃ i : Nat, j = i := ⟨j.toNat, by omega⟩
  have hmi := hn i rfl
  have hsum := sumOn_pos hx s.on p (Nat.le_refl _)
  have hmay : s.mayB x = true := by
    have h1 := h.fit.spot
    have h2 := h.fit.now
    have h3 := h.good.load
    have h4 := h.good.room
    have h5 := hx.room
    have h6 := h.spot
    have h7 := h.now
    simp only [State.mayB, Bool.and_eq_true, decide_eq_true_eq]
    omega
  have l1 : x.lateB s i = false := by
    simp only [Inst.lateB, Bool.or_eq_false_iff, decide_eq_false_iff_not]
    rw [has_testN (by omega)]
    refine ⟨hmi, ?_⟩
    unfold Inst.begins
    rw [← h.now, ← h.spot]
    omega
  have l2 : (i : Int) ≤ x.pairs → x.fullB s i = false := fun hi => by
    simp only [Inst.fullB, Bool.or_eq_false_iff, Bool.and_eq_false_iff, decide_eq_false_iff_not]
    rw [← h.load]
    refine ⟨by omega, ?_⟩
    by_cases hs : s.spot = 0
    · have := hf hs
      exact .inr (by omega)
    · exact .inl hs
  have l3 : x.pairs < (i : Int) → x.emptyB s i = false := fun hi => by
    have hb := k4 hi
    have e : (i : Int) - x.pairs = ((i - p : Nat) : Int) := by omega
    rw [e, has_testN (by omega)] at hb
    simp only [Inst.emptyB, Bool.or_eq_false_iff, Bool.not_eq_false', decide_eq_false_iff_not]
    rw [e, has_testN (by omega), h.good.eq, h.seen (i - p) (by omega) (by omega), hb]
    refine ⟨fun hs => ?_, by simp⟩
    have := (hf hs).1
    rw [this, Nat.zero_testBit] at hb
    cases hb
  have hto := to_visit (x := x) (s := s) (j := i) (by omega) l1 l2 l3
  have hmv := move_mk (j := i) hm hmay (by omega) (by rw [hto])
  exact ⟨by rw [hmv], by omega⟩
/-- The rest of a route, gone by moves. -/
theorem route_fwd {x : Inst} {p m0 : Nat} (hx : x.Fit p) (hm : x.may = true) : ∀ (r : List Int) (s : State) (c : Car) (k : Nat), Sim1 x p m0 s c k → s.spot ≠ 0 → (1 ≤ s.car ∧ s.car ≤ x.cars) → (x.runC r c).2 = 0 → r.Nodup → (∀ i : Nat, (i : Int) ∈ r → s.must.testBit i = false) →
    ∃ s' c1 k', Sim1 x p m0 s' c1 k' ∧ s'.spot ≠ 0 ∧ s'.car = s.car ∧ s'.first = s.first ∧ x.homeC c1 = x.runC r c ∧ (∀ i, 1 ≤ i → i ≤ 2 * p → s'.must.testBit i = (s.must.testBit i || decide ((i : Int) ∈ r))) ∧
      ∀ path d, x.way path s' d → x.way (r ++ path) s (c1.gone - c.gone + d)
  | [], s, c, k, hs, hsp, hcar, hr, _, _ => by
    refine ⟨s, c, k, hs, hsp, rfl, rfl, rfl, fun i _ _ => by simp, fun path d hw => ?_⟩
    have : c.gone - c.gone + d = d := by omega
    rw [this]
    exact hw
  | j :: r, s, c, k, hs, hsp, hcar, hr, hnd, hdis => by
    have hv : (x.visitC c j).2 = 0 := by
      rw [Inst.runC] at hr
      by_cases c1 : (x.visitC c j).2 = 0
      · exact c1
      · rw [if_pos c1] at hr; exact absurd hr c1
    rw [runC_cons hv] at hr ⊢
    rw [List.nodup_cons] at hnd
    obtain ⟨b1, b2⟩ := hs.back hx hm hcar hv (fun i e => hdis i (by rw [e]; exact List.mem_cons_self)) (fun h => absurd h hsp)
    obtain ⟨v1, v2, v3⟩ := hs.step hx (by omega) b1
    obtain ⟨_, _, p3, p4, _, _, _, m8⟩ := move_pos b1 (by omega)
    obtain ⟨_, _, _, q4, _, _⟩ := good_step hx hs.good b1
    have hfew := hx.few
    have hp := hx.pairs
    rw [if_pos b2] at q4
    have e1 : (x.move s j).1.car = s.car := by rw [m8]; rfl
    have e2 : (x.move s j).1.first = s.first := by rw [m8]; show (if s.spot = 0 then j else s.first) = s.first; rw [if_neg hsp]
    have e3 : (x.move s j).1.spot ≠ 0 := by rw [m8]; show j ≠ 0; omega
    obtain ⟨n, rfl⟩ : ∃ n : Nat, j = n := ⟨j.toNat, by omega⟩
    have hbit : ∀ i, (x.move s (n : Int)).1.must.testBit i = (s.must.testBit i || decide (n = i)) := fun i => by rw [q4, with_bit (by omega)]
    obtain ⟨s', c1, k', g1, g2, g3, g4, g5, g6, g7⟩ := route_fwd hx hm r _ _ _ v2 e3 (by rw [e1]; exact hcar) hr hnd.2 (fun i hi => by
      rw [hbit, hdis i (List.mem_cons_of_mem _ hi)]
      have : ¬ n = i := by rintro rfl; exact hnd.1 hi
      simp [this])
    refine ⟨s', c1, k', g1, g2, by rw [g3, e1], by rw [g4, e2], g5, fun i i1 i2 => ?_, fun path d hw => ?_⟩
    · rw [g6 i i1 i2, hbit, Bool.or_assoc]
      congr 1
      rw [Bool.eq_iff_iff]
      simp only [Bool.or_eq_true, decide_eq_true_eq, List.mem_cons]
      constructor
      · rintro (rfl | h)
        · exact .inl rfl
        · exact .inr h
      · rintro (h | h)
        · exact .inl (by omega)
        · exact .inr h
    · refine ⟨b1, _, g7 path d hw, ?_⟩
      omega
def headI (r : List Int) : Int := r.getD 0 0
theorem route_first {x : Inst} {p : Nat} (hx : x.Fit p) (hm : x.may = true) {r : List Int} {s : State} (hsp : s.spot = 0) (hon : s.on = 0) (hld : s.load = 0) (hti : s.time = (x.stop 0).ready) (hg : Good x p s) (hc : 1 ≤ s.car ∧ s.car ≤ x.cars) (hne : r ≠ []) (ht : (x.times r).2.2 = 0) (hnd : r.Nodup)
    (hdis : ∀ i : Nat, (i : Int) ∈ r → s.must.testBit i = false) (hfi : s.first < headI r) :
    ∃ s' c1 k', Sim1 x p s.must s' c1 k' ∧ s'.spot ≠ 0 ∧ s'.car = s.car ∧ s'.first = headI r ∧ (x.homeC c1).2 = 0 ∧ (x.times r).2.1 = (x.homeC c1).1.gone ∧ (∀ i, 1 ≤ i → i ≤ 2 * p → s'.must.testBit i = (s.must.testBit i || decide ((i : Int) ∈ r))) ∧
      ∀ path d, x.way path s' d → x.way (r ++ path) s (c1.gone + d) := by
  match r, hne with
  | j :: r, _ =>
    have hs : Sim1 x p s.must s x.car0 0 := by
      refine ⟨hsp.symm, hti.symm, hld.symm, hon.symm, fun i _ _ => by simp [Inst.car0], fun i i1 i2 h => ?_, car0_fit hx, hg⟩
      have := hg.on i i1 i2
      rw [hon, Nat.zero_testBit, h] at this
      simpa using this.symm
    have hrun : (x.runC (j :: r) x.car0).2 = 0 := by
      rw [Inst.times, if_neg (by simp [hm])] at ht
      by_cases c1 : (x.runC (j :: r) x.car0).2 = 0
      · exact c1
      · rw [if_pos c1] at ht; exact absurd ht c1
    have htm : (x.times (j :: r)).2.1 = (x.runC (j :: r) x.car0).1.gone := by rw [Inst.times, if_neg (by simp [hm]), if_neg (by simp [hrun])]
    have hv : (x.visitC x.car0 j).2 = 0 := by
      rw [Inst.runC] at hrun
      by_cases c1 : (x.visitC x.car0 j).2 = 0
      · exact c1
      · rw [if_pos c1] at hrun; exact absurd hrun c1
    rw [runC_cons hv] at hrun htm
    rw [List.nodup_cons] at hnd
    have hhd : headI (j :: r) = j := rfl
    rw [hhd] at hfi ⊢
    obtain ⟨b1, b2⟩ := hs.back hx hm hc hv (fun i e => hdis i (by rw [e]; exact List.mem_cons_self)) (fun _ => ⟨rfl, hfi⟩)
    obtain ⟨v1, v2, v3⟩ := hs.step hx (by omega) b1
    obtain ⟨_, _, p3, p4, _, _, _, m8⟩ := move_pos b1 (by omega)
    obtain ⟨_, _, _, q4, _, _⟩ := good_step hx hg b1
    have hfew := hx.few
    have hp := hx.pairs
    rw [if_pos b2] at q4
    have e1 : (x.move s j).1.car = s.car := by rw [m8]; rfl
    have e2 : (x.move s j).1.first = j := by rw [m8]; show (if s.spot = 0 then j else s.first) = j; rw [if_pos hsp]
    have e3 : (x.move s j).1.spot ≠ 0 := by rw [m8]; show j ≠ 0; omega
    have hg0 : x.car0.gone = 0 := rfl
    obtain ⟨n, rfl⟩ : ∃ n : Nat, j = n := ⟨j.toNat, by omega⟩
    have hbit : ∀ i, (x.move s (n : Int)).1.must.testBit i = (s.must.testBit i || decide (n = i)) := fun i => by rw [q4, with_bit (by omega)]
    obtain ⟨s', c1, k', g1, g2, g3, g4, g5, g6, g7⟩ := route_fwd hx hm r _ _ _ v2 e3 (by rw [e1]; exact hc) hrun hnd.2 (fun i hi => by
      rw [hbit, hdis i (List.mem_cons_of_mem _ hi)]
      have : ¬ n = i := by rintro rfl; exact hnd.1 hi
      simp [this])
    refine ⟨s', c1, k', g1, g2, by rw [g3, e1], by rw [g4, e2], by rw [g5]; exact hrun, by rw [htm, g5], fun i i1 i2 => ?_, fun path d hw => ?_⟩
    · rw [g6 i i1 i2, hbit, Bool.or_assoc]
      congr 1
      rw [Bool.eq_iff_iff]
      simp only [Bool.or_eq_true, decide_eq_true_eq, List.mem_cons]
      constructor
      · rintro (rfl | h)
        · exact .inl rfl
        · exact .inr h
      · rintro (h | h)
        · exact .inl (by omega)
        · exact .inr h
    · refine ⟨b1, _, g7 path d hw, ?_⟩
      omega
theorem homeC_ok {x : Inst} {c : Car} (h : (x.homeC c).2 = 0) : c.on = 0 ∧ c.now + far (x.stop c.spot) (x.stop 0) ≤ (x.stop 0).due ∧ (x.homeC c).1.gone = c.gone + far (x.stop c.spot) (x.stop 0) := by
  rw [Inst.homeC] at h ⊢
  by_cases c1 : c.on = 0
  · rw [if_neg (by simp [c1])] at h ⊢
    by_cases c2 : (x.stop 0).due < c.now + far (x.stop c.spot) (x.stop 0)
    · rw [if_pos c2] at h; cases h
    · rw [if_neg c2]
      exact ⟨c1, by omega, rfl⟩
  · rw [if_pos c1] at h; cases h
theorem Sim1.mayB {x : Inst} {p m0 k : Nat} {s : State} {c : Car} (hx : x.Fit p) (h : Sim1 x p m0 s c k) (hcar : 1 ≤ s.car ∧ s.car ≤ x.cars) : s.mayB x = true := by
  have hp := hx.pairs
  have hsum := sumOn_pos hx s.on p (Nat.le_refl _)
  have h1 := h.fit.spot
  have h2 := h.fit.now
  have h3 := h.good.load
  have h4 := h.good.room
  have h5 := hx.room
  have h6 := h.spot
  have h7 := h.now
  simp only [State.mayB, Bool.and_eq_true, decide_eq_true_eq]
  omega
theorem upto_only : ∀ (k : Nat) {i : Nat}, (uptoL k).testBit i = true → 1 ≤ i ∧ i ≤ k
  | 0, i, h => by simp [uptoL] at h
  | k + 1, i, h => by
    rw [uptoL, Nat.testBit_or, Bool.or_eq_true] at h
    rcases h with h | h
    · have := upto_only k h; omega
    · rw [Nat.testBit_two_pow] at h
      have : k + 1 = i := by simpa using h
      omega
theorem allB_of {x : Inst} {p t : Nat} (hx : x.Fit p) (h : ∀ i, 1 ≤ i → i ≤ 2 * p → t.testBit i = true) : x.allB t = true := by
  rw [Inst.allB, withinB, List.all_eq_true]
  intro i hi
  have hp := hx.pairs
  have hfew := hx.few
  have hu : (uptoN (2 * x.pairs)).testBit i = true → t.testBit i = true := fun hb => by
    unfold uptoN at hb
    have := upto_only _ hb
    exact h i this.1 (by omega)
  cases hb : (uptoN (2 * x.pairs)).testBit i with
  | false => rfl
  | true => rw [hu hb]; rfl
/-- From the yard: all routes that are left, in the order of their first stops. -/
theorem yard_fwd {x : Inst} {p : Nat} (hx : x.Fit p) (hm : x.may = true) (h0 : x.pairs ≠ 0) : ∀ (rs : List (List Int)) (r : List Int) (s : State), s.spot = 0 → s.on = 0 → s.load = 0 → s.time = (x.stop 0).ready → Good x p s → 1 ≤ s.car → s.car + rs.length ≤ x.cars → (∀ q ∈ r :: rs, q ≠ [] ∧ (x.times q).2.2 = 0) → (r :: rs).flatten.Nodup →
    (∀ i : Nat, (i : Int) ∈ (r :: rs).flatten → s.must.testBit i = false) → (∀ i : Nat, 1 ≤ i → i ≤ 2 * p → s.must.testBit i = true ∨ (i : Int) ∈ (r :: rs).flatten) → s.first < headI r → (r :: rs).Pairwise (fun a b => headI a < headI b) → ∃ path, x.way path s (x.gones (r :: rs)) := by
  intro rs
  induction rs with
  | nil =>
    intro r s hsp hon hld hti hg hc1 hc2 heach hnd hdis hall hfi hpw
    obtain ⟨e1, e2⟩ := heach r List.mem_cons_self
    simp only [List.flatten_cons, List.flatten_nil, List.append_nil] at hnd hdis hall
    obtain ⟨s', c1, k', g1, g2, g3, g4, g5, g6, g7, g8⟩ := route_first hx hm hsp hon hld hti hg ⟨hc1, by simp only [List.length_nil] at hc2; omega⟩ e1 e2 hnd hdis hfi
    obtain ⟨a1, a2, a3⟩ := homeC_ok g5
    have hend : x.endS s' = (far (x.stop s'.spot) (x.stop 0), true) := by
      rw [Inst.endS, if_neg (by simp [hm]), if_neg (fun h => h0 h.1), if_pos]
      refine ⟨g1.mayB hx (by rw [g3]; simp only [List.length_nil] at hc2; omega), g2, by rw [← g1.on]; exact a1, allB_of hx fun i i1 i2 => ?_, by rw [← g1.now, ← g1.spot]; exact a2⟩
      rw [g1.good.eq, g7 i i1 i2]
      rcases hall i i1 i2 with h | h
      · rw [h]; rfl
      · simp [h]
    have hw := g8 [] _ (show x.way [] s' (far (x.stop s'.spot) (x.stop 0)) from ⟨by rw [hend], by rw [hend]⟩)
    refine ⟨r ++ [], ?_⟩
    rw [Inst.gones, Inst.gones, g6, a3, g1.spot, Int.add_zero]
    exact hw
  | cons r2 rs ih =>
    intro r s hsp hon hld hti hg hc1 hc2 heach hnd hdis hall hfi hpw
    obtain ⟨e1, e2⟩ := heach r List.mem_cons_self
    rw [List.flatten_cons] at hnd hdis hall
    rw [List.length_cons] at hc2
    obtain ⟨n1, n2, n3⟩ := List.nodup_append.1 hnd
    obtain ⟨s', c1, k', g1, g2, g3, g4, g5, g6, g7, g8⟩ := route_first hx hm hsp hon hld hti hg ⟨hc1, by omega⟩ e1 e2 n1 (fun i hi => hdis i (List.mem_append_left _ hi)) hfi
    obtain ⟨a1, a2, a3⟩ := homeC_ok g5
    rw [List.pairwise_cons] at hpw
    obtain ⟨e3, e4⟩ := heach r2 (by simp)
    have hr2 := times_ok hx hm e4
    obtain ⟨j2, hj2⟩ : ∃ j2, j2 ∈ r2 := List.exists_mem_of_ne_nil _ e3
    have hp := hx.pairs
    have hfew := hx.few
    have hmay := g1.mayB hx (by rw [g3]; omega)
    have hstay : x.stayB s' = false := by
      simp only [Inst.stayB, Bool.or_eq_false_iff, decide_eq_false_iff_not]
      refine ⟨⟨⟨⟨g2, by rw [← g1.on, a1]; simp⟩, by rw [g3]; omega⟩, ?_⟩, by rw [← g1.now, ← g1.spot]; omega⟩
      cases hq : x.allB s'.must with
      | false => rfl
      | true =>
        exfalso
        obtain ⟨i, rfl⟩ : ∃ i : Nat, j2 = i := ⟨j2.toNat, by have := hr2.1 j2 hj2; omega⟩
        have hi := hr2.1 _ hj2
        have h1 := Inst.all_bit hx hq (i := i) (by omega) (by omega)
        have hmem : (i : Int) ∈ (r2 :: rs).flatten := by rw [List.flatten_cons]; exact List.mem_append_left _ hj2
        rw [g7 i (by omega) (by omega), hdis i (List.mem_append_right _ hmem), Bool.false_or, decide_eq_true_eq] at h1
        exact n3 _ h1 _ hmem rfl
    have hto : x.to s' 0 = (x.homeS s', true) := by rw [Inst.to, if_pos rfl, Inst.home, if_neg (by rw [hstay]; simp)]
    have hmv := move_mk (j := 0) hm hmay (by omega) (by rw [hto])
    rw [hto] at hmv
    have hmv1 : (x.move s' 0).2.2 = true := by rw [hmv]
    have hgood := (good_step hx g1.good hmv1).1
    rw [hmv] at hgood
    obtain ⟨path, hpath⟩ := ih r2 (x.homeS s') rfl (by show s'.on = 0; rw [← g1.on]; exact a1) rfl rfl hgood (by show 1 ≤ s'.car + 1; omega) (by show s'.car + 1 + (rs.length : Int) ≤ x.cars; rw [g3]; omega) (fun q hq => heach q (List.mem_cons_of_mem _ hq)) n2
      (fun i hi => by
        show s'.must.testBit i = false
        have hi2 : 1 ≤ i ∧ i ≤ 2 * p := by
          obtain ⟨q, hq, hiq⟩ := List.mem_flatten.1 hi
          have := (times_ok hx hm (heach q (List.mem_cons_of_mem _ hq)).2).1 _ hiq
          omega
        rw [g7 i hi2.1 hi2.2, hdis i (List.mem_append_right _ hi), Bool.false_or]
        exact decide_eq_false fun h => n3 _ h _ hi rfl)
      (fun i i1 i2 => by
        show s'.must.testBit i = true ∨ _
        rw [g7 i i1 i2]
        rcases hall i i1 i2 with h | h
        · exact .inl (by rw [h]; rfl)
        · rcases List.mem_append.1 h with h | h
          · exact .inl (by simp [h])
          · exact .inr h)
      (by show s'.first < headI r2; rw [g4]; exact hpw.1 r2 (by simp)) hpw.2
    have hw := g8 (0 :: path) _ (show x.way (0 :: path) s' (far (x.stop s'.spot) (x.stop 0) + x.gones (r2 :: rs)) from ⟨hmv1, _, by rw [hmv]; exact hpath, by rw [hmv]⟩)
    refine ⟨r ++ 0 :: path, ?_⟩
    rw [Inst.gones, g6, a3, g1.spot]
    have e : c1.gone + far (x.stop s'.spot) (x.stop 0) + x.gones (r2 :: rs) = c1.gone + (far (x.stop s'.spot) (x.stop 0) + x.gones (r2 :: rs)) := by omega
    rw [e]
    exact hw
/-- A plan that may be is the end of moves that cost as much. -/
theorem plan_way {x : Inst} (hm : x.may = true) {rs : List (List Int)} {c : Int} (h : x.cost rs = (c, 0)) : ∃ path, x.way path x.rootS c := by
  obtain ⟨p, hx⟩ := x.fit hm
  have hp := hx.pairs
  have hroot : x.rootS = { State.zero with car := 1, time := (x.stop 0).ready } := by rw [Inst.rootS, if_pos hm]
  obtain ⟨hok, rfl⟩ := cost_ok hx hm h
  by_cases h0 : x.pairs = 0
  · have hn : rs = [] := by
      cases rs with
      | nil => rfl
      | cons r rs =>
        obtain ⟨e1, e2⟩ := hok.each r List.mem_cons_self
        obtain ⟨j, hj⟩ := List.exists_mem_of_ne_nil _ e1
        have := (times_ok hx hm e2).1 j hj
        omega
    subst hn
    refine ⟨[], ?_, ?_⟩
    · rw [Inst.endS, if_neg (by simp [hm]), if_pos ⟨h0, rfl⟩]
    · rw [Inst.endS, if_neg (by simp [hm]), if_pos ⟨h0, rfl⟩]; rfl
  · obtain ⟨qs, hqs⟩ : ∃ qs, qs = rs.mergeSort (fun a b => decide (headI a ≤ headI b)) := ⟨_, rfl⟩
    have hperm : rs.Perm qs := by rw [hqs]; exact (List.mergeSort_perm _ _).symm
    have hsort : qs.Pairwise fun a b => decide (headI a ≤ headI b) = true := by
      rw [hqs]
      refine List.pairwise_mergeSort (fun a b c h1 h2 => ?_) (fun a b => ?_) rs
      · simp only [decide_eq_true_eq] at *; omega
      · simp only [Bool.or_eq_true, decide_eq_true_eq]; omega
    have hok2 := hok.perm hperm
    rw [gones_perm x hperm]
    have hne : qs ≠ [] := by
      intro e
      have := hok2.all 1 (Nat.le_refl _) (by omega)
      rw [e] at this
      cases this
    match qs, hne with
    | r :: qs, _ =>
      have hhead : ∀ q ∈ r :: qs, headI q ∈ q := fun q hq => by
        obtain ⟨e1, _⟩ := hok2.each q hq
        cases q with
        | nil => exact absurd rfl e1
        | cons j q => exact List.mem_cons_self
      have hpw : (r :: qs).Pairwise fun a b => headI a < headI b := by
        have hnd := hok2.once
        rw [List.Nodup, List.pairwise_flatten] at hnd
        refine (hsort.and hnd.2).imp_of_mem fun {a b} ha hb h => ?_
        have h1 := h.1
        simp only [decide_eq_true_eq] at h1
        have h2 := h.2 (headI a) (hhead a ha) (headI b) (hhead b hb)
        omega
      obtain ⟨e1, e2⟩ := hok2.each r List.mem_cons_self
      have hpos := (times_ok hx hm e2).1 _ (hhead r List.mem_cons_self)
      have hcars := hok2.cars
      rw [List.length_cons] at hcars
      refine yard_fwd hx hm h0 qs r x.rootS (by rw [hroot]; rfl) (by rw [hroot]; rfl) (by rw [hroot]; rfl) (by rw [hroot]) (good_root hx hm) (by rw [hroot]; show (1 : Int) ≤ 1; omega) (by rw [hroot]; show (1 : Int) + (qs.length : Int) ≤ x.cars; omega) hok2.each hok2.once
        (fun i _ => by rw [hroot]; exact Nat.zero_testBit i) (fun i i1 i2 => .inr (hok2.all i i1 i2)) (by rw [hroot]; show (0 : Int) < headI r; omega) hpw
end Go.Proofs.Ytdjbapglfdacmaa

/- Diagrams from nodes that moves lead to: what they tell. -/
set_option maxRecDepth 4000
namespace Go.Proofs.Ytdjbapglfdacmaa
open Go Go.Proofs.Ytdjbapglfdacmaa.R
/-- A node whose path leads to it. -/
structure Track (x : Inst) (n : Node) : Prop where
  goes : x.goes n.path x.rootS 0 = some (n.s, n.cost)
  is : n.s.Is n.s.spot
  cost : 0 ≤ n.cost ∧ n.cost ≤ 14143 * (n.path.length : Int)
  len : n.path.length + x.meas n.s ≤ x.meas x.rootS
theorem track_root {x : Inst} (hm : x.may = true) : Track x x.rootN :=
  ⟨rfl, ⟨rfl, rootS_ok x, pos_root hm, seen_root x⟩, by simp [Inst.rootN], by simp [Inst.rootN]⟩
theorem Track.few {x : Inst} {n : Node} (h : Track x n) : n.path.length ≤ 40 := by
  have := h.len
  have := meas_le x x.rootS
  omega
theorem Track.child {x : Inst} {n : Node} (h : Track x n) {j : Int} (hj : (x.move n.s j).2.2 = true) : Track x (x.child n j) := by
  have hc := move_cost hj
  have hl := h.cost
  have hf := h.few
  have e : (x.child n j).cost = n.cost + (x.move n.s j).2.1 := sumI_two hl.1 hc.1 (by omega)
  have hm := meas_move hj
  have hlen : (n.path ++ [j]).length = n.path.length + 1 := by simp
  refine ⟨?_, h.is.move hj, ?_, ?_⟩
  · show x.goes (n.path ++ [j]) x.rootS 0 = some ((x.move n.s j).1, (x.child n j).cost)
    rw [goes_app, h.goes, Option.bind_some]
    show x.goes [j] n.s n.cost = _
    rw [Inst.goes, if_pos hj, w64 _ (by omega), e]
    rfl
  · rw [e]
    show _ ∧ _ ≤ 14143 * ((n.path ++ [j]).length : Int)
    rw [hlen]
    omega
  · show (n.path ++ [j]).length + x.meas (x.move n.s j).1 ≤ _
    rw [hlen]
    have := h.len
    omega
theorem layN_track {x : Inst} {n : Node} (h : Track x n) (up : Int) : ∀ (k : Nat), ∀ m ∈ x.layN up n k, Track x m ∧ m.path.length = n.path.length + k
  | 0, m, hm => by rw [List.mem_singleton.1 hm]; exact ⟨h, rfl⟩
  | k + 1, m, hm => by
    obtain ⟨q, hq, j, hj, rfl, _⟩ := next_mem hm
    obtain ⟨h1, h2⟩ := layN_track h up k q hq
    refine ⟨h1.child (moves_mem hj), ?_⟩
    show (q.path ++ [j]).length = _
    rw [List.length_append, h2]
    simp only [List.length_cons, List.length_nil]
    omega
theorem Track.wl {x : Inst} {l : List Node} (h : ∀ n ∈ l, Track x n) {r : Nat} (hr : r ≤ 1000) : WL x l r :=
  ⟨fun n hn => (h n hn).is, fun n hn => by have := (h n hn).cost; have := (h n hn).few; omega⟩
theorem Track.way {x : Inst} {n : Node} (h : Track x n) {v : List Int} {c : Int} (hv : x.way v n.s c) : x.way (n.path ++ v) x.rootS (n.cost + c) := by
  have hf := h.few
  have := way_app (c0 := 0) (by omega) (by omega) h.goes hv
  rwa [show n.cost - 0 + c = n.cost + c by omega] at this
theorem deep_may {x : Inst} (hm : x.may = true) : x.deep = 2 * x.pairs + x.cars - 1 := by rw [Inst.deep, if_pos hm]
theorem deep_meas {x : Inst} (hm : x.may = true) : (x.meas x.rootS : Int) ≤ x.deep ∧ x.deep ≤ 39 := by
  obtain ⟨p, hx⟩ := x.fit hm
  have h1 := meas_rootC hx hm
  have := hx.pairs
  have := hx.few
  have := hx.cars
  rw [deep_may hm]
  omega
theorem build_way {x : Inst} (hst : x.stops.length < 2 ^ 31) (hm : x.may = true) {n : Node} (h : Track x n) (w up : Int) {v : List Int} {c : Int} (hv : x.way v n.s c) (hlt : n.cost + c < up) : (x.build n w up).low ≤ n.cost + c := by
  have h1 := deep_meas hm
  have h2 := way_len hv
  have h3 := h.len
  rw [Inst.build]
  exact buildGo_way hst w up _ _ _ _ _ _ (Track.wl (fun m hm => by rw [List.mem_singleton.1 hm]; exact h) (by omega)) n List.mem_cons_self v c hv hlt (by simp only [List.length_nil]; omega) (by omega)
theorem build_le (x : Inst) (n : Node) (w up : Int) : (x.build n w up).low ≤ up := buildGo_le x w up _ _ _ _ _ _
theorem build_ok (x : Inst) (n : Node) (w up : Int) : (x.build n w up).Ok x up n := by
  rw [Inst.build]
  refine buildGo_sure w up _ n _ _ _ _ _ ⟨fun i hi => by simp at hi, by simp⟩ (fun _ => rfl) (fun k hk => by cases hk) (fun _ => by simp) (by omega) (fun k hk => by cases hk) ?_ (.inr rfl)
  simp only [List.length_nil]
  omega
/-- What an exact one tells some way costs. -/
theorem build_exact {x : Inst} {n : Node} (h : Track x n) (w up : Int) (he : (x.build n w up).exact = true) (hlt : (x.build n w up).low < up) : ∃ v, x.way v x.rootS (x.build n w up).low := by
  have hok := build_ok x n w up
  have hw := hok.whole
  rw [he] at hw
  have hs : (x.build n w up).sure = (x.build n w up).layers.length := of_decide_eq_true hw.symm
  rcases buildGo_low x w up (x.deep - n.path.length) up ((x.deep - n.path.length).toNat + 2) [] up none [n] (.inl rfl) with h1 | ⟨k, hk, h1, h2⟩
  · rw [Inst.build] at hlt
    omega
  · rw [← Inst.build] at hk h2
    obtain ⟨i, hi, e⟩ := List.getElem_of_mem hk
    have h3 := hok.lay i (by omega)
    rw [List.getElem?_eq_getElem hi, e] at h3
    cases h3
    obtain ⟨m, hm, b1, b2, b3⟩ := bests_from h1
    have ht := (layN_track h up i m hm).1
    have hf := ht.few
    have hc := ht.cost
    have hec := end_cost b1
    rw [sumI_two hc.1 hec.1 (by omega)] at b2
    have := ht.way (v := []) (c := (x.endS m.s).1) ⟨b1, rfl⟩
    rw [← b2, ← h2] at this
    exact ⟨_, this⟩
end Go.Proofs.Ytdjbapglfdacmaa

/- Diagrams of all ways: the laws are awake; what is squeezed. -/
set_option maxRecDepth 4000
set_option maxHeartbeats 1000000
namespace Go.Proofs.Ytdjbapglfdacmaa
open Go Go.Proofs.Ytdjbapglfdacmaa.R
theorem small_build : (small.build small.rootN 1 1152921504606846976).layers.length = 3 ∧ (small.build small.rootN 1 1152921504606846976).low = 12 ∧ (small.build small.rootN 1 1152921504606846976).exact = true ∧ (small.build small.rootN 1 1152921504606846976).sure = 3 ∧ small.deep = 2 := by decide +kernel
theorem awake17_pure : Pure P 7 [] (.b true) := by
  refine pure_of Try.func7 rfl rfl (by simp [Try.f7]) (by simp [bnd, bnd.bndL]) (by simp [bnd, bnd.bndL]) fun B hB hnx => ?_
  simp only [Try.f7] at hB ⊢
  refine K_run hB 100 ?_
  simp [go_sem]
  refine K_call rfl rfl rfl (args := []) (f := 21) (by simp [go_sem]) (by simp [go_sem, hB]) ((small_pure).spec _ _) ?_
  have hp := parse_pure smallB (by decide) (by decide)
  rw [small_parse] at hp
  refine K_run hB 100 ?_
  simp [go_sem, small_bytes]
  refine K_call rfl rfl rfl (args := [.t (.sl (byt smallB))]) (f := 20) (by simp [go_sem]) (by simp [go_sem, hB]) ((hp).spec _ _) ?_
  have hl : small.stops.length < 2 ^ 31 := by decide
  have hr := root_pureS small (by omega)
  have hb := build_pure small small.rootN 1 1152921504606846976 hl (by omega) (rootS_ok small) (by simp [Inst.rootN])
  have hd := deep_pure small (by omega)
  obtain ⟨e1, e2, e3, e4, e5⟩ := small_build
  have ea : small.rootN.a = .agg [.i small.rootS.spot, .i small.rootS.car, .i small.rootS.time, .i small.rootS.load, .i small.rootS.first, .u small.rootS.must, .u small.rootS.can, .u small.rootS.on, .i 0, .t (.sl [])] := rfl
  rw [ea] at hb
  rw [e5] at hd
  generalize small.build small.rootN 1 1152921504606846976 = D at *
  generalize small.rootS = r at *
  generalize small = x at *
  have hlen : (lysT D.layers).length = 3 := by rw [lysT, List.length_map, e1]
  refine K_run hB 100 ?_
  simp [go_sem, Inst.a]
  refine K_drawnF [5, 6] [0, 1, 2, 3, 4] rfl (by rw [hB]; kernel_rfl) (by kernel_rfl) fun ht hf' => ?_
  refine K_run hB 100 ?_
  simp [go_sem, ht, hf']
  refine K_dCallP rfl rfl rfl (args := [x.a]) (f := 22) (by simp [go_sem, Inst.a]) (hr) ?_
  refine K_run hB 100 ?_
  simp [go_sem, ht, hf', State.a, State.cs]
  refine K_dCallP rfl rfl rfl (args := [x.a, .agg [.i r.spot, .i r.car, .i r.time, .i r.load, .i r.first, .u r.must, .u r.can, .u r.on, .i 0, .fsl []], .i 1, .i 1152921504606846976]) (f := 14) (by simp [go_sem, Inst.a]) (Pure.loose hb (by simp [bnd, bnd.bndL, Inst.a])) ?_
  refine K_run hB 100 ?_
  simp [go_sem, ht, hf', Diag.a, Diag.cs, hlen, e2, e3, e4]
  refine K_call rfl rfl rfl (args := [x.a]) (f := 16) (by simp [go_sem, Inst.a]) (by simp [go_sem, hB]) ((hd).spec _ _) ?_
  refine K_run hB 100 ?_
  simp [go_sem]
theorem wide_low {x : Inst} (hst : x.stops.length < 2 ^ 31) (hm : x.may = true) (w lim : Int) : (∀ v c, x.way v x.rootS c → (x.build x.rootN w lim).low ≤ c ∨ lim ≤ c) := fun v c hv => by
  by_cases h : c < lim
  · have := build_way hst hm (track_root hm) w lim (v := v) (c := c) hv (by show 0 + c < lim; omega)
    have e : x.rootN.cost = 0 := rfl
    exact .inl (by omega)
  · exact .inr (by omega)
theorem wide_every {x : Inst} (hst : x.stops.length < 2 ^ 31) (hm : x.may = true) (w lim : Int) (he : (x.build x.rootN w lim).exact = true) (hlt : (x.build x.rootN w lim).low < lim) : (x.build x.rootN w lim).low = x.everyAll := by
  obtain ⟨p, hx⟩ := x.fit hm
  obtain ⟨v, hv⟩ := build_exact (track_root hm) w lim he hlt
  have hd : x.deepN ≤ 1000 := by
    have := hx.pairs
    have := hx.few
    have := hx.cars
    unfold Inst.deepN
    omega
  have h1 : x.everyAll ≤ (x.build x.rootN w lim).low := every_has x _ hv (way_root_len hx hm hv) hd
  have h2 := way_in hv
  have h3 := way_root_len hx hm hv
  have hi : x.everyAll < inf := by
    have : inf = 1152921504606846976 := rfl
    omega
  obtain ⟨u, hu⟩ := every_from x _ x.rootS hi
  rcases wide_low hst hm w lim u _ hu with h4 | h4
  · have e : x.every x.deepN x.rootS = x.everyAll := rfl
    omega
  · have e : x.every x.deepN x.rootS = x.everyAll := rfl
    omega
end Go.Proofs.Ytdjbapglfdacmaa

/- No plan costs less than a diagram tells: the law. -/
set_option maxRecDepth 4000
set_option maxHeartbeats 1000000
namespace Go.Proofs.Ytdjbapglfdacmaa
open Go Go.Proofs.Ytdjbapglfdacmaa.R
theorem lwlow_pure (x : Inst) (g : List (List Int)) (w lim : Int) (hl : x.stops.length < 2 ^ 63) (hg : g.length < 2 ^ 63) (hgr : ∀ r ∈ g, r.length < 2 ^ 63) : Pure P 6 [x.a, .agg [.t (.sl (g.map rowT))], .i w, .i lim] (.b true) := by
  refine pure_of Try.func6 rfl rfl (by simp [Try.f6]) (by simp [bnd, bnd.bndL, Inst.a]) (by simp [bnd, bnd.bndL]) fun B hB hnx => ?_
  simp only [Try.f6] at hB ⊢
  refine K_run hB 100 ?_
  simp [go_sem, Inst.a]
  refine K_call rfl rfl rfl (args := []) (f := 7) (by simp [go_sem]) (by simp [go_sem, hB]) ((awake17_pure).spec _ _) ?_
  by_cases c1 : 9 < (x.stops.length : Int)
  · refine K_run hB 100 ?_
    simp [go_sem, c1]
  by_cases c2 : 30 < w
  · refine K_run hB 100 ?_
    simp [go_sem, c1, c2]
  have h4 := may_pure x hl
  have hst : x.stops.length < 2 ^ 31 := by omega
  have hr := rootN_pure x hl
  have hb := build_pure x x.rootN w lim hst (by omega) (rootS_ok x) (by simp [Inst.rootN])
  have hc := cost_pure x g hl hg hgr
  refine K_run hB 100 ?_
  simp [go_sem, c1, c2]
  refine K_call rfl rfl rfl (args := [x.a]) (f := 13) (by simp [go_sem, Inst.a]) (by simp [go_sem, hB]) ((h4).spec _ _) ?_
  cases hm : x.may with
  | false =>
    refine K_run hB 100 ?_
    simp [go_sem]
  | true =>
    have h3 := everyAll_pure x hm
    have q1 := build_le x x.rootN w lim
    have q2 := wide_low hst hm w lim
    have q3 := wide_every hst hm w lim
    have q4 : ∀ c e : Int, x.cost g = (c, e) → e = 0 → ¬ c < (x.build x.rootN w lim).low := fun c e h he => by
      subst he
      obtain ⟨v, hv⟩ := plan_way hm h
      rcases q2 v c hv with h | h <;> omega
    generalize x.everyAll = E at *
    generalize x.build x.rootN w lim = D at *
    generalize hC : x.cost g = C at *
    obtain ⟨c, e⟩ := C
    have q4 := q4 c e rfl
    generalize x.rootN = rn at *
    refine K_run hB 100 ?_
    simp [go_sem]
    refine K_drawnF [6, 7] [0, 1, 2, 3, 4, 5] rfl (by rw [hB]; kernel_rfl) (by kernel_rfl) fun ht hf' => ?_
    refine K_run hB 100 ?_
    simp [go_sem, ht, hf', Inst.cs]
    refine K_dCallP rfl rfl rfl (args := [x.a]) (f := 15) (by simp [go_sem, Inst.a]) (hr) ?_
    refine K_run hB 100 ?_
    simp [go_sem, ht, hf', Node.a, Node.cs, Inst.cs]
    refine K_dCallP rfl rfl rfl (args := [x.a, rn.a, .i w, .i lim]) (f := 14) (by simp [go_sem, Inst.a, Node.a, Node.cs]) (hb) ?_
    refine K_run hB 100 ?_
    simp [go_sem, ht, hf', Diag.a, Diag.cs]
    refine K_call rfl rfl rfl (args := [x.a, .agg [.t (.sl (g.map rowT))]]) (f := 18) (by simp [go_sem, Inst.a]) (by simp [go_sem, hB]) ((hc).spec _ _) ?_
    have c4 : ¬ lim < D.low := by omega
    by_cases c5 : e = 0
    · have c7 := q4 c5
      refine K_run hB 100 ?_
      simp [go_sem, c4, c5, c7]
      refine K_drawn [] rfl (by rw [hB]; kernel_rfl) ?_
      by_cases c6 : 5 < (x.stops.length : Int)
      · refine K_run hB 100 ?_
        simp [go_sem, c6, Inst.cs]
      cases hx : D.exact with
      | false =>
        refine K_run hB 100 ?_
        simp [go_sem, c6, Inst.cs, hx]
      | true =>
        by_cases c8 : lim ≤ D.low
        · refine K_run hB 100 ?_
          simp [go_sem, c6, Inst.cs, hx, c8]
        · refine K_run hB 100 ?_
          simp [go_sem, c6, Inst.cs, hx, c8]
          refine K_dCallP rfl rfl rfl (args := [x.a]) (f := 19) (by simp [go_sem, Inst.a]) (h3) ?_
          have c9 := q3 hx (by omega)
          refine K_run hB 100 ?_
          simp [go_sem, c9]
    · refine K_run hB 100 ?_
      simp [go_sem, c4, c5]
      refine K_drawn [] rfl (by rw [hB]; kernel_rfl) ?_
      by_cases c6 : 5 < (x.stops.length : Int)
      · refine K_run hB 100 ?_
        simp [go_sem, c6, Inst.cs]
      cases hx : D.exact with
      | false =>
        refine K_run hB 100 ?_
        simp [go_sem, c6, Inst.cs, hx]
      | true =>
        by_cases c8 : lim ≤ D.low
        · refine K_run hB 100 ?_
          simp [go_sem, c6, Inst.cs, hx, c8]
        · refine K_run hB 100 ?_
          simp [go_sem, c6, Inst.cs, hx, c8]
          refine K_dCallP rfl rfl rfl (args := [x.a]) (f := 19) (by simp [go_sem, Inst.a]) (h3) ?_
          have c9 := q3 hx (by omega)
          refine K_run hB 100 ?_
          simp [go_sem, c9]
end Go.Proofs.Ytdjbapglfdacmaa
