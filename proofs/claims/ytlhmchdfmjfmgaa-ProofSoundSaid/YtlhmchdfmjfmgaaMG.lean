/- Parts of the proof: Ways, Find, Pot, NarrowP, PfS, PfT, PfF, Rep, PfK, Law20, Every, Law15e, Sched, Sched2, Sched3, PlanC, ToursP. -/
import Derived.Test.YtlhmchdfmjfmgaaMF
set_option linter.unusedVariables false
/- What can follow a state, and end; what covers a state can be followed by the same. -/
set_option maxRecDepth 4000
namespace Go.Proofs.Ytlhmchdfmjfmgaa
open Go Go.Proofs.Ytlhmchdfmjfmgaa.R
/-- Moves that can follow a state, and end, and what they cost in all. -/
def Inst.way (x : Inst) : List Int → State → Int → Prop
  | [], s, c => (x.endS s).2 = true ∧ c = (x.endS s).1
  | j :: l, s, c => (x.move s j).2.2 = true ∧ ∃ d, x.way l (x.move s j).1 d ∧ c = (x.move s j).2.1 + d
theorem way_in {x : Inst} : ∀ {l : List Int} {s : State} {c : Int}, x.way l s c → 0 ≤ c ∧ c ≤ 14143 * (l.length + 1)
  | [], s, c, h => by
    have := end_cost h.1
    have := h.2
    simp only [List.length_nil]
    omega
  | j :: l, s, c, h => by
    obtain ⟨h1, d, h2, h3⟩ := h
    have := way_in h2
    have := move_cost h1
    rw [List.length_cons]
    omega
theorem way_low {x : Inst} : ∀ {l : List Int} {s : State} {c : Int}, s.seenAt → x.way l s c → lowP x.near s.can ≤ c
  | [], s, c, _, h => by rw [h.2]; exact low_end h.1
  | j :: l, s, c, hs, h => by
    obtain ⟨h1, d, h2, h3⟩ := h
    have := way_low (seen_step h1) h2
    have := low_step hs h1
    omega
/-- What no state of an instance has less of. -/
structure State.Pos (s : State) : Prop where
  car : 1 ≤ s.car
  time : 0 ≤ s.time
  load : 0 ≤ s.load
theorem within_with {a b k : Nat} (hk : k ≤ 63) (h : withinB a b = true) : withinB (withN a k) (withN b k) = true := by
  rw [withinB, List.all_eq_true] at *
  intro i hi
  have := h i hi
  rw [with_bit hk, with_bit hk]
  revert this
  cases a.testBit i <;> cases b.testBit i <;> cases decide (k = i) <;> simp
theorem within_without {a b k : Nat} (hk : k ≤ 63) (h : withinB a b = true) : withinB (withoutN a k) (withoutN b k) = true := by
  rw [withinB, List.all_eq_true] at *
  intro i hi
  have := h i hi
  have hi' := List.mem_range.1 hi
  rw [without_bit hk hi', without_bit hk hi']
  revert this
  cases a.testBit i <;> cases b.testBit i <;> cases decide (k = i) <;> simp
theorem within_zero {a : Nat} (ha : a < 2 ^ 64) (h : withinB a 0 = true) : a = 0 := by
  refine Nat.eq_of_testBit_eq fun i => ?_
  by_cases hi : i < 64
  · rw [withinB, List.all_eq_true] at h
    have := h i (List.mem_range.2 hi)
    revert this
    cases a.testBit i <;> simp
  · rw [Nat.zero_testBit]
    exact Nat.testBit_lt_two_pow (Nat.lt_of_lt_of_le ha (Nat.pow_le_pow_right (by omega) (by omega)))
theorem cov_mk {a b : State} (e1 : a.spot = b.spot) (e2 : withinB a.must b.must = true) (e3 : withinB a.on b.on = true) (e4 : withinB b.can a.can = true) (e5 : a.car ≤ b.car) (e6 : a.time ≤ b.time) (e7 : a.load ≤ b.load) (e8 : a.first ≤ b.first) : coversB a b = true := by
  simp only [coversB, Bool.and_eq_true, decide_eq_true_eq]
  exact ⟨⟨⟨⟨⟨⟨⟨e1, e2⟩, e3⟩, e4⟩, e5⟩, e6⟩, e7⟩, e8⟩
theorem cov_may {x : Inst} {a b : State} (h : coversB a b = true) (hp : a.Pos) (hb : b.mayB x = true) : a.mayB x = true := by
  simp only [coversB, Bool.and_eq_true, decide_eq_true_eq] at h
  simp only [State.mayB, Bool.and_eq_true, decide_eq_true_eq] at hb ⊢
  have := hp.car
  have := hp.time
  have := hp.load
  omega
theorem cov_home {x : Inst} {a b : State} (hcov : coversB a b = true) (hp : a.Pos) (ho : a.ok) (h : (x.move b 0).2.2 = true) :
    x.move a 0 = (x.homeS a, far (x.stop b.spot) (x.stop 0), true) ∧ coversB (x.homeS a) (x.homeS b) = true ∧ (x.homeS a).Pos := by
  have hc := hcov
  simp only [coversB, Bool.and_eq_true, decide_eq_true_eq] at hc
  obtain ⟨⟨⟨⟨⟨⟨⟨e1, e2⟩, e3⟩, e4⟩, e5⟩, e6⟩, e7⟩, e8⟩ := hc
  obtain ⟨h1, h2, h3, h4⟩ := move_home h
  obtain ⟨p, hx⟩ := x.fit h1
  have hpp := hx.pairs
  have ha := cov_may hcov hp h2
  have hs : x.stayB a = false := by
    simp only [Inst.stayB, Bool.or_eq_false_iff, decide_eq_false_iff_not] at h3 ⊢
    obtain ⟨⟨⟨⟨a1, a2⟩, a3⟩, a4⟩, a5⟩ := h3
    have hon : a.on = 0 := by
      have : b.on = 0 := by omega
      rw [this] at e3
      exact within_zero ho.on e3
    refine ⟨⟨⟨⟨by rw [e1]; exact a1, by omega⟩, by omega⟩, ?_⟩, by rw [e1]; omega⟩
    cases hq : x.allB a.must with
    | false => rfl
    | true =>
      have := within_trans hq e2
      rw [Inst.allB] at a4
      rw [a4] at this
      cases this
  have hto : x.to a 0 = (x.homeS a, true) := by rw [Inst.to, if_pos rfl, Inst.home, if_neg (by rw [hs]; simp)]
  have hmv := move_mk (j := 0) h1 ha (by omega) (by rw [hto])
  rw [hto, e1] at hmv
  have h5 := (hx.at (j := 0) (by omega) (by omega)).ready
  have h6 := hp.car
  refine ⟨hmv, cov_mk (a := x.homeS a) (b := x.homeS b) rfl e2 e3 e4 ?_ ?_ ?_ e8, ⟨?_, ?_, ?_⟩⟩ <;> simp only [Inst.homeS] <;> omega
theorem cov_pos {x : Inst} {a b : State} {j : Int} (hj : j ≠ 0) (hcov : coversB a b = true) (hp : a.Pos) (h : (x.move b j).2.2 = true) :
    x.move a j = (x.rvisit a j (x.begins a j), far (x.stop b.spot) (x.stop j), true) ∧ coversB (x.rvisit a j (x.begins a j)) (x.rvisit b j (x.begins b j)) = true ∧ (x.rvisit a j (x.begins a j)).Pos := by
  have hc := hcov
  simp only [coversB, Bool.and_eq_true, decide_eq_true_eq] at hc
  obtain ⟨⟨⟨⟨⟨⟨⟨e1, e2⟩, e3⟩, e4⟩, e5⟩, e6⟩, e7⟩, e8⟩ := hc
  obtain ⟨h1, h2, h3, h4, h5, h6, h7, h8⟩ := move_pos h hj
  obtain ⟨p, hx⟩ := x.fit h1
  have hpp := hx.pairs
  have hfew := hx.few
  have ha := cov_may hcov hp h2
  have hbe : x.begins a j ≤ x.begins b j := by
    unfold Inst.begins
    rw [e1]
    omega
  have k1 : x.lateB a j = false := by
    simp only [Inst.lateB, Bool.or_eq_false_iff, decide_eq_false_iff_not] at h5 ⊢
    refine ⟨?_, by omega⟩
    cases hq : hasB a.must j with
    | false => rfl
    | true =>
      have := within_has e2 j hq
      rw [h5.1] at this
      cases this
  have k2 : j ≤ x.pairs → x.fullB a j = false := fun hh => by
    have := h6 hh
    simp only [Inst.fullB, Bool.or_eq_false_iff, Bool.and_eq_false_iff, decide_eq_false_iff_not] at this ⊢
    refine ⟨by omega, ?_⟩
    rcases this.2 with h9 | h9
    · exact .inl (by rw [e1]; exact h9)
    · exact .inr (by omega)
  have k3 : x.pairs < j → x.emptyB a j = false := fun hh => by
    have := h7 hh
    simp only [Inst.emptyB, Bool.or_eq_false_iff, Bool.not_eq_false', decide_eq_false_iff_not] at this ⊢
    exact ⟨by rw [e1]; exact this.1, within_has e4 _ this.2⟩
  have hto := to_visit (x := x) (s := a) hj k1 k2 k3
  have hmv := move_mk (j := j) h1 ha (by omega) (by rw [hto])
  rw [hto, e1] at hmv
  have h9 := (hx.at (j := j) (by omega) (by omega)).service
  have h10 := (far_le (x.stop a.spot) (x.stop j)).1
  have h11 := hp.time
  have h12 := hp.car
  have h13 : 0 ≤ x.begins a j := by unfold Inst.begins; omega
  obtain ⟨k, hk⟩ : ∃ k : Nat, j = k := ⟨j.toNat, by omega⟩
  refine ⟨hmv, ?_, ⟨?_, ?_, ?_⟩⟩
  · generalize x.begins a j = ta at *
    generalize x.begins b j = tb at *
    generalize x.stop j = sj at *
    refine cov_mk ?_ ?_ ?_ ?_ ?_ ?_ ?_ ?_
    · simp only [Inst.rvisit]
    · simp only [Inst.rvisit]
      rw [hk]
      exact within_with (by omega) e2
    · simp only [Inst.rvisit]
      rw [hk]
      split
      · exact within_with (by omega) e3
      · obtain ⟨q, hq⟩ : ∃ q : Nat, (k : Int) - x.pairs = q := ⟨((k : Int) - x.pairs).toNat, by omega⟩
        rw [hq]
        exact within_without (by omega) e3
    · simp only [Inst.rvisit]
      rw [hk]
      exact within_with (by omega) e4
    · simp only [Inst.rvisit]
      exact e5
    · simp only [Inst.rvisit]
      omega
    · simp only [Inst.rvisit]
      omega
    · simp only [Inst.rvisit]
      rw [e1]
      split
      · exact Int.le_refl _
      · exact e8
  · simp only [Inst.rvisit]; exact h12
  · simp only [Inst.rvisit]; omega
  · simp only [Inst.rvisit]; omega
theorem cov_move {x : Inst} {a b : State} {j : Int} (hc : coversB a b = true) (hp : a.Pos) (ho : a.ok) (h : (x.move b j).2.2 = true) :
    (x.move a j).2.2 = true ∧ (x.move a j).2.1 = (x.move b j).2.1 ∧ coversB (x.move a j).1 (x.move b j).1 = true ∧ (x.move a j).1.Pos := by
  by_cases hj : j = 0
  · subst hj
    obtain ⟨g1, g2, g3⟩ := cov_home hc hp ho h
    rw [g1, (move_home h).2.2.2]
    exact ⟨rfl, rfl, g2, g3⟩
  · obtain ⟨g1, g2, g3⟩ := cov_pos hj hc hp h
    rw [g1, (move_pos h hj).2.2.2.2.2.2.2]
    exact ⟨rfl, rfl, g2, g3⟩
theorem cov_end {x : Inst} {a b : State} (h0 : x.pairs ≠ 0) (hc : coversB a b = true) (hp : a.Pos) (ho : a.ok) (h : (x.endS b).2 = true) : (x.endS a).2 = true ∧ (x.endS a).1 = (x.endS b).1 := by
  have hcov := hc
  simp only [coversB, Bool.and_eq_true, decide_eq_true_eq] at hc
  obtain ⟨⟨⟨⟨⟨⟨⟨e1, e2⟩, e3⟩, e4⟩, e5⟩, e6⟩, e7⟩, e8⟩ := hc
  obtain ⟨h1, h2 | ⟨h2, h3, h4, h5, h6, h7⟩⟩ := end_is h
  · exact absurd h2.1 h0
  · have hon : a.on = 0 := by
      rw [h4] at e3
      exact within_zero ho.on e3
    have hend : x.endS a = (far (x.stop a.spot) (x.stop 0), true) := by
      rw [Inst.endS, if_neg (by simp [h1]), if_neg (fun h => h0 h.1), if_pos]
      refine ⟨cov_may hcov hp h2, by rw [e1]; exact h3, hon, ?_, by rw [e1]; omega⟩
      exact within_trans h5 e4
    rw [hend, h7, e1]
    exact ⟨rfl, rfl⟩
theorem pos_move {x : Inst} {s : State} {j : Int} (hp : s.Pos) (ho : s.ok) (h : (x.move s j).2.2 = true) : (x.move s j).1.Pos := (cov_move (covers_refl s) hp ho h).2.2.2
/-- Where a move can be made there are pairs. -/
theorem move_pairs {x : Inst} {s : State} {j : Int} (h : (x.move s j).2.2 = true) : x.pairs ≠ 0 := by
  by_cases hj : j = 0
  · subst hj
    obtain ⟨h1, h2, h3, h4⟩ := move_home h
    simp only [Inst.stayB, Bool.or_eq_false_iff, decide_eq_false_iff_not] at h3
    simp only [State.mayB, Bool.and_eq_true, decide_eq_true_eq] at h2
    omega
  · have := move_pos h hj
    omega
end Go.Proofs.Ytlhmchdfmjfmgaa

/- What looking at all finds: the plain law. -/
set_option maxRecDepth 4000
namespace Go.Proofs.Ytlhmchdfmjfmgaa
open Go Go.Proofs.Ytlhmchdfmjfmgaa.R
/-- What is known of the nodes of a level. -/
structure Lev (x : Inst) (l : List Node) (d : Nat) : Prop where
  ok : ∀ n ∈ l, n.s.ok
  deep : ∀ n ∈ l, x.meas n.s < d
  pos : ∀ n ∈ l, n.s.Pos
  seen : ∀ n ∈ l, n.s.seenAt
  cost : ∀ n ∈ l, 0 ≤ n.cost ∧ n.cost + 14143 * (d : Int) ≤ 1152921504606846976
theorem child_cost {x : Inst} {l : List Node} {d : Nat} (h : Lev x l (d + 1)) {n : Node} (hn : n ∈ l) {j : Int} (hj : (x.move n.s j).2.2 = true) : (x.child n j).cost = n.cost + (x.move n.s j).2.1 := by
  have h1 := h.cost n hn
  have h2 := move_cost hj
  show sumI [n.cost, (x.move n.s j).2.1] = _
  rw [sumI_two h1.1 h2.1 (by omega)]
theorem Lev.sub {x : Inst} {l m : List Node} {d : Nat} (h : Lev x l d) (hs : ∀ n ∈ m, n ∈ l) : Lev x m d :=
  ⟨fun n hn => h.ok n (hs n hn), fun n hn => h.deep n (hs n hn), fun n hn => h.pos n (hs n hn), fun n hn => h.seen n (hs n hn), fun n hn => h.cost n (hs n hn)⟩
theorem Lev.next {x : Inst} {l : List Node} {d : Nat} (h : Lev x l (d + 1)) (up : Int) : Lev x (x.next l up) d := by
  have key : ∀ m ∈ x.next l up, ∃ n ∈ l, ∃ j, (x.move n.s j).2.2 = true ∧ m = x.child n j := by
    intro m hm
    obtain ⟨n, hn, j, hj, e, _⟩ := next_mem hm
    exact ⟨n, hn, j, moves_mem hj, e⟩
  refine ⟨?_, ?_, ?_, ?_, ?_⟩ <;> (intro m hm; obtain ⟨n, hn, j, hj, rfl⟩ := key m hm)
  · exact move_ok x j (h.ok n hn)
  · have := meas_move hj
    have := h.deep n hn
    show x.meas (x.move n.s j).1 < d
    omega
  · exact pos_move (h.pos n hn) (h.ok n hn) hj
  · exact seen_step hj
  · rw [child_cost h hn hj]
    have := h.cost n hn
    have := move_cost hj
    omega
theorem Lev.front {x : Inst} {l : List Node} {d : Nat} (h : Lev x l (d + 1)) (up : Int) : Lev x (frontL (x.next l up)) d := (h.next up).sub fun n hn => (front_inv _).sub n hn
end Go.Proofs.Ytlhmchdfmjfmgaa

/- How many nodes a level may have, with at most three pairs: the plain law. -/
set_option maxRecDepth 4000
namespace Go.Proofs.Ytlhmchdfmjfmgaa
open Go Go.Proofs.Ytlhmchdfmjfmgaa.R
def State.yard (s : State) : Bool := decide (s.spot = 0)
end Go.Proofs.Ytlhmchdfmjfmgaa

/- What looking at few finds: the plain laws. -/
set_option maxRecDepth 4000
namespace Go.Proofs.Ytlhmchdfmjfmgaa
open Go Go.Proofs.Ytlhmchdfmjfmgaa.R
theorem Lev.few {x : Inst} {l : List Node} {d : Nat} (h : Lev x l (d + 1)) (W : Nat) (up : Int) : Lev x (x.few W l up) d := (h.next up).sub fun n hn => few_mem hn
theorem meas_rootC {x : Inst} {p : Nat} (hx : x.Fit p) (hm : x.may = true) : (x.meas x.rootS : Int) ≤ 2 * x.pairs + x.cars - 1 := by
  have hp := hx.pairs
  have hc := hx.cars
  unfold Inst.meas
  split
  · rw [Inst.rootS, if_pos hm]
    have h6 : ((List.range (2 * x.pairs.toNat + 1)).filter fun j : Nat => decide (1 ≤ j) && !hasB ({ State.zero with car := 1, time := (x.stop 0).ready } : State).must (j : Int)).length < ((List.range (2 * x.pairs.toNat + 1)).filter fun _ => true).length :=
      filter_lt _ (a := 0) (List.mem_range.2 (by omega)) rfl (by simp) (fun _ _ => rfl)
    rw [List.filter_eq_self.2 (fun _ _ => rfl), List.length_range] at h6
    have : x.base ({ State.zero with car := 1, time := (x.stop 0).ready } : State) ≤ 2 * x.pairs.toNat + (x.cars - 1).toNat := Nat.add_le_add (Nat.le_of_lt_succ h6) (Nat.le_refl _)
    omega
  · omega
/-! With levels as wide as may be. -/
end Go.Proofs.Ytlhmchdfmjfmgaa

/- Proofs: if one holds no way costs less than it claims: the plain law. -/
set_option maxRecDepth 4000
namespace Go.Proofs.Ytlhmchdfmjfmgaa
open Go Go.Proofs.Ytlhmchdfmjfmgaa.R
/-- How deep parts are told to be: what a step leaves. -/
structure Kept (k : Nat) (a b : List Int) : Prop where
  len : b.length = a.length
  same : ∀ j, j ≤ k → b.getD j 0 = a.getD j 0
  less : ∀ j, b.getD j 0 ≤ a.getD j 0
  pos : (∀ j, 0 ≤ a.getD j 0 ∧ a.getD j 0 ≤ infI) → ∀ j, 0 ≤ b.getD j 0 ∧ b.getD j 0 ≤ infI
theorem Kept.refl (k : Nat) (a : List Int) : Kept k a a := ⟨rfl, fun _ _ => rfl, fun _ => Int.le_refl _, fun h => h⟩
theorem Kept.trans {k : Nat} {a b c : List Int} (h1 : Kept k a b) (h2 : Kept k b c) : Kept k a c :=
  ⟨h2.len.trans h1.len, fun j h => (h2.same j h).trans (h1.same j h), fun j => Int.le_trans (h2.less j) (h1.less j), fun h => h2.pos (h1.pos h)⟩
theorem Kept.mono {k m : Nat} {a b : List Int} (h : Kept m a b) (hk : k ≤ m) : Kept k a b := ⟨h.len, fun j hj => h.same j (Nat.le_trans hj hk), h.less, h.pos⟩
theorem getD_set {l : List Int} {i j : Nat} {v : Int} (hi : i < l.length) : (l.set i v).getD j 0 = if i = j then v else l.getD j 0 := by
  rw [List.getD_eq_getElem?_getD, List.getElem?_set, List.getD_eq_getElem?_getD]
  by_cases h : i = j
  · subst h; simp [hi]
  · simp [h]
theorem wrap_dk {a : List Int} {k i : Nat} (hr : ∀ j, 0 ≤ a.getD j 0 ∧ a.getD j 0 ≤ infI) (hi : i < 2 ^ 31) : IntKind.i64.wrap (a.getD k 0 + i) = a.getD k 0 + i := by
  have := hr k
  rw [infI] at this
  exact w64 _ (by omega)
theorem step_kept {k i : Nat} {n : Spot} {a : List Int} (hr : ∀ j, 0 ≤ a.getD j 0 ∧ a.getD j 0 ≤ infI) (hi : i < 2 ^ 31) : Kept k a (stepD k i n a) ∧ ((k : Int) < n.part - 1 → (n.part - 1).toNat < a.length → (stepD k i n a).getD (n.part - 1).toNat 0 ≤ a.getD k 0 + i) := by
  have hw := wrap_dk (k := k) hr hi
  unfold stepD
  rw [hw]
  split
  · rename_i c
    by_cases hl : (n.part - 1).toNat < a.length
    · have hg := fun j => getD_set (l := a) (j := j) (v := min (a.getD (n.part - 1).toNat 0) (a.getD k 0 + i)) hl
      have hk := hr k
      have hp := hr (n.part - 1).toNat
      refine ⟨⟨List.length_set, fun j hj => ?_, fun j => ?_, fun _ j => ?_⟩, fun _ _ => ?_⟩
      · rw [hg, if_neg (by omega)]
      · rw [hg]
        split
        · rename_i e; rw [← e]; omega
        · exact Int.le_refl _
      · rw [hg]
        split
        · omega
        · exact hr j
      · rw [hg, if_pos rfl]; omega
    · rw [List.set_eq_of_length_le (by omega)]
      exact ⟨Kept.refl k a, fun _ h => absurd h hl⟩
  · rename_i c
    exact ⟨Kept.refl k a, fun h => absurd h c⟩
/-- What a spot tells of how deep parts are. -/
def Tells (x : Inst) (p : Prf) (k i : Nat) (dk : Int) (F : List Int) (n : Spot) : Prop :=
  x.holdsB p k i n dk = true ∧ ((k : Int) < n.part - 1 → (n.part - 1).toNat < F.length → F.getD (n.part - 1).toNat 0 ≤ dk + i)
theorem Tells.kept {x : Inst} {p : Prf} {k i m : Nat} {dk : Int} {a b : List Int} {n : Spot} (h : Tells x p k i dk a n) (hk : Kept m a b) : Tells x p k i dk b n :=
  ⟨h.1, fun h1 h2 => Int.le_trans (hk.less _) (h.2 h1 (by rw [← hk.len]; exact h2))⟩
theorem lay_tells {x : Inst} {p : Prf} {k i : Nat} (hi : i < 2 ^ 31) : ∀ (l : List Spot) (a b : List Int), (∀ j, 0 ≤ a.getD j 0 ∧ a.getD j 0 ≤ infI) → x.layGo p k i l a = some b → Kept k a b ∧ ∀ n ∈ l, Tells x p k i (a.getD k 0) b n
  | [], a, b, hr, h => by
    cases h
    exact ⟨Kept.refl k a, fun n hn => by cases hn⟩
  | n :: l, a, b, hr, h => by
    rw [Inst.layGo] at h
    split at h
    · rename_i hh
      obtain ⟨s1, s2⟩ := step_kept (k := k) (n := n) hr hi
      obtain ⟨i1, i2⟩ := lay_tells hi l _ b (s1.pos hr) h
      have e := s1.same k (Nat.le_refl k)
      refine ⟨s1.trans i1, fun m hm => ?_⟩
      rcases List.mem_cons.1 hm with rfl | hm
      · exact Tells.kept (a := stepD k i m a) ⟨hh, fun h1 h2 => s2 h1 (by rw [← s1.len]; exact h2)⟩ i1
      · rw [← e]; exact i2 m hm
    · cases h
theorem part_tells {x : Inst} {p : Prf} {k : Nat} : ∀ (i : Nat) (q : List (List Spot)) (a b : List Int), i + q.length < 2 ^ 31 → (∀ j, 0 ≤ a.getD j 0 ∧ a.getD j 0 ≤ infI) → x.partGo p k i q a = some b → Kept k a b ∧ ∀ j l, q[j]? = some l → ∀ n ∈ l, Tells x p k (i + j) (a.getD k 0) b n
  | i, [], a, b, _, hr, h => by
    cases h
    exact ⟨Kept.refl k a, fun j l hj => by simp at hj⟩
  | i, l :: q, a, b, hq, hr, h => by
    rw [Inst.partGo] at h
    split at h
    · cases h
    · rename_i d hd
      rw [List.length_cons] at hq
      obtain ⟨s1, s2⟩ := lay_tells (by omega) l a d hr hd
      obtain ⟨i1, i2⟩ := part_tells (i + 1) q d b (by omega) (s1.pos hr) h
      refine ⟨s1.trans i1, fun j m hj n hn => ?_⟩
      cases j with
      | zero =>
        simp only [List.getElem?_cons_zero, Option.some.injEq] at hj
        subst hj
        exact (s2 n hn).kept i1
      | succ j =>
        rw [List.getElem?_cons_succ] at hj
        have := i2 j m hj n hn
        rw [s1.same k (Nat.le_refl k), show i + 1 + j = i + (j + 1) by omega] at this
        exact this
theorem parts_tells {x : Inst} {p : Prf} : ∀ (k : Nat) (ps : List (List (List Spot))) (a F : List Int), (∀ q ∈ ps, q.length < 2 ^ 30) → (∀ j, 0 ≤ a.getD j 0 ∧ a.getD j 0 ≤ infI) → x.partsGo p k ps a = some F →
    (∀ j, 0 ≤ F.getD j 0 ∧ F.getD j 0 ≤ infI) ∧ F.length = a.length ∧ (∀ j, j ≤ k → F.getD j 0 = a.getD j 0) ∧ (∀ j, F.getD j 0 ≤ a.getD j 0) ∧ ∀ j q, ps[j]? = some q → F.getD (k + j) 0 ≠ infI → ∀ i l, q[i]? = some l → ∀ n ∈ l, Tells x p (k + j) i (F.getD (k + j) 0) F n
  | k, [], a, F, _, hr, h => by
    cases h
    exact ⟨hr, rfl, fun _ _ => rfl, fun _ => Int.le_refl _, fun j q hj => by simp at hj⟩
  | k, q :: ps, a, F, hq, hr, h => by
    rw [Inst.partsGo] at h
    split at h
    · rename_i c
      obtain ⟨i0, i1, i2, i3, i4⟩ := parts_tells (k + 1) ps a F (fun q h => hq q (List.mem_cons_of_mem _ h)) hr h
      refine ⟨i0, i1, fun j hj => i2 j (by omega), i3, fun j r hj hF => ?_⟩
      cases j with
      | zero =>
        rw [Nat.add_zero, i2 k (by omega)] at hF
        exact absurd c hF
      | succ j =>
        rw [List.getElem?_cons_succ] at hj
        rw [show k + (j + 1) = k + 1 + j by omega] at hF ⊢
        exact i4 j r hj hF
    · split at h
      · cases h
      · rename_i d hd
        have hq0 := hq q List.mem_cons_self
        obtain ⟨s1, s2⟩ := part_tells 0 q a d (by omega) hr hd
        obtain ⟨i0, i1, i2, i3, i4⟩ := parts_tells (k + 1) ps d F (fun q h => hq q (List.mem_cons_of_mem _ h)) (s1.pos hr) h
        have hk : ∀ j, j ≤ k → F.getD j 0 = a.getD j 0 := fun j hj => (i2 j (by omega)).trans (s1.same j hj)
        refine ⟨i0, i1.trans s1.len, hk, fun j => Int.le_trans (i3 j) (s1.less j), fun j r hj hF => ?_⟩
        cases j with
        | zero =>
          simp only [List.getElem?_cons_zero, Option.some.injEq] at hj
          subst hj
          intro i l hil n hn
          have := s2 i l hil n hn
          rw [Nat.zero_add] at this
          rw [Nat.add_zero, hk k (Nat.le_refl k)]
          exact ⟨this.1, fun h1 h2 => Int.le_trans (i3 _) (this.2 h1 (by rw [← i1]; exact h2))⟩
        | succ j =>
          rw [List.getElem?_cons_succ] at hj
          rw [show k + (j + 1) = k + 1 + j by omega] at hF ⊢
          exact i4 j r hj hF
end Go.Proofs.Ytlhmchdfmjfmgaa

/- Proofs: if one holds no way costs less than it claims. -/
set_option maxRecDepth 4000
namespace Go.Proofs.Ytlhmchdfmjfmgaa
open Go Go.Proofs.Ytlhmchdfmjfmgaa.R
theorem sumI_le {a b : Int} (ha : 0 ≤ a) (hb : 0 ≤ b) : sumI [a, b] ≤ a + b := by
  simp only [sumI, List.foldl_cons, List.foldl_nil, sum1]
  omega
theorem sumI_nn (a b : Int) : 0 ≤ sumI [a, b] := by
  simp only [sumI, List.foldl_cons, List.foldl_nil, sum1]
  omega
/-- What is known of a spot that may be. -/
theorem spot_pos {x : Inst} {p : Prf} {n : Spot} (h : x.spotB p n = true) : n.s.Pos ∧ 0 ≤ n.cost ∧ 0 ≤ n.part ∧ n.part ≤ p.parts.length := by
  simp only [Inst.spotB, State.mayB, Bool.and_eq_true, decide_eq_true_eq] at h
  obtain ⟨⟨⟨⟨h1, h2⟩, h3⟩, h4⟩, h5⟩ := h
  exact ⟨⟨h1.1.1.1.1.1.2, h1.1.1.1.2, h1.1.2⟩, h2, h4, h5⟩
theorem whole_spot {x : Inst} {p : Prf} {q : List (List Spot)} (h : x.wholeB p q = true) {l : List Spot} (hl : l ∈ q) {n : Spot} (hn : n ∈ l) : x.spotB p n = true := by
  unfold Inst.wholeB at h
  split at h
  · cases h
  · simp only [Bool.and_eq_true, Bool.not_eq_true', decide_eq_true_eq, List.any_eq_false] at h
    have := h.2 l hl
    simp only [Bool.not_eq_true, List.any_eq_false] at this
    have := this n hn
    simpa using this
structure Holds (x : Inst) (p : Prf) (F : List Int) : Prop where
  len : F.length = p.parts.length
  whole : ∀ q ∈ p.parts, x.wholeB p q = true
  ok : ∀ q ∈ p.parts, ∀ l ∈ q, ∀ n ∈ l, n.s.ok
  small : ∀ q ∈ p.parts, q.length < 2 ^ 30
  rng : ∀ j, 0 ≤ F.getD j 0 ∧ F.getD j 0 ≤ infI
  tells : ∀ k q, p.parts[k]? = some q → F.getD k 0 ≠ infI → ∀ i l, q[i]? = some l → ∀ n ∈ l, Tells x p k i (F.getD k 0) F n
theorem deep_small {x : Inst} (hm : x.may = true) : x.deep ≤ 1000 := by
  obtain ⟨p, hx⟩ := x.fit hm
  have := hx.pairs
  have := hx.few
  have := hx.cars
  rw [Inst.deep, if_pos hm]
  omega
theorem low_cov {x : Inst} (hl : x.stops.length < 2 ^ 31) {a t : State} (hc : coversB a t = true) (hs : t.seenAt) {w : List Int} {c : Int} (hw : x.way w t c) : 0 ≤ x.low a ∧ x.low a ≤ c := by
  have h1 := lowP_in (near_le x) a.can
  rw [low_eq x a hl]
  simp only [coversB, Bool.and_eq_true, decide_eq_true_eq] at hc
  have h2 : lowP x.near a.can ≤ lowP x.near t.can := lowP_mono (near_le x) fun j => within_has hc.1.1.1.1.2 j
  have h3 := way_low hs hw
  omega
theorem sound_go {x : Inst} {p : Prf} {F : List Int} (hx : x.may = true) (hl : x.stops.length < 2 ^ 31) (H : Holds x p F) : ∀ (w : List Int) (r k : Nat), p.parts.length - k ≤ r → ∀ (q : List (List Spot)) (i : Nat) (l : List Spot) (n : Spot) (t : State) (e c m : Int), p.parts[k]? = some q → q[i]? = some l → n ∈ l →
    F.getD k 0 ≠ infI → coversB n.s t = true → (x.pairs = 0 → n.s = t) → t.ok → t.seenAt → n.cost ≤ e → F.getD k 0 + i ≤ m → (x.meas t : Int) + m ≤ x.deep → x.way w t c → p.least ≤ e + c := by
  intro w
  induction w with
  | nil =>
    intro r
    induction r with
    | zero =>
      intro k hk q i l n t e c m hq
      have := (List.getElem?_eq_some_iff.1 hq).1
      omega
    | succ r ih =>
      intro k hk q i l n t e c m hq hl2 hn hF hc h0 hto hts he hm hd hw
      have hqm := List.mem_of_getElem? hq
      have hlm := List.mem_of_getElem? hl2
      obtain ⟨hpos, hn0, hp0, hp1⟩ := spot_pos (whole_spot (H.whole q hqm) hlm hn)
      have hnok := H.ok q hqm l hlm n hn
      obtain ⟨t1, t2⟩ := H.tells k q hq hF i l hl2 n hn
      obtain ⟨lo1, lo2⟩ := low_cov hl hc hts hw
      have hwi := way_in hw
      unfold Inst.holdsB at t1
      split at t1
      · rename_i c1
        simp only [Inst.deadB, decide_eq_true_eq] at c1
        have := sumI_le hn0 lo1
        omega
      split at t1
      · rename_i c2
        unfold Prf.leadsB at t1
        split at t1
        · rename_i f hf
          simp only [Bool.and_eq_true, decide_eq_true_eq] at t1
          obtain ⟨u1, u2, u3⟩ := t1
          obtain ⟨hj, l0, q0, hpj⟩ := first_some hf
          have hFj := t2 u1 (by rw [H.len]; exact hj)
          have hds := deep_small hx
          refine ih (n.part - 1).toNat (by omega) ((f :: l0) :: q0) 0 (f :: l0) f t e c m (by rw [List.getElem?_eq_getElem hj, hpj]) rfl List.mem_cons_self ?_ (by rw [u2]; exact hc) (fun h => by rw [u2]; exact h0 h) hto hts (by omega) (by omega) hd hw
          rw [infI]; omega
        · cases t1
      · rename_i c2
        have hend : (x.endS n.s).2 = true ∧ (x.endS n.s).1 = c := by
          by_cases hp : x.pairs = 0
          · rw [h0 hp]; exact ⟨hw.1, hw.2.symm⟩
          · obtain ⟨e1, e2⟩ := cov_end hp hc hpos hnok hw.1
            exact ⟨e1, by rw [e2]; exact hw.2.symm⟩
        split at t1
        · cases t1
        · rename_i c3
          rw [hend.2] at c3
          have := sumI_le hn0 hwi.1
          have : ¬ sumI [n.cost, c] < p.least := fun h => c3 ⟨hend.1, h⟩
          omega
  | cons j w ihw =>
    intro r
    induction r with
    | zero =>
      intro k hk q i l n t e c m hq
      have := (List.getElem?_eq_some_iff.1 hq).1
      omega
    | succ r ih =>
      intro k hk q i l n t e c m hq hl2 hn hF hc h0 hto hts he hm hd hw
      have hqm := List.mem_of_getElem? hq
      have hlm := List.mem_of_getElem? hl2
      obtain ⟨hpos, hn0, hp0, hp1⟩ := spot_pos (whole_spot (H.whole q hqm) hlm hn)
      have hnok := H.ok q hqm l hlm n hn
      obtain ⟨t1, t2⟩ := H.tells k q hq hF i l hl2 n hn
      obtain ⟨lo1, lo2⟩ := low_cov hl hc hts hw
      have hwi := way_in hw
      have hds := deep_small hx
      unfold Inst.holdsB at t1
      split at t1
      · rename_i c1
        simp only [Inst.deadB, decide_eq_true_eq] at c1
        have := sumI_le hn0 lo1
        omega
      split at t1
      · rename_i c2
        unfold Prf.leadsB at t1
        split at t1
        · rename_i f hf
          simp only [Bool.and_eq_true, decide_eq_true_eq] at t1
          obtain ⟨u1, u2, u3⟩ := t1
          obtain ⟨hj, l0, q0, hpj⟩ := first_some hf
          have hFj := t2 u1 (by rw [H.len]; exact hj)
          refine ih (n.part - 1).toNat (by omega) ((f :: l0) :: q0) 0 (f :: l0) f t e c m (by rw [List.getElem?_eq_getElem hj, hpj]) rfl List.mem_cons_self ?_ (by rw [u2]; exact hc) (fun h => by rw [u2]; exact h0 h) hto hts (by omega) (by omega) hd hw
          rw [infI]; omega
        · cases t1
      · rename_i c2
        split at t1
        · cases t1
        · rename_i c3
          obtain ⟨g1, d, g2, g3⟩ := hw
          have hmm := meas_move g1
          have hmc := move_cost g1
          have hil := (List.getElem?_eq_some_iff.1 hl2).1
          have hqs := H.small q hqm
          rw [wrap_dk H.rng (by omega), if_neg (by omega)] at t1
          obtain ⟨v1, v2, v3, v4⟩ := cov_move hc hpos hnok g1
          rw [Inst.goesB, List.all_eq_true] at t1
          have hgo := t1 j (mem_moves v1)
          rw [Inst.goB, Bool.or_eq_true] at hgo
          have hs1 := sumI_le hn0 (b := (x.move n.s j).2.1) (by rw [v2]; exact hmc.1)
          have hs2 := sumI_nn n.cost (x.move n.s j).2.1
          rw [v2] at hs1 hs2 hgo
          rcases hgo with hgo | hgo
          · simp only [Inst.deadB, decide_eq_true_eq] at hgo
            obtain ⟨lo3, lo4⟩ := low_cov hl v3 (seen_step g1) g2
            have := sumI_le hs2 lo3
            omega
          · rw [hq, Option.getD_some] at hgo
            obtain ⟨n', hn', hb⟩ := List.any_eq_true.1 hgo
            simp only [Bool.and_eq_true, decide_eq_true_eq] at hb
            have hi1 : i + 1 < q.length := by
              by_cases h : i + 1 < q.length
              · exact h
              · rw [List.getD_eq_getElem?_getD, List.getElem?_eq_none (by omega)] at hn'
                cases hn'
            have hgd : q.getD (i + 1) [] = q[i + 1] := by rw [List.getD_eq_getElem?_getD, List.getElem?_eq_getElem hi1]; rfl
            rw [hgd] at hn'
            have := ihw (p.parts.length) k (by omega) q (i + 1) q[i + 1] n' (x.move t j).1 (e + (x.move t j).2.1) d (m + 1) hq (List.getElem?_eq_getElem hi1) hn' hF (covers_trans hb.2 v3) (fun h => absurd h (move_pairs g1)) (move_ok x j hto) (seen_step g1) (by omega) (by omega) (by omega) g2
            omega
theorem check_sound {x : Inst} {p : Prf} (hl : x.stops.length < 2 ^ 31) (hs : ∀ q ∈ p.parts, q.length < 2 ^ 30) (ho : ∀ q ∈ p.parts, ∀ l ∈ q, ∀ n ∈ l, n.s.ok) (h : x.checkE p = 0) : x.may = true ∧ p.least ≤ infI ∧ ∀ (w : List Int) (c : Int), x.way w x.rootS c → p.least ≤ c := by
  obtain ⟨c1, f, F, hf, c2, c3, hF⟩ := check_zero h
  simp only [Inst.mayP, Bool.and_eq_true, decide_eq_true_eq] at c1
  obtain ⟨m1, m2, m3, m4, m5⟩ := c1
  refine ⟨m1, m3, fun w c hw => ?_⟩
  have hlen0 : 0 < p.parts.length := List.length_pos_iff.2 m4
  have hr0 : ∀ j, 0 ≤ ((List.replicate p.parts.length infI).set 0 0).getD j 0 ∧ ((List.replicate p.parts.length infI).set 0 0).getD j 0 ≤ infI := by
    intro j
    rw [getD_set (by rw [List.length_replicate]; exact hlen0)]
    split
    · exact ⟨Int.le_refl _, by decide⟩
    · rw [List.getD_eq_getElem?_getD, List.getElem?_replicate]
      split
      · exact ⟨by decide, Int.le_refl _⟩
      · exact ⟨Int.le_refl _, by decide⟩
  obtain ⟨i0, i1, i2, i3, i4⟩ := parts_tells 0 p.parts _ F hs hr0 hF
  have hF0 : F.getD 0 0 = 0 := by
    rw [i2 0 (Nat.le_refl 0), getD_set (by rw [List.length_replicate]; exact hlen0), if_pos rfl]
  have H : Holds x p F := ⟨by rw [i1, List.length_set, List.length_replicate], List.all_eq_true.1 m5, ho, hs, i0, fun k q hq hk i l hil n hn => by
    have := i4 k q hq (by rw [Nat.zero_add]; exact hk) i l hil n hn
    rw [Nat.zero_add] at this
    exact this⟩
  obtain ⟨hj, l0, q0, hpj⟩ := first_some hf
  obtain ⟨pp, hx⟩ := x.fit m1
  have hdp : x.deep = 2 * x.pairs + x.cars - 1 := by rw [Inst.deep, if_pos m1]
  have hme := meas_rootC hx m1
  have := sound_go m1 hl H w p.parts.length 0 (by omega) ((f :: l0) :: q0) 0 (f :: l0) f x.rootS 0 c 0 (by rw [List.getElem?_eq_getElem hj, hpj]) rfl List.mem_cons_self (by rw [hF0]; decide) (by rw [c2]; exact covers_refl _) (fun _ => c2) (rootS_ok x) (seen_root x) (by omega) (by rw [hF0]; omega) (by omega) hw
  omega
end Go.Proofs.Ytlhmchdfmjfmgaa

/- Has a proof few parts? -/
set_option maxRecDepth 4000
namespace Go.Proofs.Ytlhmchdfmjfmgaa
open Go Go.Proofs.Ytlhmchdfmjfmgaa.R
def fewLay (q : List (List Spot)) : Bool := decide (q.length ≤ 12) && q.all fun l => decide (l.length ≤ 60)
def Prf.fewB (p : Prf) : Bool := decide (p.parts.length ≤ 60) && p.parts.all fewLay
theorem few20_pure (p : Prf) (hp : p.parts.length < 2 ^ 63) (hq : ∀ q ∈ p.parts, q.length < 2 ^ 63) : Pure P 15 [p.a] (.b p.fewB) := by
  generalize hR : p.fewB = R
  refine pure_of Try.func15 rfl rfl (by simp [Try.f15]) (by simp [bnd, bnd.bndL, Prf.a, Prf.cs]) (by simp [bnd, bnd.bndL]) fun B hB hnx => ?_
  simp only [Try.f15] at hB ⊢
  have hYl : (p.parts.map partT).length = p.parts.length := List.length_map _
  have hYg : ∀ (k : Nat) (h : k < p.parts.length), (p.parts.map partT)[k]'(by rw [hYl]; exact h) = partT p.parts[k] := fun k h => map_get partT p.parts h _
  rw [Prf.fewB] at hR
  have hcs : p.cs = [.i p.least, .t (.sl (p.parts.map partT))] := rfl
  generalize p.parts.map partT = Y at *
  generalize p.parts = ps at *
  by_cases c1 : 60 < (ps.length : Int)
  · rw [decide_eq_false (by omega), Bool.false_and] at hR
    subst hR
    refine K_run hB 100 ?_
    simp [go_sem, hcs, hYl, c1, Prf.a]
  rw [decide_eq_true (by omega), Bool.true_and] at hR
  refine K_run hB 100 ?_
  simp [go_sem, hcs, hYl, c1, Prf.a]
  refine K_loopP (α := Nat × (Nat → AObj) × Nat) (fun (k, τ, ny) => k ≤ ps.length ∧ (ps.drop k).all fewLay = R ∧ τ 0 = .box [.i p.least, .t (.sl Y)] ∧ 0 < ny) (fun (k, τ, ny) => ⟨sl [(1, .ptr 0 0), (3, .i k)], τ, ny⟩) (fun a => ps.length - a.1) (0, _, 1) ?_ (Imp.slots (by simp [go_sem]) rfl rfl) ?_
  · exact ⟨Nat.zero_le _, hR, by simp [oput], by omega⟩
  rintro ⟨k, τ, ny⟩ ⟨g1, g2, g3, g4⟩
  refine K_run hB 60 ?_
  simp [go_sem, g3, hYl]
  refine fork_dec (fun hk => ?_) (fun hk => ?_)
  · have hkk : IntKind.i64.wrap ((k : Int) + 1) = ((k + 1 : Nat) : Int) := by rw [w64 ((k : Int) + 1) (by omega)]; rfl
    have hgk : ∀ h : k < Y.length, Y[k]'h = partT ps[k] := fun h => hYg k hk
    have hql := hq ps[k] (List.getElem_mem _)
    rw [List.drop_eq_getElem_cons hk, List.all_cons, fewLay] at g2
    generalize ps[k] = q at *
    have hZl : (q.map layT).length = q.length := List.length_map _
    have hZg : ∀ (k : Nat) (h : k < q.length), (q.map layT)[k]'(by rw [hZl]; exact h) = layT q[k] := fun k h => map_get layT q h _
    have hpt : partT q = [.sl (q.map layT)] := rfl
    generalize q.map layT = Z at *
    by_cases c2 : 12 < (q.length : Int)
    · rw [decide_eq_false (by omega), Bool.false_and, Bool.false_and] at g2
      subst g2
      simp [go_sem, g3, hYl, hk, hgk, hpt, hZl, c2]
    rw [decide_eq_true (by omega), Bool.true_and] at g2
    simp [go_sem, g3, hYl, hk, hgk, hpt, hZl, c2]
    refine K_loopP (α := Nat) (fun i => i ≤ q.length ∧ ((q.drop i).all (fun l => decide (l.length ≤ 60)) && (ps.drop (k + 1)).all fewLay) = R) (fun i => ⟨sl [(1, .ptr 0 0), (3, .i k), (4, .i i)], τ, ny⟩) (fun i => q.length - i) 0 ⟨Nat.zero_le _, g2⟩ (Imp.slots (by simp [go_sem]) rfl rfl) ?_
    rintro i ⟨f1, f2⟩
    refine K_run hB 60 ?_
    simp [go_sem, g3, hYl, hk, hgk, hpt, hZl]
    refine fork_dec (fun hi => ?_) (fun hi => ?_)
    · have hii : IntKind.i64.wrap ((i : Int) + 1) = ((i + 1 : Nat) : Int) := by rw [w64 ((i : Int) + 1) (by omega)]; rfl
      have hgi : ∀ h : i < Z.length, Z[i]'h = layT q[i] := fun h => hZg i hi
      rw [List.drop_eq_getElem_cons hi, List.all_cons] at f2
      generalize q[i] = l at *
      have hll : (l.map Spot.t).length = l.length := List.length_map _
      by_cases c3 : 60 < (l.length : Int)
      · rw [decide_eq_false (by omega), Bool.false_and, Bool.false_and] at f2
        subst f2
        simp [go_sem, g3, hYl, hk, hgk, hpt, hZl, hi, hgi, layT, hll, c3]
      · rw [decide_eq_true (by omega), Bool.true_and] at f2
        simp [go_sem, g3, hYl, hk, hgk, hpt, hZl, hi, hgi, layT, hll, c3, hii]
        exact Next.mk (i + 1) ⟨by omega, f2⟩ (Imp.slots (by simp [go_sem]) rfl rfl) (by omega)
    · have : i = q.length := by omega
      subst this
      rw [List.drop_length, List.all_nil, Bool.true_and] at f2
      simp [go_sem, hkk]
      exact Next.mk (k + 1, τ, ny) ⟨by simp only; omega, f2, g3, g4⟩ (Imp.slots (by simp [go_sem]) rfl rfl) (by simp only; omega)
  · have : k = ps.length := by omega
    subst this
    rw [List.drop_length, List.all_nil] at g2
    subst g2
    simp [go_sem]
end Go.Proofs.Ytlhmchdfmjfmgaa

/- slices.Repeat of one number. -/
set_option maxRecDepth 4000
namespace Go.Proofs.Ytlhmchdfmjfmgaa
open Go Go.Proofs.Ytlhmchdfmjfmgaa.R
theorem and32 {n : Nat} (h : n < 4294967296) : band .u64 n 4294967295 = n := by
  have := bandN (a := n) (b := 4294967295) (by omega) (by decide)
  rw [show ((4294967295 : Nat) : Int) = 4294967295 from rfl] at this
  rw [this, show 4294967295 = 2 ^ 32 - 1 from rfl, Nat.and_two_pow_sub_one_eq_mod, Nat.mod_eq_of_lt h]
theorem mul64_pure (n : Nat) (hn : n < 2 ^ 31) : Pure P 104 [.u 1, .u n] (.tup [.u 0, .u n]) := by
  refine pure_of Try.func104 rfl rfl (by simp [Try.f104]) (by simp [bnd, bnd.bndL]) (by simp [bnd, bnd.bndL]) fun B hB hnx => ?_
  simp only [Try.f104] at hB ⊢
  have e1 : band .u64 1 4294967295 = 1 := and32 (n := 1) (by omega)
  have e2 := and32 (n := n) (by omega)
  have e3 : Int.fdiv 1 4294967296 = 0 := by decide
  have e4 : Int.fdiv (n : Int) 4294967296 = 0 := by rw [Int.fdiv_eq_ediv_of_nonneg _ (by omega)]; omega
  have e5 : band .u64 0 4294967295 = 0 := and32 (n := 0) (by omega)
  have e6 : IntKind.u64.wrap (n : Int) = n := u64 _ (by omega)
  have e7 : IntKind.u64.wrap 0 = 0 := u64 _ (by omega)
  refine K_run hB 100 ?_
  simp [go_sem, e1, e2, e3, e4, e5, e6, e7]
theorem mul_pure (n : Nat) (hn : n < 2 ^ 31) : Pure P 74 [.u 1, .u n] (.tup [.u 0, .u n]) := by
  refine pure_of Try.func74 rfl rfl (by simp [Try.f74]) (by simp [bnd, bnd.bndL]) (by simp [bnd, bnd.bndL]) fun B hB hnx => ?_
  simp only [Try.f74] at hB ⊢
  refine K_run hB 100 ?_
  simp [go_sem]
  refine K_call rfl rfl rfl (args := [.u 1, .u n]) (f := 104) (by simp [go_sem]) (by simp [go_sem, hB]) ((mul64_pure n hn).spec _ _) ?_
  refine K_run hB 100 ?_
  simp [go_sem]
theorem repeat_spec (v : Int) (n : Nat) (h0 : 0 < n) (hn : n < 2 ^ 31) (σ : Nat → AObj) (nx : Nat) : CallSpec P 42 [.fsl [[.i v]], .i n] σ nx (.ref nx) (oput σ nx (.arr 1 (List.replicate n [.i v]))) (nx + 1) := by
  refine CallQ.spec (spec_of Try.func42 rfl rfl (by simp [Try.f42]) fun B hB hnx hσ => K_after ?_)
  simp only [Try.f42] at hB ⊢
  have hmost : n ≤ mostLen := by show n ≤ 4294967296; omega
  have hu : IntKind.u64.wrap (n : Int) = n := u64 _ (by omega)
  have hi : IntKind.i64.wrap (n : Int) = n := w64 _ (by omega)
  have hu1 : IntKind.u64.wrap 1 = 1 := u64 _ (by omega)
  have hneg : ¬ (n : Int) < 0 := by omega
  refine K_run hB 100 ?_
  simp [go_sem, hneg, hu, hi, hu1]
  refine K_call rfl rfl rfl (args := [.u 1, .u n]) (f := 74) (by simp [go_sem, hneg, hu, hi, hu1]) (by simp [go_sem, hB]) ((mul_pure n hn).spec _ _) ?_
  have hbig : ¬ 9223372036854775807 < (n : Int) := by omega
  refine K_run hB 100 ?_
  simp [go_sem, hneg, hu, hi, hu1, hbig, hmost]
  refine K_copyT rfl rfl rfl rfl rfl (by simp [go_sem, hB]) tt50 rfl tt3 rfl (q := nx) (es := List.replicate n [.i 0]) (ys := [[.i v]]) (by simp [go_sem]) (by simp [go_sem]) (by simp [go_sem]) (by simp) (by simp) (by simp; omega) ?_
  have hrow : [[T.i v]] ++ (List.replicate n [T.i 0]).drop 1 = List.replicate 1 [T.i v] ++ List.replicate (n - 1) [T.i 0] := by simp
  refine K_run hB 100 ?_
  simp [go_sem]
  refine K_loopP (α := Nat) (fun j => 1 ≤ j ∧ j ≤ n) (fun j => ⟨sl [(7, .ref nx), (8, .i j)], oput σ nx (.arr 1 (List.replicate j [.i v] ++ List.replicate (n - j) [.i 0])), nx + 1⟩) (fun j => n - j) 1 ⟨Nat.le_refl _, h0⟩ (Imp.slots (by simp [go_sem]) ?_ rfl) ?_
  · have hoo : ∀ (o o' : AObj), oput (oput σ nx o) nx o' = oput σ nx o' := fun o o' => funext fun i => by simp only [oput]; split <;> rfl
    rw [← hrow, hoo]
    simp
  rintro j ⟨g1, g2⟩
  have hlen : (List.replicate j [T.i v] ++ List.replicate (n - j) [T.i 0]).length = n := by simp; omega
  refine K_run hB 60 ?_
  simp [go_sem, hlen]
  refine fork_dec (fun hj => ?_) (fun hj => ?_)
  · have hj : j < n := by omega
    refine K_run hB 60 ?_
    simp [go_sem]
    refine K_drawnF [7] [0] rfl (by rw [hB]; kernel_rfl) (by kernel_rfl) fun ht hf' => ?_
    refine K_run hB 60 ?_
    simp [go_sem, ht, hf']
    refine K_dLook (v := .cut nx 1 j (List.replicate j [T.i v] ++ List.replicate (n - j) [T.i 0]).length) (fun ho => ?_) (by simp [ht]) ?_
    · exact does_cutFrom (P := P) (n := B.n) (es := (List.replicate j [T.i v] ++ List.replicate (n - j) [T.i 0])) ho (by simp [go_sem]) rfl tt50 rfl tt3 (q := nx) (by simp [go_sem]) (by simp [go_sem]) (ik := .i64) (lo := j) (by simp [go_sem]) (by rw [hlen]; exact hj)
    refine K_run hB 60 ?_
    simp [go_sem, ht, hf']
    refine K_dLook (v := .cut nx 1 0 j) (fun ho => ?_) (by simp [ht]) ?_
    · exact does_cutTo (P := P) (n := B.n) (es := List.replicate j [.i v] ++ List.replicate (n - j) [.i 0]) ho (by simp [go_sem]) rfl tt50 rfl tt3 (q := nx) (by simp [go_sem]) (by simp [go_sem]) (ik := .i64) (up := j) (by simp [go_sem]) (by rw [hlen]; omega) (by rw [hlen]; omega)
    obtain ⟨k, hk⟩ : ∃ k, k = Nat.min j (n - j) := ⟨_, rfl⟩
    have hk1 : k ≤ j ∧ k ≤ n - j ∧ 1 ≤ k := by rw [hk]; refine ⟨Nat.min_le_left _ _, Nat.min_le_right _ _, Nat.le_min.2 ⟨g1, by omega⟩⟩
    simp only [hlen]
    refine K_dTold (v := .i k) (σ' := oput (oput σ nx (.arr 1 (List.replicate j [T.i v] ++ List.replicate (n - j) [T.i 0]))) nx (.arr 1 ((List.replicate j [T.i v] ++ List.replicate (n - j) [T.i 0]).take j ++ ((List.replicate j [T.i v] ++ List.replicate (n - j) [T.i 0]).take k ++ (List.replicate j [T.i v] ++ List.replicate (n - j) [T.i 0]).drop (j + k))))) (nx' := nx + 1) (fun ho => ?_) (by simp) (by simp) ?_
    · exact does_copyPart (P := P) (n := B.n) ho (by simp [go_sem]) rfl rfl rfl rfl tt50 rfl tt3 rfl (q := nx) (lo := j) (up := j) (by simp [go_sem] <;> omega) (by simp [go_sem]) (by simp [go_sem]) (by rw [hlen]; omega) (by rw [hlen]; exact hk) (by rw [hlen]; omega)
    have hw : IntKind.i64.wrap ((j : Int) + (k : Int)) = ((j + k : Nat) : Int) := by rw [w64 _ (by omega)]; omega
    have hrow : (List.replicate j [T.i v] ++ List.replicate (n - j) [T.i 0]).take j ++ ((List.replicate j [T.i v] ++ List.replicate (n - j) [T.i 0]).take k ++ (List.replicate j [T.i v] ++ List.replicate (n - j) [T.i 0]).drop (j + k)) = List.replicate (j + k) [T.i v] ++ List.replicate (n - (j + k)) [T.i 0] := by
      rw [List.take_left' (by simp), List.take_append_of_le_length (by simp; omega), List.take_replicate, show min k j = k by omega, ← List.drop_drop, List.drop_left' (by simp), List.drop_replicate, ← List.append_assoc, List.replicate_append_replicate, Nat.sub_sub]
    rw [hrow]
    have hoo : ∀ (o o' : AObj), oput (oput σ nx o) nx o' = oput σ nx o' := fun o o' => funext fun i => by simp only [oput]; split <;> rfl
    rw [hoo]
    refine K_run hB 60 ?_
    simp [go_sem, ht, hf', hw]
    refine Next.mk (j + k) ⟨by omega, by omega⟩ (Imp.slots (by simp [go_sem]) rfl rfl) (by omega)
  · have hj : j = n := by omega
    subst hj
    simp [go_sem]
    refine ⟨_, Imp.self, ?_⟩
    simp [go_sem]
end Go.Proofs.Ytlhmchdfmjfmgaa

/- Proofs: proof.Check. -/
set_option maxRecDepth 4000
set_option maxHeartbeats 1000000
namespace Go.Proofs.Ytlhmchdfmjfmgaa
open Go Go.Proofs.Ytlhmchdfmjfmgaa.R
def resP : Option (List Int) → Int
  | none => 10
  | some _ => 0
theorem partsGo_cons {x : Inst} {p : Prf} {k : Nat} {q : List (List Spot)} {ps : List (List (List Spot))} {dl : List Int} (h : dl.getD k 0 ≠ infI) : x.partsGo p k (q :: ps) dl = (x.partGo p k 0 q dl).bind (x.partsGo p (k + 1) ps) := by
  rw [Inst.partsGo, if_neg h]
  cases x.partGo p k 0 q dl <;> rfl
theorem partGo_cons {x : Inst} {p : Prf} {k i : Nat} {l : List Spot} {q : List (List Spot)} {dl : List Int} : x.partGo p k i (l :: q) dl = (x.layGo p k i l dl).bind (x.partGo p k (i + 1) q) := by
  rw [Inst.partGo]
  cases x.layGo p k i l dl <;> rfl
structure Prf.Fine (p : Prf) : Prop where
  len : p.parts.length < 2 ^ 31
  parts : ∀ q ∈ p.parts, q.length < 2 ^ 30
  lays : ∀ q ∈ p.parts, ∀ l ∈ q, l.length < 2 ^ 31
  ok : ∀ q ∈ p.parts, ∀ l ∈ q, ∀ n ∈ l, n.s.ok
theorem first_of {x : Inst} {p : Prf} (hw : ∀ q ∈ p.parts, x.wholeB p q = true) {j : Nat} (hj : j < p.parts.length) : ∃ f, p.first j = some f := by
  have h := hw p.parts[j] (List.getElem_mem _)
  rw [Prf.first, List.getElem?_eq_getElem hj]
  generalize p.parts[j] = q at *
  unfold Inst.wholeB at h
  split at h
  · cases h
  · rename_i l q0
    simp only [Bool.and_eq_true, decide_eq_true_eq] at h
    cases l with
    | nil => simp at h
    | cons n l => exact ⟨n, rfl⟩
theorem check_pure (x : Inst) (p : Prf) (hl : x.stops.length < 2 ^ 31) (hp : p.Fine) : Pure P 16 [x.a, p.a] (.i (x.checkE p)) := by
  generalize hR : x.checkE p = R
  refine pure_of Try.func16 rfl rfl (by simp [Try.f16]) (by simp [bnd, bnd.bndL, Inst.a, Prf.a, Prf.cs]) (by simp [bnd, bnd.bndL]) fun B hB hnx => ?_
  simp only [Try.f16] at hB ⊢
  have hplen := hp.len
  rw [Inst.checkE] at hR
  refine K_run hB 100 ?_
  simp [go_sem, Inst.a, Prf.a, Prf.cs]
  refine K_scopeN (α := Unit) 0 (fun _ => False) (fun _ => ⟨sl [], noObj, 0⟩) (fun _ => 0) rfl (fun _ h => h.elim) ?_
  intro J hJ
  refine K_run hB 100 ?_
  simp [go_sem]
  refine K_call rfl rfl rfl (args := [x.a]) (f := 28) (by simp [go_sem, Inst.a]) (by simp [go_sem, hB]) ((may_pure x (by omega)).spec _ _) ?_
  cases hmay : x.may with
  | false =>
    rw [if_neg (by simp [Inst.mayP, hmay])] at hR
    subst hR
    refine K_run hB 100 ?_
    simp [go_sem]
  | true =>
    have hYl : (p.parts.map partT).length = p.parts.length := List.length_map _
    have hYg : ∀ (k : Nat) (h : k < p.parts.length), (p.parts.map partT)[k]'(by rw [hYl]; exact h) = partT p.parts[k] := fun k h => map_get partT p.parts h _
    by_cases c1 : p.least < 0
    · rw [if_neg (by simp [Inst.mayP]; omega)] at hR
      subst hR
      refine K_run hB 100 ?_
      simp [go_sem, c1]
    by_cases c2 : infI < p.least
    · rw [if_neg (by simp [Inst.mayP]; omega)] at hR
      subst hR
      have c2' : 1152921504606846976 < p.least := c2
      refine K_run hB 100 ?_
      simp [go_sem, c1, c2']
    have c2' : ¬ 1152921504606846976 < p.least := c2
    by_cases c3 : p.parts = []
    · rw [if_neg (by simp [Inst.mayP, c3])] at hR
      subst hR
      refine K_run hB 100 ?_
      simp [go_sem, c1, c2', c3]
    have hpos : 0 < p.parts.length := List.length_pos_iff.2 c3
    have c3' : ¬ p.parts.length = 0 := by omega
    obtain ⟨pp, hx⟩ := x.fit hmay
    have hxp := hx.pairs
    have hxf := hx.few
    have hcont := fun (τ : Nat → AObj) (h1 : τ 2 = .box (ckC x p (.fsl []))) (h2 : τ 3 = .box [.ptr 2 0]) => containsPart_spec p.parts (fun q => !x.wholeB p q) (σ := τ) (nx := 4) (f := 39) (caps := [.ptr 3 0]) hplen fun q hq => check1_spec x p q (.fsl []) (by omega) (by have := hp.parts q hq; omega) (hp.lays q hq) (by omega) h1 (by omega) h2
    refine K_run hB 100 ?_
    simp [go_sem, c1, c2', c3, hYl, c3']
    refine K_call rfl rfl rfl (args := [.t (.sl (p.parts.map partT)), .fn (.func 39) [] [.ptr 3 0]]) (f := 41) (by simp [go_sem]) (by simp [go_sem, hB]) (hcont _ (by simp [oput, ckC, Inst.cs]) (by simp [oput])) ?_
    cases c4 : p.parts.any fun q => !x.wholeB p q with
    | true =>
      have : p.parts.all (x.wholeB p) = false := by
        rw [List.any_eq_true] at c4
        obtain ⟨q, h1, h2⟩ := c4
        rw [List.all_eq_false]
        exact ⟨q, h1, by simpa using h2⟩
      rw [if_neg (by simp [Inst.mayP, this])] at hR
      subst hR
      refine K_run hB 100 ?_
      simp [go_sem]
    | false =>
      have hw : ∀ q ∈ p.parts, x.wholeB p q = true := by
        rw [List.any_eq_false] at c4
        intro q hq
        have := c4 q hq
        simpa using this
      have hmp : x.mayP p = true := by
        simp only [Inst.mayP, Bool.and_eq_true, decide_eq_true_eq]
        exact ⟨hmay, by omega, by omega, c3, List.all_eq_true.2 hw⟩
      rw [if_pos hmp] at hR
      obtain ⟨f, hf⟩ := first_of hw hpos
      rw [hf] at hR
      simp only at hR
      obtain ⟨hj0, l0, q0, hp0⟩ := first_some hf
      have hY0 : ∀ h : 0 < (p.parts.map partT).length, (p.parts.map partT)[0]'h = [.sl ([.sl (f.t :: l0.map Spot.t)] :: q0.map layT)] := fun h => by rw [List.getElem_map, hp0]; rfl
      generalize hY : p.parts.map partT = Y at *
      have hck : ∀ D, ckC x p D = [.t (.i x.pairs), .t (.i x.cars), .t (.i x.room), .t (.sl (x.stops.map Stop.t)), .i p.least, .t (.sl Y), D] := fun D => by rw [ckC, hY]
      have hr := root_pureS x (by omega)
      refine K_run hB 100 ?_
      simp [go_sem, hYl, hpos, hY0, Spot.t]
      refine K_drawn [] rfl (by rw [hB]; kernel_rfl) ?_
      refine K_run hB 100 ?_
      simp [go_sem]
      refine K_dCallP rfl rfl rfl (args := [x.a]) (f := 38) (by simp [go_sem, Inst.a]) (hr) ?_
      generalize x.rootS = rt at *
      refine K_dEq (op := .neq) (t := 39) (t' := 39) (x := .tmp 55) (y := .tmp 57) (xs := f.s.cs) (ys := rt.cs) (by simp [go_sem]) rfl (by simp [go_sem, State.cs]) (by simp [go_sem, State.a, State.cs]) state_guard (state_eq f.s rt) rfl ?_
      by_cases c5 : f.s = rt
      rotate_left
      · rw [if_neg (fun h => c5 h.1)] at hR
        subst hR
        refine K_run hB 100 ?_
        simp [go_sem, c5]
      by_cases c6 : f.cost = 0
      rotate_left
      · rw [if_neg (fun h => c6 h.2)] at hR
        subst hR
        refine K_run hB 100 ?_
        simp [go_sem, c5, c6]
      rw [if_pos ⟨c5, c6⟩] at hR
      refine K_run hB 100 ?_
      simp [go_sem, c5, c6]
      refine K_drawnF [5, 8] [0] rfl (by rw [hB]; kernel_rfl) (by kernel_rfl) fun ht hf' => ?_
      refine K_run hB 100 ?_
      simp [go_sem, ht, hf', hYl]
      refine K_dCall rfl rfl rfl (args := [.fsl [[.i 1152921504606846976]], .i p.parts.length]) (f := 42) (by simp [go_sem]) (repeat_spec 1152921504606846976 p.parts.length hpos hplen _ _) (by decide) (okPends_does (by simp [go_sem])) ?_
      refine K_run hB 100 ?_
      simp [go_sem, ht, hf', hpos, hYl]
      have hR' : resP (x.partsGo p 0 (p.parts.drop 0) ((List.replicate p.parts.length infI).set 0 0)) = R := by
        rw [← hR, List.drop_zero]
        cases x.partsGo p 0 p.parts ((List.replicate p.parts.length infI).set 0 0) <;> rfl
      have hdl0 : ((List.replicate p.parts.length infI).set 0 0).length = p.parts.length := by rw [List.length_set, List.length_replicate]
      have hlead : ∀ q ∈ p.parts, ∀ l ∈ q, ∀ n ∈ l, 0 ≤ n.part ∧ n.part ≤ p.parts.length ∧ (0 < n.part → ∃ j f, n.part = ((j : Nat) : Int) + 1 ∧ p.first j = some f) := fun q hq l hl' n hn => by
        obtain ⟨_, _, b1, b2⟩ := spot_pos (whole_spot (hw q hq) hl' hn)
        refine ⟨b1, b2, fun h0 => ?_⟩
        obtain ⟨j, hj⟩ : ∃ j : Nat, n.part = (j : Int) + 1 := ⟨(n.part - 1).toNat, by omega⟩
        obtain ⟨f, hf⟩ := first_of hw (j := j) (by omega)
        exact ⟨j, f, hj, hf⟩
      have hhold := fun (τ : Nat → AObj) (ny : Nat) (k i : Nat) (q : List (List Spot)) (n : Spot) (dl : List Int) (h1 : p.parts[k]? = some q) (h2 : i < 2 ^ 31) (h3 : k < dl.length) (h4 : 0 < n.part → ∃ j f, n.part = ((j : Nat) : Int) + 1 ∧ p.first j = some f) (h5 : n.s.ok) (h6 : 5 < ny) (h7 : τ 2 = .box (ckC x p (.ref 5))) (h8 : τ 5 = .arr 1 (ints dl)) => holds_spec x p n k i 5 dl q hl h5 hplen h1 (by have := hp.parts q (List.mem_of_getElem? h1); omega) (hp.lays q (List.mem_of_getElem? h1)) h2 h3 h4 (σ := τ) (nx := ny) (c := 2) (by omega) h7 (by omega) h8
      have hparts := hp.parts
      have hlays := hp.lays
      have hoks := hp.ok
      have hck5 := hck (.ref 5)
      clear hcont hR hY0 hr hp
      generalize hps : p.parts = ps at *
      refine K_loopP (α := Nat × List Int × (Nat → AObj) × Nat) (fun (k, dl, τ, ny) => k ≤ ps.length ∧ dl.length = ps.length ∧ resP (x.partsGo p k (ps.drop k) dl) = R ∧ τ 2 = .box (ckC x p (.ref 5)) ∧ τ 3 = .box [.ptr 2 0] ∧ τ 5 = .arr 1 (ints dl) ∧ 5 < ny)
        (fun (k, dl, τ, ny) => ⟨sl [(5, .ptr 3 0), (78, .t (.sl Y)), (79, .i ps.length), (80, .i k)], τ, ny⟩) (fun a => ps.length - a.1) (0, (List.replicate ps.length infI).set 0 0, _, 6) ?_ (Imp.slots (by simp [go_sem]) rfl rfl) ?_
      · refine ⟨Nat.zero_le _, hdl0, hR', ?_, ?_, ?_, ?_⟩
        · simp [oput, hck5]
        · simp [oput]
        · simp [oput, ints, List.map_set, infI]
        · simp
      rintro ⟨k, dl, τ, ny⟩ ⟨g1, g2, g3, g4, g5, g6, g7⟩
      refine K_run hB 60 ?_
      simp [go_sem]
      refine fork_dec (fun hk => ?_) (fun hk => ?_)
      · have hkk : IntKind.i64.wrap ((k : Int) + 1) = ((k + 1 : Nat) : Int) := by rw [w64 ((k : Int) + 1) (by omega)]; rfl
        have hgk : ∀ h : k < Y.length, Y[k]'h = partT ps[k] := fun h => hYg k hk
        have hqk : ps[k]? = some ps[k] := List.getElem?_eq_getElem hk
        have hqm : ps[k] ∈ ps := List.getElem_mem _
        have hql := hparts _ hqm
        have hdl : (ints dl).length = dl.length := List.length_map _
        have hdg : ∀ h : k < (ints dl).length, (ints dl)[k]'h = [.i dl[k]] := fun h => ints_getS _ (by omega)
        have hgd : dl.getD k 0 = dl[k] := by rw [List.getD_eq_getElem?_getD, List.getElem?_eq_getElem (by omega)]; rfl
        have hdk : k < dl.length := by omega
        rw [List.drop_eq_getElem_cons hk] at g3
        have hlq := fun l (hl' : l ∈ ps[k]) n hn => hlead _ hqm l hl' n hn
        have hoq := hoks _ hqm
        generalize ps[k] = q at *
        have hpt : partT q = [.sl (q.map layT)] := rfl
        have n2 : ¬ 2 = ny := by omega
        have n3 : ¬ 3 = ny := by omega
        have n5 : ¬ 5 = ny := by omega
        by_cases d1 : dl[k] = infI
        · rw [Inst.partsGo, hgd, if_pos d1] at g3
          have d1' : dl[k] = 1152921504606846976 := d1
          simp [go_sem, hYl, hk, hgk, hpt, g4, g5, g6, n2, n3, n5, hck5, hdl, hdk, hdg, Nat.mod_one, d1', hkk]
          refine Next.mk (k + 1, dl, _, ny + 1) ?_ (Imp.slots (by simp [go_sem]) rfl rfl) (by simp only; omega)
          exact ⟨by simp only; omega, g2, g3, by simp [oput, n2, g4, hck5], by simp [oput, n3, g5], by simp [oput, n5, g6], by simp only; omega⟩
        · rw [partsGo_cons (by rw [hgd]; exact d1)] at g3
          have d1' : ¬ dl[k] = 1152921504606846976 := d1
          simp [go_sem, hYl, hk, hgk, hpt, g4, g5, g6, n2, n3, n5, hck5, hdl, hdk, hdg, Nat.mod_one, d1']
          generalize hG : x.partsGo p (k + 1) (ps.drop (k + 1)) = G at *
          have hZl : (q.map layT).length = q.length := List.length_map _
          have hZg : ∀ (k : Nat) (h : k < q.length), (q.map layT)[k]'(by rw [hZl]; exact h) = layT q[k] := fun k h => map_get layT q h _
          have hlq2 := hlays _ hqm
          generalize q.map layT = Z at *
          refine K_loopP (α := Nat × List Int × (Nat → AObj) × Nat) (fun (i, d, τ, ny) => i ≤ q.length ∧ d.length = ps.length ∧ resP ((x.partGo p k i (q.drop i) d).bind G) = R ∧ τ 2 = .box (ckC x p (.ref 5)) ∧ τ 3 = .box [.ptr 2 0] ∧ τ 5 = .arr 1 (ints d) ∧ 5 < ny)
            (fun (i, d, τ, ny) => ⟨sl [(5, .ptr 3 0), (8, .i k), (78, .t (.sl Y)), (79, .i ps.length), (80, .i k), (94, .t (.sl Z)), (95, .i q.length), (96, .i i)], τ, ny⟩) (fun a => q.length - a.1) (0, dl, _, ny + 1) ?_ (Imp.slots (by simp [go_sem, hZl]) rfl rfl) ?_
          · exact ⟨Nat.zero_le _, g2, g3, by simp [oput, n2, g4, hck5], by simp [oput, n3, g5], by simp [oput, n5, g6], by omega⟩
          clear g2 g3 g4 g5 g6 g7 n2 n3 n5 hdl hdg hgd hdk d1 d1'
          rintro ⟨i, d, τ, ny⟩ ⟨g1, g2, g3, g4, g5, g6, g7⟩
          refine K_run hB 60 ?_
          simp [go_sem]
          refine fork_dec (fun hi => ?_) (fun hi => ?_)
          · have hii : IntKind.i64.wrap ((i : Int) + 1) = ((i + 1 : Nat) : Int) := by rw [w64 ((i : Int) + 1) (by omega)]; rfl
            have hgi : ∀ h : i < Z.length, Z[i]'h = layT q[i] := fun h => hZg i hi
            rw [List.drop_eq_getElem_cons hi, partGo_cons, Option.bind_assoc] at g3
            have hln := fun n (hn : n ∈ q[i]) => hlq _ (List.getElem_mem hi) n hn
            have hon := hoq _ (List.getElem_mem hi)
            have hll := hlq2 _ (List.getElem_mem hi)
            generalize q[i] = l at *
            generalize hG2 : (fun d => (x.partGo p k (i + 1) (q.drop (i + 1)) d).bind G) = G2 at *
            have hly : layT l = [.sl (l.map Spot.t)] := rfl
            have hVl : (l.map Spot.t).length = l.length := List.length_map _
            have hVg : ∀ (k : Nat) (h : k < l.length), (l.map Spot.t)[k]'(by rw [hVl]; exact h) = l[k].t := fun k h => map_get Spot.t l h _
            simp [go_sem, hZl, hi, hgi, hly]
            refine K_loopP (α := Nat × List Int × (Nat → AObj) × Nat) (fun (j, d, τ, ny) => j ≤ l.length ∧ d.length = ps.length ∧ resP ((x.layGo p k i (l.drop j) d).bind G2) = R ∧ τ 2 = .box (ckC x p (.ref 5)) ∧ τ 3 = .box [.ptr 2 0] ∧ τ 5 = .arr 1 (ints d) ∧ 5 < ny)
              (fun (j, d, τ, ny) => ⟨sl [(5, .ptr 3 0), (8, .i k), (10, .i i), (78, .t (.sl Y)), (79, .i ps.length), (80, .i k), (94, .t (.sl Z)), (95, .i q.length), (96, .i i), (101, .t (.sl (l.map Spot.t))), (102, .i l.length), (103, .i j)], τ, ny⟩) (fun a => l.length - a.1) (0, d, τ, ny) ?_ (Imp.slots (by simp [go_sem, hVl]) rfl rfl) ?_
            · exact ⟨Nat.zero_le _, g2, g3, g4, g5, g6, g7⟩
            clear g2 g3 g4 g5 g6 g7
            rintro ⟨j, d, τ, ny⟩ ⟨g1, g2, g3, g4, g5, g6, g7⟩
            refine K_run hB 60 ?_
            simp [go_sem]
            refine fork_dec (fun hj => ?_) (fun hj => ?_)
            · have hjj : IntKind.i64.wrap ((j : Int) + 1) = ((j + 1 : Nat) : Int) := by rw [w64 ((j : Int) + 1) (by omega)]; rfl
              have hgj : ∀ h : j < (l.map Spot.t).length, (l.map Spot.t)[j]'h = l[j].t := fun h => hVg j hj
              have hgd : d.getD k 0 = d[k] := by rw [List.getD_eq_getElem?_getD, List.getElem?_eq_getElem (by omega)]; rfl
              rw [List.drop_eq_getElem_cons hj, Inst.layGo, hgd] at g3
              obtain ⟨hn0, hn1, hn2⟩ := hln _ (List.getElem_mem hj)
              have hn3 := hon _ (List.getElem_mem hj)
              generalize l[j] = n at *
              have n2 : ¬ 2 = ny := by omega
              have n3 : ¬ 3 = ny := by omega
              have n5 : ¬ 5 = ny := by omega
              have hh := fun τ' h1 h2 => hhold τ' (ny + 1) k i q n d hqk (by omega) (by omega) hn2 hn3 (by omega) h1 h2
              simp [go_sem, hVl, hj, hgj, Spot.t, g5, n3]
              refine K_call rfl rfl rfl (args := [.ptr 2 0, .i k, .i i, n.a]) (f := 43) (by simp [go_sem, Spot.a, Spot.cs]) (by simp [go_sem, hB]) (hh _ (by simp [oput, n2, g4]) (by simp [oput, n5, g6])) ?_
              cases hhb : x.holdsB p k i n d[k] with
              | false =>
                rw [hhb, if_neg (by simp)] at g3
                subst g3
                refine K_run hB 100 ?_
                simp [go_sem]
                rfl
              | true =>
                rw [hhb, if_pos rfl] at g3
                have hw1 : IntKind.i64.wrap (n.part - 1) = n.part - 1 := w64 _ (by omega)
                by_cases e1 : (k : Int) < n.part - 1
                · obtain ⟨o, ho⟩ : ∃ o : Nat, n.part - 1 = (o : Int) := ⟨(n.part - 1).toNat, by omega⟩
                  have hst : stepD k i n d = d.set o (min (d.getD o 0) (IntKind.i64.wrap (d.getD k 0 + i))) := by
                    rw [stepD, if_pos e1, show (n.part - 1).toNat = o by omega]
                  have hod : o < d.length := by omega
                  have hgo : d.getD o 0 = d[o] := by rw [List.getD_eq_getElem?_getD, List.getElem?_eq_getElem hod]; rfl
                  rw [hst, hgo, hgd] at g3
                  have hdl : (ints d).length = d.length := List.length_map _
                  have hdk : k < d.length := by omega
                  have hdg : ∀ h : k < (ints d).length, (ints d)[k]'h = [.i d[k]] := fun h => ints_getS _ hdk
                  have hdo : ∀ h : o < (ints d).length, (ints d)[o]'h = [.i d[o]] := fun h => ints_getS _ hod
                  have e1' : k < o := by omega
                  rw [ho] at hw1
                  generalize d[k] = dk at *
                  generalize d[o] = dO at *
                  refine K_run hB 100 ?_
                  simp [go_sem, ho, hw1, e1']
                  refine K_drawnT [23] rfl (by rw [hB]; kernel_rfl) (by kernel_rfl) fun ht => ?_
                  refine K_run hB 100 ?_
                  simp [go_sem, ht, n2, n3, n5, g4, g5, g6, hck5, hdl, hdk, hod, hdg, hdo, Nat.mod_one, hjj]
                  refine Next.mk (j + 1, d.set o (min dO (IntKind.i64.wrap (dk + i))), _, ny + 1) ?_ (Imp.slots (by simp [go_sem]) rfl rfl) (by simp only; omega)
                  exact ⟨by simp only; omega, by simp only [List.length_set]; exact g2, g3, by simp [oput, n2, g4, hck5], by simp [oput, n3, g5], by simp [oput, n5, g6, ints, List.map_set], by simp only; omega⟩
                · have hst : stepD k i n d = d := by rw [stepD, if_neg e1]
                  rw [hst] at g3
                  refine K_run hB 100 ?_
                  simp [go_sem, hw1, e1, hjj]
                  refine Next.mk (j + 1, d, _, ny + 1) ?_ (Imp.slots (by simp [go_sem]) rfl rfl) (by simp only; omega)
                  exact ⟨by simp only; omega, g2, g3, by simp [oput, n2, g4], by simp [oput, n3, g5], by simp [oput, n5, g6], by simp only; omega⟩
            · have : j = l.length := by omega
              subst this
              rw [List.drop_length, Inst.layGo, Option.bind_some, ← hG2] at g3
              simp [go_sem, hii]
              refine Next.mk (i + 1, d, τ, ny) ?_ (Imp.slots (by simp [go_sem]) rfl rfl) (by simp only; omega)
              exact ⟨by simp only; omega, g2, g3, g4, g5, g6, g7⟩
          · have : i = q.length := by omega
            subst this
            rw [List.drop_length, Inst.partGo, Option.bind_some, ← hG] at g3
            simp [go_sem, hkk]
            refine Next.mk (k + 1, d, τ, ny) ?_ (Imp.slots (by simp [go_sem]) rfl rfl) (by simp only; omega)
            exact ⟨by simp only; omega, g2, g3, g4.trans (by rw [hck5]), g5, g6, g7⟩
      · have : k = ps.length := by omega
        subst this
        rw [List.drop_length, Inst.partsGo, resP] at g3
        subst g3
        simp [go_sem]
end Go.Proofs.Ytlhmchdfmjfmgaa

/- Proofs: the laws are awake. -/
set_option maxRecDepth 4000
set_option maxHeartbeats 1000000
namespace Go.Proofs.Ytlhmchdfmjfmgaa
open Go Go.Proofs.Ytlhmchdfmjfmgaa.R
/-- The proof that is made of nothing. -/
def Inst.rootP (x : Inst) (m : Int) : Prf := ⟨m, [[[⟨x.rootS, 0, 0⟩]]]⟩
theorem make_pure (x : Inst) (hl : x.stops.length < 2 ^ 31) : Pure P 37 [x.a, .agg [.i 4, .t (.sl []), .i 1152921504606846976, .i 0, .i 0, .t (.sl [])]] ((x.rootP 0).a) := by
  refine pure_of Try.func37 rfl rfl (by simp [Try.f37]) (by simp [bnd, bnd.bndL, Inst.a]) (by simp [bnd, bnd.bndL, Prf.a, Prf.cs]) fun B hB hnx => ?_
  simp only [Try.f37] at hB ⊢
  have hr := root_pureS x (by omega)
  rw [Inst.rootP]
  generalize x.rootS = r at *
  refine K_run hB 100 ?_
  simp [go_sem, Inst.a]
  refine K_loopP (α := Unit) (fun _ => True) (fun _ => ⟨sl [(2, .ptr 0 0), (3, .ptr 1 0), (4, .ptr 2 0), (6, .ptr 4 0), (17, .i 0), (18, .i 0)], _, _⟩) (fun _ => 0) () trivial (Imp.slots (by simp [go_sem]) rfl rfl) ?_
  intro _ _
  refine K_run hB 60 ?_
  simp [go_sem]
  refine K_call rfl rfl rfl (args := [x.a]) (f := 38) (by simp [go_sem, Inst.a]) (by simp [go_sem, hB]) ((hr).spec _ _) ?_
  refine K_run hB 100 ?_
  simp [go_sem, State.a, State.cs]
  rfl
theorem small_check : small.checkE (small.rootP 0) = 0 ∧ small.checkE ((small.rootP 0).less 13) = 10 := by decide +kernel
theorem awake20_pure : Pure P 14 [] (.b true) := by
  refine pure_of Try.func14 rfl rfl (by simp [Try.f14]) (by simp [bnd, bnd.bndL]) (by simp [bnd, bnd.bndL]) fun B hB hnx => ?_
  simp only [Try.f14] at hB ⊢
  refine K_run hB 100 ?_
  simp [go_sem]
  refine K_call rfl rfl rfl (args := []) (f := 36) (by simp [go_sem]) (by simp [go_sem, hB]) ((small_pure).spec _ _) ?_
  have hp := parse_pure smallB (by decide) (by decide)
  rw [small_parse] at hp
  refine K_run hB 100 ?_
  simp [go_sem, small_bytes]
  refine K_call rfl rfl rfl (args := [.t (.sl (byt smallB))]) (f := 35) (by simp [go_sem]) (by simp [go_sem, hB]) ((hp).spec _ _) ?_
  have hl : small.stops.length < 2 ^ 31 := by decide
  have hr := root_pureS small (by omega)
  have hmk := make_pure small hl
  have hfine : ∀ m, ((small.rootP 0).less m).Fine := fun m => ⟨by simp [Prf.less, Inst.rootP], by simp [Prf.less, Inst.rootP], by simp [Prf.less, Inst.rootP], by simp [Prf.less, Inst.rootP]; exact rootS_ok small⟩
  have h1 := check_pure small ((small.rootP 0).less 0) hl (hfine 0)
  have h2 := check_pure small ((small.rootP 0).less 13) hl (hfine 13)
  have e1 : small.checkE ((small.rootP 0).less 0) = 0 := small_check.1
  rw [e1] at h1
  rw [small_check.2] at h2
  have hpa : (small.rootP 0).a = .agg [.i 0, .t (.sl ([[[(⟨small.rootS, 0, 0⟩ : Spot)]]].map partT))] := rfl
  have hpb : ∀ m, ((small.rootP 0).less m).a = .agg [.i m, .t (.sl ([[[(⟨small.rootS, 0, 0⟩ : Spot)]]].map partT))] := fun m => rfl
  have hpt : ([[[(⟨small.rootS, 0, 0⟩ : Spot)]]].map partT) = [[.sl [[.sl [(⟨small.rootS, 0, 0⟩ : Spot).t]]]]] := rfl
  rw [hpt] at hpa hpb
  rw [hpa] at hmk
  rw [hpb] at h1 h2
  generalize small.rootS = r at *
  generalize small = x at *
  refine K_run hB 100 ?_
  simp [go_sem, Inst.a]
  refine K_call rfl rfl rfl (args := [x.a, .agg [.i 4, .fsl [], .i 1152921504606846976, .i 0, .i 0, .fsl []]]) (f := 37) (by simp [go_sem, Inst.a]) (by simp [go_sem, hB]) ((Pure.loose hmk (by simp [bnd, bnd.bndL, Inst.a])).spec _ _) ?_
  refine K_run hB 100 ?_
  simp [go_sem]
  refine K_call rfl rfl rfl (args := [x.a, .agg [.i 0, .t (.sl [[.sl [[.sl [(⟨r, 0, 0⟩ : Spot).t]]]]])]]) (f := 16) (by simp [go_sem, Inst.a]) (by simp [go_sem, hB]) ((h1).spec _ _) ?_
  refine K_run hB 100 ?_
  simp [go_sem]
  refine K_call rfl rfl rfl (args := [x.a, .agg [.i 13, .t (.sl [[.sl [[.sl [(⟨r, 0, 0⟩ : Spot).t]]]]])]]) (f := 16) (by simp [go_sem, Inst.a]) (by simp [go_sem, hB]) ((h2).spec _ _) ?_
  refine K_run hB 100 ?_
  simp [go_sem]
  refine K_drawn [] rfl (by rw [hB]; kernel_rfl) ?_
  refine K_run hB 100 ?_
  simp [go_sem, Spot.t]
  refine K_dCallP rfl rfl rfl (args := [x.a]) (f := 38) (by simp [go_sem, Inst.a]) (hr) ?_
  refine K_dEq (op := .eql) (t := 39) (t' := 39) (x := .tmp 53) (y := .tmp 55) (xs := r.cs) (ys := r.cs) (by simp [go_sem]) rfl (by simp [go_sem, State.cs]) (by simp [go_sem, State.a, State.cs]) state_guard (state_eq r r) rfl ?_
  refine K_run hB 100 ?_
  simp [go_sem]
end Go.Proofs.Ytlhmchdfmjfmgaa

/- The least cost of all ways, looked at alone. -/
set_option maxRecDepth 4000
namespace Go.Proofs.Ytlhmchdfmjfmgaa
open Go Go.Proofs.Ytlhmchdfmjfmgaa.R
def Inst.everyB (x : Inst) (s : State) : Int := if (x.endS s).2 = true then (x.endS s).1 else inf
def Inst.everyF (x : Inst) (f : State → Int) (s : State) : List Int → Int → Int
  | [], v => v
  | j :: l, v => x.everyF f s l (if f (x.move s j).1 < inf ∧ (x.move s j).2.1 + f (x.move s j).1 < v then (x.move s j).2.1 + f (x.move s j).1 else v)
def Inst.every (x : Inst) : Nat → State → Int
  | 0, s => x.everyB s
  | d + 1, s => x.everyF (x.every d) s (x.moves s) (x.everyB s)
theorem everyB_in (x : Inst) (s : State) : 0 ≤ x.everyB s ∧ x.everyB s ≤ inf := by
  have hinf : inf = 1152921504606846976 := rfl
  unfold Inst.everyB
  split
  · rename_i h
    have := end_cost h
    omega
  · omega
theorem everyF_in (x : Inst) {f : State → Int} (hf : ∀ t, 0 ≤ f t ∧ f t ≤ inf) (s : State) : ∀ (l : List Int) (v : Int), (∀ j ∈ l, (x.move s j).2.2 = true) → 0 ≤ v ∧ v ≤ inf → 0 ≤ x.everyF f s l v ∧ x.everyF f s l v ≤ inf
  | [], v, _, h => h
  | j :: l, v, hl, h => by
    rw [Inst.everyF]
    refine everyF_in x hf s l _ (fun i hi => hl i (List.mem_cons_of_mem _ hi)) ?_
    have h1 := move_cost (hl j List.mem_cons_self)
    have h2 := hf (x.move s j).1
    split <;> omega
theorem every_in (x : Inst) : ∀ (d : Nat) (s : State), 0 ≤ x.every d s ∧ x.every d s ≤ inf
  | 0, s => everyB_in x s
  | d + 1, s => everyF_in x (every_in x d) s _ _ (fun j hj => moves_mem hj) (everyB_in x s)
theorem every_pure (x : Inst) (hl : x.stops.length < 2 ^ 31) : ∀ (d : Nat) (s : State), d < 2 ^ 62 → s.ok → Pure P 62 [x.a, s.a, .i d] (.i (x.every d s)) := by
  intro d
  induction d with
  | zero =>
    intro s _ ho
    have he := end_pure x s (by omega) ho
    show Pure P 62 [x.a, s.a, .i (0 : Nat)] (.i (x.everyB s))
    generalize hR : x.everyB s = R
    refine pure_of Try.func62 rfl rfl (by simp [Try.f62]) (by simp [bnd, bnd.bndL, Inst.a, State.a, State.cs]) (by simp [bnd, bnd.bndL]) fun B hB hnx => ?_
    simp only [Try.f62] at hB ⊢
    rw [Inst.everyB] at hR
    generalize x.endS s = E at *
    obtain ⟨c, is⟩ := E
    refine K_run hB 100 ?_
    simp [go_sem, Inst.a, State.a, State.cs]
    refine K_call rfl rfl rfl (args := [x.a, s.a]) (f := 77) (by simp [go_sem, Inst.a, State.a, State.cs]) (by simp [go_sem, hB]) ((he).spec _ _) ?_
    cases is with
    | false =>
      simp only [Bool.false_eq_true, if_false] at hR
      subst hR
      refine K_run hB 100 ?_
      simp [go_sem, inf]
    | true =>
      simp only [if_true] at hR
      subst hR
      refine K_run hB 100 ?_
      simp [go_sem]
  | succ d ih =>
    intro s hd ho
    have hinf : inf = 1152921504606846976 := rfl
    have he := end_pure x s (by omega) ho
    have hms := moves_pure x s (by omega) ho
    have hmv := fun j => move_pure x s j (by omega) ho
    have hmem : ∀ j ∈ x.moves s, (x.move s j).2.2 = true := fun j hj => moves_mem hj
    have hml := moves_len x s
    have hok := fun j => move_ok x j ho
    have hil : (ints (x.moves s)).length = (x.moves s).length := List.length_map _
    have hgt : ∀ (k : Nat) (h : k < (x.moves s).length), (ints (x.moves s))[k]'(by rw [hil]; exact h) = [.i ((x.moves s)[k])] := fun k h => ints_getS _ h
    have hb := everyB_in x s
    show Pure P 62 [x.a, s.a, .i (d + 1 : Nat)] (.i (x.everyF (x.every d) s (x.moves s) (x.everyB s)))
    generalize hR : x.everyF (x.every d) s (x.moves s) (x.everyB s) = R
    refine pure_of Try.func62 rfl rfl (by simp [Try.f62]) (by simp [bnd, bnd.bndL, Inst.a, State.a, State.cs]) (by simp [bnd, bnd.bndL]) fun B hB hnx => ?_
    simp only [Try.f62] at hB ⊢
    have hBe : (if (x.endS s).2 = true then (x.endS s).1 else inf) = x.everyB s := rfl
    generalize x.everyB s = v0 at *
    generalize x.endS s = E at *
    generalize hX : ints (x.moves s) = X at *
    generalize hL : x.moves s = L at *
    obtain ⟨c, is⟩ := E
    have hd1 : ¬ ((d : Int) + 1 ≤ 0) := by omega
    have w0 := w64 (d : Int) (by omega)
    have hd2 : (d : Int) + 1 - 1 = d := by omega
    refine K_run hB 100 ?_
    simp [go_sem, Inst.a, State.a, State.cs]
    refine K_call rfl rfl rfl (args := [x.a, s.a]) (f := 77) (by simp [go_sem, Inst.a, State.a, State.cs]) (by simp [go_sem, hB]) ((he).spec _ _) ?_
    cases is
    all_goals
      simp only [Bool.false_eq_true, if_false, if_true] at hBe
      refine K_run hB 100 ?_
      simp [go_sem, hd1]
      refine K_call rfl rfl rfl (args := [x.a, s.a]) (f := 94) (by simp [go_sem, Inst.a, State.a, State.cs]) (by simp [go_sem, hB]) ((hms).spec _ _) ?_
      refine K_run hB 100 ?_
      simp [go_sem]
      refine K_loopP (α := Nat × Int × (Nat → AObj) × Nat) (fun (k, v, σ, nx) => k ≤ L.length ∧ (0 ≤ v ∧ v ≤ inf) ∧ x.everyF (x.every d) s (L.drop k) v = R ∧ σ 0 = .box [.t (.i x.pairs), .t (.i x.cars), .t (.i x.room), .t (.sl (x.stops.map Stop.t))] ∧ σ 1 = .box s.cs ∧ 1 < nx)
        (fun (k, v, σ, nx) => ⟨sl [(2, .i ((d : Int) + 1)), (3, .ptr 0 0), (4, .ptr 1 0), (7, .i v), (10, .t (.sl X)), (11, .i k)], σ, nx⟩) (fun a => L.length - a.1) (0, v0, _, 2) ⟨Nat.zero_le _, hb, hR, by simp [oput], by simp [oput, State.cs], by omega⟩ (Imp.slots (by simp [go_sem, ← hBe, inf]) rfl rfl) ?_
      rintro ⟨k, v, σ, nx⟩ ⟨g1, g0, g5, g2, g3, g4⟩
      refine K_run hB 60 ?_
      simp [go_sem, hil]
      refine fork_dec (fun hk => ?_) (fun hk => ?_)
      · have hkk : IntKind.i64.wrap ((k : Int) + 1) = ((k + 1 : Nat) : Int) := by rw [w64 ((k : Int) + 1) (by omega)]; rfl
        have hget : ∀ h : k < X.length, X[k]'h = [.i L[k]] := fun h => hgt k hk
        rw [List.drop_eq_getElem_cons hk, Inst.everyF] at g5
        have hj := hmem L[k] (List.getElem_mem _)
        have h1 := move_cost hj
        have h2 := every_in x d (x.move s L[k]).1
        have h3 := ih (x.move s L[k]).1 (by omega) (hok _)
        have h4 := hmv L[k]
        generalize L[k] = j at *
        generalize x.move s j = V at *
        obtain ⟨t, c', is'⟩ := V
        simp only at h1 h2 h3 hj g5
        subst hj
        generalize x.every d t = m at *
        have w1 := w64 (c' + m) (by omega)
        simp [go_sem]
        refine K_drawnF [11, 12] [0, 1, 2, 3, 4, 5, 6, 7, 8, 9, 10] rfl (by rw [hB]; kernel_rfl) (by kernel_rfl) fun ht hf' => ?_
        refine K_run hB 100 ?_
        simp [go_sem, ht, hf', hil, hk, hget, g2, g3, State.cs]
        refine K_dCallP rfl rfl rfl (args := [x.a, s.a, .i j]) (f := 95) (by simp [go_sem, Inst.a, State.a, State.cs]) (h4) ?_
        refine K_run hB 100 ?_
        simp [go_sem, ht, hf', mv, State.a, State.cs, g2, g3, show ¬ 0 = nx by omega, show ¬ 1 = nx by omega, hd2, w0]
        refine K_call rfl rfl rfl (args := [x.a, t.a, .i d]) (f := 62) (by simp [go_sem, Inst.a, State.a, State.cs]) (by simp [go_sem, hB]) ((h3).spec _ _) ?_
        by_cases e1 : m < inf
        · by_cases e2 : c' + m < v
          · rw [if_pos ⟨e1, e2⟩] at g5
            rw [hinf] at e1
            refine K_run hB 100 ?_
            simp [go_sem, w1, e1, e2, hkk]
            refine Next.mk (k + 1, c' + m, _, nx + 1) ?_ (Imp.slots (by simp [go_sem]) rfl rfl) (by simp only; omega)
            refine ⟨by simp only; omega, by simp only; omega, g5, ?_, ?_, by simp only; omega⟩
            · simp [oput, show ¬ 0 = nx by omega, g2]
            · simp [oput, show ¬ 1 = nx by omega, g3, State.cs]
          · rw [if_neg (fun h => e2 h.2)] at g5
            rw [hinf] at e1
            refine K_run hB 100 ?_
            simp [go_sem, w1, e1, e2, hkk]
            refine Next.mk (k + 1, v, _, nx + 1) ?_ (Imp.slots (by simp [go_sem]) rfl rfl) (by simp only; omega)
            refine ⟨by simp only; omega, g0, g5, ?_, ?_, by simp only; omega⟩
            · simp [oput, show ¬ 0 = nx by omega, g2]
            · simp [oput, show ¬ 1 = nx by omega, g3, State.cs]
        · rw [if_neg (fun h => e1 h.1)] at g5
          rw [hinf] at e1
          refine K_run hB 100 ?_
          simp [go_sem, w1, e1, hkk]
          refine Next.mk (k + 1, v, _, nx + 1) ?_ (Imp.slots (by simp [go_sem]) rfl rfl) (by simp only; omega)
          refine ⟨by simp only; omega, g0, g5, ?_, ?_, by simp only; omega⟩
          · simp [oput, show ¬ 0 = nx by omega, g2]
          · simp [oput, show ¬ 1 = nx by omega, g3, State.cs]
      · have : k = L.length := by omega
        subst this
        rw [List.drop_length, Inst.everyF] at g5
        simp [go_sem, g5]
/-- How many moves a plan may have. -/
def Inst.deepN (x : Inst) : Nat := (2 * x.pairs + x.cars - 1).toNat
def Inst.everyAll (x : Inst) : Int := x.every x.deepN x.rootS
theorem everyAll_pure (x : Inst) (hm : x.may = true) : Pure P 34 [x.a] (.i x.everyAll) := by
  obtain ⟨p, hx⟩ := x.fit hm
  have hlen := hx.len
  have hfew := hx.few
  have hp := hx.pairs
  have hcar := hx.cars
  have hev := every_pure x (by omega) x.deepN x.rootS (by unfold Inst.deepN; omega) (rootS_ok x)
  have hr := root_pureS x (by omega)
  have hde : (x.deepN : Int) = 2 * x.pairs + x.cars - 1 := by unfold Inst.deepN; omega
  rw [hde] at hev
  have w1 := w64 (2 * x.pairs) (by omega)
  have w2 := w64 (2 * x.pairs + x.cars) (by omega)
  have w3 := w64 (2 * x.pairs + x.cars - 1) (by omega)
  unfold Inst.everyAll
  generalize x.every x.deepN x.rootS = R at *
  generalize x.rootS = r at *
  refine pure_of Try.func34 rfl rfl (by simp [Try.f34]) (by simp [bnd, bnd.bndL, Inst.a]) (by simp [bnd, bnd.bndL]) fun B hB hnx => ?_
  simp only [Try.f34] at hB ⊢
  refine K_run hB 100 ?_
  simp [go_sem, Inst.a]
  refine K_drawn [] rfl (by rw [hB]; kernel_rfl) ?_
  refine K_run hB 100 ?_
  simp [go_sem]
  refine K_dCallP rfl rfl rfl (args := [x.a]) (f := 38) (by simp [go_sem, Inst.a]) (hr) ?_
  refine K_run hB 100 ?_
  simp [go_sem, w1, w2, w3]
  refine K_dCallP rfl rfl rfl (args := [x.a, r.a, .i (2 * x.pairs + x.cars - 1)]) (f := 62) (by simp [go_sem, Inst.a, State.a, State.cs]) (hev) ?_
  refine K_run hB 100 ?_
  simp [go_sem]
end Go.Proofs.Ytlhmchdfmjfmgaa

/- What is found by looking at all levels, and at each way alone: the law. -/
set_option maxRecDepth 4000
namespace Go.Proofs.Ytlhmchdfmjfmgaa
open Go Go.Proofs.Ytlhmchdfmjfmgaa.R
theorem everyF_from (x : Inst) (f : State → Int) (s : State) : ∀ (l : List Int) (v : Int), x.everyF f s l v = v ∨ ∃ j ∈ l, f (x.move s j).1 < inf ∧ x.everyF f s l v = (x.move s j).2.1 + f (x.move s j).1
  | [], v => .inl rfl
  | i :: l, v => by
    rw [Inst.everyF]
    rcases everyF_from x f s l (if f (x.move s i).1 < inf ∧ (x.move s i).2.1 + f (x.move s i).1 < v then (x.move s i).2.1 + f (x.move s i).1 else v) with h | ⟨j, hj, h1, h2⟩
    · rw [h]
      split
      · rename_i hc
        exact .inr ⟨i, List.mem_cons_self, hc.1, rfl⟩
      · exact .inl rfl
    · exact .inr ⟨j, List.mem_cons_of_mem _ hj, h1, h2⟩
theorem every_from (x : Inst) : ∀ (d : Nat) (s : State), x.every d s < inf → ∃ w, x.way w s (x.every d s)
  | 0, s, h => by
    rw [Inst.every, Inst.everyB] at h ⊢
    split at h
    · rename_i hc
      rw [if_pos hc]
      exact ⟨[], hc, rfl⟩
    · omega
  | d + 1, s, h => by
    rw [Inst.every] at h ⊢
    rcases everyF_from x (x.every d) s (x.moves s) (x.everyB s) with e | ⟨j, hj, h1, h2⟩
    · rw [e] at h ⊢
      rw [Inst.everyB] at h ⊢
      split at h
      · rename_i hc
        rw [if_pos hc]
        exact ⟨[], hc, rfl⟩
      · omega
    · rw [h2]
      obtain ⟨w, hw⟩ := every_from x d _ h1
      exact ⟨j :: w, moves_mem hj, _, hw, rfl⟩
end Go.Proofs.Ytlhmchdfmjfmgaa

/- When a car is where: what is wrong with a stop, and how it drives. -/
set_option maxRecDepth 4000
namespace Go.Proofs.Ytlhmchdfmjfmgaa
open Go Go.Proofs.Ytlhmchdfmjfmgaa.R
/-- A car on its way. -/
structure Car where
  spot : Int
  now : Int
  gone : Int
  load : Int
  seen : Nat
  on : Nat
  times : List (List T)
  loads : List Int
def carC (x : Inst) (c : Car) (qt ql : Nat) : List AV := [.t (.i x.pairs), .t (.i x.cars), .t (.i x.room), .t (.sl (x.stops.map Stop.t)), .i c.spot, .i c.now, .i c.gone, .i c.load, .u c.seen, .u c.on, .ref qt, .ref ql]
/-- What holds of a car that has seen so many stops. -/
structure Car.Fit (c : Car) (p k : Nat) : Prop where
  spot : 0 ≤ c.spot ∧ c.spot ≤ 2 * p
  now : 0 ≤ c.now ∧ c.now ≤ 1049576
  gone : 0 ≤ c.gone ∧ c.gone ≤ 14143 * k
  load : -1000 * (k : Int) ≤ c.load ∧ c.load ≤ 1000
  seen : c.seen < 2 ^ 64
  on : c.on < 2 ^ 64
  times : c.times.length = k
  loads : c.loads.length = k
  three : ∀ y ∈ c.times, y.length = 3
  few : k + ((List.range (2 * p + 1)).filter fun j : Nat => decide (1 ≤ j) && !hasB c.seen (j : Int)).length ≤ 2 * p
theorem Car.Fit.le {c : Car} {p k : Nat} (h : c.Fit p k) : k ≤ 2 * p := by have := h.few; omega
def Inst.visitsE (x : Inst) (c : Car) (i : Int) : Int :=
  if i < 1 ∨ 2 * x.pairs < i then 1 else if hasB c.seen i = true then 5 else if x.pairs < i ∧ hasB c.seen (i - x.pairs) = false then 8 else if x.room < c.load + (x.stop i).demand then 6 else 0
theorem oput_back (σ : Nat → AObj) (q : Nat) : oput σ q (σ q) = σ := by funext i; by_cases h : i = q <;> simp [oput, h]
theorem visits_spec (x : Inst) (c : Car) (i : Int) {p k : Nat} (hx : x.Fit p) (hc : c.Fit p k) {σ : Nat → AObj} {nx b qt ql : Nat} (hb : b < nx) (hσb : σ b = .box (carC x c qt ql)) (hqt : qt < nx) (hql : ql < nx) :
    CallSpec P 157 [.ptr b 0, .i i] σ nx (.i (x.visitsE c i)) σ nx := by
  generalize hR : x.visitsE c i = R
  have h : CallSpec P 157 [.ptr b 0, .i i] σ nx (.i R) (oput σ b (σ b)) nx := by
    refine spec_down Try.func157 rfl rfl (by simp [Try.f157]) hb (by rw [hσb]; simp [bndO, bnd, bnd.bndL, carC, hqt, hql]) (by simp [bnd]) fun hkn B hB hnx hσ => ?_
    simp only [Try.f157] at hB ⊢
    rw [Inst.visitsE] at hR
    have hp := hx.pairs
    have hfew := hx.few
    have w1 := w64 (2 * x.pairs) (by omega)
    by_cases c1 : i < 1
    · rw [if_pos (.inl c1)] at hR
      subst hR
      refine K_run hB 100 ?_
      simp [go_sem, hσb, carC, c1, w1]
    by_cases c2 : 2 * x.pairs < i
    · rw [if_pos (.inr c2)] at hR
      subst hR
      refine K_run hB 100 ?_
      simp [go_sem, hσb, carC, c1, c2, w1]
    rw [if_neg (by omega)] at hR
    have hh1 := has_pure c.seen i hc.seen
    refine K_run hB 100 ?_
    simp [go_sem, hσb, carC, c1, c2, w1]
    refine K_call rfl rfl rfl (args := [.u c.seen, .i i]) (f := 117) (by simp [go_sem]) (by simp [go_sem, hB]) ((hh1).spec _ _) ?_
    by_cases c3 : hasB c.seen i = true
    · rw [if_pos c3] at hR
      subst hR
      refine K_run hB 100 ?_
      simp [go_sem, c3, hσb, carC]
    rw [if_neg c3] at hR
    have c3' : hasB c.seen i = false := by simpa using c3
    have w2 := w64 (i - x.pairs) (by omega)
    have hh2 := has_pure c.seen (i - x.pairs) hc.seen
    have h0 : 0 ≤ i := by omega
    have g1 := hx.lt (j := i) (by omega)
    have g3 := hx.get (j := i) (by omega)
    have hd := (hx.at (j := i) (by omega) (by omega)).demand
    have hload := hc.load
    have hkle := hc.le
    have w3 := w64 (c.load + (x.stop i).demand) (by omega)
    generalize x.stop i = a at *
    by_cases c4 : x.pairs < i
    · refine K_run hB 100 ?_
      simp [go_sem, c3', c4, hσb, carC, w2]
      refine K_call rfl rfl rfl (args := [.u c.seen, .i (i - x.pairs)]) (f := 117) (by simp [go_sem]) (by simp [go_sem, hB]) ((hh2).spec _ _) ?_
      by_cases c5 : hasB c.seen (i - x.pairs) = true
      · rw [if_neg (by simp [c5])] at hR
        refine K_run hB 100 ?_
        simp [go_sem, c5]
        refine K_drawn [] rfl (by rw [hB]; kernel_rfl) ?_
        by_cases c6 : x.room < c.load + a.demand
        · rw [if_pos c6] at hR
          subst hR
          refine K_run hB 100 ?_
          simp [go_sem, hσb, carC, h0, g1, g3, Stop.t, w3, c6]
        · rw [if_neg c6] at hR
          subst hR
          refine K_run hB 100 ?_
          simp [go_sem, hσb, carC, h0, g1, g3, Stop.t, w3, c6]
      · have c5' : hasB c.seen (i - x.pairs) = false := by simpa using c5
        rw [if_pos ⟨c4, c5'⟩] at hR
        subst hR
        refine K_run hB 100 ?_
        simp [go_sem, c5', hσb, carC]
    · rw [if_neg (by simp [c4])] at hR
      refine K_run hB 100 ?_
      simp [go_sem, c3', c4, hσb, carC]
      refine K_drawn [] rfl (by rw [hB]; kernel_rfl) ?_
      by_cases c6 : x.room < c.load + a.demand
      · rw [if_pos c6] at hR
        subst hR
        refine K_run hB 100 ?_
        simp [go_sem, hσb, carC, h0, g1, g3, Stop.t, w3, c6]
      · rw [if_neg c6] at hR
        subst hR
        refine K_run hB 100 ?_
        simp [go_sem, hσb, carC, h0, g1, g3, Stop.t, w3, c6]
  rw [oput_back] at h
  exact h
def Inst.drive (x : Inst) (c : Car) (i : Int) : Car := { c with spot := i, gone := c.gone + far (x.stop c.spot) (x.stop i) }
theorem drive_spec (x : Inst) (c : Car) (i : Int) {p k : Nat} (hx : x.Fit p) (hc : c.Fit p k) (h1 : 0 ≤ i) (h2 : i ≤ 2 * p) {σ : Nat → AObj} {nx b qt ql : Nat} (hb : b < nx) (hσb : σ b = .box (carC x c qt ql)) (hqt : qt < nx) (hql : ql < nx) :
    CallSpec P 158 [.ptr b 0, .i i] σ nx (.i (c.now + far (x.stop c.spot) (x.stop i))) (oput σ b (.box (carC x (x.drive c i) qt ql))) nx := by
  refine spec_down Try.func158 rfl rfl (by simp [Try.f158]) hb (by simp [bndO, bnd, bnd.bndL, carC, hqt, hql]) (by simp [bnd]) fun hkn B hB hnx hσ => ?_
  simp only [Try.f158] at hB ⊢
  have f1 := hc.spot
  have g1 := hx.lt (j := c.spot) (by omega)
  have g2 := hx.get (j := c.spot) (by omega)
  have g3 := hx.lt (j := i) (by omega)
  have g4 := hx.get (j := i) (by omega)
  have hf := far_pure (x.stop c.spot) (x.stop i)
  have hle := far_le (x.stop c.spot) (x.stop i)
  have hn := hc.now
  have hg := hc.gone
  have hkle := hc.le
  have hfew := hx.few
  rw [Inst.drive]
  generalize x.stop i = z at *
  generalize x.stop c.spot = y at *
  have w1 := w64 (c.gone + far y z) (by omega)
  have w2 := w64 (c.now + far y z) (by omega)
  refine K_run hB 100 ?_
  simp [go_sem]
  refine K_drawn [] rfl (by rw [hB]; kernel_rfl) ?_
  refine K_run hB 100 ?_
  simp [go_sem, hσb, carC, f1.1, g1, g2, h1, g3, g4, Stop.t]
  refine K_dCallP rfl rfl rfl (args := [.agg (y.t.map .t), .agg (z.t.map .t)]) (f := 141) (by simp [go_sem, Stop.t]) (hf) ?_
  refine K_run hB 100 ?_
  simp [go_sem, hσb, carC, w1, w2]
  exact fun j h1 h2 => by simp [h2]
end Go.Proofs.Ytlhmchdfmjfmgaa

/- When a car is where: it visits a stop. -/
set_option maxRecDepth 4000
namespace Go.Proofs.Ytlhmchdfmjfmgaa
open Go Go.Proofs.Ytlhmchdfmjfmgaa.R
structure Rows3 (c : Car) (σ : Nat → AObj) (nx b qt ql : Nat) : Prop where
  tm : σ qt = .arr 3 c.times
  ld : σ ql = .arr 1 (ints c.loads)
  ltT : qt < nx
  ltL : ql < nx
  neT : qt ≠ b
  neL : ql ≠ b
  ne : qt ≠ ql
def Inst.visitC (x : Inst) (c : Car) (i : Int) : Car × Int :=
  if x.visitsE c i ≠ 0 then (c, x.visitsE c i)
  else if (x.stop i).due < max (c.now + far (x.stop c.spot) (x.stop i)) (x.stop i).ready then (x.drive c i, 7)
  else ({ spot := i, now := max (c.now + far (x.stop c.spot) (x.stop i)) (x.stop i).ready + (x.stop i).service, gone := c.gone + far (x.stop c.spot) (x.stop i), load := c.load + (x.stop i).demand, seen := withN c.seen i,
          on := if i ≤ x.pairs then withN c.on i else withoutN c.on (i - x.pairs), times := c.times ++ [[.i (c.now + far (x.stop c.spot) (x.stop i)), .i (max (c.now + far (x.stop c.spot) (x.stop i)) (x.stop i).ready), .i (max (c.now + far (x.stop c.spot) (x.stop i)) (x.stop i).ready + (x.stop i).service)]], loads := c.loads ++ [c.load + (x.stop i).demand] }, 0)
theorem visits_ok {x : Inst} {c : Car} {i : Int} (h : x.visitsE c i = 0) : 1 ≤ i ∧ i ≤ 2 * x.pairs ∧ hasB c.seen i = false ∧ (x.pairs < i → hasB c.seen (i - x.pairs) = true) ∧ c.load + (x.stop i).demand ≤ x.room := by
  rw [Inst.visitsE] at h
  split at h
  · cases h
  split at h
  · cases h
  split at h
  · cases h
  split at h
  · cases h
  rename_i h1 h2 h3 h4
  refine ⟨by omega, by omega, by simpa using h2, fun h => ?_, by omega⟩
  cases hq : hasB c.seen (i - x.pairs) with
  | true => rfl
  | false => exact absurd ⟨h, hq⟩ h3
/-- What a car that visits leaves behind. -/
def VisitQ (x : Inst) (c' : Car) (e : Int) (σ : Nat → AObj) (nx b qt ql : Nat) (r : AV) (σ' : Nat → AObj) (nx' : Nat) : Prop :=
  r = .i e ∧ nx ≤ nx' ∧ ∃ qt' ql', σ' b = .box (carC x c' qt' ql') ∧ Rows3 c' σ' nx' b qt' ql' ∧ (∀ j, j < nx → j ≠ b → j ≠ qt → j ≠ ql → σ' j = σ j) ∧ (qt' = qt ∨ nx ≤ qt') ∧ (ql' = ql ∨ nx ≤ ql')
theorem visit_spec (x : Inst) (c : Car) (i : Int) {p k : Nat} (hx : x.Fit p) (hc : c.Fit p k) {σ : Nat → AObj} {nx b qt ql : Nat} (hb : b < nx) (hσb : σ b = .box (carC x c qt ql)) (hr3 : Rows3 c σ nx b qt ql) :
    CallQ P 131 [.ptr b 0, .i i] σ nx (VisitQ x (x.visitC c i).1 (x.visitC c i).2 σ nx b qt ql) := by
  generalize hR : x.visitC c i = R
  refine spec_of Try.func131 rfl rfl (by simp [Try.f131]) fun B hB hnx hσ => ?_
  simp only [Try.f131] at hB ⊢
  have hvs := visits_spec x c i hx hc hb hσb hr3.ltT hr3.ltL
  rw [Inst.visitC] at hR
  have hok := visits_ok (x := x) (c := c) (i := i)
  generalize x.visitsE c i = e at *
  refine K_run hB 100 ?_
  simp [go_sem]
  refine K_call rfl rfl rfl (args := [.ptr b 0, .i i]) (f := 157) (by simp [go_sem]) (by simp [go_sem, hB]) hvs ?_
  by_cases c0 : e = 0
  rotate_left
  · rw [if_pos c0] at hR
    subst hR
    refine K_run hB 100 ?_
    simp [go_sem, c0]
    exact ⟨rfl, Nat.le_refl _, qt, ql, hσb, hr3, fun j _ _ _ _ => rfl, .inl rfl, .inl rfl⟩
  rw [if_neg (by simp [c0])] at hR
  obtain ⟨k1, k2, k3, k4, k5⟩ := hok c0
  have hp := hx.pairs
  have hfew := hx.few
  have g3 := hx.lt (j := i) (by omega)
  have g4 := hx.get (j := i) (by omega)
  have hds : ∀ {σ : Nat → AObj} {nx : Nat}, b < nx → σ b = .box (carC x c qt ql) → qt < nx → ql < nx → _ := fun {σ nx} => drive_spec x c i hx hc (by omega) (by omega) (σ := σ) (nx := nx) (b := b) (qt := qt) (ql := ql)
  have hfi := hx.at (j := i) (by omega) (by omega)
  have hfar := far_le (x.stop c.spot) (x.stop i)
  generalize hzz : x.stop i = z at *
  generalize hdd : far (x.stop c.spot) z = d at *
  have hn := hc.now
  have hg := hc.gone
  have hkle := hc.le
  have hne : ¬ b = nx := by omega
  have hne2 : ¬ nx = b := by omega
  have h0 : 0 ≤ i := by omega
  refine K_run hB 100 ?_
  simp [go_sem, c0, hσb, carC, h0, g3, g4, Stop.t]
  refine K_call rfl rfl rfl (args := [.ptr b 0, .i i]) (f := 158) (by simp [go_sem]) (by simp [go_sem, hB]) (hds (by simp only; omega) (by simp [oput, hne, hσb]) (by have := hr3.ltT; simp only; omega) (by have := hr3.ltL; simp only; omega)) ?_
  have hcd : x.drive c i = { c with spot := i, gone := c.gone + d } := by rw [Inst.drive, hzz, hdd]
  have hdc : carC x (x.drive c i) qt ql = [.t (.i x.pairs), .t (.i x.cars), .t (.i x.room), .t (.sl (x.stops.map Stop.t)), .i i, .i c.now, .i (c.gone + d), .i c.load, .u c.seen, .u c.on, .ref qt, .ref ql] := by rw [hcd]; rfl
  have f1 := hfi.ready
  have f2 := hfi.service
  have f3 := hfi.due
  have f4 := hfi.demand
  have f5 := hc.load
  generalize hbe : max (c.now + d) z.ready = be at *
  have w1 := w64 (be + z.service) (by omega)
  have w2 := w64 (c.load + z.demand) (by omega)
  by_cases c1 : z.due < be
  · rw [if_pos c1] at hR
    subst hR
    refine K_run hB 100 ?_
    simp [go_sem, hne, hne2, hbe, c1]
    rw [hdc]
    exact ⟨by omega, rfl, by omega, qt, ql, by simp [oput, hne, show ¬ b = nx + 1 by omega, hcd, carC], ⟨by simp [oput, show ¬ qt = nx by have := hr3.ltT; omega, show ¬ qt = nx + 1 by have := hr3.ltT; omega, hr3.neT, hr3.tm, hcd], by simp [oput, show ¬ ql = nx by have := hr3.ltL; omega, show ¬ ql = nx + 1 by have := hr3.ltL; omega, hr3.neL, hr3.ld, hcd], by have := hr3.ltT; omega, by have := hr3.ltL; omega, hr3.neT, hr3.neL, hr3.ne⟩, fun j h1 h2 h3 h4 => by simp [oput, h2, show ¬ j = nx by omega, show ¬ j = nx + 1 by omega], .inl rfl, .inl rfl⟩
  rw [if_neg c1] at hR
  refine K_run hB 100 ?_
  simp [go_sem, hne, hne2, hbe, c1, w1, show ¬ b = nx + 1 by omega, show ¬ nx = nx + 1 by omega]
  have ht1 := hr3.ltT
  have ht2 := hr3.ltL
  have ht3 := hr3.neT
  have ht4 := hr3.neL
  have ht5 := hr3.ne
  have ht6 := hr3.tm
  have ht7 := hr3.ld
  obtain ⟨σ1, hσ1⟩ : ∃ σ1 : Nat → AObj, σ1 = oput (oput (oput σ nx (.box [.i z.x, .i z.y, .i z.demand, .i z.ready, .i z.due, .i z.service])) (nx + 1) (.box [.i (c.now + d), .i be, .i (be + z.service)])) b (.box [.t (.i x.pairs), .t (.i x.cars), .t (.i x.room), .t (.sl (x.stops.map Stop.t)), .i i, .i c.now, .i (c.gone + d), .i c.load, .u c.seen, .u c.on, .ref qt, .ref ql]) := ⟨_, rfl⟩
  have s1 : σ1 b = .box [.t (.i x.pairs), .t (.i x.cars), .t (.i x.room), .t (.sl (x.stops.map Stop.t)), .i i, .i c.now, .i (c.gone + d), .i c.load, .u c.seen, .u c.on, .ref qt, .ref ql] := by rw [hσ1]; simp [oput]
  have s2 : σ1 (nx + 1) = .box [.i (c.now + d), .i be, .i (be + z.service)] := by rw [hσ1]; simp [oput, show ¬ nx + 1 = b by omega]
  have s3 : σ1 nx = .box [.i z.x, .i z.y, .i z.demand, .i z.ready, .i z.due, .i z.service] := by rw [hσ1]; simp [oput, hne2]
  have s4 : ∀ j, j < nx → j ≠ b → σ1 j = σ j := fun j h1 h2 => by rw [hσ1]; simp [oput, h2, show ¬ j = nx by omega, show ¬ j = nx + 1 by omega]
  refine K_impC (t := ⟨sl [(0, .ptr b 0), (1, .i i), (6, .ptr nx 0), (8, .ptr (nx + 1) 0)], σ1, nx + 1 + 1⟩) (Imp.slots (by simp [go_sem]) ?_ rfl) ?_
  · rw [hσ1]
    funext j
    simp only [oput, hdc]
    by_cases e1 : j = b
    · simp [e1, hne, show ¬ b = nx + 1 by omega]
    · by_cases e2 : j = nx + 1
      · simp [e2, show ¬ nx + 1 = b by omega]
      · by_cases e3 : j = nx <;> simp [e1, e2, e3]
  have hw1 := with_pure c.seen i hc.seen
  have hw2 := with_pure c.on i hc.on
  have hw3 := without_pure c.on (i - x.pairs)
  have w3 := w64 (i - x.pairs) (by omega)
  obtain ⟨on2, hon⟩ : ∃ on2, on2 = (if i ≤ x.pairs then withN c.on i else withoutN c.on (i - x.pairs)) := ⟨_, rfl⟩
  rw [← hon] at hR
  obtain ⟨σ2, hσ2⟩ : ∃ σ2 : Nat → AObj, σ2 = oput σ1 b (.box [.t (.i x.pairs), .t (.i x.cars), .t (.i x.room), .t (.sl (x.stops.map Stop.t)), .i i, .i (be + z.service), .i (c.gone + d), .i (c.load + z.demand), .u (withN c.seen i), .u on2, .ref qt, .ref ql]) := ⟨_, rfl⟩
  refine K_drawnF [20, 23, 26] [1, 2, 9, 10, 11] rfl (by rw [hB]; kernel_rfl) (by kernel_rfl) fun ht hf' => ?_
  refine K_run hB 100 ?_
  simp [go_sem, ht, hf', s1, s2, s3, w2]
  refine K_dCallP rfl rfl rfl (args := [.u c.seen, .i i]) (f := 159) (by simp [go_sem]) (hw1) ?_
  refine K_run hB 100 ?_
  simp [go_sem, ht, hf', s1, s2, s3, w2, hne, hne2, show ¬ nx + 1 = b by omega]
  by_cases c2 : i ≤ x.pairs
  case' pos =>
    rw [if_pos c2] at hon
    simp [go_sem, c2, s1]
    refine K_call rfl rfl rfl (args := [.u c.on, .i i]) (f := 159) (by simp [go_sem]) (by simp [go_sem, hB]) ((hw2).spec _ _) ?_
    refine K_run hB 100 ?_
    simp [go_sem, s1]
  case' neg =>
    rw [if_neg c2] at hon
    simp [go_sem, c2, s1]
    refine K_drawnT [15] rfl (by rw [hB]; kernel_rfl) (by kernel_rfl) fun ht => ?_
    refine K_run hB 100 ?_
    simp [go_sem, ht, s1, w3]
    refine K_dCallP rfl rfl rfl (args := [.u c.on, .i (i - x.pairs)]) (f := 160) (by simp [go_sem]) (hw3) ?_
    refine K_run hB 100 ?_
    simp [go_sem, ht, s1]
  all_goals
    have u1 : σ2 b = .box [.t (.i x.pairs), .t (.i x.cars), .t (.i x.room), .t (.sl (x.stops.map Stop.t)), .i i, .i (be + z.service), .i (c.gone + d), .i (c.load + z.demand), .u (withN c.seen i), .u on2, .ref qt, .ref ql] := by rw [hσ2]; simp [oput]
    have u2 : σ2 (nx + 1) = .box [.i (c.now + d), .i be, .i (be + z.service)] := by rw [hσ2]; simp [oput, s2, show ¬ nx + 1 = b by omega]
    have u3 : σ2 qt = .arr 3 c.times := by rw [hσ2]; simp [oput, ht3, s4 qt ht1 ht3, ht6]
    have u4 : σ2 ql = .arr 1 (ints c.loads) := by rw [hσ2]; simp [oput, ht4, s4 ql ht2 ht4, ht7]
    have u5 : ∀ j, j < nx → j ≠ b → σ2 j = σ j := fun j h1 h2 => by rw [hσ2]; simp [oput, h2, s4 j h1 h2]
    refine K_impC (t := ⟨sl [(0, .ptr b 0), (8, .ptr (nx + 1) 0)], σ2, nx + 1 + 1⟩) (Imp.slots (by simp [go_sem]) ?_ rfl) ?_
    · rw [hσ2]
      funext j
      by_cases e1 : j = b <;> simp [oput, e1, hon]
    refine K_drawnGM [8, 18, 21, 24] [0, 1, 9, 10, 11, 12, 13, 14, 15, 16, 17] [] [⟨12, fun t => if t = 109 then .ptr b 11 else .any, .ref ql, some (noObj, 0)⟩, ⟨16, fun t => if t = 113 then .ptr b 7 else .any, .i (c.load + z.demand), some (noObj, 0)⟩] rfl (by rw [hB]; kernel_rfl) (by kernel_rfl) (fun q hq => ?_) fun ht hf' => ?_
    · simp only [List.mem_cons, List.not_mem_nil, or_false] at hq
      rcases hq with rfl | rfl
      · exact ⟨_, rfl, by simp [go_sem], by simp [go_sem, u1]⟩
      · exact ⟨_, rfl, by simp [go_sem], by simp [go_sem, u1]⟩
    have hm1 : c.times.length + 1 ≤ mostLen := by rw [hc.times]; show k + 1 ≤ 4294967296; omega
    have hm2 : (ints c.loads).length + 1 ≤ mostLen := by rw [ints, List.length_map, hc.loads]; show k + 1 ≤ 4294967296; omega
    have hb1 : ¬ b = qt := fun e => ht3 e.symm
    have hb2 : ¬ b = ql := fun e => ht4 e.symm
    have hb3 : ¬ ql = qt := fun e => ht5 e.symm
    have hb4 : ¬ b = nx + 1 + 1 := by omega
    have hb5 : ¬ ql = nx + 1 + 1 := by omega
    refine K_run hB 12 ?_
    simp [go_sem, ht, hf', u1, u2, u3, u4, hm1, hb1, hb2, hb3, hb4, hb5]
    refine K_dMark (v := .ref ql) (by simp [go_sem]) (by simp [go_sem, u1, hb1, hb4]) ⟨rfl, ⟨12, fun t => if t = 109 then .ptr b 11 else .any, .ref ql, some (noObj, 0)⟩, by simp, by simp, rfl, rfl, fun t h => ?_⟩ ?_
    · have : t = 109 := by simpa [looksOf, Oper.looksAt, Op.operands] using h
      subst this
      simp [go_sem]
    refine K_run hB 3 ?_
    simp [go_sem]
    refine K_dMark (v := .i (c.load + z.demand)) (by simp [go_sem]) (by simp [go_sem, u1, hb1, hb4]) ⟨rfl, ⟨16, fun t => if t = 113 then .ptr b 7 else .any, .i (c.load + z.demand), some (noObj, 0)⟩, by simp, by simp, rfl, rfl, fun t h => ?_⟩ ?_
    · have : t = 113 := by simpa [looksOf, Oper.looksAt, Op.operands] using h
      subst this
      simp [go_sem]
    refine K_run hB 100 ?_
    simp [go_sem, ht, hf', u1, u2, u3, u4, hm2, hb1, hb2, hb3, hb4, hb5, show ¬ b = nx + 1 + 1 + 1 by omega]
    refine ⟨.inl (by kernel_rfl), by omega, ?_⟩
    rw [← hR]
    exact ⟨rfl, by omega, nx + 1 + 1, nx + 1 + 1 + 1, by simp [oput, hb5, show ¬ b = nx + 1 + 1 + 1 by omega, carC], ⟨by simp [oput, show ¬ nx + 1 + 1 = b by omega, show ¬ nx + 1 + 1 = ql by omega], by simp [oput, show ¬ nx + 1 + 1 + 1 = b by omega, ints], by omega, by omega, by omega, by omega, by omega⟩,
      fun j h1 h2 h3 h4 => by simp [oput, h2, h3, h4, show ¬ j = nx + 1 + 1 by omega, show ¬ j = nx + 1 + 1 + 1 by omega, u5 j h1 h2], .inr (by omega), .inr (by omega)⟩
end Go.Proofs.Ytlhmchdfmjfmgaa

/- When a car is where: a whole route. -/
set_option maxRecDepth 4000
namespace Go.Proofs.Ytlhmchdfmjfmgaa
open Go Go.Proofs.Ytlhmchdfmjfmgaa.R
theorem visitC_fit {x : Inst} {c : Car} {i : Int} {p k : Nat} (hx : x.Fit p) (hc : c.Fit p k) (h : (x.visitC c i).2 = 0) : (x.visitC c i).1.Fit p (k + 1) := by
  have hok := visits_ok (x := x) (c := c) (i := i)
  rw [Inst.visitC] at h ⊢
  by_cases c0 : x.visitsE c i = 0
  rotate_left
  · rw [if_pos c0] at h; exact absurd h c0
  rw [if_neg (by simp [c0])] at h ⊢
  by_cases c1 : (x.stop i).due < max (c.now + far (x.stop c.spot) (x.stop i)) (x.stop i).ready
  · rw [if_pos c1] at h; cases h
  rw [if_neg c1]
  obtain ⟨k1, k2, k3, k4, k5⟩ := hok c0
  have hp := hx.pairs
  have hfi := hx.at (j := i) (by omega) (by omega)
  have hfar := far_le (x.stop c.spot) (x.stop i)
  have h1 := hc.now
  have h2 := hc.gone
  have h3 := hc.load
  have h4 := hfi.ready
  have h5 := hfi.due
  have h6 := hfi.service
  have h7 := hfi.demand
  have h8 := hx.room
  have h9 := hx.few
  constructor
  · simp only; omega
  · simp only; omega
  · simp only; omega
  · simp only; omega
  · exact withN_lt hc.seen _
  · simp only
    split
    · exact withN_lt hc.on _
    · exact withoutN_lt _ _
  · simp [hc.times]
  · simp [hc.loads]
  · intro y hy
    simp only [List.mem_append, List.mem_singleton] at hy
    rcases hy with hy | rfl
    · exact hc.three y hy
    · rfl
  · have h10 := hc.few
    obtain ⟨j, rfl⟩ : ∃ j : Nat, i = j := ⟨i.toNat, by omega⟩
    have := filter_lt (p := fun j : Nat => decide (1 ≤ j) && !hasB c.seen (j : Int)) (q := fun m : Nat => decide (1 ≤ m) && !hasB (withN c.seen (j : Int)) (m : Int)) (List.range (2 * p + 1)) (a := j) (List.mem_range.2 (by omega)) (by rw [k3]; simp; omega) (by rw [has_withN (by omega)]; simp) (fun m => by
      rw [has_withN (by omega)]
      simp only [Bool.and_eq_true, Bool.not_eq_true', Bool.or_eq_false_iff]
      exact fun h => ⟨h.1, h.2.1⟩)
    simp only
    omega
def Inst.homeC (x : Inst) (c : Car) : Car × Int :=
  if c.on ≠ 0 then (c, 8) else if (x.stop 0).due < c.now + far (x.stop c.spot) (x.stop 0) then (x.drive c 0, 7) else (x.drive c 0, 0)
theorem homeC_times (x : Inst) (c : Car) : (x.homeC c).1.times = c.times ∧ (x.homeC c).1.loads = c.loads := by
  rw [Inst.homeC]
  split
  · exact ⟨rfl, rfl⟩
  · split <;> exact ⟨rfl, rfl⟩
theorem homeC_spec (x : Inst) (c : Car) {p k : Nat} (hx : x.Fit p) (hc : c.Fit p k) {σ : Nat → AObj} {nx b qt ql : Nat} (hb : b < nx) (hσb : σ b = .box (carC x c qt ql)) (hqt : qt < nx) (hql : ql < nx) :
    CallSpec P 132 [.ptr b 0] σ nx (.i (x.homeC c).2) (oput σ b (.box (carC x (x.homeC c).1 qt ql))) nx := by
  generalize hR : x.homeC c = R
  refine spec_down Try.func132 rfl rfl (by simp [Try.f132]) hb (by simp [bndO, bnd, bnd.bndL, carC, hqt, hql]) (by simp [bnd]) fun hkn B hB hnx hσ => ?_
  simp only [Try.f132] at hB ⊢
  have hds := drive_spec x c 0 hx hc (by omega) (by omega) hb hσb hqt hql
  rw [Inst.homeC] at hR
  by_cases c0 : c.on = 0
  rotate_left
  · rw [if_pos c0] at hR
    subst hR
    have c0' : ¬ (c.on : Int) = 0 := by omega
    refine K_run hB 100 ?_
    simp [go_sem, hσb, carC, c0, c0']
  rw [if_neg (by simp [c0])] at hR
  have g1 := hx.lt (j := 0) (by omega)
  have g3 := hx.get0
  have hdr : x.drive c 0 = { c with spot := 0, gone := c.gone + far (x.stop c.spot) (x.stop 0) } := rfl
  generalize x.stop 0 = z at *
  generalize far (x.stop c.spot) z = d at *
  have g4 : (0 : Int) < x.stops.length := g1
  have g5 : 0 < x.stops.length := by omega
  refine K_run hB 100 ?_
  simp [go_sem, hσb, carC, c0]
  refine K_drawnGM [1] [2, 3, 4, 5, 6, 7, 8, 9] [] [⟨6, fun t => if t = 13 then .ptr b 3 else .any, .t (.sl (x.stops.map Stop.t)), some (noObj, 0)⟩] rfl (by rw [hB]; kernel_rfl) (by kernel_rfl) (fun q hq => ?_) fun ht hf' => ?_
  · simp only [List.mem_cons, List.not_mem_nil, or_false] at hq
    subst hq
    exact ⟨_, rfl, by simp [go_sem], by simp [go_sem, hσb, carC]⟩
  refine K_run hB 1 ?_
  simp [go_sem, hσb, carC]
  refine K_dCall rfl rfl rfl (args := [.ptr b 0, .i 0]) (f := 158) (by simp [go_sem]) hds (by decide) (okPends_does (by simp [go_sem, carC])) ?_
  refine K_run hB 4 ?_
  simp [go_sem, carC]
  refine K_dMark (v := .t (.sl (x.stops.map Stop.t))) (by simp [go_sem]) (by simp [go_sem, carC]) ⟨rfl, ⟨6, fun t => if t = 13 then .ptr b 3 else .any, .t (.sl (x.stops.map Stop.t)), some (noObj, 0)⟩, by simp, by simp, rfl, rfl, fun t h => ?_⟩ ?_
  · have : t = 13 := by simpa [looksOf, Oper.looksAt, Op.operands] using h
    subst this
    simp [go_sem]
  refine K_run hB 2 ?_
  simp [go_sem, g4, g5, g3, Stop.t]
  refine K_dAny (v := .i z.due) (by simp [go_sem]) (fun σ nx => by simp [go_sem, Stop.t, g3, g5]) ?_
  by_cases c1 : z.due < c.now + d
  · rw [if_pos c1] at hR
    subst hR
    refine K_run hB 100 ?_
    simp [go_sem, c1, hdr, carC]
    exact fun j h1 h2 h3 => absurd h3 h2
  · rw [if_neg c1] at hR
    subst hR
    refine K_run hB 100 ?_
    simp [go_sem, c1, hdr, carC]
    exact fun j h1 h2 h3 => absurd h3 h2
def Inst.car0 (x : Inst) : Car := ⟨0, (x.stop 0).ready, 0, 0, 0, 0, [], []⟩
theorem car0_fit {x : Inst} {p : Nat} (hx : x.Fit p) : x.car0.Fit p 0 := by
  have h1 := (hx.at (j := 0) (by omega) (by omega)).ready
  refine ⟨by simp only [Inst.car0]; omega, by simp only [Inst.car0]; omega, by simp only [Inst.car0]; omega, by simp only [Inst.car0]; omega, by simp [Inst.car0], by simp [Inst.car0], rfl, rfl, (fun y hy => by cases hy), ?_⟩
  have := filter_lt (p := fun _ : Nat => true) (q := fun j : Nat => decide (1 ≤ j) && !hasB x.car0.seen (j : Int)) (List.range (2 * p + 1)) (a := 0) (List.mem_range.2 (by omega)) rfl (by simp) (fun _ _ => rfl)
  rw [List.filter_eq_self.2 (fun _ _ => rfl), List.length_range] at this
  omega
theorem begin_spec (x : Inst) {p : Nat} (hx : x.Fit p) (σ : Nat → AObj) (nx : Nat) :
    CallQ P 130 [x.a] σ nx fun r σ' nx' => ∃ b, r = .ptr b 0 ∧ nx ≤ b ∧ b < nx' ∧ σ' b = .box [.t (.i x.pairs), .t (.i x.cars), .t (.i x.room), .t (.sl (x.stops.map Stop.t)), .i 0, .i (x.stop 0).ready, .i 0, .i 0, .u 0, .u 0, .fsl [], .fsl []] ∧ ∀ j, j < nx → σ' j = σ j := by
  refine spec_of Try.func130 rfl rfl (by simp [Try.f130]) fun B hB hnx hσ => ?_
  simp only [Try.f130] at hB ⊢
  have g1 := hx.lt (j := 0) (by omega)
  have g3 := hx.get0
  generalize x.stop 0 = z at *
  have g4 : (0 : Int) < x.stops.length := g1
  have g5 : 0 < x.stops.length := by omega
  refine K_run hB 100 ?_
  simp [go_sem, Inst.a]
  refine K_drawnT [7] rfl (by rw [hB]; kernel_rfl) (by kernel_rfl) fun ht => ?_
  refine K_run hB 100 ?_
  simp [go_sem, ht, g4, g5, g3, Stop.t]
  exact ⟨by omega, fun j h1 => by simp [show ¬ j = nx by omega, show ¬ j = nx + 1 by omega]⟩
def Inst.runC (x : Inst) : List Int → Car → Car × Int
  | [], c => x.homeC c
  | i :: r, c => if (x.visitC c i).2 ≠ 0 then x.visitC c i else x.runC r (x.visitC c i).1
/-- What a route that is gone leaves behind. -/
def RunQ (x : Inst) (R : Car × Int) (σ : Nat → AObj) (nx : Nat) (r : AV) (σ' : Nat → AObj) (nx' : Nat) : Prop :=
  nx ≤ nx' ∧ (∀ j, j < nx → σ' j = σ j) ∧ ((R.2 ≠ 0 ∧ r = .tup [.t (.v (.pointer none)), .i R.2]) ∨ (R.2 = 0 ∧ ∃ b qt ql, r = .tup [.ptr b 0, .i 0] ∧ b < nx' ∧ σ' b = .box (carC x R.1 qt ql) ∧ Rows3 R.1 σ' nx' b qt ql))
structure RX where
  lb : Nat
  k : Nat
  c : Car
  e : Int
  b : Nat
  qt : Nat
  ql : Nat
  σ : Nat → AObj
  nx : Nat
structure RX.I (x : Inst) (p : Nat) (route : List Int) (R : Car × Int) (σ0 : Nat → AObj) (nx0 : Nat) (a : RX) : Prop where
  go : (a.lb = 1 ∧ a.k ≤ route.length ∧ a.c.Fit p a.k ∧ a.b < a.nx ∧ nx0 < a.b ∧ nx0 < a.qt ∧ nx0 < a.ql ∧ a.σ a.b = .box (carC x a.c a.qt a.ql) ∧ Rows3 a.c a.σ a.nx a.b a.qt a.ql ∧ x.runC (route.drop a.k) a.c = R) ∨ (a.lb = 0 ∧ a.e = R.2 ∧ R.2 ≠ 0)
  old : ∀ j, j ≤ nx0 → a.σ j = σ0 j
  nx : nx0 < a.nx
def RX.st (route : List Int) (a : RX) : St := ⟨sl (if a.lb = 1 then [(1, .t (.sl (ints route))), (6, .ptr a.b 0), (7, .i a.k)] else [(8, .i a.e)]), a.σ, a.nx⟩
def RX.m (route : List Int) (a : RX) : Nat := if a.lb = 1 then route.length + 1 - a.k else 0
theorem run_spec (x : Inst) (route : List Int) (hm : x.may = true) (hr : route.length < 2 ^ 63) (σ : Nat → AObj) (nx : Nat) :
    CallQ P 92 [x.a, .t (.sl (ints route))] σ nx (RunQ x (x.runC route x.car0) σ nx) := by
  generalize hR : x.runC route x.car0 = R
  obtain ⟨p, hx⟩ := x.fit hm
  have hlen := hx.len
  have hfew := hx.few
  have hil : (ints route).length = route.length := List.length_map _
  refine spec_of Try.func92 rfl rfl (by simp [Try.f92]) fun B hB hnx hσ => ?_
  simp only [Try.f92] at hB ⊢
  refine K_run hB 100 ?_
  simp [go_sem, Inst.a]
  obtain ⟨σ1, hσ1⟩ : ∃ σ1 : Nat → AObj, σ1 = oput σ nx (.box x.cs) := ⟨_, rfl⟩
  refine K_scopeF RX.lb (RX.I x p route R σ1 nx) (RX.st route) (RX.m route) (fun a ha => ?_) ?_ ?_
  · rcases ha.go with ⟨h, _⟩ | ⟨h, _⟩ <;> rw [h] <;> rfl
  · rintro ⟨lb, k, c, e, b, qt, ql, σ', nx'⟩ ⟨hgo, hold, hnx'⟩ fall
    simp only at hgo hold hnx'
    rcases hgo with ⟨rfl, g1, g2, g3, g4, g5, g6, g7, g8, g9⟩ | ⟨rfl, rfl, g2⟩
    · show Kp P B (.code (tailC _ 1) :: _) _ _ _
      simp [tailC, findLabel]
      refine K_run hB 100 ?_
      simp [go_sem, RX.st, hil]
      refine fork_dec (fun hk => ?_) (fun hk => ?_)
      · have hget := ints_getS route hk
        rw [List.drop_eq_getElem_cons hk, Inst.runC] at g9
        have hfit := visitC_fit (i := route[k]) hx g2
        have hvs := visit_spec x c route[k] hx g2 g3 g7 g8
        have hkk : IntKind.i64.wrap ((k : Int) + 1) = ((k + 1 : Nat) : Int) := by rw [w64 ((k : Int) + 1) (by omega)]; rfl
        generalize route[k] = i at *
        generalize x.visitC c i = V at *
        simp [go_sem, hil, hk, hget]
        refine K_callQ rfl rfl rfl (args := [.ptr b 0, .i i]) (f := 131) (by simp [go_sem]) (by simp [go_sem, hB]) hvs ?_
        rintro r σ2 nx2 ⟨rfl, v1, qt2, ql2, v2, v3, v4, v5, v6⟩
        have hold2 : ∀ j, j ≤ nx → σ2 j = σ1 j := fun j hj => by
          rw [v4 j (by omega) (by omega) (by omega) (by omega)]
          exact hold j hj
        by_cases c1 : V.2 = 0
        · rw [if_neg (by simp [c1])] at g9
          refine K_run hB 100 ?_
          simp [go_sem, c1, hkk]
          refine ⟨⟨1, k + 1, V.1, 0, b, qt2, ql2, σ2, nx2⟩, ⟨.inl ⟨rfl, by simp only; omega, hfit c1, by simp only; omega, g4, by simp only; omega, by simp only; omega, v2, v3, g9⟩, hold2, by simp only; omega⟩, rfl, Imp.slots (by simp [go_sem, RX.st]) rfl rfl, by simp only [RX.m, if_true]; omega⟩
        · rw [if_pos c1] at g9
          subst g9
          refine K_run hB 100 ?_
          simp [go_sem, c1]
          refine ⟨⟨0, 0, c, V.2, b, qt2, ql2, σ2, nx2⟩, ⟨.inr ⟨rfl, rfl, c1⟩, hold2, by simp only; omega⟩, rfl, Imp.slots (by simp [go_sem, RX.st]) rfl rfl, by simp [RX.m]; omega⟩
      · have : k = route.length := by omega
        subst this
        rw [List.drop_length, Inst.runC] at g9
        have hhs := homeC_spec x c hx g2 g3 g7 g8.ltT g8.ltL
        have hht := homeC_times x c
        rw [g9] at hhs hht
        simp [go_sem]
        refine K_call rfl rfl rfl (args := [.ptr b 0]) (f := 132) (by simp [go_sem]) (by simp [go_sem, hB]) hhs ?_
        by_cases c1 : R.2 = 0
        · refine K_run hB 100 ?_
          simp [go_sem, c1]
          have hne : ∀ j, j < nx → j ≠ b := fun j hj => by omega
          refine ⟨by omega, by omega, fun j hj => ?_, .inr ⟨c1, b, qt, ql, rfl, g3, by simp [oput], ⟨?_, ?_, g8.ltT, g8.ltL, g8.neT, g8.neL, g8.ne⟩⟩⟩
          · have := hold j (by omega)
            simp [oput, hne j hj, this, hσ1, show ¬ j = nx by omega]
          · simp [oput, g8.neT, g8.tm, hht.1]
          · simp [oput, g8.neL, g8.ld, hht.2]
        · refine K_run hB 9 ?_
          simp [go_sem, c1]
          refine fall 0 _ ?_
          refine ⟨⟨0, 0, c, R.2, b, qt, ql, _, nx'⟩, ⟨.inr ⟨rfl, rfl, c1⟩, fun j hj => ?_, by simp only; omega⟩, rfl, Imp.slots (by simp [go_sem, RX.st]) rfl rfl, by simp [RX.m]⟩
          simp only at hj ⊢
          have := hold j hj
          simp [oput, show ¬ j = b by omega, this]
    · show Kp P B (.code (tailC _ 0) :: _) _ _ _
      simp [tailC, findLabel]
      refine K_run hB 100 ?_
      simp [go_sem, RX.st]
      exact ⟨by omega, by omega, fun j hj => by rw [hold j (by omega), hσ1]; simp [oput, show ¬ j = nx by omega], .inl ⟨g2, rfl⟩⟩
  · intro J hJ
    refine K_run hB 100 ?_
    simp [go_sem]
    refine K_call rfl rfl rfl (args := [x.a]) (f := 28) (by simp [go_sem, Inst.a]) (by simp [go_sem, hB]) ((may_pure x (by omega)).spec _ _) ?_
    refine K_run hB 100 ?_
    simp [go_sem, hm]
    refine K_callQ rfl rfl rfl (args := [x.a]) (f := 130) (by simp [go_sem, Inst.a]) (by simp [go_sem, hB]) (begin_spec x hx _ _) ?_
    rintro r σ2 nx2 ⟨b, rfl, b1, b2, b3, b4⟩
    simp only at b1 b2 b3 b4
    refine K_run hB 4 ?_
    simp [go_sem]
    obtain ⟨σ3, hσ3⟩ : ∃ σ3 : Nat → AObj, σ3 = oput (oput (oput (oput σ2 b (.box [.t (.i x.pairs), .t (.i x.cars), .t (.i x.room), .t (.sl (x.stops.map Stop.t)), .i 0, .i (x.stop 0).ready, .i 0, .i 0, .u 0, .u 0, .ref nx2, .fsl []])) nx2 (.arr 3 [])) b (.box (carC x x.car0 nx2 (nx2 + 1)))) (nx2 + 1) (.arr 1 []) := ⟨_, rfl⟩
    refine hJ 1 _ ⟨⟨1, 0, x.car0, 0, b, nx2, nx2 + 1, σ3, nx2 + 2⟩, ⟨.inl ⟨rfl, Nat.zero_le _, car0_fit hx, by simp only; omega, by simp only; omega, by simp only; omega, by simp only; omega, ?_, ⟨?_, ?_, by simp only; omega, by simp only; omega, by simp only; omega, by simp only; omega, by simp only; omega⟩, hR⟩, ?_, by simp only; omega⟩, rfl, ?_⟩
    · simp [hσ3, oput, show ¬ b = nx2 + 1 by omega]
    · simp [hσ3, oput, show ¬ nx2 = b by omega, Inst.car0]
    · simp [hσ3, oput, Inst.car0, ints]
    · intro j hj
      simp only at hj ⊢
      simp only [hσ3, oput]
      rw [if_neg (by omega), if_neg (by omega), if_neg (by omega), if_neg (by omega), hσ1]
      exact b4 j (by omega)
    · refine (Imp.ownB (b := b) (off := 10) (sz := 3) (by simpa using b3) rfl).trans ((Imp.ownB (b := b) (off := 11) (sz := 1) (cs := [.t (.i x.pairs), .t (.i x.cars), .t (.i x.room), .t (.sl (x.stops.map Stop.t)), .i 0, .i (x.stop 0).ready, .i 0, .i 0, .u 0, .u 0, .ref nx2, .fsl []]) (by simp [oput, show ¬ b = nx2 by omega]) rfl).trans (Imp.slots (by simp [go_sem, RX.st]) ?_ rfl))
      rw [hσ3]; rfl
theorem run_no_spec (x : Inst) (route : List Int) (hm : x.may = false) (hl : x.stops.length < 2 ^ 63) (σ : Nat → AObj) (nx : Nat) :
    CallQ P 92 [x.a, .t (.sl (ints route))] σ nx fun r σ' nx' => r = .tup [.t (.v (.pointer none)), .i 1] := by
  refine spec_of Try.func92 rfl rfl (by simp [Try.f92]) fun B hB hnx hσ => ?_
  simp only [Try.f92] at hB ⊢
  refine K_run hB 100 ?_
  simp [go_sem, Inst.a]
  refine K_scopeL (α := Unit) (fun _ => 0) (fun _ => False) (fun _ => ⟨fun _ => .any, σ, nx⟩) (fun _ => 0) (fun _ h => h.elim) ?_ (fun _ h => h.elim)
  refine K_run hB 100 ?_
  simp [go_sem]
  refine K_call rfl rfl rfl (args := [x.a]) (f := 28) (by simp [go_sem, Inst.a]) (by simp [go_sem, hB]) ((may_pure x hl).spec _ _) ?_
  refine K_run hB 100 ?_
  simp [go_sem, hm]
def Inst.times (x : Inst) (route : List Int) : List (List T) × Int × Int :=
  if x.may = false then ([], 0, 1) else if (x.runC route x.car0).2 ≠ 0 then ([], 0, (x.runC route x.car0).2) else ((x.runC route x.car0).1.times, (x.runC route x.car0).1.gone, 0)
def timesA (r : List (List T) × Int × Int) : AV := .tup [.t (.sl r.1), .i r.2.1, .i r.2.2]
theorem times_pure (x : Inst) (route : List Int) (hl : x.stops.length < 2 ^ 63) (hr : route.length < 2 ^ 63) : Pure P 58 [x.a, .t (.sl (ints route))] (timesA (x.times route)) := by
  generalize hR : x.times route = R
  refine pure_of Try.func58 rfl rfl (by simp [Try.f58]) (by simp [bnd, bnd.bndL, Inst.a]) (by simp [bnd, bnd.bndL, timesA]) fun B hB hnx => ?_
  simp only [Try.f58] at hB ⊢
  rw [Inst.times] at hR
  refine K_run hB 100 ?_
  simp [go_sem, Inst.a]
  cases hm : x.may with
  | false =>
    rw [if_pos hm] at hR
    refine K_callQ rfl rfl rfl (args := [x.a, .t (.sl (ints route))]) (f := 92) (by simp [go_sem, Inst.a]) (by simp [go_sem, hB]) (run_no_spec x route hm hl _ _) ?_
    rintro r σ' nx' rfl
    subst hR
    refine K_run hB 100 ?_
    simp [go_sem, timesA]
  | true =>
    rw [if_neg (by simp [hm])] at hR
    have hrs := run_spec x route hm hr
    generalize x.runC route x.car0 = V at *
    refine K_callQ rfl rfl rfl (args := [x.a, .t (.sl (ints route))]) (f := 92) (by simp [go_sem, Inst.a]) (by simp [go_sem, hB]) (hrs _ _) ?_
    rintro r σ' nx' ⟨h1, h2, ⟨h3, rfl⟩ | ⟨h3, b, qt, ql, rfl, h4, h5, h6⟩⟩
    · rw [if_pos h3] at hR
      subst hR
      refine K_run hB 100 ?_
      simp [go_sem, h3, timesA]
    · rw [if_neg (by simp [h3])] at hR
      subst hR
      refine K_run hB 100 ?_
      simp [go_sem]
      refine K_drawn [] rfl (by rw [hB]; kernel_rfl) ?_
      refine K_run hB 100 ?_
      simp [go_sem, h5, carC, h6.tm, timesA]
end Go.Proofs.Ytlhmchdfmjfmgaa

/- What a plan costs. -/
set_option maxRecDepth 4000
namespace Go.Proofs.Ytlhmchdfmjfmgaa
open Go Go.Proofs.Ytlhmchdfmjfmgaa.R
def idxI (p : Int → Bool) : Nat → List Int → Int
  | _, [] => -1
  | i, n :: l => if p n = true then (i : Int) else idxI p (i + 1) l
theorem idxI_any (p : Int → Bool) : ∀ (i : Nat) (l : List Int), (0 ≤ idxI p i l) ↔ l.any p = true
  | _, [] => by simp [idxI]
  | i, n :: l => by
    rw [idxI, List.any_cons]
    cases h : p n with
    | true => simp
    | false => simp [idxI_any p (i + 1) l]
theorem indexI_pure (l : List Int) (p : Int → Bool) (f : FuncId) (hl : l.length < 2 ^ 62) (hf : ∀ n, Pure P f [.i n] (.b (p n))) : Pure P 56 [.t (.sl (ints l)), .fn (.func f) [] []] (.i (idxI p 0 l)) := by
  have hil : (ints l).length = l.length := List.length_map _
  refine pure_of Try.func56 rfl rfl (by simp [Try.f56]) (by simp [bnd, bnd.bndL]) (by simp [bnd, bnd.bndL]) fun B hB hnx => ?_
  simp only [Try.f56] at hB ⊢
  refine K_run hB 100 ?_
  simp [go_sem, hil]
  refine K_loopP (α := Nat) (fun k => k ≤ l.length ∧ idxI p k (l.drop k) = idxI p 0 l) (fun k => ⟨sl [(0, .t (.sl (ints l))), (1, .fn (.func f) [] []), (7, .i l.length), (8, .i k)], noObj, 0⟩) (fun k => l.length - k) 0 ⟨Nat.zero_le _, rfl⟩ (Imp.slots (by simp [go_sem]) rfl rfl) ?_
  rintro k ⟨h1, h2⟩
  refine K_run hB 60 ?_
  simp [go_sem]
  refine fork_dec (fun h => ?_) (fun h => ?_)
  · rw [List.drop_eq_getElem_cons h, idxI] at h2
    have hkk : IntKind.i64.wrap ((k : Int) + 1) = ((k + 1 : Nat) : Int) := by rw [w64 ((k : Int) + 1) (by omega)]; rfl
    have hget := ints_getS l h
    generalize l[k] = n at *
    have hp := hf n
    simp [go_sem, h, hil, hget]
    refine K_call rfl rfl rfl (args := [.i n]) (f := f) (by simp [go_sem]) (by simp [go_sem, hB]) (hp.spec _ _) ?_
    cases ho : p n with
    | true =>
      rw [ho, if_pos rfl] at h2
      refine K_run hB 100 ?_
      simp [go_sem, ← h2]
    | false =>
      rw [ho, if_neg (by simp)] at h2
      refine K_run hB 100 ?_
      simp [go_sem, hkk]
      exact Next.mk (k + 1) ⟨by omega, h2⟩ (Imp.slots (by simp [go_sem]) rfl rfl) (by omega)
  · have : k = l.length := by omega
    subst this
    rw [List.drop_length] at h2
    simp [go_sem, ← h2, idxI]
theorem containsI_pure (l : List Int) (p : Int → Bool) (f : FuncId) (hl : l.length < 2 ^ 62) (hf : ∀ n, Pure P f [.i n] (.b (p n))) : Pure P 60 [.t (.sl (ints l)), .fn (.func f) [] []] (.b (l.any p)) := by
  have hi := indexI_pure l p f hl hf
  have ha := idxI_any p 0 l
  refine pure_of Try.func60 rfl rfl (by simp [Try.f60]) (by simp [bnd, bnd.bndL]) (by simp [bnd, bnd.bndL]) fun B hB hnx => ?_
  simp only [Try.f60] at hB ⊢
  generalize idxI p 0 l = i at *
  refine K_run hB 100 ?_
  simp [go_sem]
  refine K_call rfl rfl rfl (args := [.t (.sl (ints l)), .fn (.func f) [] []]) (f := 56) (by simp [go_sem]) (by simp [go_sem, hB]) ((hi).spec _ _) ?_
  refine K_run hB 100 ?_
  simp [go_sem]
  rw [Bool.eq_iff_iff, decide_eq_true_eq]
  exact ha
theorem index1_pure (l : List Int) (v : Int) (hl : l.length < 2 ^ 62) : Pure P 93 [.t (.sl (ints l)), .i v] (.i (idxI (fun n => decide (n = v)) 0 l)) := by
  have hil : (ints l).length = l.length := List.length_map _
  refine pure_of Try.func93 rfl rfl (by simp [Try.f93]) (by simp [bnd, bnd.bndL]) (by simp [bnd, bnd.bndL]) fun B hB hnx => ?_
  simp only [Try.f93] at hB ⊢
  refine K_run hB 100 ?_
  simp [go_sem, hil]
  refine K_loopP (α := Nat) (fun k => k ≤ l.length ∧ idxI (fun n => decide (n = v)) k (l.drop k) = idxI (fun n => decide (n = v)) 0 l) (fun k => ⟨sl [(0, .t (.sl (ints l))), (1, .i v), (7, .i l.length), (8, .i k)], noObj, 0⟩) (fun k => l.length - k) 0 ⟨Nat.zero_le _, rfl⟩ (Imp.slots (by simp [go_sem]) rfl rfl) ?_
  rintro k ⟨h1, h2⟩
  refine K_run hB 60 ?_
  simp [go_sem]
  refine fork_dec (fun h => ?_) (fun h => ?_)
  · rw [List.drop_eq_getElem_cons h, idxI] at h2
    have hkk : IntKind.i64.wrap ((k : Int) + 1) = ((k + 1 : Nat) : Int) := by rw [w64 ((k : Int) + 1) (by omega)]; rfl
    have hget := ints_getS l h
    generalize l[k] = n at *
    by_cases ho : v = n
    · subst ho
      rw [if_pos (by simp)] at h2
      simp [go_sem, h, hil, hget, ← h2]
    · have ho' : ¬ n = v := fun e => ho e.symm
      rw [if_neg (by simp [ho'])] at h2
      simp [go_sem, h, hil, hget, ho, hkk]
      exact Next.mk (k + 1) ⟨by omega, h2⟩ (Imp.slots (by simp [go_sem]) rfl rfl) (by omega)
  · have : k = l.length := by omega
    subst this
    rw [List.drop_length] at h2
    simp [go_sem, ← h2, idxI]
theorem contains1_pure (l : List Int) (v : Int) (hl : l.length < 2 ^ 62) : Pure P 61 [.t (.sl (ints l)), .i v] (.b (l.any fun n => decide (n = v))) := by
  have hi := index1_pure l v hl
  have ha := idxI_any (fun n => decide (n = v)) 0 l
  refine pure_of Try.func61 rfl rfl (by simp [Try.f61]) (by simp [bnd, bnd.bndL]) (by simp [bnd, bnd.bndL]) fun B hB hnx => ?_
  simp only [Try.f61] at hB ⊢
  generalize idxI (fun n => decide (n = v)) 0 l = i at *
  refine K_run hB 100 ?_
  simp [go_sem]
  refine K_call rfl rfl rfl (args := [.t (.sl (ints l)), .i v]) (f := 93) (by simp [go_sem]) (by simp [go_sem, hB]) ((hi).spec _ _) ?_
  refine K_run hB 100 ?_
  simp [go_sem]
  rw [Bool.eq_iff_iff, decide_eq_true_eq]
  exact ha
theorem twice_pure (n : Int) : Pure P 59 [.i n] (.b (decide (1 < n))) := by
  refine pure_of Try.func59 rfl rfl (by simp [Try.f59]) (by simp [bnd, bnd.bndL]) (by simp [bnd, bnd.bndL]) fun B hB hnx => ?_
  simp only [Try.f59] at hB ⊢
  refine K_run hB 100 ?_
  simp [go_sem]
def bump (s : List Int) (i : Int) : List Int := s.set i.toNat (s.getD i.toNat 0 + 1)
def Inst.costGo (x : Inst) : List (List Int) → Int → List Int → Int × Int
  | [], all, seen => if (seen.any fun n => decide (1 < n)) = true then (0, 5) else if ((seen.drop 1).any fun n => decide (n = 0)) = true then (0, 4) else (all, 0)
  | r :: rs, all, seen => if r.length = 0 then (0, 1) else if (x.times r).2.2 ≠ 0 then (0, (x.times r).2.2) else x.costGo rs (all + (x.times r).2.1) (r.foldl bump seen)
def Inst.cost (x : Inst) (p : List (List Int)) : Int × Int :=
  if x.may = false then (0, 1) else if x.cars < p.length then (0, 6) else x.costGo p 0 (List.replicate (2 * x.pairs + 1).toNat 0)
/-- A route that can be gone. -/
theorem runC_ok {x : Inst} {p : Nat} (hx : x.Fit p) : ∀ (r : List Int) (c : Car) (k : Nat), c.Fit p k → (x.runC r c).2 = 0 → (∀ i ∈ r, 1 ≤ i ∧ i ≤ 2 * p) ∧ k + r.length ≤ 2 * p ∧ 0 ≤ (x.runC r c).1.gone ∧ (x.runC r c).1.gone ≤ 14143 * (k + r.length + 1)
  | [], c, k, hc, h => by
    have hg := hc.gone
    have hf := far_le (x.stop c.spot) (x.stop 0)
    have := hc.le
    refine ⟨fun i hi => (by cases hi), by simpa using this, ?_⟩
    rw [Inst.runC, Inst.homeC]
    simp only [List.length_nil]
    split
    · simp only; omega
    · split <;> simp only [Inst.drive] <;> omega
  | i :: r, c, k, hc, h => by
    rw [Inst.runC] at h ⊢
    by_cases c1 : (x.visitC c i).2 = 0
    · rw [if_neg (by simp [c1])] at h ⊢
      obtain ⟨h1, h2, h3, h4⟩ := runC_ok hx r _ _ (visitC_fit hx hc c1) h
      have hv : x.visitsE c i = 0 := by
        rw [Inst.visitC] at c1
        split at c1
        · rename_i hh; exact absurd c1 hh
        · rename_i hh; simpa using hh
      obtain ⟨k1, k2, _⟩ := visits_ok hv
      have hp := hx.pairs
      rw [List.length_cons]
      refine ⟨fun j hj => ?_, by omega, h3, by omega⟩
      rcases List.mem_cons.1 hj with rfl | hj
      · omega
      · exact h1 j hj
    · rw [if_pos c1] at h
      exact absurd h c1
theorem times_ok {x : Inst} {p : Nat} (hx : x.Fit p) (hm : x.may = true) {r : List Int} (h : (x.times r).2.2 = 0) : (∀ i ∈ r, 1 ≤ i ∧ i ≤ 2 * p) ∧ r.length ≤ 2 * p ∧ 0 ≤ (x.times r).2.1 ∧ (x.times r).2.1 ≤ 14143 * 33 := by
  rw [Inst.times, if_neg (by simp [hm])] at h ⊢
  by_cases c1 : (x.runC r x.car0).2 = 0
  · rw [if_neg (by simp [c1])]
    obtain ⟨h1, h2, h3, h4⟩ := runC_ok hx r _ 0 (car0_fit hx) c1
    have := hx.few
    exact ⟨h1, by omega, h3, by simp only; omega⟩
  · rw [if_pos c1] at h
    exact absurd h c1
theorem bump_len (s : List Int) (i : Int) : (bump s i).length = s.length := List.length_set
theorem bumps_len : ∀ (r : List Int) (s : List Int), (r.foldl bump s).length = s.length
  | [], s => rfl
  | i :: r, s => by rw [List.foldl_cons, bumps_len, bump_len]
/-- No number in a list grows above what was added. -/
theorem bump_le {s : List Int} {m : Int} (h : ∀ n ∈ s, 0 ≤ n ∧ n ≤ m) (i : Int) : ∀ n ∈ bump s i, 0 ≤ n ∧ n ≤ m + 1 := by
  intro n hn
  by_cases hi : i.toNat < s.length
  · rcases List.mem_or_eq_of_mem_set hn with h1 | h1
    · have := h n h1; omega
    · have e : s.getD i.toNat 0 = s[i.toNat] := by rw [List.getD_eq_getElem?_getD, List.getElem?_eq_getElem hi]; rfl
      rw [e] at h1
      have := h _ (List.getElem_mem hi)
      omega
  · rw [bump, List.set_eq_of_length_le (by omega)] at hn
    have := h _ hn
    omega
theorem cost_pure (x : Inst) (p : List (List Int)) (hl : x.stops.length < 2 ^ 63) (hp : p.length < 2 ^ 63) (hr : ∀ r ∈ p, r.length < 2 ^ 63) : Pure P 33 [x.a, .agg [.t (.sl (p.map rowT))]] (.tup [.i (x.cost p).1, .i (x.cost p).2]) := by
  generalize hR : x.cost p = R
  have hpl : (p.map rowT).length = p.length := List.length_map _
  refine pure_of Try.func33 rfl rfl (by simp [Try.f33]) (by simp [bnd, bnd.bndL, Inst.a]) (by simp [bnd, bnd.bndL]) fun B hB hnx => ?_
  simp only [Try.f33] at hB ⊢
  rw [Inst.cost] at hR
  refine K_run hB 100 ?_
  simp [go_sem, Inst.a]
  refine K_call rfl rfl rfl (args := [x.a]) (f := 28) (by simp [go_sem, Inst.a]) (by simp [go_sem, hB]) ((may_pure x hl).spec _ _) ?_
  cases hm : x.may with
  | false =>
    rw [if_pos hm] at hR
    subst hR
    refine K_run hB 100 ?_
    simp [go_sem]
  | true =>
    rw [if_neg (by simp [hm])] at hR
    obtain ⟨q, hx⟩ := x.fit hm
    have hpq := hx.pairs
    have hfew := hx.few
    have hcars := hx.cars
    by_cases c1 : x.cars < p.length
    · rw [if_pos c1] at hR
      subst hR
      refine K_run hB 100 ?_
      simp [go_sem, hpl, c1]
    rw [if_neg c1] at hR
    have w1 := w64 (2 * x.pairs) (by omega)
    have w2 := w64 (2 * x.pairs + 1) (by omega)
    refine K_run hB 100 ?_
    simp [go_sem, hpl, c1]
    refine K_drawnG [4] [5] [] rfl (by rw [hB]; kernel_rfl) (by kernel_rfl) fun ht hf' => ?_
    have hml : 2 * x.pairs + 1 ≤ (mostLen : Int) := by show _ ≤ (4294967296 : Int); omega
    refine K_run hB 100 ?_
    simp [go_sem, ht, hf', w1, w2, hml, show 0 ≤ 2 * x.pairs + 1 by omega, hpl]
    have hrep : List.replicate (2 * x.pairs + 1).toNat [(.i 0 : T)] = ints (List.replicate (2 * x.pairs + 1).toNat 0) := by simp [ints]
    refine K_loopP (α := Nat × Int × List Int) (fun (k, all, seen) => k ≤ p.length ∧ seen.length = 2 * q + 1 ∧ x.costGo (p.drop k) all seen = R ∧ (0 ≤ all ∧ all ≤ 466719 * k) ∧ ∀ n ∈ seen, 0 ≤ n ∧ n ≤ 33 * k)
      (fun (k, all, seen) => ⟨sl [(2, .ptr 0 0), (6, .i all), (7, .ref 2), (33, .t (.sl (p.map rowT))), (34, .i p.length), (35, .i k)], ob [(0, .box x.cs), (2, .arr 1 (ints seen))], 3⟩) (fun a => p.length - a.1) (0, 0, List.replicate (2 * x.pairs + 1).toNat 0) ?_
      (Sub.of (by omega) (by simp) (by simp [go_sem]) (by simp [go_sem, hrep])) ?_
    · refine ⟨Nat.zero_le _, by rw [List.length_replicate]; omega, hR, by omega, fun n hn => ?_⟩
      rw [(List.mem_replicate.1 hn).2]; omega
    rintro ⟨k, all, seen⟩ ⟨h1, h2, h3, h4, h5⟩
    refine K_run hB 60 ?_
    simp [go_sem, hpl]
    refine fork_dec (fun hk => ?_) (fun hk => ?_)
    · rw [List.drop_eq_getElem_cons hk, Inst.costGo] at h3
      have hkk : IntKind.i64.wrap ((k : Int) + 1) = ((k + 1 : Nat) : Int) := by rw [w64 ((k : Int) + 1) (by omega)]; rfl
      have hrl := hr p[k] (List.getElem_mem hk)
      have hget : (p.map rowT)[k]'(by rw [hpl]; exact hk) = [.sl (ints p[k])] := by simp [rowT]
      generalize p[k] = r at *
      have hil : (ints r).length = r.length := List.length_map _
      have hte := times_pure x r hl hrl
      have hok := times_ok hx hm (r := r)
      by_cases c2 : r.length = 0
      · rw [if_pos c2] at h3
        subst h3
        simp [go_sem, hk, hpl, hget, hil, c2]
      rw [if_neg c2] at h3
      generalize x.times r = V at *
      simp [go_sem, hk, hpl, hget, hil, c2]
      refine K_call rfl rfl rfl (args := [x.a, .t (.sl (ints r))]) (f := 58) (by simp [go_sem, Inst.a]) (by simp [go_sem, hB]) ((hte).spec _ _) ?_
      by_cases c3 : V.2.2 = 0
      rotate_left
      · rw [if_pos c3] at h3
        subst h3
        refine K_run hB 100 ?_
        simp [go_sem, timesA, c3]
      rw [if_neg (by simp [c3])] at h3
      obtain ⟨o1, o2, o3, o4⟩ := hok c3
      have w3 := w64 (all + V.2.1) (by omega)
      have hbl := bumps_len r seen
      refine K_run hB 100 ?_
      simp [go_sem, timesA, c3, w3, hil]
      refine K_loopP (α := Nat × List Int) (fun (j, s) => j ≤ r.length ∧ s.length = 2 * q + 1 ∧ (r.drop j).foldl bump s = r.foldl bump seen ∧ ∀ n ∈ s, 0 ≤ n ∧ n ≤ 33 * k + j)
        (fun (j, s) => ⟨sl [(2, .ptr 0 0), (6, .i (all + V.2.1)), (7, .ref 2), (33, .t (.sl (p.map rowT))), (34, .i p.length), (35, .i k), (55, .t (.sl (ints r))), (56, .i r.length), (57, .i j)], ob [(0, .box x.cs), (2, .arr 1 (ints s))], 3⟩) (fun a => r.length - a.1) (0, seen) ⟨Nat.zero_le _, h2, rfl, fun n hn => by have := h5 n hn; omega⟩
        (Sub.of (by omega) (by simp) (by simp [go_sem]) (by simp [go_sem])) ?_
      rintro ⟨j, s⟩ ⟨i1, i2, i3, i4⟩
      refine K_run hB 60 ?_
      simp [go_sem, hil]
      refine fork_dec (fun hj => ?_) (fun hj => ?_)
      · rw [List.drop_eq_getElem_cons hj, List.foldl_cons] at i3
        have hjj : IntKind.i64.wrap ((j : Int) + 1) = ((j + 1 : Nat) : Int) := by rw [w64 ((j : Int) + 1) (by omega)]; rfl
        have hgetj := ints_getS r hj
        have hin := o1 r[j] (List.getElem_mem hj)
        generalize r[j] = i at *
        have hisl : (ints s).length = s.length := List.length_map _
        have hlt : i.toNat < s.length := by omega
        have hltI : i < (s.length : Int) := by omega
        have hgets := ints_getS s hlt
        have hsi := i4 _ (List.getElem_mem hlt)
        have w4 := w64 (s[i.toNat] + 1) (by omega)
        have hb : bump s i = s.set i.toNat (s[i.toNat] + 1) := by rw [bump, List.getD_eq_getElem?_getD, List.getElem?_eq_getElem hlt]; rfl
        have hbi : ints (bump s i) = (ints s).set i.toNat [.i (s[i.toNat] + 1)] := by rw [hb, ints, ints, List.map_set]
        have hbl1 := bump_len s i
        have hble := bump_le (m := 33 * k + j) i4 i
        generalize s[i.toNat] = m at *
        simp [go_sem, hj, hil, hgetj, show 0 ≤ i by omega, hltI, hisl, hgets, w4, hjj, hlt, Nat.mod_one]
        refine Next.mk (j + 1, bump s i) ⟨by simp only; omega, by simp only; omega, i3, fun n hn => by have := hble n hn; simp only; omega⟩ (Sub.of (by omega) (by simp) (by simp [go_sem]) (by simp [go_sem, hbi])) (by simp only; omega)
      · have : j = r.length := by omega
        subst this
        rw [List.drop_length, List.foldl_nil] at i3
        subst i3
        simp [go_sem, hkk]
        exact Next.mk (k + 1, all + V.2.1, r.foldl bump seen) ⟨by simp only; omega, by simp only; omega, h3, by simp only; omega, fun n hn => by have := i4 n hn; simp only; omega⟩ (Sub.of (by omega) (by simp) (by simp [go_sem]) (by simp [go_sem])) (by simp only; omega)
    · have : k = p.length := by omega
      subst this
      rw [List.drop_length, Inst.costGo] at h3
      have hsl : seen.length < 2 ^ 62 := by omega
      have hc1 := containsI_pure seen (fun n => decide (1 < n)) 59 hsl twice_pure
      have hc2 := contains1_pure (seen.drop 1) 0 (by rw [List.length_drop]; omega)
      have hdr : ints (seen.drop 1) = (ints seen).drop 1 := by simp [ints, List.map_drop]
      have hisl : (ints seen).length = seen.length := List.length_map _
      have hone : ∀ y ∈ ints seen, y.length = 1 := by
        intro y hy
        simp only [ints, List.mem_map] at hy
        obtain ⟨n, _, rfl⟩ := hy
        rfl
      simp [go_sem]
      refine K_imp (t := ⟨sl [(6, .i all), (7, .t (.sl (ints seen))), (70, .t (.sl (ints seen))), (71, .fn (.func 59) [] [])], noObj, 3⟩) ((Imp.freeze (q := 2) (sz := 1) (es := ints seen) (by simp [go_sem])).trans (Imp.of (by simp [go_sem, frz1]) (fun i => .inl rfl) rfl)) ?_
      refine K_call rfl rfl rfl (args := [.t (.sl (ints seen)), .fn (.func 59) [] []]) (f := 60) (by simp [go_sem]) (by simp [go_sem, hB]) (hc1.spec _ _) ?_
      cases e1 : seen.any fun n => decide (1 < n) with
      | true =>
        rw [if_pos e1] at h3
        subst h3
        refine K_run hB 100 ?_
        simp [go_sem]
      | false =>
        rw [if_neg (by simp [e1])] at h3
        refine K_run hB 100 ?_
        simp [go_sem, hisl, h2, if_pos hone, hone, show (1 : Int) ≤ 2 * (q : Int) + 1 by omega]
        have hdr2 : (ints seen).tail = ints seen.tail := by simp [ints]
        cases e2 : (seen.drop 1).any fun n => decide (n = 0) with
        | true =>
          rw [if_pos e2] at h3
          rw [e2] at hc2
          subst h3
          refine K_call rfl rfl rfl (args := [.t (.sl (ints (seen.drop 1))), .i 0]) (f := 61) (by simp [go_sem, hdr2]) (by simp [go_sem, hB]) (hc2.spec _ _) ?_
          refine K_run hB 100 ?_
          simp [go_sem]
        | false =>
          rw [if_neg (by rw [e2]; simp)] at h3
          rw [e2] at hc2
          subst h3
          refine K_call rfl rfl rfl (args := [.t (.sl (ints (seen.drop 1))), .i 0]) (f := 61) (by simp [go_sem, hdr2]) (by simp [go_sem, hB]) (hc2.spec _ _) ?_
          refine K_run hB 100 ?_
          simp [go_sem]
end Go.Proofs.Ytlhmchdfmjfmgaa

/- What can be followed and ended is the tour of a plan: the plain law. -/
set_option maxRecDepth 4000
namespace Go.Proofs.Ytlhmchdfmjfmgaa
open Go Go.Proofs.Ytlhmchdfmjfmgaa.R
/-- A car goes as a state says; what was seen ahead of its route: m0. -/
structure Sim1 (x : Inst) (p m0 : Nat) (s : State) (c : Car) (k : Nat) : Prop where
  spot : c.spot = s.spot
  now : c.now = s.time
  load : c.load = s.load
  on : c.on = s.on
  seen : ∀ i, 1 ≤ i → i ≤ 2 * p → s.must.testBit i = (m0.testBit i || c.seen.testBit i)
  old : ∀ i, 1 ≤ i → i ≤ p → m0.testBit i = true → m0.testBit (i + p) = true
  fit : c.Fit p k
  good : Good x p s
theorem Sim1.step {x : Inst} {p m0 k : Nat} {s : State} {c : Car} {j : Int} (hx : x.Fit p) (h : Sim1 x p m0 s c k) (hj : j ≠ 0) (hm : (x.move s j).2.2 = true) :
    (x.visitC c j).2 = 0 ∧ Sim1 x p m0 (x.move s j).1 (x.visitC c j).1 (k + 1) ∧ (x.visitC c j).1.gone = c.gone + (x.move s j).2.1 := by
  obtain ⟨g1, g2, g3, g4, g5, g6⟩ := good_step hx h.good hm
  obtain ⟨m1, m2, m3, m4, m5, m6, m7, m8⟩ := move_pos hm hj
  have hp := hx.pairs
  have hfew := hx.few
  obtain ⟨i, rfl⟩ : ∃ i : Nat, j = i := ⟨j.toNat, by omega⟩
  simp only [Inst.lateB, Bool.or_eq_false_iff, decide_eq_false_iff_not] at m5
  rw [has_testN (by omega)] at m5
  have hs := h.seen i (by omega) (by omega)
  rw [m5.1] at hs
  have hv : x.visitsE c i = 0 := by
    rw [Inst.visitsE, if_neg (by omega), if_neg, if_neg, if_neg]
    · rw [h.load]
      by_cases hi : (i : Int) ≤ x.pairs
      · have := m6 hi
        simp only [Inst.fullB, Bool.or_eq_false_iff, decide_eq_false_iff_not] at this
        omega
      · have hb := hx.bring (k := i - p) (by omega) (by omega)
        have ht := hx.take (k := i - p) (by omega) (by omega)
        have hr := h.good.room
        rw [show i - p + p = i by omega] at hb
        omega
    · rintro ⟨hi, hq⟩
      have := m7 hi
      simp only [Inst.emptyB, Bool.or_eq_false_iff, Bool.not_eq_false', decide_eq_false_iff_not] at this
      have e : (i : Int) - x.pairs = ((i - p : Nat) : Int) := by omega
      rw [e] at this hq
      rw [has_testN (by omega), h.good.eq] at this
      rw [has_testN (by omega)] at hq
      have h1 := h.seen (i - p) (by omega) (by omega)
      rw [this.2, hq, Bool.or_false] at h1
      have h2 := h.old (i - p) (by omega) (by omega) h1.symm
      rw [show i - p + p = i by omega] at h2
      rw [h2] at hs
      cases hs
    · rw [has_testN (by omega)]
      intro hq
      rw [hq, Bool.or_true] at hs
      cases hs
  have hfar : x.visitC c i = ({ spot := i, now := x.begins s i + (x.stop i).service, gone := c.gone + far (x.stop s.spot) (x.stop i), load := s.load + (x.stop i).demand, seen := withN c.seen i, on := if (i : Int) ≤ x.pairs then withN s.on i else withoutN s.on (i - x.pairs), times := c.times ++ [[.i (s.time + far (x.stop s.spot) (x.stop i)), .i (x.begins s i), .i (x.begins s i + (x.stop i).service)]], loads := c.loads ++ [s.load + (x.stop i).demand] }, 0) := by
    rw [Inst.visitC, if_neg (by simp [hv]), h.spot, h.now, h.load, h.on, if_neg]
    · rfl
    · have := m5.2
      unfold Inst.begins at this
      exact this
  have hfit := visitC_fit hx h.fit (i := i) (by rw [hfar])
  rw [hfar] at hfit ⊢
  rw [if_pos (by omega)] at g4 g6
  refine ⟨rfl, ⟨?_, ?_, ?_, ?_, ?_, h.old, hfit, g1⟩, ?_⟩
  · rw [m8]; rfl
  · rw [m8]; rfl
  · rw [g6]
  · rw [m8]; rfl
  · intro n n1 n2
    rw [g4, with_bit (by omega), with_bit (by omega), h.seen n n1 n2, Bool.or_assoc]
  · rw [m8]
/-- How often each stop stands in what was seen so far. -/
def MatchS (p must : Nat) (seen : List Int) : Prop := seen.length = 2 * p + 1 ∧ ∀ i (h : i < seen.length), seen[i] = if 1 ≤ i ∧ must.testBit i = true then 1 else 0
theorem MatchS.bump {p must : Nat} {seen : List Int} (h : MatchS p must seen) {j : Nat} (h1 : 1 ≤ j) (h2 : j ≤ 2 * p) (h64 : j ≤ 63) (hn : must.testBit j = false) : MatchS p (withN must j) (bump seen j) := by
  obtain ⟨hl, hs⟩ := h
  refine ⟨by rw [bump_len]; exact hl, fun i hi => ?_⟩
  have hi' : i < seen.length := by rw [bump_len] at hi; exact hi
  have e : seen.getD j 0 = seen[j] := by rw [List.getD_eq_getElem?_getD, List.getElem?_eq_getElem (by omega)]; rfl
  have h0 := hs j (by omega)
  rw [if_neg (by simp [hn])] at h0
  simp only [Go.Proofs.Ytlhmchdfmjfmgaa.bump, Int.toNat_natCast, e, h0, List.getElem_set, with_bit h64]
  by_cases hji : j = i
  · subst hji
    simp [h1]
  · rw [if_neg hji, hs i hi']
    simp [hji]
theorem MatchS.end {p must : Nat} {seen : List Int} (h : MatchS p must seen) (ha : ∀ i, 1 ≤ i → i ≤ 2 * p → must.testBit i = true) : (seen.any fun n => decide (1 < n)) = false ∧ ((seen.drop 1).any fun n => decide (n = 0)) = false := by
  obtain ⟨hl, hs⟩ := h
  constructor
  · rw [List.any_eq_false]
    intro n hn
    obtain ⟨i, hi, rfl⟩ := List.mem_iff_getElem.1 hn
    rw [hs i hi]
    split <;> simp
  · rw [List.any_eq_false]
    intro n hn
    obtain ⟨i, hi, rfl⟩ := List.mem_iff_getElem.1 hn
    rw [List.getElem_drop, hs (1 + i) (by rw [List.length_drop] at hi; omega), if_pos ⟨by omega, ha _ (by omega) (by rw [List.length_drop] at hi; omega)⟩]
    simp
theorem runC_cons {x : Inst} {i : Int} {r : List Int} {c : Car} (h : (x.visitC c i).2 = 0) : x.runC (i :: r) c = x.runC r (x.visitC c i).1 := by
  rw [Inst.runC, if_neg (by simp [h])]
end Go.Proofs.Ytlhmchdfmjfmgaa
