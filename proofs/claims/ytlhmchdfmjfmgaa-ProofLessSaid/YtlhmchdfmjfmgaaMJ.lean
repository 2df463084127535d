/- Parts of the proof: Ways, Find, Pot, Look, Best, Law15, NarrowP, PfS, PfT, PfF, Rep, PfK, Law20, Every, Law15e, Sched. -/
import Derived.Test.YtlhmchdfmjfmgaaMI
set_option linter.unusedVariables false
/- What can follow a state, and end; what covers a state can be followed by the same. -/
set_option maxRecDepth 4000
namespace Go.Proofs.Ytlhmchdfmjfmgaa
open Go Go.Proofs.Ytlhmchdfmjfmgaa.R
/-- Moves that can follow a state, and end, and what they cost in all. -/
def Inst.way (x : Inst) : List Int → State → Int → Prop
  | [], s, c => (x.endS s).2 = true ∧ c = (x.endS s).1
  | j :: l, s, c => (x.move s j).2.2 = true ∧ ∃ d, x.way l (x.move s j).1 d ∧ c = (x.move s j).2.1 + d
theorem way_in {x : Inst} : ∀ {l : List Int} {s : State} {c : Int}, x.way l s c → 0 ≤ c ∧ c ≤ 14143 * (l.length + 1)
  | [], s, c, h => by
    have := end_cost h.1
    have := h.2
    simp only [List.length_nil]
    omega
  | j :: l, s, c, h => by
    obtain ⟨h1, d, h2, h3⟩ := h
    have := way_in h2
    have := move_cost h1
    rw [List.length_cons]
    omega
theorem way_len {x : Inst} : ∀ {l : List Int} {s : State} {c : Int}, x.way l s c → l.length ≤ x.meas s
  | [], s, c, h => Nat.zero_le _
  | j :: l, s, c, h => by
    obtain ⟨h1, d, h2, h3⟩ := h
    have := way_len h2
    have := meas_move h1
    rw [List.length_cons]
    omega
theorem way_low {x : Inst} : ∀ {l : List Int} {s : State} {c : Int}, s.seenAt → x.way l s c → lowP x.near s.can ≤ c
  | [], s, c, _, h => by rw [h.2]; exact low_end h.1
  | j :: l, s, c, hs, h => by
    obtain ⟨h1, d, h2, h3⟩ := h
    have := way_low (seen_step h1) h2
    have := low_step hs h1
    omega
theorem way_goes {x : Inst} : ∀ {l : List Int} {s : State} {c : Int} (c0 : Int), 0 ≤ c0 → c0 + 14143 * (l.length + 1) < 9223372036854775808 → x.way l s c → ∃ t c1, x.goes l s c0 = some (t, c1) ∧ (x.endS t).2 = true ∧ c0 + c = c1 + (x.endS t).1
  | [], s, c, c0, _, _, h => ⟨s, c0, rfl, h.1, by rw [h.2]⟩
  | j :: l, s, c, c0, h0, hl, h => by
    obtain ⟨h1, d, h2, h3⟩ := h
    have hc := move_cost h1
    rw [List.length_cons] at hl
    obtain ⟨t, c1, g1, g2, g3⟩ := way_goes (c0 + (x.move s j).2.1) (by omega) (by omega) h2
    refine ⟨t, c1, ?_, g2, by omega⟩
    rw [Inst.goes, if_pos h1, w64 _ (by omega)]
    exact g1
theorem goes_way {x : Inst} : ∀ {l : List Int} {s t : State} {c0 c1 : Int}, 0 ≤ c0 → c0 + 14143 * l.length < 9223372036854775808 → x.goes l s c0 = some (t, c1) → (x.endS t).2 = true → x.way l s (c1 - c0 + (x.endS t).1)
  | [], s, t, c0, c1, _, _, h, he => by
    rw [Inst.goes] at h
    cases h
    exact ⟨he, by omega⟩
  | j :: l, s, t, c0, c1, h0, hl, h, he => by
    rw [Inst.goes] at h
    split at h
    · rename_i hm
      have hc := move_cost hm
      rw [List.length_cons] at hl
      rw [w64 _ (by omega)] at h
      exact ⟨hm, _, goes_way (by omega) (by omega) h he, by omega⟩
    · cases h
theorem way_app {x : Inst} : ∀ {l : List Int} {s t : State} {c0 c1 : Int} {m : List Int} {d : Int}, 0 ≤ c0 → c0 + 14143 * l.length < 9223372036854775808 → x.goes l s c0 = some (t, c1) → x.way m t d → x.way (l ++ m) s (c1 - c0 + d)
  | [], s, t, c0, c1, m, d, _, _, h, he => by
    rw [Inst.goes] at h
    cases h
    have : c0 - c0 + d = d := by omega
    rw [this]
    exact he
  | j :: l, s, t, c0, c1, m, d, h0, hl, h, he => by
    rw [Inst.goes] at h
    split at h
    · rename_i hm
      have hc := move_cost hm
      rw [List.length_cons] at hl
      rw [w64 _ (by omega)] at h
      exact ⟨hm, _, way_app (by omega) (by omega) h he, by omega⟩
    · cases h
/-- What no state of an instance has less of. -/
structure State.Pos (s : State) : Prop where
  car : 1 ≤ s.car
  time : 0 ≤ s.time
  load : 0 ≤ s.load
theorem within_with {a b k : Nat} (hk : k ≤ 63) (h : withinB a b = true) : withinB (withN a k) (withN b k) = true := by
  rw [withinB, List.all_eq_true] at *
  intro i hi
  have := h i hi
  rw [with_bit hk, with_bit hk]
  revert this
  cases a.testBit i <;> cases b.testBit i <;> cases decide (k = i) <;> simp
theorem within_without {a b k : Nat} (hk : k ≤ 63) (h : withinB a b = true) : withinB (withoutN a k) (withoutN b k) = true := by
  rw [withinB, List.all_eq_true] at *
  intro i hi
  have := h i hi
  have hi' := List.mem_range.1 hi
  rw [without_bit hk hi', without_bit hk hi']
  revert this
  cases a.testBit i <;> cases b.testBit i <;> cases decide (k = i) <;> simp
theorem within_zero {a : Nat} (ha : a < 2 ^ 64) (h : withinB a 0 = true) : a = 0 := by
  refine Nat.eq_of_testBit_eq fun i => ?_
  by_cases hi : i < 64
  · rw [withinB, List.all_eq_true] at h
    have := h i (List.mem_range.2 hi)
    revert this
    cases a.testBit i <;> simp
  · rw [Nat.zero_testBit]
    exact Nat.testBit_lt_two_pow (Nat.lt_of_lt_of_le ha (Nat.pow_le_pow_right (by omega) (by omega)))
theorem cov_mk {a b : State} (e1 : a.spot = b.spot) (e2 : withinB a.must b.must = true) (e3 : withinB a.on b.on = true) (e4 : withinB b.can a.can = true) (e5 : a.car ≤ b.car) (e6 : a.time ≤ b.time) (e7 : a.load ≤ b.load) (e8 : a.first ≤ b.first) : coversB a b = true := by
  simp only [coversB, Bool.and_eq_true, decide_eq_true_eq]
  exact ⟨⟨⟨⟨⟨⟨⟨e1, e2⟩, e3⟩, e4⟩, e5⟩, e6⟩, e7⟩, e8⟩
theorem cov_may {x : Inst} {a b : State} (h : coversB a b = true) (hp : a.Pos) (hb : b.mayB x = true) : a.mayB x = true := by
  simp only [coversB, Bool.and_eq_true, decide_eq_true_eq] at h
  simp only [State.mayB, Bool.and_eq_true, decide_eq_true_eq] at hb ⊢
  have := hp.car
  have := hp.time
  have := hp.load
  omega
theorem cov_home {x : Inst} {a b : State} (hcov : coversB a b = true) (hp : a.Pos) (ho : a.ok) (h : (x.move b 0).2.2 = true) :
    x.move a 0 = (x.homeS a, far (x.stop b.spot) (x.stop 0), true) ∧ coversB (x.homeS a) (x.homeS b) = true ∧ (x.homeS a).Pos := by
  have hc := hcov
  simp only [coversB, Bool.and_eq_true, decide_eq_true_eq] at hc
  obtain ⟨⟨⟨⟨⟨⟨⟨e1, e2⟩, e3⟩, e4⟩, e5⟩, e6⟩, e7⟩, e8⟩ := hc
  obtain ⟨h1, h2, h3, h4⟩ := move_home h
  obtain ⟨p, hx⟩ := x.fit h1
  have hpp := hx.pairs
  have ha := cov_may hcov hp h2
  have hs : x.stayB a = false := by
    simp only [Inst.stayB, Bool.or_eq_false_iff, decide_eq_false_iff_not] at h3 ⊢
    obtain ⟨⟨⟨⟨a1, a2⟩, a3⟩, a4⟩, a5⟩ := h3
    have hon : a.on = 0 := by
      have : b.on = 0 := by omega
      rw [this] at e3
      exact within_zero ho.on e3
    refine ⟨⟨⟨⟨by rw [e1]; exact a1, by omega⟩, by omega⟩, ?_⟩, by rw [e1]; omega⟩
    cases hq : x.allB a.must with
    | false => rfl
    | true =>
      have := within_trans hq e2
      rw [Inst.allB] at a4
      rw [a4] at this
      cases this
  have hto : x.to a 0 = (x.homeS a, true) := by rw [Inst.to, if_pos rfl, Inst.home, if_neg (by rw [hs]; simp)]
  have hmv := move_mk (j := 0) h1 ha (by omega) (by rw [hto])
  rw [hto, e1] at hmv
  have h5 := (hx.at (j := 0) (by omega) (by omega)).ready
  have h6 := hp.car
  refine ⟨hmv, cov_mk (a := x.homeS a) (b := x.homeS b) rfl e2 e3 e4 ?_ ?_ ?_ e8, ⟨?_, ?_, ?_⟩⟩ <;> simp only [Inst.homeS] <;> omega
theorem cov_pos {x : Inst} {a b : State} {j : Int} (hj : j ≠ 0) (hcov : coversB a b = true) (hp : a.Pos) (h : (x.move b j).2.2 = true) :
    x.move a j = (x.rvisit a j (x.begins a j), far (x.stop b.spot) (x.stop j), true) ∧ coversB (x.rvisit a j (x.begins a j)) (x.rvisit b j (x.begins b j)) = true ∧ (x.rvisit a j (x.begins a j)).Pos := by
  have hc := hcov
  simp only [coversB, Bool.and_eq_true, decide_eq_true_eq] at hc
  obtain ⟨⟨⟨⟨⟨⟨⟨e1, e2⟩, e3⟩, e4⟩, e5⟩, e6⟩, e7⟩, e8⟩ := hc
  obtain ⟨h1, h2, h3, h4, h5, h6, h7, h8⟩ := move_pos h hj
  obtain ⟨p, hx⟩ := x.fit h1
  have hpp := hx.pairs
  have hfew := hx.few
  have ha := cov_may hcov hp h2
  have hbe : x.begins a j ≤ x.begins b j := by
    unfold Inst.begins
    rw [e1]
    omega
  have k1 : x.lateB a j = false := by
    simp only [Inst.lateB, Bool.or_eq_false_iff, decide_eq_false_iff_not] at h5 ⊢
    refine ⟨?_, by omega⟩
    cases hq : hasB a.must j with
    | false => rfl
    | true =>
      have := within_has e2 j hq
      rw [h5.1] at this
      cases this
  have k2 : j ≤ x.pairs → x.fullB a j = false := fun hh => by
    have := h6 hh
    simp only [Inst.fullB, Bool.or_eq_false_iff, Bool.and_eq_false_iff, decide_eq_false_iff_not] at this ⊢
    refine ⟨by omega, ?_⟩
    rcases this.2 with h9 | h9
    · exact .inl (by rw [e1]; exact h9)
    · exact .inr (by omega)
  have k3 : x.pairs < j → x.emptyB a j = false := fun hh => by
    have := h7 hh
    simp only [Inst.emptyB, Bool.or_eq_false_iff, Bool.not_eq_false', decide_eq_false_iff_not] at this ⊢
    exact ⟨by rw [e1]; exact this.1, within_has e4 _ this.2⟩
  have hto := to_visit (x := x) (s := a) hj k1 k2 k3
  have hmv := move_mk (j := j) h1 ha (by omega) (by rw [hto])
  rw [hto, e1] at hmv
  have h9 := (hx.at (j := j) (by omega) (by omega)).service
  have h10 := (far_le (x.stop a.spot) (x.stop j)).1
  have h11 := hp.time
  have h12 := hp.car
  have h13 : 0 ≤ x.begins a j := by unfold Inst.begins; omega
  obtain ⟨k, hk⟩ : ∃ k : Nat, j = k := ⟨j.toNat, by omega⟩
  refine ⟨hmv, ?_, ⟨?_, ?_, ?_⟩⟩
  · generalize x.begins a j = ta at *
    generalize x.begins b j = tb at *
    generalize x.stop j = sj at *
    refine cov_mk ?_ ?_ ?_ ?_ ?_ ?_ ?_ ?_
    · simp only [Inst.rvisit]
    · simp only [Inst.rvisit]
      rw [hk]
      exact within_with (by omega) e2
    · simp only [Inst.rvisit]
      rw [hk]
      split
      · exact within_with (by omega) e3
      · obtain ⟨q, hq⟩ : ∃ q : Nat, (k : Int) - x.pairs = q := ⟨((k : Int) - x.pairs).toNat, by omega⟩
        rw [hq]
        exact within_without (by omega) e3
    · simp only [Inst.rvisit]
      rw [hk]
      exact within_with (by omega) e4
    · simp only [Inst.rvisit]
      exact e5
    · simp only [Inst.rvisit]
      omega
    · simp only [Inst.rvisit]
      omega
    · simp only [Inst.rvisit]
      rw [e1]
      split
      · exact Int.le_refl _
      · exact e8
  · simp only [Inst.rvisit]; exact h12
  · simp only [Inst.rvisit]; omega
  · simp only [Inst.rvisit]; omega
theorem cov_move {x : Inst} {a b : State} {j : Int} (hc : coversB a b = true) (hp : a.Pos) (ho : a.ok) (h : (x.move b j).2.2 = true) :
    (x.move a j).2.2 = true ∧ (x.move a j).2.1 = (x.move b j).2.1 ∧ coversB (x.move a j).1 (x.move b j).1 = true ∧ (x.move a j).1.Pos := by
  by_cases hj : j = 0
  · subst hj
    obtain ⟨g1, g2, g3⟩ := cov_home hc hp ho h
    rw [g1, (move_home h).2.2.2]
    exact ⟨rfl, rfl, g2, g3⟩
  · obtain ⟨g1, g2, g3⟩ := cov_pos hj hc hp h
    rw [g1, (move_pos h hj).2.2.2.2.2.2.2]
    exact ⟨rfl, rfl, g2, g3⟩
theorem cov_end {x : Inst} {a b : State} (h0 : x.pairs ≠ 0) (hc : coversB a b = true) (hp : a.Pos) (ho : a.ok) (h : (x.endS b).2 = true) : (x.endS a).2 = true ∧ (x.endS a).1 = (x.endS b).1 := by
  have hcov := hc
  simp only [coversB, Bool.and_eq_true, decide_eq_true_eq] at hc
  obtain ⟨⟨⟨⟨⟨⟨⟨e1, e2⟩, e3⟩, e4⟩, e5⟩, e6⟩, e7⟩, e8⟩ := hc
  obtain ⟨h1, h2 | ⟨h2, h3, h4, h5, h6, h7⟩⟩ := end_is h
  · exact absurd h2.1 h0
  · have hon : a.on = 0 := by
      rw [h4] at e3
      exact within_zero ho.on e3
    have hend : x.endS a = (far (x.stop a.spot) (x.stop 0), true) := by
      rw [Inst.endS, if_neg (by simp [h1]), if_neg (fun h => h0 h.1), if_pos]
      refine ⟨cov_may hcov hp h2, by rw [e1]; exact h3, hon, ?_, by rw [e1]; omega⟩
      exact within_trans h5 e4
    rw [hend, h7, e1]
    exact ⟨rfl, rfl⟩
theorem cov_way {x : Inst} (h0 : x.pairs ≠ 0) : ∀ {l : List Int} {a b : State} {c : Int}, coversB a b = true → a.Pos → a.ok → x.way l b c → x.way l a c
  | [], a, b, c, hc, hp, ho, h => by
    obtain ⟨h1, h2⟩ := cov_end h0 hc hp ho h.1
    exact ⟨h1, by rw [h2]; exact h.2⟩
  | j :: l, a, b, c, hc, hp, ho, h => by
    obtain ⟨h1, d, h2, h3⟩ := h
    obtain ⟨g1, g2, g3, g4⟩ := cov_move hc hp ho h1
    exact ⟨g1, d, cov_way h0 g3 g4 (move_ok x j ho) h2, by omega⟩
theorem pos_move {x : Inst} {s : State} {j : Int} (hp : s.Pos) (ho : s.ok) (h : (x.move s j).2.2 = true) : (x.move s j).1.Pos := (cov_move (covers_refl s) hp ho h).2.2.2
theorem pos_root {x : Inst} (h : x.may = true) : x.rootS.Pos := by
  obtain ⟨p, hx⟩ := x.fit h
  have := (hx.at (j := 0) (by omega) (by omega)).ready
  rw [Inst.rootS, if_pos h]
  exact ⟨Int.le_refl _, this.1, Int.le_refl _⟩
/-- Where a move can be made there are pairs. -/
theorem move_pairs {x : Inst} {s : State} {j : Int} (h : (x.move s j).2.2 = true) : x.pairs ≠ 0 := by
  by_cases hj : j = 0
  · subst hj
    obtain ⟨h1, h2, h3, h4⟩ := move_home h
    simp only [Inst.stayB, Bool.or_eq_false_iff, decide_eq_false_iff_not] at h3
    simp only [State.mayB, Bool.and_eq_true, decide_eq_true_eq] at h2
    omega
  · have := move_pos h hj
    omega
end Go.Proofs.Ytlhmchdfmjfmgaa

/- What looking at all finds: the plain law. -/
set_option maxRecDepth 4000
namespace Go.Proofs.Ytlhmchdfmjfmgaa
open Go Go.Proofs.Ytlhmchdfmjfmgaa.R
/-- What is known of the nodes of a level. -/
structure Lev (x : Inst) (l : List Node) (d : Nat) : Prop where
  ok : ∀ n ∈ l, n.s.ok
  deep : ∀ n ∈ l, x.meas n.s < d
  pos : ∀ n ∈ l, n.s.Pos
  seen : ∀ n ∈ l, n.s.seenAt
  cost : ∀ n ∈ l, 0 ≤ n.cost ∧ n.cost + 14143 * (d : Int) ≤ 1152921504606846976
theorem child_cost {x : Inst} {l : List Node} {d : Nat} (h : Lev x l (d + 1)) {n : Node} (hn : n ∈ l) {j : Int} (hj : (x.move n.s j).2.2 = true) : (x.child n j).cost = n.cost + (x.move n.s j).2.1 := by
  have h1 := h.cost n hn
  have h2 := move_cost hj
  show sumI [n.cost, (x.move n.s j).2.1] = _
  rw [sumI_two h1.1 h2.1 (by omega)]
theorem Lev.sub {x : Inst} {l m : List Node} {d : Nat} (h : Lev x l d) (hs : ∀ n ∈ m, n ∈ l) : Lev x m d :=
  ⟨fun n hn => h.ok n (hs n hn), fun n hn => h.deep n (hs n hn), fun n hn => h.pos n (hs n hn), fun n hn => h.seen n (hs n hn), fun n hn => h.cost n (hs n hn)⟩
theorem Lev.next {x : Inst} {l : List Node} {d : Nat} (h : Lev x l (d + 1)) (up : Int) : Lev x (x.next l up) d := by
  have key : ∀ m ∈ x.next l up, ∃ n ∈ l, ∃ j, (x.move n.s j).2.2 = true ∧ m = x.child n j := by
    intro m hm
    obtain ⟨n, hn, j, hj, e, _⟩ := next_mem hm
    exact ⟨n, hn, j, moves_mem hj, e⟩
  refine ⟨?_, ?_, ?_, ?_, ?_⟩ <;> (intro m hm; obtain ⟨n, hn, j, hj, rfl⟩ := key m hm)
  · exact move_ok x j (h.ok n hn)
  · have := meas_move hj
    have := h.deep n hn
    show x.meas (x.move n.s j).1 < d
    omega
  · exact pos_move (h.pos n hn) (h.ok n hn) hj
  · exact seen_step hj
  · rw [child_cost h hn hj]
    have := h.cost n hn
    have := move_cost hj
    omega
theorem Lev.front {x : Inst} {l : List Node} {d : Nat} (h : Lev x l (d + 1)) (up : Int) : Lev x (frontL (x.next l up)) d := (h.next up).sub fun n hn => (front_inv _).sub n hn
theorem Lev.empty {x : Inst} {l : List Node} (h : Lev x l 0) : l = [] := by
  cases l with
  | nil => rfl
  | cons n l => exact absurd (h.deep n List.mem_cons_self) (by omega)
theorem Lev.root {x : Inst} {n : Node} (h1 : n.s.ok) (h2 : n.s.Pos) (h3 : n.s.seenAt) (h4 : 0 ≤ n.cost ∧ n.cost ≤ 1152921504606000000) : Lev x [n] (x.meas n.s + 1) := by
  have := meas_le x n.s
  refine ⟨?_, ?_, ?_, ?_, ?_⟩ <;> (intro m hm; rw [List.mem_singleton.1 hm])
  · exact h1
  · omega
  · exact h2
  · exact h3
  · omega
theorem best_fold_from (x : Inst) : ∀ (l : List Node) (b : Node × Bool), (l.foldl x.best1 b) = b ∨ ((l.foldl x.best1 b).2 = true ∧ ∃ n ∈ l, (x.endS n.s).2 = true ∧ (l.foldl x.best1 b).1.cost = sumI [n.cost, (x.endS n.s).1] ∧ (l.foldl x.best1 b).1.path = n.path)
  | [], b => .inl rfl
  | n :: l, b => by
    rw [List.foldl_cons]
    rcases best_fold_from x l (x.best1 b n) with h | ⟨h1, m, hm, h2⟩
    · rw [h]
      unfold Inst.best1
      split
      · rename_i hc
        exact .inr ⟨rfl, n, List.mem_cons_self, hc.1, rfl, rfl⟩
      · exact .inl rfl
    · exact .inr ⟨h1, m, List.mem_cons_of_mem _ hm, h2⟩
theorem bests_from {x : Inst} {l : List Node} (h : (x.bests l).2 = true) : ∃ n ∈ l, (x.endS n.s).2 = true ∧ (x.bests l).1.cost = sumI [n.cost, (x.endS n.s).1] ∧ (x.bests l).1.path = n.path := by
  rcases best_fold_from x l (Node.zero, false) with h1 | ⟨_, h2⟩
  · rw [Inst.bests, h1] at h; cases h
  · exact h2
theorem end_sum {x : Inst} {l : List Node} {d : Nat} (h : Lev x l (d + 1)) {n : Node} (hn : n ∈ l) (he : (x.endS n.s).2 = true) : sumI [n.cost, (x.endS n.s).1] = n.cost + (x.endS n.s).1 := by
  have h1 := h.cost n hn
  have h2 := end_cost he
  rw [sumI_two h1.1 h2.1 (by omega)]
/-- What a move leads to goes on, as long as it may cost less in the end. -/
theorem next_way {x : Inst} (hst : x.stops.length < 2 ^ 31) {l : List Node} {d : Nat} (h : Lev x l (d + 1)) {n : Node} (hn : n ∈ l) {j : Int} {w : List Int} {c : Int} (hj : (x.move n.s j).2.2 = true) (hw : x.way w (x.move n.s j).1 c) {up : Int} (hlt : n.cost + ((x.move n.s j).2.1 + c) < up) :
    ∃ m ∈ x.next l up, m.s = (x.move n.s j).1 ∧ m.cost ≤ n.cost + (x.move n.s j).2.1 := by
  have hc := h.cost n hn
  have hmc := move_cost hj
  have hcc := child_cost h hn hj
  have hwl := way_len hw
  have hwi := way_in hw
  have hmm := meas_move hj
  have hdp := h.deep n hn
  have hlow := way_low (seen_step hj) hw
  have hof : x.of (x.child n j) < up := by
    have := move_seen_low (x := x) hst (x.child n j) (n.cost + ((x.move n.s j).2.1 + c)) (by omega) (by rw [hcc]; show _ + lowP x.near (x.move n.s j).1.can ≤ _; omega) (by omega)
    omega
  have hmem : x.child n j ∈ l.flatMap (x.kids up) := by
    refine List.mem_flatMap.2 ⟨n, hn, ?_⟩
    rw [Inst.kids, List.mem_filter]
    exact ⟨List.mem_map.2 ⟨j, mem_moves hj, rfl⟩, by simpa using hof⟩
  obtain ⟨m, h1, h2, h3⟩ := onceL_has hmem
  exact ⟨m, h1, h2, by omega⟩
theorem front_way {x : Inst} {l : List Node} {d : Nat} (h : Lev x l d) (hp : x.pairs ≠ 0) {n : Node} (hn : n ∈ l) {w : List Int} {c : Int} (hw : x.way w n.s c) : ∃ m ∈ frontL l, x.way w m.s c ∧ m.cost ≤ n.cost := by
  obtain ⟨f, hf, hfn⟩ := (front_inv l).up n hn
  have hfl := (front_inv l).sub f hf
  simp only [Node.than, Bool.and_eq_true, decide_eq_true_eq] at hfn
  exact ⟨f, hf, cov_way hp hfn.2 (h.pos f hfl) (h.ok f hfl) hw, hfn.1.1⟩
theorem exGo_keep (x : Inst) (most : Int) : ∀ (d : Nat) (st : Node × Bool × Int) (l : List Node) (n : Int), stOk st → st.2.1 = true → (x.exGo most d st l n).2.1 = true ∧ (x.exGo most d st l n).1.cost ≤ st.2.2
  | 0, st, l, n, h, hs => ⟨hs, by rw [Inst.exGo]; have := h hs; simp only; omega⟩
  | d + 1, st, l, n, h, hs => by
    rw [Inst.exGo]
    split
    · exact ⟨hs, by have := h hs; simp only; omega⟩
    · split
      · exact ⟨hs, by have := h hs; simp only; omega⟩
      · obtain ⟨k1, k2, k3⟩ := look_ok (x := x) (l := l) h
        obtain ⟨j1, j2⟩ := exGo_keep x most d (x.look st l) (frontL (x.next l st.2.2)) (IntKind.i64.wrap (n + l.length)) k1 (k3 hs)
        exact ⟨j1, by omega⟩
/-- If all was looked at nothing that costs less than the bound was passed by. -/
theorem exGo_has {x : Inst} (hst : x.stops.length < 2 ^ 31) (most : Int) : ∀ (d : Nat) (st : Node × Bool × Int) (l : List Node) (n : Int), Lev x l d → stOk st → (x.exGo most d st l n).2.2.1 = true →
    ∀ m ∈ l, ∀ (w : List Int) (c : Int), x.way w m.s c → m.cost + c < st.2.2 → (x.exGo most d st l n).2.1 = true ∧ (x.exGo most d st l n).1.cost ≤ m.cost + c
  | 0, st, l, n, hl, _, _, m, hm, w, c, _, _ => by rw [hl.empty] at hm; cases hm
  | d + 1, st, l, n, hl, h, hall, m, hm, w, c, hw, hlt => by
    have c1 : ¬ l.length = 0 := by
      have := List.length_pos_of_mem hm
      omega
    rw [Inst.exGo, if_neg c1] at hall ⊢
    by_cases c2 : most < l.length
    · rw [if_pos c2] at hall; cases hall
    rw [if_neg c2] at hall ⊢
    obtain ⟨k1, k2, k3⟩ := look_ok (x := x) (l := l) h
    match w, hw with
    | [], hw =>
      obtain ⟨b1, b2⟩ := bests_has hm hw.1
      rw [end_sum hl hm hw.1, ← hw.2] at b2
      have hlk : x.look st l = ((x.bests l).1, true, (x.bests l).1.cost) := by rw [Inst.look, if_pos ⟨b1, by omega⟩]
      obtain ⟨j1, j2⟩ := exGo_keep x most d (x.look st l) (frontL (x.next l st.2.2)) (IntKind.i64.wrap (n + l.length)) k1 (by rw [hlk])
      refine ⟨j1, ?_⟩
      have : (x.look st l).2.2 = (x.bests l).1.cost := by rw [hlk]
      omega
    | j :: w, hw =>
      obtain ⟨g1, e, g2, g3⟩ := hw
      obtain ⟨q, hq, q1, q2⟩ := next_way hst hl hm g1 g2 (up := st.2.2) (by omega)
      obtain ⟨f, hf, f1, f2⟩ := front_way (hl.next st.2.2) (move_pairs g1) hq (w := w) (c := e) (by rw [q1]; exact g2)
      by_cases c3 : f.cost + e < (x.look st l).2.2
      · obtain ⟨i1, i2⟩ := exGo_has hst most d (x.look st l) (frontL (x.next l st.2.2)) _ (hl.front st.2.2) k1 hall f hf w e f1 c3
        exact ⟨i1, by omega⟩
      · have hs : (x.look st l).2.1 = true := by
          unfold Inst.look at c3 ⊢
          split
          · rfl
          · rename_i hh
            rw [if_neg hh] at c3
            omega
        obtain ⟨j1, j2⟩ := exGo_keep x most d (x.look st l) (frontL (x.next l st.2.2)) (IntKind.i64.wrap (n + l.length)) k1 hs
        exact ⟨j1, by omega⟩
/-- What is found can be followed, and ended. -/
theorem exGo_from {x : Inst} (most : Int) : ∀ (d : Nat) (st : Node × Bool × Int) (l : List Node) (n : Int), Lev x l d → stOk st →
    ((x.exGo most d st l n).2.1 = st.2.1 ∧ (x.exGo most d st l n).1 = st.1) ∨
    ((x.exGo most d st l n).2.1 = true ∧ ∃ m ∈ l, ∃ (w : List Int) (c : Int), x.way w m.s c ∧ (x.exGo most d st l n).1.cost = m.cost + c ∧ (x.exGo most d st l n).1.path = m.path ++ w ∧ m.cost + c < st.2.2)
  | 0, st, l, n, _, _ => .inl ⟨rfl, rfl⟩
  | d + 1, st, l, n, hl, h => by
    rw [Inst.exGo]
    split
    · exact .inl ⟨rfl, rfl⟩
    split
    · exact .inl ⟨rfl, rfl⟩
    obtain ⟨k1, k2, k3⟩ := look_ok (x := x) (l := l) h
    rcases exGo_from most d (x.look st l) (frontL (x.next l st.2.2)) (IntKind.i64.wrap (n + l.length)) (hl.front st.2.2) k1 with ⟨i1, i2⟩ | ⟨i1, m, hm, w, c, i2, i3, i4, i5⟩
    · by_cases hh : (x.bests l).2 = true ∧ (x.bests l).1.cost < st.2.2
      · have hlk : x.look st l = ((x.bests l).1, true, (x.bests l).1.cost) := by rw [Inst.look, if_pos hh]
        rw [i1, i2, hlk]
        obtain ⟨m, hm, b1, b2, b3⟩ := bests_from hh.1
        rw [end_sum hl hm b1] at b2
        exact .inr ⟨rfl, m, hm, [], _, ⟨b1, rfl⟩, b2, by rw [List.append_nil]; exact b3, by omega⟩
      · have hlk : x.look st l = st := by rw [Inst.look, if_neg hh]
        rw [i1, i2, hlk]
        exact .inl ⟨rfl, rfl⟩
    · obtain ⟨q, hq, j, hj, rfl, _⟩ := next_mem ((front_inv _).sub m hm)
      have hj := moves_mem hj
      have hcc := child_cost hl hq hj
      refine .inr ⟨i1, q, hq, j :: w, (x.move q.s j).2.1 + c, ⟨hj, c, i2, rfl⟩, ?_, ?_, ?_⟩
      · rw [i3, hcc]; omega
      · rw [i4]
        show (q.path ++ [j]) ++ w = _
        rw [List.append_assoc]; rfl
      · rw [hcc] at i5; omega
theorem exact_has {x : Inst} (hst : x.stops.length < 2 ^ 31) {n : Node} {up most : Int} (h1 : n.s.ok) (h2 : n.s.Pos) (h3 : n.s.seenAt) (h4 : 0 ≤ n.cost ∧ n.cost ≤ 1152921504606000000) (hall : (x.exact n up most).2.2.1 = true) {w : List Int} {c : Int} (hw : x.way w n.s c) (hlt : n.cost + c < up) :
    (x.exact n up most).2.1 = true ∧ (x.exact n up most).1.cost ≤ n.cost + c :=
  exGo_has hst most _ _ _ _ (Lev.root h1 h2 h3 h4) (fun h => by cases h) hall n List.mem_cons_self w c hw hlt
theorem exact_from {x : Inst} {n : Node} {up most : Int} (h1 : n.s.ok) (h2 : n.s.Pos) (h3 : n.s.seenAt) (h4 : 0 ≤ n.cost ∧ n.cost ≤ 1152921504606000000) (hs : (x.exact n up most).2.1 = true) :
    ∃ (w : List Int) (c : Int), x.way w n.s c ∧ (x.exact n up most).1.cost = n.cost + c ∧ (x.exact n up most).1.path = n.path ++ w ∧ n.cost + c < up := by
  rcases exGo_from (x := x) most _ (Node.zero, false, up) _ 0 (Lev.root h1 h2 h3 h4) (fun h => by cases h) with ⟨i1, _⟩ | ⟨_, m, hm, w, c, i2⟩
  · rw [Inst.exact, i1] at hs; cases hs
  · rw [List.mem_singleton.1 hm] at i2
    exact ⟨w, c, i2⟩
theorem exact_none {x : Inst} {n : Node} {up most : Int} (h1 : n.s.ok) (h2 : n.s.Pos) (h3 : n.s.seenAt) (h4 : 0 ≤ n.cost ∧ n.cost ≤ 1152921504606000000) (hs : (x.exact n up most).2.1 = false) : (x.exact n up most).1 = Node.zero := by
  rcases exGo_from (x := x) most _ (Node.zero, false, up) _ 0 (Lev.root h1 h2 h3 h4) (fun h => by cases h) with ⟨_, i1⟩ | ⟨i1, _⟩
  · exact i1
  · rw [Inst.exact, i1] at hs; cases hs
end Go.Proofs.Ytlhmchdfmjfmgaa

/- How many nodes a level may have, with at most three pairs: the plain law. -/
set_option maxRecDepth 4000
namespace Go.Proofs.Ytlhmchdfmjfmgaa
open Go Go.Proofs.Ytlhmchdfmjfmgaa.R
def sumTo (f : Nat → Nat) : Nat → Nat
  | 0 => 0
  | n + 1 => sumTo f n + f n
/-- A move that may be made, as far as what was seen tells. -/
def okJ (p M : Nat) (yard : Bool) (j : Nat) : Bool :=
  if j = 0 then !yard && (List.range p).all fun k => !M.testBit k || M.testBit (k + p)
  else if j ≤ p then !M.testBit (j - 1) else !yard && !M.testBit (j - 1) && M.testBit (j - 1 - p)
/-- How many ways there are from here on, of at most so many moves. -/
def pot (p : Nat) : Nat → Nat → Bool → Nat
  | 0, _, _ => 1
  | d + 1, M, yard => max 1 (sumTo (fun j => if okJ p M yard j = true then pot p d (if j = 0 then M else M ||| 2 ^ (j - 1)) (decide (j = 0)) else 0) (2 * p + 1))
theorem pot_pos (p : Nat) : ∀ (d M : Nat) (yard : Bool), 1 ≤ pot p d M yard
  | 0, _, _ => Nat.le_refl _
  | d + 1, _, _ => Nat.le_max_left _ _
theorem pot_root : ∀ p < 4, ∀ d < 15, pot p d 0 true ≤ 132 := by decide +kernel
def keyM (s : State) : Nat := s.must / 2 % 64
theorem keyM_bit (s : State) {k : Nat} (hk : k < 6) : (keyM s).testBit k = s.must.testBit (k + 1) := by
  rw [keyM, show (64 : Nat) = 2 ^ 6 from rfl, Nat.testBit_mod_two_pow, Nat.testBit_succ]
  simp [hk]
def State.yard (s : State) : Bool := decide (s.spot = 0)
def potS (p d : Nat) (s : State) : Nat := pot p d (keyM s) s.yard
def potL (p d : Nat) : List Node → Nat
  | [] => 0
  | n :: l => potS p d n.s + potL p d l
theorem potL_app (p d : Nat) : ∀ (l m : List Node), potL p d (l ++ m) = potL p d l + potL p d m
  | [], m => by simp [potL]
  | n :: l, m => by rw [List.cons_append, potL, potL, potL_app p d l m]; omega
theorem potL_len (p d : Nat) : ∀ (l : List Node), l.length ≤ potL p d l
  | [] => Nat.zero_le _
  | n :: l => by
    have := potL_len p d l
    have := pot_pos p d (keyM n.s) n.s.yard
    rw [List.length_cons, potL, potS]
    omega
theorem potL_filter (p d : Nat) (f : Node → Bool) : ∀ (l : List Node), potL p d (l.filter f) ≤ potL p d l
  | [] => Nat.le_refl _
  | n :: l => by
    have := potL_filter p d f l
    rw [List.filter_cons]
    split <;> simp only [potL] <;> omega
theorem potL_set (p d : Nat) {n : Node} : ∀ (l : List Node) (i : Nat) (h : i < l.length), l[i].s = n.s → potL p d (l.set i n) = potL p d l
  | m :: l, 0, h, e => by
    simp only [List.getElem_cons_zero] at e
    simp only [List.set_cons_zero, potL, e]
  | m :: l, i + 1, h, e => by
    simp only [List.getElem_cons_succ] at e
    rw [List.set_cons_succ, potL, potL, potL_set p d l i (by simpa using h) e]
theorem potL_once1 (p d : Nat) (out : List Node) (n : Node) : potL p d (once1 out n) ≤ potL p d out + potS p d n.s := by
  unfold once1
  split
  · rw [potL_app]; simp only [potL]; omega
  · rename_i i e
    obtain ⟨h1, h2⟩ := sIdx_some e
    split
    · rw [potL_set p d out i h1 h2]; omega
    · omega
theorem potL_once (p d : Nat) : ∀ (l out : List Node), potL p d (l.foldl once1 out) ≤ potL p d out + potL p d l
  | [], out => Nat.le_refl _
  | n :: l, out => by
    have := potL_once p d l (once1 out n)
    have := potL_once1 p d out n
    rw [List.foldl_cons, potL]
    omega
theorem potL_front (p d : Nat) : ∀ (l out : List Node), potL p d (l.foldl front1 out) ≤ potL p d out + potL p d l
  | [], out => Nat.le_refl _
  | n :: l, out => by
    have h1 := potL_front p d l (front1 out n)
    have : potL p d (front1 out n) ≤ potL p d out + potS p d n.s := by
      unfold front1
      split
      · omega
      · have := potL_filter p d (fun a => !n.than a) out
        rw [potL_app]
        simp only [potL]
        omega
    rw [List.foldl_cons, potL]
    omega
theorem move_key {x : Inst} {p : Nat} {s : State} (hx : x.Fit p) (hp3 : p ≤ 3) (hg : Good x p s) {k : Nat} (h : (x.move s k).2.2 = true) :
    okJ p (keyM s) s.yard k = true ∧ potS p 0 (x.move s k).1 = 1 ∧ keyM (x.move s k).1 = (if k = 0 then keyM s else keyM s ||| 2 ^ (k - 1)) ∧ (x.move s k).1.yard = decide (k = 0) := by
  have hp := hx.pairs
  by_cases hk : k = 0
  · subst hk
    obtain ⟨h1, h2, h3, h4⟩ := move_home h
    simp only [Inst.stayB, Bool.or_eq_false_iff, decide_eq_false_iff_not] at h3
    have e0 : (((0 : Nat) : Int)) = 0 := rfl
    rw [e0, h4]
    refine ⟨?_, rfl, rfl, rfl⟩
    rw [okJ, if_pos rfl, State.yard, Bool.and_eq_true, List.all_eq_true]
    refine ⟨by simp [h3.1.1.1.1], fun i hi => ?_⟩
    have hi := List.mem_range.1 hi
    have hon := hg.on (i + 1) (by omega) (by omega)
    have : s.on = 0 := by omega
    rw [this, Nat.zero_testBit] at hon
    rw [keyM_bit s (by omega), keyM_bit s (by omega), show i + p + 1 = i + 1 + p by omega]
    revert hon
    cases s.must.testBit (i + 1) <;> cases s.must.testBit (i + 1 + p) <;> simp
  · obtain ⟨h1, h2, h3, h4, h5, h6, h7, h8⟩ := move_pos h (by omega)
    simp only [Inst.lateB, Bool.or_eq_false_iff] at h5
    have h50 := h5.1
    rw [has_testN (by omega)] at h50
    rw [h8]
    refine ⟨?_, rfl, ?_, by simp only [State.yard, Inst.rvisit]; rw [Bool.eq_iff_iff]; simp⟩
    · rw [okJ, if_neg hk]
      have e1 : (keyM s).testBit (k - 1) = s.must.testBit k := by rw [keyM_bit s (by omega), show k - 1 + 1 = k by omega]
      split
      · rw [e1, h50]; rfl
      · have h9 := h7 (by omega)
        simp only [Inst.emptyB, Bool.or_eq_false_iff, Bool.not_eq_false', decide_eq_false_iff_not] at h9
        have e2 : (k : Int) - x.pairs = ((k - p : Nat) : Int) := by omega
        have h10 := h9.2
        rw [e2, has_testN (by omega), hg.eq] at h10
        have e3 : (keyM s).testBit (k - 1 - p) = s.must.testBit (k - p) := by rw [keyM_bit s (by omega), show k - 1 - p + 1 = k - p by omega]
        rw [e1, h50, e3, h10, State.yard]
        simp [h9.1]
    · rw [if_neg hk]
      refine Nat.eq_of_testBit_eq fun i => ?_
      rw [Nat.testBit_or, Nat.testBit_two_pow]
      by_cases hi : i < 6
      · rw [keyM_bit _ hi, keyM_bit s hi]
        show (withN s.must k).testBit (i + 1) = _
        rw [with_bit (by omega)]
        have : decide (k = i + 1) = decide (k - 1 = i) := by rw [Bool.eq_iff_iff]; simp; omega
        rw [this]
      · have e : ∀ t : State, (keyM t).testBit i = false := fun t => by
          rw [keyM, show (64 : Nat) = 2 ^ 6 from rfl, Nat.testBit_mod_two_pow]
          simp [hi]
        rw [e, e]
        have : ¬ k - 1 = i := by omega
        simp [this]
theorem potL_canB (x : Inst) (p d : Nat) (n : Node) (f : Nat → Bool) (g : Nat → Nat) : ∀ (N : Nat), (∀ k < N, f k = true → potS p d (x.child n k).s ≤ g k) → potL p d ((canB f N).map (x.child n)) ≤ sumTo g N
  | 0, _ => Nat.le_refl _
  | N + 1, h => by
    have ih := potL_canB x p d n f g N fun k hk => h k (by omega)
    rw [canB, List.map_append, potL_app, sumTo]
    by_cases hf : f N = true
    · have := h N (by omega) hf
      rw [if_pos hf]
      simp only [List.map_cons, List.map_nil, potL]
      omega
    · rw [if_neg hf]
      simp only [List.map_nil, potL]
      omega
theorem pot_kids {x : Inst} {p : Nat} (hx : x.Fit p) (hp3 : p ≤ 3) (d : Nat) (up : Int) (n : Node) (hg : Good x p n.s) : potL p d (x.kids up n) ≤ potS p (d + 1) n.s := by
  refine Nat.le_trans (potL_filter p d _ _) ?_
  rw [moves_can]
  refine Nat.le_trans (potL_canB x p d n _ (fun j => if okJ p (keyM n.s) n.s.yard j = true then pot p d (if j = 0 then keyM n.s else keyM n.s ||| 2 ^ (j - 1)) (decide (j = 0)) else 0) _ ?_) ?_
  · intro k hk hf
    obtain ⟨h1, _, h2, h3⟩ := move_key hx hp3 hg hf
    show potS p d (x.move n.s k).1 ≤ _
    rw [if_pos h1, potS, h2, h3]
    exact Nat.le_refl _
  · rw [hx.len]
    exact Nat.le_max_right _ _
theorem pot_flat {x : Inst} {p : Nat} (hx : x.Fit p) (hp3 : p ≤ 3) (d : Nat) (up : Int) : ∀ (l : List Node), (∀ n ∈ l, Good x p n.s) → potL p d (l.flatMap (x.kids up)) ≤ potL p (d + 1) l
  | [], _ => Nat.le_refl _
  | n :: l, h => by
    have h1 := pot_kids hx hp3 d up n (h n List.mem_cons_self)
    have h2 := pot_flat hx hp3 d up l fun m hm => h m (List.mem_cons_of_mem _ hm)
    rw [List.flatMap_cons, potL_app, potL]
    omega
theorem pot_next {x : Inst} {p : Nat} (hx : x.Fit p) (hp3 : p ≤ 3) (d : Nat) (up : Int) {l : List Node} (h : ∀ n ∈ l, Good x p n.s) : potL p d (frontL (x.next l up)) ≤ potL p (d + 1) l := by
  have h1 := potL_front p d (x.next l up) []
  have h2 := potL_once p d (l.flatMap (x.kids up)) []
  have h3 := pot_flat hx hp3 d up l h
  rw [Inst.next, onceL] at h1
  simp only [potL] at h1 h2
  rw [Inst.next, onceL, frontL]
  omega
theorem good_next {x : Inst} {p : Nat} (hx : x.Fit p) {l : List Node} (h : ∀ n ∈ l, Good x p n.s) (up : Int) : ∀ m ∈ frontL (x.next l up), Good x p m.s := by
  intro m hm
  obtain ⟨n, hn, j, hj, rfl, _⟩ := next_mem ((front_inv _).sub m hm)
  exact (good_step hx (h n hn) (moves_mem hj)).1
/-- With at most three pairs, and levels of 132 nodes, all is looked at. -/
theorem exGo_all {x : Inst} {p : Nat} (hx : x.Fit p) (hp3 : p ≤ 3) {most : Int} (hm : 132 ≤ most) : ∀ (d : Nat) (st : Node × Bool × Int) (l : List Node) (n : Int), (∀ n ∈ l, Good x p n.s) → potL p d l ≤ 132 → (x.exGo most d st l n).2.2.1 = true
  | 0, _, _, _, _, _ => rfl
  | d + 1, st, l, n, hg, h => by
    rw [Inst.exGo]
    split
    · rfl
    have := potL_len p (d + 1) l
    rw [if_neg (by omega)]
    exact exGo_all hx hp3 hm d _ _ _ (good_next hx hg st.2.2) (Nat.le_trans (pot_next hx hp3 d st.2.2 hg) h)
theorem meas_root {x : Inst} {p : Nat} (hx : x.Fit p) (hm : x.may = true) : x.meas x.rootS ≤ 2 * p + 7 := by
  have hp := hx.pairs
  have hc := hx.cars
  unfold Inst.meas
  split
  · rw [Inst.rootS, if_pos hm]
    have h6 : ((List.range (2 * x.pairs.toNat + 1)).filter fun j : Nat => decide (1 ≤ j) && !hasB ({ State.zero with car := 1, time := (x.stop 0).ready } : State).must (j : Int)).length < ((List.range (2 * x.pairs.toNat + 1)).filter fun _ => true).length :=
      filter_lt _ (a := 0) (List.mem_range.2 (by omega)) rfl (by simp) (fun _ _ => rfl)
    rw [List.filter_eq_self.2 (fun _ _ => rfl), List.length_range] at h6
    refine Nat.le_trans (Nat.add_le_add (Nat.le_of_lt_succ h6) (Nat.le_refl _)) ?_
    show 2 * x.pairs.toNat + (x.cars - 1).toNat ≤ 2 * p + 7
    omega
  · omega
theorem exact_all {x : Inst} {p : Nat} (hx : x.Fit p) (hm : x.may = true) (hp3 : p ≤ 3) (up : Int) {most : Int} (h : 132 ≤ most) : (x.exact ⟨x.rootS, 0, []⟩ up most).2.2.1 = true := by
  refine exGo_all hx hp3 h _ _ _ _ (fun n hn => by rw [List.mem_singleton.1 hn]; exact good_root hx hm) ?_
  have h1 := meas_root hx hm
  have h2 := pot_root p (by omega) (x.meas x.rootS + 1) (by omega)
  have h3 : keyM x.rootS = 0 := by rw [Inst.rootS, if_pos hm]; simp [keyM, State.zero]
  have h4 : x.rootS.yard = true := by rw [Inst.rootS, if_pos hm]; simp [State.yard, State.zero]
  simp only [potL, potS]
  rw [h3, h4]
  omega
end Go.Proofs.Ytlhmchdfmjfmgaa

/- Looking at a level. -/
set_option maxRecDepth 4000
namespace Go.Proofs.Ytlhmchdfmjfmgaa
open Go Go.Proofs.Ytlhmchdfmjfmgaa.R
def sCells (st : Node × Bool × Int) (n : Int) : List AV := [.i st.1.s.spot, .i st.1.s.car, .i st.1.s.time, .i st.1.s.load, .i st.1.s.first, .u st.1.s.must, .u st.1.s.can, .u st.1.s.on, .i st.1.cost, .t (.sl (ints st.1.path)), .b st.2.1, .i st.2.2, .i n]
theorem look_spec (x : Inst) (l : List Node) (st : Node × Bool × Int) (n : Int) {σ : Nat → AObj} {nx b : Nat} (hb : b < nx) (hσb : σ b = .box (sCells st n)) (hl : x.stops.length < 2 ^ 31) (hll : l.length < 2 ^ 20) (hn : ∀ n ∈ l, n.Fine) (hn2 : ∀ n ∈ l, n.path.length < 2 ^ 30) :
    CallSpec P 54 [.ptr b 0, x.a, .t (.sl (nodesT l))] σ nx (.t (.sl (nodesT (frontL (x.next l st.2.2))))) (oput σ b (.box (sCells (x.look st l) (IntKind.i64.wrap (n + l.length))))) nx := by
  have hlk : x.look st l = if (x.bests l).2 = true ∧ (x.bests l).1.cost < st.2.2 then ((x.bests l).1, true, (x.bests l).1.cost) else st := rfl
  refine spec_down Try.func54 rfl rfl (by simp [Try.f54]) hb (by simp [bndO, bnd, bnd.bndL, sCells]) (by simp [bnd]) fun hk B hB hnx hσ => ?_
  simp only [Try.f54] at hB ⊢
  have hne : ¬ b = nx := by omega
  have hil : (nodesT l).length = l.length := List.length_map _
  have hx := expand_pure x l st.2.2 hl hll hn hn2
  have q1 := next_len x l st.2.2
  have q2 : ∀ m ∈ x.next l st.2.2, m.path.length < 2 ^ 31 := by
    intro m hm
    obtain ⟨n, h, j, _, rfl, _⟩ := next_mem hm
    have := hn2 n h
    show (n.path ++ [j]).length < 2 ^ 31
    rw [List.length_append]
    simp only [List.length_cons, List.length_nil]
    omega
  have hf := front_pure (x.next l st.2.2) (by omega) q2
  generalize x.look st l = st' at *
  generalize x.next l st.2.2 = M at *
  generalize x.bests l = Rb at *
  generalize frontL M = R at *
  refine K_run hB 100 ?_
  simp [go_sem, Inst.a, hσb, sCells, hne, hil]
  have hne2 : ¬ nx = b := by omega
  have hne3 : ¬ b = nx + 1 := by omega
  have hne4 : ¬ nx + 1 = b := by omega
  refine K_drawnF [11, 13] [0, 1, 2, 3, 4, 5, 6, 7, 8, 9, 10] rfl (by rw [hB]; kernel_rfl) (by kernel_rfl) fun ht hf' => ?_
  refine K_run hB 100 ?_
  simp [go_sem, ht, hf', hne, hne2, hσb, sCells]
  refine K_dCallP rfl rfl rfl (args := [x.a, .t (.sl (nodesT l)), .i st.2.2]) (f := 44) (by simp [go_sem, Inst.a]) (hx) ?_
  refine K_run hB 100 ?_
  simp [go_sem, ht, hf', expRes, Node.a, Node.cs, hne, hne2, hne3, hne4, hσb, sCells]
  obtain ⟨B1, is⟩ := Rb
  simp only at hlk
  cases is with
  | false =>
    rw [if_neg (by simp)] at hlk
    subst hlk
    refine K_drawn [] rfl (by rw [hB]; kernel_rfl) ?_
    refine K_run hB 100 ?_
    simp [go_sem]
    refine K_call rfl rfl rfl (args := [.t (.sl (nodesT M))]) (f := 91) (by simp [go_sem]) (by simp [go_sem, hB]) ((hf).spec _ _) ?_
    refine K_run hB 100 ?_
    simp [go_sem]
    exact ⟨by omega, by simp [hne3, hne, hne4], fun i h1 h2 => by simp [h2, show ¬ i = nx + 1 by omega, show ¬ i = nx by omega]⟩
  | true =>
    by_cases c1 : B1.cost < st.2.2
    · rw [if_pos ⟨rfl, c1⟩] at hlk
      subst hlk
      refine K_drawn [] rfl (by rw [hB]; kernel_rfl) ?_
      refine K_run hB 100 ?_
      simp [go_sem, hne, hne2, hne3, hne4, c1]
      refine K_drawnF [8, 11, 14] [1, 2, 4, 5] rfl (by rw [hB]; kernel_rfl) (by kernel_rfl) fun ht hf' => ?_
      refine K_run hB 100 ?_
      simp [go_sem, ht, hf', hne, hne2, hne3, hne4]
      refine K_call rfl rfl rfl (args := [.t (.sl (nodesT M))]) (f := 91) (by simp [go_sem]) (by simp [go_sem, hB]) ((hf).spec _ _) ?_
      refine K_run hB 100 ?_
      simp [go_sem]
      exact ⟨by omega, fun i h1 h2 => by simp [h2, show ¬ i = nx + 1 by omega, show ¬ i = nx by omega]⟩
    · rw [if_neg (fun h => c1 h.2)] at hlk
      subst hlk
      refine K_drawn [] rfl (by rw [hB]; kernel_rfl) ?_
      refine K_run hB 100 ?_
      simp [go_sem, hne, hne2, hne3, hne4, c1]
      refine K_call rfl rfl rfl (args := [.t (.sl (nodesT M))]) (f := 91) (by simp [go_sem]) (by simp [go_sem, hB]) ((hf).spec _ _) ?_
      refine K_run hB 100 ?_
      simp [go_sem]
      exact ⟨by omega, by simp [hne3, hne, hne4], fun i h1 h2 => by simp [h2, show ¬ i = nx + 1 by omega, show ¬ i = nx by omega]⟩
end Go.Proofs.Ytlhmchdfmjfmgaa

/- The best plan, by looking at all. -/
set_option maxRecDepth 4000
namespace Go.Proofs.Ytlhmchdfmjfmgaa
open Go Go.Proofs.Ytlhmchdfmjfmgaa.R
theorem best_pure (x : Inst) (n : Node) (up most : Int) (hl : x.stops.length < 2 ^ 31) (hm : most < 2 ^ 20) (ho : n.s.ok) (hp : n.path.length < 2 ^ 29) : Pure P 31 [x.a, n.a, .i up, .i most] (exRes4 (x.exact n up most)) := by
  generalize hR : x.exact n up most = R
  refine pure_of Try.func31 rfl rfl (by simp [Try.f31]) (by simp [bnd, bnd.bndL, Inst.a, Node.a, Node.cs]) (by simp [bnd, bnd.bndL, exRes4, Node.a, Node.cs]) fun B hB hnx => ?_
  simp only [Try.f31] at hB ⊢
  have hlev := Level.root x n ho
  have hmeas := meas_le x n.s
  rw [Inst.exact] at hR
  generalize hd : x.meas n.s + 1 = d0 at *
  generalize hK : n.path.length + x.meas n.s + 1 = K at *
  refine K_run hB 100 ?_
  simp [go_sem, Inst.a, Node.a, Node.cs]
  refine K_scopeN (α := Nat × (Node × Bool × Int) × List Node × Int × (Nat → AObj) × Nat) 0 (fun (d, st, l, n, σ, nx) => Level x l d K ∧ x.exGo most d st l n = R ∧ σ 0 = .box x.cs ∧ σ 2 = .box Node.zero.cs ∧ σ 3 = .box (sCells st n) ∧ 3 < nx)
    (fun (d, st, l, n, σ, nx) => ⟨sl [(3, .i most), (4, .ptr 0 0), (8, .ptr 2 0), (12, .ptr 3 0), (13, .t (.sl (nodesT l)))], σ, nx⟩) (fun a => a.1) rfl ?_ ?_
  · rintro ⟨d, st, l, n, σ, nx⟩ ⟨g1, g2, g3, g4, g5, g6⟩
    have hil : (nodesT l).length = l.length := List.length_map _
    have hgo : x.exGo most d st l n = match d with
      | 0 => (st.1, st.2.1, true, n)
      | d + 1 => if l.length = 0 then (st.1, st.2.1, true, n) else if most < l.length then (st.1, st.2.1, false, n) else x.exGo most d (x.look st l) (frontL (x.next l st.2.2)) (IntKind.i64.wrap (n + l.length)) := by cases d <;> rfl
    by_cases c1 : l.length = 0
    · have hr : R = (st.1, st.2.1, true, n) := by
        rw [← g2, hgo]
        cases d with
        | zero => rfl
        | succ d => simp only; rw [if_pos c1]
      subst hr
      by_cases c2 : (0 : Int) ≤ most
      · refine K_run hB 100 ?_
        simp [go_sem, hil, c1, c2]
        refine K_drawnF [13] [4, 5, 6, 7, 8, 9, 10, 11, 12] rfl (by rw [hB]; kernel_rfl) (by kernel_rfl) fun ht hf' => ?_
        refine K_run hB 100 ?_
        simp [go_sem, ht, hf', g4, g5, sCells, Node.cs]
        rfl
      · refine K_run hB 100 ?_
        simp [go_sem, hil, c1, c2]
        refine K_drawnF [13] [4, 5, 6, 7, 8, 9, 10, 11, 12] rfl (by rw [hB]; kernel_rfl) (by kernel_rfl) fun ht hf' => ?_
        refine K_run hB 100 ?_
        simp [go_sem, ht, hf', g4, g5, sCells, Node.cs]
        rfl
    cases d with
    | zero => exact absurd (by rw [g1.empty]; rfl) c1
    | succ d =>
      simp only at hgo
      rw [if_neg c1] at hgo
      by_cases c2 : most < l.length
      · rw [if_pos c2] at hgo
        rw [hgo] at g2
        subst g2
        have c3 : ¬ (l.length : Int) ≤ most := by omega
        have c4 : ¬ (l.length : Int) = 0 := by omega
        refine K_run hB 100 ?_
        simp [go_sem, hil, c1, c3, c4]
        refine K_drawnF [13] [4, 5, 6, 7, 8, 9, 10, 11, 12] rfl (by rw [hB]; kernel_rfl) (by kernel_rfl) fun ht hf' => ?_
        refine K_run hB 100 ?_
        simp [go_sem, ht, hf', g4, g5, sCells, Node.cs]
        rfl
      · rw [if_neg c2] at hgo
        rw [hgo] at g2
        have c3 : (l.length : Int) ≤ most := by omega
        have c4 : 0 < l.length := by omega
        have hlk := look_spec x l st n (σ := σ) (nx := nx) (b := 3) g6 g5 hl (by omega) (fun m h => ⟨g1.ok m h, by have := g1.path m h; omega⟩) (fun m h => by have := g1.path m h; omega)
        refine K_run hB 100 ?_
        simp [go_sem, hil, c1, c3, c4, g3, Inst.cs]
        refine K_call rfl rfl rfl (args := [.ptr 3 0, x.a, .t (.sl (nodesT l))]) (f := 54) (by simp [go_sem, Inst.a]) (by simp [go_sem, hB]) hlk ?_
        refine K_run hB 100 ?_
        simp [go_sem]
        refine Next.mk (d, x.look st l, frontL (x.next l st.2.2), IntKind.i64.wrap (n + l.length), _, nx) ?_ (Imp.slots (by simp [go_sem]) rfl rfl) (by simp only; omega)
        exact ⟨g1.next st.2.2, g2, by simp [oput, g3, Inst.cs], by simp [oput, g4], by simp [oput], g6⟩
  · intro J hJ
    refine K_run hB 14 ?_
    simp [go_sem, Node.cs]
    refine hJ (d0, (Node.zero, false, up), [n], 0, _, _) _ ?_ ((Imp.looseB (b := 2) (cs := [.i 0, .i 0, .i 0, .i 0, .i 0, .u 0, .u 0, .u 0, .i 0, .fsl []]) (by simp [oput])).trans ((Imp.looseB (b := 3) (cs := [.i 0, .i 0, .i 0, .i 0, .i 0, .u 0, .u 0, .u 0, .i 0, .fsl [], .b false, .i up, .i 0]) (by simp [oput])).trans (Imp.loose.trans (Imp.slots (by simp [go_sem, loosen, nodesT, Node.t]) rfl rfl))))
    exact ⟨hlev, hR, by simp [oput, Inst.cs], by simp [oput, Node.zero, State.zero, Node.cs, ints, loosen], by simp [oput, sCells, Node.zero, State.zero, ints, loosen], by simp only; omega⟩
end Go.Proofs.Ytlhmchdfmjfmgaa

/- The laws of looking at all are awake. -/
set_option maxRecDepth 4000
namespace Go.Proofs.Ytlhmchdfmjfmgaa
open Go Go.Proofs.Ytlhmchdfmjfmgaa.R
def Inst.rootN (x : Inst) : Node := ⟨x.rootS, 0, []⟩
theorem small_exact : (small.exact small.rootN 1152921504606846976 100).2 = (true, true, 3) ∧ (small.exact small.rootN 1152921504606846976 100).1.cost = 12 ∧ (small.exact small.rootN 1152921504606846976 100).1.path = [1, 2] := by decide +kernel
theorem awake15_pure : Pure P 30 [] (.b true) := by
  refine pure_of Try.func30 rfl rfl (by simp [Try.f30]) (by simp [bnd, bnd.bndL]) (by simp [bnd, bnd.bndL]) fun B hB hnx => ?_
  simp only [Try.f30] at hB ⊢
  refine K_run hB 100 ?_
  simp [go_sem]
  refine K_call rfl rfl rfl (args := []) (f := 36) (by simp [go_sem]) (by simp [go_sem, hB]) ((small_pure).spec _ _) ?_
  have hp := parse_pure smallB (by decide) (by decide)
  rw [small_parse] at hp
  refine K_run hB 100 ?_
  simp [go_sem, small_bytes]
  refine K_call rfl rfl rfl (args := [.t (.sl (byt smallB))]) (f := 35) (by simp [go_sem]) (by simp [go_sem, hB]) ((hp).spec _ _) ?_
  have hl : small.stops.length < 2 ^ 31 := by decide
  have hr := root_pureS small (by omega)
  have hx := best_pure small small.rootN 1152921504606846976 100 hl (by decide) (rootS_ok small) (by simp [Inst.rootN])
  obtain ⟨h1, h2, h3⟩ := small_exact
  rw [Inst.rootN] at *
  generalize small.exact ⟨small.rootS, 0, []⟩ 1152921504606846976 100 = R at *
  obtain ⟨m, is, all, n⟩ := R
  simp only [Prod.mk.injEq] at h1
  obtain ⟨rfl, rfl, rfl⟩ := h1
  simp only at h2 h3
  generalize small.rootS = r at *
  generalize small = x at *
  refine K_run hB 100 ?_
  simp [go_sem, Inst.a]
  refine K_drawnF [10, 11] [0, 1, 2, 3, 4, 5, 6, 7, 8, 9] rfl (by rw [hB]; kernel_rfl) (by kernel_rfl) fun ht hf' => ?_
  refine K_run hB 100 ?_
  simp [go_sem, ht, hf']
  refine K_dCallP rfl rfl rfl (args := [x.a]) (f := 38) (by simp [go_sem, Inst.a]) (hr) ?_
  refine K_run hB 100 ?_
  simp [go_sem, ht, hf', State.a, State.cs]
  refine K_dCallP rfl rfl rfl (args := [x.a, .agg [.i r.spot, .i r.car, .i r.time, .i r.load, .i r.first, .u r.must, .u r.can, .u r.on, .i 0, .fsl []], .i 1152921504606846976, .i 100]) (f := 31) (by simp [go_sem, Inst.a]) (Pure.loose hx (by simp [bnd, bnd.bndL, Inst.a])) ?_
  refine K_run hB 100 ?_
  simp [go_sem, ht, hf', exRes4, Node.a, Node.cs, h2, h3, ints]
theorem rootN_pure (x : Inst) (hl : x.stops.length < 2 ^ 63) : Pure P 29 [x.a] (x.rootN.a) := by
  refine pure_of Try.func29 rfl rfl (by simp [Try.f29]) (by simp [bnd, bnd.bndL, Inst.a]) (by simp [bnd, bnd.bndL, Node.a, Node.cs]) fun B hB hnx => ?_
  simp only [Try.f29] at hB ⊢
  have hr := root_pureS x hl
  rw [Inst.rootN]
  generalize x.rootS = r at *
  refine K_run hB 100 ?_
  simp [go_sem, Inst.a]
  refine K_call rfl rfl rfl (args := [x.a]) (f := 38) (by simp [go_sem, Inst.a]) (by simp [go_sem, hB]) ((hr).spec _ _) ?_
  refine K_run hB 100 ?_
  simp [go_sem, State.a, State.cs, Node.a, Node.cs]
  rfl
end Go.Proofs.Ytlhmchdfmjfmgaa

/- What looking at few finds: the plain laws. -/
set_option maxRecDepth 4000
namespace Go.Proofs.Ytlhmchdfmjfmgaa
open Go Go.Proofs.Ytlhmchdfmjfmgaa.R
theorem naGo_path (x : Inst) (W : Nat) (k : Nat) : ∀ (d : Nat) (st : Node × Bool × Int) (l : List Node) (n : Int) {K : Nat}, Level x l d K → K ≤ k → st.1.path.length ≤ k → (x.naGo W d st l n).1.path.length ≤ k
  | 0, st, l, n, K, _, _, h => h
  | d + 1, st, l, n, K, h1, h2, h3 => by
    rw [Inst.naGo]
    split
    · exact h3
    · refine naGo_path x W k d _ _ _ (h1.few W st.2.2) h2 ?_
      unfold Inst.look
      split
      · exact bests_path fun m hm => by have := h1.path m hm; omega
      · exact h3
theorem narrow_path (x : Inst) (n : Node) (w up : Int) (ho : n.s.ok) : (x.narrow n w up).1.path.length ≤ n.path.length + 41 := by
  have := meas_le x n.s
  have h := naGo_path x (widthN w) (n.path.length + x.meas n.s + 1) _ (Node.zero, false, up) _ 0 (Level.root x n ho) (Nat.le_refl _) (Nat.zero_le _)
  have : (x.narrow n w up).1.path.length ≤ n.path.length + x.meas n.s + 1 := h
  omega
theorem Lev.few {x : Inst} {l : List Node} {d : Nat} (h : Lev x l (d + 1)) (W : Nat) (up : Int) : Lev x (x.few W l up) d := (h.next up).sub fun n hn => few_mem hn
/-- What is found can be followed, and ended. -/
theorem naGo_from {x : Inst} (W : Nat) : ∀ (d : Nat) (st : Node × Bool × Int) (l : List Node) (n : Int), Lev x l d → stOk st →
    ((x.naGo W d st l n).2.1 = st.2.1 ∧ (x.naGo W d st l n).1 = st.1) ∨
    ((x.naGo W d st l n).2.1 = true ∧ ∃ m ∈ l, ∃ (w : List Int) (c : Int), x.way w m.s c ∧ (x.naGo W d st l n).1.cost = m.cost + c ∧ (x.naGo W d st l n).1.path = m.path ++ w ∧ m.cost + c < st.2.2)
  | 0, st, l, n, _, _ => .inl ⟨rfl, rfl⟩
  | d + 1, st, l, n, hl, h => by
    rw [Inst.naGo]
    split
    · exact .inl ⟨rfl, rfl⟩
    obtain ⟨k1, k2, k3⟩ := look_ok (x := x) (l := l) h
    rcases naGo_from W d (x.look st l) (x.few W l st.2.2) (IntKind.i64.wrap (n + l.length)) (hl.few W st.2.2) k1 with ⟨i1, i2⟩ | ⟨i1, m, hm, w, c, i2, i3, i4, i5⟩
    · by_cases hh : (x.bests l).2 = true ∧ (x.bests l).1.cost < st.2.2
      · have hlk : x.look st l = ((x.bests l).1, true, (x.bests l).1.cost) := by rw [Inst.look, if_pos hh]
        rw [i1, i2, hlk]
        obtain ⟨m, hm, b1, b2, b3⟩ := bests_from hh.1
        rw [end_sum hl hm b1] at b2
        exact .inr ⟨rfl, m, hm, [], _, ⟨b1, rfl⟩, b2, by rw [List.append_nil]; exact b3, by omega⟩
      · have hlk : x.look st l = st := by rw [Inst.look, if_neg hh]
        rw [i1, i2, hlk]
        exact .inl ⟨rfl, rfl⟩
    · obtain ⟨q, hq, j, hj, rfl, _⟩ := next_mem (few_mem hm)
      have hj := moves_mem hj
      have hcc := child_cost hl hq hj
      refine .inr ⟨i1, q, hq, j :: w, (x.move q.s j).2.1 + c, ⟨hj, c, i2, rfl⟩, ?_, ?_, ?_⟩
      · rw [i3, hcc]; omega
      · rw [i4]
        show (q.path ++ [j]) ++ w = _
        rw [List.append_assoc]; rfl
      · rw [hcc] at i5; omega
theorem narrow_from {x : Inst} {n : Node} {up wi : Int} (h1 : n.s.ok) (h2 : n.s.Pos) (h3 : n.s.seenAt) (h4 : 0 ≤ n.cost ∧ n.cost ≤ 1152921504606000000) (hs : (x.narrow n wi up).2.1 = true) :
    ∃ (w : List Int) (c : Int), x.way w n.s c ∧ (x.narrow n wi up).1.cost = n.cost + c ∧ (x.narrow n wi up).1.path = n.path ++ w ∧ n.cost + c < up := by
  rcases naGo_from (x := x) (widthN wi) _ (Node.zero, false, up) _ 0 (Lev.root h1 h2 h3 h4) (fun h => by cases h) with ⟨i1, _⟩ | ⟨_, m, hm, w, c, i2⟩
  · rw [Inst.narrow, i1] at hs; cases hs
  · rw [List.mem_singleton.1 hm] at i2
    exact ⟨w, c, i2⟩
theorem narrow_none {x : Inst} {n : Node} {up wi : Int} (h1 : n.s.ok) (h2 : n.s.Pos) (h3 : n.s.seenAt) (h4 : 0 ≤ n.cost ∧ n.cost ≤ 1152921504606000000) (hs : (x.narrow n wi up).2.1 = false) : (x.narrow n wi up).1 = Node.zero := by
  rcases naGo_from (x := x) (widthN wi) _ (Node.zero, false, up) _ 0 (Lev.root h1 h2 h3 h4) (fun h => by cases h) with ⟨_, i1⟩ | ⟨i1, _⟩
  · exact i1
  · rw [Inst.narrow, i1] at hs; cases hs
/-- How many steps. -/
theorem naGo_steps (x : Inst) (W : Nat) (hW : W ≤ 3000) : ∀ (d : Nat) (st : Node × Bool × Int) (l : List Node) (n : Int), l.length ≤ W → 0 ≤ n → n + 3000 * d < 9223372036854775808 → n ≤ (x.naGo W d st l n).2.2 ∧ (x.naGo W d st l n).2.2 ≤ n + W * d
  | 0, st, l, n, _, _, _ => by rw [Inst.naGo]; simp
  | d + 1, st, l, n, hl, h0, hn => by
    rw [Inst.naGo]
    have e : (W : Int) * ((d + 1 : Nat) : Int) = W * d + W := by rw [Int.natCast_add, Int.mul_add]; simp
    have e2 : (0 : Int) ≤ (W : Int) * d := Int.mul_nonneg (by omega) (by omega)
    split
    · refine ⟨Int.le_refl _, ?_⟩
      simp only
      omega
    · have hw := w64 (n + l.length) (by omega)
      obtain ⟨i1, i2⟩ := naGo_steps x W hW d (x.look st l) (x.few W l st.2.2) (IntKind.i64.wrap (n + l.length)) (few_len x W l st.2.2) (by omega) (by omega)
      refine ⟨by omega, ?_⟩
      rw [hw] at i2 ⊢
      omega
theorem narrow_steps (x : Inst) (n : Node) (wi up : Int) (hw : wi ≤ 3000) : 1 ≤ (x.narrow n wi up).2.2 ∧ (x.narrow n wi up).2.2 ≤ 1 + widthN wi * x.meas n.s := by
  have hm := meas_le x n.s
  have hW2 : widthN wi ≤ 3000 := by unfold widthN; split <;> omega
  have e : x.narrow n wi up = x.naGo (widthN wi) (x.meas n.s) (x.look (Node.zero, false, up) [n]) (x.few (widthN wi) [n] up) 1 := by
    rw [Inst.narrow, Inst.naGo, if_neg (by simp)]
    rfl
  have := naGo_steps x (widthN wi) hW2 (x.meas n.s) (x.look (Node.zero, false, up) [n]) (x.few (widthN wi) [n] up) 1 (few_len x _ _ _) (by omega) (by omega)
  rw [e]
  exact this
theorem meas_rootC {x : Inst} {p : Nat} (hx : x.Fit p) (hm : x.may = true) : (x.meas x.rootS : Int) ≤ 2 * x.pairs + x.cars - 1 := by
  have hp := hx.pairs
  have hc := hx.cars
  unfold Inst.meas
  split
  · rw [Inst.rootS, if_pos hm]
    have h6 : ((List.range (2 * x.pairs.toNat + 1)).filter fun j : Nat => decide (1 ≤ j) && !hasB ({ State.zero with car := 1, time := (x.stop 0).ready } : State).must (j : Int)).length < ((List.range (2 * x.pairs.toNat + 1)).filter fun _ => true).length :=
      filter_lt _ (a := 0) (List.mem_range.2 (by omega)) rfl (by simp) (fun _ _ => rfl)
    rw [List.filter_eq_self.2 (fun _ _ => rfl), List.length_range] at h6
    have : x.base ({ State.zero with car := 1, time := (x.stop 0).ready } : State) ≤ 2 * x.pairs.toNat + (x.cars - 1).toNat := Nat.add_le_add (Nat.le_of_lt_succ h6) (Nat.le_refl _)
    omega
  · omega
/-- A width below 1 is as 1. -/
theorem widthN_low {w : Int} (h : w ≤ 1) : widthN w = 1 := by
  unfold widthN
  split
  · rfl
  · omega
theorem narrow_low (x : Inst) (n : Node) {w : Int} (h : w ≤ 1) (up : Int) : x.narrow n w up = x.narrow n 1 up := by
  rw [Inst.narrow, Inst.narrow, widthN_low h, widthN_low (Int.le_refl 1)]
/-! With levels as wide as may be. -/
theorem potL_part (p d : Nat) (f : Node → Bool) : ∀ (l : List Node), potL p d (l.filter f) + potL p d (l.filter fun n => !f n) = potL p d l
  | [] => rfl
  | n :: l => by
    have := potL_part p d f l
    rw [List.filter_cons, List.filter_cons]
    cases f n <;> simp [potL] <;> omega
theorem potL_ins (p d : Nat) (x : Inst) (n : Node) (s : List Node) : potL p d (insK x.of n s) = potS p d n.s + potL p d s := by
  have h := potL_part p d (fun y => decide (x.of y ≤ x.of n)) s
  have e : (s.filter fun y => !decide (x.of y ≤ x.of n)) = s.filter fun y => decide (x.of n < x.of y) := by
    congr 1
    funext y
    rw [Bool.eq_iff_iff]
    simp
  rw [insK, potL_app]
  simp only [potL]
  rw [e] at h
  omega
theorem potL_sortF (p d : Nat) (x : Inst) : ∀ (l s : List Node), potL p d (l.foldl (fun s n => insK x.of n s) s) = potL p d s + potL p d l
  | [], s => by simp [potL]
  | n :: l, s => by
    rw [List.foldl_cons, potL_sortF p d x l, potL_ins, potL]
    omega
theorem potL_sort (p d : Nat) (x : Inst) (l : List Node) : potL p d (x.sortN l) = potL p d l := by
  have := potL_sortF p d x l []
  simp only [potL] at this
  rw [Inst.sortN, isort, this]
  omega
theorem pot_few {x : Inst} {p : Nat} (hx : x.Fit p) (hp3 : p ≤ 3) (d : Nat) (up : Int) {l : List Node} (h : ∀ n ∈ l, Good x p n.s) : potL p d (x.sortN (x.next l up)) ≤ potL p (d + 1) l := by
  have h2 := potL_once p d (l.flatMap (x.kids up)) []
  have h3 := pot_flat hx hp3 d up l h
  rw [potL_sort, Inst.next, onceL]
  simp only [potL] at h2
  omega
theorem good_few {x : Inst} {p : Nat} (hx : x.Fit p) {l : List Node} (h : ∀ n ∈ l, Good x p n.s) (up : Int) : ∀ m ∈ x.sortN (x.next l up), Good x p m.s := by
  intro m hm
  obtain ⟨n, hn, j, hj, rfl, _⟩ := next_mem (Inst.sortN_mem.1 hm)
  exact (good_step hx (h n hn) (moves_mem hj)).1
theorem naGo_keep (x : Inst) (W : Nat) : ∀ (d : Nat) (st : Node × Bool × Int) (l : List Node) (n : Int), stOk st → st.2.1 = true → (x.naGo W d st l n).2.1 = true ∧ (x.naGo W d st l n).1.cost ≤ st.2.2
  | 0, st, l, n, h, hs => ⟨hs, by rw [Inst.naGo]; have := h hs; simp only; omega⟩
  | d + 1, st, l, n, h, hs => by
    rw [Inst.naGo]
    split
    · exact ⟨hs, by have := h hs; simp only; omega⟩
    · obtain ⟨k1, k2, k3⟩ := look_ok (x := x) (l := l) h
      obtain ⟨j1, j2⟩ := naGo_keep x W d (x.look st l) (x.few W l st.2.2) (IntKind.i64.wrap (n + l.length)) k1 (k3 hs)
      exact ⟨j1, by omega⟩
theorem naGo_has {x : Inst} {p : Nat} (hx : x.Fit p) (hp3 : p ≤ 3) (hst : x.stops.length < 2 ^ 31) {W : Nat} (hW : 132 ≤ W) : ∀ (d : Nat) (st : Node × Bool × Int) (l : List Node) (n : Int), Lev x l d → stOk st → (∀ n ∈ l, Good x p n.s) → potL p d l ≤ 132 →
    ∀ m ∈ l, ∀ (w : List Int) (c : Int), x.way w m.s c → m.cost + c < st.2.2 → (x.naGo W d st l n).2.1 = true ∧ (x.naGo W d st l n).1.cost ≤ m.cost + c
  | 0, st, l, n, hl, _, _, _, m, hm, w, c, _, _ => by rw [hl.empty] at hm; cases hm
  | d + 1, st, l, n, hl, h, hg, hp, m, hm, w, c, hw, hlt => by
    have c1 : ¬ l.length = 0 := by
      have := List.length_pos_of_mem hm
      omega
    have hpf := Nat.le_trans (pot_few hx hp3 d st.2.2 hg) hp
    have hfe : x.few W l st.2.2 = x.sortN (x.next l st.2.2) := by
      have := potL_len p d (x.sortN (x.next l st.2.2))
      rw [Inst.few, List.take_of_length_le (by omega)]
    rw [Inst.naGo, if_neg c1, hfe]
    obtain ⟨k1, k2, k3⟩ := look_ok (x := x) (l := l) h
    match w, hw with
    | [], hw =>
      obtain ⟨b1, b2⟩ := bests_has hm hw.1
      rw [end_sum hl hm hw.1, ← hw.2] at b2
      have hlk : x.look st l = ((x.bests l).1, true, (x.bests l).1.cost) := by rw [Inst.look, if_pos ⟨b1, by omega⟩]
      obtain ⟨j1, j2⟩ := naGo_keep x W d (x.look st l) (x.sortN (x.next l st.2.2)) (IntKind.i64.wrap (n + l.length)) k1 (by rw [hlk])
      refine ⟨j1, ?_⟩
      have : (x.look st l).2.2 = (x.bests l).1.cost := by rw [hlk]
      omega
    | j :: w, hw =>
      obtain ⟨g1, e, g2, g3⟩ := hw
      obtain ⟨f, hf, q1, q2⟩ := next_way hst hl hm g1 g2 (up := st.2.2) (by omega)
      by_cases c3 : f.cost + e < (x.look st l).2.2
      · obtain ⟨i1, i2⟩ := naGo_has hx hp3 hst hW d (x.look st l) (x.sortN (x.next l st.2.2)) (IntKind.i64.wrap (n + l.length)) ((hl.next st.2.2).sub fun n hn => Inst.sortN_mem.1 hn) k1 (good_few hx hg st.2.2) hpf f (Inst.sortN_mem.2 hf) w e (by rw [q1]; exact g2) c3
        exact ⟨i1, by omega⟩
      · have hs : (x.look st l).2.1 = true := by
          unfold Inst.look at c3 ⊢
          split
          · rfl
          · rename_i hh
            rw [if_neg hh] at c3
            omega
        obtain ⟨j1, j2⟩ := naGo_keep x W d (x.look st l) (x.sortN (x.next l st.2.2)) (IntKind.i64.wrap (n + l.length)) k1 hs
        exact ⟨j1, by omega⟩
theorem narrow_has {x : Inst} {p : Nat} (hx : x.Fit p) (hm : x.may = true) (hp3 : p ≤ 3) {up wi : Int} (hw : 132 ≤ wi) {w : List Int} {c : Int} (hway : x.way w x.rootS c) (hlt : c < up) :
    (x.narrow x.rootN wi up).2.1 = true ∧ (x.narrow x.rootN wi up).1.cost ≤ c := by
  have hlen := hx.len
  have hz : x.rootN.cost = 0 := rfl
  have h1 := meas_root hx hm
  have h2 := pot_root p (by omega) (x.meas x.rootS + 1) (by omega)
  have h3 : keyM x.rootS = 0 := by rw [Inst.rootS, if_pos hm]; simp [keyM, State.zero]
  have h4 : x.rootS.yard = true := by rw [Inst.rootS, if_pos hm]; simp [State.yard, State.zero]
  have h5 : potL p (x.meas x.rootN.s + 1) [x.rootN] ≤ 132 := by
    simp only [potL, potS]
    show pot p (x.meas x.rootS + 1) (keyM x.rootS) x.rootS.yard + 0 ≤ 132
    rw [h3, h4]
    omega
  have := naGo_has hx hp3 (by omega) (W := widthN wi) (by unfold widthN; split <;> omega) (x.meas x.rootN.s + 1) (Node.zero, false, up) [x.rootN] 0 (Lev.root (rootS_ok x) (pos_root hm) (seen_root x) (by rw [hz]; omega)) (fun h => by cases h) (fun n hn => by rw [List.mem_singleton.1 hn]; exact good_root hx hm) h5 x.rootN List.mem_cons_self w c hway (by rw [hz]; simp only; omega)
  rw [hz, Int.zero_add] at this
  exact this
end Go.Proofs.Ytlhmchdfmjfmgaa

/- Proofs: if one holds no way costs less than it claims: the plain law. -/
set_option maxRecDepth 4000
namespace Go.Proofs.Ytlhmchdfmjfmgaa
open Go Go.Proofs.Ytlhmchdfmjfmgaa.R
/-- How deep parts are told to be: what a step leaves. -/
structure Kept (k : Nat) (a b : List Int) : Prop where
  len : b.length = a.length
  same : ∀ j, j ≤ k → b.getD j 0 = a.getD j 0
  less : ∀ j, b.getD j 0 ≤ a.getD j 0
  pos : (∀ j, 0 ≤ a.getD j 0 ∧ a.getD j 0 ≤ infI) → ∀ j, 0 ≤ b.getD j 0 ∧ b.getD j 0 ≤ infI
theorem Kept.refl (k : Nat) (a : List Int) : Kept k a a := ⟨rfl, fun _ _ => rfl, fun _ => Int.le_refl _, fun h => h⟩
theorem Kept.trans {k : Nat} {a b c : List Int} (h1 : Kept k a b) (h2 : Kept k b c) : Kept k a c :=
  ⟨h2.len.trans h1.len, fun j h => (h2.same j h).trans (h1.same j h), fun j => Int.le_trans (h2.less j) (h1.less j), fun h => h2.pos (h1.pos h)⟩
theorem Kept.mono {k m : Nat} {a b : List Int} (h : Kept m a b) (hk : k ≤ m) : Kept k a b := ⟨h.len, fun j hj => h.same j (Nat.le_trans hj hk), h.less, h.pos⟩
theorem getD_set {l : List Int} {i j : Nat} {v : Int} (hi : i < l.length) : (l.set i v).getD j 0 = if i = j then v else l.getD j 0 := by
  rw [List.getD_eq_getElem?_getD, List.getElem?_set, List.getD_eq_getElem?_getD]
  by_cases h : i = j
  · subst h; simp [hi]
  · simp [h]
theorem wrap_dk {a : List Int} {k i : Nat} (hr : ∀ j, 0 ≤ a.getD j 0 ∧ a.getD j 0 ≤ infI) (hi : i < 2 ^ 31) : IntKind.i64.wrap (a.getD k 0 + i) = a.getD k 0 + i := by
  have := hr k
  rw [infI] at this
  exact w64 _ (by omega)
theorem step_kept {k i : Nat} {n : Spot} {a : List Int} (hr : ∀ j, 0 ≤ a.getD j 0 ∧ a.getD j 0 ≤ infI) (hi : i < 2 ^ 31) : Kept k a (stepD k i n a) ∧ ((k : Int) < n.part - 1 → (n.part - 1).toNat < a.length → (stepD k i n a).getD (n.part - 1).toNat 0 ≤ a.getD k 0 + i) := by
  have hw := wrap_dk (k := k) hr hi
  unfold stepD
  rw [hw]
  split
  · rename_i c
    by_cases hl : (n.part - 1).toNat < a.length
    · have hg := fun j => getD_set (l := a) (j := j) (v := min (a.getD (n.part - 1).toNat 0) (a.getD k 0 + i)) hl
      have hk := hr k
      have hp := hr (n.part - 1).toNat
      refine ⟨⟨List.length_set, fun j hj => ?_, fun j => ?_, fun _ j => ?_⟩, fun _ _ => ?_⟩
      · rw [hg, if_neg (by omega)]
      · rw [hg]
        split
        · rename_i e; rw [← e]; omega
        · exact Int.le_refl _
      · rw [hg]
        split
        · omega
        · exact hr j
      · rw [hg, if_pos rfl]; omega
    · rw [List.set_eq_of_length_le (by omega)]
      exact ⟨Kept.refl k a, fun _ h => absurd h hl⟩
  · rename_i c
    exact ⟨Kept.refl k a, fun h => absurd h c⟩
/-- What a spot tells of how deep parts are. -/
def Tells (x : Inst) (p : Prf) (k i : Nat) (dk : Int) (F : List Int) (n : Spot) : Prop :=
  x.holdsB p k i n dk = true ∧ ((k : Int) < n.part - 1 → (n.part - 1).toNat < F.length → F.getD (n.part - 1).toNat 0 ≤ dk + i)
theorem Tells.kept {x : Inst} {p : Prf} {k i m : Nat} {dk : Int} {a b : List Int} {n : Spot} (h : Tells x p k i dk a n) (hk : Kept m a b) : Tells x p k i dk b n :=
  ⟨h.1, fun h1 h2 => Int.le_trans (hk.less _) (h.2 h1 (by rw [← hk.len]; exact h2))⟩
theorem lay_tells {x : Inst} {p : Prf} {k i : Nat} (hi : i < 2 ^ 31) : ∀ (l : List Spot) (a b : List Int), (∀ j, 0 ≤ a.getD j 0 ∧ a.getD j 0 ≤ infI) → x.layGo p k i l a = some b → Kept k a b ∧ ∀ n ∈ l, Tells x p k i (a.getD k 0) b n
  | [], a, b, hr, h => by
    cases h
    exact ⟨Kept.refl k a, fun n hn => by cases hn⟩
  | n :: l, a, b, hr, h => by
    rw [Inst.layGo] at h
    split at h
    · rename_i hh
      obtain ⟨s1, s2⟩ := step_kept (k := k) (n := n) hr hi
      obtain ⟨i1, i2⟩ := lay_tells hi l _ b (s1.pos hr) h
      have e := s1.same k (Nat.le_refl k)
      refine ⟨s1.trans i1, fun m hm => ?_⟩
      rcases List.mem_cons.1 hm with rfl | hm
      · exact Tells.kept (a := stepD k i m a) ⟨hh, fun h1 h2 => s2 h1 (by rw [← s1.len]; exact h2)⟩ i1
      · rw [← e]; exact i2 m hm
    · cases h
theorem part_tells {x : Inst} {p : Prf} {k : Nat} : ∀ (i : Nat) (q : List (List Spot)) (a b : List Int), i + q.length < 2 ^ 31 → (∀ j, 0 ≤ a.getD j 0 ∧ a.getD j 0 ≤ infI) → x.partGo p k i q a = some b → Kept k a b ∧ ∀ j l, q[j]? = some l → ∀ n ∈ l, Tells x p k (i + j) (a.getD k 0) b n
  | i, [], a, b, _, hr, h => by
    cases h
    exact ⟨Kept.refl k a, fun j l hj => by simp at hj⟩
  | i, l :: q, a, b, hq, hr, h => by
    rw [Inst.partGo] at h
    split at h
    · cases h
    · rename_i d hd
      rw [List.length_cons] at hq
      obtain ⟨s1, s2⟩ := lay_tells (by omega) l a d hr hd
      obtain ⟨i1, i2⟩ := part_tells (i + 1) q d b (by omega) (s1.pos hr) h
      refine ⟨s1.trans i1, fun j m hj n hn => ?_⟩
      cases j with
      | zero =>
        simp only [List.getElem?_cons_zero, Option.some.injEq] at hj
        subst hj
        exact (s2 n hn).kept i1
      | succ j =>
        rw [List.getElem?_cons_succ] at hj
        have := i2 j m hj n hn
        rw [s1.same k (Nat.le_refl k), show i + 1 + j = i + (j + 1) by omega] at this
        exact this
theorem parts_tells {x : Inst} {p : Prf} : ∀ (k : Nat) (ps : List (List (List Spot))) (a F : List Int), (∀ q ∈ ps, q.length < 2 ^ 30) → (∀ j, 0 ≤ a.getD j 0 ∧ a.getD j 0 ≤ infI) → x.partsGo p k ps a = some F →
    (∀ j, 0 ≤ F.getD j 0 ∧ F.getD j 0 ≤ infI) ∧ F.length = a.length ∧ (∀ j, j ≤ k → F.getD j 0 = a.getD j 0) ∧ (∀ j, F.getD j 0 ≤ a.getD j 0) ∧ ∀ j q, ps[j]? = some q → F.getD (k + j) 0 ≠ infI → ∀ i l, q[i]? = some l → ∀ n ∈ l, Tells x p (k + j) i (F.getD (k + j) 0) F n
  | k, [], a, F, _, hr, h => by
    cases h
    exact ⟨hr, rfl, fun _ _ => rfl, fun _ => Int.le_refl _, fun j q hj => by simp at hj⟩
  | k, q :: ps, a, F, hq, hr, h => by
    rw [Inst.partsGo] at h
    split at h
    · rename_i c
      obtain ⟨i0, i1, i2, i3, i4⟩ := parts_tells (k + 1) ps a F (fun q h => hq q (List.mem_cons_of_mem _ h)) hr h
      refine ⟨i0, i1, fun j hj => i2 j (by omega), i3, fun j r hj hF => ?_⟩
      cases j with
      | zero =>
        rw [Nat.add_zero, i2 k (by omega)] at hF
        exact absurd c hF
      | succ j =>
        rw [List.getElem?_cons_succ] at hj
        rw [show k + (j + 1) = k + 1 + j by omega] at hF ⊢
        exact i4 j r hj hF
    · split at h
      · cases h
      · rename_i d hd
        have hq0 := hq q List.mem_cons_self
        obtain ⟨s1, s2⟩ := part_tells 0 q a d (by omega) hr hd
        obtain ⟨i0, i1, i2, i3, i4⟩ := parts_tells (k + 1) ps d F (fun q h => hq q (List.mem_cons_of_mem _ h)) (s1.pos hr) h
        have hk : ∀ j, j ≤ k → F.getD j 0 = a.getD j 0 := fun j hj => (i2 j (by omega)).trans (s1.same j hj)
        refine ⟨i0, i1.trans s1.len, hk, fun j => Int.le_trans (i3 j) (s1.less j), fun j r hj hF => ?_⟩
        cases j with
        | zero =>
          simp only [List.getElem?_cons_zero, Option.some.injEq] at hj
          subst hj
          intro i l hil n hn
          have := s2 i l hil n hn
          rw [Nat.zero_add] at this
          rw [Nat.add_zero, hk k (Nat.le_refl k)]
          exact ⟨this.1, fun h1 h2 => Int.le_trans (i3 _) (this.2 h1 (by rw [← i1]; exact h2))⟩
        | succ j =>
          rw [List.getElem?_cons_succ] at hj
          rw [show k + (j + 1) = k + 1 + j by omega] at hF ⊢
          exact i4 j r hj hF
end Go.Proofs.Ytlhmchdfmjfmgaa

/- Proofs: if one holds no way costs less than it claims. -/
set_option maxRecDepth 4000
namespace Go.Proofs.Ytlhmchdfmjfmgaa
open Go Go.Proofs.Ytlhmchdfmjfmgaa.R
theorem sumI_le {a b : Int} (ha : 0 ≤ a) (hb : 0 ≤ b) : sumI [a, b] ≤ a + b := by
  simp only [sumI, List.foldl_cons, List.foldl_nil, sum1]
  omega
theorem sumI_nn (a b : Int) : 0 ≤ sumI [a, b] := by
  simp only [sumI, List.foldl_cons, List.foldl_nil, sum1]
  omega
/-- What is known of a spot that may be. -/
theorem spot_pos {x : Inst} {p : Prf} {n : Spot} (h : x.spotB p n = true) : n.s.Pos ∧ 0 ≤ n.cost ∧ 0 ≤ n.part ∧ n.part ≤ p.parts.length := by
  simp only [Inst.spotB, State.mayB, Bool.and_eq_true, decide_eq_true_eq] at h
  obtain ⟨⟨⟨⟨h1, h2⟩, h3⟩, h4⟩, h5⟩ := h
  exact ⟨⟨h1.1.1.1.1.1.2, h1.1.1.1.2, h1.1.2⟩, h2, h4, h5⟩
theorem whole_spot {x : Inst} {p : Prf} {q : List (List Spot)} (h : x.wholeB p q = true) {l : List Spot} (hl : l ∈ q) {n : Spot} (hn : n ∈ l) : x.spotB p n = true := by
  unfold Inst.wholeB at h
  split at h
  · cases h
  · simp only [Bool.and_eq_true, Bool.not_eq_true', decide_eq_true_eq, List.any_eq_false] at h
    have := h.2 l hl
    simp only [Bool.not_eq_true, List.any_eq_false] at this
    have := this n hn
    simpa using this
structure Holds (x : Inst) (p : Prf) (F : List Int) : Prop where
  len : F.length = p.parts.length
  whole : ∀ q ∈ p.parts, x.wholeB p q = true
  ok : ∀ q ∈ p.parts, ∀ l ∈ q, ∀ n ∈ l, n.s.ok
  small : ∀ q ∈ p.parts, q.length < 2 ^ 30
  rng : ∀ j, 0 ≤ F.getD j 0 ∧ F.getD j 0 ≤ infI
  tells : ∀ k q, p.parts[k]? = some q → F.getD k 0 ≠ infI → ∀ i l, q[i]? = some l → ∀ n ∈ l, Tells x p k i (F.getD k 0) F n
theorem deep_small {x : Inst} (hm : x.may = true) : x.deep ≤ 1000 := by
  obtain ⟨p, hx⟩ := x.fit hm
  have := hx.pairs
  have := hx.few
  have := hx.cars
  rw [Inst.deep, if_pos hm]
  omega
theorem low_cov {x : Inst} (hl : x.stops.length < 2 ^ 31) {a t : State} (hc : coversB a t = true) (hs : t.seenAt) {w : List Int} {c : Int} (hw : x.way w t c) : 0 ≤ x.low a ∧ x.low a ≤ c := by
  have h1 := lowP_in (near_le x) a.can
  rw [low_eq x a hl]
  simp only [coversB, Bool.and_eq_true, decide_eq_true_eq] at hc
  have h2 : lowP x.near a.can ≤ lowP x.near t.can := lowP_mono (near_le x) fun j => within_has hc.1.1.1.1.2 j
  have h3 := way_low hs hw
  omega
theorem sound_go {x : Inst} {p : Prf} {F : List Int} (hx : x.may = true) (hl : x.stops.length < 2 ^ 31) (H : Holds x p F) : ∀ (w : List Int) (r k : Nat), p.parts.length - k ≤ r → ∀ (q : List (List Spot)) (i : Nat) (l : List Spot) (n : Spot) (t : State) (e c m : Int), p.parts[k]? = some q → q[i]? = some l → n ∈ l →
    F.getD k 0 ≠ infI → coversB n.s t = true → (x.pairs = 0 → n.s = t) → t.ok → t.seenAt → n.cost ≤ e → F.getD k 0 + i ≤ m → (x.meas t : Int) + m ≤ x.deep → x.way w t c → p.least ≤ e + c := by
  intro w
  induction w with
  | nil =>
    intro r
    induction r with
    | zero =>
      intro k hk q i l n t e c m hq
      have := (List.getElem?_eq_some_iff.1 hq).1
      omega
    | succ r ih =>
      intro k hk q i l n t e c m hq hl2 hn hF hc h0 hto hts he hm hd hw
      have hqm := List.mem_of_getElem? hq
      have hlm := List.mem_of_getElem? hl2
      obtain ⟨hpos, hn0, hp0, hp1⟩ := spot_pos (whole_spot (H.whole q hqm) hlm hn)
      have hnok := H.ok q hqm l hlm n hn
      obtain ⟨t1, t2⟩ := H.tells k q hq hF i l hl2 n hn
      obtain ⟨lo1, lo2⟩ := low_cov hl hc hts hw
      have hwi := way_in hw
      unfold Inst.holdsB at t1
      split at t1
      · rename_i c1
        simp only [Inst.deadB, decide_eq_true_eq] at c1
        have := sumI_le hn0 lo1
        omega
      split at t1
      · rename_i c2
        unfold Prf.leadsB at t1
        split at t1
        · rename_i f hf
          simp only [Bool.and_eq_true, decide_eq_true_eq] at t1
          obtain ⟨u1, u2, u3⟩ := t1
          obtain ⟨hj, l0, q0, hpj⟩ := first_some hf
          have hFj := t2 u1 (by rw [H.len]; exact hj)
          have hds := deep_small hx
          refine ih (n.part - 1).toNat (by omega) ((f :: l0) :: q0) 0 (f :: l0) f t e c m (by rw [List.getElem?_eq_getElem hj, hpj]) rfl List.mem_cons_self ?_ (by rw [u2]; exact hc) (fun h => by rw [u2]; exact h0 h) hto hts (by omega) (by omega) hd hw
          rw [infI]; omega
        · cases t1
      · rename_i c2
        have hend : (x.endS n.s).2 = true ∧ (x.endS n.s).1 = c := by
          by_cases hp : x.pairs = 0
          · rw [h0 hp]; exact ⟨hw.1, hw.2.symm⟩
          · obtain ⟨e1, e2⟩ := cov_end hp hc hpos hnok hw.1
            exact ⟨e1, by rw [e2]; exact hw.2.symm⟩
        split at t1
        · cases t1
        · rename_i c3
          rw [hend.2] at c3
          have := sumI_le hn0 hwi.1
          have : ¬ sumI [n.cost, c] < p.least := fun h => c3 ⟨hend.1, h⟩
          omega
  | cons j w ihw =>
    intro r
    induction r with
    | zero =>
      intro k hk q i l n t e c m hq
      have := (List.getElem?_eq_some_iff.1 hq).1
      omega
    | succ r ih =>
      intro k hk q i l n t e c m hq hl2 hn hF hc h0 hto hts he hm hd hw
      have hqm := List.mem_of_getElem? hq
      have hlm := List.mem_of_getElem? hl2
      obtain ⟨hpos, hn0, hp0, hp1⟩ := spot_pos (whole_spot (H.whole q hqm) hlm hn)
      have hnok := H.ok q hqm l hlm n hn
      obtain ⟨t1, t2⟩ := H.tells k q hq hF i l hl2 n hn
      obtain ⟨lo1, lo2⟩ := low_cov hl hc hts hw
      have hwi := way_in hw
      have hds := deep_small hx
      unfold Inst.holdsB at t1
      split at t1
      · rename_i c1
        simp only [Inst.deadB, decide_eq_true_eq] at c1
        have := sumI_le hn0 lo1
        omega
      split at t1
      · rename_i c2
        unfold Prf.leadsB at t1
        split at t1
        · rename_i f hf
          simp only [Bool.and_eq_true, decide_eq_true_eq] at t1
          obtain ⟨u1, u2, u3⟩ := t1
          obtain ⟨hj, l0, q0, hpj⟩ := first_some hf
          have hFj := t2 u1 (by rw [H.len]; exact hj)
          refine ih (n.part - 1).toNat (by omega) ((f :: l0) :: q0) 0 (f :: l0) f t e c m (by rw [List.getElem?_eq_getElem hj, hpj]) rfl List.mem_cons_self ?_ (by rw [u2]; exact hc) (fun h => by rw [u2]; exact h0 h) hto hts (by omega) (by omega) hd hw
          rw [infI]; omega
        · cases t1
      · rename_i c2
        split at t1
        · cases t1
        · rename_i c3
          obtain ⟨g1, d, g2, g3⟩ := hw
          have hmm := meas_move g1
          have hmc := move_cost g1
          have hil := (List.getElem?_eq_some_iff.1 hl2).1
          have hqs := H.small q hqm
          rw [wrap_dk H.rng (by omega), if_neg (by omega)] at t1
          obtain ⟨v1, v2, v3, v4⟩ := cov_move hc hpos hnok g1
          rw [Inst.goesB, List.all_eq_true] at t1
          have hgo := t1 j (mem_moves v1)
          rw [Inst.goB, Bool.or_eq_true] at hgo
          have hs1 := sumI_le hn0 (b := (x.move n.s j).2.1) (by rw [v2]; exact hmc.1)
          have hs2 := sumI_nn n.cost (x.move n.s j).2.1
          rw [v2] at hs1 hs2 hgo
          rcases hgo with hgo | hgo
          · simp only [Inst.deadB, decide_eq_true_eq] at hgo
            obtain ⟨lo3, lo4⟩ := low_cov hl v3 (seen_step g1) g2
            have := sumI_le hs2 lo3
            omega
          · rw [hq, Option.getD_some] at hgo
            obtain ⟨n', hn', hb⟩ := List.any_eq_true.1 hgo
            simp only [Bool.and_eq_true, decide_eq_true_eq] at hb
            have hi1 : i + 1 < q.length := by
              by_cases h : i + 1 < q.length
              · exact h
              · rw [List.getD_eq_getElem?_getD, List.getElem?_eq_none (by omega)] at hn'
                cases hn'
            have hgd : q.getD (i + 1) [] = q[i + 1] := by rw [List.getD_eq_getElem?_getD, List.getElem?_eq_getElem hi1]; rfl
            rw [hgd] at hn'
            have := ihw (p.parts.length) k (by omega) q (i + 1) q[i + 1] n' (x.move t j).1 (e + (x.move t j).2.1) d (m + 1) hq (List.getElem?_eq_getElem hi1) hn' hF (covers_trans hb.2 v3) (fun h => absurd h (move_pairs g1)) (move_ok x j hto) (seen_step g1) (by omega) (by omega) (by omega) g2
            omega
theorem check_sound {x : Inst} {p : Prf} (hl : x.stops.length < 2 ^ 31) (hs : ∀ q ∈ p.parts, q.length < 2 ^ 30) (ho : ∀ q ∈ p.parts, ∀ l ∈ q, ∀ n ∈ l, n.s.ok) (h : x.checkE p = 0) : x.may = true ∧ p.least ≤ infI ∧ ∀ (w : List Int) (c : Int), x.way w x.rootS c → p.least ≤ c := by
  obtain ⟨c1, f, F, hf, c2, c3, hF⟩ := check_zero h
  simp only [Inst.mayP, Bool.and_eq_true, decide_eq_true_eq] at c1
  obtain ⟨m1, m2, m3, m4, m5⟩ := c1
  refine ⟨m1, m3, fun w c hw => ?_⟩
  have hlen0 : 0 < p.parts.length := List.length_pos_iff.2 m4
  have hr0 : ∀ j, 0 ≤ ((List.replicate p.parts.length infI).set 0 0).getD j 0 ∧ ((List.replicate p.parts.length infI).set 0 0).getD j 0 ≤ infI := by
    intro j
    rw [getD_set (by rw [List.length_replicate]; exact hlen0)]
    split
    · exact ⟨Int.le_refl _, by decide⟩
    · rw [List.getD_eq_getElem?_getD, List.getElem?_replicate]
      split
      · exact ⟨by decide, Int.le_refl _⟩
      · exact ⟨Int.le_refl _, by decide⟩
  obtain ⟨i0, i1, i2, i3, i4⟩ := parts_tells 0 p.parts _ F hs hr0 hF
  have hF0 : F.getD 0 0 = 0 := by
    rw [i2 0 (Nat.le_refl 0), getD_set (by rw [List.length_replicate]; exact hlen0), if_pos rfl]
  have H : Holds x p F := ⟨by rw [i1, List.length_set, List.length_replicate], List.all_eq_true.1 m5, ho, hs, i0, fun k q hq hk i l hil n hn => by
    have := i4 k q hq (by rw [Nat.zero_add]; exact hk) i l hil n hn
    rw [Nat.zero_add] at this
    exact this⟩
  obtain ⟨hj, l0, q0, hpj⟩ := first_some hf
  obtain ⟨pp, hx⟩ := x.fit m1
  have hdp : x.deep = 2 * x.pairs + x.cars - 1 := by rw [Inst.deep, if_pos m1]
  have hme := meas_rootC hx m1
  have := sound_go m1 hl H w p.parts.length 0 (by omega) ((f :: l0) :: q0) 0 (f :: l0) f x.rootS 0 c 0 (by rw [List.getElem?_eq_getElem hj, hpj]) rfl List.mem_cons_self (by rw [hF0]; decide) (by rw [c2]; exact covers_refl _) (fun _ => c2) (rootS_ok x) (seen_root x) (by omega) (by rw [hF0]; omega) (by omega) hw
  omega
end Go.Proofs.Ytlhmchdfmjfmgaa

/- Has a proof few parts? -/
set_option maxRecDepth 4000
namespace Go.Proofs.Ytlhmchdfmjfmgaa
open Go Go.Proofs.Ytlhmchdfmjfmgaa.R
def fewLay (q : List (List Spot)) : Bool := decide (q.length ≤ 12) && q.all fun l => decide (l.length ≤ 60)
def Prf.fewB (p : Prf) : Bool := decide (p.parts.length ≤ 60) && p.parts.all fewLay
theorem few20_pure (p : Prf) (hp : p.parts.length < 2 ^ 63) (hq : ∀ q ∈ p.parts, q.length < 2 ^ 63) : Pure P 15 [p.a] (.b p.fewB) := by
  generalize hR : p.fewB = R
  refine pure_of Try.func15 rfl rfl (by simp [Try.f15]) (by simp [bnd, bnd.bndL, Prf.a, Prf.cs]) (by simp [bnd, bnd.bndL]) fun B hB hnx => ?_
  simp only [Try.f15] at hB ⊢
  have hYl : (p.parts.map partT).length = p.parts.length := List.length_map _
  have hYg : ∀ (k : Nat) (h : k < p.parts.length), (p.parts.map partT)[k]'(by rw [hYl]; exact h) = partT p.parts[k] := fun k h => map_get partT p.parts h _
  rw [Prf.fewB] at hR
  have hcs : p.cs = [.i p.least, .t (.sl (p.parts.map partT))] := rfl
  generalize p.parts.map partT = Y at *
  generalize p.parts = ps at *
  by_cases c1 : 60 < (ps.length : Int)
  · rw [decide_eq_false (by omega), Bool.false_and] at hR
    subst hR
    refine K_run hB 100 ?_
    simp [go_sem, hcs, hYl, c1, Prf.a]
  rw [decide_eq_true (by omega), Bool.true_and] at hR
  refine K_run hB 100 ?_
  simp [go_sem, hcs, hYl, c1, Prf.a]
  refine K_loopP (α := Nat × (Nat → AObj) × Nat) (fun (k, τ, ny) => k ≤ ps.length ∧ (ps.drop k).all fewLay = R ∧ τ 0 = .box [.i p.least, .t (.sl Y)] ∧ 0 < ny) (fun (k, τ, ny) => ⟨sl [(1, .ptr 0 0), (3, .i k)], τ, ny⟩) (fun a => ps.length - a.1) (0, _, 1) ?_ (Imp.slots (by simp [go_sem]) rfl rfl) ?_
  · exact ⟨Nat.zero_le _, hR, by simp [oput], by omega⟩
  rintro ⟨k, τ, ny⟩ ⟨g1, g2, g3, g4⟩
  refine K_run hB 60 ?_
  simp [go_sem, g3, hYl]
  refine fork_dec (fun hk => ?_) (fun hk => ?_)
  · have hkk : IntKind.i64.wrap ((k : Int) + 1) = ((k + 1 : Nat) : Int) := by rw [w64 ((k : Int) + 1) (by omega)]; rfl
    have hgk : ∀ h : k < Y.length, Y[k]'h = partT ps[k] := fun h => hYg k hk
    have hql := hq ps[k] (List.getElem_mem _)
    rw [List.drop_eq_getElem_cons hk, List.all_cons, fewLay] at g2
    generalize ps[k] = q at *
    have hZl : (q.map layT).length = q.length := List.length_map _
    have hZg : ∀ (k : Nat) (h : k < q.length), (q.map layT)[k]'(by rw [hZl]; exact h) = layT q[k] := fun k h => map_get layT q h _
    have hpt : partT q = [.sl (q.map layT)] := rfl
    generalize q.map layT = Z at *
    by_cases c2 : 12 < (q.length : Int)
    · rw [decide_eq_false (by omega), Bool.false_and, Bool.false_and] at g2
      subst g2
      simp [go_sem, g3, hYl, hk, hgk, hpt, hZl, c2]
    rw [decide_eq_true (by omega), Bool.true_and] at g2
    simp [go_sem, g3, hYl, hk, hgk, hpt, hZl, c2]
    refine K_loopP (α := Nat) (fun i => i ≤ q.length ∧ ((q.drop i).all (fun l => decide (l.length ≤ 60)) && (ps.drop (k + 1)).all fewLay) = R) (fun i => ⟨sl [(1, .ptr 0 0), (3, .i k), (4, .i i)], τ, ny⟩) (fun i => q.length - i) 0 ⟨Nat.zero_le _, g2⟩ (Imp.slots (by simp [go_sem]) rfl rfl) ?_
    rintro i ⟨f1, f2⟩
    refine K_run hB 60 ?_
    simp [go_sem, g3, hYl, hk, hgk, hpt, hZl]
    refine fork_dec (fun hi => ?_) (fun hi => ?_)
    · have hii : IntKind.i64.wrap ((i : Int) + 1) = ((i + 1 : Nat) : Int) := by rw [w64 ((i : Int) + 1) (by omega)]; rfl
      have hgi : ∀ h : i < Z.length, Z[i]'h = layT q[i] := fun h => hZg i hi
      rw [List.drop_eq_getElem_cons hi, List.all_cons] at f2
      generalize q[i] = l at *
      have hll : (l.map Spot.t).length = l.length := List.length_map _
      by_cases c3 : 60 < (l.length : Int)
      · rw [decide_eq_false (by omega), Bool.false_and, Bool.false_and] at f2
        subst f2
        simp [go_sem, g3, hYl, hk, hgk, hpt, hZl, hi, hgi, layT, hll, c3]
      · rw [decide_eq_true (by omega), Bool.true_and] at f2
        simp [go_sem, g3, hYl, hk, hgk, hpt, hZl, hi, hgi, layT, hll, c3, hii]
        exact Next.mk (i + 1) ⟨by omega, f2⟩ (Imp.slots (by simp [go_sem]) rfl rfl) (by omega)
    · have : i = q.length := by omega
      subst this
      rw [List.drop_length, List.all_nil, Bool.true_and] at f2
      simp [go_sem, hkk]
      exact Next.mk (k + 1, τ, ny) ⟨by simp only; omega, f2, g3, g4⟩ (Imp.slots (by simp [go_sem]) rfl rfl) (by simp only; omega)
  · have : k = ps.length := by omega
    subst this
    rw [List.drop_length, List.all_nil] at g2
    subst g2
    simp [go_sem]
end Go.Proofs.Ytlhmchdfmjfmgaa

/- slices.Repeat of one number. -/
set_option maxRecDepth 4000
namespace Go.Proofs.Ytlhmchdfmjfmgaa
open Go Go.Proofs.Ytlhmchdfmjfmgaa.R
theorem and32 {n : Nat} (h : n < 4294967296) : band .u64 n 4294967295 = n := by
  have := bandN (a := n) (b := 4294967295) (by omega) (by decide)
  rw [show ((4294967295 : Nat) : Int) = 4294967295 from rfl] at this
  rw [this, show 4294967295 = 2 ^ 32 - 1 from rfl, Nat.and_two_pow_sub_one_eq_mod, Nat.mod_eq_of_lt h]
theorem mul64_pure (n : Nat) (hn : n < 2 ^ 31) : Pure P 104 [.u 1, .u n] (.tup [.u 0, .u n]) := by
  refine pure_of Try.func104 rfl rfl (by simp [Try.f104]) (by simp [bnd, bnd.bndL]) (by simp [bnd, bnd.bndL]) fun B hB hnx => ?_
  simp only [Try.f104] at hB ⊢
  have e1 : band .u64 1 4294967295 = 1 := and32 (n := 1) (by omega)
  have e2 := and32 (n := n) (by omega)
  have e3 : Int.fdiv 1 4294967296 = 0 := by decide
  have e4 : Int.fdiv (n : Int) 4294967296 = 0 := by rw [Int.fdiv_eq_ediv_of_nonneg _ (by omega)]; omega
  have e5 : band .u64 0 4294967295 = 0 := and32 (n := 0) (by omega)
  have e6 : IntKind.u64.wrap (n : Int) = n := u64 _ (by omega)
  have e7 : IntKind.u64.wrap 0 = 0 := u64 _ (by omega)
  refine K_run hB 100 ?_
  simp [go_sem, e1, e2, e3, e4, e5, e6, e7]
theorem mul_pure (n : Nat) (hn : n < 2 ^ 31) : Pure P 74 [.u 1, .u n] (.tup [.u 0, .u n]) := by
  refine pure_of Try.func74 rfl rfl (by simp [Try.f74]) (by simp [bnd, bnd.bndL]) (by simp [bnd, bnd.bndL]) fun B hB hnx => ?_
  simp only [Try.f74] at hB ⊢
  refine K_run hB 100 ?_
  simp [go_sem]
  refine K_call rfl rfl rfl (args := [.u 1, .u n]) (f := 104) (by simp [go_sem]) (by simp [go_sem, hB]) ((mul64_pure n hn).spec _ _) ?_
  refine K_run hB 100 ?_
  simp [go_sem]
theorem repeat_spec (v : Int) (n : Nat) (h0 : 0 < n) (hn : n < 2 ^ 31) (σ : Nat → AObj) (nx : Nat) : CallSpec P 42 [.fsl [[.i v]], .i n] σ nx (.ref nx) (oput σ nx (.arr 1 (List.replicate n [.i v]))) (nx + 1) := by
  refine CallQ.spec (spec_of Try.func42 rfl rfl (by simp [Try.f42]) fun B hB hnx hσ => K_after ?_)
  simp only [Try.f42] at hB ⊢
  have hmost : n ≤ mostLen := by show n ≤ 4294967296; omega
  have hu : IntKind.u64.wrap (n : Int) = n := u64 _ (by omega)
  have hi : IntKind.i64.wrap (n : Int) = n := w64 _ (by omega)
  have hu1 : IntKind.u64.wrap 1 = 1 := u64 _ (by omega)
  have hneg : ¬ (n : Int) < 0 := by omega
  refine K_run hB 100 ?_
  simp [go_sem, hneg, hu, hi, hu1]
  refine K_call rfl rfl rfl (args := [.u 1, .u n]) (f := 74) (by simp [go_sem, hneg, hu, hi, hu1]) (by simp [go_sem, hB]) ((mul_pure n hn).spec _ _) ?_
  have hbig : ¬ 9223372036854775807 < (n : Int) := by omega
  refine K_run hB 100 ?_
  simp [go_sem, hneg, hu, hi, hu1, hbig, hmost]
  refine K_copyT rfl rfl rfl rfl rfl (by simp [go_sem, hB]) tt50 rfl tt3 rfl (q := nx) (es := List.replicate n [.i 0]) (ys := [[.i v]]) (by simp [go_sem]) (by simp [go_sem]) (by simp [go_sem]) (by simp) (by simp) (by simp; omega) ?_
  have hrow : [[T.i v]] ++ (List.replicate n [T.i 0]).drop 1 = List.replicate 1 [T.i v] ++ List.replicate (n - 1) [T.i 0] := by simp
  refine K_run hB 100 ?_
  simp [go_sem]
  refine K_loopP (α := Nat) (fun j => 1 ≤ j ∧ j ≤ n) (fun j => ⟨sl [(7, .ref nx), (8, .i j)], oput σ nx (.arr 1 (List.replicate j [.i v] ++ List.replicate (n - j) [.i 0])), nx + 1⟩) (fun j => n - j) 1 ⟨Nat.le_refl _, h0⟩ (Imp.slots (by simp [go_sem]) ?_ rfl) ?_
  · have hoo : ∀ (o o' : AObj), oput (oput σ nx o) nx o' = oput σ nx o' := fun o o' => funext fun i => by simp only [oput]; split <;> rfl
    rw [← hrow, hoo]
    simp
  rintro j ⟨g1, g2⟩
  have hlen : (List.replicate j [T.i v] ++ List.replicate (n - j) [T.i 0]).length = n := by simp; omega
  refine K_run hB 60 ?_
  simp [go_sem, hlen]
  refine fork_dec (fun hj => ?_) (fun hj => ?_)
  · have hj : j < n := by omega
    refine K_run hB 60 ?_
    simp [go_sem]
    refine K_drawnF [7] [0] rfl (by rw [hB]; kernel_rfl) (by kernel_rfl) fun ht hf' => ?_
    refine K_run hB 60 ?_
    simp [go_sem, ht, hf']
    refine K_dLook (v := .cut nx 1 j (List.replicate j [T.i v] ++ List.replicate (n - j) [T.i 0]).length) (fun ho => ?_) (by simp [ht]) ?_
    · exact does_cutFrom (P := P) (n := B.n) (es := (List.replicate j [T.i v] ++ List.replicate (n - j) [T.i 0])) ho (by simp [go_sem]) rfl tt50 rfl tt3 (q := nx) (by simp [go_sem]) (by simp [go_sem]) (ik := .i64) (lo := j) (by simp [go_sem]) (by rw [hlen]; exact hj)
    refine K_run hB 60 ?_
    simp [go_sem, ht, hf']
    refine K_dLook (v := .cut nx 1 0 j) (fun ho => ?_) (by simp [ht]) ?_
    · exact does_cutTo (P := P) (n := B.n) (es := List.replicate j [.i v] ++ List.replicate (n - j) [.i 0]) ho (by simp [go_sem]) rfl tt50 rfl tt3 (q := nx) (by simp [go_sem]) (by simp [go_sem]) (ik := .i64) (up := j) (by simp [go_sem]) (by rw [hlen]; omega) (by rw [hlen]; omega)
    obtain ⟨k, hk⟩ : ∃ k, k = Nat.min j (n - j) := ⟨_, rfl⟩
    have hk1 : k ≤ j ∧ k ≤ n - j ∧ 1 ≤ k := by rw [hk]; refine ⟨Nat.min_le_left _ _, Nat.min_le_right _ _, Nat.le_min.2 ⟨g1, by omega⟩⟩
    simp only [hlen]
    refine K_dTold (v := .i k) (σ' := oput (oput σ nx (.arr 1 (List.replicate j [T.i v] ++ List.replicate (n - j) [T.i 0]))) nx (.arr 1 ((List.replicate j [T.i v] ++ List.replicate (n - j) [T.i 0]).take j ++ ((List.replicate j [T.i v] ++ List.replicate (n - j) [T.i 0]).take k ++ (List.replicate j [T.i v] ++ List.replicate (n - j) [T.i 0]).drop (j + k))))) (nx' := nx + 1) (fun ho => ?_) (by simp) (by simp) ?_
    · exact does_copyPart (P := P) (n := B.n) ho (by simp [go_sem]) rfl rfl rfl rfl tt50 rfl tt3 rfl (q := nx) (lo := j) (up := j) (by simp [go_sem] <;> omega) (by simp [go_sem]) (by simp [go_sem]) (by rw [hlen]; omega) (by rw [hlen]; exact hk) (by rw [hlen]; omega)
    have hw : IntKind.i64.wrap ((j : Int) + (k : Int)) = ((j + k : Nat) : Int) := by rw [w64 _ (by omega)]; omega
    have hrow : (List.replicate j [T.i v] ++ List.replicate (n - j) [T.i 0]).take j ++ ((List.replicate j [T.i v] ++ List.replicate (n - j) [T.i 0]).take k ++ (List.replicate j [T.i v] ++ List.replicate (n - j) [T.i 0]).drop (j + k)) = List.replicate (j + k) [T.i v] ++ List.replicate (n - (j + k)) [T.i 0] := by
      rw [List.take_left' (by simp), List.take_append_of_le_length (by simp; omega), List.take_replicate, show min k j = k by omega, ← List.drop_drop, List.drop_left' (by simp), List.drop_replicate, ← List.append_assoc, List.replicate_append_replicate, Nat.sub_sub]
    rw [hrow]
    have hoo : ∀ (o o' : AObj), oput (oput σ nx o) nx o' = oput σ nx o' := fun o o' => funext fun i => by simp only [oput]; split <;> rfl
    rw [hoo]
    refine K_run hB 60 ?_
    simp [go_sem, ht, hf', hw]
    refine Next.mk (j + k) ⟨by omega, by omega⟩ (Imp.slots (by simp [go_sem]) rfl rfl) (by omega)
  · have hj : j = n := by omega
    subst hj
    simp [go_sem]
    refine ⟨_, Imp.self, ?_⟩
    simp [go_sem]
end Go.Proofs.Ytlhmchdfmjfmgaa

/- Proofs: proof.Check. -/
set_option maxRecDepth 4000
set_option maxHeartbeats 1000000
namespace Go.Proofs.Ytlhmchdfmjfmgaa
open Go Go.Proofs.Ytlhmchdfmjfmgaa.R
def resP : Option (List Int) → Int
  | none => 10
  | some _ => 0
theorem partsGo_cons {x : Inst} {p : Prf} {k : Nat} {q : List (List Spot)} {ps : List (List (List Spot))} {dl : List Int} (h : dl.getD k 0 ≠ infI) : x.partsGo p k (q :: ps) dl = (x.partGo p k 0 q dl).bind (x.partsGo p (k + 1) ps) := by
  rw [Inst.partsGo, if_neg h]
  cases x.partGo p k 0 q dl <;> rfl
theorem partGo_cons {x : Inst} {p : Prf} {k i : Nat} {l : List Spot} {q : List (List Spot)} {dl : List Int} : x.partGo p k i (l :: q) dl = (x.layGo p k i l dl).bind (x.partGo p k (i + 1) q) := by
  rw [Inst.partGo]
  cases x.layGo p k i l dl <;> rfl
structure Prf.Fine (p : Prf) : Prop where
  len : p.parts.length < 2 ^ 31
  parts : ∀ q ∈ p.parts, q.length < 2 ^ 30
  lays : ∀ q ∈ p.parts, ∀ l ∈ q, l.length < 2 ^ 31
  ok : ∀ q ∈ p.parts, ∀ l ∈ q, ∀ n ∈ l, n.s.ok
theorem first_of {x : Inst} {p : Prf} (hw : ∀ q ∈ p.parts, x.wholeB p q = true) {j : Nat} (hj : j < p.parts.length) : ∃ f, p.first j = some f := by
  have h := hw p.parts[j] (List.getElem_mem _)
  rw [Prf.first, List.getElem?_eq_getElem hj]
  generalize p.parts[j] = q at *
  unfold Inst.wholeB at h
  split at h
  · cases h
  · rename_i l q0
    simp only [Bool.and_eq_true, decide_eq_true_eq] at h
    cases l with
    | nil => simp at h
    | cons n l => exact ⟨n, rfl⟩
theorem check_pure (x : Inst) (p : Prf) (hl : x.stops.length < 2 ^ 31) (hp : p.Fine) : Pure P 16 [x.a, p.a] (.i (x.checkE p)) := by
  generalize hR : x.checkE p = R
  refine pure_of Try.func16 rfl rfl (by simp [Try.f16]) (by simp [bnd, bnd.bndL, Inst.a, Prf.a, Prf.cs]) (by simp [bnd, bnd.bndL]) fun B hB hnx => ?_
  simp only [Try.f16] at hB ⊢
  have hplen := hp.len
  rw [Inst.checkE] at hR
  refine K_run hB 100 ?_
  simp [go_sem, Inst.a, Prf.a, Prf.cs]
  refine K_scopeN (α := Unit) 0 (fun _ => False) (fun _ => ⟨sl [], noObj, 0⟩) (fun _ => 0) rfl (fun _ h => h.elim) ?_
  intro J hJ
  refine K_run hB 100 ?_
  simp [go_sem]
  refine K_call rfl rfl rfl (args := [x.a]) (f := 28) (by simp [go_sem, Inst.a]) (by simp [go_sem, hB]) ((may_pure x (by omega)).spec _ _) ?_
  cases hmay : x.may with
  | false =>
    rw [if_neg (by simp [Inst.mayP, hmay])] at hR
    subst hR
    refine K_run hB 100 ?_
    simp [go_sem]
  | true =>
    have hYl : (p.parts.map partT).length = p.parts.length := List.length_map _
    have hYg : ∀ (k : Nat) (h : k < p.parts.length), (p.parts.map partT)[k]'(by rw [hYl]; exact h) = partT p.parts[k] := fun k h => map_get partT p.parts h _
    by_cases c1 : p.least < 0
    · rw [if_neg (by simp [Inst.mayP]; omega)] at hR
      subst hR
      refine K_run hB 100 ?_
      simp [go_sem, c1]
    by_cases c2 : infI < p.least
    · rw [if_neg (by simp [Inst.mayP]; omega)] at hR
      subst hR
      have c2' : 1152921504606846976 < p.least := c2
      refine K_run hB 100 ?_
      simp [go_sem, c1, c2']
    have c2' : ¬ 1152921504606846976 < p.least := c2
    by_cases c3 : p.parts = []
    · rw [if_neg (by simp [Inst.mayP, c3])] at hR
      subst hR
      refine K_run hB 100 ?_
      simp [go_sem, c1, c2', c3]
    have hpos : 0 < p.parts.length := List.length_pos_iff.2 c3
    have c3' : ¬ p.parts.length = 0 := by omega
    obtain ⟨pp, hx⟩ := x.fit hmay
    have hxp := hx.pairs
    have hxf := hx.few
    have hcont := fun (τ : Nat → AObj) (h1 : τ 2 = .box (ckC x p (.fsl []))) (h2 : τ 3 = .box [.ptr 2 0]) => containsPart_spec p.parts (fun q => !x.wholeB p q) (σ := τ) (nx := 4) (f := 39) (caps := [.ptr 3 0]) hplen fun q hq => check1_spec x p q (.fsl []) (by omega) (by have := hp.parts q hq; omega) (hp.lays q hq) (by omega) h1 (by omega) h2
    refine K_run hB 100 ?_
    simp [go_sem, c1, c2', c3, hYl, c3']
    refine K_call rfl rfl rfl (args := [.t (.sl (p.parts.map partT)), .fn (.func 39) [] [.ptr 3 0]]) (f := 41) (by simp [go_sem]) (by simp [go_sem, hB]) (hcont _ (by simp [oput, ckC, Inst.cs]) (by simp [oput])) ?_
    cases c4 : p.parts.any fun q => !x.wholeB p q with
    | true =>
      have : p.parts.all (x.wholeB p) = false := by
        rw [List.any_eq_true] at c4
        obtain ⟨q, h1, h2⟩ := c4
        rw [List.all_eq_false]
        exact ⟨q, h1, by simpa using h2⟩
      rw [if_neg (by simp [Inst.mayP, this])] at hR
      subst hR
      refine K_run hB 100 ?_
      simp [go_sem]
    | false =>
      have hw : ∀ q ∈ p.parts, x.wholeB p q = true := by
        rw [List.any_eq_false] at c4
        intro q hq
        have := c4 q hq
        simpa using this
      have hmp : x.mayP p = true := by
        simp only [Inst.mayP, Bool.and_eq_true, decide_eq_true_eq]
        exact ⟨hmay, by omega, by omega, c3, List.all_eq_true.2 hw⟩
      rw [if_pos hmp] at hR
      obtain ⟨f, hf⟩ := first_of hw hpos
      rw [hf] at hR
      simp only at hR
      obtain ⟨hj0, l0, q0, hp0⟩ := first_some hf
      have hY0 : ∀ h : 0 < (p.parts.map partT).length, (p.parts.map partT)[0]'h = [.sl ([.sl (f.t :: l0.map Spot.t)] :: q0.map layT)] := fun h => by rw [List.getElem_map, hp0]; rfl
      generalize hY : p.parts.map partT = Y at *
      have hck : ∀ D, ckC x p D = [.t (.i x.pairs), .t (.i x.cars), .t (.i x.room), .t (.sl (x.stops.map Stop.t)), .i p.least, .t (.sl Y), D] := fun D => by rw [ckC, hY]
      have hr := root_pureS x (by omega)
      refine K_run hB 100 ?_
      simp [go_sem, hYl, hpos, hY0, Spot.t]
      refine K_drawn [] rfl (by rw [hB]; kernel_rfl) ?_
      refine K_run hB 100 ?_
      simp [go_sem]
      refine K_dCallP rfl rfl rfl (args := [x.a]) (f := 38) (by simp [go_sem, Inst.a]) (hr) ?_
      generalize x.rootS = rt at *
      refine K_dEq (op := .neq) (t := 39) (t' := 39) (x := .tmp 55) (y := .tmp 57) (xs := f.s.cs) (ys := rt.cs) (by simp [go_sem]) rfl (by simp [go_sem, State.cs]) (by simp [go_sem, State.a, State.cs]) state_guard (state_eq f.s rt) rfl ?_
      by_cases c5 : f.s = rt
      rotate_left
      · rw [if_neg (fun h => c5 h.1)] at hR
        subst hR
        refine K_run hB 100 ?_
        simp [go_sem, c5]
      by_cases c6 : f.cost = 0
      rotate_left
      · rw [if_neg (fun h => c6 h.2)] at hR
        subst hR
        refine K_run hB 100 ?_
        simp [go_sem, c5, c6]
      rw [if_pos ⟨c5, c6⟩] at hR
      refine K_run hB 100 ?_
      simp [go_sem, c5, c6]
      refine K_drawnF [5, 8] [0] rfl (by rw [hB]; kernel_rfl) (by kernel_rfl) fun ht hf' => ?_
      refine K_run hB 100 ?_
      simp [go_sem, ht, hf', hYl]
      refine K_dCall rfl rfl rfl (args := [.fsl [[.i 1152921504606846976]], .i p.parts.length]) (f := 42) (by simp [go_sem]) (repeat_spec 1152921504606846976 p.parts.length hpos hplen _ _) (by decide) (okPends_does (by simp [go_sem])) ?_
      refine K_run hB 100 ?_
      simp [go_sem, ht, hf', hpos, hYl]
      have hR' : resP (x.partsGo p 0 (p.parts.drop 0) ((List.replicate p.parts.length infI).set 0 0)) = R := by
        rw [← hR, List.drop_zero]
        cases x.partsGo p 0 p.parts ((List.replicate p.parts.length infI).set 0 0) <;> rfl
      have hdl0 : ((List.replicate p.parts.length infI).set 0 0).length = p.parts.length := by rw [List.length_set, List.length_replicate]
      have hlead : ∀ q ∈ p.parts, ∀ l ∈ q, ∀ n ∈ l, 0 ≤ n.part ∧ n.part ≤ p.parts.length ∧ (0 < n.part → ∃ j f, n.part = ((j : Nat) : Int) + 1 ∧ p.first j = some f) := fun q hq l hl' n hn => by
        obtain ⟨_, _, b1, b2⟩ := spot_pos (whole_spot (hw q hq) hl' hn)
        refine ⟨b1, b2, fun h0 => ?_⟩
        obtain ⟨j, hj⟩ : ∃ j : Nat, n.part = (j : Int) + 1 := ⟨(n.part - 1).toNat, by omega⟩
        obtain ⟨f, hf⟩ := first_of hw (j := j) (by omega)
        exact ⟨j, f, hj, hf⟩
      have hhold := fun (τ : Nat → AObj) (ny : Nat) (k i : Nat) (q : List (List Spot)) (n : Spot) (dl : List Int) (h1 : p.parts[k]? = some q) (h2 : i < 2 ^ 31) (h3 : k < dl.length) (h4 : 0 < n.part → ∃ j f, n.part = ((j : Nat) : Int) + 1 ∧ p.first j = some f) (h5 : n.s.ok) (h6 : 5 < ny) (h7 : τ 2 = .box (ckC x p (.ref 5))) (h8 : τ 5 = .arr 1 (ints dl)) => holds_spec x p n k i 5 dl q hl h5 hplen h1 (by have := hp.parts q (List.mem_of_getElem? h1); omega) (hp.lays q (List.mem_of_getElem? h1)) h2 h3 h4 (σ := τ) (nx := ny) (c := 2) (by omega) h7 (by omega) h8
      have hparts := hp.parts
      have hlays := hp.lays
      have hoks := hp.ok
      have hck5 := hck (.ref 5)
      clear hcont hR hY0 hr hp
      generalize hps : p.parts = ps at *
      refine K_loopP (α := Nat × List Int × (Nat → AObj) × Nat) (fun (k, dl, τ, ny) => k ≤ ps.length ∧ dl.length = ps.length ∧ resP (x.partsGo p k (ps.drop k) dl) = R ∧ τ 2 = .box (ckC x p (.ref 5)) ∧ τ 3 = .box [.ptr 2 0] ∧ τ 5 = .arr 1 (ints dl) ∧ 5 < ny)
        (fun (k, dl, τ, ny) => ⟨sl [(5, .ptr 3 0), (78, .t (.sl Y)), (79, .i ps.length), (80, .i k)], τ, ny⟩) (fun a => ps.length - a.1) (0, (List.replicate ps.length infI).set 0 0, _, 6) ?_ (Imp.slots (by simp [go_sem]) rfl rfl) ?_
      · refine ⟨Nat.zero_le _, hdl0, hR', ?_, ?_, ?_, ?_⟩
        · simp [oput, hck5]
        · simp [oput]
        · simp [oput, ints, List.map_set, infI]
        · simp
      rintro ⟨k, dl, τ, ny⟩ ⟨g1, g2, g3, g4, g5, g6, g7⟩
      refine K_run hB 60 ?_
      simp [go_sem]
      refine fork_dec (fun hk => ?_) (fun hk => ?_)
      · have hkk : IntKind.i64.wrap ((k : Int) + 1) = ((k + 1 : Nat) : Int) := by rw [w64 ((k : Int) + 1) (by omega)]; rfl
        have hgk : ∀ h : k < Y.length, Y[k]'h = partT ps[k] := fun h => hYg k hk
        have hqk : ps[k]? = some ps[k] := List.getElem?_eq_getElem hk
        have hqm : ps[k] ∈ ps := List.getElem_mem _
        have hql := hparts _ hqm
        have hdl : (ints dl).length = dl.length := List.length_map _
        have hdg : ∀ h : k < (ints dl).length, (ints dl)[k]'h = [.i dl[k]] := fun h => ints_getS _ (by omega)
        have hgd : dl.getD k 0 = dl[k] := by rw [List.getD_eq_getElem?_getD, List.getElem?_eq_getElem (by omega)]; rfl
        have hdk : k < dl.length := by omega
        rw [List.drop_eq_getElem_cons hk] at g3
        have hlq := fun l (hl' : l ∈ ps[k]) n hn => hlead _ hqm l hl' n hn
        have hoq := hoks _ hqm
        generalize ps[k] = q at *
        have hpt : partT q = [.sl (q.map layT)] := rfl
        have n2 : ¬ 2 = ny := by omega
        have n3 : ¬ 3 = ny := by omega
        have n5 : ¬ 5 = ny := by omega
        by_cases d1 : dl[k] = infI
        · rw [Inst.partsGo, hgd, if_pos d1] at g3
          have d1' : dl[k] = 1152921504606846976 := d1
          simp [go_sem, hYl, hk, hgk, hpt, g4, g5, g6, n2, n3, n5, hck5, hdl, hdk, hdg, Nat.mod_one, d1', hkk]
          refine Next.mk (k + 1, dl, _, ny + 1) ?_ (Imp.slots (by simp [go_sem]) rfl rfl) (by simp only; omega)
          exact ⟨by simp only; omega, g2, g3, by simp [oput, n2, g4, hck5], by simp [oput, n3, g5], by simp [oput, n5, g6], by simp only; omega⟩
        · rw [partsGo_cons (by rw [hgd]; exact d1)] at g3
          have d1' : ¬ dl[k] = 1152921504606846976 := d1
          simp [go_sem, hYl, hk, hgk, hpt, g4, g5, g6, n2, n3, n5, hck5, hdl, hdk, hdg, Nat.mod_one, d1']
          generalize hG : x.partsGo p (k + 1) (ps.drop (k + 1)) = G at *
          have hZl : (q.map layT).length = q.length := List.length_map _
          have hZg : ∀ (k : Nat) (h : k < q.length), (q.map layT)[k]'(by rw [hZl]; exact h) = layT q[k] := fun k h => map_get layT q h _
          have hlq2 := hlays _ hqm
          generalize q.map layT = Z at *
          refine K_loopP (α := Nat × List Int × (Nat → AObj) × Nat) (fun (i, d, τ, ny) => i ≤ q.length ∧ d.length = ps.length ∧ resP ((x.partGo p k i (q.drop i) d).bind G) = R ∧ τ 2 = .box (ckC x p (.ref 5)) ∧ τ 3 = .box [.ptr 2 0] ∧ τ 5 = .arr 1 (ints d) ∧ 5 < ny)
            (fun (i, d, τ, ny) => ⟨sl [(5, .ptr 3 0), (8, .i k), (78, .t (.sl Y)), (79, .i ps.length), (80, .i k), (94, .t (.sl Z)), (95, .i q.length), (96, .i i)], τ, ny⟩) (fun a => q.length - a.1) (0, dl, _, ny + 1) ?_ (Imp.slots (by simp [go_sem, hZl]) rfl rfl) ?_
          · exact ⟨Nat.zero_le _, g2, g3, by simp [oput, n2, g4, hck5], by simp [oput, n3, g5], by simp [oput, n5, g6], by omega⟩
          clear g2 g3 g4 g5 g6 g7 n2 n3 n5 hdl hdg hgd hdk d1 d1'
          rintro ⟨i, d, τ, ny⟩ ⟨g1, g2, g3, g4, g5, g6, g7⟩
          refine K_run hB 60 ?_
          simp [go_sem]
          refine fork_dec (fun hi => ?_) (fun hi => ?_)
          · have hii : IntKind.i64.wrap ((i : Int) + 1) = ((i + 1 : Nat) : Int) := by rw [w64 ((i : Int) + 1) (by omega)]; rfl
            have hgi : ∀ h : i < Z.length, Z[i]'h = layT q[i] := fun h => hZg i hi
            rw [List.drop_eq_getElem_cons hi, partGo_cons, Option.bind_assoc] at g3
            have hln := fun n (hn : n ∈ q[i]) => hlq _ (List.getElem_mem hi) n hn
            have hon := hoq _ (List.getElem_mem hi)
            have hll := hlq2 _ (List.getElem_mem hi)
            generalize q[i] = l at *
            generalize hG2 : (fun d => (x.partGo p k (i + 1) (q.drop (i + 1)) d).bind G) = G2 at *
            have hly : layT l = [.sl (l.map Spot.t)] := rfl
            have hVl : (l.map Spot.t).length = l.length := List.length_map _
            have hVg : ∀ (k : Nat) (h : k < l.length), (l.map Spot.t)[k]'(by rw [hVl]; exact h) = l[k].t := fun k h => map_get Spot.t l h _
            simp [go_sem, hZl, hi, hgi, hly]
            refine K_loopP (α := Nat × List Int × (Nat → AObj) × Nat) (fun (j, d, τ, ny) => j ≤ l.length ∧ d.length = ps.length ∧ resP ((x.layGo p k i (l.drop j) d).bind G2) = R ∧ τ 2 = .box (ckC x p (.ref 5)) ∧ τ 3 = .box [.ptr 2 0] ∧ τ 5 = .arr 1 (ints d) ∧ 5 < ny)
              (fun (j, d, τ, ny) => ⟨sl [(5, .ptr 3 0), (8, .i k), (10, .i i), (78, .t (.sl Y)), (79, .i ps.length), (80, .i k), (94, .t (.sl Z)), (95, .i q.length), (96, .i i), (101, .t (.sl (l.map Spot.t))), (102, .i l.length), (103, .i j)], τ, ny⟩) (fun a => l.length - a.1) (0, d, τ, ny) ?_ (Imp.slots (by simp [go_sem, hVl]) rfl rfl) ?_
            · exact ⟨Nat.zero_le _, g2, g3, g4, g5, g6, g7⟩
            clear g2 g3 g4 g5 g6 g7
            rintro ⟨j, d, τ, ny⟩ ⟨g1, g2, g3, g4, g5, g6, g7⟩
            refine K_run hB 60 ?_
            simp [go_sem]
            refine fork_dec (fun hj => ?_) (fun hj => ?_)
            · have hjj : IntKind.i64.wrap ((j : Int) + 1) = ((j + 1 : Nat) : Int) := by rw [w64 ((j : Int) + 1) (by omega)]; rfl
              have hgj : ∀ h : j < (l.map Spot.t).length, (l.map Spot.t)[j]'h = l[j].t := fun h => hVg j hj
              have hgd : d.getD k 0 = d[k] := by rw [List.getD_eq_getElem?_getD, List.getElem?_eq_getElem (by omega)]; rfl
              rw [List.drop_eq_getElem_cons hj, Inst.layGo, hgd] at g3
              obtain ⟨hn0, hn1, hn2⟩ := hln _ (List.getElem_mem hj)
              have hn3 := hon _ (List.getElem_mem hj)
              generalize l[j] = n at *
              have n2 : ¬ 2 = ny := by omega
              have n3 : ¬ 3 = ny := by omega
              have n5 : ¬ 5 = ny := by omega
              have hh := fun τ' h1 h2 => hhold τ' (ny + 1) k i q n d hqk (by omega) (by omega) hn2 hn3 (by omega) h1 h2
              simp [go_sem, hVl, hj, hgj, Spot.t, g5, n3]
              refine K_call rfl rfl rfl (args := [.ptr 2 0, .i k, .i i, n.a]) (f := 43) (by simp [go_sem, Spot.a, Spot.cs]) (by simp [go_sem, hB]) (hh _ (by simp [oput, n2, g4]) (by simp [oput, n5, g6])) ?_
              cases hhb : x.holdsB p k i n d[k] with
              | false =>
                rw [hhb, if_neg (by simp)] at g3
                subst g3
                refine K_run hB 100 ?_
                simp [go_sem]
                rfl
              | true =>
                rw [hhb, if_pos rfl] at g3
                have hw1 : IntKind.i64.wrap (n.part - 1) = n.part - 1 := w64 _ (by omega)
                by_cases e1 : (k : Int) < n.part - 1
                · obtain ⟨o, ho⟩ : ∃ o : Nat, n.part - 1 = (o : Int) := ⟨(n.part - 1).toNat, by omega⟩
                  have hst : stepD k i n d = d.set o (min (d.getD o 0) (IntKind.i64.wrap (d.getD k 0 + i))) := by
                    rw [stepD, if_pos e1, show (n.part - 1).toNat = o by omega]
                  have hod : o < d.length := by omega
                  have hgo : d.getD o 0 = d[o] := by rw [List.getD_eq_getElem?_getD, List.getElem?_eq_getElem hod]; rfl
                  rw [hst, hgo, hgd] at g3
                  have hdl : (ints d).length = d.length := List.length_map _
                  have hdk : k < d.length := by omega
                  have hdg : ∀ h : k < (ints d).length, (ints d)[k]'h = [.i d[k]] := fun h => ints_getS _ hdk
                  have hdo : ∀ h : o < (ints d).length, (ints d)[o]'h = [.i d[o]] := fun h => ints_getS _ hod
                  have e1' : k < o := by omega
                  rw [ho] at hw1
                  generalize d[k] = dk at *
                  generalize d[o] = dO at *
                  refine K_run hB 100 ?_
                  simp [go_sem, ho, hw1, e1']
                  refine K_drawnT [23] rfl (by rw [hB]; kernel_rfl) (by kernel_rfl) fun ht => ?_
                  refine K_run hB 100 ?_
                  simp [go_sem, ht, n2, n3, n5, g4, g5, g6, hck5, hdl, hdk, hod, hdg, hdo, Nat.mod_one, hjj]
                  refine Next.mk (j + 1, d.set o (min dO (IntKind.i64.wrap (dk + i))), _, ny + 1) ?_ (Imp.slots (by simp [go_sem]) rfl rfl) (by simp only; omega)
                  exact ⟨by simp only; omega, by simp only [List.length_set]; exact g2, g3, by simp [oput, n2, g4, hck5], by simp [oput, n3, g5], by simp [oput, n5, g6, ints, List.map_set], by simp only; omega⟩
                · have hst : stepD k i n d = d := by rw [stepD, if_neg e1]
                  rw [hst] at g3
                  refine K_run hB 100 ?_
                  simp [go_sem, hw1, e1, hjj]
                  refine Next.mk (j + 1, d, _, ny + 1) ?_ (Imp.slots (by simp [go_sem]) rfl rfl) (by simp only; omega)
                  exact ⟨by simp only; omega, g2, g3, by simp [oput, n2, g4], by simp [oput, n3, g5], by simp [oput, n5, g6], by simp only; omega⟩
            · have : j = l.length := by omega
              subst this
              rw [List.drop_length, Inst.layGo, Option.bind_some, ← hG2] at g3
              simp [go_sem, hii]
              refine Next.mk (i + 1, d, τ, ny) ?_ (Imp.slots (by simp [go_sem]) rfl rfl) (by simp only; omega)
              exact ⟨by simp only; omega, g2, g3, g4, g5, g6, g7⟩
          · have : i = q.length := by omega
            subst this
            rw [List.drop_length, Inst.partGo, Option.bind_some, ← hG] at g3
            simp [go_sem, hkk]
            refine Next.mk (k + 1, d, τ, ny) ?_ (Imp.slots (by simp [go_sem]) rfl rfl) (by simp only; omega)
            exact ⟨by simp only; omega, g2, g3, g4.trans (by rw [hck5]), g5, g6, g7⟩
      · have : k = ps.length := by omega
        subst this
        rw [List.drop_length, Inst.partsGo, resP] at g3
        subst g3
        simp [go_sem]
end Go.Proofs.Ytlhmchdfmjfmgaa

/- Proofs: the laws are awake. -/
set_option maxRecDepth 4000
set_option maxHeartbeats 1000000
namespace Go.Proofs.Ytlhmchdfmjfmgaa
open Go Go.Proofs.Ytlhmchdfmjfmgaa.R
/-- The proof that is made of nothing. -/
def Inst.rootP (x : Inst) (m : Int) : Prf := ⟨m, [[[⟨x.rootS, 0, 0⟩]]]⟩
theorem make_pure (x : Inst) (hl : x.stops.length < 2 ^ 31) : Pure P 37 [x.a, .agg [.i 4, .t (.sl []), .i 1152921504606846976, .i 0, .i 0, .t (.sl [])]] ((x.rootP 0).a) := by
  refine pure_of Try.func37 rfl rfl (by simp [Try.f37]) (by simp [bnd, bnd.bndL, Inst.a]) (by simp [bnd, bnd.bndL, Prf.a, Prf.cs]) fun B hB hnx => ?_
  simp only [Try.f37] at hB ⊢
  have hr := root_pureS x (by omega)
  rw [Inst.rootP]
  generalize x.rootS = r at *
  refine K_run hB 100 ?_
  simp [go_sem, Inst.a]
  refine K_loopP (α := Unit) (fun _ => True) (fun _ => ⟨sl [(2, .ptr 0 0), (3, .ptr 1 0), (4, .ptr 2 0), (6, .ptr 4 0), (17, .i 0), (18, .i 0)], _, _⟩) (fun _ => 0) () trivial (Imp.slots (by simp [go_sem]) rfl rfl) ?_
  intro _ _
  refine K_run hB 60 ?_
  simp [go_sem]
  refine K_call rfl rfl rfl (args := [x.a]) (f := 38) (by simp [go_sem, Inst.a]) (by simp [go_sem, hB]) ((hr).spec _ _) ?_
  refine K_run hB 100 ?_
  simp [go_sem, State.a, State.cs]
  rfl
theorem small_check : small.checkE (small.rootP 0) = 0 ∧ small.checkE ((small.rootP 0).less 13) = 10 := by decide +kernel
theorem awake20_pure : Pure P 14 [] (.b true) := by
  refine pure_of Try.func14 rfl rfl (by simp [Try.f14]) (by simp [bnd, bnd.bndL]) (by simp [bnd, bnd.bndL]) fun B hB hnx => ?_
  simp only [Try.f14] at hB ⊢
  refine K_run hB 100 ?_
  simp [go_sem]
  refine K_call rfl rfl rfl (args := []) (f := 36) (by simp [go_sem]) (by simp [go_sem, hB]) ((small_pure).spec _ _) ?_
  have hp := parse_pure smallB (by decide) (by decide)
  rw [small_parse] at hp
  refine K_run hB 100 ?_
  simp [go_sem, small_bytes]
  refine K_call rfl rfl rfl (args := [.t (.sl (byt smallB))]) (f := 35) (by simp [go_sem]) (by simp [go_sem, hB]) ((hp).spec _ _) ?_
  have hl : small.stops.length < 2 ^ 31 := by decide
  have hr := root_pureS small (by omega)
  have hmk := make_pure small hl
  have hfine : ∀ m, ((small.rootP 0).less m).Fine := fun m => ⟨by simp [Prf.less, Inst.rootP], by simp [Prf.less, Inst.rootP], by simp [Prf.less, Inst.rootP], by simp [Prf.less, Inst.rootP]; exact rootS_ok small⟩
  have h1 := check_pure small ((small.rootP 0).less 0) hl (hfine 0)
  have h2 := check_pure small ((small.rootP 0).less 13) hl (hfine 13)
  have e1 : small.checkE ((small.rootP 0).less 0) = 0 := small_check.1
  rw [e1] at h1
  rw [small_check.2] at h2
  have hpa : (small.rootP 0).a = .agg [.i 0, .t (.sl ([[[(⟨small.rootS, 0, 0⟩ : Spot)]]].map partT))] := rfl
  have hpb : ∀ m, ((small.rootP 0).less m).a = .agg [.i m, .t (.sl ([[[(⟨small.rootS, 0, 0⟩ : Spot)]]].map partT))] := fun m => rfl
  have hpt : ([[[(⟨small.rootS, 0, 0⟩ : Spot)]]].map partT) = [[.sl [[.sl [(⟨small.rootS, 0, 0⟩ : Spot).t]]]]] := rfl
  rw [hpt] at hpa hpb
  rw [hpa] at hmk
  rw [hpb] at h1 h2
  generalize small.rootS = r at *
  generalize small = x at *
  refine K_run hB 100 ?_
  simp [go_sem, Inst.a]
  refine K_call rfl rfl rfl (args := [x.a, .agg [.i 4, .fsl [], .i 1152921504606846976, .i 0, .i 0, .fsl []]]) (f := 37) (by simp [go_sem, Inst.a]) (by simp [go_sem, hB]) ((Pure.loose hmk (by simp [bnd, bnd.bndL, Inst.a])).spec _ _) ?_
  refine K_run hB 100 ?_
  simp [go_sem]
  refine K_call rfl rfl rfl (args := [x.a, .agg [.i 0, .t (.sl [[.sl [[.sl [(⟨r, 0, 0⟩ : Spot).t]]]]])]]) (f := 16) (by simp [go_sem, Inst.a]) (by simp [go_sem, hB]) ((h1).spec _ _) ?_
  refine K_run hB 100 ?_
  simp [go_sem]
  refine K_call rfl rfl rfl (args := [x.a, .agg [.i 13, .t (.sl [[.sl [[.sl [(⟨r, 0, 0⟩ : Spot).t]]]]])]]) (f := 16) (by simp [go_sem, Inst.a]) (by simp [go_sem, hB]) ((h2).spec _ _) ?_
  refine K_run hB 100 ?_
  simp [go_sem]
  refine K_drawn [] rfl (by rw [hB]; kernel_rfl) ?_
  refine K_run hB 100 ?_
  simp [go_sem, Spot.t]
  refine K_dCallP rfl rfl rfl (args := [x.a]) (f := 38) (by simp [go_sem, Inst.a]) (hr) ?_
  refine K_dEq (op := .eql) (t := 39) (t' := 39) (x := .tmp 53) (y := .tmp 55) (xs := r.cs) (ys := r.cs) (by simp [go_sem]) rfl (by simp [go_sem, State.cs]) (by simp [go_sem, State.a, State.cs]) state_guard (state_eq r r) rfl ?_
  refine K_run hB 100 ?_
  simp [go_sem]
end Go.Proofs.Ytlhmchdfmjfmgaa

/- The least cost of all ways, looked at alone. -/
set_option maxRecDepth 4000
namespace Go.Proofs.Ytlhmchdfmjfmgaa
open Go Go.Proofs.Ytlhmchdfmjfmgaa.R
def Inst.everyB (x : Inst) (s : State) : Int := if (x.endS s).2 = true then (x.endS s).1 else inf
def Inst.everyF (x : Inst) (f : State → Int) (s : State) : List Int → Int → Int
  | [], v => v
  | j :: l, v => x.everyF f s l (if f (x.move s j).1 < inf ∧ (x.move s j).2.1 + f (x.move s j).1 < v then (x.move s j).2.1 + f (x.move s j).1 else v)
def Inst.every (x : Inst) : Nat → State → Int
  | 0, s => x.everyB s
  | d + 1, s => x.everyF (x.every d) s (x.moves s) (x.everyB s)
theorem everyB_in (x : Inst) (s : State) : 0 ≤ x.everyB s ∧ x.everyB s ≤ inf := by
  have hinf : inf = 1152921504606846976 := rfl
  unfold Inst.everyB
  split
  · rename_i h
    have := end_cost h
    omega
  · omega
theorem everyF_in (x : Inst) {f : State → Int} (hf : ∀ t, 0 ≤ f t ∧ f t ≤ inf) (s : State) : ∀ (l : List Int) (v : Int), (∀ j ∈ l, (x.move s j).2.2 = true) → 0 ≤ v ∧ v ≤ inf → 0 ≤ x.everyF f s l v ∧ x.everyF f s l v ≤ inf
  | [], v, _, h => h
  | j :: l, v, hl, h => by
    rw [Inst.everyF]
    refine everyF_in x hf s l _ (fun i hi => hl i (List.mem_cons_of_mem _ hi)) ?_
    have h1 := move_cost (hl j List.mem_cons_self)
    have h2 := hf (x.move s j).1
    split <;> omega
theorem every_in (x : Inst) : ∀ (d : Nat) (s : State), 0 ≤ x.every d s ∧ x.every d s ≤ inf
  | 0, s => everyB_in x s
  | d + 1, s => everyF_in x (every_in x d) s _ _ (fun j hj => moves_mem hj) (everyB_in x s)
theorem low_everyB {x : Inst} {s : State} (hl : x.stops.length < 2 ^ 31) : lowP x.near s.can ≤ x.everyB s := by
  have hinf : inf = 1152921504606846976 := rfl
  unfold Inst.everyB
  split
  · rename_i h; exact low_end h
  · have h1 := lowP_in (near_le x) s.can
    have h2 := near_len x
    omega
theorem low_everyF {x : Inst} {f : State → Int} {s : State} (hs : s.seenAt) (hf : ∀ t, t.seenAt → lowP x.near t.can ≤ f t) : ∀ (l : List Int) (v : Int), (∀ j ∈ l, (x.move s j).2.2 = true) → lowP x.near s.can ≤ v → lowP x.near s.can ≤ x.everyF f s l v
  | [], v, _, h => h
  | j :: l, v, hl, h => by
    rw [Inst.everyF]
    refine low_everyF hs hf l _ (fun i hi => hl i (List.mem_cons_of_mem _ hi)) ?_
    have h1 := hl j List.mem_cons_self
    have h2 := low_step hs h1
    have h3 := hf _ (seen_step h1)
    split <;> omega
theorem low_every {x : Inst} (hl : x.stops.length < 2 ^ 31) : ∀ (d : Nat) (s : State), s.seenAt → lowP x.near s.can ≤ x.every d s
  | 0, s, _ => low_everyB hl
  | d + 1, s, hs => low_everyF hs (fun t ht => low_every hl d t ht) _ _ (fun j hj => moves_mem hj) (low_everyB hl)
theorem every_pure (x : Inst) (hl : x.stops.length < 2 ^ 31) : ∀ (d : Nat) (s : State), d < 2 ^ 62 → s.ok → Pure P 62 [x.a, s.a, .i d] (.i (x.every d s)) := by
  intro d
  induction d with
  | zero =>
    intro s _ ho
    have he := end_pure x s (by omega) ho
    show Pure P 62 [x.a, s.a, .i (0 : Nat)] (.i (x.everyB s))
    generalize hR : x.everyB s = R
    refine pure_of Try.func62 rfl rfl (by simp [Try.f62]) (by simp [bnd, bnd.bndL, Inst.a, State.a, State.cs]) (by simp [bnd, bnd.bndL]) fun B hB hnx => ?_
    simp only [Try.f62] at hB ⊢
    rw [Inst.everyB] at hR
    generalize x.endS s = E at *
    obtain ⟨c, is⟩ := E
    refine K_run hB 100 ?_
    simp [go_sem, Inst.a, State.a, State.cs]
    refine K_call rfl rfl rfl (args := [x.a, s.a]) (f := 77) (by simp [go_sem, Inst.a, State.a, State.cs]) (by simp [go_sem, hB]) ((he).spec _ _) ?_
    cases is with
    | false =>
      simp only [Bool.false_eq_true, if_false] at hR
      subst hR
      refine K_run hB 100 ?_
      simp [go_sem, inf]
    | true =>
      simp only [if_true] at hR
      subst hR
      refine K_run hB 100 ?_
      simp [go_sem]
  | succ d ih =>
    intro s hd ho
    have hinf : inf = 1152921504606846976 := rfl
    have he := end_pure x s (by omega) ho
    have hms := moves_pure x s (by omega) ho
    have hmv := fun j => move_pure x s j (by omega) ho
    have hmem : ∀ j ∈ x.moves s, (x.move s j).2.2 = true := fun j hj => moves_mem hj
    have hml := moves_len x s
    have hok := fun j => move_ok x j ho
    have hil : (ints (x.moves s)).length = (x.moves s).length := List.length_map _
    have hgt : ∀ (k : Nat) (h : k < (x.moves s).length), (ints (x.moves s))[k]'(by rw [hil]; exact h) = [.i ((x.moves s)[k])] := fun k h => ints_getS _ h
    have hb := everyB_in x s
    show Pure P 62 [x.a, s.a, .i (d + 1 : Nat)] (.i (x.everyF (x.every d) s (x.moves s) (x.everyB s)))
    generalize hR : x.everyF (x.every d) s (x.moves s) (x.everyB s) = R
    refine pure_of Try.func62 rfl rfl (by simp [Try.f62]) (by simp [bnd, bnd.bndL, Inst.a, State.a, State.cs]) (by simp [bnd, bnd.bndL]) fun B hB hnx => ?_
    simp only [Try.f62] at hB ⊢
    have hBe : (if (x.endS s).2 = true then (x.endS s).1 else inf) = x.everyB s := rfl
    generalize x.everyB s = v0 at *
    generalize x.endS s = E at *
    generalize hX : ints (x.moves s) = X at *
    generalize hL : x.moves s = L at *
    obtain ⟨c, is⟩ := E
    have hd1 : ¬ ((d : Int) + 1 ≤ 0) := by omega
    have w0 := w64 (d : Int) (by omega)
    have hd2 : (d : Int) + 1 - 1 = d := by omega
    refine K_run hB 100 ?_
    simp [go_sem, Inst.a, State.a, State.cs]
    refine K_call rfl rfl rfl (args := [x.a, s.a]) (f := 77) (by simp [go_sem, Inst.a, State.a, State.cs]) (by simp [go_sem, hB]) ((he).spec _ _) ?_
    cases is
    all_goals
      simp only [Bool.false_eq_true, if_false, if_true] at hBe
      refine K_run hB 100 ?_
      simp [go_sem, hd1]
      refine K_call rfl rfl rfl (args := [x.a, s.a]) (f := 94) (by simp [go_sem, Inst.a, State.a, State.cs]) (by simp [go_sem, hB]) ((hms).spec _ _) ?_
      refine K_run hB 100 ?_
      simp [go_sem]
      refine K_loopP (α := Nat × Int × (Nat → AObj) × Nat) (fun (k, v, σ, nx) => k ≤ L.length ∧ (0 ≤ v ∧ v ≤ inf) ∧ x.everyF (x.every d) s (L.drop k) v = R ∧ σ 0 = .box [.t (.i x.pairs), .t (.i x.cars), .t (.i x.room), .t (.sl (x.stops.map Stop.t))] ∧ σ 1 = .box s.cs ∧ 1 < nx)
        (fun (k, v, σ, nx) => ⟨sl [(2, .i ((d : Int) + 1)), (3, .ptr 0 0), (4, .ptr 1 0), (7, .i v), (10, .t (.sl X)), (11, .i k)], σ, nx⟩) (fun a => L.length - a.1) (0, v0, _, 2) ⟨Nat.zero_le _, hb, hR, by simp [oput], by simp [oput, State.cs], by omega⟩ (Imp.slots (by simp [go_sem, ← hBe, inf]) rfl rfl) ?_
      rintro ⟨k, v, σ, nx⟩ ⟨g1, g0, g5, g2, g3, g4⟩
      refine K_run hB 60 ?_
      simp [go_sem, hil]
      refine fork_dec (fun hk => ?_) (fun hk => ?_)
      · have hkk : IntKind.i64.wrap ((k : Int) + 1) = ((k + 1 : Nat) : Int) := by rw [w64 ((k : Int) + 1) (by omega)]; rfl
        have hget : ∀ h : k < X.length, X[k]'h = [.i L[k]] := fun h => hgt k hk
        rw [List.drop_eq_getElem_cons hk, Inst.everyF] at g5
        have hj := hmem L[k] (List.getElem_mem _)
        have h1 := move_cost hj
        have h2 := every_in x d (x.move s L[k]).1
        have h3 := ih (x.move s L[k]).1 (by omega) (hok _)
        have h4 := hmv L[k]
        generalize L[k] = j at *
        generalize x.move s j = V at *
        obtain ⟨t, c', is'⟩ := V
        simp only at h1 h2 h3 hj g5
        subst hj
        generalize x.every d t = m at *
        have w1 := w64 (c' + m) (by omega)
        simp [go_sem]
        refine K_drawnF [11, 12] [0, 1, 2, 3, 4, 5, 6, 7, 8, 9, 10] rfl (by rw [hB]; kernel_rfl) (by kernel_rfl) fun ht hf' => ?_
        refine K_run hB 100 ?_
        simp [go_sem, ht, hf', hil, hk, hget, g2, g3, State.cs]
        refine K_dCallP rfl rfl rfl (args := [x.a, s.a, .i j]) (f := 95) (by simp [go_sem, Inst.a, State.a, State.cs]) (h4) ?_
        refine K_run hB 100 ?_
        simp [go_sem, ht, hf', mv, State.a, State.cs, g2, g3, show ¬ 0 = nx by omega, show ¬ 1 = nx by omega, hd2, w0]
        refine K_call rfl rfl rfl (args := [x.a, t.a, .i d]) (f := 62) (by simp [go_sem, Inst.a, State.a, State.cs]) (by simp [go_sem, hB]) ((h3).spec _ _) ?_
        by_cases e1 : m < inf
        · by_cases e2 : c' + m < v
          · rw [if_pos ⟨e1, e2⟩] at g5
            rw [hinf] at e1
            refine K_run hB 100 ?_
            simp [go_sem, w1, e1, e2, hkk]
            refine Next.mk (k + 1, c' + m, _, nx + 1) ?_ (Imp.slots (by simp [go_sem]) rfl rfl) (by simp only; omega)
            refine ⟨by simp only; omega, by simp only; omega, g5, ?_, ?_, by simp only; omega⟩
            · simp [oput, show ¬ 0 = nx by omega, g2]
            · simp [oput, show ¬ 1 = nx by omega, g3, State.cs]
          · rw [if_neg (fun h => e2 h.2)] at g5
            rw [hinf] at e1
            refine K_run hB 100 ?_
            simp [go_sem, w1, e1, e2, hkk]
            refine Next.mk (k + 1, v, _, nx + 1) ?_ (Imp.slots (by simp [go_sem]) rfl rfl) (by simp only; omega)
            refine ⟨by simp only; omega, g0, g5, ?_, ?_, by simp only; omega⟩
            · simp [oput, show ¬ 0 = nx by omega, g2]
            · simp [oput, show ¬ 1 = nx by omega, g3, State.cs]
        · rw [if_neg (fun h => e1 h.1)] at g5
          rw [hinf] at e1
          refine K_run hB 100 ?_
          simp [go_sem, w1, e1, hkk]
          refine Next.mk (k + 1, v, _, nx + 1) ?_ (Imp.slots (by simp [go_sem]) rfl rfl) (by simp only; omega)
          refine ⟨by simp only; omega, g0, g5, ?_, ?_, by simp only; omega⟩
          · simp [oput, show ¬ 0 = nx by omega, g2]
          · simp [oput, show ¬ 1 = nx by omega, g3, State.cs]
      · have : k = L.length := by omega
        subst this
        rw [List.drop_length, Inst.everyF] at g5
        simp [go_sem, g5]
/-- How many moves a plan may have. -/
def Inst.deepN (x : Inst) : Nat := (2 * x.pairs + x.cars - 1).toNat
def Inst.everyAll (x : Inst) : Int := x.every x.deepN x.rootS
theorem everyAll_pure (x : Inst) (hm : x.may = true) : Pure P 34 [x.a] (.i x.everyAll) := by
  obtain ⟨p, hx⟩ := x.fit hm
  have hlen := hx.len
  have hfew := hx.few
  have hp := hx.pairs
  have hcar := hx.cars
  have hev := every_pure x (by omega) x.deepN x.rootS (by unfold Inst.deepN; omega) (rootS_ok x)
  have hr := root_pureS x (by omega)
  have hde : (x.deepN : Int) = 2 * x.pairs + x.cars - 1 := by unfold Inst.deepN; omega
  rw [hde] at hev
  have w1 := w64 (2 * x.pairs) (by omega)
  have w2 := w64 (2 * x.pairs + x.cars) (by omega)
  have w3 := w64 (2 * x.pairs + x.cars - 1) (by omega)
  unfold Inst.everyAll
  generalize x.every x.deepN x.rootS = R at *
  generalize x.rootS = r at *
  refine pure_of Try.func34 rfl rfl (by simp [Try.f34]) (by simp [bnd, bnd.bndL, Inst.a]) (by simp [bnd, bnd.bndL]) fun B hB hnx => ?_
  simp only [Try.f34] at hB ⊢
  refine K_run hB 100 ?_
  simp [go_sem, Inst.a]
  refine K_drawn [] rfl (by rw [hB]; kernel_rfl) ?_
  refine K_run hB 100 ?_
  simp [go_sem]
  refine K_dCallP rfl rfl rfl (args := [x.a]) (f := 38) (by simp [go_sem, Inst.a]) (hr) ?_
  refine K_run hB 100 ?_
  simp [go_sem, w1, w2, w3]
  refine K_dCallP rfl rfl rfl (args := [x.a, r.a, .i (2 * x.pairs + x.cars - 1)]) (f := 62) (by simp [go_sem, Inst.a, State.a, State.cs]) (hev) ?_
  refine K_run hB 100 ?_
  simp [go_sem]
end Go.Proofs.Ytlhmchdfmjfmgaa

/- What is found by looking at all levels, and at each way alone: the law. -/
set_option maxRecDepth 4000
namespace Go.Proofs.Ytlhmchdfmjfmgaa
open Go Go.Proofs.Ytlhmchdfmjfmgaa.R
theorem everyF_le (x : Inst) (f : State → Int) (s : State) : ∀ (l : List Int) (v : Int), x.everyF f s l v ≤ v
  | [], v => Int.le_refl _
  | j :: l, v => by
    rw [Inst.everyF]
    refine Int.le_trans (everyF_le x f s l _) ?_
    split <;> omega
theorem everyF_has (x : Inst) (f : State → Int) (s : State) {j : Int} (hf : f (x.move s j).1 < inf) : ∀ (l : List Int) (v : Int), j ∈ l → x.everyF f s l v ≤ (x.move s j).2.1 + f (x.move s j).1
  | i :: l, v, h => by
    rw [Inst.everyF]
    rcases List.mem_cons.1 h with rfl | h
    · refine Int.le_trans (everyF_le x f s l _) ?_
      split <;> omega
    · exact everyF_has x f s hf l _ h
theorem everyF_from (x : Inst) (f : State → Int) (s : State) : ∀ (l : List Int) (v : Int), x.everyF f s l v = v ∨ ∃ j ∈ l, f (x.move s j).1 < inf ∧ x.everyF f s l v = (x.move s j).2.1 + f (x.move s j).1
  | [], v => .inl rfl
  | i :: l, v => by
    rw [Inst.everyF]
    rcases everyF_from x f s l (if f (x.move s i).1 < inf ∧ (x.move s i).2.1 + f (x.move s i).1 < v then (x.move s i).2.1 + f (x.move s i).1 else v) with h | ⟨j, hj, h1, h2⟩
    · rw [h]
      split
      · rename_i hc
        exact .inr ⟨i, List.mem_cons_self, hc.1, rfl⟩
      · exact .inl rfl
    · exact .inr ⟨j, List.mem_cons_of_mem _ hj, h1, h2⟩
theorem every_from (x : Inst) : ∀ (d : Nat) (s : State), x.every d s < inf → ∃ w, x.way w s (x.every d s)
  | 0, s, h => by
    rw [Inst.every, Inst.everyB] at h ⊢
    split at h
    · rename_i hc
      rw [if_pos hc]
      exact ⟨[], hc, rfl⟩
    · omega
  | d + 1, s, h => by
    rw [Inst.every] at h ⊢
    rcases everyF_from x (x.every d) s (x.moves s) (x.everyB s) with e | ⟨j, hj, h1, h2⟩
    · rw [e] at h ⊢
      rw [Inst.everyB] at h ⊢
      split at h
      · rename_i hc
        rw [if_pos hc]
        exact ⟨[], hc, rfl⟩
      · omega
    · rw [h2]
      obtain ⟨w, hw⟩ := every_from x d _ h1
      exact ⟨j :: w, moves_mem hj, _, hw, rfl⟩
theorem every_has (x : Inst) : ∀ (d : Nat) {w : List Int} {s : State} {c : Int}, x.way w s c → w.length ≤ d → d ≤ 1000 → x.every d s ≤ c
  | 0, [], s, c, h, _, _ => by
    rw [Inst.every, Inst.everyB, if_pos h.1, h.2]
    exact Int.le_refl _
  | d + 1, [], s, c, h, _, _ => by
    rw [Inst.every]
    have := everyF_le x (x.every d) s (x.moves s) (x.everyB s)
    rw [Inst.everyB, if_pos h.1] at this
    rw [Inst.everyB, if_pos h.1, h.2]
    exact this
  | d + 1, j :: w, s, c, h, hl, hd => by
    obtain ⟨h1, e, h2, h3⟩ := h
    rw [Inst.every]
    rw [List.length_cons] at hl
    have ih := every_has x d h2 (by omega) (by omega)
    have hi := way_in h2
    have hinf : inf = 1152921504606846976 := rfl
    have := everyF_has x (x.every d) s (j := j) (by omega) (x.moves s) (x.everyB s) (mem_moves h1)
    omega
theorem way_root_len {x : Inst} {p : Nat} (hx : x.Fit p) (hm : x.may = true) {w : List Int} {c : Int} (h : x.way w x.rootS c) : w.length ≤ x.deepN := by
  have h1 := way_len h
  have hp := hx.pairs
  have hc := hx.cars
  have h2 : x.meas x.rootS ≤ 2 * p + (x.cars - 1).toNat := by
    unfold Inst.meas
    split
    · rw [Inst.rootS, if_pos hm]
      have h6 : ((List.range (2 * x.pairs.toNat + 1)).filter fun j : Nat => decide (1 ≤ j) && !hasB ({ State.zero with car := 1, time := (x.stop 0).ready } : State).must (j : Int)).length < ((List.range (2 * x.pairs.toNat + 1)).filter fun _ => true).length :=
        filter_lt _ (a := 0) (List.mem_range.2 (by omega)) rfl (by simp) (fun _ _ => rfl)
      rw [List.filter_eq_self.2 (fun _ _ => rfl), List.length_range] at h6
      refine Nat.le_trans (Nat.add_le_add (Nat.le_of_lt_succ h6) (Nat.le_refl _)) ?_
      show 2 * x.pairs.toNat + (x.cars - 1).toNat ≤ 2 * p + (x.cars - 1).toNat
      omega
    · omega
  unfold Inst.deepN
  omega
/-- What is found without a bound, if all was looked at. -/
theorem every_plain {x : Inst} (hm : x.may = true) {most : Int} (hall : (x.exact x.rootN inf most).2.2.1 = true) :
    (x.exact x.rootN inf most).2.1 = decide (x.everyAll < inf) ∧ ((x.exact x.rootN inf most).2.1 = true → (x.exact x.rootN inf most).1.cost = x.everyAll) := by
  obtain ⟨p, hx⟩ := x.fit hm
  have hlen := hx.len
  have hfew := hx.few
  have hp := hx.pairs
  have hc := hx.cars
  have hz : x.rootN.cost = 0 := rfl
  have hdn : x.deepN ≤ 1000 := by unfold Inst.deepN; omega
  have hfrom := exact_from (x := x) (n := x.rootN) (up := inf) (most := most) (rootS_ok x) (pos_root hm) (seen_root x) (by simp [Inst.rootN])
  have hhas := fun w c => exact_has (x := x) (by omega) (n := x.rootN) (up := inf) (most := most) (rootS_ok x) (pos_root hm) (seen_root x) (by simp [Inst.rootN]) hall (w := w) (c := c)
  cases hq : (x.exact x.rootN inf most).2.1 with
  | true =>
    obtain ⟨w, c, g1, g2, _, g3⟩ := hfrom hq
    have h1 := every_has x x.deepN g1 (way_root_len hx hm g1) hdn
    have h2 : x.everyAll ≤ c := h1
    obtain ⟨w', h3⟩ := every_from x x.deepN x.rootS (by show x.everyAll < inf; omega)
    have h4 := hhas w' x.everyAll h3 (by omega)
    refine ⟨(decide_eq_true (by omega)).symm, fun _ => by omega⟩
  | false =>
    refine ⟨(decide_eq_false fun h => ?_).symm, fun h => by cases h⟩
    obtain ⟨w', h3⟩ := every_from x x.deepN x.rootS h
    have h4 := (hhas w' x.everyAll h3 (by omega)).1
    rw [hq] at h4
    cases h4
end Go.Proofs.Ytlhmchdfmjfmgaa

/- When a car is where: what is wrong with a stop, and how it drives. -/
set_option maxRecDepth 4000
namespace Go.Proofs.Ytlhmchdfmjfmgaa
open Go Go.Proofs.Ytlhmchdfmjfmgaa.R
/-- A car on its way. -/
structure Car where
  spot : Int
  now : Int
  gone : Int
  load : Int
  seen : Nat
  on : Nat
  times : List (List T)
  loads : List Int
def carC (x : Inst) (c : Car) (qt ql : Nat) : List AV := [.t (.i x.pairs), .t (.i x.cars), .t (.i x.room), .t (.sl (x.stops.map Stop.t)), .i c.spot, .i c.now, .i c.gone, .i c.load, .u c.seen, .u c.on, .ref qt, .ref ql]
/-- What holds of a car that has seen so many stops. -/
structure Car.Fit (c : Car) (p k : Nat) : Prop where
  spot : 0 ≤ c.spot ∧ c.spot ≤ 2 * p
  now : 0 ≤ c.now ∧ c.now ≤ 1049576
  gone : 0 ≤ c.gone ∧ c.gone ≤ 14143 * k
  load : -1000 * (k : Int) ≤ c.load ∧ c.load ≤ 1000
  seen : c.seen < 2 ^ 64
  on : c.on < 2 ^ 64
  times : c.times.length = k
  loads : c.loads.length = k
  three : ∀ y ∈ c.times, y.length = 3
  few : k + ((List.range (2 * p + 1)).filter fun j : Nat => decide (1 ≤ j) && !hasB c.seen (j : Int)).length ≤ 2 * p
theorem Car.Fit.le {c : Car} {p k : Nat} (h : c.Fit p k) : k ≤ 2 * p := by have := h.few; omega
def Inst.visitsE (x : Inst) (c : Car) (i : Int) : Int :=
  if i < 1 ∨ 2 * x.pairs < i then 1 else if hasB c.seen i = true then 5 else if x.pairs < i ∧ hasB c.seen (i - x.pairs) = false then 8 else if x.room < c.load + (x.stop i).demand then 6 else 0
theorem oput_back (σ : Nat → AObj) (q : Nat) : oput σ q (σ q) = σ := by funext i; by_cases h : i = q <;> simp [oput, h]
theorem visits_spec (x : Inst) (c : Car) (i : Int) {p k : Nat} (hx : x.Fit p) (hc : c.Fit p k) {σ : Nat → AObj} {nx b qt ql : Nat} (hb : b < nx) (hσb : σ b = .box (carC x c qt ql)) (hqt : qt < nx) (hql : ql < nx) :
    CallSpec P 157 [.ptr b 0, .i i] σ nx (.i (x.visitsE c i)) σ nx := by
  generalize hR : x.visitsE c i = R
  have h : CallSpec P 157 [.ptr b 0, .i i] σ nx (.i R) (oput σ b (σ b)) nx := by
    refine spec_down Try.func157 rfl rfl (by simp [Try.f157]) hb (by rw [hσb]; simp [bndO, bnd, bnd.bndL, carC, hqt, hql]) (by simp [bnd]) fun hkn B hB hnx hσ => ?_
    simp only [Try.f157] at hB ⊢
    rw [Inst.visitsE] at hR
    have hp := hx.pairs
    have hfew := hx.few
    have w1 := w64 (2 * x.pairs) (by omega)
    by_cases c1 : i < 1
    · rw [if_pos (.inl c1)] at hR
      subst hR
      refine K_run hB 100 ?_
      simp [go_sem, hσb, carC, c1, w1]
    by_cases c2 : 2 * x.pairs < i
    · rw [if_pos (.inr c2)] at hR
      subst hR
      refine K_run hB 100 ?_
      simp [go_sem, hσb, carC, c1, c2, w1]
    rw [if_neg (by omega)] at hR
    have hh1 := has_pure c.seen i hc.seen
    refine K_run hB 100 ?_
    simp [go_sem, hσb, carC, c1, c2, w1]
    refine K_call rfl rfl rfl (args := [.u c.seen, .i i]) (f := 117) (by simp [go_sem]) (by simp [go_sem, hB]) ((hh1).spec _ _) ?_
    by_cases c3 : hasB c.seen i = true
    · rw [if_pos c3] at hR
      subst hR
      refine K_run hB 100 ?_
      simp [go_sem, c3, hσb, carC]
    rw [if_neg c3] at hR
    have c3' : hasB c.seen i = false := by simpa using c3
    have w2 := w64 (i - x.pairs) (by omega)
    have hh2 := has_pure c.seen (i - x.pairs) hc.seen
    have h0 : 0 ≤ i := by omega
    have g1 := hx.lt (j := i) (by omega)
    have g3 := hx.get (j := i) (by omega)
    have hd := (hx.at (j := i) (by omega) (by omega)).demand
    have hload := hc.load
    have hkle := hc.le
    have w3 := w64 (c.load + (x.stop i).demand) (by omega)
    generalize x.stop i = a at *
    by_cases c4 : x.pairs < i
    · refine K_run hB 100 ?_
      simp [go_sem, c3', c4, hσb, carC, w2]
      refine K_call rfl rfl rfl (args := [.u c.seen, .i (i - x.pairs)]) (f := 117) (by simp [go_sem]) (by simp [go_sem, hB]) ((hh2).spec _ _) ?_
      by_cases c5 : hasB c.seen (i - x.pairs) = true
      · rw [if_neg (by simp [c5])] at hR
        refine K_run hB 100 ?_
        simp [go_sem, c5]
        refine K_drawn [] rfl (by rw [hB]; kernel_rfl) ?_
        by_cases c6 : x.room < c.load + a.demand
        · rw [if_pos c6] at hR
          subst hR
          refine K_run hB 100 ?_
          simp [go_sem, hσb, carC, h0, g1, g3, Stop.t, w3, c6]
        · rw [if_neg c6] at hR
          subst hR
          refine K_run hB 100 ?_
          simp [go_sem, hσb, carC, h0, g1, g3, Stop.t, w3, c6]
      · have c5' : hasB c.seen (i - x.pairs) = false := by simpa using c5
        rw [if_pos ⟨c4, c5'⟩] at hR
        subst hR
        refine K_run hB 100 ?_
        simp [go_sem, c5', hσb, carC]
    · rw [if_neg (by simp [c4])] at hR
      refine K_run hB 100 ?_
      simp [go_sem, c3', c4, hσb, carC]
      refine K_drawn [] rfl (by rw [hB]; kernel_rfl) ?_
      by_cases c6 : x.room < c.load + a.demand
      · rw [if_pos c6] at hR
        subst hR
        refine K_run hB 100 ?_
        simp [go_sem, hσb, carC, h0, g1, g3, Stop.t, w3, c6]
      · rw [if_neg c6] at hR
        subst hR
        refine K_run hB 100 ?_
        simp [go_sem, hσb, carC, h0, g1, g3, Stop.t, w3, c6]
  rw [oput_back] at h
  exact h
def Inst.drive (x : Inst) (c : Car) (i : Int) : Car := { c with spot := i, gone := c.gone + far (x.stop c.spot) (x.stop i) }
theorem drive_spec (x : Inst) (c : Car) (i : Int) {p k : Nat} (hx : x.Fit p) (hc : c.Fit p k) (h1 : 0 ≤ i) (h2 : i ≤ 2 * p) {σ : Nat → AObj} {nx b qt ql : Nat} (hb : b < nx) (hσb : σ b = .box (carC x c qt ql)) (hqt : qt < nx) (hql : ql < nx) :
    CallSpec P 158 [.ptr b 0, .i i] σ nx (.i (c.now + far (x.stop c.spot) (x.stop i))) (oput σ b (.box (carC x (x.drive c i) qt ql))) nx := by
  refine spec_down Try.func158 rfl rfl (by simp [Try.f158]) hb (by simp [bndO, bnd, bnd.bndL, carC, hqt, hql]) (by simp [bnd]) fun hkn B hB hnx hσ => ?_
  simp only [Try.f158] at hB ⊢
  have f1 := hc.spot
  have g1 := hx.lt (j := c.spot) (by omega)
  have g2 := hx.get (j := c.spot) (by omega)
  have g3 := hx.lt (j := i) (by omega)
  have g4 := hx.get (j := i) (by omega)
  have hf := far_pure (x.stop c.spot) (x.stop i)
  have hle := far_le (x.stop c.spot) (x.stop i)
  have hn := hc.now
  have hg := hc.gone
  have hkle := hc.le
  have hfew := hx.few
  rw [Inst.drive]
  generalize x.stop i = z at *
  generalize x.stop c.spot = y at *
  have w1 := w64 (c.gone + far y z) (by omega)
  have w2 := w64 (c.now + far y z) (by omega)
  refine K_run hB 100 ?_
  simp [go_sem]
  refine K_drawn [] rfl (by rw [hB]; kernel_rfl) ?_
  refine K_run hB 100 ?_
  simp [go_sem, hσb, carC, f1.1, g1, g2, h1, g3, g4, Stop.t]
  refine K_dCallP rfl rfl rfl (args := [.agg (y.t.map .t), .agg (z.t.map .t)]) (f := 141) (by simp [go_sem, Stop.t]) (hf) ?_
  refine K_run hB 100 ?_
  simp [go_sem, hσb, carC, w1, w2]
  exact fun j h1 h2 => by simp [h2]
end Go.Proofs.Ytlhmchdfmjfmgaa
