/- Parts of the proof: ExactQ, Ways, ToursP, Tours. -/
import Derived.Test.YtmmdnflngbkjnaaMH
set_option linter.unusedVariables false
/- More nodes on a level: the plain law. -/
set_option maxRecDepth 4000
namespace Go.Proofs.Ytmmdnflngbkjnaa
open Go Go.Proofs.Ytmmdnflngbkjnaa.R
/-- What is known of a search: what was found costs its bound. -/
def stOk (st : Node × Bool × Int) : Prop := st.2.1 = true → st.1.cost = st.2.2
theorem look_ok {x : Inst} {st : Node × Bool × Int} {l : List Node} (h : stOk st) : stOk (x.look st l) ∧ (x.look st l).2.2 ≤ st.2.2 ∧ (st.2.1 = true → (x.look st l).2.1 = true) := by
  unfold Inst.look
  split
  · rename_i hc
    exact ⟨fun _ => rfl, by simp only; omega, fun _ => rfl⟩
  · exact ⟨h, Int.le_refl _, fun h => h⟩
theorem exGo_up (x : Inst) (most : Int) (hm : most ≤ 3000) : ∀ (d : Nat) (st : Node × Bool × Int) (l : List Node) (n : Int), stOk st → 0 ≤ n → n + 3000 * d < 9223372036854775808 →
    (st.2.1 = true → (x.exGo most d st l n).2.1 = true ∧ (x.exGo most d st l n).1.cost ≤ st.2.2) ∧ n ≤ (x.exGo most d st l n).2.2.2
  | 0, st, l, n, h, _, _ => ⟨fun hs => ⟨hs, by rw [Inst.exGo]; have := h hs; simp only; omega⟩, by rw [Inst.exGo]; exact Int.le_refl _⟩
  | d + 1, st, l, n, h, h0, hn => by
    rw [Inst.exGo]
    split
    · exact ⟨fun hs => ⟨hs, by have := h hs; simp only; omega⟩, Int.le_refl _⟩
    · split
      · exact ⟨fun hs => ⟨hs, by have := h hs; simp only; omega⟩, Int.le_refl _⟩
      · rename_i c1 c2
        have hw := w64 (n + l.length) (by omega)
        obtain ⟨k1, k2, k3⟩ := look_ok (x := x) (l := l) h
        obtain ⟨i1, i2⟩ := exGo_up x most hm d (x.look st l) (frontL (x.next l st.2.2)) (IntKind.i64.wrap (n + l.length)) k1 (by omega) (by omega)
        refine ⟨fun hs => ?_, by omega⟩
        obtain ⟨j1, j2⟩ := i1 (k3 hs)
        exact ⟨j1, by omega⟩
theorem exGo_more (x : Inst) (most more : Int) (h1 : most ≤ more) (h2 : more ≤ 3000) : ∀ (d : Nat) (st : Node × Bool × Int) (l : List Node) (n : Int), stOk st → 0 ≤ n → n + 3000 * d < 9223372036854775808 →
    ((x.exGo most d st l n).2.2.1 = true → x.exGo more d st l n = x.exGo most d st l n) ∧
    ((x.exGo most d st l n).2.1 = true → (x.exGo more d st l n).2.1 = true ∧ (x.exGo more d st l n).1.cost ≤ (x.exGo most d st l n).1.cost) ∧ (x.exGo most d st l n).2.2.2 ≤ (x.exGo more d st l n).2.2.2
  | 0, st, l, n, h, _, _ => ⟨fun _ => rfl, fun hs => ⟨hs, Int.le_refl _⟩, Int.le_refl _⟩
  | d + 1, st, l, n, h, h0, hn => by
    by_cases c2 : l.length = 0
    · have e1 : ∀ m, x.exGo m (d + 1) st l n = (st.1, st.2.1, true, n) := fun m => by rw [Inst.exGo, if_pos c2]
      rw [e1, e1]
      exact ⟨fun _ => rfl, fun hs => ⟨hs, Int.le_refl _⟩, Int.le_refl _⟩
    · by_cases c3 : most < l.length
      · have e1 : x.exGo most (d + 1) st l n = (st.1, st.2.1, false, n) := by rw [Inst.exGo, if_neg c2, if_pos c3]
        obtain ⟨i1, i2⟩ := exGo_up x more h2 (d + 1) st l n h h0 hn
        rw [e1]
        refine ⟨fun hc => (by cases hc), fun hs => ?_, i2⟩
        obtain ⟨j1, j2⟩ := i1 hs
        have := h hs
        exact ⟨j1, by simp only; omega⟩
      · have hw := w64 (n + l.length) (by omega)
        obtain ⟨k1, k2, k3⟩ := look_ok (x := x) (l := l) h
        have e1 : x.exGo most (d + 1) st l n = x.exGo most d (x.look st l) (frontL (x.next l st.2.2)) (IntKind.i64.wrap (n + l.length)) := by rw [Inst.exGo, if_neg c2, if_neg c3]
        have e2 : x.exGo more (d + 1) st l n = x.exGo more d (x.look st l) (frontL (x.next l st.2.2)) (IntKind.i64.wrap (n + l.length)) := by rw [Inst.exGo, if_neg c2, if_neg (by omega)]
        rw [e1, e2]
        exact exGo_more x most more h1 h2 d _ _ _ k1 (by omega) (by omega)
theorem exact_more (x : Inst) (n : Node) (up most more : Int) (h1 : most ≤ more) (h2 : more ≤ 3000) :
    ((x.exact n up most).2.2.1 = true → x.exact n up more = x.exact n up most) ∧
    ((x.exact n up most).2.1 = true → (x.exact n up more).2.1 = true ∧ (x.exact n up more).1.cost ≤ (x.exact n up most).1.cost) ∧ (x.exact n up most).2.2.2 ≤ (x.exact n up more).2.2.2 := by
  have := meas_le x n.s
  exact exGo_more x most more h1 h2 _ _ _ _ (fun h => by cases h) (Int.le_refl _) (by omega)
end Go.Proofs.Ytmmdnflngbkjnaa

/- What can follow a state, and end; what covers a state can be followed by the same. -/
set_option maxRecDepth 4000
namespace Go.Proofs.Ytmmdnflngbkjnaa
open Go Go.Proofs.Ytmmdnflngbkjnaa.R
/-- Moves that can follow a state, and end, and what they cost in all. -/
def Inst.way (x : Inst) : List Int → State → Int → Prop
  | [], s, c => (x.endS s).2 = true ∧ c = (x.endS s).1
  | j :: l, s, c => (x.move s j).2.2 = true ∧ ∃ d, x.way l (x.move s j).1 d ∧ c = (x.move s j).2.1 + d
theorem way_in {x : Inst} : ∀ {l : List Int} {s : State} {c : Int}, x.way l s c → 0 ≤ c ∧ c ≤ 14143 * (l.length + 1)
  | [], s, c, h => by
    have := end_cost h.1
    have := h.2
    simp only [List.length_nil]
    omega
  | j :: l, s, c, h => by
    obtain ⟨h1, d, h2, h3⟩ := h
    have := way_in h2
    have := move_cost h1
    rw [List.length_cons]
    omega
theorem way_len {x : Inst} : ∀ {l : List Int} {s : State} {c : Int}, x.way l s c → l.length ≤ x.meas s
  | [], s, c, h => Nat.zero_le _
  | j :: l, s, c, h => by
    obtain ⟨h1, d, h2, h3⟩ := h
    have := way_len h2
    have := meas_move h1
    rw [List.length_cons]
    omega
theorem way_low {x : Inst} : ∀ {l : List Int} {s : State} {c : Int}, s.seenAt → x.way l s c → lowP x.near s.can ≤ c
  | [], s, c, _, h => by rw [h.2]; exact low_end h.1
  | j :: l, s, c, hs, h => by
    obtain ⟨h1, d, h2, h3⟩ := h
    have := way_low (seen_step h1) h2
    have := low_step hs h1
    omega
theorem way_goes {x : Inst} : ∀ {l : List Int} {s : State} {c : Int} (c0 : Int), 0 ≤ c0 → c0 + 14143 * (l.length + 1) < 9223372036854775808 → x.way l s c → ∃ t c1, x.goes l s c0 = some (t, c1) ∧ (x.endS t).2 = true ∧ c0 + c = c1 + (x.endS t).1
  | [], s, c, c0, _, _, h => ⟨s, c0, rfl, h.1, by rw [h.2]⟩
  | j :: l, s, c, c0, h0, hl, h => by
    obtain ⟨h1, d, h2, h3⟩ := h
    have hc := move_cost h1
    rw [List.length_cons] at hl
    obtain ⟨t, c1, g1, g2, g3⟩ := way_goes (c0 + (x.move s j).2.1) (by omega) (by omega) h2
    refine ⟨t, c1, ?_, g2, by omega⟩
    rw [Inst.goes, if_pos h1, w64 _ (by omega)]
    exact g1
theorem goes_way {x : Inst} : ∀ {l : List Int} {s t : State} {c0 c1 : Int}, 0 ≤ c0 → c0 + 14143 * l.length < 9223372036854775808 → x.goes l s c0 = some (t, c1) → (x.endS t).2 = true → x.way l s (c1 - c0 + (x.endS t).1)
  | [], s, t, c0, c1, _, _, h, he => by
    rw [Inst.goes] at h
    cases h
    exact ⟨he, by omega⟩
  | j :: l, s, t, c0, c1, h0, hl, h, he => by
    rw [Inst.goes] at h
    split at h
    · rename_i hm
      have hc := move_cost hm
      rw [List.length_cons] at hl
      rw [w64 _ (by omega)] at h
      exact ⟨hm, _, goes_way (by omega) (by omega) h he, by omega⟩
    · cases h
theorem way_app {x : Inst} : ∀ {l : List Int} {s t : State} {c0 c1 : Int} {m : List Int} {d : Int}, 0 ≤ c0 → c0 + 14143 * l.length < 9223372036854775808 → x.goes l s c0 = some (t, c1) → x.way m t d → x.way (l ++ m) s (c1 - c0 + d)
  | [], s, t, c0, c1, m, d, _, _, h, he => by
    rw [Inst.goes] at h
    cases h
    have : c0 - c0 + d = d := by omega
    rw [this]
    exact he
  | j :: l, s, t, c0, c1, m, d, h0, hl, h, he => by
    rw [Inst.goes] at h
    split at h
    · rename_i hm
      have hc := move_cost hm
      rw [List.length_cons] at hl
      rw [w64 _ (by omega)] at h
      exact ⟨hm, _, way_app (by omega) (by omega) h he, by omega⟩
    · cases h
/-- What no state of an instance has less of. -/
structure State.Pos (s : State) : Prop where
  car : 1 ≤ s.car
  time : 0 ≤ s.time
  load : 0 ≤ s.load
theorem within_with {a b k : Nat} (hk : k ≤ 63) (h : withinB a b = true) : withinB (withN a k) (withN b k) = true := by
  rw [withinB, List.all_eq_true] at *
  intro i hi
  have := h i hi
  rw [with_bit hk, with_bit hk]
  revert this
  cases a.testBit i <;> cases b.testBit i <;> cases decide (k = i) <;> simp
theorem within_without {a b k : Nat} (hk : k ≤ 63) (h : withinB a b = true) : withinB (withoutN a k) (withoutN b k) = true := by
  rw [withinB, List.all_eq_true] at *
  intro i hi
  have := h i hi
  have hi' := List.mem_range.1 hi
  rw [without_bit hk hi', without_bit hk hi']
  revert this
  cases a.testBit i <;> cases b.testBit i <;> cases decide (k = i) <;> simp
theorem within_zero {a : Nat} (ha : a < 2 ^ 64) (h : withinB a 0 = true) : a = 0 := by
  refine Nat.eq_of_testBit_eq fun i => ?_
  by_cases hi : i < 64
  · rw [withinB, List.all_eq_true] at h
    have := h i (List.mem_range.2 hi)
    revert this
    cases a.testBit i <;> simp
  · rw [Nat.zero_testBit]
    exact Nat.testBit_lt_two_pow (Nat.lt_of_lt_of_le ha (Nat.pow_le_pow_right (by omega) (by omega)))
theorem cov_mk {a b : State} (e1 : a.spot = b.spot) (e2 : withinB a.must b.must = true) (e3 : withinB a.on b.on = true) (e4 : withinB b.can a.can = true) (e5 : a.car ≤ b.car) (e6 : a.time ≤ b.time) (e7 : a.load ≤ b.load) (e8 : a.first ≤ b.first) : coversB a b = true := by
  simp only [coversB, Bool.and_eq_true, decide_eq_true_eq]
  exact ⟨⟨⟨⟨⟨⟨⟨e1, e2⟩, e3⟩, e4⟩, e5⟩, e6⟩, e7⟩, e8⟩
theorem cov_may {x : Inst} {a b : State} (h : coversB a b = true) (hp : a.Pos) (hb : b.mayB x = true) : a.mayB x = true := by
  simp only [coversB, Bool.and_eq_true, decide_eq_true_eq] at h
  simp only [State.mayB, Bool.and_eq_true, decide_eq_true_eq] at hb ⊢
  have := hp.car
  have := hp.time
  have := hp.load
  omega
theorem cov_home {x : Inst} {a b : State} (hcov : coversB a b = true) (hp : a.Pos) (ho : a.ok) (h : (x.move b 0).2.2 = true) :
    x.move a 0 = (x.homeS a, far (x.stop b.spot) (x.stop 0), true) ∧ coversB (x.homeS a) (x.homeS b) = true ∧ (x.homeS a).Pos := by
  have hc := hcov
  simp only [coversB, Bool.and_eq_true, decide_eq_true_eq] at hc
  obtain ⟨⟨⟨⟨⟨⟨⟨e1, e2⟩, e3⟩, e4⟩, e5⟩, e6⟩, e7⟩, e8⟩ := hc
  obtain ⟨h1, h2, h3, h4⟩ := move_home h
  obtain ⟨p, hx⟩ := x.fit h1
  have hpp := hx.pairs
  have ha := cov_may hcov hp h2
  have hs : x.stayB a = false := by
    simp only [Inst.stayB, Bool.or_eq_false_iff, decide_eq_false_iff_not] at h3 ⊢
    obtain ⟨⟨⟨⟨a1, a2⟩, a3⟩, a4⟩, a5⟩ := h3
    have hon : a.on = 0 := by
      have : b.on = 0 := by omega
      rw [this] at e3
      exact within_zero ho.on e3
    refine ⟨⟨⟨⟨by rw [e1]; exact a1, by omega⟩, by omega⟩, ?_⟩, by rw [e1]; omega⟩
    cases hq : x.allB a.must with
    | false => rfl
    | true =>
      have := within_trans hq e2
      rw [Inst.allB] at a4
      rw [a4] at this
      cases this
  have hto : x.to a 0 = (x.homeS a, true) := by rw [Inst.to, if_pos rfl, Inst.home, if_neg (by rw [hs]; simp)]
  have hmv := move_mk (j := 0) h1 ha (by omega) (by rw [hto])
  rw [hto, e1] at hmv
  have h5 := (hx.at (j := 0) (by omega) (by omega)).ready
  have h6 := hp.car
  refine ⟨hmv, cov_mk (a := x.homeS a) (b := x.homeS b) rfl e2 e3 e4 ?_ ?_ ?_ e8, ⟨?_, ?_, ?_⟩⟩ <;> simp only [Inst.homeS] <;> omega
theorem cov_pos {x : Inst} {a b : State} {j : Int} (hj : j ≠ 0) (hcov : coversB a b = true) (hp : a.Pos) (h : (x.move b j).2.2 = true) :
    x.move a j = (x.rvisit a j (x.begins a j), far (x.stop b.spot) (x.stop j), true) ∧ coversB (x.rvisit a j (x.begins a j)) (x.rvisit b j (x.begins b j)) = true ∧ (x.rvisit a j (x.begins a j)).Pos := by
  have hc := hcov
  simp only [coversB, Bool.and_eq_true, decide_eq_true_eq] at hc
  obtain ⟨⟨⟨⟨⟨⟨⟨e1, e2⟩, e3⟩, e4⟩, e5⟩, e6⟩, e7⟩, e8⟩ := hc
  obtain ⟨h1, h2, h3, h4, h5, h6, h7, h8⟩ := move_pos h hj
  obtain ⟨p, hx⟩ := x.fit h1
  have hpp := hx.pairs
  have hfew := hx.few
  have ha := cov_may hcov hp h2
  have hbe : x.begins a j ≤ x.begins b j := by
    unfold Inst.begins
    rw [e1]
    omega
  have k1 : x.lateB a j = false := by
    simp only [Inst.lateB, Bool.or_eq_false_iff, decide_eq_false_iff_not] at h5 ⊢
    refine ⟨?_, by omega⟩
    cases hq : hasB a.must j with
    | false => rfl
    | true =>
      have := within_has e2 j hq
      rw [h5.1] at this
      cases this
  have k2 : j ≤ x.pairs → x.fullB a j = false := fun hh => by
    have := h6 hh
    simp only [Inst.fullB, Bool.or_eq_false_iff, Bool.and_eq_false_iff, decide_eq_false_iff_not] at this ⊢
    refine ⟨by omega, ?_⟩
    rcases this.2 with h9 | h9
    · exact .inl (by rw [e1]; exact h9)
    · exact .inr (by omega)
  have k3 : x.pairs < j → x.emptyB a j = false := fun hh => by
    have := h7 hh
    simp only [Inst.emptyB, Bool.or_eq_false_iff, Bool.not_eq_false', decide_eq_false_iff_not] at this ⊢
    exact ⟨by rw [e1]; exact this.1, within_has e4 _ this.2⟩
  have hto := to_visit (x := x) (s := a) hj k1 k2 k3
  have hmv := move_mk (j := j) h1 ha (by omega) (by rw [hto])
  rw [hto, e1] at hmv
  have h9 := (hx.at (j := j) (by omega) (by omega)).service
  have h10 := (far_le (x.stop a.spot) (x.stop j)).1
  have h11 := hp.time
  have h12 := hp.car
  have h13 : 0 ≤ x.begins a j := by unfold Inst.begins; omega
  obtain ⟨k, hk⟩ : ∃ k : Nat, j = k := ⟨j.toNat, by omega⟩
  refine ⟨hmv, ?_, ⟨?_, ?_, ?_⟩⟩
  · generalize x.begins a j = ta at *
    generalize x.begins b j = tb at *
    generalize x.stop j = sj at *
    refine cov_mk ?_ ?_ ?_ ?_ ?_ ?_ ?_ ?_
    · simp only [Inst.rvisit]
    · simp only [Inst.rvisit]
      rw [hk]
      exact within_with (by omega) e2
    · simp only [Inst.rvisit]
      rw [hk]
      split
      · exact within_with (by omega) e3
      · obtain ⟨q, hq⟩ : ∃ q : Nat, (k : Int) - x.pairs = q := ⟨((k : Int) - x.pairs).toNat, by omega⟩
        rw [hq]
        exact within_without (by omega) e3
    · simp only [Inst.rvisit]
      rw [hk]
      exact within_with (by omega) e4
    · simp only [Inst.rvisit]
      exact e5
    · simp only [Inst.rvisit]
      omega
    · simp only [Inst.rvisit]
      omega
    · simp only [Inst.rvisit]
      rw [e1]
      split
      · exact Int.le_refl _
      · exact e8
  · simp only [Inst.rvisit]; exact h12
  · simp only [Inst.rvisit]; omega
  · simp only [Inst.rvisit]; omega
theorem cov_move {x : Inst} {a b : State} {j : Int} (hc : coversB a b = true) (hp : a.Pos) (ho : a.ok) (h : (x.move b j).2.2 = true) :
    (x.move a j).2.2 = true ∧ (x.move a j).2.1 = (x.move b j).2.1 ∧ coversB (x.move a j).1 (x.move b j).1 = true ∧ (x.move a j).1.Pos := by
  by_cases hj : j = 0
  · subst hj
    obtain ⟨g1, g2, g3⟩ := cov_home hc hp ho h
    rw [g1, (move_home h).2.2.2]
    exact ⟨rfl, rfl, g2, g3⟩
  · obtain ⟨g1, g2, g3⟩ := cov_pos hj hc hp h
    rw [g1, (move_pos h hj).2.2.2.2.2.2.2]
    exact ⟨rfl, rfl, g2, g3⟩
theorem cov_end {x : Inst} {a b : State} (h0 : x.pairs ≠ 0) (hc : coversB a b = true) (hp : a.Pos) (ho : a.ok) (h : (x.endS b).2 = true) : (x.endS a).2 = true ∧ (x.endS a).1 = (x.endS b).1 := by
  have hcov := hc
  simp only [coversB, Bool.and_eq_true, decide_eq_true_eq] at hc
  obtain ⟨⟨⟨⟨⟨⟨⟨e1, e2⟩, e3⟩, e4⟩, e5⟩, e6⟩, e7⟩, e8⟩ := hc
  obtain ⟨h1, h2 | ⟨h2, h3, h4, h5, h6, h7⟩⟩ := end_is h
  · exact absurd h2.1 h0
  · have hon : a.on = 0 := by
      rw [h4] at e3
      exact within_zero ho.on e3
    have hend : x.endS a = (far (x.stop a.spot) (x.stop 0), true) := by
      rw [Inst.endS, if_neg (by simp [h1]), if_neg (fun h => h0 h.1), if_pos]
      refine ⟨cov_may hcov hp h2, by rw [e1]; exact h3, hon, ?_, by rw [e1]; omega⟩
      exact within_trans h5 e4
    rw [hend, h7, e1]
    exact ⟨rfl, rfl⟩
theorem cov_way {x : Inst} (h0 : x.pairs ≠ 0) : ∀ {l : List Int} {a b : State} {c : Int}, coversB a b = true → a.Pos → a.ok → x.way l b c → x.way l a c
  | [], a, b, c, hc, hp, ho, h => by
    obtain ⟨h1, h2⟩ := cov_end h0 hc hp ho h.1
    exact ⟨h1, by rw [h2]; exact h.2⟩
  | j :: l, a, b, c, hc, hp, ho, h => by
    obtain ⟨h1, d, h2, h3⟩ := h
    obtain ⟨g1, g2, g3, g4⟩ := cov_move hc hp ho h1
    exact ⟨g1, d, cov_way h0 g3 g4 (move_ok x j ho) h2, by omega⟩
theorem pos_move {x : Inst} {s : State} {j : Int} (hp : s.Pos) (ho : s.ok) (h : (x.move s j).2.2 = true) : (x.move s j).1.Pos := (cov_move (covers_refl s) hp ho h).2.2.2
theorem pos_root {x : Inst} (h : x.may = true) : x.rootS.Pos := by
  obtain ⟨p, hx⟩ := x.fit h
  have := (hx.at (j := 0) (by omega) (by omega)).ready
  rw [Inst.rootS, if_pos h]
  exact ⟨Int.le_refl _, this.1, Int.le_refl _⟩
/-- Where a move can be made there are pairs. -/
theorem move_pairs {x : Inst} {s : State} {j : Int} (h : (x.move s j).2.2 = true) : x.pairs ≠ 0 := by
  by_cases hj : j = 0
  · subst hj
    obtain ⟨h1, h2, h3, h4⟩ := move_home h
    simp only [Inst.stayB, Bool.or_eq_false_iff, decide_eq_false_iff_not] at h3
    simp only [State.mayB, Bool.and_eq_true, decide_eq_true_eq] at h2
    omega
  · have := move_pos h hj
    omega
end Go.Proofs.Ytmmdnflngbkjnaa

/- What can be followed and ended is the tour of a plan: the plain law. -/
set_option maxRecDepth 4000
namespace Go.Proofs.Ytmmdnflngbkjnaa
open Go Go.Proofs.Ytmmdnflngbkjnaa.R
/-- A car goes as a state says; what was seen ahead of its route: m0. -/
structure Sim1 (x : Inst) (p m0 : Nat) (s : State) (c : Car) (k : Nat) : Prop where
  spot : c.spot = s.spot
  now : c.now = s.time
  load : c.load = s.load
  on : c.on = s.on
  seen : ∀ i, 1 ≤ i → i ≤ 2 * p → s.must.testBit i = (m0.testBit i || c.seen.testBit i)
  old : ∀ i, 1 ≤ i → i ≤ p → m0.testBit i = true → m0.testBit (i + p) = true
  fit : c.Fit p k
  good : Good x p s
theorem Sim1.step {x : Inst} {p m0 k : Nat} {s : State} {c : Car} {j : Int} (hx : x.Fit p) (h : Sim1 x p m0 s c k) (hj : j ≠ 0) (hm : (x.move s j).2.2 = true) :
    (x.visitC c j).2 = 0 ∧ Sim1 x p m0 (x.move s j).1 (x.visitC c j).1 (k + 1) ∧ (x.visitC c j).1.gone = c.gone + (x.move s j).2.1 := by
  obtain ⟨g1, g2, g3, g4, g5, g6⟩ := good_step hx h.good hm
  obtain ⟨m1, m2, m3, m4, m5, m6, m7, m8⟩ := move_pos hm hj
  have hp := hx.pairs
  have hfew := hx.few
  obtain ⟨i, rfl⟩ : ∃ i : Nat, j = i := ⟨j.toNat, by omega⟩
  simp only [Inst.lateB, Bool.or_eq_false_iff, decide_eq_false_iff_not] at m5
  rw [has_testN (by omega)] at m5
  have hs := h.seen i (by omega) (by omega)
  rw [m5.1] at hs
  have hv : x.visitsE c i = 0 := by
    rw [Inst.visitsE, if_neg (by omega), if_neg, if_neg, if_neg]
    · rw [h.load]
      by_cases hi : (i : Int) ≤ x.pairs
      · have := m6 hi
        simp only [Inst.fullB, Bool.or_eq_false_iff, decide_eq_false_iff_not] at this
        omega
      · have hb := hx.bring (k := i - p) (by omega) (by omega)
        have ht := hx.take (k := i - p) (by omega) (by omega)
        have hr := h.good.room
        rw [show i - p + p = i by omega] at hb
        omega
    · rintro ⟨hi, hq⟩
      have := m7 hi
      simp only [Inst.emptyB, Bool.or_eq_false_iff, Bool.not_eq_false', decide_eq_false_iff_not] at this
      have e : (i : Int) - x.pairs = ((i - p : Nat) : Int) := by omega
      rw [e] at this hq
      rw [has_testN (by omega), h.good.eq] at this
      rw [has_testN (by omega)] at hq
      have h1 := h.seen (i - p) (by omega) (by omega)
      rw [this.2, hq, Bool.or_false] at h1
      have h2 := h.old (i - p) (by omega) (by omega) h1.symm
      rw [show i - p + p = i by omega] at h2
      rw [h2] at hs
      cases hs
    · rw [has_testN (by omega)]
      intro hq
      rw [hq, Bool.or_true] at hs
      cases hs
  have hfar : x.visitC c i = ({ spot := i, now := x.begins s i + (x.stop i).service, gone := c.gone + far (x.stop s.spot) (x.stop i), load := s.load + (x.stop i).demand, seen := withN c.seen i, on := if (i : Int) ≤ x.pairs then withN s.on i else withoutN s.on (i - x.pairs), times := c.times ++ [[.i (s.time + far (x.stop s.spot) (x.stop i)), .i (x.begins s i), .i (x.begins s i + (x.stop i).service)]], loads := c.loads ++ [s.load + (x.stop i).demand] }, 0) := by
    rw [Inst.visitC, if_neg (by simp [hv]), h.spot, h.now, h.load, h.on, if_neg]
    · rfl
    · have := m5.2
      unfold Inst.begins at this
      exact this
  have hfit := visitC_fit hx h.fit (i := i) (by rw [hfar])
  rw [hfar] at hfit ⊢
  rw [if_pos (by omega)] at g4 g6
  refine ⟨rfl, ⟨?_, ?_, ?_, ?_, ?_, h.old, hfit, g1⟩, ?_⟩
  · rw [m8]; rfl
  · rw [m8]; rfl
  · rw [g6]
  · rw [m8]; rfl
  · intro n n1 n2
    rw [g4, with_bit (by omega), with_bit (by omega), h.seen n n1 n2, Bool.or_assoc]
  · rw [m8]
/-- How often each stop stands in what was seen so far. -/
def MatchS (p must : Nat) (seen : List Int) : Prop := seen.length = 2 * p + 1 ∧ ∀ i (h : i < seen.length), seen[i] = if 1 ≤ i ∧ must.testBit i = true then 1 else 0
theorem MatchS.bump {p must : Nat} {seen : List Int} (h : MatchS p must seen) {j : Nat} (h1 : 1 ≤ j) (h2 : j ≤ 2 * p) (h64 : j ≤ 63) (hn : must.testBit j = false) : MatchS p (withN must j) (bump seen j) := by
  obtain ⟨hl, hs⟩ := h
  refine ⟨by rw [bump_len]; exact hl, fun i hi => ?_⟩
  have hi' : i < seen.length := by rw [bump_len] at hi; exact hi
  have e : seen.getD j 0 = seen[j] := by rw [List.getD_eq_getElem?_getD, List.getElem?_eq_getElem (by omega)]; rfl
  have h0 := hs j (by omega)
  rw [if_neg (by simp [hn])] at h0
  simp only [Go.Proofs.Ytmmdnflngbkjnaa.bump, Int.toNat_natCast, e, h0, List.getElem_set, with_bit h64]
  by_cases hji : j = i
  · subst hji
    simp [h1]
  · rw [if_neg hji, hs i hi']
    simp [hji]
theorem MatchS.end {p must : Nat} {seen : List Int} (h : MatchS p must seen) (ha : ∀ i, 1 ≤ i → i ≤ 2 * p → must.testBit i = true) : (seen.any fun n => decide (1 < n)) = false ∧ ((seen.drop 1).any fun n => decide (n = 0)) = false := by
  obtain ⟨hl, hs⟩ := h
  constructor
  · rw [List.any_eq_false]
    intro n hn
    obtain ⟨i, hi, rfl⟩ := List.mem_iff_getElem.1 hn
    rw [hs i hi]
    split <;> simp
  · rw [List.any_eq_false]
    intro n hn
    obtain ⟨i, hi, rfl⟩ := List.mem_iff_getElem.1 hn
    rw [List.getElem_drop, hs (1 + i) (by rw [List.length_drop] at hi; omega), if_pos ⟨by omega, ha _ (by omega) (by rw [List.length_drop] at hi; omega)⟩]
    simp
theorem runC_cons {x : Inst} {i : Int} {r : List Int} {c : Car} (h : (x.visitC c i).2 = 0) : x.runC (i :: r) c = x.runC r (x.visitC c i).1 := by
  rw [Inst.runC, if_neg (by simp [h])]
/-- The rest of a route, in the middle of it. -/
theorem route_rest {x : Inst} {p m0 : Nat} (hx : x.Fit p) (h0 : x.pairs ≠ 0) : ∀ (path : List Int) (s : State) (c : Car) (k : Nat) (d : Int), Sim1 x p m0 s c k → s.spot ≠ 0 → x.way path s d →
    ∃ r rest c', path = r ++ rest ∧ (∀ i ∈ r, 0 < i) ∧ x.runC r c = (c', 0) ∧
      ((rest = [] ∧ d = c'.gone - c.gone ∧ ∀ seen, MatchS p s.must seen → ∃ must, MatchS p must (r.foldl bump seen) ∧ ∀ i, 1 ≤ i → i ≤ 2 * p → must.testBit i = true) ∨
       (∃ path' s' d', rest = 0 :: path' ∧ d = c'.gone - c.gone + d' ∧ x.way path' s' d' ∧ s'.spot = 0 ∧ s'.on = 0 ∧ s'.load = 0 ∧ s'.time = (x.stop 0).ready ∧ s'.first = s.first ∧ s'.car = s.car + 1 ∧ s.car < x.cars ∧ Good x p s' ∧ ∀ seen, MatchS p s.must seen → MatchS p s'.must (r.foldl bump seen)))
  | [], s, c, k, d, hs, hsp, hw => by
    obtain ⟨w1, w2⟩ := hw
    obtain ⟨e1, e2 | ⟨e2, e3, e4, e5, e6, e7⟩⟩ := end_is w1
    · exact absurd e2.1 h0
    · refine ⟨[], [], x.drive c 0, rfl, by simp, ?_, .inl ⟨rfl, ?_, fun seen hm => ⟨s.must, hm, fun i i1 i2 => ?_⟩⟩⟩
      · rw [Inst.runC, Inst.homeC, hs.on, hs.now, hs.spot, if_neg (by simp [e4]), if_neg (by omega)]
      · rw [w2, e7]
        show _ = c.gone + far (x.stop c.spot) (x.stop 0) - c.gone
        rw [hs.spot]
        simp only
        omega
      · rw [← hs.good.eq]
        exact Inst.all_bit hx e5 i1 i2
  | j :: path, s, c, k, d, hs, hsp, hw => by
    obtain ⟨w1, d', w2, w3⟩ := hw
    by_cases hj : j = 0
    · subst hj
      obtain ⟨g1, g2, g3, g4⟩ := move_home w1
      have hgs := (good_step hx hs.good w1).1
      simp only [Inst.stayB, Bool.or_eq_false_iff, decide_eq_false_iff_not] at g3
      obtain ⟨⟨⟨⟨a1, a2⟩, a3⟩, a4⟩, a5⟩ := g3
      rw [g4] at w2 w3 hgs
      have hon : s.on = 0 := by omega
      refine ⟨[], 0 :: path, x.drive c 0, rfl, by simp, ?_, .inr ⟨path, x.homeS s, d', rfl, ?_, w2, rfl, hon, rfl, rfl, rfl, rfl, by omega, hgs, fun seen hm => hm⟩⟩
      · rw [Inst.runC, Inst.homeC, hs.on, hs.now, hs.spot, if_neg (by simp [hon]), if_neg (by omega)]
      · show _ = c.gone + far (x.stop c.spot) (x.stop 0) - c.gone + d'
        rw [hs.spot, w3]
        simp only
        omega
    · obtain ⟨v1, v2, v3⟩ := hs.step hx hj w1
      obtain ⟨b1, b2, b3, b4, _, _⟩ := good_step hx hs.good w1
      obtain ⟨_, _, p3, p4, p5, _, _, m8⟩ := move_pos w1 hj
      have hfew := hx.few
      rw [if_pos p3] at b4
      have hsp' : (x.move s j).1.spot ≠ 0 := by rw [m8]; exact hj
      have hfi : (x.move s j).1.first = s.first := by rw [m8]; show (if s.spot = 0 then j else s.first) = s.first; rw [if_neg hsp]
      have hca : (x.move s j).1.car = s.car := by rw [m8]; rfl
      obtain ⟨r, rest, c', q1, q2, q3, q4⟩ := route_rest hx h0 path _ _ _ d' v2 hsp' w2
      have hmt : ∀ seen, MatchS p s.must seen → MatchS p (x.move s j).1.must (bump seen j) := fun seen hm => by
        obtain ⟨i, rfl⟩ : ∃ i : Nat, j = i := ⟨j.toNat, by omega⟩
        simp only [Inst.lateB, Bool.or_eq_false_iff] at p5
        have := p5.1
        rw [has_testN (by omega)] at this
        rw [b4]
        exact hm.bump (by omega) (by omega) (by omega) this
      refine ⟨j :: r, rest, c', by rw [q1]; rfl, fun i hi => ?_, by rw [runC_cons v1]; exact q3, ?_⟩
      · rcases List.mem_cons.1 hi with rfl | hi
        · exact p3
        · exact q2 i hi
      · rcases q4 with ⟨t1, t2, t3⟩ | ⟨path', s', d2, t1, t2, t3, t4, t5, t6, t7, t8, t9, t10, t11, t12⟩
        · exact .inl ⟨t1, by omega, fun seen hm => t3 _ (hmt seen hm)⟩
        · exact .inr ⟨path', s', d2, t1, by omega, t3, t4, t5, t6, t7, by rw [t8, hfi], by rw [t9, hca], by omega, t11, fun seen hm => t12 _ (hmt seen hm)⟩
theorem idx_none : ∀ (l : List Int) (k : Nat), (∀ i ∈ l, 0 < i) → idxI lowI k l = -1
  | [], _, _ => rfl
  | i :: l, k, h => by
    have := h i List.mem_cons_self
    rw [idxI, if_neg (by simp [lowI]; omega)]
    exact idx_none l (k + 1) fun j hj => h j (List.mem_cons_of_mem _ hj)
theorem idx_zero : ∀ (l m : List Int) (k : Nat), (∀ i ∈ l, 0 < i) → idxI lowI k (l ++ 0 :: m) = ((k + l.length : Nat) : Int)
  | [], m, k, _ => by rw [List.nil_append, idxI, if_pos (by simp [lowI])]; simp
  | i :: l, m, k, h => by
    have := h i List.mem_cons_self
    rw [List.cons_append, idxI, if_neg (by simp [lowI]; omega), idx_zero l m (k + 1) fun j hj => h j (List.mem_cons_of_mem _ hj), List.length_cons]
    congr 1
    omega
/-- From the yard: routes, one behind the other. -/
theorem yard_split {x : Inst} {p : Nat} (hx : x.Fit p) (hm : x.may = true) (h0 : x.pairs ≠ 0) : ∀ (f : Nat) (path : List Int) (s : State) (d : Int) (acc : List (List Int)), path.length < f → s.spot = 0 → s.on = 0 → s.load = 0 → s.time = (x.stop 0).ready → Good x p s → x.way path s d →
    path ≠ [] ∧ ∃ routes, splitF f path s.first false acc = (acc ++ routes, 0) ∧ (routes.length : Int) + s.car ≤ x.cars + 1 ∧ ∀ all seen, MatchS p s.must seen → x.costGo routes all seen = (all + d, 0)
  | 0, path, s, d, acc, hf, _, _, _, _, _, _ => absurd hf (by omega)
  | f + 1, [], s, d, acc, _, hsp, _, _, _, _, hw => by
    obtain ⟨w1, w2⟩ := hw
    obtain ⟨e1, e2 | ⟨e2, e3, _⟩⟩ := end_is w1
    · exact absurd e2.1 h0
    · exact absurd hsp e3
  | f + 1, j :: path, s, d, acc, hf, hsp, hon, hld, hti, hg, hw => by
    refine ⟨by simp, ?_⟩
    obtain ⟨w1, d1, w2, w3⟩ := hw
    have hj : j ≠ 0 := by
      intro e
      subst e
      obtain ⟨_, _, g3, _⟩ := move_home w1
      simp [Inst.stayB, hsp] at g3
    have hs : Sim1 x p s.must s x.car0 0 := by
      refine ⟨hsp.symm, hti.symm, hld.symm, hon.symm, fun i _ _ => by simp [Inst.car0], fun i i1 i2 h => ?_, car0_fit hx, hg⟩
      have := hg.on i i1 i2
      rw [hon, Nat.zero_testBit, h] at this
      simpa using this.symm
    obtain ⟨v1, v2, v3⟩ := hs.step hx hj w1
    obtain ⟨b1, b2, b3, b4, _, _⟩ := good_step hx hg w1
    obtain ⟨_, hmay, p3, p4, p5, p6, p7, m8⟩ := move_pos w1 hj
    have hfew := hx.few
    have hp := hx.pairs
    rw [if_pos p3] at b4
    have hjp : j ≤ x.pairs := by
      by_cases c : j ≤ x.pairs
      · exact c
      · have := p7 (by omega)
        simp [Inst.emptyB, hsp] at this
    have hfirst : s.first < j := by
      have := p6 hjp
      simp only [Inst.fullB, Bool.or_eq_false_iff, Bool.and_eq_false_iff, decide_eq_false_iff_not] at this
      rcases this.2 with h | h
      · exact absurd hsp h
      · omega
    have hsp' : (x.move s j).1.spot ≠ 0 := by rw [m8]; exact hj
    have hfi : (x.move s j).1.first = j := by rw [m8]; show (if s.spot = 0 then j else s.first) = j; rw [if_pos hsp]
    have hca : (x.move s j).1.car = s.car := by rw [m8]; rfl
    have hmt : ∀ seen, MatchS p s.must seen → MatchS p (x.move s j).1.must (bump seen j) := fun seen hm => by
      obtain ⟨i, rfl⟩ : ∃ i : Nat, j = i := ⟨j.toNat, by omega⟩
      simp only [Inst.lateB, Bool.or_eq_false_iff] at p5
      have := p5.1
      rw [has_testN (by omega)] at this
      rw [b4]
      exact hm.bump (by omega) (by omega) (by omega) this
    obtain ⟨r, rest, c', q1, q2, q3, q4⟩ := route_rest hx h0 path _ _ _ d1 v2 hsp' w2
    have hpos : ∀ i ∈ j :: r, 0 < i := fun i hi => by
      rcases List.mem_cons.1 hi with rfl | hi
      · exact p3
      · exact q2 i hi
    have hrun : x.runC (j :: r) x.car0 = (c', 0) := by rw [runC_cons v1]; exact q3
    have htimes : x.times (j :: r) = (c'.times, c'.gone, 0) := by rw [Inst.times, if_neg (by simp [hm]), hrun]; rfl
    have hg0 : x.car0.gone = 0 := rfl
    have hcgo : ∀ rs all seen, x.costGo ((j :: r) :: rs) all seen = x.costGo rs (all + c'.gone) (r.foldl bump (bump seen j)) := fun rs all seen => by
      rw [Inst.costGo, if_neg (by simp), htimes]
      simp
    rw [List.length_cons] at hf
    have hsc := s.fit hx hmay
    have hlast : (false || decide (j ≤ s.first)) = false := by rw [Bool.false_or]; exact decide_eq_false (by omega)
    rcases q4 with ⟨t1, t2, t3⟩ | ⟨path', s', d2, t1, t2, t3, t4, t5, t6, t7, t8, t9, t10, t11, t12⟩
    · subst t1
      rw [List.append_nil] at q1
      subst q1
      refine ⟨[j :: path], ?_, ?_, ?_⟩
      · rw [splitF, if_pos (by rw [idx_none _ 0 hpos]; omega), List.getD_cons_zero, hlast]
        rfl
      · have := hsc.car
        simp only [List.length_cons, List.length_nil]
        omega
      · intro all seen hms
        obtain ⟨must, k1, k2⟩ := t3 _ (hmt seen hms)
        obtain ⟨k3, k4⟩ := k1.end k2
        rw [hcgo, Inst.costGo, k3, k4]
        simp only [Bool.false_eq_true, if_false]
        congr 1
        omega
    · subst t1
      subst q1
      rw [List.length_append, List.length_cons] at hf
      obtain ⟨y1, routes, y2, y3, y4⟩ := yard_split hx hm h0 f path' s' d2 (acc ++ [j :: r]) (by omega) t4 t5 t6 t7 t11 t3
      have hlen' : path'.length ≠ 0 := fun e => y1 (List.eq_nil_of_length_eq_zero e)
      have hidx : idxI lowI 0 (j :: (r ++ 0 :: path')) = ((0 + (j :: r).length : Nat) : Int) := idx_zero (j :: r) path' 0 hpos
      rw [Nat.zero_add] at hidx
      refine ⟨(j :: r) :: routes, ?_, ?_, ?_⟩
      · rw [splitF, hidx, if_neg (by omega), if_neg, Int.toNat_natCast, List.getD_cons_zero, hlast]
        · have e1 : (j :: (r ++ 0 :: path')).drop ((j :: r).length + 1) = path' := by
            have : (j :: (r ++ 0 :: path')) = (j :: r ++ [0]) ++ path' := by simp
            rw [this, List.drop_left' (by simp)]
          have e2 : (j :: (r ++ 0 :: path')).take (j :: r).length = j :: r := by
            have : (j :: (r ++ 0 :: path')) = (j :: r) ++ (0 :: path') := by simp
            rw [this, List.take_left' rfl]
          rw [e1, e2]
          rw [t8, hfi] at y2
          rw [y2, List.append_assoc]
          rfl
        · have e3 : (j :: (r ++ 0 :: path')).getD ((j :: r).length : Int).toNat 0 = 0 := by
            have : (j :: (r ++ 0 :: path')) = (j :: r) ++ (0 :: path') := by simp
            rw [Int.toNat_natCast, this, List.getD_eq_getElem?_getD, List.getElem?_append_right (Nat.le_refl _)]
            simp
          rw [e3]
          simp only [List.length_cons, List.length_append]
          omega
      · rw [t9, hca] at y3
        simp only [List.length_cons]
        omega
      · intro all seen hms
        rw [hcgo, y4 _ _ (t12 _ (hmt seen hms))]
        congr 1
        omega
theorem tour_plain {x : Inst} (hm : x.may = true) {path : List Int} {d : Int} (hw : x.way path x.rootS d) : (splitR path).2 = 0 ∧ x.cost (splitR path).1 = (d, 0) := by
  obtain ⟨p, hx⟩ := x.fit hm
  have hp := hx.pairs
  have hc := hx.cars
  have hroot : x.rootS = { State.zero with car := 1, time := (x.stop 0).ready } := by rw [Inst.rootS, if_pos hm]
  have hms : MatchS p 0 (List.replicate (2 * x.pairs + 1).toNat 0) := by
    refine ⟨by rw [List.length_replicate]; omega, fun i hi => ?_⟩
    simp
  by_cases h0 : x.pairs = 0
  · match path, hw with
    | [], hw =>
      have hd : d = 0 := by
        obtain ⟨e1, e2 | ⟨e2, e3, _⟩⟩ := end_is hw.1
        · rw [hw.2, e2.2.2]
        · rw [hroot] at e3; exact absurd rfl e3
      have e : splitR [] = ([], 0) := rfl
      rw [e]
      refine ⟨rfl, ?_⟩
      obtain ⟨k3, k4⟩ := hms.end (fun i i1 i2 => by omega)
      rw [Inst.cost, if_neg (by simp [hm]), if_neg (by simp only [List.length_nil]; omega), Inst.costGo, k3, k4, hd]
      simp
    | j :: path, hw => exact absurd h0 (move_pairs hw.1)
  · obtain ⟨y1, routes, y2, y3, y4⟩ := yard_split hx hm h0 (path.length + 1) path x.rootS d [] (by omega) (by rw [hroot]; rfl) (by rw [hroot]; rfl) (by rw [hroot]; rfl) (by rw [hroot]) (good_root hx hm) hw
    have hf : x.rootS.first = 0 := by rw [hroot]; rfl
    have hca : x.rootS.car = 1 := by rw [hroot]
    have hmu : x.rootS.must = 0 := by rw [hroot]; rfl
    rw [hf] at y2
    rw [hca] at y3
    rw [hmu] at y4
    have hne : ¬ path.length = 0 := fun e => y1 (List.eq_nil_of_length_eq_zero e)
    rw [splitR, if_neg hne, y2]
    refine ⟨rfl, ?_⟩
    show x.cost ([] ++ routes) = (d, 0)
    rw [List.nil_append, Inst.cost, if_neg (by simp [hm]), if_neg (by omega), y4 _ _ hms]
    simp
end Go.Proofs.Ytmmdnflngbkjnaa

/- What can be followed and ended is the tour of a plan: the law. -/
set_option maxRecDepth 4000
namespace Go.Proofs.Ytmmdnflngbkjnaa
open Go Go.Proofs.Ytmmdnflngbkjnaa.R
theorem splitF_len : ∀ (f : Nat) (t : List Int) (last : Int) (o : Bool) (acc : List (List Int)), (splitF f t last o acc).1.length ≤ acc.length + f
  | 0, _, _, _, _ => by simp [splitF]
  | f + 1, t, last, o, acc => by
    rw [splitF]
    split
    · split
      · simp
      · simp only [List.length_append, List.length_cons, List.length_nil]; omega
    · split
      · simp
      · have := splitF_len f (t.drop ((idxI lowI 0 t).toNat + 1)) (t.getD 0 0) (o || decide (t.getD 0 0 ≤ last)) (acc ++ [t.take (idxI lowI 0 t).toNat])
        simp only [List.length_append, List.length_cons, List.length_nil] at this
        omega
theorem splitF_small {n : Nat} : ∀ (f : Nat) (t : List Int) (last : Int) (o : Bool) (acc : List (List Int)), t.length ≤ n → (∀ r ∈ acc, r.length ≤ n) → ∀ r ∈ (splitF f t last o acc).1, r.length ≤ n
  | 0, _, _, _, _, _, _ => by simp [splitF]
  | f + 1, t, last, o, acc, ht, h => by
    have key : ∀ m ≤ t.length, ∀ r ∈ acc ++ [t.take m], r.length ≤ n := fun m hm r hr => by
      rcases List.mem_append.1 hr with hr | hr
      · exact h r hr
      · rw [List.mem_singleton.1 hr, List.length_take]; omega
    rw [splitF]
    split
    · split
      · simp
      · have := key t.length (Nat.le_refl _)
        rw [List.take_length] at this
        exact this
    · split
      · simp
      · refine splitF_small f _ _ _ _ (by rw [List.length_drop]; omega) ?_
        intro r hr
        rcases List.mem_append.1 hr with hr | hr
        · exact h r hr
        · rw [List.mem_singleton.1 hr, List.length_take]; omega
theorem splitR_small (t : List Int) : (splitR t).1.length ≤ t.length + 1 ∧ ∀ r ∈ (splitR t).1, r.length ≤ t.length := by
  rw [splitR]
  split
  · simp
  · refine ⟨?_, splitF_small _ _ _ _ _ (Nat.le_refl _) (by simp)⟩
    have := splitF_len (t.length + 1) t 0 false []
    simpa using this
theorem ltours_pure (x : Inst) (path : List Int) (hl : x.stops.length < 2 ^ 63) (hp : path.length < 2 ^ 63) : Pure P 12 [x.a, .t (.sl (ints path))] (.b true) := by
  refine pure_of Try.func12 rfl rfl (by simp [Try.f12]) (by simp [bnd, bnd.bndL, Inst.a]) (by simp [bnd, bnd.bndL]) fun B hB hnx => ?_
  simp only [Try.f12] at hB ⊢
  have hil : (ints path).length = path.length := List.length_map _
  have hf := follow_pure x path hl hp
  have he := end_pure x (x.follow path).1 hl (follow_ok x path)
  refine K_run hB 100 ?_
  simp [go_sem, Inst.a]
  refine K_call rfl rfl rfl (args := []) (f := 28) (by simp [go_sem]) (by simp [go_sem, hB]) ((awake_pure).spec _ _) ?_
  have hfi : (x.follow path).2.2 = 0 → x.may = true ∧ x.goes path x.rootS 0 = some ((x.follow path).1, (x.follow path).2.1) := follow_is
  have hcost : (x.endS (x.follow path).1).2 = true → 0 ≤ (x.endS (x.follow path).1).1 ∧ (x.endS (x.follow path).1).1 ≤ 14143 := end_cost
  have hway : (x.endS (x.follow path).1).2 = true → (x.follow path).2.2 = 0 → path.length ≤ 100 → x.way path x.rootS ((x.follow path).2.1 + (x.endS (x.follow path).1).1) := fun h1 h2 h3 => by
    have := goes_way (c0 := 0) (by omega) (by omega) (hfi h2).2 h1
    rw [Int.sub_zero] at this
    exact this
  generalize hF : x.follow path = F at *
  generalize hE : x.endS F.1 = E at *
  refine K_run hB 100 ?_
  simp [go_sem]
  refine K_call rfl rfl rfl (args := [x.a, .t (.sl (ints path))]) (f := 21) (by simp [go_sem, Inst.a]) (by simp [go_sem, hB]) ((hf).spec _ _) ?_
  refine K_run hB 100 ?_
  simp [go_sem, fol, State.a, State.cs]
  refine K_call rfl rfl rfl (args := [x.a, F.1.a]) (f := 20) (by simp [go_sem, Inst.a, State.a, State.cs]) (by simp [go_sem, hB]) ((he).spec _ _) ?_
  by_cases c1 : 100 < (x.stops.length : Int)
  · refine K_run hB 100 ?_
    simp [go_sem, c1]
  by_cases c2 : 100 < (path.length : Int)
  · refine K_run hB 100 ?_
    simp [go_sem, c1, hil, c2]
  by_cases c3 : F.2.2 = 0
  rotate_left
  · refine K_run hB 100 ?_
    simp [go_sem, c1, hil, c2, c3]
  cases c4 : E.2 with
  | false =>
    refine K_run hB 100 ?_
    simp [go_sem, c1, hil, c2, c3, c4]
  | true =>
    have hw := hway c4 c3 (by omega)
    obtain ⟨t1, t2⟩ := tour_plain (hfi c3).1 hw
    obtain ⟨s1, s2⟩ := splitR_small path
    have hsp := split_pure path (by omega)
    have hco := cost_pure x (splitR path).1 hl (by omega) (fun r hr => by have := s2 r hr; omega)
    rw [t2] at hco
    rw [t1] at hsp
    generalize (splitR path).1 = pl at *
    have hwi := way_in hw
    have w1 := w64 (F.2.1 + E.1) (by omega)
    refine K_run hB 100 ?_
    simp [go_sem, c1, hil, c2, c3, c4]
    refine K_call rfl rfl rfl (args := [.t (.sl (ints path))]) (f := 29) (by simp [go_sem]) (by simp [go_sem, hB]) ((hsp).spec _ _) ?_
    refine K_run hB 100 ?_
    simp [go_sem]
    refine K_call rfl rfl rfl (args := [x.a, .agg [.t (.sl (pl.map rowT))]]) (f := 30) (by simp [go_sem, Inst.a]) (by simp [go_sem, hB]) ((hco).spec _ _) ?_
    refine K_run hB 100 ?_
    simp [go_sem, w1]
end Go.Proofs.Ytmmdnflngbkjnaa
