/- Parts of the proof: Find, Pot, Every, Law15e. -/
import Derived.Test.YtmmdnflngbkjnaaMH
set_option linter.unusedVariables false
/- What looking at all finds: the plain law. -/
set_option maxRecDepth 4000
namespace Go.Proofs.Ytmmdnflngbkjnaa
open Go Go.Proofs.Ytmmdnflngbkjnaa.R
/-- What is known of the nodes of a level. -/
structure Lev (x : Inst) (l : List Node) (d : Nat) : Prop where
  ok : ∀ n ∈ l, n.s.ok
  deep : ∀ n ∈ l, x.meas n.s < d
  pos : ∀ n ∈ l, n.s.Pos
  seen : ∀ n ∈ l, n.s.seenAt
  cost : ∀ n ∈ l, 0 ≤ n.cost ∧ n.cost + 14143 * (d : Int) ≤ 1152921504606846976
theorem child_cost {x : Inst} {l : List Node} {d : Nat} (h : Lev x l (d + 1)) {n : Node} (hn : n ∈ l) {j : Int} (hj : (x.move n.s j).2.2 = true) : (x.child n j).cost = n.cost + (x.move n.s j).2.1 := by
  have h1 := h.cost n hn
  have h2 := move_cost hj
  show sumI [n.cost, (x.move n.s j).2.1] = _
  rw [sumI_two h1.1 h2.1 (by omega)]
theorem Lev.sub {x : Inst} {l m : List Node} {d : Nat} (h : Lev x l d) (hs : ∀ n ∈ m, n ∈ l) : Lev x m d :=
  ⟨fun n hn => h.ok n (hs n hn), fun n hn => h.deep n (hs n hn), fun n hn => h.pos n (hs n hn), fun n hn => h.seen n (hs n hn), fun n hn => h.cost n (hs n hn)⟩
theorem Lev.next {x : Inst} {l : List Node} {d : Nat} (h : Lev x l (d + 1)) (up : Int) : Lev x (x.next l up) d := by
  have key : ∀ m ∈ x.next l up, ∃ n ∈ l, ∃ j, (x.move n.s j).2.2 = true ∧ m = x.child n j := by
    intro m hm
    obtain ⟨n, hn, j, hj, e, _⟩ := next_mem hm
    exact ⟨n, hn, j, moves_mem hj, e⟩
  refine ⟨?_, ?_, ?_, ?_, ?_⟩ <;> (intro m hm; obtain ⟨n, hn, j, hj, rfl⟩ := key m hm)
  · exact move_ok x j (h.ok n hn)
  · have := meas_move hj
    have := h.deep n hn
    show x.meas (x.move n.s j).1 < d
    omega
  · exact pos_move (h.pos n hn) (h.ok n hn) hj
  · exact seen_step hj
  · rw [child_cost h hn hj]
    have := h.cost n hn
    have := move_cost hj
    omega
theorem Lev.front {x : Inst} {l : List Node} {d : Nat} (h : Lev x l (d + 1)) (up : Int) : Lev x (frontL (x.next l up)) d := (h.next up).sub fun n hn => (front_inv _).sub n hn
theorem Lev.empty {x : Inst} {l : List Node} (h : Lev x l 0) : l = [] := by
  cases l with
  | nil => rfl
  | cons n l => exact absurd (h.deep n List.mem_cons_self) (by omega)
theorem Lev.root {x : Inst} {n : Node} (h1 : n.s.ok) (h2 : n.s.Pos) (h3 : n.s.seenAt) (h4 : 0 ≤ n.cost ∧ n.cost ≤ 1152921504606000000) : Lev x [n] (x.meas n.s + 1) := by
  have := meas_le x n.s
  refine ⟨?_, ?_, ?_, ?_, ?_⟩ <;> (intro m hm; rw [List.mem_singleton.1 hm])
  · exact h1
  · omega
  · exact h2
  · exact h3
  · omega
theorem best_fold_from (x : Inst) : ∀ (l : List Node) (b : Node × Bool), (l.foldl x.best1 b) = b ∨ ((l.foldl x.best1 b).2 = true ∧ ∃ n ∈ l, (x.endS n.s).2 = true ∧ (l.foldl x.best1 b).1.cost = sumI [n.cost, (x.endS n.s).1] ∧ (l.foldl x.best1 b).1.path = n.path)
  | [], b => .inl rfl
  | n :: l, b => by
    rw [List.foldl_cons]
    rcases best_fold_from x l (x.best1 b n) with h | ⟨h1, m, hm, h2⟩
    · rw [h]
      unfold Inst.best1
      split
      · rename_i hc
        exact .inr ⟨rfl, n, List.mem_cons_self, hc.1, rfl, rfl⟩
      · exact .inl rfl
    · exact .inr ⟨h1, m, List.mem_cons_of_mem _ hm, h2⟩
theorem bests_from {x : Inst} {l : List Node} (h : (x.bests l).2 = true) : ∃ n ∈ l, (x.endS n.s).2 = true ∧ (x.bests l).1.cost = sumI [n.cost, (x.endS n.s).1] ∧ (x.bests l).1.path = n.path := by
  rcases best_fold_from x l (Node.zero, false) with h1 | ⟨_, h2⟩
  · rw [Inst.bests, h1] at h; cases h
  · exact h2
theorem end_sum {x : Inst} {l : List Node} {d : Nat} (h : Lev x l (d + 1)) {n : Node} (hn : n ∈ l) (he : (x.endS n.s).2 = true) : sumI [n.cost, (x.endS n.s).1] = n.cost + (x.endS n.s).1 := by
  have h1 := h.cost n hn
  have h2 := end_cost he
  rw [sumI_two h1.1 h2.1 (by omega)]
/-- What a move leads to goes on, as long as it may cost less in the end. -/
theorem next_way {x : Inst} (hst : x.stops.length < 2 ^ 31) {l : List Node} {d : Nat} (h : Lev x l (d + 1)) {n : Node} (hn : n ∈ l) {j : Int} {w : List Int} {c : Int} (hj : (x.move n.s j).2.2 = true) (hw : x.way w (x.move n.s j).1 c) {up : Int} (hlt : n.cost + ((x.move n.s j).2.1 + c) < up) :
    ∃ m ∈ x.next l up, m.s = (x.move n.s j).1 ∧ m.cost ≤ n.cost + (x.move n.s j).2.1 := by
  have hc := h.cost n hn
  have hmc := move_cost hj
  have hcc := child_cost h hn hj
  have hwl := way_len hw
  have hwi := way_in hw
  have hmm := meas_move hj
  have hdp := h.deep n hn
  have hlow := way_low (seen_step hj) hw
  have hof : x.of (x.child n j) < up := by
    have := move_seen_low (x := x) hst (x.child n j) (n.cost + ((x.move n.s j).2.1 + c)) (by omega) (by rw [hcc]; show _ + lowP x.near (x.move n.s j).1.can ≤ _; omega) (by omega)
    omega
  have hmem : x.child n j ∈ l.flatMap (x.kids up) := by
    refine List.mem_flatMap.2 ⟨n, hn, ?_⟩
    rw [Inst.kids, List.mem_filter]
    exact ⟨List.mem_map.2 ⟨j, mem_moves hj, rfl⟩, by simpa using hof⟩
  obtain ⟨m, h1, h2, h3⟩ := onceL_has hmem
  exact ⟨m, h1, h2, by omega⟩
theorem front_way {x : Inst} {l : List Node} {d : Nat} (h : Lev x l d) (hp : x.pairs ≠ 0) {n : Node} (hn : n ∈ l) {w : List Int} {c : Int} (hw : x.way w n.s c) : ∃ m ∈ frontL l, x.way w m.s c ∧ m.cost ≤ n.cost := by
  obtain ⟨f, hf, hfn⟩ := (front_inv l).up n hn
  have hfl := (front_inv l).sub f hf
  simp only [Node.than, Bool.and_eq_true, decide_eq_true_eq] at hfn
  exact ⟨f, hf, cov_way hp hfn.2 (h.pos f hfl) (h.ok f hfl) hw, hfn.1.1⟩
theorem exGo_keep (x : Inst) (most : Int) : ∀ (d : Nat) (st : Node × Bool × Int) (l : List Node) (n : Int), stOk st → st.2.1 = true → (x.exGo most d st l n).2.1 = true ∧ (x.exGo most d st l n).1.cost ≤ st.2.2
  | 0, st, l, n, h, hs => ⟨hs, by rw [Inst.exGo]; have := h hs; simp only; omega⟩
  | d + 1, st, l, n, h, hs => by
    rw [Inst.exGo]
    split
    · exact ⟨hs, by have := h hs; simp only; omega⟩
    · split
      · exact ⟨hs, by have := h hs; simp only; omega⟩
      · obtain ⟨k1, k2, k3⟩ := look_ok (x := x) (l := l) h
        obtain ⟨j1, j2⟩ := exGo_keep x most d (x.look st l) (frontL (x.next l st.2.2)) (IntKind.i64.wrap (n + l.length)) k1 (k3 hs)
        exact ⟨j1, by omega⟩
/-- If all was looked at nothing that costs less than the bound was passed by. -/
theorem exGo_has {x : Inst} (hst : x.stops.length < 2 ^ 31) (most : Int) : ∀ (d : Nat) (st : Node × Bool × Int) (l : List Node) (n : Int), Lev x l d → stOk st → (x.exGo most d st l n).2.2.1 = true →
    ∀ m ∈ l, ∀ (w : List Int) (c : Int), x.way w m.s c → m.cost + c < st.2.2 → (x.exGo most d st l n).2.1 = true ∧ (x.exGo most d st l n).1.cost ≤ m.cost + c
  | 0, st, l, n, hl, _, _, m, hm, w, c, _, _ => by rw [hl.empty] at hm; cases hm
  | d + 1, st, l, n, hl, h, hall, m, hm, w, c, hw, hlt => by
    have c1 : ¬ l.length = 0 := by
      have := List.length_pos_of_mem hm
      omega
    rw [Inst.exGo, if_neg c1] at hall ⊢
    by_cases c2 : most < l.length
    · rw [if_pos c2] at hall; cases hall
    rw [if_neg c2] at hall ⊢
    obtain ⟨k1, k2, k3⟩ := look_ok (x := x) (l := l) h
    match w, hw with
    | [], hw =>
      obtain ⟨b1, b2⟩ := bests_has hm hw.1
      rw [end_sum hl hm hw.1, ← hw.2] at b2
      have hlk : x.look st l = ((x.bests l).1, true, (x.bests l).1.cost) := by rw [Inst.look, if_pos ⟨b1, by omega⟩]
      obtain ⟨j1, j2⟩ := exGo_keep x most d (x.look st l) (frontL (x.next l st.2.2)) (IntKind.i64.wrap (n + l.length)) k1 (by rw [hlk])
      refine ⟨j1, ?_⟩
      have : (x.look st l).2.2 = (x.bests l).1.cost := by rw [hlk]
      omega
    | j :: w, hw =>
      obtain ⟨g1, e, g2, g3⟩ := hw
      obtain ⟨q, hq, q1, q2⟩ := next_way hst hl hm g1 g2 (up := st.2.2) (by omega)
      obtain ⟨f, hf, f1, f2⟩ := front_way (hl.next st.2.2) (move_pairs g1) hq (w := w) (c := e) (by rw [q1]; exact g2)
      by_cases c3 : f.cost + e < (x.look st l).2.2
      · obtain ⟨i1, i2⟩ := exGo_has hst most d (x.look st l) (frontL (x.next l st.2.2)) _ (hl.front st.2.2) k1 hall f hf w e f1 c3
        exact ⟨i1, by omega⟩
      · have hs : (x.look st l).2.1 = true := by
          unfold Inst.look at c3 ⊢
          split
          · rfl
          · rename_i hh
            rw [if_neg hh] at c3
            omega
        obtain ⟨j1, j2⟩ := exGo_keep x most d (x.look st l) (frontL (x.next l st.2.2)) (IntKind.i64.wrap (n + l.length)) k1 hs
        exact ⟨j1, by omega⟩
/-- What is found can be followed, and ended. -/
theorem exGo_from {x : Inst} (most : Int) : ∀ (d : Nat) (st : Node × Bool × Int) (l : List Node) (n : Int), Lev x l d → stOk st →
    ((x.exGo most d st l n).2.1 = st.2.1 ∧ (x.exGo most d st l n).1 = st.1) ∨
    ((x.exGo most d st l n).2.1 = true ∧ ∃ m ∈ l, ∃ (w : List Int) (c : Int), x.way w m.s c ∧ (x.exGo most d st l n).1.cost = m.cost + c ∧ (x.exGo most d st l n).1.path = m.path ++ w ∧ m.cost + c < st.2.2)
  | 0, st, l, n, _, _ => .inl ⟨rfl, rfl⟩
  | d + 1, st, l, n, hl, h => by
    rw [Inst.exGo]
    split
    · exact .inl ⟨rfl, rfl⟩
    split
    · exact .inl ⟨rfl, rfl⟩
    obtain ⟨k1, k2, k3⟩ := look_ok (x := x) (l := l) h
    rcases exGo_from most d (x.look st l) (frontL (x.next l st.2.2)) (IntKind.i64.wrap (n + l.length)) (hl.front st.2.2) k1 with ⟨i1, i2⟩ | ⟨i1, m, hm, w, c, i2, i3, i4, i5⟩
    · by_cases hh : (x.bests l).2 = true ∧ (x.bests l).1.cost < st.2.2
      · have hlk : x.look st l = ((x.bests l).1, true, (x.bests l).1.cost) := by rw [Inst.look, if_pos hh]
        rw [i1, i2, hlk]
        obtain ⟨m, hm, b1, b2, b3⟩ := bests_from hh.1
        rw [end_sum hl hm b1] at b2
        exact .inr ⟨rfl, m, hm, [], _, ⟨b1, rfl⟩, b2, by rw [List.append_nil]; exact b3, by omega⟩
      · have hlk : x.look st l = st := by rw [Inst.look, if_neg hh]
        rw [i1, i2, hlk]
        exact .inl ⟨rfl, rfl⟩
    · obtain ⟨q, hq, j, hj, rfl, _⟩ := next_mem ((front_inv _).sub m hm)
      have hj := moves_mem hj
      have hcc := child_cost hl hq hj
      refine .inr ⟨i1, q, hq, j :: w, (x.move q.s j).2.1 + c, ⟨hj, c, i2, rfl⟩, ?_, ?_, ?_⟩
      · rw [i3, hcc]; omega
      · rw [i4]
        show (q.path ++ [j]) ++ w = _
        rw [List.append_assoc]; rfl
      · rw [hcc] at i5; omega
theorem exact_has {x : Inst} (hst : x.stops.length < 2 ^ 31) {n : Node} {up most : Int} (h1 : n.s.ok) (h2 : n.s.Pos) (h3 : n.s.seenAt) (h4 : 0 ≤ n.cost ∧ n.cost ≤ 1152921504606000000) (hall : (x.exact n up most).2.2.1 = true) {w : List Int} {c : Int} (hw : x.way w n.s c) (hlt : n.cost + c < up) :
    (x.exact n up most).2.1 = true ∧ (x.exact n up most).1.cost ≤ n.cost + c :=
  exGo_has hst most _ _ _ _ (Lev.root h1 h2 h3 h4) (fun h => by cases h) hall n List.mem_cons_self w c hw hlt
theorem exact_from {x : Inst} {n : Node} {up most : Int} (h1 : n.s.ok) (h2 : n.s.Pos) (h3 : n.s.seenAt) (h4 : 0 ≤ n.cost ∧ n.cost ≤ 1152921504606000000) (hs : (x.exact n up most).2.1 = true) :
    ∃ (w : List Int) (c : Int), x.way w n.s c ∧ (x.exact n up most).1.cost = n.cost + c ∧ (x.exact n up most).1.path = n.path ++ w ∧ n.cost + c < up := by
  rcases exGo_from (x := x) most _ (Node.zero, false, up) _ 0 (Lev.root h1 h2 h3 h4) (fun h => by cases h) with ⟨i1, _⟩ | ⟨_, m, hm, w, c, i2⟩
  · rw [Inst.exact, i1] at hs; cases hs
  · rw [List.mem_singleton.1 hm] at i2
    exact ⟨w, c, i2⟩
theorem exact_none {x : Inst} {n : Node} {up most : Int} (h1 : n.s.ok) (h2 : n.s.Pos) (h3 : n.s.seenAt) (h4 : 0 ≤ n.cost ∧ n.cost ≤ 1152921504606000000) (hs : (x.exact n up most).2.1 = false) : (x.exact n up most).1 = Node.zero := by
  rcases exGo_from (x := x) most _ (Node.zero, false, up) _ 0 (Lev.root h1 h2 h3 h4) (fun h => by cases h) with ⟨_, i1⟩ | ⟨i1, _⟩
  · exact i1
  · rw [Inst.exact, i1] at hs; cases hs
end Go.Proofs.Ytmmdnflngbkjnaa

/- How many nodes a level may have, with at most three pairs: the plain law. -/
set_option maxRecDepth 4000
namespace Go.Proofs.Ytmmdnflngbkjnaa
open Go Go.Proofs.Ytmmdnflngbkjnaa.R
def sumTo (f : Nat → Nat) : Nat → Nat
  | 0 => 0
  | n + 1 => sumTo f n + f n
/-- A move that may be made, as far as what was seen tells. -/
def okJ (p M : Nat) (yard : Bool) (j : Nat) : Bool :=
  if j = 0 then !yard && (List.range p).all fun k => !M.testBit k || M.testBit (k + p)
  else if j ≤ p then !M.testBit (j - 1) else !yard && !M.testBit (j - 1) && M.testBit (j - 1 - p)
/-- How many ways there are from here on, of at most so many moves. -/
def pot (p : Nat) : Nat → Nat → Bool → Nat
  | 0, _, _ => 1
  | d + 1, M, yard => max 1 (sumTo (fun j => if okJ p M yard j = true then pot p d (if j = 0 then M else M ||| 2 ^ (j - 1)) (decide (j = 0)) else 0) (2 * p + 1))
theorem pot_pos (p : Nat) : ∀ (d M : Nat) (yard : Bool), 1 ≤ pot p d M yard
  | 0, _, _ => Nat.le_refl _
  | d + 1, _, _ => Nat.le_max_left _ _
theorem pot_root : ∀ p < 4, ∀ d < 15, pot p d 0 true ≤ 132 := by decide +kernel
def keyM (s : State) : Nat := s.must / 2 % 64
theorem keyM_bit (s : State) {k : Nat} (hk : k < 6) : (keyM s).testBit k = s.must.testBit (k + 1) := by
  rw [keyM, show (64 : Nat) = 2 ^ 6 from rfl, Nat.testBit_mod_two_pow, Nat.testBit_succ]
  simp [hk]
def State.yard (s : State) : Bool := decide (s.spot = 0)
def potS (p d : Nat) (s : State) : Nat := pot p d (keyM s) s.yard
def potL (p d : Nat) : List Node → Nat
  | [] => 0
  | n :: l => potS p d n.s + potL p d l
theorem potL_app (p d : Nat) : ∀ (l m : List Node), potL p d (l ++ m) = potL p d l + potL p d m
  | [], m => by simp [potL]
  | n :: l, m => by rw [List.cons_append, potL, potL, potL_app p d l m]; omega
theorem potL_len (p d : Nat) : ∀ (l : List Node), l.length ≤ potL p d l
  | [] => Nat.zero_le _
  | n :: l => by
    have := potL_len p d l
    have := pot_pos p d (keyM n.s) n.s.yard
    rw [List.length_cons, potL, potS]
    omega
theorem potL_filter (p d : Nat) (f : Node → Bool) : ∀ (l : List Node), potL p d (l.filter f) ≤ potL p d l
  | [] => Nat.le_refl _
  | n :: l => by
    have := potL_filter p d f l
    rw [List.filter_cons]
    split <;> simp only [potL] <;> omega
theorem potL_set (p d : Nat) {n : Node} : ∀ (l : List Node) (i : Nat) (h : i < l.length), l[i].s = n.s → potL p d (l.set i n) = potL p d l
  | m :: l, 0, h, e => by
    simp only [List.getElem_cons_zero] at e
    simp only [List.set_cons_zero, potL, e]
  | m :: l, i + 1, h, e => by
    simp only [List.getElem_cons_succ] at e
    rw [List.set_cons_succ, potL, potL, potL_set p d l i (by simpa using h) e]
theorem potL_once1 (p d : Nat) (out : List Node) (n : Node) : potL p d (once1 out n) ≤ potL p d out + potS p d n.s := by
  unfold once1
  split
  · rw [potL_app]; simp only [potL]; omega
  · rename_i i e
    obtain ⟨h1, h2⟩ := sIdx_some e
    split
    · rw [potL_set p d out i h1 h2]; omega
    · omega
theorem potL_once (p d : Nat) : ∀ (l out : List Node), potL p d (l.foldl once1 out) ≤ potL p d out + potL p d l
  | [], out => Nat.le_refl _
  | n :: l, out => by
    have := potL_once p d l (once1 out n)
    have := potL_once1 p d out n
    rw [List.foldl_cons, potL]
    omega
theorem potL_front (p d : Nat) : ∀ (l out : List Node), potL p d (l.foldl front1 out) ≤ potL p d out + potL p d l
  | [], out => Nat.le_refl _
  | n :: l, out => by
    have h1 := potL_front p d l (front1 out n)
    have : potL p d (front1 out n) ≤ potL p d out + potS p d n.s := by
      unfold front1
      split
      · omega
      · have := potL_filter p d (fun a => !n.than a) out
        rw [potL_app]
        simp only [potL]
        omega
    rw [List.foldl_cons, potL]
    omega
theorem move_key {x : Inst} {p : Nat} {s : State} (hx : x.Fit p) (hp3 : p ≤ 3) (hg : Good x p s) {k : Nat} (h : (x.move s k).2.2 = true) :
    okJ p (keyM s) s.yard k = true ∧ potS p 0 (x.move s k).1 = 1 ∧ keyM (x.move s k).1 = (if k = 0 then keyM s else keyM s ||| 2 ^ (k - 1)) ∧ (x.move s k).1.yard = decide (k = 0) := by
  have hp := hx.pairs
  by_cases hk : k = 0
  · subst hk
    obtain ⟨h1, h2, h3, h4⟩ := move_home h
    simp only [Inst.stayB, Bool.or_eq_false_iff, decide_eq_false_iff_not] at h3
    have e0 : (((0 : Nat) : Int)) = 0 := rfl
    rw [e0, h4]
    refine ⟨?_, rfl, rfl, rfl⟩
    rw [okJ, if_pos rfl, State.yard, Bool.and_eq_true, List.all_eq_true]
    refine ⟨by simp [h3.1.1.1.1], fun i hi => ?_⟩
    have hi := List.mem_range.1 hi
    have hon := hg.on (i + 1) (by omega) (by omega)
    have : s.on = 0 := by omega
    rw [this, Nat.zero_testBit] at hon
    rw [keyM_bit s (by omega), keyM_bit s (by omega), show i + p + 1 = i + 1 + p by omega]
    revert hon
    cases s.must.testBit (i + 1) <;> cases s.must.testBit (i + 1 + p) <;> simp
  · obtain ⟨h1, h2, h3, h4, h5, h6, h7, h8⟩ := move_pos h (by omega)
    simp only [Inst.lateB, Bool.or_eq_false_iff] at h5
    have h50 := h5.1
    rw [has_testN (by omega)] at h50
    rw [h8]
    refine ⟨?_, rfl, ?_, by simp only [State.yard, Inst.rvisit]; rw [Bool.eq_iff_iff]; simp⟩
    · rw [okJ, if_neg hk]
      have e1 : (keyM s).testBit (k - 1) = s.must.testBit k := by rw [keyM_bit s (by omega), show k - 1 + 1 = k by omega]
      split
      · rw [e1, h50]; rfl
      · have h9 := h7 (by omega)
        simp only [Inst.emptyB, Bool.or_eq_false_iff, Bool.not_eq_false', decide_eq_false_iff_not] at h9
        have e2 : (k : Int) - x.pairs = ((k - p : Nat) : Int) := by omega
        have h10 := h9.2
        rw [e2, has_testN (by omega), hg.eq] at h10
        have e3 : (keyM s).testBit (k - 1 - p) = s.must.testBit (k - p) := by rw [keyM_bit s (by omega), show k - 1 - p + 1 = k - p by omega]
        rw [e1, h50, e3, h10, State.yard]
        simp [h9.1]
    · rw [if_neg hk]
      refine Nat.eq_of_testBit_eq fun i => ?_
      rw [Nat.testBit_or, Nat.testBit_two_pow]
      by_cases hi : i < 6
      · rw [keyM_bit _ hi, keyM_bit s hi]
        show (withN s.must k).testBit (i + 1) = _
        rw [with_bit (by omega)]
        have : decide (k = i + 1) = decide (k - 1 = i) := by rw [Bool.eq_iff_iff]; simp; omega
        rw [this]
      · have e : ∀ t : State, (keyM t).testBit i = false := fun t => by
          rw [keyM, show (64 : Nat) = 2 ^ 6 from rfl, Nat.testBit_mod_two_pow]
          simp [hi]
        rw [e, e]
        have : ¬ k - 1 = i := by omega
        simp [this]
theorem potL_canB (x : Inst) (p d : Nat) (n : Node) (f : Nat → Bool) (g : Nat → Nat) : ∀ (N : Nat), (∀ k < N, f k = true → potS p d (x.child n k).s ≤ g k) → potL p d ((canB f N).map (x.child n)) ≤ sumTo g N
  | 0, _ => Nat.le_refl _
  | N + 1, h => by
    have ih := potL_canB x p d n f g N fun k hk => h k (by omega)
    rw [canB, List.map_append, potL_app, sumTo]
    by_cases hf : f N = true
    · have := h N (by omega) hf
      rw [if_pos hf]
      simp only [List.map_cons, List.map_nil, potL]
      omega
    · rw [if_neg hf]
      simp only [List.map_nil, potL]
      omega
theorem pot_kids {x : Inst} {p : Nat} (hx : x.Fit p) (hp3 : p ≤ 3) (d : Nat) (up : Int) (n : Node) (hg : Good x p n.s) : potL p d (x.kids up n) ≤ potS p (d + 1) n.s := by
  refine Nat.le_trans (potL_filter p d _ _) ?_
  rw [moves_can]
  refine Nat.le_trans (potL_canB x p d n _ (fun j => if okJ p (keyM n.s) n.s.yard j = true then pot p d (if j = 0 then keyM n.s else keyM n.s ||| 2 ^ (j - 1)) (decide (j = 0)) else 0) _ ?_) ?_
  · intro k hk hf
    obtain ⟨h1, _, h2, h3⟩ := move_key hx hp3 hg hf
    show potS p d (x.move n.s k).1 ≤ _
    rw [if_pos h1, potS, h2, h3]
    exact Nat.le_refl _
  · rw [hx.len]
    exact Nat.le_max_right _ _
theorem pot_flat {x : Inst} {p : Nat} (hx : x.Fit p) (hp3 : p ≤ 3) (d : Nat) (up : Int) : ∀ (l : List Node), (∀ n ∈ l, Good x p n.s) → potL p d (l.flatMap (x.kids up)) ≤ potL p (d + 1) l
  | [], _ => Nat.le_refl _
  | n :: l, h => by
    have h1 := pot_kids hx hp3 d up n (h n List.mem_cons_self)
    have h2 := pot_flat hx hp3 d up l fun m hm => h m (List.mem_cons_of_mem _ hm)
    rw [List.flatMap_cons, potL_app, potL]
    omega
theorem pot_next {x : Inst} {p : Nat} (hx : x.Fit p) (hp3 : p ≤ 3) (d : Nat) (up : Int) {l : List Node} (h : ∀ n ∈ l, Good x p n.s) : potL p d (frontL (x.next l up)) ≤ potL p (d + 1) l := by
  have h1 := potL_front p d (x.next l up) []
  have h2 := potL_once p d (l.flatMap (x.kids up)) []
  have h3 := pot_flat hx hp3 d up l h
  rw [Inst.next, onceL] at h1
  simp only [potL] at h1 h2
  rw [Inst.next, onceL, frontL]
  omega
theorem good_next {x : Inst} {p : Nat} (hx : x.Fit p) {l : List Node} (h : ∀ n ∈ l, Good x p n.s) (up : Int) : ∀ m ∈ frontL (x.next l up), Good x p m.s := by
  intro m hm
  obtain ⟨n, hn, j, hj, rfl, _⟩ := next_mem ((front_inv _).sub m hm)
  exact (good_step hx (h n hn) (moves_mem hj)).1
/-- With at most three pairs, and levels of 132 nodes, all is looked at. -/
theorem exGo_all {x : Inst} {p : Nat} (hx : x.Fit p) (hp3 : p ≤ 3) {most : Int} (hm : 132 ≤ most) : ∀ (d : Nat) (st : Node × Bool × Int) (l : List Node) (n : Int), (∀ n ∈ l, Good x p n.s) → potL p d l ≤ 132 → (x.exGo most d st l n).2.2.1 = true
  | 0, _, _, _, _, _ => rfl
  | d + 1, st, l, n, hg, h => by
    rw [Inst.exGo]
    split
    · rfl
    have := potL_len p (d + 1) l
    rw [if_neg (by omega)]
    exact exGo_all hx hp3 hm d _ _ _ (good_next hx hg st.2.2) (Nat.le_trans (pot_next hx hp3 d st.2.2 hg) h)
theorem meas_root {x : Inst} {p : Nat} (hx : x.Fit p) (hm : x.may = true) : x.meas x.rootS ≤ 2 * p + 7 := by
  have hp := hx.pairs
  have hc := hx.cars
  unfold Inst.meas
  split
  · rw [Inst.rootS, if_pos hm]
    have h6 : ((List.range (2 * x.pairs.toNat + 1)).filter fun j : Nat => decide (1 ≤ j) && !hasB ({ State.zero with car := 1, time := (x.stop 0).ready } : State).must (j : Int)).length < ((List.range (2 * x.pairs.toNat + 1)).filter fun _ => true).length :=
      filter_lt _ (a := 0) (List.mem_range.2 (by omega)) rfl (by simp) (fun _ _ => rfl)
    rw [List.filter_eq_self.2 (fun _ _ => rfl), List.length_range] at h6
    refine Nat.le_trans (Nat.add_le_add (Nat.le_of_lt_succ h6) (Nat.le_refl _)) ?_
    show 2 * x.pairs.toNat + (x.cars - 1).toNat ≤ 2 * p + 7
    omega
  · omega
theorem exact_all {x : Inst} {p : Nat} (hx : x.Fit p) (hm : x.may = true) (hp3 : p ≤ 3) (up : Int) {most : Int} (h : 132 ≤ most) : (x.exact ⟨x.rootS, 0, []⟩ up most).2.2.1 = true := by
  refine exGo_all hx hp3 h _ _ _ _ (fun n hn => by rw [List.mem_singleton.1 hn]; exact good_root hx hm) ?_
  have h1 := meas_root hx hm
  have h2 := pot_root p (by omega) (x.meas x.rootS + 1) (by omega)
  have h3 : keyM x.rootS = 0 := by rw [Inst.rootS, if_pos hm]; simp [keyM, State.zero]
  have h4 : x.rootS.yard = true := by rw [Inst.rootS, if_pos hm]; simp [State.yard, State.zero]
  simp only [potL, potS]
  rw [h3, h4]
  omega
end Go.Proofs.Ytmmdnflngbkjnaa

/- The least cost of all ways, looked at alone. -/
set_option maxRecDepth 4000
namespace Go.Proofs.Ytmmdnflngbkjnaa
open Go Go.Proofs.Ytmmdnflngbkjnaa.R
def Inst.everyB (x : Inst) (s : State) : Int := if (x.endS s).2 = true then (x.endS s).1 else inf
def Inst.everyF (x : Inst) (f : State → Int) (s : State) : List Int → Int → Int
  | [], v => v
  | j :: l, v => x.everyF f s l (if f (x.move s j).1 < inf ∧ (x.move s j).2.1 + f (x.move s j).1 < v then (x.move s j).2.1 + f (x.move s j).1 else v)
def Inst.every (x : Inst) : Nat → State → Int
  | 0, s => x.everyB s
  | d + 1, s => x.everyF (x.every d) s (x.moves s) (x.everyB s)
theorem everyB_in (x : Inst) (s : State) : 0 ≤ x.everyB s ∧ x.everyB s ≤ inf := by
  have hinf : inf = 1152921504606846976 := rfl
  unfold Inst.everyB
  split
  · rename_i h
    have := end_cost h
    omega
  · omega
theorem everyF_in (x : Inst) {f : State → Int} (hf : ∀ t, 0 ≤ f t ∧ f t ≤ inf) (s : State) : ∀ (l : List Int) (v : Int), (∀ j ∈ l, (x.move s j).2.2 = true) → 0 ≤ v ∧ v ≤ inf → 0 ≤ x.everyF f s l v ∧ x.everyF f s l v ≤ inf
  | [], v, _, h => h
  | j :: l, v, hl, h => by
    rw [Inst.everyF]
    refine everyF_in x hf s l _ (fun i hi => hl i (List.mem_cons_of_mem _ hi)) ?_
    have h1 := move_cost (hl j List.mem_cons_self)
    have h2 := hf (x.move s j).1
    split <;> omega
theorem every_in (x : Inst) : ∀ (d : Nat) (s : State), 0 ≤ x.every d s ∧ x.every d s ≤ inf
  | 0, s => everyB_in x s
  | d + 1, s => everyF_in x (every_in x d) s _ _ (fun j hj => moves_mem hj) (everyB_in x s)
theorem low_everyB {x : Inst} {s : State} (hl : x.stops.length < 2 ^ 31) : lowP x.near s.can ≤ x.everyB s := by
  have hinf : inf = 1152921504606846976 := rfl
  unfold Inst.everyB
  split
  · rename_i h; exact low_end h
  · have h1 := lowP_in (near_le x) s.can
    have h2 := near_len x
    omega
theorem low_everyF {x : Inst} {f : State → Int} {s : State} (hs : s.seenAt) (hf : ∀ t, t.seenAt → lowP x.near t.can ≤ f t) : ∀ (l : List Int) (v : Int), (∀ j ∈ l, (x.move s j).2.2 = true) → lowP x.near s.can ≤ v → lowP x.near s.can ≤ x.everyF f s l v
  | [], v, _, h => h
  | j :: l, v, hl, h => by
    rw [Inst.everyF]
    refine low_everyF hs hf l _ (fun i hi => hl i (List.mem_cons_of_mem _ hi)) ?_
    have h1 := hl j List.mem_cons_self
    have h2 := low_step hs h1
    have h3 := hf _ (seen_step h1)
    split <;> omega
theorem low_every {x : Inst} (hl : x.stops.length < 2 ^ 31) : ∀ (d : Nat) (s : State), s.seenAt → lowP x.near s.can ≤ x.every d s
  | 0, s, _ => low_everyB hl
  | d + 1, s, hs => low_everyF hs (fun t ht => low_every hl d t ht) _ _ (fun j hj => moves_mem hj) (low_everyB hl)
theorem every_pure (x : Inst) (hl : x.stops.length < 2 ^ 31) : ∀ (d : Nat) (s : State), d < 2 ^ 62 → s.ok → Pure P 47 [x.a, s.a, .i d] (.i (x.every d s)) := by
  intro d
  induction d with
  | zero =>
    intro s _ ho
    have he := end_pure x s (by omega) ho
    show Pure P 47 [x.a, s.a, .i (0 : Nat)] (.i (x.everyB s))
    generalize hR : x.everyB s = R
    refine pure_of Try.func47 rfl rfl (by simp [Try.f47]) (by simp [bnd, bnd.bndL, Inst.a, State.a, State.cs]) (by simp [bnd, bnd.bndL]) fun B hB hnx => ?_
    simp only [Try.f47] at hB ⊢
    rw [Inst.everyB] at hR
    generalize x.endS s = E at *
    obtain ⟨c, is⟩ := E
    refine K_run hB 100 ?_
    simp [go_sem, Inst.a, State.a, State.cs]
    refine K_call rfl rfl rfl (args := [x.a, s.a]) (f := 20) (by simp [go_sem, Inst.a, State.a, State.cs]) (by simp [go_sem, hB]) ((he).spec _ _) ?_
    cases is with
    | false =>
      simp only [Bool.false_eq_true, if_false] at hR
      subst hR
      refine K_run hB 100 ?_
      simp [go_sem, inf]
    | true =>
      simp only [if_true] at hR
      subst hR
      refine K_run hB 100 ?_
      simp [go_sem]
  | succ d ih =>
    intro s hd ho
    have hinf : inf = 1152921504606846976 := rfl
    have he := end_pure x s (by omega) ho
    have hms := moves_pure x s (by omega) ho
    have hmv := fun j => move_pure x s j (by omega) ho
    have hmem : ∀ j ∈ x.moves s, (x.move s j).2.2 = true := fun j hj => moves_mem hj
    have hml := moves_len x s
    have hok := fun j => move_ok x j ho
    have hil : (ints (x.moves s)).length = (x.moves s).length := List.length_map _
    have hgt : ∀ (k : Nat) (h : k < (x.moves s).length), (ints (x.moves s))[k]'(by rw [hil]; exact h) = [.i ((x.moves s)[k])] := fun k h => ints_getS _ h
    have hb := everyB_in x s
    show Pure P 47 [x.a, s.a, .i (d + 1 : Nat)] (.i (x.everyF (x.every d) s (x.moves s) (x.everyB s)))
    generalize hR : x.everyF (x.every d) s (x.moves s) (x.everyB s) = R
    refine pure_of Try.func47 rfl rfl (by simp [Try.f47]) (by simp [bnd, bnd.bndL, Inst.a, State.a, State.cs]) (by simp [bnd, bnd.bndL]) fun B hB hnx => ?_
    simp only [Try.f47] at hB ⊢
    have hBe : (if (x.endS s).2 = true then (x.endS s).1 else inf) = x.everyB s := rfl
    generalize x.everyB s = v0 at *
    generalize x.endS s = E at *
    generalize hX : ints (x.moves s) = X at *
    generalize hL : x.moves s = L at *
    obtain ⟨c, is⟩ := E
    have hd1 : ¬ ((d : Int) + 1 ≤ 0) := by omega
    have w0 := w64 (d : Int) (by omega)
    have hd2 : (d : Int) + 1 - 1 = d := by omega
    refine K_run hB 100 ?_
    simp [go_sem, Inst.a, State.a, State.cs]
    refine K_call rfl rfl rfl (args := [x.a, s.a]) (f := 20) (by simp [go_sem, Inst.a, State.a, State.cs]) (by simp [go_sem, hB]) ((he).spec _ _) ?_
    cases is
    all_goals
      simp only [Bool.false_eq_true, if_false, if_true] at hBe
      refine K_run hB 100 ?_
      simp [go_sem, hd1]
      refine K_call rfl rfl rfl (args := [x.a, s.a]) (f := 48) (by simp [go_sem, Inst.a, State.a, State.cs]) (by simp [go_sem, hB]) ((hms).spec _ _) ?_
      refine K_run hB 100 ?_
      simp [go_sem]
      refine K_loopP (α := Nat × Int × (Nat → AObj) × Nat) (fun (k, v, σ, nx) => k ≤ L.length ∧ (0 ≤ v ∧ v ≤ inf) ∧ x.everyF (x.every d) s (L.drop k) v = R ∧ σ 0 = .box [.t (.i x.pairs), .t (.i x.cars), .t (.i x.room), .t (.sl (x.stops.map Stop.t))] ∧ σ 1 = .box s.cs ∧ 1 < nx)
        (fun (k, v, σ, nx) => ⟨sl [(2, .i ((d : Int) + 1)), (3, .ptr 0 0), (4, .ptr 1 0), (7, .i v), (10, .t (.sl X)), (11, .i k)], σ, nx⟩) (fun a => L.length - a.1) (0, v0, _, 2) ⟨Nat.zero_le _, hb, hR, by simp [oput], by simp [oput, State.cs], by omega⟩ (Imp.slots (by simp [go_sem, ← hBe, inf]) rfl rfl) ?_
      rintro ⟨k, v, σ, nx⟩ ⟨g1, g0, g5, g2, g3, g4⟩
      refine K_run hB 60 ?_
      simp [go_sem, hil]
      refine fork_dec (fun hk => ?_) (fun hk => ?_)
      · have hkk : IntKind.i64.wrap ((k : Int) + 1) = ((k + 1 : Nat) : Int) := by rw [w64 ((k : Int) + 1) (by omega)]; rfl
        have hget : ∀ h : k < X.length, X[k]'h = [.i L[k]] := fun h => hgt k hk
        rw [List.drop_eq_getElem_cons hk, Inst.everyF] at g5
        have hj := hmem L[k] (List.getElem_mem _)
        have h1 := move_cost hj
        have h2 := every_in x d (x.move s L[k]).1
        have h3 := ih (x.move s L[k]).1 (by omega) (hok _)
        have h4 := hmv L[k]
        generalize L[k] = j at *
        generalize x.move s j = V at *
        obtain ⟨t, c', is'⟩ := V
        simp only at h1 h2 h3 hj g5
        subst hj
        generalize x.every d t = m at *
        have w1 := w64 (c' + m) (by omega)
        simp [go_sem]
        refine K_drawnF [11, 12] [0, 1, 2, 3, 4, 5, 6, 7, 8, 9, 10] rfl (by rw [hB]; kernel_rfl) (by kernel_rfl) fun ht hf' => ?_
        refine K_run hB 100 ?_
        simp [go_sem, ht, hf', hil, hk, hget, g2, g3, State.cs]
        refine K_dCallP rfl rfl rfl (args := [x.a, s.a, .i j]) (f := 18) (by simp [go_sem, Inst.a, State.a, State.cs]) (h4) ?_
        refine K_run hB 100 ?_
        simp [go_sem, ht, hf', mv, State.a, State.cs, g2, g3, show ¬ 0 = nx by omega, show ¬ 1 = nx by omega, hd2, w0]
        refine K_call rfl rfl rfl (args := [x.a, t.a, .i d]) (f := 47) (by simp [go_sem, Inst.a, State.a, State.cs]) (by simp [go_sem, hB]) ((h3).spec _ _) ?_
        by_cases e1 : m < inf
        · by_cases e2 : c' + m < v
          · rw [if_pos ⟨e1, e2⟩] at g5
            rw [hinf] at e1
            refine K_run hB 100 ?_
            simp [go_sem, w1, e1, e2, hkk]
            refine Next.mk (k + 1, c' + m, _, nx + 1) ?_ (Imp.slots (by simp [go_sem]) rfl rfl) (by simp only; omega)
            refine ⟨by simp only; omega, by simp only; omega, g5, ?_, ?_, by simp only; omega⟩
            · simp [oput, show ¬ 0 = nx by omega, g2]
            · simp [oput, show ¬ 1 = nx by omega, g3, State.cs]
          · rw [if_neg (fun h => e2 h.2)] at g5
            rw [hinf] at e1
            refine K_run hB 100 ?_
            simp [go_sem, w1, e1, e2, hkk]
            refine Next.mk (k + 1, v, _, nx + 1) ?_ (Imp.slots (by simp [go_sem]) rfl rfl) (by simp only; omega)
            refine ⟨by simp only; omega, g0, g5, ?_, ?_, by simp only; omega⟩
            · simp [oput, show ¬ 0 = nx by omega, g2]
            · simp [oput, show ¬ 1 = nx by omega, g3, State.cs]
        · rw [if_neg (fun h => e1 h.1)] at g5
          rw [hinf] at e1
          refine K_run hB 100 ?_
          simp [go_sem, w1, e1, hkk]
          refine Next.mk (k + 1, v, _, nx + 1) ?_ (Imp.slots (by simp [go_sem]) rfl rfl) (by simp only; omega)
          refine ⟨by simp only; omega, g0, g5, ?_, ?_, by simp only; omega⟩
          · simp [oput, show ¬ 0 = nx by omega, g2]
          · simp [oput, show ¬ 1 = nx by omega, g3, State.cs]
      · have : k = L.length := by omega
        subst this
        rw [List.drop_length, Inst.everyF] at g5
        simp [go_sem, g5]
/-- How many moves a plan may have. -/
def Inst.deepN (x : Inst) : Nat := (2 * x.pairs + x.cars - 1).toNat
def Inst.everyAll (x : Inst) : Int := x.every x.deepN x.rootS
theorem everyAll_pure (x : Inst) (hm : x.may = true) : Pure P 27 [x.a] (.i x.everyAll) := by
  obtain ⟨p, hx⟩ := x.fit hm
  have hlen := hx.len
  have hfew := hx.few
  have hp := hx.pairs
  have hcar := hx.cars
  have hev := every_pure x (by omega) x.deepN x.rootS (by unfold Inst.deepN; omega) (rootS_ok x)
  have hr := root_pureS x (by omega)
  have hde : (x.deepN : Int) = 2 * x.pairs + x.cars - 1 := by unfold Inst.deepN; omega
  rw [hde] at hev
  have w1 := w64 (2 * x.pairs) (by omega)
  have w2 := w64 (2 * x.pairs + x.cars) (by omega)
  have w3 := w64 (2 * x.pairs + x.cars - 1) (by omega)
  unfold Inst.everyAll
  generalize x.every x.deepN x.rootS = R at *
  generalize x.rootS = r at *
  refine pure_of Try.func27 rfl rfl (by simp [Try.f27]) (by simp [bnd, bnd.bndL, Inst.a]) (by simp [bnd, bnd.bndL]) fun B hB hnx => ?_
  simp only [Try.f27] at hB ⊢
  refine K_run hB 100 ?_
  simp [go_sem, Inst.a]
  refine K_drawn [] rfl (by rw [hB]; kernel_rfl) ?_
  refine K_run hB 100 ?_
  simp [go_sem]
  refine K_dCallP rfl rfl rfl (args := [x.a]) (f := 33) (by simp [go_sem, Inst.a]) (hr) ?_
  refine K_run hB 100 ?_
  simp [go_sem, w1, w2, w3]
  refine K_dCallP rfl rfl rfl (args := [x.a, r.a, .i (2 * x.pairs + x.cars - 1)]) (f := 47) (by simp [go_sem, Inst.a, State.a, State.cs]) (hev) ?_
  refine K_run hB 100 ?_
  simp [go_sem]
end Go.Proofs.Ytmmdnflngbkjnaa

/- What is found by looking at all levels, and at each way alone: the law. -/
set_option maxRecDepth 4000
namespace Go.Proofs.Ytmmdnflngbkjnaa
open Go Go.Proofs.Ytmmdnflngbkjnaa.R
theorem everyF_le (x : Inst) (f : State → Int) (s : State) : ∀ (l : List Int) (v : Int), x.everyF f s l v ≤ v
  | [], v => Int.le_refl _
  | j :: l, v => by
    rw [Inst.everyF]
    refine Int.le_trans (everyF_le x f s l _) ?_
    split <;> omega
theorem everyF_has (x : Inst) (f : State → Int) (s : State) {j : Int} (hf : f (x.move s j).1 < inf) : ∀ (l : List Int) (v : Int), j ∈ l → x.everyF f s l v ≤ (x.move s j).2.1 + f (x.move s j).1
  | i :: l, v, h => by
    rw [Inst.everyF]
    rcases List.mem_cons.1 h with rfl | h
    · refine Int.le_trans (everyF_le x f s l _) ?_
      split <;> omega
    · exact everyF_has x f s hf l _ h
theorem everyF_from (x : Inst) (f : State → Int) (s : State) : ∀ (l : List Int) (v : Int), x.everyF f s l v = v ∨ ∃ j ∈ l, f (x.move s j).1 < inf ∧ x.everyF f s l v = (x.move s j).2.1 + f (x.move s j).1
  | [], v => .inl rfl
  | i :: l, v => by
    rw [Inst.everyF]
    rcases everyF_from x f s l (if f (x.move s i).1 < inf ∧ (x.move s i).2.1 + f (x.move s i).1 < v then (x.move s i).2.1 + f (x.move s i).1 else v) with h | ⟨j, hj, h1, h2⟩
    · rw [h]
      split
      · rename_i hc
        exact .inr ⟨i, List.mem_cons_self, hc.1, rfl⟩
      · exact .inl rfl
    · exact .inr ⟨j, List.mem_cons_of_mem _ hj, h1, h2⟩
theorem every_from (x : Inst) : ∀ (d : Nat) (s : State), x.every d s < inf → ∃ w, x.way w s (x.every d s)
  | 0, s, h => by
    rw [Inst.every, Inst.everyB] at h ⊢
    split at h
    · rename_i hc
      rw [if_pos hc]
      exact ⟨[], hc, rfl⟩
    · omega
  | d + 1, s, h => by
    rw [Inst.every] at h ⊢
    rcases everyF_from x (x.every d) s (x.moves s) (x.everyB s) with e | ⟨j, hj, h1, h2⟩
    · rw [e] at h ⊢
      rw [Inst.everyB] at h ⊢
      split at h
      · rename_i hc
        rw [if_pos hc]
        exact ⟨[], hc, rfl⟩
      · omega
    · rw [h2]
      obtain ⟨w, hw⟩ := every_from x d _ h1
      exact ⟨j :: w, moves_mem hj, _, hw, rfl⟩
theorem every_has (x : Inst) : ∀ (d : Nat) {w : List Int} {s : State} {c : Int}, x.way w s c → w.length ≤ d → d ≤ 1000 → x.every d s ≤ c
  | 0, [], s, c, h, _, _ => by
    rw [Inst.every, Inst.everyB, if_pos h.1, h.2]
    exact Int.le_refl _
  | d + 1, [], s, c, h, _, _ => by
    rw [Inst.every]
    have := everyF_le x (x.every d) s (x.moves s) (x.everyB s)
    rw [Inst.everyB, if_pos h.1] at this
    rw [Inst.everyB, if_pos h.1, h.2]
    exact this
  | d + 1, j :: w, s, c, h, hl, hd => by
    obtain ⟨h1, e, h2, h3⟩ := h
    rw [Inst.every]
    rw [List.length_cons] at hl
    have ih := every_has x d h2 (by omega) (by omega)
    have hi := way_in h2
    have hinf : inf = 1152921504606846976 := rfl
    have := everyF_has x (x.every d) s (j := j) (by omega) (x.moves s) (x.everyB s) (mem_moves h1)
    omega
theorem way_root_len {x : Inst} {p : Nat} (hx : x.Fit p) (hm : x.may = true) {w : List Int} {c : Int} (h : x.way w x.rootS c) : w.length ≤ x.deepN := by
  have h1 := way_len h
  have hp := hx.pairs
  have hc := hx.cars
  have h2 : x.meas x.rootS ≤ 2 * p + (x.cars - 1).toNat := by
    unfold Inst.meas
    split
    · rw [Inst.rootS, if_pos hm]
      have h6 : ((List.range (2 * x.pairs.toNat + 1)).filter fun j : Nat => decide (1 ≤ j) && !hasB ({ State.zero with car := 1, time := (x.stop 0).ready } : State).must (j : Int)).length < ((List.range (2 * x.pairs.toNat + 1)).filter fun _ => true).length :=
        filter_lt _ (a := 0) (List.mem_range.2 (by omega)) rfl (by simp) (fun _ _ => rfl)
      rw [List.filter_eq_self.2 (fun _ _ => rfl), List.length_range] at h6
      refine Nat.le_trans (Nat.add_le_add (Nat.le_of_lt_succ h6) (Nat.le_refl _)) ?_
      show 2 * x.pairs.toNat + (x.cars - 1).toNat ≤ 2 * p + (x.cars - 1).toNat
      omega
    · omega
  unfold Inst.deepN
  omega
/-- What is found without a bound, if all was looked at. -/
theorem every_plain {x : Inst} (hm : x.may = true) {most : Int} (hall : (x.exact x.rootN inf most).2.2.1 = true) :
    (x.exact x.rootN inf most).2.1 = decide (x.everyAll < inf) ∧ ((x.exact x.rootN inf most).2.1 = true → (x.exact x.rootN inf most).1.cost = x.everyAll) := by
  obtain ⟨p, hx⟩ := x.fit hm
  have hlen := hx.len
  have hfew := hx.few
  have hp := hx.pairs
  have hc := hx.cars
  have hz : x.rootN.cost = 0 := rfl
  have hdn : x.deepN ≤ 1000 := by unfold Inst.deepN; omega
  have hfrom := exact_from (x := x) (n := x.rootN) (up := inf) (most := most) (rootS_ok x) (pos_root hm) (seen_root x) (by simp [Inst.rootN])
  have hhas := fun w c => exact_has (x := x) (by omega) (n := x.rootN) (up := inf) (most := most) (rootS_ok x) (pos_root hm) (seen_root x) (by simp [Inst.rootN]) hall (w := w) (c := c)
  cases hq : (x.exact x.rootN inf most).2.1 with
  | true =>
    obtain ⟨w, c, g1, g2, _, g3⟩ := hfrom hq
    have h1 := every_has x x.deepN g1 (way_root_len hx hm g1) hdn
    have h2 : x.everyAll ≤ c := h1
    obtain ⟨w', h3⟩ := every_from x x.deepN x.rootS (by show x.everyAll < inf; omega)
    have h4 := hhas w' x.everyAll h3 (by omega)
    refine ⟨(decide_eq_true (by omega)).symm, fun _ => by omega⟩
  | false =>
    refine ⟨(decide_eq_false fun h => ?_).symm, fun h => by cases h⟩
    obtain ⟨w', h3⟩ := every_from x x.deepN x.rootS h
    have h4 := (hhas w' x.everyAll h3 (by omega)).1
    rw [hq] at h4
    cases h4
theorem levery_pure (x : Inst) (hl : x.stops.length < 2 ^ 63) : Pure P 8 [x.a] (.b true) := by
  refine pure_of Try.func8 rfl rfl (by simp [Try.f8]) (by simp [bnd, bnd.bndL, Inst.a]) (by simp [bnd, bnd.bndL]) fun B hB hnx => ?_
  simp only [Try.f8] at hB ⊢
  refine K_run hB 100 ?_
  simp [go_sem, Inst.a]
  refine K_call rfl rfl rfl (args := []) (f := 22) (by simp [go_sem]) (by simp [go_sem, hB]) ((awake15_pure).spec _ _) ?_
  by_cases c1 : 5 < (x.stops.length : Int)
  · refine K_run hB 100 ?_
    simp [go_sem, c1]
  refine K_run hB 100 ?_
  simp [go_sem, c1]
  refine K_call rfl rfl rfl (args := [x.a]) (f := 25) (by simp [go_sem, Inst.a]) (by simp [go_sem, hB]) ((may_pure x hl).spec _ _) ?_
  cases hmay : x.may with
  | false =>
    refine K_run hB 100 ?_
    simp [go_sem]
  | true =>
    obtain ⟨p, hx⟩ := x.fit hmay
    have hlen := hx.len
    have h0 := rootN_pure x hl
    have h1 := best_pure x x.rootN 1152921504606846976 1000 (by omega) (by omega) (rootS_ok x) (by simp [Inst.rootN])
    have h2 := everyAll_pure x hmay
    have q0 : (x.exact x.rootN 1152921504606846976 1000).2.2.1 = true := exact_all hx hmay (by omega) _ (by omega)
    obtain ⟨q1, q2⟩ := every_plain hmay (most := 1000) q0
    have hinf : inf = 1152921504606846976 := rfl
    rw [hinf] at q1 q2
    generalize x.rootN = rn at *
    generalize x.everyAll = ev at *
    generalize x.exact rn 1152921504606846976 1000 = A at *
    obtain ⟨m, a, b, i⟩ := A
    simp only at q0 q1 q2
    subst q0 q1
    refine K_run hB 100 ?_
    simp [go_sem, Inst.a]
    refine K_drawnF [9, 10] [0, 1, 2, 3, 4, 5, 6, 7, 8] rfl (by rw [hB]; kernel_rfl) (by kernel_rfl) fun ht hf' => ?_
    refine K_run hB 100 ?_
    simp [go_sem, ht, hf']
    refine K_dCallP rfl rfl rfl (args := [x.a]) (f := 26) (by simp [go_sem, Inst.a]) (h0) ?_
    refine K_run hB 100 ?_
    simp [go_sem, ht, hf', Node.a, Node.cs]
    refine K_dCallP rfl rfl rfl (args := [x.a, rn.a, .i 1152921504606846976, .i 1000]) (f := 23) (by simp [go_sem, Inst.a, Node.a, Node.cs]) (h1) ?_
    refine K_run hB 100 ?_
    simp [go_sem, ht, hf', exRes4, Node.a, Node.cs]
    refine K_call rfl rfl rfl (args := [x.a]) (f := 27) (by simp [go_sem, Inst.a]) (by simp [go_sem, hB]) ((h2).spec _ _) ?_
    by_cases c2 : ev < 1152921504606846976
    · have q3 := q2 (by simpa using c2)
      refine K_run hB 100 ?_
      simp [go_sem, c2, q3]
    · refine K_run hB 100 ?_
      simp [go_sem, c2]
end Go.Proofs.Ytmmdnflngbkjnaa
