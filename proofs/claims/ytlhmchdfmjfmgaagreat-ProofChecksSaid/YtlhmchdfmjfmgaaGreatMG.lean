/- Parts of the proof: Law12b, Once2, OnceR, Expand, Expand2, Law14, FrontP, Sorted, ExactP, Narrow, Ways, Find, Pot, NarrowP, PfS, PfT, PfF, Rep, PfK, Law20, FrontR, PfR, PfR2, PfD, PfE, Law20b. -/
import Derived.Test.YtlhmchdfmjfmgaaGreatMF
set_option linter.unusedVariables false
/- BoundWays: what the law gives. -/
set_option maxRecDepth 4000
namespace Go.Proofs.YtlhmchdfmjfmgaaGreat
open Go Go.Proofs.YtlhmchdfmjfmgaaGreat.R
theorem sumI_two {a b : Int} (ha : 0 ≤ a) (hb : 0 ≤ b) (h : a + b ≤ 1152921504606846976) : sumI [a, b] = a + b := by
  simp only [sumI, List.foldl_cons, List.foldl_nil, sum1]
  omega
/-- Moves that can be followed: as costs that don't grow too great. -/
theorem goes_app (x : Inst) : ∀ (l m : List Int) (s : State) (c : Int), x.goes (l ++ m) s c = (x.goes l s c).bind fun r => x.goes m r.1 r.2
  | [], m, s, c => rfl
  | j :: l, m, s, c => by
    rw [List.cons_append, Inst.goes, Inst.goes]
    split
    · exact goes_app x l m _ _
    · rfl
end Go.Proofs.YtlhmchdfmjfmgaaGreat

/- Once of each state: the program's, by a map. -/
set_option maxRecDepth 4000
namespace Go.Proofs.YtlhmchdfmjfmgaaGreat
open Go Go.Proofs.YtlhmchdfmjfmgaaGreat.R
def sIdx (s : State) : List Node → Option Nat
  | [] => none
  | m :: l => if m.s = s then some 0 else (sIdx s l).map (· + 1)
def once1 (out : List Node) (n : Node) : List Node := match sIdx n.s out with
  | none => out ++ [n]
  | some i => if n.cost < (out.getD i n).cost then out.set i n else out
def onceL (l : List Node) : List Node := l.foldl once1 []
def State.v (s : State) : Value := .agg #[.int .i64 s.spot, .int .i64 s.car, .int .i64 s.time, .int .i64 s.load, .int .i64 s.first, .int .u64 s.must, .int .u64 s.can, .int .u64 s.on]
theorem State.plain (s : State) : plainA s.a = some s.v := rfl
/-- Nodes as they may be. -/
structure Node.Fine (n : Node) : Prop where
  ok : n.s.ok
  len : n.path.length < 2 ^ 31
end Go.Proofs.YtlhmchdfmjfmgaaGreat

/- Once of each state: the document's; whether two lists of nodes are the same; few. -/
set_option maxRecDepth 4000
namespace Go.Proofs.YtlhmchdfmjfmgaaGreat
open Go Go.Proofs.YtlhmchdfmjfmgaaGreat.R
def fewB (l : List Node) : Bool := decide (l.length ≤ 60) && l.all fun n => decide (n.path.length ≤ 100)
end Go.Proofs.YtlhmchdfmjfmgaaGreat

/- The nodes behind all moves of one: the iterator. -/
set_option maxRecDepth 4000
namespace Go.Proofs.YtlhmchdfmjfmgaaGreat
open Go Go.Proofs.YtlhmchdfmjfmgaaGreat.R
def Inst.child (x : Inst) (n : Node) (j : Int) : Node := ⟨(x.move n.s j).1, sumI [n.cost, (x.move n.s j).2.1], n.path ++ [j]⟩
end Go.Proofs.YtlhmchdfmjfmgaaGreat

/- All moves of some nodes, and the best one that can be ended. -/
set_option maxRecDepth 4000
namespace Go.Proofs.YtlhmchdfmjfmgaaGreat
open Go Go.Proofs.YtlhmchdfmjfmgaaGreat.R
def Inst.kids (x : Inst) (up : Int) (n : Node) : List Node := ((x.moves n.s).map (x.child n)).filter fun c => decide (x.of c < up)
def Node.zero : Node := ⟨State.zero, 0, []⟩
def Inst.best1 (x : Inst) (b : Node × Bool) (n : Node) : Node × Bool :=
  if (x.endS n.s).2 = true ∧ (b.2 = false ∨ sumI [n.cost, (x.endS n.s).1] < b.1.cost) then ({ n with cost := sumI [n.cost, (x.endS n.s).1] }, true) else b
def Inst.bests (x : Inst) (l : List Node) : Node × Bool := l.foldl x.best1 (Node.zero, false)
def Inst.next (x : Inst) (l : List Node) (up : Int) : List Node := onceL (l.flatMap (x.kids up))
end Go.Proofs.YtlhmchdfmjfmgaaGreat

/- The law of a level's next one. -/
set_option maxRecDepth 4000
namespace Go.Proofs.YtlhmchdfmjfmgaaGreat
open Go Go.Proofs.YtlhmchdfmjfmgaaGreat.R
theorem once1_mem {out : List Node} {n m : Node} (h : m ∈ once1 out n) : m ∈ out ∨ m = n := by
  unfold once1 at h
  split at h
  · rcases List.mem_append.1 h with h | h
    · exact .inl h
    · exact .inr (List.mem_singleton.1 h)
  · split at h
    · exact List.mem_or_eq_of_mem_set h
    · exact .inl h
theorem fold_mem : ∀ (l out : List Node) {m : Node}, m ∈ l.foldl once1 out → m ∈ out ∨ m ∈ l
  | [], out, m, h => .inl h
  | n :: l, out, m, h => by
    rcases fold_mem l (once1 out n) h with h | h
    · rcases once1_mem h with h | rfl
      · exact .inl h
      · exact .inr List.mem_cons_self
    · exact .inr (List.mem_cons_of_mem _ h)
theorem onceL_mem {l : List Node} {m : Node} (h : m ∈ onceL l) : m ∈ l := (fold_mem l [] h).resolve_left (by simp)
theorem next_mem {x : Inst} {l : List Node} {up : Int} {m : Node} (h : m ∈ x.next l up) : ∃ n ∈ l, ∃ j ∈ x.moves n.s, m = x.child n j ∧ x.of m < up := by
  obtain ⟨n, hn, hc⟩ := List.mem_flatMap.1 (onceL_mem h)
  obtain ⟨hc, hu⟩ := List.mem_filter.1 hc
  obtain ⟨j, hj, rfl⟩ := List.mem_map.1 hc
  exact ⟨n, hn, j, hj, rfl, by simpa using hu⟩
end Go.Proofs.YtlhmchdfmjfmgaaGreat

/- Nodes that no other one leaves without use: the plain laws. -/
set_option maxRecDepth 4000
namespace Go.Proofs.YtlhmchdfmjfmgaaGreat
open Go Go.Proofs.YtlhmchdfmjfmgaaGreat.R
theorem within_refl (s : Nat) : withinB s s = true := by
  rw [withinB, List.all_eq_true]
  intro i _
  cases s.testBit i <;> rfl
theorem within_trans {s t u : Nat} (h1 : withinB s t = true) (h2 : withinB t u = true) : withinB s u = true := by
  rw [withinB, List.all_eq_true] at *
  intro i hi
  have a := h1 i hi
  have b := h2 i hi
  revert a b
  cases s.testBit i <;> cases t.testBit i <;> cases u.testBit i <;> simp
def Node.than (a b : Node) : Bool := decide (a.cost ≤ b.cost) && (decide (a.s.must = b.s.must) && decide (a.s.can = b.s.can) && decide (a.s.on = b.s.on)) && coversB a.s b.s
theorem covers_refl (s : State) : coversB s s = true := by
  simp [coversB, within_refl]
theorem covers_trans {a b c : State} (h1 : coversB a b = true) (h2 : coversB b c = true) : coversB a c = true := by
  simp only [coversB, Bool.and_eq_true, decide_eq_true_eq] at *
  obtain ⟨⟨⟨⟨⟨⟨⟨a1, a2⟩, a3⟩, a4⟩, a5⟩, a6⟩, a7⟩, a8⟩ := h1
  obtain ⟨⟨⟨⟨⟨⟨⟨b1, b2⟩, b3⟩, b4⟩, b5⟩, b6⟩, b7⟩, b8⟩ := h2
  exact ⟨⟨⟨⟨⟨⟨⟨a1.trans b1, within_trans a2 b2⟩, within_trans a3 b3⟩, within_trans b4 a4⟩, by omega⟩, by omega⟩, by omega⟩, by omega⟩
theorem than_refl (a : Node) : a.than a = true := by simp [Node.than, covers_refl]
theorem than_trans {a b c : Node} (h1 : a.than b = true) (h2 : b.than c = true) : a.than c = true := by
  simp only [Node.than, Bool.and_eq_true, decide_eq_true_eq] at *
  obtain ⟨⟨a1, ⟨a2, a3⟩, a4⟩, a5⟩ := h1
  obtain ⟨⟨b1, ⟨b2, b3⟩, b4⟩, b5⟩ := h2
  exact ⟨⟨by omega, ⟨by omega, by omega⟩, by omega⟩, covers_trans a5 b5⟩
def front1 (out : List Node) (b : Node) : List Node := if out.any (fun a => a.than b) = true then out else (out.filter fun a => !b.than a) ++ [b]
def frontL (l : List Node) : List Node := l.foldl front1 []
def blk (pre : List Node) (b : Node) (post : List Node) : Bool := pre.any (fun a => a.than b) || post.any fun c => c.than b && !b.than c
def frR (pre : List Node) : List Node → List Node → List Node
  | [], _ => []
  | b :: l, post => (if blk pre b (l ++ post) = true then [] else [b]) ++ frR (pre ++ [b]) l post
theorem frR_post (c : Node) : ∀ (l pre : List Node), frR pre l [c] = (frR pre l []).filter fun b => !(c.than b && !b.than c)
  | [], pre => rfl
  | b :: l, pre => by
    rw [frR, frR, List.filter_append, frR_post c l]
    congr 1
    have : blk pre b (l ++ [c]) = (blk pre b (l ++ []) || (c.than b && !b.than c)) := by
      simp [blk, Bool.or_assoc]
    rw [this]
    generalize hq : (c.than b && !b.than c) = q
    cases blk pre b (l ++ []) <;> cases q <;> simp only [Bool.or_true, Bool.or_false, Bool.false_eq_true, if_true, if_false, List.filter_cons, List.filter_nil, hq, Bool.not_true, Bool.not_false]
theorem frR_app (c : Node) : ∀ (l pre : List Node), frR pre (l ++ [c]) [] = frR pre l [c] ++ (if (pre ++ l).any (fun a => a.than c) = true then [] else [c])
  | [], pre => by simp [frR, blk]
  | b :: l, pre => by
    rw [List.cons_append, frR, frR, frR_app c l, List.append_nil, List.append_assoc, List.append_assoc]
    simp
structure FrInv (pre F : List Node) : Prop where
  up : ∀ a ∈ pre, ∃ f ∈ F, f.than a = true
  sub : ∀ f ∈ F, f ∈ pre
  one : ∀ f ∈ F, ∀ b ∈ F, f.than b = true → f = b
  eq : F = frR [] pre []
theorem FrInv.step {pre F : List Node} (h : FrInv pre F) (c : Node) : FrInv (pre ++ [c]) (front1 F c) := by
  have hany : pre.any (fun a => a.than c) = F.any fun a => a.than c := by
    rw [Bool.eq_iff_iff, List.any_eq_true, List.any_eq_true]
    constructor
    · rintro ⟨a, ha, hc⟩
      obtain ⟨f, hf, hfa⟩ := h.up a ha
      exact ⟨f, hf, than_trans hfa hc⟩
    · rintro ⟨f, hf, hc⟩
      exact ⟨f, h.sub f hf, hc⟩
  have he : frR [] (pre ++ [c]) [] = front1 F c := by
    rw [frR_app, frR_post, ← h.eq, List.nil_append, hany]
    unfold front1
    by_cases hc : F.any (fun a => a.than c) = true
    · rw [if_pos hc, if_pos hc, List.append_nil]
      rw [List.filter_eq_self]
      intro b hb
      rw [List.any_eq_true] at hc
      obtain ⟨f, hf, hfc⟩ := hc
      cases h1 : c.than b with
      | false => rfl
      | true =>
        have := h.one f hf b hb (than_trans hfc h1)
        subst this
        simp [hfc]
    · rw [if_neg hc, if_neg hc]
      congr 1
      refine List.filter_congr fun b hb => ?_
      have : b.than c = false := by
        cases h1 : b.than c with
        | false => rfl
        | true => exact absurd (List.any_eq_true.2 ⟨b, hb, h1⟩) hc
      simp [this]
  refine ⟨?_, ?_, ?_, he.symm⟩
  · intro a ha
    unfold front1
    split
    · rename_i hc
      rcases List.mem_append.1 ha with ha | ha
      · exact h.up a ha
      · rw [List.mem_singleton.1 ha]
        obtain ⟨f, hf, hfc⟩ := List.any_eq_true.1 hc
        exact ⟨f, hf, hfc⟩
    · rcases List.mem_append.1 ha with ha | ha
      · obtain ⟨f, hf, hfa⟩ := h.up a ha
        cases h1 : c.than f with
        | true => exact ⟨c, by simp, than_trans h1 hfa⟩
        | false => exact ⟨f, List.mem_append_left _ (List.mem_filter.2 ⟨hf, by simp [h1]⟩), hfa⟩
      · rw [List.mem_singleton.1 ha]
        exact ⟨c, by simp, than_refl c⟩
  · intro f hf
    unfold front1 at hf
    split at hf
    · exact List.mem_append_left _ (h.sub f hf)
    · rcases List.mem_append.1 hf with hf | hf
      · exact List.mem_append_left _ (h.sub f (List.mem_filter.1 hf).1)
      · exact List.mem_append_right _ hf
  · intro f hf b hb hfb
    unfold front1 at hf hb
    split at hf
    · rename_i hc
      rw [if_pos hc] at hb
      exact h.one f hf b hb hfb
    · rename_i hc
      rw [if_neg hc] at hb
      rcases List.mem_append.1 hf with hf | hf <;> rcases List.mem_append.1 hb with hb | hb
      · exact h.one f (List.mem_filter.1 hf).1 b (List.mem_filter.1 hb).1 hfb
      · rw [List.mem_singleton.1 hb] at hfb
        exact absurd (List.any_eq_true.2 ⟨f, (List.mem_filter.1 hf).1, hfb⟩) hc
      · rw [List.mem_singleton.1 hf] at hfb
        have := (List.mem_filter.1 hb).2
        rw [hfb] at this
        cases this
      · rw [List.mem_singleton.1 hf, List.mem_singleton.1 hb]
theorem FrInv.fold : ∀ {l pre F : List Node}, FrInv pre F → FrInv (pre ++ l) (l.foldl front1 F)
  | [], pre, F, h => by rw [List.append_nil]; exact h
  | c :: l, pre, F, h => by
    have := (h.step c).fold (l := l)
    rw [List.append_assoc] at this
    exact this
theorem front_inv (l : List Node) : FrInv l (frontL l) := by
  have : FrInv [] [] := ⟨by simp, by simp, by simp, rfl⟩
  exact this.fold (l := l)
end Go.Proofs.YtlhmchdfmjfmgaaGreat

/- Nodes in the order of what they cost at least: level.Sorted. -/
set_option maxRecDepth 4000
set_option maxHeartbeats 1000000
namespace Go.Proofs.YtlhmchdfmjfmgaaGreat
open Go Go.Proofs.YtlhmchdfmjfmgaaGreat.R
/-- Nodes in the order of what they cost at least; those that cost the same stay as they stood. -/
def Inst.sortN (x : Inst) (l : List Node) : List Node := isort x.of l
theorem Inst.sortN_mem {x : Inst} {l : List Node} {n : Node} : n ∈ x.sortN l ↔ n ∈ l := isort_mem
end Go.Proofs.YtlhmchdfmjfmgaaGreat

/- Looking at all: the plain part. -/
set_option maxRecDepth 4000
namespace Go.Proofs.YtlhmchdfmjfmgaaGreat
open Go Go.Proofs.YtlhmchdfmjfmgaaGreat.R
def Inst.base (x : Inst) (s : State) : Nat := ((List.range (2 * x.pairs.toNat + 1)).filter fun j : Nat => decide (1 ≤ j) && !hasB s.must (j : Int)).length + (x.cars - s.car).toNat
theorem base_move {x : Inst} {s : State} {j : Int} (h : (x.move s j).2.2 = true) : x.base (x.move s j).1 < x.base s := by
  by_cases e : j = 0
  · subst e
    obtain ⟨_, _, h3, h4⟩ := move_home h
    rw [h4]
    simp only [Inst.stayB, Bool.or_eq_false_iff, decide_eq_false_iff_not] at h3
    simp only [Inst.base, Inst.homeS]
    have := h3.1.1.2
    omega
  · obtain ⟨h1, h2, h3, h4, h5, _, _, h6⟩ := move_pos h e
    obtain ⟨p, hx⟩ := x.fit h1
    have := hx.few
    have := hx.pairs
    rw [h6]
    simp only [Inst.lateB, Bool.or_eq_false_iff] at h5
    simp only [Inst.base, Inst.rvisit]
    obtain ⟨k, rfl⟩ : ∃ k : Nat, j = k := ⟨j.toNat, by omega⟩
    refine Nat.add_lt_add_right (filter_lt _ (a := k) (List.mem_range.2 (by omega)) ?_ ?_ ?_) _
    · rw [h5.1]
      simp only [Bool.not_false, Bool.and_true, decide_eq_true_eq]
      omega
    · rw [has_withN (by omega)]
      simp
    · intro b
      rw [has_withN (by omega)]
      simp only [Bool.and_eq_true, Bool.not_eq_true', Bool.or_eq_false_iff]
      exact fun h => ⟨h.1, h.2.1⟩
def Inst.meas (x : Inst) (s : State) : Nat := if x.may = true ∧ s.mayB x = true then x.base s else 0
theorem move_may {x : Inst} {s : State} {j : Int} (h : (x.move s j).2.2 = true) : x.may = true ∧ s.mayB x = true := by
  by_cases e : j = 0
  · subst e
    exact ⟨(move_home h).1, (move_home h).2.1⟩
  · exact ⟨(move_pos h e).1, (move_pos h e).2.1⟩
theorem meas_move {x : Inst} {s : State} {j : Int} (h : (x.move s j).2.2 = true) : x.meas (x.move s j).1 < x.meas s := by
  have h1 := base_move h
  have h2 := move_may h
  have : x.meas (x.move s j).1 ≤ x.base (x.move s j).1 := by
    unfold Inst.meas
    split <;> omega
  have : x.meas s = x.base s := by rw [Inst.meas, if_pos h2]
  omega
def Inst.look (x : Inst) (st : Node × Bool × Int) (l : List Node) : Node × Bool × Int :=
  if (x.bests l).2 = true ∧ (x.bests l).1.cost < st.2.2 then ((x.bests l).1, true, (x.bests l).1.cost) else st
def Inst.exGo (x : Inst) (most : Int) : Nat → Node × Bool × Int → List Node → Int → Node × Bool × Bool × Int
  | 0, st, _, n => (st.1, st.2.1, true, n)
  | d + 1, st, l, n => if l.length = 0 then (st.1, st.2.1, true, n) else if most < l.length then (st.1, st.2.1, false, n) else
    x.exGo most d (x.look st l) (frontL (x.next l st.2.2)) (IntKind.i64.wrap (n + l.length))
def Inst.exact (x : Inst) (n : Node) (up most : Int) : Node × Bool × Bool × Int := x.exGo most (x.meas n.s + 1) (Node.zero, false, up) [n] 0
/-- What holds of a level. -/
structure Level (x : Inst) (l : List Node) (d K : Nat) : Prop where
  ok : ∀ n ∈ l, n.s.ok
  deep : ∀ n ∈ l, x.meas n.s < d
  path : ∀ n ∈ l, n.path.length + d ≤ K
theorem Level.next {x : Inst} {l : List Node} {d K : Nat} (h : Level x l (d + 1) K) (up : Int) : Level x (frontL (x.next l up)) d K := by
  have key : ∀ m ∈ frontL (x.next l up), ∃ n ∈ l, ∃ j, (x.move n.s j).2.2 = true ∧ m = x.child n j := by
    intro m hm
    obtain ⟨n, hn, j, hj, e, _⟩ := next_mem ((front_inv _).sub m hm)
    exact ⟨n, hn, j, moves_mem hj, e⟩
  refine ⟨?_, ?_, ?_⟩
  · intro m hm
    obtain ⟨n, hn, j, hj, rfl⟩ := key m hm
    exact move_ok x j (h.ok n hn)
  · intro m hm
    obtain ⟨n, hn, j, hj, rfl⟩ := key m hm
    have := meas_move hj
    have := h.deep n hn
    show x.meas (x.move n.s j).1 < d
    omega
  · intro m hm
    obtain ⟨n, hn, j, hj, rfl⟩ := key m hm
    have := h.path n hn
    show (n.path ++ [j]).length + d ≤ K
    rw [List.length_append]
    simp only [List.length_cons, List.length_nil]
    omega
theorem Level.empty {x : Inst} {l : List Node} {K : Nat} (h : Level x l 0 K) : l = [] := by
  cases l with
  | nil => rfl
  | cons n l => exact absurd (h.deep n List.mem_cons_self) (by omega)
end Go.Proofs.YtlhmchdfmjfmgaaGreat

/- A good plan, by looking at few: the plain function, the program's, the document's. -/
set_option maxRecDepth 4000
set_option maxHeartbeats 1000000
namespace Go.Proofs.YtlhmchdfmjfmgaaGreat
open Go Go.Proofs.YtlhmchdfmjfmgaaGreat.R
/-- The level behind one. -/
def Inst.few (x : Inst) (W : Nat) (l : List Node) (up : Int) : List Node := (x.sortN (x.next l up)).take W
theorem few_mem {x : Inst} {W : Nat} {l : List Node} {up : Int} {n : Node} (h : n ∈ x.few W l up) : n ∈ x.next l up := Inst.sortN_mem.1 (List.mem_of_mem_take h)
theorem Level.few {x : Inst} {l : List Node} {d K : Nat} (h : Level x l (d + 1) K) (W : Nat) (up : Int) : Level x (x.few W l up) d K := by
  have key : ∀ m ∈ x.few W l up, ∃ n ∈ l, ∃ j, (x.move n.s j).2.2 = true ∧ m = x.child n j := by
    intro m hm
    obtain ⟨n, hn, j, hj, e, _⟩ := next_mem (few_mem hm)
    exact ⟨n, hn, j, moves_mem hj, e⟩
  refine ⟨?_, ?_, ?_⟩
  · intro m hm
    obtain ⟨n, hn, j, hj, rfl⟩ := key m hm
    exact move_ok x j (h.ok n hn)
  · intro m hm
    obtain ⟨n, hn, j, hj, rfl⟩ := key m hm
    have := meas_move hj
    have := h.deep n hn
    show x.meas (x.move n.s j).1 < d
    omega
  · intro m hm
    obtain ⟨n, hn, j, hj, rfl⟩ := key m hm
    have := h.path n hn
    show (n.path ++ [j]).length + d ≤ K
    rw [List.length_append]
    simp only [List.length_cons, List.length_nil]
    omega
end Go.Proofs.YtlhmchdfmjfmgaaGreat

/- What can follow a state, and end; what covers a state can be followed by the same. -/
set_option maxRecDepth 4000
namespace Go.Proofs.YtlhmchdfmjfmgaaGreat
open Go Go.Proofs.YtlhmchdfmjfmgaaGreat.R
/-- Moves that can follow a state, and end, and what they cost in all. -/
def Inst.way (x : Inst) : List Int → State → Int → Prop
  | [], s, c => (x.endS s).2 = true ∧ c = (x.endS s).1
  | j :: l, s, c => (x.move s j).2.2 = true ∧ ∃ d, x.way l (x.move s j).1 d ∧ c = (x.move s j).2.1 + d
/-- What no state of an instance has less of. -/
structure State.Pos (s : State) : Prop where
  car : 1 ≤ s.car
  time : 0 ≤ s.time
  load : 0 ≤ s.load
theorem within_with {a b k : Nat} (hk : k ≤ 63) (h : withinB a b = true) : withinB (withN a k) (withN b k) = true := by
  rw [withinB, List.all_eq_true] at *
  intro i hi
  have := h i hi
  rw [with_bit hk, with_bit hk]
  revert this
  cases a.testBit i <;> cases b.testBit i <;> cases decide (k = i) <;> simp
theorem within_without {a b k : Nat} (hk : k ≤ 63) (h : withinB a b = true) : withinB (withoutN a k) (withoutN b k) = true := by
  rw [withinB, List.all_eq_true] at *
  intro i hi
  have := h i hi
  have hi' := List.mem_range.1 hi
  rw [without_bit hk hi', without_bit hk hi']
  revert this
  cases a.testBit i <;> cases b.testBit i <;> cases decide (k = i) <;> simp
theorem within_zero {a : Nat} (ha : a < 2 ^ 64) (h : withinB a 0 = true) : a = 0 := by
  refine Nat.eq_of_testBit_eq fun i => ?_
  by_cases hi : i < 64
  · rw [withinB, List.all_eq_true] at h
    have := h i (List.mem_range.2 hi)
    revert this
    cases a.testBit i <;> simp
  · rw [Nat.zero_testBit]
    exact Nat.testBit_lt_two_pow (Nat.lt_of_lt_of_le ha (Nat.pow_le_pow_right (by omega) (by omega)))
theorem cov_mk {a b : State} (e1 : a.spot = b.spot) (e2 : withinB a.must b.must = true) (e3 : withinB a.on b.on = true) (e4 : withinB b.can a.can = true) (e5 : a.car ≤ b.car) (e6 : a.time ≤ b.time) (e7 : a.load ≤ b.load) (e8 : a.first ≤ b.first) : coversB a b = true := by
  simp only [coversB, Bool.and_eq_true, decide_eq_true_eq]
  exact ⟨⟨⟨⟨⟨⟨⟨e1, e2⟩, e3⟩, e4⟩, e5⟩, e6⟩, e7⟩, e8⟩
theorem cov_may {x : Inst} {a b : State} (h : coversB a b = true) (hp : a.Pos) (hb : b.mayB x = true) : a.mayB x = true := by
  simp only [coversB, Bool.and_eq_true, decide_eq_true_eq] at h
  simp only [State.mayB, Bool.and_eq_true, decide_eq_true_eq] at hb ⊢
  have := hp.car
  have := hp.time
  have := hp.load
  omega
theorem cov_home {x : Inst} {a b : State} (hcov : coversB a b = true) (hp : a.Pos) (ho : a.ok) (h : (x.move b 0).2.2 = true) :
    x.move a 0 = (x.homeS a, far (x.stop b.spot) (x.stop 0), true) ∧ coversB (x.homeS a) (x.homeS b) = true ∧ (x.homeS a).Pos := by
  have hc := hcov
  simp only [coversB, Bool.and_eq_true, decide_eq_true_eq] at hc
  obtain ⟨⟨⟨⟨⟨⟨⟨e1, e2⟩, e3⟩, e4⟩, e5⟩, e6⟩, e7⟩, e8⟩ := hc
  obtain ⟨h1, h2, h3, h4⟩ := move_home h
  obtain ⟨p, hx⟩ := x.fit h1
  have hpp := hx.pairs
  have ha := cov_may hcov hp h2
  have hs : x.stayB a = false := by
    simp only [Inst.stayB, Bool.or_eq_false_iff, decide_eq_false_iff_not] at h3 ⊢
    obtain ⟨⟨⟨⟨a1, a2⟩, a3⟩, a4⟩, a5⟩ := h3
    have hon : a.on = 0 := by
      have : b.on = 0 := by omega
      rw [this] at e3
      exact within_zero ho.on e3
    refine ⟨⟨⟨⟨by rw [e1]; exact a1, by omega⟩, by omega⟩, ?_⟩, by rw [e1]; omega⟩
    cases hq : x.allB a.must with
    | false => rfl
    | true =>
      have := within_trans hq e2
      rw [Inst.allB] at a4
      rw [a4] at this
      cases this
  have hto : x.to a 0 = (x.homeS a, true) := by rw [Inst.to, if_pos rfl, Inst.home, if_neg (by rw [hs]; simp)]
  have hmv := move_mk (j := 0) h1 ha (by omega) (by rw [hto])
  rw [hto, e1] at hmv
  have h5 := (hx.at (j := 0) (by omega) (by omega)).ready
  have h6 := hp.car
  refine ⟨hmv, cov_mk (a := x.homeS a) (b := x.homeS b) rfl e2 e3 e4 ?_ ?_ ?_ e8, ⟨?_, ?_, ?_⟩⟩ <;> simp only [Inst.homeS] <;> omega
theorem cov_pos {x : Inst} {a b : State} {j : Int} (hj : j ≠ 0) (hcov : coversB a b = true) (hp : a.Pos) (h : (x.move b j).2.2 = true) :
    x.move a j = (x.rvisit a j (x.begins a j), far (x.stop b.spot) (x.stop j), true) ∧ coversB (x.rvisit a j (x.begins a j)) (x.rvisit b j (x.begins b j)) = true ∧ (x.rvisit a j (x.begins a j)).Pos := by
  have hc := hcov
  simp only [coversB, Bool.and_eq_true, decide_eq_true_eq] at hc
  obtain ⟨⟨⟨⟨⟨⟨⟨e1, e2⟩, e3⟩, e4⟩, e5⟩, e6⟩, e7⟩, e8⟩ := hc
  obtain ⟨h1, h2, h3, h4, h5, h6, h7, h8⟩ := move_pos h hj
  obtain ⟨p, hx⟩ := x.fit h1
  have hpp := hx.pairs
  have hfew := hx.few
  have ha := cov_may hcov hp h2
  have hbe : x.begins a j ≤ x.begins b j := by
    unfold Inst.begins
    rw [e1]
    omega
  have k1 : x.lateB a j = false := by
    simp only [Inst.lateB, Bool.or_eq_false_iff, decide_eq_false_iff_not] at h5 ⊢
    refine ⟨?_, by omega⟩
    cases hq : hasB a.must j with
    | false => rfl
    | true =>
      have := within_has e2 j hq
      rw [h5.1] at this
      cases this
  have k2 : j ≤ x.pairs → x.fullB a j = false := fun hh => by
    have := h6 hh
    simp only [Inst.fullB, Bool.or_eq_false_iff, Bool.and_eq_false_iff, decide_eq_false_iff_not] at this ⊢
    refine ⟨by omega, ?_⟩
    rcases this.2 with h9 | h9
    · exact .inl (by rw [e1]; exact h9)
    · exact .inr (by omega)
  have k3 : x.pairs < j → x.emptyB a j = false := fun hh => by
    have := h7 hh
    simp only [Inst.emptyB, Bool.or_eq_false_iff, Bool.not_eq_false', decide_eq_false_iff_not] at this ⊢
    exact ⟨by rw [e1]; exact this.1, within_has e4 _ this.2⟩
  have hto := to_visit (x := x) (s := a) hj k1 k2 k3
  have hmv := move_mk (j := j) h1 ha (by omega) (by rw [hto])
  rw [hto, e1] at hmv
  have h9 := (hx.at (j := j) (by omega) (by omega)).service
  have h10 := (far_le (x.stop a.spot) (x.stop j)).1
  have h11 := hp.time
  have h12 := hp.car
  have h13 : 0 ≤ x.begins a j := by unfold Inst.begins; omega
  obtain ⟨k, hk⟩ : ∃ k : Nat, j = k := ⟨j.toNat, by omega⟩
  refine ⟨hmv, ?_, ⟨?_, ?_, ?_⟩⟩
  · generalize x.begins a j = ta at *
    generalize x.begins b j = tb at *
    generalize x.stop j = sj at *
    refine cov_mk ?_ ?_ ?_ ?_ ?_ ?_ ?_ ?_
    · simp only [Inst.rvisit]
    · simp only [Inst.rvisit]
      rw [hk]
      exact within_with (by omega) e2
    · simp only [Inst.rvisit]
      rw [hk]
      split
      · exact within_with (by omega) e3
      · obtain ⟨q, hq⟩ : ∃ q : Nat, (k : Int) - x.pairs = q := ⟨((k : Int) - x.pairs).toNat, by omega⟩
        rw [hq]
        exact within_without (by omega) e3
    · simp only [Inst.rvisit]
      rw [hk]
      exact within_with (by omega) e4
    · simp only [Inst.rvisit]
      exact e5
    · simp only [Inst.rvisit]
      omega
    · simp only [Inst.rvisit]
      omega
    · simp only [Inst.rvisit]
      rw [e1]
      split
      · exact Int.le_refl _
      · exact e8
  · simp only [Inst.rvisit]; exact h12
  · simp only [Inst.rvisit]; omega
  · simp only [Inst.rvisit]; omega
theorem cov_move {x : Inst} {a b : State} {j : Int} (hc : coversB a b = true) (hp : a.Pos) (ho : a.ok) (h : (x.move b j).2.2 = true) :
    (x.move a j).2.2 = true ∧ (x.move a j).2.1 = (x.move b j).2.1 ∧ coversB (x.move a j).1 (x.move b j).1 = true ∧ (x.move a j).1.Pos := by
  by_cases hj : j = 0
  · subst hj
    obtain ⟨g1, g2, g3⟩ := cov_home hc hp ho h
    rw [g1, (move_home h).2.2.2]
    exact ⟨rfl, rfl, g2, g3⟩
  · obtain ⟨g1, g2, g3⟩ := cov_pos hj hc hp h
    rw [g1, (move_pos h hj).2.2.2.2.2.2.2]
    exact ⟨rfl, rfl, g2, g3⟩
theorem pos_move {x : Inst} {s : State} {j : Int} (hp : s.Pos) (ho : s.ok) (h : (x.move s j).2.2 = true) : (x.move s j).1.Pos := (cov_move (covers_refl s) hp ho h).2.2.2
end Go.Proofs.YtlhmchdfmjfmgaaGreat

/- What looking at all finds: the plain law. -/
set_option maxRecDepth 4000
namespace Go.Proofs.YtlhmchdfmjfmgaaGreat
open Go Go.Proofs.YtlhmchdfmjfmgaaGreat.R
/-- What is known of the nodes of a level. -/
structure Lev (x : Inst) (l : List Node) (d : Nat) : Prop where
  ok : ∀ n ∈ l, n.s.ok
  deep : ∀ n ∈ l, x.meas n.s < d
  pos : ∀ n ∈ l, n.s.Pos
  seen : ∀ n ∈ l, n.s.seenAt
  cost : ∀ n ∈ l, 0 ≤ n.cost ∧ n.cost + 14143 * (d : Int) ≤ 1152921504606846976
theorem child_cost {x : Inst} {l : List Node} {d : Nat} (h : Lev x l (d + 1)) {n : Node} (hn : n ∈ l) {j : Int} (hj : (x.move n.s j).2.2 = true) : (x.child n j).cost = n.cost + (x.move n.s j).2.1 := by
  have h1 := h.cost n hn
  have h2 := move_cost hj
  show sumI [n.cost, (x.move n.s j).2.1] = _
  rw [sumI_two h1.1 h2.1 (by omega)]
theorem Lev.sub {x : Inst} {l m : List Node} {d : Nat} (h : Lev x l d) (hs : ∀ n ∈ m, n ∈ l) : Lev x m d :=
  ⟨fun n hn => h.ok n (hs n hn), fun n hn => h.deep n (hs n hn), fun n hn => h.pos n (hs n hn), fun n hn => h.seen n (hs n hn), fun n hn => h.cost n (hs n hn)⟩
theorem Lev.next {x : Inst} {l : List Node} {d : Nat} (h : Lev x l (d + 1)) (up : Int) : Lev x (x.next l up) d := by
  have key : ∀ m ∈ x.next l up, ∃ n ∈ l, ∃ j, (x.move n.s j).2.2 = true ∧ m = x.child n j := by
    intro m hm
    obtain ⟨n, hn, j, hj, e, _⟩ := next_mem hm
    exact ⟨n, hn, j, moves_mem hj, e⟩
  refine ⟨?_, ?_, ?_, ?_, ?_⟩ <;> (intro m hm; obtain ⟨n, hn, j, hj, rfl⟩ := key m hm)
  · exact move_ok x j (h.ok n hn)
  · have := meas_move hj
    have := h.deep n hn
    show x.meas (x.move n.s j).1 < d
    omega
  · exact pos_move (h.pos n hn) (h.ok n hn) hj
  · exact seen_step hj
  · rw [child_cost h hn hj]
    have := h.cost n hn
    have := move_cost hj
    omega
theorem Lev.front {x : Inst} {l : List Node} {d : Nat} (h : Lev x l (d + 1)) (up : Int) : Lev x (frontL (x.next l up)) d := (h.next up).sub fun n hn => (front_inv _).sub n hn
theorem Lev.empty {x : Inst} {l : List Node} (h : Lev x l 0) : l = [] := by
  cases l with
  | nil => rfl
  | cons n l => exact absurd (h.deep n List.mem_cons_self) (by omega)
end Go.Proofs.YtlhmchdfmjfmgaaGreat

/- How many nodes a level may have, with at most three pairs: the plain law. -/
set_option maxRecDepth 4000
namespace Go.Proofs.YtlhmchdfmjfmgaaGreat
open Go Go.Proofs.YtlhmchdfmjfmgaaGreat.R
def State.yard (s : State) : Bool := decide (s.spot = 0)
end Go.Proofs.YtlhmchdfmjfmgaaGreat

/- What looking at few finds: the plain laws. -/
set_option maxRecDepth 4000
namespace Go.Proofs.YtlhmchdfmjfmgaaGreat
open Go Go.Proofs.YtlhmchdfmjfmgaaGreat.R
theorem Lev.few {x : Inst} {l : List Node} {d : Nat} (h : Lev x l (d + 1)) (W : Nat) (up : Int) : Lev x (x.few W l up) d := (h.next up).sub fun n hn => few_mem hn
/-! With levels as wide as may be. -/
end Go.Proofs.YtlhmchdfmjfmgaaGreat

/- Proofs: if one holds no way costs less than it claims: the plain law. -/
set_option maxRecDepth 4000
namespace Go.Proofs.YtlhmchdfmjfmgaaGreat
open Go Go.Proofs.YtlhmchdfmjfmgaaGreat.R
/-- How deep parts are told to be: what a step leaves. -/
structure Kept (k : Nat) (a b : List Int) : Prop where
  len : b.length = a.length
  same : ∀ j, j ≤ k → b.getD j 0 = a.getD j 0
  less : ∀ j, b.getD j 0 ≤ a.getD j 0
  pos : (∀ j, 0 ≤ a.getD j 0 ∧ a.getD j 0 ≤ infI) → ∀ j, 0 ≤ b.getD j 0 ∧ b.getD j 0 ≤ infI
theorem Kept.refl (k : Nat) (a : List Int) : Kept k a a := ⟨rfl, fun _ _ => rfl, fun _ => Int.le_refl _, fun h => h⟩
theorem Kept.trans {k : Nat} {a b c : List Int} (h1 : Kept k a b) (h2 : Kept k b c) : Kept k a c :=
  ⟨h2.len.trans h1.len, fun j h => (h2.same j h).trans (h1.same j h), fun j => Int.le_trans (h2.less j) (h1.less j), fun h => h2.pos (h1.pos h)⟩
theorem Kept.mono {k m : Nat} {a b : List Int} (h : Kept m a b) (hk : k ≤ m) : Kept k a b := ⟨h.len, fun j hj => h.same j (Nat.le_trans hj hk), h.less, h.pos⟩
/-- What a spot tells of how deep parts are. -/
def Tells (x : Inst) (p : Prf) (k i : Nat) (dk : Int) (F : List Int) (n : Spot) : Prop :=
  x.holdsB p k i n dk = true ∧ ((k : Int) < n.part - 1 → (n.part - 1).toNat < F.length → F.getD (n.part - 1).toNat 0 ≤ dk + i)
end Go.Proofs.YtlhmchdfmjfmgaaGreat

/- Proofs: if one holds no way costs less than it claims. -/
set_option maxRecDepth 4000
namespace Go.Proofs.YtlhmchdfmjfmgaaGreat
open Go Go.Proofs.YtlhmchdfmjfmgaaGreat.R
/-- What is known of a spot that may be. -/
theorem spot_pos {x : Inst} {p : Prf} {n : Spot} (h : x.spotB p n = true) : n.s.Pos ∧ 0 ≤ n.cost ∧ 0 ≤ n.part ∧ n.part ≤ p.parts.length := by
  simp only [Inst.spotB, State.mayB, Bool.and_eq_true, decide_eq_true_eq] at h
  obtain ⟨⟨⟨⟨h1, h2⟩, h3⟩, h4⟩, h5⟩ := h
  exact ⟨⟨h1.1.1.1.1.1.2, h1.1.1.1.2, h1.1.2⟩, h2, h4, h5⟩
theorem whole_spot {x : Inst} {p : Prf} {q : List (List Spot)} (h : x.wholeB p q = true) {l : List Spot} (hl : l ∈ q) {n : Spot} (hn : n ∈ l) : x.spotB p n = true := by
  unfold Inst.wholeB at h
  split at h
  · cases h
  · simp only [Bool.and_eq_true, Bool.not_eq_true', decide_eq_true_eq, List.any_eq_false] at h
    have := h.2 l hl
    simp only [Bool.not_eq_true, List.any_eq_false] at this
    have := this n hn
    simpa using this
structure Holds (x : Inst) (p : Prf) (F : List Int) : Prop where
  len : F.length = p.parts.length
  whole : ∀ q ∈ p.parts, x.wholeB p q = true
  ok : ∀ q ∈ p.parts, ∀ l ∈ q, ∀ n ∈ l, n.s.ok
  small : ∀ q ∈ p.parts, q.length < 2 ^ 30
  rng : ∀ j, 0 ≤ F.getD j 0 ∧ F.getD j 0 ≤ infI
  tells : ∀ k q, p.parts[k]? = some q → F.getD k 0 ≠ infI → ∀ i l, q[i]? = some l → ∀ n ∈ l, Tells x p k i (F.getD k 0) F n
end Go.Proofs.YtlhmchdfmjfmgaaGreat

/- Has a proof few parts? -/
set_option maxRecDepth 4000
namespace Go.Proofs.YtlhmchdfmjfmgaaGreat
open Go Go.Proofs.YtlhmchdfmjfmgaaGreat.R
def fewLay (q : List (List Spot)) : Bool := decide (q.length ≤ 12) && q.all fun l => decide (l.length ≤ 60)
def Prf.fewB (p : Prf) : Bool := decide (p.parts.length ≤ 60) && p.parts.all fewLay
theorem few20_pure (p : Prf) (hp : p.parts.length < 2 ^ 63) (hq : ∀ q ∈ p.parts, q.length < 2 ^ 63) : Pure P 5 [p.a] (.b p.fewB) := by
  generalize hR : p.fewB = R
  refine pure_of Tryz.func5 rfl rfl (by simp [Tryz.f5]) (by simp [bnd, bnd.bndL, Prf.a, Prf.cs]) (by simp [bnd, bnd.bndL]) fun B hB hnx => ?_
  simp only [Tryz.f5] at hB ⊢
  have hYl : (p.parts.map partT).length = p.parts.length := List.length_map _
  have hYg : ∀ (k : Nat) (h : k < p.parts.length), (p.parts.map partT)[k]'(by rw [hYl]; exact h) = partT p.parts[k] := fun k h => map_get partT p.parts h _
  rw [Prf.fewB] at hR
  have hcs : p.cs = [.i p.least, .t (.sl (p.parts.map partT))] := rfl
  generalize p.parts.map partT = Y at *
  generalize p.parts = ps at *
  by_cases c1 : 60 < (ps.length : Int)
  · rw [decide_eq_false (by omega), Bool.false_and] at hR
    subst hR
    refine K_run hB 100 ?_
    simp [go_sem, hcs, hYl, c1, Prf.a]
  rw [decide_eq_true (by omega), Bool.true_and] at hR
  refine K_run hB 100 ?_
  simp [go_sem, hcs, hYl, c1, Prf.a]
  refine K_loopP (α := Nat × (Nat → AObj) × Nat) (fun (k, τ, ny) => k ≤ ps.length ∧ (ps.drop k).all fewLay = R ∧ τ 0 = .box [.i p.least, .t (.sl Y)] ∧ 0 < ny) (fun (k, τ, ny) => ⟨sl [(1, .ptr 0 0), (3, .i k)], τ, ny⟩) (fun a => ps.length - a.1) (0, _, 1) ?_ (Imp.slots (by simp [go_sem]) rfl rfl) ?_
  · exact ⟨Nat.zero_le _, hR, by simp [oput], by omega⟩
  rintro ⟨k, τ, ny⟩ ⟨g1, g2, g3, g4⟩
  refine K_run hB 60 ?_
  simp [go_sem, g3, hYl]
  refine fork_dec (fun hk => ?_) (fun hk => ?_)
  · have hkk : IntKind.i64.wrap ((k : Int) + 1) = ((k + 1 : Nat) : Int) := by rw [w64 ((k : Int) + 1) (by omega)]; rfl
    have hgk : ∀ h : k < Y.length, Y[k]'h = partT ps[k] := fun h => hYg k hk
    have hql := hq ps[k] (List.getElem_mem _)
    rw [List.drop_eq_getElem_cons hk, List.all_cons, fewLay] at g2
    generalize ps[k] = q at *
    have hZl : (q.map layT).length = q.length := List.length_map _
    have hZg : ∀ (k : Nat) (h : k < q.length), (q.map layT)[k]'(by rw [hZl]; exact h) = layT q[k] := fun k h => map_get layT q h _
    have hpt : partT q = [.sl (q.map layT)] := rfl
    generalize q.map layT = Z at *
    by_cases c2 : 12 < (q.length : Int)
    · rw [decide_eq_false (by omega), Bool.false_and, Bool.false_and] at g2
      subst g2
      simp [go_sem, g3, hYl, hk, hgk, hpt, hZl, c2]
    rw [decide_eq_true (by omega), Bool.true_and] at g2
    simp [go_sem, g3, hYl, hk, hgk, hpt, hZl, c2]
    refine K_loopP (α := Nat) (fun i => i ≤ q.length ∧ ((q.drop i).all (fun l => decide (l.length ≤ 60)) && (ps.drop (k + 1)).all fewLay) = R) (fun i => ⟨sl [(1, .ptr 0 0), (3, .i k), (4, .i i)], τ, ny⟩) (fun i => q.length - i) 0 ⟨Nat.zero_le _, g2⟩ (Imp.slots (by simp [go_sem]) rfl rfl) ?_
    rintro i ⟨f1, f2⟩
    refine K_run hB 60 ?_
    simp [go_sem, g3, hYl, hk, hgk, hpt, hZl]
    refine fork_dec (fun hi => ?_) (fun hi => ?_)
    · have hii : IntKind.i64.wrap ((i : Int) + 1) = ((i + 1 : Nat) : Int) := by rw [w64 ((i : Int) + 1) (by omega)]; rfl
      have hgi : ∀ h : i < Z.length, Z[i]'h = layT q[i] := fun h => hZg i hi
      rw [List.drop_eq_getElem_cons hi, List.all_cons] at f2
      generalize q[i] = l at *
      have hll : (l.map Spot.t).length = l.length := List.length_map _
      by_cases c3 : 60 < (l.length : Int)
      · rw [decide_eq_false (by omega), Bool.false_and, Bool.false_and] at f2
        subst f2
        simp [go_sem, g3, hYl, hk, hgk, hpt, hZl, hi, hgi, layT, hll, c3]
      · rw [decide_eq_true (by omega), Bool.true_and] at f2
        simp [go_sem, g3, hYl, hk, hgk, hpt, hZl, hi, hgi, layT, hll, c3, hii]
        exact Next.mk (i + 1) ⟨by omega, f2⟩ (Imp.slots (by simp [go_sem]) rfl rfl) (by omega)
    · have : i = q.length := by omega
      subst this
      rw [List.drop_length, List.all_nil, Bool.true_and] at f2
      simp [go_sem, hkk]
      exact Next.mk (k + 1, τ, ny) ⟨by simp only; omega, f2, g3, g4⟩ (Imp.slots (by simp [go_sem]) rfl rfl) (by simp only; omega)
  · have : k = ps.length := by omega
    subst this
    rw [List.drop_length, List.all_nil] at g2
    subst g2
    simp [go_sem]
end Go.Proofs.YtlhmchdfmjfmgaaGreat

/- slices.Repeat of one number. -/
set_option maxRecDepth 4000
namespace Go.Proofs.YtlhmchdfmjfmgaaGreat
open Go Go.Proofs.YtlhmchdfmjfmgaaGreat.R
theorem and32 {n : Nat} (h : n < 4294967296) : band .u64 n 4294967295 = n := by
  have := bandN (a := n) (b := 4294967295) (by omega) (by decide)
  rw [show ((4294967295 : Nat) : Int) = 4294967295 from rfl] at this
  rw [this, show 4294967295 = 2 ^ 32 - 1 from rfl, Nat.and_two_pow_sub_one_eq_mod, Nat.mod_eq_of_lt h]
theorem mul64_pure (n : Nat) (hn : n < 2 ^ 31) : Pure P 55 [.u 1, .u n] (.tup [.u 0, .u n]) := by
  refine pure_of Tryz.func55 rfl rfl (by simp [Tryz.f55]) (by simp [bnd, bnd.bndL]) (by simp [bnd, bnd.bndL]) fun B hB hnx => ?_
  simp only [Tryz.f55] at hB ⊢
  have e1 : band .u64 1 4294967295 = 1 := and32 (n := 1) (by omega)
  have e2 := and32 (n := n) (by omega)
  have e3 : Int.fdiv 1 4294967296 = 0 := by decide
  have e4 : Int.fdiv (n : Int) 4294967296 = 0 := by rw [Int.fdiv_eq_ediv_of_nonneg _ (by omega)]; omega
  have e5 : band .u64 0 4294967295 = 0 := and32 (n := 0) (by omega)
  have e6 : IntKind.u64.wrap (n : Int) = n := u64 _ (by omega)
  have e7 : IntKind.u64.wrap 0 = 0 := u64 _ (by omega)
  refine K_run hB 100 ?_
  simp [go_sem, e1, e2, e3, e4, e5, e6, e7]
theorem mul_pure (n : Nat) (hn : n < 2 ^ 31) : Pure P 33 [.u 1, .u n] (.tup [.u 0, .u n]) := by
  refine pure_of Tryz.func33 rfl rfl (by simp [Tryz.f33]) (by simp [bnd, bnd.bndL]) (by simp [bnd, bnd.bndL]) fun B hB hnx => ?_
  simp only [Tryz.f33] at hB ⊢
  refine K_run hB 100 ?_
  simp [go_sem]
  refine K_call rfl rfl rfl (args := [.u 1, .u n]) (f := 55) (by simp [go_sem]) (by simp [go_sem, hB]) ((mul64_pure n hn).spec _ _) ?_
  refine K_run hB 100 ?_
  simp [go_sem]
theorem repeat_spec (v : Int) (n : Nat) (h0 : 0 < n) (hn : n < 2 ^ 31) (σ : Nat → AObj) (nx : Nat) : CallSpec P 16 [.fsl [[.i v]], .i n] σ nx (.ref nx) (oput σ nx (.arr 1 (List.replicate n [.i v]))) (nx + 1) := by
  refine CallQ.spec (spec_of Tryz.func16 rfl rfl (by simp [Tryz.f16]) fun B hB hnx hσ => K_after ?_)
  simp only [Tryz.f16] at hB ⊢
  have hmost : n ≤ mostLen := by show n ≤ 4294967296; omega
  have hu : IntKind.u64.wrap (n : Int) = n := u64 _ (by omega)
  have hi : IntKind.i64.wrap (n : Int) = n := w64 _ (by omega)
  have hu1 : IntKind.u64.wrap 1 = 1 := u64 _ (by omega)
  have hneg : ¬ (n : Int) < 0 := by omega
  refine K_run hB 100 ?_
  simp [go_sem, hneg, hu, hi, hu1]
  refine K_call rfl rfl rfl (args := [.u 1, .u n]) (f := 33) (by simp [go_sem, hneg, hu, hi, hu1]) (by simp [go_sem, hB]) ((mul_pure n hn).spec _ _) ?_
  have hbig : ¬ 9223372036854775807 < (n : Int) := by omega
  refine K_run hB 100 ?_
  simp [go_sem, hneg, hu, hi, hu1, hbig, hmost]
  refine K_copyT rfl rfl rfl rfl rfl (by simp [go_sem, hB]) tt55 rfl tt3 rfl (q := nx) (es := List.replicate n [.i 0]) (ys := [[.i v]]) (by simp [go_sem]) (by simp [go_sem]) (by simp [go_sem]) (by simp) (by simp) (by simp; omega) ?_
  have hrow : [[T.i v]] ++ (List.replicate n [T.i 0]).drop 1 = List.replicate 1 [T.i v] ++ List.replicate (n - 1) [T.i 0] := by simp
  refine K_run hB 100 ?_
  simp [go_sem]
  refine K_loopP (α := Nat) (fun j => 1 ≤ j ∧ j ≤ n) (fun j => ⟨sl [(7, .ref nx), (8, .i j)], oput σ nx (.arr 1 (List.replicate j [.i v] ++ List.replicate (n - j) [.i 0])), nx + 1⟩) (fun j => n - j) 1 ⟨Nat.le_refl _, h0⟩ (Imp.slots (by simp [go_sem]) ?_ rfl) ?_
  · have hoo : ∀ (o o' : AObj), oput (oput σ nx o) nx o' = oput σ nx o' := fun o o' => funext fun i => by simp only [oput]; split <;> rfl
    rw [← hrow, hoo]
    simp
  rintro j ⟨g1, g2⟩
  have hlen : (List.replicate j [T.i v] ++ List.replicate (n - j) [T.i 0]).length = n := by simp; omega
  refine K_run hB 60 ?_
  simp [go_sem, hlen]
  refine fork_dec (fun hj => ?_) (fun hj => ?_)
  · have hj : j < n := by omega
    refine K_run hB 60 ?_
    simp [go_sem]
    refine K_drawnF [7] [0] rfl (by rw [hB]; kernel_rfl) (by kernel_rfl) fun ht hf' => ?_
    refine K_run hB 60 ?_
    simp [go_sem, ht, hf']
    refine K_dLook (v := .cut nx 1 j (List.replicate j [T.i v] ++ List.replicate (n - j) [T.i 0]).length) (fun ho => ?_) (by simp [ht]) ?_
    · exact does_cutFrom (P := P) (n := B.n) (es := (List.replicate j [T.i v] ++ List.replicate (n - j) [T.i 0])) ho (by simp [go_sem]) rfl tt55 rfl tt3 (q := nx) (by simp [go_sem]) (by simp [go_sem]) (ik := .i64) (lo := j) (by simp [go_sem]) (by rw [hlen]; exact hj)
    refine K_run hB 60 ?_
    simp [go_sem, ht, hf']
    refine K_dLook (v := .cut nx 1 0 j) (fun ho => ?_) (by simp [ht]) ?_
    · exact does_cutTo (P := P) (n := B.n) (es := List.replicate j [.i v] ++ List.replicate (n - j) [.i 0]) ho (by simp [go_sem]) rfl tt55 rfl tt3 (q := nx) (by simp [go_sem]) (by simp [go_sem]) (ik := .i64) (up := j) (by simp [go_sem]) (by rw [hlen]; omega) (by rw [hlen]; omega)
    obtain ⟨k, hk⟩ : ∃ k, k = Nat.min j (n - j) := ⟨_, rfl⟩
    have hk1 : k ≤ j ∧ k ≤ n - j ∧ 1 ≤ k := by rw [hk]; refine ⟨Nat.min_le_left _ _, Nat.min_le_right _ _, Nat.le_min.2 ⟨g1, by omega⟩⟩
    simp only [hlen]
    refine K_dTold (v := .i k) (σ' := oput (oput σ nx (.arr 1 (List.replicate j [T.i v] ++ List.replicate (n - j) [T.i 0]))) nx (.arr 1 ((List.replicate j [T.i v] ++ List.replicate (n - j) [T.i 0]).take j ++ ((List.replicate j [T.i v] ++ List.replicate (n - j) [T.i 0]).take k ++ (List.replicate j [T.i v] ++ List.replicate (n - j) [T.i 0]).drop (j + k))))) (nx' := nx + 1) (fun ho => ?_) (by simp) (by simp) ?_
    · exact does_copyPart (P := P) (n := B.n) ho (by simp [go_sem]) rfl rfl rfl rfl tt55 rfl tt3 rfl (q := nx) (lo := j) (up := j) (by simp [go_sem] <;> omega) (by simp [go_sem]) (by simp [go_sem]) (by rw [hlen]; omega) (by rw [hlen]; exact hk) (by rw [hlen]; omega)
    have hw : IntKind.i64.wrap ((j : Int) + (k : Int)) = ((j + k : Nat) : Int) := by rw [w64 _ (by omega)]; omega
    have hrow : (List.replicate j [T.i v] ++ List.replicate (n - j) [T.i 0]).take j ++ ((List.replicate j [T.i v] ++ List.replicate (n - j) [T.i 0]).take k ++ (List.replicate j [T.i v] ++ List.replicate (n - j) [T.i 0]).drop (j + k)) = List.replicate (j + k) [T.i v] ++ List.replicate (n - (j + k)) [T.i 0] := by
      rw [List.take_left' (by simp), List.take_append_of_le_length (by simp; omega), List.take_replicate, show min k j = k by omega, ← List.drop_drop, List.drop_left' (by simp), List.drop_replicate, ← List.append_assoc, List.replicate_append_replicate, Nat.sub_sub]
    rw [hrow]
    have hoo : ∀ (o o' : AObj), oput (oput σ nx o) nx o' = oput σ nx o' := fun o o' => funext fun i => by simp only [oput]; split <;> rfl
    rw [hoo]
    refine K_run hB 60 ?_
    simp [go_sem, ht, hf', hw]
    refine Next.mk (j + k) ⟨by omega, by omega⟩ (Imp.slots (by simp [go_sem]) rfl rfl) (by omega)
  · have hj : j = n := by omega
    subst hj
    simp [go_sem]
    refine ⟨_, Imp.self, ?_⟩
    simp [go_sem]
end Go.Proofs.YtlhmchdfmjfmgaaGreat

/- Proofs: proof.Check. -/
set_option maxRecDepth 4000
set_option maxHeartbeats 1000000
namespace Go.Proofs.YtlhmchdfmjfmgaaGreat
open Go Go.Proofs.YtlhmchdfmjfmgaaGreat.R
def resP : Option (List Int) → Int
  | none => 10
  | some _ => 0
theorem partsGo_cons {x : Inst} {p : Prf} {k : Nat} {q : List (List Spot)} {ps : List (List (List Spot))} {dl : List Int} (h : dl.getD k 0 ≠ infI) : x.partsGo p k (q :: ps) dl = (x.partGo p k 0 q dl).bind (x.partsGo p (k + 1) ps) := by
  rw [Inst.partsGo, if_neg h]
  cases x.partGo p k 0 q dl <;> rfl
theorem partGo_cons {x : Inst} {p : Prf} {k i : Nat} {l : List Spot} {q : List (List Spot)} {dl : List Int} : x.partGo p k i (l :: q) dl = (x.layGo p k i l dl).bind (x.partGo p k (i + 1) q) := by
  rw [Inst.partGo]
  cases x.layGo p k i l dl <;> rfl
structure Prf.Fine (p : Prf) : Prop where
  len : p.parts.length < 2 ^ 31
  parts : ∀ q ∈ p.parts, q.length < 2 ^ 30
  lays : ∀ q ∈ p.parts, ∀ l ∈ q, l.length < 2 ^ 31
  ok : ∀ q ∈ p.parts, ∀ l ∈ q, ∀ n ∈ l, n.s.ok
theorem first_of {x : Inst} {p : Prf} (hw : ∀ q ∈ p.parts, x.wholeB p q = true) {j : Nat} (hj : j < p.parts.length) : ∃ f, p.first j = some f := by
  have h := hw p.parts[j] (List.getElem_mem _)
  rw [Prf.first, List.getElem?_eq_getElem hj]
  generalize p.parts[j] = q at *
  unfold Inst.wholeB at h
  split at h
  · cases h
  · rename_i l q0
    simp only [Bool.and_eq_true, decide_eq_true_eq] at h
    cases l with
    | nil => simp at h
    | cons n l => exact ⟨n, rfl⟩
theorem check_pure (x : Inst) (p : Prf) (hl : x.stops.length < 2 ^ 31) (hp : p.Fine) : Pure P 6 [x.a, p.a] (.i (x.checkE p)) := by
  generalize hR : x.checkE p = R
  refine pure_of Tryz.func6 rfl rfl (by simp [Tryz.f6]) (by simp [bnd, bnd.bndL, Inst.a, Prf.a, Prf.cs]) (by simp [bnd, bnd.bndL]) fun B hB hnx => ?_
  simp only [Tryz.f6] at hB ⊢
  have hplen := hp.len
  rw [Inst.checkE] at hR
  refine K_run hB 100 ?_
  simp [go_sem, Inst.a, Prf.a, Prf.cs]
  refine K_scopeN (α := Unit) 0 (fun _ => False) (fun _ => ⟨sl [], noObj, 0⟩) (fun _ => 0) rfl (fun _ h => h.elim) ?_
  intro J hJ
  refine K_run hB 100 ?_
  simp [go_sem]
  refine K_call rfl rfl rfl (args := [x.a]) (f := 14) (by simp [go_sem, Inst.a]) (by simp [go_sem, hB]) ((may_pure x (by omega)).spec _ _) ?_
  cases hmay : x.may with
  | false =>
    rw [if_neg (by simp [Inst.mayP, hmay])] at hR
    subst hR
    refine K_run hB 100 ?_
    simp [go_sem]
  | true =>
    have hYl : (p.parts.map partT).length = p.parts.length := List.length_map _
    have hYg : ∀ (k : Nat) (h : k < p.parts.length), (p.parts.map partT)[k]'(by rw [hYl]; exact h) = partT p.parts[k] := fun k h => map_get partT p.parts h _
    by_cases c1 : p.least < 0
    · rw [if_neg (by simp [Inst.mayP]; omega)] at hR
      subst hR
      refine K_run hB 100 ?_
      simp [go_sem, c1]
    by_cases c2 : infI < p.least
    · rw [if_neg (by simp [Inst.mayP]; omega)] at hR
      subst hR
      have c2' : 1152921504606846976 < p.least := c2
      refine K_run hB 100 ?_
      simp [go_sem, c1, c2']
    have c2' : ¬ 1152921504606846976 < p.least := c2
    by_cases c3 : p.parts = []
    · rw [if_neg (by simp [Inst.mayP, c3])] at hR
      subst hR
      refine K_run hB 100 ?_
      simp [go_sem, c1, c2', c3]
    have hpos : 0 < p.parts.length := List.length_pos_iff.2 c3
    have c3' : ¬ p.parts.length = 0 := by omega
    obtain ⟨pp, hx⟩ := x.fit hmay
    have hxp := hx.pairs
    have hxf := hx.few
    have hcont := fun (τ : Nat → AObj) (h1 : τ 2 = .box (ckC x p (.fsl []))) (h2 : τ 3 = .box [.ptr 2 0]) => containsPart_spec p.parts (fun q => !x.wholeB p q) (σ := τ) (nx := 4) (f := 12) (caps := [.ptr 3 0]) hplen fun q hq => check1_spec x p q (.fsl []) (by omega) (by have := hp.parts q hq; omega) (hp.lays q hq) (by omega) h1 (by omega) h2
    refine K_run hB 100 ?_
    simp [go_sem, c1, c2', c3, hYl, c3']
    refine K_call rfl rfl rfl (args := [.t (.sl (p.parts.map partT)), .fn (.func 12) [] [.ptr 3 0]]) (f := 15) (by simp [go_sem]) (by simp [go_sem, hB]) (hcont _ (by simp [oput, ckC, Inst.cs]) (by simp [oput])) ?_
    cases c4 : p.parts.any fun q => !x.wholeB p q with
    | true =>
      have : p.parts.all (x.wholeB p) = false := by
        rw [List.any_eq_true] at c4
        obtain ⟨q, h1, h2⟩ := c4
        rw [List.all_eq_false]
        exact ⟨q, h1, by simpa using h2⟩
      rw [if_neg (by simp [Inst.mayP, this])] at hR
      subst hR
      refine K_run hB 100 ?_
      simp [go_sem]
    | false =>
      have hw : ∀ q ∈ p.parts, x.wholeB p q = true := by
        rw [List.any_eq_false] at c4
        intro q hq
        have := c4 q hq
        simpa using this
      have hmp : x.mayP p = true := by
        simp only [Inst.mayP, Bool.and_eq_true, decide_eq_true_eq]
        exact ⟨hmay, by omega, by omega, c3, List.all_eq_true.2 hw⟩
      rw [if_pos hmp] at hR
      obtain ⟨f, hf⟩ := first_of hw hpos
      rw [hf] at hR
      simp only at hR
      obtain ⟨hj0, l0, q0, hp0⟩ := first_some hf
      have hY0 : ∀ h : 0 < (p.parts.map partT).length, (p.parts.map partT)[0]'h = [.sl ([.sl (f.t :: l0.map Spot.t)] :: q0.map layT)] := fun h => by rw [List.getElem_map, hp0]; rfl
      generalize hY : p.parts.map partT = Y at *
      have hck : ∀ D, ckC x p D = [.t (.i x.pairs), .t (.i x.cars), .t (.i x.room), .t (.sl (x.stops.map Stop.t)), .i p.least, .t (.sl Y), D] := fun D => by rw [ckC, hY]
      have hr := root_pureS x (by omega)
      refine K_run hB 100 ?_
      simp [go_sem, hYl, hpos, hY0, Spot.t]
      refine K_drawn [] rfl (by rw [hB]; kernel_rfl) ?_
      refine K_run hB 100 ?_
      simp [go_sem]
      refine K_dCallP rfl rfl rfl (args := [x.a]) (f := 11) (by simp [go_sem, Inst.a]) (hr) ?_
      generalize x.rootS = rt at *
      refine K_dEq (op := .neq) (t := 49) (t' := 49) (x := .tmp 55) (y := .tmp 57) (xs := f.s.cs) (ys := rt.cs) (by simp [go_sem]) rfl (by simp [go_sem, State.cs]) (by simp [go_sem, State.a, State.cs]) state_guard (state_eq f.s rt) rfl ?_
      by_cases c5 : f.s = rt
      rotate_left
      · rw [if_neg (fun h => c5 h.1)] at hR
        subst hR
        refine K_run hB 100 ?_
        simp [go_sem, c5]
      by_cases c6 : f.cost = 0
      rotate_left
      · rw [if_neg (fun h => c6 h.2)] at hR
        subst hR
        refine K_run hB 100 ?_
        simp [go_sem, c5, c6]
      rw [if_pos ⟨c5, c6⟩] at hR
      refine K_run hB 100 ?_
      simp [go_sem, c5, c6]
      refine K_drawnF [5, 8] [0] rfl (by rw [hB]; kernel_rfl) (by kernel_rfl) fun ht hf' => ?_
      refine K_run hB 100 ?_
      simp [go_sem, ht, hf', hYl]
      refine K_dCall rfl rfl rfl (args := [.fsl [[.i 1152921504606846976]], .i p.parts.length]) (f := 16) (by simp [go_sem]) (repeat_spec 1152921504606846976 p.parts.length hpos hplen _ _) (by decide) (okPends_does (by simp [go_sem])) ?_
      refine K_run hB 100 ?_
      simp [go_sem, ht, hf', hpos, hYl]
      have hR' : resP (x.partsGo p 0 (p.parts.drop 0) ((List.replicate p.parts.length infI).set 0 0)) = R := by
        rw [← hR, List.drop_zero]
        cases x.partsGo p 0 p.parts ((List.replicate p.parts.length infI).set 0 0) <;> rfl
      have hdl0 : ((List.replicate p.parts.length infI).set 0 0).length = p.parts.length := by rw [List.length_set, List.length_replicate]
      have hlead : ∀ q ∈ p.parts, ∀ l ∈ q, ∀ n ∈ l, 0 ≤ n.part ∧ n.part ≤ p.parts.length ∧ (0 < n.part → ∃ j f, n.part = ((j : Nat) : Int) + 1 ∧ p.first j = some f) := fun q hq l hl' n hn => by
        obtain ⟨_, _, b1, b2⟩ := spot_pos (whole_spot (hw q hq) hl' hn)
        refine ⟨b1, b2, fun h0 => ?_⟩
        obtain ⟨j, hj⟩ : ∃ j : Nat, n.part = (j : Int) + 1 := ⟨(n.part - 1).toNat, by omega⟩
        obtain ⟨f, hf⟩ := first_of hw (j := j) (by omega)
        exact ⟨j, f, hj, hf⟩
      have hhold := fun (τ : Nat → AObj) (ny : Nat) (k i : Nat) (q : List (List Spot)) (n : Spot) (dl : List Int) (h1 : p.parts[k]? = some q) (h2 : i < 2 ^ 31) (h3 : k < dl.length) (h4 : 0 < n.part → ∃ j f, n.part = ((j : Nat) : Int) + 1 ∧ p.first j = some f) (h5 : n.s.ok) (h6 : 5 < ny) (h7 : τ 2 = .box (ckC x p (.ref 5))) (h8 : τ 5 = .arr 1 (ints dl)) => holds_spec x p n k i 5 dl q hl h5 hplen h1 (by have := hp.parts q (List.mem_of_getElem? h1); omega) (hp.lays q (List.mem_of_getElem? h1)) h2 h3 h4 (σ := τ) (nx := ny) (c := 2) (by omega) h7 (by omega) h8
      have hparts := hp.parts
      have hlays := hp.lays
      have hoks := hp.ok
      have hck5 := hck (.ref 5)
      clear hcont hR hY0 hr hp
      generalize hps : p.parts = ps at *
      refine K_loopP (α := Nat × List Int × (Nat → AObj) × Nat) (fun (k, dl, τ, ny) => k ≤ ps.length ∧ dl.length = ps.length ∧ resP (x.partsGo p k (ps.drop k) dl) = R ∧ τ 2 = .box (ckC x p (.ref 5)) ∧ τ 3 = .box [.ptr 2 0] ∧ τ 5 = .arr 1 (ints dl) ∧ 5 < ny)
        (fun (k, dl, τ, ny) => ⟨sl [(5, .ptr 3 0), (78, .t (.sl Y)), (79, .i ps.length), (80, .i k)], τ, ny⟩) (fun a => ps.length - a.1) (0, (List.replicate ps.length infI).set 0 0, _, 6) ?_ (Imp.slots (by simp [go_sem]) rfl rfl) ?_
      · refine ⟨Nat.zero_le _, hdl0, hR', ?_, ?_, ?_, ?_⟩
        · simp [oput, hck5]
        · simp [oput]
        · simp [oput, ints, List.map_set, infI]
        · simp
      rintro ⟨k, dl, τ, ny⟩ ⟨g1, g2, g3, g4, g5, g6, g7⟩
      refine K_run hB 60 ?_
      simp [go_sem]
      refine fork_dec (fun hk => ?_) (fun hk => ?_)
      · have hkk : IntKind.i64.wrap ((k : Int) + 1) = ((k + 1 : Nat) : Int) := by rw [w64 ((k : Int) + 1) (by omega)]; rfl
        have hgk : ∀ h : k < Y.length, Y[k]'h = partT ps[k] := fun h => hYg k hk
        have hqk : ps[k]? = some ps[k] := List.getElem?_eq_getElem hk
        have hqm : ps[k] ∈ ps := List.getElem_mem _
        have hql := hparts _ hqm
        have hdl : (ints dl).length = dl.length := List.length_map _
        have hdg : ∀ h : k < (ints dl).length, (ints dl)[k]'h = [.i dl[k]] := fun h => ints_getS _ (by omega)
        have hgd : dl.getD k 0 = dl[k] := by rw [List.getD_eq_getElem?_getD, List.getElem?_eq_getElem (by omega)]; rfl
        have hdk : k < dl.length := by omega
        rw [List.drop_eq_getElem_cons hk] at g3
        have hlq := fun l (hl' : l ∈ ps[k]) n hn => hlead _ hqm l hl' n hn
        have hoq := hoks _ hqm
        generalize ps[k] = q at *
        have hpt : partT q = [.sl (q.map layT)] := rfl
        have n2 : ¬ 2 = ny := by omega
        have n3 : ¬ 3 = ny := by omega
        have n5 : ¬ 5 = ny := by omega
        by_cases d1 : dl[k] = infI
        · rw [Inst.partsGo, hgd, if_pos d1] at g3
          have d1' : dl[k] = 1152921504606846976 := d1
          simp [go_sem, hYl, hk, hgk, hpt, g4, g5, g6, n2, n3, n5, hck5, hdl, hdk, hdg, Nat.mod_one, d1', hkk]
          refine Next.mk (k + 1, dl, _, ny + 1) ?_ (Imp.slots (by simp [go_sem]) rfl rfl) (by simp only; omega)
          exact ⟨by simp only; omega, g2, g3, by simp [oput, n2, g4, hck5], by simp [oput, n3, g5], by simp [oput, n5, g6], by simp only; omega⟩
        · rw [partsGo_cons (by rw [hgd]; exact d1)] at g3
          have d1' : ¬ dl[k] = 1152921504606846976 := d1
          simp [go_sem, hYl, hk, hgk, hpt, g4, g5, g6, n2, n3, n5, hck5, hdl, hdk, hdg, Nat.mod_one, d1']
          generalize hG : x.partsGo p (k + 1) (ps.drop (k + 1)) = G at *
          have hZl : (q.map layT).length = q.length := List.length_map _
          have hZg : ∀ (k : Nat) (h : k < q.length), (q.map layT)[k]'(by rw [hZl]; exact h) = layT q[k] := fun k h => map_get layT q h _
          have hlq2 := hlays _ hqm
          generalize q.map layT = Z at *
          refine K_loopP (α := Nat × List Int × (Nat → AObj) × Nat) (fun (i, d, τ, ny) => i ≤ q.length ∧ d.length = ps.length ∧ resP ((x.partGo p k i (q.drop i) d).bind G) = R ∧ τ 2 = .box (ckC x p (.ref 5)) ∧ τ 3 = .box [.ptr 2 0] ∧ τ 5 = .arr 1 (ints d) ∧ 5 < ny)
            (fun (i, d, τ, ny) => ⟨sl [(5, .ptr 3 0), (8, .i k), (78, .t (.sl Y)), (79, .i ps.length), (80, .i k), (94, .t (.sl Z)), (95, .i q.length), (96, .i i)], τ, ny⟩) (fun a => q.length - a.1) (0, dl, _, ny + 1) ?_ (Imp.slots (by simp [go_sem, hZl]) rfl rfl) ?_
          · exact ⟨Nat.zero_le _, g2, g3, by simp [oput, n2, g4, hck5], by simp [oput, n3, g5], by simp [oput, n5, g6], by omega⟩
          clear g2 g3 g4 g5 g6 g7 n2 n3 n5 hdl hdg hgd hdk d1 d1'
          rintro ⟨i, d, τ, ny⟩ ⟨g1, g2, g3, g4, g5, g6, g7⟩
          refine K_run hB 60 ?_
          simp [go_sem]
          refine fork_dec (fun hi => ?_) (fun hi => ?_)
          · have hii : IntKind.i64.wrap ((i : Int) + 1) = ((i + 1 : Nat) : Int) := by rw [w64 ((i : Int) + 1) (by omega)]; rfl
            have hgi : ∀ h : i < Z.length, Z[i]'h = layT q[i] := fun h => hZg i hi
            rw [List.drop_eq_getElem_cons hi, partGo_cons, Option.bind_assoc] at g3
            have hln := fun n (hn : n ∈ q[i]) => hlq _ (List.getElem_mem hi) n hn
            have hon := hoq _ (List.getElem_mem hi)
            have hll := hlq2 _ (List.getElem_mem hi)
            generalize q[i] = l at *
            generalize hG2 : (fun d => (x.partGo p k (i + 1) (q.drop (i + 1)) d).bind G) = G2 at *
            have hly : layT l = [.sl (l.map Spot.t)] := rfl
            have hVl : (l.map Spot.t).length = l.length := List.length_map _
            have hVg : ∀ (k : Nat) (h : k < l.length), (l.map Spot.t)[k]'(by rw [hVl]; exact h) = l[k].t := fun k h => map_get Spot.t l h _
            simp [go_sem, hZl, hi, hgi, hly]
            refine K_loopP (α := Nat × List Int × (Nat → AObj) × Nat) (fun (j, d, τ, ny) => j ≤ l.length ∧ d.length = ps.length ∧ resP ((x.layGo p k i (l.drop j) d).bind G2) = R ∧ τ 2 = .box (ckC x p (.ref 5)) ∧ τ 3 = .box [.ptr 2 0] ∧ τ 5 = .arr 1 (ints d) ∧ 5 < ny)
              (fun (j, d, τ, ny) => ⟨sl [(5, .ptr 3 0), (8, .i k), (10, .i i), (78, .t (.sl Y)), (79, .i ps.length), (80, .i k), (94, .t (.sl Z)), (95, .i q.length), (96, .i i), (101, .t (.sl (l.map Spot.t))), (102, .i l.length), (103, .i j)], τ, ny⟩) (fun a => l.length - a.1) (0, d, τ, ny) ?_ (Imp.slots (by simp [go_sem, hVl]) rfl rfl) ?_
            · exact ⟨Nat.zero_le _, g2, g3, g4, g5, g6, g7⟩
            clear g2 g3 g4 g5 g6 g7
            rintro ⟨j, d, τ, ny⟩ ⟨g1, g2, g3, g4, g5, g6, g7⟩
            refine K_run hB 60 ?_
            simp [go_sem]
            refine fork_dec (fun hj => ?_) (fun hj => ?_)
            · have hjj : IntKind.i64.wrap ((j : Int) + 1) = ((j + 1 : Nat) : Int) := by rw [w64 ((j : Int) + 1) (by omega)]; rfl
              have hgj : ∀ h : j < (l.map Spot.t).length, (l.map Spot.t)[j]'h = l[j].t := fun h => hVg j hj
              have hgd : d.getD k 0 = d[k] := by rw [List.getD_eq_getElem?_getD, List.getElem?_eq_getElem (by omega)]; rfl
              rw [List.drop_eq_getElem_cons hj, Inst.layGo, hgd] at g3
              obtain ⟨hn0, hn1, hn2⟩ := hln _ (List.getElem_mem hj)
              have hn3 := hon _ (List.getElem_mem hj)
              generalize l[j] = n at *
              have n2 : ¬ 2 = ny := by omega
              have n3 : ¬ 3 = ny := by omega
              have n5 : ¬ 5 = ny := by omega
              have hh := fun τ' h1 h2 => hhold τ' (ny + 1) k i q n d hqk (by omega) (by omega) hn2 hn3 (by omega) h1 h2
              simp [go_sem, hVl, hj, hgj, Spot.t, g5, n3]
              refine K_call rfl rfl rfl (args := [.ptr 2 0, .i k, .i i, n.a]) (f := 17) (by simp [go_sem, Spot.a, Spot.cs]) (by simp [go_sem, hB]) (hh _ (by simp [oput, n2, g4]) (by simp [oput, n5, g6])) ?_
              cases hhb : x.holdsB p k i n d[k] with
              | false =>
                rw [hhb, if_neg (by simp)] at g3
                subst g3
                refine K_run hB 100 ?_
                simp [go_sem]
                rfl
              | true =>
                rw [hhb, if_pos rfl] at g3
                have hw1 : IntKind.i64.wrap (n.part - 1) = n.part - 1 := w64 _ (by omega)
                by_cases e1 : (k : Int) < n.part - 1
                · obtain ⟨o, ho⟩ : ∃ o : Nat, n.part - 1 = (o : Int) := ⟨(n.part - 1).toNat, by omega⟩
                  have hst : stepD k i n d = d.set o (min (d.getD o 0) (IntKind.i64.wrap (d.getD k 0 + i))) := by
                    rw [stepD, if_pos e1, show (n.part - 1).toNat = o by omega]
                  have hod : o < d.length := by omega
                  have hgo : d.getD o 0 = d[o] := by rw [List.getD_eq_getElem?_getD, List.getElem?_eq_getElem hod]; rfl
                  rw [hst, hgo, hgd] at g3
                  have hdl : (ints d).length = d.length := List.length_map _
                  have hdk : k < d.length := by omega
                  have hdg : ∀ h : k < (ints d).length, (ints d)[k]'h = [.i d[k]] := fun h => ints_getS _ hdk
                  have hdo : ∀ h : o < (ints d).length, (ints d)[o]'h = [.i d[o]] := fun h => ints_getS _ hod
                  have e1' : k < o := by omega
                  rw [ho] at hw1
                  generalize d[k] = dk at *
                  generalize d[o] = dO at *
                  refine K_run hB 100 ?_
                  simp [go_sem, ho, hw1, e1']
                  refine K_drawnT [23] rfl (by rw [hB]; kernel_rfl) (by kernel_rfl) fun ht => ?_
                  refine K_run hB 100 ?_
                  simp [go_sem, ht, n2, n3, n5, g4, g5, g6, hck5, hdl, hdk, hod, hdg, hdo, Nat.mod_one, hjj]
                  refine Next.mk (j + 1, d.set o (min dO (IntKind.i64.wrap (dk + i))), _, ny + 1) ?_ (Imp.slots (by simp [go_sem]) rfl rfl) (by simp only; omega)
                  exact ⟨by simp only; omega, by simp only [List.length_set]; exact g2, g3, by simp [oput, n2, g4, hck5], by simp [oput, n3, g5], by simp [oput, n5, g6, ints, List.map_set], by simp only; omega⟩
                · have hst : stepD k i n d = d := by rw [stepD, if_neg e1]
                  rw [hst] at g3
                  refine K_run hB 100 ?_
                  simp [go_sem, hw1, e1, hjj]
                  refine Next.mk (j + 1, d, _, ny + 1) ?_ (Imp.slots (by simp [go_sem]) rfl rfl) (by simp only; omega)
                  exact ⟨by simp only; omega, g2, g3, by simp [oput, n2, g4], by simp [oput, n3, g5], by simp [oput, n5, g6], by simp only; omega⟩
            · have : j = l.length := by omega
              subst this
              rw [List.drop_length, Inst.layGo, Option.bind_some, ← hG2] at g3
              simp [go_sem, hii]
              refine Next.mk (i + 1, d, τ, ny) ?_ (Imp.slots (by simp [go_sem]) rfl rfl) (by simp only; omega)
              exact ⟨by simp only; omega, g2, g3, g4, g5, g6, g7⟩
          · have : i = q.length := by omega
            subst this
            rw [List.drop_length, Inst.partGo, Option.bind_some, ← hG] at g3
            simp [go_sem, hkk]
            refine Next.mk (k + 1, d, τ, ny) ?_ (Imp.slots (by simp [go_sem]) rfl rfl) (by simp only; omega)
            exact ⟨by simp only; omega, g2, g3, g4.trans (by rw [hck5]), g5, g6, g7⟩
      · have : k = ps.length := by omega
        subst this
        rw [List.drop_length, Inst.partsGo, resP] at g3
        subst g3
        simp [go_sem]
end Go.Proofs.YtlhmchdfmjfmgaaGreat

/- Proofs: the laws are awake. -/
set_option maxRecDepth 4000
set_option maxHeartbeats 1000000
namespace Go.Proofs.YtlhmchdfmjfmgaaGreat
open Go Go.Proofs.YtlhmchdfmjfmgaaGreat.R
/-- The proof that is made of nothing. -/
def Inst.rootP (x : Inst) (m : Int) : Prf := ⟨m, [[[⟨x.rootS, 0, 0⟩]]]⟩
theorem make_pure (x : Inst) (hl : x.stops.length < 2 ^ 31) : Pure P 10 [x.a, .agg [.i 4, .t (.sl []), .i 1152921504606846976, .i 0, .i 0, .t (.sl [])]] ((x.rootP 0).a) := by
  refine pure_of Tryz.func10 rfl rfl (by simp [Tryz.f10]) (by simp [bnd, bnd.bndL, Inst.a]) (by simp [bnd, bnd.bndL, Prf.a, Prf.cs]) fun B hB hnx => ?_
  simp only [Tryz.f10] at hB ⊢
  have hr := root_pureS x (by omega)
  rw [Inst.rootP]
  generalize x.rootS = r at *
  refine K_run hB 100 ?_
  simp [go_sem, Inst.a]
  refine K_loopP (α := Unit) (fun _ => True) (fun _ => ⟨sl [(2, .ptr 0 0), (3, .ptr 1 0), (4, .ptr 2 0), (6, .ptr 4 0), (17, .i 0), (18, .i 0)], _, _⟩) (fun _ => 0) () trivial (Imp.slots (by simp [go_sem]) rfl rfl) ?_
  intro _ _
  refine K_run hB 60 ?_
  simp [go_sem]
  refine K_call rfl rfl rfl (args := [x.a]) (f := 11) (by simp [go_sem, Inst.a]) (by simp [go_sem, hB]) ((hr).spec _ _) ?_
  refine K_run hB 100 ?_
  simp [go_sem, State.a, State.cs]
  rfl
theorem small_check : small.checkE (small.rootP 0) = 0 ∧ small.checkE ((small.rootP 0).less 13) = 10 := by decide +kernel
theorem awake20_pure : Pure P 4 [] (.b true) := by
  refine pure_of Tryz.func4 rfl rfl (by simp [Tryz.f4]) (by simp [bnd, bnd.bndL]) (by simp [bnd, bnd.bndL]) fun B hB hnx => ?_
  simp only [Tryz.f4] at hB ⊢
  refine K_run hB 100 ?_
  simp [go_sem]
  refine K_call rfl rfl rfl (args := []) (f := 9) (by simp [go_sem]) (by simp [go_sem, hB]) ((small_pure).spec _ _) ?_
  have hp := parse_pure smallB (by decide) (by decide)
  rw [small_parse] at hp
  refine K_run hB 100 ?_
  simp [go_sem, small_bytes]
  refine K_call rfl rfl rfl (args := [.t (.sl (byt smallB))]) (f := 8) (by simp [go_sem]) (by simp [go_sem, hB]) ((hp).spec _ _) ?_
  have hl : small.stops.length < 2 ^ 31 := by decide
  have hr := root_pureS small (by omega)
  have hmk := make_pure small hl
  have hfine : ∀ m, ((small.rootP 0).less m).Fine := fun m => ⟨by simp [Prf.less, Inst.rootP], by simp [Prf.less, Inst.rootP], by simp [Prf.less, Inst.rootP], by simp [Prf.less, Inst.rootP]; exact rootS_ok small⟩
  have h1 := check_pure small ((small.rootP 0).less 0) hl (hfine 0)
  have h2 := check_pure small ((small.rootP 0).less 13) hl (hfine 13)
  have e1 : small.checkE ((small.rootP 0).less 0) = 0 := small_check.1
  rw [e1] at h1
  rw [small_check.2] at h2
  have hpa : (small.rootP 0).a = .agg [.i 0, .t (.sl ([[[(⟨small.rootS, 0, 0⟩ : Spot)]]].map partT))] := rfl
  have hpb : ∀ m, ((small.rootP 0).less m).a = .agg [.i m, .t (.sl ([[[(⟨small.rootS, 0, 0⟩ : Spot)]]].map partT))] := fun m => rfl
  have hpt : ([[[(⟨small.rootS, 0, 0⟩ : Spot)]]].map partT) = [[.sl [[.sl [(⟨small.rootS, 0, 0⟩ : Spot).t]]]]] := rfl
  rw [hpt] at hpa hpb
  rw [hpa] at hmk
  rw [hpb] at h1 h2
  generalize small.rootS = r at *
  generalize small = x at *
  refine K_run hB 100 ?_
  simp [go_sem, Inst.a]
  refine K_call rfl rfl rfl (args := [x.a, .agg [.i 4, .fsl [], .i 1152921504606846976, .i 0, .i 0, .fsl []]]) (f := 10) (by simp [go_sem, Inst.a]) (by simp [go_sem, hB]) ((Pure.loose hmk (by simp [bnd, bnd.bndL, Inst.a])).spec _ _) ?_
  refine K_run hB 100 ?_
  simp [go_sem]
  refine K_call rfl rfl rfl (args := [x.a, .agg [.i 0, .t (.sl [[.sl [[.sl [(⟨r, 0, 0⟩ : Spot).t]]]]])]]) (f := 6) (by simp [go_sem, Inst.a]) (by simp [go_sem, hB]) ((h1).spec _ _) ?_
  refine K_run hB 100 ?_
  simp [go_sem]
  refine K_call rfl rfl rfl (args := [x.a, .agg [.i 13, .t (.sl [[.sl [[.sl [(⟨r, 0, 0⟩ : Spot).t]]]]])]]) (f := 6) (by simp [go_sem, Inst.a]) (by simp [go_sem, hB]) ((h2).spec _ _) ?_
  refine K_run hB 100 ?_
  simp [go_sem]
  refine K_drawn [] rfl (by rw [hB]; kernel_rfl) ?_
  refine K_run hB 100 ?_
  simp [go_sem, Spot.t]
  refine K_dCallP rfl rfl rfl (args := [x.a]) (f := 11) (by simp [go_sem, Inst.a]) (hr) ?_
  refine K_dEq (op := .eql) (t := 49) (t' := 49) (x := .tmp 53) (y := .tmp 55) (xs := r.cs) (ys := r.cs) (by simp [go_sem]) rfl (by simp [go_sem, State.cs]) (by simp [go_sem, State.a, State.cs]) state_guard (state_eq r r) rfl ?_
  refine K_run hB 100 ?_
  simp [go_sem]
end Go.Proofs.YtlhmchdfmjfmgaaGreat

/- Nodes that no other one leaves without use: the document's. -/
set_option maxRecDepth 4000
namespace Go.Proofs.YtlhmchdfmjfmgaaGreat
open Go Go.Proofs.YtlhmchdfmjfmgaaGreat.R
theorem rcovers_pure (a b : State) (ha : a.ok) (hb : b.ok) : Pure P 71 [a.a, b.a] (.b (coversB a b)) := by
  generalize hR : coversB a b = R
  refine pure_of Tryz.func71 rfl rfl (by simp [Tryz.f71]) (by simp [bnd, bnd.bndL, State.a, State.cs]) (by simp [bnd, bnd.bndL]) fun B hB hnx => ?_
  simp only [Tryz.f71] at hB ⊢
  rw [coversB] at hR
  have hw1 := rwithin_pure a.must b.must ha.must hb.must
  have hw2 := rwithin_pure a.on b.on ha.on hb.on
  have hw3 := rwithin_pure b.can a.can hb.can ha.can
  generalize withinB a.must b.must = p1 at *
  generalize withinB a.on b.on = p2 at *
  generalize withinB b.can a.can = p3 at *
  refine K_run hB 100 ?_
  simp [go_sem, State.a, State.cs]
  refine K_call rfl rfl rfl (args := [.u a.must, .u b.must]) (f := 85) (by simp [go_sem]) (by simp [go_sem, hB]) ((hw1).spec _ _) ?_
  refine K_run hB 100 ?_
  simp [go_sem]
  refine K_call rfl rfl rfl (args := [.u a.on, .u b.on]) (f := 85) (by simp [go_sem]) (by simp [go_sem, hB]) ((hw2).spec _ _) ?_
  refine K_run hB 100 ?_
  simp [go_sem]
  refine K_call rfl rfl rfl (args := [.u b.can, .u a.can]) (f := 85) (by simp [go_sem]) (by simp [go_sem, hB]) ((hw3).spec _ _) ?_
  by_cases c1 : a.spot = b.spot <;> by_cases c2 : a.car ≤ b.car <;> by_cases c3 : a.time ≤ b.time <;> by_cases c4 : a.load ≤ b.load <;> by_cases c5 : a.first ≤ b.first <;> simp [c1, c2, c3, c4, c5] at hR <;> refine K_run hB 100 ?_ <;> simp [go_sem, c1, c2, c3, c4, c5] <;> first | exact hR | (subst hR; cases p1 <;> cases p2 <;> cases p3 <;> simp [go_sem, c1, c2, c3, c4, c5])
end Go.Proofs.YtlhmchdfmjfmgaaGreat

/- Proofs: dead states, what is behind a spot: the document's. -/
set_option maxRecDepth 4000
set_option maxHeartbeats 1000000
namespace Go.Proofs.YtlhmchdfmjfmgaaGreat
open Go Go.Proofs.YtlhmchdfmjfmgaaGreat.R
theorem rdead_pure (x : Inst) (s : State) (c least : Int) (hl : x.stops.length < 2 ^ 31) (ho : s.ok) : Pure P 42 [x.a, s.a, .i c, .i least] (.b (x.deadB s c least)) := by
  have ha := rat_pure x s hl ho
  have hs := rsum_pure [c, x.low s] (by simp)
  rw [Inst.deadB]
  generalize x.low s = d at *
  refine pure_of Tryz.func42 rfl rfl (by simp [Tryz.f42]) (by simp [bnd, bnd.bndL, Inst.a, State.a, State.cs]) (by simp [bnd, bnd.bndL]) fun B hB hnx => ?_
  simp only [Tryz.f42] at hB ⊢
  refine K_run hB 100 ?_
  simp [go_sem, Inst.a, State.a, State.cs]
  refine K_call rfl rfl rfl (args := [x.a, s.a]) (f := 66) (by simp [go_sem, Inst.a, State.a, State.cs]) (by simp [go_sem, hB]) ((ha).spec _ _) ?_
  refine K_run hB 100 ?_
  simp [go_sem]
  refine K_call rfl rfl rfl (args := [.fsl (ints [c, d])]) (f := 44) (by simp [go_sem, ints]) (by simp [go_sem, hB]) ((Pure.loose hs (by simp [bnd])).spec _ _) ?_
  refine K_run hB 100 ?_
  simp [go_sem]
theorem rbehind_pure (x : Inst) (p : Prf) (n : Spot) (next : List Spot) (hl : x.stops.length < 2 ^ 31) (ho : n.s.ok) (hnl : next.length < 2 ^ 31) (hno : ∀ m ∈ next, m.s.ok) : Pure P 46 [x.a, p.a, n.a, .t (.sl (next.map Spot.t))] (.b (x.goesB p.least n next)) := by
  generalize hR : x.goesB p.least n next = R
  refine pure_of Tryz.func46 rfl rfl (by simp [Tryz.f46]) (by simp [bnd, bnd.bndL, Inst.a, Prf.a, Prf.cs, Spot.a, Spot.cs]) (by simp [bnd, bnd.bndL]) fun B hB hnx => ?_
  simp only [Tryz.f46] at hB ⊢
  have hms := rmoves_pure x n.s hl ho
  have hmv := fun j => rmove_pure x n.s j (by omega) ho
  have hmok := fun j => move_ok x j ho
  have hgo : ∀ j, x.goB p.least n next j = (x.deadB (x.move n.s j).1 (sumI [n.cost, (x.move n.s j).2.1]) p.least || next.any fun m => decide (m.cost ≤ sumI [n.cost, (x.move n.s j).2.1]) && coversB m.s (x.move n.s j).1) := fun j => rfl
  have hk33 : (x.moves n.s).length < 2 ^ 63 := by
    rw [moves_can]
    have := canB_len (fun k => (x.move n.s k).2.2) x.stops.length
    omega
  have hml : (ints (x.moves n.s)).length = (x.moves n.s).length := List.length_map _
  have hmg : ∀ (i : Nat) (h : i < (x.moves n.s).length), (ints (x.moves n.s))[i]'(by rw [hml]; exact h) = [.i ((x.moves n.s)[i])] := fun i h => ints_getS _ h
  have hVl : (next.map Spot.t).length = next.length := List.length_map _
  have hVg : ∀ (k : Nat) (h : k < next.length), (next.map Spot.t)[k]'(by rw [hVl]; exact h) = next[k].t := fun k h => map_get Spot.t next h _
  rw [Inst.goesB] at hR
  refine K_run hB 100 ?_
  simp [go_sem, Inst.a, Prf.a, Prf.cs, Spot.a, Spot.cs]
  refine K_call rfl rfl rfl (args := [x.a, n.s.a]) (f := 69) (by simp [go_sem, Inst.a, State.a, State.cs]) (by simp [go_sem, hB]) ((hms).spec _ _) ?_
  generalize hY : ints (x.moves n.s) = Y at *
  generalize x.moves n.s = M at *
  generalize next.map Spot.t = V at *
  have hPs : (p.parts.map partT) = p.parts.map partT := rfl
  generalize p.parts.map partT = PT at *
  refine K_run hB 100 ?_
  simp [go_sem]
  refine K_loopP (α := Nat × (Nat → AObj) × Nat) (fun (k, τ, ny) => k ≤ M.length ∧ (M.drop k).all (x.goB p.least n next) = R ∧ τ 0 = .box x.cs ∧ τ 1 = .box [.i p.least, .t (.sl PT)] ∧ τ 2 = .box n.cs ∧ 2 < ny)
    (fun (k, τ, ny) => ⟨sl [(3, .t (.sl V)), (4, .ptr 0 0), (5, .ptr 1 0), (6, .ptr 2 0), (9, .t (.sl Y)), (10, .i k)], τ, ny⟩) (fun a => M.length - a.1) (0, _, 3) ⟨Nat.zero_le _, hR, by simp [oput, Inst.cs], by simp [oput], by simp [oput, Spot.cs], by omega⟩ (Imp.slots (by simp [go_sem]) rfl rfl) ?_
  rintro ⟨k, τ, ny⟩ ⟨g1, g2, g3, g4, g5, g6⟩
  refine K_run hB 60 ?_
  simp [go_sem, hml]
  refine fork_dec (fun hi => ?_) (fun hi => ?_)
  · have hii : IntKind.i64.wrap ((k : Int) + 1) = ((k + 1 : Nat) : Int) := by rw [w64 ((k : Int) + 1) (by omega)]; rfl
    have hgeti : ∀ h : k < Y.length, Y[k]'h = [.i M[k]] := fun h => hmg k hi
    rw [List.drop_eq_getElem_cons hi, List.all_cons] at g2
    generalize M[k] = j at *
    have hmj := hmv j
    have hoj := hmok j
    have hgj := hgo j
    generalize x.goB p.least n next j = G at *
    generalize x.move n.s j = W at *
    obtain ⟨t, d, is⟩ := W
    simp only at hgj hoj
    have hsum := rsum_pure [n.cost, d] (by simp)
    generalize hcost : sumI [n.cost, d] = cost at *
    have hdead := rdead_pure x t cost p.least hl hoj
    have hcv := fun (i : Nat) (h : i < next.length) => rcovers_pure next[i].s t (hno _ (List.getElem_mem _)) hoj
    have n0 : ¬ 0 = ny := by omega
    have n1 : ¬ 1 = ny := by omega
    have n2 : ¬ 2 = ny := by omega
    simp [go_sem]
    refine K_drawnF [12, 13] [0, 1, 2, 3, 4, 5, 6, 7, 8, 9, 10, 11] rfl (by rw [hB]; kernel_rfl) (by kernel_rfl) fun ht hf' => ?_
    refine K_run hB 100 ?_
    simp [go_sem, ht, hf', g3, g5, Inst.cs, Spot.cs, hml, hi, hgeti]
    refine K_dCallP rfl rfl rfl (args := [x.a, n.s.a, .i j]) (f := 70) (by simp [go_sem, Inst.a, State.a, State.cs]) (hmj) ?_
    refine K_run hB 100 ?_
    simp [go_sem, ht, hf', mv, State.a, State.cs, g3, g4, g5, n0, n1, n2, Inst.cs, Spot.cs]
    refine K_call rfl rfl rfl (args := [.fsl (ints [n.cost, d])]) (f := 44) (by simp [go_sem, ints]) (by simp [go_sem, hB]) ((Pure.loose hsum (by simp [bnd])).spec _ _) ?_
    refine K_run hB 100 ?_
    simp [go_sem, g3, g4, n0, n1, Inst.cs]
    refine K_call rfl rfl rfl (args := [x.a, t.a, .i cost, .i p.least]) (f := 42) (by simp [go_sem, Inst.a, State.a, State.cs]) (by simp [go_sem, hB]) ((hdead).spec _ _) ?_
    refine K_run hB 100 ?_
    simp [go_sem]
    generalize x.deadB t cost p.least = dd at *
    refine K_loopP (α := Nat × Bool × (Nat → AObj) × Nat) (fun (i, b, τ, mm) => i ≤ next.length ∧ b = (dd || (next.take i).any fun m => decide (m.cost ≤ cost) && coversB m.s t) ∧ τ 0 = .box x.cs ∧ τ 1 = .box [.i p.least, .t (.sl PT)] ∧ τ 2 = .box n.cs ∧ τ ny = .box t.cs ∧ ny < mm) (fun (i, b, τ, mm) => ⟨sl [(3, .t (.sl V)), (4, .ptr 0 0), (5, .ptr 1 0), (6, .ptr 2 0), (9, .t (.sl Y)), (10, .i k), (11, .ptr ny 0), (14, .i cost), (15, .b b), (16, .i i)], τ, mm⟩) (fun a => next.length - a.1) (0, dd, _, ny + 1) ⟨Nat.zero_le _, by simp, by simp [oput, n0, g3], by simp [oput, n1, g4], by simp [oput, n2, g5], by simp [oput, State.cs], by omega⟩ (Imp.slots (by simp [go_sem]) rfl rfl) ?_
    clear g3 g4 g5 g6
    rintro ⟨i, b, τ, mm⟩ ⟨k1, k2, g3, g4, g5, g7, g6⟩
    refine K_run hB 60 ?_
    simp [go_sem, hVl]
    refine fork_dec (fun hi2 => ?_) (fun hi2 => ?_)
    · have hjj : IntKind.i64.wrap ((i : Int) + 1) = ((i + 1 : Nat) : Int) := by rw [w64 ((i : Int) + 1) (by omega)]; rfl
      have hgv : ∀ h : i < V.length, V[i]'h = next[i].t := fun h => hVg i hi2
      have htk : next.take (i + 1) = next.take i ++ [next[i]] := (List.take_append_getElem hi2).symm
      have hcvi := hcv i hi2
      generalize next[i] = m at *
      simp [go_sem]
      refine K_drawn [] rfl (by rw [hB]; kernel_rfl) ?_
      refine K_run hB 100 ?_
      simp [go_sem, hVl, hi2, hgv, Spot.t, g7, State.cs]
      refine K_dCallP rfl rfl rfl (args := [m.s.a, t.a]) (f := 71) (by simp [go_sem, State.a, State.cs]) (hcvi) ?_
      have hb2 : (dd || (next.take (i + 1)).any fun m => decide (m.cost ≤ cost) && coversB m.s t) = (b || (coversB m.s t && decide (m.cost ≤ cost))) := by
        rw [htk, List.any_append, List.any_cons, List.any_nil, Bool.or_false, ← Bool.or_assoc, ← k2, Bool.and_comm]
      generalize coversB m.s t = cv at *
      generalize hv : (dd || (next.take (i + 1)).any fun m => decide (m.cost ≤ cost) && coversB m.s t) = v at *
      by_cases hmc : m.cost ≤ cost <;> simp only [hmc, decide_true, decide_false] at hb2 <;> cases b <;> cases cv <;> (
        refine K_run hB 100 ?_
        simp [go_sem, hVl, hi2, hgv, Spot.t, hjj, hmc]
        refine Next.mk (i + 1, v, τ, mm) ⟨by simp only; omega, hv.symm, g3, g4, g5, g7, g6⟩ (Imp.slots (by simp [go_sem, hmc, hb2]) rfl rfl) (by simp only; omega))
    · have : i = next.length := by omega
      subst this
      rw [List.take_length] at k2
      have hG : G = b := by rw [hgj, k2]
      rw [hG] at g2
      cases b with
      | false =>
        rw [Bool.false_and] at g2
        subst g2
        simp [go_sem]
      | true =>
        rw [Bool.true_and] at g2
        simp [go_sem, hii]
        exact Next.mk (k + 1, τ, mm) ⟨by simp only; omega, g2, g3, g4, g5, by simp only; omega⟩ (Imp.slots (by simp [go_sem]) rfl rfl) (by simp only; omega)
  · have : k = M.length := by omega
    subst this
    rw [List.drop_length, List.all_nil] at g2
    simp [go_sem]
    exact g2.symm
end Go.Proofs.YtlhmchdfmjfmgaaGreat

/- Proofs: is nothing wrong with a spot: the document's. -/
set_option maxRecDepth 4000
set_option maxHeartbeats 1000000
namespace Go.Proofs.YtlhmchdfmjfmgaaGreat
open Go Go.Proofs.YtlhmchdfmjfmgaaGreat.R
theorem rholds_pure (x : Inst) (p : Prf) (n : Spot) (k i : Nat) (dk dd : Int) (q : List (List Spot)) (hl : x.stops.length < 2 ^ 31) (ho : n.s.ok) (hpl : p.parts.length < 2 ^ 31) (hq : p.parts[k]? = some q) (hql : q.length < 2 ^ 31) (hqn : ∀ l ∈ q, l.length < 2 ^ 31) (hqo : ∀ l ∈ q, ∀ m ∈ l, m.s.ok) (hi : i < 2 ^ 31) (hdd : dd = IntKind.i64.wrap (dk + i)) (hlead : 0 < n.part → ∃ j f, n.part = ((j : Nat) : Int) + 1 ∧ p.first j = some f) : Pure P 20 [x.a, p.a, .i k, .i i, n.a, .i dd] (.b (x.holdsB p k i n dk)) := by
  generalize hR : x.holdsB p k i n dk = R
  refine pure_of Tryz.func20 rfl rfl (by simp [Tryz.f20]) (by simp [bnd, bnd.bndL, Inst.a, Prf.a, Prf.cs, Spot.a, Spot.cs]) (by simp [bnd, bnd.bndL]) fun B hB hnx => ?_
  simp only [Tryz.f20] at hB ⊢
  have hdead := rdead_pure x n.s n.cost p.least hl ho
  have hen := rend_pure x n.s (by omega) ho
  have hdeep := rdeep_pure x (by omega)
  have hgoes := fun (nx : List Spot) (h1 : nx.length < 2 ^ 31) (h2 : ∀ m ∈ nx, m.s.ok) => rbehind_pure x p n nx hl ho h1 h2
  rw [Inst.holdsB, hq, Option.getD_some, ← hdd] at hR
  obtain ⟨hkp, hqk⟩ := List.getElem?_eq_some_iff.1 hq
  have hYl : (p.parts.map partT).length = p.parts.length := List.length_map _
  have hY : ∀ h : k < (p.parts.map partT).length, (p.parts.map partT)[k]'h = [.sl (q.map layT)] := fun h => by rw [List.getElem_map, hqk]; rfl
  have hY2 : ∀ (j : Nat) (f : Spot) (l0 : List Spot) (q0 : List (List Spot)) (hj : j < p.parts.length), p.parts[j] = (f :: l0) :: q0 → ∀ h : j < (p.parts.map partT).length, (p.parts.map partT)[j]'h = [.sl ([.sl (f.t :: l0.map Spot.t)] :: q0.map layT)] := fun j f l0 q0 hj hpj h => by rw [List.getElem_map, hpj]; rfl
  have hQl : (q.map layT).length = q.length := List.length_map _
  have hpa : p.a = .agg [.i p.least, .t (.sl (p.parts.map partT))] := rfl
  refine K_run hB 100 ?_
  simp [go_sem, Inst.a, Prf.a, Prf.cs, Spot.a, Spot.cs]
  refine K_call rfl rfl rfl (args := [x.a, n.s.a, .i n.cost, .i p.least]) (f := 42) (by simp [go_sem, Inst.a, State.a, State.cs]) (by simp [go_sem, hB]) ((hdead).spec _ _) ?_
  by_cases c1 : x.deadB n.s n.cost p.least = true
  · rw [if_pos c1] at hR
    subst hR
    refine K_run hB 100 ?_
    simp [go_sem, c1]
  rw [if_neg c1] at hR
  by_cases c2 : 0 < n.part
  · rw [if_pos c2] at hR
    obtain ⟨j, f, hj, hf⟩ := hlead c2
    obtain ⟨hjl, l0, q0, hpj⟩ := first_some hf
    rw [Prf.leadsB, hj, show ((j : Int) + 1 - 1).toNat = j by omega, hf] at hR
    simp only at hR
    have w1 := w64 ((j : Int) + 1 - 1) (by omega)
    have e1 : (j : Int) + 1 - 1 = j := by omega
    have w1' : IntKind.i64.wrap (j : Int) = j := w64 _ (by omega)
    rw [e1] at w1 hR
    have hYj := hY2 j f l0 q0 hjl hpj
    generalize hY0 : p.parts.map partT = Y at *
    by_cases c3 : k < j
    rotate_left
    · rw [decide_eq_false (by omega), Bool.false_and] at hR
      subst hR
      refine K_run hB 100 ?_
      simp [go_sem, c1, c2, hj, w1, w1', e1, hYl, hjl, hYj, Spot.t, c3]
    rw [decide_eq_true (by omega), Bool.true_and] at hR
    refine K_run hB 100 ?_
    simp [go_sem, c1, c2, hj, w1, w1', e1, hYl, hjl, hYj, Spot.t, c3]
    refine K_eq (op := .eql) (t := 49) (t' := 49) (x := .tmp 49) (y := .tmp 51) (xs := f.s.cs) (ys := n.s.cs) rfl rfl (by simp [go_sem, hB]) (by simp [go_sem, State.cs]) (by simp [go_sem, State.cs]) state_guard (state_eq f.s n.s) rfl ?_
    by_cases c4 : f.s = n.s
    · rw [decide_eq_true c4, Bool.true_and] at hR
      refine K_run hB 100 ?_
      simp [go_sem, c4]
      exact hR
    · rw [decide_eq_false c4, Bool.false_and] at hR
      subst hR
      refine K_run hB 100 ?_
      simp [go_sem, c4]
  rw [if_neg c2] at hR
  refine K_run hB 100 ?_
  simp [go_sem, c1, c2]
  refine K_call rfl rfl rfl (args := [x.a, n.s.a]) (f := 43) (by simp [go_sem, Inst.a, State.a, State.cs]) (by simp [go_sem, hB]) ((hen).spec _ _) ?_
  generalize x.endS n.s = E at *
  obtain ⟨ec, eb⟩ := E
  simp only at hR
  have hsum := rsum_pure [n.cost, ec] (by simp)
  generalize sumI [n.cost, ec] = sm at *
  have w1 : IntKind.i64.wrap ((i : Int) + 1) = (i : Int) + 1 := w64 _ (by omega)
  have c5' : i + 1 < q.length → (i : Int) + 1 < q.length := fun h => by omega
  have c8' : ¬ i + 1 < q.length → ¬ (i : Int) + 1 < q.length := fun h => by omega
  have c6' : (0 : Int) ≤ (i : Int) + 1 := by omega
  refine K_run hB 100 ?_
  simp [go_sem]
  refine K_drawn [] rfl (by rw [hB]; kernel_rfl) ?_
  cases eb with
  | false =>
    rw [if_neg (by simp)] at hR
    refine K_run hB 100 ?_
    simp [go_sem]
    refine K_call rfl rfl rfl (args := [x.a]) (f := 45) (by simp [go_sem, Inst.a]) (by simp [go_sem, hB]) ((hdeep).spec _ _) ?_
    by_cases c4 : x.deep ≤ dd
    · rw [if_pos c4] at hR
      subst hR
      refine K_run hB 100 ?_
      simp [go_sem, c4]
    rw [if_neg c4] at hR
    by_cases c5 : i + 1 < q.length
    · have hnl : (q[i + 1]).length < 2 ^ 31 := hqn _ (List.getElem_mem _)
      have hno := hqo _ (List.getElem_mem c5)
      have hQg : ∀ h : i + 1 < (q.map layT).length, (q.map layT)[i + 1]'h = [.sl ((q[i + 1]).map Spot.t)] := fun h => by rw [List.getElem_map]; rfl
      have hgd : q.getD (i + 1) [] = q[i + 1] := by rw [List.getD_eq_getElem?_getD, List.getElem?_eq_getElem c5]; rfl
      rw [hgd] at hR
      generalize q[i + 1] = next at *
      have hg := hgoes next hnl hno
      generalize x.goesB p.least n next = G at *
      generalize q.map layT = Q at *
      generalize p.parts.map partT = Y at *
      refine K_run hB 100 ?_
      simp [go_sem, c4, hYl, hkp, hY, w1, c5, hQl, hQg, c5' c5, c6']
      refine K_call rfl rfl rfl (args := [x.a, p.a, n.a, .t (.sl (next.map Spot.t))]) (f := 46) (by simp [go_sem, Inst.a, hpa, Spot.a, Spot.cs]) (by simp [go_sem, hB]) ((hg).spec _ _) ?_
      refine K_run hB 100 ?_
      simp [go_sem]
      exact hR
    · have hgd : q.getD (i + 1) [] = [] := by rw [List.getD_eq_getElem?_getD, List.getElem?_eq_none (by omega)]; rfl
      rw [hgd] at hR
      have hg := hgoes [] (by simp) (by simp)
      generalize x.goesB p.least n [] = G at *
      generalize q.map layT = Q at *
      generalize p.parts.map partT = Y at *
      refine K_run hB 100 ?_
      simp [go_sem, c4, hYl, hkp, hY, w1, hQl, c5, c8' c5]
      refine K_imp Imp.loose ?_
      refine K_call rfl rfl rfl (args := [x.a, p.a, n.a, .t (.sl (([] : List Spot).map Spot.t))]) (f := 46) (by simp [go_sem, loosen, loosen.loosenL, Inst.a, hpa, Spot.a, Spot.cs]) (by simp [go_sem, hB]) (hg.spec _ _) ?_
      refine K_run hB 100 ?_
      simp [go_sem]
      exact hR
  | true =>
    by_cases c3 : sm < p.least
    · rw [if_pos ⟨rfl, c3⟩] at hR
      subst hR
      refine K_run hB 100 ?_
      simp [go_sem]
      refine K_dCallP rfl rfl rfl (args := [.fsl (ints [n.cost, ec])]) (f := 44) (by simp [go_sem, ints]) (Pure.loose hsum (by simp [bnd])) ?_
      refine K_run hB 100 ?_
      simp [go_sem, c3]
    rw [if_neg (fun h => c3 h.2)] at hR
    refine K_run hB 100 ?_
    simp [go_sem]
    refine K_dCallP rfl rfl rfl (args := [.fsl (ints [n.cost, ec])]) (f := 44) (by simp [go_sem, ints]) (Pure.loose hsum (by simp [bnd])) ?_
    refine K_run hB 100 ?_
    simp [go_sem, c3]
    refine K_call rfl rfl rfl (args := [x.a]) (f := 45) (by simp [go_sem, Inst.a]) (by simp [go_sem, hB]) ((hdeep).spec _ _) ?_
    by_cases c4 : x.deep ≤ dd
    · rw [if_pos c4] at hR
      subst hR
      refine K_run hB 100 ?_
      simp [go_sem, c4]
    rw [if_neg c4] at hR
    by_cases c5 : i + 1 < q.length
    · have hnl : (q[i + 1]).length < 2 ^ 31 := hqn _ (List.getElem_mem _)
      have hno := hqo _ (List.getElem_mem c5)
      have hQg : ∀ h : i + 1 < (q.map layT).length, (q.map layT)[i + 1]'h = [.sl ((q[i + 1]).map Spot.t)] := fun h => by rw [List.getElem_map]; rfl
      have hgd : q.getD (i + 1) [] = q[i + 1] := by rw [List.getD_eq_getElem?_getD, List.getElem?_eq_getElem c5]; rfl
      rw [hgd] at hR
      generalize q[i + 1] = next at *
      have hg := hgoes next hnl hno
      generalize x.goesB p.least n next = G at *
      generalize q.map layT = Q at *
      generalize p.parts.map partT = Y at *
      refine K_run hB 100 ?_
      simp [go_sem, c4, hYl, hkp, hY, w1, c5, hQl, hQg, c5' c5, c6']
      refine K_call rfl rfl rfl (args := [x.a, p.a, n.a, .t (.sl (next.map Spot.t))]) (f := 46) (by simp [go_sem, Inst.a, hpa, Spot.a, Spot.cs]) (by simp [go_sem, hB]) ((hg).spec _ _) ?_
      refine K_run hB 100 ?_
      simp [go_sem]
      exact hR
    · have hgd : q.getD (i + 1) [] = [] := by rw [List.getD_eq_getElem?_getD, List.getElem?_eq_none (by omega)]; rfl
      rw [hgd] at hR
      have hg := hgoes [] (by simp) (by simp)
      generalize x.goesB p.least n [] = G at *
      generalize q.map layT = Q at *
      generalize p.parts.map partT = Y at *
      refine K_run hB 100 ?_
      simp [go_sem, c4, hYl, hkp, hY, w1, hQl, c5, c8' c5]
      refine K_imp Imp.loose ?_
      refine K_call rfl rfl rfl (args := [x.a, p.a, n.a, .t (.sl (([] : List Spot).map Spot.t))]) (f := 46) (by simp [go_sem, loosen, loosen.loosenL, Inst.a, hpa, Spot.a, Spot.cs]) (by simp [go_sem, hB]) (hg.spec _ _) ?_
      refine K_run hB 100 ?_
      simp [go_sem]
      exact hR
end Go.Proofs.YtlhmchdfmjfmgaaGreat

/- Proofs: may a proof be looked at, and the check: the document's. -/
set_option maxRecDepth 4000
set_option maxHeartbeats 1000000
namespace Go.Proofs.YtlhmchdfmjfmgaaGreat
open Go Go.Proofs.YtlhmchdfmjfmgaaGreat.R
def Inst.wrongL (x : Inst) (p : Prf) (l : List Spot) : Bool := l.any fun n => !x.spotB p n
theorem wholeB_cons (x : Inst) (p : Prf) (l : List Spot) (q : List (List Spot)) : x.wholeB p (l :: q) = (decide (l.length = 1) && !((l :: q).any (x.wrongL p))) := rfl
theorem rmay20_pure (x : Inst) (p : Prf) (hl : x.stops.length < 2 ^ 31) (hp : p.Fine) : Pure P 18 [x.a, p.a] (.b (x.mayP p)) := by
  generalize hR : x.mayP p = R
  refine pure_of Tryz.func18 rfl rfl (by simp [Tryz.f18]) (by simp [bnd, bnd.bndL, Inst.a, Prf.a, Prf.cs]) (by simp [bnd, bnd.bndL]) fun B hB hnx => ?_
  simp only [Tryz.f18] at hB ⊢
  have hplen := hp.len
  have hparts := hp.parts
  have hlays := hp.lays
  have hoks := hp.ok
  rw [Inst.mayP] at hR
  have hm := rmay_pure x (by omega)
  have hYl : (p.parts.map partT).length = p.parts.length := List.length_map _
  have hYg : ∀ (k : Nat) (h : k < p.parts.length), (p.parts.map partT)[k]'(by rw [hYl]; exact h) = partT p.parts[k] := fun k h => map_get partT p.parts h _
  have hsB : ∀ n : Spot, x.spotB p n = (n.s.mayB x && decide (n.cost ≥ 0) && decide (n.cost ≤ 1152921504606846976) && decide (n.part ≥ 0) && decide (n.part ≤ p.parts.length)) := fun n => rfl
  refine K_run hB 100 ?_
  simp [go_sem, Inst.a, Prf.a, Prf.cs]
  refine K_call rfl rfl rfl (args := [x.a]) (f := 40) (by simp [go_sem, Inst.a]) (by simp [go_sem, hB]) ((hm).spec _ _) ?_
  cases hmay : x.may with
  | false =>
    rw [hmay, Bool.false_and] at hR
    subst hR
    refine K_run hB 100 ?_
    simp [go_sem]
  | true =>
    have hsm := fun (n : Spot) => rmay10_pure x n.s (by omega)
    rw [hmay, Bool.true_and] at hR
    simp only [hmay, Bool.true_and] at hsm
    by_cases c1 : p.least < 0
    · rw [decide_eq_false (by omega), Bool.false_and] at hR
      subst hR
      refine K_run hB 100 ?_
      simp [go_sem, c1]
    rw [decide_eq_true (by omega), Bool.true_and] at hR
    by_cases c2 : infI < p.least
    · rw [decide_eq_false (by omega), Bool.false_and] at hR
      subst hR
      have c2' : 1152921504606846976 < p.least := c2
      refine K_run hB 100 ?_
      simp [go_sem, c1, c2']
    rw [decide_eq_true (by omega), Bool.true_and] at hR
    have c2' : ¬ 1152921504606846976 < p.least := c2
    by_cases c3 : p.parts = []
    · rw [decide_eq_false (by simp [c3]), Bool.false_and] at hR
      subst hR
      refine K_run hB 100 ?_
      simp [go_sem, c1, c2', c3]
    rw [decide_eq_true c3, Bool.true_and] at hR
    have hpos : 0 < p.parts.length := List.length_pos_iff.2 c3
    have c3' : ¬ p.parts.length = 0 := by omega
    generalize hY : p.parts.map partT = Y at *
    generalize hps : p.parts = ps at *
    have c3'' : ¬ Y = [] := fun h => c3' (by rw [← hYl, h]; rfl)
    refine K_run hB 100 ?_
    simp [go_sem, c1, c2', c3, hYl, c3', c3'']
    refine K_loopP (α := Nat × (Nat → AObj) × Nat) (fun (k, τ, ny) => k ≤ ps.length ∧ (ps.drop k).all (x.wholeB p) = R ∧ τ 0 = .box x.cs ∧ τ 1 = .box [.i p.least, .t (.sl Y)] ∧ 1 < ny) (fun (k, τ, ny) => ⟨sl [(2, .ptr 0 0), (3, .ptr 1 0), (6, .i k)], τ, ny⟩) (fun a => ps.length - a.1) (0, _, 2) ⟨Nat.zero_le _, hR, by simp [oput, Inst.cs], by simp [oput], by omega⟩ (Imp.slots (by simp [go_sem]) rfl rfl) ?_
    rintro ⟨k, τ, ny⟩ ⟨g1, g2, g3, g4, g5⟩
    refine K_run hB 60 ?_
    simp [go_sem, g4, hYl]
    refine fork_dec (fun hk => ?_) (fun hk => ?_)
    · have hkk : IntKind.i64.wrap ((k : Int) + 1) = ((k + 1 : Nat) : Int) := by rw [w64 ((k : Int) + 1) (by omega)]; rfl
      have hgk : ∀ h : k < Y.length, Y[k]'h = partT ps[k] := fun h => hYg k hk
      have hql := hparts ps[k] (List.getElem_mem _)
      have hqn := hlays ps[k] (List.getElem_mem _)
      rw [List.drop_eq_getElem_cons hk, List.all_cons] at g2
      generalize ps[k] = q at *
      generalize hG : (ps.drop (k + 1)).all (x.wholeB p) = G at *
      have hZl : (q.map layT).length = q.length := List.length_map _
      have hZg : ∀ (k : Nat) (h : k < q.length), (q.map layT)[k]'(by rw [hZl]; exact h) = layT q[k] := fun k h => map_get layT q h _
      have hpt : partT q = [.sl (q.map layT)] := rfl
      cases q with
      | nil =>
        rw [show x.wholeB p [] = false from rfl, Bool.false_and] at g2
        subst g2
        simp [go_sem, g4, hYl, hk, hgk, hpt]
      | cons l0 q =>
        have hZ0 : ∀ h : 0 < ((l0 :: q).map layT).length, ((l0 :: q).map layT)[0]'h = [.sl (l0.map Spot.t)] := fun h => rfl
        rw [wholeB_cons] at g2
        have hq1 : l0.length = 1 ∨ ¬ l0.length = 1 := Decidable.em _
        generalize hqq : l0 :: q = qq at *
        have hqpos : 0 < qq.length := by rw [← hqq]; simp
        have hqne : ¬ qq.length = 0 := by omega
        generalize hZ : qq.map layT = Z at *
        have hZne : ¬ Z = [] := fun h => hqne (by rw [← hZl, h]; rfl)
        by_cases c4 : l0.length = 1
        rotate_left
        · rw [decide_eq_false c4, Bool.false_and, Bool.false_and] at g2
          subst g2
          have c4' : ¬ (l0.length : Int) = 1 := by omega
          simp [go_sem, g4, hYl, hk, hgk, hpt, hZl, hZne, hqne, hqpos, hZ0, c4']
        rw [decide_eq_true c4, Bool.true_and] at g2
        have c4' : (l0.length : Int) = 1 := by omega
        simp [go_sem, g4, hYl, hk, hgk, hpt, hZl, hZne, hqne, hqpos, hZ0, c4, c4']
        refine K_loopP (α := Nat × (Nat → AObj) × Nat) (fun (i, τ, ny) => i ≤ qq.length ∧ (!((qq.drop i).any (x.wrongL p)) && G) = R ∧ τ 0 = .box x.cs ∧ τ 1 = .box [.i p.least, .t (.sl Y)] ∧ 1 < ny) (fun (i, τ, ny) => ⟨sl [(2, .ptr 0 0), (3, .ptr 1 0), (6, .i k), (7, .t (.sl Z)), (8, .i i)], τ, ny⟩) (fun a => qq.length - a.1) (0, τ, ny) ⟨Nat.zero_le _, g2, g3, g4, g5⟩ (Imp.slots (by simp [go_sem]) rfl rfl) ?_
        clear g2 g3 g4 g5
        rintro ⟨i, τ, ny⟩ ⟨g1, g2, g3, g4, g5⟩
        refine K_run hB 60 ?_
        simp [go_sem, hZl]
        refine fork_dec (fun hi => ?_) (fun hi => ?_)
        · have hii : IntKind.i64.wrap ((i : Int) + 1) = ((i + 1 : Nat) : Int) := by rw [w64 ((i : Int) + 1) (by omega)]; rfl
          have hgi : ∀ h : i < Z.length, Z[i]'h = layT qq[i] := fun h => hZg i hi
          have hll := hqn qq[i] (List.getElem_mem _)
          rw [List.drop_eq_getElem_cons hi, List.any_cons, Bool.not_or, Bool.and_assoc] at g2
          generalize hG2 : (!((qq.drop (i + 1)).any (x.wrongL p)) && G) = G2 at *
          generalize qq[i] = l at *
          have hVl : (l.map Spot.t).length = l.length := List.length_map _
          have hVg : ∀ (k : Nat) (h : k < l.length), (l.map Spot.t)[k]'(by rw [hVl]; exact h) = l[k].t := fun k h => map_get Spot.t l h _
          have hlt : layT l = [.sl (l.map Spot.t)] := rfl
          generalize l.map Spot.t = V at *
          simp [go_sem]
          refine K_loopP (α := Nat × (Nat → AObj) × Nat) (fun (j, τ, ny) => j ≤ l.length ∧ (!(x.wrongL p (l.drop j)) && G2) = R ∧ τ 0 = .box x.cs ∧ τ 1 = .box [.i p.least, .t (.sl Y)] ∧ 1 < ny) (fun (j, τ, ny) => ⟨sl [(2, .ptr 0 0), (3, .ptr 1 0), (6, .i k), (7, .t (.sl Z)), (8, .i i), (9, .i j)], τ, ny⟩) (fun a => l.length - a.1) (0, τ, ny) ⟨Nat.zero_le _, g2, g3, g4, g5⟩ (Imp.slots (by simp [go_sem]) rfl rfl) ?_
          clear g2 g3 g4 g5
          rintro ⟨j, τ, ny⟩ ⟨g1, g2, g3, g4, g5⟩
          refine K_run hB 60 ?_
          simp [go_sem, hZl, hi, hgi, hlt, hVl]
          refine fork_dec (fun hj => ?_) (fun hj => ?_)
          · have hjj : IntKind.i64.wrap ((j : Int) + 1) = ((j + 1 : Nat) : Int) := by rw [w64 ((j : Int) + 1) (by omega)]; rfl
            have hgj : ∀ h : j < V.length, V[j]'h = l[j].t := fun h => hVg j hj
            rw [List.drop_eq_getElem_cons hj, Inst.wrongL, List.any_cons, hsB, Bool.not_or, Bool.not_not, Bool.and_assoc] at g2
            have hsmj := hsm l[j]
            generalize l[j] = n at *
            generalize hG3 : (!((l.drop (j + 1)).any fun n => !x.spotB p n) && G2) = G3 at *
            have n0 : ¬ 0 = ny := by omega
            have n1 : ¬ 1 = ny := by omega
            simp [go_sem, hZl, hi, hgi, hlt, hVl, hj, hgj, Spot.t, g3, g4, n0, n1, Inst.cs]
            refine K_call rfl rfl rfl (args := [x.a, n.s.a]) (f := 41) (by simp [go_sem, Inst.a, State.a, State.cs]) (by simp [go_sem, hB]) ((hsmj).spec _ _) ?_
            by_cases d0 : n.s.mayB x = true
            rotate_left
            · simp [d0] at g2
              subst g2
              refine K_run hB 100 ?_
              simp [go_sem, d0]
            rw [d0, Bool.true_and] at g2
            by_cases d1 : n.cost < 0
            · rw [decide_eq_false (by omega)] at g2
              simp at g2
              subst g2
              refine K_run hB 100 ?_
              simp [go_sem, d0, d1]
            rw [decide_eq_true (by omega), Bool.true_and] at g2
            by_cases d2 : 1152921504606846976 < n.cost
            · rw [decide_eq_false (by omega)] at g2
              simp at g2
              subst g2
              refine K_run hB 100 ?_
              simp [go_sem, d0, d1, d2]
            rw [decide_eq_true (by omega), Bool.true_and] at g2
            by_cases d3 : n.part < 0
            · rw [decide_eq_false (by omega)] at g2
              simp at g2
              subst g2
              refine K_run hB 100 ?_
              simp [go_sem, d0, d1, d2, d3]
            rw [decide_eq_true (by omega), Bool.true_and] at g2
            by_cases d4 : (ps.length : Int) < n.part
            · rw [decide_eq_false (by omega)] at g2
              simp at g2
              subst g2
              refine K_run hB 100 ?_
              simp [go_sem, d0, d1, d2, d3, d4, g4, n1, hYl]
            rw [decide_eq_true (by omega), Bool.true_and, ← hG3] at g2
            refine K_run hB 100 ?_
            simp [go_sem, d0, d1, d2, d3, d4, g4, n1, hYl, hjj]
            refine Next.mk (j + 1, _, ny + 1) ⟨by simp only; omega, g2, by simp [oput, n0, g3], by simp [oput, n1, g4], by simp only; omega⟩ (Imp.slots (by simp [go_sem]) rfl rfl) (by simp only; omega)
          · have : j = l.length := by omega
            subst this
            rw [List.drop_length, Inst.wrongL, List.any_nil, Bool.not_false, Bool.true_and, ← hG2] at g2
            simp [go_sem, hii]
            exact Next.mk (i + 1, τ, ny) ⟨by simp only; omega, g2, g3, g4, g5⟩ (Imp.slots (by simp [go_sem]) rfl rfl) (by simp only; omega)
        · have : i = qq.length := by omega
          subst this
          rw [List.drop_length, List.any_nil, Bool.not_false, Bool.true_and, ← hG] at g2
          simp [go_sem, hkk]
          exact Next.mk (k + 1, τ, ny) ⟨by simp only; omega, g2, g3, g4, g5⟩ (Imp.slots (by simp [go_sem]) rfl rfl) (by simp only; omega)
    · have : k = ps.length := by omega
      subst this
      rw [List.drop_length, List.all_nil] at g2
      subst g2
      simp [go_sem]
end Go.Proofs.YtlhmchdfmjfmgaaGreat

/- Proofs: the document's Check. -/
set_option maxRecDepth 4000
set_option maxHeartbeats 1000000
namespace Go.Proofs.YtlhmchdfmjfmgaaGreat
open Go Go.Proofs.YtlhmchdfmjfmgaaGreat.R
theorem fill_done {n : Nat} {dl : List Int} (hl : dl.length = n) (h0 : dl[0]? = some 0) (h1 : ∀ j, 1 ≤ j → j < n → dl[j]? = some infI) : dl = (List.replicate n infI).set 0 0 := by
  apply List.ext_getElem?
  intro j
  rw [List.getElem?_set, List.length_replicate]
  by_cases hj : j = 0
  · subst hj
    have hn : 0 < n := by
      rcases Nat.eq_zero_or_pos n with h | h
      · rw [List.getElem?_eq_none (by omega)] at h0; cases h0
      · exact h
    rw [if_pos rfl, if_pos hn, h0]
  · rw [if_neg (fun h => hj h.symm), List.getElem?_replicate]
    by_cases hn : j < n
    · rw [if_pos hn, h1 j (by omega) hn]
    · rw [if_neg hn, List.getElem?_eq_none (by omega)]
theorem may_parts {x : Inst} {p : Prf} (h : x.mayP p = true) : x.may = true ∧ 0 ≤ p.least ∧ p.least ≤ infI ∧ p.parts ≠ [] ∧ ∀ q ∈ p.parts, x.wholeB p q = true := by
  simp only [Inst.mayP, Bool.and_eq_true, decide_eq_true_eq, List.all_eq_true] at h
  exact h
theorem rcheck_pure (x : Inst) (p : Prf) (hl : x.stops.length < 2 ^ 31) (hp : p.Fine) : Pure P 7 [x.a, p.a] (.i (x.checkE p)) := by
  generalize hR : x.checkE p = R
  refine pure_of Tryz.func7 rfl rfl (by simp [Tryz.f7]) (by simp [bnd, bnd.bndL, Inst.a, Prf.a, Prf.cs]) (by simp [bnd, bnd.bndL]) fun B hB hnx => ?_
  simp only [Tryz.f7] at hB ⊢
  have hplen := hp.len
  have hmy := rmay20_pure x p hl hp
  rw [Inst.checkE] at hR
  refine K_run hB 100 ?_
  simp [go_sem, Inst.a, Prf.a, Prf.cs]
  refine K_call rfl rfl rfl (args := [x.a, p.a]) (f := 18) (by simp [go_sem, Inst.a, Prf.a, Prf.cs]) (by simp [go_sem, hB]) ((hmy).spec _ _) ?_
  by_cases hmp : x.mayP p = true
  rotate_left
  · rw [if_neg hmp] at hR
    subst hR
    refine K_run hB 100 ?_
    simp [go_sem, hmp]
  rw [if_pos hmp] at hR
  obtain ⟨hmay, hle0, hle1, c3, hw⟩ := may_parts hmp
  have hpos : 0 < p.parts.length := List.length_pos_iff.2 c3
  obtain ⟨f, hf⟩ := first_of hw hpos
  rw [hf] at hR
  simp only at hR
  obtain ⟨hj0, l0, q0, hp0⟩ := first_some hf
  have hYl : (p.parts.map partT).length = p.parts.length := List.length_map _
  have hYg : ∀ (k : Nat) (h : k < p.parts.length), (p.parts.map partT)[k]'(by rw [hYl]; exact h) = partT p.parts[k] := fun k h => map_get partT p.parts h _
  have hY0 : ∀ h : 0 < (p.parts.map partT).length, (p.parts.map partT)[0]'h = [.sl ([.sl (f.t :: l0.map Spot.t)] :: q0.map layT)] := fun h => by rw [List.getElem_map, hp0]; rfl
  have hpa : p.a = .agg [.i p.least, .t (.sl (p.parts.map partT))] := rfl
  generalize hY : p.parts.map partT = Y at *
  have hr := rroot_pureS x (by omega)
  refine K_run hB 100 ?_
  simp [go_sem, hmp, hYl, hpos, hY0, Spot.t]
  refine K_drawn [] rfl (by rw [hB]; kernel_rfl) ?_
  refine K_run hB 100 ?_
  simp [go_sem]
  refine K_dCallP rfl rfl rfl (args := [x.a]) (f := 19) (by simp [go_sem, Inst.a]) (hr) ?_
  generalize x.rootS = rt at *
  refine K_dEq (op := .neq) (t := 49) (t' := 49) (x := .tmp 30) (y := .tmp 32) (xs := f.s.cs) (ys := rt.cs) (by simp [go_sem]) rfl (by simp [go_sem, State.cs]) (by simp [go_sem, State.a, State.cs]) state_guard (state_eq f.s rt) rfl ?_
  by_cases c5 : f.s = rt
  rotate_left
  · rw [if_neg (fun h => c5 h.1)] at hR
    subst hR
    refine K_run hB 100 ?_
    simp [go_sem, c5]
  by_cases c6 : f.cost = 0
  rotate_left
  · rw [if_neg (fun h => c6 h.2)] at hR
    subst hR
    refine K_run hB 100 ?_
    simp [go_sem, c5, c6]
  rw [if_pos ⟨c5, c6⟩] at hR
  have hmost : p.parts.length ≤ mostLen := by show p.parts.length ≤ 4294967296; omega
  have hneg : ¬ (p.parts.length : Int) < 0 := by omega
  refine K_run hB 100 ?_
  simp [go_sem, c5, c6, hYl, hmost, hneg]
  have hR' : resP (x.partsGo p 0 (p.parts.drop 0) ((List.replicate p.parts.length infI).set 0 0)) = R := by
    rw [← hR, List.drop_zero]
    cases x.partsGo p 0 p.parts ((List.replicate p.parts.length infI).set 0 0) <;> rfl
  have hlead : ∀ q ∈ p.parts, ∀ l ∈ q, ∀ n ∈ l, 0 ≤ n.part ∧ n.part ≤ p.parts.length ∧ (0 < n.part → ∃ j f, n.part = ((j : Nat) : Int) + 1 ∧ p.first j = some f) := fun q hq l hl' n hn => by
    obtain ⟨_, _, b1, b2⟩ := spot_pos (whole_spot (hw q hq) hl' hn)
    refine ⟨b1, b2, fun h0 => ?_⟩
    obtain ⟨j, hj⟩ : ∃ j : Nat, n.part = (j : Int) + 1 := ⟨(n.part - 1).toNat, by omega⟩
    obtain ⟨f, hf⟩ := first_of hw (j := j) (by omega)
    exact ⟨j, f, hj, hf⟩
  have hhold := fun (k i : Nat) (q : List (List Spot)) (n : Spot) (dk dd : Int) (h1 : p.parts[k]? = some q) (h2 : i < 2 ^ 31) (h3 : 0 < n.part → ∃ j f, n.part = ((j : Nat) : Int) + 1 ∧ p.first j = some f) (h5 : n.s.ok) (h6 : dd = IntKind.i64.wrap (dk + i)) => rholds_pure x p n k i dk dd q hl h5 hplen h1 (by have := hp.parts q (List.mem_of_getElem? h1); omega) (hp.lays q (List.mem_of_getElem? h1)) (hp.ok q (List.mem_of_getElem? h1)) h2 h6 h3
  have hparts := hp.parts
  have hlays := hp.lays
  have hoks := hp.ok
  clear hR hY0 hr hp hmy hp0 hj0 hf hw c3
  generalize hps : p.parts = ps at *
  refine K_loopP (α := Nat × List Int × (Nat → AObj)) (fun (i, dl, τ) => (1 ≤ i ∧ i ≤ ps.length ∧ dl.length = ps.length ∧ dl[0]? = some 0 ∧ ∀ j, 1 ≤ j → j < i → dl[j]? = some infI) ∧ τ 0 = .box x.cs ∧ τ 1 = .box [.i p.least, .t (.sl Y)] ∧ τ 3 = .arr 1 (ints dl))
    (fun (i, dl, τ) => ⟨sl [(2, .ptr 0 0), (3, .ptr 1 0), (7, .ref 3), (8, .i i)], τ, 4⟩) (fun a => ps.length - a.1) (1, List.replicate ps.length 0, _) ?_ (Imp.slots (by simp [go_sem]) rfl rfl) ?_
  · refine ⟨⟨Nat.le_refl _, hpos, List.length_replicate .., ?_, fun j h1 h2 => absurd h2 (by omega)⟩, by simp [oput, Inst.cs], by simp [oput], by simp [oput, ints]⟩
    rw [List.getElem?_replicate, if_pos hpos]
  rintro ⟨i, dl, τ⟩ ⟨⟨f1, f2, f3, f4, f5⟩, f6, f7, f8⟩
  have hdl : (ints dl).length = dl.length := List.length_map _
  refine K_run hB 60 ?_
  simp [go_sem, hdl, f3, f8]
  refine fork_dec (fun hi => ?_) (fun hi => ?_)
  · have hii : IntKind.i64.wrap ((i : Int) + 1) = ((i + 1 : Nat) : Int) := by rw [w64 ((i : Int) + 1) (by omega)]; rfl
    have hdg : ∀ h : i < (ints dl).length, (ints dl)[i]'h = [.i dl[i]] := fun h => ints_getS _ (by omega)
    simp [go_sem, hdl, f3, f8, hi, hii, hdg, Nat.mod_one]
    refine Next.mk (i + 1, dl.set i infI, _) ⟨⟨by omega, hi, by rw [List.length_set]; exact f3, by rw [List.getElem?_set_ne (by omega)]; exact f4, fun j h1 h2 => ?_⟩, ?_, ?_, ?_⟩ (Imp.slots (by simp [go_sem]) rfl rfl) (by simp only; omega)
    · rw [List.getElem?_set]
      by_cases h : i = j
      · rw [if_pos h, if_pos (by omega)]
      · rw [if_neg h]; exact f5 j h1 (by omega)
    · simp [oput, f6]
    · simp [oput, f7]
    · simp [oput, ints, List.map_set, infI]
  have : i = ps.length := by omega
  subst this
  have hfd := fill_done f3 f4 f5
  subst hfd
  simp [go_sem]
  clear f1 f2 f4 f5 hdl
  refine K_loopP (α := Nat × List Int × (Nat → AObj) × Nat) (fun (k, dl, τ, ny) => k ≤ ps.length ∧ dl.length = ps.length ∧ resP (x.partsGo p k (ps.drop k) dl) = R ∧ τ 0 = .box x.cs ∧ τ 1 = .box [.i p.least, .t (.sl Y)] ∧ τ 3 = .arr 1 (ints dl) ∧ 3 < ny)
    (fun (k, dl, τ, ny) => ⟨sl [(2, .ptr 0 0), (3, .ptr 1 0), (7, .ref 3), (9, .i k)], τ, ny⟩) (fun a => ps.length - a.1) (0, (List.replicate ps.length infI).set 0 0, τ, 4) ⟨Nat.zero_le _, f3, hR', f6, f7, f8, by omega⟩ (Imp.slots (by simp [go_sem]) rfl rfl) ?_
  clear f3 hR' f6 f7 f8
  rintro ⟨k, dl, τ, ny⟩ ⟨g1, g2, g3, g0, g4, g6, g7⟩
  refine K_run hB 60 ?_
  simp [go_sem, g4, hYl]
  refine fork_dec (fun hk => ?_) (fun hk => ?_)
  · have hkk : IntKind.i64.wrap ((k : Int) + 1) = ((k + 1 : Nat) : Int) := by rw [w64 ((k : Int) + 1) (by omega)]; rfl
    have hgk : ∀ h : k < Y.length, Y[k]'h = partT ps[k] := fun h => hYg k hk
    have hqk : ps[k]? = some ps[k] := List.getElem?_eq_getElem hk
    have hqm : ps[k] ∈ ps := List.getElem_mem _
    have hql := hparts _ hqm
    have hdl : (ints dl).length = dl.length := List.length_map _
    have hdg : ∀ h : k < (ints dl).length, (ints dl)[k]'h = [.i dl[k]] := fun h => ints_getS _ (by omega)
    have hgd : dl.getD k 0 = dl[k] := by rw [List.getD_eq_getElem?_getD, List.getElem?_eq_getElem (by omega)]; rfl
    have hdk : k < dl.length := by omega
    rw [List.drop_eq_getElem_cons hk] at g3
    have hlq := fun l (hl' : l ∈ ps[k]) n hn => hlead _ hqm l hl' n hn
    have hoq := hoks _ hqm
    generalize ps[k] = q at *
    have hpt : partT q = [.sl (q.map layT)] := rfl
    by_cases d1 : dl[k] = infI
    · rw [Inst.partsGo, hgd, if_pos d1] at g3
      have d1' : dl[k] = 1152921504606846976 := d1
      simp [go_sem, hYl, hk, hgk, hpt, g4, g6, hdl, hdk, hdg, Nat.mod_one, d1', hkk]
      refine Next.mk (k + 1, dl, τ, ny) ⟨by simp only; omega, g2, g3, g0, g4, g6, g7⟩ (Imp.slots (by simp [go_sem]) rfl rfl) (by simp only; omega)
    · rw [partsGo_cons (by rw [hgd]; exact d1)] at g3
      have d1' : ¬ dl[k] = 1152921504606846976 := d1
      simp [go_sem, hYl, hk, hgk, hpt, g4, g6, hdl, hdk, hdg, Nat.mod_one, d1']
      generalize hG : x.partsGo p (k + 1) (ps.drop (k + 1)) = G at *
      have hZl : (q.map layT).length = q.length := List.length_map _
      have hZg : ∀ (k : Nat) (h : k < q.length), (q.map layT)[k]'(by rw [hZl]; exact h) = layT q[k] := fun k h => map_get layT q h _
      have hlq2 := hlays _ hqm
      generalize q.map layT = Z at *
      refine K_loopP (α := Nat × List Int × (Nat → AObj) × Nat) (fun (i, d, τ, ny) => i ≤ q.length ∧ d.length = ps.length ∧ resP ((x.partGo p k i (q.drop i) d).bind G) = R ∧ τ 0 = .box x.cs ∧ τ 1 = .box [.i p.least, .t (.sl Y)] ∧ τ 3 = .arr 1 (ints d) ∧ 3 < ny)
        (fun (i, d, τ, ny) => ⟨sl [(2, .ptr 0 0), (3, .ptr 1 0), (7, .ref 3), (9, .i k), (10, .t (.sl Z)), (11, .i i)], τ, ny⟩) (fun a => q.length - a.1) (0, dl, τ, ny) ⟨Nat.zero_le _, g2, g3, g0, g4, g6, g7⟩ (Imp.slots (by simp [go_sem, hZl]) rfl rfl) ?_
      clear g2 g3 g0 g4 g6 g7 hdl hdg hgd hdk d1 d1'
      rintro ⟨i, d, τ, ny⟩ ⟨g1, g2, g3, g0, g4, g6, g7⟩
      refine K_run hB 60 ?_
      simp [go_sem, hZl]
      refine fork_dec (fun hi => ?_) (fun hi => ?_)
      · have hii : IntKind.i64.wrap ((i : Int) + 1) = ((i + 1 : Nat) : Int) := by rw [w64 ((i : Int) + 1) (by omega)]; rfl
        have hgi : ∀ h : i < Z.length, Z[i]'h = layT q[i] := fun h => hZg i hi
        rw [List.drop_eq_getElem_cons hi, partGo_cons, Option.bind_assoc] at g3
        have hln := fun n (hn : n ∈ q[i]) => hlq _ (List.getElem_mem hi) n hn
        have hon := hoq _ (List.getElem_mem hi)
        have hll := hlq2 _ (List.getElem_mem hi)
        generalize q[i] = l at *
        generalize hG2 : (fun d => (x.partGo p k (i + 1) (q.drop (i + 1)) d).bind G) = G2 at *
        have hly : layT l = [.sl (l.map Spot.t)] := rfl
        have hVl : (l.map Spot.t).length = l.length := List.length_map _
        have hVg : ∀ (k : Nat) (h : k < l.length), (l.map Spot.t)[k]'(by rw [hVl]; exact h) = l[k].t := fun k h => map_get Spot.t l h _
        generalize l.map Spot.t = V at *
        simp [go_sem]
        refine K_loopP (α := Nat × List Int × (Nat → AObj) × Nat) (fun (j, d, τ, ny) => j ≤ l.length ∧ d.length = ps.length ∧ resP ((x.layGo p k i (l.drop j) d).bind G2) = R ∧ τ 0 = .box x.cs ∧ τ 1 = .box [.i p.least, .t (.sl Y)] ∧ τ 3 = .arr 1 (ints d) ∧ 3 < ny)
          (fun (j, d, τ, ny) => ⟨sl [(2, .ptr 0 0), (3, .ptr 1 0), (7, .ref 3), (9, .i k), (10, .t (.sl Z)), (11, .i i), (12, .i j)], τ, ny⟩) (fun a => l.length - a.1) (0, d, τ, ny) ⟨Nat.zero_le _, g2, g3, g0, g4, g6, g7⟩ (Imp.slots (by simp [go_sem]) rfl rfl) ?_
        clear g2 g3 g0 g4 g6 g7
        rintro ⟨j, d, τ, ny⟩ ⟨g1, g2, g3, g0, g4, g6, g7⟩
        refine K_run hB 60 ?_
        simp [go_sem, hZl, hi, hgi, hly, hVl]
        refine fork_dec (fun hj => ?_) (fun hj => ?_)
        · have hjj : IntKind.i64.wrap ((j : Int) + 1) = ((j + 1 : Nat) : Int) := by rw [w64 ((j : Int) + 1) (by omega)]; rfl
          have hgj : ∀ h : j < V.length, V[j]'h = l[j].t := fun h => hVg j hj
          have hgd : d.getD k 0 = d[k] := by rw [List.getD_eq_getElem?_getD, List.getElem?_eq_getElem (by omega)]; rfl
          rw [List.drop_eq_getElem_cons hj, Inst.layGo, hgd] at g3
          obtain ⟨hn0, hn1, hn2⟩ := hln _ (List.getElem_mem hj)
          have hn3 := hon _ (List.getElem_mem hj)
          generalize l[j] = n at *
          have n0 : ¬ 0 = ny := by omega
          have n1 : ¬ 1 = ny := by omega
          have n3 : ¬ 3 = ny := by omega
          have hh := hhold k i q n d[k] (IntKind.i64.wrap (d[k] + i)) hqk (by omega) hn2 hn3 rfl
          have hdl : (ints d).length = d.length := List.length_map _
          have hdk : k < d.length := by omega
          have hdg : ∀ h : k < (ints d).length, (ints d)[k]'h = [.i d[k]] := fun h => ints_getS _ hdk
          generalize hdke : d[k] = dk at *
          simp [go_sem, hZl, hi, hgi, hly, hVl, hj, hgj, Spot.t, n0, n1, n3, g0, g4, g6]
          refine K_drawn [] rfl (by rw [hB]; kernel_rfl) ?_
          refine K_run hB 100 ?_
          simp [go_sem, g0, g4, g6, n0, n1, n3, Inst.cs, hdl, hdk, hdg, Nat.mod_one]
          refine K_dCallP rfl rfl rfl (args := [x.a, p.a, .i k, .i i, n.a, .i (IntKind.i64.wrap (dk + i))]) (f := 20) (by simp [go_sem, Inst.a, hpa, Spot.a, Spot.cs]) (hh) ?_
          cases hhb : x.holdsB p k i n dk with
          | false =>
            rw [hhb, if_neg (by simp)] at g3
            subst g3
            refine K_run hB 100 ?_
            simp [go_sem]
            rfl
          | true =>
            rw [hhb, if_pos rfl] at g3
            have hw1 : IntKind.i64.wrap (n.part - 1) = n.part - 1 := w64 _ (by omega)
            by_cases e1 : (k : Int) < n.part - 1
            · obtain ⟨o, ho⟩ : ∃ o : Nat, n.part - 1 = (o : Int) := ⟨(n.part - 1).toNat, by omega⟩
              have hst : stepD k i n d = d.set o (min (d.getD o 0) (IntKind.i64.wrap (d.getD k 0 + i))) := by
                rw [stepD, if_pos e1, show (n.part - 1).toNat = o by omega]
              have hod : o < d.length := by omega
              have hgo : d.getD o 0 = d[o] := by rw [List.getD_eq_getElem?_getD, List.getElem?_eq_getElem hod]; rfl
              rw [hst, hgo, hgd] at g3
              have hdo : ∀ h : o < (ints d).length, (ints d)[o]'h = [.i d[o]] := fun h => ints_getS _ hod
              have hself : d.set o d[o] = d := List.set_getElem_self hod
              have e1' : k < o := by omega
              rw [ho] at hw1
              generalize d[o] = dO at *
              refine K_run hB 100 ?_
              simp [go_sem, ho, hw1, e1']
              refine K_drawn [] rfl (by rw [hB]; kernel_rfl) ?_
              by_cases e2 : IntKind.i64.wrap (dk + i) < dO
              · refine K_run hB 100 ?_
                simp [go_sem, ho, hw1, e1', n0, n1, n3, g0, g4, g6, hdl, hdk, hod, hdg, hdo, Nat.mod_one, e2]
                refine K_drawnT [11] rfl (by rw [hB]; kernel_rfl) (by kernel_rfl) fun ht => ?_
                refine K_run hB 100 ?_
                simp [go_sem, ht, ho, hw1, n0, n1, n3, g0, g4, g6, hdl, hdk, hod, hdg, hdo, Nat.mod_one, hjj]
                rw [Int.min_def, if_neg (by omega)] at g3
                refine Next.mk (j + 1, d.set o (IntKind.i64.wrap (dk + i)), _, ny + 1) ⟨by simp only; omega, by simp only [List.length_set]; exact g2, g3, ?_, ?_, ?_, by simp only; omega⟩ (Imp.slots (by simp [go_sem]) rfl rfl) (by simp only; omega)
                · simp [oput, n0, g0]
                · simp [oput, n1, g4]
                · simp [oput, n3, g6, ints, List.map_set]
              · refine K_run hB 100 ?_
                simp [go_sem, ho, hw1, e1', n0, n1, n3, g0, g4, g6, hdl, hdk, hod, hdg, hdo, Nat.mod_one, e2, hjj]
                rw [Int.min_def, if_pos (by omega), hself] at g3
                refine Next.mk (j + 1, d, _, ny + 1) ⟨by simp only; omega, g2, g3, by simp [oput, n0, g0], by simp [oput, n1, g4], by simp [oput, n3, g6], by simp only; omega⟩ (Imp.slots (by simp [go_sem]) rfl rfl) (by simp only; omega)
            · have hst : stepD k i n d = d := by rw [stepD, if_neg e1]
              rw [hst] at g3
              refine K_run hB 100 ?_
              simp [go_sem, hw1, e1]
              refine K_drawn [] rfl (by rw [hB]; kernel_rfl) ?_
              refine K_run hB 100 ?_
              simp [go_sem, hw1, e1, hjj]
              refine Next.mk (j + 1, d, _, ny + 1) ⟨by simp only; omega, g2, g3, by simp [oput, n0, g0], by simp [oput, n1, g4], by simp [oput, n3, g6], by simp only; omega⟩ (Imp.slots (by simp [go_sem]) rfl rfl) (by simp only; omega)
        · have : j = l.length := by omega
          subst this
          rw [List.drop_length, Inst.layGo, Option.bind_some, ← hG2] at g3
          simp [go_sem, hii]
          exact Next.mk (i + 1, d, τ, ny) ⟨by simp only; omega, g2, g3, g0, g4, g6, g7⟩ (Imp.slots (by simp [go_sem]) rfl rfl) (by simp only; omega)
      · have : i = q.length := by omega
        subst this
        rw [List.drop_length, Inst.partGo, Option.bind_some, ← hG] at g3
        simp [go_sem, hkk]
        exact Next.mk (k + 1, d, τ, ny) ⟨by simp only; omega, g2, g3, g0, g4, g6, g7⟩ (Imp.slots (by simp [go_sem]) rfl rfl) (by simp only; omega)
  · have : k = ps.length := by omega
    subst this
    rw [List.drop_length, Inst.partsGo, resP] at g3
    subst g3
    simp [go_sem]
end Go.Proofs.YtlhmchdfmjfmgaaGreat

/- Proofs: both Checks answer the same: the law. -/
set_option maxRecDepth 4000
set_option maxHeartbeats 1000000
namespace Go.Proofs.YtlhmchdfmjfmgaaGreat
open Go Go.Proofs.YtlhmchdfmjfmgaaGreat.R
theorem few_fineC {p : Prf} (h : p.fewB = true) (ho : ∀ q ∈ p.parts, ∀ l ∈ q, ∀ n ∈ l, n.s.ok) : p.Fine := by
  simp only [Prf.fewB, fewLay, Bool.and_eq_true, decide_eq_true_eq, List.all_eq_true] at h
  exact ⟨by omega, fun q hq => by have := (h.2 q hq).1; omega, fun q hq l hl => by have := (h.2 q hq).2 l hl; omega, ho⟩
theorem lpchecks_pure (x : Inst) (p : Prf) (hl : x.stops.length < 2 ^ 63) (hp : p.parts.length < 2 ^ 63) (hq : ∀ q ∈ p.parts, q.length < 2 ^ 63) (ho : ∀ q ∈ p.parts, ∀ l ∈ q, ∀ n ∈ l, n.s.ok) : Pure P 3 [x.a, p.a] (.b true) := by
  refine pure_of Tryz.func3 rfl rfl (by simp [Tryz.f3]) (by simp [bnd, bnd.bndL, Inst.a, Prf.a, Prf.cs]) (by simp [bnd, bnd.bndL]) fun B hB hnx => ?_
  simp only [Tryz.f3] at hB ⊢
  have hf := few20_pure p hp hq
  refine K_run hB 100 ?_
  simp [go_sem, Inst.a, Prf.a, Prf.cs]
  refine K_call rfl rfl rfl (args := []) (f := 4) (by simp [go_sem]) (by simp [go_sem, hB]) ((awake20_pure).spec _ _) ?_
  refine K_run hB 100 ?_
  simp [go_sem]
  refine K_call rfl rfl rfl (args := [p.a]) (f := 5) (by simp [go_sem, Prf.a, Prf.cs]) (by simp [go_sem, hB]) ((hf).spec _ _) ?_
  cases c0 : p.fewB with
  | false =>
    refine K_run hB 100 ?_
    simp [go_sem]
  | true =>
    have hfine := few_fineC c0 ho
    by_cases c1 : 9 < (x.stops.length : Int)
    · refine K_run hB 100 ?_
      simp [go_sem, c1]
    have h1 := check_pure x p (by omega) hfine
    have h2 := rcheck_pure x p (by omega) hfine
    generalize x.checkE p = r at *
    refine K_run hB 100 ?_
    simp [go_sem, c1]
    refine K_drawn [] rfl (by rw [hB]; kernel_rfl) ?_
    refine K_run hB 100 ?_
    simp [go_sem]
    refine K_dCallP rfl rfl rfl (args := [x.a, p.a]) (f := 6) (by simp [go_sem, Inst.a, Prf.a, Prf.cs]) (h1) ?_
    refine K_run hB 100 ?_
    simp [go_sem]
    refine K_dCallP rfl rfl rfl (args := [x.a, p.a]) (f := 7) (by simp [go_sem, Inst.a, Prf.a, Prf.cs]) (h2) ?_
    refine K_run hB 100 ?_
    simp [go_sem]
end Go.Proofs.YtlhmchdfmjfmgaaGreat
