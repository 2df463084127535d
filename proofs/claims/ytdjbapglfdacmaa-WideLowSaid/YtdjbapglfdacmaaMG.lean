/- Parts of the proof: LowP, Law12, Law12b, Once, Once2, Expand, Expand2, Law14, OnceP, FrontP, Sorted, KeepsP, ExactP, Narrow, Ways, Find, Pot, Law15, NarrowP, Deep, WideP, Join, Tog, Sqz. -/
import Derived.Test.YtdjbapglfdacmaaMF
set_option linter.unusedVariables false
/- What moves do, plainly; no move costs less than the bound falls. -/
set_option maxRecDepth 4000
namespace Go.Proofs.Ytdjbapglfdacmaa
open Go Go.Proofs.Ytdjbapglfdacmaa.R
theorem move_pos {x : Inst} {s : State} {j : Int} (h : (x.move s j).2.2 = true) (hj : j ≠ 0) : x.may = true ∧ s.mayB x = true ∧ 0 < j ∧ j ≤ 2 * x.pairs ∧ x.lateB s j = false ∧ (j ≤ x.pairs → x.fullB s j = false) ∧ (x.pairs < j → x.emptyB s j = false) ∧
    x.move s j = (x.rvisit s j (x.begins s j), far (x.stop s.spot) (x.stop j), true) := by
  obtain ⟨h1, h2, h3, h4, h5⟩ := move_is h
  have k1 : x.lateB s j = false := by
    cases e : x.lateB s j with
    | false => rfl
    | true => rw [to_not hj (.inl e)] at h4; cases h4
  have k2 : j ≤ x.pairs → x.fullB s j = false := fun hp => by
    cases e : x.fullB s j with
    | false => rfl
    | true => rw [to_not hj (.inr (.inl ⟨hp, e⟩))] at h4; cases h4
  have k3 : x.pairs < j → x.emptyB s j = false := fun hp => by
    cases e : x.emptyB s j with
    | false => rfl
    | true => rw [to_not hj (.inr (.inr ⟨hp, e⟩))] at h4; cases h4
  refine ⟨h1, h2, by omega, h3.2, k1, k2, k3, ?_⟩
  rw [h5, to_visit hj k1 k2 k3]
theorem move_home {x : Inst} {s : State} (h : (x.move s 0).2.2 = true) : x.may = true ∧ s.mayB x = true ∧ x.stayB s = false ∧ x.move s 0 = (x.homeS s, far (x.stop s.spot) (x.stop 0), true) := by
  obtain ⟨h1, h2, h3, h4, h5⟩ := move_is h
  have e : x.to s 0 = x.home s := by simp [Inst.to]
  rw [e] at h4 h5
  have k1 : x.stayB s = false := by
    cases c : x.stayB s with
    | false => rfl
    | true => rw [Inst.home, if_pos c] at h4; cases h4
  refine ⟨h1, h2, k1, ?_⟩
  rw [h5, Inst.home, if_neg (by simp [k1])]
theorem has_withN {t k : Nat} (hk : k ≤ 63) (i : Nat) : hasB (withN t k) i = (hasB t i || decide (i = k)) := by
  by_cases hi : i ≤ 63
  · rw [has_testN hi, has_testN hi, with_bit hk]
    by_cases e : i = k
    · subst e; simp
    · have : ¬ k = i := fun h => e h.symm
      simp [e, this]
  · have e1 : ∀ u, hasB u (i : Int) = false := fun u => by simp [hasB]; omega
    have : ¬ i = k := by omega
    simp [e1, this]
theorem lefts_past {may j : Nat} (hj : j ≤ 63) : ∀ (i : Nat) (l : List Int), j < i → lefts (withN may j) i l = lefts may i l
  | _, [], _ => rfl
  | i, d :: l, h => by
    rw [lefts, lefts, lefts_past hj (i + 1) l (by omega), has_withN hj]
    have : ¬ i = j := by omega
    simp [this]
theorem lefts_with {may j : Nat} (hj : j ≤ 63) (h1 : 1 ≤ j) : ∀ (i : Nat) (l : List Int), i ≤ j → (∀ d ∈ l, 0 ≤ d ∧ d ≤ 14143) → lefts may i l ≤ lefts (withN may j) i l + l.getD (j - i) 0
  | _, [], _, _ => by simp [lefts]
  | i, d :: l, h, hd => by
    have h0 := hd d List.mem_cons_self
    have hd' : ∀ e ∈ l, 0 ≤ e ∧ e ≤ 14143 := fun e he => hd e (List.mem_cons_of_mem _ he)
    rw [lefts, lefts, has_withN hj]
    by_cases e : i = j
    · subst e
      rw [lefts_past hj (i + 1) l (by omega)]
      simp only [Nat.sub_self, List.getD_cons_zero, decide_true, Bool.or_true]
      split <;> simp <;> omega
    · have := lefts_with (may := may) hj h1 (i + 1) l (by omega) hd'
      have e2 : j - i = (j - (i + 1)) + 1 := by omega
      rw [e2, List.getD_cons_succ]
      have e3 : decide (i = j) = false := decide_eq_false e
      rw [e3, Bool.or_false]
      omega
theorem nearF_lower {k : Nat} {b : Stop} : ∀ (l : List Stop) (i : Nat) (v : Int), nearF k b i l v ≤ v
  | [], _, v => Int.le_refl _
  | a :: l, i, v => by
    rw [nearF]
    have := nearF_lower (k := k) (b := b) l (i + 1) (if i = k then v else min v (far a b))
    split at this <;> split <;> omega
theorem nearF_far {k : Nat} {b : Stop} : ∀ (l : List Stop) (i m : Nat) (v : Int) (hm : m < l.length), i + m ≠ k → nearF k b i l v ≤ far l[m] b
  | [], _, m, _, hm, _ => by simp at hm
  | a :: l, i, 0, v, _, hne => by
    rw [nearF, if_neg (by omega)]
    have := nearF_lower (k := k) (b := b) l (i + 1) (min v (far a b))
    simp only [List.getElem_cons_zero]
    omega
  | a :: l, i, m + 1, v, hm, hne => by
    rw [nearF]
    simpa using nearF_far l (i + 1) m _ (by simpa using hm) (by omega)
theorem nearK_far (x : Inst) {k m : Nat} (b : Stop) (hm : m < x.stops.length) (hne : m ≠ k) : x.nearK k b ≤ far x.stops[m] b := by
  have h1 := nearF_far (k := k) (b := b) x.stops 0 m inf hm (by omega)
  have h2 := far_le x.stops[m] b
  have hinf : inf = 1152921504606846976 := rfl
  unfold Inst.nearK
  rcases nearF_le k b 0 x.stops inf (.inr rfl) with h | h
  · rw [Int.tmod_eq_of_lt h.1 (by omega)]; exact h1
  · omega
theorem near_may {x : Inst} (h : x.may = true) : x.near = nears x 0 x.stops := by rw [Inst.near, if_pos h]
theorem near_getD {x : Inst} {p : Nat} (hx : x.Fit p) (h : x.may = true) {k : Nat} (hk : k ≤ 2 * p) : x.near.getD k 0 = x.nearK k (x.stop k) := by
  have hl := hx.len
  rw [near_may h, List.getD_eq_getElem?_getD, List.getElem?_eq_getElem (by rw [nears_len]; omega), nears_get x 0 x.stops k (by omega), Inst.stop_at (by omega)]
  simp
theorem near_far {x : Inst} {p : Nat} (hx : x.Fit p) (h : x.may = true) {k m : Nat} (hk : k ≤ 2 * p) (hm : m ≤ 2 * p) (hne : m ≠ k) : x.near.getD k 0 ≤ far (x.stop m) (x.stop k) := by
  have hl := hx.len
  rw [near_getD hx h hk, Inst.stop_at (k := m) (by omega)]
  exact nearK_far x _ _ hne
theorem near_length {x : Inst} {p : Nat} (hx : x.Fit p) (h : x.may = true) : x.near.length = 2 * p + 1 := by rw [near_may h, nears_len, hx.len]
theorem lowP_cons {near : List Int} {may : Nat} (h : 2 ≤ near.length) : lowP near may = near.getD 0 0 + lefts may 0 near := by
  match near, h with
  | a :: b :: l, _ => rfl
  | [], h => simp at h
  | [_], h => simp at h
theorem lowP_in {near : List Int} (hn : ∀ d ∈ near, 0 ≤ d ∧ d ≤ 14143) (may : Nat) : 0 ≤ lowP near may ∧ lowP near may ≤ 14143 * (near.length + 1) := by
  by_cases h : 2 ≤ near.length
  · rw [lowP_cons h]
    have h1 := lefts_in may 0 near hn
    have h2 : 0 ≤ near.getD 0 0 ∧ near.getD 0 0 ≤ 14143 := by
      rw [List.getD_eq_getElem?_getD, List.getElem?_eq_getElem (by omega)]
      exact hn _ (List.getElem_mem _)
    omega
  · match near, h with
    | [], _ => simp [lowP]
    | [_], _ => simp [lowP]
    | a :: b :: l, h => simp at h
/-- A state whose stop, if it is not the yard, was surely seen. -/
def State.seenAt (s : State) : Prop := s.spot = 0 ∨ hasB s.must s.spot = true
theorem low_step {x : Inst} {s : State} {j : Int} (hs : s.seenAt) (h : (x.move s j).2.2 = true) : lowP x.near s.can ≤ (x.move s j).2.1 + lowP x.near (x.move s j).1.can := by
  by_cases hj : j = 0
  · subst hj
    obtain ⟨_, _, _, e⟩ := move_home h
    rw [e]
    have := (far_le (x.stop s.spot) (x.stop 0)).1
    show _ ≤ far (x.stop s.spot) (x.stop 0) + lowP x.near s.can
    omega
  · obtain ⟨hm, hmay, h1, h2, h3, _, _, e⟩ := move_pos h hj
    obtain ⟨p, hx⟩ := x.fit hm
    have hp := hx.pairs
    have hfew := hx.few
    have hst := s.fit hx hmay
    rw [e]
    show _ ≤ far (x.stop s.spot) (x.stop j) + lowP x.near (withN s.can j)
    obtain ⟨k, rfl⟩ : ∃ k : Nat, j = k := ⟨j.toNat, by omega⟩
    obtain ⟨m, hmm⟩ : ∃ m : Nat, s.spot = m := ⟨s.spot.toNat, by have := hst.spot; omega⟩
    have hne : m ≠ k := by
      rintro rfl
      rcases hs with hs | hs
      · omega
      · rw [Inst.lateB, ← hmm, hs] at h3; simp at h3
    have hlen := near_length hx hm
    have hf := near_far hx hm (k := k) (m := m) (by omega) (by have := hst.spot; omega) hne
    rw [lowP_cons (by omega), lowP_cons (by omega), hmm]
    have := lefts_with (may := s.can) (j := k) (by omega) (by omega) 0 x.near (by omega) (near_le x)
    rw [Nat.sub_zero] at this
    omega
theorem lefts_all {may : Nat} : ∀ (i : Nat) (l : List Int), (∀ j : Nat, i ≤ j → j < i + l.length → 0 < j → hasB may j = true) → lefts may i l = 0
  | _, [], _ => rfl
  | i, d :: l, h => by
    rw [lefts, lefts_all (i + 1) l fun j h1 h2 h3 => h j (by omega) (by simp only [List.length_cons]; omega) h3]
    have : ¬ (0 < i ∧ hasB may i = false) := fun ⟨h1, h2⟩ => by
      rw [h i (Nat.le_refl _) (by simp) h1] at h2
      cases h2
    rw [if_neg this]
    rfl
theorem end_is {x : Inst} {s : State} (h : (x.endS s).2 = true) : x.may = true ∧ ((x.pairs = 0 ∧ s = x.rootS ∧ x.endS s = (0, true)) ∨
    (s.mayB x = true ∧ s.spot ≠ 0 ∧ s.on = 0 ∧ x.allB s.can = true ∧ s.time + far (x.stop s.spot) (x.stop 0) ≤ (x.stop 0).due ∧ x.endS s = (far (x.stop s.spot) (x.stop 0), true))) := by
  unfold Inst.endS at h ⊢
  split at h
  · cases h
  · rename_i h1
    have hm : x.may = true := by simpa using h1
    refine ⟨hm, ?_⟩
    rw [if_neg h1]
    split at h
    · rename_i h2
      rw [if_pos h2]
      exact .inl ⟨h2.1, h2.2, rfl⟩
    · rename_i h2
      rw [if_neg h2]
      split at h
      · rename_i h3
        rw [if_pos h3]
        exact .inr ⟨h3.1, h3.2.1, h3.2.2.1, h3.2.2.2.1, h3.2.2.2.2, rfl⟩
      · cases h
theorem low_end {x : Inst} {s : State} (h : (x.endS s).2 = true) : lowP x.near s.can ≤ (x.endS s).1 := by
  obtain ⟨hm, h⟩ := end_is h
  obtain ⟨p, hx⟩ := x.fit hm
  have hp := hx.pairs
  have hlen := near_length hx hm
  rcases h with ⟨h1, h2, e⟩ | ⟨h1, h2, h3, h4, h5, e⟩
  · rw [e]
    have : x.near.length = 1 := by omega
    match hn : x.near, this with
    | [a], _ => simp [lowP]
  · have hst := s.fit hx h1
    have hp1 : 1 ≤ p := by have := hst.spot; omega
    rw [e, lowP_cons (by omega), lefts_all 0 x.near fun j _ hj h0 => by
      have := hx.few
      rw [has_testN (by omega)]
      exact Inst.all_bit hx h4 (by omega) (by omega)]
    obtain ⟨m, hmm⟩ : ∃ m : Nat, s.spot = m := ⟨s.spot.toNat, by have := hst.spot; omega⟩
    have hf := near_far hx hm (k := 0) (m := m) (by omega) (by have := hst.spot; omega) (by omega)
    rw [hmm]
    show _ ≤ far (x.stop m) (x.stop 0)
    have e0 : x.stop ((0 : Nat) : Int) = x.stop 0 := rfl
    rw [e0] at hf
    omega
/-- Where a move leads to was surely seen. -/
theorem seen_step {x : Inst} {s : State} {j : Int} (h : (x.move s j).2.2 = true) : (x.move s j).1.seenAt := by
  by_cases hj : j = 0
  · subst hj
    obtain ⟨_, _, _, e⟩ := move_home h
    rw [e]
    exact .inl rfl
  · obtain ⟨hm, _, h1, h2, _, _, _, e⟩ := move_pos h hj
    obtain ⟨p, hx⟩ := x.fit hm
    have hp := hx.pairs
    have hfew := hx.few
    rw [e]
    refine .inr ?_
    show hasB (withN s.must j) j = true
    obtain ⟨k, rfl⟩ : ∃ k : Nat, j = k := ⟨j.toNat, by omega⟩
    rw [has_withN (by omega)]
    simp
end Go.Proofs.Ytdjbapglfdacmaa

/- BoundSteps, BoundWays: what the laws give. -/
set_option maxRecDepth 4000
namespace Go.Proofs.Ytdjbapglfdacmaa
open Go Go.Proofs.Ytdjbapglfdacmaa.R
theorem canB_mem {f : Nat → Bool} : ∀ {n : Nat} {j : Int}, j ∈ canB f n → ∃ k : Nat, j = k ∧ k < n ∧ f k = true
  | 0, j, h => by cases h
  | n + 1, j, h => by
    rw [canB, List.mem_append] at h
    rcases h with h | h
    · obtain ⟨k, h1, h2, h3⟩ := canB_mem h
      exact ⟨k, h1, by omega, h3⟩
    · split at h
      · rename_i hf
        rw [List.mem_singleton] at h
        exact ⟨n, h, by omega, hf⟩
      · cases h
theorem moves_mem {x : Inst} {s : State} {j : Int} (h : j ∈ x.moves s) : (x.move s j).2.2 = true := by
  rw [moves_can] at h
  obtain ⟨k, rfl, _, h3⟩ := canB_mem h
  exact h3
theorem moves_len (x : Inst) (s : State) : (x.moves s).length ≤ x.stops.length := by
  rw [moves_can]
  exact canB_len _ _
theorem move_cost {x : Inst} {s : State} {j : Int} (h : (x.move s j).2.2 = true) : 0 ≤ (x.move s j).2.1 ∧ (x.move s j).2.1 ≤ 14143 := by
  obtain ⟨_, _, _, _, e⟩ := move_is h
  rw [e]
  exact far_le _ _
end Go.Proofs.Ytdjbapglfdacmaa

/- BoundWays: what the law gives. -/
set_option maxRecDepth 4000
namespace Go.Proofs.Ytdjbapglfdacmaa
open Go Go.Proofs.Ytdjbapglfdacmaa.R
theorem sumI_two {a b : Int} (ha : 0 ≤ a) (hb : 0 ≤ b) (h : a + b ≤ 1152921504606846976) : sumI [a, b] = a + b := by
  simp only [sumI, List.foldl_cons, List.foldl_nil, sum1]
  omega
/-- Moves that can be followed: as costs that don't grow too great. -/
theorem goes_app (x : Inst) : ∀ (l m : List Int) (s : State) (c : Int), x.goes (l ++ m) s c = (x.goes l s c).bind fun r => x.goes m r.1 r.2
  | [], m, s, c => rfl
  | j :: l, m, s, c => by
    rw [List.cons_append, Inst.goes, Inst.goes]
    split
    · exact goes_app x l m _ _
    · rfl
theorem seen_root (x : Inst) : x.rootS.seenAt := by
  unfold Inst.rootS
  split <;> exact .inl rfl
theorem end_cost {x : Inst} {s : State} (h : (x.endS s).2 = true) : 0 ≤ (x.endS s).1 ∧ (x.endS s).1 ≤ 14143 := by
  obtain ⟨_, h | h⟩ := end_is h
  · rw [h.2.2]; omega
  · rw [h.2.2.2.2.2]; exact far_le _ _
theorem ints_one (l : List Int) : ∀ y ∈ ints l, y.length = 1 := by
  intro y hy
  simp only [ints, List.mem_map] at hy
  obtain ⟨n, _, rfl⟩ := hy
  rfl
end Go.Proofs.Ytdjbapglfdacmaa

/- Nodes with paths of their own; once of each state. -/
set_option maxRecDepth 4000
namespace Go.Proofs.Ytdjbapglfdacmaa
open Go Go.Proofs.Ytdjbapglfdacmaa.R
theorem clone_spec (l : List Int) (hl : l.length < 4294967296) (σ : Nat → AObj) (nx : Nat) : CallSpec P 53 [.t (.sl (ints l))] σ nx (.ref nx) (oput σ nx (.arr 1 (ints l))) (nx + 1) := by
  refine CallQ.spec (spec_of Try.func53 rfl rfl (by simp [Try.f53]) fun B hB hnx hσ => K_after ?_)
  simp only [Try.f53] at hB ⊢
  have hil : (ints l).length = l.length := List.length_map _
  have hne : ints l = [] ↔ l = [] := by simp [ints]
  have h1 := ints_one l
  have hmost : l.length ≤ mostLen := by show l.length ≤ 4294967296; omega
  refine K_run hB 100 ?_
  simp [go_sem]
  refine K_nilEq (es := ints l) rfl rfl (by simp [go_sem, hB]) tt34 rfl (by simp [go_sem]) fun b hb => ?_
  cases b with
  | true =>
    have e : l = [] := Decidable.byContradiction fun h => by have := hb (fun h' => h (hne.1 h')); cases this
    have e2 : ints l = [] := hne.2 e
    refine K_run hB 100 ?_
    simp [go_sem]
    refine ⟨_, fun a w hr => rel_own (t := 2) (sz := 1) (by simp [go_sem]) hr, ?_⟩
    simp [go_sem, e2]
  | false =>
    refine K_run hB 100 ?_
    simp [go_sem, hil, hne, hmost, if_pos h1]
    refine ⟨_, Imp.self, ?_⟩
    simp [go_sem]
theorem own_pure (n : Node) (hl : n.path.length < 4294967296) : Pure P 45 [n.a] (n.a) := by
  refine pure_of Try.func45 rfl rfl (by simp [Try.f45]) (by simp [bnd, bnd.bndL, Node.a, Node.cs]) (by simp [bnd, bnd.bndL, Node.a, Node.cs]) fun B hB hnx => ?_
  simp only [Try.f45] at hB ⊢
  refine K_run hB 100 ?_
  simp [go_sem, Node.a, Node.cs]
  refine K_call rfl rfl rfl (args := [.t (.sl (ints n.path))]) (f := 53) (by simp [go_sem]) (by simp [go_sem, hB]) (clone_spec n.path hl _ _) ?_
  refine K_run hB 100 ?_
  simp [go_sem]
end Go.Proofs.Ytdjbapglfdacmaa

/- Once of each state: the program's, by a map. -/
set_option maxRecDepth 4000
namespace Go.Proofs.Ytdjbapglfdacmaa
open Go Go.Proofs.Ytdjbapglfdacmaa.R
def sIdx (s : State) : List Node → Option Nat
  | [] => none
  | m :: l => if m.s = s then some 0 else (sIdx s l).map (· + 1)
def once1 (out : List Node) (n : Node) : List Node := match sIdx n.s out with
  | none => out ++ [n]
  | some i => if n.cost < (out.getD i n).cost then out.set i n else out
def onceL (l : List Node) : List Node := l.foldl once1 []
def State.v (s : State) : Value := .agg #[.int .i64 s.spot, .int .i64 s.car, .int .i64 s.time, .int .i64 s.load, .int .i64 s.first, .int .u64 s.must, .int .u64 s.can, .int .u64 s.on]
theorem State.v_inj {a b : State} (h : a.v = b.v) : a = b := by
  simp only [State.v, Value.agg.injEq, Array.mk.injEq, List.cons.injEq, Value.int.injEq, and_true, true_and] at h
  cases a; cases b
  simp only [State.mk.injEq]
  simp only at h
  omega
theorem State.plain (s : State) : plainA s.a = some s.v := rfl
def keysM : Nat → List Node → List (Value × AV)
  | _, [] => []
  | k, m :: l => (m.s.v, .i k) :: keysM (k + 1) l
theorem findM_keys (s : State) : ∀ (k : Nat) (out : List Node), findM s.v (keysM k out) = (sIdx s out).map fun i => (i, .i ((k + i : Nat) : Int))
  | _, [] => rfl
  | k, m :: l => by
    rw [keysM, findM, sIdx, findM_keys s (k + 1) l]
    by_cases h : m.s = s
    · rw [if_pos (by rw [h]), if_pos h]; rfl
    · rw [if_neg (fun e => h (State.v_inj e)), if_neg h, Option.map_map, Option.map_map]
      congr 1
      funext i
      simp only [Function.comp]
      rw [show k + 1 + i = k + (i + 1) by omega]
theorem keysM_app (n : Node) : ∀ (k : Nat) (out : List Node), keysM k (out ++ [n]) = keysM k out ++ [(n.s.v, .i ((k + out.length : Nat) : Int))]
  | _, [] => rfl
  | k, m :: l => by
    rw [List.cons_append, keysM, keysM, keysM_app n (k + 1) l, List.cons_append, List.length_cons, show k + 1 + l.length = k + (l.length + 1) by omega]
theorem keysM_set {n : Node} : ∀ (k i : Nat) (out : List Node) (h : i < out.length), out[i].s = n.s → keysM k (out.set i n) = keysM k out
  | _, _, [], h, _ => by simp at h
  | k, 0, m :: l, _, e => by simp only [List.set_cons_zero, keysM]; rw [show m.s = n.s from e]
  | k, i + 1, m :: l, h, e => by
    rw [List.set_cons_succ, keysM, keysM, keysM_set (k + 1) i l (by simpa using h) (by simpa using e)]
theorem sIdx_some {s : State} : ∀ {out : List Node} {i : Nat}, sIdx s out = some i → ∃ h : i < out.length, out[i].s = s
  | [], i, h => by simp [sIdx] at h
  | m :: l, i, h => by
    rw [sIdx] at h
    split at h
    · rename_i e
      cases h
      exact ⟨by simp, e⟩
    · obtain ⟨j, h1, rfl⟩ := Option.map_eq_some_iff.1 h
      obtain ⟨h2, h3⟩ := sIdx_some h1
      exact ⟨by simpa using h2, by simpa using h3⟩
theorem keys_tell (s : State) (k : Nat) (out : List Node) : TellM P 33 s.a s.v (keysM k out) := by
  induction out generalizing k with
  | nil => intro e h; cases h
  | cons m l ih =>
    intro e h
    rw [keysM] at h
    rcases List.mem_cons.1 h with rfl | h
    · refine ⟨m.s.a, m.s.plain, ?_⟩
      rw [state_eq]
      congr 1
      rw [decide_eq_decide]
      exact ⟨fun h => by rw [h], fun h => (State.v_inj h).symm⟩
    · exact ih (k + 1) e h
theorem state_key (s : State) : ckA P 10000 33 s.a = true := by kernel_rfl
theorem once1_len (out : List Node) (n : Node) : (once1 out n).length ≤ out.length + 1 := by
  unfold once1
  split
  · simp
  · split <;> simp
def nodesT (l : List Node) : List (List T) := l.map Node.t
theorem nodesT_get (l : List Node) {k : Nat} (h : k < l.length) : (nodesT l)[k]'(by rw [nodesT, List.length_map]; exact h) = l[k].t := by simp [nodesT]
theorem nodesT_len (l : List Node) : ∀ y ∈ nodesT l, y.length = 10 := by
  intro y hy
  simp only [nodesT, List.mem_map] at hy
  obtain ⟨n, _, rfl⟩ := hy
  rfl
/-- Nodes as they may be. -/
structure Node.Fine (n : Node) : Prop where
  ok : n.s.ok
  len : n.path.length < 2 ^ 31
theorem once_pure (l : List Node) (hl : l.length < 2 ^ 31) (hn : ∀ n ∈ l, n.Fine) : Pure P 57 [.t (.sl (nodesT l))] (.t (.sl (nodesT (onceL l)))) := by
  generalize hR : onceL l = R
  refine pure_of Try.func57 rfl rfl (by simp [Try.f57]) (by simp [bnd, bnd.bndL]) (by simp [bnd, bnd.bndL]) fun B hB hnx => ?_
  simp only [Try.f57] at hB ⊢
  have hil : (nodesT l).length = l.length := List.length_map _
  have hgt : ∀ (k : Nat) (h : k < l.length), (nodesT l)[k]'(by rw [hil]; exact h) = l[k].t := fun k h => nodesT_get l h
  generalize hX : nodesT l = X at *
  have hmost : mostLen = 4294967296 := rfl
  refine K_run hB 100 ?_
  simp [go_sem, hil]
  refine K_own 4 10 (by simp [go_sem]) ?_
  refine K_loopP (α := Nat × List Node × Nat × (Nat → AObj) × Nat) (fun (k, out, j, σ, nx) => k ≤ l.length ∧ (l.drop k).foldl once1 out = R ∧ out.length ≤ k ∧ σ 0 = .map (keysM 0 out) ∧ σ j = .arr 10 (nodesT out) ∧ 0 < j ∧ j < nx)
    (fun (k, out, j, σ, nx) => ⟨sl [(3, .mapr 0), (4, .ref j), (10, .t (.sl X)), (11, .i l.length), (12, .i k)], σ, nx⟩) (fun a => l.length - a.1) (0, [], 1, _, 2) ?_ (Imp.slots (by simp [go_sem, hil]) rfl rfl) ?_
  · exact ⟨Nat.zero_le _, hR, Nat.le_refl _, by simp [oput, keysM], by simp [oput, nodesT], by omega, by omega⟩
  rintro ⟨k, out, j, σ, nx⟩ ⟨g1, g2, g3, g4, g5, g6, g7⟩
  refine K_run hB 60 ?_
  simp [go_sem]
  refine fork_dec (fun hk => ?_) (fun hk => ?_)
  · have hkk : IntKind.i64.wrap ((k : Int) + 1) = ((k + 1 : Nat) : Int) := by rw [w64 ((k : Int) + 1) (by omega)]; rfl
    have hget : ∀ h : k < X.length, X[k]'h = l[k].t := fun h => hgt k hk
    rw [List.drop_eq_getElem_cons hk, List.foldl_cons] at g2
    have hfine := hn l[k] (List.getElem_mem _)
    generalize l[k] = n at *
    have hown := own_pure n (by have := hfine.len; omega)
    simp [go_sem, hil, hk, hget, Node.t, g5]
    refine K_lookup (kt := 33) (et := 3) (es := keysM 0 out) (u := n.s.v) (m := 0) (r := match sIdx n.s out with | some i => .tup [.i i, .b true] | none => .tup [.i 0, .b false]) rfl rfl (by simp [go_sem, hB]) tt137 rfl tt3 (by kernel_rfl) (by simp [go_sem]) (by simp [go_sem, g4, show ¬ 0 = nx by omega]) (by simp [go_sem]; exact n.s.plain) (by simp [go_sem]; exact state_key n.s) (by simp [go_sem]; exact keys_tell n.s 0 out) ?_ ?_
    · rw [lookA, findM_keys]
      cases sIdx n.s out with
      | none => simp [go_sem]
      | some i => simp
    have ho : once1 out n = match sIdx n.s out with
      | none => out ++ [n]
      | some i => if n.cost < (out.getD i n).cost then out.set i n else out := rfl
    have hlen : (nodesT out).length = out.length := List.length_map _
    have hnj : ¬ j = nx := by omega
    have hn0 : ¬ 0 = nx := by omega
    have h0j : ¬ 0 = j := by omega
    cases hi : sIdx n.s out with
    | none =>
      rw [hi] at ho
      simp only at ho
      rw [ho] at g2
      have hcap : out.length + 1 ≤ mostLen := by omega
      refine K_run hB 100 ?_
      simp [go_sem, g5, hlen, hnj]
      refine K_mapSet (kt := 33) (et := 3) (es := keysM 0 out) (u := n.s.v) (m := 0) rfl rfl (by simp [go_sem, hB]) tt137 rfl (by kernel_rfl) (by simp [go_sem]) (by simp [go_sem, g4, hn0]) (by simp [go_sem]; exact n.s.plain) (by simp [go_sem]; exact state_key n.s) (by simp [go_sem]; exact keys_tell n.s 0 out) (.inl (by rw [findM_keys, hi]; rfl)) ?_
      refine K_run hB 100 ?_
      simp [go_sem, show ¬ nx = 0 by omega]
      refine K_call rfl rfl rfl (args := [n.a]) (f := 45) (by simp [go_sem, Node.a, Node.cs]) (by simp [go_sem, hB]) ((hown).spec _ _) ?_
      refine K_run hB 100 ?_
      simp [go_sem, Node.a, Node.cs, g5, hlen, hcap, hnj, hkk, h0j, show ¬ j = 0 by omega]
      refine Next.mk (k + 1, out ++ [n], nx + 1, _, nx + 2) ?_ (Imp.slots (by simp [go_sem]) rfl rfl) (by simp only; omega)
      refine ⟨by simp only; omega, g2, by simp only [List.length_append, List.length_cons, List.length_nil]; omega, ?_, ?_, by simp only; omega, by simp only; omega⟩
      · simp [oput, hn0, h0j, setM, findM_keys, hi, keysM_app]
      · simp [oput, nodesT, Node.t]
    | some i =>
      obtain ⟨hil2, his⟩ := sIdx_some hi
      rw [hi] at ho
      simp only at ho
      have hgi : ∀ h : i < (nodesT out).length, (nodesT out)[i]'h = out[i].t := fun h => nodesT_get out hil2
      have hgd : out.getD i n = out[i] := by rw [List.getD_eq_getElem?_getD, List.getElem?_eq_getElem hil2]; rfl
      rw [hgd] at ho
      have q1 : i * 10 / 10 = i := by omega
      have q2 : (i * 10 + 8) / 10 = i := by omega
      have q3 : (i * 10 + 8) % 10 = 8 := by omega
      have q4 : i * 10 % 10 = 0 := by omega
      have q5 : (i : Int) < out.length := by omega
      refine K_run hB 100 ?_
      simp [go_sem]
      refine K_drawn [] rfl (by rw [hB]; kernel_rfl) ?_
      by_cases c1 : n.cost < out[i].cost
      · rw [if_pos c1] at ho
        rw [ho] at g2
        refine K_run hB 100 ?_
        simp [go_sem, g5, hlen, hnj, hgi, q2, q3, q5, hil2, Node.t, c1]
        refine K_call rfl rfl rfl (args := [n.a]) (f := 45) (by simp [go_sem, Node.a, Node.cs]) (by simp [go_sem, hB]) ((hown).spec _ _) ?_
        refine K_run hB 100 ?_
        simp [go_sem, Node.a, Node.cs, g5, hlen, hnj, hgi, q1, q4, q5, hil2, Node.t, hkk]
        refine Next.mk (k + 1, out.set i n, j, _, nx + 1) ?_ (Imp.slots (by simp [go_sem]) rfl rfl) (by simp only; omega)
        refine ⟨by simp only; omega, g2, by simp only [List.length_set]; omega, ?_, ?_, by simp only; omega, by simp only; omega⟩
        · rw [keysM_set 0 i out hil2 his]
          simp [oput, hn0, h0j, g4]
        · simp [oput, nodesT, Node.t, List.map_set]
      · rw [if_neg c1] at ho
        rw [ho] at g2
        refine K_run hB 100 ?_
        simp [go_sem, g5, hlen, hnj, hgi, q2, q3, q5, hil2, Node.t, c1, hkk]
        refine Next.mk (k + 1, out, j, _, nx + 1) ?_ (Imp.slots (by simp [go_sem]) rfl rfl) (by simp only; omega)
        refine ⟨by simp only; omega, g2, by simp only; omega, ?_, ?_, by simp only; omega, by simp only; omega⟩
        · simp [oput, hn0, g4]
        · simp [oput, hnj, g5]
  · have : k = l.length := by omega
    subst this
    rw [List.drop_length, List.foldl_nil] at g2
    subst g2
    simp [go_sem, g5]
end Go.Proofs.Ytdjbapglfdacmaa

/- The nodes behind all moves of one: the iterator. -/
set_option maxRecDepth 4000
namespace Go.Proofs.Ytdjbapglfdacmaa
open Go Go.Proofs.Ytdjbapglfdacmaa.R
def Inst.child (x : Inst) (n : Node) (j : Int) : Node := ⟨(x.move n.s j).1, sumI [n.cost, (x.move n.s j).2.1], n.path ++ [j]⟩
/-- A node whose path is a row of the call's own. -/
def Node.ra (n : Node) (r : Nat) : AV := .agg [.i n.s.spot, .i n.s.car, .i n.s.time, .i n.s.load, .i n.s.first, .u n.s.must, .u n.s.can, .u n.s.on, .i n.cost, .ref r]
theorem children_pure (x : Inst) (n : Node) (σ : Nat → AObj) (nx : Nat) : CallQ P 56 [x.a, n.a] σ nx fun r σ' nx' => r = .fn (.func 79) [] [.ptr nx 0, .ptr (nx + 1) 0] ∧ nx' = nx + 2 ∧
    σ' = oput (oput σ nx (.box x.cs)) (nx + 1) (.box n.cs) := by
  refine spec_of Try.func56 rfl rfl (by simp [Try.f56]) fun B hB hnx hσ => ?_
  simp only [Try.f56] at hB ⊢
  refine K_run hB 100 ?_
  simp [go_sem, Inst.a, Node.a, Node.cs, Inst.cs]
  omega
theorem children1_spec (x : Inst) (n : Node) (hl : x.stops.length < 2 ^ 63) (ho : n.s.ok) (hp : n.path.length < 2 ^ 31) (q b1 b2 : Nat) (J : Nat → (Nat → AObj) → Nat → Prop) (σ0 : Nat → AObj) (nx0 : Nat) (h0 : J 0 σ0 nx0)
    (hb : ∀ k σ nx, J k σ nx → nx0 ≤ nx ∧ b1 < nx ∧ b2 < nx ∧ σ b1 = .box x.cs ∧ σ b2 = .box n.cs)
    (hy : ∀ k (hk : k < (x.moves n.s).length) σ nx σ1 nx1 r, J k σ nx → (∀ i, i < nx → σ1 i = σ i) → nx ≤ r → r < nx1 → σ1 r = .arr 1 (ints (n.path ++ [(x.moves n.s)[k]])) →
      ∃ σ' nx', YieldQ P q [(x.child n (x.moves n.s)[k]).ra r] σ1 nx1 (fun a b => a = σ' ∧ b = nx') ∧ J (k + 1) σ' nx') :
    CallQ P 79 [.yld q, .ptr b1 0, .ptr b2 0] σ0 nx0 fun _ σ' nx' => J (x.moves n.s).length σ' nx' := by
  refine spec_of Try.func79 rfl rfl (by simp [Try.f79]) fun B hB hnx hσ => ?_
  simp only [Try.f79] at hB ⊢
  obtain ⟨_, _, _, a1, a2⟩ := hb 0 σ0 nx0 h0
  have hms := moves_pure x n.s hl ho
  have hmv := fun j => move_pure x n.s j hl ho
  have hil : (ints (x.moves n.s)).length = (x.moves n.s).length := List.length_map _
  have hpl : (ints n.path).length = n.path.length := List.length_map _
  have hgt : ∀ (k : Nat) (h : k < (x.moves n.s).length), (ints (x.moves n.s))[k]'(by rw [hil]; exact h) = [.i ((x.moves n.s)[k])] := fun k h => ints_getS _ h
  have hml : (x.moves n.s).length < 2 ^ 63 := by
    rw [moves_can]
    have := canB_len (fun k => (x.move n.s k).2.2) x.stops.length
    omega
  have hmost : mostLen = 4294967296 := rfl
  have hcl := clone_spec n.path (by omega)
  generalize hX : ints (x.moves n.s) = X at *
  generalize hL : x.moves n.s = L at *
  refine K_run hB 100 ?_
  simp [go_sem, a1, a2, Inst.cs, Node.cs]
  refine K_call rfl rfl rfl (args := [x.a, n.s.a]) (f := 63) (by simp [go_sem, Inst.a, State.a, State.cs]) (by simp [go_sem, hB]) ((hms).spec _ _) ?_
  refine K_run hB 100 ?_
  simp [go_sem, hil]
  refine K_loopP (α := Nat × (Nat → AObj) × Nat) (fun (k, σ, nx) => k ≤ L.length ∧ J k σ nx) (fun (k, σ, nx) => ⟨sl [(0, .yld q), (1, .ptr b1 0), (2, .ptr b2 0), (12, .t (.sl X)), (13, .i L.length), (14, .i k)], σ, nx⟩) (fun a => L.length - a.1) (0, σ0, nx0) ⟨Nat.zero_le _, h0⟩ (Imp.slots (by simp [go_sem]) rfl rfl) ?_
  rintro ⟨k, σ, nx⟩ ⟨g1, g2⟩
  obtain ⟨gn, l1, l2, d1, d2⟩ := hb k σ nx g2
  refine K_run hB 60 ?_
  simp [go_sem]
  refine fork_dec (fun hk => ?_) (fun hk => ?_)
  · have hkk : IntKind.i64.wrap ((k : Int) + 1) = ((k + 1 : Nat) : Int) := by rw [w64 ((k : Int) + 1) (by omega)]; rfl
    have hget : ∀ h : k < X.length, X[k]'h = [.i L[k]] := fun h => hgt k hk
    have hyk := hy k hk σ nx
    generalize L[k] = j at *
    have hm := hmv j
    have hch : x.child n j = ⟨(x.move n.s j).1, sumI [n.cost, (x.move n.s j).2.1], n.path ++ [j]⟩ := rfl
    generalize x.child n j = c at *
    generalize x.move n.s j = V at *
    obtain ⟨t, d, is⟩ := V
    simp only at hch
    have hsum := sum_pure [n.cost, d] (by simp)
    have n1 : ¬ b1 = nx := by omega
    have n2 : ¬ b2 = nx := by omega
    have n3 : ¬ b2 = nx + 1 := by omega
    have hcap : n.path.length + 1 ≤ mostLen := by omega
    simp [go_sem, hil, hk, hget, d1, d2, Inst.cs, Node.cs]
    refine K_call rfl rfl rfl (args := [x.a, n.s.a, .i j]) (f := 35) (by simp [go_sem, Inst.a, State.a, State.cs]) (by simp [go_sem, hB]) ((hm).spec _ _) ?_
    refine K_run hB 100 ?_
    simp [go_sem, mv, State.a, State.cs]
    refine K_drawnG [9, 12, 14] [0, 1, 10, 11] [1] rfl (by rw [hB]; kernel_rfl) (by kernel_rfl) fun ht hf' => ?_
    refine K_run hB 100 ?_
    simp [go_sem, ht, hf', d2, n2, Node.cs]
    refine K_dCallP rfl rfl rfl (args := [.fsl (ints [n.cost, d])]) (f := 55) (by simp [go_sem, ints]) (Pure.loose hsum (by simp [bnd])) ?_
    refine K_run hB 100 ?_
    simp [go_sem, ht, hf', d2, n2, Node.cs]
    refine K_dCall rfl rfl rfl (args := [.t (.sl (ints n.path))]) (f := 53) (by simp [go_sem]) (hcl _ _) (by decide) (okPends_does (by simp [go_sem])) ?_
    refine K_run hB 100 ?_
    simp [go_sem, ht, hf', hpl, hcap, show ¬ nx = nx + 1 + 1 by omega, show ¬ nx = nx + 1 by omega]
    obtain ⟨σ', nx', h1, h2⟩ := hyk (oput (oput (oput (oput (oput σ nx (.box [.i 0, .i 0, .i 0, .i 0, .i 0, .u 0, .u 0, .u 0])) nx (.box [.i t.spot, .i t.car, .i t.time, .i t.load, .i t.first, .u t.must, .u t.can, .u t.on])) (nx + 1) (.arr 1 (ints n.path))) (nx + 1) .dead) (nx + 2) (.arr 1 (ints n.path ++ [[.i j]]))) (nx + 3) (nx + 2) g2 (fun i hi => by simp [oput, show ¬ i = nx by omega, show ¬ i = nx + 1 by omega, show ¬ i = nx + 2 by omega]) (by omega) (by omega) (by simp [oput, ints])
    refine K_dYield rfl rfl rfl (q := q) (args := [c.ra (nx + 2)]) (σ' := σ') (nx' := nx') (by simp [go_sem]) (by simp [go_sem, Node.ra, hch]) h1 (by decide) (okPends_does ⟨.inl (by kernel_rfl), trivial⟩) ?_
    refine K_run hB 100 ?_
    simp [go_sem, hkk]
    exact Next.mk (k + 1, σ', nx') ⟨by simp only; omega, h2⟩ (Imp.slots (by simp [go_sem]) rfl rfl) (by simp only; omega)
  · have : k = L.length := by omega
    subst this
    simp [go_sem, hnx, g2]
    exact gn
end Go.Proofs.Ytdjbapglfdacmaa

/- All moves of some nodes, and the best one that can be ended. -/
set_option maxRecDepth 4000
namespace Go.Proofs.Ytdjbapglfdacmaa
open Go Go.Proofs.Ytdjbapglfdacmaa.R
def Inst.kids (x : Inst) (up : Int) (n : Node) : List Node := ((x.moves n.s).map (x.child n)).filter fun c => decide (x.of c < up)
def Node.zero : Node := ⟨State.zero, 0, []⟩
def Inst.best1 (x : Inst) (b : Node × Bool) (n : Node) : Node × Bool :=
  if (x.endS n.s).2 = true ∧ (b.2 = false ∨ sumI [n.cost, (x.endS n.s).1] < b.1.cost) then ({ n with cost := sumI [n.cost, (x.endS n.s).1] }, true) else b
def Inst.bests (x : Inst) (l : List Node) : Node × Bool := l.foldl x.best1 (Node.zero, false)
def Inst.next (x : Inst) (l : List Node) (up : Int) : List Node := onceL (l.flatMap (x.kids up))
theorem moves_33 (x : Inst) (s : State) : (x.moves s).length ≤ 33 := by
  cases hm : x.may with
  | false =>
    rw [Inst.moves, if_neg (by simp [hm])]; simp
  | true =>
    obtain ⟨p, hx⟩ := x.fit hm
    have := hx.len
    have := hx.few
    have := moves_len x s
    omega
theorem kids_33 (x : Inst) (up : Int) (n : Node) : (x.kids up n).length ≤ 33 := by
  unfold Inst.kids
  refine Nat.le_trans (List.length_filter_le _ _) ?_
  rw [List.length_map]
  exact moves_33 x n.s
def expRes (l : List Node) (b : Node × Bool) : AV := .tup [.t (.sl (nodesT l)), b.1.a, .b b.2]
theorem take_kids (x : Inst) (up : Int) (n : Node) {k : Nat} (hk : k < (x.moves n.s).length) :
    (((x.moves n.s).take (k + 1)).map (x.child n)).filter (fun c => decide (x.of c < up)) = (((x.moves n.s).take k).map (x.child n)).filter (fun c => decide (x.of c < up)) ++ (if x.of (x.child n (x.moves n.s)[k]) < up then [x.child n (x.moves n.s)[k]] else []) := by
  rw [List.take_succ_eq_append_getElem hk, List.map_append, List.filter_append]
  congr 1
  simp only [List.map_cons, List.map_nil, List.filter_cons, List.filter_nil, decide_eq_true_eq]
/-- What holds while the moves of one node are made. -/
structure Loop14 (x : Inst) (up : Int) (n : Node) (all : List Node) (b : Node) (L : AObj) (nx0 b1 : Nat) (k : Nat) (σ : Nat → AObj) (nx : Nat) : Prop where
  o0 : σ 0 = .box x.cs
  o1 : σ 1 = .box [.i up]
  o2 : σ 2 = .box Node.zero.cs
  o4 : σ 4 = .box b.cs
  p1 : σ b1 = .box x.cs
  p2 : σ (b1 + 1) = .box n.cs
  q : σ (b1 + 2) = L
  le : nx0 ≤ nx ∧ b1 + 2 < nx ∧ 4 < b1
  row : ∃ a, σ 3 = .box [.ref a] ∧ σ a = .arr 10 (nodesT (all ++ (((x.moves n.s).take k).map (x.child n)).filter fun c => decide (x.of c < up))) ∧ 4 < a ∧ a < nx ∧ a ≠ b1 ∧ a ≠ b1 + 1 ∧ a ≠ b1 + 2
theorem expand_pure (x : Inst) (l : List Node) (up : Int) (hl : x.stops.length < 2 ^ 31) (hll : l.length < 2 ^ 20) (hn : ∀ n ∈ l, n.Fine) (hn2 : ∀ n ∈ l, n.path.length < 2 ^ 30) : Pure P 34 [x.a, .t (.sl (nodesT l)), .i up] (expRes (x.next l up) (x.bests l)) := by
  generalize hR : x.next l up = R
  generalize hRb : x.bests l = Rb
  refine pure_ofR Try.func34 rfl rfl (by simp [Try.f34]) (by simp [bnd, bnd.bndL, Inst.a]) (by simp [bnd, bnd.bndL, expRes, Node.a, Node.cs]) fun B hB hnx hro => ?_
  simp only [Try.f34] at hB ⊢
  have hil : (nodesT l).length = l.length := List.length_map _
  have hgt : ∀ (k : Nat) (h : k < l.length), (nodesT l)[k]'(by rw [hil]; exact h) = l[k].t := fun k h => nodesT_get l h
  generalize hX : nodesT l = X at *
  have hmost : mostLen = 4294967296 := rfl
  rw [Inst.next] at hR
  rw [Inst.bests] at hRb
  refine K_run hB 100 ?_
  simp [go_sem, Inst.a, hil]
  refine K_less (((Imp.ownB (b := 3) (off := 0) (sz := 10) (cs := [.fsl []]) (by simp [go_sem]) rfl).trans (Imp.looseB (b := 2) (cs := [.i 0, .i 0, .i 0, .i 0, .i 0, .u 0, .u 0, .u 0, .i 0, .fsl []]) (by simp [oput]))).trans (Imp.looseB (b := 4) (cs := [.i 0, .i 0, .i 0, .i 0, .i 0, .u 0, .u 0, .u 0, .i 0, .fsl []]) (by simp [oput]))) ?_
  refine K_loopP (α := Nat × List Node × (Node × Bool) × Nat × (Nat → AObj) × Nat) (fun (k, all, b, a, σ, nx) => k ≤ l.length ∧ (all ++ (l.drop k).flatMap (x.kids up) = l.flatMap (x.kids up) ∧ all.length ≤ 33 * k) ∧ (l.drop k).foldl x.best1 b = Rb ∧ σ 0 = .box x.cs ∧ σ 1 = .box [.i up] ∧ σ 2 = .box Node.zero.cs ∧ σ 3 = .box [.ref a] ∧ σ 4 = .box b.1.cs ∧ σ a = .arr 10 (nodesT all) ∧ 4 < a ∧ a < nx)
    (fun (k, all, b, a, σ, nx) => ⟨sl [(3, .ptr 0 0), (5, .ptr 1 0), (7, .ptr 2 0), (9, .ptr 3 0), (10, .ptr 4 0), (11, .b b.2), (18, .t (.sl X)), (19, .i l.length), (20, .i k)], σ, nx⟩) (fun a => l.length - a.1) (0, [], (Node.zero, false), 5, _, 6) ?_ (Imp.slots (by simp [go_sem]) rfl rfl) ?_
  · exact ⟨Nat.zero_le _, ⟨rfl, Nat.le_refl _⟩, hRb, by simp [oput, Inst.cs], by simp [oput], by simp [oput, Node.zero, State.zero, Node.cs, ints, loosen], by simp [oput], by simp [oput, Node.zero, State.zero, Node.cs, ints, loosen], by simp [oput, nodesT], by omega, by omega⟩
  rintro ⟨k, all, b, a, σ, nx⟩ ⟨g1, ⟨g2, g2'⟩, g3, h0, h1, h2, h3, h4, h5, h6, h7⟩
  refine K_run hB 60 ?_
  simp [go_sem]
  refine fork_dec (fun hk => ?_) (fun hk => ?_)
  · have hkk : IntKind.i64.wrap ((k : Int) + 1) = ((k + 1 : Nat) : Int) := by rw [w64 ((k : Int) + 1) (by omega)]; rfl
    have hget : ∀ h : k < X.length, X[k]'h = l[k].t := fun h => hgt k hk
    rw [List.drop_eq_getElem_cons hk, List.flatMap_cons] at g2
    rw [List.drop_eq_getElem_cons hk, List.foldl_cons] at g3
    have hfine := hn l[k] (List.getElem_mem _)
    have hpath := hn2 l[k] (List.getElem_mem _)
    generalize l[k] = n at *
    have hen := end_pure x n.s (by omega) hfine.ok
    have hown := own_pure n (by omega)
    have hbe : x.best1 b n = if (x.endS n.s).2 = true ∧ (b.2 = false ∨ sumI [n.cost, (x.endS n.s).1] < b.1.cost) then ({ n with cost := sumI [n.cost, (x.endS n.s).1] }, true) else b := rfl
    have m0 : ¬ 0 = nx := by omega
    have m1 : ¬ 1 = nx := by omega
    have m2 : ¬ 2 = nx := by omega
    have m3 : ¬ 3 = nx := by omega
    have m4 : ¬ 4 = nx := by omega
    have ma : ¬ a = nx := by omega
    have ma4 : ¬ a = 4 := by omega
    have mn4 : ¬ nx = 4 := by omega
    simp [go_sem, hil, hk, hget, Node.t, h0, m0, Inst.cs]
    refine K_call rfl rfl rfl (args := [x.a, n.s.a]) (f := 54) (by simp [go_sem, Inst.a, State.a, State.cs]) (by simp [go_sem, hB]) ((hen).spec _ _) ?_
    refine K_run hB 10 ?_
    simp [go_sem]
    refine K_cut (α := Nat → AObj) (fun σ' => σ' 0 = .box x.cs ∧ σ' 1 = .box [.i up] ∧ σ' 2 = .box Node.zero.cs ∧ σ' 3 = .box [.ref a] ∧ σ' 4 = .box (x.best1 b n).1.cs ∧ σ' a = .arr 10 (nodesT all) ∧ σ' nx = .box n.cs)
      (fun σ' => ⟨sl [(3, .ptr 0 0), (5, .ptr 1 0), (7, .ptr 2 0), (9, .ptr 3 0), (10, .ptr 4 0), (11, .b (x.best1 b n).2), (13, .ptr nx 0), (18, .t (.sl X)), (19, .i l.length), (20, .i k)], σ', nx + 1⟩) ?_ ?_
    · have hsum := sum_pure [n.cost, (x.endS n.s).1] (by simp)
      generalize x.best1 b n = b' at *
      generalize x.endS n.s = E at *
      obtain ⟨c, is⟩ := E
      cases is with
      | false =>
        rw [if_neg (by simp)] at hbe
        subst hbe
        refine K_run hB 100 ?_
        simp [go_sem]
        refine ⟨_, ⟨?_, ?_, ?_, ?_, ?_, ?_, ?_⟩, Imp.slots (by simp [go_sem]) rfl rfl⟩
        all_goals simp [oput, m0, m1, m2, m3, m4, ma, h0, h1, h2, h3, h4, h5, Inst.cs, Node.cs]
      | true =>
        simp only [true_and] at hbe
        refine K_run hB 100 ?_
        simp [go_sem]
        refine K_call rfl rfl rfl (args := [.fsl (ints [n.cost, c])]) (f := 55) (by simp [go_sem, ints]) (by simp [go_sem, hB]) ((Pure.loose hsum (by simp [bnd])).spec _ _) ?_
        generalize sumI [n.cost, c] = e at *
        by_cases c1 : b.2 = false ∨ e < b.1.cost
        · rw [if_pos c1] at hbe
          subst hbe
          cases c2 : b.2 with
          | false =>
            refine K_run hB 100 ?_
            simp [go_sem, c2]
            refine K_call rfl rfl rfl (args := [n.a]) (f := 45) (by simp [go_sem, Node.a, Node.cs]) (by simp [go_sem, hB]) ((hown).spec _ _) ?_
            refine K_run hB 100 ?_
            simp [go_sem, Node.a, Node.cs, h4, m4, mn4]
            refine ⟨_, ⟨?_, ?_, ?_, ?_, ?_, ?_, ?_⟩, Imp.slots (by simp [go_sem]) rfl rfl⟩
            all_goals simp [oput, m0, m1, m2, m3, m4, ma, ma4, mn4, h0, h1, h2, h3, h4, h5, Inst.cs, Node.cs]
          | true =>
            have c3 : e < b.1.cost := c1.resolve_left (by simp [c2])
            refine K_run hB 100 ?_
            simp [go_sem, c2, h4, m4, Node.cs, c3]
            refine K_call rfl rfl rfl (args := [n.a]) (f := 45) (by simp [go_sem, Node.a, Node.cs]) (by simp [go_sem, hB]) ((hown).spec _ _) ?_
            refine K_run hB 100 ?_
            simp [go_sem, Node.a, Node.cs, h4, m4, mn4]
            refine ⟨_, ⟨?_, ?_, ?_, ?_, ?_, ?_, ?_⟩, Imp.slots (by simp [go_sem]) rfl rfl⟩
            all_goals simp [oput, m0, m1, m2, m3, m4, ma, ma4, mn4, h0, h1, h2, h3, h4, h5, Inst.cs, Node.cs]
        · rw [if_neg c1] at hbe
          subst hbe
          have c2 : b'.2 = true := by
            cases h : b'.2 with
            | true => rfl
            | false => exact absurd (.inl h) c1
          have c3 : ¬ e < b'.1.cost := fun h => c1 (.inr h)
          refine K_run hB 100 ?_
          simp [go_sem, c2, h4, m4, Node.cs, c3]
          refine ⟨_, ⟨?_, ?_, ?_, ?_, ?_, ?_, ?_⟩, Imp.slots (by simp [go_sem, c2]) rfl rfl⟩
          all_goals simp [oput, m0, m1, m2, m3, m4, ma, h0, h1, h2, h3, h4, h5, Inst.cs, Node.cs]
    rintro σ' ⟨k0, k1, k2, k3, k4, k5, k6⟩
    have hch := children_pure x n
    refine K_run hB 100 ?_
    simp [go_sem, k0, k6, Inst.cs, Node.cs]
    refine K_callQ rfl rfl rfl (args := [x.a, n.a]) (f := 56) (by simp [go_sem, Inst.a, Node.a, Node.cs]) (by simp [go_sem, hB]) (hch _ _) ?_
    rintro r σ2 nx2 ⟨rfl, rfl, rfl⟩
    refine K_run hB 100 ?_
    simp [go_sem]
    generalize hb' : x.best1 b n = b' at *
    have hsp := children1_spec x n (by omega) hfine.ok (by omega)
    have hk33 := moves_33 x n.s
    refine K_less (Imp.slots (l := [(3, .ptr 0 0), (5, .ptr 1 0), (7, .ptr 2 0), (9, .ptr 3 0), (10, .ptr 4 0), (11, .b b'.2), (18, .t (.sl X)), (19, .i l.length), (20, .i k), (51, .fn (.func 79) [] [.ptr (nx + 1) 0, .ptr (nx + 2) 0])]) (by simp [go_sem]) rfl rfl) ?_
    refine K_range hro (f := 79) (args := [.yld (nx + 3), .ptr (nx + 1) 0, .ptr (nx + 2) 0]) (by simp [go_sem]) fun L hL => ⟨fun _ σ3 nx3 => Loop14 x up n all b'.1 L (nx + 4) (nx + 1) (x.moves n.s).length σ3 nx3, ?_, ?_⟩
    · refine hsp (nx + 3) (nx + 1) (nx + 2) (Loop14 x up n all b'.1 L (nx + 4) (nx + 1)) _ (nx + 4) ?_ ?_ ?_
      · refine ⟨?_, ?_, ?_, ?_, ?_, ?_, ?_, by omega, ⟨a, ?_, ?_, by omega, by omega, by omega, by omega, by omega⟩⟩
        all_goals simp [oput, k0, k1, k2, k3, k4, k5, show ¬ nx = 0 by omega, show ¬ nx = 1 by omega, show ¬ nx = 2 by omega, show ¬ nx = 3 by omega, show ¬ 0 = nx + 3 by omega, show ¬ 1 = nx + 3 by omega, show ¬ 2 = nx + 3 by omega, show ¬ 3 = nx + 3 by omega, show ¬ 4 = nx + 3 by omega, show ¬ a = nx + 3 by omega,
          show ¬ 0 = nx + 2 by omega, show ¬ 1 = nx + 2 by omega, show ¬ 2 = nx + 2 by omega, show ¬ 3 = nx + 2 by omega, show ¬ 4 = nx + 2 by omega, show ¬ a = nx + 2 by omega, show ¬ 0 = nx + 1 by omega, show ¬ 1 = nx + 1 by omega, show ¬ 2 = nx + 1 by omega, show ¬ 3 = nx + 1 by omega, show ¬ 4 = nx + 1 by omega, show ¬ a = nx + 1 by omega, Inst.cs, Node.cs]
      · rintro k' σ3 nx3 hJ
        have := hJ.le
        exact ⟨this.1, by omega, by omega, hJ.p1, hJ.p2⟩
      · intro k' hk' σ3 nx3 σ4 nx4 r hJ hag hr1 hr2 hr3
        have hle := hJ.le
        obtain ⟨a', r1, r2, r3, r4, r5, r6, r7⟩ := hJ.row
        have htk := take_kids x up n hk'
        have hcok : (x.child n (x.moves n.s)[k']).s.ok := move_ok x _ hfine.ok
        have hcp : (x.child n (x.moves n.s)[k']).path = n.path ++ [(x.moves n.s)[k']] := rfl
        rw [← hcp] at hr3
        generalize x.child n (x.moves n.s)[k'] = c at *
        have hof := of_pure x c hl hcok
        have hlen : (nodesT (all ++ (((x.moves n.s).take k').map (x.child n)).filter fun c => decide (x.of c < up))).length + 1 ≤ mostLen := by
          rw [nodesT, List.length_map, List.length_append]
          have := List.length_filter_le (fun c => decide (x.of c < up)) (((x.moves n.s).take k').map (x.child n))
          rw [List.length_map, List.length_take] at this
          omega
        generalize (((x.moves n.s).take k').map (x.child n)).filter (fun c => decide (x.of c < up)) = F at *
        have s0 : σ4 0 = .box x.cs := (hag 0 (by omega)).trans hJ.o0
        have s1 : σ4 1 = .box [.i up] := (hag 1 (by omega)).trans hJ.o1
        have s2 : σ4 2 = .box Node.zero.cs := (hag 2 (by omega)).trans hJ.o2
        have s3 : σ4 3 = .box [.ref a'] := (hag 3 (by omega)).trans r1
        have s4 : σ4 4 = .box b'.1.cs := (hag 4 (by omega)).trans hJ.o4
        have s5 : σ4 a' = .arr 10 (nodesT (all ++ F)) := (hag a' (by omega)).trans r2
        have s6 : σ4 (nx + 1) = .box x.cs := (hag (nx + 1) (by omega)).trans hJ.p1
        have s7 : σ4 (nx + 2) = .box n.cs := (hag (nx + 2) (by omega)).trans hJ.p2
        have s8 : σ4 (nx + 3) = L := (hag (nx + 3) (by omega)).trans hJ.q
        obtain ⟨σ5, hσ5⟩ : ∃ σ5 : Nat → AObj, σ5 = fun j => if j = r then AObj.dead else frzO r (ints c.path) (σ4 j) := ⟨_, rfl⟩
        have f0 : σ5 0 = .box x.cs := by simp [hσ5, show ¬ 0 = r by omega, s0, frzO, frz1, frz1.frzL, Inst.cs]
        have f1 : σ5 1 = .box [.i up] := by simp [hσ5, show ¬ 1 = r by omega, s1, frzO, frz1, frz1.frzL]
        have f2 : σ5 2 = .box Node.zero.cs := by simp [hσ5, show ¬ 2 = r by omega, s2, frzO, frz1, frz1.frzL, Node.cs]
        have f3 : σ5 3 = .box [.ref a'] := by simp [hσ5, show ¬ 3 = r by omega, s3, frzO, frz1, frz1.frzL, show ¬ a' = r by omega]
        have f4 : σ5 4 = .box b'.1.cs := by simp [hσ5, show ¬ 4 = r by omega, s4, frzO, frz1, frz1.frzL, Node.cs]
        have f5 : σ5 a' = .arr 10 (nodesT (all ++ F)) := by simp [hσ5, show ¬ a' = r by omega, s5, frzO]
        have f6 : σ5 (nx + 1) = .box x.cs := by simp [hσ5, show ¬ nx + 1 = r by omega, s6, frzO, frz1, frz1.frzL, Inst.cs]
        have f7 : σ5 (nx + 2) = .box n.cs := by simp [hσ5, show ¬ nx + 2 = r by omega, s7, frzO, frz1, frz1.frzL, Node.cs]
        have f8 : σ5 (nx + 3) = L := by simp [hσ5, show ¬ nx + 3 = r by omega, s8, hL, frzO]
        have d0 : ¬ 0 = nx4 := by omega
        have d1 : ¬ 1 = nx4 := by omega
        have d2 : ¬ 2 = nx4 := by omega
        have d3 : ¬ 3 = nx4 := by omega
        have d4 : ¬ 4 = nx4 := by omega
        have d5 : ¬ a' = nx4 := by omega
        have d6 : ¬ nx + 1 = nx4 := by omega
        have d7 : ¬ nx + 2 = nx4 := by omega
        have d8 : ¬ nx + 3 = nx4 := by omega
        have hB0 := hB
        by_cases hlt : x.of c < up
        · refine ⟨oput (oput (oput (oput (oput σ5 nx4 (.box c.cs)) a' .dead) (nx4 + 1) (.arr 10 (nodesT (all ++ F) ++ [c.t]))) 3 (.box [.ref (nx4 + 1)])) (nx + 3) L, nx4 + 2, ?y, ?j⟩
          case y =>
            refine yield_of (s8.trans hL) rfl (by rw [hB]; rfl) fun B' hB' hnx' hσ' => ?_
            have hL' := hL
            rw [hB] at hL'
            have hB := hB'.trans hB
            refine K_less ((Imp.freeze (q := r) (sz := 1) (es := ints c.path) hr3).trans (Imp.slots (l := [(3, .ptr 0 0), (5, .ptr 1 0), (9, .ptr 3 0), (52, c.a)]) (by simp [go_sem, roundM, putL, frz1, frz1.frzL, hB0, Node.ra, Node.a, Node.cs]) hσ5 rfl)) ?_
            refine K_run hB 100 ?_
            simp [go_sem, f8, d8, hL, Node.a, Node.cs]
            refine K_run hB 100 ?_
            simp [go_sem]
            refine K_drawn [] rfl (by rw [hB]; kernel_rfl) ?_
            refine K_run hB 100 ?_
            simp [go_sem, f0, d0, d8, show ¬ nx4 = nx + 3 by omega, Inst.cs]
            refine K_dCallP rfl rfl rfl (args := [x.a, c.a]) (f := 48) (by simp [go_sem, Inst.a, Node.a, Node.cs]) (hof) ?_
            refine K_run hB 100 ?_
            simp [go_sem, f1, f3, f5, d1, d3, d5, d8, hlt, hlen, Node.cs, show ¬ nx4 = nx + 3 by omega, show ¬ a' = nx + 3 by omega, show ¬ nx = 0 by omega, show ¬ nx + 3 = a' by omega, show ¬ nx + 3 = nx4 by omega, show ¬ nx + 3 = nx4 + 1 by omega, show ¬ nx4 = 2 by omega, show ¬ 3 = a' by omega, show ¬ nx4 = nx + 2 by omega, f8]
            funext i
            have w1 : ¬ nx = 0 := by omega
            have w2 : ¬ a' = nx + 3 := by omega
            have w3 : ¬ nx4 = nx + 3 := by omega
            have w4 : ¬ nx4 + 1 = nx + 3 := by omega
            have w6 : ¬ nx4 = nx + 2 := by omega
            have w7 : ¬ a' = 3 := by omega
            have w8 : ¬ a' = nx4 + 1 := by omega
            by_cases e1 : i = nx + 3
            · simp [oput, e1, hL, hB, hB0]
            by_cases e2 : i = 3
            · simp [oput, e2, w1]
            by_cases e3 : i = nx4 + 1
            · simp [oput, e3, w4, w6, Node.t, nodesT]
            by_cases e4 : i = a'
            · simp [oput, e4, w2, w7, w8]
            by_cases e5 : i = nx4
            · simp [oput, e1, e2, e3, e4, e5, w3, Node.cs]
            simp [oput, e1, e2, e3, e4, e5]
          case j =>
            rw [if_pos hlt] at htk
            have v0 : ∀ j, j ≤ 4 → j ≠ 3 → ¬ j = a' ∧ ¬ j = nx4 + 1 := by intros; omega
            have w0 : ¬ nx4 = 0 := by omega
            have w1 : ¬ nx4 = 1 := by omega
            have w2 : ¬ nx = 2 := by omega
            have w3 : ¬ nx = 1 := by omega
            have w4 : ¬ nx = nx4 := by omega
            have w5 : ¬ nx = 0 := by omega
            have w6 : ¬ nx4 = nx + 2 := by omega
            have w7 : ¬ nx4 = nx + 3 := by omega
            have w8 : ¬ nx4 = 2 := by omega
            have w9 : ¬ nx4 = 3 := by omega
            have wa := v0 0 (by omega) (by omega)
            have wb := v0 1 (by omega) (by omega)
            have wc := v0 2 (by omega) (by omega)
            have wd := v0 4 (by omega) (by omega)
            have we : ¬ nx + 1 = a' := by omega
            have wf : ¬ nx + 2 = a' := by omega
            refine ⟨?_, ?_, ?_, ?_, ?_, ?_, ?_, by omega, ⟨nx4 + 1, ?_, ?_, by omega, by omega, by omega, by omega, by omega⟩⟩
            · simp [oput, d0, f0, w0, Inst.cs, wa.1, wa.2, w0, show ¬ 0 = nx4 + 1 by omega]
            · simp [oput, d1, f1, wb.1, wb.2, w1, w0]
            · simp [oput, d2, f2, wc.1, wc.2, w8, Node.cs]
            · simp [oput, f4, wd.1, wd.2, show ¬ 4 = nx4 by omega, show ¬ 4 = nx4 + 1 by omega, show ¬ 4 = nx + 3 by omega, Node.cs]
            · simp [oput, d6, f6, we, w2, w4, show ¬ nx + 1 = nx4 by omega, Inst.cs]
            · simp [oput, d7, f7, wf, show ¬ nx + 1 = nx4 by omega, show ¬ nx + 2 = 3 by omega, show ¬ nx + 2 = nx4 + 1 by omega, Node.cs]
            · simp [oput]
            · simp [oput, w5]
            · rw [htk]
              simp [oput, w6, w8, nodesT]
        · refine ⟨oput (oput σ5 nx4 (.box c.cs)) (nx + 3) L, nx4 + 1, ?y, ?j⟩
          case y =>
            refine yield_of (s8.trans hL) rfl (by rw [hB]; rfl) fun B' hB' hnx' hσ' => ?_
            have hL' := hL
            rw [hB] at hL'
            have hB := hB'.trans hB
            refine K_less ((Imp.freeze (q := r) (sz := 1) (es := ints c.path) hr3).trans (Imp.slots (l := [(3, .ptr 0 0), (5, .ptr 1 0), (9, .ptr 3 0), (52, c.a)]) (by simp [go_sem, roundM, putL, frz1, frz1.frzL, hB0, Node.ra, Node.a, Node.cs]) hσ5 rfl)) ?_
            refine K_run hB 100 ?_
            simp [go_sem, f8, d8, hL, Node.a, Node.cs]
            refine K_run hB 100 ?_
            simp [go_sem]
            refine K_drawn [] rfl (by rw [hB]; kernel_rfl) ?_
            refine K_run hB 100 ?_
            simp [go_sem, f0, d0, d8, show ¬ nx4 = nx + 3 by omega, Inst.cs]
            refine K_dCallP rfl rfl rfl (args := [x.a, c.a]) (f := 48) (by simp [go_sem, Inst.a, Node.a, Node.cs]) (hof) ?_
            refine K_run hB 100 ?_
            simp [go_sem, f1, f3, f5, d1, d3, d5, d8, hlt, hlen, Node.cs, show ¬ nx4 = nx + 3 by omega, show ¬ a' = nx + 3 by omega, show ¬ nx = 0 by omega, show ¬ nx + 3 = a' by omega, show ¬ nx + 3 = nx4 by omega, show ¬ nx + 3 = nx4 + 1 by omega, show ¬ nx4 = 2 by omega, show ¬ 3 = a' by omega, show ¬ nx4 = nx + 2 by omega, f8]
            funext i
            have w3 : ¬ nx4 = nx + 3 := by omega
            by_cases e1 : i = nx + 3
            · simp [oput, e1, hL, hB, hB0]
            by_cases e5 : i = nx4
            · simp [oput, e5, w3, Node.cs]
            simp [oput, e1, e5]
          case j =>
            rw [if_neg hlt, List.append_nil] at htk
            have v0 : ∀ j, j ≤ 4 → ¬ j = nx4 ∧ ¬ j = nx + 3 := by intros; omega
            have w0 := v0 0 (by omega)
            have w1 := v0 1 (by omega)
            have w2 := v0 2 (by omega)
            have w3 := v0 3 (by omega)
            have w4 := v0 4 (by omega)
            have we : ¬ nx + 1 = nx4 := by omega
            have wf : ¬ nx + 2 = nx4 := by omega
            have wg : ¬ nx = 0 := by omega
            have wh : ¬ a' = nx4 := by omega
            have wi : ¬ a' = nx + 3 := by omega
            refine ⟨?_, ?_, ?_, ?_, ?_, ?_, ?_, by omega, ⟨a', ?_, ?_, by omega, by omega, by omega, by omega, by omega⟩⟩
            · simp [oput, f0, w0, Inst.cs]
            · simp [oput, f1, w1, w1.2]
            · simp [oput, f2, w2, Node.cs]
            · simp [oput, f4, w4, Node.cs]
            · simp [oput, f6, we, Inst.cs]
            · simp [oput, f7, wf, Node.cs]
            · simp [oput]
            · simp [oput, f3, w3, wg]
            · rw [htk]
              simp [oput, f5, wh, wi]
    · rintro r σ3 nx3 hJ
      refine ⟨hJ.q, ?_⟩
      have hle := hJ.le
      obtain ⟨a', r1, r2, r3, r4, r5, r6, r7⟩ := hJ.row
      rw [List.take_length] at r2
      have hkl : (((x.moves n.s).map (x.child n)).filter fun c => decide (x.of c < up)) = x.kids up n := rfl
      rw [hkl] at r2
      have hkl2 := kids_33 x up n
      refine K_run hB 100 ?_
      simp [go_sem, hkk]
      refine Next.mk (k + 1, all ++ x.kids up n, b', a', oput σ3 (nx + 3) .dead, nx3) ?_ (Imp.slots (by simp [go_sem]) rfl rfl) (by simp only; omega)
      have v0 : ∀ j, j ≤ 4 → ¬ j = nx + 3 := by intros; omega
      have w0 := v0 0 (by omega)
      have w1 := v0 1 (by omega)
      have w2 := v0 2 (by omega)
      have w3 : ¬ nx = 0 := by omega
      have w4 := v0 4 (by omega)
      have w5 : ¬ a' = nx + 3 := by omega
      refine ⟨by simp only; omega, ⟨by rw [List.append_assoc]; exact g2, by simp only [List.length_append]; omega⟩, g3, ?_, ?_, ?_, ?_, ?_, ?_, by simp only; omega, by simp only; omega⟩
      · simp [oput, w0, hJ.o0]
      · simp [oput, w1, hJ.o1]
      · simp [oput, w2, hJ.o2, Node.cs]
      · simp [oput, w3, r1]
      · simp [oput, w4, hJ.o4, Node.cs]
      · simp [oput, w5, r2]
  · have : k = l.length := by omega
    subst this
    rw [List.drop_length, List.flatMap_nil, List.append_nil] at g2
    rw [List.drop_length, List.foldl_nil] at g3
    subst g3
    rw [← g2] at hR
    have hfa : ∀ n ∈ all, n.Fine := by
      intro c hc
      rw [g2] at hc
      obtain ⟨n, hn3, hc⟩ := List.mem_flatMap.1 hc
      obtain ⟨hc, -⟩ := List.mem_filter.1 hc
      obtain ⟨j, hj, rfl⟩ := List.mem_map.1 hc
      refine ⟨move_ok x _ (hn n hn3).ok, ?_⟩
      have := hn2 n hn3
      show (n.path ++ [j]).length < 2 ^ 31
      rw [List.length_append]
      simp only [List.length_cons, List.length_nil]
      omega
    have hon := once_pure all (by omega) hfa
    rw [hR] at hon
    refine K_run hB 60 ?_
    simp [go_sem]
    obtain ⟨σ5, hσ5⟩ : ∃ σ5 : Nat → AObj, σ5 = fun j => if j = a then AObj.dead else frzO a (nodesT all) (σ j) := ⟨_, rfl⟩
    have f0 : σ5 0 = .box x.cs := by simp [hσ5, show ¬ 0 = a by omega, h0, frzO, frz1, frz1.frzL, Inst.cs]
    have f2 : σ5 2 = .box Node.zero.cs := by simp [hσ5, show ¬ 2 = a by omega, h2, frzO, frz1, frz1.frzL, Node.cs]
    have f3 : σ5 3 = .box [.t (.sl (nodesT all))] := by simp [hσ5, show ¬ 3 = a by omega, h3, frzO, frz1, frz1.frzL]
    have f4 : σ5 4 = .box b.1.cs := by simp [hσ5, show ¬ 4 = a by omega, h4, frzO, frz1, frz1.frzL, Node.cs]
    refine K_less ((Imp.freeze (q := a) (sz := 10) (es := nodesT all) h5).trans (Imp.slots (l := [(7, .ptr 2 0), (9, .ptr 3 0), (10, .ptr 4 0), (11, .b b.2)]) (by simp [go_sem, frz1, frz1.frzL]) hσ5 rfl)) ?_
    refine K_drawnF [5] [3] rfl (by rw [hB]; kernel_rfl) (by kernel_rfl) fun ht hf' => ?_
    refine K_run hB 100 ?_
    simp [go_sem, ht, hf', f3]
    refine K_dCallP rfl rfl rfl (args := [.t (.sl (nodesT all))]) (f := 57) (by simp [go_sem]) (hon) ?_
    refine K_run hB 100 ?_
    simp [go_sem, ht, hf', f4, f2, Node.cs]
    rfl
end Go.Proofs.Ytdjbapglfdacmaa

/- The law of a level's next one. -/
set_option maxRecDepth 4000
namespace Go.Proofs.Ytdjbapglfdacmaa
open Go Go.Proofs.Ytdjbapglfdacmaa.R
theorem once1_mem {out : List Node} {n m : Node} (h : m ∈ once1 out n) : m ∈ out ∨ m = n := by
  unfold once1 at h
  split at h
  · rcases List.mem_append.1 h with h | h
    · exact .inl h
    · exact .inr (List.mem_singleton.1 h)
  · split at h
    · exact List.mem_or_eq_of_mem_set h
    · exact .inl h
theorem fold_mem : ∀ (l out : List Node) {m : Node}, m ∈ l.foldl once1 out → m ∈ out ∨ m ∈ l
  | [], out, m, h => .inl h
  | n :: l, out, m, h => by
    rcases fold_mem l (once1 out n) h with h | h
    · rcases once1_mem h with h | rfl
      · exact .inl h
      · exact .inr List.mem_cons_self
    · exact .inr (List.mem_cons_of_mem _ h)
theorem onceL_mem {l : List Node} {m : Node} (h : m ∈ onceL l) : m ∈ l := (fold_mem l [] h).resolve_left (by simp)
theorem fold_len : ∀ (l out : List Node), (l.foldl once1 out).length ≤ out.length + l.length
  | [], out => Nat.le_refl _
  | n :: l, out => by
    have h1 := fold_len l (once1 out n)
    have h2 := once1_len out n
    simp only [List.foldl_cons, List.length_cons]
    omega
theorem onceL_len (l : List Node) : (onceL l).length ≤ l.length := by
  have := fold_len l []
  simpa [onceL] using this
theorem flat_len {α β : Type} (f : α → List β) (k : Nat) (h : ∀ a, (f a).length ≤ k) : ∀ l : List α, (l.flatMap f).length ≤ k * l.length
  | [] => by simp
  | a :: l => by
    have h1 := h a
    have h2 := flat_len f k h l
    rw [List.flatMap_cons, List.length_append, List.length_cons, Nat.mul_add]
    omega
theorem next_len (x : Inst) (l : List Node) (up : Int) : (x.next l up).length ≤ 33 * l.length :=
  Nat.le_trans (onceL_len _) (flat_len _ 33 (kids_33 x up) l)
theorem next_mem {x : Inst} {l : List Node} {up : Int} {m : Node} (h : m ∈ x.next l up) : ∃ n ∈ l, ∃ j ∈ x.moves n.s, m = x.child n j ∧ x.of m < up := by
  obtain ⟨n, hn, hc⟩ := List.mem_flatMap.1 (onceL_mem h)
  obtain ⟨hc, hu⟩ := List.mem_filter.1 hc
  obtain ⟨j, hj, rfl⟩ := List.mem_map.1 hc
  exact ⟨n, hn, j, hj, rfl, by simpa using hu⟩
end Go.Proofs.Ytdjbapglfdacmaa

/- Once of each state: the plain laws. -/
set_option maxRecDepth 4000
namespace Go.Proofs.Ytdjbapglfdacmaa
open Go Go.Proofs.Ytdjbapglfdacmaa.R
theorem once1_self (out : List Node) (n : Node) : ∃ m ∈ once1 out n, m.s = n.s ∧ m.cost ≤ n.cost := by
  unfold once1
  split
  · exact ⟨n, by simp, rfl, Int.le_refl _⟩
  · rename_i i e
    obtain ⟨h1, h2⟩ := sIdx_some e
    have hgd : out.getD i n = out[i] := by rw [List.getD_eq_getElem?_getD, List.getElem?_eq_getElem h1]; rfl
    rw [hgd]
    split
    · exact ⟨n, List.mem_set h1 n, rfl, Int.le_refl _⟩
    · exact ⟨out[i], List.getElem_mem h1, h2, by omega⟩
theorem once1_has (out : List Node) (n k : Node) (h : ∃ m ∈ out, m.s = k.s ∧ m.cost ≤ k.cost) : ∃ m ∈ once1 out n, m.s = k.s ∧ m.cost ≤ k.cost := by
  obtain ⟨m, hm, h1, h2⟩ := h
  unfold once1
  split
  · exact ⟨m, List.mem_append_left _ hm, h1, h2⟩
  · rename_i i e
    obtain ⟨h3, h4⟩ := sIdx_some e
    have hgd : out.getD i n = out[i] := by rw [List.getD_eq_getElem?_getD, List.getElem?_eq_getElem h3]; rfl
    rw [hgd]
    split
    · rename_i hc
      obtain ⟨j, hj, rfl⟩ := List.mem_iff_getElem.1 hm
      by_cases e2 : i = j
      · subst e2
        exact ⟨n, List.mem_set h3 n, by rw [← h4, h1], by omega⟩
      · refine ⟨out[j], ?_, h1, h2⟩
        rw [List.mem_iff_getElem]
        exact ⟨j, by simpa using hj, by rw [List.getElem_set_ne e2]⟩
    · exact ⟨m, hm, h1, h2⟩
theorem fold_has : ∀ (l out : List Node) (k : Node), (k ∈ l ∨ ∃ m ∈ out, m.s = k.s ∧ m.cost ≤ k.cost) → ∃ m ∈ l.foldl once1 out, m.s = k.s ∧ m.cost ≤ k.cost
  | [], out, k, h => h.resolve_left (by simp)
  | n :: l, out, k, h => by
    refine fold_has l (once1 out n) k ?_
    rcases h with h | h
    · rcases List.mem_cons.1 h with rfl | h
      · exact .inr (once1_self out k)
      · exact .inl h
    · exact .inr (once1_has out n k h)
theorem onceL_has {l : List Node} {k : Node} (h : k ∈ l) : ∃ m ∈ onceL l, m.s = k.s ∧ m.cost ≤ k.cost := fold_has l [] k (.inl h)
end Go.Proofs.Ytdjbapglfdacmaa

/- Nodes that no other one leaves without use: the plain laws. -/
set_option maxRecDepth 4000
namespace Go.Proofs.Ytdjbapglfdacmaa
open Go Go.Proofs.Ytdjbapglfdacmaa.R
theorem within_refl (s : Nat) : withinB s s = true := by
  rw [withinB, List.all_eq_true]
  intro i _
  cases s.testBit i <;> rfl
theorem within_trans {s t u : Nat} (h1 : withinB s t = true) (h2 : withinB t u = true) : withinB s u = true := by
  rw [withinB, List.all_eq_true] at *
  intro i hi
  have a := h1 i hi
  have b := h2 i hi
  revert a b
  cases s.testBit i <;> cases t.testBit i <;> cases u.testBit i <;> simp
def Node.than (a b : Node) : Bool := decide (a.cost ≤ b.cost) && (decide (a.s.must = b.s.must) && decide (a.s.can = b.s.can) && decide (a.s.on = b.s.on)) && coversB a.s b.s
theorem covers_refl (s : State) : coversB s s = true := by
  simp [coversB, within_refl]
theorem covers_trans {a b c : State} (h1 : coversB a b = true) (h2 : coversB b c = true) : coversB a c = true := by
  simp only [coversB, Bool.and_eq_true, decide_eq_true_eq] at *
  obtain ⟨⟨⟨⟨⟨⟨⟨a1, a2⟩, a3⟩, a4⟩, a5⟩, a6⟩, a7⟩, a8⟩ := h1
  obtain ⟨⟨⟨⟨⟨⟨⟨b1, b2⟩, b3⟩, b4⟩, b5⟩, b6⟩, b7⟩, b8⟩ := h2
  exact ⟨⟨⟨⟨⟨⟨⟨a1.trans b1, within_trans a2 b2⟩, within_trans a3 b3⟩, within_trans b4 a4⟩, by omega⟩, by omega⟩, by omega⟩, by omega⟩
theorem than_refl (a : Node) : a.than a = true := by simp [Node.than, covers_refl]
theorem than_trans {a b c : Node} (h1 : a.than b = true) (h2 : b.than c = true) : a.than c = true := by
  simp only [Node.than, Bool.and_eq_true, decide_eq_true_eq] at *
  obtain ⟨⟨a1, ⟨a2, a3⟩, a4⟩, a5⟩ := h1
  obtain ⟨⟨b1, ⟨b2, b3⟩, b4⟩, b5⟩ := h2
  exact ⟨⟨by omega, ⟨by omega, by omega⟩, by omega⟩, covers_trans a5 b5⟩
def front1 (out : List Node) (b : Node) : List Node := if out.any (fun a => a.than b) = true then out else (out.filter fun a => !b.than a) ++ [b]
def frontL (l : List Node) : List Node := l.foldl front1 []
def blk (pre : List Node) (b : Node) (post : List Node) : Bool := pre.any (fun a => a.than b) || post.any fun c => c.than b && !b.than c
def frR (pre : List Node) : List Node → List Node → List Node
  | [], _ => []
  | b :: l, post => (if blk pre b (l ++ post) = true then [] else [b]) ++ frR (pre ++ [b]) l post
theorem frR_post (c : Node) : ∀ (l pre : List Node), frR pre l [c] = (frR pre l []).filter fun b => !(c.than b && !b.than c)
  | [], pre => rfl
  | b :: l, pre => by
    rw [frR, frR, List.filter_append, frR_post c l]
    congr 1
    have : blk pre b (l ++ [c]) = (blk pre b (l ++ []) || (c.than b && !b.than c)) := by
      simp [blk, Bool.or_assoc]
    rw [this]
    generalize hq : (c.than b && !b.than c) = q
    cases blk pre b (l ++ []) <;> cases q <;> simp only [Bool.or_true, Bool.or_false, Bool.false_eq_true, if_true, if_false, List.filter_cons, List.filter_nil, hq, Bool.not_true, Bool.not_false]
theorem frR_app (c : Node) : ∀ (l pre : List Node), frR pre (l ++ [c]) [] = frR pre l [c] ++ (if (pre ++ l).any (fun a => a.than c) = true then [] else [c])
  | [], pre => by simp [frR, blk]
  | b :: l, pre => by
    rw [List.cons_append, frR, frR, frR_app c l, List.append_nil, List.append_assoc, List.append_assoc]
    simp
structure FrInv (pre F : List Node) : Prop where
  up : ∀ a ∈ pre, ∃ f ∈ F, f.than a = true
  sub : ∀ f ∈ F, f ∈ pre
  one : ∀ f ∈ F, ∀ b ∈ F, f.than b = true → f = b
  eq : F = frR [] pre []
theorem FrInv.step {pre F : List Node} (h : FrInv pre F) (c : Node) : FrInv (pre ++ [c]) (front1 F c) := by
  have hany : pre.any (fun a => a.than c) = F.any fun a => a.than c := by
    rw [Bool.eq_iff_iff, List.any_eq_true, List.any_eq_true]
    constructor
    · rintro ⟨a, ha, hc⟩
      obtain ⟨f, hf, hfa⟩ := h.up a ha
      exact ⟨f, hf, than_trans hfa hc⟩
    · rintro ⟨f, hf, hc⟩
      exact ⟨f, h.sub f hf, hc⟩
  have he : frR [] (pre ++ [c]) [] = front1 F c := by
    rw [frR_app, frR_post, ← h.eq, List.nil_append, hany]
    unfold front1
    by_cases hc : F.any (fun a => a.than c) = true
    · rw [if_pos hc, if_pos hc, List.append_nil]
      rw [List.filter_eq_self]
      intro b hb
      rw [List.any_eq_true] at hc
      obtain ⟨f, hf, hfc⟩ := hc
      cases h1 : c.than b with
      | false => rfl
      | true =>
        have := h.one f hf b hb (than_trans hfc h1)
        subst this
        simp [hfc]
    · rw [if_neg hc, if_neg hc]
      congr 1
      refine List.filter_congr fun b hb => ?_
      have : b.than c = false := by
        cases h1 : b.than c with
        | false => rfl
        | true => exact absurd (List.any_eq_true.2 ⟨b, hb, h1⟩) hc
      simp [this]
  refine ⟨?_, ?_, ?_, he.symm⟩
  · intro a ha
    unfold front1
    split
    · rename_i hc
      rcases List.mem_append.1 ha with ha | ha
      · exact h.up a ha
      · rw [List.mem_singleton.1 ha]
        obtain ⟨f, hf, hfc⟩ := List.any_eq_true.1 hc
        exact ⟨f, hf, hfc⟩
    · rcases List.mem_append.1 ha with ha | ha
      · obtain ⟨f, hf, hfa⟩ := h.up a ha
        cases h1 : c.than f with
        | true => exact ⟨c, by simp, than_trans h1 hfa⟩
        | false => exact ⟨f, List.mem_append_left _ (List.mem_filter.2 ⟨hf, by simp [h1]⟩), hfa⟩
      · rw [List.mem_singleton.1 ha]
        exact ⟨c, by simp, than_refl c⟩
  · intro f hf
    unfold front1 at hf
    split at hf
    · exact List.mem_append_left _ (h.sub f hf)
    · rcases List.mem_append.1 hf with hf | hf
      · exact List.mem_append_left _ (h.sub f (List.mem_filter.1 hf).1)
      · exact List.mem_append_right _ hf
  · intro f hf b hb hfb
    unfold front1 at hf hb
    split at hf
    · rename_i hc
      rw [if_pos hc] at hb
      exact h.one f hf b hb hfb
    · rename_i hc
      rw [if_neg hc] at hb
      rcases List.mem_append.1 hf with hf | hf <;> rcases List.mem_append.1 hb with hb | hb
      · exact h.one f (List.mem_filter.1 hf).1 b (List.mem_filter.1 hb).1 hfb
      · rw [List.mem_singleton.1 hb] at hfb
        exact absurd (List.any_eq_true.2 ⟨f, (List.mem_filter.1 hf).1, hfb⟩) hc
      · rw [List.mem_singleton.1 hf] at hfb
        have := (List.mem_filter.1 hb).2
        rw [hfb] at this
        cases this
      · rw [List.mem_singleton.1 hf, List.mem_singleton.1 hb]
theorem FrInv.fold : ∀ {l pre F : List Node}, FrInv pre F → FrInv (pre ++ l) (l.foldl front1 F)
  | [], pre, F, h => by rw [List.append_nil]; exact h
  | c :: l, pre, F, h => by
    have := (h.step c).fold (l := l)
    rw [List.append_assoc] at this
    exact this
theorem front_inv (l : List Node) : FrInv l (frontL l) := by
  have : FrInv [] [] := ⟨by simp, by simp, by simp, rfl⟩
  exact this.fold (l := l)
end Go.Proofs.Ytdjbapglfdacmaa

/- Nodes in the order of what they cost at least: level.Sorted. -/
set_option maxRecDepth 4000
set_option maxHeartbeats 1000000
namespace Go.Proofs.Ytdjbapglfdacmaa
open Go Go.Proofs.Ytdjbapglfdacmaa.R
/-- Nodes in the order of what they cost at least; those that cost the same stay as they stood. -/
def Inst.sortN (x : Inst) (l : List Node) : List Node := isort x.of l
def Inst.keyT (x : Inst) (n : Node) : List T := n.t ++ [.i (x.of n)]
theorem Inst.keys_sort (x : Inst) (l : List Node) : isort κr (l.map x.keyT) = (x.sortN l).map x.keyT := by
  rw [← isort_map (κ := κr) x.keyT l]
  congr 2
theorem Inst.sortN_len (x : Inst) (l : List Node) : (x.sortN l).length = l.length := isort_len l
theorem Inst.sortN_mem {x : Inst} {l : List Node} {n : Node} : n ∈ x.sortN l ↔ n ∈ l := isort_mem
theorem sorted1_spec (x : Inst) (n : Node) (hl : x.stops.length < 2 ^ 31) (ho : n.s.ok) {σ : Nat → AObj} {nx q : Nat} (hq : q < nx) (hb : σ q = .box x.cs) : CallSpec P 47 [n.a, .ptr q 0] σ nx (.i (x.of n)) σ nx := by
  have hth := of_pure x n hl ho
  have e : σ = oput σ q (σ q) := by funext i; by_cases h : i = q <;> simp [oput, h]
  have h : CallSpec P 47 [n.a, .ptr q 0] σ nx (.i (x.of n)) (oput σ q (σ q)) nx := by
    refine spec_down Try.func47 rfl rfl (by simp [Try.f47]) hq (by rw [hb]; simp [bndO, bnd, bnd.bndL, Inst.cs]) (by simp [bnd]) fun hk B hB hnx hσ => ?_
    simp only [Try.f47] at hB ⊢
    have hne : ¬ q = nx := by omega
    refine K_run hB 100 ?_
    simp [go_sem, Node.a, Node.cs, hb, hne, Inst.cs]
    refine K_call rfl rfl rfl (args := [x.a, n.a]) (f := 48) (by simp [go_sem, Inst.a, Node.a, Node.cs]) (by simp [go_sem, hB]) ((hth).spec _ _) ?_
    refine K_run hB 100 ?_
    simp [go_sem]
    exact ⟨by simp [hne, hb, Inst.cs], fun i h1 h2 h3 => by omega⟩
  rw [← e] at h
  exact h
theorem sortedF_spec (x : Inst) (l : List Node) (hx : x.stops.length < 2 ^ 31) (hl : l.length < 2 ^ 31) (ho : ∀ n ∈ l, n.s.ok) {σ : Nat → AObj} {nx q : Nat} (hq : q < nx) (hb : σ q = .box x.cs) :
    CallSpec P 46 [.t (.sl (nodesT l)), .fn (.func 47) [] [.ptr q 0]] σ nx (.t (.sl (nodesT (x.sortN l)))) (oput σ q (.box x.cs)) nx := by
  refine spec_down Try.func46 rfl rfl (by simp [Try.f46]) hq (by simp [bndO, bnd, bnd.bndL, Inst.cs]) (by simp [bnd, bnd.bndL]) fun hk0 B hB hnx hσ => ?_
  simp only [Try.f46] at hB ⊢
  refine K_after ?_
  generalize hpost : (fun (e : Exit) (s : St) => ∃ t, Imp B s t ∧ _) = post
  have hil : (nodesT l).length = l.length := List.length_map _
  have hgt : ∀ (k : Nat) (h : k < l.length), (nodesT l)[k]'(by rw [hil]; exact h) = l[k].t := fun k h => nodesT_get l h
  generalize hX : nodesT l = X at *
  have hmost : mostLen = 4294967296 := rfl
  obtain ⟨K, hK⟩ : ∃ K, K = l.map x.keyT := ⟨_, rfl⟩
  have hKl : K.length = l.length := by rw [hK, List.length_map]
  refine K_run hB 100 ?_
  simp [go_sem, hil]
  refine K_own 5 11 (by simp [go_sem]) ?_
  refine K_loopP (α := Nat × Nat × (Nat → AObj) × Nat) (fun (k, a, σ', ny) => k ≤ l.length ∧ σ' a = .arr 11 (K.take k) ∧ nx ≤ a ∧ a < ny ∧ σ' q = .box x.cs ∧ ∀ i, i < nx → i ≠ q → σ' i = σ i)
    (fun (k, a, σ', ny) => ⟨sl [(1, .fn (.func 47) [] [.ptr q 0]), (5, .ref a), (11, .t (.sl X)), (12, .i l.length), (13, .i k)], σ', ny⟩) (fun a => l.length - a.1) (0, nx, _, nx + 1) ?_ (Imp.slots (by simp [go_sem, hil]) rfl rfl) ?_
  · exact ⟨Nat.zero_le _, by simp [oput], Nat.le_refl _, by omega, by simp [oput, show ¬ q = nx by omega, hb], fun i h1 h2 => by simp [oput, show ¬ i = nx by omega]⟩
  rintro ⟨k, a, σ', ny⟩ ⟨g1, g2, g3, g4, g5, g6⟩
  refine K_run hB 60 ?_
  simp [go_sem]
  refine fork_dec (fun hk => ?_) (fun hk => ?_)
  · have hkk : IntKind.i64.wrap ((k : Int) + 1) = ((k + 1 : Nat) : Int) := by rw [w64 ((k : Int) + 1) (by omega)]; rfl
    have hget : ∀ h : k < X.length, X[k]'h = l[k].t := fun h => hgt k hk
    have hmem := ho l[k] (List.getElem_mem _)
    have htk : K.take (k + 1) = K.take k ++ [x.keyT l[k]] := by rw [List.take_add_one, List.getElem?_eq_getElem (by omega)]; simp [hK]
    have hkl : (K.take k).length = k := by rw [List.length_take]; omega
    generalize K.take k = Kk at *
    generalize l[k] = n at *
    have ha : ¬ a = ny := by omega
    have hqn : ¬ q = ny := by omega
    have hs1 := fun σ'' (h : σ'' q = .box x.cs) => sorted1_spec x n hx hmem (σ := σ'') (nx := ny + 1) (q := q) (by omega) h
    have hcap : k + 1 ≤ mostLen := by omega
    simp [go_sem, hil, hk, hget, Node.t]
    refine K_drawnF [4, 7] [0, 1] rfl (by rw [hB]; kernel_rfl) (by kernel_rfl) fun ht hf' => ?_
    refine K_run hB 4 ?_
    simp [go_sem, ht, hf', Node.cs]
    refine K_dCall rfl rfl rfl (args := [n.a, .ptr q 0]) (f := 47) (by simp [go_sem, Node.a, Node.cs]) (hs1 _ (by simp [oput, hqn, g5])) (by decide) (okPends_does (by simp [go_sem, Node.cs])) ?_
    refine K_run hB 100 ?_
    simp [go_sem, ht, hf', g2, ha, hkl, hcap, hkk, show ¬ ny = a by omega]
    refine Next.mk (k + 1, ny + 1, _, ny + 2) ?_ (Imp.slots (by simp [go_sem]) rfl rfl) (by simp only; omega)
    exact ⟨by simp only; omega, by simp [oput, htk, Inst.keyT, Node.t], by simp only; omega, by simp only; omega, by simp [oput, hqn, g5, show ¬ q = a by omega, show ¬ q = ny + 1 by omega], fun i h1 h2 => by simp [oput, show ¬ i = ny by omega, show ¬ i = a by omega, show ¬ i = ny + 1 by omega, g6 i h1 h2]⟩
  · have : k = l.length := by omega
    subst this
    rw [← hKl, List.take_length, hK] at g2
    have hS := sortStable_spec (l.map x.keyT) (fun e he => by
      obtain ⟨n, _, rfl⟩ := List.mem_map.1 he
      exact ⟨n, x.of n, rfl⟩) (by rw [List.length_map]; exact hl) (nx := ny) g4 g2
    rw [x.keys_sort] at hS
    have hL := x.sortN_len l
    generalize x.sortN l = S at *
    have hkl : (S.map x.keyT).length = l.length := by rw [List.length_map, hL]
    have hkg : ∀ (k : Nat) (h : k < l.length), (S.map x.keyT)[k]'(by rw [hkl]; exact h) = (S[k]'(by rw [hL]; exact h)).t ++ [.i (x.of (S[k]'(by rw [hL]; exact h)))] := fun k h => by rw [List.getElem_map]; rfl
    simp [go_sem]
    refine K_run hB 100 ?_
    simp [go_sem]
    refine K_call rfl rfl rfl (args := [.ref a, cmpF]) (f := 66) (by simp [go_sem]) (by simp [go_sem, hB]) hS ?_
    refine K_run hB 100 ?_
    simp [go_sem, hkl]
    refine K_own 8 10 (by simp [go_sem]) ?_
    have hqa : ¬ q = a := by omega
    have hany : ¬ a = ny := by omega
    refine K_loopP (α := Nat × Nat × (Nat → AObj) × Nat) (fun (k, c, τ, nz) => k ≤ l.length ∧ τ c = .arr 10 (nodesT (S.take k)) ∧ τ a = .arr 11 (S.map x.keyT) ∧ nx ≤ c ∧ c < nz ∧ a < nz ∧ c ≠ a ∧ τ q = .box x.cs ∧ ∀ i, i < nx → i ≠ q → τ i = σ i)
      (fun (k, c, τ, nz) => ⟨sl [(8, .ref c), (28, .ref a), (29, .i l.length), (30, .i k)], τ, nz⟩) (fun a => l.length - a.1) (0, ny, _, ny + 1) ?_ (Imp.slots (by simp [go_sem, hkl]) rfl rfl) ?_
    · exact ⟨Nat.zero_le _, by simp [oput, nodesT], by simp [oput, hany], by omega, by omega, by omega, by omega, by simp [oput, show ¬ q = ny by omega, hqa, g5], fun i h1 h2 => by simp [oput, show ¬ i = ny by omega, show ¬ i = a by omega, g6 i h1 h2]⟩
    clear hS g1 g2 g5 g6
    rintro ⟨k, c, τ, nz⟩ ⟨g1, g2, g7, g8, g9, ga, gb, g5, g6⟩
    refine K_run hB 60 ?_
    simp [go_sem]
    refine fork_dec (fun hk => ?_) (fun hk => ?_)
    · have hkk : IntKind.i64.wrap ((k : Int) + 1) = ((k + 1 : Nat) : Int) := by rw [w64 ((k : Int) + 1) (by omega)]; rfl
      have hkS : k < S.length := by omega
      have htk : S.take (k + 1) = S.take k ++ [S[k]] := by rw [List.take_add_one, List.getElem?_eq_getElem hkS]; rfl
      have hget : ∀ h : k < (S.map x.keyT).length, (S.map x.keyT)[k]'h = S[k].t ++ [.i (x.of S[k])] := fun h => hkg k hk
      have htl : (nodesT (S.take k)).length = k := by rw [nodesT, List.length_map, List.length_take]; omega
      have hcap : k + 1 ≤ mostLen := by omega
      have q1 : k * 11 / 11 = k := by omega
      have q4 : k * 11 % 11 = 0 := by omega
      have hc : ¬ c = nz := by omega
      generalize S[k] = n at *
      simp [go_sem, g7, hkl, hk, hget, q1, q4, Node.t, g2, hc, htl, hcap, hkk]
      refine Next.mk (k + 1, nz + 1, _, nz + 2) ?_ (Imp.slots (by simp [go_sem]) rfl rfl) (by simp only; omega)
      exact ⟨by simp only; omega, by simp [oput, htk, nodesT, Node.t], by simp [oput, g7, show ¬ a = nz by omega, show ¬ a = c by omega, show ¬ a = nz + 1 by omega], by simp only; omega, by simp only; omega, by simp only; omega, by simp only; omega, by simp [oput, g5, show ¬ q = nz by omega, show ¬ q = c by omega, show ¬ q = nz + 1 by omega], fun i h1 h2 => by simp [oput, show ¬ i = nz by omega, show ¬ i = c by omega, show ¬ i = nz + 1 by omega, g6 i h1 h2]⟩
    · have : k = l.length := by omega
      subst this
      rw [← hL, List.take_length] at g2
      simp [go_sem]
      rw [← hpost]
      refine ⟨_, Imp.freeze (q := c) (sz := 10) (es := nodesT S) (by simp [go_sem, g2]), .inl rfl, ?_⟩
      simp [go_sem, frz1, frzO, show ¬ q = c by omega, g5]
      refine ⟨by omega, by simp [frz1.frzL, frz1, Inst.cs], fun y hy hyq => ?_⟩
      rw [if_neg (by omega), g6 y hy hyq]
      rcases hk0 y with e | ⟨e, _⟩
      · rw [e]
      · exact frzO_id (q := c) (es := nodesT S) (by omega) (σ y) e
theorem sorted_pure (x : Inst) (l : List Node) (hx : x.stops.length < 2 ^ 31) (hl : l.length < 2 ^ 31) (hn : ∀ n ∈ l, n.Fine) : Pure P 24 [x.a, .t (.sl (nodesT l))] (.t (.sl (nodesT (x.sortN l)))) := by
  refine pure_of Try.func24 rfl rfl (by simp [Try.f24]) (by simp [bnd, bnd.bndL, Inst.a]) (by simp [bnd, bnd.bndL]) fun B hB hnx => ?_
  simp only [Try.f24] at hB ⊢
  have hil : (nodesT l).length = l.length := List.length_map _
  have hgt : ∀ (k : Nat) (h : k < l.length), (nodesT l)[k]'(by rw [hil]; exact h) = l[k].t := fun k h => nodesT_get l h
  generalize hX : nodesT l = X at *
  have hmost : mostLen = 4294967296 := rfl
  refine K_run hB 100 ?_
  simp [go_sem, hil, Inst.a]
  refine K_own 5 10 (by simp [go_sem]) ?_
  refine K_loopP (α := Nat × Nat × (Nat → AObj) × Nat) (fun (k, a, σ', ny) => k ≤ l.length ∧ σ' a = .arr 10 (nodesT (l.take k)) ∧ 0 < a ∧ a < ny ∧ σ' 0 = .box x.cs)
    (fun (k, a, σ', ny) => ⟨sl [(2, .ptr 0 0), (5, .ref a), (8, .t (.sl X)), (9, .i l.length), (10, .i k)], σ', ny⟩) (fun a => l.length - a.1) (0, 1, _, 2) ?_ (Imp.slots (by simp [go_sem, hil]) rfl rfl) ?_
  · exact ⟨Nat.zero_le _, by simp [oput, nodesT], by omega, by omega, by simp [oput, Inst.cs]⟩
  rintro ⟨k, a, σ', ny⟩ ⟨g1, g2, g3, g4, g5⟩
  refine K_run hB 60 ?_
  simp [go_sem]
  refine fork_dec (fun hk => ?_) (fun hk => ?_)
  · have hkk : IntKind.i64.wrap ((k : Int) + 1) = ((k + 1 : Nat) : Int) := by rw [w64 ((k : Int) + 1) (by omega)]; rfl
    have hget : ∀ h : k < X.length, X[k]'h = l[k].t := fun h => hgt k hk
    have hfine := hn l[k] (List.getElem_mem _)
    have htk : l.take (k + 1) = l.take k ++ [l[k]] := by rw [List.take_add_one, List.getElem?_eq_getElem hk]; rfl
    have hkl : (nodesT (l.take k)).length = k := by rw [nodesT, List.length_map, List.length_take]; omega
    generalize l[k] = n at *
    have ha : ¬ a = ny := by omega
    have hown := own_pure n (by have := hfine.len; omega)
    have hcap : k + 1 ≤ mostLen := by omega
    simp [go_sem, hil, hk, hget, Node.t]
    refine K_call rfl rfl rfl (args := [n.a]) (f := 45) (by simp [go_sem, Node.a, Node.cs]) (by simp [go_sem, hB]) ((hown).spec _ _) ?_
    refine K_run hB 100 ?_
    simp [go_sem, Node.a, Node.cs, g2, ha, hkl, hcap, hkk]
    refine Next.mk (k + 1, ny + 1, _, ny + 2) ?_ (Imp.slots (by simp [go_sem]) rfl rfl) (by simp only; omega)
    exact ⟨by simp only; omega, by simp [oput, htk, nodesT, Node.t], by simp only; omega, by simp only; omega, by simp [oput, g5, show ¬ 0 = ny by omega, show ¬ 0 = a by omega]⟩
  · have : k = l.length := by omega
    subst this
    rw [List.take_length] at g2
    have hS : ∀ σ nx, 0 < nx → σ 0 = .box x.cs → CallSpec P 46 [.t (.sl (nodesT l)), .fn (.func 47) [] [.ptr 0 0]] σ nx (.t (.sl (nodesT (x.sortN l)))) (oput σ 0 (.box x.cs)) nx := fun σ nx h1 h2 => sortedF_spec x l hx hl (fun n h => (hn n h).ok) h1 h2
    rw [hX] at hS
    obtain ⟨σ5, hσ5⟩ : ∃ σ5 : Nat → AObj, σ5 = fun j => if j = a then AObj.dead else frzO a X (σ' j) := ⟨_, rfl⟩
    have f1 : σ5 0 = .box x.cs := by simp [hσ5, show ¬ 0 = a by omega, g5, frzO, frz1, frz1.frzL, Inst.cs]
    have hSS := hS σ5 ny (by omega) f1
    simp [go_sem]
    refine K_imp ((Imp.freeze (q := a) (sz := 10) (es := X) (by simp [g2, hX])).trans (Imp.slots (l := [(2, .ptr 0 0), (20, .t (.sl X)), (21, .fn (.func 47) [] [.ptr 0 0])]) (by simp [go_sem, frz1, frz1.frzL]) hσ5 rfl)) ?_
    refine K_run hB 100 ?_
    simp [go_sem]
    refine K_call rfl rfl rfl (args := [.t (.sl X), .fn (.func 47) [] [.ptr 0 0]]) (f := 46) (by simp [go_sem]) (by simp [go_sem, hB]) hSS ?_
    refine K_run hB 100 ?_
    simp [go_sem]
end Go.Proofs.Ytdjbapglfdacmaa

/- What a level's next one keeps: the plain laws. -/
set_option maxRecDepth 4000
namespace Go.Proofs.Ytdjbapglfdacmaa
open Go Go.Proofs.Ytdjbapglfdacmaa.R
theorem canB_of {f : Nat → Bool} : ∀ {n k : Nat}, k < n → f k = true → (k : Int) ∈ canB f n
  | n + 1, k, h, hf => by
    rw [canB, List.mem_append]
    by_cases e : k = n
    · subst e
      exact .inr (by rw [if_pos hf]; simp)
    · exact .inl (canB_of (by omega) hf)
theorem mem_moves {x : Inst} {s : State} {j : Int} (h : (x.move s j).2.2 = true) : j ∈ x.moves s := by
  have hm : x.may = true := by
    by_cases e : j = 0
    · subst e; exact (move_home h).1
    · exact (move_pos h e).1
  obtain ⟨p, hx⟩ := x.fit hm
  have h1 := hx.len
  have h2 := hx.pairs
  have hj : 0 ≤ j ∧ j < x.stops.length := by
    by_cases e : j = 0
    · omega
    · have := move_pos h e
      omega
  rw [moves_can]
  have : ((j.toNat : Nat) : Int) = j := by omega
  rw [← this]
  exact canB_of (by omega) (by rw [this]; exact h)
theorem move_seen_low {x : Inst} (hl : x.stops.length < 2 ^ 31) (m : Node) (k : Int) (h0 : 0 ≤ m.cost) (h1 : m.cost + lowP x.near m.s.can ≤ k) (hk : k ≤ 1152921504606846976) : x.of m ≤ k := by
  have hin := lowP_in (near_le x) m.s.can
  rw [Inst.of, low_eq x m.s (by omega), sumI_two h0 hin.1 (by omega)]
  exact h1
theorem bests_fold (x : Inst) (v : Int) : ∀ (l : List Node) (b : Node × Bool), ((∃ n ∈ l, (x.endS n.s).2 = true ∧ sumI [n.cost, (x.endS n.s).1] = v) ∨ (b.2 = true ∧ b.1.cost ≤ v)) → (l.foldl x.best1 b).2 = true ∧ (l.foldl x.best1 b).1.cost ≤ v
  | [], b, h => by
    rcases h with ⟨n, h, _⟩ | h
    · cases h
    · exact h
  | n :: l, b, h => by
    refine bests_fold x v l (x.best1 b n) ?_
    have key : b.2 = true ∧ b.1.cost ≤ v → (x.best1 b n).2 = true ∧ (x.best1 b n).1.cost ≤ v := by
      rintro ⟨h1, h2⟩
      unfold Inst.best1
      split
      · rename_i hc
        refine ⟨rfl, ?_⟩
        rcases hc.2 with hc | hc
        · rw [h1] at hc; cases hc
        · simp only; omega
      · exact ⟨h1, h2⟩
    rcases h with ⟨m, hm, h1, h2⟩ | h
    · rcases List.mem_cons.1 hm with rfl | hm
      · refine .inr ?_
        unfold Inst.best1
        split
        · exact ⟨rfl, by simp only; omega⟩
        · rename_i hc
          have hb : b.2 = true := by
            cases e : b.2 with
            | true => rfl
            | false => exact absurd ⟨h1, .inl e⟩ hc
          refine ⟨hb, ?_⟩
          have : ¬ sumI [m.cost, (x.endS m.s).1] < b.1.cost := fun e => hc ⟨h1, .inr e⟩
          omega
      · exact .inl ⟨m, hm, h1, h2⟩
    · exact .inr (key h)
theorem bests_has {x : Inst} {l : List Node} {n : Node} (hn : n ∈ l) (he : (x.endS n.s).2 = true) : (x.bests l).2 = true ∧ (x.bests l).1.cost ≤ sumI [n.cost, (x.endS n.s).1] := bests_fold x _ l _ (.inl ⟨n, hn, he, rfl⟩)
end Go.Proofs.Ytdjbapglfdacmaa

/- Looking at all: the plain part. -/
set_option maxRecDepth 4000
namespace Go.Proofs.Ytdjbapglfdacmaa
open Go Go.Proofs.Ytdjbapglfdacmaa.R
def Inst.base (x : Inst) (s : State) : Nat := ((List.range (2 * x.pairs.toNat + 1)).filter fun j : Nat => decide (1 ≤ j) && !hasB s.must (j : Int)).length + (x.cars - s.car).toNat
theorem base_move {x : Inst} {s : State} {j : Int} (h : (x.move s j).2.2 = true) : x.base (x.move s j).1 < x.base s := by
  by_cases e : j = 0
  · subst e
    obtain ⟨_, _, h3, h4⟩ := move_home h
    rw [h4]
    simp only [Inst.stayB, Bool.or_eq_false_iff, decide_eq_false_iff_not] at h3
    simp only [Inst.base, Inst.homeS]
    have := h3.1.1.2
    omega
  · obtain ⟨h1, h2, h3, h4, h5, _, _, h6⟩ := move_pos h e
    obtain ⟨p, hx⟩ := x.fit h1
    have := hx.few
    have := hx.pairs
    rw [h6]
    simp only [Inst.lateB, Bool.or_eq_false_iff] at h5
    simp only [Inst.base, Inst.rvisit]
    obtain ⟨k, rfl⟩ : ∃ k : Nat, j = k := ⟨j.toNat, by omega⟩
    refine Nat.add_lt_add_right (filter_lt _ (a := k) (List.mem_range.2 (by omega)) ?_ ?_ ?_) _
    · rw [h5.1]
      simp only [Bool.not_false, Bool.and_true, decide_eq_true_eq]
      omega
    · rw [has_withN (by omega)]
      simp
    · intro b
      rw [has_withN (by omega)]
      simp only [Bool.and_eq_true, Bool.not_eq_true', Bool.or_eq_false_iff]
      exact fun h => ⟨h.1, h.2.1⟩
def Inst.meas (x : Inst) (s : State) : Nat := if x.may = true ∧ s.mayB x = true then x.base s else 0
theorem move_may {x : Inst} {s : State} {j : Int} (h : (x.move s j).2.2 = true) : x.may = true ∧ s.mayB x = true := by
  by_cases e : j = 0
  · subst e
    exact ⟨(move_home h).1, (move_home h).2.1⟩
  · exact ⟨(move_pos h e).1, (move_pos h e).2.1⟩
theorem meas_move {x : Inst} {s : State} {j : Int} (h : (x.move s j).2.2 = true) : x.meas (x.move s j).1 < x.meas s := by
  have h1 := base_move h
  have h2 := move_may h
  have : x.meas (x.move s j).1 ≤ x.base (x.move s j).1 := by
    unfold Inst.meas
    split <;> omega
  have : x.meas s = x.base s := by rw [Inst.meas, if_pos h2]
  omega
theorem meas_le (x : Inst) (s : State) : x.meas s ≤ 40 := by
  unfold Inst.meas
  split
  · rename_i h
    obtain ⟨p, hx⟩ := x.fit h.1
    have h1 := hx.few
    have h2 := hx.pairs
    have h3 := hx.cars
    have h4 := h.2
    simp only [State.mayB, Bool.and_eq_true, decide_eq_true_eq] at h4
    have h5 := h4.1.1.1.1.1.2
    have h6 : ((List.range (2 * x.pairs.toNat + 1)).filter fun j : Nat => decide (1 ≤ j) && !hasB s.must (j : Int)).length ≤ 2 * x.pairs.toNat + 1 := by
      refine Nat.le_trans (List.length_filter_le _ _) ?_
      rw [List.length_range]; exact Nat.le_refl _
    unfold Inst.base
    omega
  · omega
def Inst.look (x : Inst) (st : Node × Bool × Int) (l : List Node) : Node × Bool × Int :=
  if (x.bests l).2 = true ∧ (x.bests l).1.cost < st.2.2 then ((x.bests l).1, true, (x.bests l).1.cost) else st
def Inst.exGo (x : Inst) (most : Int) : Nat → Node × Bool × Int → List Node → Int → Node × Bool × Bool × Int
  | 0, st, _, n => (st.1, st.2.1, true, n)
  | d + 1, st, l, n => if l.length = 0 then (st.1, st.2.1, true, n) else if most < l.length then (st.1, st.2.1, false, n) else
    x.exGo most d (x.look st l) (frontL (x.next l st.2.2)) (IntKind.i64.wrap (n + l.length))
def Inst.exact (x : Inst) (n : Node) (up most : Int) : Node × Bool × Bool × Int := x.exGo most (x.meas n.s + 1) (Node.zero, false, up) [n] 0
/-- What holds of a level. -/
structure Level (x : Inst) (l : List Node) (d K : Nat) : Prop where
  ok : ∀ n ∈ l, n.s.ok
  deep : ∀ n ∈ l, x.meas n.s < d
  path : ∀ n ∈ l, n.path.length + d ≤ K
theorem Level.next {x : Inst} {l : List Node} {d K : Nat} (h : Level x l (d + 1) K) (up : Int) : Level x (frontL (x.next l up)) d K := by
  have key : ∀ m ∈ frontL (x.next l up), ∃ n ∈ l, ∃ j, (x.move n.s j).2.2 = true ∧ m = x.child n j := by
    intro m hm
    obtain ⟨n, hn, j, hj, e, _⟩ := next_mem ((front_inv _).sub m hm)
    exact ⟨n, hn, j, moves_mem hj, e⟩
  refine ⟨?_, ?_, ?_⟩
  · intro m hm
    obtain ⟨n, hn, j, hj, rfl⟩ := key m hm
    exact move_ok x j (h.ok n hn)
  · intro m hm
    obtain ⟨n, hn, j, hj, rfl⟩ := key m hm
    have := meas_move hj
    have := h.deep n hn
    show x.meas (x.move n.s j).1 < d
    omega
  · intro m hm
    obtain ⟨n, hn, j, hj, rfl⟩ := key m hm
    have := h.path n hn
    show (n.path ++ [j]).length + d ≤ K
    rw [List.length_append]
    simp only [List.length_cons, List.length_nil]
    omega
end Go.Proofs.Ytdjbapglfdacmaa

/- A good plan, by looking at few: the plain function, the program's, the document's. -/
set_option maxRecDepth 4000
set_option maxHeartbeats 1000000
namespace Go.Proofs.Ytdjbapglfdacmaa
open Go Go.Proofs.Ytdjbapglfdacmaa.R
/-- The level behind one. -/
def Inst.few (x : Inst) (W : Nat) (l : List Node) (up : Int) : List Node := (x.sortN (x.next l up)).take W
theorem few_mem {x : Inst} {W : Nat} {l : List Node} {up : Int} {n : Node} (h : n ∈ x.few W l up) : n ∈ x.next l up := Inst.sortN_mem.1 (List.mem_of_mem_take h)
theorem Level.few {x : Inst} {l : List Node} {d K : Nat} (h : Level x l (d + 1) K) (W : Nat) (up : Int) : Level x (x.few W l up) d K := by
  have key : ∀ m ∈ x.few W l up, ∃ n ∈ l, ∃ j, (x.move n.s j).2.2 = true ∧ m = x.child n j := by
    intro m hm
    obtain ⟨n, hn, j, hj, e, _⟩ := next_mem (few_mem hm)
    exact ⟨n, hn, j, moves_mem hj, e⟩
  refine ⟨?_, ?_, ?_⟩
  · intro m hm
    obtain ⟨n, hn, j, hj, rfl⟩ := key m hm
    exact move_ok x j (h.ok n hn)
  · intro m hm
    obtain ⟨n, hn, j, hj, rfl⟩ := key m hm
    have := meas_move hj
    have := h.deep n hn
    show x.meas (x.move n.s j).1 < d
    omega
  · intro m hm
    obtain ⟨n, hn, j, hj, rfl⟩ := key m hm
    have := h.path n hn
    show (n.path ++ [j]).length + d ≤ K
    rw [List.length_append]
    simp only [List.length_cons, List.length_nil]
    omega
end Go.Proofs.Ytdjbapglfdacmaa

/- What can follow a state, and end; what covers a state can be followed by the same. -/
set_option maxRecDepth 4000
namespace Go.Proofs.Ytdjbapglfdacmaa
open Go Go.Proofs.Ytdjbapglfdacmaa.R
/-- Moves that can follow a state, and end, and what they cost in all. -/
def Inst.way (x : Inst) : List Int → State → Int → Prop
  | [], s, c => (x.endS s).2 = true ∧ c = (x.endS s).1
  | j :: l, s, c => (x.move s j).2.2 = true ∧ ∃ d, x.way l (x.move s j).1 d ∧ c = (x.move s j).2.1 + d
theorem way_in {x : Inst} : ∀ {l : List Int} {s : State} {c : Int}, x.way l s c → 0 ≤ c ∧ c ≤ 14143 * (l.length + 1)
  | [], s, c, h => by
    have := end_cost h.1
    have := h.2
    simp only [List.length_nil]
    omega
  | j :: l, s, c, h => by
    obtain ⟨h1, d, h2, h3⟩ := h
    have := way_in h2
    have := move_cost h1
    rw [List.length_cons]
    omega
theorem way_len {x : Inst} : ∀ {l : List Int} {s : State} {c : Int}, x.way l s c → l.length ≤ x.meas s
  | [], s, c, h => Nat.zero_le _
  | j :: l, s, c, h => by
    obtain ⟨h1, d, h2, h3⟩ := h
    have := way_len h2
    have := meas_move h1
    rw [List.length_cons]
    omega
theorem way_low {x : Inst} : ∀ {l : List Int} {s : State} {c : Int}, s.seenAt → x.way l s c → lowP x.near s.can ≤ c
  | [], s, c, _, h => by rw [h.2]; exact low_end h.1
  | j :: l, s, c, hs, h => by
    obtain ⟨h1, d, h2, h3⟩ := h
    have := way_low (seen_step h1) h2
    have := low_step hs h1
    omega
theorem way_app {x : Inst} : ∀ {l : List Int} {s t : State} {c0 c1 : Int} {m : List Int} {d : Int}, 0 ≤ c0 → c0 + 14143 * l.length < 9223372036854775808 → x.goes l s c0 = some (t, c1) → x.way m t d → x.way (l ++ m) s (c1 - c0 + d)
  | [], s, t, c0, c1, m, d, _, _, h, he => by
    rw [Inst.goes] at h
    cases h
    have : c0 - c0 + d = d := by omega
    rw [this]
    exact he
  | j :: l, s, t, c0, c1, m, d, h0, hl, h, he => by
    rw [Inst.goes] at h
    split at h
    · rename_i hm
      have hc := move_cost hm
      rw [List.length_cons] at hl
      rw [w64 _ (by omega)] at h
      exact ⟨hm, _, way_app (by omega) (by omega) h he, by omega⟩
    · cases h
/-- What no state of an instance has less of. -/
structure State.Pos (s : State) : Prop where
  car : 1 ≤ s.car
  time : 0 ≤ s.time
  load : 0 ≤ s.load
theorem within_with {a b k : Nat} (hk : k ≤ 63) (h : withinB a b = true) : withinB (withN a k) (withN b k) = true := by
  rw [withinB, List.all_eq_true] at *
  intro i hi
  have := h i hi
  rw [with_bit hk, with_bit hk]
  revert this
  cases a.testBit i <;> cases b.testBit i <;> cases decide (k = i) <;> simp
theorem within_without {a b k : Nat} (hk : k ≤ 63) (h : withinB a b = true) : withinB (withoutN a k) (withoutN b k) = true := by
  rw [withinB, List.all_eq_true] at *
  intro i hi
  have := h i hi
  have hi' := List.mem_range.1 hi
  rw [without_bit hk hi', without_bit hk hi']
  revert this
  cases a.testBit i <;> cases b.testBit i <;> cases decide (k = i) <;> simp
theorem within_zero {a : Nat} (ha : a < 2 ^ 64) (h : withinB a 0 = true) : a = 0 := by
  refine Nat.eq_of_testBit_eq fun i => ?_
  by_cases hi : i < 64
  · rw [withinB, List.all_eq_true] at h
    have := h i (List.mem_range.2 hi)
    revert this
    cases a.testBit i <;> simp
  · rw [Nat.zero_testBit]
    exact Nat.testBit_lt_two_pow (Nat.lt_of_lt_of_le ha (Nat.pow_le_pow_right (by omega) (by omega)))
theorem cov_mk {a b : State} (e1 : a.spot = b.spot) (e2 : withinB a.must b.must = true) (e3 : withinB a.on b.on = true) (e4 : withinB b.can a.can = true) (e5 : a.car ≤ b.car) (e6 : a.time ≤ b.time) (e7 : a.load ≤ b.load) (e8 : a.first ≤ b.first) : coversB a b = true := by
  simp only [coversB, Bool.and_eq_true, decide_eq_true_eq]
  exact ⟨⟨⟨⟨⟨⟨⟨e1, e2⟩, e3⟩, e4⟩, e5⟩, e6⟩, e7⟩, e8⟩
theorem cov_may {x : Inst} {a b : State} (h : coversB a b = true) (hp : a.Pos) (hb : b.mayB x = true) : a.mayB x = true := by
  simp only [coversB, Bool.and_eq_true, decide_eq_true_eq] at h
  simp only [State.mayB, Bool.and_eq_true, decide_eq_true_eq] at hb ⊢
  have := hp.car
  have := hp.time
  have := hp.load
  omega
theorem cov_home {x : Inst} {a b : State} (hcov : coversB a b = true) (hp : a.Pos) (ho : a.ok) (h : (x.move b 0).2.2 = true) :
    x.move a 0 = (x.homeS a, far (x.stop b.spot) (x.stop 0), true) ∧ coversB (x.homeS a) (x.homeS b) = true ∧ (x.homeS a).Pos := by
  have hc := hcov
  simp only [coversB, Bool.and_eq_true, decide_eq_true_eq] at hc
  obtain ⟨⟨⟨⟨⟨⟨⟨e1, e2⟩, e3⟩, e4⟩, e5⟩, e6⟩, e7⟩, e8⟩ := hc
  obtain ⟨h1, h2, h3, h4⟩ := move_home h
  obtain ⟨p, hx⟩ := x.fit h1
  have hpp := hx.pairs
  have ha := cov_may hcov hp h2
  have hs : x.stayB a = false := by
    simp only [Inst.stayB, Bool.or_eq_false_iff, decide_eq_false_iff_not] at h3 ⊢
    obtain ⟨⟨⟨⟨a1, a2⟩, a3⟩, a4⟩, a5⟩ := h3
    have hon : a.on = 0 := by
      have : b.on = 0 := by omega
      rw [this] at e3
      exact within_zero ho.on e3
    refine ⟨⟨⟨⟨by rw [e1]; exact a1, by omega⟩, by omega⟩, ?_⟩, by rw [e1]; omega⟩
    cases hq : x.allB a.must with
    | false => rfl
    | true =>
      have := within_trans hq e2
      rw [Inst.allB] at a4
      rw [a4] at this
      cases this
  have hto : x.to a 0 = (x.homeS a, true) := by rw [Inst.to, if_pos rfl, Inst.home, if_neg (by rw [hs]; simp)]
  have hmv := move_mk (j := 0) h1 ha (by omega) (by rw [hto])
  rw [hto, e1] at hmv
  have h5 := (hx.at (j := 0) (by omega) (by omega)).ready
  have h6 := hp.car
  refine ⟨hmv, cov_mk (a := x.homeS a) (b := x.homeS b) rfl e2 e3 e4 ?_ ?_ ?_ e8, ⟨?_, ?_, ?_⟩⟩ <;> simp only [Inst.homeS] <;> omega
theorem cov_pos {x : Inst} {a b : State} {j : Int} (hj : j ≠ 0) (hcov : coversB a b = true) (hp : a.Pos) (h : (x.move b j).2.2 = true) :
    x.move a j = (x.rvisit a j (x.begins a j), far (x.stop b.spot) (x.stop j), true) ∧ coversB (x.rvisit a j (x.begins a j)) (x.rvisit b j (x.begins b j)) = true ∧ (x.rvisit a j (x.begins a j)).Pos := by
  have hc := hcov
  simp only [coversB, Bool.and_eq_true, decide_eq_true_eq] at hc
  obtain ⟨⟨⟨⟨⟨⟨⟨e1, e2⟩, e3⟩, e4⟩, e5⟩, e6⟩, e7⟩, e8⟩ := hc
  obtain ⟨h1, h2, h3, h4, h5, h6, h7, h8⟩ := move_pos h hj
  obtain ⟨p, hx⟩ := x.fit h1
  have hpp := hx.pairs
  have hfew := hx.few
  have ha := cov_may hcov hp h2
  have hbe : x.begins a j ≤ x.begins b j := by
    unfold Inst.begins
    rw [e1]
    omega
  have k1 : x.lateB a j = false := by
    simp only [Inst.lateB, Bool.or_eq_false_iff, decide_eq_false_iff_not] at h5 ⊢
    refine ⟨?_, by omega⟩
    cases hq : hasB a.must j with
    | false => rfl
    | true =>
      have := within_has e2 j hq
      rw [h5.1] at this
      cases this
  have k2 : j ≤ x.pairs → x.fullB a j = false := fun hh => by
    have := h6 hh
    simp only [Inst.fullB, Bool.or_eq_false_iff, Bool.and_eq_false_iff, decide_eq_false_iff_not] at this ⊢
    refine ⟨by omega, ?_⟩
    rcases this.2 with h9 | h9
    · exact .inl (by rw [e1]; exact h9)
    · exact .inr (by omega)
  have k3 : x.pairs < j → x.emptyB a j = false := fun hh => by
    have := h7 hh
    simp only [Inst.emptyB, Bool.or_eq_false_iff, Bool.not_eq_false', decide_eq_false_iff_not] at this ⊢
    exact ⟨by rw [e1]; exact this.1, within_has e4 _ this.2⟩
  have hto := to_visit (x := x) (s := a) hj k1 k2 k3
  have hmv := move_mk (j := j) h1 ha (by omega) (by rw [hto])
  rw [hto, e1] at hmv
  have h9 := (hx.at (j := j) (by omega) (by omega)).service
  have h10 := (far_le (x.stop a.spot) (x.stop j)).1
  have h11 := hp.time
  have h12 := hp.car
  have h13 : 0 ≤ x.begins a j := by unfold Inst.begins; omega
  obtain ⟨k, hk⟩ : ∃ k : Nat, j = k := ⟨j.toNat, by omega⟩
  refine ⟨hmv, ?_, ⟨?_, ?_, ?_⟩⟩
  · generalize x.begins a j = ta at *
    generalize x.begins b j = tb at *
    generalize x.stop j = sj at *
    refine cov_mk ?_ ?_ ?_ ?_ ?_ ?_ ?_ ?_
    · simp only [Inst.rvisit]
    · simp only [Inst.rvisit]
      rw [hk]
      exact within_with (by omega) e2
    · simp only [Inst.rvisit]
      rw [hk]
      split
      · exact within_with (by omega) e3
      · obtain ⟨q, hq⟩ : ∃ q : Nat, (k : Int) - x.pairs = q := ⟨((k : Int) - x.pairs).toNat, by omega⟩
        rw [hq]
        exact within_without (by omega) e3
    · simp only [Inst.rvisit]
      rw [hk]
      exact within_with (by omega) e4
    · simp only [Inst.rvisit]
      exact e5
    · simp only [Inst.rvisit]
      omega
    · simp only [Inst.rvisit]
      omega
    · simp only [Inst.rvisit]
      rw [e1]
      split
      · exact Int.le_refl _
      · exact e8
  · simp only [Inst.rvisit]; exact h12
  · simp only [Inst.rvisit]; omega
  · simp only [Inst.rvisit]; omega
theorem cov_move {x : Inst} {a b : State} {j : Int} (hc : coversB a b = true) (hp : a.Pos) (ho : a.ok) (h : (x.move b j).2.2 = true) :
    (x.move a j).2.2 = true ∧ (x.move a j).2.1 = (x.move b j).2.1 ∧ coversB (x.move a j).1 (x.move b j).1 = true ∧ (x.move a j).1.Pos := by
  by_cases hj : j = 0
  · subst hj
    obtain ⟨g1, g2, g3⟩ := cov_home hc hp ho h
    rw [g1, (move_home h).2.2.2]
    exact ⟨rfl, rfl, g2, g3⟩
  · obtain ⟨g1, g2, g3⟩ := cov_pos hj hc hp h
    rw [g1, (move_pos h hj).2.2.2.2.2.2.2]
    exact ⟨rfl, rfl, g2, g3⟩
theorem cov_end {x : Inst} {a b : State} (h0 : x.pairs ≠ 0) (hc : coversB a b = true) (hp : a.Pos) (ho : a.ok) (h : (x.endS b).2 = true) : (x.endS a).2 = true ∧ (x.endS a).1 = (x.endS b).1 := by
  have hcov := hc
  simp only [coversB, Bool.and_eq_true, decide_eq_true_eq] at hc
  obtain ⟨⟨⟨⟨⟨⟨⟨e1, e2⟩, e3⟩, e4⟩, e5⟩, e6⟩, e7⟩, e8⟩ := hc
  obtain ⟨h1, h2 | ⟨h2, h3, h4, h5, h6, h7⟩⟩ := end_is h
  · exact absurd h2.1 h0
  · have hon : a.on = 0 := by
      rw [h4] at e3
      exact within_zero ho.on e3
    have hend : x.endS a = (far (x.stop a.spot) (x.stop 0), true) := by
      rw [Inst.endS, if_neg (by simp [h1]), if_neg (fun h => h0 h.1), if_pos]
      refine ⟨cov_may hcov hp h2, by rw [e1]; exact h3, hon, ?_, by rw [e1]; omega⟩
      exact within_trans h5 e4
    rw [hend, h7, e1]
    exact ⟨rfl, rfl⟩
theorem cov_way {x : Inst} (h0 : x.pairs ≠ 0) : ∀ {l : List Int} {a b : State} {c : Int}, coversB a b = true → a.Pos → a.ok → x.way l b c → x.way l a c
  | [], a, b, c, hc, hp, ho, h => by
    obtain ⟨h1, h2⟩ := cov_end h0 hc hp ho h.1
    exact ⟨h1, by rw [h2]; exact h.2⟩
  | j :: l, a, b, c, hc, hp, ho, h => by
    obtain ⟨h1, d, h2, h3⟩ := h
    obtain ⟨g1, g2, g3, g4⟩ := cov_move hc hp ho h1
    exact ⟨g1, d, cov_way h0 g3 g4 (move_ok x j ho) h2, by omega⟩
theorem pos_move {x : Inst} {s : State} {j : Int} (hp : s.Pos) (ho : s.ok) (h : (x.move s j).2.2 = true) : (x.move s j).1.Pos := (cov_move (covers_refl s) hp ho h).2.2.2
theorem pos_root {x : Inst} (h : x.may = true) : x.rootS.Pos := by
  obtain ⟨p, hx⟩ := x.fit h
  have := (hx.at (j := 0) (by omega) (by omega)).ready
  rw [Inst.rootS, if_pos h]
  exact ⟨Int.le_refl _, this.1, Int.le_refl _⟩
/-- Where a move can be made there are pairs. -/
theorem move_pairs {x : Inst} {s : State} {j : Int} (h : (x.move s j).2.2 = true) : x.pairs ≠ 0 := by
  by_cases hj : j = 0
  · subst hj
    obtain ⟨h1, h2, h3, h4⟩ := move_home h
    simp only [Inst.stayB, Bool.or_eq_false_iff, decide_eq_false_iff_not] at h3
    simp only [State.mayB, Bool.and_eq_true, decide_eq_true_eq] at h2
    omega
  · have := move_pos h hj
    omega
end Go.Proofs.Ytdjbapglfdacmaa

/- What looking at all finds: the plain law. -/
set_option maxRecDepth 4000
namespace Go.Proofs.Ytdjbapglfdacmaa
open Go Go.Proofs.Ytdjbapglfdacmaa.R
/-- What is known of the nodes of a level. -/
structure Lev (x : Inst) (l : List Node) (d : Nat) : Prop where
  ok : ∀ n ∈ l, n.s.ok
  deep : ∀ n ∈ l, x.meas n.s < d
  pos : ∀ n ∈ l, n.s.Pos
  seen : ∀ n ∈ l, n.s.seenAt
  cost : ∀ n ∈ l, 0 ≤ n.cost ∧ n.cost + 14143 * (d : Int) ≤ 1152921504606846976
theorem child_cost {x : Inst} {l : List Node} {d : Nat} (h : Lev x l (d + 1)) {n : Node} (hn : n ∈ l) {j : Int} (hj : (x.move n.s j).2.2 = true) : (x.child n j).cost = n.cost + (x.move n.s j).2.1 := by
  have h1 := h.cost n hn
  have h2 := move_cost hj
  show sumI [n.cost, (x.move n.s j).2.1] = _
  rw [sumI_two h1.1 h2.1 (by omega)]
theorem Lev.sub {x : Inst} {l m : List Node} {d : Nat} (h : Lev x l d) (hs : ∀ n ∈ m, n ∈ l) : Lev x m d :=
  ⟨fun n hn => h.ok n (hs n hn), fun n hn => h.deep n (hs n hn), fun n hn => h.pos n (hs n hn), fun n hn => h.seen n (hs n hn), fun n hn => h.cost n (hs n hn)⟩
theorem Lev.next {x : Inst} {l : List Node} {d : Nat} (h : Lev x l (d + 1)) (up : Int) : Lev x (x.next l up) d := by
  have key : ∀ m ∈ x.next l up, ∃ n ∈ l, ∃ j, (x.move n.s j).2.2 = true ∧ m = x.child n j := by
    intro m hm
    obtain ⟨n, hn, j, hj, e, _⟩ := next_mem hm
    exact ⟨n, hn, j, moves_mem hj, e⟩
  refine ⟨?_, ?_, ?_, ?_, ?_⟩ <;> (intro m hm; obtain ⟨n, hn, j, hj, rfl⟩ := key m hm)
  · exact move_ok x j (h.ok n hn)
  · have := meas_move hj
    have := h.deep n hn
    show x.meas (x.move n.s j).1 < d
    omega
  · exact pos_move (h.pos n hn) (h.ok n hn) hj
  · exact seen_step hj
  · rw [child_cost h hn hj]
    have := h.cost n hn
    have := move_cost hj
    omega
theorem Lev.front {x : Inst} {l : List Node} {d : Nat} (h : Lev x l (d + 1)) (up : Int) : Lev x (frontL (x.next l up)) d := (h.next up).sub fun n hn => (front_inv _).sub n hn
theorem best_fold_from (x : Inst) : ∀ (l : List Node) (b : Node × Bool), (l.foldl x.best1 b) = b ∨ ((l.foldl x.best1 b).2 = true ∧ ∃ n ∈ l, (x.endS n.s).2 = true ∧ (l.foldl x.best1 b).1.cost = sumI [n.cost, (x.endS n.s).1] ∧ (l.foldl x.best1 b).1.path = n.path)
  | [], b => .inl rfl
  | n :: l, b => by
    rw [List.foldl_cons]
    rcases best_fold_from x l (x.best1 b n) with h | ⟨h1, m, hm, h2⟩
    · rw [h]
      unfold Inst.best1
      split
      · rename_i hc
        exact .inr ⟨rfl, n, List.mem_cons_self, hc.1, rfl, rfl⟩
      · exact .inl rfl
    · exact .inr ⟨h1, m, List.mem_cons_of_mem _ hm, h2⟩
theorem bests_from {x : Inst} {l : List Node} (h : (x.bests l).2 = true) : ∃ n ∈ l, (x.endS n.s).2 = true ∧ (x.bests l).1.cost = sumI [n.cost, (x.endS n.s).1] ∧ (x.bests l).1.path = n.path := by
  rcases best_fold_from x l (Node.zero, false) with h1 | ⟨_, h2⟩
  · rw [Inst.bests, h1] at h; cases h
  · exact h2
theorem end_sum {x : Inst} {l : List Node} {d : Nat} (h : Lev x l (d + 1)) {n : Node} (hn : n ∈ l) (he : (x.endS n.s).2 = true) : sumI [n.cost, (x.endS n.s).1] = n.cost + (x.endS n.s).1 := by
  have h1 := h.cost n hn
  have h2 := end_cost he
  rw [sumI_two h1.1 h2.1 (by omega)]
/-- What a move leads to goes on, as long as it may cost less in the end. -/
theorem next_way {x : Inst} (hst : x.stops.length < 2 ^ 31) {l : List Node} {d : Nat} (h : Lev x l (d + 1)) {n : Node} (hn : n ∈ l) {j : Int} {w : List Int} {c : Int} (hj : (x.move n.s j).2.2 = true) (hw : x.way w (x.move n.s j).1 c) {up : Int} (hlt : n.cost + ((x.move n.s j).2.1 + c) < up) :
    ∃ m ∈ x.next l up, m.s = (x.move n.s j).1 ∧ m.cost ≤ n.cost + (x.move n.s j).2.1 := by
  have hc := h.cost n hn
  have hmc := move_cost hj
  have hcc := child_cost h hn hj
  have hwl := way_len hw
  have hwi := way_in hw
  have hmm := meas_move hj
  have hdp := h.deep n hn
  have hlow := way_low (seen_step hj) hw
  have hof : x.of (x.child n j) < up := by
    have := move_seen_low (x := x) hst (x.child n j) (n.cost + ((x.move n.s j).2.1 + c)) (by omega) (by rw [hcc]; show _ + lowP x.near (x.move n.s j).1.can ≤ _; omega) (by omega)
    omega
  have hmem : x.child n j ∈ l.flatMap (x.kids up) := by
    refine List.mem_flatMap.2 ⟨n, hn, ?_⟩
    rw [Inst.kids, List.mem_filter]
    exact ⟨List.mem_map.2 ⟨j, mem_moves hj, rfl⟩, by simpa using hof⟩
  obtain ⟨m, h1, h2, h3⟩ := onceL_has hmem
  exact ⟨m, h1, h2, by omega⟩
end Go.Proofs.Ytdjbapglfdacmaa

/- How many nodes a level may have, with at most three pairs: the plain law. -/
set_option maxRecDepth 4000
namespace Go.Proofs.Ytdjbapglfdacmaa
open Go Go.Proofs.Ytdjbapglfdacmaa.R
def State.yard (s : State) : Bool := decide (s.spot = 0)
end Go.Proofs.Ytdjbapglfdacmaa

/- The laws of looking at all are awake. -/
set_option maxRecDepth 4000
namespace Go.Proofs.Ytdjbapglfdacmaa
open Go Go.Proofs.Ytdjbapglfdacmaa.R
def Inst.rootN (x : Inst) : Node := ⟨x.rootS, 0, []⟩
theorem rootN_pure (x : Inst) (hl : x.stops.length < 2 ^ 63) : Pure P 15 [x.a] (x.rootN.a) := by
  refine pure_of Try.func15 rfl rfl (by simp [Try.f15]) (by simp [bnd, bnd.bndL, Inst.a]) (by simp [bnd, bnd.bndL, Node.a, Node.cs]) fun B hB hnx => ?_
  simp only [Try.f15] at hB ⊢
  have hr := root_pureS x hl
  rw [Inst.rootN]
  generalize x.rootS = r at *
  refine K_run hB 100 ?_
  simp [go_sem, Inst.a]
  refine K_call rfl rfl rfl (args := [x.a]) (f := 22) (by simp [go_sem, Inst.a]) (by simp [go_sem, hB]) ((hr).spec _ _) ?_
  refine K_run hB 100 ?_
  simp [go_sem, State.a, State.cs, Node.a, Node.cs]
  rfl
end Go.Proofs.Ytdjbapglfdacmaa

/- What looking at few finds: the plain laws. -/
set_option maxRecDepth 4000
namespace Go.Proofs.Ytdjbapglfdacmaa
open Go Go.Proofs.Ytdjbapglfdacmaa.R
theorem Lev.few {x : Inst} {l : List Node} {d : Nat} (h : Lev x l (d + 1)) (W : Nat) (up : Int) : Lev x (x.few W l up) d := (h.next up).sub fun n hn => few_mem hn
theorem meas_rootC {x : Inst} {p : Nat} (hx : x.Fit p) (hm : x.may = true) : (x.meas x.rootS : Int) ≤ 2 * x.pairs + x.cars - 1 := by
  have hp := hx.pairs
  have hc := hx.cars
  unfold Inst.meas
  split
  · rw [Inst.rootS, if_pos hm]
    have h6 : ((List.range (2 * x.pairs.toNat + 1)).filter fun j : Nat => decide (1 ≤ j) && !hasB ({ State.zero with car := 1, time := (x.stop 0).ready } : State).must (j : Int)).length < ((List.range (2 * x.pairs.toNat + 1)).filter fun _ => true).length :=
      filter_lt _ (a := 0) (List.mem_range.2 (by omega)) rfl (by simp) (fun _ _ => rfl)
    rw [List.filter_eq_self.2 (fun _ _ => rfl), List.length_range] at h6
    have : x.base ({ State.zero with car := 1, time := (x.stop 0).ready } : State) ≤ 2 * x.pairs.toNat + (x.cars - 1).toNat := Nat.add_le_add (Nat.le_of_lt_succ h6) (Nat.le_refl _)
    omega
  · omega
/-! With levels as wide as may be. -/
end Go.Proofs.Ytdjbapglfdacmaa

/- How many moves a plan may have. -/
set_option maxRecDepth 4000
namespace Go.Proofs.Ytdjbapglfdacmaa
open Go Go.Proofs.Ytdjbapglfdacmaa.R
def Inst.deep (x : Inst) : Int := if x.may then 2 * x.pairs + x.cars - 1 else 0
theorem deep_pure (x : Inst) (hl : x.stops.length < 2 ^ 63) : Pure P 16 [x.a] (.i x.deep) := by
  refine pure_of Try.func16 rfl rfl (by simp [Try.f16]) (by simp [bnd, bnd.bndL, Inst.a]) (by simp [bnd, bnd.bndL]) fun B hB hnx => ?_
  simp only [Try.f16] at hB ⊢
  refine K_run hB 100 ?_
  simp [go_sem, Inst.a]
  refine K_call rfl rfl rfl (args := [x.a]) (f := 13) (by simp [go_sem, Inst.a]) (by simp [go_sem, hB]) ((may_pure x hl).spec _ _) ?_
  cases hmay : x.may with
  | false =>
    refine K_run hB 100 ?_
    simp [go_sem]
    rw [Inst.deep, if_neg (by simp [hmay])]
  | true =>
    obtain ⟨p, hx⟩ := x.fit hmay
    have hp := hx.pairs
    have hf := hx.few
    have hc := hx.cars
    have w1 := w64 (2 * x.pairs) (by omega)
    have w2 := w64 (2 * x.pairs + x.cars) (by omega)
    have w3 := w64 (2 * x.pairs + x.cars - 1) (by omega)
    refine K_run hB 100 ?_
    simp [go_sem, w1, w2, w3]
    rw [Inst.deep, if_pos hmay]
end Go.Proofs.Ytdjbapglfdacmaa

/- Diagrams of all ways: joined states, squeezed nodes, plainly. -/
set_option maxRecDepth 4000
namespace Go.Proofs.Ytdjbapglfdacmaa
open Go Go.Proofs.Ytdjbapglfdacmaa.R
def State.join (s t : State) : State := ⟨s.spot, min s.car t.car, min s.time t.time, min s.load t.load, min s.first t.first, s.must &&& t.must, s.can ||| t.can, s.on &&& t.on⟩
def joinL : List State → State × Bool
  | [] => (State.zero, false)
  | s :: l => if l.any (fun t => decide (t.spot ≠ s.spot)) = true then (State.zero, false) else (l.foldl State.join s, true)
def costL : List Node → Int
  | [] => 0
  | n :: l => l.foldl (fun c m => min c m.cost) n.cost
/-- The node of all of some. -/
def together (l : List Node) : Node × Bool := (⟨(joinL (l.map Node.s)).1, costL l, []⟩, (joinL (l.map Node.s)).2)
def atStop (l : List Node) (i : Nat) : List Node := l.filter fun n => decide (n.s.spot = i)
def Inst.mostN (x : Inst) (w : Int) : Nat := max w.toNat x.stops.length
def oneAt (l : List Node) (i : Nat) : List Node := if (together (atStop l i)).2 = true then [(together (atStop l i)).1] else []
def Inst.squeeze (x : Inst) (l : List Node) (w : Int) : List Node :=
  if (x.sortN l).length ≤ x.mostN w then x.sortN l else
  (x.sortN l).take (x.mostN w - x.stops.length) ++ (List.range x.stops.length).flatMap (oneAt ((x.sortN l).drop (x.mostN w - x.stops.length)))
theorem within_and_l (a b : Nat) : withinB (a &&& b) a = true := by
  rw [withinB, List.all_eq_true]
  intro i _
  rw [Nat.testBit_and]
  cases a.testBit i <;> cases b.testBit i <;> rfl
theorem within_and_r (a b : Nat) : withinB (a &&& b) b = true := by rw [Nat.and_comm]; exact within_and_l b a
theorem within_or_l (a b : Nat) : withinB a (a ||| b) = true := by
  rw [withinB, List.all_eq_true]
  intro i _
  rw [Nat.testBit_or]
  cases a.testBit i <;> cases b.testBit i <;> rfl
theorem within_or_r (a b : Nat) : withinB b (a ||| b) = true := by rw [Nat.or_comm]; exact within_or_l b a
theorem join_cov1 (s t : State) : coversB (s.join t) s = true :=
  cov_mk rfl (within_and_l _ _) (within_and_l _ _) (within_or_l _ _) (Int.min_le_left _ _) (Int.min_le_left _ _) (Int.min_le_left _ _) (Int.min_le_left _ _)
theorem join_cov2 {s t : State} (h : s.spot = t.spot) : coversB (s.join t) t = true :=
  cov_mk h (within_and_r _ _) (within_and_r _ _) (within_or_r _ _) (Int.min_le_right _ _) (Int.min_le_right _ _) (Int.min_le_right _ _) (Int.min_le_right _ _)
/-- What holds of joined states as of each. -/
structure State.Is (s : State) (i : Int) : Prop where
  spot : s.spot = i
  ok : s.ok
  pos : s.Pos
  seen : s.seenAt
theorem State.Is.join {s t : State} {i : Int} (h : s.Is i) (k : t.Is i) : (s.join t).Is i := by
  refine ⟨h.spot, ⟨?_, ?_, ?_⟩, ⟨?_, ?_, ?_⟩, ?_⟩
  · exact Nat.and_lt_two_pow _ k.ok.must
  · exact Nat.or_lt_two_pow h.ok.can k.ok.can
  · exact Nat.and_lt_two_pow _ k.ok.on
  · exact Int.le_min.2 ⟨h.pos.car, k.pos.car⟩
  · exact Int.le_min.2 ⟨h.pos.time, k.pos.time⟩
  · exact Int.le_min.2 ⟨h.pos.load, k.pos.load⟩
  · rcases h.seen with e | e
    · exact .inl e
    rcases k.seen with e2 | e2
    · refine .inl ?_
      show s.spot = 0
      rw [h.spot, ← k.spot]; exact e2
    · refine .inr ?_
      show hasB (s.must &&& t.must) s.spot = true
      rw [k.spot, ← h.spot] at e2
      simp only [hasB, Bool.and_eq_true, decide_eq_true_eq, Nat.testBit_and] at *
      exact ⟨e.1, e.2, e2.2⟩
theorem fold_join : ∀ (l : List State) (s : State), (∀ t ∈ l, t.spot = s.spot) → (l.foldl State.join s).spot = s.spot ∧ coversB (l.foldl State.join s) s = true ∧ ∀ t ∈ l, coversB (l.foldl State.join s) t = true
  | [], s, _ => ⟨rfl, covers_refl _, fun t h => by cases h⟩
  | t :: l, s, h => by
    obtain ⟨h1, h2, h3⟩ := fold_join l (s.join t) fun u hu => h u (List.mem_cons_of_mem _ hu)
    rw [List.foldl_cons]
    refine ⟨h1, covers_trans h2 (join_cov1 s t), fun u hu => ?_⟩
    rcases List.mem_cons.1 hu with rfl | hu
    · exact covers_trans h2 (join_cov2 (h u List.mem_cons_self).symm)
    · exact h3 u hu
theorem fold_is {i : Int} : ∀ (l : List State) (s : State), s.Is i → (∀ t ∈ l, t.Is i) → (l.foldl State.join s).Is i
  | [], s, h, _ => h
  | t :: l, s, h, k => fold_is l (s.join t) (h.join (k t List.mem_cons_self)) fun u hu => k u (List.mem_cons_of_mem _ hu)
theorem joinL_same {l : List State} (h0 : l ≠ []) {i : Int} (h : ∀ t ∈ l, t.spot = i) : (joinL l).2 = true ∧ (joinL l).1.spot = i ∧ (∀ t ∈ l, coversB (joinL l).1 t = true) ∧ ((∀ t ∈ l, t.Is i) → (joinL l).1.Is i) := by
  cases l with
  | nil => exact absurd rfl h0
  | cons s l =>
    have hs := h s List.mem_cons_self
    have hl : ∀ t ∈ l, t.spot = s.spot := fun t ht => by rw [hs]; exact h t (List.mem_cons_of_mem _ ht)
    have e : joinL (s :: l) = (l.foldl State.join s, true) := by
      rw [joinL, if_neg]
      rw [List.any_eq_true]
      rintro ⟨t, ht, e⟩
      exact (of_decide_eq_true e) (hl t ht)
    obtain ⟨h1, h2, h3⟩ := fold_join l s hl
    rw [e]
    refine ⟨rfl, by simp only; omega, fun t ht => ?_, fun k => fold_is l s (k s List.mem_cons_self) fun t ht => k t (List.mem_cons_of_mem _ ht)⟩
    rcases List.mem_cons.1 ht with rfl | ht
    · exact h2
    · exact h3 t ht
theorem fold_cost : ∀ (l : List Node) (c : Int), l.foldl (fun c m => min c m.cost) c ≤ c ∧ (∀ n ∈ l, l.foldl (fun c m => min c m.cost) c ≤ n.cost) ∧ (l.foldl (fun c m => min c m.cost) c = c ∨ ∃ n ∈ l, l.foldl (fun c m => min c m.cost) c = n.cost)
  | [], c => ⟨Int.le_refl _, fun n h => (by cases h), .inl rfl⟩
  | m :: l, c => by
    obtain ⟨h1, h2, h3⟩ := fold_cost l (min c m.cost)
    rw [List.foldl_cons]
    refine ⟨by omega, fun n hn => ?_, ?_⟩
    · rcases List.mem_cons.1 hn with rfl | hn
      · omega
      · exact h2 n hn
    · rcases h3 with h3 | ⟨n, hn, h3⟩
      · rw [h3]
        by_cases e : c ≤ m.cost
        · exact .inl (by omega)
        · exact .inr ⟨m, List.mem_cons_self, by omega⟩
      · exact .inr ⟨n, List.mem_cons_of_mem _ hn, h3⟩
theorem costL_is {l : List Node} (h : l ≠ []) : (∀ n ∈ l, costL l ≤ n.cost) ∧ ∃ n ∈ l, costL l = n.cost := by
  cases l with
  | nil => exact absurd rfl h
  | cons m l =>
    obtain ⟨h1, h2, h3⟩ := fold_cost l m.cost
    rw [costL]
    refine ⟨fun n hn => ?_, ?_⟩
    · rcases List.mem_cons.1 hn with rfl | hn
      · exact h1
      · exact h2 n hn
    · rcases h3 with h3 | ⟨n, hn, h3⟩
      · exact ⟨m, List.mem_cons_self, h3⟩
      · exact ⟨n, List.mem_cons_of_mem _ hn, h3⟩
theorem atStop_mem {l : List Node} {i : Nat} {n : Node} : n ∈ atStop l i ↔ n ∈ l ∧ n.s.spot = i := by
  rw [atStop, List.mem_filter, decide_eq_true_eq]
theorem oneAt_mem {l : List Node} {i : Nat} {m : Node} (h : m ∈ oneAt l i) : atStop l i ≠ [] ∧ m = (together (atStop l i)).1 := by
  unfold oneAt at h
  split at h
  · rename_i hh
    refine ⟨fun e => ?_, List.mem_singleton.1 h⟩
    rw [e] at hh
    simp [together, joinL] at hh
  · cases h
theorem oneAt_has {l : List Node} {i : Nat} {n : Node} (h : n ∈ l) (hi : n.s.spot = i) : ∃ m ∈ oneAt l i, coversB m.s n.s = true ∧ m.cost ≤ n.cost := by
  have hn : n ∈ atStop l i := atStop_mem.2 ⟨h, hi⟩
  have hne : atStop l i ≠ [] := fun e => by rw [e] at hn; cases hn
  have hne2 : (atStop l i).map Node.s ≠ [] := by simpa using hne
  obtain ⟨h1, h2, h3, h4⟩ := joinL_same hne2 (i := (i : Int)) fun t ht => by
    obtain ⟨q, hq, rfl⟩ := List.mem_map.1 ht
    exact (atStop_mem.1 hq).2
  refine ⟨(together (atStop l i)).1, ?_, h3 _ (List.mem_map.2 ⟨n, hn, rfl⟩), (costL_is hne).1 n hn⟩
  rw [oneAt, if_pos (show (together (atStop l i)).2 = true from h1)]
  exact List.mem_singleton.2 rfl
theorem oneAt_len (l : List Node) (i : Nat) : (oneAt l i).length ≤ 1 := by unfold oneAt; split <;> simp
theorem squeeze_mem {x : Inst} {l : List Node} {w : Int} {m : Node} (h : m ∈ x.squeeze l w) : m ∈ l ∨ ∃ (i : Nat) (g : List Node), g ≠ [] ∧ i < x.stops.length ∧ (∀ n ∈ g, n ∈ l ∧ n.s.spot = i) ∧ m = (together g).1 := by
  unfold Inst.squeeze at h
  split at h
  · exact .inl (Inst.sortN_mem.1 h)
  · rcases List.mem_append.1 h with h | h
    · exact .inl (Inst.sortN_mem.1 (List.mem_of_mem_take h))
    · obtain ⟨i, hi, h⟩ := List.mem_flatMap.1 h
      obtain ⟨h1, h2⟩ := oneAt_mem h
      exact .inr ⟨i, _, h1, List.mem_range.1 hi, fun n hn => ⟨Inst.sortN_mem.1 (List.mem_of_mem_drop (atStop_mem.1 hn).1), (atStop_mem.1 hn).2⟩, h2⟩
theorem squeeze_cov {x : Inst} {l : List Node} (w : Int) {n : Node} (hn : n ∈ l) (h0 : 0 ≤ n.s.spot) (h1 : n.s.spot < x.stops.length) : ∃ m ∈ x.squeeze l w, coversB m.s n.s = true ∧ m.cost ≤ n.cost := by
  have hs : n ∈ x.sortN l := Inst.sortN_mem.2 hn
  unfold Inst.squeeze
  split
  · exact ⟨n, hs, covers_refl _, Int.le_refl _⟩
  · generalize x.mostN w - x.stops.length = k at *
    rw [← List.take_append_drop k (x.sortN l)] at hs
    rcases List.mem_append.1 hs with hs | hs
    · exact ⟨n, List.mem_append_left _ hs, covers_refl _, Int.le_refl _⟩
    · obtain ⟨i, hi⟩ : ∃ i : Nat, n.s.spot = i := ⟨n.s.spot.toNat, by omega⟩
      obtain ⟨m, h2, h3, h4⟩ := oneAt_has hs hi
      exact ⟨m, List.mem_append_right _ (List.mem_flatMap.2 ⟨i, List.mem_range.2 (by omega), h2⟩), h3, h4⟩
theorem flat_one {α β : Type} (f : α → List β) (h : ∀ a, (f a).length ≤ 1) : ∀ (l : List α), (l.flatMap f).length ≤ l.length
  | [] => Nat.le_refl _
  | a :: l => by
    rw [List.flatMap_cons, List.length_append, List.length_cons]
    have := h a
    have := flat_one f h l
    omega
theorem squeeze_len (x : Inst) (l : List Node) (w : Int) : (x.squeeze l w).length ≤ x.mostN w := by
  unfold Inst.squeeze
  split
  · assumption
  · have h1 := flat_one (oneAt ((x.sortN l).drop (x.mostN w - x.stops.length))) (oneAt_len _) (List.range x.stops.length)
    rw [List.length_range] at h1
    have h2 : x.stops.length ≤ x.mostN w := Nat.le_max_right _ _
    rw [List.length_append, List.length_take]
    omega
end Go.Proofs.Ytdjbapglfdacmaa

/- States thrown together: relax.Join; the node of all of some. -/
set_option maxRecDepth 4000
set_option maxHeartbeats 1000000
namespace Go.Proofs.Ytdjbapglfdacmaa
open Go Go.Proofs.Ytdjbapglfdacmaa.R
def hC (h : State × Nat × Bool) : List AV := [.i h.1.spot, .i h.1.car, .i h.1.time, .i h.1.load, .i h.1.first, .u h.1.must, .u h.1.can, .u h.1.on, .i h.2.1, .b h.2.2]
def addH (h : State × Nat × Bool) (t : State) : State × Nat × Bool := if h.2.1 = 0 then (t, 1, h.2.2) else (h.1.join t, h.2.1 + 1, h.2.2 || decide (t.spot ≠ h.1.spot))
theorem join_ok {s t : State} (h : s.ok) (k : t.ok) : (s.join t).ok := ⟨Nat.and_lt_two_pow _ k.must, Nat.or_lt_two_pow h.can k.can, Nat.and_lt_two_pow _ k.on⟩
theorem addH_ok {h : State × Nat × Bool} {t : State} (h1 : h.1.ok) (h2 : t.ok) : (addH h t).1.ok := by
  unfold addH
  split
  · exact h2
  · exact join_ok h1 h2
theorem addH_many (h : State × Nat × Bool) (t : State) : (addH h t).2.1 = h.2.1 + 1 := by unfold addH; split <;> simp_all
theorem add_spec (h : State × Nat × Bool) (t : State) (hk : h.2.1 < 2 ^ 62) (ho : h.1.ok) (htk : t.ok) {σ : Nat → AObj} {nx b : Nat} (hb : b < nx) (hσ : σ b = .box (hC h)) :
    CallSpec P 71 [.ptr b 0, t.a] σ nx (.tup []) (oput σ b (.box (hC (addH h t)))) nx := by
  refine spec_down Try.func71 rfl rfl (by simp [Try.f71]) hb (by simp [bndO, bnd, bnd.bndL, hC]) (by simp [bnd, bnd.bndL]) fun hkn B hB hnx hσB => ?_
  simp only [Try.f71] at hB ⊢
  have hne : ¬ b = nx := by omega
  have hne2 : ¬ nx = b := by omega
  obtain ⟨s, k, o⟩ := h
  simp only at hk ho
  by_cases c0 : k = 0
  · subst c0
    have e : addH (s, 0, o) t = (t, 1, o) := rfl
    have w1 : IntKind.i64.wrap 1 = 1 := w64 _ (by omega)
    rw [e]
    refine K_run hB 100 ?_
    simp [go_sem, State.a, State.cs, hσ, hC, hne, hne2, w1]
    exact fun i h1 h2 => by simp [h2, show ¬ i = nx by omega]
  · have e : addH (s, k, o) t = (s.join t, k + 1, o || decide (t.spot ≠ s.spot)) := if_neg c0
    have hw : IntKind.i64.wrap ((k : Int) + 1) = (k : Int) + 1 := w64 _ (by omega)
    have c1 : ¬ (k : Int) + 1 = 1 := by omega
    rw [e]
    refine K_run hB 100 ?_
    simp [go_sem, State.a, State.cs, hσ, hC, hne, hne2, hw, c1]
    have hm1 := bandN ho.must htk.must
    have hm2 := bandN ho.on htk.on
    have hm3 := borN ho.can htk.can
    refine K_cut (α := Unit) (fun _ => True) (fun _ => ⟨sl [(0, .ptr b 0), (3, .ptr nx 0), (4, .ptr b 0)], oput (oput σ nx (.box t.cs)) b (.box (hC (s, k + 1, o || decide (t.spot ≠ s.spot)))), nx + 1⟩) ?_ fun _ _ => ?_
    · refine K_drawnT [16] rfl (by rw [hB]; kernel_rfl) (by kernel_rfl) fun ht => ?_
      cases o with
      | true =>
        refine K_run hB 100 ?_
        simp [go_sem, ht, hσ, hC, hne, hne2, hw, c1]
        refine Imp.slots (by simp [go_sem]) ?_ rfl
        funext i
        by_cases e1 : i = b
        · simp [oput, e1, hC]
        · simp [oput, e1, State.cs]
      | false =>
        refine K_run hB 100 ?_
        simp [go_sem, ht, hσ, hC, hne, hne2, hw, c1]
        refine Imp.slots (by simp [go_sem]) ?_ rfl
        funext i
        by_cases e1 : i = b
        · simp [oput, e1, hC]
        · simp [oput, e1, State.cs]
    refine K_run hB 100 ?_
    simp [go_sem]
    refine K_drawnF [18, 21] [1, 13, 14, 15] rfl (by rw [hB]; kernel_rfl) (by kernel_rfl) fun ht hf' => ?_
    refine K_run hB 100 ?_
    simp [go_sem, ht, hf', hC, hne, hne2, State.cs]
    refine K_drawnF [18, 21] [1, 13, 14, 15] rfl (by rw [hB]; kernel_rfl) (by kernel_rfl) fun ht hf' => ?_
    refine K_run hB 100 ?_
    simp [go_sem, ht, hf', hC, hne, hne2, State.cs]
    refine K_drawnF [18, 21] [1, 13, 14, 15] rfl (by rw [hB]; kernel_rfl) (by kernel_rfl) fun ht hf' => ?_
    refine K_run hB 100 ?_
    simp [go_sem, ht, hf', hC, hne, hne2, State.cs, hm1, hm2]
    refine K_drawnT [9] rfl (by rw [hB]; kernel_rfl) (by kernel_rfl) fun ht => ?_
    refine K_run hB 100 ?_
    simp [go_sem, ht, hC, hne, hne2, State.cs, hm3]
    exact ⟨⟨rfl, rfl, rfl, rfl, rfl, rfl, rfl, rfl⟩, fun i h1 h2 => by simp [h2, show ¬ i = nx by omega]⟩
def State.row (s : State) : List T := [.i s.spot, .i s.car, .i s.time, .i s.load, .i s.first, .v (.int .u64 s.must), .v (.int .u64 s.can), .v (.int .u64 s.on)]
theorem each_spec (l : List State) (h : State × Nat × Bool) (hl : l.length < 2 ^ 31) (h0 : h.2.1 = 0) (ho : h.1.ok) (hlo : ∀ t ∈ l, t.ok) {σ : Nat → AObj} {nx b r : Nat} (hb : b < nx) (hσ : σ b = .box (hC h)) (hr : r < nx) (hrb : r ≠ b) (hσr : σ r = .arr 8 (l.map State.row)) :
    CallSpec P 70 [.fn (.func 71) [.ptr b 0] [], .ref r] σ nx (.tup []) (oput σ b (.box (hC (l.foldl addH h)))) nx := by
  refine spec_down Try.func70 rfl rfl (by simp [Try.f70]) hb (by simp [bndO, bnd, bnd.bndL, hC]) (by simp [bnd, bnd.bndL]) fun hkn B hB hnx hσB => ?_
  simp only [Try.f70] at hB ⊢
  have hil : (l.map State.row).length = l.length := List.length_map _
  have hgt : ∀ (k : Nat) (h : k < l.length), (l.map State.row)[k]'(by rw [hil]; exact h) = l[k].row := fun k h => by rw [List.getElem_map]
  generalize l.map State.row = X at *
  generalize hR : l.foldl addH h = R
  refine K_run hB 100 ?_
  simp [go_sem, hσr, hil]
  refine K_loopP (α := Nat × (State × Nat × Bool) × (Nat → AObj) × Nat) (fun (k, h, τ, ny) => k ≤ l.length ∧ (l.drop k).foldl addH h = R ∧ h.2.1 = k ∧ h.1.ok ∧ τ b = .box (hC h) ∧ nx ≤ ny ∧ ∀ i, i < nx → i ≠ b → τ i = σ i)
    (fun (k, h, τ, ny) => ⟨sl [(0, .fn (.func 71) [.ptr b 0] []), (6, .ref r), (7, .i l.length), (8, .i k)], τ, ny⟩) (fun a => l.length - a.1) (0, h, σ, nx) ⟨Nat.zero_le _, hR, h0, ho, hσ, Nat.le_refl _, fun i _ _ => rfl⟩ (Imp.slots (by simp [go_sem]) rfl rfl) ?_
  rintro ⟨k, h, τ, ny⟩ ⟨g1, g2, g3, g4, g5, g6, g7⟩
  have hτr : τ r = .arr 8 X := (g7 r hr hrb).trans hσr
  refine K_run hB 60 ?_
  simp [go_sem]
  refine fork_dec (fun hk => ?_) (fun hk => ?_)
  · have hkk : IntKind.i64.wrap ((k : Int) + 1) = ((k + 1 : Nat) : Int) := by rw [w64 ((k : Int) + 1) (by omega)]; rfl
    have hget : ∀ h : k < X.length, X[k]'h = l[k].row := fun h => hgt k hk
    rw [List.drop_eq_getElem_cons hk, List.foldl_cons] at g2
    have hto := hlo l[k] (List.getElem_mem _)
    generalize l[k] = t at *
    have hadd := fun (τ' : Nat → AObj) (h1 : τ' b = .box (hC h)) => add_spec h t (by omega) g4 hto (σ := τ') (nx := ny + 1) (b := b) (by omega) h1
    have hok := addH_ok g4 hto
    have hmn := addH_many h t
    generalize addH h t = h' at *
    have m1 : ¬ b = ny := by omega
    have m2 : ¬ r = ny := by omega
    simp [go_sem, hil, hk, hget, State.row, hτr, m2]
    refine K_call rfl rfl rfl (args := [.ptr b 0, t.a]) (f := 71) (by simp [go_sem, State.a, State.cs]) (by simp [go_sem, hB]) (hadd _ (by simp [oput, m1, g5])) ?_
    refine K_run hB 100 ?_
    simp [go_sem, hkk]
    refine Next.mk (k + 1, h', _, ny + 1) ?_ (Imp.slots (by simp [go_sem]) rfl rfl) (by simp only; omega)
    refine ⟨by simp only; omega, g2, by simp only; omega, hok, by simp [oput], by simp only; omega, fun i h1 h2 => ?_⟩
    simp [oput, h2, show ¬ i = ny by omega, g7 i h1 h2]
  · have : k = l.length := by omega
    subst this
    rw [List.drop_length, List.foldl_nil] at g2
    subst g2
    simp [go_sem, g5]
    exact ⟨g6, g7⟩
theorem fold_addH : ∀ (l : List State) (s : State) (k : Nat) (o : Bool), l.foldl addH (s, k + 1, o) = (l.foldl State.join s, k + 1 + l.length, o || l.any fun t => decide (t.spot ≠ s.spot))
  | [], s, k, o => by simp
  | t :: l, s, k, o => by
    have e : addH (s, k + 1, o) t = (s.join t, k + 1 + 1, o || decide (t.spot ≠ s.spot)) := if_neg (by simp)
    rw [List.foldl_cons, e, fold_addH l (s.join t) (k + 1), List.foldl_cons, List.any_cons, List.length_cons, ← Bool.or_assoc, show k + 1 + 1 + l.length = k + 1 + (l.length + 1) by omega]
    rfl
theorem join_fold (l : List State) : joinL l = if (l.foldl addH (State.zero, 0, false)).2.1 = 0 ∨ (l.foldl addH (State.zero, 0, false)).2.2 = true then (State.zero, false) else ((l.foldl addH (State.zero, 0, false)).1, true) := by
  cases l with
  | nil => rfl
  | cons s l =>
    have e : addH (State.zero, 0, false) s = (s, 0 + 1, false) := rfl
    rw [List.foldl_cons, e, fold_addH, joinL, Bool.false_or]
    simp only [show ¬ (0 + 1 + l.length = 0) by omega, false_or]
theorem join_spec (l : List State) (hl : l.length < 2 ^ 31) (hlo : ∀ t ∈ l, t.ok) {σ : Nat → AObj} {nx r : Nat} (hr : r < nx) (hσr : σ r = .arr 8 (l.map State.row)) :
    CallSpec P 49 [.ref r] σ nx (.tup [(joinL l).1.a, .b (joinL l).2]) σ nx := by
  refine spec_keep Try.func49 rfl rfl (by simp [Try.f49]) (by simp [bnd, bnd.bndL, State.a, State.cs]) fun hk B hB hnx hσB => ?_
  simp only [Try.f49] at hB ⊢
  have hes := fun (τ : Nat → AObj) (h1 : τ (nx + 1) = .box (hC (State.zero, 0, false))) (h2 : τ r = .arr 8 (l.map State.row)) => each_spec l (State.zero, 0, false) hl rfl State.zero_ok hlo (σ := τ) (nx := nx + 2) (b := nx + 1) (r := r) (by omega) h1 (by omega) (by omega) h2
  have hj := join_fold l
  generalize joinL l = J at *
  generalize l.foldl addH (State.zero, 0, false) = H at *
  obtain ⟨s, k, o⟩ := H
  simp only at hj
  have m1 : ¬ r = nx := by omega
  have m2 : ¬ r = nx + 1 := by omega
  have fin : ∀ (a b c : AObj) (i : Nat), i < nx → oput (oput (oput σ nx a) (nx + 1) b) (nx + 1) c i = σ i := fun a b c i h => by simp [oput, show ¬ i = nx by omega, show ¬ i = nx + 1 by omega]
  refine K_run hB 100 ?_
  simp [go_sem]
  refine K_call rfl rfl rfl (args := [.fn (.func 71) [.ptr (nx + 1) 0] [], .ref r]) (f := 70) (by simp [go_sem]) (by simp [go_sem, hB]) (hes _ (by simp [oput, hC, State.zero]) (by simp [oput, m1, m2, hσr])) ?_
  by_cases c0 : k = 0
  · rw [if_pos (.inl c0)] at hj
    subst hj
    refine K_run hB 100 ?_
    simp [go_sem, hC, c0]
    exact ⟨fun i h => by simp [show ¬ i = nx by omega, show ¬ i = nx + 1 by omega], rfl⟩
  cases o with
  | true =>
    rw [if_pos (.inr rfl)] at hj
    subst hj
    refine K_run hB 100 ?_
    simp [go_sem, hC, c0]
    exact ⟨fun i h => by simp [show ¬ i = nx by omega, show ¬ i = nx + 1 by omega], rfl⟩
  | false =>
    rw [if_neg (by simp [c0])] at hj
    subst hj
    refine K_run hB 100 ?_
    simp [go_sem, hC, c0]
    exact ⟨fun i h => by simp [show ¬ i = nx by omega, show ¬ i = nx + 1 by omega], rfl⟩
end Go.Proofs.Ytdjbapglfdacmaa

/- The node of all of some: wide.together. -/
set_option maxRecDepth 4000
set_option maxHeartbeats 1000000
namespace Go.Proofs.Ytdjbapglfdacmaa
open Go Go.Proofs.Ytdjbapglfdacmaa.R
theorem costL_snoc (l : List Node) (m : Node) : costL (l ++ [m]) = if l = [] ∨ m.cost < costL l then m.cost else costL l := by
  cases l with
  | nil => simp [costL]
  | cons n l =>
    rw [List.cons_append, costL, List.foldl_append, costL]
    simp only [List.foldl_cons, List.foldl_nil, reduceCtorEq, false_or]
    split <;> omega
abbrev nodeC (s : State) (c : Int) (p : AV) : List AV := [.i s.spot, .i s.car, .i s.time, .i s.load, .i s.first, .u s.must, .u s.can, .u s.on, .i c, p]
theorem together_spec (l : List Node) (hl : l.length < 2 ^ 31) (hlo : ∀ n ∈ l, n.s.ok) {σ : Nat → AObj} {nx r : Nat} (hr : r < nx) (hσr : σ r = .arr 10 (nodesT l)) :
    CallSpec P 26 [.ref r] σ nx (.tup [(together l).1.a, .b (together l).2]) σ nx := by
  refine spec_keep Try.func26 rfl rfl (by simp [Try.f26]) (by simp [bnd, bnd.bndL, Node.a, Node.cs]) fun hk B hB hnx hσB => ?_
  simp only [Try.f26] at hB ⊢
  have hil : (nodesT l).length = l.length := List.length_map _
  have hgt : ∀ (k : Nat) (h : k < l.length), (nodesT l)[k]'(by rw [hil]; exact h) = l[k].t := fun k h => nodesT_get l h
  have hmost : mostLen = 4294967296 := rfl
  generalize hX : nodesT l = X at *
  have m1 : ¬ r = nx := by omega
  have m2 : ¬ r = nx + 1 := by omega
  have m3 : ¬ r = nx + 2 := by omega
  refine K_run hB 100 ?_
  simp [go_sem, hσr, hil, m1, m2]
  refine K_own 5 8 (by simp [go_sem]) ?_
  refine K_less (Imp.looseB (b := nx + 1) (cs := [.i 0, .i 0, .i 0, .i 0, .i 0, .u 0, .u 0, .u 0, .i 0, .fsl []]) (by simp [oput])) ?_
  refine K_loopP (α := Nat × Nat × (Nat → AObj) × Nat) (fun (k, q, τ, ny) => k ≤ l.length ∧ τ (nx + 1) = .box (nodeC State.zero (costL (l.take k)) (.t (.sl []))) ∧ τ q = .arr 8 ((l.map fun n => n.s.row).take k) ∧ nx + 2 ≤ q ∧ q < ny ∧ τ nx = .box (nodeC State.zero 0 (.fsl [])) ∧ ∀ i, i < nx → τ i = σ i)
    (fun (k, q, τ, ny) => ⟨sl [(2, .ptr nx 0), (3, .b false), (4, .ptr (nx + 1) 0), (5, .ref q), (9, .ref r), (10, .i l.length), (11, .i k)], τ, ny⟩) (fun a => l.length - a.1) (0, nx + 2, _, nx + 3) ?_ (Imp.slots (by simp [go_sem]) rfl rfl) ?_
  · refine ⟨Nat.zero_le _, by simp [oput, loosen, State.zero, costL], by simp [oput], by omega, by omega, by simp [oput, State.zero, show ¬ nx = nx + 1 + 1 by omega], fun i h => by simp [oput, show ¬ i = nx by omega, show ¬ i = nx + 1 by omega, show ¬ i = nx + 2 by omega]⟩
  rintro ⟨k, q, τ, ny⟩ ⟨g1, g2, g3, g4, g5, g6, g7⟩
  have hτr : τ r = .arr 10 X := (g7 r hr).trans hσr
  have n1 : ¬ r = ny := by omega
  have n2 : ¬ nx + 1 = ny := by omega
  have n3 : ¬ q = ny := by omega
  have n4 : ¬ nx = ny := by omega
  have n5 : ¬ nx + 1 = q := by omega
  have n6 : ¬ ny = nx + 1 := by omega
  have n7 : ¬ q = nx + 1 := by omega
  refine K_run hB 60 ?_
  simp [go_sem]
  refine fork_dec (fun hk => ?_) (fun hk => ?_)
  · have hkk : IntKind.i64.wrap ((k : Int) + 1) = ((k + 1 : Nat) : Int) := by rw [w64 ((k : Int) + 1) (by omega)]; rfl
    have hget : ∀ h : k < X.length, X[k]'h = l[k].t := fun h => hgt k hk
    have htk : l.take (k + 1) = l.take k ++ [l[k]] := List.take_succ_eq_append_getElem hk
    have hcs := costL_snoc (l.take k) l[k]
    rw [← htk] at hcs
    have hnil : l.take k = [] ↔ k = 0 := by
      rw [List.take_eq_nil_iff]
      constructor
      · rintro (h | h)
        · exact h
        · rw [h] at hk; simp at hk
      · exact fun h => .inl h
    simp only [hnil] at hcs
    have hrow : (l.map fun n => n.s.row).take k ++ [l[k].s.row] = (l.map fun n => n.s.row).take (k + 1) := by
      rw [List.take_succ_eq_append_getElem (by rw [List.length_map]; exact hk), List.getElem_map]
    have hlen : ((l.map fun n => n.s.row).take k).length = k := by rw [List.length_take, List.length_map]; omega
    generalize (l.map fun n => n.s.row).take k = rows at *
    generalize costL (l.take k) = c at *
    generalize l[k] = m at *
    have hcap : k + 1 ≤ mostLen := by omega
    by_cases c0 : k = 0
    · rw [if_pos (.inl c0)] at hcs
      have hd : decide (k = 0) = true := decide_eq_true c0
      simp [go_sem, hil, hk, hget, Node.t, hτr, n1, n2, n3, n4, n5, n6, n7, g2, g3, hd, hlen, hcap, hkk]
      refine Next.mk (k + 1, ny + 1, _, ny + 2) ?_ (Imp.slots (by simp [go_sem]) rfl rfl) (by simp only; omega)
      refine ⟨by simp only; omega, by simp [oput, n4, n2, n3, n5, hcs, State.zero], by simp only [oput, if_true]; rw [← hrow]; rfl, by simp only; omega, by simp only; omega, by simp [oput, n4, g6, State.zero, show ¬ nx = q by omega, show ¬ nx = ny + 1 by omega], fun i h => by simp [oput, show ¬ i = ny by omega, show ¬ i = nx + 1 by omega, show ¬ i = q by omega, show ¬ i = ny + 1 by omega, g7 i h]⟩
    by_cases c1 : m.cost < c
    · rw [if_pos (.inr c1)] at hcs
      simp [go_sem, hil, hk, hget, Node.t, hτr, n1, n2, n3, n4, n5, n6, n7, g2, g3, c0, c1, hlen, hcap, hkk]
      refine Next.mk (k + 1, ny + 1, _, ny + 2) ?_ (Imp.slots (by simp [go_sem]) rfl rfl) (by simp only; omega)
      refine ⟨by simp only; omega, by simp [oput, n4, n2, n3, n5, hcs, State.zero], by simp only [oput, if_true]; rw [← hrow]; rfl, by simp only; omega, by simp only; omega, by simp [oput, n4, g6, State.zero, show ¬ nx = q by omega, show ¬ nx = ny + 1 by omega], fun i h => by simp [oput, show ¬ i = ny by omega, show ¬ i = nx + 1 by omega, show ¬ i = q by omega, show ¬ i = ny + 1 by omega, g7 i h]⟩
    · rw [if_neg (by rintro (h | h); exact c0 h; exact c1 h)] at hcs
      simp [go_sem, hil, hk, hget, Node.t, hτr, n1, n2, n3, n4, n5, n6, n7, g2, g3, c0, c1, hlen, hcap, hkk]
      refine Next.mk (k + 1, ny + 1, _, ny + 2) ?_ (Imp.slots (by simp [go_sem]) rfl rfl) (by simp only; omega)
      refine ⟨by simp only; omega, by simp [oput, n4, n2, n3, n5, hcs, State.zero, g2], by simp only [oput, if_true]; rw [← hrow]; rfl, by simp only; omega, by simp only; omega, by simp [oput, n4, g6, State.zero, show ¬ nx = q by omega, show ¬ nx = ny + 1 by omega], fun i h => by simp [oput, show ¬ i = ny by omega, show ¬ i = nx + 1 by omega, show ¬ i = q by omega, show ¬ i = ny + 1 by omega, g7 i h]⟩
  · have : k = l.length := by omega
    subst this
    rw [List.take_length] at g2
    rw [List.take_of_length_le (by simp)] at g3
    have hjs := fun (τ' : Nat → AObj) (h1 : τ' q = .arr 8 ((l.map fun n => n.s).map State.row)) => join_spec (l.map fun n => n.s) (by rw [List.length_map]; exact hl) (fun t ht => by
      obtain ⟨n, hn, rfl⟩ := List.mem_map.1 ht
      exact hlo n hn) (σ := τ') (nx := ny) (r := q) g5 h1
    have htg : together l = (⟨(joinL (l.map fun n => n.s)).1, costL l, []⟩, (joinL (l.map fun n => n.s)).2) := rfl
    generalize together l = TG at *
    generalize joinL (l.map fun n => n.s) = J at *
    generalize costL l = c at *
    subst htg
    simp [go_sem]
    refine K_call rfl rfl rfl (args := [.ref q]) (f := 49) (by simp [go_sem]) (by simp [go_sem, hB]) (hjs _ (by rw [List.map_map]; exact g3)) ?_
    refine K_run hB 100 ?_
    simp [go_sem, State.a, State.cs, g2, g6, nodeC]
    exact ⟨by omega, fun i h => by simp [show ¬ i = nx by omega, show ¬ i = nx + 1 by omega, g7 i h], rfl⟩
end Go.Proofs.Ytdjbapglfdacmaa

/- Nodes squeezed: wide.Squeeze. -/
set_option maxRecDepth 4000
set_option maxHeartbeats 1000000
namespace Go.Proofs.Ytdjbapglfdacmaa
open Go Go.Proofs.Ytdjbapglfdacmaa.R
theorem nodup_inj {α : Type} {l : List α} (h : l.Nodup) {i j : Nat} (hi : i < l.length) (hj : j < l.length) (e : l[i] = l[j]) : i = j := by
  rcases Nat.lt_trichotomy i j with h1 | h1 | h1
  · exact absurd e (List.pairwise_iff_getElem.1 h i j hi hj h1)
  · exact h1
  · exact absurd e.symm (List.pairwise_iff_getElem.1 h j i hj hi h1)
theorem nodup_set {α : Type} {l : List α} (h : l.Nodup) {a : α} (hm : a ∉ l) (i : Nat) : (l.set i a).Nodup := by
  refine List.pairwise_iff_getElem.2 fun j k hj hk hjk => ?_
  rw [List.length_set] at hj hk
  rw [List.getElem_set, List.getElem_set]
  split
  · split
    · omega
    · exact fun e => hm (e ▸ List.getElem_mem _)
  · split
    · exact fun e => hm (e ▸ List.getElem_mem _)
    · exact List.pairwise_iff_getElem.1 h j k hj hk hjk
abbrev kv (i : Int) : Value := .int .i64 i
/-- A map from stops to rows of the call's own. -/
noncomputable def kmap (K : List (Int × Nat)) : List (Value × AV) := K.map fun p => (kv p.1, .ref p.2)
def kfind (i : Int) : List (Int × Nat) → Option (Nat × Nat)
  | [] => none
  | p :: K => if p.1 = i then some (0, p.2) else (kfind i K).map fun r => (r.1 + 1, r.2)
def kset (i : Int) (q : Nat) (K : List (Int × Nat)) : List (Int × Nat) := match kfind i K with
  | some (j, _) => K.set j (i, q)
  | none => K ++ [(i, q)]
theorem kv_inj {i j : Int} : kv i = kv j ↔ i = j := ⟨fun h => by injection h, fun h => by rw [h]⟩
theorem findM_k (i : Int) : ∀ (K : List (Int × Nat)), findM (kv i) (kmap K) = (kfind i K).map fun r => (r.1, .ref r.2)
  | [] => rfl
  | p :: K => by
    have e : kmap (p :: K) = (kv p.1, .ref p.2) :: kmap K := rfl
    rw [e, findM, kfind, findM_k i K]
    by_cases h : p.1 = i
    · rw [if_pos (by rw [h]), if_pos h]; rfl
    · rw [if_neg (fun e => h (kv_inj.1 e)), if_neg h, Option.map_map, Option.map_map]
      rfl
theorem kfind_some {i : Int} : ∀ {K : List (Int × Nat)} {j q : Nat}, kfind i K = some (j, q) → ∃ h : j < K.length, K[j] = (i, q)
  | [], j, q, h => by cases h
  | p :: K, j, q, h => by
    rw [kfind] at h
    split at h
    · rename_i e
      cases h
      exact ⟨by simp, by rw [← e]; rfl⟩
    · obtain ⟨r, h1, h2⟩ := Option.map_eq_some_iff.1 h
      cases h2
      obtain ⟨h3, h4⟩ := kfind_some h1
      exact ⟨by simp; omega, by simpa using h4⟩
theorem kfind_none {i : Int} : ∀ {K : List (Int × Nat)}, kfind i K = none → i ∉ K.map Prod.fst
  | [], _ => by simp
  | p :: K, h => by
    rw [kfind] at h
    split at h
    · cases h
    · rename_i e
      have := kfind_none (Option.map_eq_none_iff.1 h)
      simp only [List.map_cons, List.mem_cons, not_or]
      exact ⟨fun h => e h.symm, this⟩
theorem setM_k (i : Int) (q : Nat) (K : List (Int × Nat)) : setM (kv i) (.ref q) (kmap K) = kmap (kset i q K) := by
  rw [setM, findM_k, kset]
  cases h : kfind i K with
  | none => simp [kmap]
  | some r => simp [kmap, List.map_set]
theorem k_tell (i : Int) (K : List (Int × Nat)) : TellM P 3 (.i i) (kv i) (kmap K) := by
  intro e he
  obtain ⟨p, hp, rfl⟩ := List.mem_map.1 he
  refine ⟨.i p.1, rfl, ?_⟩
  have : eqA P 10000 3 (.i i) (.i p.1) = some (decide (i = p.1)) := by
    simp [eqA, tt3]
  rw [this]
  congr 1
  rw [decide_eq_decide]
  exact ⟨fun h => by rw [h], fun h => (kv_inj.1 h).symm⟩
def grp (L : List Node) (i : Int) : List Node := L.filter fun n => decide (n.s.spot = i)
structure KI (K : List (Int × Nat)) (L : List Node) (σ : Nat → AObj) (base nx : Nat) : Prop where
  keys : (K.map Prod.fst).Nodup
  objs : (K.map Prod.snd).Nodup
  rows : ∀ p ∈ K, σ p.2 = .arr 10 (nodesT (grp L p.1)) ∧ base ≤ p.2 ∧ p.2 < nx
  none : ∀ i, i ∉ K.map Prod.fst → grp L i = []
theorem grp_snoc (L : List Node) (n : Node) (i : Int) : grp (L ++ [n]) i = grp L i ++ if n.s.spot = i then [n] else [] := by
  rw [grp, List.filter_append, grp]
  congr 1
  by_cases h : n.s.spot = i <;> simp [h]
theorem kset_map {i : Int} {q : Nat} {K : List (Int × Nat)} : ((kset i q K).map Prod.fst = K.map Prod.fst ∧ i ∈ K.map Prod.fst) ∨ ((kset i q K).map Prod.fst = K.map Prod.fst ++ [i] ∧ i ∉ K.map Prod.fst) := by
  unfold kset
  cases h : kfind i K with
  | none => exact .inr ⟨by simp, kfind_none h⟩
  | some r =>
    obtain ⟨j, q0⟩ := r
    obtain ⟨h1, h2⟩ := kfind_some h
    refine .inl ⟨?_, List.mem_map.2 ⟨_, List.getElem_mem h1, by rw [h2]⟩⟩
    simp only [List.map_set]
    refine List.ext_getElem (by simp) fun k hk1 hk2 => ?_
    rw [List.getElem_set]
    split
    · rename_i e
      subst e
      rw [List.getElem_map, h2]
    · rfl
theorem kset_mem {i : Int} {q : Nat} {K : List (Int × Nat)} (hk : (K.map Prod.fst).Nodup) {p : Int × Nat} (hp : p ∈ kset i q K) : p = (i, q) ∨ (p ∈ K ∧ p.1 ≠ i) := by
  unfold kset at hp
  cases h : kfind i K with
  | none =>
    rw [h] at hp
    rcases List.mem_append.1 hp with hp | hp
    · refine .inr ⟨hp, fun e => kfind_none h (List.mem_map.2 ⟨p, hp, e⟩)⟩
    · exact .inl (List.mem_singleton.1 hp)
  | some r =>
    obtain ⟨j, q0⟩ := r
    rw [h] at hp
    obtain ⟨h1, h2⟩ := kfind_some h
    obtain ⟨k, hk1, hk2⟩ := List.getElem_of_mem hp
    simp only [List.length_set] at hk1
    rw [List.getElem_set] at hk2
    split at hk2
    · exact .inl hk2.symm
    · rename_i e
      refine .inr ⟨by rw [← hk2]; exact List.getElem_mem _, fun e2 => e ?_⟩
      have e3 : (K.map Prod.fst)[j]'(by simpa using h1) = (K.map Prod.fst)[k]'(by simpa using hk1) := by
        rw [List.getElem_map, List.getElem_map, h2, hk2, e2]
      exact nodup_inj hk _ _ e3
theorem KI.ne {K : List (Int × Nat)} {L : List Node} {σ : Nat → AObj} {base nx : Nat} (h : KI K L σ base nx) {a b : Int × Nat} (ha : a ∈ K) (hb : b ∈ K) (hne : a.1 ≠ b.1) : a.2 ≠ b.2 := by
  intro e
  obtain ⟨j, hj1, hj2⟩ := List.getElem_of_mem ha
  obtain ⟨k, hk1, hk2⟩ := List.getElem_of_mem hb
  have e3 : (K.map Prod.snd)[j]'(by simpa using hj1) = (K.map Prod.snd)[k]'(by simpa using hk1) := by
    rw [List.getElem_map, List.getElem_map, hj2, hk2, e]
  have := nodup_inj h.objs _ _ e3
  subst this
  rw [hj2] at hk2
  exact hne (by rw [hk2])
theorem KI.add {K : List (Int × Nat)} {L : List Node} {σ σ' : Nat → AObj} {base nx nx' q : Nat} {n : Node} (h : KI K L σ base nx) (hq : nx ≤ q ∧ q < nx') (hb : base ≤ nx) (hs : ∀ p ∈ K, p.1 ≠ n.s.spot → σ' p.2 = σ p.2) (hσq : σ' q = .arr 10 (nodesT (grp L n.s.spot ++ [n]))) :
    KI (kset n.s.spot q K) (L ++ [n]) σ' base nx' := by
  refine ⟨?_, ?_, fun p hp => ?_, fun i hi => ?_⟩
  · rcases kset_map (i := n.s.spot) (q := q) (K := K) with ⟨e, _⟩ | ⟨e, e2⟩
    · rw [e]; exact h.keys
    · rw [e, List.nodup_append]
      exact ⟨h.keys, by simp, fun a ha b hb => by rw [List.mem_singleton.1 hb]; exact fun e => e2 (e ▸ ha)⟩
  · have hlt : ∀ a ∈ K.map Prod.snd, a < nx := fun a ha => by
      obtain ⟨p, hp, rfl⟩ := List.mem_map.1 ha
      exact (h.rows p hp).2.2
    unfold kset
    cases hf : kfind n.s.spot K with
    | none =>
      simp only [List.map_append, List.map_cons, List.map_nil]
      rw [List.nodup_append]
      exact ⟨h.objs, by simp, fun a ha b hb => by rw [List.mem_singleton.1 hb]; have := hlt a ha; omega⟩
    | some r =>
      simp only [List.map_set]
      exact nodup_set h.objs (fun hm => by have := hlt q hm; omega) _
  · rcases kset_mem h.keys hp with rfl | ⟨h1, h2⟩
    · refine ⟨?_, by simp only; omega, hq.2⟩
      rw [grp_snoc, if_pos rfl]; exact hσq
    · obtain ⟨r1, r2, r3⟩ := h.rows p h1
      refine ⟨?_, r2, by omega⟩
      rw [grp_snoc, if_neg (fun e => h2 e.symm), List.append_nil, hs p h1 h2, r1]
  · have : i ∉ K.map Prod.fst ∧ i ≠ n.s.spot := by
      rcases kset_map (i := n.s.spot) (q := q) (K := K) with ⟨e, e2⟩ | ⟨e, e2⟩
      · rw [e] at hi; exact ⟨hi, fun e3 => hi (e3 ▸ e2)⟩
      · rw [e] at hi
        simp only [List.mem_append, List.mem_singleton, not_or] at hi
        exact hi
    rw [grp_snoc, if_neg (fun e => this.2 e.symm), h.none i this.1, List.append_nil]
end Go.Proofs.Ytdjbapglfdacmaa
