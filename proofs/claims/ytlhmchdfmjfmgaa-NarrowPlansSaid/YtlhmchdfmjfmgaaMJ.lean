/- Parts of the proof: NarrowP, NarrowR, Law16, Sched, Sched2, Sched3, PlanC, Split, ToursP, Tours, Law16p. -/
import Derived.Test.YtlhmchdfmjfmgaaMI
set_option linter.unusedVariables false
/- What looking at few finds: the plain laws. -/
set_option maxRecDepth 4000
namespace Go.Proofs.Ytlhmchdfmjfmgaa
open Go Go.Proofs.Ytlhmchdfmjfmgaa.R
theorem naGo_path (x : Inst) (W : Nat) (k : Nat) : ∀ (d : Nat) (st : Node × Bool × Int) (l : List Node) (n : Int) {K : Nat}, Level x l d K → K ≤ k → st.1.path.length ≤ k → (x.naGo W d st l n).1.path.length ≤ k
  | 0, st, l, n, K, _, _, h => h
  | d + 1, st, l, n, K, h1, h2, h3 => by
    rw [Inst.naGo]
    split
    · exact h3
    · refine naGo_path x W k d _ _ _ (h1.few W st.2.2) h2 ?_
      unfold Inst.look
      split
      · exact bests_path fun m hm => by have := h1.path m hm; omega
      · exact h3
theorem narrow_path (x : Inst) (n : Node) (w up : Int) (ho : n.s.ok) : (x.narrow n w up).1.path.length ≤ n.path.length + 41 := by
  have := meas_le x n.s
  have h := naGo_path x (widthN w) (n.path.length + x.meas n.s + 1) _ (Node.zero, false, up) _ 0 (Level.root x n ho) (Nat.le_refl _) (Nat.zero_le _)
  have : (x.narrow n w up).1.path.length ≤ n.path.length + x.meas n.s + 1 := h
  omega
theorem Lev.few {x : Inst} {l : List Node} {d : Nat} (h : Lev x l (d + 1)) (W : Nat) (up : Int) : Lev x (x.few W l up) d := (h.next up).sub fun n hn => few_mem hn
/-- What is found can be followed, and ended. -/
theorem naGo_from {x : Inst} (W : Nat) : ∀ (d : Nat) (st : Node × Bool × Int) (l : List Node) (n : Int), Lev x l d → stOk st →
    ((x.naGo W d st l n).2.1 = st.2.1 ∧ (x.naGo W d st l n).1 = st.1) ∨
    ((x.naGo W d st l n).2.1 = true ∧ ∃ m ∈ l, ∃ (w : List Int) (c : Int), x.way w m.s c ∧ (x.naGo W d st l n).1.cost = m.cost + c ∧ (x.naGo W d st l n).1.path = m.path ++ w ∧ m.cost + c < st.2.2)
  | 0, st, l, n, _, _ => .inl ⟨rfl, rfl⟩
  | d + 1, st, l, n, hl, h => by
    rw [Inst.naGo]
    split
    · exact .inl ⟨rfl, rfl⟩
    obtain ⟨k1, k2, k3⟩ := look_ok (x := x) (l := l) h
    rcases naGo_from W d (x.look st l) (x.few W l st.2.2) (IntKind.i64.wrap (n + l.length)) (hl.few W st.2.2) k1 with ⟨i1, i2⟩ | ⟨i1, m, hm, w, c, i2, i3, i4, i5⟩
    · by_cases hh : (x.bests l).2 = true ∧ (x.bests l).1.cost < st.2.2
      · have hlk : x.look st l = ((x.bests l).1, true, (x.bests l).1.cost) := by rw [Inst.look, if_pos hh]
        rw [i1, i2, hlk]
        obtain ⟨m, hm, b1, b2, b3⟩ := bests_from hh.1
        rw [end_sum hl hm b1] at b2
        exact .inr ⟨rfl, m, hm, [], _, ⟨b1, rfl⟩, b2, by rw [List.append_nil]; exact b3, by omega⟩
      · have hlk : x.look st l = st := by rw [Inst.look, if_neg hh]
        rw [i1, i2, hlk]
        exact .inl ⟨rfl, rfl⟩
    · obtain ⟨q, hq, j, hj, rfl, _⟩ := next_mem (few_mem hm)
      have hj := moves_mem hj
      have hcc := child_cost hl hq hj
      refine .inr ⟨i1, q, hq, j :: w, (x.move q.s j).2.1 + c, ⟨hj, c, i2, rfl⟩, ?_, ?_, ?_⟩
      · rw [i3, hcc]; omega
      · rw [i4]
        show (q.path ++ [j]) ++ w = _
        rw [List.append_assoc]; rfl
      · rw [hcc] at i5; omega
theorem narrow_from {x : Inst} {n : Node} {up wi : Int} (h1 : n.s.ok) (h2 : n.s.Pos) (h3 : n.s.seenAt) (h4 : 0 ≤ n.cost ∧ n.cost ≤ 1152921504606000000) (hs : (x.narrow n wi up).2.1 = true) :
    ∃ (w : List Int) (c : Int), x.way w n.s c ∧ (x.narrow n wi up).1.cost = n.cost + c ∧ (x.narrow n wi up).1.path = n.path ++ w ∧ n.cost + c < up := by
  rcases naGo_from (x := x) (widthN wi) _ (Node.zero, false, up) _ 0 (Lev.root h1 h2 h3 h4) (fun h => by cases h) with ⟨i1, _⟩ | ⟨_, m, hm, w, c, i2⟩
  · rw [Inst.narrow, i1] at hs; cases hs
  · rw [List.mem_singleton.1 hm] at i2
    exact ⟨w, c, i2⟩
theorem narrow_none {x : Inst} {n : Node} {up wi : Int} (h1 : n.s.ok) (h2 : n.s.Pos) (h3 : n.s.seenAt) (h4 : 0 ≤ n.cost ∧ n.cost ≤ 1152921504606000000) (hs : (x.narrow n wi up).2.1 = false) : (x.narrow n wi up).1 = Node.zero := by
  rcases naGo_from (x := x) (widthN wi) _ (Node.zero, false, up) _ 0 (Lev.root h1 h2 h3 h4) (fun h => by cases h) with ⟨_, i1⟩ | ⟨i1, _⟩
  · exact i1
  · rw [Inst.narrow, i1] at hs; cases hs
/-- How many steps. -/
theorem naGo_steps (x : Inst) (W : Nat) (hW : W ≤ 3000) : ∀ (d : Nat) (st : Node × Bool × Int) (l : List Node) (n : Int), l.length ≤ W → 0 ≤ n → n + 3000 * d < 9223372036854775808 → n ≤ (x.naGo W d st l n).2.2 ∧ (x.naGo W d st l n).2.2 ≤ n + W * d
  | 0, st, l, n, _, _, _ => by rw [Inst.naGo]; simp
  | d + 1, st, l, n, hl, h0, hn => by
    rw [Inst.naGo]
    have e : (W : Int) * ((d + 1 : Nat) : Int) = W * d + W := by rw [Int.natCast_add, Int.mul_add]; simp
    have e2 : (0 : Int) ≤ (W : Int) * d := Int.mul_nonneg (by omega) (by omega)
    split
    · refine ⟨Int.le_refl _, ?_⟩
      simp only
      omega
    · have hw := w64 (n + l.length) (by omega)
      obtain ⟨i1, i2⟩ := naGo_steps x W hW d (x.look st l) (x.few W l st.2.2) (IntKind.i64.wrap (n + l.length)) (few_len x W l st.2.2) (by omega) (by omega)
      refine ⟨by omega, ?_⟩
      rw [hw] at i2 ⊢
      omega
theorem narrow_steps (x : Inst) (n : Node) (wi up : Int) (hw : wi ≤ 3000) : 1 ≤ (x.narrow n wi up).2.2 ∧ (x.narrow n wi up).2.2 ≤ 1 + widthN wi * x.meas n.s := by
  have hm := meas_le x n.s
  have hW2 : widthN wi ≤ 3000 := by unfold widthN; split <;> omega
  have e : x.narrow n wi up = x.naGo (widthN wi) (x.meas n.s) (x.look (Node.zero, false, up) [n]) (x.few (widthN wi) [n] up) 1 := by
    rw [Inst.narrow, Inst.naGo, if_neg (by simp)]
    rfl
  have := naGo_steps x (widthN wi) hW2 (x.meas n.s) (x.look (Node.zero, false, up) [n]) (x.few (widthN wi) [n] up) 1 (few_len x _ _ _) (by omega) (by omega)
  rw [e]
  exact this
theorem meas_rootC {x : Inst} {p : Nat} (hx : x.Fit p) (hm : x.may = true) : (x.meas x.rootS : Int) ≤ 2 * x.pairs + x.cars - 1 := by
  have hp := hx.pairs
  have hc := hx.cars
  unfold Inst.meas
  split
  · rw [Inst.rootS, if_pos hm]
    have h6 : ((List.range (2 * x.pairs.toNat + 1)).filter fun j : Nat => decide (1 ≤ j) && !hasB ({ State.zero with car := 1, time := (x.stop 0).ready } : State).must (j : Int)).length < ((List.range (2 * x.pairs.toNat + 1)).filter fun _ => true).length :=
      filter_lt _ (a := 0) (List.mem_range.2 (by omega)) rfl (by simp) (fun _ _ => rfl)
    rw [List.filter_eq_self.2 (fun _ _ => rfl), List.length_range] at h6
    have : x.base ({ State.zero with car := 1, time := (x.stop 0).ready } : State) ≤ 2 * x.pairs.toNat + (x.cars - 1).toNat := Nat.add_le_add (Nat.le_of_lt_succ h6) (Nat.le_refl _)
    omega
  · omega
/-- A width below 1 is as 1. -/
theorem widthN_low {w : Int} (h : w ≤ 1) : widthN w = 1 := by
  unfold widthN
  split
  · rfl
  · omega
theorem narrow_low (x : Inst) (n : Node) {w : Int} (h : w ≤ 1) (up : Int) : x.narrow n w up = x.narrow n 1 up := by
  rw [Inst.narrow, Inst.narrow, widthN_low h, widthN_low (Int.le_refl 1)]
/-! With levels as wide as may be. -/
theorem potL_part (p d : Nat) (f : Node → Bool) : ∀ (l : List Node), potL p d (l.filter f) + potL p d (l.filter fun n => !f n) = potL p d l
  | [] => rfl
  | n :: l => by
    have := potL_part p d f l
    rw [List.filter_cons, List.filter_cons]
    cases f n <;> simp [potL] <;> omega
theorem potL_ins (p d : Nat) (x : Inst) (n : Node) (s : List Node) : potL p d (insK x.of n s) = potS p d n.s + potL p d s := by
  have h := potL_part p d (fun y => decide (x.of y ≤ x.of n)) s
  have e : (s.filter fun y => !decide (x.of y ≤ x.of n)) = s.filter fun y => decide (x.of n < x.of y) := by
    congr 1
    funext y
    rw [Bool.eq_iff_iff]
    simp
  rw [insK, potL_app]
  simp only [potL]
  rw [e] at h
  omega
theorem potL_sortF (p d : Nat) (x : Inst) : ∀ (l s : List Node), potL p d (l.foldl (fun s n => insK x.of n s) s) = potL p d s + potL p d l
  | [], s => by simp [potL]
  | n :: l, s => by
    rw [List.foldl_cons, potL_sortF p d x l, potL_ins, potL]
    omega
theorem potL_sort (p d : Nat) (x : Inst) (l : List Node) : potL p d (x.sortN l) = potL p d l := by
  have := potL_sortF p d x l []
  simp only [potL] at this
  rw [Inst.sortN, isort, this]
  omega
theorem pot_few {x : Inst} {p : Nat} (hx : x.Fit p) (hp3 : p ≤ 3) (d : Nat) (up : Int) {l : List Node} (h : ∀ n ∈ l, Good x p n.s) : potL p d (x.sortN (x.next l up)) ≤ potL p (d + 1) l := by
  have h2 := potL_once p d (l.flatMap (x.kids up)) []
  have h3 := pot_flat hx hp3 d up l h
  rw [potL_sort, Inst.next, onceL]
  simp only [potL] at h2
  omega
theorem good_few {x : Inst} {p : Nat} (hx : x.Fit p) {l : List Node} (h : ∀ n ∈ l, Good x p n.s) (up : Int) : ∀ m ∈ x.sortN (x.next l up), Good x p m.s := by
  intro m hm
  obtain ⟨n, hn, j, hj, rfl, _⟩ := next_mem (Inst.sortN_mem.1 hm)
  exact (good_step hx (h n hn) (moves_mem hj)).1
theorem naGo_keep (x : Inst) (W : Nat) : ∀ (d : Nat) (st : Node × Bool × Int) (l : List Node) (n : Int), stOk st → st.2.1 = true → (x.naGo W d st l n).2.1 = true ∧ (x.naGo W d st l n).1.cost ≤ st.2.2
  | 0, st, l, n, h, hs => ⟨hs, by rw [Inst.naGo]; have := h hs; simp only; omega⟩
  | d + 1, st, l, n, h, hs => by
    rw [Inst.naGo]
    split
    · exact ⟨hs, by have := h hs; simp only; omega⟩
    · obtain ⟨k1, k2, k3⟩ := look_ok (x := x) (l := l) h
      obtain ⟨j1, j2⟩ := naGo_keep x W d (x.look st l) (x.few W l st.2.2) (IntKind.i64.wrap (n + l.length)) k1 (k3 hs)
      exact ⟨j1, by omega⟩
theorem naGo_has {x : Inst} {p : Nat} (hx : x.Fit p) (hp3 : p ≤ 3) (hst : x.stops.length < 2 ^ 31) {W : Nat} (hW : 132 ≤ W) : ∀ (d : Nat) (st : Node × Bool × Int) (l : List Node) (n : Int), Lev x l d → stOk st → (∀ n ∈ l, Good x p n.s) → potL p d l ≤ 132 →
    ∀ m ∈ l, ∀ (w : List Int) (c : Int), x.way w m.s c → m.cost + c < st.2.2 → (x.naGo W d st l n).2.1 = true ∧ (x.naGo W d st l n).1.cost ≤ m.cost + c
  | 0, st, l, n, hl, _, _, _, m, hm, w, c, _, _ => by rw [hl.empty] at hm; cases hm
  | d + 1, st, l, n, hl, h, hg, hp, m, hm, w, c, hw, hlt => by
    have c1 : ¬ l.length = 0 := by
      have := List.length_pos_of_mem hm
      omega
    have hpf := Nat.le_trans (pot_few hx hp3 d st.2.2 hg) hp
    have hfe : x.few W l st.2.2 = x.sortN (x.next l st.2.2) := by
      have := potL_len p d (x.sortN (x.next l st.2.2))
      rw [Inst.few, List.take_of_length_le (by omega)]
    rw [Inst.naGo, if_neg c1, hfe]
    obtain ⟨k1, k2, k3⟩ := look_ok (x := x) (l := l) h
    match w, hw with
    | [], hw =>
      obtain ⟨b1, b2⟩ := bests_has hm hw.1
      rw [end_sum hl hm hw.1, ← hw.2] at b2
      have hlk : x.look st l = ((x.bests l).1, true, (x.bests l).1.cost) := by rw [Inst.look, if_pos ⟨b1, by omega⟩]
      obtain ⟨j1, j2⟩ := naGo_keep x W d (x.look st l) (x.sortN (x.next l st.2.2)) (IntKind.i64.wrap (n + l.length)) k1 (by rw [hlk])
      refine ⟨j1, ?_⟩
      have : (x.look st l).2.2 = (x.bests l).1.cost := by rw [hlk]
      omega
    | j :: w, hw =>
      obtain ⟨g1, e, g2, g3⟩ := hw
      obtain ⟨f, hf, q1, q2⟩ := next_way hst hl hm g1 g2 (up := st.2.2) (by omega)
      by_cases c3 : f.cost + e < (x.look st l).2.2
      · obtain ⟨i1, i2⟩ := naGo_has hx hp3 hst hW d (x.look st l) (x.sortN (x.next l st.2.2)) (IntKind.i64.wrap (n + l.length)) ((hl.next st.2.2).sub fun n hn => Inst.sortN_mem.1 hn) k1 (good_few hx hg st.2.2) hpf f (Inst.sortN_mem.2 hf) w e (by rw [q1]; exact g2) c3
        exact ⟨i1, by omega⟩
      · have hs : (x.look st l).2.1 = true := by
          unfold Inst.look at c3 ⊢
          split
          · rfl
          · rename_i hh
            rw [if_neg hh] at c3
            omega
        obtain ⟨j1, j2⟩ := naGo_keep x W d (x.look st l) (x.sortN (x.next l st.2.2)) (IntKind.i64.wrap (n + l.length)) k1 hs
        exact ⟨j1, by omega⟩
theorem narrow_has {x : Inst} {p : Nat} (hx : x.Fit p) (hm : x.may = true) (hp3 : p ≤ 3) {up wi : Int} (hw : 132 ≤ wi) {w : List Int} {c : Int} (hway : x.way w x.rootS c) (hlt : c < up) :
    (x.narrow x.rootN wi up).2.1 = true ∧ (x.narrow x.rootN wi up).1.cost ≤ c := by
  have hlen := hx.len
  have hz : x.rootN.cost = 0 := rfl
  have h1 := meas_root hx hm
  have h2 := pot_root p (by omega) (x.meas x.rootS + 1) (by omega)
  have h3 : keyM x.rootS = 0 := by rw [Inst.rootS, if_pos hm]; simp [keyM, State.zero]
  have h4 : x.rootS.yard = true := by rw [Inst.rootS, if_pos hm]; simp [State.yard, State.zero]
  have h5 : potL p (x.meas x.rootN.s + 1) [x.rootN] ≤ 132 := by
    simp only [potL, potS]
    show pot p (x.meas x.rootS + 1) (keyM x.rootS) x.rootS.yard + 0 ≤ 132
    rw [h3, h4]
    omega
  have := naGo_has hx hp3 (by omega) (W := widthN wi) (by unfold widthN; split <;> omega) (x.meas x.rootN.s + 1) (Node.zero, false, up) [x.rootN] 0 (Lev.root (rootS_ok x) (pos_root hm) (seen_root x) (by rw [hz]; omega)) (fun h => by cases h) (fun n hn => by rw [List.mem_singleton.1 hn]; exact good_root hx hm) h5 x.rootN List.mem_cons_self w c hway (by rw [hz]; simp only; omega)
  rw [hz, Int.zero_add] at this
  exact this
end Go.Proofs.Ytlhmchdfmjfmgaa

/- A good plan, by looking at few: the document's. -/
set_option maxRecDepth 4000
set_option maxHeartbeats 1000000
namespace Go.Proofs.Ytlhmchdfmjfmgaa
open Go Go.Proofs.Ytlhmchdfmjfmgaa.R
theorem rnbest_pure (x : Inst) (n : Node) (width up : Int) (hl : x.stops.length < 2 ^ 31) (hw : width ≤ 3000) (ho : n.s.ok) (hp : n.path.length < 2 ^ 29) : Pure P 27 [x.a, n.a, .i width, .i up] (naRes (x.narrow n width up)) := by
  generalize hR : x.narrow n width up = R
  refine pure_of Try.func27 rfl rfl (by simp [Try.f27]) (by simp [bnd, bnd.bndL, Inst.a, Node.a, Node.cs]) (by simp [bnd, bnd.bndL, naRes, Node.a, Node.cs]) fun B hB hnx => ?_
  simp only [Try.f27] at hB ⊢
  have hlev := Level.root x n ho
  have hmeas := meas_le x n.s
  rw [Inst.narrow] at hR
  generalize hd : x.meas n.s + 1 = d0 at *
  generalize hK : n.path.length + x.meas n.s + 1 = K at *
  have hW1 : max width 1 = (widthN width : Nat) := by unfold widthN; split <;> omega
  have hW2 : widthN width ≤ 3000 := by unfold widthN; split <;> omega
  generalize widthN width = W at *
  refine K_run hB 9 ?_
  simp [go_sem, Inst.a, Node.a, Node.cs]
  have hW3 : width < 1 → W = 1 := fun h => by omega
  have hW4 : ¬ width < 1 → width = W := fun h => by omega
  refine K_cut (α := Unit) (fun _ => True) (fun _ => ⟨sl [(2, .i W), (3, .i up), (4, .ptr 0 0), (5, .ptr 1 0), (8, .ptr 2 0)], oput (oput (oput noObj 0 (.box x.cs)) 1 (.box n.cs)) 2 (.box [.i 0, .i 0, .i 0, .i 0, .i 0, .u 0, .u 0, .u 0, .i 0, .fsl []]), 3⟩) ?_ fun _ _ => ?_
  · by_cases c0 : width < 1
    · have := hW3 c0
      refine K_run hB 100 ?_
      simp [go_sem, c0]
      exact Imp.slots (by simp [go_sem, this]) rfl rfl
    · have := hW4 c0
      refine K_run hB 100 ?_
      simp [go_sem, c0]
      exact Imp.slots (by simp [go_sem]; exact this) rfl rfl
  refine K_run hB 100 ?_
  simp [go_sem, Node.cs]
  refine K_less ((Imp.looseB (b := 2) (cs := [.i 0, .i 0, .i 0, .i 0, .i 0, .u 0, .u 0, .u 0, .i 0, .fsl []]) (by simp [oput])).trans ((Imp.looseB (b := 3) (cs := [.i 0, .i 0, .i 0, .i 0, .i 0, .u 0, .u 0, .u 0, .i 0, .fsl []]) (by simp [oput])).trans Imp.loose)) ?_
  refine K_loopP (α := Nat × (Node × Bool × Int) × List Node × Int × (Nat → AObj) × Nat) (fun (d, st, l, n, σ, nx) => Level x l d K ∧ x.naGo W d st l n = R ∧ l.length ≤ 3000 ∧ σ 0 = .box x.cs ∧ σ 2 = .box Node.zero.cs ∧ σ 3 = .box st.1.cs ∧ 3 < nx)
    (fun (d, st, l, n, σ, nx) => ⟨sl [(2, .i W), (3, .i st.2.2), (4, .ptr 0 0), (8, .ptr 2 0), (11, .ptr 3 0), (12, .b st.2.1), (13, .i n), (14, .t (.sl (nodesT l)))], σ, nx⟩) (fun a => a.1) (d0, (Node.zero, false, up), [n], 0, _, 4) ?_ (Imp.slots (by simp [go_sem, loosen, nodesT, Node.t]) rfl rfl) ?_
  · exact ⟨hlev, hR, by simp, by simp [oput, Inst.cs], by simp [oput, Node.zero, State.zero, Node.cs, ints, loosen], by simp [oput, Node.zero, State.zero, Node.cs, ints, loosen], by omega⟩
  rintro ⟨d, st, l, n, σ, nx⟩ ⟨g1, g2, g0, g3, g4, g5, g6⟩
  have hil : (nodesT l).length = l.length := List.length_map _
  have hgo : x.naGo W d st l n = match d with
    | 0 => (st.1, st.2.1, n)
    | d + 1 => if l.length = 0 then (st.1, st.2.1, n) else x.naGo W d (x.look st l) (x.few W l st.2.2) (IntKind.i64.wrap (n + l.length)) := by cases d <;> rfl
  by_cases c1 : l.length = 0
  · have hr : R = (st.1, st.2.1, n) := by
      rw [← g2, hgo]
      cases d with
      | zero => rfl
      | succ d => simp only; rw [if_pos c1]
    subst hr
    refine K_run hB 100 ?_
    simp [go_sem, hil, c1, g4, g5, Node.cs]
    rfl
  cases d with
  | zero => exact absurd (by rw [g1.empty]; rfl) c1
  | succ d =>
    simp only at hgo
    rw [if_neg c1] at hgo
    have c4 : 0 < l.length := by omega
    rw [hgo] at g2
    have hx := rexpand_pure x l st.2.2 hl (by omega) (fun m h => ⟨g1.ok m h, by have := g1.path m h; omega⟩) (fun m h => by have := g1.path m h; omega)
    have q1 := next_len x l st.2.2
    have q2 : ∀ m ∈ x.next l st.2.2, m.Fine := by
      intro m hm
      obtain ⟨k, h, j, _, rfl, _⟩ := next_mem hm
      refine ⟨move_ok x j (g1.ok k h), ?_⟩
      have := g1.path k h
      show (k.path ++ [j]).length < 2 ^ 31
      rw [List.length_append]
      simp only [List.length_cons, List.length_nil]
      omega
    have hf := rsorted_pure x (x.next l st.2.2) hl (by omega) fun m h => (q2 m h).ok
    have hlv := g1.few W st.2.2
    have hfl := few_len x W l st.2.2
    rw [Inst.few] at hlv hfl g2
    have hsl := x.sortN_len (x.next l st.2.2)
    have hlk : x.look st l = if (x.bests l).2 = true ∧ (x.bests l).1.cost < st.2.2 then ((x.bests l).1, true, (x.bests l).1.cost) else st := rfl
    generalize x.look st l = st' at *
    generalize x.next l st.2.2 = M at *
    generalize x.sortN M = S at *
    generalize x.bests l = Rb at *
    obtain ⟨b, is⟩ := Rb
    simp only at hlk
    have hSl : (nodesT S).length = S.length := List.length_map _
    have hS1 := nodesT_len S
    have hSt : (nodesT S).take W = nodesT (S.take W) := by rw [nodesT, nodesT, List.map_take]
    refine K_run hB 100 ?_
    simp [go_sem, hil, c4, g3, Inst.cs]
    refine K_call rfl rfl rfl (args := [x.a, .t (.sl (nodesT l)), .i st.2.2]) (f := 52) (by simp [go_sem, Inst.a]) (by simp [go_sem, hB]) ((hx).spec _ _) ?_
    have m0 : ¬ 0 = nx := by omega
    have m2 : ¬ 2 = nx := by omega
    have m3 : ¬ 3 = nx := by omega
    have m4 : ¬ nx = 3 := by omega
    cases is with
    | false =>
      rw [if_neg (by simp)] at hlk
      subst hlk
      refine K_run hB 100 ?_
      simp [go_sem, expRes, Node.a, Node.cs, g3, m0, Inst.cs]
      refine K_call rfl rfl rfl (args := [x.a, .t (.sl (nodesT M))]) (f := 21) (by simp [go_sem, Inst.a]) (by simp [go_sem, hB]) ((hf).spec _ _) ?_
      refine K_run hB 100 ?_
      simp [go_sem, hSl]
      refine fork_dec (fun hk => ?_) (fun hk => ?_)
      · have hk' : (W : Int) ≤ S.length := by omega
        simp [go_sem, hSl, if_pos hS1, hSt, hk', show W ≤ S.length by omega]
        refine Next.mk (d, st', S.take W, IntKind.i64.wrap (n + l.length), _, nx + 1) ?_ (Imp.slots (by simp [go_sem]) rfl rfl) (by simp only; omega)
        exact ⟨hlv, g2, by simp only; omega, by simp [oput, g3, m0, Inst.cs], by simp [oput, g4, m2, Node.cs], by simp [oput, g5, m3, Node.cs], by simp only; omega⟩
      · have hk' : S.take W = S := List.take_of_length_le (by omega)
        rw [hk'] at hlv hfl g2
        simp [go_sem]
        refine Next.mk (d, st', S, IntKind.i64.wrap (n + l.length), _, nx + 1) ?_ (Imp.slots (by simp [go_sem]) rfl rfl) (by simp only; omega)
        exact ⟨hlv, g2, by simp only; omega, by simp [oput, g3, m0, Inst.cs], by simp [oput, g4, m2, Node.cs], by simp [oput, g5, m3, Node.cs], by simp only; omega⟩
    | true =>
      by_cases c5 : b.cost < st.2.2
      · rw [if_pos ⟨rfl, c5⟩] at hlk
        subst hlk
        refine K_run hB 100 ?_
        simp [go_sem, expRes, Node.a, Node.cs, c5, m3, m4, m0, g3, g5, Inst.cs]
        refine K_call rfl rfl rfl (args := [x.a, .t (.sl (nodesT M))]) (f := 21) (by simp [go_sem, Inst.a]) (by simp [go_sem, hB]) ((hf).spec _ _) ?_
        refine K_run hB 100 ?_
        simp [go_sem, hSl]
        refine fork_dec (fun hk => ?_) (fun hk => ?_)
        · have hk' : (W : Int) ≤ S.length := by omega
          simp [go_sem, hSl, if_pos hS1, hSt, hk', show W ≤ S.length by omega]
          refine Next.mk (d, (b, true, b.cost), S.take W, IntKind.i64.wrap (n + l.length), _, nx + 1) ?_ (Imp.slots (by simp [go_sem]) rfl rfl) (by simp only; omega)
          exact ⟨hlv, g2, by simp only; omega, by simp [oput, g3, m0, Inst.cs], by simp [oput, g4, m2, Node.cs], by simp [oput, g5, m3, Node.cs], by simp only; omega⟩
        · have hk' : S.take W = S := List.take_of_length_le (by omega)
          rw [hk'] at hlv hfl g2
          simp [go_sem]
          refine Next.mk (d, (b, true, b.cost), S, IntKind.i64.wrap (n + l.length), _, nx + 1) ?_ (Imp.slots (by simp [go_sem]) rfl rfl) (by simp only; omega)
          exact ⟨hlv, g2, by simp only; omega, by simp [oput, g3, m0, Inst.cs], by simp [oput, g4, m2, Node.cs], by simp [oput, g5, m3, Node.cs], by simp only; omega⟩
      · rw [if_neg (fun h => c5 h.2)] at hlk
        subst hlk
        refine K_run hB 100 ?_
        simp [go_sem, expRes, Node.a, Node.cs, c5, g3, m0, Inst.cs]
        refine K_call rfl rfl rfl (args := [x.a, .t (.sl (nodesT M))]) (f := 21) (by simp [go_sem, Inst.a]) (by simp [go_sem, hB]) ((hf).spec _ _) ?_
        refine K_run hB 100 ?_
        simp [go_sem, hSl]
        refine fork_dec (fun hk => ?_) (fun hk => ?_)
        · have hk' : (W : Int) ≤ S.length := by omega
          simp [go_sem, hSl, if_pos hS1, hSt, hk', show W ≤ S.length by omega]
          refine Next.mk (d, st', S.take W, IntKind.i64.wrap (n + l.length), _, nx + 1) ?_ (Imp.slots (by simp [go_sem]) rfl rfl) (by simp only; omega)
          exact ⟨hlv, g2, by simp only; omega, by simp [oput, g3, m0, Inst.cs], by simp [oput, g4, m2, Node.cs], by simp [oput, g5, m3, Node.cs], by simp only; omega⟩
        · have hk' : S.take W = S := List.take_of_length_le (by omega)
          rw [hk'] at hlv hfl g2
          simp [go_sem]
          refine Next.mk (d, st', S, IntKind.i64.wrap (n + l.length), _, nx + 1) ?_ (Imp.slots (by simp [go_sem]) rfl rfl) (by simp only; omega)
          exact ⟨hlv, g2, by simp only; omega, by simp [oput, g3, m0, Inst.cs], by simp [oput, g4, m2, Node.cs], by simp [oput, g5, m3, Node.cs], by simp only; omega⟩
end Go.Proofs.Ytlhmchdfmjfmgaa

/- Looking at few: the laws are awake; the best way is what the document says. -/
set_option maxRecDepth 4000
namespace Go.Proofs.Ytlhmchdfmjfmgaa
open Go Go.Proofs.Ytlhmchdfmjfmgaa.R
theorem small_narrow : (small.narrow small.rootN 1 1152921504606846976).2 = (true, 3) ∧ (small.narrow small.rootN 1 1152921504606846976).1.cost = 12 ∧ (small.narrow small.rootN 1 1152921504606846976).1.path = [1, 2] := by decide +kernel
theorem awake16_pure : Pure P 25 [] (.b true) := by
  refine pure_of Try.func25 rfl rfl (by simp [Try.f25]) (by simp [bnd, bnd.bndL]) (by simp [bnd, bnd.bndL]) fun B hB hnx => ?_
  simp only [Try.f25] at hB ⊢
  refine K_run hB 100 ?_
  simp [go_sem]
  refine K_call rfl rfl rfl (args := []) (f := 36) (by simp [go_sem]) (by simp [go_sem, hB]) ((small_pure).spec _ _) ?_
  have hp := parse_pure smallB (by decide) (by decide)
  rw [small_parse] at hp
  refine K_run hB 100 ?_
  simp [go_sem, small_bytes]
  refine K_call rfl rfl rfl (args := [.t (.sl (byt smallB))]) (f := 35) (by simp [go_sem]) (by simp [go_sem, hB]) ((hp).spec _ _) ?_
  have hl : small.stops.length < 2 ^ 31 := by decide
  have hr := root_pureS small (by omega)
  have hx := nbest_pure small small.rootN 1 1152921504606846976 hl (by decide) (rootS_ok small) (by simp [Inst.rootN])
  obtain ⟨h1, h2, h3⟩ := small_narrow
  rw [Inst.rootN] at *
  generalize small.narrow ⟨small.rootS, 0, []⟩ 1 1152921504606846976 = R at *
  obtain ⟨m, is, n⟩ := R
  simp only [Prod.mk.injEq] at h1
  obtain ⟨rfl, rfl⟩ := h1
  simp only at h2 h3
  generalize small.rootS = r at *
  generalize small = x at *
  refine K_run hB 100 ?_
  simp [go_sem, Inst.a]
  refine K_drawnF [9, 10] [0, 1, 2, 3, 4, 5, 6, 7, 8] rfl (by rw [hB]; kernel_rfl) (by kernel_rfl) fun ht hf' => ?_
  refine K_run hB 100 ?_
  simp [go_sem, ht, hf']
  refine K_dCallP rfl rfl rfl (args := [x.a]) (f := 38) (by simp [go_sem, Inst.a]) (hr) ?_
  refine K_run hB 100 ?_
  simp [go_sem, ht, hf', State.a, State.cs]
  refine K_dCallP rfl rfl rfl (args := [x.a, .agg [.i r.spot, .i r.car, .i r.time, .i r.load, .i r.first, .u r.must, .u r.can, .u r.on, .i 0, .fsl []], .i 1, .i 1152921504606846976]) (f := 26) (by simp [go_sem, Inst.a]) (Pure.loose hx (by simp [bnd, bnd.bndL, Inst.a])) ?_
  refine K_run hB 100 ?_
  simp [go_sem, ht, hf', naRes, Node.a, Node.cs, h2, h3, ints]
theorem lnbest_pure (x : Inst) (n : Node) (width up : Int) (hl : x.stops.length < 2 ^ 63) (ho : n.s.ok) (hp : n.path.length < 2 ^ 63) : Pure P 7 [x.a, n.a, .i width, .i up] (.b true) := by
  refine pure_of Try.func7 rfl rfl (by simp [Try.f7]) (by simp [bnd, bnd.bndL, Inst.a, Node.a, Node.cs]) (by simp [bnd, bnd.bndL]) fun B hB hnx => ?_
  simp only [Try.f7] at hB ⊢
  have hpl : (ints n.path).length = n.path.length := List.length_map _
  refine K_run hB 100 ?_
  simp [go_sem, Inst.a, Node.a, Node.cs]
  refine K_call rfl rfl rfl (args := []) (f := 25) (by simp [go_sem]) (by simp [go_sem, hB]) ((awake16_pure).spec _ _) ?_
  by_cases c1 : 9 < (x.stops.length : Int)
  · refine K_run hB 100 ?_
    simp [go_sem, c1]
  by_cases c2 : 40 < width
  · refine K_run hB 100 ?_
    simp [go_sem, c1, c2]
  by_cases c3 : 100 < (n.path.length : Int)
  · refine K_run hB 100 ?_
    simp [go_sem, c1, c2, c3, hpl]
  have h1 := nbest_pure x n width up (by omega) (by omega) ho (by omega)
  have h2 := rnbest_pure x n width up (by omega) (by omega) ho (by omega)
  have hq := narrow_path x n width up ho
  generalize x.narrow n width up = A at *
  obtain ⟨m, a, i⟩ := A
  simp only at hq
  have hq2 : m.path.length < 2 ^ 63 := by omega
  have h3 := rsameN_pure [m] [m] (by simp) (by simp) (by simpa using hq2) (by simpa using hq2)
  simp only [decide_true] at h3
  refine K_run hB 100 ?_
  simp [go_sem, c1, c2, c3, hpl]
  refine K_call rfl rfl rfl (args := [x.a, n.a, .i width, .i up]) (f := 26) (by simp [go_sem, Inst.a, Node.a, Node.cs]) (by simp [go_sem, hB]) ((h1).spec _ _) ?_
  refine K_run hB 100 ?_
  simp [go_sem, naRes, Node.a, Node.cs]
  refine K_call rfl rfl rfl (args := [x.a, n.a, .i width, .i up]) (f := 27) (by simp [go_sem, Inst.a, Node.a, Node.cs]) (by simp [go_sem, hB]) ((h2).spec _ _) ?_
  refine K_run hB 100 ?_
  simp [go_sem, naRes, Node.a, Node.cs]
  refine K_call rfl rfl rfl (args := [.fsl (nodesT [m]), .fsl (nodesT [m])]) (f := 19) (by simp [go_sem, nodesT, Node.t]) (by simp [go_sem, hB]) ((Pure.loose h3 (by simp [bnd])).spec _ _) ?_
  refine K_run hB 100 ?_
  simp [go_sem]
end Go.Proofs.Ytlhmchdfmjfmgaa

/- When a car is where: what is wrong with a stop, and how it drives. -/
set_option maxRecDepth 4000
namespace Go.Proofs.Ytlhmchdfmjfmgaa
open Go Go.Proofs.Ytlhmchdfmjfmgaa.R
/-- A car on its way. -/
structure Car where
  spot : Int
  now : Int
  gone : Int
  load : Int
  seen : Nat
  on : Nat
  times : List (List T)
  loads : List Int
def carC (x : Inst) (c : Car) (qt ql : Nat) : List AV := [.t (.i x.pairs), .t (.i x.cars), .t (.i x.room), .t (.sl (x.stops.map Stop.t)), .i c.spot, .i c.now, .i c.gone, .i c.load, .u c.seen, .u c.on, .ref qt, .ref ql]
/-- What holds of a car that has seen so many stops. -/
structure Car.Fit (c : Car) (p k : Nat) : Prop where
  spot : 0 ≤ c.spot ∧ c.spot ≤ 2 * p
  now : 0 ≤ c.now ∧ c.now ≤ 1049576
  gone : 0 ≤ c.gone ∧ c.gone ≤ 14143 * k
  load : -1000 * (k : Int) ≤ c.load ∧ c.load ≤ 1000
  seen : c.seen < 2 ^ 64
  on : c.on < 2 ^ 64
  times : c.times.length = k
  loads : c.loads.length = k
  three : ∀ y ∈ c.times, y.length = 3
  few : k + ((List.range (2 * p + 1)).filter fun j : Nat => decide (1 ≤ j) && !hasB c.seen (j : Int)).length ≤ 2 * p
theorem Car.Fit.le {c : Car} {p k : Nat} (h : c.Fit p k) : k ≤ 2 * p := by have := h.few; omega
def Inst.visitsE (x : Inst) (c : Car) (i : Int) : Int :=
  if i < 1 ∨ 2 * x.pairs < i then 1 else if hasB c.seen i = true then 5 else if x.pairs < i ∧ hasB c.seen (i - x.pairs) = false then 8 else if x.room < c.load + (x.stop i).demand then 6 else 0
theorem oput_back (σ : Nat → AObj) (q : Nat) : oput σ q (σ q) = σ := by funext i; by_cases h : i = q <;> simp [oput, h]
theorem visits_spec (x : Inst) (c : Car) (i : Int) {p k : Nat} (hx : x.Fit p) (hc : c.Fit p k) {σ : Nat → AObj} {nx b qt ql : Nat} (hb : b < nx) (hσb : σ b = .box (carC x c qt ql)) (hqt : qt < nx) (hql : ql < nx) :
    CallSpec P 157 [.ptr b 0, .i i] σ nx (.i (x.visitsE c i)) σ nx := by
  generalize hR : x.visitsE c i = R
  have h : CallSpec P 157 [.ptr b 0, .i i] σ nx (.i R) (oput σ b (σ b)) nx := by
    refine spec_down Try.func157 rfl rfl (by simp [Try.f157]) hb (by rw [hσb]; simp [bndO, bnd, bnd.bndL, carC, hqt, hql]) (by simp [bnd]) fun hkn B hB hnx hσ => ?_
    simp only [Try.f157] at hB ⊢
    rw [Inst.visitsE] at hR
    have hp := hx.pairs
    have hfew := hx.few
    have w1 := w64 (2 * x.pairs) (by omega)
    by_cases c1 : i < 1
    · rw [if_pos (.inl c1)] at hR
      subst hR
      refine K_run hB 100 ?_
      simp [go_sem, hσb, carC, c1, w1]
    by_cases c2 : 2 * x.pairs < i
    · rw [if_pos (.inr c2)] at hR
      subst hR
      refine K_run hB 100 ?_
      simp [go_sem, hσb, carC, c1, c2, w1]
    rw [if_neg (by omega)] at hR
    have hh1 := has_pure c.seen i hc.seen
    refine K_run hB 100 ?_
    simp [go_sem, hσb, carC, c1, c2, w1]
    refine K_call rfl rfl rfl (args := [.u c.seen, .i i]) (f := 117) (by simp [go_sem]) (by simp [go_sem, hB]) ((hh1).spec _ _) ?_
    by_cases c3 : hasB c.seen i = true
    · rw [if_pos c3] at hR
      subst hR
      refine K_run hB 100 ?_
      simp [go_sem, c3, hσb, carC]
    rw [if_neg c3] at hR
    have c3' : hasB c.seen i = false := by simpa using c3
    have w2 := w64 (i - x.pairs) (by omega)
    have hh2 := has_pure c.seen (i - x.pairs) hc.seen
    have h0 : 0 ≤ i := by omega
    have g1 := hx.lt (j := i) (by omega)
    have g3 := hx.get (j := i) (by omega)
    have hd := (hx.at (j := i) (by omega) (by omega)).demand
    have hload := hc.load
    have hkle := hc.le
    have w3 := w64 (c.load + (x.stop i).demand) (by omega)
    generalize x.stop i = a at *
    by_cases c4 : x.pairs < i
    · refine K_run hB 100 ?_
      simp [go_sem, c3', c4, hσb, carC, w2]
      refine K_call rfl rfl rfl (args := [.u c.seen, .i (i - x.pairs)]) (f := 117) (by simp [go_sem]) (by simp [go_sem, hB]) ((hh2).spec _ _) ?_
      by_cases c5 : hasB c.seen (i - x.pairs) = true
      · rw [if_neg (by simp [c5])] at hR
        refine K_run hB 100 ?_
        simp [go_sem, c5]
        refine K_drawn [] rfl (by rw [hB]; kernel_rfl) ?_
        by_cases c6 : x.room < c.load + a.demand
        · rw [if_pos c6] at hR
          subst hR
          refine K_run hB 100 ?_
          simp [go_sem, hσb, carC, h0, g1, g3, Stop.t, w3, c6]
        · rw [if_neg c6] at hR
          subst hR
          refine K_run hB 100 ?_
          simp [go_sem, hσb, carC, h0, g1, g3, Stop.t, w3, c6]
      · have c5' : hasB c.seen (i - x.pairs) = false := by simpa using c5
        rw [if_pos ⟨c4, c5'⟩] at hR
        subst hR
        refine K_run hB 100 ?_
        simp [go_sem, c5', hσb, carC]
    · rw [if_neg (by simp [c4])] at hR
      refine K_run hB 100 ?_
      simp [go_sem, c3', c4, hσb, carC]
      refine K_drawn [] rfl (by rw [hB]; kernel_rfl) ?_
      by_cases c6 : x.room < c.load + a.demand
      · rw [if_pos c6] at hR
        subst hR
        refine K_run hB 100 ?_
        simp [go_sem, hσb, carC, h0, g1, g3, Stop.t, w3, c6]
      · rw [if_neg c6] at hR
        subst hR
        refine K_run hB 100 ?_
        simp [go_sem, hσb, carC, h0, g1, g3, Stop.t, w3, c6]
  rw [oput_back] at h
  exact h
def Inst.drive (x : Inst) (c : Car) (i : Int) : Car := { c with spot := i, gone := c.gone + far (x.stop c.spot) (x.stop i) }
theorem drive_spec (x : Inst) (c : Car) (i : Int) {p k : Nat} (hx : x.Fit p) (hc : c.Fit p k) (h1 : 0 ≤ i) (h2 : i ≤ 2 * p) {σ : Nat → AObj} {nx b qt ql : Nat} (hb : b < nx) (hσb : σ b = .box (carC x c qt ql)) (hqt : qt < nx) (hql : ql < nx) :
    CallSpec P 158 [.ptr b 0, .i i] σ nx (.i (c.now + far (x.stop c.spot) (x.stop i))) (oput σ b (.box (carC x (x.drive c i) qt ql))) nx := by
  refine spec_down Try.func158 rfl rfl (by simp [Try.f158]) hb (by simp [bndO, bnd, bnd.bndL, carC, hqt, hql]) (by simp [bnd]) fun hkn B hB hnx hσ => ?_
  simp only [Try.f158] at hB ⊢
  have f1 := hc.spot
  have g1 := hx.lt (j := c.spot) (by omega)
  have g2 := hx.get (j := c.spot) (by omega)
  have g3 := hx.lt (j := i) (by omega)
  have g4 := hx.get (j := i) (by omega)
  have hf := far_pure (x.stop c.spot) (x.stop i)
  have hle := far_le (x.stop c.spot) (x.stop i)
  have hn := hc.now
  have hg := hc.gone
  have hkle := hc.le
  have hfew := hx.few
  rw [Inst.drive]
  generalize x.stop i = z at *
  generalize x.stop c.spot = y at *
  have w1 := w64 (c.gone + far y z) (by omega)
  have w2 := w64 (c.now + far y z) (by omega)
  refine K_run hB 100 ?_
  simp [go_sem]
  refine K_drawn [] rfl (by rw [hB]; kernel_rfl) ?_
  refine K_run hB 100 ?_
  simp [go_sem, hσb, carC, f1.1, g1, g2, h1, g3, g4, Stop.t]
  refine K_dCallP rfl rfl rfl (args := [.agg (y.t.map .t), .agg (z.t.map .t)]) (f := 141) (by simp [go_sem, Stop.t]) (hf) ?_
  refine K_run hB 100 ?_
  simp [go_sem, hσb, carC, w1, w2]
  exact fun j h1 h2 => by simp [h2]
end Go.Proofs.Ytlhmchdfmjfmgaa

/- When a car is where: it visits a stop. -/
set_option maxRecDepth 4000
namespace Go.Proofs.Ytlhmchdfmjfmgaa
open Go Go.Proofs.Ytlhmchdfmjfmgaa.R
structure Rows3 (c : Car) (σ : Nat → AObj) (nx b qt ql : Nat) : Prop where
  tm : σ qt = .arr 3 c.times
  ld : σ ql = .arr 1 (ints c.loads)
  ltT : qt < nx
  ltL : ql < nx
  neT : qt ≠ b
  neL : ql ≠ b
  ne : qt ≠ ql
def Inst.visitC (x : Inst) (c : Car) (i : Int) : Car × Int :=
  if x.visitsE c i ≠ 0 then (c, x.visitsE c i)
  else if (x.stop i).due < max (c.now + far (x.stop c.spot) (x.stop i)) (x.stop i).ready then (x.drive c i, 7)
  else ({ spot := i, now := max (c.now + far (x.stop c.spot) (x.stop i)) (x.stop i).ready + (x.stop i).service, gone := c.gone + far (x.stop c.spot) (x.stop i), load := c.load + (x.stop i).demand, seen := withN c.seen i,
          on := if i ≤ x.pairs then withN c.on i else withoutN c.on (i - x.pairs), times := c.times ++ [[.i (c.now + far (x.stop c.spot) (x.stop i)), .i (max (c.now + far (x.stop c.spot) (x.stop i)) (x.stop i).ready), .i (max (c.now + far (x.stop c.spot) (x.stop i)) (x.stop i).ready + (x.stop i).service)]], loads := c.loads ++ [c.load + (x.stop i).demand] }, 0)
theorem visits_ok {x : Inst} {c : Car} {i : Int} (h : x.visitsE c i = 0) : 1 ≤ i ∧ i ≤ 2 * x.pairs ∧ hasB c.seen i = false ∧ (x.pairs < i → hasB c.seen (i - x.pairs) = true) ∧ c.load + (x.stop i).demand ≤ x.room := by
  rw [Inst.visitsE] at h
  split at h
  · cases h
  split at h
  · cases h
  split at h
  · cases h
  split at h
  · cases h
  rename_i h1 h2 h3 h4
  refine ⟨by omega, by omega, by simpa using h2, fun h => ?_, by omega⟩
  cases hq : hasB c.seen (i - x.pairs) with
  | true => rfl
  | false => exact absurd ⟨h, hq⟩ h3
/-- What a car that visits leaves behind. -/
def VisitQ (x : Inst) (c' : Car) (e : Int) (σ : Nat → AObj) (nx b qt ql : Nat) (r : AV) (σ' : Nat → AObj) (nx' : Nat) : Prop :=
  r = .i e ∧ nx ≤ nx' ∧ ∃ qt' ql', σ' b = .box (carC x c' qt' ql') ∧ Rows3 c' σ' nx' b qt' ql' ∧ (∀ j, j < nx → j ≠ b → j ≠ qt → j ≠ ql → σ' j = σ j) ∧ (qt' = qt ∨ nx ≤ qt') ∧ (ql' = ql ∨ nx ≤ ql')
theorem visit_spec (x : Inst) (c : Car) (i : Int) {p k : Nat} (hx : x.Fit p) (hc : c.Fit p k) {σ : Nat → AObj} {nx b qt ql : Nat} (hb : b < nx) (hσb : σ b = .box (carC x c qt ql)) (hr3 : Rows3 c σ nx b qt ql) :
    CallQ P 131 [.ptr b 0, .i i] σ nx (VisitQ x (x.visitC c i).1 (x.visitC c i).2 σ nx b qt ql) := by
  generalize hR : x.visitC c i = R
  refine spec_of Try.func131 rfl rfl (by simp [Try.f131]) fun B hB hnx hσ => ?_
  simp only [Try.f131] at hB ⊢
  have hvs := visits_spec x c i hx hc hb hσb hr3.ltT hr3.ltL
  rw [Inst.visitC] at hR
  have hok := visits_ok (x := x) (c := c) (i := i)
  generalize x.visitsE c i = e at *
  refine K_run hB 100 ?_
  simp [go_sem]
  refine K_call rfl rfl rfl (args := [.ptr b 0, .i i]) (f := 157) (by simp [go_sem]) (by simp [go_sem, hB]) hvs ?_
  by_cases c0 : e = 0
  rotate_left
  · rw [if_pos c0] at hR
    subst hR
    refine K_run hB 100 ?_
    simp [go_sem, c0]
    exact ⟨rfl, Nat.le_refl _, qt, ql, hσb, hr3, fun j _ _ _ _ => rfl, .inl rfl, .inl rfl⟩
  rw [if_neg (by simp [c0])] at hR
  obtain ⟨k1, k2, k3, k4, k5⟩ := hok c0
  have hp := hx.pairs
  have hfew := hx.few
  have g3 := hx.lt (j := i) (by omega)
  have g4 := hx.get (j := i) (by omega)
  have hds : ∀ {σ : Nat → AObj} {nx : Nat}, b < nx → σ b = .box (carC x c qt ql) → qt < nx → ql < nx → _ := fun {σ nx} => drive_spec x c i hx hc (by omega) (by omega) (σ := σ) (nx := nx) (b := b) (qt := qt) (ql := ql)
  have hfi := hx.at (j := i) (by omega) (by omega)
  have hfar := far_le (x.stop c.spot) (x.stop i)
  generalize hzz : x.stop i = z at *
  generalize hdd : far (x.stop c.spot) z = d at *
  have hn := hc.now
  have hg := hc.gone
  have hkle := hc.le
  have hne : ¬ b = nx := by omega
  have hne2 : ¬ nx = b := by omega
  have h0 : 0 ≤ i := by omega
  refine K_run hB 100 ?_
  simp [go_sem, c0, hσb, carC, h0, g3, g4, Stop.t]
  refine K_call rfl rfl rfl (args := [.ptr b 0, .i i]) (f := 158) (by simp [go_sem]) (by simp [go_sem, hB]) (hds (by simp only; omega) (by simp [oput, hne, hσb]) (by have := hr3.ltT; simp only; omega) (by have := hr3.ltL; simp only; omega)) ?_
  have hcd : x.drive c i = { c with spot := i, gone := c.gone + d } := by rw [Inst.drive, hzz, hdd]
  have hdc : carC x (x.drive c i) qt ql = [.t (.i x.pairs), .t (.i x.cars), .t (.i x.room), .t (.sl (x.stops.map Stop.t)), .i i, .i c.now, .i (c.gone + d), .i c.load, .u c.seen, .u c.on, .ref qt, .ref ql] := by rw [hcd]; rfl
  have f1 := hfi.ready
  have f2 := hfi.service
  have f3 := hfi.due
  have f4 := hfi.demand
  have f5 := hc.load
  generalize hbe : max (c.now + d) z.ready = be at *
  have w1 := w64 (be + z.service) (by omega)
  have w2 := w64 (c.load + z.demand) (by omega)
  by_cases c1 : z.due < be
  · rw [if_pos c1] at hR
    subst hR
    refine K_run hB 100 ?_
    simp [go_sem, hne, hne2, hbe, c1]
    rw [hdc]
    exact ⟨by omega, rfl, by omega, qt, ql, by simp [oput, hne, show ¬ b = nx + 1 by omega, hcd, carC], ⟨by simp [oput, show ¬ qt = nx by have := hr3.ltT; omega, show ¬ qt = nx + 1 by have := hr3.ltT; omega, hr3.neT, hr3.tm, hcd], by simp [oput, show ¬ ql = nx by have := hr3.ltL; omega, show ¬ ql = nx + 1 by have := hr3.ltL; omega, hr3.neL, hr3.ld, hcd], by have := hr3.ltT; omega, by have := hr3.ltL; omega, hr3.neT, hr3.neL, hr3.ne⟩, fun j h1 h2 h3 h4 => by simp [oput, h2, show ¬ j = nx by omega, show ¬ j = nx + 1 by omega], .inl rfl, .inl rfl⟩
  rw [if_neg c1] at hR
  refine K_run hB 100 ?_
  simp [go_sem, hne, hne2, hbe, c1, w1, show ¬ b = nx + 1 by omega, show ¬ nx = nx + 1 by omega]
  have ht1 := hr3.ltT
  have ht2 := hr3.ltL
  have ht3 := hr3.neT
  have ht4 := hr3.neL
  have ht5 := hr3.ne
  have ht6 := hr3.tm
  have ht7 := hr3.ld
  obtain ⟨σ1, hσ1⟩ : ∃ σ1 : Nat → AObj, σ1 = oput (oput (oput σ nx (.box [.i z.x, .i z.y, .i z.demand, .i z.ready, .i z.due, .i z.service])) (nx + 1) (.box [.i (c.now + d), .i be, .i (be + z.service)])) b (.box [.t (.i x.pairs), .t (.i x.cars), .t (.i x.room), .t (.sl (x.stops.map Stop.t)), .i i, .i c.now, .i (c.gone + d), .i c.load, .u c.seen, .u c.on, .ref qt, .ref ql]) := ⟨_, rfl⟩
  have s1 : σ1 b = .box [.t (.i x.pairs), .t (.i x.cars), .t (.i x.room), .t (.sl (x.stops.map Stop.t)), .i i, .i c.now, .i (c.gone + d), .i c.load, .u c.seen, .u c.on, .ref qt, .ref ql] := by rw [hσ1]; simp [oput]
  have s2 : σ1 (nx + 1) = .box [.i (c.now + d), .i be, .i (be + z.service)] := by rw [hσ1]; simp [oput, show ¬ nx + 1 = b by omega]
  have s3 : σ1 nx = .box [.i z.x, .i z.y, .i z.demand, .i z.ready, .i z.due, .i z.service] := by rw [hσ1]; simp [oput, hne2]
  have s4 : ∀ j, j < nx → j ≠ b → σ1 j = σ j := fun j h1 h2 => by rw [hσ1]; simp [oput, h2, show ¬ j = nx by omega, show ¬ j = nx + 1 by omega]
  refine K_impC (t := ⟨sl [(0, .ptr b 0), (1, .i i), (6, .ptr nx 0), (8, .ptr (nx + 1) 0)], σ1, nx + 1 + 1⟩) (Imp.slots (by simp [go_sem]) ?_ rfl) ?_
  · rw [hσ1]
    funext j
    simp only [oput, hdc]
    by_cases e1 : j = b
    · simp [e1, hne, show ¬ b = nx + 1 by omega]
    · by_cases e2 : j = nx + 1
      · simp [e2, show ¬ nx + 1 = b by omega]
      · by_cases e3 : j = nx <;> simp [e1, e2, e3]
  have hw1 := with_pure c.seen i hc.seen
  have hw2 := with_pure c.on i hc.on
  have hw3 := without_pure c.on (i - x.pairs)
  have w3 := w64 (i - x.pairs) (by omega)
  obtain ⟨on2, hon⟩ : ∃ on2, on2 = (if i ≤ x.pairs then withN c.on i else withoutN c.on (i - x.pairs)) := ⟨_, rfl⟩
  rw [← hon] at hR
  obtain ⟨σ2, hσ2⟩ : ∃ σ2 : Nat → AObj, σ2 = oput σ1 b (.box [.t (.i x.pairs), .t (.i x.cars), .t (.i x.room), .t (.sl (x.stops.map Stop.t)), .i i, .i (be + z.service), .i (c.gone + d), .i (c.load + z.demand), .u (withN c.seen i), .u on2, .ref qt, .ref ql]) := ⟨_, rfl⟩
  refine K_drawnF [20, 23, 26] [1, 2, 9, 10, 11] rfl (by rw [hB]; kernel_rfl) (by kernel_rfl) fun ht hf' => ?_
  refine K_run hB 100 ?_
  simp [go_sem, ht, hf', s1, s2, s3, w2]
  refine K_dCallP rfl rfl rfl (args := [.u c.seen, .i i]) (f := 159) (by simp [go_sem]) (hw1) ?_
  refine K_run hB 100 ?_
  simp [go_sem, ht, hf', s1, s2, s3, w2, hne, hne2, show ¬ nx + 1 = b by omega]
  by_cases c2 : i ≤ x.pairs
  case' pos =>
    rw [if_pos c2] at hon
    simp [go_sem, c2, s1]
    refine K_call rfl rfl rfl (args := [.u c.on, .i i]) (f := 159) (by simp [go_sem]) (by simp [go_sem, hB]) ((hw2).spec _ _) ?_
    refine K_run hB 100 ?_
    simp [go_sem, s1]
  case' neg =>
    rw [if_neg c2] at hon
    simp [go_sem, c2, s1]
    refine K_drawnT [15] rfl (by rw [hB]; kernel_rfl) (by kernel_rfl) fun ht => ?_
    refine K_run hB 100 ?_
    simp [go_sem, ht, s1, w3]
    refine K_dCallP rfl rfl rfl (args := [.u c.on, .i (i - x.pairs)]) (f := 160) (by simp [go_sem]) (hw3) ?_
    refine K_run hB 100 ?_
    simp [go_sem, ht, s1]
  all_goals
    have u1 : σ2 b = .box [.t (.i x.pairs), .t (.i x.cars), .t (.i x.room), .t (.sl (x.stops.map Stop.t)), .i i, .i (be + z.service), .i (c.gone + d), .i (c.load + z.demand), .u (withN c.seen i), .u on2, .ref qt, .ref ql] := by rw [hσ2]; simp [oput]
    have u2 : σ2 (nx + 1) = .box [.i (c.now + d), .i be, .i (be + z.service)] := by rw [hσ2]; simp [oput, s2, show ¬ nx + 1 = b by omega]
    have u3 : σ2 qt = .arr 3 c.times := by rw [hσ2]; simp [oput, ht3, s4 qt ht1 ht3, ht6]
    have u4 : σ2 ql = .arr 1 (ints c.loads) := by rw [hσ2]; simp [oput, ht4, s4 ql ht2 ht4, ht7]
    have u5 : ∀ j, j < nx → j ≠ b → σ2 j = σ j := fun j h1 h2 => by rw [hσ2]; simp [oput, h2, s4 j h1 h2]
    refine K_impC (t := ⟨sl [(0, .ptr b 0), (8, .ptr (nx + 1) 0)], σ2, nx + 1 + 1⟩) (Imp.slots (by simp [go_sem]) ?_ rfl) ?_
    · rw [hσ2]
      funext j
      by_cases e1 : j = b <;> simp [oput, e1, hon]
    refine K_drawnGM [8, 18, 21, 24] [0, 1, 9, 10, 11, 12, 13, 14, 15, 16, 17] [] [⟨12, fun t => if t = 109 then .ptr b 11 else .any, .ref ql, some (noObj, 0)⟩, ⟨16, fun t => if t = 113 then .ptr b 7 else .any, .i (c.load + z.demand), some (noObj, 0)⟩] rfl (by rw [hB]; kernel_rfl) (by kernel_rfl) (fun q hq => ?_) fun ht hf' => ?_
    · simp only [List.mem_cons, List.not_mem_nil, or_false] at hq
      rcases hq with rfl | rfl
      · exact ⟨_, rfl, by simp [go_sem], by simp [go_sem, u1]⟩
      · exact ⟨_, rfl, by simp [go_sem], by simp [go_sem, u1]⟩
    have hm1 : c.times.length + 1 ≤ mostLen := by rw [hc.times]; show k + 1 ≤ 4294967296; omega
    have hm2 : (ints c.loads).length + 1 ≤ mostLen := by rw [ints, List.length_map, hc.loads]; show k + 1 ≤ 4294967296; omega
    have hb1 : ¬ b = qt := fun e => ht3 e.symm
    have hb2 : ¬ b = ql := fun e => ht4 e.symm
    have hb3 : ¬ ql = qt := fun e => ht5 e.symm
    have hb4 : ¬ b = nx + 1 + 1 := by omega
    have hb5 : ¬ ql = nx + 1 + 1 := by omega
    refine K_run hB 12 ?_
    simp [go_sem, ht, hf', u1, u2, u3, u4, hm1, hb1, hb2, hb3, hb4, hb5]
    refine K_dMark (v := .ref ql) (by simp [go_sem]) (by simp [go_sem, u1, hb1, hb4]) ⟨rfl, ⟨12, fun t => if t = 109 then .ptr b 11 else .any, .ref ql, some (noObj, 0)⟩, by simp, by simp, rfl, rfl, fun t h => ?_⟩ ?_
    · have : t = 109 := by simpa [looksOf, Oper.looksAt, Op.operands] using h
      subst this
      simp [go_sem]
    refine K_run hB 3 ?_
    simp [go_sem]
    refine K_dMark (v := .i (c.load + z.demand)) (by simp [go_sem]) (by simp [go_sem, u1, hb1, hb4]) ⟨rfl, ⟨16, fun t => if t = 113 then .ptr b 7 else .any, .i (c.load + z.demand), some (noObj, 0)⟩, by simp, by simp, rfl, rfl, fun t h => ?_⟩ ?_
    · have : t = 113 := by simpa [looksOf, Oper.looksAt, Op.operands] using h
      subst this
      simp [go_sem]
    refine K_run hB 100 ?_
    simp [go_sem, ht, hf', u1, u2, u3, u4, hm2, hb1, hb2, hb3, hb4, hb5, show ¬ b = nx + 1 + 1 + 1 by omega]
    refine ⟨.inl (by kernel_rfl), by omega, ?_⟩
    rw [← hR]
    exact ⟨rfl, by omega, nx + 1 + 1, nx + 1 + 1 + 1, by simp [oput, hb5, show ¬ b = nx + 1 + 1 + 1 by omega, carC], ⟨by simp [oput, show ¬ nx + 1 + 1 = b by omega, show ¬ nx + 1 + 1 = ql by omega], by simp [oput, show ¬ nx + 1 + 1 + 1 = b by omega, ints], by omega, by omega, by omega, by omega, by omega⟩,
      fun j h1 h2 h3 h4 => by simp [oput, h2, h3, h4, show ¬ j = nx + 1 + 1 by omega, show ¬ j = nx + 1 + 1 + 1 by omega, u5 j h1 h2], .inr (by omega), .inr (by omega)⟩
end Go.Proofs.Ytlhmchdfmjfmgaa

/- When a car is where: a whole route. -/
set_option maxRecDepth 4000
namespace Go.Proofs.Ytlhmchdfmjfmgaa
open Go Go.Proofs.Ytlhmchdfmjfmgaa.R
theorem visitC_fit {x : Inst} {c : Car} {i : Int} {p k : Nat} (hx : x.Fit p) (hc : c.Fit p k) (h : (x.visitC c i).2 = 0) : (x.visitC c i).1.Fit p (k + 1) := by
  have hok := visits_ok (x := x) (c := c) (i := i)
  rw [Inst.visitC] at h ⊢
  by_cases c0 : x.visitsE c i = 0
  rotate_left
  · rw [if_pos c0] at h; exact absurd h c0
  rw [if_neg (by simp [c0])] at h ⊢
  by_cases c1 : (x.stop i).due < max (c.now + far (x.stop c.spot) (x.stop i)) (x.stop i).ready
  · rw [if_pos c1] at h; cases h
  rw [if_neg c1]
  obtain ⟨k1, k2, k3, k4, k5⟩ := hok c0
  have hp := hx.pairs
  have hfi := hx.at (j := i) (by omega) (by omega)
  have hfar := far_le (x.stop c.spot) (x.stop i)
  have h1 := hc.now
  have h2 := hc.gone
  have h3 := hc.load
  have h4 := hfi.ready
  have h5 := hfi.due
  have h6 := hfi.service
  have h7 := hfi.demand
  have h8 := hx.room
  have h9 := hx.few
  constructor
  · simp only; omega
  · simp only; omega
  · simp only; omega
  · simp only; omega
  · exact withN_lt hc.seen _
  · simp only
    split
    · exact withN_lt hc.on _
    · exact withoutN_lt _ _
  · simp [hc.times]
  · simp [hc.loads]
  · intro y hy
    simp only [List.mem_append, List.mem_singleton] at hy
    rcases hy with hy | rfl
    · exact hc.three y hy
    · rfl
  · have h10 := hc.few
    obtain ⟨j, rfl⟩ : ∃ j : Nat, i = j := ⟨i.toNat, by omega⟩
    have := filter_lt (p := fun j : Nat => decide (1 ≤ j) && !hasB c.seen (j : Int)) (q := fun m : Nat => decide (1 ≤ m) && !hasB (withN c.seen (j : Int)) (m : Int)) (List.range (2 * p + 1)) (a := j) (List.mem_range.2 (by omega)) (by rw [k3]; simp; omega) (by rw [has_withN (by omega)]; simp) (fun m => by
      rw [has_withN (by omega)]
      simp only [Bool.and_eq_true, Bool.not_eq_true', Bool.or_eq_false_iff]
      exact fun h => ⟨h.1, h.2.1⟩)
    simp only
    omega
def Inst.homeC (x : Inst) (c : Car) : Car × Int :=
  if c.on ≠ 0 then (c, 8) else if (x.stop 0).due < c.now + far (x.stop c.spot) (x.stop 0) then (x.drive c 0, 7) else (x.drive c 0, 0)
theorem homeC_times (x : Inst) (c : Car) : (x.homeC c).1.times = c.times ∧ (x.homeC c).1.loads = c.loads := by
  rw [Inst.homeC]
  split
  · exact ⟨rfl, rfl⟩
  · split <;> exact ⟨rfl, rfl⟩
theorem homeC_spec (x : Inst) (c : Car) {p k : Nat} (hx : x.Fit p) (hc : c.Fit p k) {σ : Nat → AObj} {nx b qt ql : Nat} (hb : b < nx) (hσb : σ b = .box (carC x c qt ql)) (hqt : qt < nx) (hql : ql < nx) :
    CallSpec P 132 [.ptr b 0] σ nx (.i (x.homeC c).2) (oput σ b (.box (carC x (x.homeC c).1 qt ql))) nx := by
  generalize hR : x.homeC c = R
  refine spec_down Try.func132 rfl rfl (by simp [Try.f132]) hb (by simp [bndO, bnd, bnd.bndL, carC, hqt, hql]) (by simp [bnd]) fun hkn B hB hnx hσ => ?_
  simp only [Try.f132] at hB ⊢
  have hds := drive_spec x c 0 hx hc (by omega) (by omega) hb hσb hqt hql
  rw [Inst.homeC] at hR
  by_cases c0 : c.on = 0
  rotate_left
  · rw [if_pos c0] at hR
    subst hR
    have c0' : ¬ (c.on : Int) = 0 := by omega
    refine K_run hB 100 ?_
    simp [go_sem, hσb, carC, c0, c0']
  rw [if_neg (by simp [c0])] at hR
  have g1 := hx.lt (j := 0) (by omega)
  have g3 := hx.get0
  have hdr : x.drive c 0 = { c with spot := 0, gone := c.gone + far (x.stop c.spot) (x.stop 0) } := rfl
  generalize x.stop 0 = z at *
  generalize far (x.stop c.spot) z = d at *
  have g4 : (0 : Int) < x.stops.length := g1
  have g5 : 0 < x.stops.length := by omega
  refine K_run hB 100 ?_
  simp [go_sem, hσb, carC, c0]
  refine K_drawnGM [1] [2, 3, 4, 5, 6, 7, 8, 9] [] [⟨6, fun t => if t = 13 then .ptr b 3 else .any, .t (.sl (x.stops.map Stop.t)), some (noObj, 0)⟩] rfl (by rw [hB]; kernel_rfl) (by kernel_rfl) (fun q hq => ?_) fun ht hf' => ?_
  · simp only [List.mem_cons, List.not_mem_nil, or_false] at hq
    subst hq
    exact ⟨_, rfl, by simp [go_sem], by simp [go_sem, hσb, carC]⟩
  refine K_run hB 1 ?_
  simp [go_sem, hσb, carC]
  refine K_dCall rfl rfl rfl (args := [.ptr b 0, .i 0]) (f := 158) (by simp [go_sem]) hds (by decide) (okPends_does (by simp [go_sem, carC])) ?_
  refine K_run hB 4 ?_
  simp [go_sem, carC]
  refine K_dMark (v := .t (.sl (x.stops.map Stop.t))) (by simp [go_sem]) (by simp [go_sem, carC]) ⟨rfl, ⟨6, fun t => if t = 13 then .ptr b 3 else .any, .t (.sl (x.stops.map Stop.t)), some (noObj, 0)⟩, by simp, by simp, rfl, rfl, fun t h => ?_⟩ ?_
  · have : t = 13 := by simpa [looksOf, Oper.looksAt, Op.operands] using h
    subst this
    simp [go_sem]
  refine K_run hB 2 ?_
  simp [go_sem, g4, g5, g3, Stop.t]
  refine K_dAny (v := .i z.due) (by simp [go_sem]) (fun σ nx => by simp [go_sem, Stop.t, g3, g5]) ?_
  by_cases c1 : z.due < c.now + d
  · rw [if_pos c1] at hR
    subst hR
    refine K_run hB 100 ?_
    simp [go_sem, c1, hdr, carC]
    exact fun j h1 h2 h3 => absurd h3 h2
  · rw [if_neg c1] at hR
    subst hR
    refine K_run hB 100 ?_
    simp [go_sem, c1, hdr, carC]
    exact fun j h1 h2 h3 => absurd h3 h2
def Inst.car0 (x : Inst) : Car := ⟨0, (x.stop 0).ready, 0, 0, 0, 0, [], []⟩
theorem car0_fit {x : Inst} {p : Nat} (hx : x.Fit p) : x.car0.Fit p 0 := by
  have h1 := (hx.at (j := 0) (by omega) (by omega)).ready
  refine ⟨by simp only [Inst.car0]; omega, by simp only [Inst.car0]; omega, by simp only [Inst.car0]; omega, by simp only [Inst.car0]; omega, by simp [Inst.car0], by simp [Inst.car0], rfl, rfl, (fun y hy => by cases hy), ?_⟩
  have := filter_lt (p := fun _ : Nat => true) (q := fun j : Nat => decide (1 ≤ j) && !hasB x.car0.seen (j : Int)) (List.range (2 * p + 1)) (a := 0) (List.mem_range.2 (by omega)) rfl (by simp) (fun _ _ => rfl)
  rw [List.filter_eq_self.2 (fun _ _ => rfl), List.length_range] at this
  omega
theorem begin_spec (x : Inst) {p : Nat} (hx : x.Fit p) (σ : Nat → AObj) (nx : Nat) :
    CallQ P 130 [x.a] σ nx fun r σ' nx' => ∃ b, r = .ptr b 0 ∧ nx ≤ b ∧ b < nx' ∧ σ' b = .box [.t (.i x.pairs), .t (.i x.cars), .t (.i x.room), .t (.sl (x.stops.map Stop.t)), .i 0, .i (x.stop 0).ready, .i 0, .i 0, .u 0, .u 0, .fsl [], .fsl []] ∧ ∀ j, j < nx → σ' j = σ j := by
  refine spec_of Try.func130 rfl rfl (by simp [Try.f130]) fun B hB hnx hσ => ?_
  simp only [Try.f130] at hB ⊢
  have g1 := hx.lt (j := 0) (by omega)
  have g3 := hx.get0
  generalize x.stop 0 = z at *
  have g4 : (0 : Int) < x.stops.length := g1
  have g5 : 0 < x.stops.length := by omega
  refine K_run hB 100 ?_
  simp [go_sem, Inst.a]
  refine K_drawnT [7] rfl (by rw [hB]; kernel_rfl) (by kernel_rfl) fun ht => ?_
  refine K_run hB 100 ?_
  simp [go_sem, ht, g4, g5, g3, Stop.t]
  exact ⟨by omega, fun j h1 => by simp [show ¬ j = nx by omega, show ¬ j = nx + 1 by omega]⟩
def Inst.runC (x : Inst) : List Int → Car → Car × Int
  | [], c => x.homeC c
  | i :: r, c => if (x.visitC c i).2 ≠ 0 then x.visitC c i else x.runC r (x.visitC c i).1
/-- What a route that is gone leaves behind. -/
def RunQ (x : Inst) (R : Car × Int) (σ : Nat → AObj) (nx : Nat) (r : AV) (σ' : Nat → AObj) (nx' : Nat) : Prop :=
  nx ≤ nx' ∧ (∀ j, j < nx → σ' j = σ j) ∧ ((R.2 ≠ 0 ∧ r = .tup [.t (.v (.pointer none)), .i R.2]) ∨ (R.2 = 0 ∧ ∃ b qt ql, r = .tup [.ptr b 0, .i 0] ∧ b < nx' ∧ σ' b = .box (carC x R.1 qt ql) ∧ Rows3 R.1 σ' nx' b qt ql))
structure RX where
  lb : Nat
  k : Nat
  c : Car
  e : Int
  b : Nat
  qt : Nat
  ql : Nat
  σ : Nat → AObj
  nx : Nat
structure RX.I (x : Inst) (p : Nat) (route : List Int) (R : Car × Int) (σ0 : Nat → AObj) (nx0 : Nat) (a : RX) : Prop where
  go : (a.lb = 1 ∧ a.k ≤ route.length ∧ a.c.Fit p a.k ∧ a.b < a.nx ∧ nx0 < a.b ∧ nx0 < a.qt ∧ nx0 < a.ql ∧ a.σ a.b = .box (carC x a.c a.qt a.ql) ∧ Rows3 a.c a.σ a.nx a.b a.qt a.ql ∧ x.runC (route.drop a.k) a.c = R) ∨ (a.lb = 0 ∧ a.e = R.2 ∧ R.2 ≠ 0)
  old : ∀ j, j ≤ nx0 → a.σ j = σ0 j
  nx : nx0 < a.nx
def RX.st (route : List Int) (a : RX) : St := ⟨sl (if a.lb = 1 then [(1, .t (.sl (ints route))), (6, .ptr a.b 0), (7, .i a.k)] else [(8, .i a.e)]), a.σ, a.nx⟩
def RX.m (route : List Int) (a : RX) : Nat := if a.lb = 1 then route.length + 1 - a.k else 0
theorem run_spec (x : Inst) (route : List Int) (hm : x.may = true) (hr : route.length < 2 ^ 63) (σ : Nat → AObj) (nx : Nat) :
    CallQ P 92 [x.a, .t (.sl (ints route))] σ nx (RunQ x (x.runC route x.car0) σ nx) := by
  generalize hR : x.runC route x.car0 = R
  obtain ⟨p, hx⟩ := x.fit hm
  have hlen := hx.len
  have hfew := hx.few
  have hil : (ints route).length = route.length := List.length_map _
  refine spec_of Try.func92 rfl rfl (by simp [Try.f92]) fun B hB hnx hσ => ?_
  simp only [Try.f92] at hB ⊢
  refine K_run hB 100 ?_
  simp [go_sem, Inst.a]
  obtain ⟨σ1, hσ1⟩ : ∃ σ1 : Nat → AObj, σ1 = oput σ nx (.box x.cs) := ⟨_, rfl⟩
  refine K_scopeF RX.lb (RX.I x p route R σ1 nx) (RX.st route) (RX.m route) (fun a ha => ?_) ?_ ?_
  · rcases ha.go with ⟨h, _⟩ | ⟨h, _⟩ <;> rw [h] <;> rfl
  · rintro ⟨lb, k, c, e, b, qt, ql, σ', nx'⟩ ⟨hgo, hold, hnx'⟩ fall
    simp only at hgo hold hnx'
    rcases hgo with ⟨rfl, g1, g2, g3, g4, g5, g6, g7, g8, g9⟩ | ⟨rfl, rfl, g2⟩
    · show Kp P B (.code (tailC _ 1) :: _) _ _ _
      simp [tailC, findLabel]
      refine K_run hB 100 ?_
      simp [go_sem, RX.st, hil]
      refine fork_dec (fun hk => ?_) (fun hk => ?_)
      · have hget := ints_getS route hk
        rw [List.drop_eq_getElem_cons hk, Inst.runC] at g9
        have hfit := visitC_fit (i := route[k]) hx g2
        have hvs := visit_spec x c route[k] hx g2 g3 g7 g8
        have hkk : IntKind.i64.wrap ((k : Int) + 1) = ((k + 1 : Nat) : Int) := by rw [w64 ((k : Int) + 1) (by omega)]; rfl
        generalize route[k] = i at *
        generalize x.visitC c i = V at *
        simp [go_sem, hil, hk, hget]
        refine K_callQ rfl rfl rfl (args := [.ptr b 0, .i i]) (f := 131) (by simp [go_sem]) (by simp [go_sem, hB]) hvs ?_
        rintro r σ2 nx2 ⟨rfl, v1, qt2, ql2, v2, v3, v4, v5, v6⟩
        have hold2 : ∀ j, j ≤ nx → σ2 j = σ1 j := fun j hj => by
          rw [v4 j (by omega) (by omega) (by omega) (by omega)]
          exact hold j hj
        by_cases c1 : V.2 = 0
        · rw [if_neg (by simp [c1])] at g9
          refine K_run hB 100 ?_
          simp [go_sem, c1, hkk]
          refine ⟨⟨1, k + 1, V.1, 0, b, qt2, ql2, σ2, nx2⟩, ⟨.inl ⟨rfl, by simp only; omega, hfit c1, by simp only; omega, g4, by simp only; omega, by simp only; omega, v2, v3, g9⟩, hold2, by simp only; omega⟩, rfl, Imp.slots (by simp [go_sem, RX.st]) rfl rfl, by simp only [RX.m, if_true]; omega⟩
        · rw [if_pos c1] at g9
          subst g9
          refine K_run hB 100 ?_
          simp [go_sem, c1]
          refine ⟨⟨0, 0, c, V.2, b, qt2, ql2, σ2, nx2⟩, ⟨.inr ⟨rfl, rfl, c1⟩, hold2, by simp only; omega⟩, rfl, Imp.slots (by simp [go_sem, RX.st]) rfl rfl, by simp [RX.m]; omega⟩
      · have : k = route.length := by omega
        subst this
        rw [List.drop_length, Inst.runC] at g9
        have hhs := homeC_spec x c hx g2 g3 g7 g8.ltT g8.ltL
        have hht := homeC_times x c
        rw [g9] at hhs hht
        simp [go_sem]
        refine K_call rfl rfl rfl (args := [.ptr b 0]) (f := 132) (by simp [go_sem]) (by simp [go_sem, hB]) hhs ?_
        by_cases c1 : R.2 = 0
        · refine K_run hB 100 ?_
          simp [go_sem, c1]
          have hne : ∀ j, j < nx → j ≠ b := fun j hj => by omega
          refine ⟨by omega, by omega, fun j hj => ?_, .inr ⟨c1, b, qt, ql, rfl, g3, by simp [oput], ⟨?_, ?_, g8.ltT, g8.ltL, g8.neT, g8.neL, g8.ne⟩⟩⟩
          · have := hold j (by omega)
            simp [oput, hne j hj, this, hσ1, show ¬ j = nx by omega]
          · simp [oput, g8.neT, g8.tm, hht.1]
          · simp [oput, g8.neL, g8.ld, hht.2]
        · refine K_run hB 9 ?_
          simp [go_sem, c1]
          refine fall 0 _ ?_
          refine ⟨⟨0, 0, c, R.2, b, qt, ql, _, nx'⟩, ⟨.inr ⟨rfl, rfl, c1⟩, fun j hj => ?_, by simp only; omega⟩, rfl, Imp.slots (by simp [go_sem, RX.st]) rfl rfl, by simp [RX.m]⟩
          simp only at hj ⊢
          have := hold j hj
          simp [oput, show ¬ j = b by omega, this]
    · show Kp P B (.code (tailC _ 0) :: _) _ _ _
      simp [tailC, findLabel]
      refine K_run hB 100 ?_
      simp [go_sem, RX.st]
      exact ⟨by omega, by omega, fun j hj => by rw [hold j (by omega), hσ1]; simp [oput, show ¬ j = nx by omega], .inl ⟨g2, rfl⟩⟩
  · intro J hJ
    refine K_run hB 100 ?_
    simp [go_sem]
    refine K_call rfl rfl rfl (args := [x.a]) (f := 28) (by simp [go_sem, Inst.a]) (by simp [go_sem, hB]) ((may_pure x (by omega)).spec _ _) ?_
    refine K_run hB 100 ?_
    simp [go_sem, hm]
    refine K_callQ rfl rfl rfl (args := [x.a]) (f := 130) (by simp [go_sem, Inst.a]) (by simp [go_sem, hB]) (begin_spec x hx _ _) ?_
    rintro r σ2 nx2 ⟨b, rfl, b1, b2, b3, b4⟩
    simp only at b1 b2 b3 b4
    refine K_run hB 4 ?_
    simp [go_sem]
    obtain ⟨σ3, hσ3⟩ : ∃ σ3 : Nat → AObj, σ3 = oput (oput (oput (oput σ2 b (.box [.t (.i x.pairs), .t (.i x.cars), .t (.i x.room), .t (.sl (x.stops.map Stop.t)), .i 0, .i (x.stop 0).ready, .i 0, .i 0, .u 0, .u 0, .ref nx2, .fsl []])) nx2 (.arr 3 [])) b (.box (carC x x.car0 nx2 (nx2 + 1)))) (nx2 + 1) (.arr 1 []) := ⟨_, rfl⟩
    refine hJ 1 _ ⟨⟨1, 0, x.car0, 0, b, nx2, nx2 + 1, σ3, nx2 + 2⟩, ⟨.inl ⟨rfl, Nat.zero_le _, car0_fit hx, by simp only; omega, by simp only; omega, by simp only; omega, by simp only; omega, ?_, ⟨?_, ?_, by simp only; omega, by simp only; omega, by simp only; omega, by simp only; omega, by simp only; omega⟩, hR⟩, ?_, by simp only; omega⟩, rfl, ?_⟩
    · simp [hσ3, oput, show ¬ b = nx2 + 1 by omega]
    · simp [hσ3, oput, show ¬ nx2 = b by omega, Inst.car0]
    · simp [hσ3, oput, Inst.car0, ints]
    · intro j hj
      simp only at hj ⊢
      simp only [hσ3, oput]
      rw [if_neg (by omega), if_neg (by omega), if_neg (by omega), if_neg (by omega), hσ1]
      exact b4 j (by omega)
    · refine (Imp.ownB (b := b) (off := 10) (sz := 3) (by simpa using b3) rfl).trans ((Imp.ownB (b := b) (off := 11) (sz := 1) (cs := [.t (.i x.pairs), .t (.i x.cars), .t (.i x.room), .t (.sl (x.stops.map Stop.t)), .i 0, .i (x.stop 0).ready, .i 0, .i 0, .u 0, .u 0, .ref nx2, .fsl []]) (by simp [oput, show ¬ b = nx2 by omega]) rfl).trans (Imp.slots (by simp [go_sem, RX.st]) ?_ rfl))
      rw [hσ3]; rfl
theorem run_no_spec (x : Inst) (route : List Int) (hm : x.may = false) (hl : x.stops.length < 2 ^ 63) (σ : Nat → AObj) (nx : Nat) :
    CallQ P 92 [x.a, .t (.sl (ints route))] σ nx fun r σ' nx' => r = .tup [.t (.v (.pointer none)), .i 1] := by
  refine spec_of Try.func92 rfl rfl (by simp [Try.f92]) fun B hB hnx hσ => ?_
  simp only [Try.f92] at hB ⊢
  refine K_run hB 100 ?_
  simp [go_sem, Inst.a]
  refine K_scopeL (α := Unit) (fun _ => 0) (fun _ => False) (fun _ => ⟨fun _ => .any, σ, nx⟩) (fun _ => 0) (fun _ h => h.elim) ?_ (fun _ h => h.elim)
  refine K_run hB 100 ?_
  simp [go_sem]
  refine K_call rfl rfl rfl (args := [x.a]) (f := 28) (by simp [go_sem, Inst.a]) (by simp [go_sem, hB]) ((may_pure x hl).spec _ _) ?_
  refine K_run hB 100 ?_
  simp [go_sem, hm]
def Inst.times (x : Inst) (route : List Int) : List (List T) × Int × Int :=
  if x.may = false then ([], 0, 1) else if (x.runC route x.car0).2 ≠ 0 then ([], 0, (x.runC route x.car0).2) else ((x.runC route x.car0).1.times, (x.runC route x.car0).1.gone, 0)
def timesA (r : List (List T) × Int × Int) : AV := .tup [.t (.sl r.1), .i r.2.1, .i r.2.2]
theorem times_pure (x : Inst) (route : List Int) (hl : x.stops.length < 2 ^ 63) (hr : route.length < 2 ^ 63) : Pure P 58 [x.a, .t (.sl (ints route))] (timesA (x.times route)) := by
  generalize hR : x.times route = R
  refine pure_of Try.func58 rfl rfl (by simp [Try.f58]) (by simp [bnd, bnd.bndL, Inst.a]) (by simp [bnd, bnd.bndL, timesA]) fun B hB hnx => ?_
  simp only [Try.f58] at hB ⊢
  rw [Inst.times] at hR
  refine K_run hB 100 ?_
  simp [go_sem, Inst.a]
  cases hm : x.may with
  | false =>
    rw [if_pos hm] at hR
    refine K_callQ rfl rfl rfl (args := [x.a, .t (.sl (ints route))]) (f := 92) (by simp [go_sem, Inst.a]) (by simp [go_sem, hB]) (run_no_spec x route hm hl _ _) ?_
    rintro r σ' nx' rfl
    subst hR
    refine K_run hB 100 ?_
    simp [go_sem, timesA]
  | true =>
    rw [if_neg (by simp [hm])] at hR
    have hrs := run_spec x route hm hr
    generalize x.runC route x.car0 = V at *
    refine K_callQ rfl rfl rfl (args := [x.a, .t (.sl (ints route))]) (f := 92) (by simp [go_sem, Inst.a]) (by simp [go_sem, hB]) (hrs _ _) ?_
    rintro r σ' nx' ⟨h1, h2, ⟨h3, rfl⟩ | ⟨h3, b, qt, ql, rfl, h4, h5, h6⟩⟩
    · rw [if_pos h3] at hR
      subst hR
      refine K_run hB 100 ?_
      simp [go_sem, h3, timesA]
    · rw [if_neg (by simp [h3])] at hR
      subst hR
      refine K_run hB 100 ?_
      simp [go_sem]
      refine K_drawn [] rfl (by rw [hB]; kernel_rfl) ?_
      refine K_run hB 100 ?_
      simp [go_sem, h5, carC, h6.tm, timesA]
end Go.Proofs.Ytlhmchdfmjfmgaa

/- What a plan costs. -/
set_option maxRecDepth 4000
namespace Go.Proofs.Ytlhmchdfmjfmgaa
open Go Go.Proofs.Ytlhmchdfmjfmgaa.R
def idxI (p : Int → Bool) : Nat → List Int → Int
  | _, [] => -1
  | i, n :: l => if p n = true then (i : Int) else idxI p (i + 1) l
theorem idxI_any (p : Int → Bool) : ∀ (i : Nat) (l : List Int), (0 ≤ idxI p i l) ↔ l.any p = true
  | _, [] => by simp [idxI]
  | i, n :: l => by
    rw [idxI, List.any_cons]
    cases h : p n with
    | true => simp
    | false => simp [idxI_any p (i + 1) l]
theorem indexI_pure (l : List Int) (p : Int → Bool) (f : FuncId) (hl : l.length < 2 ^ 62) (hf : ∀ n, Pure P f [.i n] (.b (p n))) : Pure P 56 [.t (.sl (ints l)), .fn (.func f) [] []] (.i (idxI p 0 l)) := by
  have hil : (ints l).length = l.length := List.length_map _
  refine pure_of Try.func56 rfl rfl (by simp [Try.f56]) (by simp [bnd, bnd.bndL]) (by simp [bnd, bnd.bndL]) fun B hB hnx => ?_
  simp only [Try.f56] at hB ⊢
  refine K_run hB 100 ?_
  simp [go_sem, hil]
  refine K_loopP (α := Nat) (fun k => k ≤ l.length ∧ idxI p k (l.drop k) = idxI p 0 l) (fun k => ⟨sl [(0, .t (.sl (ints l))), (1, .fn (.func f) [] []), (7, .i l.length), (8, .i k)], noObj, 0⟩) (fun k => l.length - k) 0 ⟨Nat.zero_le _, rfl⟩ (Imp.slots (by simp [go_sem]) rfl rfl) ?_
  rintro k ⟨h1, h2⟩
  refine K_run hB 60 ?_
  simp [go_sem]
  refine fork_dec (fun h => ?_) (fun h => ?_)
  · rw [List.drop_eq_getElem_cons h, idxI] at h2
    have hkk : IntKind.i64.wrap ((k : Int) + 1) = ((k + 1 : Nat) : Int) := by rw [w64 ((k : Int) + 1) (by omega)]; rfl
    have hget := ints_getS l h
    generalize l[k] = n at *
    have hp := hf n
    simp [go_sem, h, hil, hget]
    refine K_call rfl rfl rfl (args := [.i n]) (f := f) (by simp [go_sem]) (by simp [go_sem, hB]) (hp.spec _ _) ?_
    cases ho : p n with
    | true =>
      rw [ho, if_pos rfl] at h2
      refine K_run hB 100 ?_
      simp [go_sem, ← h2]
    | false =>
      rw [ho, if_neg (by simp)] at h2
      refine K_run hB 100 ?_
      simp [go_sem, hkk]
      exact Next.mk (k + 1) ⟨by omega, h2⟩ (Imp.slots (by simp [go_sem]) rfl rfl) (by omega)
  · have : k = l.length := by omega
    subst this
    rw [List.drop_length] at h2
    simp [go_sem, ← h2, idxI]
theorem containsI_pure (l : List Int) (p : Int → Bool) (f : FuncId) (hl : l.length < 2 ^ 62) (hf : ∀ n, Pure P f [.i n] (.b (p n))) : Pure P 60 [.t (.sl (ints l)), .fn (.func f) [] []] (.b (l.any p)) := by
  have hi := indexI_pure l p f hl hf
  have ha := idxI_any p 0 l
  refine pure_of Try.func60 rfl rfl (by simp [Try.f60]) (by simp [bnd, bnd.bndL]) (by simp [bnd, bnd.bndL]) fun B hB hnx => ?_
  simp only [Try.f60] at hB ⊢
  generalize idxI p 0 l = i at *
  refine K_run hB 100 ?_
  simp [go_sem]
  refine K_call rfl rfl rfl (args := [.t (.sl (ints l)), .fn (.func f) [] []]) (f := 56) (by simp [go_sem]) (by simp [go_sem, hB]) ((hi).spec _ _) ?_
  refine K_run hB 100 ?_
  simp [go_sem]
  rw [Bool.eq_iff_iff, decide_eq_true_eq]
  exact ha
theorem index1_pure (l : List Int) (v : Int) (hl : l.length < 2 ^ 62) : Pure P 93 [.t (.sl (ints l)), .i v] (.i (idxI (fun n => decide (n = v)) 0 l)) := by
  have hil : (ints l).length = l.length := List.length_map _
  refine pure_of Try.func93 rfl rfl (by simp [Try.f93]) (by simp [bnd, bnd.bndL]) (by simp [bnd, bnd.bndL]) fun B hB hnx => ?_
  simp only [Try.f93] at hB ⊢
  refine K_run hB 100 ?_
  simp [go_sem, hil]
  refine K_loopP (α := Nat) (fun k => k ≤ l.length ∧ idxI (fun n => decide (n = v)) k (l.drop k) = idxI (fun n => decide (n = v)) 0 l) (fun k => ⟨sl [(0, .t (.sl (ints l))), (1, .i v), (7, .i l.length), (8, .i k)], noObj, 0⟩) (fun k => l.length - k) 0 ⟨Nat.zero_le _, rfl⟩ (Imp.slots (by simp [go_sem]) rfl rfl) ?_
  rintro k ⟨h1, h2⟩
  refine K_run hB 60 ?_
  simp [go_sem]
  refine fork_dec (fun h => ?_) (fun h => ?_)
  · rw [List.drop_eq_getElem_cons h, idxI] at h2
    have hkk : IntKind.i64.wrap ((k : Int) + 1) = ((k + 1 : Nat) : Int) := by rw [w64 ((k : Int) + 1) (by omega)]; rfl
    have hget := ints_getS l h
    generalize l[k] = n at *
    by_cases ho : v = n
    · subst ho
      rw [if_pos (by simp)] at h2
      simp [go_sem, h, hil, hget, ← h2]
    · have ho' : ¬ n = v := fun e => ho e.symm
      rw [if_neg (by simp [ho'])] at h2
      simp [go_sem, h, hil, hget, ho, hkk]
      exact Next.mk (k + 1) ⟨by omega, h2⟩ (Imp.slots (by simp [go_sem]) rfl rfl) (by omega)
  · have : k = l.length := by omega
    subst this
    rw [List.drop_length] at h2
    simp [go_sem, ← h2, idxI]
theorem contains1_pure (l : List Int) (v : Int) (hl : l.length < 2 ^ 62) : Pure P 61 [.t (.sl (ints l)), .i v] (.b (l.any fun n => decide (n = v))) := by
  have hi := index1_pure l v hl
  have ha := idxI_any (fun n => decide (n = v)) 0 l
  refine pure_of Try.func61 rfl rfl (by simp [Try.f61]) (by simp [bnd, bnd.bndL]) (by simp [bnd, bnd.bndL]) fun B hB hnx => ?_
  simp only [Try.f61] at hB ⊢
  generalize idxI (fun n => decide (n = v)) 0 l = i at *
  refine K_run hB 100 ?_
  simp [go_sem]
  refine K_call rfl rfl rfl (args := [.t (.sl (ints l)), .i v]) (f := 93) (by simp [go_sem]) (by simp [go_sem, hB]) ((hi).spec _ _) ?_
  refine K_run hB 100 ?_
  simp [go_sem]
  rw [Bool.eq_iff_iff, decide_eq_true_eq]
  exact ha
theorem twice_pure (n : Int) : Pure P 59 [.i n] (.b (decide (1 < n))) := by
  refine pure_of Try.func59 rfl rfl (by simp [Try.f59]) (by simp [bnd, bnd.bndL]) (by simp [bnd, bnd.bndL]) fun B hB hnx => ?_
  simp only [Try.f59] at hB ⊢
  refine K_run hB 100 ?_
  simp [go_sem]
def bump (s : List Int) (i : Int) : List Int := s.set i.toNat (s.getD i.toNat 0 + 1)
def Inst.costGo (x : Inst) : List (List Int) → Int → List Int → Int × Int
  | [], all, seen => if (seen.any fun n => decide (1 < n)) = true then (0, 5) else if ((seen.drop 1).any fun n => decide (n = 0)) = true then (0, 4) else (all, 0)
  | r :: rs, all, seen => if r.length = 0 then (0, 1) else if (x.times r).2.2 ≠ 0 then (0, (x.times r).2.2) else x.costGo rs (all + (x.times r).2.1) (r.foldl bump seen)
def Inst.cost (x : Inst) (p : List (List Int)) : Int × Int :=
  if x.may = false then (0, 1) else if x.cars < p.length then (0, 6) else x.costGo p 0 (List.replicate (2 * x.pairs + 1).toNat 0)
/-- A route that can be gone. -/
theorem runC_ok {x : Inst} {p : Nat} (hx : x.Fit p) : ∀ (r : List Int) (c : Car) (k : Nat), c.Fit p k → (x.runC r c).2 = 0 → (∀ i ∈ r, 1 ≤ i ∧ i ≤ 2 * p) ∧ k + r.length ≤ 2 * p ∧ 0 ≤ (x.runC r c).1.gone ∧ (x.runC r c).1.gone ≤ 14143 * (k + r.length + 1)
  | [], c, k, hc, h => by
    have hg := hc.gone
    have hf := far_le (x.stop c.spot) (x.stop 0)
    have := hc.le
    refine ⟨fun i hi => (by cases hi), by simpa using this, ?_⟩
    rw [Inst.runC, Inst.homeC]
    simp only [List.length_nil]
    split
    · simp only; omega
    · split <;> simp only [Inst.drive] <;> omega
  | i :: r, c, k, hc, h => by
    rw [Inst.runC] at h ⊢
    by_cases c1 : (x.visitC c i).2 = 0
    · rw [if_neg (by simp [c1])] at h ⊢
      obtain ⟨h1, h2, h3, h4⟩ := runC_ok hx r _ _ (visitC_fit hx hc c1) h
      have hv : x.visitsE c i = 0 := by
        rw [Inst.visitC] at c1
        split at c1
        · rename_i hh; exact absurd c1 hh
        · rename_i hh; simpa using hh
      obtain ⟨k1, k2, _⟩ := visits_ok hv
      have hp := hx.pairs
      rw [List.length_cons]
      refine ⟨fun j hj => ?_, by omega, h3, by omega⟩
      rcases List.mem_cons.1 hj with rfl | hj
      · omega
      · exact h1 j hj
    · rw [if_pos c1] at h
      exact absurd h c1
theorem times_ok {x : Inst} {p : Nat} (hx : x.Fit p) (hm : x.may = true) {r : List Int} (h : (x.times r).2.2 = 0) : (∀ i ∈ r, 1 ≤ i ∧ i ≤ 2 * p) ∧ r.length ≤ 2 * p ∧ 0 ≤ (x.times r).2.1 ∧ (x.times r).2.1 ≤ 14143 * 33 := by
  rw [Inst.times, if_neg (by simp [hm])] at h ⊢
  by_cases c1 : (x.runC r x.car0).2 = 0
  · rw [if_neg (by simp [c1])]
    obtain ⟨h1, h2, h3, h4⟩ := runC_ok hx r _ 0 (car0_fit hx) c1
    have := hx.few
    exact ⟨h1, by omega, h3, by simp only; omega⟩
  · rw [if_pos c1] at h
    exact absurd h c1
theorem bump_len (s : List Int) (i : Int) : (bump s i).length = s.length := List.length_set
theorem bumps_len : ∀ (r : List Int) (s : List Int), (r.foldl bump s).length = s.length
  | [], s => rfl
  | i :: r, s => by rw [List.foldl_cons, bumps_len, bump_len]
/-- No number in a list grows above what was added. -/
theorem bump_le {s : List Int} {m : Int} (h : ∀ n ∈ s, 0 ≤ n ∧ n ≤ m) (i : Int) : ∀ n ∈ bump s i, 0 ≤ n ∧ n ≤ m + 1 := by
  intro n hn
  by_cases hi : i.toNat < s.length
  · rcases List.mem_or_eq_of_mem_set hn with h1 | h1
    · have := h n h1; omega
    · have e : s.getD i.toNat 0 = s[i.toNat] := by rw [List.getD_eq_getElem?_getD, List.getElem?_eq_getElem hi]; rfl
      rw [e] at h1
      have := h _ (List.getElem_mem hi)
      omega
  · rw [bump, List.set_eq_of_length_le (by omega)] at hn
    have := h _ hn
    omega
theorem cost_pure (x : Inst) (p : List (List Int)) (hl : x.stops.length < 2 ^ 63) (hp : p.length < 2 ^ 63) (hr : ∀ r ∈ p, r.length < 2 ^ 63) : Pure P 33 [x.a, .agg [.t (.sl (p.map rowT))]] (.tup [.i (x.cost p).1, .i (x.cost p).2]) := by
  generalize hR : x.cost p = R
  have hpl : (p.map rowT).length = p.length := List.length_map _
  refine pure_of Try.func33 rfl rfl (by simp [Try.f33]) (by simp [bnd, bnd.bndL, Inst.a]) (by simp [bnd, bnd.bndL]) fun B hB hnx => ?_
  simp only [Try.f33] at hB ⊢
  rw [Inst.cost] at hR
  refine K_run hB 100 ?_
  simp [go_sem, Inst.a]
  refine K_call rfl rfl rfl (args := [x.a]) (f := 28) (by simp [go_sem, Inst.a]) (by simp [go_sem, hB]) ((may_pure x hl).spec _ _) ?_
  cases hm : x.may with
  | false =>
    rw [if_pos hm] at hR
    subst hR
    refine K_run hB 100 ?_
    simp [go_sem]
  | true =>
    rw [if_neg (by simp [hm])] at hR
    obtain ⟨q, hx⟩ := x.fit hm
    have hpq := hx.pairs
    have hfew := hx.few
    have hcars := hx.cars
    by_cases c1 : x.cars < p.length
    · rw [if_pos c1] at hR
      subst hR
      refine K_run hB 100 ?_
      simp [go_sem, hpl, c1]
    rw [if_neg c1] at hR
    have w1 := w64 (2 * x.pairs) (by omega)
    have w2 := w64 (2 * x.pairs + 1) (by omega)
    refine K_run hB 100 ?_
    simp [go_sem, hpl, c1]
    refine K_drawnG [4] [5] [] rfl (by rw [hB]; kernel_rfl) (by kernel_rfl) fun ht hf' => ?_
    have hml : 2 * x.pairs + 1 ≤ (mostLen : Int) := by show _ ≤ (4294967296 : Int); omega
    refine K_run hB 100 ?_
    simp [go_sem, ht, hf', w1, w2, hml, show 0 ≤ 2 * x.pairs + 1 by omega, hpl]
    have hrep : List.replicate (2 * x.pairs + 1).toNat [(.i 0 : T)] = ints (List.replicate (2 * x.pairs + 1).toNat 0) := by simp [ints]
    refine K_loopP (α := Nat × Int × List Int) (fun (k, all, seen) => k ≤ p.length ∧ seen.length = 2 * q + 1 ∧ x.costGo (p.drop k) all seen = R ∧ (0 ≤ all ∧ all ≤ 466719 * k) ∧ ∀ n ∈ seen, 0 ≤ n ∧ n ≤ 33 * k)
      (fun (k, all, seen) => ⟨sl [(2, .ptr 0 0), (6, .i all), (7, .ref 2), (33, .t (.sl (p.map rowT))), (34, .i p.length), (35, .i k)], ob [(0, .box x.cs), (2, .arr 1 (ints seen))], 3⟩) (fun a => p.length - a.1) (0, 0, List.replicate (2 * x.pairs + 1).toNat 0) ?_
      (Sub.of (by omega) (by simp) (by simp [go_sem]) (by simp [go_sem, hrep])) ?_
    · refine ⟨Nat.zero_le _, by rw [List.length_replicate]; omega, hR, by omega, fun n hn => ?_⟩
      rw [(List.mem_replicate.1 hn).2]; omega
    rintro ⟨k, all, seen⟩ ⟨h1, h2, h3, h4, h5⟩
    refine K_run hB 60 ?_
    simp [go_sem, hpl]
    refine fork_dec (fun hk => ?_) (fun hk => ?_)
    · rw [List.drop_eq_getElem_cons hk, Inst.costGo] at h3
      have hkk : IntKind.i64.wrap ((k : Int) + 1) = ((k + 1 : Nat) : Int) := by rw [w64 ((k : Int) + 1) (by omega)]; rfl
      have hrl := hr p[k] (List.getElem_mem hk)
      have hget : (p.map rowT)[k]'(by rw [hpl]; exact hk) = [.sl (ints p[k])] := by simp [rowT]
      generalize p[k] = r at *
      have hil : (ints r).length = r.length := List.length_map _
      have hte := times_pure x r hl hrl
      have hok := times_ok hx hm (r := r)
      by_cases c2 : r.length = 0
      · rw [if_pos c2] at h3
        subst h3
        simp [go_sem, hk, hpl, hget, hil, c2]
      rw [if_neg c2] at h3
      generalize x.times r = V at *
      simp [go_sem, hk, hpl, hget, hil, c2]
      refine K_call rfl rfl rfl (args := [x.a, .t (.sl (ints r))]) (f := 58) (by simp [go_sem, Inst.a]) (by simp [go_sem, hB]) ((hte).spec _ _) ?_
      by_cases c3 : V.2.2 = 0
      rotate_left
      · rw [if_pos c3] at h3
        subst h3
        refine K_run hB 100 ?_
        simp [go_sem, timesA, c3]
      rw [if_neg (by simp [c3])] at h3
      obtain ⟨o1, o2, o3, o4⟩ := hok c3
      have w3 := w64 (all + V.2.1) (by omega)
      have hbl := bumps_len r seen
      refine K_run hB 100 ?_
      simp [go_sem, timesA, c3, w3, hil]
      refine K_loopP (α := Nat × List Int) (fun (j, s) => j ≤ r.length ∧ s.length = 2 * q + 1 ∧ (r.drop j).foldl bump s = r.foldl bump seen ∧ ∀ n ∈ s, 0 ≤ n ∧ n ≤ 33 * k + j)
        (fun (j, s) => ⟨sl [(2, .ptr 0 0), (6, .i (all + V.2.1)), (7, .ref 2), (33, .t (.sl (p.map rowT))), (34, .i p.length), (35, .i k), (55, .t (.sl (ints r))), (56, .i r.length), (57, .i j)], ob [(0, .box x.cs), (2, .arr 1 (ints s))], 3⟩) (fun a => r.length - a.1) (0, seen) ⟨Nat.zero_le _, h2, rfl, fun n hn => by have := h5 n hn; omega⟩
        (Sub.of (by omega) (by simp) (by simp [go_sem]) (by simp [go_sem])) ?_
      rintro ⟨j, s⟩ ⟨i1, i2, i3, i4⟩
      refine K_run hB 60 ?_
      simp [go_sem, hil]
      refine fork_dec (fun hj => ?_) (fun hj => ?_)
      · rw [List.drop_eq_getElem_cons hj, List.foldl_cons] at i3
        have hjj : IntKind.i64.wrap ((j : Int) + 1) = ((j + 1 : Nat) : Int) := by rw [w64 ((j : Int) + 1) (by omega)]; rfl
        have hgetj := ints_getS r hj
        have hin := o1 r[j] (List.getElem_mem hj)
        generalize r[j] = i at *
        have hisl : (ints s).length = s.length := List.length_map _
        have hlt : i.toNat < s.length := by omega
        have hltI : i < (s.length : Int) := by omega
        have hgets := ints_getS s hlt
        have hsi := i4 _ (List.getElem_mem hlt)
        have w4 := w64 (s[i.toNat] + 1) (by omega)
        have hb : bump s i = s.set i.toNat (s[i.toNat] + 1) := by rw [bump, List.getD_eq_getElem?_getD, List.getElem?_eq_getElem hlt]; rfl
        have hbi : ints (bump s i) = (ints s).set i.toNat [.i (s[i.toNat] + 1)] := by rw [hb, ints, ints, List.map_set]
        have hbl1 := bump_len s i
        have hble := bump_le (m := 33 * k + j) i4 i
        generalize s[i.toNat] = m at *
        simp [go_sem, hj, hil, hgetj, show 0 ≤ i by omega, hltI, hisl, hgets, w4, hjj, hlt, Nat.mod_one]
        refine Next.mk (j + 1, bump s i) ⟨by simp only; omega, by simp only; omega, i3, fun n hn => by have := hble n hn; simp only; omega⟩ (Sub.of (by omega) (by simp) (by simp [go_sem]) (by simp [go_sem, hbi])) (by simp only; omega)
      · have : j = r.length := by omega
        subst this
        rw [List.drop_length, List.foldl_nil] at i3
        subst i3
        simp [go_sem, hkk]
        exact Next.mk (k + 1, all + V.2.1, r.foldl bump seen) ⟨by simp only; omega, by simp only; omega, h3, by simp only; omega, fun n hn => by have := i4 n hn; simp only; omega⟩ (Sub.of (by omega) (by simp) (by simp [go_sem]) (by simp [go_sem])) (by simp only; omega)
    · have : k = p.length := by omega
      subst this
      rw [List.drop_length, Inst.costGo] at h3
      have hsl : seen.length < 2 ^ 62 := by omega
      have hc1 := containsI_pure seen (fun n => decide (1 < n)) 59 hsl twice_pure
      have hc2 := contains1_pure (seen.drop 1) 0 (by rw [List.length_drop]; omega)
      have hdr : ints (seen.drop 1) = (ints seen).drop 1 := by simp [ints, List.map_drop]
      have hisl : (ints seen).length = seen.length := List.length_map _
      have hone : ∀ y ∈ ints seen, y.length = 1 := by
        intro y hy
        simp only [ints, List.mem_map] at hy
        obtain ⟨n, _, rfl⟩ := hy
        rfl
      simp [go_sem]
      refine K_imp (t := ⟨sl [(6, .i all), (7, .t (.sl (ints seen))), (70, .t (.sl (ints seen))), (71, .fn (.func 59) [] [])], noObj, 3⟩) ((Imp.freeze (q := 2) (sz := 1) (es := ints seen) (by simp [go_sem])).trans (Imp.of (by simp [go_sem, frz1]) (fun i => .inl rfl) rfl)) ?_
      refine K_call rfl rfl rfl (args := [.t (.sl (ints seen)), .fn (.func 59) [] []]) (f := 60) (by simp [go_sem]) (by simp [go_sem, hB]) (hc1.spec _ _) ?_
      cases e1 : seen.any fun n => decide (1 < n) with
      | true =>
        rw [if_pos e1] at h3
        subst h3
        refine K_run hB 100 ?_
        simp [go_sem]
      | false =>
        rw [if_neg (by simp [e1])] at h3
        refine K_run hB 100 ?_
        simp [go_sem, hisl, h2, if_pos hone, hone, show (1 : Int) ≤ 2 * (q : Int) + 1 by omega]
        have hdr2 : (ints seen).tail = ints seen.tail := by simp [ints]
        cases e2 : (seen.drop 1).any fun n => decide (n = 0) with
        | true =>
          rw [if_pos e2] at h3
          rw [e2] at hc2
          subst h3
          refine K_call rfl rfl rfl (args := [.t (.sl (ints (seen.drop 1))), .i 0]) (f := 61) (by simp [go_sem, hdr2]) (by simp [go_sem, hB]) (hc2.spec _ _) ?_
          refine K_run hB 100 ?_
          simp [go_sem]
        | false =>
          rw [if_neg (by rw [e2]; simp)] at h3
          rw [e2] at hc2
          subst h3
          refine K_call rfl rfl rfl (args := [.t (.sl (ints (seen.drop 1))), .i 0]) (f := 61) (by simp [go_sem, hdr2]) (by simp [go_sem, hB]) (hc2.spec _ _) ?_
          refine K_run hB 100 ?_
          simp [go_sem]
end Go.Proofs.Ytlhmchdfmjfmgaa

/- The plan that a tour is. -/
set_option maxRecDepth 4000
namespace Go.Proofs.Ytlhmchdfmjfmgaa
open Go Go.Proofs.Ytlhmchdfmjfmgaa.R
def lowI (n : Int) : Bool := decide (n ≤ 0)
theorem idxI_at (p : Int → Bool) : ∀ (i : Nat) (l : List Int), idxI p i l < 0 ∨ ∃ j, j < l.length ∧ idxI p i l = ((i + j : Nat) : Int) ∧ p (l.getD j 0) = true ∧ ∀ n ∈ l.take j, p n = false
  | _, [] => .inl (by simp [idxI])
  | i, n :: l => by
    rw [idxI]
    cases h : p n with
    | true => exact .inr ⟨0, by simp, by simp, by simpa using h, by simp⟩
    | false =>
      rcases idxI_at p (i + 1) l with h1 | ⟨j, hj, h1, h2, h3⟩
      · exact .inl (by simpa using h1)
      · refine .inr ⟨j + 1, by simpa using hj, ?_, by simpa using h2, ?_⟩
        · rw [if_neg (by simp), h1]
          omega
        · intro m hm
          rw [List.take_succ_cons] at hm
          rcases List.mem_cons.1 hm with rfl | hm
          · exact h
          · exact h3 m hm
def splitF : Nat → List Int → Int → Bool → List (List Int) → List (List Int) × Int
  | 0, _, _, _, _ => ([], 2)
  | f + 1, t, last, order, acc =>
    if idxI lowI 0 t < 0 then (if (order || decide (t.getD 0 0 ≤ last)) = true then ([], 8) else (acc ++ [t], 0))
    else if idxI lowI 0 t = 0 ∨ t.getD (idxI lowI 0 t).toNat 0 < 0 ∨ idxI lowI 0 t = (t.length : Int) - 1 then ([], 2)
    else splitF f (t.drop ((idxI lowI 0 t).toNat + 1)) (t.getD 0 0) (order || decide (t.getD 0 0 ≤ last)) (acc ++ [t.take (idxI lowI 0 t).toNat])
def splitR (t : List Int) : List (List Int) × Int := if t.length = 0 then ([], 0) else splitF (t.length + 1) t 0 false []
theorem low1_pure (n : Int) : Pure P 57 [.i n] (.b (lowI n)) := by
  refine pure_of Try.func57 rfl rfl (by simp [Try.f57]) (by simp [bnd, bnd.bndL]) (by simp [bnd, bnd.bndL]) fun B hB hnx => ?_
  simp only [Try.f57] at hB ⊢
  refine K_run hB 100 ?_
  simp [go_sem, lowI]
theorem split_pure (t : List Int) (ht : t.length < 2 ^ 31) : Pure P 32 [.t (.sl (ints t))] (.tup [.agg [.t (.sl ((splitR t).1.map rowT))], .i (splitR t).2]) := by
  generalize hR : splitR t = R
  have hil : (ints t).length = t.length := List.length_map _
  refine pure_of Try.func32 rfl rfl (by simp [Try.f32]) (by simp [bnd, bnd.bndL]) (by simp [bnd, bnd.bndL]) fun B hB hnx => ?_
  simp only [Try.f32] at hB ⊢
  rw [splitR] at hR
  refine K_run hB 100 ?_
  simp [go_sem]
  refine K_scopeL (α := Unit) (fun _ => 0) (fun _ => False) (fun _ => ⟨fun _ => .any, noObj, 0⟩) (fun _ => 0) (fun _ h => h.elim) ?_ (fun _ h => h.elim)
  by_cases c0 : t.length = 0
  · rw [if_pos c0] at hR
    subst hR
    refine K_run hB 100 ?_
    simp [go_sem, hil, c0]
  rw [if_neg c0] at hR
  refine K_run hB 100 ?_
  simp [go_sem, hil, c0]
  refine K_call rfl rfl rfl (args := [.t (.sl (ints t))]) (f := 55) (by simp [go_sem]) (by simp [go_sem, hB]) (clone_spec t (by omega) _ _) ?_
  refine K_run hB 100 ?_
  simp [go_sem]
  refine K_loopP (α := Nat × List Int × Int × Bool × List (List Int) × (Nat → AObj) × Nat × Nat) (fun (f, t', last, order, acc, σ, nx, q) => t'.length ≠ 0 ∧ t'.length < f ∧ acc.length + t'.length ≤ t.length ∧ splitF f t' last order acc = R ∧ σ 0 = .box [.fsl []] ∧ σ 1 = .box [.ref q] ∧ σ q = .arr 1 (acc.map rowT) ∧ 1 < q ∧ q < nx)
    (fun (f, t', last, order, acc, σ, nx, q) => ⟨sl [(0, .t (.sl (ints t'))), (2, .ptr 0 0), (4, .ptr 1 0), (5, .b order), (6, .i last)], σ, nx⟩) (fun a => a.1) (t.length + 1, t, 0, false, [], _, 4, 3) ?_
    ((Imp.freeze (q := 2) (sz := 1) (es := ints t) (by simp [go_sem])).trans ((Imp.ownB (b := 1) (off := 0) (sz := 1) (cs := [.fsl []]) (by simp [go_sem, frzO, frz1, frz1.frzL]) rfl).trans (Imp.slots (by simp [go_sem, frz1]) rfl rfl))) ?_
  · exact ⟨c0, by omega, by simp, hR, by simp [oput, frzO, frz1, frz1.frzL], by simp [oput], by simp [oput], by omega, by omega⟩
  rintro ⟨f, t', last, order, acc, σ, nx, q⟩ ⟨g1, g2, g3, g4, g5, g6, g7, g8, g9⟩
  obtain ⟨f, rfl⟩ : ∃ f', f = f' + 1 := ⟨f - 1, by omega⟩
  have hil2 : (ints t').length = t'.length := List.length_map _
  have hlt0 : 0 < t'.length := by omega
  have hix := indexI_pure t' lowI 57 (by omega) low1_pure
  have hat := idxI_at lowI 0 t'
  rw [splitF] at g4
  have hhd : t'.getD 0 0 = t'[0]'hlt0 := by rw [List.getD_eq_getElem?_getD, List.getElem?_eq_getElem hlt0]; rfl
  have hget0 := ints_getS t' (i := 0) hlt0
  rw [hhd] at g4
  generalize idxI lowI 0 t' = e at *
  refine K_run hB 100 ?_
  simp [go_sem, hil2]
  refine K_call rfl rfl rfl (args := [.t (.sl (ints t')), .fn (.func 57) [] []]) (f := 56) (by simp [go_sem]) (by simp [go_sem, hB]) ((hix).spec _ _) ?_
  have hm1 : (acc.map rowT).length + 1 ≤ mostLen := by rw [List.length_map]; show _ ≤ 4294967296; omega
  have hm2 : acc.length + 1 ≤ mostLen := by show _ ≤ 4294967296; omega
  have hone : ∀ y ∈ ints t', y.length = 1 := by
    intro y hy
    simp only [ints, List.mem_map] at hy
    obtain ⟨n, _, rfl⟩ := hy
    rfl
  have htl : List.take t'.length (ints t') = ints t' := by rw [← hil2, List.take_length]
  by_cases c1 : e < 0
  · rw [if_pos c1] at g4
    cases order <;> by_cases c2 : t'[0] ≤ last
    all_goals
      simp only [c2, Bool.false_or, Bool.true_or, decide_true, decide_false, if_true, Bool.false_eq_true, if_false] at g4
      subst g4
      refine K_run hB 100 ?_
      simp [go_sem, c1, hil2, hlt0, hget0, c2]
      refine K_drawnT [7, 9] rfl (by rw [hB]; kernel_rfl) (by kernel_rfl) fun ht => ?_
      refine K_run hB 100 ?_
      simp [go_sem, ht, hil2, g5, g6, g7, hm1, hm2, if_pos hone, hone, htl, show ¬ 1 = nx by omega, show ¬ 1 = q by omega, show ¬ 0 = nx by omega, show ¬ 0 = q by omega, show ¬ nx = 0 by omega, show ¬ nx = 1 by omega, rowT]
  · rw [if_neg c1] at g4
    obtain ⟨j, hj, rfl, k2, k3⟩ := hat.resolve_left c1
    have hgetj := ints_getS t' hj
    have hge : t'.getD j 0 = t'[j] := by rw [List.getD_eq_getElem?_getD, List.getElem?_eq_getElem hj]; rfl
    simp only [Nat.zero_add, Int.toNat_natCast] at g4 c1 ⊢
    rw [hge] at g4
    have hjI : (j : Int) < t'.length := by omega
    have hjle : j ≤ t'.length := by omega
    have htj : List.take j (ints t') = ints (t'.take j) := by simp [ints, List.map_take]
    have hdj : List.drop (j + 1) (ints t') = ints (t'.drop (j + 1)) := by simp [ints, List.map_drop]
    have wj : IntKind.i64.wrap ((j : Int) + 1) = ((j + 1 : Nat) : Int) := by rw [w64 _ (by omega)]; rfl
    have w1 := w64 ((t'.length : Int) - 1) (by omega)
    by_cases d1 : j = 0
    · rw [if_pos (.inl (by omega))] at g4
      subst g4
      refine K_run hB 100 ?_
      simp [go_sem, c1, hil2, d1, g5]
    by_cases d2 : t'[j] < 0
    · rw [if_pos (.inr (.inl d2))] at g4
      subst g4
      refine K_run hB 100 ?_
      simp [go_sem, c1, hil2, d1, hj, hgetj, d2, g5]
    by_cases d3 : (j : Int) = (t'.length : Int) - 1
    · rw [if_pos (.inr (.inr d3))] at g4
      subst g4
      have hv : IntKind.i64.wrap ((t'.length : Int) - 1) = j := by rw [w1]; omega
      refine K_run hB 100 ?_
      simp [go_sem, c1, hil2, d1, hj, hgetj, d2, hv, g5]
    rw [if_neg (by omega)] at g4
    refine K_run hB 100 ?_
    simp [go_sem, c1, hil2, d1, hj, hgetj, d2, w1, d3]
    cases order <;> by_cases c2 : t'[0] ≤ last
    all_goals
      simp only [c2, Bool.false_or, Bool.true_or, decide_true, decide_false] at g4
      simp [go_sem, c1, hil2, hlt0, hget0, c2]
      refine K_drawnT [7, 9] rfl (by rw [hB]; kernel_rfl) (by kernel_rfl) fun ht => ?_
      refine K_run hB 100 ?_
      simp [go_sem, ht, hil2, g5, g6, g7, hm1, hm2, if_pos hone, hone, hjle, htj, hdj, show ¬ 1 = nx by omega, show ¬ 1 = q by omega, show ¬ 0 = nx by omega, show ¬ 0 = q by omega, show ¬ j = t'.length by omega, wj, show 0 ≤ (j : Int) + 1 by omega, show (j : Int) + 1 ≤ t'.length by omega]
      refine Next.mk (f, t'.drop (j + 1), t'[0], _, acc ++ [t'.take j], _, nx + 1, nx) ⟨?_, ?_, ?_, g4, ?_, ?_, ?_, ?_, ?_⟩ (Imp.slots (by simp [go_sem, hdj, c2]) rfl rfl) (by simp only; omega)
      · simp only [List.drop_eq_nil_iff]; omega
      · simp only [List.length_drop]; omega
      · simp only [List.length_drop, List.length_append, List.length_cons, List.length_nil]; omega
      · simp [oput, show ¬ 0 = nx by omega, show ¬ 0 = q by omega, g5]
      · simp [oput]
      · simp [oput, show ¬ nx = 1 by omega, rowT]
      · simp only; omega
      · simp only; omega
end Go.Proofs.Ytlhmchdfmjfmgaa

/- What can be followed and ended is the tour of a plan: the plain law. -/
set_option maxRecDepth 4000
namespace Go.Proofs.Ytlhmchdfmjfmgaa
open Go Go.Proofs.Ytlhmchdfmjfmgaa.R
/-- A car goes as a state says; what was seen ahead of its route: m0. -/
structure Sim1 (x : Inst) (p m0 : Nat) (s : State) (c : Car) (k : Nat) : Prop where
  spot : c.spot = s.spot
  now : c.now = s.time
  load : c.load = s.load
  on : c.on = s.on
  seen : ∀ i, 1 ≤ i → i ≤ 2 * p → s.must.testBit i = (m0.testBit i || c.seen.testBit i)
  old : ∀ i, 1 ≤ i → i ≤ p → m0.testBit i = true → m0.testBit (i + p) = true
  fit : c.Fit p k
  good : Good x p s
theorem Sim1.step {x : Inst} {p m0 k : Nat} {s : State} {c : Car} {j : Int} (hx : x.Fit p) (h : Sim1 x p m0 s c k) (hj : j ≠ 0) (hm : (x.move s j).2.2 = true) :
    (x.visitC c j).2 = 0 ∧ Sim1 x p m0 (x.move s j).1 (x.visitC c j).1 (k + 1) ∧ (x.visitC c j).1.gone = c.gone + (x.move s j).2.1 := by
  obtain ⟨g1, g2, g3, g4, g5, g6⟩ := good_step hx h.good hm
  obtain ⟨m1, m2, m3, m4, m5, m6, m7, m8⟩ := move_pos hm hj
  have hp := hx.pairs
  have hfew := hx.few
  obtain ⟨i, rfl⟩ : ∃ i : Nat, j = i := ⟨j.toNat, by omega⟩
  simp only [Inst.lateB, Bool.or_eq_false_iff, decide_eq_false_iff_not] at m5
  rw [has_testN (by omega)] at m5
  have hs := h.seen i (by omega) (by omega)
  rw [m5.1] at hs
  have hv : x.visitsE c i = 0 := by
    rw [Inst.visitsE, if_neg (by omega), if_neg, if_neg, if_neg]
    · rw [h.load]
      by_cases hi : (i : Int) ≤ x.pairs
      · have := m6 hi
        simp only [Inst.fullB, Bool.or_eq_false_iff, decide_eq_false_iff_not] at this
        omega
      · have hb := hx.bring (k := i - p) (by omega) (by omega)
        have ht := hx.take (k := i - p) (by omega) (by omega)
        have hr := h.good.room
        rw [show i - p + p = i by omega] at hb
        omega
    · rintro ⟨hi, hq⟩
      have := m7 hi
      simp only [Inst.emptyB, Bool.or_eq_false_iff, Bool.not_eq_false', decide_eq_false_iff_not] at this
      have e : (i : Int) - x.pairs = ((i - p : Nat) : Int) := by omega
      rw [e] at this hq
      rw [has_testN (by omega), h.good.eq] at this
      rw [has_testN (by omega)] at hq
      have h1 := h.seen (i - p) (by omega) (by omega)
      rw [this.2, hq, Bool.or_false] at h1
      have h2 := h.old (i - p) (by omega) (by omega) h1.symm
      rw [show i - p + p = i by omega] at h2
      rw [h2] at hs
      cases hs
    · rw [has_testN (by omega)]
      intro hq
      rw [hq, Bool.or_true] at hs
      cases hs
  have hfar : x.visitC c i = ({ spot := i, now := x.begins s i + (x.stop i).service, gone := c.gone + far (x.stop s.spot) (x.stop i), load := s.load + (x.stop i).demand, seen := withN c.seen i, on := if (i : Int) ≤ x.pairs then withN s.on i else withoutN s.on (i - x.pairs), times := c.times ++ [[.i (s.time + far (x.stop s.spot) (x.stop i)), .i (x.begins s i), .i (x.begins s i + (x.stop i).service)]], loads := c.loads ++ [s.load + (x.stop i).demand] }, 0) := by
    rw [Inst.visitC, if_neg (by simp [hv]), h.spot, h.now, h.load, h.on, if_neg]
    · rfl
    · have := m5.2
      unfold Inst.begins at this
      exact this
  have hfit := visitC_fit hx h.fit (i := i) (by rw [hfar])
  rw [hfar] at hfit ⊢
  rw [if_pos (by omega)] at g4 g6
  refine ⟨rfl, ⟨?_, ?_, ?_, ?_, ?_, h.old, hfit, g1⟩, ?_⟩
  · rw [m8]; rfl
  · rw [m8]; rfl
  · rw [g6]
  · rw [m8]; rfl
  · intro n n1 n2
    rw [g4, with_bit (by omega), with_bit (by omega), h.seen n n1 n2, Bool.or_assoc]
  · rw [m8]
/-- How often each stop stands in what was seen so far. -/
def MatchS (p must : Nat) (seen : List Int) : Prop := seen.length = 2 * p + 1 ∧ ∀ i (h : i < seen.length), seen[i] = if 1 ≤ i ∧ must.testBit i = true then 1 else 0
theorem MatchS.bump {p must : Nat} {seen : List Int} (h : MatchS p must seen) {j : Nat} (h1 : 1 ≤ j) (h2 : j ≤ 2 * p) (h64 : j ≤ 63) (hn : must.testBit j = false) : MatchS p (withN must j) (bump seen j) := by
  obtain ⟨hl, hs⟩ := h
  refine ⟨by rw [bump_len]; exact hl, fun i hi => ?_⟩
  have hi' : i < seen.length := by rw [bump_len] at hi; exact hi
  have e : seen.getD j 0 = seen[j] := by rw [List.getD_eq_getElem?_getD, List.getElem?_eq_getElem (by omega)]; rfl
  have h0 := hs j (by omega)
  rw [if_neg (by simp [hn])] at h0
  simp only [Go.Proofs.Ytlhmchdfmjfmgaa.bump, Int.toNat_natCast, e, h0, List.getElem_set, with_bit h64]
  by_cases hji : j = i
  · subst hji
    simp [h1]
  · rw [if_neg hji, hs i hi']
    simp [hji]
theorem MatchS.end {p must : Nat} {seen : List Int} (h : MatchS p must seen) (ha : ∀ i, 1 ≤ i → i ≤ 2 * p → must.testBit i = true) : (seen.any fun n => decide (1 < n)) = false ∧ ((seen.drop 1).any fun n => decide (n = 0)) = false := by
  obtain ⟨hl, hs⟩ := h
  constructor
  · rw [List.any_eq_false]
    intro n hn
    obtain ⟨i, hi, rfl⟩ := List.mem_iff_getElem.1 hn
    rw [hs i hi]
    split <;> simp
  · rw [List.any_eq_false]
    intro n hn
    obtain ⟨i, hi, rfl⟩ := List.mem_iff_getElem.1 hn
    rw [List.getElem_drop, hs (1 + i) (by rw [List.length_drop] at hi; omega), if_pos ⟨by omega, ha _ (by omega) (by rw [List.length_drop] at hi; omega)⟩]
    simp
theorem runC_cons {x : Inst} {i : Int} {r : List Int} {c : Car} (h : (x.visitC c i).2 = 0) : x.runC (i :: r) c = x.runC r (x.visitC c i).1 := by
  rw [Inst.runC, if_neg (by simp [h])]
/-- The rest of a route, in the middle of it. -/
theorem route_rest {x : Inst} {p m0 : Nat} (hx : x.Fit p) (h0 : x.pairs ≠ 0) : ∀ (path : List Int) (s : State) (c : Car) (k : Nat) (d : Int), Sim1 x p m0 s c k → s.spot ≠ 0 → x.way path s d →
    ∃ r rest c', path = r ++ rest ∧ (∀ i ∈ r, 0 < i) ∧ x.runC r c = (c', 0) ∧
      ((rest = [] ∧ d = c'.gone - c.gone ∧ ∀ seen, MatchS p s.must seen → ∃ must, MatchS p must (r.foldl bump seen) ∧ ∀ i, 1 ≤ i → i ≤ 2 * p → must.testBit i = true) ∨
       (∃ path' s' d', rest = 0 :: path' ∧ d = c'.gone - c.gone + d' ∧ x.way path' s' d' ∧ s'.spot = 0 ∧ s'.on = 0 ∧ s'.load = 0 ∧ s'.time = (x.stop 0).ready ∧ s'.first = s.first ∧ s'.car = s.car + 1 ∧ s.car < x.cars ∧ Good x p s' ∧ ∀ seen, MatchS p s.must seen → MatchS p s'.must (r.foldl bump seen)))
  | [], s, c, k, d, hs, hsp, hw => by
    obtain ⟨w1, w2⟩ := hw
    obtain ⟨e1, e2 | ⟨e2, e3, e4, e5, e6, e7⟩⟩ := end_is w1
    · exact absurd e2.1 h0
    · refine ⟨[], [], x.drive c 0, rfl, by simp, ?_, .inl ⟨rfl, ?_, fun seen hm => ⟨s.must, hm, fun i i1 i2 => ?_⟩⟩⟩
      · rw [Inst.runC, Inst.homeC, hs.on, hs.now, hs.spot, if_neg (by simp [e4]), if_neg (by omega)]
      · rw [w2, e7]
        show _ = c.gone + far (x.stop c.spot) (x.stop 0) - c.gone
        rw [hs.spot]
        simp only
        omega
      · rw [← hs.good.eq]
        exact Inst.all_bit hx e5 i1 i2
  | j :: path, s, c, k, d, hs, hsp, hw => by
    obtain ⟨w1, d', w2, w3⟩ := hw
    by_cases hj : j = 0
    · subst hj
      obtain ⟨g1, g2, g3, g4⟩ := move_home w1
      have hgs := (good_step hx hs.good w1).1
      simp only [Inst.stayB, Bool.or_eq_false_iff, decide_eq_false_iff_not] at g3
      obtain ⟨⟨⟨⟨a1, a2⟩, a3⟩, a4⟩, a5⟩ := g3
      rw [g4] at w2 w3 hgs
      have hon : s.on = 0 := by omega
      refine ⟨[], 0 :: path, x.drive c 0, rfl, by simp, ?_, .inr ⟨path, x.homeS s, d', rfl, ?_, w2, rfl, hon, rfl, rfl, rfl, rfl, by omega, hgs, fun seen hm => hm⟩⟩
      · rw [Inst.runC, Inst.homeC, hs.on, hs.now, hs.spot, if_neg (by simp [hon]), if_neg (by omega)]
      · show _ = c.gone + far (x.stop c.spot) (x.stop 0) - c.gone + d'
        rw [hs.spot, w3]
        simp only
        omega
    · obtain ⟨v1, v2, v3⟩ := hs.step hx hj w1
      obtain ⟨b1, b2, b3, b4, _, _⟩ := good_step hx hs.good w1
      obtain ⟨_, _, p3, p4, p5, _, _, m8⟩ := move_pos w1 hj
      have hfew := hx.few
      rw [if_pos p3] at b4
      have hsp' : (x.move s j).1.spot ≠ 0 := by rw [m8]; exact hj
      have hfi : (x.move s j).1.first = s.first := by rw [m8]; show (if s.spot = 0 then j else s.first) = s.first; rw [if_neg hsp]
      have hca : (x.move s j).1.car = s.car := by rw [m8]; rfl
      obtain ⟨r, rest, c', q1, q2, q3, q4⟩ := route_rest hx h0 path _ _ _ d' v2 hsp' w2
      have hmt : ∀ seen, MatchS p s.must seen → MatchS p (x.move s j).1.must (bump seen j) := fun seen hm => by
        obtain ⟨i, rfl⟩ : ∃ i : Nat, j = i := ⟨j.toNat, by omega⟩
        simp only [Inst.lateB, Bool.or_eq_false_iff] at p5
        have := p5.1
        rw [has_testN (by omega)] at this
        rw [b4]
        exact hm.bump (by omega) (by omega) (by omega) this
      refine ⟨j :: r, rest, c', by rw [q1]; rfl, fun i hi => ?_, by rw [runC_cons v1]; exact q3, ?_⟩
      · rcases List.mem_cons.1 hi with rfl | hi
        · exact p3
        · exact q2 i hi
      · rcases q4 with ⟨t1, t2, t3⟩ | ⟨path', s', d2, t1, t2, t3, t4, t5, t6, t7, t8, t9, t10, t11, t12⟩
        · exact .inl ⟨t1, by omega, fun seen hm => t3 _ (hmt seen hm)⟩
        · exact .inr ⟨path', s', d2, t1, by omega, t3, t4, t5, t6, t7, by rw [t8, hfi], by rw [t9, hca], by omega, t11, fun seen hm => t12 _ (hmt seen hm)⟩
theorem idx_none : ∀ (l : List Int) (k : Nat), (∀ i ∈ l, 0 < i) → idxI lowI k l = -1
  | [], _, _ => rfl
  | i :: l, k, h => by
    have := h i List.mem_cons_self
    rw [idxI, if_neg (by simp [lowI]; omega)]
    exact idx_none l (k + 1) fun j hj => h j (List.mem_cons_of_mem _ hj)
theorem idx_zero : ∀ (l m : List Int) (k : Nat), (∀ i ∈ l, 0 < i) → idxI lowI k (l ++ 0 :: m) = ((k + l.length : Nat) : Int)
  | [], m, k, _ => by rw [List.nil_append, idxI, if_pos (by simp [lowI])]; simp
  | i :: l, m, k, h => by
    have := h i List.mem_cons_self
    rw [List.cons_append, idxI, if_neg (by simp [lowI]; omega), idx_zero l m (k + 1) fun j hj => h j (List.mem_cons_of_mem _ hj), List.length_cons]
    congr 1
    omega
/-- From the yard: routes, one behind the other. -/
theorem yard_split {x : Inst} {p : Nat} (hx : x.Fit p) (hm : x.may = true) (h0 : x.pairs ≠ 0) : ∀ (f : Nat) (path : List Int) (s : State) (d : Int) (acc : List (List Int)), path.length < f → s.spot = 0 → s.on = 0 → s.load = 0 → s.time = (x.stop 0).ready → Good x p s → x.way path s d →
    path ≠ [] ∧ ∃ routes, splitF f path s.first false acc = (acc ++ routes, 0) ∧ (routes.length : Int) + s.car ≤ x.cars + 1 ∧ ∀ all seen, MatchS p s.must seen → x.costGo routes all seen = (all + d, 0)
  | 0, path, s, d, acc, hf, _, _, _, _, _, _ => absurd hf (by omega)
  | f + 1, [], s, d, acc, _, hsp, _, _, _, _, hw => by
    obtain ⟨w1, w2⟩ := hw
    obtain ⟨e1, e2 | ⟨e2, e3, _⟩⟩ := end_is w1
    · exact absurd e2.1 h0
    · exact absurd hsp e3
  | f + 1, j :: path, s, d, acc, hf, hsp, hon, hld, hti, hg, hw => by
    refine ⟨by simp, ?_⟩
    obtain ⟨w1, d1, w2, w3⟩ := hw
    have hj : j ≠ 0 := by
      intro e
      subst e
      obtain ⟨_, _, g3, _⟩ := move_home w1
      simp [Inst.stayB, hsp] at g3
    have hs : Sim1 x p s.must s x.car0 0 := by
      refine ⟨hsp.symm, hti.symm, hld.symm, hon.symm, fun i _ _ => by simp [Inst.car0], fun i i1 i2 h => ?_, car0_fit hx, hg⟩
      have := hg.on i i1 i2
      rw [hon, Nat.zero_testBit, h] at this
      simpa using this.symm
    obtain ⟨v1, v2, v3⟩ := hs.step hx hj w1
    obtain ⟨b1, b2, b3, b4, _, _⟩ := good_step hx hg w1
    obtain ⟨_, hmay, p3, p4, p5, p6, p7, m8⟩ := move_pos w1 hj
    have hfew := hx.few
    have hp := hx.pairs
    rw [if_pos p3] at b4
    have hjp : j ≤ x.pairs := by
      by_cases c : j ≤ x.pairs
      · exact c
      · have := p7 (by omega)
        simp [Inst.emptyB, hsp] at this
    have hfirst : s.first < j := by
      have := p6 hjp
      simp only [Inst.fullB, Bool.or_eq_false_iff, Bool.and_eq_false_iff, decide_eq_false_iff_not] at this
      rcases this.2 with h | h
      · exact absurd hsp h
      · omega
    have hsp' : (x.move s j).1.spot ≠ 0 := by rw [m8]; exact hj
    have hfi : (x.move s j).1.first = j := by rw [m8]; show (if s.spot = 0 then j else s.first) = j; rw [if_pos hsp]
    have hca : (x.move s j).1.car = s.car := by rw [m8]; rfl
    have hmt : ∀ seen, MatchS p s.must seen → MatchS p (x.move s j).1.must (bump seen j) := fun seen hm => by
      obtain ⟨i, rfl⟩ : ∃ i : Nat, j = i := ⟨j.toNat, by omega⟩
      simp only [Inst.lateB, Bool.or_eq_false_iff] at p5
      have := p5.1
      rw [has_testN (by omega)] at this
      rw [b4]
      exact hm.bump (by omega) (by omega) (by omega) this
    obtain ⟨r, rest, c', q1, q2, q3, q4⟩ := route_rest hx h0 path _ _ _ d1 v2 hsp' w2
    have hpos : ∀ i ∈ j :: r, 0 < i := fun i hi => by
      rcases List.mem_cons.1 hi with rfl | hi
      · exact p3
      · exact q2 i hi
    have hrun : x.runC (j :: r) x.car0 = (c', 0) := by rw [runC_cons v1]; exact q3
    have htimes : x.times (j :: r) = (c'.times, c'.gone, 0) := by rw [Inst.times, if_neg (by simp [hm]), hrun]; rfl
    have hg0 : x.car0.gone = 0 := rfl
    have hcgo : ∀ rs all seen, x.costGo ((j :: r) :: rs) all seen = x.costGo rs (all + c'.gone) (r.foldl bump (bump seen j)) := fun rs all seen => by
      rw [Inst.costGo, if_neg (by simp), htimes]
      simp
    rw [List.length_cons] at hf
    have hsc := s.fit hx hmay
    have hlast : (false || decide (j ≤ s.first)) = false := by rw [Bool.false_or]; exact decide_eq_false (by omega)
    rcases q4 with ⟨t1, t2, t3⟩ | ⟨path', s', d2, t1, t2, t3, t4, t5, t6, t7, t8, t9, t10, t11, t12⟩
    · subst t1
      rw [List.append_nil] at q1
      subst q1
      refine ⟨[j :: path], ?_, ?_, ?_⟩
      · rw [splitF, if_pos (by rw [idx_none _ 0 hpos]; omega), List.getD_cons_zero, hlast]
        rfl
      · have := hsc.car
        simp only [List.length_cons, List.length_nil]
        omega
      · intro all seen hms
        obtain ⟨must, k1, k2⟩ := t3 _ (hmt seen hms)
        obtain ⟨k3, k4⟩ := k1.end k2
        rw [hcgo, Inst.costGo, k3, k4]
        simp only [Bool.false_eq_true, if_false]
        congr 1
        omega
    · subst t1
      subst q1
      rw [List.length_append, List.length_cons] at hf
      obtain ⟨y1, routes, y2, y3, y4⟩ := yard_split hx hm h0 f path' s' d2 (acc ++ [j :: r]) (by omega) t4 t5 t6 t7 t11 t3
      have hlen' : path'.length ≠ 0 := fun e => y1 (List.eq_nil_of_length_eq_zero e)
      have hidx : idxI lowI 0 (j :: (r ++ 0 :: path')) = ((0 + (j :: r).length : Nat) : Int) := idx_zero (j :: r) path' 0 hpos
      rw [Nat.zero_add] at hidx
      refine ⟨(j :: r) :: routes, ?_, ?_, ?_⟩
      · rw [splitF, hidx, if_neg (by omega), if_neg, Int.toNat_natCast, List.getD_cons_zero, hlast]
        · have e1 : (j :: (r ++ 0 :: path')).drop ((j :: r).length + 1) = path' := by
            have : (j :: (r ++ 0 :: path')) = (j :: r ++ [0]) ++ path' := by simp
            rw [this, List.drop_left' (by simp)]
          have e2 : (j :: (r ++ 0 :: path')).take (j :: r).length = j :: r := by
            have : (j :: (r ++ 0 :: path')) = (j :: r) ++ (0 :: path') := by simp
            rw [this, List.take_left' rfl]
          rw [e1, e2]
          rw [t8, hfi] at y2
          rw [y2, List.append_assoc]
          rfl
        · have e3 : (j :: (r ++ 0 :: path')).getD ((j :: r).length : Int).toNat 0 = 0 := by
            have : (j :: (r ++ 0 :: path')) = (j :: r) ++ (0 :: path') := by simp
            rw [Int.toNat_natCast, this, List.getD_eq_getElem?_getD, List.getElem?_append_right (Nat.le_refl _)]
            simp
          rw [e3]
          simp only [List.length_cons, List.length_append]
          omega
      · rw [t9, hca] at y3
        simp only [List.length_cons]
        omega
      · intro all seen hms
        rw [hcgo, y4 _ _ (t12 _ (hmt seen hms))]
        congr 1
        omega
theorem tour_plain {x : Inst} (hm : x.may = true) {path : List Int} {d : Int} (hw : x.way path x.rootS d) : (splitR path).2 = 0 ∧ x.cost (splitR path).1 = (d, 0) := by
  obtain ⟨p, hx⟩ := x.fit hm
  have hp := hx.pairs
  have hc := hx.cars
  have hroot : x.rootS = { State.zero with car := 1, time := (x.stop 0).ready } := by rw [Inst.rootS, if_pos hm]
  have hms : MatchS p 0 (List.replicate (2 * x.pairs + 1).toNat 0) := by
    refine ⟨by rw [List.length_replicate]; omega, fun i hi => ?_⟩
    simp
  by_cases h0 : x.pairs = 0
  · match path, hw with
    | [], hw =>
      have hd : d = 0 := by
        obtain ⟨e1, e2 | ⟨e2, e3, _⟩⟩ := end_is hw.1
        · rw [hw.2, e2.2.2]
        · rw [hroot] at e3; exact absurd rfl e3
      have e : splitR [] = ([], 0) := rfl
      rw [e]
      refine ⟨rfl, ?_⟩
      obtain ⟨k3, k4⟩ := hms.end (fun i i1 i2 => by omega)
      rw [Inst.cost, if_neg (by simp [hm]), if_neg (by simp only [List.length_nil]; omega), Inst.costGo, k3, k4, hd]
      simp
    | j :: path, hw => exact absurd h0 (move_pairs hw.1)
  · obtain ⟨y1, routes, y2, y3, y4⟩ := yard_split hx hm h0 (path.length + 1) path x.rootS d [] (by omega) (by rw [hroot]; rfl) (by rw [hroot]; rfl) (by rw [hroot]; rfl) (by rw [hroot]) (good_root hx hm) hw
    have hf : x.rootS.first = 0 := by rw [hroot]; rfl
    have hca : x.rootS.car = 1 := by rw [hroot]
    have hmu : x.rootS.must = 0 := by rw [hroot]; rfl
    rw [hf] at y2
    rw [hca] at y3
    rw [hmu] at y4
    have hne : ¬ path.length = 0 := fun e => y1 (List.eq_nil_of_length_eq_zero e)
    rw [splitR, if_neg hne, y2]
    refine ⟨rfl, ?_⟩
    show x.cost ([] ++ routes) = (d, 0)
    rw [List.nil_append, Inst.cost, if_neg (by simp [hm]), if_neg (by omega), y4 _ _ hms]
    simp
end Go.Proofs.Ytlhmchdfmjfmgaa

/- What can be followed and ended is the tour of a plan: the law. -/
set_option maxRecDepth 4000
namespace Go.Proofs.Ytlhmchdfmjfmgaa
open Go Go.Proofs.Ytlhmchdfmjfmgaa.R
theorem splitF_len : ∀ (f : Nat) (t : List Int) (last : Int) (o : Bool) (acc : List (List Int)), (splitF f t last o acc).1.length ≤ acc.length + f
  | 0, _, _, _, _ => by simp [splitF]
  | f + 1, t, last, o, acc => by
    rw [splitF]
    split
    · split
      · simp
      · simp only [List.length_append, List.length_cons, List.length_nil]; omega
    · split
      · simp
      · have := splitF_len f (t.drop ((idxI lowI 0 t).toNat + 1)) (t.getD 0 0) (o || decide (t.getD 0 0 ≤ last)) (acc ++ [t.take (idxI lowI 0 t).toNat])
        simp only [List.length_append, List.length_cons, List.length_nil] at this
        omega
theorem splitF_small {n : Nat} : ∀ (f : Nat) (t : List Int) (last : Int) (o : Bool) (acc : List (List Int)), t.length ≤ n → (∀ r ∈ acc, r.length ≤ n) → ∀ r ∈ (splitF f t last o acc).1, r.length ≤ n
  | 0, _, _, _, _, _, _ => by simp [splitF]
  | f + 1, t, last, o, acc, ht, h => by
    have key : ∀ m ≤ t.length, ∀ r ∈ acc ++ [t.take m], r.length ≤ n := fun m hm r hr => by
      rcases List.mem_append.1 hr with hr | hr
      · exact h r hr
      · rw [List.mem_singleton.1 hr, List.length_take]; omega
    rw [splitF]
    split
    · split
      · simp
      · have := key t.length (Nat.le_refl _)
        rw [List.take_length] at this
        exact this
    · split
      · simp
      · refine splitF_small f _ _ _ _ (by rw [List.length_drop]; omega) ?_
        intro r hr
        rcases List.mem_append.1 hr with hr | hr
        · exact h r hr
        · rw [List.mem_singleton.1 hr, List.length_take]; omega
theorem splitR_small (t : List Int) : (splitR t).1.length ≤ t.length + 1 ∧ ∀ r ∈ (splitR t).1, r.length ≤ t.length := by
  rw [splitR]
  split
  · simp
  · refine ⟨?_, splitF_small _ _ _ _ _ (Nat.le_refl _) (by simp)⟩
    have := splitF_len (t.length + 1) t 0 false []
    simpa using this
end Go.Proofs.Ytlhmchdfmjfmgaa

/- What looking at few finds is a plan: the law. -/
set_option maxRecDepth 4000
namespace Go.Proofs.Ytlhmchdfmjfmgaa
open Go Go.Proofs.Ytlhmchdfmjfmgaa.R
theorem lnplans_plain {x : Inst} (hm : x.may = true) {width limit : Int} (h : (x.narrow x.rootN width limit).2.1 = true) :
    (x.narrow x.rootN width limit).1.path.length ≤ 41 ∧ (splitR (x.narrow x.rootN width limit).1.path).2 = 0 ∧ x.cost (splitR (x.narrow x.rootN width limit).1.path).1 = ((x.narrow x.rootN width limit).1.cost, 0) ∧ (x.narrow x.rootN width limit).1.cost < limit := by
  have hz : x.rootN.cost = 0 := rfl
  have hp : x.rootN.path = [] := rfl
  obtain ⟨w, c, g1, g2, g3, g4⟩ := narrow_from (x := x) (n := x.rootN) (rootS_ok x) (pos_root hm) (seen_root x) (by rw [hz]; omega) h
  have hpl := narrow_path x x.rootN width limit (rootS_ok x)
  rw [hp, List.length_nil, Nat.zero_add] at hpl
  obtain ⟨t1, t2⟩ := tour_plain hm g1
  rw [hp, List.nil_append] at g3
  refine ⟨hpl, ?_⟩
  rw [g3, g2, hz, Int.zero_add]
  exact ⟨t1, t2, by omega⟩
theorem steps_mul {W k c : Nat} (h : k ≤ c) : (W : Int) * k ≤ W * c := by
  have := Nat.mul_le_mul_left W h
  exact_mod_cast this
theorem lnplans_pure (x : Inst) (width limit : Int) (hl : x.stops.length < 2 ^ 63) : Pure P 13 [x.a, .i width, .i limit] (.b true) := by
  refine pure_of Try.func13 rfl rfl (by simp [Try.f13]) (by simp [bnd, bnd.bndL, Inst.a]) (by simp [bnd, bnd.bndL]) fun B hB hnx => ?_
  simp only [Try.f13] at hB ⊢
  refine K_run hB 100 ?_
  simp [go_sem, Inst.a]
  refine K_call rfl rfl rfl (args := []) (f := 25) (by simp [go_sem]) (by simp [go_sem, hB]) ((awake16_pure).spec _ _) ?_
  by_cases c1 : 13 < (x.stops.length : Int)
  · refine K_run hB 100 ?_
    simp [go_sem, c1]
  by_cases c2 : width < 1
  · refine K_run hB 100 ?_
    simp [go_sem, c1, c2]
  by_cases c3 : 40 < width
  · refine K_run hB 100 ?_
    simp [go_sem, c1, c2, c3]
  refine K_run hB 100 ?_
  simp [go_sem, c1, c2, c3]
  refine K_call rfl rfl rfl (args := [x.a]) (f := 28) (by simp [go_sem, Inst.a]) (by simp [go_sem, hB]) ((may_pure x hl).spec _ _) ?_
  cases hmay : x.may with
  | false =>
    refine K_run hB 100 ?_
    simp [go_sem]
  | true =>
    obtain ⟨p, hx⟩ := x.fit hmay
    have hxp := hx.pairs
    have hxc := hx.cars
    have hxf := hx.few
    have h0 := rootN_pure x hl
    have h1 := nbest_pure x x.rootN width limit (by omega) (by omega) (rootS_ok x) (by simp [Inst.rootN])
    have q0 := lnplans_plain hmay (width := width) (limit := limit)
    have qn : (x.narrow x.rootN width limit).2.1 = false → (x.narrow x.rootN width limit).1 = Node.zero := fun h => narrow_none (x := x) (n := x.rootN) (rootS_ok x) (pos_root hmay) (seen_root x) (by simp [Inst.rootN]) h
    obtain ⟨q1, q2⟩ := narrow_steps x x.rootN width limit (by omega)
    have q3 : (x.meas x.rootN.s : Int) ≤ 2 * x.pairs + x.cars - 1 := meas_rootC hx hmay
    obtain ⟨C, hC⟩ : ∃ C : Nat, (C : Int) = 2 * x.pairs + x.cars - 1 := ⟨(2 * x.pairs + x.cars - 1).toNat, by omega⟩
    obtain ⟨W, hW⟩ : ∃ W : Nat, (W : Int) = width := ⟨width.toNat, by omega⟩
    have hWn : widthN width = W := by unfold widthN; rw [if_neg c2]; omega
    rw [hWn] at q2
    have q4 := steps_mul (W := W) (k := x.meas x.rootN.s) (c := C) (by omega)
    have hWC : W * C ≤ 40 * 60 := Nat.mul_le_mul (by omega) (by omega)
    obtain ⟨G, hG⟩ : ∃ G : Nat, G = W * C := ⟨_, rfl⟩
    have hG2 : (W : Int) * C = G := by rw [hG]; exact (Int.natCast_mul W C).symm
    rw [hG2] at q4
    rw [← hG] at hWC
    have w1 := w64 (2 * x.pairs) (by omega)
    have w2 := w64 (2 * x.pairs + x.cars) (by omega)
    have w3 := w64 (2 * x.pairs + x.cars - 1) (by omega)
    have w4 : IntKind.i64.wrap (width * (2 * x.pairs + x.cars - 1)) = G := by rw [← hC, ← hW, hG2, w64 _ (by omega)]
    have w5 := w64 (1 + (G : Int)) (by omega)
    have q5 : (x.narrow x.rootN width limit).2.2 ≤ 1 + G := by omega
    clear hG2 q4 q3 q2 hC hW hG
    generalize x.rootN = rn at *
    generalize x.narrow rn width limit = A at *
    obtain ⟨n, is, st⟩ := A
    simp only at q0 qn q1 q5
    have q6 : ¬ st < 1 := by omega
    have q7 : ¬ 1 + (G : Int) < st := by omega
    refine K_run hB 100 ?_
    simp [go_sem, Inst.a]
    refine K_drawnF [10, 11] [0, 1, 2, 3, 4, 5, 6, 7, 8, 9] rfl (by rw [hB]; kernel_rfl) (by kernel_rfl) fun ht hf' => ?_
    refine K_run hB 100 ?_
    simp [go_sem, ht, hf']
    refine K_dCallP rfl rfl rfl (args := [x.a]) (f := 29) (by simp [go_sem, Inst.a]) (h0) ?_
    refine K_run hB 100 ?_
    simp [go_sem, ht, hf', Node.a, Node.cs]
    refine K_dCallP rfl rfl rfl (args := [x.a, rn.a, .i width, .i limit]) (f := 26) (by simp [go_sem, Inst.a, Node.a, Node.cs]) (h1) ?_
    refine K_run hB 100 ?_
    simp [go_sem, ht, hf', naRes, Node.a, Node.cs, w1, w2, w3, w4, w5, q6, q7]
    cases is with
    | false =>
      have := qn rfl
      subst this
      simp [go_sem, oput, Node.zero, ints]
    | true =>
      obtain ⟨t0, t1, t2, t3⟩ := q0 rfl
      obtain ⟨s1, s2⟩ := splitR_small n.path
      have hsp := split_pure n.path (by omega)
      have hco := cost_pure x (splitR n.path).1 hl (by omega) (fun r hr => by have := s2 r hr; omega)
      rw [t2] at hco
      rw [t1] at hsp
      generalize (splitR n.path).1 = pl at *
      simp [go_sem]
      refine K_call rfl rfl rfl (args := [.t (.sl (ints n.path))]) (f := 32) (by simp [go_sem]) (by simp [go_sem, hB]) ((hsp).spec _ _) ?_
      refine K_run hB 100 ?_
      simp [go_sem]
      refine K_call rfl rfl rfl (args := [x.a, .agg [.t (.sl (pl.map rowT))]]) (f := 33) (by simp [go_sem, Inst.a]) (by simp [go_sem, hB]) ((hco).spec _ _) ?_
      refine K_run hB 100 ?_
      simp [go_sem, t3]
end Go.Proofs.Ytlhmchdfmjfmgaa
