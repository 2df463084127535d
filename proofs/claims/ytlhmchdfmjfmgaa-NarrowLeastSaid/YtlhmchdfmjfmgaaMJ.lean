/- Parts of the proof: NarrowP, NarrowR, Law16, Law16l. -/
import Derived.Test.YtlhmchdfmjfmgaaMI
set_option linter.unusedVariables false
/- What looking at few finds: the plain laws. -/
set_option maxRecDepth 4000
namespace Go.Proofs.Ytlhmchdfmjfmgaa
open Go Go.Proofs.Ytlhmchdfmjfmgaa.R
theorem naGo_path (x : Inst) (W : Nat) (k : Nat) : ∀ (d : Nat) (st : Node × Bool × Int) (l : List Node) (n : Int) {K : Nat}, Level x l d K → K ≤ k → st.1.path.length ≤ k → (x.naGo W d st l n).1.path.length ≤ k
  | 0, st, l, n, K, _, _, h => h
  | d + 1, st, l, n, K, h1, h2, h3 => by
    rw [Inst.naGo]
    split
    · exact h3
    · refine naGo_path x W k d _ _ _ (h1.few W st.2.2) h2 ?_
      unfold Inst.look
      split
      · exact bests_path fun m hm => by have := h1.path m hm; omega
      · exact h3
theorem narrow_path (x : Inst) (n : Node) (w up : Int) (ho : n.s.ok) : (x.narrow n w up).1.path.length ≤ n.path.length + 41 := by
  have := meas_le x n.s
  have h := naGo_path x (widthN w) (n.path.length + x.meas n.s + 1) _ (Node.zero, false, up) _ 0 (Level.root x n ho) (Nat.le_refl _) (Nat.zero_le _)
  have : (x.narrow n w up).1.path.length ≤ n.path.length + x.meas n.s + 1 := h
  omega
theorem Lev.few {x : Inst} {l : List Node} {d : Nat} (h : Lev x l (d + 1)) (W : Nat) (up : Int) : Lev x (x.few W l up) d := (h.next up).sub fun n hn => few_mem hn
/-- What is found can be followed, and ended. -/
theorem naGo_from {x : Inst} (W : Nat) : ∀ (d : Nat) (st : Node × Bool × Int) (l : List Node) (n : Int), Lev x l d → stOk st →
    ((x.naGo W d st l n).2.1 = st.2.1 ∧ (x.naGo W d st l n).1 = st.1) ∨
    ((x.naGo W d st l n).2.1 = true ∧ ∃ m ∈ l, ∃ (w : List Int) (c : Int), x.way w m.s c ∧ (x.naGo W d st l n).1.cost = m.cost + c ∧ (x.naGo W d st l n).1.path = m.path ++ w ∧ m.cost + c < st.2.2)
  | 0, st, l, n, _, _ => .inl ⟨rfl, rfl⟩
  | d + 1, st, l, n, hl, h => by
    rw [Inst.naGo]
    split
    · exact .inl ⟨rfl, rfl⟩
    obtain ⟨k1, k2, k3⟩ := look_ok (x := x) (l := l) h
    rcases naGo_from W d (x.look st l) (x.few W l st.2.2) (IntKind.i64.wrap (n + l.length)) (hl.few W st.2.2) k1 with ⟨i1, i2⟩ | ⟨i1, m, hm, w, c, i2, i3, i4, i5⟩
    · by_cases hh : (x.bests l).2 = true ∧ (x.bests l).1.cost < st.2.2
      · have hlk : x.look st l = ((x.bests l).1, true, (x.bests l).1.cost) := by rw [Inst.look, if_pos hh]
        rw [i1, i2, hlk]
        obtain ⟨m, hm, b1, b2, b3⟩ := bests_from hh.1
        rw [end_sum hl hm b1] at b2
        exact .inr ⟨rfl, m, hm, [], _, ⟨b1, rfl⟩, b2, by rw [List.append_nil]; exact b3, by omega⟩
      · have hlk : x.look st l = st := by rw [Inst.look, if_neg hh]
        rw [i1, i2, hlk]
        exact .inl ⟨rfl, rfl⟩
    · obtain ⟨q, hq, j, hj, rfl, _⟩ := next_mem (few_mem hm)
      have hj := moves_mem hj
      have hcc := child_cost hl hq hj
      refine .inr ⟨i1, q, hq, j :: w, (x.move q.s j).2.1 + c, ⟨hj, c, i2, rfl⟩, ?_, ?_, ?_⟩
      · rw [i3, hcc]; omega
      · rw [i4]
        show (q.path ++ [j]) ++ w = _
        rw [List.append_assoc]; rfl
      · rw [hcc] at i5; omega
theorem narrow_from {x : Inst} {n : Node} {up wi : Int} (h1 : n.s.ok) (h2 : n.s.Pos) (h3 : n.s.seenAt) (h4 : 0 ≤ n.cost ∧ n.cost ≤ 1152921504606000000) (hs : (x.narrow n wi up).2.1 = true) :
    ∃ (w : List Int) (c : Int), x.way w n.s c ∧ (x.narrow n wi up).1.cost = n.cost + c ∧ (x.narrow n wi up).1.path = n.path ++ w ∧ n.cost + c < up := by
  rcases naGo_from (x := x) (widthN wi) _ (Node.zero, false, up) _ 0 (Lev.root h1 h2 h3 h4) (fun h => by cases h) with ⟨i1, _⟩ | ⟨_, m, hm, w, c, i2⟩
  · rw [Inst.narrow, i1] at hs; cases hs
  · rw [List.mem_singleton.1 hm] at i2
    exact ⟨w, c, i2⟩
theorem narrow_none {x : Inst} {n : Node} {up wi : Int} (h1 : n.s.ok) (h2 : n.s.Pos) (h3 : n.s.seenAt) (h4 : 0 ≤ n.cost ∧ n.cost ≤ 1152921504606000000) (hs : (x.narrow n wi up).2.1 = false) : (x.narrow n wi up).1 = Node.zero := by
  rcases naGo_from (x := x) (widthN wi) _ (Node.zero, false, up) _ 0 (Lev.root h1 h2 h3 h4) (fun h => by cases h) with ⟨_, i1⟩ | ⟨i1, _⟩
  · exact i1
  · rw [Inst.narrow, i1] at hs; cases hs
/-- How many steps. -/
theorem naGo_steps (x : Inst) (W : Nat) (hW : W ≤ 3000) : ∀ (d : Nat) (st : Node × Bool × Int) (l : List Node) (n : Int), l.length ≤ W → 0 ≤ n → n + 3000 * d < 9223372036854775808 → n ≤ (x.naGo W d st l n).2.2 ∧ (x.naGo W d st l n).2.2 ≤ n + W * d
  | 0, st, l, n, _, _, _ => by rw [Inst.naGo]; simp
  | d + 1, st, l, n, hl, h0, hn => by
    rw [Inst.naGo]
    have e : (W : Int) * ((d + 1 : Nat) : Int) = W * d + W := by rw [Int.natCast_add, Int.mul_add]; simp
    have e2 : (0 : Int) ≤ (W : Int) * d := Int.mul_nonneg (by omega) (by omega)
    split
    · refine ⟨Int.le_refl _, ?_⟩
      simp only
      omega
    · have hw := w64 (n + l.length) (by omega)
      obtain ⟨i1, i2⟩ := naGo_steps x W hW d (x.look st l) (x.few W l st.2.2) (IntKind.i64.wrap (n + l.length)) (few_len x W l st.2.2) (by omega) (by omega)
      refine ⟨by omega, ?_⟩
      rw [hw] at i2 ⊢
      omega
theorem narrow_steps (x : Inst) (n : Node) (wi up : Int) (hw : wi ≤ 3000) : 1 ≤ (x.narrow n wi up).2.2 ∧ (x.narrow n wi up).2.2 ≤ 1 + widthN wi * x.meas n.s := by
  have hm := meas_le x n.s
  have hW2 : widthN wi ≤ 3000 := by unfold widthN; split <;> omega
  have e : x.narrow n wi up = x.naGo (widthN wi) (x.meas n.s) (x.look (Node.zero, false, up) [n]) (x.few (widthN wi) [n] up) 1 := by
    rw [Inst.narrow, Inst.naGo, if_neg (by simp)]
    rfl
  have := naGo_steps x (widthN wi) hW2 (x.meas n.s) (x.look (Node.zero, false, up) [n]) (x.few (widthN wi) [n] up) 1 (few_len x _ _ _) (by omega) (by omega)
  rw [e]
  exact this
theorem meas_rootC {x : Inst} {p : Nat} (hx : x.Fit p) (hm : x.may = true) : (x.meas x.rootS : Int) ≤ 2 * x.pairs + x.cars - 1 := by
  have hp := hx.pairs
  have hc := hx.cars
  unfold Inst.meas
  split
  · rw [Inst.rootS, if_pos hm]
    have h6 : ((List.range (2 * x.pairs.toNat + 1)).filter fun j : Nat => decide (1 ≤ j) && !hasB ({ State.zero with car := 1, time := (x.stop 0).ready } : State).must (j : Int)).length < ((List.range (2 * x.pairs.toNat + 1)).filter fun _ => true).length :=
      filter_lt _ (a := 0) (List.mem_range.2 (by omega)) rfl (by simp) (fun _ _ => rfl)
    rw [List.filter_eq_self.2 (fun _ _ => rfl), List.length_range] at h6
    have : x.base ({ State.zero with car := 1, time := (x.stop 0).ready } : State) ≤ 2 * x.pairs.toNat + (x.cars - 1).toNat := Nat.add_le_add (Nat.le_of_lt_succ h6) (Nat.le_refl _)
    omega
  · omega
/-- A width below 1 is as 1. -/
theorem widthN_low {w : Int} (h : w ≤ 1) : widthN w = 1 := by
  unfold widthN
  split
  · rfl
  · omega
theorem narrow_low (x : Inst) (n : Node) {w : Int} (h : w ≤ 1) (up : Int) : x.narrow n w up = x.narrow n 1 up := by
  rw [Inst.narrow, Inst.narrow, widthN_low h, widthN_low (Int.le_refl 1)]
/-! With levels as wide as may be. -/
theorem potL_part (p d : Nat) (f : Node → Bool) : ∀ (l : List Node), potL p d (l.filter f) + potL p d (l.filter fun n => !f n) = potL p d l
  | [] => rfl
  | n :: l => by
    have := potL_part p d f l
    rw [List.filter_cons, List.filter_cons]
    cases f n <;> simp [potL] <;> omega
theorem potL_ins (p d : Nat) (x : Inst) (n : Node) (s : List Node) : potL p d (insK x.of n s) = potS p d n.s + potL p d s := by
  have h := potL_part p d (fun y => decide (x.of y ≤ x.of n)) s
  have e : (s.filter fun y => !decide (x.of y ≤ x.of n)) = s.filter fun y => decide (x.of n < x.of y) := by
    congr 1
    funext y
    rw [Bool.eq_iff_iff]
    simp
  rw [insK, potL_app]
  simp only [potL]
  rw [e] at h
  omega
theorem potL_sortF (p d : Nat) (x : Inst) : ∀ (l s : List Node), potL p d (l.foldl (fun s n => insK x.of n s) s) = potL p d s + potL p d l
  | [], s => by simp [potL]
  | n :: l, s => by
    rw [List.foldl_cons, potL_sortF p d x l, potL_ins, potL]
    omega
theorem potL_sort (p d : Nat) (x : Inst) (l : List Node) : potL p d (x.sortN l) = potL p d l := by
  have := potL_sortF p d x l []
  simp only [potL] at this
  rw [Inst.sortN, isort, this]
  omega
theorem pot_few {x : Inst} {p : Nat} (hx : x.Fit p) (hp3 : p ≤ 3) (d : Nat) (up : Int) {l : List Node} (h : ∀ n ∈ l, Good x p n.s) : potL p d (x.sortN (x.next l up)) ≤ potL p (d + 1) l := by
  have h2 := potL_once p d (l.flatMap (x.kids up)) []
  have h3 := pot_flat hx hp3 d up l h
  rw [potL_sort, Inst.next, onceL]
  simp only [potL] at h2
  omega
theorem good_few {x : Inst} {p : Nat} (hx : x.Fit p) {l : List Node} (h : ∀ n ∈ l, Good x p n.s) (up : Int) : ∀ m ∈ x.sortN (x.next l up), Good x p m.s := by
  intro m hm
  obtain ⟨n, hn, j, hj, rfl, _⟩ := next_mem (Inst.sortN_mem.1 hm)
  exact (good_step hx (h n hn) (moves_mem hj)).1
theorem naGo_keep (x : Inst) (W : Nat) : ∀ (d : Nat) (st : Node × Bool × Int) (l : List Node) (n : Int), stOk st → st.2.1 = true → (x.naGo W d st l n).2.1 = true ∧ (x.naGo W d st l n).1.cost ≤ st.2.2
  | 0, st, l, n, h, hs => ⟨hs, by rw [Inst.naGo]; have := h hs; simp only; omega⟩
  | d + 1, st, l, n, h, hs => by
    rw [Inst.naGo]
    split
    · exact ⟨hs, by have := h hs; simp only; omega⟩
    · obtain ⟨k1, k2, k3⟩ := look_ok (x := x) (l := l) h
      obtain ⟨j1, j2⟩ := naGo_keep x W d (x.look st l) (x.few W l st.2.2) (IntKind.i64.wrap (n + l.length)) k1 (k3 hs)
      exact ⟨j1, by omega⟩
theorem naGo_has {x : Inst} {p : Nat} (hx : x.Fit p) (hp3 : p ≤ 3) (hst : x.stops.length < 2 ^ 31) {W : Nat} (hW : 132 ≤ W) : ∀ (d : Nat) (st : Node × Bool × Int) (l : List Node) (n : Int), Lev x l d → stOk st → (∀ n ∈ l, Good x p n.s) → potL p d l ≤ 132 →
    ∀ m ∈ l, ∀ (w : List Int) (c : Int), x.way w m.s c → m.cost + c < st.2.2 → (x.naGo W d st l n).2.1 = true ∧ (x.naGo W d st l n).1.cost ≤ m.cost + c
  | 0, st, l, n, hl, _, _, _, m, hm, w, c, _, _ => by rw [hl.empty] at hm; cases hm
  | d + 1, st, l, n, hl, h, hg, hp, m, hm, w, c, hw, hlt => by
    have c1 : ¬ l.length = 0 := by
      have := List.length_pos_of_mem hm
      omega
    have hpf := Nat.le_trans (pot_few hx hp3 d st.2.2 hg) hp
    have hfe : x.few W l st.2.2 = x.sortN (x.next l st.2.2) := by
      have := potL_len p d (x.sortN (x.next l st.2.2))
      rw [Inst.few, List.take_of_length_le (by omega)]
    rw [Inst.naGo, if_neg c1, hfe]
    obtain ⟨k1, k2, k3⟩ := look_ok (x := x) (l := l) h
    match w, hw with
    | [], hw =>
      obtain ⟨b1, b2⟩ := bests_has hm hw.1
      rw [end_sum hl hm hw.1, ← hw.2] at b2
      have hlk : x.look st l = ((x.bests l).1, true, (x.bests l).1.cost) := by rw [Inst.look, if_pos ⟨b1, by omega⟩]
      obtain ⟨j1, j2⟩ := naGo_keep x W d (x.look st l) (x.sortN (x.next l st.2.2)) (IntKind.i64.wrap (n + l.length)) k1 (by rw [hlk])
      refine ⟨j1, ?_⟩
      have : (x.look st l).2.2 = (x.bests l).1.cost := by rw [hlk]
      omega
    | j :: w, hw =>
      obtain ⟨g1, e, g2, g3⟩ := hw
      obtain ⟨f, hf, q1, q2⟩ := next_way hst hl hm g1 g2 (up := st.2.2) (by omega)
      by_cases c3 : f.cost + e < (x.look st l).2.2
      · obtain ⟨i1, i2⟩ := naGo_has hx hp3 hst hW d (x.look st l) (x.sortN (x.next l st.2.2)) (IntKind.i64.wrap (n + l.length)) ((hl.next st.2.2).sub fun n hn => Inst.sortN_mem.1 hn) k1 (good_few hx hg st.2.2) hpf f (Inst.sortN_mem.2 hf) w e (by rw [q1]; exact g2) c3
        exact ⟨i1, by omega⟩
      · have hs : (x.look st l).2.1 = true := by
          unfold Inst.look at c3 ⊢
          split
          · rfl
          · rename_i hh
            rw [if_neg hh] at c3
            omega
        obtain ⟨j1, j2⟩ := naGo_keep x W d (x.look st l) (x.sortN (x.next l st.2.2)) (IntKind.i64.wrap (n + l.length)) k1 hs
        exact ⟨j1, by omega⟩
theorem narrow_has {x : Inst} {p : Nat} (hx : x.Fit p) (hm : x.may = true) (hp3 : p ≤ 3) {up wi : Int} (hw : 132 ≤ wi) {w : List Int} {c : Int} (hway : x.way w x.rootS c) (hlt : c < up) :
    (x.narrow x.rootN wi up).2.1 = true ∧ (x.narrow x.rootN wi up).1.cost ≤ c := by
  have hlen := hx.len
  have hz : x.rootN.cost = 0 := rfl
  have h1 := meas_root hx hm
  have h2 := pot_root p (by omega) (x.meas x.rootS + 1) (by omega)
  have h3 : keyM x.rootS = 0 := by rw [Inst.rootS, if_pos hm]; simp [keyM, State.zero]
  have h4 : x.rootS.yard = true := by rw [Inst.rootS, if_pos hm]; simp [State.yard, State.zero]
  have h5 : potL p (x.meas x.rootN.s + 1) [x.rootN] ≤ 132 := by
    simp only [potL, potS]
    show pot p (x.meas x.rootS + 1) (keyM x.rootS) x.rootS.yard + 0 ≤ 132
    rw [h3, h4]
    omega
  have := naGo_has hx hp3 (by omega) (W := widthN wi) (by unfold widthN; split <;> omega) (x.meas x.rootN.s + 1) (Node.zero, false, up) [x.rootN] 0 (Lev.root (rootS_ok x) (pos_root hm) (seen_root x) (by rw [hz]; omega)) (fun h => by cases h) (fun n hn => by rw [List.mem_singleton.1 hn]; exact good_root hx hm) h5 x.rootN List.mem_cons_self w c hway (by rw [hz]; simp only; omega)
  rw [hz, Int.zero_add] at this
  exact this
end Go.Proofs.Ytlhmchdfmjfmgaa

/- A good plan, by looking at few: the document's. -/
set_option maxRecDepth 4000
set_option maxHeartbeats 1000000
namespace Go.Proofs.Ytlhmchdfmjfmgaa
open Go Go.Proofs.Ytlhmchdfmjfmgaa.R
theorem rnbest_pure (x : Inst) (n : Node) (width up : Int) (hl : x.stops.length < 2 ^ 31) (hw : width ≤ 3000) (ho : n.s.ok) (hp : n.path.length < 2 ^ 29) : Pure P 27 [x.a, n.a, .i width, .i up] (naRes (x.narrow n width up)) := by
  generalize hR : x.narrow n width up = R
  refine pure_of Try.func27 rfl rfl (by simp [Try.f27]) (by simp [bnd, bnd.bndL, Inst.a, Node.a, Node.cs]) (by simp [bnd, bnd.bndL, naRes, Node.a, Node.cs]) fun B hB hnx => ?_
  simp only [Try.f27] at hB ⊢
  have hlev := Level.root x n ho
  have hmeas := meas_le x n.s
  rw [Inst.narrow] at hR
  generalize hd : x.meas n.s + 1 = d0 at *
  generalize hK : n.path.length + x.meas n.s + 1 = K at *
  have hW1 : max width 1 = (widthN width : Nat) := by unfold widthN; split <;> omega
  have hW2 : widthN width ≤ 3000 := by unfold widthN; split <;> omega
  generalize widthN width = W at *
  refine K_run hB 9 ?_
  simp [go_sem, Inst.a, Node.a, Node.cs]
  have hW3 : width < 1 → W = 1 := fun h => by omega
  have hW4 : ¬ width < 1 → width = W := fun h => by omega
  refine K_cut (α := Unit) (fun _ => True) (fun _ => ⟨sl [(2, .i W), (3, .i up), (4, .ptr 0 0), (5, .ptr 1 0), (8, .ptr 2 0)], oput (oput (oput noObj 0 (.box x.cs)) 1 (.box n.cs)) 2 (.box [.i 0, .i 0, .i 0, .i 0, .i 0, .u 0, .u 0, .u 0, .i 0, .fsl []]), 3⟩) ?_ fun _ _ => ?_
  · by_cases c0 : width < 1
    · have := hW3 c0
      refine K_run hB 100 ?_
      simp [go_sem, c0]
      exact Imp.slots (by simp [go_sem, this]) rfl rfl
    · have := hW4 c0
      refine K_run hB 100 ?_
      simp [go_sem, c0]
      exact Imp.slots (by simp [go_sem]; exact this) rfl rfl
  refine K_run hB 100 ?_
  simp [go_sem, Node.cs]
  refine K_less ((Imp.looseB (b := 2) (cs := [.i 0, .i 0, .i 0, .i 0, .i 0, .u 0, .u 0, .u 0, .i 0, .fsl []]) (by simp [oput])).trans ((Imp.looseB (b := 3) (cs := [.i 0, .i 0, .i 0, .i 0, .i 0, .u 0, .u 0, .u 0, .i 0, .fsl []]) (by simp [oput])).trans Imp.loose)) ?_
  refine K_loopP (α := Nat × (Node × Bool × Int) × List Node × Int × (Nat → AObj) × Nat) (fun (d, st, l, n, σ, nx) => Level x l d K ∧ x.naGo W d st l n = R ∧ l.length ≤ 3000 ∧ σ 0 = .box x.cs ∧ σ 2 = .box Node.zero.cs ∧ σ 3 = .box st.1.cs ∧ 3 < nx)
    (fun (d, st, l, n, σ, nx) => ⟨sl [(2, .i W), (3, .i st.2.2), (4, .ptr 0 0), (8, .ptr 2 0), (11, .ptr 3 0), (12, .b st.2.1), (13, .i n), (14, .t (.sl (nodesT l)))], σ, nx⟩) (fun a => a.1) (d0, (Node.zero, false, up), [n], 0, _, 4) ?_ (Imp.slots (by simp [go_sem, loosen, nodesT, Node.t]) rfl rfl) ?_
  · exact ⟨hlev, hR, by simp, by simp [oput, Inst.cs], by simp [oput, Node.zero, State.zero, Node.cs, ints, loosen], by simp [oput, Node.zero, State.zero, Node.cs, ints, loosen], by omega⟩
  rintro ⟨d, st, l, n, σ, nx⟩ ⟨g1, g2, g0, g3, g4, g5, g6⟩
  have hil : (nodesT l).length = l.length := List.length_map _
  have hgo : x.naGo W d st l n = match d with
    | 0 => (st.1, st.2.1, n)
    | d + 1 => if l.length = 0 then (st.1, st.2.1, n) else x.naGo W d (x.look st l) (x.few W l st.2.2) (IntKind.i64.wrap (n + l.length)) := by cases d <;> rfl
  by_cases c1 : l.length = 0
  · have hr : R = (st.1, st.2.1, n) := by
      rw [← g2, hgo]
      cases d with
      | zero => rfl
      | succ d => simp only; rw [if_pos c1]
    subst hr
    refine K_run hB 100 ?_
    simp [go_sem, hil, c1, g4, g5, Node.cs]
    rfl
  cases d with
  | zero => exact absurd (by rw [g1.empty]; rfl) c1
  | succ d =>
    simp only at hgo
    rw [if_neg c1] at hgo
    have c4 : 0 < l.length := by omega
    rw [hgo] at g2
    have hx := rexpand_pure x l st.2.2 hl (by omega) (fun m h => ⟨g1.ok m h, by have := g1.path m h; omega⟩) (fun m h => by have := g1.path m h; omega)
    have q1 := next_len x l st.2.2
    have q2 : ∀ m ∈ x.next l st.2.2, m.Fine := by
      intro m hm
      obtain ⟨k, h, j, _, rfl, _⟩ := next_mem hm
      refine ⟨move_ok x j (g1.ok k h), ?_⟩
      have := g1.path k h
      show (k.path ++ [j]).length < 2 ^ 31
      rw [List.length_append]
      simp only [List.length_cons, List.length_nil]
      omega
    have hf := rsorted_pure x (x.next l st.2.2) hl (by omega) fun m h => (q2 m h).ok
    have hlv := g1.few W st.2.2
    have hfl := few_len x W l st.2.2
    rw [Inst.few] at hlv hfl g2
    have hsl := x.sortN_len (x.next l st.2.2)
    have hlk : x.look st l = if (x.bests l).2 = true ∧ (x.bests l).1.cost < st.2.2 then ((x.bests l).1, true, (x.bests l).1.cost) else st := rfl
    generalize x.look st l = st' at *
    generalize x.next l st.2.2 = M at *
    generalize x.sortN M = S at *
    generalize x.bests l = Rb at *
    obtain ⟨b, is⟩ := Rb
    simp only at hlk
    have hSl : (nodesT S).length = S.length := List.length_map _
    have hS1 := nodesT_len S
    have hSt : (nodesT S).take W = nodesT (S.take W) := by rw [nodesT, nodesT, List.map_take]
    refine K_run hB 100 ?_
    simp [go_sem, hil, c4, g3, Inst.cs]
    refine K_call rfl rfl rfl (args := [x.a, .t (.sl (nodesT l)), .i st.2.2]) (f := 52) (by simp [go_sem, Inst.a]) (by simp [go_sem, hB]) ((hx).spec _ _) ?_
    have m0 : ¬ 0 = nx := by omega
    have m2 : ¬ 2 = nx := by omega
    have m3 : ¬ 3 = nx := by omega
    have m4 : ¬ nx = 3 := by omega
    cases is with
    | false =>
      rw [if_neg (by simp)] at hlk
      subst hlk
      refine K_run hB 100 ?_
      simp [go_sem, expRes, Node.a, Node.cs, g3, m0, Inst.cs]
      refine K_call rfl rfl rfl (args := [x.a, .t (.sl (nodesT M))]) (f := 21) (by simp [go_sem, Inst.a]) (by simp [go_sem, hB]) ((hf).spec _ _) ?_
      refine K_run hB 100 ?_
      simp [go_sem, hSl]
      refine fork_dec (fun hk => ?_) (fun hk => ?_)
      · have hk' : (W : Int) ≤ S.length := by omega
        simp [go_sem, hSl, if_pos hS1, hSt, hk', show W ≤ S.length by omega]
        refine Next.mk (d, st', S.take W, IntKind.i64.wrap (n + l.length), _, nx + 1) ?_ (Imp.slots (by simp [go_sem]) rfl rfl) (by simp only; omega)
        exact ⟨hlv, g2, by simp only; omega, by simp [oput, g3, m0, Inst.cs], by simp [oput, g4, m2, Node.cs], by simp [oput, g5, m3, Node.cs], by simp only; omega⟩
      · have hk' : S.take W = S := List.take_of_length_le (by omega)
        rw [hk'] at hlv hfl g2
        simp [go_sem]
        refine Next.mk (d, st', S, IntKind.i64.wrap (n + l.length), _, nx + 1) ?_ (Imp.slots (by simp [go_sem]) rfl rfl) (by simp only; omega)
        exact ⟨hlv, g2, by simp only; omega, by simp [oput, g3, m0, Inst.cs], by simp [oput, g4, m2, Node.cs], by simp [oput, g5, m3, Node.cs], by simp only; omega⟩
    | true =>
      by_cases c5 : b.cost < st.2.2
      · rw [if_pos ⟨rfl, c5⟩] at hlk
        subst hlk
        refine K_run hB 100 ?_
        simp [go_sem, expRes, Node.a, Node.cs, c5, m3, m4, m0, g3, g5, Inst.cs]
        refine K_call rfl rfl rfl (args := [x.a, .t (.sl (nodesT M))]) (f := 21) (by simp [go_sem, Inst.a]) (by simp [go_sem, hB]) ((hf).spec _ _) ?_
        refine K_run hB 100 ?_
        simp [go_sem, hSl]
        refine fork_dec (fun hk => ?_) (fun hk => ?_)
        · have hk' : (W : Int) ≤ S.length := by omega
          simp [go_sem, hSl, if_pos hS1, hSt, hk', show W ≤ S.length by omega]
          refine Next.mk (d, (b, true, b.cost), S.take W, IntKind.i64.wrap (n + l.length), _, nx + 1) ?_ (Imp.slots (by simp [go_sem]) rfl rfl) (by simp only; omega)
          exact ⟨hlv, g2, by simp only; omega, by simp [oput, g3, m0, Inst.cs], by simp [oput, g4, m2, Node.cs], by simp [oput, g5, m3, Node.cs], by simp only; omega⟩
        · have hk' : S.take W = S := List.take_of_length_le (by omega)
          rw [hk'] at hlv hfl g2
          simp [go_sem]
          refine Next.mk (d, (b, true, b.cost), S, IntKind.i64.wrap (n + l.length), _, nx + 1) ?_ (Imp.slots (by simp [go_sem]) rfl rfl) (by simp only; omega)
          exact ⟨hlv, g2, by simp only; omega, by simp [oput, g3, m0, Inst.cs], by simp [oput, g4, m2, Node.cs], by simp [oput, g5, m3, Node.cs], by simp only; omega⟩
      · rw [if_neg (fun h => c5 h.2)] at hlk
        subst hlk
        refine K_run hB 100 ?_
        simp [go_sem, expRes, Node.a, Node.cs, c5, g3, m0, Inst.cs]
        refine K_call rfl rfl rfl (args := [x.a, .t (.sl (nodesT M))]) (f := 21) (by simp [go_sem, Inst.a]) (by simp [go_sem, hB]) ((hf).spec _ _) ?_
        refine K_run hB 100 ?_
        simp [go_sem, hSl]
        refine fork_dec (fun hk => ?_) (fun hk => ?_)
        · have hk' : (W : Int) ≤ S.length := by omega
          simp [go_sem, hSl, if_pos hS1, hSt, hk', show W ≤ S.length by omega]
          refine Next.mk (d, st', S.take W, IntKind.i64.wrap (n + l.length), _, nx + 1) ?_ (Imp.slots (by simp [go_sem]) rfl rfl) (by simp only; omega)
          exact ⟨hlv, g2, by simp only; omega, by simp [oput, g3, m0, Inst.cs], by simp [oput, g4, m2, Node.cs], by simp [oput, g5, m3, Node.cs], by simp only; omega⟩
        · have hk' : S.take W = S := List.take_of_length_le (by omega)
          rw [hk'] at hlv hfl g2
          simp [go_sem]
          refine Next.mk (d, st', S, IntKind.i64.wrap (n + l.length), _, nx + 1) ?_ (Imp.slots (by simp [go_sem]) rfl rfl) (by simp only; omega)
          exact ⟨hlv, g2, by simp only; omega, by simp [oput, g3, m0, Inst.cs], by simp [oput, g4, m2, Node.cs], by simp [oput, g5, m3, Node.cs], by simp only; omega⟩
end Go.Proofs.Ytlhmchdfmjfmgaa

/- Looking at few: the laws are awake; the best way is what the document says. -/
set_option maxRecDepth 4000
namespace Go.Proofs.Ytlhmchdfmjfmgaa
open Go Go.Proofs.Ytlhmchdfmjfmgaa.R
theorem small_narrow : (small.narrow small.rootN 1 1152921504606846976).2 = (true, 3) ∧ (small.narrow small.rootN 1 1152921504606846976).1.cost = 12 ∧ (small.narrow small.rootN 1 1152921504606846976).1.path = [1, 2] := by decide +kernel
theorem awake16_pure : Pure P 25 [] (.b true) := by
  refine pure_of Try.func25 rfl rfl (by simp [Try.f25]) (by simp [bnd, bnd.bndL]) (by simp [bnd, bnd.bndL]) fun B hB hnx => ?_
  simp only [Try.f25] at hB ⊢
  refine K_run hB 100 ?_
  simp [go_sem]
  refine K_call rfl rfl rfl (args := []) (f := 36) (by simp [go_sem]) (by simp [go_sem, hB]) ((small_pure).spec _ _) ?_
  have hp := parse_pure smallB (by decide) (by decide)
  rw [small_parse] at hp
  refine K_run hB 100 ?_
  simp [go_sem, small_bytes]
  refine K_call rfl rfl rfl (args := [.t (.sl (byt smallB))]) (f := 35) (by simp [go_sem]) (by simp [go_sem, hB]) ((hp).spec _ _) ?_
  have hl : small.stops.length < 2 ^ 31 := by decide
  have hr := root_pureS small (by omega)
  have hx := nbest_pure small small.rootN 1 1152921504606846976 hl (by decide) (rootS_ok small) (by simp [Inst.rootN])
  obtain ⟨h1, h2, h3⟩ := small_narrow
  rw [Inst.rootN] at *
  generalize small.narrow ⟨small.rootS, 0, []⟩ 1 1152921504606846976 = R at *
  obtain ⟨m, is, n⟩ := R
  simp only [Prod.mk.injEq] at h1
  obtain ⟨rfl, rfl⟩ := h1
  simp only at h2 h3
  generalize small.rootS = r at *
  generalize small = x at *
  refine K_run hB 100 ?_
  simp [go_sem, Inst.a]
  refine K_drawnF [9, 10] [0, 1, 2, 3, 4, 5, 6, 7, 8] rfl (by rw [hB]; kernel_rfl) (by kernel_rfl) fun ht hf' => ?_
  refine K_run hB 100 ?_
  simp [go_sem, ht, hf']
  refine K_dCallP rfl rfl rfl (args := [x.a]) (f := 38) (by simp [go_sem, Inst.a]) (hr) ?_
  refine K_run hB 100 ?_
  simp [go_sem, ht, hf', State.a, State.cs]
  refine K_dCallP rfl rfl rfl (args := [x.a, .agg [.i r.spot, .i r.car, .i r.time, .i r.load, .i r.first, .u r.must, .u r.can, .u r.on, .i 0, .fsl []], .i 1, .i 1152921504606846976]) (f := 26) (by simp [go_sem, Inst.a]) (Pure.loose hx (by simp [bnd, bnd.bndL, Inst.a])) ?_
  refine K_run hB 100 ?_
  simp [go_sem, ht, hf', naRes, Node.a, Node.cs, h2, h3, ints]
theorem lnbest_pure (x : Inst) (n : Node) (width up : Int) (hl : x.stops.length < 2 ^ 63) (ho : n.s.ok) (hp : n.path.length < 2 ^ 63) : Pure P 7 [x.a, n.a, .i width, .i up] (.b true) := by
  refine pure_of Try.func7 rfl rfl (by simp [Try.f7]) (by simp [bnd, bnd.bndL, Inst.a, Node.a, Node.cs]) (by simp [bnd, bnd.bndL]) fun B hB hnx => ?_
  simp only [Try.f7] at hB ⊢
  have hpl : (ints n.path).length = n.path.length := List.length_map _
  refine K_run hB 100 ?_
  simp [go_sem, Inst.a, Node.a, Node.cs]
  refine K_call rfl rfl rfl (args := []) (f := 25) (by simp [go_sem]) (by simp [go_sem, hB]) ((awake16_pure).spec _ _) ?_
  by_cases c1 : 9 < (x.stops.length : Int)
  · refine K_run hB 100 ?_
    simp [go_sem, c1]
  by_cases c2 : 40 < width
  · refine K_run hB 100 ?_
    simp [go_sem, c1, c2]
  by_cases c3 : 100 < (n.path.length : Int)
  · refine K_run hB 100 ?_
    simp [go_sem, c1, c2, c3, hpl]
  have h1 := nbest_pure x n width up (by omega) (by omega) ho (by omega)
  have h2 := rnbest_pure x n width up (by omega) (by omega) ho (by omega)
  have hq := narrow_path x n width up ho
  generalize x.narrow n width up = A at *
  obtain ⟨m, a, i⟩ := A
  simp only at hq
  have hq2 : m.path.length < 2 ^ 63 := by omega
  have h3 := rsameN_pure [m] [m] (by simp) (by simp) (by simpa using hq2) (by simpa using hq2)
  simp only [decide_true] at h3
  refine K_run hB 100 ?_
  simp [go_sem, c1, c2, c3, hpl]
  refine K_call rfl rfl rfl (args := [x.a, n.a, .i width, .i up]) (f := 26) (by simp [go_sem, Inst.a, Node.a, Node.cs]) (by simp [go_sem, hB]) ((h1).spec _ _) ?_
  refine K_run hB 100 ?_
  simp [go_sem, naRes, Node.a, Node.cs]
  refine K_call rfl rfl rfl (args := [x.a, n.a, .i width, .i up]) (f := 27) (by simp [go_sem, Inst.a, Node.a, Node.cs]) (by simp [go_sem, hB]) ((h2).spec _ _) ?_
  refine K_run hB 100 ?_
  simp [go_sem, naRes, Node.a, Node.cs]
  refine K_call rfl rfl rfl (args := [.fsl (nodesT [m]), .fsl (nodesT [m])]) (f := 19) (by simp [go_sem, nodesT, Node.t]) (by simp [go_sem, hB]) ((Pure.loose h3 (by simp [bnd])).spec _ _) ?_
  refine K_run hB 100 ?_
  simp [go_sem]
end Go.Proofs.Ytlhmchdfmjfmgaa

/- Looking at few finds nothing that costs less than looking at all does: the law. -/
set_option maxRecDepth 4000
namespace Go.Proofs.Ytlhmchdfmjfmgaa
open Go Go.Proofs.Ytlhmchdfmjfmgaa.R
theorem lnleast_plain {x : Inst} {p : Nat} (hx : x.Fit p) (hm : x.may = true) (hp3 : p ≤ 3) {width up : Int} (hall : (x.exact x.rootN up 3000).2.2.1 = true) :
    ((x.narrow x.rootN width up).2.1 = true → (x.exact x.rootN up 3000).2.1 = true ∧ (x.exact x.rootN up 3000).1.cost ≤ (x.narrow x.rootN width up).1.cost) ∧
    (x.narrow x.rootN 3000 up).2.1 = (x.exact x.rootN up 3000).2.1 ∧ (x.narrow x.rootN 3000 up).1.cost = (x.exact x.rootN up 3000).1.cost := by
  have hlen := hx.len
  have hz : x.rootN.cost = 0 := rfl
  have hfrom : ∀ w, (x.narrow x.rootN w up).2.1 = true → (x.exact x.rootN up 3000).2.1 = true ∧ (x.exact x.rootN up 3000).1.cost ≤ (x.narrow x.rootN w up).1.cost := fun w h => by
    obtain ⟨p, c, g1, g2, _, g4⟩ := narrow_from (x := x) (n := x.rootN) (wi := w) (up := up) (rootS_ok x) (pos_root hm) (seen_root x) (by rw [hz]; omega) h
    have := exact_has (x := x) (by omega) (n := x.rootN) (rootS_ok x) (pos_root hm) (seen_root x) (by rw [hz]; omega) hall g1 (by rw [hz]; omega)
    rw [g2]
    exact this
  refine ⟨hfrom width, ?_⟩
  cases he : (x.exact x.rootN up 3000).2.1 with
  | true =>
    obtain ⟨w, c, g1, g2, _, g4⟩ := exact_from (x := x) (n := x.rootN) (rootS_ok x) (pos_root hm) (seen_root x) (by rw [hz]; omega) he
    obtain ⟨k1, k2⟩ := narrow_has hx hm hp3 (wi := 3000) (by omega) g1 (up := up) (by omega)
    have := (hfrom 3000 k1).2
    exact ⟨k1, by omega⟩
  | false =>
    have h1 := exact_none (x := x) (n := x.rootN) (rootS_ok x) (pos_root hm) (seen_root x) (by rw [hz]; omega) he
    cases hn : (x.narrow x.rootN 3000 up).2.1 with
    | true => rw [(hfrom 3000 hn).1] at he; cases he
    | false =>
      have h2 := narrow_none (x := x) (n := x.rootN) (rootS_ok x) (pos_root hm) (seen_root x) (by rw [hz]; omega) hn
      rw [h1, h2]
      exact ⟨rfl, rfl⟩
theorem lnleast_pure (x : Inst) (width : Int) (hl : x.stops.length < 2 ^ 63) : Pure P 12 [x.a, .i width] (.b true) := by
  refine pure_of Try.func12 rfl rfl (by simp [Try.f12]) (by simp [bnd, bnd.bndL, Inst.a]) (by simp [bnd, bnd.bndL]) fun B hB hnx => ?_
  simp only [Try.f12] at hB ⊢
  refine K_run hB 100 ?_
  simp [go_sem, Inst.a]
  refine K_call rfl rfl rfl (args := []) (f := 25) (by simp [go_sem]) (by simp [go_sem, hB]) ((awake16_pure).spec _ _) ?_
  by_cases c1 : 7 < (x.stops.length : Int)
  · refine K_run hB 100 ?_
    simp [go_sem, c1]
  by_cases c2 : width < 1
  · refine K_run hB 100 ?_
    simp [go_sem, c1, c2]
  by_cases c3 : 3000 < width
  · refine K_run hB 100 ?_
    simp [go_sem, c1, c2, c3]
  refine K_run hB 100 ?_
  simp [go_sem, c1, c2, c3]
  refine K_call rfl rfl rfl (args := [x.a]) (f := 28) (by simp [go_sem, Inst.a]) (by simp [go_sem, hB]) ((may_pure x hl).spec _ _) ?_
  cases hmay : x.may with
  | false =>
    refine K_run hB 100 ?_
    simp [go_sem]
  | true =>
    obtain ⟨p, hx⟩ := x.fit hmay
    have hlen := hx.len
    have h0 := rootN_pure x hl
    have h1 := nbest_pure x x.rootN width 1152921504606846976 (by omega) (by omega) (rootS_ok x) (by simp [Inst.rootN])
    have h2 := best_pure x x.rootN 1152921504606846976 3000 (by omega) (by omega) (rootS_ok x) (by simp [Inst.rootN])
    have h3 := nbest_pure x x.rootN 3000 1152921504606846976 (by omega) (by omega) (rootS_ok x) (by simp [Inst.rootN])
    have q0 : (x.exact x.rootN 1152921504606846976 3000).2.2.1 = true := exact_all hx hmay (by omega) _ (by omega)
    obtain ⟨q1, q2, q3⟩ := lnleast_plain hx hmay (by omega) (width := width) q0
    generalize x.rootN = rn at *
    generalize x.narrow rn width 1152921504606846976 = A at *
    generalize x.exact rn 1152921504606846976 3000 = D at *
    generalize x.narrow rn 3000 1152921504606846976 = E at *
    obtain ⟨n, is, i⟩ := A
    obtain ⟨m, some', all, k⟩ := D
    obtain ⟨w, wide, j⟩ := E
    simp only at q0 q1 q2 q3
    subst q0 q2
    refine K_run hB 100 ?_
    simp [go_sem, Inst.a]
    refine K_drawnF [9, 10] [0, 1, 2, 3, 4, 5, 6, 7, 8] rfl (by rw [hB]; kernel_rfl) (by kernel_rfl) fun ht hf' => ?_
    refine K_run hB 100 ?_
    simp [go_sem, ht, hf']
    refine K_dCallP rfl rfl rfl (args := [x.a]) (f := 29) (by simp [go_sem, Inst.a]) (h0) ?_
    refine K_run hB 100 ?_
    simp [go_sem, ht, hf', Node.a, Node.cs]
    refine K_dCallP rfl rfl rfl (args := [x.a, rn.a, .i width, .i 1152921504606846976]) (f := 26) (by simp [go_sem, Inst.a, Node.a, Node.cs]) (h1) ?_
    refine K_run hB 100 ?_
    simp [go_sem, ht, hf', naRes, Node.a, Node.cs]
    refine K_drawnF [9, 10] [0, 1, 2, 3, 4, 5, 6, 7, 8] rfl (by rw [hB]; kernel_rfl) (by kernel_rfl) fun ht hf' => ?_
    refine K_run hB 100 ?_
    simp [go_sem, ht, hf']
    refine K_dCallP rfl rfl rfl (args := [x.a]) (f := 29) (by simp [go_sem, Inst.a]) (h0) ?_
    refine K_run hB 100 ?_
    simp [go_sem, ht, hf', Node.a, Node.cs]
    refine K_dCallP rfl rfl rfl (args := [x.a, rn.a, .i 1152921504606846976, .i 3000]) (f := 31) (by simp [go_sem, Inst.a, Node.a, Node.cs]) (h2) ?_
    refine K_run hB 100 ?_
    simp [go_sem, ht, hf', exRes4, Node.a, Node.cs]
    refine K_drawnF [8, 9] [0, 1, 2, 3, 4, 5, 6, 7] rfl (by rw [hB]; kernel_rfl) (by kernel_rfl) fun ht hf' => ?_
    refine K_run hB 100 ?_
    simp [go_sem, ht, hf']
    refine K_dCallP rfl rfl rfl (args := [x.a]) (f := 29) (by simp [go_sem, Inst.a]) (h0) ?_
    refine K_run hB 100 ?_
    simp [go_sem, ht, hf', Node.a, Node.cs]
    refine K_dCallP rfl rfl rfl (args := [x.a, rn.a, .i 3000, .i 1152921504606846976]) (f := 26) (by simp [go_sem, Inst.a, Node.a, Node.cs]) (h3) ?_
    refine K_run hB 100 ?_
    simp [go_sem, ht, hf', naRes, Node.a, Node.cs, q3]
    cases is with
    | false => simp [go_sem, oput, q3]
    | true =>
      obtain ⟨f1, f2⟩ := q1 rfl
      subst f1
      simp [go_sem, oput, q3, f2]
end Go.Proofs.Ytlhmchdfmjfmgaa
