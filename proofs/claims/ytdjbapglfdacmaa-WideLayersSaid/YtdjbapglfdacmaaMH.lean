/- Parts of the proof: WideQ, Build, Sched, Sched2, Sched3, PlanC, ToursP, PlansP, WideT, Law17, Law17d. -/
import Derived.Test.YtdjbapglfdacmaaMG
set_option linter.unusedVariables false
/- Diagrams of all ways: layers, plainly; no way costs less than a diagram tells. -/
set_option maxRecDepth 4000
namespace Go.Proofs.Ytdjbapglfdacmaa
open Go Go.Proofs.Ytdjbapglfdacmaa.R
structure Diag where
  layers : List (List Node)
  low : Int
  exact : Bool
  sure : Nat
  deriving DecidableEq
def Diag.of (ls : List (List Node)) (low : Int) (sq : Option Nat) : Diag := ⟨ls, low, sq.isNone, sq.getD ls.length⟩
def lowB (low : Int) (b : Node × Bool) : Int := if b.2 = true then min low b.1.cost else low
def Inst.buildGo (x : Inst) (w up dp : Int) : Nat → List (List Node) → Int → Option Nat → List Node → Diag
  | 0, ls, low, sq, _ => Diag.of ls low sq
  | f + 1, ls, low, sq, l => if l = [] then Diag.of ls low sq else
    if dp < ((ls.length + 1 : Nat) : Int) then Diag.of (ls ++ [l]) (lowB low (x.bests l)) sq else
    if x.mostN w < (x.next l up).length then x.buildGo w up dp f (ls ++ [l]) (lowB low (x.bests l)) (some (sq.getD (ls.length + 1))) (x.squeeze (x.next l up) w)
    else x.buildGo w up dp f (ls ++ [l]) (lowB low (x.bests l)) sq (x.next l up)
def Inst.build (x : Inst) (n : Node) (w up : Int) : Diag := x.buildGo w up (x.deep - n.path.length) ((x.deep - n.path.length).toNat + 2) [] up none [n]
/-- What is known of a layer's nodes, so many layers ahead of the last one. -/
structure WL (x : Inst) (l : List Node) (r : Nat) : Prop where
  is : ∀ n ∈ l, n.s.Is n.s.spot
  cost : ∀ n ∈ l, 0 ≤ n.cost ∧ n.cost + 14143 * ((r : Int) + 41) ≤ 1152921504606846976
theorem WL.lev {x : Inst} {l : List Node} {r : Nat} (h : WL x l r) : Lev x l 41 :=
  ⟨fun n hn => (h.is n hn).ok, fun n _ => by have := meas_le x n.s; omega, fun n hn => (h.is n hn).pos, fun n hn => (h.is n hn).seen, fun n hn => by have := h.cost n hn; omega⟩
theorem child_spot {x : Inst} {s : State} {j : Int} (h : (x.move s j).2.2 = true) : 0 ≤ (x.move s j).1.spot ∧ (x.move s j).1.spot < x.stops.length := by
  by_cases hj : j = 0
  · subst hj
    obtain ⟨h1, h2, h3, h4⟩ := move_home h
    obtain ⟨p, hx⟩ := x.fit h1
    have := hx.len
    rw [h4]
    show 0 ≤ (0 : Int) ∧ (0 : Int) < x.stops.length
    omega
  · obtain ⟨h1, h2, h3, h4, _, _, _, h5⟩ := move_pos h hj
    obtain ⟨p, hx⟩ := x.fit h1
    have := hx.len
    have := hx.pairs
    rw [h5]
    show 0 ≤ j ∧ j < x.stops.length
    omega
theorem State.Is.move {x : Inst} {s : State} {j i : Int} (h : s.Is i) (hj : (x.move s j).2.2 = true) : (x.move s j).1.Is (x.move s j).1.spot := ⟨rfl, move_ok x j h.ok, pos_move h.pos h.ok hj, seen_step hj⟩
theorem WL.next {x : Inst} {l : List Node} {r : Nat} (h : WL x l (r + 1)) (up : Int) : WL x (x.next l up) r ∧ ∀ m ∈ x.next l up, 0 ≤ m.s.spot ∧ m.s.spot < x.stops.length := by
  have key : ∀ m ∈ x.next l up, ∃ n ∈ l, ∃ j, (x.move n.s j).2.2 = true ∧ m = x.child n j := by
    intro m hm
    obtain ⟨n, hn, j, hj, e, _⟩ := next_mem hm
    exact ⟨n, hn, j, moves_mem hj, e⟩
  refine ⟨⟨?_, ?_⟩, ?_⟩ <;> (intro m hm; obtain ⟨n, hn, j, hj, rfl⟩ := key m hm)
  · exact (h.is n hn).move hj
  · rw [child_cost h.lev hn hj]
    have := h.cost n hn
    have := move_cost hj
    omega
  · exact child_spot hj
theorem WL.squeeze {x : Inst} {l : List Node} {r : Nat} (h : WL x l r) (w : Int) : WL x (x.squeeze l w) r := by
  have key : ∀ m ∈ x.squeeze l w, m.s.Is m.s.spot ∧ ∃ n ∈ l, m.cost = n.cost := by
    intro m hm
    rcases squeeze_mem hm with hm | ⟨i, g, h1, h2, h3, rfl⟩
    · exact ⟨h.is m hm, m, hm, rfl⟩
    · have hne2 : g.map Node.s ≠ [] := by simpa using h1
      obtain ⟨j1, j2, j3, j4⟩ := joinL_same hne2 (i := (i : Int)) fun t ht => by
        obtain ⟨q, hq, rfl⟩ := List.mem_map.1 ht
        exact (h3 q hq).2
      have j5 := j4 fun t ht => by
        obtain ⟨q, hq, rfl⟩ := List.mem_map.1 ht
        have := h.is q (h3 q hq).1
        rw [(h3 q hq).2] at this
        exact this
      obtain ⟨n, hn, e⟩ := (costL_is h1).2
      exact ⟨⟨rfl, j5.ok, j5.pos, j5.seen⟩, n, (h3 n hn).1, e⟩
  refine ⟨fun m hm => (key m hm).1, fun m hm => ?_⟩
  obtain ⟨_, n, hn, e⟩ := key m hm
  rw [e]
  exact h.cost n hn
/-- The layer that so many moves lead to, if none is squeezed. -/
def Inst.layN (x : Inst) (up : Int) (n : Node) : Nat → List Node
  | 0 => [n]
  | k + 1 => x.next (x.layN up n k) up
structure SureI (x : Inst) (up : Int) (n : Node) (ls : List (List Node)) (sq : Option Nat) : Prop where
  lay : ∀ i, i < sq.getD ls.length → ls[i]? = some (x.layN up n i)
  le : sq.getD ls.length ≤ ls.length
theorem SureI.push {x : Inst} {up : Int} {n : Node} {ls : List (List Node)} {sq : Option Nat} {l : List Node} (h : SureI x up n ls sq) (hl : sq = none → l = x.layN up n ls.length) : SureI x up n (ls ++ [l]) sq := by
  cases sq with
  | some k =>
    have h1 := h.lay
    have h2 := h.le
    simp only [Option.getD_some] at h1 h2
    refine ⟨fun i hi => ?_, ?_⟩
    · simp only [Option.getD_some] at hi
      rw [List.getElem?_append_left (by omega)]
      exact h1 i hi
    · simp only [Option.getD_some, List.length_append, List.length_cons]; omega
  | none =>
    have h1 := h.lay
    simp only [Option.getD_none] at h1
    refine ⟨fun i hi => ?_, by simp⟩
    simp only [Option.getD_none, List.length_append, List.length_cons, List.length_nil] at hi
    by_cases e : i < ls.length
    · rw [List.getElem?_append_left e]; exact h1 i e
    · have : i = ls.length := by omega
      subst this
      rw [List.getElem?_append_right (Nat.le_refl _), Nat.sub_self, hl rfl]
      rfl
/-- What holds of a whole diagram. -/
structure Diag.Ok (x : Inst) (up : Int) (n : Node) (d : Diag) : Prop where
  lay : ∀ i, i < d.sure → d.layers[i]? = some (x.layN up n i)
  le : d.sure ≤ d.layers.length
  whole : d.exact = decide (d.sure = d.layers.length)
  pos : 1 ≤ d.sure
theorem buildGo_sure {x : Inst} (w up dp : Int) (n : Node) : ∀ (f : Nat) (ls : List (List Node)) (low : Int) (sq : Option Nat) (l : List Node), SureI x up n ls sq → (sq = none → l = x.layN up n ls.length) → (∀ k, sq = some k → 1 ≤ k ∧ (l ≠ [] ∨ k < ls.length)) → (ls = [] → l ≠ []) → 1 ≤ f →
    (∀ k, sq = some k → ls.length + f ≥ 1) → (f : Int) + ls.length ≥ dp + 2 → ((ls.length : Int) ≤ dp ∨ ls = []) → (x.buildGo w up dp f ls low sq l).Ok x up n
  | 0, ls, low, sq, l, _, _, _, _, hf, _, _, _ => absurd hf (by omega)
  | f + 1, ls, low, sq, l, h, hn, hs, h0, hf, hq, hfu, hle => by
    rw [Inst.buildGo]
    by_cases c0 : l = []
    · rw [if_pos c0]
      refine ⟨h.lay, h.le, ?_, ?_⟩
      · cases sq with
        | none => simp [Diag.of]
        | some k =>
          have := (hs k rfl).2
          have : k < ls.length := this.resolve_left fun e => e c0
          show false = decide (k = ls.length)
          exact (decide_eq_false (by omega)).symm
      · cases sq with
        | none =>
          have : ls ≠ [] := fun e => h0 e c0
          have := List.length_pos_iff.2 this
          simp only [Diag.of, Option.getD_none]; omega
        | some k => exact (hs k rfl).1
    rw [if_neg c0]
    have hp := h.push hn
    by_cases c1 : dp < ((ls.length + 1 : Nat) : Int)
    · rw [if_pos c1]
      refine ⟨hp.lay, hp.le, ?_, ?_⟩
      · cases sq with
        | none => simp [Diag.of]
        | some k =>
          have := h.le
          simp only [Option.getD_some] at this
          show false = decide (k = (ls ++ [l]).length)
          exact (decide_eq_false (by rw [List.length_append]; simp only [List.length_cons]; omega)).symm
      · cases sq with
        | none => simp [Diag.of]
        | some k => exact (hs k rfl).1
    rw [if_neg c1]
    have hlen : (ls ++ [l]).length = ls.length + 1 := by simp
    split
    · rename_i hov
      have hne : x.next l up ≠ [] := fun e => by rw [e] at hov; simp at hov
      obtain ⟨q, hq2⟩ := List.exists_mem_of_ne_nil _ hne
      obtain ⟨m, hm, j, hj, rfl, _⟩ := next_mem hq2
      have hsp := child_spot (moves_mem hj)
      obtain ⟨t, ht, _⟩ := squeeze_cov w hq2 hsp.1 hsp.2
      have hne2 : x.squeeze (x.next l up) w ≠ [] := fun e => by rw [e] at ht; cases ht
      refine buildGo_sure w up dp n f _ _ _ _ ?_ (fun e => by cases e) (fun k hk => ⟨?_, .inl hne2⟩) (fun _ => hne2) (by omega) (fun _ _ => by omega) (by rw [hlen]; omega) (.inl (by rw [hlen]; omega))
      · cases sq with
        | none =>
          simp only [Option.getD_none]
          refine ⟨fun i hi => hp.lay i ?_, by simp⟩
          simp only [Option.getD_some] at hi
          simp only [Option.getD_none, hlen]
          exact hi
        | some k => exact hp
      · cases hk
        cases sq with
        | none => simp
        | some k => exact (hs k rfl).1
    · refine buildGo_sure w up dp n f _ _ _ _ hp (fun e => ?_) (fun k hk => ⟨(hs k hk).1, .inr ?_⟩) (fun e => by simp at e) (by omega) (fun _ _ => by omega) (by rw [hlen]; omega) (.inl (by rw [hlen]; omega))
      · rw [hlen, Inst.layN, ← hn e]
      · have := h.le
        rw [hk] at this
        simp only [Option.getD_some] at this
        omega
theorem buildGo_lay {x : Inst} (w up dp : Int) : ∀ (f : Nat) (ls : List (List Node)) (low : Int) (sq : Option Nat) (l : List Node), l.length ≤ x.mostN w → (∀ k ∈ ls.drop 1, k ≠ [] ∧ k.length ≤ x.mostN w) →
    ∀ k ∈ (x.buildGo w up dp f ls low sq l).layers.drop 1, k ≠ [] ∧ k.length ≤ x.mostN w
  | 0, ls, low, sq, l, _, h => h
  | f + 1, ls, low, sq, l, hl, h => by
    rw [Inst.buildGo]
    split
    · exact h
    rename_i c0
    have h2 : ∀ k ∈ (ls ++ [l]).drop 1, k ≠ [] ∧ k.length ≤ x.mostN w := by
      intro k hk
      cases ls with
      | nil => simp at hk
      | cons a ls =>
        rw [List.cons_append, List.drop_succ_cons, List.drop_zero] at hk
        rcases List.mem_append.1 hk with hk | hk
        · exact h k (by simpa using hk)
        · rw [List.mem_singleton.1 hk]; exact ⟨c0, hl⟩
    split
    · exact h2
    split
    · exact buildGo_lay w up dp f _ _ _ _ (squeeze_len x _ w) h2
    · exact buildGo_lay w up dp f _ _ _ _ (by omega) h2
theorem buildGo_count {x : Inst} (w up dp : Int) : ∀ (f : Nat) (ls : List (List Node)) (low : Int) (sq : Option Nat) (l : List Node), ((x.buildGo w up dp f ls low sq l).layers.length : Int) ≤ max ((ls.length : Int) + 1) (dp + 1)
  | 0, ls, low, sq, l => by show (ls.length : Int) ≤ _; omega
  | f + 1, ls, low, sq, l => by
    have hlen : (ls ++ [l]).length = ls.length + 1 := by simp
    rw [Inst.buildGo]
    split
    · show (ls.length : Int) ≤ _; omega
    split
    · show ((ls ++ [l]).length : Int) ≤ _; omega
    split
    · have := buildGo_count (x := x) w up dp f (ls ++ [l]) (lowB low (x.bests l)) (some (sq.getD (ls.length + 1))) (x.squeeze (x.next l up) w); omega
    · have := buildGo_count (x := x) w up dp f (ls ++ [l]) (lowB low (x.bests l)) sq (x.next l up); omega
end Go.Proofs.Ytdjbapglfdacmaa

/- Diagrams of all ways: wide.Build. -/
set_option maxRecDepth 4000
set_option maxHeartbeats 2000000
namespace Go.Proofs.Ytdjbapglfdacmaa
open Go Go.Proofs.Ytdjbapglfdacmaa.R
/-- Rows of rows of nodes. -/
def lysT (ls : List (List Node)) : List (List T) := ls.map fun l => [.sl (nodesT l)]
def Diag.cs (d : Diag) : List AV := [.t (.sl (lysT d.layers)), .i d.low, .b d.exact, .i d.sure]
def Diag.a (d : Diag) : AV := .agg d.cs
structure WFine (l : List Node) (K : Nat) : Prop where
  ok : ∀ n ∈ l, n.s.ok
  path : ∀ n ∈ l, n.path.length ≤ K
theorem WFine.next {x : Inst} {l : List Node} {K : Nat} (h : WFine l K) (up : Int) : WFine (x.next l up) (K + 1) := by
  refine ⟨?_, ?_⟩ <;> (intro m hm; obtain ⟨n, hn, j, hj, rfl, _⟩ := next_mem hm)
  · exact move_ok x j (h.ok n hn)
  · have := h.path n hn
    show (n.path ++ [j]).length ≤ K + 1
    rw [List.length_append]
    simp only [List.length_cons, List.length_nil]
    omega
theorem fold_ok : ∀ (l : List State) (s : State), s.ok → (∀ t ∈ l, t.ok) → (l.foldl State.join s).ok
  | [], s, h, _ => h
  | t :: l, s, h, k => fold_ok l (s.join t) (join_ok h (k t List.mem_cons_self)) fun u hu => k u (List.mem_cons_of_mem _ hu)
theorem joinL_ok {l : List State} (h : ∀ t ∈ l, t.ok) : (joinL l).1.ok := by
  cases l with
  | nil => exact State.zero_ok
  | cons s l =>
    rw [joinL]
    split
    · exact State.zero_ok
    · exact fold_ok l s (h s List.mem_cons_self) fun t ht => h t (List.mem_cons_of_mem _ ht)
theorem WFine.squeeze {x : Inst} {l : List Node} {K : Nat} (h : WFine l K) (w : Int) : WFine (x.squeeze l w) K := by
  refine ⟨fun m hm => ?_, fun m hm => ?_⟩
  · rcases squeeze_mem hm with hm | ⟨i, g, h1, h2, h3, rfl⟩
    · exact h.ok m hm
    · exact joinL_ok fun t ht => by
        obtain ⟨q, hq, rfl⟩ := List.mem_map.1 ht
        exact h.ok q (h3 q hq).1
  · rcases squeeze_mem hm with hm | ⟨i, g, h1, h2, h3, rfl⟩
    · exact h.path m hm
    · exact Nat.zero_le _
theorem deep_le (x : Inst) : 0 ≤ x.deep ∧ x.deep ≤ 39 := by
  unfold Inst.deep
  split
  · rename_i hm
    obtain ⟨p, hx⟩ := x.fit hm
    have := hx.pairs
    have := hx.few
    have := hx.cars
    omega
  · omega
theorem next_few {x : Inst} {l : List Node} {up w : Int} (hw : w ≤ 3000) (h : (x.next l up).length ≤ x.mostN w) : (x.next l up).length ≤ 3000 := by
  cases hm : x.may with
  | true =>
    obtain ⟨p, hx⟩ := x.fit hm
    have := hx.len
    have := hx.few
    unfold Inst.mostN at h
    omega
  | false =>
    have : x.next l up = [] := by
      refine List.eq_nil_iff_forall_not_mem.2 fun m hm2 => ?_
      obtain ⟨n, hn, j, hj, _⟩ := next_mem hm2
      have := (move_may (moves_mem hj)).1
      rw [hm] at this; cases this
    rw [this]; simp
theorem most_few {x : Inst} {l : List Node} {up w : Int} (hw : w ≤ 3000) (h : x.mostN w < (x.next l up).length) : x.mostN w ≤ 3000 := by
  cases hm : x.may with
  | true =>
    obtain ⟨p, hx⟩ := x.fit hm
    have := hx.len
    have := hx.few
    unfold Inst.mostN
    omega
  | false =>
    have : x.next l up = [] := by
      refine List.eq_nil_iff_forall_not_mem.2 fun m hm2 => ?_
      obtain ⟨n, hn, j, hj, _⟩ := next_mem hm2
      have := (move_may (moves_mem hj)).1
      rw [hm] at this; cases this
    rw [this] at h; simp at h
theorem build_pure (x : Inst) (n : Node) (w up : Int) (hl : x.stops.length < 2 ^ 31) (hw : w ≤ 3000) (ho : n.s.ok) (hp : n.path.length < 2 ^ 29) : Pure P 14 [x.a, n.a, .i w, .i up] ((x.build n w up).a) := by
  generalize hR : x.build n w up = R
  refine pure_of Try.func14 rfl rfl (by simp [Try.f14]) (by simp [bnd, bnd.bndL, Inst.a, Node.a, Node.cs]) (by simp [bnd, bnd.bndL, Diag.a, Diag.cs]) fun B hB hnx => ?_
  simp only [Try.f14] at hB ⊢
  have hdeep := deep_pure x (by omega)
  have hdl := deep_le x
  have hown := ownN_pure [n] (by simp) (fun m hm => by rw [List.mem_singleton.1 hm]; omega)
  rw [Inst.build] at hR
  have hwd : IntKind.i64.wrap (x.deep - n.path.length) = x.deep - n.path.length := w64 _ (by omega)
  generalize hdp : x.deep - (n.path.length : Int) = dp at *
  have hnl : (ints n.path).length = n.path.length := List.length_map _
  refine K_run hB 100 ?_
  simp [go_sem, Inst.a, Node.a, Node.cs]
  refine K_scope ?_
  refine K_run hB 100 ?_
  simp [go_sem]
  refine K_drawn [] rfl (by rw [hB]; kernel_rfl) ?_
  refine K_run hB 100 ?_
  simp [go_sem]
  refine K_dCallP rfl rfl rfl (args := [x.a]) (f := 16) (by simp [go_sem, Inst.a]) (hdeep) ?_
  refine K_run hB 100 ?_
  simp [go_sem, hnl, hdp, hwd]
  refine K_call rfl rfl rfl (args := [.fsl [n.t]]) (f := 33) (by simp [go_sem, Node.t]) (by simp [go_sem, hB]) ((Pure.loose hown (by simp [bnd])).spec _ _) ?_
  refine K_run hB 100 ?_
  simp [go_sem]
  refine K_less (Imp.ownB (b := 4) (off := 0) (sz := 1) (cs := [.fsl [], .i up, .b true, .i 0]) (by simp [oput]) rfl) ?_
  refine K_loopP (α := Nat × List (List Node) × Int × Option Nat × List Node × Nat × (Nat → AObj) × Nat) (fun (f, ls, low, sq, l, q, τ, ny) => x.buildGo w up dp f ls low sq l = R ∧ (f : Int) + ls.length ≥ dp + 2 ∧ ((ls.length : Int) ≤ dp ∨ ls = []) ∧ 1 ≤ f ∧ WFine l (n.path.length + ls.length) ∧ l.length ≤ 3000 ∧ τ 0 = .box x.cs ∧ τ 2 = .box [.i w] ∧ τ 3 = .box [.fsl [], .i 0, .b false, .i 0] ∧ τ 4 = .box [.ref q, .i low, .b sq.isNone, .i (sq.getD 0 : Nat)] ∧ τ q = .arr 1 (lysT ls) ∧ 4 < q ∧ q < ny)
    (fun (f, ls, low, sq, l, q, τ, ny) => ⟨sl [(3, .i up), (4, .ptr 0 0), (6, .ptr 2 0), (8, .ptr 3 0), (9, .ptr 4 0), (10, .fn (.func 32) [] [.ptr 0 0, .ptr 2 0]), (11, .i dp), (12, .t (.sl (nodesT l)))], τ, ny⟩) (fun a => a.1) (dp.toNat + 2, [], up, none, [n], 5, _, 6) ?_ (Imp.slots (by simp [go_sem]) rfl rfl) ?_
  · refine ⟨hR, by simp only [List.length_nil]; omega, .inr rfl, by omega, ⟨fun m hm => by rw [List.mem_singleton.1 hm]; exact ho, fun m hm => by rw [List.mem_singleton.1 hm]; omega⟩, by simp, by simp [oput, Inst.cs], by simp [oput], by simp [oput], by simp [oput, setCells], by simp [oput, lysT], by omega, by omega⟩
  clear hR
  rintro ⟨f, ls, low, sq, l, q, τ, ny⟩ ⟨hR, g1, g2, g3, g4, g5, h0, h2, h3, h4, h5, h6, h7⟩
  obtain ⟨f, rfl⟩ : ∃ f', f = f' + 1 := ⟨f - 1, by omega⟩
  have hil : (nodesT l).length = l.length := List.length_map _
  have hyl : (lysT ls).length = ls.length := List.length_map _
  have hls : ls.length ≤ 40 := by
    rcases g2 with g2 | g2
    · omega
    · rw [g2]; simp
  have n0 : ¬ 0 = ny := by omega
  have n2 : ¬ 2 = ny := by omega
  have n3 : ¬ 3 = ny := by omega
  have n4 : ¬ 4 = ny := by omega
  have n5 : ¬ q = 3 := by omega
  have n6 : ¬ q = 4 := by omega
  rw [Inst.buildGo] at hR
  by_cases c0 : l = []
  · rw [if_pos c0] at hR
    subst hR
    have c0' : l.length = 0 := by rw [c0]; rfl
    cases sq with
    | none =>
      refine K_run hB 60 ?_
      simp [go_sem, hil, c0', h4, h5, hyl, n5, n6, h3]
      rfl
    | some k =>
      refine K_run hB 60 ?_
      simp [go_sem, hil, c0', h4, h5, hyl, n5, n6, h3]
      rfl
  rw [if_neg c0] at hR
  have c0' : 0 < l.length := List.length_pos_iff.2 c0
  have hx := expand_pure x l up hl (by omega) (fun m h => ⟨g4.ok m h, by have := g4.path m h; omega⟩) (fun m h => by have := g4.path m h; omega)
  have hnw := g4.next (x := x) up
  have hsn : lysT ls ++ [[.sl (nodesT l)]] = lysT (ls ++ [l]) := by simp [lysT]
  have hcap : ls.length + 1 ≤ mostLen := by show _ ≤ 4294967296; omega
  have hsl : (lysT (ls ++ [l])).length = ls.length + 1 := by rw [lysT, List.length_map]; simp
  have n7 : ¬ 4 = q := by omega
  have n8 : ¬ 0 = q := by omega
  have n9 : ¬ 2 = q := by omega
  have na : ¬ 3 = q := by omega
  generalize x.bests l = Bs at *
  obtain ⟨b, is⟩ := Bs
  have hqs := squeeze_pure x (x.next l up) w hl (by have := next_len x l up; omega) (fun m h => ⟨hnw.ok m h, by have := hnw.path m h; omega⟩)
  have hnf := next_few (x := x) (l := l) (up := up) hw
  have hmf := most_few (x := x) (l := l) (up := up) hw
  have hsq := squeeze_len x (x.next l up) w
  have hsw := hnw.squeeze (x := x) w
  generalize x.squeeze (x.next l up) w = Q at *
  generalize x.next l up = M at *
  refine K_run hB 60 ?_
  simp [go_sem, hil, c0', h4, h5, hyl, hsn, hcap, n0, n2, n3, n4, n6, n7, n8, n9, na, h0, Inst.cs]
  refine K_run hB 100 ?_
  simp [go_sem, hil, c0', h4, h5, hyl, hsn, hcap, n0, n2, n3, n4, n6, n7, n8, n9, na, h0, Inst.cs]
  refine K_call rfl rfl rfl (args := [x.a, .t (.sl (nodesT l)), .i up]) (f := 34) (by simp [go_sem, Inst.a]) (by simp [go_sem, hB]) ((hx).spec _ _) ?_
  have b0 : ¬ ny = 0 := by omega
  have b1 : ¬ ny + 1 = 0 := by omega
  have b2 : ¬ ny = 1 := by omega
  have b3 : ¬ ny = 2 := by omega
  have b4 : ¬ ny = 3 := by omega
  have b5 : ¬ ny = 4 := by omega
  have b6 : ¬ 4 = ny + 1 := by omega
  have hov := fun (τ' : Nat → AObj) (e1 : τ' 0 = .box x.cs) (e2 : τ' 2 = .box [.i w]) => over_spec x w M (σ := τ') (nx := ny + 2) (a := 0) (b := 2) (by omega) (by omega) e1 e2
  have hwQ : WFine Q (n.path.length + (ls ++ [l]).length) := by rw [List.length_append]; exact hsw
  have hwM : WFine M (n.path.length + (ls ++ [l]).length) := by rw [List.length_append]; exact hnw
  cases is with
  | false =>
    have hlw : lowB low (b, false) = low := rfl
    rw [hlw] at hR
    by_cases c1 : dp < (ls.length : Int) + 1
    · rw [if_pos (by omega)] at hR
      subst hR
      cases sq with
      | none =>
        refine K_run hB 100 ?_
        simp [go_sem, expRes, Node.a, Node.cs, h0, h2, h3, h4, h5, n0, n2, n3, n4, n5, n6, n7, n8, n9, na, b0, b1, b2, b3, b4, b5, b6, hsl, Inst.cs, c1]
        simp [Diag.of, Diag.a, Diag.cs]
      | some k =>
        refine K_run hB 100 ?_
        simp [go_sem, expRes, Node.a, Node.cs, h0, h2, h3, h4, h5, n0, n2, n3, n4, n5, n6, n7, n8, n9, na, b0, b1, b2, b3, b4, b5, b6, hsl, Inst.cs, c1]
        rfl
    rw [if_neg (by omega)] at hR
    refine K_run hB 100 ?_
    simp [go_sem, expRes, Node.a, Node.cs, h0, h2, h3, h4, h5, n0, n2, n3, n4, n5, n6, n7, n8, n9, na, b0, b1, b2, b3, b4, b5, b6, hsl, Inst.cs, c1]
    refine K_call rfl rfl rfl (args := [.t (.sl (nodesT M)), .ptr 0 0, .ptr 2 0]) (f := 32) (by simp [go_sem]) (by simp [go_sem, hB]) (hov _ (by simp [oput, h0, n0, n8, b0, b1, Inst.cs]) (by simp [oput, h2, n2, n9, b1, b2, b3])) ?_
    by_cases c2 : x.mostN w < M.length
    · rw [if_pos c2] at hR
      refine K_run hB 100 ?_
      simp [go_sem, expRes, Node.a, Node.cs, h0, h2, h3, h4, h5, n0, n2, n3, n4, n5, n6, n7, n8, n9, na, b0, b1, b2, b3, b4, b5, b6, hsl, Inst.cs, c2]
      refine K_call rfl rfl rfl (args := [x.a, .t (.sl (nodesT M)), .i w]) (f := 10) (by simp [go_sem, Inst.a]) (by simp [go_sem, hB]) ((hqs).spec _ _) ?_
      cases sq with
      | none =>
        refine K_run hB 100 ?_
        simp [go_sem, expRes, Node.a, Node.cs, h0, h2, h3, h4, h5, n0, n2, n3, n4, n5, n6, n7, n8, n9, na, b0, b1, b2, b3, b4, b5, b6, hsl, Inst.cs]
        refine Next.mk (f, ls ++ [l], low, some (ls.length + 1), Q, ny, _, ny + 2) ?_ (Imp.slots (by simp [go_sem]) rfl rfl) (by simp only; omega)
        exact ⟨hR, by simp only [List.length_append, List.length_cons, List.length_nil]; omega, .inl (by simp only [List.length_append, List.length_cons, List.length_nil]; omega), by simp only; omega, hwQ, (by have := hmf c2; simp only; omega), by simp [oput, h0, h2, h3, h4, n0, n2, n3, n4, n7, n8, n9, na, b0, b1, b2, b3, b4, b5, b6, Inst.cs], by simp [oput, h0, h2, h3, h4, n0, n2, n3, n4, n7, n8, n9, na, b0, b1, b2, b3, b4, b5, b6, Inst.cs], by simp [oput, h0, h2, h3, h4, n0, n2, n3, n4, n7, n8, n9, na, b0, b1, b2, b3, b4, b5, b6, Inst.cs], by simp [oput, h0, h2, h3, h4, n0, n2, n3, n4, n7, n8, n9, na, b0, b1, b2, b3, b4, b5, b6, Inst.cs], by simp [oput, h0, h2, h3, h4, n0, n2, n3, n4, n7, n8, n9, na, b0, b1, b2, b3, b4, b5, b6, Inst.cs], by simp only; omega, by simp only; omega⟩
      | some k =>
        refine K_run hB 100 ?_
        simp [go_sem, expRes, Node.a, Node.cs, h0, h2, h3, h4, h5, n0, n2, n3, n4, n5, n6, n7, n8, n9, na, b0, b1, b2, b3, b4, b5, b6, hsl, Inst.cs]
        refine Next.mk (f, ls ++ [l], low, some k, Q, ny, _, ny + 2) ?_ (Imp.slots (by simp [go_sem]) rfl rfl) (by simp only; omega)
        exact ⟨hR, by simp only [List.length_append, List.length_cons, List.length_nil]; omega, .inl (by simp only [List.length_append, List.length_cons, List.length_nil]; omega), by simp only; omega, hwQ, (by have := hmf c2; simp only; omega), by simp [oput, h0, h2, h3, h4, n0, n2, n3, n4, n7, n8, n9, na, b0, b1, b2, b3, b4, b5, b6, Inst.cs], by simp [oput, h0, h2, h3, h4, n0, n2, n3, n4, n7, n8, n9, na, b0, b1, b2, b3, b4, b5, b6, Inst.cs], by simp [oput, h0, h2, h3, h4, n0, n2, n3, n4, n7, n8, n9, na, b0, b1, b2, b3, b4, b5, b6, Inst.cs], by simp [oput, h0, h2, h3, h4, n0, n2, n3, n4, n7, n8, n9, na, b0, b1, b2, b3, b4, b5, b6, Inst.cs], by simp [oput, h0, h2, h3, h4, n0, n2, n3, n4, n7, n8, n9, na, b0, b1, b2, b3, b4, b5, b6, Inst.cs], by simp only; omega, by simp only; omega⟩
    · rw [if_neg c2] at hR
      refine K_run hB 100 ?_
      simp [go_sem, expRes, Node.a, Node.cs, h0, h2, h3, h4, h5, n0, n2, n3, n4, n5, n6, n7, n8, n9, na, b0, b1, b2, b3, b4, b5, b6, hsl, Inst.cs, c2]
      refine Next.mk (f, ls ++ [l], low, sq, M, ny, _, ny + 2) ?_ (Imp.slots (by simp [go_sem]) rfl rfl) (by simp only; omega)
      exact ⟨hR, by simp only [List.length_append, List.length_cons, List.length_nil]; omega, .inl (by simp only [List.length_append, List.length_cons, List.length_nil]; omega), by simp only; omega, hwM, (hnf (by omega)), by simp [oput, h0, h2, h3, h4, n0, n2, n3, n4, n7, n8, n9, na, b0, b1, b2, b3, b4, b5, b6, Inst.cs], by simp [oput, h0, h2, h3, h4, n0, n2, n3, n4, n7, n8, n9, na, b0, b1, b2, b3, b4, b5, b6, Inst.cs], by simp [oput, h0, h2, h3, h4, n0, n2, n3, n4, n7, n8, n9, na, b0, b1, b2, b3, b4, b5, b6, Inst.cs], by simp [oput, h0, h2, h3, h4, n0, n2, n3, n4, n7, n8, n9, na, b0, b1, b2, b3, b4, b5, b6, Inst.cs], by simp [oput, h0, h2, h3, h4, n0, n2, n3, n4, n7, n8, n9, na, b0, b1, b2, b3, b4, b5, b6, Inst.cs], by simp only; omega, by simp only; omega⟩
  | true =>
    have hlw : lowB low (b, true) = min low b.cost := rfl
    rw [hlw] at hR
    by_cases c1 : dp < (ls.length : Int) + 1
    · rw [if_pos (by omega)] at hR
      subst hR
      cases sq with
      | none =>
        refine K_run hB 100 ?_
        simp [go_sem, expRes, Node.a, Node.cs, h0, h2, h3, h4, h5, n0, n2, n3, n4, n5, n6, n7, n8, n9, na, b0, b1, b2, b3, b4, b5, b6, hsl, Inst.cs, c1]
        simp [Diag.of, Diag.a, Diag.cs]
      | some k =>
        refine K_run hB 100 ?_
        simp [go_sem, expRes, Node.a, Node.cs, h0, h2, h3, h4, h5, n0, n2, n3, n4, n5, n6, n7, n8, n9, na, b0, b1, b2, b3, b4, b5, b6, hsl, Inst.cs, c1]
        rfl
    rw [if_neg (by omega)] at hR
    refine K_run hB 100 ?_
    simp [go_sem, expRes, Node.a, Node.cs, h0, h2, h3, h4, h5, n0, n2, n3, n4, n5, n6, n7, n8, n9, na, b0, b1, b2, b3, b4, b5, b6, hsl, Inst.cs, c1]
    refine K_call rfl rfl rfl (args := [.t (.sl (nodesT M)), .ptr 0 0, .ptr 2 0]) (f := 32) (by simp [go_sem]) (by simp [go_sem, hB]) (hov _ (by simp [oput, h0, n0, n8, b0, b1, Inst.cs]) (by simp [oput, h2, n2, n9, b1, b2, b3])) ?_
    by_cases c2 : x.mostN w < M.length
    · rw [if_pos c2] at hR
      refine K_run hB 100 ?_
      simp [go_sem, expRes, Node.a, Node.cs, h0, h2, h3, h4, h5, n0, n2, n3, n4, n5, n6, n7, n8, n9, na, b0, b1, b2, b3, b4, b5, b6, hsl, Inst.cs, c2]
      refine K_call rfl rfl rfl (args := [x.a, .t (.sl (nodesT M)), .i w]) (f := 10) (by simp [go_sem, Inst.a]) (by simp [go_sem, hB]) ((hqs).spec _ _) ?_
      cases sq with
      | none =>
        refine K_run hB 100 ?_
        simp [go_sem, expRes, Node.a, Node.cs, h0, h2, h3, h4, h5, n0, n2, n3, n4, n5, n6, n7, n8, n9, na, b0, b1, b2, b3, b4, b5, b6, hsl, Inst.cs]
        refine Next.mk (f, ls ++ [l], min low b.cost, some (ls.length + 1), Q, ny, _, ny + 2) ?_ (Imp.slots (by simp [go_sem]) rfl rfl) (by simp only; omega)
        exact ⟨hR, by simp only [List.length_append, List.length_cons, List.length_nil]; omega, .inl (by simp only [List.length_append, List.length_cons, List.length_nil]; omega), by simp only; omega, hwQ, (by have := hmf c2; simp only; omega), by simp [oput, h0, h2, h3, h4, n0, n2, n3, n4, n7, n8, n9, na, b0, b1, b2, b3, b4, b5, b6, Inst.cs], by simp [oput, h0, h2, h3, h4, n0, n2, n3, n4, n7, n8, n9, na, b0, b1, b2, b3, b4, b5, b6, Inst.cs], by simp [oput, h0, h2, h3, h4, n0, n2, n3, n4, n7, n8, n9, na, b0, b1, b2, b3, b4, b5, b6, Inst.cs], by simp [oput, h0, h2, h3, h4, n0, n2, n3, n4, n7, n8, n9, na, b0, b1, b2, b3, b4, b5, b6, Inst.cs], by simp [oput, h0, h2, h3, h4, n0, n2, n3, n4, n7, n8, n9, na, b0, b1, b2, b3, b4, b5, b6, Inst.cs], by simp only; omega, by simp only; omega⟩
      | some k =>
        refine K_run hB 100 ?_
        simp [go_sem, expRes, Node.a, Node.cs, h0, h2, h3, h4, h5, n0, n2, n3, n4, n5, n6, n7, n8, n9, na, b0, b1, b2, b3, b4, b5, b6, hsl, Inst.cs]
        refine Next.mk (f, ls ++ [l], min low b.cost, some k, Q, ny, _, ny + 2) ?_ (Imp.slots (by simp [go_sem]) rfl rfl) (by simp only; omega)
        exact ⟨hR, by simp only [List.length_append, List.length_cons, List.length_nil]; omega, .inl (by simp only [List.length_append, List.length_cons, List.length_nil]; omega), by simp only; omega, hwQ, (by have := hmf c2; simp only; omega), by simp [oput, h0, h2, h3, h4, n0, n2, n3, n4, n7, n8, n9, na, b0, b1, b2, b3, b4, b5, b6, Inst.cs], by simp [oput, h0, h2, h3, h4, n0, n2, n3, n4, n7, n8, n9, na, b0, b1, b2, b3, b4, b5, b6, Inst.cs], by simp [oput, h0, h2, h3, h4, n0, n2, n3, n4, n7, n8, n9, na, b0, b1, b2, b3, b4, b5, b6, Inst.cs], by simp [oput, h0, h2, h3, h4, n0, n2, n3, n4, n7, n8, n9, na, b0, b1, b2, b3, b4, b5, b6, Inst.cs], by simp [oput, h0, h2, h3, h4, n0, n2, n3, n4, n7, n8, n9, na, b0, b1, b2, b3, b4, b5, b6, Inst.cs], by simp only; omega, by simp only; omega⟩
    · rw [if_neg c2] at hR
      refine K_run hB 100 ?_
      simp [go_sem, expRes, Node.a, Node.cs, h0, h2, h3, h4, h5, n0, n2, n3, n4, n5, n6, n7, n8, n9, na, b0, b1, b2, b3, b4, b5, b6, hsl, Inst.cs, c2]
      refine Next.mk (f, ls ++ [l], min low b.cost, sq, M, ny, _, ny + 2) ?_ (Imp.slots (by simp [go_sem]) rfl rfl) (by simp only; omega)
      exact ⟨hR, by simp only [List.length_append, List.length_cons, List.length_nil]; omega, .inl (by simp only [List.length_append, List.length_cons, List.length_nil]; omega), by simp only; omega, hwM, (hnf (by omega)), by simp [oput, h0, h2, h3, h4, n0, n2, n3, n4, n7, n8, n9, na, b0, b1, b2, b3, b4, b5, b6, Inst.cs], by simp [oput, h0, h2, h3, h4, n0, n2, n3, n4, n7, n8, n9, na, b0, b1, b2, b3, b4, b5, b6, Inst.cs], by simp [oput, h0, h2, h3, h4, n0, n2, n3, n4, n7, n8, n9, na, b0, b1, b2, b3, b4, b5, b6, Inst.cs], by simp [oput, h0, h2, h3, h4, n0, n2, n3, n4, n7, n8, n9, na, b0, b1, b2, b3, b4, b5, b6, Inst.cs], by simp [oput, h0, h2, h3, h4, n0, n2, n3, n4, n7, n8, n9, na, b0, b1, b2, b3, b4, b5, b6, Inst.cs], by simp only; omega, by simp only; omega⟩
end Go.Proofs.Ytdjbapglfdacmaa

/- When a car is where: what is wrong with a stop, and how it drives. -/
set_option maxRecDepth 4000
namespace Go.Proofs.Ytdjbapglfdacmaa
open Go Go.Proofs.Ytdjbapglfdacmaa.R
/-- A car on its way. -/
structure Car where
  spot : Int
  now : Int
  gone : Int
  load : Int
  seen : Nat
  on : Nat
  times : List (List T)
  loads : List Int
def carC (x : Inst) (c : Car) (qt ql : Nat) : List AV := [.t (.i x.pairs), .t (.i x.cars), .t (.i x.room), .t (.sl (x.stops.map Stop.t)), .i c.spot, .i c.now, .i c.gone, .i c.load, .u c.seen, .u c.on, .ref qt, .ref ql]
/-- What holds of a car that has seen so many stops. -/
structure Car.Fit (c : Car) (p k : Nat) : Prop where
  spot : 0 ≤ c.spot ∧ c.spot ≤ 2 * p
  now : 0 ≤ c.now ∧ c.now ≤ 1049576
  gone : 0 ≤ c.gone ∧ c.gone ≤ 14143 * k
  load : -1000 * (k : Int) ≤ c.load ∧ c.load ≤ 1000
  seen : c.seen < 2 ^ 64
  on : c.on < 2 ^ 64
  times : c.times.length = k
  loads : c.loads.length = k
  three : ∀ y ∈ c.times, y.length = 3
  few : k + ((List.range (2 * p + 1)).filter fun j : Nat => decide (1 ≤ j) && !hasB c.seen (j : Int)).length ≤ 2 * p
theorem Car.Fit.le {c : Car} {p k : Nat} (h : c.Fit p k) : k ≤ 2 * p := by have := h.few; omega
def Inst.visitsE (x : Inst) (c : Car) (i : Int) : Int :=
  if i < 1 ∨ 2 * x.pairs < i then 1 else if hasB c.seen i = true then 5 else if x.pairs < i ∧ hasB c.seen (i - x.pairs) = false then 8 else if x.room < c.load + (x.stop i).demand then 6 else 0
def Inst.drive (x : Inst) (c : Car) (i : Int) : Car := { c with spot := i, gone := c.gone + far (x.stop c.spot) (x.stop i) }
end Go.Proofs.Ytdjbapglfdacmaa

/- When a car is where: it visits a stop. -/
set_option maxRecDepth 4000
namespace Go.Proofs.Ytdjbapglfdacmaa
open Go Go.Proofs.Ytdjbapglfdacmaa.R
structure Rows3 (c : Car) (σ : Nat → AObj) (nx b qt ql : Nat) : Prop where
  tm : σ qt = .arr 3 c.times
  ld : σ ql = .arr 1 (ints c.loads)
  ltT : qt < nx
  ltL : ql < nx
  neT : qt ≠ b
  neL : ql ≠ b
  ne : qt ≠ ql
def Inst.visitC (x : Inst) (c : Car) (i : Int) : Car × Int :=
  if x.visitsE c i ≠ 0 then (c, x.visitsE c i)
  else if (x.stop i).due < max (c.now + far (x.stop c.spot) (x.stop i)) (x.stop i).ready then (x.drive c i, 7)
  else ({ spot := i, now := max (c.now + far (x.stop c.spot) (x.stop i)) (x.stop i).ready + (x.stop i).service, gone := c.gone + far (x.stop c.spot) (x.stop i), load := c.load + (x.stop i).demand, seen := withN c.seen i,
          on := if i ≤ x.pairs then withN c.on i else withoutN c.on (i - x.pairs), times := c.times ++ [[.i (c.now + far (x.stop c.spot) (x.stop i)), .i (max (c.now + far (x.stop c.spot) (x.stop i)) (x.stop i).ready), .i (max (c.now + far (x.stop c.spot) (x.stop i)) (x.stop i).ready + (x.stop i).service)]], loads := c.loads ++ [c.load + (x.stop i).demand] }, 0)
theorem visits_ok {x : Inst} {c : Car} {i : Int} (h : x.visitsE c i = 0) : 1 ≤ i ∧ i ≤ 2 * x.pairs ∧ hasB c.seen i = false ∧ (x.pairs < i → hasB c.seen (i - x.pairs) = true) ∧ c.load + (x.stop i).demand ≤ x.room := by
  rw [Inst.visitsE] at h
  split at h
  · cases h
  split at h
  · cases h
  split at h
  · cases h
  split at h
  · cases h
  rename_i h1 h2 h3 h4
  refine ⟨by omega, by omega, by simpa using h2, fun h => ?_, by omega⟩
  cases hq : hasB c.seen (i - x.pairs) with
  | true => rfl
  | false => exact absurd ⟨h, hq⟩ h3
end Go.Proofs.Ytdjbapglfdacmaa

/- When a car is where: a whole route. -/
set_option maxRecDepth 4000
namespace Go.Proofs.Ytdjbapglfdacmaa
open Go Go.Proofs.Ytdjbapglfdacmaa.R
theorem visitC_fit {x : Inst} {c : Car} {i : Int} {p k : Nat} (hx : x.Fit p) (hc : c.Fit p k) (h : (x.visitC c i).2 = 0) : (x.visitC c i).1.Fit p (k + 1) := by
  have hok := visits_ok (x := x) (c := c) (i := i)
  rw [Inst.visitC] at h ⊢
  by_cases c0 : x.visitsE c i = 0
  rotate_left
  · rw [if_pos c0] at h; exact absurd h c0
  rw [if_neg (by simp [c0])] at h ⊢
  by_cases c1 : (x.stop i).due < max (c.now + far (x.stop c.spot) (x.stop i)) (x.stop i).ready
  · rw [if_pos c1] at h; cases h
  rw [if_neg c1]
  obtain ⟨k1, k2, k3, k4, k5⟩ := hok c0
  have hp := hx.pairs
  have hfi := hx.at (j := i) (by omega) (by omega)
  have hfar := far_le (x.stop c.spot) (x.stop i)
  have h1 := hc.now
  have h2 := hc.gone
  have h3 := hc.load
  have h4 := hfi.ready
  have h5 := hfi.due
  have h6 := hfi.service
  have h7 := hfi.demand
  have h8 := hx.room
  have h9 := hx.few
  constructor
  · simp only; omega
  · simp only; omega
  · simp only; omega
  · simp only; omega
  · exact withN_lt hc.seen _
  · simp only
    split
    · exact withN_lt hc.on _
    · exact withoutN_lt _ _
  · simp [hc.times]
  · simp [hc.loads]
  · intro y hy
    simp only [List.mem_append, List.mem_singleton] at hy
    rcases hy with hy | rfl
    · exact hc.three y hy
    · rfl
  · have h10 := hc.few
    obtain ⟨j, rfl⟩ : ∃ j : Nat, i = j := ⟨i.toNat, by omega⟩
    have := filter_lt (p := fun j : Nat => decide (1 ≤ j) && !hasB c.seen (j : Int)) (q := fun m : Nat => decide (1 ≤ m) && !hasB (withN c.seen (j : Int)) (m : Int)) (List.range (2 * p + 1)) (a := j) (List.mem_range.2 (by omega)) (by rw [k3]; simp; omega) (by rw [has_withN (by omega)]; simp) (fun m => by
      rw [has_withN (by omega)]
      simp only [Bool.and_eq_true, Bool.not_eq_true', Bool.or_eq_false_iff]
      exact fun h => ⟨h.1, h.2.1⟩)
    simp only
    omega
def Inst.homeC (x : Inst) (c : Car) : Car × Int :=
  if c.on ≠ 0 then (c, 8) else if (x.stop 0).due < c.now + far (x.stop c.spot) (x.stop 0) then (x.drive c 0, 7) else (x.drive c 0, 0)
def Inst.car0 (x : Inst) : Car := ⟨0, (x.stop 0).ready, 0, 0, 0, 0, [], []⟩
def Inst.runC (x : Inst) : List Int → Car → Car × Int
  | [], c => x.homeC c
  | i :: r, c => if (x.visitC c i).2 ≠ 0 then x.visitC c i else x.runC r (x.visitC c i).1
structure RX where
  lb : Nat
  k : Nat
  c : Car
  e : Int
  b : Nat
  qt : Nat
  ql : Nat
  σ : Nat → AObj
  nx : Nat
structure RX.I (x : Inst) (p : Nat) (route : List Int) (R : Car × Int) (σ0 : Nat → AObj) (nx0 : Nat) (a : RX) : Prop where
  go : (a.lb = 1 ∧ a.k ≤ route.length ∧ a.c.Fit p a.k ∧ a.b < a.nx ∧ nx0 < a.b ∧ nx0 < a.qt ∧ nx0 < a.ql ∧ a.σ a.b = .box (carC x a.c a.qt a.ql) ∧ Rows3 a.c a.σ a.nx a.b a.qt a.ql ∧ x.runC (route.drop a.k) a.c = R) ∨ (a.lb = 0 ∧ a.e = R.2 ∧ R.2 ≠ 0)
  old : ∀ j, j ≤ nx0 → a.σ j = σ0 j
  nx : nx0 < a.nx
def RX.st (route : List Int) (a : RX) : St := ⟨sl (if a.lb = 1 then [(1, .t (.sl (ints route))), (6, .ptr a.b 0), (7, .i a.k)] else [(8, .i a.e)]), a.σ, a.nx⟩
def RX.m (route : List Int) (a : RX) : Nat := if a.lb = 1 then route.length + 1 - a.k else 0
def Inst.times (x : Inst) (route : List Int) : List (List T) × Int × Int :=
  if x.may = false then ([], 0, 1) else if (x.runC route x.car0).2 ≠ 0 then ([], 0, (x.runC route x.car0).2) else ((x.runC route x.car0).1.times, (x.runC route x.car0).1.gone, 0)
end Go.Proofs.Ytdjbapglfdacmaa

/- What a plan costs. -/
set_option maxRecDepth 4000
namespace Go.Proofs.Ytdjbapglfdacmaa
open Go Go.Proofs.Ytdjbapglfdacmaa.R
def bump (s : List Int) (i : Int) : List Int := s.set i.toNat (s.getD i.toNat 0 + 1)
def Inst.costGo (x : Inst) : List (List Int) → Int → List Int → Int × Int
  | [], all, seen => if (seen.any fun n => decide (1 < n)) = true then (0, 5) else if ((seen.drop 1).any fun n => decide (n = 0)) = true then (0, 4) else (all, 0)
  | r :: rs, all, seen => if r.length = 0 then (0, 1) else if (x.times r).2.2 ≠ 0 then (0, (x.times r).2.2) else x.costGo rs (all + (x.times r).2.1) (r.foldl bump seen)
def Inst.cost (x : Inst) (p : List (List Int)) : Int × Int :=
  if x.may = false then (0, 1) else if x.cars < p.length then (0, 6) else x.costGo p 0 (List.replicate (2 * x.pairs + 1).toNat 0)
theorem bump_len (s : List Int) (i : Int) : (bump s i).length = s.length := List.length_set
end Go.Proofs.Ytdjbapglfdacmaa

/- What can be followed and ended is the tour of a plan: the plain law. -/
set_option maxRecDepth 4000
namespace Go.Proofs.Ytdjbapglfdacmaa
open Go Go.Proofs.Ytdjbapglfdacmaa.R
/-- A car goes as a state says; what was seen ahead of its route: m0. -/
structure Sim1 (x : Inst) (p m0 : Nat) (s : State) (c : Car) (k : Nat) : Prop where
  spot : c.spot = s.spot
  now : c.now = s.time
  load : c.load = s.load
  on : c.on = s.on
  seen : ∀ i, 1 ≤ i → i ≤ 2 * p → s.must.testBit i = (m0.testBit i || c.seen.testBit i)
  old : ∀ i, 1 ≤ i → i ≤ p → m0.testBit i = true → m0.testBit (i + p) = true
  fit : c.Fit p k
  good : Good x p s
theorem Sim1.step {x : Inst} {p m0 k : Nat} {s : State} {c : Car} {j : Int} (hx : x.Fit p) (h : Sim1 x p m0 s c k) (hj : j ≠ 0) (hm : (x.move s j).2.2 = true) :
    (x.visitC c j).2 = 0 ∧ Sim1 x p m0 (x.move s j).1 (x.visitC c j).1 (k + 1) ∧ (x.visitC c j).1.gone = c.gone + (x.move s j).2.1 := by
  obtain ⟨g1, g2, g3, g4, g5, g6⟩ := good_step hx h.good hm
  obtain ⟨m1, m2, m3, m4, m5, m6, m7, m8⟩ := move_pos hm hj
  have hp := hx.pairs
  have hfew := hx.few
  obtain ⟨i, rfl⟩ : ∃ i : Nat, j = i := ⟨j.toNat, by omega⟩
  simp only [Inst.lateB, Bool.or_eq_false_iff, decide_eq_false_iff_not] at m5
  rw [has_testN (by omega)] at m5
  have hs := h.seen i (by omega) (by omega)
  rw [m5.1] at hs
  have hv : x.visitsE c i = 0 := by
    rw [Inst.visitsE, if_neg (by omega), if_neg, if_neg, if_neg]
    · rw [h.load]
      by_cases hi : (i : Int) ≤ x.pairs
      · have := m6 hi
        simp only [Inst.fullB, Bool.or_eq_false_iff, decide_eq_false_iff_not] at this
        omega
      · have hb := hx.bring (k := i - p) (by omega) (by omega)
        have ht := hx.take (k := i - p) (by omega) (by omega)
        have hr := h.good.room
        rw [show i - p + p = i by omega] at hb
        omega
    · rintro ⟨hi, hq⟩
      have := m7 hi
      simp only [Inst.emptyB, Bool.or_eq_false_iff, Bool.not_eq_false', decide_eq_false_iff_not] at this
      have e : (i : Int) - x.pairs = ((i - p : Nat) : Int) := by omega
      rw [e] at this hq
      rw [has_testN (by omega), h.good.eq] at this
      rw [has_testN (by omega)] at hq
      have h1 := h.seen (i - p) (by omega) (by omega)
      rw [this.2, hq, Bool.or_false] at h1
      have h2 := h.old (i - p) (by omega) (by omega) h1.symm
      rw [show i - p + p = i by omega] at h2
      rw [h2] at hs
      cases hs
    · rw [has_testN (by omega)]
      intro hq
      rw [hq, Bool.or_true] at hs
      cases hs
  have hfar : x.visitC c i = ({ spot := i, now := x.begins s i + (x.stop i).service, gone := c.gone + far (x.stop s.spot) (x.stop i), load := s.load + (x.stop i).demand, seen := withN c.seen i, on := if (i : Int) ≤ x.pairs then withN s.on i else withoutN s.on (i - x.pairs), times := c.times ++ [[.i (s.time + far (x.stop s.spot) (x.stop i)), .i (x.begins s i), .i (x.begins s i + (x.stop i).service)]], loads := c.loads ++ [s.load + (x.stop i).demand] }, 0) := by
    rw [Inst.visitC, if_neg (by simp [hv]), h.spot, h.now, h.load, h.on, if_neg]
    · rfl
    · have := m5.2
      unfold Inst.begins at this
      exact this
  have hfit := visitC_fit hx h.fit (i := i) (by rw [hfar])
  rw [hfar] at hfit ⊢
  rw [if_pos (by omega)] at g4 g6
  refine ⟨rfl, ⟨?_, ?_, ?_, ?_, ?_, h.old, hfit, g1⟩, ?_⟩
  · rw [m8]; rfl
  · rw [m8]; rfl
  · rw [g6]
  · rw [m8]; rfl
  · intro n n1 n2
    rw [g4, with_bit (by omega), with_bit (by omega), h.seen n n1 n2, Bool.or_assoc]
  · rw [m8]
/-- How often each stop stands in what was seen so far. -/
def MatchS (p must : Nat) (seen : List Int) : Prop := seen.length = 2 * p + 1 ∧ ∀ i (h : i < seen.length), seen[i] = if 1 ≤ i ∧ must.testBit i = true then 1 else 0
theorem MatchS.bump {p must : Nat} {seen : List Int} (h : MatchS p must seen) {j : Nat} (h1 : 1 ≤ j) (h2 : j ≤ 2 * p) (h64 : j ≤ 63) (hn : must.testBit j = false) : MatchS p (withN must j) (bump seen j) := by
  obtain ⟨hl, hs⟩ := h
  refine ⟨by rw [bump_len]; exact hl, fun i hi => ?_⟩
  have hi' : i < seen.length := by rw [bump_len] at hi; exact hi
  have e : seen.getD j 0 = seen[j] := by rw [List.getD_eq_getElem?_getD, List.getElem?_eq_getElem (by omega)]; rfl
  have h0 := hs j (by omega)
  rw [if_neg (by simp [hn])] at h0
  simp only [Go.Proofs.Ytdjbapglfdacmaa.bump, Int.toNat_natCast, e, h0, List.getElem_set, with_bit h64]
  by_cases hji : j = i
  · subst hji
    simp [h1]
  · rw [if_neg hji, hs i hi']
    simp [hji]
theorem MatchS.end {p must : Nat} {seen : List Int} (h : MatchS p must seen) (ha : ∀ i, 1 ≤ i → i ≤ 2 * p → must.testBit i = true) : (seen.any fun n => decide (1 < n)) = false ∧ ((seen.drop 1).any fun n => decide (n = 0)) = false := by
  obtain ⟨hl, hs⟩ := h
  constructor
  · rw [List.any_eq_false]
    intro n hn
    obtain ⟨i, hi, rfl⟩ := List.mem_iff_getElem.1 hn
    rw [hs i hi]
    split <;> simp
  · rw [List.any_eq_false]
    intro n hn
    obtain ⟨i, hi, rfl⟩ := List.mem_iff_getElem.1 hn
    rw [List.getElem_drop, hs (1 + i) (by rw [List.length_drop] at hi; omega), if_pos ⟨by omega, ha _ (by omega) (by rw [List.length_drop] at hi; omega)⟩]
    simp
end Go.Proofs.Ytdjbapglfdacmaa

/- Each plan that may be is the end of moves: the plain law. -/
set_option maxRecDepth 4000
namespace Go.Proofs.Ytdjbapglfdacmaa
open Go Go.Proofs.Ytdjbapglfdacmaa.R
theorem Sim1.mayB {x : Inst} {p m0 k : Nat} {s : State} {c : Car} (hx : x.Fit p) (h : Sim1 x p m0 s c k) (hcar : 1 ≤ s.car ∧ s.car ≤ x.cars) : s.mayB x = true := by
  have hp := hx.pairs
  have hsum := sumOn_pos hx s.on p (Nat.le_refl _)
  have h1 := h.fit.spot
  have h2 := h.fit.now
  have h3 := h.good.load
  have h4 := h.good.room
  have h5 := hx.room
  have h6 := h.spot
  have h7 := h.now
  simp only [State.mayB, Bool.and_eq_true, decide_eq_true_eq]
  omega
end Go.Proofs.Ytdjbapglfdacmaa

/- Diagrams from nodes that moves lead to: what they tell. -/
set_option maxRecDepth 4000
namespace Go.Proofs.Ytdjbapglfdacmaa
open Go Go.Proofs.Ytdjbapglfdacmaa.R
/-- A node whose path leads to it. -/
structure Track (x : Inst) (n : Node) : Prop where
  goes : x.goes n.path x.rootS 0 = some (n.s, n.cost)
  is : n.s.Is n.s.spot
  cost : 0 ≤ n.cost ∧ n.cost ≤ 14143 * (n.path.length : Int)
  len : n.path.length + x.meas n.s ≤ x.meas x.rootS
theorem track_root {x : Inst} (hm : x.may = true) : Track x x.rootN :=
  ⟨rfl, ⟨rfl, rootS_ok x, pos_root hm, seen_root x⟩, by simp [Inst.rootN], by simp [Inst.rootN]⟩
theorem Track.few {x : Inst} {n : Node} (h : Track x n) : n.path.length ≤ 40 := by
  have := h.len
  have := meas_le x x.rootS
  omega
theorem Track.child {x : Inst} {n : Node} (h : Track x n) {j : Int} (hj : (x.move n.s j).2.2 = true) : Track x (x.child n j) := by
  have hc := move_cost hj
  have hl := h.cost
  have hf := h.few
  have e : (x.child n j).cost = n.cost + (x.move n.s j).2.1 := sumI_two hl.1 hc.1 (by omega)
  have hm := meas_move hj
  have hlen : (n.path ++ [j]).length = n.path.length + 1 := by simp
  refine ⟨?_, h.is.move hj, ?_, ?_⟩
  · show x.goes (n.path ++ [j]) x.rootS 0 = some ((x.move n.s j).1, (x.child n j).cost)
    rw [goes_app, h.goes, Option.bind_some]
    show x.goes [j] n.s n.cost = _
    rw [Inst.goes, if_pos hj, w64 _ (by omega), e]
    rfl
  · rw [e]
    show _ ∧ _ ≤ 14143 * ((n.path ++ [j]).length : Int)
    rw [hlen]
    omega
  · show (n.path ++ [j]).length + x.meas (x.move n.s j).1 ≤ _
    rw [hlen]
    have := h.len
    omega
theorem layN_track {x : Inst} {n : Node} (h : Track x n) (up : Int) : ∀ (k : Nat), ∀ m ∈ x.layN up n k, Track x m ∧ m.path.length = n.path.length + k
  | 0, m, hm => by rw [List.mem_singleton.1 hm]; exact ⟨h, rfl⟩
  | k + 1, m, hm => by
    obtain ⟨q, hq, j, hj, rfl, _⟩ := next_mem hm
    obtain ⟨h1, h2⟩ := layN_track h up k q hq
    refine ⟨h1.child (moves_mem hj), ?_⟩
    show (q.path ++ [j]).length = _
    rw [List.length_append, h2]
    simp only [List.length_cons, List.length_nil]
    omega
theorem Track.way {x : Inst} {n : Node} (h : Track x n) {v : List Int} {c : Int} (hv : x.way v n.s c) : x.way (n.path ++ v) x.rootS (n.cost + c) := by
  have hf := h.few
  have := way_app (c0 := 0) (by omega) (by omega) h.goes hv
  rwa [show n.cost - 0 + c = n.cost + c by omega] at this
theorem build_ok (x : Inst) (n : Node) (w up : Int) : (x.build n w up).Ok x up n := by
  rw [Inst.build]
  refine buildGo_sure w up _ n _ _ _ _ _ ⟨fun i hi => by simp at hi, by simp⟩ (fun _ => rfl) (fun k hk => by cases hk) (fun _ => by simp) (by omega) (fun k hk => by cases hk) ?_ (.inr rfl)
  simp only [List.length_nil]
  omega
theorem build_lay {x : Inst} (n : Node) (w up : Int) (h : 1 ≤ x.mostN w) : ∀ k ∈ (x.build n w up).layers.drop 1, k ≠ [] ∧ k.length ≤ x.mostN w :=
  buildGo_lay w up _ _ _ _ _ _ (by simpa using h) (fun k hk => by simp at hk)
theorem build_count (x : Inst) (n : Node) (w up : Int) : ((x.build n w up).layers.length : Int) ≤ max 1 (x.deep - n.path.length + 1) := by
  have := buildGo_count (x := x) w up (x.deep - n.path.length) ((x.deep - n.path.length).toNat + 2) [] up none [n]
  rw [Inst.build]
  simp only [List.length_nil] at this
  omega
end Go.Proofs.Ytdjbapglfdacmaa

/- Diagrams of all ways: the laws are awake; what is squeezed. -/
set_option maxRecDepth 4000
set_option maxHeartbeats 1000000
namespace Go.Proofs.Ytdjbapglfdacmaa
open Go Go.Proofs.Ytdjbapglfdacmaa.R
theorem small_build : (small.build small.rootN 1 1152921504606846976).layers.length = 3 ∧ (small.build small.rootN 1 1152921504606846976).low = 12 ∧ (small.build small.rootN 1 1152921504606846976).exact = true ∧ (small.build small.rootN 1 1152921504606846976).sure = 3 ∧ small.deep = 2 := by decide +kernel
theorem awake17_pure : Pure P 7 [] (.b true) := by
  refine pure_of Try.func7 rfl rfl (by simp [Try.f7]) (by simp [bnd, bnd.bndL]) (by simp [bnd, bnd.bndL]) fun B hB hnx => ?_
  simp only [Try.f7] at hB ⊢
  refine K_run hB 100 ?_
  simp [go_sem]
  refine K_call rfl rfl rfl (args := []) (f := 21) (by simp [go_sem]) (by simp [go_sem, hB]) ((small_pure).spec _ _) ?_
  have hp := parse_pure smallB (by decide) (by decide)
  rw [small_parse] at hp
  refine K_run hB 100 ?_
  simp [go_sem, small_bytes]
  refine K_call rfl rfl rfl (args := [.t (.sl (byt smallB))]) (f := 20) (by simp [go_sem]) (by simp [go_sem, hB]) ((hp).spec _ _) ?_
  have hl : small.stops.length < 2 ^ 31 := by decide
  have hr := root_pureS small (by omega)
  have hb := build_pure small small.rootN 1 1152921504606846976 hl (by omega) (rootS_ok small) (by simp [Inst.rootN])
  have hd := deep_pure small (by omega)
  obtain ⟨e1, e2, e3, e4, e5⟩ := small_build
  have ea : small.rootN.a = .agg [.i small.rootS.spot, .i small.rootS.car, .i small.rootS.time, .i small.rootS.load, .i small.rootS.first, .u small.rootS.must, .u small.rootS.can, .u small.rootS.on, .i 0, .t (.sl [])] := rfl
  rw [ea] at hb
  rw [e5] at hd
  generalize small.build small.rootN 1 1152921504606846976 = D at *
  generalize small.rootS = r at *
  generalize small = x at *
  have hlen : (lysT D.layers).length = 3 := by rw [lysT, List.length_map, e1]
  refine K_run hB 100 ?_
  simp [go_sem, Inst.a]
  refine K_drawnF [5, 6] [0, 1, 2, 3, 4] rfl (by rw [hB]; kernel_rfl) (by kernel_rfl) fun ht hf' => ?_
  refine K_run hB 100 ?_
  simp [go_sem, ht, hf']
  refine K_dCallP rfl rfl rfl (args := [x.a]) (f := 22) (by simp [go_sem, Inst.a]) (hr) ?_
  refine K_run hB 100 ?_
  simp [go_sem, ht, hf', State.a, State.cs]
  refine K_dCallP rfl rfl rfl (args := [x.a, .agg [.i r.spot, .i r.car, .i r.time, .i r.load, .i r.first, .u r.must, .u r.can, .u r.on, .i 0, .fsl []], .i 1, .i 1152921504606846976]) (f := 14) (by simp [go_sem, Inst.a]) (Pure.loose hb (by simp [bnd, bnd.bndL, Inst.a])) ?_
  refine K_run hB 100 ?_
  simp [go_sem, ht, hf', Diag.a, Diag.cs, hlen, e2, e3, e4]
  refine K_call rfl rfl rfl (args := [x.a]) (f := 16) (by simp [go_sem, Inst.a]) (by simp [go_sem, hB]) ((hd).spec _ _) ?_
  refine K_run hB 100 ?_
  simp [go_sem]
end Go.Proofs.Ytdjbapglfdacmaa

/- Layers: the law. -/
set_option maxRecDepth 4000
set_option maxHeartbeats 1000000
namespace Go.Proofs.Ytdjbapglfdacmaa
open Go Go.Proofs.Ytdjbapglfdacmaa.R
structure LayOk (x : Inst) (w : Int) (d : Diag) : Prop where
  one : 1 ≤ d.layers.length
  few : (d.layers.length : Int) ≤ x.deep + 1
  pos : 1 ≤ d.sure
  le : d.sure ≤ d.layers.length
  whole : d.exact = decide (d.sure = d.layers.length)
  ne : ∀ k (h : k < d.layers.length), d.layers[k] ≠ []
  wide : ∀ k (h : k < d.layers.length), 0 < k → d.layers[k].length ≤ w.toNat ∨ d.layers[k].length ≤ x.stops.length
  len : ∀ k (h : k < d.layers.length), d.layers[k].length ≤ max 1 (x.mostN w)
  track : ∀ k (h : k < d.layers.length), k < d.sure → ∀ n ∈ d.layers[k], x.follow n.path = (n.s, n.cost, 0) ∧ n.path.length = k
theorem build_layOk {x : Inst} (hm : x.may = true) (w lim : Int) : LayOk x w (x.build x.rootN w lim) := by
  have hok := build_ok x x.rootN w lim
  have hc := build_count x x.rootN w lim
  have hd := deep_le x
  have hp0 : x.rootN.path.length = 0 := rfl
  obtain ⟨p, hx⟩ := x.fit hm
  have hln := hx.len
  have hlay := build_lay x.rootN w lim (show 1 ≤ x.mostN w by unfold Inst.mostN; omega)
  have hdrop : ∀ k (h : k < (x.build x.rootN w lim).layers.length), 0 < k → (x.build x.rootN w lim).layers[k] ∈ (x.build x.rootN w lim).layers.drop 1 := fun k h h0 => by
    refine List.mem_iff_getElem.2 ⟨k - 1, by rw [List.length_drop]; omega, ?_⟩
    rw [List.getElem_drop]
    congr 1
    omega
  have hget : ∀ k (h : k < (x.build x.rootN w lim).layers.length), k < (x.build x.rootN w lim).sure → (x.build x.rootN w lim).layers[k] = x.layN lim x.rootN k := fun k h hk => by
    have := hok.lay k hk
    rw [List.getElem?_eq_getElem h] at this
    exact Option.some.inj this
  have h1 := hok.pos
  have h2 := hok.le
  refine ⟨by omega, by omega, h1, h2, hok.whole, fun k h => ?_, fun k h h0 => ?_, fun k h => ?_, fun k h hk n hn => ?_⟩
  · by_cases h0 : 0 < k
    · exact (hlay _ (hdrop k h h0)).1
    · have : k = 0 := by omega
      subst this
      rw [hget 0 h (by omega)]
      simp [Inst.layN]
  · have := (hlay _ (hdrop k h h0)).2
    unfold Inst.mostN at this
    omega
  · by_cases h0 : 0 < k
    · have := (hlay _ (hdrop k h h0)).2
      omega
    · have : k = 0 := by omega
      subst this
      rw [hget 0 h (by omega)]
      simp [Inst.layN]
      omega
  · rw [hget k h hk] at hn
    obtain ⟨t1, t2⟩ := layN_track (track_root hm) lim k n hn
    refine ⟨?_, by omega⟩
    rw [Inst.follow, if_pos hm, t1.goes]
    rfl
theorem lwlay_pure (x : Inst) (w lim : Int) (hl : x.stops.length < 2 ^ 63) : Pure P 5 [x.a, .i w, .i lim] (.b true) := by
  refine pure_of Try.func5 rfl rfl (by simp [Try.f5]) (by simp [bnd, bnd.bndL, Inst.a]) (by simp [bnd, bnd.bndL]) fun B hB hnx => ?_
  simp only [Try.f5] at hB ⊢
  refine K_run hB 100 ?_
  simp [go_sem, Inst.a]
  refine K_call rfl rfl rfl (args := []) (f := 7) (by simp [go_sem]) (by simp [go_sem, hB]) ((awake17_pure).spec _ _) ?_
  by_cases c1 : 9 < (x.stops.length : Int)
  · refine K_run hB 100 ?_
    simp [go_sem, c1]
  by_cases c2 : 30 < w
  · refine K_run hB 100 ?_
    simp [go_sem, c1, c2]
  have h4 := may_pure x hl
  have hst : x.stops.length < 2 ^ 31 := by omega
  have hr := rootN_pure x hl
  have hb := build_pure x x.rootN w lim hst (by omega) (rootS_ok x) (by simp [Inst.rootN])
  have hd := deep_pure x hl
  have hdl := deep_le x
  refine K_run hB 100 ?_
  simp [go_sem, c1, c2]
  refine K_call rfl rfl rfl (args := [x.a]) (f := 13) (by simp [go_sem, Inst.a]) (by simp [go_sem, hB]) ((h4).spec _ _) ?_
  cases hm : x.may with
  | false =>
    refine K_run hB 100 ?_
    simp [go_sem]
  | true =>
    have hok := build_layOk hm w lim
    generalize x.build x.rootN w lim = D at *
    generalize x.rootN = rn at *
    have hfo := fun path (h : path.length < 2 ^ 63) => follow_pure x path hl h
    refine K_run hB 100 ?_
    simp [go_sem]
    refine K_drawnF [6, 7] [0, 1, 2, 3, 4, 5] rfl (by rw [hB]; kernel_rfl) (by kernel_rfl) fun ht hf' => ?_
    refine K_run hB 100 ?_
    simp [go_sem, ht, hf', Inst.cs]
    refine K_dCallP rfl rfl rfl (args := [x.a]) (f := 15) (by simp [go_sem, Inst.a]) (hr) ?_
    refine K_run hB 100 ?_
    simp [go_sem, ht, hf', Node.a, Node.cs, Inst.cs]
    refine K_dCallP rfl rfl rfl (args := [x.a, rn.a, .i w, .i lim]) (f := 14) (by simp [go_sem, Inst.a, Node.a, Node.cs]) (hb) ?_
    have hyl : (lysT D.layers).length = D.layers.length := List.length_map _
    have hyg : ∀ (k : Nat) (h : k < D.layers.length), (lysT D.layers)[k]'(by rw [hyl]; exact h) = [.sl (nodesT D.layers[k])] := fun k h => by simp [lysT]
    obtain ⟨o1, o2, o3, o4, o5, o6, o7, o9, o8⟩ := hok
    have hmost : x.mostN w ≤ 30 := by unfold Inst.mostN; omega
    have hDcs : D.cs = [.t (.sl (lysT D.layers)), .i D.low, .b D.exact, .i D.sure] := rfl
    rw [o5] at hDcs
    generalize D.low = low at *
    generalize D.sure = su at *
    generalize D.exact = ex at *
    generalize lysT D.layers = Y at *
    generalize D.layers = L at *
    have e1 : ¬ (L.length : Int) < 1 := by omega
    have e2 : ¬ x.deep + 1 < (L.length : Int) := by omega
    have e3 : ¬ (su : Int) < 1 := by omega
    have e4 : ¬ (L.length : Int) < su := by omega
    have e5 : IntKind.i64.wrap (x.deep + 1) = x.deep + 1 := w64 _ (by omega)
    refine K_run hB 100 ?_
    simp [go_sem, ht, hf', Diag.a, hDcs]
    refine K_drawn [] rfl (by rw [hB]; kernel_rfl) ?_
    refine K_run hB 100 ?_
    simp [go_sem, hyl, e1]
    refine K_dCallP rfl rfl rfl (args := [x.a]) (f := 16) (by simp [go_sem, Inst.a]) (hd) ?_
    refine K_run hB 100 ?_
    simp [go_sem, hyl, e1, e2, e3, e4, e5]
    refine K_loopP (α := Nat × (Nat → AObj) × Nat) (fun (k, τ, ny) => k ≤ L.length ∧ τ 0 = .box x.cs ∧ τ 1 = .box [.t (.sl Y), .i low, .b (decide (su = L.length)), .i su] ∧ 1 < ny) (fun (k, τ, ny) => ⟨sl [(1, .i w), (3, .ptr 0 0), (8, .ptr 1 0), (9, .i k)], τ, ny⟩) (fun a => L.length - a.1) (0, _, 2) ⟨Nat.zero_le _, by simp [oput, Inst.cs], by simp [oput], by omega⟩ (Imp.slots (by simp [go_sem]) rfl rfl) ?_
    rintro ⟨k, τ, ny⟩ ⟨g1, g2, g3, g4⟩
    refine K_run hB 60 ?_
    simp [go_sem, g3, hyl]
    refine fork_dec (fun hk => ?_) (fun hk => ?_)
    · have hkk : IntKind.i64.wrap ((k : Int) + 1) = ((k + 1 : Nat) : Int) := by rw [w64 ((k : Int) + 1) (by omega)]; rfl
      have hget : ∀ h : k < Y.length, Y[k]'h = [.sl (nodesT L[k])] := fun h => hyg k hk
      have p1 := o6 k hk
      have p2 := o7 k hk
      have p3 := o8 k hk
      have p4 := o9 k hk
      generalize L[k] = l at *
      have hil : (nodesT l).length = l.length := List.length_map _
      have hgt : ∀ (k : Nat) (h : k < l.length), (nodesT l)[k]'(by rw [hil]; exact h) = l[k].t := fun k h => nodesT_get l h
      generalize nodesT l = X at *
      have l1 : ¬ (l.length : Int) < 1 := by
        have := List.length_pos_iff.2 p1
        omega
      have hnot : 0 < k → w < (l.length : Int) → ¬ x.stops.length < l.length := fun h1 h2 => by
        rcases p2 h1 with h | h <;> omega
      by_cases d1 : 0 < k
      · by_cases d2 : w < (l.length : Int)
        · have d3 := hnot d1 d2
          simp [go_sem, g3, hyl, hk, hget, hil, l1, d1, d2, d3, g2, Inst.cs]
          refine K_run hB 100 ?_
          simp [go_sem, g2, Inst.cs, g3, hil]
          refine K_loopP (α := Nat × (Nat → AObj) × Nat) (fun (i, τ, ny) => i ≤ l.length ∧ τ 0 = .box x.cs ∧ τ 1 = .box [.t (.sl Y), .i low, .b (decide (su = L.length)), .i su] ∧ 1 < ny) (fun (i, τ, ny) => ⟨sl [(1, .i w), (3, .ptr 0 0), (8, .ptr 1 0), (9, .i k), (10, .t (.sl X)), (11, .i i)], τ, ny⟩) (fun a => l.length - a.1) (0, τ, ny) ⟨Nat.zero_le _, g2, g3, g4⟩ (Imp.slots (by simp [go_sem]) rfl rfl) ?_
          rintro ⟨i, τ, ny⟩ ⟨k1, k2, k3, k4⟩
          by_cases hi : i < l.length
          · have hi' : (i : Int) < l.length := by omega
            have hii : IntKind.i64.wrap ((i : Int) + 1) = ((i + 1 : Nat) : Int) := by rw [w64 ((i : Int) + 1) (by omega)]; rfl
            have hgeti : ∀ h : i < X.length, X[i]'h = l[i].t := fun h => hgt i hi
            have m0 : ¬ 0 = ny := by omega
            have m1 : ¬ 1 = ny := by omega
            by_cases hs : k < su
            · obtain ⟨q1, q2⟩ := p3 hs l[i] (List.getElem_mem _)
              generalize l[i] = n at *
              have hf := hfo n.path (by omega)
              rw [q1] at hf
              have hpl : (ints n.path).length = k := by rw [ints, List.length_map, q2]
              refine K_run hB 60 ?_
              simp [go_sem, hil, hi, k3, hs]
              refine K_drawnF [11, 12] [0, 1, 2, 3, 4, 5, 6, 7, 8, 9, 10] rfl (by rw [hB]; kernel_rfl) (by kernel_rfl) fun ht hf' => ?_
              refine K_run hB 100 ?_
              simp [go_sem, ht, hf', k2, Inst.cs, hil, hi, hgeti, Node.t]
              refine K_dCallP rfl rfl rfl (args := [x.a, .t (.sl (ints n.path))]) (f := 17) (by simp [go_sem, Inst.a]) (hf) ?_
              refine K_run hB 100 ?_
              simp [go_sem, ht, hf', fol, State.a, State.cs, hil, hi, hgeti, Node.t, m0, m1, k2, Inst.cs]
              refine K_drawn [] rfl (by rw [hB]; kernel_rfl) ?_
              refine K_run hB 100 ?_
              simp [go_sem, hil, hi, hgeti, Node.t]
              refine K_dEq (op := .neq) (t := 33) (t' := 33) (x := .tmp 136) (y := .tmp 141) (xs := n.s.cs) (ys := n.s.cs) (by simp [go_sem]) rfl (by simp [go_sem, State.cs]) (by simp [go_sem, State.a, State.cs]) state_guard (state_eq n.s n.s) rfl ?_
              refine K_run hB 100 ?_
              simp [go_sem, hil, hi, hgeti, Node.t, hpl, hii]
              exact Next.mk (i + 1, _, ny + 1) ⟨by simp only; omega, by simp [oput, m0, k2, Inst.cs], by simp [oput, m1, k3], by simp only; omega⟩ (Imp.slots (by simp [go_sem]) rfl rfl) (by simp only; omega)
            · refine K_run hB 60 ?_
              simp [go_sem, hil, hi, k3, hs, hkk]
              exact Next.mk (k + 1, τ, ny) ⟨by simp only; omega, k2, k3, k4⟩ (Imp.slots (by simp [go_sem]) rfl rfl) (by simp only; omega)
          · refine K_run hB 60 ?_
            simp [go_sem, hil, hi, k3, hkk]
            exact Next.mk (k + 1, τ, ny) ⟨by simp only; omega, k2, k3, k4⟩ (Imp.slots (by simp [go_sem]) rfl rfl) (by simp only; omega)
        · simp [go_sem, g3, hyl, hk, hget, hil, l1, d1, d2]
          refine K_run hB 100 ?_
          simp [go_sem, g2, Inst.cs, g3, hil]
          refine K_loopP (α := Nat × (Nat → AObj) × Nat) (fun (i, τ, ny) => i ≤ l.length ∧ τ 0 = .box x.cs ∧ τ 1 = .box [.t (.sl Y), .i low, .b (decide (su = L.length)), .i su] ∧ 1 < ny) (fun (i, τ, ny) => ⟨sl [(1, .i w), (3, .ptr 0 0), (8, .ptr 1 0), (9, .i k), (10, .t (.sl X)), (11, .i i)], τ, ny⟩) (fun a => l.length - a.1) (0, τ, ny) ⟨Nat.zero_le _, g2, g3, g4⟩ (Imp.slots (by simp [go_sem]) rfl rfl) ?_
          rintro ⟨i, τ, ny⟩ ⟨k1, k2, k3, k4⟩
          by_cases hi : i < l.length
          · have hi' : (i : Int) < l.length := by omega
            have hii : IntKind.i64.wrap ((i : Int) + 1) = ((i + 1 : Nat) : Int) := by rw [w64 ((i : Int) + 1) (by omega)]; rfl
            have hgeti : ∀ h : i < X.length, X[i]'h = l[i].t := fun h => hgt i hi
            have m0 : ¬ 0 = ny := by omega
            have m1 : ¬ 1 = ny := by omega
            by_cases hs : k < su
            · obtain ⟨q1, q2⟩ := p3 hs l[i] (List.getElem_mem _)
              generalize l[i] = n at *
              have hf := hfo n.path (by omega)
              rw [q1] at hf
              have hpl : (ints n.path).length = k := by rw [ints, List.length_map, q2]
              refine K_run hB 60 ?_
              simp [go_sem, hil, hi, k3, hs]
              refine K_drawnF [11, 12] [0, 1, 2, 3, 4, 5, 6, 7, 8, 9, 10] rfl (by rw [hB]; kernel_rfl) (by kernel_rfl) fun ht hf' => ?_
              refine K_run hB 100 ?_
              simp [go_sem, ht, hf', k2, Inst.cs, hil, hi, hgeti, Node.t]
              refine K_dCallP rfl rfl rfl (args := [x.a, .t (.sl (ints n.path))]) (f := 17) (by simp [go_sem, Inst.a]) (hf) ?_
              refine K_run hB 100 ?_
              simp [go_sem, ht, hf', fol, State.a, State.cs, hil, hi, hgeti, Node.t, m0, m1, k2, Inst.cs]
              refine K_drawn [] rfl (by rw [hB]; kernel_rfl) ?_
              refine K_run hB 100 ?_
              simp [go_sem, hil, hi, hgeti, Node.t]
              refine K_dEq (op := .neq) (t := 33) (t' := 33) (x := .tmp 136) (y := .tmp 141) (xs := n.s.cs) (ys := n.s.cs) (by simp [go_sem]) rfl (by simp [go_sem, State.cs]) (by simp [go_sem, State.a, State.cs]) state_guard (state_eq n.s n.s) rfl ?_
              refine K_run hB 100 ?_
              simp [go_sem, hil, hi, hgeti, Node.t, hpl, hii]
              exact Next.mk (i + 1, _, ny + 1) ⟨by simp only; omega, by simp [oput, m0, k2, Inst.cs], by simp [oput, m1, k3], by simp only; omega⟩ (Imp.slots (by simp [go_sem]) rfl rfl) (by simp only; omega)
            · refine K_run hB 60 ?_
              simp [go_sem, hil, hi, k3, hs, hkk]
              exact Next.mk (k + 1, τ, ny) ⟨by simp only; omega, k2, k3, k4⟩ (Imp.slots (by simp [go_sem]) rfl rfl) (by simp only; omega)
          · refine K_run hB 60 ?_
            simp [go_sem, hil, hi, k3, hkk]
            exact Next.mk (k + 1, τ, ny) ⟨by simp only; omega, k2, k3, k4⟩ (Imp.slots (by simp [go_sem]) rfl rfl) (by simp only; omega)
      · simp [go_sem, g3, hyl, hk, hget, hil, l1, d1]
        refine K_run hB 100 ?_
        simp [go_sem, g2, Inst.cs, g3, hil]
        refine K_loopP (α := Nat × (Nat → AObj) × Nat) (fun (i, τ, ny) => i ≤ l.length ∧ τ 0 = .box x.cs ∧ τ 1 = .box [.t (.sl Y), .i low, .b (decide (su = L.length)), .i su] ∧ 1 < ny) (fun (i, τ, ny) => ⟨sl [(1, .i w), (3, .ptr 0 0), (8, .ptr 1 0), (9, .i k), (10, .t (.sl X)), (11, .i i)], τ, ny⟩) (fun a => l.length - a.1) (0, τ, ny) ⟨Nat.zero_le _, g2, g3, g4⟩ (Imp.slots (by simp [go_sem]) rfl rfl) ?_
        rintro ⟨i, τ, ny⟩ ⟨k1, k2, k3, k4⟩
        by_cases hi : i < l.length
        · have hi' : (i : Int) < l.length := by omega
          have hii : IntKind.i64.wrap ((i : Int) + 1) = ((i + 1 : Nat) : Int) := by rw [w64 ((i : Int) + 1) (by omega)]; rfl
          have hgeti : ∀ h : i < X.length, X[i]'h = l[i].t := fun h => hgt i hi
          have m0 : ¬ 0 = ny := by omega
          have m1 : ¬ 1 = ny := by omega
          by_cases hs : k < su
          · obtain ⟨q1, q2⟩ := p3 hs l[i] (List.getElem_mem _)
            generalize l[i] = n at *
            have hf := hfo n.path (by omega)
            rw [q1] at hf
            have hpl : (ints n.path).length = k := by rw [ints, List.length_map, q2]
            refine K_run hB 60 ?_
            simp [go_sem, hil, hi, k3, hs]
            refine K_drawnF [11, 12] [0, 1, 2, 3, 4, 5, 6, 7, 8, 9, 10] rfl (by rw [hB]; kernel_rfl) (by kernel_rfl) fun ht hf' => ?_
            refine K_run hB 100 ?_
            simp [go_sem, ht, hf', k2, Inst.cs, hil, hi, hgeti, Node.t]
            refine K_dCallP rfl rfl rfl (args := [x.a, .t (.sl (ints n.path))]) (f := 17) (by simp [go_sem, Inst.a]) (hf) ?_
            refine K_run hB 100 ?_
            simp [go_sem, ht, hf', fol, State.a, State.cs, hil, hi, hgeti, Node.t, m0, m1, k2, Inst.cs]
            refine K_drawn [] rfl (by rw [hB]; kernel_rfl) ?_
            refine K_run hB 100 ?_
            simp [go_sem, hil, hi, hgeti, Node.t]
            refine K_dEq (op := .neq) (t := 33) (t' := 33) (x := .tmp 136) (y := .tmp 141) (xs := n.s.cs) (ys := n.s.cs) (by simp [go_sem]) rfl (by simp [go_sem, State.cs]) (by simp [go_sem, State.a, State.cs]) state_guard (state_eq n.s n.s) rfl ?_
            refine K_run hB 100 ?_
            simp [go_sem, hil, hi, hgeti, Node.t, hpl, hii]
            exact Next.mk (i + 1, _, ny + 1) ⟨by simp only; omega, by simp [oput, m0, k2, Inst.cs], by simp [oput, m1, k3], by simp only; omega⟩ (Imp.slots (by simp [go_sem]) rfl rfl) (by simp only; omega)
          · refine K_run hB 60 ?_
            simp [go_sem, hil, hi, k3, hs, hkk]
            exact Next.mk (k + 1, τ, ny) ⟨by simp only; omega, k2, k3, k4⟩ (Imp.slots (by simp [go_sem]) rfl rfl) (by simp only; omega)
        · refine K_run hB 60 ?_
          simp [go_sem, hil, hi, k3, hkk]
          exact Next.mk (k + 1, τ, ny) ⟨by simp only; omega, k2, k3, k4⟩ (Imp.slots (by simp [go_sem]) rfl rfl) (by simp only; omega)
    · have : k = L.length := by omega
      subst this
      simp [go_sem]
end Go.Proofs.Ytdjbapglfdacmaa
