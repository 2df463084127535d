/- Parts of the proof: Build, Sched, Sched2, Sched3, PlanC, ToursP, PlansP, WideT, Law17, BuildR, Law17e. -/
import Derived.Test.YtdjbapglfdacmaaGreatMI
set_option linter.unusedVariables false
/- Diagrams of all ways: wide.Build. -/
set_option maxRecDepth 4000
set_option maxHeartbeats 2000000
namespace Go.Proofs.YtdjbapglfdacmaaGreat
open Go Go.Proofs.YtdjbapglfdacmaaGreat.R
/-- Rows of rows of nodes. -/
def lysT (ls : List (List Node)) : List (List T) := ls.map fun l => [.sl (nodesT l)]
def Diag.cs (d : Diag) : List AV := [.t (.sl (lysT d.layers)), .i d.low, .b d.exact, .i d.sure]
def Diag.a (d : Diag) : AV := .agg d.cs
structure WFine (l : List Node) (K : Nat) : Prop where
  ok : ∀ n ∈ l, n.s.ok
  path : ∀ n ∈ l, n.path.length ≤ K
theorem WFine.next {x : Inst} {l : List Node} {K : Nat} (h : WFine l K) (up : Int) : WFine (x.next l up) (K + 1) := by
  refine ⟨?_, ?_⟩ <;> (intro m hm; obtain ⟨n, hn, j, hj, rfl, _⟩ := next_mem hm)
  · exact move_ok x j (h.ok n hn)
  · have := h.path n hn
    show (n.path ++ [j]).length ≤ K + 1
    rw [List.length_append]
    simp only [List.length_cons, List.length_nil]
    omega
theorem fold_ok : ∀ (l : List State) (s : State), s.ok → (∀ t ∈ l, t.ok) → (l.foldl State.join s).ok
  | [], s, h, _ => h
  | t :: l, s, h, k => fold_ok l (s.join t) (join_ok h (k t List.mem_cons_self)) fun u hu => k u (List.mem_cons_of_mem _ hu)
theorem joinL_ok {l : List State} (h : ∀ t ∈ l, t.ok) : (joinL l).1.ok := by
  cases l with
  | nil => exact State.zero_ok
  | cons s l =>
    rw [joinL]
    split
    · exact State.zero_ok
    · exact fold_ok l s (h s List.mem_cons_self) fun t ht => h t (List.mem_cons_of_mem _ ht)
theorem WFine.squeeze {x : Inst} {l : List Node} {K : Nat} (h : WFine l K) (w : Int) : WFine (x.squeeze l w) K := by
  refine ⟨fun m hm => ?_, fun m hm => ?_⟩
  · rcases squeeze_mem hm with hm | ⟨i, g, h1, h2, h3, rfl⟩
    · exact h.ok m hm
    · exact joinL_ok fun t ht => by
        obtain ⟨q, hq, rfl⟩ := List.mem_map.1 ht
        exact h.ok q (h3 q hq).1
  · rcases squeeze_mem hm with hm | ⟨i, g, h1, h2, h3, rfl⟩
    · exact h.path m hm
    · exact Nat.zero_le _
theorem deep_le (x : Inst) : 0 ≤ x.deep ∧ x.deep ≤ 39 := by
  unfold Inst.deep
  split
  · rename_i hm
    obtain ⟨p, hx⟩ := x.fit hm
    have := hx.pairs
    have := hx.few
    have := hx.cars
    omega
  · omega
theorem next_few {x : Inst} {l : List Node} {up w : Int} (hw : w ≤ 3000) (h : (x.next l up).length ≤ x.mostN w) : (x.next l up).length ≤ 3000 := by
  cases hm : x.may with
  | true =>
    obtain ⟨p, hx⟩ := x.fit hm
    have := hx.len
    have := hx.few
    unfold Inst.mostN at h
    omega
  | false =>
    have : x.next l up = [] := by
      refine List.eq_nil_iff_forall_not_mem.2 fun m hm2 => ?_
      obtain ⟨n, hn, j, hj, _⟩ := next_mem hm2
      have := (move_may (moves_mem hj)).1
      rw [hm] at this; cases this
    rw [this]; simp
theorem most_few {x : Inst} {l : List Node} {up w : Int} (hw : w ≤ 3000) (h : x.mostN w < (x.next l up).length) : x.mostN w ≤ 3000 := by
  cases hm : x.may with
  | true =>
    obtain ⟨p, hx⟩ := x.fit hm
    have := hx.len
    have := hx.few
    unfold Inst.mostN
    omega
  | false =>
    have : x.next l up = [] := by
      refine List.eq_nil_iff_forall_not_mem.2 fun m hm2 => ?_
      obtain ⟨n, hn, j, hj, _⟩ := next_mem hm2
      have := (move_may (moves_mem hj)).1
      rw [hm] at this; cases this
    rw [this] at h; simp at h
theorem build_pure (x : Inst) (n : Node) (w up : Int) (hl : x.stops.length < 2 ^ 31) (hw : w ≤ 3000) (ho : n.s.ok) (hp : n.path.length < 2 ^ 29) : Pure P 14 [x.a, n.a, .i w, .i up] ((x.build n w up).a) := by
  generalize hR : x.build n w up = R
  refine pure_of Tryz.func14 rfl rfl (by simp [Tryz.f14]) (by simp [bnd, bnd.bndL, Inst.a, Node.a, Node.cs]) (by simp [bnd, bnd.bndL, Diag.a, Diag.cs]) fun B hB hnx => ?_
  simp only [Tryz.f14] at hB ⊢
  have hdeep := deep_pure x (by omega)
  have hdl := deep_le x
  have hown := ownN_pure [n] (by simp) (fun m hm => by rw [List.mem_singleton.1 hm]; omega)
  rw [Inst.build] at hR
  have hwd : IntKind.i64.wrap (x.deep - n.path.length) = x.deep - n.path.length := w64 _ (by omega)
  generalize hdp : x.deep - (n.path.length : Int) = dp at *
  have hnl : (ints n.path).length = n.path.length := List.length_map _
  refine K_run hB 100 ?_
  simp [go_sem, Inst.a, Node.a, Node.cs]
  refine K_scope ?_
  refine K_run hB 100 ?_
  simp [go_sem]
  refine K_drawn [] rfl (by rw [hB]; kernel_rfl) ?_
  refine K_run hB 100 ?_
  simp [go_sem]
  refine K_dCallP rfl rfl rfl (args := [x.a]) (f := 16) (by simp [go_sem, Inst.a]) (hdeep) ?_
  refine K_run hB 100 ?_
  simp [go_sem, hnl, hdp, hwd]
  refine K_call rfl rfl rfl (args := [.fsl [n.t]]) (f := 37) (by simp [go_sem, Node.t]) (by simp [go_sem, hB]) ((Pure.loose hown (by simp [bnd])).spec _ _) ?_
  refine K_run hB 100 ?_
  simp [go_sem]
  refine K_less (Imp.ownB (b := 4) (off := 0) (sz := 1) (cs := [.fsl [], .i up, .b true, .i 0]) (by simp [oput]) rfl) ?_
  refine K_loopP (α := Nat × List (List Node) × Int × Option Nat × List Node × Nat × (Nat → AObj) × Nat) (fun (f, ls, low, sq, l, q, τ, ny) => x.buildGo w up dp f ls low sq l = R ∧ (f : Int) + ls.length ≥ dp + 2 ∧ ((ls.length : Int) ≤ dp ∨ ls = []) ∧ 1 ≤ f ∧ WFine l (n.path.length + ls.length) ∧ l.length ≤ 3000 ∧ τ 0 = .box x.cs ∧ τ 2 = .box [.i w] ∧ τ 3 = .box [.fsl [], .i 0, .b false, .i 0] ∧ τ 4 = .box [.ref q, .i low, .b sq.isNone, .i (sq.getD 0 : Nat)] ∧ τ q = .arr 1 (lysT ls) ∧ 4 < q ∧ q < ny)
    (fun (f, ls, low, sq, l, q, τ, ny) => ⟨sl [(3, .i up), (4, .ptr 0 0), (6, .ptr 2 0), (8, .ptr 3 0), (9, .ptr 4 0), (10, .fn (.func 35) [] [.ptr 0 0, .ptr 2 0]), (11, .i dp), (12, .t (.sl (nodesT l)))], τ, ny⟩) (fun a => a.1) (dp.toNat + 2, [], up, none, [n], 5, _, 6) ?_ (Imp.slots (by simp [go_sem]) rfl rfl) ?_
  · refine ⟨hR, by simp only [List.length_nil]; omega, .inr rfl, by omega, ⟨fun m hm => by rw [List.mem_singleton.1 hm]; exact ho, fun m hm => by rw [List.mem_singleton.1 hm]; omega⟩, by simp, by simp [oput, Inst.cs], by simp [oput], by simp [oput], by simp [oput, setCells], by simp [oput, lysT], by omega, by omega⟩
  clear hR
  rintro ⟨f, ls, low, sq, l, q, τ, ny⟩ ⟨hR, g1, g2, g3, g4, g5, h0, h2, h3, h4, h5, h6, h7⟩
  obtain ⟨f, rfl⟩ : ∃ f', f = f' + 1 := ⟨f - 1, by omega⟩
  have hil : (nodesT l).length = l.length := List.length_map _
  have hyl : (lysT ls).length = ls.length := List.length_map _
  have hls : ls.length ≤ 40 := by
    rcases g2 with g2 | g2
    · omega
    · rw [g2]; simp
  have n0 : ¬ 0 = ny := by omega
  have n2 : ¬ 2 = ny := by omega
  have n3 : ¬ 3 = ny := by omega
  have n4 : ¬ 4 = ny := by omega
  have n5 : ¬ q = 3 := by omega
  have n6 : ¬ q = 4 := by omega
  rw [Inst.buildGo] at hR
  by_cases c0 : l = []
  · rw [if_pos c0] at hR
    subst hR
    have c0' : l.length = 0 := by rw [c0]; rfl
    cases sq with
    | none =>
      refine K_run hB 60 ?_
      simp [go_sem, hil, c0', h4, h5, hyl, n5, n6, h3]
      rfl
    | some k =>
      refine K_run hB 60 ?_
      simp [go_sem, hil, c0', h4, h5, hyl, n5, n6, h3]
      rfl
  rw [if_neg c0] at hR
  have c0' : 0 < l.length := List.length_pos_iff.2 c0
  have hx := expand_pure x l up hl (by omega) (fun m h => ⟨g4.ok m h, by have := g4.path m h; omega⟩) (fun m h => by have := g4.path m h; omega)
  have hnw := g4.next (x := x) up
  have hsn : lysT ls ++ [[.sl (nodesT l)]] = lysT (ls ++ [l]) := by simp [lysT]
  have hcap : ls.length + 1 ≤ mostLen := by show _ ≤ 4294967296; omega
  have hsl : (lysT (ls ++ [l])).length = ls.length + 1 := by rw [lysT, List.length_map]; simp
  have n7 : ¬ 4 = q := by omega
  have n8 : ¬ 0 = q := by omega
  have n9 : ¬ 2 = q := by omega
  have na : ¬ 3 = q := by omega
  generalize x.bests l = Bs at *
  obtain ⟨b, is⟩ := Bs
  have hqs := squeeze_pure x (x.next l up) w hl (by have := next_len x l up; omega) (fun m h => ⟨hnw.ok m h, by have := hnw.path m h; omega⟩)
  have hnf := next_few (x := x) (l := l) (up := up) hw
  have hmf := most_few (x := x) (l := l) (up := up) hw
  have hsq := squeeze_len x (x.next l up) w
  have hsw := hnw.squeeze (x := x) w
  generalize x.squeeze (x.next l up) w = Q at *
  generalize x.next l up = M at *
  refine K_run hB 60 ?_
  simp [go_sem, hil, c0', h4, h5, hyl, hsn, hcap, n0, n2, n3, n4, n6, n7, n8, n9, na, h0, Inst.cs]
  refine K_run hB 100 ?_
  simp [go_sem, hil, c0', h4, h5, hyl, hsn, hcap, n0, n2, n3, n4, n6, n7, n8, n9, na, h0, Inst.cs]
  refine K_call rfl rfl rfl (args := [x.a, .t (.sl (nodesT l)), .i up]) (f := 38) (by simp [go_sem, Inst.a]) (by simp [go_sem, hB]) ((hx).spec _ _) ?_
  have b0 : ¬ ny = 0 := by omega
  have b1 : ¬ ny + 1 = 0 := by omega
  have b2 : ¬ ny = 1 := by omega
  have b3 : ¬ ny = 2 := by omega
  have b4 : ¬ ny = 3 := by omega
  have b5 : ¬ ny = 4 := by omega
  have b6 : ¬ 4 = ny + 1 := by omega
  have hov := fun (τ' : Nat → AObj) (e1 : τ' 0 = .box x.cs) (e2 : τ' 2 = .box [.i w]) => over_spec x w M (σ := τ') (nx := ny + 2) (a := 0) (b := 2) (by omega) (by omega) e1 e2
  have hwQ : WFine Q (n.path.length + (ls ++ [l]).length) := by rw [List.length_append]; exact hsw
  have hwM : WFine M (n.path.length + (ls ++ [l]).length) := by rw [List.length_append]; exact hnw
  cases is with
  | false =>
    have hlw : lowB low (b, false) = low := rfl
    rw [hlw] at hR
    by_cases c1 : dp < (ls.length : Int) + 1
    · rw [if_pos (by omega)] at hR
      subst hR
      cases sq with
      | none =>
        refine K_run hB 100 ?_
        simp [go_sem, expRes, Node.a, Node.cs, h0, h2, h3, h4, h5, n0, n2, n3, n4, n5, n6, n7, n8, n9, na, b0, b1, b2, b3, b4, b5, b6, hsl, Inst.cs, c1]
        simp [Diag.of, Diag.a, Diag.cs]
      | some k =>
        refine K_run hB 100 ?_
        simp [go_sem, expRes, Node.a, Node.cs, h0, h2, h3, h4, h5, n0, n2, n3, n4, n5, n6, n7, n8, n9, na, b0, b1, b2, b3, b4, b5, b6, hsl, Inst.cs, c1]
        rfl
    rw [if_neg (by omega)] at hR
    refine K_run hB 100 ?_
    simp [go_sem, expRes, Node.a, Node.cs, h0, h2, h3, h4, h5, n0, n2, n3, n4, n5, n6, n7, n8, n9, na, b0, b1, b2, b3, b4, b5, b6, hsl, Inst.cs, c1]
    refine K_call rfl rfl rfl (args := [.t (.sl (nodesT M)), .ptr 0 0, .ptr 2 0]) (f := 35) (by simp [go_sem]) (by simp [go_sem, hB]) (hov _ (by simp [oput, h0, n0, n8, b0, b1, Inst.cs]) (by simp [oput, h2, n2, n9, b1, b2, b3])) ?_
    by_cases c2 : x.mostN w < M.length
    · rw [if_pos c2] at hR
      refine K_run hB 100 ?_
      simp [go_sem, expRes, Node.a, Node.cs, h0, h2, h3, h4, h5, n0, n2, n3, n4, n5, n6, n7, n8, n9, na, b0, b1, b2, b3, b4, b5, b6, hsl, Inst.cs, c2]
      refine K_call rfl rfl rfl (args := [x.a, .t (.sl (nodesT M)), .i w]) (f := 39) (by simp [go_sem, Inst.a]) (by simp [go_sem, hB]) ((hqs).spec _ _) ?_
      cases sq with
      | none =>
        refine K_run hB 100 ?_
        simp [go_sem, expRes, Node.a, Node.cs, h0, h2, h3, h4, h5, n0, n2, n3, n4, n5, n6, n7, n8, n9, na, b0, b1, b2, b3, b4, b5, b6, hsl, Inst.cs]
        refine Next.mk (f, ls ++ [l], low, some (ls.length + 1), Q, ny, _, ny + 2) ?_ (Imp.slots (by simp [go_sem]) rfl rfl) (by simp only; omega)
        exact ⟨hR, by simp only [List.length_append, List.length_cons, List.length_nil]; omega, .inl (by simp only [List.length_append, List.length_cons, List.length_nil]; omega), by simp only; omega, hwQ, (by have := hmf c2; simp only; omega), by simp [oput, h0, h2, h3, h4, n0, n2, n3, n4, n7, n8, n9, na, b0, b1, b2, b3, b4, b5, b6, Inst.cs], by simp [oput, h0, h2, h3, h4, n0, n2, n3, n4, n7, n8, n9, na, b0, b1, b2, b3, b4, b5, b6, Inst.cs], by simp [oput, h0, h2, h3, h4, n0, n2, n3, n4, n7, n8, n9, na, b0, b1, b2, b3, b4, b5, b6, Inst.cs], by simp [oput, h0, h2, h3, h4, n0, n2, n3, n4, n7, n8, n9, na, b0, b1, b2, b3, b4, b5, b6, Inst.cs], by simp [oput, h0, h2, h3, h4, n0, n2, n3, n4, n7, n8, n9, na, b0, b1, b2, b3, b4, b5, b6, Inst.cs], by simp only; omega, by simp only; omega⟩
      | some k =>
        refine K_run hB 100 ?_
        simp [go_sem, expRes, Node.a, Node.cs, h0, h2, h3, h4, h5, n0, n2, n3, n4, n5, n6, n7, n8, n9, na, b0, b1, b2, b3, b4, b5, b6, hsl, Inst.cs]
        refine Next.mk (f, ls ++ [l], low, some k, Q, ny, _, ny + 2) ?_ (Imp.slots (by simp [go_sem]) rfl rfl) (by simp only; omega)
        exact ⟨hR, by simp only [List.length_append, List.length_cons, List.length_nil]; omega, .inl (by simp only [List.length_append, List.length_cons, List.length_nil]; omega), by simp only; omega, hwQ, (by have := hmf c2; simp only; omega), by simp [oput, h0, h2, h3, h4, n0, n2, n3, n4, n7, n8, n9, na, b0, b1, b2, b3, b4, b5, b6, Inst.cs], by simp [oput, h0, h2, h3, h4, n0, n2, n3, n4, n7, n8, n9, na, b0, b1, b2, b3, b4, b5, b6, Inst.cs], by simp [oput, h0, h2, h3, h4, n0, n2, n3, n4, n7, n8, n9, na, b0, b1, b2, b3, b4, b5, b6, Inst.cs], by simp [oput, h0, h2, h3, h4, n0, n2, n3, n4, n7, n8, n9, na, b0, b1, b2, b3, b4, b5, b6, Inst.cs], by simp [oput, h0, h2, h3, h4, n0, n2, n3, n4, n7, n8, n9, na, b0, b1, b2, b3, b4, b5, b6, Inst.cs], by simp only; omega, by simp only; omega⟩
    · rw [if_neg c2] at hR
      refine K_run hB 100 ?_
      simp [go_sem, expRes, Node.a, Node.cs, h0, h2, h3, h4, h5, n0, n2, n3, n4, n5, n6, n7, n8, n9, na, b0, b1, b2, b3, b4, b5, b6, hsl, Inst.cs, c2]
      refine Next.mk (f, ls ++ [l], low, sq, M, ny, _, ny + 2) ?_ (Imp.slots (by simp [go_sem]) rfl rfl) (by simp only; omega)
      exact ⟨hR, by simp only [List.length_append, List.length_cons, List.length_nil]; omega, .inl (by simp only [List.length_append, List.length_cons, List.length_nil]; omega), by simp only; omega, hwM, (hnf (by omega)), by simp [oput, h0, h2, h3, h4, n0, n2, n3, n4, n7, n8, n9, na, b0, b1, b2, b3, b4, b5, b6, Inst.cs], by simp [oput, h0, h2, h3, h4, n0, n2, n3, n4, n7, n8, n9, na, b0, b1, b2, b3, b4, b5, b6, Inst.cs], by simp [oput, h0, h2, h3, h4, n0, n2, n3, n4, n7, n8, n9, na, b0, b1, b2, b3, b4, b5, b6, Inst.cs], by simp [oput, h0, h2, h3, h4, n0, n2, n3, n4, n7, n8, n9, na, b0, b1, b2, b3, b4, b5, b6, Inst.cs], by simp [oput, h0, h2, h3, h4, n0, n2, n3, n4, n7, n8, n9, na, b0, b1, b2, b3, b4, b5, b6, Inst.cs], by simp only; omega, by simp only; omega⟩
  | true =>
    have hlw : lowB low (b, true) = min low b.cost := rfl
    rw [hlw] at hR
    by_cases c1 : dp < (ls.length : Int) + 1
    · rw [if_pos (by omega)] at hR
      subst hR
      cases sq with
      | none =>
        refine K_run hB 100 ?_
        simp [go_sem, expRes, Node.a, Node.cs, h0, h2, h3, h4, h5, n0, n2, n3, n4, n5, n6, n7, n8, n9, na, b0, b1, b2, b3, b4, b5, b6, hsl, Inst.cs, c1]
        simp [Diag.of, Diag.a, Diag.cs]
      | some k =>
        refine K_run hB 100 ?_
        simp [go_sem, expRes, Node.a, Node.cs, h0, h2, h3, h4, h5, n0, n2, n3, n4, n5, n6, n7, n8, n9, na, b0, b1, b2, b3, b4, b5, b6, hsl, Inst.cs, c1]
        rfl
    rw [if_neg (by omega)] at hR
    refine K_run hB 100 ?_
    simp [go_sem, expRes, Node.a, Node.cs, h0, h2, h3, h4, h5, n0, n2, n3, n4, n5, n6, n7, n8, n9, na, b0, b1, b2, b3, b4, b5, b6, hsl, Inst.cs, c1]
    refine K_call rfl rfl rfl (args := [.t (.sl (nodesT M)), .ptr 0 0, .ptr 2 0]) (f := 35) (by simp [go_sem]) (by simp [go_sem, hB]) (hov _ (by simp [oput, h0, n0, n8, b0, b1, Inst.cs]) (by simp [oput, h2, n2, n9, b1, b2, b3])) ?_
    by_cases c2 : x.mostN w < M.length
    · rw [if_pos c2] at hR
      refine K_run hB 100 ?_
      simp [go_sem, expRes, Node.a, Node.cs, h0, h2, h3, h4, h5, n0, n2, n3, n4, n5, n6, n7, n8, n9, na, b0, b1, b2, b3, b4, b5, b6, hsl, Inst.cs, c2]
      refine K_call rfl rfl rfl (args := [x.a, .t (.sl (nodesT M)), .i w]) (f := 39) (by simp [go_sem, Inst.a]) (by simp [go_sem, hB]) ((hqs).spec _ _) ?_
      cases sq with
      | none =>
        refine K_run hB 100 ?_
        simp [go_sem, expRes, Node.a, Node.cs, h0, h2, h3, h4, h5, n0, n2, n3, n4, n5, n6, n7, n8, n9, na, b0, b1, b2, b3, b4, b5, b6, hsl, Inst.cs]
        refine Next.mk (f, ls ++ [l], min low b.cost, some (ls.length + 1), Q, ny, _, ny + 2) ?_ (Imp.slots (by simp [go_sem]) rfl rfl) (by simp only; omega)
        exact ⟨hR, by simp only [List.length_append, List.length_cons, List.length_nil]; omega, .inl (by simp only [List.length_append, List.length_cons, List.length_nil]; omega), by simp only; omega, hwQ, (by have := hmf c2; simp only; omega), by simp [oput, h0, h2, h3, h4, n0, n2, n3, n4, n7, n8, n9, na, b0, b1, b2, b3, b4, b5, b6, Inst.cs], by simp [oput, h0, h2, h3, h4, n0, n2, n3, n4, n7, n8, n9, na, b0, b1, b2, b3, b4, b5, b6, Inst.cs], by simp [oput, h0, h2, h3, h4, n0, n2, n3, n4, n7, n8, n9, na, b0, b1, b2, b3, b4, b5, b6, Inst.cs], by simp [oput, h0, h2, h3, h4, n0, n2, n3, n4, n7, n8, n9, na, b0, b1, b2, b3, b4, b5, b6, Inst.cs], by simp [oput, h0, h2, h3, h4, n0, n2, n3, n4, n7, n8, n9, na, b0, b1, b2, b3, b4, b5, b6, Inst.cs], by simp only; omega, by simp only; omega⟩
      | some k =>
        refine K_run hB 100 ?_
        simp [go_sem, expRes, Node.a, Node.cs, h0, h2, h3, h4, h5, n0, n2, n3, n4, n5, n6, n7, n8, n9, na, b0, b1, b2, b3, b4, b5, b6, hsl, Inst.cs]
        refine Next.mk (f, ls ++ [l], min low b.cost, some k, Q, ny, _, ny + 2) ?_ (Imp.slots (by simp [go_sem]) rfl rfl) (by simp only; omega)
        exact ⟨hR, by simp only [List.length_append, List.length_cons, List.length_nil]; omega, .inl (by simp only [List.length_append, List.length_cons, List.length_nil]; omega), by simp only; omega, hwQ, (by have := hmf c2; simp only; omega), by simp [oput, h0, h2, h3, h4, n0, n2, n3, n4, n7, n8, n9, na, b0, b1, b2, b3, b4, b5, b6, Inst.cs], by simp [oput, h0, h2, h3, h4, n0, n2, n3, n4, n7, n8, n9, na, b0, b1, b2, b3, b4, b5, b6, Inst.cs], by simp [oput, h0, h2, h3, h4, n0, n2, n3, n4, n7, n8, n9, na, b0, b1, b2, b3, b4, b5, b6, Inst.cs], by simp [oput, h0, h2, h3, h4, n0, n2, n3, n4, n7, n8, n9, na, b0, b1, b2, b3, b4, b5, b6, Inst.cs], by simp [oput, h0, h2, h3, h4, n0, n2, n3, n4, n7, n8, n9, na, b0, b1, b2, b3, b4, b5, b6, Inst.cs], by simp only; omega, by simp only; omega⟩
    · rw [if_neg c2] at hR
      refine K_run hB 100 ?_
      simp [go_sem, expRes, Node.a, Node.cs, h0, h2, h3, h4, h5, n0, n2, n3, n4, n5, n6, n7, n8, n9, na, b0, b1, b2, b3, b4, b5, b6, hsl, Inst.cs, c2]
      refine Next.mk (f, ls ++ [l], min low b.cost, sq, M, ny, _, ny + 2) ?_ (Imp.slots (by simp [go_sem]) rfl rfl) (by simp only; omega)
      exact ⟨hR, by simp only [List.length_append, List.length_cons, List.length_nil]; omega, .inl (by simp only [List.length_append, List.length_cons, List.length_nil]; omega), by simp only; omega, hwM, (hnf (by omega)), by simp [oput, h0, h2, h3, h4, n0, n2, n3, n4, n7, n8, n9, na, b0, b1, b2, b3, b4, b5, b6, Inst.cs], by simp [oput, h0, h2, h3, h4, n0, n2, n3, n4, n7, n8, n9, na, b0, b1, b2, b3, b4, b5, b6, Inst.cs], by simp [oput, h0, h2, h3, h4, n0, n2, n3, n4, n7, n8, n9, na, b0, b1, b2, b3, b4, b5, b6, Inst.cs], by simp [oput, h0, h2, h3, h4, n0, n2, n3, n4, n7, n8, n9, na, b0, b1, b2, b3, b4, b5, b6, Inst.cs], by simp [oput, h0, h2, h3, h4, n0, n2, n3, n4, n7, n8, n9, na, b0, b1, b2, b3, b4, b5, b6, Inst.cs], by simp only; omega, by simp only; omega⟩
end Go.Proofs.YtdjbapglfdacmaaGreat

/- When a car is where: what is wrong with a stop, and how it drives. -/
set_option maxRecDepth 4000
namespace Go.Proofs.YtdjbapglfdacmaaGreat
open Go Go.Proofs.YtdjbapglfdacmaaGreat.R
/-- A car on its way. -/
structure Car where
  spot : Int
  now : Int
  gone : Int
  load : Int
  seen : Nat
  on : Nat
  times : List (List T)
  loads : List Int
def carC (x : Inst) (c : Car) (qt ql : Nat) : List AV := [.t (.i x.pairs), .t (.i x.cars), .t (.i x.room), .t (.sl (x.stops.map Stop.t)), .i c.spot, .i c.now, .i c.gone, .i c.load, .u c.seen, .u c.on, .ref qt, .ref ql]
/-- What holds of a car that has seen so many stops. -/
structure Car.Fit (c : Car) (p k : Nat) : Prop where
  spot : 0 ≤ c.spot ∧ c.spot ≤ 2 * p
  now : 0 ≤ c.now ∧ c.now ≤ 1049576
  gone : 0 ≤ c.gone ∧ c.gone ≤ 14143 * k
  load : -1000 * (k : Int) ≤ c.load ∧ c.load ≤ 1000
  seen : c.seen < 2 ^ 64
  on : c.on < 2 ^ 64
  times : c.times.length = k
  loads : c.loads.length = k
  three : ∀ y ∈ c.times, y.length = 3
  few : k + ((List.range (2 * p + 1)).filter fun j : Nat => decide (1 ≤ j) && !hasB c.seen (j : Int)).length ≤ 2 * p
theorem Car.Fit.le {c : Car} {p k : Nat} (h : c.Fit p k) : k ≤ 2 * p := by have := h.few; omega
def Inst.visitsE (x : Inst) (c : Car) (i : Int) : Int :=
  if i < 1 ∨ 2 * x.pairs < i then 1 else if hasB c.seen i = true then 5 else if x.pairs < i ∧ hasB c.seen (i - x.pairs) = false then 8 else if x.room < c.load + (x.stop i).demand then 6 else 0
def Inst.drive (x : Inst) (c : Car) (i : Int) : Car := { c with spot := i, gone := c.gone + far (x.stop c.spot) (x.stop i) }
end Go.Proofs.YtdjbapglfdacmaaGreat

/- When a car is where: it visits a stop. -/
set_option maxRecDepth 4000
namespace Go.Proofs.YtdjbapglfdacmaaGreat
open Go Go.Proofs.YtdjbapglfdacmaaGreat.R
structure Rows3 (c : Car) (σ : Nat → AObj) (nx b qt ql : Nat) : Prop where
  tm : σ qt = .arr 3 c.times
  ld : σ ql = .arr 1 (ints c.loads)
  ltT : qt < nx
  ltL : ql < nx
  neT : qt ≠ b
  neL : ql ≠ b
  ne : qt ≠ ql
def Inst.visitC (x : Inst) (c : Car) (i : Int) : Car × Int :=
  if x.visitsE c i ≠ 0 then (c, x.visitsE c i)
  else if (x.stop i).due < max (c.now + far (x.stop c.spot) (x.stop i)) (x.stop i).ready then (x.drive c i, 7)
  else ({ spot := i, now := max (c.now + far (x.stop c.spot) (x.stop i)) (x.stop i).ready + (x.stop i).service, gone := c.gone + far (x.stop c.spot) (x.stop i), load := c.load + (x.stop i).demand, seen := withN c.seen i,
          on := if i ≤ x.pairs then withN c.on i else withoutN c.on (i - x.pairs), times := c.times ++ [[.i (c.now + far (x.stop c.spot) (x.stop i)), .i (max (c.now + far (x.stop c.spot) (x.stop i)) (x.stop i).ready), .i (max (c.now + far (x.stop c.spot) (x.stop i)) (x.stop i).ready + (x.stop i).service)]], loads := c.loads ++ [c.load + (x.stop i).demand] }, 0)
theorem visits_ok {x : Inst} {c : Car} {i : Int} (h : x.visitsE c i = 0) : 1 ≤ i ∧ i ≤ 2 * x.pairs ∧ hasB c.seen i = false ∧ (x.pairs < i → hasB c.seen (i - x.pairs) = true) ∧ c.load + (x.stop i).demand ≤ x.room := by
  rw [Inst.visitsE] at h
  split at h
  · cases h
  split at h
  · cases h
  split at h
  · cases h
  split at h
  · cases h
  rename_i h1 h2 h3 h4
  refine ⟨by omega, by omega, by simpa using h2, fun h => ?_, by omega⟩
  cases hq : hasB c.seen (i - x.pairs) with
  | true => rfl
  | false => exact absurd ⟨h, hq⟩ h3
end Go.Proofs.YtdjbapglfdacmaaGreat

/- When a car is where: a whole route. -/
set_option maxRecDepth 4000
namespace Go.Proofs.YtdjbapglfdacmaaGreat
open Go Go.Proofs.YtdjbapglfdacmaaGreat.R
theorem visitC_fit {x : Inst} {c : Car} {i : Int} {p k : Nat} (hx : x.Fit p) (hc : c.Fit p k) (h : (x.visitC c i).2 = 0) : (x.visitC c i).1.Fit p (k + 1) := by
  have hok := visits_ok (x := x) (c := c) (i := i)
  rw [Inst.visitC] at h ⊢
  by_cases c0 : x.visitsE c i = 0
  rotate_left
  · rw [if_pos c0] at h; exact absurd h c0
  rw [if_neg (by simp [c0])] at h ⊢
  by_cases c1 : (x.stop i).due < max (c.now + far (x.stop c.spot) (x.stop i)) (x.stop i).ready
  · rw [if_pos c1] at h; cases h
  rw [if_neg c1]
  obtain ⟨k1, k2, k3, k4, k5⟩ := hok c0
  have hp := hx.pairs
  have hfi := hx.at (j := i) (by omega) (by omega)
  have hfar := far_le (x.stop c.spot) (x.stop i)
  have h1 := hc.now
  have h2 := hc.gone
  have h3 := hc.load
  have h4 := hfi.ready
  have h5 := hfi.due
  have h6 := hfi.service
  have h7 := hfi.demand
  have h8 := hx.room
  have h9 := hx.few
  constructor
  · simp only; omega
  · simp only; omega
  · simp only; omega
  · simp only; omega
  · exact withN_lt hc.seen _
  · simp only
    split
    · exact withN_lt hc.on _
    · exact withoutN_lt _ _
  · simp [hc.times]
  · simp [hc.loads]
  · intro y hy
    simp only [List.mem_append, List.mem_singleton] at hy
    rcases hy with hy | rfl
    · exact hc.three y hy
    · rfl
  · have h10 := hc.few
    obtain ⟨j, rfl⟩ : ∃ j : Nat, i = j := ⟨i.toNat, by omega⟩
    have := filter_lt (p := fun j : Nat => decide (1 ≤ j) && !hasB c.seen (j : Int)) (q := fun m : Nat => decide (1 ≤ m) && !hasB (withN c.seen (j : Int)) (m : Int)) (List.range (2 * p + 1)) (a := j) (List.mem_range.2 (by omega)) (by rw [k3]; simp; omega) (by rw [has_withN (by omega)]; simp) (fun m => by
      rw [has_withN (by omega)]
      simp only [Bool.and_eq_true, Bool.not_eq_true', Bool.or_eq_false_iff]
      exact fun h => ⟨h.1, h.2.1⟩)
    simp only
    omega
def Inst.homeC (x : Inst) (c : Car) : Car × Int :=
  if c.on ≠ 0 then (c, 8) else if (x.stop 0).due < c.now + far (x.stop c.spot) (x.stop 0) then (x.drive c 0, 7) else (x.drive c 0, 0)
def Inst.car0 (x : Inst) : Car := ⟨0, (x.stop 0).ready, 0, 0, 0, 0, [], []⟩
def Inst.runC (x : Inst) : List Int → Car → Car × Int
  | [], c => x.homeC c
  | i :: r, c => if (x.visitC c i).2 ≠ 0 then x.visitC c i else x.runC r (x.visitC c i).1
structure RX where
  lb : Nat
  k : Nat
  c : Car
  e : Int
  b : Nat
  qt : Nat
  ql : Nat
  σ : Nat → AObj
  nx : Nat
structure RX.I (x : Inst) (p : Nat) (route : List Int) (R : Car × Int) (σ0 : Nat → AObj) (nx0 : Nat) (a : RX) : Prop where
  go : (a.lb = 1 ∧ a.k ≤ route.length ∧ a.c.Fit p a.k ∧ a.b < a.nx ∧ nx0 < a.b ∧ nx0 < a.qt ∧ nx0 < a.ql ∧ a.σ a.b = .box (carC x a.c a.qt a.ql) ∧ Rows3 a.c a.σ a.nx a.b a.qt a.ql ∧ x.runC (route.drop a.k) a.c = R) ∨ (a.lb = 0 ∧ a.e = R.2 ∧ R.2 ≠ 0)
  old : ∀ j, j ≤ nx0 → a.σ j = σ0 j
  nx : nx0 < a.nx
def RX.st (route : List Int) (a : RX) : St := ⟨sl (if a.lb = 1 then [(1, .t (.sl (ints route))), (6, .ptr a.b 0), (7, .i a.k)] else [(8, .i a.e)]), a.σ, a.nx⟩
def RX.m (route : List Int) (a : RX) : Nat := if a.lb = 1 then route.length + 1 - a.k else 0
def Inst.times (x : Inst) (route : List Int) : List (List T) × Int × Int :=
  if x.may = false then ([], 0, 1) else if (x.runC route x.car0).2 ≠ 0 then ([], 0, (x.runC route x.car0).2) else ((x.runC route x.car0).1.times, (x.runC route x.car0).1.gone, 0)
end Go.Proofs.YtdjbapglfdacmaaGreat

/- What a plan costs. -/
set_option maxRecDepth 4000
namespace Go.Proofs.YtdjbapglfdacmaaGreat
open Go Go.Proofs.YtdjbapglfdacmaaGreat.R
def bump (s : List Int) (i : Int) : List Int := s.set i.toNat (s.getD i.toNat 0 + 1)
def Inst.costGo (x : Inst) : List (List Int) → Int → List Int → Int × Int
  | [], all, seen => if (seen.any fun n => decide (1 < n)) = true then (0, 5) else if ((seen.drop 1).any fun n => decide (n = 0)) = true then (0, 4) else (all, 0)
  | r :: rs, all, seen => if r.length = 0 then (0, 1) else if (x.times r).2.2 ≠ 0 then (0, (x.times r).2.2) else x.costGo rs (all + (x.times r).2.1) (r.foldl bump seen)
def Inst.cost (x : Inst) (p : List (List Int)) : Int × Int :=
  if x.may = false then (0, 1) else if x.cars < p.length then (0, 6) else x.costGo p 0 (List.replicate (2 * x.pairs + 1).toNat 0)
theorem bump_len (s : List Int) (i : Int) : (bump s i).length = s.length := List.length_set
end Go.Proofs.YtdjbapglfdacmaaGreat

/- What can be followed and ended is the tour of a plan: the plain law. -/
set_option maxRecDepth 4000
namespace Go.Proofs.YtdjbapglfdacmaaGreat
open Go Go.Proofs.YtdjbapglfdacmaaGreat.R
/-- A car goes as a state says; what was seen ahead of its route: m0. -/
structure Sim1 (x : Inst) (p m0 : Nat) (s : State) (c : Car) (k : Nat) : Prop where
  spot : c.spot = s.spot
  now : c.now = s.time
  load : c.load = s.load
  on : c.on = s.on
  seen : ∀ i, 1 ≤ i → i ≤ 2 * p → s.must.testBit i = (m0.testBit i || c.seen.testBit i)
  old : ∀ i, 1 ≤ i → i ≤ p → m0.testBit i = true → m0.testBit (i + p) = true
  fit : c.Fit p k
  good : Good x p s
theorem Sim1.step {x : Inst} {p m0 k : Nat} {s : State} {c : Car} {j : Int} (hx : x.Fit p) (h : Sim1 x p m0 s c k) (hj : j ≠ 0) (hm : (x.move s j).2.2 = true) :
    (x.visitC c j).2 = 0 ∧ Sim1 x p m0 (x.move s j).1 (x.visitC c j).1 (k + 1) ∧ (x.visitC c j).1.gone = c.gone + (x.move s j).2.1 := by
  obtain ⟨g1, g2, g3, g4, g5, g6⟩ := good_step hx h.good hm
  obtain ⟨m1, m2, m3, m4, m5, m6, m7, m8⟩ := move_pos hm hj
  have hp := hx.pairs
  have hfew := hx.few
  obtain ⟨i, rfl⟩ : ∃ i : Nat, j = i := ⟨j.toNat, by omega⟩
  simp only [Inst.lateB, Bool.or_eq_false_iff, decide_eq_false_iff_not] at m5
  rw [has_testN (by omega)] at m5
  have hs := h.seen i (by omega) (by omega)
  rw [m5.1] at hs
  have hv : x.visitsE c i = 0 := by
    rw [Inst.visitsE, if_neg (by omega), if_neg, if_neg, if_neg]
    · rw [h.load]
      by_cases hi : (i : Int) ≤ x.pairs
      · have := m6 hi
        simp only [Inst.fullB, Bool.or_eq_false_iff, decide_eq_false_iff_not] at this
        omega
      · have hb := hx.bring (k := i - p) (by omega) (by omega)
        have ht := hx.take (k := i - p) (by omega) (by omega)
        have hr := h.good.room
        rw [show i - p + p = i by omega] at hb
        omega
    · rintro ⟨hi, hq⟩
      have := m7 hi
      simp only [Inst.emptyB, Bool.or_eq_false_iff, Bool.not_eq_false', decide_eq_false_iff_not] at this
      have e : (i : Int) - x.pairs = ((i - p : Nat) : Int) := by omega
      rw [e] at this hq
      rw [has_testN (by omega), h.good.eq] at this
      rw [has_testN (by omega)] at hq
      have h1 := h.seen (i - p) (by omega) (by omega)
      rw [this.2, hq, Bool.or_false] at h1
      have h2 := h.old (i - p) (by omega) (by omega) h1.symm
      rw [show i - p + p = i by omega] at h2
      rw [h2] at hs
      cases hs
    · rw [has_testN (by omega)]
      intro hq
      rw [hq, Bool.or_true] at hs
      cases hs
  have hfar : x.visitC c i = ({ spot := i, now := x.begins s i + (x.stop i).service, gone := c.gone + far (x.stop s.spot) (x.stop i), load := s.load + (x.stop i).demand, seen := withN c.seen i, on := if (i : Int) ≤ x.pairs then withN s.on i else withoutN s.on (i - x.pairs), times := c.times ++ [[.i (s.time + far (x.stop s.spot) (x.stop i)), .i (x.begins s i), .i (x.begins s i + (x.stop i).service)]], loads := c.loads ++ [s.load + (x.stop i).demand] }, 0) := by
    rw [Inst.visitC, if_neg (by simp [hv]), h.spot, h.now, h.load, h.on, if_neg]
    · rfl
    · have := m5.2
      unfold Inst.begins at this
      exact this
  have hfit := visitC_fit hx h.fit (i := i) (by rw [hfar])
  rw [hfar] at hfit ⊢
  rw [if_pos (by omega)] at g4 g6
  refine ⟨rfl, ⟨?_, ?_, ?_, ?_, ?_, h.old, hfit, g1⟩, ?_⟩
  · rw [m8]; rfl
  · rw [m8]; rfl
  · rw [g6]
  · rw [m8]; rfl
  · intro n n1 n2
    rw [g4, with_bit (by omega), with_bit (by omega), h.seen n n1 n2, Bool.or_assoc]
  · rw [m8]
/-- How often each stop stands in what was seen so far. -/
def MatchS (p must : Nat) (seen : List Int) : Prop := seen.length = 2 * p + 1 ∧ ∀ i (h : i < seen.length), seen[i] = if 1 ≤ i ∧ must.testBit i = true then 1 else 0
theorem MatchS.bump {p must : Nat} {seen : List Int} (h : MatchS p must seen) {j : Nat} (h1 : 1 ≤ j) (h2 : j ≤ 2 * p) (h64 : j ≤ 63) (hn : must.testBit j = false) : MatchS p (withN must j) (bump seen j) := by
  obtain ⟨hl, hs⟩ := h
  refine ⟨by rw [bump_len]; exact hl, fun i hi => ?_⟩
  have hi' : i < seen.length := by rw [bump_len] at hi; exact hi
  have e : seen.getD j 0 = seen[j] := by rw [List.getD_eq_getElem?_getD, List.getElem?_eq_getElem (by omega)]; rfl
  have h0 := hs j (by omega)
  rw [if_neg (by simp [hn])] at h0
  simp only [Go.Proofs.YtdjbapglfdacmaaGreat.bump, Int.toNat_natCast, e, h0, List.getElem_set, with_bit h64]
  by_cases hji : j = i
  · subst hji
    simp [h1]
  · rw [if_neg hji, hs i hi']
    simp [hji]
theorem MatchS.end {p must : Nat} {seen : List Int} (h : MatchS p must seen) (ha : ∀ i, 1 ≤ i → i ≤ 2 * p → must.testBit i = true) : (seen.any fun n => decide (1 < n)) = false ∧ ((seen.drop 1).any fun n => decide (n = 0)) = false := by
  obtain ⟨hl, hs⟩ := h
  constructor
  · rw [List.any_eq_false]
    intro n hn
    obtain ⟨i, hi, rfl⟩ := List.mem_iff_getElem.1 hn
    rw [hs i hi]
    split <;> simp
  · rw [List.any_eq_false]
    intro n hn
    obtain ⟨i, hi, rfl⟩ := List.mem_iff_getElem.1 hn
    rw [List.getElem_drop, hs (1 + i) (by rw [List.length_drop] at hi; omega), if_pos ⟨by omega, ha _ (by omega) (by rw [List.length_drop] at hi; omega)⟩]
    simp
end Go.Proofs.YtdjbapglfdacmaaGreat

/- Each plan that may be is the end of moves: the plain law. -/
set_option maxRecDepth 4000
namespace Go.Proofs.YtdjbapglfdacmaaGreat
open Go Go.Proofs.YtdjbapglfdacmaaGreat.R
theorem Sim1.mayB {x : Inst} {p m0 k : Nat} {s : State} {c : Car} (hx : x.Fit p) (h : Sim1 x p m0 s c k) (hcar : 1 ≤ s.car ∧ s.car ≤ x.cars) : s.mayB x = true := by
  have hp := hx.pairs
  have hsum := sumOn_pos hx s.on p (Nat.le_refl _)
  have h1 := h.fit.spot
  have h2 := h.fit.now
  have h3 := h.good.load
  have h4 := h.good.room
  have h5 := hx.room
  have h6 := h.spot
  have h7 := h.now
  simp only [State.mayB, Bool.and_eq_true, decide_eq_true_eq]
  omega
end Go.Proofs.YtdjbapglfdacmaaGreat

/- Diagrams from nodes that moves lead to: what they tell. -/
set_option maxRecDepth 4000
namespace Go.Proofs.YtdjbapglfdacmaaGreat
open Go Go.Proofs.YtdjbapglfdacmaaGreat.R
/-- A node whose path leads to it. -/
structure Track (x : Inst) (n : Node) : Prop where
  goes : x.goes n.path x.rootS 0 = some (n.s, n.cost)
  is : n.s.Is n.s.spot
  cost : 0 ≤ n.cost ∧ n.cost ≤ 14143 * (n.path.length : Int)
  len : n.path.length + x.meas n.s ≤ x.meas x.rootS
theorem Track.few {x : Inst} {n : Node} (h : Track x n) : n.path.length ≤ 40 := by
  have := h.len
  have := meas_le x x.rootS
  omega
theorem Track.child {x : Inst} {n : Node} (h : Track x n) {j : Int} (hj : (x.move n.s j).2.2 = true) : Track x (x.child n j) := by
  have hc := move_cost hj
  have hl := h.cost
  have hf := h.few
  have e : (x.child n j).cost = n.cost + (x.move n.s j).2.1 := sumI_two hl.1 hc.1 (by omega)
  have hm := meas_move hj
  have hlen : (n.path ++ [j]).length = n.path.length + 1 := by simp
  refine ⟨?_, h.is.move hj, ?_, ?_⟩
  · show x.goes (n.path ++ [j]) x.rootS 0 = some ((x.move n.s j).1, (x.child n j).cost)
    rw [goes_app, h.goes, Option.bind_some]
    show x.goes [j] n.s n.cost = _
    rw [Inst.goes, if_pos hj, w64 _ (by omega), e]
    rfl
  · rw [e]
    show _ ∧ _ ≤ 14143 * ((n.path ++ [j]).length : Int)
    rw [hlen]
    omega
  · show (n.path ++ [j]).length + x.meas (x.move n.s j).1 ≤ _
    rw [hlen]
    have := h.len
    omega
theorem Track.way {x : Inst} {n : Node} (h : Track x n) {v : List Int} {c : Int} (hv : x.way v n.s c) : x.way (n.path ++ v) x.rootS (n.cost + c) := by
  have hf := h.few
  have := way_app (c0 := 0) (by omega) (by omega) h.goes hv
  rwa [show n.cost - 0 + c = n.cost + c by omega] at this
theorem build_count (x : Inst) (n : Node) (w up : Int) : ((x.build n w up).layers.length : Int) ≤ max 1 (x.deep - n.path.length + 1) := by
  have := buildGo_count (x := x) w up (x.deep - n.path.length) ((x.deep - n.path.length).toNat + 2) [] up none [n]
  rw [Inst.build]
  simp only [List.length_nil] at this
  omega
end Go.Proofs.YtdjbapglfdacmaaGreat

/- Diagrams of all ways: the laws are awake; what is squeezed. -/
set_option maxRecDepth 4000
set_option maxHeartbeats 1000000
namespace Go.Proofs.YtdjbapglfdacmaaGreat
open Go Go.Proofs.YtdjbapglfdacmaaGreat.R
theorem small_build : (small.build small.rootN 1 1152921504606846976).layers.length = 3 ∧ (small.build small.rootN 1 1152921504606846976).low = 12 ∧ (small.build small.rootN 1 1152921504606846976).exact = true ∧ (small.build small.rootN 1 1152921504606846976).sure = 3 ∧ small.deep = 2 := by decide +kernel
theorem awake17_pure : Pure P 12 [] (.b true) := by
  refine pure_of Tryz.func12 rfl rfl (by simp [Tryz.f12]) (by simp [bnd, bnd.bndL]) (by simp [bnd, bnd.bndL]) fun B hB hnx => ?_
  simp only [Tryz.f12] at hB ⊢
  refine K_run hB 100 ?_
  simp [go_sem]
  refine K_call rfl rfl rfl (args := []) (f := 32) (by simp [go_sem]) (by simp [go_sem, hB]) ((small_pure).spec _ _) ?_
  have hp := parse_pure smallB (by decide) (by decide)
  rw [small_parse] at hp
  refine K_run hB 100 ?_
  simp [go_sem, small_bytes]
  refine K_call rfl rfl rfl (args := [.t (.sl (byt smallB))]) (f := 31) (by simp [go_sem]) (by simp [go_sem, hB]) ((hp).spec _ _) ?_
  have hl : small.stops.length < 2 ^ 31 := by decide
  have hr := root_pureS small (by omega)
  have hb := build_pure small small.rootN 1 1152921504606846976 hl (by omega) (rootS_ok small) (by simp [Inst.rootN])
  have hd := deep_pure small (by omega)
  obtain ⟨e1, e2, e3, e4, e5⟩ := small_build
  have ea : small.rootN.a = .agg [.i small.rootS.spot, .i small.rootS.car, .i small.rootS.time, .i small.rootS.load, .i small.rootS.first, .u small.rootS.must, .u small.rootS.can, .u small.rootS.on, .i 0, .t (.sl [])] := rfl
  rw [ea] at hb
  rw [e5] at hd
  generalize small.build small.rootN 1 1152921504606846976 = D at *
  generalize small.rootS = r at *
  generalize small = x at *
  have hlen : (lysT D.layers).length = 3 := by rw [lysT, List.length_map, e1]
  refine K_run hB 100 ?_
  simp [go_sem, Inst.a]
  refine K_drawnF [5, 6] [0, 1, 2, 3, 4] rfl (by rw [hB]; kernel_rfl) (by kernel_rfl) fun ht hf' => ?_
  refine K_run hB 100 ?_
  simp [go_sem, ht, hf']
  refine K_dCallP rfl rfl rfl (args := [x.a]) (f := 33) (by simp [go_sem, Inst.a]) (hr) ?_
  refine K_run hB 100 ?_
  simp [go_sem, ht, hf', State.a, State.cs]
  refine K_dCallP rfl rfl rfl (args := [x.a, .agg [.i r.spot, .i r.car, .i r.time, .i r.load, .i r.first, .u r.must, .u r.can, .u r.on, .i 0, .fsl []], .i 1, .i 1152921504606846976]) (f := 14) (by simp [go_sem, Inst.a]) (Pure.loose hb (by simp [bnd, bnd.bndL, Inst.a])) ?_
  refine K_run hB 100 ?_
  simp [go_sem, ht, hf', Diag.a, Diag.cs, hlen, e2, e3, e4]
  refine K_call rfl rfl rfl (args := [x.a]) (f := 16) (by simp [go_sem, Inst.a]) (by simp [go_sem, hB]) ((hd).spec _ _) ?_
  refine K_run hB 100 ?_
  simp [go_sem]
end Go.Proofs.YtdjbapglfdacmaaGreat

/- Diagrams of all ways: the document's. -/
set_option maxRecDepth 4000
set_option maxHeartbeats 2000000
namespace Go.Proofs.YtdjbapglfdacmaaGreat
open Go Go.Proofs.YtdjbapglfdacmaaGreat.R
theorem rdeep_pure (x : Inst) (hl : x.stops.length < 2 ^ 63) : Pure P 17 [x.a] (.i x.deep) := by
  refine pure_of Tryz.func17 rfl rfl (by simp [Tryz.f17]) (by simp [bnd, bnd.bndL, Inst.a]) (by simp [bnd, bnd.bndL]) fun B hB hnx => ?_
  simp only [Tryz.f17] at hB ⊢
  refine K_run hB 100 ?_
  simp [go_sem, Inst.a]
  refine K_call rfl rfl rfl (args := [x.a]) (f := 43) (by simp [go_sem, Inst.a]) (by simp [go_sem, hB]) ((rmay_pure x hl).spec _ _) ?_
  cases hmay : x.may with
  | false =>
    refine K_run hB 100 ?_
    simp [go_sem]
    rw [Inst.deep, if_neg (by simp [hmay])]
  | true =>
    obtain ⟨p, hx⟩ := x.fit hmay
    have hp := hx.pairs
    have hf := hx.few
    have hc := hx.cars
    have w1 := w64 (2 * x.pairs) (by omega)
    have w2 := w64 (2 * x.pairs + x.cars) (by omega)
    have w3 := w64 (2 * x.pairs + x.cars - 1) (by omega)
    refine K_run hB 100 ?_
    simp [go_sem, w1, w2, w3]
    rw [Inst.deep, if_pos hmay]
theorem rbuild_pure (x : Inst) (n : Node) (w up : Int) (hl : x.stops.length < 2 ^ 31) (hw : w ≤ 3000) (ho : n.s.ok) (hp : n.path.length < 2 ^ 29) : Pure P 15 [x.a, n.a, .i w, .i up] ((x.build n w up).a) := by
  generalize hR : x.build n w up = R
  refine pure_of Tryz.func15 rfl rfl (by simp [Tryz.f15]) (by simp [bnd, bnd.bndL, Inst.a, Node.a, Node.cs]) (by simp [bnd, bnd.bndL, Diag.a, Diag.cs]) fun B hB hnx => ?_
  simp only [Tryz.f15] at hB ⊢
  have hdeep := rdeep_pure x (by omega)
  have hdl := deep_le x
  rw [Inst.build] at hR
  generalize hdp : x.deep - (n.path.length : Int) = dp at *
  have hnl : (ints n.path).length = n.path.length := List.length_map _
  refine K_run hB 100 ?_
  simp [go_sem, Inst.a, Node.a, Node.cs]
  refine K_less (Imp.ownB (b := 3) (off := 0) (sz := 1) (cs := [.fsl [], .i up, .b true, .i 0]) (by simp [oput]) rfl) ?_
  refine K_loopP (α := Nat × List (List Node) × Int × Option Nat × List Node × Nat × (Nat → AObj) × Nat) (fun (f, ls, low, sq, l, q, τ, ny) => x.buildGo w up dp f ls low sq l = R ∧ (f : Int) + ls.length ≥ dp + 2 ∧ ((ls.length : Int) ≤ dp ∨ ls = []) ∧ 1 ≤ f ∧ WFine l (n.path.length + ls.length) ∧ l.length ≤ 3000 ∧ τ 0 = .box x.cs ∧ τ 1 = .box n.cs ∧ τ 2 = .box [.fsl [], .i 0, .b false, .i 0] ∧ τ 3 = .box [.ref q, .i low, .b sq.isNone, .i (sq.getD 0 : Nat)] ∧ τ q = .arr 1 (lysT ls) ∧ 3 < q ∧ q < ny)
    (fun (f, ls, low, sq, l, q, τ, ny) => ⟨sl [(2, .i w), (3, .i up), (4, .ptr 0 0), (5, .ptr 1 0), (8, .ptr 2 0), (9, .ptr 3 0), (10, .t (.sl (nodesT l)))], τ, ny⟩) (fun a => a.1) (dp.toNat + 2, [], up, none, [n], 4, _, 5) ?_ (Imp.loose.trans (Imp.slots (by simp [go_sem, loosen, nodesT, Node.t]) rfl rfl)) ?_
  · refine ⟨hR, by simp only [List.length_nil]; omega, .inr rfl, by omega, ⟨fun m hm => by rw [List.mem_singleton.1 hm]; exact ho, fun m hm => by rw [List.mem_singleton.1 hm]; omega⟩, by simp, by simp [oput, Inst.cs], by simp [oput, Node.cs], by simp [oput], by simp [oput, setCells], by simp [oput, lysT], by omega, by omega⟩
  clear hR
  rintro ⟨f, ls, low, sq, l, q, τ, ny⟩ ⟨hR, g1, g2, g3, g4, g5, h0, h1, h2, h3, h5, h6, h7⟩
  obtain ⟨f, rfl⟩ : ∃ f', f = f' + 1 := ⟨f - 1, by omega⟩
  have hil : (nodesT l).length = l.length := List.length_map _
  have hyl : (lysT ls).length = ls.length := List.length_map _
  have hls : ls.length ≤ 40 := by
    rcases g2 with g2 | g2
    · omega
    · rw [g2]; simp
  have n0 : ¬ 0 = ny := by omega
  have n1 : ¬ 1 = ny := by omega
  have n2 : ¬ 2 = ny := by omega
  have n3 : ¬ 3 = ny := by omega
  have n5 : ¬ q = 2 := by omega
  have n6 : ¬ q = 3 := by omega
  rw [Inst.buildGo] at hR
  by_cases c0 : l = []
  · rw [if_pos c0] at hR
    subst hR
    have c0' : l.length = 0 := by rw [c0]; rfl
    cases sq with
    | none =>
      refine K_run hB 60 ?_
      simp [go_sem, hil, c0', h3, h5, hyl, n5, n6, h2]
      rfl
    | some k =>
      refine K_run hB 60 ?_
      simp [go_sem, hil, c0', h3, h5, hyl, n5, n6, h2]
      rfl
  rw [if_neg c0] at hR
  have c0' : 0 < l.length := List.length_pos_iff.2 c0
  have hx := rexpand_pure x l up hl (by omega) (fun m h => ⟨g4.ok m h, by have := g4.path m h; omega⟩) (fun m h => by have := g4.path m h; omega)
  have hnw := g4.next (x := x) up
  have hsn : lysT ls ++ [[.sl (nodesT l)]] = lysT (ls ++ [l]) := by simp [lysT]
  have hcap : ls.length + 1 ≤ mostLen := by show _ ≤ 4294967296; omega
  have hsl : (lysT (ls ++ [l])).length = ls.length + 1 := by rw [lysT, List.length_map]; simp
  have n7 : ¬ 3 = q := by omega
  have n8 : ¬ 0 = q := by omega
  have n9 : ¬ 1 = q := by omega
  have na : ¬ 2 = q := by omega
  generalize x.bests l = Bs at *
  obtain ⟨b, is⟩ := Bs
  have hqs := rsqueeze_pure x (x.next l up) w hl (by have := next_len x l up; omega) (fun m h => ⟨hnw.ok m h, by have := hnw.path m h; omega⟩)
  have hnf := next_few (x := x) (l := l) (up := up) hw
  have hmf := most_few (x := x) (l := l) (up := up) hw
  have hsq := squeeze_len x (x.next l up) w
  have hsw := hnw.squeeze (x := x) w
  have hmo := rwidth_pure x w
  generalize x.squeeze (x.next l up) w = Q at *
  generalize x.next l up = M at *
  have hMl : (nodesT M).length = M.length := List.length_map _
  have w1 : IntKind.i64.wrap ((ls.length : Int) + 1 - 1) = ls.length := by rw [w64 _ (by omega)]; omega
  have w1' : IntKind.i64.wrap (ls.length : Int) = ls.length := w64 _ (by omega)
  have w2 : IntKind.i64.wrap ((ls.length : Int) + n.path.length) = (ls.length : Int) + n.path.length := w64 _ (by omega)
  refine K_run hB 60 ?_
  simp [go_sem, hil, c0', h3, h5, hyl, hsn, hcap, n0, n1, n2, n3, n6, n7, n8, n9, na, h0, Inst.cs]
  refine K_run hB 100 ?_
  simp [go_sem, hil, c0', h3, h5, hyl, hsn, hcap, n0, n1, n2, n3, n6, n7, n8, n9, na, h0, Inst.cs]
  refine K_call rfl rfl rfl (args := [x.a, .t (.sl (nodesT l)), .i up]) (f := 40) (by simp [go_sem, Inst.a]) (by simp [go_sem, hB]) ((hx).spec _ _) ?_
  have b0 : ¬ ny = 0 := by omega
  have b1 : ¬ ny + 1 = 0 := by omega
  have b2 : ¬ ny = 1 := by omega
  have b3 : ¬ ny = 2 := by omega
  have b4 : ¬ ny = 3 := by omega
  have b6 : ¬ 3 = ny + 1 := by omega
  have hwQ : WFine Q (n.path.length + (ls ++ [l]).length) := by rw [List.length_append]; exact hsw
  have hwM : WFine M (n.path.length + (ls ++ [l]).length) := by rw [List.length_append]; exact hnw
  cases is with
  | false =>
    have hlw : lowB low (b, false) = low := rfl
    rw [hlw] at hR
    refine K_run hB 100 ?_
    simp [go_sem, expRes, Node.a, Node.cs, h0, h1, h2, h3, h5, n0, n1, n2, n3, n5, n6, n7, n8, n9, na, b0, b1, b2, b3, b4, b6, hsl, Inst.cs, hnl, w1, w1', w2]
    refine K_drawn [] rfl (by rw [hB]; kernel_rfl) ?_
    refine K_run hB 100 ?_
    simp [go_sem, expRes, Node.a, Node.cs, h0, h1, h2, h3, h5, n0, n1, n2, n3, n5, n6, n7, n8, n9, na, b0, b1, b2, b3, b4, b6, hsl, Inst.cs, hnl, w1, w1', w2]
    refine K_dCallP rfl rfl rfl (args := [x.a]) (f := 17) (by simp [go_sem, Inst.a]) (hdeep) ?_
    by_cases c1 : x.deep ≤ (ls.length : Int) + n.path.length
    · rw [if_pos (by omega)] at hR
      subst hR
      cases sq with
      | none =>
        refine K_run hB 100 ?_
        simp [go_sem, expRes, Node.a, Node.cs, h0, h1, h2, h3, h5, n0, n1, n2, n3, n5, n6, n7, n8, n9, na, b0, b1, b2, b3, b4, b6, hsl, Inst.cs, hnl, w1, w1', w2, c1]
        simp [Diag.of, Diag.a, Diag.cs]
      | some k =>
        refine K_run hB 100 ?_
        simp [go_sem, expRes, Node.a, Node.cs, h0, h1, h2, h3, h5, n0, n1, n2, n3, n5, n6, n7, n8, n9, na, b0, b1, b2, b3, b4, b6, hsl, Inst.cs, hnl, w1, w1', w2, c1]
        rfl
    rw [if_neg (by omega)] at hR
    refine K_run hB 100 ?_
    simp [go_sem, expRes, Node.a, Node.cs, h0, h1, h2, h3, h5, n0, n1, n2, n3, n5, n6, n7, n8, n9, na, b0, b1, b2, b3, b4, b6, hsl, Inst.cs, hnl, w1, w1', w2, c1, hMl]
    refine K_call rfl rfl rfl (args := [x.a, .i w]) (f := 41) (by simp [go_sem, Inst.a]) (by simp [go_sem, hB]) ((hmo).spec _ _) ?_
    by_cases c2 : x.mostN w < M.length
    · rw [if_pos c2] at hR
      refine K_run hB 100 ?_
      simp [go_sem, expRes, Node.a, Node.cs, h0, h1, h2, h3, h5, n0, n1, n2, n3, n5, n6, n7, n8, n9, na, b0, b1, b2, b3, b4, b6, hsl, Inst.cs, hnl, w1, w1', w2, c2, hMl]
      refine K_call rfl rfl rfl (args := [x.a, .t (.sl (nodesT M)), .i w]) (f := 42) (by simp [go_sem, Inst.a]) (by simp [go_sem, hB]) ((hqs).spec _ _) ?_
      cases sq with
      | none =>
        refine K_run hB 100 ?_
        simp [go_sem, expRes, Node.a, Node.cs, h0, h1, h2, h3, h5, n0, n1, n2, n3, n5, n6, n7, n8, n9, na, b0, b1, b2, b3, b4, b6, hsl, Inst.cs, hnl, w1, w1', w2]
        refine Next.mk (f, ls ++ [l], low, some (ls.length + 1), Q, ny, _, ny + 2) ?_ (Imp.slots (by simp [go_sem]) rfl rfl) (by simp only; omega)
        exact ⟨hR, by simp only [List.length_append, List.length_cons, List.length_nil]; omega, .inl (by simp only [List.length_append, List.length_cons, List.length_nil]; omega), by simp only; omega, hwQ, (by have := hmf c2; simp only; omega), by simp [oput, h0, h1, h2, h3, n0, n1, n2, n3, n7, n8, n9, na, b0, b1, b2, b3, b4, b6, Inst.cs, Node.cs], by simp [oput, h0, h1, h2, h3, n0, n1, n2, n3, n7, n8, n9, na, b0, b1, b2, b3, b4, b6, Inst.cs, Node.cs], by simp [oput, h0, h1, h2, h3, n0, n1, n2, n3, n7, n8, n9, na, b0, b1, b2, b3, b4, b6, Inst.cs, Node.cs], by simp [oput, h0, h1, h2, h3, n0, n1, n2, n3, n7, n8, n9, na, b0, b1, b2, b3, b4, b6, Inst.cs, Node.cs], by simp [oput, h0, h1, h2, h3, n0, n1, n2, n3, n7, n8, n9, na, b0, b1, b2, b3, b4, b6, Inst.cs, Node.cs], by simp only; omega, by simp only; omega⟩
      | some k =>
        refine K_run hB 100 ?_
        simp [go_sem, expRes, Node.a, Node.cs, h0, h1, h2, h3, h5, n0, n1, n2, n3, n5, n6, n7, n8, n9, na, b0, b1, b2, b3, b4, b6, hsl, Inst.cs, hnl, w1, w1', w2]
        refine Next.mk (f, ls ++ [l], low, some k, Q, ny, _, ny + 2) ?_ (Imp.slots (by simp [go_sem]) rfl rfl) (by simp only; omega)
        exact ⟨hR, by simp only [List.length_append, List.length_cons, List.length_nil]; omega, .inl (by simp only [List.length_append, List.length_cons, List.length_nil]; omega), by simp only; omega, hwQ, (by have := hmf c2; simp only; omega), by simp [oput, h0, h1, h2, h3, n0, n1, n2, n3, n7, n8, n9, na, b0, b1, b2, b3, b4, b6, Inst.cs, Node.cs], by simp [oput, h0, h1, h2, h3, n0, n1, n2, n3, n7, n8, n9, na, b0, b1, b2, b3, b4, b6, Inst.cs, Node.cs], by simp [oput, h0, h1, h2, h3, n0, n1, n2, n3, n7, n8, n9, na, b0, b1, b2, b3, b4, b6, Inst.cs, Node.cs], by simp [oput, h0, h1, h2, h3, n0, n1, n2, n3, n7, n8, n9, na, b0, b1, b2, b3, b4, b6, Inst.cs, Node.cs], by simp [oput, h0, h1, h2, h3, n0, n1, n2, n3, n7, n8, n9, na, b0, b1, b2, b3, b4, b6, Inst.cs, Node.cs], by simp only; omega, by simp only; omega⟩
    · rw [if_neg c2] at hR
      refine K_run hB 100 ?_
      simp [go_sem, expRes, Node.a, Node.cs, h0, h1, h2, h3, h5, n0, n1, n2, n3, n5, n6, n7, n8, n9, na, b0, b1, b2, b3, b4, b6, hsl, Inst.cs, hnl, w1, w1', w2, c2, hMl]
      refine Next.mk (f, ls ++ [l], low, sq, M, ny, _, ny + 2) ?_ (Imp.slots (by simp [go_sem]) rfl rfl) (by simp only; omega)
      exact ⟨hR, by simp only [List.length_append, List.length_cons, List.length_nil]; omega, .inl (by simp only [List.length_append, List.length_cons, List.length_nil]; omega), by simp only; omega, hwM, (hnf (by omega)), by simp [oput, h0, h1, h2, h3, n0, n1, n2, n3, n7, n8, n9, na, b0, b1, b2, b3, b4, b6, Inst.cs, Node.cs], by simp [oput, h0, h1, h2, h3, n0, n1, n2, n3, n7, n8, n9, na, b0, b1, b2, b3, b4, b6, Inst.cs, Node.cs], by simp [oput, h0, h1, h2, h3, n0, n1, n2, n3, n7, n8, n9, na, b0, b1, b2, b3, b4, b6, Inst.cs, Node.cs], by simp [oput, h0, h1, h2, h3, n0, n1, n2, n3, n7, n8, n9, na, b0, b1, b2, b3, b4, b6, Inst.cs, Node.cs], by simp [oput, h0, h1, h2, h3, n0, n1, n2, n3, n7, n8, n9, na, b0, b1, b2, b3, b4, b6, Inst.cs, Node.cs], by simp only; omega, by simp only; omega⟩
  | true =>
    by_cases c3 : b.cost < low
    · have hlw : lowB low (b, true) = b.cost := by rw [lowB, if_pos rfl]; simp only; omega
      rw [hlw] at hR
      refine K_run hB 100 ?_
      simp [go_sem, expRes, Node.a, Node.cs, h0, h1, h2, h3, h5, n0, n1, n2, n3, n5, n6, n7, n8, n9, na, b0, b1, b2, b3, b4, b6, hsl, Inst.cs, hnl, w1, w1', w2, c3]
      refine K_drawn [] rfl (by rw [hB]; kernel_rfl) ?_
      refine K_run hB 100 ?_
      simp [go_sem, expRes, Node.a, Node.cs, h0, h1, h2, h3, h5, n0, n1, n2, n3, n5, n6, n7, n8, n9, na, b0, b1, b2, b3, b4, b6, hsl, Inst.cs, hnl, w1, w1', w2]
      refine K_dCallP rfl rfl rfl (args := [x.a]) (f := 17) (by simp [go_sem, Inst.a]) (hdeep) ?_
      by_cases c1 : x.deep ≤ (ls.length : Int) + n.path.length
      · rw [if_pos (by omega)] at hR
        subst hR
        cases sq with
        | none =>
          refine K_run hB 100 ?_
          simp [go_sem, expRes, Node.a, Node.cs, h0, h1, h2, h3, h5, n0, n1, n2, n3, n5, n6, n7, n8, n9, na, b0, b1, b2, b3, b4, b6, hsl, Inst.cs, hnl, w1, w1', w2, c1]
          simp [Diag.of, Diag.a, Diag.cs]
        | some k =>
          refine K_run hB 100 ?_
          simp [go_sem, expRes, Node.a, Node.cs, h0, h1, h2, h3, h5, n0, n1, n2, n3, n5, n6, n7, n8, n9, na, b0, b1, b2, b3, b4, b6, hsl, Inst.cs, hnl, w1, w1', w2, c1]
          rfl
      rw [if_neg (by omega)] at hR
      refine K_run hB 100 ?_
      simp [go_sem, expRes, Node.a, Node.cs, h0, h1, h2, h3, h5, n0, n1, n2, n3, n5, n6, n7, n8, n9, na, b0, b1, b2, b3, b4, b6, hsl, Inst.cs, hnl, w1, w1', w2, c1, hMl]
      refine K_call rfl rfl rfl (args := [x.a, .i w]) (f := 41) (by simp [go_sem, Inst.a]) (by simp [go_sem, hB]) ((hmo).spec _ _) ?_
      by_cases c2 : x.mostN w < M.length
      · rw [if_pos c2] at hR
        refine K_run hB 100 ?_
        simp [go_sem, expRes, Node.a, Node.cs, h0, h1, h2, h3, h5, n0, n1, n2, n3, n5, n6, n7, n8, n9, na, b0, b1, b2, b3, b4, b6, hsl, Inst.cs, hnl, w1, w1', w2, c2, hMl]
        refine K_call rfl rfl rfl (args := [x.a, .t (.sl (nodesT M)), .i w]) (f := 42) (by simp [go_sem, Inst.a]) (by simp [go_sem, hB]) ((hqs).spec _ _) ?_
        cases sq with
        | none =>
          refine K_run hB 100 ?_
          simp [go_sem, expRes, Node.a, Node.cs, h0, h1, h2, h3, h5, n0, n1, n2, n3, n5, n6, n7, n8, n9, na, b0, b1, b2, b3, b4, b6, hsl, Inst.cs, hnl, w1, w1', w2]
          refine Next.mk (f, ls ++ [l], b.cost, some (ls.length + 1), Q, ny, _, ny + 2) ?_ (Imp.slots (by simp [go_sem]) rfl rfl) (by simp only; omega)
          exact ⟨hR, by simp only [List.length_append, List.length_cons, List.length_nil]; omega, .inl (by simp only [List.length_append, List.length_cons, List.length_nil]; omega), by simp only; omega, hwQ, (by have := hmf c2; simp only; omega), by simp [oput, h0, h1, h2, h3, n0, n1, n2, n3, n7, n8, n9, na, b0, b1, b2, b3, b4, b6, Inst.cs, Node.cs], by simp [oput, h0, h1, h2, h3, n0, n1, n2, n3, n7, n8, n9, na, b0, b1, b2, b3, b4, b6, Inst.cs, Node.cs], by simp [oput, h0, h1, h2, h3, n0, n1, n2, n3, n7, n8, n9, na, b0, b1, b2, b3, b4, b6, Inst.cs, Node.cs], by simp [oput, h0, h1, h2, h3, n0, n1, n2, n3, n7, n8, n9, na, b0, b1, b2, b3, b4, b6, Inst.cs, Node.cs], by simp [oput, h0, h1, h2, h3, n0, n1, n2, n3, n7, n8, n9, na, b0, b1, b2, b3, b4, b6, Inst.cs, Node.cs], by simp only; omega, by simp only; omega⟩
        | some k =>
          refine K_run hB 100 ?_
          simp [go_sem, expRes, Node.a, Node.cs, h0, h1, h2, h3, h5, n0, n1, n2, n3, n5, n6, n7, n8, n9, na, b0, b1, b2, b3, b4, b6, hsl, Inst.cs, hnl, w1, w1', w2]
          refine Next.mk (f, ls ++ [l], b.cost, some k, Q, ny, _, ny + 2) ?_ (Imp.slots (by simp [go_sem]) rfl rfl) (by simp only; omega)
          exact ⟨hR, by simp only [List.length_append, List.length_cons, List.length_nil]; omega, .inl (by simp only [List.length_append, List.length_cons, List.length_nil]; omega), by simp only; omega, hwQ, (by have := hmf c2; simp only; omega), by simp [oput, h0, h1, h2, h3, n0, n1, n2, n3, n7, n8, n9, na, b0, b1, b2, b3, b4, b6, Inst.cs, Node.cs], by simp [oput, h0, h1, h2, h3, n0, n1, n2, n3, n7, n8, n9, na, b0, b1, b2, b3, b4, b6, Inst.cs, Node.cs], by simp [oput, h0, h1, h2, h3, n0, n1, n2, n3, n7, n8, n9, na, b0, b1, b2, b3, b4, b6, Inst.cs, Node.cs], by simp [oput, h0, h1, h2, h3, n0, n1, n2, n3, n7, n8, n9, na, b0, b1, b2, b3, b4, b6, Inst.cs, Node.cs], by simp [oput, h0, h1, h2, h3, n0, n1, n2, n3, n7, n8, n9, na, b0, b1, b2, b3, b4, b6, Inst.cs, Node.cs], by simp only; omega, by simp only; omega⟩
      · rw [if_neg c2] at hR
        refine K_run hB 100 ?_
        simp [go_sem, expRes, Node.a, Node.cs, h0, h1, h2, h3, h5, n0, n1, n2, n3, n5, n6, n7, n8, n9, na, b0, b1, b2, b3, b4, b6, hsl, Inst.cs, hnl, w1, w1', w2, c2, hMl]
        refine Next.mk (f, ls ++ [l], b.cost, sq, M, ny, _, ny + 2) ?_ (Imp.slots (by simp [go_sem]) rfl rfl) (by simp only; omega)
        exact ⟨hR, by simp only [List.length_append, List.length_cons, List.length_nil]; omega, .inl (by simp only [List.length_append, List.length_cons, List.length_nil]; omega), by simp only; omega, hwM, (hnf (by omega)), by simp [oput, h0, h1, h2, h3, n0, n1, n2, n3, n7, n8, n9, na, b0, b1, b2, b3, b4, b6, Inst.cs, Node.cs], by simp [oput, h0, h1, h2, h3, n0, n1, n2, n3, n7, n8, n9, na, b0, b1, b2, b3, b4, b6, Inst.cs, Node.cs], by simp [oput, h0, h1, h2, h3, n0, n1, n2, n3, n7, n8, n9, na, b0, b1, b2, b3, b4, b6, Inst.cs, Node.cs], by simp [oput, h0, h1, h2, h3, n0, n1, n2, n3, n7, n8, n9, na, b0, b1, b2, b3, b4, b6, Inst.cs, Node.cs], by simp [oput, h0, h1, h2, h3, n0, n1, n2, n3, n7, n8, n9, na, b0, b1, b2, b3, b4, b6, Inst.cs, Node.cs], by simp only; omega, by simp only; omega⟩
    · have hlw : lowB low (b, true) = low := by rw [lowB, if_pos rfl]; simp only; omega
      rw [hlw] at hR
      refine K_run hB 100 ?_
      simp [go_sem, expRes, Node.a, Node.cs, h0, h1, h2, h3, h5, n0, n1, n2, n3, n5, n6, n7, n8, n9, na, b0, b1, b2, b3, b4, b6, hsl, Inst.cs, hnl, w1, w1', w2, c3]
      refine K_drawn [] rfl (by rw [hB]; kernel_rfl) ?_
      refine K_run hB 100 ?_
      simp [go_sem, expRes, Node.a, Node.cs, h0, h1, h2, h3, h5, n0, n1, n2, n3, n5, n6, n7, n8, n9, na, b0, b1, b2, b3, b4, b6, hsl, Inst.cs, hnl, w1, w1', w2]
      refine K_dCallP rfl rfl rfl (args := [x.a]) (f := 17) (by simp [go_sem, Inst.a]) (hdeep) ?_
      by_cases c1 : x.deep ≤ (ls.length : Int) + n.path.length
      · rw [if_pos (by omega)] at hR
        subst hR
        cases sq with
        | none =>
          refine K_run hB 100 ?_
          simp [go_sem, expRes, Node.a, Node.cs, h0, h1, h2, h3, h5, n0, n1, n2, n3, n5, n6, n7, n8, n9, na, b0, b1, b2, b3, b4, b6, hsl, Inst.cs, hnl, w1, w1', w2, c1]
          simp [Diag.of, Diag.a, Diag.cs]
        | some k =>
          refine K_run hB 100 ?_
          simp [go_sem, expRes, Node.a, Node.cs, h0, h1, h2, h3, h5, n0, n1, n2, n3, n5, n6, n7, n8, n9, na, b0, b1, b2, b3, b4, b6, hsl, Inst.cs, hnl, w1, w1', w2, c1]
          rfl
      rw [if_neg (by omega)] at hR
      refine K_run hB 100 ?_
      simp [go_sem, expRes, Node.a, Node.cs, h0, h1, h2, h3, h5, n0, n1, n2, n3, n5, n6, n7, n8, n9, na, b0, b1, b2, b3, b4, b6, hsl, Inst.cs, hnl, w1, w1', w2, c1, hMl]
      refine K_call rfl rfl rfl (args := [x.a, .i w]) (f := 41) (by simp [go_sem, Inst.a]) (by simp [go_sem, hB]) ((hmo).spec _ _) ?_
      by_cases c2 : x.mostN w < M.length
      · rw [if_pos c2] at hR
        refine K_run hB 100 ?_
        simp [go_sem, expRes, Node.a, Node.cs, h0, h1, h2, h3, h5, n0, n1, n2, n3, n5, n6, n7, n8, n9, na, b0, b1, b2, b3, b4, b6, hsl, Inst.cs, hnl, w1, w1', w2, c2, hMl]
        refine K_call rfl rfl rfl (args := [x.a, .t (.sl (nodesT M)), .i w]) (f := 42) (by simp [go_sem, Inst.a]) (by simp [go_sem, hB]) ((hqs).spec _ _) ?_
        cases sq with
        | none =>
          refine K_run hB 100 ?_
          simp [go_sem, expRes, Node.a, Node.cs, h0, h1, h2, h3, h5, n0, n1, n2, n3, n5, n6, n7, n8, n9, na, b0, b1, b2, b3, b4, b6, hsl, Inst.cs, hnl, w1, w1', w2]
          refine Next.mk (f, ls ++ [l], low, some (ls.length + 1), Q, ny, _, ny + 2) ?_ (Imp.slots (by simp [go_sem]) rfl rfl) (by simp only; omega)
          exact ⟨hR, by simp only [List.length_append, List.length_cons, List.length_nil]; omega, .inl (by simp only [List.length_append, List.length_cons, List.length_nil]; omega), by simp only; omega, hwQ, (by have := hmf c2; simp only; omega), by simp [oput, h0, h1, h2, h3, n0, n1, n2, n3, n7, n8, n9, na, b0, b1, b2, b3, b4, b6, Inst.cs, Node.cs], by simp [oput, h0, h1, h2, h3, n0, n1, n2, n3, n7, n8, n9, na, b0, b1, b2, b3, b4, b6, Inst.cs, Node.cs], by simp [oput, h0, h1, h2, h3, n0, n1, n2, n3, n7, n8, n9, na, b0, b1, b2, b3, b4, b6, Inst.cs, Node.cs], by simp [oput, h0, h1, h2, h3, n0, n1, n2, n3, n7, n8, n9, na, b0, b1, b2, b3, b4, b6, Inst.cs, Node.cs], by simp [oput, h0, h1, h2, h3, n0, n1, n2, n3, n7, n8, n9, na, b0, b1, b2, b3, b4, b6, Inst.cs, Node.cs], by simp only; omega, by simp only; omega⟩
        | some k =>
          refine K_run hB 100 ?_
          simp [go_sem, expRes, Node.a, Node.cs, h0, h1, h2, h3, h5, n0, n1, n2, n3, n5, n6, n7, n8, n9, na, b0, b1, b2, b3, b4, b6, hsl, Inst.cs, hnl, w1, w1', w2]
          refine Next.mk (f, ls ++ [l], low, some k, Q, ny, _, ny + 2) ?_ (Imp.slots (by simp [go_sem]) rfl rfl) (by simp only; omega)
          exact ⟨hR, by simp only [List.length_append, List.length_cons, List.length_nil]; omega, .inl (by simp only [List.length_append, List.length_cons, List.length_nil]; omega), by simp only; omega, hwQ, (by have := hmf c2; simp only; omega), by simp [oput, h0, h1, h2, h3, n0, n1, n2, n3, n7, n8, n9, na, b0, b1, b2, b3, b4, b6, Inst.cs, Node.cs], by simp [oput, h0, h1, h2, h3, n0, n1, n2, n3, n7, n8, n9, na, b0, b1, b2, b3, b4, b6, Inst.cs, Node.cs], by simp [oput, h0, h1, h2, h3, n0, n1, n2, n3, n7, n8, n9, na, b0, b1, b2, b3, b4, b6, Inst.cs, Node.cs], by simp [oput, h0, h1, h2, h3, n0, n1, n2, n3, n7, n8, n9, na, b0, b1, b2, b3, b4, b6, Inst.cs, Node.cs], by simp [oput, h0, h1, h2, h3, n0, n1, n2, n3, n7, n8, n9, na, b0, b1, b2, b3, b4, b6, Inst.cs, Node.cs], by simp only; omega, by simp only; omega⟩
      · rw [if_neg c2] at hR
        refine K_run hB 100 ?_
        simp [go_sem, expRes, Node.a, Node.cs, h0, h1, h2, h3, h5, n0, n1, n2, n3, n5, n6, n7, n8, n9, na, b0, b1, b2, b3, b4, b6, hsl, Inst.cs, hnl, w1, w1', w2, c2, hMl]
        refine Next.mk (f, ls ++ [l], low, sq, M, ny, _, ny + 2) ?_ (Imp.slots (by simp [go_sem]) rfl rfl) (by simp only; omega)
        exact ⟨hR, by simp only [List.length_append, List.length_cons, List.length_nil]; omega, .inl (by simp only [List.length_append, List.length_cons, List.length_nil]; omega), by simp only; omega, hwM, (hnf (by omega)), by simp [oput, h0, h1, h2, h3, n0, n1, n2, n3, n7, n8, n9, na, b0, b1, b2, b3, b4, b6, Inst.cs, Node.cs], by simp [oput, h0, h1, h2, h3, n0, n1, n2, n3, n7, n8, n9, na, b0, b1, b2, b3, b4, b6, Inst.cs, Node.cs], by simp [oput, h0, h1, h2, h3, n0, n1, n2, n3, n7, n8, n9, na, b0, b1, b2, b3, b4, b6, Inst.cs, Node.cs], by simp [oput, h0, h1, h2, h3, n0, n1, n2, n3, n7, n8, n9, na, b0, b1, b2, b3, b4, b6, Inst.cs, Node.cs], by simp [oput, h0, h1, h2, h3, n0, n1, n2, n3, n7, n8, n9, na, b0, b1, b2, b3, b4, b6, Inst.cs, Node.cs], by simp only; omega, by simp only; omega⟩
end Go.Proofs.YtdjbapglfdacmaaGreat

/- The diagram of all ways from any node is what the document says: the law. -/
set_option maxRecDepth 4000
set_option maxHeartbeats 1000000
namespace Go.Proofs.YtdjbapglfdacmaaGreat
open Go Go.Proofs.YtdjbapglfdacmaaGreat.R
theorem buildGo_fine {x : Inst} (w up dp : Int) : ∀ (f : Nat) (ls : List (List Node)) (low : Int) (sq : Option Nat) (l : List Node) (K : Nat), WFine l K →
    ∀ k ∈ (x.buildGo w up dp f ls low sq l).layers, k ∈ ls ∨ (WFine k (K + f) ∧ (k = l ∨ k.length ≤ x.mostN w))
  | 0, ls, low, sq, l, K, _, k, hk => .inl hk
  | f + 1, ls, low, sq, l, K, h, k, hk => by
    have push : k ∈ ls ++ [l] → k ∈ ls ∨ (WFine k (K + (f + 1)) ∧ (k = l ∨ k.length ≤ x.mostN w)) := fun hk => by
      rcases List.mem_append.1 hk with hk | hk
      · exact .inl hk
      · rw [List.mem_singleton.1 hk]
        exact .inr ⟨⟨h.ok, fun n hn => by have := h.path n hn; omega⟩, .inl rfl⟩
    rw [Inst.buildGo] at hk
    split at hk
    · exact .inl hk
    split at hk
    · exact push hk
    split at hk
    · rcases buildGo_fine w up dp f _ _ _ _ (K + 1) (h.next up |>.squeeze w) k hk with h1 | ⟨h1, h2⟩
      · exact push h1
      · refine .inr ⟨⟨h1.ok, fun n hn => by have := h1.path n hn; omega⟩, .inr ?_⟩
        rcases h2 with rfl | h2
        · exact squeeze_len x _ w
        · exact h2
    · rename_i hno
      rcases buildGo_fine w up dp f _ _ _ _ (K + 1) (h.next up) k hk with h1 | ⟨h1, h2⟩
      · exact push h1
      · refine .inr ⟨⟨h1.ok, fun n hn => by have := h1.path n hn; omega⟩, .inr ?_⟩
        rcases h2 with rfl | h2
        · omega
        · exact h2
theorem build_fine {x : Inst} {n : Node} (ho : n.s.ok) (w up : Int) : ∀ k ∈ (x.build n w up).layers, WFine k (n.path.length + 41) ∧ (k = [n] ∨ k.length ≤ x.mostN w) := by
  intro k hk
  have hd := deep_le x
  rcases buildGo_fine w up _ _ _ _ _ _ n.path.length ⟨fun m hm => by rw [List.mem_singleton.1 hm]; exact ho, fun m hm => by rw [List.mem_singleton.1 hm]; exact Nat.le_refl _⟩ k hk with h1 | ⟨h1, h2⟩
  · cases h1
  · exact ⟨⟨h1.ok, fun m hm => by have := h1.path m hm; omega⟩, h2⟩
theorem rsameD_pure (d : Diag) (h1 : d.layers.length < 2 ^ 31) (h2 : ∀ l ∈ d.layers, l.length < 2 ^ 31 ∧ ∀ n ∈ l, n.path.length < 2 ^ 31) : Pure P 13 [d.a, d.a] (.b true) := by
  refine pure_of Tryz.func13 rfl rfl (by simp [Tryz.f13]) (by simp [bnd, bnd.bndL, Diag.a, Diag.cs]) (by simp [bnd, bnd.bndL]) fun B hB hnx => ?_
  simp only [Tryz.f13] at hB ⊢
  have hyl : (lysT d.layers).length = d.layers.length := List.length_map _
  have hyg : ∀ (k : Nat) (h : k < d.layers.length), (lysT d.layers)[k]'(by rw [hyl]; exact h) = [.sl (nodesT d.layers[k])] := fun k h => by simp [lysT]
  have hcs : d.cs = [.t (.sl (lysT d.layers)), .i d.low, .b d.exact, .i d.sure] := rfl
  generalize lysT d.layers = Y at *
  generalize d.layers = L at *
  have hee : (!(d.exact == d.exact)) = false := by simp
  refine K_run hB 100 ?_
  simp [go_sem, Diag.a, hcs, hyl]
  refine K_loopP (α := Nat) (fun k => k ≤ L.length) (fun k => ⟨sl [(2, .ptr 0 0), (3, .ptr 1 0), (5, .i k)], oput (oput noObj 0 (.box [.t (.sl Y), .i d.low, .b d.exact, .i d.sure])) 1 (.box [.t (.sl Y), .i d.low, .b d.exact, .i d.sure]), 2⟩) (fun k => L.length - k) 0 (Nat.zero_le _) (Imp.slots (by simp [go_sem]) rfl rfl) ?_
  intro k g1
  refine K_run hB 60 ?_
  simp [go_sem, hyl]
  refine fork_dec (fun hk => ?_) (fun hk => ?_)
  · have hkk : IntKind.i64.wrap ((k : Int) + 1) = ((k + 1 : Nat) : Int) := by rw [w64 ((k : Int) + 1) (by omega)]; rfl
    have hget : ∀ h : k < Y.length, Y[k]'h = [.sl (nodesT L[k])] := fun h => hyg k hk
    obtain ⟨b1, b2⟩ := h2 L[k] (List.getElem_mem _)
    generalize L[k] = l at *
    have hs := rsameN_pure l l (by omega) (by omega) (fun n h => by have := b2 n h; omega) (fun n h => by have := b2 n h; omega)
    rw [decide_eq_true rfl] at hs
    simp [go_sem]
    refine K_drawn [] rfl (by rw [hB]; kernel_rfl) ?_
    refine K_run hB 100 ?_
    simp [go_sem, hyl, hk, hget]
    refine K_dCallP rfl rfl rfl (args := [.t (.sl (nodesT l)), .t (.sl (nodesT l))]) (f := 34) (by simp [go_sem]) (hs) ?_
    refine K_run hB 100 ?_
    simp [go_sem, hkk]
    exact Next.mk (k + 1) (by omega) (Imp.slots (by simp [go_sem]) rfl rfl) (by omega)
  · have : k = L.length := by omega
    subst this
    simp [go_sem]
theorem lwbuild_pure (x : Inst) (n : Node) (w lim : Int) (hl : x.stops.length < 2 ^ 63) (hp : n.path.length < 2 ^ 63) (ho : n.s.ok) : Pure P 3 [x.a, n.a, .i w, .i lim] (.b true) := by
  refine pure_of Tryz.func3 rfl rfl (by simp [Tryz.f3]) (by simp [bnd, bnd.bndL, Inst.a, Node.a, Node.cs]) (by simp [bnd, bnd.bndL]) fun B hB hnx => ?_
  simp only [Tryz.f3] at hB ⊢
  have hpl : (ints n.path).length = n.path.length := List.length_map _
  refine K_run hB 100 ?_
  simp [go_sem, Inst.a, Node.a, Node.cs]
  refine K_call rfl rfl rfl (args := []) (f := 12) (by simp [go_sem]) (by simp [go_sem, hB]) ((awake17_pure).spec _ _) ?_
  by_cases c1 : 9 < (x.stops.length : Int)
  · refine K_run hB 100 ?_
    simp [go_sem, c1]
  by_cases c2 : 30 < w
  · refine K_run hB 100 ?_
    simp [go_sem, c1, c2]
  by_cases c3 : 100 < (n.path.length : Int)
  · refine K_run hB 100 ?_
    simp [go_sem, c1, c2, c3, hpl]
  have hst : x.stops.length < 2 ^ 31 := by omega
  have h1 := build_pure x n w lim hst (by omega) ho (by omega)
  have h2 := rbuild_pure x n w lim hst (by omega) ho (by omega)
  have h4 := deep_pure x hl
  have h5 := rdeep_pure x hl
  have hfi := build_fine (x := x) ho w lim
  have hct := build_count x n w lim
  have hd := deep_le x
  have hmo : x.mostN w ≤ 30 := by unfold Inst.mostN; omega
  have h3 := rsameD_pure (x.build n w lim) (by omega) (fun l h => by
    obtain ⟨f1, f2⟩ := hfi l h
    refine ⟨?_, fun m hm => by have := f1.path m hm; omega⟩
    rcases f2 with rfl | f2
    · simp
    · omega)
  generalize x.build n w lim = D at *
  refine K_run hB 100 ?_
  simp [go_sem, c1, c2, c3, hpl]
  refine K_drawn [] rfl (by rw [hB]; kernel_rfl) ?_
  refine K_run hB 100 ?_
  simp [go_sem]
  refine K_dCallP rfl rfl rfl (args := [x.a, n.a, .i w, .i lim]) (f := 14) (by simp [go_sem, Inst.a, Node.a, Node.cs]) (h1) ?_
  refine K_run hB 100 ?_
  simp [go_sem]
  refine K_dCallP rfl rfl rfl (args := [x.a, n.a, .i w, .i lim]) (f := 15) (by simp [go_sem, Inst.a, Node.a, Node.cs]) (h2) ?_
  refine K_run hB 100 ?_
  simp [go_sem]
  refine K_dCallP rfl rfl rfl (args := [D.a, D.a]) (f := 13) (by simp [go_sem]) (h3) ?_
  refine K_run hB 100 ?_
  simp [go_sem]
  refine K_drawn [] rfl (by rw [hB]; kernel_rfl) ?_
  refine K_run hB 100 ?_
  simp [go_sem]
  refine K_dCallP rfl rfl rfl (args := [x.a]) (f := 16) (by simp [go_sem, Inst.a]) (h4) ?_
  refine K_run hB 100 ?_
  simp [go_sem]
  refine K_dCallP rfl rfl rfl (args := [x.a]) (f := 17) (by simp [go_sem, Inst.a]) (h5) ?_
  refine K_run hB 100 ?_
  simp [go_sem]
end Go.Proofs.YtdjbapglfdacmaaGreat
