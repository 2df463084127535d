/- Parts of the proof: OnceR, Expand, Expand2, ExpandR, Law14, OnceP, FrontP, Front, Front2, Front3, Sorted, SortedR, KeepsP, ExactP, Narrow, ExactQ. -/
import Derived.Test.YtlhmchdfmjfmgaaMH
set_option linter.unusedVariables false
/- Once of each state: the document's; whether two lists of nodes are the same; few. -/
set_option maxRecDepth 4000
namespace Go.Proofs.Ytlhmchdfmjfmgaa
open Go Go.Proofs.Ytlhmchdfmjfmgaa.R
def lastF (s : State) : Nat → List Node → Int → Int
  | _, [], v => v
  | i, m :: l, v => lastF s (i + 1) l (if m.s = s then (i : Int) else v)
theorem lastF_no {s : State} : ∀ (i : Nat) (l : List Node) (v : Int), (∀ m ∈ l, m.s ≠ s) → lastF s i l v = v
  | _, [], _, _ => rfl
  | i, m :: l, v, h => by rw [lastF, if_neg (h m List.mem_cons_self), lastF_no (i + 1) l v fun x hx => h x (List.mem_cons_of_mem _ hx)]
theorem lastF_idx {s : State} : ∀ (i : Nat) (l : List Node) (v : Int), (l.map Node.s).Nodup → lastF s i l v = match sIdx s l with | some j => ((i + j : Nat) : Int) | none => v
  | _, [], _, _ => rfl
  | i, m :: l, v, h => by
    rw [List.map_cons, List.nodup_cons] at h
    rw [lastF, sIdx]
    by_cases e : m.s = s
    · rw [if_pos e, if_pos e, lastF_no]
      · rfl
      · intro x hx hxs
        exact h.1 (List.mem_map.2 ⟨x, hx, by rw [hxs, e]⟩)
    · rw [if_neg e, if_neg e, lastF_idx (i + 1) l v h.2]
      cases sIdx s l with
      | none => rfl
      | some j => simp only [Option.map_some]; rw [show i + 1 + j = i + (j + 1) by omega]
theorem sIdx_none {s : State} : ∀ {l : List Node}, sIdx s l = none → ∀ m ∈ l, m.s ≠ s
  | [], _, m, h => by cases h
  | a :: l, h, m, hm => by
    rw [sIdx] at h
    split at h
    · cases h
    · rename_i e
      rcases List.mem_cons.1 hm with rfl | hm
      · exact e
      · exact sIdx_none (by simpa using h) m hm
theorem set_states {out : List Node} {n : Node} {i : Nat} (h : i < out.length) (e : out[i].s = n.s) : (out.set i n).map Node.s = out.map Node.s := by
  rw [List.map_set, ← e]
  apply List.ext_getElem?
  intro j
  by_cases hj : i = j
  · subst hj
    rw [List.getElem?_set_self (by simpa using h), List.getElem?_map, List.getElem?_eq_getElem h]; rfl
  · rw [List.getElem?_set_ne hj]
theorem once1_nodup {out : List Node} (h : (out.map Node.s).Nodup) (n : Node) : ((once1 out n).map Node.s).Nodup := by
  unfold once1
  split
  · rename_i e
    rw [List.map_append, List.nodup_append]
    refine ⟨h, by simp, ?_⟩
    intro a ha b hb
    simp only [List.map_cons, List.map_nil, List.mem_singleton] at hb
    obtain ⟨m, hm, rfl⟩ := List.mem_map.1 ha
    rw [hb]
    exact sIdx_none e m hm
  · rename_i i e
    obtain ⟨h1, h2⟩ := sIdx_some e
    split
    · rw [set_states h1 h2]; exact h
    · exact h
theorem ronce_pure (l : List Node) (hl : l.length < 2 ^ 31) : Pure P 23 [.t (.sl (nodesT l))] (.t (.sl (nodesT (onceL l)))) := by
  generalize hR : onceL l = R
  refine pure_of Try.func23 rfl rfl (by simp [Try.f23]) (by simp [bnd, bnd.bndL]) (by simp [bnd, bnd.bndL]) fun B hB hnx => ?_
  simp only [Try.f23] at hB ⊢
  have hil : (nodesT l).length = l.length := List.length_map _
  have hgt : ∀ (k : Nat) (h : k < l.length), (nodesT l)[k]'(by rw [hil]; exact h) = l[k].t := fun k h => nodesT_get l h
  generalize hX : nodesT l = X at *
  have hmost : mostLen = 4294967296 := rfl
  refine K_run hB 100 ?_
  simp [go_sem]
  refine K_own 3 10 (by simp [go_sem]) ?_
  refine K_loopP (α := Nat × List Node × Nat × (Nat → AObj) × Nat) (fun (k, out, j, σ, nx) => k ≤ l.length ∧ (l.drop k).foldl once1 out = R ∧ out.length ≤ k ∧ σ j = .arr 10 (nodesT out) ∧ j < nx ∧ (out.map Node.s).Nodup)
    (fun (k, out, j, σ, nx) => ⟨sl [(0, .t (.sl X)), (3, .ref j), (4, .i k)], σ, nx⟩) (fun a => l.length - a.1) (0, [], 0, _, 1) ?_ (Imp.slots (by simp [go_sem]) rfl rfl) ?_
  · exact ⟨Nat.zero_le _, hR, Nat.le_refl _, by simp [oput, nodesT], by omega, by simp⟩
  rintro ⟨k, out, j, σ, nx⟩ ⟨g1, g2, g3, g5, g7, gd⟩
  refine K_run hB 60 ?_
  simp [go_sem, hil]
  refine fork_dec (fun hk => ?_) (fun hk => ?_)
  · have hkk : IntKind.i64.wrap ((k : Int) + 1) = ((k + 1 : Nat) : Int) := by rw [w64 ((k : Int) + 1) (by omega)]; rfl
    have hget : ∀ h : k < X.length, X[k]'h = l[k].t := fun h => hgt k hk
    rw [List.drop_eq_getElem_cons hk, List.foldl_cons] at g2
    generalize l[k] = n at *
    have ho : once1 out n = match sIdx n.s out with
      | none => out ++ [n]
      | some i => if n.cost < (out.getD i n).cost then out.set i n else out := rfl
    have hnd := once1_nodup gd n
    have hlast := lastF_idx (s := n.s) 0 out (-1) gd
    have hlen : (nodesT out).length = out.length := List.length_map _
    simp [go_sem]
    refine K_loopP (α := Nat × Int) (fun (i, v) => i ≤ out.length ∧ lastF n.s i (out.drop i) v = lastF n.s 0 out (-1)) (fun (i, v) => ⟨sl [(0, .t (.sl X)), (3, .ref j), (4, .i k), (5, .i v), (6, .i i)], σ, nx⟩) (fun a => out.length - a.1) (0, -1) ⟨Nat.zero_le _, rfl⟩ (Imp.slots (by simp [go_sem]) rfl rfl) ?_
    rintro ⟨i, v⟩ ⟨f1, f2⟩
    refine K_run hB 60 ?_
    simp [go_sem, g5, hlen]
    refine fork_dec (fun hi => ?_) (fun hi => ?_)
    · have hii : IntKind.i64.wrap ((i : Int) + 1) = ((i + 1 : Nat) : Int) := by rw [w64 ((i : Int) + 1) (by omega)]; rfl
      have hgi : ∀ h : i < (nodesT out).length, (nodesT out)[i]'h = out[i].t := fun h => nodesT_get out hi
      rw [List.drop_eq_getElem_cons hi, lastF] at f2
      generalize out[i] = m at *
      have q1 : i * 10 / 10 = i := by omega
      have q4 : i * 10 % 10 = 0 := by omega
      simp [go_sem]
      refine K_drawn [] rfl (by rw [hB]; kernel_rfl) ?_
      refine K_run hB 100 ?_
      simp [go_sem, g5, hlen, hi, hgi, q1, q4, hil, hk, hget, Node.t]
      refine K_dEq (op := .eql) (t := 39) (t' := 39) (x := .tmp 23) (y := .tmp 28) (xs := m.s.cs) (ys := n.s.cs) (by simp [go_sem]) rfl (by simp [go_sem, State.cs]) (by simp [go_sem, State.cs]) state_guard (state_eq m.s n.s) rfl ?_
      by_cases e : m.s = n.s
      · rw [if_pos e] at f2
        refine K_run hB 100 ?_
        simp [go_sem, e, hii]
        exact Next.mk (i + 1, (i : Int)) ⟨by simp only; omega, f2⟩ (Imp.slots (by simp [go_sem]) rfl rfl) (by simp only; omega)
      · rw [if_neg e] at f2
        refine K_run hB 100 ?_
        simp [go_sem, e, hii]
        exact Next.mk (i + 1, v) ⟨by simp only; omega, f2⟩ (Imp.slots (by simp [go_sem]) rfl rfl) (by simp only; omega)
    · have : i = out.length := by omega
      subst this
      rw [List.drop_length, lastF, hlast] at f2
      cases hs : sIdx n.s out with
      | none =>
        rw [hs] at f2 ho
        simp only at f2 ho
        subst f2
        rw [ho] at g2 hnd
        have hcap : out.length + 1 ≤ mostLen := by omega
        simp [go_sem, g5, hlen, hcap, hil, hk, hget, Node.t, hkk]
        refine Next.mk (k + 1, out ++ [n], nx, _, nx + 1) ?_ (Imp.slots (by simp [go_sem]) rfl rfl) (by simp only; omega)
        refine ⟨by simp only; omega, g2, by simp only [List.length_append, List.length_cons, List.length_nil]; omega, ?_, by simp only; omega, hnd⟩
        simp [oput, nodesT, Node.t]
      | some i =>
        rw [hs] at f2 ho
        simp only [Nat.zero_add] at f2 ho
        subst f2
        obtain ⟨hil2, his⟩ := sIdx_some hs
        have hgi : ∀ h : i < (nodesT out).length, (nodesT out)[i]'h = out[i].t := fun h => nodesT_get out hil2
        have hgd : out.getD i n = out[i] := by rw [List.getD_eq_getElem?_getD, List.getElem?_eq_getElem hil2]; rfl
        rw [hgd] at ho
        have q1 : i * 10 / 10 = i := by omega
        have q2 : (i * 10 + 8) / 10 = i := by omega
        have q3 : (i * 10 + 8) % 10 = 8 := by omega
        have q4 : i * 10 % 10 = 0 := by omega
        have q5 : (i : Int) < out.length := by omega
        have q6 : ¬ (i : Int) < 0 := by omega
        simp [go_sem, q6]
        refine K_drawn [] rfl (by rw [hB]; kernel_rfl) ?_
        by_cases c1 : n.cost < out[i].cost
        · rw [if_pos c1] at ho
          rw [ho] at g2 hnd
          refine K_run hB 100 ?_
          simp [go_sem, g5, hlen, hgi, q1, q2, q3, q4, q5, hil2, hil, hk, hget, Node.t, c1, hkk]
          refine Next.mk (k + 1, out.set i n, j, _, nx) ?_ (Imp.slots (by simp [go_sem]) rfl rfl) (by simp only; omega)
          refine ⟨by simp only; omega, g2, by simp only [List.length_set]; omega, ?_, by simp only; omega, hnd⟩
          simp [oput, nodesT, Node.t, List.map_set]
        · rw [if_neg c1] at ho
          rw [ho] at g2 hnd
          refine K_run hB 100 ?_
          simp [go_sem, g5, hlen, hgi, q1, q2, q3, q4, q5, hil2, hil, hk, hget, Node.t, c1, hkk]
          exact Next.mk (k + 1, out, j, σ, nx) ⟨by simp only; omega, g2, by simp only; omega, g5, by simp only; omega, hnd⟩ (Imp.slots (by simp [go_sem]) rfl rfl) (by simp only; omega)
  · have : k = l.length := by omega
    subst this
    rw [List.drop_length, List.foldl_nil] at g2
    subst g2
    simp [go_sem, g5]
theorem rsameN_pure (a b : List Node) (ha : a.length < 2 ^ 63) (hb : b.length < 2 ^ 63) (hpa : ∀ n ∈ a, n.path.length < 2 ^ 63) (hpb : ∀ n ∈ b, n.path.length < 2 ^ 63) : Pure P 19 [.t (.sl (nodesT a)), .t (.sl (nodesT b))] (.b (decide (a = b))) := by
  refine pure_of Try.func19 rfl rfl (by simp [Try.f19]) (by simp [bnd, bnd.bndL]) (by simp [bnd, bnd.bndL]) fun B hB hnx => ?_
  simp only [Try.f19] at hB ⊢
  have h1 : (nodesT a).length = a.length := List.length_map _
  have h2 : (nodesT b).length = b.length := List.length_map _
  by_cases c0 : a.length = b.length
  rotate_left
  · have : ¬ a = b := fun e => c0 (by rw [e])
    refine K_run hB 100 ?_
    simp [go_sem, h1, h2, c0, this]
  refine K_run hB 100 ?_
  simp [go_sem, h1, h2, c0]
  refine K_loopP (α := Nat) (fun k => k ≤ b.length ∧ a.take k = b.take k) (fun k => ⟨sl [(0, .t (.sl (nodesT a))), (1, .t (.sl (nodesT b))), (5, .i k)], noObj, 0⟩) (fun k => b.length - k) 0 ⟨Nat.zero_le _, rfl⟩ (Imp.slots (by simp [go_sem]) rfl rfl) ?_
  rintro k ⟨g1, g2⟩
  refine K_run hB 100 ?_
  simp [go_sem, h1, c0]
  refine fork_dec (fun hk => ?_) (fun hk => ?_)
  · have hkk : IntKind.i64.wrap ((k : Int) + 1) = ((k + 1 : Nat) : Int) := by rw [w64 ((k : Int) + 1) (by omega)]; rfl
    have hk' : k < a.length := by omega
    have e1 : ∀ h : k < (nodesT a).length, (nodesT a)[k]'h = a[k].t := fun h => nodesT_get a hk'
    have e2 : ∀ h : k < (nodesT b).length, (nodesT b)[k]'h = b[k].t := fun h => nodesT_get b hk
    have n1 : a.take (k + 1) = a.take k ++ [a[k]] := by rw [List.take_add_one, List.getElem?_eq_getElem hk']; rfl
    have n2 : b.take (k + 1) = b.take k ++ [b[k]] := by rw [List.take_add_one, List.getElem?_eq_getElem hk]; rfl
    have hs := rsame_pure a[k].path b[k].path (hpa _ (List.getElem_mem _)) (hpb _ (List.getElem_mem _))
    have hne : a[k] ≠ b[k] → ¬ a = b := fun h e => h (by subst e; rfl)
    have heq : a[k] = b[k] ↔ a[k].path = b[k].path ∧ a[k].s = b[k].s ∧ a[k].cost = b[k].cost := by
      generalize a[k] = x
      generalize b[k] = y
      cases x; cases y
      simp only [Node.mk.injEq]
      exact ⟨fun h => ⟨h.2.2, h.1, h.2.1⟩, fun h => ⟨h.2.1, h.2.2, h.1⟩⟩
    simp [go_sem]
    refine K_drawn [] rfl (by rw [hB]; kernel_rfl) ?_
    generalize a[k] = x at *
    generalize b[k] = y at *
    refine K_run hB 100 ?_
    simp [go_sem, h1, h2, hk, hk', e1, e2, Node.t]
    refine K_dCallP rfl rfl rfl (args := [.t (.sl (ints x.path)), .t (.sl (ints y.path))]) (f := 45) (by simp [go_sem]) (hs) ?_
    by_cases d1 : x.path = y.path
    rotate_left
    · have := hne (fun h => d1 (heq.1 h).1)
      refine K_run hB 100 ?_
      simp [go_sem, d1]
      refine K_drawn [] rfl (by rw [hB]; kernel_rfl) ?_
      refine K_run hB 100 ?_
      simp [go_sem, this]
    refine K_run hB 100 ?_
    simp [go_sem, d1]
    refine K_drawn [] rfl (by rw [hB]; kernel_rfl) ?_
    refine K_run hB 100 ?_
    simp [go_sem, h1, h2, hk, hk', e1, e2, Node.t]
    refine K_dEq (op := .neq) (t := 39) (t' := 39) (x := .tmp 36) (y := .tmp 41) (xs := x.s.cs) (ys := y.s.cs) (by simp [go_sem]) rfl (by simp [go_sem, State.cs]) (by simp [go_sem, State.cs]) state_guard (state_eq x.s y.s) rfl ?_
    by_cases d2 : x.s = y.s
    rotate_left
    · have := hne (fun h => d2 (heq.1 h).2.1)
      refine K_run hB 100 ?_
      simp [go_sem, d2, this]
    by_cases d3 : x.cost = y.cost
    rotate_left
    · have := hne (fun h => d3 (heq.1 h).2.2)
      refine K_run hB 100 ?_
      simp [go_sem, d2, h1, h2, hk, hk', e1, e2, Node.t, d3, this]
    have hxy := heq.2 ⟨d1, d2, d3⟩
    refine K_run hB 100 ?_
    simp [go_sem, d2, h1, h2, hk, hk', e1, e2, Node.t, d3, hkk]
    refine Next.mk (k + 1) ⟨by omega, by rw [n1, n2, g2, hxy]⟩ (Imp.slots (by simp [go_sem]) rfl rfl) (by omega)
  · have : k = b.length := by omega
    subst this
    rw [List.take_of_length_le (by omega), List.take_of_length_le (by omega)] at g2
    simp [go_sem, g2]
def fewB (l : List Node) : Bool := decide (l.length ≤ 60) && l.all fun n => decide (n.path.length ≤ 100)
theorem few_pure (l : List Node) (hl : l.length < 2 ^ 63) : Pure P 18 [.t (.sl (nodesT l))] (.b (fewB l)) := by
  generalize hR : fewB l = R
  refine pure_of Try.func18 rfl rfl (by simp [Try.f18]) (by simp [bnd, bnd.bndL]) (by simp [bnd, bnd.bndL]) fun B hB hnx => ?_
  simp only [Try.f18] at hB ⊢
  rw [fewB] at hR
  have hil : (nodesT l).length = l.length := List.length_map _
  by_cases c1 : (60 : Int) < l.length
  · have : R = false := by rw [← hR]; simp; omega
    subst this
    refine K_run hB 100 ?_
    simp [go_sem, hil, c1]
  have c2 : l.length ≤ 60 := by omega
  rw [decide_eq_true c2, Bool.true_and] at hR
  refine K_run hB 100 ?_
  simp [go_sem, hil, c1]
  refine K_loopP (α := Nat) (fun k => k ≤ l.length ∧ ((l.drop k).all fun n => decide (n.path.length ≤ 100)) = R) (fun k => ⟨sl [(0, .t (.sl (nodesT l))), (3, .i k)], noObj, 0⟩) (fun k => l.length - k) 0 ⟨Nat.zero_le _, hR⟩ (Imp.slots (by simp [go_sem]) rfl rfl) ?_
  rintro k ⟨g1, g2⟩
  refine K_run hB 100 ?_
  simp [go_sem, hil]
  refine fork_dec (fun hk => ?_) (fun hk => ?_)
  · have hkk : IntKind.i64.wrap ((k : Int) + 1) = ((k + 1 : Nat) : Int) := by rw [w64 ((k : Int) + 1) (by omega)]; rfl
    have hget : ∀ h : k < (nodesT l).length, (nodesT l)[k]'h = l[k].t := fun h => nodesT_get l hk
    rw [List.drop_eq_getElem_cons hk, List.all_cons] at g2
    generalize l[k] = n at *
    have hpl : (ints n.path).length = n.path.length := List.length_map _
    by_cases c3 : (100 : Int) < n.path.length
    · have e9 : decide (n.path.length ≤ 100) = false := decide_eq_false (by omega)
      rw [e9, Bool.false_and] at g2
      subst g2
      simp [go_sem, hil, hk, hget, Node.t, hpl, c3]
    · have e9 : decide (n.path.length ≤ 100) = true := decide_eq_true (by omega)
      rw [e9, Bool.true_and] at g2
      simp [go_sem, hil, hk, hget, Node.t, hpl, c3, hkk]
      exact Next.mk (k + 1) ⟨by omega, g2⟩ (Imp.slots (by simp [go_sem]) rfl rfl) (by omega)
  · have : k = l.length := by omega
    subst this
    rw [List.drop_length, List.all_nil] at g2
    simp [go_sem, g2]
end Go.Proofs.Ytlhmchdfmjfmgaa

/- The nodes behind all moves of one: the iterator. -/
set_option maxRecDepth 4000
namespace Go.Proofs.Ytlhmchdfmjfmgaa
open Go Go.Proofs.Ytlhmchdfmjfmgaa.R
def Inst.child (x : Inst) (n : Node) (j : Int) : Node := ⟨(x.move n.s j).1, sumI [n.cost, (x.move n.s j).2.1], n.path ++ [j]⟩
/-- A node whose path is a row of the call's own. -/
def Node.ra (n : Node) (r : Nat) : AV := .agg [.i n.s.spot, .i n.s.car, .i n.s.time, .i n.s.load, .i n.s.first, .u n.s.must, .u n.s.can, .u n.s.on, .i n.cost, .ref r]
theorem children_pure (x : Inst) (n : Node) (σ : Nat → AObj) (nx : Nat) : CallQ P 80 [x.a, n.a] σ nx fun r σ' nx' => r = .fn (.func 110) [] [.ptr nx 0, .ptr (nx + 1) 0] ∧ nx' = nx + 2 ∧
    σ' = oput (oput σ nx (.box x.cs)) (nx + 1) (.box n.cs) := by
  refine spec_of Try.func80 rfl rfl (by simp [Try.f80]) fun B hB hnx hσ => ?_
  simp only [Try.f80] at hB ⊢
  refine K_run hB 100 ?_
  simp [go_sem, Inst.a, Node.a, Node.cs, Inst.cs]
  omega
theorem children1_spec (x : Inst) (n : Node) (hl : x.stops.length < 2 ^ 63) (ho : n.s.ok) (hp : n.path.length < 2 ^ 31) (q b1 b2 : Nat) (J : Nat → (Nat → AObj) → Nat → Prop) (σ0 : Nat → AObj) (nx0 : Nat) (h0 : J 0 σ0 nx0)
    (hb : ∀ k σ nx, J k σ nx → nx0 ≤ nx ∧ b1 < nx ∧ b2 < nx ∧ σ b1 = .box x.cs ∧ σ b2 = .box n.cs)
    (hy : ∀ k (hk : k < (x.moves n.s).length) σ nx σ1 nx1 r, J k σ nx → (∀ i, i < nx → σ1 i = σ i) → nx ≤ r → r < nx1 → σ1 r = .arr 1 (ints (n.path ++ [(x.moves n.s)[k]])) →
      ∃ σ' nx', YieldQ P q [(x.child n (x.moves n.s)[k]).ra r] σ1 nx1 (fun a b => a = σ' ∧ b = nx') ∧ J (k + 1) σ' nx') :
    CallQ P 110 [.yld q, .ptr b1 0, .ptr b2 0] σ0 nx0 fun _ σ' nx' => J (x.moves n.s).length σ' nx' := by
  refine spec_of Try.func110 rfl rfl (by simp [Try.f110]) fun B hB hnx hσ => ?_
  simp only [Try.f110] at hB ⊢
  obtain ⟨_, _, _, a1, a2⟩ := hb 0 σ0 nx0 h0
  have hms := moves_pure x n.s hl ho
  have hmv := fun j => move_pure x n.s j hl ho
  have hil : (ints (x.moves n.s)).length = (x.moves n.s).length := List.length_map _
  have hpl : (ints n.path).length = n.path.length := List.length_map _
  have hgt : ∀ (k : Nat) (h : k < (x.moves n.s).length), (ints (x.moves n.s))[k]'(by rw [hil]; exact h) = [.i ((x.moves n.s)[k])] := fun k h => ints_getS _ h
  have hml : (x.moves n.s).length < 2 ^ 63 := by
    rw [moves_can]
    have := canB_len (fun k => (x.move n.s k).2.2) x.stops.length
    omega
  have hmost : mostLen = 4294967296 := rfl
  have hcl := clone_spec n.path (by omega)
  generalize hX : ints (x.moves n.s) = X at *
  generalize hL : x.moves n.s = L at *
  refine K_run hB 100 ?_
  simp [go_sem, a1, a2, Inst.cs, Node.cs]
  refine K_call rfl rfl rfl (args := [x.a, n.s.a]) (f := 94) (by simp [go_sem, Inst.a, State.a, State.cs]) (by simp [go_sem, hB]) ((hms).spec _ _) ?_
  refine K_run hB 100 ?_
  simp [go_sem, hil]
  refine K_loopP (α := Nat × (Nat → AObj) × Nat) (fun (k, σ, nx) => k ≤ L.length ∧ J k σ nx) (fun (k, σ, nx) => ⟨sl [(0, .yld q), (1, .ptr b1 0), (2, .ptr b2 0), (12, .t (.sl X)), (13, .i L.length), (14, .i k)], σ, nx⟩) (fun a => L.length - a.1) (0, σ0, nx0) ⟨Nat.zero_le _, h0⟩ (Imp.slots (by simp [go_sem]) rfl rfl) ?_
  rintro ⟨k, σ, nx⟩ ⟨g1, g2⟩
  obtain ⟨gn, l1, l2, d1, d2⟩ := hb k σ nx g2
  refine K_run hB 60 ?_
  simp [go_sem]
  refine fork_dec (fun hk => ?_) (fun hk => ?_)
  · have hkk : IntKind.i64.wrap ((k : Int) + 1) = ((k + 1 : Nat) : Int) := by rw [w64 ((k : Int) + 1) (by omega)]; rfl
    have hget : ∀ h : k < X.length, X[k]'h = [.i L[k]] := fun h => hgt k hk
    have hyk := hy k hk σ nx
    generalize L[k] = j at *
    have hm := hmv j
    have hch : x.child n j = ⟨(x.move n.s j).1, sumI [n.cost, (x.move n.s j).2.1], n.path ++ [j]⟩ := rfl
    generalize x.child n j = c at *
    generalize x.move n.s j = V at *
    obtain ⟨t, d, is⟩ := V
    simp only at hch
    have hsum := sum_pure [n.cost, d] (by simp)
    have n1 : ¬ b1 = nx := by omega
    have n2 : ¬ b2 = nx := by omega
    have n3 : ¬ b2 = nx + 1 := by omega
    have hcap : n.path.length + 1 ≤ mostLen := by omega
    simp [go_sem, hil, hk, hget, d1, d2, Inst.cs, Node.cs]
    refine K_call rfl rfl rfl (args := [x.a, n.s.a, .i j]) (f := 95) (by simp [go_sem, Inst.a, State.a, State.cs]) (by simp [go_sem, hB]) ((hm).spec _ _) ?_
    refine K_run hB 100 ?_
    simp [go_sem, mv, State.a, State.cs]
    refine K_drawnG [9, 12, 14] [0, 1, 10, 11] [1] rfl (by rw [hB]; kernel_rfl) (by kernel_rfl) fun ht hf' => ?_
    refine K_run hB 100 ?_
    simp [go_sem, ht, hf', d2, n2, Node.cs]
    refine K_dCallP rfl rfl rfl (args := [.fsl (ints [n.cost, d])]) (f := 50) (by simp [go_sem, ints]) (Pure.loose hsum (by simp [bnd])) ?_
    refine K_run hB 100 ?_
    simp [go_sem, ht, hf', d2, n2, Node.cs]
    refine K_dCall rfl rfl rfl (args := [.t (.sl (ints n.path))]) (f := 55) (by simp [go_sem]) (hcl _ _) (by decide) (okPends_does (by simp [go_sem])) ?_
    refine K_run hB 100 ?_
    simp [go_sem, ht, hf', hpl, hcap, show ¬ nx = nx + 1 + 1 by omega, show ¬ nx = nx + 1 by omega]
    obtain ⟨σ', nx', h1, h2⟩ := hyk (oput (oput (oput (oput (oput σ nx (.box [.i 0, .i 0, .i 0, .i 0, .i 0, .u 0, .u 0, .u 0])) nx (.box [.i t.spot, .i t.car, .i t.time, .i t.load, .i t.first, .u t.must, .u t.can, .u t.on])) (nx + 1) (.arr 1 (ints n.path))) (nx + 1) .dead) (nx + 2) (.arr 1 (ints n.path ++ [[.i j]]))) (nx + 3) (nx + 2) g2 (fun i hi => by simp [oput, show ¬ i = nx by omega, show ¬ i = nx + 1 by omega, show ¬ i = nx + 2 by omega]) (by omega) (by omega) (by simp [oput, ints])
    refine K_dYield rfl rfl rfl (q := q) (args := [c.ra (nx + 2)]) (σ' := σ') (nx' := nx') (by simp [go_sem]) (by simp [go_sem, Node.ra, hch]) h1 (by decide) (okPends_does ⟨.inl (by kernel_rfl), trivial⟩) ?_
    refine K_run hB 100 ?_
    simp [go_sem, hkk]
    exact Next.mk (k + 1, σ', nx') ⟨by simp only; omega, h2⟩ (Imp.slots (by simp [go_sem]) rfl rfl) (by simp only; omega)
  · have : k = L.length := by omega
    subst this
    simp [go_sem, hnx, g2]
    exact gn
end Go.Proofs.Ytlhmchdfmjfmgaa

/- All moves of some nodes, and the best one that can be ended. -/
set_option maxRecDepth 4000
namespace Go.Proofs.Ytlhmchdfmjfmgaa
open Go Go.Proofs.Ytlhmchdfmjfmgaa.R
def Inst.kids (x : Inst) (up : Int) (n : Node) : List Node := ((x.moves n.s).map (x.child n)).filter fun c => decide (x.of c < up)
def Node.zero : Node := ⟨State.zero, 0, []⟩
def Inst.best1 (x : Inst) (b : Node × Bool) (n : Node) : Node × Bool :=
  if (x.endS n.s).2 = true ∧ (b.2 = false ∨ sumI [n.cost, (x.endS n.s).1] < b.1.cost) then ({ n with cost := sumI [n.cost, (x.endS n.s).1] }, true) else b
def Inst.bests (x : Inst) (l : List Node) : Node × Bool := l.foldl x.best1 (Node.zero, false)
def Inst.next (x : Inst) (l : List Node) (up : Int) : List Node := onceL (l.flatMap (x.kids up))
theorem moves_33 (x : Inst) (s : State) : (x.moves s).length ≤ 33 := by
  cases hm : x.may with
  | false =>
    rw [Inst.moves, if_neg (by simp [hm])]; simp
  | true =>
    obtain ⟨p, hx⟩ := x.fit hm
    have := hx.len
    have := hx.few
    have := moves_len x s
    omega
theorem kids_33 (x : Inst) (up : Int) (n : Node) : (x.kids up n).length ≤ 33 := by
  unfold Inst.kids
  refine Nat.le_trans (List.length_filter_le _ _) ?_
  rw [List.length_map]
  exact moves_33 x n.s
def expRes (l : List Node) (b : Node × Bool) : AV := .tup [.t (.sl (nodesT l)), b.1.a, .b b.2]
theorem take_kids (x : Inst) (up : Int) (n : Node) {k : Nat} (hk : k < (x.moves n.s).length) :
    (((x.moves n.s).take (k + 1)).map (x.child n)).filter (fun c => decide (x.of c < up)) = (((x.moves n.s).take k).map (x.child n)).filter (fun c => decide (x.of c < up)) ++ (if x.of (x.child n (x.moves n.s)[k]) < up then [x.child n (x.moves n.s)[k]] else []) := by
  rw [List.take_succ_eq_append_getElem hk, List.map_append, List.filter_append]
  congr 1
  simp only [List.map_cons, List.map_nil, List.filter_cons, List.filter_nil, decide_eq_true_eq]
theorem frz1_n {r : Nat} {es : List (List T)} (n : Node) : frz1 r es (.ref r) = .t (.sl es) := by simp [frz1]
/-- What holds while the moves of one node are made. -/
structure Loop14 (x : Inst) (up : Int) (n : Node) (all : List Node) (b : Node) (L : AObj) (nx0 b1 : Nat) (k : Nat) (σ : Nat → AObj) (nx : Nat) : Prop where
  o0 : σ 0 = .box x.cs
  o1 : σ 1 = .box [.i up]
  o2 : σ 2 = .box Node.zero.cs
  o4 : σ 4 = .box b.cs
  p1 : σ b1 = .box x.cs
  p2 : σ (b1 + 1) = .box n.cs
  q : σ (b1 + 2) = L
  le : nx0 ≤ nx ∧ b1 + 2 < nx ∧ 4 < b1
  row : ∃ a, σ 3 = .box [.ref a] ∧ σ a = .arr 10 (nodesT (all ++ (((x.moves n.s).take k).map (x.child n)).filter fun c => decide (x.of c < up))) ∧ 4 < a ∧ a < nx ∧ a ≠ b1 ∧ a ≠ b1 + 1 ∧ a ≠ b1 + 2
theorem expand_pure (x : Inst) (l : List Node) (up : Int) (hl : x.stops.length < 2 ^ 31) (hll : l.length < 2 ^ 20) (hn : ∀ n ∈ l, n.Fine) (hn2 : ∀ n ∈ l, n.path.length < 2 ^ 30) : Pure P 44 [x.a, .t (.sl (nodesT l)), .i up] (expRes (x.next l up) (x.bests l)) := by
  generalize hR : x.next l up = R
  generalize hRb : x.bests l = Rb
  refine pure_ofR Try.func44 rfl rfl (by simp [Try.f44]) (by simp [bnd, bnd.bndL, Inst.a]) (by simp [bnd, bnd.bndL, expRes, Node.a, Node.cs]) fun B hB hnx hro => ?_
  simp only [Try.f44] at hB ⊢
  have hil : (nodesT l).length = l.length := List.length_map _
  have hgt : ∀ (k : Nat) (h : k < l.length), (nodesT l)[k]'(by rw [hil]; exact h) = l[k].t := fun k h => nodesT_get l h
  generalize hX : nodesT l = X at *
  have hmost : mostLen = 4294967296 := rfl
  rw [Inst.next] at hR
  rw [Inst.bests] at hRb
  refine K_run hB 100 ?_
  simp [go_sem, Inst.a, hil]
  refine K_less (((Imp.ownB (b := 3) (off := 0) (sz := 10) (cs := [.fsl []]) (by simp [go_sem]) rfl).trans (Imp.looseB (b := 2) (cs := [.i 0, .i 0, .i 0, .i 0, .i 0, .u 0, .u 0, .u 0, .i 0, .fsl []]) (by simp [oput]))).trans (Imp.looseB (b := 4) (cs := [.i 0, .i 0, .i 0, .i 0, .i 0, .u 0, .u 0, .u 0, .i 0, .fsl []]) (by simp [oput]))) ?_
  refine K_loopP (α := Nat × List Node × (Node × Bool) × Nat × (Nat → AObj) × Nat) (fun (k, all, b, a, σ, nx) => k ≤ l.length ∧ (all ++ (l.drop k).flatMap (x.kids up) = l.flatMap (x.kids up) ∧ all.length ≤ 33 * k) ∧ (l.drop k).foldl x.best1 b = Rb ∧ σ 0 = .box x.cs ∧ σ 1 = .box [.i up] ∧ σ 2 = .box Node.zero.cs ∧ σ 3 = .box [.ref a] ∧ σ 4 = .box b.1.cs ∧ σ a = .arr 10 (nodesT all) ∧ 4 < a ∧ a < nx)
    (fun (k, all, b, a, σ, nx) => ⟨sl [(3, .ptr 0 0), (5, .ptr 1 0), (7, .ptr 2 0), (9, .ptr 3 0), (10, .ptr 4 0), (11, .b b.2), (18, .t (.sl X)), (19, .i l.length), (20, .i k)], σ, nx⟩) (fun a => l.length - a.1) (0, [], (Node.zero, false), 5, _, 6) ?_ (Imp.slots (by simp [go_sem]) rfl rfl) ?_
  · exact ⟨Nat.zero_le _, ⟨rfl, Nat.le_refl _⟩, hRb, by simp [oput, Inst.cs], by simp [oput], by simp [oput, Node.zero, State.zero, Node.cs, ints, loosen], by simp [oput], by simp [oput, Node.zero, State.zero, Node.cs, ints, loosen], by simp [oput, nodesT], by omega, by omega⟩
  rintro ⟨k, all, b, a, σ, nx⟩ ⟨g1, ⟨g2, g2'⟩, g3, h0, h1, h2, h3, h4, h5, h6, h7⟩
  refine K_run hB 60 ?_
  simp [go_sem]
  refine fork_dec (fun hk => ?_) (fun hk => ?_)
  · have hkk : IntKind.i64.wrap ((k : Int) + 1) = ((k + 1 : Nat) : Int) := by rw [w64 ((k : Int) + 1) (by omega)]; rfl
    have hget : ∀ h : k < X.length, X[k]'h = l[k].t := fun h => hgt k hk
    rw [List.drop_eq_getElem_cons hk, List.flatMap_cons] at g2
    rw [List.drop_eq_getElem_cons hk, List.foldl_cons] at g3
    have hfine := hn l[k] (List.getElem_mem _)
    have hpath := hn2 l[k] (List.getElem_mem _)
    generalize l[k] = n at *
    have hen := end_pure x n.s (by omega) hfine.ok
    have hown := own_pure n (by omega)
    have hbe : x.best1 b n = if (x.endS n.s).2 = true ∧ (b.2 = false ∨ sumI [n.cost, (x.endS n.s).1] < b.1.cost) then ({ n with cost := sumI [n.cost, (x.endS n.s).1] }, true) else b := rfl
    have m0 : ¬ 0 = nx := by omega
    have m1 : ¬ 1 = nx := by omega
    have m2 : ¬ 2 = nx := by omega
    have m3 : ¬ 3 = nx := by omega
    have m4 : ¬ 4 = nx := by omega
    have ma : ¬ a = nx := by omega
    have ma4 : ¬ a = 4 := by omega
    have mn4 : ¬ nx = 4 := by omega
    simp [go_sem, hil, hk, hget, Node.t, h0, m0, Inst.cs]
    refine K_call rfl rfl rfl (args := [x.a, n.s.a]) (f := 77) (by simp [go_sem, Inst.a, State.a, State.cs]) (by simp [go_sem, hB]) ((hen).spec _ _) ?_
    refine K_run hB 10 ?_
    simp [go_sem]
    refine K_cut (α := Nat → AObj) (fun σ' => σ' 0 = .box x.cs ∧ σ' 1 = .box [.i up] ∧ σ' 2 = .box Node.zero.cs ∧ σ' 3 = .box [.ref a] ∧ σ' 4 = .box (x.best1 b n).1.cs ∧ σ' a = .arr 10 (nodesT all) ∧ σ' nx = .box n.cs)
      (fun σ' => ⟨sl [(3, .ptr 0 0), (5, .ptr 1 0), (7, .ptr 2 0), (9, .ptr 3 0), (10, .ptr 4 0), (11, .b (x.best1 b n).2), (13, .ptr nx 0), (18, .t (.sl X)), (19, .i l.length), (20, .i k)], σ', nx + 1⟩) ?_ ?_
    · have hsum := sum_pure [n.cost, (x.endS n.s).1] (by simp)
      generalize x.best1 b n = b' at *
      generalize x.endS n.s = E at *
      obtain ⟨c, is⟩ := E
      cases is with
      | false =>
        rw [if_neg (by simp)] at hbe
        subst hbe
        refine K_run hB 100 ?_
        simp [go_sem]
        refine ⟨_, ⟨?_, ?_, ?_, ?_, ?_, ?_, ?_⟩, Imp.slots (by simp [go_sem]) rfl rfl⟩
        all_goals simp [oput, m0, m1, m2, m3, m4, ma, h0, h1, h2, h3, h4, h5, Inst.cs, Node.cs]
      | true =>
        simp only [true_and] at hbe
        refine K_run hB 100 ?_
        simp [go_sem]
        refine K_call rfl rfl rfl (args := [.fsl (ints [n.cost, c])]) (f := 50) (by simp [go_sem, ints]) (by simp [go_sem, hB]) ((Pure.loose hsum (by simp [bnd])).spec _ _) ?_
        generalize sumI [n.cost, c] = e at *
        by_cases c1 : b.2 = false ∨ e < b.1.cost
        · rw [if_pos c1] at hbe
          subst hbe
          cases c2 : b.2 with
          | false =>
            refine K_run hB 100 ?_
            simp [go_sem, c2]
            refine K_call rfl rfl rfl (args := [n.a]) (f := 46) (by simp [go_sem, Node.a, Node.cs]) (by simp [go_sem, hB]) ((hown).spec _ _) ?_
            refine K_run hB 100 ?_
            simp [go_sem, Node.a, Node.cs, h4, m4, mn4]
            refine ⟨_, ⟨?_, ?_, ?_, ?_, ?_, ?_, ?_⟩, Imp.slots (by simp [go_sem]) rfl rfl⟩
            all_goals simp [oput, m0, m1, m2, m3, m4, ma, ma4, mn4, h0, h1, h2, h3, h4, h5, Inst.cs, Node.cs]
          | true =>
            have c3 : e < b.1.cost := c1.resolve_left (by simp [c2])
            refine K_run hB 100 ?_
            simp [go_sem, c2, h4, m4, Node.cs, c3]
            refine K_call rfl rfl rfl (args := [n.a]) (f := 46) (by simp [go_sem, Node.a, Node.cs]) (by simp [go_sem, hB]) ((hown).spec _ _) ?_
            refine K_run hB 100 ?_
            simp [go_sem, Node.a, Node.cs, h4, m4, mn4]
            refine ⟨_, ⟨?_, ?_, ?_, ?_, ?_, ?_, ?_⟩, Imp.slots (by simp [go_sem]) rfl rfl⟩
            all_goals simp [oput, m0, m1, m2, m3, m4, ma, ma4, mn4, h0, h1, h2, h3, h4, h5, Inst.cs, Node.cs]
        · rw [if_neg c1] at hbe
          subst hbe
          have c2 : b'.2 = true := by
            cases h : b'.2 with
            | true => rfl
            | false => exact absurd (.inl h) c1
          have c3 : ¬ e < b'.1.cost := fun h => c1 (.inr h)
          refine K_run hB 100 ?_
          simp [go_sem, c2, h4, m4, Node.cs, c3]
          refine ⟨_, ⟨?_, ?_, ?_, ?_, ?_, ?_, ?_⟩, Imp.slots (by simp [go_sem, c2]) rfl rfl⟩
          all_goals simp [oput, m0, m1, m2, m3, m4, ma, h0, h1, h2, h3, h4, h5, Inst.cs, Node.cs]
    rintro σ' ⟨k0, k1, k2, k3, k4, k5, k6⟩
    have hch := children_pure x n
    refine K_run hB 100 ?_
    simp [go_sem, k0, k6, Inst.cs, Node.cs]
    refine K_callQ rfl rfl rfl (args := [x.a, n.a]) (f := 80) (by simp [go_sem, Inst.a, Node.a, Node.cs]) (by simp [go_sem, hB]) (hch _ _) ?_
    rintro r σ2 nx2 ⟨rfl, rfl, rfl⟩
    refine K_run hB 100 ?_
    simp [go_sem]
    generalize hb' : x.best1 b n = b' at *
    have hsp := children1_spec x n (by omega) hfine.ok (by omega)
    have hk33 := moves_33 x n.s
    refine K_less (Imp.slots (l := [(3, .ptr 0 0), (5, .ptr 1 0), (7, .ptr 2 0), (9, .ptr 3 0), (10, .ptr 4 0), (11, .b b'.2), (18, .t (.sl X)), (19, .i l.length), (20, .i k), (51, .fn (.func 110) [] [.ptr (nx + 1) 0, .ptr (nx + 2) 0])]) (by simp [go_sem]) rfl rfl) ?_
    refine K_range hro (f := 110) (args := [.yld (nx + 3), .ptr (nx + 1) 0, .ptr (nx + 2) 0]) (by simp [go_sem]) fun L hL => ⟨fun _ σ3 nx3 => Loop14 x up n all b'.1 L (nx + 4) (nx + 1) (x.moves n.s).length σ3 nx3, ?_, ?_⟩
    · refine hsp (nx + 3) (nx + 1) (nx + 2) (Loop14 x up n all b'.1 L (nx + 4) (nx + 1)) _ (nx + 4) ?_ ?_ ?_
      · refine ⟨?_, ?_, ?_, ?_, ?_, ?_, ?_, by omega, ⟨a, ?_, ?_, by omega, by omega, by omega, by omega, by omega⟩⟩
        all_goals simp [oput, k0, k1, k2, k3, k4, k5, show ¬ nx = 0 by omega, show ¬ nx = 1 by omega, show ¬ nx = 2 by omega, show ¬ nx = 3 by omega, show ¬ 0 = nx + 3 by omega, show ¬ 1 = nx + 3 by omega, show ¬ 2 = nx + 3 by omega, show ¬ 3 = nx + 3 by omega, show ¬ 4 = nx + 3 by omega, show ¬ a = nx + 3 by omega,
          show ¬ 0 = nx + 2 by omega, show ¬ 1 = nx + 2 by omega, show ¬ 2 = nx + 2 by omega, show ¬ 3 = nx + 2 by omega, show ¬ 4 = nx + 2 by omega, show ¬ a = nx + 2 by omega, show ¬ 0 = nx + 1 by omega, show ¬ 1 = nx + 1 by omega, show ¬ 2 = nx + 1 by omega, show ¬ 3 = nx + 1 by omega, show ¬ 4 = nx + 1 by omega, show ¬ a = nx + 1 by omega, Inst.cs, Node.cs]
      · rintro k' σ3 nx3 hJ
        have := hJ.le
        exact ⟨this.1, by omega, by omega, hJ.p1, hJ.p2⟩
      · intro k' hk' σ3 nx3 σ4 nx4 r hJ hag hr1 hr2 hr3
        have hle := hJ.le
        obtain ⟨a', r1, r2, r3, r4, r5, r6, r7⟩ := hJ.row
        have htk := take_kids x up n hk'
        have hcok : (x.child n (x.moves n.s)[k']).s.ok := move_ok x _ hfine.ok
        have hcp : (x.child n (x.moves n.s)[k']).path = n.path ++ [(x.moves n.s)[k']] := rfl
        rw [← hcp] at hr3
        generalize x.child n (x.moves n.s)[k'] = c at *
        have hof := of_pure x c hl hcok
        have hlen : (nodesT (all ++ (((x.moves n.s).take k').map (x.child n)).filter fun c => decide (x.of c < up))).length + 1 ≤ mostLen := by
          rw [nodesT, List.length_map, List.length_append]
          have := List.length_filter_le (fun c => decide (x.of c < up)) (((x.moves n.s).take k').map (x.child n))
          rw [List.length_map, List.length_take] at this
          omega
        generalize (((x.moves n.s).take k').map (x.child n)).filter (fun c => decide (x.of c < up)) = F at *
        have s0 : σ4 0 = .box x.cs := (hag 0 (by omega)).trans hJ.o0
        have s1 : σ4 1 = .box [.i up] := (hag 1 (by omega)).trans hJ.o1
        have s2 : σ4 2 = .box Node.zero.cs := (hag 2 (by omega)).trans hJ.o2
        have s3 : σ4 3 = .box [.ref a'] := (hag 3 (by omega)).trans r1
        have s4 : σ4 4 = .box b'.1.cs := (hag 4 (by omega)).trans hJ.o4
        have s5 : σ4 a' = .arr 10 (nodesT (all ++ F)) := (hag a' (by omega)).trans r2
        have s6 : σ4 (nx + 1) = .box x.cs := (hag (nx + 1) (by omega)).trans hJ.p1
        have s7 : σ4 (nx + 2) = .box n.cs := (hag (nx + 2) (by omega)).trans hJ.p2
        have s8 : σ4 (nx + 3) = L := (hag (nx + 3) (by omega)).trans hJ.q
        obtain ⟨σ5, hσ5⟩ : ∃ σ5 : Nat → AObj, σ5 = fun j => if j = r then AObj.dead else frzO r (ints c.path) (σ4 j) := ⟨_, rfl⟩
        have f0 : σ5 0 = .box x.cs := by simp [hσ5, show ¬ 0 = r by omega, s0, frzO, frz1, frz1.frzL, Inst.cs]
        have f1 : σ5 1 = .box [.i up] := by simp [hσ5, show ¬ 1 = r by omega, s1, frzO, frz1, frz1.frzL]
        have f2 : σ5 2 = .box Node.zero.cs := by simp [hσ5, show ¬ 2 = r by omega, s2, frzO, frz1, frz1.frzL, Node.cs]
        have f3 : σ5 3 = .box [.ref a'] := by simp [hσ5, show ¬ 3 = r by omega, s3, frzO, frz1, frz1.frzL, show ¬ a' = r by omega]
        have f4 : σ5 4 = .box b'.1.cs := by simp [hσ5, show ¬ 4 = r by omega, s4, frzO, frz1, frz1.frzL, Node.cs]
        have f5 : σ5 a' = .arr 10 (nodesT (all ++ F)) := by simp [hσ5, show ¬ a' = r by omega, s5, frzO]
        have f6 : σ5 (nx + 1) = .box x.cs := by simp [hσ5, show ¬ nx + 1 = r by omega, s6, frzO, frz1, frz1.frzL, Inst.cs]
        have f7 : σ5 (nx + 2) = .box n.cs := by simp [hσ5, show ¬ nx + 2 = r by omega, s7, frzO, frz1, frz1.frzL, Node.cs]
        have f8 : σ5 (nx + 3) = L := by simp [hσ5, show ¬ nx + 3 = r by omega, s8, hL, frzO]
        have d0 : ¬ 0 = nx4 := by omega
        have d1 : ¬ 1 = nx4 := by omega
        have d2 : ¬ 2 = nx4 := by omega
        have d3 : ¬ 3 = nx4 := by omega
        have d4 : ¬ 4 = nx4 := by omega
        have d5 : ¬ a' = nx4 := by omega
        have d6 : ¬ nx + 1 = nx4 := by omega
        have d7 : ¬ nx + 2 = nx4 := by omega
        have d8 : ¬ nx + 3 = nx4 := by omega
        have hB0 := hB
        by_cases hlt : x.of c < up
        · refine ⟨oput (oput (oput (oput (oput σ5 nx4 (.box c.cs)) a' .dead) (nx4 + 1) (.arr 10 (nodesT (all ++ F) ++ [c.t]))) 3 (.box [.ref (nx4 + 1)])) (nx + 3) L, nx4 + 2, ?y, ?j⟩
          case y =>
            refine yield_of (s8.trans hL) rfl (by rw [hB]; rfl) fun B' hB' hnx' hσ' => ?_
            have hL' := hL
            rw [hB] at hL'
            have hB := hB'.trans hB
            refine K_less ((Imp.freeze (q := r) (sz := 1) (es := ints c.path) hr3).trans (Imp.slots (l := [(3, .ptr 0 0), (5, .ptr 1 0), (9, .ptr 3 0), (52, c.a)]) (by simp [go_sem, roundM, putL, frz1, frz1.frzL, hB0, Node.ra, Node.a, Node.cs]) hσ5 rfl)) ?_
            refine K_run hB 100 ?_
            simp [go_sem, f8, d8, hL, Node.a, Node.cs]
            refine K_run hB 100 ?_
            simp [go_sem]
            refine K_drawn [] rfl (by rw [hB]; kernel_rfl) ?_
            refine K_run hB 100 ?_
            simp [go_sem, f0, d0, d8, show ¬ nx4 = nx + 3 by omega, Inst.cs]
            refine K_dCallP rfl rfl rfl (args := [x.a, c.a]) (f := 24) (by simp [go_sem, Inst.a, Node.a, Node.cs]) (hof) ?_
            refine K_run hB 100 ?_
            simp [go_sem, f1, f3, f5, d1, d3, d5, d8, hlt, hlen, Node.cs, show ¬ nx4 = nx + 3 by omega, show ¬ a' = nx + 3 by omega, show ¬ nx = 0 by omega, show ¬ nx + 3 = a' by omega, show ¬ nx + 3 = nx4 by omega, show ¬ nx + 3 = nx4 + 1 by omega, show ¬ nx4 = 2 by omega, show ¬ 3 = a' by omega, show ¬ nx4 = nx + 2 by omega, f8]
            funext i
            have w1 : ¬ nx = 0 := by omega
            have w2 : ¬ a' = nx + 3 := by omega
            have w3 : ¬ nx4 = nx + 3 := by omega
            have w4 : ¬ nx4 + 1 = nx + 3 := by omega
            have w6 : ¬ nx4 = nx + 2 := by omega
            have w7 : ¬ a' = 3 := by omega
            have w8 : ¬ a' = nx4 + 1 := by omega
            by_cases e1 : i = nx + 3
            · simp [oput, e1, hL, hB, hB0]
            by_cases e2 : i = 3
            · simp [oput, e2, w1]
            by_cases e3 : i = nx4 + 1
            · simp [oput, e3, w4, w6, Node.t, nodesT]
            by_cases e4 : i = a'
            · simp [oput, e4, w2, w7, w8]
            by_cases e5 : i = nx4
            · simp [oput, e1, e2, e3, e4, e5, w3, Node.cs]
            simp [oput, e1, e2, e3, e4, e5]
          case j =>
            rw [if_pos hlt] at htk
            have v0 : ∀ j, j ≤ 4 → j ≠ 3 → ¬ j = a' ∧ ¬ j = nx4 + 1 := by intros; omega
            have w0 : ¬ nx4 = 0 := by omega
            have w1 : ¬ nx4 = 1 := by omega
            have w2 : ¬ nx = 2 := by omega
            have w3 : ¬ nx = 1 := by omega
            have w4 : ¬ nx = nx4 := by omega
            have w5 : ¬ nx = 0 := by omega
            have w6 : ¬ nx4 = nx + 2 := by omega
            have w7 : ¬ nx4 = nx + 3 := by omega
            have w8 : ¬ nx4 = 2 := by omega
            have w9 : ¬ nx4 = 3 := by omega
            have wa := v0 0 (by omega) (by omega)
            have wb := v0 1 (by omega) (by omega)
            have wc := v0 2 (by omega) (by omega)
            have wd := v0 4 (by omega) (by omega)
            have we : ¬ nx + 1 = a' := by omega
            have wf : ¬ nx + 2 = a' := by omega
            refine ⟨?_, ?_, ?_, ?_, ?_, ?_, ?_, by omega, ⟨nx4 + 1, ?_, ?_, by omega, by omega, by omega, by omega, by omega⟩⟩
            · simp [oput, d0, f0, w0, Inst.cs, wa.1, wa.2, w0, show ¬ 0 = nx4 + 1 by omega]
            · simp [oput, d1, f1, wb.1, wb.2, w1, w0]
            · simp [oput, d2, f2, wc.1, wc.2, w8, Node.cs]
            · simp [oput, f4, wd.1, wd.2, show ¬ 4 = nx4 by omega, show ¬ 4 = nx4 + 1 by omega, show ¬ 4 = nx + 3 by omega, Node.cs]
            · simp [oput, d6, f6, we, w2, w4, show ¬ nx + 1 = nx4 by omega, Inst.cs]
            · simp [oput, d7, f7, wf, show ¬ nx + 1 = nx4 by omega, show ¬ nx + 2 = 3 by omega, show ¬ nx + 2 = nx4 + 1 by omega, Node.cs]
            · simp [oput]
            · simp [oput, w5]
            · rw [htk]
              simp [oput, w6, w8, nodesT]
        · refine ⟨oput (oput σ5 nx4 (.box c.cs)) (nx + 3) L, nx4 + 1, ?y, ?j⟩
          case y =>
            refine yield_of (s8.trans hL) rfl (by rw [hB]; rfl) fun B' hB' hnx' hσ' => ?_
            have hL' := hL
            rw [hB] at hL'
            have hB := hB'.trans hB
            refine K_less ((Imp.freeze (q := r) (sz := 1) (es := ints c.path) hr3).trans (Imp.slots (l := [(3, .ptr 0 0), (5, .ptr 1 0), (9, .ptr 3 0), (52, c.a)]) (by simp [go_sem, roundM, putL, frz1, frz1.frzL, hB0, Node.ra, Node.a, Node.cs]) hσ5 rfl)) ?_
            refine K_run hB 100 ?_
            simp [go_sem, f8, d8, hL, Node.a, Node.cs]
            refine K_run hB 100 ?_
            simp [go_sem]
            refine K_drawn [] rfl (by rw [hB]; kernel_rfl) ?_
            refine K_run hB 100 ?_
            simp [go_sem, f0, d0, d8, show ¬ nx4 = nx + 3 by omega, Inst.cs]
            refine K_dCallP rfl rfl rfl (args := [x.a, c.a]) (f := 24) (by simp [go_sem, Inst.a, Node.a, Node.cs]) (hof) ?_
            refine K_run hB 100 ?_
            simp [go_sem, f1, f3, f5, d1, d3, d5, d8, hlt, hlen, Node.cs, show ¬ nx4 = nx + 3 by omega, show ¬ a' = nx + 3 by omega, show ¬ nx = 0 by omega, show ¬ nx + 3 = a' by omega, show ¬ nx + 3 = nx4 by omega, show ¬ nx + 3 = nx4 + 1 by omega, show ¬ nx4 = 2 by omega, show ¬ 3 = a' by omega, show ¬ nx4 = nx + 2 by omega, f8]
            funext i
            have w3 : ¬ nx4 = nx + 3 := by omega
            by_cases e1 : i = nx + 3
            · simp [oput, e1, hL, hB, hB0]
            by_cases e5 : i = nx4
            · simp [oput, e5, w3, Node.cs]
            simp [oput, e1, e5]
          case j =>
            rw [if_neg hlt, List.append_nil] at htk
            have v0 : ∀ j, j ≤ 4 → ¬ j = nx4 ∧ ¬ j = nx + 3 := by intros; omega
            have w0 := v0 0 (by omega)
            have w1 := v0 1 (by omega)
            have w2 := v0 2 (by omega)
            have w3 := v0 3 (by omega)
            have w4 := v0 4 (by omega)
            have we : ¬ nx + 1 = nx4 := by omega
            have wf : ¬ nx + 2 = nx4 := by omega
            have wg : ¬ nx = 0 := by omega
            have wh : ¬ a' = nx4 := by omega
            have wi : ¬ a' = nx + 3 := by omega
            refine ⟨?_, ?_, ?_, ?_, ?_, ?_, ?_, by omega, ⟨a', ?_, ?_, by omega, by omega, by omega, by omega, by omega⟩⟩
            · simp [oput, f0, w0, Inst.cs]
            · simp [oput, f1, w1, w1.2]
            · simp [oput, f2, w2, Node.cs]
            · simp [oput, f4, w4, Node.cs]
            · simp [oput, f6, we, Inst.cs]
            · simp [oput, f7, wf, Node.cs]
            · simp [oput]
            · simp [oput, f3, w3, wg]
            · rw [htk]
              simp [oput, f5, wh, wi]
    · rintro r σ3 nx3 hJ
      refine ⟨hJ.q, ?_⟩
      have hle := hJ.le
      obtain ⟨a', r1, r2, r3, r4, r5, r6, r7⟩ := hJ.row
      rw [List.take_length] at r2
      have hkl : (((x.moves n.s).map (x.child n)).filter fun c => decide (x.of c < up)) = x.kids up n := rfl
      rw [hkl] at r2
      have hkl2 := kids_33 x up n
      refine K_run hB 100 ?_
      simp [go_sem, hkk]
      refine Next.mk (k + 1, all ++ x.kids up n, b', a', oput σ3 (nx + 3) .dead, nx3) ?_ (Imp.slots (by simp [go_sem]) rfl rfl) (by simp only; omega)
      have v0 : ∀ j, j ≤ 4 → ¬ j = nx + 3 := by intros; omega
      have w0 := v0 0 (by omega)
      have w1 := v0 1 (by omega)
      have w2 := v0 2 (by omega)
      have w3 : ¬ nx = 0 := by omega
      have w4 := v0 4 (by omega)
      have w5 : ¬ a' = nx + 3 := by omega
      refine ⟨by simp only; omega, ⟨by rw [List.append_assoc]; exact g2, by simp only [List.length_append]; omega⟩, g3, ?_, ?_, ?_, ?_, ?_, ?_, by simp only; omega, by simp only; omega⟩
      · simp [oput, w0, hJ.o0]
      · simp [oput, w1, hJ.o1]
      · simp [oput, w2, hJ.o2, Node.cs]
      · simp [oput, w3, r1]
      · simp [oput, w4, hJ.o4, Node.cs]
      · simp [oput, w5, r2]
  · have : k = l.length := by omega
    subst this
    rw [List.drop_length, List.flatMap_nil, List.append_nil] at g2
    rw [List.drop_length, List.foldl_nil] at g3
    subst g3
    rw [← g2] at hR
    have hfa : ∀ n ∈ all, n.Fine := by
      intro c hc
      rw [g2] at hc
      obtain ⟨n, hn3, hc⟩ := List.mem_flatMap.1 hc
      obtain ⟨hc, -⟩ := List.mem_filter.1 hc
      obtain ⟨j, hj, rfl⟩ := List.mem_map.1 hc
      refine ⟨move_ok x _ (hn n hn3).ok, ?_⟩
      have := hn2 n hn3
      show (n.path ++ [j]).length < 2 ^ 31
      rw [List.length_append]
      simp only [List.length_cons, List.length_nil]
      omega
    have hon := once_pure all (by omega) hfa
    rw [hR] at hon
    refine K_run hB 60 ?_
    simp [go_sem]
    obtain ⟨σ5, hσ5⟩ : ∃ σ5 : Nat → AObj, σ5 = fun j => if j = a then AObj.dead else frzO a (nodesT all) (σ j) := ⟨_, rfl⟩
    have f0 : σ5 0 = .box x.cs := by simp [hσ5, show ¬ 0 = a by omega, h0, frzO, frz1, frz1.frzL, Inst.cs]
    have f2 : σ5 2 = .box Node.zero.cs := by simp [hσ5, show ¬ 2 = a by omega, h2, frzO, frz1, frz1.frzL, Node.cs]
    have f3 : σ5 3 = .box [.t (.sl (nodesT all))] := by simp [hσ5, show ¬ 3 = a by omega, h3, frzO, frz1, frz1.frzL]
    have f4 : σ5 4 = .box b.1.cs := by simp [hσ5, show ¬ 4 = a by omega, h4, frzO, frz1, frz1.frzL, Node.cs]
    refine K_less ((Imp.freeze (q := a) (sz := 10) (es := nodesT all) h5).trans (Imp.slots (l := [(7, .ptr 2 0), (9, .ptr 3 0), (10, .ptr 4 0), (11, .b b.2)]) (by simp [go_sem, frz1, frz1.frzL]) hσ5 rfl)) ?_
    refine K_drawnF [5] [3] rfl (by rw [hB]; kernel_rfl) (by kernel_rfl) fun ht hf' => ?_
    refine K_run hB 100 ?_
    simp [go_sem, ht, hf', f3]
    refine K_dCallP rfl rfl rfl (args := [.t (.sl (nodesT all))]) (f := 22) (by simp [go_sem]) (hon) ?_
    refine K_run hB 100 ?_
    simp [go_sem, ht, hf', f4, f2, Node.cs]
    rfl
end Go.Proofs.Ytlhmchdfmjfmgaa

/- All moves of some nodes, and the best one that can be ended: the document's. -/
set_option maxRecDepth 4000
namespace Go.Proofs.Ytlhmchdfmjfmgaa
open Go Go.Proofs.Ytlhmchdfmjfmgaa.R
theorem rexpand_pure (x : Inst) (l : List Node) (up : Int) (hl : x.stops.length < 2 ^ 31) (hll : l.length < 2 ^ 20) (hn : ∀ n ∈ l, n.Fine) (hn2 : ∀ n ∈ l, n.path.length < 2 ^ 30) : Pure P 52 [x.a, .t (.sl (nodesT l)), .i up] (expRes (x.next l up) (x.bests l)) := by
  generalize hR : x.next l up = R
  generalize hRb : x.bests l = Rb
  refine pure_of Try.func52 rfl rfl (by simp [Try.f52]) (by simp [bnd, bnd.bndL, Inst.a]) (by simp [bnd, bnd.bndL, expRes, Node.a, Node.cs]) fun B hB hnx => ?_
  simp only [Try.f52] at hB ⊢
  have hil : (nodesT l).length = l.length := List.length_map _
  have hgt : ∀ (k : Nat) (h : k < l.length), (nodesT l)[k]'(by rw [hil]; exact h) = l[k].t := fun k h => nodesT_get l h
  generalize hX : nodesT l = X at *
  have hmost : mostLen = 4294967296 := rfl
  rw [Inst.next] at hR
  rw [Inst.bests] at hRb
  refine K_run hB 100 ?_
  simp [go_sem, Inst.a, hil]
  refine K_own 9 10 (by simp [go_sem]) ?_
  refine K_less ((Imp.looseB (b := 1) (cs := [.i 0, .i 0, .i 0, .i 0, .i 0, .u 0, .u 0, .u 0, .i 0, .fsl []]) (by simp [oput])).trans (Imp.looseB (b := 2) (cs := [.i 0, .i 0, .i 0, .i 0, .i 0, .u 0, .u 0, .u 0, .i 0, .fsl []]) (by simp [oput]))) ?_
  refine K_loopP (α := Nat × List Node × (Node × Bool) × Nat × (Nat → AObj) × Nat) (fun (k, all, b, a, σ, nx) => k ≤ l.length ∧ (all ++ (l.drop k).flatMap (x.kids up) = l.flatMap (x.kids up) ∧ all.length ≤ 33 * k) ∧ (l.drop k).foldl x.best1 b = Rb ∧ σ 0 = .box x.cs ∧ σ 1 = .box Node.zero.cs ∧ σ 2 = .box b.1.cs ∧ σ a = .arr 10 (nodesT all) ∧ 2 < a ∧ a < nx)
    (fun (k, all, b, a, σ, nx) => ⟨sl [(1, .t (.sl X)), (2, .i up), (3, .ptr 0 0), (7, .ptr 1 0), (9, .ref a), (10, .ptr 2 0), (11, .b b.2), (12, .i k)], σ, nx⟩) (fun a => l.length - a.1) (0, [], (Node.zero, false), 3, _, 4) ?_ (Imp.slots (by simp [go_sem]) rfl rfl) ?_
  · exact ⟨Nat.zero_le _, ⟨rfl, Nat.le_refl _⟩, hRb, by simp [oput, Inst.cs], by simp [oput, Node.zero, State.zero, Node.cs, ints, loosen], by simp [oput, Node.zero, State.zero, Node.cs, ints, loosen], by simp [oput, nodesT], by omega, by omega⟩
  rintro ⟨k, all, b, a, σ, nx⟩ ⟨g1, ⟨g2, g2'⟩, g3, h0, h1, h2, h3, h4, h5⟩
  refine K_run hB 60 ?_
  simp [go_sem, hil]
  refine fork_dec (fun hk => ?_) (fun hk => ?_)
  · have hkk : IntKind.i64.wrap ((k : Int) + 1) = ((k + 1 : Nat) : Int) := by rw [w64 ((k : Int) + 1) (by omega)]; rfl
    have hget : ∀ h : k < X.length, X[k]'h = l[k].t := fun h => hgt k hk
    rw [List.drop_eq_getElem_cons hk, List.flatMap_cons] at g2
    rw [List.drop_eq_getElem_cons hk, List.foldl_cons] at g3
    have hfine := hn l[k] (List.getElem_mem _)
    have hpath := hn2 l[k] (List.getElem_mem _)
    generalize l[k] = n at *
    have hen := rend_pure x n.s (by omega) hfine.ok
    have hbe : x.best1 b n = if (x.endS n.s).2 = true ∧ (b.2 = false ∨ sumI [n.cost, (x.endS n.s).1] < b.1.cost) then ({ n with cost := sumI [n.cost, (x.endS n.s).1] }, true) else b := rfl
    have hsum := rsum_pure [n.cost, (x.endS n.s).1] (by simp)
    have hE : ∃ c is, x.endS n.s = (c, is) := ⟨_, _, rfl⟩
    obtain ⟨c, is, hE⟩ := hE
    rw [hE] at hen hbe hsum
    simp only at hen hbe hsum
    have m0 : ¬ 0 = nx := by omega
    have m1 : ¬ 1 = nx := by omega
    have m2 : ¬ 2 = nx := by omega
    have ma : ¬ a = nx := by omega
    have ma2 : ¬ a = 2 := by omega
    have mn2 : ¬ nx = 2 := by omega
    simp [go_sem, hil, hk, hget, Node.t, h0, m0, Inst.cs]
    refine K_call rfl rfl rfl (args := [x.a, n.s.a]) (f := 88) (by simp [go_sem, Inst.a, State.a, State.cs]) (by simp [go_sem, hB]) ((hen).spec _ _) ?_
    refine K_run hB 100 ?_
    simp [go_sem]
    refine K_call rfl rfl rfl (args := [.fsl (ints [n.cost, c])]) (f := 84) (by simp [go_sem, ints]) (by simp [go_sem, hB]) ((Pure.loose hsum (by simp [bnd])).spec _ _) ?_
    refine K_run hB 3 ?_
    simp [go_sem]
    refine K_cut (α := Nat → AObj) (fun σ' => σ' 0 = .box x.cs ∧ σ' 1 = .box Node.zero.cs ∧ σ' 2 = .box (x.best1 b n).1.cs ∧ σ' a = .arr 10 (nodesT all) ∧ σ' nx = .box n.cs)
      (fun σ' => ⟨sl [(1, .t (.sl X)), (2, .i up), (3, .ptr 0 0), (7, .ptr 1 0), (9, .ref a), (10, .ptr 2 0), (11, .b (x.best1 b n).2), (12, .i k), (13, .ptr nx 0)], σ', nx + 1⟩) ?_ ?_
    · generalize x.best1 b n = b' at *
      cases is with
      | false =>
        rw [if_neg (by simp)] at hbe
        subst hbe
        refine K_run hB 100 ?_
        simp [go_sem]
        refine ⟨_, ⟨?_, ?_, ?_, ?_, ?_⟩, Imp.slots (by simp [go_sem]) rfl rfl⟩
        all_goals simp [oput, m0, m1, m2, ma, h0, h1, h2, h3, Inst.cs, Node.cs]
      | true =>
        simp only [true_and] at hbe
        generalize sumI [n.cost, c] = e at *
        by_cases c1 : b.2 = false ∨ e < b.1.cost
        · rw [if_pos c1] at hbe
          subst hbe
          cases c2 : b.2 with
          | false =>
            refine K_run hB 100 ?_
            simp [go_sem, c2, Node.cs, h2, m2]
            refine ⟨_, ⟨?_, ?_, ?_, ?_, ?_⟩, Imp.slots (by simp [go_sem]) rfl rfl⟩
            all_goals simp [oput, m0, m1, m2, ma, ma2, mn2, h0, h1, h2, h3, Inst.cs, Node.cs]
          | true =>
            have c3 : e < b.1.cost := c1.resolve_left (by simp [c2])
            refine K_run hB 100 ?_
            simp [go_sem, c2, h2, m2, Node.cs, c3]
            refine ⟨_, ⟨?_, ?_, ?_, ?_, ?_⟩, Imp.slots (by simp [go_sem]) rfl rfl⟩
            all_goals simp [oput, m0, m1, m2, ma, ma2, mn2, h0, h1, h2, h3, Inst.cs, Node.cs]
        · rw [if_neg c1] at hbe
          subst hbe
          have c2 : b'.2 = true := by
            cases h : b'.2 with
            | true => rfl
            | false => exact absurd (.inl h) c1
          have c3 : ¬ e < b'.1.cost := fun h => c1 (.inr h)
          refine K_run hB 100 ?_
          simp [go_sem, c2, h2, m2, Node.cs, c3]
          refine ⟨_, ⟨?_, ?_, ?_, ?_, ?_⟩, Imp.slots (by simp [go_sem, c2]) rfl rfl⟩
          all_goals simp [oput, m0, m1, m2, ma, h0, h1, h2, h3, Inst.cs, Node.cs]
    rintro σ' ⟨k0, k1, k2, k3, k4⟩
    generalize hb' : x.best1 b n = b' at *
    have hms := rmoves_pure x n.s (by omega) hfine.ok
    have hk33 := moves_33 x n.s
    have hkl : (((x.moves n.s).map (x.child n)).filter fun c => decide (x.of c < up)) = x.kids up n := rfl
    have hcok : ∀ j, (x.child n j).s.ok := fun j => move_ok x j hfine.ok
    have hpl : (ints n.path).length = n.path.length := List.length_map _
    have hcap0 : n.path.length ≤ mostLen := by omega
    have hcap1 : n.path.length + 1 ≤ mostLen := by omega
    have hone : ∀ y : List T, y ∈ ints n.path → y.length = 1 := by simp [ints]
    have hmv := fun j => rmove_pure x n.s j (by omega) hfine.ok
    have hml : (ints (x.moves n.s)).length = (x.moves n.s).length := List.length_map _
    have hmg : ∀ (i : Nat) (h : i < (x.moves n.s).length), (ints (x.moves n.s))[i]'(by rw [hml]; exact h) = [.i ((x.moves n.s)[i])] := fun i h => ints_getS _ h
    have hk332 := kids_33 x up n
    refine K_run hB 100 ?_
    simp [go_sem, k0, k4, Inst.cs, Node.cs]
    refine K_call rfl rfl rfl (args := [x.a, n.s.a]) (f := 89) (by simp [go_sem, Inst.a, State.a, State.cs]) (by simp [go_sem, hB]) ((hms).spec _ _) ?_
    generalize hY : ints (x.moves n.s) = Y at *
    generalize x.moves n.s = M at *
    refine K_run hB 100 ?_
    simp [go_sem]
    refine K_loopP (α := Nat × List Node × Nat × (Nat → AObj) × Nat) (fun (i, acc, a, σ, ny) => i ≤ M.length ∧ (acc ++ ((M.drop i).map (x.child n)).filter (fun c => decide (x.of c < up)) = all ++ x.kids up n ∧ acc.length ≤ all.length + i) ∧ σ 0 = .box x.cs ∧ σ 1 = .box Node.zero.cs ∧ σ 2 = .box b'.1.cs ∧ σ nx = .box n.cs ∧ σ a = .arr 10 (nodesT acc) ∧ 2 < a ∧ a < ny ∧ nx < ny ∧ a ≠ nx)
      (fun (i, acc, a, σ, ny) => ⟨sl [(1, .t (.sl X)), (2, .i up), (3, .ptr 0 0), (7, .ptr 1 0), (9, .ref a), (10, .ptr 2 0), (11, .b b'.2), (12, .i k), (13, .ptr nx 0), (17, .t (.sl Y)), (18, .i i)], σ, ny⟩) (fun a => M.length - a.1) (0, all, a, _, nx + 1) ?_ (Imp.slots (by simp [go_sem]) rfl rfl) ?_
    · exact ⟨Nat.zero_le _, ⟨by rw [List.drop_zero, hkl], by omega⟩, k0, k1, k2, k4, k3, by omega, by omega, by omega, by omega⟩
    rintro ⟨i, acc, a, σ, ny⟩ ⟨f1, ⟨f2, f2'⟩, f3, f4, f5, f6, f7, f8, f9, fa, fb⟩
    refine K_run hB 60 ?_
    simp [go_sem, hml]
    refine fork_dec (fun hi => ?_) (fun hi => ?_)
    · have hii : IntKind.i64.wrap ((i : Int) + 1) = ((i + 1 : Nat) : Int) := by rw [w64 ((i : Int) + 1) (by omega)]; rfl
      have hgeti : ∀ h : i < Y.length, Y[i]'h = [.i M[i]] := fun h => hmg i hi
      rw [List.drop_eq_getElem_cons hi, List.map_cons, List.filter_cons] at f2
      generalize M[i] = j at *
      have hmj := hmv j
      have hcj := hcok j
      have hch : x.child n j = ⟨(x.move n.s j).1, sumI [n.cost, (x.move n.s j).2.1], n.path ++ [j]⟩ := rfl
      generalize x.child n j = c at *
      have hof := rof_pure x c hl hcj
      generalize x.move n.s j = V at *
      obtain ⟨t, d, is⟩ := V
      simp only at hch
      have hsum := rsum_pure [n.cost, d] (by simp)
      simp [go_sem]
      refine K_drawnF [12, 13] [0, 1, 2, 3, 4, 5, 6, 7, 8, 9, 10, 11] rfl (by rw [hB]; kernel_rfl) (by kernel_rfl) fun ht hf' => ?_
      refine K_run hB 100 ?_
      simp [go_sem, ht, hf', hml, hi, hgeti, f3, f6, Inst.cs, Node.cs]
      refine K_dCallP rfl rfl rfl (args := [x.a, n.s.a, .i j]) (f := 90) (by simp [go_sem, Inst.a, State.a, State.cs]) (hmj) ?_
      refine K_run hB 100 ?_
      simp [go_sem, ht, hf', mv, State.a, State.cs, f3, f6, show ¬ nx = ny by omega, show ¬ 0 = ny by omega, Node.cs, Inst.cs, hpl, hml, hi, hgeti, hcap0, hcap1, if_pos hone, show ¬ ny + 2 = ny + 1 by omega]
      have hcp : c.path = n.path ++ [j] := by rw [hch]
      have hci : ints c.path = ints n.path ++ [[.i j]] := by rw [hcp]; simp [ints]
      obtain ⟨σ4, hσ4⟩ : ∃ σ4 : Nat → AObj, σ4 = oput (oput (oput (oput (oput σ ny (.box [.i 0, .i 0, .i 0, .i 0, .i 0, .u 0, .u 0, .u 0])) ny (.box [.i t.spot, .i t.car, .i t.time, .i t.load, .i t.first, .u t.must, .u t.can, .u t.on])) (ny + 1) (.arr 1 (ints n.path))) (ny + 1) .dead) (ny + 2) (.arr 1 (ints c.path)) := ⟨_, rfl⟩
      obtain ⟨σ5, hσ5⟩ : ∃ σ5 : Nat → AObj, σ5 = fun j => if j = ny + 2 then AObj.dead else frzO (ny + 2) (ints c.path) (σ4 j) := ⟨_, rfl⟩
      have e0 : σ5 0 = .box x.cs := by simp [hσ5, hσ4, oput, show ¬ 0 = ny by omega, f3, frzO, frz1, frz1.frzL, Inst.cs]
      have e1 : σ5 1 = .box Node.zero.cs := by simp [hσ5, hσ4, oput, show ¬ 1 = ny by omega, show ¬ 1 = ny + 1 by omega, show ¬ ny = 0 by omega, show ¬ 1 = ny + 2 by omega, f4, frzO, frz1, frz1.frzL, Node.cs]
      have e2 : σ5 2 = .box b'.1.cs := by simp [hσ5, hσ4, oput, show ¬ 2 = ny by omega, show ¬ 2 = ny + 1 by omega, show ¬ ny = 0 by omega, show ¬ ny = 1 by omega, f5, frzO, frz1, frz1.frzL, Node.cs]
      have e3 : σ5 nx = .box n.cs := by simp [hσ5, hσ4, oput, show ¬ nx = ny by omega, show ¬ nx = ny + 1 by omega, show ¬ nx = ny + 2 by omega, f6, frzO, frz1, frz1.frzL, Node.cs]
      have e4 : σ5 a = .arr 10 (nodesT acc) := by simp [hσ5, hσ4, oput, show ¬ a = ny by omega, show ¬ a = ny + 1 by omega, show ¬ a = ny + 2 by omega, f7, frzO]
      have e5 : σ5 ny = .box t.cs := by simp [hσ5, hσ4, oput, frzO, frz1, frz1.frzL, State.cs]
      refine K_less ((Imp.freeze (q := ny + 2) (sz := 1) (es := ints c.path) (by simp [oput, hci])).trans (Imp.slots (l := [(1, .t (.sl X)), (2, .i up), (3, .ptr 0 0), (7, .ptr 1 0), (9, .ref a), (10, .ptr 2 0), (11, .b b'.2), (12, .i k), (13, .ptr nx 0), (17, .t (.sl Y)), (18, .i i), (19, .ptr ny 0), (20, .i d), (22, .t (.sl (ints c.path)))]) (by simp [go_sem, frz1, frz1.frzL, show ¬ a = ny + 2 by omega]) (hσ5.trans (by rw [hσ4, hci])) rfl)) ?_
      refine K_drawnF [8, 9] [0, 1, 2, 3, 4, 5, 6, 7] rfl (by rw [hB]; kernel_rfl) (by kernel_rfl) fun ht hf' => ?_
      refine K_run hB 100 ?_
      simp [go_sem, ht, hf', e3, e5, Node.cs, State.cs]
      refine K_dCallP rfl rfl rfl (args := [.fsl (ints [n.cost, d])]) (f := 84) (by simp [go_sem, ints]) (Pure.loose hsum (by simp [bnd])) ?_
      have hcs : c.s = t := by rw [hch]
      have hcc : c.cost = sumI [n.cost, d] := by rw [hch]
      have hlen : (nodesT acc).length + 1 ≤ mostLen := by rw [nodesT, List.length_map]; omega
      refine K_run hB 100 ?_
      simp [go_sem, ht, hf', e0, e3, e5, Inst.cs, Node.cs, State.cs, show ¬ 0 = ny + 1 + 1 + 1 by omega, show ¬ nx = ny + 1 + 1 + 1 by omega, show ¬ ny = ny + 1 + 1 + 1 by omega]
      refine K_call rfl rfl rfl (args := [x.a, c.a]) (f := 49) (by simp [go_sem, Inst.a, Node.a, Node.cs, hcs, hcc]) (by simp [go_sem, hB]) ((hof).spec _ _) ?_
      have v0 : ∀ j, j ≤ 2 → ¬ j = ny + 3 ∧ ¬ j = a ∧ ¬ j = ny + 4 := by intros; omega
      have w0 := v0 0 (by omega)
      have w1 := v0 1 (by omega)
      have w2 := v0 2 (by omega)
      have w3 : ¬ nx = ny + 3 := by omega
      have w4 : ¬ a = ny + 3 := by omega
      have w5 : ¬ nx = a := fun e => fb e.symm
      have w6 : ¬ nx = ny + 4 := by omega
      by_cases hlt : x.of c < up
      · rw [if_pos (by simpa using hlt), List.map_drop] at f2
        refine K_run hB 100 ?_
        simp [go_sem, hlt, e4, hlen, w4]
        refine Next.mk (i + 1, acc ++ [c], ny + 4, _, ny + 5) ?_ (Imp.slots (by simp [go_sem, hii]) rfl rfl) (by simp only; omega)
        refine ⟨by simp only; omega, ⟨by rw [List.append_assoc]; exact f2, by simp only [List.length_append, List.length_cons, List.length_nil]; omega⟩, ?_, ?_, ?_, ?_, ?_, by simp only; omega, by simp only; omega, by simp only; omega, by simp only; omega⟩
        · simp [oput, e0, w0, Inst.cs]
        · simp [oput, e1, w1, Node.cs]
        · simp [oput, e2, w2, Node.cs]
        · simp [oput, e3, w3, w5, w6, Node.cs]
        · simp [oput, nodesT, Node.t, hcs, hcc]
      · rw [if_neg (by simpa using hlt), List.map_drop] at f2
        refine K_run hB 100 ?_
        simp [go_sem, hlt]
        refine Next.mk (i + 1, acc, a, _, ny + 4) ?_ (Imp.slots (by simp [go_sem, hii]) rfl rfl) (by simp only; omega)
        refine ⟨by simp only; omega, ⟨f2, by simp only; omega⟩, ?_, ?_, ?_, ?_, ?_, by simp only; omega, by simp only; omega, by simp only; omega, by simp only; omega⟩
        · simp [oput, e0, w0, Inst.cs]
        · simp [oput, e1, w1, Node.cs]
        · simp [oput, e2, w2, Node.cs]
        · simp [oput, e3, w3, Node.cs]
        · simp [oput, e4, w4]
    · have : i = M.length := by omega
      subst this
      rw [List.drop_length, List.map_nil, List.filter_nil, List.append_nil] at f2
      simp [go_sem, hkk]
      refine Next.mk (k + 1, acc, b', a, σ, ny) ?_ (Imp.slots (by simp [go_sem]) rfl rfl) (by simp only; omega)
      refine ⟨by simp only; omega, ⟨by rw [f2, List.append_assoc]; exact g2, by rw [f2]; simp only [List.length_append]; omega⟩, g3, f3, f4, f5, f7, by simp only; omega, by simp only; omega⟩
  · have : k = l.length := by omega
    subst this
    rw [List.drop_length, List.flatMap_nil, List.append_nil] at g2
    rw [List.drop_length, List.foldl_nil] at g3
    subst g3
    rw [← g2] at hR
    have hon := ronce_pure all (by omega)
    rw [hR] at hon
    refine K_run hB 60 ?_
    simp [go_sem]
    obtain ⟨σ5, hσ5⟩ : ∃ σ5 : Nat → AObj, σ5 = fun j => if j = a then AObj.dead else frzO a (nodesT all) (σ j) := ⟨_, rfl⟩
    have f1 : σ5 1 = .box Node.zero.cs := by simp [hσ5, show ¬ 1 = a by omega, h1, frzO, frz1, frz1.frzL, Node.cs]
    have f2 : σ5 2 = .box b.1.cs := by simp [hσ5, show ¬ 2 = a by omega, h2, frzO, frz1, frz1.frzL, Node.cs]
    refine K_less ((Imp.freeze (q := a) (sz := 10) (es := nodesT all) h3).trans (Imp.slots (l := [(7, .ptr 1 0), (9, .t (.sl (nodesT all))), (10, .ptr 2 0), (11, .b b.2)]) (by simp [go_sem, frz1, frz1.frzL]) hσ5 rfl)) ?_
    refine K_drawnF [5] [3] rfl (by rw [hB]; kernel_rfl) (by kernel_rfl) fun ht hf' => ?_
    refine K_run hB 100 ?_
    simp [go_sem, ht, hf']
    refine K_dCallP rfl rfl rfl (args := [.t (.sl (nodesT all))]) (f := 23) (by simp [go_sem]) (hon) ?_
    refine K_run hB 100 ?_
    simp [go_sem, ht, hf', f1, f2, Node.cs]
    rfl
end Go.Proofs.Ytlhmchdfmjfmgaa

/- The law of a level's next one. -/
set_option maxRecDepth 4000
namespace Go.Proofs.Ytlhmchdfmjfmgaa
open Go Go.Proofs.Ytlhmchdfmjfmgaa.R
theorem once1_mem {out : List Node} {n m : Node} (h : m ∈ once1 out n) : m ∈ out ∨ m = n := by
  unfold once1 at h
  split at h
  · rcases List.mem_append.1 h with h | h
    · exact .inl h
    · exact .inr (List.mem_singleton.1 h)
  · split at h
    · exact List.mem_or_eq_of_mem_set h
    · exact .inl h
theorem fold_mem : ∀ (l out : List Node) {m : Node}, m ∈ l.foldl once1 out → m ∈ out ∨ m ∈ l
  | [], out, m, h => .inl h
  | n :: l, out, m, h => by
    rcases fold_mem l (once1 out n) h with h | h
    · rcases once1_mem h with h | rfl
      · exact .inl h
      · exact .inr List.mem_cons_self
    · exact .inr (List.mem_cons_of_mem _ h)
theorem onceL_mem {l : List Node} {m : Node} (h : m ∈ onceL l) : m ∈ l := (fold_mem l [] h).resolve_left (by simp)
theorem fold_len : ∀ (l out : List Node), (l.foldl once1 out).length ≤ out.length + l.length
  | [], out => Nat.le_refl _
  | n :: l, out => by
    have h1 := fold_len l (once1 out n)
    have h2 := once1_len out n
    simp only [List.foldl_cons, List.length_cons]
    omega
theorem onceL_len (l : List Node) : (onceL l).length ≤ l.length := by
  have := fold_len l []
  simpa [onceL] using this
theorem flat_len {α β : Type} (f : α → List β) (k : Nat) (h : ∀ a, (f a).length ≤ k) : ∀ l : List α, (l.flatMap f).length ≤ k * l.length
  | [] => by simp
  | a :: l => by
    have h1 := h a
    have h2 := flat_len f k h l
    rw [List.flatMap_cons, List.length_append, List.length_cons, Nat.mul_add]
    omega
theorem next_len (x : Inst) (l : List Node) (up : Int) : (x.next l up).length ≤ 33 * l.length :=
  Nat.le_trans (onceL_len _) (flat_len _ 33 (kids_33 x up) l)
theorem next_mem {x : Inst} {l : List Node} {up : Int} {m : Node} (h : m ∈ x.next l up) : ∃ n ∈ l, ∃ j ∈ x.moves n.s, m = x.child n j ∧ x.of m < up := by
  obtain ⟨n, hn, hc⟩ := List.mem_flatMap.1 (onceL_mem h)
  obtain ⟨hc, hu⟩ := List.mem_filter.1 hc
  obtain ⟨j, hj, rfl⟩ := List.mem_map.1 hc
  exact ⟨n, hn, j, hj, rfl, by simpa using hu⟩
theorem best_path (x : Inst) (k : Nat) : ∀ (l : List Node) (b : Node × Bool), (∀ n ∈ l, n.path.length ≤ k) → b.1.path.length ≤ k → (l.foldl x.best1 b).1.path.length ≤ k
  | [], b, h, hb => hb
  | n :: l, b, h, hb => by
    refine best_path x k l _ (fun m hm => h m (List.mem_cons_of_mem _ hm)) ?_
    unfold Inst.best1
    split
    · exact h n List.mem_cons_self
    · exact hb
theorem bests_path {x : Inst} {k : Nat} {l : List Node} (h : ∀ n ∈ l, n.path.length ≤ k) : (x.bests l).1.path.length ≤ k := best_path x k l _ h (Nat.zero_le _)
theorem small_next : (small.next [⟨small.rootS, 0, []⟩] 1152921504606846976).map (fun n => (n.s.spot, n.cost, n.path)) = [(1, 3, [1])] ∧ (small.bests [⟨small.rootS, 0, []⟩]).2 = false := by decide +kernel
theorem small_next1 : ∃ s, small.next [⟨small.rootS, 0, []⟩] 1152921504606846976 = [⟨s, 3, [1]⟩] ∧ s.spot = 1 := by
  have h := small_next.1
  generalize small.next [⟨small.rootS, 0, []⟩] 1152921504606846976 = L at *
  rcases L with _ | ⟨⟨s, c, p⟩, _ | ⟨n, L⟩⟩
  · simp at h
  · simp only [List.map_cons, List.map_nil, List.cons.injEq, Prod.mk.injEq, and_true] at h
    obtain ⟨h1, rfl, rfl⟩ := h
    exact ⟨s, rfl, h1⟩
  · simp at h
theorem awake14_pure : Pure P 17 [] (.b true) := by
  refine pure_of Try.func17 rfl rfl (by simp [Try.f17]) (by simp [bnd, bnd.bndL]) (by simp [bnd, bnd.bndL]) fun B hB hnx => ?_
  simp only [Try.f17] at hB ⊢
  refine K_run hB 100 ?_
  simp [go_sem]
  refine K_call rfl rfl rfl (args := []) (f := 36) (by simp [go_sem]) (by simp [go_sem, hB]) ((small_pure).spec _ _) ?_
  have hp := parse_pure smallB (by decide) (by decide)
  rw [small_parse] at hp
  refine K_run hB 100 ?_
  simp [go_sem, small_bytes]
  refine K_call rfl rfl rfl (args := [.t (.sl (byt smallB))]) (f := 35) (by simp [go_sem]) (by simp [go_sem, hB]) ((hp).spec _ _) ?_
  have hl : small.stops.length < 2 ^ 31 := by decide
  have hr := root_pureS small (by omega)
  have hx := expand_pure small [⟨small.rootS, 0, []⟩] 1152921504606846976 hl (by decide) (by simp only [List.mem_singleton, forall_eq]; exact ⟨rootS_ok small, by simp⟩) (by simp)
  obtain ⟨s, hs, hs1⟩ := small_next1
  rw [hs] at hx
  have hb := small_next.2
  generalize small.bests [⟨small.rootS, 0, []⟩] = Rb at *
  generalize small.rootS = r at *
  generalize small = x at *
  refine K_run hB 100 ?_
  simp [go_sem, Inst.a]
  refine K_drawnF [10, 12] [0, 1, 2, 3, 4, 5, 6, 7, 8, 9] rfl (by rw [hB]; kernel_rfl) (by kernel_rfl) fun ht hf' => ?_
  refine K_run hB 100 ?_
  simp [go_sem, ht, hf']
  refine K_dCallP rfl rfl rfl (args := [x.a]) (f := 38) (by simp [go_sem, Inst.a]) (hr) ?_
  refine K_run hB 100 ?_
  simp [go_sem, ht, hf', State.a, State.cs]
  obtain ⟨b, is⟩ := Rb
  simp only at hb
  subst hb
  refine K_dCallP rfl rfl rfl (args := [x.a, .fsl (nodesT [⟨r, 0, []⟩]), .i 1152921504606846976]) (f := 44) (by simp [go_sem, Inst.a, nodesT, Node.t, ints]) (Pure.loose hx (by simp [bnd, bnd.bndL, expRes, Node.a, Node.cs, Inst.a])) ?_
  refine K_run hB 100 ?_
  simp [go_sem, ht, hf', expRes, Node.a, Node.cs, nodesT, Node.t, hs1, ints]
end Go.Proofs.Ytlhmchdfmjfmgaa

/- Once of each state: the plain laws. -/
set_option maxRecDepth 4000
namespace Go.Proofs.Ytlhmchdfmjfmgaa
open Go Go.Proofs.Ytlhmchdfmjfmgaa.R
theorem fold_nodup : ∀ (l out : List Node), (out.map Node.s).Nodup → ((l.foldl once1 out).map Node.s).Nodup
  | [], _, h => h
  | n :: l, out, h => fold_nodup l _ (once1_nodup h n)
theorem onceL_nodup (l : List Node) : ((onceL l).map Node.s).Nodup := fold_nodup l [] (by simp)
theorem once1_self (out : List Node) (n : Node) : ∃ m ∈ once1 out n, m.s = n.s ∧ m.cost ≤ n.cost := by
  unfold once1
  split
  · exact ⟨n, by simp, rfl, Int.le_refl _⟩
  · rename_i i e
    obtain ⟨h1, h2⟩ := sIdx_some e
    have hgd : out.getD i n = out[i] := by rw [List.getD_eq_getElem?_getD, List.getElem?_eq_getElem h1]; rfl
    rw [hgd]
    split
    · exact ⟨n, List.mem_set h1 n, rfl, Int.le_refl _⟩
    · exact ⟨out[i], List.getElem_mem h1, h2, by omega⟩
theorem once1_has (out : List Node) (n k : Node) (h : ∃ m ∈ out, m.s = k.s ∧ m.cost ≤ k.cost) : ∃ m ∈ once1 out n, m.s = k.s ∧ m.cost ≤ k.cost := by
  obtain ⟨m, hm, h1, h2⟩ := h
  unfold once1
  split
  · exact ⟨m, List.mem_append_left _ hm, h1, h2⟩
  · rename_i i e
    obtain ⟨h3, h4⟩ := sIdx_some e
    have hgd : out.getD i n = out[i] := by rw [List.getD_eq_getElem?_getD, List.getElem?_eq_getElem h3]; rfl
    rw [hgd]
    split
    · rename_i hc
      obtain ⟨j, hj, rfl⟩ := List.mem_iff_getElem.1 hm
      by_cases e2 : i = j
      · subst e2
        exact ⟨n, List.mem_set h3 n, by rw [← h4, h1], by omega⟩
      · refine ⟨out[j], ?_, h1, h2⟩
        rw [List.mem_iff_getElem]
        exact ⟨j, by simpa using hj, by rw [List.getElem_set_ne e2]⟩
    · exact ⟨m, hm, h1, h2⟩
theorem fold_has : ∀ (l out : List Node) (k : Node), (k ∈ l ∨ ∃ m ∈ out, m.s = k.s ∧ m.cost ≤ k.cost) → ∃ m ∈ l.foldl once1 out, m.s = k.s ∧ m.cost ≤ k.cost
  | [], out, k, h => h.resolve_left (by simp)
  | n :: l, out, k, h => by
    refine fold_has l (once1 out n) k ?_
    rcases h with h | h
    · rcases List.mem_cons.1 h with rfl | h
      · exact .inr (once1_self out k)
      · exact .inl h
    · exact .inr (once1_has out n k h)
theorem onceL_has {l : List Node} {k : Node} (h : k ∈ l) : ∃ m ∈ onceL l, m.s = k.s ∧ m.cost ≤ k.cost := fold_has l [] k (.inl h)
theorem nodup_len {α : Type} [DecidableEq α] : ∀ (l m : List α), l.Nodup → (∀ a ∈ l, a ∈ m) → l.length ≤ m.length
  | [], m, _, _ => Nat.zero_le _
  | a :: l, m, h, hs => by
    rw [List.nodup_cons] at h
    have ha := hs a List.mem_cons_self
    have := nodup_len l (m.erase a) h.2 fun b hb => by
      have : b ≠ a := fun e => h.1 (e ▸ hb)
      exact (List.mem_erase_of_ne this).2 (hs b (List.mem_cons_of_mem _ hb))
    rw [List.length_erase_of_mem ha] at this
    have := List.length_pos_of_mem ha
    rw [List.length_cons]
    omega
theorem onceL_less {a b : List Node} (h : ∀ n ∈ b, n ∈ a) : (onceL b).length ≤ (onceL a).length := by
  have e1 : ((onceL b).map Node.s).length = (onceL b).length := List.length_map _
  have e2 : ((onceL a).map Node.s).length = (onceL a).length := List.length_map _
  rw [← e1, ← e2]
  refine nodup_len _ _ (onceL_nodup b) fun s hs => ?_
  obtain ⟨m, hm, rfl⟩ := List.mem_map.1 hs
  obtain ⟨k, hk, h1, _⟩ := onceL_has (h m (onceL_mem hm))
  exact List.mem_map.2 ⟨k, hk, h1⟩
theorem next_less (x : Inst) (l : List Node) {a b : Int} (h : b ≤ a) : (x.next l b).length ≤ (x.next l a).length := by
  refine onceL_less fun n hn => ?_
  obtain ⟨m, hm, hc⟩ := List.mem_flatMap.1 hn
  refine List.mem_flatMap.2 ⟨m, hm, ?_⟩
  obtain ⟨hc, hu⟩ := List.mem_filter.1 hc
  refine List.mem_filter.2 ⟨hc, ?_⟩
  simp only [decide_eq_true_eq] at hu ⊢
  omega
theorem of_pos (x : Inst) (n : Node) : 0 ≤ x.of n := (foldl_in [n.cost, x.low n.s] (by omega)).1
theorem next_zero (x : Inst) (l : List Node) {a : Int} (h : a ≤ 0) : x.next l a = [] := by
  have : l.flatMap (x.kids a) = [] := by
    rw [List.flatMap_eq_nil_iff]
    intro n _
    rw [Inst.kids, List.filter_eq_nil_iff]
    intro c _
    have := of_pos x c
    simp only [decide_eq_true_eq]
    omega
  rw [Inst.next, this]; rfl
end Go.Proofs.Ytlhmchdfmjfmgaa

/- Nodes that no other one leaves without use: the plain laws. -/
set_option maxRecDepth 4000
namespace Go.Proofs.Ytlhmchdfmjfmgaa
open Go Go.Proofs.Ytlhmchdfmjfmgaa.R
theorem within_refl (s : Nat) : withinB s s = true := by
  rw [withinB, List.all_eq_true]
  intro i _
  cases s.testBit i <;> rfl
theorem within_trans {s t u : Nat} (h1 : withinB s t = true) (h2 : withinB t u = true) : withinB s u = true := by
  rw [withinB, List.all_eq_true] at *
  intro i hi
  have a := h1 i hi
  have b := h2 i hi
  revert a b
  cases s.testBit i <;> cases t.testBit i <;> cases u.testBit i <;> simp
def Node.than (a b : Node) : Bool := decide (a.cost ≤ b.cost) && (decide (a.s.must = b.s.must) && decide (a.s.can = b.s.can) && decide (a.s.on = b.s.on)) && coversB a.s b.s
theorem covers_refl (s : State) : coversB s s = true := by
  simp [coversB, within_refl]
theorem covers_trans {a b c : State} (h1 : coversB a b = true) (h2 : coversB b c = true) : coversB a c = true := by
  simp only [coversB, Bool.and_eq_true, decide_eq_true_eq] at *
  obtain ⟨⟨⟨⟨⟨⟨⟨a1, a2⟩, a3⟩, a4⟩, a5⟩, a6⟩, a7⟩, a8⟩ := h1
  obtain ⟨⟨⟨⟨⟨⟨⟨b1, b2⟩, b3⟩, b4⟩, b5⟩, b6⟩, b7⟩, b8⟩ := h2
  exact ⟨⟨⟨⟨⟨⟨⟨a1.trans b1, within_trans a2 b2⟩, within_trans a3 b3⟩, within_trans b4 a4⟩, by omega⟩, by omega⟩, by omega⟩, by omega⟩
theorem than_refl (a : Node) : a.than a = true := by simp [Node.than, covers_refl]
theorem than_trans {a b c : Node} (h1 : a.than b = true) (h2 : b.than c = true) : a.than c = true := by
  simp only [Node.than, Bool.and_eq_true, decide_eq_true_eq] at *
  obtain ⟨⟨a1, ⟨a2, a3⟩, a4⟩, a5⟩ := h1
  obtain ⟨⟨b1, ⟨b2, b3⟩, b4⟩, b5⟩ := h2
  exact ⟨⟨by omega, ⟨by omega, by omega⟩, by omega⟩, covers_trans a5 b5⟩
def front1 (out : List Node) (b : Node) : List Node := if out.any (fun a => a.than b) = true then out else (out.filter fun a => !b.than a) ++ [b]
def frontL (l : List Node) : List Node := l.foldl front1 []
def blk (pre : List Node) (b : Node) (post : List Node) : Bool := pre.any (fun a => a.than b) || post.any fun c => c.than b && !b.than c
def frR (pre : List Node) : List Node → List Node → List Node
  | [], _ => []
  | b :: l, post => (if blk pre b (l ++ post) = true then [] else [b]) ++ frR (pre ++ [b]) l post
theorem frR_post (c : Node) : ∀ (l pre : List Node), frR pre l [c] = (frR pre l []).filter fun b => !(c.than b && !b.than c)
  | [], pre => rfl
  | b :: l, pre => by
    rw [frR, frR, List.filter_append, frR_post c l]
    congr 1
    have : blk pre b (l ++ [c]) = (blk pre b (l ++ []) || (c.than b && !b.than c)) := by
      simp [blk, Bool.or_assoc]
    rw [this]
    generalize hq : (c.than b && !b.than c) = q
    cases blk pre b (l ++ []) <;> cases q <;> simp only [Bool.or_true, Bool.or_false, Bool.false_eq_true, if_true, if_false, List.filter_cons, List.filter_nil, hq, Bool.not_true, Bool.not_false]
theorem frR_app (c : Node) : ∀ (l pre : List Node), frR pre (l ++ [c]) [] = frR pre l [c] ++ (if (pre ++ l).any (fun a => a.than c) = true then [] else [c])
  | [], pre => by simp [frR, blk]
  | b :: l, pre => by
    rw [List.cons_append, frR, frR, frR_app c l, List.append_nil, List.append_assoc, List.append_assoc]
    simp
structure FrInv (pre F : List Node) : Prop where
  up : ∀ a ∈ pre, ∃ f ∈ F, f.than a = true
  sub : ∀ f ∈ F, f ∈ pre
  one : ∀ f ∈ F, ∀ b ∈ F, f.than b = true → f = b
  eq : F = frR [] pre []
theorem FrInv.step {pre F : List Node} (h : FrInv pre F) (c : Node) : FrInv (pre ++ [c]) (front1 F c) := by
  have hany : pre.any (fun a => a.than c) = F.any fun a => a.than c := by
    rw [Bool.eq_iff_iff, List.any_eq_true, List.any_eq_true]
    constructor
    · rintro ⟨a, ha, hc⟩
      obtain ⟨f, hf, hfa⟩ := h.up a ha
      exact ⟨f, hf, than_trans hfa hc⟩
    · rintro ⟨f, hf, hc⟩
      exact ⟨f, h.sub f hf, hc⟩
  have he : frR [] (pre ++ [c]) [] = front1 F c := by
    rw [frR_app, frR_post, ← h.eq, List.nil_append, hany]
    unfold front1
    by_cases hc : F.any (fun a => a.than c) = true
    · rw [if_pos hc, if_pos hc, List.append_nil]
      rw [List.filter_eq_self]
      intro b hb
      rw [List.any_eq_true] at hc
      obtain ⟨f, hf, hfc⟩ := hc
      cases h1 : c.than b with
      | false => rfl
      | true =>
        have := h.one f hf b hb (than_trans hfc h1)
        subst this
        simp [hfc]
    · rw [if_neg hc, if_neg hc]
      congr 1
      refine List.filter_congr fun b hb => ?_
      have : b.than c = false := by
        cases h1 : b.than c with
        | false => rfl
        | true => exact absurd (List.any_eq_true.2 ⟨b, hb, h1⟩) hc
      simp [this]
  refine ⟨?_, ?_, ?_, he.symm⟩
  · intro a ha
    unfold front1
    split
    · rename_i hc
      rcases List.mem_append.1 ha with ha | ha
      · exact h.up a ha
      · rw [List.mem_singleton.1 ha]
        obtain ⟨f, hf, hfc⟩ := List.any_eq_true.1 hc
        exact ⟨f, hf, hfc⟩
    · rcases List.mem_append.1 ha with ha | ha
      · obtain ⟨f, hf, hfa⟩ := h.up a ha
        cases h1 : c.than f with
        | true => exact ⟨c, by simp, than_trans h1 hfa⟩
        | false => exact ⟨f, List.mem_append_left _ (List.mem_filter.2 ⟨hf, by simp [h1]⟩), hfa⟩
      · rw [List.mem_singleton.1 ha]
        exact ⟨c, by simp, than_refl c⟩
  · intro f hf
    unfold front1 at hf
    split at hf
    · exact List.mem_append_left _ (h.sub f hf)
    · rcases List.mem_append.1 hf with hf | hf
      · exact List.mem_append_left _ (h.sub f (List.mem_filter.1 hf).1)
      · exact List.mem_append_right _ hf
  · intro f hf b hb hfb
    unfold front1 at hf hb
    split at hf
    · rename_i hc
      rw [if_pos hc] at hb
      exact h.one f hf b hb hfb
    · rename_i hc
      rw [if_neg hc] at hb
      rcases List.mem_append.1 hf with hf | hf <;> rcases List.mem_append.1 hb with hb | hb
      · exact h.one f (List.mem_filter.1 hf).1 b (List.mem_filter.1 hb).1 hfb
      · rw [List.mem_singleton.1 hb] at hfb
        exact absurd (List.any_eq_true.2 ⟨f, (List.mem_filter.1 hf).1, hfb⟩) hc
      · rw [List.mem_singleton.1 hf] at hfb
        have := (List.mem_filter.1 hb).2
        rw [hfb] at this
        cases this
      · rw [List.mem_singleton.1 hf, List.mem_singleton.1 hb]
theorem FrInv.fold : ∀ {l pre F : List Node}, FrInv pre F → FrInv (pre ++ l) (l.foldl front1 F)
  | [], pre, F, h => by rw [List.append_nil]; exact h
  | c :: l, pre, F, h => by
    have := (h.step c).fold (l := l)
    rw [List.append_assoc] at this
    exact this
theorem front_inv (l : List Node) : FrInv l (frontL l) := by
  have : FrInv [] [] := ⟨by simp, by simp, by simp, rfl⟩
  exact this.fold (l := l)
theorem front_eq (l : List Node) : frontL l = frR [] l [] := (front_inv l).eq
end Go.Proofs.Ytlhmchdfmjfmgaa

/- Nodes that leave others without use. -/
set_option maxRecDepth 4000
namespace Go.Proofs.Ytlhmchdfmjfmgaa
open Go Go.Proofs.Ytlhmchdfmjfmgaa.R
theorem sets_pure (s : State) : Pure P 156 [s.a] (.agg [.u s.must, .u s.can, .u s.on]) := by
  refine pure_of Try.func156 rfl rfl (by simp [Try.f156]) (by simp [bnd, bnd.bndL, State.a, State.cs]) (by simp [bnd, bnd.bndL]) fun B hB hnx => ?_
  simp only [Try.f156] at hB ⊢
  refine K_run hB 100 ?_
  simp [go_sem, State.a, State.cs]
theorem sets_guard : P.eqGuardType P.depth 209 = false := by kernel_rfl
theorem than_pure (a b : Node) : Pure P 127 [a.a, b.a] (.b (a.than b)) := by
  generalize hR : a.than b = R
  refine pure_of Try.func127 rfl rfl (by simp [Try.f127]) (by simp [bnd, bnd.bndL, Node.a, Node.cs]) (by simp [bnd, bnd.bndL]) fun B hB hnx => ?_
  simp only [Try.f127] at hB ⊢
  have hs1 := sets_pure a.s
  have hs2 := sets_pure b.s
  have hc := covers_pure a.s b.s
  rw [Node.than] at hR
  refine K_run hB 100 ?_
  simp [go_sem, Node.a, Node.cs]
  refine K_drawn [] rfl (by rw [hB]; kernel_rfl) ?_
  by_cases c1 : a.cost ≤ b.cost
  · rw [decide_eq_true c1, Bool.true_and] at hR
    refine K_run hB 100 ?_
    simp [go_sem, c1]
    refine K_dCallP rfl rfl rfl (args := [a.s.a]) (f := 156) (by simp [go_sem, State.a, State.cs]) (hs1) ?_
    refine K_run hB 100 ?_
    simp [go_sem]
    refine K_dCallP rfl rfl rfl (args := [b.s.a]) (f := 156) (by simp [go_sem, State.a, State.cs]) (hs2) ?_
    refine K_run hB 100 ?_
    simp [go_sem]
    refine K_dEq3 (x := .tmp 13) (y := .tmp 16) (a := a.s.must) (b := a.s.can) (c := a.s.on) (a' := b.s.must) (b' := b.s.can) (c' := b.s.on) rfl rfl (by simp [go_sem]) (by simp [go_sem]) sets_guard (e := 37) (by kernel_rfl) (Option.some_get (show (P.info? 37).isSome = true by kernel_rfl)).symm (by kernel_rfl) (by kernel_rfl) (by kernel_rfl) ?_
    have he : (((a.s.must : Int) == (b.s.must : Int)) && (((a.s.can : Int) == (b.s.can : Int)) && ((a.s.on : Int) == (b.s.on : Int)))) = (decide (a.s.must = b.s.must) && decide (a.s.can = b.s.can) && decide (a.s.on = b.s.on)) := by
      rw [Bool.eq_iff_iff]
      simp only [Bool.and_eq_true, beq_iff_eq, decide_eq_true_eq, and_assoc]
      omega
    rw [he]
    cases c2 : (decide (a.s.must = b.s.must) && decide (a.s.can = b.s.can) && decide (a.s.on = b.s.on)) with
    | false =>
      rw [c2, Bool.false_and] at hR
      subst hR
      refine K_run hB 100 ?_
      simp [go_sem]
    | true =>
      rw [c2, Bool.true_and] at hR
      rw [hR] at hc
      refine K_run hB 100 ?_
      simp [go_sem]
      refine K_dCallP rfl rfl rfl (args := [a.s.a, b.s.a]) (f := 109) (by simp [go_sem, State.a, State.cs]) (hc) ?_
      refine K_run hB 100 ?_
      simp [go_sem]
  · rw [decide_eq_false c1, Bool.false_and] at hR
    subst hR
    refine K_run hB 100 ?_
    simp [go_sem, c1]
/-- What a closure over a node tells. -/
theorem front1_spec (a b : Node) {σ : Nat → AObj} {nx q : Nat} (hq : q < nx) (hb : σ q = .box b.cs) : CallSpec P 126 [a.a, .ptr q 0] σ nx (.b (a.than b)) σ nx := by
  have hth := than_pure a b
  have e : σ = oput σ q (σ q) := by funext i; by_cases h : i = q <;> simp [oput, h]
  have h : CallSpec P 126 [a.a, .ptr q 0] σ nx (.b (a.than b)) (oput σ q (σ q)) nx := by
    refine spec_down Try.func126 rfl rfl (by simp [Try.f126]) hq (by rw [hb]; simp [bndO, bnd, bnd.bndL, Node.cs]) (by simp [bnd]) fun hk B hB hnx hσ => ?_
    simp only [Try.f126] at hB ⊢
    have hne : ¬ q = nx := by omega
    refine K_run hB 100 ?_
    simp [go_sem, Node.a, Node.cs, hb, hne]
    refine K_call rfl rfl rfl (args := [a.a, b.a]) (f := 127) (by simp [go_sem, Node.a, Node.cs]) (by simp [go_sem, hB]) ((hth).spec _ _) ?_
    refine K_run hB 100 ?_
    simp [go_sem]
    exact ⟨by simp [hne, hb, Node.cs], fun i h1 h2 h3 => by omega⟩
  rw [← e] at h
  exact h
/-- The other one. -/
theorem front2_spec (a b : Node) {σ : Nat → AObj} {nx q : Nat} (hq : q < nx) (hb : σ q = .box b.cs) : CallSpec P 129 [a.a, .ptr q 0] σ nx (.b (b.than a)) σ nx := by
  have hth := than_pure b a
  have e : σ = oput σ q (σ q) := by funext i; by_cases h : i = q <;> simp [oput, h]
  have h : CallSpec P 129 [a.a, .ptr q 0] σ nx (.b (b.than a)) (oput σ q (σ q)) nx := by
    refine spec_down Try.func129 rfl rfl (by simp [Try.f129]) hq (by rw [hb]; simp [bndO, bnd, bnd.bndL, Node.cs]) (by simp [bnd]) fun hk B hB hnx hσ => ?_
    simp only [Try.f129] at hB ⊢
    have hne : ¬ q = nx := by omega
    refine K_run hB 100 ?_
    simp [go_sem, Node.a, Node.cs, hb, hne]
    refine K_call rfl rfl rfl (args := [b.a, a.a]) (f := 127) (by simp [go_sem, Node.a, Node.cs]) (by simp [go_sem, hB]) ((hth).spec _ _) ?_
    refine K_run hB 100 ?_
    simp [go_sem]
    exact ⟨by simp [hne, hb, Node.cs], fun i h1 h2 h3 => by omega⟩
  rw [← e] at h
  exact h
def idxF (p : Node → Bool) : Nat → List Node → Int
  | _, [] => -1
  | i, n :: l => if p n = true then (i : Int) else idxF p (i + 1) l
theorem idxF_any (p : Node → Bool) : ∀ (i : Nat) (l : List Node), (0 ≤ idxF p i l) ↔ l.any p = true
  | _, [] => by simp [idxF]
  | i, n :: l => by
    rw [idxF, List.any_cons]
    cases h : p n with
    | true => simp
    | false => simp [idxF_any p (i + 1) l]
theorem indexF_spec (F : List Node) (p : Node → Bool) {σ : Nat → AObj} {nx r q : Nat} {f : FuncId} (hr : σ r = .arr 10 (nodesT F)) (hF : F.length < 2 ^ 31) (hf : ∀ n, CallSpec P f [n.a, .ptr q 0] σ nx (.b (p n)) σ nx) :
    CallSpec P 155 [.ref r, .fn (.func f) [] [.ptr q 0]] σ nx (.i (idxF p 0 F)) σ nx := by
  generalize hR : idxF p 0 F = R
  refine CallQ.spec (spec_of Try.func155 rfl rfl (by simp [Try.f155]) fun B hB hnx hσ => ?_)
  simp only [Try.f155] at hB ⊢
  have hil : (nodesT F).length = F.length := List.length_map _
  have hgt : ∀ (k : Nat) (h : k < F.length), (nodesT F)[k]'(by rw [hil]; exact h) = F[k].t := fun k h => nodesT_get F h
  refine K_run hB 100 ?_
  simp [go_sem, hr, hil]
  refine K_loopP (α := Nat) (fun k => k ≤ F.length ∧ idxF p k (F.drop k) = R) (fun k => ⟨sl [(1, .fn (.func f) [] [.ptr q 0]), (0, .ref r), (7, .i F.length), (8, .i k)], σ, nx⟩) (fun k => F.length - k) 0 ⟨Nat.zero_le _, hR⟩ (Imp.slots (by simp [go_sem]) rfl rfl) ?_
  rintro k ⟨g1, g2⟩
  refine K_run hB 60 ?_
  simp [go_sem]
  refine fork_dec (fun hk => ?_) (fun hk => ?_)
  · have hkk : IntKind.i64.wrap ((k : Int) + 1) = ((k + 1 : Nat) : Int) := by rw [w64 ((k : Int) + 1) (by omega)]; rfl
    have hget : ∀ h : k < (nodesT F).length, (nodesT F)[k]'h = F[k].t := fun h => hgt k hk
    rw [List.drop_eq_getElem_cons hk, idxF] at g2
    generalize F[k] = n at *
    have hp := hf n
    have q1 : k * 10 / 10 = k := by omega
    have q4 : k * 10 % 10 = 0 := by omega
    simp [go_sem, hr, hil, hk, hget, q1, q4, Node.t]
    refine K_call rfl rfl rfl (args := [n.a, .ptr q 0]) (f := f) (by simp [go_sem, Node.a, Node.cs]) (by simp [go_sem, hB]) hp ?_
    cases h : p n with
    | true =>
      rw [h, if_pos rfl] at g2
      subst g2
      refine K_run hB 100 ?_
      simp [go_sem]
    | false =>
      rw [h, if_neg (by simp)] at g2
      refine K_run hB 100 ?_
      simp [go_sem, hkk]
      exact Next.mk (k + 1) ⟨by omega, g2⟩ (Imp.slots (by simp [go_sem]) rfl rfl) (by omega)
  · have : k = F.length := by omega
    subst this
    rw [List.drop_length, idxF] at g2
    subst g2
    simp [go_sem]
theorem containsF_spec (F : List Node) (p : Node → Bool) {σ : Nat → AObj} {nx r q : Nat} {f : FuncId} (hr : σ r = .arr 10 (nodesT F)) (hF : F.length < 2 ^ 31) (hf : ∀ n, CallSpec P f [n.a, .ptr q 0] σ nx (.b (p n)) σ nx) :
    CallSpec P 125 [.ref r, .fn (.func f) [] [.ptr q 0]] σ nx (.b (F.any p)) σ nx := by
  have hi := indexF_spec F p hr hF hf
  have ha := idxF_any p 0 F
  refine CallQ.spec (spec_of Try.func125 rfl rfl (by simp [Try.f125]) fun B hB hnx hσ => ?_)
  simp only [Try.f125] at hB ⊢
  generalize idxF p 0 F = i at *
  refine K_run hB 100 ?_
  simp [go_sem]
  refine K_call rfl rfl rfl (args := [.ref r, .fn (.func f) [] [.ptr q 0]]) (f := 155) (by simp [go_sem]) (by simp [go_sem, hB]) hi ?_
  refine K_run hB 100 ?_
  simp [go_sem]
  rw [Bool.eq_iff_iff, decide_eq_true_eq]
  exact ha
end Go.Proofs.Ytlhmchdfmjfmgaa

/- Deleting from a row of the call's own. -/
set_option maxRecDepth 4000
namespace Go.Proofs.Ytlhmchdfmjfmgaa
open Go Go.Proofs.Ytlhmchdfmjfmgaa.R
theorem idxF_cases (p : Node → Bool) : ∀ (i : Nat) (l : List Node), (idxF p i l = -1 ∧ l.filter (fun n => !p n) = l) ∨ ∃ k, ∃ h : k < l.length, idxF p i l = ((i + k : Nat) : Int) ∧ p l[k] = true ∧ (l.take k).filter (fun n => !p n) = l.take k
  | i, [] => .inl ⟨rfl, rfl⟩
  | i, n :: l => by
    rw [idxF]
    cases h : p n with
    | true => exact .inr ⟨0, by simp, by simp, by simpa using h, by simp⟩
    | false =>
      simp only [Bool.false_eq_true, if_false]
      rcases idxF_cases p (i + 1) l with ⟨h1, h2⟩ | ⟨k, hk, h1, h2, h3⟩
      · exact .inl ⟨h1, by rw [List.filter_cons, h]; simp [h2]⟩
      · exact .inr ⟨k + 1, by simpa using hk, by rw [h1]; congr 1; omega, by simpa using h2, by rw [List.take_succ_cons, List.filter_cons, h]; simp [h3]⟩
theorem deleteF_spec (F : List Node) (p : Node → Bool) {σ : Nat → AObj} {nx r q : Nat} {f : FuncId} (hr : σ r = .arr 10 (nodesT F)) (hrn : r < nx) (hq : q < nx) (hrq : q ≠ r) (hF : F.length < 2 ^ 31) (hf : ∀ n σ' nx', σ' q = σ q → nx ≤ nx' → CallSpec P f [n.a, .ptr q 0] σ' nx' (.b (p n)) σ' nx') :
    CallQ P 128 [.ref r, .fn (.func f) [] [.ptr q 0]] σ nx fun v σ' nx' => ∃ g, v = .ref g ∧ σ' g = .arr 10 (nodesT (F.filter fun n => !p n)) ∧ nx ≤ nx' ∧ g < nx' ∧ (g = r ∨ nx ≤ g) ∧ ∀ i, i < nx → i ≠ r → σ' i = σ i := by
  have hi := indexF_spec F p (q := q) hr hF fun n => hf n σ nx rfl (Nat.le_refl _)
  have hc := idxF_cases p 0 F
  refine spec_of Try.func128 rfl rfl (by simp [Try.f128]) fun B hB hnx hσ => ?_
  simp only [Try.f128] at hB ⊢
  refine K_run hB 100 ?_
  simp [go_sem]
  refine K_call rfl rfl rfl (args := [.ref r, .fn (.func f) [] [.ptr q 0]]) (f := 155) (by simp [go_sem]) (by simp [go_sem, hB]) hi ?_
  rcases hc with ⟨h1, h2⟩ | ⟨k, hk, h1, h2, h3⟩
  · rw [h1, h2]
    refine K_run hB 100 ?_
    simp [go_sem]
    exact ⟨hr, hrn⟩
  · rw [Nat.zero_add] at h1
    rw [h1]
    have hkk : IntKind.i64.wrap ((k : Int) + 1) = ((k + 1 : Nat) : Int) := by rw [w64 ((k : Int) + 1) (by omega)]; rfl
    have hk1 : ¬ (k : Int) = -1 := by omega
    refine K_run hB 100 ?_
    simp [go_sem, hkk, hk1]
    refine K_loopP (α := Nat × Nat × List Node × (Nat → AObj) × Nat) (fun (j, i, X, σ1, n1) => j ≤ F.length ∧ i < j ∧ X.length = F.length ∧ X.take i = (F.take j).filter (fun n => !p n) ∧ X.drop j = F.drop j ∧ σ1 r = .arr 10 (nodesT X) ∧ nx ≤ n1 ∧ ∀ a, a < nx → a ≠ r → σ1 a = σ a)
      (fun (j, i, X, σ1, n1) => ⟨sl [(0, .ref r), (1, .fn (.func f) [] [.ptr q 0]), (5, .i i), (6, .i j)], σ1, n1⟩) (fun a => F.length - a.1) (k + 1, k, F, σ, nx) ?_ (Imp.slots (by simp [go_sem]) rfl rfl) ?_
    · refine ⟨by omega, by omega, rfl, ?_, rfl, hr, Nat.le_refl _, fun a _ _ => rfl⟩
      rw [List.take_succ_eq_append_getElem hk, List.filter_append, h3]
      simp [h2]
    rintro ⟨j, i, X, σ1, n1⟩ ⟨g1, g2, g3, g4, g5, g6, g7, g8⟩
    have hil : (nodesT X).length = X.length := List.length_map _
    refine K_run hB 60 ?_
    simp [go_sem, g6, hil, g3]
    refine fork_dec (fun hj => ?_) (fun hj => ?_)
    · have hjj : IntKind.i64.wrap ((j : Int) + 1) = ((j + 1 : Nat) : Int) := by rw [w64 ((j : Int) + 1) (by omega)]; rfl
      have hii : IntKind.i64.wrap ((i : Int) + 1) = ((i + 1 : Nat) : Int) := by rw [w64 ((i : Int) + 1) (by omega)]; rfl
      have hjX : j < X.length := by omega
      have hXj : X[j] = F[j] := by
        have e1 := List.drop_eq_getElem_cons hjX
        have e2 := List.drop_eq_getElem_cons hj
        rw [g5, e2] at e1
        exact (List.cons.inj e1).1.symm
      have hget : ∀ h : j < (nodesT X).length, (nodesT X)[j]'h = F[j].t := fun h => by rw [nodesT_get X hjX, hXj]
      have htk := List.take_succ_eq_append_getElem hj
      have hdr : X.drop (j + 1) = F.drop (j + 1) := by
        have e1 := List.drop_eq_getElem_cons hjX
        have e2 := List.drop_eq_getElem_cons hj
        rw [g5, e2] at e1
        exact (List.cons.inj e1).2.symm
      generalize F[j] = m at *
      have q1 : j * 10 / 10 = j := by omega
      have q4 : j * 10 % 10 = 0 := by omega
      have hrn1 : ¬ r = n1 := by omega
      have hqn1 : ¬ q = n1 := by omega
      have hiX : i < X.length := by omega
      have hgi : ∀ h : i < (nodesT X).length, (nodesT X)[i]'h = X[i].t := fun h => nodesT_get X hiX
      have hiF : i < F.length := by omega
      have q5 : i * 10 / 10 = i := by omega
      have q6 : i * 10 % 10 = 0 := by omega
      have hσq : (oput (oput σ1 n1 (.box [.i 0, .i 0, .i 0, .i 0, .i 0, .u 0, .u 0, .u 0, .i 0, .fsl []])) n1 (.box m.cs)) q = σ q := by simp [oput, hqn1, g8 q hq hrq]
      have hfm := hf m _ (n1 + 1) hσq (by omega)
      simp [go_sem, g6, hil, hj, hjX, hget, q1, q4, Node.t, g3]
      refine K_call rfl rfl rfl (args := [m.a, .ptr q 0]) (f := f) (by simp [go_sem, Node.a, Node.cs]) (by simp [go_sem, hB]) (hf m _ _ (by simp [oput, hqn1, g8 q hq hrq]) (by simp only; omega)) ?_
      cases h : p m with
      | true =>
        refine K_run hB 100 ?_
        simp [go_sem, hjj]
        refine Next.mk (j + 1, i, X, _, n1 + 1) ?_ (Imp.slots (by simp [go_sem]) rfl rfl) (by simp only; omega)
        refine ⟨by simp only; omega, by simp only; omega, g3, ?_, hdr, ?_, by simp only; omega, fun a h1 h2 => ?_⟩
        · rw [htk, List.filter_append, g4]; simp [h]
        · simp [oput, hrn1, g6]
        · simp [oput, show ¬ a = n1 by omega, g8 a h1 h2]
      | false =>
        refine K_run hB 100 ?_
        simp [go_sem, hjj, hii, g6, hil, g3, hrn1, hiF, hiX, hgi, q5, q6, Node.t]
        refine Next.mk (j + 1, i + 1, X.set i m, _, n1 + 1) ?_ (Imp.slots (by simp [go_sem]) rfl rfl) (by simp only; omega)
        refine ⟨by simp only; omega, by simp only; omega, by simp only [List.length_set]; exact g3, ?_, ?_, ?_, by simp only; omega, fun a h1 h2 => ?_⟩
        · rw [htk, List.filter_append, ← g4, List.take_succ_eq_append_getElem (by rw [List.length_set]; exact hiX), List.take_set, List.set_eq_of_length_le (by rw [List.length_take]; omega)]
          simp [h]
        · rw [List.drop_set_of_lt (by omega)]; exact hdr
        · simp [oput, nodesT, Node.t, List.map_set]
        · simp [oput, h2, show ¬ a = n1 by omega, g8 a h1 h2]
    · have : j = F.length := by omega
      subst this
      rw [List.take_length] at g4
      have hz0 : ∀ es : List (List T), ∀ z, ((nodesT X).take i ++ List.replicate ((nodesT X).length - i) z).take i = (nodesT X).take i := fun _ z => by rw [List.take_append_of_le_length (by rw [List.length_take]; omega), List.take_take, Nat.min_self]
      simp [go_sem]
      refine K_clear (ik := .i64) (x := .tmp 36) (ix := .tmp 37) (d1 := 38) (q := r) (n := i) (es := nodesT X) (z := [.i 0, .i 0, .i 0, .i 0, .i 0, .v (.int .u64 0), .v (.int .u64 0), .v (.int .u64 0), .i 0, .sl []]) rfl rfl rfl rfl rfl rfl rfl rfl (by simp [go_sem, hB]) rfl tt43 rfl tt52 rfl (by simp [go_sem]) g6 (by simp [go_sem]) (by omega) (by omega) ?_
      refine K_run hB 100 ?_
      simp [go_sem]
      have hlen2 : ((nodesT X).take i ++ List.replicate ((nodesT X).length - i) ([.i 0, .i 0, .i 0, .i 0, .i 0, .v (.int .u64 0), .v (.int .u64 0), .v (.int .u64 0), .i 0, .sl []] : List T)).length = F.length := by rw [List.length_append, List.length_take, List.length_replicate]; omega
      refine K_front (ik := .i64) (x := .tmp 39) (ix := .tmp 40) (q := r) (n := i) (sz := 10) rfl rfl (by simp [go_sem, hB]) tt43 rfl tt52 (by simp [go_sem]) (by simp [oput]; rfl) (by simp [go_sem]) (by rw [hlen2]; omega) (by rw [hlen2]; omega) ?_
      rw [hz0 [] _]
      have hti : (nodesT X).take i = nodesT (X.take i) := by simp [nodesT, List.map_take]
      rw [hti, g4]
      refine K_run hB 100 ?_
      simp [go_sem]
      refine ⟨by omega, by omega, fun a h1 h2 => ?_⟩
      simp [h2, show ¬ a = n1 by omega, g8 a h1 h2]
end Go.Proofs.Ytlhmchdfmjfmgaa

/- Nodes that no other one leaves without use: better.Front. -/
set_option maxRecDepth 4000
namespace Go.Proofs.Ytlhmchdfmjfmgaa
open Go Go.Proofs.Ytlhmchdfmjfmgaa.R
theorem front1_len (out : List Node) (b : Node) : (front1 out b).length ≤ out.length + 1 := by
  unfold front1
  split
  · omega
  · have := List.length_filter_le (fun a => !b.than a) out
    rw [List.length_append, List.length_cons, List.length_nil]
    omega
theorem front_pure (l : List Node) (hl : l.length < 2 ^ 31) (hn : ∀ n ∈ l, n.path.length < 2 ^ 31) : Pure P 91 [.t (.sl (nodesT l))] (.t (.sl (nodesT (frontL l)))) := by
  generalize hR : frontL l = R
  refine pure_of Try.func91 rfl rfl (by simp [Try.f91]) (by simp [bnd, bnd.bndL]) (by simp [bnd, bnd.bndL]) fun B hB hnx => ?_
  simp only [Try.f91] at hB ⊢
  have hil : (nodesT l).length = l.length := List.length_map _
  have hgt : ∀ (k : Nat) (h : k < l.length), (nodesT l)[k]'(by rw [hil]; exact h) = l[k].t := fun k h => nodesT_get l h
  generalize hX : nodesT l = X at *
  have hmost : mostLen = 4294967296 := rfl
  rw [frontL] at hR
  refine K_run hB 100 ?_
  simp [go_sem, hil]
  refine K_own 3 10 (by simp [go_sem]) ?_
  refine K_loopP (α := Nat × List Node × Nat × (Nat → AObj) × Nat) (fun (k, out, a, σ, nx) => k ≤ l.length ∧ (l.drop k).foldl front1 out = R ∧ out.length ≤ k ∧ σ a = .arr 10 (nodesT out) ∧ a < nx)
    (fun (k, out, a, σ, nx) => ⟨sl [(3, .ref a), (6, .t (.sl X)), (7, .i l.length), (8, .i k)], σ, nx⟩) (fun a => l.length - a.1) (0, [], 0, _, 1) ?_ (Imp.slots (by simp [go_sem, hil]) rfl rfl) ?_
  · exact ⟨Nat.zero_le _, hR, Nat.le_refl _, by simp [oput, nodesT], by omega⟩
  rintro ⟨k, out, a, σ, nx⟩ ⟨g1, g2, g3, g4, g5⟩
  refine K_run hB 60 ?_
  simp [go_sem]
  refine fork_dec (fun hk => ?_) (fun hk => ?_)
  · have hkk : IntKind.i64.wrap ((k : Int) + 1) = ((k + 1 : Nat) : Int) := by rw [w64 ((k : Int) + 1) (by omega)]; rfl
    have hget : ∀ h : k < X.length, X[k]'h = l[k].t := fun h => hgt k hk
    rw [List.drop_eq_getElem_cons hk, List.foldl_cons] at g2
    have hpath := hn l[k] (List.getElem_mem _)
    generalize l[k] = m at *
    have hcl := clone_spec m.path (by omega)
    have hfr : front1 out m = if out.any (fun a => a.than m) = true then out else (out.filter fun a => !m.than a) ++ [m] := rfl
    have hfl := front1_len out m
    have ha : ¬ a = nx := by omega
    simp [go_sem, hil, hk, hget, Node.t]
    refine K_call rfl rfl rfl (args := [.ref a, .fn (.func 126) [] [.ptr nx 0]]) (f := 125) (by simp [go_sem]) (by simp [go_sem, hB]) (containsF_spec out (fun c => c.than m) (by simp [oput, ha, g4]) (by omega) fun c => front1_spec c m (by simp only; omega) (by simp [oput, Node.cs])) ?_
    cases hany : out.any (fun c => c.than m) with
    | true =>
      rw [hany, if_pos rfl] at hfr
      rw [hfr] at g2
      refine K_run hB 100 ?_
      simp [go_sem, hkk]
      exact Next.mk (k + 1, out, a, _, nx + 1) ⟨by simp only; omega, g2, by simp only; omega, by simp [oput, ha, g4], by simp only; omega⟩ (Imp.slots (by simp [go_sem]) rfl rfl) (by simp only; omega)
    | false =>
      rw [hany, if_neg (by simp)] at hfr
      rw [hfr] at g2 hfl
      refine K_run hB 100 ?_
      simp [go_sem]
      refine K_callQ rfl rfl rfl (args := [.ref a, .fn (.func 129) [] [.ptr nx 0]]) (f := 128) (by simp [go_sem]) (by simp [go_sem, hB]) (deleteF_spec out (fun c => m.than c) (by simp [oput, ha, g4]) (by simp only; omega) (by simp only; omega) (by omega) (by omega) fun c σ' nx' h1 h2 => front2_spec c m (by simp only at h2; omega) (by rw [h1]; simp [oput, Node.cs])) ?_
      rintro v σ2 n2 ⟨g, rfl, d1, d2, d3, d4, d5⟩
      have e1 : σ2 nx = .box m.cs := by rw [d5 nx (by simp only; omega) (by omega)]; simp [oput, Node.cs]
      simp only at d2 d4
      have hgn : ¬ g = nx := by omega
      generalize (out.filter fun c => !m.than c) = O at *
      refine K_run hB 100 ?_
      simp [go_sem, e1, Node.cs]
      refine K_call rfl rfl rfl (args := [.t (.sl (ints m.path))]) (f := 55) (by simp [go_sem]) (by simp [go_sem, hB]) (hcl _ _) ?_
      obtain ⟨σ5, hσ5⟩ : ∃ σ5 : Nat → AObj, σ5 = fun j => if j = n2 then AObj.dead else frzO n2 (ints m.path) (oput σ2 n2 (.arr 1 (ints m.path)) j) := ⟨_, rfl⟩
      have f1 : σ5 nx = .box m.cs := by simp [hσ5, oput, show ¬ nx = n2 by omega, e1, frzO, frz1, frz1.frzL, Node.cs]
      have f2 : σ5 g = .arr 10 (nodesT O) := by simp [hσ5, oput, show ¬ g = n2 by omega, d1, frzO]
      have hlO : (nodesT O).length = O.length := List.length_map _
      have hcap : O.length + 1 ≤ mostLen := by rw [List.length_append, List.length_cons, List.length_nil] at hfl; omega
      refine K_imp ((Imp.freeze (q := n2) (sz := 1) (es := ints m.path) (by simp [oput])).trans (Imp.slots (l := [(3, .ref g), (5, .ptr nx 0), (6, .t (.sl X)), (7, .i l.length), (8, .i k), (20, .t (.sl (ints m.path)))]) (by simp [go_sem, frz1, frz1.frzL, show ¬ g = n2 by omega]) hσ5 rfl)) ?_
      refine K_run hB 100 ?_
      simp [go_sem, f1, f2, Node.cs, hgn, hlO, hcap, hkk]
      refine Next.mk (k + 1, O ++ [m], n2 + 1, _, n2 + 2) ?_ (Imp.slots (by simp [go_sem]) rfl rfl) (by simp only; omega)
      refine ⟨by simp only; omega, g2, by simp only; omega, ?_, by simp only; omega⟩
      simp [oput, nodesT, Node.t]
  · have : k = l.length := by omega
    subst this
    rw [List.drop_length, List.foldl_nil] at g2
    subst g2
    simp [go_sem, g4]
end Go.Proofs.Ytlhmchdfmjfmgaa

/- Nodes in the order of what they cost at least: level.Sorted. -/
set_option maxRecDepth 4000
set_option maxHeartbeats 1000000
namespace Go.Proofs.Ytlhmchdfmjfmgaa
open Go Go.Proofs.Ytlhmchdfmjfmgaa.R
/-- Nodes in the order of what they cost at least; those that cost the same stay as they stood. -/
def Inst.sortN (x : Inst) (l : List Node) : List Node := isort x.of l
def Inst.keyT (x : Inst) (n : Node) : List T := n.t ++ [.i (x.of n)]
theorem Inst.keyT_at (x : Inst) (n : Node) : κr (x.keyT n) = x.of n := κr_at n (x.of n)
theorem Inst.keys_sort (x : Inst) (l : List Node) : isort κr (l.map x.keyT) = (x.sortN l).map x.keyT := by
  rw [← isort_map (κ := κr) x.keyT l]
  congr 2
theorem Inst.sortN_len (x : Inst) (l : List Node) : (x.sortN l).length = l.length := isort_len l
theorem Inst.sortN_mem {x : Inst} {l : List Node} {n : Node} : n ∈ x.sortN l ↔ n ∈ l := isort_mem
theorem sorted1_spec (x : Inst) (n : Node) (hl : x.stops.length < 2 ^ 31) (ho : n.s.ok) {σ : Nat → AObj} {nx q : Nat} (hq : q < nx) (hb : σ q = .box x.cs) : CallSpec P 48 [n.a, .ptr q 0] σ nx (.i (x.of n)) σ nx := by
  have hth := of_pure x n hl ho
  have e : σ = oput σ q (σ q) := by funext i; by_cases h : i = q <;> simp [oput, h]
  have h : CallSpec P 48 [n.a, .ptr q 0] σ nx (.i (x.of n)) (oput σ q (σ q)) nx := by
    refine spec_down Try.func48 rfl rfl (by simp [Try.f48]) hq (by rw [hb]; simp [bndO, bnd, bnd.bndL, Inst.cs]) (by simp [bnd]) fun hk B hB hnx hσ => ?_
    simp only [Try.f48] at hB ⊢
    have hne : ¬ q = nx := by omega
    refine K_run hB 100 ?_
    simp [go_sem, Node.a, Node.cs, hb, hne, Inst.cs]
    refine K_call rfl rfl rfl (args := [x.a, n.a]) (f := 24) (by simp [go_sem, Inst.a, Node.a, Node.cs]) (by simp [go_sem, hB]) ((hth).spec _ _) ?_
    refine K_run hB 100 ?_
    simp [go_sem]
    exact ⟨by simp [hne, hb, Inst.cs], fun i h1 h2 h3 => by omega⟩
  rw [← e] at h
  exact h
theorem sortedF_spec (x : Inst) (l : List Node) (hx : x.stops.length < 2 ^ 31) (hl : l.length < 2 ^ 31) (ho : ∀ n ∈ l, n.s.ok) {σ : Nat → AObj} {nx q : Nat} (hq : q < nx) (hb : σ q = .box x.cs) :
    CallSpec P 47 [.t (.sl (nodesT l)), .fn (.func 48) [] [.ptr q 0]] σ nx (.t (.sl (nodesT (x.sortN l)))) (oput σ q (.box x.cs)) nx := by
  refine spec_down Try.func47 rfl rfl (by simp [Try.f47]) hq (by simp [bndO, bnd, bnd.bndL, Inst.cs]) (by simp [bnd, bnd.bndL]) fun hk0 B hB hnx hσ => ?_
  simp only [Try.f47] at hB ⊢
  refine K_after ?_
  generalize hpost : (fun (e : Exit) (s : St) => ∃ t, Imp B s t ∧ _) = post
  have hil : (nodesT l).length = l.length := List.length_map _
  have hgt : ∀ (k : Nat) (h : k < l.length), (nodesT l)[k]'(by rw [hil]; exact h) = l[k].t := fun k h => nodesT_get l h
  generalize hX : nodesT l = X at *
  have hmost : mostLen = 4294967296 := rfl
  obtain ⟨K, hK⟩ : ∃ K, K = l.map x.keyT := ⟨_, rfl⟩
  have hKl : K.length = l.length := by rw [hK, List.length_map]
  refine K_run hB 100 ?_
  simp [go_sem, hil]
  refine K_own 5 11 (by simp [go_sem]) ?_
  refine K_loopP (α := Nat × Nat × (Nat → AObj) × Nat) (fun (k, a, σ', ny) => k ≤ l.length ∧ σ' a = .arr 11 (K.take k) ∧ nx ≤ a ∧ a < ny ∧ σ' q = .box x.cs ∧ ∀ i, i < nx → i ≠ q → σ' i = σ i)
    (fun (k, a, σ', ny) => ⟨sl [(1, .fn (.func 48) [] [.ptr q 0]), (5, .ref a), (11, .t (.sl X)), (12, .i l.length), (13, .i k)], σ', ny⟩) (fun a => l.length - a.1) (0, nx, _, nx + 1) ?_ (Imp.slots (by simp [go_sem, hil]) rfl rfl) ?_
  · exact ⟨Nat.zero_le _, by simp [oput], Nat.le_refl _, by omega, by simp [oput, show ¬ q = nx by omega, hb], fun i h1 h2 => by simp [oput, show ¬ i = nx by omega]⟩
  rintro ⟨k, a, σ', ny⟩ ⟨g1, g2, g3, g4, g5, g6⟩
  refine K_run hB 60 ?_
  simp [go_sem]
  refine fork_dec (fun hk => ?_) (fun hk => ?_)
  · have hkk : IntKind.i64.wrap ((k : Int) + 1) = ((k + 1 : Nat) : Int) := by rw [w64 ((k : Int) + 1) (by omega)]; rfl
    have hget : ∀ h : k < X.length, X[k]'h = l[k].t := fun h => hgt k hk
    have hmem := ho l[k] (List.getElem_mem _)
    have htk : K.take (k + 1) = K.take k ++ [x.keyT l[k]] := by rw [List.take_add_one, List.getElem?_eq_getElem (by omega)]; simp [hK]
    have hkl : (K.take k).length = k := by rw [List.length_take]; omega
    generalize K.take k = Kk at *
    generalize l[k] = n at *
    have ha : ¬ a = ny := by omega
    have hqn : ¬ q = ny := by omega
    have hs1 := fun σ'' (h : σ'' q = .box x.cs) => sorted1_spec x n hx hmem (σ := σ'') (nx := ny + 1) (q := q) (by omega) h
    have hcap : k + 1 ≤ mostLen := by omega
    simp [go_sem, hil, hk, hget, Node.t]
    refine K_drawnF [4, 7] [0, 1] rfl (by rw [hB]; kernel_rfl) (by kernel_rfl) fun ht hf' => ?_
    refine K_run hB 4 ?_
    simp [go_sem, ht, hf', Node.cs]
    refine K_dCall rfl rfl rfl (args := [n.a, .ptr q 0]) (f := 48) (by simp [go_sem, Node.a, Node.cs]) (hs1 _ (by simp [oput, hqn, g5])) (by decide) (okPends_does (by simp [go_sem, Node.cs])) ?_
    refine K_run hB 100 ?_
    simp [go_sem, ht, hf', g2, ha, hkl, hcap, hkk, show ¬ ny = a by omega]
    refine Next.mk (k + 1, ny + 1, _, ny + 2) ?_ (Imp.slots (by simp [go_sem]) rfl rfl) (by simp only; omega)
    exact ⟨by simp only; omega, by simp [oput, htk, Inst.keyT, Node.t], by simp only; omega, by simp only; omega, by simp [oput, hqn, g5, show ¬ q = a by omega, show ¬ q = ny + 1 by omega], fun i h1 h2 => by simp [oput, show ¬ i = ny by omega, show ¬ i = a by omega, show ¬ i = ny + 1 by omega, g6 i h1 h2]⟩
  · have : k = l.length := by omega
    subst this
    rw [← hKl, List.take_length, hK] at g2
    have hS := sortStable_spec (l.map x.keyT) (fun e he => by
      obtain ⟨n, _, rfl⟩ := List.mem_map.1 he
      exact ⟨n, x.of n, rfl⟩) (by rw [List.length_map]; exact hl) (nx := ny) g4 g2
    rw [x.keys_sort] at hS
    have hL := x.sortN_len l
    generalize x.sortN l = S at *
    have hkl : (S.map x.keyT).length = l.length := by rw [List.length_map, hL]
    have hkg : ∀ (k : Nat) (h : k < l.length), (S.map x.keyT)[k]'(by rw [hkl]; exact h) = (S[k]'(by rw [hL]; exact h)).t ++ [.i (x.of (S[k]'(by rw [hL]; exact h)))] := fun k h => by rw [List.getElem_map]; rfl
    simp [go_sem]
    refine K_run hB 100 ?_
    simp [go_sem]
    refine K_call rfl rfl rfl (args := [.ref a, cmpF]) (f := 81) (by simp [go_sem]) (by simp [go_sem, hB]) hS ?_
    refine K_run hB 100 ?_
    simp [go_sem, hkl]
    refine K_own 8 10 (by simp [go_sem]) ?_
    have hqa : ¬ q = a := by omega
    have hany : ¬ a = ny := by omega
    refine K_loopP (α := Nat × Nat × (Nat → AObj) × Nat) (fun (k, c, τ, nz) => k ≤ l.length ∧ τ c = .arr 10 (nodesT (S.take k)) ∧ τ a = .arr 11 (S.map x.keyT) ∧ nx ≤ c ∧ c < nz ∧ a < nz ∧ c ≠ a ∧ τ q = .box x.cs ∧ ∀ i, i < nx → i ≠ q → τ i = σ i)
      (fun (k, c, τ, nz) => ⟨sl [(8, .ref c), (28, .ref a), (29, .i l.length), (30, .i k)], τ, nz⟩) (fun a => l.length - a.1) (0, ny, _, ny + 1) ?_ (Imp.slots (by simp [go_sem, hkl]) rfl rfl) ?_
    · exact ⟨Nat.zero_le _, by simp [oput, nodesT], by simp [oput, hany], by omega, by omega, by omega, by omega, by simp [oput, show ¬ q = ny by omega, hqa, g5], fun i h1 h2 => by simp [oput, show ¬ i = ny by omega, show ¬ i = a by omega, g6 i h1 h2]⟩
    clear hS g1 g2 g5 g6
    rintro ⟨k, c, τ, nz⟩ ⟨g1, g2, g7, g8, g9, ga, gb, g5, g6⟩
    refine K_run hB 60 ?_
    simp [go_sem]
    refine fork_dec (fun hk => ?_) (fun hk => ?_)
    · have hkk : IntKind.i64.wrap ((k : Int) + 1) = ((k + 1 : Nat) : Int) := by rw [w64 ((k : Int) + 1) (by omega)]; rfl
      have hkS : k < S.length := by omega
      have htk : S.take (k + 1) = S.take k ++ [S[k]] := by rw [List.take_add_one, List.getElem?_eq_getElem hkS]; rfl
      have hget : ∀ h : k < (S.map x.keyT).length, (S.map x.keyT)[k]'h = S[k].t ++ [.i (x.of S[k])] := fun h => hkg k hk
      have htl : (nodesT (S.take k)).length = k := by rw [nodesT, List.length_map, List.length_take]; omega
      have hcap : k + 1 ≤ mostLen := by omega
      have q1 : k * 11 / 11 = k := by omega
      have q4 : k * 11 % 11 = 0 := by omega
      have hc : ¬ c = nz := by omega
      generalize S[k] = n at *
      simp [go_sem, g7, hkl, hk, hget, q1, q4, Node.t, g2, hc, htl, hcap, hkk]
      refine Next.mk (k + 1, nz + 1, _, nz + 2) ?_ (Imp.slots (by simp [go_sem]) rfl rfl) (by simp only; omega)
      exact ⟨by simp only; omega, by simp [oput, htk, nodesT, Node.t], by simp [oput, g7, show ¬ a = nz by omega, show ¬ a = c by omega, show ¬ a = nz + 1 by omega], by simp only; omega, by simp only; omega, by simp only; omega, by simp only; omega, by simp [oput, g5, show ¬ q = nz by omega, show ¬ q = c by omega, show ¬ q = nz + 1 by omega], fun i h1 h2 => by simp [oput, show ¬ i = nz by omega, show ¬ i = c by omega, show ¬ i = nz + 1 by omega, g6 i h1 h2]⟩
    · have : k = l.length := by omega
      subst this
      rw [← hL, List.take_length] at g2
      simp [go_sem]
      rw [← hpost]
      refine ⟨_, Imp.freeze (q := c) (sz := 10) (es := nodesT S) (by simp [go_sem, g2]), .inl rfl, ?_⟩
      simp [go_sem, frz1, frzO, show ¬ q = c by omega, g5]
      refine ⟨by omega, by simp [frz1.frzL, frz1, Inst.cs], fun y hy hyq => ?_⟩
      rw [if_neg (by omega), g6 y hy hyq]
      rcases hk0 y with e | ⟨e, _⟩
      · rw [e]
      · exact frzO_id (q := c) (es := nodesT S) (by omega) (σ y) e
theorem sorted_pure (x : Inst) (l : List Node) (hx : x.stops.length < 2 ^ 31) (hl : l.length < 2 ^ 31) (hn : ∀ n ∈ l, n.Fine) : Pure P 20 [x.a, .t (.sl (nodesT l))] (.t (.sl (nodesT (x.sortN l)))) := by
  refine pure_of Try.func20 rfl rfl (by simp [Try.f20]) (by simp [bnd, bnd.bndL, Inst.a]) (by simp [bnd, bnd.bndL]) fun B hB hnx => ?_
  simp only [Try.f20] at hB ⊢
  have hil : (nodesT l).length = l.length := List.length_map _
  have hgt : ∀ (k : Nat) (h : k < l.length), (nodesT l)[k]'(by rw [hil]; exact h) = l[k].t := fun k h => nodesT_get l h
  generalize hX : nodesT l = X at *
  have hmost : mostLen = 4294967296 := rfl
  refine K_run hB 100 ?_
  simp [go_sem, hil, Inst.a]
  refine K_own 5 10 (by simp [go_sem]) ?_
  refine K_loopP (α := Nat × Nat × (Nat → AObj) × Nat) (fun (k, a, σ', ny) => k ≤ l.length ∧ σ' a = .arr 10 (nodesT (l.take k)) ∧ 0 < a ∧ a < ny ∧ σ' 0 = .box x.cs)
    (fun (k, a, σ', ny) => ⟨sl [(2, .ptr 0 0), (5, .ref a), (8, .t (.sl X)), (9, .i l.length), (10, .i k)], σ', ny⟩) (fun a => l.length - a.1) (0, 1, _, 2) ?_ (Imp.slots (by simp [go_sem, hil]) rfl rfl) ?_
  · exact ⟨Nat.zero_le _, by simp [oput, nodesT], by omega, by omega, by simp [oput, Inst.cs]⟩
  rintro ⟨k, a, σ', ny⟩ ⟨g1, g2, g3, g4, g5⟩
  refine K_run hB 60 ?_
  simp [go_sem]
  refine fork_dec (fun hk => ?_) (fun hk => ?_)
  · have hkk : IntKind.i64.wrap ((k : Int) + 1) = ((k + 1 : Nat) : Int) := by rw [w64 ((k : Int) + 1) (by omega)]; rfl
    have hget : ∀ h : k < X.length, X[k]'h = l[k].t := fun h => hgt k hk
    have hfine := hn l[k] (List.getElem_mem _)
    have htk : l.take (k + 1) = l.take k ++ [l[k]] := by rw [List.take_add_one, List.getElem?_eq_getElem hk]; rfl
    have hkl : (nodesT (l.take k)).length = k := by rw [nodesT, List.length_map, List.length_take]; omega
    generalize l[k] = n at *
    have ha : ¬ a = ny := by omega
    have hown := own_pure n (by have := hfine.len; omega)
    have hcap : k + 1 ≤ mostLen := by omega
    simp [go_sem, hil, hk, hget, Node.t]
    refine K_call rfl rfl rfl (args := [n.a]) (f := 46) (by simp [go_sem, Node.a, Node.cs]) (by simp [go_sem, hB]) ((hown).spec _ _) ?_
    refine K_run hB 100 ?_
    simp [go_sem, Node.a, Node.cs, g2, ha, hkl, hcap, hkk]
    refine Next.mk (k + 1, ny + 1, _, ny + 2) ?_ (Imp.slots (by simp [go_sem]) rfl rfl) (by simp only; omega)
    exact ⟨by simp only; omega, by simp [oput, htk, nodesT, Node.t], by simp only; omega, by simp only; omega, by simp [oput, g5, show ¬ 0 = ny by omega, show ¬ 0 = a by omega]⟩
  · have : k = l.length := by omega
    subst this
    rw [List.take_length] at g2
    have hS : ∀ σ nx, 0 < nx → σ 0 = .box x.cs → CallSpec P 47 [.t (.sl (nodesT l)), .fn (.func 48) [] [.ptr 0 0]] σ nx (.t (.sl (nodesT (x.sortN l)))) (oput σ 0 (.box x.cs)) nx := fun σ nx h1 h2 => sortedF_spec x l hx hl (fun n h => (hn n h).ok) h1 h2
    rw [hX] at hS
    obtain ⟨σ5, hσ5⟩ : ∃ σ5 : Nat → AObj, σ5 = fun j => if j = a then AObj.dead else frzO a X (σ' j) := ⟨_, rfl⟩
    have f1 : σ5 0 = .box x.cs := by simp [hσ5, show ¬ 0 = a by omega, g5, frzO, frz1, frz1.frzL, Inst.cs]
    have hSS := hS σ5 ny (by omega) f1
    simp [go_sem]
    refine K_imp ((Imp.freeze (q := a) (sz := 10) (es := X) (by simp [g2, hX])).trans (Imp.slots (l := [(2, .ptr 0 0), (20, .t (.sl X)), (21, .fn (.func 48) [] [.ptr 0 0])]) (by simp [go_sem, frz1, frz1.frzL]) hσ5 rfl)) ?_
    refine K_run hB 100 ?_
    simp [go_sem]
    refine K_call rfl rfl rfl (args := [.t (.sl X), .fn (.func 48) [] [.ptr 0 0]]) (f := 47) (by simp [go_sem]) (by simp [go_sem, hB]) hSS ?_
    refine K_run hB 100 ?_
    simp [go_sem]
end Go.Proofs.Ytlhmchdfmjfmgaa

/- Nodes in the order of what they cost at least: haulierref14.Sorted. -/
set_option maxRecDepth 4000
set_option maxHeartbeats 1000000
namespace Go.Proofs.Ytlhmchdfmjfmgaa
open Go Go.Proofs.Ytlhmchdfmjfmgaa.R
theorem rsorted_pure (x : Inst) (l : List Node) (hx : x.stops.length < 2 ^ 31) (hl : l.length < 2 ^ 31) (hn : ∀ n ∈ l, n.s.ok) : Pure P 21 [x.a, .t (.sl (nodesT l))] (.t (.sl (nodesT (x.sortN l)))) := by
  refine pure_of Try.func21 rfl rfl (by simp [Try.f21]) (by simp [bnd, bnd.bndL, Inst.a]) (by simp [bnd, bnd.bndL]) fun B hB hnx => ?_
  simp only [Try.f21] at hB ⊢
  have hil : (nodesT l).length = l.length := List.length_map _
  have hgt : ∀ (k : Nat) (h : k < l.length), (nodesT l)[k]'(by rw [hil]; exact h) = l[k].t := fun k h => nodesT_get l h
  generalize hX : nodesT l = X at *
  have hmost : mostLen = 4294967296 := rfl
  refine K_run hB 100 ?_
  simp [go_sem, Inst.a]
  refine K_loopP (α := Nat × (Nat → AObj) × Nat) (fun (k, σ, nx) => k ≤ l.length ∧ σ 0 = .box x.cs ∧ 0 < nx) (fun (k, σ, nx) => ⟨sl [(1, .t (.sl X)), (2, .ptr 0 0), (5, .t (.sl (nodesT (x.sortN (l.take k))))), (6, .i k)], σ, nx⟩) (fun a => l.length - a.1) (0, _, 1) ?_ (Imp.loose.trans (Imp.slots (by simp [go_sem, loosen, nodesT, Inst.sortN, isort]) rfl rfl)) ?_
  · exact ⟨Nat.zero_le _, by simp [oput, Inst.cs], by omega⟩
  rintro ⟨k, σ, nx⟩ ⟨g1, g2, g3⟩
  refine K_run hB 60 ?_
  simp [go_sem, hil]
  refine fork_dec (fun hk => ?_) (fun hk => ?_)
  · have hkk : IntKind.i64.wrap ((k : Int) + 1) = ((k + 1 : Nat) : Int) := by rw [w64 ((k : Int) + 1) (by omega)]; rfl
    have hget : ∀ h : k < X.length, X[k]'h = l[k].t := fun h => hgt k hk
    have hok := hn l[k] (List.getElem_mem _)
    have htk : x.sortN (l.take (k + 1)) = insK x.of l[k] (x.sortN (l.take k)) := by rw [List.take_add_one, List.getElem?_eq_getElem hk]; exact isort_snoc _ _
    have hsrt : Srt x.of (x.sortN (l.take k)) := (isort_sort _).srt
    have hOok : ∀ m ∈ x.sortN (l.take k), m.s.ok := fun m hm => hn m (List.mem_of_mem_take (Inst.sortN_mem.1 hm))
    have hOl : (x.sortN (l.take k)).length = k := by rw [Inst.sortN_len, List.length_take]; omega
    generalize l[k] = n at *
    generalize x.sortN (l.take k) = O at *
    have hof := rof_pure x n hx hok
    have hYl : (nodesT O).length = k := by rw [nodesT, List.length_map, hOl]
    have hY1 : ∀ y ∈ nodesT O, y.length = 10 := nodesT_len O
    have hYg : ∀ (k : Nat) (h : k < O.length), (nodesT O)[k]'(by rw [hYl, ← hOl]; exact h) = O[k].t := fun k h => nodesT_get O h
    generalize hY : nodesT O = Y at *
    have hn0 : ¬ 0 = nx := by omega
    simp [go_sem]
    refine K_drawn [] rfl (by rw [hB]; kernel_rfl) ?_
    refine K_run hB 100 ?_
    simp [go_sem, hil, hk, hget, g2, Inst.cs, Node.t]
    refine K_dCallP rfl rfl rfl (args := [x.a, n.a]) (f := 49) (by simp [go_sem, Inst.a, Node.a, Node.cs]) (hof) ?_
    refine K_run hB 100 ?_
    simp [go_sem, hYl]
    refine K_loopP (α := Nat) (fun a => a ≤ k ∧ ∀ m ∈ O.drop a, x.of n < x.of m) (fun a => ⟨sl [(1, .t (.sl X)), (2, .ptr 0 0), (5, .t (.sl Y)), (6, .i k), (7, .i (x.of n)), (8, .i a)], σ, nx⟩) (fun a => a) k ⟨Nat.le_refl _, by rw [← hOl, List.drop_length]; intro m hm; cases hm⟩ (Imp.slots (by simp [go_sem]) rfl rfl) ?_
    rintro a ⟨f1, f2⟩
    have hfin : (∀ m ∈ O.take a, x.of m ≤ x.of n) → nodesT (x.sortN (l.take (k + 1))) = Y.take a ++ ([n.t] ++ Y.drop a) := fun h => by
      have e : x.sortN (l.take (k + 1)) = O.take a ++ n :: O.drop a := by
        rw [htk]
        conv => lhs; rw [← List.take_append_drop a O]
        exact insK_split h f2
      rw [e, ← hY]
      simp [nodesT, List.map_take, List.map_drop]
    have hA1s : ∀ y ∈ Y.take a, y.length = 10 := fun y h => hY1 y (List.mem_of_mem_take h)
    have hA2s : ∀ y ∈ Y.drop a, y.length = 10 := fun y h => hY1 y (List.mem_of_mem_drop h)
    have hA1l : (Y.take a).length = a := by rw [List.length_take]; omega
    have hA2l : (Y.drop a).length = k - a := by rw [List.length_drop]; omega
    obtain ⟨A1, hA1⟩ : ∃ A1, A1 = Y.take a := ⟨_, rfl⟩
    obtain ⟨A2, hA2⟩ : ∃ A2, A2 = Y.drop a := ⟨_, rfl⟩
    rw [← hA1] at hA1s hA1l
    rw [← hA2] at hA2s hA2l
    rw [← hA1, ← hA2] at hfin
    have hak : (a : Int) ≤ k := by omega
    have hcap1 : a ≤ mostLen := by omega
    have hcap2 : a + 1 ≤ mostLen := by omega
    have hcap3 : a + 1 + (k - a) ≤ mostLen := by omega
    have hn1 : ¬ 0 = nx + 1 := by omega
    have hn2 : ¬ 0 = nx + 2 := by omega
    by_cases c0 : 0 < a
    rotate_left
    · have h0 : a = 0 := by omega
      have hfin := hfin (by rw [h0]; intro m hm; cases hm)
      refine K_run hB 60 ?_
      simp [go_sem, c0]
      refine K_drawn [] rfl (by rw [hB]; kernel_rfl) ?_
      refine K_run hB 100 ?_
      simp [go_sem, c0, if_pos hY1, f1, hA1.symm, hA2.symm, hA1l, hA2l, hcap1, hcap2, hcap3, if_pos hA1s, if_pos hA2s, hil, hk, hget, Node.t, hkk, hYl, hak]
      refine Next.mk (k + 1, _, nx + 3) ?_ ((Imp.freeze (q := nx + 2) (sz := 10) (es := A1 ++ ([n.t] ++ A2)) (by simp [oput, Node.t])).trans (Imp.slots (by simp [go_sem, frz1, frz1.frzL, hfin]) rfl rfl)) (by simp only; omega)
      exact ⟨by simp only; omega, by simp [oput, frzO, frz1, frz1.frzL, Inst.cs, g2, hn0, hn1, hn2], by simp only; omega⟩
    · obtain ⟨b, rfl⟩ : ∃ b, a = b + 1 := ⟨a - 1, by omega⟩
      have hbO : b < O.length := by omega
      have hb : b < k := by omega
      have hdb : O.drop b = O[b] :: O.drop (b + 1) := List.drop_eq_getElem_cons hbO
      have hobk := hOok O[b] (List.getElem_mem _)
      have hgb : ∀ h : b < Y.length, Y[b]'h = O[b].t := fun h => hYg b hbO
      have hpre : ∀ m ∈ O.take (b + 1), x.of m ≤ x.of O[b] := fun m hm => by
        obtain ⟨i, hi, rfl⟩ := List.mem_iff_getElem.1 hm
        rw [List.length_take] at hi
        rw [List.getElem_take]
        by_cases e : i = b
        · subst e; exact Int.le_refl _
        · exact List.pairwise_iff_getElem.1 hsrt i b (by omega) hbO (by omega)
      generalize O[b] = m at *
      have hofm := rof_pure x m hx hobk
      have w1 : IntKind.i64.wrap ((b : Int) + 1 - 1) = b := by rw [w64 _ (by omega)]; omega
      have w2 : IntKind.i64.wrap (b : Int) = b := w64 _ (by omega)
      have c2' : (0 : Int) ≤ (b : Int) + 1 := by omega
      have c3' : (b : Int) + 1 ≤ k := by omega
      have c0' : (0 : Int) < (b : Int) + 1 := by omega
      refine K_run hB 60 ?_
      simp [go_sem]
      refine K_drawn [] rfl (by rw [hB]; kernel_rfl) ?_
      refine K_run hB 100 ?_
      simp [go_sem, c0, c0', w1, w2, hYl, hb, hgb, g2, Inst.cs, Node.t]
      refine K_dCallP rfl rfl rfl (args := [x.a, m.a]) (f := 49) (by simp [go_sem, Inst.a, Node.a, Node.cs]) (hofm) ?_
      by_cases c1 : x.of n < x.of m
      · refine K_run hB 100 ?_
        simp [go_sem, c1, w1, w2]
        refine Next.mk b ⟨by omega, fun y hy => ?_⟩ (Imp.slots (by simp [go_sem]) rfl rfl) (by omega)
        rw [hdb] at hy
        rcases List.mem_cons.1 hy with rfl | hy
        · exact c1
        · exact f2 y hy
      · have hfin := hfin (fun y hy => by have := hpre y hy; omega)
        refine K_run hB 100 ?_
        simp [go_sem, c1, c2', c3', if_pos hY1, f1, hA1.symm, hA2.symm, hA1l, hA2l, hcap1, hcap2, hcap3, if_pos hA1s, if_pos hA2s, hil, hk, hget, Node.t, hkk, hYl, hak]
        refine Next.mk (k + 1, _, nx + 3) ?_ ((Imp.freeze (q := nx + 2) (sz := 10) (es := A1 ++ ([n.t] ++ A2)) (by simp [oput, Node.t])).trans (Imp.slots (by simp [go_sem, frz1, frz1.frzL, hfin]) rfl rfl)) (by simp only; omega)
        exact ⟨by simp only; omega, by simp [oput, frzO, frz1, frz1.frzL, Inst.cs, g2, hn0, hn1, hn2], by simp only; omega⟩
  · have : k = l.length := by omega
    subst this
    simp [go_sem]
end Go.Proofs.Ytlhmchdfmjfmgaa

/- What a level's next one keeps: the plain laws. -/
set_option maxRecDepth 4000
namespace Go.Proofs.Ytlhmchdfmjfmgaa
open Go Go.Proofs.Ytlhmchdfmjfmgaa.R
theorem canB_of {f : Nat → Bool} : ∀ {n k : Nat}, k < n → f k = true → (k : Int) ∈ canB f n
  | n + 1, k, h, hf => by
    rw [canB, List.mem_append]
    by_cases e : k = n
    · subst e
      exact .inr (by rw [if_pos hf]; simp)
    · exact .inl (canB_of (by omega) hf)
theorem mem_moves {x : Inst} {s : State} {j : Int} (h : (x.move s j).2.2 = true) : j ∈ x.moves s := by
  have hm : x.may = true := by
    by_cases e : j = 0
    · subst e; exact (move_home h).1
    · exact (move_pos h e).1
  obtain ⟨p, hx⟩ := x.fit hm
  have h1 := hx.len
  have h2 := hx.pairs
  have hj : 0 ≤ j ∧ j < x.stops.length := by
    by_cases e : j = 0
    · omega
    · have := move_pos h e
      omega
  rw [moves_can]
  have : ((j.toNat : Nat) : Int) = j := by omega
  rw [← this]
  exact canB_of (by omega) (by rw [this]; exact h)
theorem move_seen_low {x : Inst} (hl : x.stops.length < 2 ^ 31) (m : Node) (k : Int) (h0 : 0 ≤ m.cost) (h1 : m.cost + lowP x.near m.s.can ≤ k) (hk : k ≤ 1152921504606846976) : x.of m ≤ k := by
  have hin := lowP_in (near_le x) m.s.can
  rw [Inst.of, low_eq x m.s (by omega), sumI_two h0 hin.1 (by omega)]
  exact h1
theorem keeps_plain (x : Inst) (path : List Int) (i : Nat) (hi : i < path.length) (hlen : path.length ≤ 100) (hst : x.stops.length ≤ 100) (more : List Node) (limit : Int) {s : State} {cost : Int} (hg : x.goes path x.rootS 0 = some (s, cost)) (he : (x.endS s).2 = true) (hlt : cost + (x.endS s).1 < limit) :
    ∃ t fr u way, x.goes (path.take i) x.rootS 0 = some (t, fr) ∧ x.goes (path.take (i + 1)) x.rootS 0 = some (u, way) ∧ t.ok ∧ ∃ m ∈ x.next (⟨t, fr, path.take i⟩ :: more) limit, m.s = u ∧ m.cost ≤ way := by
  have hsplit : path = path.take i ++ path.drop i := (List.take_append_drop _ _).symm
  have hg0 := hg
  rw [hsplit, goes_app] at hg
  cases hgo : x.goes (path.take i) x.rootS 0 with
  | none => rw [hgo] at hg; cases hg
  | some r =>
    obtain ⟨t, fr⟩ := r
    rw [hgo] at hg
    have hg : x.goes (path.drop i) t fr = some (s, cost) := hg
    rw [List.drop_eq_getElem_cons hi, Inst.goes] at hg
    have hl1 : (path.take i).length ≤ 100 := by rw [List.length_take]; omega
    have hl2 : (path.drop (i + 1)).length ≤ 100 := by rw [List.length_drop]; omega
    obtain ⟨a1, a2, a3, a4⟩ := goes_facts x _ _ _ t fr (seen_root x) (Int.le_refl _) (by omega) hgo
    have hok := goes_ok x _ _ _ t fr (rootS_ok x) hgo
    split at hg
    · rename_i hm
      have hc := move_cost hm
      rw [w64 _ (by omega)] at hg
      have hgu : x.goes (path.take (i + 1)) x.rootS 0 = some ((x.move t path[i]).1, fr + (x.move t path[i]).2.1) := by
        rw [List.take_succ_eq_append_getElem hi, goes_app, hgo]
        show x.goes [path[i]] t fr = _
        rw [Inst.goes, if_pos hm, Inst.goes, w64 _ (by omega)]
      refine ⟨t, fr, _, _, rfl, hgu, hok, ?_⟩
      obtain ⟨b1, b2, b3, b4⟩ := goes_facts x _ _ _ _ _ (seen_step hm) (by omega) (by omega) hg
      have hle := low_end he
      have hec := end_cost he
      have hch : x.child ⟨t, fr, path.take i⟩ path[i] = ⟨(x.move t path[i]).1, fr + (x.move t path[i]).2.1, path.take i ++ [path[i]]⟩ := by
        rw [Inst.child]
        simp only
        rw [sumI_two a2 hc.1 (by omega)]
      have hof : x.of (x.child ⟨t, fr, path.take i⟩ path[i]) < limit := by
        have := move_seen_low (x := x) (by omega) (x.child ⟨t, fr, path.take i⟩ path[i]) (cost + (x.endS s).1) (by rw [hch]; simp only; omega) (by rw [hch]; simp only; omega) (by omega)
        omega
      have hmem : x.child ⟨t, fr, path.take i⟩ path[i] ∈ (Node.mk t fr (path.take i) :: more).flatMap (x.kids limit) := by
        refine List.mem_flatMap.2 ⟨_, List.mem_cons_self, ?_⟩
        rw [Inst.kids, List.mem_filter]
        exact ⟨List.mem_map.2 ⟨path[i], mem_moves hm, rfl⟩, by simpa using hof⟩
      obtain ⟨m, h1, h2, h3⟩ := onceL_has hmem
      rw [hch] at h2 h3
      exact ⟨m, h1, h2, h3⟩
    · cases hg
theorem bests_fold (x : Inst) (v : Int) : ∀ (l : List Node) (b : Node × Bool), ((∃ n ∈ l, (x.endS n.s).2 = true ∧ sumI [n.cost, (x.endS n.s).1] = v) ∨ (b.2 = true ∧ b.1.cost ≤ v)) → (l.foldl x.best1 b).2 = true ∧ (l.foldl x.best1 b).1.cost ≤ v
  | [], b, h => by
    rcases h with ⟨n, h, _⟩ | h
    · cases h
    · exact h
  | n :: l, b, h => by
    refine bests_fold x v l (x.best1 b n) ?_
    have key : b.2 = true ∧ b.1.cost ≤ v → (x.best1 b n).2 = true ∧ (x.best1 b n).1.cost ≤ v := by
      rintro ⟨h1, h2⟩
      unfold Inst.best1
      split
      · rename_i hc
        refine ⟨rfl, ?_⟩
        rcases hc.2 with hc | hc
        · rw [h1] at hc; cases hc
        · simp only; omega
      · exact ⟨h1, h2⟩
    rcases h with ⟨m, hm, h1, h2⟩ | h
    · rcases List.mem_cons.1 hm with rfl | hm
      · refine .inr ?_
        unfold Inst.best1
        split
        · exact ⟨rfl, by simp only; omega⟩
        · rename_i hc
          have hb : b.2 = true := by
            cases e : b.2 with
            | true => rfl
            | false => exact absurd ⟨h1, .inl e⟩ hc
          refine ⟨hb, ?_⟩
          have : ¬ sumI [m.cost, (x.endS m.s).1] < b.1.cost := fun e => hc ⟨h1, .inr e⟩
          omega
      · exact .inl ⟨m, hm, h1, h2⟩
    · exact .inr (key h)
theorem bests_has {x : Inst} {l : List Node} {n : Node} (hn : n ∈ l) (he : (x.endS n.s).2 = true) : (x.bests l).2 = true ∧ (x.bests l).1.cost ≤ sumI [n.cost, (x.endS n.s).1] := bests_fold x _ l _ (.inl ⟨n, hn, he, rfl⟩)
end Go.Proofs.Ytlhmchdfmjfmgaa

/- Looking at all: the plain part. -/
set_option maxRecDepth 4000
namespace Go.Proofs.Ytlhmchdfmjfmgaa
open Go Go.Proofs.Ytlhmchdfmjfmgaa.R
def Inst.base (x : Inst) (s : State) : Nat := ((List.range (2 * x.pairs.toNat + 1)).filter fun j : Nat => decide (1 ≤ j) && !hasB s.must (j : Int)).length + (x.cars - s.car).toNat
theorem base_move {x : Inst} {s : State} {j : Int} (h : (x.move s j).2.2 = true) : x.base (x.move s j).1 < x.base s := by
  by_cases e : j = 0
  · subst e
    obtain ⟨_, _, h3, h4⟩ := move_home h
    rw [h4]
    simp only [Inst.stayB, Bool.or_eq_false_iff, decide_eq_false_iff_not] at h3
    simp only [Inst.base, Inst.homeS]
    have := h3.1.1.2
    omega
  · obtain ⟨h1, h2, h3, h4, h5, _, _, h6⟩ := move_pos h e
    obtain ⟨p, hx⟩ := x.fit h1
    have := hx.few
    have := hx.pairs
    rw [h6]
    simp only [Inst.lateB, Bool.or_eq_false_iff] at h5
    simp only [Inst.base, Inst.rvisit]
    obtain ⟨k, rfl⟩ : ∃ k : Nat, j = k := ⟨j.toNat, by omega⟩
    refine Nat.add_lt_add_right (filter_lt _ (a := k) (List.mem_range.2 (by omega)) ?_ ?_ ?_) _
    · rw [h5.1]
      simp only [Bool.not_false, Bool.and_true, decide_eq_true_eq]
      omega
    · rw [has_withN (by omega)]
      simp
    · intro b
      rw [has_withN (by omega)]
      simp only [Bool.and_eq_true, Bool.not_eq_true', Bool.or_eq_false_iff]
      exact fun h => ⟨h.1, h.2.1⟩
def Inst.meas (x : Inst) (s : State) : Nat := if x.may = true ∧ s.mayB x = true then x.base s else 0
theorem move_may {x : Inst} {s : State} {j : Int} (h : (x.move s j).2.2 = true) : x.may = true ∧ s.mayB x = true := by
  by_cases e : j = 0
  · subst e
    exact ⟨(move_home h).1, (move_home h).2.1⟩
  · exact ⟨(move_pos h e).1, (move_pos h e).2.1⟩
theorem meas_move {x : Inst} {s : State} {j : Int} (h : (x.move s j).2.2 = true) : x.meas (x.move s j).1 < x.meas s := by
  have h1 := base_move h
  have h2 := move_may h
  have : x.meas (x.move s j).1 ≤ x.base (x.move s j).1 := by
    unfold Inst.meas
    split <;> omega
  have : x.meas s = x.base s := by rw [Inst.meas, if_pos h2]
  omega
theorem meas_le (x : Inst) (s : State) : x.meas s ≤ 40 := by
  unfold Inst.meas
  split
  · rename_i h
    obtain ⟨p, hx⟩ := x.fit h.1
    have h1 := hx.few
    have h2 := hx.pairs
    have h3 := hx.cars
    have h4 := h.2
    simp only [State.mayB, Bool.and_eq_true, decide_eq_true_eq] at h4
    have h5 := h4.1.1.1.1.1.2
    have h6 : ((List.range (2 * x.pairs.toNat + 1)).filter fun j : Nat => decide (1 ≤ j) && !hasB s.must (j : Int)).length ≤ 2 * x.pairs.toNat + 1 := by
      refine Nat.le_trans (List.length_filter_le _ _) ?_
      rw [List.length_range]; exact Nat.le_refl _
    unfold Inst.base
    omega
  · omega
def Inst.look (x : Inst) (st : Node × Bool × Int) (l : List Node) : Node × Bool × Int :=
  if (x.bests l).2 = true ∧ (x.bests l).1.cost < st.2.2 then ((x.bests l).1, true, (x.bests l).1.cost) else st
def Inst.exGo (x : Inst) (most : Int) : Nat → Node × Bool × Int → List Node → Int → Node × Bool × Bool × Int
  | 0, st, _, n => (st.1, st.2.1, true, n)
  | d + 1, st, l, n => if l.length = 0 then (st.1, st.2.1, true, n) else if most < l.length then (st.1, st.2.1, false, n) else
    x.exGo most d (x.look st l) (frontL (x.next l st.2.2)) (IntKind.i64.wrap (n + l.length))
def Inst.exact (x : Inst) (n : Node) (up most : Int) : Node × Bool × Bool × Int := x.exGo most (x.meas n.s + 1) (Node.zero, false, up) [n] 0
def exRes4 (r : Node × Bool × Bool × Int) : AV := .tup [r.1.a, .b r.2.1, .b r.2.2.1, .i r.2.2.2]
/-- What holds of a level. -/
structure Level (x : Inst) (l : List Node) (d K : Nat) : Prop where
  ok : ∀ n ∈ l, n.s.ok
  deep : ∀ n ∈ l, x.meas n.s < d
  path : ∀ n ∈ l, n.path.length + d ≤ K
theorem Level.next {x : Inst} {l : List Node} {d K : Nat} (h : Level x l (d + 1) K) (up : Int) : Level x (frontL (x.next l up)) d K := by
  have key : ∀ m ∈ frontL (x.next l up), ∃ n ∈ l, ∃ j, (x.move n.s j).2.2 = true ∧ m = x.child n j := by
    intro m hm
    obtain ⟨n, hn, j, hj, e, _⟩ := next_mem ((front_inv _).sub m hm)
    exact ⟨n, hn, j, moves_mem hj, e⟩
  refine ⟨?_, ?_, ?_⟩
  · intro m hm
    obtain ⟨n, hn, j, hj, rfl⟩ := key m hm
    exact move_ok x j (h.ok n hn)
  · intro m hm
    obtain ⟨n, hn, j, hj, rfl⟩ := key m hm
    have := meas_move hj
    have := h.deep n hn
    show x.meas (x.move n.s j).1 < d
    omega
  · intro m hm
    obtain ⟨n, hn, j, hj, rfl⟩ := key m hm
    have := h.path n hn
    show (n.path ++ [j]).length + d ≤ K
    rw [List.length_append]
    simp only [List.length_cons, List.length_nil]
    omega
theorem Level.empty {x : Inst} {l : List Node} {K : Nat} (h : Level x l 0 K) : l = [] := by
  cases l with
  | nil => rfl
  | cons n l => exact absurd (h.deep n List.mem_cons_self) (by omega)
theorem Level.root (x : Inst) (n : Node) (h : n.s.ok) : Level x [n] (x.meas n.s + 1) (n.path.length + x.meas n.s + 1) := by
  refine ⟨?_, ?_, ?_⟩ <;> (intro m hm; rw [List.mem_singleton.1 hm])
  · exact h
  · omega
  · omega
end Go.Proofs.Ytlhmchdfmjfmgaa

/- A good plan, by looking at few: the plain function, the program's, the document's. -/
set_option maxRecDepth 4000
set_option maxHeartbeats 1000000
namespace Go.Proofs.Ytlhmchdfmjfmgaa
open Go Go.Proofs.Ytlhmchdfmjfmgaa.R
/-- The level behind one. -/
def Inst.few (x : Inst) (W : Nat) (l : List Node) (up : Int) : List Node := (x.sortN (x.next l up)).take W
def Inst.naGo (x : Inst) (W : Nat) : Nat → Node × Bool × Int → List Node → Int → Node × Bool × Int
  | 0, st, _, n => (st.1, st.2.1, n)
  | d + 1, st, l, n => if l.length = 0 then (st.1, st.2.1, n) else x.naGo W d (x.look st l) (x.few W l st.2.2) (IntKind.i64.wrap (n + l.length))
def widthN (w : Int) : Nat := if w < 1 then 1 else w.toNat
def Inst.narrow (x : Inst) (n : Node) (width up : Int) : Node × Bool × Int := x.naGo (widthN width) (x.meas n.s + 1) (Node.zero, false, up) [n] 0
def naRes (r : Node × Bool × Int) : AV := .tup [r.1.a, .b r.2.1, .i r.2.2]
theorem few_mem {x : Inst} {W : Nat} {l : List Node} {up : Int} {n : Node} (h : n ∈ x.few W l up) : n ∈ x.next l up := Inst.sortN_mem.1 (List.mem_of_mem_take h)
theorem few_len (x : Inst) (W : Nat) (l : List Node) (up : Int) : (x.few W l up).length ≤ W := by rw [Inst.few, List.length_take]; omega
theorem Level.few {x : Inst} {l : List Node} {d K : Nat} (h : Level x l (d + 1) K) (W : Nat) (up : Int) : Level x (x.few W l up) d K := by
  have key : ∀ m ∈ x.few W l up, ∃ n ∈ l, ∃ j, (x.move n.s j).2.2 = true ∧ m = x.child n j := by
    intro m hm
    obtain ⟨n, hn, j, hj, e, _⟩ := next_mem (few_mem hm)
    exact ⟨n, hn, j, moves_mem hj, e⟩
  refine ⟨?_, ?_, ?_⟩
  · intro m hm
    obtain ⟨n, hn, j, hj, rfl⟩ := key m hm
    exact move_ok x j (h.ok n hn)
  · intro m hm
    obtain ⟨n, hn, j, hj, rfl⟩ := key m hm
    have := meas_move hj
    have := h.deep n hn
    show x.meas (x.move n.s j).1 < d
    omega
  · intro m hm
    obtain ⟨n, hn, j, hj, rfl⟩ := key m hm
    have := h.path n hn
    show (n.path ++ [j]).length + d ≤ K
    rw [List.length_append]
    simp only [List.length_cons, List.length_nil]
    omega
theorem nbest_pure (x : Inst) (n : Node) (width up : Int) (hl : x.stops.length < 2 ^ 31) (hw : width ≤ 3000) (ho : n.s.ok) (hp : n.path.length < 2 ^ 29) : Pure P 26 [x.a, n.a, .i width, .i up] (naRes (x.narrow n width up)) := by
  generalize hR : x.narrow n width up = R
  refine pure_of Try.func26 rfl rfl (by simp [Try.f26]) (by simp [bnd, bnd.bndL, Inst.a, Node.a, Node.cs]) (by simp [bnd, bnd.bndL, naRes, Node.a, Node.cs]) fun B hB hnx => ?_
  simp only [Try.f26] at hB ⊢
  have hlev := Level.root x n ho
  have hmeas := meas_le x n.s
  rw [Inst.narrow] at hR
  generalize hd : x.meas n.s + 1 = d0 at *
  generalize hK : n.path.length + x.meas n.s + 1 = K at *
  have hW1 : max width 1 = (widthN width : Nat) := by unfold widthN; split <;> omega
  have hW2 : widthN width ≤ 3000 := by unfold widthN; split <;> omega
  generalize widthN width = W at *
  refine K_run hB 100 ?_
  simp [go_sem, Inst.a, Node.a, Node.cs]
  refine K_less ((Imp.looseB (b := 2) (cs := [.i 0, .i 0, .i 0, .i 0, .i 0, .u 0, .u 0, .u 0, .i 0, .fsl []]) (by simp [oput])).trans ((Imp.looseB (b := 3) (cs := [.i 0, .i 0, .i 0, .i 0, .i 0, .u 0, .u 0, .u 0, .i 0, .fsl []]) (by simp [oput])).trans Imp.loose)) ?_
  refine K_loopP (α := Nat × (Node × Bool × Int) × List Node × Int × (Nat → AObj) × Nat) (fun (d, st, l, n, σ, nx) => Level x l d K ∧ x.naGo W d st l n = R ∧ l.length ≤ 3000 ∧ σ 0 = .box x.cs ∧ σ 2 = .box Node.zero.cs ∧ σ 3 = .box st.1.cs ∧ 3 < nx)
    (fun (d, st, l, n, σ, nx) => ⟨sl [(2, .i width), (3, .i st.2.2), (4, .ptr 0 0), (8, .ptr 2 0), (11, .ptr 3 0), (12, .b st.2.1), (13, .i n), (14, .t (.sl (nodesT l)))], σ, nx⟩) (fun a => a.1) (d0, (Node.zero, false, up), [n], 0, _, 4) ?_ (Imp.slots (by simp [go_sem, loosen, nodesT, Node.t]) rfl rfl) ?_
  · exact ⟨hlev, hR, by simp, by simp [oput, Inst.cs], by simp [oput, Node.zero, State.zero, Node.cs, ints, loosen], by simp [oput, Node.zero, State.zero, Node.cs, ints, loosen], by omega⟩
  rintro ⟨d, st, l, n, σ, nx⟩ ⟨g1, g2, g0, g3, g4, g5, g6⟩
  have hil : (nodesT l).length = l.length := List.length_map _
  have hgo : x.naGo W d st l n = match d with
    | 0 => (st.1, st.2.1, n)
    | d + 1 => if l.length = 0 then (st.1, st.2.1, n) else x.naGo W d (x.look st l) (x.few W l st.2.2) (IntKind.i64.wrap (n + l.length)) := by cases d <;> rfl
  by_cases c1 : l.length = 0
  · have hr : R = (st.1, st.2.1, n) := by
      rw [← g2, hgo]
      cases d with
      | zero => rfl
      | succ d => simp only; rw [if_pos c1]
    subst hr
    refine K_run hB 100 ?_
    simp [go_sem, hil, c1, g4, g5, Node.cs]
    rfl
  cases d with
  | zero => exact absurd (by rw [g1.empty]; rfl) c1
  | succ d =>
    simp only at hgo
    rw [if_neg c1] at hgo
    have c4 : 0 < l.length := by omega
    rw [hgo] at g2
    have hx := expand_pure x l st.2.2 hl (by omega) (fun m h => ⟨g1.ok m h, by have := g1.path m h; omega⟩) (fun m h => by have := g1.path m h; omega)
    have q1 := next_len x l st.2.2
    have q2 : ∀ m ∈ x.next l st.2.2, m.Fine := by
      intro m hm
      obtain ⟨k, h, j, _, rfl, _⟩ := next_mem hm
      refine ⟨move_ok x j (g1.ok k h), ?_⟩
      have := g1.path k h
      show (k.path ++ [j]).length < 2 ^ 31
      rw [List.length_append]
      simp only [List.length_cons, List.length_nil]
      omega
    have hf := sorted_pure x (x.next l st.2.2) hl (by omega) q2
    have hlv := g1.few W st.2.2
    have hfl := few_len x W l st.2.2
    rw [Inst.few] at hlv hfl g2
    have hsl := x.sortN_len (x.next l st.2.2)
    have hlk : x.look st l = if (x.bests l).2 = true ∧ (x.bests l).1.cost < st.2.2 then ((x.bests l).1, true, (x.bests l).1.cost) else st := rfl
    generalize x.look st l = st' at *
    generalize x.next l st.2.2 = M at *
    generalize x.sortN M = S at *
    generalize x.bests l = Rb at *
    obtain ⟨b, is⟩ := Rb
    simp only at hlk
    have hm : min (S.length : Int) (max width 1) = (min S.length W : Nat) := by rw [hW1]; omega
    have htk : S.take W = S.take (min S.length W) := by
      by_cases h : W ≤ S.length
      · rw [Nat.min_eq_right h]
      · rw [Nat.min_eq_left (by omega), List.take_length, List.take_of_length_le (by omega)]
    rw [htk] at hlv hfl g2
    have hkl : min S.length W ≤ S.length := by omega
    generalize min S.length W = k at *
    have hSl : (nodesT S).length = S.length := List.length_map _
    have hS1 := nodesT_len S
    have hSt : (nodesT S).take k = nodesT (S.take k) := by rw [nodesT, nodesT, List.map_take]
    refine K_run hB 100 ?_
    simp [go_sem, hil, c4, g3, Inst.cs]
    refine K_call rfl rfl rfl (args := [x.a, .t (.sl (nodesT l)), .i st.2.2]) (f := 44) (by simp [go_sem, Inst.a]) (by simp [go_sem, hB]) ((hx).spec _ _) ?_
    have m0 : ¬ 0 = nx := by omega
    have m2 : ¬ 2 = nx := by omega
    have m3 : ¬ 3 = nx := by omega
    have m4 : ¬ nx = 3 := by omega
    cases is with
    | false =>
      rw [if_neg (by simp)] at hlk
      subst hlk
      refine K_run hB 100 ?_
      simp [go_sem, expRes, Node.a, Node.cs, g3, m0, Inst.cs]
      refine K_call rfl rfl rfl (args := [x.a, .t (.sl (nodesT M))]) (f := 20) (by simp [go_sem, Inst.a]) (by simp [go_sem, hB]) ((hf).spec _ _) ?_
      refine K_run hB 100 ?_
      simp [go_sem, hSl, hm, if_pos hS1, hSt, hkl]
      refine Next.mk (d, st', S.take k, IntKind.i64.wrap (n + l.length), _, nx + 1) ?_ (Imp.loose.trans (Imp.slots (by simp [go_sem, loosen]) rfl rfl)) (by simp only; omega)
      exact ⟨hlv, g2, by simp only; omega, by simp [oput, g3, m0, Inst.cs], by simp [oput, g4, m2, Node.cs], by simp [oput, g5, m3, Node.cs], by simp only; omega⟩
    | true =>
      by_cases c5 : b.cost < st.2.2
      · rw [if_pos ⟨rfl, c5⟩] at hlk
        subst hlk
        refine K_run hB 100 ?_
        simp [go_sem, expRes, Node.a, Node.cs, c5]
        refine K_drawnF [3] [1, 2] rfl (by rw [hB]; kernel_rfl) (by kernel_rfl) fun ht hf' => ?_
        refine K_run hB 100 ?_
        simp [go_sem, ht, hf', c5, m3, m4, m0, g3, g5, Inst.cs, Node.cs]
        refine K_call rfl rfl rfl (args := [x.a, .t (.sl (nodesT M))]) (f := 20) (by simp [go_sem, Inst.a]) (by simp [go_sem, hB]) ((hf).spec _ _) ?_
        refine K_run hB 100 ?_
        simp [go_sem, hSl, hm, if_pos hS1, hSt, hkl]
        refine Next.mk (d, (b, true, b.cost), S.take k, IntKind.i64.wrap (n + l.length), _, nx + 1) ?_ (Imp.loose.trans (Imp.slots (by simp [go_sem, loosen]) rfl rfl)) (by simp only; omega)
        exact ⟨hlv, g2, by simp only; omega, by simp [oput, g3, m0, Inst.cs], by simp [oput, g4, m2, Node.cs], by simp [oput, g5, m3, Node.cs], by simp only; omega⟩
      · rw [if_neg (fun h => c5 h.2)] at hlk
        subst hlk
        refine K_run hB 100 ?_
        simp [go_sem, expRes, Node.a, Node.cs, c5, g3, m0, Inst.cs]
        refine K_call rfl rfl rfl (args := [x.a, .t (.sl (nodesT M))]) (f := 20) (by simp [go_sem, Inst.a]) (by simp [go_sem, hB]) ((hf).spec _ _) ?_
        refine K_run hB 100 ?_
        simp [go_sem, hSl, hm, if_pos hS1, hSt, hkl]
        refine Next.mk (d, st', S.take k, IntKind.i64.wrap (n + l.length), _, nx + 1) ?_ (Imp.loose.trans (Imp.slots (by simp [go_sem, loosen]) rfl rfl)) (by simp only; omega)
        exact ⟨hlv, g2, by simp only; omega, by simp [oput, g3, m0, Inst.cs], by simp [oput, g4, m2, Node.cs], by simp [oput, g5, m3, Node.cs], by simp only; omega⟩
end Go.Proofs.Ytlhmchdfmjfmgaa

/- More nodes on a level: the plain law. -/
set_option maxRecDepth 4000
namespace Go.Proofs.Ytlhmchdfmjfmgaa
open Go Go.Proofs.Ytlhmchdfmjfmgaa.R
/-- What is known of a search: what was found costs its bound. -/
def stOk (st : Node × Bool × Int) : Prop := st.2.1 = true → st.1.cost = st.2.2
theorem look_ok {x : Inst} {st : Node × Bool × Int} {l : List Node} (h : stOk st) : stOk (x.look st l) ∧ (x.look st l).2.2 ≤ st.2.2 ∧ (st.2.1 = true → (x.look st l).2.1 = true) := by
  unfold Inst.look
  split
  · rename_i hc
    exact ⟨fun _ => rfl, by simp only; omega, fun _ => rfl⟩
  · exact ⟨h, Int.le_refl _, fun h => h⟩
theorem exGo_up (x : Inst) (most : Int) (hm : most ≤ 3000) : ∀ (d : Nat) (st : Node × Bool × Int) (l : List Node) (n : Int), stOk st → 0 ≤ n → n + 3000 * d < 9223372036854775808 →
    (st.2.1 = true → (x.exGo most d st l n).2.1 = true ∧ (x.exGo most d st l n).1.cost ≤ st.2.2) ∧ n ≤ (x.exGo most d st l n).2.2.2
  | 0, st, l, n, h, _, _ => ⟨fun hs => ⟨hs, by rw [Inst.exGo]; have := h hs; simp only; omega⟩, by rw [Inst.exGo]; exact Int.le_refl _⟩
  | d + 1, st, l, n, h, h0, hn => by
    rw [Inst.exGo]
    split
    · exact ⟨fun hs => ⟨hs, by have := h hs; simp only; omega⟩, Int.le_refl _⟩
    · split
      · exact ⟨fun hs => ⟨hs, by have := h hs; simp only; omega⟩, Int.le_refl _⟩
      · rename_i c1 c2
        have hw := w64 (n + l.length) (by omega)
        obtain ⟨k1, k2, k3⟩ := look_ok (x := x) (l := l) h
        obtain ⟨i1, i2⟩ := exGo_up x most hm d (x.look st l) (frontL (x.next l st.2.2)) (IntKind.i64.wrap (n + l.length)) k1 (by omega) (by omega)
        refine ⟨fun hs => ?_, by omega⟩
        obtain ⟨j1, j2⟩ := i1 (k3 hs)
        exact ⟨j1, by omega⟩
theorem exGo_more (x : Inst) (most more : Int) (h1 : most ≤ more) (h2 : more ≤ 3000) : ∀ (d : Nat) (st : Node × Bool × Int) (l : List Node) (n : Int), stOk st → 0 ≤ n → n + 3000 * d < 9223372036854775808 →
    ((x.exGo most d st l n).2.2.1 = true → x.exGo more d st l n = x.exGo most d st l n) ∧
    ((x.exGo most d st l n).2.1 = true → (x.exGo more d st l n).2.1 = true ∧ (x.exGo more d st l n).1.cost ≤ (x.exGo most d st l n).1.cost) ∧ (x.exGo most d st l n).2.2.2 ≤ (x.exGo more d st l n).2.2.2
  | 0, st, l, n, h, _, _ => ⟨fun _ => rfl, fun hs => ⟨hs, Int.le_refl _⟩, Int.le_refl _⟩
  | d + 1, st, l, n, h, h0, hn => by
    by_cases c2 : l.length = 0
    · have e1 : ∀ m, x.exGo m (d + 1) st l n = (st.1, st.2.1, true, n) := fun m => by rw [Inst.exGo, if_pos c2]
      rw [e1, e1]
      exact ⟨fun _ => rfl, fun hs => ⟨hs, Int.le_refl _⟩, Int.le_refl _⟩
    · by_cases c3 : most < l.length
      · have e1 : x.exGo most (d + 1) st l n = (st.1, st.2.1, false, n) := by rw [Inst.exGo, if_neg c2, if_pos c3]
        obtain ⟨i1, i2⟩ := exGo_up x more h2 (d + 1) st l n h h0 hn
        rw [e1]
        refine ⟨fun hc => (by cases hc), fun hs => ?_, i2⟩
        obtain ⟨j1, j2⟩ := i1 hs
        have := h hs
        exact ⟨j1, by simp only; omega⟩
      · have hw := w64 (n + l.length) (by omega)
        obtain ⟨k1, k2, k3⟩ := look_ok (x := x) (l := l) h
        have e1 : x.exGo most (d + 1) st l n = x.exGo most d (x.look st l) (frontL (x.next l st.2.2)) (IntKind.i64.wrap (n + l.length)) := by rw [Inst.exGo, if_neg c2, if_neg c3]
        have e2 : x.exGo more (d + 1) st l n = x.exGo more d (x.look st l) (frontL (x.next l st.2.2)) (IntKind.i64.wrap (n + l.length)) := by rw [Inst.exGo, if_neg c2, if_neg (by omega)]
        rw [e1, e2]
        exact exGo_more x most more h1 h2 d _ _ _ k1 (by omega) (by omega)
theorem exact_more (x : Inst) (n : Node) (up most more : Int) (h1 : most ≤ more) (h2 : more ≤ 3000) :
    ((x.exact n up most).2.2.1 = true → x.exact n up more = x.exact n up most) ∧
    ((x.exact n up most).2.1 = true → (x.exact n up more).2.1 = true ∧ (x.exact n up more).1.cost ≤ (x.exact n up most).1.cost) ∧ (x.exact n up most).2.2.2 ≤ (x.exact n up more).2.2.2 := by
  have := meas_le x n.s
  exact exGo_more x most more h1 h2 _ _ _ _ (fun h => by cases h) (Int.le_refl _) (by omega)
end Go.Proofs.Ytlhmchdfmjfmgaa
