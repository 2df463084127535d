/- Parts of the proof: Sorted, SortedR, ExactP, Narrow, Ways, Find, Pot, Law15, NarrowP, Deep, WideP, Join, Tog, Sqz, SqzW, Set2, JoinR, TogR, SqzR, Own, Every, WideQ. -/
import Derived.Test.YtdjbapglfdacmaaGreatMH
set_option linter.unusedVariables false
/- Nodes in the order of what they cost at least: level.Sorted. -/
set_option maxRecDepth 4000
set_option maxHeartbeats 1000000
namespace Go.Proofs.YtdjbapglfdacmaaGreat
open Go Go.Proofs.YtdjbapglfdacmaaGreat.R
/-- Nodes in the order of what they cost at least; those that cost the same stay as they stood. -/
def Inst.sortN (x : Inst) (l : List Node) : List Node := isort x.of l
def Inst.keyT (x : Inst) (n : Node) : List T := n.t ++ [.i (x.of n)]
theorem Inst.keys_sort (x : Inst) (l : List Node) : isort κr (l.map x.keyT) = (x.sortN l).map x.keyT := by
  rw [← isort_map (κ := κr) x.keyT l]
  congr 2
theorem Inst.sortN_len (x : Inst) (l : List Node) : (x.sortN l).length = l.length := isort_len l
theorem Inst.sortN_mem {x : Inst} {l : List Node} {n : Node} : n ∈ x.sortN l ↔ n ∈ l := isort_mem
theorem sorted1_spec (x : Inst) (n : Node) (hl : x.stops.length < 2 ^ 31) (ho : n.s.ok) {σ : Nat → AObj} {nx q : Nat} (hq : q < nx) (hb : σ q = .box x.cs) : CallSpec P 119 [n.a, .ptr q 0] σ nx (.i (x.of n)) σ nx := by
  have hth := of_pure x n hl ho
  have e : σ = oput σ q (σ q) := by funext i; by_cases h : i = q <;> simp [oput, h]
  have h : CallSpec P 119 [n.a, .ptr q 0] σ nx (.i (x.of n)) (oput σ q (σ q)) nx := by
    refine spec_down Tryz.func119 rfl rfl (by simp [Tryz.f119]) hq (by rw [hb]; simp [bndO, bnd, bnd.bndL, Inst.cs]) (by simp [bnd]) fun hk B hB hnx hσ => ?_
    simp only [Tryz.f119] at hB ⊢
    have hne : ¬ q = nx := by omega
    refine K_run hB 100 ?_
    simp [go_sem, Node.a, Node.cs, hb, hne, Inst.cs]
    refine K_call rfl rfl rfl (args := [x.a, n.a]) (f := 26) (by simp [go_sem, Inst.a, Node.a, Node.cs]) (by simp [go_sem, hB]) ((hth).spec _ _) ?_
    refine K_run hB 100 ?_
    simp [go_sem]
    exact ⟨by simp [hne, hb, Inst.cs], fun i h1 h2 h3 => by omega⟩
  rw [← e] at h
  exact h
theorem sortedF_spec (x : Inst) (l : List Node) (hx : x.stops.length < 2 ^ 31) (hl : l.length < 2 ^ 31) (ho : ∀ n ∈ l, n.s.ok) {σ : Nat → AObj} {nx q : Nat} (hq : q < nx) (hb : σ q = .box x.cs) :
    CallSpec P 118 [.t (.sl (nodesT l)), .fn (.func 119) [] [.ptr q 0]] σ nx (.t (.sl (nodesT (x.sortN l)))) (oput σ q (.box x.cs)) nx := by
  refine spec_down Tryz.func118 rfl rfl (by simp [Tryz.f118]) hq (by simp [bndO, bnd, bnd.bndL, Inst.cs]) (by simp [bnd, bnd.bndL]) fun hk0 B hB hnx hσ => ?_
  simp only [Tryz.f118] at hB ⊢
  refine K_after ?_
  generalize hpost : (fun (e : Exit) (s : St) => ∃ t, Imp B s t ∧ _) = post
  have hil : (nodesT l).length = l.length := List.length_map _
  have hgt : ∀ (k : Nat) (h : k < l.length), (nodesT l)[k]'(by rw [hil]; exact h) = l[k].t := fun k h => nodesT_get l h
  generalize hX : nodesT l = X at *
  have hmost : mostLen = 4294967296 := rfl
  obtain ⟨K, hK⟩ : ∃ K, K = l.map x.keyT := ⟨_, rfl⟩
  have hKl : K.length = l.length := by rw [hK, List.length_map]
  refine K_run hB 100 ?_
  simp [go_sem, hil]
  refine K_own 5 11 (by simp [go_sem]) ?_
  refine K_loopP (α := Nat × Nat × (Nat → AObj) × Nat) (fun (k, a, σ', ny) => k ≤ l.length ∧ σ' a = .arr 11 (K.take k) ∧ nx ≤ a ∧ a < ny ∧ σ' q = .box x.cs ∧ ∀ i, i < nx → i ≠ q → σ' i = σ i)
    (fun (k, a, σ', ny) => ⟨sl [(1, .fn (.func 119) [] [.ptr q 0]), (5, .ref a), (11, .t (.sl X)), (12, .i l.length), (13, .i k)], σ', ny⟩) (fun a => l.length - a.1) (0, nx, _, nx + 1) ?_ (Imp.slots (by simp [go_sem, hil]) rfl rfl) ?_
  · exact ⟨Nat.zero_le _, by simp [oput], Nat.le_refl _, by omega, by simp [oput, show ¬ q = nx by omega, hb], fun i h1 h2 => by simp [oput, show ¬ i = nx by omega]⟩
  rintro ⟨k, a, σ', ny⟩ ⟨g1, g2, g3, g4, g5, g6⟩
  refine K_run hB 60 ?_
  simp [go_sem]
  refine fork_dec (fun hk => ?_) (fun hk => ?_)
  · have hkk : IntKind.i64.wrap ((k : Int) + 1) = ((k + 1 : Nat) : Int) := by rw [w64 ((k : Int) + 1) (by omega)]; rfl
    have hget : ∀ h : k < X.length, X[k]'h = l[k].t := fun h => hgt k hk
    have hmem := ho l[k] (List.getElem_mem _)
    have htk : K.take (k + 1) = K.take k ++ [x.keyT l[k]] := by rw [List.take_add_one, List.getElem?_eq_getElem (by omega)]; simp [hK]
    have hkl : (K.take k).length = k := by rw [List.length_take]; omega
    generalize K.take k = Kk at *
    generalize l[k] = n at *
    have ha : ¬ a = ny := by omega
    have hqn : ¬ q = ny := by omega
    have hs1 := fun σ'' (h : σ'' q = .box x.cs) => sorted1_spec x n hx hmem (σ := σ'') (nx := ny + 1) (q := q) (by omega) h
    have hcap : k + 1 ≤ mostLen := by omega
    simp [go_sem, hil, hk, hget, Node.t]
    refine K_drawnF [4, 7] [0, 1] rfl (by rw [hB]; kernel_rfl) (by kernel_rfl) fun ht hf' => ?_
    refine K_run hB 4 ?_
    simp [go_sem, ht, hf', Node.cs]
    refine K_dCall rfl rfl rfl (args := [n.a, .ptr q 0]) (f := 119) (by simp [go_sem, Node.a, Node.cs]) (hs1 _ (by simp [oput, hqn, g5])) (by decide) (okPends_does (by simp [go_sem, Node.cs])) ?_
    refine K_run hB 100 ?_
    simp [go_sem, ht, hf', g2, ha, hkl, hcap, hkk, show ¬ ny = a by omega]
    refine Next.mk (k + 1, ny + 1, _, ny + 2) ?_ (Imp.slots (by simp [go_sem]) rfl rfl) (by simp only; omega)
    exact ⟨by simp only; omega, by simp [oput, htk, Inst.keyT, Node.t], by simp only; omega, by simp only; omega, by simp [oput, hqn, g5, show ¬ q = a by omega, show ¬ q = ny + 1 by omega], fun i h1 h2 => by simp [oput, show ¬ i = ny by omega, show ¬ i = a by omega, show ¬ i = ny + 1 by omega, g6 i h1 h2]⟩
  · have : k = l.length := by omega
    subst this
    rw [← hKl, List.take_length, hK] at g2
    have hS := sortStable_spec (l.map x.keyT) (fun e he => by
      obtain ⟨n, _, rfl⟩ := List.mem_map.1 he
      exact ⟨n, x.of n, rfl⟩) (by rw [List.length_map]; exact hl) (nx := ny) g4 g2
    rw [x.keys_sort] at hS
    have hL := x.sortN_len l
    generalize x.sortN l = S at *
    have hkl : (S.map x.keyT).length = l.length := by rw [List.length_map, hL]
    have hkg : ∀ (k : Nat) (h : k < l.length), (S.map x.keyT)[k]'(by rw [hkl]; exact h) = (S[k]'(by rw [hL]; exact h)).t ++ [.i (x.of (S[k]'(by rw [hL]; exact h)))] := fun k h => by rw [List.getElem_map]; rfl
    simp [go_sem]
    refine K_run hB 100 ?_
    simp [go_sem]
    refine K_call rfl rfl rfl (args := [.ref a, cmpF]) (f := 148) (by simp [go_sem]) (by simp [go_sem, hB]) hS ?_
    refine K_run hB 100 ?_
    simp [go_sem, hkl]
    refine K_own 8 10 (by simp [go_sem]) ?_
    have hqa : ¬ q = a := by omega
    have hany : ¬ a = ny := by omega
    refine K_loopP (α := Nat × Nat × (Nat → AObj) × Nat) (fun (k, c, τ, nz) => k ≤ l.length ∧ τ c = .arr 10 (nodesT (S.take k)) ∧ τ a = .arr 11 (S.map x.keyT) ∧ nx ≤ c ∧ c < nz ∧ a < nz ∧ c ≠ a ∧ τ q = .box x.cs ∧ ∀ i, i < nx → i ≠ q → τ i = σ i)
      (fun (k, c, τ, nz) => ⟨sl [(8, .ref c), (28, .ref a), (29, .i l.length), (30, .i k)], τ, nz⟩) (fun a => l.length - a.1) (0, ny, _, ny + 1) ?_ (Imp.slots (by simp [go_sem, hkl]) rfl rfl) ?_
    · exact ⟨Nat.zero_le _, by simp [oput, nodesT], by simp [oput, hany], by omega, by omega, by omega, by omega, by simp [oput, show ¬ q = ny by omega, hqa, g5], fun i h1 h2 => by simp [oput, show ¬ i = ny by omega, show ¬ i = a by omega, g6 i h1 h2]⟩
    clear hS g1 g2 g5 g6
    rintro ⟨k, c, τ, nz⟩ ⟨g1, g2, g7, g8, g9, ga, gb, g5, g6⟩
    refine K_run hB 60 ?_
    simp [go_sem]
    refine fork_dec (fun hk => ?_) (fun hk => ?_)
    · have hkk : IntKind.i64.wrap ((k : Int) + 1) = ((k + 1 : Nat) : Int) := by rw [w64 ((k : Int) + 1) (by omega)]; rfl
      have hkS : k < S.length := by omega
      have htk : S.take (k + 1) = S.take k ++ [S[k]] := by rw [List.take_add_one, List.getElem?_eq_getElem hkS]; rfl
      have hget : ∀ h : k < (S.map x.keyT).length, (S.map x.keyT)[k]'h = S[k].t ++ [.i (x.of S[k])] := fun h => hkg k hk
      have htl : (nodesT (S.take k)).length = k := by rw [nodesT, List.length_map, List.length_take]; omega
      have hcap : k + 1 ≤ mostLen := by omega
      have q1 : k * 11 / 11 = k := by omega
      have q4 : k * 11 % 11 = 0 := by omega
      have hc : ¬ c = nz := by omega
      generalize S[k] = n at *
      simp [go_sem, g7, hkl, hk, hget, q1, q4, Node.t, g2, hc, htl, hcap, hkk]
      refine Next.mk (k + 1, nz + 1, _, nz + 2) ?_ (Imp.slots (by simp [go_sem]) rfl rfl) (by simp only; omega)
      exact ⟨by simp only; omega, by simp [oput, htk, nodesT, Node.t], by simp [oput, g7, show ¬ a = nz by omega, show ¬ a = c by omega, show ¬ a = nz + 1 by omega], by simp only; omega, by simp only; omega, by simp only; omega, by simp only; omega, by simp [oput, g5, show ¬ q = nz by omega, show ¬ q = c by omega, show ¬ q = nz + 1 by omega], fun i h1 h2 => by simp [oput, show ¬ i = nz by omega, show ¬ i = c by omega, show ¬ i = nz + 1 by omega, g6 i h1 h2]⟩
    · have : k = l.length := by omega
      subst this
      rw [← hL, List.take_length] at g2
      simp [go_sem]
      rw [← hpost]
      refine ⟨_, Imp.freeze (q := c) (sz := 10) (es := nodesT S) (by simp [go_sem, g2]), .inl rfl, ?_⟩
      simp [go_sem, frz1, frzO, show ¬ q = c by omega, g5]
      refine ⟨by omega, by simp [frz1.frzL, frz1, Inst.cs], fun y hy hyq => ?_⟩
      rw [if_neg (by omega), g6 y hy hyq]
      rcases hk0 y with e | ⟨e, _⟩
      · rw [e]
      · exact frzO_id (q := c) (es := nodesT S) (by omega) (σ y) e
theorem sorted_pure (x : Inst) (l : List Node) (hx : x.stops.length < 2 ^ 31) (hl : l.length < 2 ^ 31) (hn : ∀ n ∈ l, n.Fine) : Pure P 77 [x.a, .t (.sl (nodesT l))] (.t (.sl (nodesT (x.sortN l)))) := by
  refine pure_of Tryz.func77 rfl rfl (by simp [Tryz.f77]) (by simp [bnd, bnd.bndL, Inst.a]) (by simp [bnd, bnd.bndL]) fun B hB hnx => ?_
  simp only [Tryz.f77] at hB ⊢
  have hil : (nodesT l).length = l.length := List.length_map _
  have hgt : ∀ (k : Nat) (h : k < l.length), (nodesT l)[k]'(by rw [hil]; exact h) = l[k].t := fun k h => nodesT_get l h
  generalize hX : nodesT l = X at *
  have hmost : mostLen = 4294967296 := rfl
  refine K_run hB 100 ?_
  simp [go_sem, hil, Inst.a]
  refine K_own 5 10 (by simp [go_sem]) ?_
  refine K_loopP (α := Nat × Nat × (Nat → AObj) × Nat) (fun (k, a, σ', ny) => k ≤ l.length ∧ σ' a = .arr 10 (nodesT (l.take k)) ∧ 0 < a ∧ a < ny ∧ σ' 0 = .box x.cs)
    (fun (k, a, σ', ny) => ⟨sl [(2, .ptr 0 0), (5, .ref a), (8, .t (.sl X)), (9, .i l.length), (10, .i k)], σ', ny⟩) (fun a => l.length - a.1) (0, 1, _, 2) ?_ (Imp.slots (by simp [go_sem, hil]) rfl rfl) ?_
  · exact ⟨Nat.zero_le _, by simp [oput, nodesT], by omega, by omega, by simp [oput, Inst.cs]⟩
  rintro ⟨k, a, σ', ny⟩ ⟨g1, g2, g3, g4, g5⟩
  refine K_run hB 60 ?_
  simp [go_sem]
  refine fork_dec (fun hk => ?_) (fun hk => ?_)
  · have hkk : IntKind.i64.wrap ((k : Int) + 1) = ((k + 1 : Nat) : Int) := by rw [w64 ((k : Int) + 1) (by omega)]; rfl
    have hget : ∀ h : k < X.length, X[k]'h = l[k].t := fun h => hgt k hk
    have hfine := hn l[k] (List.getElem_mem _)
    have htk : l.take (k + 1) = l.take k ++ [l[k]] := by rw [List.take_add_one, List.getElem?_eq_getElem hk]; rfl
    have hkl : (nodesT (l.take k)).length = k := by rw [nodesT, List.length_map, List.length_take]; omega
    generalize l[k] = n at *
    have ha : ¬ a = ny := by omega
    have hown := own_pure n (by have := hfine.len; omega)
    have hcap : k + 1 ≤ mostLen := by omega
    simp [go_sem, hil, hk, hget, Node.t]
    refine K_call rfl rfl rfl (args := [n.a]) (f := 74) (by simp [go_sem, Node.a, Node.cs]) (by simp [go_sem, hB]) ((hown).spec _ _) ?_
    refine K_run hB 100 ?_
    simp [go_sem, Node.a, Node.cs, g2, ha, hkl, hcap, hkk]
    refine Next.mk (k + 1, ny + 1, _, ny + 2) ?_ (Imp.slots (by simp [go_sem]) rfl rfl) (by simp only; omega)
    exact ⟨by simp only; omega, by simp [oput, htk, nodesT, Node.t], by simp only; omega, by simp only; omega, by simp [oput, g5, show ¬ 0 = ny by omega, show ¬ 0 = a by omega]⟩
  · have : k = l.length := by omega
    subst this
    rw [List.take_length] at g2
    have hS : ∀ σ nx, 0 < nx → σ 0 = .box x.cs → CallSpec P 118 [.t (.sl (nodesT l)), .fn (.func 119) [] [.ptr 0 0]] σ nx (.t (.sl (nodesT (x.sortN l)))) (oput σ 0 (.box x.cs)) nx := fun σ nx h1 h2 => sortedF_spec x l hx hl (fun n h => (hn n h).ok) h1 h2
    rw [hX] at hS
    obtain ⟨σ5, hσ5⟩ : ∃ σ5 : Nat → AObj, σ5 = fun j => if j = a then AObj.dead else frzO a X (σ' j) := ⟨_, rfl⟩
    have f1 : σ5 0 = .box x.cs := by simp [hσ5, show ¬ 0 = a by omega, g5, frzO, frz1, frz1.frzL, Inst.cs]
    have hSS := hS σ5 ny (by omega) f1
    simp [go_sem]
    refine K_imp ((Imp.freeze (q := a) (sz := 10) (es := X) (by simp [g2, hX])).trans (Imp.slots (l := [(2, .ptr 0 0), (20, .t (.sl X)), (21, .fn (.func 119) [] [.ptr 0 0])]) (by simp [go_sem, frz1, frz1.frzL]) hσ5 rfl)) ?_
    refine K_run hB 100 ?_
    simp [go_sem]
    refine K_call rfl rfl rfl (args := [.t (.sl X), .fn (.func 119) [] [.ptr 0 0]]) (f := 118) (by simp [go_sem]) (by simp [go_sem, hB]) hSS ?_
    refine K_run hB 100 ?_
    simp [go_sem]
end Go.Proofs.YtdjbapglfdacmaaGreat

/- Nodes in the order of what they cost at least: haulierref14.Sorted. -/
set_option maxRecDepth 4000
set_option maxHeartbeats 1000000
namespace Go.Proofs.YtdjbapglfdacmaaGreat
open Go Go.Proofs.YtdjbapglfdacmaaGreat.R
theorem rsorted_pure (x : Inst) (l : List Node) (hx : x.stops.length < 2 ^ 31) (hl : l.length < 2 ^ 31) (hn : ∀ n ∈ l, n.s.ok) : Pure P 85 [x.a, .t (.sl (nodesT l))] (.t (.sl (nodesT (x.sortN l)))) := by
  refine pure_of Tryz.func85 rfl rfl (by simp [Tryz.f85]) (by simp [bnd, bnd.bndL, Inst.a]) (by simp [bnd, bnd.bndL]) fun B hB hnx => ?_
  simp only [Tryz.f85] at hB ⊢
  have hil : (nodesT l).length = l.length := List.length_map _
  have hgt : ∀ (k : Nat) (h : k < l.length), (nodesT l)[k]'(by rw [hil]; exact h) = l[k].t := fun k h => nodesT_get l h
  generalize hX : nodesT l = X at *
  have hmost : mostLen = 4294967296 := rfl
  refine K_run hB 100 ?_
  simp [go_sem, Inst.a]
  refine K_loopP (α := Nat × (Nat → AObj) × Nat) (fun (k, σ, nx) => k ≤ l.length ∧ σ 0 = .box x.cs ∧ 0 < nx) (fun (k, σ, nx) => ⟨sl [(1, .t (.sl X)), (2, .ptr 0 0), (5, .t (.sl (nodesT (x.sortN (l.take k))))), (6, .i k)], σ, nx⟩) (fun a => l.length - a.1) (0, _, 1) ?_ (Imp.loose.trans (Imp.slots (by simp [go_sem, loosen, nodesT, Inst.sortN, isort]) rfl rfl)) ?_
  · exact ⟨Nat.zero_le _, by simp [oput, Inst.cs], by omega⟩
  rintro ⟨k, σ, nx⟩ ⟨g1, g2, g3⟩
  refine K_run hB 60 ?_
  simp [go_sem, hil]
  refine fork_dec (fun hk => ?_) (fun hk => ?_)
  · have hkk : IntKind.i64.wrap ((k : Int) + 1) = ((k + 1 : Nat) : Int) := by rw [w64 ((k : Int) + 1) (by omega)]; rfl
    have hget : ∀ h : k < X.length, X[k]'h = l[k].t := fun h => hgt k hk
    have hok := hn l[k] (List.getElem_mem _)
    have htk : x.sortN (l.take (k + 1)) = insK x.of l[k] (x.sortN (l.take k)) := by rw [List.take_add_one, List.getElem?_eq_getElem hk]; exact isort_snoc _ _
    have hsrt : Srt x.of (x.sortN (l.take k)) := (isort_sort _).srt
    have hOok : ∀ m ∈ x.sortN (l.take k), m.s.ok := fun m hm => hn m (List.mem_of_mem_take (Inst.sortN_mem.1 hm))
    have hOl : (x.sortN (l.take k)).length = k := by rw [Inst.sortN_len, List.length_take]; omega
    generalize l[k] = n at *
    generalize x.sortN (l.take k) = O at *
    have hof := rof_pure x n hx hok
    have hYl : (nodesT O).length = k := by rw [nodesT, List.length_map, hOl]
    have hY1 : ∀ y ∈ nodesT O, y.length = 10 := nodesT_len O
    have hYg : ∀ (k : Nat) (h : k < O.length), (nodesT O)[k]'(by rw [hYl, ← hOl]; exact h) = O[k].t := fun k h => nodesT_get O h
    generalize hY : nodesT O = Y at *
    have hn0 : ¬ 0 = nx := by omega
    simp [go_sem]
    refine K_drawn [] rfl (by rw [hB]; kernel_rfl) ?_
    refine K_run hB 100 ?_
    simp [go_sem, hil, hk, hget, g2, Inst.cs, Node.t]
    refine K_dCallP rfl rfl rfl (args := [x.a, n.a]) (f := 83) (by simp [go_sem, Inst.a, Node.a, Node.cs]) (hof) ?_
    refine K_run hB 100 ?_
    simp [go_sem, hYl]
    refine K_loopP (α := Nat) (fun a => a ≤ k ∧ ∀ m ∈ O.drop a, x.of n < x.of m) (fun a => ⟨sl [(1, .t (.sl X)), (2, .ptr 0 0), (5, .t (.sl Y)), (6, .i k), (7, .i (x.of n)), (8, .i a)], σ, nx⟩) (fun a => a) k ⟨Nat.le_refl _, by rw [← hOl, List.drop_length]; intro m hm; cases hm⟩ (Imp.slots (by simp [go_sem]) rfl rfl) ?_
    rintro a ⟨f1, f2⟩
    have hfin : (∀ m ∈ O.take a, x.of m ≤ x.of n) → nodesT (x.sortN (l.take (k + 1))) = Y.take a ++ ([n.t] ++ Y.drop a) := fun h => by
      have e : x.sortN (l.take (k + 1)) = O.take a ++ n :: O.drop a := by
        rw [htk]
        conv => lhs; rw [← List.take_append_drop a O]
        exact insK_split h f2
      rw [e, ← hY]
      simp [nodesT, List.map_take, List.map_drop]
    have hA1s : ∀ y ∈ Y.take a, y.length = 10 := fun y h => hY1 y (List.mem_of_mem_take h)
    have hA2s : ∀ y ∈ Y.drop a, y.length = 10 := fun y h => hY1 y (List.mem_of_mem_drop h)
    have hA1l : (Y.take a).length = a := by rw [List.length_take]; omega
    have hA2l : (Y.drop a).length = k - a := by rw [List.length_drop]; omega
    obtain ⟨A1, hA1⟩ : ∃ A1, A1 = Y.take a := ⟨_, rfl⟩
    obtain ⟨A2, hA2⟩ : ∃ A2, A2 = Y.drop a := ⟨_, rfl⟩
    rw [← hA1] at hA1s hA1l
    rw [← hA2] at hA2s hA2l
    rw [← hA1, ← hA2] at hfin
    have hak : (a : Int) ≤ k := by omega
    have hcap1 : a ≤ mostLen := by omega
    have hcap2 : a + 1 ≤ mostLen := by omega
    have hcap3 : a + 1 + (k - a) ≤ mostLen := by omega
    have hn1 : ¬ 0 = nx + 1 := by omega
    have hn2 : ¬ 0 = nx + 2 := by omega
    by_cases c0 : 0 < a
    rotate_left
    · have h0 : a = 0 := by omega
      have hfin := hfin (by rw [h0]; intro m hm; cases hm)
      refine K_run hB 60 ?_
      simp [go_sem, c0]
      refine K_drawn [] rfl (by rw [hB]; kernel_rfl) ?_
      refine K_run hB 100 ?_
      simp [go_sem, c0, if_pos hY1, f1, hA1.symm, hA2.symm, hA1l, hA2l, hcap1, hcap2, hcap3, if_pos hA1s, if_pos hA2s, hil, hk, hget, Node.t, hkk, hYl, hak]
      refine Next.mk (k + 1, _, nx + 3) ?_ ((Imp.freeze (q := nx + 2) (sz := 10) (es := A1 ++ ([n.t] ++ A2)) (by simp [oput, Node.t])).trans (Imp.slots (by simp [go_sem, frz1, frz1.frzL, hfin]) rfl rfl)) (by simp only; omega)
      exact ⟨by simp only; omega, by simp [oput, frzO, frz1, frz1.frzL, Inst.cs, g2, hn0, hn1, hn2], by simp only; omega⟩
    · obtain ⟨b, rfl⟩ : ∃ b, a = b + 1 := ⟨a - 1, by omega⟩
      have hbO : b < O.length := by omega
      have hb : b < k := by omega
      have hdb : O.drop b = O[b] :: O.drop (b + 1) := List.drop_eq_getElem_cons hbO
      have hobk := hOok O[b] (List.getElem_mem _)
      have hgb : ∀ h : b < Y.length, Y[b]'h = O[b].t := fun h => hYg b hbO
      have hpre : ∀ m ∈ O.take (b + 1), x.of m ≤ x.of O[b] := fun m hm => by
        obtain ⟨i, hi, rfl⟩ := List.mem_iff_getElem.1 hm
        rw [List.length_take] at hi
        rw [List.getElem_take]
        by_cases e : i = b
        · subst e; exact Int.le_refl _
        · exact List.pairwise_iff_getElem.1 hsrt i b (by omega) hbO (by omega)
      generalize O[b] = m at *
      have hofm := rof_pure x m hx hobk
      have w1 : IntKind.i64.wrap ((b : Int) + 1 - 1) = b := by rw [w64 _ (by omega)]; omega
      have w2 : IntKind.i64.wrap (b : Int) = b := w64 _ (by omega)
      have c2' : (0 : Int) ≤ (b : Int) + 1 := by omega
      have c3' : (b : Int) + 1 ≤ k := by omega
      have c0' : (0 : Int) < (b : Int) + 1 := by omega
      refine K_run hB 60 ?_
      simp [go_sem]
      refine K_drawn [] rfl (by rw [hB]; kernel_rfl) ?_
      refine K_run hB 100 ?_
      simp [go_sem, c0, c0', w1, w2, hYl, hb, hgb, g2, Inst.cs, Node.t]
      refine K_dCallP rfl rfl rfl (args := [x.a, m.a]) (f := 83) (by simp [go_sem, Inst.a, Node.a, Node.cs]) (hofm) ?_
      by_cases c1 : x.of n < x.of m
      · refine K_run hB 100 ?_
        simp [go_sem, c1, w1, w2]
        refine Next.mk b ⟨by omega, fun y hy => ?_⟩ (Imp.slots (by simp [go_sem]) rfl rfl) (by omega)
        rw [hdb] at hy
        rcases List.mem_cons.1 hy with rfl | hy
        · exact c1
        · exact f2 y hy
      · have hfin := hfin (fun y hy => by have := hpre y hy; omega)
        refine K_run hB 100 ?_
        simp [go_sem, c1, c2', c3', if_pos hY1, f1, hA1.symm, hA2.symm, hA1l, hA2l, hcap1, hcap2, hcap3, if_pos hA1s, if_pos hA2s, hil, hk, hget, Node.t, hkk, hYl, hak]
        refine Next.mk (k + 1, _, nx + 3) ?_ ((Imp.freeze (q := nx + 2) (sz := 10) (es := A1 ++ ([n.t] ++ A2)) (by simp [oput, Node.t])).trans (Imp.slots (by simp [go_sem, frz1, frz1.frzL, hfin]) rfl rfl)) (by simp only; omega)
        exact ⟨by simp only; omega, by simp [oput, frzO, frz1, frz1.frzL, Inst.cs, g2, hn0, hn1, hn2], by simp only; omega⟩
  · have : k = l.length := by omega
    subst this
    simp [go_sem]
end Go.Proofs.YtdjbapglfdacmaaGreat

/- Looking at all: the plain part. -/
set_option maxRecDepth 4000
namespace Go.Proofs.YtdjbapglfdacmaaGreat
open Go Go.Proofs.YtdjbapglfdacmaaGreat.R
def Inst.base (x : Inst) (s : State) : Nat := ((List.range (2 * x.pairs.toNat + 1)).filter fun j : Nat => decide (1 ≤ j) && !hasB s.must (j : Int)).length + (x.cars - s.car).toNat
theorem base_move {x : Inst} {s : State} {j : Int} (h : (x.move s j).2.2 = true) : x.base (x.move s j).1 < x.base s := by
  by_cases e : j = 0
  · subst e
    obtain ⟨_, _, h3, h4⟩ := move_home h
    rw [h4]
    simp only [Inst.stayB, Bool.or_eq_false_iff, decide_eq_false_iff_not] at h3
    simp only [Inst.base, Inst.homeS]
    have := h3.1.1.2
    omega
  · obtain ⟨h1, h2, h3, h4, h5, _, _, h6⟩ := move_pos h e
    obtain ⟨p, hx⟩ := x.fit h1
    have := hx.few
    have := hx.pairs
    rw [h6]
    simp only [Inst.lateB, Bool.or_eq_false_iff] at h5
    simp only [Inst.base, Inst.rvisit]
    obtain ⟨k, rfl⟩ : ∃ k : Nat, j = k := ⟨j.toNat, by omega⟩
    refine Nat.add_lt_add_right (filter_lt _ (a := k) (List.mem_range.2 (by omega)) ?_ ?_ ?_) _
    · rw [h5.1]
      simp only [Bool.not_false, Bool.and_true, decide_eq_true_eq]
      omega
    · rw [has_withN (by omega)]
      simp
    · intro b
      rw [has_withN (by omega)]
      simp only [Bool.and_eq_true, Bool.not_eq_true', Bool.or_eq_false_iff]
      exact fun h => ⟨h.1, h.2.1⟩
def Inst.meas (x : Inst) (s : State) : Nat := if x.may = true ∧ s.mayB x = true then x.base s else 0
theorem move_may {x : Inst} {s : State} {j : Int} (h : (x.move s j).2.2 = true) : x.may = true ∧ s.mayB x = true := by
  by_cases e : j = 0
  · subst e
    exact ⟨(move_home h).1, (move_home h).2.1⟩
  · exact ⟨(move_pos h e).1, (move_pos h e).2.1⟩
theorem meas_move {x : Inst} {s : State} {j : Int} (h : (x.move s j).2.2 = true) : x.meas (x.move s j).1 < x.meas s := by
  have h1 := base_move h
  have h2 := move_may h
  have : x.meas (x.move s j).1 ≤ x.base (x.move s j).1 := by
    unfold Inst.meas
    split <;> omega
  have : x.meas s = x.base s := by rw [Inst.meas, if_pos h2]
  omega
theorem meas_le (x : Inst) (s : State) : x.meas s ≤ 40 := by
  unfold Inst.meas
  split
  · rename_i h
    obtain ⟨p, hx⟩ := x.fit h.1
    have h1 := hx.few
    have h2 := hx.pairs
    have h3 := hx.cars
    have h4 := h.2
    simp only [State.mayB, Bool.and_eq_true, decide_eq_true_eq] at h4
    have h5 := h4.1.1.1.1.1.2
    have h6 : ((List.range (2 * x.pairs.toNat + 1)).filter fun j : Nat => decide (1 ≤ j) && !hasB s.must (j : Int)).length ≤ 2 * x.pairs.toNat + 1 := by
      refine Nat.le_trans (List.length_filter_le _ _) ?_
      rw [List.length_range]; exact Nat.le_refl _
    unfold Inst.base
    omega
  · omega
def Inst.look (x : Inst) (st : Node × Bool × Int) (l : List Node) : Node × Bool × Int :=
  if (x.bests l).2 = true ∧ (x.bests l).1.cost < st.2.2 then ((x.bests l).1, true, (x.bests l).1.cost) else st
def Inst.exGo (x : Inst) (most : Int) : Nat → Node × Bool × Int → List Node → Int → Node × Bool × Bool × Int
  | 0, st, _, n => (st.1, st.2.1, true, n)
  | d + 1, st, l, n => if l.length = 0 then (st.1, st.2.1, true, n) else if most < l.length then (st.1, st.2.1, false, n) else
    x.exGo most d (x.look st l) (frontL (x.next l st.2.2)) (IntKind.i64.wrap (n + l.length))
def Inst.exact (x : Inst) (n : Node) (up most : Int) : Node × Bool × Bool × Int := x.exGo most (x.meas n.s + 1) (Node.zero, false, up) [n] 0
/-- What holds of a level. -/
structure Level (x : Inst) (l : List Node) (d K : Nat) : Prop where
  ok : ∀ n ∈ l, n.s.ok
  deep : ∀ n ∈ l, x.meas n.s < d
  path : ∀ n ∈ l, n.path.length + d ≤ K
theorem Level.next {x : Inst} {l : List Node} {d K : Nat} (h : Level x l (d + 1) K) (up : Int) : Level x (frontL (x.next l up)) d K := by
  have key : ∀ m ∈ frontL (x.next l up), ∃ n ∈ l, ∃ j, (x.move n.s j).2.2 = true ∧ m = x.child n j := by
    intro m hm
    obtain ⟨n, hn, j, hj, e, _⟩ := next_mem ((front_inv _).sub m hm)
    exact ⟨n, hn, j, moves_mem hj, e⟩
  refine ⟨?_, ?_, ?_⟩
  · intro m hm
    obtain ⟨n, hn, j, hj, rfl⟩ := key m hm
    exact move_ok x j (h.ok n hn)
  · intro m hm
    obtain ⟨n, hn, j, hj, rfl⟩ := key m hm
    have := meas_move hj
    have := h.deep n hn
    show x.meas (x.move n.s j).1 < d
    omega
  · intro m hm
    obtain ⟨n, hn, j, hj, rfl⟩ := key m hm
    have := h.path n hn
    show (n.path ++ [j]).length + d ≤ K
    rw [List.length_append]
    simp only [List.length_cons, List.length_nil]
    omega
theorem Level.empty {x : Inst} {l : List Node} {K : Nat} (h : Level x l 0 K) : l = [] := by
  cases l with
  | nil => rfl
  | cons n l => exact absurd (h.deep n List.mem_cons_self) (by omega)
end Go.Proofs.YtdjbapglfdacmaaGreat

/- A good plan, by looking at few: the plain function, the program's, the document's. -/
set_option maxRecDepth 4000
set_option maxHeartbeats 1000000
namespace Go.Proofs.YtdjbapglfdacmaaGreat
open Go Go.Proofs.YtdjbapglfdacmaaGreat.R
/-- The level behind one. -/
def Inst.few (x : Inst) (W : Nat) (l : List Node) (up : Int) : List Node := (x.sortN (x.next l up)).take W
theorem few_mem {x : Inst} {W : Nat} {l : List Node} {up : Int} {n : Node} (h : n ∈ x.few W l up) : n ∈ x.next l up := Inst.sortN_mem.1 (List.mem_of_mem_take h)
theorem Level.few {x : Inst} {l : List Node} {d K : Nat} (h : Level x l (d + 1) K) (W : Nat) (up : Int) : Level x (x.few W l up) d K := by
  have key : ∀ m ∈ x.few W l up, ∃ n ∈ l, ∃ j, (x.move n.s j).2.2 = true ∧ m = x.child n j := by
    intro m hm
    obtain ⟨n, hn, j, hj, e, _⟩ := next_mem (few_mem hm)
    exact ⟨n, hn, j, moves_mem hj, e⟩
  refine ⟨?_, ?_, ?_⟩
  · intro m hm
    obtain ⟨n, hn, j, hj, rfl⟩ := key m hm
    exact move_ok x j (h.ok n hn)
  · intro m hm
    obtain ⟨n, hn, j, hj, rfl⟩ := key m hm
    have := meas_move hj
    have := h.deep n hn
    show x.meas (x.move n.s j).1 < d
    omega
  · intro m hm
    obtain ⟨n, hn, j, hj, rfl⟩ := key m hm
    have := h.path n hn
    show (n.path ++ [j]).length + d ≤ K
    rw [List.length_append]
    simp only [List.length_cons, List.length_nil]
    omega
end Go.Proofs.YtdjbapglfdacmaaGreat

/- What can follow a state, and end; what covers a state can be followed by the same. -/
set_option maxRecDepth 4000
namespace Go.Proofs.YtdjbapglfdacmaaGreat
open Go Go.Proofs.YtdjbapglfdacmaaGreat.R
/-- Moves that can follow a state, and end, and what they cost in all. -/
def Inst.way (x : Inst) : List Int → State → Int → Prop
  | [], s, c => (x.endS s).2 = true ∧ c = (x.endS s).1
  | j :: l, s, c => (x.move s j).2.2 = true ∧ ∃ d, x.way l (x.move s j).1 d ∧ c = (x.move s j).2.1 + d
theorem way_app {x : Inst} : ∀ {l : List Int} {s t : State} {c0 c1 : Int} {m : List Int} {d : Int}, 0 ≤ c0 → c0 + 14143 * l.length < 9223372036854775808 → x.goes l s c0 = some (t, c1) → x.way m t d → x.way (l ++ m) s (c1 - c0 + d)
  | [], s, t, c0, c1, m, d, _, _, h, he => by
    rw [Inst.goes] at h
    cases h
    have : c0 - c0 + d = d := by omega
    rw [this]
    exact he
  | j :: l, s, t, c0, c1, m, d, h0, hl, h, he => by
    rw [Inst.goes] at h
    split at h
    · rename_i hm
      have hc := move_cost hm
      rw [List.length_cons] at hl
      rw [w64 _ (by omega)] at h
      exact ⟨hm, _, way_app (by omega) (by omega) h he, by omega⟩
    · cases h
/-- What no state of an instance has less of. -/
structure State.Pos (s : State) : Prop where
  car : 1 ≤ s.car
  time : 0 ≤ s.time
  load : 0 ≤ s.load
theorem within_with {a b k : Nat} (hk : k ≤ 63) (h : withinB a b = true) : withinB (withN a k) (withN b k) = true := by
  rw [withinB, List.all_eq_true] at *
  intro i hi
  have := h i hi
  rw [with_bit hk, with_bit hk]
  revert this
  cases a.testBit i <;> cases b.testBit i <;> cases decide (k = i) <;> simp
theorem within_without {a b k : Nat} (hk : k ≤ 63) (h : withinB a b = true) : withinB (withoutN a k) (withoutN b k) = true := by
  rw [withinB, List.all_eq_true] at *
  intro i hi
  have := h i hi
  have hi' := List.mem_range.1 hi
  rw [without_bit hk hi', without_bit hk hi']
  revert this
  cases a.testBit i <;> cases b.testBit i <;> cases decide (k = i) <;> simp
theorem within_zero {a : Nat} (ha : a < 2 ^ 64) (h : withinB a 0 = true) : a = 0 := by
  refine Nat.eq_of_testBit_eq fun i => ?_
  by_cases hi : i < 64
  · rw [withinB, List.all_eq_true] at h
    have := h i (List.mem_range.2 hi)
    revert this
    cases a.testBit i <;> simp
  · rw [Nat.zero_testBit]
    exact Nat.testBit_lt_two_pow (Nat.lt_of_lt_of_le ha (Nat.pow_le_pow_right (by omega) (by omega)))
theorem cov_mk {a b : State} (e1 : a.spot = b.spot) (e2 : withinB a.must b.must = true) (e3 : withinB a.on b.on = true) (e4 : withinB b.can a.can = true) (e5 : a.car ≤ b.car) (e6 : a.time ≤ b.time) (e7 : a.load ≤ b.load) (e8 : a.first ≤ b.first) : coversB a b = true := by
  simp only [coversB, Bool.and_eq_true, decide_eq_true_eq]
  exact ⟨⟨⟨⟨⟨⟨⟨e1, e2⟩, e3⟩, e4⟩, e5⟩, e6⟩, e7⟩, e8⟩
theorem cov_may {x : Inst} {a b : State} (h : coversB a b = true) (hp : a.Pos) (hb : b.mayB x = true) : a.mayB x = true := by
  simp only [coversB, Bool.and_eq_true, decide_eq_true_eq] at h
  simp only [State.mayB, Bool.and_eq_true, decide_eq_true_eq] at hb ⊢
  have := hp.car
  have := hp.time
  have := hp.load
  omega
theorem cov_home {x : Inst} {a b : State} (hcov : coversB a b = true) (hp : a.Pos) (ho : a.ok) (h : (x.move b 0).2.2 = true) :
    x.move a 0 = (x.homeS a, far (x.stop b.spot) (x.stop 0), true) ∧ coversB (x.homeS a) (x.homeS b) = true ∧ (x.homeS a).Pos := by
  have hc := hcov
  simp only [coversB, Bool.and_eq_true, decide_eq_true_eq] at hc
  obtain ⟨⟨⟨⟨⟨⟨⟨e1, e2⟩, e3⟩, e4⟩, e5⟩, e6⟩, e7⟩, e8⟩ := hc
  obtain ⟨h1, h2, h3, h4⟩ := move_home h
  obtain ⟨p, hx⟩ := x.fit h1
  have hpp := hx.pairs
  have ha := cov_may hcov hp h2
  have hs : x.stayB a = false := by
    simp only [Inst.stayB, Bool.or_eq_false_iff, decide_eq_false_iff_not] at h3 ⊢
    obtain ⟨⟨⟨⟨a1, a2⟩, a3⟩, a4⟩, a5⟩ := h3
    have hon : a.on = 0 := by
      have : b.on = 0 := by omega
      rw [this] at e3
      exact within_zero ho.on e3
    refine ⟨⟨⟨⟨by rw [e1]; exact a1, by omega⟩, by omega⟩, ?_⟩, by rw [e1]; omega⟩
    cases hq : x.allB a.must with
    | false => rfl
    | true =>
      have := within_trans hq e2
      rw [Inst.allB] at a4
      rw [a4] at this
      cases this
  have hto : x.to a 0 = (x.homeS a, true) := by rw [Inst.to, if_pos rfl, Inst.home, if_neg (by rw [hs]; simp)]
  have hmv := move_mk (j := 0) h1 ha (by omega) (by rw [hto])
  rw [hto, e1] at hmv
  have h5 := (hx.at (j := 0) (by omega) (by omega)).ready
  have h6 := hp.car
  refine ⟨hmv, cov_mk (a := x.homeS a) (b := x.homeS b) rfl e2 e3 e4 ?_ ?_ ?_ e8, ⟨?_, ?_, ?_⟩⟩ <;> simp only [Inst.homeS] <;> omega
theorem cov_pos {x : Inst} {a b : State} {j : Int} (hj : j ≠ 0) (hcov : coversB a b = true) (hp : a.Pos) (h : (x.move b j).2.2 = true) :
    x.move a j = (x.rvisit a j (x.begins a j), far (x.stop b.spot) (x.stop j), true) ∧ coversB (x.rvisit a j (x.begins a j)) (x.rvisit b j (x.begins b j)) = true ∧ (x.rvisit a j (x.begins a j)).Pos := by
  have hc := hcov
  simp only [coversB, Bool.and_eq_true, decide_eq_true_eq] at hc
  obtain ⟨⟨⟨⟨⟨⟨⟨e1, e2⟩, e3⟩, e4⟩, e5⟩, e6⟩, e7⟩, e8⟩ := hc
  obtain ⟨h1, h2, h3, h4, h5, h6, h7, h8⟩ := move_pos h hj
  obtain ⟨p, hx⟩ := x.fit h1
  have hpp := hx.pairs
  have hfew := hx.few
  have ha := cov_may hcov hp h2
  have hbe : x.begins a j ≤ x.begins b j := by
    unfold Inst.begins
    rw [e1]
    omega
  have k1 : x.lateB a j = false := by
    simp only [Inst.lateB, Bool.or_eq_false_iff, decide_eq_false_iff_not] at h5 ⊢
    refine ⟨?_, by omega⟩
    cases hq : hasB a.must j with
    | false => rfl
    | true =>
      have := within_has e2 j hq
      rw [h5.1] at this
      cases this
  have k2 : j ≤ x.pairs → x.fullB a j = false := fun hh => by
    have := h6 hh
    simp only [Inst.fullB, Bool.or_eq_false_iff, Bool.and_eq_false_iff, decide_eq_false_iff_not] at this ⊢
    refine ⟨by omega, ?_⟩
    rcases this.2 with h9 | h9
    · exact .inl (by rw [e1]; exact h9)
    · exact .inr (by omega)
  have k3 : x.pairs < j → x.emptyB a j = false := fun hh => by
    have := h7 hh
    simp only [Inst.emptyB, Bool.or_eq_false_iff, Bool.not_eq_false', decide_eq_false_iff_not] at this ⊢
    exact ⟨by rw [e1]; exact this.1, within_has e4 _ this.2⟩
  have hto := to_visit (x := x) (s := a) hj k1 k2 k3
  have hmv := move_mk (j := j) h1 ha (by omega) (by rw [hto])
  rw [hto, e1] at hmv
  have h9 := (hx.at (j := j) (by omega) (by omega)).service
  have h10 := (far_le (x.stop a.spot) (x.stop j)).1
  have h11 := hp.time
  have h12 := hp.car
  have h13 : 0 ≤ x.begins a j := by unfold Inst.begins; omega
  obtain ⟨k, hk⟩ : ∃ k : Nat, j = k := ⟨j.toNat, by omega⟩
  refine ⟨hmv, ?_, ⟨?_, ?_, ?_⟩⟩
  · generalize x.begins a j = ta at *
    generalize x.begins b j = tb at *
    generalize x.stop j = sj at *
    refine cov_mk ?_ ?_ ?_ ?_ ?_ ?_ ?_ ?_
    · simp only [Inst.rvisit]
    · simp only [Inst.rvisit]
      rw [hk]
      exact within_with (by omega) e2
    · simp only [Inst.rvisit]
      rw [hk]
      split
      · exact within_with (by omega) e3
      · obtain ⟨q, hq⟩ : ∃ q : Nat, (k : Int) - x.pairs = q := ⟨((k : Int) - x.pairs).toNat, by omega⟩
        rw [hq]
        exact within_without (by omega) e3
    · simp only [Inst.rvisit]
      rw [hk]
      exact within_with (by omega) e4
    · simp only [Inst.rvisit]
      exact e5
    · simp only [Inst.rvisit]
      omega
    · simp only [Inst.rvisit]
      omega
    · simp only [Inst.rvisit]
      rw [e1]
      split
      · exact Int.le_refl _
      · exact e8
  · simp only [Inst.rvisit]; exact h12
  · simp only [Inst.rvisit]; omega
  · simp only [Inst.rvisit]; omega
theorem cov_move {x : Inst} {a b : State} {j : Int} (hc : coversB a b = true) (hp : a.Pos) (ho : a.ok) (h : (x.move b j).2.2 = true) :
    (x.move a j).2.2 = true ∧ (x.move a j).2.1 = (x.move b j).2.1 ∧ coversB (x.move a j).1 (x.move b j).1 = true ∧ (x.move a j).1.Pos := by
  by_cases hj : j = 0
  · subst hj
    obtain ⟨g1, g2, g3⟩ := cov_home hc hp ho h
    rw [g1, (move_home h).2.2.2]
    exact ⟨rfl, rfl, g2, g3⟩
  · obtain ⟨g1, g2, g3⟩ := cov_pos hj hc hp h
    rw [g1, (move_pos h hj).2.2.2.2.2.2.2]
    exact ⟨rfl, rfl, g2, g3⟩
theorem pos_move {x : Inst} {s : State} {j : Int} (hp : s.Pos) (ho : s.ok) (h : (x.move s j).2.2 = true) : (x.move s j).1.Pos := (cov_move (covers_refl s) hp ho h).2.2.2
end Go.Proofs.YtdjbapglfdacmaaGreat

/- What looking at all finds: the plain law. -/
set_option maxRecDepth 4000
namespace Go.Proofs.YtdjbapglfdacmaaGreat
open Go Go.Proofs.YtdjbapglfdacmaaGreat.R
/-- What is known of the nodes of a level. -/
structure Lev (x : Inst) (l : List Node) (d : Nat) : Prop where
  ok : ∀ n ∈ l, n.s.ok
  deep : ∀ n ∈ l, x.meas n.s < d
  pos : ∀ n ∈ l, n.s.Pos
  seen : ∀ n ∈ l, n.s.seenAt
  cost : ∀ n ∈ l, 0 ≤ n.cost ∧ n.cost + 14143 * (d : Int) ≤ 1152921504606846976
theorem child_cost {x : Inst} {l : List Node} {d : Nat} (h : Lev x l (d + 1)) {n : Node} (hn : n ∈ l) {j : Int} (hj : (x.move n.s j).2.2 = true) : (x.child n j).cost = n.cost + (x.move n.s j).2.1 := by
  have h1 := h.cost n hn
  have h2 := move_cost hj
  show sumI [n.cost, (x.move n.s j).2.1] = _
  rw [sumI_two h1.1 h2.1 (by omega)]
theorem Lev.sub {x : Inst} {l m : List Node} {d : Nat} (h : Lev x l d) (hs : ∀ n ∈ m, n ∈ l) : Lev x m d :=
  ⟨fun n hn => h.ok n (hs n hn), fun n hn => h.deep n (hs n hn), fun n hn => h.pos n (hs n hn), fun n hn => h.seen n (hs n hn), fun n hn => h.cost n (hs n hn)⟩
theorem Lev.next {x : Inst} {l : List Node} {d : Nat} (h : Lev x l (d + 1)) (up : Int) : Lev x (x.next l up) d := by
  have key : ∀ m ∈ x.next l up, ∃ n ∈ l, ∃ j, (x.move n.s j).2.2 = true ∧ m = x.child n j := by
    intro m hm
    obtain ⟨n, hn, j, hj, e, _⟩ := next_mem hm
    exact ⟨n, hn, j, moves_mem hj, e⟩
  refine ⟨?_, ?_, ?_, ?_, ?_⟩ <;> (intro m hm; obtain ⟨n, hn, j, hj, rfl⟩ := key m hm)
  · exact move_ok x j (h.ok n hn)
  · have := meas_move hj
    have := h.deep n hn
    show x.meas (x.move n.s j).1 < d
    omega
  · exact pos_move (h.pos n hn) (h.ok n hn) hj
  · exact seen_step hj
  · rw [child_cost h hn hj]
    have := h.cost n hn
    have := move_cost hj
    omega
theorem Lev.front {x : Inst} {l : List Node} {d : Nat} (h : Lev x l (d + 1)) (up : Int) : Lev x (frontL (x.next l up)) d := (h.next up).sub fun n hn => (front_inv _).sub n hn
theorem Lev.empty {x : Inst} {l : List Node} (h : Lev x l 0) : l = [] := by
  cases l with
  | nil => rfl
  | cons n l => exact absurd (h.deep n List.mem_cons_self) (by omega)
end Go.Proofs.YtdjbapglfdacmaaGreat

/- How many nodes a level may have, with at most three pairs: the plain law. -/
set_option maxRecDepth 4000
namespace Go.Proofs.YtdjbapglfdacmaaGreat
open Go Go.Proofs.YtdjbapglfdacmaaGreat.R
def State.yard (s : State) : Bool := decide (s.spot = 0)
end Go.Proofs.YtdjbapglfdacmaaGreat

/- The laws of looking at all are awake. -/
set_option maxRecDepth 4000
namespace Go.Proofs.YtdjbapglfdacmaaGreat
open Go Go.Proofs.YtdjbapglfdacmaaGreat.R
def Inst.rootN (x : Inst) : Node := ⟨x.rootS, 0, []⟩
end Go.Proofs.YtdjbapglfdacmaaGreat

/- What looking at few finds: the plain laws. -/
set_option maxRecDepth 4000
namespace Go.Proofs.YtdjbapglfdacmaaGreat
open Go Go.Proofs.YtdjbapglfdacmaaGreat.R
theorem Lev.few {x : Inst} {l : List Node} {d : Nat} (h : Lev x l (d + 1)) (W : Nat) (up : Int) : Lev x (x.few W l up) d := (h.next up).sub fun n hn => few_mem hn
/-! With levels as wide as may be. -/
end Go.Proofs.YtdjbapglfdacmaaGreat

/- How many moves a plan may have. -/
set_option maxRecDepth 4000
namespace Go.Proofs.YtdjbapglfdacmaaGreat
open Go Go.Proofs.YtdjbapglfdacmaaGreat.R
def Inst.deep (x : Inst) : Int := if x.may then 2 * x.pairs + x.cars - 1 else 0
theorem deep_pure (x : Inst) (hl : x.stops.length < 2 ^ 63) : Pure P 16 [x.a] (.i x.deep) := by
  refine pure_of Tryz.func16 rfl rfl (by simp [Tryz.f16]) (by simp [bnd, bnd.bndL, Inst.a]) (by simp [bnd, bnd.bndL]) fun B hB hnx => ?_
  simp only [Tryz.f16] at hB ⊢
  refine K_run hB 100 ?_
  simp [go_sem, Inst.a]
  refine K_call rfl rfl rfl (args := [x.a]) (f := 23) (by simp [go_sem, Inst.a]) (by simp [go_sem, hB]) ((may_pure x hl).spec _ _) ?_
  cases hmay : x.may with
  | false =>
    refine K_run hB 100 ?_
    simp [go_sem]
    rw [Inst.deep, if_neg (by simp [hmay])]
  | true =>
    obtain ⟨p, hx⟩ := x.fit hmay
    have hp := hx.pairs
    have hf := hx.few
    have hc := hx.cars
    have w1 := w64 (2 * x.pairs) (by omega)
    have w2 := w64 (2 * x.pairs + x.cars) (by omega)
    have w3 := w64 (2 * x.pairs + x.cars - 1) (by omega)
    refine K_run hB 100 ?_
    simp [go_sem, w1, w2, w3]
    rw [Inst.deep, if_pos hmay]
end Go.Proofs.YtdjbapglfdacmaaGreat

/- Diagrams of all ways: joined states, squeezed nodes, plainly. -/
set_option maxRecDepth 4000
namespace Go.Proofs.YtdjbapglfdacmaaGreat
open Go Go.Proofs.YtdjbapglfdacmaaGreat.R
def State.join (s t : State) : State := ⟨s.spot, min s.car t.car, min s.time t.time, min s.load t.load, min s.first t.first, s.must &&& t.must, s.can ||| t.can, s.on &&& t.on⟩
def joinL : List State → State × Bool
  | [] => (State.zero, false)
  | s :: l => if l.any (fun t => decide (t.spot ≠ s.spot)) = true then (State.zero, false) else (l.foldl State.join s, true)
def costL : List Node → Int
  | [] => 0
  | n :: l => l.foldl (fun c m => min c m.cost) n.cost
/-- The node of all of some. -/
def together (l : List Node) : Node × Bool := (⟨(joinL (l.map Node.s)).1, costL l, []⟩, (joinL (l.map Node.s)).2)
def atStop (l : List Node) (i : Nat) : List Node := l.filter fun n => decide (n.s.spot = i)
def Inst.mostN (x : Inst) (w : Int) : Nat := max w.toNat x.stops.length
def oneAt (l : List Node) (i : Nat) : List Node := if (together (atStop l i)).2 = true then [(together (atStop l i)).1] else []
def Inst.squeeze (x : Inst) (l : List Node) (w : Int) : List Node :=
  if (x.sortN l).length ≤ x.mostN w then x.sortN l else
  (x.sortN l).take (x.mostN w - x.stops.length) ++ (List.range x.stops.length).flatMap (oneAt ((x.sortN l).drop (x.mostN w - x.stops.length)))
theorem within_and_l (a b : Nat) : withinB (a &&& b) a = true := by
  rw [withinB, List.all_eq_true]
  intro i _
  rw [Nat.testBit_and]
  cases a.testBit i <;> cases b.testBit i <;> rfl
theorem within_and_r (a b : Nat) : withinB (a &&& b) b = true := by rw [Nat.and_comm]; exact within_and_l b a
theorem within_or_l (a b : Nat) : withinB a (a ||| b) = true := by
  rw [withinB, List.all_eq_true]
  intro i _
  rw [Nat.testBit_or]
  cases a.testBit i <;> cases b.testBit i <;> rfl
theorem within_or_r (a b : Nat) : withinB b (a ||| b) = true := by rw [Nat.or_comm]; exact within_or_l b a
theorem join_cov1 (s t : State) : coversB (s.join t) s = true :=
  cov_mk rfl (within_and_l _ _) (within_and_l _ _) (within_or_l _ _) (Int.min_le_left _ _) (Int.min_le_left _ _) (Int.min_le_left _ _) (Int.min_le_left _ _)
theorem join_cov2 {s t : State} (h : s.spot = t.spot) : coversB (s.join t) t = true :=
  cov_mk h (within_and_r _ _) (within_and_r _ _) (within_or_r _ _) (Int.min_le_right _ _) (Int.min_le_right _ _) (Int.min_le_right _ _) (Int.min_le_right _ _)
/-- What holds of joined states as of each. -/
structure State.Is (s : State) (i : Int) : Prop where
  spot : s.spot = i
  ok : s.ok
  pos : s.Pos
  seen : s.seenAt
theorem State.Is.join {s t : State} {i : Int} (h : s.Is i) (k : t.Is i) : (s.join t).Is i := by
  refine ⟨h.spot, ⟨?_, ?_, ?_⟩, ⟨?_, ?_, ?_⟩, ?_⟩
  · exact Nat.and_lt_two_pow _ k.ok.must
  · exact Nat.or_lt_two_pow h.ok.can k.ok.can
  · exact Nat.and_lt_two_pow _ k.ok.on
  · exact Int.le_min.2 ⟨h.pos.car, k.pos.car⟩
  · exact Int.le_min.2 ⟨h.pos.time, k.pos.time⟩
  · exact Int.le_min.2 ⟨h.pos.load, k.pos.load⟩
  · rcases h.seen with e | e
    · exact .inl e
    rcases k.seen with e2 | e2
    · refine .inl ?_
      show s.spot = 0
      rw [h.spot, ← k.spot]; exact e2
    · refine .inr ?_
      show hasB (s.must &&& t.must) s.spot = true
      rw [k.spot, ← h.spot] at e2
      simp only [hasB, Bool.and_eq_true, decide_eq_true_eq, Nat.testBit_and] at *
      exact ⟨e.1, e.2, e2.2⟩
theorem fold_join : ∀ (l : List State) (s : State), (∀ t ∈ l, t.spot = s.spot) → (l.foldl State.join s).spot = s.spot ∧ coversB (l.foldl State.join s) s = true ∧ ∀ t ∈ l, coversB (l.foldl State.join s) t = true
  | [], s, _ => ⟨rfl, covers_refl _, fun t h => by cases h⟩
  | t :: l, s, h => by
    obtain ⟨h1, h2, h3⟩ := fold_join l (s.join t) fun u hu => h u (List.mem_cons_of_mem _ hu)
    rw [List.foldl_cons]
    refine ⟨h1, covers_trans h2 (join_cov1 s t), fun u hu => ?_⟩
    rcases List.mem_cons.1 hu with rfl | hu
    · exact covers_trans h2 (join_cov2 (h u List.mem_cons_self).symm)
    · exact h3 u hu
theorem fold_is {i : Int} : ∀ (l : List State) (s : State), s.Is i → (∀ t ∈ l, t.Is i) → (l.foldl State.join s).Is i
  | [], s, h, _ => h
  | t :: l, s, h, k => fold_is l (s.join t) (h.join (k t List.mem_cons_self)) fun u hu => k u (List.mem_cons_of_mem _ hu)
theorem joinL_same {l : List State} (h0 : l ≠ []) {i : Int} (h : ∀ t ∈ l, t.spot = i) : (joinL l).2 = true ∧ (joinL l).1.spot = i ∧ (∀ t ∈ l, coversB (joinL l).1 t = true) ∧ ((∀ t ∈ l, t.Is i) → (joinL l).1.Is i) := by
  cases l with
  | nil => exact absurd rfl h0
  | cons s l =>
    have hs := h s List.mem_cons_self
    have hl : ∀ t ∈ l, t.spot = s.spot := fun t ht => by rw [hs]; exact h t (List.mem_cons_of_mem _ ht)
    have e : joinL (s :: l) = (l.foldl State.join s, true) := by
      rw [joinL, if_neg]
      rw [List.any_eq_true]
      rintro ⟨t, ht, e⟩
      exact (of_decide_eq_true e) (hl t ht)
    obtain ⟨h1, h2, h3⟩ := fold_join l s hl
    rw [e]
    refine ⟨rfl, by simp only; omega, fun t ht => ?_, fun k => fold_is l s (k s List.mem_cons_self) fun t ht => k t (List.mem_cons_of_mem _ ht)⟩
    rcases List.mem_cons.1 ht with rfl | ht
    · exact h2
    · exact h3 t ht
theorem fold_cost : ∀ (l : List Node) (c : Int), l.foldl (fun c m => min c m.cost) c ≤ c ∧ (∀ n ∈ l, l.foldl (fun c m => min c m.cost) c ≤ n.cost) ∧ (l.foldl (fun c m => min c m.cost) c = c ∨ ∃ n ∈ l, l.foldl (fun c m => min c m.cost) c = n.cost)
  | [], c => ⟨Int.le_refl _, fun n h => (by cases h), .inl rfl⟩
  | m :: l, c => by
    obtain ⟨h1, h2, h3⟩ := fold_cost l (min c m.cost)
    rw [List.foldl_cons]
    refine ⟨by omega, fun n hn => ?_, ?_⟩
    · rcases List.mem_cons.1 hn with rfl | hn
      · omega
      · exact h2 n hn
    · rcases h3 with h3 | ⟨n, hn, h3⟩
      · rw [h3]
        by_cases e : c ≤ m.cost
        · exact .inl (by omega)
        · exact .inr ⟨m, List.mem_cons_self, by omega⟩
      · exact .inr ⟨n, List.mem_cons_of_mem _ hn, h3⟩
theorem costL_is {l : List Node} (h : l ≠ []) : (∀ n ∈ l, costL l ≤ n.cost) ∧ ∃ n ∈ l, costL l = n.cost := by
  cases l with
  | nil => exact absurd rfl h
  | cons m l =>
    obtain ⟨h1, h2, h3⟩ := fold_cost l m.cost
    rw [costL]
    refine ⟨fun n hn => ?_, ?_⟩
    · rcases List.mem_cons.1 hn with rfl | hn
      · exact h1
      · exact h2 n hn
    · rcases h3 with h3 | ⟨n, hn, h3⟩
      · exact ⟨m, List.mem_cons_self, h3⟩
      · exact ⟨n, List.mem_cons_of_mem _ hn, h3⟩
theorem atStop_mem {l : List Node} {i : Nat} {n : Node} : n ∈ atStop l i ↔ n ∈ l ∧ n.s.spot = i := by
  rw [atStop, List.mem_filter, decide_eq_true_eq]
theorem oneAt_mem {l : List Node} {i : Nat} {m : Node} (h : m ∈ oneAt l i) : atStop l i ≠ [] ∧ m = (together (atStop l i)).1 := by
  unfold oneAt at h
  split at h
  · rename_i hh
    refine ⟨fun e => ?_, List.mem_singleton.1 h⟩
    rw [e] at hh
    simp [together, joinL] at hh
  · cases h
theorem oneAt_len (l : List Node) (i : Nat) : (oneAt l i).length ≤ 1 := by unfold oneAt; split <;> simp
theorem squeeze_mem {x : Inst} {l : List Node} {w : Int} {m : Node} (h : m ∈ x.squeeze l w) : m ∈ l ∨ ∃ (i : Nat) (g : List Node), g ≠ [] ∧ i < x.stops.length ∧ (∀ n ∈ g, n ∈ l ∧ n.s.spot = i) ∧ m = (together g).1 := by
  unfold Inst.squeeze at h
  split at h
  · exact .inl (Inst.sortN_mem.1 h)
  · rcases List.mem_append.1 h with h | h
    · exact .inl (Inst.sortN_mem.1 (List.mem_of_mem_take h))
    · obtain ⟨i, hi, h⟩ := List.mem_flatMap.1 h
      obtain ⟨h1, h2⟩ := oneAt_mem h
      exact .inr ⟨i, _, h1, List.mem_range.1 hi, fun n hn => ⟨Inst.sortN_mem.1 (List.mem_of_mem_drop (atStop_mem.1 hn).1), (atStop_mem.1 hn).2⟩, h2⟩
theorem flat_one {α β : Type} (f : α → List β) (h : ∀ a, (f a).length ≤ 1) : ∀ (l : List α), (l.flatMap f).length ≤ l.length
  | [] => Nat.le_refl _
  | a :: l => by
    rw [List.flatMap_cons, List.length_append, List.length_cons]
    have := h a
    have := flat_one f h l
    omega
theorem squeeze_len (x : Inst) (l : List Node) (w : Int) : (x.squeeze l w).length ≤ x.mostN w := by
  unfold Inst.squeeze
  split
  · assumption
  · have h1 := flat_one (oneAt ((x.sortN l).drop (x.mostN w - x.stops.length))) (oneAt_len _) (List.range x.stops.length)
    rw [List.length_range] at h1
    have h2 : x.stops.length ≤ x.mostN w := Nat.le_max_right _ _
    rw [List.length_append, List.length_take]
    omega
end Go.Proofs.YtdjbapglfdacmaaGreat

/- States thrown together: relax.Join; the node of all of some. -/
set_option maxRecDepth 4000
set_option maxHeartbeats 1000000
namespace Go.Proofs.YtdjbapglfdacmaaGreat
open Go Go.Proofs.YtdjbapglfdacmaaGreat.R
def hC (h : State × Nat × Bool) : List AV := [.i h.1.spot, .i h.1.car, .i h.1.time, .i h.1.load, .i h.1.first, .u h.1.must, .u h.1.can, .u h.1.on, .i h.2.1, .b h.2.2]
def addH (h : State × Nat × Bool) (t : State) : State × Nat × Bool := if h.2.1 = 0 then (t, 1, h.2.2) else (h.1.join t, h.2.1 + 1, h.2.2 || decide (t.spot ≠ h.1.spot))
theorem join_ok {s t : State} (h : s.ok) (k : t.ok) : (s.join t).ok := ⟨Nat.and_lt_two_pow _ k.must, Nat.or_lt_two_pow h.can k.can, Nat.and_lt_two_pow _ k.on⟩
theorem addH_ok {h : State × Nat × Bool} {t : State} (h1 : h.1.ok) (h2 : t.ok) : (addH h t).1.ok := by
  unfold addH
  split
  · exact h2
  · exact join_ok h1 h2
theorem addH_many (h : State × Nat × Bool) (t : State) : (addH h t).2.1 = h.2.1 + 1 := by unfold addH; split <;> simp_all
theorem add_spec (h : State × Nat × Bool) (t : State) (hk : h.2.1 < 2 ^ 62) (ho : h.1.ok) (htk : t.ok) {σ : Nat → AObj} {nx b : Nat} (hb : b < nx) (hσ : σ b = .box (hC h)) :
    CallSpec P 152 [.ptr b 0, t.a] σ nx (.tup []) (oput σ b (.box (hC (addH h t)))) nx := by
  refine spec_down Tryz.func152 rfl rfl (by simp [Tryz.f152]) hb (by simp [bndO, bnd, bnd.bndL, hC]) (by simp [bnd, bnd.bndL]) fun hkn B hB hnx hσB => ?_
  simp only [Tryz.f152] at hB ⊢
  have hne : ¬ b = nx := by omega
  have hne2 : ¬ nx = b := by omega
  obtain ⟨s, k, o⟩ := h
  simp only at hk ho
  by_cases c0 : k = 0
  · subst c0
    have e : addH (s, 0, o) t = (t, 1, o) := rfl
    have w1 : IntKind.i64.wrap 1 = 1 := w64 _ (by omega)
    rw [e]
    refine K_run hB 100 ?_
    simp [go_sem, State.a, State.cs, hσ, hC, hne, hne2, w1]
    exact fun i h1 h2 => by simp [h2, show ¬ i = nx by omega]
  · have e : addH (s, k, o) t = (s.join t, k + 1, o || decide (t.spot ≠ s.spot)) := if_neg c0
    have hw : IntKind.i64.wrap ((k : Int) + 1) = (k : Int) + 1 := w64 _ (by omega)
    have c1 : ¬ (k : Int) + 1 = 1 := by omega
    rw [e]
    refine K_run hB 100 ?_
    simp [go_sem, State.a, State.cs, hσ, hC, hne, hne2, hw, c1]
    have hm1 := bandN ho.must htk.must
    have hm2 := bandN ho.on htk.on
    have hm3 := borN ho.can htk.can
    refine K_cut (α := Unit) (fun _ => True) (fun _ => ⟨sl [(0, .ptr b 0), (3, .ptr nx 0), (4, .ptr b 0)], oput (oput σ nx (.box t.cs)) b (.box (hC (s, k + 1, o || decide (t.spot ≠ s.spot)))), nx + 1⟩) ?_ fun _ _ => ?_
    · refine K_drawnT [16] rfl (by rw [hB]; kernel_rfl) (by kernel_rfl) fun ht => ?_
      cases o with
      | true =>
        refine K_run hB 100 ?_
        simp [go_sem, ht, hσ, hC, hne, hne2, hw, c1]
        refine Imp.slots (by simp [go_sem]) ?_ rfl
        funext i
        by_cases e1 : i = b
        · simp [oput, e1, hC]
        · simp [oput, e1, State.cs]
      | false =>
        refine K_run hB 100 ?_
        simp [go_sem, ht, hσ, hC, hne, hne2, hw, c1]
        refine Imp.slots (by simp [go_sem]) ?_ rfl
        funext i
        by_cases e1 : i = b
        · simp [oput, e1, hC]
        · simp [oput, e1, State.cs]
    refine K_run hB 100 ?_
    simp [go_sem]
    refine K_drawnF [18, 21] [1, 13, 14, 15] rfl (by rw [hB]; kernel_rfl) (by kernel_rfl) fun ht hf' => ?_
    refine K_run hB 100 ?_
    simp [go_sem, ht, hf', hC, hne, hne2, State.cs]
    refine K_drawnF [18, 21] [1, 13, 14, 15] rfl (by rw [hB]; kernel_rfl) (by kernel_rfl) fun ht hf' => ?_
    refine K_run hB 100 ?_
    simp [go_sem, ht, hf', hC, hne, hne2, State.cs]
    refine K_drawnF [18, 21] [1, 13, 14, 15] rfl (by rw [hB]; kernel_rfl) (by kernel_rfl) fun ht hf' => ?_
    refine K_run hB 100 ?_
    simp [go_sem, ht, hf', hC, hne, hne2, State.cs, hm1, hm2]
    refine K_drawnT [9] rfl (by rw [hB]; kernel_rfl) (by kernel_rfl) fun ht => ?_
    refine K_run hB 100 ?_
    simp [go_sem, ht, hC, hne, hne2, State.cs, hm3]
    exact ⟨⟨rfl, rfl, rfl, rfl, rfl, rfl, rfl, rfl⟩, fun i h1 h2 => by simp [h2, show ¬ i = nx by omega]⟩
def State.row (s : State) : List T := [.i s.spot, .i s.car, .i s.time, .i s.load, .i s.first, .v (.int .u64 s.must), .v (.int .u64 s.can), .v (.int .u64 s.on)]
theorem each_spec (l : List State) (h : State × Nat × Bool) (hl : l.length < 2 ^ 31) (h0 : h.2.1 = 0) (ho : h.1.ok) (hlo : ∀ t ∈ l, t.ok) {σ : Nat → AObj} {nx b r : Nat} (hb : b < nx) (hσ : σ b = .box (hC h)) (hr : r < nx) (hrb : r ≠ b) (hσr : σ r = .arr 8 (l.map State.row)) :
    CallSpec P 151 [.fn (.func 152) [.ptr b 0] [], .ref r] σ nx (.tup []) (oput σ b (.box (hC (l.foldl addH h)))) nx := by
  refine spec_down Tryz.func151 rfl rfl (by simp [Tryz.f151]) hb (by simp [bndO, bnd, bnd.bndL, hC]) (by simp [bnd, bnd.bndL]) fun hkn B hB hnx hσB => ?_
  simp only [Tryz.f151] at hB ⊢
  have hil : (l.map State.row).length = l.length := List.length_map _
  have hgt : ∀ (k : Nat) (h : k < l.length), (l.map State.row)[k]'(by rw [hil]; exact h) = l[k].row := fun k h => by rw [List.getElem_map]
  generalize l.map State.row = X at *
  generalize hR : l.foldl addH h = R
  refine K_run hB 100 ?_
  simp [go_sem, hσr, hil]
  refine K_loopP (α := Nat × (State × Nat × Bool) × (Nat → AObj) × Nat) (fun (k, h, τ, ny) => k ≤ l.length ∧ (l.drop k).foldl addH h = R ∧ h.2.1 = k ∧ h.1.ok ∧ τ b = .box (hC h) ∧ nx ≤ ny ∧ ∀ i, i < nx → i ≠ b → τ i = σ i)
    (fun (k, h, τ, ny) => ⟨sl [(0, .fn (.func 152) [.ptr b 0] []), (6, .ref r), (7, .i l.length), (8, .i k)], τ, ny⟩) (fun a => l.length - a.1) (0, h, σ, nx) ⟨Nat.zero_le _, hR, h0, ho, hσ, Nat.le_refl _, fun i _ _ => rfl⟩ (Imp.slots (by simp [go_sem]) rfl rfl) ?_
  rintro ⟨k, h, τ, ny⟩ ⟨g1, g2, g3, g4, g5, g6, g7⟩
  have hτr : τ r = .arr 8 X := (g7 r hr hrb).trans hσr
  refine K_run hB 60 ?_
  simp [go_sem]
  refine fork_dec (fun hk => ?_) (fun hk => ?_)
  · have hkk : IntKind.i64.wrap ((k : Int) + 1) = ((k + 1 : Nat) : Int) := by rw [w64 ((k : Int) + 1) (by omega)]; rfl
    have hget : ∀ h : k < X.length, X[k]'h = l[k].row := fun h => hgt k hk
    rw [List.drop_eq_getElem_cons hk, List.foldl_cons] at g2
    have hto := hlo l[k] (List.getElem_mem _)
    generalize l[k] = t at *
    have hadd := fun (τ' : Nat → AObj) (h1 : τ' b = .box (hC h)) => add_spec h t (by omega) g4 hto (σ := τ') (nx := ny + 1) (b := b) (by omega) h1
    have hok := addH_ok g4 hto
    have hmn := addH_many h t
    generalize addH h t = h' at *
    have m1 : ¬ b = ny := by omega
    have m2 : ¬ r = ny := by omega
    simp [go_sem, hil, hk, hget, State.row, hτr, m2]
    refine K_call rfl rfl rfl (args := [.ptr b 0, t.a]) (f := 152) (by simp [go_sem, State.a, State.cs]) (by simp [go_sem, hB]) (hadd _ (by simp [oput, m1, g5])) ?_
    refine K_run hB 100 ?_
    simp [go_sem, hkk]
    refine Next.mk (k + 1, h', _, ny + 1) ?_ (Imp.slots (by simp [go_sem]) rfl rfl) (by simp only; omega)
    refine ⟨by simp only; omega, g2, by simp only; omega, hok, by simp [oput], by simp only; omega, fun i h1 h2 => ?_⟩
    simp [oput, h2, show ¬ i = ny by omega, g7 i h1 h2]
  · have : k = l.length := by omega
    subst this
    rw [List.drop_length, List.foldl_nil] at g2
    subst g2
    simp [go_sem, g5]
    exact ⟨g6, g7⟩
theorem fold_addH : ∀ (l : List State) (s : State) (k : Nat) (o : Bool), l.foldl addH (s, k + 1, o) = (l.foldl State.join s, k + 1 + l.length, o || l.any fun t => decide (t.spot ≠ s.spot))
  | [], s, k, o => by simp
  | t :: l, s, k, o => by
    have e : addH (s, k + 1, o) t = (s.join t, k + 1 + 1, o || decide (t.spot ≠ s.spot)) := if_neg (by simp)
    rw [List.foldl_cons, e, fold_addH l (s.join t) (k + 1), List.foldl_cons, List.any_cons, List.length_cons, ← Bool.or_assoc, show k + 1 + 1 + l.length = k + 1 + (l.length + 1) by omega]
    rfl
theorem join_fold (l : List State) : joinL l = if (l.foldl addH (State.zero, 0, false)).2.1 = 0 ∨ (l.foldl addH (State.zero, 0, false)).2.2 = true then (State.zero, false) else ((l.foldl addH (State.zero, 0, false)).1, true) := by
  cases l with
  | nil => rfl
  | cons s l =>
    have e : addH (State.zero, 0, false) s = (s, 0 + 1, false) := rfl
    rw [List.foldl_cons, e, fold_addH, joinL, Bool.false_or]
    simp only [show ¬ (0 + 1 + l.length = 0) by omega, false_or]
theorem join_spec (l : List State) (hl : l.length < 2 ^ 31) (hlo : ∀ t ∈ l, t.ok) {σ : Nat → AObj} {nx r : Nat} (hr : r < nx) (hσr : σ r = .arr 8 (l.map State.row)) :
    CallSpec P 120 [.ref r] σ nx (.tup [(joinL l).1.a, .b (joinL l).2]) σ nx := by
  refine spec_keep Tryz.func120 rfl rfl (by simp [Tryz.f120]) (by simp [bnd, bnd.bndL, State.a, State.cs]) fun hk B hB hnx hσB => ?_
  simp only [Tryz.f120] at hB ⊢
  have hes := fun (τ : Nat → AObj) (h1 : τ (nx + 1) = .box (hC (State.zero, 0, false))) (h2 : τ r = .arr 8 (l.map State.row)) => each_spec l (State.zero, 0, false) hl rfl State.zero_ok hlo (σ := τ) (nx := nx + 2) (b := nx + 1) (r := r) (by omega) h1 (by omega) (by omega) h2
  have hj := join_fold l
  generalize joinL l = J at *
  generalize l.foldl addH (State.zero, 0, false) = H at *
  obtain ⟨s, k, o⟩ := H
  simp only at hj
  have m1 : ¬ r = nx := by omega
  have m2 : ¬ r = nx + 1 := by omega
  have fin : ∀ (a b c : AObj) (i : Nat), i < nx → oput (oput (oput σ nx a) (nx + 1) b) (nx + 1) c i = σ i := fun a b c i h => by simp [oput, show ¬ i = nx by omega, show ¬ i = nx + 1 by omega]
  refine K_run hB 100 ?_
  simp [go_sem]
  refine K_call rfl rfl rfl (args := [.fn (.func 152) [.ptr (nx + 1) 0] [], .ref r]) (f := 151) (by simp [go_sem]) (by simp [go_sem, hB]) (hes _ (by simp [oput, hC, State.zero]) (by simp [oput, m1, m2, hσr])) ?_
  by_cases c0 : k = 0
  · rw [if_pos (.inl c0)] at hj
    subst hj
    refine K_run hB 100 ?_
    simp [go_sem, hC, c0]
    exact ⟨fun i h => by simp [show ¬ i = nx by omega, show ¬ i = nx + 1 by omega], rfl⟩
  cases o with
  | true =>
    rw [if_pos (.inr rfl)] at hj
    subst hj
    refine K_run hB 100 ?_
    simp [go_sem, hC, c0]
    exact ⟨fun i h => by simp [show ¬ i = nx by omega, show ¬ i = nx + 1 by omega], rfl⟩
  | false =>
    rw [if_neg (by simp [c0])] at hj
    subst hj
    refine K_run hB 100 ?_
    simp [go_sem, hC, c0]
    exact ⟨fun i h => by simp [show ¬ i = nx by omega, show ¬ i = nx + 1 by omega], rfl⟩
end Go.Proofs.YtdjbapglfdacmaaGreat

/- The node of all of some: wide.together. -/
set_option maxRecDepth 4000
set_option maxHeartbeats 1000000
namespace Go.Proofs.YtdjbapglfdacmaaGreat
open Go Go.Proofs.YtdjbapglfdacmaaGreat.R
theorem costL_snoc (l : List Node) (m : Node) : costL (l ++ [m]) = if l = [] ∨ m.cost < costL l then m.cost else costL l := by
  cases l with
  | nil => simp [costL]
  | cons n l =>
    rw [List.cons_append, costL, List.foldl_append, costL]
    simp only [List.foldl_cons, List.foldl_nil, reduceCtorEq, false_or]
    split <;> omega
abbrev nodeC (s : State) (c : Int) (p : AV) : List AV := [.i s.spot, .i s.car, .i s.time, .i s.load, .i s.first, .u s.must, .u s.can, .u s.on, .i c, p]
theorem together_spec (l : List Node) (hl : l.length < 2 ^ 31) (hlo : ∀ n ∈ l, n.s.ok) {σ : Nat → AObj} {nx r : Nat} (hr : r < nx) (hσr : σ r = .arr 10 (nodesT l)) :
    CallSpec P 78 [.ref r] σ nx (.tup [(together l).1.a, .b (together l).2]) σ nx := by
  refine spec_keep Tryz.func78 rfl rfl (by simp [Tryz.f78]) (by simp [bnd, bnd.bndL, Node.a, Node.cs]) fun hk B hB hnx hσB => ?_
  simp only [Tryz.f78] at hB ⊢
  have hil : (nodesT l).length = l.length := List.length_map _
  have hgt : ∀ (k : Nat) (h : k < l.length), (nodesT l)[k]'(by rw [hil]; exact h) = l[k].t := fun k h => nodesT_get l h
  have hmost : mostLen = 4294967296 := rfl
  generalize hX : nodesT l = X at *
  have m1 : ¬ r = nx := by omega
  have m2 : ¬ r = nx + 1 := by omega
  have m3 : ¬ r = nx + 2 := by omega
  refine K_run hB 100 ?_
  simp [go_sem, hσr, hil, m1, m2]
  refine K_own 5 8 (by simp [go_sem]) ?_
  refine K_less (Imp.looseB (b := nx + 1) (cs := [.i 0, .i 0, .i 0, .i 0, .i 0, .u 0, .u 0, .u 0, .i 0, .fsl []]) (by simp [oput])) ?_
  refine K_loopP (α := Nat × Nat × (Nat → AObj) × Nat) (fun (k, q, τ, ny) => k ≤ l.length ∧ τ (nx + 1) = .box (nodeC State.zero (costL (l.take k)) (.t (.sl []))) ∧ τ q = .arr 8 ((l.map fun n => n.s.row).take k) ∧ nx + 2 ≤ q ∧ q < ny ∧ τ nx = .box (nodeC State.zero 0 (.fsl [])) ∧ ∀ i, i < nx → τ i = σ i)
    (fun (k, q, τ, ny) => ⟨sl [(2, .ptr nx 0), (3, .b false), (4, .ptr (nx + 1) 0), (5, .ref q), (9, .ref r), (10, .i l.length), (11, .i k)], τ, ny⟩) (fun a => l.length - a.1) (0, nx + 2, _, nx + 3) ?_ (Imp.slots (by simp [go_sem]) rfl rfl) ?_
  · refine ⟨Nat.zero_le _, by simp [oput, loosen, State.zero, costL], by simp [oput], by omega, by omega, by simp [oput, State.zero, show ¬ nx = nx + 1 + 1 by omega], fun i h => by simp [oput, show ¬ i = nx by omega, show ¬ i = nx + 1 by omega, show ¬ i = nx + 2 by omega]⟩
  rintro ⟨k, q, τ, ny⟩ ⟨g1, g2, g3, g4, g5, g6, g7⟩
  have hτr : τ r = .arr 10 X := (g7 r hr).trans hσr
  have n1 : ¬ r = ny := by omega
  have n2 : ¬ nx + 1 = ny := by omega
  have n3 : ¬ q = ny := by omega
  have n4 : ¬ nx = ny := by omega
  have n5 : ¬ nx + 1 = q := by omega
  have n6 : ¬ ny = nx + 1 := by omega
  have n7 : ¬ q = nx + 1 := by omega
  refine K_run hB 60 ?_
  simp [go_sem]
  refine fork_dec (fun hk => ?_) (fun hk => ?_)
  · have hkk : IntKind.i64.wrap ((k : Int) + 1) = ((k + 1 : Nat) : Int) := by rw [w64 ((k : Int) + 1) (by omega)]; rfl
    have hget : ∀ h : k < X.length, X[k]'h = l[k].t := fun h => hgt k hk
    have htk : l.take (k + 1) = l.take k ++ [l[k]] := List.take_succ_eq_append_getElem hk
    have hcs := costL_snoc (l.take k) l[k]
    rw [← htk] at hcs
    have hnil : l.take k = [] ↔ k = 0 := by
      rw [List.take_eq_nil_iff]
      constructor
      · rintro (h | h)
        · exact h
        · rw [h] at hk; simp at hk
      · exact fun h => .inl h
    simp only [hnil] at hcs
    have hrow : (l.map fun n => n.s.row).take k ++ [l[k].s.row] = (l.map fun n => n.s.row).take (k + 1) := by
      rw [List.take_succ_eq_append_getElem (by rw [List.length_map]; exact hk), List.getElem_map]
    have hlen : ((l.map fun n => n.s.row).take k).length = k := by rw [List.length_take, List.length_map]; omega
    generalize (l.map fun n => n.s.row).take k = rows at *
    generalize costL (l.take k) = c at *
    generalize l[k] = m at *
    have hcap : k + 1 ≤ mostLen := by omega
    by_cases c0 : k = 0
    · rw [if_pos (.inl c0)] at hcs
      have hd : decide (k = 0) = true := decide_eq_true c0
      simp [go_sem, hil, hk, hget, Node.t, hτr, n1, n2, n3, n4, n5, n6, n7, g2, g3, hd, hlen, hcap, hkk]
      refine Next.mk (k + 1, ny + 1, _, ny + 2) ?_ (Imp.slots (by simp [go_sem]) rfl rfl) (by simp only; omega)
      refine ⟨by simp only; omega, by simp [oput, n4, n2, n3, n5, hcs, State.zero], by simp only [oput, if_true]; rw [← hrow]; rfl, by simp only; omega, by simp only; omega, by simp [oput, n4, g6, State.zero, show ¬ nx = q by omega, show ¬ nx = ny + 1 by omega], fun i h => by simp [oput, show ¬ i = ny by omega, show ¬ i = nx + 1 by omega, show ¬ i = q by omega, show ¬ i = ny + 1 by omega, g7 i h]⟩
    by_cases c1 : m.cost < c
    · rw [if_pos (.inr c1)] at hcs
      simp [go_sem, hil, hk, hget, Node.t, hτr, n1, n2, n3, n4, n5, n6, n7, g2, g3, c0, c1, hlen, hcap, hkk]
      refine Next.mk (k + 1, ny + 1, _, ny + 2) ?_ (Imp.slots (by simp [go_sem]) rfl rfl) (by simp only; omega)
      refine ⟨by simp only; omega, by simp [oput, n4, n2, n3, n5, hcs, State.zero], by simp only [oput, if_true]; rw [← hrow]; rfl, by simp only; omega, by simp only; omega, by simp [oput, n4, g6, State.zero, show ¬ nx = q by omega, show ¬ nx = ny + 1 by omega], fun i h => by simp [oput, show ¬ i = ny by omega, show ¬ i = nx + 1 by omega, show ¬ i = q by omega, show ¬ i = ny + 1 by omega, g7 i h]⟩
    · rw [if_neg (by rintro (h | h); exact c0 h; exact c1 h)] at hcs
      simp [go_sem, hil, hk, hget, Node.t, hτr, n1, n2, n3, n4, n5, n6, n7, g2, g3, c0, c1, hlen, hcap, hkk]
      refine Next.mk (k + 1, ny + 1, _, ny + 2) ?_ (Imp.slots (by simp [go_sem]) rfl rfl) (by simp only; omega)
      refine ⟨by simp only; omega, by simp [oput, n4, n2, n3, n5, hcs, State.zero, g2], by simp only [oput, if_true]; rw [← hrow]; rfl, by simp only; omega, by simp only; omega, by simp [oput, n4, g6, State.zero, show ¬ nx = q by omega, show ¬ nx = ny + 1 by omega], fun i h => by simp [oput, show ¬ i = ny by omega, show ¬ i = nx + 1 by omega, show ¬ i = q by omega, show ¬ i = ny + 1 by omega, g7 i h]⟩
  · have : k = l.length := by omega
    subst this
    rw [List.take_length] at g2
    rw [List.take_of_length_le (by simp)] at g3
    have hjs := fun (τ' : Nat → AObj) (h1 : τ' q = .arr 8 ((l.map fun n => n.s).map State.row)) => join_spec (l.map fun n => n.s) (by rw [List.length_map]; exact hl) (fun t ht => by
      obtain ⟨n, hn, rfl⟩ := List.mem_map.1 ht
      exact hlo n hn) (σ := τ') (nx := ny) (r := q) g5 h1
    have htg : together l = (⟨(joinL (l.map fun n => n.s)).1, costL l, []⟩, (joinL (l.map fun n => n.s)).2) := rfl
    generalize together l = TG at *
    generalize joinL (l.map fun n => n.s) = J at *
    generalize costL l = c at *
    subst htg
    simp [go_sem]
    refine K_call rfl rfl rfl (args := [.ref q]) (f := 120) (by simp [go_sem]) (by simp [go_sem, hB]) (hjs _ (by rw [List.map_map]; exact g3)) ?_
    refine K_run hB 100 ?_
    simp [go_sem, State.a, State.cs, g2, g6, nodeC]
    exact ⟨by omega, fun i h => by simp [show ¬ i = nx by omega, show ¬ i = nx + 1 by omega, g7 i h], rfl⟩
end Go.Proofs.YtdjbapglfdacmaaGreat

/- Nodes squeezed: wide.Squeeze. -/
set_option maxRecDepth 4000
set_option maxHeartbeats 1000000
namespace Go.Proofs.YtdjbapglfdacmaaGreat
open Go Go.Proofs.YtdjbapglfdacmaaGreat.R
theorem nodup_inj {α : Type} {l : List α} (h : l.Nodup) {i j : Nat} (hi : i < l.length) (hj : j < l.length) (e : l[i] = l[j]) : i = j := by
  rcases Nat.lt_trichotomy i j with h1 | h1 | h1
  · exact absurd e (List.pairwise_iff_getElem.1 h i j hi hj h1)
  · exact h1
  · exact absurd e.symm (List.pairwise_iff_getElem.1 h j i hj hi h1)
theorem nodup_set {α : Type} {l : List α} (h : l.Nodup) {a : α} (hm : a ∉ l) (i : Nat) : (l.set i a).Nodup := by
  refine List.pairwise_iff_getElem.2 fun j k hj hk hjk => ?_
  rw [List.length_set] at hj hk
  rw [List.getElem_set, List.getElem_set]
  split
  · split
    · omega
    · exact fun e => hm (e ▸ List.getElem_mem _)
  · split
    · exact fun e => hm (e ▸ List.getElem_mem _)
    · exact List.pairwise_iff_getElem.1 h j k hj hk hjk
abbrev kv (i : Int) : Value := .int .i64 i
/-- A map from stops to rows of the call's own. -/
noncomputable def kmap (K : List (Int × Nat)) : List (Value × AV) := K.map fun p => (kv p.1, .ref p.2)
def kfind (i : Int) : List (Int × Nat) → Option (Nat × Nat)
  | [] => none
  | p :: K => if p.1 = i then some (0, p.2) else (kfind i K).map fun r => (r.1 + 1, r.2)
def kset (i : Int) (q : Nat) (K : List (Int × Nat)) : List (Int × Nat) := match kfind i K with
  | some (j, _) => K.set j (i, q)
  | none => K ++ [(i, q)]
theorem kv_inj {i j : Int} : kv i = kv j ↔ i = j := ⟨fun h => by injection h, fun h => by rw [h]⟩
theorem findM_k (i : Int) : ∀ (K : List (Int × Nat)), findM (kv i) (kmap K) = (kfind i K).map fun r => (r.1, .ref r.2)
  | [] => rfl
  | p :: K => by
    have e : kmap (p :: K) = (kv p.1, .ref p.2) :: kmap K := rfl
    rw [e, findM, kfind, findM_k i K]
    by_cases h : p.1 = i
    · rw [if_pos (by rw [h]), if_pos h]; rfl
    · rw [if_neg (fun e => h (kv_inj.1 e)), if_neg h, Option.map_map, Option.map_map]
      rfl
theorem kfind_some {i : Int} : ∀ {K : List (Int × Nat)} {j q : Nat}, kfind i K = some (j, q) → ∃ h : j < K.length, K[j] = (i, q)
  | [], j, q, h => by cases h
  | p :: K, j, q, h => by
    rw [kfind] at h
    split at h
    · rename_i e
      cases h
      exact ⟨by simp, by rw [← e]; rfl⟩
    · obtain ⟨r, h1, h2⟩ := Option.map_eq_some_iff.1 h
      cases h2
      obtain ⟨h3, h4⟩ := kfind_some h1
      exact ⟨by simp; omega, by simpa using h4⟩
theorem kfind_none {i : Int} : ∀ {K : List (Int × Nat)}, kfind i K = none → i ∉ K.map Prod.fst
  | [], _ => by simp
  | p :: K, h => by
    rw [kfind] at h
    split at h
    · cases h
    · rename_i e
      have := kfind_none (Option.map_eq_none_iff.1 h)
      simp only [List.map_cons, List.mem_cons, not_or]
      exact ⟨fun h => e h.symm, this⟩
theorem setM_k (i : Int) (q : Nat) (K : List (Int × Nat)) : setM (kv i) (.ref q) (kmap K) = kmap (kset i q K) := by
  rw [setM, findM_k, kset]
  cases h : kfind i K with
  | none => simp [kmap]
  | some r => simp [kmap, List.map_set]
theorem k_tell (i : Int) (K : List (Int × Nat)) : TellM P 3 (.i i) (kv i) (kmap K) := by
  intro e he
  obtain ⟨p, hp, rfl⟩ := List.mem_map.1 he
  refine ⟨.i p.1, rfl, ?_⟩
  have : eqA P 10000 3 (.i i) (.i p.1) = some (decide (i = p.1)) := by
    simp [eqA, tt3]
  rw [this]
  congr 1
  rw [decide_eq_decide]
  exact ⟨fun h => by rw [h], fun h => (kv_inj.1 h).symm⟩
def grp (L : List Node) (i : Int) : List Node := L.filter fun n => decide (n.s.spot = i)
structure KI (K : List (Int × Nat)) (L : List Node) (σ : Nat → AObj) (base nx : Nat) : Prop where
  keys : (K.map Prod.fst).Nodup
  objs : (K.map Prod.snd).Nodup
  rows : ∀ p ∈ K, σ p.2 = .arr 10 (nodesT (grp L p.1)) ∧ base ≤ p.2 ∧ p.2 < nx
  none : ∀ i, i ∉ K.map Prod.fst → grp L i = []
theorem grp_snoc (L : List Node) (n : Node) (i : Int) : grp (L ++ [n]) i = grp L i ++ if n.s.spot = i then [n] else [] := by
  rw [grp, List.filter_append, grp]
  congr 1
  by_cases h : n.s.spot = i <;> simp [h]
theorem kset_map {i : Int} {q : Nat} {K : List (Int × Nat)} : ((kset i q K).map Prod.fst = K.map Prod.fst ∧ i ∈ K.map Prod.fst) ∨ ((kset i q K).map Prod.fst = K.map Prod.fst ++ [i] ∧ i ∉ K.map Prod.fst) := by
  unfold kset
  cases h : kfind i K with
  | none => exact .inr ⟨by simp, kfind_none h⟩
  | some r =>
    obtain ⟨j, q0⟩ := r
    obtain ⟨h1, h2⟩ := kfind_some h
    refine .inl ⟨?_, List.mem_map.2 ⟨_, List.getElem_mem h1, by rw [h2]⟩⟩
    simp only [List.map_set]
    refine List.ext_getElem (by simp) fun k hk1 hk2 => ?_
    rw [List.getElem_set]
    split
    · rename_i e
      subst e
      rw [List.getElem_map, h2]
    · rfl
theorem kset_mem {i : Int} {q : Nat} {K : List (Int × Nat)} (hk : (K.map Prod.fst).Nodup) {p : Int × Nat} (hp : p ∈ kset i q K) : p = (i, q) ∨ (p ∈ K ∧ p.1 ≠ i) := by
  unfold kset at hp
  cases h : kfind i K with
  | none =>
    rw [h] at hp
    rcases List.mem_append.1 hp with hp | hp
    · refine .inr ⟨hp, fun e => kfind_none h (List.mem_map.2 ⟨p, hp, e⟩)⟩
    · exact .inl (List.mem_singleton.1 hp)
  | some r =>
    obtain ⟨j, q0⟩ := r
    rw [h] at hp
    obtain ⟨h1, h2⟩ := kfind_some h
    obtain ⟨k, hk1, hk2⟩ := List.getElem_of_mem hp
    simp only [List.length_set] at hk1
    rw [List.getElem_set] at hk2
    split at hk2
    · exact .inl hk2.symm
    · rename_i e
      refine .inr ⟨by rw [← hk2]; exact List.getElem_mem _, fun e2 => e ?_⟩
      have e3 : (K.map Prod.fst)[j]'(by simpa using h1) = (K.map Prod.fst)[k]'(by simpa using hk1) := by
        rw [List.getElem_map, List.getElem_map, h2, hk2, e2]
      exact nodup_inj hk _ _ e3
theorem KI.ne {K : List (Int × Nat)} {L : List Node} {σ : Nat → AObj} {base nx : Nat} (h : KI K L σ base nx) {a b : Int × Nat} (ha : a ∈ K) (hb : b ∈ K) (hne : a.1 ≠ b.1) : a.2 ≠ b.2 := by
  intro e
  obtain ⟨j, hj1, hj2⟩ := List.getElem_of_mem ha
  obtain ⟨k, hk1, hk2⟩ := List.getElem_of_mem hb
  have e3 : (K.map Prod.snd)[j]'(by simpa using hj1) = (K.map Prod.snd)[k]'(by simpa using hk1) := by
    rw [List.getElem_map, List.getElem_map, hj2, hk2, e]
  have := nodup_inj h.objs _ _ e3
  subst this
  rw [hj2] at hk2
  exact hne (by rw [hk2])
theorem KI.add {K : List (Int × Nat)} {L : List Node} {σ σ' : Nat → AObj} {base nx nx' q : Nat} {n : Node} (h : KI K L σ base nx) (hq : nx ≤ q ∧ q < nx') (hb : base ≤ nx) (hs : ∀ p ∈ K, p.1 ≠ n.s.spot → σ' p.2 = σ p.2) (hσq : σ' q = .arr 10 (nodesT (grp L n.s.spot ++ [n]))) :
    KI (kset n.s.spot q K) (L ++ [n]) σ' base nx' := by
  refine ⟨?_, ?_, fun p hp => ?_, fun i hi => ?_⟩
  · rcases kset_map (i := n.s.spot) (q := q) (K := K) with ⟨e, _⟩ | ⟨e, e2⟩
    · rw [e]; exact h.keys
    · rw [e, List.nodup_append]
      exact ⟨h.keys, by simp, fun a ha b hb => by rw [List.mem_singleton.1 hb]; exact fun e => e2 (e ▸ ha)⟩
  · have hlt : ∀ a ∈ K.map Prod.snd, a < nx := fun a ha => by
      obtain ⟨p, hp, rfl⟩ := List.mem_map.1 ha
      exact (h.rows p hp).2.2
    unfold kset
    cases hf : kfind n.s.spot K with
    | none =>
      simp only [List.map_append, List.map_cons, List.map_nil]
      rw [List.nodup_append]
      exact ⟨h.objs, by simp, fun a ha b hb => by rw [List.mem_singleton.1 hb]; have := hlt a ha; omega⟩
    | some r =>
      simp only [List.map_set]
      exact nodup_set h.objs (fun hm => by have := hlt q hm; omega) _
  · rcases kset_mem h.keys hp with rfl | ⟨h1, h2⟩
    · refine ⟨?_, by simp only; omega, hq.2⟩
      rw [grp_snoc, if_pos rfl]; exact hσq
    · obtain ⟨r1, r2, r3⟩ := h.rows p h1
      refine ⟨?_, r2, by omega⟩
      rw [grp_snoc, if_neg (fun e => h2 e.symm), List.append_nil, hs p h1 h2, r1]
  · have : i ∉ K.map Prod.fst ∧ i ≠ n.s.spot := by
      rcases kset_map (i := n.s.spot) (q := q) (K := K) with ⟨e, e2⟩ | ⟨e, e2⟩
      · rw [e] at hi; exact ⟨hi, fun e3 => hi (e3 ▸ e2)⟩
      · rw [e] at hi
        simp only [List.mem_append, List.mem_singleton, not_or] at hi
        exact hi
    rw [grp_snoc, if_neg (fun e => this.2 e.symm), h.none i this.1, List.append_nil]
end Go.Proofs.YtdjbapglfdacmaaGreat

/- Nodes squeezed: wide.Squeeze. -/
set_option maxRecDepth 4000
set_option maxHeartbeats 1000000
namespace Go.Proofs.YtdjbapglfdacmaaGreat
open Go Go.Proofs.YtdjbapglfdacmaaGreat.R
theorem mostN_eq (x : Inst) (w : Int) : max w x.stops.length = (x.mostN w : Int) := by unfold Inst.mostN; omega
theorem most_pure (x : Inst) (w : Int) : Pure P 36 [x.a, .i w] (.i (x.mostN w)) := by
  rw [← mostN_eq]
  refine pure_of Tryz.func36 rfl rfl (by simp [Tryz.f36]) (by simp [bnd, bnd.bndL, Inst.a]) (by simp [bnd, bnd.bndL]) fun B hB hnx => ?_
  simp only [Tryz.f36] at hB ⊢
  refine K_run hB 100 ?_
  simp [go_sem, Inst.a]
theorem squeeze_pure (x : Inst) (l : List Node) (w : Int) (hx : x.stops.length < 2 ^ 31) (hl : l.length < 2 ^ 31) (hn : ∀ n ∈ l, n.Fine) : Pure P 39 [x.a, .t (.sl (nodesT l)), .i w] (.t (.sl (nodesT (x.squeeze l w)))) := by
  generalize hR : x.squeeze l w = R
  refine pure_of Tryz.func39 rfl rfl (by simp [Tryz.f39]) (by simp [bnd, bnd.bndL, Inst.a]) (by simp [bnd, bnd.bndL]) fun B hB hnx => ?_
  simp only [Tryz.f39] at hB ⊢
  have hso := sorted_pure x l hx hl hn
  have hmo := most_pure x w
  have hfS : ∀ n ∈ x.sortN l, n.Fine := fun n h => hn n (Inst.sortN_mem.1 h)
  have hSl := x.sortN_len l
  rw [Inst.squeeze] at hR
  generalize x.sortN l = S at *
  have hM1 : x.stops.length ≤ x.mostN w := Nat.le_max_right _ _
  generalize x.mostN w = M at *
  have hNl : (nodesT S).length = S.length := List.length_map _
  refine K_run hB 100 ?_
  simp [go_sem, Inst.a]
  refine K_call rfl rfl rfl (args := [x.a, .t (.sl (nodesT l))]) (f := 77) (by simp [go_sem, Inst.a]) (by simp [go_sem, hB]) ((hso).spec _ _) ?_
  refine K_run hB 100 ?_
  simp [go_sem]
  refine K_call rfl rfl rfl (args := [x.a, .i w]) (f := 36) (by simp [go_sem, Inst.a]) (by simp [go_sem, hB]) ((hmo).spec _ _) ?_
  by_cases c1 : S.length ≤ M
  · rw [if_pos c1] at hR
    subst hR
    refine K_run hB 100 ?_
    simp [go_sem, hNl, c1]
  rw [if_neg c1] at hR
  have hM2 : M < 2 ^ 31 := by omega
  obtain ⟨kp, hkp⟩ : ∃ kp, kp = M - x.stops.length := ⟨_, rfl⟩
  have hkp2 : (M : Int) - x.stops.length = kp := by omega
  have hw1 : IntKind.i64.wrap ((M : Int) - x.stops.length) = kp := by rw [hkp2]; exact w64 _ (by omega)
  have hkl : kp < S.length := by omega
  have hS1 := nodesT_len S
  rw [← hkp] at hR
  have hXd : (nodesT S).drop kp = nodesT (S.drop kp) := by rw [nodesT, nodesT, List.map_drop]
  have hXt : (nodesT S).take kp = nodesT (S.take kp) := by rw [nodesT, nodesT, List.map_take]
  have hrl : (S.drop kp).length = S.length - kp := List.length_drop
  have hrf : ∀ n ∈ S.drop kp, n.Fine := fun n h => hfS n (List.mem_of_mem_drop h)
  have hfl : (S.take kp).length ≤ kp := by rw [List.length_take]; omega
  refine K_run hB 100 ?_
  simp [go_sem, hNl, c1, hw1, if_pos hS1, hkl, Nat.le_of_lt hkl, hXd, hXt]
  generalize S.drop kp = rest at *
  generalize S.take kp = front at *
  have hQl : (nodesT rest).length = rest.length := List.length_map _
  have hgt : ∀ (k : Nat) (h : k < rest.length), (nodesT rest)[k]'(by rw [hQl]; exact h) = rest[k].t := fun k h => nodesT_get rest h
  generalize hX : nodesT rest = X at *
  have hmost : mostLen = 4294967296 := rfl
  refine K_loopP (α := Nat × List (Int × Nat) × (Nat → AObj) × Nat) (fun (k, K, τ, ny) => k ≤ rest.length ∧ KI K (rest.take k) τ 2 ny ∧ τ 0 = .box x.cs ∧ τ 1 = .map (kmap K) ∧ 2 ≤ ny)
    (fun (k, K, τ, ny) => ⟨sl [(3, .ptr 0 0), (9, .fsl (nodesT front)), (10, .mapr 1), (39, .t (.sl X)), (40, .i rest.length), (41, .i k)], τ, ny⟩) (fun a => rest.length - a.1) (0, [], _, 2) ?_ (Imp.slots (by simp [go_sem, hQl]) rfl rfl) ?_
  · exact ⟨Nat.zero_le _, ⟨by simp, by simp, fun p h => (by cases h), fun i _ => by simp [grp]⟩, by simp [oput, Inst.cs], by simp [oput, kmap], by omega⟩
  rintro ⟨k, K, τ, ny⟩ ⟨g1, g2, g3, g4, g5⟩
  refine K_run hB 60 ?_
  simp [go_sem]
  refine fork_dec (fun hk => ?_) (fun hk => ?_)
  · have hkk : IntKind.i64.wrap ((k : Int) + 1) = ((k + 1 : Nat) : Int) := by rw [w64 ((k : Int) + 1) (by omega)]; rfl
    have hget : ∀ h : k < X.length, X[k]'h = rest[k].t := fun h => hgt k hk
    have htk : rest.take (k + 1) = rest.take k ++ [rest[k]] := List.take_succ_eq_append_getElem hk
    have hgl : (grp (rest.take k) rest[k].s.spot).length ≤ k := by
      refine Nat.le_trans (List.length_filter_le _ _) ?_
      rw [List.length_take]; omega
    have hadd := fun (τ' : Nat → AObj) (ny' q : Nat) => g2.add (n := rest[k]) (σ' := τ') (nx' := ny') (q := q)
    rw [← htk] at hadd
    generalize rest[k] = n at *
    have n0 : ¬ 0 = ny := by omega
    have n1 : ¬ 1 = ny := by omega
    simp [go_sem, hQl, hk, hget, Node.t, n0, n1]
    refine K_drawnF [11, 12] [0, 1, 2, 3] rfl (by rw [hB]; kernel_rfl) (by kernel_rfl) fun ht hf' => ?_
    refine K_run hB 100 ?_
    simp [go_sem, ht, hf']
    refine K_dLookup (kt := 3) (et := 72) (es := kmap K) (u := kv n.s.spot) (m := 1) (r := match kfind n.s.spot K with | some r => .ref r.2 | none => .fsl []) (by simp [go_sem]) rfl tt129 rfl tt72 (by kernel_rfl) (by simp [go_sem]) (by simp [go_sem, g4, n1, show ¬ ny = 0 by omega]) (by simp [go_sem]; rfl) (by simp [go_sem]; kernel_rfl) (by simp [go_sem]; exact k_tell _ _) ?_ (by simp [ht]) ?_
    · rw [lookA, findM_k]
      cases kfind n.s.spot K with
      | none => simp [go_sem]
      | some r => simp
    have hcap1 : 1 ≤ mostLen := by decide
    cases hf : kfind n.s.spot K with
    | none =>
      have hgr : grp (rest.take k) n.s.spot = [] := g2.none _ (kfind_none hf)
      refine K_run hB 100 ?_
      simp [go_sem, ht, hf', n0, n1, hcap1]
      refine K_dTold (fun ho => does_mapSet (P := P) (n := B.n) (kt := 3) (et := 72) (es := kmap K) (u := kv n.s.spot) (q := 1) ho (by simp [go_sem]) rfl tt129 rfl (by kernel_rfl) (by simp [go_sem]) (by simp [go_sem, g4, n1, show ¬ ny = 0 by omega]) (by simp [go_sem]; rfl) (by simp [go_sem]; kernel_rfl) (by simp [go_sem]; exact k_tell _ _) (.inr (by simp [Instr.sameBits]))) (by simp) (fun q hq => by rw [List.mem_singleton.1 hq]; exact .inl (by kernel_rfl)) ?_
      refine K_run hB 100 ?_
      simp [go_sem, ht, hf', hkk, setM_k]
      refine Next.mk (k + 1, kset n.s.spot (ny + 1) K, _, ny + 2) ?_ (Imp.slots (by simp [go_sem]) rfl rfl) (by simp only; omega)
      refine ⟨by simp only; omega, ?_, by simp [oput, g3, n0], by simp [oput], by simp only; omega⟩
      refine hadd _ (ny + 2) (ny + 1) ⟨by omega, by omega⟩ g5 (fun p hp hne => ?_) ?_
      · obtain ⟨_, s2, s3⟩ := g2.rows p hp
        simp [oput, show ¬ p.2 = ny by omega, show ¬ p.2 = 1 by omega, show ¬ p.2 = ny + 1 by omega]
      · rw [hgr]
        simp [oput, nodesT, Node.t, show ¬ ny = 0 by omega]
    | some r =>
      obtain ⟨j, q⟩ := r
      obtain ⟨hj1, hj2⟩ := kfind_some hf
      have hmem : (n.s.spot, q) ∈ K := hj2 ▸ List.getElem_mem hj1
      obtain ⟨r1, r2, r3⟩ := g2.rows (n.s.spot, q) hmem
      simp only at r1 r2 r3
      have n2 : ¬ q = ny := by omega
      have n3 : ¬ 1 = q := by omega
      have n4 : ¬ 0 = q := by omega
      have n5 : ¬ ny = q := by omega
      have hcap2 : (nodesT (grp (rest.take k) n.s.spot)).length + 1 ≤ mostLen := by rw [nodesT, List.length_map]; omega
      refine K_run hB 100 ?_
      simp [go_sem, ht, hf', n0, n1, n2, n5, r1, hcap2]
      refine K_dTold (fun ho => does_mapSet (P := P) (n := B.n) (kt := 3) (et := 72) (es := kmap K) (u := kv n.s.spot) (q := 1) ho (by simp [go_sem]) rfl tt129 rfl (by kernel_rfl) (by simp [go_sem]) (by simp [go_sem, g4, n1, n3, n4, show ¬ ny = 0 by omega]) (by simp [go_sem]; rfl) (by simp [go_sem]; kernel_rfl) (by simp [go_sem]; exact k_tell _ _) (.inr (by simp [Instr.sameBits]))) (by simp) (fun q hq => by rw [List.mem_singleton.1 hq]; exact .inl (by kernel_rfl)) ?_
      refine K_run hB 100 ?_
      simp [go_sem, ht, hf', hkk, setM_k]
      refine Next.mk (k + 1, kset n.s.spot (ny + 1) K, _, ny + 2) ?_ (Imp.slots (by simp [go_sem]) rfl rfl) (by simp only; omega)
      refine ⟨by simp only; omega, ?_, by simp [oput, g3, n0, n4], by simp [oput], by simp only; omega⟩
      refine hadd _ (ny + 2) (ny + 1) ⟨by omega, by omega⟩ g5 (fun p hp hne => ?_) ?_
      · obtain ⟨_, s2, s3⟩ := g2.rows p hp
        have := g2.ne hp hmem hne
        simp only at this
        simp [oput, show ¬ p.2 = ny by omega, show ¬ p.2 = 1 by omega, show ¬ p.2 = ny + 1 by omega, this]
      · simp [oput, nodesT, Node.t, show ¬ ny = 0 by omega]
  · have : k = rest.length := by omega
    subst this
    rw [List.take_length] at g2
    simp [go_sem, g3]
    have hok : ∀ (L : List Node), (∀ n ∈ L, n ∈ rest) → ∀ n ∈ L, n.s.ok := fun L h n hn => (hrf n (h n hn)).ok
    refine K_loopP (α := Nat × AV × List Node × (Nat → AObj) × Nat) (fun (i, A, out, τ', my) => i ≤ x.stops.length ∧ (A = .fsl (nodesT out) ∨ ∃ q, A = .ref q ∧ τ' q = .arr 10 (nodesT out) ∧ ny ≤ q ∧ q < my) ∧ (out ++ ((List.range x.stops.length).drop i).flatMap (oneAt rest) = R ∧ out.length ≤ kp + i) ∧ τ' 1 = .map (kmap K) ∧ ny ≤ my ∧ ∀ p ∈ K, τ' p.2 = τ p.2)
      (fun (i, A, out, τ', my) => ⟨sl [(9, A), (10, .mapr 1), (60, .i x.stops.length), (61, .i i)], τ', my⟩) (fun a => x.stops.length - a.1) (0, .fsl (nodesT front), front, τ, ny) ?_ (Imp.slots (by simp [go_sem]) rfl rfl) ?_
    · exact ⟨Nat.zero_le _, .inl rfl, ⟨hR, hfl⟩, g4, Nat.le_refl _, fun p _ => rfl⟩
    rintro ⟨i, A, out, τ', my⟩ ⟨f1, f2, ⟨f3, f3'⟩, f4, f5, f6⟩
    refine K_run hB 60 ?_
    simp [go_sem]
    refine fork_dec (fun hi => ?_) (fun hi => ?_)
    · have hii : IntKind.i64.wrap ((i : Int) + 1) = ((i + 1 : Nat) : Int) := by rw [w64 ((i : Int) + 1) (by omega)]; rfl
      rw [List.drop_eq_getElem_cons (by rw [List.length_range]; exact hi), List.getElem_range, List.flatMap_cons, ← List.append_assoc] at f3
      have hone : oneAt rest i = if (together (grp rest i)).2 = true then [(together (grp rest i)).1] else [] := rfl
      have htg := fun (τ2 : Nat → AObj) (m2 q : Nat) (h1 : q < m2) (h2 : τ2 q = .arr 10 (nodesT (grp rest i))) => together_spec (grp rest i) (Nat.lt_of_le_of_lt (List.length_filter_le _ _) (by omega)) (hok _ fun n hn => (List.mem_filter.1 hn).1) (σ := τ2) (nx := m2) (r := q) h1 h2
      simp [go_sem]
      refine K_lookup (kt := 3) (et := 72) (es := kmap K) (u := kv i) (m := 1) (r := match kfind i K with | some r => .ref r.2 | none => .fsl []) rfl rfl (by simp [go_sem, hB]) tt129 rfl tt72 (by kernel_rfl) (by simp [go_sem]) (by simp [go_sem, f4]) (by simp [go_sem]; rfl) (by simp [go_sem]; kernel_rfl) (by simp [go_sem]; exact k_tell _ _) ?_ ?_
      · rw [lookA, findM_k]
        cases kfind i K with
        | none => simp [go_sem]
        | some r => simp
      refine K_impE (α := Nat × (Nat → AObj) × Nat) (fun (q, τ2, m2) => my ≤ m2 ∧ q < m2 ∧ τ2 q = .arr 10 (nodesT (grp rest i)) ∧ ∀ j, j < my → τ2 j = τ' j) (fun (q, τ2, m2) => ⟨sl [(9, A), (10, .mapr 1), (60, .i x.stops.length), (61, .i i), (67, .ref q)], τ2, m2⟩) ?_ ?_
      · cases hf : kfind i K with
        | none =>
          have hgr : grp rest i = [] := g2.none _ (kfind_none hf)
          refine ⟨(my, _, my + 1), ⟨by omega, by omega, ?_, ?_⟩, (Imp.own (t := 67) (sz := 10) (by simp [go_sem])).trans (Imp.slots (by simp [go_sem]) rfl rfl)⟩
          · rw [hgr]; simp [oput, nodesT]
          · intro j hj; simp [oput, show ¬ j = my by omega]
        | some r =>
          obtain ⟨j, q⟩ := r
          obtain ⟨hj1, hj2⟩ := kfind_some hf
          have hmem : ((i : Int), q) ∈ K := hj2 ▸ List.getElem_mem hj1
          obtain ⟨r1, r2, r3⟩ := g2.rows _ hmem
          refine ⟨(q, _, my), ⟨Nat.le_refl _, by simp only at r3 ⊢; omega, ?_, fun _ _ => rfl⟩, Imp.slots (by simp [go_sem]) rfl rfl⟩
          exact (f6 _ hmem).trans r1
      rintro ⟨q, τ2, m2⟩ ⟨e1, e2, e3, e4⟩
      refine K_call rfl rfl rfl (args := [.ref q]) (f := 78) (by simp [go_sem]) (by simp [go_sem, hB]) (htg _ _ _ e2 e3) ?_
      generalize together (grp rest i) = TG at *
      obtain ⟨tn, tb⟩ := TG
      have hcap1 : 1 ≤ mostLen := by decide
      have hcap2 : (nodesT out).length + 1 ≤ mostLen := by rw [nodesT, List.length_map]; omega
      have m1 : ¬ 1 = m2 := by omega
      have m0 : ¬ 1 = m2 + 1 := by omega
      have hlow : ∀ j, ny ≤ j → j ≠ 1 := fun j h => by omega
      cases tb with
      | false =>
        rw [hone, if_neg (by simp), List.append_nil] at f3
        refine K_run hB 100 ?_
        simp [go_sem, Node.a, Node.cs, hii]
        refine Next.mk (i + 1, A, out, _, m2 + 1) ?_ (Imp.slots (by simp [go_sem]) rfl rfl) (by simp only; omega)
        refine ⟨by simp only; omega, ?_, ⟨f3, by simp only; omega⟩, by simp [oput, m1, e4 1 (by omega), f4], by simp only; omega, ?_⟩
        · rcases f2 with f2 | ⟨q', f2, f7, f8, f9⟩
          · exact .inl f2
          · exact .inr ⟨q', f2, by simp [oput, show ¬ q' = m2 by omega, e4 q' f9, f7], f8, by simp only; omega⟩
        · intro a b hab
          have h1 := (g2.rows _ hab).2.2
          have h2 := f6 _ hab
          simp only at h1 h2
          simp [oput, show ¬ b = m2 by omega, e4 b (by omega), h2]
      | true =>
        rw [hone, if_pos (by simp)] at f3
        simp only at f3
        have hsn : nodesT (out ++ [tn]) = nodesT out ++ [tn.t] := by simp [nodesT]
        rcases f2 with f2 | ⟨q', f2, f7, f8, f9⟩
        · subst f2
          refine K_run hB 100 ?_
          simp [go_sem, Node.a, Node.cs, hcap1, hcap2, hii, if_pos (nodesT_len out)]
          refine Next.mk (i + 1, .ref (m2 + 1), out ++ [tn], _, m2 + 2) ?_ (Imp.slots (by simp [go_sem]) rfl rfl) (by simp only; omega)
          refine ⟨by simp only; omega, .inr ⟨m2 + 1, rfl, ?_, by omega, by simp only; omega⟩, ⟨f3, by simp only [List.length_append, List.length_cons, List.length_nil]; omega⟩, by simp [oput, m1, m0, e4 1 (by omega), f4, show ¬ m2 = 0 by omega], by simp only; omega, ?_⟩
          · rw [hsn]; simp [oput, Node.t]
          · intro a b hab
            have h1 := (g2.rows _ hab).2.2
            have h2 := f6 _ hab
            simp only at h1 h2
            simp [oput, show ¬ b = m2 by omega, show ¬ b = m2 + 1 by omega, e4 b (by omega), h2]
        · subst f2
          have hq1 : ¬ q' = m2 := by omega
          have hq2 : ¬ m2 = q' := by omega
          have hq3 : ¬ 1 = q' := by omega
          refine K_run hB 100 ?_
          simp [go_sem, Node.a, Node.cs, hcap1, hcap2, hii, hq1, e4 q' f9, f7]
          refine Next.mk (i + 1, .ref (m2 + 1), out ++ [tn], _, m2 + 2) ?_ (Imp.slots (by simp [go_sem]) rfl rfl) (by simp only; omega)
          refine ⟨by simp only; omega, .inr ⟨m2 + 1, rfl, ?_, by omega, by simp only; omega⟩, ⟨f3, by simp only [List.length_append, List.length_cons, List.length_nil]; omega⟩, by simp [oput, m1, m0, hq3, e4 1 (by omega), f4, show ¬ m2 = 0 by omega], by simp only; omega, ?_⟩
          · rw [hsn]; simp [oput, Node.t]
          · intro a b hab
            have h1 := (g2.rows _ hab).2.2
            have h2 := f6 _ hab
            simp only at h1 h2
            simp [oput, show ¬ b = m2 by omega, show ¬ b = m2 + 1 by omega, show ¬ b = q' by omega, e4 b (by omega), h2]
    · have : i = x.stops.length := by omega
      subst this
      rw [List.drop_of_length_le (by simp), List.flatMap_nil, List.append_nil] at f3
      subst f3
      rcases f2 with f2 | ⟨q', f2, f7, f8, f9⟩
      · subst f2
        simp [go_sem]
      · subst f2
        simp [go_sem, f7]
end Go.Proofs.YtdjbapglfdacmaaGreat

/- Sets: what is in both, what is in one of two: the document's. -/
set_option maxRecDepth 4000
namespace Go.Proofs.YtdjbapglfdacmaaGreat
open Go Go.Proofs.YtdjbapglfdacmaaGreat.R
theorem mod_step (a i : Nat) (hi : i < 64) : a % 2 ^ (i + 1) = if a.testBit i = true then withN (a % 2 ^ i) (i : Int) else a % 2 ^ i := by
  have hb : bitN (i : Int) = 2 ^ i := by rw [bitN, if_pos (by omega)]; rfl
  refine Nat.eq_of_testBit_eq fun k => ?_
  have h1 : ∀ k, (withN (a % 2 ^ i) (i : Int)).testBit k = ((a % 2 ^ i).testBit k || decide (i = k)) := fun k => by rw [withN, hb, Nat.testBit_or, Nat.testBit_two_pow]
  rw [Nat.testBit_mod_two_pow]
  by_cases e : k = i
  · subst e
    split
    · rename_i h
      rw [h1, h]; simp
    · rename_i h
      rw [Nat.testBit_mod_two_pow]; simp [h]
  · split
    · rw [h1, Nat.testBit_mod_two_pow, show decide (i = k) = false from decide_eq_false (fun h => e h.symm), Bool.or_false]
      congr 1
      rw [decide_eq_decide]; omega
    · rw [Nat.testBit_mod_two_pow]
      congr 1
      rw [decide_eq_decide]; omega
theorem mod_le (a i : Nat) (h : a < 2 ^ 64) : a % 2 ^ i < 2 ^ 64 := Nat.lt_of_le_of_lt (Nat.mod_le _ _) h
/-- The stops of a set that are less than one. -/
def modN (a i : Nat) : Nat := a % 2 ^ i
theorem modN_step (a i : Nat) (hi : i < 64) : modN a (i + 1) = if a.testBit i = true then withN (modN a i) (i : Int) else modN a i := mod_step a i hi
theorem modN_full {a : Nat} (h : a < 2 ^ 64) : modN a 64 = a := Nat.mod_eq_of_lt h
theorem modN_zero (a : Nat) : modN a 0 = 0 := Nat.mod_one a
theorem rand_pure (s t : Nat) (hs : s < 2 ^ 64) (ht : t < 2 ^ 64) : Pure P 162 [.u s, .u t] (.u (s &&& t : Nat)) := by
  have hst : s &&& t < 2 ^ 64 := Nat.and_lt_two_pow _ ht
  have hbit : ∀ i, (s &&& t).testBit i = (s.testBit i && t.testBit i) := fun i => Nat.testBit_and _ _ _
  have hfull := modN_full hst
  refine pure_of Tryz.func162 rfl rfl (by simp [Tryz.f162]) (by simp [bnd, bnd.bndL]) (by simp [bnd, bnd.bndL]) fun B hB hnx => ?_
  simp only [Tryz.f162] at hB ⊢
  generalize s &&& t = a at *
  refine K_run hB 100 ?_
  simp [go_sem]
  refine K_loopP (α := Nat) (fun i => i ≤ 64) (fun i => ⟨sl [(0, .u s), (1, .u t), (5, .u (modN a i)), (6, .i i)], noObj, 0⟩) (fun i => 64 - i) 0 (by omega) (Imp.slots (by simp [go_sem, modN_zero]) rfl rfl) ?_
  intro i g1
  by_cases hi : (i : Int) < 64
  · have hi' : i < 64 := by omega
    have hii : IntKind.i64.wrap ((i : Int) + 1) = ((i + 1 : Nat) : Int) := by rw [w64 ((i : Int) + 1) (by omega)]; rfl
    have hm := modN_step a i hi'
    rw [hbit] at hm
    have hc := mod_le a i hst
    have h1 := rhas_pure s i hs
    have h2 := rhas_pure t i ht
    have h3 := rwith_pure (modN a i) i hc
    rw [has_nat hi'] at h1 h2
    refine K_run hB 60 ?_
    simp [go_sem, hi]
    refine K_call rfl rfl rfl (args := [.u s, .i i]) (f := 125) (by simp [go_sem]) (by simp [go_sem, hB]) ((h1).spec _ _) ?_
    refine K_run hB 100 ?_
    simp [go_sem]
    refine K_call rfl rfl rfl (args := [.u t, .i i]) (f := 125) (by simp [go_sem]) (by simp [go_sem, hB]) ((h2).spec _ _) ?_
    cases e1 : s.testBit i <;> cases e2 : t.testBit i <;> rw [e1, e2] at hm
    · rw [if_neg (by simp)] at hm
      refine K_run hB 100 ?_
      simp [go_sem, hii]
      exact Next.mk (i + 1) (by omega) (Imp.slots (by simp [go_sem, hm]) rfl rfl) (by omega)
    · rw [if_neg (by simp)] at hm
      refine K_run hB 100 ?_
      simp [go_sem, hii]
      exact Next.mk (i + 1) (by omega) (Imp.slots (by simp [go_sem, hm]) rfl rfl) (by omega)
    · rw [if_neg (by simp)] at hm
      refine K_run hB 100 ?_
      simp [go_sem, hii]
      exact Next.mk (i + 1) (by omega) (Imp.slots (by simp [go_sem, hm]) rfl rfl) (by omega)
    · rw [if_pos (by simp)] at hm
      refine K_run hB 100 ?_
      simp [go_sem]
      refine K_call rfl rfl rfl (args := [.u (modN a i), .i i]) (f := 158) (by simp [go_sem]) (by simp [go_sem, hB]) ((h3).spec _ _) ?_
      refine K_run hB 100 ?_
      simp [go_sem, hii]
      exact Next.mk (i + 1) (by omega) (Imp.slots (by simp [go_sem, hm]) rfl rfl) (by omega)
  · have : i = 64 := by omega
    subst this
    refine K_run hB 60 ?_
    simp [go_sem, hfull]
/-- The stops of a set. -/
def allU (s i : Nat) : List Int := ((List.range i).filter fun i => s.testBit i).map fun (i : Nat) => (i : Int)
def allL (s : Nat) : List Int := allU s 64
theorem allU_len (s i : Nat) : (allU s i).length ≤ i := by
  rw [allU, List.length_map]
  exact Nat.le_trans (List.length_filter_le _ _) (by simp)
theorem allU_step (s i : Nat) : allU s (i + 1) = allU s i ++ if s.testBit i = true then [(i : Int)] else [] := by
  rw [allU, allU, List.range_succ, List.filter_append, List.map_append]
  congr 1
  cases h : s.testBit i <;> simp [h]
theorem rall02_pure (s : Nat) (hs : s < 2 ^ 64) : Pure P 178 [.u s] (.t (.sl (ints (allL s)))) := by
  generalize hR : allL s = R
  refine pure_of Tryz.func178 rfl rfl (by simp [Tryz.f178]) (by simp [bnd, bnd.bndL]) (by simp [bnd, bnd.bndL]) fun B hB hnx => ?_
  simp only [Tryz.f178] at hB ⊢
  refine K_run hB 100 ?_
  simp [go_sem]
  refine K_own 3 1 (by simp [go_sem]) ?_
  refine K_loopP (α := Nat × Nat × (Nat → AObj) × Nat) (fun (i, q, τ, ny) => i ≤ 64 ∧ τ q = .arr 1 (ints (allU s i)) ∧ q < ny) (fun (i, q, τ, ny) => ⟨sl [(0, .u s), (3, .ref q), (4, .i i)], τ, ny⟩) (fun a => 64 - a.1) (0, 0, _, 1) ?_ (Imp.slots (by simp [go_sem]) rfl rfl) ?_
  · exact ⟨by omega, by simp [oput, allU, ints], by omega⟩
  rintro ⟨i, q, τ, ny⟩ ⟨g1, g2, g3⟩
  by_cases hi : (i : Int) < 64
  · have hi' : i < 64 := by omega
    have hii : IntKind.i64.wrap ((i : Int) + 1) = ((i + 1 : Nat) : Int) := by rw [w64 ((i : Int) + 1) (by omega)]; rfl
    have h1 := rhas_pure s i hs
    rw [has_nat hi'] at h1
    have hsn := allU_step s i
    have hlen := allU_len s i
    generalize hL' : allU s (i + 1) = L' at *
    generalize allU s i = L at *
    have hil : (ints L).length = L.length := List.length_map _
    have hcap : L.length + 1 ≤ mostLen := by show _ ≤ 4294967296; omega
    refine K_run hB 60 ?_
    simp [go_sem, hi]
    refine K_call rfl rfl rfl (args := [.u s, .i i]) (f := 125) (by simp [go_sem]) (by simp [go_sem, hB]) ((h1).spec _ _) ?_
    cases e1 : s.testBit i with
    | false =>
      rw [e1, if_neg (by simp), List.append_nil] at hsn
      subst hsn
      refine K_run hB 100 ?_
      simp [go_sem, hii]
      exact Next.mk (i + 1, q, τ, ny) ⟨by simp only; omega, by simp only; rw [hL']; exact g2, g3⟩ (Imp.slots (by simp [go_sem]) rfl rfl) (by simp only; omega)
    | true =>
      rw [e1, if_pos rfl] at hsn
      refine K_run hB 100 ?_
      simp [go_sem, g2, hil, hcap, hii]
      refine Next.mk (i + 1, ny, _, ny + 1) ⟨by simp only; omega, ?_, by simp only; omega⟩ (Imp.slots (by simp [go_sem]) rfl rfl) (by simp only; omega)
      simp only
      rw [hL', hsn]
      simp [oput, ints]
  · have : i = 64 := by omega
    subst this
    refine K_run hB 60 ?_
    simp [go_sem, g2]
    rw [← hR]; rfl
theorem fold_with (s t : Nat) : ∀ n, n ≤ 64 → (allU t n).foldl withN s = s ||| t % 2 ^ n
  | 0, _ => by simp [allU, Nat.mod_one]
  | n + 1, h => by
    have hb : bitN (n : Int) = 2 ^ n := by rw [bitN, if_pos (by omega)]; rfl
    rw [allU_step, List.foldl_append, fold_with s t n (by omega), mod_step t n (by omega)]
    cases e : t.testBit n with
    | false => simp
    | true =>
      simp only [if_true, List.foldl_cons, List.foldl_nil, withN, hb]
      rw [Nat.or_assoc]
theorem ror_pure (s t : Nat) (hs : s < 2 ^ 64) (ht : t < 2 ^ 64) : Pure P 163 [.u s, .u t] (.u (s ||| t : Nat)) := by
  have hf : (allL t).foldl withN s = s ||| t := by rw [allL, fold_with s t 64 (by omega), Nat.mod_eq_of_lt ht]
  have hal := rall02_pure t ht
  have hll : (allL t).length ≤ 64 := allU_len t 64
  refine pure_of Tryz.func163 rfl rfl (by simp [Tryz.f163]) (by simp [bnd, bnd.bndL]) (by simp [bnd, bnd.bndL]) fun B hB hnx => ?_
  simp only [Tryz.f163] at hB ⊢
  generalize s ||| t = R at *
  generalize allL t = L at *
  have hil : (ints L).length = L.length := List.length_map _
  have hgt : ∀ (k : Nat) (h : k < L.length), (ints L)[k]'(by rw [hil]; exact h) = [.i L[k]] := fun k h => by simp [ints]
  generalize hX : ints L = X at *
  refine K_run hB 100 ?_
  simp [go_sem]
  refine K_call rfl rfl rfl (args := [.u t]) (f := 178) (by simp [go_sem]) (by simp [go_sem, hB]) ((hal).spec _ _) ?_
  refine K_run hB 100 ?_
  simp [go_sem]
  refine K_loopP (α := Nat × Nat) (fun (k, a) => k ≤ L.length ∧ (L.drop k).foldl withN a = R ∧ a < 2 ^ 64) (fun (k, a) => ⟨sl [(5, .u a), (6, .t (.sl X)), (7, .i k)], noObj, 0⟩) (fun a => L.length - a.1) (0, s) ⟨Nat.zero_le _, hf, hs⟩ (Imp.slots (by simp [go_sem]) rfl rfl) ?_
  rintro ⟨k, a⟩ ⟨g1, g2, g3⟩
  refine K_run hB 60 ?_
  simp [go_sem, hil]
  refine fork_dec (fun hk => ?_) (fun hk => ?_)
  · have hkk : IntKind.i64.wrap ((k : Int) + 1) = ((k + 1 : Nat) : Int) := by rw [w64 ((k : Int) + 1) (by omega)]; rfl
    have hget : ∀ h : k < X.length, X[k]'h = [.i L[k]] := fun h => hgt k hk
    rw [List.drop_eq_getElem_cons hk, List.foldl_cons] at g2
    generalize L[k] = j at *
    have h3 := rwith_pure a j g3
    have h4 := withN_lt g3 j
    generalize withN a j = a' at *
    simp [go_sem, hil, hk, hget]
    refine K_call rfl rfl rfl (args := [.u a, .i j]) (f := 158) (by simp [go_sem]) (by simp [go_sem, hB]) ((h3).spec _ _) ?_
    refine K_run hB 100 ?_
    simp [go_sem, hkk]
    exact Next.mk (k + 1, a') ⟨by simp only; omega, g2, h4⟩ (Imp.slots (by simp [go_sem]) rfl rfl) (by simp only; omega)
  · have : k = L.length := by omega
    subst this
    rw [List.drop_length, List.foldl_nil] at g2
    subst g2
    simp [go_sem]
end Go.Proofs.YtdjbapglfdacmaaGreat

/- States thrown together, nodes squeezed: the document's. -/
set_option maxRecDepth 4000
set_option maxHeartbeats 1000000
namespace Go.Proofs.YtdjbapglfdacmaaGreat
open Go Go.Proofs.YtdjbapglfdacmaaGreat.R
def joinR : State → List State → State × Bool
  | s, [] => (s, true)
  | s, t :: l => if t.spot = s.spot then joinR (s.join t) l else (State.zero, false)
theorem joinL_R : ∀ (l : List State) (s : State), joinL (s :: l) = joinR s l
  | [], s => rfl
  | t :: l, s => by
    rw [joinR, ← joinL_R l (s.join t), joinL, joinL]
    by_cases h : t.spot = s.spot
    · rw [if_pos h, List.any_cons, List.foldl_cons, decide_eq_false (fun e => e h), Bool.false_or]
      rfl
    · rw [if_neg h, List.any_cons, decide_eq_true h, Bool.true_or, if_pos rfl]
theorem least_pure (a b : Int) : Pure P 161 [.i a, .i b] (.i (min a b)) := by
  refine pure_of Tryz.func161 rfl rfl (by simp [Tryz.f161]) (by simp [bnd, bnd.bndL]) (by simp [bnd, bnd.bndL]) fun B hB hnx => ?_
  simp only [Tryz.f161] at hB ⊢
  by_cases h : a < b
  · refine K_run hB 100 ?_
    simp [go_sem, h]
    omega
  · refine K_run hB 100 ?_
    simp [go_sem, h]
    omega
theorem rjoin_spec (l : List State) (hl : l.length < 2 ^ 31) (hlo : ∀ t ∈ l, t.ok) {σ : Nat → AObj} {nx r : Nat} (hr : r < nx) (hσr : σ r = .arr 8 (l.map State.row)) :
    CallSpec P 128 [.ref r] σ nx (.tup [(joinL l).1.a, .b (joinL l).2]) σ nx := by
  refine spec_keep Tryz.func128 rfl rfl (by simp [Tryz.f128]) (by simp [bnd, bnd.bndL, State.a, State.cs]) fun hk B hB hnx hσB => ?_
  simp only [Tryz.f128] at hB ⊢
  have m1 : ¬ r = nx := by omega
  have m2 : ¬ r = nx + 1 := by omega
  cases l with
  | nil =>
    have hrl : σ r = .arr 8 [] := hσr
    have e : joinL [] = (State.zero, false) := rfl
    rw [e]
    refine K_run hB 100 ?_
    simp [go_sem, hrl, m1, m2]
    exact ⟨fun i h => by simp [show ¬ i = nx by omega], rfl⟩
  | cons s l =>
    generalize hR : joinL (s :: l) = R
    rw [joinL_R] at hR
    have hso := hlo s List.mem_cons_self
    have hlo2 : ∀ t ∈ l, t.ok := fun t h => hlo t (List.mem_cons_of_mem _ h)
    rw [List.length_cons] at hl
    obtain ⟨X, hX⟩ : ∃ X, X = (s :: l).map State.row := ⟨_, rfl⟩
    rw [← hX] at hσr
    have hil : X.length = l.length + 1 := by rw [hX]; simp
    have hg0 : ∀ h : 0 < X.length, X[0]'h = s.row := fun h => by simp only [hX]; rfl
    have hgt : ∀ (k : Nat) (h : k < l.length) (h' : k + 1 < X.length), X[k + 1]'h' = l[k].row := fun k h h' => by simp [hX]
    clear hX
    have hq0 : ¬ (l.length : Int) + 1 = 0 := by omega
    refine K_run hB 100 ?_
    simp [go_sem, hσr, hil, hg0, m1, m2, State.row, hq0]
    refine K_loopP (α := Nat × State × (Nat → AObj) × Nat) (fun (i, s, τ, ny) => 1 ≤ i ∧ i ≤ l.length + 1 ∧ joinR s (l.drop (i - 1)) = R ∧ s.ok ∧ τ (nx + 1) = .box s.cs ∧ τ nx = .box State.zero.cs ∧ nx + 2 ≤ ny ∧ ∀ i, i < nx → τ i = σ i)
      (fun (i, s, τ, ny) => ⟨sl [(0, .ref r), (2, .ptr nx 0), (3, .b false), (4, .ptr (nx + 1) 0), (5, .i i)], τ, ny⟩) (fun a => l.length + 1 - a.1) (1, s, _, nx + 2) ?_ (Imp.slots (by simp [go_sem]) rfl rfl) ?_
    · refine ⟨Nat.le_refl _, by omega, hR, hso, by simp [oput, State.cs], by simp [oput, State.cs, State.zero], by omega, fun i h => by simp [oput, show ¬ i = nx by omega, show ¬ i = nx + 1 by omega]⟩
    clear hR hso
    rintro ⟨i, s, τ, ny⟩ ⟨g0, g1, g2, g3, g4, g5, g6, g7⟩
    have hτr : τ r = .arr 8 X := (g7 r hr).trans hσr
    have n1 : ¬ r = ny := by omega
    have n2 : ¬ nx + 1 = ny := by omega
    have n3 : ¬ nx = ny := by omega
    have n4 : ¬ ny = nx + 1 := by omega
    have n5 : ¬ ny = nx := by omega
    by_cases hk : i < l.length + 1
    · have hk1 : (i : Int) < (l.length : Int) + 1 := by omega
      have hkk : IntKind.i64.wrap ((i : Int) + 1) = ((i + 1 : Nat) : Int) := by rw [w64 _ (by omega)]; rfl
      obtain ⟨k, rfl⟩ : ∃ k, i = k + 1 := ⟨i - 1, by omega⟩
      have hkl : k < l.length := by omega
      have hget : ∀ h : k + 1 < X.length, X[k + 1]'h = l[k].row := fun h => hgt k hkl h
      rw [Nat.add_sub_cancel, List.drop_eq_getElem_cons hkl, joinR] at g2
      have hto := hlo2 l[k] (List.getElem_mem _)
      generalize l[k] = t at *
      have hl1 := least_pure s.car t.car
      have hl2 := least_pure s.time t.time
      have hl3 := least_pure s.load t.load
      have hl4 := least_pure s.first t.first
      have ha1 := rand_pure s.must t.must g3.must hto.must
      have ha2 := rand_pure s.on t.on g3.on hto.on
      have ho1 := ror_pure s.can t.can g3.can hto.can
      have hdk : l.drop (k + 1) = l.drop (k + 1 + 1 - 1) := rfl
      rw [hdk] at g2
      generalize k + 1 = i at *
      by_cases c1 : t.spot = s.spot
      rotate_left
      · rw [if_neg c1] at g2
        subst g2
        refine K_run hB 60 ?_
        simp [go_sem, hτr, hil, hk, hk1, hget, n1, n2, n3, n4, State.row, g4, State.cs, c1, g5]
        exact ⟨by omega, fun i h => by simp [show ¬ i = nx by omega, show ¬ i = ny by omega, g7 i h], rfl⟩
      rw [if_pos c1] at g2
      have hjo := join_ok g3 hto
      have hj : s.join t = ⟨s.spot, min s.car t.car, min s.time t.time, min s.load t.load, min s.first t.first, s.must &&& t.must, s.can ||| t.can, s.on &&& t.on⟩ := rfl
      refine K_run hB 60 ?_
      simp [go_sem, hτr, hil, hk, hk1, hget, n1, n2, n3, n4, State.row, g4, State.cs, c1, g5]
      refine K_drawnT [38] rfl (by rw [hB]; kernel_rfl) (by kernel_rfl) fun ht => ?_
      refine K_run hB 60 ?_
      simp [go_sem, ht, n2, n4, g4, State.cs]
      refine K_dCallP rfl rfl rfl (args := [.i s.car, .i t.car]) (f := 161) (by simp [go_sem]) (hl1) ?_
      refine K_run hB 60 ?_
      simp [go_sem, ht, n2, n4, g4, State.cs]
      refine K_dCallP rfl rfl rfl (args := [.i s.time, .i t.time]) (f := 161) (by simp [go_sem]) (hl2) ?_
      refine K_run hB 60 ?_
      simp [go_sem, ht, n2, n4, g4, State.cs]
      refine K_dCallP rfl rfl rfl (args := [.i s.load, .i t.load]) (f := 161) (by simp [go_sem]) (hl3) ?_
      refine K_run hB 60 ?_
      simp [go_sem, ht, n2, n4, g4, State.cs]
      refine K_dCallP rfl rfl rfl (args := [.i s.first, .i t.first]) (f := 161) (by simp [go_sem]) (hl4) ?_
      refine K_run hB 60 ?_
      simp [go_sem, ht, n2, n4, g4, State.cs]
      refine K_dCallP rfl rfl rfl (args := [.u s.must, .u t.must]) (f := 162) (by simp [go_sem]) (ha1) ?_
      refine K_run hB 60 ?_
      simp [go_sem, ht, n2, n4, g4, State.cs]
      refine K_dCallP rfl rfl rfl (args := [.u s.can, .u t.can]) (f := 163) (by simp [go_sem]) (ho1) ?_
      refine K_run hB 60 ?_
      simp [go_sem, ht, n2, n4, g4, State.cs]
      refine K_dCallP rfl rfl rfl (args := [.u s.on, .u t.on]) (f := 162) (by simp [go_sem]) (ha2) ?_
      refine K_run hB 60 ?_
      simp [go_sem, ht, n2, n4, g4, State.cs, hkk]
      refine Next.mk (i + 1, s.join t, _, ny + 1) ?_ (Imp.slots (by simp [go_sem]) rfl rfl) (by simp only; omega)
      refine ⟨by simp only; omega, by simp only; omega, g2, hjo, by simp [oput, State.cs, hj], by simp [oput, g5, n3, State.cs], by simp only; omega, fun i h => by simp [oput, show ¬ i = ny by omega, show ¬ i = nx + 1 by omega, g7 i h]⟩
    · have hk1 : ¬ (i : Int) < (l.length : Int) + 1 := by omega
      rw [List.drop_of_length_le (by omega), joinR] at g2
      subst g2
      refine K_run hB 60 ?_
      simp [go_sem, hτr, hil, hk1, g4, g5, State.cs]
      exact ⟨by omega, fun i h => by simp [show ¬ i = nx by omega, g7 i h], rfl⟩
end Go.Proofs.YtdjbapglfdacmaaGreat

/- The node of all of some that are at a stop; nodes squeezed: the document's. -/
set_option maxRecDepth 4000
set_option maxHeartbeats 1000000
namespace Go.Proofs.YtdjbapglfdacmaaGreat
open Go Go.Proofs.YtdjbapglfdacmaaGreat.R
theorem rwidth_pure (x : Inst) (w : Int) : Pure P 41 [x.a, .i w] (.i (x.mostN w)) := by
  have hM := mostN_eq x w
  refine pure_of Tryz.func41 rfl rfl (by simp [Tryz.f41]) (by simp [bnd, bnd.bndL, Inst.a]) (by simp [bnd, bnd.bndL]) fun B hB hnx => ?_
  simp only [Tryz.f41] at hB ⊢
  by_cases h : w < x.stops.length
  · refine K_run hB 100 ?_
    simp [go_sem, Inst.a, h]
    omega
  · refine K_run hB 100 ?_
    simp [go_sem, Inst.a, h]
    omega
theorem atStop_snoc (L : List Node) (n : Node) (i : Nat) : atStop (L ++ [n]) i = atStop L i ++ if n.s.spot = i then [n] else [] := grp_snoc L n i
theorem rtogether_pure (l : List Node) (i : Nat) (hl : l.length < 2 ^ 31) (hlo : ∀ n ∈ l, n.s.ok) : Pure P 86 [.t (.sl (nodesT l)), .i i] (.tup [(together (atStop l i)).1.a, .b (together (atStop l i)).2]) := by
  refine pure_of Tryz.func86 rfl rfl (by simp [Tryz.f86]) (by simp [bnd, bnd.bndL]) (by simp [bnd, bnd.bndL, Node.a, Node.cs]) fun B hB hnx => ?_
  simp only [Tryz.f86] at hB ⊢
  have hil : (nodesT l).length = l.length := List.length_map _
  have hgt : ∀ (k : Nat) (h : k < l.length), (nodesT l)[k]'(by rw [hil]; exact h) = l[k].t := fun k h => nodesT_get l h
  have hmost : mostLen = 4294967296 := rfl
  generalize hX : nodesT l = X at *
  refine K_run hB 100 ?_
  simp [go_sem, hil]
  refine K_own 6 8 (by simp [go_sem]) ?_
  refine K_loopP (α := Nat × Nat × List Node × (Nat → AObj) × Nat) (fun (k, q, g, τ, ny) => k ≤ l.length ∧ g = atStop (l.take k) i ∧ τ q = .arr 8 (g.map fun n => n.s.row) ∧ τ 0 = .box (nodeC State.zero 0 (.fsl [])) ∧ 0 < q ∧ q < ny)
    (fun (k, q, g, τ, ny) => ⟨sl [(0, .t (.sl X)), (1, .i i), (4, .ptr 0 0), (5, .b false), (6, .ref q), (7, .i (costL g)), (8, .i k)], τ, ny⟩) (fun a => l.length - a.1) (0, 1, [], _, 2) ?_ (Imp.slots (by simp [go_sem, costL]) rfl rfl) ?_
  · exact ⟨Nat.zero_le _, rfl, by simp [oput], by simp [oput, State.zero], by omega, by omega⟩
  rintro ⟨k, q, g, τ, ny⟩ ⟨g1, g2, g3, g4, g5, g6⟩
  have hgl : g.length ≤ k := by
    rw [g2]
    refine Nat.le_trans (List.length_filter_le _ _) ?_
    rw [List.length_take]; omega
  have hrl : (g.map fun n => n.s.row).length = g.length := List.length_map _
  refine K_run hB 60 ?_
  simp [go_sem, hil]
  refine fork_dec (fun hk => ?_) (fun hk => ?_)
  · have hkk : IntKind.i64.wrap ((k : Int) + 1) = ((k + 1 : Nat) : Int) := by rw [w64 ((k : Int) + 1) (by omega)]; rfl
    have hget : ∀ h : k < X.length, X[k]'h = l[k].t := fun h => hgt k hk
    have hsn := atStop_snoc (l.take k) l[k] i
    rw [← List.take_succ_eq_append_getElem hk, ← g2] at hsn
    have hcs := costL_snoc g l[k]
    generalize l[k] = m at *
    have hcap : g.length + 1 ≤ mostLen := by omega
    have n1 : ¬ 0 = q := by omega
    have n2 : ¬ 0 = ny := by omega
    by_cases c0 : m.s.spot = i
    rotate_left
    · rw [if_neg c0, List.append_nil] at hsn
      simp [go_sem, hil, hk, hget, Node.t, c0, hkk]
      exact Next.mk (k + 1, q, g, τ, ny) ⟨by simp only; omega, hsn.symm, g3, g4, g5, g6⟩ (Imp.slots (by simp [go_sem]) rfl rfl) (by simp only; omega)
    rw [if_pos c0] at hsn
    have hrow : (g.map fun n => n.s.row) ++ [m.s.row] = (g ++ [m]).map fun n => n.s.row := by simp
    generalize hgm : (g.map fun n => n.s.row) = rows at *
    by_cases c1 : g = []
    · rw [if_pos (.inl c1)] at hcs
      simp [go_sem, hil, hk, hget, Node.t, c0, hkk, g3, hrl, hcap, eq_true c1]
      refine K_run hB 100 ?_
      simp [go_sem, hil, hk, hget, Node.t, g3, hrl, hcap, hkk]
      refine Next.mk (k + 1, ny, g ++ [m], _, ny + 1) ?_ (Imp.slots (by simp [go_sem, hcs]) rfl rfl) (by simp only; omega)
      refine ⟨by simp only; omega, hsn.symm, ?_, by simp [oput, n1, n2, g4], by simp only; omega, by simp only; omega⟩
      simp only
      rw [← hrow]
      simp [oput, State.row, c0]
    by_cases c2 : m.cost < costL g
    · rw [if_pos (.inr c2)] at hcs
      simp [go_sem, hil, hk, hget, Node.t, c0, hkk, g3, hrl, hcap, c1, c2]
      refine K_run hB 100 ?_
      simp [go_sem, hil, hk, hget, Node.t, g3, hrl, hcap, hkk]
      refine Next.mk (k + 1, ny, g ++ [m], _, ny + 1) ?_ (Imp.slots (by simp [go_sem, hcs]) rfl rfl) (by simp only; omega)
      refine ⟨by simp only; omega, hsn.symm, ?_, by simp [oput, n1, n2, g4], by simp only; omega, by simp only; omega⟩
      simp only
      rw [← hrow]
      simp [oput, State.row, c0]
    · rw [if_neg (by rintro (h | h); exact c1 h; exact c2 h)] at hcs
      simp [go_sem, hil, hk, hget, Node.t, c0, hkk, g3, hrl, hcap, c1, c2]
      refine K_run hB 100 ?_
      simp [go_sem, hil, hk, hget, Node.t, g3, hrl, hcap, hkk]
      refine Next.mk (k + 1, ny, g ++ [m], _, ny + 1) ?_ (Imp.slots (by simp [go_sem, hcs]) rfl rfl) (by simp only; omega)
      refine ⟨by simp only; omega, hsn.symm, ?_, by simp [oput, n1, n2, g4], by simp only; omega, by simp only; omega⟩
      simp only
      rw [← hrow]
      simp [oput, State.row, c0]
  · have : k = l.length := by omega
    subst this
    rw [List.take_length] at g2
    have hjs := fun (τ' : Nat → AObj) (h1 : τ' q = .arr 8 ((g.map fun n => n.s).map State.row)) => rjoin_spec (g.map fun n => n.s) (by rw [List.length_map]; omega) (fun t ht => by
      obtain ⟨n, hn, rfl⟩ := List.mem_map.1 ht
      rw [g2] at hn
      exact hlo n (atStop_mem.1 hn).1) (σ := τ') (nx := ny) (r := q) g6 h1
    rw [← g2]
    have htg : together g = (⟨(joinL (g.map fun n => n.s)).1, costL g, []⟩, (joinL (g.map fun n => n.s)).2) := rfl
    generalize together g = TG at *
    generalize joinL (g.map fun n => n.s) = J at *
    generalize costL g = c at *
    subst htg
    simp [go_sem]
    refine K_call rfl rfl rfl (args := [.ref q]) (f := 128) (by simp [go_sem]) (by simp [go_sem, hB]) (hjs _ (by rw [List.map_map]; exact g3)) ?_
    have n2 : ¬ 0 = ny := by omega
    refine K_run hB 100 ?_
    simp [go_sem, State.a, State.cs, g4, n2]
    rfl
end Go.Proofs.YtdjbapglfdacmaaGreat

/- Nodes squeezed: the document's. -/
set_option maxRecDepth 4000
set_option maxHeartbeats 1000000
namespace Go.Proofs.YtdjbapglfdacmaaGreat
open Go Go.Proofs.YtdjbapglfdacmaaGreat.R
theorem rsqueeze_pure (x : Inst) (l : List Node) (w : Int) (hx : x.stops.length < 2 ^ 31) (hl : l.length < 2 ^ 31) (hn : ∀ n ∈ l, n.Fine) : Pure P 42 [x.a, .t (.sl (nodesT l)), .i w] (.t (.sl (nodesT (x.squeeze l w)))) := by
  generalize hR : x.squeeze l w = R
  refine pure_of Tryz.func42 rfl rfl (by simp [Tryz.f42]) (by simp [bnd, bnd.bndL, Inst.a]) (by simp [bnd, bnd.bndL]) fun B hB hnx => ?_
  simp only [Tryz.f42] at hB ⊢
  have hso := rsorted_pure x l hx hl (fun n h => (hn n h).ok)
  have hmo := rwidth_pure x w
  have hfS : ∀ n ∈ x.sortN l, n.Fine := fun n h => hn n (Inst.sortN_mem.1 h)
  have hSl := x.sortN_len l
  rw [Inst.squeeze] at hR
  generalize x.sortN l = S at *
  have hM1 : x.stops.length ≤ x.mostN w := Nat.le_max_right _ _
  generalize x.mostN w = M at *
  have hNl : (nodesT S).length = S.length := List.length_map _
  refine K_run hB 100 ?_
  simp [go_sem, Inst.a]
  refine K_call rfl rfl rfl (args := [x.a, .t (.sl (nodesT l))]) (f := 85) (by simp [go_sem, Inst.a]) (by simp [go_sem, hB]) ((hso).spec _ _) ?_
  refine K_run hB 100 ?_
  simp [go_sem]
  refine K_call rfl rfl rfl (args := [x.a, .i w]) (f := 41) (by simp [go_sem, Inst.a]) (by simp [go_sem, hB]) ((hmo).spec _ _) ?_
  by_cases c1 : S.length ≤ M
  · rw [if_pos c1] at hR
    subst hR
    refine K_run hB 100 ?_
    simp [go_sem, hNl, c1]
  rw [if_neg c1] at hR
  have hM2 : M < 2 ^ 31 := by omega
  obtain ⟨kp, hkp⟩ : ∃ kp, kp = M - x.stops.length := ⟨_, rfl⟩
  have hkp2 : (M : Int) - x.stops.length = kp := by omega
  have hw1 : IntKind.i64.wrap ((M : Int) - x.stops.length) = kp := by rw [hkp2]; exact w64 _ (by omega)
  have hkl : kp < S.length := by omega
  have hS1 := nodesT_len S
  rw [← hkp] at hR
  have hXd : (nodesT S).drop kp = nodesT (S.drop kp) := by rw [nodesT, nodesT, List.map_drop]
  have hXt : (nodesT S).take kp = nodesT (S.take kp) := by rw [nodesT, nodesT, List.map_take]
  have hrl : (S.drop kp).length = S.length - kp := List.length_drop
  have hrf : ∀ n ∈ S.drop kp, n.s.ok := fun n h => (hfS n (List.mem_of_mem_drop h)).ok
  have hfl : (S.take kp).length ≤ kp := by rw [List.length_take]; omega
  have htg := fun i => rtogether_pure (S.drop kp) i (by omega) hrf
  have hone : ∀ i, oneAt (S.drop kp) i = if (together (atStop (S.drop kp) i)).2 = true then [(together (atStop (S.drop kp) i)).1] else [] := fun i => rfl
  have hcap0 : (nodesT (S.take kp)).length ≤ mostLen := by rw [nodesT, List.length_map]; show _ ≤ 4294967296; omega
  have hcap1 : (nodesT (S.take kp)).length ≤ mostLen ∧ ∀ y ∈ nodesT (S.take kp), y.length = 10 := ⟨hcap0, nodesT_len _⟩
  refine K_run hB 100 ?_
  simp [go_sem, hNl, c1, hw1, if_pos hS1, hkl, Nat.le_of_lt hkl, hXd, hXt, if_pos hcap1]
  generalize S.drop kp = rest at *
  generalize S.take kp = front at *
  have hmost : mostLen = 4294967296 := rfl
  refine K_loopP (α := Nat × Nat × List Node × (Nat → AObj) × Nat) (fun (i, q, out, τ, ny) => i ≤ x.stops.length ∧ (out ++ ((List.range x.stops.length).drop i).flatMap (oneAt rest) = R ∧ out.length ≤ kp + i) ∧ τ q = .arr 10 (nodesT out) ∧ τ 0 = .box x.cs ∧ 0 < q ∧ q < ny)
    (fun (i, q, out, τ, ny) => ⟨sl [(3, .ptr 0 0), (9, .ref q), (10, .t (.sl (nodesT rest))), (11, .i i)], τ, ny⟩) (fun a => x.stops.length - a.1) (0, 1, front, _, 2) ?_ (Imp.slots (by simp [go_sem]) rfl rfl) ?_
  · exact ⟨Nat.zero_le _, ⟨hR, hfl⟩, by simp [oput], by simp [oput, Inst.cs], by omega, by omega⟩
  rintro ⟨i, q, out, τ, ny⟩ ⟨f1, ⟨f2, f3⟩, f4, f5, f6, f7⟩
  refine K_run hB 60 ?_
  simp [go_sem, f5, Inst.cs]
  refine fork_dec (fun hi => ?_) (fun hi => ?_)
  · have hii : IntKind.i64.wrap ((i : Int) + 1) = ((i + 1 : Nat) : Int) := by rw [w64 ((i : Int) + 1) (by omega)]; rfl
    rw [List.drop_eq_getElem_cons (by rw [List.length_range]; exact hi), List.getElem_range, List.flatMap_cons, ← List.append_assoc, hone i] at f2
    have htg := htg i
    generalize together (atStop rest i) = TG at *
    obtain ⟨tn, tb⟩ := TG
    have hcap2 : (nodesT out).length + 1 ≤ mostLen := by rw [nodesT, List.length_map]; omega
    have n1 : ¬ q = ny := by omega
    have n2 : ¬ 0 = ny := by omega
    have n3 : ¬ 0 = q := by omega
    have n4 : ¬ ny = q := by omega
    simp [go_sem]
    refine K_call rfl rfl rfl (args := [.t (.sl (nodesT rest)), .i i]) (f := 86) (by simp [go_sem]) (by simp [go_sem, hB]) ((htg).spec _ _) ?_
    cases tb with
    | false =>
      rw [if_neg (by simp), List.append_nil] at f2
      refine K_run hB 100 ?_
      simp [go_sem, Node.a, Node.cs, hii]
      refine Next.mk (i + 1, q, out, _, ny + 1) ?_ (Imp.slots (by simp [go_sem]) rfl rfl) (by simp only; omega)
      exact ⟨by simp only; omega, ⟨f2, by simp only; omega⟩, by simp [oput, n1, f4], by simp [oput, n2, f5, Inst.cs], f6, by simp only; omega⟩
    | true =>
      rw [if_pos rfl] at f2
      have hsn : nodesT (out ++ [tn]) = nodesT out ++ [tn.t] := by simp [nodesT]
      refine K_run hB 100 ?_
      simp [go_sem, Node.a, Node.cs, hii, f4, n1, n4, hcap2]
      refine Next.mk (i + 1, ny + 1, out ++ [tn], _, ny + 2) ?_ (Imp.slots (by simp [go_sem]) rfl rfl) (by simp only; omega)
      refine ⟨by simp only; omega, ⟨f2, by simp only [List.length_append, List.length_cons, List.length_nil]; omega⟩, ?_, by simp [oput, n2, n3, f5, Inst.cs], by simp only; omega, by simp only; omega⟩
      rw [hsn]; simp [oput, Node.t]
  · have : i = x.stops.length := by omega
    subst this
    rw [List.drop_of_length_le (by simp), List.flatMap_nil, List.append_nil] at f2
    subst f2
    simp [go_sem, f4]
end Go.Proofs.YtdjbapglfdacmaaGreat

/- Nodes with paths of their own: wide.own; whether there are too many. -/
set_option maxRecDepth 4000
set_option maxHeartbeats 1000000
namespace Go.Proofs.YtdjbapglfdacmaaGreat
open Go Go.Proofs.YtdjbapglfdacmaaGreat.R
theorem cloneN_spec (l : List Node) (hl : l.length < 4294967296) (σ : Nat → AObj) (nx : Nat) : CallSpec P 71 [.t (.sl (nodesT l))] σ nx (.ref nx) (oput σ nx (.arr 10 (nodesT l))) (nx + 1) := by
  refine CallQ.spec (spec_of Tryz.func71 rfl rfl (by simp [Tryz.f71]) fun B hB hnx hσ => K_after ?_)
  simp only [Tryz.f71] at hB ⊢
  have hil : (nodesT l).length = l.length := List.length_map _
  have hne : nodesT l = [] ↔ l = [] := by simp [nodesT]
  have h1 := nodesT_len l
  have hmost : l.length ≤ mostLen := by show l.length ≤ 4294967296; omega
  refine K_run hB 100 ?_
  simp [go_sem]
  refine K_nilEq (es := nodesT l) rfl rfl (by simp [go_sem, hB]) tt72 rfl (by simp [go_sem]) fun b hb => ?_
  cases b with
  | true =>
    have e : l = [] := Decidable.byContradiction fun h => by have := hb (fun h' => h (hne.1 h')); cases this
    have e2 : nodesT l = [] := hne.2 e
    refine K_run hB 100 ?_
    simp [go_sem]
    refine ⟨_, fun a w hr => rel_own (t := 2) (sz := 10) (by simp [go_sem]) hr, ?_⟩
    simp [go_sem, e2]
  | false =>
    refine K_run hB 100 ?_
    simp [go_sem, hil, hne, hmost, if_pos h1]
    refine ⟨_, Imp.self, ?_⟩
    simp [go_sem]
theorem ownN_pure (l : List Node) (hl : l.length < 2 ^ 31) (hp : ∀ n ∈ l, n.path.length < 2 ^ 31) : Pure P 37 [.t (.sl (nodesT l))] (.t (.sl (nodesT l))) := by
  refine pure_of Tryz.func37 rfl rfl (by simp [Tryz.f37]) (by simp [bnd, bnd.bndL]) (by simp [bnd, bnd.bndL]) fun B hB hnx => ?_
  simp only [Tryz.f37] at hB ⊢
  have hil : (nodesT l).length = l.length := List.length_map _
  have hgt : ∀ (k : Nat) (h : k < l.length), (nodesT l)[k]'(by rw [hil]; exact h) = l[k].t := fun k h => nodesT_get l h
  refine K_run hB 100 ?_
  simp [go_sem]
  refine K_call rfl rfl rfl (args := [.t (.sl (nodesT l))]) (f := 71) (by simp [go_sem]) (by simp [go_sem, hB]) (cloneN_spec l (by omega) _ _) ?_
  refine K_run hB 100 ?_
  simp [go_sem, hil]
  refine K_loopP (α := Nat × (Nat → AObj) × Nat) (fun (k, τ, ny) => k ≤ l.length ∧ τ 0 = .arr 10 (nodesT l) ∧ 0 < ny) (fun (k, τ, ny) => ⟨sl [(0, .ref 0), (7, .ref 0), (8, .i l.length), (9, .i k)], τ, ny⟩) (fun a => l.length - a.1) (0, _, 1) ⟨Nat.zero_le _, by simp [oput], by omega⟩ (Imp.slots (by simp [go_sem]) rfl rfl) ?_
  rintro ⟨k, τ, ny⟩ ⟨g1, g2, g3⟩
  refine K_run hB 60 ?_
  simp [go_sem]
  refine fork_dec (fun hk => ?_) (fun hk => ?_)
  · have hkk : IntKind.i64.wrap ((k : Int) + 1) = ((k + 1 : Nat) : Int) := by rw [w64 ((k : Int) + 1) (by omega)]; rfl
    have hget : ∀ h : k < (nodesT l).length, (nodesT l)[k]'h = l[k].t := fun h => hgt k hk
    have hpk := hp l[k] (List.getElem_mem _)
    have hset : ∀ y, y = l[k].t → (nodesT l).set k y = nodesT l := fun y hy => by
      subst hy
      refine List.ext_getElem (by simp) fun i h1 h2 => ?_
      rw [List.getElem_set]
      split
      · rename_i e; subst e; exact (hget h2).symm
      · rfl
    generalize hm : l[k] = m at *
    have n0 : ¬ 0 = ny := by omega
    have q1 : (k * 10 + 9) / 10 = k := by omega
    have q2 : (k * 10 + 9) % 10 = 9 := by omega
    simp [go_sem, hil, hk, hget, Node.t, g2, n0]
    refine K_call rfl rfl rfl (args := [.t (.sl (ints m.path))]) (f := 72) (by simp [go_sem]) (by simp [go_sem, hB]) (clone_spec m.path (by omega) _ _) ?_
    refine K_imp ((Imp.freeze (q := ny + 1) (sz := 1) (es := ints m.path) (by simp [oput])).trans (Imp.slots (l := [(0, .ref 0), (7, .ref 0), (8, .i l.length), (9, .i k), (14, .ref 0), (15, .i k), (18, .t (.sl (ints m.path)))]) (by simp [go_sem, frz1]) rfl rfl)) ?_
    have hfz : frzO (ny + 1) (ints m.path) (.arr 10 (nodesT l)) = .arr 10 (nodesT l) := rfl
    refine K_run hB 100 ?_
    simp [go_sem, g2, n0, hil, hk, hget, Node.t, q1, q2, hfz, hkk, show ¬ ny = 0 by omega]
    refine Next.mk (k + 1, _, ny + 2) ⟨by simp only; omega, ?_, by simp only; omega⟩ (Imp.slots (by simp [go_sem]) rfl rfl) (by simp only; omega)
    simp only [oput, if_true]
    exact congrArg (AObj.arr 10) (hset _ rfl)
  · have : k = l.length := by omega
    subst this
    simp [go_sem, g2]
theorem over_spec (x : Inst) (w : Int) (l : List Node) {σ : Nat → AObj} {nx a b : Nat} (ha : a < nx) (hb : b < nx) (h1 : σ a = .box x.cs) (h2 : σ b = .box [.i w]) :
    CallSpec P 35 [.t (.sl (nodesT l)), .ptr a 0, .ptr b 0] σ nx (.b (decide (x.mostN w < l.length))) σ nx := by
  refine spec_keep Tryz.func35 rfl rfl (by simp [Tryz.f35]) (by simp [bnd]) fun hk B hB hnx hσB => ?_
  simp only [Tryz.f35] at hB ⊢
  have hm := most_pure x w
  have hil : (nodesT l).length = l.length := List.length_map _
  generalize x.mostN w = M at *
  refine K_run hB 100 ?_
  simp [go_sem, h1, h2, hil, Inst.cs]
  refine K_call rfl rfl rfl (args := [x.a, .i w]) (f := 36) (by simp [go_sem, Inst.a]) (by simp [go_sem, hB]) ((hm).spec _ _) ?_
  refine K_run hB 100 ?_
  simp [go_sem]
end Go.Proofs.YtdjbapglfdacmaaGreat

/- The least cost of all ways, looked at alone. -/
set_option maxRecDepth 4000
namespace Go.Proofs.YtdjbapglfdacmaaGreat
open Go Go.Proofs.YtdjbapglfdacmaaGreat.R
def Inst.everyB (x : Inst) (s : State) : Int := if (x.endS s).2 = true then (x.endS s).1 else inf
def Inst.everyF (x : Inst) (f : State → Int) (s : State) : List Int → Int → Int
  | [], v => v
  | j :: l, v => x.everyF f s l (if f (x.move s j).1 < inf ∧ (x.move s j).2.1 + f (x.move s j).1 < v then (x.move s j).2.1 + f (x.move s j).1 else v)
def Inst.every (x : Inst) : Nat → State → Int
  | 0, s => x.everyB s
  | d + 1, s => x.everyF (x.every d) s (x.moves s) (x.everyB s)
end Go.Proofs.YtdjbapglfdacmaaGreat

/- Diagrams of all ways: layers, plainly; no way costs less than a diagram tells. -/
set_option maxRecDepth 4000
namespace Go.Proofs.YtdjbapglfdacmaaGreat
open Go Go.Proofs.YtdjbapglfdacmaaGreat.R
structure Diag where
  layers : List (List Node)
  low : Int
  exact : Bool
  sure : Nat
  deriving DecidableEq
def Diag.of (ls : List (List Node)) (low : Int) (sq : Option Nat) : Diag := ⟨ls, low, sq.isNone, sq.getD ls.length⟩
def lowB (low : Int) (b : Node × Bool) : Int := if b.2 = true then min low b.1.cost else low
def Inst.buildGo (x : Inst) (w up dp : Int) : Nat → List (List Node) → Int → Option Nat → List Node → Diag
  | 0, ls, low, sq, _ => Diag.of ls low sq
  | f + 1, ls, low, sq, l => if l = [] then Diag.of ls low sq else
    if dp < ((ls.length + 1 : Nat) : Int) then Diag.of (ls ++ [l]) (lowB low (x.bests l)) sq else
    if x.mostN w < (x.next l up).length then x.buildGo w up dp f (ls ++ [l]) (lowB low (x.bests l)) (some (sq.getD (ls.length + 1))) (x.squeeze (x.next l up) w)
    else x.buildGo w up dp f (ls ++ [l]) (lowB low (x.bests l)) sq (x.next l up)
def Inst.build (x : Inst) (n : Node) (w up : Int) : Diag := x.buildGo w up (x.deep - n.path.length) ((x.deep - n.path.length).toNat + 2) [] up none [n]
/-- What is known of a layer's nodes, so many layers ahead of the last one. -/
structure WL (x : Inst) (l : List Node) (r : Nat) : Prop where
  is : ∀ n ∈ l, n.s.Is n.s.spot
  cost : ∀ n ∈ l, 0 ≤ n.cost ∧ n.cost + 14143 * ((r : Int) + 41) ≤ 1152921504606846976
theorem WL.lev {x : Inst} {l : List Node} {r : Nat} (h : WL x l r) : Lev x l 41 :=
  ⟨fun n hn => (h.is n hn).ok, fun n _ => by have := meas_le x n.s; omega, fun n hn => (h.is n hn).pos, fun n hn => (h.is n hn).seen, fun n hn => by have := h.cost n hn; omega⟩
theorem child_spot {x : Inst} {s : State} {j : Int} (h : (x.move s j).2.2 = true) : 0 ≤ (x.move s j).1.spot ∧ (x.move s j).1.spot < x.stops.length := by
  by_cases hj : j = 0
  · subst hj
    obtain ⟨h1, h2, h3, h4⟩ := move_home h
    obtain ⟨p, hx⟩ := x.fit h1
    have := hx.len
    rw [h4]
    show 0 ≤ (0 : Int) ∧ (0 : Int) < x.stops.length
    omega
  · obtain ⟨h1, h2, h3, h4, _, _, _, h5⟩ := move_pos h hj
    obtain ⟨p, hx⟩ := x.fit h1
    have := hx.len
    have := hx.pairs
    rw [h5]
    show 0 ≤ j ∧ j < x.stops.length
    omega
theorem State.Is.move {x : Inst} {s : State} {j i : Int} (h : s.Is i) (hj : (x.move s j).2.2 = true) : (x.move s j).1.Is (x.move s j).1.spot := ⟨rfl, move_ok x j h.ok, pos_move h.pos h.ok hj, seen_step hj⟩
theorem WL.next {x : Inst} {l : List Node} {r : Nat} (h : WL x l (r + 1)) (up : Int) : WL x (x.next l up) r ∧ ∀ m ∈ x.next l up, 0 ≤ m.s.spot ∧ m.s.spot < x.stops.length := by
  have key : ∀ m ∈ x.next l up, ∃ n ∈ l, ∃ j, (x.move n.s j).2.2 = true ∧ m = x.child n j := by
    intro m hm
    obtain ⟨n, hn, j, hj, e, _⟩ := next_mem hm
    exact ⟨n, hn, j, moves_mem hj, e⟩
  refine ⟨⟨?_, ?_⟩, ?_⟩ <;> (intro m hm; obtain ⟨n, hn, j, hj, rfl⟩ := key m hm)
  · exact (h.is n hn).move hj
  · rw [child_cost h.lev hn hj]
    have := h.cost n hn
    have := move_cost hj
    omega
  · exact child_spot hj
theorem WL.squeeze {x : Inst} {l : List Node} {r : Nat} (h : WL x l r) (w : Int) : WL x (x.squeeze l w) r := by
  have key : ∀ m ∈ x.squeeze l w, m.s.Is m.s.spot ∧ ∃ n ∈ l, m.cost = n.cost := by
    intro m hm
    rcases squeeze_mem hm with hm | ⟨i, g, h1, h2, h3, rfl⟩
    · exact ⟨h.is m hm, m, hm, rfl⟩
    · have hne2 : g.map Node.s ≠ [] := by simpa using h1
      obtain ⟨j1, j2, j3, j4⟩ := joinL_same hne2 (i := (i : Int)) fun t ht => by
        obtain ⟨q, hq, rfl⟩ := List.mem_map.1 ht
        exact (h3 q hq).2
      have j5 := j4 fun t ht => by
        obtain ⟨q, hq, rfl⟩ := List.mem_map.1 ht
        have := h.is q (h3 q hq).1
        rw [(h3 q hq).2] at this
        exact this
      obtain ⟨n, hn, e⟩ := (costL_is h1).2
      exact ⟨⟨rfl, j5.ok, j5.pos, j5.seen⟩, n, (h3 n hn).1, e⟩
  refine ⟨fun m hm => (key m hm).1, fun m hm => ?_⟩
  obtain ⟨_, n, hn, e⟩ := key m hm
  rw [e]
  exact h.cost n hn
/-- The layer that so many moves lead to, if none is squeezed. -/
def Inst.layN (x : Inst) (up : Int) (n : Node) : Nat → List Node
  | 0 => [n]
  | k + 1 => x.next (x.layN up n k) up
structure SureI (x : Inst) (up : Int) (n : Node) (ls : List (List Node)) (sq : Option Nat) : Prop where
  lay : ∀ i, i < sq.getD ls.length → ls[i]? = some (x.layN up n i)
  le : sq.getD ls.length ≤ ls.length
theorem SureI.push {x : Inst} {up : Int} {n : Node} {ls : List (List Node)} {sq : Option Nat} {l : List Node} (h : SureI x up n ls sq) (hl : sq = none → l = x.layN up n ls.length) : SureI x up n (ls ++ [l]) sq := by
  cases sq with
  | some k =>
    have h1 := h.lay
    have h2 := h.le
    simp only [Option.getD_some] at h1 h2
    refine ⟨fun i hi => ?_, ?_⟩
    · simp only [Option.getD_some] at hi
      rw [List.getElem?_append_left (by omega)]
      exact h1 i hi
    · simp only [Option.getD_some, List.length_append, List.length_cons]; omega
  | none =>
    have h1 := h.lay
    simp only [Option.getD_none] at h1
    refine ⟨fun i hi => ?_, by simp⟩
    simp only [Option.getD_none, List.length_append, List.length_cons, List.length_nil] at hi
    by_cases e : i < ls.length
    · rw [List.getElem?_append_left e]; exact h1 i e
    · have : i = ls.length := by omega
      subst this
      rw [List.getElem?_append_right (Nat.le_refl _), Nat.sub_self, hl rfl]
      rfl
theorem buildGo_count {x : Inst} (w up dp : Int) : ∀ (f : Nat) (ls : List (List Node)) (low : Int) (sq : Option Nat) (l : List Node), ((x.buildGo w up dp f ls low sq l).layers.length : Int) ≤ max ((ls.length : Int) + 1) (dp + 1)
  | 0, ls, low, sq, l => by show (ls.length : Int) ≤ _; omega
  | f + 1, ls, low, sq, l => by
    have hlen : (ls ++ [l]).length = ls.length + 1 := by simp
    rw [Inst.buildGo]
    split
    · show (ls.length : Int) ≤ _; omega
    split
    · show ((ls ++ [l]).length : Int) ≤ _; omega
    split
    · have := buildGo_count (x := x) w up dp f (ls ++ [l]) (lowB low (x.bests l)) (some (sq.getD (ls.length + 1))) (x.squeeze (x.next l up) w); omega
    · have := buildGo_count (x := x) w up dp f (ls ++ [l]) (lowB low (x.bests l)) sq (x.next l up); omega
end Go.Proofs.YtdjbapglfdacmaaGreat
