/- Parts of the proof: SqzW, Own, Every, Law15e, WideQ, Build, Sched, Sched2, Sched3, PlanC, ToursP. -/
import Derived.Test.YtdjbapglfdacmaaMG
set_option linter.unusedVariables false
/- Nodes squeezed: wide.Squeeze. -/
set_option maxRecDepth 4000
set_option maxHeartbeats 1000000
namespace Go.Proofs.Ytdjbapglfdacmaa
open Go Go.Proofs.Ytdjbapglfdacmaa.R
theorem mostN_eq (x : Inst) (w : Int) : max w x.stops.length = (x.mostN w : Int) := by unfold Inst.mostN; omega
theorem most_pure (x : Inst) (w : Int) : Pure P 25 [x.a, .i w] (.i (x.mostN w)) := by
  rw [← mostN_eq]
  refine pure_of Try.func25 rfl rfl (by simp [Try.f25]) (by simp [bnd, bnd.bndL, Inst.a]) (by simp [bnd, bnd.bndL]) fun B hB hnx => ?_
  simp only [Try.f25] at hB ⊢
  refine K_run hB 100 ?_
  simp [go_sem, Inst.a]
theorem squeeze_pure (x : Inst) (l : List Node) (w : Int) (hx : x.stops.length < 2 ^ 31) (hl : l.length < 2 ^ 31) (hn : ∀ n ∈ l, n.Fine) : Pure P 10 [x.a, .t (.sl (nodesT l)), .i w] (.t (.sl (nodesT (x.squeeze l w)))) := by
  generalize hR : x.squeeze l w = R
  refine pure_of Try.func10 rfl rfl (by simp [Try.f10]) (by simp [bnd, bnd.bndL, Inst.a]) (by simp [bnd, bnd.bndL]) fun B hB hnx => ?_
  simp only [Try.f10] at hB ⊢
  have hso := sorted_pure x l hx hl hn
  have hmo := most_pure x w
  have hfS : ∀ n ∈ x.sortN l, n.Fine := fun n h => hn n (Inst.sortN_mem.1 h)
  have hSl := x.sortN_len l
  rw [Inst.squeeze] at hR
  generalize x.sortN l = S at *
  have hM1 : x.stops.length ≤ x.mostN w := Nat.le_max_right _ _
  generalize x.mostN w = M at *
  have hNl : (nodesT S).length = S.length := List.length_map _
  refine K_run hB 100 ?_
  simp [go_sem, Inst.a]
  refine K_call rfl rfl rfl (args := [x.a, .t (.sl (nodesT l))]) (f := 24) (by simp [go_sem, Inst.a]) (by simp [go_sem, hB]) ((hso).spec _ _) ?_
  refine K_run hB 100 ?_
  simp [go_sem]
  refine K_call rfl rfl rfl (args := [x.a, .i w]) (f := 25) (by simp [go_sem, Inst.a]) (by simp [go_sem, hB]) ((hmo).spec _ _) ?_
  by_cases c1 : S.length ≤ M
  · rw [if_pos c1] at hR
    subst hR
    refine K_run hB 100 ?_
    simp [go_sem, hNl, c1]
  rw [if_neg c1] at hR
  have hM2 : M < 2 ^ 31 := by omega
  obtain ⟨kp, hkp⟩ : ∃ kp, kp = M - x.stops.length := ⟨_, rfl⟩
  have hkp2 : (M : Int) - x.stops.length = kp := by omega
  have hw1 : IntKind.i64.wrap ((M : Int) - x.stops.length) = kp := by rw [hkp2]; exact w64 _ (by omega)
  have hkl : kp < S.length := by omega
  have hS1 := nodesT_len S
  rw [← hkp] at hR
  have hXd : (nodesT S).drop kp = nodesT (S.drop kp) := by rw [nodesT, nodesT, List.map_drop]
  have hXt : (nodesT S).take kp = nodesT (S.take kp) := by rw [nodesT, nodesT, List.map_take]
  have hrl : (S.drop kp).length = S.length - kp := List.length_drop
  have hrf : ∀ n ∈ S.drop kp, n.Fine := fun n h => hfS n (List.mem_of_mem_drop h)
  have hfl : (S.take kp).length ≤ kp := by rw [List.length_take]; omega
  refine K_run hB 100 ?_
  simp [go_sem, hNl, c1, hw1, if_pos hS1, hkl, Nat.le_of_lt hkl, hXd, hXt]
  generalize S.drop kp = rest at *
  generalize S.take kp = front at *
  have hQl : (nodesT rest).length = rest.length := List.length_map _
  have hgt : ∀ (k : Nat) (h : k < rest.length), (nodesT rest)[k]'(by rw [hQl]; exact h) = rest[k].t := fun k h => nodesT_get rest h
  generalize hX : nodesT rest = X at *
  have hmost : mostLen = 4294967296 := rfl
  refine K_loopP (α := Nat × List (Int × Nat) × (Nat → AObj) × Nat) (fun (k, K, τ, ny) => k ≤ rest.length ∧ KI K (rest.take k) τ 2 ny ∧ τ 0 = .box x.cs ∧ τ 1 = .map (kmap K) ∧ 2 ≤ ny)
    (fun (k, K, τ, ny) => ⟨sl [(3, .ptr 0 0), (9, .fsl (nodesT front)), (10, .mapr 1), (39, .t (.sl X)), (40, .i rest.length), (41, .i k)], τ, ny⟩) (fun a => rest.length - a.1) (0, [], _, 2) ?_ (Imp.slots (by simp [go_sem, hQl]) rfl rfl) ?_
  · exact ⟨Nat.zero_le _, ⟨by simp, by simp, fun p h => (by cases h), fun i _ => by simp [grp]⟩, by simp [oput, Inst.cs], by simp [oput, kmap], by omega⟩
  rintro ⟨k, K, τ, ny⟩ ⟨g1, g2, g3, g4, g5⟩
  refine K_run hB 60 ?_
  simp [go_sem]
  refine fork_dec (fun hk => ?_) (fun hk => ?_)
  · have hkk : IntKind.i64.wrap ((k : Int) + 1) = ((k + 1 : Nat) : Int) := by rw [w64 ((k : Int) + 1) (by omega)]; rfl
    have hget : ∀ h : k < X.length, X[k]'h = rest[k].t := fun h => hgt k hk
    have htk : rest.take (k + 1) = rest.take k ++ [rest[k]] := List.take_succ_eq_append_getElem hk
    have hgl : (grp (rest.take k) rest[k].s.spot).length ≤ k := by
      refine Nat.le_trans (List.length_filter_le _ _) ?_
      rw [List.length_take]; omega
    have hadd := fun (τ' : Nat → AObj) (ny' q : Nat) => g2.add (n := rest[k]) (σ' := τ') (nx' := ny') (q := q)
    rw [← htk] at hadd
    generalize rest[k] = n at *
    have n0 : ¬ 0 = ny := by omega
    have n1 : ¬ 1 = ny := by omega
    simp [go_sem, hQl, hk, hget, Node.t, n0, n1]
    refine K_drawnF [11, 12] [0, 1, 2, 3] rfl (by rw [hB]; kernel_rfl) (by kernel_rfl) fun ht hf' => ?_
    refine K_run hB 100 ?_
    simp [go_sem, ht, hf']
    refine K_dLookup (kt := 3) (et := 25) (es := kmap K) (u := kv n.s.spot) (m := 1) (r := match kfind n.s.spot K with | some r => .ref r.2 | none => .fsl []) (by simp [go_sem]) rfl tt63 rfl tt25 (by kernel_rfl) (by simp [go_sem]) (by simp [go_sem, g4, n1, show ¬ ny = 0 by omega]) (by simp [go_sem]; rfl) (by simp [go_sem]; kernel_rfl) (by simp [go_sem]; exact k_tell _ _) ?_ (by simp [ht]) ?_
    · rw [lookA, findM_k]
      cases kfind n.s.spot K with
      | none => simp [go_sem]
      | some r => simp
    have hcap1 : 1 ≤ mostLen := by decide
    cases hf : kfind n.s.spot K with
    | none =>
      have hgr : grp (rest.take k) n.s.spot = [] := g2.none _ (kfind_none hf)
      refine K_run hB 100 ?_
      simp [go_sem, ht, hf', n0, n1, hcap1]
      refine K_dTold (fun ho => does_mapSet (P := P) (n := B.n) (kt := 3) (et := 25) (es := kmap K) (u := kv n.s.spot) (q := 1) ho (by simp [go_sem]) rfl tt63 rfl (by kernel_rfl) (by simp [go_sem]) (by simp [go_sem, g4, n1, show ¬ ny = 0 by omega]) (by simp [go_sem]; rfl) (by simp [go_sem]; kernel_rfl) (by simp [go_sem]; exact k_tell _ _) (.inr (by simp [Instr.sameBits]))) (by simp) (fun q hq => by rw [List.mem_singleton.1 hq]; exact .inl (by kernel_rfl)) ?_
      refine K_run hB 100 ?_
      simp [go_sem, ht, hf', hkk, setM_k]
      refine Next.mk (k + 1, kset n.s.spot (ny + 1) K, _, ny + 2) ?_ (Imp.slots (by simp [go_sem]) rfl rfl) (by simp only; omega)
      refine ⟨by simp only; omega, ?_, by simp [oput, g3, n0], by simp [oput], by simp only; omega⟩
      refine hadd _ (ny + 2) (ny + 1) ⟨by omega, by omega⟩ g5 (fun p hp hne => ?_) ?_
      · obtain ⟨_, s2, s3⟩ := g2.rows p hp
        simp [oput, show ¬ p.2 = ny by omega, show ¬ p.2 = 1 by omega, show ¬ p.2 = ny + 1 by omega]
      · rw [hgr]
        simp [oput, nodesT, Node.t, show ¬ ny = 0 by omega]
    | some r =>
      obtain ⟨j, q⟩ := r
      obtain ⟨hj1, hj2⟩ := kfind_some hf
      have hmem : (n.s.spot, q) ∈ K := hj2 ▸ List.getElem_mem hj1
      obtain ⟨r1, r2, r3⟩ := g2.rows (n.s.spot, q) hmem
      simp only at r1 r2 r3
      have n2 : ¬ q = ny := by omega
      have n3 : ¬ 1 = q := by omega
      have n4 : ¬ 0 = q := by omega
      have n5 : ¬ ny = q := by omega
      have hcap2 : (nodesT (grp (rest.take k) n.s.spot)).length + 1 ≤ mostLen := by rw [nodesT, List.length_map]; omega
      refine K_run hB 100 ?_
      simp [go_sem, ht, hf', n0, n1, n2, n5, r1, hcap2]
      refine K_dTold (fun ho => does_mapSet (P := P) (n := B.n) (kt := 3) (et := 25) (es := kmap K) (u := kv n.s.spot) (q := 1) ho (by simp [go_sem]) rfl tt63 rfl (by kernel_rfl) (by simp [go_sem]) (by simp [go_sem, g4, n1, n3, n4, show ¬ ny = 0 by omega]) (by simp [go_sem]; rfl) (by simp [go_sem]; kernel_rfl) (by simp [go_sem]; exact k_tell _ _) (.inr (by simp [Instr.sameBits]))) (by simp) (fun q hq => by rw [List.mem_singleton.1 hq]; exact .inl (by kernel_rfl)) ?_
      refine K_run hB 100 ?_
      simp [go_sem, ht, hf', hkk, setM_k]
      refine Next.mk (k + 1, kset n.s.spot (ny + 1) K, _, ny + 2) ?_ (Imp.slots (by simp [go_sem]) rfl rfl) (by simp only; omega)
      refine ⟨by simp only; omega, ?_, by simp [oput, g3, n0, n4], by simp [oput], by simp only; omega⟩
      refine hadd _ (ny + 2) (ny + 1) ⟨by omega, by omega⟩ g5 (fun p hp hne => ?_) ?_
      · obtain ⟨_, s2, s3⟩ := g2.rows p hp
        have := g2.ne hp hmem hne
        simp only at this
        simp [oput, show ¬ p.2 = ny by omega, show ¬ p.2 = 1 by omega, show ¬ p.2 = ny + 1 by omega, this]
      · simp [oput, nodesT, Node.t, show ¬ ny = 0 by omega]
  · have : k = rest.length := by omega
    subst this
    rw [List.take_length] at g2
    simp [go_sem, g3]
    have hok : ∀ (L : List Node), (∀ n ∈ L, n ∈ rest) → ∀ n ∈ L, n.s.ok := fun L h n hn => (hrf n (h n hn)).ok
    refine K_loopP (α := Nat × AV × List Node × (Nat → AObj) × Nat) (fun (i, A, out, τ', my) => i ≤ x.stops.length ∧ (A = .fsl (nodesT out) ∨ ∃ q, A = .ref q ∧ τ' q = .arr 10 (nodesT out) ∧ ny ≤ q ∧ q < my) ∧ (out ++ ((List.range x.stops.length).drop i).flatMap (oneAt rest) = R ∧ out.length ≤ kp + i) ∧ τ' 1 = .map (kmap K) ∧ ny ≤ my ∧ ∀ p ∈ K, τ' p.2 = τ p.2)
      (fun (i, A, out, τ', my) => ⟨sl [(9, A), (10, .mapr 1), (60, .i x.stops.length), (61, .i i)], τ', my⟩) (fun a => x.stops.length - a.1) (0, .fsl (nodesT front), front, τ, ny) ?_ (Imp.slots (by simp [go_sem]) rfl rfl) ?_
    · exact ⟨Nat.zero_le _, .inl rfl, ⟨hR, hfl⟩, g4, Nat.le_refl _, fun p _ => rfl⟩
    rintro ⟨i, A, out, τ', my⟩ ⟨f1, f2, ⟨f3, f3'⟩, f4, f5, f6⟩
    refine K_run hB 60 ?_
    simp [go_sem]
    refine fork_dec (fun hi => ?_) (fun hi => ?_)
    · have hii : IntKind.i64.wrap ((i : Int) + 1) = ((i + 1 : Nat) : Int) := by rw [w64 ((i : Int) + 1) (by omega)]; rfl
      rw [List.drop_eq_getElem_cons (by rw [List.length_range]; exact hi), List.getElem_range, List.flatMap_cons, ← List.append_assoc] at f3
      have hone : oneAt rest i = if (together (grp rest i)).2 = true then [(together (grp rest i)).1] else [] := rfl
      have htg := fun (τ2 : Nat → AObj) (m2 q : Nat) (h1 : q < m2) (h2 : τ2 q = .arr 10 (nodesT (grp rest i))) => together_spec (grp rest i) (Nat.lt_of_le_of_lt (List.length_filter_le _ _) (by omega)) (hok _ fun n hn => (List.mem_filter.1 hn).1) (σ := τ2) (nx := m2) (r := q) h1 h2
      simp [go_sem]
      refine K_lookup (kt := 3) (et := 25) (es := kmap K) (u := kv i) (m := 1) (r := match kfind i K with | some r => .ref r.2 | none => .fsl []) rfl rfl (by simp [go_sem, hB]) tt63 rfl tt25 (by kernel_rfl) (by simp [go_sem]) (by simp [go_sem, f4]) (by simp [go_sem]; rfl) (by simp [go_sem]; kernel_rfl) (by simp [go_sem]; exact k_tell _ _) ?_ ?_
      · rw [lookA, findM_k]
        cases kfind i K with
        | none => simp [go_sem]
        | some r => simp
      refine K_impE (α := Nat × (Nat → AObj) × Nat) (fun (q, τ2, m2) => my ≤ m2 ∧ q < m2 ∧ τ2 q = .arr 10 (nodesT (grp rest i)) ∧ ∀ j, j < my → τ2 j = τ' j) (fun (q, τ2, m2) => ⟨sl [(9, A), (10, .mapr 1), (60, .i x.stops.length), (61, .i i), (67, .ref q)], τ2, m2⟩) ?_ ?_
      · cases hf : kfind i K with
        | none =>
          have hgr : grp rest i = [] := g2.none _ (kfind_none hf)
          refine ⟨(my, _, my + 1), ⟨by omega, by omega, ?_, ?_⟩, (Imp.own (t := 67) (sz := 10) (by simp [go_sem])).trans (Imp.slots (by simp [go_sem]) rfl rfl)⟩
          · rw [hgr]; simp [oput, nodesT]
          · intro j hj; simp [oput, show ¬ j = my by omega]
        | some r =>
          obtain ⟨j, q⟩ := r
          obtain ⟨hj1, hj2⟩ := kfind_some hf
          have hmem : ((i : Int), q) ∈ K := hj2 ▸ List.getElem_mem hj1
          obtain ⟨r1, r2, r3⟩ := g2.rows _ hmem
          refine ⟨(q, _, my), ⟨Nat.le_refl _, by simp only at r3 ⊢; omega, ?_, fun _ _ => rfl⟩, Imp.slots (by simp [go_sem]) rfl rfl⟩
          exact (f6 _ hmem).trans r1
      rintro ⟨q, τ2, m2⟩ ⟨e1, e2, e3, e4⟩
      refine K_call rfl rfl rfl (args := [.ref q]) (f := 26) (by simp [go_sem]) (by simp [go_sem, hB]) (htg _ _ _ e2 e3) ?_
      generalize together (grp rest i) = TG at *
      obtain ⟨tn, tb⟩ := TG
      have hcap1 : 1 ≤ mostLen := by decide
      have hcap2 : (nodesT out).length + 1 ≤ mostLen := by rw [nodesT, List.length_map]; omega
      have m1 : ¬ 1 = m2 := by omega
      have m0 : ¬ 1 = m2 + 1 := by omega
      have hlow : ∀ j, ny ≤ j → j ≠ 1 := fun j h => by omega
      cases tb with
      | false =>
        rw [hone, if_neg (by simp), List.append_nil] at f3
        refine K_run hB 100 ?_
        simp [go_sem, Node.a, Node.cs, hii]
        refine Next.mk (i + 1, A, out, _, m2 + 1) ?_ (Imp.slots (by simp [go_sem]) rfl rfl) (by simp only; omega)
        refine ⟨by simp only; omega, ?_, ⟨f3, by simp only; omega⟩, by simp [oput, m1, e4 1 (by omega), f4], by simp only; omega, ?_⟩
        · rcases f2 with f2 | ⟨q', f2, f7, f8, f9⟩
          · exact .inl f2
          · exact .inr ⟨q', f2, by simp [oput, show ¬ q' = m2 by omega, e4 q' f9, f7], f8, by simp only; omega⟩
        · intro a b hab
          have h1 := (g2.rows _ hab).2.2
          have h2 := f6 _ hab
          simp only at h1 h2
          simp [oput, show ¬ b = m2 by omega, e4 b (by omega), h2]
      | true =>
        rw [hone, if_pos (by simp)] at f3
        simp only at f3
        have hsn : nodesT (out ++ [tn]) = nodesT out ++ [tn.t] := by simp [nodesT]
        rcases f2 with f2 | ⟨q', f2, f7, f8, f9⟩
        · subst f2
          refine K_run hB 100 ?_
          simp [go_sem, Node.a, Node.cs, hcap1, hcap2, hii, if_pos (nodesT_len out)]
          refine Next.mk (i + 1, .ref (m2 + 1), out ++ [tn], _, m2 + 2) ?_ (Imp.slots (by simp [go_sem]) rfl rfl) (by simp only; omega)
          refine ⟨by simp only; omega, .inr ⟨m2 + 1, rfl, ?_, by omega, by simp only; omega⟩, ⟨f3, by simp only [List.length_append, List.length_cons, List.length_nil]; omega⟩, by simp [oput, m1, m0, e4 1 (by omega), f4, show ¬ m2 = 0 by omega], by simp only; omega, ?_⟩
          · rw [hsn]; simp [oput, Node.t]
          · intro a b hab
            have h1 := (g2.rows _ hab).2.2
            have h2 := f6 _ hab
            simp only at h1 h2
            simp [oput, show ¬ b = m2 by omega, show ¬ b = m2 + 1 by omega, e4 b (by omega), h2]
        · subst f2
          have hq1 : ¬ q' = m2 := by omega
          have hq2 : ¬ m2 = q' := by omega
          have hq3 : ¬ 1 = q' := by omega
          refine K_run hB 100 ?_
          simp [go_sem, Node.a, Node.cs, hcap1, hcap2, hii, hq1, e4 q' f9, f7]
          refine Next.mk (i + 1, .ref (m2 + 1), out ++ [tn], _, m2 + 2) ?_ (Imp.slots (by simp [go_sem]) rfl rfl) (by simp only; omega)
          refine ⟨by simp only; omega, .inr ⟨m2 + 1, rfl, ?_, by omega, by simp only; omega⟩, ⟨f3, by simp only [List.length_append, List.length_cons, List.length_nil]; omega⟩, by simp [oput, m1, m0, hq3, e4 1 (by omega), f4, show ¬ m2 = 0 by omega], by simp only; omega, ?_⟩
          · rw [hsn]; simp [oput, Node.t]
          · intro a b hab
            have h1 := (g2.rows _ hab).2.2
            have h2 := f6 _ hab
            simp only at h1 h2
            simp [oput, show ¬ b = m2 by omega, show ¬ b = m2 + 1 by omega, show ¬ b = q' by omega, e4 b (by omega), h2]
    · have : i = x.stops.length := by omega
      subst this
      rw [List.drop_of_length_le (by simp), List.flatMap_nil, List.append_nil] at f3
      subst f3
      rcases f2 with f2 | ⟨q', f2, f7, f8, f9⟩
      · subst f2
        simp [go_sem]
      · subst f2
        simp [go_sem, f7]
end Go.Proofs.Ytdjbapglfdacmaa

/- Nodes with paths of their own: wide.own; whether there are too many. -/
set_option maxRecDepth 4000
set_option maxHeartbeats 1000000
namespace Go.Proofs.Ytdjbapglfdacmaa
open Go Go.Proofs.Ytdjbapglfdacmaa.R
theorem cloneN_spec (l : List Node) (hl : l.length < 4294967296) (σ : Nat → AObj) (nx : Nat) : CallSpec P 52 [.t (.sl (nodesT l))] σ nx (.ref nx) (oput σ nx (.arr 10 (nodesT l))) (nx + 1) := by
  refine CallQ.spec (spec_of Try.func52 rfl rfl (by simp [Try.f52]) fun B hB hnx hσ => K_after ?_)
  simp only [Try.f52] at hB ⊢
  have hil : (nodesT l).length = l.length := List.length_map _
  have hne : nodesT l = [] ↔ l = [] := by simp [nodesT]
  have h1 := nodesT_len l
  have hmost : l.length ≤ mostLen := by show l.length ≤ 4294967296; omega
  refine K_run hB 100 ?_
  simp [go_sem]
  refine K_nilEq (es := nodesT l) rfl rfl (by simp [go_sem, hB]) tt25 rfl (by simp [go_sem]) fun b hb => ?_
  cases b with
  | true =>
    have e : l = [] := Decidable.byContradiction fun h => by have := hb (fun h' => h (hne.1 h')); cases this
    have e2 : nodesT l = [] := hne.2 e
    refine K_run hB 100 ?_
    simp [go_sem]
    refine ⟨_, fun a w hr => rel_own (t := 2) (sz := 10) (by simp [go_sem]) hr, ?_⟩
    simp [go_sem, e2]
  | false =>
    refine K_run hB 100 ?_
    simp [go_sem, hil, hne, hmost, if_pos h1]
    refine ⟨_, Imp.self, ?_⟩
    simp [go_sem]
theorem ownN_pure (l : List Node) (hl : l.length < 2 ^ 31) (hp : ∀ n ∈ l, n.path.length < 2 ^ 31) : Pure P 33 [.t (.sl (nodesT l))] (.t (.sl (nodesT l))) := by
  refine pure_of Try.func33 rfl rfl (by simp [Try.f33]) (by simp [bnd, bnd.bndL]) (by simp [bnd, bnd.bndL]) fun B hB hnx => ?_
  simp only [Try.f33] at hB ⊢
  have hil : (nodesT l).length = l.length := List.length_map _
  have hgt : ∀ (k : Nat) (h : k < l.length), (nodesT l)[k]'(by rw [hil]; exact h) = l[k].t := fun k h => nodesT_get l h
  refine K_run hB 100 ?_
  simp [go_sem]
  refine K_call rfl rfl rfl (args := [.t (.sl (nodesT l))]) (f := 52) (by simp [go_sem]) (by simp [go_sem, hB]) (cloneN_spec l (by omega) _ _) ?_
  refine K_run hB 100 ?_
  simp [go_sem, hil]
  refine K_loopP (α := Nat × (Nat → AObj) × Nat) (fun (k, τ, ny) => k ≤ l.length ∧ τ 0 = .arr 10 (nodesT l) ∧ 0 < ny) (fun (k, τ, ny) => ⟨sl [(0, .ref 0), (7, .ref 0), (8, .i l.length), (9, .i k)], τ, ny⟩) (fun a => l.length - a.1) (0, _, 1) ⟨Nat.zero_le _, by simp [oput], by omega⟩ (Imp.slots (by simp [go_sem]) rfl rfl) ?_
  rintro ⟨k, τ, ny⟩ ⟨g1, g2, g3⟩
  refine K_run hB 60 ?_
  simp [go_sem]
  refine fork_dec (fun hk => ?_) (fun hk => ?_)
  · have hkk : IntKind.i64.wrap ((k : Int) + 1) = ((k + 1 : Nat) : Int) := by rw [w64 ((k : Int) + 1) (by omega)]; rfl
    have hget : ∀ h : k < (nodesT l).length, (nodesT l)[k]'h = l[k].t := fun h => hgt k hk
    have hpk := hp l[k] (List.getElem_mem _)
    have hset : ∀ y, y = l[k].t → (nodesT l).set k y = nodesT l := fun y hy => by
      subst hy
      refine List.ext_getElem (by simp) fun i h1 h2 => ?_
      rw [List.getElem_set]
      split
      · rename_i e; subst e; exact (hget h2).symm
      · rfl
    generalize hm : l[k] = m at *
    have n0 : ¬ 0 = ny := by omega
    have q1 : (k * 10 + 9) / 10 = k := by omega
    have q2 : (k * 10 + 9) % 10 = 9 := by omega
    simp [go_sem, hil, hk, hget, Node.t, g2, n0]
    refine K_call rfl rfl rfl (args := [.t (.sl (ints m.path))]) (f := 53) (by simp [go_sem]) (by simp [go_sem, hB]) (clone_spec m.path (by omega) _ _) ?_
    refine K_imp ((Imp.freeze (q := ny + 1) (sz := 1) (es := ints m.path) (by simp [oput])).trans (Imp.slots (l := [(0, .ref 0), (7, .ref 0), (8, .i l.length), (9, .i k), (14, .ref 0), (15, .i k), (18, .t (.sl (ints m.path)))]) (by simp [go_sem, frz1]) rfl rfl)) ?_
    have hfz : frzO (ny + 1) (ints m.path) (.arr 10 (nodesT l)) = .arr 10 (nodesT l) := rfl
    refine K_run hB 100 ?_
    simp [go_sem, g2, n0, hil, hk, hget, Node.t, q1, q2, hfz, hkk, show ¬ ny = 0 by omega]
    refine Next.mk (k + 1, _, ny + 2) ⟨by simp only; omega, ?_, by simp only; omega⟩ (Imp.slots (by simp [go_sem]) rfl rfl) (by simp only; omega)
    simp only [oput, if_true]
    exact congrArg (AObj.arr 10) (hset _ rfl)
  · have : k = l.length := by omega
    subst this
    simp [go_sem, g2]
theorem over_spec (x : Inst) (w : Int) (l : List Node) {σ : Nat → AObj} {nx a b : Nat} (ha : a < nx) (hb : b < nx) (h1 : σ a = .box x.cs) (h2 : σ b = .box [.i w]) :
    CallSpec P 32 [.t (.sl (nodesT l)), .ptr a 0, .ptr b 0] σ nx (.b (decide (x.mostN w < l.length))) σ nx := by
  refine spec_keep Try.func32 rfl rfl (by simp [Try.f32]) (by simp [bnd]) fun hk B hB hnx hσB => ?_
  simp only [Try.f32] at hB ⊢
  have hm := most_pure x w
  have hil : (nodesT l).length = l.length := List.length_map _
  generalize x.mostN w = M at *
  refine K_run hB 100 ?_
  simp [go_sem, h1, h2, hil, Inst.cs]
  refine K_call rfl rfl rfl (args := [x.a, .i w]) (f := 25) (by simp [go_sem, Inst.a]) (by simp [go_sem, hB]) ((hm).spec _ _) ?_
  refine K_run hB 100 ?_
  simp [go_sem]
end Go.Proofs.Ytdjbapglfdacmaa

/- The least cost of all ways, looked at alone. -/
set_option maxRecDepth 4000
namespace Go.Proofs.Ytdjbapglfdacmaa
open Go Go.Proofs.Ytdjbapglfdacmaa.R
def Inst.everyB (x : Inst) (s : State) : Int := if (x.endS s).2 = true then (x.endS s).1 else inf
def Inst.everyF (x : Inst) (f : State → Int) (s : State) : List Int → Int → Int
  | [], v => v
  | j :: l, v => x.everyF f s l (if f (x.move s j).1 < inf ∧ (x.move s j).2.1 + f (x.move s j).1 < v then (x.move s j).2.1 + f (x.move s j).1 else v)
def Inst.every (x : Inst) : Nat → State → Int
  | 0, s => x.everyB s
  | d + 1, s => x.everyF (x.every d) s (x.moves s) (x.everyB s)
theorem everyB_in (x : Inst) (s : State) : 0 ≤ x.everyB s ∧ x.everyB s ≤ inf := by
  have hinf : inf = 1152921504606846976 := rfl
  unfold Inst.everyB
  split
  · rename_i h
    have := end_cost h
    omega
  · omega
theorem everyF_in (x : Inst) {f : State → Int} (hf : ∀ t, 0 ≤ f t ∧ f t ≤ inf) (s : State) : ∀ (l : List Int) (v : Int), (∀ j ∈ l, (x.move s j).2.2 = true) → 0 ≤ v ∧ v ≤ inf → 0 ≤ x.everyF f s l v ∧ x.everyF f s l v ≤ inf
  | [], v, _, h => h
  | j :: l, v, hl, h => by
    rw [Inst.everyF]
    refine everyF_in x hf s l _ (fun i hi => hl i (List.mem_cons_of_mem _ hi)) ?_
    have h1 := move_cost (hl j List.mem_cons_self)
    have h2 := hf (x.move s j).1
    split <;> omega
theorem every_in (x : Inst) : ∀ (d : Nat) (s : State), 0 ≤ x.every d s ∧ x.every d s ≤ inf
  | 0, s => everyB_in x s
  | d + 1, s => everyF_in x (every_in x d) s _ _ (fun j hj => moves_mem hj) (everyB_in x s)
theorem every_pure (x : Inst) (hl : x.stops.length < 2 ^ 31) : ∀ (d : Nat) (s : State), d < 2 ^ 62 → s.ok → Pure P 40 [x.a, s.a, .i d] (.i (x.every d s)) := by
  intro d
  induction d with
  | zero =>
    intro s _ ho
    have he := end_pure x s (by omega) ho
    show Pure P 40 [x.a, s.a, .i (0 : Nat)] (.i (x.everyB s))
    generalize hR : x.everyB s = R
    refine pure_of Try.func40 rfl rfl (by simp [Try.f40]) (by simp [bnd, bnd.bndL, Inst.a, State.a, State.cs]) (by simp [bnd, bnd.bndL]) fun B hB hnx => ?_
    simp only [Try.f40] at hB ⊢
    rw [Inst.everyB] at hR
    generalize x.endS s = E at *
    obtain ⟨c, is⟩ := E
    refine K_run hB 100 ?_
    simp [go_sem, Inst.a, State.a, State.cs]
    refine K_call rfl rfl rfl (args := [x.a, s.a]) (f := 54) (by simp [go_sem, Inst.a, State.a, State.cs]) (by simp [go_sem, hB]) ((he).spec _ _) ?_
    cases is with
    | false =>
      simp only [Bool.false_eq_true, if_false] at hR
      subst hR
      refine K_run hB 100 ?_
      simp [go_sem, inf]
    | true =>
      simp only [if_true] at hR
      subst hR
      refine K_run hB 100 ?_
      simp [go_sem]
  | succ d ih =>
    intro s hd ho
    have hinf : inf = 1152921504606846976 := rfl
    have he := end_pure x s (by omega) ho
    have hms := moves_pure x s (by omega) ho
    have hmv := fun j => move_pure x s j (by omega) ho
    have hmem : ∀ j ∈ x.moves s, (x.move s j).2.2 = true := fun j hj => moves_mem hj
    have hml := moves_len x s
    have hok := fun j => move_ok x j ho
    have hil : (ints (x.moves s)).length = (x.moves s).length := List.length_map _
    have hgt : ∀ (k : Nat) (h : k < (x.moves s).length), (ints (x.moves s))[k]'(by rw [hil]; exact h) = [.i ((x.moves s)[k])] := fun k h => ints_getS _ h
    have hb := everyB_in x s
    show Pure P 40 [x.a, s.a, .i (d + 1 : Nat)] (.i (x.everyF (x.every d) s (x.moves s) (x.everyB s)))
    generalize hR : x.everyF (x.every d) s (x.moves s) (x.everyB s) = R
    refine pure_of Try.func40 rfl rfl (by simp [Try.f40]) (by simp [bnd, bnd.bndL, Inst.a, State.a, State.cs]) (by simp [bnd, bnd.bndL]) fun B hB hnx => ?_
    simp only [Try.f40] at hB ⊢
    have hBe : (if (x.endS s).2 = true then (x.endS s).1 else inf) = x.everyB s := rfl
    generalize x.everyB s = v0 at *
    generalize x.endS s = E at *
    generalize hX : ints (x.moves s) = X at *
    generalize hL : x.moves s = L at *
    obtain ⟨c, is⟩ := E
    have hd1 : ¬ ((d : Int) + 1 ≤ 0) := by omega
    have w0 := w64 (d : Int) (by omega)
    have hd2 : (d : Int) + 1 - 1 = d := by omega
    refine K_run hB 100 ?_
    simp [go_sem, Inst.a, State.a, State.cs]
    refine K_call rfl rfl rfl (args := [x.a, s.a]) (f := 54) (by simp [go_sem, Inst.a, State.a, State.cs]) (by simp [go_sem, hB]) ((he).spec _ _) ?_
    cases is
    all_goals
      simp only [Bool.false_eq_true, if_false, if_true] at hBe
      refine K_run hB 100 ?_
      simp [go_sem, hd1]
      refine K_call rfl rfl rfl (args := [x.a, s.a]) (f := 63) (by simp [go_sem, Inst.a, State.a, State.cs]) (by simp [go_sem, hB]) ((hms).spec _ _) ?_
      refine K_run hB 100 ?_
      simp [go_sem]
      refine K_loopP (α := Nat × Int × (Nat → AObj) × Nat) (fun (k, v, σ, nx) => k ≤ L.length ∧ (0 ≤ v ∧ v ≤ inf) ∧ x.everyF (x.every d) s (L.drop k) v = R ∧ σ 0 = .box [.t (.i x.pairs), .t (.i x.cars), .t (.i x.room), .t (.sl (x.stops.map Stop.t))] ∧ σ 1 = .box s.cs ∧ 1 < nx)
        (fun (k, v, σ, nx) => ⟨sl [(2, .i ((d : Int) + 1)), (3, .ptr 0 0), (4, .ptr 1 0), (7, .i v), (10, .t (.sl X)), (11, .i k)], σ, nx⟩) (fun a => L.length - a.1) (0, v0, _, 2) ⟨Nat.zero_le _, hb, hR, by simp [oput], by simp [oput, State.cs], by omega⟩ (Imp.slots (by simp [go_sem, ← hBe, inf]) rfl rfl) ?_
      rintro ⟨k, v, σ, nx⟩ ⟨g1, g0, g5, g2, g3, g4⟩
      refine K_run hB 60 ?_
      simp [go_sem, hil]
      refine fork_dec (fun hk => ?_) (fun hk => ?_)
      · have hkk : IntKind.i64.wrap ((k : Int) + 1) = ((k + 1 : Nat) : Int) := by rw [w64 ((k : Int) + 1) (by omega)]; rfl
        have hget : ∀ h : k < X.length, X[k]'h = [.i L[k]] := fun h => hgt k hk
        rw [List.drop_eq_getElem_cons hk, Inst.everyF] at g5
        have hj := hmem L[k] (List.getElem_mem _)
        have h1 := move_cost hj
        have h2 := every_in x d (x.move s L[k]).1
        have h3 := ih (x.move s L[k]).1 (by omega) (hok _)
        have h4 := hmv L[k]
        generalize L[k] = j at *
        generalize x.move s j = V at *
        obtain ⟨t, c', is'⟩ := V
        simp only at h1 h2 h3 hj g5
        subst hj
        generalize x.every d t = m at *
        have w1 := w64 (c' + m) (by omega)
        simp [go_sem]
        refine K_drawnF [11, 12] [0, 1, 2, 3, 4, 5, 6, 7, 8, 9, 10] rfl (by rw [hB]; kernel_rfl) (by kernel_rfl) fun ht hf' => ?_
        refine K_run hB 100 ?_
        simp [go_sem, ht, hf', hil, hk, hget, g2, g3, State.cs]
        refine K_dCallP rfl rfl rfl (args := [x.a, s.a, .i j]) (f := 35) (by simp [go_sem, Inst.a, State.a, State.cs]) (h4) ?_
        refine K_run hB 100 ?_
        simp [go_sem, ht, hf', mv, State.a, State.cs, g2, g3, show ¬ 0 = nx by omega, show ¬ 1 = nx by omega, hd2, w0]
        refine K_call rfl rfl rfl (args := [x.a, t.a, .i d]) (f := 40) (by simp [go_sem, Inst.a, State.a, State.cs]) (by simp [go_sem, hB]) ((h3).spec _ _) ?_
        by_cases e1 : m < inf
        · by_cases e2 : c' + m < v
          · rw [if_pos ⟨e1, e2⟩] at g5
            rw [hinf] at e1
            refine K_run hB 100 ?_
            simp [go_sem, w1, e1, e2, hkk]
            refine Next.mk (k + 1, c' + m, _, nx + 1) ?_ (Imp.slots (by simp [go_sem]) rfl rfl) (by simp only; omega)
            refine ⟨by simp only; omega, by simp only; omega, g5, ?_, ?_, by simp only; omega⟩
            · simp [oput, show ¬ 0 = nx by omega, g2]
            · simp [oput, show ¬ 1 = nx by omega, g3, State.cs]
          · rw [if_neg (fun h => e2 h.2)] at g5
            rw [hinf] at e1
            refine K_run hB 100 ?_
            simp [go_sem, w1, e1, e2, hkk]
            refine Next.mk (k + 1, v, _, nx + 1) ?_ (Imp.slots (by simp [go_sem]) rfl rfl) (by simp only; omega)
            refine ⟨by simp only; omega, g0, g5, ?_, ?_, by simp only; omega⟩
            · simp [oput, show ¬ 0 = nx by omega, g2]
            · simp [oput, show ¬ 1 = nx by omega, g3, State.cs]
        · rw [if_neg (fun h => e1 h.1)] at g5
          rw [hinf] at e1
          refine K_run hB 100 ?_
          simp [go_sem, w1, e1, hkk]
          refine Next.mk (k + 1, v, _, nx + 1) ?_ (Imp.slots (by simp [go_sem]) rfl rfl) (by simp only; omega)
          refine ⟨by simp only; omega, g0, g5, ?_, ?_, by simp only; omega⟩
          · simp [oput, show ¬ 0 = nx by omega, g2]
          · simp [oput, show ¬ 1 = nx by omega, g3, State.cs]
      · have : k = L.length := by omega
        subst this
        rw [List.drop_length, Inst.everyF] at g5
        simp [go_sem, g5]
/-- How many moves a plan may have. -/
def Inst.deepN (x : Inst) : Nat := (2 * x.pairs + x.cars - 1).toNat
def Inst.everyAll (x : Inst) : Int := x.every x.deepN x.rootS
theorem everyAll_pure (x : Inst) (hm : x.may = true) : Pure P 19 [x.a] (.i x.everyAll) := by
  obtain ⟨p, hx⟩ := x.fit hm
  have hlen := hx.len
  have hfew := hx.few
  have hp := hx.pairs
  have hcar := hx.cars
  have hev := every_pure x (by omega) x.deepN x.rootS (by unfold Inst.deepN; omega) (rootS_ok x)
  have hr := root_pureS x (by omega)
  have hde : (x.deepN : Int) = 2 * x.pairs + x.cars - 1 := by unfold Inst.deepN; omega
  rw [hde] at hev
  have w1 := w64 (2 * x.pairs) (by omega)
  have w2 := w64 (2 * x.pairs + x.cars) (by omega)
  have w3 := w64 (2 * x.pairs + x.cars - 1) (by omega)
  unfold Inst.everyAll
  generalize x.every x.deepN x.rootS = R at *
  generalize x.rootS = r at *
  refine pure_of Try.func19 rfl rfl (by simp [Try.f19]) (by simp [bnd, bnd.bndL, Inst.a]) (by simp [bnd, bnd.bndL]) fun B hB hnx => ?_
  simp only [Try.f19] at hB ⊢
  refine K_run hB 100 ?_
  simp [go_sem, Inst.a]
  refine K_drawn [] rfl (by rw [hB]; kernel_rfl) ?_
  refine K_run hB 100 ?_
  simp [go_sem]
  refine K_dCallP rfl rfl rfl (args := [x.a]) (f := 22) (by simp [go_sem, Inst.a]) (hr) ?_
  refine K_run hB 100 ?_
  simp [go_sem, w1, w2, w3]
  refine K_dCallP rfl rfl rfl (args := [x.a, r.a, .i (2 * x.pairs + x.cars - 1)]) (f := 40) (by simp [go_sem, Inst.a, State.a, State.cs]) (hev) ?_
  refine K_run hB 100 ?_
  simp [go_sem]
end Go.Proofs.Ytdjbapglfdacmaa

/- What is found by looking at all levels, and at each way alone: the law. -/
set_option maxRecDepth 4000
namespace Go.Proofs.Ytdjbapglfdacmaa
open Go Go.Proofs.Ytdjbapglfdacmaa.R
theorem everyF_le (x : Inst) (f : State → Int) (s : State) : ∀ (l : List Int) (v : Int), x.everyF f s l v ≤ v
  | [], v => Int.le_refl _
  | j :: l, v => by
    rw [Inst.everyF]
    refine Int.le_trans (everyF_le x f s l _) ?_
    split <;> omega
theorem everyF_has (x : Inst) (f : State → Int) (s : State) {j : Int} (hf : f (x.move s j).1 < inf) : ∀ (l : List Int) (v : Int), j ∈ l → x.everyF f s l v ≤ (x.move s j).2.1 + f (x.move s j).1
  | i :: l, v, h => by
    rw [Inst.everyF]
    rcases List.mem_cons.1 h with rfl | h
    · refine Int.le_trans (everyF_le x f s l _) ?_
      split <;> omega
    · exact everyF_has x f s hf l _ h
theorem everyF_from (x : Inst) (f : State → Int) (s : State) : ∀ (l : List Int) (v : Int), x.everyF f s l v = v ∨ ∃ j ∈ l, f (x.move s j).1 < inf ∧ x.everyF f s l v = (x.move s j).2.1 + f (x.move s j).1
  | [], v => .inl rfl
  | i :: l, v => by
    rw [Inst.everyF]
    rcases everyF_from x f s l (if f (x.move s i).1 < inf ∧ (x.move s i).2.1 + f (x.move s i).1 < v then (x.move s i).2.1 + f (x.move s i).1 else v) with h | ⟨j, hj, h1, h2⟩
    · rw [h]
      split
      · rename_i hc
        exact .inr ⟨i, List.mem_cons_self, hc.1, rfl⟩
      · exact .inl rfl
    · exact .inr ⟨j, List.mem_cons_of_mem _ hj, h1, h2⟩
theorem every_from (x : Inst) : ∀ (d : Nat) (s : State), x.every d s < inf → ∃ w, x.way w s (x.every d s)
  | 0, s, h => by
    rw [Inst.every, Inst.everyB] at h ⊢
    split at h
    · rename_i hc
      rw [if_pos hc]
      exact ⟨[], hc, rfl⟩
    · omega
  | d + 1, s, h => by
    rw [Inst.every] at h ⊢
    rcases everyF_from x (x.every d) s (x.moves s) (x.everyB s) with e | ⟨j, hj, h1, h2⟩
    · rw [e] at h ⊢
      rw [Inst.everyB] at h ⊢
      split at h
      · rename_i hc
        rw [if_pos hc]
        exact ⟨[], hc, rfl⟩
      · omega
    · rw [h2]
      obtain ⟨w, hw⟩ := every_from x d _ h1
      exact ⟨j :: w, moves_mem hj, _, hw, rfl⟩
theorem every_has (x : Inst) : ∀ (d : Nat) {w : List Int} {s : State} {c : Int}, x.way w s c → w.length ≤ d → d ≤ 1000 → x.every d s ≤ c
  | 0, [], s, c, h, _, _ => by
    rw [Inst.every, Inst.everyB, if_pos h.1, h.2]
    exact Int.le_refl _
  | d + 1, [], s, c, h, _, _ => by
    rw [Inst.every]
    have := everyF_le x (x.every d) s (x.moves s) (x.everyB s)
    rw [Inst.everyB, if_pos h.1] at this
    rw [Inst.everyB, if_pos h.1, h.2]
    exact this
  | d + 1, j :: w, s, c, h, hl, hd => by
    obtain ⟨h1, e, h2, h3⟩ := h
    rw [Inst.every]
    rw [List.length_cons] at hl
    have ih := every_has x d h2 (by omega) (by omega)
    have hi := way_in h2
    have hinf : inf = 1152921504606846976 := rfl
    have := everyF_has x (x.every d) s (j := j) (by omega) (x.moves s) (x.everyB s) (mem_moves h1)
    omega
theorem way_root_len {x : Inst} {p : Nat} (hx : x.Fit p) (hm : x.may = true) {w : List Int} {c : Int} (h : x.way w x.rootS c) : w.length ≤ x.deepN := by
  have h1 := way_len h
  have hp := hx.pairs
  have hc := hx.cars
  have h2 : x.meas x.rootS ≤ 2 * p + (x.cars - 1).toNat := by
    unfold Inst.meas
    split
    · rw [Inst.rootS, if_pos hm]
      have h6 : ((List.range (2 * x.pairs.toNat + 1)).filter fun j : Nat => decide (1 ≤ j) && !hasB ({ State.zero with car := 1, time := (x.stop 0).ready } : State).must (j : Int)).length < ((List.range (2 * x.pairs.toNat + 1)).filter fun _ => true).length :=
        filter_lt _ (a := 0) (List.mem_range.2 (by omega)) rfl (by simp) (fun _ _ => rfl)
      rw [List.filter_eq_self.2 (fun _ _ => rfl), List.length_range] at h6
      refine Nat.le_trans (Nat.add_le_add (Nat.le_of_lt_succ h6) (Nat.le_refl _)) ?_
      show 2 * x.pairs.toNat + (x.cars - 1).toNat ≤ 2 * p + (x.cars - 1).toNat
      omega
    · omega
  unfold Inst.deepN
  omega
end Go.Proofs.Ytdjbapglfdacmaa

/- Diagrams of all ways: layers, plainly; no way costs less than a diagram tells. -/
set_option maxRecDepth 4000
namespace Go.Proofs.Ytdjbapglfdacmaa
open Go Go.Proofs.Ytdjbapglfdacmaa.R
structure Diag where
  layers : List (List Node)
  low : Int
  exact : Bool
  sure : Nat
  deriving DecidableEq
def Diag.of (ls : List (List Node)) (low : Int) (sq : Option Nat) : Diag := ⟨ls, low, sq.isNone, sq.getD ls.length⟩
def lowB (low : Int) (b : Node × Bool) : Int := if b.2 = true then min low b.1.cost else low
def Inst.buildGo (x : Inst) (w up dp : Int) : Nat → List (List Node) → Int → Option Nat → List Node → Diag
  | 0, ls, low, sq, _ => Diag.of ls low sq
  | f + 1, ls, low, sq, l => if l = [] then Diag.of ls low sq else
    if dp < ((ls.length + 1 : Nat) : Int) then Diag.of (ls ++ [l]) (lowB low (x.bests l)) sq else
    if x.mostN w < (x.next l up).length then x.buildGo w up dp f (ls ++ [l]) (lowB low (x.bests l)) (some (sq.getD (ls.length + 1))) (x.squeeze (x.next l up) w)
    else x.buildGo w up dp f (ls ++ [l]) (lowB low (x.bests l)) sq (x.next l up)
def Inst.build (x : Inst) (n : Node) (w up : Int) : Diag := x.buildGo w up (x.deep - n.path.length) ((x.deep - n.path.length).toNat + 2) [] up none [n]
/-- What is known of a layer's nodes, so many layers ahead of the last one. -/
structure WL (x : Inst) (l : List Node) (r : Nat) : Prop where
  is : ∀ n ∈ l, n.s.Is n.s.spot
  cost : ∀ n ∈ l, 0 ≤ n.cost ∧ n.cost + 14143 * ((r : Int) + 41) ≤ 1152921504606846976
theorem WL.lev {x : Inst} {l : List Node} {r : Nat} (h : WL x l r) : Lev x l 41 :=
  ⟨fun n hn => (h.is n hn).ok, fun n _ => by have := meas_le x n.s; omega, fun n hn => (h.is n hn).pos, fun n hn => (h.is n hn).seen, fun n hn => by have := h.cost n hn; omega⟩
theorem child_spot {x : Inst} {s : State} {j : Int} (h : (x.move s j).2.2 = true) : 0 ≤ (x.move s j).1.spot ∧ (x.move s j).1.spot < x.stops.length := by
  by_cases hj : j = 0
  · subst hj
    obtain ⟨h1, h2, h3, h4⟩ := move_home h
    obtain ⟨p, hx⟩ := x.fit h1
    have := hx.len
    rw [h4]
    show 0 ≤ (0 : Int) ∧ (0 : Int) < x.stops.length
    omega
  · obtain ⟨h1, h2, h3, h4, _, _, _, h5⟩ := move_pos h hj
    obtain ⟨p, hx⟩ := x.fit h1
    have := hx.len
    have := hx.pairs
    rw [h5]
    show 0 ≤ j ∧ j < x.stops.length
    omega
theorem State.Is.move {x : Inst} {s : State} {j i : Int} (h : s.Is i) (hj : (x.move s j).2.2 = true) : (x.move s j).1.Is (x.move s j).1.spot := ⟨rfl, move_ok x j h.ok, pos_move h.pos h.ok hj, seen_step hj⟩
theorem WL.next {x : Inst} {l : List Node} {r : Nat} (h : WL x l (r + 1)) (up : Int) : WL x (x.next l up) r ∧ ∀ m ∈ x.next l up, 0 ≤ m.s.spot ∧ m.s.spot < x.stops.length := by
  have key : ∀ m ∈ x.next l up, ∃ n ∈ l, ∃ j, (x.move n.s j).2.2 = true ∧ m = x.child n j := by
    intro m hm
    obtain ⟨n, hn, j, hj, e, _⟩ := next_mem hm
    exact ⟨n, hn, j, moves_mem hj, e⟩
  refine ⟨⟨?_, ?_⟩, ?_⟩ <;> (intro m hm; obtain ⟨n, hn, j, hj, rfl⟩ := key m hm)
  · exact (h.is n hn).move hj
  · rw [child_cost h.lev hn hj]
    have := h.cost n hn
    have := move_cost hj
    omega
  · exact child_spot hj
theorem WL.squeeze {x : Inst} {l : List Node} {r : Nat} (h : WL x l r) (w : Int) : WL x (x.squeeze l w) r := by
  have key : ∀ m ∈ x.squeeze l w, m.s.Is m.s.spot ∧ ∃ n ∈ l, m.cost = n.cost := by
    intro m hm
    rcases squeeze_mem hm with hm | ⟨i, g, h1, h2, h3, rfl⟩
    · exact ⟨h.is m hm, m, hm, rfl⟩
    · have hne2 : g.map Node.s ≠ [] := by simpa using h1
      obtain ⟨j1, j2, j3, j4⟩ := joinL_same hne2 (i := (i : Int)) fun t ht => by
        obtain ⟨q, hq, rfl⟩ := List.mem_map.1 ht
        exact (h3 q hq).2
      have j5 := j4 fun t ht => by
        obtain ⟨q, hq, rfl⟩ := List.mem_map.1 ht
        have := h.is q (h3 q hq).1
        rw [(h3 q hq).2] at this
        exact this
      obtain ⟨n, hn, e⟩ := (costL_is h1).2
      exact ⟨⟨rfl, j5.ok, j5.pos, j5.seen⟩, n, (h3 n hn).1, e⟩
  refine ⟨fun m hm => (key m hm).1, fun m hm => ?_⟩
  obtain ⟨_, n, hn, e⟩ := key m hm
  rw [e]
  exact h.cost n hn
theorem lowB_le (low : Int) (b : Node × Bool) : lowB low b ≤ low := by unfold lowB; split <;> omega
theorem buildGo_le (x : Inst) (w up dp : Int) : ∀ (f : Nat) (ls : List (List Node)) (low : Int) (sq : Option Nat) (l : List Node), (x.buildGo w up dp f ls low sq l).low ≤ low
  | 0, ls, low, sq, l => Int.le_refl _
  | f + 1, ls, low, sq, l => by
    have hb := lowB_le low (x.bests l)
    rw [Inst.buildGo]
    split
    · exact Int.le_refl _
    split
    · exact hb
    split
    · exact Int.le_trans (buildGo_le x w up dp f _ _ _ _) hb
    · exact Int.le_trans (buildGo_le x w up dp f _ _ _ _) hb
/-- What can be followed and ended at less than the bound is told. -/
theorem buildGo_way {x : Inst} (hst : x.stops.length < 2 ^ 31) (w up dp : Int) : ∀ (f : Nat) (ls : List (List Node)) (low : Int) (sq : Option Nat) (l : List Node), WL x l f →
    ∀ m ∈ l, ∀ (v : List Int) (c : Int), x.way v m.s c → m.cost + c < up → (ls.length : Int) + v.length ≤ dp → v.length < f → (x.buildGo w up dp f ls low sq l).low ≤ m.cost + c
  | 0, ls, low, sq, l, _, m, hm, v, c, _, _, _, hf => absurd hf (Nat.not_lt_zero _)
  | f + 1, ls, low, sq, l, hl, m, hm, v, c, hv, hlt, hdp, hf => by
    have hne : ¬ l = [] := fun e => by rw [e] at hm; cases hm
    have hend : v = [] → lowB low (x.bests l) ≤ m.cost + c := by
      rintro rfl
      obtain ⟨b1, b2⟩ := bests_has hm hv.1
      rw [end_sum hl.lev hm hv.1, ← hv.2] at b2
      rw [lowB, if_pos b1]
      omega
    rw [Inst.buildGo, if_neg hne]
    by_cases c1 : dp < ((ls.length + 1 : Nat) : Int)
    · rw [if_pos c1]
      exact hend (List.eq_nil_of_length_eq_zero (by omega))
    rw [if_neg c1]
    match v, hv with
    | [], hv =>
      split
      · exact Int.le_trans (buildGo_le x w up dp f _ _ _ _) (hend rfl)
      · exact Int.le_trans (buildGo_le x w up dp f _ _ _ _) (hend rfl)
    | j :: v, hv =>
      obtain ⟨g1, e, g2, g3⟩ := hv
      obtain ⟨q, hq, q1, q2⟩ := next_way hst hl.lev hm g1 g2 (up := up) (by omega)
      obtain ⟨hn1, hn2⟩ := hl.next up
      have hlen : (((ls ++ [l]).length : Nat) : Int) + v.length ≤ dp := by
        rw [List.length_append]
        simp only [List.length_cons, List.length_nil] at hdp ⊢
        omega
      have hf2 : v.length < f := by simp only [List.length_cons] at hf; omega
      rw [← q1] at g2
      split
      · obtain ⟨t, ht, t1, t2⟩ := squeeze_cov w hq (hn2 q hq).1 (hn2 q hq).2
        have ht3 := (hn1.squeeze w).is t ht
        have := buildGo_way hst w up dp f (ls ++ [l]) (lowB low (x.bests l)) (some (sq.getD (ls.length + 1))) _ (hn1.squeeze w) t ht v e (cov_way (move_pairs g1) t1 ht3.pos ht3.ok g2) (by omega) hlen hf2
        omega
      · have := buildGo_way hst w up dp f (ls ++ [l]) (lowB low (x.bests l)) sq _ hn1 q hq v e g2 (by omega) hlen hf2
        omega
/-- What is told was found. -/
theorem buildGo_low (x : Inst) (w up dp lim : Int) : ∀ (f : Nat) (ls : List (List Node)) (low : Int) (sq : Option Nat) (l : List Node), (low = lim ∨ ∃ k ∈ ls, (x.bests k).2 = true ∧ low = (x.bests k).1.cost) →
    ((x.buildGo w up dp f ls low sq l).low = lim ∨ ∃ k ∈ (x.buildGo w up dp f ls low sq l).layers, (x.bests k).2 = true ∧ (x.buildGo w up dp f ls low sq l).low = (x.bests k).1.cost)
  | 0, ls, low, sq, l, h => h
  | f + 1, ls, low, sq, l, h => by
    have h2 : lowB low (x.bests l) = lim ∨ ∃ k ∈ ls ++ [l], (x.bests k).2 = true ∧ lowB low (x.bests l) = (x.bests k).1.cost := by
      have hold : lowB low (x.bests l) = low → lowB low (x.bests l) = lim ∨ ∃ k ∈ ls ++ [l], (x.bests k).2 = true ∧ lowB low (x.bests l) = (x.bests k).1.cost := by
        intro e
        rw [e]
        rcases h with h | ⟨k, hk, h⟩
        · exact .inl h
        · exact .inr ⟨k, List.mem_append_left _ hk, h⟩
      by_cases hb : (x.bests l).2 = true
      · by_cases hc : low ≤ (x.bests l).1.cost
        · exact hold (by rw [lowB, if_pos hb]; omega)
        · exact .inr ⟨l, List.mem_append_right _ (List.mem_singleton.2 rfl), hb, by rw [lowB, if_pos hb]; omega⟩
      · exact hold (by rw [lowB, if_neg hb])
    rw [Inst.buildGo]
    split
    · exact h
    split
    · exact h2
    split
    · exact buildGo_low x w up dp lim f _ _ _ _ h2
    · exact buildGo_low x w up dp lim f _ _ _ _ h2
/-- The layer that so many moves lead to, if none is squeezed. -/
def Inst.layN (x : Inst) (up : Int) (n : Node) : Nat → List Node
  | 0 => [n]
  | k + 1 => x.next (x.layN up n k) up
structure SureI (x : Inst) (up : Int) (n : Node) (ls : List (List Node)) (sq : Option Nat) : Prop where
  lay : ∀ i, i < sq.getD ls.length → ls[i]? = some (x.layN up n i)
  le : sq.getD ls.length ≤ ls.length
theorem SureI.push {x : Inst} {up : Int} {n : Node} {ls : List (List Node)} {sq : Option Nat} {l : List Node} (h : SureI x up n ls sq) (hl : sq = none → l = x.layN up n ls.length) : SureI x up n (ls ++ [l]) sq := by
  cases sq with
  | some k =>
    have h1 := h.lay
    have h2 := h.le
    simp only [Option.getD_some] at h1 h2
    refine ⟨fun i hi => ?_, ?_⟩
    · simp only [Option.getD_some] at hi
      rw [List.getElem?_append_left (by omega)]
      exact h1 i hi
    · simp only [Option.getD_some, List.length_append, List.length_cons]; omega
  | none =>
    have h1 := h.lay
    simp only [Option.getD_none] at h1
    refine ⟨fun i hi => ?_, by simp⟩
    simp only [Option.getD_none, List.length_append, List.length_cons, List.length_nil] at hi
    by_cases e : i < ls.length
    · rw [List.getElem?_append_left e]; exact h1 i e
    · have : i = ls.length := by omega
      subst this
      rw [List.getElem?_append_right (Nat.le_refl _), Nat.sub_self, hl rfl]
      rfl
/-- What holds of a whole diagram. -/
structure Diag.Ok (x : Inst) (up : Int) (n : Node) (d : Diag) : Prop where
  lay : ∀ i, i < d.sure → d.layers[i]? = some (x.layN up n i)
  le : d.sure ≤ d.layers.length
  whole : d.exact = decide (d.sure = d.layers.length)
  pos : 1 ≤ d.sure
theorem buildGo_sure {x : Inst} (w up dp : Int) (n : Node) : ∀ (f : Nat) (ls : List (List Node)) (low : Int) (sq : Option Nat) (l : List Node), SureI x up n ls sq → (sq = none → l = x.layN up n ls.length) → (∀ k, sq = some k → 1 ≤ k ∧ (l ≠ [] ∨ k < ls.length)) → (ls = [] → l ≠ []) → 1 ≤ f →
    (∀ k, sq = some k → ls.length + f ≥ 1) → (f : Int) + ls.length ≥ dp + 2 → ((ls.length : Int) ≤ dp ∨ ls = []) → (x.buildGo w up dp f ls low sq l).Ok x up n
  | 0, ls, low, sq, l, _, _, _, _, hf, _, _, _ => absurd hf (by omega)
  | f + 1, ls, low, sq, l, h, hn, hs, h0, hf, hq, hfu, hle => by
    rw [Inst.buildGo]
    by_cases c0 : l = []
    · rw [if_pos c0]
      refine ⟨h.lay, h.le, ?_, ?_⟩
      · cases sq with
        | none => simp [Diag.of]
        | some k =>
          have := (hs k rfl).2
          have : k < ls.length := this.resolve_left fun e => e c0
          show false = decide (k = ls.length)
          exact (decide_eq_false (by omega)).symm
      · cases sq with
        | none =>
          have : ls ≠ [] := fun e => h0 e c0
          have := List.length_pos_iff.2 this
          simp only [Diag.of, Option.getD_none]; omega
        | some k => exact (hs k rfl).1
    rw [if_neg c0]
    have hp := h.push hn
    by_cases c1 : dp < ((ls.length + 1 : Nat) : Int)
    · rw [if_pos c1]
      refine ⟨hp.lay, hp.le, ?_, ?_⟩
      · cases sq with
        | none => simp [Diag.of]
        | some k =>
          have := h.le
          simp only [Option.getD_some] at this
          show false = decide (k = (ls ++ [l]).length)
          exact (decide_eq_false (by rw [List.length_append]; simp only [List.length_cons]; omega)).symm
      · cases sq with
        | none => simp [Diag.of]
        | some k => exact (hs k rfl).1
    rw [if_neg c1]
    have hlen : (ls ++ [l]).length = ls.length + 1 := by simp
    split
    · rename_i hov
      have hne : x.next l up ≠ [] := fun e => by rw [e] at hov; simp at hov
      obtain ⟨q, hq2⟩ := List.exists_mem_of_ne_nil _ hne
      obtain ⟨m, hm, j, hj, rfl, _⟩ := next_mem hq2
      have hsp := child_spot (moves_mem hj)
      obtain ⟨t, ht, _⟩ := squeeze_cov w hq2 hsp.1 hsp.2
      have hne2 : x.squeeze (x.next l up) w ≠ [] := fun e => by rw [e] at ht; cases ht
      refine buildGo_sure w up dp n f _ _ _ _ ?_ (fun e => by cases e) (fun k hk => ⟨?_, .inl hne2⟩) (fun _ => hne2) (by omega) (fun _ _ => by omega) (by rw [hlen]; omega) (.inl (by rw [hlen]; omega))
      · cases sq with
        | none =>
          simp only [Option.getD_none]
          refine ⟨fun i hi => hp.lay i ?_, by simp⟩
          simp only [Option.getD_some] at hi
          simp only [Option.getD_none, hlen]
          exact hi
        | some k => exact hp
      · cases hk
        cases sq with
        | none => simp
        | some k => exact (hs k rfl).1
    · refine buildGo_sure w up dp n f _ _ _ _ hp (fun e => ?_) (fun k hk => ⟨(hs k hk).1, .inr ?_⟩) (fun e => by simp at e) (by omega) (fun _ _ => by omega) (by rw [hlen]; omega) (.inl (by rw [hlen]; omega))
      · rw [hlen, Inst.layN, ← hn e]
      · have := h.le
        rw [hk] at this
        simp only [Option.getD_some] at this
        omega
end Go.Proofs.Ytdjbapglfdacmaa

/- Diagrams of all ways: wide.Build. -/
set_option maxRecDepth 4000
set_option maxHeartbeats 2000000
namespace Go.Proofs.Ytdjbapglfdacmaa
open Go Go.Proofs.Ytdjbapglfdacmaa.R
/-- Rows of rows of nodes. -/
def lysT (ls : List (List Node)) : List (List T) := ls.map fun l => [.sl (nodesT l)]
def Diag.cs (d : Diag) : List AV := [.t (.sl (lysT d.layers)), .i d.low, .b d.exact, .i d.sure]
def Diag.a (d : Diag) : AV := .agg d.cs
structure WFine (l : List Node) (K : Nat) : Prop where
  ok : ∀ n ∈ l, n.s.ok
  path : ∀ n ∈ l, n.path.length ≤ K
theorem WFine.next {x : Inst} {l : List Node} {K : Nat} (h : WFine l K) (up : Int) : WFine (x.next l up) (K + 1) := by
  refine ⟨?_, ?_⟩ <;> (intro m hm; obtain ⟨n, hn, j, hj, rfl, _⟩ := next_mem hm)
  · exact move_ok x j (h.ok n hn)
  · have := h.path n hn
    show (n.path ++ [j]).length ≤ K + 1
    rw [List.length_append]
    simp only [List.length_cons, List.length_nil]
    omega
theorem fold_ok : ∀ (l : List State) (s : State), s.ok → (∀ t ∈ l, t.ok) → (l.foldl State.join s).ok
  | [], s, h, _ => h
  | t :: l, s, h, k => fold_ok l (s.join t) (join_ok h (k t List.mem_cons_self)) fun u hu => k u (List.mem_cons_of_mem _ hu)
theorem joinL_ok {l : List State} (h : ∀ t ∈ l, t.ok) : (joinL l).1.ok := by
  cases l with
  | nil => exact State.zero_ok
  | cons s l =>
    rw [joinL]
    split
    · exact State.zero_ok
    · exact fold_ok l s (h s List.mem_cons_self) fun t ht => h t (List.mem_cons_of_mem _ ht)
theorem WFine.squeeze {x : Inst} {l : List Node} {K : Nat} (h : WFine l K) (w : Int) : WFine (x.squeeze l w) K := by
  refine ⟨fun m hm => ?_, fun m hm => ?_⟩
  · rcases squeeze_mem hm with hm | ⟨i, g, h1, h2, h3, rfl⟩
    · exact h.ok m hm
    · exact joinL_ok fun t ht => by
        obtain ⟨q, hq, rfl⟩ := List.mem_map.1 ht
        exact h.ok q (h3 q hq).1
  · rcases squeeze_mem hm with hm | ⟨i, g, h1, h2, h3, rfl⟩
    · exact h.path m hm
    · exact Nat.zero_le _
theorem deep_le (x : Inst) : 0 ≤ x.deep ∧ x.deep ≤ 39 := by
  unfold Inst.deep
  split
  · rename_i hm
    obtain ⟨p, hx⟩ := x.fit hm
    have := hx.pairs
    have := hx.few
    have := hx.cars
    omega
  · omega
theorem next_few {x : Inst} {l : List Node} {up w : Int} (hw : w ≤ 3000) (h : (x.next l up).length ≤ x.mostN w) : (x.next l up).length ≤ 3000 := by
  cases hm : x.may with
  | true =>
    obtain ⟨p, hx⟩ := x.fit hm
    have := hx.len
    have := hx.few
    unfold Inst.mostN at h
    omega
  | false =>
    have : x.next l up = [] := by
      refine List.eq_nil_iff_forall_not_mem.2 fun m hm2 => ?_
      obtain ⟨n, hn, j, hj, _⟩ := next_mem hm2
      have := (move_may (moves_mem hj)).1
      rw [hm] at this; cases this
    rw [this]; simp
theorem most_few {x : Inst} {l : List Node} {up w : Int} (hw : w ≤ 3000) (h : x.mostN w < (x.next l up).length) : x.mostN w ≤ 3000 := by
  cases hm : x.may with
  | true =>
    obtain ⟨p, hx⟩ := x.fit hm
    have := hx.len
    have := hx.few
    unfold Inst.mostN
    omega
  | false =>
    have : x.next l up = [] := by
      refine List.eq_nil_iff_forall_not_mem.2 fun m hm2 => ?_
      obtain ⟨n, hn, j, hj, _⟩ := next_mem hm2
      have := (move_may (moves_mem hj)).1
      rw [hm] at this; cases this
    rw [this] at h; simp at h
theorem build_pure (x : Inst) (n : Node) (w up : Int) (hl : x.stops.length < 2 ^ 31) (hw : w ≤ 3000) (ho : n.s.ok) (hp : n.path.length < 2 ^ 29) : Pure P 14 [x.a, n.a, .i w, .i up] ((x.build n w up).a) := by
  generalize hR : x.build n w up = R
  refine pure_of Try.func14 rfl rfl (by simp [Try.f14]) (by simp [bnd, bnd.bndL, Inst.a, Node.a, Node.cs]) (by simp [bnd, bnd.bndL, Diag.a, Diag.cs]) fun B hB hnx => ?_
  simp only [Try.f14] at hB ⊢
  have hdeep := deep_pure x (by omega)
  have hdl := deep_le x
  have hown := ownN_pure [n] (by simp) (fun m hm => by rw [List.mem_singleton.1 hm]; omega)
  rw [Inst.build] at hR
  have hwd : IntKind.i64.wrap (x.deep - n.path.length) = x.deep - n.path.length := w64 _ (by omega)
  generalize hdp : x.deep - (n.path.length : Int) = dp at *
  have hnl : (ints n.path).length = n.path.length := List.length_map _
  refine K_run hB 100 ?_
  simp [go_sem, Inst.a, Node.a, Node.cs]
  refine K_scope ?_
  refine K_run hB 100 ?_
  simp [go_sem]
  refine K_drawn [] rfl (by rw [hB]; kernel_rfl) ?_
  refine K_run hB 100 ?_
  simp [go_sem]
  refine K_dCallP rfl rfl rfl (args := [x.a]) (f := 16) (by simp [go_sem, Inst.a]) (hdeep) ?_
  refine K_run hB 100 ?_
  simp [go_sem, hnl, hdp, hwd]
  refine K_call rfl rfl rfl (args := [.fsl [n.t]]) (f := 33) (by simp [go_sem, Node.t]) (by simp [go_sem, hB]) ((Pure.loose hown (by simp [bnd])).spec _ _) ?_
  refine K_run hB 100 ?_
  simp [go_sem]
  refine K_less (Imp.ownB (b := 4) (off := 0) (sz := 1) (cs := [.fsl [], .i up, .b true, .i 0]) (by simp [oput]) rfl) ?_
  refine K_loopP (α := Nat × List (List Node) × Int × Option Nat × List Node × Nat × (Nat → AObj) × Nat) (fun (f, ls, low, sq, l, q, τ, ny) => x.buildGo w up dp f ls low sq l = R ∧ (f : Int) + ls.length ≥ dp + 2 ∧ ((ls.length : Int) ≤ dp ∨ ls = []) ∧ 1 ≤ f ∧ WFine l (n.path.length + ls.length) ∧ l.length ≤ 3000 ∧ τ 0 = .box x.cs ∧ τ 2 = .box [.i w] ∧ τ 3 = .box [.fsl [], .i 0, .b false, .i 0] ∧ τ 4 = .box [.ref q, .i low, .b sq.isNone, .i (sq.getD 0 : Nat)] ∧ τ q = .arr 1 (lysT ls) ∧ 4 < q ∧ q < ny)
    (fun (f, ls, low, sq, l, q, τ, ny) => ⟨sl [(3, .i up), (4, .ptr 0 0), (6, .ptr 2 0), (8, .ptr 3 0), (9, .ptr 4 0), (10, .fn (.func 32) [] [.ptr 0 0, .ptr 2 0]), (11, .i dp), (12, .t (.sl (nodesT l)))], τ, ny⟩) (fun a => a.1) (dp.toNat + 2, [], up, none, [n], 5, _, 6) ?_ (Imp.slots (by simp [go_sem]) rfl rfl) ?_
  · refine ⟨hR, by simp only [List.length_nil]; omega, .inr rfl, by omega, ⟨fun m hm => by rw [List.mem_singleton.1 hm]; exact ho, fun m hm => by rw [List.mem_singleton.1 hm]; omega⟩, by simp, by simp [oput, Inst.cs], by simp [oput], by simp [oput], by simp [oput, setCells], by simp [oput, lysT], by omega, by omega⟩
  clear hR
  rintro ⟨f, ls, low, sq, l, q, τ, ny⟩ ⟨hR, g1, g2, g3, g4, g5, h0, h2, h3, h4, h5, h6, h7⟩
  obtain ⟨f, rfl⟩ : ∃ f', f = f' + 1 := ⟨f - 1, by omega⟩
  have hil : (nodesT l).length = l.length := List.length_map _
  have hyl : (lysT ls).length = ls.length := List.length_map _
  have hls : ls.length ≤ 40 := by
    rcases g2 with g2 | g2
    · omega
    · rw [g2]; simp
  have n0 : ¬ 0 = ny := by omega
  have n2 : ¬ 2 = ny := by omega
  have n3 : ¬ 3 = ny := by omega
  have n4 : ¬ 4 = ny := by omega
  have n5 : ¬ q = 3 := by omega
  have n6 : ¬ q = 4 := by omega
  rw [Inst.buildGo] at hR
  by_cases c0 : l = []
  · rw [if_pos c0] at hR
    subst hR
    have c0' : l.length = 0 := by rw [c0]; rfl
    cases sq with
    | none =>
      refine K_run hB 60 ?_
      simp [go_sem, hil, c0', h4, h5, hyl, n5, n6, h3]
      rfl
    | some k =>
      refine K_run hB 60 ?_
      simp [go_sem, hil, c0', h4, h5, hyl, n5, n6, h3]
      rfl
  rw [if_neg c0] at hR
  have c0' : 0 < l.length := List.length_pos_iff.2 c0
  have hx := expand_pure x l up hl (by omega) (fun m h => ⟨g4.ok m h, by have := g4.path m h; omega⟩) (fun m h => by have := g4.path m h; omega)
  have hnw := g4.next (x := x) up
  have hsn : lysT ls ++ [[.sl (nodesT l)]] = lysT (ls ++ [l]) := by simp [lysT]
  have hcap : ls.length + 1 ≤ mostLen := by show _ ≤ 4294967296; omega
  have hsl : (lysT (ls ++ [l])).length = ls.length + 1 := by rw [lysT, List.length_map]; simp
  have n7 : ¬ 4 = q := by omega
  have n8 : ¬ 0 = q := by omega
  have n9 : ¬ 2 = q := by omega
  have na : ¬ 3 = q := by omega
  generalize x.bests l = Bs at *
  obtain ⟨b, is⟩ := Bs
  have hqs := squeeze_pure x (x.next l up) w hl (by have := next_len x l up; omega) (fun m h => ⟨hnw.ok m h, by have := hnw.path m h; omega⟩)
  have hnf := next_few (x := x) (l := l) (up := up) hw
  have hmf := most_few (x := x) (l := l) (up := up) hw
  have hsq := squeeze_len x (x.next l up) w
  have hsw := hnw.squeeze (x := x) w
  generalize x.squeeze (x.next l up) w = Q at *
  generalize x.next l up = M at *
  refine K_run hB 60 ?_
  simp [go_sem, hil, c0', h4, h5, hyl, hsn, hcap, n0, n2, n3, n4, n6, n7, n8, n9, na, h0, Inst.cs]
  refine K_run hB 100 ?_
  simp [go_sem, hil, c0', h4, h5, hyl, hsn, hcap, n0, n2, n3, n4, n6, n7, n8, n9, na, h0, Inst.cs]
  refine K_call rfl rfl rfl (args := [x.a, .t (.sl (nodesT l)), .i up]) (f := 34) (by simp [go_sem, Inst.a]) (by simp [go_sem, hB]) ((hx).spec _ _) ?_
  have b0 : ¬ ny = 0 := by omega
  have b1 : ¬ ny + 1 = 0 := by omega
  have b2 : ¬ ny = 1 := by omega
  have b3 : ¬ ny = 2 := by omega
  have b4 : ¬ ny = 3 := by omega
  have b5 : ¬ ny = 4 := by omega
  have b6 : ¬ 4 = ny + 1 := by omega
  have hov := fun (τ' : Nat → AObj) (e1 : τ' 0 = .box x.cs) (e2 : τ' 2 = .box [.i w]) => over_spec x w M (σ := τ') (nx := ny + 2) (a := 0) (b := 2) (by omega) (by omega) e1 e2
  have hwQ : WFine Q (n.path.length + (ls ++ [l]).length) := by rw [List.length_append]; exact hsw
  have hwM : WFine M (n.path.length + (ls ++ [l]).length) := by rw [List.length_append]; exact hnw
  cases is with
  | false =>
    have hlw : lowB low (b, false) = low := rfl
    rw [hlw] at hR
    by_cases c1 : dp < (ls.length : Int) + 1
    · rw [if_pos (by omega)] at hR
      subst hR
      cases sq with
      | none =>
        refine K_run hB 100 ?_
        simp [go_sem, expRes, Node.a, Node.cs, h0, h2, h3, h4, h5, n0, n2, n3, n4, n5, n6, n7, n8, n9, na, b0, b1, b2, b3, b4, b5, b6, hsl, Inst.cs, c1]
        simp [Diag.of, Diag.a, Diag.cs]
      | some k =>
        refine K_run hB 100 ?_
        simp [go_sem, expRes, Node.a, Node.cs, h0, h2, h3, h4, h5, n0, n2, n3, n4, n5, n6, n7, n8, n9, na, b0, b1, b2, b3, b4, b5, b6, hsl, Inst.cs, c1]
        rfl
    rw [if_neg (by omega)] at hR
    refine K_run hB 100 ?_
    simp [go_sem, expRes, Node.a, Node.cs, h0, h2, h3, h4, h5, n0, n2, n3, n4, n5, n6, n7, n8, n9, na, b0, b1, b2, b3, b4, b5, b6, hsl, Inst.cs, c1]
    refine K_call rfl rfl rfl (args := [.t (.sl (nodesT M)), .ptr 0 0, .ptr 2 0]) (f := 32) (by simp [go_sem]) (by simp [go_sem, hB]) (hov _ (by simp [oput, h0, n0, n8, b0, b1, Inst.cs]) (by simp [oput, h2, n2, n9, b1, b2, b3])) ?_
    by_cases c2 : x.mostN w < M.length
    · rw [if_pos c2] at hR
      refine K_run hB 100 ?_
      simp [go_sem, expRes, Node.a, Node.cs, h0, h2, h3, h4, h5, n0, n2, n3, n4, n5, n6, n7, n8, n9, na, b0, b1, b2, b3, b4, b5, b6, hsl, Inst.cs, c2]
      refine K_call rfl rfl rfl (args := [x.a, .t (.sl (nodesT M)), .i w]) (f := 10) (by simp [go_sem, Inst.a]) (by simp [go_sem, hB]) ((hqs).spec _ _) ?_
      cases sq with
      | none =>
        refine K_run hB 100 ?_
        simp [go_sem, expRes, Node.a, Node.cs, h0, h2, h3, h4, h5, n0, n2, n3, n4, n5, n6, n7, n8, n9, na, b0, b1, b2, b3, b4, b5, b6, hsl, Inst.cs]
        refine Next.mk (f, ls ++ [l], low, some (ls.length + 1), Q, ny, _, ny + 2) ?_ (Imp.slots (by simp [go_sem]) rfl rfl) (by simp only; omega)
        exact ⟨hR, by simp only [List.length_append, List.length_cons, List.length_nil]; omega, .inl (by simp only [List.length_append, List.length_cons, List.length_nil]; omega), by simp only; omega, hwQ, (by have := hmf c2; simp only; omega), by simp [oput, h0, h2, h3, h4, n0, n2, n3, n4, n7, n8, n9, na, b0, b1, b2, b3, b4, b5, b6, Inst.cs], by simp [oput, h0, h2, h3, h4, n0, n2, n3, n4, n7, n8, n9, na, b0, b1, b2, b3, b4, b5, b6, Inst.cs], by simp [oput, h0, h2, h3, h4, n0, n2, n3, n4, n7, n8, n9, na, b0, b1, b2, b3, b4, b5, b6, Inst.cs], by simp [oput, h0, h2, h3, h4, n0, n2, n3, n4, n7, n8, n9, na, b0, b1, b2, b3, b4, b5, b6, Inst.cs], by simp [oput, h0, h2, h3, h4, n0, n2, n3, n4, n7, n8, n9, na, b0, b1, b2, b3, b4, b5, b6, Inst.cs], by simp only; omega, by simp only; omega⟩
      | some k =>
        refine K_run hB 100 ?_
        simp [go_sem, expRes, Node.a, Node.cs, h0, h2, h3, h4, h5, n0, n2, n3, n4, n5, n6, n7, n8, n9, na, b0, b1, b2, b3, b4, b5, b6, hsl, Inst.cs]
        refine Next.mk (f, ls ++ [l], low, some k, Q, ny, _, ny + 2) ?_ (Imp.slots (by simp [go_sem]) rfl rfl) (by simp only; omega)
        exact ⟨hR, by simp only [List.length_append, List.length_cons, List.length_nil]; omega, .inl (by simp only [List.length_append, List.length_cons, List.length_nil]; omega), by simp only; omega, hwQ, (by have := hmf c2; simp only; omega), by simp [oput, h0, h2, h3, h4, n0, n2, n3, n4, n7, n8, n9, na, b0, b1, b2, b3, b4, b5, b6, Inst.cs], by simp [oput, h0, h2, h3, h4, n0, n2, n3, n4, n7, n8, n9, na, b0, b1, b2, b3, b4, b5, b6, Inst.cs], by simp [oput, h0, h2, h3, h4, n0, n2, n3, n4, n7, n8, n9, na, b0, b1, b2, b3, b4, b5, b6, Inst.cs], by simp [oput, h0, h2, h3, h4, n0, n2, n3, n4, n7, n8, n9, na, b0, b1, b2, b3, b4, b5, b6, Inst.cs], by simp [oput, h0, h2, h3, h4, n0, n2, n3, n4, n7, n8, n9, na, b0, b1, b2, b3, b4, b5, b6, Inst.cs], by simp only; omega, by simp only; omega⟩
    · rw [if_neg c2] at hR
      refine K_run hB 100 ?_
      simp [go_sem, expRes, Node.a, Node.cs, h0, h2, h3, h4, h5, n0, n2, n3, n4, n5, n6, n7, n8, n9, na, b0, b1, b2, b3, b4, b5, b6, hsl, Inst.cs, c2]
      refine Next.mk (f, ls ++ [l], low, sq, M, ny, _, ny + 2) ?_ (Imp.slots (by simp [go_sem]) rfl rfl) (by simp only; omega)
      exact ⟨hR, by simp only [List.length_append, List.length_cons, List.length_nil]; omega, .inl (by simp only [List.length_append, List.length_cons, List.length_nil]; omega), by simp only; omega, hwM, (hnf (by omega)), by simp [oput, h0, h2, h3, h4, n0, n2, n3, n4, n7, n8, n9, na, b0, b1, b2, b3, b4, b5, b6, Inst.cs], by simp [oput, h0, h2, h3, h4, n0, n2, n3, n4, n7, n8, n9, na, b0, b1, b2, b3, b4, b5, b6, Inst.cs], by simp [oput, h0, h2, h3, h4, n0, n2, n3, n4, n7, n8, n9, na, b0, b1, b2, b3, b4, b5, b6, Inst.cs], by simp [oput, h0, h2, h3, h4, n0, n2, n3, n4, n7, n8, n9, na, b0, b1, b2, b3, b4, b5, b6, Inst.cs], by simp [oput, h0, h2, h3, h4, n0, n2, n3, n4, n7, n8, n9, na, b0, b1, b2, b3, b4, b5, b6, Inst.cs], by simp only; omega, by simp only; omega⟩
  | true =>
    have hlw : lowB low (b, true) = min low b.cost := rfl
    rw [hlw] at hR
    by_cases c1 : dp < (ls.length : Int) + 1
    · rw [if_pos (by omega)] at hR
      subst hR
      cases sq with
      | none =>
        refine K_run hB 100 ?_
        simp [go_sem, expRes, Node.a, Node.cs, h0, h2, h3, h4, h5, n0, n2, n3, n4, n5, n6, n7, n8, n9, na, b0, b1, b2, b3, b4, b5, b6, hsl, Inst.cs, c1]
        simp [Diag.of, Diag.a, Diag.cs]
      | some k =>
        refine K_run hB 100 ?_
        simp [go_sem, expRes, Node.a, Node.cs, h0, h2, h3, h4, h5, n0, n2, n3, n4, n5, n6, n7, n8, n9, na, b0, b1, b2, b3, b4, b5, b6, hsl, Inst.cs, c1]
        rfl
    rw [if_neg (by omega)] at hR
    refine K_run hB 100 ?_
    simp [go_sem, expRes, Node.a, Node.cs, h0, h2, h3, h4, h5, n0, n2, n3, n4, n5, n6, n7, n8, n9, na, b0, b1, b2, b3, b4, b5, b6, hsl, Inst.cs, c1]
    refine K_call rfl rfl rfl (args := [.t (.sl (nodesT M)), .ptr 0 0, .ptr 2 0]) (f := 32) (by simp [go_sem]) (by simp [go_sem, hB]) (hov _ (by simp [oput, h0, n0, n8, b0, b1, Inst.cs]) (by simp [oput, h2, n2, n9, b1, b2, b3])) ?_
    by_cases c2 : x.mostN w < M.length
    · rw [if_pos c2] at hR
      refine K_run hB 100 ?_
      simp [go_sem, expRes, Node.a, Node.cs, h0, h2, h3, h4, h5, n0, n2, n3, n4, n5, n6, n7, n8, n9, na, b0, b1, b2, b3, b4, b5, b6, hsl, Inst.cs, c2]
      refine K_call rfl rfl rfl (args := [x.a, .t (.sl (nodesT M)), .i w]) (f := 10) (by simp [go_sem, Inst.a]) (by simp [go_sem, hB]) ((hqs).spec _ _) ?_
      cases sq with
      | none =>
        refine K_run hB 100 ?_
        simp [go_sem, expRes, Node.a, Node.cs, h0, h2, h3, h4, h5, n0, n2, n3, n4, n5, n6, n7, n8, n9, na, b0, b1, b2, b3, b4, b5, b6, hsl, Inst.cs]
        refine Next.mk (f, ls ++ [l], min low b.cost, some (ls.length + 1), Q, ny, _, ny + 2) ?_ (Imp.slots (by simp [go_sem]) rfl rfl) (by simp only; omega)
        exact ⟨hR, by simp only [List.length_append, List.length_cons, List.length_nil]; omega, .inl (by simp only [List.length_append, List.length_cons, List.length_nil]; omega), by simp only; omega, hwQ, (by have := hmf c2; simp only; omega), by simp [oput, h0, h2, h3, h4, n0, n2, n3, n4, n7, n8, n9, na, b0, b1, b2, b3, b4, b5, b6, Inst.cs], by simp [oput, h0, h2, h3, h4, n0, n2, n3, n4, n7, n8, n9, na, b0, b1, b2, b3, b4, b5, b6, Inst.cs], by simp [oput, h0, h2, h3, h4, n0, n2, n3, n4, n7, n8, n9, na, b0, b1, b2, b3, b4, b5, b6, Inst.cs], by simp [oput, h0, h2, h3, h4, n0, n2, n3, n4, n7, n8, n9, na, b0, b1, b2, b3, b4, b5, b6, Inst.cs], by simp [oput, h0, h2, h3, h4, n0, n2, n3, n4, n7, n8, n9, na, b0, b1, b2, b3, b4, b5, b6, Inst.cs], by simp only; omega, by simp only; omega⟩
      | some k =>
        refine K_run hB 100 ?_
        simp [go_sem, expRes, Node.a, Node.cs, h0, h2, h3, h4, h5, n0, n2, n3, n4, n5, n6, n7, n8, n9, na, b0, b1, b2, b3, b4, b5, b6, hsl, Inst.cs]
        refine Next.mk (f, ls ++ [l], min low b.cost, some k, Q, ny, _, ny + 2) ?_ (Imp.slots (by simp [go_sem]) rfl rfl) (by simp only; omega)
        exact ⟨hR, by simp only [List.length_append, List.length_cons, List.length_nil]; omega, .inl (by simp only [List.length_append, List.length_cons, List.length_nil]; omega), by simp only; omega, hwQ, (by have := hmf c2; simp only; omega), by simp [oput, h0, h2, h3, h4, n0, n2, n3, n4, n7, n8, n9, na, b0, b1, b2, b3, b4, b5, b6, Inst.cs], by simp [oput, h0, h2, h3, h4, n0, n2, n3, n4, n7, n8, n9, na, b0, b1, b2, b3, b4, b5, b6, Inst.cs], by simp [oput, h0, h2, h3, h4, n0, n2, n3, n4, n7, n8, n9, na, b0, b1, b2, b3, b4, b5, b6, Inst.cs], by simp [oput, h0, h2, h3, h4, n0, n2, n3, n4, n7, n8, n9, na, b0, b1, b2, b3, b4, b5, b6, Inst.cs], by simp [oput, h0, h2, h3, h4, n0, n2, n3, n4, n7, n8, n9, na, b0, b1, b2, b3, b4, b5, b6, Inst.cs], by simp only; omega, by simp only; omega⟩
    · rw [if_neg c2] at hR
      refine K_run hB 100 ?_
      simp [go_sem, expRes, Node.a, Node.cs, h0, h2, h3, h4, h5, n0, n2, n3, n4, n5, n6, n7, n8, n9, na, b0, b1, b2, b3, b4, b5, b6, hsl, Inst.cs, c2]
      refine Next.mk (f, ls ++ [l], min low b.cost, sq, M, ny, _, ny + 2) ?_ (Imp.slots (by simp [go_sem]) rfl rfl) (by simp only; omega)
      exact ⟨hR, by simp only [List.length_append, List.length_cons, List.length_nil]; omega, .inl (by simp only [List.length_append, List.length_cons, List.length_nil]; omega), by simp only; omega, hwM, (hnf (by omega)), by simp [oput, h0, h2, h3, h4, n0, n2, n3, n4, n7, n8, n9, na, b0, b1, b2, b3, b4, b5, b6, Inst.cs], by simp [oput, h0, h2, h3, h4, n0, n2, n3, n4, n7, n8, n9, na, b0, b1, b2, b3, b4, b5, b6, Inst.cs], by simp [oput, h0, h2, h3, h4, n0, n2, n3, n4, n7, n8, n9, na, b0, b1, b2, b3, b4, b5, b6, Inst.cs], by simp [oput, h0, h2, h3, h4, n0, n2, n3, n4, n7, n8, n9, na, b0, b1, b2, b3, b4, b5, b6, Inst.cs], by simp [oput, h0, h2, h3, h4, n0, n2, n3, n4, n7, n8, n9, na, b0, b1, b2, b3, b4, b5, b6, Inst.cs], by simp only; omega, by simp only; omega⟩
end Go.Proofs.Ytdjbapglfdacmaa

/- When a car is where: what is wrong with a stop, and how it drives. -/
set_option maxRecDepth 4000
namespace Go.Proofs.Ytdjbapglfdacmaa
open Go Go.Proofs.Ytdjbapglfdacmaa.R
/-- A car on its way. -/
structure Car where
  spot : Int
  now : Int
  gone : Int
  load : Int
  seen : Nat
  on : Nat
  times : List (List T)
  loads : List Int
def carC (x : Inst) (c : Car) (qt ql : Nat) : List AV := [.t (.i x.pairs), .t (.i x.cars), .t (.i x.room), .t (.sl (x.stops.map Stop.t)), .i c.spot, .i c.now, .i c.gone, .i c.load, .u c.seen, .u c.on, .ref qt, .ref ql]
/-- What holds of a car that has seen so many stops. -/
structure Car.Fit (c : Car) (p k : Nat) : Prop where
  spot : 0 ≤ c.spot ∧ c.spot ≤ 2 * p
  now : 0 ≤ c.now ∧ c.now ≤ 1049576
  gone : 0 ≤ c.gone ∧ c.gone ≤ 14143 * k
  load : -1000 * (k : Int) ≤ c.load ∧ c.load ≤ 1000
  seen : c.seen < 2 ^ 64
  on : c.on < 2 ^ 64
  times : c.times.length = k
  loads : c.loads.length = k
  three : ∀ y ∈ c.times, y.length = 3
  few : k + ((List.range (2 * p + 1)).filter fun j : Nat => decide (1 ≤ j) && !hasB c.seen (j : Int)).length ≤ 2 * p
theorem Car.Fit.le {c : Car} {p k : Nat} (h : c.Fit p k) : k ≤ 2 * p := by have := h.few; omega
def Inst.visitsE (x : Inst) (c : Car) (i : Int) : Int :=
  if i < 1 ∨ 2 * x.pairs < i then 1 else if hasB c.seen i = true then 5 else if x.pairs < i ∧ hasB c.seen (i - x.pairs) = false then 8 else if x.room < c.load + (x.stop i).demand then 6 else 0
theorem oput_back (σ : Nat → AObj) (q : Nat) : oput σ q (σ q) = σ := by funext i; by_cases h : i = q <;> simp [oput, h]
theorem visits_spec (x : Inst) (c : Car) (i : Int) {p k : Nat} (hx : x.Fit p) (hc : c.Fit p k) {σ : Nat → AObj} {nx b qt ql : Nat} (hb : b < nx) (hσb : σ b = .box (carC x c qt ql)) (hqt : qt < nx) (hql : ql < nx) :
    CallSpec P 102 [.ptr b 0, .i i] σ nx (.i (x.visitsE c i)) σ nx := by
  generalize hR : x.visitsE c i = R
  have h : CallSpec P 102 [.ptr b 0, .i i] σ nx (.i R) (oput σ b (σ b)) nx := by
    refine spec_down Try.func102 rfl rfl (by simp [Try.f102]) hb (by rw [hσb]; simp [bndO, bnd, bnd.bndL, carC, hqt, hql]) (by simp [bnd]) fun hkn B hB hnx hσ => ?_
    simp only [Try.f102] at hB ⊢
    rw [Inst.visitsE] at hR
    have hp := hx.pairs
    have hfew := hx.few
    have w1 := w64 (2 * x.pairs) (by omega)
    by_cases c1 : i < 1
    · rw [if_pos (.inl c1)] at hR
      subst hR
      refine K_run hB 100 ?_
      simp [go_sem, hσb, carC, c1, w1]
    by_cases c2 : 2 * x.pairs < i
    · rw [if_pos (.inr c2)] at hR
      subst hR
      refine K_run hB 100 ?_
      simp [go_sem, hσb, carC, c1, c2, w1]
    rw [if_neg (by omega)] at hR
    have hh1 := has_pure c.seen i hc.seen
    refine K_run hB 100 ?_
    simp [go_sem, hσb, carC, c1, c2, w1]
    refine K_call rfl rfl rfl (args := [.u c.seen, .i i]) (f := 98) (by simp [go_sem]) (by simp [go_sem, hB]) ((hh1).spec _ _) ?_
    by_cases c3 : hasB c.seen i = true
    · rw [if_pos c3] at hR
      subst hR
      refine K_run hB 100 ?_
      simp [go_sem, c3, hσb, carC]
    rw [if_neg c3] at hR
    have c3' : hasB c.seen i = false := by simpa using c3
    have w2 := w64 (i - x.pairs) (by omega)
    have hh2 := has_pure c.seen (i - x.pairs) hc.seen
    have h0 : 0 ≤ i := by omega
    have g1 := hx.lt (j := i) (by omega)
    have g3 := hx.get (j := i) (by omega)
    have hd := (hx.at (j := i) (by omega) (by omega)).demand
    have hload := hc.load
    have hkle := hc.le
    have w3 := w64 (c.load + (x.stop i).demand) (by omega)
    generalize x.stop i = a at *
    by_cases c4 : x.pairs < i
    · refine K_run hB 100 ?_
      simp [go_sem, c3', c4, hσb, carC, w2]
      refine K_call rfl rfl rfl (args := [.u c.seen, .i (i - x.pairs)]) (f := 98) (by simp [go_sem]) (by simp [go_sem, hB]) ((hh2).spec _ _) ?_
      by_cases c5 : hasB c.seen (i - x.pairs) = true
      · rw [if_neg (by simp [c5])] at hR
        refine K_run hB 100 ?_
        simp [go_sem, c5]
        refine K_drawn [] rfl (by rw [hB]; kernel_rfl) ?_
        by_cases c6 : x.room < c.load + a.demand
        · rw [if_pos c6] at hR
          subst hR
          refine K_run hB 100 ?_
          simp [go_sem, hσb, carC, h0, g1, g3, Stop.t, w3, c6]
        · rw [if_neg c6] at hR
          subst hR
          refine K_run hB 100 ?_
          simp [go_sem, hσb, carC, h0, g1, g3, Stop.t, w3, c6]
      · have c5' : hasB c.seen (i - x.pairs) = false := by simpa using c5
        rw [if_pos ⟨c4, c5'⟩] at hR
        subst hR
        refine K_run hB 100 ?_
        simp [go_sem, c5', hσb, carC]
    · rw [if_neg (by simp [c4])] at hR
      refine K_run hB 100 ?_
      simp [go_sem, c3', c4, hσb, carC]
      refine K_drawn [] rfl (by rw [hB]; kernel_rfl) ?_
      by_cases c6 : x.room < c.load + a.demand
      · rw [if_pos c6] at hR
        subst hR
        refine K_run hB 100 ?_
        simp [go_sem, hσb, carC, h0, g1, g3, Stop.t, w3, c6]
      · rw [if_neg c6] at hR
        subst hR
        refine K_run hB 100 ?_
        simp [go_sem, hσb, carC, h0, g1, g3, Stop.t, w3, c6]
  rw [oput_back] at h
  exact h
def Inst.drive (x : Inst) (c : Car) (i : Int) : Car := { c with spot := i, gone := c.gone + far (x.stop c.spot) (x.stop i) }
theorem drive_spec (x : Inst) (c : Car) (i : Int) {p k : Nat} (hx : x.Fit p) (hc : c.Fit p k) (h1 : 0 ≤ i) (h2 : i ≤ 2 * p) {σ : Nat → AObj} {nx b qt ql : Nat} (hb : b < nx) (hσb : σ b = .box (carC x c qt ql)) (hqt : qt < nx) (hql : ql < nx) :
    CallSpec P 103 [.ptr b 0, .i i] σ nx (.i (c.now + far (x.stop c.spot) (x.stop i))) (oput σ b (.box (carC x (x.drive c i) qt ql))) nx := by
  refine spec_down Try.func103 rfl rfl (by simp [Try.f103]) hb (by simp [bndO, bnd, bnd.bndL, carC, hqt, hql]) (by simp [bnd]) fun hkn B hB hnx hσ => ?_
  simp only [Try.f103] at hB ⊢
  have f1 := hc.spot
  have g1 := hx.lt (j := c.spot) (by omega)
  have g2 := hx.get (j := c.spot) (by omega)
  have g3 := hx.lt (j := i) (by omega)
  have g4 := hx.get (j := i) (by omega)
  have hf := far_pure (x.stop c.spot) (x.stop i)
  have hle := far_le (x.stop c.spot) (x.stop i)
  have hn := hc.now
  have hg := hc.gone
  have hkle := hc.le
  have hfew := hx.few
  rw [Inst.drive]
  generalize x.stop i = z at *
  generalize x.stop c.spot = y at *
  have w1 := w64 (c.gone + far y z) (by omega)
  have w2 := w64 (c.now + far y z) (by omega)
  refine K_run hB 100 ?_
  simp [go_sem]
  refine K_drawn [] rfl (by rw [hB]; kernel_rfl) ?_
  refine K_run hB 100 ?_
  simp [go_sem, hσb, carC, f1.1, g1, g2, h1, g3, g4, Stop.t]
  refine K_dCallP rfl rfl rfl (args := [.agg (y.t.map .t), .agg (z.t.map .t)]) (f := 97) (by simp [go_sem, Stop.t]) (hf) ?_
  refine K_run hB 100 ?_
  simp [go_sem, hσb, carC, w1, w2]
  exact fun j h1 h2 => by simp [h2]
end Go.Proofs.Ytdjbapglfdacmaa

/- When a car is where: it visits a stop. -/
set_option maxRecDepth 4000
namespace Go.Proofs.Ytdjbapglfdacmaa
open Go Go.Proofs.Ytdjbapglfdacmaa.R
structure Rows3 (c : Car) (σ : Nat → AObj) (nx b qt ql : Nat) : Prop where
  tm : σ qt = .arr 3 c.times
  ld : σ ql = .arr 1 (ints c.loads)
  ltT : qt < nx
  ltL : ql < nx
  neT : qt ≠ b
  neL : ql ≠ b
  ne : qt ≠ ql
def Inst.visitC (x : Inst) (c : Car) (i : Int) : Car × Int :=
  if x.visitsE c i ≠ 0 then (c, x.visitsE c i)
  else if (x.stop i).due < max (c.now + far (x.stop c.spot) (x.stop i)) (x.stop i).ready then (x.drive c i, 7)
  else ({ spot := i, now := max (c.now + far (x.stop c.spot) (x.stop i)) (x.stop i).ready + (x.stop i).service, gone := c.gone + far (x.stop c.spot) (x.stop i), load := c.load + (x.stop i).demand, seen := withN c.seen i,
          on := if i ≤ x.pairs then withN c.on i else withoutN c.on (i - x.pairs), times := c.times ++ [[.i (c.now + far (x.stop c.spot) (x.stop i)), .i (max (c.now + far (x.stop c.spot) (x.stop i)) (x.stop i).ready), .i (max (c.now + far (x.stop c.spot) (x.stop i)) (x.stop i).ready + (x.stop i).service)]], loads := c.loads ++ [c.load + (x.stop i).demand] }, 0)
theorem visits_ok {x : Inst} {c : Car} {i : Int} (h : x.visitsE c i = 0) : 1 ≤ i ∧ i ≤ 2 * x.pairs ∧ hasB c.seen i = false ∧ (x.pairs < i → hasB c.seen (i - x.pairs) = true) ∧ c.load + (x.stop i).demand ≤ x.room := by
  rw [Inst.visitsE] at h
  split at h
  · cases h
  split at h
  · cases h
  split at h
  · cases h
  split at h
  · cases h
  rename_i h1 h2 h3 h4
  refine ⟨by omega, by omega, by simpa using h2, fun h => ?_, by omega⟩
  cases hq : hasB c.seen (i - x.pairs) with
  | true => rfl
  | false => exact absurd ⟨h, hq⟩ h3
/-- What a car that visits leaves behind. -/
def VisitQ (x : Inst) (c' : Car) (e : Int) (σ : Nat → AObj) (nx b qt ql : Nat) (r : AV) (σ' : Nat → AObj) (nx' : Nat) : Prop :=
  r = .i e ∧ nx ≤ nx' ∧ ∃ qt' ql', σ' b = .box (carC x c' qt' ql') ∧ Rows3 c' σ' nx' b qt' ql' ∧ (∀ j, j < nx → j ≠ b → j ≠ qt → j ≠ ql → σ' j = σ j) ∧ (qt' = qt ∨ nx ≤ qt') ∧ (ql' = ql ∨ nx ≤ ql')
theorem visit_spec (x : Inst) (c : Car) (i : Int) {p k : Nat} (hx : x.Fit p) (hc : c.Fit p k) {σ : Nat → AObj} {nx b qt ql : Nat} (hb : b < nx) (hσb : σ b = .box (carC x c qt ql)) (hr3 : Rows3 c σ nx b qt ql) :
    CallQ P 84 [.ptr b 0, .i i] σ nx (VisitQ x (x.visitC c i).1 (x.visitC c i).2 σ nx b qt ql) := by
  generalize hR : x.visitC c i = R
  refine spec_of Try.func84 rfl rfl (by simp [Try.f84]) fun B hB hnx hσ => ?_
  simp only [Try.f84] at hB ⊢
  have hvs := visits_spec x c i hx hc hb hσb hr3.ltT hr3.ltL
  rw [Inst.visitC] at hR
  have hok := visits_ok (x := x) (c := c) (i := i)
  generalize x.visitsE c i = e at *
  refine K_run hB 100 ?_
  simp [go_sem]
  refine K_call rfl rfl rfl (args := [.ptr b 0, .i i]) (f := 102) (by simp [go_sem]) (by simp [go_sem, hB]) hvs ?_
  by_cases c0 : e = 0
  rotate_left
  · rw [if_pos c0] at hR
    subst hR
    refine K_run hB 100 ?_
    simp [go_sem, c0]
    exact ⟨rfl, Nat.le_refl _, qt, ql, hσb, hr3, fun j _ _ _ _ => rfl, .inl rfl, .inl rfl⟩
  rw [if_neg (by simp [c0])] at hR
  obtain ⟨k1, k2, k3, k4, k5⟩ := hok c0
  have hp := hx.pairs
  have hfew := hx.few
  have g3 := hx.lt (j := i) (by omega)
  have g4 := hx.get (j := i) (by omega)
  have hds : ∀ {σ : Nat → AObj} {nx : Nat}, b < nx → σ b = .box (carC x c qt ql) → qt < nx → ql < nx → _ := fun {σ nx} => drive_spec x c i hx hc (by omega) (by omega) (σ := σ) (nx := nx) (b := b) (qt := qt) (ql := ql)
  have hfi := hx.at (j := i) (by omega) (by omega)
  have hfar := far_le (x.stop c.spot) (x.stop i)
  generalize hzz : x.stop i = z at *
  generalize hdd : far (x.stop c.spot) z = d at *
  have hn := hc.now
  have hg := hc.gone
  have hkle := hc.le
  have hne : ¬ b = nx := by omega
  have hne2 : ¬ nx = b := by omega
  have h0 : 0 ≤ i := by omega
  refine K_run hB 100 ?_
  simp [go_sem, c0, hσb, carC, h0, g3, g4, Stop.t]
  refine K_call rfl rfl rfl (args := [.ptr b 0, .i i]) (f := 103) (by simp [go_sem]) (by simp [go_sem, hB]) (hds (by simp only; omega) (by simp [oput, hne, hσb]) (by have := hr3.ltT; simp only; omega) (by have := hr3.ltL; simp only; omega)) ?_
  have hcd : x.drive c i = { c with spot := i, gone := c.gone + d } := by rw [Inst.drive, hzz, hdd]
  have hdc : carC x (x.drive c i) qt ql = [.t (.i x.pairs), .t (.i x.cars), .t (.i x.room), .t (.sl (x.stops.map Stop.t)), .i i, .i c.now, .i (c.gone + d), .i c.load, .u c.seen, .u c.on, .ref qt, .ref ql] := by rw [hcd]; rfl
  have f1 := hfi.ready
  have f2 := hfi.service
  have f3 := hfi.due
  have f4 := hfi.demand
  have f5 := hc.load
  generalize hbe : max (c.now + d) z.ready = be at *
  have w1 := w64 (be + z.service) (by omega)
  have w2 := w64 (c.load + z.demand) (by omega)
  by_cases c1 : z.due < be
  · rw [if_pos c1] at hR
    subst hR
    refine K_run hB 100 ?_
    simp [go_sem, hne, hne2, hbe, c1]
    rw [hdc]
    exact ⟨by omega, rfl, by omega, qt, ql, by simp [oput, hne, show ¬ b = nx + 1 by omega, hcd, carC], ⟨by simp [oput, show ¬ qt = nx by have := hr3.ltT; omega, show ¬ qt = nx + 1 by have := hr3.ltT; omega, hr3.neT, hr3.tm, hcd], by simp [oput, show ¬ ql = nx by have := hr3.ltL; omega, show ¬ ql = nx + 1 by have := hr3.ltL; omega, hr3.neL, hr3.ld, hcd], by have := hr3.ltT; omega, by have := hr3.ltL; omega, hr3.neT, hr3.neL, hr3.ne⟩, fun j h1 h2 h3 h4 => by simp [oput, h2, show ¬ j = nx by omega, show ¬ j = nx + 1 by omega], .inl rfl, .inl rfl⟩
  rw [if_neg c1] at hR
  refine K_run hB 100 ?_
  simp [go_sem, hne, hne2, hbe, c1, w1, show ¬ b = nx + 1 by omega, show ¬ nx = nx + 1 by omega]
  have ht1 := hr3.ltT
  have ht2 := hr3.ltL
  have ht3 := hr3.neT
  have ht4 := hr3.neL
  have ht5 := hr3.ne
  have ht6 := hr3.tm
  have ht7 := hr3.ld
  obtain ⟨σ1, hσ1⟩ : ∃ σ1 : Nat → AObj, σ1 = oput (oput (oput σ nx (.box [.i z.x, .i z.y, .i z.demand, .i z.ready, .i z.due, .i z.service])) (nx + 1) (.box [.i (c.now + d), .i be, .i (be + z.service)])) b (.box [.t (.i x.pairs), .t (.i x.cars), .t (.i x.room), .t (.sl (x.stops.map Stop.t)), .i i, .i c.now, .i (c.gone + d), .i c.load, .u c.seen, .u c.on, .ref qt, .ref ql]) := ⟨_, rfl⟩
  have s1 : σ1 b = .box [.t (.i x.pairs), .t (.i x.cars), .t (.i x.room), .t (.sl (x.stops.map Stop.t)), .i i, .i c.now, .i (c.gone + d), .i c.load, .u c.seen, .u c.on, .ref qt, .ref ql] := by rw [hσ1]; simp [oput]
  have s2 : σ1 (nx + 1) = .box [.i (c.now + d), .i be, .i (be + z.service)] := by rw [hσ1]; simp [oput, show ¬ nx + 1 = b by omega]
  have s3 : σ1 nx = .box [.i z.x, .i z.y, .i z.demand, .i z.ready, .i z.due, .i z.service] := by rw [hσ1]; simp [oput, hne2]
  have s4 : ∀ j, j < nx → j ≠ b → σ1 j = σ j := fun j h1 h2 => by rw [hσ1]; simp [oput, h2, show ¬ j = nx by omega, show ¬ j = nx + 1 by omega]
  refine K_impC (t := ⟨sl [(0, .ptr b 0), (1, .i i), (6, .ptr nx 0), (8, .ptr (nx + 1) 0)], σ1, nx + 1 + 1⟩) (Imp.slots (by simp [go_sem]) ?_ rfl) ?_
  · rw [hσ1]
    funext j
    simp only [oput, hdc]
    by_cases e1 : j = b
    · simp [e1, hne, show ¬ b = nx + 1 by omega]
    · by_cases e2 : j = nx + 1
      · simp [e2, show ¬ nx + 1 = b by omega]
      · by_cases e3 : j = nx <;> simp [e1, e2, e3]
  have hw1 := with_pure c.seen i hc.seen
  have hw2 := with_pure c.on i hc.on
  have hw3 := without_pure c.on (i - x.pairs)
  have w3 := w64 (i - x.pairs) (by omega)
  obtain ⟨on2, hon⟩ : ∃ on2, on2 = (if i ≤ x.pairs then withN c.on i else withoutN c.on (i - x.pairs)) := ⟨_, rfl⟩
  rw [← hon] at hR
  obtain ⟨σ2, hσ2⟩ : ∃ σ2 : Nat → AObj, σ2 = oput σ1 b (.box [.t (.i x.pairs), .t (.i x.cars), .t (.i x.room), .t (.sl (x.stops.map Stop.t)), .i i, .i (be + z.service), .i (c.gone + d), .i (c.load + z.demand), .u (withN c.seen i), .u on2, .ref qt, .ref ql]) := ⟨_, rfl⟩
  refine K_drawnF [20, 23, 26] [1, 2, 9, 10, 11] rfl (by rw [hB]; kernel_rfl) (by kernel_rfl) fun ht hf' => ?_
  refine K_run hB 100 ?_
  simp [go_sem, ht, hf', s1, s2, s3, w2]
  refine K_dCallP rfl rfl rfl (args := [.u c.seen, .i i]) (f := 101) (by simp [go_sem]) (hw1) ?_
  refine K_run hB 100 ?_
  simp [go_sem, ht, hf', s1, s2, s3, w2, hne, hne2, show ¬ nx + 1 = b by omega]
  by_cases c2 : i ≤ x.pairs
  case' pos =>
    rw [if_pos c2] at hon
    simp [go_sem, c2, s1]
    refine K_call rfl rfl rfl (args := [.u c.on, .i i]) (f := 101) (by simp [go_sem]) (by simp [go_sem, hB]) ((hw2).spec _ _) ?_
    refine K_run hB 100 ?_
    simp [go_sem, s1]
  case' neg =>
    rw [if_neg c2] at hon
    simp [go_sem, c2, s1]
    refine K_drawnT [15] rfl (by rw [hB]; kernel_rfl) (by kernel_rfl) fun ht => ?_
    refine K_run hB 100 ?_
    simp [go_sem, ht, s1, w3]
    refine K_dCallP rfl rfl rfl (args := [.u c.on, .i (i - x.pairs)]) (f := 100) (by simp [go_sem]) (hw3) ?_
    refine K_run hB 100 ?_
    simp [go_sem, ht, s1]
  all_goals
    have u1 : σ2 b = .box [.t (.i x.pairs), .t (.i x.cars), .t (.i x.room), .t (.sl (x.stops.map Stop.t)), .i i, .i (be + z.service), .i (c.gone + d), .i (c.load + z.demand), .u (withN c.seen i), .u on2, .ref qt, .ref ql] := by rw [hσ2]; simp [oput]
    have u2 : σ2 (nx + 1) = .box [.i (c.now + d), .i be, .i (be + z.service)] := by rw [hσ2]; simp [oput, s2, show ¬ nx + 1 = b by omega]
    have u3 : σ2 qt = .arr 3 c.times := by rw [hσ2]; simp [oput, ht3, s4 qt ht1 ht3, ht6]
    have u4 : σ2 ql = .arr 1 (ints c.loads) := by rw [hσ2]; simp [oput, ht4, s4 ql ht2 ht4, ht7]
    have u5 : ∀ j, j < nx → j ≠ b → σ2 j = σ j := fun j h1 h2 => by rw [hσ2]; simp [oput, h2, s4 j h1 h2]
    refine K_impC (t := ⟨sl [(0, .ptr b 0), (8, .ptr (nx + 1) 0)], σ2, nx + 1 + 1⟩) (Imp.slots (by simp [go_sem]) ?_ rfl) ?_
    · rw [hσ2]
      funext j
      by_cases e1 : j = b <;> simp [oput, e1, hon]
    refine K_drawnGM [8, 18, 21, 24] [0, 1, 9, 10, 11, 12, 13, 14, 15, 16, 17] [] [⟨12, fun t => if t = 109 then .ptr b 11 else .any, .ref ql, some (noObj, 0)⟩, ⟨16, fun t => if t = 113 then .ptr b 7 else .any, .i (c.load + z.demand), some (noObj, 0)⟩] rfl (by rw [hB]; kernel_rfl) (by kernel_rfl) (fun q hq => ?_) fun ht hf' => ?_
    · simp only [List.mem_cons, List.not_mem_nil, or_false] at hq
      rcases hq with rfl | rfl
      · exact ⟨_, rfl, by simp [go_sem], by simp [go_sem, u1]⟩
      · exact ⟨_, rfl, by simp [go_sem], by simp [go_sem, u1]⟩
    have hm1 : c.times.length + 1 ≤ mostLen := by rw [hc.times]; show k + 1 ≤ 4294967296; omega
    have hm2 : (ints c.loads).length + 1 ≤ mostLen := by rw [ints, List.length_map, hc.loads]; show k + 1 ≤ 4294967296; omega
    have hb1 : ¬ b = qt := fun e => ht3 e.symm
    have hb2 : ¬ b = ql := fun e => ht4 e.symm
    have hb3 : ¬ ql = qt := fun e => ht5 e.symm
    have hb4 : ¬ b = nx + 1 + 1 := by omega
    have hb5 : ¬ ql = nx + 1 + 1 := by omega
    refine K_run hB 12 ?_
    simp [go_sem, ht, hf', u1, u2, u3, u4, hm1, hb1, hb2, hb3, hb4, hb5]
    refine K_dMark (v := .ref ql) (by simp [go_sem]) (by simp [go_sem, u1, hb1, hb4]) ⟨rfl, ⟨12, fun t => if t = 109 then .ptr b 11 else .any, .ref ql, some (noObj, 0)⟩, by simp, by simp, rfl, rfl, fun t h => ?_⟩ ?_
    · have : t = 109 := by simpa [looksOf, Oper.looksAt, Op.operands] using h
      subst this
      simp [go_sem]
    refine K_run hB 3 ?_
    simp [go_sem]
    refine K_dMark (v := .i (c.load + z.demand)) (by simp [go_sem]) (by simp [go_sem, u1, hb1, hb4]) ⟨rfl, ⟨16, fun t => if t = 113 then .ptr b 7 else .any, .i (c.load + z.demand), some (noObj, 0)⟩, by simp, by simp, rfl, rfl, fun t h => ?_⟩ ?_
    · have : t = 113 := by simpa [looksOf, Oper.looksAt, Op.operands] using h
      subst this
      simp [go_sem]
    refine K_run hB 100 ?_
    simp [go_sem, ht, hf', u1, u2, u3, u4, hm2, hb1, hb2, hb3, hb4, hb5, show ¬ b = nx + 1 + 1 + 1 by omega]
    refine ⟨.inl (by kernel_rfl), by omega, ?_⟩
    rw [← hR]
    exact ⟨rfl, by omega, nx + 1 + 1, nx + 1 + 1 + 1, by simp [oput, hb5, show ¬ b = nx + 1 + 1 + 1 by omega, carC], ⟨by simp [oput, show ¬ nx + 1 + 1 = b by omega, show ¬ nx + 1 + 1 = ql by omega], by simp [oput, show ¬ nx + 1 + 1 + 1 = b by omega, ints], by omega, by omega, by omega, by omega, by omega⟩,
      fun j h1 h2 h3 h4 => by simp [oput, h2, h3, h4, show ¬ j = nx + 1 + 1 by omega, show ¬ j = nx + 1 + 1 + 1 by omega, u5 j h1 h2], .inr (by omega), .inr (by omega)⟩
end Go.Proofs.Ytdjbapglfdacmaa

/- When a car is where: a whole route. -/
set_option maxRecDepth 4000
namespace Go.Proofs.Ytdjbapglfdacmaa
open Go Go.Proofs.Ytdjbapglfdacmaa.R
theorem visitC_fit {x : Inst} {c : Car} {i : Int} {p k : Nat} (hx : x.Fit p) (hc : c.Fit p k) (h : (x.visitC c i).2 = 0) : (x.visitC c i).1.Fit p (k + 1) := by
  have hok := visits_ok (x := x) (c := c) (i := i)
  rw [Inst.visitC] at h ⊢
  by_cases c0 : x.visitsE c i = 0
  rotate_left
  · rw [if_pos c0] at h; exact absurd h c0
  rw [if_neg (by simp [c0])] at h ⊢
  by_cases c1 : (x.stop i).due < max (c.now + far (x.stop c.spot) (x.stop i)) (x.stop i).ready
  · rw [if_pos c1] at h; cases h
  rw [if_neg c1]
  obtain ⟨k1, k2, k3, k4, k5⟩ := hok c0
  have hp := hx.pairs
  have hfi := hx.at (j := i) (by omega) (by omega)
  have hfar := far_le (x.stop c.spot) (x.stop i)
  have h1 := hc.now
  have h2 := hc.gone
  have h3 := hc.load
  have h4 := hfi.ready
  have h5 := hfi.due
  have h6 := hfi.service
  have h7 := hfi.demand
  have h8 := hx.room
  have h9 := hx.few
  constructor
  · simp only; omega
  · simp only; omega
  · simp only; omega
  · simp only; omega
  · exact withN_lt hc.seen _
  · simp only
    split
    · exact withN_lt hc.on _
    · exact withoutN_lt _ _
  · simp [hc.times]
  · simp [hc.loads]
  · intro y hy
    simp only [List.mem_append, List.mem_singleton] at hy
    rcases hy with hy | rfl
    · exact hc.three y hy
    · rfl
  · have h10 := hc.few
    obtain ⟨j, rfl⟩ : ∃ j : Nat, i = j := ⟨i.toNat, by omega⟩
    have := filter_lt (p := fun j : Nat => decide (1 ≤ j) && !hasB c.seen (j : Int)) (q := fun m : Nat => decide (1 ≤ m) && !hasB (withN c.seen (j : Int)) (m : Int)) (List.range (2 * p + 1)) (a := j) (List.mem_range.2 (by omega)) (by rw [k3]; simp; omega) (by rw [has_withN (by omega)]; simp) (fun m => by
      rw [has_withN (by omega)]
      simp only [Bool.and_eq_true, Bool.not_eq_true', Bool.or_eq_false_iff]
      exact fun h => ⟨h.1, h.2.1⟩)
    simp only
    omega
def Inst.homeC (x : Inst) (c : Car) : Car × Int :=
  if c.on ≠ 0 then (c, 8) else if (x.stop 0).due < c.now + far (x.stop c.spot) (x.stop 0) then (x.drive c 0, 7) else (x.drive c 0, 0)
theorem homeC_times (x : Inst) (c : Car) : (x.homeC c).1.times = c.times ∧ (x.homeC c).1.loads = c.loads := by
  rw [Inst.homeC]
  split
  · exact ⟨rfl, rfl⟩
  · split <;> exact ⟨rfl, rfl⟩
theorem homeC_spec (x : Inst) (c : Car) {p k : Nat} (hx : x.Fit p) (hc : c.Fit p k) {σ : Nat → AObj} {nx b qt ql : Nat} (hb : b < nx) (hσb : σ b = .box (carC x c qt ql)) (hqt : qt < nx) (hql : ql < nx) :
    CallSpec P 85 [.ptr b 0] σ nx (.i (x.homeC c).2) (oput σ b (.box (carC x (x.homeC c).1 qt ql))) nx := by
  generalize hR : x.homeC c = R
  refine spec_down Try.func85 rfl rfl (by simp [Try.f85]) hb (by simp [bndO, bnd, bnd.bndL, carC, hqt, hql]) (by simp [bnd]) fun hkn B hB hnx hσ => ?_
  simp only [Try.f85] at hB ⊢
  have hds := drive_spec x c 0 hx hc (by omega) (by omega) hb hσb hqt hql
  rw [Inst.homeC] at hR
  by_cases c0 : c.on = 0
  rotate_left
  · rw [if_pos c0] at hR
    subst hR
    have c0' : ¬ (c.on : Int) = 0 := by omega
    refine K_run hB 100 ?_
    simp [go_sem, hσb, carC, c0, c0']
  rw [if_neg (by simp [c0])] at hR
  have g1 := hx.lt (j := 0) (by omega)
  have g3 := hx.get0
  have hdr : x.drive c 0 = { c with spot := 0, gone := c.gone + far (x.stop c.spot) (x.stop 0) } := rfl
  generalize x.stop 0 = z at *
  generalize far (x.stop c.spot) z = d at *
  have g4 : (0 : Int) < x.stops.length := g1
  have g5 : 0 < x.stops.length := by omega
  refine K_run hB 100 ?_
  simp [go_sem, hσb, carC, c0]
  refine K_drawnGM [1] [2, 3, 4, 5, 6, 7, 8, 9] [] [⟨6, fun t => if t = 13 then .ptr b 3 else .any, .t (.sl (x.stops.map Stop.t)), some (noObj, 0)⟩] rfl (by rw [hB]; kernel_rfl) (by kernel_rfl) (fun q hq => ?_) fun ht hf' => ?_
  · simp only [List.mem_cons, List.not_mem_nil, or_false] at hq
    subst hq
    exact ⟨_, rfl, by simp [go_sem], by simp [go_sem, hσb, carC]⟩
  refine K_run hB 1 ?_
  simp [go_sem, hσb, carC]
  refine K_dCall rfl rfl rfl (args := [.ptr b 0, .i 0]) (f := 103) (by simp [go_sem]) hds (by decide) (okPends_does (by simp [go_sem, carC])) ?_
  refine K_run hB 4 ?_
  simp [go_sem, carC]
  refine K_dMark (v := .t (.sl (x.stops.map Stop.t))) (by simp [go_sem]) (by simp [go_sem, carC]) ⟨rfl, ⟨6, fun t => if t = 13 then .ptr b 3 else .any, .t (.sl (x.stops.map Stop.t)), some (noObj, 0)⟩, by simp, by simp, rfl, rfl, fun t h => ?_⟩ ?_
  · have : t = 13 := by simpa [looksOf, Oper.looksAt, Op.operands] using h
    subst this
    simp [go_sem]
  refine K_run hB 2 ?_
  simp [go_sem, g4, g5, g3, Stop.t]
  refine K_dAny (v := .i z.due) (by simp [go_sem]) (fun σ nx => by simp [go_sem, Stop.t, g3, g5]) ?_
  by_cases c1 : z.due < c.now + d
  · rw [if_pos c1] at hR
    subst hR
    refine K_run hB 100 ?_
    simp [go_sem, c1, hdr, carC]
    exact fun j h1 h2 h3 => absurd h3 h2
  · rw [if_neg c1] at hR
    subst hR
    refine K_run hB 100 ?_
    simp [go_sem, c1, hdr, carC]
    exact fun j h1 h2 h3 => absurd h3 h2
def Inst.car0 (x : Inst) : Car := ⟨0, (x.stop 0).ready, 0, 0, 0, 0, [], []⟩
theorem car0_fit {x : Inst} {p : Nat} (hx : x.Fit p) : x.car0.Fit p 0 := by
  have h1 := (hx.at (j := 0) (by omega) (by omega)).ready
  refine ⟨by simp only [Inst.car0]; omega, by simp only [Inst.car0]; omega, by simp only [Inst.car0]; omega, by simp only [Inst.car0]; omega, by simp [Inst.car0], by simp [Inst.car0], rfl, rfl, (fun y hy => by cases hy), ?_⟩
  have := filter_lt (p := fun _ : Nat => true) (q := fun j : Nat => decide (1 ≤ j) && !hasB x.car0.seen (j : Int)) (List.range (2 * p + 1)) (a := 0) (List.mem_range.2 (by omega)) rfl (by simp) (fun _ _ => rfl)
  rw [List.filter_eq_self.2 (fun _ _ => rfl), List.length_range] at this
  omega
theorem begin_spec (x : Inst) {p : Nat} (hx : x.Fit p) (σ : Nat → AObj) (nx : Nat) :
    CallQ P 83 [x.a] σ nx fun r σ' nx' => ∃ b, r = .ptr b 0 ∧ nx ≤ b ∧ b < nx' ∧ σ' b = .box [.t (.i x.pairs), .t (.i x.cars), .t (.i x.room), .t (.sl (x.stops.map Stop.t)), .i 0, .i (x.stop 0).ready, .i 0, .i 0, .u 0, .u 0, .fsl [], .fsl []] ∧ ∀ j, j < nx → σ' j = σ j := by
  refine spec_of Try.func83 rfl rfl (by simp [Try.f83]) fun B hB hnx hσ => ?_
  simp only [Try.f83] at hB ⊢
  have g1 := hx.lt (j := 0) (by omega)
  have g3 := hx.get0
  generalize x.stop 0 = z at *
  have g4 : (0 : Int) < x.stops.length := g1
  have g5 : 0 < x.stops.length := by omega
  refine K_run hB 100 ?_
  simp [go_sem, Inst.a]
  refine K_drawnT [7] rfl (by rw [hB]; kernel_rfl) (by kernel_rfl) fun ht => ?_
  refine K_run hB 100 ?_
  simp [go_sem, ht, g4, g5, g3, Stop.t]
  exact ⟨by omega, fun j h1 => by simp [show ¬ j = nx by omega, show ¬ j = nx + 1 by omega]⟩
def Inst.runC (x : Inst) : List Int → Car → Car × Int
  | [], c => x.homeC c
  | i :: r, c => if (x.visitC c i).2 ≠ 0 then x.visitC c i else x.runC r (x.visitC c i).1
/-- What a route that is gone leaves behind. -/
def RunQ (x : Inst) (R : Car × Int) (σ : Nat → AObj) (nx : Nat) (r : AV) (σ' : Nat → AObj) (nx' : Nat) : Prop :=
  nx ≤ nx' ∧ (∀ j, j < nx → σ' j = σ j) ∧ ((R.2 ≠ 0 ∧ r = .tup [.t (.v (.pointer none)), .i R.2]) ∨ (R.2 = 0 ∧ ∃ b qt ql, r = .tup [.ptr b 0, .i 0] ∧ b < nx' ∧ σ' b = .box (carC x R.1 qt ql) ∧ Rows3 R.1 σ' nx' b qt ql))
structure RX where
  lb : Nat
  k : Nat
  c : Car
  e : Int
  b : Nat
  qt : Nat
  ql : Nat
  σ : Nat → AObj
  nx : Nat
structure RX.I (x : Inst) (p : Nat) (route : List Int) (R : Car × Int) (σ0 : Nat → AObj) (nx0 : Nat) (a : RX) : Prop where
  go : (a.lb = 1 ∧ a.k ≤ route.length ∧ a.c.Fit p a.k ∧ a.b < a.nx ∧ nx0 < a.b ∧ nx0 < a.qt ∧ nx0 < a.ql ∧ a.σ a.b = .box (carC x a.c a.qt a.ql) ∧ Rows3 a.c a.σ a.nx a.b a.qt a.ql ∧ x.runC (route.drop a.k) a.c = R) ∨ (a.lb = 0 ∧ a.e = R.2 ∧ R.2 ≠ 0)
  old : ∀ j, j ≤ nx0 → a.σ j = σ0 j
  nx : nx0 < a.nx
def RX.st (route : List Int) (a : RX) : St := ⟨sl (if a.lb = 1 then [(1, .t (.sl (ints route))), (6, .ptr a.b 0), (7, .i a.k)] else [(8, .i a.e)]), a.σ, a.nx⟩
def RX.m (route : List Int) (a : RX) : Nat := if a.lb = 1 then route.length + 1 - a.k else 0
theorem run_spec (x : Inst) (route : List Int) (hm : x.may = true) (hr : route.length < 2 ^ 63) (σ : Nat → AObj) (nx : Nat) :
    CallQ P 60 [x.a, .t (.sl (ints route))] σ nx (RunQ x (x.runC route x.car0) σ nx) := by
  generalize hR : x.runC route x.car0 = R
  obtain ⟨p, hx⟩ := x.fit hm
  have hlen := hx.len
  have hfew := hx.few
  have hil : (ints route).length = route.length := List.length_map _
  refine spec_of Try.func60 rfl rfl (by simp [Try.f60]) fun B hB hnx hσ => ?_
  simp only [Try.f60] at hB ⊢
  refine K_run hB 100 ?_
  simp [go_sem, Inst.a]
  obtain ⟨σ1, hσ1⟩ : ∃ σ1 : Nat → AObj, σ1 = oput σ nx (.box x.cs) := ⟨_, rfl⟩
  refine K_scopeF RX.lb (RX.I x p route R σ1 nx) (RX.st route) (RX.m route) (fun a ha => ?_) ?_ ?_
  · rcases ha.go with ⟨h, _⟩ | ⟨h, _⟩ <;> rw [h] <;> rfl
  · rintro ⟨lb, k, c, e, b, qt, ql, σ', nx'⟩ ⟨hgo, hold, hnx'⟩ fall
    simp only at hgo hold hnx'
    rcases hgo with ⟨rfl, g1, g2, g3, g4, g5, g6, g7, g8, g9⟩ | ⟨rfl, rfl, g2⟩
    · show Kp P B (.code (tailC _ 1) :: _) _ _ _
      simp [tailC, findLabel]
      refine K_run hB 100 ?_
      simp [go_sem, RX.st, hil]
      refine fork_dec (fun hk => ?_) (fun hk => ?_)
      · have hget := ints_getS route hk
        rw [List.drop_eq_getElem_cons hk, Inst.runC] at g9
        have hfit := visitC_fit (i := route[k]) hx g2
        have hvs := visit_spec x c route[k] hx g2 g3 g7 g8
        have hkk : IntKind.i64.wrap ((k : Int) + 1) = ((k + 1 : Nat) : Int) := by rw [w64 ((k : Int) + 1) (by omega)]; rfl
        generalize route[k] = i at *
        generalize x.visitC c i = V at *
        simp [go_sem, hil, hk, hget]
        refine K_callQ rfl rfl rfl (args := [.ptr b 0, .i i]) (f := 84) (by simp [go_sem]) (by simp [go_sem, hB]) hvs ?_
        rintro r σ2 nx2 ⟨rfl, v1, qt2, ql2, v2, v3, v4, v5, v6⟩
        have hold2 : ∀ j, j ≤ nx → σ2 j = σ1 j := fun j hj => by
          rw [v4 j (by omega) (by omega) (by omega) (by omega)]
          exact hold j hj
        by_cases c1 : V.2 = 0
        · rw [if_neg (by simp [c1])] at g9
          refine K_run hB 100 ?_
          simp [go_sem, c1, hkk]
          refine ⟨⟨1, k + 1, V.1, 0, b, qt2, ql2, σ2, nx2⟩, ⟨.inl ⟨rfl, by simp only; omega, hfit c1, by simp only; omega, g4, by simp only; omega, by simp only; omega, v2, v3, g9⟩, hold2, by simp only; omega⟩, rfl, Imp.slots (by simp [go_sem, RX.st]) rfl rfl, by simp only [RX.m, if_true]; omega⟩
        · rw [if_pos c1] at g9
          subst g9
          refine K_run hB 100 ?_
          simp [go_sem, c1]
          refine ⟨⟨0, 0, c, V.2, b, qt2, ql2, σ2, nx2⟩, ⟨.inr ⟨rfl, rfl, c1⟩, hold2, by simp only; omega⟩, rfl, Imp.slots (by simp [go_sem, RX.st]) rfl rfl, by simp [RX.m]; omega⟩
      · have : k = route.length := by omega
        subst this
        rw [List.drop_length, Inst.runC] at g9
        have hhs := homeC_spec x c hx g2 g3 g7 g8.ltT g8.ltL
        have hht := homeC_times x c
        rw [g9] at hhs hht
        simp [go_sem]
        refine K_call rfl rfl rfl (args := [.ptr b 0]) (f := 85) (by simp [go_sem]) (by simp [go_sem, hB]) hhs ?_
        by_cases c1 : R.2 = 0
        · refine K_run hB 100 ?_
          simp [go_sem, c1]
          have hne : ∀ j, j < nx → j ≠ b := fun j hj => by omega
          refine ⟨by omega, by omega, fun j hj => ?_, .inr ⟨c1, b, qt, ql, rfl, g3, by simp [oput], ⟨?_, ?_, g8.ltT, g8.ltL, g8.neT, g8.neL, g8.ne⟩⟩⟩
          · have := hold j (by omega)
            simp [oput, hne j hj, this, hσ1, show ¬ j = nx by omega]
          · simp [oput, g8.neT, g8.tm, hht.1]
          · simp [oput, g8.neL, g8.ld, hht.2]
        · refine K_run hB 9 ?_
          simp [go_sem, c1]
          refine fall 0 _ ?_
          refine ⟨⟨0, 0, c, R.2, b, qt, ql, _, nx'⟩, ⟨.inr ⟨rfl, rfl, c1⟩, fun j hj => ?_, by simp only; omega⟩, rfl, Imp.slots (by simp [go_sem, RX.st]) rfl rfl, by simp [RX.m]⟩
          simp only at hj ⊢
          have := hold j hj
          simp [oput, show ¬ j = b by omega, this]
    · show Kp P B (.code (tailC _ 0) :: _) _ _ _
      simp [tailC, findLabel]
      refine K_run hB 100 ?_
      simp [go_sem, RX.st]
      exact ⟨by omega, by omega, fun j hj => by rw [hold j (by omega), hσ1]; simp [oput, show ¬ j = nx by omega], .inl ⟨g2, rfl⟩⟩
  · intro J hJ
    refine K_run hB 100 ?_
    simp [go_sem]
    refine K_call rfl rfl rfl (args := [x.a]) (f := 13) (by simp [go_sem, Inst.a]) (by simp [go_sem, hB]) ((may_pure x (by omega)).spec _ _) ?_
    refine K_run hB 100 ?_
    simp [go_sem, hm]
    refine K_callQ rfl rfl rfl (args := [x.a]) (f := 83) (by simp [go_sem, Inst.a]) (by simp [go_sem, hB]) (begin_spec x hx _ _) ?_
    rintro r σ2 nx2 ⟨b, rfl, b1, b2, b3, b4⟩
    simp only at b1 b2 b3 b4
    refine K_run hB 4 ?_
    simp [go_sem]
    obtain ⟨σ3, hσ3⟩ : ∃ σ3 : Nat → AObj, σ3 = oput (oput (oput (oput σ2 b (.box [.t (.i x.pairs), .t (.i x.cars), .t (.i x.room), .t (.sl (x.stops.map Stop.t)), .i 0, .i (x.stop 0).ready, .i 0, .i 0, .u 0, .u 0, .ref nx2, .fsl []])) nx2 (.arr 3 [])) b (.box (carC x x.car0 nx2 (nx2 + 1)))) (nx2 + 1) (.arr 1 []) := ⟨_, rfl⟩
    refine hJ 1 _ ⟨⟨1, 0, x.car0, 0, b, nx2, nx2 + 1, σ3, nx2 + 2⟩, ⟨.inl ⟨rfl, Nat.zero_le _, car0_fit hx, by simp only; omega, by simp only; omega, by simp only; omega, by simp only; omega, ?_, ⟨?_, ?_, by simp only; omega, by simp only; omega, by simp only; omega, by simp only; omega, by simp only; omega⟩, hR⟩, ?_, by simp only; omega⟩, rfl, ?_⟩
    · simp [hσ3, oput, show ¬ b = nx2 + 1 by omega]
    · simp [hσ3, oput, show ¬ nx2 = b by omega, Inst.car0]
    · simp [hσ3, oput, Inst.car0, ints]
    · intro j hj
      simp only at hj ⊢
      simp only [hσ3, oput]
      rw [if_neg (by omega), if_neg (by omega), if_neg (by omega), if_neg (by omega), hσ1]
      exact b4 j (by omega)
    · refine (Imp.ownB (b := b) (off := 10) (sz := 3) (by simpa using b3) rfl).trans ((Imp.ownB (b := b) (off := 11) (sz := 1) (cs := [.t (.i x.pairs), .t (.i x.cars), .t (.i x.room), .t (.sl (x.stops.map Stop.t)), .i 0, .i (x.stop 0).ready, .i 0, .i 0, .u 0, .u 0, .ref nx2, .fsl []]) (by simp [oput, show ¬ b = nx2 by omega]) rfl).trans (Imp.slots (by simp [go_sem, RX.st]) ?_ rfl))
      rw [hσ3]; rfl
theorem run_no_spec (x : Inst) (route : List Int) (hm : x.may = false) (hl : x.stops.length < 2 ^ 63) (σ : Nat → AObj) (nx : Nat) :
    CallQ P 60 [x.a, .t (.sl (ints route))] σ nx fun r σ' nx' => r = .tup [.t (.v (.pointer none)), .i 1] := by
  refine spec_of Try.func60 rfl rfl (by simp [Try.f60]) fun B hB hnx hσ => ?_
  simp only [Try.f60] at hB ⊢
  refine K_run hB 100 ?_
  simp [go_sem, Inst.a]
  refine K_scopeL (α := Unit) (fun _ => 0) (fun _ => False) (fun _ => ⟨fun _ => .any, σ, nx⟩) (fun _ => 0) (fun _ h => h.elim) ?_ (fun _ h => h.elim)
  refine K_run hB 100 ?_
  simp [go_sem]
  refine K_call rfl rfl rfl (args := [x.a]) (f := 13) (by simp [go_sem, Inst.a]) (by simp [go_sem, hB]) ((may_pure x hl).spec _ _) ?_
  refine K_run hB 100 ?_
  simp [go_sem, hm]
def Inst.times (x : Inst) (route : List Int) : List (List T) × Int × Int :=
  if x.may = false then ([], 0, 1) else if (x.runC route x.car0).2 ≠ 0 then ([], 0, (x.runC route x.car0).2) else ((x.runC route x.car0).1.times, (x.runC route x.car0).1.gone, 0)
def timesA (r : List (List T) × Int × Int) : AV := .tup [.t (.sl r.1), .i r.2.1, .i r.2.2]
theorem times_pure (x : Inst) (route : List Int) (hl : x.stops.length < 2 ^ 63) (hr : route.length < 2 ^ 63) : Pure P 36 [x.a, .t (.sl (ints route))] (timesA (x.times route)) := by
  generalize hR : x.times route = R
  refine pure_of Try.func36 rfl rfl (by simp [Try.f36]) (by simp [bnd, bnd.bndL, Inst.a]) (by simp [bnd, bnd.bndL, timesA]) fun B hB hnx => ?_
  simp only [Try.f36] at hB ⊢
  rw [Inst.times] at hR
  refine K_run hB 100 ?_
  simp [go_sem, Inst.a]
  cases hm : x.may with
  | false =>
    rw [if_pos hm] at hR
    refine K_callQ rfl rfl rfl (args := [x.a, .t (.sl (ints route))]) (f := 60) (by simp [go_sem, Inst.a]) (by simp [go_sem, hB]) (run_no_spec x route hm hl _ _) ?_
    rintro r σ' nx' rfl
    subst hR
    refine K_run hB 100 ?_
    simp [go_sem, timesA]
  | true =>
    rw [if_neg (by simp [hm])] at hR
    have hrs := run_spec x route hm hr
    generalize x.runC route x.car0 = V at *
    refine K_callQ rfl rfl rfl (args := [x.a, .t (.sl (ints route))]) (f := 60) (by simp [go_sem, Inst.a]) (by simp [go_sem, hB]) (hrs _ _) ?_
    rintro r σ' nx' ⟨h1, h2, ⟨h3, rfl⟩ | ⟨h3, b, qt, ql, rfl, h4, h5, h6⟩⟩
    · rw [if_pos h3] at hR
      subst hR
      refine K_run hB 100 ?_
      simp [go_sem, h3, timesA]
    · rw [if_neg (by simp [h3])] at hR
      subst hR
      refine K_run hB 100 ?_
      simp [go_sem]
      refine K_drawn [] rfl (by rw [hB]; kernel_rfl) ?_
      refine K_run hB 100 ?_
      simp [go_sem, h5, carC, h6.tm, timesA]
end Go.Proofs.Ytdjbapglfdacmaa

/- What a plan costs. -/
set_option maxRecDepth 4000
namespace Go.Proofs.Ytdjbapglfdacmaa
open Go Go.Proofs.Ytdjbapglfdacmaa.R
def idxI (p : Int → Bool) : Nat → List Int → Int
  | _, [] => -1
  | i, n :: l => if p n = true then (i : Int) else idxI p (i + 1) l
theorem idxI_any (p : Int → Bool) : ∀ (i : Nat) (l : List Int), (0 ≤ idxI p i l) ↔ l.any p = true
  | _, [] => by simp [idxI]
  | i, n :: l => by
    rw [idxI, List.any_cons]
    cases h : p n with
    | true => simp
    | false => simp [idxI_any p (i + 1) l]
theorem indexI_pure (l : List Int) (p : Int → Bool) (f : FuncId) (hl : l.length < 2 ^ 62) (hf : ∀ n, Pure P f [.i n] (.b (p n))) : Pure P 61 [.t (.sl (ints l)), .fn (.func f) [] []] (.i (idxI p 0 l)) := by
  have hil : (ints l).length = l.length := List.length_map _
  refine pure_of Try.func61 rfl rfl (by simp [Try.f61]) (by simp [bnd, bnd.bndL]) (by simp [bnd, bnd.bndL]) fun B hB hnx => ?_
  simp only [Try.f61] at hB ⊢
  refine K_run hB 100 ?_
  simp [go_sem, hil]
  refine K_loopP (α := Nat) (fun k => k ≤ l.length ∧ idxI p k (l.drop k) = idxI p 0 l) (fun k => ⟨sl [(0, .t (.sl (ints l))), (1, .fn (.func f) [] []), (7, .i l.length), (8, .i k)], noObj, 0⟩) (fun k => l.length - k) 0 ⟨Nat.zero_le _, rfl⟩ (Imp.slots (by simp [go_sem]) rfl rfl) ?_
  rintro k ⟨h1, h2⟩
  refine K_run hB 60 ?_
  simp [go_sem]
  refine fork_dec (fun h => ?_) (fun h => ?_)
  · rw [List.drop_eq_getElem_cons h, idxI] at h2
    have hkk : IntKind.i64.wrap ((k : Int) + 1) = ((k + 1 : Nat) : Int) := by rw [w64 ((k : Int) + 1) (by omega)]; rfl
    have hget := ints_getS l h
    generalize l[k] = n at *
    have hp := hf n
    simp [go_sem, h, hil, hget]
    refine K_call rfl rfl rfl (args := [.i n]) (f := f) (by simp [go_sem]) (by simp [go_sem, hB]) (hp.spec _ _) ?_
    cases ho : p n with
    | true =>
      rw [ho, if_pos rfl] at h2
      refine K_run hB 100 ?_
      simp [go_sem, ← h2]
    | false =>
      rw [ho, if_neg (by simp)] at h2
      refine K_run hB 100 ?_
      simp [go_sem, hkk]
      exact Next.mk (k + 1) ⟨by omega, h2⟩ (Imp.slots (by simp [go_sem]) rfl rfl) (by omega)
  · have : k = l.length := by omega
    subst this
    rw [List.drop_length] at h2
    simp [go_sem, ← h2, idxI]
theorem containsI_pure (l : List Int) (p : Int → Bool) (f : FuncId) (hl : l.length < 2 ^ 62) (hf : ∀ n, Pure P f [.i n] (.b (p n))) : Pure P 38 [.t (.sl (ints l)), .fn (.func f) [] []] (.b (l.any p)) := by
  have hi := indexI_pure l p f hl hf
  have ha := idxI_any p 0 l
  refine pure_of Try.func38 rfl rfl (by simp [Try.f38]) (by simp [bnd, bnd.bndL]) (by simp [bnd, bnd.bndL]) fun B hB hnx => ?_
  simp only [Try.f38] at hB ⊢
  generalize idxI p 0 l = i at *
  refine K_run hB 100 ?_
  simp [go_sem]
  refine K_call rfl rfl rfl (args := [.t (.sl (ints l)), .fn (.func f) [] []]) (f := 61) (by simp [go_sem]) (by simp [go_sem, hB]) ((hi).spec _ _) ?_
  refine K_run hB 100 ?_
  simp [go_sem]
  rw [Bool.eq_iff_iff, decide_eq_true_eq]
  exact ha
theorem index1_pure (l : List Int) (v : Int) (hl : l.length < 2 ^ 62) : Pure P 62 [.t (.sl (ints l)), .i v] (.i (idxI (fun n => decide (n = v)) 0 l)) := by
  have hil : (ints l).length = l.length := List.length_map _
  refine pure_of Try.func62 rfl rfl (by simp [Try.f62]) (by simp [bnd, bnd.bndL]) (by simp [bnd, bnd.bndL]) fun B hB hnx => ?_
  simp only [Try.f62] at hB ⊢
  refine K_run hB 100 ?_
  simp [go_sem, hil]
  refine K_loopP (α := Nat) (fun k => k ≤ l.length ∧ idxI (fun n => decide (n = v)) k (l.drop k) = idxI (fun n => decide (n = v)) 0 l) (fun k => ⟨sl [(0, .t (.sl (ints l))), (1, .i v), (7, .i l.length), (8, .i k)], noObj, 0⟩) (fun k => l.length - k) 0 ⟨Nat.zero_le _, rfl⟩ (Imp.slots (by simp [go_sem]) rfl rfl) ?_
  rintro k ⟨h1, h2⟩
  refine K_run hB 60 ?_
  simp [go_sem]
  refine fork_dec (fun h => ?_) (fun h => ?_)
  · rw [List.drop_eq_getElem_cons h, idxI] at h2
    have hkk : IntKind.i64.wrap ((k : Int) + 1) = ((k + 1 : Nat) : Int) := by rw [w64 ((k : Int) + 1) (by omega)]; rfl
    have hget := ints_getS l h
    generalize l[k] = n at *
    by_cases ho : v = n
    · subst ho
      rw [if_pos (by simp)] at h2
      simp [go_sem, h, hil, hget, ← h2]
    · have ho' : ¬ n = v := fun e => ho e.symm
      rw [if_neg (by simp [ho'])] at h2
      simp [go_sem, h, hil, hget, ho, hkk]
      exact Next.mk (k + 1) ⟨by omega, h2⟩ (Imp.slots (by simp [go_sem]) rfl rfl) (by omega)
  · have : k = l.length := by omega
    subst this
    rw [List.drop_length] at h2
    simp [go_sem, ← h2, idxI]
theorem contains1_pure (l : List Int) (v : Int) (hl : l.length < 2 ^ 62) : Pure P 39 [.t (.sl (ints l)), .i v] (.b (l.any fun n => decide (n = v))) := by
  have hi := index1_pure l v hl
  have ha := idxI_any (fun n => decide (n = v)) 0 l
  refine pure_of Try.func39 rfl rfl (by simp [Try.f39]) (by simp [bnd, bnd.bndL]) (by simp [bnd, bnd.bndL]) fun B hB hnx => ?_
  simp only [Try.f39] at hB ⊢
  generalize idxI (fun n => decide (n = v)) 0 l = i at *
  refine K_run hB 100 ?_
  simp [go_sem]
  refine K_call rfl rfl rfl (args := [.t (.sl (ints l)), .i v]) (f := 62) (by simp [go_sem]) (by simp [go_sem, hB]) ((hi).spec _ _) ?_
  refine K_run hB 100 ?_
  simp [go_sem]
  rw [Bool.eq_iff_iff, decide_eq_true_eq]
  exact ha
theorem twice_pure (n : Int) : Pure P 37 [.i n] (.b (decide (1 < n))) := by
  refine pure_of Try.func37 rfl rfl (by simp [Try.f37]) (by simp [bnd, bnd.bndL]) (by simp [bnd, bnd.bndL]) fun B hB hnx => ?_
  simp only [Try.f37] at hB ⊢
  refine K_run hB 100 ?_
  simp [go_sem]
def bump (s : List Int) (i : Int) : List Int := s.set i.toNat (s.getD i.toNat 0 + 1)
def Inst.costGo (x : Inst) : List (List Int) → Int → List Int → Int × Int
  | [], all, seen => if (seen.any fun n => decide (1 < n)) = true then (0, 5) else if ((seen.drop 1).any fun n => decide (n = 0)) = true then (0, 4) else (all, 0)
  | r :: rs, all, seen => if r.length = 0 then (0, 1) else if (x.times r).2.2 ≠ 0 then (0, (x.times r).2.2) else x.costGo rs (all + (x.times r).2.1) (r.foldl bump seen)
def Inst.cost (x : Inst) (p : List (List Int)) : Int × Int :=
  if x.may = false then (0, 1) else if x.cars < p.length then (0, 6) else x.costGo p 0 (List.replicate (2 * x.pairs + 1).toNat 0)
/-- A route that can be gone. -/
theorem runC_ok {x : Inst} {p : Nat} (hx : x.Fit p) : ∀ (r : List Int) (c : Car) (k : Nat), c.Fit p k → (x.runC r c).2 = 0 → (∀ i ∈ r, 1 ≤ i ∧ i ≤ 2 * p) ∧ k + r.length ≤ 2 * p ∧ 0 ≤ (x.runC r c).1.gone ∧ (x.runC r c).1.gone ≤ 14143 * (k + r.length + 1)
  | [], c, k, hc, h => by
    have hg := hc.gone
    have hf := far_le (x.stop c.spot) (x.stop 0)
    have := hc.le
    refine ⟨fun i hi => (by cases hi), by simpa using this, ?_⟩
    rw [Inst.runC, Inst.homeC]
    simp only [List.length_nil]
    split
    · simp only; omega
    · split <;> simp only [Inst.drive] <;> omega
  | i :: r, c, k, hc, h => by
    rw [Inst.runC] at h ⊢
    by_cases c1 : (x.visitC c i).2 = 0
    · rw [if_neg (by simp [c1])] at h ⊢
      obtain ⟨h1, h2, h3, h4⟩ := runC_ok hx r _ _ (visitC_fit hx hc c1) h
      have hv : x.visitsE c i = 0 := by
        rw [Inst.visitC] at c1
        split at c1
        · rename_i hh; exact absurd c1 hh
        · rename_i hh; simpa using hh
      obtain ⟨k1, k2, _⟩ := visits_ok hv
      have hp := hx.pairs
      rw [List.length_cons]
      refine ⟨fun j hj => ?_, by omega, h3, by omega⟩
      rcases List.mem_cons.1 hj with rfl | hj
      · omega
      · exact h1 j hj
    · rw [if_pos c1] at h
      exact absurd h c1
theorem times_ok {x : Inst} {p : Nat} (hx : x.Fit p) (hm : x.may = true) {r : List Int} (h : (x.times r).2.2 = 0) : (∀ i ∈ r, 1 ≤ i ∧ i ≤ 2 * p) ∧ r.length ≤ 2 * p ∧ 0 ≤ (x.times r).2.1 ∧ (x.times r).2.1 ≤ 14143 * 33 := by
  rw [Inst.times, if_neg (by simp [hm])] at h ⊢
  by_cases c1 : (x.runC r x.car0).2 = 0
  · rw [if_neg (by simp [c1])]
    obtain ⟨h1, h2, h3, h4⟩ := runC_ok hx r _ 0 (car0_fit hx) c1
    have := hx.few
    exact ⟨h1, by omega, h3, by simp only; omega⟩
  · rw [if_pos c1] at h
    exact absurd h c1
theorem bump_len (s : List Int) (i : Int) : (bump s i).length = s.length := List.length_set
theorem bumps_len : ∀ (r : List Int) (s : List Int), (r.foldl bump s).length = s.length
  | [], s => rfl
  | i :: r, s => by rw [List.foldl_cons, bumps_len, bump_len]
/-- No number in a list grows above what was added. -/
theorem bump_le {s : List Int} {m : Int} (h : ∀ n ∈ s, 0 ≤ n ∧ n ≤ m) (i : Int) : ∀ n ∈ bump s i, 0 ≤ n ∧ n ≤ m + 1 := by
  intro n hn
  by_cases hi : i.toNat < s.length
  · rcases List.mem_or_eq_of_mem_set hn with h1 | h1
    · have := h n h1; omega
    · have e : s.getD i.toNat 0 = s[i.toNat] := by rw [List.getD_eq_getElem?_getD, List.getElem?_eq_getElem hi]; rfl
      rw [e] at h1
      have := h _ (List.getElem_mem hi)
      omega
  · rw [bump, List.set_eq_of_length_le (by omega)] at hn
    have := h _ hn
    omega
theorem cost_pure (x : Inst) (p : List (List Int)) (hl : x.stops.length < 2 ^ 63) (hp : p.length < 2 ^ 63) (hr : ∀ r ∈ p, r.length < 2 ^ 63) : Pure P 18 [x.a, .agg [.t (.sl (p.map rowT))]] (.tup [.i (x.cost p).1, .i (x.cost p).2]) := by
  generalize hR : x.cost p = R
  have hpl : (p.map rowT).length = p.length := List.length_map _
  refine pure_of Try.func18 rfl rfl (by simp [Try.f18]) (by simp [bnd, bnd.bndL, Inst.a]) (by simp [bnd, bnd.bndL]) fun B hB hnx => ?_
  simp only [Try.f18] at hB ⊢
  rw [Inst.cost] at hR
  refine K_run hB 100 ?_
  simp [go_sem, Inst.a]
  refine K_call rfl rfl rfl (args := [x.a]) (f := 13) (by simp [go_sem, Inst.a]) (by simp [go_sem, hB]) ((may_pure x hl).spec _ _) ?_
  cases hm : x.may with
  | false =>
    rw [if_pos hm] at hR
    subst hR
    refine K_run hB 100 ?_
    simp [go_sem]
  | true =>
    rw [if_neg (by simp [hm])] at hR
    obtain ⟨q, hx⟩ := x.fit hm
    have hpq := hx.pairs
    have hfew := hx.few
    have hcars := hx.cars
    by_cases c1 : x.cars < p.length
    · rw [if_pos c1] at hR
      subst hR
      refine K_run hB 100 ?_
      simp [go_sem, hpl, c1]
    rw [if_neg c1] at hR
    have w1 := w64 (2 * x.pairs) (by omega)
    have w2 := w64 (2 * x.pairs + 1) (by omega)
    refine K_run hB 100 ?_
    simp [go_sem, hpl, c1]
    refine K_drawnG [4] [5] [] rfl (by rw [hB]; kernel_rfl) (by kernel_rfl) fun ht hf' => ?_
    have hml : 2 * x.pairs + 1 ≤ (mostLen : Int) := by show _ ≤ (4294967296 : Int); omega
    refine K_run hB 100 ?_
    simp [go_sem, ht, hf', w1, w2, hml, show 0 ≤ 2 * x.pairs + 1 by omega, hpl]
    have hrep : List.replicate (2 * x.pairs + 1).toNat [(.i 0 : T)] = ints (List.replicate (2 * x.pairs + 1).toNat 0) := by simp [ints]
    refine K_loopP (α := Nat × Int × List Int) (fun (k, all, seen) => k ≤ p.length ∧ seen.length = 2 * q + 1 ∧ x.costGo (p.drop k) all seen = R ∧ (0 ≤ all ∧ all ≤ 466719 * k) ∧ ∀ n ∈ seen, 0 ≤ n ∧ n ≤ 33 * k)
      (fun (k, all, seen) => ⟨sl [(2, .ptr 0 0), (6, .i all), (7, .ref 2), (33, .t (.sl (p.map rowT))), (34, .i p.length), (35, .i k)], ob [(0, .box x.cs), (2, .arr 1 (ints seen))], 3⟩) (fun a => p.length - a.1) (0, 0, List.replicate (2 * x.pairs + 1).toNat 0) ?_
      (Sub.of (by omega) (by simp) (by simp [go_sem]) (by simp [go_sem, hrep])) ?_
    · refine ⟨Nat.zero_le _, by rw [List.length_replicate]; omega, hR, by omega, fun n hn => ?_⟩
      rw [(List.mem_replicate.1 hn).2]; omega
    rintro ⟨k, all, seen⟩ ⟨h1, h2, h3, h4, h5⟩
    refine K_run hB 60 ?_
    simp [go_sem, hpl]
    refine fork_dec (fun hk => ?_) (fun hk => ?_)
    · rw [List.drop_eq_getElem_cons hk, Inst.costGo] at h3
      have hkk : IntKind.i64.wrap ((k : Int) + 1) = ((k + 1 : Nat) : Int) := by rw [w64 ((k : Int) + 1) (by omega)]; rfl
      have hrl := hr p[k] (List.getElem_mem hk)
      have hget : (p.map rowT)[k]'(by rw [hpl]; exact hk) = [.sl (ints p[k])] := by simp [rowT]
      generalize p[k] = r at *
      have hil : (ints r).length = r.length := List.length_map _
      have hte := times_pure x r hl hrl
      have hok := times_ok hx hm (r := r)
      by_cases c2 : r.length = 0
      · rw [if_pos c2] at h3
        subst h3
        simp [go_sem, hk, hpl, hget, hil, c2]
      rw [if_neg c2] at h3
      generalize x.times r = V at *
      simp [go_sem, hk, hpl, hget, hil, c2]
      refine K_call rfl rfl rfl (args := [x.a, .t (.sl (ints r))]) (f := 36) (by simp [go_sem, Inst.a]) (by simp [go_sem, hB]) ((hte).spec _ _) ?_
      by_cases c3 : V.2.2 = 0
      rotate_left
      · rw [if_pos c3] at h3
        subst h3
        refine K_run hB 100 ?_
        simp [go_sem, timesA, c3]
      rw [if_neg (by simp [c3])] at h3
      obtain ⟨o1, o2, o3, o4⟩ := hok c3
      have w3 := w64 (all + V.2.1) (by omega)
      have hbl := bumps_len r seen
      refine K_run hB 100 ?_
      simp [go_sem, timesA, c3, w3, hil]
      refine K_loopP (α := Nat × List Int) (fun (j, s) => j ≤ r.length ∧ s.length = 2 * q + 1 ∧ (r.drop j).foldl bump s = r.foldl bump seen ∧ ∀ n ∈ s, 0 ≤ n ∧ n ≤ 33 * k + j)
        (fun (j, s) => ⟨sl [(2, .ptr 0 0), (6, .i (all + V.2.1)), (7, .ref 2), (33, .t (.sl (p.map rowT))), (34, .i p.length), (35, .i k), (55, .t (.sl (ints r))), (56, .i r.length), (57, .i j)], ob [(0, .box x.cs), (2, .arr 1 (ints s))], 3⟩) (fun a => r.length - a.1) (0, seen) ⟨Nat.zero_le _, h2, rfl, fun n hn => by have := h5 n hn; omega⟩
        (Sub.of (by omega) (by simp) (by simp [go_sem]) (by simp [go_sem])) ?_
      rintro ⟨j, s⟩ ⟨i1, i2, i3, i4⟩
      refine K_run hB 60 ?_
      simp [go_sem, hil]
      refine fork_dec (fun hj => ?_) (fun hj => ?_)
      · rw [List.drop_eq_getElem_cons hj, List.foldl_cons] at i3
        have hjj : IntKind.i64.wrap ((j : Int) + 1) = ((j + 1 : Nat) : Int) := by rw [w64 ((j : Int) + 1) (by omega)]; rfl
        have hgetj := ints_getS r hj
        have hin := o1 r[j] (List.getElem_mem hj)
        generalize r[j] = i at *
        have hisl : (ints s).length = s.length := List.length_map _
        have hlt : i.toNat < s.length := by omega
        have hltI : i < (s.length : Int) := by omega
        have hgets := ints_getS s hlt
        have hsi := i4 _ (List.getElem_mem hlt)
        have w4 := w64 (s[i.toNat] + 1) (by omega)
        have hb : bump s i = s.set i.toNat (s[i.toNat] + 1) := by rw [bump, List.getD_eq_getElem?_getD, List.getElem?_eq_getElem hlt]; rfl
        have hbi : ints (bump s i) = (ints s).set i.toNat [.i (s[i.toNat] + 1)] := by rw [hb, ints, ints, List.map_set]
        have hbl1 := bump_len s i
        have hble := bump_le (m := 33 * k + j) i4 i
        generalize s[i.toNat] = m at *
        simp [go_sem, hj, hil, hgetj, show 0 ≤ i by omega, hltI, hisl, hgets, w4, hjj, hlt, Nat.mod_one]
        refine Next.mk (j + 1, bump s i) ⟨by simp only; omega, by simp only; omega, i3, fun n hn => by have := hble n hn; simp only; omega⟩ (Sub.of (by omega) (by simp) (by simp [go_sem]) (by simp [go_sem, hbi])) (by simp only; omega)
      · have : j = r.length := by omega
        subst this
        rw [List.drop_length, List.foldl_nil] at i3
        subst i3
        simp [go_sem, hkk]
        exact Next.mk (k + 1, all + V.2.1, r.foldl bump seen) ⟨by simp only; omega, by simp only; omega, h3, by simp only; omega, fun n hn => by have := i4 n hn; simp only; omega⟩ (Sub.of (by omega) (by simp) (by simp [go_sem]) (by simp [go_sem])) (by simp only; omega)
    · have : k = p.length := by omega
      subst this
      rw [List.drop_length, Inst.costGo] at h3
      have hsl : seen.length < 2 ^ 62 := by omega
      have hc1 := containsI_pure seen (fun n => decide (1 < n)) 37 hsl twice_pure
      have hc2 := contains1_pure (seen.drop 1) 0 (by rw [List.length_drop]; omega)
      have hdr : ints (seen.drop 1) = (ints seen).drop 1 := by simp [ints, List.map_drop]
      have hisl : (ints seen).length = seen.length := List.length_map _
      have hone : ∀ y ∈ ints seen, y.length = 1 := by
        intro y hy
        simp only [ints, List.mem_map] at hy
        obtain ⟨n, _, rfl⟩ := hy
        rfl
      simp [go_sem]
      refine K_imp (t := ⟨sl [(6, .i all), (7, .t (.sl (ints seen))), (70, .t (.sl (ints seen))), (71, .fn (.func 37) [] [])], noObj, 3⟩) ((Imp.freeze (q := 2) (sz := 1) (es := ints seen) (by simp [go_sem])).trans (Imp.of (by simp [go_sem, frz1]) (fun i => .inl rfl) rfl)) ?_
      refine K_call rfl rfl rfl (args := [.t (.sl (ints seen)), .fn (.func 37) [] []]) (f := 38) (by simp [go_sem]) (by simp [go_sem, hB]) (hc1.spec _ _) ?_
      cases e1 : seen.any fun n => decide (1 < n) with
      | true =>
        rw [if_pos e1] at h3
        subst h3
        refine K_run hB 100 ?_
        simp [go_sem]
      | false =>
        rw [if_neg (by simp [e1])] at h3
        refine K_run hB 100 ?_
        simp [go_sem, hisl, h2, if_pos hone, hone, show (1 : Int) ≤ 2 * (q : Int) + 1 by omega]
        have hdr2 : (ints seen).tail = ints seen.tail := by simp [ints]
        cases e2 : (seen.drop 1).any fun n => decide (n = 0) with
        | true =>
          rw [if_pos e2] at h3
          rw [e2] at hc2
          subst h3
          refine K_call rfl rfl rfl (args := [.t (.sl (ints (seen.drop 1))), .i 0]) (f := 39) (by simp [go_sem, hdr2]) (by simp [go_sem, hB]) (hc2.spec _ _) ?_
          refine K_run hB 100 ?_
          simp [go_sem]
        | false =>
          rw [if_neg (by rw [e2]; simp)] at h3
          rw [e2] at hc2
          subst h3
          refine K_call rfl rfl rfl (args := [.t (.sl (ints (seen.drop 1))), .i 0]) (f := 39) (by simp [go_sem, hdr2]) (by simp [go_sem, hB]) (hc2.spec _ _) ?_
          refine K_run hB 100 ?_
          simp [go_sem]
end Go.Proofs.Ytdjbapglfdacmaa

/- What can be followed and ended is the tour of a plan: the plain law. -/
set_option maxRecDepth 4000
namespace Go.Proofs.Ytdjbapglfdacmaa
open Go Go.Proofs.Ytdjbapglfdacmaa.R
/-- A car goes as a state says; what was seen ahead of its route: m0. -/
structure Sim1 (x : Inst) (p m0 : Nat) (s : State) (c : Car) (k : Nat) : Prop where
  spot : c.spot = s.spot
  now : c.now = s.time
  load : c.load = s.load
  on : c.on = s.on
  seen : ∀ i, 1 ≤ i → i ≤ 2 * p → s.must.testBit i = (m0.testBit i || c.seen.testBit i)
  old : ∀ i, 1 ≤ i → i ≤ p → m0.testBit i = true → m0.testBit (i + p) = true
  fit : c.Fit p k
  good : Good x p s
theorem Sim1.step {x : Inst} {p m0 k : Nat} {s : State} {c : Car} {j : Int} (hx : x.Fit p) (h : Sim1 x p m0 s c k) (hj : j ≠ 0) (hm : (x.move s j).2.2 = true) :
    (x.visitC c j).2 = 0 ∧ Sim1 x p m0 (x.move s j).1 (x.visitC c j).1 (k + 1) ∧ (x.visitC c j).1.gone = c.gone + (x.move s j).2.1 := by
  obtain ⟨g1, g2, g3, g4, g5, g6⟩ := good_step hx h.good hm
  obtain ⟨m1, m2, m3, m4, m5, m6, m7, m8⟩ := move_pos hm hj
  have hp := hx.pairs
  have hfew := hx.few
  obtain ⟨i, rfl⟩ : ∃ i : Nat, j = i := ⟨j.toNat, by omega⟩
  simp only [Inst.lateB, Bool.or_eq_false_iff, decide_eq_false_iff_not] at m5
  rw [has_testN (by omega)] at m5
  have hs := h.seen i (by omega) (by omega)
  rw [m5.1] at hs
  have hv : x.visitsE c i = 0 := by
    rw [Inst.visitsE, if_neg (by omega), if_neg, if_neg, if_neg]
    · rw [h.load]
      by_cases hi : (i : Int) ≤ x.pairs
      · have := m6 hi
        simp only [Inst.fullB, Bool.or_eq_false_iff, decide_eq_false_iff_not] at this
        omega
      · have hb := hx.bring (k := i - p) (by omega) (by omega)
        have ht := hx.take (k := i - p) (by omega) (by omega)
        have hr := h.good.room
        rw [show i - p + p = i by omega] at hb
        omega
    · rintro ⟨hi, hq⟩
      have := m7 hi
      simp only [Inst.emptyB, Bool.or_eq_false_iff, Bool.not_eq_false', decide_eq_false_iff_not] at this
      have e : (i : Int) - x.pairs = ((i - p : Nat) : Int) := by omega
      rw [e] at this hq
      rw [has_testN (by omega), h.good.eq] at this
      rw [has_testN (by omega)] at hq
      have h1 := h.seen (i - p) (by omega) (by omega)
      rw [this.2, hq, Bool.or_false] at h1
      have h2 := h.old (i - p) (by omega) (by omega) h1.symm
      rw [show i - p + p = i by omega] at h2
      rw [h2] at hs
      cases hs
    · rw [has_testN (by omega)]
      intro hq
      rw [hq, Bool.or_true] at hs
      cases hs
  have hfar : x.visitC c i = ({ spot := i, now := x.begins s i + (x.stop i).service, gone := c.gone + far (x.stop s.spot) (x.stop i), load := s.load + (x.stop i).demand, seen := withN c.seen i, on := if (i : Int) ≤ x.pairs then withN s.on i else withoutN s.on (i - x.pairs), times := c.times ++ [[.i (s.time + far (x.stop s.spot) (x.stop i)), .i (x.begins s i), .i (x.begins s i + (x.stop i).service)]], loads := c.loads ++ [s.load + (x.stop i).demand] }, 0) := by
    rw [Inst.visitC, if_neg (by simp [hv]), h.spot, h.now, h.load, h.on, if_neg]
    · rfl
    · have := m5.2
      unfold Inst.begins at this
      exact this
  have hfit := visitC_fit hx h.fit (i := i) (by rw [hfar])
  rw [hfar] at hfit ⊢
  rw [if_pos (by omega)] at g4 g6
  refine ⟨rfl, ⟨?_, ?_, ?_, ?_, ?_, h.old, hfit, g1⟩, ?_⟩
  · rw [m8]; rfl
  · rw [m8]; rfl
  · rw [g6]
  · rw [m8]; rfl
  · intro n n1 n2
    rw [g4, with_bit (by omega), with_bit (by omega), h.seen n n1 n2, Bool.or_assoc]
  · rw [m8]
/-- How often each stop stands in what was seen so far. -/
def MatchS (p must : Nat) (seen : List Int) : Prop := seen.length = 2 * p + 1 ∧ ∀ i (h : i < seen.length), seen[i] = if 1 ≤ i ∧ must.testBit i = true then 1 else 0
theorem MatchS.bump {p must : Nat} {seen : List Int} (h : MatchS p must seen) {j : Nat} (h1 : 1 ≤ j) (h2 : j ≤ 2 * p) (h64 : j ≤ 63) (hn : must.testBit j = false) : MatchS p (withN must j) (bump seen j) := by
  obtain ⟨hl, hs⟩ := h
  refine ⟨by rw [bump_len]; exact hl, fun i hi => ?_⟩
  have hi' : i < seen.length := by rw [bump_len] at hi; exact hi
  have e : seen.getD j 0 = seen[j] := by rw [List.getD_eq_getElem?_getD, List.getElem?_eq_getElem (by omega)]; rfl
  have h0 := hs j (by omega)
  rw [if_neg (by simp [hn])] at h0
  simp only [Go.Proofs.Ytdjbapglfdacmaa.bump, Int.toNat_natCast, e, h0, List.getElem_set, with_bit h64]
  by_cases hji : j = i
  · subst hji
    simp [h1]
  · rw [if_neg hji, hs i hi']
    simp [hji]
theorem MatchS.end {p must : Nat} {seen : List Int} (h : MatchS p must seen) (ha : ∀ i, 1 ≤ i → i ≤ 2 * p → must.testBit i = true) : (seen.any fun n => decide (1 < n)) = false ∧ ((seen.drop 1).any fun n => decide (n = 0)) = false := by
  obtain ⟨hl, hs⟩ := h
  constructor
  · rw [List.any_eq_false]
    intro n hn
    obtain ⟨i, hi, rfl⟩ := List.mem_iff_getElem.1 hn
    rw [hs i hi]
    split <;> simp
  · rw [List.any_eq_false]
    intro n hn
    obtain ⟨i, hi, rfl⟩ := List.mem_iff_getElem.1 hn
    rw [List.getElem_drop, hs (1 + i) (by rw [List.length_drop] at hi; omega), if_pos ⟨by omega, ha _ (by omega) (by rw [List.length_drop] at hi; omega)⟩]
    simp
theorem runC_cons {x : Inst} {i : Int} {r : List Int} {c : Car} (h : (x.visitC c i).2 = 0) : x.runC (i :: r) c = x.runC r (x.visitC c i).1 := by
  rw [Inst.runC, if_neg (by simp [h])]
end Go.Proofs.Ytdjbapglfdacmaa
