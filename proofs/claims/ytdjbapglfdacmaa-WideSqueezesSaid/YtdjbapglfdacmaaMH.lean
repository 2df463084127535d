/- Parts of the proof: Sqz, SqzW, Set2, JoinR, TogR, SqzR, Own, Every, WideQ, Build, Sched, Sched2, Sched3, PlanC, ToursP, PlansP, WideT, Law17. -/
import Derived.Test.YtdjbapglfdacmaaMG
set_option linter.unusedVariables false
/- Nodes squeezed: wide.Squeeze. -/
set_option maxRecDepth 4000
set_option maxHeartbeats 1000000
namespace Go.Proofs.Ytdjbapglfdacmaa
open Go Go.Proofs.Ytdjbapglfdacmaa.R
theorem nodup_inj {α : Type} {l : List α} (h : l.Nodup) {i j : Nat} (hi : i < l.length) (hj : j < l.length) (e : l[i] = l[j]) : i = j := by
  rcases Nat.lt_trichotomy i j with h1 | h1 | h1
  · exact absurd e (List.pairwise_iff_getElem.1 h i j hi hj h1)
  · exact h1
  · exact absurd e.symm (List.pairwise_iff_getElem.1 h j i hj hi h1)
theorem nodup_set {α : Type} {l : List α} (h : l.Nodup) {a : α} (hm : a ∉ l) (i : Nat) : (l.set i a).Nodup := by
  refine List.pairwise_iff_getElem.2 fun j k hj hk hjk => ?_
  rw [List.length_set] at hj hk
  rw [List.getElem_set, List.getElem_set]
  split
  · split
    · omega
    · exact fun e => hm (e ▸ List.getElem_mem _)
  · split
    · exact fun e => hm (e ▸ List.getElem_mem _)
    · exact List.pairwise_iff_getElem.1 h j k hj hk hjk
abbrev kv (i : Int) : Value := .int .i64 i
/-- A map from stops to rows of the call's own. -/
noncomputable def kmap (K : List (Int × Nat)) : List (Value × AV) := K.map fun p => (kv p.1, .ref p.2)
def kfind (i : Int) : List (Int × Nat) → Option (Nat × Nat)
  | [] => none
  | p :: K => if p.1 = i then some (0, p.2) else (kfind i K).map fun r => (r.1 + 1, r.2)
def kset (i : Int) (q : Nat) (K : List (Int × Nat)) : List (Int × Nat) := match kfind i K with
  | some (j, _) => K.set j (i, q)
  | none => K ++ [(i, q)]
theorem kv_inj {i j : Int} : kv i = kv j ↔ i = j := ⟨fun h => by injection h, fun h => by rw [h]⟩
theorem findM_k (i : Int) : ∀ (K : List (Int × Nat)), findM (kv i) (kmap K) = (kfind i K).map fun r => (r.1, .ref r.2)
  | [] => rfl
  | p :: K => by
    have e : kmap (p :: K) = (kv p.1, .ref p.2) :: kmap K := rfl
    rw [e, findM, kfind, findM_k i K]
    by_cases h : p.1 = i
    · rw [if_pos (by rw [h]), if_pos h]; rfl
    · rw [if_neg (fun e => h (kv_inj.1 e)), if_neg h, Option.map_map, Option.map_map]
      rfl
theorem kfind_some {i : Int} : ∀ {K : List (Int × Nat)} {j q : Nat}, kfind i K = some (j, q) → ∃ h : j < K.length, K[j] = (i, q)
  | [], j, q, h => by cases h
  | p :: K, j, q, h => by
    rw [kfind] at h
    split at h
    · rename_i e
      cases h
      exact ⟨by simp, by rw [← e]; rfl⟩
    · obtain ⟨r, h1, h2⟩ := Option.map_eq_some_iff.1 h
      cases h2
      obtain ⟨h3, h4⟩ := kfind_some h1
      exact ⟨by simp; omega, by simpa using h4⟩
theorem kfind_none {i : Int} : ∀ {K : List (Int × Nat)}, kfind i K = none → i ∉ K.map Prod.fst
  | [], _ => by simp
  | p :: K, h => by
    rw [kfind] at h
    split at h
    · cases h
    · rename_i e
      have := kfind_none (Option.map_eq_none_iff.1 h)
      simp only [List.map_cons, List.mem_cons, not_or]
      exact ⟨fun h => e h.symm, this⟩
theorem setM_k (i : Int) (q : Nat) (K : List (Int × Nat)) : setM (kv i) (.ref q) (kmap K) = kmap (kset i q K) := by
  rw [setM, findM_k, kset]
  cases h : kfind i K with
  | none => simp [kmap]
  | some r => simp [kmap, List.map_set]
theorem k_tell (i : Int) (K : List (Int × Nat)) : TellM P 3 (.i i) (kv i) (kmap K) := by
  intro e he
  obtain ⟨p, hp, rfl⟩ := List.mem_map.1 he
  refine ⟨.i p.1, rfl, ?_⟩
  have : eqA P 10000 3 (.i i) (.i p.1) = some (decide (i = p.1)) := by
    simp [eqA, tt3]
  rw [this]
  congr 1
  rw [decide_eq_decide]
  exact ⟨fun h => by rw [h], fun h => (kv_inj.1 h).symm⟩
def grp (L : List Node) (i : Int) : List Node := L.filter fun n => decide (n.s.spot = i)
structure KI (K : List (Int × Nat)) (L : List Node) (σ : Nat → AObj) (base nx : Nat) : Prop where
  keys : (K.map Prod.fst).Nodup
  objs : (K.map Prod.snd).Nodup
  rows : ∀ p ∈ K, σ p.2 = .arr 10 (nodesT (grp L p.1)) ∧ base ≤ p.2 ∧ p.2 < nx
  none : ∀ i, i ∉ K.map Prod.fst → grp L i = []
theorem grp_snoc (L : List Node) (n : Node) (i : Int) : grp (L ++ [n]) i = grp L i ++ if n.s.spot = i then [n] else [] := by
  rw [grp, List.filter_append, grp]
  congr 1
  by_cases h : n.s.spot = i <;> simp [h]
theorem kset_map {i : Int} {q : Nat} {K : List (Int × Nat)} : ((kset i q K).map Prod.fst = K.map Prod.fst ∧ i ∈ K.map Prod.fst) ∨ ((kset i q K).map Prod.fst = K.map Prod.fst ++ [i] ∧ i ∉ K.map Prod.fst) := by
  unfold kset
  cases h : kfind i K with
  | none => exact .inr ⟨by simp, kfind_none h⟩
  | some r =>
    obtain ⟨j, q0⟩ := r
    obtain ⟨h1, h2⟩ := kfind_some h
    refine .inl ⟨?_, List.mem_map.2 ⟨_, List.getElem_mem h1, by rw [h2]⟩⟩
    simp only [List.map_set]
    refine List.ext_getElem (by simp) fun k hk1 hk2 => ?_
    rw [List.getElem_set]
    split
    · rename_i e
      subst e
      rw [List.getElem_map, h2]
    · rfl
theorem kset_mem {i : Int} {q : Nat} {K : List (Int × Nat)} (hk : (K.map Prod.fst).Nodup) {p : Int × Nat} (hp : p ∈ kset i q K) : p = (i, q) ∨ (p ∈ K ∧ p.1 ≠ i) := by
  unfold kset at hp
  cases h : kfind i K with
  | none =>
    rw [h] at hp
    rcases List.mem_append.1 hp with hp | hp
    · refine .inr ⟨hp, fun e => kfind_none h (List.mem_map.2 ⟨p, hp, e⟩)⟩
    · exact .inl (List.mem_singleton.1 hp)
  | some r =>
    obtain ⟨j, q0⟩ := r
    rw [h] at hp
    obtain ⟨h1, h2⟩ := kfind_some h
    obtain ⟨k, hk1, hk2⟩ := List.getElem_of_mem hp
    simp only [List.length_set] at hk1
    rw [List.getElem_set] at hk2
    split at hk2
    · exact .inl hk2.symm
    · rename_i e
      refine .inr ⟨by rw [← hk2]; exact List.getElem_mem _, fun e2 => e ?_⟩
      have e3 : (K.map Prod.fst)[j]'(by simpa using h1) = (K.map Prod.fst)[k]'(by simpa using hk1) := by
        rw [List.getElem_map, List.getElem_map, h2, hk2, e2]
      exact nodup_inj hk _ _ e3
theorem KI.ne {K : List (Int × Nat)} {L : List Node} {σ : Nat → AObj} {base nx : Nat} (h : KI K L σ base nx) {a b : Int × Nat} (ha : a ∈ K) (hb : b ∈ K) (hne : a.1 ≠ b.1) : a.2 ≠ b.2 := by
  intro e
  obtain ⟨j, hj1, hj2⟩ := List.getElem_of_mem ha
  obtain ⟨k, hk1, hk2⟩ := List.getElem_of_mem hb
  have e3 : (K.map Prod.snd)[j]'(by simpa using hj1) = (K.map Prod.snd)[k]'(by simpa using hk1) := by
    rw [List.getElem_map, List.getElem_map, hj2, hk2, e]
  have := nodup_inj h.objs _ _ e3
  subst this
  rw [hj2] at hk2
  exact hne (by rw [hk2])
theorem KI.add {K : List (Int × Nat)} {L : List Node} {σ σ' : Nat → AObj} {base nx nx' q : Nat} {n : Node} (h : KI K L σ base nx) (hq : nx ≤ q ∧ q < nx') (hb : base ≤ nx) (hs : ∀ p ∈ K, p.1 ≠ n.s.spot → σ' p.2 = σ p.2) (hσq : σ' q = .arr 10 (nodesT (grp L n.s.spot ++ [n]))) :
    KI (kset n.s.spot q K) (L ++ [n]) σ' base nx' := by
  refine ⟨?_, ?_, fun p hp => ?_, fun i hi => ?_⟩
  · rcases kset_map (i := n.s.spot) (q := q) (K := K) with ⟨e, _⟩ | ⟨e, e2⟩
    · rw [e]; exact h.keys
    · rw [e, List.nodup_append]
      exact ⟨h.keys, by simp, fun a ha b hb => by rw [List.mem_singleton.1 hb]; exact fun e => e2 (e ▸ ha)⟩
  · have hlt : ∀ a ∈ K.map Prod.snd, a < nx := fun a ha => by
      obtain ⟨p, hp, rfl⟩ := List.mem_map.1 ha
      exact (h.rows p hp).2.2
    unfold kset
    cases hf : kfind n.s.spot K with
    | none =>
      simp only [List.map_append, List.map_cons, List.map_nil]
      rw [List.nodup_append]
      exact ⟨h.objs, by simp, fun a ha b hb => by rw [List.mem_singleton.1 hb]; have := hlt a ha; omega⟩
    | some r =>
      simp only [List.map_set]
      exact nodup_set h.objs (fun hm => by have := hlt q hm; omega) _
  · rcases kset_mem h.keys hp with rfl | ⟨h1, h2⟩
    · refine ⟨?_, by simp only; omega, hq.2⟩
      rw [grp_snoc, if_pos rfl]; exact hσq
    · obtain ⟨r1, r2, r3⟩ := h.rows p h1
      refine ⟨?_, r2, by omega⟩
      rw [grp_snoc, if_neg (fun e => h2 e.symm), List.append_nil, hs p h1 h2, r1]
  · have : i ∉ K.map Prod.fst ∧ i ≠ n.s.spot := by
      rcases kset_map (i := n.s.spot) (q := q) (K := K) with ⟨e, e2⟩ | ⟨e, e2⟩
      · rw [e] at hi; exact ⟨hi, fun e3 => hi (e3 ▸ e2)⟩
      · rw [e] at hi
        simp only [List.mem_append, List.mem_singleton, not_or] at hi
        exact hi
    rw [grp_snoc, if_neg (fun e => this.2 e.symm), h.none i this.1, List.append_nil]
end Go.Proofs.Ytdjbapglfdacmaa

/- Nodes squeezed: wide.Squeeze. -/
set_option maxRecDepth 4000
set_option maxHeartbeats 1000000
namespace Go.Proofs.Ytdjbapglfdacmaa
open Go Go.Proofs.Ytdjbapglfdacmaa.R
theorem mostN_eq (x : Inst) (w : Int) : max w x.stops.length = (x.mostN w : Int) := by unfold Inst.mostN; omega
theorem most_pure (x : Inst) (w : Int) : Pure P 25 [x.a, .i w] (.i (x.mostN w)) := by
  rw [← mostN_eq]
  refine pure_of Try.func25 rfl rfl (by simp [Try.f25]) (by simp [bnd, bnd.bndL, Inst.a]) (by simp [bnd, bnd.bndL]) fun B hB hnx => ?_
  simp only [Try.f25] at hB ⊢
  refine K_run hB 100 ?_
  simp [go_sem, Inst.a]
theorem squeeze_pure (x : Inst) (l : List Node) (w : Int) (hx : x.stops.length < 2 ^ 31) (hl : l.length < 2 ^ 31) (hn : ∀ n ∈ l, n.Fine) : Pure P 10 [x.a, .t (.sl (nodesT l)), .i w] (.t (.sl (nodesT (x.squeeze l w)))) := by
  generalize hR : x.squeeze l w = R
  refine pure_of Try.func10 rfl rfl (by simp [Try.f10]) (by simp [bnd, bnd.bndL, Inst.a]) (by simp [bnd, bnd.bndL]) fun B hB hnx => ?_
  simp only [Try.f10] at hB ⊢
  have hso := sorted_pure x l hx hl hn
  have hmo := most_pure x w
  have hfS : ∀ n ∈ x.sortN l, n.Fine := fun n h => hn n (Inst.sortN_mem.1 h)
  have hSl := x.sortN_len l
  rw [Inst.squeeze] at hR
  generalize x.sortN l = S at *
  have hM1 : x.stops.length ≤ x.mostN w := Nat.le_max_right _ _
  generalize x.mostN w = M at *
  have hNl : (nodesT S).length = S.length := List.length_map _
  refine K_run hB 100 ?_
  simp [go_sem, Inst.a]
  refine K_call rfl rfl rfl (args := [x.a, .t (.sl (nodesT l))]) (f := 24) (by simp [go_sem, Inst.a]) (by simp [go_sem, hB]) ((hso).spec _ _) ?_
  refine K_run hB 100 ?_
  simp [go_sem]
  refine K_call rfl rfl rfl (args := [x.a, .i w]) (f := 25) (by simp [go_sem, Inst.a]) (by simp [go_sem, hB]) ((hmo).spec _ _) ?_
  by_cases c1 : S.length ≤ M
  · rw [if_pos c1] at hR
    subst hR
    refine K_run hB 100 ?_
    simp [go_sem, hNl, c1]
  rw [if_neg c1] at hR
  have hM2 : M < 2 ^ 31 := by omega
  obtain ⟨kp, hkp⟩ : ∃ kp, kp = M - x.stops.length := ⟨_, rfl⟩
  have hkp2 : (M : Int) - x.stops.length = kp := by omega
  have hw1 : IntKind.i64.wrap ((M : Int) - x.stops.length) = kp := by rw [hkp2]; exact w64 _ (by omega)
  have hkl : kp < S.length := by omega
  have hS1 := nodesT_len S
  rw [← hkp] at hR
  have hXd : (nodesT S).drop kp = nodesT (S.drop kp) := by rw [nodesT, nodesT, List.map_drop]
  have hXt : (nodesT S).take kp = nodesT (S.take kp) := by rw [nodesT, nodesT, List.map_take]
  have hrl : (S.drop kp).length = S.length - kp := List.length_drop
  have hrf : ∀ n ∈ S.drop kp, n.Fine := fun n h => hfS n (List.mem_of_mem_drop h)
  have hfl : (S.take kp).length ≤ kp := by rw [List.length_take]; omega
  refine K_run hB 100 ?_
  simp [go_sem, hNl, c1, hw1, if_pos hS1, hkl, Nat.le_of_lt hkl, hXd, hXt]
  generalize S.drop kp = rest at *
  generalize S.take kp = front at *
  have hQl : (nodesT rest).length = rest.length := List.length_map _
  have hgt : ∀ (k : Nat) (h : k < rest.length), (nodesT rest)[k]'(by rw [hQl]; exact h) = rest[k].t := fun k h => nodesT_get rest h
  generalize hX : nodesT rest = X at *
  have hmost : mostLen = 4294967296 := rfl
  refine K_loopP (α := Nat × List (Int × Nat) × (Nat → AObj) × Nat) (fun (k, K, τ, ny) => k ≤ rest.length ∧ KI K (rest.take k) τ 2 ny ∧ τ 0 = .box x.cs ∧ τ 1 = .map (kmap K) ∧ 2 ≤ ny)
    (fun (k, K, τ, ny) => ⟨sl [(3, .ptr 0 0), (9, .fsl (nodesT front)), (10, .mapr 1), (39, .t (.sl X)), (40, .i rest.length), (41, .i k)], τ, ny⟩) (fun a => rest.length - a.1) (0, [], _, 2) ?_ (Imp.slots (by simp [go_sem, hQl]) rfl rfl) ?_
  · exact ⟨Nat.zero_le _, ⟨by simp, by simp, fun p h => (by cases h), fun i _ => by simp [grp]⟩, by simp [oput, Inst.cs], by simp [oput, kmap], by omega⟩
  rintro ⟨k, K, τ, ny⟩ ⟨g1, g2, g3, g4, g5⟩
  refine K_run hB 60 ?_
  simp [go_sem]
  refine fork_dec (fun hk => ?_) (fun hk => ?_)
  · have hkk : IntKind.i64.wrap ((k : Int) + 1) = ((k + 1 : Nat) : Int) := by rw [w64 ((k : Int) + 1) (by omega)]; rfl
    have hget : ∀ h : k < X.length, X[k]'h = rest[k].t := fun h => hgt k hk
    have htk : rest.take (k + 1) = rest.take k ++ [rest[k]] := List.take_succ_eq_append_getElem hk
    have hgl : (grp (rest.take k) rest[k].s.spot).length ≤ k := by
      refine Nat.le_trans (List.length_filter_le _ _) ?_
      rw [List.length_take]; omega
    have hadd := fun (τ' : Nat → AObj) (ny' q : Nat) => g2.add (n := rest[k]) (σ' := τ') (nx' := ny') (q := q)
    rw [← htk] at hadd
    generalize rest[k] = n at *
    have n0 : ¬ 0 = ny := by omega
    have n1 : ¬ 1 = ny := by omega
    simp [go_sem, hQl, hk, hget, Node.t, n0, n1]
    refine K_drawnF [11, 12] [0, 1, 2, 3] rfl (by rw [hB]; kernel_rfl) (by kernel_rfl) fun ht hf' => ?_
    refine K_run hB 100 ?_
    simp [go_sem, ht, hf']
    refine K_dLookup (kt := 3) (et := 25) (es := kmap K) (u := kv n.s.spot) (m := 1) (r := match kfind n.s.spot K with | some r => .ref r.2 | none => .fsl []) (by simp [go_sem]) rfl tt63 rfl tt25 (by kernel_rfl) (by simp [go_sem]) (by simp [go_sem, g4, n1, show ¬ ny = 0 by omega]) (by simp [go_sem]; rfl) (by simp [go_sem]; kernel_rfl) (by simp [go_sem]; exact k_tell _ _) ?_ (by simp [ht]) ?_
    · rw [lookA, findM_k]
      cases kfind n.s.spot K with
      | none => simp [go_sem]
      | some r => simp
    have hcap1 : 1 ≤ mostLen := by decide
    cases hf : kfind n.s.spot K with
    | none =>
      have hgr : grp (rest.take k) n.s.spot = [] := g2.none _ (kfind_none hf)
      refine K_run hB 100 ?_
      simp [go_sem, ht, hf', n0, n1, hcap1]
      refine K_dTold (fun ho => does_mapSet (P := P) (n := B.n) (kt := 3) (et := 25) (es := kmap K) (u := kv n.s.spot) (q := 1) ho (by simp [go_sem]) rfl tt63 rfl (by kernel_rfl) (by simp [go_sem]) (by simp [go_sem, g4, n1, show ¬ ny = 0 by omega]) (by simp [go_sem]; rfl) (by simp [go_sem]; kernel_rfl) (by simp [go_sem]; exact k_tell _ _) (.inr (by simp [Instr.sameBits]))) (by simp) (fun q hq => by rw [List.mem_singleton.1 hq]; exact .inl (by kernel_rfl)) ?_
      refine K_run hB 100 ?_
      simp [go_sem, ht, hf', hkk, setM_k]
      refine Next.mk (k + 1, kset n.s.spot (ny + 1) K, _, ny + 2) ?_ (Imp.slots (by simp [go_sem]) rfl rfl) (by simp only; omega)
      refine ⟨by simp only; omega, ?_, by simp [oput, g3, n0], by simp [oput], by simp only; omega⟩
      refine hadd _ (ny + 2) (ny + 1) ⟨by omega, by omega⟩ g5 (fun p hp hne => ?_) ?_
      · obtain ⟨_, s2, s3⟩ := g2.rows p hp
        simp [oput, show ¬ p.2 = ny by omega, show ¬ p.2 = 1 by omega, show ¬ p.2 = ny + 1 by omega]
      · rw [hgr]
        simp [oput, nodesT, Node.t, show ¬ ny = 0 by omega]
    | some r =>
      obtain ⟨j, q⟩ := r
      obtain ⟨hj1, hj2⟩ := kfind_some hf
      have hmem : (n.s.spot, q) ∈ K := hj2 ▸ List.getElem_mem hj1
      obtain ⟨r1, r2, r3⟩ := g2.rows (n.s.spot, q) hmem
      simp only at r1 r2 r3
      have n2 : ¬ q = ny := by omega
      have n3 : ¬ 1 = q := by omega
      have n4 : ¬ 0 = q := by omega
      have n5 : ¬ ny = q := by omega
      have hcap2 : (nodesT (grp (rest.take k) n.s.spot)).length + 1 ≤ mostLen := by rw [nodesT, List.length_map]; omega
      refine K_run hB 100 ?_
      simp [go_sem, ht, hf', n0, n1, n2, n5, r1, hcap2]
      refine K_dTold (fun ho => does_mapSet (P := P) (n := B.n) (kt := 3) (et := 25) (es := kmap K) (u := kv n.s.spot) (q := 1) ho (by simp [go_sem]) rfl tt63 rfl (by kernel_rfl) (by simp [go_sem]) (by simp [go_sem, g4, n1, n3, n4, show ¬ ny = 0 by omega]) (by simp [go_sem]; rfl) (by simp [go_sem]; kernel_rfl) (by simp [go_sem]; exact k_tell _ _) (.inr (by simp [Instr.sameBits]))) (by simp) (fun q hq => by rw [List.mem_singleton.1 hq]; exact .inl (by kernel_rfl)) ?_
      refine K_run hB 100 ?_
      simp [go_sem, ht, hf', hkk, setM_k]
      refine Next.mk (k + 1, kset n.s.spot (ny + 1) K, _, ny + 2) ?_ (Imp.slots (by simp [go_sem]) rfl rfl) (by simp only; omega)
      refine ⟨by simp only; omega, ?_, by simp [oput, g3, n0, n4], by simp [oput], by simp only; omega⟩
      refine hadd _ (ny + 2) (ny + 1) ⟨by omega, by omega⟩ g5 (fun p hp hne => ?_) ?_
      · obtain ⟨_, s2, s3⟩ := g2.rows p hp
        have := g2.ne hp hmem hne
        simp only at this
        simp [oput, show ¬ p.2 = ny by omega, show ¬ p.2 = 1 by omega, show ¬ p.2 = ny + 1 by omega, this]
      · simp [oput, nodesT, Node.t, show ¬ ny = 0 by omega]
  · have : k = rest.length := by omega
    subst this
    rw [List.take_length] at g2
    simp [go_sem, g3]
    have hok : ∀ (L : List Node), (∀ n ∈ L, n ∈ rest) → ∀ n ∈ L, n.s.ok := fun L h n hn => (hrf n (h n hn)).ok
    refine K_loopP (α := Nat × AV × List Node × (Nat → AObj) × Nat) (fun (i, A, out, τ', my) => i ≤ x.stops.length ∧ (A = .fsl (nodesT out) ∨ ∃ q, A = .ref q ∧ τ' q = .arr 10 (nodesT out) ∧ ny ≤ q ∧ q < my) ∧ (out ++ ((List.range x.stops.length).drop i).flatMap (oneAt rest) = R ∧ out.length ≤ kp + i) ∧ τ' 1 = .map (kmap K) ∧ ny ≤ my ∧ ∀ p ∈ K, τ' p.2 = τ p.2)
      (fun (i, A, out, τ', my) => ⟨sl [(9, A), (10, .mapr 1), (60, .i x.stops.length), (61, .i i)], τ', my⟩) (fun a => x.stops.length - a.1) (0, .fsl (nodesT front), front, τ, ny) ?_ (Imp.slots (by simp [go_sem]) rfl rfl) ?_
    · exact ⟨Nat.zero_le _, .inl rfl, ⟨hR, hfl⟩, g4, Nat.le_refl _, fun p _ => rfl⟩
    rintro ⟨i, A, out, τ', my⟩ ⟨f1, f2, ⟨f3, f3'⟩, f4, f5, f6⟩
    refine K_run hB 60 ?_
    simp [go_sem]
    refine fork_dec (fun hi => ?_) (fun hi => ?_)
    · have hii : IntKind.i64.wrap ((i : Int) + 1) = ((i + 1 : Nat) : Int) := by rw [w64 ((i : Int) + 1) (by omega)]; rfl
      rw [List.drop_eq_getElem_cons (by rw [List.length_range]; exact hi), List.getElem_range, List.flatMap_cons, ← List.append_assoc] at f3
      have hone : oneAt rest i = if (together (grp rest i)).2 = true then [(together (grp rest i)).1] else [] := rfl
      have htg := fun (τ2 : Nat → AObj) (m2 q : Nat) (h1 : q < m2) (h2 : τ2 q = .arr 10 (nodesT (grp rest i))) => together_spec (grp rest i) (Nat.lt_of_le_of_lt (List.length_filter_le _ _) (by omega)) (hok _ fun n hn => (List.mem_filter.1 hn).1) (σ := τ2) (nx := m2) (r := q) h1 h2
      simp [go_sem]
      refine K_lookup (kt := 3) (et := 25) (es := kmap K) (u := kv i) (m := 1) (r := match kfind i K with | some r => .ref r.2 | none => .fsl []) rfl rfl (by simp [go_sem, hB]) tt63 rfl tt25 (by kernel_rfl) (by simp [go_sem]) (by simp [go_sem, f4]) (by simp [go_sem]; rfl) (by simp [go_sem]; kernel_rfl) (by simp [go_sem]; exact k_tell _ _) ?_ ?_
      · rw [lookA, findM_k]
        cases kfind i K with
        | none => simp [go_sem]
        | some r => simp
      refine K_impE (α := Nat × (Nat → AObj) × Nat) (fun (q, τ2, m2) => my ≤ m2 ∧ q < m2 ∧ τ2 q = .arr 10 (nodesT (grp rest i)) ∧ ∀ j, j < my → τ2 j = τ' j) (fun (q, τ2, m2) => ⟨sl [(9, A), (10, .mapr 1), (60, .i x.stops.length), (61, .i i), (67, .ref q)], τ2, m2⟩) ?_ ?_
      · cases hf : kfind i K with
        | none =>
          have hgr : grp rest i = [] := g2.none _ (kfind_none hf)
          refine ⟨(my, _, my + 1), ⟨by omega, by omega, ?_, ?_⟩, (Imp.own (t := 67) (sz := 10) (by simp [go_sem])).trans (Imp.slots (by simp [go_sem]) rfl rfl)⟩
          · rw [hgr]; simp [oput, nodesT]
          · intro j hj; simp [oput, show ¬ j = my by omega]
        | some r =>
          obtain ⟨j, q⟩ := r
          obtain ⟨hj1, hj2⟩ := kfind_some hf
          have hmem : ((i : Int), q) ∈ K := hj2 ▸ List.getElem_mem hj1
          obtain ⟨r1, r2, r3⟩ := g2.rows _ hmem
          refine ⟨(q, _, my), ⟨Nat.le_refl _, by simp only at r3 ⊢; omega, ?_, fun _ _ => rfl⟩, Imp.slots (by simp [go_sem]) rfl rfl⟩
          exact (f6 _ hmem).trans r1
      rintro ⟨q, τ2, m2⟩ ⟨e1, e2, e3, e4⟩
      refine K_call rfl rfl rfl (args := [.ref q]) (f := 26) (by simp [go_sem]) (by simp [go_sem, hB]) (htg _ _ _ e2 e3) ?_
      generalize together (grp rest i) = TG at *
      obtain ⟨tn, tb⟩ := TG
      have hcap1 : 1 ≤ mostLen := by decide
      have hcap2 : (nodesT out).length + 1 ≤ mostLen := by rw [nodesT, List.length_map]; omega
      have m1 : ¬ 1 = m2 := by omega
      have m0 : ¬ 1 = m2 + 1 := by omega
      have hlow : ∀ j, ny ≤ j → j ≠ 1 := fun j h => by omega
      cases tb with
      | false =>
        rw [hone, if_neg (by simp), List.append_nil] at f3
        refine K_run hB 100 ?_
        simp [go_sem, Node.a, Node.cs, hii]
        refine Next.mk (i + 1, A, out, _, m2 + 1) ?_ (Imp.slots (by simp [go_sem]) rfl rfl) (by simp only; omega)
        refine ⟨by simp only; omega, ?_, ⟨f3, by simp only; omega⟩, by simp [oput, m1, e4 1 (by omega), f4], by simp only; omega, ?_⟩
        · rcases f2 with f2 | ⟨q', f2, f7, f8, f9⟩
          · exact .inl f2
          · exact .inr ⟨q', f2, by simp [oput, show ¬ q' = m2 by omega, e4 q' f9, f7], f8, by simp only; omega⟩
        · intro a b hab
          have h1 := (g2.rows _ hab).2.2
          have h2 := f6 _ hab
          simp only at h1 h2
          simp [oput, show ¬ b = m2 by omega, e4 b (by omega), h2]
      | true =>
        rw [hone, if_pos (by simp)] at f3
        simp only at f3
        have hsn : nodesT (out ++ [tn]) = nodesT out ++ [tn.t] := by simp [nodesT]
        rcases f2 with f2 | ⟨q', f2, f7, f8, f9⟩
        · subst f2
          refine K_run hB 100 ?_
          simp [go_sem, Node.a, Node.cs, hcap1, hcap2, hii, if_pos (nodesT_len out)]
          refine Next.mk (i + 1, .ref (m2 + 1), out ++ [tn], _, m2 + 2) ?_ (Imp.slots (by simp [go_sem]) rfl rfl) (by simp only; omega)
          refine ⟨by simp only; omega, .inr ⟨m2 + 1, rfl, ?_, by omega, by simp only; omega⟩, ⟨f3, by simp only [List.length_append, List.length_cons, List.length_nil]; omega⟩, by simp [oput, m1, m0, e4 1 (by omega), f4, show ¬ m2 = 0 by omega], by simp only; omega, ?_⟩
          · rw [hsn]; simp [oput, Node.t]
          · intro a b hab
            have h1 := (g2.rows _ hab).2.2
            have h2 := f6 _ hab
            simp only at h1 h2
            simp [oput, show ¬ b = m2 by omega, show ¬ b = m2 + 1 by omega, e4 b (by omega), h2]
        · subst f2
          have hq1 : ¬ q' = m2 := by omega
          have hq2 : ¬ m2 = q' := by omega
          have hq3 : ¬ 1 = q' := by omega
          refine K_run hB 100 ?_
          simp [go_sem, Node.a, Node.cs, hcap1, hcap2, hii, hq1, e4 q' f9, f7]
          refine Next.mk (i + 1, .ref (m2 + 1), out ++ [tn], _, m2 + 2) ?_ (Imp.slots (by simp [go_sem]) rfl rfl) (by simp only; omega)
          refine ⟨by simp only; omega, .inr ⟨m2 + 1, rfl, ?_, by omega, by simp only; omega⟩, ⟨f3, by simp only [List.length_append, List.length_cons, List.length_nil]; omega⟩, by simp [oput, m1, m0, hq3, e4 1 (by omega), f4, show ¬ m2 = 0 by omega], by simp only; omega, ?_⟩
          · rw [hsn]; simp [oput, Node.t]
          · intro a b hab
            have h1 := (g2.rows _ hab).2.2
            have h2 := f6 _ hab
            simp only at h1 h2
            simp [oput, show ¬ b = m2 by omega, show ¬ b = m2 + 1 by omega, show ¬ b = q' by omega, e4 b (by omega), h2]
    · have : i = x.stops.length := by omega
      subst this
      rw [List.drop_of_length_le (by simp), List.flatMap_nil, List.append_nil] at f3
      subst f3
      rcases f2 with f2 | ⟨q', f2, f7, f8, f9⟩
      · subst f2
        simp [go_sem]
      · subst f2
        simp [go_sem, f7]
end Go.Proofs.Ytdjbapglfdacmaa

/- Sets: what is in both, what is in one of two: the document's. -/
set_option maxRecDepth 4000
namespace Go.Proofs.Ytdjbapglfdacmaa
open Go Go.Proofs.Ytdjbapglfdacmaa.R
theorem mod_step (a i : Nat) (hi : i < 64) : a % 2 ^ (i + 1) = if a.testBit i = true then withN (a % 2 ^ i) (i : Int) else a % 2 ^ i := by
  have hb : bitN (i : Int) = 2 ^ i := by rw [bitN, if_pos (by omega)]; rfl
  refine Nat.eq_of_testBit_eq fun k => ?_
  have h1 : ∀ k, (withN (a % 2 ^ i) (i : Int)).testBit k = ((a % 2 ^ i).testBit k || decide (i = k)) := fun k => by rw [withN, hb, Nat.testBit_or, Nat.testBit_two_pow]
  rw [Nat.testBit_mod_two_pow]
  by_cases e : k = i
  · subst e
    split
    · rename_i h
      rw [h1, h]; simp
    · rename_i h
      rw [Nat.testBit_mod_two_pow]; simp [h]
  · split
    · rw [h1, Nat.testBit_mod_two_pow, show decide (i = k) = false from decide_eq_false (fun h => e h.symm), Bool.or_false]
      congr 1
      rw [decide_eq_decide]; omega
    · rw [Nat.testBit_mod_two_pow]
      congr 1
      rw [decide_eq_decide]; omega
theorem mod_le (a i : Nat) (h : a < 2 ^ 64) : a % 2 ^ i < 2 ^ 64 := Nat.lt_of_le_of_lt (Nat.mod_le _ _) h
/-- The stops of a set that are less than one. -/
def modN (a i : Nat) : Nat := a % 2 ^ i
theorem modN_step (a i : Nat) (hi : i < 64) : modN a (i + 1) = if a.testBit i = true then withN (modN a i) (i : Int) else modN a i := mod_step a i hi
theorem modN_full {a : Nat} (h : a < 2 ^ 64) : modN a 64 = a := Nat.mod_eq_of_lt h
theorem modN_zero (a : Nat) : modN a 0 = 0 := Nat.mod_one a
theorem rand_pure (s t : Nat) (hs : s < 2 ^ 64) (ht : t < 2 ^ 64) : Pure P 75 [.u s, .u t] (.u (s &&& t : Nat)) := by
  have hst : s &&& t < 2 ^ 64 := Nat.and_lt_two_pow _ ht
  have hbit : ∀ i, (s &&& t).testBit i = (s.testBit i && t.testBit i) := fun i => Nat.testBit_and _ _ _
  have hfull := modN_full hst
  refine pure_of Try.func75 rfl rfl (by simp [Try.f75]) (by simp [bnd, bnd.bndL]) (by simp [bnd, bnd.bndL]) fun B hB hnx => ?_
  simp only [Try.f75] at hB ⊢
  generalize s &&& t = a at *
  refine K_run hB 100 ?_
  simp [go_sem]
  refine K_loopP (α := Nat) (fun i => i ≤ 64) (fun i => ⟨sl [(0, .u s), (1, .u t), (5, .u (modN a i)), (6, .i i)], noObj, 0⟩) (fun i => 64 - i) 0 (by omega) (Imp.slots (by simp [go_sem, modN_zero]) rfl rfl) ?_
  intro i g1
  by_cases hi : (i : Int) < 64
  · have hi' : i < 64 := by omega
    have hii : IntKind.i64.wrap ((i : Int) + 1) = ((i + 1 : Nat) : Int) := by rw [w64 ((i : Int) + 1) (by omega)]; rfl
    have hm := modN_step a i hi'
    rw [hbit] at hm
    have hc := mod_le a i hst
    have h1 := rhas_pure s i hs
    have h2 := rhas_pure t i ht
    have h3 := rwith_pure (modN a i) i hc
    rw [has_nat hi'] at h1 h2
    refine K_run hB 60 ?_
    simp [go_sem, hi]
    refine K_call rfl rfl rfl (args := [.u s, .i i]) (f := 93) (by simp [go_sem]) (by simp [go_sem, hB]) ((h1).spec _ _) ?_
    refine K_run hB 100 ?_
    simp [go_sem]
    refine K_call rfl rfl rfl (args := [.u t, .i i]) (f := 93) (by simp [go_sem]) (by simp [go_sem, hB]) ((h2).spec _ _) ?_
    cases e1 : s.testBit i <;> cases e2 : t.testBit i <;> rw [e1, e2] at hm
    · rw [if_neg (by simp)] at hm
      refine K_run hB 100 ?_
      simp [go_sem, hii]
      exact Next.mk (i + 1) (by omega) (Imp.slots (by simp [go_sem, hm]) rfl rfl) (by omega)
    · rw [if_neg (by simp)] at hm
      refine K_run hB 100 ?_
      simp [go_sem, hii]
      exact Next.mk (i + 1) (by omega) (Imp.slots (by simp [go_sem, hm]) rfl rfl) (by omega)
    · rw [if_neg (by simp)] at hm
      refine K_run hB 100 ?_
      simp [go_sem, hii]
      exact Next.mk (i + 1) (by omega) (Imp.slots (by simp [go_sem, hm]) rfl rfl) (by omega)
    · rw [if_pos (by simp)] at hm
      refine K_run hB 100 ?_
      simp [go_sem]
      refine K_call rfl rfl rfl (args := [.u (modN a i), .i i]) (f := 94) (by simp [go_sem]) (by simp [go_sem, hB]) ((h3).spec _ _) ?_
      refine K_run hB 100 ?_
      simp [go_sem, hii]
      exact Next.mk (i + 1) (by omega) (Imp.slots (by simp [go_sem, hm]) rfl rfl) (by omega)
  · have : i = 64 := by omega
    subst this
    refine K_run hB 60 ?_
    simp [go_sem, hfull]
/-- The stops of a set. -/
def allU (s i : Nat) : List Int := ((List.range i).filter fun i => s.testBit i).map fun (i : Nat) => (i : Int)
def allL (s : Nat) : List Int := allU s 64
theorem allU_len (s i : Nat) : (allU s i).length ≤ i := by
  rw [allU, List.length_map]
  exact Nat.le_trans (List.length_filter_le _ _) (by simp)
theorem allU_step (s i : Nat) : allU s (i + 1) = allU s i ++ if s.testBit i = true then [(i : Int)] else [] := by
  rw [allU, allU, List.range_succ, List.filter_append, List.map_append]
  congr 1
  cases h : s.testBit i <;> simp [h]
theorem rall02_pure (s : Nat) (hs : s < 2 ^ 64) : Pure P 95 [.u s] (.t (.sl (ints (allL s)))) := by
  generalize hR : allL s = R
  refine pure_of Try.func95 rfl rfl (by simp [Try.f95]) (by simp [bnd, bnd.bndL]) (by simp [bnd, bnd.bndL]) fun B hB hnx => ?_
  simp only [Try.f95] at hB ⊢
  refine K_run hB 100 ?_
  simp [go_sem]
  refine K_own 3 1 (by simp [go_sem]) ?_
  refine K_loopP (α := Nat × Nat × (Nat → AObj) × Nat) (fun (i, q, τ, ny) => i ≤ 64 ∧ τ q = .arr 1 (ints (allU s i)) ∧ q < ny) (fun (i, q, τ, ny) => ⟨sl [(0, .u s), (3, .ref q), (4, .i i)], τ, ny⟩) (fun a => 64 - a.1) (0, 0, _, 1) ?_ (Imp.slots (by simp [go_sem]) rfl rfl) ?_
  · exact ⟨by omega, by simp [oput, allU, ints], by omega⟩
  rintro ⟨i, q, τ, ny⟩ ⟨g1, g2, g3⟩
  by_cases hi : (i : Int) < 64
  · have hi' : i < 64 := by omega
    have hii : IntKind.i64.wrap ((i : Int) + 1) = ((i + 1 : Nat) : Int) := by rw [w64 ((i : Int) + 1) (by omega)]; rfl
    have h1 := rhas_pure s i hs
    rw [has_nat hi'] at h1
    have hsn := allU_step s i
    have hlen := allU_len s i
    generalize hL' : allU s (i + 1) = L' at *
    generalize allU s i = L at *
    have hil : (ints L).length = L.length := List.length_map _
    have hcap : L.length + 1 ≤ mostLen := by show _ ≤ 4294967296; omega
    refine K_run hB 60 ?_
    simp [go_sem, hi]
    refine K_call rfl rfl rfl (args := [.u s, .i i]) (f := 93) (by simp [go_sem]) (by simp [go_sem, hB]) ((h1).spec _ _) ?_
    cases e1 : s.testBit i with
    | false =>
      rw [e1, if_neg (by simp), List.append_nil] at hsn
      subst hsn
      refine K_run hB 100 ?_
      simp [go_sem, hii]
      exact Next.mk (i + 1, q, τ, ny) ⟨by simp only; omega, by simp only; rw [hL']; exact g2, g3⟩ (Imp.slots (by simp [go_sem]) rfl rfl) (by simp only; omega)
    | true =>
      rw [e1, if_pos rfl] at hsn
      refine K_run hB 100 ?_
      simp [go_sem, g2, hil, hcap, hii]
      refine Next.mk (i + 1, ny, _, ny + 1) ⟨by simp only; omega, ?_, by simp only; omega⟩ (Imp.slots (by simp [go_sem]) rfl rfl) (by simp only; omega)
      simp only
      rw [hL', hsn]
      simp [oput, ints]
  · have : i = 64 := by omega
    subst this
    refine K_run hB 60 ?_
    simp [go_sem, g2]
    rw [← hR]; rfl
theorem fold_with (s t : Nat) : ∀ n, n ≤ 64 → (allU t n).foldl withN s = s ||| t % 2 ^ n
  | 0, _ => by simp [allU, Nat.mod_one]
  | n + 1, h => by
    have hb : bitN (n : Int) = 2 ^ n := by rw [bitN, if_pos (by omega)]; rfl
    rw [allU_step, List.foldl_append, fold_with s t n (by omega), mod_step t n (by omega)]
    cases e : t.testBit n with
    | false => simp
    | true =>
      simp only [if_true, List.foldl_cons, List.foldl_nil, withN, hb]
      rw [Nat.or_assoc]
theorem ror_pure (s t : Nat) (hs : s < 2 ^ 64) (ht : t < 2 ^ 64) : Pure P 76 [.u s, .u t] (.u (s ||| t : Nat)) := by
  have hf : (allL t).foldl withN s = s ||| t := by rw [allL, fold_with s t 64 (by omega), Nat.mod_eq_of_lt ht]
  have hal := rall02_pure t ht
  have hll : (allL t).length ≤ 64 := allU_len t 64
  refine pure_of Try.func76 rfl rfl (by simp [Try.f76]) (by simp [bnd, bnd.bndL]) (by simp [bnd, bnd.bndL]) fun B hB hnx => ?_
  simp only [Try.f76] at hB ⊢
  generalize s ||| t = R at *
  generalize allL t = L at *
  have hil : (ints L).length = L.length := List.length_map _
  have hgt : ∀ (k : Nat) (h : k < L.length), (ints L)[k]'(by rw [hil]; exact h) = [.i L[k]] := fun k h => by simp [ints]
  generalize hX : ints L = X at *
  refine K_run hB 100 ?_
  simp [go_sem]
  refine K_call rfl rfl rfl (args := [.u t]) (f := 95) (by simp [go_sem]) (by simp [go_sem, hB]) ((hal).spec _ _) ?_
  refine K_run hB 100 ?_
  simp [go_sem]
  refine K_loopP (α := Nat × Nat) (fun (k, a) => k ≤ L.length ∧ (L.drop k).foldl withN a = R ∧ a < 2 ^ 64) (fun (k, a) => ⟨sl [(5, .u a), (6, .t (.sl X)), (7, .i k)], noObj, 0⟩) (fun a => L.length - a.1) (0, s) ⟨Nat.zero_le _, hf, hs⟩ (Imp.slots (by simp [go_sem]) rfl rfl) ?_
  rintro ⟨k, a⟩ ⟨g1, g2, g3⟩
  refine K_run hB 60 ?_
  simp [go_sem, hil]
  refine fork_dec (fun hk => ?_) (fun hk => ?_)
  · have hkk : IntKind.i64.wrap ((k : Int) + 1) = ((k + 1 : Nat) : Int) := by rw [w64 ((k : Int) + 1) (by omega)]; rfl
    have hget : ∀ h : k < X.length, X[k]'h = [.i L[k]] := fun h => hgt k hk
    rw [List.drop_eq_getElem_cons hk, List.foldl_cons] at g2
    generalize L[k] = j at *
    have h3 := rwith_pure a j g3
    have h4 := withN_lt g3 j
    generalize withN a j = a' at *
    simp [go_sem, hil, hk, hget]
    refine K_call rfl rfl rfl (args := [.u a, .i j]) (f := 94) (by simp [go_sem]) (by simp [go_sem, hB]) ((h3).spec _ _) ?_
    refine K_run hB 100 ?_
    simp [go_sem, hkk]
    exact Next.mk (k + 1, a') ⟨by simp only; omega, g2, h4⟩ (Imp.slots (by simp [go_sem]) rfl rfl) (by simp only; omega)
  · have : k = L.length := by omega
    subst this
    rw [List.drop_length, List.foldl_nil] at g2
    subst g2
    simp [go_sem]
end Go.Proofs.Ytdjbapglfdacmaa

/- States thrown together, nodes squeezed: the document's. -/
set_option maxRecDepth 4000
set_option maxHeartbeats 1000000
namespace Go.Proofs.Ytdjbapglfdacmaa
open Go Go.Proofs.Ytdjbapglfdacmaa.R
def joinR : State → List State → State × Bool
  | s, [] => (s, true)
  | s, t :: l => if t.spot = s.spot then joinR (s.join t) l else (State.zero, false)
theorem joinL_R : ∀ (l : List State) (s : State), joinL (s :: l) = joinR s l
  | [], s => rfl
  | t :: l, s => by
    rw [joinR, ← joinL_R l (s.join t), joinL, joinL]
    by_cases h : t.spot = s.spot
    · rw [if_pos h, List.any_cons, List.foldl_cons, decide_eq_false (fun e => e h), Bool.false_or]
      rfl
    · rw [if_neg h, List.any_cons, decide_eq_true h, Bool.true_or, if_pos rfl]
theorem least_pure (a b : Int) : Pure P 74 [.i a, .i b] (.i (min a b)) := by
  refine pure_of Try.func74 rfl rfl (by simp [Try.f74]) (by simp [bnd, bnd.bndL]) (by simp [bnd, bnd.bndL]) fun B hB hnx => ?_
  simp only [Try.f74] at hB ⊢
  by_cases h : a < b
  · refine K_run hB 100 ?_
    simp [go_sem, h]
    omega
  · refine K_run hB 100 ?_
    simp [go_sem, h]
    omega
theorem rjoin_spec (l : List State) (hl : l.length < 2 ^ 31) (hlo : ∀ t ∈ l, t.ok) {σ : Nat → AObj} {nx r : Nat} (hr : r < nx) (hσr : σ r = .arr 8 (l.map State.row)) :
    CallSpec P 51 [.ref r] σ nx (.tup [(joinL l).1.a, .b (joinL l).2]) σ nx := by
  refine spec_keep Try.func51 rfl rfl (by simp [Try.f51]) (by simp [bnd, bnd.bndL, State.a, State.cs]) fun hk B hB hnx hσB => ?_
  simp only [Try.f51] at hB ⊢
  have m1 : ¬ r = nx := by omega
  have m2 : ¬ r = nx + 1 := by omega
  cases l with
  | nil =>
    have hrl : σ r = .arr 8 [] := hσr
    have e : joinL [] = (State.zero, false) := rfl
    rw [e]
    refine K_run hB 100 ?_
    simp [go_sem, hrl, m1, m2]
    exact ⟨fun i h => by simp [show ¬ i = nx by omega], rfl⟩
  | cons s l =>
    generalize hR : joinL (s :: l) = R
    rw [joinL_R] at hR
    have hso := hlo s List.mem_cons_self
    have hlo2 : ∀ t ∈ l, t.ok := fun t h => hlo t (List.mem_cons_of_mem _ h)
    rw [List.length_cons] at hl
    obtain ⟨X, hX⟩ : ∃ X, X = (s :: l).map State.row := ⟨_, rfl⟩
    rw [← hX] at hσr
    have hil : X.length = l.length + 1 := by rw [hX]; simp
    have hg0 : ∀ h : 0 < X.length, X[0]'h = s.row := fun h => by simp only [hX]; rfl
    have hgt : ∀ (k : Nat) (h : k < l.length) (h' : k + 1 < X.length), X[k + 1]'h' = l[k].row := fun k h h' => by simp [hX]
    clear hX
    have hq0 : ¬ (l.length : Int) + 1 = 0 := by omega
    refine K_run hB 100 ?_
    simp [go_sem, hσr, hil, hg0, m1, m2, State.row, hq0]
    refine K_loopP (α := Nat × State × (Nat → AObj) × Nat) (fun (i, s, τ, ny) => 1 ≤ i ∧ i ≤ l.length + 1 ∧ joinR s (l.drop (i - 1)) = R ∧ s.ok ∧ τ (nx + 1) = .box s.cs ∧ τ nx = .box State.zero.cs ∧ nx + 2 ≤ ny ∧ ∀ i, i < nx → τ i = σ i)
      (fun (i, s, τ, ny) => ⟨sl [(0, .ref r), (2, .ptr nx 0), (3, .b false), (4, .ptr (nx + 1) 0), (5, .i i)], τ, ny⟩) (fun a => l.length + 1 - a.1) (1, s, _, nx + 2) ?_ (Imp.slots (by simp [go_sem]) rfl rfl) ?_
    · refine ⟨Nat.le_refl _, by omega, hR, hso, by simp [oput, State.cs], by simp [oput, State.cs, State.zero], by omega, fun i h => by simp [oput, show ¬ i = nx by omega, show ¬ i = nx + 1 by omega]⟩
    clear hR hso
    rintro ⟨i, s, τ, ny⟩ ⟨g0, g1, g2, g3, g4, g5, g6, g7⟩
    have hτr : τ r = .arr 8 X := (g7 r hr).trans hσr
    have n1 : ¬ r = ny := by omega
    have n2 : ¬ nx + 1 = ny := by omega
    have n3 : ¬ nx = ny := by omega
    have n4 : ¬ ny = nx + 1 := by omega
    have n5 : ¬ ny = nx := by omega
    by_cases hk : i < l.length + 1
    · have hk1 : (i : Int) < (l.length : Int) + 1 := by omega
      have hkk : IntKind.i64.wrap ((i : Int) + 1) = ((i + 1 : Nat) : Int) := by rw [w64 _ (by omega)]; rfl
      obtain ⟨k, rfl⟩ : ∃ k, i = k + 1 := ⟨i - 1, by omega⟩
      have hkl : k < l.length := by omega
      have hget : ∀ h : k + 1 < X.length, X[k + 1]'h = l[k].row := fun h => hgt k hkl h
      rw [Nat.add_sub_cancel, List.drop_eq_getElem_cons hkl, joinR] at g2
      have hto := hlo2 l[k] (List.getElem_mem _)
      generalize l[k] = t at *
      have hl1 := least_pure s.car t.car
      have hl2 := least_pure s.time t.time
      have hl3 := least_pure s.load t.load
      have hl4 := least_pure s.first t.first
      have ha1 := rand_pure s.must t.must g3.must hto.must
      have ha2 := rand_pure s.on t.on g3.on hto.on
      have ho1 := ror_pure s.can t.can g3.can hto.can
      have hdk : l.drop (k + 1) = l.drop (k + 1 + 1 - 1) := rfl
      rw [hdk] at g2
      generalize k + 1 = i at *
      by_cases c1 : t.spot = s.spot
      rotate_left
      · rw [if_neg c1] at g2
        subst g2
        refine K_run hB 60 ?_
        simp [go_sem, hτr, hil, hk, hk1, hget, n1, n2, n3, n4, State.row, g4, State.cs, c1, g5]
        exact ⟨by omega, fun i h => by simp [show ¬ i = nx by omega, show ¬ i = ny by omega, g7 i h], rfl⟩
      rw [if_pos c1] at g2
      have hjo := join_ok g3 hto
      have hj : s.join t = ⟨s.spot, min s.car t.car, min s.time t.time, min s.load t.load, min s.first t.first, s.must &&& t.must, s.can ||| t.can, s.on &&& t.on⟩ := rfl
      refine K_run hB 60 ?_
      simp [go_sem, hτr, hil, hk, hk1, hget, n1, n2, n3, n4, State.row, g4, State.cs, c1, g5]
      refine K_drawnT [38] rfl (by rw [hB]; kernel_rfl) (by kernel_rfl) fun ht => ?_
      refine K_run hB 60 ?_
      simp [go_sem, ht, n2, n4, g4, State.cs]
      refine K_dCallP rfl rfl rfl (args := [.i s.car, .i t.car]) (f := 74) (by simp [go_sem]) (hl1) ?_
      refine K_run hB 60 ?_
      simp [go_sem, ht, n2, n4, g4, State.cs]
      refine K_dCallP rfl rfl rfl (args := [.i s.time, .i t.time]) (f := 74) (by simp [go_sem]) (hl2) ?_
      refine K_run hB 60 ?_
      simp [go_sem, ht, n2, n4, g4, State.cs]
      refine K_dCallP rfl rfl rfl (args := [.i s.load, .i t.load]) (f := 74) (by simp [go_sem]) (hl3) ?_
      refine K_run hB 60 ?_
      simp [go_sem, ht, n2, n4, g4, State.cs]
      refine K_dCallP rfl rfl rfl (args := [.i s.first, .i t.first]) (f := 74) (by simp [go_sem]) (hl4) ?_
      refine K_run hB 60 ?_
      simp [go_sem, ht, n2, n4, g4, State.cs]
      refine K_dCallP rfl rfl rfl (args := [.u s.must, .u t.must]) (f := 75) (by simp [go_sem]) (ha1) ?_
      refine K_run hB 60 ?_
      simp [go_sem, ht, n2, n4, g4, State.cs]
      refine K_dCallP rfl rfl rfl (args := [.u s.can, .u t.can]) (f := 76) (by simp [go_sem]) (ho1) ?_
      refine K_run hB 60 ?_
      simp [go_sem, ht, n2, n4, g4, State.cs]
      refine K_dCallP rfl rfl rfl (args := [.u s.on, .u t.on]) (f := 75) (by simp [go_sem]) (ha2) ?_
      refine K_run hB 60 ?_
      simp [go_sem, ht, n2, n4, g4, State.cs, hkk]
      refine Next.mk (i + 1, s.join t, _, ny + 1) ?_ (Imp.slots (by simp [go_sem]) rfl rfl) (by simp only; omega)
      refine ⟨by simp only; omega, by simp only; omega, g2, hjo, by simp [oput, State.cs, hj], by simp [oput, g5, n3, State.cs], by simp only; omega, fun i h => by simp [oput, show ¬ i = ny by omega, show ¬ i = nx + 1 by omega, g7 i h]⟩
    · have hk1 : ¬ (i : Int) < (l.length : Int) + 1 := by omega
      rw [List.drop_of_length_le (by omega), joinR] at g2
      subst g2
      refine K_run hB 60 ?_
      simp [go_sem, hτr, hil, hk1, g4, g5, State.cs]
      exact ⟨by omega, fun i h => by simp [show ¬ i = nx by omega, g7 i h], rfl⟩
end Go.Proofs.Ytdjbapglfdacmaa

/- The node of all of some that are at a stop; nodes squeezed: the document's. -/
set_option maxRecDepth 4000
set_option maxHeartbeats 1000000
namespace Go.Proofs.Ytdjbapglfdacmaa
open Go Go.Proofs.Ytdjbapglfdacmaa.R
theorem rwidth_pure (x : Inst) (w : Int) : Pure P 28 [x.a, .i w] (.i (x.mostN w)) := by
  have hM := mostN_eq x w
  refine pure_of Try.func28 rfl rfl (by simp [Try.f28]) (by simp [bnd, bnd.bndL, Inst.a]) (by simp [bnd, bnd.bndL]) fun B hB hnx => ?_
  simp only [Try.f28] at hB ⊢
  by_cases h : w < x.stops.length
  · refine K_run hB 100 ?_
    simp [go_sem, Inst.a, h]
    omega
  · refine K_run hB 100 ?_
    simp [go_sem, Inst.a, h]
    omega
theorem atStop_snoc (L : List Node) (n : Node) (i : Nat) : atStop (L ++ [n]) i = atStop L i ++ if n.s.spot = i then [n] else [] := grp_snoc L n i
theorem rtogether_pure (l : List Node) (i : Nat) (hl : l.length < 2 ^ 31) (hlo : ∀ n ∈ l, n.s.ok) : Pure P 29 [.t (.sl (nodesT l)), .i i] (.tup [(together (atStop l i)).1.a, .b (together (atStop l i)).2]) := by
  refine pure_of Try.func29 rfl rfl (by simp [Try.f29]) (by simp [bnd, bnd.bndL]) (by simp [bnd, bnd.bndL, Node.a, Node.cs]) fun B hB hnx => ?_
  simp only [Try.f29] at hB ⊢
  have hil : (nodesT l).length = l.length := List.length_map _
  have hgt : ∀ (k : Nat) (h : k < l.length), (nodesT l)[k]'(by rw [hil]; exact h) = l[k].t := fun k h => nodesT_get l h
  have hmost : mostLen = 4294967296 := rfl
  generalize hX : nodesT l = X at *
  refine K_run hB 100 ?_
  simp [go_sem, hil]
  refine K_own 6 8 (by simp [go_sem]) ?_
  refine K_loopP (α := Nat × Nat × List Node × (Nat → AObj) × Nat) (fun (k, q, g, τ, ny) => k ≤ l.length ∧ g = atStop (l.take k) i ∧ τ q = .arr 8 (g.map fun n => n.s.row) ∧ τ 0 = .box (nodeC State.zero 0 (.fsl [])) ∧ 0 < q ∧ q < ny)
    (fun (k, q, g, τ, ny) => ⟨sl [(0, .t (.sl X)), (1, .i i), (4, .ptr 0 0), (5, .b false), (6, .ref q), (7, .i (costL g)), (8, .i k)], τ, ny⟩) (fun a => l.length - a.1) (0, 1, [], _, 2) ?_ (Imp.slots (by simp [go_sem, costL]) rfl rfl) ?_
  · exact ⟨Nat.zero_le _, rfl, by simp [oput], by simp [oput, State.zero], by omega, by omega⟩
  rintro ⟨k, q, g, τ, ny⟩ ⟨g1, g2, g3, g4, g5, g6⟩
  have hgl : g.length ≤ k := by
    rw [g2]
    refine Nat.le_trans (List.length_filter_le _ _) ?_
    rw [List.length_take]; omega
  have hrl : (g.map fun n => n.s.row).length = g.length := List.length_map _
  refine K_run hB 60 ?_
  simp [go_sem, hil]
  refine fork_dec (fun hk => ?_) (fun hk => ?_)
  · have hkk : IntKind.i64.wrap ((k : Int) + 1) = ((k + 1 : Nat) : Int) := by rw [w64 ((k : Int) + 1) (by omega)]; rfl
    have hget : ∀ h : k < X.length, X[k]'h = l[k].t := fun h => hgt k hk
    have hsn := atStop_snoc (l.take k) l[k] i
    rw [← List.take_succ_eq_append_getElem hk, ← g2] at hsn
    have hcs := costL_snoc g l[k]
    generalize l[k] = m at *
    have hcap : g.length + 1 ≤ mostLen := by omega
    have n1 : ¬ 0 = q := by omega
    have n2 : ¬ 0 = ny := by omega
    by_cases c0 : m.s.spot = i
    rotate_left
    · rw [if_neg c0, List.append_nil] at hsn
      simp [go_sem, hil, hk, hget, Node.t, c0, hkk]
      exact Next.mk (k + 1, q, g, τ, ny) ⟨by simp only; omega, hsn.symm, g3, g4, g5, g6⟩ (Imp.slots (by simp [go_sem]) rfl rfl) (by simp only; omega)
    rw [if_pos c0] at hsn
    have hrow : (g.map fun n => n.s.row) ++ [m.s.row] = (g ++ [m]).map fun n => n.s.row := by simp
    generalize hgm : (g.map fun n => n.s.row) = rows at *
    by_cases c1 : g = []
    · rw [if_pos (.inl c1)] at hcs
      simp [go_sem, hil, hk, hget, Node.t, c0, hkk, g3, hrl, hcap, eq_true c1]
      refine K_run hB 100 ?_
      simp [go_sem, hil, hk, hget, Node.t, g3, hrl, hcap, hkk]
      refine Next.mk (k + 1, ny, g ++ [m], _, ny + 1) ?_ (Imp.slots (by simp [go_sem, hcs]) rfl rfl) (by simp only; omega)
      refine ⟨by simp only; omega, hsn.symm, ?_, by simp [oput, n1, n2, g4], by simp only; omega, by simp only; omega⟩
      simp only
      rw [← hrow]
      simp [oput, State.row, c0]
    by_cases c2 : m.cost < costL g
    · rw [if_pos (.inr c2)] at hcs
      simp [go_sem, hil, hk, hget, Node.t, c0, hkk, g3, hrl, hcap, c1, c2]
      refine K_run hB 100 ?_
      simp [go_sem, hil, hk, hget, Node.t, g3, hrl, hcap, hkk]
      refine Next.mk (k + 1, ny, g ++ [m], _, ny + 1) ?_ (Imp.slots (by simp [go_sem, hcs]) rfl rfl) (by simp only; omega)
      refine ⟨by simp only; omega, hsn.symm, ?_, by simp [oput, n1, n2, g4], by simp only; omega, by simp only; omega⟩
      simp only
      rw [← hrow]
      simp [oput, State.row, c0]
    · rw [if_neg (by rintro (h | h); exact c1 h; exact c2 h)] at hcs
      simp [go_sem, hil, hk, hget, Node.t, c0, hkk, g3, hrl, hcap, c1, c2]
      refine K_run hB 100 ?_
      simp [go_sem, hil, hk, hget, Node.t, g3, hrl, hcap, hkk]
      refine Next.mk (k + 1, ny, g ++ [m], _, ny + 1) ?_ (Imp.slots (by simp [go_sem, hcs]) rfl rfl) (by simp only; omega)
      refine ⟨by simp only; omega, hsn.symm, ?_, by simp [oput, n1, n2, g4], by simp only; omega, by simp only; omega⟩
      simp only
      rw [← hrow]
      simp [oput, State.row, c0]
  · have : k = l.length := by omega
    subst this
    rw [List.take_length] at g2
    have hjs := fun (τ' : Nat → AObj) (h1 : τ' q = .arr 8 ((g.map fun n => n.s).map State.row)) => rjoin_spec (g.map fun n => n.s) (by rw [List.length_map]; omega) (fun t ht => by
      obtain ⟨n, hn, rfl⟩ := List.mem_map.1 ht
      rw [g2] at hn
      exact hlo n (atStop_mem.1 hn).1) (σ := τ') (nx := ny) (r := q) g6 h1
    rw [← g2]
    have htg : together g = (⟨(joinL (g.map fun n => n.s)).1, costL g, []⟩, (joinL (g.map fun n => n.s)).2) := rfl
    generalize together g = TG at *
    generalize joinL (g.map fun n => n.s) = J at *
    generalize costL g = c at *
    subst htg
    simp [go_sem]
    refine K_call rfl rfl rfl (args := [.ref q]) (f := 51) (by simp [go_sem]) (by simp [go_sem, hB]) (hjs _ (by rw [List.map_map]; exact g3)) ?_
    have n2 : ¬ 0 = ny := by omega
    refine K_run hB 100 ?_
    simp [go_sem, State.a, State.cs, g4, n2]
    rfl
end Go.Proofs.Ytdjbapglfdacmaa

/- Nodes squeezed: the document's. -/
set_option maxRecDepth 4000
set_option maxHeartbeats 1000000
namespace Go.Proofs.Ytdjbapglfdacmaa
open Go Go.Proofs.Ytdjbapglfdacmaa.R
theorem rsqueeze_pure (x : Inst) (l : List Node) (w : Int) (hx : x.stops.length < 2 ^ 31) (hl : l.length < 2 ^ 31) (hn : ∀ n ∈ l, n.Fine) : Pure P 11 [x.a, .t (.sl (nodesT l)), .i w] (.t (.sl (nodesT (x.squeeze l w)))) := by
  generalize hR : x.squeeze l w = R
  refine pure_of Try.func11 rfl rfl (by simp [Try.f11]) (by simp [bnd, bnd.bndL, Inst.a]) (by simp [bnd, bnd.bndL]) fun B hB hnx => ?_
  simp only [Try.f11] at hB ⊢
  have hso := rsorted_pure x l hx hl (fun n h => (hn n h).ok)
  have hmo := rwidth_pure x w
  have hfS : ∀ n ∈ x.sortN l, n.Fine := fun n h => hn n (Inst.sortN_mem.1 h)
  have hSl := x.sortN_len l
  rw [Inst.squeeze] at hR
  generalize x.sortN l = S at *
  have hM1 : x.stops.length ≤ x.mostN w := Nat.le_max_right _ _
  generalize x.mostN w = M at *
  have hNl : (nodesT S).length = S.length := List.length_map _
  refine K_run hB 100 ?_
  simp [go_sem, Inst.a]
  refine K_call rfl rfl rfl (args := [x.a, .t (.sl (nodesT l))]) (f := 27) (by simp [go_sem, Inst.a]) (by simp [go_sem, hB]) ((hso).spec _ _) ?_
  refine K_run hB 100 ?_
  simp [go_sem]
  refine K_call rfl rfl rfl (args := [x.a, .i w]) (f := 28) (by simp [go_sem, Inst.a]) (by simp [go_sem, hB]) ((hmo).spec _ _) ?_
  by_cases c1 : S.length ≤ M
  · rw [if_pos c1] at hR
    subst hR
    refine K_run hB 100 ?_
    simp [go_sem, hNl, c1]
  rw [if_neg c1] at hR
  have hM2 : M < 2 ^ 31 := by omega
  obtain ⟨kp, hkp⟩ : ∃ kp, kp = M - x.stops.length := ⟨_, rfl⟩
  have hkp2 : (M : Int) - x.stops.length = kp := by omega
  have hw1 : IntKind.i64.wrap ((M : Int) - x.stops.length) = kp := by rw [hkp2]; exact w64 _ (by omega)
  have hkl : kp < S.length := by omega
  have hS1 := nodesT_len S
  rw [← hkp] at hR
  have hXd : (nodesT S).drop kp = nodesT (S.drop kp) := by rw [nodesT, nodesT, List.map_drop]
  have hXt : (nodesT S).take kp = nodesT (S.take kp) := by rw [nodesT, nodesT, List.map_take]
  have hrl : (S.drop kp).length = S.length - kp := List.length_drop
  have hrf : ∀ n ∈ S.drop kp, n.s.ok := fun n h => (hfS n (List.mem_of_mem_drop h)).ok
  have hfl : (S.take kp).length ≤ kp := by rw [List.length_take]; omega
  have htg := fun i => rtogether_pure (S.drop kp) i (by omega) hrf
  have hone : ∀ i, oneAt (S.drop kp) i = if (together (atStop (S.drop kp) i)).2 = true then [(together (atStop (S.drop kp) i)).1] else [] := fun i => rfl
  have hcap0 : (nodesT (S.take kp)).length ≤ mostLen := by rw [nodesT, List.length_map]; show _ ≤ 4294967296; omega
  have hcap1 : (nodesT (S.take kp)).length ≤ mostLen ∧ ∀ y ∈ nodesT (S.take kp), y.length = 10 := ⟨hcap0, nodesT_len _⟩
  refine K_run hB 100 ?_
  simp [go_sem, hNl, c1, hw1, if_pos hS1, hkl, Nat.le_of_lt hkl, hXd, hXt, if_pos hcap1]
  generalize S.drop kp = rest at *
  generalize S.take kp = front at *
  have hmost : mostLen = 4294967296 := rfl
  refine K_loopP (α := Nat × Nat × List Node × (Nat → AObj) × Nat) (fun (i, q, out, τ, ny) => i ≤ x.stops.length ∧ (out ++ ((List.range x.stops.length).drop i).flatMap (oneAt rest) = R ∧ out.length ≤ kp + i) ∧ τ q = .arr 10 (nodesT out) ∧ τ 0 = .box x.cs ∧ 0 < q ∧ q < ny)
    (fun (i, q, out, τ, ny) => ⟨sl [(3, .ptr 0 0), (9, .ref q), (10, .t (.sl (nodesT rest))), (11, .i i)], τ, ny⟩) (fun a => x.stops.length - a.1) (0, 1, front, _, 2) ?_ (Imp.slots (by simp [go_sem]) rfl rfl) ?_
  · exact ⟨Nat.zero_le _, ⟨hR, hfl⟩, by simp [oput], by simp [oput, Inst.cs], by omega, by omega⟩
  rintro ⟨i, q, out, τ, ny⟩ ⟨f1, ⟨f2, f3⟩, f4, f5, f6, f7⟩
  refine K_run hB 60 ?_
  simp [go_sem, f5, Inst.cs]
  refine fork_dec (fun hi => ?_) (fun hi => ?_)
  · have hii : IntKind.i64.wrap ((i : Int) + 1) = ((i + 1 : Nat) : Int) := by rw [w64 ((i : Int) + 1) (by omega)]; rfl
    rw [List.drop_eq_getElem_cons (by rw [List.length_range]; exact hi), List.getElem_range, List.flatMap_cons, ← List.append_assoc, hone i] at f2
    have htg := htg i
    generalize together (atStop rest i) = TG at *
    obtain ⟨tn, tb⟩ := TG
    have hcap2 : (nodesT out).length + 1 ≤ mostLen := by rw [nodesT, List.length_map]; omega
    have n1 : ¬ q = ny := by omega
    have n2 : ¬ 0 = ny := by omega
    have n3 : ¬ 0 = q := by omega
    have n4 : ¬ ny = q := by omega
    simp [go_sem]
    refine K_call rfl rfl rfl (args := [.t (.sl (nodesT rest)), .i i]) (f := 29) (by simp [go_sem]) (by simp [go_sem, hB]) ((htg).spec _ _) ?_
    cases tb with
    | false =>
      rw [if_neg (by simp), List.append_nil] at f2
      refine K_run hB 100 ?_
      simp [go_sem, Node.a, Node.cs, hii]
      refine Next.mk (i + 1, q, out, _, ny + 1) ?_ (Imp.slots (by simp [go_sem]) rfl rfl) (by simp only; omega)
      exact ⟨by simp only; omega, ⟨f2, by simp only; omega⟩, by simp [oput, n1, f4], by simp [oput, n2, f5, Inst.cs], f6, by simp only; omega⟩
    | true =>
      rw [if_pos rfl] at f2
      have hsn : nodesT (out ++ [tn]) = nodesT out ++ [tn.t] := by simp [nodesT]
      refine K_run hB 100 ?_
      simp [go_sem, Node.a, Node.cs, hii, f4, n1, n4, hcap2]
      refine Next.mk (i + 1, ny + 1, out ++ [tn], _, ny + 2) ?_ (Imp.slots (by simp [go_sem]) rfl rfl) (by simp only; omega)
      refine ⟨by simp only; omega, ⟨f2, by simp only [List.length_append, List.length_cons, List.length_nil]; omega⟩, ?_, by simp [oput, n2, n3, f5, Inst.cs], by simp only; omega, by simp only; omega⟩
      rw [hsn]; simp [oput, Node.t]
  · have : i = x.stops.length := by omega
    subst this
    rw [List.drop_of_length_le (by simp), List.flatMap_nil, List.append_nil] at f2
    subst f2
    simp [go_sem, f4]
end Go.Proofs.Ytdjbapglfdacmaa

/- Nodes with paths of their own: wide.own; whether there are too many. -/
set_option maxRecDepth 4000
set_option maxHeartbeats 1000000
namespace Go.Proofs.Ytdjbapglfdacmaa
open Go Go.Proofs.Ytdjbapglfdacmaa.R
theorem cloneN_spec (l : List Node) (hl : l.length < 4294967296) (σ : Nat → AObj) (nx : Nat) : CallSpec P 52 [.t (.sl (nodesT l))] σ nx (.ref nx) (oput σ nx (.arr 10 (nodesT l))) (nx + 1) := by
  refine CallQ.spec (spec_of Try.func52 rfl rfl (by simp [Try.f52]) fun B hB hnx hσ => K_after ?_)
  simp only [Try.f52] at hB ⊢
  have hil : (nodesT l).length = l.length := List.length_map _
  have hne : nodesT l = [] ↔ l = [] := by simp [nodesT]
  have h1 := nodesT_len l
  have hmost : l.length ≤ mostLen := by show l.length ≤ 4294967296; omega
  refine K_run hB 100 ?_
  simp [go_sem]
  refine K_nilEq (es := nodesT l) rfl rfl (by simp [go_sem, hB]) tt25 rfl (by simp [go_sem]) fun b hb => ?_
  cases b with
  | true =>
    have e : l = [] := Decidable.byContradiction fun h => by have := hb (fun h' => h (hne.1 h')); cases this
    have e2 : nodesT l = [] := hne.2 e
    refine K_run hB 100 ?_
    simp [go_sem]
    refine ⟨_, fun a w hr => rel_own (t := 2) (sz := 10) (by simp [go_sem]) hr, ?_⟩
    simp [go_sem, e2]
  | false =>
    refine K_run hB 100 ?_
    simp [go_sem, hil, hne, hmost, if_pos h1]
    refine ⟨_, Imp.self, ?_⟩
    simp [go_sem]
theorem ownN_pure (l : List Node) (hl : l.length < 2 ^ 31) (hp : ∀ n ∈ l, n.path.length < 2 ^ 31) : Pure P 33 [.t (.sl (nodesT l))] (.t (.sl (nodesT l))) := by
  refine pure_of Try.func33 rfl rfl (by simp [Try.f33]) (by simp [bnd, bnd.bndL]) (by simp [bnd, bnd.bndL]) fun B hB hnx => ?_
  simp only [Try.f33] at hB ⊢
  have hil : (nodesT l).length = l.length := List.length_map _
  have hgt : ∀ (k : Nat) (h : k < l.length), (nodesT l)[k]'(by rw [hil]; exact h) = l[k].t := fun k h => nodesT_get l h
  refine K_run hB 100 ?_
  simp [go_sem]
  refine K_call rfl rfl rfl (args := [.t (.sl (nodesT l))]) (f := 52) (by simp [go_sem]) (by simp [go_sem, hB]) (cloneN_spec l (by omega) _ _) ?_
  refine K_run hB 100 ?_
  simp [go_sem, hil]
  refine K_loopP (α := Nat × (Nat → AObj) × Nat) (fun (k, τ, ny) => k ≤ l.length ∧ τ 0 = .arr 10 (nodesT l) ∧ 0 < ny) (fun (k, τ, ny) => ⟨sl [(0, .ref 0), (7, .ref 0), (8, .i l.length), (9, .i k)], τ, ny⟩) (fun a => l.length - a.1) (0, _, 1) ⟨Nat.zero_le _, by simp [oput], by omega⟩ (Imp.slots (by simp [go_sem]) rfl rfl) ?_
  rintro ⟨k, τ, ny⟩ ⟨g1, g2, g3⟩
  refine K_run hB 60 ?_
  simp [go_sem]
  refine fork_dec (fun hk => ?_) (fun hk => ?_)
  · have hkk : IntKind.i64.wrap ((k : Int) + 1) = ((k + 1 : Nat) : Int) := by rw [w64 ((k : Int) + 1) (by omega)]; rfl
    have hget : ∀ h : k < (nodesT l).length, (nodesT l)[k]'h = l[k].t := fun h => hgt k hk
    have hpk := hp l[k] (List.getElem_mem _)
    have hset : ∀ y, y = l[k].t → (nodesT l).set k y = nodesT l := fun y hy => by
      subst hy
      refine List.ext_getElem (by simp) fun i h1 h2 => ?_
      rw [List.getElem_set]
      split
      · rename_i e; subst e; exact (hget h2).symm
      · rfl
    generalize hm : l[k] = m at *
    have n0 : ¬ 0 = ny := by omega
    have q1 : (k * 10 + 9) / 10 = k := by omega
    have q2 : (k * 10 + 9) % 10 = 9 := by omega
    simp [go_sem, hil, hk, hget, Node.t, g2, n0]
    refine K_call rfl rfl rfl (args := [.t (.sl (ints m.path))]) (f := 53) (by simp [go_sem]) (by simp [go_sem, hB]) (clone_spec m.path (by omega) _ _) ?_
    refine K_imp ((Imp.freeze (q := ny + 1) (sz := 1) (es := ints m.path) (by simp [oput])).trans (Imp.slots (l := [(0, .ref 0), (7, .ref 0), (8, .i l.length), (9, .i k), (14, .ref 0), (15, .i k), (18, .t (.sl (ints m.path)))]) (by simp [go_sem, frz1]) rfl rfl)) ?_
    have hfz : frzO (ny + 1) (ints m.path) (.arr 10 (nodesT l)) = .arr 10 (nodesT l) := rfl
    refine K_run hB 100 ?_
    simp [go_sem, g2, n0, hil, hk, hget, Node.t, q1, q2, hfz, hkk, show ¬ ny = 0 by omega]
    refine Next.mk (k + 1, _, ny + 2) ⟨by simp only; omega, ?_, by simp only; omega⟩ (Imp.slots (by simp [go_sem]) rfl rfl) (by simp only; omega)
    simp only [oput, if_true]
    exact congrArg (AObj.arr 10) (hset _ rfl)
  · have : k = l.length := by omega
    subst this
    simp [go_sem, g2]
theorem over_spec (x : Inst) (w : Int) (l : List Node) {σ : Nat → AObj} {nx a b : Nat} (ha : a < nx) (hb : b < nx) (h1 : σ a = .box x.cs) (h2 : σ b = .box [.i w]) :
    CallSpec P 32 [.t (.sl (nodesT l)), .ptr a 0, .ptr b 0] σ nx (.b (decide (x.mostN w < l.length))) σ nx := by
  refine spec_keep Try.func32 rfl rfl (by simp [Try.f32]) (by simp [bnd]) fun hk B hB hnx hσB => ?_
  simp only [Try.f32] at hB ⊢
  have hm := most_pure x w
  have hil : (nodesT l).length = l.length := List.length_map _
  generalize x.mostN w = M at *
  refine K_run hB 100 ?_
  simp [go_sem, h1, h2, hil, Inst.cs]
  refine K_call rfl rfl rfl (args := [x.a, .i w]) (f := 25) (by simp [go_sem, Inst.a]) (by simp [go_sem, hB]) ((hm).spec _ _) ?_
  refine K_run hB 100 ?_
  simp [go_sem]
end Go.Proofs.Ytdjbapglfdacmaa

/- The least cost of all ways, looked at alone. -/
set_option maxRecDepth 4000
namespace Go.Proofs.Ytdjbapglfdacmaa
open Go Go.Proofs.Ytdjbapglfdacmaa.R
def Inst.everyB (x : Inst) (s : State) : Int := if (x.endS s).2 = true then (x.endS s).1 else inf
def Inst.everyF (x : Inst) (f : State → Int) (s : State) : List Int → Int → Int
  | [], v => v
  | j :: l, v => x.everyF f s l (if f (x.move s j).1 < inf ∧ (x.move s j).2.1 + f (x.move s j).1 < v then (x.move s j).2.1 + f (x.move s j).1 else v)
def Inst.every (x : Inst) : Nat → State → Int
  | 0, s => x.everyB s
  | d + 1, s => x.everyF (x.every d) s (x.moves s) (x.everyB s)
end Go.Proofs.Ytdjbapglfdacmaa

/- Diagrams of all ways: layers, plainly; no way costs less than a diagram tells. -/
set_option maxRecDepth 4000
namespace Go.Proofs.Ytdjbapglfdacmaa
open Go Go.Proofs.Ytdjbapglfdacmaa.R
structure Diag where
  layers : List (List Node)
  low : Int
  exact : Bool
  sure : Nat
  deriving DecidableEq
def Diag.of (ls : List (List Node)) (low : Int) (sq : Option Nat) : Diag := ⟨ls, low, sq.isNone, sq.getD ls.length⟩
def lowB (low : Int) (b : Node × Bool) : Int := if b.2 = true then min low b.1.cost else low
def Inst.buildGo (x : Inst) (w up dp : Int) : Nat → List (List Node) → Int → Option Nat → List Node → Diag
  | 0, ls, low, sq, _ => Diag.of ls low sq
  | f + 1, ls, low, sq, l => if l = [] then Diag.of ls low sq else
    if dp < ((ls.length + 1 : Nat) : Int) then Diag.of (ls ++ [l]) (lowB low (x.bests l)) sq else
    if x.mostN w < (x.next l up).length then x.buildGo w up dp f (ls ++ [l]) (lowB low (x.bests l)) (some (sq.getD (ls.length + 1))) (x.squeeze (x.next l up) w)
    else x.buildGo w up dp f (ls ++ [l]) (lowB low (x.bests l)) sq (x.next l up)
def Inst.build (x : Inst) (n : Node) (w up : Int) : Diag := x.buildGo w up (x.deep - n.path.length) ((x.deep - n.path.length).toNat + 2) [] up none [n]
/-- What is known of a layer's nodes, so many layers ahead of the last one. -/
structure WL (x : Inst) (l : List Node) (r : Nat) : Prop where
  is : ∀ n ∈ l, n.s.Is n.s.spot
  cost : ∀ n ∈ l, 0 ≤ n.cost ∧ n.cost + 14143 * ((r : Int) + 41) ≤ 1152921504606846976
theorem WL.lev {x : Inst} {l : List Node} {r : Nat} (h : WL x l r) : Lev x l 41 :=
  ⟨fun n hn => (h.is n hn).ok, fun n _ => by have := meas_le x n.s; omega, fun n hn => (h.is n hn).pos, fun n hn => (h.is n hn).seen, fun n hn => by have := h.cost n hn; omega⟩
theorem child_spot {x : Inst} {s : State} {j : Int} (h : (x.move s j).2.2 = true) : 0 ≤ (x.move s j).1.spot ∧ (x.move s j).1.spot < x.stops.length := by
  by_cases hj : j = 0
  · subst hj
    obtain ⟨h1, h2, h3, h4⟩ := move_home h
    obtain ⟨p, hx⟩ := x.fit h1
    have := hx.len
    rw [h4]
    show 0 ≤ (0 : Int) ∧ (0 : Int) < x.stops.length
    omega
  · obtain ⟨h1, h2, h3, h4, _, _, _, h5⟩ := move_pos h hj
    obtain ⟨p, hx⟩ := x.fit h1
    have := hx.len
    have := hx.pairs
    rw [h5]
    show 0 ≤ j ∧ j < x.stops.length
    omega
theorem State.Is.move {x : Inst} {s : State} {j i : Int} (h : s.Is i) (hj : (x.move s j).2.2 = true) : (x.move s j).1.Is (x.move s j).1.spot := ⟨rfl, move_ok x j h.ok, pos_move h.pos h.ok hj, seen_step hj⟩
theorem WL.next {x : Inst} {l : List Node} {r : Nat} (h : WL x l (r + 1)) (up : Int) : WL x (x.next l up) r ∧ ∀ m ∈ x.next l up, 0 ≤ m.s.spot ∧ m.s.spot < x.stops.length := by
  have key : ∀ m ∈ x.next l up, ∃ n ∈ l, ∃ j, (x.move n.s j).2.2 = true ∧ m = x.child n j := by
    intro m hm
    obtain ⟨n, hn, j, hj, e, _⟩ := next_mem hm
    exact ⟨n, hn, j, moves_mem hj, e⟩
  refine ⟨⟨?_, ?_⟩, ?_⟩ <;> (intro m hm; obtain ⟨n, hn, j, hj, rfl⟩ := key m hm)
  · exact (h.is n hn).move hj
  · rw [child_cost h.lev hn hj]
    have := h.cost n hn
    have := move_cost hj
    omega
  · exact child_spot hj
theorem WL.squeeze {x : Inst} {l : List Node} {r : Nat} (h : WL x l r) (w : Int) : WL x (x.squeeze l w) r := by
  have key : ∀ m ∈ x.squeeze l w, m.s.Is m.s.spot ∧ ∃ n ∈ l, m.cost = n.cost := by
    intro m hm
    rcases squeeze_mem hm with hm | ⟨i, g, h1, h2, h3, rfl⟩
    · exact ⟨h.is m hm, m, hm, rfl⟩
    · have hne2 : g.map Node.s ≠ [] := by simpa using h1
      obtain ⟨j1, j2, j3, j4⟩ := joinL_same hne2 (i := (i : Int)) fun t ht => by
        obtain ⟨q, hq, rfl⟩ := List.mem_map.1 ht
        exact (h3 q hq).2
      have j5 := j4 fun t ht => by
        obtain ⟨q, hq, rfl⟩ := List.mem_map.1 ht
        have := h.is q (h3 q hq).1
        rw [(h3 q hq).2] at this
        exact this
      obtain ⟨n, hn, e⟩ := (costL_is h1).2
      exact ⟨⟨rfl, j5.ok, j5.pos, j5.seen⟩, n, (h3 n hn).1, e⟩
  refine ⟨fun m hm => (key m hm).1, fun m hm => ?_⟩
  obtain ⟨_, n, hn, e⟩ := key m hm
  rw [e]
  exact h.cost n hn
/-- The layer that so many moves lead to, if none is squeezed. -/
def Inst.layN (x : Inst) (up : Int) (n : Node) : Nat → List Node
  | 0 => [n]
  | k + 1 => x.next (x.layN up n k) up
structure SureI (x : Inst) (up : Int) (n : Node) (ls : List (List Node)) (sq : Option Nat) : Prop where
  lay : ∀ i, i < sq.getD ls.length → ls[i]? = some (x.layN up n i)
  le : sq.getD ls.length ≤ ls.length
theorem SureI.push {x : Inst} {up : Int} {n : Node} {ls : List (List Node)} {sq : Option Nat} {l : List Node} (h : SureI x up n ls sq) (hl : sq = none → l = x.layN up n ls.length) : SureI x up n (ls ++ [l]) sq := by
  cases sq with
  | some k =>
    have h1 := h.lay
    have h2 := h.le
    simp only [Option.getD_some] at h1 h2
    refine ⟨fun i hi => ?_, ?_⟩
    · simp only [Option.getD_some] at hi
      rw [List.getElem?_append_left (by omega)]
      exact h1 i hi
    · simp only [Option.getD_some, List.length_append, List.length_cons]; omega
  | none =>
    have h1 := h.lay
    simp only [Option.getD_none] at h1
    refine ⟨fun i hi => ?_, by simp⟩
    simp only [Option.getD_none, List.length_append, List.length_cons, List.length_nil] at hi
    by_cases e : i < ls.length
    · rw [List.getElem?_append_left e]; exact h1 i e
    · have : i = ls.length := by omega
      subst this
      rw [List.getElem?_append_right (Nat.le_refl _), Nat.sub_self, hl rfl]
      rfl
end Go.Proofs.Ytdjbapglfdacmaa

/- Diagrams of all ways: wide.Build. -/
set_option maxRecDepth 4000
set_option maxHeartbeats 2000000
namespace Go.Proofs.Ytdjbapglfdacmaa
open Go Go.Proofs.Ytdjbapglfdacmaa.R
/-- Rows of rows of nodes. -/
def lysT (ls : List (List Node)) : List (List T) := ls.map fun l => [.sl (nodesT l)]
def Diag.cs (d : Diag) : List AV := [.t (.sl (lysT d.layers)), .i d.low, .b d.exact, .i d.sure]
def Diag.a (d : Diag) : AV := .agg d.cs
structure WFine (l : List Node) (K : Nat) : Prop where
  ok : ∀ n ∈ l, n.s.ok
  path : ∀ n ∈ l, n.path.length ≤ K
theorem WFine.next {x : Inst} {l : List Node} {K : Nat} (h : WFine l K) (up : Int) : WFine (x.next l up) (K + 1) := by
  refine ⟨?_, ?_⟩ <;> (intro m hm; obtain ⟨n, hn, j, hj, rfl, _⟩ := next_mem hm)
  · exact move_ok x j (h.ok n hn)
  · have := h.path n hn
    show (n.path ++ [j]).length ≤ K + 1
    rw [List.length_append]
    simp only [List.length_cons, List.length_nil]
    omega
theorem fold_ok : ∀ (l : List State) (s : State), s.ok → (∀ t ∈ l, t.ok) → (l.foldl State.join s).ok
  | [], s, h, _ => h
  | t :: l, s, h, k => fold_ok l (s.join t) (join_ok h (k t List.mem_cons_self)) fun u hu => k u (List.mem_cons_of_mem _ hu)
theorem joinL_ok {l : List State} (h : ∀ t ∈ l, t.ok) : (joinL l).1.ok := by
  cases l with
  | nil => exact State.zero_ok
  | cons s l =>
    rw [joinL]
    split
    · exact State.zero_ok
    · exact fold_ok l s (h s List.mem_cons_self) fun t ht => h t (List.mem_cons_of_mem _ ht)
theorem WFine.squeeze {x : Inst} {l : List Node} {K : Nat} (h : WFine l K) (w : Int) : WFine (x.squeeze l w) K := by
  refine ⟨fun m hm => ?_, fun m hm => ?_⟩
  · rcases squeeze_mem hm with hm | ⟨i, g, h1, h2, h3, rfl⟩
    · exact h.ok m hm
    · exact joinL_ok fun t ht => by
        obtain ⟨q, hq, rfl⟩ := List.mem_map.1 ht
        exact h.ok q (h3 q hq).1
  · rcases squeeze_mem hm with hm | ⟨i, g, h1, h2, h3, rfl⟩
    · exact h.path m hm
    · exact Nat.zero_le _
theorem deep_le (x : Inst) : 0 ≤ x.deep ∧ x.deep ≤ 39 := by
  unfold Inst.deep
  split
  · rename_i hm
    obtain ⟨p, hx⟩ := x.fit hm
    have := hx.pairs
    have := hx.few
    have := hx.cars
    omega
  · omega
theorem next_few {x : Inst} {l : List Node} {up w : Int} (hw : w ≤ 3000) (h : (x.next l up).length ≤ x.mostN w) : (x.next l up).length ≤ 3000 := by
  cases hm : x.may with
  | true =>
    obtain ⟨p, hx⟩ := x.fit hm
    have := hx.len
    have := hx.few
    unfold Inst.mostN at h
    omega
  | false =>
    have : x.next l up = [] := by
      refine List.eq_nil_iff_forall_not_mem.2 fun m hm2 => ?_
      obtain ⟨n, hn, j, hj, _⟩ := next_mem hm2
      have := (move_may (moves_mem hj)).1
      rw [hm] at this; cases this
    rw [this]; simp
theorem most_few {x : Inst} {l : List Node} {up w : Int} (hw : w ≤ 3000) (h : x.mostN w < (x.next l up).length) : x.mostN w ≤ 3000 := by
  cases hm : x.may with
  | true =>
    obtain ⟨p, hx⟩ := x.fit hm
    have := hx.len
    have := hx.few
    unfold Inst.mostN
    omega
  | false =>
    have : x.next l up = [] := by
      refine List.eq_nil_iff_forall_not_mem.2 fun m hm2 => ?_
      obtain ⟨n, hn, j, hj, _⟩ := next_mem hm2
      have := (move_may (moves_mem hj)).1
      rw [hm] at this; cases this
    rw [this] at h; simp at h
theorem build_pure (x : Inst) (n : Node) (w up : Int) (hl : x.stops.length < 2 ^ 31) (hw : w ≤ 3000) (ho : n.s.ok) (hp : n.path.length < 2 ^ 29) : Pure P 14 [x.a, n.a, .i w, .i up] ((x.build n w up).a) := by
  generalize hR : x.build n w up = R
  refine pure_of Try.func14 rfl rfl (by simp [Try.f14]) (by simp [bnd, bnd.bndL, Inst.a, Node.a, Node.cs]) (by simp [bnd, bnd.bndL, Diag.a, Diag.cs]) fun B hB hnx => ?_
  simp only [Try.f14] at hB ⊢
  have hdeep := deep_pure x (by omega)
  have hdl := deep_le x
  have hown := ownN_pure [n] (by simp) (fun m hm => by rw [List.mem_singleton.1 hm]; omega)
  rw [Inst.build] at hR
  have hwd : IntKind.i64.wrap (x.deep - n.path.length) = x.deep - n.path.length := w64 _ (by omega)
  generalize hdp : x.deep - (n.path.length : Int) = dp at *
  have hnl : (ints n.path).length = n.path.length := List.length_map _
  refine K_run hB 100 ?_
  simp [go_sem, Inst.a, Node.a, Node.cs]
  refine K_scope ?_
  refine K_run hB 100 ?_
  simp [go_sem]
  refine K_drawn [] rfl (by rw [hB]; kernel_rfl) ?_
  refine K_run hB 100 ?_
  simp [go_sem]
  refine K_dCallP rfl rfl rfl (args := [x.a]) (f := 16) (by simp [go_sem, Inst.a]) (hdeep) ?_
  refine K_run hB 100 ?_
  simp [go_sem, hnl, hdp, hwd]
  refine K_call rfl rfl rfl (args := [.fsl [n.t]]) (f := 33) (by simp [go_sem, Node.t]) (by simp [go_sem, hB]) ((Pure.loose hown (by simp [bnd])).spec _ _) ?_
  refine K_run hB 100 ?_
  simp [go_sem]
  refine K_less (Imp.ownB (b := 4) (off := 0) (sz := 1) (cs := [.fsl [], .i up, .b true, .i 0]) (by simp [oput]) rfl) ?_
  refine K_loopP (α := Nat × List (List Node) × Int × Option Nat × List Node × Nat × (Nat → AObj) × Nat) (fun (f, ls, low, sq, l, q, τ, ny) => x.buildGo w up dp f ls low sq l = R ∧ (f : Int) + ls.length ≥ dp + 2 ∧ ((ls.length : Int) ≤ dp ∨ ls = []) ∧ 1 ≤ f ∧ WFine l (n.path.length + ls.length) ∧ l.length ≤ 3000 ∧ τ 0 = .box x.cs ∧ τ 2 = .box [.i w] ∧ τ 3 = .box [.fsl [], .i 0, .b false, .i 0] ∧ τ 4 = .box [.ref q, .i low, .b sq.isNone, .i (sq.getD 0 : Nat)] ∧ τ q = .arr 1 (lysT ls) ∧ 4 < q ∧ q < ny)
    (fun (f, ls, low, sq, l, q, τ, ny) => ⟨sl [(3, .i up), (4, .ptr 0 0), (6, .ptr 2 0), (8, .ptr 3 0), (9, .ptr 4 0), (10, .fn (.func 32) [] [.ptr 0 0, .ptr 2 0]), (11, .i dp), (12, .t (.sl (nodesT l)))], τ, ny⟩) (fun a => a.1) (dp.toNat + 2, [], up, none, [n], 5, _, 6) ?_ (Imp.slots (by simp [go_sem]) rfl rfl) ?_
  · refine ⟨hR, by simp only [List.length_nil]; omega, .inr rfl, by omega, ⟨fun m hm => by rw [List.mem_singleton.1 hm]; exact ho, fun m hm => by rw [List.mem_singleton.1 hm]; omega⟩, by simp, by simp [oput, Inst.cs], by simp [oput], by simp [oput], by simp [oput, setCells], by simp [oput, lysT], by omega, by omega⟩
  clear hR
  rintro ⟨f, ls, low, sq, l, q, τ, ny⟩ ⟨hR, g1, g2, g3, g4, g5, h0, h2, h3, h4, h5, h6, h7⟩
  obtain ⟨f, rfl⟩ : ∃ f', f = f' + 1 := ⟨f - 1, by omega⟩
  have hil : (nodesT l).length = l.length := List.length_map _
  have hyl : (lysT ls).length = ls.length := List.length_map _
  have hls : ls.length ≤ 40 := by
    rcases g2 with g2 | g2
    · omega
    · rw [g2]; simp
  have n0 : ¬ 0 = ny := by omega
  have n2 : ¬ 2 = ny := by omega
  have n3 : ¬ 3 = ny := by omega
  have n4 : ¬ 4 = ny := by omega
  have n5 : ¬ q = 3 := by omega
  have n6 : ¬ q = 4 := by omega
  rw [Inst.buildGo] at hR
  by_cases c0 : l = []
  · rw [if_pos c0] at hR
    subst hR
    have c0' : l.length = 0 := by rw [c0]; rfl
    cases sq with
    | none =>
      refine K_run hB 60 ?_
      simp [go_sem, hil, c0', h4, h5, hyl, n5, n6, h3]
      rfl
    | some k =>
      refine K_run hB 60 ?_
      simp [go_sem, hil, c0', h4, h5, hyl, n5, n6, h3]
      rfl
  rw [if_neg c0] at hR
  have c0' : 0 < l.length := List.length_pos_iff.2 c0
  have hx := expand_pure x l up hl (by omega) (fun m h => ⟨g4.ok m h, by have := g4.path m h; omega⟩) (fun m h => by have := g4.path m h; omega)
  have hnw := g4.next (x := x) up
  have hsn : lysT ls ++ [[.sl (nodesT l)]] = lysT (ls ++ [l]) := by simp [lysT]
  have hcap : ls.length + 1 ≤ mostLen := by show _ ≤ 4294967296; omega
  have hsl : (lysT (ls ++ [l])).length = ls.length + 1 := by rw [lysT, List.length_map]; simp
  have n7 : ¬ 4 = q := by omega
  have n8 : ¬ 0 = q := by omega
  have n9 : ¬ 2 = q := by omega
  have na : ¬ 3 = q := by omega
  generalize x.bests l = Bs at *
  obtain ⟨b, is⟩ := Bs
  have hqs := squeeze_pure x (x.next l up) w hl (by have := next_len x l up; omega) (fun m h => ⟨hnw.ok m h, by have := hnw.path m h; omega⟩)
  have hnf := next_few (x := x) (l := l) (up := up) hw
  have hmf := most_few (x := x) (l := l) (up := up) hw
  have hsq := squeeze_len x (x.next l up) w
  have hsw := hnw.squeeze (x := x) w
  generalize x.squeeze (x.next l up) w = Q at *
  generalize x.next l up = M at *
  refine K_run hB 60 ?_
  simp [go_sem, hil, c0', h4, h5, hyl, hsn, hcap, n0, n2, n3, n4, n6, n7, n8, n9, na, h0, Inst.cs]
  refine K_run hB 100 ?_
  simp [go_sem, hil, c0', h4, h5, hyl, hsn, hcap, n0, n2, n3, n4, n6, n7, n8, n9, na, h0, Inst.cs]
  refine K_call rfl rfl rfl (args := [x.a, .t (.sl (nodesT l)), .i up]) (f := 34) (by simp [go_sem, Inst.a]) (by simp [go_sem, hB]) ((hx).spec _ _) ?_
  have b0 : ¬ ny = 0 := by omega
  have b1 : ¬ ny + 1 = 0 := by omega
  have b2 : ¬ ny = 1 := by omega
  have b3 : ¬ ny = 2 := by omega
  have b4 : ¬ ny = 3 := by omega
  have b5 : ¬ ny = 4 := by omega
  have b6 : ¬ 4 = ny + 1 := by omega
  have hov := fun (τ' : Nat → AObj) (e1 : τ' 0 = .box x.cs) (e2 : τ' 2 = .box [.i w]) => over_spec x w M (σ := τ') (nx := ny + 2) (a := 0) (b := 2) (by omega) (by omega) e1 e2
  have hwQ : WFine Q (n.path.length + (ls ++ [l]).length) := by rw [List.length_append]; exact hsw
  have hwM : WFine M (n.path.length + (ls ++ [l]).length) := by rw [List.length_append]; exact hnw
  cases is with
  | false =>
    have hlw : lowB low (b, false) = low := rfl
    rw [hlw] at hR
    by_cases c1 : dp < (ls.length : Int) + 1
    · rw [if_pos (by omega)] at hR
      subst hR
      cases sq with
      | none =>
        refine K_run hB 100 ?_
        simp [go_sem, expRes, Node.a, Node.cs, h0, h2, h3, h4, h5, n0, n2, n3, n4, n5, n6, n7, n8, n9, na, b0, b1, b2, b3, b4, b5, b6, hsl, Inst.cs, c1]
        simp [Diag.of, Diag.a, Diag.cs]
      | some k =>
        refine K_run hB 100 ?_
        simp [go_sem, expRes, Node.a, Node.cs, h0, h2, h3, h4, h5, n0, n2, n3, n4, n5, n6, n7, n8, n9, na, b0, b1, b2, b3, b4, b5, b6, hsl, Inst.cs, c1]
        rfl
    rw [if_neg (by omega)] at hR
    refine K_run hB 100 ?_
    simp [go_sem, expRes, Node.a, Node.cs, h0, h2, h3, h4, h5, n0, n2, n3, n4, n5, n6, n7, n8, n9, na, b0, b1, b2, b3, b4, b5, b6, hsl, Inst.cs, c1]
    refine K_call rfl rfl rfl (args := [.t (.sl (nodesT M)), .ptr 0 0, .ptr 2 0]) (f := 32) (by simp [go_sem]) (by simp [go_sem, hB]) (hov _ (by simp [oput, h0, n0, n8, b0, b1, Inst.cs]) (by simp [oput, h2, n2, n9, b1, b2, b3])) ?_
    by_cases c2 : x.mostN w < M.length
    · rw [if_pos c2] at hR
      refine K_run hB 100 ?_
      simp [go_sem, expRes, Node.a, Node.cs, h0, h2, h3, h4, h5, n0, n2, n3, n4, n5, n6, n7, n8, n9, na, b0, b1, b2, b3, b4, b5, b6, hsl, Inst.cs, c2]
      refine K_call rfl rfl rfl (args := [x.a, .t (.sl (nodesT M)), .i w]) (f := 10) (by simp [go_sem, Inst.a]) (by simp [go_sem, hB]) ((hqs).spec _ _) ?_
      cases sq with
      | none =>
        refine K_run hB 100 ?_
        simp [go_sem, expRes, Node.a, Node.cs, h0, h2, h3, h4, h5, n0, n2, n3, n4, n5, n6, n7, n8, n9, na, b0, b1, b2, b3, b4, b5, b6, hsl, Inst.cs]
        refine Next.mk (f, ls ++ [l], low, some (ls.length + 1), Q, ny, _, ny + 2) ?_ (Imp.slots (by simp [go_sem]) rfl rfl) (by simp only; omega)
        exact ⟨hR, by simp only [List.length_append, List.length_cons, List.length_nil]; omega, .inl (by simp only [List.length_append, List.length_cons, List.length_nil]; omega), by simp only; omega, hwQ, (by have := hmf c2; simp only; omega), by simp [oput, h0, h2, h3, h4, n0, n2, n3, n4, n7, n8, n9, na, b0, b1, b2, b3, b4, b5, b6, Inst.cs], by simp [oput, h0, h2, h3, h4, n0, n2, n3, n4, n7, n8, n9, na, b0, b1, b2, b3, b4, b5, b6, Inst.cs], by simp [oput, h0, h2, h3, h4, n0, n2, n3, n4, n7, n8, n9, na, b0, b1, b2, b3, b4, b5, b6, Inst.cs], by simp [oput, h0, h2, h3, h4, n0, n2, n3, n4, n7, n8, n9, na, b0, b1, b2, b3, b4, b5, b6, Inst.cs], by simp [oput, h0, h2, h3, h4, n0, n2, n3, n4, n7, n8, n9, na, b0, b1, b2, b3, b4, b5, b6, Inst.cs], by simp only; omega, by simp only; omega⟩
      | some k =>
        refine K_run hB 100 ?_
        simp [go_sem, expRes, Node.a, Node.cs, h0, h2, h3, h4, h5, n0, n2, n3, n4, n5, n6, n7, n8, n9, na, b0, b1, b2, b3, b4, b5, b6, hsl, Inst.cs]
        refine Next.mk (f, ls ++ [l], low, some k, Q, ny, _, ny + 2) ?_ (Imp.slots (by simp [go_sem]) rfl rfl) (by simp only; omega)
        exact ⟨hR, by simp only [List.length_append, List.length_cons, List.length_nil]; omega, .inl (by simp only [List.length_append, List.length_cons, List.length_nil]; omega), by simp only; omega, hwQ, (by have := hmf c2; simp only; omega), by simp [oput, h0, h2, h3, h4, n0, n2, n3, n4, n7, n8, n9, na, b0, b1, b2, b3, b4, b5, b6, Inst.cs], by simp [oput, h0, h2, h3, h4, n0, n2, n3, n4, n7, n8, n9, na, b0, b1, b2, b3, b4, b5, b6, Inst.cs], by simp [oput, h0, h2, h3, h4, n0, n2, n3, n4, n7, n8, n9, na, b0, b1, b2, b3, b4, b5, b6, Inst.cs], by simp [oput, h0, h2, h3, h4, n0, n2, n3, n4, n7, n8, n9, na, b0, b1, b2, b3, b4, b5, b6, Inst.cs], by simp [oput, h0, h2, h3, h4, n0, n2, n3, n4, n7, n8, n9, na, b0, b1, b2, b3, b4, b5, b6, Inst.cs], by simp only; omega, by simp only; omega⟩
    · rw [if_neg c2] at hR
      refine K_run hB 100 ?_
      simp [go_sem, expRes, Node.a, Node.cs, h0, h2, h3, h4, h5, n0, n2, n3, n4, n5, n6, n7, n8, n9, na, b0, b1, b2, b3, b4, b5, b6, hsl, Inst.cs, c2]
      refine Next.mk (f, ls ++ [l], low, sq, M, ny, _, ny + 2) ?_ (Imp.slots (by simp [go_sem]) rfl rfl) (by simp only; omega)
      exact ⟨hR, by simp only [List.length_append, List.length_cons, List.length_nil]; omega, .inl (by simp only [List.length_append, List.length_cons, List.length_nil]; omega), by simp only; omega, hwM, (hnf (by omega)), by simp [oput, h0, h2, h3, h4, n0, n2, n3, n4, n7, n8, n9, na, b0, b1, b2, b3, b4, b5, b6, Inst.cs], by simp [oput, h0, h2, h3, h4, n0, n2, n3, n4, n7, n8, n9, na, b0, b1, b2, b3, b4, b5, b6, Inst.cs], by simp [oput, h0, h2, h3, h4, n0, n2, n3, n4, n7, n8, n9, na, b0, b1, b2, b3, b4, b5, b6, Inst.cs], by simp [oput, h0, h2, h3, h4, n0, n2, n3, n4, n7, n8, n9, na, b0, b1, b2, b3, b4, b5, b6, Inst.cs], by simp [oput, h0, h2, h3, h4, n0, n2, n3, n4, n7, n8, n9, na, b0, b1, b2, b3, b4, b5, b6, Inst.cs], by simp only; omega, by simp only; omega⟩
  | true =>
    have hlw : lowB low (b, true) = min low b.cost := rfl
    rw [hlw] at hR
    by_cases c1 : dp < (ls.length : Int) + 1
    · rw [if_pos (by omega)] at hR
      subst hR
      cases sq with
      | none =>
        refine K_run hB 100 ?_
        simp [go_sem, expRes, Node.a, Node.cs, h0, h2, h3, h4, h5, n0, n2, n3, n4, n5, n6, n7, n8, n9, na, b0, b1, b2, b3, b4, b5, b6, hsl, Inst.cs, c1]
        simp [Diag.of, Diag.a, Diag.cs]
      | some k =>
        refine K_run hB 100 ?_
        simp [go_sem, expRes, Node.a, Node.cs, h0, h2, h3, h4, h5, n0, n2, n3, n4, n5, n6, n7, n8, n9, na, b0, b1, b2, b3, b4, b5, b6, hsl, Inst.cs, c1]
        rfl
    rw [if_neg (by omega)] at hR
    refine K_run hB 100 ?_
    simp [go_sem, expRes, Node.a, Node.cs, h0, h2, h3, h4, h5, n0, n2, n3, n4, n5, n6, n7, n8, n9, na, b0, b1, b2, b3, b4, b5, b6, hsl, Inst.cs, c1]
    refine K_call rfl rfl rfl (args := [.t (.sl (nodesT M)), .ptr 0 0, .ptr 2 0]) (f := 32) (by simp [go_sem]) (by simp [go_sem, hB]) (hov _ (by simp [oput, h0, n0, n8, b0, b1, Inst.cs]) (by simp [oput, h2, n2, n9, b1, b2, b3])) ?_
    by_cases c2 : x.mostN w < M.length
    · rw [if_pos c2] at hR
      refine K_run hB 100 ?_
      simp [go_sem, expRes, Node.a, Node.cs, h0, h2, h3, h4, h5, n0, n2, n3, n4, n5, n6, n7, n8, n9, na, b0, b1, b2, b3, b4, b5, b6, hsl, Inst.cs, c2]
      refine K_call rfl rfl rfl (args := [x.a, .t (.sl (nodesT M)), .i w]) (f := 10) (by simp [go_sem, Inst.a]) (by simp [go_sem, hB]) ((hqs).spec _ _) ?_
      cases sq with
      | none =>
        refine K_run hB 100 ?_
        simp [go_sem, expRes, Node.a, Node.cs, h0, h2, h3, h4, h5, n0, n2, n3, n4, n5, n6, n7, n8, n9, na, b0, b1, b2, b3, b4, b5, b6, hsl, Inst.cs]
        refine Next.mk (f, ls ++ [l], min low b.cost, some (ls.length + 1), Q, ny, _, ny + 2) ?_ (Imp.slots (by simp [go_sem]) rfl rfl) (by simp only; omega)
        exact ⟨hR, by simp only [List.length_append, List.length_cons, List.length_nil]; omega, .inl (by simp only [List.length_append, List.length_cons, List.length_nil]; omega), by simp only; omega, hwQ, (by have := hmf c2; simp only; omega), by simp [oput, h0, h2, h3, h4, n0, n2, n3, n4, n7, n8, n9, na, b0, b1, b2, b3, b4, b5, b6, Inst.cs], by simp [oput, h0, h2, h3, h4, n0, n2, n3, n4, n7, n8, n9, na, b0, b1, b2, b3, b4, b5, b6, Inst.cs], by simp [oput, h0, h2, h3, h4, n0, n2, n3, n4, n7, n8, n9, na, b0, b1, b2, b3, b4, b5, b6, Inst.cs], by simp [oput, h0, h2, h3, h4, n0, n2, n3, n4, n7, n8, n9, na, b0, b1, b2, b3, b4, b5, b6, Inst.cs], by simp [oput, h0, h2, h3, h4, n0, n2, n3, n4, n7, n8, n9, na, b0, b1, b2, b3, b4, b5, b6, Inst.cs], by simp only; omega, by simp only; omega⟩
      | some k =>
        refine K_run hB 100 ?_
        simp [go_sem, expRes, Node.a, Node.cs, h0, h2, h3, h4, h5, n0, n2, n3, n4, n5, n6, n7, n8, n9, na, b0, b1, b2, b3, b4, b5, b6, hsl, Inst.cs]
        refine Next.mk (f, ls ++ [l], min low b.cost, some k, Q, ny, _, ny + 2) ?_ (Imp.slots (by simp [go_sem]) rfl rfl) (by simp only; omega)
        exact ⟨hR, by simp only [List.length_append, List.length_cons, List.length_nil]; omega, .inl (by simp only [List.length_append, List.length_cons, List.length_nil]; omega), by simp only; omega, hwQ, (by have := hmf c2; simp only; omega), by simp [oput, h0, h2, h3, h4, n0, n2, n3, n4, n7, n8, n9, na, b0, b1, b2, b3, b4, b5, b6, Inst.cs], by simp [oput, h0, h2, h3, h4, n0, n2, n3, n4, n7, n8, n9, na, b0, b1, b2, b3, b4, b5, b6, Inst.cs], by simp [oput, h0, h2, h3, h4, n0, n2, n3, n4, n7, n8, n9, na, b0, b1, b2, b3, b4, b5, b6, Inst.cs], by simp [oput, h0, h2, h3, h4, n0, n2, n3, n4, n7, n8, n9, na, b0, b1, b2, b3, b4, b5, b6, Inst.cs], by simp [oput, h0, h2, h3, h4, n0, n2, n3, n4, n7, n8, n9, na, b0, b1, b2, b3, b4, b5, b6, Inst.cs], by simp only; omega, by simp only; omega⟩
    · rw [if_neg c2] at hR
      refine K_run hB 100 ?_
      simp [go_sem, expRes, Node.a, Node.cs, h0, h2, h3, h4, h5, n0, n2, n3, n4, n5, n6, n7, n8, n9, na, b0, b1, b2, b3, b4, b5, b6, hsl, Inst.cs, c2]
      refine Next.mk (f, ls ++ [l], min low b.cost, sq, M, ny, _, ny + 2) ?_ (Imp.slots (by simp [go_sem]) rfl rfl) (by simp only; omega)
      exact ⟨hR, by simp only [List.length_append, List.length_cons, List.length_nil]; omega, .inl (by simp only [List.length_append, List.length_cons, List.length_nil]; omega), by simp only; omega, hwM, (hnf (by omega)), by simp [oput, h0, h2, h3, h4, n0, n2, n3, n4, n7, n8, n9, na, b0, b1, b2, b3, b4, b5, b6, Inst.cs], by simp [oput, h0, h2, h3, h4, n0, n2, n3, n4, n7, n8, n9, na, b0, b1, b2, b3, b4, b5, b6, Inst.cs], by simp [oput, h0, h2, h3, h4, n0, n2, n3, n4, n7, n8, n9, na, b0, b1, b2, b3, b4, b5, b6, Inst.cs], by simp [oput, h0, h2, h3, h4, n0, n2, n3, n4, n7, n8, n9, na, b0, b1, b2, b3, b4, b5, b6, Inst.cs], by simp [oput, h0, h2, h3, h4, n0, n2, n3, n4, n7, n8, n9, na, b0, b1, b2, b3, b4, b5, b6, Inst.cs], by simp only; omega, by simp only; omega⟩
end Go.Proofs.Ytdjbapglfdacmaa

/- When a car is where: what is wrong with a stop, and how it drives. -/
set_option maxRecDepth 4000
namespace Go.Proofs.Ytdjbapglfdacmaa
open Go Go.Proofs.Ytdjbapglfdacmaa.R
/-- A car on its way. -/
structure Car where
  spot : Int
  now : Int
  gone : Int
  load : Int
  seen : Nat
  on : Nat
  times : List (List T)
  loads : List Int
def carC (x : Inst) (c : Car) (qt ql : Nat) : List AV := [.t (.i x.pairs), .t (.i x.cars), .t (.i x.room), .t (.sl (x.stops.map Stop.t)), .i c.spot, .i c.now, .i c.gone, .i c.load, .u c.seen, .u c.on, .ref qt, .ref ql]
/-- What holds of a car that has seen so many stops. -/
structure Car.Fit (c : Car) (p k : Nat) : Prop where
  spot : 0 ≤ c.spot ∧ c.spot ≤ 2 * p
  now : 0 ≤ c.now ∧ c.now ≤ 1049576
  gone : 0 ≤ c.gone ∧ c.gone ≤ 14143 * k
  load : -1000 * (k : Int) ≤ c.load ∧ c.load ≤ 1000
  seen : c.seen < 2 ^ 64
  on : c.on < 2 ^ 64
  times : c.times.length = k
  loads : c.loads.length = k
  three : ∀ y ∈ c.times, y.length = 3
  few : k + ((List.range (2 * p + 1)).filter fun j : Nat => decide (1 ≤ j) && !hasB c.seen (j : Int)).length ≤ 2 * p
theorem Car.Fit.le {c : Car} {p k : Nat} (h : c.Fit p k) : k ≤ 2 * p := by have := h.few; omega
def Inst.visitsE (x : Inst) (c : Car) (i : Int) : Int :=
  if i < 1 ∨ 2 * x.pairs < i then 1 else if hasB c.seen i = true then 5 else if x.pairs < i ∧ hasB c.seen (i - x.pairs) = false then 8 else if x.room < c.load + (x.stop i).demand then 6 else 0
def Inst.drive (x : Inst) (c : Car) (i : Int) : Car := { c with spot := i, gone := c.gone + far (x.stop c.spot) (x.stop i) }
end Go.Proofs.Ytdjbapglfdacmaa

/- When a car is where: it visits a stop. -/
set_option maxRecDepth 4000
namespace Go.Proofs.Ytdjbapglfdacmaa
open Go Go.Proofs.Ytdjbapglfdacmaa.R
structure Rows3 (c : Car) (σ : Nat → AObj) (nx b qt ql : Nat) : Prop where
  tm : σ qt = .arr 3 c.times
  ld : σ ql = .arr 1 (ints c.loads)
  ltT : qt < nx
  ltL : ql < nx
  neT : qt ≠ b
  neL : ql ≠ b
  ne : qt ≠ ql
def Inst.visitC (x : Inst) (c : Car) (i : Int) : Car × Int :=
  if x.visitsE c i ≠ 0 then (c, x.visitsE c i)
  else if (x.stop i).due < max (c.now + far (x.stop c.spot) (x.stop i)) (x.stop i).ready then (x.drive c i, 7)
  else ({ spot := i, now := max (c.now + far (x.stop c.spot) (x.stop i)) (x.stop i).ready + (x.stop i).service, gone := c.gone + far (x.stop c.spot) (x.stop i), load := c.load + (x.stop i).demand, seen := withN c.seen i,
          on := if i ≤ x.pairs then withN c.on i else withoutN c.on (i - x.pairs), times := c.times ++ [[.i (c.now + far (x.stop c.spot) (x.stop i)), .i (max (c.now + far (x.stop c.spot) (x.stop i)) (x.stop i).ready), .i (max (c.now + far (x.stop c.spot) (x.stop i)) (x.stop i).ready + (x.stop i).service)]], loads := c.loads ++ [c.load + (x.stop i).demand] }, 0)
theorem visits_ok {x : Inst} {c : Car} {i : Int} (h : x.visitsE c i = 0) : 1 ≤ i ∧ i ≤ 2 * x.pairs ∧ hasB c.seen i = false ∧ (x.pairs < i → hasB c.seen (i - x.pairs) = true) ∧ c.load + (x.stop i).demand ≤ x.room := by
  rw [Inst.visitsE] at h
  split at h
  · cases h
  split at h
  · cases h
  split at h
  · cases h
  split at h
  · cases h
  rename_i h1 h2 h3 h4
  refine ⟨by omega, by omega, by simpa using h2, fun h => ?_, by omega⟩
  cases hq : hasB c.seen (i - x.pairs) with
  | true => rfl
  | false => exact absurd ⟨h, hq⟩ h3
end Go.Proofs.Ytdjbapglfdacmaa

/- When a car is where: a whole route. -/
set_option maxRecDepth 4000
namespace Go.Proofs.Ytdjbapglfdacmaa
open Go Go.Proofs.Ytdjbapglfdacmaa.R
theorem visitC_fit {x : Inst} {c : Car} {i : Int} {p k : Nat} (hx : x.Fit p) (hc : c.Fit p k) (h : (x.visitC c i).2 = 0) : (x.visitC c i).1.Fit p (k + 1) := by
  have hok := visits_ok (x := x) (c := c) (i := i)
  rw [Inst.visitC] at h ⊢
  by_cases c0 : x.visitsE c i = 0
  rotate_left
  · rw [if_pos c0] at h; exact absurd h c0
  rw [if_neg (by simp [c0])] at h ⊢
  by_cases c1 : (x.stop i).due < max (c.now + far (x.stop c.spot) (x.stop i)) (x.stop i).ready
  · rw [if_pos c1] at h; cases h
  rw [if_neg c1]
  obtain ⟨k1, k2, k3, k4, k5⟩ := hok c0
  have hp := hx.pairs
  have hfi := hx.at (j := i) (by omega) (by omega)
  have hfar := far_le (x.stop c.spot) (x.stop i)
  have h1 := hc.now
  have h2 := hc.gone
  have h3 := hc.load
  have h4 := hfi.ready
  have h5 := hfi.due
  have h6 := hfi.service
  have h7 := hfi.demand
  have h8 := hx.room
  have h9 := hx.few
  constructor
  · simp only; omega
  · simp only; omega
  · simp only; omega
  · simp only; omega
  · exact withN_lt hc.seen _
  · simp only
    split
    · exact withN_lt hc.on _
    · exact withoutN_lt _ _
  · simp [hc.times]
  · simp [hc.loads]
  · intro y hy
    simp only [List.mem_append, List.mem_singleton] at hy
    rcases hy with hy | rfl
    · exact hc.three y hy
    · rfl
  · have h10 := hc.few
    obtain ⟨j, rfl⟩ : ∃ j : Nat, i = j := ⟨i.toNat, by omega⟩
    have := filter_lt (p := fun j : Nat => decide (1 ≤ j) && !hasB c.seen (j : Int)) (q := fun m : Nat => decide (1 ≤ m) && !hasB (withN c.seen (j : Int)) (m : Int)) (List.range (2 * p + 1)) (a := j) (List.mem_range.2 (by omega)) (by rw [k3]; simp; omega) (by rw [has_withN (by omega)]; simp) (fun m => by
      rw [has_withN (by omega)]
      simp only [Bool.and_eq_true, Bool.not_eq_true', Bool.or_eq_false_iff]
      exact fun h => ⟨h.1, h.2.1⟩)
    simp only
    omega
def Inst.homeC (x : Inst) (c : Car) : Car × Int :=
  if c.on ≠ 0 then (c, 8) else if (x.stop 0).due < c.now + far (x.stop c.spot) (x.stop 0) then (x.drive c 0, 7) else (x.drive c 0, 0)
def Inst.car0 (x : Inst) : Car := ⟨0, (x.stop 0).ready, 0, 0, 0, 0, [], []⟩
def Inst.runC (x : Inst) : List Int → Car → Car × Int
  | [], c => x.homeC c
  | i :: r, c => if (x.visitC c i).2 ≠ 0 then x.visitC c i else x.runC r (x.visitC c i).1
structure RX where
  lb : Nat
  k : Nat
  c : Car
  e : Int
  b : Nat
  qt : Nat
  ql : Nat
  σ : Nat → AObj
  nx : Nat
structure RX.I (x : Inst) (p : Nat) (route : List Int) (R : Car × Int) (σ0 : Nat → AObj) (nx0 : Nat) (a : RX) : Prop where
  go : (a.lb = 1 ∧ a.k ≤ route.length ∧ a.c.Fit p a.k ∧ a.b < a.nx ∧ nx0 < a.b ∧ nx0 < a.qt ∧ nx0 < a.ql ∧ a.σ a.b = .box (carC x a.c a.qt a.ql) ∧ Rows3 a.c a.σ a.nx a.b a.qt a.ql ∧ x.runC (route.drop a.k) a.c = R) ∨ (a.lb = 0 ∧ a.e = R.2 ∧ R.2 ≠ 0)
  old : ∀ j, j ≤ nx0 → a.σ j = σ0 j
  nx : nx0 < a.nx
def RX.st (route : List Int) (a : RX) : St := ⟨sl (if a.lb = 1 then [(1, .t (.sl (ints route))), (6, .ptr a.b 0), (7, .i a.k)] else [(8, .i a.e)]), a.σ, a.nx⟩
def RX.m (route : List Int) (a : RX) : Nat := if a.lb = 1 then route.length + 1 - a.k else 0
def Inst.times (x : Inst) (route : List Int) : List (List T) × Int × Int :=
  if x.may = false then ([], 0, 1) else if (x.runC route x.car0).2 ≠ 0 then ([], 0, (x.runC route x.car0).2) else ((x.runC route x.car0).1.times, (x.runC route x.car0).1.gone, 0)
end Go.Proofs.Ytdjbapglfdacmaa

/- What a plan costs. -/
set_option maxRecDepth 4000
namespace Go.Proofs.Ytdjbapglfdacmaa
open Go Go.Proofs.Ytdjbapglfdacmaa.R
def bump (s : List Int) (i : Int) : List Int := s.set i.toNat (s.getD i.toNat 0 + 1)
def Inst.costGo (x : Inst) : List (List Int) → Int → List Int → Int × Int
  | [], all, seen => if (seen.any fun n => decide (1 < n)) = true then (0, 5) else if ((seen.drop 1).any fun n => decide (n = 0)) = true then (0, 4) else (all, 0)
  | r :: rs, all, seen => if r.length = 0 then (0, 1) else if (x.times r).2.2 ≠ 0 then (0, (x.times r).2.2) else x.costGo rs (all + (x.times r).2.1) (r.foldl bump seen)
def Inst.cost (x : Inst) (p : List (List Int)) : Int × Int :=
  if x.may = false then (0, 1) else if x.cars < p.length then (0, 6) else x.costGo p 0 (List.replicate (2 * x.pairs + 1).toNat 0)
theorem bump_len (s : List Int) (i : Int) : (bump s i).length = s.length := List.length_set
end Go.Proofs.Ytdjbapglfdacmaa

/- What can be followed and ended is the tour of a plan: the plain law. -/
set_option maxRecDepth 4000
namespace Go.Proofs.Ytdjbapglfdacmaa
open Go Go.Proofs.Ytdjbapglfdacmaa.R
/-- A car goes as a state says; what was seen ahead of its route: m0. -/
structure Sim1 (x : Inst) (p m0 : Nat) (s : State) (c : Car) (k : Nat) : Prop where
  spot : c.spot = s.spot
  now : c.now = s.time
  load : c.load = s.load
  on : c.on = s.on
  seen : ∀ i, 1 ≤ i → i ≤ 2 * p → s.must.testBit i = (m0.testBit i || c.seen.testBit i)
  old : ∀ i, 1 ≤ i → i ≤ p → m0.testBit i = true → m0.testBit (i + p) = true
  fit : c.Fit p k
  good : Good x p s
theorem Sim1.step {x : Inst} {p m0 k : Nat} {s : State} {c : Car} {j : Int} (hx : x.Fit p) (h : Sim1 x p m0 s c k) (hj : j ≠ 0) (hm : (x.move s j).2.2 = true) :
    (x.visitC c j).2 = 0 ∧ Sim1 x p m0 (x.move s j).1 (x.visitC c j).1 (k + 1) ∧ (x.visitC c j).1.gone = c.gone + (x.move s j).2.1 := by
  obtain ⟨g1, g2, g3, g4, g5, g6⟩ := good_step hx h.good hm
  obtain ⟨m1, m2, m3, m4, m5, m6, m7, m8⟩ := move_pos hm hj
  have hp := hx.pairs
  have hfew := hx.few
  obtain ⟨i, rfl⟩ : ∃ i : Nat, j = i := ⟨j.toNat, by omega⟩
  simp only [Inst.lateB, Bool.or_eq_false_iff, decide_eq_false_iff_not] at m5
  rw [has_testN (by omega)] at m5
  have hs := h.seen i (by omega) (by omega)
  rw [m5.1] at hs
  have hv : x.visitsE c i = 0 := by
    rw [Inst.visitsE, if_neg (by omega), if_neg, if_neg, if_neg]
    · rw [h.load]
      by_cases hi : (i : Int) ≤ x.pairs
      · have := m6 hi
        simp only [Inst.fullB, Bool.or_eq_false_iff, decide_eq_false_iff_not] at this
        omega
      · have hb := hx.bring (k := i - p) (by omega) (by omega)
        have ht := hx.take (k := i - p) (by omega) (by omega)
        have hr := h.good.room
        rw [show i - p + p = i by omega] at hb
        omega
    · rintro ⟨hi, hq⟩
      have := m7 hi
      simp only [Inst.emptyB, Bool.or_eq_false_iff, Bool.not_eq_false', decide_eq_false_iff_not] at this
      have e : (i : Int) - x.pairs = ((i - p : Nat) : Int) := by omega
      rw [e] at this hq
      rw [has_testN (by omega), h.good.eq] at this
      rw [has_testN (by omega)] at hq
      have h1 := h.seen (i - p) (by omega) (by omega)
      rw [this.2, hq, Bool.or_false] at h1
      have h2 := h.old (i - p) (by omega) (by omega) h1.symm
      rw [show i - p + p = i by omega] at h2
      rw [h2] at hs
      cases hs
    · rw [has_testN (by omega)]
      intro hq
      rw [hq, Bool.or_true] at hs
      cases hs
  have hfar : x.visitC c i = ({ spot := i, now := x.begins s i + (x.stop i).service, gone := c.gone + far (x.stop s.spot) (x.stop i), load := s.load + (x.stop i).demand, seen := withN c.seen i, on := if (i : Int) ≤ x.pairs then withN s.on i else withoutN s.on (i - x.pairs), times := c.times ++ [[.i (s.time + far (x.stop s.spot) (x.stop i)), .i (x.begins s i), .i (x.begins s i + (x.stop i).service)]], loads := c.loads ++ [s.load + (x.stop i).demand] }, 0) := by
    rw [Inst.visitC, if_neg (by simp [hv]), h.spot, h.now, h.load, h.on, if_neg]
    · rfl
    · have := m5.2
      unfold Inst.begins at this
      exact this
  have hfit := visitC_fit hx h.fit (i := i) (by rw [hfar])
  rw [hfar] at hfit ⊢
  rw [if_pos (by omega)] at g4 g6
  refine ⟨rfl, ⟨?_, ?_, ?_, ?_, ?_, h.old, hfit, g1⟩, ?_⟩
  · rw [m8]; rfl
  · rw [m8]; rfl
  · rw [g6]
  · rw [m8]; rfl
  · intro n n1 n2
    rw [g4, with_bit (by omega), with_bit (by omega), h.seen n n1 n2, Bool.or_assoc]
  · rw [m8]
/-- How often each stop stands in what was seen so far. -/
def MatchS (p must : Nat) (seen : List Int) : Prop := seen.length = 2 * p + 1 ∧ ∀ i (h : i < seen.length), seen[i] = if 1 ≤ i ∧ must.testBit i = true then 1 else 0
theorem MatchS.bump {p must : Nat} {seen : List Int} (h : MatchS p must seen) {j : Nat} (h1 : 1 ≤ j) (h2 : j ≤ 2 * p) (h64 : j ≤ 63) (hn : must.testBit j = false) : MatchS p (withN must j) (bump seen j) := by
  obtain ⟨hl, hs⟩ := h
  refine ⟨by rw [bump_len]; exact hl, fun i hi => ?_⟩
  have hi' : i < seen.length := by rw [bump_len] at hi; exact hi
  have e : seen.getD j 0 = seen[j] := by rw [List.getD_eq_getElem?_getD, List.getElem?_eq_getElem (by omega)]; rfl
  have h0 := hs j (by omega)
  rw [if_neg (by simp [hn])] at h0
  simp only [Go.Proofs.Ytdjbapglfdacmaa.bump, Int.toNat_natCast, e, h0, List.getElem_set, with_bit h64]
  by_cases hji : j = i
  · subst hji
    simp [h1]
  · rw [if_neg hji, hs i hi']
    simp [hji]
theorem MatchS.end {p must : Nat} {seen : List Int} (h : MatchS p must seen) (ha : ∀ i, 1 ≤ i → i ≤ 2 * p → must.testBit i = true) : (seen.any fun n => decide (1 < n)) = false ∧ ((seen.drop 1).any fun n => decide (n = 0)) = false := by
  obtain ⟨hl, hs⟩ := h
  constructor
  · rw [List.any_eq_false]
    intro n hn
    obtain ⟨i, hi, rfl⟩ := List.mem_iff_getElem.1 hn
    rw [hs i hi]
    split <;> simp
  · rw [List.any_eq_false]
    intro n hn
    obtain ⟨i, hi, rfl⟩ := List.mem_iff_getElem.1 hn
    rw [List.getElem_drop, hs (1 + i) (by rw [List.length_drop] at hi; omega), if_pos ⟨by omega, ha _ (by omega) (by rw [List.length_drop] at hi; omega)⟩]
    simp
end Go.Proofs.Ytdjbapglfdacmaa

/- Each plan that may be is the end of moves: the plain law. -/
set_option maxRecDepth 4000
namespace Go.Proofs.Ytdjbapglfdacmaa
open Go Go.Proofs.Ytdjbapglfdacmaa.R
theorem Sim1.mayB {x : Inst} {p m0 k : Nat} {s : State} {c : Car} (hx : x.Fit p) (h : Sim1 x p m0 s c k) (hcar : 1 ≤ s.car ∧ s.car ≤ x.cars) : s.mayB x = true := by
  have hp := hx.pairs
  have hsum := sumOn_pos hx s.on p (Nat.le_refl _)
  have h1 := h.fit.spot
  have h2 := h.fit.now
  have h3 := h.good.load
  have h4 := h.good.room
  have h5 := hx.room
  have h6 := h.spot
  have h7 := h.now
  simp only [State.mayB, Bool.and_eq_true, decide_eq_true_eq]
  omega
end Go.Proofs.Ytdjbapglfdacmaa

/- Diagrams from nodes that moves lead to: what they tell. -/
set_option maxRecDepth 4000
namespace Go.Proofs.Ytdjbapglfdacmaa
open Go Go.Proofs.Ytdjbapglfdacmaa.R
/-- A node whose path leads to it. -/
structure Track (x : Inst) (n : Node) : Prop where
  goes : x.goes n.path x.rootS 0 = some (n.s, n.cost)
  is : n.s.Is n.s.spot
  cost : 0 ≤ n.cost ∧ n.cost ≤ 14143 * (n.path.length : Int)
  len : n.path.length + x.meas n.s ≤ x.meas x.rootS
theorem Track.few {x : Inst} {n : Node} (h : Track x n) : n.path.length ≤ 40 := by
  have := h.len
  have := meas_le x x.rootS
  omega
theorem Track.child {x : Inst} {n : Node} (h : Track x n) {j : Int} (hj : (x.move n.s j).2.2 = true) : Track x (x.child n j) := by
  have hc := move_cost hj
  have hl := h.cost
  have hf := h.few
  have e : (x.child n j).cost = n.cost + (x.move n.s j).2.1 := sumI_two hl.1 hc.1 (by omega)
  have hm := meas_move hj
  have hlen : (n.path ++ [j]).length = n.path.length + 1 := by simp
  refine ⟨?_, h.is.move hj, ?_, ?_⟩
  · show x.goes (n.path ++ [j]) x.rootS 0 = some ((x.move n.s j).1, (x.child n j).cost)
    rw [goes_app, h.goes, Option.bind_some]
    show x.goes [j] n.s n.cost = _
    rw [Inst.goes, if_pos hj, w64 _ (by omega), e]
    rfl
  · rw [e]
    show _ ∧ _ ≤ 14143 * ((n.path ++ [j]).length : Int)
    rw [hlen]
    omega
  · show (n.path ++ [j]).length + x.meas (x.move n.s j).1 ≤ _
    rw [hlen]
    have := h.len
    omega
theorem Track.way {x : Inst} {n : Node} (h : Track x n) {v : List Int} {c : Int} (hv : x.way v n.s c) : x.way (n.path ++ v) x.rootS (n.cost + c) := by
  have hf := h.few
  have := way_app (c0 := 0) (by omega) (by omega) h.goes hv
  rwa [show n.cost - 0 + c = n.cost + c by omega] at this
end Go.Proofs.Ytdjbapglfdacmaa

/- Diagrams of all ways: the laws are awake; what is squeezed. -/
set_option maxRecDepth 4000
set_option maxHeartbeats 1000000
namespace Go.Proofs.Ytdjbapglfdacmaa
open Go Go.Proofs.Ytdjbapglfdacmaa.R
theorem small_build : (small.build small.rootN 1 1152921504606846976).layers.length = 3 ∧ (small.build small.rootN 1 1152921504606846976).low = 12 ∧ (small.build small.rootN 1 1152921504606846976).exact = true ∧ (small.build small.rootN 1 1152921504606846976).sure = 3 ∧ small.deep = 2 := by decide +kernel
theorem awake17_pure : Pure P 7 [] (.b true) := by
  refine pure_of Try.func7 rfl rfl (by simp [Try.f7]) (by simp [bnd, bnd.bndL]) (by simp [bnd, bnd.bndL]) fun B hB hnx => ?_
  simp only [Try.f7] at hB ⊢
  refine K_run hB 100 ?_
  simp [go_sem]
  refine K_call rfl rfl rfl (args := []) (f := 21) (by simp [go_sem]) (by simp [go_sem, hB]) ((small_pure).spec _ _) ?_
  have hp := parse_pure smallB (by decide) (by decide)
  rw [small_parse] at hp
  refine K_run hB 100 ?_
  simp [go_sem, small_bytes]
  refine K_call rfl rfl rfl (args := [.t (.sl (byt smallB))]) (f := 20) (by simp [go_sem]) (by simp [go_sem, hB]) ((hp).spec _ _) ?_
  have hl : small.stops.length < 2 ^ 31 := by decide
  have hr := root_pureS small (by omega)
  have hb := build_pure small small.rootN 1 1152921504606846976 hl (by omega) (rootS_ok small) (by simp [Inst.rootN])
  have hd := deep_pure small (by omega)
  obtain ⟨e1, e2, e3, e4, e5⟩ := small_build
  have ea : small.rootN.a = .agg [.i small.rootS.spot, .i small.rootS.car, .i small.rootS.time, .i small.rootS.load, .i small.rootS.first, .u small.rootS.must, .u small.rootS.can, .u small.rootS.on, .i 0, .t (.sl [])] := rfl
  rw [ea] at hb
  rw [e5] at hd
  generalize small.build small.rootN 1 1152921504606846976 = D at *
  generalize small.rootS = r at *
  generalize small = x at *
  have hlen : (lysT D.layers).length = 3 := by rw [lysT, List.length_map, e1]
  refine K_run hB 100 ?_
  simp [go_sem, Inst.a]
  refine K_drawnF [5, 6] [0, 1, 2, 3, 4] rfl (by rw [hB]; kernel_rfl) (by kernel_rfl) fun ht hf' => ?_
  refine K_run hB 100 ?_
  simp [go_sem, ht, hf']
  refine K_dCallP rfl rfl rfl (args := [x.a]) (f := 22) (by simp [go_sem, Inst.a]) (hr) ?_
  refine K_run hB 100 ?_
  simp [go_sem, ht, hf', State.a, State.cs]
  refine K_dCallP rfl rfl rfl (args := [x.a, .agg [.i r.spot, .i r.car, .i r.time, .i r.load, .i r.first, .u r.must, .u r.can, .u r.on, .i 0, .fsl []], .i 1, .i 1152921504606846976]) (f := 14) (by simp [go_sem, Inst.a]) (Pure.loose hb (by simp [bnd, bnd.bndL, Inst.a])) ?_
  refine K_run hB 100 ?_
  simp [go_sem, ht, hf', Diag.a, Diag.cs, hlen, e2, e3, e4]
  refine K_call rfl rfl rfl (args := [x.a]) (f := 16) (by simp [go_sem, Inst.a]) (by simp [go_sem, hB]) ((hd).spec _ _) ?_
  refine K_run hB 100 ?_
  simp [go_sem]
theorem few_fine13 {l : List Node} (h : fewB l = true) : l.length ≤ 60 ∧ ∀ n ∈ l, n.path.length ≤ 100 := by
  simp only [fewB, Bool.and_eq_true, decide_eq_true_eq, List.all_eq_true] at h
  exact h
theorem lwsq_pure (x : Inst) (l : List Node) (w : Int) (hl : x.stops.length < 2 ^ 63) (hll : l.length < 2 ^ 63) (ho : ∀ n ∈ l, n.s.ok) : Pure P 3 [x.a, .t (.sl (nodesT l)), .i w] (.b true) := by
  refine pure_of Try.func3 rfl rfl (by simp [Try.f3]) (by simp [bnd, bnd.bndL, Inst.a]) (by simp [bnd, bnd.bndL]) fun B hB hnx => ?_
  simp only [Try.f3] at hB ⊢
  have hfw := few_pure l hll
  refine K_run hB 100 ?_
  simp [go_sem, Inst.a]
  refine K_call rfl rfl rfl (args := []) (f := 7) (by simp [go_sem]) (by simp [go_sem, hB]) ((awake17_pure).spec _ _) ?_
  refine K_run hB 100 ?_
  simp [go_sem]
  refine K_call rfl rfl rfl (args := [.t (.sl (nodesT l))]) (f := 8) (by simp [go_sem]) (by simp [go_sem, hB]) ((hfw).spec _ _) ?_
  cases c0 : fewB l with
  | false =>
    refine K_run hB 100 ?_
    simp [go_sem]
  | true =>
    obtain ⟨f1, f2⟩ := few_fine13 c0
    by_cases c1 : 9 < (x.stops.length : Int)
    · refine K_run hB 100 ?_
      simp [go_sem, c1]
    have hfn : ∀ n ∈ l, n.Fine := fun n h => ⟨ho n h, by have := f2 n h; omega⟩
    have h1 := squeeze_pure x l w (by omega) (by omega) hfn
    have h2 := rsqueeze_pure x l w (by omega) (by omega) hfn
    have hq1 := squeeze_len x l w
    have hq2 : ∀ n ∈ x.squeeze l w, n.path.length < 2 ^ 63 := fun n h => by
      rcases squeeze_mem h with h | ⟨i, g, _, _, _, rfl⟩
      · have := f2 n h; omega
      · show 0 < 2 ^ 63; decide
    have hq3 : (x.squeeze l w).length < 2 ^ 63 := by
      by_cases hc : (x.sortN l).length ≤ x.mostN w
      · have : (x.squeeze l w).length ≤ (x.sortN l).length := by rw [Inst.squeeze, if_pos hc]; exact Nat.le_refl _
        have := x.sortN_len l
        omega
      · have := x.sortN_len l
        omega
    have h3 := rsameN_pure (x.squeeze l w) (x.squeeze l w) hq3 hq3 hq2 hq2
    rw [decide_eq_true rfl] at h3
    generalize x.squeeze l w = Q at *
    refine K_run hB 100 ?_
    simp [go_sem, c1]
    refine K_drawn [] rfl (by rw [hB]; kernel_rfl) ?_
    refine K_run hB 100 ?_
    simp [go_sem]
    refine K_dCallP rfl rfl rfl (args := [x.a, .t (.sl (nodesT l)), .i w]) (f := 10) (by simp [go_sem, Inst.a]) (h1) ?_
    refine K_run hB 100 ?_
    simp [go_sem]
    refine K_dCallP rfl rfl rfl (args := [x.a, .t (.sl (nodesT l)), .i w]) (f := 11) (by simp [go_sem, Inst.a]) (h2) ?_
    refine K_run hB 100 ?_
    simp [go_sem]
    refine K_dCallP rfl rfl rfl (args := [.t (.sl (nodesT Q)), .t (.sl (nodesT Q))]) (f := 9) (by simp [go_sem]) (h3) ?_
    refine K_run hB 100 ?_
    simp [go_sem]
end Go.Proofs.Ytdjbapglfdacmaa
