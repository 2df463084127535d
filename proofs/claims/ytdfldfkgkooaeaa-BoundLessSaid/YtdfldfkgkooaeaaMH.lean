/- Parts of the proof: Law12, Law12b, Every. -/
import Derived.Test.YtdfldfkgkooaeaaMG
set_option linter.unusedVariables false
/- BoundSteps, BoundWays: what the laws give. -/
set_option maxRecDepth 4000
namespace Go.Proofs.Ytdfldfkgkooaeaa
open Go Go.Proofs.Ytdfldfkgkooaeaa.R
theorem canB_mem {f : Nat → Bool} : ∀ {n : Nat} {j : Int}, j ∈ canB f n → ∃ k : Nat, j = k ∧ k < n ∧ f k = true
  | 0, j, h => by cases h
  | n + 1, j, h => by
    rw [canB, List.mem_append] at h
    rcases h with h | h
    · obtain ⟨k, h1, h2, h3⟩ := canB_mem h
      exact ⟨k, h1, by omega, h3⟩
    · split at h
      · rename_i hf
        rw [List.mem_singleton] at h
        exact ⟨n, h, by omega, hf⟩
      · cases h
theorem moves_mem {x : Inst} {s : State} {j : Int} (h : j ∈ x.moves s) : (x.move s j).2.2 = true := by
  rw [moves_can] at h
  obtain ⟨k, rfl, _, h3⟩ := canB_mem h
  exact h3
theorem moves_len (x : Inst) (s : State) : (x.moves s).length ≤ x.stops.length := by
  rw [moves_can]
  exact canB_len _ _
theorem move_cost {x : Inst} {s : State} {j : Int} (h : (x.move s j).2.2 = true) : 0 ≤ (x.move s j).2.1 ∧ (x.move s j).2.1 ≤ 14143 := by
  obtain ⟨_, _, _, _, e⟩ := move_is h
  rw [e]
  exact far_le _ _
theorem lbsteps_pure (x : Inst) (s : State) (hl : x.stops.length < 2 ^ 63) (ho : s.ok) : Pure P 11 [x.a, s.a] (.b true) := by
  refine pure_of Try.func11 rfl rfl (by simp [Try.f11]) (by simp [bnd, bnd.bndL, Inst.a, State.a, State.cs]) (by simp [bnd, bnd.bndL]) fun B hB hnx => ?_
  simp only [Try.f11] at hB ⊢
  refine K_run hB 100 ?_
  simp [go_sem, Inst.a, State.a, State.cs]
  refine K_call rfl rfl rfl (args := []) (f := 15) (by simp [go_sem]) (by simp [go_sem, hB]) ((awake12_pure).spec _ _) ?_
  by_cases c1 : 100 < (x.stops.length : Int)
  · refine K_run hB 100 ?_
    simp [go_sem, c1]
  have hpure := has_pure s.must s.spot ho.must
  have hat := at_pure x s (by omega) ho
  have hms := moves_pure x s hl ho
  have hmv := fun j => move_pure x s j hl ho
  have hmem : ∀ j ∈ x.moves s, (x.move s j).2.2 = true := fun j hj => moves_mem hj
  have hml := moves_len x s
  have hen := end_pure x s hl ho
  have hle := low_end (x := x) (s := s)
  have hcs := fun j (h : (x.move s j).2.2 = true) => move_cost h
  have hlow := low_eq x s (by omega)
  have hin := lowP_in (near_le x) s.can
  have hnl := near_len x
  have hil : (ints (x.moves s)).length = (x.moves s).length := List.length_map _
  have hgt : ∀ (k : Nat) (h : k < (x.moves s).length), (ints (x.moves s))[k]'(by rw [hil]; exact h) = [.i ((x.moves s)[k])] := fun k h => ints_getS _ h
  by_cases c2 : s.spot = 0
  all_goals
    first
    | have hsn : s.seenAt := .inl c2
      refine K_run hB 100 ?_
      simp [go_sem, c1, c2]
    | refine K_run hB 100 ?_
      simp [go_sem, c1, c2]
      refine K_call rfl rfl rfl (args := [.u s.must, .i s.spot]) (f := 35) (by simp [go_sem]) (by simp [go_sem, hB]) ((hpure).spec _ _) ?_
      by_cases c3 : hasB s.must s.spot = true
      rotate_left
      · have c4 : hasB s.must s.spot = false := by simpa using c3
        rw [c4]
        refine K_run hB 100 ?_
        simp [go_sem]
      have hsn : s.seenAt := .inr c3
      rw [c3]
      refine K_run hB 100 ?_
      simp [go_sem]
  all_goals
    have hst := fun j (h : (x.move s j).2.2 = true) => low_step hsn h
    have hok := fun j => move_ok x j ho
    refine K_call rfl rfl rfl (args := [x.a, s.a]) (f := 16) (by simp [go_sem, Inst.a, State.a, State.cs, c2]) (by simp [go_sem, hB]) ((hat).spec _ _) ?_
    rw [hlow]
    generalize lowP x.near s.can = n at *
    refine K_run hB 100 ?_
    simp [go_sem]
    refine K_call rfl rfl rfl (args := [x.a, s.a]) (f := 27) (by simp [go_sem, Inst.a, State.a, State.cs, c2]) (by simp [go_sem, hB]) ((hms).spec _ _) ?_
    generalize hX : ints (x.moves s) = X at *
    generalize hL : x.moves s = L at *
    refine K_run hB 100 ?_
    simp [go_sem]
    refine K_loopP (α := Nat × (Nat → AObj) × Nat) (fun (k, σ, nx) => k ≤ L.length ∧ σ 0 = .box [.t (.i x.pairs), .t (.i x.cars), .t (.i x.room), .t (.sl (x.stops.map Stop.t))] ∧ σ 1 = .box s.cs ∧ 1 < nx)
      (fun (k, σ, nx) => ⟨sl [(2, .ptr 0 0), (3, .ptr 1 0), (6, .i n), (7, .t (.sl X)), (8, .i k)], σ, nx⟩) (fun a => L.length - a.1) (0, _, 2) ⟨Nat.zero_le _, by simp [oput], by simp [oput, State.cs, c2], by omega⟩ (Imp.slots (by simp [go_sem]) rfl rfl) ?_
    rintro ⟨k, σ, nx⟩ ⟨g1, g2, g3, g4⟩
    refine K_run hB 60 ?_
    simp [go_sem, hil]
    refine fork_dec (fun hk => ?_) (fun hk => ?_)
    · have hkk : IntKind.i64.wrap ((k : Int) + 1) = ((k + 1 : Nat) : Int) := by rw [w64 ((k : Int) + 1) (by omega)]; rfl
      have hget : ∀ h : k < X.length, X[k]'h = [.i L[k]] := fun h => hgt k hk
      have hj := hmem L[k] (List.getElem_mem _)
      generalize L[k] = j at *
      have h1 := hst j hj
      have h2 := hcs j hj
      have h3 := hmv j
      have h4 := at_pure x (x.move s j).1 (by omega) (hok j)
      have h5 := low_eq x (x.move s j).1 (by omega)
      have h6 := lowP_in (near_le x) (x.move s j).1.can
      rw [h5] at h4
      generalize x.move s j = V at *
      obtain ⟨t, c, is⟩ := V
      simp only at h1 h2 h4 h6 hj
      subst hj
      generalize lowP x.near t.can = m at *
      have w1 := w64 (c + m) (by omega)
      have hno : ¬ c + m < n := by omega
      simp [go_sem]
      refine K_drawnF [11, 12] [0, 1, 2, 3, 4, 5, 6, 7, 8, 9, 10] rfl (by rw [hB]; kernel_rfl) (by kernel_rfl) fun ht hf' => ?_
      refine K_run hB 100 ?_
      simp [go_sem, ht, hf', hil, hk, hget, g2, g3, State.cs]
      refine K_dCallP rfl rfl rfl (args := [x.a, s.a, .i j]) (f := 22) (by simp [go_sem, Inst.a, State.a, State.cs, c2]) (h3) ?_
      refine K_run hB 100 ?_
      simp [go_sem, ht, hf', mv, State.a, State.cs, g2, g3, show ¬ 0 = nx by omega, show ¬ 1 = nx by omega]
      refine K_call rfl rfl rfl (args := [x.a, t.a]) (f := 16) (by simp [go_sem, Inst.a, State.a, State.cs]) (by simp [go_sem, hB]) ((h4).spec _ _) ?_
      refine K_run hB 100 ?_
      simp [go_sem, w1, hno, hkk]
      refine Next.mk (k + 1, _, nx + 1) ?_ (Imp.slots (by simp [go_sem]) rfl rfl) (by simp only; omega)
      refine ⟨by simp only; omega, ?_, ?_, by simp only; omega⟩
      · simp [oput, show ¬ 0 = nx by omega, g2]
      · simp [oput, show ¬ 1 = nx by omega, g3, State.cs]
    · simp [go_sem, g2, g3, State.cs]
      refine K_call rfl rfl rfl (args := [x.a, s.a]) (f := 24) (by simp [go_sem, Inst.a, State.a, State.cs, c2]) (by simp [go_sem, hB]) ((hen).spec _ _) ?_
      generalize x.endS s = E at *
      obtain ⟨c, is⟩ := E
      cases is with
      | false =>
        refine K_run hB 100 ?_
        simp [go_sem, hin]
      | true =>
        have := hle rfl
        refine K_run hB 100 ?_
        simp [go_sem, hin, this]
end Go.Proofs.Ytdfldfkgkooaeaa

/- BoundWays: what the law gives. -/
set_option maxRecDepth 4000
namespace Go.Proofs.Ytdfldfkgkooaeaa
open Go Go.Proofs.Ytdfldfkgkooaeaa.R
theorem sumI_two {a b : Int} (ha : 0 ≤ a) (hb : 0 ≤ b) (h : a + b ≤ 1152921504606846976) : sumI [a, b] = a + b := by
  simp only [sumI, List.foldl_cons, List.foldl_nil, sum1]
  omega
/-- Moves that can be followed: as costs that don't grow too great. -/
theorem goes_app (x : Inst) : ∀ (l m : List Int) (s : State) (c : Int), x.goes (l ++ m) s c = (x.goes l s c).bind fun r => x.goes m r.1 r.2
  | [], m, s, c => rfl
  | j :: l, m, s, c => by
    rw [List.cons_append, Inst.goes, Inst.goes]
    split
    · exact goes_app x l m _ _
    · rfl
theorem goes_facts (x : Inst) : ∀ (l : List Int) (s : State) (c : Int) (s' : State) (c' : Int), s.seenAt → 0 ≤ c → c + 14143 * l.length < 9223372036854775808 → x.goes l s c = some (s', c') →
    s'.seenAt ∧ c ≤ c' ∧ c' ≤ c + 14143 * l.length ∧ lowP x.near s.can + c ≤ c' + lowP x.near s'.can
  | [], s, c, s', c', hs, h0, _, h => by
    rw [Inst.goes] at h
    cases h
    refine ⟨hs, Int.le_refl _, by simp, by omega⟩
  | j :: l, s, c, s', c', hs, h0, hlt, h => by
    rw [Inst.goes] at h
    split at h
    · rename_i hm
      have h1 := move_cost hm
      have h2 := low_step hs hm
      rw [List.length_cons] at hlt
      rw [w64 _ (by omega)] at h
      obtain ⟨g1, g2, g3, g4⟩ := goes_facts x l _ _ s' c' (seen_step hm) (by omega) (by omega) h
      rw [List.length_cons]
      exact ⟨g1, by omega, by omega, by omega⟩
    · cases h
theorem seen_root (x : Inst) : x.rootS.seenAt := by
  unfold Inst.rootS
  split <;> exact .inl rfl
theorem goes_ok (x : Inst) : ∀ (l : List Int) (s : State) (c : Int) (s' : State) (c' : Int), s.ok → x.goes l s c = some (s', c') → s'.ok
  | [], s, c, s', c', hs, h => by rw [Inst.goes] at h; cases h; exact hs
  | j :: l, s, c, s', c', hs, h => by
    rw [Inst.goes] at h
    split at h
    · exact goes_ok x l _ _ s' c' (move_ok x j hs) h
    · cases h
theorem ints_take (l : List Int) (k : Nat) : (ints l).take k = ints (l.take k) := by simp [ints, List.map_take]
theorem ints_one (l : List Int) : ∀ y ∈ ints l, y.length = 1 := by
  intro y hy
  simp only [ints, List.mem_map] at hy
  obtain ⟨n, _, rfl⟩ := hy
  rfl
theorem lways_pure (x : Inst) (path : List Int) (cut : Int) (hl : x.stops.length < 2 ^ 63) (hp : path.length < 2 ^ 63) : Pure P 13 [x.a, .t (.sl (ints path)), .i cut] (.b true) := by
  refine pure_of Try.func13 rfl rfl (by simp [Try.f13]) (by simp [bnd, bnd.bndL, Inst.a]) (by simp [bnd, bnd.bndL]) fun B hB hnx => ?_
  simp only [Try.f13] at hB ⊢
  have hil : (ints path).length = path.length := List.length_map _
  have hf := follow_pure x path hl hp
  have hf2 := follow_pure x (path.take cut.toNat) hl (by rw [List.length_take]; omega)
  have he := end_pure x (x.follow path).1 hl (follow_ok x path)
  refine K_run hB 100 ?_
  simp [go_sem, Inst.a]
  refine K_call rfl rfl rfl (args := []) (f := 15) (by simp [go_sem]) (by simp [go_sem, hB]) ((awake12_pure).spec _ _) ?_
  by_cases c1 : 100 < (x.stops.length : Int)
  · refine K_run hB 100 ?_
    simp [go_sem, c1]
  by_cases c2 : 100 < (path.length : Int)
  · refine K_run hB 100 ?_
    simp [go_sem, c1, hil, c2]
  by_cases c3 : cut < 0
  · refine K_run hB 100 ?_
    simp [go_sem, c1, hil, c2, c3]
  by_cases c4 : (path.length : Int) < cut
  · refine K_run hB 100 ?_
    simp [go_sem, c1, hil, c2, c3, c4]
  have hfi : (x.follow path).2.2 = 0 → x.may = true ∧ x.goes path x.rootS 0 = some ((x.follow path).1, (x.follow path).2.1) := follow_is
  have hle := low_end (x := x) (s := (x.follow path).1)
  have hcost : (x.endS (x.follow path).1).2 = true → 0 ≤ (x.endS (x.follow path).1).1 ∧ (x.endS (x.follow path).1).1 ≤ 14143 := fun h => by
    obtain ⟨_, h | h⟩ := end_is h
    · rw [h.2.2]; omega
    · rw [h.2.2.2.2.2]; exact far_le _ _
  generalize hF : x.follow path = F at *
  generalize hE : x.endS F.1 = E at *
  refine K_run hB 100 ?_
  simp [go_sem, c1, c2, c3, c4, hil]
  refine K_call rfl rfl rfl (args := [x.a, .t (.sl (ints path))]) (f := 31) (by simp [go_sem, Inst.a]) (by simp [go_sem, hB]) ((hf).spec _ _) ?_
  refine K_run hB 100 ?_
  simp [go_sem, fol, State.a, State.cs]
  refine K_call rfl rfl rfl (args := [x.a, F.1.a]) (f := 24) (by simp [go_sem, Inst.a, State.a, State.cs]) (by simp [go_sem, hB]) ((he).spec _ _) ?_
  by_cases c5 : F.2.2 = 0
  rotate_left
  · refine K_run hB 100 ?_
    simp [go_sem, c5]
  obtain ⟨ec, is⟩ := E
  cases is with
  | false =>
    refine K_run hB 100 ?_
    simp [go_sem, c5]
  | true =>
    obtain ⟨hm, hg⟩ := hfi c5
    have hsplit : path = path.take cut.toNat ++ path.drop cut.toNat := (List.take_append_drop _ _).symm
    have hg0 := hg
    rw [hsplit, goes_app] at hg
    obtain ⟨p1, hp1⟩ : ∃ p1, p1 = path.take cut.toNat := ⟨_, rfl⟩
    have hl1 : p1.length ≤ 100 := by rw [hp1, List.length_take]; omega
    have hl2 : (path.drop cut.toNat).length ≤ 100 := by rw [List.length_drop]; omega
    rw [← hp1] at hg hf2
    cases hgo : x.goes p1 x.rootS 0 with
    | none => rw [hgo] at hg; cases hg
    | some r =>
      obtain ⟨t, fr⟩ := r
      rw [hgo] at hg
      have hg : x.goes (path.drop cut.toNat) t fr = some (F.1, F.2.1) := hg
      obtain ⟨a1, a2, a3, a4⟩ := goes_facts x p1 _ _ t fr (seen_root x) (Int.le_refl _) (by omega) hgo
      obtain ⟨b1, b2, b3, b4⟩ := goes_facts x _ _ _ _ _ a1 a2 (by omega) hg
      have hok := goes_ok x p1 _ _ t fr (rootS_ok x) hgo
      have hfo : x.follow p1 = (t, fr, 0) := by rw [Inst.follow, if_pos hm, hgo]; rfl
      rw [hfo] at hf2
      have hin := lowP_in (near_le x) t.can
      have hnl := near_len x
      have hof := of_pure x ⟨t, fr, []⟩ (by omega) hok
      have hofe : x.of ⟨t, fr, []⟩ = fr + lowP x.near t.can := by
        rw [Inst.of, low_eq x t (by omega)]
        exact sumI_two (by omega) hin.1 (by simp only; omega)
      have hlast := hle rfl
      have hec := hcost rfl
      simp only at hlast hec
      rw [hofe] at hof
      generalize lowP x.near t.can = m at *
      generalize lowP x.near F.1.can = q at *
      have w1 := w64 (F.2.1 + ec) (by omega)
      have hfin : fr + m ≤ F.2.1 + ec := by omega
      have hcn : ((cut.toNat : Nat) : Int) = cut := by omega
      have hc5 : 0 ≤ cut := by omega
      have hc6 : cut ≤ path.length := by omega
      have h1 := ints_one path
      refine K_run hB 100 ?_
      simp [go_sem, c5]
      refine K_drawnF [9, 10] [0, 1, 2, 3, 4, 5, 6, 7, 8] rfl (by rw [hB]; kernel_rfl) (by kernel_rfl) fun ht hf' => ?_
      refine K_run hB 100 ?_
      simp [go_sem, ht, hf', hil, hc5, hc6, ints_take, ← hp1, if_pos h1]
      refine K_dCallP rfl rfl rfl (args := [x.a, .t (.sl (ints p1))]) (f := 31) (by simp [go_sem, Inst.a]) (hf2) ?_
      refine K_run hB 100 ?_
      simp [go_sem, ht, hf', fol, State.a, State.cs]
      refine K_call rfl rfl rfl (args := [x.a, .agg [.i t.spot, .i t.car, .i t.time, .i t.load, .i t.first, .u t.must, .u t.can, .u t.on, .i fr, .fsl []]]) (f := 18) (by simp [go_sem, Inst.a]) (by simp [go_sem, hB]) ((Pure.loose hof (by simp [bnd, bnd.bndL, Inst.a])).spec _ _) ?_
      refine K_run hB 100 ?_
      simp [go_sem, w1, hfin]
end Go.Proofs.Ytdfldfkgkooaeaa

/- The least cost of all ways, looked at alone. -/
set_option maxRecDepth 4000
namespace Go.Proofs.Ytdfldfkgkooaeaa
open Go Go.Proofs.Ytdfldfkgkooaeaa.R
def Inst.everyB (x : Inst) (s : State) : Int := if (x.endS s).2 = true then (x.endS s).1 else inf
def Inst.everyF (x : Inst) (f : State → Int) (s : State) : List Int → Int → Int
  | [], v => v
  | j :: l, v => x.everyF f s l (if f (x.move s j).1 < inf ∧ (x.move s j).2.1 + f (x.move s j).1 < v then (x.move s j).2.1 + f (x.move s j).1 else v)
def Inst.every (x : Inst) : Nat → State → Int
  | 0, s => x.everyB s
  | d + 1, s => x.everyF (x.every d) s (x.moves s) (x.everyB s)
theorem end_cost {x : Inst} {s : State} (h : (x.endS s).2 = true) : 0 ≤ (x.endS s).1 ∧ (x.endS s).1 ≤ 14143 := by
  obtain ⟨_, h | h⟩ := end_is h
  · rw [h.2.2]; omega
  · rw [h.2.2.2.2.2]; exact far_le _ _
theorem everyB_in (x : Inst) (s : State) : 0 ≤ x.everyB s ∧ x.everyB s ≤ inf := by
  have hinf : inf = 1152921504606846976 := rfl
  unfold Inst.everyB
  split
  · rename_i h
    have := end_cost h
    omega
  · omega
theorem everyF_in (x : Inst) {f : State → Int} (hf : ∀ t, 0 ≤ f t ∧ f t ≤ inf) (s : State) : ∀ (l : List Int) (v : Int), (∀ j ∈ l, (x.move s j).2.2 = true) → 0 ≤ v ∧ v ≤ inf → 0 ≤ x.everyF f s l v ∧ x.everyF f s l v ≤ inf
  | [], v, _, h => h
  | j :: l, v, hl, h => by
    rw [Inst.everyF]
    refine everyF_in x hf s l _ (fun i hi => hl i (List.mem_cons_of_mem _ hi)) ?_
    have h1 := move_cost (hl j List.mem_cons_self)
    have h2 := hf (x.move s j).1
    split <;> omega
theorem every_in (x : Inst) : ∀ (d : Nat) (s : State), 0 ≤ x.every d s ∧ x.every d s ≤ inf
  | 0, s => everyB_in x s
  | d + 1, s => everyF_in x (every_in x d) s _ _ (fun j hj => moves_mem hj) (everyB_in x s)
theorem low_everyB {x : Inst} {s : State} (hl : x.stops.length < 2 ^ 31) : lowP x.near s.can ≤ x.everyB s := by
  have hinf : inf = 1152921504606846976 := rfl
  unfold Inst.everyB
  split
  · rename_i h; exact low_end h
  · have h1 := lowP_in (near_le x) s.can
    have h2 := near_len x
    omega
theorem low_everyF {x : Inst} {f : State → Int} {s : State} (hs : s.seenAt) (hf : ∀ t, t.seenAt → lowP x.near t.can ≤ f t) : ∀ (l : List Int) (v : Int), (∀ j ∈ l, (x.move s j).2.2 = true) → lowP x.near s.can ≤ v → lowP x.near s.can ≤ x.everyF f s l v
  | [], v, _, h => h
  | j :: l, v, hl, h => by
    rw [Inst.everyF]
    refine low_everyF hs hf l _ (fun i hi => hl i (List.mem_cons_of_mem _ hi)) ?_
    have h1 := hl j List.mem_cons_self
    have h2 := low_step hs h1
    have h3 := hf _ (seen_step h1)
    split <;> omega
theorem low_every {x : Inst} (hl : x.stops.length < 2 ^ 31) : ∀ (d : Nat) (s : State), s.seenAt → lowP x.near s.can ≤ x.every d s
  | 0, s, _ => low_everyB hl
  | d + 1, s, hs => low_everyF hs (fun t ht => low_every hl d t ht) _ _ (fun j hj => moves_mem hj) (low_everyB hl)
theorem every_pure (x : Inst) (hl : x.stops.length < 2 ^ 31) : ∀ (d : Nat) (s : State), d < 2 ^ 62 → s.ok → Pure P 65 [x.a, s.a, .i d] (.i (x.every d s)) := by
  intro d
  induction d with
  | zero =>
    intro s _ ho
    have he := end_pure x s (by omega) ho
    show Pure P 65 [x.a, s.a, .i (0 : Nat)] (.i (x.everyB s))
    generalize hR : x.everyB s = R
    refine pure_of Try.func65 rfl rfl (by simp [Try.f65]) (by simp [bnd, bnd.bndL, Inst.a, State.a, State.cs]) (by simp [bnd, bnd.bndL]) fun B hB hnx => ?_
    simp only [Try.f65] at hB ⊢
    rw [Inst.everyB] at hR
    generalize x.endS s = E at *
    obtain ⟨c, is⟩ := E
    refine K_run hB 100 ?_
    simp [go_sem, Inst.a, State.a, State.cs]
    refine K_call rfl rfl rfl (args := [x.a, s.a]) (f := 24) (by simp [go_sem, Inst.a, State.a, State.cs]) (by simp [go_sem, hB]) ((he).spec _ _) ?_
    cases is with
    | false =>
      simp only [Bool.false_eq_true, if_false] at hR
      subst hR
      refine K_run hB 100 ?_
      simp [go_sem, inf]
    | true =>
      simp only [if_true] at hR
      subst hR
      refine K_run hB 100 ?_
      simp [go_sem]
  | succ d ih =>
    intro s hd ho
    have hinf : inf = 1152921504606846976 := rfl
    have he := end_pure x s (by omega) ho
    have hms := moves_pure x s (by omega) ho
    have hmv := fun j => move_pure x s j (by omega) ho
    have hmem : ∀ j ∈ x.moves s, (x.move s j).2.2 = true := fun j hj => moves_mem hj
    have hml := moves_len x s
    have hok := fun j => move_ok x j ho
    have hil : (ints (x.moves s)).length = (x.moves s).length := List.length_map _
    have hgt : ∀ (k : Nat) (h : k < (x.moves s).length), (ints (x.moves s))[k]'(by rw [hil]; exact h) = [.i ((x.moves s)[k])] := fun k h => ints_getS _ h
    have hb := everyB_in x s
    show Pure P 65 [x.a, s.a, .i (d + 1 : Nat)] (.i (x.everyF (x.every d) s (x.moves s) (x.everyB s)))
    generalize hR : x.everyF (x.every d) s (x.moves s) (x.everyB s) = R
    refine pure_of Try.func65 rfl rfl (by simp [Try.f65]) (by simp [bnd, bnd.bndL, Inst.a, State.a, State.cs]) (by simp [bnd, bnd.bndL]) fun B hB hnx => ?_
    simp only [Try.f65] at hB ⊢
    have hBe : (if (x.endS s).2 = true then (x.endS s).1 else inf) = x.everyB s := rfl
    generalize x.everyB s = v0 at *
    generalize x.endS s = E at *
    generalize hX : ints (x.moves s) = X at *
    generalize hL : x.moves s = L at *
    obtain ⟨c, is⟩ := E
    have hd1 : ¬ ((d : Int) + 1 ≤ 0) := by omega
    have w0 := w64 (d : Int) (by omega)
    have hd2 : (d : Int) + 1 - 1 = d := by omega
    refine K_run hB 100 ?_
    simp [go_sem, Inst.a, State.a, State.cs]
    refine K_call rfl rfl rfl (args := [x.a, s.a]) (f := 24) (by simp [go_sem, Inst.a, State.a, State.cs]) (by simp [go_sem, hB]) ((he).spec _ _) ?_
    cases is
    all_goals
      simp only [Bool.false_eq_true, if_false, if_true] at hBe
      refine K_run hB 100 ?_
      simp [go_sem, hd1]
      refine K_call rfl rfl rfl (args := [x.a, s.a]) (f := 27) (by simp [go_sem, Inst.a, State.a, State.cs]) (by simp [go_sem, hB]) ((hms).spec _ _) ?_
      refine K_run hB 100 ?_
      simp [go_sem]
      refine K_loopP (α := Nat × Int × (Nat → AObj) × Nat) (fun (k, v, σ, nx) => k ≤ L.length ∧ (0 ≤ v ∧ v ≤ inf) ∧ x.everyF (x.every d) s (L.drop k) v = R ∧ σ 0 = .box [.t (.i x.pairs), .t (.i x.cars), .t (.i x.room), .t (.sl (x.stops.map Stop.t))] ∧ σ 1 = .box s.cs ∧ 1 < nx)
        (fun (k, v, σ, nx) => ⟨sl [(2, .i ((d : Int) + 1)), (3, .ptr 0 0), (4, .ptr 1 0), (7, .i v), (10, .t (.sl X)), (11, .i k)], σ, nx⟩) (fun a => L.length - a.1) (0, v0, _, 2) ⟨Nat.zero_le _, hb, hR, by simp [oput], by simp [oput, State.cs], by omega⟩ (Imp.slots (by simp [go_sem, ← hBe, inf]) rfl rfl) ?_
      rintro ⟨k, v, σ, nx⟩ ⟨g1, g0, g5, g2, g3, g4⟩
      refine K_run hB 60 ?_
      simp [go_sem, hil]
      refine fork_dec (fun hk => ?_) (fun hk => ?_)
      · have hkk : IntKind.i64.wrap ((k : Int) + 1) = ((k + 1 : Nat) : Int) := by rw [w64 ((k : Int) + 1) (by omega)]; rfl
        have hget : ∀ h : k < X.length, X[k]'h = [.i L[k]] := fun h => hgt k hk
        rw [List.drop_eq_getElem_cons hk, Inst.everyF] at g5
        have hj := hmem L[k] (List.getElem_mem _)
        have h1 := move_cost hj
        have h2 := every_in x d (x.move s L[k]).1
        have h3 := ih (x.move s L[k]).1 (by omega) (hok _)
        have h4 := hmv L[k]
        generalize L[k] = j at *
        generalize x.move s j = V at *
        obtain ⟨t, c', is'⟩ := V
        simp only at h1 h2 h3 hj g5
        subst hj
        generalize x.every d t = m at *
        have w1 := w64 (c' + m) (by omega)
        simp [go_sem]
        refine K_drawnF [11, 12] [0, 1, 2, 3, 4, 5, 6, 7, 8, 9, 10] rfl (by rw [hB]; kernel_rfl) (by kernel_rfl) fun ht hf' => ?_
        refine K_run hB 100 ?_
        simp [go_sem, ht, hf', hil, hk, hget, g2, g3, State.cs]
        refine K_dCallP rfl rfl rfl (args := [x.a, s.a, .i j]) (f := 22) (by simp [go_sem, Inst.a, State.a, State.cs]) (h4) ?_
        refine K_run hB 100 ?_
        simp [go_sem, ht, hf', mv, State.a, State.cs, g2, g3, show ¬ 0 = nx by omega, show ¬ 1 = nx by omega, hd2, w0]
        refine K_call rfl rfl rfl (args := [x.a, t.a, .i d]) (f := 65) (by simp [go_sem, Inst.a, State.a, State.cs]) (by simp [go_sem, hB]) ((h3).spec _ _) ?_
        by_cases e1 : m < inf
        · by_cases e2 : c' + m < v
          · rw [if_pos ⟨e1, e2⟩] at g5
            rw [hinf] at e1
            refine K_run hB 100 ?_
            simp [go_sem, w1, e1, e2, hkk]
            refine Next.mk (k + 1, c' + m, _, nx + 1) ?_ (Imp.slots (by simp [go_sem]) rfl rfl) (by simp only; omega)
            refine ⟨by simp only; omega, by simp only; omega, g5, ?_, ?_, by simp only; omega⟩
            · simp [oput, show ¬ 0 = nx by omega, g2]
            · simp [oput, show ¬ 1 = nx by omega, g3, State.cs]
          · rw [if_neg (fun h => e2 h.2)] at g5
            rw [hinf] at e1
            refine K_run hB 100 ?_
            simp [go_sem, w1, e1, e2, hkk]
            refine Next.mk (k + 1, v, _, nx + 1) ?_ (Imp.slots (by simp [go_sem]) rfl rfl) (by simp only; omega)
            refine ⟨by simp only; omega, g0, g5, ?_, ?_, by simp only; omega⟩
            · simp [oput, show ¬ 0 = nx by omega, g2]
            · simp [oput, show ¬ 1 = nx by omega, g3, State.cs]
        · rw [if_neg (fun h => e1 h.1)] at g5
          rw [hinf] at e1
          refine K_run hB 100 ?_
          simp [go_sem, w1, e1, hkk]
          refine Next.mk (k + 1, v, _, nx + 1) ?_ (Imp.slots (by simp [go_sem]) rfl rfl) (by simp only; omega)
          refine ⟨by simp only; omega, g0, g5, ?_, ?_, by simp only; omega⟩
          · simp [oput, show ¬ 0 = nx by omega, g2]
          · simp [oput, show ¬ 1 = nx by omega, g3, State.cs]
      · have : k = L.length := by omega
        subst this
        rw [List.drop_length, Inst.everyF] at g5
        simp [go_sem, g5]
/-- How many moves a plan may have. -/
def Inst.deepN (x : Inst) : Nat := (2 * x.pairs + x.cars - 1).toNat
def Inst.everyAll (x : Inst) : Int := x.every x.deepN x.rootS
theorem everyAll_pure (x : Inst) (hm : x.may = true) : Pure P 37 [x.a] (.i x.everyAll) := by
  obtain ⟨p, hx⟩ := x.fit hm
  have hlen := hx.len
  have hfew := hx.few
  have hp := hx.pairs
  have hcar := hx.cars
  have hev := every_pure x (by omega) x.deepN x.rootS (by unfold Inst.deepN; omega) (rootS_ok x)
  have hr := root_pureS x (by omega)
  have hde : (x.deepN : Int) = 2 * x.pairs + x.cars - 1 := by unfold Inst.deepN; omega
  rw [hde] at hev
  have w1 := w64 (2 * x.pairs) (by omega)
  have w2 := w64 (2 * x.pairs + x.cars) (by omega)
  have w3 := w64 (2 * x.pairs + x.cars - 1) (by omega)
  unfold Inst.everyAll
  generalize x.every x.deepN x.rootS = R at *
  generalize x.rootS = r at *
  refine pure_of Try.func37 rfl rfl (by simp [Try.f37]) (by simp [bnd, bnd.bndL, Inst.a]) (by simp [bnd, bnd.bndL]) fun B hB hnx => ?_
  simp only [Try.f37] at hB ⊢
  refine K_run hB 100 ?_
  simp [go_sem, Inst.a]
  refine K_drawn [] rfl (by rw [hB]; kernel_rfl) ?_
  refine K_run hB 100 ?_
  simp [go_sem]
  refine K_dCallP rfl rfl rfl (args := [x.a]) (f := 29) (by simp [go_sem, Inst.a]) (hr) ?_
  refine K_run hB 100 ?_
  simp [go_sem, w1, w2, w3]
  refine K_dCallP rfl rfl rfl (args := [x.a, r.a, .i (2 * x.pairs + x.cars - 1)]) (f := 65) (by simp [go_sem, Inst.a, State.a, State.cs]) (hev) ?_
  refine K_run hB 100 ?_
  simp [go_sem]
theorem lless_pure (x : Inst) (s : State) (more : Nat) (hl : x.stops.length < 2 ^ 63) (ho : s.ok) (hmo : more < 2 ^ 64) : Pure P 12 [x.a, s.a, .u more] (.b true) := by
  refine pure_of Try.func12 rfl rfl (by simp [Try.f12]) (by simp [bnd, bnd.bndL, Inst.a, State.a, State.cs]) (by simp [bnd, bnd.bndL]) fun B hB hnx => ?_
  simp only [Try.f12] at hB ⊢
  refine K_run hB 100 ?_
  simp [go_sem, Inst.a, State.a, State.cs]
  refine K_call rfl rfl rfl (args := []) (f := 15) (by simp [go_sem]) (by simp [go_sem, hB]) ((awake12_pure).spec _ _) ?_
  by_cases c1 : 5 < (x.stops.length : Int)
  · refine K_run hB 100 ?_
    simp [go_sem, c1]
  refine K_run hB 100 ?_
  simp [go_sem, c1]
  refine K_call rfl rfl rfl (args := [x.a]) (f := 36) (by simp [go_sem, Inst.a]) (by simp [go_sem, hB]) ((may_pure x hl).spec _ _) ?_
  cases hm : x.may with
  | false =>
    refine K_run hB 100 ?_
    simp [go_sem]
  | true =>
    have hot : ({ s with can := s.can ||| more } : State).ok := ⟨ho.must, Nat.or_lt_two_pow ho.can hmo, ho.on⟩
    have h1 := at_pure x s (by omega) ho
    have h2 := at_pure x { s with can := s.can ||| more } (by omega) hot
    have h3 := at_pure x x.rootS (by omega) (rootS_ok x)
    have h4 := everyAll_pure x hm
    have hr := root_pureS x hl
    have e1 : x.low x.rootS ≤ x.everyAll := by
      rw [low_eq x _ (by omega)]
      exact low_every (by omega) _ _ (seen_root x)
    have e2 : x.low { s with can := s.can ||| more } ≤ x.low s := by
      rw [low_eq x _ (by omega), low_eq x _ (by omega)]
      refine lowP_mono (near_le x) fun j hj => ?_
      simp only [hasB, Bool.and_eq_true, decide_eq_true_eq, Nat.testBit_or, Bool.or_eq_true] at hj ⊢
      exact ⟨hj.1, .inl hj.2⟩
    have hbor := borN ho.can hmo
    generalize x.low { s with can := s.can ||| more } = q2 at *
    generalize x.low s = q1 at *
    generalize x.low x.rootS = q0 at *
    generalize x.everyAll = q3 at *
    generalize x.rootS = r at *
    refine K_run hB 100 ?_
    simp [go_sem, hbor]
    refine K_drawn [] rfl (by rw [hB]; kernel_rfl) ?_
    refine K_run hB 100 ?_
    simp [go_sem]
    refine K_dCallP rfl rfl rfl (args := [x.a]) (f := 29) (by simp [go_sem, Inst.a]) (hr) ?_
    refine K_run hB 100 ?_
    simp [go_sem]
    refine K_dCallP rfl rfl rfl (args := [x.a, r.a]) (f := 16) (by simp [go_sem, Inst.a, State.a, State.cs]) (h3) ?_
    refine K_run hB 100 ?_
    simp [go_sem]
    refine K_dCallP rfl rfl rfl (args := [x.a]) (f := 37) (by simp [go_sem, Inst.a]) (h4) ?_
    refine K_run hB 100 ?_
    simp [go_sem, e1]
    refine K_dCallP rfl rfl rfl (args := [x.a, .agg [.i s.spot, .i s.car, .i s.time, .i s.load, .i s.first, .u s.must, .u (s.can ||| more : Nat), .u s.on]]) (f := 16) (by simp [go_sem, Inst.a, State.a, State.cs]) (h2) ?_
    refine K_run hB 100 ?_
    simp [go_sem, e1]
    refine K_dCallP rfl rfl rfl (args := [x.a, s.a]) (f := 16) (by simp [go_sem, Inst.a, State.a, State.cs]) (h1) ?_
    refine K_run hB 100 ?_
    simp [go_sem, e1, e2]
end Go.Proofs.Ytdfldfkgkooaeaa
