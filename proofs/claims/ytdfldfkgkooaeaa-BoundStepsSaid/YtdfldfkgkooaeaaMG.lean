/- Parts of the proof: Law12. -/
import Derived.Test.YtdfldfkgkooaeaaMF
set_option linter.unusedVariables false
/- BoundSteps, BoundWays: what the laws give. -/
set_option maxRecDepth 4000
namespace Go.Proofs.Ytdfldfkgkooaeaa
open Go Go.Proofs.Ytdfldfkgkooaeaa.R
theorem canB_mem {f : Nat → Bool} : ∀ {n : Nat} {j : Int}, j ∈ canB f n → ∃ k : Nat, j = k ∧ k < n ∧ f k = true
  | 0, j, h => by cases h
  | n + 1, j, h => by
    rw [canB, List.mem_append] at h
    rcases h with h | h
    · obtain ⟨k, h1, h2, h3⟩ := canB_mem h
      exact ⟨k, h1, by omega, h3⟩
    · split at h
      · rename_i hf
        rw [List.mem_singleton] at h
        exact ⟨n, h, by omega, hf⟩
      · cases h
theorem moves_mem {x : Inst} {s : State} {j : Int} (h : j ∈ x.moves s) : (x.move s j).2.2 = true := by
  rw [moves_can] at h
  obtain ⟨k, rfl, _, h3⟩ := canB_mem h
  exact h3
theorem moves_len (x : Inst) (s : State) : (x.moves s).length ≤ x.stops.length := by
  rw [moves_can]
  exact canB_len _ _
theorem move_cost {x : Inst} {s : State} {j : Int} (h : (x.move s j).2.2 = true) : 0 ≤ (x.move s j).2.1 ∧ (x.move s j).2.1 ≤ 14143 := by
  obtain ⟨_, _, _, _, e⟩ := move_is h
  rw [e]
  exact far_le _ _
theorem lbsteps_pure (x : Inst) (s : State) (hl : x.stops.length < 2 ^ 63) (ho : s.ok) : Pure P 11 [x.a, s.a] (.b true) := by
  refine pure_of Try.func11 rfl rfl (by simp [Try.f11]) (by simp [bnd, bnd.bndL, Inst.a, State.a, State.cs]) (by simp [bnd, bnd.bndL]) fun B hB hnx => ?_
  simp only [Try.f11] at hB ⊢
  refine K_run hB 100 ?_
  simp [go_sem, Inst.a, State.a, State.cs]
  refine K_call rfl rfl rfl (args := []) (f := 15) (by simp [go_sem]) (by simp [go_sem, hB]) ((awake12_pure).spec _ _) ?_
  by_cases c1 : 100 < (x.stops.length : Int)
  · refine K_run hB 100 ?_
    simp [go_sem, c1]
  have hpure := has_pure s.must s.spot ho.must
  have hat := at_pure x s (by omega) ho
  have hms := moves_pure x s hl ho
  have hmv := fun j => move_pure x s j hl ho
  have hmem : ∀ j ∈ x.moves s, (x.move s j).2.2 = true := fun j hj => moves_mem hj
  have hml := moves_len x s
  have hen := end_pure x s hl ho
  have hle := low_end (x := x) (s := s)
  have hcs := fun j (h : (x.move s j).2.2 = true) => move_cost h
  have hlow := low_eq x s (by omega)
  have hin := lowP_in (near_le x) s.can
  have hnl := near_len x
  have hil : (ints (x.moves s)).length = (x.moves s).length := List.length_map _
  have hgt : ∀ (k : Nat) (h : k < (x.moves s).length), (ints (x.moves s))[k]'(by rw [hil]; exact h) = [.i ((x.moves s)[k])] := fun k h => ints_getS _ h
  by_cases c2 : s.spot = 0
  all_goals
    first
    | have hsn : s.seenAt := .inl c2
      refine K_run hB 100 ?_
      simp [go_sem, c1, c2]
    | refine K_run hB 100 ?_
      simp [go_sem, c1, c2]
      refine K_call rfl rfl rfl (args := [.u s.must, .i s.spot]) (f := 35) (by simp [go_sem]) (by simp [go_sem, hB]) ((hpure).spec _ _) ?_
      by_cases c3 : hasB s.must s.spot = true
      rotate_left
      · have c4 : hasB s.must s.spot = false := by simpa using c3
        rw [c4]
        refine K_run hB 100 ?_
        simp [go_sem]
      have hsn : s.seenAt := .inr c3
      rw [c3]
      refine K_run hB 100 ?_
      simp [go_sem]
  all_goals
    have hst := fun j (h : (x.move s j).2.2 = true) => low_step hsn h
    have hok := fun j => move_ok x j ho
    refine K_call rfl rfl rfl (args := [x.a, s.a]) (f := 16) (by simp [go_sem, Inst.a, State.a, State.cs, c2]) (by simp [go_sem, hB]) ((hat).spec _ _) ?_
    rw [hlow]
    generalize lowP x.near s.can = n at *
    refine K_run hB 100 ?_
    simp [go_sem]
    refine K_call rfl rfl rfl (args := [x.a, s.a]) (f := 27) (by simp [go_sem, Inst.a, State.a, State.cs, c2]) (by simp [go_sem, hB]) ((hms).spec _ _) ?_
    generalize hX : ints (x.moves s) = X at *
    generalize hL : x.moves s = L at *
    refine K_run hB 100 ?_
    simp [go_sem]
    refine K_loopP (α := Nat × (Nat → AObj) × Nat) (fun (k, σ, nx) => k ≤ L.length ∧ σ 0 = .box [.t (.i x.pairs), .t (.i x.cars), .t (.i x.room), .t (.sl (x.stops.map Stop.t))] ∧ σ 1 = .box s.cs ∧ 1 < nx)
      (fun (k, σ, nx) => ⟨sl [(2, .ptr 0 0), (3, .ptr 1 0), (6, .i n), (7, .t (.sl X)), (8, .i k)], σ, nx⟩) (fun a => L.length - a.1) (0, _, 2) ⟨Nat.zero_le _, by simp [oput], by simp [oput, State.cs, c2], by omega⟩ (Imp.slots (by simp [go_sem]) rfl rfl) ?_
    rintro ⟨k, σ, nx⟩ ⟨g1, g2, g3, g4⟩
    refine K_run hB 60 ?_
    simp [go_sem, hil]
    refine fork_dec (fun hk => ?_) (fun hk => ?_)
    · have hkk : IntKind.i64.wrap ((k : Int) + 1) = ((k + 1 : Nat) : Int) := by rw [w64 ((k : Int) + 1) (by omega)]; rfl
      have hget : ∀ h : k < X.length, X[k]'h = [.i L[k]] := fun h => hgt k hk
      have hj := hmem L[k] (List.getElem_mem _)
      generalize L[k] = j at *
      have h1 := hst j hj
      have h2 := hcs j hj
      have h3 := hmv j
      have h4 := at_pure x (x.move s j).1 (by omega) (hok j)
      have h5 := low_eq x (x.move s j).1 (by omega)
      have h6 := lowP_in (near_le x) (x.move s j).1.can
      rw [h5] at h4
      generalize x.move s j = V at *
      obtain ⟨t, c, is⟩ := V
      simp only at h1 h2 h4 h6 hj
      subst hj
      generalize lowP x.near t.can = m at *
      have w1 := w64 (c + m) (by omega)
      have hno : ¬ c + m < n := by omega
      simp [go_sem]
      refine K_drawnF [11, 12] [0, 1, 2, 3, 4, 5, 6, 7, 8, 9, 10] rfl (by rw [hB]; kernel_rfl) (by kernel_rfl) fun ht hf' => ?_
      refine K_run hB 100 ?_
      simp [go_sem, ht, hf', hil, hk, hget, g2, g3, State.cs]
      refine K_dCallP rfl rfl rfl (args := [x.a, s.a, .i j]) (f := 22) (by simp [go_sem, Inst.a, State.a, State.cs, c2]) (h3) ?_
      refine K_run hB 100 ?_
      simp [go_sem, ht, hf', mv, State.a, State.cs, g2, g3, show ¬ 0 = nx by omega, show ¬ 1 = nx by omega]
      refine K_call rfl rfl rfl (args := [x.a, t.a]) (f := 16) (by simp [go_sem, Inst.a, State.a, State.cs]) (by simp [go_sem, hB]) ((h4).spec _ _) ?_
      refine K_run hB 100 ?_
      simp [go_sem, w1, hno, hkk]
      refine Next.mk (k + 1, _, nx + 1) ?_ (Imp.slots (by simp [go_sem]) rfl rfl) (by simp only; omega)
      refine ⟨by simp only; omega, ?_, ?_, by simp only; omega⟩
      · simp [oput, show ¬ 0 = nx by omega, g2]
      · simp [oput, show ¬ 1 = nx by omega, g3, State.cs]
    · simp [go_sem, g2, g3, State.cs]
      refine K_call rfl rfl rfl (args := [x.a, s.a]) (f := 24) (by simp [go_sem, Inst.a, State.a, State.cs, c2]) (by simp [go_sem, hB]) ((hen).spec _ _) ?_
      generalize x.endS s = E at *
      obtain ⟨c, is⟩ := E
      cases is with
      | false =>
        refine K_run hB 100 ?_
        simp [go_sem, hin]
      | true =>
        have := hle rfl
        refine K_run hB 100 ?_
        simp [go_sem, hin, this]
end Go.Proofs.Ytdfldfkgkooaeaa
