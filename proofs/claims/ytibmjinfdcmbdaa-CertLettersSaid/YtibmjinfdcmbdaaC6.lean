/- A part of the proof: C6. -/
import Derived.Test.YtibmjinfdcmbdaaC5
set_option maxRecDepth 4000
namespace Go.Proofs.Ytibmjinfdcmbdaa
open Go Go.Proofs.Ytibmjinfdcmbdaa.R

/-- No count is too great. -/
theorem great_pure (p : Prf) (hp : p.ok) : Pure P 23 [p.a] (.b false) := by
  refine pure_of Try.func23 rfl rfl (by simp [Try.f23]) (by simp [bnd, bnd.bndL, Prf.a]) (by simp [bnd]) fun B hB hnx => ?_
  simp only [Try.f23] at hB ⊢
  have hparts := hp.parts
  have h0 : ¬ (1048576 : Int) < p.parts.length := by omega
  refine K_run hB 60 ?_
  simp [go_sem, Prf.a, h0]
  refine K_loopP (α := Nat) (fun k => k ≤ p.parts.length) (fun k => ⟨sl [(1, .ptr 0 0), (3, .i k)], ob [(0, .box [.t (.i p.least), .t (.sl (p.parts.map partT))])], 1⟩) (fun k => p.parts.length - k) 0 (Nat.zero_le _)
    (Sub.of (by omega) (by simp) (by simp [go_sem]) (by simp [go_sem])) ?_
  intro k h1
  refine K_run hB 60 ?_
  simp [go_sem]
  refine fork_dec (fun hk => ?_) (fun hk => ?_)
  · have hq := hp.layers _ (List.getElem_mem hk)
    have hqs := hp.spots _ (List.getElem_mem hk)
    simp [go_sem, hk, partT]
    generalize hq' : p.parts[k] = q at *
    have h0 : ¬ (1048576 : Int) < List.length q := by omega
    simp [go_sem, h0]
    refine K_loopP (α := Nat) (fun i => i ≤ q.length) (fun i => ⟨sl [(1, .ptr 0 0), (3, .i k), (4, .i i)], ob [(0, .box [.t (.i p.least), .t (.sl (p.parts.map partT))])], 1⟩) (fun i => q.length - i) 0 (Nat.zero_le _)
      (Sub.of (by omega) (by simp) (by simp [go_sem]) (by simp [go_sem])) ?_
    intro i h2
    refine K_run hB 60 ?_
    simp [go_sem, hk, partT, hq']
    refine fork_dec (fun hi => ?_) (fun hi => ?_)
    · have hl := hqs _ (List.getElem_mem hi)
      have h0 : ¬ (1048576 : Int) < List.length q[i] := by omega
      simp [go_sem, hk, partT, hq', hi, layT, h0]
      refine Next.mk (i + 1) (by omega) (Sub.of (by omega) (by simp) ?_ (by simp [go_sem])) (by omega)
      simp [go_sem]
      rw [w64 _ (by omega)]
    · simp [go_sem]
      refine Next.mk (k + 1) (by omega) (Sub.of (by omega) (by simp) ?_ (by simp [go_sem])) (by omega)
      simp [go_sem]
      rw [w64 _ (by omega)]
  · simp [go_sem]

def Prf.few (p : Prf) : Bool := decide (p.parts.length ≤ 60) && p.parts.all fun q => decide (q.length ≤ 12) && q.all fun l => decide (l.length ≤ 60)

theorem fields_pure (s : Spot) : Pure P 25 [.agg (s.t.map .t)] (.tup (if [s.at_, s.car, s.time, s.load, s.first, s.cost, s.part].all (0 ≤ ·) then
    [.t (.sl [[.v (.int .u64 (un s.at_))], [.v (.int .u64 (un s.car))], [.v (.int .u64 (un s.time))], [.v (.int .u64 (un s.load))], [.v (.int .u64 (un s.first))], [.v (.int .u64 s.must)], [.v (.int .u64 s.may)], [.v (.int .u64 s.on)], [.v (.int .u64 (un s.cost))], [.v (.int .u64 (un s.part))]]), .b true]
    else [.t (.sl []), .b false])) := by
  refine pure_of Try.func25 rfl rfl (by simp [Try.f25]) (by simp [bnd, bnd.bndL, Spot.t]) (by split <;> simp [bnd, bnd.bndL]) fun B hB hnx => ?_
  simp only [Try.f25] at hB ⊢
  by_cases a1 : s.at_ < 0
  · have b : ¬ 0 ≤ s.at_ := by omega
    refine K_run hB 120 ?_
    simp [go_sem, Spot.t, a1, b]
  by_cases a2 : s.car < 0
  · have b : ¬ 0 ≤ s.car := by omega
    refine K_run hB 120 ?_
    simp [go_sem, Spot.t, a1, a2, b]
  by_cases a3 : s.time < 0
  · have b : ¬ 0 ≤ s.time := by omega
    refine K_run hB 120 ?_
    simp [go_sem, Spot.t, a1, a2, a3, b]
  by_cases a4 : s.load < 0
  · have b : ¬ 0 ≤ s.load := by omega
    refine K_run hB 120 ?_
    simp [go_sem, Spot.t, a1, a2, a3, a4, b]
  by_cases a5 : s.first < 0
  · have b : ¬ 0 ≤ s.first := by omega
    refine K_run hB 120 ?_
    simp [go_sem, Spot.t, a1, a2, a3, a4, a5, b]
  by_cases a6 : s.cost < 0
  · have b : ¬ 0 ≤ s.cost := by omega
    refine K_run hB 120 ?_
    simp [go_sem, Spot.t, a1, a2, a3, a4, a5, a6, b]
  by_cases a7 : s.part < 0
  · have b : ¬ 0 ≤ s.part := by omega
    refine K_run hB 120 ?_
    simp [go_sem, Spot.t, a1, a2, a3, a4, a5, a6, a7, b]
  have b : 0 ≤ s.at_ ∧ 0 ≤ s.car ∧ 0 ≤ s.time ∧ 0 ≤ s.load ∧ 0 ≤ s.first ∧ 0 ≤ s.cost ∧ 0 ≤ s.part := by omega
  obtain ⟨b1, b2, b3, b4, b5, b6, b7⟩ := b
  refine K_run hB 120 ?_
  simp [go_sem, Spot.t, a1, a2, a3, a4, a5, a6, a7, b1, b2, b3, b4, b5, b6, b7, un_wrap]

theorem few_pure (p : Prf) (hlen : p.parts.length < 2 ^ 63 ∧ ∀ q ∈ p.parts, q.length < 2 ^ 63 ∧ ∀ l ∈ q, l.length < 2 ^ 63) : Pure P 10 [p.a] (.b p.few) := by
  refine pure_of Try.func10 rfl rfl (by simp [Try.f10]) (by simp [bnd, bnd.bndL, Prf.a]) (by simp [bnd]) fun B hB hnx => ?_
  simp only [Try.f10] at hB ⊢
  by_cases h0 : (60 : Int) < p.parts.length
  · refine K_run hB 60 ?_
    have : ¬ p.parts.length ≤ 60 := by omega
    simp [go_sem, Prf.a, h0, Prf.few, this]
  have hp60 : p.parts.length ≤ 60 := by omega
  refine K_run hB 60 ?_
  simp [go_sem, Prf.a, h0]
  refine K_loopP (α := Nat) (fun k => k ≤ p.parts.length ∧ ((p.parts.drop k).all fun q => decide (q.length ≤ 12) && q.all fun l => decide (l.length ≤ 60)) = p.few) (fun k => ⟨sl [(1, .ptr 0 0), (3, .i k)], ob [(0, .box [.t (.i p.least), .t (.sl (p.parts.map partT))])], 1⟩) (fun k => p.parts.length - k) 0 ⟨Nat.zero_le _, by simp [Prf.few, hp60]⟩
    (Sub.of (by omega) (by simp) (by simp [go_sem]) (by simp [go_sem])) ?_
  rintro k ⟨h1, h3⟩
  refine K_run hB 60 ?_
  simp [go_sem]
  refine fork_dec (fun hk => ?_) (fun hk => ?_)
  · have hd : p.parts.drop k = p.parts[k] :: p.parts.drop (k + 1) := by rw [List.drop_eq_getElem_cons hk]
    have hqs := hlen.2 _ (List.getElem_mem hk)
    generalize hq' : p.parts[k] = q at *
    rw [hd] at h3
    simp only [List.all_cons] at h3
    by_cases h0 : (12 : Int) < List.length q
    · have hf : decide (List.length q ≤ 12) = false := by simp; omega
      rw [hf] at h3
      simp [go_sem, hk, partT, hq', h0, ← h3]
    have hf : decide (List.length q ≤ 12) = true := by simp; omega
    rw [hf] at h3
    simp only [Bool.true_and] at h3
    simp [go_sem, hk, partT, hq', h0]
    refine K_loopP (α := Nat) (fun i => i ≤ q.length ∧ (((q.drop i).all fun l => decide (l.length ≤ 60)) && ((p.parts.drop (k + 1)).all fun q => decide (q.length ≤ 12) && q.all fun l => decide (l.length ≤ 60))) = p.few) (fun i => ⟨sl [(1, .ptr 0 0), (3, .i k), (4, .i i)], ob [(0, .box [.t (.i p.least), .t (.sl (p.parts.map partT))])], 1⟩) (fun i => q.length - i) 0 ⟨Nat.zero_le _, h3⟩
      (Sub.of (by omega) (by simp) (by simp [go_sem]) (by simp [go_sem])) ?_
    rintro i ⟨h2, h4⟩
    refine K_run hB 60 ?_
    simp [go_sem, hk, partT, hq']
    refine fork_dec (fun hi => ?_) (fun hi => ?_)
    · have hdi : q.drop i = q[i] :: q.drop (i + 1) := by rw [List.drop_eq_getElem_cons hi]
      rw [hdi] at h4
      simp only [List.all_cons] at h4
      have hl := hqs.2 _ (List.getElem_mem hi)
      by_cases h0 : (60 : Int) < List.length q[i]
      · have hf : decide (List.length q[i] ≤ 60) = false := by simp; omega
        rw [hf] at h4
        simp [go_sem, hk, partT, hq', hi, layT, h0, ← h4]
      have hf : decide (List.length q[i] ≤ 60) = true := by simp; omega
      rw [hf, Bool.true_and] at h4
      simp [go_sem, hk, partT, hq', hi, layT, h0]
      refine Next.mk (i + 1) ⟨by omega, h4⟩ (Sub.of (by omega) (by simp) ?_ (by simp [go_sem])) (by omega)
      simp [go_sem]
      rw [w64 _ (by omega)]
    · have : i = q.length := by omega
      subst this
      simp at h4
      simp [go_sem]
      refine Next.mk (k + 1) ⟨by omega, by simpa using h4⟩ (Sub.of (by omega) (by simp) ?_ (by simp [go_sem])) (by omega)
      simp [go_sem]
      rw [w64 _ (by omega)]
  · have : k = p.parts.length := by omega
    subst this
    simp at h3
    simp [go_sem, ← h3]
end Go.Proofs.Ytibmjinfdcmbdaa
