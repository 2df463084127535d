/- A part of the proof: C4. -/
import Derived.Test.YtibmjinfdcmbdaaC3
set_option maxRecDepth 4000
namespace Go.Proofs.Ytibmjinfdcmbdaa
open Go Go.Proofs.Ytibmjinfdcmbdaa.R
theorem Wr.pre {σ σ1 : Nat → AObj} {nx nx1 q j : Nat} {e : Int} {l : List Nat} (h : Wr σ nx q j e l) (hle : nx ≤ nx1) (hf : ∀ i, i < nx → σ1 i = σ i) : Wr σ1 nx1 q j e l := by
  obtain ⟨b1, b2, b3, b4, b5⟩ := h
  exact ⟨by rw [hf _ b4]; exact b1, by rw [hf _ b5]; exact b2, b3, by omega, by omega⟩
theorem Wrote.pre {σ σ1 σ2 : Nat → AObj} {nx nx1 nx2 q j : Nat} {e : Int} {l : List Nat} (h : Wrote σ1 nx1 q j σ2 nx2 e l) (hle : nx ≤ nx1) (hf : ∀ i, i < nx → σ1 i = σ i) : Wrote σ nx q j σ2 nx2 e l := by
  obtain ⟨h1, ⟨j', h2, h3⟩, h4⟩ := h
  exact ⟨by omega, ⟨j', h2, h3.imp id fun h => by omega⟩, fun i a b c => by rw [h4 i (by omega) b c, hf i a]⟩

theorem count_spec {σ : Nat → AObj} {nx q j : Nat} {e : Int} {l : List Nat} (h : Wr σ nx q j e l) (n : Nat) (hn : n ≤ 1048576) (hl : l.length + 20 ≤ mostLen) :
    CallQ P 21 [.ptr q 0, .i n] σ nx fun r σ' nx' => Wrote σ nx q j σ' nx' e (l ++ encI [(n : Int)]) := by
  refine spec_of Try.func21 rfl rfl (by simp [Try.f21]) fun B hB hnx hσ => ?_
  simp only [Try.f21] at hB ⊢
  have h0 : ¬ (1048576 : Int) < n := by omega
  refine K_run hB 60 ?_
  simp [go_sem, h0]
  refine K_callQ rfl rfl rfl (args := [.ptr q 0, .fsl (ints [(n : Int)])]) (f := 20) (by simp [go_sem, ints]) (by simp [go_sem, hB]) (plain_spec h [(n : Int)] (by simp; omega)) ?_
  intro r σ2 nx2 g
  refine K_run hB 20 ?_
  simp [go_sem]
  have e1 : [(n : Int)].foldl err1 e = e := by simp [err1]; omega
  rw [e1] at g
  exact ⟨g.le, g⟩

structure Spot where
  at_ : Int
  car : Int
  time : Int
  load : Int
  first : Int
  must : Nat
  may : Nat
  on : Nat
  cost : Int
  part : Int
def Spot.t (s : Spot) : List T := [.i s.at_, .i s.car, .i s.time, .i s.load, .i s.first, .v (.int .u64 s.must), .v (.int .u64 s.may), .v (.int .u64 s.on), .i s.cost, .i s.part]
def Spot.ok (s : Spot) : Prop := s.must < 2 ^ 64 ∧ s.may < 2 ^ 64 ∧ s.on < 2 ^ 64
def Spot.enc (s : Spot) : List Nat := encI [s.at_, s.car, s.time, s.load, s.first] ++ Ytibmjinfdcmbdaa.enc s.must ++ Ytibmjinfdcmbdaa.enc s.may ++ Ytibmjinfdcmbdaa.enc s.on ++ encI [s.cost, s.part]
def Spot.err (e : Int) (s : Spot) : Int := [s.at_, s.car, s.time, s.load, s.first, s.cost, s.part].foldl err1 e

theorem oput_ne {σ : Nat → AObj} {i j : Nat} {o : AObj} (h : i ≠ j) : oput σ j o i = σ i := by simp [oput, h]
theorem oput_eq {σ : Nat → AObj} {j : Nat} {o : AObj} : oput σ j o j = o := by simp [oput]
theorem Wr.not {σ : Nat → AObj} {nx q j k : Nat} {e : Int} {l : List Nat} {cs : List AV} (h : Wr σ nx q j e l) (hk : σ k = .box cs) : k ≠ j := by
  rintro rfl
  rw [h.arr] at hk
  cases hk

theorem spot_spec {σ : Nat → AObj} {nx q j : Nat} {e : Int} {l : List Nat} (h : Wr σ nx q j e l) (s : Spot) (hs : s.ok) (hl : l.length + 200 ≤ mostLen) :
    CallQ P 22 [.ptr q 0, .agg (s.t.map .t)] σ nx fun r σ' nx' => Wrote σ nx q j σ' nx' (s.err e) (l ++ s.enc) := by
  have hql := h.ql
  have hjl := h.jl
  refine spec_of Try.func22 rfl rfl (by simp [Try.f22]) fun B hB hnx hσ => ?_
  simp only [Try.f22] at hB ⊢
  refine K_run hB 60 ?_
  simp [go_sem, Spot.t]
  refine K_callQ rfl rfl rfl (args := [.ptr q 0, .fsl (ints [s.at_, s.car, s.time, s.load, s.first])]) (f := 20) (by simp [go_sem, ints]) (by simp [go_sem, hB]) (plain_spec (h.pre (by simp only; omega) (fun i hi => by
    dsimp only
    rw [oput_ne (by omega), oput_ne (by omega), oput_ne (by omega)])) [s.at_, s.car, s.time, s.load, s.first] (by simp; omega)) ?_
  intro r σ2 nx2 g
  dsimp only at g
  have hnx2 := g.le
  have c1 := g.old nx (by omega) (by omega) (by omega)
  have c2 := g.old (nx + 1) (by omega) (by omega) (by omega)
  rw [oput_ne (by omega), oput_ne (by omega), oput_eq] at c1
  rw [oput_eq] at c2
  have g0 := g.pre (σ := σ) (nx := nx) (by omega) (fun i hi => by rw [oput_ne (by omega), oput_ne (by omega), oput_ne (by omega)])
  have hl1 := encI_len [s.at_, s.car, s.time, s.load, s.first]
  simp only [List.length_cons, List.length_nil] at hl1
  generalize hl' : l ++ encI [s.at_, s.car, s.time, s.load, s.first] = l1 at g g0
  have hl1' : l1.length ≤ l.length + 50 := by rw [← hl', List.length_append]; omega
  generalize he' : [s.at_, s.car, s.time, s.load, s.first].foldl err1 e = e1 at g g0
  obtain ⟨j2, w2, hj2⟩ := g0.wr
  clear g
  refine K_run hB 60 ?_
  simp [go_sem, c2]
  refine K_loopP (α := Nat × Nat × (Nat → AObj) × Nat × List Nat) (fun x => x.1 ≤ 3 ∧ x.2.2.2.2 = l1 ++ ([s.must, s.may, s.on].take x.1).flatMap enc ∧ (x.2.1 = j ∨ nx ≤ x.2.1) ∧ Wrote σ nx q j x.2.2.1 x.2.2.2.1 e1 x.2.2.2.2 ∧ Wr x.2.2.1 x.2.2.2.1 q x.2.1 e1 x.2.2.2.2 ∧ x.2.2.1 nx = .box (s.t.map .t) ∧ nx < x.2.2.2.1 ∧ x.2.2.2.2.length ≤ l1.length + 10 * x.1)
    (fun x => ⟨sl [(0, .ptr q 0), (3, .ptr nx 0), (28, .agg [.t (.v (.int .u64 s.must)), .t (.v (.int .u64 s.may)), .t (.v (.int .u64 s.on))]), (29, .i x.1)], x.2.2.1, x.2.2.2.1⟩) (fun x => 3 - x.1) (0, j2, σ2, nx2, l1) ⟨Nat.zero_le _, by simp, hj2, g0, w2, by show σ2 nx = _; rw [c1]; rfl, by show nx < nx2; omega, by simp⟩ (Imp.slots (by simp [go_sem]) rfl rfl) ?_
  rintro ⟨k, j', σ', nx', l'⟩ ⟨h1, h2, h0, h3, h4, h5, h6, h7⟩
  simp only at h1 h2 h3 h4 h0 h5 h6 h7
  refine K_run hB 60 ?_
  simp [go_sem]
  refine fork_dec (fun hk => ?_) (fun hk => ?_)
  · obtain ⟨u, hu, hu1, hu2⟩ : ∃ u : Nat, ([AV.t (T.v (Value.int .u64 s.must)), AV.t (.v (.int .u64 s.may)), AV.t (.v (.int .u64 s.on))] : List AV)[k]? = some (.u u) ∧ [s.must, s.may, s.on].take (k + 1) = [s.must, s.may, s.on].take k ++ [u] ∧ u < 2 ^ 64 := by
      rcases (by omega : k = 0 ∨ k = 1 ∨ k = 2) with rfl | rfl | rfl
      · exact ⟨_, rfl, rfl, hs.1⟩
      · exact ⟨_, rfl, rfl, hs.2.1⟩
      · exact ⟨_, rfl, rfl, hs.2.2⟩
    have hk3 : k < 3 := by omega
    simp [go_sem, hk, hu]
    refine K_callQ rfl rfl rfl (args := [.ptr q 0, .u u]) (f := 41) (by simp [go_sem]) (by simp [go_sem, hB]) (wide_spec h4 u hu2 (by omega)) ?_
    intro r σ3 nx3 g
    have hn3 := g.le
    obtain ⟨j3, w3, hj3⟩ := g.wr
    have o3 := g.old nx h6 (by omega) (h4.not h5)
    have he := enc_len64 hu2
    refine K_run hB 20 ?_
    simp [go_sem]
    refine Next.mk (k + 1, j3, σ3, nx3, l' ++ enc u) ⟨by simp only; omega, ?_, ?_, h3.trans h4 h0 g, w3, by simp only; rw [o3, h5], by simp only; omega, by simp only [List.length_append]; omega⟩ (Imp.slots ?_ rfl rfl) (by simp only; omega)
    · simp only [h2, hu1]
      simp
    · have := h3.le
      rcases hj3 with rfl | hj3
      · exact h0
      · exact .inr (by simp only; omega)
    · simp [go_sem]
      rw [w64 _ (by omega)]
  · have hk3 : k = 3 := by omega
    subst hk3
    have hl2 : l' = l1 ++ (enc s.must ++ enc s.may ++ enc s.on) := by rw [h2]; simp
    simp [go_sem, h5, Spot.t]
    refine K_callQ rfl rfl rfl (args := [.ptr q 0, .fsl (ints [s.cost, s.part])]) (f := 20) (by simp [go_sem, ints]) (by simp [go_sem, hB]) (plain_spec h4 [s.cost, s.part] (by simp; omega)) ?_
    intro r σ3 nx3 g
    refine K_run hB 20 ?_
    simp [go_sem]
    have g5 := h3.trans h4 h0 g
    refine ⟨g5.le, ?_⟩
    have e1 : s.err e = [s.cost, s.part].foldl err1 e1 := by rw [← he']; rfl
    have e2 : l ++ s.enc = l' ++ encI [s.cost, s.part] := by rw [hl2, ← hl']; simp [Spot.enc]
    rw [e1, e2]
    exact g5
end Go.Proofs.Ytibmjinfdcmbdaa
