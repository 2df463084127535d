/- A part of the proof: C15. -/
import Derived.Test.YtibmjinfdcmbdaaC14
import Derived.Test.YtibmjinfdcmbdaaR17
set_option maxRecDepth 4000
namespace Go.Proofs.Ytibmjinfdcmbdaa
open Go Go.Proofs.Ytibmjinfdcmbdaa.R
theorem has3 {f : Nat} {ts : List T} (h : HasT P f 3 ts) : ∃ n, ts = [.i n] := by
  cases f with
  | zero => exact h.elim
  | succ f => simp only [HasT, (tt_some tt3).1] at h; obtain ⟨n, rfl, _⟩ := h; exact ⟨n, rfl⟩
theorem has39 {f : Nat} {ts : List T} (h : HasT P f 39 ts) : ∃ n : Nat, ts = [.v (.int .u64 n)] ∧ n < 2 ^ 64 := by
  cases f with
  | zero => exact h.elim
  | succ f =>
    simp only [HasT, (tt_some tt39).1] at h
    obtain ⟨n, rfl, hw⟩ := h
    have hr : 0 ≤ n ∧ n < 18446744073709551616 := by
      simp [Lit.wf, IntKind.min, IntKind.max, IntKind.wrap, IntKind.bits, IntKind.signed] at hw
      omega
    refine ⟨n.toNat, by rw [Int.toNat_of_nonneg hr.1], by omega⟩
theorem has41 {f : Nat} {ts : List T} (h : HasT P f 41 ts) : ∃ (a b c d e : Int) (x y z : Nat), ts = [.i a, .i b, .i c, .i d, .i e, .v (.int .u64 x), .v (.int .u64 y), .v (.int .u64 z)] ∧ x < 2 ^ 64 ∧ y < 2 ^ 64 ∧ z < 2 ^ 64 := by
  cases f with
  | zero => exact h.elim
  | succ f =>
    simp only [HasT, (tt_some tt41).1, HasF] at h
    obtain ⟨a, _, rfl, _, ha, b, _, rfl, _, hb, c, _, rfl, _, hc, d, _, rfl, _, hd, e, _, rfl, _, he, x, _, rfl, _, hx, y, _, rfl, _, hy, z, _, rfl, _, hz, rfl⟩ := h
    obtain ⟨a, rfl⟩ := has3 ha
    obtain ⟨b, rfl⟩ := has3 hb
    obtain ⟨c, rfl⟩ := has3 hc
    obtain ⟨d, rfl⟩ := has3 hd
    obtain ⟨e, rfl⟩ := has3 he
    obtain ⟨x, rfl, gx⟩ := has39 hx
    obtain ⟨y, rfl, gy⟩ := has39 hy
    obtain ⟨z, rfl, gz⟩ := has39 hz
    exact ⟨a, b, c, d, e, x, y, z, rfl, gx, gy, gz⟩
theorem has58 {f : Nat} {ts : List T} (h : HasT P f 58 ts) : ∃ s : Spot, ts = s.t ∧ s.ok := by
  cases f with
  | zero => exact h.elim
  | succ f =>
    simp only [HasT, (tt_some tt58).1, HasF] at h
    obtain ⟨s, _, rfl, _, hs, b, _, rfl, _, hb, c, _, rfl, _, hc, rfl⟩ := h
    obtain ⟨a1, a2, a3, a4, a5, x, y, z, rfl, hx, hy, hz⟩ := has41 hs
    obtain ⟨b, rfl⟩ := has3 hb
    obtain ⟨c, rfl⟩ := has3 hc
    exact ⟨⟨a1, a2, a3, a4, a5, x, y, z, b, c⟩, rfl, hx, hy, hz⟩
theorem map_of {α : Type} {g : α → List T} {Q : α → Prop} {es : List (List T)} (h : ∀ x ∈ es, ∃ a, x = g a ∧ Q a) : ∃ l : List α, es = l.map g ∧ ∀ a ∈ l, Q a := by
  induction es with
  | nil => exact ⟨[], rfl, fun a h => by cases h⟩
  | cons x es ih =>
    obtain ⟨a, rfl, ha⟩ := h x List.mem_cons_self
    obtain ⟨l, rfl, hl⟩ := ih fun y hy => h y (List.mem_cons_of_mem _ hy)
    exact ⟨a :: l, rfl, fun b hb => by
      rcases List.mem_cons.1 hb with rfl | hb
      · exact ha
      · exact hl b hb⟩
theorem has51 {f : Nat} {ts : List T} (h : HasT P f 51 ts) : ∃ l : Layer, ts = [layT l] ∧ l.length ≤ maxLen ∧ ∀ s ∈ l, s.ok := by
  cases f with
  | zero => exact h.elim
  | succ f =>
    simp only [HasT, (tt_some tt51).1] at h
    obtain ⟨es, rfl, hn, h⟩ := h
    obtain ⟨l, rfl, hl⟩ := map_of (g := Spot.t) (Q := Spot.ok) fun x hx => has58 (h x hx).2
    exact ⟨l, rfl, by simpa using hn, hl⟩
theorem has48 {f : Nat} {ts : List T} (h : HasT P f 48 ts) : ∃ q : Part, ts = [.sl (q.map fun l => [layT l])] ∧ q.length ≤ maxLen ∧ ∀ l ∈ q, l.length ≤ maxLen ∧ ∀ s ∈ l, s.ok := by
  cases f with
  | zero => exact h.elim
  | succ f =>
    simp only [HasT, (tt_some tt48).1] at h
    obtain ⟨es, rfl, hn, h⟩ := h
    obtain ⟨l, rfl, hl⟩ := map_of (g := fun l => [layT l]) (Q := fun l : Layer => l.length ≤ maxLen ∧ ∀ s ∈ l, s.ok) fun x hx => has51 (h x hx).2
    exact ⟨l, rfl, by simpa using hn, hl⟩
theorem has50 {f : Nat} {ts : List T} (h : HasT P f 50 ts) : ∃ q : Part, ts = partT q ∧ q.length ≤ maxLen ∧ ∀ l ∈ q, l.length ≤ maxLen ∧ ∀ s ∈ l, s.ok := by
  cases f with
  | zero => exact h.elim
  | succ f =>
    simp only [HasT, (tt_some tt50).1, HasF] at h
    obtain ⟨s, _, rfl, _, hs, rfl⟩ := h
    obtain ⟨q, rfl, hq⟩ := has48 hs
    exact ⟨q, rfl, hq⟩
theorem has24 {f : Nat} {ts : List T} (h : HasT P f 24 ts) : ∃ p : Prf, ts = [.i p.least, .sl (p.parts.map partT)] ∧ p.parts.length ≤ maxLen ∧ ∀ q ∈ p.parts, q.length ≤ maxLen ∧ ∀ l ∈ q, l.length ≤ maxLen ∧ ∀ s ∈ l, s.ok := by
  cases f with
  | zero => exact h.elim
  | succ f =>
    simp only [HasT, (tt_some tt24).1, HasF] at h
    obtain ⟨a, _, rfl, _, ha, b, _, rfl, _, hb, rfl⟩ := h
    obtain ⟨n, rfl⟩ := has3 ha
    cases f with
    | zero => exact hb.elim
    | succ f =>
      simp only [HasT, (tt_some tt22).1] at hb
      obtain ⟨es, rfl, hn, h⟩ := hb
      obtain ⟨l, rfl, hl⟩ := map_of (g := partT) (Q := fun q : Part => q.length ≤ maxLen ∧ ∀ l ∈ q, l.length ≤ maxLen ∧ ∀ s ∈ l, s.ok) fun x hx => has50 (h x hx).2
      exact ⟨⟨n, l⟩, rfl, by simpa using hn, hl⟩
/-- The law's function at whatever proof is read. -/
theorem encodes_all (p : Prf) (h1 : p.parts.length ≤ maxLen) (h2 : ∀ q ∈ p.parts, q.length ≤ maxLen ∧ ∀ l ∈ q, l.length ≤ maxLen ∧ ∀ s ∈ l, s.ok) : Pure P 3 [p.a] (.b true) := by
  have hm : maxLen < 2 ^ 63 := by decide
  exact encodes_pure p ⟨by omega, fun q hq => ⟨by have := (h2 q hq).1; omega, fun l hl => by have := ((h2 q hq).2 l hl).1; omega⟩⟩ fun hf => few_ok hf fun q hq l hl s hs => ((h2 q hq).2 l hl).2 s hs
end Go.Proofs.Ytibmjinfdcmbdaa
