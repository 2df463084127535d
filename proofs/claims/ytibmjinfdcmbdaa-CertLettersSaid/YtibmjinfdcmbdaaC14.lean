/- A part of the proof: C14. -/
import Derived.Test.YtibmjinfdcmbdaaC13
set_option maxRecDepth 4000
namespace Go.Proofs.Ytibmjinfdcmbdaa
open Go Go.Proofs.Ytibmjinfdcmbdaa.R
theorem flat_len {α : Type} {f : α → List Nat} {b : Nat} : ∀ {l : List α}, (∀ x ∈ l, (f x).length ≤ b) → (l.flatMap f).length ≤ l.length * b
  | [], _ => by simp
  | x :: l, h => by
    have h1 := h x List.mem_cons_self
    have h2 := flat_len (l := l) fun y hy => h y (List.mem_cons_of_mem _ hy)
    simp only [List.flatMap_cons, List.length_append, List.length_cons, Nat.add_mul, Nat.one_mul]
    omega
theorem spot_len {s : Spot} (h : s.ok) : s.enc.length ≤ 100 := by
  rw [Spot.enc_us]
  exact flat_len (b := 10) (l := s.us) fun u hu => enc_len64 (Spot.us_lt h u hu)
theorem few_ok {p : Prf} (h : p.few = true) (hn : ∀ q ∈ p.parts, ∀ l ∈ q, ∀ s ∈ l, s.ok) : p.ok ∧ p.enc.length + 1000 ≤ mostLen := by
  simp only [Prf.few, Bool.and_eq_true, decide_eq_true_eq, List.all_eq_true] at h
  obtain ⟨h1, h2⟩ := h
  refine ⟨⟨by omega, fun q hq => by have := (h2 q hq).1; omega, fun q hq l hl => by have := (h2 q hq).2 l hl; omega, hn⟩, ?_⟩
  have hlay : ∀ q ∈ p.parts, ∀ l ∈ q, (layEnc l).length ≤ 6010 := fun q hq l hl => by
    have e1 := encI_len [(l.length : Int)]
    have e2 := flat_len (f := Spot.enc) (b := 100) (l := l) fun s hs => spot_len (hn q hq l hl s hs)
    have e3 := (h2 q hq).2 l hl
    simp only [layEnc, List.length_append]
    simp only [List.length_cons, List.length_nil] at e1
    omega
  have hpart : ∀ q ∈ p.parts, (partEnc q).length ≤ 72130 := fun q hq => by
    have e1 := encI_len [(q.length : Int)]
    have e2 := flat_len (f := layEnc) (b := 6010) (l := q) fun l hl => hlay q hq l hl
    have e3 := (h2 q hq).1
    simp only [partEnc, List.length_append]
    simp only [List.length_cons, List.length_nil] at e1
    omega
  have e1 := encI_len [p.least]
  have e2 := encI_len [(p.parts.length : Int)]
  have e3 := flat_len (f := partEnc) (b := 72130) (l := p.parts) hpart
  simp only [List.length_cons, List.length_nil] at e1 e2
  simp only [Prf.enc, List.length_append, List.length_cons, List.length_nil, mostLen]
  omega
end Go.Proofs.Ytibmjinfdcmbdaa
