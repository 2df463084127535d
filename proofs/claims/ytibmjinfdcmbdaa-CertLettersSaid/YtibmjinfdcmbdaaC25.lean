/- Proofs that can be written; sameness. No program in sight. -/
import Derived.Test.YtibmjinfdcmbdaaC24
set_option maxRecDepth 4000
namespace Go.Proofs.Ytibmjinfdcmbdaa
open Go Go.Proofs.Ytibmjinfdcmbdaa.R
/-- Numbers that a program can hold. -/
structure Spot.fit (s : Spot) : Prop where
  at_ : s.at_ < 9223372036854775808
  car : s.car < 9223372036854775808
  time : s.time < 9223372036854775808
  load : s.load < 9223372036854775808
  first : s.first < 9223372036854775808
  ok : s.ok
  cost : s.cost < 9223372036854775808
  part : s.part < 9223372036854775808
structure Prf.fit (p : Prf) : Prop where
  least : p.least < 9223372036854775808
  spot : ∀ q ∈ p.parts, ∀ l ∈ q, ∀ s ∈ l, s.fit
theorem Prf.fit.num {p : Prf} (h : p.fit) : ∀ q ∈ p.parts, ∀ l ∈ q, ∀ s ∈ l, s.ok := fun q hq l hl s hs => (h.spot q hq l hl s hs).ok
theorem spotErrs {l : List Spot} : ∀ {e : Int}, e = 0 ∨ e = 1 → (l.foldl Spot.err e = 0 ↔ e = 0 ∧ ∀ s ∈ l, s.pos = true) := by
  induction l with
  | nil => intro e _; simp
  | cons s l ih =>
    intro e he
    rw [List.foldl_cons]
    rcases he with rfl | rfl
    · rw [spotErr_zero]
      by_cases hs : s.pos = true
      · rw [if_pos hs, ih (.inl rfl)]
        simp [hs]
      · rw [if_neg hs, ih (.inr rfl)]
        simp [hs]
    · rw [spotErr_one, ih (.inr rfl)]
      simp
theorem err_iff (p : Prf) : p.err = 0 ↔ 0 ≤ p.least ∧ ∀ q ∈ p.parts, ∀ l ∈ q, ∀ s ∈ l, s.pos = true := by
  have h01 : err1 0 p.least = 0 ∨ err1 0 p.least = 1 := err1_01 (.inl rfl)
  rw [Prf.err, spotErrs h01, err1_zero]
  constructor
  · rintro ⟨h1, h2⟩
    refine ⟨by split at h1 <;> simp_all, fun q hq l hl s hs => h2 s ?_⟩
    simp only [Prf.spots, List.mem_flatten]
    exact ⟨l, ⟨q, hq, hl⟩, hs⟩
  · rintro ⟨h1, h2⟩
    refine ⟨by rw [if_pos h1], fun s hs => ?_⟩
    simp only [Prf.spots, List.mem_flatten] at hs
    obtain ⟨l, ⟨q, hq, hl⟩, hs⟩ := hs
    exact h2 q hq l hl s hs
theorem good_of {p : Prf} (h : p.fit) (ho : p.ok) (he : p.err = 0) : p.good := by
  obtain ⟨h1, h2⟩ := (err_iff p).1 he
  refine ⟨⟨h1, h.least⟩, ho.parts, fun q hq => ⟨ho.layers q hq, fun l hl => ⟨ho.spots q hq l hl, fun s hs => ?_⟩⟩⟩
  have hp := h2 q hq l hl s hs
  have hf := h.spot q hq l hl s hs
  simp only [Spot.pos, List.all_cons, List.all_nil, Bool.and_true, Bool.and_eq_true, decide_eq_true_eq] at hp
  obtain ⟨a, b, c, d, e, f, g⟩ := hp
  exact ⟨⟨a, hf.at_⟩, ⟨b, hf.car⟩, ⟨c, hf.time⟩, ⟨d, hf.load⟩, ⟨e, hf.first⟩, hf.ok, ⟨f, hf.cost⟩, ⟨g, hf.part⟩⟩
theorem err_good {p : Prf} (h : p.good) : p.err = 0 := by
  refine (err_iff p).2 ⟨h.least.1, fun q hq l hl s hs => ?_⟩
  have g := ((h.part q hq).2 l hl).2 s hs
  simp [Spot.pos, g.at_.1, g.car.1, g.time.1, g.load.1, g.first.1, g.cost.1, g.part.1]
theorem ok_good {p : Prf} (h : p.good) : p.ok := ⟨h.parts, fun q hq => (h.part q hq).1, fun q hq l hl => ((h.part q hq).2 l hl).1, fun q hq l hl s hs => (((h.part q hq).2 l hl).2 s hs).ok⟩

theorem all_zip {α : Type} {f : α → α → Bool} (hf : ∀ a b, f a b = true ↔ a = b) : ∀ {a b : List α}, (decide (a.length = b.length) && (a.zip b).all fun x => f x.1 x.2) = true ↔ a = b
  | [], [] => by simp
  | [], b :: bs => by simp
  | a :: zs, [] => by simp
  | a :: zs, b :: bs => by
    have ih := all_zip hf (a := zs) (b := bs)
    simp only [Bool.and_eq_true, decide_eq_true_eq, List.length_cons, List.zip_cons_cons, List.all_cons, List.cons.injEq, hf] at ih ⊢
    rw [← ih]
    constructor
    · rintro ⟨h1, h2, h3⟩; exact ⟨h2, by omega, h3⟩
    · rintro ⟨h1, h2, h3⟩; exact ⟨by omega, h1, h3⟩
theorem layB_iff (a b : Layer) : layB a b = true ↔ a = b := all_zip Spot.same_iff
theorem partB_iff (a b : Part) : partB a b = true ↔ a = b := all_zip layB_iff
theorem same_iff (p q : Prf) : p.same q = true ↔ p = q := by
  obtain ⟨a, b⟩ := p
  obtain ⟨c, d⟩ := q
  simp only [Prf.same, Bool.and_eq_true (a := decide (_ = _)), decide_eq_true_eq, Prf.mk.injEq]
  have h := all_zip partB_iff (a := b) (b := d)
  simp only [Bool.and_eq_true, decide_eq_true_eq] at h
  rw [h]
theorem enc_inj {p q : Prf} (hp : p.good) (hq : q.good) : p.enc = q.enc ↔ p = q := by
  constructor
  · intro h
    have h1 := dec_enc hp
    rw [h, dec_enc hq] at h1
    exact (congrArg Prod.fst h1).symm
  · rintro rfl; rfl
theorem enc_bytes (n : Nat) : Bytes (enc n) := by
  induction n using Nat.strongRecOn with
  | _ n ih =>
    by_cases h : 128 ≤ n
    · rw [enc_ge h]
      intro c hc
      rcases List.mem_cons.1 hc with rfl | hc
      · omega
      · exact ih (n / 128) (by omega) c hc
    · rw [enc_lt h]
      intro c hc
      rw [List.mem_singleton] at hc
      omega
theorem encI_bytes (l : List Int) : Bytes (encI l) := by
  intro c hc
  simp only [encI, List.mem_flatMap] at hc
  obtain ⟨n, _, hc⟩ := hc
  exact enc_bytes _ c hc
theorem Prf.enc_bytes (p : Prf) : Bytes p.enc := by
  have hs : ∀ s : Spot, Bytes s.enc := fun s c hc => by
    rw [Spot.enc_us] at hc
    obtain ⟨n, _, hc⟩ := List.mem_flatMap.1 hc
    exact Ytibmjinfdcmbdaa.enc_bytes _ c hc
  have hl : ∀ l : Layer, Bytes (layEnc l) := fun l c hc => by
    rcases List.mem_append.1 hc with hc | hc
    · exact encI_bytes _ c hc
    · obtain ⟨s, _, hc⟩ := List.mem_flatMap.1 hc
      exact hs s c hc
  have hq : ∀ q : Part, Bytes (partEnc q) := fun q c hc => by
    rcases List.mem_append.1 hc with hc | hc
    · exact encI_bytes _ c hc
    · obtain ⟨s, _, hc⟩ := List.mem_flatMap.1 hc
      exact hl s c hc
  intro c hc
  simp only [Prf.enc, List.mem_append] at hc
  rcases hc with ((hc | hc) | hc) | hc
  · simp at hc; omega
  · exact encI_bytes _ c hc
  · exact encI_bytes _ c hc
  · obtain ⟨s, _, hc⟩ := List.mem_flatMap.1 hc
    exact hq s c hc
theorem unbytes_map (l : List Nat) : unbytes (byt l) = some (l.map UInt8.ofNat) := by
  induction l with
  | nil => rfl
  | cons n l ih =>
    show (unbytes (byt l)).map _ = _
    rw [ih]
    simp
theorem ofNat_inj : ∀ {a b : List Nat}, Bytes a → Bytes b → (a.map UInt8.ofNat = b.map UInt8.ofNat ↔ a = b)
  | [], [], _, _ => by simp
  | [], b :: bs, _, _ => by simp
  | a :: zs, [], _, _ => by simp
  | a :: zs, b :: bs, ha, hb => by
    have ih := ofNat_inj (a := zs) (b := bs) (fun c h => ha c (List.mem_cons_of_mem _ h)) (fun c h => hb c (List.mem_cons_of_mem _ h))
    have h1 := ha a List.mem_cons_self
    have h2 := hb b List.mem_cons_self
    simp only [List.map_cons, List.cons.injEq, ih]
    refine and_congr_left' ⟨fun h => ?_, fun h => by rw [h]⟩
    have := congrArg UInt8.toNat h
    simp at this
    omega
end Go.Proofs.Ytibmjinfdcmbdaa
