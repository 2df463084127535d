/- What the bytes of a proof are read as: no program in sight. -/
import Derived.Test.YtibmjinfdcmbdaaC17
set_option maxRecDepth 4000
namespace Go.Proofs.Ytibmjinfdcmbdaa
open Go Go.Proofs.Ytibmjinfdcmbdaa.R
def rdSpotT : Rd (Int × Int × Int × Int × Int × Nat × Nat × Nat × Int × Int) := pairR plnI (pairR plnI (pairR plnI (pairR plnI (pairR plnI (pairR wide (pairR wide (pairR wide (pairR plnI plnI))))))))
def Spot.of (x : Int × Int × Int × Int × Int × Nat × Nat × Nat × Int × Int) : Spot := ⟨x.1, x.2.1, x.2.2.1, x.2.2.2.1, x.2.2.2.2.1, x.2.2.2.2.2.1, x.2.2.2.2.2.2.1, x.2.2.2.2.2.2.2.1, x.2.2.2.2.2.2.2.2.1, x.2.2.2.2.2.2.2.2.2⟩
def rdSpot : Rd Spot := fun l e => (Spot.of (rdSpotT l e).1, (rdSpotT l e).2)
structure Spot.good (s : Spot) : Prop where
  at_ : Nn s.at_
  car : Nn s.car
  time : Nn s.time
  load : Nn s.load
  first : Nn s.first
  ok : s.ok
  cost : Nn s.cost
  part : Nn s.part
theorem rdSpot_good : Good rdSpot Spot.enc Spot.good := by
  have h := plnI_good.pair (plnI_good.pair (plnI_good.pair (plnI_good.pair (plnI_good.pair (wide_good.pair (wide_good.pair (wide_good.pair (plnI_good.pair plnI_good))))))))
  refine h.map Spot.of (fun s => (s.at_, s.car, s.time, s.load, s.first, s.must, s.may, s.on, s.cost, s.part)) (fun s hs => ⟨rfl, ⟨hs.at_, hs.car, hs.time, hs.load, hs.first, hs.ok.1, hs.ok.2.1, hs.ok.2.2, hs.cost, hs.part⟩, ?_⟩) (fun x hx => ?_)
  · simp [Spot.enc, encI]
  · obtain ⟨a, b, c, d, e, f, g, i, j, k⟩ := hx
    exact ⟨⟨a, b, c, d, e, ⟨f, g, i⟩, j, k⟩, by simp [Spot.of, Spot.enc, encI]⟩
def rdLayer : Rd Layer := eachR rdSpot
def rdPart : Rd Part := eachR rdLayer
def Layer.good (l : Layer) : Prop := l.length ≤ 1048576 ∧ ∀ s ∈ l, Spot.good s
def Part.good (q : Part) : Prop := q.length ≤ 1048576 ∧ ∀ l ∈ q, Layer.good l
theorem rdLayer_good : Good rdLayer layEnc Layer.good := rdSpot_good.each
theorem rdPart_good : Good rdPart partEnc Part.good := rdLayer_good.each
/-- One of the first letters. -/
def letR (x : Nat) : Rd Unit := fun l e => ((), (nxt l e).2.1, if (nxt l e).1 = x then (nxt l e).2.2 else failE (nxt l e).2.2 2)
theorem letR_good (x : Nat) : Good (letR x) (fun _ => [x]) (fun _ => True) := by
  refine ⟨fun a r _ => ?_, fun a c _ hc => ?_, fun l e he => ?_, fun l a l' hl hr => ?_⟩
  · simp [letR, nxt]
  · have : c = 0 := by simpa using hc
    subst this
    have e1 : nxt (List.take 0 [x]) 0 = (0, [], 3) := rfl
    simp only [letR, e1]
    split
    · rfl
    · rw [failE_of (by decide)]
  · simp only [letR, nxt_ne l he]
    split
    · rfl
    · rw [failE_of he]
  · simp only [letR, Prod.mk.injEq] at hr
    obtain ⟨_, h1, h2⟩ := hr
    split at h2
    · rename_i h3
      refine ⟨?_, trivial⟩
      cases l with
      | nil => simp [nxt, failE] at h2
      | cons c r =>
        simp only [nxt, if_true] at h1 h3
        rw [h1, h3]; rfl
    · exact absurd h2 (failE_ne _ _ (by decide))
def rdBodyT : Rd (Int × List Part) := pairR plnI (eachR rdPart)
def lettersR : Rd (Unit × Unit × Unit × Unit) := pairR (letR 72) (pairR (letR 76) (pairR (letR 82) (letR 49)))
def rdAllT : Rd ((Unit × Unit × Unit × Unit) × Int × List Part) := pairR lettersR rdBodyT
def rdAll : Rd Prf := fun l e => (⟨(rdAllT l e).1.2.1, (rdAllT l e).1.2.2⟩, (rdAllT l e).2)
structure Prf.good (p : Prf) : Prop where
  least : Nn p.least
  parts : p.parts.length ≤ 1048576
  part : ∀ q ∈ p.parts, Part.good q
theorem rdBody_good : Good rdBodyT (fun x => enc (un x.1) ++ (encI [(x.2.length : Int)] ++ x.2.flatMap partEnc)) (fun x => Nn x.1 ∧ x.2.length ≤ 1048576 ∧ ∀ q ∈ x.2, Part.good q) := plnI_good.pair rdPart_good.each
theorem letters_good : Good lettersR (fun _ => [72, 76, 82, 49]) (fun _ => True) := by
  have h := (letR_good 72).pair ((letR_good 76).pair ((letR_good 82).pair (letR_good 49)))
  have h2 := h.map id id (en' := fun _ => [72, 76, 82, 49]) (V' := fun _ => True) (fun b _ => ⟨rfl, ⟨trivial, trivial, trivial, trivial⟩, rfl⟩) (fun a _ => ⟨trivial, rfl⟩)
  exact h2
theorem rdAll_good : Good rdAll Prf.enc Prf.good := by
  have h := letters_good.pair rdBody_good
  refine h.map (fun x => (⟨x.2.1, x.2.2⟩ : Prf)) (fun p => (((), (), (), ()), p.least, p.parts)) (fun p hp => ⟨rfl, ⟨trivial, hp.least, hp.parts, hp.part⟩, ?_⟩) (fun x hx => ⟨⟨hx.2.1, hx.2.2.1, hx.2.2.2⟩, ?_⟩)
  · simp [Prf.enc, encI]
  · simp [Prf.enc, encI]
/-- The proof that bytes are, or what is wrong with them. -/
def decE (l : List Nat) : Int := if (rdAll l 0).2.1 = [] then (rdAll l 0).2.2 else failE (rdAll l 0).2.2 2
def dec (l : List Nat) : Prf × Int := if decE l = 0 then ((rdAll l 0).1, 0) else (⟨0, []⟩, decE l)

theorem dec_enc {p : Prf} (h : p.good) : dec p.enc = (p, 0) := by
  have e1 := rdAll_good.rt p [] h
  rw [List.append_nil] at e1
  have e2 : decE p.enc = 0 := by simp [decE, e1]
  simp [dec, e1, e2]
theorem dec_more {p : Prf} (h : p.good) (x : Nat) : (dec (p.enc ++ [x])).2 = 2 := by
  have e1 := rdAll_good.rt p [x] h
  have e2 : decE (p.enc ++ [x]) = 2 := by simp [decE, e1, failE]
  simp [dec, e2]
theorem dec_cut {p : Prf} (h : p.good) {c : Nat} (hc : c < p.enc.length) : (dec (p.enc.take c)).2 = 3 := by
  have e1 := rdAll_good.cut p c h hc
  have e2 : decE (p.enc.take c) = 3 := by simp [decE, e1]
  simp [dec, e2]
theorem dec_once {b : List Nat} (hb : Bytes b) (h : (dec b).2 = 0) : b = (dec b).1.enc ∧ (dec b).1.good := by
  have e0 : decE b = 0 := by
    by_cases hx : decE b = 0
    · exact hx
    · rw [dec, if_neg hx] at h
      exact absurd h hx
  have e1 : (rdAll b 0).2.1 = [] ∧ (rdAll b 0).2.2 = 0 := by
    rw [decE] at e0
    split at e0
    · rename_i h1
      exact ⟨h1, e0⟩
    · exact absurd e0 (failE_ne _ _ (by decide))
  obtain ⟨h1, h2⟩ := rdAll_good.back b (rdAll b 0).1 [] hb (Prod.ext rfl (Prod.ext e1.1 e1.2))
  rw [List.append_nil] at h1
  have e2 : (dec b).1 = (rdAll b 0).1 := by rw [dec, if_pos e0]
  rw [e2]
  exact ⟨h1, h2⟩
theorem dec_none {b : List Nat} (h : (dec b).2 ≠ 0) : (dec b).1 = ⟨0, []⟩ := by
  rw [dec] at h ⊢
  split
  · rename_i e; rw [if_pos e] at h; exact absurd rfl h
  · rfl
theorem rdAll_form {l : List Nat} (h : (lettersR l 0).2.2 = 2) : (dec l).2 = 2 := by
  have e1 : (rdAll l 0).2.2 = 2 := by
    show (rdBodyT _ _).2.2 = 2
    rw [rdBody_good.stick _ _ (by rw [h]; decide), h]
  have e2 : decE l = 2 := by
    rw [decE, e1]
    split <;> rfl
  simp [dec, e2]
theorem letR_eq (x : Nat) (r : List Nat) : letR x (x :: r) 0 = ((), r, 0) := by simp [letR, nxt]
theorem letR_bad {c x : Nat} (h : c ≠ x) (r : List Nat) : letR x (c :: r) 0 = ((), r, 2) := by simp [letR, nxt, h, failE]
theorem letR_two (x : Nat) (l : List Nat) : letR x l 2 = ((), l, 2) := by
  have := (letR_good x).stick l 2 (by decide)
  exact Prod.ext rfl this
theorem dec_letter {p : Prf} {i x : Nat} (hi : i ≤ 3) (hx : p.enc[i]? ≠ some x) : (dec (p.enc.set i x)).2 = 2 := by
  refine rdAll_form ?_
  obtain ⟨r, hr⟩ : ∃ r, p.enc = 72 :: 76 :: 82 :: 49 :: r := ⟨encI [p.least] ++ encI [(p.parts.length : Int)] ++ p.parts.flatMap partEnc, by simp [Prf.enc]⟩
  rw [hr] at hx ⊢
  rcases (by omega : i = 0 ∨ i = 1 ∨ i = 2 ∨ i = 3) with rfl | rfl | rfl | rfl
  all_goals
    simp at hx
    simp [lettersR, pairR, letR_eq, letR_bad (fun h => hx (Eq.symm h)), letR_two]
end Go.Proofs.Ytibmjinfdcmbdaa
