/- What a call may be given, read as plain data. -/
import Derived.Test.YtibmjinfdcmbdaaC27
import Derived.Test.YtibmjinfdcmbdaaC15
import Derived.WalkKit
import Derived.ProofKit
import Derived.OpenShut
import Derived.Carry
set_option maxRecDepth 100000
set_option linter.unusedVariables false
namespace Go.Proofs.Ytibmjinfdcmbdaa
open Go Go.ChangeShapes Go.WideShapes Go.ChangeAt Go.RowKit Go.Proofs.Ytibmjinfdcmbdaa.R
theorem has3r {f : Nat} {ts : List T} (h : HasT P f 3 ts) : ∃ n, ts = [.i n] ∧ n < 9223372036854775808 := by
  cases f with
  | zero => exact h.elim
  | succ f =>
    simp only [HasT, (tt_some tt3).1] at h
    obtain ⟨n, rfl, hw⟩ := h
    refine ⟨n, rfl, ?_⟩
    simp [Lit.wf, IntKind.min, IntKind.max, IntKind.wrap, IntKind.bits, IntKind.signed] at hw
    omega
theorem has5 {f : Nat} {ts : List T} (h : HasT P f 5 ts) : ∃ n : Nat, ts = [.v (.int .u8 n)] ∧ n < 256 := by
  cases f with
  | zero => exact h.elim
  | succ f =>
    simp only [HasT, (tt_some tt5).1] at h
    obtain ⟨n, rfl, hw⟩ := h
    have hr : 0 ≤ n ∧ n < 256 := by
      simp [Lit.wf, IntKind.min, IntKind.max, IntKind.wrap, IntKind.bits, IntKind.signed] at hw
      omega
    refine ⟨n.toNat, by rw [Int.toNat_of_nonneg hr.1], by omega⟩
theorem has27 {f : Nat} {ts : List T} (h : HasT P f 27 ts) : ∃ l : List Nat, ts = [.sl (byt l)] ∧ l.length ≤ maxLen ∧ Bytes l := by
  cases f with
  | zero => exact h.elim
  | succ f =>
    simp only [HasT, (tt_some tt27).1] at h
    obtain ⟨es, rfl, hn, h⟩ := h
    obtain ⟨l, rfl, hl⟩ := map_of (g := fun n : Nat => [T.v (.int .u8 n)]) (Q := fun n => n < 256) fun x hx => has5 (h x hx).2
    exact ⟨l, rfl, by simpa using hn, hl⟩
theorem has58r {f : Nat} {ts : List T} (h : HasT P f 58 ts) : ∃ s : Spot, ts = s.t ∧ s.fit := by
  cases f with
  | zero => exact h.elim
  | succ f =>
    simp only [HasT, (tt_some tt58).1, HasF] at h
    obtain ⟨s, _, rfl, _, hs, b, _, rfl, _, hb, c, _, rfl, _, hc, rfl⟩ := h
    cases f with
    | zero => exact hs.elim
    | succ f =>
      simp only [HasT, (tt_some tt41).1, HasF] at hs
      obtain ⟨a, _, rfl, _, ha, a2, _, rfl, _, hb2, a3, _, rfl, _, hc3, d, _, rfl, _, hd, e, _, rfl, _, he, x, _, rfl, _, hx, y, _, rfl, _, hy, z, _, rfl, _, hz, rfl⟩ := hs
      obtain ⟨a, rfl, r1⟩ := has3r ha
      obtain ⟨a2, rfl, r2⟩ := has3r hb2
      obtain ⟨a3, rfl, r3⟩ := has3r hc3
      obtain ⟨d, rfl, r4⟩ := has3r hd
      obtain ⟨e, rfl, r5⟩ := has3r he
      obtain ⟨x, rfl, gx⟩ := has39 hx
      obtain ⟨y, rfl, gy⟩ := has39 hy
      obtain ⟨z, rfl, gz⟩ := has39 hz
      obtain ⟨b, rfl, r6⟩ := has3r hb
      obtain ⟨c, rfl, r7⟩ := has3r hc
      exact ⟨⟨a, a2, a3, d, e, x, y, z, b, c⟩, rfl, r1, r2, r3, r4, r5, ⟨gx, gy, gz⟩, r6, r7⟩
theorem has24r {f : Nat} {ts : List T} (h : HasT P f 24 ts) : ∃ p : Prf, ts = [.i p.least, .sl (p.parts.map partT)] ∧ p.fit ∧ p.small := by
  have hm : maxLen < 2 ^ 63 := by decide
  cases f with
  | zero => exact h.elim
  | succ f =>
    simp only [HasT, (tt_some tt24).1, HasF] at h
    obtain ⟨a, _, rfl, _, ha, b, _, rfl, _, hb, rfl⟩ := h
    obtain ⟨n, rfl, hn0⟩ := has3r ha
    cases f with
    | zero => exact hb.elim
    | succ f =>
      simp only [HasT, (tt_some tt22).1] at hb
      obtain ⟨es, rfl, hn, h⟩ := hb
      obtain ⟨l, rfl, hl⟩ := map_of (g := partT) (Q := fun q : Part => q.length ≤ maxLen ∧ ∀ l ∈ q, l.length ≤ maxLen ∧ ∀ s ∈ l, s.fit) fun x hx => by
        have h1 := (h x hx).2
        cases f with
        | zero => exact h1.elim
        | succ f =>
          simp only [HasT, (tt_some tt50).1, HasF] at h1
          obtain ⟨s, _, rfl, _, hs, rfl⟩ := h1
          cases f with
          | zero => exact hs.elim
          | succ f =>
            simp only [HasT, (tt_some tt48).1] at hs
            obtain ⟨es, rfl, hn, h⟩ := hs
            obtain ⟨l, rfl, hl⟩ := map_of (g := fun l => [layT l]) (Q := fun l : Layer => l.length ≤ maxLen ∧ ∀ s ∈ l, s.fit) fun x hx => by
              have h1 := (h x hx).2
              cases f with
              | zero => exact h1.elim
              | succ f =>
                simp only [HasT, (tt_some tt51).1] at h1
                obtain ⟨es, rfl, hn, h⟩ := h1
                obtain ⟨l, rfl, hl⟩ := map_of (g := Spot.t) (Q := Spot.fit) fun x hx => has58r (h x hx).2
                exact ⟨l, rfl, by simpa using hn, hl⟩
            exact ⟨l, rfl, by simpa using hn, hl⟩
      rw [List.length_map] at hn
      exact ⟨⟨n, l⟩, rfl, ⟨hn0, fun q hq l hl' s hs => ((hl q hq).2 l hl').2 s hs⟩, by show l.length < 2 ^ 63; omega, fun q hq => ⟨by have := (hl q hq).1; omega, fun l' hl' => by have := ((hl q hq).2 l' hl').1; omega⟩⟩

section
variable {H : Type} {enc : TypeId × Value → H} {W : World} {base : Nat} {sp : Nat → Bool} {held : Bool} {v : Value} {d : DataW H} {ps : List MemPlace}
/-- What is there at the call's begin: nothing is owned, all that there is stays. -/
abbrev C0 (W : World) : Ctx := ⟨old W, fun _ => none, fun _ => undef, 0⟩
theorem sim0 (W : World) : Sim (C0 W) noObj W := ⟨fun _ _ => rfl, fun _ => True.intro, fun _ _ _ hi => absurd rfl hi, fun _ _ hi => absurd rfl hi, fun b hb => hb⟩
theorem arg24 (h : DataW.Trod enc P W 0 sp held 24 v d ps) (hv : Value.okWide P W .any base 24 v) : ∃ p : Prf, p.fit ∧ p.small ∧ RepA W (C0 W) p.a v := by
  have h24 := (tt_some tt24).1
  unfold Value.okWide at hv
  rw [h24] at hv
  obtain ⟨cs, rfl, _⟩ := hv
  obtain ⟨fuel, ht⟩ := h
  obtain ⟨ts, g1, g2, g3⟩ := trod_rep fuel 10 24 _ _ _ ht (by kernel_rfl)
  obtain ⟨pr, rfl, e1, e2⟩ := has24r g1
  refine ⟨pr, e1, e2, .agg (by simpa [Value.cells] using g2) fun k a u ha hu => ?_⟩
  have h2 : ([T.i pr.least, T.sl (pr.parts.map partT)].map AV.t)[k]? = some a := ha
  rw [List.getElem?_map] at h2
  obtain ⟨b, hb, rfl⟩ := Option.map_eq_some_iff.1 h2
  exact .t (g3 k b u hb (by simpa [Value.cells] using hu))
theorem arg3 (h : DataW.Trod enc P W 0 sp held 3 v d ps) (hv : Value.okWide P W .any base 3 v) : ∃ n : Int, RepA W (C0 W) (.i n) v := by
  obtain ⟨n, rfl⟩ := okWide_int (tt_some tt3).1 hv
  exact ⟨n, .t (.v rfl)⟩
theorem arg5 (h : DataW.Trod enc P W 0 sp held 5 v d ps) (hv : Value.okWide P W .any base 5 v) : ∃ n : Nat, n < 256 ∧ RepA W (C0 W) (.t (.v (.int .u8 n))) v := by
  obtain ⟨m, rfl⟩ := okWide_int (tt_some tt5).1 hv
  obtain ⟨fuel, ht⟩ := h
  obtain ⟨ts, g1, g2, g3⟩ := trod_rep fuel 10 5 _ _ _ ht (by kernel_rfl)
  obtain ⟨n, rfl, e1⟩ := has5 g1
  exact ⟨n, e1, .t (g3 0 _ _ rfl rfl)⟩
theorem arg27 (h : DataW.Trod enc P W 0 sp held 27 v d ps) (hv : Value.okWide P W .any base 27 v) : ∃ l : List Nat, l.length ≤ maxLen ∧ Bytes l ∧ RepA W (C0 W) (.t (.sl (byt l))) v := by
  obtain ⟨a, len, cap, rfl⟩ := okWide_slice (tt_some tt27).1 hv
  obtain ⟨fuel, ht⟩ := h
  obtain ⟨ts, g1, g2, g3⟩ := trod_rep fuel 10 27 _ _ _ ht (by kernel_rfl)
  obtain ⟨l, rfl, e1, e2⟩ := has27 g1
  exact ⟨l, e1, e2, .t (g3 0 _ _ rfl rfl)⟩
/-- A row of arguments. -/
theorem repL1 {a : AV} {u : Value} (h : RepA W (C0 W) a u) : RepL W (C0 W) [a] [u] := ⟨rfl, fun k x y hx hy => by
  cases k with
  | zero => simp at hx hy; subst hx; subst hy; exact h
  | succ k => simp at hx⟩
theorem repL2 {a b : AV} {u u2 : Value} (h : RepA W (C0 W) a u) (h2 : RepA W (C0 W) b u2) : RepL W (C0 W) [a, b] [u, u2] := (repL1 h).app (repL1 h2)
theorem repL3 {a b c : AV} {u u2 u3 : Value} (h : RepA W (C0 W) a u) (h2 : RepA W (C0 W) b u2) (h3 : RepA W (C0 W) c u3) : RepL W (C0 W) [a, b, c] [u, u2, u3] := (repL1 h).app (repL2 h2 h3)
end
theorem own0 : ownKnob Try.prog.godebug = Option.none := by kernel_rfl
end Go.Proofs.Ytibmjinfdcmbdaa
