/- A part of the proof: C10. -/
import Derived.Test.YtibmjinfdcmbdaaC9
import Derived.Test.YtibmjinfdcmbdaaR16
set_option maxRecDepth 4000
namespace Go.Proofs.Ytibmjinfdcmbdaa
open Go Go.Proofs.Ytibmjinfdcmbdaa.R
theorem stood58 : P.stoodInHeld 58 = false := by kernel_rfl
theorem stood41 : P.stoodInHeld 41 = false := by kernel_rfl
theorem guard58 : P.eqGuardType P.depth 58 = false := by kernel_rfl
attribute [go_sem] stood58 stood41
def Spot.same (s t : Spot) : Bool := (decide (s.at_ = t.at_) && (decide (s.car = t.car) && (decide (s.time = t.time) && (decide (s.load = t.load) && (decide (s.first = t.first) && (decide (s.must = t.must) && (decide (s.may = t.may) && decide (s.on = t.on)))))))) && (decide (s.cost = t.cost) && decide (s.part = t.part))
theorem Spot.same_iff (s t : Spot) : s.same t = true ↔ s = t := by
  cases s; cases t
  simp only [Spot.same, Bool.and_eq_true, decide_eq_true_eq, Spot.mk.injEq]
  constructor
  · rintro ⟨⟨a, b, c, d, e, f, g, h⟩, i, j⟩; exact ⟨a, b, c, d, e, f, g, h, i, j⟩
  · rintro ⟨a, b, c, d, e, f, g, h, i, j⟩; exact ⟨⟨a, b, c, d, e, f, g, h⟩, i, j⟩
theorem spot_eq (s t : Spot) : eqA P 10000 58 (.agg (s.t.map .t)) (.agg (t.t.map .t)) = some (s.same t) := by
  simp [go_sem, Spot.t, Spot.same]
def layB (a b : Layer) : Bool := decide (a.length = b.length) && (a.zip b).all fun x => x.1.same x.2
def partB (a b : Part) : Bool := decide (a.length = b.length) && (a.zip b).all fun x => layB x.1 x.2
def Prf.same (p q : Prf) : Bool := decide (p.least = q.least) && (decide (p.parts.length = q.parts.length) && (p.parts.zip q.parts).all fun x => partB x.1 x.2)

theorem zip_drop {α β : Type} {a : List α} {b : List β} {k : Nat} (ha : k < a.length) (hb : k < b.length) : (a.drop k).zip (b.drop k) = (a[k], b[k]) :: (a.drop (k + 1)).zip (b.drop (k + 1)) := by
  rw [List.drop_eq_getElem_cons ha, List.drop_eq_getElem_cons hb]; rfl

theorem same_pure (p q : Prf) (hl : p.parts.length < 2 ^ 63 ∧ ∀ x ∈ p.parts, x.length < 2 ^ 63 ∧ ∀ l ∈ x, l.length < 2 ^ 63) : Pure P 14 [p.a, q.a] (.b (p.same q)) := by
  refine pure_of Try.func14 rfl rfl (by simp [Try.f14]) (by simp [bnd, bnd.bndL, Prf.a]) (by simp [bnd]) fun B hB hnx => ?_
  simp only [Try.f14] at hB ⊢
  generalize hR : p.same q = r
  by_cases h0 : p.least = q.least
  rotate_left
  · have : r = false := by rw [← hR]; simp [Prf.same, h0]
    refine K_run hB 60 ?_
    simp [go_sem, Prf.a, h0, this]
  by_cases hpl : p.parts.length = q.parts.length
  rotate_left
  · have : r = false := by rw [← hR]; simp [Prf.same, hpl]
    refine K_run hB 60 ?_
    simp [go_sem, Prf.a, h0, this, hpl]
  refine K_run hB 60 ?_
  simp [go_sem, Prf.a, h0, hpl]
  have hsame : ((p.parts.zip q.parts).all fun x => partB x.1 x.2) = r := by rw [← hR]; simp [Prf.same, h0, hpl]
  refine K_loopP (α := Nat) (fun k => k ≤ p.parts.length ∧ (((p.parts.drop k).zip (q.parts.drop k)).all fun x => partB x.1 x.2) = r)
    (fun k => ⟨sl [(2, .ptr 0 0), (3, .ptr 1 0), (5, .i k)], ob [(0, .box [.t (.i p.least), .t (.sl (p.parts.map partT))]), (1, .box [.t (.i q.least), .t (.sl (q.parts.map partT))])], 2⟩) (fun k => p.parts.length - k) 0 ⟨Nat.zero_le _, by simpa using hsame⟩
    (Sub.of (by omega) (by simp) (by simp [go_sem]) (by simp [go_sem, h0])) ?_
  rintro k ⟨h1, h3⟩
  refine K_run hB 60 ?_
  simp [go_sem]
  refine fork_dec (fun hk => ?_) (fun hk => ?_)
  · have hk' : k < q.parts.length := by omega
    have hxl := hl.2 _ (List.getElem_mem hk)
    rw [zip_drop hk hk'] at h3
    simp only [List.all_cons] at h3
    generalize hx : p.parts[k] = x at *
    generalize hy : q.parts[k] = y at *
    generalize hz : (((p.parts.drop (k + 1)).zip (q.parts.drop (k + 1))).all fun x => partB x.1 x.2) = z at *
    by_cases hxy : List.length x = List.length y
    rotate_left
    · have : r = false := by rw [← h3]; simp [partB, hxy]
      simp [go_sem, hk, hk', partT, hx, hy, hxy, this]
    simp [go_sem, hk, hk', partT, hx, hy, hxy]
    have hxy2 : (((x.zip y).all fun a => layB a.1 a.2) && z) = r := by rw [← h3]; simp [partB, hxy]
    refine K_loopP (α := Nat) (fun i => i ≤ x.length ∧ ((((x.drop i).zip (y.drop i)).all fun a => layB a.1 a.2) && z) = r)
      (fun i => ⟨sl [(2, .ptr 0 0), (3, .ptr 1 0), (5, .i k), (6, .t (.sl (x.map fun l => [layT l]))), (7, .t (.sl (y.map fun l => [layT l]))), (8, .i i)], ob [(0, .box [.t (.i p.least), .t (.sl (p.parts.map partT))]), (1, .box [.t (.i q.least), .t (.sl (q.parts.map partT))])], 2⟩) (fun i => x.length - i) 0 ⟨Nat.zero_le _, by simpa using hxy2⟩
      (Sub.of (by omega) (by simp) (by simp [go_sem]) (by simp [go_sem, h0])) ?_
    rintro i ⟨i1, i3⟩
    refine K_run hB 60 ?_
    simp [go_sem]
    refine fork_dec (fun hi => ?_) (fun hi => ?_)
    · have hi' : i < y.length := by omega
      have hul := hxl.2 _ (List.getElem_mem hi)
      rw [zip_drop hi hi'] at i3
      simp only [List.all_cons] at i3
      generalize hu : x[i] = u at *
      generalize hv : y[i] = v at *
      generalize hzz : (((x.drop (i + 1)).zip (y.drop (i + 1))).all fun x => layB x.1 x.2) = zz at *
      simp [go_sem]
      refine K_drawn [] rfl (by rw [hB]; kernel_rfl) ?_
      by_cases huv : List.length u = List.length v
      rotate_left
      · have : r = false := by rw [← i3]; simp [layB, huv]
        refine K_run hB 60 ?_
        simp [go_sem, hi, hi', hu, hv, huv, layT, this]
      refine K_run hB 60 ?_
      simp [go_sem, hi, hi', hu, hv, huv, layT]
      have huv2 : ((u.zip v).all (fun a => a.1.same a.2) && zz && z) = r := by rw [← i3]; simp [layB, huv]
      refine K_loopP (α := Nat) (fun m => m ≤ u.length ∧ ((((u.drop m).zip (v.drop m)).all fun a => a.1.same a.2) && zz && z) = r)
        (fun m => ⟨sl [(2, .ptr 0 0), (3, .ptr 1 0), (5, .i k), (6, .t (.sl (x.map fun l => [layT l]))), (7, .t (.sl (y.map fun l => [layT l]))), (8, .i i), (9, .i m)], ob [(0, .box [.t (.i p.least), .t (.sl (p.parts.map partT))]), (1, .box [.t (.i q.least), .t (.sl (q.parts.map partT))])], 2⟩) (fun m => u.length - m) 0 ⟨Nat.zero_le _, by simpa using huv2⟩
        (Sub.of (by omega) (by simp) (by simp [go_sem, layT]) (by simp [go_sem, h0])) ?_
      rintro m ⟨m1, m3⟩
      refine K_run hB 60 ?_
      simp [go_sem, hi, layT, hu]
      refine fork_dec (fun hm => ?_) (fun hm => ?_)
      · have hm' : m < v.length := by omega
        rw [zip_drop hm hm'] at m3
        simp only [List.all_cons] at m3
        generalize ha : u[m] = a at *
        generalize hb : v[m] = b at *
        simp [go_sem]
        refine K_drawn [] rfl (by rw [hB]; kernel_rfl) ?_
        refine K_run hB 60 ?_
        simp [go_sem, hi, hi', hu, hv, hm, hm', ha, hb, layT, Spot.t]
        refine K_dEq (op := .neq) (t := 58) (t' := 58) (x := .tmp 80) (y := .tmp 87) (xs := a.t.map .t) (ys := b.t.map .t) rfl rfl (by simp [go_sem, Spot.t]) (by simp [go_sem, Spot.t]) guard58 (spot_eq a b) rfl ?_
        by_cases hab : a.same b = true
        · rw [hab] at m3
          refine K_run hB 60 ?_
          simp [go_sem, hab]
          refine Next.mk (m + 1) ⟨by omega, by simpa using m3⟩ (Sub.of (by omega) (by simp) (by
            simp [go_sem, layT]
            rw [w64 _ (by omega)]) (by simp [go_sem])) (by omega)
        · have hf : a.same b = false := by simpa using hab
          have : r = false := by rw [← m3, hf]; simp
          refine K_run hB 60 ?_
          simp [go_sem, hf, this]
      · have : m = u.length := by omega
        subst this
        simp at m3
        simp [go_sem]
        refine Next.mk (i + 1) ⟨by omega, by rw [hzz]; simpa using m3⟩ (Sub.of (by omega) (by simp) (by
          simp [go_sem, layT]
          rw [w64 _ (by omega)]) (by simp [go_sem])) (by omega)
    · have : i = x.length := by omega
      subst this
      simp at i3
      simp [go_sem]
      refine Next.mk (k + 1) ⟨by omega, by rw [hz]; exact i3⟩ (Sub.of (by omega) (by simp) (by
        simp [go_sem]
        rw [w64 _ (by omega)]) (by simp [go_sem])) (by omega)
  · have : k = p.parts.length := by omega
    subst this
    simp [go_sem]
    simp at h3
    exact h3
end Go.Proofs.Ytibmjinfdcmbdaa
