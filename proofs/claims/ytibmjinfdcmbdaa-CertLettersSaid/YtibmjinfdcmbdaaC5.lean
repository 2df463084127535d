/- A part of the proof: C5. -/
import Derived.Test.YtibmjinfdcmbdaaC4
set_option maxRecDepth 4000
namespace Go.Proofs.Ytibmjinfdcmbdaa
open Go Go.Proofs.Ytibmjinfdcmbdaa.R
abbrev Layer := List Spot
abbrev Part := List Layer
structure Prf where
  least : Int
  parts : List Part
def layT (l : Layer) : T := .sl (l.map Spot.t)
def partT (p : Part) : List T := [.sl (p.map fun l => [layT l])]
def Prf.a (p : Prf) : AV := .agg [.t (.i p.least), .t (.sl (p.parts.map partT))]
def layEnc (l : Layer) : List Nat := encI [(l.length : Int)] ++ l.flatMap Spot.enc
def partEnc (p : Part) : List Nat := encI [(p.length : Int)] ++ p.flatMap layEnc
def Prf.enc (p : Prf) : List Nat := [72, 76, 82, 49] ++ encI [p.least] ++ encI [(p.parts.length : Int)] ++ p.parts.flatMap partEnc
def Prf.spots (p : Prf) : List Spot := p.parts.flatten.flatten
def Prf.err (p : Prf) : Int := p.spots.foldl Spot.err (err1 0 p.least)
structure Prf.ok (p : Prf) : Prop where
  parts : p.parts.length ≤ 1048576
  layers : ∀ q ∈ p.parts, q.length ≤ 1048576
  spots : ∀ q ∈ p.parts, ∀ l ∈ q, l.length ≤ 1048576
  num : ∀ q ∈ p.parts, ∀ l ∈ q, ∀ s ∈ l, s.ok

theorem encode_pure (p : Prf) (hp : p.ok) (hl : p.enc.length + 1000 ≤ mostLen) : Pure P 11 [p.a] (.tup (if p.err = 0 then [.t (.sl (byt p.enc)), .i 0] else [.t (.sl []), .i p.err])) := by
  refine pure_of Try.func11 rfl rfl (by simp [Try.f11]) (by simp [bnd, bnd.bndL, Prf.a]) (by split <;> simp [bnd, bnd.bndL]) fun B hB hnx => ?_
  simp only [Try.f11] at hB ⊢
  refine K_run hB 8 ?_
  simp [go_sem, Prf.a]
  refine K_bytesR (es := byt [72, 76, 82, 49]) rfl rfl rfl rfl rfl tt27 rfl tt5 rfl (by simp [go_sem, byt]) (by simp [go_sem, hB]) (by simp [go_sem, hB]) ?_
  refine K_run hB 60 ?_
  simp [go_sem]
  have w0 : Wr (oput (oput (oput noObj 0 (.box [.t (.i p.least), .t (.sl (p.parts.map partT))])) 1 (.arr 1 (byt [72, 76, 82, 49]))) 2 (.box [.ref 1, .i 0])) 3 2 1 0 [72, 76, 82, 49] :=
    ⟨by simp [oput], by simp [oput], by omega, by omega, by omega⟩
  have hm : mostLen = 4294967296 := rfl
  refine K_callQ rfl rfl rfl (args := [.ptr 2 0, .fsl (ints [p.least])]) (f := 20) (by simp [go_sem, ints]) (by simp [go_sem, hB]) (plain_spec w0 [p.least] (by simp; omega)) ?_
  intro r1 σ1 nx1 g1
  have c1 := g1.old 0 (by omega) (by omega) (by omega)
  rw [oput_ne (by omega), oput_ne (by omega), oput_eq] at c1
  obtain ⟨j1, w1, hj1⟩ := g1.wr
  have hn1 := g1.le
  have hl1 := encI_len [p.least]
  simp only [List.length_cons, List.length_nil] at hl1
  refine K_run hB 60 ?_
  simp [go_sem, c1]
  refine K_callQ rfl rfl rfl (args := [.ptr 2 0, .i (p.parts.length : Nat)]) (f := 21) (by simp [go_sem]) (by simp [go_sem, hB]) (count_spec w1 p.parts.length hp.parts (by simp; omega)) ?_
  intro r2 σ2 nx2 g2
  have c2 := g2.old 0 (by omega) (by omega) (w1.not c1)
  rw [c1] at c2
  obtain ⟨j2, w2, hj2⟩ := g2.wr
  have hn2 := g2.le
  refine K_run hB 60 ?_
  simp [go_sem, c2]
  refine K_loopP (α := Nat × Nat × (Nat → AObj) × Nat × List Nat × Int) (fun (k, j, σ, nx, l, e) => k ≤ p.parts.length ∧ l ++ (p.parts.drop k).flatMap partEnc = p.enc ∧ ((p.parts.drop k).flatten.flatten).foldl Spot.err e = p.err ∧ Wr σ nx 2 j e l)
    (fun (k, j, σ, nx, l, e) => ⟨sl [(4, .ptr 2 0), (26, .t (.sl (p.parts.map partT))), (27, .i p.parts.length), (28, .i k)], σ, nx⟩) (fun x => p.parts.length - x.1) (0, j2, σ2, nx2, _, _) ⟨Nat.zero_le _, by simp [Prf.enc], by simp [Prf.err, Prf.spots], w2⟩ (Imp.slots (by simp [go_sem]) rfl rfl) ?_
  rintro ⟨k, j, σ, nx, l, e⟩ ⟨h1, h2, h3, h4⟩
  have hk64 : p.parts.length ≤ 1048576 := hp.parts
  refine K_run hB 60 ?_
  simp [go_sem]
  refine fork_dec (fun hk => ?_) (fun hk => ?_)
  · have hd : p.parts.drop k = p.parts[k] :: p.parts.drop (k + 1) := by rw [List.drop_eq_getElem_cons hk]
    have hq := hp.layers _ (List.getElem_mem hk)
    have hpl : (partT p.parts[k]).length = 1 := rfl
    simp [go_sem, hk, hpl]
    simp [go_sem, partT]
    refine K_callQ rfl rfl rfl (args := [.ptr 2 0, .i (p.parts[k].length : Nat)]) (f := 21) (by simp [go_sem]) (by simp [go_sem, hB]) (count_spec (h4.pre (nx1 := nx + 1) (by omega) (fun i hi => by
      dsimp only
      rw [oput_ne (by omega), oput_ne (by omega)])) p.parts[k].length hq ?_) ?_
    · have := congrArg List.length h2
      simp at this
      omega
    intro r3 σ3 nx3 g3
    dsimp only at g3
    have c3 := g3.old nx (by omega) (by have := h4.ql; omega) (by have := h4.jl; omega)
    rw [oput_eq] at c3
    obtain ⟨j3, w3, _⟩ := g3.wr
    generalize hq' : p.parts[k] = q at *
    generalize hrest : p.parts.drop (k + 1) = rest at *
    refine K_run hB 60 ?_
    simp [go_sem, c3]
    refine K_loopP (α := Nat × Nat × (Nat → AObj) × Nat × List Nat × Int) (fun (i, j, σ, nx, l, e) => i ≤ q.length ∧ l ++ (q.drop i).flatMap layEnc ++ rest.flatMap partEnc = p.enc ∧ ((q.drop i).flatten ++ rest.flatten.flatten).foldl Spot.err e = p.err ∧ Wr σ nx 2 j e l)
      (fun (i, j, σ, nx, l, e) => ⟨sl [(4, .ptr 2 0), (26, .t (.sl (p.parts.map partT))), (27, .i p.parts.length), (28, .i k), (38, .t (.sl (q.map fun l => [layT l]))), (39, .i q.length), (40, .i i)], σ, nx⟩) (fun x => q.length - x.1) (0, j3, σ3, nx3, _, _)
      ⟨Nat.zero_le _, by rw [← h2, hd]; simp [partEnc], by rw [← h3, hd]; simp, w3⟩ (Imp.slots (by simp [go_sem]) rfl rfl) ?_
    rintro ⟨i, j, σ, nx, l, e⟩ ⟨i1, i2, i3, i4⟩
    refine K_run hB 60 ?_
    simp [go_sem]
    refine fork_dec (fun hi => ?_) (fun hi => ?_)
    · have hdi : q.drop i = q[i] :: q.drop (i + 1) := by rw [List.drop_eq_getElem_cons hi]
      have hmq : q ∈ p.parts := by rw [← hq']; exact List.getElem_mem _
      have hly := hp.spots _ hmq _ (List.getElem_mem hi)
      simp [go_sem, hi, layT]
      refine K_callQ rfl rfl rfl (args := [.ptr 2 0, .i (q[i].length : Nat)]) (f := 21) (by simp [go_sem]) (by simp [go_sem, hB]) (count_spec i4 q[i].length hly ?_) ?_
      · have := congrArg List.length i2
        simp at this
        omega
      intro r5 σ5 nx5 g5
      obtain ⟨j5, w5, _⟩ := g5.wr
      generalize hy' : q[i] = y at *
      generalize hrest2 : q.drop (i + 1) = rest2 at *
      refine K_run hB 60 ?_
      simp [go_sem]
      refine K_loopP (α := Nat × Nat × (Nat → AObj) × Nat × List Nat × Int) (fun (m, j, σ, nx, l, e) => m ≤ y.length ∧ l ++ (y.drop m).flatMap Spot.enc ++ rest2.flatMap layEnc ++ rest.flatMap partEnc = p.enc ∧ (y.drop m ++ rest2.flatten ++ rest.flatten.flatten).foldl Spot.err e = p.err ∧ Wr σ nx 2 j e l)
        (fun (m, j, σ, nx, l, e) => ⟨sl [(4, .ptr 2 0), (26, .t (.sl (p.parts.map partT))), (27, .i p.parts.length), (28, .i k), (38, .t (.sl (q.map fun l => [layT l]))), (39, .i q.length), (40, .i i), (48, .t (.sl (y.map Spot.t))), (49, .i y.length), (50, .i m)], σ, nx⟩) (fun x => y.length - x.1) (0, j5, σ5, nx5, _, _)
        ⟨Nat.zero_le _, by rw [← i2, hdi]; simp [layEnc], by rw [← i3, hdi]; simp, w5⟩ (Imp.slots (by simp [go_sem, layT]) rfl rfl) ?_
      rintro ⟨m, j, σ, nx, l, e⟩ ⟨m1, m2, m3, m4⟩
      refine K_run hB 60 ?_
      simp [go_sem]
      refine fork_dec (fun hm' => ?_) (fun hm' => ?_)
      · have hdm : y.drop m = y[m] :: y.drop (m + 1) := by rw [List.drop_eq_getElem_cons hm']
        have hmy : y ∈ q := by rw [← hy']; exact List.getElem_mem _
        have hsp := hp.num _ hmq _ hmy _ (List.getElem_mem hm')
        simp [go_sem, hm', Spot.t]
        have hm64 : m + 1 ≤ 1048576 := by omega
        generalize hs' : y[m] = s at *
        refine K_callQ rfl rfl rfl (args := [.ptr 2 0, .agg (s.t.map .t)]) (f := 22) (by simp [go_sem, oput, Spot.t]) (by simp [go_sem, hB]) (spot_spec (m4.pre (nx1 := nx + 1) (by omega) (fun i hi => by
          dsimp only
          rw [oput_ne (by omega), oput_ne (by omega)])) s hsp ?_) ?_
        · have := congrArg List.length m2
          simp at this
          omega
        intro r7 σ7 nx7 g7
        obtain ⟨j7, w7, _⟩ := g7.wr
        refine K_run hB 20 ?_
        simp [go_sem]
        refine Next.mk (m + 1, j7, σ7, nx7, l ++ s.enc, s.err e) ⟨by omega, ?_, ?_, w7⟩ (Imp.slots (by
          simp [go_sem]
          rw [w64 _ (by omega)]) rfl rfl) (by simp only; omega)
        · rw [← m2, hdm]; simp
        · rw [← m3, hdm]; simp
      · have : m = y.length := by omega
        subst this
        simp [go_sem]
        refine Next.mk (i + 1, j, σ, nx, l, e) ⟨by omega, ?_, ?_, m4⟩ (Imp.slots (by
          simp [go_sem, layT]
          rw [w64 _ (by omega)]) rfl rfl) (by simp only; omega)
        · rw [← m2, hrest2]; simp
        · rw [← m3, hrest2]; simp
    · have : i = q.length := by omega
      subst this
      simp [go_sem]
      refine Next.mk (k + 1, j, σ, nx, l, e) ⟨by omega, ?_, ?_, i4⟩ (Imp.slots (by
          simp [go_sem]
          rw [w64 _ (by omega)]) rfl rfl) (by simp only; omega)
      · rw [← i2, hrest]; simp
      · rw [← i3, hrest]; simp
  · have : k = p.parts.length := by omega
    subst this
    have b := h4
    obtain ⟨b1, b2, b3, b4, b5⟩ := b
    have e1 : e = p.err := by rw [← h3]; simp
    have e2 : l = p.enc := by rw [← h2]; simp
    simp [go_sem, b1]
    refine fork_dec (fun he => ?_) (fun he => ?_)
    · simp [go_sem, b1, b2, ← e1, he, e2]
    · simp [go_sem]
      refine K_drawn [] rfl (by rw [hB]; kernel_rfl) ?_
      refine K_run hB 40 ?_
      simp [go_sem, b1, ← e1, he]
end Go.Proofs.Ytibmjinfdcmbdaa
