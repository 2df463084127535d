/- A part of the proof: C2. -/
import Derived.Test.YtibmjinfdcmbdaaC1
set_option maxRecDepth 4000
namespace Go.Proofs.Ytibmjinfdcmbdaa
open Go Go.Proofs.Ytibmjinfdcmbdaa.R
/-- What a writer has: its bytes, what went wrong. -/
structure Wr (σ : Nat → AObj) (nx q j : Nat) (e : Int) (l : List Nat) : Prop where
  box : σ q = .box [.ref j, .i e]
  arr : σ j = .arr 1 (byt l)
  ne : j ≠ q
  ql : q < nx
  jl : j < nx
/-- Behind more bytes: all that is older is as it was. -/
structure Wrote (σ : Nat → AObj) (nx q j : Nat) (σ' : Nat → AObj) (nx' : Nat) (e : Int) (l : List Nat) : Prop where
  le : nx ≤ nx'
  wr : ∃ j', Wr σ' nx' q j' e l ∧ (j' = j ∨ nx ≤ j')
  old : ∀ i, i < nx → i ≠ q → i ≠ j → σ' i = σ i

theorem or128 (m : Nat) : bor .u8 (IntKind.u8.wrap m) 128 = ((m % 128 + 128 : Nat) : Int) := by
  have h : ∀ x : BitVec 8, (x ||| 128#8).toNat = x.toNat % 128 + 128 := by decide
  have e : IntKind.u8.wrap (m : Int) = ((m % 256 : Nat) : Int) := by
    simp only [IntKind.wrap, IntKind.bits, IntKind.signed]; simp
  have h2 := h (BitVec.ofInt 8 (IntKind.u8.wrap m))
  show IntKind.u8.wrap ((BitVec.ofInt 8 (IntKind.u8.wrap m) ||| 128#8).toNat : Int) = _
  rw [h2, e, BitVec.ofInt_natCast, BitVec.toNat_ofNat, u8w _ (by omega)]
  omega

theorem Wrote.trans {σ σ' σ'' : Nat → AObj} {nx nx' nx'' q j j' : Nat} {e e' : Int} {l l' : List Nat} (h : Wrote σ nx q j σ' nx' e l) (hw : Wr σ' nx' q j' e l) (hj : j' = j ∨ nx ≤ j') (k : Wrote σ' nx' q j' σ'' nx'' e' l') : Wrote σ nx q j σ'' nx'' e' l' := by
  refine ⟨Nat.le_trans h.le k.le, ?_, fun i h1 h2 h3 => ?_⟩
  · obtain ⟨x, h1, h2⟩ := k.wr
    refine ⟨x, h1, ?_⟩
    have := h.le
    rcases h2 with rfl | h2
    · exact hj
    · exact .inr (by omega)
  · have := h.le
    rw [k.old i (by omega) h2 (by omega), h.old i h1 h2 h3]

theorem Wr.app {σ : Nat → AObj} {nx q j : Nat} {e : Int} {l : List Nat} (h : Wr σ nx q j e l) (y : Nat) :
    Wr (oput (oput (oput σ j .dead) nx (.arr 1 (byt l ++ [[.v (.int .u8 y)]]))) q (.box [.ref nx, .i e])) (nx + 1) q nx e (l ++ [y]) ∧
    Wrote σ nx q j (oput (oput (oput σ j .dead) nx (.arr 1 (byt l ++ [[.v (.int .u8 y)]]))) q (.box [.ref nx, .i e])) (nx + 1) e (l ++ [y]) := by
  obtain ⟨b1, b2, b3, b4, b5⟩ := h
  have hw : Wr (oput (oput (oput σ j .dead) nx (.arr 1 (byt l ++ [[.v (.int .u8 y)]]))) q (.box [.ref nx, .i e])) (nx + 1) q nx e (l ++ [y]) :=
    ⟨by simp [oput], by have : nx ≠ q := by omega
                        simp [oput, this, byt], by omega, by omega, by omega⟩
  refine ⟨hw, by omega, ⟨nx, hw, .inr (Nat.le_refl _)⟩, fun i h1 h2 h3 => ?_⟩
  simp [oput, h2, h3, Nat.ne_of_lt h1]

theorem wide_spec {σ : Nat → AObj} {nx q j : Nat} {e : Int} {l : List Nat} (h : Wr σ nx q j e l) (n : Nat) (hn : n < 2 ^ 64) (hl : l.length + 10 ≤ mostLen) :
    CallQ P 41 [.ptr q 0, .u n] σ nx fun r σ' nx' => Wrote σ nx q j σ' nx' e (l ++ enc n) := by
  have hlen := enc_len64 hn
  refine spec_of Try.func41 rfl rfl (by simp [Try.f41]) fun B hn hnx hσ => ?_
  simp only [Try.f41] at hn ⊢
  refine K_scopeH (α := Nat × List Nat × Nat × (Nat → AObj) × Nat) (fun x => x.2.1 ++ enc x.1 = l ++ enc n ∧ x.1 ≤ n ∧ (x.2.2.1 = j ∨ nx ≤ x.2.2.1) ∧ Wrote σ nx q j x.2.2.2.1 x.2.2.2.2 e x.2.1 ∧ Wr x.2.2.2.1 x.2.2.2.2 q x.2.2.1 e x.2.1)
    (fun x => ⟨sl [(0, .ptr q 0), (1, .u x.1)], x.2.2.2.1, x.2.2.2.2⟩) (fun x => x.1) (n, l, j, σ, nx) ⟨rfl, Nat.le_refl _, .inl rfl, ⟨Nat.le_refl _, ⟨j, h, .inl rfl⟩, fun _ _ _ _ => rfl⟩, h⟩ (Imp.keep (by simp [go_sem])) ?_
  rintro ⟨m, l', j', σ', nx'⟩ ⟨h1, h2, h0, h3, h4⟩
  simp only at h1 h2 h3 h4 h0
  have hl : l'.length + 1 ≤ mostLen := by
    have h3 := congrArg List.length h1
    have h4 := enc_pos m
    simp at h3
    omega
  have b := h4
  obtain ⟨b1, b2, b3, b4, b5⟩ := b
  have n1 : q ≠ nx' := Nat.ne_of_lt b4
  have n2 := b3.symm
  refine K_run hn 60 ?_
  simp [go_sem]
  refine fork_dec (fun h => ?_) (fun h => ?_)
  · simp [go_sem, b1, b2, n1, n2, byt_all, byt_len, hl]
    rw [or128, Int.fdiv_eq_ediv_of_nonneg _ (by omega)]
    obtain ⟨g1, g2⟩ := h4.app (m % 128 + 128)
    refine Next.mk (m / 128, l' ++ [m % 128 + 128], nx', _, nx' + 1) ⟨?_, ?_, ?_, h3.trans h4 h0 g2, g1⟩ (Imp.same ?_ ?_ rfl) ?_
    · rw [← h1, enc_ge (n := m) (by omega)]; simp
    · simp only; omega
    · exact .inr h3.le
    · intro i
      simp only [sl_cons, sl_nil]
      split
      · subst_vars; exact .inr (by simp [go_sem])
      · split
        · subst_vars; exact .inr (by simp [go_sem])
        · exact .inl rfl
    · exact fun i => .inr rfl
    · simp only; omega
  · simp [go_sem, b1, b2, n1, n2, byt_all, byt_len, hl]
    simp (disch := omega) only [u8w]
    obtain ⟨g1, g2⟩ := h4.app m
    refine ⟨by have := h3.le; omega, ?_⟩
    rw [← h1, enc_lt (by omega)]
    exact h3.trans h4 h0 g2
end Go.Proofs.Ytibmjinfdcmbdaa
