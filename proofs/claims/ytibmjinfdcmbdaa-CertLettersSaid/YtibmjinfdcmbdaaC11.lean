/- A part of the proof: C11. -/
import Derived.Test.YtibmjinfdcmbdaaC10
set_option maxRecDepth 4000
namespace Go.Proofs.Ytibmjinfdcmbdaa
open Go Go.Proofs.Ytibmjinfdcmbdaa.R
theorem each_r {σ : Nat → AObj} {nx q : Nat} {l : List Nat} {e : Int} (h : σ q = rdB l e) (hq : q < nx) (hl : l.length < 2 ^ 62) (h8 : ∀ c ∈ l, c < 256) (g : FuncId) (caps : List AV)
    (J : Nat → (Nat → AObj) → Nat → Prop) (hJ0 : J 0 (oput σ q (rdB (cnt l e).2.1 (cnt l e).2.2)) nx) (hJr : ∀ k σ' nx', J k σ' nx' → nx ≤ nx' ∧ ∃ l' e', σ' q = rdB l' e')
    (hstep : ∀ k σ' nx' l', J k σ' nx' → σ' q = rdB l' 0 → k < (cnt l e).1 → CallQ P g caps σ' nx' fun _ σ'' nx'' => J (k + 1) σ'' nx'') :
    CallQ P 29 [.ptr q 0, .fn (.func g) [] caps] σ nx fun _ σ' nx' => ∃ k, J k σ' nx' ∧ (k = (cnt l e).1 ∨ (k < (cnt l e).1 ∧ ∃ l' e', σ' q = rdB l' e' ∧ e' ≠ 0)) := by
  obtain ⟨c1, c2, c3⟩ := cnt_keeps h8 e
  refine spec_of Try.func29 rfl rfl (by simp [Try.f29]) fun B hB hnx hσ => ?_
  simp only [Try.f29] at hB ⊢
  refine K_run hB 60 ?_
  simp [go_sem]
  refine K_call rfl rfl rfl (args := [.ptr q 0]) (f := 43) (by simp [go_sem]) (by simp [go_sem, hB]) (count_r h hq hl h8) ?_
  generalize cnt l e = c at *
  refine K_run hB 60 ?_
  simp [go_sem]
  refine K_loopP (α := Nat × (Nat → AObj) × Nat) (fun (k, σ', nx') => k ≤ c.1 ∧ J k σ' nx') (fun (k, σ', nx') => ⟨sl [(0, .ptr q 0), (1, .fn (.func g) [] caps), (4, .i ((c.1 : Int) - k))], σ', nx'⟩) (fun x => c.1 - x.1) (0, _, nx) ⟨Nat.zero_le _, hJ0⟩
    (Imp.slots (by simp [go_sem]) rfl rfl) ?_
  rintro ⟨k, σ', nx'⟩ ⟨h1, h2⟩
  obtain ⟨hn, l', e', hr⟩ := hJr _ _ _ h2
  by_cases hk : k = c.1
  · refine K_run hB 60 ?_
    simp [go_sem, hk]
    exact ⟨hn, k, h2, .inl hk⟩
  · have hk' : k < c.1 := by omega
    have hk2 : (0 : Int) < (c.1 : Int) - k := by omega
    by_cases he : e' = 0
    · subst he
      refine K_run hB 60 ?_
      simp [go_sem, hk2, hk', hr]
      refine K_callQ rfl rfl rfl (args := caps) (f := g) (by simp [go_sem]) (by simp [go_sem, hB]) (hstep k σ' nx' l' h2 hr hk') ?_
      intro r σ2 nx2 h3
      refine K_run hB 60 ?_
      simp [go_sem]
      refine Next.mk (k + 1, σ2, nx2) ⟨by omega, h3⟩ (Imp.slots (by
        simp [go_sem]
        rw [w64 _ (by omega)]
        omega) rfl rfl) (by simp only; omega)
    · refine K_run hB 60 ?_
      simp [go_sem, hk2, hk', hr, he]
      exact ⟨hn, k, h2, .inr ⟨hk', l', e', ⟨rfl, rfl⟩, he⟩⟩
end Go.Proofs.Ytibmjinfdcmbdaa
