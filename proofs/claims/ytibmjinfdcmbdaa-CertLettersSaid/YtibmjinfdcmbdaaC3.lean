/- A part of the proof: C3. -/
import Derived.Test.YtibmjinfdcmbdaaC2
set_option maxRecDepth 4000
namespace Go.Proofs.Ytibmjinfdcmbdaa
open Go Go.Proofs.Ytibmjinfdcmbdaa.R
def un (n : Int) : Nat := (n % 18446744073709551616).toNat
theorem un_wrap (n : Int) : IntKind.u64.wrap n = (un n : Nat) := by
  simp only [IntKind.wrap, IntKind.bits, IntKind.signed, un]; simp; omega
theorem un_lt (n : Int) : un n < 2 ^ 64 := by unfold un; omega
def err1 (e n : Int) : Int := if n < 0 ∧ e = 0 then 1 else e
def encI (ns : List Int) : List Nat := ns.flatMap fun n => enc (un n)
theorem encI_app (a b : List Int) : encI (a ++ b) = encI a ++ encI b := by simp [encI]
theorem encI_len (ns : List Int) : (encI ns).length ≤ 10 * ns.length := by
  induction ns with
  | nil => simp [encI]
  | cons n ns ih =>
    have h := enc_len64 (un_lt n)
    have e : encI (n :: ns) = enc (un n) ++ encI ns := by simp [encI]
    rw [e, List.length_append, List.length_cons]
    omega
theorem Wrote.refl {σ : Nat → AObj} {nx q j : Nat} {e : Int} {l : List Nat} (h : Wr σ nx q j e l) : Wrote σ nx q j σ nx e l := ⟨Nat.le_refl _, ⟨j, h, .inl rfl⟩, fun _ _ _ _ => rfl⟩
theorem Wr.err {σ : Nat → AObj} {nx q j : Nat} {e : Int} {l : List Nat} (h : Wr σ nx q j e l) (e' : Int) :
    Wr (oput σ q (.box [.ref j, .i e'])) nx q j e' l ∧ Wrote σ nx q j (oput σ q (.box [.ref j, .i e'])) nx e' l := by
  obtain ⟨b1, b2, b3, b4, b5⟩ := h
  have hw : Wr (oput σ q (.box [.ref j, .i e'])) nx q j e' l := ⟨by simp [oput], by simp [oput, b3, b2], b3, b4, b5⟩
  exact ⟨hw, Nat.le_refl _, ⟨j, hw, .inl rfl⟩, fun i _ h2 _ => by simp [oput, h2]⟩

theorem plain_spec {σ : Nat → AObj} {nx q j : Nat} {e : Int} {l : List Nat} (h : Wr σ nx q j e l) (ns : List Int) (hl : l.length + 10 * ns.length + 10 ≤ mostLen) :
    CallQ P 20 [.ptr q 0, .fsl (ints ns)] σ nx fun r σ' nx' => Wrote σ nx q j σ' nx' (ns.foldl err1 e) (l ++ encI ns) := by
  refine spec_of Try.func20 rfl rfl (by simp [Try.f20]) fun B hn hnx hσ => ?_
  simp only [Try.f20] at hn ⊢
  refine K_run hn 60 ?_
  simp [go_sem]
  refine K_loopP (α := Nat × Nat × (Nat → AObj) × Nat × List Nat) (fun x => x.1 ≤ ns.length ∧ x.2.2.2.2 = l ++ encI (ns.take x.1) ∧ (x.2.1 = j ∨ nx ≤ x.2.1) ∧ Wrote σ nx q j x.2.2.1 x.2.2.2.1 ((ns.take x.1).foldl err1 e) x.2.2.2.2 ∧ Wr x.2.2.1 x.2.2.2.1 q x.2.1 ((ns.take x.1).foldl err1 e) x.2.2.2.2)
    (fun x => ⟨sl [(0, .ptr q 0), (6, .fsl (ints ns)), (7, .i ns.length), (8, .i x.1)], x.2.2.1, x.2.2.2.1⟩) (fun x => ns.length - x.1) (0, j, σ, nx, l) ⟨Nat.zero_le _, by simp [encI], .inl rfl, Wrote.refl h, h⟩ (Imp.keep (by simp [go_sem, ints])) ?_
  rintro ⟨k, j', σ', nx', l'⟩ ⟨h1, h2, h0, h3, h4⟩
  simp only at h1 h2 h3 h4 h0
  generalize he' : (ns.take k).foldl err1 e = e' at h3 h4
  have b := h4
  obtain ⟨b1, b2, b3, b4, b5⟩ := b
  refine K_run hn 60 ?_
  simp [go_sem]
  refine fork_dec (fun h => ?_) (fun h => ?_)
  · have hcase : ∃ σ1, Wr σ1 nx' q j' (err1 e' ns[k]) l' ∧ Wrote σ' nx' q j' σ1 nx' (err1 e' ns[k]) l' ∧ σ1 = (if ns[k] < 0 ∧ e' = 0 then oput σ' q (.box [.ref j', .i 1]) else σ') := by
      by_cases hc : ns[k] < 0 ∧ e' = 0
      · exact ⟨_, by simp only [err1, if_pos hc]; exact (h4.err 1).1, by simp only [err1, if_pos hc]; exact (h4.err 1).2, by rw [if_pos hc]⟩
      · exact ⟨_, by simp only [err1, if_neg hc]; exact h4, by simp only [err1, if_neg hc]; exact Wrote.refl h4, by rw [if_neg hc]⟩
    obtain ⟨σ1, g1, g2, g3⟩ := hcase
    by_cases hneg : ns[k] < 0 <;> by_cases he0 : e' = 0 <;> simp [hneg, he0] at g3 <;> subst g3 <;> simp [go_sem, b1, ints, h, hneg, he0]
    all_goals
      have hlen : l'.length + 10 ≤ mostLen := by
        have h5 := encI_len (ns.take k)
        have h6 := congrArg List.length h2
        simp only [List.length_append, List.length_take] at h5 h6
        omega
      refine K_callQ rfl rfl rfl (args := [.ptr q 0, .u (un ns[k])]) (f := 41) (by simp [go_sem, un_wrap]) (by simp [go_sem, hn]) (wide_spec g1 _ (un_lt _) hlen) ?_
      intro r σ2 nx2 g
      obtain ⟨j2, w2, hj2⟩ := g.wr
      refine K_run hn 20 ?_
      simp [go_sem]
      have e1 : (ns.take (k + 1)).foldl err1 e = err1 e' ns[k] := by rw [List.take_succ_eq_append_getElem h, List.foldl_append, he']; rfl
      refine Next.mk (k + 1, j2, σ2, nx2, l' ++ enc (un ns[k])) ⟨by simp only; omega, ?_, ?_, ?_, by simp only [e1]; exact w2⟩ (Imp.slots ?_ rfl rfl) (by simp only; omega)
      · simp only [h2]
        rw [List.take_succ_eq_append_getElem h, encI_app]
        simp [encI]
      · have := h3.le
        rcases hj2 with rfl | hj2
        · exact h0
        · exact .inr (by simp only; omega)
      · simp only [e1]
        have g5 := h3.trans h4 h0 (g2.trans g1 (.inl rfl) g)
        exact g5
      · have hm : mostLen = 4294967296 := rfl
        simp [go_sem]
        rw [w64 _ (by omega)]
  · simp [go_sem]
    refine ⟨h3.le, ?_⟩
    have hk : k = ns.length := by omega
    subst hk
    rw [List.take_length] at he' h2
    rw [he', ← h2]
    exact h3
end Go.Proofs.Ytibmjinfdcmbdaa
