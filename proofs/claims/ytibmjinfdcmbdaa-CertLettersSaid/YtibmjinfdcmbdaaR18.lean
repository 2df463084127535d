/- R18: a contract whose own objects fall away, the older ones but one as they were. -/
import Derived.Test.YtibmjinfdcmbdaaR17
namespace Go.Proofs.Ytibmjinfdcmbdaa.R
open Go.RowKit

section
variable {P : Program} {B : Base} {s : St}
/-- Named slots stay, objects stay or fall away. -/
theorem Imp.of {l : List (Nat × AV)} {σ' : Nat → AObj} {n : Nat} (hm : ∀ p ∈ l, s.m p.1 = p.2) (ho : ∀ i, σ' i = .dead ∨ σ' i = s.σ i) (hn : n = s.nx) : Imp B s ⟨sl l, σ', n⟩ :=
  (Imp.keep hm).trans (Imp.same (fun _ => .inr rfl) ho hn)
theorem K_imp {t : St} {all : Array Oper} {rest : List Oper} {k : List KI} {R : Post} (h : Imp B s t) (hk : Kp P B (.ops all rest :: k) R .normal t) : Kp P B (.ops all rest :: k) R .normal s :=
  fun a w hr => hk a w (h _ _ hr)
/-- What is known of any store at a call. -/
theorem CallQ.known {f : FuncId} {args : List AV} {σ : Nat → AObj} {nx : Nat} {S : AV → (Nat → AObj) → Nat → Prop} (hg : goodFn P f = true) (h : (∀ i, σ i = .dead ∨ (bndO nx (σ i) = true ∧ i < nx)) → CallQ P f args σ nx S) : CallQ P f args σ nx S := by
  refine ⟨hg, fun C w vs hs hn hl => (h fun i => ?_).2 C w vs hs hn hl⟩
  by_cases hd : σ i = .dead
  · exact .inl hd
  · refine .inr ⟨?_, ?_⟩
    · rw [← hn]; exact (hs.obj i).bnded
    · rw [← hn]; exact live_lt hs hd

/-- A row that is newer is in no older value. -/
theorem frz1_id {n q : Nat} {es : List (List T)} (hn : n ≤ q) : ∀ (a : AV), bnd n a = true → frz1 q es a = a
  | .ref i, h => by
    have : i < n := by simpa [bnd] using h
    simp only [frz1]
    rw [if_neg (by omega)]
  | .agg cs, h => by
    simp only [frz1]
    rw [list cs (by simpa [bnd] using h)]
  | .tup cs, h => by
    simp only [frz1]
    rw [list cs (by simpa [bnd] using h)]
  | .t _, _ => rfl
  | .fsl _, _ => rfl
  | .rd _, _ => rfl
  | .any, _ => rfl
  | .ptr _ _, _ => rfl
  | .el _ _, _ => rfl
  | .mapr _, _ => rfl
  | .fn _ _ _, _ => rfl
  where
  list : ∀ (cs : List AV), bnd.bndL n cs = true → frz1.frzL q es cs = cs
  | [], _ => rfl
  | c :: cs, h => by
    simp only [bnd.bndL, Bool.and_eq_true] at h
    simp only [frz1.frzL]
    rw [frz1_id hn c h.1, list cs h.2]
theorem frzO_id {n q : Nat} {es : List (List T)} (hn : n ≤ q) (o : AObj) (h : bndO n o = true) : frzO q es o = o := by
  cases o with
  | box cs =>
    simp only [frzO]
    rw [frz1_id.list hn cs]
    simp only [bndO, List.all_eq_true] at h
    exact bndL_of fun k a hk => h a (List.mem_of_getElem? hk)
  | _ => rfl

/-- All but one of the older objects are as they were, the newer ones fall away. -/
theorem spec_down {f : FuncId} {fn : Func} {c : Code} (hf : P.funcs[f]? = some fn) (hb : fn.body = some c) (hname : (fn.name == "runtime.NumGoroutine") = false) {args : List AV} {σ : Nat → AObj} {nx q : Nat} {o : AObj} {r : AV} (hn : args.length ≤ fn.ntmps)
    (hq : q < nx) (ho : bndO nx o = true) (hr : bnd nx r = true)
    (h : (∀ i, σ i = .dead ∨ (bndO nx (σ i) = true ∧ i < nx)) → ∀ B : Base, B.n = fn.ntmps → B.C.nx = nx → B.σ = σ → Kp P B [.code c] (fun e s => (e = .ret ∨ e = .normal) ∧ nx ≤ s.nx ∧ s.σ q = o ∧ (∀ i, i < nx → i ≠ q → s.σ i = σ i) ∧ ∃ rs, resL P s fn.results.toList = some rs ∧ resV rs = r) .normal ⟨slots0 args, σ, nx⟩) :
    CallSpec P f args σ nx r (oput σ q o) nx := by
  refine CallQ.spec (CallQ.known (by simp [goodFn, hf, hb, hname]) fun hk => ?_)
  refine CallSpec.q (spec_of_K hf hb hname hn fun B h1 h2 h3 => ?_)
  refine fun a w hrel => wp_mono (h hk B h1 h2 h3 a w hrel) fun e a' w' hp => ?_
  obtain ⟨s', ⟨he, g1, g2, g3, rs, g4, g5⟩, h5⟩ := hp
  have hend : Ends nx s' (resV rs) (oput σ q o) nx r := by
    refine ⟨fun i => ?_, g1, Nat.le_refl _, .inl g5.symm, .inr hr⟩
    by_cases hi : i = q
    · subst hi
      refine .inr ⟨by simp [oput, g2], .inr ⟨by simp [oput, ho], hq⟩⟩
    · have e1 : oput σ q o i = σ i := by simp [oput, hi]
      rw [e1]
      rcases hk i with e | ⟨e, e2⟩
      · exact .inl e
      · exact .inr ⟨(g3 i e2 hi).symm, .inr ⟨e, e2⟩⟩
  refine ⟨s', ?_, h5⟩
  rcases he with rfl | rfl
  · exact ⟨rs, g4, hend⟩
  · exact ⟨rs, g4, hend⟩
end
end Go.Proofs.Ytibmjinfdcmbdaa.R
