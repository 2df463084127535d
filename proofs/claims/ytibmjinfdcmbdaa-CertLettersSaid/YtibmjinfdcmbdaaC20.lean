/- Rows that are read one by one, each into a row that is owned. -/
import Derived.Test.YtibmjinfdcmbdaaC19
set_option maxRecDepth 4000
namespace Go.Proofs.Ytibmjinfdcmbdaa
open Go Go.Proofs.Ytibmjinfdcmbdaa.R
/-- Where a row stands that is read into: the reader q, the box x whose last cell is the row j, the box rr of the reader's pointer. -/
structure Row (q x rr : Nat) (pre : List AV) (sz : Nat) (σ : Nat → AObj) (nx j : Nat) (l : List Nat) (e : Int) (rows : List (List T)) : Prop where
  fq : σ q = rdB l e
  fx : σ x = .box (pre ++ [.ref j])
  fj : σ j = .arr sz rows
  fr : σ rr = .box [.ptr q 0]
  ql : q < nx
  xl : x < nx
  jl : j < nx
  rl : rr < nx
/-- What has become of it: all that is older is as it was. -/
structure Filled (q x rr : Nat) (pre : List AV) (sz : Nat) (σ : Nat → AObj) (nx j : Nat) (l : List Nat) (e : Int) (rows : List (List T)) (σ' : Nat → AObj) (nx' : Nat) : Prop where
  le : nx ≤ nx'
  row : ∃ j', Row q x rr pre sz σ' nx' j' l e rows ∧ (j' = j ∨ nx ≤ j')
  old : ∀ i, i < nx → i ≠ q → i ≠ x → i ≠ j → σ' i = σ i
section
variable {q x rr : Nat} {pre : List AV} {sz : Nat} {σ : Nat → AObj} {nx j : Nat} {l : List Nat} {e : Int} {rows : List (List T)}
theorem Row.qx (h : Row q x rr pre sz σ nx j l e rows) : q ≠ x := by
  rintro rfl
  have h1 := h.fq.symm.trans h.fx
  simp only [AObj.box.injEq] at h1
  have h2 := congrArg List.reverse h1
  simp at h2
theorem Row.qj (h : Row q x rr pre sz σ nx j l e rows) : q ≠ j := by
  rintro rfl
  have h1 := h.fq.symm.trans h.fj
  cases h1
theorem Row.qr (h : Row q x rr pre sz σ nx j l e rows) : q ≠ rr := by
  rintro rfl
  have h1 := h.fq.symm.trans h.fr
  simp at h1
theorem Row.xj (h : Row q x rr pre sz σ nx j l e rows) : x ≠ j := by
  rintro rfl
  have h1 := h.fx.symm.trans h.fj
  cases h1
theorem Row.xr (h : Row q x rr pre sz σ nx j l e rows) : x ≠ rr := by
  rintro rfl
  have h1 := h.fx.symm.trans h.fr
  simp only [AObj.box.injEq] at h1
  have h2 := congrArg List.reverse h1
  simp at h2
theorem Row.rj (h : Row q x rr pre sz σ nx j l e rows) : rr ≠ j := by
  rintro rfl
  have h1 := h.fr.symm.trans h.fj
  cases h1
theorem Row.filled (h : Row q x rr pre sz σ nx j l e rows) : Filled q x rr pre sz σ nx j l e rows σ nx := ⟨Nat.le_refl _, ⟨j, h, .inl rfl⟩, fun _ _ _ _ _ => rfl⟩
theorem Row.rd (h : Row q x rr pre sz σ nx j l e rows) (l' : List Nat) (e' : Int) : Row q x rr pre sz (oput σ q (rdB l' e')) nx j l' e' rows :=
  ⟨by simp [oput], by simp [oput, Ne.symm h.qx, h.fx], by simp [oput, Ne.symm h.qj, h.fj], by simp [oput, Ne.symm h.qr, h.fr], h.ql, h.xl, h.jl, h.rl⟩
theorem Row.read (h : Row q x rr pre sz σ nx j l e rows) (l' : List Nat) (e' : Int) : Filled q x rr pre sz σ nx j l' e' rows (oput σ q (rdB l' e')) nx :=
  ⟨Nat.le_refl _, ⟨j, h.rd l' e', .inl rfl⟩, fun i _ hq _ _ => by simp [oput, hq]⟩
theorem Filled.trans {σ' σ'' : Nat → AObj} {nx' nx'' j' : Nat} {l' l'' : List Nat} {e' e'' : Int} {rows' rows'' : List (List T)} (h : Filled q x rr pre sz σ nx j l' e' rows' σ' nx') (hr : j' = j ∨ nx ≤ j') (g : Filled q x rr pre sz σ' nx' j' l'' e'' rows'' σ'' nx'') :
    Filled q x rr pre sz σ nx j l'' e'' rows'' σ'' nx'' := by
  have h1 := h.le
  have h2 := g.le
  obtain ⟨j2, g1, g2⟩ := g.row
  refine ⟨by omega, ⟨j2, g1, ?_⟩, fun i a b c d => by rw [g.old i (by omega) b c (by omega), h.old i a b c d]⟩
  rcases g2 with rfl | g2
  · exact hr
  · exact .inr (by omega)
/-- One more item: the row moves on. -/
theorem Row.app (h : Row q x rr pre sz σ nx j l e rows) (y : List T) :
    Filled q x rr pre sz σ nx j l e (rows ++ [y]) (oput (oput (oput σ j .dead) nx (.arr sz (rows ++ [y]))) x (.box (pre ++ [.ref nx]))) (nx + 1) := by
  have h1 := h.ql; have h2 := h.xl; have h3 := h.jl; have h4 := h.rl
  refine ⟨by omega, ⟨nx, ⟨?_, by simp [oput], ?_, ?_, by omega, by omega, by omega, by omega⟩, .inr (Nat.le_refl _)⟩, fun i a b c d => by simp [oput, c, d, Nat.ne_of_lt a]⟩
  · simp [oput, h.qx, h.qj, Nat.ne_of_lt h1, h.fq]
  · simp [oput, Ne.symm (Nat.ne_of_lt h2)]
  · simp [oput, Ne.symm h.xr, h.rj, Nat.ne_of_lt h4, h.fr]
end

theorem each_rows {α : Type} (rd : Rd α) (f : α → List T) {g : FuncId} {caps : List AV} {q x rr : Nat} {pre : List AV} {sz : Nat} {σ : Nat → AObj} {nx j : Nat} {l : List Nat} {e : Int}
    (h : Row q x rr pre sz σ nx j l e []) (hl : l.length < 2 ^ 62) (h8 : Bytes l)
    (hrd : ∀ l', Bytes l' → Bytes (rd l' 0).2.1 ∧ (rd l' 0).2.1.length ≤ l'.length)
    (hstep : ∀ (σ' : Nat → AObj) (nx' j' : Nat) (l' : List Nat) (rows : List (List T)), Row q x rr pre sz σ' nx' j' l' 0 rows → rows.length < 1048576 → l'.length < 2 ^ 62 → Bytes l' → (∀ y ∈ rows, ∃ a, y = f a) →
      CallQ P g caps σ' nx' fun _ σ'' nx'' => Filled q x rr pre sz σ' nx' j' (rd l' 0).2.1 (rd l' 0).2.2 (rows ++ [f (rd l' 0).1]) σ'' nx'') :
    CallQ P 29 [.ptr q 0, .fn (.func g) [] caps] σ nx fun _ σ' nx' => Filled q x rr pre sz σ nx j (eachR rd l e).2.1 (eachR rd l e).2.2 ((eachR rd l e).1.map f) σ' nx' := by
  obtain ⟨c1, c2, c3⟩ := cnt_keeps h8 e
  have key := each_r h.fq h.ql hl h8 g caps (fun k σ' nx' => ∃ zs l' e', rep rd k (cnt l e).2.1 (cnt l e).2.2 = (zs, l', e') ∧ zs.length = k ∧ Bytes l' ∧ l'.length ≤ l.length ∧ Filled q x rr pre sz σ nx j l' e' (zs.map f) σ' nx')
    ⟨[], _, _, rfl, rfl, c3, c2, h.read _ _⟩ (fun k σ' nx' ⟨zs, l', e', _, _, _, _, g5⟩ => ⟨g5.le, by
      obtain ⟨j', r, _⟩ := g5.row
      exact ⟨l', e', r.fq⟩⟩) (fun k σ' nx' l0 ⟨zs, l', e', g1, g2, g3, g4, g5⟩ hq hk => by
      obtain ⟨j', r, hj⟩ := g5.row
      have e1 := r.fq.symm.trans hq
      simp only [rdB, AObj.box.injEq, List.cons.injEq, AV.t.injEq, T.v.injEq, Value.int.injEq, true_and, and_true] at e1
      obtain ⟨_, rfl⟩ := e1
      have hlen : (zs.map f).length < 1048576 := by rw [List.length_map]; omega
      refine (hstep σ' nx' j' l' (zs.map f) r hlen (by omega) g3 (fun y hy => ?_)).mono fun _ σ'' nx'' F => ?_
      · obtain ⟨a, _, rfl⟩ := List.mem_map.1 hy
        exact ⟨a, rfl⟩
      · obtain ⟨b1, b2⟩ := hrd l' g3
        refine ⟨zs ++ [(rd l' 0).1], _, _, rep_step g1 g2, by simp [g2], b1, Nat.le_trans b2 g4, ?_⟩
        have := g5.trans hj F
        rw [List.map_append]
        exact this)
  refine key.mono fun _ σ' nx' ⟨k, ⟨zs, l', e', g1, g2, g3, g4, g5⟩, hor⟩ => ?_
  have hk : rep rd (cnt l e).1 (cnt l e).2.1 (cnt l e).2.2 = (zs, l', e') := by
    rcases hor with rfl | ⟨hk, l2, e2, hq, he⟩
    · exact g1
    · obtain ⟨j', r, hj⟩ := g5.row
      have e1 := r.fq.symm.trans hq
      simp only [rdB, AObj.box.injEq, List.cons.injEq, AV.t.injEq, T.v.injEq, Value.int.injEq, true_and, and_true] at e1
      refine rep_stop g1 g2 (by omega) (.inr (by rw [e1.2]; exact he))
  show Filled q x rr pre sz σ nx j (rep rd _ _ _).2.1 (rep rd _ _ _).2.2 ((rep rd _ _ _).1.map f) σ' nx'
  rw [hk]
  exact g5
end Go.Proofs.Ytibmjinfdcmbdaa
