/- R15: a row that is owned becomes a tree in mid-run. -/
import Derived.Test.YtibmjinfdcmbdaaR14
namespace Go.Proofs.Ytibmjinfdcmbdaa.R
open Go.RowKit

def frz1 (q : Nat) (es : List (List T)) : AV → AV
  | .ref i => if i = q then .t (.sl es) else .ref i
  | .agg cs => .agg (frzL q es cs)
  | .tup cs => .tup (frzL q es cs)
  | a => a
  where
  frzL (q : Nat) (es : List (List T)) : List AV → List AV
  | [] => []
  | c :: cs => frz1 q es c :: frzL q es cs
def frzO (q : Nat) (es : List (List T)) : AObj → AObj
  | .box cs => .box (frz1.frzL q es cs)
  | o => o

section
variable {P : Program} {B : Base} {k : List KI} {R : Post} {s : St}
theorem frz1L_get {q : Nat} {es : List (List T)} : ∀ {cs : List AV} {k : Nat} {a : AV}, (frz1.frzL q es cs)[k]? = some a → ∃ b, cs[k]? = some b ∧ a = frz1 q es b
  | [], k, a, h => by simp [frz1.frzL] at h
  | c :: cs, k, a, h => by
    cases k with
    | zero => simp [frz1.frzL] at h; exact ⟨c, rfl, h.symm⟩
    | succ k =>
      simp only [frz1.frzL, List.getElem?_cons_succ] at h
      obtain ⟨b, h1, h2⟩ := frz1L_get h
      exact ⟨b, by simpa using h1, h2⟩
theorem frz1L_length {q : Nat} {es : List (List T)} : ∀ (cs : List AV), (frz1.frzL q es cs).length = cs.length
  | [] => rfl
  | c :: cs => by simp only [frz1.frzL, List.length_cons, frz1L_length cs]

theorem frz1_rep {w : World} {C C' : Ctx} {σ : Nat → AObj} {q sz : Nat} {es : List (List T)} (hs : Sim C σ w) (hq : σ q = .arr sz es) (hC : C' = { C with imm := fun b => C.imm b ∨ C.own q = some b }) {x : AV} {v : Value} (h : RepA w C x v) : RepA w C' (frz1 q es x) v := by
  have hi : ∀ b, C'.imm b ↔ (C.imm b ∨ C.own q = some b) := fun b => by rw [hC]
  have hk : Keeps w C.imm w C'.imm := ⟨fun b hb => (hi b).2 (.inl hb), fun _ _ => rfl⟩
  have hc : CtxLe C C' := by subst hC; exact ⟨Nat.le_refl _, fun _ _ => rfl, fun _ _ => rfl⟩
  induction h with
  | t h => exact (RepA.t h).keeps hk hc
  | agg hl _ ih =>
    simp only [frz1]
    refine .agg (by rw [frz1L_length]; exact hl) fun k a u ha hu => ?_
    obtain ⟨b, h1, rfl⟩ := frz1L_get ha
    exact ih k b u h1 hu
  | tup hl _ ih =>
    simp only [frz1]
    refine .tup (by rw [frz1L_length]; exact hl) fun k a u ha hu => ?_
    obtain ⟨b, h1, rfl⟩ := frz1L_get ha
    exact ih k b u h1 hu
  | fsl h => exact (RepA.fsl h).keeps hk hc
  | @ref i n c a h1 h2 =>
    simp only [frz1]
    split
    · rename_i e
      subst e
      have hob := hs.obj i
      rw [hq] at hob
      obtain ⟨e1, e2, e3⟩ := arr_elems hob h2
      subst e1
      refine .t ?_
      rcases Nat.eq_zero_or_pos es.length with h0 | h0
      · have : es = [] := List.eq_nil_of_length_eq_zero h0
        subst this
        exact .nil
      · obtain ⟨ad, rfl, hcell⟩ := e3.2 h0
        have hown : C.own i = some ad.block := by
          obtain ⟨_, ⟨e0, _⟩ | ⟨bl, cap, vs, E, lo, hi', ho1, ho2, _⟩⟩ := hob
          · subst e0; simp at h0
          · rw [h2] at ho2; cases ho2; exact ho1
        have hx : ∀ m, m < es.length * sz → ∃ u, w.cell? (ad.add m) = some u := by
          intro m hm
          obtain ⟨e, he, _, hmod, e1⟩ := flat_ix e3.1 hm
          have hel := e3.1 e (List.mem_of_getElem? he)
          obtain ⟨u, g1, _⟩ := hcell (m / sz) (m % sz) e _ he (List.getElem?_eq_getElem (by omega))
          rw [← e1] at g1
          exact ⟨u, g1⟩
        refine .sl (u := fun m => (w.cell? (ad.add m)).getD undef) h0 e3.1 e2 ((hi _).2 (.inr hown)) (fun m hm => ?_) (fun j m e ct he hct => ?_)
        · obtain ⟨u, hu⟩ := hx m hm
          rw [hu]; rfl
        · obtain ⟨u, g1, g2⟩ := hcell j m e ct he hct
          show RepT w C'.imm ct ((w.cell? (ad.add (j * sz + m))).getD undef)
          rw [g1]
          exact g2.keeps hk
    · exact (RepA.ref h1 h2).keeps hk hc
  | ptr h1 h2 => exact (RepA.ptr h1 h2).keeps hk hc
  | rd h1 h2 h3 => exact (RepA.rd h1 h2 h3).keeps hk hc
  | el h1 h2 h3 => exact (RepA.el h1 h2 h3).keeps hk hc
  | mapr h1 h2 => exact (RepA.mapr h1 h2).keeps hk hc
  | fn h1 h2 h3 h4 _ _ => exact (RepA.fn h1 h2 h3 h4).keeps hk hc
  | any => exact .any

/-- A row that is owned is not written any more. -/
theorem Imp.freeze {q sz : Nat} {es : List (List T)} (hq : s.σ q = .arr sz es) : Imp B s ⟨fun i => frz1 q es (s.m i), fun j => if j = q then .dead else frzO q es (s.σ j), s.nx⟩ := by
  intro a w hr
  obtain ⟨C, h1, h2, h3, h4, h5, h6⟩ := hr
  obtain ⟨C', hC⟩ : ∃ C' : Ctx, C' = { C with imm := fun b => C.imm b ∨ C.own q = some b } := ⟨_, rfl⟩
  obtain ⟨g1, g2⟩ := sim_freeze h5 q (by rw [hq]; exact (fun h => by cases h)) C' hC
  have hd : ∀ j, (if j = q then AObj.dead else frzO q es (s.σ j)) = .dead ↔ (if j = q then AObj.dead else s.σ j) = .dead := by
    intro j
    by_cases e : j = q
    · simp [e]
    · simp only [if_neg e]
      cases s.σ j <;> simp [frzO]
  have hg : Sim C' (fun j => if j = q then .dead else frzO q es (s.σ j)) w := by
    refine ⟨fun i hi => (hd i).2 (g1.dead i hi), fun i => ?_, fun i j b hi hj => g1.inj i j b (fun e => hi ((hd i).2 e)) (fun e => hj ((hd j).2 e)), fun i b hi => g1.sep i b (fun e => hi ((hd i).2 e)), g1.imm_lt⟩
    have ho := g1.obj i
    by_cases e : i = q
    · simp only [if_pos e]; exact True.intro
    · simp only [if_neg e] at ho ⊢
      have ho' := h5.obj i
      cases hσ : s.σ i with
      | box cs =>
        rw [hσ] at ho ho'
        obtain ⟨bl, vs, E, e1, e2, e3, e4⟩ := ho'
        refine ⟨bl, vs, E, by rw [hC]; exact e1, e2, by rw [frz1L_length]; exact e3, fun k a u ha hu => ?_⟩
        obtain ⟨b, hb, rfl⟩ := frz1L_get ha
        exact frz1_rep h5 hq hC (e4 k b u hb hu)
      | _ => rw [hσ] at ho; exact ho
  refine ⟨C', by rw [hC]; exact h1, fun i => frz1_rep h5 hq hC (h2 i), h3, h4, hg, h6.trans ⟨g2.le, g2.os, g2.tape, g2.output, g2.size, g2.imm, g2.same, fun b ⟨i, hi, hb⟩ => g2.wr b ⟨i, fun e => hi ((hd i).2 e), hb⟩, g2.imm'⟩⟩

/-- A nil slice in a box begins to be owned. -/
theorem Imp.ownB {b off sz : Nat} {cs : List AV} (hb : s.σ b = .box cs) (hc : cs[off]? = some (.fsl [])) :
    Imp B s ⟨s.m, oput (oput s.σ b (.box (cs.set off (.ref s.nx)))) s.nx (.arr sz []), s.nx + 1⟩ := by
  intro a w hr
  obtain ⟨C, h1, h2, h3, h4, h5, h6⟩ := hr
  have hob := h5.obj b
  rw [hb] at hob
  obtain ⟨bl, vs, E, e1, e2, e3, e4⟩ := hob
  have hlt : off < vs.size := by have := (List.getElem?_eq_some_iff.1 hc).1; omega
  have hrep := e4 off _ vs[off] hc (Array.getElem?_eq_getElem hlt)
  obtain ⟨ad, hv⟩ : ∃ ad, vs[off] = .slice ad 0 0 := by
    generalize vs[off] = u at hrep
    cases hrep with
    | fsl h => exact ⟨_, rfl⟩
  have hbl : b < C.nx := live_lt h5 (by rw [hb]; exact (fun h => by cases h))
  obtain ⟨C', hC⟩ : ∃ C' : Ctx, C' = ⟨C.imm, fun i => if i = C.nx then none else C.own i, fun i => if i = C.nx then .slice ad 0 0 else C.hdr i, C.nx + 1⟩ := ⟨_, rfl⟩
  obtain ⟨g1, g2⟩ := sim_new0 h5 (.arr sz []) (.slice ad 0 0) C' hC ⟨fun e he => (by cases he), .inl ⟨rfl, by rw [hC]; simp, ad, by rw [hC]; simp⟩⟩
  have hd : ∀ j, oput (oput s.σ b (.box (cs.set off (.ref s.nx)))) s.nx (.arr sz []) j = .dead ↔ (if j = C.nx then AObj.arr sz [] else s.σ j) = .dead := by
    intro j
    simp only [oput, h1]
    split
    · simp
    · split
      · rename_i e; subst e; simp [hb]
      · rfl
  have hg : Sim C' (oput (oput s.σ b (.box (cs.set off (.ref s.nx)))) s.nx (.arr sz [])) w := by
    refine ⟨fun i hi => (hd i).2 (g1.dead i hi), fun i => ?_, fun i j b hi hj => g1.inj i j b (fun e => hi ((hd i).2 e)) (fun e => hj ((hd j).2 e)), fun i b hi => g1.sep i b (fun e => hi ((hd i).2 e)), g1.imm_lt⟩
    have ho := g1.obj i
    simp only [oput, ← h1] at ho ⊢
    by_cases e : i = C.nx
    · simp only [if_pos e] at ho ⊢; exact ho
    · simp only [if_neg e] at ho ⊢
      by_cases eb : i = b
      · subst eb
        simp only [if_true]
        refine ⟨bl, vs, E, by rw [hC]; simp [e, e1], e2, by simpa using e3, fun k x u hx hu => ?_⟩
        by_cases ek : k = off
        · subst ek
          rw [List.getElem?_set_self (by omega)] at hx
          cases hx
          rw [Array.getElem?_eq_getElem hlt, hv] at hu
          cases hu
          exact .ref (by rw [hC]; exact Nat.lt_succ_self _) (by rw [hC]; simp)
        · rw [List.getElem?_set_ne (fun h => ek h.symm)] at hx
          exact (e4 k x u hx hu).step h5 g2
      · simp only [if_neg eb]; exact ho
  refine ⟨C', by rw [hC, h1], fun i => (h2 i).step h5 g2, h3, h4, hg, h6.trans ⟨g2.le, g2.os, g2.tape, g2.output, g2.size, g2.imm, g2.same, fun x ⟨i, hi, hx⟩ => g2.wr x ⟨i, fun e => hi ((hd i).2 e), hx⟩, g2.imm'⟩⟩
end
end Go.Proofs.Ytibmjinfdcmbdaa.R
