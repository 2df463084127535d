/- R17: an argument, as the statement reads it, is a tree. -/
import Derived.Test.YtibmjinfdcmbdaaR16
namespace Go.Proofs.Ytibmjinfdcmbdaa.R
open Go.RowKit

/-- Fields, one behind the other. -/
def HasF (P : Program) (H : TypeId → List T → Prop) : List Field → List T → Prop
  | [], ts => ts = []
  | fd :: r, ts => ∃ a b, ts = a ++ b ∧ a.length = P.cellsOf fd.type ∧ H fd.type a ∧ HasF P H r b
/-- Trees of a type. -/
def HasT (P : Program) : Nat → TypeId → List T → Prop
  | 0, _, _ => False
  | f + 1, t, ts => match P.underlying t with
    | some .bool => ∃ b, ts = [.v (.bool b)]
    | some (.int k) => ∃ n, ts = [.v (.int k n)] ∧ (Lit.int k n).wf = true
    | some .string => ∃ s, ts = [.v (.string s)]
    | some (.slice e) => ∃ es, ts = [.sl es] ∧ es.length ≤ maxLen ∧ ∀ x ∈ es, x.length = P.cellsOf e ∧ HasT P f e x
    | some (.struct fs) => HasF P (fun t ts => HasT P f t ts) fs.toList ts
    | _ => False
/-- The fields lie one behind the other. -/
def tiles (P : Program) : Nat → List Field → Option Nat
  | o, [] => some o
  | o, fd :: r => if fd.offset = o then tiles P (o + P.cellsOf fd.type) r else none
/-- Types that are read so. -/
def plainT (P : Program) : Nat → TypeId → Bool
  | 0, _ => false
  | f + 1, t => match P.underlying t with
    | some .bool | some (.int _) | some .string => true
    | some (.slice e) => plainT P f e && decide (0 < P.cellsOf e)
    | some (.struct fs) => tiles P 0 fs.toList == some (P.cellsOf t) && fs.toList.all fun fd => plainT P f fd.type
    | _ => false

section
variable {P : Program} {w : World} {H : Type} {enc : TypeId × Value → H} {spare : Nat → Bool} {held : Bool}
abbrev old (w : World) : Nat → Prop := fun b => b < w.heap.size

theorem cells_get {base : Nat} {a : Addr} : ∀ {n : Nat} {l : List Value}, w.cells? base a n = some l → l.length = n ∧ ∀ k u, l[k]? = some u → w.cell? (a.add k) = some u := by
  intro n l h
  unfold World.cells? at h
  split at h
  · have key : ∀ (ks : List Nat) (l : List Value), (ks.mapM fun i => w.cell? (a.add i)) = some l → l.length = ks.length ∧ ∀ (k : Nat) (u : Value), l[k]? = some u → ∃ i, ks[k]? = some i ∧ w.cell? (a.add i) = some u := by
      intro ks
      induction ks with
      | nil => intro l h; simp at h; subst h; exact ⟨rfl, fun k u h => by simp at h⟩
      | cons i ks ih =>
        intro l h
        simp only [List.mapM_cons, Option.bind_eq_bind, Option.bind_eq_some_iff, Option.pure_def, Option.some.injEq] at h
        obtain ⟨x, hx, xs, hxs, rfl⟩ := h
        obtain ⟨g1, g2⟩ := ih xs hxs
        refine ⟨by simp [g1], fun k u hk => ?_⟩
        cases k with
        | zero => simp at hk; subst hk; exact ⟨i, rfl, hx⟩
        | succ k => exact g2 k u (by simpa using hk)
    obtain ⟨g1, g2⟩ := key _ _ h
    refine ⟨by simpa using g1, fun k u hk => ?_⟩
    obtain ⟨i, hi, hc⟩ := g2 k u hk
    have : i = k := by
      obtain ⟨h1, h2⟩ := List.getElem?_eq_some_iff.1 hi
      simpa using h2.symm
    rw [← this]; exact hc
  · cases h

theorem mapM_get {α β : Type} {f : α → Option β} : ∀ {l : List α} {r : List β}, l.mapM f = some r → r.length = l.length ∧ ∀ (k : Nat) (x : α), l[k]? = some x → ∃ y, r[k]? = some y ∧ f x = some y := by
  intro l
  induction l with
  | nil => intro r h; simp at h; subst h; exact ⟨rfl, fun k x h => by simp at h⟩
  | cons a l ih =>
    intro r h
    simp only [List.mapM_cons, Option.bind_eq_bind, Option.bind_eq_some_iff, Option.pure_def, Option.some.injEq] at h
    obtain ⟨x, hx, xs, hxs, rfl⟩ := h
    obtain ⟨g1, g2⟩ := ih hxs
    refine ⟨by simp [g1], fun k u hk => ?_⟩
    cases k with
    | zero => simp at hk; subst hk; exact ⟨x, rfl, hx⟩
    | succ k => simpa using g2 k u (by simpa using hk)

theorem cell_old {a : Addr} {u : Value} (h : w.cell? a = some u) : a.block < w.heap.size := by
  unfold World.cell? at h
  cases hb : w.heap[a.block]? with
  | none => rw [hb] at h; simp at h
  | some o => exact (Array.getElem?_eq_some_iff.1 hb).1

/-- What is read is a tree. -/
def Reads (P : Program) (w : World) (f : Nat) (t : TypeId) (cs : List Value) : Prop :=
  ∃ ts, HasT P f t ts ∧ ts.length = cs.length ∧ ∀ (k : Nat) (a : T) (u : Value), ts[k]? = some a → cs[k]? = some u → RepT w (old w) a u

theorem trod_fields {f g : Nat} (ih : ∀ t cs d ps, DataW.trod enc P w 0 spare held f t cs = some (d, ps) → plainT P g t = true → Reads P w f t cs) {cs : List Value} :
    ∀ (fs : List Field) (o e : Nat) (xs : List (DataW H × List MemPlace)), tiles P o fs = some e → e ≤ cs.length → (∀ fd ∈ fs, plainT P g fd.type = true) →
      (fs.mapM fun fd => DataW.trod enc P w 0 spare held f fd.type ((cs.drop fd.offset).take (P.cellsOf fd.type))) = some xs →
      o ≤ e ∧ ∃ ts, HasF P (fun t ts => HasT P f t ts) fs ts ∧ ts.length = e - o ∧ ∀ (k : Nat) (a : T) (u : Value), ts[k]? = some a → cs[o + k]? = some u → RepT w (old w) a u := by
  intro fs
  induction fs with
  | nil =>
    intro o e xs h1 h2 h3 h4
    simp only [tiles, Option.some.injEq] at h1
    subst h1
    exact ⟨Nat.le_refl _, [], rfl, by simp, fun k a u h => by simp at h⟩
  | cons fd r ihr =>
    intro o e xs h1 h2 h3 h4
    simp only [tiles] at h1
    split at h1
    · rename_i ho
      simp only [List.mapM_cons, Option.bind_eq_bind, Option.bind_eq_some_iff, Option.pure_def, Option.some.injEq] at h4
      obtain ⟨x, hx, xs', hxs, _⟩ := h4
      obtain ⟨g0, ts, g1, g2, g3⟩ := ihr _ e xs' h1 h2 (fun q hq => h3 q (List.mem_cons_of_mem _ hq)) hxs
      obtain ⟨ta, e1, e2, e3⟩ := ih _ _ x.1 x.2 hx (h3 fd List.mem_cons_self)
      have hal : ta.length = P.cellsOf fd.type := by rw [e2]; simp; omega
      refine ⟨by omega, ta ++ ts, ⟨ta, ts, rfl, hal, e1, g1⟩, by rw [List.length_append, hal, g2]; omega, fun k a u ha hu => ?_⟩
      rw [List.getElem?_append] at ha
      split at ha
      · rename_i hk
        refine e3 k a u ha ?_
        rw [List.getElem?_take, if_pos (by omega), List.getElem?_drop, ho]
        exact hu
      · rename_i hk
        refine g3 _ a u ha ?_
        rw [← hu]
        congr 1
        omega
    · cases h1

theorem list_of {α : Type} {Q : Nat → α → Prop} : ∀ n, (∀ i, i < n → ∃ x, Q i x) → ∃ l : List α, l.length = n ∧ ∀ (i : Nat) (x : α), l[i]? = some x → Q i x
  | 0, _ => ⟨[], rfl, fun i x h => by simp at h⟩
  | n + 1, h => by
    obtain ⟨l, h1, h2⟩ := list_of n fun i hi => h i (by omega)
    obtain ⟨x, hx⟩ := h n (by omega)
    refine ⟨l ++ [x], by simp [h1], fun i y hy => ?_⟩
    rw [List.getElem?_append] at hy
    split at hy
    · exact h2 i y hy
    · rename_i hi
      have : i = n := by
        have := (List.getElem?_eq_some_iff.1 hy).1
        simp at this
        omega
      subst this
      simp [h1] at hy
      subst hy
      exact hx

theorem trod_rep : ∀ (f g : Nat) (t : TypeId) (cs : List Value) (d : DataW H) (ps : List MemPlace), DataW.trod enc P w 0 spare held f t cs = some (d, ps) → plainT P g t = true → Reads P w f t cs := by
  intro f
  induction f with
  | zero => intro g t cs d ps h; simp [DataW.trod] at h
  | succ f ih =>
    intro g t cs d ps h hp
    cases g with
    | zero => simp [plainT] at hp
    | succ g =>
      have one : ∀ {x : T} {u : Value}, RepT w (old w) x u → ∀ (k : Nat) (a : T) (v : Value), [x][k]? = some a → [u][k]? = some v → RepT w (old w) a v := by
        intro x u hx k a v ha hv
        cases k with
        | zero => simp at ha hv; subst ha; subst hv; exact hx
        | succ k => simp at ha
      simp only [plainT] at hp
      unfold DataW.trod at h
      cases hu : P.underlying t with
      | none => simp [hu] at hp
      | some du =>
        simp only [hu] at hp h
        cases du <;> simp only [Bool.false_eq_true] at hp
        case bool =>
          split at h <;> first | (rename_i heq; cases heq) | skip
          all_goals first | cases h | skip
          rename_i b
          exact ⟨[.v (.bool b)], by simp only [HasT, hu]; exact ⟨b, rfl⟩, rfl, one (.v rfl)⟩
        case int kk =>
          split at h <;> first | (rename_i heq; cases heq) | skip
          all_goals first | (cases h; done) | skip
          rename_i k' n
          split at h
          · rename_i hc
            obtain ⟨rfl, hw⟩ := hc
            exact ⟨[.v (.int k' n)], by simp only [HasT, hu]; exact ⟨n, rfl, hw⟩, rfl, one (.v rfl)⟩
          · cases h
        case string =>
          split at h <;> first | (rename_i heq; cases heq) | skip
          all_goals first | (cases h; done) | skip
          rename_i b
          exact ⟨[.v (.string b)], by simp only [HasT, hu]; exact ⟨b, rfl⟩, rfl, one (.v rfl)⟩
        case slice e =>
          split at h <;> first | (rename_i heq; cases heq) | skip
          all_goals first | (cases h; done) | skip
          · exact ⟨[.sl []], by simp only [HasT, hu]; exact ⟨[], rfl, Nat.zero_le _, fun x hx => by cases hx⟩, rfl, one .nil⟩
          · rename_i a len cap
            simp only [Bool.and_eq_true, decide_eq_true_eq] at hp
            split at h
            · rename_i hc
              obtain ⟨elems, he, _⟩ := Option.bind_eq_some_iff.1 h
              obtain ⟨g1, g2⟩ := mapM_get he
              have hel : ∀ i, i < len → ∃ x : List T, HasT P f e x ∧ x.length = P.cellsOf e ∧ ∀ (k : Nat) (c : T), x[k]? = some c → ∃ u, w.cell? (a.add (i * P.cellsOf e + k)) = some u ∧ RepT w (old w) c u := by
                intro i hi
                obtain ⟨y, _, hy⟩ := g2 i i (by simp [hi])
                obtain ⟨l, hl, hty⟩ := Option.bind_eq_some_iff.1 hy
                obtain ⟨q1, q2⟩ := cells_get hl
                obtain ⟨x, e1, e2, e3⟩ := ih g e l y.1 y.2 hty hp.1
                refine ⟨x, e1, by rw [e2, q1], fun k c hk => ?_⟩
                have hkl : k < l.length := by have := (List.getElem?_eq_some_iff.1 hk).1; omega
                refine ⟨l[k], ?_, e3 k c _ hk (List.getElem?_eq_getElem hkl)⟩
                have := q2 k l[k] (List.getElem?_eq_getElem hkl)
                rwa [add_add] at this
              obtain ⟨es, s1, s2⟩ := list_of len hel
              have hmem : ∀ x ∈ es, HasT P f e x ∧ x.length = P.cellsOf e := fun x hx => by
                obtain ⟨i, hi⟩ := List.getElem?_of_mem hx
                exact ⟨(s2 i x hi).1, (s2 i x hi).2.1⟩
              refine ⟨[.sl es], by simp only [HasT, hu]; exact ⟨es, rfl, by have := hc.2; omega, fun x hx => ⟨(hmem x hx).2, (hmem x hx).1⟩⟩, rfl, one ?_⟩
              rcases Nat.eq_zero_or_pos es.length with h0 | h0
              · have : es = [] := List.eq_nil_of_length_eq_zero h0
                subst this
                simp at s1
                subst s1
                exact .nil
              · rw [← s1]
                have hcell : ∀ k, k < es.length * P.cellsOf e → ∃ u, w.cell? (a.add k) = some u := by
                  intro k hk
                  obtain ⟨x, hx, _, hm, e1⟩ := flat_ix (fun x hx => (hmem x hx).2) hk
                  have hxl := (s2 _ x hx).2.1
                  obtain ⟨u, hu', _⟩ := (s2 _ x hx).2.2 (k % P.cellsOf e) _ (List.getElem?_eq_getElem (by omega))
                  rw [← e1] at hu'
                  exact ⟨u, hu'⟩
                have hpos : 0 < es.length * P.cellsOf e := Nat.mul_pos h0 hp.2
                obtain ⟨u0, hu0⟩ := hcell 0 hpos
                refine .sl (u := fun k => (w.cell? (a.add k)).getD undef) h0 (fun x hx => (hmem x hx).2) (by omega) (by have := cell_old hu0; rwa [add_block] at this) (fun k hk => ?_) (fun j k x c hx hc' => ?_)
                · obtain ⟨u, hu'⟩ := hcell k hk
                  rw [hu']; rfl
                · obtain ⟨u, hu', hr⟩ := (s2 j x hx).2.2 k c hc'
                  show RepT w (old w) c ((w.cell? (a.add (j * P.cellsOf e + k))).getD undef)
                  rw [hu']; exact hr
            · cases h
        case struct fs =>
          simp only [Bool.and_eq_true, beq_iff_eq, List.all_eq_true] at hp
          split at h <;> first | (rename_i heq; cases heq) | skip
          all_goals first | (cases h; done) | (exfalso; rename_i hno _ _ _ _ _ _ _ _ _ _ _ _ _ _ _ _ _ _ _; exact hno fs rfl) | (exfalso; simp_all; done) | skip
          split at h
          · rename_i hl
            obtain ⟨xs, hxs, _⟩ := Option.map_eq_some_iff.1 h
            obtain ⟨_, ts, g1, g2, g3⟩ := trod_fields (ih g) fs.toList 0 _ xs hp.1 (by omega) hp.2 hxs
            exact ⟨ts, by simp only [HasT, hu]; exact g1, by omega, fun k a u ha hu' => g3 k a u ha (by simpa using hu')⟩
          · cases h
end
end Go.Proofs.Ytibmjinfdcmbdaa.R
