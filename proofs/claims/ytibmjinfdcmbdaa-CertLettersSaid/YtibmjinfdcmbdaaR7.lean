/- R7: operations that look at an object, or make one, are met. -/
import Derived.Test.YtibmjinfdcmbdaaR6
namespace Go.Proofs.Ytibmjinfdcmbdaa.R
open Go.RowKit

section
variable {P : Program} {w : World} {C : Ctx} {σ : Nat → AObj} {ρa : Operand → AV} {ρ : Operand → Value}

/-- The model's operation does what the abstract one says. -/
def Meets (r : Result Next) (C : Ctx) (σ : Nat → AObj) (w : World) (v : AV) (σ' : Nat → AObj) (nx' : Nat) : Prop :=
  ∃ C' w' u, (r = .ok (.value u) w' ∨ (r = .ok .skip w' ∧ u = undef)) ∧ Step C σ w C' σ' w' ∧ Sim C' σ' w' ∧ C'.nx = nx' ∧ RepA w' C' v u

theorem cell_in {bl : Nat} {vs : Array Value} {E : TypeId} {fr : Nat × Nat} (h : w.heap[bl]? = some (.cells vs E fr)) (k : Nat) : w.cell? ⟨bl, k, none⟩ = vs[k]? := by
  simp [World.cell?, h]

theorem run_loadVar {t : TypeId} {i : TI} (h : TT P t = some i) (a : Addr) (f : Nat → Value) (hf : ∀ j, j < (if i.isAgg then i.size else 1) → w.cell? (a.add j) = some (f j)) :
    (loadVar t a).run P w = .ok (if i.isAgg then .agg ((List.range i.size).map f).toArray else f 0) w := by
  simp only [loadVar, Sem.run_bind, run_isAgg h, Result.andThen_ok, run_size h]
  by_cases ha : i.isAgg = true
  · simp only [ha, if_true] at hf ⊢
    simp only [Sem.run_bind, run_size h, Result.andThen_ok, run_loadCells w a i.size f hf, Sem.run_pure]
  · simp only [ha, if_false] at hf ⊢
    have h0 := hf 0 (by simp)
    rw [add_zero'] at h0
    simp [h0]

/-- A part of cells is loaded. -/
theorem load_rep {t : TypeId} {i : TI} (h : TT P t = some i) {a : Addr} {cs : List AV} {o : Nat} {v : AV} (hc : ∀ (k : Nat) (x : AV), cs[o + k]? = some x → ∃ u, w.cell? (a.add k) = some u ∧ RepA w C x u)
    (hp : partA i cs o = some v) : ∃ u, (loadVar t a).run P w = .ok u w ∧ RepA w C v u := by
  have hx : ∀ k, o + k < cs.length → ∃ u, w.cell? (a.add k) = some u ∧ RepA w C (cs.getD (o + k) .any) u := by
    intro k hk
    obtain ⟨u, h1, h2⟩ := hc k _ (List.getElem?_eq_getElem hk)
    exact ⟨u, h1, by simpa [List.getD_eq_getElem?_getD, hk] using h2⟩
  unfold partA at hp
  by_cases ha : i.isAgg = true
  · simp only [ha, if_true] at hp
    split at hp <;> cases hp
    rename_i hle
    have hf : ∀ j, j < (if i.isAgg then i.size else 1) → w.cell? (a.add j) = some ((w.cell? (a.add j)).getD default) := by
      intro j hj
      rw [if_pos ha] at hj
      obtain ⟨u, h1, _⟩ := hx j (by omega)
      rw [h1]; rfl
    refine ⟨_, run_loadVar h a _ hf, ?_⟩
    rw [if_pos ha]
    refine .agg (by simp; omega) fun k x u hk hu => ?_
    rw [List.getElem?_take] at hk
    split at hk
    · rename_i hlt
      rw [List.getElem?_drop] at hk
      obtain ⟨u', h1, h2⟩ := hc k x hk
      simp only [List.getElem?_toArray, List.getElem?_map, List.getElem?_range hlt, Option.map_some, h1, Option.getD_some, Option.some.injEq] at hu
      rw [← hu]; exact h2
    · cases hk
  · simp only [ha] at hp
    obtain ⟨u, h1, h2⟩ := hc 0 v hp
    refine ⟨u, ?_, h2⟩
    rw [run_loadVar h a (fun _ => u) (fun j hj => by rw [if_neg ha] at hj; rw [show j = 0 by omega]; exact h1), if_neg ha]

theorem run_stores (g o : Nat) (E : TypeId) (lo hi : Nat) : ∀ (vs : List Value) (i : Nat) (cur : Array Value) (w : World), w.heap[g]? = some (.cells cur E (lo, hi)) → o + i + vs.length ≤ cur.size →
    (∀ v ∈ vs, v.oneCell' = true) → (lo = hi ∨ cur.size ≤ lo) →
    ∃ w' cur', (storeCells ⟨g, o, none⟩ vs i).run P w = .ok () w' ∧ w'.heap[g]? = some (.cells cur' E (lo, hi)) ∧ cur'.size = cur.size ∧
      (∀ k, cur'[k]? = if o + i ≤ k ∧ k < o + i + vs.length then vs[k - (o + i)]? else cur[k]?) ∧ (∀ b, b ≠ g → w'.heap[b]? = w.heap[b]?) ∧ w'.heap.size = w.heap.size ∧ w'.os = w.os ∧ w'.tape = w.tape ∧ w'.output = w.output := by
  intro vs
  induction vs with
  | nil =>
    intro i cur w h _ _ _
    exact ⟨w, cur, rfl, h, rfl, fun k => by rw [if_neg (by simp only [List.length_nil]; omega)], fun _ _ => rfl, rfl, rfl, rfl, rfl⟩
  | cons v vs ih =>
    intro i cur w h hlen h1 hfr
    simp only [List.length_cons] at hlen
    have hc : w.cell? ⟨g, o + i, none⟩ = some (cur[o + i]'(by omega)) := by rw [cell_in h, Array.getElem?_eq_getElem]
    have hf : w.frozen? ⟨g, o + i, none⟩ = false := by
      simp only [World.frozen?, h]
      rcases hfr with rfl | hfr
      · simp
      · simp; omega
    have hg : g < w.heap.size := (Array.getElem?_eq_some_iff.1 h).1
    have hw : (w.setCell ⟨g, o + i, none⟩ v).heap[g]? = some (.cells (cur.setIfInBounds (o + i) v) E (lo, hi)) := by
      simp only [World.setCell, Array.getElem?_modify, if_true, h, Option.map_some]
      rfl
    obtain ⟨w', cur', e1, e2, e3, e4, e5, e6, e7, e8, e9⟩ := ih (i + 1) (cur.setIfInBounds (o + i) v) (w.setCell ⟨g, o + i, none⟩ v) hw (by simp; omega) (fun x hx => h1 x (List.mem_cons_of_mem _ hx)) (by simpa using hfr)
    refine ⟨w', cur', ?_, e2, by simpa using e3, fun k => ?_, fun b hb => (e5 b hb).trans (Below.heap_setCell _ _ _ _ (by simpa using hb)), by rw [e6]; simp [World.setCell], e7, e8, e9⟩
    · simp only [storeCells, Sem.run_bind, add_off, run_store P w _ v .plain (h1 v (List.mem_cons_self)), hc, hf, Result.andThen_ok]
      exact e1
    · rw [e4 k]
      by_cases hk : o + (i + 1) ≤ k ∧ k < o + (i + 1) + vs.length
      · rw [if_pos hk, if_pos (by simp only [List.length_cons]; omega)]
        obtain ⟨j, rfl⟩ : ∃ j, k = o + i + 1 + j := ⟨k - (o + i + 1), by omega⟩
        rw [show o + i + 1 + j - (o + (i + 1)) = j by omega, show o + i + 1 + j - (o + i) = j + 1 by omega, List.getElem?_cons_succ]
      · rw [if_neg hk]
        by_cases hk2 : k = o + i
        · subst hk2
          rw [if_pos (by simp), Nat.sub_self, List.getElem?_cons_zero, Array.getElem?_setIfInBounds_self_of_lt (by omega)]
        · rw [if_neg (by simp only [List.length_cons]; omega), Array.getElem?_setIfInBounds_ne (by omega)]

theorem leafs_one {cs : List AV} {vs : Array Value} (hl : cs.length = vs.size) (hr : ∀ (k : Nat) (a : AV) (u : Value), cs[k]? = some a → vs[k]? = some u → RepA w C a u) (h : ∀ a ∈ cs, leaf a = true) : ∀ v ∈ vs.toList, v.oneCell' = true := by
  intro v hv
  obtain ⟨k, hk, rfl⟩ := List.getElem_of_mem hv
  have hk' : k < cs.length := by rw [hl]; simpa using hk
  have := hr k _ (vs.toList[k]) (List.getElem?_eq_getElem hk') (by simp at hk; simp [hk])
  exact (rep_leaf this (h _ (List.getElem_mem hk'))).2


/-- What a slice's elements are, cell by cell, in the memory. -/
def Elems (w : World) (imm : Nat → Prop) (es : List (List T)) (sz : Nat) (a : Option Addr) : Prop :=
  (∀ e ∈ es, e.length = sz) ∧ (0 < es.length → ∃ ad, a = some ad ∧ ∀ (j k : Nat) (e : List T) (c : T), es[j]? = some e → e[k]? = some c → ∃ u, w.cell? (ad.add (j * sz + k)) = some u ∧ RepT w imm c u)

theorem sl_elems {es : List (List T)} {a : Option Addr} {c sz : Nat} (h : RepT w C.imm (.sl es) (.slice a es.length c)) (hsz : ∀ e ∈ es, e.length = sz) : Elems w C.imm es sz a := by
  refine ⟨hsz, fun h0 => ?_⟩
  generalize hx : T.sl es = x at h
  generalize hv : Value.slice a es.length c = v at h
  cases h with
  | v h => cases hx
  | nil => cases hx; simp at h0
  | @sl es' ad cap sz' u h1 hsz' hc hi hcell hr =>
    cases hx
    cases hv
    have : sz = sz' := by
      have hm : es[0] ∈ es := List.getElem_mem h0
      rw [← hsz _ hm, hsz' _ hm]
    subst this
    refine ⟨ad, rfl, fun j k e c he hc' => ⟨u (j * sz + k), hcell _ ?_, hr j k e c he hc'⟩⟩
    have hj : j < es.length := (List.getElem?_eq_some_iff.1 he).1
    have hk : k < e.length := (List.getElem?_eq_some_iff.1 hc').1
    rw [hsz _ (List.mem_of_getElem? he)] at hk
    have : (j + 1) * sz ≤ es.length * sz := Nat.mul_le_mul_right _ hj
    rw [Nat.add_mul, Nat.one_mul] at this
    omega

theorem arr_elems {q sz : Nat} {es : List (List T)} (h : RepO w C q (.arr sz es)) {a : Option Addr} {n c : Nat} (hh : C.hdr q = .slice a n c) : n = es.length ∧ es.length ≤ c ∧ Elems w C.imm es sz a := by
  obtain ⟨hsz, ⟨h0, _, a', h2⟩ | ⟨bl, cap, vs, E, lo, hi, h1, h2, h3, h4, h5, h6, h7⟩⟩ := h
  · rw [hh] at h2; cases h2; subst h0; exact ⟨rfl, Nat.le_refl _, hsz, fun h => by simp at h⟩
  · rw [hh] at h2; cases h2
    refine ⟨rfl, h3, hsz, fun _ => ⟨_, rfl, fun j k e ct he hc => ?_⟩⟩
    have hj : j < es.length := (List.getElem?_eq_some_iff.1 he).1
    have hk : k < e.length := (List.getElem?_eq_some_iff.1 hc).1
    rw [hsz _ (List.mem_of_getElem? he)] at hk
    have hlt : j * sz + k < vs.size := by
      have e1 : (j + 1) * sz ≤ c * sz := Nat.mul_le_mul_right _ (by omega)
      rw [Nat.add_mul, Nat.one_mul] at e1
      omega
    refine ⟨vs[j * sz + k], ?_, h7 j k e ct _ he hc (Array.getElem?_eq_getElem hlt)⟩
    rw [add_base, cell_in h4, Array.getElem?_eq_getElem hlt]

/-- Elements one behind the other. -/
theorem flat_get {es : List (List T)} {sz : Nat} (hsz : ∀ e ∈ es, e.length = sz) : es.flatten.length = es.length * sz ∧ ∀ (j k : Nat) (e : List T), es[j]? = some e → k < sz → es.flatten[j * sz + k]? = e[k]? := by
  induction es with
  | nil => exact ⟨by simp, fun j k e h => by simp at h⟩
  | cons x es ih =>
    obtain ⟨h1, h2⟩ := ih (fun e he => hsz e (List.mem_cons_of_mem _ he))
    have hx := hsz x (List.mem_cons_self)
    refine ⟨by rw [List.flatten_cons, List.length_append, h1, hx, List.length_cons, Nat.add_mul, Nat.one_mul, Nat.add_comm], fun j k e he hk => ?_⟩
    rw [List.flatten_cons]
    cases j with
    | zero =>
      rw [List.getElem?_cons_zero] at he
      cases he
      rw [Nat.zero_mul, Nat.zero_add, List.getElem?_append_left (by omega)]
    | succ j =>
      rw [List.getElem?_cons_succ] at he
      rw [List.getElem?_append_right (by rw [hx, Nat.add_mul]; omega), hx, show (j + 1) * sz + k - sz = j * sz + k by rw [Nat.add_mul]; omega]
      exact h2 j k e he hk

theorem flat_ix {es : List (List T)} {sz n : Nat} (hsz : ∀ e ∈ es, e.length = sz) (h : n < es.length * sz) : ∃ e, es[n / sz]? = some e ∧ es.flatten[n]? = e[n % sz]? ∧ n % sz < sz ∧ n = n / sz * sz + n % sz := by
  have hpos : 0 < sz := by
    rcases Nat.eq_zero_or_pos sz with rfl | h'
    · simp at h
    · exact h'
  have hq : n / sz < es.length := (Nat.div_lt_iff_lt_mul hpos).2 h
  have hm := Nat.mod_lt n hpos
  have e1 : n = n / sz * sz + n % sz := by have := Nat.div_add_mod n sz; rw [Nat.mul_comm] at this; exact this.symm
  refine ⟨es[n / sz], List.getElem?_eq_getElem hq, ?_, hm, e1⟩
  have := (flat_get hsz).2 (n / sz) (n % sz) es[n / sz] (List.getElem?_eq_getElem hq) hm
  rwa [← e1] at this

/-- The cells of a slice are loaded. -/
theorem first_run {es : List (List T)} {sz : Nat} {a : Option Addr} {c : Nat} (h : Elems w C.imm es sz a) :
    ∃ us, (∀ w' : World, w'.heap = w.heap → (Builtin.firstCells sz es.length (.slice a es.length c)).run P w' = .ok us w') ∧ us.size = es.length * sz ∧ ∀ (n : Nat) (x : T) (u : Value), es.flatten[n]? = some x → us[n]? = some u → RepT w C.imm x u := by
  obtain ⟨hsz, h⟩ := h
  have hlen := (flat_get hsz).1
  rcases Nat.eq_zero_or_pos es.length with h0 | h0
  · have : es = [] := List.eq_nil_of_length_eq_zero h0
    subst this
    cases a with
    | none => exact ⟨#[], fun w' _ => rfl, by simp, fun n x u h => by simp at h⟩
    | some ad => exact ⟨#[], fun w' _ => by simp [Builtin.firstCells, loadCells, loadCellsFrom], by simp, fun n x u h => by simp at h⟩
  · obtain ⟨ad, rfl, hc⟩ := h h0
    have hx : ∀ n, n < es.length * sz → ∃ u, w.cell? (ad.add n) = some u ∧ ∀ x, es.flatten[n]? = some x → RepT w C.imm x u := by
      intro n hn
      obtain ⟨e, he, hf, hm, e1⟩ := flat_ix hsz hn
      have hel := hsz e (List.mem_of_getElem? he)
      obtain ⟨u, h1, h2⟩ := hc (n / sz) (n % sz) e _ he (List.getElem?_eq_getElem (show n % sz < e.length by omega))
      rw [← e1] at h1
      refine ⟨u, h1, fun x hx => ?_⟩
      rw [hf, List.getElem?_eq_getElem (show n % sz < e.length by omega)] at hx
      cases hx
      exact h2
    refine ⟨((List.range (es.length * sz)).map fun j => (w.cell? (ad.add j)).getD default).toArray, ?_, by simp, fun n x u h1 h2 => ?_⟩
    · intro w' hw'
      simp only [Builtin.firstCells]
      rw [run_loadCells w' ad (es.length * sz) (fun j => (w.cell? (ad.add j)).getD default) (fun j hj => by obtain ⟨u, h1, _⟩ := hx j hj; rw [cell_congr (w := w) (by rw [hw']), h1]; rfl)]
    · have hn : n < es.length * sz := by rw [← hlen]; exact (List.getElem?_eq_some_iff.1 h1).1
      obtain ⟨u', h3, h4⟩ := hx n hn
      simp only [List.getElem?_toArray, List.getElem?_map, List.getElem?_range hn, Option.map_some, h3, Option.getD_some, Option.some.injEq] at h2
      rw [← h2]; exact h4 x h1

theorem bytes_first (s : ByteArray) : ∃ us, (∀ w' : World, (Builtin.firstCells 1 s.size (.string s)).run P w' = .ok us w') ∧ us.size = (bytesT s).length * 1 ∧ ∀ (n : Nat) (x : T) (u : Value), (bytesT s).flatten[n]? = some x → us[n]? = some u → RepT w C.imm x u := by
  have hsz : ∀ e ∈ bytesT s, e.length = 1 := by
    intro e he
    simp only [bytesT, List.mem_map] at he
    obtain ⟨b, _, rfl⟩ := he
    rfl
  have hext : s.extract 0 s.size = s := by
    apply ByteArray.ext
    simp [ByteArray.data_extract]
  have hl : (bytesT s).length = s.size := by unfold bytesT; rw [List.length_map, Array.length_toList]; rfl
  refine ⟨s.data.map fun b => .int .u8 b.toNat, ?_, by rw [hl, Array.size_map, Nat.mul_one]; rfl, fun n x u h1 h2 => ?_⟩
  · intro w'
    simp only [Builtin.firstCells, hext]
    rfl
  · have hn : n < (bytesT s).length * 1 := by rw [← (flat_get hsz).1]; exact (List.getElem?_eq_some_iff.1 h1).1
    obtain ⟨e, he, hf, hm, e1⟩ := flat_ix hsz hn
    rw [hf] at h1
    simp only [Nat.div_one, Nat.mod_one] at he h1
    simp only [bytesT, List.getElem?_map, Option.map_eq_some_iff, Array.getElem?_toList] at he
    obtain ⟨b, hb, rfl⟩ := he
    simp only [Array.getElem?_map, hb, Option.map_some, Option.some.injEq] at h2
    subst h2
    simp at h1
    subst h1
    exact .v rfl

end
end Go.Proofs.Ytibmjinfdcmbdaa.R
