/- R8: append. -/
import Derived.Test.YtibmjinfdcmbdaaR7
namespace Go.Proofs.Ytibmjinfdcmbdaa.R
open Go.RowKit

section
variable {P : Program} {w : World} {C : Ctx} {σ : Nat → AObj}

theorem nextcap_le {need cap : Nat} (h : cap < need) : Builtin.nextslicecap need cap ≤ 2 * need + 2048 := by
  have grow : ∀ (r c : Nat), c ≤ 2 * need + 1024 → Builtin.growBy need r c ≤ 2 * need + 2048 := by
    intro r
    induction r with
    | zero => intro c h; simp only [Builtin.growBy]; omega
    | succ r ih =>
      intro c h
      simp only [Builtin.growBy]
      split
      · omega
      · exact ih _ (by omega)
  unfold Builtin.nextslicecap
  split
  · omega
  · split
    · omega
    · exact grow _ _ (by omega)

/-- What is known of the second argument. -/
structure Src (P : Program) (w : World) (C : Ctx) (x : Value) (ys : List (List T)) (sz : Nat) : Prop where
  each : ∀ e ∈ ys, e.length = sz
  len : ∀ w', (Builtin.lenOf x).run P w' = .ok ys.length w'
  first : ∃ us, (∀ w' : World, w'.heap = w.heap → (Builtin.firstCells sz ys.length x).run P w' = .ok us w') ∧ us.size = ys.length * sz ∧ ∀ (n : Nat) (t : T) (u : Value), ys.flatten[n]? = some t → us[n]? = some u → RepT w C.imm t u

theorem appended_at {es ys : List (List T)} {sz : Nat} (h1 : ∀ e ∈ es, e.length = sz) (h2 : ∀ e ∈ ys, e.length = sz) : ∀ e ∈ es ++ ys, e.length = sz := by
  intro e he
  rcases List.mem_append.1 he with h | h
  · exact h1 e h
  · exact h2 e h

/-- Cells of elements, off the cells of all. -/
theorem flat_rep {imm : Nat → Prop} {es : List (List T)} {sz : Nat} (hsz : ∀ e ∈ es, e.length = sz) {vs : Nat → Option Value} (h : ∀ (n : Nat) (t : T) (u : Value), es.flatten[n]? = some t → vs n = some u → RepT w imm t u) :
    ∀ (j k : Nat) (e : List T) (c : T) (u : Value), es[j]? = some e → e[k]? = some c → vs (j * sz + k) = some u → RepT w imm c u := by
  intro j k e c u he hc hu
  have hk : k < sz := by
    have := (List.getElem?_eq_some_iff.1 hc).1
    rwa [hsz _ (List.mem_of_getElem? he)] at this
  exact h _ c u (by rw [(flat_get hsz).2 j k e he hk]; exact hc) hu

theorem zero_cells {z : Array Value} {n : Nat} : (Builtin.zeroCells z n).size = n * z.size := by simp [Builtin.zeroCells]

/-- The row is too short: a new one. -/
theorem append_new {t t' e : TypeId} {i i0 i1 : TI} (ht : TT P t = some i0) (hd : i0.desc = .slice e) (ht' : TT P t' = some i1) (hd' : ∀ k, i1.desc ≠ .int k) (he : TT P e = some i)
    (hb : i.bytes ≤ 1024) (hzz : i.zero.cells.size = i.size) {es ys : List (List T)} {base : Option Addr} {cap : Nat} {x : Value} (hx : Src P w C x ys i.size) (hes : Elems w C.imm es i.size base) (hlen : es.length + ys.length ≤ mostLen)
    (hcap : cap < es.length + ys.length) (ty : TypeId) :
    ∃ nc vs, es.length + ys.length ≤ nc ∧ (Builtin.append_ #[t, t'] ty #[.slice base es.length cap, x]).run P w = .ok (.slice (some ⟨w.heap.size, 0, none⟩) (es ++ ys).length nc) { w with drawn := w.drawn + 1, heap := w.heap.push (.cells vs e) } ∧
      vs.size = nc * i.size ∧ ∀ (j k : Nat) (l : List T) (c : T) (u : Value), (es ++ ys)[j]? = some l → l[k]? = some c → vs[j * i.size + k]? = some u → RepT w C.imm c u := by
  obtain ⟨us, hus, husz, hur⟩ := hx.first
  obtain ⟨os, hos, hosz, hor⟩ := first_run (P := P) (c := cap) hes
  have hz : (match i1.desc with | .int _ => true | _ => false) = false := by
    cases hdd : i1.desc <;> first | rfl | exact absurd hdd (hd' _)
  simp only [mostLen] at hlen
  have hnc := nextcap_le hcap
  obtain ⟨j, hj, hj1, hj2, hj3⟩ := run_info (P := P) he w
  refine ⟨es.length + ys.length + w.tape w.drawn (.appendCap (es.length + ys.length) cap e) % (2 ^ 63 - (es.length + ys.length)), os ++ us ++ Builtin.zeroCells i.zero.cells (es.length + ys.length + w.tape w.drawn (.appendCap (es.length + ys.length) cap e) % (2 ^ 63 - (es.length + ys.length)) - (es.length + ys.length)), by omega, ?_, ?_, ?_⟩
  · have e1 : ¬ (es.length + ys.length ≤ cap) := by omega
    have e2 : ¬ (((es.length + ys.length : Nat) : Int) > IntKind.i64.max ∧ ((false : Bool) = true ∨ j.bytes = 0)) := by
      intro ⟨h, _⟩
      have : IntKind.i64.max = 9223372036854775807 := by decide
      rw [this] at h
      omega
    have e3 : ¬ (Builtin.nextslicecap (es.length + ys.length) cap * j.bytes > 2 ^ 48) := by
      rw [hj2]
      have : Builtin.nextslicecap (es.length + ys.length) cap * i.bytes ≤ (2 * (es.length + ys.length) + 2048) * 1024 := Nat.mul_le_mul hnc hb
      omega
    have hinfo : ∀ w' : World, (typeInfo e).run P w' = .ok j w' := fun w' => by
      have := hj
      simp only [typeInfo, Sem.run_bind, run_program, Result.andThen_ok] at this ⊢
      split at this <;> simp_all
    simp only [Builtin.append_, List.getElem?_toArray, List.getElem?_cons_zero, List.getElem?_cons_succ, Sem.run_bind, run_und ht, Result.andThen_ok, hd, run_size he, run_und ht', Sem.run_pure]
    simp only [Bool.false_eq_true, if_false, Sem.run_bind, hx.len, Result.andThen_ok, Sem.run_ite, if_neg e1, Sem.run_bind, hinfo, false_or, run_choose, Question.forced, Question.cut, if_false, run_askRoom, Bool.not_false, if_true]
    rw [if_neg (by simpa using e2), if_neg e3]
    rw [hos { w with drawn := w.drawn + 1 } rfl]
    simp only [Result.andThen_ok]
    rw [hus { w with drawn := w.drawn + 1 } rfl]
    simp only [Result.andThen_ok, run_zero he, newRow, Sem.run_bind, run_newObj, Sem.run_pure, List.length_append]
  · rw [Array.size_append, Array.size_append, hosz, husz, zero_cells, hzz, ← Nat.add_mul, ← Nat.add_mul]
    congr 1
    omega
  · refine flat_rep (appended_at hes.1 hx.each) (vs := fun n => (os ++ us ++ _)[n]?) fun n tt u h1 h2 => ?_
    rw [List.flatten_append] at h1
    have l1 := (flat_get hes.1).1
    have l2 := (flat_get hx.each).1
    have hn : n < es.flatten.length + ys.flatten.length := by
      have := (List.getElem?_eq_some_iff.1 h1).1
      rwa [List.length_append] at this
    rw [Array.append_assoc, Array.getElem?_append] at h2
    rw [List.getElem?_append] at h1
    by_cases hlt : n < es.flatten.length
    · rw [if_pos hlt] at h1
      rw [if_pos (by omega)] at h2
      exact hor n tt u h1 h2
    · rw [if_neg hlt] at h1
      rw [if_neg (by omega), Array.getElem?_append, if_pos (by omega)] at h2
      rw [hosz, ← l1] at h2
      exact hur _ tt u h1 h2


/-- There is room: the cells behind the row are written. -/
theorem append_in {t t' e : TypeId} {i i0 i1 : TI} (ht : TT P t = some i0) (hd : i0.desc = .slice e) (ht' : TT P t' = some i1) (hd' : ∀ k, i1.desc ≠ .int k) (he : TT P e = some i)
    {es ys : List (List T)} {bl cap lo hi : Nat} {vs : Array Value} {E : TypeId} {x : Value} (hx : Src P w C x ys i.size) (hone : ∀ y ∈ ys.flatten, ∀ v, RepT w C.imm y v → v.oneCell' = true) (hsz : ∀ l ∈ es, l.length = i.size)
    (hb : w.heap[bl]? = some (.cells vs E (lo, hi))) (hvs : vs.size = cap * i.size) (hfr : lo = hi ∨ cap * i.size ≤ lo)
    (hr : ∀ (j k : Nat) (l : List T) (c : T) (u : Value), es[j]? = some l → l[k]? = some c → vs[j * i.size + k]? = some u → RepT w C.imm c u)
    (hcap : es.length + ys.length ≤ cap) (ty : TypeId) :
    ∃ w' vs', (Builtin.append_ #[t, t'] ty #[.slice (some ⟨bl, 0, none⟩) es.length cap, x]).run P w = .ok (.slice (some ⟨bl, 0, none⟩) (es ++ ys).length cap) w' ∧
      w'.heap[bl]? = some (.cells vs' E (lo, hi)) ∧ vs'.size = cap * i.size ∧ (∀ b, b ≠ bl → w'.heap[b]? = w.heap[b]?) ∧ w'.heap.size = w.heap.size ∧ w'.os = w.os ∧ w'.tape = w.tape ∧ w'.output = w.output ∧
      ∀ (j k : Nat) (l : List T) (c : T) (u : Value), (es ++ ys)[j]? = some l → l[k]? = some c → vs'[j * i.size + k]? = some u → RepT w C.imm c u := by
  obtain ⟨us, hus, husz, hur⟩ := hx.first
  have hz : (match i1.desc with | .int _ => true | _ => false) = false := by
    cases hdd : i1.desc <;> first | rfl | exact absurd hdd (hd' _)
  have hle : (es.length + ys.length) * i.size ≤ cap * i.size := Nat.mul_le_mul_right _ hcap
  rw [Nat.add_mul] at hle
  have l2 := (flat_get hx.each).1
  have hone' : ∀ v ∈ us.toList, v.oneCell' = true := by
    intro v hv
    obtain ⟨n, hn, rfl⟩ := List.getElem_of_mem hv
    have hn' : n < ys.flatten.length := by rw [l2, ← husz]; simpa using hn
    exact hone _ (List.getElem_mem hn') _ (hur n _ _ (List.getElem?_eq_getElem hn') (by simp at hn; simp [hn]))
  obtain ⟨w', vs', e1, e2, e3, e4, e5, e6, e7, e8, e9⟩ := run_stores (P := P) bl (es.length * i.size) E lo hi us.toList 0 vs w hb (by simp; omega) hone' (by rw [hvs]; exact hfr)
  refine ⟨w', vs', ?_, e2, by omega, e5, e6, e7, e8, e9, ?_⟩
  · simp only [Builtin.append_, List.getElem?_toArray, List.getElem?_cons_zero, List.getElem?_cons_succ, Sem.run_bind, run_und ht, Result.andThen_ok, hd, run_size he, run_und ht', Sem.run_pure]
    simp only [Bool.false_eq_true, if_false, Sem.run_bind, hx.len, Result.andThen_ok, Sem.run_ite, if_pos hcap, Bool.not_false, if_true, hus w rfl, add_base, e1, Sem.run_pure, List.length_append]
  · refine flat_rep (appended_at hsz hx.each) (vs := fun n => vs'[n]?) fun n tt u h1 h2 => ?_
    have l1 := (flat_get hsz).1
    rw [List.flatten_append, List.getElem?_append] at h1
    rw [e4 n] at h2
    simp only [Nat.add_zero, Array.length_toList] at h2
    by_cases hlt : n < es.flatten.length
    · rw [if_pos hlt] at h1
      rw [if_neg (by omega)] at h2
      obtain ⟨l, g1, g2, g3, g4⟩ := flat_ix hsz (show n < es.length * i.size by omega)
      rw [g2] at h1
      rw [g4] at h2
      exact hr _ _ l tt u g1 h1 h2
    · rw [if_neg hlt] at h1
      have hn : n - es.flatten.length < ys.flatten.length := (List.getElem?_eq_some_iff.1 h1).1
      rw [if_pos (by omega), ← l1, Array.getElem?_toList] at h2
      exact hur _ tt u h1 h2

/-- There is room, and nothing to write: whatever the address is. -/
theorem append_none {t t' e : TypeId} {i i0 i1 : TI} (ht : TT P t = some i0) (hd : i0.desc = .slice e) (ht' : TT P t' = some i1) (hd' : ∀ k, i1.desc ≠ .int k) (he : TT P e = some i)
    {x : Value} (hx : Src P w C x [] i.size) (base : Option Addr) (n cap : Nat) (hcap : n ≤ cap) (ty : TypeId) :
    (Builtin.append_ #[t, t'] ty #[.slice base n cap, x]).run P w = .ok (.slice base n cap) w := by
  obtain ⟨us, hus, husz, hur⟩ := hx.first
  have hz : (match i1.desc with | .int _ => true | _ => false) = false := by
    cases hdd : i1.desc <;> first | rfl | exact absurd hdd (hd' _)
  have h0 : us = #[] := by apply Array.eq_empty_of_size_eq_zero; rw [husz]; simp
  subst h0
  have hus' := hus w rfl
  have hlen := hx.len w
  simp only [List.length_nil] at hus' hlen
  simp only [Builtin.append_, List.getElem?_toArray, List.getElem?_cons_zero, List.getElem?_cons_succ, Sem.run_bind, run_und ht, Result.andThen_ok, hd, run_size he, run_und ht', Sem.run_pure]
  simp only [Bool.false_eq_true, if_false, Sem.run_bind, hlen, Result.andThen_ok, Sem.run_ite, Nat.add_zero, if_pos hcap, Bool.not_false, if_true, hus', Sem.run_pure]
  cases base <;> simp [storeCells]

theorem repT_one {x : T} {v : Value} {imm : Nat → Prop} (h : RepT w imm x v) : v.oneCell' = true := by
  cases h with
  | v h => exact (plain_cells h).2
  | nil => rfl
  | sl => rfl

end
end Go.Proofs.Ytibmjinfdcmbdaa.R
