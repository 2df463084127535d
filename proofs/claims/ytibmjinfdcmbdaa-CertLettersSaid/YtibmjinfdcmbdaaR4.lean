/- R4: the soundness of operations that look at no object, put together. -/
import Derived.Test.YtibmjinfdcmbdaaR3
namespace Go.Proofs.Ytibmjinfdcmbdaa.R
open Go.RowKit

theorem setCells_length {α : Type} (xs : List α) : ∀ (cs : List α) (off : Nat), (setCells cs off xs).length = cs.length := by
  induction xs with
  | nil => intro cs off; rfl
  | cons x xs ih => intro cs off; rw [setCells, ih, List.length_set]

theorem setCells_get {α : Type} (xs : List α) : ∀ (cs : List α) (off k : Nat), off + xs.length ≤ cs.length →
    (setCells cs off xs)[k]? = if off ≤ k ∧ k < off + xs.length then xs[k - off]? else cs[k]? := by
  induction xs with
  | nil => intro cs off k _; rw [setCells, if_neg (by simp only [List.length_nil]; omega)]
  | cons x xs ih =>
    intro cs off k h
    simp only [List.length_cons] at h
    rw [setCells, ih _ _ _ (by rw [List.length_set]; omega)]
    by_cases h1 : off + 1 ≤ k ∧ k < off + 1 + xs.length
    · rw [if_pos h1, if_pos (by simp; omega)]
      obtain ⟨j, rfl⟩ : ∃ j, k = off + 1 + j := ⟨k - (off + 1), by omega⟩
      rw [show off + 1 + j - (off + 1) = j by omega, show off + 1 + j - off = j + 1 by omega, List.getElem?_cons_succ]
    · rw [if_neg h1]
      by_cases h2 : k = off
      · subst h2
        rw [if_pos (by simp), Nat.sub_self, List.getElem?_cons_zero, List.getElem?_set_self (by omega)]
      · rw [if_neg (by simp; omega), List.getElem?_set_ne (by omega)]

theorem foldSet_get (vs : List Value) : ∀ (cs : Array Value) (off j k : Nat), off + j + vs.length ≤ cs.size →
    ((vs.zipIdx j).foldl (fun (cs : Array Value) (x : Value × Nat) => cs.setIfInBounds (off + x.2) x.1) cs).size = cs.size ∧
    ((vs.zipIdx j).foldl (fun (cs : Array Value) (x : Value × Nat) => cs.setIfInBounds (off + x.2) x.1) cs)[k]? = if off + j ≤ k ∧ k < off + j + vs.length then vs[k - (off + j)]? else cs[k]? := by
  induction vs with
  | nil => intro cs off j k _; simp; omega
  | cons v vs ih =>
    intro cs off j k h
    simp only [List.length_cons] at h
    rw [List.zipIdx_cons, List.foldl_cons]
    obtain ⟨h1, h2⟩ := ih (cs.setIfInBounds (off + j) v) off (j + 1) k (by simp; omega)
    refine ⟨by simpa using h1, ?_⟩
    rw [h2]
    by_cases h3 : off + (j + 1) ≤ k ∧ k < off + (j + 1) + vs.length
    · rw [if_pos h3, if_pos (by simp; omega)]
      obtain ⟨i, rfl⟩ : ∃ i, k = off + j + 1 + i := ⟨k - (off + j + 1), by omega⟩
      rw [show off + j + 1 + i - (off + (j + 1)) = i by omega, show off + j + 1 + i - (off + j) = i + 1 by omega, List.getElem?_cons_succ]
    · rw [if_neg h3]
      by_cases h4 : k = off + j
      · subst h4
        rw [if_pos (by simp), Nat.sub_self, List.getElem?_cons_zero, Array.getElem?_setIfInBounds_self_of_lt (by omega)]
      · rw [if_neg (by simp; omega), Array.getElem?_setIfInBounds_ne (by omega)]

section
variable {P : Program} {w : World} {C : Ctx}

theorem cells_rep {a : AV} {v : Value} {cs : List AV} (h : cellsOf a = some cs) (r : RepA w C a v) :
    cs.length = v.cells.size ∧ ∀ (k : Nat) (x : AV) (u : Value), cs[k]? = some x → v.cells[k]? = some u → RepA w C x u := by
  by_cases hl : leaf a = true
  · have hc : cs = [a] := by cases a <;> simp [cellsOf, leaf] at h hl <;> exact h.symm
    subst hc
    obtain ⟨hv, _⟩ := rep_leaf r hl
    rw [hv]
    refine ⟨rfl, fun k x u h1 h2 => ?_⟩
    cases k with
    | zero => simp at h1 h2; subst h1; subst h2; exact r
    | succ k => simp at h1
  · cases a <;> simp [leaf] at hl <;> simp [cellsOf] at h
    subst h
    obtain ⟨vs, rfl, h1, h2⟩ := rep_agg r
    exact ⟨h1, h2⟩

/-- Parts laid into cells. -/
theorem fill_rep {pl : Nat → Option (Nat × Nat)} {ps : List (Nat × AV)} : ∀ {qs : List (Nat × Value)} {cs : List AV} {vs : Array Value} {r : List AV},
    ps.length = qs.length → (∀ (k : Nat) (a : Nat × AV) (q : Nat × Value), ps[k]? = some a → qs[k]? = some q → a.1 = q.1 ∧ RepA w C a.2 q.2) →
    cs.length = vs.size → (∀ (k : Nat) (x : AV) (u : Value), cs[k]? = some x → vs[k]? = some u → RepA w C x u) →
    fillA pl cs ps = some r → ∃ us, Instr.fill pl vs qs = some us ∧ r.length = us.size ∧ ∀ (k : Nat) (x : AV) (u : Value), r[k]? = some x → us[k]? = some u → RepA w C x u := by
  induction ps with
  | nil =>
    intro qs cs vs r hl _ hlen hr h
    cases qs with
    | cons q qs => simp at hl
    | nil => simp only [fillA] at h; cases h; exact ⟨vs, rfl, hlen, hr⟩
  | cons p ps ih =>
    intro qs cs vs r hl hp hlen hr h
    obtain ⟨i, a⟩ := p
    cases qs with
    | nil => simp at hl
    | cons q qs =>
      obtain ⟨h1, hra⟩ := hp 0 _ _ rfl rfl
      obtain ⟨i', v⟩ := q
      simp only at h1 hra
      subst h1
      simp only [fillA] at h
      cases hpl : pl i with
      | none => rw [hpl] at h; cases h
      | some os =>
        obtain ⟨off, size⟩ := os
        rw [hpl] at h
        simp only at h
        cases hc : cellsOf a with
        | none => rw [hc] at h; cases h
        | some c =>
          rw [hc] at h
          simp only at h
          split at h
          · rename_i hcond
            obtain ⟨hsz, hoff⟩ := hcond
            obtain ⟨hcl, hcr⟩ := cells_rep hc hra
            have hfold := fun k => foldSet_get v.cells.toList vs off 0 k (by simp; omega)
            have hzip : v.cells.zipIdx.foldl (fun (cs : Array Value) (x : Value × Nat) => cs.setIfInBounds (off + x.2) x.1) vs = (v.cells.toList.zipIdx 0).foldl (fun (cs : Array Value) (x : Value × Nat) => cs.setIfInBounds (off + x.2) x.1) vs := by
              rw [← Array.foldl_toList, Array.toList_zipIdx]
            obtain ⟨us, hus, h2, h3⟩ := ih (qs := qs) (cs := setCells cs off c) (vs := (v.cells.toList.zipIdx 0).foldl (fun (cs : Array Value) (x : Value × Nat) => cs.setIfInBounds (off + x.2) x.1) vs) (r := r)
              (by simpa using hl) (fun k a q ha hq => hp (k + 1) a q ha hq) (by rw [setCells_length, (hfold 0).1]; exact hlen)
              (fun k x u hx hu => by
                rw [setCells_get _ _ _ _ (by omega)] at hx
                rw [(hfold k).2] at hu
                simp only [Nat.add_zero, Array.length_toList, ← hcl] at hu
                split at hx
                · rename_i hk
                  rw [if_pos hk] at hu
                  exact hcr _ _ _ hx (by simpa using hu)
                · rename_i hk
                  rw [if_neg hk] at hu
                  exact hr _ _ _ hx hu) h
            refine ⟨us, ?_, h2, h3⟩
            simp only [Instr.fill, hpl]
            rw [if_neg (by simp; omega)]
            exact (congrArg (fun z => Instr.fill pl z qs) hzip).trans hus
          · cases h

theorem toTs_rep : ∀ {as : List AV} {ts : List T}, toTs as = some ts → as.length = ts.length ∧ ∀ (k : Nat) (a : AV) (t : T), as[k]? = some a → ts[k]? = some t → toT a = some t := by
  intro as
  induction as with
  | nil => intro ts h; simp only [toTs] at h; cases h; exact ⟨rfl, fun k a t h => by simp at h⟩
  | cons a as ih =>
    intro ts h
    simp only [toTs] at h
    split at h
    · rename_i x xs hx hxs
      cases h
      obtain ⟨h1, h2⟩ := ih hxs
      refine ⟨by simp [h1], fun k b t hb ht => ?_⟩
      cases k with
      | zero => simp at hb ht; subst hb; subst ht; exact hx
      | succ k => exact h2 k b t hb ht
    · cases h

theorem toT_rep {a : AV} {t : T} {v : Value} (h : toT a = some t) (r : RepA w C a v) : RepT w C.imm t v := by
  unfold toT at h
  split at h <;> cases h
  · cases r with
    | t h => exact h
  · obtain ⟨_, rfl, h⟩ := rep_fsl r; exact h
  · cases r with
    | @fn _ _ _ vf vc h1 _ h2 _ =>
      have e1 : vf = #[] := by apply Array.eq_empty_of_size_eq_zero; exact h1.symm
      have e2 : vc = #[] := by apply Array.eq_empty_of_size_eq_zero; exact h2.symm
      subst e1; subst e2
      exact .v rfl

theorem toT_leaf {a : AV} {t : T} (h : toT a = some t) : leaf a = true := by
  unfold toT at h
  split at h <;> cases h <;> rfl

theorem zero_rep (i : TI) : (zeroA i).length = i.zero.cells.size ∧ ∀ (k : Nat) (x : AV) (u : Value), (zeroA i)[k]? = some x → i.zero.cells[k]? = some u → RepA w C x u := by
  have hleaf : ∀ v, RepA w C (ofLeaf v) v := by
    intro v
    unfold ofLeaf
    split
    · exact .fsl (es := []) .nil
    · exact .fn rfl (fun k a u h => by simp at h) rfl (fun k a u h => by simp at h)
    · split
      · rename_i h
        exact .t (.v h)
      · exact .any
  refine ⟨by simp [zeroA], fun k x u hx hu => ?_⟩
  simp only [zeroA, List.getElem?_map, Array.getElem?_toList, hu, Option.map_some] at hx
  cases hx
  exact hleaf u

theorem places_run {fs : List Field} : ∀ {l : List (Nat × Nat)}, placesA P fs = some l → ∀ w, (fs.mapM (fun (f : Field) => (do pure (f.offset, ← sizeOf f.type) : Sem (Nat × Nat)))).run P w = .ok l w := by
  induction fs with
  | nil => intro l h w; simp only [placesA] at h; cases h; rfl
  | cons f fs ih =>
    intro l h w
    simp only [placesA] at h
    split at h
    · rename_i i l' hi hl'
      cases h
      rw [List.mapM_cons]
      simp only [Sem.run_bind, run_size hi, Result.andThen_ok, Sem.run_pure, ih hl']
    · cases h


theorem rep_ptr {b o : Nat} {v : Value} (h : RepA w C (.ptr b o) v) : ∃ bl, v = .pointer (some ⟨bl, o, none⟩) ∧ b < C.nx ∧ C.own b = some bl := by
  cases h with
  | ptr h1 h2 => exact ⟨_, rfl, h1, h2⟩
theorem rep_rd {cs : List T} {v : Value} (h : RepA w C (.rd cs) v) : ∃ ad, v = .pointer (some ad) ∧ RepA w C (.rd cs) (.pointer (some ad)) := by
  cases h with
  | rd h1 h2 h3 => exact ⟨_, rfl, .rd h1 h2 h3⟩
theorem rep_el {q o : Nat} {v : Value} (h : RepA w C (.el q o) v) : ∃ bl n c, v = .pointer (some ⟨bl, o, none⟩) ∧ q < C.nx ∧ C.own q = some bl ∧ C.hdr q = .slice (some ⟨bl, 0, none⟩) n c := by
  cases h with
  | el h1 h2 h3 => exact ⟨_, _, _, rfl, h1, h2, h3⟩
theorem rep_ref {q : Nat} {v : Value} (h : RepA w C (.ref q) v) : ∃ a n c, v = .slice a n c ∧ q < C.nx ∧ C.hdr q = v := by
  cases h with
  | ref h1 h2 => exact ⟨_, _, _, rfl, h1, h2⟩
theorem rep_fn {f : Fn} {a b : List AV} {v : Value} (h : RepA w C (.fn f a b) v) : ∃ vf vc, v = .func f vf vc ∧ a.length = vf.size ∧ (∀ (k : Nat) (x : AV) (u : Value), a[k]? = some x → vf[k]? = some u → RepA w C x u) ∧
    b.length = vc.size ∧ (∀ (k : Nat) (x : AV) (u : Value), b[k]? = some x → vc[k]? = some u → RepA w C x u) := by
  cases h with
  | fn h1 h2 h3 h4 => exact ⟨_, _, rfl, h1, h2, h3, h4⟩

theorem map_rep {ρa : Operand → AV} {ρ : Operand → Value} (hρ : ∀ x, RepA w C (ρa x) (ρ x)) (l : Array Operand) :
    (l.toList.map ρa).length = (l.map ρ).size ∧ ∀ (k : Nat) (a : AV) (u : Value), (l.toList.map ρa)[k]? = some a → (l.map ρ)[k]? = some u → RepA w C a u := by
  refine ⟨by simp, fun k a u ha hu => ?_⟩
  simp only [List.getElem?_map, Array.getElem?_toList, Option.map_eq_some_iff] at ha
  obtain ⟨x, hx, rfl⟩ := ha
  simp only [Array.getElem?_map, hx, Option.map_some, Option.some.injEq] at hu
  subst hu
  exact hρ x

theorem minI_run (f : Int → Int → Bool) (g : Value → Value → Sem Value) (hg : ∀ k x k' y, g (.int k x) (.int k' y) = pure (.int k (if f y x then y else x))) (k : IntKind) :
    ∀ (r : List AV) (us : List Value) (x m : Int), r.length = us.length → (∀ (j : Nat) (a : AV) (u : Value), r[j]? = some a → us[j]? = some u → RepA w C a u) → minI f k x r = some m →
      (us.foldlM g (.int k x)).run P w = .ok (.int k m) w := by
  intro r
  induction r with
  | nil =>
    intro us x m hl _ h
    cases us with
    | nil => simp only [minI] at h; cases h; rfl
    | cons u us => simp at hl
  | cons a r ih =>
    intro us x m hl hr h
    cases us with
    | nil => simp at hl
    | cons u us =>
      unfold minI at h
      split at h
      · rename_i heq; cases heq
      · rename_i k' y r' heq
        cases heq
        obtain ⟨rfl, _⟩ := rep_v (hr 0 _ _ rfl rfl)
        rw [List.foldlM_cons, hg]
        simp only [Sem.run_bind, Sem.run_pure, Result.andThen_ok]
        exact ih us _ m (by simpa using hl) (fun j a u ha hu => hr (j + 1) a u ha hu) h
      · cases h

theorem cutT_run {full : Bool} {es : List (List T)} {lo hi mx : Option AV} {r : AV} (h : cutT full es lo hi mx = some r) {t e : TypeId} {i j : TI} (ht : TT P t = some i) (hd : i.desc = .slice e) (he : TT P e = some j)
    {a : Option Addr} {c : Nat} (hc : es.length ≤ c) (hf : full = true → c = es.length) (hr : RepT w C.imm (.sl es) (.slice a es.length c)) (hsz : ∀ x ∈ es, x.length = j.size)
    {vlo vhi vmx : Option Value} (h1 : ∀ a, lo = some a → ∃ u, vlo = some u ∧ RepA w C a u) (h1n : lo = none → vlo = none) (h2 : ∀ a, hi = some a → ∃ u, vhi = some u ∧ RepA w C a u) (h2n : hi = none → vhi = none)
    (h3 : ∀ a, mx = some a → ∃ u, vmx = some u ∧ RepA w C a u) (h3n : mx = none → vmx = none) :
    ∃ u, (Instr.sliceAt t (.slice a es.length c) vlo vhi vmx).run P w = .ok u w ∧ RepA w C r u := by
  have num : ∀ {x : Option AV} {d most r : Nat} {v : Option Value} {y : AV}, x = some y → bound x d most = some r → (∀ a, x = some a → ∃ u, v = some u ∧ RepA w C a u) →
      r ≤ most ∧ ∃ k, v = some (.int k r) := by
    intro x d most r v y hx hb hv
    subst hx
    unfold bound at hb
    simp only at hb
    split at hb
    · rename_i n hn
      split at hb <;> cases hb
      rename_i hb'
      obtain ⟨u, hu, hr⟩ := hv y rfl
      obtain ⟨k, rfl⟩ := asInt_rep hn hr
      exact ⟨by omega, k, by rw [hu]; congr 2; omega⟩
    · cases hb
  have low : ∀ {h l : Nat}, bound lo 0 h = some l → l ≤ h ∧ ((vlo = none ∧ l = 0) ∨ ∃ k, vlo = some (.int k l)) := by
    intro h l hb
    cases hlo : lo with
    | none => rw [hlo] at hb; simp only [bound] at hb; cases hb; exact ⟨Nat.zero_le _, .inl ⟨h1n hlo, rfl⟩⟩
    | some y => obtain ⟨a1, a2⟩ := num hlo hb h1; exact ⟨a1, .inr a2⟩
  have sb : ∀ (k : IntKind) (n m : Nat) (code : BoundsCode), n ≤ m → (Instr.sliceBound (.int k (n : Int)) m code).run P w = .ok n w := by
    intro k n m code h
    simp only [Instr.sliceBound, asIntOf, Sem.run_bind, Sem.run_pure, Result.andThen_ok]
    rw [if_pos (by omega)]
    simp
  have done : ∀ {l h m : Nat}, (Instr.sliceBounds true es.length c vlo vhi vmx).run P w = .ok (l, h, m) w →
      (Instr.sliceAt t (.slice a es.length c) vlo vhi vmx).run P w = .ok (.slice (if m = l then a else a.map (·.add (l * j.size))) (h - l) (m - l)) w := by
    intro l h m hb
    simp only [Instr.sliceAt, Instr.slice, Sem.run_bind, run_und ht, Result.andThen_ok, hd, hb, run_size he, Sem.run_pure]
  unfold cutT at h
  split at h
  · rename_i mv
    split at h
    · rename_i m hA hm
      split at h
      · rename_i hh hhb
        split at h
        · rename_i l hlb
          obtain ⟨m1, km, hvm⟩ := num rfl hm h3
          obtain ⟨m2, kh, hvh⟩ := num rfl hhb h2
          obtain ⟨m3, hvl⟩ := low hlb
          have hb : (Instr.sliceBounds true es.length c vlo vhi vmx).run P w = .ok (l, hh, m) w := by
            subst hvm; subst hvh
            rcases hvl with ⟨rfl, rfl⟩ | ⟨k, rfl⟩
            · simp only [Instr.sliceBounds, Sem.run_bind, if_true, sb _ _ _ _ (show m ≤ c by omega), sb _ _ _ _ m2, Result.andThen_ok, Sem.run_pure]
            · simp only [Instr.sliceBounds, Sem.run_bind, if_true, sb _ _ _ _ (show m ≤ c by omega), sb _ _ _ _ m2, sb _ _ _ _ m3, Result.andThen_ok, Sem.run_pure]
          have hrep := cut_rep (m := m) hr m3 (by omega) m2 hsz
          split at h <;> cases h
          · rename_i hmm
            subst hmm
            refine ⟨_, done hb, ?_⟩
            have hlen : ((es.take hh).drop l).length = hh - l := by rw [List.length_drop, List.length_take]; omega
            rw [← hlen] at hrep ⊢
            exact .fsl hrep
          · exact ⟨_, done hb, .t hrep⟩
        · cases h
      · cases h
    · cases h
  · split at h
    · rename_i hv
      split at h
      · rename_i hh hhb
        split at h
        · rename_i l hlb
          cases h
          obtain ⟨m2, kh, hvh⟩ := num rfl hhb h2
          obtain ⟨m3, hvl⟩ := low hlb
          have hb : (Instr.sliceBounds true es.length c vlo vhi vmx).run P w = .ok (l, hh, c) w := by
            have e0 := h3n rfl
            subst hvh; subst e0
            rcases hvl with ⟨rfl, rfl⟩ | ⟨k, rfl⟩
            · simp only [Instr.sliceBounds, Sem.run_bind, if_true, sb _ _ _ _ (show hh ≤ c by omega), Result.andThen_ok, Sem.run_pure]
            · simp only [Instr.sliceBounds, Sem.run_bind, if_true, sb _ _ _ _ (show hh ≤ c by omega), sb _ _ _ _ m3, Result.andThen_ok, Sem.run_pure]
          exact ⟨_, done hb, .t (cut_rep (m := c) hr m3 (by omega) (by omega) hsz)⟩
        · cases h
      · cases h
    · split at h
      · rename_i l hlb
        obtain ⟨m3, hvl⟩ := low hlb
        have hb : (Instr.sliceBounds true es.length c vlo vhi vmx).run P w = .ok (l, es.length, c) w := by
          have e0 := h3n rfl
          have e1 := h2n rfl
          subst e1; subst e0
          rcases hvl with ⟨rfl, rfl⟩ | ⟨k, rfl⟩
          · simp only [Instr.sliceBounds, Sem.run_bind, Result.andThen_ok, Sem.run_pure]
          · simp only [Instr.sliceBounds, Sem.run_bind, sb _ _ _ _ m3, Result.andThen_ok, Sem.run_pure]
        have hrep := cut_rep (m := c) hr m3 (Nat.le_refl _) hc hsz
        rw [List.take_length] at hrep
        split at h <;> cases h
        · rename_i hfull
          have := hf hfull
          subst this
          refine ⟨_, done hb, ?_⟩
          have hlen : (es.drop l).length = es.length - l := by rw [List.length_drop]
          rw [← hlen] at hrep ⊢
          exact .fsl hrep
        · exact ⟨_, done hb, .t hrep⟩
      · cases h

end
end Go.Proofs.Ytibmjinfdcmbdaa.R
