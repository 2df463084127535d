/- R9: operations on the store are met. -/
import Derived.Test.YtibmjinfdcmbdaaR8
namespace Go.Proofs.Ytibmjinfdcmbdaa.R
open Go.RowKit

section
variable {P : Program} {w : World} {C : Ctx} {σ : Nat → AObj} {ρa : Operand → AV} {ρ : Operand → Value}

theorem obj_box (hs : Sim C σ w) {b bl : Nat} {cs : List AV} (h : σ b = .box cs) (ho : C.own b = some bl) :
    ∃ vs E, w.heap[bl]? = some (.cells vs E (0, 0)) ∧ cs.length = vs.size ∧ ∀ (k : Nat) (a : AV) (u : Value), cs[k]? = some a → vs[k]? = some u → RepA w C a u := by
  have := hs.obj b
  rw [h] at this
  obtain ⟨bl', vs, E, h1, h2, h3, h4⟩ := this
  rw [ho] at h1; cases h1
  exact ⟨vs, E, h2, h3, h4⟩

theorem obj_arr (hs : Sim C σ w) {q bl sz n cap : Nat} {es : List (List T)} (h : σ q = .arr sz es) (ho : C.own q = some bl) (hh : C.hdr q = .slice (some ⟨bl, 0, none⟩) n cap) :
    n = es.length ∧ es.length ≤ cap ∧ (∀ e ∈ es, e.length = sz) ∧ ∃ vs E lo hi, w.heap[bl]? = some (.cells vs E (lo, hi)) ∧ vs.size = cap * sz ∧ (lo = hi ∨ cap * sz ≤ lo) ∧
      ∀ (j k : Nat) (e : List T) (c : T) (u : Value), es[j]? = some e → e[k]? = some c → vs[j * sz + k]? = some u → RepT w C.imm c u := by
  have := hs.obj q
  rw [h] at this
  obtain ⟨hsz, ⟨h0, h1, h2⟩ | ⟨bl', cap', vs, E, lo, hi, h1, h2, h3, h4, h5, h6, h7⟩⟩ := this
  · rw [ho] at h1; cases h1
  · rw [ho] at h1; cases h1
    rw [hh] at h2; cases h2
    exact ⟨rfl, h3, hsz, vs, E, lo, hi, h4, h5, h6, h7⟩

theorem meets_value {r : Result Next} {u : Value} {v : AV} (hs : Sim C σ w) (hr : r = .ok (.value u) w) (h : RepA w C v u) : Meets r C σ w v σ C.nx :=
  ⟨C, w, u, .inl hr, Step.refl _ _ _, hs, rfl, h⟩

/-- A new variable. -/
theorem meets_box (hs : Sim C σ w) {r : Result Next} {cs : List AV} {vs : Array Value} {E : TypeId} (hl : cs.length = vs.size) (hv : ∀ (k : Nat) (a : AV) (u : Value), cs[k]? = some a → vs[k]? = some u → RepA w C a u)
    (hr : r = .ok (.value (.pointer (some ⟨w.heap.size, 0, none⟩))) { w with heap := w.heap.push (.cells vs E) }) :
    Meets r C σ w (.ptr C.nx 0) (fun i => if i = C.nx then .box cs else σ i) (C.nx + 1) := by
  obtain ⟨C', hC⟩ : ∃ C' : Ctx, C' = ⟨C.imm, fun i => if i = C.nx then some w.heap.size else C.own i, fun i => if i = C.nx then undef else C.hdr i, C.nx + 1⟩ := ⟨_, rfl⟩
  have hk : Keeps w C.imm { w with heap := w.heap.push (.cells vs E) } C'.imm := by
    subst hC
    exact ⟨fun b h => h, fun b h => push_old w _ (hs.imm_lt b h)⟩
  have hc : CtxLe C C' := by
    subst hC
    exact ⟨Nat.le_succ _, fun i hi => if_neg (by omega), fun i hi => if_neg (by omega)⟩
  have ho : C'.own C.nx = some w.heap.size := by subst hC; exact if_pos rfl
  obtain ⟨h1, h2⟩ := sim_new hs (.cells vs E) (.box cs) undef C' hC ⟨w.heap.size, vs, E, ho, push_new w _, hl, fun k a u ha hu => (hv k a u ha hu).keeps hk hc⟩
  refine ⟨C', _, _, .inl hr, h2, h1, by rw [hC], .ptr (by rw [hC]; exact Nat.lt_succ_self _) ho⟩

/-- A slice's source. -/
theorem src_of (hs : Sim C σ w) {a : AV} {v : Value} {ys : List (List T)} {sz : Nat} (h : slicesT σ a = some ys) (hr : RepA w C a v) (hsz : ∀ y ∈ ys, y.length = sz) : Src P w C v ys sz := by
  have of : ∀ {b : Option Addr} {c : Nat}, v = .slice b ys.length c → Elems w C.imm ys sz b → Src P w C v ys sz := by
    intro b c hv he
    subst hv
    obtain ⟨us, h1, h2, h3⟩ := first_run (P := P) (c := c) he
    exact ⟨he.1, fun w' => rfl, us, h1, h2, h3⟩
  unfold slicesT at h
  split at h
  · cases h
    obtain ⟨b, c, hv, _, h1⟩ := rep_sl hr
    rw [hv] at h1
    exact of hv (sl_elems h1 hsz)
  · cases h
    obtain ⟨b, hv, h1⟩ := rep_fsl hr
    rw [hv] at h1
    exact of hv (sl_elems h1 hsz)
  · rename_i q
    split at h
    · rename_i sz' es hσ
      cases h
      obtain ⟨b, n, c, hv, h1, h2⟩ := rep_ref hr
      have ho := hs.obj q
      rw [hσ] at ho
      rw [hv] at h2
      obtain ⟨h3, h4, h5⟩ := arr_elems ho h2
      subst h3
      refine of hv ⟨hsz, fun h0 => ?_⟩
      have : sz' = sz := by
        have hm : ys[0] ∈ ys := List.getElem_mem h0
        rw [← hsz _ hm, h5.1 _ hm]
      subst this
      exact h5.2 h0
    · cases h
  · cases h

theorem src_bytes (s : ByteArray) {sz : Nat} (hsz : ∀ y ∈ bytesT s, y.length = sz) (h1 : 0 < sz) : Src P w C (.string s) (bytesT s) sz := by
  have hl : (bytesT s).length = s.size := by unfold bytesT; rw [List.length_map, Array.length_toList]; rfl
  refine ⟨hsz, fun w' => by rw [hl]; rfl, ?_⟩
  obtain ⟨us, h2, h3, h4⟩ := bytes_first (P := P) (w := w) (C := C) s
  rcases Nat.eq_zero_or_pos (bytesT s).length with h0 | h0
  · refine ⟨us, fun w' _ => ?_, ?_, h4⟩
    · rw [hl]; exact h2 w'
    · rw [h3, h0]; simp
  · have : sz = 1 := by
      have hm : (bytesT s)[0] ∈ bytesT s := List.getElem_mem h0
      have e1 := hsz _ hm
      have e2 : (bytesT s)[0].length = 1 := by simp [bytesT]
      omega
    subst this
    refine ⟨us, fun w' _ => ?_, h3, h4⟩
    rw [hl]; exact h2 w'

theorem exec_value (dst : Option Tmp) (op : Op) (type : TypeId) (pos : String) (after : Array Edge) (guard : Option (Nat × Bool)) : True := trivial

theorem meets_eff {r : Result Next} {v : AV} {e : Eff} {σ' : Nat → AObj} {nx' : Nat} (h : Meets r C σ w v σ' nx') (h1 : (e.on σ C.nx).1 = σ') (h2 : (e.on σ C.nx).2 = nx') : Meets r C σ w v (e.on σ C.nx).1 (e.on σ C.nx).2 := by
  rw [h1, h2]; exact h

theorem load_sound (hs : Sim C σ w) (hρ : ∀ x, RepA w C (ρa x) (ρ x)) {t : TypeId} {a : Operand} {v : AV} {e : Eff} (h : evalS P σ C.nx ρa (.load t a) = some (v, e)) :
    e = .none ∧ ∃ u, (Instr.loadAt t (ρ a)).run P w = .ok u w ∧ RepA w C v u := by
  simp only [evalS] at h
  have ha := hρ a
  split at h
  · rename_i i b o hi hc
    rw [hc] at ha
    obtain ⟨bl, hv, h1, h2⟩ := rep_ptr ha
    split at h
    · rename_i cs hσ
      obtain ⟨v', hp, he⟩ := Option.map_eq_some_iff.1 h
      cases he
      obtain ⟨vs, E, h3, h4, h5⟩ := obj_box hs hσ h2
      obtain ⟨u, h6, h7⟩ := load_rep hi (a := ⟨bl, o, none⟩) (fun k x hk => by
        have hlt : o + k < vs.size := by have := (List.getElem?_eq_some_iff.1 hk).1; omega
        refine ⟨vs[o + k], ?_, h5 _ _ _ hk (Array.getElem?_eq_getElem hlt)⟩
        rw [add_off, cell_in h3, Array.getElem?_eq_getElem hlt]) hp
      exact ⟨rfl, u, by simp only [Instr.loadAt, Sem.run_bind, hv, Instr.sureAddr, Sem.run_pure, Result.andThen_ok, h6], h7⟩
    · cases h
  · rename_i i cs hi hc
    rw [hc] at ha
    obtain ⟨ad, hv, h1⟩ := rep_rd ha
    obtain ⟨v', hp, he⟩ := Option.map_eq_some_iff.1 h
    cases he
    have hp' : partA i (cs.map .t) 0 = some v := by
      unfold partT at hp
      unfold partA
      split at hp
      · rename_i hagg
        rw [if_pos hagg]
        simpa [List.map_take, List.map_drop] using hp
      · rename_i hagg
        rw [if_neg hagg, List.getElem?_map]
        exact hp
    cases h1 with
    | @rd _ _ uf hi' hcell hr =>
      obtain ⟨u, h6, h7⟩ := load_rep hi (a := ad) (fun k x hk => by
        rw [Nat.zero_add, List.getElem?_map] at hk
        obtain ⟨c, hc', rfl⟩ := Option.map_eq_some_iff.1 hk
        exact ⟨uf k, hcell k (List.getElem?_eq_some_iff.1 hc').1, .t (hr k c hc')⟩) hp'
      exact ⟨rfl, u, by simp only [Instr.loadAt, Sem.run_bind, hv, Instr.sureAddr, Sem.run_pure, Result.andThen_ok, h6], h7⟩
  · rename_i i q o hi hc
    rw [hc] at ha
    obtain ⟨bl, n, c, hv, h1, h2, h3⟩ := rep_el ha
    split at h
    · rename_i sz es hσ
      split at h
      · rename_i el he
        split at h
        · rename_i hle
          obtain ⟨v', hp, hev⟩ := Option.map_eq_some_iff.1 h
          cases hev
          obtain ⟨h4, h5, hsz, vs, E, lo, hi', h6, h7, h8, h9⟩ := obj_arr hs hσ h2 h3
          have hel := hsz el (List.mem_of_getElem? he)
          have hq : o / sz < es.length := (List.getElem?_eq_some_iff.1 he).1
          have hb : (o / sz + 1) * sz ≤ c * sz := Nat.mul_le_mul_right _ (by omega)
          rw [Nat.add_mul, Nat.one_mul] at hb
          have hdm : o = o / sz * sz + o % sz := by have := Nat.div_add_mod o sz; rw [Nat.mul_comm] at this; exact this.symm
          have hp' : partA i (el.map .t) (o % sz) = some v := by
            unfold partT at hp
            unfold partA
            split at hp
            · rename_i hagg
              rw [if_pos hagg, List.length_map, if_pos hle]
              simpa only [List.map_take, List.map_drop] using hp
            · rename_i hagg
              rw [if_neg hagg, List.getElem?_map]
              exact hp
          obtain ⟨u, h10, h11⟩ := load_rep hi (a := ⟨bl, o, none⟩) (fun k x hk => by
            rw [List.getElem?_map] at hk
            obtain ⟨c', hc', rfl⟩ := Option.map_eq_some_iff.1 hk
            have hlt : o % sz + k < el.length := (List.getElem?_eq_some_iff.1 hc').1
            have hlt2 : o + k < vs.size := by omega
            refine ⟨vs[o + k], ?_, .t (h9 (o / sz) (o % sz + k) el c' _ he hc' ?_)⟩
            · rw [add_off, cell_in h6, Array.getElem?_eq_getElem hlt2]
            · rw [show o / sz * sz + (o % sz + k) = o + k by omega, Array.getElem?_eq_getElem hlt2]) hp'
          exact ⟨rfl, u, by simp only [Instr.loadAt, Sem.run_bind, hv, Instr.sureAddr, Sem.run_pure, Result.andThen_ok, h10], h11⟩
        · cases h
      · cases h
    · cases h
  · cases h

theorem storeVar_run {t : TypeId} {i : TI} (hi : TT P t = some i) {a : Addr} {x : Value} (hx : x.cells.size = i.size) {w' : World} (h : (storeCells a x.cells.toList).run P w = .ok () w') : (storeVar t a x).run P w = .ok () w' := by
  simp only [storeVar, Sem.run_bind, run_size hi, Result.andThen_ok]
  rw [if_neg (by omega)]
  exact h

theorem store_sound (hs : Sim C σ w) (hρ : ∀ x, RepA w C (ρa x) (ρ x)) {t : TypeId} {a x : Operand} {v : AV} {e : Eff} (h : evalS P σ C.nx ρa (.store t a x) = some (v, e)) :
    v = .tup [] ∧ ∃ w' σ', (Instr.storeAt t (ρ a) (ρ x)).run P w = .ok () w' ∧ (e.on σ C.nx).1 = σ' ∧ (e.on σ C.nx).2 = C.nx ∧ Sim C σ' w' ∧ Step C σ w C σ' w' := by
  simp only [evalS] at h
  have ha := hρ a
  have hx := hρ x
  split at h
  · rename_i i b o hi hc
    rw [hc] at ha
    obtain ⟨bl, hv, h1, h2⟩ := rep_ptr ha
    split at h
    · rename_i cs hσ
      split at h
      · rename_i c hcells
        split at h
        · rename_i hcond
          obtain ⟨hcl, hleaf, hle⟩ := hcond
          cases h
          obtain ⟨vs, E, h3, h4, h5⟩ := obj_box hs hσ h2
          obtain ⟨h6, h7⟩ := cells_rep hcells hx
          have hone := leafs_one h6 h7 (fun a ha => by simpa using List.all_eq_true.1 hleaf a ha)
          obtain ⟨w', vs', e1, e2, e3, e4, e5, e6, e7, e8, e9⟩ := run_stores (P := P) bl o E 0 0 (ρ x).cells.toList 0 vs w h3 (by simp; omega) hone (.inl rfl)
          have hd : σ b ≠ .dead := by rw [hσ]; exact fun h => by cases h
          have hk : Keeps w C.imm w' C.imm := ⟨fun b h => h, fun b' h => e5 b' fun e => hs.sep b bl hd h2 (e ▸ h)⟩
          have hcc : CtxLe C C := ⟨Nat.le_refl _, fun _ _ => rfl, fun _ _ => rfl⟩
          obtain ⟨g1, g2⟩ := sim_set hs hd h2 e7 e8 e9 e6 e5 (obj := .box (setCells cs o c)) ⟨bl, vs', E, h2, e2, by rw [setCells_length]; omega, fun k y u hy hu => by
            rw [setCells_get _ _ _ _ (by omega)] at hy
            rw [e4 k] at hu
            simp only [Nat.add_zero, Array.length_toList, ← h6] at hu
            split at hy
            · rename_i hk'
              rw [if_pos hk', Array.getElem?_toList] at hu
              exact (h7 _ _ _ hy hu).keeps hk hcc
            · rename_i hk'
              rw [if_neg hk'] at hu
              exact (h5 _ _ _ hy hu).keeps hk hcc⟩
          refine ⟨rfl, w', _, ?_, rfl, rfl, g1, g2⟩
          simp only [Instr.storeAt, Sem.run_bind, hv, Instr.sureAddr, Sem.run_pure, Result.andThen_ok]
          exact storeVar_run hi (by omega) e1
        · cases h
      · cases h
    · cases h
  · rename_i i q o hi hc
    rw [hc] at ha
    obtain ⟨bl, n, cap, hv, h1, h2, h3⟩ := rep_el ha
    split at h
    · rename_i sz es c hσ hcb
      split at h
      · rename_i el he
        split at h
        · rename_i hcond
          obtain ⟨hcl, hle⟩ := hcond
          cases h
          obtain ⟨cs, hcells, hts⟩ := Option.bind_eq_some_iff.1 hcb
          obtain ⟨h4, h5, hsz, vs, E, lo, hi', h6, h7, h8, h9⟩ := obj_arr hs hσ h2 h3
          obtain ⟨hxl, hxr⟩ := cells_rep hcells hx
          obtain ⟨htl, htr⟩ := toTs_rep hts
          have hone := leafs_one hxl hxr (fun y hy => by
            obtain ⟨k, hk, rfl⟩ := List.getElem_of_mem hy
            exact toT_leaf (htr k _ (c[k]'(by omega)) (List.getElem?_eq_getElem hk) (List.getElem?_eq_getElem (by omega))))
          have hel := hsz el (List.mem_of_getElem? he)
          have hq : o / sz < es.length := (List.getElem?_eq_some_iff.1 he).1
          have hb : (o / sz + 1) * sz ≤ cap * sz := Nat.mul_le_mul_right _ (by omega)
          rw [Nat.add_mul, Nat.one_mul] at hb
          have hdm : o = o / sz * sz + o % sz := by have := Nat.div_add_mod o sz; rw [Nat.mul_comm] at this; exact this.symm
          obtain ⟨w', vs', e1, e2, e3, e4, e5, e6, e7, e8, e9⟩ := run_stores (P := P) bl o E lo hi' (ρ x).cells.toList 0 vs w h6 (by simp; omega) hone (by rw [h7]; exact h8)
          have hd : σ q ≠ .dead := by rw [hσ]; exact fun h => by cases h
          have hk : Keeps w C.imm w' C.imm := ⟨fun b h => h, fun b' h => e5 b' fun e => hs.sep q bl hd h2 (e ▸ h)⟩
          have hlen' : (es.set (o / sz) (setCells el (o % sz) c)).length = es.length := List.length_set
          obtain ⟨g1, g2⟩ := sim_set hs hd h2 e7 e8 e9 e6 e5 (obj := .arr sz (es.set (o / sz) (setCells el (o % sz) c))) ⟨fun y hy => by
              rcases List.mem_or_eq_of_mem_set hy with h | rfl
              · exact hsz y h
              · rw [setCells_length]; exact hel,
            .inr ⟨bl, cap, vs', E, lo, hi', h2, by rw [hlen']; rw [h3, h4], by omega, e2, by omega, h8, fun j k y cc u hy hcc hu => by
              rw [e4] at hu
              simp only [Nat.add_zero, Array.length_toList, ← hxl] at hu
              rw [List.getElem?_set] at hy
              by_cases hj : o / sz = j
              · subst hj
                rw [if_pos rfl, if_pos hq] at hy
                cases hy
                rw [setCells_get _ _ _ _ (by omega)] at hcc
                by_cases hin : o % sz ≤ k ∧ k < o % sz + c.length
                · rw [if_pos hin] at hcc
                  rw [if_pos (by omega), Array.getElem?_toList] at hu
                  have hkk : o / sz * sz + k - o = k - o % sz := by omega
                  rw [hkk] at hu
                  have hlt : k - o % sz < cs.length := by omega
                  have := toT_rep (htr _ _ _ (List.getElem?_eq_getElem hlt) hcc) (hxr _ _ _ (List.getElem?_eq_getElem hlt) hu)
                  exact this.keeps hk
                · rw [if_neg hin] at hcc
                  have hkl : k < el.length := (List.getElem?_eq_some_iff.1 hcc).1
                  rw [if_neg (by omega)] at hu
                  exact (h9 _ _ _ _ _ he hcc hu).keeps hk
              · rw [if_neg hj] at hy
                have hkl : k < y.length := (List.getElem?_eq_some_iff.1 hcc).1
                rw [hsz y (List.mem_of_getElem? hy)] at hkl
                have hne : ¬ (o ≤ j * sz + k ∧ j * sz + k < o + cs.length) := by
                  rcases Nat.lt_or_gt_of_ne hj with hlt | hgt
                  · have : (o / sz + 1) * sz ≤ j * sz := Nat.mul_le_mul_right _ hlt
                    rw [Nat.add_mul, Nat.one_mul] at this
                    omega
                  · have : (j + 1) * sz ≤ o / sz * sz := Nat.mul_le_mul_right _ hgt
                    rw [Nat.add_mul, Nat.one_mul] at this
                    omega
                rw [if_neg hne] at hu
                exact (h9 _ _ _ _ _ hy hcc hu).keeps hk⟩⟩
          refine ⟨rfl, w', _, ?_, rfl, rfl, g1, g2⟩
          simp only [Instr.storeAt, Sem.run_bind, hv, Instr.sureAddr, Sem.run_pure, Result.andThen_ok]
          exact storeVar_run hi (by omega) e1
        · cases h
      · cases h
    · cases h
  · cases h

end
end Go.Proofs.Ytibmjinfdcmbdaa.R
