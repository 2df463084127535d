/- R10: every operation but a call of a function is met. -/
import Derived.Test.YtibmjinfdcmbdaaR9
import Derived.Lib.ConvBytes
namespace Go.Proofs.Ytibmjinfdcmbdaa.R
open Go.RowKit

section
variable {P : Program} {w : World} {C : Ctx} {σ : Nat → AObj} {ρa : Operand → AV} {ρ : Operand → Value}

theorem newrow_run (E : TypeId) (vs : Array Value) (w : World) : (newRow E vs).run P w = .ok ⟨w.heap.size, 0, none⟩ { w with heap := w.heap.push (.cells vs E) } := by
  simp [newRow]

/-- A row is continued, or one is begun. -/
theorem append_sound (hs : Sim C σ w) {t t' e : TypeId} {i i0 i1 : TI} (ht : TT P t = some i0) (hd : i0.desc = .slice e) (ht' : TT P t' = some i1) (hd' : ∀ k, i1.desc ≠ .int k) (he : TT P e = some i)
    (hzz : i.zero.cells.size = i.size) (hb : i.bytes ≤ 1024) {ys : List (List T)} {x : Value} (hx : Src P w C x ys i.size) {a : AV} {s : Value} (ha : RepA w C a s) (ty : TypeId) {v : AV} {ef : Eff}
    (h : appA σ C.nx i.size ys a = some (v, ef)) :
    ∃ C' w' u, (Builtin.append_ #[t, t'] ty #[s, x]).run P w = .ok u w' ∧ Step C σ w C' (ef.on σ C.nx).1 w' ∧ Sim C' (ef.on σ C.nx).1 w' ∧ C'.nx = (ef.on σ C.nx).2 ∧ RepA w' C' v u := by
  -- a new row, whatever was there
  have fresh : ∀ (σ0 : Nat → AObj) (es : List (List T)) (base : Option Addr) (cap : Nat), Sim C σ0 w → s = .slice base es.length cap → Elems w C.imm es i.size base → es.length + ys.length ≤ mostLen → cap < es.length + ys.length →
      ∃ C' w' u, (Builtin.append_ #[t, t'] ty #[s, x]).run P w = .ok u w' ∧ Step C σ0 w C' (fun j => if j = C.nx then .arr i.size (es ++ ys) else σ0 j) w' ∧ Sim C' (fun j => if j = C.nx then .arr i.size (es ++ ys) else σ0 j) w' ∧ C'.nx = C.nx + 1 ∧ RepA w' C' (.ref C.nx) u := by
    intro σ0 es base cap hs0 hv hel hlen hcap
    subst hv
    obtain ⟨nc, vs, g1, g2, g3, g4⟩ := append_new ht hd ht' hd' he hb hzz hx hel hlen hcap ty
    obtain ⟨s1, s2⟩ := sim_world hs0 (w' := { w with drawn := w.drawn + 1 }) rfl rfl rfl rfl
    obtain ⟨C', hC⟩ : ∃ C' : Ctx, C' = ⟨C.imm, fun j => if j = C.nx then some w.heap.size else C.own j, fun j => if j = C.nx then .slice (some ⟨w.heap.size, 0, none⟩) (es ++ ys).length nc else C.hdr j, C.nx + 1⟩ := ⟨_, rfl⟩
    have hk : Keeps w C.imm { w with drawn := w.drawn + 1, heap := w.heap.push (.cells vs e) } C'.imm := by
      subst hC
      exact ⟨fun b h => h, fun b h => push_old { w with drawn := w.drawn + 1 } _ (hs0.imm_lt b h)⟩
    have ho : C'.own C.nx = some w.heap.size := by subst hC; exact if_pos rfl
    have hh : C'.hdr C.nx = .slice (some ⟨w.heap.size, 0, none⟩) (es ++ ys).length nc := by subst hC; exact if_pos rfl
    obtain ⟨s3, s4⟩ := sim_new s1 (.cells vs e) (.arr i.size (es ++ ys)) (.slice (some ⟨w.heap.size, 0, none⟩) (es ++ ys).length nc) C' hC
      ⟨appended_at hel.1 hx.each, .inr ⟨w.heap.size, nc, vs, e, 0, 0, ho, hh, by rw [List.length_append]; exact g1, push_new { w with drawn := w.drawn + 1 } _, g3, .inl rfl, fun j k l c u h1 h2 h3 => (g4 j k l c u h1 h2 h3).keeps hk⟩⟩
    exact ⟨C', _, _, g2, s2.trans s4, s3, by rw [hC], .ref (by rw [hC]; exact Nat.lt_succ_self _) hh⟩
  unfold appA at h
  split at h
  · rename_i _ es
    split at h
    · rename_i hcond
      obtain ⟨h0, hlen, hse, hsy⟩ := hcond
      cases h
      obtain ⟨b, hv, hr⟩ := rep_fsl ha
      rw [hv] at hr
      rcases Nat.eq_zero_or_pos ys.length with hy | hy
      · have hy0 : ys = [] := List.eq_nil_of_length_eq_zero hy
        subst hy0
        have he0 : es = [] := by rcases h0 with h | h; exact h; exact absurd rfl h
        subst he0
        have hrun := append_none ht hd ht' hd' he hx b 0 0 (Nat.le_refl _) ty
        obtain ⟨C', hC⟩ : ∃ C' : Ctx, C' = ⟨C.imm, fun j => if j = C.nx then none else C.own j, fun j => if j = C.nx then .slice b 0 0 else C.hdr j, C.nx + 1⟩ := ⟨_, rfl⟩
        have ho : C'.own C.nx = none := by subst hC; exact if_pos rfl
        have hh : C'.hdr C.nx = .slice b 0 0 := by subst hC; exact if_pos rfl
        obtain ⟨s3, s4⟩ := sim_new0 hs (.arr i.size ([] ++ [])) (.slice b 0 0) C' hC ⟨fun e he => by simp at he, .inl ⟨rfl, ho, b, hh⟩⟩
        refine ⟨C', w, .slice b 0 0, by rw [hv]; exact hrun, s4, s3, by rw [hC]; rfl, .ref (by rw [hC]; exact Nat.lt_succ_self _) hh⟩
      · exact fresh σ es b es.length hs hv (sl_elems hr hse) hlen (by omega)
    · cases h
  · rename_i _ q
    split at h
    · rename_i sz es hσ
      split at h
      · rename_i hcond
        obtain ⟨hsz, hlen, hsy⟩ := hcond
        cases h
        subst hsz
        obtain ⟨b, n, c, hv, hq, hhq⟩ := rep_ref ha
        have ho := hs.obj q
        rw [hσ] at ho
        rw [hv] at hhq
        obtain ⟨h3, h4, h5⟩ := arr_elems ho hhq
        subst h3
        have hqd : σ q ≠ .dead := by rw [hσ]; exact fun h => by cases h
        obtain ⟨s1, s2⟩ := sim_kill hs q
        have heq : ∀ o, (fun j => if j = C.nx then o else if j = q then AObj.dead else σ j) = ((Eff.next q o).on σ C.nx).1 := fun o => rfl
        rcases Nat.lt_or_ge c (es.length + ys.length) with hcap | hcap
        · obtain ⟨C', w', u, g1, g2, g3, g4, g5⟩ := fresh _ es b c s1 hv h5 hlen hcap
          exact ⟨C', w', u, g1, s2.trans g2, g3, g4, g5⟩
        · obtain ⟨hszz, ho⟩ := ho
          rcases ho with ⟨he0, ho1, a', ho2⟩ | ⟨bl, cap, vs, E, lo, hi, ho1, ho2, ho3, ho4, ho5, ho6, ho7⟩
          · subst he0
            rw [hhq] at ho2
            cases ho2
            have hy0 : ys = [] := List.eq_nil_of_length_eq_zero (by have := hcap; simp only [List.length_nil] at this; omega)
            subst hy0
            have hrun := append_none ht hd ht' hd' he hx b 0 0 (Nat.le_refl _) ty
            obtain ⟨C', hC⟩ : ∃ C' : Ctx, C' = ⟨C.imm, fun j => if j = C.nx then none else C.own j, fun j => if j = C.nx then .slice b 0 0 else C.hdr j, C.nx + 1⟩ := ⟨_, rfl⟩
            have ho : C'.own C.nx = none := by subst hC; exact if_pos rfl
            have hh : C'.hdr C.nx = .slice b 0 0 := by subst hC; exact if_pos rfl
            obtain ⟨s3, s4⟩ := sim_new0 s1 (.arr i.size ([] ++ [])) (.slice b 0 0) C' hC ⟨fun e he => by simp at he, .inl ⟨rfl, ho, b, hh⟩⟩
            refine ⟨C', w, .slice b 0 0, by rw [hv]; exact hrun, s2.trans s4, s3, by rw [hC]; rfl, .ref (by rw [hC]; exact Nat.lt_succ_self _) hh⟩
          · rw [hhq] at ho2
            cases ho2
            obtain ⟨w', vs', g1, g2, g3, g4, g5, g6, g7, g8, g9⟩ := append_in ht hd ht' hd' he hx (fun y _ v hv => repT_one hv) hszz ho4 ho5 ho6 ho7 hcap ty
            -- the old object ends, the new one has its block
            obtain ⟨C', hC⟩ : ∃ C' : Ctx, C' = ⟨C.imm, fun j => if j = C.nx then some bl else C.own j, fun j => if j = C.nx then .slice (some ⟨bl, 0, none⟩) (es ++ ys).length c else C.hdr j, C.nx + 1⟩ := ⟨_, rfl⟩
            have himm : C'.imm = C.imm := by rw [hC]
            have hnx : C'.nx = C.nx + 1 := by rw [hC]
            have hown : ∀ j, C'.own j = if j = C.nx then some bl else C.own j := fun j => by rw [hC]
            have hh : C'.hdr C.nx = .slice (some ⟨bl, 0, none⟩) (es ++ ys).length c := by rw [hC]; exact if_pos rfl
            have hk : Keeps w C.imm w' C'.imm := by rw [himm]; exact ⟨fun b h => h, fun b h => g4 b fun e => hs.sep q bl hqd ho1 (e ▸ h)⟩
            have hcc : CtxLe C C' := by
              subst hC
              exact ⟨Nat.le_succ _, fun i hi => if_neg (by omega), fun i hi => if_neg (by omega)⟩
            have live : ∀ j, j ≠ C.nx → (if j = C.nx then AObj.arr i.size (es ++ ys) else if j = q then .dead else σ j) ≠ .dead → j ≠ q ∧ σ j ≠ .dead := by
              intro j hj h
              rw [if_neg hj] at h
              by_cases ej : j = q
              · rw [if_pos ej] at h; exact absurd rfl h
              · rw [if_neg ej] at h; exact ⟨ej, h⟩
            refine ⟨C', w', _, by rw [hv]; exact g1, ⟨hcc, g6, g7, g8, by omega, fun b h => by rw [himm]; exact h, fun b _ hm => g4 b fun e => hm ⟨q, hqd, e ▸ ho1⟩, fun b h => ?_, fun b h => .inl (by rw [himm] at h; exact h)⟩,
              ⟨fun j hj => ?_, fun j => ?_, fun j k b hj hk' e1 e2 => ?_, fun j b hj hb => ?_, fun b h => by rw [himm] at h; rw [g5]; exact hs.imm_lt b h⟩, hnx, .ref (by rw [hnx]; exact Nat.lt_succ_self _) hh⟩
            · obtain ⟨j, hj, hb⟩ := h
              rw [hown] at hb
              by_cases ej : j = C.nx
              · rw [if_pos ej] at hb; cases hb; exact .inl ⟨q, hqd, ho1⟩
              · rw [if_neg ej] at hb; exact .inl ⟨j, (live j ej hj).2, hb⟩
            · rw [hnx] at hj
              show (if j = C.nx then _ else if j = q then AObj.dead else σ j) = _
              rw [if_neg (by omega)]
              split
              · rfl
              · exact hs.dead j (by omega)
            · show RepO w' C' j (if j = C.nx then _ else if j = q then AObj.dead else σ j)
              by_cases ej : j = C.nx
              · rw [if_pos ej]
                subst ej
                exact ⟨appended_at hszz hx.each, .inr ⟨bl, c, vs', E, lo, hi, by rw [hown]; exact if_pos rfl, hh, by rw [List.length_append]; exact hcap, g2, g3, ho6, fun j k l cc u h1 h2 h3 => (g9 j k l cc u h1 h2 h3).keeps hk⟩⟩
              · rw [if_neg ej]
                by_cases eq : j = q
                · rw [if_pos eq]; exact True.intro
                · rw [if_neg eq]
                  by_cases hdj : σ j = .dead
                  · rw [hdj]; exact True.intro
                  · exact (hs.obj j).step hk hcc (live_lt hs hdj) (fun b hb => g4 b fun e => eq (hs.inj j q bl hdj hqd (e ▸ hb) ho1))
            · rw [hown] at e1 e2
              by_cases ej : j = C.nx <;> by_cases ek : k = C.nx
              · omega
              · rw [if_pos ej] at e1; rw [if_neg ek] at e2; cases e1
                obtain ⟨f1, f2⟩ := live k ek hk'
                exact absurd (hs.inj k q bl f2 hqd e2 ho1) f1
              · rw [if_neg ej] at e1; rw [if_pos ek] at e2; cases e2
                obtain ⟨f1, f2⟩ := live j ej hj
                exact absurd (hs.inj j q bl f2 hqd e1 ho1) f1
              · rw [if_neg ej] at e1; rw [if_neg ek] at e2
                exact hs.inj j k b (live j ej hj).2 (live k ek hk').2 e1 e2
            · rw [himm]
              rw [hown] at hb
              by_cases ej : j = C.nx
              · rw [if_pos ej] at hb; cases hb; exact hs.sep q bl hqd ho1
              · rw [if_neg ej] at hb; exact hs.sep j b (live j ej hj).2 hb
      · cases h
    · cases h
  · cases h


theorem zero_flat {z : List T} {n : Nat} : ∀ e ∈ List.replicate n z, e.length = z.length := by
  intro e he
  rw [(List.mem_replicate.1 he).2]

theorem mod_get {z : Array Value} {n m : Nat} (h : n < m * z.size) : ((Array.range (m * z.size)).map (z[· % z.size]!))[n]? = z[n % z.size]? := by
  have hz : 0 < z.size := by
    rcases Nat.eq_zero_or_pos z.size with h0 | h0
    · rw [h0] at h; simp at h
    · exact h0
  have hm := Nat.mod_lt n hz
  rw [Array.getElem?_map, Array.getElem?_range, if_pos h]
  simp [hm]

/-- What is known of a type's zero value, closed. -/
theorem zeroT {i : TI} {z : List T} (h : toTs (zeroA i) = some z) : z.length = i.zero.cells.size ∧ ∀ (k : Nat) (c : T) (u : Value), z[k]? = some c → i.zero.cells[k]? = some u → RepT w C.imm c u := by
  obtain ⟨h1, h2⟩ := toTs_rep h
  obtain ⟨h3, h4⟩ := zero_rep (w := w) (C := C) i
  refine ⟨by omega, fun k c u hc hu => ?_⟩
  have hk : k < (zeroA i).length := by rw [h1]; exact (List.getElem?_eq_some_iff.1 hc).1
  exact toT_rep (h2 k _ c (List.getElem?_eq_getElem hk) hc) (h4 k _ u (List.getElem?_eq_getElem hk) hu)

/-- Elements laid into cells. -/
theorem fillT_rep {sz : Nat} {ps : List (Nat × AV)} : ∀ {qs : List (Nat × Value)} {es r : List (List T)} {vs : Array Value},
    ps.length = qs.length → (∀ (k : Nat) (a : Nat × AV) (q : Nat × Value), ps[k]? = some a → qs[k]? = some q → a.1 = q.1 ∧ RepA w C a.2 q.2) →
    (∀ e ∈ es, e.length = sz) → vs.size = es.length * sz → (∀ (j k : Nat) (e : List T) (c : T) (u : Value), es[j]? = some e → e[k]? = some c → vs[j * sz + k]? = some u → RepT w C.imm c u) →
    fillT sz es ps = some r → ∃ us, Instr.fill (fun i => some (i * sz, sz)) vs qs = some us ∧ us.size = r.length * sz ∧ r.length = es.length ∧ (∀ e ∈ r, e.length = sz) ∧
      ∀ (j k : Nat) (e : List T) (c : T) (u : Value), r[j]? = some e → e[k]? = some c → us[j * sz + k]? = some u → RepT w C.imm c u := by
  induction ps with
  | nil =>
    intro qs es r vs hl _ hsz hlen hr h
    cases qs with
    | cons q qs => simp at hl
    | nil => simp only [fillT] at h; cases h; exact ⟨vs, rfl, hlen, rfl, hsz, hr⟩
  | cons p ps ih =>
    intro qs es r vs hl hp hsz hlen hr h
    obtain ⟨i, a⟩ := p
    cases qs with
    | nil => simp at hl
    | cons q qs =>
      obtain ⟨h1, hra⟩ := hp 0 _ _ rfl rfl
      obtain ⟨i', v⟩ := q
      simp only at h1 hra
      subst h1
      simp only [fillT] at h
      split at h
      · rename_i c hc
        split at h
        · rename_i hcond
          obtain ⟨hcl, hi⟩ := hcond
          obtain ⟨cs, hcells, hts⟩ := Option.bind_eq_some_iff.1 hc
          obtain ⟨hxl, hxr⟩ := cells_rep hcells hra
          obtain ⟨htl, htr⟩ := toTs_rep hts
          have hb : (i + 1) * sz ≤ es.length * sz := Nat.mul_le_mul_right _ hi
          rw [Nat.add_mul, Nat.one_mul] at hb
          have hfold := fun k => foldSet_get v.cells.toList vs (i * sz) 0 k (by simp; omega)
          have hzip : v.cells.zipIdx.foldl (fun (cs : Array Value) (x : Value × Nat) => cs.setIfInBounds (i * sz + x.2) x.1) vs = (v.cells.toList.zipIdx 0).foldl (fun (cs : Array Value) (x : Value × Nat) => cs.setIfInBounds (i * sz + x.2) x.1) vs := by
            rw [← Array.foldl_toList, Array.toList_zipIdx]
          obtain ⟨us, hus, g1, g2, g3, g4⟩ := ih (qs := qs) (es := es.set i c) (r := r) (vs := (v.cells.toList.zipIdx 0).foldl (fun (cs : Array Value) (x : Value × Nat) => cs.setIfInBounds (i * sz + x.2) x.1) vs)
            (by simpa using hl) (fun k a q ha hq => hp (k + 1) a q ha hq)
            (fun e he => by rcases List.mem_or_eq_of_mem_set he with h | rfl; exact hsz e h; exact hcl)
            (by rw [(hfold 0).1, List.length_set]; exact hlen)
            (fun j k e cc u he hcc hu => by
              rw [(hfold _).2] at hu
              simp only [Nat.add_zero, Array.length_toList, ← hxl] at hu
              rw [List.getElem?_set] at he
              by_cases hj : i = j
              · subst hj
                rw [if_pos rfl, if_pos hi] at he
                cases he
                have hkl : k < c.length := (List.getElem?_eq_some_iff.1 hcc).1
                rw [if_pos (by omega), Array.getElem?_toList, show i * sz + k - i * sz = k by omega] at hu
                have hlt : k < cs.length := by omega
                exact toT_rep (htr _ _ _ (List.getElem?_eq_getElem hlt) hcc) (hxr _ _ _ (List.getElem?_eq_getElem hlt) hu)
              · rw [if_neg hj] at he
                have hkl : k < e.length := (List.getElem?_eq_some_iff.1 hcc).1
                rw [hsz e (List.mem_of_getElem? he)] at hkl
                have hne : ¬ (i * sz ≤ j * sz + k ∧ j * sz + k < i * sz + cs.length) := by
                  rcases Nat.lt_or_gt_of_ne hj with hlt | hgt
                  · have : (i + 1) * sz ≤ j * sz := Nat.mul_le_mul_right _ hlt
                    rw [Nat.add_mul, Nat.one_mul] at this
                    omega
                  · have : (j + 1) * sz ≤ i * sz := Nat.mul_le_mul_right _ hgt
                    rw [Nat.add_mul, Nat.one_mul] at this
                    omega
                rw [if_neg hne] at hu
                exact hr j k e cc u he hcc hu) h
          refine ⟨us, ?_, g1, by rw [g2, List.length_set], g3, g4⟩
          simp only [Instr.fill]
          rw [if_neg (by simp; omega)]
          exact (congrArg (fun z => Instr.fill (fun i => some (i * sz, sz)) z qs) hzip).trans hus
        · cases h
      · cases h

theorem buildSlice_strong (hs : Sim C σ w) (hρ : ∀ x, RepA w C (ρa x) (ρ x)) {t : TypeId} {n : Nat} {parts : Array (Nat × Operand)} {v : AV} (h : evalP P ρa (.buildSlice t n parts) = some v) :
    ∃ us e r, (Instr.buildSlice t n (parts.map fun (i, x) => (i, ρ x))).run P w = .ok (.slice (some ⟨w.heap.size, 0, none⟩) n n) { w with heap := w.heap.push (.cells us e) } ∧ v = .fsl r ∧ r.length = n ∧ (∃ sz b z, TT P t = some ⟨.slice e, sz, b, z⟩) ∧
      (∃ i, TT P e = some i ∧ us.size = r.length * i.size ∧ (∀ x ∈ r, x.length = i.size) ∧ ∀ (j k : Nat) (l : List T) (c : T) (u : Value), r[j]? = some l → l[k]? = some c → us[j * i.size + k]? = some u → RepT w C.imm c u) ∧
      ∀ fr, RepT { w with heap := w.heap.push (.cells us e fr) } (fun b => C.imm b ∨ b = w.heap.size) (.sl r) (.slice (some ⟨w.heap.size, 0, none⟩) n n) := by
  simp only [evalP] at h
  split at h
  · rename_i e sz by_ z ht
    split at h
    · rename_i i hi
      split at h
      · cases h
      · rename_i hsmall
        split at h
        · rename_i zt hz
          obtain ⟨r, hr, rfl⟩ := Option.map_eq_some_iff.1 h
          have hps : (parts.toList.map fun p => (p.1, ρa p.2)).length = (parts.map fun (i, x) => (i, ρ x)).toList.length := by simp
          have hpr : ∀ (k : Nat) (a : Nat × AV) (q : Nat × Value), (parts.toList.map fun p => (p.1, ρa p.2))[k]? = some a → (parts.map fun (i, x) => (i, ρ x)).toList[k]? = some q → a.1 = q.1 ∧ RepA w C a.2 q.2 := by
            intro k a q ha hq
            simp only [List.getElem?_map, Array.toList_map, Option.map_eq_some_iff] at ha hq
            obtain ⟨p, hp, rfl⟩ := ha
            obtain ⟨p', hp', rfl⟩ := hq
            rw [hp] at hp'
            cases hp'
            exact ⟨rfl, hρ _⟩
          obtain ⟨hzl, hzr⟩ := zeroT (w := w) (C := C) hz
          have hzz := tt_zero hi
          have hzs : ∀ e ∈ List.replicate n zt, e.length = i.size := fun e he => by rw [zero_flat e he]; omega
          -- the zero cells
          obtain ⟨vs0, hv0, hv1, hv2⟩ : ∃ vs0 : Array Value, (∀ w : World, (if n * i.size = 0 then pure #[] else (do pure (← zeroValue e).cells : Sem (Array Value))).run P w = .ok (if n * i.size = 0 then #[] else i.zero.cells) w) ∧
              vs0 = (Array.range (n * i.size)).map ((if n * i.size = 0 then #[] else i.zero.cells)[· % (if n * i.size = 0 then #[] else i.zero.cells).size]!) ∧ vs0.size = (List.replicate n zt).length * i.size := by
            refine ⟨_, fun w => ?_, rfl, by simp⟩
            by_cases h0 : n * i.size = 0
            · rw [if_pos h0, if_pos h0]; rfl
            · rw [if_neg h0, if_neg h0]
              simp only [Sem.run_bind, run_zero hi, Result.andThen_ok, Sem.run_pure]
          have hvr : ∀ (j k : Nat) (l : List T) (c : T) (u : Value), (List.replicate n zt)[j]? = some l → l[k]? = some c → vs0[j * i.size + k]? = some u → RepT w C.imm c u := by
            intro j k l c u hl hc hu
            have hj : j < n := by simpa using (List.getElem?_eq_some_iff.1 hl).1
            have hlz : l = zt := by
              have := List.mem_of_getElem? hl
              exact (List.mem_replicate.1 this).2
            subst hlz
            have hk : k < i.size := by have := (List.getElem?_eq_some_iff.1 hc).1; omega
            have hb : (j + 1) * i.size ≤ n * i.size := Nat.mul_le_mul_right _ hj
            rw [Nat.add_mul, Nat.one_mul] at hb
            have hne : n * i.size ≠ 0 := by omega
            rw [← hzz] at hb hk hne
            rw [hv1, if_neg (by rw [← hzz]; exact hne), ← hzz] at hu
            rw [mod_get (by omega), show (j * i.zero.cells.size + k) % i.zero.cells.size = k by rw [Nat.mul_comm, Nat.mul_add_mod, Nat.mod_eq_of_lt (by omega)]] at hu
            exact hzr k c u hc hu
          obtain ⟨us, hus, g1, g2, g3, g4⟩ := fillT_rep hps hpr hzs hv2 hvr hr
          have hrl : r.length = n := by rw [g2]; simp
          refine ⟨us, e, r, ?_, rfl, hrl, ⟨_, _, _, ht⟩, ⟨i, hi, by rw [g1, g2], g3, g4⟩, fun fr => ?_⟩
          · simp only [Instr.buildSlice, Sem.run_bind, run_und ht, Result.andThen_ok, run_size hi]
            rw [if_neg hsmall]
            rw [hv1] at hus
            by_cases h0 : n * i.size = 0
            · rw [if_pos h0] at hus ⊢
              simp only [Sem.run_bind, Sem.run_pure, Result.andThen_ok, hus, newrow_run]
            · rw [if_neg h0] at hus ⊢
              simp only [Sem.run_bind, Sem.run_pure, run_zero hi, Result.andThen_ok, hus, newrow_run]
          · obtain ⟨s1, s2⟩ := sim_imm hs (.cells us e fr)
            have hk := s2.keeps hs
            rw [← hrl]
            rcases Nat.eq_zero_or_pos r.length with h0 | h0
            · have : r = [] := List.eq_nil_of_length_eq_zero h0
              subst this
              exact .nil
            · refine .sl (u := fun k => us.getD k undef) h0 g3 (Nat.le_refl _) (.inr rfl) (fun k hk' => ?_) (fun j k l c hl hc => ?_)
              · rw [add_base, cell_in (push_new w _)]
                have : k < us.size := by omega
                simp [this]
              · have hj : j < r.length := (List.getElem?_eq_some_iff.1 hl).1
                have hkk : k < i.size := by have := (List.getElem?_eq_some_iff.1 hc).1; rw [g3 l (List.mem_of_getElem? hl)] at this; exact this
                have hb : (j + 1) * i.size ≤ r.length * i.size := Nat.mul_le_mul_right _ hj
                rw [Nat.add_mul, Nat.one_mul] at hb
                have hlt : j * i.size + k < us.size := by omega
                have := g4 j k l c _ hl hc (Array.getElem?_eq_getElem hlt)
                simpa [hlt] using this.keeps hk
        · cases h
    · cases h
  · cases h


theorem buildSlice_sound (hs : Sim C σ w) (hρ : ∀ x, RepA w C (ρa x) (ρ x)) {t : TypeId} {n : Nat} {parts : Array (Nat × Operand)} {v : AV} (h : evalP P ρa (.buildSlice t n parts) = some v) :
    ∃ C' w' u, (Instr.buildSlice t n (parts.map fun (i, x) => (i, ρ x))).run P w = .ok u w' ∧ Step C σ w C' σ w' ∧ Sim C' σ w' ∧ C'.nx = C.nx ∧ RepA w' C' v u := by
  obtain ⟨us, e, r, h1, rfl, h2, _, _, h3⟩ := buildSlice_strong hs hρ h
  obtain ⟨s1, s2⟩ := sim_imm hs (.cells us e)
  have := h3 (0, 0)
  rw [← h2] at h1 this
  exact ⟨_, _, _, by rw [h2] at h1 ⊢; exact h1, s2, s1, rfl, .fsl this⟩

theorem grown_ge (w : World) (n o : Nat) (e : TypeId) : n ≤ grownCap w n o e := by
  unfold grownCap
  simp [Question.cut]

theorem bytesT_rep (w : World) (e : TypeId) (s : ByteArray) (imm : Nat → Prop) (hi : imm w.heap.size) : RepT (Lib.bytesWorld w e s) imm (.sl (bytesT s)) (.slice (some ⟨w.heap.size, 0, none⟩) s.size (grownCap w s.size 0 e)) := by
  have hl : (bytesT s).length = s.size := by unfold bytesT; rw [List.length_map, Array.length_toList]; rfl
  have hsz : ∀ x ∈ bytesT s, x.length = 1 := by
    intro x hx
    simp only [bytesT, List.mem_map] at hx
    obtain ⟨b, _, rfl⟩ := hx
    rfl
  rw [← hl]
  rcases Nat.eq_zero_or_pos (bytesT s).length with h0 | h0
  · have : bytesT s = [] := List.eq_nil_of_length_eq_zero h0
    rw [this]
    exact .nil
  · refine .sl (u := fun k => .int .u8 (s.data.toList.getD k 0).toNat) h0 hsz (by rw [hl]; exact grown_ge _ _ _ _) hi (fun k hk => ?_) (fun j k x c hx hc => ?_)
    · rw [add_base, Lib.bytesWorld_cell w e s k (by omega)]
    · simp only [bytesT, List.getElem?_map, Option.map_eq_some_iff] at hx
      obtain ⟨b, hb, rfl⟩ := hx
      cases k with
      | succ k => simp at hc
      | zero =>
        simp at hc
        subst hc
        have : s.data.toList.getD j 0 = b := by simp [List.getD_eq_getElem?_getD, hb]
        simp only [Nat.mul_one, Nat.add_zero, this]
        exact .v rfl

/-- A string's bytes, as a slice that isn't written. -/
theorem convert_sound (hs : Sim C σ w) (hρ : ∀ x, RepA w C (ρa x) (ρ x)) {s d : TypeId} {x : Operand} {z : ByteArray} (hx : ρa x = .t (.v (.string z))) {v : AV} (h : evalP P ρa (.convert s d x) = some v) :
    ∃ C' w' u, (convert s d (ρ x)).run P w = .ok u w' ∧ Step C σ w C' σ w' ∧ Sim C' σ w' ∧ C'.nx = C.nx ∧ RepA w' C' v u := by
  have hr := hρ x
  rw [hx] at hr
  obtain ⟨hv, _⟩ := rep_v hr
  simp only [evalP, hx] at h
  split at h
  · rename_i heq; cases heq
  · rename_i heq; cases heq
  · rename_i heq; cases heq
  · rename_i hs' hd heq
    cases heq
    split at h
    · rename_i he
      cases h
      obtain ⟨s1, s2⟩ := sim_imm' hs (w' := Lib.bytesWorld w _ z) rfl rfl rfl (Lib.bytesWorld_size _ _ _) (fun b hb => Lib.bytesWorld_at_old w _ z b hb)
      refine ⟨_, _, _, by rw [hv]; exact Lib.run_convert_string_bytes w s d _ z (tt_some hs').1 (tt_some hd).1 (tt_some he).1, s2, s1, rfl, .t (bytesT_rep w _ z _ (.inr rfl))⟩
    · cases h
  · cases h

/-- What the abstract side says of any operation that looks at no object. -/
theorem evalP_sound (hs : Sim C σ w) (hρ : ∀ x, RepA w C (ρa x) (ρ x)) {o : Oper} {v : AV} (h : evalP P ρa o.op = some v) : Meets ((execOp ρ o).run P w) C σ w v σ C.nx := by
  obtain ⟨dst, op, type, pos, after, guard⟩ := o
  simp only at h
  by_cases h1 : ∃ t n ps, op = .buildSlice t n ps
  · obtain ⟨t, n, ps, rfl⟩ := h1
    obtain ⟨C', w', u, g1, g2, g3, g4, g5⟩ := buildSlice_sound hs hρ h
    exact ⟨C', w', u, .inl (by simp only [execOp, Sem.run_bind, g1, Result.andThen_ok, Sem.run_pure]), g2, g3, g4, g5⟩
  · by_cases h2 : ∃ s d x z, op = .convert s d x ∧ ρa x = .t (.v (.string z))
    · obtain ⟨s, d, x, z, rfl, hx⟩ := h2
      obtain ⟨C', w', u, g1, g2, g3, g4, g5⟩ := convert_sound hs hρ hx h
      exact ⟨C', w', u, .inl (by simp only [execOp, Sem.run_bind, g1, Result.andThen_ok, Sem.run_pure]), g2, g3, g4, g5⟩
    · obtain ⟨u, g1, g2⟩ := evalP_same hρ (o := ⟨dst, op, type, pos, after, guard⟩) (fun t n ps e => h1 ⟨t, n, ps, e⟩) (fun s d x z e hx => h2 ⟨s, d, x, z, e, hx⟩) h
      exact meets_value hs g1 g2

theorem makeSlice_sound (hs : Sim C σ w) (hρ : ∀ x, RepA w C (ρa x) (ρ x)) {t : TypeId} {l c : Operand} {v : AV} {e : Eff} (h : evalS P σ C.nx ρa (.makeSlice t l c) = some (v, e)) :
    ∃ C' w' u, (Instr.makeSlice t (ρ l) (ρ c)).run P w = .ok u w' ∧ Step C σ w C' (e.on σ C.nx).1 w' ∧ Sim C' (e.on σ C.nx).1 w' ∧ C'.nx = (e.on σ C.nx).2 ∧ RepA w' C' v u := by
  simp only [evalS] at h
  split at h
  · rename_i el sz by_ z n m ht hn hm
    split at h
    · rename_i i hi
      split at h
      · rename_i zt hz
        split at h
        · rename_i hcond
          obtain ⟨h0, rfl, hmost, hby⟩ := hcond
          cases h
          obtain ⟨kl, hl⟩ := asInt_rep hn (hρ l)
          obtain ⟨kc, hc⟩ := asInt_rep hm (hρ c)
          obtain ⟨hzl, hzr⟩ := zeroT (w := w) (C := C) hz
          have hzz := tt_zero hi
          obtain ⟨j, hj, hj1, hj2, hj3⟩ := run_info hi w
          simp only [mostLen] at hmost
          have hw : IntKind.i64.wrap n = n := by
            unfold IntKind.wrap IntKind.signed IntKind.bits
            simp only [Bool.true_and]
            rw [Int.emod_eq_of_lt h0 (by omega)]
            rw [if_neg (by simp; omega)]
          have hbig : ¬ ((i.bytes : Int) * n > 2 ^ 48) := by
            have : (i.bytes : Int) * n ≤ 1024 * n := Int.mul_le_mul_of_nonneg_right (by omega) h0
            omega
          obtain ⟨vs, hvs⟩ : ∃ vs : Array Value, vs = (Array.range (n.toNat * i.size)).map ((if n.toNat * i.size = 0 then #[] else i.zero.cells)[· % (if n.toNat * i.size = 0 then #[] else i.zero.cells).size]!) := ⟨_, rfl⟩
          have hvsz : vs.size = n.toNat * i.size := by rw [hvs]; simp
          obtain ⟨C', hC⟩ : ∃ C' : Ctx, C' = ⟨C.imm, fun j => if j = C.nx then some w.heap.size else C.own j, fun j => if j = C.nx then .slice (some ⟨w.heap.size, 0, none⟩) n.toNat n.toNat else C.hdr j, C.nx + 1⟩ := ⟨_, rfl⟩
          have hk : Keeps w C.imm { w with heap := w.heap.push (.cells vs el) } C'.imm := by
            subst hC
            exact ⟨fun b h => h, fun b h => push_old w _ (hs.imm_lt b h)⟩
          have ho : C'.own C.nx = some w.heap.size := by subst hC; exact if_pos rfl
          have hh : C'.hdr C.nx = .slice (some ⟨w.heap.size, 0, none⟩) n.toNat n.toNat := by subst hC; exact if_pos rfl
          obtain ⟨s3, s4⟩ := sim_new hs (.cells vs el) (.arr i.size (List.replicate n.toNat zt)) (.slice (some ⟨w.heap.size, 0, none⟩) n.toNat n.toNat) C' hC
            ⟨fun e he => by rw [zero_flat e he]; omega, .inr ⟨w.heap.size, n.toNat, vs, el, 0, 0, ho, by rw [List.length_replicate]; exact hh, by simp, push_new w _, hvsz, .inl rfl, fun j k l c u hl hc hu => by
              have hj : j < n.toNat := by simpa using (List.getElem?_eq_some_iff.1 hl).1
              have hlz : l = zt := (List.mem_replicate.1 (List.mem_of_getElem? hl)).2
              subst hlz
              have hkk : k < i.size := by have := (List.getElem?_eq_some_iff.1 hc).1; omega
              have hb : (j + 1) * i.size ≤ n.toNat * i.size := Nat.mul_le_mul_right _ hj
              rw [Nat.add_mul, Nat.one_mul] at hb
              have hne : n.toNat * i.size ≠ 0 := by omega
              rw [← hzz] at hb hkk hne
              rw [hvs, if_neg (by rw [← hzz]; exact hne), ← hzz] at hu
              rw [mod_get (by omega), show (j * i.zero.cells.size + k) % i.zero.cells.size = k by rw [Nat.mul_comm, Nat.mul_add_mod, Nat.mod_eq_of_lt (by omega)]] at hu
              exact (hzr k c u hc hu).keeps hk⟩⟩
          refine ⟨C', _, .slice (some ⟨w.heap.size, 0, none⟩) n.toNat n.toNat, ?_, s4, s3, by rw [hC]; rfl, .ref (by rw [hC]; exact Nat.lt_succ_self _) hh⟩
          simp only [Instr.makeSlice, Sem.run_bind, run_und ht, Result.andThen_ok, hl, hc, Go.asInt, asIntOf, Sem.run_pure, hj, hw, hj2]
          rw [if_neg (by simp; omega)]
          simp only [Sem.run_bind, run_askRoom, Result.andThen_ok, run_size hi]
          by_cases h00 : n.toNat * i.size = 0
          · rw [if_pos h00] at hvs ⊢
            simp only [Sem.run_bind, Sem.run_pure, Result.andThen_ok, ← hvs, newrow_run]
          · rw [if_neg h00] at hvs ⊢
            simp only [Sem.run_bind, Sem.run_pure, run_zero hi, Result.andThen_ok, ← hvs, newrow_run]
        · cases h
      · cases h
    · cases h
  · cases h

/-- What the abstract side says of any operation on the store. -/
theorem evalS_sound (hs : Sim C σ w) (hρ : ∀ x, RepA w C (ρa x) (ρ x)) {o : Oper} {v : AV} {e : Eff} (h : evalS P σ C.nx ρa o.op = some (v, e)) : Meets ((execOp ρ o).run P w) C σ w v (e.on σ C.nx).1 (e.on σ C.nx).2 := by
  obtain ⟨dst, op, type, pos, after, guard⟩ := o
  simp only at h
  cases op with
  | alloc t =>
    simp only [evalS] at h
    split at h
    · rename_i i hi
      cases h
      obtain ⟨h1, h2⟩ := zero_rep (w := w) (C := C) i
      exact meets_box hs h1 h2 (E := t) (by simp only [execOp, Instr.alloc, Sem.run_bind, run_zero hi, Result.andThen_ok, newVar, newrow_run, Sem.run_pure])
    · cases h
  | box t x =>
    simp only [evalS] at h
    split at h
    · rename_i cs hc
      cases h
      obtain ⟨h1, h2⟩ := cells_rep hc (hρ x)
      exact meets_box hs h1 h2 (E := t) (by simp only [execOp, Instr.box, Sem.run_bind, newVar, newrow_run, Result.andThen_ok, Sem.run_pure])
    · cases h
  | load t a =>
    obtain ⟨rfl, u, h1, h2⟩ := load_sound hs hρ h
    exact meets_value hs (by simp only [execOp, Sem.run_bind, h1, Result.andThen_ok, Sem.run_pure]) h2
  | store t a x =>
    obtain ⟨rfl, w', σ', h1, h2, h3, h4, h5⟩ := store_sound hs hρ h
    refine ⟨C, w', undef, .inr ⟨?_, rfl⟩, by rw [h2]; exact h5, by rw [h2]; exact h4, h3.symm, .tup rfl (fun k a u h => by simp at h)⟩
    simp only [execOp, Sem.run_bind, h1, Result.andThen_ok, Sem.run_pure]
  | indexAddr t x ix =>
    simp only [evalS] at h
    split at h
    · rename_i el sz by_ z n q ht hn hc
      split at h
      · rename_i i szz es hi hσ
        split at h
        · rename_i hsz
          subst hsz
          obtain ⟨j, hj, he⟩ := Option.map_eq_some_iff.1 h
          cases he
          obtain ⟨h0, h1, rfl, h2⟩ := idx_some hj
          have hx := hρ x
          rw [hc] at hx
          obtain ⟨b, m, c, hv, hq, hhq⟩ := rep_ref hx
          obtain ⟨k, hk⟩ := asInt_rep hn (hρ ix)
          have ho := hs.obj q
          rw [hσ] at ho
          rw [hv] at hhq
          obtain ⟨hszz, ⟨he0, _, _⟩ | ⟨bl, cap, vs, E, lo, hi', ho1, ho2, ho3, ho4, _⟩⟩ := ho
          · subst he0; simp at h2
          · rw [hhq] at ho2
            cases ho2
            refine meets_value hs (u := .pointer (some ⟨bl, n.toNat * i.size, none⟩)) ?_ (.el hq ho1 hhq)
            simp only [execOp, Instr.indexAt, asIntOf, Sem.run_bind, Sem.run_pure, Result.andThen_ok, run_und ht, hv, hk, Sem.run_ite, run_size hi]
            rw [if_pos ⟨h0, h1⟩, add_base]
            rfl
        · cases h
      · cases h
    · cases h
  | range t x =>
    simp only [evalS] at h
    split at h
    · rename_i s ht hx0
      cases h
      have hx := hρ x
      rw [hx0] at hx
      obtain ⟨hx, _⟩ := rep_v hx
      obtain ⟨C', hC⟩ : ∃ C' : Ctx, C' = ⟨C.imm, fun j => if j = C.nx then some w.heap.size else C.own j, fun j => if j = C.nx then undef else C.hdr j, C.nx + 1⟩ := ⟨_, rfl⟩
      have ho : C'.own C.nx = some w.heap.size := by subst hC; exact if_pos rfl
      obtain ⟨s3, s4⟩ := sim_new hs (.stringIter s 0) (.iter s 0) undef C' hC ⟨w.heap.size, ho, push_new w _⟩
      refine ⟨C', _, .pointer (some ⟨w.heap.size, 0, none⟩), .inl ?_, s4, s3, by rw [hC]; rfl, .ptr (by rw [hC]; exact Nat.lt_succ_self _) ho⟩
      simp [execOp, Instr.range, hx, run_und ht]
    · cases h
  | next x st =>
    cases st with
    | false => simp only [evalS] at h; cases h
    | true =>
      simp only [evalS] at h
      split at h
      · rename_i b hx0
        have hx := hρ x
        rw [hx0] at hx
        obtain ⟨bl, hv, h1, h2⟩ := rep_ptr hx
        split at h
        · rename_i s k hσ
          have hob := hs.obj b
          rw [hσ] at hob
          obtain ⟨bl', g1, g2⟩ := hob
          rw [h2] at g1
          cases g1
          have hget : (getObj bl).run P w = .ok (.stringIter s k) w := by simp [getObj, Sem.run, g2]
          have hset : ∀ o, (setObj bl o).run P w = .ok () { w with heap := w.heap.setIfInBounds bl o } := fun o => by simp [setObj, Sem.run, g2]
          split at h
          · rename_i hk
            cases h
            have hlt : bl < w.heap.size := (Array.getElem?_eq_some_iff.1 g2).1
            obtain ⟨s3, s4⟩ := sim_set hs (i := b) (bl := bl) (by rw [hσ]; exact (fun h => by cases h)) h2 (w' := { w with heap := w.heap.setIfInBounds bl (.stringIter s (k + (Utf8.decode s k).2)) }) rfl rfl rfl (by simp) (fun x hx => Array.getElem?_setIfInBounds_ne (fun e => hx e.symm)) (obj := .iter s (k + (Utf8.decode s k).2)) ⟨bl, h2, by simp [hlt]⟩
            refine ⟨C, _, .tuple #[.bool true, .int .i64 k, .int .i32 (Utf8.decode s k).1], .inl ?_, s4, s3, rfl, ?_⟩
            · simp only [execOp, Instr.next, hv, Sem.run_bind, hget, Result.andThen_ok, if_pos hk, hset, Sem.run_pure, goInt]
            · refine .tup rfl fun j a u ha hu => ?_
              rcases j with _ | _ | _ | j <;> simp at ha hu <;> subst ha <;> subst hu <;> exact .t (.v rfl)
          · rename_i hk
            cases h
            refine ⟨C, w, .tuple #[.bool false], .inl ?_, Step.refl _ _ _, hs, rfl, ?_⟩
            · simp only [execOp, Instr.next, hv, Sem.run_bind, hget, Result.andThen_ok, if_neg hk, Sem.run_pure]
            · refine .tup rfl fun j a u ha hu => ?_
              rcases j with _ | j <;> simp at ha hu
              subst ha; subst hu; exact .t (.v rfl)
        · cases h
      · cases h
  | makeMap t r =>
    cases r with
    | some r => simp only [evalS] at h; cases h
    | none =>
      simp only [evalS] at h
      cases h
      obtain ⟨C', hC⟩ : ∃ C' : Ctx, C' = ⟨C.imm, fun j => if j = C.nx then some w.heap.size else C.own j, fun j => if j = C.nx then undef else C.hdr j, C.nx + 1⟩ := ⟨_, rfl⟩
      have ho : C'.own C.nx = some w.heap.size := by subst hC; exact if_pos rfl
      obtain ⟨s3, s4⟩ := sim_new hs (.map #[] 0) (.map []) undef C' hC ⟨w.heap.size, #[], 0, ho, push_new w _, rfl, fun k a u h => by simp at h⟩
      refine ⟨C', _, .map (some w.heap.size), .inl ?_, s4, s3, by rw [hC]; rfl, .mapr (by rw [hC]; exact Nat.lt_succ_self _) ho⟩
      simp [execOp, Instr.makeMap]
  | makeSlice t l c =>
    obtain ⟨C', w', u, h1, h2, h3, h4, h5⟩ := makeSlice_sound hs hρ h
    exact ⟨C', w', u, .inl (by simp only [execOp, Sem.run_bind, h1, Result.andThen_ok, Sem.run_pure]), h2, h3, h4, h5⟩
  | call c =>
    simp only [evalS] at h
    have hv : execOp ρ ⟨dst, .call c, type, pos, after, guard⟩ = (do let d ← resolve ρ c type; invoke d.target d.args) := rfl
    unfold evalC at h
    split at h
    · rename_i hf
      split at h
      · rename_i x t hargs htys
        have e1 : c.args = #[x] := by rw [← Array.toArray_toList (xs := c.args), hargs]
        have e2 : c.argTypes = #[t] := by rw [← Array.toArray_toList (xs := c.argTypes), htys]
        split at h
        · rename_i q ht hc
          split at h
          · rename_i sz es hσ
            cases h
            have hx := hρ x
            rw [hc] at hx
            obtain ⟨b, m, cc, hvx, hq, hhq⟩ := rep_ref hx
            have ho := hs.obj q
            rw [hσ] at ho
            rw [hvx] at hhq
            obtain ⟨h3, h4, h5⟩ := arr_elems ho hhq
            subst h3
            refine meets_value hs ?_ (.t (.v rfl))
            rw [hv]
            simp only [resolve, hf, Sem.run_bind, Sem.run_pure, Result.andThen_ok, invoke, builtin, e1, e2, List.map_toArray, List.map_cons, List.map_nil, hvx]
            simp [Builtin.len_, run_und ht, goInt]
          · cases h
        · cases h
      · cases h
    · rename_i hf
      split at h
      · rename_i s x t t' hargs htys
        have e1 : c.args = #[s, x] := by rw [← Array.toArray_toList (xs := c.args), hargs]
        have e2 : c.argTypes = #[t, t'] := by rw [← Array.toArray_toList (xs := c.argTypes), htys]
        split at h
        · rename_i el sz by_ z d sz' by' z' ht ht'
          split at h
          · rename_i i ys hi hys
            split at h
            · rename_i hbb
              obtain ⟨hb, hpos⟩ := hbb
              have hsz : ∀ y ∈ ys, y.length = i.size := by
                unfold appA at h
                split at h
                · split at h
                  · rename_i hcc; exact hcc.2.2.2
                  · cases h
                · split at h
                  · split at h
                    · rename_i hcc; exact hcc.2.2
                    · cases h
                  · cases h
                · cases h
              have hd' : ∀ k, (⟨d, sz', by', z'⟩ : TI).desc ≠ .int k := by
                intro k hk
                have hk' : d = .int k := hk
                subst hk'
                cases hys
              have hsrc : Src P w C (ρ x) ys i.size := by
                have hx := hρ x
                unfold srcA at hys
                split at hys
                · exact src_of hs hys hx hsz
                · split at hys
                  · rename_i str hc
                    cases hys
                    rw [hc] at hx
                    obtain ⟨hvx, _⟩ := rep_v hx
                    rw [hvx]
                    exact src_bytes str hsz hpos
                  · cases hys
                · cases hys
              obtain ⟨C', w', u, g1, g2, g3, g4, g5⟩ := append_sound hs ht rfl ht' hd' hi (tt_zero hi) hb hsrc (hρ s) type h
              refine ⟨C', w', u, .inl ?_, g2, g3, g4, g5⟩
              rw [hv]
              simp only [resolve, hf, Sem.run_bind, Sem.run_pure, Result.andThen_ok, invoke, builtin, e1, e2, List.map_toArray, List.map_cons, List.map_nil, g1]
            · cases h
          · cases h
        · cases h
      · cases h
    · cases h
  | _ => simp only [evalS] at h; cases h

end
end Go.Proofs.Ytibmjinfdcmbdaa.R
