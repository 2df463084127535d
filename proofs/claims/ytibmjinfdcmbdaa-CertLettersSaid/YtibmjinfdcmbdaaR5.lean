/- R5: an operation that looks at no object is met: the world stays. -/
import Derived.Test.YtibmjinfdcmbdaaR4
namespace Go.Proofs.Ytibmjinfdcmbdaa.R
open Go.RowKit

section
variable {P : Program} {w : World} {C : Ctx} {ρa : Operand → AV} {ρ : Operand → Value}

theorem lookups (x : Option Operand) (hρ : ∀ x, RepA w C (ρa x) (ρ x)) : (∀ a, x.map ρa = some a → ∃ u, x.map ρ = some u ∧ RepA w C a u) ∧ (x.map ρa = none → x.map ρ = none) := by
  cases x with
  | none => exact ⟨fun a h => by simp at h, fun _ => rfl⟩
  | some x => exact ⟨fun a h => by simp at h; subst h; exact ⟨_, rfl, hρ x⟩, fun h => by simp at h⟩

theorem guard_run {op : BinOp} {t : TypeId} {x y : Operand} {a b : Value} (ha : plainV a = true) (hn : a ≠ .nilIface) : (eqGuard op t x y a b).run P w = .ok () w := by
  unfold eqGuard
  cases op <;> first | rfl | (cases a <;> first | rfl | (simp [plainV] at ha; done) | exact absurd rfl hn)

theorem num_run {x : Option Operand} (hρ : ∀ x, RepA w C (ρa x) (ρ x)) {d most r : Nat} (h : bound (x.map ρa) d most = some r) : (x.map ρ = none ∧ r = d) ∨ (r ≤ most ∧ ∃ k, x.map ρ = some (.int k r)) := by
  cases x with
  | none => simp only [Option.map_none, bound] at h; cases h; exact .inl ⟨rfl, rfl⟩
  | some x =>
    simp only [Option.map_some, bound] at h
    split at h
    · rename_i n hn
      split at h <;> cases h
      rename_i hb
      obtain ⟨k, hk⟩ := asInt_rep hn (hρ x)
      exact .inr ⟨by omega, k, by simp only [Option.map_some, hk]; congr 2; omega⟩
    · cases h

theorem bound_int {k : IntKind} {n m : Nat} {code : BoundsCode} (h : n ≤ m) : (Instr.sliceBound (.int k (n : Int)) m code).run P w = .ok n w := by
  simp only [Instr.sliceBound, asIntOf, Sem.run_bind, Sem.run_pure, Result.andThen_ok]
  rw [if_pos (by omega)]
  simp

theorem evalP_same (hρ : ∀ x, RepA w C (ρa x) (ρ x)) {o : Oper} {v : AV} (hb : ∀ t n ps, o.op ≠ .buildSlice t n ps) (hb' : ∀ s d x z, o.op = .convert s d x → ρa x ≠ .t (.v (.string z))) (h : evalP P ρa o.op = some v) :
    ∃ u, (execOp ρ o).run P w = .ok (.value u) w ∧ RepA w C v u := by
  obtain ⟨dst, op, type, pos, after, guard⟩ := o
  simp only at h hb hb'
  cases op with
  | move x => simp only [evalP] at h; cases h; exact ⟨_, rfl, hρ x⟩
  | assign x => simp only [evalP] at h; cases h; exact ⟨_, rfl, hρ x⟩
  | pick c a b =>
    simp only [evalP] at h
    split at h <;> cases h
    rename_i b' hc
    have hr := hρ c
    rw [hc] at hr
    obtain ⟨hv, _⟩ := rep_v hr
    exact ⟨_, by simp [execOp, hv, asBool], pick_rep (hρ a) (hρ b)⟩
  | nilCheck x =>
    simp only [evalP] at h
    have hr := hρ x
    split at h <;> cases h
    · rename_i hc; rw [hc] at hr
      obtain ⟨bl, hv, h1, h2⟩ := rep_ptr hr
      exact ⟨_, by simp [execOp, hv], .ptr h1 h2⟩
    · rename_i hc; rw [hc] at hr
      obtain ⟨ad, hv, h1⟩ := rep_rd hr
      exact ⟨_, by simp [execOp, hv], h1⟩
    · rename_i hc; rw [hc] at hr
      obtain ⟨bl, n, c, hv, h1, h2, h3⟩ := rep_el hr
      exact ⟨_, by simp [execOp, hv], .el h1 h2 h3⟩
    · rename_i hc; rw [hc] at hr
      obtain ⟨vf, vc, hv, h1, h2, h3, h4⟩ := rep_fn hr
      exact ⟨_, by simp [execOp, hv], .fn h1 h2 h3 h4⟩
  | binOp op t x y yt =>
    simp only [evalP] at h
    have hx := hρ x
    have hy := hρ y
    split at h
    · rename_i a b ha hb'
      rw [ha] at hx; rw [hb'] at hy
      obtain ⟨hx, _⟩ := rep_v hx
      obtain ⟨hy, _⟩ := rep_v hy
      split at h
      · rename_i ht
        obtain ⟨r, hr, rfl⟩ := Option.map_eq_some_iff.1 h
        obtain ⟨h1, h2⟩ := binV_bool ht rfl hr w
        refine ⟨r, ?_, .t (.v h2)⟩
        simp only [execOp, Sem.run_bind, hx, hy, guard_run (a := .bool a) rfl (by simp), Result.andThen_ok, h1, Sem.run_pure]
      · cases h
    · rename_i k a k' b ha hb'
      rw [ha] at hx; rw [hb'] at hy
      obtain ⟨hx, _⟩ := rep_v hx
      obtain ⟨hy, _⟩ := rep_v hy
      obtain ⟨r, hr, rfl⟩ := Option.map_eq_some_iff.1 h
      obtain ⟨h1, h2⟩ := binV_int (P := P) (t := t) hr w
      refine ⟨r, ?_, .t (.v h2)⟩
      simp only [execOp, Sem.run_bind, hx, hy, guard_run (a := .int k a) rfl (by simp), Result.andThen_ok, h1, Sem.run_pure]
    · rename_i a b ha hb'
      rw [ha] at hx; rw [hb'] at hy
      obtain ⟨hx, _⟩ := rep_v hx
      obtain ⟨hy, _⟩ := rep_v hy
      obtain ⟨r, hr, rfl⟩ := Option.map_eq_some_iff.1 h
      obtain ⟨h1, h2⟩ := binV_string (P := P) (t := t) hr w
      refine ⟨r, ?_, .t (.v h2)⟩
      simp only [execOp, Sem.run_bind, hx, hy, guard_run (a := .string a) rfl (by simp), Result.andThen_ok, h1, Sem.run_pure]
    · cases h
  | unOp op t x =>
    simp only [evalP] at h
    have hx := hρ x
    split at h
    · rename_i a ha
      rw [ha] at hx
      obtain ⟨hx, _⟩ := rep_v hx
      obtain ⟨r, hr, rfl⟩ := Option.map_eq_some_iff.1 h
      obtain ⟨h1, h2⟩ := unV_run (P := P) hr w
      exact ⟨r, by simp only [execOp, Sem.run_bind, hx, h1, Result.andThen_ok, Sem.run_pure], .t (.v h2)⟩
    · cases h
  | convert s d x =>
    simp only [evalP] at h
    have hx := hρ x
    split at h
    · rename_i hs hd ha
      cases h
      rw [ha] at hx
      obtain ⟨hx, _⟩ := rep_v hx
      refine ⟨_, ?_, .t (.v rfl)⟩
      simp only [execOp, Sem.run_bind, hx, convert, run_und hs, run_und hd, Result.andThen_ok, Conv.intToInt, Sem.run_pure]
    · rename_i hs hd ha
      split at h
      · rename_i he
        obtain ⟨l, hl, rfl⟩ := Option.map_eq_some_iff.1 h
        rw [ha] at hx
        obtain ⟨a, c, hv, _, hr⟩ := rep_sl hx
        rw [hv] at hr
        refine ⟨_, ?_, .t (.v rfl)⟩
        simp only [execOp, Sem.run_bind, hv, bytes_run hl (tt_some hs).1 (tt_some he).1 (tt_some hd).1 hr, Result.andThen_ok, Sem.run_pure]
      · cases h
    · rename_i hs hd ha
      split at h
      · rename_i he
        obtain ⟨l, hl, rfl⟩ := Option.map_eq_some_iff.1 h
        rw [ha] at hx
        obtain ⟨a, hv, hr⟩ := rep_fsl hx
        rw [hv] at hr
        refine ⟨_, ?_, .t (.v rfl)⟩
        simp only [execOp, Sem.run_bind, hv, bytes_run hl (tt_some hs).1 (tt_some he).1 (tt_some hd).1 hr, Result.andThen_ok, Sem.run_pure]
      · cases h
    · rename_i ha
      exact absurd ha (hb' s d x _ rfl)
    · cases h
  | makeFunc fn first caps =>
    simp only [evalP] at h
    cases h
    obtain ⟨h1, h2⟩ := map_rep hρ first
    obtain ⟨h3, h4⟩ := map_rep hρ caps
    exact ⟨_, by simp only [execOp, Instr.makeFunc, Sem.run_bind, Sem.run_pure, Result.andThen_ok], .fn h1 h2 h3 h4⟩
  | fieldAddr s x f =>
    simp only [evalP] at h
    have hx := hρ x
    split at h
    · rename_i fs sz by_ z hs
      split at h
      · rename_i fd hf
        split at h
        · rename_i i hi
          split at h
          · cases h
          · rename_i hsz
            have hrun : ∀ (a : Addr), (Instr.fieldAt s (.pointer (some a)) f).run P w = .ok (.pointer (some (a.add fd.offset))) w := by
              intro a
              simp only [Instr.fieldAt, Sem.run_bind, run_und hs, Result.andThen_ok, hf, Instr.sureAddr, Sem.run_pure, fieldPlace, run_size hi, Sem.run_ite]
              rw [if_neg hsz]
              rfl
            split at h <;> cases h
            · rename_i hc; rw [hc] at hx
              obtain ⟨bl, hv, h1, h2⟩ := rep_ptr hx
              exact ⟨_, by simp only [execOp, Sem.run_bind, hv, hrun, Result.andThen_ok, Sem.run_pure, add_off], .ptr h1 h2⟩
            · rename_i hc; rw [hc] at hx
              obtain ⟨ad, hv, h1⟩ := rep_rd hx
              exact ⟨_, by simp only [execOp, Sem.run_bind, hv, hrun, Result.andThen_ok, Sem.run_pure], rd_drop h1⟩
            · rename_i hc; rw [hc] at hx
              obtain ⟨bl, n, c, hv, h1, h2, h3⟩ := rep_el hx
              exact ⟨_, by simp only [execOp, Sem.run_bind, hv, hrun, Result.andThen_ok, Sem.run_pure, add_off], .el h1 h2 h3⟩
        · cases h
      · cases h
    · cases h
  | field s x f =>
    simp only [evalP] at h
    have hx := hρ x
    split at h
    · rename_i fs sz by_ z cs hs hc
      rw [hc] at hx
      obtain ⟨vs, hv, h1, h2⟩ := rep_agg hx
      split at h
      · rename_i fd hf
        split at h
        · rename_i i hi
          obtain ⟨u, hu, hr⟩ := part_rep hi h1 h2 h
          refine ⟨u, ?_, hr⟩
          simp only [execOp, Instr.field, Sem.run_bind, run_und hs, Result.andThen_ok, hf, hv, asAgg, Sem.run_pure, hu]
        · cases h
      · cases h
    · cases h
  | extract x i =>
    simp only [evalP] at h
    have hx := hρ x
    split at h
    · rename_i cs hc
      rw [hc] at hx
      obtain ⟨vs, hv, h1, h2⟩ := rep_tup hx
      have hi : i < vs.size := by
        have := (List.getElem?_eq_some_iff.1 h).1
        omega
      refine ⟨vs[i], ?_, h2 i _ _ h (by simp [hi])⟩
      simp [execOp, Instr.extract, hv, hi]
    · cases h
  | indexAddr t x ix =>
    simp only [evalP] at h
    have hx := hρ x
    have hix := hρ ix
    split at h
    · rename_i e sz by_ z n ht hn
      obtain ⟨k, hk⟩ := asInt_rep hn hix
      have hrun : ∀ (b : Option Addr) (len c : Nat) (ad : Addr) (i : TI), TT P e = some i → 0 ≤ n → n < len → b = some ad →
          (Instr.indexAt t (.slice b len c) (.int k n)).run P w = .ok (.pointer (some (ad.add (n.toNat * i.size)))) w := by
        intro b len c ad i hi h0 h1 hb
        subst hb
        simp only [Instr.indexAt, asIntOf, Sem.run_bind, Sem.run_pure, Result.andThen_ok, run_und ht, Sem.run_ite, run_size hi]
        rw [if_pos ⟨h0, h1⟩]
      split at h
      · rename_i i es hi hc
        rw [hc] at hx
        obtain ⟨b, c, hv, _, hr⟩ := rep_sl hx
        rw [hv] at hr
        obtain ⟨h0, h1, ad, hb, hra⟩ := elemRd_rep h hr
        exact ⟨_, by simp only [execOp, Sem.run_bind, hv, hk, hrun _ _ _ _ i hi h0 h1 hb, Result.andThen_ok, Sem.run_pure], hra⟩
      · rename_i i es hi hc
        rw [hc] at hx
        obtain ⟨b, hv, hr⟩ := rep_fsl hx
        rw [hv] at hr
        obtain ⟨h0, h1, ad, hb, hra⟩ := elemRd_rep h hr
        exact ⟨_, by simp only [execOp, Sem.run_bind, hv, hk, hrun _ _ _ _ i hi h0 h1 hb, Result.andThen_ok, Sem.run_pure], hra⟩
      · cases h
    · rename_i len e sz by_ z n ht hn
      obtain ⟨k, hk⟩ := asInt_rep hn hix
      have hrun : ∀ (ad : Addr) (i : TI), TT P e = some i → 0 ≤ n → n < len →
          (Instr.indexAt t (.pointer (some ad)) (.int k n)).run P w = .ok (.pointer (some (ad.add (n.toNat * i.size)))) w := by
        intro ad i hi h0 h1
        simp only [Instr.indexAt, asIntOf, Sem.run_bind, Sem.run_pure, Result.andThen_ok, run_und ht, Instr.sureAddr, Sem.run_ite, run_size hi]
        rw [if_pos ⟨h0, h1⟩]
      split at h
      · rename_i i j b o hi hj hc
        cases h
        obtain ⟨h0, h1, rfl, _⟩ := idx_some hj
        rw [hc] at hx
        obtain ⟨bl, hv, h2, h3⟩ := rep_ptr hx
        exact ⟨_, by simp only [execOp, Sem.run_bind, hv, hk, hrun _ i hi h0 h1, Result.andThen_ok, Sem.run_pure, add_off], .ptr h2 h3⟩
      · rename_i i j cs hi hj hc
        cases h
        obtain ⟨h0, h1, rfl, _⟩ := idx_some hj
        rw [hc] at hx
        obtain ⟨ad, hv, h2⟩ := rep_rd hx
        exact ⟨_, by simp only [execOp, Sem.run_bind, hv, hk, hrun _ i hi h0 h1, Result.andThen_ok, Sem.run_pure], rd_drop h2⟩
      · cases h
    · cases h
  | index t x ix =>
    simp only [evalP] at h
    have hx := hρ x
    have hix := hρ ix
    split at h
    · rename_i len e sz by_ z n cs ht hn hc
      obtain ⟨k, hk⟩ := asInt_rep hn hix
      rw [hc] at hx
      obtain ⟨vs, hv, h1, h2⟩ := rep_agg hx
      split at h
      · rename_i i j hi hj
        obtain ⟨h3, h4, rfl, _⟩ := idx_some hj
        obtain ⟨u, hu, hr⟩ := part_rep hi h1 h2 h
        refine ⟨u, ?_, hr⟩
        simp only [execOp, Instr.index, Sem.run_bind, hk, asIntOf, Sem.run_pure, Result.andThen_ok, run_und ht, hv, Sem.run_ite, run_size hi, hu]
        rw [if_pos ⟨h3, h4⟩]
        rfl
      · cases h
    · rename_i sz by_ z n s ht hn hc
      obtain ⟨k, hk⟩ := asInt_rep hn hix
      rw [hc] at hx
      obtain ⟨hv, _⟩ := rep_v hx
      split at h
      · rename_i j hj
        obtain ⟨h3, h4, rfl, _⟩ := idx_some hj
        split at h
        · rename_i b hb'
          cases h
          refine ⟨_, ?_, .t (.v rfl)⟩
          simp only [execOp, Instr.index, Sem.run_bind, hk, asIntOf, Sem.run_pure, Result.andThen_ok, run_und ht, hv, if_pos h3, hb']
        · cases h
      · cases h
    · cases h
  | slice t x lo hi mx =>
    simp only [evalP] at h
    have hx := hρ x
    obtain ⟨l1, l2⟩ := lookups lo hρ
    obtain ⟨l3, l4⟩ := lookups hi hρ
    obtain ⟨l5, l6⟩ := lookups mx hρ
    split at h
    · rename_i e sz by_ z es ht hc
      split at h
      · rename_i j hj
        split at h
        · rename_i hsz
          rw [hc] at hx
          obtain ⟨b, c, hv, hle, hr⟩ := rep_sl hx
          rw [hv] at hr
          obtain ⟨u, hu, hra⟩ := cutT_run h ht rfl hj hle (fun e => by cases e) hr hsz l1 l2 l3 l4 l5 l6
          exact ⟨u, by simp only [execOp, Sem.run_bind, hv, hu, Result.andThen_ok, Sem.run_pure], hra⟩
        · cases h
      · cases h
    · rename_i e sz by_ z es ht hc
      split at h
      · rename_i j hj
        split at h
        · rename_i hsz
          rw [hc] at hx
          obtain ⟨b, hv, hr⟩ := rep_fsl hx
          rw [hv] at hr
          obtain ⟨u, hu, hra⟩ := cutT_run h ht rfl hj (Nat.le_refl _) (fun _ => rfl) hr hsz l1 l2 l3 l4 l5 l6
          exact ⟨u, by simp only [execOp, Sem.run_bind, hv, hu, Result.andThen_ok, Sem.run_pure], hra⟩
        · cases h
      · cases h
    · rename_i sz by_ z s ht hc
      split at h
      · cases h
      · rename_i hmx
        cases mx with
        | some m => simp at hmx
        | none =>
          rw [hc] at hx
          obtain ⟨hv, _⟩ := rep_v hx
          split at h
          · rename_i hh hhb
            split at h
            · rename_i l hlb
              cases h
              refine ⟨_, ?_, .t (.v rfl)⟩
              have hb2 : (Instr.sliceBounds false s.size s.size (lo.map ρ) (hi.map ρ) none).run P w = .ok (l, hh, s.size) w := by
                rcases num_run hρ hhb with ⟨e1, rfl⟩ | ⟨m1, k1, e1⟩ <;> rcases num_run hρ hlb with ⟨e2, rfl⟩ | ⟨m2, k2, e2⟩ <;>
                  simp only [Instr.sliceBounds, e1, e2, Sem.run_bind, Sem.run_pure, Result.andThen_ok, bound_int, *]
              simp only [execOp, Instr.sliceAt, Instr.slice, Sem.run_bind, run_und ht, Result.andThen_ok, hv, Option.map_none, Option.isSome_none, Bool.false_eq_true, if_false, hb2, Sem.run_pure]
            · cases h
          · cases h
    · cases h
  | build t parts =>
    simp only [evalP] at h
    have hps : (parts.toList.map fun p => (p.1, ρa p.2)).length = (parts.map fun (i, x) => (i, ρ x)).toList.length := by simp
    have hpr : ∀ (k : Nat) (a : Nat × AV) (q : Nat × Value), (parts.toList.map fun p => (p.1, ρa p.2))[k]? = some a → (parts.map fun (i, x) => (i, ρ x)).toList[k]? = some q → a.1 = q.1 ∧ RepA w C a.2 q.2 := by
      intro k a q ha hq
      simp only [List.getElem?_map, Array.toList_map, Option.map_eq_some_iff] at ha hq
      obtain ⟨p, hp, rfl⟩ := ha
      obtain ⟨p', hp', rfl⟩ := hq
      rw [hp] at hp'
      cases hp'
      exact ⟨rfl, hρ _⟩
    split at h
    · rename_i fs sz by_ z ht
      split at h
      · rename_i l hl
        obtain ⟨r, hr, rfl⟩ := Option.map_eq_some_iff.1 h
        obtain ⟨h1, h2⟩ := zero_rep (w := w) (C := C) ⟨.struct fs, sz, by_, z⟩
        obtain ⟨us, hus, h3, h4⟩ := fill_rep hps hpr h1 h2 hr
        refine ⟨.agg us, ?_, .agg h3 h4⟩
        have hm : (fs.mapM fun (f : Field) => (do pure (f.offset, ← sizeOf f.type) : Sem (Nat × Nat))).run P w = .ok l.toArray w := by
          rw [Array.mapM_eq_mapM_toList, Sem.run_map, places_run hl w]
          rfl
        have hus' : Instr.fill (fun x => l.toArray[x]?) z.cells (parts.map fun (i, x) => (i, ρ x)).toList = some us := by
          rw [← hus]
          congr 1
          funext x
          simp
        simp only [execOp, Instr.build, Sem.run_bind, run_zero ht, run_und ht, Result.andThen_ok, hm, hus', Sem.run_pure]
      · cases h
    · rename_i n e sz by_ z ht
      split at h
      · rename_i i hi
        obtain ⟨r, hr, rfl⟩ := Option.map_eq_some_iff.1 h
        obtain ⟨h1, h2⟩ := zero_rep (w := w) (C := C) ⟨.array n e, sz, by_, z⟩
        obtain ⟨us, hus, h3, h4⟩ := fill_rep hps hpr h1 h2 hr
        refine ⟨.agg us, ?_, .agg h3 h4⟩
        simp only [execOp, Instr.build, Sem.run_bind, run_zero ht, run_und ht, run_size hi, Result.andThen_ok, hus, Sem.run_pure]
      · cases h
    · cases h
  | call c =>
    simp only [evalP] at h
    have hv : execOp ρ ⟨dst, .call c, type, pos, after, guard⟩ = (do let d ← resolve ρ c type; invoke d.target d.args) := rfl
    unfold evalB at h
    split at h
    · rename_i hf
      split at h
      · rename_i x t hargs htys
        have e1 : c.args = #[x] := by rw [← Array.toArray_toList (xs := c.args), hargs]
        have e2 : c.argTypes = #[t] := by rw [← Array.toArray_toList (xs := c.argTypes), htys]
        have hx := hρ x
        have hrun : ∀ (u : Value), (Builtin.len_ #[t] type #[ρ x]).run P w = .ok u w → (execOp ρ ⟨dst, .call c, type, pos, after, guard⟩).run P w = .ok (.value u) w := by
          intro u hu
          rw [hv]
          simp only [resolve, hf, Sem.run_bind, Sem.run_pure, Result.andThen_ok, invoke, builtin, e1, e2, List.map_toArray, List.map_cons, List.map_nil, hu]
        split at h
        · rename_i ht hc
          cases h
          rw [hc] at hx
          obtain ⟨hx, _⟩ := rep_v hx
          exact ⟨_, hrun _ (by simp [Builtin.len_, run_und ht, hx, goInt]), .t (.v rfl)⟩
        · rename_i ht hc
          cases h
          rw [hc] at hx
          obtain ⟨a, c', hx, _⟩ := rep_sl hx
          exact ⟨_, hrun _ (by simp [Builtin.len_, run_und ht, hx, goInt]), .t (.v rfl)⟩
        · rename_i ht hc
          cases h
          rw [hc] at hx
          obtain ⟨a, hx, _⟩ := rep_fsl hx
          exact ⟨_, hrun _ (by simp [Builtin.len_, run_und ht, hx, goInt]), .t (.v rfl)⟩
        · rename_i ht
          cases h
          refine ⟨_, hrun _ ?_, .t (.v rfl)⟩
          simp only [Builtin.len_, run_und ht, goInt, Sem.run_bind, Result.andThen_ok, List.getElem?_toArray, List.getElem?_cons_zero]
          simp
        · cases h
      · cases h
    · rename_i hf
      obtain ⟨hl, hr⟩ := map_rep hρ c.args
      split at h
      · rename_i k n r hm
        obtain ⟨m, hmin, rfl⟩ := Option.map_eq_some_iff.1 h
        refine ⟨.int k m, ?_, .t (.v rfl)⟩
        rw [hm] at hl hr
        have hargs : (c.args.map ρ).toList = .int k n :: (c.args.map ρ).toList.tail := by
          cases hz : (c.args.map ρ).toList with
          | nil => rw [← Array.length_toList, hz] at hl; simp at hl
          | cons z zs =>
            have h0 := hr 0 _ z rfl (by rw [← Array.getElem?_toList, hz]; rfl)
            obtain ⟨rfl, _⟩ := rep_v h0
            rfl
        have hrun := minI_run (P := P) (w := w) (C := C) _ Builtin.max2 (fun k x k' y => by simp only [Builtin.max2, decide_eq_true_eq]) k r (c.args.map ρ).toList.tail n m
          (by have := hl; rw [← Array.length_toList, hargs] at this; simpa using this) (fun j a u ha hu => hr (j + 1) a u ha (by rw [← Array.getElem?_toList, hargs]; exact hu)) hmin
        rw [hv]
        simp only [resolve, hf, Sem.run_bind, Sem.run_pure, Result.andThen_ok, invoke, builtin, Builtin.max_]
        rw [hargs]
        simp only [hrun, Result.andThen_ok, Sem.run_pure, Sem.run_bind]
      · cases h
    · rename_i hf
      obtain ⟨hl, hr⟩ := map_rep hρ c.args
      split at h
      · rename_i k n r hm
        obtain ⟨m, hmin, rfl⟩ := Option.map_eq_some_iff.1 h
        refine ⟨.int k m, ?_, .t (.v rfl)⟩
        rw [hm] at hl hr
        have hargs : (c.args.map ρ).toList = .int k n :: (c.args.map ρ).toList.tail := by
          cases hz : (c.args.map ρ).toList with
          | nil => rw [← Array.length_toList, hz] at hl; simp at hl
          | cons z zs =>
            have h0 := hr 0 _ z rfl (by rw [← Array.getElem?_toList, hz]; rfl)
            obtain ⟨rfl, _⟩ := rep_v h0
            rfl
        have hrun := minI_run (P := P) (w := w) (C := C) _ Builtin.min2 (fun k x k' y => by simp only [Builtin.min2, decide_eq_true_eq]) k r (c.args.map ρ).toList.tail n m
          (by have := hl; rw [← Array.length_toList, hargs] at this; simpa using this) (fun j a u ha hu => hr (j + 1) a u ha (by rw [← Array.getElem?_toList, hargs]; exact hu)) hmin
        rw [hv]
        simp only [resolve, hf, Sem.run_bind, Sem.run_pure, Result.andThen_ok, invoke, builtin, Builtin.min_]
        rw [hargs]
        simp only [hrun, Result.andThen_ok, Sem.run_pure, Sem.run_bind]
      · cases h
    · cases h
  | buildSlice t n ps => exact absurd rfl (hb t n ps)
  | _ => simp only [evalP] at h; cases h

end
end Go.Proofs.Ytibmjinfdcmbdaa.R
