/- R16: structs that are compared. -/
import Derived.Test.YtibmjinfdcmbdaaR15
import Derived.Laws.StructEq
namespace Go.Proofs.Ytibmjinfdcmbdaa.R
open Go.RowKit

def eqFs (P : Program) (f : TypeId → AV → AV → Option Bool) : List Field → List AV → List AV → Option Bool
  | [], _, _ => some true
  | fd :: r, xs, ys => if fd.name = "_" then none else match TT P fd.type with
    | some i => match partA i xs fd.offset, partA i ys fd.offset with
      | some a, some b => match f fd.type a b, eqFs P f r xs ys with
        | some p, some q => some (p && q)
        | _, _ => none
      | _, _ => none
    | none => none

/-- What is known of '=='. -/
def eqA (P : Program) : Nat → TypeId → AV → AV → Option Bool
  | 0, _, _, _ => none
  | d + 1, t, x, y => match TT P t with
    | some ⟨.int _, _, _, _⟩ => match x, y with
      | .t (.v (.int k a)), .t (.v (.int k' b)) => if k = k' then some (decide (a = b)) else none
      | _, _ => none
    | some ⟨.bool, _, _, _⟩ => match x, y with
      | .t (.v (.bool a)), .t (.v (.bool b)) => some (a == b)
      | _, _ => none
    | some ⟨.struct fs, _, _, _⟩ => match x, y with
      | .agg xs, .agg ys => if P.stoodInHeld t = true then none else eqFs P (fun t a b => eqA P d t a b) fs.toList xs ys
      | _, _ => none
    | _ => none

section
variable {P : Program}
theorem eqFs_run {w : World} {C : Ctx} {d : Nat} {f : TypeId → AV → AV → Option Bool}
    (hf : ∀ t x y b u v, f t x y = some b → RepA w C x u → RepA w C y v → (Op.equalIn d t u v).run P w = .ok b w) {xs ys : List AV} {us vs : Array Value} (hx : RepA w C (.agg xs) (.agg us)) (hy : RepA w C (.agg ys) (.agg vs)) :
    ∀ (fs : List Field) (b : Bool), eqFs P f fs xs ys = some b → (Op.eqFields d us vs fs).run P w = .ok b w := by
  obtain ⟨us', hu', hxl, hxr⟩ := rep_agg hx
  obtain ⟨vs', hv', hyl, hyr⟩ := rep_agg hy
  cases hu'
  cases hv'
  intro fs
  induction fs with
  | nil => intro b h; simp only [eqFs] at h; cases h; rfl
  | cons fd r ih =>
    intro b h
    simp only [eqFs] at h
    split at h
    · cases h
    · rename_i hn
      split at h
      · rename_i i hi
        split at h
        · rename_i a c ha hc
          split at h
          · rename_i p q hp hq
            cases h
            obtain ⟨u, hu, hru⟩ := part_rep hi hxl hxr ha
            obtain ⟨v, hv, hrv⟩ := part_rep hi hyl hyr hc
            have h1 := hf _ _ _ _ _ _ hp hru hrv
            have h2 := ih _ hq
            simp only [Op.eqFields, if_pos hn, Sem.run_bind, hu, hv, h1, Result.andThen_ok]
            cases p
            · simp
            · simp only [Bool.not_true, Bool.false_eq_true, if_false, h2, Bool.true_and]
          · cases h
        · cases h
      · cases h

theorem eqA_run {w : World} {C : Ctx} : ∀ (d : Nat) (t : TypeId) (x y : AV) (b : Bool) (u v : Value), eqA P d t x y = some b → RepA w C x u → RepA w C y v → (Op.equalIn d t u v).run P w = .ok b w := by
  intro d
  induction d with
  | zero => intro t x y b u v h; simp [eqA] at h
  | succ d ih =>
    intro t x y b u v h hx hy
    simp only [eqA] at h
    split at h
    · rename_i ht
      split at h
      · split at h
        · rename_i hk
          subst hk
          cases h
          obtain ⟨rfl, _⟩ := rep_v hx
          obtain ⟨rfl, _⟩ := rep_v hy
          rw [run_equalIn_int _ _ _ _ _ _ _ (tt_some ht).1]
          congr 1
        · cases h
      · cases h
    · rename_i ht
      split at h
      · cases h
        obtain ⟨rfl, _⟩ := rep_v hx
        obtain ⟨rfl, _⟩ := rep_v hy
        exact run_equalIn_bool' _ _ _ _ _ (tt_some ht).1
      · cases h
    · rename_i fs _ _ _ ht
      split at h
      · split at h
        · cases h
        · rename_i hs
          have hund : P.underlying t = some (.struct fs) := (tt_some ht).1
          have hfo : P.fieldsOf t = fs := by simp [Program.fieldsOf, hund]
          obtain ⟨us', rfl, _, _⟩ := rep_agg hx
          obtain ⟨vs', rfl, _, _⟩ := rep_agg hy
          rw [run_equalIn_agg _ _ _ _ _ (by rw [hfo]; exact hund) (by simpa using hs), hfo]
          exact eqFs_run (fun t x y b u v h1 h2 h3 => ih t x y b u v h1 h2 h3) hx hy _ _ h
      · cases h
    · cases h

/-- '==' and '!=' of structs. -/
def eqOp (op : BinOp) (b : Bool) : Option Bool := match op with | .eql => some b | .neq => some (!b) | _ => none
theorem eq_exec {w : World} {C : Ctx} {o : Oper} {op : BinOp} {t t' : TypeId} {x y : Operand} {ρa : Operand → AV} {ρ : Operand → Value} {b r : Bool} {xs ys : List AV} (ho : o.op = .binOp op t x y t') (hρ : ∀ x, RepA w C (ρa x) (ρ x))
    (hx : ρa x = .agg xs) (hy : ρa y = .agg ys) (hg : P.eqGuardType P.depth t = false) (h : eqA P 10000 t (.agg xs) (.agg ys) = some b) (hr : eqOp op b = some r) : (execOp ρ o).run P w = .ok (.value (.bool r)) w := by
  have h1 := hρ x
  have h2 := hρ y
  rw [hx] at h1
  rw [hy] at h2
  have h3 := eqA_run 10000 t _ _ _ _ _ h h1 h2
  obtain ⟨us, e1, _, _⟩ := rep_agg h1
  obtain ⟨vs, e2, _, _⟩ := rep_agg h2
  rw [e1, e2] at h3
  cases op <;> simp only [eqOp, reduceCtorEq] at hr
  · cases hr
    simp only [execOp, ho, Sem.run_bind, e1, e2, run_eqGuard_agg _ _ _ _ _ _ _ hg, Result.andThen_ok, run_eql_struct, h3, Sem.run_pure]
  · cases hr
    simp only [execOp, ho, Sem.run_bind, e1, e2, run_eqGuard_agg _ _ _ _ _ _ _ hg, Result.andThen_ok, run_neq_struct, h3, Sem.run_pure]

variable {B : Base} {k : List KI} {R : Post} {s : St}
theorem does_eq {all : Array Oper} {i n : Nat} {o : Oper} {m : Slots} {op : BinOp} {t t' : TypeId} {x y : Operand} {b r : Bool} {xs ys : List AV} (ho' : all[i]? = some o) (hl : lets all m o = some true) (ho : o.op = .binOp op t x y t')
    (hx : ev m x = .agg xs) (hy : ev m y = .agg ys) (hg : P.eqGuardType P.depth t = false) (h : eqA P 10000 t (.agg xs) (.agg ys) = some b) (hr : eqOp op b = some r) (σ : Nat → AObj) (nx : Nat) : Does P n all i m σ nx (.b r) σ nx := by
  intro C a w hn hs hsz hrep K Q hK
  have hops := mask_ev (m := m) ho'
  have hd : dstOf all i = o.dst := by simp [dstOf, ho']
  simp only [wpOp, ho', lets_wanted ho' hrep hl, if_true]
  left
  unfold Oper.wp
  rw [eq_exec ho (ev_rep hrep) (by rw [hops x (by simp [ho, Op.operands])]; exact hx) (by rw [hops y (by simp [ho, Op.operands])]; exact hy) hg h hr]
  rw [hd] at hK
  exact hK _ _ C hs hn (Step.refl _ _ _) (.t (.v rfl))

theorem K_eq {all : Array Oper} {o : Oper} {rest : List Oper} {op : BinOp} {t t' : TypeId} {x y : Operand} {b r : Bool} {xs ys : List AV} (hgd : o.guard = none) (ho : o.op = .binOp op t x y t') (hd : dOk B.n o.dst = true)
    (hx : ev s.m x = .agg xs) (hy : ev s.m y = .agg ys) (hg : P.eqGuardType P.depth t = false) (h : eqA P 10000 t (.agg xs) (.agg ys) = some b) (hr : eqOp op b = some r)
    (hk : Kp P B (.ops all rest :: k) R .normal ⟨put s.m o.dst (.b r), s.σ, s.nx⟩) : Kp P B (.ops all (o :: rest) :: k) R .normal s := by
  intro a w hrel
  refine wpList_plain hgd fun K hK => ?_
  obtain ⟨C, h1, h2, h3, h4, h5, h6⟩ := hrel
  unfold Oper.wp
  rw [eq_exec ho (ev_rep h2) hx hy hg h hr]
  exact hK _ _ (hk _ _ ⟨C, h1, put_rep h5 (Step.refl _ _ _) h2 (by rw [h3]; exact hd) (.t (.v rfl)), by rw [put_size]; exact h3, by rw [put_def]; exact h4, h5, h6⟩)

theorem K_dEq {all : Array Oper} {lo : List Nat} {i : Nat} {pend : List Rc} {o : Oper} {rest : List Oper} {op : BinOp} {t t' : TypeId} {x y : Operand} {b r : Bool} {xs ys : List AV} (hl : lets all s.m o = some true) (ho : o.op = .binOp op t x y t')
    (hx : ev s.m x = .agg xs) (hy : ev s.m y = .agg ys) (hg : P.eqGuardType P.depth t = false) (h : eqA P 10000 t (.agg xs) (.agg ys) = some b) (hr : eqOp op b = some r)
    (hk : Kp P B (.opsD all lo (i + 1) rest pend :: k) R .normal ⟨put s.m o.dst (.b r), s.σ, s.nx⟩) : Kp P B (.opsD all lo i (o :: rest) pend :: k) R .normal s :=
  Chain.at fun ho' => Chain.step (loud := none) (does_eq ho' hl ho hx hy hg h hr _ _) (fun _ => .inl (does_eq ho' hl ho hx hy hg h hr)) (fun c hc => by cases hc) (fun _ h => h) hk
attribute [go_sem] eqA eqFs eqOp
end
end Go.Proofs.Ytibmjinfdcmbdaa.R
