/- R13: calls by contract; a function's contract out of its body. -/
import Derived.Test.YtibmjinfdcmbdaaR12
namespace Go.Proofs.Ytibmjinfdcmbdaa.R
open Go.RowKit

def goodFn (P : Program) (f : FuncId) : Bool :=
  match P.funcs[f]? with
  | some fn => !(fn.name == "runtime.NumGoroutine") && fn.body.isSome
  | none => false

/-- Whatever memory is there: the call returns, and this is what it leaves. -/
def CallSpec (P : Program) (f : FuncId) (args : List AV) (σ : Nat → AObj) (nx : Nat) (r : AV) (σ' : Nat → AObj) (nx' : Nat) : Prop :=
  goodFn P f = true ∧ ∀ (C : Ctx) (w : World) (vs : List Value), Sim C σ w → C.nx = nx → RepL w C args vs →
    Calls P f vs.toArray w fun e w' => ∃ C' v, e = .returned v ∧ Sim C' σ' w' ∧ C'.nx = nx' ∧ RepA w' C' r v ∧ Step C σ w C' σ' w'

/-- The same, what it leaves told by what holds of it. -/
def CallQ (P : Program) (f : FuncId) (args : List AV) (σ : Nat → AObj) (nx : Nat) (Q : AV → (Nat → AObj) → Nat → Prop) : Prop :=
  goodFn P f = true ∧ ∀ (C : Ctx) (w : World) (vs : List Value), Sim C σ w → C.nx = nx → RepL w C args vs →
    Calls P f vs.toArray w fun e w' => ∃ r σ' nx' C' v, Q r σ' nx' ∧ e = .returned v ∧ Sim C' σ' w' ∧ C'.nx = nx' ∧ RepA w' C' r v ∧ Step C σ w C' σ' w'

theorem CallQ.spec {P : Program} {f : FuncId} {args : List AV} {σ : Nat → AObj} {nx : Nat} {r : AV} {σ' : Nat → AObj} {nx' : Nat} (h : CallQ P f args σ nx fun a b c => a = r ∧ b = σ' ∧ c = nx') : CallSpec P f args σ nx r σ' nx' := by
  refine ⟨h.1, fun C w vs h1 h2 h3 => (h.2 C w vs h1 h2 h3).mono ?_⟩
  rintro e w' ⟨_, _, _, C', v, ⟨rfl, rfl, rfl⟩, g⟩
  exact ⟨C', v, g⟩
theorem CallSpec.q {P : Program} {f : FuncId} {args : List AV} {σ : Nat → AObj} {nx : Nat} {r : AV} {σ' : Nat → AObj} {nx' : Nat} (h : CallSpec P f args σ nx r σ' nx') : CallQ P f args σ nx fun a b c => a = r ∧ b = σ' ∧ c = nx' := by
  refine ⟨h.1, fun C w vs h1 h2 h3 => (h.2 C w vs h1 h2 h3).mono ?_⟩
  rintro e w' ⟨C', v, g⟩
  exact ⟨_, _, _, C', v, ⟨rfl, rfl, rfl⟩, g⟩
theorem CallQ.mono {P : Program} {f : FuncId} {args : List AV} {σ : Nat → AObj} {nx : Nat} {Q Q' : AV → (Nat → AObj) → Nat → Prop} (h : CallQ P f args σ nx Q) (hq : ∀ r σ' nx', Q r σ' nx' → Q' r σ' nx') : CallQ P f args σ nx Q' := by
  refine ⟨h.1, fun C w vs h1 h2 h3 => (h.2 C w vs h1 h2 h3).mono ?_⟩
  rintro e w' ⟨r, σ', nx', C', v, h0, g⟩
  exact ⟨r, σ', nx', C', v, hq _ _ _ h0, g⟩

def noObj : Nat → AObj := fun _ => .dead

/-- A call on closed values: what it gives hangs on them alone. -/
def Pure (P : Program) (f : FuncId) (args : List AV) (r : AV) : Prop :=
  (∀ a ∈ args, bnd 0 a = true) ∧ bnd 0 r = true ∧ CallSpec P f args noObj 0 r noObj 0

section
variable {P : Program}

theorem RepA.closed {w : World} {C C' : Ctx} (h1 : C'.imm = C.imm) {x : AV} {v : Value} (h : RepA w C x v) (hb : bnd 0 x = true) : RepA w C' x v := by
  induction h with
  | t h => exact .t (by rw [h1]; exact h)
  | agg hl _ ih => exact .agg hl fun k a u ha hu => ih k a u ha hu (bndL_get (by simpa [bnd] using hb) k a ha)
  | tup hl _ ih => exact .tup hl fun k a u ha hu => ih k a u ha hu (bndL_get (by simpa [bnd] using hb) k a ha)
  | fsl h => exact .fsl (by rw [h1]; exact h)
  | ref h hh => simp [bnd] at hb
  | ptr h ho => simp [bnd] at hb
  | rd hi hcell hr => exact .rd (by rw [h1]; exact hi) hcell (fun k c h => by rw [h1]; exact hr k c h)
  | el h ho hh => simp [bnd] at hb
  | mapr h ho => simp [bnd] at hb
  | fn hl _ hl' _ ih ih' =>
    simp only [bnd, Bool.and_eq_true] at hb
    exact .fn hl (fun k a u ha hu => ih k a u ha hu (bndL_get hb.1 k a ha)) hl' (fun k a u ha hu => ih' k a u ha hu (bndL_get hb.2 k a ha))
  | any => exact .any

theorem Pure.spec {f : FuncId} {args : List AV} {r : AV} (h : Pure P f args r) (σ : Nat → AObj) (nx : Nat) : CallSpec P f args σ nx r σ nx := by
  obtain ⟨ha, hr, hg, h⟩ := h
  refine ⟨hg, fun C w vs hs hn hl => ?_⟩
  obtain ⟨C0, hC0⟩ : ∃ C0 : Ctx, C0 = ⟨C.imm, fun _ => none, C.hdr, 0⟩ := ⟨_, rfl⟩
  have h0 : Sim C0 noObj w := by
    subst hC0
    exact ⟨fun _ _ => rfl, fun _ => True.intro, fun _ _ _ hi => absurd rfl hi, fun _ _ hi => absurd rfl hi, hs.imm_lt⟩
  refine (h C0 w vs h0 (by rw [hC0]) ⟨hl.1, fun k a u hk hu => RepA.closed (C := C) (by rw [hC0]) (hl.2 k a u hk hu) (ha a (List.mem_of_getElem? hk))⟩).mono ?_
  rintro e w' ⟨C1, v, rfl, hs1, hn1, hr1, st⟩
  have nomut : ∀ b, ¬ Mut C0 noObj b := fun b ⟨i, hi, _⟩ => hi rfl
  have himm0 : C0.imm = C.imm := by rw [hC0]
  have himm1 : ∀ b, C1.imm b → C.imm b ∨ w.heap.size ≤ b := fun b hb => by
    rcases st.imm' b hb with h | h | h
    · rw [himm0] at h; exact .inl h
    · exact absurd h (nomut b)
    · exact .inr h
  have hle : CtxLe C { C with imm := C1.imm } := ⟨Nat.le_refl _, fun _ _ => rfl, fun _ _ => rfl⟩
  have hk : Keeps w C.imm w' C1.imm := ⟨fun b hb => st.imm b (by rw [himm0]; exact hb), fun b hb => st.same b (hs.imm_lt b hb) (nomut b)⟩
  refine ⟨{ C with imm := C1.imm }, v, rfl, ⟨hs.dead, fun i => ?_, hs.inj, fun i b hi ho hb => ?_, hs1.imm_lt⟩, hn, RepA.closed (C := C1) (C' := { C with imm := C1.imm }) rfl hr1 hr,
    ⟨hle, st.os, st.tape, st.output, st.size, fun b hb => st.imm b (by rw [himm0]; exact hb), fun b hb _ => st.same b hb (nomut b), fun b hb => .inl hb, fun b hb => (himm1 b hb).imp id .inr⟩⟩
  · by_cases hi : σ i = .dead
    · rw [hi]; exact True.intro
    · exact (hs.obj i).step hk hle (live_lt hs hi) (fun b ho => st.same b (own_lt hs hi ho) (nomut b))
  · rcases himm1 b hb with h | h
    · exact hs.sep i b hi ho h
    · exact absurd (own_lt hs hi ho) (by omega)

theorem RepL.app {w : World} {C : Ctx} {a b : List AV} {u v : List Value} (h1 : RepL w C a u) (h2 : RepL w C b v) : RepL w C (a ++ b) (u ++ v) := by
  refine ⟨by rw [List.length_append, List.length_append, h1.1, h2.1], fun k x y hx hy => ?_⟩
  rw [List.getElem?_append] at hx hy
  rw [← h1.1] at hy
  split at hx
  · rename_i hk
    rw [if_pos hk] at hy
    exact h1.2 k x y hx hy
  · rename_i hk
    rw [if_neg hk] at hy
    exact h2.2 _ x y hx hy

/-- What a function value is called with. -/
def callee (a : AV) (args : List AV) : Option (FuncId × List AV) :=
  match a with
  | .fn (.func g) first caps => some (g, first ++ args ++ caps)
  | .t (.v (.func (.func g) ⟨[]⟩ ⟨[]⟩)) => some (g, args)
  | _ => none

theorem callee_rep {w : World} {C : Ctx} {x : AV} {v : Value} {args : List AV} {vs : Array Value} {g : FuncId} {l : List AV} (h : callee x args = some (g, l)) (hx : RepA w C x v)
    (hl : args.length = vs.size) (hr : ∀ (k : Nat) (a : AV) (u : Value), args[k]? = some a → vs[k]? = some u → RepA w C a u) :
    ∃ first caps, v = .func (.func g) first caps ∧ RepL w C l (first ++ vs ++ caps).toList := by
  unfold callee at h
  split at h
  · cases h
    obtain ⟨vf, vc, rfl, h1, h2, h3, h4⟩ := rep_fn hx
    refine ⟨vf, vc, rfl, ?_⟩
    simp only [Array.toList_append]
    refine ((RepL.app ⟨by simpa using h1, fun k a u ha hu => h2 k a u ha (by simpa using hu)⟩ ⟨by simpa using hl, fun k a u ha hu => hr k a u ha (by simpa using hu)⟩).app ⟨by simpa using h3, fun k a u ha hu => h4 k a u ha (by simpa using hu)⟩)
  · cases h
    obtain ⟨hv, _⟩ := rep_v hx
    subst hv
    exact ⟨#[], #[], rfl, by simp; omega, fun k a u ha hu => hr k a u ha (by simpa using hu)⟩
  · cases h


variable {B : Base} {k : List KI} {R : Post} {s : St}

/-- A call: by contract. -/
theorem call_wpQ {o : Oper} {c : Call} {fo : Operand} (ho : o.op = .call c) (hc : c.callee = .value fo) {f : FuncId} {args : List AV} (hf : callee (ev s.m fo) (c.args.toList.map (ev s.m)) = some (f, args))
    {S : AV → (Nat → AObj) → Nat → Prop} (spec : CallQ P f args s.σ s.nx S) {a : Act} {w : World} (hd : dOk B.n o.dst = true) (hr : Rel B s a w) {K : Act → World → Prop} {Q : Exit → Act → World → Prop}
    (hK : ∀ r σ' nx' a' w', S r σ' nx' → Rel B ⟨put s.m o.dst r, σ', nx'⟩ a' w' → K a' w') : o.wp P a w K Q := by
  obtain ⟨C, h1, h2, h3, h4, h5, h6⟩ := hr
  obtain ⟨hg, spec⟩ := spec
  have hρ := ev_rep h2
  obtain ⟨hl, hlr⟩ := map_rep hρ c.args
  obtain ⟨first, caps, hv, hrl⟩ := callee_rep hf (hρ fo) hl hlr
  have hcall := spec C w _ h5 h1 hrl
  have hrun : (execOp a.eval o).run P w = .ok (.enter f (first ++ c.args.map a.eval ++ caps)) w := by
    unfold goodFn at hg
    cases hfn : P.funcs[f]? with
    | none => rw [hfn] at hg; cases hg
    | some fn =>
      rw [hfn] at hg
      simp only [Bool.and_eq_true, Bool.not_eq_true'] at hg
      simp only [execOp, ho, resolve, hc, Sem.run_bind, Deferred.ofValue, hv, Sem.run_pure, Result.andThen_ok, invoke, callFunc, run_program, hfn]
      have e1 : fn.body.isNone = false := by rw [← Option.not_isSome, hg.2]; rfl
      simp [hg.1, e1]
  unfold Oper.wp
  rw [hrun]
  simp only [Oper.upon]
  rw [← Array.toArray_toList (xs := first ++ c.args.map a.eval ++ caps)]
  refine hcall.mono ?_
  rintro e w' ⟨r, σ', nx', C', v, g0, rfl, g1, g2, g3, g4⟩
  exact hK _ _ _ _ _ g0 ⟨C', g2, put_rep h5 g4 h2 (by rw [h3]; exact hd) g3, by rw [put_size]; exact h3, by rw [put_def]; exact h4, g1, h6.trans g4⟩

theorem call_wp {o : Oper} {c : Call} {fo : Operand} (ho : o.op = .call c) (hc : c.callee = .value fo) {f : FuncId} {args : List AV} (hf : callee (ev s.m fo) (c.args.toList.map (ev s.m)) = some (f, args))
    {r : AV} {σ' : Nat → AObj} {nx' : Nat} (spec : CallSpec P f args s.σ s.nx r σ' nx') {a : Act} {w : World} (hd : dOk B.n o.dst = true) (hr : Rel B s a w) {K : Act → World → Prop} {Q : Exit → Act → World → Prop}
    (hK : ∀ a' w', Rel B ⟨put s.m o.dst r, σ', nx'⟩ a' w' → K a' w') : o.wp P a w K Q :=
  call_wpQ ho hc hf spec.q hd hr fun r' σ'' nx'' a' w' ⟨e1, e2, e3⟩ h => by subst e1 e2 e3; exact hK a' w' h

theorem K_callQ {all : Array Oper} {o : Oper} {rest : List Oper} {c : Call} {fo : Operand} (hg : o.guard = none) (ho : o.op = .call c) (hc : c.callee = .value fo) {f : FuncId} {args : List AV}
    (hf : callee (ev s.m fo) (c.args.toList.map (ev s.m)) = some (f, args)) (hd : dOk B.n o.dst = true) {S : AV → (Nat → AObj) → Nat → Prop} (spec : CallQ P f args s.σ s.nx S)
    (h : ∀ r σ' nx', S r σ' nx' → Kp P B (.ops all rest :: k) R .normal ⟨put s.m o.dst r, σ', nx'⟩) : Kp P B (.ops all (o :: rest) :: k) R .normal s := by
  intro a w hr
  exact wpList_plain hg fun K hK => call_wpQ ho hc hf spec hd hr fun r σ' nx' a' w' hs hr' => hK _ _ (h r σ' nx' hs a' w' hr')

theorem K_call {all : Array Oper} {o : Oper} {rest : List Oper} {c : Call} {fo : Operand} (hg : o.guard = none) (ho : o.op = .call c) (hc : c.callee = .value fo) {f : FuncId} {args : List AV}
    (hf : callee (ev s.m fo) (c.args.toList.map (ev s.m)) = some (f, args)) (hd : dOk B.n o.dst = true) {r : AV} {σ' : Nat → AObj} {nx' : Nat} (spec : CallSpec P f args s.σ s.nx r σ' nx')
    (h : Kp P B (.ops all rest :: k) R .normal ⟨put s.m o.dst r, σ', nx'⟩) : Kp P B (.ops all (o :: rest) :: k) R .normal s := by
  intro a w hr
  exact wpList_plain hg fun K hK => call_wp ho hc hf spec hd hr fun a' w' hr' => hK _ _ (h a' w' hr')

theorem K_callT {all : Array Oper} {o : Oper} {rest : List Oper} {c : Call} {fo : Operand} {j : Nat} {b : Bool} (hg : o.guard = some (j, b)) (hv : gval all s.m j = some (some b)) (ho : o.op = .call c) (hc : c.callee = .value fo) {f : FuncId} {args : List AV}
    (hf : callee (ev s.m fo) (c.args.toList.map (ev s.m)) = some (f, args)) (hd : dOk B.n o.dst = true) {r : AV} {σ' : Nat → AObj} {nx' : Nat} (spec : CallSpec P f args s.σ s.nx r σ' nx')
    (h : Kp P B (.ops all rest :: k) R .normal ⟨put s.m o.dst r, σ', nx'⟩) : Kp P B (.ops all (o :: rest) :: k) R .normal s := by
  intro a w hr
  refine wpList_step fun K hK => ?_
  have hw : Region.wanted o (yielded all a.tmps) = true := by
    obtain ⟨C, _, h2, _⟩ := hr
    simp [Region.wanted, hg, gval_rep h2 hv]
  rw [if_pos hw]
  exact call_wp ho hc hf spec hd hr fun a' w' hr' => hK _ _ (h a' w' hr')

/-- A call in a region that draws its order. -/
theorem does_call {all : Array Oper} {i : Nat} {o : Oper} {m : Slots} {c : Call} {fo : Operand} {f : FuncId} {args : List AV} {r : AV} {σ σ' : Nat → AObj} {nx nx' : Nat} {n : Nat} (ho' : all[i]? = some o) (hl : lets all m o = some true) (ho : o.op = .call c) (hc : c.callee = .value fo)
    (hf : callee (ev m fo) (c.args.toList.map (ev m)) = some (f, args)) (spec : CallSpec P f args σ nx r σ' nx') : Does P n all i m σ nx r σ' nx' := by
  intro C a w hn hs hsz hr K Q hK
  obtain ⟨hg, spec⟩ := spec
  have hops : ∀ x ∈ o.op.operands.toList, ev (mask (looksOf all i) m) x = ev m x := mask_ev ho'
  have hmem : ∀ x, x = fo ∨ x ∈ c.args.toList → x ∈ o.op.operands.toList := by
    intro x hx
    rw [ho]
    simp only [Op.operands, Call.operands, hc]
    rcases hx with rfl | hx
    · simp
    · simp; exact .inr (by simpa using hx)
  have e1 := hops fo (hmem _ (.inl rfl))
  have e2 : c.args.toList.map (ev (mask (looksOf all i) m)) = c.args.toList.map (ev m) := List.map_congr_left fun x hx => hops x (hmem x (.inr hx))
  rw [← e1, ← e2] at hf
  have hρ := ev_rep hr
  obtain ⟨hl', hlr⟩ := map_rep hρ c.args
  obtain ⟨first, caps, hv, hrl⟩ := callee_rep hf (hρ fo) hl' hlr
  have hcall := spec C w _ hs hn hrl
  have hrun : (execOp a.eval o).run P w = .ok (.enter f (first ++ c.args.map a.eval ++ caps)) w := by
    unfold goodFn at hg
    cases hfn : P.funcs[f]? with
    | none => rw [hfn] at hg; cases hg
    | some fn =>
      rw [hfn] at hg
      simp only [Bool.and_eq_true, Bool.not_eq_true'] at hg
      simp only [execOp, ho, resolve, hc, Sem.run_bind, Deferred.ofValue, hv, Sem.run_pure, Result.andThen_ok, invoke, callFunc, run_program, hfn]
      have e1 : fn.body.isNone = false := by rw [← Option.not_isSome, hg.2]; rfl
      simp [hg.1, e1]
  have hd : dstOf all i = o.dst := by simp [dstOf, ho']
  simp only [wpOp, ho', lets_wanted ho' hr hl, if_true]
  left
  unfold Oper.wp
  rw [hrun]
  simp only [Oper.upon]
  rw [← Array.toArray_toList (xs := first ++ c.args.map a.eval ++ caps)]
  rw [hd] at hK
  refine hcall.mono ?_
  rintro e w' ⟨C', v, rfl, g1, g2, g3, g4⟩
  exact hK _ _ C' g1 g2 g4 g3

section
variable {all : Array Oper} {lo : List Nat} {i : Nat} {o : Oper} {rest : List Oper} {pend : List Rc} {c : Call} {fo : Operand} {f : FuncId} {args : List AV} {r : AV}
theorem K_dCallP (hl : lets all s.m o = some true) (ho : o.op = .call c) (hc : c.callee = .value fo) (hf : callee (ev s.m fo) (c.args.toList.map (ev s.m)) = some (f, args)) (spec : Pure P f args r)
    (h : Kp P B (.opsD all lo (i + 1) rest pend :: k) R .normal ⟨put s.m o.dst r, s.σ, s.nx⟩) : Kp P B (.opsD all lo i (o :: rest) pend :: k) R .normal s :=
  Chain.at fun ho' => Chain.step (loud := none) (does_call ho' hl ho hc hf (spec.spec _ _)) (fun _ => .inl fun _ _ => does_call ho' hl ho hc hf (spec.spec _ _)) (fun c hc => by cases hc) (fun _ h => h) h
theorem K_dCall {σ' : Nat → AObj} {nx' : Nat} (hl : lets all s.m o = some true) (ho : o.op = .call c) (hc : c.callee = .value fo) (hf : callee (ev s.m fo) (c.args.toList.map (ev s.m)) = some (f, args)) (spec : CallSpec P f args s.σ s.nx r σ' nx')
    (hi : i ∈ lo) (hp : ∀ q ∈ pend, anc all q.i i = true ∨ Does P B.n all q.i q.m σ' nx' q.v σ' nx')
    (h : Kp P B (.opsD all lo (i + 1) rest pend :: k) R .normal ⟨put s.m o.dst r, σ', nx'⟩) : Kp P B (.opsD all lo i (o :: rest) pend :: k) R .normal s :=
  Chain.at fun ho' => Chain.step (loud := some (σ', nx')) (does_call ho' hl ho hc hf spec) (fun hc => by cases hc) (fun c hc => by cases hc; exact ⟨hi, hp⟩) (fun _ h => h) h
end

/-! ### A function's contract -/

/-- A result variable's value. -/
def resA (P : Program) (s : St) : ResultVar → Option AV
  | .tmp t => some (s.m t)
  | .cell t ty => match TT P ty, s.m t with
    | some i, .ptr b o => match s.σ b with
      | .box cs => partA i cs o
      | _ => none
    | _, _ => none
def resL (P : Program) (s : St) : List ResultVar → Option (List AV)
  | [] => some []
  | x :: xs => match resA P s x, resL P s xs with
    | some a, some as => some (a :: as)
    | _, _ => none
def resV : List AV → AV
  | [a] => a
  | as => .tup as

/-- What falls away with the function's own objects: rows become trees. -/
def frz (σ : Nat → AObj) : AV → AV
  | .fsl es => .t (.sl es)
  | .ref q => match σ q with
    | .arr _ es => .t (.sl es)
    | _ => .any
  | .agg cs => .agg (frzL σ cs)
  | .tup cs => .tup (frzL σ cs)
  | a => a
  where
  frzL (σ : Nat → AObj) : List AV → List AV
  | [] => []
  | c :: cs => frz σ c :: frzL σ cs

/-- The end of a call: what stays of the store, what the result is. -/
structure Ends (n0 : Nat) (s : St) (r0 : AV) (σ' : Nat → AObj) (nx' : Nat) (r : AV) : Prop where
  obj : ∀ i, σ' i = .dead ∨ (σ' i = s.σ i ∧ (nx' = s.nx ∨ (bndO nx' (σ' i) = true ∧ i < nx')))
  nx : nx' ≤ s.nx
  base : n0 ≤ nx'
  res : (r = r0 ∨ ((∀ i, σ' i = .dead) ∧ r = frz s.σ r0)) ∧ (nx' = s.nx ∨ bnd nx' r = true)

theorem frzL_get {σ : Nat → AObj} : ∀ {cs : List AV} {k : Nat} {a : AV}, (frz.frzL σ cs)[k]? = some a → ∃ b, cs[k]? = some b ∧ a = frz σ b
  | [], k, a, h => by simp [frz.frzL] at h
  | c :: cs, k, a, h => by
    cases k with
    | zero => simp [frz.frzL] at h; exact ⟨c, rfl, h.symm⟩
    | succ k =>
      simp only [frz.frzL, List.getElem?_cons_succ] at h
      obtain ⟨b, h1, h2⟩ := frzL_get h
      exact ⟨b, by simpa using h1, h2⟩
theorem frzL_length {σ : Nat → AObj} : ∀ (cs : List AV), (frz.frzL σ cs).length = cs.length
  | [] => rfl
  | c :: cs => by simp only [frz.frzL, List.length_cons, frzL_length cs]

theorem frz_rep {w : World} {C C' : Ctx} {σ : Nat → AObj} (hs : Sim C σ w) (hi : ∀ b, C'.imm b ↔ (C.imm b ∨ Mut C σ b)) (ho : C'.own = C.own) (hh : C'.hdr = C.hdr) (hn : C'.nx = C.nx) {x : AV} {v : Value} (h : RepA w C x v) : RepA w C' (frz σ x) v := by
  have hk : Keeps w C.imm w C'.imm := ⟨fun b hb => (hi b).2 (.inl hb), fun _ _ => rfl⟩
  have hc : CtxLe C C' := ⟨by rw [hn]; exact Nat.le_refl _, fun _ _ => by rw [ho], fun _ _ => by rw [hh]⟩
  induction h with
  | t h => exact (RepA.t h).keeps hk hc
  | agg hl _ ih =>
    simp only [frz]
    refine .agg (by rw [frzL_length]; exact hl) fun k a u ha hu => ?_
    obtain ⟨b, h1, rfl⟩ := frzL_get ha
    exact ih k b u h1 hu
  | tup hl _ ih =>
    simp only [frz]
    refine .tup (by rw [frzL_length]; exact hl) fun k a u ha hu => ?_
    obtain ⟨b, h1, rfl⟩ := frzL_get ha
    exact ih k b u h1 hu
  | fsl h => exact .t (h.keeps hk)
  | @ref q n c a h1 h2 =>
    simp only [frz]
    split
    · rename_i sz es hσ
      have hob := hs.obj q
      rw [hσ] at hob
      obtain ⟨e1, e2, e3⟩ := arr_elems hob h2
      subst e1
      refine .t ?_
      rcases Nat.eq_zero_or_pos es.length with h0 | h0
      · have : es = [] := List.eq_nil_of_length_eq_zero h0
        subst this
        exact .nil
      · obtain ⟨ad, rfl, hcell⟩ := e3.2 h0
        have hown : C.own q = some ad.block := by
          obtain ⟨_, ⟨e0, _⟩ | ⟨bl, cap, vs, E, lo, hi', ho1, ho2, _⟩⟩ := hob
          · subst e0; simp at h0
          · rw [h2] at ho2; cases ho2; exact ho1
        have hx : ∀ m, m < es.length * sz → ∃ u, w.cell? (ad.add m) = some u := by
          intro m hm
          obtain ⟨e, he, _, hmod, e1⟩ := flat_ix e3.1 hm
          have hel := e3.1 e (List.mem_of_getElem? he)
          obtain ⟨u, g1, _⟩ := hcell (m / sz) (m % sz) e _ he (List.getElem?_eq_getElem (by omega))
          rw [← e1] at g1
          exact ⟨u, g1⟩
        refine .sl (u := fun m => (w.cell? (ad.add m)).getD undef) h0 e3.1 e2 ((hi _).2 (.inr ⟨q, by rw [hσ]; exact (fun h => by cases h), hown⟩)) (fun m hm => ?_) (fun j m e ct he hct => ?_)
        · obtain ⟨u, hu⟩ := hx m hm
          rw [hu]; rfl
        · obtain ⟨u, g1, g2⟩ := hcell j m e ct he hct
          show RepT w C'.imm ct ((w.cell? (ad.add (j * sz + m))).getD undef)
          rw [g1]
          exact g2.keeps hk
    · exact .any
  | ptr h1 h2 => exact (RepA.ptr h1 h2).keeps hk hc
  | rd h1 h2 h3 => exact (RepA.rd h1 h2 h3).keeps hk hc
  | el h1 h2 h3 => exact (RepA.el h1 h2 h3).keeps hk hc
  | mapr h1 h2 => exact (RepA.mapr h1 h2).keeps hk hc
  | fn h1 h2 h3 h4 _ _ => exact (RepA.fn h1 h2 h3 h4).keeps hk hc
  | any => exact .any

theorem resL_rep {w : World} {C : Ctx} {a : Act} (hs : Sim C s.σ w) (h2 : ∀ t, RepA w C (s.m t) (a.tmps.getD t undef)) : ∀ {xs : List ResultVar} {as : List AV}, resL P s xs = some as →
    ∃ vs, (xs.mapM fun (x : ResultVar) => (match x with | .tmp t => pure (a.tmps.getD t undef) | .cell t ty => do loadVar ty (← asAddr (a.tmps.getD t undef)) : Sem Value)).run P w = .ok vs w ∧ RepL w C as vs := by
  intro xs
  induction xs with
  | nil => intro as h; simp only [resL] at h; cases h; exact ⟨[], rfl, rfl, fun k a u h => by simp at h⟩
  | cons x xs ih =>
    intro as h
    simp only [resL] at h
    split at h
    · rename_i r rs hr hrs
      cases h
      obtain ⟨vs, g1, g2⟩ := ih hrs
      have hx : ∃ u, (match x with | .tmp t => pure (a.tmps.getD t undef) | .cell t ty => do loadVar ty (← asAddr (a.tmps.getD t undef)) : Sem Value).run P w = .ok u w ∧ RepA w C r u := by
        cases x with
        | tmp t => simp only [resA] at hr; cases hr; exact ⟨_, rfl, h2 t⟩
        | cell t ty =>
          simp only [resA] at hr
          split at hr
          · rename_i i b o hi hm
            have hp := h2 t
            rw [hm] at hp
            obtain ⟨bl, hv, e1, e2⟩ := rep_ptr hp
            split at hr
            · rename_i cs hσ
              obtain ⟨vs', E, h3, h4, h5⟩ := obj_box hs hσ e2
              obtain ⟨u, h6, h7⟩ := load_rep hi (a := ⟨bl, o, none⟩) (fun k x hk => by
                have hlt : o + k < vs'.size := by have := (List.getElem?_eq_some_iff.1 hk).1; omega
                refine ⟨vs'[o + k], ?_, h5 _ _ _ hk (Array.getElem?_eq_getElem hlt)⟩
                rw [add_off, cell_in h3, Array.getElem?_eq_getElem hlt]) hr
              exact ⟨u, by simp only [hv, asAddr, Sem.run_bind, Sem.run_pure, Result.andThen_ok, h6], h7⟩
            · cases hr
          · cases hr
      obtain ⟨u, hu, hru⟩ := hx
      refine ⟨u :: vs, ?_, by simp [g2.1], fun k y z hy hz => ?_⟩
      · rw [List.mapM_cons]
        simp only [Sem.run_bind, hu, Result.andThen_ok, g1, Sem.run_pure]
      · cases k with
        | zero => simp at hy hz; subst hy; subst hz; exact hru
        | succ k => exact g2.2 k y z (by simpa using hy) (by simpa using hz)
    · cases h

/-- The slots at the begin. -/
def slots0 (args : List AV) : Slots := fun i => args.getD i (.tup [])

/-- What must hold at a function's end. -/
def Done (P : Program) (res : List ResultVar) (n0 : Nat) (r : AV) (σ' : Nat → AObj) (nx' : Nat) : Post := fun e s =>
  match e with
  | .ret | .normal => ∃ rs, resL P s res = some rs ∧ Ends n0 s (resV rs) σ' nx' r
  | _ => False

theorem spec_of_KQ {f : FuncId} {fn : Func} {c : Code} (hf : P.funcs[f]? = some fn) (hb : fn.body = some c) (hname : (fn.name == "runtime.NumGoroutine") = false) {args : List AV} {σ : Nat → AObj} {nx : Nat} {S : AV → (Nat → AObj) → Nat → Prop}
    (hn : args.length ≤ fn.ntmps) (h : ∀ B : Base, B.n = fn.ntmps → B.C.nx = nx → B.σ = σ → Kp P B [.code c] (fun e s => ∃ r σ' nx', S r σ' nx' ∧ Done P fn.results.toList nx r σ' nx' e s) .normal ⟨slots0 args, σ, nx⟩) : CallQ P f args σ nx S := by
  refine ⟨by simp [goodFn, hf, hb, hname], fun C w vs hs hnx hl => ?_⟩
  refine calls_of_wp hf hb ?_
  have hrel : Rel ⟨C, σ, w, fn.ntmps⟩ ⟨slots0 args, σ, nx⟩ { tmps := vs.toArray ++ Array.replicate (fn.ntmps - vs.toArray.size) undef, defers := [] } w := by
    refine ⟨C, hnx, fun t => ?_, by simp; have := hl.1; omega, rfl, hs, Step.refl _ _ _⟩
    simp only [slots0, Array.getD_eq_getD_getElem?, List.getD_eq_getElem?_getD]
    have hlen := hl.1
    by_cases ht : t < vs.length
    · rw [Array.getElem?_append_left (by simpa using ht)]
      have h1 : args[t]? = some args[t] := List.getElem?_eq_getElem (by omega)
      have h2 : vs.toArray[t]? = some vs[t] := by simp [ht]
      rw [h1, h2]
      exact hl.2 t _ _ h1 (List.getElem?_eq_getElem ht)
    · rw [List.getElem?_eq_none (by omega)]
      have : ((vs.toArray ++ Array.replicate (fn.ntmps - vs.toArray.size) undef)[t]?).getD undef = undef := by
        rw [Array.getElem?_append_right (by simp; omega)]
        cases hx : (Array.replicate (fn.ntmps - vs.toArray.size) undef)[t - vs.toArray.size]? with
        | none => rfl
        | some u =>
          rw [Array.getElem?_replicate] at hx
          split at hx
          · cases hx; rfl
          · cases hx
      rw [this]
      exact .tup rfl (fun k a u h => by simp at h)
  refine wp_mono (h ⟨C, σ, w, fn.ntmps⟩ rfl hnx rfl _ _ hrel) fun e a' w' hp => ?_
  obtain ⟨s', ⟨r, σ', nx', hS, hd⟩, hr'⟩ := hp
  have fin0 : (∃ rs, resL P s' fn.results.toList = some rs ∧ Ends nx s' (resV rs) σ' nx' r) → a'.defers = [] ∧ ∃ v, (results fn a'.tmps).run P w' = .ok v w' ∧ ∃ C' v', Ending.returned v = .returned v' ∧ Sim C' σ' w' ∧ C'.nx = nx' ∧ RepA w' C' r v' ∧ Step C σ w C' σ' w' := by
    rintro ⟨rs, hrs, he⟩
    obtain ⟨C1, h1, h2, h3, h4, h5, h6⟩ := hr'
    obtain ⟨us, g1, g2⟩ := resL_rep (P := P) h5 h2 hrs
    have hv : ∃ v, (results fn a'.tmps).run P w' = .ok v w' ∧ RepA w' C1 (resV rs) v := by
      have hm : (fn.results.mapM fun (x : ResultVar) => (match x with | .tmp t => pure (a'.tmps.getD t undef) | .cell t ty => do loadVar ty (← asAddr (a'.tmps.getD t undef)) : Sem Value)).run P w' = .ok us.toArray w' := by
        rw [Array.mapM_eq_mapM_toList, Sem.run_map, g1]
        rfl
      refine ⟨if h : us.toArray.size = 1 then us.toArray[0] else .tuple us.toArray, ?_, ?_⟩
      · unfold results
        rw [Sem.run_bind]
        refine Eq.trans (congrArg (fun z => Result.andThen z _) hm) ?_
        rfl
      · obtain ⟨gl, gr⟩ := g2
        match rs, us, gl with
        | [], [], _ => exact .tup rfl (fun k a u h => by simp at h)
        | [a], [u], _ => simpa [resV] using gr 0 a u rfl rfl
        | a :: b :: r, u :: v :: l, hl2 =>
          rw [dif_neg (by simp)]
          exact .tup (by simpa using hl2) fun k a u ha hu => gr k a u ha (by simpa using hu)
    obtain ⟨v, hv1, hv2⟩ := hv
    refine ⟨h4, v, hv1, ?_⟩
    have live : ∀ i, σ' i ≠ .dead → s'.σ i ≠ .dead ∧ σ' i = s'.σ i ∧ bndO nx' (σ' i) = true ∧ i < nx' := fun i hi => by
      rcases he.obj i with e | ⟨e1, e2⟩
      · exact absurd e hi
      · have hi' : s'.σ i ≠ .dead := by rw [← e1]; exact hi
        rcases e2 with e2 | ⟨e2, e3⟩
        · exact ⟨hi', e1, by rw [e2, ← h1, e1]; exact (h5.obj i).bnded, by rw [e2, ← h1]; exact live_lt h5 hi'⟩
        · exact ⟨hi', e1, e2, e3⟩
    obtain ⟨hres, hbr⟩ := he.res
    rcases hres with hres | ⟨hdead, hres⟩
    · subst hres
      have hbr : bnd nx' (resV rs) = true := by
        rcases hbr with e | e
        · rw [e, ← h1]; exact hv2.bnded
        · exact e
      refine ⟨{ C1 with nx := nx' }, v, rfl, ⟨fun i hi => ?_, fun i => ?_, fun i j b hi hj => h5.inj i j b (live i hi).1 (live j hj).1, fun i b hi => h5.sep i b (live i hi).1, h5.imm_lt⟩, rfl, RepA.less (C := C1) (C' := { C1 with nx := nx' }) rfl rfl rfl hv2 hbr,
        ⟨⟨by show C.nx ≤ nx'; rw [hnx]; exact he.base, fun i hi => h6.le.own i hi, fun i hi => h6.le.hdr i hi⟩, h6.os, h6.tape, h6.output, h6.size, h6.imm, h6.same, fun b ⟨i, hi, hb⟩ => h6.wr b ⟨i, (live i hi).1, hb⟩, h6.imm'⟩⟩
      · by_cases hd : σ' i = .dead
        · exact hd
        · have := (live i hd).2.2.2
          exact absurd hi (by simp; omega)
      · by_cases hi : σ' i = .dead
        · rw [hi]; exact True.intro
        · obtain ⟨e1, e2, e3, e4⟩ := live i hi
          have := h5.obj i
          rw [← e2] at this
          exact RepO.less (C := C1) (C' := { C1 with nx := nx' }) rfl rfl rfl this e3
    · obtain ⟨C2, hC2⟩ : ∃ C2 : Ctx, C2 = { C1 with imm := fun b => C1.imm b ∨ Mut C1 s'.σ b } := ⟨_, rfl⟩
      have hfr := frz_rep h5 (C' := C2) (fun b => by rw [hC2]) (by rw [hC2]) (by rw [hC2]) (by rw [hC2]) hv2
      rw [← hres] at hfr
      have hbr : bnd nx' r = true := by
        rcases hbr with e | e
        · rw [e, ← h1]; have := hfr.bnded; rw [hC2] at this; exact this
        · exact e
      have hi2 : ∀ b, C2.imm b ↔ (C1.imm b ∨ Mut C1 s'.σ b) := fun b => by rw [hC2]
      refine ⟨{ C2 with nx := nx' }, v, rfl, ⟨fun i _ => hdead i, fun i => by rw [hdead i]; exact True.intro, fun i j b hi => absurd (hdead i) hi, fun i b hi => absurd (hdead i) hi, fun b hb => ?_⟩, rfl, RepA.less (C := C2) (C' := { C2 with nx := nx' }) rfl rfl rfl hfr hbr,
        ⟨⟨by show C.nx ≤ nx'; rw [hnx]; exact he.base, fun i hi => by subst hC2; exact h6.le.own i hi, fun i hi => by subst hC2; exact h6.le.hdr i hi⟩, h6.os, h6.tape, h6.output, h6.size, fun b hb => (hi2 b).2 (.inl (h6.imm b hb)), h6.same, fun b ⟨i, hi, _⟩ => absurd (hdead i) hi, fun b hb => ?_⟩⟩
      · rcases (hi2 b).1 hb with h | ⟨i, hi, ho⟩
        · exact h5.imm_lt b h
        · exact own_lt h5 hi ho
      · rcases (hi2 b).1 hb with h | h
        · exact h6.imm' b h
        · rcases h6.wr b h with h | h
          · exact .inr (.inl h)
          · exact .inr (.inr h)
  have fin : (∃ rs, resL P s' fn.results.toList = some rs ∧ Ends nx s' (resV rs) σ' nx' r) → a'.defers = [] ∧ ∃ v, (results fn a'.tmps).run P w' = .ok v w' ∧ ∃ r σ' nx' C' v', S r σ' nx' ∧ Ending.returned v = .returned v' ∧ Sim C' σ' w' ∧ C'.nx = nx' ∧ RepA w' C' r v' ∧ Step C σ w C' σ' w' := fun h => by
    obtain ⟨h1, v, h2, C', v', h3⟩ := fin0 h
    exact ⟨h1, v, h2, r, σ', nx', C', v', hS, h3⟩
  cases e with
  | ret => exact fin hd
  | normal => exact fin hd
  | _ => exact hd.elim

theorem spec_of_K {f : FuncId} {fn : Func} {c : Code} (hf : P.funcs[f]? = some fn) (hb : fn.body = some c) (hname : (fn.name == "runtime.NumGoroutine") = false) {args : List AV} {σ : Nat → AObj} {nx : Nat} {r : AV} {σ' : Nat → AObj} {nx' : Nat}
    (hn : args.length ≤ fn.ntmps) (h : ∀ B : Base, B.n = fn.ntmps → B.C.nx = nx → B.σ = σ → Kp P B [.code c] (Done P fn.results.toList nx r σ' nx') .normal ⟨slots0 args, σ, nx⟩) : CallSpec P f args σ nx r σ' nx' := by
  refine (spec_of_KQ hf hb hname hn fun B h1 h2 h3 => ?_).spec
  exact fun a w hrel => wp_mono (h B h1 h2 h3 a w hrel) (post_mono fun e s hp => ⟨r, σ', nx', ⟨rfl, rfl, rfl⟩, hp⟩)

end
end Go.Proofs.Ytibmjinfdcmbdaa.R
