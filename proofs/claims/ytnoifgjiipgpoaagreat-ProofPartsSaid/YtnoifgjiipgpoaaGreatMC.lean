/- Parts of the proof: R13, R14, R15, R16, R17, R18, R19, R20, R21, R22, R23, R24, R25, R26, R27, R28, R29. -/
import Derived.Test.YtnoifgjiipgpoaaGreatMB
import Derived.KernelRfl
import Derived.Laws.StructEq
import Derived.Laws.ComplexArith
import Derived.WalkKit
import Derived.ProofKit
import Derived.OpenShut
import Derived.Carry
import Derived.RangeFuncIn
import Derived.Laws.Cover3
set_option linter.all false
set_option maxHeartbeats 4000000
namespace Go.Proofs.YtnoifgjiipgpoaaGreat.R
open Go.RowKit
def goodFn (P:Program) (f:FuncId):Bool:=
 match P.funcs[f]? with
 |some fn=>!(fn.name== "runtime.NumGoroutine")&&fn.body.isSome
 |none=>false
def CallSpec (P:Program) (f:FuncId) (args:List AV) (σ:Nat→AObj) (nx:Nat) (r:AV) (σ':Nat→AObj) (nx':Nat):Prop:=
 goodFn P f=true∧∀(C:Ctx) (w:World) (vs:List Value),Sim C σ w→C.nx=nx→RepL w C args vs→
  Calls P f vs.toArray w fun e w'=>∃C' v,e= .returned v∧Sim C' σ' w'∧C'.nx=nx'∧RepA w' C' r v∧Step C σ w C' σ' w'
def CallQ (P:Program) (f:FuncId) (args:List AV) (σ:Nat→AObj) (nx:Nat) (Q:AV→(Nat→AObj)→Nat→Prop):Prop:=
 goodFn P f=true∧∀(C:Ctx) (w:World) (vs:List Value),Sim C σ w→C.nx=nx→RepL w C args vs→
  Calls P f vs.toArray w fun e w'=>∃r σ' nx' C' v,Q r σ' nx'∧e= .returned v∧Sim C' σ' w'∧C'.nx=nx'∧RepA w' C' r v∧Step C σ w C' σ' w'
theorem CallQ.spec {P:Program} {f:FuncId} {args:List AV} {σ:Nat→AObj} {nx:Nat} {r:AV} {σ':Nat→AObj} {nx':Nat} (h:CallQ P f args σ nx fun a b c=>a=r∧b=σ'∧c=nx'):CallSpec P f args σ nx r σ' nx':=by
 refine ⟨h.1,fun C w vs h1 h2 h3=>(h.2 C w vs h1 h2 h3).mono ?_⟩
 rintro e w' ⟨_,_,_,C',v,⟨rfl,rfl,rfl⟩,g⟩
 exact ⟨C',v,g⟩
theorem CallSpec.q {P:Program} {f:FuncId} {args:List AV} {σ:Nat→AObj} {nx:Nat} {r:AV} {σ':Nat→AObj} {nx':Nat} (h:CallSpec P f args σ nx r σ' nx'):CallQ P f args σ nx fun a b c=>a=r∧b=σ'∧c=nx':=by
 refine ⟨h.1,fun C w vs h1 h2 h3=>(h.2 C w vs h1 h2 h3).mono ?_⟩
 rintro e w' ⟨C',v,g⟩
 exact ⟨_,_,_,C',v,⟨rfl,rfl,rfl⟩,g⟩
def noObj:Nat→AObj:=fun _=>.dead
def Pure (P:Program) (f:FuncId) (args:List AV) (r:AV):Prop:=
 (∀a∈args,bnd 0 a=true)∧bnd 0 r=true∧CallSpec P f args noObj 0 r noObj 0
section
variable {P:Program}
theorem RepA.closed {w:World} {C C':Ctx} (h1:C'.imm=C.imm) {x:AV} {v:Value} (h:RepA w C x v) (hb:bnd 0 x=true):RepA w C' x v:=by
 induction h with
 |t h=>exact .t (by rw [h1];exact h)
 |agg hl _ ih=>exact .agg hl fun k a u ha hu=>ih k a u ha hu (bndL_get (by simpa [bnd] using hb) k a ha)
 |tup hl _ ih=>exact .tup hl fun k a u ha hu=>ih k a u ha hu (bndL_get (by simpa [bnd] using hb) k a ha)
 |fsl h=>exact .fsl (by rw [h1];exact h)
 |ref h hh=>simp [bnd] at hb
 |ptr h ho=>simp [bnd] at hb
 |rd hi hcell hr=>exact .rd (by rw [h1];exact hi) hcell (fun k c h=>by rw [h1];exact hr k c h)
 |el h ho hh=>simp [bnd] at hb
 |cut h ho hh=>simp [bnd] at hb
 |ifc hl hr=>exact .ifc hl fun k c u hc hu=>by rw [h1];exact hr k c u hc hu
 |mapr h ho=>simp [bnd] at hb
 |yld h ho=>simp [bnd] at hb
 |fn hl _ hl' _ ih ih'=>
  simp only [bnd,Bool.and_eq_true] at hb
  exact .fn hl (fun k a u ha hu=>ih k a u ha hu (bndL_get hb.1 k a ha)) hl' (fun k a u ha hu=>ih' k a u ha hu (bndL_get hb.2 k a ha))
 |any=>exact .any
theorem Pure.spec {f:FuncId} {args:List AV} {r:AV} (h:Pure P f args r) (σ:Nat→AObj) (nx:Nat):CallSpec P f args σ nx r σ nx:=by
 obtain ⟨ha,hr,hg,h⟩:=h
 refine ⟨hg,fun C w vs hs hn hl=>?_⟩
 obtain ⟨C0,hC0⟩:∃C0:Ctx,C0=⟨C.imm,fun _=>none,C.hdr,0⟩:=⟨_,rfl⟩
 have h0:Sim C0 noObj w:=by
  subst hC0
  exact ⟨fun _ _=>rfl,fun _=>True.intro,fun _ _ _ hi=>absurd rfl hi,fun _ _ hi=>absurd rfl hi,hs.imm_lt⟩
 refine (h C0 w vs h0 (by rw [hC0]) ⟨hl.1,fun k a u hk hu=>RepA.closed (C:=C) (by rw [hC0]) (hl.2 k a u hk hu) (ha a (List.mem_of_getElem? hk))⟩).mono ?_
 rintro e w' ⟨C1,v,rfl,hs1,hn1,hr1,st⟩
 have nomut:∀b,¬Mut C0 noObj b:=fun b ⟨i,hi,_⟩=>hi rfl
 have himm0:C0.imm=C.imm:=by rw [hC0]
 have himm1:∀b,C1.imm b→C.imm b∨w.heap.size≤b:=fun b hb=>by
  rcases st.imm' b hb with h | h | h
  ·rw [himm0] at h;exact .inl h
  ·exact absurd h (nomut b)
  ·exact .inr h
 have hle:CtxLe C {C with imm:=C1.imm}:=⟨Nat.le_refl _,fun _ _=>rfl,fun _ _=>rfl⟩
 have hk:Keeps w C.imm w' C1.imm:=⟨fun b hb=>st.imm b (by rw [himm0];exact hb),fun b hb=>st.same b (hs.imm_lt b hb) (nomut b)⟩
 refine ⟨{C with imm:=C1.imm},v,rfl,⟨hs.dead,fun i=>?_,hs.inj,fun i b hi ho hb=>?_,hs1.imm_lt⟩,hn,RepA.closed (C:=C1) (C':={C with imm:=C1.imm}) rfl hr1 hr,
  ⟨hle,st.os,st.tape,st.output,st.size,fun b hb=>st.imm b (by rw [himm0];exact hb),fun b hb _=>st.same b hb (nomut b),fun b hb=>.inl hb,fun b hb=>(himm1 b hb).imp id .inr⟩⟩
 ·by_cases hi:σ i= .dead
  ·rw [hi];exact True.intro
  ·exact (hs.obj i).step hk hle (live_lt hs hi) (fun b ho=>st.same b (own_lt hs hi ho) (nomut b))
 ·rcases himm1 b hb with h | h
  ·exact hs.sep i b hi ho h
  ·exact absurd (own_lt hs hi ho) (by omega)
theorem RepL.app {w:World} {C:Ctx} {a b:List AV} {u v:List Value} (h1:RepL w C a u) (h2:RepL w C b v):RepL w C (a++b) (u++v):=by
 refine ⟨by rw [List.length_append,List.length_append,h1.1,h2.1],fun k x y hx hy=>?_⟩
 rw [List.getElem?_append] at hx hy
 rw [←h1.1] at hy
 split at hx
 ·rename_i hk
  rw [if_pos hk] at hy
  exact h1.2 k x y hx hy
 ·rename_i hk
  rw [if_neg hk] at hy
  exact h2.2 _ x y hx hy
def callee (a:AV) (args:List AV):Option (FuncId×List AV):=
 match a with
 | .fn (.func g) first caps=>some (g,first++args++caps)
 | .t (.v (.func (.func g) ⟨[]⟩ ⟨[]⟩))=>some (g,args)
 |_=>none
theorem callee_rep {w:World} {C:Ctx} {x:AV} {v:Value} {args:List AV} {vs:Array Value} {g:FuncId} {l:List AV} (h:callee x args=some (g,l)) (hx:RepA w C x v)
  (hl:args.length=vs.size) (hr:∀(k:Nat) (a:AV) (u:Value),args[k]? =some a→vs[k]? =some u→RepA w C a u):
  ∃first caps,v= .func (.func g) first caps∧RepL w C l (first++vs++caps).toList:=by
 unfold callee at h
 split at h
 ·cases h
  obtain ⟨vf,vc,rfl,h1,h2,h3,h4⟩:=rep_fn hx
  refine ⟨vf,vc,rfl,?_⟩
  simp only [Array.toList_append]
  refine ((RepL.app ⟨by simpa using h1,fun k a u ha hu=>h2 k a u ha (by simpa using hu)⟩ ⟨by simpa using hl,fun k a u ha hu=>hr k a u ha (by simpa using hu)⟩).app ⟨by simpa using h3,fun k a u ha hu=>h4 k a u ha (by simpa using hu)⟩)
 ·cases h
  obtain ⟨hv,_⟩:=rep_v hx
  subst hv
  exact ⟨#[],#[],rfl,by simp;omega,fun k a u ha hu=>hr k a u ha (by simpa using hu)⟩
 ·cases h
variable {B:Base} {k:List KI} {R:Post} {s:St}
theorem call_wpQ {o:Oper} {c:Call} {fo:Operand} (ho:o.op= .call c) (hc:c.callee= .value fo) {f:FuncId} {args:List AV} (hf:callee (ev s.m fo) (c.args.toList.map (ev s.m))=some (f,args))
  {S:AV→(Nat→AObj)→Nat→Prop} (spec:CallQ P f args s.σ s.nx S) {a:Act} {w:World} (hd:dOk B.n o.dst=true) (hr:Rel B s a w) {K:Act→World→Prop} {Q:Exit→Act→World→Prop}
  (hK:∀r σ' nx' a' w',S r σ' nx'→Rel B ⟨put s.m o.dst r,σ',nx'⟩ a' w'→K a' w'):owp B.ro P o a w K Q:=by
 obtain ⟨C,h1,h2,h3,h4,h5,h6⟩:=hr
 obtain ⟨hg,spec⟩:=spec
 have hρ:=ev_rep h2
 obtain ⟨hl,hlr⟩:=map_rep hρ c.args
 obtain ⟨first,caps,hv,hrl⟩:=callee_rep hf (hρ fo) hl hlr
 have hcall:=spec C w _ h5 h1 hrl
 have hrun:(execOp a.eval o).run P w= .ok (.enter f (first++c.args.map a.eval++caps)) w:=by
  unfold goodFn at hg
  cases hfn:P.funcs[f]? with
  |none=>rw [hfn] at hg;cases hg
  |some fn=>
   rw [hfn] at hg
   simp only [Bool.and_eq_true,Bool.not_eq_true'] at hg
   simp only [execOp,ho,resolve,hc,Sem.run_bind,Deferred.ofValue,hv,Sem.run_pure,Result.andThen_ok,invoke,callFunc,run_program,hfn]
   have e1:fn.body.isNone=false:=by rw [←Option.not_isSome,hg.2];rfl
   simp [hg.1,e1]
 refine owp_enter hrun ?_
 rw [←Array.toArray_toList (xs:=first++c.args.map a.eval++caps)]
 refine hcall.mono ?_
 rintro e w' ⟨r,σ',nx',C',v,g0,rfl,g1,g2,g3,g4⟩
 exact ⟨v,rfl,hK _ _ _ _ _ g0 ⟨C',g2,put_rep h5 g4 h2 (by rw [h3];exact hd) g3,by rw [put_size];exact h3,by rw [put_def];exact h4.step g4,g1,h6.trans g4⟩⟩
theorem call_wp {o:Oper} {c:Call} {fo:Operand} (ho:o.op= .call c) (hc:c.callee= .value fo) {f:FuncId} {args:List AV} (hf:callee (ev s.m fo) (c.args.toList.map (ev s.m))=some (f,args))
  {r:AV} {σ':Nat→AObj} {nx':Nat} (spec:CallSpec P f args s.σ s.nx r σ' nx') {a:Act} {w:World} (hd:dOk B.n o.dst=true) (hr:Rel B s a w) {K:Act→World→Prop} {Q:Exit→Act→World→Prop}
  (hK:∀a' w',Rel B ⟨put s.m o.dst r,σ',nx'⟩ a' w'→K a' w'):owp B.ro P o a w K Q:=
 call_wpQ ho hc hf spec.q hd hr fun r' σ'' nx'' a' w' ⟨e1,e2,e3⟩ h=>by subst e1 e2 e3;exact hK a' w' h
theorem K_callQ {all:Array Oper} {o:Oper} {rest:List Oper} {c:Call} {fo:Operand} (hg:o.guard=none) (ho:o.op= .call c) (hc:c.callee= .value fo) {f:FuncId} {args:List AV}
  (hf:callee (ev s.m fo) (c.args.toList.map (ev s.m))=some (f,args)) (hd:dOk B.n o.dst=true) {S:AV→(Nat→AObj)→Nat→Prop} (spec:CallQ P f args s.σ s.nx S)
  (h:∀r σ' nx',S r σ' nx'→Kp P B (.ops all rest :: k) R .normal ⟨put s.m o.dst r,σ',nx'⟩):Kp P B (.ops all (o :: rest) :: k) R .normal s:=by
 intro a w hr
 exact wpL_plain hg fun K hK=>call_wpQ ho hc hf spec hd hr fun r σ' nx' a' w' hs hr'=>hK _ _ (h r σ' nx' hs a' w' hr')
theorem K_call {all:Array Oper} {o:Oper} {rest:List Oper} {c:Call} {fo:Operand} (hg:o.guard=none) (ho:o.op= .call c) (hc:c.callee= .value fo) {f:FuncId} {args:List AV}
  (hf:callee (ev s.m fo) (c.args.toList.map (ev s.m))=some (f,args)) (hd:dOk B.n o.dst=true) {r:AV} {σ':Nat→AObj} {nx':Nat} (spec:CallSpec P f args s.σ s.nx r σ' nx')
  (h:Kp P B (.ops all rest :: k) R .normal ⟨put s.m o.dst r,σ',nx'⟩):Kp P B (.ops all (o :: rest) :: k) R .normal s:=by
 intro a w hr
 exact wpL_plain hg fun K hK=>call_wp ho hc hf spec hd hr fun a' w' hr'=>hK _ _ (h a' w' hr')
theorem does_call {all:Array Oper} {i:Nat} {o:Oper} {m:Slots} {c:Call} {fo:Operand} {f:FuncId} {args:List AV} {r:AV} {σ σ':Nat→AObj} {nx nx':Nat} {n:Nat} (ho':all[i]? =some o) (hl:lets all m o=some true) (ho:o.op= .call c) (hc:c.callee= .value fo)
  (hf:callee (ev m fo) (c.args.toList.map (ev m))=some (f,args)) (spec:CallSpec P f args σ nx r σ' nx'):Does P n all i m σ nx r σ' nx':=by
 intro C a w hn hs hsz hr ro K Q hK
 obtain ⟨hg,spec⟩:=spec
 have hops:∀x∈o.op.operands.toList,ev (mask (looksOf all i) m) x=ev m x:=mask_ev ho'
 have hmem:∀x,x=fo∨x∈c.args.toList→x∈o.op.operands.toList:=by
  intro x hx
  rw [ho]
  simp only [Op.operands,Call.operands,hc]
  rcases hx with rfl | hx
  ·simp
  ·simp;exact .inr (by simpa using hx)
 have e1:=hops fo (hmem _ (.inl rfl))
 have e2:c.args.toList.map (ev (mask (looksOf all i) m))=c.args.toList.map (ev m):=List.map_congr_left fun x hx=>hops x (hmem x (.inr hx))
 rw [←e1,←e2] at hf
 have hρ:=ev_rep hr
 obtain ⟨hl',hlr⟩:=map_rep hρ c.args
 obtain ⟨first,caps,hv,hrl⟩:=callee_rep hf (hρ fo) hl' hlr
 have hcall:=spec C w _ hs hn hrl
 have hrun:(execOp a.eval o).run P w= .ok (.enter f (first++c.args.map a.eval++caps)) w:=by
  unfold goodFn at hg
  cases hfn:P.funcs[f]? with
  |none=>rw [hfn] at hg;cases hg
  |some fn=>
   rw [hfn] at hg
   simp only [Bool.and_eq_true,Bool.not_eq_true'] at hg
   simp only [execOp,ho,resolve,hc,Sem.run_bind,Deferred.ofValue,hv,Sem.run_pure,Result.andThen_ok,invoke,callFunc,run_program,hfn]
   have e1:fn.body.isNone=false:=by rw [←Option.not_isSome,hg.2];rfl
   simp [hg.1,e1]
 have hd:dstOf all i=o.dst:=by simp [dstOf,ho']
 simp only [wpO,wpOpIn,ho',lets_wanted ho' hr hl,if_true]
 refine owp_enter hrun ?_
 rw [←Array.toArray_toList (xs:=first++c.args.map a.eval++caps)]
 rw [hd] at hK
 refine hcall.mono ?_
 rintro e w' ⟨C',v,rfl,g1,g2,g3,g4⟩
 exact ⟨v,rfl,hK _ _ C' g1 g2 g4 g3⟩
section
variable {all:Array Oper} {lo:List Nat} {sw:SW} {i:Nat} {o:Oper} {rest:List (Nat×Oper)} {pend:List Rc} {c:Call} {fo:Operand} {f:FuncId} {args:List AV} {r:AV}
theorem K_dCallP (hl:lets all s.m o=some true) (ho:o.op= .call c) (hc:c.callee= .value fo) (hf:callee (ev s.m fo) (c.args.toList.map (ev s.m))=some (f,args)) (spec:Pure P f args r)
  (h:Kp P B (.opsD all lo sw rest pend :: k) R .normal ⟨put s.m o.dst r,s.σ,s.nx⟩):Kp P B (.opsD all lo sw ((i,o) :: rest) pend :: k) R .normal s:=
 Chain.at fun ho'=>Chain.step (loud:=none) (does_call ho' hl ho hc hf (spec.spec _ _)) (fun _=>.inl fun _ _=>does_call ho' hl ho hc hf (spec.spec _ _)) (fun c hc=>by cases hc) (fun _ h=>h) h
theorem K_dCall {σ':Nat→AObj} {nx':Nat} (hl:lets all s.m o=some true) (ho:o.op= .call c) (hc:c.callee= .value fo) (hf:callee (ev s.m fo) (c.args.toList.map (ev s.m))=some (f,args)) (spec:CallSpec P f args s.σ s.nx r σ' nx')
  (hi:i∈lo) (hp:∀q∈pend,anc all q.i i=true∨Does P B.n all q.i q.m σ' nx' q.v σ' nx')
  (h:Kp P B (.opsD all lo sw rest pend :: k) R .normal ⟨put s.m o.dst r,σ',nx'⟩):Kp P B (.opsD all lo sw ((i,o) :: rest) pend :: k) R .normal s:=
 Chain.at fun ho'=>Chain.step (loud:=some (σ',nx')) (does_call ho' hl ho hc hf spec) (fun hc=>by cases hc) (fun c hc=>by cases hc;exact ⟨hi,hp⟩) (fun _ h=>h) h
end
def resA (P:Program) (s:St):ResultVar→Option AV
 | .tmp t=>some (s.m t)
 | .cell t ty=>match TT P ty,s.m t with
  |some i,.ptr b o=>match s.σ b with
   | .box cs=>partA i cs o
   |_=>none
  |_,_=>none
def resL (P:Program) (s:St):List ResultVar→Option (List AV)
 |[]=>some []
 |x :: xs=>match resA P s x,resL P s xs with
  |some a,some avs=>some (a :: avs)
  |_,_=>none
def resV:List AV→AV
 |[a]=>a
 |avs=>.tup avs
def frz (σ:Nat→AObj):AV→AV
 | .fsl es=>.t (.sl es)
 | .ref q=>match σ q with
  | .arr _ es=>.t (.sl es)
  |_=>.any
 | .agg cs=>.agg (frzL σ cs)
 | .tup cs=>.tup (frzL σ cs)
 |a=>a
  where
 frzL (σ:Nat→AObj):List AV→List AV
 |[]=>[]
 |c :: cs=>frz σ c :: frzL σ cs
structure Ends (n0:Nat) (s:St) (r0:AV) (σ':Nat→AObj) (nx':Nat) (r:AV):Prop where
 obj:∀i,σ' i= .dead∨(σ' i=s.σ i∧(nx'=s.nx∨(bndO nx' (σ' i)=true∧i<nx')))
 nx:nx'≤s.nx
 base:n0≤nx'
 res:(r=r0∨((∀i,σ' i= .dead)∧r=frz s.σ r0))∧(nx'=s.nx∨bnd nx' r=true)
theorem frzL_get {σ:Nat→AObj}:∀{cs:List AV} {k:Nat} {a:AV},(frz.frzL σ cs)[k]? =some a→∃b,cs[k]? =some b∧a=frz σ b
 |[],k,a,h=>by simp [frz.frzL] at h
 |c :: cs,k,a,h=>by
  cases k with
  |zero=>simp [frz.frzL] at h;exact ⟨c,rfl,h.symm⟩
  |succ k=>
   simp only [frz.frzL,List.getElem?_cons_succ] at h
   obtain ⟨b,h1,h2⟩:=frzL_get h
   exact ⟨b,by simpa using h1,h2⟩
theorem frzL_length {σ:Nat→AObj}:∀(cs:List AV),(frz.frzL σ cs).length=cs.length
 |[]=>rfl
 |c :: cs=>by simp only [frz.frzL,List.length_cons,frzL_length cs]
theorem frz_rep {w:World} {C C':Ctx} {σ:Nat→AObj} (hs:Sim C σ w) (hi:∀b,C'.imm b↔(C.imm b∨Mut C σ b)) (ho:C'.own=C.own) (hh:C'.hdr=C.hdr) (hn:C'.nx=C.nx) {x:AV} {v:Value} (h:RepA w C x v):RepA w C' (frz σ x) v:=by
 have hk:Keeps w C.imm w C'.imm:=⟨fun b hb=>(hi b).2 (.inl hb),fun _ _=>rfl⟩
 have hc:CtxLe C C':=⟨by rw [hn];exact Nat.le_refl _,fun _ _=>by rw [ho],fun _ _=>by rw [hh]⟩
 induction h with
 |t h=>exact (RepA.t h).keeps hk hc
 |agg hl _ ih=>
  simp only [frz]
  refine .agg (by rw [frzL_length];exact hl) fun k a u ha hu=>?_
  obtain ⟨b,h1,rfl⟩:=frzL_get ha
  exact ih k b u h1 hu
 |tup hl _ ih=>
  simp only [frz]
  refine .tup (by rw [frzL_length];exact hl) fun k a u ha hu=>?_
  obtain ⟨b,h1,rfl⟩:=frzL_get ha
  exact ih k b u h1 hu
 |fsl h=>exact .t (h.keeps hk)
 |@ref q n c a h1 h2=>
  simp only [frz]
  split
  ·rename_i sz es hσ
   have hob:=hs.obj q
   rw [hσ] at hob
   obtain ⟨e1,e2,e3⟩:=arr_elems hob h2
   subst e1
   refine .t ?_
   rcases Nat.eq_zero_or_pos es.length with h0 | h0
   ·have:es=[]:=List.eq_nil_of_length_eq_zero h0
    subst this
    exact .nil
   ·obtain ⟨ad,rfl,hcell⟩:=e3.2 h0
    have hown:C.own q=some ad.block:=by
     obtain ⟨_,⟨e0,_⟩ | ⟨bl,cap,vs,E,lo,hi',ho1,ho2,_⟩⟩:=hob
     ·subst e0;simp at h0
     ·rw [h2] at ho2;cases ho2;exact ho1
    have hx:∀m,m<es.length*sz→∃u,w.cell? (ad.add m)=some u:=by
     intro m hm
     obtain ⟨e,he,_,hmod,e1⟩:=flat_ix e3.1 hm
     have hel:=e3.1 e (List.mem_of_getElem? he)
     obtain ⟨u,g1,_⟩:=hcell (m / sz) (m % sz) e _ he (List.getElem?_eq_getElem (by omega))
     rw [←e1] at g1
     exact ⟨u,g1⟩
    refine .sl (u:=fun m=>(w.cell? (ad.add m)).getD undef) h0 e3.1 e2 ((hi _).2 (.inr ⟨q,by rw [hσ];exact (fun h=>by cases h),hown⟩)) (fun m hm=>?_) (fun j m e ct he hct=>?_)
    ·obtain ⟨u,hu⟩:=hx m hm
     rw [hu];rfl
    ·obtain ⟨u,g1,g2⟩:=hcell j m e ct he hct
     show RepT w C'.imm ct ((w.cell? (ad.add (j*sz+m))).getD undef)
     rw [g1]
     exact g2.keeps hk
  ·exact .any
 |ptr h1 h2=>exact (RepA.ptr h1 h2).keeps hk hc
 |rd h1 h2 h3=>exact (RepA.rd h1 h2 h3).keeps hk hc
 |el h1 h2 h3=>exact (RepA.el h1 h2 h3).keeps hk hc
 |cut h1 h2 h3=>exact (RepA.cut h1 h2 h3).keeps hk hc
 |ifc h1 h2=>exact (RepA.ifc h1 h2).keeps hk hc
 |mapr h1 h2=>exact (RepA.mapr h1 h2).keeps hk hc
 |yld h1 h2=>exact (RepA.yld h1 h2).keeps hk hc
 |fn h1 h2 h3 h4 _ _=>exact (RepA.fn h1 h2 h3 h4).keeps hk hc
 |any=>exact .any
theorem resL_rep {w:World} {C:Ctx} {a:Act} (hs:Sim C s.σ w) (h2:∀t,RepA w C (s.m t) (a.tmps.getD t undef)):∀{xs:List ResultVar} {avs:List AV},resL P s xs=some avs→
  ∃vs,(xs.mapM fun (x:ResultVar)=>(match x with | .tmp t=>pure (a.tmps.getD t undef) | .cell t ty=>do loadVar ty (←asAddr (a.tmps.getD t undef)):Sem Value)).run P w= .ok vs w∧RepL w C avs vs:=by
 intro xs
 induction xs with
 |nil=>intro avs h;simp only [resL] at h;cases h;exact ⟨[],rfl,rfl,fun k a u h=>by simp at h⟩
 |cons x xs ih=>
  intro avs h
  simp only [resL] at h
  split at h
  ·rename_i r rs hr hrs
   cases h
   obtain ⟨vs,g1,g2⟩:=ih hrs
   have hx:∃u,(match x with | .tmp t=>pure (a.tmps.getD t undef) | .cell t ty=>do loadVar ty (←asAddr (a.tmps.getD t undef)):Sem Value).run P w= .ok u w∧RepA w C r u:=by
    cases x with
    |tmp t=>simp only [resA] at hr;cases hr;exact ⟨_,rfl,h2 t⟩
    |cell t ty=>
     simp only [resA] at hr
     split at hr
     ·rename_i i b o hi hm
      have hp:=h2 t
      rw [hm] at hp
      obtain ⟨bl,hv,e1,e2⟩:=rep_ptr hp
      split at hr
      ·rename_i cs hσ
       obtain ⟨vs',E,h3,h4,h5⟩:=obj_box hs hσ e2
       obtain ⟨u,h6,h7⟩:=load_rep hi (a:=⟨bl,o,none⟩) (fun k x hk=>by
        have hlt:o+k<vs'.size:=by have:=(List.getElem?_eq_some_iff.1 hk).1;omega
        refine ⟨vs'[o+k],?_,h5 _ _ _ hk (Array.getElem?_eq_getElem hlt)⟩
        rw [add_off,cell_in h3,Array.getElem?_eq_getElem hlt]) hr
       exact ⟨u,by simp only [hv,asAddr,Sem.run_bind,Sem.run_pure,Result.andThen_ok,h6],h7⟩
      ·cases hr
     ·cases hr
   obtain ⟨u,hu,hru⟩:=hx
   refine ⟨u :: vs,?_,by simp [g2.1],fun k y z hy hz=>?_⟩
   ·rw [List.mapM_cons]
    simp only [Sem.run_bind,hu,Result.andThen_ok,g1,Sem.run_pure]
   ·cases k with
    |zero=>simp at hy hz;subst hy;subst hz;exact hru
    |succ k=>exact g2.2 k y z (by simpa using hy) (by simpa using hz)
  ·cases h
def slots0 (args:List AV):Slots:=fun i=>args.getD i (.tup [])
def Done (P:Program) (res:List ResultVar) (n0:Nat) (r:AV) (σ':Nat→AObj) (nx':Nat):Post:=fun e s=>
 match e with
 | .ret | .normal=>∃rs,resL P s res=some rs∧Ends n0 s (resV rs) σ' nx' r
 |_=>False
theorem marks_leave {C:Ctx} {σ:Nat→AObj} {n0:Nat}:∀(ds:List Deferred) (w:World),Marks n0 C σ w ds→∃w2,(∀F n fn tmps R,LeavesIn F n P fn tmps R [] .returning w2→LeavesInM F n P fn tmps R ds .returning w)∧
  w2.os=w.os∧w2.tape=w.tape∧w2.output=w.output∧w2.heap.size=w.heap.size∧∀b,C.imm b∨Mut C σ b∨b<n0→w2.heap[b]? =w.heap[b]?
 |[],w,_=>⟨w,fun _ _ _ _ _ h=>h,rfl,rfl,rfl,rfl,fun _ _=>rfl⟩
 |d :: ds,w,h=>by
  obtain ⟨r,h1,h2,h3,h4,h5⟩:=h.all d List.mem_cons_self
  have hm:Marks n0 C σ (w.putObj r (.deferred none)) ds:=by
   refine ⟨fun e he=>?_,(List.pairwise_cons.1 h.nodup).2⟩
   obtain ⟨q,g1,g2,g3,g4,g5⟩:=h.all e (List.mem_cons_of_mem _ he)
   have hne:q≠r:=fun e'=>(List.pairwise_cons.1 h.nodup).1 e he (by rw [h1,g1,e'])
   exact ⟨q,g1,g2,by rw [World.putObj_heap_other hne];exact g3,g4,g5⟩
  obtain ⟨w2,k1,k2,k3,k4,k5,k6⟩:=marks_leave ds _ hm
  refine ⟨w2,fun F n fn tmps R hl=>?_,k2,k3,k4,by rw [k5,World.putObj_size],fun b hb=>?_⟩
  ·exact ⟨by simp,.inl ⟨r,_,h1,run_takeDeferred h3,k1 F n fn tmps R hl⟩⟩
  ·rw [k6 b hb,World.putObj_heap_other]
   rintro rfl
   rcases hb with e | e | e
   ·exact h4 e
   ·exact h5 e
   ·omega
theorem rel_leave {a:Act} {w:World} (hr:Rel B s a w):∃w2,(∀F n fn tmps R,LeavesIn F n P fn tmps R [] .returning w2→LeavesInM F n P fn tmps R a.defers .returning w)∧Rel B s {a with defers:=[]} w2:=by
 obtain ⟨C,h1,h2,h3,h4,h5,h6⟩:=hr
 obtain ⟨w2,k1,k2,k3,k4,k5,k6⟩:=marks_leave (P:=P) a.defers w h4
 have hk:Keeps w C.imm w2 C.imm:=⟨fun _ h=>h,fun b hb=>k6 b (.inl hb)⟩
 have hc:CtxLe C C:=⟨Nat.le_refl _,fun _ _=>rfl,fun _ _=>rfl⟩
 refine ⟨w2,k1,C,h1,fun t=>(h2 t).keeps hk hc,h3,Marks.nil,⟨h5.dead,fun i=>?_,h5.inj,h5.sep,fun b hb=>by rw [k5];exact h5.imm_lt b hb⟩,
  ⟨h6.le,k2.trans h6.os,k3.trans h6.tape,k4.trans h6.output,by rw [k5];exact h6.size,h6.imm,fun b hb hm=>(k6 b (.inr (.inr hb))).trans (h6.same b hb hm),h6.wr,h6.imm'⟩⟩
 by_cases hi:s.σ i= .dead
 ·rw [hi];exact True.intro
 ·exact (h5.obj i).step hk hc (live_lt h5 hi) fun b ho=>k6 b (.inr (.inl ⟨i,hi,ho⟩))
theorem spec_of_KQR {f:FuncId} {fn:Func} {c:Code} (hf:P.funcs[f]? =some fn) (hb:fn.body=some c) (hname:(fn.name== "runtime.NumGoroutine")=false) {args:List AV} {σ:Nat→AObj} {nx:Nat} {S:AV→(Nat→AObj)→Nat→Prop}
  (hn:args.length≤fn.ntmps) (h:∀B:Base,B.n=fn.ntmps→B.C.nx=nx→B.σ=σ→B.ro=none→Kp P B [.code c] (fun e s=>∃r σ' nx',S r σ' nx'∧Done P fn.results.toList nx r σ' nx' e s) .normal ⟨slots0 args,σ,nx⟩):CallQ P f args σ nx S:=by
 refine ⟨by simp [goodFn,hf,hb,hname],fun C w vs hs hnx hl=>?_⟩
 refine (callsIn_FR (ro:=none) (n:=0)).1 (callsIn_of_wp_marks hf hb trivial ?_)
 have hrel:Rel ⟨C,σ,w,fn.ntmps,none⟩ ⟨slots0 args,σ,nx⟩ {tmps:=vs.toArray++Array.replicate (fn.ntmps-vs.toArray.size) undef,defers:=[]} w:=by
  refine ⟨C,hnx,fun t=>?_,by simp;have:=hl.1;omega,Marks.nil,hs,Step.refl _ _ _⟩
  simp only [slots0,Array.getD_eq_getD_getElem?,List.getD_eq_getElem?_getD]
  have hlen:=hl.1
  by_cases ht:t<vs.length
  ·rw [Array.getElem?_append_left (by simpa using ht)]
   have h1:args[t]? =some args[t]:=List.getElem?_eq_getElem (by omega)
   have h2:vs.toArray[t]? =some vs[t]:=by simp [ht]
   rw [h1,h2]
   exact hl.2 t _ _ h1 (List.getElem?_eq_getElem ht)
  ·rw [List.getElem?_eq_none (by omega)]
   have:((vs.toArray++Array.replicate (fn.ntmps-vs.toArray.size) undef)[t]?).getD undef=undef:=by
    rw [Array.getElem?_append_right (by simp;omega)]
    cases hx:(Array.replicate (fn.ntmps-vs.toArray.size) undef)[t-vs.toArray.size]? with
    |none=>rfl
    |some u=>
     rw [Array.getElem?_replicate] at hx
     split at hx
     ·cases hx;rfl
     ·cases hx
   rw [this]
   exact .tup rfl (fun k a u h=>by simp at h)
 refine cwp_mono (ro:=none) (h ⟨C,σ,w,fn.ntmps,none⟩ rfl hnx rfl rfl _ _ hrel) fun e a' w' hp=>?_
 obtain ⟨s',⟨r,σ',nx',hS,hd⟩,hr0⟩:=hp
 obtain ⟨w2,hlv,hr'⟩:=rel_leave (P:=P) hr0
 have fin0:(∃rs,resL P s' fn.results.toList=some rs∧Ends nx s' (resV rs) σ' nx' r)→∃v,(results fn a'.tmps).run P w2= .ok v w2∧∃C' v',Ending.returned v= .returned v'∧Sim C' σ' w2∧C'.nx=nx'∧RepA w2 C' r v'∧Step C σ w C' σ' w2:=by
  rintro ⟨rs,hrs,he⟩
  obtain ⟨C1,h1,h2,h3,h4,h5,h6⟩:=hr'
  obtain ⟨us,g1,g2⟩:=resL_rep (P:=P) h5 h2 hrs
  have hv:∃v,(results fn a'.tmps).run P w2= .ok v w2∧RepA w2 C1 (resV rs) v:=by
   have hm:(fn.results.mapM fun (x:ResultVar)=>(match x with | .tmp t=>pure (a'.tmps.getD t undef) | .cell t ty=>do loadVar ty (←asAddr (a'.tmps.getD t undef)):Sem Value)).run P w2= .ok us.toArray w2:=by
    rw [Array.mapM_eq_mapM_toList,Sem.run_map,g1]
    rfl
   refine ⟨if h:us.toArray.size=1 then us.toArray[0] else .tuple us.toArray,?_,?_⟩
   ·unfold results
    rw [Sem.run_bind]
    refine Eq.trans (congrArg (fun z=>Result.andThen z _) hm) ?_
    rfl
   ·obtain ⟨gl,gr⟩:=g2
    match rs,us,gl with
    |[],[],_=>exact .tup rfl (fun k a u h=>by simp at h)
    |[a],[u],_=>simpa [resV] using gr 0 a u rfl rfl
    |a :: b :: r,u :: v :: l,hl2=>
     rw [dif_neg (by simp)]
     exact .tup (by simpa using hl2) fun k a u ha hu=>gr k a u ha (by simpa using hu)
  obtain ⟨v,hv1,hv2⟩:=hv
  refine ⟨v,hv1,?_⟩
  have live:∀i,σ' i≠ .dead→s'.σ i≠ .dead∧σ' i=s'.σ i∧bndO nx' (σ' i)=true∧i<nx':=fun i hi=>by
   rcases he.obj i with e | ⟨e1,e2⟩
   ·exact absurd e hi
   ·have hi':s'.σ i≠ .dead:=by rw [←e1];exact hi
    rcases e2 with e2 | ⟨e2,e3⟩
    ·exact ⟨hi',e1,by rw [e2,←h1,e1];exact (h5.obj i).bnded,by rw [e2,←h1];exact live_lt h5 hi'⟩
    ·exact ⟨hi',e1,e2,e3⟩
  obtain ⟨hres,hbr⟩:=he.res
  rcases hres with hres | ⟨hdead,hres⟩
  ·subst hres
   have hbr:bnd nx' (resV rs)=true:=by
    rcases hbr with e | e
    ·rw [e,←h1];exact hv2.bnded
    ·exact e
   refine ⟨{C1 with nx:=nx'},v,rfl,⟨fun i hi=>?_,fun i=>?_,fun i j b hi hj=>h5.inj i j b (live i hi).1 (live j hj).1,fun i b hi=>h5.sep i b (live i hi).1,h5.imm_lt⟩,rfl,RepA.less (C:=C1) (C':={C1 with nx:=nx'}) rfl rfl rfl hv2 hbr,
    ⟨⟨by show C.nx≤nx';rw [hnx];exact he.base,fun i hi=>h6.le.own i hi,fun i hi=>h6.le.hdr i hi⟩,h6.os,h6.tape,h6.output,h6.size,h6.imm,h6.same,fun b ⟨i,hi,hb⟩=>h6.wr b ⟨i,(live i hi).1,hb⟩,h6.imm'⟩⟩
   ·by_cases hd:σ' i= .dead
    ·exact hd
    ·have:=(live i hd).2.2.2
     exact absurd hi (by simp;omega)
   ·by_cases hi:σ' i= .dead
    ·rw [hi];exact True.intro
    ·obtain ⟨e1,e2,e3,e4⟩:=live i hi
     have:=h5.obj i
     rw [←e2] at this
     exact RepO.less (C:=C1) (C':={C1 with nx:=nx'}) rfl rfl rfl this e3
  ·obtain ⟨C2,hC2⟩:∃C2:Ctx,C2={C1 with imm:=fun b=>C1.imm b∨Mut C1 s'.σ b}:=⟨_,rfl⟩
   have hfr:=frz_rep h5 (C':=C2) (fun b=>by rw [hC2]) (by rw [hC2]) (by rw [hC2]) (by rw [hC2]) hv2
   rw [←hres] at hfr
   have hbr:bnd nx' r=true:=by
    rcases hbr with e | e
    ·rw [e,←h1];have:=hfr.bnded;rw [hC2] at this;exact this
    ·exact e
   have hi2:∀b,C2.imm b↔(C1.imm b∨Mut C1 s'.σ b):=fun b=>by rw [hC2]
   refine ⟨{C2 with nx:=nx'},v,rfl,⟨fun i _=>hdead i,fun i=>by rw [hdead i];exact True.intro,fun i j b hi=>absurd (hdead i) hi,fun i b hi=>absurd (hdead i) hi,fun b hb=>?_⟩,rfl,RepA.less (C:=C2) (C':={C2 with nx:=nx'}) rfl rfl rfl hfr hbr,
    ⟨⟨by show C.nx≤nx';rw [hnx];exact he.base,fun i hi=>by subst hC2;exact h6.le.own i hi,fun i hi=>by subst hC2;exact h6.le.hdr i hi⟩,h6.os,h6.tape,h6.output,h6.size,fun b hb=>(hi2 b).2 (.inl (h6.imm b hb)),h6.same,fun b ⟨i,hi,_⟩=>absurd (hdead i) hi,fun b hb=>?_⟩⟩
   ·rcases (hi2 b).1 hb with h | ⟨i,hi,ho⟩
    ·exact h5.imm_lt b h
    ·exact own_lt h5 hi ho
   ·rcases (hi2 b).1 hb with h | h
    ·exact h6.imm' b h
    ·rcases h6.wr b h with h | h
     ·exact .inr (.inl h)
     ·exact .inr (.inr h)
 have fin:(∃rs,resL P s' fn.results.toList=some rs∧Ends nx s' (resV rs) σ' nx' r)→∃v,(results fn a'.tmps).run P w2= .ok v w2∧∃r σ' nx' C' v',S r σ' nx'∧Ending.returned v= .returned v'∧Sim C' σ' w2∧C'.nx=nx'∧RepA w2 C' r v'∧Step C σ w C' σ' w2:=fun h=>by
  obtain ⟨v,h2,C',v',h3⟩:=fin0 h
  exact ⟨v,h2,r,σ',nx',C',v',hS,h3⟩
 cases e with
 |ret=>exact hlv _ _ _ _ _ (fin hd)
 |normal=>exact hlv _ _ _ _ _ (fin hd)
 |_=>exact hd.elim
theorem spec_of_KQ {f:FuncId} {fn:Func} {c:Code} (hf:P.funcs[f]? =some fn) (hb:fn.body=some c) (hname:(fn.name== "runtime.NumGoroutine")=false) {args:List AV} {σ:Nat→AObj} {nx:Nat} {S:AV→(Nat→AObj)→Nat→Prop}
  (hn:args.length≤fn.ntmps) (h:∀B:Base,B.n=fn.ntmps→B.C.nx=nx→B.σ=σ→Kp P B [.code c] (fun e s=>∃r σ' nx',S r σ' nx'∧Done P fn.results.toList nx r σ' nx' e s) .normal ⟨slots0 args,σ,nx⟩):CallQ P f args σ nx S:=
 spec_of_KQR hf hb hname hn fun B h1 h2 h3 _=>h B h1 h2 h3
theorem spec_of_KR {f:FuncId} {fn:Func} {c:Code} (hf:P.funcs[f]? =some fn) (hb:fn.body=some c) (hname:(fn.name== "runtime.NumGoroutine")=false) {args:List AV} {σ:Nat→AObj} {nx:Nat} {r:AV} {σ':Nat→AObj} {nx':Nat}
  (hn:args.length≤fn.ntmps) (h:∀B:Base,B.n=fn.ntmps→B.C.nx=nx→B.σ=σ→B.ro=none→Kp P B [.code c] (Done P fn.results.toList nx r σ' nx') .normal ⟨slots0 args,σ,nx⟩):CallSpec P f args σ nx r σ' nx':=by
 refine (spec_of_KQR hf hb hname hn fun B h1 h2 h3 h4=>?_).spec
 exact fun a w hrel=>cwp_mono (h B h1 h2 h3 h4 a w hrel) (post_mono fun e s hp=>⟨r,σ',nx',⟨rfl,rfl,rfl⟩,hp⟩)
theorem spec_of_K {f:FuncId} {fn:Func} {c:Code} (hf:P.funcs[f]? =some fn) (hb:fn.body=some c) (hname:(fn.name== "runtime.NumGoroutine")=false) {args:List AV} {σ:Nat→AObj} {nx:Nat} {r:AV} {σ':Nat→AObj} {nx':Nat}
  (hn:args.length≤fn.ntmps) (h:∀B:Base,B.n=fn.ntmps→B.C.nx=nx→B.σ=σ→Kp P B [.code c] (Done P fn.results.toList nx r σ' nx') .normal ⟨slots0 args,σ,nx⟩):CallSpec P f args σ nx r σ' nx':=by
 refine (spec_of_KQ hf hb hname hn fun B h1 h2 h3=>?_).spec
 exact fun a w hrel=>cwp_mono (h B h1 h2 h3 a w hrel) (post_mono fun e s hp=>⟨r,σ',nx',⟨rfl,rfl,rfl⟩,hp⟩)
end
end Go.Proofs.YtnoifgjiipgpoaaGreat.R

namespace Go.Proofs.YtnoifgjiipgpoaaGreat.R
open Go.RowKit
attribute [go_sem] one evalP nilPtr evalB evalS evalC St.upd Eff.on ev ofConst ofLeaf plainV popTo popLab binV unV pickA cellsOf leaf toT toTs setCells partA partT TI.isAgg asInt idx elemRd bound cutT placesA fillA fillT zeroA slicesT srcA appA dOk gval callee resA resL resV frz frz.frzL bnd bnd.bndL bndO Done
abbrev AV.i (n:Int):AV:=.t (.v (.int .i64 n))
abbrev AV.u (n:Int):AV:=.t (.v (.int .u64 n))
abbrev AV.b (b:Bool):AV:=.t (.v (.bool b))
abbrev T.i (n:Int):T:=.v (.int .i64 n)
theorem w64 (n:Int) (h: -9223372036854775808≤n∧n≤9223372036854775807):IntKind.i64.wrap n=n:=by
 simp only [IntKind.wrap,IntKind.bits,IntKind.signed];simp;split<;>omega
theorem u64 (n:Int) (h:0≤n∧n≤18446744073709551615):IntKind.u64.wrap n=n:=by
 simp only [IntKind.wrap,IntKind.bits,IntKind.signed];simp;omega
theorem u8w (n:Int) (h:0≤n∧n≤255):IntKind.u8.wrap n=n:=by
 simp only [IntKind.wrap,IntKind.bits,IntKind.signed];simp;omega
theorem if_max (x y:Int):(if x<y then y else x)=max x y:=by omega
theorem if_min (x y:Int):(if y<x then y else x)=min x y:=by omega
@[go_sem] theorem minI_max {k k':IntKind} (x y:Int) (r:List AV):minI (fun y x=>decide (y>x)) k x (.t (.v (.int k' y)) :: r)=minI (fun y x=>decide (y>x)) k (max x y) r:=by
 simp only [minI,decide_eq_true_eq];rw [←if_max]
@[go_sem] theorem minI_min {k k':IntKind} (x y:Int) (r:List AV):minI (fun y x=>decide (y<x)) k x (.t (.v (.int k' y)) :: r)=minI (fun y x=>decide (y<x)) k (min x y) r:=by
 simp only [minI,decide_eq_true_eq];rw [←if_min]
@[go_sem] theorem minI_nil {k:IntKind} (f:Int→Int→Bool) (x:Int):minI f k x []=some x:=rfl
@[go_sem] theorem cast_eq (a b:Nat):((a:Int)=(b:Int))=(a=b):=by simp only [eq_iff_iff];omega
@[go_sem] theorem beq_int (a b:Int):(a==b)=decide (a=b):=by by_cases h:a=b<;>simp [h]
@[go_sem] theorem bne_int (a b:Int):(a != b)= !decide (a=b):=by by_cases h:a=b<;>simp [h]
def ints (l:List Int):List (List T):=l.map fun n=>[.i n]
section
variable {P:Program} {B:Base} {k:List KI} {R:Post} {s:St}
@[go_sem] theorem Kp_again {J:St→Prop}:Kp P B [.again J] R .normal s=J s:=rfl
@[go_sem] theorem Kp_fin {e:Exit}:Kp P B [.fin e] R .normal s=R e s:=rfl
@[go_sem] theorem Kp_lab {l:Nat} {J:Nat→St→Prop}:Kp P B [.fin (.goto l),.lab J] R .normal s=J l s:=rfl
@[go_sem] theorem Kp_nil {e:Exit}:Kp P B [] R e s=R e s:=rfl
def sl:List (Nat×AV)→Slots
 |[],_=>.any
 |(j,v) :: l,i=>if i=j then v else sl l i
def ob:List (Nat×AObj)→Nat→AObj
 |[],_=>.dead
 |(j,v) :: l,i=>if i=j then v else ob l i
@[go_sem] theorem sl_nil (i:Nat):sl [] i= .any:=rfl
@[go_sem] theorem sl_cons (j:Nat) (v:AV) (l:List (Nat×AV)) (i:Nat):sl ((j,v) :: l) i=if i=j then v else sl l i:=rfl
@[go_sem] theorem ob_nil (i:Nat):ob [] i= .dead:=rfl
@[go_sem] theorem ob_cons (j:Nat) (v:AObj) (l:List (Nat×AObj)) (i:Nat):ob ((j,v) :: l) i=if i=j then v else ob l i:=rfl
@[go_sem] theorem noObj_at (i:Nat):noObj i= .dead:=rfl
@[go_sem] theorem put_none (m:Slots) (v:AV):put m none v=m:=rfl
@[go_sem] theorem put_at (m:Slots) (d:Nat) (v:AV) (i:Nat):put m (some d) v i=if i=d then v else m i:=rfl
@[go_sem] theorem oput_at (σ:Nat→AObj) (q:Nat) (o:AObj) (i:Nat):oput σ q o i=if i=q then o else σ i:=rfl
@[go_sem] theorem slots0_at (avs:List AV) (i:Nat):slots0 avs i=avs.getD i (.tup []):=rfl
theorem sl_any {n:Nat} (l:List (Nat×AV)) (h:∀p∈l,s.m p.1=p.2∧bnd n p.2=true) (i:Nat):sl l i= .any∨(sl l i=s.m i∧bnd n (sl l i)=true):=by
 induction l with
 |nil=>exact .inl rfl
 |cons p l ih=>
  obtain ⟨j,v⟩:=p
  simp only [sl]
  split
  ·rename_i e
   subst e
   obtain ⟨h1,h2⟩:=h (i,v) (List.mem_cons_self)
   exact .inr ⟨h1.symm,h2⟩
  ·exact ih fun p hp=>h p (List.mem_cons_of_mem _ hp)
theorem ob_any {n:Nat} (l:List (Nat×AObj)) (h:∀p∈l,s.σ p.1=p.2∧bndO n p.2=true∧p.1<n) (i:Nat):ob l i= .dead∨(ob l i=s.σ i∧bndO n (ob l i)=true∧i<n):=by
 induction l with
 |nil=>exact .inl rfl
 |cons p l ih=>
  obtain ⟨j,v⟩:=p
  simp only [ob]
  split
  ·rename_i e
   subst e
   obtain ⟨h1,h2,h3⟩:=h (i,v) (List.mem_cons_self)
   exact .inr ⟨h1.symm,h2,h3⟩
  ·exact ih fun p hp=>h p (List.mem_cons_of_mem _ hp)
theorem Sub.of {l:List (Nat×AV)} {o:List (Nat×AObj)} {n:Nat} (hb:B.C.nx≤n) (hn:n≤s.nx) (hm:∀p∈l,s.m p.1=p.2∧bnd n p.2=true) (ho:∀p∈o,s.σ p.1=p.2∧bndO n p.2=true∧p.1<n):Imp B s ⟨sl l,ob o,n⟩:=Sub.imp
 ⟨sl_any l hm,hn,hb,ob_any o ho⟩
theorem Ends.pure {r0 r:AV} (hr:r=frz s.σ r0) (hb:bnd 0 r=true):Ends 0 s r0 noObj 0 r:=
 ⟨fun _=>.inl rfl,Nat.zero_le _,Nat.le_refl _,.inr ⟨fun _=>rfl,hr⟩,.inr hb⟩
theorem Imp.keep {l:List (Nat×AV)} (hm:∀p∈l,s.m p.1=p.2):Imp B s ⟨sl l,s.σ,s.nx⟩:=by
 refine Imp.same (fun i=>?_) (fun i=>.inr rfl) rfl
 induction l with
 |nil=>exact .inl rfl
 |cons p l ih=>
  obtain ⟨j,v⟩:=p
  show (if i=j then v else sl l i)= .any∨(if i=j then v else sl l i)=s.m i
  split
  ·rename_i e
   subst e
   exact .inr (hm (i,v) List.mem_cons_self).symm
  ·exact ih fun p hp=>hm p (List.mem_cons_of_mem _ hp)
theorem Imp.slots {l:List (Nat×AV)} {σ':Nat→AObj} {n:Nat} (hm:∀p∈l,s.m p.1=p.2) (hσ:σ'=s.σ) (hn:n=s.nx):Imp B s ⟨sl l,σ',n⟩:=by
 subst hσ hn
 exact Imp.keep hm
def Next {α:Type} (B:Base) (I:α→Prop) (st:α→St) (μ:α→Nat) (x:α) (s:St):Prop:=∃y,I y∧Imp B s (st y)∧μ y<μ x
theorem Next.mk {α:Type} {I:α→Prop} {st:α→St} {μ:α→Nat} {x:α} (y:α) (h1:I y) (h2:Imp B s (st y)) (h3:μ y<μ x):Next B I st μ x s:=⟨y,h1,h2,h3⟩
theorem K_loopP {α:Type} (I:α→Prop) (st:α→St) (μ:α→Nat) (a0:α) (hI:I a0) {c:Code} (h0:Imp B s (st a0))
  (round:∀a,I a→Kp P B (.code c :: .again (Next B I st μ a) :: k) R .normal (st a)):Kp P B (.code (.loop c) :: k) R .normal s:=by
 intro ac w hr
 refine cwp_loop (fun (x:{a // I a}) a w=>Rel B (st x.1) a w) (fun x=>μ x.1) ⟨a0,hI⟩ (h0 _ _ hr) fun x a w hx=>cwp_mono (round x.1 x.2 a w hx) fun e a' w' hp=>?_
 obtain ⟨s',h1,h2⟩:=hp
 cases e with
 |normal=>
  obtain ⟨y,h3,h4,h5⟩:=h1
  exact ⟨⟨y,h3⟩,h4 _ _ h2,h5⟩
 |_=>exact ⟨s',h1,h2⟩
theorem K_scopeP {α:Type} (l:Nat) (I:α→Prop) (st:α→St) (μ:α→Nat) {c rest:Code} (hf:findLabel c l=some rest)
  (first:Kp P B (.code c :: .lab (fun l' s'=>l'=l∧∃y,I y∧Imp B s' (st y)) :: k) R .normal s)
  (pass:∀x,I x→Kp P B (.code rest :: .lab (fun l' s'=>l'=l∧Next B I st μ x s') :: k) R .normal (st x)):Kp P B (.code (.scope c) :: k) R .normal s:=by
 intro ac w hr
 refine cwp_scope_many (fun (x:{a // I a}) a w=>Rel B (st x.1) a w) (fun _=>l) (fun x=>μ x.1) (fun _=>rest) (fun _=>hf) (cwp_mono (first ac w hr) fun e a' w' hp=>?_) fun x a w hx=>cwp_mono (pass x.1 x.2 a w hx) fun e a' w' hp=>?_
 ·obtain ⟨s',h1,h2⟩:=hp
  cases e with
  |goto l'=>obtain ⟨h0,y,h3,h4⟩:=h1;exact ⟨⟨y,h3⟩,h0.symm,h4 _ _ h2⟩
  |_=>exact ⟨s',h1,h2⟩
 ·obtain ⟨s',h1,h2⟩:=hp
  cases e with
  |goto l'=>obtain ⟨h0,y,h3,h4,h5⟩:=h1;exact ⟨⟨y,h3⟩,h0.symm,h4 _ _ h2,h5⟩
  |_=>exact ⟨s',h1,h2⟩
theorem K_lab_mono {J J':Nat→St→Prop} {c:Code} (hJ:∀l s,J l s→J' l s) (h:Kp P B (.code c :: .lab J :: k) R .normal s):Kp P B (.code c :: .lab J' :: k) R .normal s:=by
 intro a w hr
 refine cwp_mono (h a w hr) (post_mono fun e s' hp=>?_)
 cases e with
 |goto l=>exact hJ _ _ hp
 |_=>exact hp
theorem K_scopeN {α:Type} (l:Nat) {c b:Code} (I:α→Prop) (st:α→St) (μ:α→Nat) (hf:findLabel c l=some (.seq .skip b))
  (pass:∀x,I x→Kp P B (.code b :: .lab (fun l' s'=>l'=l∧Next B I st μ x s') :: k) R .normal (st x))
  (first:∀J:Nat→St→Prop,(∀x s,I x→Imp B s (st x)→Kp P B (.code (.seq (.label l) b) :: .lab J :: k) R .normal s)→Kp P B (.code c :: .lab J :: k) R .normal s):
  Kp P B (.code (.scope c) :: k) R .normal s:=by
 refine K_scopeP (rest:=.seq .skip b) l I st μ hf (first _ fun x s hx hs=>K_seq (K_label (K_less hs (K_lab_mono ?_ (pass x hx))))) fun x hx=>K_seq (K_skip (pass x hx))
 rintro l' s' ⟨h1,y,h2,h3,_⟩
 exact ⟨h1,y,h2,h3⟩
theorem spec_of {f:FuncId} {fn:Func} {c:Code} (hf:P.funcs[f]? =some fn) (hb:fn.body=some c) (hname:(fn.name== "runtime.NumGoroutine")=false) {args:List AV} {σ:Nat→AObj} {nx:Nat} (hn:args.length≤fn.ntmps) {S:AV→(Nat→AObj)→Nat→Prop}
  (h:∀B:Base,B.n=fn.ntmps→B.C.nx=nx→B.σ=σ→Kp P B [.code c] (fun e s=>(e= .ret∨e= .normal)∧nx≤s.nx∧∃rs,resL P s fn.results.toList=some rs∧S (resV rs) s.σ s.nx) .normal ⟨slots0 args,σ,nx⟩):
  CallQ P f args σ nx S:=by
 refine spec_of_KQ hf hb hname hn fun B h1 h2 h3=>?_
 refine fun a w hrel=>cwp_mono (h B h1 h2 h3 a w hrel) fun e a' w' hp=>?_
 obtain ⟨s',⟨he,h0,rs,h4,h5⟩,h8⟩:=hp
 refine ⟨s',⟨resV rs,s'.σ,s'.nx,h5,?_⟩,h8⟩
 have:Ends nx s' (resV rs) s'.σ s'.nx (resV rs):=⟨fun i=>.inr ⟨rfl,.inl rfl⟩,Nat.le_refl _,h0,.inl rfl,.inl rfl⟩
 rcases he with rfl | rfl
 ·exact ⟨rs,h4,this⟩
 ·exact ⟨rs,h4,this⟩
theorem rel_own {t sz:Nat} (h:s.m t= .fsl []) {a:Act} {w:World} (hr:Rel B s a w):Rel B ⟨put s.m (some t) (.ref s.nx),oput s.σ s.nx (.arr sz []),s.nx+1⟩ a w:=by
 obtain ⟨C,h1,h2,h3,h4,h5,h6⟩:=hr
 have ht:=h2 t
 rw [h] at ht
 obtain ⟨ad,hv⟩:∃ad,a.tmps.getD t undef= .slice ad 0 0:=by
  generalize a.tmps.getD t undef=u at ht
  cases ht with
  |fsl h=>exact ⟨_,rfl⟩
 obtain ⟨C',hC⟩:∃C':Ctx,C'=⟨C.imm,fun i=>if i=C.nx then none else C.own i,fun i=>if i=C.nx then .slice ad 0 0 else C.hdr i,C.nx+1⟩:=⟨_,rfl⟩
 obtain ⟨g1,g2⟩:=sim_new0 h5 (.arr sz []) (.slice ad 0 0) C' hC ⟨fun e he=>(by cases he),.inl ⟨rfl,by rw [hC];simp,ad,by rw [hC];simp⟩⟩
 rw [h1] at g1 g2
 refine ⟨C',by rw [hC,h1],fun i=>?_,h3,h4.step g2,g1,h6.trans g2⟩
 by_cases hi:i=t
 ·subst hi
  have:put s.m (some i) (.ref s.nx) i= .ref s.nx:=if_pos rfl
  show RepA w C' (put s.m (some i) (.ref s.nx) i) _
  rw [this,hv]
  exact .ref (by rw [hC,h1];exact Nat.lt_succ_self _) (by rw [hC,h1];simp)
 ·have:put s.m (some t) (.ref s.nx) i=s.m i:=if_neg hi
  show RepA w C' (put s.m (some t) (.ref s.nx) i) _
  rw [this]
  exact (h2 i).step h5 g2
theorem K_own (t sz:Nat) {c:Code} (h:s.m t= .fsl []) (hk:Kp P B (.code c :: k) R .normal ⟨put s.m (some t) (.ref s.nx),oput s.σ s.nx (.arr sz []),s.nx+1⟩):Kp P B (.code c :: k) R .normal s:=
 fun a w hr=>hk a w (rel_own h hr)
theorem pure_of {f:FuncId} {fn:Func} {c:Code} (hf:P.funcs[f]? =some fn) (hb:fn.body=some c) (hname:(fn.name== "runtime.NumGoroutine")=false) {args:List AV} {r:AV} (hn:args.length≤fn.ntmps) (ha:args.all (bnd 0)=true) (hr:bnd 0 r=true)
  (h:∀B:Base,B.n=fn.ntmps→B.C.nx=0→Kp P B [.code c] (fun e s=>(e= .ret∨e= .normal)∧∃rs,resL P s fn.results.toList=some rs∧frz s.σ (resV rs)=r) .normal ⟨slots0 args,noObj,0⟩):Pure P f args r:=by
 refine ⟨fun a h=>List.all_eq_true.1 ha a h,hr,spec_of_K hf hb hname hn fun B h1 h2 _=>?_⟩
 refine fun a w hrel=>cwp_mono (h B h1 h2 a w hrel) fun e a' w' hp=>?_
 obtain ⟨s',⟨he,rs,h3,h4⟩,h5⟩:=hp
 refine ⟨s',?_,h5⟩
 rcases he with rfl | rfl
 ·exact ⟨rs,h3,Ends.pure h4.symm hr⟩
 ·exact ⟨rs,h3,Ends.pure h4.symm hr⟩
end
end Go.Proofs.YtnoifgjiipgpoaaGreat.R

namespace Go.Proofs.YtnoifgjiipgpoaaGreat.R
open Go.RowKit
def frz1 (q:Nat) (es:List (List T)):AV→AV
 | .ref i=>if i=q then .t (.sl es) else .ref i
 | .agg cs=>.agg (frzL q es cs)
 | .tup cs=>.tup (frzL q es cs)
 |a=>a
  where
 frzL (q:Nat) (es:List (List T)):List AV→List AV
 |[]=>[]
 |c :: cs=>frz1 q es c :: frzL q es cs
def frzO (q:Nat) (es:List (List T)):AObj→AObj
 | .box cs=>.box (frz1.frzL q es cs)
 |o=>o
section
variable {P:Program} {B:Base} {k:List KI} {R:Post} {s:St}
theorem frz1L_get {q:Nat} {es:List (List T)}:∀{cs:List AV} {k:Nat} {a:AV},(frz1.frzL q es cs)[k]? =some a→∃b,cs[k]? =some b∧a=frz1 q es b
 |[],k,a,h=>by simp [frz1.frzL] at h
 |c :: cs,k,a,h=>by
  cases k with
  |zero=>simp [frz1.frzL] at h;exact ⟨c,rfl,h.symm⟩
  |succ k=>
   simp only [frz1.frzL,List.getElem?_cons_succ] at h
   obtain ⟨b,h1,h2⟩:=frz1L_get h
   exact ⟨b,by simpa using h1,h2⟩
theorem frz1L_length {q:Nat} {es:List (List T)}:∀(cs:List AV),(frz1.frzL q es cs).length=cs.length
 |[]=>rfl
 |c :: cs=>by simp only [frz1.frzL,List.length_cons,frz1L_length cs]
theorem frz1_rep {w:World} {C C':Ctx} {σ:Nat→AObj} {q sz:Nat} {es:List (List T)} (hs:Sim C σ w) (hq:σ q= .arr sz es) (hC:C'={C with imm:=fun b=>C.imm b∨C.own q=some b}) {x:AV} {v:Value} (h:RepA w C x v):RepA w C' (frz1 q es x) v:=by
 have hi:∀b,C'.imm b↔(C.imm b∨C.own q=some b):=fun b=>by rw [hC]
 have hk:Keeps w C.imm w C'.imm:=⟨fun b hb=>(hi b).2 (.inl hb),fun _ _=>rfl⟩
 have hc:CtxLe C C':=by subst hC;exact ⟨Nat.le_refl _,fun _ _=>rfl,fun _ _=>rfl⟩
 induction h with
 |t h=>exact (RepA.t h).keeps hk hc
 |agg hl _ ih=>
  simp only [frz1]
  refine .agg (by rw [frz1L_length];exact hl) fun k a u ha hu=>?_
  obtain ⟨b,h1,rfl⟩:=frz1L_get ha
  exact ih k b u h1 hu
 |tup hl _ ih=>
  simp only [frz1]
  refine .tup (by rw [frz1L_length];exact hl) fun k a u ha hu=>?_
  obtain ⟨b,h1,rfl⟩:=frz1L_get ha
  exact ih k b u h1 hu
 |fsl h=>exact (RepA.fsl h).keeps hk hc
 |@ref i n c a h1 h2=>
  simp only [frz1]
  split
  ·rename_i e
   subst e
   have hob:=hs.obj i
   rw [hq] at hob
   obtain ⟨e1,e2,e3⟩:=arr_elems hob h2
   subst e1
   refine .t ?_
   rcases Nat.eq_zero_or_pos es.length with h0 | h0
   ·have:es=[]:=List.eq_nil_of_length_eq_zero h0
    subst this
    exact .nil
   ·obtain ⟨ad,rfl,hcell⟩:=e3.2 h0
    have hown:C.own i=some ad.block:=by
     obtain ⟨_,⟨e0,_⟩ | ⟨bl,cap,vs,E,lo,hi',ho1,ho2,_⟩⟩:=hob
     ·subst e0;simp at h0
     ·rw [h2] at ho2;cases ho2;exact ho1
    have hx:∀m,m<es.length*sz→∃u,w.cell? (ad.add m)=some u:=by
     intro m hm
     obtain ⟨e,he,_,hmod,e1⟩:=flat_ix e3.1 hm
     have hel:=e3.1 e (List.mem_of_getElem? he)
     obtain ⟨u,g1,_⟩:=hcell (m / sz) (m % sz) e _ he (List.getElem?_eq_getElem (by omega))
     rw [←e1] at g1
     exact ⟨u,g1⟩
    refine .sl (u:=fun m=>(w.cell? (ad.add m)).getD undef) h0 e3.1 e2 ((hi _).2 (.inr hown)) (fun m hm=>?_) (fun j m e ct he hct=>?_)
    ·obtain ⟨u,hu⟩:=hx m hm
     rw [hu];rfl
    ·obtain ⟨u,g1,g2⟩:=hcell j m e ct he hct
     show RepT w C'.imm ct ((w.cell? (ad.add (j*sz+m))).getD undef)
     rw [g1]
     exact g2.keeps hk
  ·exact (RepA.ref h1 h2).keeps hk hc
 |ptr h1 h2=>exact (RepA.ptr h1 h2).keeps hk hc
 |rd h1 h2 h3=>exact (RepA.rd h1 h2 h3).keeps hk hc
 |el h1 h2 h3=>exact (RepA.el h1 h2 h3).keeps hk hc
 |cut h1 h2 h3=>exact (RepA.cut h1 h2 h3).keeps hk hc
 |ifc h1 h2=>exact (RepA.ifc h1 h2).keeps hk hc
 |mapr h1 h2=>exact (RepA.mapr h1 h2).keeps hk hc
 |yld h1 h2=>exact (RepA.yld h1 h2).keeps hk hc
 |fn h1 h2 h3 h4 _ _=>exact (RepA.fn h1 h2 h3 h4).keeps hk hc
 |any=>exact .any
theorem Imp.freeze {q sz:Nat} {es:List (List T)} (hq:s.σ q= .arr sz es):Imp B s ⟨fun i=>frz1 q es (s.m i),fun j=>if j=q then .dead else frzO q es (s.σ j),s.nx⟩:=by
 intro a w hr
 obtain ⟨C,h1,h2,h3,h4,h5,h6⟩:=hr
 obtain ⟨C',hC⟩:∃C':Ctx,C'={C with imm:=fun b=>C.imm b∨C.own q=some b}:=⟨_,rfl⟩
 obtain ⟨g1,g2⟩:=sim_freeze h5 q (by rw [hq];exact (fun h=>by cases h)) C' hC
 have hd:∀j,(if j=q then AObj.dead else frzO q es (s.σ j))= .dead↔(if j=q then AObj.dead else s.σ j)= .dead:=by
  intro j
  by_cases e:j=q
  ·simp [e]
  ·simp only [if_neg e]
   cases s.σ j<;>simp [frzO]
 have hg:Sim C' (fun j=>if j=q then .dead else frzO q es (s.σ j)) w:=by
  refine ⟨fun i hi=>(hd i).2 (g1.dead i hi),fun i=>?_,fun i j b hi hj=>g1.inj i j b (fun e=>hi ((hd i).2 e)) (fun e=>hj ((hd j).2 e)),fun i b hi=>g1.sep i b (fun e=>hi ((hd i).2 e)),g1.imm_lt⟩
  have ho:=g1.obj i
  by_cases e:i=q
  ·simp only [if_pos e];exact True.intro
  ·simp only [if_neg e] at ho ⊢
   have ho':=h5.obj i
   cases hσ:s.σ i with
   |box cs=>
    rw [hσ] at ho ho'
    obtain ⟨bl,vs,E,e1,e2,e3,e4⟩:=ho'
    refine ⟨bl,vs,E,by rw [hC];exact e1,e2,by rw [frz1L_length];exact e3,fun k a u ha hu=>?_⟩
    obtain ⟨b,hb,rfl⟩:=frz1L_get ha
    exact frz1_rep h5 hq hC (e4 k b u hb hu)
   |_=>rw [hσ] at ho;exact ho
 refine ⟨C',by rw [hC];exact h1,fun i=>frz1_rep h5 hq hC (h2 i),h3,(h4.step g2).less (fun b hb=>.inl hb) (fun b ⟨i,hi,hb⟩=>.inr ⟨i,(fun e=>hi ((hd i).2 e)),hb⟩),hg,h6.trans ⟨g2.le,g2.os,g2.tape,g2.output,g2.size,g2.imm,g2.same,fun b ⟨i,hi,hb⟩=>g2.wr b ⟨i,fun e=>hi ((hd i).2 e),hb⟩,g2.imm'⟩⟩
theorem Imp.ownB {b off sz:Nat} {cs:List AV} (hb:s.σ b= .box cs) (hc:cs[off]? =some (.fsl [])):
  Imp B s ⟨s.m,oput (oput s.σ b (.box (cs.set off (.ref s.nx)))) s.nx (.arr sz []),s.nx+1⟩:=by
 intro a w hr
 obtain ⟨C,h1,h2,h3,h4,h5,h6⟩:=hr
 have hob:=h5.obj b
 rw [hb] at hob
 obtain ⟨bl,vs,E,e1,e2,e3,e4⟩:=hob
 have hlt:off<vs.size:=by have:=(List.getElem?_eq_some_iff.1 hc).1;omega
 have hrep:=e4 off _ vs[off] hc (Array.getElem?_eq_getElem hlt)
 obtain ⟨ad,hv⟩:∃ad,vs[off]= .slice ad 0 0:=by
  generalize vs[off]=u at hrep
  cases hrep with
  |fsl h=>exact ⟨_,rfl⟩
 have hbl:b<C.nx:=live_lt h5 (by rw [hb];exact (fun h=>by cases h))
 obtain ⟨C',hC⟩:∃C':Ctx,C'=⟨C.imm,fun i=>if i=C.nx then none else C.own i,fun i=>if i=C.nx then .slice ad 0 0 else C.hdr i,C.nx+1⟩:=⟨_,rfl⟩
 obtain ⟨g1,g2⟩:=sim_new0 h5 (.arr sz []) (.slice ad 0 0) C' hC ⟨fun e he=>(by cases he),.inl ⟨rfl,by rw [hC];simp,ad,by rw [hC];simp⟩⟩
 have hd:∀j,oput (oput s.σ b (.box (cs.set off (.ref s.nx)))) s.nx (.arr sz []) j= .dead↔(if j=C.nx then AObj.arr sz [] else s.σ j)= .dead:=by
  intro j
  simp only [oput,h1]
  split
  ·simp
  ·split
   ·rename_i e;subst e;simp [hb]
   ·rfl
 have hg:Sim C' (oput (oput s.σ b (.box (cs.set off (.ref s.nx)))) s.nx (.arr sz [])) w:=by
  refine ⟨fun i hi=>(hd i).2 (g1.dead i hi),fun i=>?_,fun i j b hi hj=>g1.inj i j b (fun e=>hi ((hd i).2 e)) (fun e=>hj ((hd j).2 e)),fun i b hi=>g1.sep i b (fun e=>hi ((hd i).2 e)),g1.imm_lt⟩
  have ho:=g1.obj i
  simp only [oput,←h1] at ho ⊢
  by_cases e:i=C.nx
  ·simp only [if_pos e] at ho ⊢;exact ho
  ·simp only [if_neg e] at ho ⊢
   by_cases eb:i=b
   ·subst eb
    simp only [if_true]
    refine ⟨bl,vs,E,by rw [hC];simp [e,e1],e2,by simpa using e3,fun k x u hx hu=>?_⟩
    by_cases ek:k=off
    ·subst ek
     rw [List.getElem?_set_self (by omega)] at hx
     cases hx
     rw [Array.getElem?_eq_getElem hlt,hv] at hu
     cases hu
     exact .ref (by rw [hC];exact Nat.lt_succ_self _) (by rw [hC];simp)
    ·rw [List.getElem?_set_ne (fun h=>ek h.symm)] at hx
     exact (e4 k x u hx hu).step h5 g2
   ·simp only [if_neg eb];exact ho
 refine ⟨C',by rw [hC,h1],fun i=>(h2 i).step h5 g2,h3,(h4.step g2).less (fun b hb=>.inl hb) (fun b ⟨i,hi,hb⟩=>.inr ⟨i,(fun e=>hi ((hd i).2 e)),hb⟩),hg,h6.trans ⟨g2.le,g2.os,g2.tape,g2.output,g2.size,g2.imm,g2.same,fun x ⟨i,hi,hx⟩=>g2.wr x ⟨i,fun e=>hi ((hd i).2 e),hx⟩,g2.imm'⟩⟩
end
end Go.Proofs.YtnoifgjiipgpoaaGreat.R

namespace Go.Proofs.YtnoifgjiipgpoaaGreat.R
open Go.RowKit
def eqFs (P:Program) (f:TypeId→AV→AV→Option Bool):List Field→List AV→List AV→Option Bool
 |[],_,_=>some true
 |fd :: r,xs,ys=>if fd.name= "_" then none else match TT P fd.type with
  |some i=>match partA i xs fd.offset,partA i ys fd.offset with
   |some a,some b=>match f fd.type a b,eqFs P f r xs ys with
    |some p,some q=>some (p&&q)
    |_,_=>none
   |_,_=>none
  |none=>none
def eqA (P:Program):Nat→TypeId→AV→AV→Option Bool
 |0,_,_,_=>none
 |d+1,t,x,y=>match TT P t with
  |some ⟨.int _,_,_,_⟩=>match x,y with
   | .t (.v (.int k a)),.t (.v (.int k' b))=>if k=k' then some (decide (a=b)) else none
   |_,_=>none
  |some ⟨.bool,_,_,_⟩=>match x,y with
   | .t (.v (.bool a)),.t (.v (.bool b))=>some (a==b)
   |_,_=>none
  |some ⟨.struct fs,_,_,_⟩=>match x,y with
   | .agg xs,.agg ys=>if P.stoodInHeld t=true then none else eqFs P (fun t a b=>eqA P d t a b) fs.toList xs ys
   |_,_=>none
  |_=>none
section
variable {P:Program}
theorem eqFs_run {w:World} {C:Ctx} {d:Nat} {f:TypeId→AV→AV→Option Bool}
  (hf:∀t x y b u v,f t x y=some b→RepA w C x u→RepA w C y v→(Op.equalIn d t u v).run P w= .ok b w) {xs ys:List AV} {us vs:Array Value} (hx:RepA w C (.agg xs) (.agg us)) (hy:RepA w C (.agg ys) (.agg vs)):
  ∀(fs:List Field) (b:Bool),eqFs P f fs xs ys=some b→(Op.eqFields d us vs fs).run P w= .ok b w:=by
 obtain ⟨us',hu',hxl,hxr⟩:=rep_agg hx
 obtain ⟨vs',hv',hyl,hyr⟩:=rep_agg hy
 cases hu'
 cases hv'
 intro fs
 induction fs with
 |nil=>intro b h;simp only [eqFs] at h;cases h;rfl
 |cons fd r ih=>
  intro b h
  simp only [eqFs] at h
  split at h
  ·cases h
  ·rename_i hn
   split at h
   ·rename_i i hi
    split at h
    ·rename_i a c ha hc
     split at h
     ·rename_i p q hp hq
      cases h
      obtain ⟨u,hu,hru⟩:=part_rep hi hxl hxr ha
      obtain ⟨v,hv,hrv⟩:=part_rep hi hyl hyr hc
      have h1:=hf _ _ _ _ _ _ hp hru hrv
      have h2:=ih _ hq
      simp only [Op.eqFields,if_pos hn,Sem.run_bind,hu,hv,h1,Result.andThen_ok]
      cases p
      ·simp
      ·simp only [Bool.not_true,Bool.false_eq_true,if_false,h2,Bool.true_and]
     ·cases h
    ·cases h
   ·cases h
theorem eqA_run {w:World} {C:Ctx}:∀(d:Nat) (t:TypeId) (x y:AV) (b:Bool) (u v:Value),eqA P d t x y=some b→RepA w C x u→RepA w C y v→(Op.equalIn d t u v).run P w= .ok b w:=by
 intro d
 induction d with
 |zero=>intro t x y b u v h;simp [eqA] at h
 |succ d ih=>
  intro t x y b u v h hx hy
  simp only [eqA] at h
  split at h
  ·rename_i ht
   split at h
   ·split at h
    ·rename_i hk
     subst hk
     cases h
     obtain ⟨rfl,_⟩:=rep_v hx
     obtain ⟨rfl,_⟩:=rep_v hy
     rw [run_equalIn_int _ _ _ _ _ _ _ (tt_some ht).1]
     congr 1
    ·cases h
   ·cases h
  ·rename_i ht
   split at h
   ·cases h
    obtain ⟨rfl,_⟩:=rep_v hx
    obtain ⟨rfl,_⟩:=rep_v hy
    exact run_equalIn_bool' _ _ _ _ _ (tt_some ht).1
   ·cases h
  ·rename_i fs _ _ _ ht
   split at h
   ·split at h
    ·cases h
    ·rename_i hs
     have hund:P.underlying t=some (.struct fs):=(tt_some ht).1
     have hfo:P.fieldsOf t=fs:=by simp [Program.fieldsOf,hund]
     obtain ⟨us',rfl,_,_⟩:=rep_agg hx
     obtain ⟨vs',rfl,_,_⟩:=rep_agg hy
     rw [run_equalIn_agg _ _ _ _ _ (by rw [hfo];exact hund) (by simpa using hs),hfo]
     exact eqFs_run (fun t x y b u v h1 h2 h3=>ih t x y b u v h1 h2 h3) hx hy _ _ h
   ·cases h
  ·cases h
def eqOp (op:BinOp) (b:Bool):Option Bool:=match op with | .eql=>some b | .neq=>some (!b) | _=>none
theorem eq_exec {w:World} {C:Ctx} {o:Oper} {op:BinOp} {t t':TypeId} {x y:Operand} {ρa:Operand→AV} {ρ:Operand→Value} {b r:Bool} {xs ys:List AV} (ho:o.op= .binOp op t x y t') (hρ:∀x,RepA w C (ρa x) (ρ x))
  (hx:ρa x= .agg xs) (hy:ρa y= .agg ys) (hg:P.eqGuardType P.depth t=false) (h:eqA P 10000 t (.agg xs) (.agg ys)=some b) (hr:eqOp op b=some r):(execOp ρ o).run P w= .ok (.value (.bool r)) w:=by
 have h1:=hρ x
 have h2:=hρ y
 rw [hx] at h1
 rw [hy] at h2
 have h3:=eqA_run 10000 t _ _ _ _ _ h h1 h2
 obtain ⟨us,e1,_,_⟩:=rep_agg h1
 obtain ⟨vs,e2,_,_⟩:=rep_agg h2
 rw [e1,e2] at h3
 cases op<;>simp only [eqOp,reduceCtorEq] at hr
 ·cases hr
  simp only [execOp,ho,Sem.run_bind,e1,e2,run_eqGuard_agg _ _ _ _ _ _ _ hg,Result.andThen_ok,run_eql_struct,h3,Sem.run_pure]
 ·cases hr
  simp only [execOp,ho,Sem.run_bind,e1,e2,run_eqGuard_agg _ _ _ _ _ _ _ hg,Result.andThen_ok,run_neq_struct,h3,Sem.run_pure]
variable {B:Base} {k:List KI} {R:Post} {s:St}
theorem does_eq {all:Array Oper} {i n:Nat} {o:Oper} {m:Slots} {op:BinOp} {t t':TypeId} {x y:Operand} {b r:Bool} {xs ys:List AV} (ho':all[i]? =some o) (hl:lets all m o=some true) (ho:o.op= .binOp op t x y t')
  (hx:ev m x= .agg xs) (hy:ev m y= .agg ys) (hg:P.eqGuardType P.depth t=false) (h:eqA P 10000 t (.agg xs) (.agg ys)=some b) (hr:eqOp op b=some r) (σ:Nat→AObj) (nx:Nat):Does P n all i m σ nx (.b r) σ nx:=by
 intro C a w hn hs hsz hrep ro K Q hK
 have hops:=mask_ev (m:=m) ho'
 have hd:dstOf all i=o.dst:=by simp [dstOf,ho']
 simp only [wpO,wpOpIn,ho',lets_wanted ho' hrep hl,if_true]
 rw [hd] at hK
 exact owp_value (eq_exec ho (ev_rep hrep) (by rw [hops x (by simp [ho,Op.operands])];exact hx) (by rw [hops y (by simp [ho,Op.operands])];exact hy) hg h hr) (hK _ _ C hs hn (Step.refl _ _ _) (.t (.v rfl)))
theorem K_eq {all:Array Oper} {o:Oper} {rest:List Oper} {op:BinOp} {t t':TypeId} {x y:Operand} {b r:Bool} {xs ys:List AV} (hgd:o.guard=none) (ho:o.op= .binOp op t x y t') (hd:dOk B.n o.dst=true)
  (hx:ev s.m x= .agg xs) (hy:ev s.m y= .agg ys) (hg:P.eqGuardType P.depth t=false) (h:eqA P 10000 t (.agg xs) (.agg ys)=some b) (hr:eqOp op b=some r)
  (hk:Kp P B (.ops all rest :: k) R .normal ⟨put s.m o.dst (.b r),s.σ,s.nx⟩):Kp P B (.ops all (o :: rest) :: k) R .normal s:=by
 intro a w hrel
 refine wpL_plain hgd fun K hK=>?_
 obtain ⟨C,h1,h2,h3,h4,h5,h6⟩:=hrel
 refine owp_value (eq_exec ho (ev_rep h2) hx hy hg h hr) ?_
 exact hK _ _ (hk _ _ ⟨C,h1,put_rep h5 (Step.refl _ _ _) h2 (by rw [h3];exact hd) (.t (.v rfl)),by rw [put_size];exact h3,by rw [put_def];exact h4,h5,h6⟩)
theorem K_dEq {all:Array Oper} {lo:List Nat} {sw:SW} {i:Nat} {pend:List Rc} {o:Oper} {rest:List (Nat×Oper)} {op:BinOp} {t t':TypeId} {x y:Operand} {b r:Bool} {xs ys:List AV} (hl:lets all s.m o=some true) (ho:o.op= .binOp op t x y t')
  (hx:ev s.m x= .agg xs) (hy:ev s.m y= .agg ys) (hg:P.eqGuardType P.depth t=false) (h:eqA P 10000 t (.agg xs) (.agg ys)=some b) (hr:eqOp op b=some r)
  (hk:Kp P B (.opsD all lo sw rest pend :: k) R .normal ⟨put s.m o.dst (.b r),s.σ,s.nx⟩):Kp P B (.opsD all lo sw ((i,o) :: rest) pend :: k) R .normal s:=
 Chain.at fun ho'=>Chain.step (loud:=none) (does_eq ho' hl ho hx hy hg h hr _ _) (fun _=>.inl (does_eq ho' hl ho hx hy hg h hr)) (fun c hc=>by cases hc) (fun _ h=>h) hk
attribute [go_sem] eqA eqFs eqOp
end
end Go.Proofs.YtnoifgjiipgpoaaGreat.R

namespace Go.Proofs.YtnoifgjiipgpoaaGreat.R
open Go.RowKit
def HasF (P:Program) (H:TypeId→List T→Prop):List Field→List T→Prop
 |[],ts=>ts=[]
 |fd :: r,ts=>∃a b,ts=a++b∧a.length=P.cellsOf fd.type∧H fd.type a∧HasF P H r b
def HasT (P:Program):Nat→TypeId→List T→Prop
 |0,_,_=>False
 |f+1,t,ts=>match P.underlying t with
  |some .bool=>∃b,ts=[.v (.bool b)]
  |some (.int k)=>∃n,ts=[.v (.int k n)]∧(Lit.int k n).wf=true
  |some .string=>∃s,ts=[.v (.string s)]
  |some (.slice e)=>∃es,ts=[.sl es]∧es.length≤maxLen∧∀x∈es,x.length=P.cellsOf e∧HasT P f e x
  |some (.struct fs)=>HasF P (fun t ts=>HasT P f t ts) fs.toList ts
  |_=>False
def tiles (P:Program):Nat→List Field→Option Nat
 |o,[]=>some o
 |o,fd :: r=>if fd.offset=o then tiles P (o+P.cellsOf fd.type) r else none
def plainT (P:Program):Nat→TypeId→Bool
 |0,_=>false
 |f+1,t=>match P.underlying t with
  |some .bool | some (.int _) | some .string=>true
  |some (.slice e)=>plainT P f e&&decide (0<P.cellsOf e)
  |some (.struct fs)=>tiles P 0 fs.toList==some (P.cellsOf t)&&fs.toList.all fun fd=>plainT P f fd.type
  |_=>false
section
variable {P:Program} {w:World} {H:Type} {enc:TypeId×Value→H} {spare:Nat→Bool} {held:Bool}
abbrev old (w:World):Nat→Prop:=fun b=>b<w.heap.size
theorem cells_get {base:Nat} {a:Addr}:∀{n:Nat} {l:List Value},w.cells? base a n=some l→l.length=n∧∀k u,l[k]? =some u→w.cell? (a.add k)=some u:=by
 intro n l h
 unfold World.cells? at h
 split at h
 ·have key:∀(ks:List Nat) (l:List Value),(ks.mapM fun i=>w.cell? (a.add i))=some l→l.length=ks.length∧∀(k:Nat) (u:Value),l[k]? =some u→∃i,ks[k]? =some i∧w.cell? (a.add i)=some u:=by
   intro ks
   induction ks with
   |nil=>intro l h;simp at h;subst h;exact ⟨rfl,fun k u h=>by simp at h⟩
   |cons i ks ih=>
    intro l h
    simp only [List.mapM_cons,Option.bind_eq_bind,Option.bind_eq_some_iff,Option.pure_def,Option.some.injEq] at h
    obtain ⟨x,hx,xs,hxs,rfl⟩:=h
    obtain ⟨g1,g2⟩:=ih xs hxs
    refine ⟨by simp [g1],fun k u hk=>?_⟩
    cases k with
    |zero=>simp at hk;subst hk;exact ⟨i,rfl,hx⟩
    |succ k=>exact g2 k u (by simpa using hk)
  obtain ⟨g1,g2⟩:=key _ _ h
  refine ⟨by simpa using g1,fun k u hk=>?_⟩
  obtain ⟨i,hi,hc⟩:=g2 k u hk
  have:i=k:=by
   obtain ⟨h1,h2⟩:=List.getElem?_eq_some_iff.1 hi
   simpa using h2.symm
  rw [←this];exact hc
 ·cases h
theorem mapM_get {α β:Type} {f:α→Option β}:∀{l:List α} {r:List β},l.mapM f=some r→r.length=l.length∧∀(k:Nat) (x:α),l[k]? =some x→∃y,r[k]? =some y∧f x=some y:=by
 intro l
 induction l with
 |nil=>intro r h;simp at h;subst h;exact ⟨rfl,fun k x h=>by simp at h⟩
 |cons a l ih=>
  intro r h
  simp only [List.mapM_cons,Option.bind_eq_bind,Option.bind_eq_some_iff,Option.pure_def,Option.some.injEq] at h
  obtain ⟨x,hx,xs,hxs,rfl⟩:=h
  obtain ⟨g1,g2⟩:=ih hxs
  refine ⟨by simp [g1],fun k u hk=>?_⟩
  cases k with
  |zero=>simp at hk;subst hk;exact ⟨x,rfl,hx⟩
  |succ k=>simpa using g2 k u (by simpa using hk)
theorem cell_old {a:Addr} {u:Value} (h:w.cell? a=some u):a.block<w.heap.size:=by
 unfold World.cell? at h
 cases hb:w.heap[a.block]? with
 |none=>rw [hb] at h;simp at h
 |some o=>exact (Array.getElem?_eq_some_iff.1 hb).1
def Reads (P:Program) (w:World) (f:Nat) (t:TypeId) (cs:List Value):Prop:=
 ∃ts,HasT P f t ts∧ts.length=cs.length∧∀(k:Nat) (a:T) (u:Value),ts[k]? =some a→cs[k]? =some u→RepT w (old w) a u
theorem trod_fields {f g:Nat} (ih:∀t cs d ps,DataW.trod enc P w 0 spare held f t cs=some (d,ps)→plainT P g t=true→Reads P w f t cs) {cs:List Value}:
  ∀(fs:List Field) (o e:Nat) (xs:List (DataW H×List MemPlace)),tiles P o fs=some e→e≤cs.length→(∀fd∈fs,plainT P g fd.type=true)→
   (fs.mapM fun fd=>DataW.trod enc P w 0 spare held f fd.type ((cs.drop fd.offset).take (P.cellsOf fd.type)))=some xs→
   o≤e∧∃ts,HasF P (fun t ts=>HasT P f t ts) fs ts∧ts.length=e-o∧∀(k:Nat) (a:T) (u:Value),ts[k]? =some a→cs[o+k]? =some u→RepT w (old w) a u:=by
 intro fs
 induction fs with
 |nil=>
  intro o e xs h1 h2 h3 h4
  simp only [tiles,Option.some.injEq] at h1
  subst h1
  exact ⟨Nat.le_refl _,[],rfl,by simp,fun k a u h=>by simp at h⟩
 |cons fd r ihr=>
  intro o e xs h1 h2 h3 h4
  simp only [tiles] at h1
  split at h1
  ·rename_i ho
   simp only [List.mapM_cons,Option.bind_eq_bind,Option.bind_eq_some_iff,Option.pure_def,Option.some.injEq] at h4
   obtain ⟨x,hx,xs',hxs,_⟩:=h4
   obtain ⟨g0,ts,g1,g2,g3⟩:=ihr _ e xs' h1 h2 (fun q hq=>h3 q (List.mem_cons_of_mem _ hq)) hxs
   obtain ⟨ta,e1,e2,e3⟩:=ih _ _ x.1 x.2 hx (h3 fd List.mem_cons_self)
   have hal:ta.length=P.cellsOf fd.type:=by rw [e2];simp;omega
   refine ⟨by omega,ta++ts,⟨ta,ts,rfl,hal,e1,g1⟩,by rw [List.length_append,hal,g2];omega,fun k a u ha hu=>?_⟩
   rw [List.getElem?_append] at ha
   split at ha
   ·rename_i hk
    refine e3 k a u ha ?_
    rw [List.getElem?_take,if_pos (by omega),List.getElem?_drop,ho]
    exact hu
   ·rename_i hk
    refine g3 _ a u ha ?_
    rw [←hu]
    congr 1
    omega
  ·cases h1
theorem list_of {α:Type} {Q:Nat→α→Prop}:∀n,(∀i,i<n→∃x,Q i x)→∃l:List α,l.length=n∧∀(i:Nat) (x:α),l[i]? =some x→Q i x
 |0,_=>⟨[],rfl,fun i x h=>by simp at h⟩
 |n+1,h=>by
  obtain ⟨l,h1,h2⟩:=list_of n fun i hi=>h i (by omega)
  obtain ⟨x,hx⟩:=h n (by omega)
  refine ⟨l++[x],by simp [h1],fun i y hy=>?_⟩
  rw [List.getElem?_append] at hy
  split at hy
  ·exact h2 i y hy
  ·rename_i hi
   have:i=n:=by
    have:=(List.getElem?_eq_some_iff.1 hy).1
    simp at this
    omega
   subst this
   simp [h1] at hy
   subst hy
   exact hx
theorem trod_rep:∀(f g:Nat) (t:TypeId) (cs:List Value) (d:DataW H) (ps:List MemPlace),DataW.trod enc P w 0 spare held f t cs=some (d,ps)→plainT P g t=true→Reads P w f t cs:=by
 intro f
 induction f with
 |zero=>intro g t cs d ps h;simp [DataW.trod] at h
 |succ f ih=>
  intro g t cs d ps h hp
  cases g with
  |zero=>simp [plainT] at hp
  |succ g=>
   have one:∀{x:T} {u:Value},RepT w (old w) x u→∀(k:Nat) (a:T) (v:Value),[x][k]? =some a→[u][k]? =some v→RepT w (old w) a v:=by
    intro x u hx k a v ha hv
    cases k with
    |zero=>simp at ha hv;subst ha;subst hv;exact hx
    |succ k=>simp at ha
   simp only [plainT] at hp
   unfold DataW.trod at h
   cases hu:P.underlying t with
   |none=>simp [hu] at hp
   |some du=>
    simp only [hu] at hp h
    cases du<;>simp only [Bool.false_eq_true] at hp
    case bool=>
     split at h<;>first | (rename_i heq;cases heq) | skip
     all_goals first | cases h | skip
     rename_i b
     exact ⟨[.v (.bool b)],by simp only [HasT,hu];exact ⟨b,rfl⟩,rfl,one (.v rfl)⟩
    case int kk=>
     split at h<;>first | (rename_i heq;cases heq) | skip
     all_goals first | (cases h;done) | skip
     rename_i k' n
     split at h
     ·rename_i hc
      obtain ⟨rfl,hw⟩:=hc
      exact ⟨[.v (.int k' n)],by simp only [HasT,hu];exact ⟨n,rfl,hw⟩,rfl,one (.v rfl)⟩
     ·cases h
    case string=>
     split at h<;>first | (rename_i heq;cases heq) | skip
     all_goals first | (cases h;done) | skip
     rename_i b
     exact ⟨[.v (.string b)],by simp only [HasT,hu];exact ⟨b,rfl⟩,rfl,one (.v rfl)⟩
    case slice e=>
     split at h<;>first | (rename_i heq;cases heq) | skip
     all_goals first | (cases h;done) | skip
     ·exact ⟨[.sl []],by simp only [HasT,hu];exact ⟨[],rfl,Nat.zero_le _,fun x hx=>by cases hx⟩,rfl,one .nil⟩
     ·rename_i a len cap
      simp only [Bool.and_eq_true,decide_eq_true_eq] at hp
      split at h
      ·rename_i hc
       obtain ⟨elems,he,_⟩:=Option.bind_eq_some_iff.1 h
       obtain ⟨g1,g2⟩:=mapM_get he
       have hel:∀i,i<len→∃x:List T,HasT P f e x∧x.length=P.cellsOf e∧∀(k:Nat) (c:T),x[k]? =some c→∃u,w.cell? (a.add (i*P.cellsOf e+k))=some u∧RepT w (old w) c u:=by
        intro i hi
        obtain ⟨y,_,hy⟩:=g2 i i (by simp [hi])
        obtain ⟨l,hl,hty⟩:=Option.bind_eq_some_iff.1 hy
        obtain ⟨q1,q2⟩:=cells_get hl
        obtain ⟨x,e1,e2,e3⟩:=ih g e l y.1 y.2 hty hp.1
        refine ⟨x,e1,by rw [e2,q1],fun k c hk=>?_⟩
        have hkl:k<l.length:=by have:=(List.getElem?_eq_some_iff.1 hk).1;omega
        refine ⟨l[k],?_,e3 k c _ hk (List.getElem?_eq_getElem hkl)⟩
        have:=q2 k l[k] (List.getElem?_eq_getElem hkl)
        rwa [add_add] at this
       obtain ⟨es,s1,s2⟩:=list_of len hel
       have hmem:∀x∈es,HasT P f e x∧x.length=P.cellsOf e:=fun x hx=>by
        obtain ⟨i,hi⟩:=List.getElem?_of_mem hx
        exact ⟨(s2 i x hi).1,(s2 i x hi).2.1⟩
       refine ⟨[.sl es],by simp only [HasT,hu];exact ⟨es,rfl,by have:=hc.2;omega,fun x hx=>⟨(hmem x hx).2,(hmem x hx).1⟩⟩,rfl,one ?_⟩
       rcases Nat.eq_zero_or_pos es.length with h0 | h0
       ·have:es=[]:=List.eq_nil_of_length_eq_zero h0
        subst this
        simp at s1
        subst s1
        exact .nil
       ·rw [←s1]
        have hcell:∀k,k<es.length*P.cellsOf e→∃u,w.cell? (a.add k)=some u:=by
         intro k hk
         obtain ⟨x,hx,_,hm,e1⟩:=flat_ix (fun x hx=>(hmem x hx).2) hk
         have hxl:=(s2 _ x hx).2.1
         obtain ⟨u,hu',_⟩:=(s2 _ x hx).2.2 (k % P.cellsOf e) _ (List.getElem?_eq_getElem (by omega))
         rw [←e1] at hu'
         exact ⟨u,hu'⟩
        have hpos:0<es.length*P.cellsOf e:=Nat.mul_pos h0 hp.2
        obtain ⟨u0,hu0⟩:=hcell 0 hpos
        refine .sl (u:=fun k=>(w.cell? (a.add k)).getD undef) h0 (fun x hx=>(hmem x hx).2) (by omega) (by have:=cell_old hu0;rwa [add_block] at this) (fun k hk=>?_) (fun j k x c hx hc'=>?_)
        ·obtain ⟨u,hu'⟩:=hcell k hk
         rw [hu'];rfl
        ·obtain ⟨u,hu',hr⟩:=(s2 j x hx).2.2 k c hc'
         show RepT w (old w) c ((w.cell? (a.add (j*P.cellsOf e+k))).getD undef)
         rw [hu'];exact hr
      ·cases h
    case struct fs=>
     simp only [Bool.and_eq_true,beq_iff_eq,List.all_eq_true] at hp
     split at h<;>first | (rename_i heq;cases heq) | skip
     all_goals first | (cases h;done) | (exfalso;rename_i hno _ _ _ _ _ _ _ _ _ _ _ _ _ _ _ _ _ _ _;exact hno fs rfl) | (exfalso;simp_all;done) | skip
     split at h
     ·rename_i hl
      obtain ⟨xs,hxs,_⟩:=Option.map_eq_some_iff.1 h
      obtain ⟨_,ts,g1,g2,g3⟩:=trod_fields (ih g) fs.toList 0 _ xs hp.1 (by omega) hp.2 hxs
      exact ⟨ts,by simp only [HasT,hu];exact g1,by omega,fun k a u ha hu'=>g3 k a u ha (by simpa using hu')⟩
     ·cases h
end
end Go.Proofs.YtnoifgjiipgpoaaGreat.R

namespace Go.Proofs.YtnoifgjiipgpoaaGreat.R
open Go.RowKit
section
variable {P:Program} {B:Base} {s:St}
theorem Imp.of {l:List (Nat×AV)} {σ':Nat→AObj} {n:Nat} (hm:∀p∈l,s.m p.1=p.2) (ho:∀i,σ' i= .dead∨σ' i=s.σ i) (hn:n=s.nx):Imp B s ⟨sl l,σ',n⟩:=
 (Imp.keep hm).trans (Imp.same (fun _=>.inr rfl) ho hn)
theorem K_imp {t:St} {all:Array Oper} {rest:List Oper} {k:List KI} {R:Post} (h:Imp B s t) (hk:Kp P B (.ops all rest :: k) R .normal t):Kp P B (.ops all rest :: k) R .normal s:=
 fun a w hr=>hk a w (h _ _ hr)
theorem CallQ.known {f:FuncId} {args:List AV} {σ:Nat→AObj} {nx:Nat} {S:AV→(Nat→AObj)→Nat→Prop} (hg:goodFn P f=true) (h:(∀i,σ i= .dead∨(bndO nx (σ i)=true∧i<nx))→CallQ P f args σ nx S):CallQ P f args σ nx S:=by
 refine ⟨hg,fun C w vs hs hn hl=>(h fun i=>?_).2 C w vs hs hn hl⟩
 by_cases hd:σ i= .dead
 ·exact .inl hd
 ·refine .inr ⟨?_,?_⟩
  ·rw [←hn];exact (hs.obj i).bnded
  ·rw [←hn];exact live_lt hs hd
theorem frz1_id {n q:Nat} {es:List (List T)} (hn:n≤q):∀(a:AV),bnd n a=true→frz1 q es a=a
 | .ref i,h=>by
  have:i<n:=by simpa [bnd] using h
  simp only [frz1]
  rw [if_neg (by omega)]
 | .agg cs,h=>by
  simp only [frz1]
  rw [list cs (by simpa [bnd] using h)]
 | .tup cs,h=>by
  simp only [frz1]
  rw [list cs (by simpa [bnd] using h)]
 | .t _,_=>rfl
 | .fsl _,_=>rfl
 | .rd _,_=>rfl
 | .any,_=>rfl
 | .ptr _ _,_=>rfl
 | .el _ _,_=>rfl
 | .cut _ _ _ _,_=>rfl
 | .ifc _ _,_=>rfl
 | .mapr _,_=>rfl
 | .yld _,_=>rfl
 | .fn _ _ _,_=>rfl
 where
 list:∀(cs:List AV),bnd.bndL n cs=true→frz1.frzL q es cs=cs
 |[],_=>rfl
 |c :: cs,h=>by
  simp only [bnd.bndL,Bool.and_eq_true] at h
  simp only [frz1.frzL]
  rw [frz1_id hn c h.1,list cs h.2]
theorem frzO_id {n q:Nat} {es:List (List T)} (hn:n≤q) (o:AObj) (h:bndO n o=true):frzO q es o=o:=by
 cases o with
 |box cs=>
  simp only [frzO]
  rw [frz1_id.list hn cs]
  simp only [bndO,List.all_eq_true] at h
  exact bndL_of fun k a hk=>h a (List.mem_of_getElem? hk)
 |_=>rfl
theorem spec_down {f:FuncId} {fn:Func} {c:Code} (hf:P.funcs[f]? =some fn) (hb:fn.body=some c) (hname:(fn.name== "runtime.NumGoroutine")=false) {args:List AV} {σ:Nat→AObj} {nx q:Nat} {o:AObj} {r:AV} (hn:args.length≤fn.ntmps)
  (hq:q<nx) (ho:bndO nx o=true) (hr:bnd nx r=true)
  (h:(∀i,σ i= .dead∨(bndO nx (σ i)=true∧i<nx))→∀B:Base,B.n=fn.ntmps→B.C.nx=nx→B.σ=σ→Kp P B [.code c] (fun e s=>(e= .ret∨e= .normal)∧nx≤s.nx∧s.σ q=o∧(∀i,i<nx→i≠q→s.σ i=σ i)∧∃rs,resL P s fn.results.toList=some rs∧resV rs=r) .normal ⟨slots0 args,σ,nx⟩):
  CallSpec P f args σ nx r (oput σ q o) nx:=by
 refine CallQ.spec (CallQ.known (by simp [goodFn,hf,hb,hname]) fun hk=>?_)
 refine CallSpec.q (spec_of_K hf hb hname hn fun B h1 h2 h3=>?_)
 refine fun a w hrel=>cwp_mono (h hk B h1 h2 h3 a w hrel) fun e a' w' hp=>?_
 obtain ⟨s',⟨he,g1,g2,g3,rs,g4,g5⟩,h5⟩:=hp
 have hend:Ends nx s' (resV rs) (oput σ q o) nx r:=by
  refine ⟨fun i=>?_,g1,Nat.le_refl _,.inl g5.symm,.inr hr⟩
  by_cases hi:i=q
  ·subst hi
   refine .inr ⟨by simp [oput,g2],.inr ⟨by simp [oput,ho],hq⟩⟩
  ·have e1:oput σ q o i=σ i:=by simp [oput,hi]
   rw [e1]
   rcases hk i with e | ⟨e,e2⟩
   ·exact .inl e
   ·exact .inr ⟨(g3 i e2 hi).symm,.inr ⟨e,e2⟩⟩
 refine ⟨s',?_,h5⟩
 rcases he with rfl | rfl
 ·exact ⟨rs,g4,hend⟩
 ·exact ⟨rs,g4,hend⟩
end
end Go.Proofs.YtnoifgjiipgpoaaGreat.R

namespace Go.Proofs.YtnoifgjiipgpoaaGreat.R
open Ieee
set_option maxRecDepth 4000
def Holds (b:Nat) (z:Int):Prop:=∃(s:Bool) (m k:Nat),double.read b= .number s m (-(k:Int))∧m=z.natAbs*2^k∧(z≠0→s=decide (z<0))
theorem log2_mul_pow {n k:Nat} (hn:n≠0):(n*2^k).log2=n.log2+k:=by
 have h1:=Nat.log2_self_le hn
 have h2:=Nat.lt_log2_self (n:=n)
 have hne:n*2^k≠0:=Nat.mul_ne_zero hn (Nat.ne_of_gt (Nat.pow_pos (by decide:0<2)))
 refine Nat.le_antisymm ?_ ?_
 ·refine Nat.le_of_lt_succ ((Nat.log2_lt hne).2 ?_)
  rw [show (n.log2+k).succ=n.log2+1+k by omega,Nat.pow_add]
  exact Nat.mul_lt_mul_of_pos_right h2 (Nat.pow_pos (by decide))
 ·refine (Nat.le_log2 hne).2 ?_
  rw [Nat.pow_add]
  exact Nat.mul_le_mul_right _ h1
theorem cut_exact (way:Toward) (neg:Bool) (n d:Nat):way.cut neg (n*2^d) d=n:=by
 rcases Nat.eq_zero_or_pos n with h0 | h0
 ·subst h0
  simp only [Toward.cut,Nat.zero_mul,Nat.zero_div,Nat.zero_mod]
  cases way<;>simp
 ·have hlog:=log2_mul_pow (n:=n) (k:=d) (by omega)
  have hmin:min d ((n*2^d).log2+2)=d:=by omega
  have hp:0<2^d:=Nat.pow_pos (by decide)
  simp only [Toward.cut,hmin,Nat.one_shiftLeft,Nat.mul_mod_left,Nat.mul_div_cancel _ hp]
  cases way
  ·have h1:¬2^d<2*0:=by omega
   have h2:¬2^d=2*0:=by omega
   simp [h1]
  ·simp
  ·simp
  ·simp
theorem read_word (s:Bool) {r:Nat} (h1:double.binade≤r) (h2:r<double.infRung):double.read (double.word s r)= .number s (double.binade+r % double.binade) (double.leastPlace+(r / double.binade-1:Nat)):=by
 have hs:r<double.signWeight:=Nat.lt_trans h2 double.infRung_lt
 have e1:double.word s r / double.signWeight % 2=s.toNat∧double.word s r % double.signWeight=r:=by
  have hp:0<double.signWeight:=by omega
  cases s
  ·simp [Format.word,Nat.div_eq_of_lt hs,Nat.mod_eq_of_lt hs]
  ·simp [Format.word,Nat.add_div_left,hp,Nat.div_eq_of_lt hs,Nat.mod_eq_of_lt hs]
 unfold Format.read
 simp only [e1.1,e1.2,if_neg (show ¬r<double.binade by omega),if_pos h2]
 cases s<;>rfl
theorem read_zero (s:Bool):double.read (double.word s 0)= .number s 0 (-(1074:Nat)):=by
 cases s<;>decide+kernel
theorem write_holds (s:Bool) (n k:Nat) (hn:n<2^53) (z:Int) (hz:z.natAbs=n) (hs:z≠0→s=decide (z<0)):Holds (double.write (.number s (n*2^k) (-(k:Int)))) z:=by
 have hb:double.binade=2^52:=rfl
 have hf:double.fractionBits=52:=rfl
 have hl:double.leastPlace= -1074:=by decide
 have hi:double.infRung=2047*2^52:=by decide
 rcases Nat.eq_zero_or_pos n with h0 | h0
 ·subst h0
  have e1:double.write (.number s (0*2^k) (-(k:Int)))=double.word s 0:=by simp [Format.write,Format.nearest]
  rw [e1]
  exact ⟨s,0,1074,read_zero s,by rw [hz];omega,hs⟩
 ·have hne:n*2^k≠0:=Nat.mul_ne_zero (by omega) (Nat.ne_of_gt (Nat.pow_pos (by decide:0<2)))
  have hlog:=log2_mul_pow (n:=n) (k:=k) (by omega)
  have hL:n.log2≤52:=by
   have:=(Nat.log2_lt (by omega:n≠0)).2 hn
   omega
  have hlo:=Nat.log2_self_le (n:=n) (by omega)
  have hhi:=Nat.lt_log2_self (n:=n)
  generalize hLL:n.log2=L at *
  have hlast:max (-(k:Int)+((L+k:Nat):Int)-((52:Nat):Int)) (-1074)=(L:Int)-52:=by omega
  have hkept:Toward.even.cut s ((n*2^k) <<< (-(k:Int)-((L:Int)-52)).toNat) (((L:Int)-52) - -(k:Int)).toNat=n*2^(52-L):=by
   by_cases hle:(L:Int)-52≤ -(k:Int)
   ·have h1:(((L:Int)-52) - -(k:Int)).toNat=0:=by omega
    rw [h1,Nat.shiftLeft_eq]
    have:=cut_exact .even s (n*2^k*2^(-(k:Int)-((L:Int)-52)).toNat) 0
    rw [Nat.pow_zero,Nat.mul_one] at this
    rw [this,Nat.mul_assoc,←Nat.pow_add]
    congr 2
    omega
   ·have h1:(-(k:Int)-((L:Int)-52)).toNat=0:=by omega
    rw [h1,Nat.shiftLeft_eq,Nat.pow_zero,Nat.mul_one]
    have h2:n*2^k=n*2^(52-L)*2^(((L:Int)-52) - -(k:Int)).toNat:=by
     rw [Nat.mul_assoc,←Nat.pow_add]
     congr 2
     omega
    rw [h2]
    exact cut_exact .even s _ _
  have e2:2^L*2^(52-L)=2^52:=by rw [←Nat.pow_add];congr 1;omega
  have g1:2^52≤n*2^(52-L):=by rw [←e2];exact Nat.mul_le_mul_right _ hlo
  have g2:n*2^(52-L)<2^53:=by
   have e3:2^(L+1)*2^(52-L)=2^53:=by rw [←Nat.pow_add];congr 1;omega
   rw [←e3]
   exact Nat.mul_lt_mul_of_pos_right hhi (Nat.pow_pos (by decide))
  have c52:2^52=4503599627370496:=by decide
  have c53:2^53=9007199254740992:=by decide
  rw [c52] at g1
  rw [c53] at g2
  generalize hM:n*2^(52-L)=M at *
  have hb':double.binade=4503599627370496:=by decide
  have hi':double.infRung=9218868437227405312:=by decide
  obtain ⟨r,hr⟩:∃r,r=(L+1022)*4503599627370496+M:=⟨_,rfl⟩
  clear c52 c53 e2 hlo hhi hb hi hn
  have r1:4503599627370496≤r:=by omega
  have r2:r<9218868437227405312:=by omega
  have r3:((L:Int)-52 - -1074).toNat=L+1022:=by omega
  have e1:double.write (.number s (n*2^k) (-(k:Int)))=double.word s r:=by
   simp only [Format.write,Format.nearest,if_neg hne,hlog,hf,hl,hlast,hkept,hb',hi',r3]
   rw [←hr,Nat.min_eq_left (Nat.le_of_lt r2)]
  have d1:4503599627370496+r % 4503599627370496=M:=by omega
  have d2:r / 4503599627370496-1=L+1022:=by omega
  have er:=read_word s (r:=r) (by rw [hb'];exact r1) (by rw [hi'];exact r2)
  rw [hb',hl,d1,d2] at er
  have e5: -1074+((L+1022:Nat):Int)= -((52-L:Nat):Int):=by omega
  rw [e5,←e1] at er
  exact ⟨s,M,52-L,er,by rw [hz,hM],hs⟩
theorem nearest_holds (z:Int) (h:z.natAbs<2^53):Holds (FloatKind.nearest .f64 z) z:=by
 have:=write_holds (decide (z<0)) z.natAbs 0 h z rfl (fun _=>rfl)
 simpa [FloatKind.nearest,FloatKind.encode,FloatKind.format] using this
theorem signed_eq {s:Bool} {z:Int} {k j:Nat} (hs:z≠0→s=decide (z<0)):signed s (z.natAbs*2^k) j=z*(2:Int)^(k+j):=by
 have hp:((2^(k+j):Nat):Int)=(2:Int)^(k+j):=by rw [Int.natCast_pow];rfl
 have e1:((z.natAbs*2^k) <<< j:Nat)=z.natAbs*2^(k+j):=by rw [Nat.shiftLeft_eq,Nat.mul_assoc,←Nat.pow_add]
 unfold signed
 rw [e1,←hp,Int.natCast_mul]
 by_cases h0:z=0
 ·subst h0;simp
 ·rw [hs h0]
  by_cases hn:z<0
  ·simp only [hn,decide_true,if_true]
   rw [←Int.neg_mul]
   congr 1
   omega
  ·simp only [hn,decide_false]
   have:(z.natAbs:Int)=z:=by omega
   rw [this];rfl
theorem sum_holds {d e:Datum} {s t:Bool} {x y:Int} {k j:Nat} (hd:d= .number s (x.natAbs*2^k) (-(k:Int))) (he:e= .number t (y.natAbs*2^j) (-(j:Int))) (hs:x≠0→s=decide (x<0)) (ht:y≠0→t=decide (y<0))
  (h:(x+y).natAbs<2^53):∃b,(d.sum e).map double.write=some b∧Holds b (x+y):=by
 subst hd he
 have hmin:min (-(k:Int)) (-(j:Int))= -((max k j:Nat):Int):=by omega
 have h1:(-(k:Int) - -((max k j:Nat):Int)).toNat=max k j-k:=by omega
 have h2:(-(j:Int) - -((max k j:Nat):Int)).toNat=max k j-j:=by omega
 have e1:signed s (x.natAbs*2^k) (max k j-k)=x*(2:Int)^(max k j):=by rw [signed_eq hs];congr 2;omega
 have e2:signed t (y.natAbs*2^j) (max k j-j)=y*(2:Int)^(max k j):=by rw [signed_eq ht];congr 2;omega
 have e3:x*(2:Int)^(max k j)+y*(2:Int)^(max k j)=(x+y)*(2:Int)^(max k j):=by rw [Int.add_mul]
 have hp:(0:Int)<(2:Int)^(max k j):=Int.pow_pos (by decide)
 have e4:((x+y)*(2:Int)^(max k j)).natAbs=(x+y).natAbs*2^(max k j):=by rw [Int.natAbs_mul,Int.natAbs_pow];rfl
 simp only [Datum.sum,hmin,h1,h2,e1,e2,e3,Option.map_some,e4]
 refine ⟨_,rfl,write_holds _ _ _ h _ rfl fun hne=>?_⟩
 have hne2:¬(x+y)*(2:Int)^(max k j)=0:=fun h0=>(Int.mul_eq_zero.1 h0).elim hne (fun h=>by omega)
 rw [if_neg hne2]
 by_cases hneg:x+y<0
 ·have:=Int.mul_neg_of_neg_of_pos hneg hp
  simp [hneg,this]
 ·have:=Int.mul_nonneg (show 0≤x+y by omega) (Int.le_of_lt hp)
  simp [hneg];omega
theorem add_holds {a b:Nat} {x y:Int} (ha:Holds a x) (hb:Holds b y) (h:(x+y).natAbs<2^53):∃r,floatBits .add .f64 a b=some r∧Holds r (x+y):=by
 obtain ⟨s,m,k,h1,rfl,h3⟩:=ha
 obtain ⟨t,n,j,g1,rfl,g3⟩:=hb
 exact sum_holds h1 g1 h3 g3 h
theorem sub_holds {a b:Nat} {x y:Int} (ha:Holds a x) (hb:Holds b y) (h:(x-y).natAbs<2^53):∃r,floatBits .sub .f64 a b=some r∧Holds r (x-y):=by
 obtain ⟨s,m,k,h1,rfl,h3⟩:=ha
 obtain ⟨t,n,j,g1,rfl,g3⟩:=hb
 have e1:(double.read b).opposite= .number (!t) ((-y).natAbs*2^j) (-(j:Int)):=by rw [g1];simp [Datum.opposite]
 have:=sum_holds (x:=x) (y:=-y) h1 e1 h3 (fun hy=>by
  have hy':y≠0:=fun h=>hy (by omega)
  rw [g3 hy']
  by_cases hn:y<0<;>simp [hn]<;>omega) (by rw [←Int.sub_eq_add_neg];exact h)
 rw [←Int.sub_eq_add_neg] at this
 exact this
theorem mul_holds {a b:Nat} {x y:Int} (ha:Holds a x) (hb:Holds b y) (h:(x*y).natAbs<2^53):∃r,floatBits .mul .f64 a b=some r∧Holds r (x*y):=by
 obtain ⟨s,m,k,h1,rfl,h3⟩:=ha
 obtain ⟨t,n,j,g1,rfl,g3⟩:=hb
 have e1:x.natAbs*2^k*(y.natAbs*2^j)=(x*y).natAbs*2^(k+j):=by rw [Int.natAbs_mul,Nat.pow_add];ac_rfl
 have e2: -(k:Int)+ -(j:Int)= -((k+j:Nat):Int):=by omega
 refine ⟨double.write (.number (s^^t) ((x*y).natAbs*2^(k+j)) (-((k+j:Nat):Int))),?_,write_holds _ _ _ h _ rfl fun hne=>?_⟩
 ·show ((double.read a).product (double.read b)).map double.write=_
  rw [h1,g1]
  simp only [Datum.product,Option.map_some,e1,e2]
 ·have hx:x≠0:=fun h0=>hne (by rw [h0,Int.zero_mul])
  have hy:y≠0:=fun h0=>hne (by rw [h0,Int.mul_zero])
  rw [h3 hx,g3 hy]
  by_cases hx1:x<0<;>by_cases hy1:y<0
  ·have:=Int.mul_pos_of_neg_of_neg hx1 hy1
   simp [hx1,hy1];omega
  ·have:=Int.mul_neg_of_neg_of_pos hx1 (show 0<y by omega)
   simp [hx1,hy1,this]
  ·have:=Int.mul_neg_of_pos_of_neg (show 0<x by omega) hy1
   simp [hx1,hy1,this]
  ·have:=Int.mul_pos (show 0<x by omega) (show 0<y by omega)
   simp [hx1,hy1];omega
theorem neg_holds {a:Nat} {x:Int} (ha:Holds a x):Holds (Op.negFloat .f64 a) (-x):=by
 obtain ⟨s,m,k,h1,h2,h3⟩:=ha
 have e0:double.read (Op.negFloat .f64 a)=(double.read a).opposite:=by
  have hsw:double.signWeight=2^63:=rfl
  have e1:Op.negFloat .f64 a=a ^^^ 2^63:=rfl
  have e2:(a ^^^ 2^63) % 2^63=a % 2^63:=by rw [Nat.xor_mod_two_pow,Nat.mod_self,Nat.xor_zero]
  have e3:(a ^^^ 2^63) / 2^63 % 2=1-a / 2^63 % 2:=by
   rw [Nat.xor_div_two_pow,Nat.div_self (Nat.pow_pos (by decide))]
   have:=Nat.xor_mod_two_pow (a:=a / 2^63) (b:=1) (n:=1)
   rw [Nat.pow_one] at this
   rw [this]
   rcases Nat.mod_two_eq_zero_or_one (a / 2^63) with h | h<;>rw [h]<;>rfl
  have e4:((1-a / 2^63 % 2)==1)= !((a / 2^63 % 2)==1):=by
   rcases Nat.mod_two_eq_zero_or_one (a / 2^63) with h | h<;>rw [h]<;>rfl
  rw [e1]
  unfold Format.read
  rw [hsw]
  simp only [e2,e3,e4]
  split
  ·rfl
  ·split
   ·rfl
   ·split<;>rfl
 refine ⟨!s,m,k,by rw [e0,h1];rfl,by rw [h2,Int.natAbs_neg],fun hne=>?_⟩
 have hx:x≠0:=fun h=>hne (by omega)
 rw [h3 hx]
 by_cases hn:x<0<;>simp [hn]<;>omega
theorem toInt_holds {a:Nat} {x:Int} (ha:Holds a x) (h: -9223372036854775808≤x∧x≤9223372036854775807):floatToIntVal .f64 a .i64=some x:=by
 obtain ⟨s,m,k,h1,rfl,h3⟩:=ha
 have e1:FloatKind.decode .f64 a= .number s (x.natAbs*2^k) (-(k:Int)):=h1
 have e2:(-(k:Int)).toNat=0:=by omega
 have e3:(-(-(k:Int))).toNat=k:=by omega
 have e4:(Datum.number s (x.natAbs*2^k) (-(k:Int))).toInt .zero=some x:=by
  simp only [Datum.toInt,Datum.integral,e2,e3,Nat.shiftLeft_eq,Nat.pow_zero,Nat.mul_one,cut_exact]
  have:=signed_eq (s:=s) (z:=x) (k:=0) (j:=0) h3
  rw [Nat.pow_zero,Nat.mul_one] at this
  rw [this]
  simp
 have hmin:IntKind.i64.min= -9223372036854775808:=by decide
 have hmax:IntKind.i64.max=9223372036854775807:=by decide
 unfold floatToIntVal
 rw [e1,e4]
 simp only [hmin,hmax,if_pos h]
theorem far_holds {a b c d:Nat} {x y u v:Int} (ha:Holds a x) (hb:Holds b y) (hc:Holds c u) (hd:Holds d v) (hx:0≤x∧x≤10000) (hy:0≤y∧y≤10000) (hu:0≤u∧u≤10000) (hv:0≤v∧v≤10000):
  ∃re im re2 im2,cSumBits .sub .f64 a b c d=some (re,im)∧cMulBits re im re (Op.negFloat .f64 im)=some (re2,im2)∧Holds re2 ((x-u)*(x-u)+(y-v)*(y-v)):=by
 obtain ⟨re,e1,g1⟩:=sub_holds ha hc (by omega)
 obtain ⟨im,e2,g2⟩:=sub_holds hb hd (by omega)
 have hp: -10000≤x-u∧x-u≤10000:=by omega
 have hq: -10000≤y-v∧y-v≤10000:=by omega
 generalize x-u=p at *
 generalize y-v=q at *
 have bd:∀m n:Int,-10000≤m∧m≤10000→ -10000≤n∧n≤10000→(m*n).natAbs≤100000000:=fun m n h1 h2=>by
  rw [Int.natAbs_mul]
  exact Nat.mul_le_mul (show m.natAbs≤10000 by omega) (show n.natAbs≤10000 by omega)
 have g3:=neg_holds g2
 have b1:=bd p p hp hp
 have b2:=bd q (-q) hq (by omega)
 have b3:=bd p (-q) hp (by omega)
 have b4:=bd q p hq hp
 obtain ⟨m1,e3,k1⟩:=mul_holds g1 g1 (by omega)
 obtain ⟨m2,e4,k2⟩:=mul_holds g2 g3 (by omega)
 obtain ⟨m3,e5,k3⟩:=sub_holds k1 k2 (by omega)
 obtain ⟨m4,e6,k4⟩:=mul_holds g1 g3 (by omega)
 obtain ⟨m5,e7,k5⟩:=mul_holds g2 g1 (by omega)
 obtain ⟨m6,e8,k6⟩:=add_holds k4 k5 (by omega)
 refine ⟨re,im,m3,m6,?_,?_,?_⟩
 ·simp only [cSumBits,e1,e2,Option.bind_some]
 ·simp only [cMulBits,e3,e4,e5,e6,e7,e8,Option.bind_some]
 ·have:p*p-q* -q=p*p+q*q:=by rw [Int.mul_neg];omega
  rw [←this]
  exact k3
end Go.Proofs.YtnoifgjiipgpoaaGreat.R

namespace Go.Proofs.YtnoifgjiipgpoaaGreat.R
open Go.RowKit
def Gives (P:Program) (o:Oper) (m:Slots) (u:Value):Prop:=
 plainV u=true∧∀(ρ:Operand→Value) (w:World),(∀x∈o.op.operands.toList,∀v,ev m x= .t (.v v)→ρ x=v)→(execOp ρ o).run P w= .ok (.value u) w
section
variable {P:Program} {B:Base} {k:List KI} {R:Post} {s:St} {all:Array Oper} {o:Oper} {rest:List Oper} {u:Value}
theorem K_val (hg:o.guard=none) (hd:dOk B.n o.dst=true) (h:Gives P o s.m u) (hk:Kp P B (.ops all rest :: k) R .normal ⟨put s.m o.dst (.t (.v u)),s.σ,s.nx⟩):Kp P B (.ops all (o :: rest) :: k) R .normal s:=by
 intro a w hr
 refine wpL_plain hg fun K hK=>?_
 obtain ⟨C,h1,h2,h3,h4,h5,h6⟩:=hr
 have hrun:=h.2 a.eval w fun x _ v hx=>by
  have:=ev_rep h2 x
  rw [hx] at this
  exact (rep_v this).1
 refine owp_value hrun ?_
 exact hK _ _ (hk _ _ ⟨C,h1,put_rep h5 (Step.refl _ _ _) h2 (by rw [h3];exact hd) (.t (.v h.1)),by rw [put_size];exact h3,by rw [put_def];exact h4,h5,h6⟩)
theorem does_val {n i:Nat} {m:Slots} (ho:all[i]? =some o) (hl:lets all m o=some true) (h:Gives P o m u) (σ:Nat→AObj) (nx:Nat):Does P n all i m σ nx (.t (.v u)) σ nx:=by
 intro C a w hn hs hsz hr ro K Q hK
 have hrun:=h.2 a.eval w fun x hx v hv=>by
  have:=ev_rep hr x
  rw [mask_ev ho x hx,hv] at this
  exact (rep_v this).1
 have hd:dstOf all i=o.dst:=by simp [dstOf,ho]
 simp only [wpO,wpOpIn,ho,lets_wanted ho hr hl,if_true]
 refine owp_value hrun ?_
 rw [hd] at hK
 exact hK _ _ C hs hn (Step.refl _ _ _) (.t (.v h.1))
theorem K_dVal {lo:List Nat} {sw:SW} {rest:List (Nat×Oper)} {i:Nat} {pend:List Rc} (hl:lets all s.m o=some true) (h:Gives P o s.m u) (hk:Kp P B (.opsD all lo sw rest pend :: k) R .normal ⟨put s.m o.dst (.t (.v u)),s.σ,s.nx⟩):Kp P B (.opsD all lo sw ((i,o) :: rest) pend :: k) R .normal s:=
 Chain.at fun ho=>Chain.step (loud:=none) (does_val ho hl h _ _) (fun _=>.inl (does_val ho hl h)) (fun c hc=>by cases hc) (fun _ h=>h) hk
end
theorem K_drawnT {P:Program} {B:Base} {k:List KI} {R:Post} {s:St} {all:Array Oper} {id:Nat} (lo:List Nat) (hm:P.follows .mixedOrders=true) (hst:statOK all B.n lo=true) (ht:(List.range all.size).all (tied all lo)=true)
  (h:(∀i,i<all.size→tied all lo i=true)→Kp P B (.opsD all lo none (num 0 all.toList) [] :: k) R .normal s):Kp P B (.code (.region id all true) :: k) R .normal s:=
 K_drawn lo hm hst (h fun i hi=>List.all_eq_true.1 ht i (List.mem_range.2 hi))
theorem K_drawnF {P:Program} {B:Base} {k:List KI} {R:Post} {s:St} {all:Array Oper} {id:Nat} (lo fl:List Nat) (hm:P.follows .mixedOrders=true) (hst:statOK all B.n lo=true) (ht:((List.range all.size).all (fun i=>tied all lo i== !fl.contains i)&&fl.all (fun i=>lo.contains i||flo all lo i))=true)
  (h:(∀i,i<all.size→tied all lo i= !fl.contains i)→(∀i,i∈fl→i∉lo→flo all lo i=true)→Kp P B (.opsD all lo none (num 0 all.toList) [] :: k) R .normal s):Kp P B (.code (.region id all true) :: k) R .normal s:=by
 rw [Bool.and_eq_true] at ht
 exact K_drawn lo hm hst (h (fun i hi=>eq_of_beq (List.all_eq_true.1 ht.1 i (List.mem_range.2 hi))) (fun i hi hn=>by
  have:=List.all_eq_true.1 ht.2 i hi
  simpa [hn] using this))
theorem K_drawnP {P:Program} {B:Base} {k:List KI} {R:Post} {s:St} {all:Array Oper} {id:Nat} (lo fl:List Nat) (a1 b1:Nat) (hlt:a1<b1) (hm:P.follows .mixedOrders=true) (hst:statS all B.n lo (some (a1,b1,false))=true) (ht:((List.range all.size).all (fun i=>tied all lo i== !fl.contains i)&&fl.all (fun i=>lo.contains i||flo all lo i))=true)
  (h:(∀i,i<all.size→tied all lo i= !fl.contains i)→(∀i,i∈fl→i∉lo→flo all lo i=true)→Kp P B (.opsD all lo (some (a1,b1,false)) (num 0 all.toList) [] :: k) R .normal s):Kp P B (.code (.region id all true) :: k) R .normal s:=by
 rw [Bool.and_eq_true] at ht
 exact K_drawn2 lo a1 b1 hlt hm hst (h (fun i hi=>eq_of_beq (List.all_eq_true.1 ht.1 i (List.mem_range.2 hi))) (fun i hi hn=>by
  have:=List.all_eq_true.1 ht.2 i hi
  simpa [hn] using this))
def loosen:AV→AV
 | .fsl es=>.t (.sl es)
 | .agg cs=>.agg (loosenL cs)
 |a=>a
 where
 loosenL:List AV→List AV
 |[]=>[]
 |c :: cs=>loosen c :: loosenL cs
theorem loosenL_get:∀{cs:List AV} {k:Nat} {a:AV},(loosen.loosenL cs)[k]? =some a→∃b,cs[k]? =some b∧a=loosen b
 |[],k,a,h=>by simp [loosen.loosenL] at h
 |c :: cs,k,a,h=>by
  cases k with
  |zero=>simp [loosen.loosenL] at h;exact ⟨c,rfl,h.symm⟩
  |succ k=>
   simp only [loosen.loosenL,List.getElem?_cons_succ] at h
   obtain ⟨b,h1,h2⟩:=loosenL_get h
   exact ⟨b,by simpa using h1,h2⟩
theorem loosenL_length:∀(cs:List AV),(loosen.loosenL cs).length=cs.length
 |[]=>rfl
 |c :: cs=>by simp only [loosen.loosenL,List.length_cons,loosenL_length cs]
theorem loosen_rep {w:World} {C:Ctx} {x:AV} {v:Value} (h:RepA w C x v):RepA w C (loosen x) v:=by
 induction h with
 |agg hl _ ih=>
  simp only [loosen]
  refine .agg (by rw [loosenL_length];exact hl) fun k a u ha hu=>?_
  obtain ⟨b,h1,rfl⟩:=loosenL_get ha
  exact ih k b u h1 hu
 |fsl h=>exact .t h
 |t h=>exact .t h
 |tup a b _=>exact .tup a b
 |ref a b=>exact .ref a b
 |ptr a b=>exact .ptr a b
 |rd a b c=>exact .rd a b c
 |el a b c=>exact .el a b c
 |cut a b c=>exact .cut a b c
 |ifc a b=>exact .ifc a b
 |mapr a b=>exact .mapr a b
 |yld a b=>exact .yld a b
 |fn a b c d _ _=>exact .fn a b c d
 |any=>exact .any
theorem Imp.loose {B:Base} {s:St}:Imp B s ⟨fun i=>loosen (s.m i),s.σ,s.nx⟩:=by
 intro a w hr
 obtain ⟨C,h1,h2,h3,h4,h5,h6⟩:=hr
 exact ⟨C,h1,fun t=>loosen_rep (h2 t),h3,h4,h5,h6⟩
theorem CallSpec.loose {P:Program} {f:FuncId} {args:List AV} {σ:Nat→AObj} {nx:Nat} {r:AV} {σ':Nat→AObj} {nx':Nat} (h:CallSpec P f (args.map loosen) σ nx r σ' nx'):CallSpec P f args σ nx r σ' nx':=by
 refine ⟨h.1,fun C w vs h1 h2 h3=>h.2 C w vs h1 h2 ⟨by rw [List.length_map];exact h3.1,fun k a u ha hu=>?_⟩⟩
 rw [List.getElem?_map] at ha
 obtain ⟨b,hb,rfl⟩:=Option.map_eq_some_iff.1 ha
 exact loosen_rep (h3.2 k b u hb hu)
theorem Pure.loose {P:Program} {f:FuncId} {args:List AV} {r:AV} (h:Pure P f (args.map loosen) r) (hb:args.all (bnd 0)=true):Pure P f args r:=
 ⟨fun a ha=>List.all_eq_true.1 hb a ha,h.2.1,CallSpec.loose h.2.2⟩
section
variable {P:Program} {o:Oper} {m:Slots}
theorem gives_toFloat {t d:TypeId} {x:Operand} {q:IntKind} {n:Int} {i:TI} {f:TI} (ho:o.op= .convert t d x) (hx:ev m x= .t (.v (.int q n))) (ht:TT P t=some i) (hd:TT P d=some f) (hf:f.desc= .float .f64):Gives P o m (.float .f64 (FloatKind.nearest .f64 n)):=by
 refine ⟨rfl,fun ρ w h=>?_⟩
 have e:=h x (by rw [ho];simp [Op.operands]) _ hx
 have hu:P.underlying d=some (.float .f64):=by rw [(tt_some hd).1,hf]
 simp only [execOp,ho,e,Sem.run_bind,run_convert_int_float w t d q .f64 n (by rw [(tt_some ht).1];rfl) hu,Result.andThen_ok,Sem.run_pure]
 rfl
theorem gives_toInt {t d:TypeId} {x:Operand} {b:Nat} {n:Int} {i:TI} {f:TI} (ho:o.op= .convert t d x) (hx:ev m x= .t (.v (.float .f64 b))) (ht:TT P t=some i) (hd:TT P d=some f) (hf:f.desc= .int .i64) (hn:floatToIntVal .f64 b .i64=some n):Gives P o m (.int .i64 n):=by
 refine ⟨rfl,fun ρ w h=>?_⟩
 have e:=h x (by rw [ho];simp [Op.operands]) _ hx
 have hu:P.underlying d=some (.int .i64):=by rw [(tt_some hd).1,hf]
 simp only [execOp,ho,e,Sem.run_bind,run_convert_float_int w t d .f64 .i64 b n (by rw [(tt_some ht).1];rfl) hu hn,Result.andThen_ok,Sem.run_pure]
theorem gives_csub {t t':TypeId} {x y:Operand} {a b c d re im:Nat} (ho:o.op= .binOp .sub t x y t') (hx:ev m x= .t (.v (.complex .f64 a b))) (hy:ev m y= .t (.v (.complex .f64 c d))) (hn:cSumBits .sub .f64 a b c d=some (re,im)):Gives P o m (.complex .f64 re im):=by
 refine ⟨rfl,fun ρ w h=>?_⟩
 have e:=h x (by rw [ho];simp [Op.operands]) _ hx
 have e2:=h y (by rw [ho];simp [Op.operands]) _ hy
 simp [execOp,ho,e,e2,eqGuard,run_complex_sum w .sub (.inr rfl) t .f64 a b c d re im hn]
theorem gives_cmul {t t':TypeId} {x y:Operand} {a b c d re im:Nat} (ho:o.op= .binOp .mul t x y t') (hx:ev m x= .t (.v (.complex .f64 a b))) (hy:ev m y= .t (.v (.complex .f64 c d))) (hn:cMulBits a b c d=some (re,im)):Gives P o m (.complex .f64 re im):=by
 refine ⟨rfl,fun ρ w h=>?_⟩
 have e:=h x (by rw [ho];simp [Op.operands]) _ hx
 have e2:=h y (by rw [ho];simp [Op.operands]) _ hy
 simp [execOp,ho,e,e2,eqGuard,run_complex_mul w t a b c d re im hn]
theorem gives_neg {t:TypeId} {x:Operand} {b:Nat} (ho:o.op= .unOp .neg t x) (hx:ev m x= .t (.v (.float .f64 b))):Gives P o m (.float .f64 (Op.negFloat .f64 b)):=by
 refine ⟨rfl,fun ρ w h=>?_⟩
 have e:=h x (by rw [ho];simp [Op.operands]) _ hx
 simp [execOp,ho,e,Op.unary]
theorem gives_real {c:Call} {x:Operand} {a b:Nat} (ho:o.op= .call c) (hc:c.callee= .builtin .real) (hcx:c.args= #[x]) (hx:ev m x= .t (.v (.complex .f64 a b))):Gives P o m (.float .f64 a):=by
 refine ⟨rfl,fun ρ w h=>?_⟩
 have e:=h x (by rw [ho];simp [Op.operands,Call.operands,hcx]) _ hx
 simp [execOp,ho,resolve,hc,hcx,e,invoke,builtin,run_real]
theorem gives_imag {c:Call} {x:Operand} {a b:Nat} (ho:o.op= .call c) (hc:c.callee= .builtin .imag) (hcx:c.args= #[x]) (hx:ev m x= .t (.v (.complex .f64 a b))):Gives P o m (.float .f64 b):=by
 refine ⟨rfl,fun ρ w h=>?_⟩
 have e:=h x (by rw [ho];simp [Op.operands,Call.operands,hcx]) _ hx
 simp [execOp,ho,resolve,hc,hcx,e,invoke,builtin,run_imag]
theorem gives_complex {c:Call} {x y:Operand} {a b:Nat} (ho:o.op= .call c) (hc:c.callee= .builtin .complex) (hcx:c.args= #[x,y]) (hx:ev m x= .t (.v (.float .f64 a))) (hy:ev m y= .t (.v (.float .f64 b))):Gives P o m (.complex .f64 a b):=by
 refine ⟨rfl,fun ρ w h=>?_⟩
 have e:=h x (by rw [ho];simp [Op.operands,Call.operands,hcx]) _ hx
 have e2:=h y (by rw [ho];simp [Op.operands,Call.operands,hcx]) _ hy
 simp [execOp,ho,resolve,hc,hcx,e,e2,invoke,builtin,run_complex]
end
end Go.Proofs.YtnoifgjiipgpoaaGreat.R

namespace Go.Proofs.YtnoifgjiipgpoaaGreat.R
open Go.RowKit
section
variable {P:Program} {B:Base} {k:List KI} {R:Post} {s:St}
def behind (c:Code) (l:Nat):Code:=(findLabel c l).getD .skip
theorem K_scopeL {α:Type} {c:Code} (lab:α→Nat) (I:α→Prop) (st:α→St) (μ:α→Nat) (hf:∀x,I x→(findLabel c (lab x)).isSome=true)
  (first:Kp P B (.code c :: .lab (fun l' s'=>∃y,I y∧lab y=l'∧Imp B s' (st y)) :: k) R .normal s)
  (pass:∀x,I x→Kp P B (.code (behind c (lab x)) :: .lab (fun l' s'=>∃y,I y∧lab y=l'∧Imp B s' (st y)∧μ y<μ x) :: k) R .normal (st x)):Kp P B (.code (.scope c) :: k) R .normal s:=by
 intro ac w hr
 refine cwp_scope_many (fun (x:{a // I a}) a w=>Rel B (st x.1) a w) (fun x=>lab x.1) (fun x=>μ x.1) (behind c) (fun x=>?_) (cwp_mono (first ac w hr) fun e a' w' hp=>?_) fun x a w hx=>cwp_mono (pass x.1 x.2 a w hx) fun e a' w' hp=>?_
 ·obtain ⟨z,hz⟩:=Option.isSome_iff_exists.1 (hf x.1 x.2)
  rw [behind,hz];rfl
 ·obtain ⟨s',h1,h2⟩:=hp
  cases e with
  |goto l'=>obtain ⟨y,h3,h0,h4⟩:=h1;exact ⟨⟨y,h3⟩,h0,h4 _ _ h2⟩
  |_=>exact ⟨s',h1,h2⟩
 ·obtain ⟨s',h1,h2⟩:=hp
  cases e with
  |goto l'=>obtain ⟨y,h3,h0,h4,h5⟩:=h1;exact ⟨⟨y,h3⟩,h0,h4 _ _ h2,h5⟩
  |_=>exact ⟨s',h1,h2⟩
def tailC (c:Code) (l:Nat):Code:=match findLabel c l with
 |some (.seq .skip n)=>n
 |_=>.skip
theorem K_scopeF {α:Type} {c:Code} (lab:α→Nat) (I:α→Prop) (st:α→St) (μ:α→Nat) (hf:∀x,I x→findLabel c (lab x)=some (.seq .skip (tailC c (lab x))))
  (pass:∀x,I x→(∀l' s',(∃y,I y∧lab y=l'∧Imp B s' (st y)∧μ y<μ x)→Kp P B (.code (.seq (.label l') (tailC c l')) :: .lab (fun l' s'=>∃y,I y∧lab y=l'∧Imp B s' (st y)∧μ y<μ x) :: k) R .normal s')→
   Kp P B (.code (tailC c (lab x)) :: .lab (fun l' s'=>∃y,I y∧lab y=l'∧Imp B s' (st y)∧μ y<μ x) :: k) R .normal (st x))
  (first:∀J:Nat→St→Prop,(∀l' s',(∃y,I y∧lab y=l'∧Imp B s' (st y))→Kp P B (.code (.seq (.label l') (tailC c l')) :: .lab J :: k) R .normal s')→Kp P B (.code c :: .lab J :: k) R .normal s):Kp P B (.code (.scope c) :: k) R .normal s:=by
 have key:∀n x,μ x=n→I x→Kp P B (.code (tailC c (lab x)) :: .lab (fun l' s'=>∃y,I y∧lab y=l'∧Imp B s' (st y)∧μ y<μ x) :: k) R .normal (st x):=by
  intro n
  induction n using Nat.strongRecOn with
  |_ n ih=>
   intro x hn hx
   refine pass x hx ?_
   rintro l' s' ⟨y,hy,hl,hi,hm⟩
   subst hl
   refine K_seq (K_label (K_less hi (K_lab_mono ?_ (ih (μ y) (by omega) y rfl hy))))
   rintro l2 s2 ⟨z,a,b,c,d⟩
   exact ⟨z,a,b,c,by omega⟩
 refine K_scopeL lab I st μ (fun x hx=>by rw [hf x hx];rfl) (first _ ?_) fun x hx=>?_
 ·rintro l' s' ⟨y,hy,hl,hi⟩
  subst hl
  refine K_seq (K_label (K_less hi (K_lab_mono ?_ (key _ y rfl hy))))
  rintro l2 s2 ⟨z,a,b,c,d⟩
  exact ⟨z,a,b,c⟩
 ·have:=hf x hx
  rw [behind,this]
  exact K_seq (K_skip (key _ x rfl hx))
theorem K_after {c:Code} (h:Kp P B [.code c] (fun e s=>∃t,Imp B s t∧R e t) .normal s):Kp P B [.code c] R .normal s:=by
 intro a w hr
 refine cwp_mono (h a w hr) fun e a' w' hp=>?_
 obtain ⟨s',⟨t,h1,h2⟩,h3⟩:=hp
 exact ⟨t,h2,h1 _ _ h3⟩
end
end Go.Proofs.YtnoifgjiipgpoaaGreat.R

namespace Go.Proofs.YtnoifgjiipgpoaaGreat.R
open Go.RowKit
section
variable {P:Program} {B:Base} {k:List KI} {R:Post} {s:St} {all:Array Oper} {o:Oper} {rest:List Oper}
theorem K_arrp {t e:TypeId} {n:Nat} {i:TI} {x:Operand} {es:List (List T)} (hg:o.guard=none) (hd:dOk B.n o.dst=true) (ho:o.op= .sliceToArrayPointer t x) (ht:TT P t=some i) (hi:i.desc= .array n e) (hx:ev s.m x= .t (.sl es)) (hn:n≤es.length) (h0:0<es.length)
  (hk:Kp P B (.ops all rest :: k) R .normal ⟨put s.m o.dst (.rd es.flatten),s.σ,s.nx⟩):Kp P B (.ops all (o :: rest) :: k) R .normal s:=by
 intro a w hr
 refine wpL_plain hg fun K hK=>?_
 obtain ⟨C,h1,h2,h3,h4,h5,h6⟩:=hr
 have hrep:=ev_rep h2 x
 rw [hx] at hrep
 have hrt:RepT w C.imm (.sl es) (a.eval x):=by
  generalize a.eval x=v at hrep
  cases hrep with
  |t h=>exact h
 obtain ⟨ad,cap,sz,u,hv,hsz,himm,hcell,hel⟩:∃(ad:Addr) (cap sz:Nat) (u:Nat→Value),a.eval x= .slice (some ad) es.length cap∧(∀e∈es,e.length=sz)∧C.imm ad.block∧(∀k,k<es.length*sz→w.cell? (ad.add k)=some (u k))∧
   (∀(j k:Nat) (e:List T) (c:T),es[j]? =some e→e[k]? =some c→RepT w C.imm c (u (j*sz+k))):=by
  generalize a.eval x=v at hrt
  cases hrt with
  |nil=>simp at h0
  |@sl _ ad cap sz u _ hsz _ himm hcell hel=>exact ⟨ad,cap,sz,u,rfl,hsz,himm,hcell,hel⟩
 have hund:P.underlying t=some (.array n e):=by rw [(tt_some ht).1,hi]
 have hrun:(execOp a.eval o).run P w= .ok (.value (.pointer (some ad))) w:=by
  have:¬es.length<n:=by omega
  simp [execOp,ho,Instr.arrayAt,hv,run_underlying hund,this]
 have hfl:es.flatten.length=es.length*sz:=by
  rw [List.length_flatten]
  have:es.map List.length=List.replicate es.length sz:=by
   refine List.eq_replicate_iff.2 ⟨by simp,fun y hy=>?_⟩
   obtain ⟨z,hz,rfl⟩:=List.mem_map.1 hy
   exact hsz z hz
  rw [this,List.sum_replicate_nat]
 refine owp_value hrun ?_
 refine hK _ _ (hk _ _ ⟨C,h1,put_rep h5 (Step.refl _ _ _) h2 (by rw [h3];exact hd) (.rd (u:=u) himm (fun m hm=>hcell m (by omega)) (fun m c hc=>?_)),by rw [put_size];exact h3,by rw [put_def];exact h4,h5,h6⟩)
 have hm:m<es.length*sz:=by rw [←hfl];exact (List.getElem?_eq_some_iff.1 hc).1
 obtain ⟨y,f1,f2,f3,f4⟩:=flat_ix hsz hm
 rw [f2] at hc
 have:=hel _ _ y c f1 hc
 rw [←f4] at this
 exact this
end
end Go.Proofs.YtnoifgjiipgpoaaGreat.R

namespace Go.Proofs.YtnoifgjiipgpoaaGreat.R
def atImp:List KI→Bool
 | .code _ :: _=>true
 | .ops _ _ :: _=>true
 | .blk _ :: k=>atImp k
 | .scp :: k=>atImp k
 | .lab _ :: k=>atImp k
 |_=>false
section
variable {P:Program} {B:Base} {s t:St} {R:Post}
theorem K_impK {k:List KI} (h:Imp B s t) (ha:atImp k=true) (hk:Kp P B k R .normal t):Kp P B k R .normal s:=by
 induction k with
 |nil=>simp [atImp] at ha
 |cons x k ih=>
  cases x with
  |code c=>exact fun a w hr=>hk a w (h _ _ hr)
  |ops all rest=>exact fun a w hr=>hk a w (h _ _ hr)
  |blk _=>exact ih ha hk
  |scp=>exact ih ha hk
  |lab _=>exact ih ha hk
  |_=>simp [atImp] at ha
end
end Go.Proofs.YtnoifgjiipgpoaaGreat.R

set_option maxRecDepth 100000
namespace Go.Proofs.YtnoifgjiipgpoaaGreat.R
open Go.ChangeShapes Go.WideShapes Go.ChangeAt Go.RowKit
theorem post_below {H:Type} {enc:TypeId×Value→H} {Q:Program} {f:Func} {s:ChangeSpec} {apart fresh handsOn again:Bool} {W W':World} {args:Array Value} {v:Value} {ds gs:List (DataW H)} {before pa pv:List MemPlace}
  (hW:DataW.Whole enc Q f.params.toList s.vars apart W args.toList ds gs before) (hb:Below W.heap.size W W')
  (hres:∀(b:Nat) (sp:Nat→Bool) (hd:Bool),DataW.TrodAll enc Q W' b sp hd f.resultTypes.toList (v.resultList f.resultTypes.size) (s.fn H (ds++gs)).results [])
  (hargs:∀sp:Nat→Bool,(∀p∈before,sp p.block=true)→DataW.TrodAll enc Q W' 0 sp true f.params.toList args.toList (s.fn H (ds++gs)).args pa)
  (hvars:∀sp:Nat→Bool,(∀p∈before,sp p.block=true)→DataW.TrodVars enc Q W' sp s.vars (s.fn H (ds++gs)).vars pv)
  (hps:before=pa++pv)
  (hok:∀(j:Nat) (t:TypeId) (r:Value),f.resultTypes[j]? =some t→(v.resultList f.resultTypes.size)[j]? =some r→Value.okWide Q W' .any 0 t r):s.post enc Q f apart fresh handsOn again W args v W':=by
 have hlt:∀p∈before,p.block<W.heap.size:=fun p hp=>hW.lt p hp
 have hold:∀p∈before,(fun b=>decide (b<W.heap.size)) p.block=true:=fun p hp=>by simpa using hlt p hp
 refine ⟨ds,gs,before,[],pa,pv,hW,hres _ _ _,hargs _ hold,hvars _ hold,World.keptBut_mono (fun p hp=>⟨hp,?_⟩) (hb.frame (·∈before)),fun _=>?_⟩
 ·rw [hps,List.mem_append] at hp
  exact Or.inr hp
 ·obtain ⟨_,_,_,_,_,hz,hn⟩:=hW
  refine ⟨hok,_,_,([]++pa)++pv,⟨[]++pa,pv,trodAll_append (hargs _ (fun _ _=>rfl)) (hres _ _ _),hvars _ (fun _ _=>rfl),rfl,?_,?_⟩,?_⟩
  ·intro b off hp
   have hp':MemPlace.cell b off∈before:=by rw [hps];simpa using hp
   rw [hb.frozen (p:=⟨b,off,none⟩) (hlt _ hp')]
   exact hz b off hp'
  ·intro ha
   have:=hn ha
   rw [hps] at this
   simpa using this
  ·intro p hp _
   rw [hps]
   simpa using hp
theorem map_of {α:Type} {g:α→List T} {Q:α→Prop} {es:List (List T)} (h:∀x∈es,∃a,x=g a∧Q a):∃l:List α,es=l.map g∧∀a∈l,Q a:=by
 induction es with
 |nil=>exact ⟨[],rfl,fun a h=>by cases h⟩
 |cons x es ih=>
  obtain ⟨a,rfl,ha⟩:=h x List.mem_cons_self
  obtain ⟨l,rfl,hl⟩:=ih fun y hy=>h y (List.mem_cons_of_mem _ hy)
  exact ⟨a :: l,rfl,fun b hb=>by
   rcases List.mem_cons.1 hb with rfl | hb
   ·exact ha
   ·exact hl b hb⟩
theorem int_wf {n:Int} (h:(Lit.int .i64 n).wf=true): -9223372036854775808≤n∧n<9223372036854775808:=by
 simp [Lit.wf,IntKind.min,IntKind.max,IntKind.wrap,IntKind.bits,IntKind.signed] at h
 omega
section
variable {P:Program} {f:Nat} {t:TypeId} {ts:List T}
theorem has_int (hu:P.underlying t=some (.int .i64)) (h:HasT P f t ts):∃n,ts=[.i n]∧-9223372036854775808≤n∧n<9223372036854775808:=by
 cases f with
 |zero=>exact h.elim
 |succ f=>
  simp only [HasT,hu] at h
  obtain ⟨n,rfl,hw⟩:=h
  exact ⟨n,rfl,int_wf hw⟩
theorem has_slice {e:TypeId} {α:Type} {g:α→List T} {Q:α→Prop} (hu:P.underlying t=some (.slice e)) (he:∀f x,HasT P f e x→∃a,x=g a∧Q a) (h:HasT P f t ts):∃l:List α,ts=[.sl (l.map g)]∧l.length≤maxLen∧∀a∈l,Q a:=by
 cases f with
 |zero=>exact h.elim
 |succ f=>
  simp only [HasT,hu] at h
  obtain ⟨es,rfl,hn,h⟩:=h
  obtain ⟨l,rfl,hl⟩:=map_of (g:=g) (Q:=Q) fun x hx=>he f x (h x hx).2
  exact ⟨l,rfl,by simpa using hn,hl⟩
theorem has_struct {fs:Array Field} (hu:P.underlying t=some (.struct fs)) (h:HasT P f t ts):∃f',HasF P (fun t ts=>HasT P f' t ts) fs.toList ts:=by
 cases f with
 |zero=>exact h.elim
 |succ f=>
  simp only [HasT,hu] at h
  exact ⟨f,h⟩
variable {H:Type} {enc:TypeId×Value→H} {W:World} {base:Nat} {sp:Nat→Bool} {held:Bool} {v:Value} {d:DataW H} {ps:List MemPlace}
abbrev C0 (W:World):Ctx:=⟨old W,fun _=>none,fun _=>undef,0⟩
theorem sim0 (W:World):Sim (C0 W) noObj W:=⟨fun _ _=>rfl,fun _=>True.intro,fun _ _ _ hi=>absurd rfl hi,fun _ _ hi=>absurd rfl hi,fun b hb=>hb⟩
theorem arg_struct {fs:Array Field} (hu:P.underlying t=some (.struct fs)) (hp:plainT P 10 t=true) (h:DataW.Trod enc P W 0 sp held t v d ps) (hv:Value.okWide P W .any base t v):∃f ts,HasT P f t ts∧RepA W (C0 W) (.agg (ts.map .t)) v:=by
 unfold Value.okWide at hv
 rw [hu] at hv
 obtain ⟨cs,rfl,_⟩:=hv
 obtain ⟨fuel,ht⟩:=h
 obtain ⟨ts,g1,g2,g3⟩:=trod_rep fuel 10 t _ _ _ ht hp
 refine ⟨fuel,ts,g1,.agg (by simpa [Value.cells] using g2) fun k a u ha hu=>?_⟩
 rw [List.getElem?_map] at ha
 obtain ⟨b,hb,rfl⟩:=Option.map_eq_some_iff.1 ha
 exact .t (g3 k b u hb (by simpa [Value.cells] using hu))
theorem arg_int {k:IntKind} (hu:P.underlying t=some (.int k)) (hp:plainT P 10 t=true) (h:DataW.Trod enc P W 0 sp held t v d ps) (hv:Value.okWide P W .any base t v):∃f ts,HasT P f t ts∧∀x,ts=[x]→RepA W (C0 W) (.t x) v:=by
 obtain ⟨n,rfl⟩:=okWide_int hu hv
 obtain ⟨fuel,ht⟩:=h
 obtain ⟨ts,g1,g2,g3⟩:=trod_rep fuel 10 t _ _ _ ht hp
 exact ⟨fuel,ts,g1,fun x hx=>by subst hx;exact .t (g3 0 _ _ rfl rfl)⟩
theorem repL1 {a:AV} {u:Value} (h:RepA W (C0 W) a u):RepL W (C0 W) [a] [u]:=⟨rfl,fun k x y hx hy=>by
 cases k with
 |zero=>simp at hx hy;subst hx;subst hy;exact h
 |succ k=>simp at hx⟩
theorem repL2 {a b:AV} {u u2:Value} (h:RepA W (C0 W) a u) (h2:RepA W (C0 W) b u2):RepL W (C0 W) [a,b] [u,u2]:=(repL1 h).app (repL1 h2)
end
end Go.Proofs.YtnoifgjiipgpoaaGreat.R

set_option maxRecDepth 10000
namespace Go.Proofs.YtnoifgjiipgpoaaGreat.R
open Go.RowKit
section
variable {P:Program} {C:Ctx} {σ:Nat→AObj} {w:World}
theorem sim_junk (hs:Sim C σ w) (o:Obj):Sim C σ (w.alloc o)∧Step C σ w C σ (w.alloc o):=by
 have hold:∀b,b<w.heap.size→(w.alloc o).heap[b]? =w.heap[b]?:=fun b hb=>push_old w o hb
 have hsz:(w.alloc o).heap.size=w.heap.size+1:=World.size_alloc w o
 have hk:Keeps w C.imm (w.alloc o) C.imm:=⟨fun _ h=>h,fun b hb=>hold b (hs.imm_lt b hb)⟩
 have hc:CtxLe C C:=⟨Nat.le_refl _,fun _ _=>rfl,fun _ _=>rfl⟩
 refine ⟨⟨hs.dead,fun i=>?_,hs.inj,hs.sep,fun b hb=>by have:=hs.imm_lt b hb;omega⟩,⟨hc,rfl,rfl,rfl,by omega,fun _ h=>h,fun b hb _=>hold b hb,fun _ h=>.inl h,fun _ h=>.inl h⟩⟩
 by_cases hi:σ i= .dead
 ·rw [hi];exact True.intro
 ·exact (hs.obj i).step hk hc (live_lt hs hi) fun b ho=>hold b (own_lt hs hi ho)
theorem putObj_set {l:Nat} {r:Loop} (hs:Sim C σ w) {q:Nat} {st st':LoopState} {n:Nat} {m:Nat→AV} {ps:Array Tmp} {avs bd:Code} (hq:σ q= .loop st n m ps avs bd) (ho:C.own q=some l) (hl:w.heap[l]? =some (.loop r)):
  Sim C (oput σ q (.loop st' n m ps avs bd)) (w.putObj l (.loop {r with state:=st',pending:=none}))∧Step C σ w C (oput σ q (.loop st' n m ps avs bd)) (w.putObj l (.loop {r with state:=st',pending:=none})):=by
 have hob:=hs.obj q
 rw [hq] at hob
 obtain ⟨bl,r',e0,e1,e2,e3,e4,e5,e6,e7,e8⟩:=hob
 rw [ho] at e0
 cases e0
 rw [hl] at e1
 cases e1
 have hlt:l<w.heap.size:=(Array.getElem?_eq_some_iff.1 hl).1
 have hd:σ q≠ .dead:=by rw [hq];exact (fun h=>by cases h)
 have hk:Keeps w C.imm (w.putObj l (.loop {r with state:=st',pending:=none})) C.imm:=⟨fun _ h=>h,fun b hb=>World.putObj_heap_other fun e=>hs.sep q l hd ho (e ▸ hb)⟩
 exact sim_set (w':=w.putObj l (.loop {r with state:=st',pending:=none})) (obj:=.loop st' n m ps avs bd) hs hd ho rfl rfl rfl World.putObj_size (fun b hb=>World.putObj_heap_other hb)
  ⟨l,_,ho,World.putObj_heap_same hlt,rfl,rfl,e4,e5,e6,e7,fun t ht=>(e8 t ht).keeps hk ⟨Nat.le_refl _,fun _ _=>rfl,fun _ _=>rfl⟩⟩
theorem putObj_kill {l:Nat} (o:Obj) (hs:Sim C σ w) {q:Nat} (hd:σ q≠ .dead) (ho:C.own q=some l):Sim C (oput σ q .dead) (w.putObj l o)∧Step C σ w C (oput σ q .dead) (w.putObj l o):=
 sim_set (w':=w.putObj l o) (obj:=.dead) hs hd ho rfl rfl rfl World.putObj_size (fun b hb=>World.putObj_heap_other hb) True.intro
def YieldQ (P:Program) (q:Nat) (args:List AV) (σ:Nat→AObj) (nx:Nat) (S:(Nat→AObj)→Nat→Prop):Prop:=
 ∀(C:Ctx) (w:World) (vs:List Value) (l:Nat),Sim C σ w→C.nx=nx→RepL w C args vs→C.own q=some l→
  ∃f tmps avs bd,(Instr.yield l vs.toArray).run P w= .ok (.round l f tmps avs bd) w∧∀ro,RoundIn (FR ro) 0 P l f tmps avs bd w fun e w'=>∃σ' nx' C',S σ' nx'∧e= .returned (.bool true)∧Sim C' σ' w'∧C'.nx=nx'∧Step C σ w C' σ' w'
def putL (m:Slots):List (Nat×AV)→Slots
 |[]=>m
 |p :: l=>putL (put m (some p.1) p.2) l
theorem putL_rep {w:World} {C:Ctx} {n:Nat}:∀(ps:List Nat) (args:List AV) (vs:List Value) (m:Slots) (tmps:Array Value),RepL w C args vs→tmps.size=n→(∀p∈ps,p<n)→(∀t,RepA w C (m t) (tmps.getD t undef))→
  ((ps.zip vs).foldl (fun ts (p:Nat×Value)=>ts.setIfInBounds p.1 p.2) tmps).size=n∧∀t,RepA w C (putL m (ps.zip args) t) (((ps.zip vs).foldl (fun ts (p:Nat×Value)=>ts.setIfInBounds p.1 p.2) tmps).getD t undef)
 |[],args,vs,m,tmps,_,hn,_,h=>by exact ⟨by simpa using hn,by simpa [putL] using h⟩
 |p :: ps,[],vs,m,tmps,hl,hn,_,h=>by
  have:vs=[]:=List.eq_nil_of_length_eq_zero (by have:=hl.1;simpa using this.symm)
  subst this
  exact ⟨by simpa using hn,by simpa [putL] using h⟩
 |p :: ps,a :: args,[],m,tmps,hl,hn,_,h=>by have:=hl.1;simp at this
 |p :: ps,a :: args,v :: vs,m,tmps,hl,hn,hp,h=>by
  have hpn:p<tmps.size:=by rw [hn];exact hp p List.mem_cons_self
  have h0:=hl.2 0 a v rfl rfl
  refine putL_rep ps args vs (put m (some p) a) (tmps.setIfInBounds p v) ⟨by have:=hl.1;simpa using this,fun k x u hx hu=>hl.2 (k+1) x u (by simpa using hx) (by simpa using hu)⟩ (by simpa using hn) (fun x hx=>hp x (List.mem_cons_of_mem _ hx)) fun t=>?_
  by_cases e:t=p
  ·subst e
   simp only [put,if_true,Array.getD_eq_getD_getElem?,Array.getElem?_setIfInBounds_self_of_lt hpn,Option.getD_some]
   exact h0
  ·simp only [put,if_neg e,Array.getD_eq_getD_getElem?,Array.getElem?_setIfInBounds_ne (show p≠t from fun h=>e h.symm)]
   have:=h t
   rwa [Array.getD_eq_getD_getElem?] at this
def roundM (n:Nat) (m:Slots) (ps:Array Tmp) (args:List AV):Slots:=putL (fun t=>if t<n then m t else .any) (ps.toList.zip args)
theorem yield_of {q:Nat} {args:List AV} {nx:Nat} {n:Nat} {m:Nat→AV} {ps:Array Tmp} {avs bd:Code} {S:(Nat→AObj)→Nat→Prop} (hq:σ q= .loop .ready n m ps avs bd) (hn:args.length=ps.size) (hp:ps.toList.all (·<n)=true)
  (h:∀B:Base,B.n=n→B.C.nx=nx→B.σ=σ→Kp P B [.code avs] (fun e s1=>e= .normal∧s1.σ q= .loop .ready n m ps avs bd∧
   Kp P B [.code bd] (fun e s2=>e= .normal∧s2.σ q= .loop .busy n m ps avs bd∧S (oput s2.σ q (.loop .ready n m ps avs bd)) s2.nx) .normal ⟨s1.m,oput s1.σ q (.loop .busy n m ps avs bd),s1.nx⟩) .normal ⟨roundM n m ps args,σ,nx⟩):
  YieldQ P q args σ nx S:=by
 intro C w vs l hs hnx hl ho
 have hob:=hs.obj q
 rw [hq] at hob
 obtain ⟨bl,r,e0,e1,e2,e3,e4,e5,e6,e7,e8⟩:=hob
 rw [ho] at e0
 cases e0
 have hsz:vs.toArray.size=r.params.size:=by rw [e5,←hn];simpa using hl.1.symm
 refine ⟨r.fn,_,r.assign,r.body,run_yield e1 hsz,fun ro=>?_⟩
 have hfold:(r.params.zip vs.toArray).foldl (fun tmps (x:Tmp×Value)=>tmps.setIfInBounds x.1 x.2) r.tmps=(ps.toList.zip vs).foldl (fun ts (p:Nat×Value)=>ts.setIfInBounds p.1 p.2) r.tmps:=by
  rw [e5,←Array.foldl_toList]
  simp
 rw [hfold,e6,e7]
 have hrep:=putL_rep (n:=n) ps.toList args vs (fun t=>if t<n then m t else .any) r.tmps hl e4 (fun p hpp=>by simpa using List.all_eq_true.1 hp p hpp) (fun t=>by
  by_cases ht:t<n
  ·simp only [if_pos ht];exact e8 t ht
  ·simp only [if_neg ht];exact .any)
 have hrel:Rel ⟨C,σ,w,n,some l⟩ ⟨roundM n m ps args,σ,nx⟩ {tmps:=(ps.toList.zip vs).foldl (fun ts (p:Nat×Value)=>ts.setIfInBounds p.1 p.2) r.tmps,defers:=[]} w:=
  ⟨C,hnx,hrep.2,hrep.1,Marks.nil,hs,Step.refl _ _ _⟩
 have hrun:=h ⟨C,σ,w,n,some l⟩ rfl hnx rfl _ _ hrel
 refine roundIn_of_wpIn (F:=FR ro) trivial (cwp_mono (ro:=some l) hrun fun e a1 w1 hp1=>?_)
 obtain ⟨s1,⟨he,hσ1,hk2⟩,C1,f1,f2,f3,f4,f5,f6⟩:=hp1
 subst he
 have hd1:s1.σ q≠ .dead:=by rw [hσ1];exact (fun h=>by cases h)
 have hqlt:q<C.nx:=live_lt hs (by rw [hq];exact (fun h=>by cases h))
 have hown1:C1.own q=some l:=(f6.le.own q hqlt).trans ho
 have hob1:=f5.obj q
 rw [hσ1] at hob1
 obtain ⟨bl1,r1,d0,d1,d2,d3,d4,d5,d6,d7,d8⟩:=hob1
 rw [hown1] at d0
 cases d0
 have hpend:{r1 with state:=LoopState.busy}={r1 with state:=.busy,pending:=none}:=by cases r1;simp only at d3;subst d3;rfl
 refine ⟨_,run_beginRound d1 d2,?_⟩
 rw [hpend]
 obtain ⟨p1,p2⟩:=putObj_set (st':=.busy) f5 hσ1 hown1 d1
 have hrel2:Rel ⟨C,σ,w,n,some l⟩ ⟨s1.m,oput s1.σ q (.loop .busy n m ps avs bd),s1.nx⟩ a1 (w1.putObj l (.loop {r1 with state:=.busy,pending:=none})):=
  ⟨C1,f1,fun t=>(f2 t).step f5 p2,f3,f4.step p2,p1,f6.trans p2⟩
 refine cwp_mono (ro:=some l) (hk2 _ _ hrel2) fun e a2 w2 hp2=>?_
 obtain ⟨s2,⟨he,hσ2,hS⟩,C2,g1,g2,g3,g4,g5,g6⟩:=hp2
 subst he
 have hown2:C2.own q=some l:=(g6.le.own q hqlt).trans ho
 have hob2:=g5.obj q
 rw [hσ2] at hob2
 obtain ⟨bl2,r2,c0,c1,c2,c3,_⟩:=hob2
 rw [hown2] at c0
 cases c0
 obtain ⟨u1,u2⟩:=putObj_set (st':=.ready) g5 hσ2 hown2 c1
 exact ⟨_,_,run_endRound none c1,_,_,C2,hS,rfl,u1,g1,g6.trans u2⟩
variable {B:Base} {k:List KI} {R:Post} {s:St}
theorem yield_exec {o:Oper} {c:Call} {fo:Operand} {a:Act} {l:Nat} {f:FuncId} {tmps:Array Value} {avs bd:Code} (ho:o.op= .call c) (hc:c.callee= .value fo) (hv:a.eval fo= .func (.yield l) #[] #[])
  (hy:(Instr.yield l (c.args.map a.eval).toList.toArray).run P w= .ok (.round l f tmps avs bd) w):(execOp a.eval o).run P w= .ok (.round l f tmps avs bd) w:=by
 rw [Array.toArray_toList] at hy
 simp only [execOp,ho,resolve,hc,Sem.run_bind,Deferred.ofValue,hv,Sem.run_pure,Result.andThen_ok,invoke,Array.empty_append]
 exact hy
theorem rep_yld {C:Ctx} {v:Value} {q:Nat} (h:RepA w C (.yld q) v):∃l,v= .func (.yield l) #[] #[]∧C.own q=some l:=by
 cases h with
 |yld h ho=>exact ⟨_,rfl,ho⟩
theorem K_yield {all:Array Oper} {o:Oper} {rest:List Oper} {c:Call} {fo:Operand} {q:Nat} {args:List AV} (hg:o.guard=none) (ho:o.op= .call c) (hc:c.callee= .value fo) (hf:ev s.m fo= .yld q) (ha:c.args.toList.map (ev s.m)=args)
  (hd:dOk B.n o.dst=true) {S:(Nat→AObj)→Nat→Prop} (spec:YieldQ P q args s.σ s.nx S) (h:∀σ' nx',S σ' nx'→Kp P B (.ops all rest :: k) R .normal ⟨put s.m o.dst (.b true),σ',nx'⟩):Kp P B (.ops all (o :: rest) :: k) R .normal s:=by
 intro a w hr
 refine wpL_plain hg fun K hK=>?_
 obtain ⟨C,h1,h2,h3,h4,h5,h6⟩:=hr
 have hρ:=ev_rep h2
 obtain ⟨hl,hlr⟩:=map_rep hρ c.args
 have hfo:=hρ fo
 rw [hf] at hfo
 obtain ⟨l,hv,hown⟩:=rep_yld hfo
 rw [ha] at hl hlr
 obtain ⟨f,tmps,avs,bd,hy,hround⟩:=spec C w (c.args.map a.eval).toList l h5 h1 ⟨by simpa using hl,fun k x u hx hu=>hlr k x u hx (by simpa using hu)⟩ hown
 refine owp_round (yield_exec ho hc hv hy) (RoundIn.mono (hround B.ro) ?_)
 rintro e w' ⟨σ',nx',C',hS,rfl,g1,g2,g3⟩
 exact ⟨_,rfl,hK _ _ (h σ' nx' hS _ _ ⟨C',g2,put_rep h5 g3 h2 (by rw [h3];exact hd) (.t (.v rfl)),by rw [put_size];exact h3,by rw [put_def];exact h4.step g3,g1,h6.trans g3⟩)⟩
theorem does_yield {all:Array Oper} {i:Nat} {o:Oper} {m:Slots} {c:Call} {fo:Operand} {q:Nat} {args:List AV} {σ σ':Nat→AObj} {nx nx':Nat} {n:Nat} (ho':all[i]? =some o) (hl:lets all m o=some true) (ho:o.op= .call c) (hc:c.callee= .value fo)
  (hf:ev m fo= .yld q) (ha:c.args.toList.map (ev m)=args) (spec:YieldQ P q args σ nx fun a b=>a=σ'∧b=nx'):Does P n all i m σ nx (.b true) σ' nx':=by
 intro C a w hn hs hsz hr ro K Q hK
 have hops:∀x∈o.op.operands.toList,ev (mask (looksOf all i) m) x=ev m x:=mask_ev ho'
 have hmem:∀x,x=fo∨x∈c.args.toList→x∈o.op.operands.toList:=by
  intro x hx
  rw [ho]
  simp only [Op.operands,Call.operands,hc]
  rcases hx with rfl | hx
  ·simp
  ·simp;exact .inr (by simpa using hx)
 have e1:=hops fo (hmem _ (.inl rfl))
 have e2:c.args.toList.map (ev (mask (looksOf all i) m))=c.args.toList.map (ev m):=List.map_congr_left fun x hx=>hops x (hmem x (.inr hx))
 rw [←e1] at hf
 rw [←e2] at ha
 have hρ:=ev_rep hr
 obtain ⟨hl',hlr⟩:=map_rep hρ c.args
 have hfo:=hρ fo
 rw [hf] at hfo
 obtain ⟨l,hv,hown⟩:=rep_yld hfo
 rw [ha] at hl' hlr
 obtain ⟨f,tmps,avs,bd,hy,hround⟩:=spec C w (c.args.map a.eval).toList l hs hn ⟨by simpa using hl',fun k x u hx hu=>hlr k x u hx (by simpa using hu)⟩ hown
 have hd:dstOf all i=o.dst:=by simp [dstOf,ho']
 simp only [wpO,wpOpIn,ho',lets_wanted ho' hr hl,if_true]
 refine owp_round (yield_exec ho hc hv hy) (RoundIn.mono (hround ro) ?_)
 rw [hd] at hK
 rintro e w' ⟨_,_,C',⟨rfl,rfl⟩,rfl,g1,g2,g3⟩
 exact ⟨_,rfl,hK _ _ C' g1 g2 g3 (.t (.v rfl))⟩
theorem K_dYield {all:Array Oper} {lo:List Nat} {sw:SW} {i:Nat} {o:Oper} {rest:List (Nat×Oper)} {pend:List Rc} {c:Call} {fo:Operand} {q:Nat} {args:List AV} {σ':Nat→AObj} {nx':Nat} (hl:lets all s.m o=some true) (ho:o.op= .call c) (hc:c.callee= .value fo)
  (hf:ev s.m fo= .yld q) (ha:c.args.toList.map (ev s.m)=args) (spec:YieldQ P q args s.σ s.nx fun a b=>a=σ'∧b=nx') (hi:i∈lo) (hp:∀q∈pend,anc all q.i i=true∨Does P B.n all q.i q.m σ' nx' q.v σ' nx')
  (h:Kp P B (.opsD all lo sw rest pend :: k) R .normal ⟨put s.m o.dst (.b true),σ',nx'⟩):Kp P B (.opsD all lo sw ((i,o) :: rest) pend :: k) R .normal s:=
 Chain.at fun ho'=>Chain.step (loud:=some (σ',nx')) (does_yield ho' hl ho hc hf ha spec) (fun hc=>by cases hc) (fun c hc=>by cases hc;exact ⟨hi,hp⟩) (fun _ h=>h) h
theorem K_rangeFunc {g:Operand} {ps:Array Tmp} {avs bd:Code} (hro:B.ro=none) {f:FuncId} {args:List AV} (hf:callee (ev s.m g) [.yld s.nx]=some (f,args)) {S:AV→(Nat→AObj)→Nat→Prop}
  (spec:CallQ P f args (oput s.σ s.nx (.loop .ready B.n s.m ps avs bd)) (s.nx+1) S) (hS:∀r σ' nx',S r σ' nx'→σ' s.nx= .loop .ready B.n s.m ps avs bd)
  (h:∀r σ' nx',S r σ' nx'→Kp P B k R .normal ⟨s.m,oput σ' s.nx .dead,nx'⟩):Kp P B (.code (.rangeFunc g ps avs bd) :: k) R .normal s:=by
 intro a w hr
 obtain ⟨C,h1,h2,h3,h4,h5,h6⟩:=hr
 refine wpIn_rangeFunc (F:=FR B.ro) fun fn _=>?_
 have henter:=run_enterLoop_outer (P:=P) (w:=w) fn a.tmps ps avs bd
 rw [←hro] at henter
 obtain ⟨hg,spec⟩:=spec
 obtain ⟨lo,hlo⟩:∃lo:Loop,lo={state:=.ready,pending:=none,fn,tmps:=a.tmps,params:=ps,assign:=avs,body:=bd,defers:=w.heap.size}:=⟨_,rfl⟩
 rw [←hlo] at henter
 obtain ⟨j1,j2⟩:=sim_junk h5 (.deferred (some []))
 obtain ⟨w1,hw1⟩:∃w1,w1=w.alloc (.deferred (some [])):=⟨_,rfl⟩
 rw [←hw1] at j1 j2 henter
 have hw1s:w1.heap.size=w.heap.size+1:=by rw [hw1];exact World.size_alloc w _
 obtain ⟨C',hC⟩:∃C':Ctx,C'=⟨C.imm,fun i=>if i=C.nx then some w1.heap.size else C.own i,fun i=>if i=C.nx then undef else C.hdr i,C.nx+1⟩:=⟨_,rfl⟩
 have hk0:Keeps w1 C.imm (w1.alloc (.loop lo)) C'.imm:=⟨fun b h=>by rw [hC];exact h,fun b h=>push_old w1 _ (j1.imm_lt b h)⟩
 have hc0:CtxLe C C':=by
  subst hC
  exact ⟨by simp,fun i hi=>if_neg (by omega),fun i hi=>if_neg (by omega)⟩
 obtain ⟨n1,n2⟩:=sim_new j1 (.loop lo) (.loop .ready B.n s.m ps avs bd) undef C' hC ⟨w1.heap.size,lo,by rw [hC];simp,push_new w1 _,by rw [hlo],by rw [hlo],by rw [hlo];exact h3,by rw [hlo],by rw [hlo],by rw [hlo],fun t _=>by
  have:=((h2 t).step h5 j2).keeps hk0 hc0
  have e:lo.tmps=a.tmps:=by rw [hlo]
  rw [e];exact this⟩
 rw [h1] at n1 n2
 have hown:C'.own s.nx=some (w.heap.size+1):=by rw [hC,←h1,←hw1s];simp
 have hnx':C'.nx=s.nx+1:=by rw [hC,h1]
 have hst:=j2.trans n2
 have hyr:RepA (w1.alloc (.loop lo)) C' (.yld s.nx) (.func (.yield (w.heap.size+1)) #[] #[]):=.yld (by omega) hown
 have hgr:=(ev_rep h2 g).step h5 hst
 obtain ⟨first,caps,hv,hrl⟩:=callee_rep hf hgr (vs:=#[.func (.yield (w.heap.size+1)) #[] #[]]) rfl (fun k x u hx hu=>by
  cases k with
  |zero=>simp at hx hu;subst hx;subst hu;exact hyr
  |succ k=>simp at hx)
 have hcall:=spec C' _ _ n1 hnx' hrl
 have hres:(resolve a.eval (rangeCall g (w.heap.size+1)) 0).run P (w1.alloc (.loop lo))= .ok {target:=.fn (.func f) caps,args:=first++ #[.func (.yield (w.heap.size+1)) #[] #[]]} (w1.alloc (.loop lo)):=by
  have e:Array.map a.eval #[Operand.const (Value.func (Fn.yield (w.heap.size+1)) #[] #[])]= #[Value.func (Fn.yield (w.heap.size+1)) #[] #[]]:=by simp [Act.eval]
  simp only [resolve,rangeCall,Deferred.ofValue,hv,Sem.run_pure,e]
 have hinv:(invoke (.fn (.func f) caps) (first++ #[.func (.yield (w.heap.size+1)) #[] #[]])).run P (w1.alloc (.loop lo))= .ok (.enter f (first++ #[.func (.yield (w.heap.size+1)) #[] #[]]++caps)) (w1.alloc (.loop lo)):=by
  unfold goodFn at hg
  cases hfn:P.funcs[f]? with
  |none=>rw [hfn] at hg;cases hg
  |some fn=>
   rw [hfn] at hg
   simp only [Bool.and_eq_true,Bool.not_eq_true'] at hg
   simp only [invoke,callFunc,Sem.run_bind,run_program,hfn,Result.andThen_ok]
   have e1:fn.body.isNone=false:=by rw [←Option.not_isSome,hg.2];rfl
   simp [hg.1,e1]
 refine ⟨w.heap.size+1,_,_,_,_,f,_,_,henter,hres,fun _ _=>trivial,hinv,FR_depth,callsIn_FR.2 ?_⟩
 rw [Array.toArray_toList] at hcall
 refine hcall.mono ?_
 rintro e w3 ⟨r,σ',nx',C3,v,g0,rfl,g1,g2,g3,g4⟩
 have hσ:=hS _ _ _ g0
 have hob:=g1.obj s.nx
 rw [hσ] at hob
 obtain ⟨bl,r3,c0,c1,c2,c3,_⟩:=hob
 have hown3:C3.own s.nx=some (w.heap.size+1):=(g4.le.own s.nx (by omega)).trans hown
 rw [hown3] at c0
 cases c0
 have hd3:σ' s.nx≠ .dead:=by rw [hσ];exact (fun h=>by cases h)
 obtain ⟨k1,k2⟩:=putObj_kill (.loop {r3 with state:=.exhausted}) g1 hd3 hown3
 have hel:(Instr.endLoop (w.heap.size+1)).run P w3= .ok none (w3.putObj (w.heap.size+1) (.loop {r3 with state:=.exhausted})):=by
  rw [run_endLoop (P:=P) c1 (by rw [c2];decide),c3]
 refine ⟨none,_,hel,?_⟩
 have hfull:=(hst.trans g4).trans k2
 have hmut:∀{b},Mut C s.σ b→b<w.heap.size:=fun {b} ⟨i,hi,ho⟩=>own_lt h5 hi ho
 refine ⟨_,h r σ' nx' g0,C3,g2,fun t=>(h2 t).step h5 hfull,h3,?_,k1,h6.trans hfull⟩
 have hm1:MarkOf B.w.heap.size C s.σ w1 {target:=.collected w.heap.size,args:=#[]}:=
  ⟨w.heap.size,rfl,h6.size,by rw [hw1];exact push_new w _,fun hi=>by have:=h5.imm_lt _ hi;omega,fun hm=>by have:=hmut hm;omega⟩
 have hms:Marks B.w.heap.size C s.σ w1 ({target:=.collected w.heap.size,args:=#[]} :: a.defers):=by
  have h4':=h4.step j2
  refine ⟨fun d hd=>?_,List.pairwise_cons.2 ⟨fun d hd=>?_,h4.nodup⟩⟩
  ·rcases List.mem_cons.1 hd with e | e
   ·rw [e];exact hm1
   ·exact h4'.all d e
  ·obtain ⟨r',e1,_,e3,_⟩:=h4.all d hd
   have hlt:r'<w.heap.size:=(Array.getElem?_eq_some_iff.1 e3).1
   rw [e1]
   intro e
   cases e
   omega
 exact hms.step ((n2.trans g4).trans k2)
theorem K_range {g:Operand} {ps:Array Tmp} {avs bd:Code} (hro:B.ro=none) {f:FuncId} {args:List AV} (hf:callee (ev s.m g) [.yld s.nx]=some (f,args))
  (h:∀L,L= .loop .ready B.n s.m ps avs bd→∃S:AV→(Nat→AObj)→Nat→Prop,CallQ P f args (oput s.σ s.nx L) (s.nx+1) S∧∀r σ' nx',S r σ' nx'→σ' s.nx=L∧Kp P B k R .normal ⟨s.m,oput σ' s.nx .dead,nx'⟩):
  Kp P B (.code (.rangeFunc g ps avs bd) :: k) R .normal s:=by
 obtain ⟨S,h1,h2⟩:=h _ rfl
 exact K_rangeFunc hro hf h1 (fun r σ' nx' hs=>(h2 r σ' nx' hs).1) fun r σ' nx' hs=>(h2 r σ' nx' hs).2
end
@[go_sem] theorem run_range {P:Program} {n:Nat} {G:List KI→St→Prop} {f:Nat} {k:List KI} {s:St} {g:Operand} {ps:Array Tmp} {avs bd:Code}:run P n G (f+1) (.code (.rangeFunc g ps avs bd) :: k) s=G (.code (.rangeFunc g ps avs bd) :: k) s:=by rw [run];all_goals simp
theorem pure_ofR {P:Program} {f:FuncId} {fn:Func} {c:Code} (hf:P.funcs[f]? =some fn) (hb:fn.body=some c) (hname:(fn.name== "runtime.NumGoroutine")=false) {args:List AV} {r:AV} (hn:args.length≤fn.ntmps) (ha:args.all (bnd 0)=true) (hr:bnd 0 r=true)
  (h:∀B:Base,B.n=fn.ntmps→B.C.nx=0→B.ro=none→Kp P B [.code c] (fun e s=>(e= .ret∨e= .normal)∧∃rs,resL P s fn.results.toList=some rs∧frz s.σ (resV rs)=r) .normal ⟨slots0 args,noObj,0⟩):Pure P f args r:=by
 refine ⟨fun a h=>List.all_eq_true.1 ha a h,hr,spec_of_KR hf hb hname hn fun B h1 h2 _ h0=>?_⟩
 refine fun a w hrel=>cwp_mono (h B h1 h2 h0 a w hrel) fun e a' w' hp=>?_
 obtain ⟨s',⟨he,rs,h3,h4⟩,h5⟩:=hp
 refine ⟨s',?_,h5⟩
 rcases he with rfl | rfl
 ·exact ⟨rs,h3,Ends.pure h4.symm hr⟩
 ·exact ⟨rs,h3,Ends.pure h4.symm hr⟩
end Go.Proofs.YtnoifgjiipgpoaaGreat.R

set_option maxRecDepth 10000
namespace Go.Proofs.YtnoifgjiipgpoaaGreat.R
open Go.RowKit
def plainL:List AV→Option (List Value)
 |[]=>some []
 | .t (.v x) :: r=>if plainV x=true then (plainL r).map (x :: ·) else none
 |_ :: _=>none
def plainA:AV→Option Value
 | .t (.v x)=>if plainV x=true then some x else none
 | .agg cs=>(plainL cs).map fun l=>.agg l.toArray
 |_=>none
theorem plainL_len:∀{cs:List AV} {l:List Value},plainL cs=some l→l.length=cs.length
 |[],l,h=>by simp [plainL] at h;subst h;rfl
 | .t (.v x) :: r,l,h=>by
  simp only [plainL] at h
  split at h
  ·obtain ⟨l',h1,rfl⟩:=Option.map_eq_some_iff.1 h
   simp [plainL_len h1]
  ·cases h
 | .t (.sl _) :: _,_,h=>by simp [plainL] at h
 | .agg _ :: _,_,h=>by simp [plainL] at h
 | .tup _ :: _,_,h=>by simp [plainL] at h
 | .fsl _ :: _,_,h=>by simp [plainL] at h
 | .ref _ :: _,_,h=>by simp [plainL] at h
 | .ptr _ _ :: _,_,h=>by simp [plainL] at h
 | .rd _ :: _,_,h=>by simp [plainL] at h
 | .el _ _ :: _,_,h=>by simp [plainL] at h
 | .cut _ _ _ _ :: _,_,h=>by simp [plainL] at h
 | .ifc _ _ :: _,_,h=>by simp [plainL] at h
 | .mapr _ :: _,_,h=>by simp [plainL] at h
 | .yld _ :: _,_,h=>by simp [plainL] at h
 | .fn _ _ _ :: _,_,h=>by simp [plainL] at h
 | .any :: _,_,h=>by simp [plainL] at h
theorem plainL_get:∀{cs:List AV} {l:List Value},plainL cs=some l→∀(k:Nat) (a:AV),cs[k]? =some a→∃x,a= .t (.v x)∧plainV x=true∧l[k]? =some x
 |[],l,_,k,a,hk=>by simp at hk
 |c :: r,l,h,k,a,hk=>by
  cases c with
  |t y=>
   cases y with
   |v x=>
    simp only [plainL] at h
    split at h
    ·rename_i hp
     obtain ⟨l',h1,rfl⟩:=Option.map_eq_some_iff.1 h
     cases k with
     |zero=>simp at hk;subst hk;exact ⟨x,rfl,hp,rfl⟩
     |succ k=>exact plainL_get h1 k a (by simpa using hk)
    ·cases h
   |sl _=>simp [plainL] at h
  |_=>simp [plainL] at h
section
variable {P:Program} {w:World} {C:Ctx}
theorem rep_plain {a:AV} {u v:Value} (h:plainA a=some u) (hr:RepA w C a v):v=u:=by
 cases a with
 |t y=>
  cases y with
  |v x=>
   simp only [plainA] at h
   split at h
   ·cases h;exact (rep_v hr).1
   ·cases h
  |sl _=>simp [plainA] at h
 |agg cs=>
  simp only [plainA] at h
  obtain ⟨l,h1,rfl⟩:=Option.map_eq_some_iff.1 h
  obtain ⟨vs,rfl,hl,hrr⟩:=rep_agg hr
  have hlen:=plainL_len h1
  congr 1
  apply Array.ext'
  refine List.ext_getElem? fun k=>?_
  by_cases hk:k<cs.length
  ·obtain ⟨x,e1,_,e3⟩:=plainL_get h1 k _ (List.getElem?_eq_getElem hk)
   have hv:vs[k]? =some vs[k]:=Array.getElem?_eq_getElem (by omega)
   have:=hrr k _ _ (List.getElem?_eq_getElem hk) hv
   rw [e1] at this
   rw [e3,Array.getElem?_toList,hv,(rep_v this).1]
  ·rw [List.getElem?_eq_none (by simp;omega),List.getElem?_eq_none (by simp;omega)]
 |_=>simp [plainA] at h
theorem plain_rep {a:AV} {u:Value} (h:plainA a=some u):RepA w C a u:=by
 cases a with
 |t y=>
  cases y with
  |v x=>
   simp only [plainA] at h
   split at h
   ·rename_i hp;cases h;exact .t (.v hp)
   ·cases h
  |sl _=>simp [plainA] at h
 |agg cs=>
  simp only [plainA] at h
  obtain ⟨l,h1,rfl⟩:=Option.map_eq_some_iff.1 h
  have hlen:=plainL_len h1
  refine .agg (by simpa using hlen.symm) fun k a u ha hu=>?_
  obtain ⟨x,rfl,hp,e3⟩:=plainL_get h1 k a ha
  have:u=x:=by
   have h9:(l.toArray)[k]? =l[k]?:=by simp
   rw [h9,e3] at hu
   exact (Option.some.inj hu).symm
  subst this
  exact .t (.v hp)
 |_=>simp [plainA] at h
def ckA (P:Program):Nat→TypeId→AV→Bool
 |0,_,_=>false
 |d+1,t,a=>match TT P t with
  |some ⟨.int _,_,_,_⟩=>match a with | .t (.v (.int _ _))=>true | _=>false
  |some ⟨.bool,_,_,_⟩=>match a with | .t (.v (.bool _))=>true | _=>false
  |some ⟨.struct fs,_,_,_⟩=>match a with
   | .agg cs=>fs.toList.all fun f=>match TT P f.type with
    |some i=>match partA i cs f.offset with
     |some x=>ckA P d f.type x
     |none=>false
    |none=>false
   |_=>false
  |_=>false
theorem ckA_run (em:Bool):∀(d:Nat) (t:TypeId) (a:AV) (v:Value),ckA P d t a=true→RepA w C a v→(Instr.checkKey em d t v).run P w= .ok () w
 |0,_,_,_,h,_=>by simp [ckA] at h
 |d+1,t,a,v,h,hr=>by
  simp only [ckA] at h
  cases ht:TT P t with
  |none=>rw [ht] at h;cases h
  |some i=>
   rw [ht] at h
   have hu:=(tt_some ht).1
   obtain ⟨desc,sz,by_,z⟩:=i
   cases desc<;>simp only [Bool.false_eq_true] at h
   case bool=>
    split at h
    ·obtain ⟨rfl,_⟩:=rep_v hr
     simp [Instr.checkKey,Sem.run_bind,run_underlying hu]
    ·cases h
   case int k=>
    split at h
    ·obtain ⟨rfl,_⟩:=rep_v hr
     simp [Instr.checkKey,Sem.run_bind,run_underlying hu]
    ·cases h
   case struct fs=>
    split at h
    ·rename_i cs
     obtain ⟨vs,rfl,hl,hrr⟩:=rep_agg hr
     rw [Instr.checkKey]
     simp only [Sem.run_bind,run_underlying hu,Result.andThen_ok]
     rw [←Array.forIn_toList]
     have each:=List.all_eq_true.1 h
     clear h
     generalize fs.toList=L at each
     induction L with
     |nil=>simp
     |cons f L ih=>
      have hf:=each f List.mem_cons_self
      split at hf
      ·rename_i i hi
       split at hf
       ·rename_i x hx
        obtain ⟨u,p1,p2⟩:=part_rep (P:=P) hi hl hrr hx
        have p3:=ckA_run em d f.type x u hf p2
        by_cases hn:f.name= "_"
        ·simp only [List.forIn_cons,Sem.run_bind,hn,ne_eq,not_true_eq_false,if_false,Result.andThen_ok,Sem.run_pure]
         exact ih fun y hy=>each y (List.mem_cons_of_mem _ hy)
        ·simp only [List.forIn_cons,Sem.run_bind,hn,ne_eq,not_false_eq_true,if_true,Result.andThen_ok,p1,p3,Sem.run_pure]
         exact ih fun y hy=>each y (List.mem_cons_of_mem _ hy)
       ·cases hf
      ·cases hf
    ·cases h
open Classical in
noncomputable def findM (u:Value):List (Value×AV)→Option (Nat×AV)
 |[]=>none
 |e :: r=>if e.1=u then some (0,e.2) else (findM u r).map fun p=>(p.1+1,p.2)
open Classical in
def TellM (P:Program) (kt:TypeId) (ka:AV) (u:Value) (es:List (Value×AV)):Prop:=∀e∈es,∃kb,plainA kb=some e.1∧eqA P 10000 kt ka kb=some (decide (e.1=u))
open Classical in
theorem ask_run {kt:TypeId} {ka:AV} {u:Value} (hu:plainA ka=some u):∀(es:List (Value×AV)) (ms:List MapEntry) (i:Nat),TellM P kt ka u es→es.length=ms.length→
  (∀(k:Nat) (a:Value×AV) (m:MapEntry),es[k]? =some a→ms[k]? =some m→m.key=a.1∧RepA w C a.2 m.val)→
  (findM u es=none→(Instr.findAsking kt u ms i).run P w= .ok none w)∧(∀j a,findM u es=some (j,a)→∃m,ms[j]? =some m∧m.key=u∧RepA w C a m.val∧(Instr.findAsking kt u ms i).run P w= .ok (some (i+j,m.val)) w)
 |[],[],i,_,_,_=>⟨fun _=>by simp [Instr.findAsking],fun j a h=>by simp [findM] at h⟩
 |[],_ :: _,_,_,h,_=>by simp at h
 |_ :: _,[],_,_,h,_=>by simp at h
 |e :: es,m :: ms,i,ht,hl,hr=>by
  obtain ⟨hk,hv⟩:=hr 0 e m rfl rfl
  obtain ⟨kb,b1,b2⟩:=ht e List.mem_cons_self
  have heq:=eqA_run (w:=w) (C:=C) 10000 kt ka kb _ u e.1 b2 (plain_rep hu) (plain_rep b1)
  have heq:(Op.equal kt u m.key).run P w= .ok (decide (e.1=u)) w:=by rw [hk];exact heq
  obtain ⟨ih1,ih2⟩:=ask_run hu es ms (i+1) (fun x hx=>ht x (List.mem_cons_of_mem _ hx)) (by simpa using hl) (fun k a m' h1 h2=>hr (k+1) a m' (by simpa using h1) (by simpa using h2))
  rw [findM,Instr.findAsking]
  simp only [Sem.run_bind,heq,Result.andThen_ok]
  by_cases hc:e.1=u
  ·simp only [hc,decide_true,if_true]
   refine ⟨fun h=>by simp at h,fun j a h=>?_⟩
   simp only [Option.some.injEq,Prod.mk.injEq] at h
   obtain ⟨rfl,rfl⟩:=h
   exact ⟨m,rfl,by rw [hk,hc],hv,by simp⟩
  ·simp only [hc,decide_false,if_false,Bool.false_eq_true]
   refine ⟨fun h=>ih1 (by simpa using h),fun j a h=>?_⟩
   obtain ⟨⟨j',a'⟩,h1,h2⟩:=Option.map_eq_some_iff.1 h
   simp only [Prod.mk.injEq] at h2
   obtain ⟨rfl,rfl⟩:=h2
   obtain ⟨m',g1,g2,g3,g4⟩:=ih2 j' a' h1
   exact ⟨m',by simpa using g1,g2,g3,by rw [g4,show i+(j'+1)=i+1+j' by omega]⟩
def keyKind (P:Program) (kt:TypeId):Bool:=match P.underlying kt with | some (.struct _) | some (.int _)=>true | _=>false
theorem eqA_int {d:Nat} {kt:TypeId} {q:IntKind} {ka kb:AV} {r:Bool} (hu:P.underlying kt=some (.int q)) (h:eqA P (d+1) kt ka kb=some r):∃k a b,ka= .t (.v (.int k a))∧kb= .t (.v (.int k b))∧r=decide (a=b):=by
 simp only [eqA] at h
 cases ht:TT P kt with
 |none=>rw [ht] at h;cases h
 |some i=>
  obtain ⟨desc,sz,by_,z⟩:=i
  have:=(tt_some ht).1
  rw [hu] at this
  cases this
  rw [ht] at h
  simp only at h
  split at h
  ·split at h
   ·rename_i hk
    subst hk
    cases h
    exact ⟨_,_,_,rfl,rfl,rfl⟩
   ·cases h
  ·cases h
open Classical in
theorem find_run {kt:TypeId} {ka:AV} {u:Value} (hk:keyKind P kt=true) (hc:ckA P 10000 kt ka=true) (hu:plainA ka=some u) (es:List (Value×AV)) (ms:Array MapEntry) (ht:TellM P kt ka u es) (hl:es.length=ms.size)
  (hr:∀(k:Nat) (a:Value×AV) (m:MapEntry),es[k]? =some a→ms[k]? =some m→m.key=a.1∧RepA w C a.2 m.val):
  (findM u es=none→(Instr.findKey kt u ms.toList).run P w= .ok none w)∧(∀j a,findM u es=some (j,a)→∃m,ms[j]? =some m∧m.key=u∧RepA w C a m.val∧(Instr.findKey kt u ms.toList).run P w= .ok (some (j,m.val)) w):=by
 have key:=ask_run (w:=w) (C:=C) hu es ms.toList 0 ht (by simpa using hl) (fun k a m h1 h2=>hr k a m h1 (by simpa using h2))
 simp only [Array.getElem?_toList,Nat.zero_add] at key
 unfold keyKind at hk
 cases hund:P.underlying kt with
 |none=>rw [hund] at hk;cases hk
 |some kd=>
  rw [hund] at hk
  cases kd<;>simp only [Bool.false_eq_true] at hk
  case struct fs=>
   rw [run_findKey_eq w (by rw [hund])]
   exact key
  case int q=>
   have now:∀(es:List (Value×AV)) (ms:List MapEntry) (i:Nat),TellM P kt ka u es→es.length=ms.length→(∀(k:Nat) (a:Value×AV) (m:MapEntry),es[k]? =some a→ms[k]? =some m→m.key=a.1∧RepA w C a.2 m.val)→
     (findM u es=none→Instr.findNow (.int q) u ms i=some none)∧(∀j a,findM u es=some (j,a)→∃m,ms[j]? =some m∧m.key=u∧RepA w C a m.val∧Instr.findNow (.int q) u ms i=some (some (i+j,m.val))):=by
    intro es
    induction es with
    |nil=>
     intro ms i _ hl _
     have:ms=[]:=List.eq_nil_of_length_eq_zero (by simpa using hl.symm)
     subst this
     exact ⟨fun _=>rfl,fun j a h=>by simp [findM] at h⟩
    |cons e es ih=>
     intro ms i ht hl hr
     cases ms with
     |nil=>simp at hl
     |cons m ms=>
      obtain ⟨hk',hv⟩:=hr 0 e m rfl rfl
      obtain ⟨kb,b1,b2⟩:=ht e List.mem_cons_self
      obtain ⟨ih1,ih2⟩:=ih ms (i+1) (fun x hx=>ht x (List.mem_cons_of_mem _ hx)) (by simpa using hl) (fun k a m' h1 h2=>hr (k+1) a m' (by simpa using h1) (by simpa using h2))
      have hs:Instr.sameNow (.int q) u m.key=some (decide (e.1=u)):=by
       rw [hk']
       obtain ⟨k,a,b,rfl,rfl,e9⟩:=eqA_int (d:=9999) hund b2
       simp only [plainA,plainV,if_true,Option.some.injEq] at hu b1
       subst hu
       rw [←b1] at e9 ⊢
       rw [e9]
       simp only [Instr.sameNow,if_true,Option.some.injEq]
       by_cases e8:a=b<;>simp [e8]
      rw [findM,Instr.findNow,hs]
      by_cases hc:e.1=u
      ·simp only [hc,decide_true,if_true]
       refine ⟨fun h=>by simp at h,fun j a h=>?_⟩
       simp only [Option.some.injEq,Prod.mk.injEq] at h
       obtain ⟨rfl,rfl⟩:=h
       exact ⟨m,rfl,by rw [hk',hc],hv,by simp⟩
      ·simp only [hc,decide_false,if_false]
       refine ⟨fun h=>ih1 (by simpa using h),fun j a h=>?_⟩
       obtain ⟨⟨j',a'⟩,h1,h2⟩:=Option.map_eq_some_iff.1 h
       simp only [Prod.mk.injEq] at h2
       obtain ⟨rfl,rfl⟩:=h2
       obtain ⟨m',g1,g2,g3,g4⟩:=ih2 j' a' h1
       exact ⟨m',by simpa using g1,g2,g3,by rw [g4,show i+(j'+1)=i+1+j' by omega]⟩
   obtain ⟨n1,n2⟩:=now es ms.toList 0 ht (by simpa using hl) (fun k a m h1 h2=>hr k a m h1 (by simpa using h2))
   refine ⟨fun h=>MapKept.run_findKey hund (n1 h),fun j a h=>?_⟩
   obtain ⟨m,g1,g2,g3,g4⟩:=n2 j a h
   exact ⟨m,by simpa using g1,g2,g3,by simpa using MapKept.run_findKey hund g4⟩
end
end Go.Proofs.YtnoifgjiipgpoaaGreat.R

set_option maxRecDepth 10000
namespace Go.Proofs.YtnoifgjiipgpoaaGreat.R
open Go.RowKit
section
variable {P:Program} {B:Base} {k:List KI} {R:Post} {s:St} {all:Array Oper} {o:Oper} {rest:List Oper}
theorem obj_map {C:Ctx} {σ:Nat→AObj} {w:World} {m:Nat} {es:List (Value×AV)} {v:Value} (hs:Sim C σ w) (hσ:σ m= .map es) (hr:RepA w C (.mapr m) v):∃bl ms clock,v= .map (some bl)∧C.own m=some bl∧w.heap[bl]? =some (.map ms clock)∧es.length=ms.size∧
  ∀(k:Nat) (a:Value×AV) (u:MapEntry),es[k]? =some a→ms[k]? =some u→u.key=a.1∧RepA w C a.2 u.val:=by
 have hob:=hs.obj m
 rw [hσ] at hob
 obtain ⟨bl,ms,clock,e0,e1,e2,e3⟩:=hob
 cases hr with
 |mapr h ho=>
  rw [e0] at ho
  cases ho
  exact ⟨bl,ms,clock,rfl,e0,e1,e2,e3⟩
noncomputable def lookA (z:AV) (u:Value) (es:List (Value×AV)) (ok:Bool):AV:=
 match findM u es with
 |some (_,a)=>if ok=true then .tup [a,.b true] else a
 |none=>if ok=true then .tup [z,.b false] else z
theorem look_run {C:Ctx} {σ:Nat→AObj} {w:World} {ρ:Operand→AV} {ρv:Operand→Value} {t kt et:TypeId} {x ix:Operand} {ok:Bool} {it ie:TI} {m:Nat} {es:List (Value×AV)} {u:Value} (hs:Sim C σ w) (hρ:∀x,RepA w C (ρ x) (ρv x)) (ho:o.op= .lookup t x ix ok)
  (ht:TT P t=some it) (hd:it.desc= .map kt et) (he:TT P et=some ie) (hk:keyKind P kt=true) (hx:ρ x= .mapr m) (hσ:σ m= .map es) (hu:plainA (ρ ix)=some u) (hc:ckA P 10000 kt (ρ ix)=true) (htell:TellM P kt (ρ ix) u es):
  ∃v,(execOp ρv o).run P w= .ok (.value v) w∧RepA w C (lookA (ofConst ie.zero) u es ok) v:=by
 have hmx:=hρ x
 rw [hx] at hmx
 obtain ⟨bl,ms,clock,e0,e1,e2,e3,e4⟩:=obj_map hs hσ hmx
 have hix:=rep_plain hu (hρ ix)
 have hund:P.underlying t=some (.map kt et):=by rw [(tt_some ht).1,hd]
 have hck:(Instr.checkKey ms.isEmpty 10000 kt u).run P w= .ok () w:=by
  have:=ckA_run (w:=w) (C:=C) ms.isEmpty 10000 kt (ρ ix) (ρv ix) hc (hρ ix)
  rwa [hix] at this
 obtain ⟨f1,f2⟩:=find_run (w:=w) (C:=C) hk hc hu es ms htell e3 e4
 cases hf:findM u es with
 |none=>
  have:=f1 hf
  refine ⟨if ok=true then .tuple #[ie.zero,.bool false] else ie.zero,?_,?_⟩
  ·have hrun:(execOp ρv o).run P w= .ok (.value (if ok=true then .tuple #[ie.zero,.bool false] else ie.zero)) w:=by
    simp only [execOp,ho,Instr.lookup,Sem.run_bind,run_underlying hund,Result.andThen_ok,e0,hix,MapKept.run_getObj_map e2,Sem.run_pure,hck,this,run_zero he]
   exact hrun
  ·rw [lookA,hf]
   cases ok
   ·exact const_rep _
   ·exact .tup rfl fun k a v ha hv=>by
     match k with
     |0=>simp at ha hv;subst ha;subst hv;exact const_rep _
     |1=>simp at ha hv;subst ha;subst hv;exact .t (.v rfl)
     |k+2=>simp at ha
 |some p=>
  obtain ⟨j,a⟩:=p
  obtain ⟨me,g1,g2,g3,g4⟩:=f2 j a hf
  refine ⟨if ok=true then .tuple #[me.val,.bool true] else me.val,?_,?_⟩
  ·have hrun:(execOp ρv o).run P w= .ok (.value (if ok=true then .tuple #[me.val,.bool true] else me.val)) w:=by
    simp only [execOp,ho,Instr.lookup,Sem.run_bind,run_underlying hund,Result.andThen_ok,e0,hix,MapKept.run_getObj_map e2,Sem.run_pure,hck,g4]
   exact hrun
  ·rw [lookA,hf]
   cases ok
   ·exact g3
   ·exact .tup rfl fun k b v hb hv=>by
     match k with
     |0=>simp at hb hv;subst hb;subst hv;exact g3
     |1=>simp at hb hv;subst hb;subst hv;exact .t (.v rfl)
     |k+2=>simp at hb
theorem K_lookup {t kt et:TypeId} {x ix:Operand} {ok:Bool} {it ie:TI} {m:Nat} {es:List (Value×AV)} {u:Value} {r:AV} (hg:o.guard=none) (ho:o.op= .lookup t x ix ok) (hd:dOk B.n o.dst=true)
  (ht:TT P t=some it) (hdesc:it.desc= .map kt et) (he:TT P et=some ie) (hk:keyKind P kt=true) (hx:ev s.m x= .mapr m) (hσ:s.σ m= .map es) (hu:plainA (ev s.m ix)=some u) (hc:ckA P 10000 kt (ev s.m ix)=true) (htell:TellM P kt (ev s.m ix) u es) (hr:lookA (ofConst ie.zero) u es ok=r)
  (h:Kp P B (.ops all rest :: k) R .normal ⟨put s.m o.dst r,s.σ,s.nx⟩):Kp P B (.ops all (o :: rest) :: k) R .normal s:=by
 intro a w hrel
 refine wpL_plain hg fun K hK=>?_
 obtain ⟨C,h1,h2,h3,h4,h5,h6⟩:=hrel
 obtain ⟨v,g1,g2⟩:=look_run h5 (ev_rep h2) ho ht hdesc he hk hx hσ hu hc htell
 rw [hr] at g2
 exact owp_value g1 (hK _ _ (h _ _ ⟨C,h1,put_rep h5 (Step.refl _ _ _) h2 (by rw [h3];exact hd) g2,by rw [put_size];exact h3,by rw [put_def];exact h4,h5,h6⟩))
theorem K_dLookup {lo:List Nat} {sw:SW} {i:Nat} {rest:List (Nat×Oper)} {pend:List Rc} {t kt et:TypeId} {x ix:Operand} {ok:Bool} {it ie:TI} {m:Nat} {es:List (Value×AV)} {u:Value} {r:AV} (hl:lets all s.m o=some true) (ho:o.op= .lookup t x ix ok)
  (ht:TT P t=some it) (hdesc:it.desc= .map kt et) (he:TT P et=some ie) (hk:keyKind P kt=true) (hx:ev s.m x= .mapr m) (hσ:s.σ m= .map es) (hu:plainA (ev s.m ix)=some u) (hc:ckA P 10000 kt (ev s.m ix)=true) (htell:TellM P kt (ev s.m ix) u es) (hr:lookA (ofConst ie.zero) u es ok=r)
  (htied:tied all lo i=true) (h:Kp P B (.opsD all lo sw rest pend :: k) R .normal ⟨put s.m o.dst r,s.σ,s.nx⟩):Kp P B (.opsD all lo sw ((i,o) :: rest) pend :: k) R .normal s:=
 Chain.at fun ho'=>Chain.step (loud:=none) (v:=r) (by
  intro C a w hn hs hsz hrep ro K Q hK
  have hops:=mask_ev (m:=s.m) ho'
  have hd:dstOf all i=o.dst:=by simp [dstOf,ho']
  simp only [wpO,wpOpIn,ho',lets_wanted ho' hrep hl,if_true]
  have ex:=hops x (by simp [ho,Op.operands])
  have eix:=hops ix (by simp [ho,Op.operands])
  obtain ⟨v,g1,g2⟩:=look_run hs (ev_rep hrep) ho ht hdesc he hk (by rw [ex];exact hx) hσ (by rw [eix];exact hu) (by rw [eix];exact hc) (by rw [eix];exact htell)
  rw [hd] at hK
  rw [hr] at g2
  exact owp_value g1 (hK _ _ C hs hn (Step.refl _ _ _) g2)) (fun _=>.inr (by
  simp only [tied,List.all_eq_true,Bool.and_eq_true,Bool.or_eq_true,Bool.not_eq_true',decide_eq_false_iff_not] at htied
  exact ⟨fun k hk h=>((htied k hk).1).resolve_left (fun e=>e h),.inl fun k hk h=>((htied k hk).2).resolve_left (fun e=>e h)⟩)) (fun c hc=>by cases hc) (fun _ h=>h) h
noncomputable def setM (u:Value) (a:AV) (es:List (Value×AV)):List (Value×AV):=
 match findM u es with
 |some (j,_)=>es.set j (u,a)
 |none=>es++[(u,a)]
theorem run_stays {w:World} {v:Value} (h:Instr.sameBits 10000 v v=true):(Instr.keyThatStays v v).run P w= .ok v w:=by
 simp only [Instr.keyThatStays,h,if_true,Sem.run_pure]
theorem K_mapSet {t kt et:TypeId} {x ix y:Operand} {it:TI} {m:Nat} {es:List (Value×AV)} {u:Value} (hg:o.guard=none) (ho:o.op= .mapUpdate t x ix y) (hd:dOk B.n o.dst=true)
  (ht:TT P t=some it) (hdesc:it.desc= .map kt et) (hk:keyKind P kt=true) (hx:ev s.m x= .mapr m) (hσ:s.σ m= .map es) (hu:plainA (ev s.m ix)=some u) (hc:ckA P 10000 kt (ev s.m ix)=true) (htell:TellM P kt (ev s.m ix) u es) (hsame:findM u es=none∨Instr.sameBits 10000 u u=true)
  (h:Kp P B (.ops all rest :: k) R .normal ⟨put s.m o.dst (.tup []),oput s.σ m (.map (setM u (ev s.m y) es)),s.nx⟩):Kp P B (.ops all (o :: rest) :: k) R .normal s:=by
 intro a w hrel
 refine wpL_plain hg fun K hK=>?_
 obtain ⟨C,h1,h2,h3,h4,h5,h6⟩:=hrel
 have hρ:=ev_rep h2
 have hmx:=hρ x
 rw [hx] at hmx
 obtain ⟨bl,ms,clock,e0,ow,e2,e3,e4⟩:=obj_map h5 hσ hmx
 have hix:=rep_plain hu (hρ ix)
 have hy:=hρ y
 have hund:P.underlying t=some (.map kt et):=by rw [(tt_some ht).1,hdesc]
 have hck:(Instr.checkKey false 10000 kt u).run P w= .ok () w:=by
  have:=ckA_run (w:=w) (C:=C) false 10000 kt (ev s.m ix) (a.eval ix) hc (hρ ix)
  rwa [hix] at this
 obtain ⟨f1,f2⟩:=find_run (w:=w) (C:=C) hk hc hu es ms htell e3 e4
 have hlt:bl<w.heap.size:=(Array.getElem?_eq_some_iff.1 e2).1
 have hdead:s.σ m≠ .dead:=by rw [hσ];exact (fun h=>by cases h)
 have fin:∀(ms':Array MapEntry) (clock':Nat),(execOp a.eval o).run P w= .ok .skip {w with heap:=w.heap.setIfInBounds bl (.map ms' clock')}→
   ((setM u (ev s.m y) es).length=ms'.size∧∀(k:Nat) (b:Value×AV) (v:MapEntry),(setM u (ev s.m y) es)[k]? =some b→ms'[k]? =some v→v.key=b.1∧RepA w C b.2 v.val)→owp B.ro P o a w K (post B (Kp P B k R)):=by
  intro ms' clock' hrun ⟨l1,l2⟩
  have hne:∀b,b≠bl→(w.heap.setIfInBounds bl (.map ms' clock'))[b]? =w.heap[b]?:=fun b hb=>by simp [Array.getElem?_setIfInBounds_ne (Ne.symm hb)]
  have hk0:Keeps w C.imm {w with heap:=w.heap.setIfInBounds bl (.map ms' clock')} C.imm:=⟨fun _ h=>h,fun b hb=>hne b fun e=>h5.sep m bl hdead ow (e ▸ hb)⟩
  obtain ⟨g1,g2⟩:=sim_set (w':={w with heap:=w.heap.setIfInBounds bl (.map ms' clock')}) (obj:=.map (setM u (ev s.m y) es)) h5 hdead ow rfl rfl rfl (by simp) hne ⟨bl,ms',clock',ow,by simp [hlt],l1,fun k b v hb hv=>by
   obtain ⟨p1,p2⟩:=l2 k b v hb hv
   exact ⟨p1,p2.keeps hk0 ⟨Nat.le_refl _,fun _ _=>rfl,fun _ _=>rfl⟩⟩⟩
  exact owp_skip hrun (hK _ _ (h _ _ ⟨C,h1,put_rep h5 g2 h2 (by rw [h3];exact hd) (.tup rfl (fun k a u h=>by simp at h)),by rw [put_size];exact h3,by rw [put_def];exact h4.step g2,g1,h6.trans g2⟩))
 cases hf:findM u es with
 |none=>
  refine fin (ms.push {key:=u,val:=a.eval y,born:=clock}) (clock+1) ?_ ?_
  ·simp only [execOp,ho,Instr.mapUpdate,Sem.run_bind,run_underlying hund,Result.andThen_ok,e0,hix,MapKept.run_getObj_map e2,Sem.run_pure,hck,f1 hf,MapKept.run_setObj_map _ e2]
  ·rw [setM,hf]
   refine ⟨by simp [e3],fun k b v hb hv=>?_⟩
   simp only at hb
   by_cases hk':k<es.length
   ·rw [List.getElem?_append_left hk'] at hb
    rw [Array.getElem?_push_lt (by omega)] at hv
    exact e4 k b v hb (by rw [Array.getElem?_eq_getElem (by omega)];exact hv)
   ·rw [List.getElem?_append_right (by omega)] at hb
    have hk0:k-es.length=0:=by
     have:=(List.getElem?_eq_some_iff.1 hb).1
     simp at this;omega
    have hke:k=ms.size:=by omega
    subst hke
    rw [hk0] at hb
    simp at hb hv
    subst hb;subst hv
    exact ⟨rfl,hy⟩
 |some p=>
  obtain ⟨j,b0⟩:=p
  obtain ⟨me,g1,g2,g3,g4⟩:=f2 j b0 hf
  have hst:=run_stays (P:=P) (w:=w) (hsame.resolve_left (by rw [hf];simp))
  have hjlt:j<ms.size:=(Array.getElem?_eq_some_iff.1 g1).1
  refine fin (ms.modify j fun e=>{e with key:=u,val:=a.eval y}) clock ?_ ?_
  ·simp only [execOp,ho,Instr.mapUpdate,Sem.run_bind,run_underlying hund,Result.andThen_ok,e0,hix,MapKept.run_getObj_map e2,Sem.run_pure,hck,g4,g1,Option.map_some,Option.getD_some,g2,hst,MapKept.run_setObj_map _ e2]
  ·rw [setM,hf]
   refine ⟨by simp [e3],fun k b v hb hv=>?_⟩
   simp only at hb
   by_cases hkj:k=j
   ·subst hkj
    rw [List.getElem?_set_self (by omega)] at hb
    cases hb
    rw [Array.getElem?_modify,if_pos rfl,g1] at hv
    cases hv
    exact ⟨rfl,hy⟩
   ·rw [List.getElem?_set_ne (fun e=>hkj e.symm)] at hb
    rw [Array.getElem?_modify,if_neg (fun e=>hkj e.symm)] at hv
    exact e4 k b v hb hv
end
end Go.Proofs.YtnoifgjiipgpoaaGreat.R

set_option maxRecDepth 10000
namespace Go.Proofs.YtnoifgjiipgpoaaGreat.R
open Go.RowKit
section
variable {P:Program} {B:Base} {k:List KI} {R:Post} {s:St} {all:Array Oper} {o:Oper} {rest:List Oper}
theorem rep_slN {w:World} {C:Ctx} {es:List (List T)} {v:Value} (h:RepA w C (.t (.sl es)) v):∃a l c,v= .slice a l c∧(es≠[]→a.isNone=false):=by
 cases h with
 |t h=>
  cases h with
  |nil=>exact ⟨_,_,_,rfl,fun h=>absurd rfl h⟩
  |sl h0=>exact ⟨_,_,_,rfl,fun _=>rfl⟩
theorem nil_run {w:World} {ρv:Operand→Value} {t t' e:TypeId} {x:Operand} {a:Option Addr} {l c:Nat} (ho:o.op= .binOp .eql t x (.const (.slice none 0 0)) t') (hu:P.underlying t=some (.slice e)) (hx:ρv x= .slice a l c) (hc:ρv (.const (.slice none 0 0))= .slice none 0 0):
  (execOp ρv o).run P w= .ok (.value (.bool a.isNone)) w:=by
 have he:=run_equal_slice_nil (P:=P) w t e a l c hu
 simp only [execOp,ho,hx,hc,Sem.run_bind,eqGuard,binOp]
 simp [he]
theorem K_nilEq {t t':TypeId} {x:Operand} {it:TI} {e:TypeId} {es:List (List T)} (hg:o.guard=none) (ho:o.op= .binOp .eql t x (.const (.slice none 0 0)) t') (hd:dOk B.n o.dst=true) (ht:TT P t=some it) (hdesc:it.desc= .slice e) (hx:ev s.m x= .t (.sl es))
  (h:∀b:Bool,(es≠[]→b=false)→Kp P B (.ops all rest :: k) R .normal ⟨put s.m o.dst (.b b),s.σ,s.nx⟩):Kp P B (.ops all (o :: rest) :: k) R .normal s:=by
 intro a w hrel
 refine wpL_plain hg fun K hK=>?_
 obtain ⟨C,h1,h2,h3,h4,h5,h6⟩:=hrel
 have hrx:=ev_rep h2 x
 rw [hx] at hrx
 obtain ⟨ad,l,c,hv,hn⟩:=rep_slN hrx
 have hund:P.underlying t=some (.slice e):=by rw [(tt_some ht).1,hdesc]
 exact owp_value (nil_run ho hund hv rfl) (hK _ _ (h ad.isNone hn _ _ ⟨C,h1,put_rep h5 (Step.refl _ _ _) h2 (by rw [h3];exact hd) (.t (.v rfl)),by rw [put_size];exact h3,by rw [put_def];exact h4,h5,h6⟩))
end
theorem K_drawnG {P:Program} {B:Base} {k:List KI} {R:Post} {s:St} {all:Array Oper} {id:Nat} (lo fl ld:List Nat) (hm:P.follows .mixedOrders=true) (hst:statOK all B.n lo=true) (ht:((List.range all.size).all (fun i=>tied all lo i== !fl.contains i)&&ld.all (fun i=>flo all lo i))=true)
  (h:(∀i,i<all.size→tied all lo i= !fl.contains i)→(∀i,i∈ld→flo all lo i=true)→Kp P B (.opsD all lo none (num 0 all.toList) [] :: k) R .normal s):Kp P B (.code (.region id all true) :: k) R .normal s:=by
 rw [Bool.and_eq_true] at ht
 exact K_drawn lo hm hst (h (fun i hi=>eq_of_beq (List.all_eq_true.1 ht.1 i (List.mem_range.2 hi))) (fun i hi=>List.all_eq_true.1 ht.2 i hi))
end Go.Proofs.YtnoifgjiipgpoaaGreat.R

namespace Go.Proofs.YtnoifgjiipgpoaaGreat.R
open Go.RowKit
section
variable {P:Program} {B:Base} {k:List KI} {R:Post} {s:St}
theorem K_cut {α:Type} (I:α→Prop) (st:α→St) {c:Code} (h1:Kp P B [.code c] (fun e s'=>e= .normal∧∃y,I y∧Imp B s' (st y)) .normal s) (h2:∀y,I y→Kp P B k R .normal (st y)):Kp P B (.code c :: k) R .normal s:=by
 intro a w hr
 refine cwp_mono (h1 a w hr) fun e a' w' hp=>?_
 obtain ⟨s',⟨rfl,y,hy,hi⟩,h3⟩:=hp
 exact ⟨st y,h2 y hy,hi _ _ h3⟩
theorem Imp.looseB {b:Nat} {cs:List AV} (hb:s.σ b= .box cs):Imp B s ⟨s.m,oput s.σ b (.box (cs.map loosen)),s.nx⟩:=by
 intro a w hr
 obtain ⟨C,h1,h2,h3,h4,h5,h6⟩:=hr
 have hd:∀j,oput s.σ b (.box (cs.map loosen)) j≠ .dead↔s.σ j≠ .dead:=fun j=>by
  by_cases e:j=b
  ·subst e;simp [oput,hb]
  ·simp [oput,e]
 have hob:=h5.obj b
 rw [hb] at hob
 obtain ⟨bl,vs,E,e1,e2,e3,e4⟩:=hob
 refine ⟨C,h1,h2,h3,h4.less (fun _ h=>.inl h) (fun x ⟨i,hi,hx⟩=>.inr ⟨i,(hd i).1 hi,hx⟩),⟨fun i hi=>?_,fun i=>?_,fun i j x hi hj=>h5.inj i j x ((hd i).1 hi) ((hd j).1 hj),fun i x hi=>h5.sep i x ((hd i).1 hi),h5.imm_lt⟩,
  ⟨h6.le,h6.os,h6.tape,h6.output,h6.size,h6.imm,h6.same,fun x ⟨i,hi,hx⟩=>h6.wr x ⟨i,(hd i).1 hi,hx⟩,h6.imm'⟩⟩
 ·exact Classical.byContradiction fun h=>(hd i).1 h (h5.dead i hi)
 ·by_cases e:i=b
  ·subst e
   show RepO w C i (oput s.σ i (.box (cs.map loosen)) i)
   simp only [oput,if_true]
   refine ⟨bl,vs,E,e1,e2,by simpa using e3,fun k x u hx hu=>?_⟩
   rw [List.getElem?_map] at hx
   obtain ⟨y,hy,rfl⟩:=Option.map_eq_some_iff.1 hx
   exact loosen_rep (e4 k y u hy hu)
  ·show RepO w C i (oput s.σ b (.box (cs.map loosen)) i)
   simp only [oput,if_neg e]
   exact h5.obj i
end
end Go.Proofs.YtnoifgjiipgpoaaGreat.R
