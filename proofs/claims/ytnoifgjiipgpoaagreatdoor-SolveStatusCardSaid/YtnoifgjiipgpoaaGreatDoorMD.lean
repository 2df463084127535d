/- Parts of the proof: R20, R21, R22, R23, R24, R25, R26, R27, R28, R29, R31, R32, R33, R34, R35, R36, R37, R38, R39, R40, R41, CT, Num, Root, Set. -/
import Derived.Test.YtnoifgjiipgpoaaGreatDoorMC
import Derived.WalkKit
import Derived.ProofKit
import Derived.OpenShut
import Derived.Carry
import Derived.RangeFuncIn
import Derived.Laws.Cover3
import Derived.ChangeKeysEq
import Derived.Test.YtnoifgjiipgpoaaGreatDoorProg
import Derived.KernelRfl
set_option linter.all false
set_option maxHeartbeats 4000000
namespace Go.Proofs.YtnoifgjiipgpoaaGreatDoor.R
open Go.RowKit
def Gives (P:Program) (o:Oper) (m:Slots) (u:Value):Prop:=
 plainV u=true∧∀(ρ:Operand→Value) (w:World),(∀x∈o.op.operands.toList,∀v,ev m x= .t (.v v)→ρ x=v)→(execOp ρ o).run P w= .ok (.value u) w
section
variable {P:Program} {B:Base} {k:List KI} {R:Post} {s:St} {all:Array Oper} {o:Oper} {rest:List Oper} {u:Value}
theorem K_val (hg:o.guard=none) (hd:dOk B.n o.dst=true) (h:Gives P o s.m u) (hk:Kp P B (.ops all rest :: k) R .normal ⟨put s.m o.dst (.t (.v u)),s.σ,s.nx⟩):Kp P B (.ops all (o :: rest) :: k) R .normal s:=by
 intro a w hr
 refine wpL_plain hg fun K hK=>?_
 obtain ⟨C,h1,h2,h3,h4,h5,h6⟩:=hr
 have hrun:=h.2 a.eval w fun x _ v hx=>by
  have:=ev_rep h2 x
  rw [hx] at this
  exact (rep_v this).1
 refine owp_value hrun ?_
 exact hK _ _ (hk _ _ ⟨C,h1,put_rep h5 (Step.refl _ _ _) h2 (by rw [h3];exact hd) (.t (.v h.1)),by rw [put_size];exact h3,by rw [put_def];exact h4,h5,h6⟩)
theorem does_val {n i:Nat} {m:Slots} (ho:all[i]? =some o) (hl:lets all m o=some true) (h:Gives P o m u) (σ:Nat→AObj) (nx:Nat):Does P n all i m σ nx (.t (.v u)) σ nx:=by
 intro C a w hn hs hsz hr ro K Q hK
 have hrun:=h.2 a.eval w fun x hx v hv=>by
  have:=ev_rep hr x
  rw [mask_ev ho x hx,hv] at this
  exact (rep_v this).1
 have hd:dstOf all i=o.dst:=by simp [dstOf,ho]
 simp only [wpO,wpOpIn,ho,lets_wanted ho hr hl,if_true]
 refine owp_value hrun ?_
 rw [hd] at hK
 exact hK _ _ C hs hn (Step.refl _ _ _) (.t (.v h.1))
theorem K_dVal {lo:List Nat} {sw:SW} {rest:List (Nat×Oper)} {i:Nat} {pend:List Rc} (hl:lets all s.m o=some true) (h:Gives P o s.m u) (hk:Kp P B (.opsD all lo sw rest pend :: k) R .normal ⟨put s.m o.dst (.t (.v u)),s.σ,s.nx⟩):Kp P B (.opsD all lo sw ((i,o) :: rest) pend :: k) R .normal s:=
 Chain.at fun ho=>Chain.step (loud:=none) (does_val ho hl h _ _) (fun _=>.inl (does_val ho hl h)) (fun c hc=>by cases hc) (fun _ h=>h) hk
end
theorem K_drawnT {P:Program} {B:Base} {k:List KI} {R:Post} {s:St} {all:Array Oper} {id:Nat} (lo:List Nat) (hm:P.follows .mixedOrders=true) (hst:statOK all B.n lo=true) (ht:(List.range all.size).all (tied all lo)=true)
  (h:(∀i,i<all.size→tied all lo i=true)→Kp P B (.opsD all lo none (num 0 all.toList) [] :: k) R .normal s):Kp P B (.code (.region id all true) :: k) R .normal s:=
 K_drawn lo hm hst (h fun i hi=>List.all_eq_true.1 ht i (List.mem_range.2 hi))
theorem K_drawnF {P:Program} {B:Base} {k:List KI} {R:Post} {s:St} {all:Array Oper} {id:Nat} (lo fl:List Nat) (hm:P.follows .mixedOrders=true) (hst:statOK all B.n lo=true) (ht:((List.range all.size).all (fun i=>tied all lo i== !fl.contains i)&&fl.all (fun i=>lo.contains i||flo all lo i))=true)
  (h:(∀i,i<all.size→tied all lo i= !fl.contains i)→(∀i,i∈fl→i∉lo→flo all lo i=true)→Kp P B (.opsD all lo none (num 0 all.toList) [] :: k) R .normal s):Kp P B (.code (.region id all true) :: k) R .normal s:=by
 rw [Bool.and_eq_true] at ht
 exact K_drawn lo hm hst (h (fun i hi=>eq_of_beq (List.all_eq_true.1 ht.1 i (List.mem_range.2 hi))) (fun i hi hn=>by
  have:=List.all_eq_true.1 ht.2 i hi
  simpa [hn] using this))
theorem K_drawnP {P:Program} {B:Base} {k:List KI} {R:Post} {s:St} {all:Array Oper} {id:Nat} (lo fl:List Nat) (a1 b1:Nat) (hlt:a1<b1) (hm:P.follows .mixedOrders=true) (hst:statS all B.n lo (some (a1,b1,false))=true) (ht:((List.range all.size).all (fun i=>tied all lo i== !fl.contains i)&&fl.all (fun i=>lo.contains i||flo all lo i))=true)
  (h:(∀i,i<all.size→tied all lo i= !fl.contains i)→(∀i,i∈fl→i∉lo→flo all lo i=true)→Kp P B (.opsD all lo (some (a1,b1,false)) (num 0 all.toList) [] :: k) R .normal s):Kp P B (.code (.region id all true) :: k) R .normal s:=by
 rw [Bool.and_eq_true] at ht
 exact K_drawn2 lo a1 b1 hlt hm hst (h (fun i hi=>eq_of_beq (List.all_eq_true.1 ht.1 i (List.mem_range.2 hi))) (fun i hi hn=>by
  have:=List.all_eq_true.1 ht.2 i hi
  simpa [hn] using this))
def loosen:AV→AV
 | .fsl es=>.t (.sl es)
 | .agg cs=>.agg (loosenL cs)
 |a=>a
 where
 loosenL:List AV→List AV
 |[]=>[]
 |c :: cs=>loosen c :: loosenL cs
theorem loosenL_get:∀{cs:List AV} {k:Nat} {a:AV},(loosen.loosenL cs)[k]? =some a→∃b,cs[k]? =some b∧a=loosen b
 |[],k,a,h=>by simp [loosen.loosenL] at h
 |c :: cs,k,a,h=>by
  cases k with
  |zero=>simp [loosen.loosenL] at h;exact ⟨c,rfl,h.symm⟩
  |succ k=>
   simp only [loosen.loosenL,List.getElem?_cons_succ] at h
   obtain ⟨b,h1,h2⟩:=loosenL_get h
   exact ⟨b,by simpa using h1,h2⟩
theorem loosenL_length:∀(cs:List AV),(loosen.loosenL cs).length=cs.length
 |[]=>rfl
 |c :: cs=>by simp only [loosen.loosenL,List.length_cons,loosenL_length cs]
theorem loosen_rep {w:World} {C:Ctx} {x:AV} {v:Value} (h:RepA w C x v):RepA w C (loosen x) v:=by
 induction h with
 |agg hl _ ih=>
  simp only [loosen]
  refine .agg (by rw [loosenL_length];exact hl) fun k a u ha hu=>?_
  obtain ⟨b,h1,rfl⟩:=loosenL_get ha
  exact ih k b u h1 hu
 |fsl h=>exact .t h
 |t h=>exact .t h
 |tup a b _=>exact .tup a b
 |ref a b=>exact .ref a b
 |ptr a b=>exact .ptr a b
 |rd a b c=>exact .rd a b c
 |el a b c=>exact .el a b c
 |cut a b c=>exact .cut a b c
 |ifc a b=>exact .ifc a b
 |mapr a b=>exact .mapr a b
 |yld a b=>exact .yld a b
 |fn a b c d _ _=>exact .fn a b c d
 |any=>exact .any
theorem Imp.loose {B:Base} {s:St}:Imp B s ⟨fun i=>loosen (s.m i),s.σ,s.nx⟩:=by
 intro a w hr
 obtain ⟨C,h1,h2,h3,h4,h5,h6⟩:=hr
 exact ⟨C,h1,fun t=>loosen_rep (h2 t),h3,h4,h5,h6⟩
theorem CallSpec.loose {P:Program} {f:FuncId} {args:List AV} {σ:Nat→AObj} {nx:Nat} {r:AV} {σ':Nat→AObj} {nx':Nat} (h:CallSpec P f (args.map loosen) σ nx r σ' nx'):CallSpec P f args σ nx r σ' nx':=by
 refine ⟨h.1,fun C w vs h1 h2 h3=>h.2 C w vs h1 h2 ⟨by rw [List.length_map];exact h3.1,fun k a u ha hu=>?_⟩⟩
 rw [List.getElem?_map] at ha
 obtain ⟨b,hb,rfl⟩:=Option.map_eq_some_iff.1 ha
 exact loosen_rep (h3.2 k b u hb hu)
theorem Pure.loose {P:Program} {f:FuncId} {args:List AV} {r:AV} (h:Pure P f (args.map loosen) r) (hb:args.all (bnd 0)=true):Pure P f args r:=
 ⟨fun a ha=>List.all_eq_true.1 hb a ha,h.2.1,CallSpec.loose h.2.2⟩
section
variable {P:Program} {o:Oper} {m:Slots}
theorem gives_toFloat {t d:TypeId} {x:Operand} {q:IntKind} {n:Int} {i:TI} {f:TI} (ho:o.op= .convert t d x) (hx:ev m x= .t (.v (.int q n))) (ht:TT P t=some i) (hd:TT P d=some f) (hf:f.desc= .float .f64):Gives P o m (.float .f64 (FloatKind.nearest .f64 n)):=by
 refine ⟨rfl,fun ρ w h=>?_⟩
 have e:=h x (by rw [ho];simp [Op.operands]) _ hx
 have hu:P.underlying d=some (.float .f64):=by rw [(tt_some hd).1,hf]
 simp only [execOp,ho,e,Sem.run_bind,run_convert_int_float w t d q .f64 n (by rw [(tt_some ht).1];rfl) hu,Result.andThen_ok,Sem.run_pure]
 rfl
theorem gives_toInt {t d:TypeId} {x:Operand} {b:Nat} {n:Int} {i:TI} {f:TI} (ho:o.op= .convert t d x) (hx:ev m x= .t (.v (.float .f64 b))) (ht:TT P t=some i) (hd:TT P d=some f) (hf:f.desc= .int .i64) (hn:floatToIntVal .f64 b .i64=some n):Gives P o m (.int .i64 n):=by
 refine ⟨rfl,fun ρ w h=>?_⟩
 have e:=h x (by rw [ho];simp [Op.operands]) _ hx
 have hu:P.underlying d=some (.int .i64):=by rw [(tt_some hd).1,hf]
 simp only [execOp,ho,e,Sem.run_bind,run_convert_float_int w t d .f64 .i64 b n (by rw [(tt_some ht).1];rfl) hu hn,Result.andThen_ok,Sem.run_pure]
theorem gives_csub {t t':TypeId} {x y:Operand} {a b c d re im:Nat} (ho:o.op= .binOp .sub t x y t') (hx:ev m x= .t (.v (.complex .f64 a b))) (hy:ev m y= .t (.v (.complex .f64 c d))) (hn:cSumBits .sub .f64 a b c d=some (re,im)):Gives P o m (.complex .f64 re im):=by
 refine ⟨rfl,fun ρ w h=>?_⟩
 have e:=h x (by rw [ho];simp [Op.operands]) _ hx
 have e2:=h y (by rw [ho];simp [Op.operands]) _ hy
 simp [execOp,ho,e,e2,eqGuard,run_complex_sum w .sub (.inr rfl) t .f64 a b c d re im hn]
theorem gives_cmul {t t':TypeId} {x y:Operand} {a b c d re im:Nat} (ho:o.op= .binOp .mul t x y t') (hx:ev m x= .t (.v (.complex .f64 a b))) (hy:ev m y= .t (.v (.complex .f64 c d))) (hn:cMulBits a b c d=some (re,im)):Gives P o m (.complex .f64 re im):=by
 refine ⟨rfl,fun ρ w h=>?_⟩
 have e:=h x (by rw [ho];simp [Op.operands]) _ hx
 have e2:=h y (by rw [ho];simp [Op.operands]) _ hy
 simp [execOp,ho,e,e2,eqGuard,run_complex_mul w t a b c d re im hn]
theorem gives_neg {t:TypeId} {x:Operand} {b:Nat} (ho:o.op= .unOp .neg t x) (hx:ev m x= .t (.v (.float .f64 b))):Gives P o m (.float .f64 (Op.negFloat .f64 b)):=by
 refine ⟨rfl,fun ρ w h=>?_⟩
 have e:=h x (by rw [ho];simp [Op.operands]) _ hx
 simp [execOp,ho,e,Op.unary]
theorem gives_real {c:Call} {x:Operand} {a b:Nat} (ho:o.op= .call c) (hc:c.callee= .builtin .real) (hcx:c.args= #[x]) (hx:ev m x= .t (.v (.complex .f64 a b))):Gives P o m (.float .f64 a):=by
 refine ⟨rfl,fun ρ w h=>?_⟩
 have e:=h x (by rw [ho];simp [Op.operands,Call.operands,hcx]) _ hx
 simp [execOp,ho,resolve,hc,hcx,e,invoke,builtin,run_real]
theorem gives_imag {c:Call} {x:Operand} {a b:Nat} (ho:o.op= .call c) (hc:c.callee= .builtin .imag) (hcx:c.args= #[x]) (hx:ev m x= .t (.v (.complex .f64 a b))):Gives P o m (.float .f64 b):=by
 refine ⟨rfl,fun ρ w h=>?_⟩
 have e:=h x (by rw [ho];simp [Op.operands,Call.operands,hcx]) _ hx
 simp [execOp,ho,resolve,hc,hcx,e,invoke,builtin,run_imag]
theorem gives_complex {c:Call} {x y:Operand} {a b:Nat} (ho:o.op= .call c) (hc:c.callee= .builtin .complex) (hcx:c.args= #[x,y]) (hx:ev m x= .t (.v (.float .f64 a))) (hy:ev m y= .t (.v (.float .f64 b))):Gives P o m (.complex .f64 a b):=by
 refine ⟨rfl,fun ρ w h=>?_⟩
 have e:=h x (by rw [ho];simp [Op.operands,Call.operands,hcx]) _ hx
 have e2:=h y (by rw [ho];simp [Op.operands,Call.operands,hcx]) _ hy
 simp [execOp,ho,resolve,hc,hcx,e,e2,invoke,builtin,run_complex]
end
end Go.Proofs.YtnoifgjiipgpoaaGreatDoor.R

namespace Go.Proofs.YtnoifgjiipgpoaaGreatDoor.R
open Go.RowKit
section
variable {P:Program} {B:Base} {k:List KI} {R:Post} {s:St}
def behind (c:Code) (l:Nat):Code:=(findLabel c l).getD .skip
theorem K_scopeL {α:Type} {c:Code} (lab:α→Nat) (I:α→Prop) (st:α→St) (μ:α→Nat) (hf:∀x,I x→(findLabel c (lab x)).isSome=true)
  (first:Kp P B (.code c :: .lab (fun l' s'=>∃y,I y∧lab y=l'∧Imp B s' (st y)) :: k) R .normal s)
  (pass:∀x,I x→Kp P B (.code (behind c (lab x)) :: .lab (fun l' s'=>∃y,I y∧lab y=l'∧Imp B s' (st y)∧μ y<μ x) :: k) R .normal (st x)):Kp P B (.code (.scope c) :: k) R .normal s:=by
 intro ac w hr
 refine cwp_scope_many (fun (x:{a // I a}) a w=>Rel B (st x.1) a w) (fun x=>lab x.1) (fun x=>μ x.1) (behind c) (fun x=>?_) (cwp_mono (first ac w hr) fun e a' w' hp=>?_) fun x a w hx=>cwp_mono (pass x.1 x.2 a w hx) fun e a' w' hp=>?_
 ·obtain ⟨z,hz⟩:=Option.isSome_iff_exists.1 (hf x.1 x.2)
  rw [behind,hz];rfl
 ·obtain ⟨s',h1,h2⟩:=hp
  cases e with
  |goto l'=>obtain ⟨y,h3,h0,h4⟩:=h1;exact ⟨⟨y,h3⟩,h0,h4 _ _ h2⟩
  |_=>exact ⟨s',h1,h2⟩
 ·obtain ⟨s',h1,h2⟩:=hp
  cases e with
  |goto l'=>obtain ⟨y,h3,h0,h4,h5⟩:=h1;exact ⟨⟨y,h3⟩,h0,h4 _ _ h2,h5⟩
  |_=>exact ⟨s',h1,h2⟩
def tailC (c:Code) (l:Nat):Code:=match findLabel c l with
 |some (.seq .skip n)=>n
 |_=>.skip
theorem K_scopeF {α:Type} {c:Code} (lab:α→Nat) (I:α→Prop) (st:α→St) (μ:α→Nat) (hf:∀x,I x→findLabel c (lab x)=some (.seq .skip (tailC c (lab x))))
  (pass:∀x,I x→(∀l' s',(∃y,I y∧lab y=l'∧Imp B s' (st y)∧μ y<μ x)→Kp P B (.code (.seq (.label l') (tailC c l')) :: .lab (fun l' s'=>∃y,I y∧lab y=l'∧Imp B s' (st y)∧μ y<μ x) :: k) R .normal s')→
   Kp P B (.code (tailC c (lab x)) :: .lab (fun l' s'=>∃y,I y∧lab y=l'∧Imp B s' (st y)∧μ y<μ x) :: k) R .normal (st x))
  (first:∀J:Nat→St→Prop,(∀l' s',(∃y,I y∧lab y=l'∧Imp B s' (st y))→Kp P B (.code (.seq (.label l') (tailC c l')) :: .lab J :: k) R .normal s')→Kp P B (.code c :: .lab J :: k) R .normal s):Kp P B (.code (.scope c) :: k) R .normal s:=by
 have key:∀n x,μ x=n→I x→Kp P B (.code (tailC c (lab x)) :: .lab (fun l' s'=>∃y,I y∧lab y=l'∧Imp B s' (st y)∧μ y<μ x) :: k) R .normal (st x):=by
  intro n
  induction n using Nat.strongRecOn with
  |_ n ih=>
   intro x hn hx
   refine pass x hx ?_
   rintro l' s' ⟨y,hy,hl,hi,hm⟩
   subst hl
   refine K_seq (K_label (K_less hi (K_lab_mono ?_ (ih (μ y) (by omega) y rfl hy))))
   rintro l2 s2 ⟨z,a,b,c,d⟩
   exact ⟨z,a,b,c,by omega⟩
 refine K_scopeL lab I st μ (fun x hx=>by rw [hf x hx];rfl) (first _ ?_) fun x hx=>?_
 ·rintro l' s' ⟨y,hy,hl,hi⟩
  subst hl
  refine K_seq (K_label (K_less hi (K_lab_mono ?_ (key _ y rfl hy))))
  rintro l2 s2 ⟨z,a,b,c,d⟩
  exact ⟨z,a,b,c⟩
 ·have:=hf x hx
  rw [behind,this]
  exact K_seq (K_skip (key _ x rfl hx))
theorem K_after {c:Code} (h:Kp P B [.code c] (fun e s=>∃t,Imp B s t∧R e t) .normal s):Kp P B [.code c] R .normal s:=by
 intro a w hr
 refine cwp_mono (h a w hr) fun e a' w' hp=>?_
 obtain ⟨s',⟨t,h1,h2⟩,h3⟩:=hp
 exact ⟨t,h2,h1 _ _ h3⟩
end
end Go.Proofs.YtnoifgjiipgpoaaGreatDoor.R

namespace Go.Proofs.YtnoifgjiipgpoaaGreatDoor.R
open Go.RowKit
section
variable {P:Program} {B:Base} {k:List KI} {R:Post} {s:St} {all:Array Oper} {o:Oper} {rest:List Oper}
theorem K_arrp {t e:TypeId} {n:Nat} {i:TI} {x:Operand} {es:List (List T)} (hg:o.guard=none) (hd:dOk B.n o.dst=true) (ho:o.op= .sliceToArrayPointer t x) (ht:TT P t=some i) (hi:i.desc= .array n e) (hx:ev s.m x= .t (.sl es)) (hn:n≤es.length) (h0:0<es.length)
  (hk:Kp P B (.ops all rest :: k) R .normal ⟨put s.m o.dst (.rd es.flatten),s.σ,s.nx⟩):Kp P B (.ops all (o :: rest) :: k) R .normal s:=by
 intro a w hr
 refine wpL_plain hg fun K hK=>?_
 obtain ⟨C,h1,h2,h3,h4,h5,h6⟩:=hr
 have hrep:=ev_rep h2 x
 rw [hx] at hrep
 have hrt:RepT w C.imm (.sl es) (a.eval x):=by
  generalize a.eval x=v at hrep
  cases hrep with
  |t h=>exact h
 obtain ⟨ad,cap,sz,u,hv,hsz,himm,hcell,hel⟩:∃(ad:Addr) (cap sz:Nat) (u:Nat→Value),a.eval x= .slice (some ad) es.length cap∧(∀e∈es,e.length=sz)∧C.imm ad.block∧(∀k,k<es.length*sz→w.cell? (ad.add k)=some (u k))∧
   (∀(j k:Nat) (e:List T) (c:T),es[j]? =some e→e[k]? =some c→RepT w C.imm c (u (j*sz+k))):=by
  generalize a.eval x=v at hrt
  cases hrt with
  |nil=>simp at h0
  |@sl _ ad cap sz u _ hsz _ himm hcell hel=>exact ⟨ad,cap,sz,u,rfl,hsz,himm,hcell,hel⟩
 have hund:P.underlying t=some (.array n e):=by rw [(tt_some ht).1,hi]
 have hrun:(execOp a.eval o).run P w= .ok (.value (.pointer (some ad))) w:=by
  have:¬es.length<n:=by omega
  simp [execOp,ho,Instr.arrayAt,hv,run_underlying hund,this]
 have hfl:es.flatten.length=es.length*sz:=by
  rw [List.length_flatten]
  have:es.map List.length=List.replicate es.length sz:=by
   refine List.eq_replicate_iff.2 ⟨by simp,fun y hy=>?_⟩
   obtain ⟨z,hz,rfl⟩:=List.mem_map.1 hy
   exact hsz z hz
  rw [this,List.sum_replicate_nat]
 refine owp_value hrun ?_
 refine hK _ _ (hk _ _ ⟨C,h1,put_rep h5 (Step.refl _ _ _) h2 (by rw [h3];exact hd) (.rd (u:=u) himm (fun m hm=>hcell m (by omega)) (fun m c hc=>?_)),by rw [put_size];exact h3,by rw [put_def];exact h4,h5,h6⟩)
 have hm:m<es.length*sz:=by rw [←hfl];exact (List.getElem?_eq_some_iff.1 hc).1
 obtain ⟨y,f1,f2,f3,f4⟩:=flat_ix hsz hm
 rw [f2] at hc
 have:=hel _ _ y c f1 hc
 rw [←f4] at this
 exact this
end
end Go.Proofs.YtnoifgjiipgpoaaGreatDoor.R

namespace Go.Proofs.YtnoifgjiipgpoaaGreatDoor.R
def atImp:List KI→Bool
 | .code _ :: _=>true
 | .ops _ _ :: _=>true
 | .blk _ :: k=>atImp k
 | .scp :: k=>atImp k
 | .lab _ :: k=>atImp k
 |_=>false
section
variable {P:Program} {B:Base} {s t:St} {R:Post}
theorem K_impK {k:List KI} (h:Imp B s t) (ha:atImp k=true) (hk:Kp P B k R .normal t):Kp P B k R .normal s:=by
 induction k with
 |nil=>simp [atImp] at ha
 |cons x k ih=>
  cases x with
  |code c=>exact fun a w hr=>hk a w (h _ _ hr)
  |ops all rest=>exact fun a w hr=>hk a w (h _ _ hr)
  |blk _=>exact ih ha hk
  |scp=>exact ih ha hk
  |lab _=>exact ih ha hk
  |_=>simp [atImp] at ha
end
end Go.Proofs.YtnoifgjiipgpoaaGreatDoor.R

set_option maxRecDepth 100000
namespace Go.Proofs.YtnoifgjiipgpoaaGreatDoor.R
open Go.ChangeShapes Go.WideShapes Go.ChangeAt Go.RowKit
theorem post_below {H:Type} {enc:TypeId×Value→H} {Q:Program} {f:Func} {s:ChangeSpec} {apart fresh handsOn again:Bool} {W W':World} {args:Array Value} {v:Value} {ds gs:List (DataW H)} {before pa pv:List MemPlace}
  (hW:DataW.Whole enc Q f.params.toList s.vars apart W args.toList ds gs before) (hb:Below W.heap.size W W')
  (hres:∀(b:Nat) (sp:Nat→Bool) (hd:Bool),DataW.TrodAll enc Q W' b sp hd f.resultTypes.toList (v.resultList f.resultTypes.size) (s.fn H (ds++gs)).results [])
  (hargs:∀sp:Nat→Bool,(∀p∈before,sp p.block=true)→DataW.TrodAll enc Q W' 0 sp true f.params.toList args.toList (s.fn H (ds++gs)).args pa)
  (hvars:∀sp:Nat→Bool,(∀p∈before,sp p.block=true)→DataW.TrodVars enc Q W' sp s.vars (s.fn H (ds++gs)).vars pv)
  (hps:before=pa++pv)
  (hok:∀(j:Nat) (t:TypeId) (r:Value),f.resultTypes[j]? =some t→(v.resultList f.resultTypes.size)[j]? =some r→Value.okWide Q W' .any 0 t r):s.post enc Q f apart fresh handsOn again W args v W':=by
 have hlt:∀p∈before,p.block<W.heap.size:=fun p hp=>hW.lt p hp
 have hold:∀p∈before,(fun b=>decide (b<W.heap.size)) p.block=true:=fun p hp=>by simpa using hlt p hp
 refine ⟨ds,gs,before,[],pa,pv,hW,hres _ _ _,hargs _ hold,hvars _ hold,World.keptBut_mono (fun p hp=>⟨hp,?_⟩) (hb.frame (·∈before)),fun _=>?_⟩
 ·rw [hps,List.mem_append] at hp
  exact Or.inr hp
 ·obtain ⟨_,_,_,_,_,hz,hn⟩:=hW
  refine ⟨hok,_,_,([]++pa)++pv,⟨[]++pa,pv,trodAll_append (hargs _ (fun _ _=>rfl)) (hres _ _ _),hvars _ (fun _ _=>rfl),rfl,?_,?_⟩,?_⟩
  ·intro b off hp
   have hp':MemPlace.cell b off∈before:=by rw [hps];simpa using hp
   rw [hb.frozen (p:=⟨b,off,none⟩) (hlt _ hp')]
   exact hz b off hp'
  ·intro ha
   have:=hn ha
   rw [hps] at this
   simpa using this
  ·intro p hp _
   rw [hps]
   simpa using hp
theorem map_of {α:Type} {g:α→List T} {Q:α→Prop} {es:List (List T)} (h:∀x∈es,∃a,x=g a∧Q a):∃l:List α,es=l.map g∧∀a∈l,Q a:=by
 induction es with
 |nil=>exact ⟨[],rfl,fun a h=>by cases h⟩
 |cons x es ih=>
  obtain ⟨a,rfl,ha⟩:=h x List.mem_cons_self
  obtain ⟨l,rfl,hl⟩:=ih fun y hy=>h y (List.mem_cons_of_mem _ hy)
  exact ⟨a :: l,rfl,fun b hb=>by
   rcases List.mem_cons.1 hb with rfl | hb
   ·exact ha
   ·exact hl b hb⟩
section
variable {P:Program} {f:Nat} {t:TypeId} {ts:List T}
theorem has_slice {e:TypeId} {α:Type} {g:α→List T} {Q:α→Prop} (hu:P.underlying t=some (.slice e)) (he:∀f x,HasT P f e x→∃a,x=g a∧Q a) (h:HasT P f t ts):∃l:List α,ts=[.sl (l.map g)]∧l.length≤maxLen∧∀a∈l,Q a:=by
 cases f with
 |zero=>exact h.elim
 |succ f=>
  simp only [HasT,hu] at h
  obtain ⟨es,rfl,hn,h⟩:=h
  obtain ⟨l,rfl,hl⟩:=map_of (g:=g) (Q:=Q) fun x hx=>he f x (h x hx).2
  exact ⟨l,rfl,by simpa using hn,hl⟩
variable {H:Type} {enc:TypeId×Value→H} {W:World} {base:Nat} {sp:Nat→Bool} {held:Bool} {v:Value} {d:DataW H} {ps:List MemPlace}
abbrev C0 (W:World):Ctx:=⟨old W,fun _=>none,fun _=>undef,0⟩
theorem sim0 (W:World):Sim (C0 W) noObj W:=⟨fun _ _=>rfl,fun _=>True.intro,fun _ _ _ hi=>absurd rfl hi,fun _ _ hi=>absurd rfl hi,fun b hb=>hb⟩
theorem arg_slice {e:TypeId} (hu:P.underlying t=some (.slice e)) (hp:plainT P 10 t=true) (h:DataW.Trod enc P W 0 sp held t v d ps) (hv:Value.okWide P W .any base t v):∃f ts,HasT P f t ts∧∀x,ts=[x]→RepA W (C0 W) (.t x) v:=by
 obtain ⟨a,len,cap,rfl⟩:=okWide_slice hu hv
 obtain ⟨fuel,ht⟩:=h
 obtain ⟨ts,g1,g2,g3⟩:=trod_rep fuel 10 t _ _ _ ht hp
 exact ⟨fuel,ts,g1,fun x hx=>by subst hx;exact .t (g3 0 _ _ rfl rfl)⟩
theorem repL1 {a:AV} {u:Value} (h:RepA W (C0 W) a u):RepL W (C0 W) [a] [u]:=⟨rfl,fun k x y hx hy=>by
 cases k with
 |zero=>simp at hx hy;subst hx;subst hy;exact h
 |succ k=>simp at hx⟩
theorem repL2 {a b:AV} {u u2:Value} (h:RepA W (C0 W) a u) (h2:RepA W (C0 W) b u2):RepL W (C0 W) [a,b] [u,u2]:=(repL1 h).app (repL1 h2)
end
end Go.Proofs.YtnoifgjiipgpoaaGreatDoor.R

set_option maxRecDepth 10000
namespace Go.Proofs.YtnoifgjiipgpoaaGreatDoor.R
open Go.RowKit
section
variable {P:Program} {C:Ctx} {σ:Nat→AObj} {w:World}
theorem sim_junk (hs:Sim C σ w) (o:Obj):Sim C σ (w.alloc o)∧Step C σ w C σ (w.alloc o):=by
 have hold:∀b,b<w.heap.size→(w.alloc o).heap[b]? =w.heap[b]?:=fun b hb=>push_old w o hb
 have hsz:(w.alloc o).heap.size=w.heap.size+1:=World.size_alloc w o
 have hk:Keeps w C.imm (w.alloc o) C.imm:=⟨fun _ h=>h,fun b hb=>hold b (hs.imm_lt b hb)⟩
 have hc:CtxLe C C:=⟨Nat.le_refl _,fun _ _=>rfl,fun _ _=>rfl⟩
 refine ⟨⟨hs.dead,fun i=>?_,hs.inj,hs.sep,fun b hb=>by have:=hs.imm_lt b hb;omega⟩,⟨hc,rfl,rfl,rfl,by omega,fun _ h=>h,fun b hb _=>hold b hb,fun _ h=>.inl h,fun _ h=>.inl h⟩⟩
 by_cases hi:σ i= .dead
 ·rw [hi];exact True.intro
 ·exact (hs.obj i).step hk hc (live_lt hs hi) fun b ho=>hold b (own_lt hs hi ho)
theorem putObj_set {l:Nat} {r:Loop} (hs:Sim C σ w) {q:Nat} {st st':LoopState} {n:Nat} {m:Nat→AV} {ps:Array Tmp} {avs bd:Code} (hq:σ q= .loop st n m ps avs bd) (ho:C.own q=some l) (hl:w.heap[l]? =some (.loop r)):
  Sim C (oput σ q (.loop st' n m ps avs bd)) (w.putObj l (.loop {r with state:=st',pending:=none}))∧Step C σ w C (oput σ q (.loop st' n m ps avs bd)) (w.putObj l (.loop {r with state:=st',pending:=none})):=by
 have hob:=hs.obj q
 rw [hq] at hob
 obtain ⟨bl,r',e0,e1,e2,e3,e4,e5,e6,e7,e8⟩:=hob
 rw [ho] at e0
 cases e0
 rw [hl] at e1
 cases e1
 have hlt:l<w.heap.size:=(Array.getElem?_eq_some_iff.1 hl).1
 have hd:σ q≠ .dead:=by rw [hq];exact (fun h=>by cases h)
 have hk:Keeps w C.imm (w.putObj l (.loop {r with state:=st',pending:=none})) C.imm:=⟨fun _ h=>h,fun b hb=>World.putObj_heap_other fun e=>hs.sep q l hd ho (e ▸ hb)⟩
 exact sim_set (w':=w.putObj l (.loop {r with state:=st',pending:=none})) (obj:=.loop st' n m ps avs bd) hs hd ho rfl rfl rfl World.putObj_size (fun b hb=>World.putObj_heap_other hb)
  ⟨l,_,ho,World.putObj_heap_same hlt,rfl,rfl,e4,e5,e6,e7,fun t ht=>(e8 t ht).keeps hk ⟨Nat.le_refl _,fun _ _=>rfl,fun _ _=>rfl⟩⟩
theorem putObj_kill {l:Nat} (o:Obj) (hs:Sim C σ w) {q:Nat} (hd:σ q≠ .dead) (ho:C.own q=some l):Sim C (oput σ q .dead) (w.putObj l o)∧Step C σ w C (oput σ q .dead) (w.putObj l o):=
 sim_set (w':=w.putObj l o) (obj:=.dead) hs hd ho rfl rfl rfl World.putObj_size (fun b hb=>World.putObj_heap_other hb) True.intro
def YieldQ (P:Program) (q:Nat) (args:List AV) (σ:Nat→AObj) (nx:Nat) (S:(Nat→AObj)→Nat→Prop):Prop:=
 ∀(C:Ctx) (w:World) (vs:List Value) (l:Nat),Sim C σ w→C.nx=nx→RepL w C args vs→C.own q=some l→
  ∃f tmps avs bd,(Instr.yield l vs.toArray).run P w= .ok (.round l f tmps avs bd) w∧∀ro,RoundIn (FR ro) 0 P l f tmps avs bd w fun e w'=>∃σ' nx' C',S σ' nx'∧e= .returned (.bool true)∧Sim C' σ' w'∧C'.nx=nx'∧Step C σ w C' σ' w'
def putL (m:Slots):List (Nat×AV)→Slots
 |[]=>m
 |p :: l=>putL (put m (some p.1) p.2) l
theorem putL_rep {w:World} {C:Ctx} {n:Nat}:∀(ps:List Nat) (args:List AV) (vs:List Value) (m:Slots) (tmps:Array Value),RepL w C args vs→tmps.size=n→(∀p∈ps,p<n)→(∀t,RepA w C (m t) (tmps.getD t undef))→
  ((ps.zip vs).foldl (fun ts (p:Nat×Value)=>ts.setIfInBounds p.1 p.2) tmps).size=n∧∀t,RepA w C (putL m (ps.zip args) t) (((ps.zip vs).foldl (fun ts (p:Nat×Value)=>ts.setIfInBounds p.1 p.2) tmps).getD t undef)
 |[],args,vs,m,tmps,_,hn,_,h=>by exact ⟨by simpa using hn,by simpa [putL] using h⟩
 |p :: ps,[],vs,m,tmps,hl,hn,_,h=>by
  have:vs=[]:=List.eq_nil_of_length_eq_zero (by have:=hl.1;simpa using this.symm)
  subst this
  exact ⟨by simpa using hn,by simpa [putL] using h⟩
 |p :: ps,a :: args,[],m,tmps,hl,hn,_,h=>by have:=hl.1;simp at this
 |p :: ps,a :: args,v :: vs,m,tmps,hl,hn,hp,h=>by
  have hpn:p<tmps.size:=by rw [hn];exact hp p List.mem_cons_self
  have h0:=hl.2 0 a v rfl rfl
  refine putL_rep ps args vs (put m (some p) a) (tmps.setIfInBounds p v) ⟨by have:=hl.1;simpa using this,fun k x u hx hu=>hl.2 (k+1) x u (by simpa using hx) (by simpa using hu)⟩ (by simpa using hn) (fun x hx=>hp x (List.mem_cons_of_mem _ hx)) fun t=>?_
  by_cases e:t=p
  ·subst e
   simp only [put,if_true,Array.getD_eq_getD_getElem?,Array.getElem?_setIfInBounds_self_of_lt hpn,Option.getD_some]
   exact h0
  ·simp only [put,if_neg e,Array.getD_eq_getD_getElem?,Array.getElem?_setIfInBounds_ne (show p≠t from fun h=>e h.symm)]
   have:=h t
   rwa [Array.getD_eq_getD_getElem?] at this
def roundM (n:Nat) (m:Slots) (ps:Array Tmp) (args:List AV):Slots:=putL (fun t=>if t<n then m t else .any) (ps.toList.zip args)
theorem yield_of {q:Nat} {args:List AV} {nx:Nat} {n:Nat} {m:Nat→AV} {ps:Array Tmp} {avs bd:Code} {S:(Nat→AObj)→Nat→Prop} (hq:σ q= .loop .ready n m ps avs bd) (hn:args.length=ps.size) (hp:ps.toList.all (·<n)=true)
  (h:∀B:Base,B.n=n→B.C.nx=nx→B.σ=σ→Kp P B [.code avs] (fun e s1=>e= .normal∧s1.σ q= .loop .ready n m ps avs bd∧
   Kp P B [.code bd] (fun e s2=>e= .normal∧s2.σ q= .loop .busy n m ps avs bd∧S (oput s2.σ q (.loop .ready n m ps avs bd)) s2.nx) .normal ⟨s1.m,oput s1.σ q (.loop .busy n m ps avs bd),s1.nx⟩) .normal ⟨roundM n m ps args,σ,nx⟩):
  YieldQ P q args σ nx S:=by
 intro C w vs l hs hnx hl ho
 have hob:=hs.obj q
 rw [hq] at hob
 obtain ⟨bl,r,e0,e1,e2,e3,e4,e5,e6,e7,e8⟩:=hob
 rw [ho] at e0
 cases e0
 have hsz:vs.toArray.size=r.params.size:=by rw [e5,←hn];simpa using hl.1.symm
 refine ⟨r.fn,_,r.assign,r.body,run_yield e1 hsz,fun ro=>?_⟩
 have hfold:(r.params.zip vs.toArray).foldl (fun tmps (x:Tmp×Value)=>tmps.setIfInBounds x.1 x.2) r.tmps=(ps.toList.zip vs).foldl (fun ts (p:Nat×Value)=>ts.setIfInBounds p.1 p.2) r.tmps:=by
  rw [e5,←Array.foldl_toList]
  simp
 rw [hfold,e6,e7]
 have hrep:=putL_rep (n:=n) ps.toList args vs (fun t=>if t<n then m t else .any) r.tmps hl e4 (fun p hpp=>by simpa using List.all_eq_true.1 hp p hpp) (fun t=>by
  by_cases ht:t<n
  ·simp only [if_pos ht];exact e8 t ht
  ·simp only [if_neg ht];exact .any)
 have hrel:Rel ⟨C,σ,w,n,some l⟩ ⟨roundM n m ps args,σ,nx⟩ {tmps:=(ps.toList.zip vs).foldl (fun ts (p:Nat×Value)=>ts.setIfInBounds p.1 p.2) r.tmps,defers:=[]} w:=
  ⟨C,hnx,hrep.2,hrep.1,Marks.nil,hs,Step.refl _ _ _⟩
 have hrun:=h ⟨C,σ,w,n,some l⟩ rfl hnx rfl _ _ hrel
 refine roundIn_of_wpIn (F:=FR ro) trivial (cwp_mono (ro:=some l) hrun fun e a1 w1 hp1=>?_)
 obtain ⟨s1,⟨he,hσ1,hk2⟩,C1,f1,f2,f3,f4,f5,f6⟩:=hp1
 subst he
 have hd1:s1.σ q≠ .dead:=by rw [hσ1];exact (fun h=>by cases h)
 have hqlt:q<C.nx:=live_lt hs (by rw [hq];exact (fun h=>by cases h))
 have hown1:C1.own q=some l:=(f6.le.own q hqlt).trans ho
 have hob1:=f5.obj q
 rw [hσ1] at hob1
 obtain ⟨bl1,r1,d0,d1,d2,d3,d4,d5,d6,d7,d8⟩:=hob1
 rw [hown1] at d0
 cases d0
 have hpend:{r1 with state:=LoopState.busy}={r1 with state:=.busy,pending:=none}:=by cases r1;simp only at d3;subst d3;rfl
 refine ⟨_,run_beginRound d1 d2,?_⟩
 rw [hpend]
 obtain ⟨p1,p2⟩:=putObj_set (st':=.busy) f5 hσ1 hown1 d1
 have hrel2:Rel ⟨C,σ,w,n,some l⟩ ⟨s1.m,oput s1.σ q (.loop .busy n m ps avs bd),s1.nx⟩ a1 (w1.putObj l (.loop {r1 with state:=.busy,pending:=none})):=
  ⟨C1,f1,fun t=>(f2 t).step f5 p2,f3,f4.step p2,p1,f6.trans p2⟩
 refine cwp_mono (ro:=some l) (hk2 _ _ hrel2) fun e a2 w2 hp2=>?_
 obtain ⟨s2,⟨he,hσ2,hS⟩,C2,g1,g2,g3,g4,g5,g6⟩:=hp2
 subst he
 have hown2:C2.own q=some l:=(g6.le.own q hqlt).trans ho
 have hob2:=g5.obj q
 rw [hσ2] at hob2
 obtain ⟨bl2,r2,c0,c1,c2,c3,_⟩:=hob2
 rw [hown2] at c0
 cases c0
 obtain ⟨u1,u2⟩:=putObj_set (st':=.ready) g5 hσ2 hown2 c1
 exact ⟨_,_,run_endRound none c1,_,_,C2,hS,rfl,u1,g1,g6.trans u2⟩
variable {B:Base} {k:List KI} {R:Post} {s:St}
theorem yield_exec {o:Oper} {c:Call} {fo:Operand} {a:Act} {l:Nat} {f:FuncId} {tmps:Array Value} {avs bd:Code} (ho:o.op= .call c) (hc:c.callee= .value fo) (hv:a.eval fo= .func (.yield l) #[] #[])
  (hy:(Instr.yield l (c.args.map a.eval).toList.toArray).run P w= .ok (.round l f tmps avs bd) w):(execOp a.eval o).run P w= .ok (.round l f tmps avs bd) w:=by
 rw [Array.toArray_toList] at hy
 simp only [execOp,ho,resolve,hc,Sem.run_bind,Deferred.ofValue,hv,Sem.run_pure,Result.andThen_ok,invoke,Array.empty_append]
 exact hy
theorem rep_yld {C:Ctx} {v:Value} {q:Nat} (h:RepA w C (.yld q) v):∃l,v= .func (.yield l) #[] #[]∧C.own q=some l:=by
 cases h with
 |yld h ho=>exact ⟨_,rfl,ho⟩
theorem K_yield {all:Array Oper} {o:Oper} {rest:List Oper} {c:Call} {fo:Operand} {q:Nat} {args:List AV} (hg:o.guard=none) (ho:o.op= .call c) (hc:c.callee= .value fo) (hf:ev s.m fo= .yld q) (ha:c.args.toList.map (ev s.m)=args)
  (hd:dOk B.n o.dst=true) {S:(Nat→AObj)→Nat→Prop} (spec:YieldQ P q args s.σ s.nx S) (h:∀σ' nx',S σ' nx'→Kp P B (.ops all rest :: k) R .normal ⟨put s.m o.dst (.b true),σ',nx'⟩):Kp P B (.ops all (o :: rest) :: k) R .normal s:=by
 intro a w hr
 refine wpL_plain hg fun K hK=>?_
 obtain ⟨C,h1,h2,h3,h4,h5,h6⟩:=hr
 have hρ:=ev_rep h2
 obtain ⟨hl,hlr⟩:=map_rep hρ c.args
 have hfo:=hρ fo
 rw [hf] at hfo
 obtain ⟨l,hv,hown⟩:=rep_yld hfo
 rw [ha] at hl hlr
 obtain ⟨f,tmps,avs,bd,hy,hround⟩:=spec C w (c.args.map a.eval).toList l h5 h1 ⟨by simpa using hl,fun k x u hx hu=>hlr k x u hx (by simpa using hu)⟩ hown
 refine owp_round (yield_exec ho hc hv hy) (RoundIn.mono (hround B.ro) ?_)
 rintro e w' ⟨σ',nx',C',hS,rfl,g1,g2,g3⟩
 exact ⟨_,rfl,hK _ _ (h σ' nx' hS _ _ ⟨C',g2,put_rep h5 g3 h2 (by rw [h3];exact hd) (.t (.v rfl)),by rw [put_size];exact h3,by rw [put_def];exact h4.step g3,g1,h6.trans g3⟩)⟩
theorem does_yield {all:Array Oper} {i:Nat} {o:Oper} {m:Slots} {c:Call} {fo:Operand} {q:Nat} {args:List AV} {σ σ':Nat→AObj} {nx nx':Nat} {n:Nat} (ho':all[i]? =some o) (hl:lets all m o=some true) (ho:o.op= .call c) (hc:c.callee= .value fo)
  (hf:ev m fo= .yld q) (ha:c.args.toList.map (ev m)=args) (spec:YieldQ P q args σ nx fun a b=>a=σ'∧b=nx'):Does P n all i m σ nx (.b true) σ' nx':=by
 intro C a w hn hs hsz hr ro K Q hK
 have hops:∀x∈o.op.operands.toList,ev (mask (looksOf all i) m) x=ev m x:=mask_ev ho'
 have hmem:∀x,x=fo∨x∈c.args.toList→x∈o.op.operands.toList:=by
  intro x hx
  rw [ho]
  simp only [Op.operands,Call.operands,hc]
  rcases hx with rfl | hx
  ·simp
  ·simp;exact .inr (by simpa using hx)
 have e1:=hops fo (hmem _ (.inl rfl))
 have e2:c.args.toList.map (ev (mask (looksOf all i) m))=c.args.toList.map (ev m):=List.map_congr_left fun x hx=>hops x (hmem x (.inr hx))
 rw [←e1] at hf
 rw [←e2] at ha
 have hρ:=ev_rep hr
 obtain ⟨hl',hlr⟩:=map_rep hρ c.args
 have hfo:=hρ fo
 rw [hf] at hfo
 obtain ⟨l,hv,hown⟩:=rep_yld hfo
 rw [ha] at hl' hlr
 obtain ⟨f,tmps,avs,bd,hy,hround⟩:=spec C w (c.args.map a.eval).toList l hs hn ⟨by simpa using hl',fun k x u hx hu=>hlr k x u hx (by simpa using hu)⟩ hown
 have hd:dstOf all i=o.dst:=by simp [dstOf,ho']
 simp only [wpO,wpOpIn,ho',lets_wanted ho' hr hl,if_true]
 refine owp_round (yield_exec ho hc hv hy) (RoundIn.mono (hround ro) ?_)
 rw [hd] at hK
 rintro e w' ⟨_,_,C',⟨rfl,rfl⟩,rfl,g1,g2,g3⟩
 exact ⟨_,rfl,hK _ _ C' g1 g2 g3 (.t (.v rfl))⟩
theorem K_dYield {all:Array Oper} {lo:List Nat} {sw:SW} {i:Nat} {o:Oper} {rest:List (Nat×Oper)} {pend:List Rc} {c:Call} {fo:Operand} {q:Nat} {args:List AV} {σ':Nat→AObj} {nx':Nat} (hl:lets all s.m o=some true) (ho:o.op= .call c) (hc:c.callee= .value fo)
  (hf:ev s.m fo= .yld q) (ha:c.args.toList.map (ev s.m)=args) (spec:YieldQ P q args s.σ s.nx fun a b=>a=σ'∧b=nx') (hi:i∈lo) (hp:∀q∈pend,anc all q.i i=true∨Does P B.n all q.i q.m σ' nx' q.v σ' nx')
  (h:Kp P B (.opsD all lo sw rest pend :: k) R .normal ⟨put s.m o.dst (.b true),σ',nx'⟩):Kp P B (.opsD all lo sw ((i,o) :: rest) pend :: k) R .normal s:=
 Chain.at fun ho'=>Chain.step (loud:=some (σ',nx')) (does_yield ho' hl ho hc hf ha spec) (fun hc=>by cases hc) (fun c hc=>by cases hc;exact ⟨hi,hp⟩) (fun _ h=>h) h
theorem K_rangeFunc {g:Operand} {ps:Array Tmp} {avs bd:Code} (hro:B.ro=none) {f:FuncId} {args:List AV} (hf:callee (ev s.m g) [.yld s.nx]=some (f,args)) {S:AV→(Nat→AObj)→Nat→Prop}
  (spec:CallQ P f args (oput s.σ s.nx (.loop .ready B.n s.m ps avs bd)) (s.nx+1) S) (hS:∀r σ' nx',S r σ' nx'→σ' s.nx= .loop .ready B.n s.m ps avs bd)
  (h:∀r σ' nx',S r σ' nx'→Kp P B k R .normal ⟨s.m,oput σ' s.nx .dead,nx'⟩):Kp P B (.code (.rangeFunc g ps avs bd) :: k) R .normal s:=by
 intro a w hr
 obtain ⟨C,h1,h2,h3,h4,h5,h6⟩:=hr
 refine wpIn_rangeFunc (F:=FR B.ro) fun fn _=>?_
 have henter:=run_enterLoop_outer (P:=P) (w:=w) fn a.tmps ps avs bd
 rw [←hro] at henter
 obtain ⟨hg,spec⟩:=spec
 obtain ⟨lo,hlo⟩:∃lo:Loop,lo={state:=.ready,pending:=none,fn,tmps:=a.tmps,params:=ps,assign:=avs,body:=bd,defers:=w.heap.size}:=⟨_,rfl⟩
 rw [←hlo] at henter
 obtain ⟨j1,j2⟩:=sim_junk h5 (.deferred (some []))
 obtain ⟨w1,hw1⟩:∃w1,w1=w.alloc (.deferred (some [])):=⟨_,rfl⟩
 rw [←hw1] at j1 j2 henter
 have hw1s:w1.heap.size=w.heap.size+1:=by rw [hw1];exact World.size_alloc w _
 obtain ⟨C',hC⟩:∃C':Ctx,C'=⟨C.imm,fun i=>if i=C.nx then some w1.heap.size else C.own i,fun i=>if i=C.nx then undef else C.hdr i,C.nx+1⟩:=⟨_,rfl⟩
 have hk0:Keeps w1 C.imm (w1.alloc (.loop lo)) C'.imm:=⟨fun b h=>by rw [hC];exact h,fun b h=>push_old w1 _ (j1.imm_lt b h)⟩
 have hc0:CtxLe C C':=by
  subst hC
  exact ⟨by simp,fun i hi=>if_neg (by omega),fun i hi=>if_neg (by omega)⟩
 obtain ⟨n1,n2⟩:=sim_new j1 (.loop lo) (.loop .ready B.n s.m ps avs bd) undef C' hC ⟨w1.heap.size,lo,by rw [hC];simp,push_new w1 _,by rw [hlo],by rw [hlo],by rw [hlo];exact h3,by rw [hlo],by rw [hlo],by rw [hlo],fun t _=>by
  have:=((h2 t).step h5 j2).keeps hk0 hc0
  have e:lo.tmps=a.tmps:=by rw [hlo]
  rw [e];exact this⟩
 rw [h1] at n1 n2
 have hown:C'.own s.nx=some (w.heap.size+1):=by rw [hC,←h1,←hw1s];simp
 have hnx':C'.nx=s.nx+1:=by rw [hC,h1]
 have hst:=j2.trans n2
 have hyr:RepA (w1.alloc (.loop lo)) C' (.yld s.nx) (.func (.yield (w.heap.size+1)) #[] #[]):=.yld (by omega) hown
 have hgr:=(ev_rep h2 g).step h5 hst
 obtain ⟨first,caps,hv,hrl⟩:=callee_rep hf hgr (vs:=#[.func (.yield (w.heap.size+1)) #[] #[]]) rfl (fun k x u hx hu=>by
  cases k with
  |zero=>simp at hx hu;subst hx;subst hu;exact hyr
  |succ k=>simp at hx)
 have hcall:=spec C' _ _ n1 hnx' hrl
 have hres:(resolve a.eval (rangeCall g (w.heap.size+1)) 0).run P (w1.alloc (.loop lo))= .ok {target:=.fn (.func f) caps,args:=first++ #[.func (.yield (w.heap.size+1)) #[] #[]]} (w1.alloc (.loop lo)):=by
  have e:Array.map a.eval #[Operand.const (Value.func (Fn.yield (w.heap.size+1)) #[] #[])]= #[Value.func (Fn.yield (w.heap.size+1)) #[] #[]]:=by simp [Act.eval]
  simp only [resolve,rangeCall,Deferred.ofValue,hv,Sem.run_pure,e]
 have hinv:(invoke (.fn (.func f) caps) (first++ #[.func (.yield (w.heap.size+1)) #[] #[]])).run P (w1.alloc (.loop lo))= .ok (.enter f (first++ #[.func (.yield (w.heap.size+1)) #[] #[]]++caps)) (w1.alloc (.loop lo)):=by
  unfold goodFn at hg
  cases hfn:P.funcs[f]? with
  |none=>rw [hfn] at hg;cases hg
  |some fn=>
   rw [hfn] at hg
   simp only [Bool.and_eq_true,Bool.not_eq_true'] at hg
   simp only [invoke,callFunc,Sem.run_bind,run_program,hfn,Result.andThen_ok]
   have e1:fn.body.isNone=false:=by rw [←Option.not_isSome,hg.2];rfl
   simp [hg.1,e1]
 refine ⟨w.heap.size+1,_,_,_,_,f,_,_,henter,hres,fun _ _=>trivial,hinv,FR_depth,callsIn_FR.2 ?_⟩
 rw [Array.toArray_toList] at hcall
 refine hcall.mono ?_
 rintro e w3 ⟨r,σ',nx',C3,v,g0,rfl,g1,g2,g3,g4⟩
 have hσ:=hS _ _ _ g0
 have hob:=g1.obj s.nx
 rw [hσ] at hob
 obtain ⟨bl,r3,c0,c1,c2,c3,_⟩:=hob
 have hown3:C3.own s.nx=some (w.heap.size+1):=(g4.le.own s.nx (by omega)).trans hown
 rw [hown3] at c0
 cases c0
 have hd3:σ' s.nx≠ .dead:=by rw [hσ];exact (fun h=>by cases h)
 obtain ⟨k1,k2⟩:=putObj_kill (.loop {r3 with state:=.exhausted}) g1 hd3 hown3
 have hel:(Instr.endLoop (w.heap.size+1)).run P w3= .ok none (w3.putObj (w.heap.size+1) (.loop {r3 with state:=.exhausted})):=by
  rw [run_endLoop (P:=P) c1 (by rw [c2];decide),c3]
 refine ⟨none,_,hel,?_⟩
 have hfull:=(hst.trans g4).trans k2
 have hmut:∀{b},Mut C s.σ b→b<w.heap.size:=fun {b} ⟨i,hi,ho⟩=>own_lt h5 hi ho
 refine ⟨_,h r σ' nx' g0,C3,g2,fun t=>(h2 t).step h5 hfull,h3,?_,k1,h6.trans hfull⟩
 have hm1:MarkOf B.w.heap.size C s.σ w1 {target:=.collected w.heap.size,args:=#[]}:=
  ⟨w.heap.size,rfl,h6.size,by rw [hw1];exact push_new w _,fun hi=>by have:=h5.imm_lt _ hi;omega,fun hm=>by have:=hmut hm;omega⟩
 have hms:Marks B.w.heap.size C s.σ w1 ({target:=.collected w.heap.size,args:=#[]} :: a.defers):=by
  have h4':=h4.step j2
  refine ⟨fun d hd=>?_,List.pairwise_cons.2 ⟨fun d hd=>?_,h4.nodup⟩⟩
  ·rcases List.mem_cons.1 hd with e | e
   ·rw [e];exact hm1
   ·exact h4'.all d e
  ·obtain ⟨r',e1,_,e3,_⟩:=h4.all d hd
   have hlt:r'<w.heap.size:=(Array.getElem?_eq_some_iff.1 e3).1
   rw [e1]
   intro e
   cases e
   omega
 exact hms.step ((n2.trans g4).trans k2)
theorem K_range {g:Operand} {ps:Array Tmp} {avs bd:Code} (hro:B.ro=none) {f:FuncId} {args:List AV} (hf:callee (ev s.m g) [.yld s.nx]=some (f,args))
  (h:∀L,L= .loop .ready B.n s.m ps avs bd→∃S:AV→(Nat→AObj)→Nat→Prop,CallQ P f args (oput s.σ s.nx L) (s.nx+1) S∧∀r σ' nx',S r σ' nx'→σ' s.nx=L∧Kp P B k R .normal ⟨s.m,oput σ' s.nx .dead,nx'⟩):
  Kp P B (.code (.rangeFunc g ps avs bd) :: k) R .normal s:=by
 obtain ⟨S,h1,h2⟩:=h _ rfl
 exact K_rangeFunc hro hf h1 (fun r σ' nx' hs=>(h2 r σ' nx' hs).1) fun r σ' nx' hs=>(h2 r σ' nx' hs).2
end
@[go_sem] theorem run_range {P:Program} {n:Nat} {G:List KI→St→Prop} {f:Nat} {k:List KI} {s:St} {g:Operand} {ps:Array Tmp} {avs bd:Code}:run P n G (f+1) (.code (.rangeFunc g ps avs bd) :: k) s=G (.code (.rangeFunc g ps avs bd) :: k) s:=by rw [run];all_goals simp
theorem pure_ofR {P:Program} {f:FuncId} {fn:Func} {c:Code} (hf:P.funcs[f]? =some fn) (hb:fn.body=some c) (hname:(fn.name== "runtime.NumGoroutine")=false) {args:List AV} {r:AV} (hn:args.length≤fn.ntmps) (ha:args.all (bnd 0)=true) (hr:bnd 0 r=true)
  (h:∀B:Base,B.n=fn.ntmps→B.C.nx=0→B.ro=none→Kp P B [.code c] (fun e s=>(e= .ret∨e= .normal)∧∃rs,resL P s fn.results.toList=some rs∧frz s.σ (resV rs)=r) .normal ⟨slots0 args,noObj,0⟩):Pure P f args r:=by
 refine ⟨fun a h=>List.all_eq_true.1 ha a h,hr,spec_of_KR hf hb hname hn fun B h1 h2 _ h0=>?_⟩
 refine fun a w hrel=>cwp_mono (h B h1 h2 h0 a w hrel) fun e a' w' hp=>?_
 obtain ⟨s',⟨he,rs,h3,h4⟩,h5⟩:=hp
 refine ⟨s',?_,h5⟩
 rcases he with rfl | rfl
 ·exact ⟨rs,h3,Ends.pure h4.symm hr⟩
 ·exact ⟨rs,h3,Ends.pure h4.symm hr⟩
end Go.Proofs.YtnoifgjiipgpoaaGreatDoor.R

set_option maxRecDepth 10000
namespace Go.Proofs.YtnoifgjiipgpoaaGreatDoor.R
open Go.RowKit
def plainL:List AV→Option (List Value)
 |[]=>some []
 | .t (.v x) :: r=>if plainV x=true then (plainL r).map (x :: ·) else none
 |_ :: _=>none
def plainA:AV→Option Value
 | .t (.v x)=>if plainV x=true then some x else none
 | .agg cs=>(plainL cs).map fun l=>.agg l.toArray
 |_=>none
theorem plainL_len:∀{cs:List AV} {l:List Value},plainL cs=some l→l.length=cs.length
 |[],l,h=>by simp [plainL] at h;subst h;rfl
 | .t (.v x) :: r,l,h=>by
  simp only [plainL] at h
  split at h
  ·obtain ⟨l',h1,rfl⟩:=Option.map_eq_some_iff.1 h
   simp [plainL_len h1]
  ·cases h
 | .t (.sl _) :: _,_,h=>by simp [plainL] at h
 | .agg _ :: _,_,h=>by simp [plainL] at h
 | .tup _ :: _,_,h=>by simp [plainL] at h
 | .fsl _ :: _,_,h=>by simp [plainL] at h
 | .ref _ :: _,_,h=>by simp [plainL] at h
 | .ptr _ _ :: _,_,h=>by simp [plainL] at h
 | .rd _ :: _,_,h=>by simp [plainL] at h
 | .el _ _ :: _,_,h=>by simp [plainL] at h
 | .cut _ _ _ _ :: _,_,h=>by simp [plainL] at h
 | .ifc _ _ :: _,_,h=>by simp [plainL] at h
 | .mapr _ :: _,_,h=>by simp [plainL] at h
 | .yld _ :: _,_,h=>by simp [plainL] at h
 | .fn _ _ _ :: _,_,h=>by simp [plainL] at h
 | .any :: _,_,h=>by simp [plainL] at h
theorem plainL_get:∀{cs:List AV} {l:List Value},plainL cs=some l→∀(k:Nat) (a:AV),cs[k]? =some a→∃x,a= .t (.v x)∧plainV x=true∧l[k]? =some x
 |[],l,_,k,a,hk=>by simp at hk
 |c :: r,l,h,k,a,hk=>by
  cases c with
  |t y=>
   cases y with
   |v x=>
    simp only [plainL] at h
    split at h
    ·rename_i hp
     obtain ⟨l',h1,rfl⟩:=Option.map_eq_some_iff.1 h
     cases k with
     |zero=>simp at hk;subst hk;exact ⟨x,rfl,hp,rfl⟩
     |succ k=>exact plainL_get h1 k a (by simpa using hk)
    ·cases h
   |sl _=>simp [plainL] at h
  |_=>simp [plainL] at h
section
variable {P:Program} {w:World} {C:Ctx}
theorem rep_plain {a:AV} {u v:Value} (h:plainA a=some u) (hr:RepA w C a v):v=u:=by
 cases a with
 |t y=>
  cases y with
  |v x=>
   simp only [plainA] at h
   split at h
   ·cases h;exact (rep_v hr).1
   ·cases h
  |sl _=>simp [plainA] at h
 |agg cs=>
  simp only [plainA] at h
  obtain ⟨l,h1,rfl⟩:=Option.map_eq_some_iff.1 h
  obtain ⟨vs,rfl,hl,hrr⟩:=rep_agg hr
  have hlen:=plainL_len h1
  congr 1
  apply Array.ext'
  refine List.ext_getElem? fun k=>?_
  by_cases hk:k<cs.length
  ·obtain ⟨x,e1,_,e3⟩:=plainL_get h1 k _ (List.getElem?_eq_getElem hk)
   have hv:vs[k]? =some vs[k]:=Array.getElem?_eq_getElem (by omega)
   have:=hrr k _ _ (List.getElem?_eq_getElem hk) hv
   rw [e1] at this
   rw [e3,Array.getElem?_toList,hv,(rep_v this).1]
  ·rw [List.getElem?_eq_none (by simp;omega),List.getElem?_eq_none (by simp;omega)]
 |_=>simp [plainA] at h
theorem plain_rep {a:AV} {u:Value} (h:plainA a=some u):RepA w C a u:=by
 cases a with
 |t y=>
  cases y with
  |v x=>
   simp only [plainA] at h
   split at h
   ·rename_i hp;cases h;exact .t (.v hp)
   ·cases h
  |sl _=>simp [plainA] at h
 |agg cs=>
  simp only [plainA] at h
  obtain ⟨l,h1,rfl⟩:=Option.map_eq_some_iff.1 h
  have hlen:=plainL_len h1
  refine .agg (by simpa using hlen.symm) fun k a u ha hu=>?_
  obtain ⟨x,rfl,hp,e3⟩:=plainL_get h1 k a ha
  have:u=x:=by
   have h9:(l.toArray)[k]? =l[k]?:=by simp
   rw [h9,e3] at hu
   exact (Option.some.inj hu).symm
  subst this
  exact .t (.v hp)
 |_=>simp [plainA] at h
def ckA (P:Program):Nat→TypeId→AV→Bool
 |0,_,_=>false
 |d+1,t,a=>match TT P t with
  |some ⟨.int _,_,_,_⟩=>match a with | .t (.v (.int _ _))=>true | _=>false
  |some ⟨.bool,_,_,_⟩=>match a with | .t (.v (.bool _))=>true | _=>false
  |some ⟨.struct fs,_,_,_⟩=>match a with
   | .agg cs=>fs.toList.all fun f=>match TT P f.type with
    |some i=>match partA i cs f.offset with
     |some x=>ckA P d f.type x
     |none=>false
    |none=>false
   |_=>false
  |_=>false
theorem ckA_run (em:Bool):∀(d:Nat) (t:TypeId) (a:AV) (v:Value),ckA P d t a=true→RepA w C a v→(Instr.checkKey em d t v).run P w= .ok () w
 |0,_,_,_,h,_=>by simp [ckA] at h
 |d+1,t,a,v,h,hr=>by
  simp only [ckA] at h
  cases ht:TT P t with
  |none=>rw [ht] at h;cases h
  |some i=>
   rw [ht] at h
   have hu:=(tt_some ht).1
   obtain ⟨desc,sz,by_,z⟩:=i
   cases desc<;>simp only [Bool.false_eq_true] at h
   case bool=>
    split at h
    ·obtain ⟨rfl,_⟩:=rep_v hr
     simp [Instr.checkKey,Sem.run_bind,run_underlying hu]
    ·cases h
   case int k=>
    split at h
    ·obtain ⟨rfl,_⟩:=rep_v hr
     simp [Instr.checkKey,Sem.run_bind,run_underlying hu]
    ·cases h
   case struct fs=>
    split at h
    ·rename_i cs
     obtain ⟨vs,rfl,hl,hrr⟩:=rep_agg hr
     rw [Instr.checkKey]
     simp only [Sem.run_bind,run_underlying hu,Result.andThen_ok]
     rw [←Array.forIn_toList]
     have each:=List.all_eq_true.1 h
     clear h
     generalize fs.toList=L at each
     induction L with
     |nil=>simp
     |cons f L ih=>
      have hf:=each f List.mem_cons_self
      split at hf
      ·rename_i i hi
       split at hf
       ·rename_i x hx
        obtain ⟨u,p1,p2⟩:=part_rep (P:=P) hi hl hrr hx
        have p3:=ckA_run em d f.type x u hf p2
        by_cases hn:f.name= "_"
        ·simp only [List.forIn_cons,Sem.run_bind,hn,ne_eq,not_true_eq_false,if_false,Result.andThen_ok,Sem.run_pure]
         exact ih fun y hy=>each y (List.mem_cons_of_mem _ hy)
        ·simp only [List.forIn_cons,Sem.run_bind,hn,ne_eq,not_false_eq_true,if_true,Result.andThen_ok,p1,p3,Sem.run_pure]
         exact ih fun y hy=>each y (List.mem_cons_of_mem _ hy)
       ·cases hf
      ·cases hf
    ·cases h
open Classical in
noncomputable def findM (u:Value):List (Value×AV)→Option (Nat×AV)
 |[]=>none
 |e :: r=>if e.1=u then some (0,e.2) else (findM u r).map fun p=>(p.1+1,p.2)
open Classical in
def TellM (P:Program) (kt:TypeId) (ka:AV) (u:Value) (es:List (Value×AV)):Prop:=∀e∈es,∃kb,plainA kb=some e.1∧eqA P 10000 kt ka kb=some (decide (e.1=u))
open Classical in
theorem ask_run {kt:TypeId} {ka:AV} {u:Value} (hu:plainA ka=some u):∀(es:List (Value×AV)) (ms:List MapEntry) (i:Nat),TellM P kt ka u es→es.length=ms.length→
  (∀(k:Nat) (a:Value×AV) (m:MapEntry),es[k]? =some a→ms[k]? =some m→m.key=a.1∧RepA w C a.2 m.val)→
  (findM u es=none→(Instr.findAsking kt u ms i).run P w= .ok none w)∧(∀j a,findM u es=some (j,a)→∃m,ms[j]? =some m∧m.key=u∧RepA w C a m.val∧(Instr.findAsking kt u ms i).run P w= .ok (some (i+j,m.val)) w)
 |[],[],i,_,_,_=>⟨fun _=>by simp [Instr.findAsking],fun j a h=>by simp [findM] at h⟩
 |[],_ :: _,_,_,h,_=>by simp at h
 |_ :: _,[],_,_,h,_=>by simp at h
 |e :: es,m :: ms,i,ht,hl,hr=>by
  obtain ⟨hk,hv⟩:=hr 0 e m rfl rfl
  obtain ⟨kb,b1,b2⟩:=ht e List.mem_cons_self
  have heq:=eqA_run (w:=w) (C:=C) 10000 kt ka kb _ u e.1 b2 (plain_rep hu) (plain_rep b1)
  have heq:(Op.equal kt u m.key).run P w= .ok (decide (e.1=u)) w:=by rw [hk];exact heq
  obtain ⟨ih1,ih2⟩:=ask_run hu es ms (i+1) (fun x hx=>ht x (List.mem_cons_of_mem _ hx)) (by simpa using hl) (fun k a m' h1 h2=>hr (k+1) a m' (by simpa using h1) (by simpa using h2))
  rw [findM,Instr.findAsking]
  simp only [Sem.run_bind,heq,Result.andThen_ok]
  by_cases hc:e.1=u
  ·simp only [hc,decide_true,if_true]
   refine ⟨fun h=>by simp at h,fun j a h=>?_⟩
   simp only [Option.some.injEq,Prod.mk.injEq] at h
   obtain ⟨rfl,rfl⟩:=h
   exact ⟨m,rfl,by rw [hk,hc],hv,by simp⟩
  ·simp only [hc,decide_false,if_false,Bool.false_eq_true]
   refine ⟨fun h=>ih1 (by simpa using h),fun j a h=>?_⟩
   obtain ⟨⟨j',a'⟩,h1,h2⟩:=Option.map_eq_some_iff.1 h
   simp only [Prod.mk.injEq] at h2
   obtain ⟨rfl,rfl⟩:=h2
   obtain ⟨m',g1,g2,g3,g4⟩:=ih2 j' a' h1
   exact ⟨m',by simpa using g1,g2,g3,by rw [g4,show i+(j'+1)=i+1+j' by omega]⟩
def keyKind (P:Program) (kt:TypeId):Bool:=match P.underlying kt with | some (.struct _) | some (.int _)=>true | _=>false
theorem eqA_int {d:Nat} {kt:TypeId} {q:IntKind} {ka kb:AV} {r:Bool} (hu:P.underlying kt=some (.int q)) (h:eqA P (d+1) kt ka kb=some r):∃k a b,ka= .t (.v (.int k a))∧kb= .t (.v (.int k b))∧r=decide (a=b):=by
 simp only [eqA] at h
 cases ht:TT P kt with
 |none=>rw [ht] at h;cases h
 |some i=>
  obtain ⟨desc,sz,by_,z⟩:=i
  have:=(tt_some ht).1
  rw [hu] at this
  cases this
  rw [ht] at h
  simp only at h
  split at h
  ·split at h
   ·rename_i hk
    subst hk
    cases h
    exact ⟨_,_,_,rfl,rfl,rfl⟩
   ·cases h
  ·cases h
open Classical in
theorem find_run {kt:TypeId} {ka:AV} {u:Value} (hk:keyKind P kt=true) (hc:ckA P 10000 kt ka=true) (hu:plainA ka=some u) (es:List (Value×AV)) (ms:Array MapEntry) (ht:TellM P kt ka u es) (hl:es.length=ms.size)
  (hr:∀(k:Nat) (a:Value×AV) (m:MapEntry),es[k]? =some a→ms[k]? =some m→m.key=a.1∧RepA w C a.2 m.val):
  (findM u es=none→(Instr.findKey kt u ms.toList).run P w= .ok none w)∧(∀j a,findM u es=some (j,a)→∃m,ms[j]? =some m∧m.key=u∧RepA w C a m.val∧(Instr.findKey kt u ms.toList).run P w= .ok (some (j,m.val)) w):=by
 have key:=ask_run (w:=w) (C:=C) hu es ms.toList 0 ht (by simpa using hl) (fun k a m h1 h2=>hr k a m h1 (by simpa using h2))
 simp only [Array.getElem?_toList,Nat.zero_add] at key
 unfold keyKind at hk
 cases hund:P.underlying kt with
 |none=>rw [hund] at hk;cases hk
 |some kd=>
  rw [hund] at hk
  cases kd<;>simp only [Bool.false_eq_true] at hk
  case struct fs=>
   rw [run_findKey_eq w (by rw [hund])]
   exact key
  case int q=>
   have now:∀(es:List (Value×AV)) (ms:List MapEntry) (i:Nat),TellM P kt ka u es→es.length=ms.length→(∀(k:Nat) (a:Value×AV) (m:MapEntry),es[k]? =some a→ms[k]? =some m→m.key=a.1∧RepA w C a.2 m.val)→
     (findM u es=none→Instr.findNow (.int q) u ms i=some none)∧(∀j a,findM u es=some (j,a)→∃m,ms[j]? =some m∧m.key=u∧RepA w C a m.val∧Instr.findNow (.int q) u ms i=some (some (i+j,m.val))):=by
    intro es
    induction es with
    |nil=>
     intro ms i _ hl _
     have:ms=[]:=List.eq_nil_of_length_eq_zero (by simpa using hl.symm)
     subst this
     exact ⟨fun _=>rfl,fun j a h=>by simp [findM] at h⟩
    |cons e es ih=>
     intro ms i ht hl hr
     cases ms with
     |nil=>simp at hl
     |cons m ms=>
      obtain ⟨hk',hv⟩:=hr 0 e m rfl rfl
      obtain ⟨kb,b1,b2⟩:=ht e List.mem_cons_self
      obtain ⟨ih1,ih2⟩:=ih ms (i+1) (fun x hx=>ht x (List.mem_cons_of_mem _ hx)) (by simpa using hl) (fun k a m' h1 h2=>hr (k+1) a m' (by simpa using h1) (by simpa using h2))
      have hs:Instr.sameNow (.int q) u m.key=some (decide (e.1=u)):=by
       rw [hk']
       obtain ⟨k,a,b,rfl,rfl,e9⟩:=eqA_int (d:=9999) hund b2
       simp only [plainA,plainV,if_true,Option.some.injEq] at hu b1
       subst hu
       rw [←b1] at e9 ⊢
       rw [e9]
       simp only [Instr.sameNow,if_true,Option.some.injEq]
       by_cases e8:a=b<;>simp [e8]
      rw [findM,Instr.findNow,hs]
      by_cases hc:e.1=u
      ·simp only [hc,decide_true,if_true]
       refine ⟨fun h=>by simp at h,fun j a h=>?_⟩
       simp only [Option.some.injEq,Prod.mk.injEq] at h
       obtain ⟨rfl,rfl⟩:=h
       exact ⟨m,rfl,by rw [hk',hc],hv,by simp⟩
      ·simp only [hc,decide_false,if_false]
       refine ⟨fun h=>ih1 (by simpa using h),fun j a h=>?_⟩
       obtain ⟨⟨j',a'⟩,h1,h2⟩:=Option.map_eq_some_iff.1 h
       simp only [Prod.mk.injEq] at h2
       obtain ⟨rfl,rfl⟩:=h2
       obtain ⟨m',g1,g2,g3,g4⟩:=ih2 j' a' h1
       exact ⟨m',by simpa using g1,g2,g3,by rw [g4,show i+(j'+1)=i+1+j' by omega]⟩
   obtain ⟨n1,n2⟩:=now es ms.toList 0 ht (by simpa using hl) (fun k a m h1 h2=>hr k a m h1 (by simpa using h2))
   refine ⟨fun h=>MapKept.run_findKey hund (n1 h),fun j a h=>?_⟩
   obtain ⟨m,g1,g2,g3,g4⟩:=n2 j a h
   exact ⟨m,by simpa using g1,g2,g3,by simpa using MapKept.run_findKey hund g4⟩
end
end Go.Proofs.YtnoifgjiipgpoaaGreatDoor.R

set_option maxRecDepth 10000
namespace Go.Proofs.YtnoifgjiipgpoaaGreatDoor.R
open Go.RowKit
section
variable {P:Program} {B:Base} {k:List KI} {R:Post} {s:St} {all:Array Oper} {o:Oper} {rest:List Oper}
theorem obj_map {C:Ctx} {σ:Nat→AObj} {w:World} {m:Nat} {es:List (Value×AV)} {v:Value} (hs:Sim C σ w) (hσ:σ m= .map es) (hr:RepA w C (.mapr m) v):∃bl ms clock,v= .map (some bl)∧C.own m=some bl∧w.heap[bl]? =some (.map ms clock)∧es.length=ms.size∧
  ∀(k:Nat) (a:Value×AV) (u:MapEntry),es[k]? =some a→ms[k]? =some u→u.key=a.1∧RepA w C a.2 u.val:=by
 have hob:=hs.obj m
 rw [hσ] at hob
 obtain ⟨bl,ms,clock,e0,e1,e2,e3⟩:=hob
 cases hr with
 |mapr h ho=>
  rw [e0] at ho
  cases ho
  exact ⟨bl,ms,clock,rfl,e0,e1,e2,e3⟩
noncomputable def lookA (z:AV) (u:Value) (es:List (Value×AV)) (ok:Bool):AV:=
 match findM u es with
 |some (_,a)=>if ok=true then .tup [a,.b true] else a
 |none=>if ok=true then .tup [z,.b false] else z
theorem look_run {C:Ctx} {σ:Nat→AObj} {w:World} {ρ:Operand→AV} {ρv:Operand→Value} {t kt et:TypeId} {x ix:Operand} {ok:Bool} {it ie:TI} {m:Nat} {es:List (Value×AV)} {u:Value} (hs:Sim C σ w) (hρ:∀x,RepA w C (ρ x) (ρv x)) (ho:o.op= .lookup t x ix ok)
  (ht:TT P t=some it) (hd:it.desc= .map kt et) (he:TT P et=some ie) (hk:keyKind P kt=true) (hx:ρ x= .mapr m) (hσ:σ m= .map es) (hu:plainA (ρ ix)=some u) (hc:ckA P 10000 kt (ρ ix)=true) (htell:TellM P kt (ρ ix) u es):
  ∃v,(execOp ρv o).run P w= .ok (.value v) w∧RepA w C (lookA (ofConst ie.zero) u es ok) v:=by
 have hmx:=hρ x
 rw [hx] at hmx
 obtain ⟨bl,ms,clock,e0,e1,e2,e3,e4⟩:=obj_map hs hσ hmx
 have hix:=rep_plain hu (hρ ix)
 have hund:P.underlying t=some (.map kt et):=by rw [(tt_some ht).1,hd]
 have hck:(Instr.checkKey ms.isEmpty 10000 kt u).run P w= .ok () w:=by
  have:=ckA_run (w:=w) (C:=C) ms.isEmpty 10000 kt (ρ ix) (ρv ix) hc (hρ ix)
  rwa [hix] at this
 obtain ⟨f1,f2⟩:=find_run (w:=w) (C:=C) hk hc hu es ms htell e3 e4
 cases hf:findM u es with
 |none=>
  have:=f1 hf
  refine ⟨if ok=true then .tuple #[ie.zero,.bool false] else ie.zero,?_,?_⟩
  ·have hrun:(execOp ρv o).run P w= .ok (.value (if ok=true then .tuple #[ie.zero,.bool false] else ie.zero)) w:=by
    simp only [execOp,ho,Instr.lookup,Sem.run_bind,run_underlying hund,Result.andThen_ok,e0,hix,MapKept.run_getObj_map e2,Sem.run_pure,hck,this,run_zero he]
   exact hrun
  ·rw [lookA,hf]
   cases ok
   ·exact const_rep _
   ·exact .tup rfl fun k a v ha hv=>by
     match k with
     |0=>simp at ha hv;subst ha;subst hv;exact const_rep _
     |1=>simp at ha hv;subst ha;subst hv;exact .t (.v rfl)
     |k+2=>simp at ha
 |some p=>
  obtain ⟨j,a⟩:=p
  obtain ⟨me,g1,g2,g3,g4⟩:=f2 j a hf
  refine ⟨if ok=true then .tuple #[me.val,.bool true] else me.val,?_,?_⟩
  ·have hrun:(execOp ρv o).run P w= .ok (.value (if ok=true then .tuple #[me.val,.bool true] else me.val)) w:=by
    simp only [execOp,ho,Instr.lookup,Sem.run_bind,run_underlying hund,Result.andThen_ok,e0,hix,MapKept.run_getObj_map e2,Sem.run_pure,hck,g4]
   exact hrun
  ·rw [lookA,hf]
   cases ok
   ·exact g3
   ·exact .tup rfl fun k b v hb hv=>by
     match k with
     |0=>simp at hb hv;subst hb;subst hv;exact g3
     |1=>simp at hb hv;subst hb;subst hv;exact .t (.v rfl)
     |k+2=>simp at hb
theorem K_lookup {t kt et:TypeId} {x ix:Operand} {ok:Bool} {it ie:TI} {m:Nat} {es:List (Value×AV)} {u:Value} {r:AV} (hg:o.guard=none) (ho:o.op= .lookup t x ix ok) (hd:dOk B.n o.dst=true)
  (ht:TT P t=some it) (hdesc:it.desc= .map kt et) (he:TT P et=some ie) (hk:keyKind P kt=true) (hx:ev s.m x= .mapr m) (hσ:s.σ m= .map es) (hu:plainA (ev s.m ix)=some u) (hc:ckA P 10000 kt (ev s.m ix)=true) (htell:TellM P kt (ev s.m ix) u es) (hr:lookA (ofConst ie.zero) u es ok=r)
  (h:Kp P B (.ops all rest :: k) R .normal ⟨put s.m o.dst r,s.σ,s.nx⟩):Kp P B (.ops all (o :: rest) :: k) R .normal s:=by
 intro a w hrel
 refine wpL_plain hg fun K hK=>?_
 obtain ⟨C,h1,h2,h3,h4,h5,h6⟩:=hrel
 obtain ⟨v,g1,g2⟩:=look_run h5 (ev_rep h2) ho ht hdesc he hk hx hσ hu hc htell
 rw [hr] at g2
 exact owp_value g1 (hK _ _ (h _ _ ⟨C,h1,put_rep h5 (Step.refl _ _ _) h2 (by rw [h3];exact hd) g2,by rw [put_size];exact h3,by rw [put_def];exact h4,h5,h6⟩))
theorem K_dLookup {lo:List Nat} {sw:SW} {i:Nat} {rest:List (Nat×Oper)} {pend:List Rc} {t kt et:TypeId} {x ix:Operand} {ok:Bool} {it ie:TI} {m:Nat} {es:List (Value×AV)} {u:Value} {r:AV} (hl:lets all s.m o=some true) (ho:o.op= .lookup t x ix ok)
  (ht:TT P t=some it) (hdesc:it.desc= .map kt et) (he:TT P et=some ie) (hk:keyKind P kt=true) (hx:ev s.m x= .mapr m) (hσ:s.σ m= .map es) (hu:plainA (ev s.m ix)=some u) (hc:ckA P 10000 kt (ev s.m ix)=true) (htell:TellM P kt (ev s.m ix) u es) (hr:lookA (ofConst ie.zero) u es ok=r)
  (htied:tied all lo i=true) (h:Kp P B (.opsD all lo sw rest pend :: k) R .normal ⟨put s.m o.dst r,s.σ,s.nx⟩):Kp P B (.opsD all lo sw ((i,o) :: rest) pend :: k) R .normal s:=
 Chain.at fun ho'=>Chain.step (loud:=none) (v:=r) (by
  intro C a w hn hs hsz hrep ro K Q hK
  have hops:=mask_ev (m:=s.m) ho'
  have hd:dstOf all i=o.dst:=by simp [dstOf,ho']
  simp only [wpO,wpOpIn,ho',lets_wanted ho' hrep hl,if_true]
  have ex:=hops x (by simp [ho,Op.operands])
  have eix:=hops ix (by simp [ho,Op.operands])
  obtain ⟨v,g1,g2⟩:=look_run hs (ev_rep hrep) ho ht hdesc he hk (by rw [ex];exact hx) hσ (by rw [eix];exact hu) (by rw [eix];exact hc) (by rw [eix];exact htell)
  rw [hd] at hK
  rw [hr] at g2
  exact owp_value g1 (hK _ _ C hs hn (Step.refl _ _ _) g2)) (fun _=>.inr (by
  simp only [tied,List.all_eq_true,Bool.and_eq_true,Bool.or_eq_true,Bool.not_eq_true',decide_eq_false_iff_not] at htied
  exact ⟨fun k hk h=>((htied k hk).1).resolve_left (fun e=>e h),.inl fun k hk h=>((htied k hk).2).resolve_left (fun e=>e h)⟩)) (fun c hc=>by cases hc) (fun _ h=>h) h
noncomputable def setM (u:Value) (a:AV) (es:List (Value×AV)):List (Value×AV):=
 match findM u es with
 |some (j,_)=>es.set j (u,a)
 |none=>es++[(u,a)]
theorem run_stays {w:World} {v:Value} (h:Instr.sameBits 10000 v v=true):(Instr.keyThatStays v v).run P w= .ok v w:=by
 simp only [Instr.keyThatStays,h,if_true,Sem.run_pure]
theorem K_mapSet {t kt et:TypeId} {x ix y:Operand} {it:TI} {m:Nat} {es:List (Value×AV)} {u:Value} (hg:o.guard=none) (ho:o.op= .mapUpdate t x ix y) (hd:dOk B.n o.dst=true)
  (ht:TT P t=some it) (hdesc:it.desc= .map kt et) (hk:keyKind P kt=true) (hx:ev s.m x= .mapr m) (hσ:s.σ m= .map es) (hu:plainA (ev s.m ix)=some u) (hc:ckA P 10000 kt (ev s.m ix)=true) (htell:TellM P kt (ev s.m ix) u es) (hsame:findM u es=none∨Instr.sameBits 10000 u u=true)
  (h:Kp P B (.ops all rest :: k) R .normal ⟨put s.m o.dst (.tup []),oput s.σ m (.map (setM u (ev s.m y) es)),s.nx⟩):Kp P B (.ops all (o :: rest) :: k) R .normal s:=by
 intro a w hrel
 refine wpL_plain hg fun K hK=>?_
 obtain ⟨C,h1,h2,h3,h4,h5,h6⟩:=hrel
 have hρ:=ev_rep h2
 have hmx:=hρ x
 rw [hx] at hmx
 obtain ⟨bl,ms,clock,e0,ow,e2,e3,e4⟩:=obj_map h5 hσ hmx
 have hix:=rep_plain hu (hρ ix)
 have hy:=hρ y
 have hund:P.underlying t=some (.map kt et):=by rw [(tt_some ht).1,hdesc]
 have hck:(Instr.checkKey false 10000 kt u).run P w= .ok () w:=by
  have:=ckA_run (w:=w) (C:=C) false 10000 kt (ev s.m ix) (a.eval ix) hc (hρ ix)
  rwa [hix] at this
 obtain ⟨f1,f2⟩:=find_run (w:=w) (C:=C) hk hc hu es ms htell e3 e4
 have hlt:bl<w.heap.size:=(Array.getElem?_eq_some_iff.1 e2).1
 have hdead:s.σ m≠ .dead:=by rw [hσ];exact (fun h=>by cases h)
 have fin:∀(ms':Array MapEntry) (clock':Nat),(execOp a.eval o).run P w= .ok .skip {w with heap:=w.heap.setIfInBounds bl (.map ms' clock')}→
   ((setM u (ev s.m y) es).length=ms'.size∧∀(k:Nat) (b:Value×AV) (v:MapEntry),(setM u (ev s.m y) es)[k]? =some b→ms'[k]? =some v→v.key=b.1∧RepA w C b.2 v.val)→owp B.ro P o a w K (post B (Kp P B k R)):=by
  intro ms' clock' hrun ⟨l1,l2⟩
  have hne:∀b,b≠bl→(w.heap.setIfInBounds bl (.map ms' clock'))[b]? =w.heap[b]?:=fun b hb=>by simp [Array.getElem?_setIfInBounds_ne (Ne.symm hb)]
  have hk0:Keeps w C.imm {w with heap:=w.heap.setIfInBounds bl (.map ms' clock')} C.imm:=⟨fun _ h=>h,fun b hb=>hne b fun e=>h5.sep m bl hdead ow (e ▸ hb)⟩
  obtain ⟨g1,g2⟩:=sim_set (w':={w with heap:=w.heap.setIfInBounds bl (.map ms' clock')}) (obj:=.map (setM u (ev s.m y) es)) h5 hdead ow rfl rfl rfl (by simp) hne ⟨bl,ms',clock',ow,by simp [hlt],l1,fun k b v hb hv=>by
   obtain ⟨p1,p2⟩:=l2 k b v hb hv
   exact ⟨p1,p2.keeps hk0 ⟨Nat.le_refl _,fun _ _=>rfl,fun _ _=>rfl⟩⟩⟩
  exact owp_skip hrun (hK _ _ (h _ _ ⟨C,h1,put_rep h5 g2 h2 (by rw [h3];exact hd) (.tup rfl (fun k a u h=>by simp at h)),by rw [put_size];exact h3,by rw [put_def];exact h4.step g2,g1,h6.trans g2⟩))
 cases hf:findM u es with
 |none=>
  refine fin (ms.push {key:=u,val:=a.eval y,born:=clock}) (clock+1) ?_ ?_
  ·simp only [execOp,ho,Instr.mapUpdate,Sem.run_bind,run_underlying hund,Result.andThen_ok,e0,hix,MapKept.run_getObj_map e2,Sem.run_pure,hck,f1 hf,MapKept.run_setObj_map _ e2]
  ·rw [setM,hf]
   refine ⟨by simp [e3],fun k b v hb hv=>?_⟩
   simp only at hb
   by_cases hk':k<es.length
   ·rw [List.getElem?_append_left hk'] at hb
    rw [Array.getElem?_push_lt (by omega)] at hv
    exact e4 k b v hb (by rw [Array.getElem?_eq_getElem (by omega)];exact hv)
   ·rw [List.getElem?_append_right (by omega)] at hb
    have hk0:k-es.length=0:=by
     have:=(List.getElem?_eq_some_iff.1 hb).1
     simp at this;omega
    have hke:k=ms.size:=by omega
    subst hke
    rw [hk0] at hb
    simp at hb hv
    subst hb;subst hv
    exact ⟨rfl,hy⟩
 |some p=>
  obtain ⟨j,b0⟩:=p
  obtain ⟨me,g1,g2,g3,g4⟩:=f2 j b0 hf
  have hst:=run_stays (P:=P) (w:=w) (hsame.resolve_left (by rw [hf];simp))
  have hjlt:j<ms.size:=(Array.getElem?_eq_some_iff.1 g1).1
  refine fin (ms.modify j fun e=>{e with key:=u,val:=a.eval y}) clock ?_ ?_
  ·simp only [execOp,ho,Instr.mapUpdate,Sem.run_bind,run_underlying hund,Result.andThen_ok,e0,hix,MapKept.run_getObj_map e2,Sem.run_pure,hck,g4,g1,Option.map_some,Option.getD_some,g2,hst,MapKept.run_setObj_map _ e2]
  ·rw [setM,hf]
   refine ⟨by simp [e3],fun k b v hb hv=>?_⟩
   simp only at hb
   by_cases hkj:k=j
   ·subst hkj
    rw [List.getElem?_set_self (by omega)] at hb
    cases hb
    rw [Array.getElem?_modify,if_pos rfl,g1] at hv
    cases hv
    exact ⟨rfl,hy⟩
   ·rw [List.getElem?_set_ne (fun e=>hkj e.symm)] at hb
    rw [Array.getElem?_modify,if_neg (fun e=>hkj e.symm)] at hv
    exact e4 k b v hb hv
end
end Go.Proofs.YtnoifgjiipgpoaaGreatDoor.R

set_option maxRecDepth 10000
namespace Go.Proofs.YtnoifgjiipgpoaaGreatDoor.R
open Go.RowKit
section
variable {P:Program} {B:Base} {k:List KI} {R:Post} {s:St} {all:Array Oper} {o:Oper} {rest:List Oper}
theorem rep_slN {w:World} {C:Ctx} {es:List (List T)} {v:Value} (h:RepA w C (.t (.sl es)) v):∃a l c,v= .slice a l c∧(es≠[]→a.isNone=false):=by
 cases h with
 |t h=>
  cases h with
  |nil=>exact ⟨_,_,_,rfl,fun h=>absurd rfl h⟩
  |sl h0=>exact ⟨_,_,_,rfl,fun _=>rfl⟩
theorem nil_run {w:World} {ρv:Operand→Value} {t t' e:TypeId} {x:Operand} {a:Option Addr} {l c:Nat} (ho:o.op= .binOp .eql t x (.const (.slice none 0 0)) t') (hu:P.underlying t=some (.slice e)) (hx:ρv x= .slice a l c) (hc:ρv (.const (.slice none 0 0))= .slice none 0 0):
  (execOp ρv o).run P w= .ok (.value (.bool a.isNone)) w:=by
 have he:=run_equal_slice_nil (P:=P) w t e a l c hu
 simp only [execOp,ho,hx,hc,Sem.run_bind,eqGuard,binOp]
 simp [he]
theorem K_nilEq {t t':TypeId} {x:Operand} {it:TI} {e:TypeId} {es:List (List T)} (hg:o.guard=none) (ho:o.op= .binOp .eql t x (.const (.slice none 0 0)) t') (hd:dOk B.n o.dst=true) (ht:TT P t=some it) (hdesc:it.desc= .slice e) (hx:ev s.m x= .t (.sl es))
  (h:∀b:Bool,(es≠[]→b=false)→Kp P B (.ops all rest :: k) R .normal ⟨put s.m o.dst (.b b),s.σ,s.nx⟩):Kp P B (.ops all (o :: rest) :: k) R .normal s:=by
 intro a w hrel
 refine wpL_plain hg fun K hK=>?_
 obtain ⟨C,h1,h2,h3,h4,h5,h6⟩:=hrel
 have hrx:=ev_rep h2 x
 rw [hx] at hrx
 obtain ⟨ad,l,c,hv,hn⟩:=rep_slN hrx
 have hund:P.underlying t=some (.slice e):=by rw [(tt_some ht).1,hdesc]
 exact owp_value (nil_run ho hund hv rfl) (hK _ _ (h ad.isNone hn _ _ ⟨C,h1,put_rep h5 (Step.refl _ _ _) h2 (by rw [h3];exact hd) (.t (.v rfl)),by rw [put_size];exact h3,by rw [put_def];exact h4,h5,h6⟩))
end
theorem K_drawnG {P:Program} {B:Base} {k:List KI} {R:Post} {s:St} {all:Array Oper} {id:Nat} (lo fl ld:List Nat) (hm:P.follows .mixedOrders=true) (hst:statOK all B.n lo=true) (ht:((List.range all.size).all (fun i=>tied all lo i== !fl.contains i)&&ld.all (fun i=>flo all lo i))=true)
  (h:(∀i,i<all.size→tied all lo i= !fl.contains i)→(∀i,i∈ld→flo all lo i=true)→Kp P B (.opsD all lo none (num 0 all.toList) [] :: k) R .normal s):Kp P B (.code (.region id all true) :: k) R .normal s:=by
 rw [Bool.and_eq_true] at ht
 exact K_drawn lo hm hst (h (fun i hi=>eq_of_beq (List.all_eq_true.1 ht.1 i (List.mem_range.2 hi))) (fun i hi=>List.all_eq_true.1 ht.2 i hi))
end Go.Proofs.YtnoifgjiipgpoaaGreatDoor.R

namespace Go.Proofs.YtnoifgjiipgpoaaGreatDoor.R
open Go.RowKit
section
variable {P:Program} {B:Base} {k:List KI} {R:Post} {s:St}
theorem K_cut {α:Type} (I:α→Prop) (st:α→St) {c:Code} (h1:Kp P B [.code c] (fun e s'=>e= .normal∧∃y,I y∧Imp B s' (st y)) .normal s) (h2:∀y,I y→Kp P B k R .normal (st y)):Kp P B (.code c :: k) R .normal s:=by
 intro a w hr
 refine cwp_mono (h1 a w hr) fun e a' w' hp=>?_
 obtain ⟨s',⟨rfl,y,hy,hi⟩,h3⟩:=hp
 exact ⟨st y,h2 y hy,hi _ _ h3⟩
theorem Imp.looseB {b:Nat} {cs:List AV} (hb:s.σ b= .box cs):Imp B s ⟨s.m,oput s.σ b (.box (cs.map loosen)),s.nx⟩:=by
 intro a w hr
 obtain ⟨C,h1,h2,h3,h4,h5,h6⟩:=hr
 have hd:∀j,oput s.σ b (.box (cs.map loosen)) j≠ .dead↔s.σ j≠ .dead:=fun j=>by
  by_cases e:j=b
  ·subst e;simp [oput,hb]
  ·simp [oput,e]
 have hob:=h5.obj b
 rw [hb] at hob
 obtain ⟨bl,vs,E,e1,e2,e3,e4⟩:=hob
 refine ⟨C,h1,h2,h3,h4.less (fun _ h=>.inl h) (fun x ⟨i,hi,hx⟩=>.inr ⟨i,(hd i).1 hi,hx⟩),⟨fun i hi=>?_,fun i=>?_,fun i j x hi hj=>h5.inj i j x ((hd i).1 hi) ((hd j).1 hj),fun i x hi=>h5.sep i x ((hd i).1 hi),h5.imm_lt⟩,
  ⟨h6.le,h6.os,h6.tape,h6.output,h6.size,h6.imm,h6.same,fun x ⟨i,hi,hx⟩=>h6.wr x ⟨i,(hd i).1 hi,hx⟩,h6.imm'⟩⟩
 ·exact Classical.byContradiction fun h=>(hd i).1 h (h5.dead i hi)
 ·by_cases e:i=b
  ·subst e
   show RepO w C i (oput s.σ i (.box (cs.map loosen)) i)
   simp only [oput,if_true]
   refine ⟨bl,vs,E,e1,e2,by simpa using e3,fun k x u hx hu=>?_⟩
   rw [List.getElem?_map] at hx
   obtain ⟨y,hy,rfl⟩:=Option.map_eq_some_iff.1 hx
   exact loosen_rep (e4 k y u hy hu)
  ·show RepO w C i (oput s.σ b (.box (cs.map loosen)) i)
   simp only [oput,if_neg e]
   exact h5.obj i
end
end Go.Proofs.YtnoifgjiipgpoaaGreatDoor.R

namespace Go.Proofs.YtnoifgjiipgpoaaGreatDoor.R
open Go.RowKit
section
variable {P:Program}
theorem eq3_run {t e:TypeId} {i:TypeInfo} (hu:P.underlying t=some (.array 3 e)) (hi:P.info? e=some i) (hc:P.cellsOf e=1) (hk:P.plainKey e=true) (he:P.underlying e=some (.int .u64)) (a b c a' b' c':Int) (w:World):
  (Op.equalIn 10000 t (.agg #[.int .u64 a,.int .u64 b,.int .u64 c]) (.agg #[.int .u64 a',.int .u64 b',.int .u64 c'])).run P w= .ok (a==a'&&(b==b'&&c==c')) w:=by
 rw [show (10000:Nat)=9999+1 from rfl,run_equalIn_array w 9999 _ _ hu hi,hc,show List.range 3=[0,1,2] from rfl]
 have q:∀(x y z:Int) (k:Nat) (v:Value),(#[Value.int .u64 x,.int .u64 y,.int .u64 z])[k]? =some v→(part e #[Value.int .u64 x,.int .u64 y,.int .u64 z] k).run P w= .ok v w:=fun x y z k v h=>run_part_plain w hk h
 have e1:∀x y:Int,(Op.equalIn 9999 e (.int .u64 x) (.int .u64 y)).run P w= .ok (x==y) w:=fun x y=>run_equalIn_int (P:=P) (w:=w) 9998 e .u64 .u64 x y he
 simp only [Op.eqItems,Sem.run_bind,Nat.mul_one,q a b c 0 (.int .u64 a) rfl,q a b c 1 (.int .u64 b) rfl,q a b c 2 (.int .u64 c) rfl,q a' b' c' 0 (.int .u64 a') rfl,q a' b' c' 1 (.int .u64 b') rfl,q a' b' c' 2 (.int .u64 c') rfl,Result.andThen_ok,e1]
 cases h1:a==a'<;>cases h2:b==b'<;>cases h3:c==c'<;>simp only [Bool.not_true,Bool.not_false,if_true,if_false,Bool.false_eq_true,Sem.run_bind,Sem.run_pure,Result.andThen_ok,q a b c 0 (.int .u64 a) rfl,q a b c 1 (.int .u64 b) rfl,q a b c 2 (.int .u64 c) rfl,q a' b' c' 0 (.int .u64 a') rfl,q a' b' c' 1 (.int .u64 b') rfl,q a' b' c' 2 (.int .u64 c') rfl,e1,h1,h2,h3,Bool.and_true,Bool.and_false,Bool.true_and,Bool.false_and]
theorem rep_three {w:World} {C:Ctx} {a b c:Int} {u:Value} (h:RepA w C (.agg [.t (.v (.int .u64 a)),.t (.v (.int .u64 b)),.t (.v (.int .u64 c))]) u):u= .agg #[.int .u64 a,.int .u64 b,.int .u64 c]:=by
 obtain ⟨us,rfl,hl,hr⟩:=rep_agg h
 obtain ⟨l⟩:=us
 match l,hl with
 |[x,y,z],_=>
  obtain ⟨rfl,_⟩:=rep_v (hr 0 _ x rfl rfl)
  obtain ⟨rfl,_⟩:=rep_v (hr 1 _ y rfl rfl)
  obtain ⟨rfl,_⟩:=rep_v (hr 2 _ z rfl rfl)
  rfl
theorem does_eq3 {all:Array Oper} {i n:Nat} {o:Oper} {m:Slots} {t t' e:TypeId} {ti:TypeInfo} {x y:Operand} {a b c a' b' c':Int} (ho':all[i]? =some o) (hl:lets all m o=some true) (ho:o.op= .binOp .eql t x y t')
  (hx:ev m x= .agg [.t (.v (.int .u64 a)),.t (.v (.int .u64 b)),.t (.v (.int .u64 c))]) (hy:ev m y= .agg [.t (.v (.int .u64 a')),.t (.v (.int .u64 b')),.t (.v (.int .u64 c'))]) (hg:P.eqGuardType P.depth t=false)
  (hu:P.underlying t=some (.array 3 e)) (hi:P.info? e=some ti) (hc:P.cellsOf e=1) (hk:P.plainKey e=true) (he:P.underlying e=some (.int .u64)) (σ:Nat→AObj) (nx:Nat):Does P n all i m σ nx (.b (a==a'&&(b==b'&&c==c'))) σ nx:=by
 intro C ac w hn hs hsz hrep ro K Q hK
 have hops:=mask_ev (m:=m) ho'
 have hd:dstOf all i=o.dst:=by simp [dstOf,ho']
 simp only [wpO,wpOpIn,ho',lets_wanted ho' hrep hl,if_true]
 rw [hd] at hK
 have h1:=ev_rep hrep x
 have h2:=ev_rep hrep y
 rw [hops x (by simp [ho,Op.operands]),hx] at h1
 rw [hops y (by simp [ho,Op.operands]),hy] at h2
 refine owp_value ?_ (hK _ _ C hs hn (Step.refl _ _ _) (.t (.v rfl)))
 simp only [execOp,ho,Sem.run_bind,rep_three h1,rep_three h2,run_eqGuard_agg _ _ _ _ _ _ _ hg,Result.andThen_ok,run_eql_struct,eq3_run hu hi hc hk he,Sem.run_pure]
end
section
variable {P:Program} {B:Base} {k:List KI} {R:Post} {s:St}
theorem K_dEq3 {all:Array Oper} {lo:List Nat} {sw:SW} {i:Nat} {pend:List Rc} {o:Oper} {rest:List (Nat×Oper)} {t t' e:TypeId} {ti:TypeInfo} {x y:Operand} {a b c a' b' c':Int} (hl:lets all s.m o=some true) (ho:o.op= .binOp .eql t x y t')
  (hx:ev s.m x= .agg [.t (.v (.int .u64 a)),.t (.v (.int .u64 b)),.t (.v (.int .u64 c))]) (hy:ev s.m y= .agg [.t (.v (.int .u64 a')),.t (.v (.int .u64 b')),.t (.v (.int .u64 c'))]) (hg:P.eqGuardType P.depth t=false)
  (hu:P.underlying t=some (.array 3 e)) (hi:P.info? e=some ti) (hc:P.cellsOf e=1) (hk:P.plainKey e=true) (he:P.underlying e=some (.int .u64))
  (h:Kp P B (.opsD all lo sw rest pend :: k) R .normal ⟨put s.m o.dst (.b (a==a'&&(b==b'&&c==c'))),s.σ,s.nx⟩):Kp P B (.opsD all lo sw ((i,o) :: rest) pend :: k) R .normal s:=
 Chain.at fun ho'=>Chain.step (loud:=none) (does_eq3 ho' hl ho hx hy hg hu hi hc hk he _ _) (fun _=>.inl (does_eq3 ho' hl ho hx hy hg hu hi hc hk he)) (fun c hc=>by cases hc) (fun _ h=>h) h
end
end Go.Proofs.YtnoifgjiipgpoaaGreatDoor.R

namespace Go.Proofs.YtnoifgjiipgpoaaGreatDoor.R
open Go.RowKit
section
variable {P:Program} {C:Ctx} {σ:Nat→AObj} {w:World}
theorem run_from {t e:TypeId} {i:TI} (ht:P.underlying t=some (.slice e)) (he:TT P e=some i) (a:Option Addr) (len cap n:Nat) (k:IntKind) (hn:n≤len) (hc:len≤cap) (w:World):
  (Instr.sliceAt t (.slice a len cap) (some (.int k n)) none none).run P w= .ok (sliced a n len cap i.size) w:=by
 have hel:P.elem t=e:=by simp [Program.elem,ht]
 rw [run_sliceAt_slice w t _ _ _ _ (by rw [hel];exact ht),run_slice_any w t a len cap (by rw [hel];exact ht),hel]
 simp [Instr.sliceBounds,Instr.sliceBound,asIntOf,hn,hc,run_size he]
theorem run_to {t e:TypeId} {i:TI} (ht:P.underlying t=some (.slice e)) (he:TT P e=some i) (a:Option Addr) (len cap n:Nat) (k:IntKind) (hn:n≤cap) (w:World):
  (Instr.sliceAt t (.slice a len cap) none (some (.int k n)) none).run P w= .ok (sliced a 0 n cap i.size) w:=by
 have hel:P.elem t=e:=by simp [Program.elem,ht]
 rw [run_sliceAt_slice w t _ _ _ _ (by rw [hel];exact ht),run_slice_any w t a len cap (by rw [hel];exact ht),hel]
 simp [Instr.sliceBounds,Instr.sliceBound,asIntOf,hn,run_size he]
theorem cut_rows {es:List (List T)} {z:List T} {n sz:Nat} (h1:∀e∈es,e.length=sz) (h2:z.length=sz):∀e∈es.take n++List.replicate (es.length-n) z,e.length=sz:=by
 intro e he
 rcases List.mem_append.1 he with he | he
 ·exact h1 e (List.mem_of_mem_take he)
 ·rw [(List.mem_replicate.1 he).2];exact h2
theorem clear_tail (hs:Sim C σ w) {t e ty:TypeId} {ie:TI} {q bl n cap n0:Nat} {es:List (List T)} {z:List T} (ht:P.underlying t=some (.slice e)) (he:TT P e=some ie) (hz:toTs (zeroA ie)=some z)
  (hσ:σ q= .arr ie.size es) (ho:C.own q=some bl) (hh:C.hdr q= .slice (some ⟨bl,0,none⟩) n0 cap) (hn:n≤es.length):
  ∃w',(Builtin.clear_ #[t] ty #[sliced (some ⟨bl,0,none⟩) n es.length cap ie.size]).run P w= .ok (.tuple #[]) w'∧
   Sim C (oput σ q (.arr ie.size (es.take n++List.replicate (es.length-n) z))) w'∧Step C σ w C (oput σ q (.arr ie.size (es.take n++List.replicate (es.length-n) z))) w':=by
 obtain ⟨h4,h5,hsz,vs,E,lo,hi,h6,h7,h8,h9⟩:=obj_arr hs hσ ho hh
 by_cases hne:n=es.length
 ·subst hne
  have e1:oput σ q (.arr ie.size (es.take es.length++List.replicate (es.length-es.length) z))=σ:=by
   funext j
   by_cases hj:j=q
   ·subst hj;simp [oput,hσ]
   ·simp [oput,hj]
  rw [e1]
  refine ⟨w,?_,hs,Step.refl _ _ _⟩
  by_cases hc:cap=es.length<;>simp [Builtin.clear_,sliced,run_underlying ht,hc]
 ·have hlt:n<es.length:=by omega
  obtain ⟨hzl,hzr⟩:=zeroT (C:=C) (w:=w) hz
  have hzs:=tt_zero he
  have hle:es.length*ie.size≤cap*ie.size:=Nat.mul_le_mul_right _ h5
  have hsub:(es.length-n)*ie.size=es.length*ie.size-n*ie.size:=Nat.sub_mul _ _ _
  have hnle:n*ie.size≤es.length*ie.size:=Nat.mul_le_mul_right _ hn
  have hcs:(Builtin.zeroCells ie.zero.cells (es.length-n)).size=(es.length-n)*ie.size:=by rw [zero_cells,hzs]
  have hone:∀v∈(Builtin.zeroCells ie.zero.cells (es.length-n)).toList,v.oneCell'=true:=by
   intro v hv
   obtain ⟨k,hk,rfl⟩:=List.getElem_of_mem hv
   have hk':k<(es.length-n)*ie.zero.cells.size:=by rw [Array.length_toList,zero_cells] at hk;exact hk
   have hg:(Builtin.zeroCells ie.zero.cells (es.length-n))[k]? =ie.zero.cells[k % ie.zero.cells.size]?:=mod_get hk'
   have hpos:0<ie.zero.cells.size:=by
    rcases Nat.eq_zero_or_pos ie.zero.cells.size with h0 | h0
    ·rw [h0] at hk';simp at hk'
    ·exact h0
   have hmod:=Nat.mod_lt k hpos
   have e1:(Builtin.zeroCells ie.zero.cells (es.length-n)).toList[k]=ie.zero.cells[k % ie.zero.cells.size]:=by
    rw [Array.getElem?_eq_getElem (by rw [zero_cells];exact hk'),Array.getElem?_eq_getElem hmod] at hg
    simpa using Option.some.inj hg
   rw [e1]
   exact repT_one (hzr _ (z[k % ie.zero.cells.size]'(by omega)) _ (List.getElem?_eq_getElem _) (Array.getElem?_eq_getElem hmod))
  obtain ⟨w',vs',e1,e2,e3,e4,e5,e6,e7,e8,e9⟩:=run_stores (P:=P) bl (n*ie.size) E lo hi (Builtin.zeroCells ie.zero.cells (es.length-n)).toList 0 vs w h6 (by rw [Array.length_toList,hcs];omega) hone (by rw [h7];exact h8)
  have hd:σ q≠ .dead:=by rw [hσ];exact fun h=>by cases h
  have hk:Keeps w C.imm w' C.imm:=⟨fun b h=>h,fun b' h=>e5 b' fun e=>hs.sep q bl hd ho (e ▸ h)⟩
  have hlen':(es.take n++List.replicate (es.length-n) z).length=es.length:=by
   rw [List.length_append,List.length_take,List.length_replicate];omega
  have hrows:=cut_rows (n:=n) hsz (z:=z) (by omega)
  obtain ⟨g1,g2⟩:=sim_set hs hd ho e7 e8 e9 e6 e5 (obj:=.arr ie.size (es.take n++List.replicate (es.length-n) z)) ⟨hrows,
   .inr ⟨bl,cap,vs',E,lo,hi,ho,by rw [hlen',hh,h4],by omega,e2,by omega,h8,fun j k y c u hy hc hu=>by
    rw [e4] at hu
    simp only [Nat.add_zero,Array.length_toList,hcs] at hu
    have hyl:=hrows y (List.mem_of_getElem? hy)
    have hkl:k<y.length:=(List.getElem?_eq_some_iff.1 hc).1
    have hj:j<es.length:=by rw [←hlen'];exact (List.getElem?_eq_some_iff.1 hy).1
    have hj1:(j+1)*ie.size≤es.length*ie.size:=Nat.mul_le_mul_right _ hj
    rw [Nat.add_mul,Nat.one_mul] at hj1
    by_cases hjn:j<n
    ·have:(j+1)*ie.size≤n*ie.size:=Nat.mul_le_mul_right _ hjn
     rw [Nat.add_mul,Nat.one_mul] at this
     rw [if_neg (by omega)] at hu
     rw [List.getElem?_append_left (by rw [List.length_take];omega),List.getElem?_take,if_pos hjn] at hy
     exact (h9 _ _ _ _ _ hy hc hu).keeps hk
    ·have:n*ie.size≤j*ie.size:=Nat.mul_le_mul_right _ (by omega)
     rw [if_pos (by omega)] at hu
     rw [List.getElem?_append_right (by rw [List.length_take];omega),List.getElem?_replicate] at hy
     split at hy
     ·cases hy
      rw [Array.getElem?_toList] at hu
      have hm:j*ie.size+k-n*ie.size=(j-n)*ie.size+k:=by rw [Nat.sub_mul];omega
      rw [hm] at hu
      have hjm:(j-n+1)*ie.size≤(es.length-n)*ie.size:=Nat.mul_le_mul_right _ (by omega)
      rw [Nat.add_mul,Nat.one_mul] at hjm
      have hg:(Builtin.zeroCells ie.zero.cells (es.length-n))[(j-n)*ie.size+k]? =ie.zero.cells[((j-n)*ie.size+k) % ie.zero.cells.size]?:=mod_get (by rw [hzs];omega)
      have hmd:((j-n)*ie.size+k) % ie.size=k:=by rw [Nat.mul_comm,Nat.mul_add_mod,Nat.mod_eq_of_lt (by omega)]
      rw [hg,hzs,hmd] at hu
      exact (hzr k c u hc hu).keeps hk
     ·cases hy⟩⟩
  refine ⟨w',?_,g1,g2⟩
  have hcap:¬cap=n:=by omega
  obtain ⟨m,hm⟩:∃m,es.length-n=m+1:=⟨es.length-n-1,by omega⟩
  simp only [sliced,if_neg hcap,Option.map_some,add_base,Nat.zero_add]
  rw [hm] at e1 ⊢
  simp [Builtin.clear_,run_underlying ht,run_zero he,e1]
theorem sim_cut (hs:Sim C σ w) {q bl sz cap n0 n:Nat} {es:List (List T)} (hσ:σ q= .arr sz es) (ho1:C.own q=some bl) (hhq:C.hdr q= .slice (some ⟨bl,0,none⟩) n0 cap) (hn:n≤es.length):
  ∃C',C'.nx=C.nx+1∧Sim C' (oput (oput σ q .dead) C.nx (.arr sz (es.take n))) w∧Step C σ w C' (oput (oput σ q .dead) C.nx (.arr sz (es.take n))) w∧RepA w C' (.ref C.nx) (.slice (some ⟨bl,0,none⟩) n cap):=by
 obtain ⟨_,h5,hsz,vs,E,lo,hi,h6,h7,h8,h9⟩:=obj_arr hs hσ ho1 hhq
 have hqd:σ q≠ .dead:=by rw [hσ];exact fun h=>by cases h
 have hlen:(es.take n).length=n:=by rw [List.length_take];omega
 obtain ⟨C',hC⟩:∃C':Ctx,C'=⟨C.imm,fun j=>if j=C.nx then some bl else C.own j,fun j=>if j=C.nx then .slice (some ⟨bl,0,none⟩) n cap else C.hdr j,C.nx+1⟩:=⟨_,rfl⟩
 have himm:C'.imm=C.imm:=by rw [hC]
 have hnx:C'.nx=C.nx+1:=by rw [hC]
 have hown:∀j,C'.own j=if j=C.nx then some bl else C.own j:=fun j=>by rw [hC]
 have hh:C'.hdr C.nx= .slice (some ⟨bl,0,none⟩) n cap:=by rw [hC];exact if_pos rfl
 have hk:Keeps w C.imm w C'.imm:=by rw [himm];exact ⟨fun b h=>h,fun b h=>rfl⟩
 have hcc:CtxLe C C':=by
  subst hC
  exact ⟨Nat.le_succ _,fun i hi=>if_neg (by omega),fun i hi=>if_neg (by omega)⟩
 have live:∀j,j≠C.nx→(if j=C.nx then AObj.arr sz (es.take n) else if j=q then .dead else σ j)≠ .dead→j≠q∧σ j≠ .dead:=by
  intro j hj h
  rw [if_neg hj] at h
  by_cases ej:j=q
  ·rw [if_pos ej] at h;exact absurd rfl h
  ·rw [if_neg ej] at h;exact ⟨ej,h⟩
 refine ⟨C',hnx,⟨fun j hj=>?_,fun j=>?_,fun j k b hj hk' e1 e2=>?_,fun j b hj hb=>?_,fun b h=>by rw [himm] at h;exact hs.imm_lt b h⟩,
  ⟨hcc,rfl,rfl,rfl,Nat.le_refl _,fun b h=>by rw [himm];exact h,fun b _ hm=>rfl,fun b h=>?_,fun b h=>.inl (by rw [himm] at h;exact h)⟩,.ref (by rw [hnx];exact Nat.lt_succ_self _) hh⟩
 ·rw [hnx] at hj
  show (if j=C.nx then _ else if j=q then AObj.dead else σ j)=_
  rw [if_neg (by omega)]
  split
  ·rfl
  ·exact hs.dead j (by omega)
 ·show RepO w C' j (if j=C.nx then _ else if j=q then AObj.dead else σ j)
  by_cases ej:j=C.nx
  ·rw [if_pos ej]
   subst ej
   exact ⟨fun e he=>hsz e (List.mem_of_mem_take he),.inr ⟨bl,cap,vs,E,lo,hi,by rw [hown];exact if_pos rfl,by rw [hlen];exact hh,by omega,h6,h7,h8,fun j k l cc u h1 h2 h3=>by
    rw [List.getElem?_take] at h1
    split at h1
    ·exact (h9 j k l cc u h1 h2 h3).keeps hk
    ·cases h1⟩⟩
  ·rw [if_neg ej]
   by_cases eq:j=q
   ·rw [if_pos eq];exact True.intro
   ·rw [if_neg eq]
    by_cases hdj:σ j= .dead
    ·rw [hdj];exact True.intro
    ·exact (hs.obj j).step hk hcc (live_lt hs hdj) (fun b hb=>rfl)
 ·rw [hown] at e1 e2
  by_cases ej:j=C.nx<;>by_cases ek:k=C.nx
  ·omega
  ·rw [if_pos ej] at e1;rw [if_neg ek] at e2;cases e1
   obtain ⟨f1,f2⟩:=live k ek hk'
   exact absurd (hs.inj k q bl f2 hqd e2 ho1) f1
  ·rw [if_neg ej] at e1;rw [if_pos ek] at e2;cases e2
   obtain ⟨f1,f2⟩:=live j ej hj
   exact absurd (hs.inj j q bl f2 hqd e1 ho1) f1
  ·rw [if_neg ej] at e1;rw [if_neg ek] at e2
   exact hs.inj j k b (live j ej hj).2 (live k ek hk').2 e1 e2
 ·rw [himm]
  rw [hown] at hb
  by_cases ej:j=C.nx
  ·rw [if_pos ej] at hb;cases hb;exact hs.sep q bl hqd ho1
  ·rw [if_neg ej] at hb;exact hs.sep j b (live j ej hj).2 hb
 ·obtain ⟨j,hj,hb⟩:=h
  rw [hown] at hb
  by_cases ej:j=C.nx
  ·rw [if_pos ej] at hb;cases hb;exact .inl ⟨q,hqd,ho1⟩
  ·rw [if_neg ej] at hb;exact .inl ⟨j,(live j ej hj).2,hb⟩
end
section
variable {P:Program} {B:Base} {k:List KI} {R:Post} {s:St}
theorem K_clear {all:Array Oper} {o1 o2:Oper} {rest:List Oper} {t e:TypeId} {x ix:Operand} {d1 q n:Nat} {c:Call} {ie i0:TI} {es:List (List T)} {z:List T} {ik:IntKind} (hg1:o1.guard=none) (hg2:o2.guard=none) (h1:o1.op= .slice t x (some ix) none none) (h2:o2.op= .call c) (hc:c.callee= .builtin .clear) (ha:c.args= #[.tmp d1]) (hy:c.argTypes= #[t]) (hd1:o1.dst=some d1)
  (hb1:dOk B.n o1.dst=true) (hb2:dOk B.n o2.dst=true) (ht:TT P t=some i0) (hdesc:i0.desc= .slice e) (he:TT P e=some ie) (hz:toTs (zeroA ie)=some z) (hx:ev s.m x= .ref q) (hσ:s.σ q= .arr ie.size es) (hi:ev s.m ix= .t (.v (.int ik n))) (hn:n≤es.length) (hpos:0<es.length)
  (h:Kp P B (.ops all rest :: k) R .normal ⟨put (put s.m (some d1) .any) o2.dst (.tup []),oput s.σ q (.arr ie.size (es.take n++List.replicate (es.length-n) z)),s.nx⟩):Kp P B (.ops all (o1 :: o2 :: rest) :: k) R .normal s:=by
 intro a w hr
 obtain ⟨C,g1,g2,g3,g4,g5,g6⟩:=hr
 have rx:=ev_rep g2 x
 rw [hx] at rx
 have hob:=g5.obj q
 rw [hσ] at hob
 obtain ⟨hsz,⟨h0,_⟩ | ⟨bl,cap,vs,E,lo,hi',q1,q2,q3,q4,q5,q6,q7⟩⟩:=hob
 ·rw [h0] at hpos;simp at hpos
 generalize hu:a.eval x=u at rx
 cases rx with
 |ref hq hh=>
  rw [q2] at hh
  cases hh
  have ri:=ev_rep g2 ix
  rw [hi] at ri
  obtain ⟨hiv,_⟩:=rep_v ri
  have hunt:P.underlying t=some (.slice e):=by rw [←hdesc];exact (tt_some ht).1
  obtain ⟨w',e1,e2,e3⟩:=clear_tail (ty:=o2.type) g5 hunt he hz hσ q1 q2 hn
  have hd1':d1<a.tmps.size:=by rw [hd1] at hb1;rw [g3];simpa [dOk] using hb1
  refine wpL_plain hg1 fun K hK=>?_
  have hx1:(execOp a.eval o1).run P w= .ok (.value (sliced (some ⟨bl,0,none⟩) n es.length cap ie.size)) w:=by
   simp only [execOp,h1,hu,hiv,Option.map_some,Option.map_none,Sem.run_bind,run_from hunt he _ _ _ _ _ hn q3,Result.andThen_ok,Sem.run_pure]
  refine owp_value hx1 (hK _ _ (wpL_plain hg2 fun K' hK'=>?_))
  have hx2:(execOp (a.put o1.dst (sliced (some ⟨bl,0,none⟩) n es.length cap ie.size)).eval o2).run P w= .ok (.value (.tuple #[])) w':=by
   have hev:(a.put o1.dst (sliced (some ⟨bl,0,none⟩) n es.length cap ie.size)).eval (.tmp d1)=sliced (some ⟨bl,0,none⟩) n es.length cap ie.size:=by
    rw [hd1]
    simp [Act.eval,Act.put,Array.getD_eq_getD_getElem?,Array.getElem?_setIfInBounds_self_of_lt hd1']
   obtain ⟨dst,op,type,pos,after,guard⟩:=o2
   simp only at h2
   subst h2
   have hv:∀ρ,execOp ρ ⟨dst,.call c,type,pos,after,guard⟩=(do let d ←resolve ρ c type;invoke d.target d.args):=fun ρ=>rfl
   rw [hv]
   simp only [resolve,hc,Sem.run_bind,Sem.run_pure,Result.andThen_ok,invoke,builtin,ha,hy,List.map_toArray,List.map_cons,List.map_nil,hev,e1]
  refine owp_value hx2 ?_
  have p1:=put_rep g5 (Step.refl C s.σ w) g2 (d:=some d1) (by rw [←hd1,g3];exact hb1) (v:=.any) (u:=sliced (some ⟨bl,0,none⟩) n es.length cap ie.size) .any
  have p2:=put_rep (a:=a.put o1.dst (sliced (some ⟨bl,0,none⟩) n es.length cap ie.size)) g5 e3 (by rw [hd1];exact p1) (d:=o2.dst) (by rw [put_size,g3];exact hb2) (v:=.tup []) (u:=.tuple #[]) (.tup rfl fun k a u h=>by simp at h)
  exact hK' _ _ (h _ _ ⟨C,g1,p2,by rw [put_size,put_size];exact g3,by rw [put_def,put_def];exact g4.step e3,e2,g6.trans e3⟩)
theorem K_front {all:Array Oper} {o:Oper} {rest:List Oper} {t e:TypeId} {x ix:Operand} {q n sz:Nat} {ie i0:TI} {es:List (List T)} {ik:IntKind} (hg:o.guard=none) (h1:o.op= .slice t x none (some ix) none)
  (hb:dOk B.n o.dst=true) (ht:TT P t=some i0) (hdesc:i0.desc= .slice e) (he:TT P e=some ie) (hx:ev s.m x= .ref q) (hσ:s.σ q= .arr sz es) (hi:ev s.m ix= .t (.v (.int ik n))) (hn:n≤es.length) (hpos:0<es.length)
  (h:Kp P B (.ops all rest :: k) R .normal ⟨put s.m o.dst (.ref s.nx),oput (oput s.σ q .dead) s.nx (.arr sz (es.take n)),s.nx+1⟩):Kp P B (.ops all (o :: rest) :: k) R .normal s:=by
 intro a w hr
 obtain ⟨C,g1,g2,g3,g4,g5,g6⟩:=hr
 have rx:=ev_rep g2 x
 rw [hx] at rx
 have hob:=g5.obj q
 rw [hσ] at hob
 obtain ⟨hsz,⟨h0,_⟩ | ⟨bl,cap,vs,E,lo,hi',q1,q2,q3,q4,q5,q6,q7⟩⟩:=hob
 ·rw [h0] at hpos;simp at hpos
 generalize hu:a.eval x=u at rx
 cases rx with
 |ref hq hh=>
  rw [q2] at hh
  cases hh
  have ri:=ev_rep g2 ix
  rw [hi] at ri
  obtain ⟨hiv,_⟩:=rep_v ri
  have hunt:P.underlying t=some (.slice e):=by rw [←hdesc];exact (tt_some ht).1
  obtain ⟨C',e1,e2,e3,e4⟩:=sim_cut g5 hσ q1 q2 hn
  have hsl:sliced (some ⟨bl,0,none⟩) 0 n cap ie.size= .slice (some ⟨bl,0,none⟩) n cap:=by
   simp [sliced,add_zero']
  refine wpL_plain hg fun K hK=>?_
  have hx1:(execOp a.eval o).run P w= .ok (.value (.slice (some ⟨bl,0,none⟩) n cap)) w:=by
   simp only [execOp,h1,hu,hiv,Option.map_some,Option.map_none,Sem.run_bind,run_to hunt he _ _ _ _ _ (show n≤cap by omega),Result.andThen_ok,Sem.run_pure,hsl]
  refine owp_value hx1 ?_
  have p1:=put_rep g5 e3 g2 (d:=o.dst) (by rw [g3];exact hb) e4
  rw [g1] at e1 e2 e3 p1
  exact hK _ _ (h _ _ ⟨C',e1,p1,by rw [put_size];exact g3,by rw [put_def];exact g4.step e3,e2,g6.trans e3⟩)
end
end Go.Proofs.YtnoifgjiipgpoaaGreatDoor.R

namespace Go.Proofs.YtnoifgjiipgpoaaGreatDoor.R
open Go.RowKit
@[go_sem] theorem run_none {P:Program} {n:Nat} {G:List KI→St→Prop} {k:List KI} {s:St}:run P n G 0 k s=G k s:=by rw [run]
section
variable {P:Program} {B:Base} {k:List KI} {R:Post} {s:St} {all:Array Oper}
theorem K_impC {t:St} {c:Code} (h:Imp B s t) (hk:Kp P B (.code c :: k) R .normal t):Kp P B (.code c :: k) R .normal s:=
 fun a w hr=>hk a w (h _ _ hr)
end
end Go.Proofs.YtnoifgjiipgpoaaGreatDoor.R

namespace Go.Proofs.YtnoifgjiipgpoaaGreatDoor.R
theorem toTs_t:∀(e:List T),toTs (e.map AV.t)=some e
 |[]=>rfl
 |x :: e=>by simp only [List.map_cons,toTs,toT,toTs_t e]
theorem setCells_eq {α:Type}:∀(xs cs:List α) (off:Nat),off+xs.length≤cs.length→setCells cs off xs=cs.take off++xs++cs.drop (off+xs.length)
 |[],cs,off,_=>by simp [setCells]
 |x :: xs,cs,off,h=>by
  rw [List.length_cons] at h
  rw [setCells,setCells_eq xs (cs.set off x) (off+1) (by rw [List.length_set];omega)]
  have e1:(cs.set off x).take (off+1)=cs.take off++[x]:=by
   rw [List.take_succ_eq_append_getElem (by rw [List.length_set];omega),List.take_set_of_le (Nat.le_refl _)]
   simp
  have e2:(cs.set off x).drop (off+1+xs.length)=cs.drop (off+(x :: xs).length):=by
   rw [List.drop_set_of_lt (by omega),List.length_cons]
   congr 1
   omega
  rw [e1,e2]
  simp
theorem setCells_all {α:Type} {xs cs:List α} (h:xs.length=cs.length):setCells cs 0 xs=xs:=by
 rw [setCells_eq xs cs 0 (by omega)]
 simp [h]
end Go.Proofs.YtnoifgjiipgpoaaGreatDoor.R

namespace Go.Proofs.YtnoifgjiipgpoaaGreatDoor.R
section
variable {P:Program}
theorem spec_keep {f:FuncId} {fn:Func} {c:Code} (hf:P.funcs[f]? =some fn) (hb:fn.body=some c) (hname:(fn.name== "runtime.NumGoroutine")=false) {args:List AV} {σ:Nat→AObj} {nx:Nat} {r:AV} (hn:args.length≤fn.ntmps)
  (hr:bnd nx r=true)
  (h:(∀i,σ i= .dead∨(bndO nx (σ i)=true∧i<nx))→∀B:Base,B.n=fn.ntmps→B.C.nx=nx→B.σ=σ→Kp P B [.code c] (fun e s=>(e= .ret∨e= .normal)∧nx≤s.nx∧(∀i,i<nx→s.σ i=σ i)∧∃rs,resL P s fn.results.toList=some rs∧resV rs=r) .normal ⟨slots0 args,σ,nx⟩):
  CallSpec P f args σ nx r σ nx:=by
 refine CallQ.spec (CallQ.known (by simp [goodFn,hf,hb,hname]) fun hk=>?_)
 refine CallSpec.q (spec_of_K hf hb hname hn fun B h1 h2 h3=>?_)
 refine fun a w hrel=>cwp_mono (h hk B h1 h2 h3 a w hrel) fun e a' w' hp=>?_
 obtain ⟨s',⟨he,g1,g3,rs,g4,g5⟩,h5⟩:=hp
 have hend:Ends nx s' (resV rs) σ nx r:=by
  refine ⟨fun i=>?_,g1,Nat.le_refl _,.inl g5.symm,.inr hr⟩
  rcases hk i with e | ⟨e,e2⟩
  ·exact .inl e
  ·exact .inr ⟨(g3 i e2).symm,.inr ⟨e,e2⟩⟩
 refine ⟨s',?_,h5⟩
 rcases he with rfl | rfl
 ·exact ⟨rs,g4,hend⟩
 ·exact ⟨rs,g4,hend⟩
end
end Go.Proofs.YtnoifgjiipgpoaaGreatDoor.R

namespace Go.Proofs.YtnoifgjiipgpoaaGreatDoor.R
open Go.RowKit
section
variable {P:Program}
end
section
variable {P:Program} {B:Base} {k:List KI} {R:Post} {s:St} {all:Array Oper} {o:Oper} {lo:List Nat} {sw:SW} {rest:List (Nat×Oper)} {i:Nat} {pend:List Rc} {v:AV}
theorem K_dLook (hd:all[i]? =some o→Does P B.n all i s.m s.σ s.nx v s.σ s.nx) (ht:tied all lo i=true) (h:Kp P B (.opsD all lo sw rest pend :: k) R .normal ⟨put s.m o.dst v,s.σ,s.nx⟩):Kp P B (.opsD all lo sw ((i,o) :: rest) pend :: k) R .normal s:=
 Chain.at fun ho=>Chain.step (loud:=none) (hd ho) (fun _=>.inr (by
  simp only [tied,List.all_eq_true,Bool.and_eq_true,Bool.or_eq_true,Bool.not_eq_true',decide_eq_false_iff_not] at ht
  exact ⟨fun k hk h=>((ht k hk).1).resolve_left (fun e=>e h),.inl fun k hk h=>((ht k hk).2).resolve_left (fun e=>e h)⟩)) (fun c hc=>by cases hc) (fun _ h=>h) h
theorem K_dTold {σ':Nat→AObj} {nx':Nat} (hd:all[i]? =some o→Does P B.n all i s.m s.σ s.nx v σ' nx') (hi:i∈lo) (hp:∀q∈pend,anc all q.i i=true∨Does P B.n all q.i q.m σ' nx' q.v σ' nx')
  (h:Kp P B (.opsD all lo sw rest pend :: k) R .normal ⟨put s.m o.dst v,σ',nx'⟩):Kp P B (.opsD all lo sw ((i,o) :: rest) pend :: k) R .normal s:=
 Chain.at fun ho=>Chain.step (loud:=some (σ',nx')) (hd ho) (fun hc=>by cases hc) (fun c hc=>by cases hc;exact ⟨hi,hp⟩) (fun _ h=>h) h
end
end Go.Proofs.YtnoifgjiipgpoaaGreatDoor.R

namespace Go.Proofs.YtnoifgjiipgpoaaGreatDoor.R
open Go.RowKit
section
variable {P:Program}
theorem mapSet_run {C:Ctx} {σ:Nat→AObj} {w:World} {ρ:Operand→Value} {e:Operand→AV} {o:Oper} (hs:Sim C σ w) (hρ:∀z,RepA w C (e z) (ρ z)) {t kt et:TypeId} {x ix y:Operand} {it:TI} {m:Nat} {es:List (Value×AV)} {u:Value} (ho:o.op= .mapUpdate t x ix y)
  (ht:TT P t=some it) (hdesc:it.desc= .map kt et) (hk:keyKind P kt=true) (hx:e x= .mapr m) (hσ:σ m= .map es) (hu:plainA (e ix)=some u) (hc:ckA P 10000 kt (e ix)=true) (htell:TellM P kt (e ix) u es) (hsame:findM u es=none∨Instr.sameBits 10000 u u=true):
  ∃w',(execOp ρ o).run P w= .ok .skip w'∧Sim C (oput σ m (.map (setM u (e y) es))) w'∧Step C σ w C (oput σ m (.map (setM u (e y) es))) w':=by
 have hmx:=hρ x
 rw [hx] at hmx
 obtain ⟨bl,ms,clock,e0,ow,e2,e3,e4⟩:=obj_map hs hσ hmx
 have hix:=rep_plain hu (hρ ix)
 have hy:=hρ y
 have hund:P.underlying t=some (.map kt et):=by rw [(tt_some ht).1,hdesc]
 have hck:(Instr.checkKey false 10000 kt u).run P w= .ok () w:=by
  have:=ckA_run (w:=w) (C:=C) false 10000 kt (e ix) (ρ ix) hc (hρ ix)
  rwa [hix] at this
 obtain ⟨f1,f2⟩:=find_run (w:=w) (C:=C) hk hc hu es ms htell e3 e4
 have hlt:bl<w.heap.size:=(Array.getElem?_eq_some_iff.1 e2).1
 have hdead:σ m≠ .dead:=by rw [hσ];exact (fun h=>by cases h)
 have fin:∀(ms':Array MapEntry) (clock':Nat),(execOp ρ o).run P w= .ok .skip {w with heap:=w.heap.setIfInBounds bl (.map ms' clock')}→
   ((setM u (e y) es).length=ms'.size∧∀(k:Nat) (b:Value×AV) (v:MapEntry),(setM u (e y) es)[k]? =some b→ms'[k]? =some v→v.key=b.1∧RepA w C b.2 v.val)→
   ∃w',(execOp ρ o).run P w= .ok .skip w'∧Sim C (oput σ m (.map (setM u (e y) es))) w'∧Step C σ w C (oput σ m (.map (setM u (e y) es))) w':=by
  intro ms' clock' hrun ⟨l1,l2⟩
  have hne:∀b,b≠bl→(w.heap.setIfInBounds bl (.map ms' clock'))[b]? =w.heap[b]?:=fun b hb=>by simp [Array.getElem?_setIfInBounds_ne (Ne.symm hb)]
  have hk0:Keeps w C.imm {w with heap:=w.heap.setIfInBounds bl (.map ms' clock')} C.imm:=⟨fun _ h=>h,fun b hb=>hne b fun e=>hs.sep m bl hdead ow (e ▸ hb)⟩
  obtain ⟨g1,g2⟩:=sim_set (w':={w with heap:=w.heap.setIfInBounds bl (.map ms' clock')}) (obj:=.map (setM u (e y) es)) hs hdead ow rfl rfl rfl (by simp) hne ⟨bl,ms',clock',ow,by simp [hlt],l1,fun k b v hb hv=>by
   obtain ⟨p1,p2⟩:=l2 k b v hb hv
   exact ⟨p1,p2.keeps hk0 ⟨Nat.le_refl _,fun _ _=>rfl,fun _ _=>rfl⟩⟩⟩
  exact ⟨_,hrun,g1,g2⟩
 cases hf:findM u es with
 |none=>
  refine fin (ms.push {key:=u,val:=ρ y,born:=clock}) (clock+1) ?_ ?_
  ·simp only [execOp,ho,Instr.mapUpdate,Sem.run_bind,run_underlying hund,Result.andThen_ok,e0,hix,MapKept.run_getObj_map e2,Sem.run_pure,hck,f1 hf,MapKept.run_setObj_map _ e2]
  ·rw [setM,hf]
   refine ⟨by simp [e3],fun k b v hb hv=>?_⟩
   simp only at hb
   by_cases hk':k<es.length
   ·rw [List.getElem?_append_left hk'] at hb
    rw [Array.getElem?_push_lt (by omega)] at hv
    exact e4 k b v hb (by rw [Array.getElem?_eq_getElem (by omega)];exact hv)
   ·rw [List.getElem?_append_right (by omega)] at hb
    have hk0:k-es.length=0:=by
     have:=(List.getElem?_eq_some_iff.1 hb).1
     simp at this;omega
    have hke:k=ms.size:=by omega
    subst hke
    rw [hk0] at hb
    simp at hb hv
    subst hb;subst hv
    exact ⟨rfl,hy⟩
 |some p=>
  obtain ⟨j,b0⟩:=p
  obtain ⟨me,g1,g2,g3,g4⟩:=f2 j b0 hf
  have hst:=run_stays (P:=P) (w:=w) (hsame.resolve_left (by rw [hf];simp))
  have hjlt:j<ms.size:=(Array.getElem?_eq_some_iff.1 g1).1
  refine fin (ms.modify j fun e=>{e with key:=u,val:=ρ y}) clock ?_ ?_
  ·simp only [execOp,ho,Instr.mapUpdate,Sem.run_bind,run_underlying hund,Result.andThen_ok,e0,hix,MapKept.run_getObj_map e2,Sem.run_pure,hck,g4,g1,Option.map_some,Option.getD_some,g2,hst,MapKept.run_setObj_map _ e2]
  ·rw [setM,hf]
   refine ⟨by simp [e3],fun k b v hb hv=>?_⟩
   simp only at hb
   by_cases hkj:k=j
   ·subst hkj
    rw [List.getElem?_set_self (by omega)] at hb
    cases hb
    rw [Array.getElem?_modify,if_pos rfl,g1] at hv
    cases hv
    exact ⟨rfl,hy⟩
   ·rw [List.getElem?_set_ne (fun e=>hkj e.symm)] at hb
    rw [Array.getElem?_modify,if_neg (fun e=>hkj e.symm)] at hv
    exact e4 k b v hb hv
theorem does_mapSet {all:Array Oper} {i n:Nat} {o:Oper} {m:Slots} {t kt et:TypeId} {x ix y:Operand} {it:TI} {q:Nat} {es:List (Value×AV)} {u:Value} {σ:Nat→AObj} {nx:Nat} (ho':all[i]? =some o) (hl:lets all m o=some true) (ho:o.op= .mapUpdate t x ix y)
  (ht:TT P t=some it) (hdesc:it.desc= .map kt et) (hk:keyKind P kt=true) (hx:ev m x= .mapr q) (hσ:σ q= .map es) (hu:plainA (ev m ix)=some u) (hc:ckA P 10000 kt (ev m ix)=true) (htell:TellM P kt (ev m ix) u es) (hsame:findM u es=none∨Instr.sameBits 10000 u u=true):
  Does P n all i m σ nx (.tup []) (oput σ q (.map (setM u (ev m y) es))) nx:=by
 intro C a w hn hs hsz hrep ro K Q hK
 have hops:=mask_ev (m:=m) ho'
 have hd:dstOf all i=o.dst:=by simp [dstOf,ho']
 simp only [wpO,wpOpIn,ho',lets_wanted ho' hrep hl,if_true]
 rw [hd] at hK
 have ex:=hops x (by simp [ho,Op.operands])
 have eix:=hops ix (by simp [ho,Op.operands])
 have ey:=hops y (by simp [ho,Op.operands])
 obtain ⟨w',g1,g2,g3⟩:=mapSet_run hs (ev_rep hrep) ho ht hdesc hk (by rw [ex];exact hx) hσ (by rw [eix];exact hu) (by rw [eix];exact hc) (by rw [eix];exact htell) hsame
 rw [ey] at g2 g3
 exact owp_skip g1 (hK _ _ C g2 hn g3 (.tup rfl (fun k a u h=>by simp at h)))
end
section
variable {P:Program} {B:Base} {s:St}
theorem K_impE {α:Type} (I:α→Prop) (st:α→St) {all:Array Oper} {rest:List Oper} {k:List KI} {R:Post} (h:∃y,I y∧Imp B s (st y)) (hk:∀y,I y→Kp P B (.ops all rest :: k) R .normal (st y)):Kp P B (.ops all rest :: k) R .normal s:=by
 obtain ⟨y,h1,h2⟩:=h
 exact K_imp h2 (hk y h1)
theorem Imp.own {t sz:Nat} (h:s.m t= .fsl []):Imp B s ⟨put s.m (some t) (.ref s.nx),oput s.σ s.nx (.arr sz []),s.nx+1⟩:=fun _ _ hr=>rel_own h hr
end
end Go.Proofs.YtnoifgjiipgpoaaGreatDoor.R

namespace Go.Proofs.YtnoifgjiipgpoaaGreatDoor.R
open Go.RowKit
section
variable {P:Program}
def notIfc:TypeDesc→Bool
 | .interface _=>false
 |_=>true
def notPtr:TypeDesc→Bool
 | .pointer _=>false
 |_=>true
theorem does_ifc {all:Array Oper} {i n:Nat} {o:Oper} {m:Slots} {t:TypeId} {d:TypeDesc} {x:Operand} {cs:List T} {σ:Nat→AObj} {nx:Nat} (ho':all[i]? =some o) (hl:lets all m o=some true) (ho:o.op= .makeInterface t x) (hu:P.underlying t=some d) (hd:notIfc d=true) (hx:ev m x= .agg (cs.map .t)):Does P n all i m σ nx (.ifc t cs) σ nx:=by
 intro C a w hn hs hsz hrep ro K Q hK
 have hops:=mask_ev (m:=m) ho'
 have hdd:dstOf all i=o.dst:=by simp [dstOf,ho']
 simp only [wpO,wpOpIn,ho',lets_wanted ho' hrep hl,if_true]
 rw [hdd] at hK
 have rx:=ev_rep hrep x
 rw [hops x (by simp [ho,Op.operands]),hx] at rx
 generalize hv:a.eval x=v at rx
 cases rx with
 |@agg _ vs hlen hr=>
  have hx1:(execOp a.eval o).run P w= .ok (.value (.iface t (.agg vs))) w:=by
   simp only [execOp,ho,Instr.makeInterface,Sem.run_bind,run_underlying hu,Result.andThen_ok,hv]
   cases d<;>first | (simp [notIfc] at hd;done) | simp [Sem.run_pure]
  refine owp_value hx1 (hK _ _ C hs hn (Step.refl _ _ _) (.ifc (by simpa using hlen) fun k c u hc hu=>?_))
  have:=hr k (.t c) u (by rw [List.getElem?_map,hc];rfl) hu
  cases this with
  |t h=>exact h
theorem method_run {fuel:Nat} {t:TypeId} {vs:Array Value} {name:String} {info:TypeInfo} {mm:Method} {f:FuncId} {d:TypeDesc} {w:World} (hi:P.info? t=some info) (hf:(info.methods.find? fun m=>m.name==name)=some mm) (hp:mm.path= #[]) (hm:mm.func=some (f,false)) (hu:P.underlying t=some d) (hd:notPtr d=true):
  (method (fuel+1) t (.agg vs) name).run P w= .ok (f,.agg vs) w:=by
 have hti:(typeInfo t).run P w= .ok info w:=by simp [typeInfo,hi]
 simp only [method,Sem.run_bind,hti,Result.andThen_ok,hf,hp,List.toList_toArray,follow,Sem.run_pure,hm,receiverAt,run_underlying hu]
 cases d<;>first | (simp [notPtr] at hd;done) | simp [Sem.run_pure,Place.get]
theorem does_invoke {all:Array Oper} {i n:Nat} {o:Oper} {m:Slots} {c:Call} {r y:Operand} {name:String} {t:TypeId} {d:TypeDesc} {cs:List T} {info:TypeInfo} {mm:Method} {f:FuncId} {av res:AV} {σ:Nat→AObj} {nx:Nat} (ho':all[i]? =some o) (hl:lets all m o=some true) (ho:o.op= .call c) (hc:c.callee= .invoke r name) (ha:c.args= #[y])
  (hi:P.info? t=some info) (hf:(info.methods.find? fun m=>m.name==name)=some mm) (hp:mm.path= #[]) (hm:mm.func=some (f,false)) (hu:P.underlying t=some d) (hd:notPtr d=true) (hr:ev m r= .ifc t cs) (hy:ev m y=av) (spec:CallSpec P f [.agg (cs.map .t),av] σ nx res σ nx):
  Does P n all i m σ nx res σ nx:=by
 intro C a w hn hs hsz hrep ro K Q hK
 obtain ⟨hg,spec⟩:=spec
 have hops:=mask_ev (m:=m) ho'
 have hdd:dstOf all i=o.dst:=by simp [dstOf,ho']
 simp only [wpO,wpOpIn,ho',lets_wanted ho' hrep hl,if_true]
 rw [hdd] at hK
 have rr:=ev_rep hrep r
 have ry:=ev_rep hrep y
 rw [hops r (by simp [ho,Op.operands,Call.operands,hc]),hr] at rr
 rw [hops y (by simp [ho,Op.operands,Call.operands,hc,ha]),hy] at ry
 generalize hv:a.eval r=v at rr
 generalize hw:a.eval y=u at ry
 cases rr with
 |@ifc _ _ vs hlen hcs=>
  have hrl:RepL w C [.agg (cs.map .t),av] [.agg vs,u]:=by
   refine ⟨rfl,fun k x z hx hz=>?_⟩
   match k with
   |0=>
    simp at hx hz
    subst hx;subst hz
    refine .agg (by simpa using hlen) fun k a u ha hu=>?_
    rw [List.getElem?_map] at ha
    obtain ⟨b,hb,rfl⟩:=Option.map_eq_some_iff.1 ha
    exact .t (hcs k b u hb hu)
   |1=>
    simp at hx hz
    subst hx;subst hz
    exact ry
   |k+2=>simp at hx
  have hcall:=spec C w _ hs hn hrl
  have hrun:(execOp a.eval o).run P w= .ok (.enter f #[.agg vs,u]) w:=by
   unfold goodFn at hg
   cases hfn:P.funcs[f]? with
   |none=>rw [hfn] at hg;cases hg
   |some fn=>
    rw [hfn] at hg
    simp only [Bool.and_eq_true,Bool.not_eq_true'] at hg
    have e1:fn.body.isNone=false:=by rw [←Option.not_isSome,hg.2];rfl
    have hmr:=fun fuel=>method_run (P:=P) (w:=w) (vs:=vs) (fuel:=fuel) hi hf hp hm hu hd
    have hdep:P.types.size+Made.depth=(P.types.size+99)+1:=rfl
    simp only [execOp,ho,resolve,hc,Sem.run_bind,Sem.run_pure,Result.andThen_ok,invoke,ha,hv,hw,callMethod,run_program,callFunc]
    have e2:(#[Value.iface t (.agg vs)]++Array.map a.eval #[y])[0]? =some (.iface t (.agg vs)):=by simp
    rw [e2]
    simp only [Sem.run_bind,run_program,Result.andThen_ok,hdep,hmr,hfn,hg.1,e1,Bool.false_eq_true,if_false,Sem.run_pure]
    simp [hw]
  refine owp_enter hrun ?_
  refine hcall.mono ?_
  rintro e w' ⟨C',v,rfl,g1,g2,g3,g4⟩
  exact ⟨v,rfl,hK _ _ C' g1 g2 g4 g3⟩
end
end Go.Proofs.YtnoifgjiipgpoaaGreatDoor.R

namespace Go.Proofs.YtnoifgjiipgpoaaGreatDoor.R
open Go.RowKit
section
variable {P:Program}
theorem does_front {all:Array Oper} {i n0:Nat} {o:Oper} {m:Slots} {t e:TypeId} {x ix:Operand} {q n sz:Nat} {ie i0:TI} {es:List (List T)} {ik:IntKind} {σ:Nat→AObj} {nx:Nat} (ho':all[i]? =some o) (hl:lets all m o=some true) (h1:o.op= .slice t x none (some ix) none)
  (ht:TT P t=some i0) (hdesc:i0.desc= .slice e) (he:TT P e=some ie) (hx:ev m x= .ref q) (hσ:σ q= .arr sz es) (hi:ev m ix= .t (.v (.int ik n))) (hn:n≤es.length) (hpos:0<es.length):
  Does P n0 all i m σ nx (.ref nx) (oput (oput σ q .dead) nx (.arr sz (es.take n))) (nx+1):=by
 intro C a w hnx hs hsz hrep ro K Q hK
 have hops:=mask_ev (m:=m) ho'
 have hdd:dstOf all i=o.dst:=by simp [dstOf,ho']
 simp only [wpO,wpOpIn,ho',lets_wanted ho' hrep hl,if_true]
 rw [hdd] at hK
 have rx:=ev_rep hrep x
 rw [hops x (by simp [h1,Op.operands]),hx] at rx
 have ri:=ev_rep hrep ix
 rw [hops ix (by simp [h1,Op.operands]),hi] at ri
 have hob:=hs.obj q
 rw [hσ] at hob
 obtain ⟨hsz,⟨h0,_⟩ | ⟨bl,cap,vs,E,lo,hi',q1,q2,q3,q4,q5,q6,q7⟩⟩:=hob
 ·rw [h0] at hpos;simp at hpos
 generalize hu:a.eval x=u at rx
 cases rx with
 |ref hq hh=>
  rw [q2] at hh
  cases hh
  obtain ⟨hiv,_⟩:=rep_v ri
  have hunt:P.underlying t=some (.slice e):=by rw [←hdesc];exact (tt_some ht).1
  obtain ⟨C',e1,e2,e3,e4⟩:=sim_cut hs hσ q1 q2 hn
  have hsl:sliced (some ⟨bl,0,none⟩) 0 n cap ie.size= .slice (some ⟨bl,0,none⟩) n cap:=by
   simp [sliced,add_zero']
  have hx1:(execOp a.eval o).run P w= .ok (.value (.slice (some ⟨bl,0,none⟩) n cap)) w:=by
   simp only [execOp,h1,hu,hiv,Option.map_some,Option.map_none,Sem.run_bind,run_to hunt he _ _ _ _ _ (show n≤cap by omega),Result.andThen_ok,Sem.run_pure,hsl]
  refine owp_value hx1 ?_
  rw [hnx] at e1 e2 e3 e4
  exact hK _ _ C' e2 e1 e3 e4
end
end Go.Proofs.YtnoifgjiipgpoaaGreatDoor.R

namespace Go.Proofs.YtnoifgjiipgpoaaGreatDoor.R
open Go.RowKit
section
variable {P:Program} {n:Nat} {all:Array Oper}
theorem wpO_mono {ro:Option Nat} {Q:Exit→Act→World→Prop} {i:Nat} {K K':Act→World→Prop} {a:Act} {w:World} (h:∀a w,K a w→K' a w) (hh:wpO ro P all Q i K a w):wpO ro P all Q i K' a w:=by
 simp only [wpO,wpOpIn] at hh ⊢
 cases ho:all[i]? with
 |none=>rw [ho] at hh;exact h _ _ hh
 |some o=>
  rw [ho] at hh
  simp only at hh ⊢
  split
  ·rename_i hw
   rw [if_pos hw] at hh
   exact Oper.wpIn_mono h hh
  ·rename_i hw
   rw [if_neg hw] at hh
   exact ⟨hh.1,h _ _ hh.2⟩
theorem LS.none {listed:Array Bool} (h:LS all listed []):Region.ready .any all listed=[]:=by
 refine List.eq_nil_iff_forall_not_mem.2 fun i hi=>?_
 obtain ⟨_,⟨r,hr,_⟩,_⟩:=h.ready hi
 cases hr
theorem wpAny_z {B:Base} {Q:Exit→Act→World→Prop} {t:List (List Nat)} (ht:tabOK all t=true) {an:Nat→Nat→Bool} (han:∀x i,an x i=true→ancT t x i=true) {z:Nat} (hz:∀j,j<z→ancT t j z=true) (hzs:all.size=z+1) {R:St→Prop} (hn:B.n=n)
  (hQ:∀s a w,R s→Rel B s a w→wpO B.ro P all Q z (fun a w=>Q .normal a w) a w) (hd:∀i<all.size,dOk n (dstOf all i)=true) (rz:Rc) (hrz:rz.i=z):
  ∀(fuel:Nat) (l:List Rc) (s:St) (listed:Array Bool) (a:Act) (w:World),l.length=fuel→LS all listed (l++[rz])→(∀r∈l,r.i<z)→
   l.Pairwise (fun r q=>r.i<q.i)→Inv P n all an l s→R ⟨goes all s.m l,(goesS (s.σ,s.nx) l).1,(goesS (s.σ,s.nx) l).2⟩→Rel B s a w→wpA B.ro P all Q (fuel+1) listed a w:=by
 intro fuel
 induction fuel with
 |zero=>
  intro l s listed a w hl hls hlt _ hinv hR hr
  have:l=[]:=List.eq_nil_of_length_eq_zero hl
  subst this
  refine ⟨fun hnil=>(hls.some ht (by simp) hnil).elim,fun i hi=>?_⟩
  obtain ⟨hi1,⟨r,hr1,hri⟩,hpre⟩:=hls.ready hi
  simp only [List.nil_append,List.mem_singleton] at hr1
  subst hr1
  have hiz:i=z:=by omega
  subst hiz
  have hls':LS all (listed.setIfInBounds i true) []:=by
   have:=LS.step (l1:=[]) (l2:=[]) (r:=r) (by simpa using hls) (by simp) (by rw [hri];exact hpre)
   rw [hri] at this
   exact this
  exact wpO_mono (fun a w hq=>⟨hls'.none,hq⟩) (hQ s a w hR hr)
 |succ fuel ih=>
  intro l s listed a w hl hls hlt hsort hinv hR hr
  have hsort':(l++[rz]).Pairwise (fun r q=>r.i<q.i):=by
   rw [List.pairwise_append]
   exact ⟨hsort,by simp,fun r hr q hq=>by rw [List.mem_singleton.1 hq,hrz];exact hlt r hr⟩
  refine ⟨fun hnil=>?_,fun i hi=>?_⟩
  ·exfalso
   cases l with
   |nil=>simp at hl
   |cons r l=>exact hls.some ht hsort' hnil
  ·obtain ⟨hi1,⟨r,hr1,hri⟩,hpre⟩:=hls.ready hi
   subst hri
   rcases List.mem_append.1 hr1 with hr1 | hr1
   ·obtain ⟨l1,l2,hsplit⟩:=List.append_of_mem hr1
    subst hsplit
    have hanc:∀q∈l1++r :: l2,an q.i r.i=false:=fun q hq=>by
     cases hq2:an q.i r.i with
     |false=>rfl
     |true=>
      have h1:listed.getD q.i false=true:=tab_spec ht hls.closed r.i hi1 hpre q.i (han _ _ hq2)
      have h2:=(hls.list q.i (hls.lt q (List.mem_append_left _ hq))).2 ⟨q,List.mem_append_left _ hq,rfl⟩
      rw [Array.getD_eq_getD_getElem?] at h1 h2
      cases hz:listed[q.i]? with
      |none=>rw [hz] at h1;simp at h1
      |some b=>rw [hz] at h1 h2;simp at h1 h2;rw [h1] at h2;cases h2
    refine hinv.wp hn (hd r.i hi1) hanc hr fun s' a' w' g1 g2 g3 g4=>?_
    have e1:l1++r :: l2++[rz]=l1++r :: (l2++[rz]):=by simp
    rw [e1] at hls
    have hne:∀q∈l1++(l2++[rz]),q.i≠r.i:=fun q hq=>by
     rw [←List.append_assoc] at hq
     rcases List.mem_append.1 hq with hq | hq
     ·exact hinv.ne q hq
     ·rw [List.mem_singleton.1 hq,hrz]
      have:=hlt r hr1
      omega
    refine ih (l1++l2) s' _ a' w' (by simp at hl ⊢;omega) ?_ (fun q hq=>hlt q ?_) (sorted_drop hsort) g1 ?_ g4
    ·rw [List.append_assoc];exact hls.step hne hpre
    ·rcases List.mem_append.1 hq with e | e
     ·exact List.mem_append_left _ e
     ·exact List.mem_append_right _ (List.mem_cons_of_mem _ e)
    ·rw [g2,g3]
     exact hR
   ·exfalso
    rw [List.mem_singleton.1 hr1,hrz] at hpre hi1
    cases l with
    |nil=>simp at hl
    |cons q l=>
     have hq:=hlt q List.mem_cons_self
     have h1:listed.getD q.i false=true:=tab_spec ht hls.closed z hi1 hpre q.i (hz q.i hq)
     have h2:=(hls.list q.i (by omega)).2 ⟨q,by simp,rfl⟩
     rw [Array.getD_eq_getD_getElem?] at h1 h2
     cases hz:listed[q.i]? with
     |none=>rw [hz] at h1;simp at h1
     |some b=>rw [hz] at h1 h2;simp at h1 h2;rw [h1] at h2;cases h2
end
section
variable {P:Program} {B:Base} {k:List KI} {R:Post} {s:St} {all:Array Oper}
theorem Pre.initZ {lo:List Nat} {z:Nat}:Pre P B.n all lo none s [] (num 0 (all.toList.take z)) [] s:=by
 refine ⟨⟨fun l1 r l2 h=>(by simp at h),List.Pairwise.nil,fun r hr=>(by cases hr),True.intro⟩,fun p hp=>?_,?_,rfl,fun q hq=>(by cases hq),fun q hq=>(by cases hq),fun q hq=>(by cases hq),fun _ q hq _=>(by cases hq)⟩
 ·have:=(num_mem p (all.toList.take z) 0 hp).2
  rw [Nat.sub_zero,List.getElem?_take] at this
  split at this
  ·simpa using this
  ·cases this
 ·rw [List.map_nil,List.nil_append]
  exact (num_sorted (all.toList.take z) 0).imp fun {i j} h=>.inl ⟨h,rfl⟩
theorem K_drawnZ {id:Nat} (lo:List Nat) (z:Nat) (o:Oper) (hm:P.follows .mixedOrders=true) (hst:statOK all B.n lo=true) (hz:(all.size==z+1&&(List.range z).all (fun j=>anc all j z))=true) (ho:all[z]? =some o)
  (h:Kp P B (.opsD all lo none (num 0 (all.toList.take z)) [] :: .ops all [o] :: k) R .normal s):Kp P B (.code (.region id all true) :: k) R .normal s:=by
 intro a w hr
 refine wpIn_region_any hm ?_
 rw [Bool.and_eq_true,beq_iff_eq,List.all_eq_true] at hz
 obtain ⟨hz1,hz2⟩:=hz
 obtain ⟨l,hinv,hl,hk⟩:Fin1 P B.n all none (Kp P B (.ops all [o] :: k) R .normal) s [] (List.map (fun (p:Nat×Oper)=>p.fst) (num 0 (all.toList.take z))):=h hst s [] Pre.initZ
 rw [List.nil_append] at hinv hk
 have hix:∀i,(∃r∈l,r.i=i)↔i<z:=fun i=>by
  have:i∈l.map (·.i)↔i∈(num 0 (all.toList.take z)).map (·.1):=by rw [hl]
  rw [num_ix] at this
  simp only [List.mem_map,List.length_take,Array.length_toList,hz1,Nat.zero_le,true_and,Nat.zero_add] at this
  rw [this]
  omega
 have hlen:l.length=z:=by
  have:=congrArg List.length hl
  simp only [List.length_map] at this
  have e:∀(l:List Oper) k,(num k l).length=l.length:=by
   intro l
   induction l with
   |nil=>intro k;rfl
   |cons o l ih=>intro k;simp [num,ih]
  have h8:all.toList.length=z+1:=by rw [Array.length_toList];exact hz1
  rw [e,List.length_take] at this
  omega
 have hs:l.Pairwise (fun r q=>r.i<q.i):=by
  have:=num_sorted (all.toList.take z) 0
  rw [←hl] at this
  exact List.pairwise_map.1 this
 obtain ⟨C,h1,h2,h3,h4,h5,h6⟩:=hr
 obtain ⟨g1,g2⟩:=sim_world h5 (w':={w with drawn:=w.drawn+1}) rfl rfl rfl rfl
 rw [hz1]
 refine wpAny_z (stat_tab hst) (an:=anS all none) (fun x i h=>(by simpa [anS,swIs,anc] using h)) (fun j hj=>hz2 j (List.mem_range.2 hj)) hz1 (R:=fun s=>Kp P B (.ops all [o] :: k) R .normal s) rfl (fun s a w hk hr=>?_) (stat_dok hst) ⟨z,s.m,.any,none⟩ rfl z l s _ a _ hlen ?_ (fun r hr=>(hix r.i).1 ⟨r,hr,rfl⟩) hs hinv hk
  ⟨C,h1,fun t=>(h2 t).step h5 g2,h3,⟨h4.all,h4.nodup⟩,g1,h6.trans g2⟩
 ·have:=hk a w hr
  simp only [wpL,wpListIn] at this
  simp only [wpO,wpOpIn,ho]
  exact this
 ·rw [←hz1]
  refine LS.init fun i=>?_
  rw [hz1]
  constructor
  ·rintro ⟨r,hr,rfl⟩
   rcases List.mem_append.1 hr with hr | hr
   ·have:=(hix r.i).1 ⟨r,hr,rfl⟩;omega
   ·rw [List.mem_singleton.1 hr];exact Nat.lt_succ_self z
  ·intro hi
   by_cases e:i=z
   ·exact ⟨_,List.mem_append_right _ (List.mem_singleton.2 rfl),e.symm⟩
   ·obtain ⟨r,hr,hri⟩:=(hix i).2 (by omega)
    exact ⟨r,List.mem_append_left _ hr,hri⟩
end
@[go_sem] theorem up2 (n:Nat):(n=n+1+1)=False:=by simp only [eq_iff_iff,iff_false];omega
@[go_sem] theorem dn2 (n:Nat):(n+1+1=n)=False:=by simp only [eq_iff_iff,iff_false];omega
@[go_sem] theorem up3 (n:Nat):(n=n+1+1+1)=False:=by simp only [eq_iff_iff,iff_false];omega
@[go_sem] theorem dn3 (n:Nat):(n+1+1+1=n)=False:=by simp only [eq_iff_iff,iff_false];omega
@[go_sem] theorem up4 (n:Nat):(n=n+1+1+1+1)=False:=by simp only [eq_iff_iff,iff_false];omega
@[go_sem] theorem dn4 (n:Nat):(n+1+1+1+1=n)=False:=by simp only [eq_iff_iff,iff_false];omega
@[go_sem] theorem up5 (n:Nat):(n=n+1+1+1+1+1)=False:=by simp only [eq_iff_iff,iff_false];omega
@[go_sem] theorem dn5 (n:Nat):(n+1+1+1+1+1=n)=False:=by simp only [eq_iff_iff,iff_false];omega
@[go_sem] theorem up6 (n:Nat):(n=n+1+1+1+1+1+1)=False:=by simp only [eq_iff_iff,iff_false];omega
@[go_sem] theorem dn6 (n:Nat):(n+1+1+1+1+1+1=n)=False:=by simp only [eq_iff_iff,iff_false];omega
@[go_sem] theorem up7 (n:Nat):(n=n+1+1+1+1+1+1+1)=False:=by simp only [eq_iff_iff,iff_false];omega
@[go_sem] theorem dn7 (n:Nat):(n+1+1+1+1+1+1+1=n)=False:=by simp only [eq_iff_iff,iff_false];omega
@[go_sem] theorem up8 (n:Nat):(n=n+1+1+1+1+1+1+1+1)=False:=by simp only [eq_iff_iff,iff_false];omega
@[go_sem] theorem dn8 (n:Nat):(n+1+1+1+1+1+1+1+1=n)=False:=by simp only [eq_iff_iff,iff_false];omega
end Go.Proofs.YtnoifgjiipgpoaaGreatDoor.R

namespace Go.Proofs.YtnoifgjiipgpoaaGreatDoor.R
open Go Go.ChangeShapes Go.WideShapes Go.ChangeAt Go.RowKit
def jRest (P:Program) (f:FuncId) (fn:Func) (s:ChangeSpec) (c:OpenClaim):Bool:=
 c.wf (OpenSpec.ofChange s)&&laidOutB P&&mapsRowed P&&fn.params.all (P.readableRec ·)&&namedTie P c.named s.vars&&(c.stops==[])&&(P.stops==[])&&(c.knobs==[])&&(P.stopKnobs==[])&&(c.inPlace==P.inPlace f)&&(c.maps==(fn.params.toList++s.plain.varTypes P).any (P.mapsRec ·))&&(c.ifaces==(fn.params.toList++s.plain.varTypes P).any (P.ifacesRec ·))&&(c.mapsOut==P.mapsAmong fn.resultTypes.toList)&&(c.loops==(fn.params.toList++s.plain.varTypes P).any (P.loopsFrom ·))&&(c.wideKeys==(fn.params.toList++s.plain.varTypes P++fn.resultTypes.toList).any (P.wideKeysFrom ·))&&s.vars.all (P.varReadable ·)&&fn.resultTypes.all (fun t=>P.readableRec t&&decide (t<P.types.size))&&(c.ifacesOut==fn.resultTypes.toList.any (P.ifacesRec ·))&&(c.loopsOut==fn.resultTypes.toList.any (P.loopsFrom ·))&&(c.plainKeys==P.plainKeys)&&c.shortTexts.isNone&&P.stopsHeard&&(c.kinds==(if c.domain.isEmpty then [] else fn.params.toList.map fun t=>match P.underlying t with | some (.int k)=>some k | _=>none))&&(c.pinned==c.pinnedBy)&&(c.veiled==(fn.params.toList++s.plain.varTypes P++fn.resultTypes.toList).any (P.veiledRec ·))&&c.veiledFits P fn.params.toList (fn.params.toList++s.plain.varTypes P++fn.resultTypes.toList)
theorem joined_of {P:Program} {f:FuncId} {fn:Func} {s:ChangeSpec} {c:OpenClaim} (h:jRest P f fn s c=true) (h10:(c.unfollowed==P.unfollowed f)=true) (h11:(c.recurses==P.recurses f)=true) (h12:(c.named==P.varsNamed f)=true) (h25:P.mayEnter=true) (h26:(c.lifted==P.liftsFinal)=true) (h27:(P.make==some c.make)=true):joinedFacts P f fn s c=true:=by
 simp only [jRest,Bool.and_eq_true] at h
 obtain ⟨⟨⟨⟨⟨⟨⟨⟨⟨⟨⟨⟨⟨⟨⟨⟨⟨⟨⟨⟨⟨⟨⟨⟨⟨k0,k1⟩,k2⟩,k3⟩,k4⟩,k5⟩,k6⟩,k7⟩,k8⟩,k9⟩,k13⟩,k14⟩,k15⟩,k16⟩,k17⟩,k18⟩,k19⟩,k20⟩,k21⟩,k22⟩,k23⟩,k24⟩,k28⟩,k29⟩,k30⟩,k31⟩:=h
 simp only [joinedFacts,Bool.and_eq_true]
 exact ⟨⟨⟨⟨⟨⟨⟨⟨⟨⟨⟨⟨⟨⟨⟨⟨⟨⟨⟨⟨⟨⟨⟨⟨⟨⟨⟨⟨⟨⟨⟨k0,k1⟩,k2⟩,k3⟩,k4⟩,k5⟩,k6⟩,k7⟩,k8⟩,k9⟩,h10⟩,h11⟩,h12⟩,k13⟩,k14⟩,k15⟩,k16⟩,k17⟩,k18⟩,k19⟩,k20⟩,k21⟩,k22⟩,k23⟩,k24⟩,h25⟩,h26⟩,h27⟩,k28⟩,k29⟩,k30⟩,k31⟩
end Go.Proofs.YtnoifgjiipgpoaaGreatDoor.R

set_option maxRecDepth 20000
namespace Go.Proofs.YtnoifgjiipgpoaaGreatDoor
open Go Go.Proofs.YtnoifgjiipgpoaaGreatDoor.R
noncomputable abbrev P:Program:=Tryz.prog
theorem tt2:TT P 2=some ⟨Go.TypeDesc.int Go.IntKind.i64,1,8,(Go.Value.int Go.IntKind.i64 0)⟩:=by kernel_rfl
theorem tt3:TT P 3=some ⟨Go.TypeDesc.int Go.IntKind.i64,1,8,(Go.Value.int Go.IntKind.i64 0)⟩:=by kernel_rfl
theorem tt4:TT P 4=some ⟨Go.TypeDesc.bool,1,1,(Go.Value.bool Bool.false)⟩:=by kernel_rfl
theorem tt5:TT P 5=some ⟨Go.TypeDesc.int Go.IntKind.u8,1,1,(Go.Value.int Go.IntKind.u8 0)⟩:=by kernel_rfl
theorem tt9:TT P 9=some ⟨Go.TypeDesc.string,1,16,(Go.Value.string {data:=#[]})⟩:=by kernel_rfl
theorem tt22:TT P 22=some ⟨Go.TypeDesc.slice 5,1,24,(Go.Value.slice Option.none 0 0)⟩:=by kernel_rfl
theorem tt23:TT P 23=some ⟨Go.TypeDesc.func #[] #[4] Bool.false,1,8,Go.Value.nilFunc⟩:=by kernel_rfl
theorem tt27:TT P 27=some ⟨Go.TypeDesc.struct #[{name:= "Status",type:=3,offset:=0,embedded:=Bool.false,tag:= "",pkgPath:= "",byteOffset:=0},{name:= "Text",type:=22,offset:=1,embedded:=Bool.false,tag:= "",pkgPath:= "",byteOffset:=8},{name:= "Low",type:=3,offset:=2,embedded:=Bool.false,tag:= "",pkgPath:= "",byteOffset:=32},{name:= "Up",type:=3,offset:=3,embedded:=Bool.false,tag:= "",pkgPath:= "",byteOffset:=40},{name:= "Certificate",type:=22,offset:=4,embedded:=Bool.false,tag:= "",pkgPath:= "",byteOffset:=48}],5,72,(Go.Value.agg #[Go.Value.int Go.IntKind.i64 0,Go.Value.slice Option.none 0 0,Go.Value.int Go.IntKind.i64 0,Go.Value.int Go.IntKind.i64 0,Go.Value.slice Option.none 0 0])⟩:=by kernel_rfl
theorem tt29:TT P 29=some ⟨Go.TypeDesc.slice 57,1,24,(Go.Value.slice Option.none 0 0)⟩:=by kernel_rfl
theorem tt31:TT P 31=some ⟨Go.TypeDesc.struct #[{name:= "Pairs",type:=3,offset:=0,embedded:=Bool.false,tag:= "",pkgPath:= "",byteOffset:=0},{name:= "Cars",type:=3,offset:=1,embedded:=Bool.false,tag:= "",pkgPath:= "",byteOffset:=8},{name:= "Room",type:=3,offset:=2,embedded:=Bool.false,tag:= "",pkgPath:= "",byteOffset:=16},{name:= "Stops",type:=29,offset:=3,embedded:=Bool.false,tag:= "",pkgPath:= "",byteOffset:=24}],4,48,(Go.Value.agg #[Go.Value.int Go.IntKind.i64 0,Go.Value.int Go.IntKind.i64 0,Go.Value.int Go.IntKind.i64 0,Go.Value.slice Option.none 0 0])⟩:=by kernel_rfl
theorem tt32:TT P 32=some ⟨Go.TypeDesc.int Go.IntKind.i64,1,8,(Go.Value.int Go.IntKind.i64 0)⟩:=by kernel_rfl
theorem tt36:TT P 36=some ⟨Go.TypeDesc.struct #[{name:= "Width",type:=3,offset:=0,embedded:=Bool.false,tag:= "",pkgPath:= "",byteOffset:=0},{name:= "Order",type:=3,offset:=1,embedded:=Bool.false,tag:= "",pkgPath:= "",byteOffset:=8},{name:= "Budget",type:=3,offset:=2,embedded:=Bool.false,tag:= "",pkgPath:= "",byteOffset:=16}],3,24,(Go.Value.agg #[Go.Value.int Go.IntKind.i64 0,Go.Value.int Go.IntKind.i64 0,Go.Value.int Go.IntKind.i64 0])⟩:=by kernel_rfl
theorem tt39:TT P 39=some ⟨Go.TypeDesc.slice 77,1,24,(Go.Value.slice Option.none 0 0)⟩:=by kernel_rfl
theorem tt41:TT P 41=some ⟨Go.TypeDesc.struct #[{name:= "Routes",type:=39,offset:=0,embedded:=Bool.false,tag:= "",pkgPath:= "",byteOffset:=0}],1,24,(Go.Value.agg #[Go.Value.slice Option.none 0 0])⟩:=by kernel_rfl
theorem tt42:TT P 42=some ⟨Go.TypeDesc.slice 139,1,24,(Go.Value.slice Option.none 0 0)⟩:=by kernel_rfl
theorem tt44:TT P 44=some ⟨Go.TypeDesc.struct #[{name:= "Status",type:=3,offset:=0,embedded:=Bool.false,tag:= "",pkgPath:= "",byteOffset:=0},{name:= "P",type:=41,offset:=1,embedded:=Bool.false,tag:= "",pkgPath:= "",byteOffset:=8},{name:= "Up",type:=3,offset:=2,embedded:=Bool.false,tag:= "",pkgPath:= "",byteOffset:=32},{name:= "Low",type:=3,offset:=3,embedded:=Bool.false,tag:= "",pkgPath:= "",byteOffset:=40},{name:= "Steps",type:=3,offset:=4,embedded:=Bool.false,tag:= "",pkgPath:= "",byteOffset:=48},{name:= "Log",type:=42,offset:=5,embedded:=Bool.false,tag:= "",pkgPath:= "",byteOffset:=56}],6,80,(Go.Value.agg #[Go.Value.int Go.IntKind.i64 0,Go.Value.slice Option.none 0 0,Go.Value.int Go.IntKind.i64 0,Go.Value.int Go.IntKind.i64 0,Go.Value.int Go.IntKind.i64 0,Go.Value.slice Option.none 0 0])⟩:=by kernel_rfl
theorem tt57:TT P 57=some ⟨Go.TypeDesc.struct #[{name:= "X",type:=3,offset:=0,embedded:=Bool.false,tag:= "",pkgPath:= "",byteOffset:=0},{name:= "Y",type:=3,offset:=1,embedded:=Bool.false,tag:= "",pkgPath:= "",byteOffset:=8},{name:= "Demand",type:=3,offset:=2,embedded:=Bool.false,tag:= "",pkgPath:= "",byteOffset:=16},{name:= "Ready",type:=3,offset:=3,embedded:=Bool.false,tag:= "",pkgPath:= "",byteOffset:=24},{name:= "Due",type:=3,offset:=4,embedded:=Bool.false,tag:= "",pkgPath:= "",byteOffset:=32},{name:= "Service",type:=3,offset:=5,embedded:=Bool.false,tag:= "",pkgPath:= "",byteOffset:=40}],6,48,(Go.Value.agg #[Go.Value.int Go.IntKind.i64 0,Go.Value.int Go.IntKind.i64 0,Go.Value.int Go.IntKind.i64 0,Go.Value.int Go.IntKind.i64 0,Go.Value.int Go.IntKind.i64 0,Go.Value.int Go.IntKind.i64 0])⟩:=by kernel_rfl
theorem tt67:TT P 67=some ⟨Go.TypeDesc.struct #[{name:= "instance",type:=22,offset:=0,embedded:=Bool.false,tag:= "",pkgPath:= "haulier/solve",byteOffset:=0},{name:= "options",type:=22,offset:=1,embedded:=Bool.false,tag:= "",pkgPath:= "haulier/solve",byteOffset:=24},{name:= "x",type:=31,offset:=2,embedded:=Bool.false,tag:= "",pkgPath:= "haulier/solve",byteOffset:=48},{name:= "o",type:=36,offset:=6,embedded:=Bool.false,tag:= "",pkgPath:= "haulier/solve",byteOffset:=96},{name:= "a",type:=27,offset:=9,embedded:=Bool.false,tag:= "",pkgPath:= "haulier/solve",byteOffset:=120}],14,192,(Go.Value.agg #[Go.Value.slice Option.none 0 0,Go.Value.slice Option.none 0 0,Go.Value.int Go.IntKind.i64 0,Go.Value.int Go.IntKind.i64 0,Go.Value.int Go.IntKind.i64 0,Go.Value.slice Option.none 0 0,Go.Value.int Go.IntKind.i64 0,Go.Value.int Go.IntKind.i64 0,Go.Value.int Go.IntKind.i64 0,Go.Value.int Go.IntKind.i64 0,Go.Value.slice Option.none 0 0,Go.Value.int Go.IntKind.i64 0,Go.Value.int Go.IntKind.i64 0,Go.Value.slice Option.none 0 0])⟩:=by kernel_rfl
theorem tt68:TT P 68=some ⟨Go.TypeDesc.array 3 23,3,24,(Go.Value.agg #[Go.Value.nilFunc,Go.Value.nilFunc,Go.Value.nilFunc])⟩:=by kernel_rfl
theorem tt71:TT P 71=some ⟨Go.TypeDesc.slice 127,1,24,(Go.Value.slice Option.none 0 0)⟩:=by kernel_rfl
theorem tt73:TT P 73=some ⟨Go.TypeDesc.struct #[{name:= "Least",type:=3,offset:=0,embedded:=Bool.false,tag:= "",pkgPath:= "",byteOffset:=0},{name:= "Parts",type:=71,offset:=1,embedded:=Bool.false,tag:= "",pkgPath:= "",byteOffset:=8}],2,32,(Go.Value.agg #[Go.Value.int Go.IntKind.i64 0,Go.Value.slice Option.none 0 0])⟩:=by kernel_rfl
theorem tt77:TT P 77=some ⟨Go.TypeDesc.slice 3,1,24,(Go.Value.slice Option.none 0 0)⟩:=by kernel_rfl
theorem tt81:TT P 81=some ⟨Go.TypeDesc.array 3 3,3,24,(Go.Value.agg #[Go.Value.int Go.IntKind.i64 0,Go.Value.int Go.IntKind.i64 0,Go.Value.int Go.IntKind.i64 0])⟩:=by kernel_rfl
theorem tt83:TT P 83=some ⟨Go.TypeDesc.pointer 152,1,8,(Go.Value.pointer Option.none)⟩:=by kernel_rfl
theorem tt85:TT P 85=some ⟨Go.TypeDesc.slice 94,1,24,(Go.Value.slice Option.none 0 0)⟩:=by kernel_rfl
theorem tt87:TT P 87=some ⟨Go.TypeDesc.struct #[{name:= "x",type:=31,offset:=0,embedded:=Bool.false,tag:= "",pkgPath:= "haulier/search",byteOffset:=0},{name:= "o",type:=36,offset:=4,embedded:=Bool.false,tag:= "",pkgPath:= "haulier/search",byteOffset:=48},{name:= "r",type:=44,offset:=7,embedded:=Bool.false,tag:= "",pkgPath:= "haulier/search",byteOffset:=72},{name:= "subs",type:=85,offset:=13,embedded:=Bool.false,tag:= "",pkgPath:= "haulier/search",byteOffset:=152},{name:= "q",type:=83,offset:=14,embedded:=Bool.false,tag:= "",pkgPath:= "haulier/search",byteOffset:=176}],15,184,(Go.Value.agg #[Go.Value.int Go.IntKind.i64 0,Go.Value.int Go.IntKind.i64 0,Go.Value.int Go.IntKind.i64 0,Go.Value.slice Option.none 0 0,Go.Value.int Go.IntKind.i64 0,Go.Value.int Go.IntKind.i64 0,Go.Value.int Go.IntKind.i64 0,Go.Value.int Go.IntKind.i64 0,Go.Value.slice Option.none 0 0,Go.Value.int Go.IntKind.i64 0,Go.Value.int Go.IntKind.i64 0,Go.Value.int Go.IntKind.i64 0,Go.Value.slice Option.none 0 0,Go.Value.slice Option.none 0 0,Go.Value.pointer Option.none])⟩:=by kernel_rfl
theorem tt89:TT P 89=some ⟨Go.TypeDesc.int Go.IntKind.u64,1,8,(Go.Value.int Go.IntKind.u64 0)⟩:=by kernel_rfl
theorem tt91:TT P 91=some ⟨Go.TypeDesc.struct #[{name:= "At",type:=3,offset:=0,embedded:=Bool.false,tag:= "",pkgPath:= "",byteOffset:=0},{name:= "Car",type:=3,offset:=1,embedded:=Bool.false,tag:= "",pkgPath:= "",byteOffset:=8},{name:= "Time",type:=3,offset:=2,embedded:=Bool.false,tag:= "",pkgPath:= "",byteOffset:=16},{name:= "Load",type:=3,offset:=3,embedded:=Bool.false,tag:= "",pkgPath:= "",byteOffset:=24},{name:= "First",type:=3,offset:=4,embedded:=Bool.false,tag:= "",pkgPath:= "",byteOffset:=32},{name:= "Must",type:=89,offset:=5,embedded:=Bool.false,tag:= "",pkgPath:= "",byteOffset:=40},{name:= "May",type:=89,offset:=6,embedded:=Bool.false,tag:= "",pkgPath:= "",byteOffset:=48},{name:= "On",type:=89,offset:=7,embedded:=Bool.false,tag:= "",pkgPath:= "",byteOffset:=56}],8,64,(Go.Value.agg #[Go.Value.int Go.IntKind.i64 0,Go.Value.int Go.IntKind.i64 0,Go.Value.int Go.IntKind.i64 0,Go.Value.int Go.IntKind.i64 0,Go.Value.int Go.IntKind.i64 0,Go.Value.int Go.IntKind.u64 0,Go.Value.int Go.IntKind.u64 0,Go.Value.int Go.IntKind.u64 0])⟩:=by kernel_rfl
theorem tt94:TT P 94=some ⟨Go.TypeDesc.struct #[{name:= "S",type:=91,offset:=0,embedded:=Bool.false,tag:= "",pkgPath:= "",byteOffset:=0},{name:= "Cost",type:=3,offset:=8,embedded:=Bool.false,tag:= "",pkgPath:= "",byteOffset:=64},{name:= "Path",type:=77,offset:=9,embedded:=Bool.false,tag:= "",pkgPath:= "",byteOffset:=72}],10,96,(Go.Value.agg #[Go.Value.int Go.IntKind.i64 0,Go.Value.int Go.IntKind.i64 0,Go.Value.int Go.IntKind.i64 0,Go.Value.int Go.IntKind.i64 0,Go.Value.int Go.IntKind.i64 0,Go.Value.int Go.IntKind.u64 0,Go.Value.int Go.IntKind.u64 0,Go.Value.int Go.IntKind.u64 0,Go.Value.int Go.IntKind.i64 0,Go.Value.slice Option.none 0 0])⟩:=by kernel_rfl
theorem tt96:TT P 96=some ⟨Go.TypeDesc.struct #[{name:= "Bound",type:=3,offset:=0,embedded:=Bool.false,tag:= "",pkgPath:= "",byteOffset:=0},{name:= "Depth",type:=3,offset:=1,embedded:=Bool.false,tag:= "",pkgPath:= "",byteOffset:=8},{name:= "No",type:=3,offset:=2,embedded:=Bool.false,tag:= "",pkgPath:= "",byteOffset:=16}],3,24,(Go.Value.agg #[Go.Value.int Go.IntKind.i64 0,Go.Value.int Go.IntKind.i64 0,Go.Value.int Go.IntKind.i64 0])⟩:=by kernel_rfl
theorem tt125:TT P 125=some ⟨Go.TypeDesc.slice 128,1,24,(Go.Value.slice Option.none 0 0)⟩:=by kernel_rfl
theorem tt127:TT P 127=some ⟨Go.TypeDesc.struct #[{name:= "Layers",type:=125,offset:=0,embedded:=Bool.false,tag:= "",pkgPath:= "",byteOffset:=0}],1,24,(Go.Value.agg #[Go.Value.slice Option.none 0 0])⟩:=by kernel_rfl
theorem tt128:TT P 128=some ⟨Go.TypeDesc.slice 133,1,24,(Go.Value.slice Option.none 0 0)⟩:=by kernel_rfl
theorem tt133:TT P 133=some ⟨Go.TypeDesc.struct #[{name:= "S",type:=91,offset:=0,embedded:=Bool.false,tag:= "",pkgPath:= "",byteOffset:=0},{name:= "Cost",type:=3,offset:=8,embedded:=Bool.false,tag:= "",pkgPath:= "",byteOffset:=64},{name:= "Part",type:=3,offset:=9,embedded:=Bool.false,tag:= "",pkgPath:= "",byteOffset:=72}],10,80,(Go.Value.agg #[Go.Value.int Go.IntKind.i64 0,Go.Value.int Go.IntKind.i64 0,Go.Value.int Go.IntKind.i64 0,Go.Value.int Go.IntKind.i64 0,Go.Value.int Go.IntKind.i64 0,Go.Value.int Go.IntKind.u64 0,Go.Value.int Go.IntKind.u64 0,Go.Value.int Go.IntKind.u64 0,Go.Value.int Go.IntKind.i64 0,Go.Value.int Go.IntKind.i64 0])⟩:=by kernel_rfl
theorem tt135:TT P 135=some ⟨Go.TypeDesc.slice 85,1,24,(Go.Value.slice Option.none 0 0)⟩:=by kernel_rfl
theorem tt137:TT P 137=some ⟨Go.TypeDesc.struct #[{name:= "Layers",type:=135,offset:=0,embedded:=Bool.false,tag:= "",pkgPath:= "",byteOffset:=0},{name:= "Low",type:=3,offset:=1,embedded:=Bool.false,tag:= "",pkgPath:= "",byteOffset:=24},{name:= "Exact",type:=4,offset:=2,embedded:=Bool.false,tag:= "",pkgPath:= "",byteOffset:=32},{name:= "Sure",type:=3,offset:=3,embedded:=Bool.false,tag:= "",pkgPath:= "",byteOffset:=40}],4,48,(Go.Value.agg #[Go.Value.slice Option.none 0 0,Go.Value.int Go.IntKind.i64 0,Go.Value.bool Bool.false,Go.Value.int Go.IntKind.i64 0])⟩:=by kernel_rfl
theorem tt139:TT P 139=some ⟨Go.TypeDesc.struct #[{name:= "N",type:=94,offset:=0,embedded:=Bool.false,tag:= "",pkgPath:= "",byteOffset:=0},{name:= "D",type:=137,offset:=10,embedded:=Bool.false,tag:= "",pkgPath:= "",byteOffset:=96}],14,144,(Go.Value.agg #[Go.Value.int Go.IntKind.i64 0,Go.Value.int Go.IntKind.i64 0,Go.Value.int Go.IntKind.i64 0,Go.Value.int Go.IntKind.i64 0,Go.Value.int Go.IntKind.i64 0,Go.Value.int Go.IntKind.u64 0,Go.Value.int Go.IntKind.u64 0,Go.Value.int Go.IntKind.u64 0,Go.Value.int Go.IntKind.i64 0,Go.Value.slice Option.none 0 0,Go.Value.slice Option.none 0 0,Go.Value.int Go.IntKind.i64 0,Go.Value.bool Bool.false,Go.Value.int Go.IntKind.i64 0])⟩:=by kernel_rfl
theorem tt142:TT P 142=some ⟨Go.TypeDesc.struct #[{name:= "b",type:=22,offset:=0,embedded:=Bool.false,tag:= "",pkgPath:= "haulier/scan",byteOffset:=0},{name:= "at",type:=3,offset:=1,embedded:=Bool.false,tag:= "",pkgPath:= "haulier/scan",byteOffset:=24}],2,32,(Go.Value.agg #[Go.Value.slice Option.none 0 0,Go.Value.int Go.IntKind.i64 0])⟩:=by kernel_rfl
theorem tt146:TT P 146=some ⟨Go.TypeDesc.array 6 3,6,48,(Go.Value.agg #[Go.Value.int Go.IntKind.i64 0,Go.Value.int Go.IntKind.i64 0,Go.Value.int Go.IntKind.i64 0,Go.Value.int Go.IntKind.i64 0,Go.Value.int Go.IntKind.i64 0,Go.Value.int Go.IntKind.i64 0])⟩:=by kernel_rfl
theorem tt148:TT P 148=some ⟨Go.TypeDesc.slice 156,1,24,(Go.Value.slice Option.none 0 0)⟩:=by kernel_rfl
theorem tt150:TT P 150=some ⟨Go.TypeDesc.struct #[{name:= "l",type:=148,offset:=0,embedded:=Bool.false,tag:= "",pkgPath:= "haulier/heap",byteOffset:=0}],1,24,(Go.Value.agg #[Go.Value.slice Option.none 0 0])⟩:=by kernel_rfl
theorem tt152:TT P 152=some ⟨Go.TypeDesc.struct #[{name:= "t",type:=150,offset:=0,embedded:=Bool.false,tag:= "",pkgPath:= "haulier/heap",byteOffset:=0},{name:= "order",type:=3,offset:=1,embedded:=Bool.false,tag:= "",pkgPath:= "haulier/heap",byteOffset:=24}],2,32,(Go.Value.agg #[Go.Value.slice Option.none 0 0,Go.Value.int Go.IntKind.i64 0])⟩:=by kernel_rfl
theorem tt156:TT P 156=some ⟨Go.TypeDesc.struct #[{name:= "Entry",type:=96,offset:=0,embedded:=Bool.true,tag:= "",pkgPath:= "",byteOffset:=0},{name:= "order",type:=3,offset:=3,embedded:=Bool.false,tag:= "",pkgPath:= "haulier/heap",byteOffset:=24}],4,32,(Go.Value.agg #[Go.Value.int Go.IntKind.i64 0,Go.Value.int Go.IntKind.i64 0,Go.Value.int Go.IntKind.i64 0,Go.Value.int Go.IntKind.i64 0])⟩:=by kernel_rfl
theorem tt187:TT P 187=some ⟨Go.TypeDesc.struct #[{name:= "b",type:=22,offset:=0,embedded:=Bool.false,tag:= "",pkgPath:= "haulier/cert",byteOffset:=0},{name:= "e",type:=32,offset:=1,embedded:=Bool.false,tag:= "",pkgPath:= "haulier/cert",byteOffset:=24}],2,32,(Go.Value.agg #[Go.Value.slice Option.none 0 0,Go.Value.int Go.IntKind.i64 0])⟩:=by kernel_rfl
theorem tt192:TT P 192=some ⟨Go.TypeDesc.struct #[{name:= "x",type:=31,offset:=0,embedded:=Bool.false,tag:= "",pkgPath:= "haulier/proof",byteOffset:=0},{name:= "r",type:=44,offset:=4,embedded:=Bool.false,tag:= "",pkgPath:= "haulier/proof",byteOffset:=48}],10,128,(Go.Value.agg #[Go.Value.int Go.IntKind.i64 0,Go.Value.int Go.IntKind.i64 0,Go.Value.int Go.IntKind.i64 0,Go.Value.slice Option.none 0 0,Go.Value.int Go.IntKind.i64 0,Go.Value.slice Option.none 0 0,Go.Value.int Go.IntKind.i64 0,Go.Value.int Go.IntKind.i64 0,Go.Value.int Go.IntKind.i64 0,Go.Value.slice Option.none 0 0])⟩:=by kernel_rfl
theorem tt208:TT P 208=some ⟨Go.TypeDesc.array 2 3,2,16,(Go.Value.agg #[Go.Value.int Go.IntKind.i64 0,Go.Value.int Go.IntKind.i64 0])⟩:=by kernel_rfl
theorem tt216:TT P 216=some ⟨Go.TypeDesc.struct #[{name:= "best",type:=94,offset:=0,embedded:=Bool.false,tag:= "",pkgPath:= "haulier/exact",byteOffset:=0},{name:= "some",type:=4,offset:=10,embedded:=Bool.false,tag:= "",pkgPath:= "haulier/exact",byteOffset:=96},{name:= "up",type:=3,offset:=11,embedded:=Bool.false,tag:= "",pkgPath:= "haulier/exact",byteOffset:=104},{name:= "steps",type:=3,offset:=12,embedded:=Bool.false,tag:= "",pkgPath:= "haulier/exact",byteOffset:=112}],13,120,(Go.Value.agg #[Go.Value.int Go.IntKind.i64 0,Go.Value.int Go.IntKind.i64 0,Go.Value.int Go.IntKind.i64 0,Go.Value.int Go.IntKind.i64 0,Go.Value.int Go.IntKind.i64 0,Go.Value.int Go.IntKind.u64 0,Go.Value.int Go.IntKind.u64 0,Go.Value.int Go.IntKind.u64 0,Go.Value.int Go.IntKind.i64 0,Go.Value.slice Option.none 0 0,Go.Value.bool Bool.false,Go.Value.int Go.IntKind.i64 0,Go.Value.int Go.IntKind.i64 0])⟩:=by kernel_rfl
theorem tt226:TT P 226=some ⟨Go.TypeDesc.int Go.IntKind.u64,1,8,(Go.Value.int Go.IntKind.u64 0)⟩:=by kernel_rfl
theorem tt239:TT P 239=some ⟨Go.TypeDesc.array 3 89,3,24,(Go.Value.agg #[Go.Value.int Go.IntKind.u64 0,Go.Value.int Go.IntKind.u64 0,Go.Value.int Go.IntKind.u64 0])⟩:=by kernel_rfl
theorem tt271:TT P 271=some ⟨Go.TypeDesc.struct #[{name:= "Instance",type:=31,offset:=0,embedded:=Bool.true,tag:= "",pkgPath:= "",byteOffset:=0},{name:= "s",type:=91,offset:=4,embedded:=Bool.false,tag:= "",pkgPath:= "haulier/state",byteOffset:=48}],12,112,(Go.Value.agg #[Go.Value.int Go.IntKind.i64 0,Go.Value.int Go.IntKind.i64 0,Go.Value.int Go.IntKind.i64 0,Go.Value.slice Option.none 0 0,Go.Value.int Go.IntKind.i64 0,Go.Value.int Go.IntKind.i64 0,Go.Value.int Go.IntKind.i64 0,Go.Value.int Go.IntKind.i64 0,Go.Value.int Go.IntKind.i64 0,Go.Value.int Go.IntKind.u64 0,Go.Value.int Go.IntKind.u64 0,Go.Value.int Go.IntKind.u64 0])⟩:=by kernel_rfl
theorem tt293:TT P 293=some ⟨Go.TypeDesc.map 91 3,1,8,(Go.Value.map Option.none)⟩:=by kernel_rfl
theorem tt294:TT P 294=some ⟨Go.TypeDesc.slice 296,1,24,(Go.Value.slice Option.none 0 0)⟩:=by kernel_rfl
theorem tt296:TT P 296=some ⟨Go.TypeDesc.struct #[{name:= "x",type:=94,offset:=0,embedded:=Bool.false,tag:= "",pkgPath:= "haulier/level",byteOffset:=0},{name:= "of",type:=3,offset:=10,embedded:=Bool.false,tag:= "",pkgPath:= "haulier/level",byteOffset:=96}],11,104,(Go.Value.agg #[Go.Value.int Go.IntKind.i64 0,Go.Value.int Go.IntKind.i64 0,Go.Value.int Go.IntKind.i64 0,Go.Value.int Go.IntKind.i64 0,Go.Value.int Go.IntKind.i64 0,Go.Value.int Go.IntKind.u64 0,Go.Value.int Go.IntKind.u64 0,Go.Value.int Go.IntKind.u64 0,Go.Value.int Go.IntKind.i64 0,Go.Value.slice Option.none 0 0,Go.Value.int Go.IntKind.i64 0])⟩:=by kernel_rfl
theorem tt299:TT P 299=some ⟨Go.TypeDesc.map 3 85,1,8,(Go.Value.map Option.none)⟩:=by kernel_rfl
theorem tt318:TT P 318=some ⟨Go.TypeDesc.slice 91,1,24,(Go.Value.slice Option.none 0 0)⟩:=by kernel_rfl
theorem tt327:TT P 327=some ⟨Go.TypeDesc.float Go.FloatKind.f64,1,8,(Go.Value.float Go.FloatKind.f64 0)⟩:=by kernel_rfl
theorem tt340:TT P 340=some ⟨Go.TypeDesc.struct #[{name:= "s",type:=91,offset:=0,embedded:=Bool.false,tag:= "",pkgPath:= "haulier/relax",byteOffset:=0},{name:= "many",type:=3,offset:=8,embedded:=Bool.false,tag:= "",pkgPath:= "haulier/relax",byteOffset:=64},{name:= "odd",type:=4,offset:=9,embedded:=Bool.false,tag:= "",pkgPath:= "haulier/relax",byteOffset:=72}],10,80,(Go.Value.agg #[Go.Value.int Go.IntKind.i64 0,Go.Value.int Go.IntKind.i64 0,Go.Value.int Go.IntKind.i64 0,Go.Value.int Go.IntKind.i64 0,Go.Value.int Go.IntKind.i64 0,Go.Value.int Go.IntKind.u64 0,Go.Value.int Go.IntKind.u64 0,Go.Value.int Go.IntKind.u64 0,Go.Value.int Go.IntKind.i64 0,Go.Value.bool Bool.false])⟩:=by kernel_rfl
attribute [go_sem] tt2 tt3 tt4 tt5 tt9 tt22 tt23 tt27 tt29 tt31 tt32 tt36 tt39 tt41 tt42 tt44 tt57 tt67 tt68 tt71 tt73 tt77 tt81 tt83 tt85 tt87 tt89 tt91 tt94 tt96 tt125 tt127 tt128 tt133 tt135 tt137 tt139 tt142 tt146 tt148 tt150 tt152 tt156 tt187 tt192 tt208 tt216 tt226 tt239 tt271 tt293 tt294 tt296 tt299 tt318 tt327 tt340
end Go.Proofs.YtnoifgjiipgpoaaGreatDoor

set_option maxRecDepth 4000
namespace Go.Proofs.YtnoifgjiipgpoaaGreatDoor
open Go Go.Proofs.YtnoifgjiipgpoaaGreatDoor.R
def rowT (l:List Int):List T:=[.sl (ints l)]
theorem u64n (n:Nat) (h:n<18446744073709551616):IntKind.u64.wrap (n:Int)=n:=u64 _ (by omega)
theorem w64n (n:Nat) (h:n<9223372036854775808):IntKind.i64.wrap (n:Int)=n:=w64 _ (by omega)
def bitN (j:Int):Nat:=if 0≤j∧j≤63 then 2^j.toNat else 0
def hasB (s:Nat) (j:Int):Bool:=decide (0≤j∧j≤63)&&s.testBit j.toNat
theorem bitN_lt (j:Int):bitN j<2^64:=by
 unfold bitN;split
 ·exact Nat.pow_lt_pow_right (by decide) (by omega)
 ·decide
theorem bitN_nat {k:Nat} (h:k≤63):bitN k=2^k:=by rw [bitN,if_pos (by omega)];rfl
theorem bitN_out {j:Int} (h:j<0∨63<j):bitN j=0:=by rw [bitN,if_neg (by omega)]
theorem bandN {a b:Nat} (ha:a<2^64) (hb:b<2^64):band .u64 a b=((a&&&b:Nat):Int):=by
 show IntKind.u64.wrap ((BitVec.ofInt 64 a&&&BitVec.ofInt 64 b).toNat:Int)=_
 rw [BitVec.ofInt_natCast,BitVec.ofInt_natCast,BitVec.toNat_and,BitVec.toNat_ofNat,BitVec.toNat_ofNat,Nat.mod_eq_of_lt ha,Nat.mod_eq_of_lt hb]
 have h3:a&&&b<2^64:=Nat.and_lt_two_pow a hb
 exact u64 _ (by omega)
theorem borN {a b:Nat} (ha:a<2^64) (hb:b<2^64):bor .u64 a b=((a|||b:Nat):Int):=by
 show IntKind.u64.wrap ((BitVec.ofInt 64 a|||BitVec.ofInt 64 b).toNat:Int)=_
 rw [BitVec.ofInt_natCast,BitVec.ofInt_natCast,BitVec.toNat_or,BitVec.toNat_ofNat,BitVec.toNat_ofNat,Nat.mod_eq_of_lt ha,Nat.mod_eq_of_lt hb]
 have h3:a|||b<2^64:=Nat.or_lt_two_pow ha hb
 exact u64 _ (by omega)
theorem and_two (s k:Nat):(s&&&2^k=0)↔s.testBit k=false:=by
 constructor
 ·intro h
  have:=congrArg (fun x=>x.testBit k) h
  simpa [Nat.testBit_and,Nat.testBit_two_pow_self] using this
 ·intro h
  refine Nat.eq_of_testBit_eq fun i=>?_
  rw [Nat.testBit_and,Nat.zero_testBit,Nat.testBit_two_pow]
  by_cases e:k=i
  ·subst e;simp [h]
  ·simp [e]
theorem bit_pure (j:Int):Pure P 255 [.i j] (.u (bitN j)):=by
 refine pure_of Tryz.func255 rfl rfl (by simp [Tryz.f255]) (by simp [bnd,bnd.bndL]) (by simp [bnd]) fun B hB hnx=>?_
 simp only [Tryz.f255] at hB ⊢
 by_cases h1:j<0
 ·rw [bitN_out (.inl h1)]
  refine K_run hB 60 ?_
  simp [go_sem,h1]
 by_cases h2:63<j
 ·rw [bitN_out (.inr h2)]
  refine K_run hB 60 ?_
  simp [go_sem,h1,h2]
 obtain ⟨k,rfl⟩:∃k:Nat,j=k:=⟨j.toNat,by omega⟩
 have hk:k≤63:=by omega
 have hmin:min k 64=k:=by omega
 rw [bitN_nat hk]
 refine K_run hB 60 ?_
 simp [go_sem,h1,h2,hmin]
 have:2^k<2^64:=Nat.pow_lt_pow_right (by decide) (by omega)
 have h3:((2^k:Nat):Int)=(2:Int)^k:=by rw [Int.natCast_pow];rfl
 rw [←h3]
 exact u64n _ this
theorem has_pure (s:Nat) (j:Int) (hs:s<2^64):Pure P 223 [.u s,.i j] (.b (hasB s j)):=by
 refine pure_of Tryz.func223 rfl rfl (by simp [Tryz.f223]) (by simp [bnd,bnd.bndL]) (by simp [bnd]) fun B hB hnx=>?_
 simp only [Tryz.f223] at hB ⊢
 refine K_run hB 60 ?_
 simp [go_sem]
 refine K_call rfl rfl rfl (args:=[.i j]) (f:=255) (by simp [go_sem]) (by simp [go_sem,hB]) ((bit_pure j).spec _ _) ?_
 refine K_run hB 60 ?_
 simp [go_sem,bandN hs (bitN_lt j)]
 rw [hasB]
 by_cases h:0≤j∧j≤63
 ·obtain ⟨k,rfl⟩:∃k:Nat,j=k:=⟨j.toNat,by omega⟩
  have e0:s&&&bitN (k:Int)=0↔s.testBit k=false:=by
   rw [bitN_nat (by omega)]
   exact and_two s k
  simp only [h,and_self,decide_true,Bool.true_and,Int.toNat_natCast]
  cases hb:s.testBit k
  ·simp [e0.2 hb]
  ·have:¬s&&&bitN (k:Int)=0:=fun h=>by rw [e0.1 h] at hb;cases hb
   simp [this]
 ·rw [bitN_out (by omega)]
  simp [h]
end Go.Proofs.YtnoifgjiipgpoaaGreatDoor

set_option maxRecDepth 4000
namespace Go.Proofs.YtnoifgjiipgpoaaGreatDoor
open Go Go.Proofs.YtnoifgjiipgpoaaGreatDoor.R
def sum1 (a n:Int):Int:=min (a+min (max n 0) 1152921504606846976) 1152921504606846976
def sumI (l:List Int):Int:=l.foldl sum1 0
theorem sum1_in {a:Int} (h:0≤a∧a≤1152921504606846976) (n:Int):0≤sum1 a n∧sum1 a n≤1152921504606846976:=by unfold sum1;omega
theorem sum_pure (l:List Int) (hl:l.length<2^63):Pure P 134 [.t (.sl (ints l))] (.i (sumI l)):=by
 refine pure_of Tryz.func134 rfl rfl (by simp [Tryz.f134]) (by simp [bnd,bnd.bndL]) (by simp [bnd]) fun B hB hnx=>?_
 simp only [Tryz.f134] at hB ⊢
 refine K_run hB 60 ?_
 simp [go_sem]
 refine K_loopP (α:=Nat×Int) (fun (k,a)=>k≤l.length∧(0≤a∧a≤1152921504606846976)∧(l.drop k).foldl sum1 a=sumI l) (fun (k,a)=>⟨sl [(6,.t (.sl (ints l))),(7,.i l.length),(8,.i k),(3,.i a)],noObj,0⟩) (fun x=>l.length-x.1) (0,0) ⟨Nat.zero_le _,by omega,rfl⟩ (Imp.slots (by simp [go_sem,ints]) rfl rfl) ?_
 rintro ⟨k,a⟩ ⟨h1,h2,h3⟩
 refine K_run hB 60 ?_
 simp [go_sem]
 refine fork_dec (fun h=>?_) (fun h=>?_)
 ·rw [List.drop_eq_getElem_cons h,List.foldl_cons] at h3
  have hs:=sum1_in h2 l[k]
  simp [go_sem,ints,h]
  refine Next.mk (k+1,sum1 a l[k]) ⟨by omega,hs,h3⟩ (Imp.slots (by
   simp [go_sem,ints,sum1]
   rw [w64 ((k:Int)+1) (by omega),w64 (a+min (max l[k] 0) 1152921504606846976) (by omega)]
   simp) rfl rfl) (by simp only;omega)
 ·have:k=l.length:=by omega
  subst this
  simp [go_sem]
  simpa using h3
def rootL (m:Nat):Nat→Nat→Nat
 |0,r=>r
 |k+1,r=>rootL m k (if (r+2^k)*(r+2^k)<m then r+2^k else r)
theorem rootL_spec (m:Nat):∀k r,r*r<m→m≤(r+2^k)*(r+2^k)→rootL m k r*rootL m k r<m∧m≤(rootL m k r+1)*(rootL m k r+1)
 |0,r,h1,h2=>⟨h1,h2⟩
 |k+1,r,h1,h2=>by
  rw [rootL]
  by_cases h:(r+2^k)*(r+2^k)<m
  ·rw [if_pos h]
   refine rootL_spec m k _ h ?_
   have e:r+2^k+2^k=r+2^(k+1):=by rw [Nat.pow_succ];omega
   rw [e];exact h2
  ·rw [if_neg h]
   exact rootL_spec m k r h1 (by omega)
theorem rootL_lt (m:Nat):∀k r,rootL m k r<r+2^k
 |0,r=>by simp [rootL]
 |k+1,r=>by
  rw [rootL]
  have e:r+2^k+2^k=r+2^(k+1):=by rw [Nat.pow_succ];omega
  have:=Nat.two_pow_pos k
  split
  ·have:=rootL_lt m k (r+2^k);omega
  ·have:=rootL_lt m k r;omega
def rootI (n:Int):Int:=if n≤0 then 0 else ((rootL (min n 1152921504606846976).toNat 31 0+1:Nat):Int)
theorem root_pure (n:Int):Pure P 262 [.i n] (.i (rootI n)):=by
 refine pure_of Tryz.func262 rfl rfl (by simp [Tryz.f262]) (by simp [bnd,bnd.bndL]) (by simp [bnd]) fun B hB hnx=>?_
 simp only [Tryz.f262] at hB ⊢
 obtain ⟨m,hm⟩:∃m:Nat,m=(min (max n 0) 1152921504606846976).toNat:=⟨_,rfl⟩
 have hmi:min (max n 0) 1152921504606846976=(m:Int):=by omega
 have hm60:m≤1152921504606846976:=by omega
 refine K_run hB 60 ?_
 simp [go_sem]
 refine K_scopeP (α:=Nat×Nat) 0 (fun (k,r)=>k≤30∧r+2^(k+1)≤2147483648∧rootL m (k+1) r=rootL m 31 0) (fun (k,r)=>⟨sl [(0,.i m),(3,.i r),(4,.i (2^k:Nat))],noObj,0⟩) (fun x=>x.1) rfl ?_ ?_
 ·have f0:¬(1152921504606846976:Int)<m:=by omega
  have f1:=w64 1073741824 (by omega)
  have f2:=w64 1152921504606846976 (by omega)
  refine K_run hB 60 ?_
  simp [go_sem,hmi,f1,f2,f0]
  refine ⟨29,0,⟨by omega,by omega,?_⟩,Imp.slots (by simp [go_sem]) rfl rfl⟩
  have e:rootL m 31 0=rootL m 30 (if (0+2^30)*(0+2^30)<m then 0+2^30 else 0):=rfl
  rw [e,if_neg (by simp;omega)]
 ·rintro ⟨k,r⟩ ⟨h1,h2,h3⟩
  obtain ⟨x,hx⟩:∃x,x=r+2^k:=⟨_,rfl⟩
  have hp:=Nat.two_pow_pos k
  have e2:r+2^k+2^k=r+2^(k+1):=by rw [Nat.pow_succ];omega
  have hxx:x*x≤2147483648*2147483648:=Nat.mul_le_mul (by omega) (by omega)
  have hcast:(r:Int)+2^k=(x:Int):=by rw [hx,Int.natCast_add,Int.natCast_pow];rfl
  have f1:IntKind.i64.wrap (x:Int)=x:=w64n x (by omega)
  have f2:IntKind.i64.wrap ((x:Int)*x)=((x*x:Nat):Int):=by rw [←Int.natCast_mul];exact w64n _ (by omega)
  rw [rootL] at h3
  rw [←hx] at h3
  have hend:∀r',rootL m 0 r'=rootL m 31 0→(if 0<m then ((r':Int)+1) else (r':Int))=rootI n:=fun r' hr=>by
   have hr':r'=rootL m 31 0:=hr
   by_cases hm0:0<m
   ·rw [if_pos hm0,rootI,if_neg (by omega)]
    have e:(min n 1152921504606846976).toNat=m:=by omega
    rw [e,hr'];rfl
   ·have e0:m=0:=by omega
    rw [if_neg hm0,rootI,if_pos (by omega),hr',e0]
    decide
  have hrr:r<2147483648:=by omega
  have hxr:x≤2147483648:=by omega
  have fx1:=w64 ((x:Int)+1) (by omega)
  have fr1:=w64 ((r:Int)+1) (by omega)
  by_cases hlt:x*x<m
  ·rw [if_pos hlt] at h3
   have hlt':(x:Int)*x<m:=by omega
   rcases k with _ | j
   ·have he:=hend x h3
    have hc0:(r:Int)+1=x:=by rw [hx];rfl
    have hm0:0<m:=by omega
    rw [if_pos hm0] at he
    rw [←he]
    refine K_run hB 60 ?_
    simp [go_sem,hc0,f1,f2,hlt',hm0,fx1]
   ·have f3:Int.fdiv (2^(j+1)) 2=2^j:=by rw [Int.pow_succ,Int.mul_fdiv_cancel _ (by decide)]
    have f4:(0:Int)<2^j:=Int.pow_pos (by decide)
    refine K_run hB 60 ?_
    simp [go_sem,hcast,f1,f2,hlt',f3,f4]
    refine Next.mk (j,x) ⟨by omega,by simp only;omega,h3⟩ (Imp.slots (by simp [go_sem]) rfl rfl) (by simp)
  ·rw [if_neg hlt] at h3
   have hlt':¬(x:Int)*x<m:=by omega
   rcases k with _ | j
   ·have he:=hend r h3
    have hc0:(r:Int)+1=x:=by rw [hx];rfl
    by_cases hm0:0<m
    ·rw [if_pos hm0,hc0] at he
     rw [←he]
     refine K_run hB 60 ?_
     simp [go_sem,hc0,f1,f2,hlt',hm0]
    ·rw [if_neg hm0] at he
     rw [←he]
     refine K_run hB 60 ?_
     simp [go_sem,hc0,f1,f2,hlt',hm0]
   ·have f3:Int.fdiv (2^(j+1)) 2=2^j:=by rw [Int.pow_succ,Int.mul_fdiv_cancel _ (by decide)]
    have f4:(0:Int)<2^j:=Int.pow_pos (by decide)
    refine K_run hB 60 ?_
    simp [go_sem,hcast,f1,f2,hlt',f3,f4]
    refine Next.mk (j,r) ⟨by omega,by simp only;omega,h3⟩ (Imp.slots (by simp [go_sem]) rfl rfl) (by simp)
end Go.Proofs.YtnoifgjiipgpoaaGreatDoor

set_option maxRecDepth 4000
namespace Go.Proofs.YtnoifgjiipgpoaaGreatDoor
open Go Go.Proofs.YtnoifgjiipgpoaaGreatDoor.R
def andN (a b:Nat):Nat:=(BitVec.ofNat 64 a&&&~~~ BitVec.ofNat 64 b).toNat
theorem andN_lt (a b:Nat):andN a b<2^64:=BitVec.isLt _
theorem bandnN {a b:Nat}:bandn .u64 a b=((andN a b:Nat):Int):=by
 show IntKind.u64.wrap ((BitVec.ofInt 64 a&&&~~~ BitVec.ofInt 64 b).toNat:Int)=_
 rw [BitVec.ofInt_natCast,BitVec.ofInt_natCast]
 exact u64n _ (andN_lt a b)
theorem andN_bit (a b i:Nat):(andN a b).testBit i=(decide (i<64)&&(a.testBit i&& !b.testBit i)):=by
 unfold andN
 rw [BitVec.testBit_toNat,BitVec.getLsbD_and,BitVec.getLsbD_not,BitVec.getLsbD_ofNat,BitVec.getLsbD_ofNat]
 cases decide (i<64)<;>cases a.testBit i<;>cases b.testBit i<;>rfl
def withN (s:Nat) (j:Int):Nat:=s|||bitN j
def withoutN (s:Nat) (j:Int):Nat:=andN s (bitN j)
def withinB (s t:Nat):Bool:=(List.range 64).all fun i=>!s.testBit i||t.testBit i
theorem withN_lt {s:Nat} (h:s<2^64) (j:Int):withN s j<2^64:=Nat.or_lt_two_pow h (bitN_lt j)
theorem withoutN_lt (s:Nat) (j:Int):withoutN s j<2^64:=andN_lt _ _
theorem within_iff {s t:Nat}:andN s t=0↔withinB s t=true:=by
 unfold withinB
 rw [List.all_eq_true]
 constructor
 ·intro h i hi
  have h1:=andN_bit s t i
  rw [h,Nat.zero_testBit,decide_eq_true (List.mem_range.1 hi)] at h1
  revert h1
  cases s.testBit i<;>cases t.testBit i<;>simp
 ·intro h
  refine Nat.eq_of_testBit_eq fun i=>?_
  rw [andN_bit,Nat.zero_testBit]
  by_cases hi:i<64
  ·have:=h i (List.mem_range.2 hi)
   revert this
   cases s.testBit i<;>cases t.testBit i<;>simp
  ·simp [hi]
theorem with_pure (s:Nat) (j:Int) (hs:s<2^64):Pure P 268 [.u s,.i j] (.u (withN s j)):=by
 refine pure_of Tryz.func268 rfl rfl (by simp [Tryz.f268]) (by simp [bnd,bnd.bndL]) (by simp [bnd]) fun B hB hnx=>?_
 simp only [Tryz.f268] at hB ⊢
 refine K_run hB 60 ?_
 simp [go_sem]
 refine K_call rfl rfl rfl (args:=[.i j]) (f:=255) (by simp [go_sem]) (by simp [go_sem,hB]) ((bit_pure j).spec _ _) ?_
 refine K_run hB 60 ?_
 simp [go_sem,borN hs (bitN_lt j),withN]
theorem without_pure (s:Nat) (j:Int):Pure P 269 [.u s,.i j] (.u (withoutN s j)):=by
 refine pure_of Tryz.func269 rfl rfl (by simp [Tryz.f269]) (by simp [bnd,bnd.bndL]) (by simp [bnd]) fun B hB hnx=>?_
 simp only [Tryz.f269] at hB ⊢
 refine K_run hB 60 ?_
 simp [go_sem]
 refine K_call rfl rfl rfl (args:=[.i j]) (f:=255) (by simp [go_sem]) (by simp [go_sem,hB]) ((bit_pure j).spec _ _) ?_
 refine K_run hB 60 ?_
 simp [go_sem,bandnN,withoutN]
theorem within_pure (s t:Nat):Pure P 235 [.u s,.u t] (.b (withinB s t)):=by
 refine pure_of Tryz.func235 rfl rfl (by simp [Tryz.f235]) (by simp [bnd,bnd.bndL]) (by simp [bnd]) fun B hB hnx=>?_
 simp only [Tryz.f235] at hB ⊢
 refine K_run hB 60 ?_
 simp [go_sem,bandnN]
 by_cases h:andN s t=0
 ·rw [within_iff.1 h];simp [h]
 ·have:withinB s t=false:=by
   cases hw:withinB s t
   ·rfl
   ·exact absurd (within_iff.2 hw) h
  simp [h,this]
theorem has_nat {s i:Nat} (h:i<64):hasB s (i:Int)=s.testBit i:=by simp [hasB];omega
def uptoL:Nat→Nat
 |0=>0
 |k+1=>uptoL k|||2^(k+1)
def uptoN (n:Int):Nat:=uptoL (min (max n 0) 63).toNat
theorem uptoL_lt:∀k,k≤63→uptoL k<2^64
 |0,_=>by decide
 |k+1,h=>Nat.or_lt_two_pow (uptoL_lt k (by omega)) (Nat.pow_lt_pow_right (by decide) (by omega))
theorem upto_pure (n:Int):Pure P 236 [.i n] (.u (uptoN n)):=by
 refine pure_of Tryz.func236 rfl rfl (by simp [Tryz.f236]) (by simp [bnd,bnd.bndL]) (by simp [bnd]) fun B hB hnx=>?_
 simp only [Tryz.f236] at hB ⊢
 obtain ⟨m,hm⟩:∃m:Nat,m=(min (max n 0) 63).toNat:=⟨_,rfl⟩
 have hmi:min (max n 0) 63=(m:Int):=by omega
 have hm63:m≤63:=by omega
 have hu:uptoN n=uptoL m:=by rw [uptoN,←hm]
 rw [hu]
 refine K_run hB 60 ?_
 simp [go_sem,hmi]
 refine K_loopP (α:=Nat) (fun i=>i≤m) (fun i=>⟨sl [(0,.i m),(8,.i m),(9,.i i),(3,.u (uptoL i))],noObj,0⟩) (fun i=>m-i) 0 (Nat.zero_le _) (Imp.slots (by simp [go_sem,uptoL]) rfl rfl) ?_
 intro i hi
 refine K_run hB 60 ?_
 simp [go_sem]
 refine fork_dec (fun h=>?_) (fun h=>?_)
 ·have hii:IntKind.i64.wrap ((i:Int)+1)=((i+1:Nat):Int):=by rw [w64 ((i:Int)+1) (by omega)];rfl
  simp [go_sem,hii]
  refine K_call rfl rfl rfl (args:=[.i ((i+1:Nat):Int)]) (f:=255) (by simp [go_sem]) (by simp [go_sem,hB]) ((bit_pure _).spec _ _) ?_
  have hb:=bitN_nat (k:=i+1) (by omega)
  rw [hb]
  have hor:bor .u64 (uptoL i) ((2^(i+1):Nat):Int)=((uptoL (i+1):Nat):Int):=borN (uptoL_lt i (by omega)) (Nat.pow_lt_pow_right (by decide) (by omega))
  generalize 2^(i+1)=b at *
  refine K_run hB 60 ?_
  simp [go_sem,hii,hor]
  exact Next.mk (i+1) (by omega) (Imp.slots (by simp [go_sem]) rfl rfl) (by omega)
 ·have:i=m:=by omega
  subst this
  simp [go_sem]
end Go.Proofs.YtnoifgjiipgpoaaGreatDoor
