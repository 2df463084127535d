/- Parts of the proof: R20, R21, R22, R23, R24, R25, R28, R32, R33, R35, R36, R40, R41, CT, Num, Root, Set, Inst, Plane, Scan, Parse, Parse2, Small. -/
import Derived.Test.YtackfabapangdaaGreatMC
import Derived.WalkKit
import Derived.ProofKit
import Derived.OpenShut
import Derived.Carry
import Derived.RangeFuncIn
import Derived.Laws.Cover3
import Derived.Test.YtackfabapangdaaGreatProg
import Derived.KernelRfl
set_option linter.all false
set_option maxHeartbeats 4000000
namespace Go.Proofs.YtackfabapangdaaGreat.R
open Go.RowKit
def Gives (P:Program) (o:Oper) (m:Slots) (u:Value):Prop:=
 plainV u=true∧∀(ρ:Operand→Value) (w:World),(∀x∈o.op.operands.toList,∀v,ev m x= .t (.v v)→ρ x=v)→(execOp ρ o).run P w= .ok (.value u) w
section
variable {P:Program} {B:Base} {k:List KI} {R:Post} {s:St} {all:Array Oper} {o:Oper} {rest:List Oper} {u:Value}
theorem K_val (hg:o.guard=none) (hd:dOk B.n o.dst=true) (h:Gives P o s.m u) (hk:Kp P B (.ops all rest :: k) R .normal ⟨put s.m o.dst (.t (.v u)),s.σ,s.nx⟩):Kp P B (.ops all (o :: rest) :: k) R .normal s:=by
 intro a w hr
 refine wpL_plain hg fun K hK=>?_
 obtain ⟨C,h1,h2,h3,h4,h5,h6⟩:=hr
 have hrun:=h.2 a.eval w fun x _ v hx=>by
  have:=ev_rep h2 x
  rw [hx] at this
  exact (rep_v this).1
 refine owp_value hrun ?_
 exact hK _ _ (hk _ _ ⟨C,h1,put_rep h5 (Step.refl _ _ _) h2 (by rw [h3];exact hd) (.t (.v h.1)),by rw [put_size];exact h3,by rw [put_def];exact h4,h5,h6⟩)
theorem does_val {n i:Nat} {m:Slots} (ho:all[i]? =some o) (hl:lets all m o=some true) (h:Gives P o m u) (σ:Nat→AObj) (nx:Nat):Does P n all i m σ nx (.t (.v u)) σ nx:=by
 intro C a w hn hs hsz hr ro K Q hK
 have hrun:=h.2 a.eval w fun x hx v hv=>by
  have:=ev_rep hr x
  rw [mask_ev ho x hx,hv] at this
  exact (rep_v this).1
 have hd:dstOf all i=o.dst:=by simp [dstOf,ho]
 simp only [wpO,wpOpIn,ho,lets_wanted ho hr hl,if_true]
 refine owp_value hrun ?_
 rw [hd] at hK
 exact hK _ _ C hs hn (Step.refl _ _ _) (.t (.v h.1))
theorem K_dVal {lo:List Nat} {sw:SW} {rest:List (Nat×Oper)} {i:Nat} {pend:List Rc} (hl:lets all s.m o=some true) (h:Gives P o s.m u) (hk:Kp P B (.opsD all lo sw rest pend :: k) R .normal ⟨put s.m o.dst (.t (.v u)),s.σ,s.nx⟩):Kp P B (.opsD all lo sw ((i,o) :: rest) pend :: k) R .normal s:=
 Chain.at fun ho=>Chain.step (loud:=none) (does_val ho hl h _ _) (fun _=>.inl (does_val ho hl h)) (fun c hc=>by cases hc) (fun _ h=>h) hk
end
theorem K_drawnT {P:Program} {B:Base} {k:List KI} {R:Post} {s:St} {all:Array Oper} {id:Nat} (lo:List Nat) (hm:P.follows .mixedOrders=true) (hst:statOK all B.n lo=true) (ht:(List.range all.size).all (tied all lo)=true)
  (h:(∀i,i<all.size→tied all lo i=true)→Kp P B (.opsD all lo none (num 0 all.toList) [] :: k) R .normal s):Kp P B (.code (.region id all true) :: k) R .normal s:=
 K_drawn lo hm hst (h fun i hi=>List.all_eq_true.1 ht i (List.mem_range.2 hi))
theorem K_drawnF {P:Program} {B:Base} {k:List KI} {R:Post} {s:St} {all:Array Oper} {id:Nat} (lo fl:List Nat) (hm:P.follows .mixedOrders=true) (hst:statOK all B.n lo=true) (ht:((List.range all.size).all (fun i=>tied all lo i== !fl.contains i)&&fl.all (fun i=>lo.contains i||flo all lo i))=true)
  (h:(∀i,i<all.size→tied all lo i= !fl.contains i)→(∀i,i∈fl→i∉lo→flo all lo i=true)→Kp P B (.opsD all lo none (num 0 all.toList) [] :: k) R .normal s):Kp P B (.code (.region id all true) :: k) R .normal s:=by
 rw [Bool.and_eq_true] at ht
 exact K_drawn lo hm hst (h (fun i hi=>eq_of_beq (List.all_eq_true.1 ht.1 i (List.mem_range.2 hi))) (fun i hi hn=>by
  have:=List.all_eq_true.1 ht.2 i hi
  simpa [hn] using this))
theorem K_drawnP {P:Program} {B:Base} {k:List KI} {R:Post} {s:St} {all:Array Oper} {id:Nat} (lo fl:List Nat) (a1 b1:Nat) (hlt:a1<b1) (hm:P.follows .mixedOrders=true) (hst:statS all B.n lo (some (a1,b1,false))=true) (ht:((List.range all.size).all (fun i=>tied all lo i== !fl.contains i)&&fl.all (fun i=>lo.contains i||flo all lo i))=true)
  (h:(∀i,i<all.size→tied all lo i= !fl.contains i)→(∀i,i∈fl→i∉lo→flo all lo i=true)→Kp P B (.opsD all lo (some (a1,b1,false)) (num 0 all.toList) [] :: k) R .normal s):Kp P B (.code (.region id all true) :: k) R .normal s:=by
 rw [Bool.and_eq_true] at ht
 exact K_drawn2 lo a1 b1 hlt hm hst (h (fun i hi=>eq_of_beq (List.all_eq_true.1 ht.1 i (List.mem_range.2 hi))) (fun i hi hn=>by
  have:=List.all_eq_true.1 ht.2 i hi
  simpa [hn] using this))
def loosen:AV→AV
 | .fsl es=>.t (.sl es)
 | .agg cs=>.agg (loosenL cs)
 |a=>a
 where
 loosenL:List AV→List AV
 |[]=>[]
 |c :: cs=>loosen c :: loosenL cs
theorem loosenL_get:∀{cs:List AV} {k:Nat} {a:AV},(loosen.loosenL cs)[k]? =some a→∃b,cs[k]? =some b∧a=loosen b
 |[],k,a,h=>by simp [loosen.loosenL] at h
 |c :: cs,k,a,h=>by
  cases k with
  |zero=>simp [loosen.loosenL] at h;exact ⟨c,rfl,h.symm⟩
  |succ k=>
   simp only [loosen.loosenL,List.getElem?_cons_succ] at h
   obtain ⟨b,h1,h2⟩:=loosenL_get h
   exact ⟨b,by simpa using h1,h2⟩
theorem loosenL_length:∀(cs:List AV),(loosen.loosenL cs).length=cs.length
 |[]=>rfl
 |c :: cs=>by simp only [loosen.loosenL,List.length_cons,loosenL_length cs]
theorem loosen_rep {w:World} {C:Ctx} {x:AV} {v:Value} (h:RepA w C x v):RepA w C (loosen x) v:=by
 induction h with
 |agg hl _ ih=>
  simp only [loosen]
  refine .agg (by rw [loosenL_length];exact hl) fun k a u ha hu=>?_
  obtain ⟨b,h1,rfl⟩:=loosenL_get ha
  exact ih k b u h1 hu
 |fsl h=>exact .t h
 |t h=>exact .t h
 |tup a b _=>exact .tup a b
 |ref a b=>exact .ref a b
 |ptr a b=>exact .ptr a b
 |rd a b c=>exact .rd a b c
 |el a b c=>exact .el a b c
 |cut a b c=>exact .cut a b c
 |ifc a b=>exact .ifc a b
 |mapr a b=>exact .mapr a b
 |yld a b=>exact .yld a b
 |fn a b c d _ _=>exact .fn a b c d
 |any=>exact .any
theorem Imp.loose {B:Base} {s:St}:Imp B s ⟨fun i=>loosen (s.m i),s.σ,s.nx⟩:=by
 intro a w hr
 obtain ⟨C,h1,h2,h3,h4,h5,h6⟩:=hr
 exact ⟨C,h1,fun t=>loosen_rep (h2 t),h3,h4,h5,h6⟩
theorem CallSpec.loose {P:Program} {f:FuncId} {args:List AV} {σ:Nat→AObj} {nx:Nat} {r:AV} {σ':Nat→AObj} {nx':Nat} (h:CallSpec P f (args.map loosen) σ nx r σ' nx'):CallSpec P f args σ nx r σ' nx':=by
 refine ⟨h.1,fun C w vs h1 h2 h3=>h.2 C w vs h1 h2 ⟨by rw [List.length_map];exact h3.1,fun k a u ha hu=>?_⟩⟩
 rw [List.getElem?_map] at ha
 obtain ⟨b,hb,rfl⟩:=Option.map_eq_some_iff.1 ha
 exact loosen_rep (h3.2 k b u hb hu)
theorem Pure.loose {P:Program} {f:FuncId} {args:List AV} {r:AV} (h:Pure P f (args.map loosen) r) (hb:args.all (bnd 0)=true):Pure P f args r:=
 ⟨fun a ha=>List.all_eq_true.1 hb a ha,h.2.1,CallSpec.loose h.2.2⟩
section
variable {P:Program} {o:Oper} {m:Slots}
theorem gives_toFloat {t d:TypeId} {x:Operand} {q:IntKind} {n:Int} {i:TI} {f:TI} (ho:o.op= .convert t d x) (hx:ev m x= .t (.v (.int q n))) (ht:TT P t=some i) (hd:TT P d=some f) (hf:f.desc= .float .f64):Gives P o m (.float .f64 (FloatKind.nearest .f64 n)):=by
 refine ⟨rfl,fun ρ w h=>?_⟩
 have e:=h x (by rw [ho];simp [Op.operands]) _ hx
 have hu:P.underlying d=some (.float .f64):=by rw [(tt_some hd).1,hf]
 simp only [execOp,ho,e,Sem.run_bind,run_convert_int_float w t d q .f64 n (by rw [(tt_some ht).1];rfl) hu,Result.andThen_ok,Sem.run_pure]
 rfl
theorem gives_toInt {t d:TypeId} {x:Operand} {b:Nat} {n:Int} {i:TI} {f:TI} (ho:o.op= .convert t d x) (hx:ev m x= .t (.v (.float .f64 b))) (ht:TT P t=some i) (hd:TT P d=some f) (hf:f.desc= .int .i64) (hn:floatToIntVal .f64 b .i64=some n):Gives P o m (.int .i64 n):=by
 refine ⟨rfl,fun ρ w h=>?_⟩
 have e:=h x (by rw [ho];simp [Op.operands]) _ hx
 have hu:P.underlying d=some (.int .i64):=by rw [(tt_some hd).1,hf]
 simp only [execOp,ho,e,Sem.run_bind,run_convert_float_int w t d .f64 .i64 b n (by rw [(tt_some ht).1];rfl) hu hn,Result.andThen_ok,Sem.run_pure]
theorem gives_csub {t t':TypeId} {x y:Operand} {a b c d re im:Nat} (ho:o.op= .binOp .sub t x y t') (hx:ev m x= .t (.v (.complex .f64 a b))) (hy:ev m y= .t (.v (.complex .f64 c d))) (hn:cSumBits .sub .f64 a b c d=some (re,im)):Gives P o m (.complex .f64 re im):=by
 refine ⟨rfl,fun ρ w h=>?_⟩
 have e:=h x (by rw [ho];simp [Op.operands]) _ hx
 have e2:=h y (by rw [ho];simp [Op.operands]) _ hy
 simp [execOp,ho,e,e2,eqGuard,run_complex_sum w .sub (.inr rfl) t .f64 a b c d re im hn]
theorem gives_cmul {t t':TypeId} {x y:Operand} {a b c d re im:Nat} (ho:o.op= .binOp .mul t x y t') (hx:ev m x= .t (.v (.complex .f64 a b))) (hy:ev m y= .t (.v (.complex .f64 c d))) (hn:cMulBits a b c d=some (re,im)):Gives P o m (.complex .f64 re im):=by
 refine ⟨rfl,fun ρ w h=>?_⟩
 have e:=h x (by rw [ho];simp [Op.operands]) _ hx
 have e2:=h y (by rw [ho];simp [Op.operands]) _ hy
 simp [execOp,ho,e,e2,eqGuard,run_complex_mul w t a b c d re im hn]
theorem gives_neg {t:TypeId} {x:Operand} {b:Nat} (ho:o.op= .unOp .neg t x) (hx:ev m x= .t (.v (.float .f64 b))):Gives P o m (.float .f64 (Op.negFloat .f64 b)):=by
 refine ⟨rfl,fun ρ w h=>?_⟩
 have e:=h x (by rw [ho];simp [Op.operands]) _ hx
 simp [execOp,ho,e,Op.unary]
theorem gives_real {c:Call} {x:Operand} {a b:Nat} (ho:o.op= .call c) (hc:c.callee= .builtin .real) (hcx:c.args= #[x]) (hx:ev m x= .t (.v (.complex .f64 a b))):Gives P o m (.float .f64 a):=by
 refine ⟨rfl,fun ρ w h=>?_⟩
 have e:=h x (by rw [ho];simp [Op.operands,Call.operands,hcx]) _ hx
 simp [execOp,ho,resolve,hc,hcx,e,invoke,builtin,run_real]
theorem gives_imag {c:Call} {x:Operand} {a b:Nat} (ho:o.op= .call c) (hc:c.callee= .builtin .imag) (hcx:c.args= #[x]) (hx:ev m x= .t (.v (.complex .f64 a b))):Gives P o m (.float .f64 b):=by
 refine ⟨rfl,fun ρ w h=>?_⟩
 have e:=h x (by rw [ho];simp [Op.operands,Call.operands,hcx]) _ hx
 simp [execOp,ho,resolve,hc,hcx,e,invoke,builtin,run_imag]
theorem gives_complex {c:Call} {x y:Operand} {a b:Nat} (ho:o.op= .call c) (hc:c.callee= .builtin .complex) (hcx:c.args= #[x,y]) (hx:ev m x= .t (.v (.float .f64 a))) (hy:ev m y= .t (.v (.float .f64 b))):Gives P o m (.complex .f64 a b):=by
 refine ⟨rfl,fun ρ w h=>?_⟩
 have e:=h x (by rw [ho];simp [Op.operands,Call.operands,hcx]) _ hx
 have e2:=h y (by rw [ho];simp [Op.operands,Call.operands,hcx]) _ hy
 simp [execOp,ho,resolve,hc,hcx,e,e2,invoke,builtin,run_complex]
end
end Go.Proofs.YtackfabapangdaaGreat.R

namespace Go.Proofs.YtackfabapangdaaGreat.R
open Go.RowKit
section
variable {P:Program} {B:Base} {k:List KI} {R:Post} {s:St}
def behind (c:Code) (l:Nat):Code:=(findLabel c l).getD .skip
theorem K_scopeL {α:Type} {c:Code} (lab:α→Nat) (I:α→Prop) (st:α→St) (μ:α→Nat) (hf:∀x,I x→(findLabel c (lab x)).isSome=true)
  (first:Kp P B (.code c :: .lab (fun l' s'=>∃y,I y∧lab y=l'∧Imp B s' (st y)) :: k) R .normal s)
  (pass:∀x,I x→Kp P B (.code (behind c (lab x)) :: .lab (fun l' s'=>∃y,I y∧lab y=l'∧Imp B s' (st y)∧μ y<μ x) :: k) R .normal (st x)):Kp P B (.code (.scope c) :: k) R .normal s:=by
 intro ac w hr
 refine cwp_scope_many (fun (x:{a // I a}) a w=>Rel B (st x.1) a w) (fun x=>lab x.1) (fun x=>μ x.1) (behind c) (fun x=>?_) (cwp_mono (first ac w hr) fun e a' w' hp=>?_) fun x a w hx=>cwp_mono (pass x.1 x.2 a w hx) fun e a' w' hp=>?_
 ·obtain ⟨z,hz⟩:=Option.isSome_iff_exists.1 (hf x.1 x.2)
  rw [behind,hz];rfl
 ·obtain ⟨s',h1,h2⟩:=hp
  cases e with
  |goto l'=>obtain ⟨y,h3,h0,h4⟩:=h1;exact ⟨⟨y,h3⟩,h0,h4 _ _ h2⟩
  |_=>exact ⟨s',h1,h2⟩
 ·obtain ⟨s',h1,h2⟩:=hp
  cases e with
  |goto l'=>obtain ⟨y,h3,h0,h4,h5⟩:=h1;exact ⟨⟨y,h3⟩,h0,h4 _ _ h2,h5⟩
  |_=>exact ⟨s',h1,h2⟩
def tailC (c:Code) (l:Nat):Code:=match findLabel c l with
 |some (.seq .skip n)=>n
 |_=>.skip
theorem K_scopeF {α:Type} {c:Code} (lab:α→Nat) (I:α→Prop) (st:α→St) (μ:α→Nat) (hf:∀x,I x→findLabel c (lab x)=some (.seq .skip (tailC c (lab x))))
  (pass:∀x,I x→(∀l' s',(∃y,I y∧lab y=l'∧Imp B s' (st y)∧μ y<μ x)→Kp P B (.code (.seq (.label l') (tailC c l')) :: .lab (fun l' s'=>∃y,I y∧lab y=l'∧Imp B s' (st y)∧μ y<μ x) :: k) R .normal s')→
   Kp P B (.code (tailC c (lab x)) :: .lab (fun l' s'=>∃y,I y∧lab y=l'∧Imp B s' (st y)∧μ y<μ x) :: k) R .normal (st x))
  (first:∀J:Nat→St→Prop,(∀l' s',(∃y,I y∧lab y=l'∧Imp B s' (st y))→Kp P B (.code (.seq (.label l') (tailC c l')) :: .lab J :: k) R .normal s')→Kp P B (.code c :: .lab J :: k) R .normal s):Kp P B (.code (.scope c) :: k) R .normal s:=by
 have key:∀n x,μ x=n→I x→Kp P B (.code (tailC c (lab x)) :: .lab (fun l' s'=>∃y,I y∧lab y=l'∧Imp B s' (st y)∧μ y<μ x) :: k) R .normal (st x):=by
  intro n
  induction n using Nat.strongRecOn with
  |_ n ih=>
   intro x hn hx
   refine pass x hx ?_
   rintro l' s' ⟨y,hy,hl,hi,hm⟩
   subst hl
   refine K_seq (K_label (K_less hi (K_lab_mono ?_ (ih (μ y) (by omega) y rfl hy))))
   rintro l2 s2 ⟨z,a,b,c,d⟩
   exact ⟨z,a,b,c,by omega⟩
 refine K_scopeL lab I st μ (fun x hx=>by rw [hf x hx];rfl) (first _ ?_) fun x hx=>?_
 ·rintro l' s' ⟨y,hy,hl,hi⟩
  subst hl
  refine K_seq (K_label (K_less hi (K_lab_mono ?_ (key _ y rfl hy))))
  rintro l2 s2 ⟨z,a,b,c,d⟩
  exact ⟨z,a,b,c⟩
 ·have:=hf x hx
  rw [behind,this]
  exact K_seq (K_skip (key _ x rfl hx))
theorem K_after {c:Code} (h:Kp P B [.code c] (fun e s=>∃t,Imp B s t∧R e t) .normal s):Kp P B [.code c] R .normal s:=by
 intro a w hr
 refine cwp_mono (h a w hr) fun e a' w' hp=>?_
 obtain ⟨s',⟨t,h1,h2⟩,h3⟩:=hp
 exact ⟨t,h2,h1 _ _ h3⟩
end
end Go.Proofs.YtackfabapangdaaGreat.R

namespace Go.Proofs.YtackfabapangdaaGreat.R
open Go.RowKit
section
variable {P:Program} {B:Base} {k:List KI} {R:Post} {s:St} {all:Array Oper} {o:Oper} {rest:List Oper}
theorem K_arrp {t e:TypeId} {n:Nat} {i:TI} {x:Operand} {es:List (List T)} (hg:o.guard=none) (hd:dOk B.n o.dst=true) (ho:o.op= .sliceToArrayPointer t x) (ht:TT P t=some i) (hi:i.desc= .array n e) (hx:ev s.m x= .t (.sl es)) (hn:n≤es.length) (h0:0<es.length)
  (hk:Kp P B (.ops all rest :: k) R .normal ⟨put s.m o.dst (.rd es.flatten),s.σ,s.nx⟩):Kp P B (.ops all (o :: rest) :: k) R .normal s:=by
 intro a w hr
 refine wpL_plain hg fun K hK=>?_
 obtain ⟨C,h1,h2,h3,h4,h5,h6⟩:=hr
 have hrep:=ev_rep h2 x
 rw [hx] at hrep
 have hrt:RepT w C.imm (.sl es) (a.eval x):=by
  generalize a.eval x=v at hrep
  cases hrep with
  |t h=>exact h
 obtain ⟨ad,cap,sz,u,hv,hsz,himm,hcell,hel⟩:∃(ad:Addr) (cap sz:Nat) (u:Nat→Value),a.eval x= .slice (some ad) es.length cap∧(∀e∈es,e.length=sz)∧C.imm ad.block∧(∀k,k<es.length*sz→w.cell? (ad.add k)=some (u k))∧
   (∀(j k:Nat) (e:List T) (c:T),es[j]? =some e→e[k]? =some c→RepT w C.imm c (u (j*sz+k))):=by
  generalize a.eval x=v at hrt
  cases hrt with
  |nil=>simp at h0
  |@sl _ ad cap sz u _ hsz _ himm hcell hel=>exact ⟨ad,cap,sz,u,rfl,hsz,himm,hcell,hel⟩
 have hund:P.underlying t=some (.array n e):=by rw [(tt_some ht).1,hi]
 have hrun:(execOp a.eval o).run P w= .ok (.value (.pointer (some ad))) w:=by
  have:¬es.length<n:=by omega
  simp [execOp,ho,Instr.arrayAt,hv,run_underlying hund,this]
 have hfl:es.flatten.length=es.length*sz:=by
  rw [List.length_flatten]
  have:es.map List.length=List.replicate es.length sz:=by
   refine List.eq_replicate_iff.2 ⟨by simp,fun y hy=>?_⟩
   obtain ⟨z,hz,rfl⟩:=List.mem_map.1 hy
   exact hsz z hz
  rw [this,List.sum_replicate_nat]
 refine owp_value hrun ?_
 refine hK _ _ (hk _ _ ⟨C,h1,put_rep h5 (Step.refl _ _ _) h2 (by rw [h3];exact hd) (.rd (u:=u) himm (fun m hm=>hcell m (by omega)) (fun m c hc=>?_)),by rw [put_size];exact h3,by rw [put_def];exact h4,h5,h6⟩)
 have hm:m<es.length*sz:=by rw [←hfl];exact (List.getElem?_eq_some_iff.1 hc).1
 obtain ⟨y,f1,f2,f3,f4⟩:=flat_ix hsz hm
 rw [f2] at hc
 have:=hel _ _ y c f1 hc
 rw [←f4] at this
 exact this
end
end Go.Proofs.YtackfabapangdaaGreat.R

namespace Go.Proofs.YtackfabapangdaaGreat.R
def atImp:List KI→Bool
 | .code _ :: _=>true
 | .ops _ _ :: _=>true
 | .blk _ :: k=>atImp k
 | .scp :: k=>atImp k
 | .lab _ :: k=>atImp k
 |_=>false
section
variable {P:Program} {B:Base} {s t:St} {R:Post}
theorem K_impK {k:List KI} (h:Imp B s t) (ha:atImp k=true) (hk:Kp P B k R .normal t):Kp P B k R .normal s:=by
 induction k with
 |nil=>simp [atImp] at ha
 |cons x k ih=>
  cases x with
  |code c=>exact fun a w hr=>hk a w (h _ _ hr)
  |ops all rest=>exact fun a w hr=>hk a w (h _ _ hr)
  |blk _=>exact ih ha hk
  |scp=>exact ih ha hk
  |lab _=>exact ih ha hk
  |_=>simp [atImp] at ha
end
end Go.Proofs.YtackfabapangdaaGreat.R

set_option maxRecDepth 100000
namespace Go.Proofs.YtackfabapangdaaGreat.R
open Go.ChangeShapes Go.WideShapes Go.ChangeAt Go.RowKit
theorem post_below {H:Type} {enc:TypeId×Value→H} {Q:Program} {f:Func} {s:ChangeSpec} {apart fresh handsOn again:Bool} {W W':World} {args:Array Value} {v:Value} {ds gs:List (DataW H)} {before pa pv:List MemPlace}
  (hW:DataW.Whole enc Q f.params.toList s.vars apart W args.toList ds gs before) (hb:Below W.heap.size W W')
  (hres:∀(b:Nat) (sp:Nat→Bool) (hd:Bool),DataW.TrodAll enc Q W' b sp hd f.resultTypes.toList (v.resultList f.resultTypes.size) (s.fn H (ds++gs)).results [])
  (hargs:∀sp:Nat→Bool,(∀p∈before,sp p.block=true)→DataW.TrodAll enc Q W' 0 sp true f.params.toList args.toList (s.fn H (ds++gs)).args pa)
  (hvars:∀sp:Nat→Bool,(∀p∈before,sp p.block=true)→DataW.TrodVars enc Q W' sp s.vars (s.fn H (ds++gs)).vars pv)
  (hps:before=pa++pv)
  (hok:∀(j:Nat) (t:TypeId) (r:Value),f.resultTypes[j]? =some t→(v.resultList f.resultTypes.size)[j]? =some r→Value.okWide Q W' .any 0 t r):s.post enc Q f apart fresh handsOn again W args v W':=by
 have hlt:∀p∈before,p.block<W.heap.size:=fun p hp=>hW.lt p hp
 have hold:∀p∈before,(fun b=>decide (b<W.heap.size)) p.block=true:=fun p hp=>by simpa using hlt p hp
 refine ⟨ds,gs,before,[],pa,pv,hW,hres _ _ _,hargs _ hold,hvars _ hold,World.keptBut_mono (fun p hp=>⟨hp,?_⟩) (hb.frame (·∈before)),fun _=>?_⟩
 ·rw [hps,List.mem_append] at hp
  exact Or.inr hp
 ·obtain ⟨_,_,_,_,_,hz,hn⟩:=hW
  refine ⟨hok,_,_,([]++pa)++pv,⟨[]++pa,pv,trodAll_append (hargs _ (fun _ _=>rfl)) (hres _ _ _),hvars _ (fun _ _=>rfl),rfl,?_,?_⟩,?_⟩
  ·intro b off hp
   have hp':MemPlace.cell b off∈before:=by rw [hps];simpa using hp
   rw [hb.frozen (p:=⟨b,off,none⟩) (hlt _ hp')]
   exact hz b off hp'
  ·intro ha
   have:=hn ha
   rw [hps] at this
   simpa using this
  ·intro p hp _
   rw [hps]
   simpa using hp
theorem map_of {α:Type} {g:α→List T} {Q:α→Prop} {es:List (List T)} (h:∀x∈es,∃a,x=g a∧Q a):∃l:List α,es=l.map g∧∀a∈l,Q a:=by
 induction es with
 |nil=>exact ⟨[],rfl,fun a h=>by cases h⟩
 |cons x es ih=>
  obtain ⟨a,rfl,ha⟩:=h x List.mem_cons_self
  obtain ⟨l,rfl,hl⟩:=ih fun y hy=>h y (List.mem_cons_of_mem _ hy)
  exact ⟨a :: l,rfl,fun b hb=>by
   rcases List.mem_cons.1 hb with rfl | hb
   ·exact ha
   ·exact hl b hb⟩
theorem int_wf {n:Int} (h:(Lit.int .i64 n).wf=true): -9223372036854775808≤n∧n<9223372036854775808:=by
 simp [Lit.wf,IntKind.min,IntKind.max,IntKind.wrap,IntKind.bits,IntKind.signed] at h
 omega
section
variable {P:Program} {f:Nat} {t:TypeId} {ts:List T}
theorem has_int (hu:P.underlying t=some (.int .i64)) (h:HasT P f t ts):∃n,ts=[.i n]∧-9223372036854775808≤n∧n<9223372036854775808:=by
 cases f with
 |zero=>exact h.elim
 |succ f=>
  simp only [HasT,hu] at h
  obtain ⟨n,rfl,hw⟩:=h
  exact ⟨n,rfl,int_wf hw⟩
theorem has_slice {e:TypeId} {α:Type} {g:α→List T} {Q:α→Prop} (hu:P.underlying t=some (.slice e)) (he:∀f x,HasT P f e x→∃a,x=g a∧Q a) (h:HasT P f t ts):∃l:List α,ts=[.sl (l.map g)]∧l.length≤maxLen∧∀a∈l,Q a:=by
 cases f with
 |zero=>exact h.elim
 |succ f=>
  simp only [HasT,hu] at h
  obtain ⟨es,rfl,hn,h⟩:=h
  obtain ⟨l,rfl,hl⟩:=map_of (g:=g) (Q:=Q) fun x hx=>he f x (h x hx).2
  exact ⟨l,rfl,by simpa using hn,hl⟩
theorem has_struct {fs:Array Field} (hu:P.underlying t=some (.struct fs)) (h:HasT P f t ts):∃f',HasF P (fun t ts=>HasT P f' t ts) fs.toList ts:=by
 cases f with
 |zero=>exact h.elim
 |succ f=>
  simp only [HasT,hu] at h
  exact ⟨f,h⟩
variable {H:Type} {enc:TypeId×Value→H} {W:World} {base:Nat} {sp:Nat→Bool} {held:Bool} {v:Value} {d:DataW H} {ps:List MemPlace}
abbrev C0 (W:World):Ctx:=⟨old W,fun _=>none,fun _=>undef,0⟩
theorem sim0 (W:World):Sim (C0 W) noObj W:=⟨fun _ _=>rfl,fun _=>True.intro,fun _ _ _ hi=>absurd rfl hi,fun _ _ hi=>absurd rfl hi,fun b hb=>hb⟩
theorem arg_struct {fs:Array Field} (hu:P.underlying t=some (.struct fs)) (hp:plainT P 10 t=true) (h:DataW.Trod enc P W 0 sp held t v d ps) (hv:Value.okWide P W .any base t v):∃f ts,HasT P f t ts∧RepA W (C0 W) (.agg (ts.map .t)) v:=by
 unfold Value.okWide at hv
 rw [hu] at hv
 obtain ⟨cs,rfl,_⟩:=hv
 obtain ⟨fuel,ht⟩:=h
 obtain ⟨ts,g1,g2,g3⟩:=trod_rep fuel 10 t _ _ _ ht hp
 refine ⟨fuel,ts,g1,.agg (by simpa [Value.cells] using g2) fun k a u ha hu=>?_⟩
 rw [List.getElem?_map] at ha
 obtain ⟨b,hb,rfl⟩:=Option.map_eq_some_iff.1 ha
 exact .t (g3 k b u hb (by simpa [Value.cells] using hu))
theorem arg_slice {e:TypeId} (hu:P.underlying t=some (.slice e)) (hp:plainT P 10 t=true) (h:DataW.Trod enc P W 0 sp held t v d ps) (hv:Value.okWide P W .any base t v):∃f ts,HasT P f t ts∧∀x,ts=[x]→RepA W (C0 W) (.t x) v:=by
 obtain ⟨a,len,cap,rfl⟩:=okWide_slice hu hv
 obtain ⟨fuel,ht⟩:=h
 obtain ⟨ts,g1,g2,g3⟩:=trod_rep fuel 10 t _ _ _ ht hp
 exact ⟨fuel,ts,g1,fun x hx=>by subst hx;exact .t (g3 0 _ _ rfl rfl)⟩
theorem repL1 {a:AV} {u:Value} (h:RepA W (C0 W) a u):RepL W (C0 W) [a] [u]:=⟨rfl,fun k x y hx hy=>by
 cases k with
 |zero=>simp at hx hy;subst hx;subst hy;exact h
 |succ k=>simp at hx⟩
theorem repL2 {a b:AV} {u u2:Value} (h:RepA W (C0 W) a u) (h2:RepA W (C0 W) b u2):RepL W (C0 W) [a,b] [u,u2]:=(repL1 h).app (repL1 h2)
theorem repL3 {a b c:AV} {u u2 u3:Value} (h:RepA W (C0 W) a u) (h2:RepA W (C0 W) b u2) (h3:RepA W (C0 W) c u3):RepL W (C0 W) [a,b,c] [u,u2,u3]:=(repL1 h).app (repL2 h2 h3)
theorem repL4 {a b c e:AV} {u u2 u3 u4:Value} (h:RepA W (C0 W) a u) (h2:RepA W (C0 W) b u2) (h3:RepA W (C0 W) c u3) (h4:RepA W (C0 W) e u4):RepL W (C0 W) [a,b,c,e] [u,u2,u3,u4]:=(repL1 h).app (repL3 h2 h3 h4)
end
end Go.Proofs.YtackfabapangdaaGreat.R

set_option maxRecDepth 10000
namespace Go.Proofs.YtackfabapangdaaGreat.R
open Go.RowKit
section
variable {P:Program} {C:Ctx} {σ:Nat→AObj} {w:World}
theorem sim_junk (hs:Sim C σ w) (o:Obj):Sim C σ (w.alloc o)∧Step C σ w C σ (w.alloc o):=by
 have hold:∀b,b<w.heap.size→(w.alloc o).heap[b]? =w.heap[b]?:=fun b hb=>push_old w o hb
 have hsz:(w.alloc o).heap.size=w.heap.size+1:=World.size_alloc w o
 have hk:Keeps w C.imm (w.alloc o) C.imm:=⟨fun _ h=>h,fun b hb=>hold b (hs.imm_lt b hb)⟩
 have hc:CtxLe C C:=⟨Nat.le_refl _,fun _ _=>rfl,fun _ _=>rfl⟩
 refine ⟨⟨hs.dead,fun i=>?_,hs.inj,hs.sep,fun b hb=>by have:=hs.imm_lt b hb;omega⟩,⟨hc,rfl,rfl,rfl,by omega,fun _ h=>h,fun b hb _=>hold b hb,fun _ h=>.inl h,fun _ h=>.inl h⟩⟩
 by_cases hi:σ i= .dead
 ·rw [hi];exact True.intro
 ·exact (hs.obj i).step hk hc (live_lt hs hi) fun b ho=>hold b (own_lt hs hi ho)
theorem putObj_set {l:Nat} {r:Loop} (hs:Sim C σ w) {q:Nat} {st st':LoopState} {n:Nat} {m:Nat→AV} {ps:Array Tmp} {avs bd:Code} (hq:σ q= .loop st n m ps avs bd) (ho:C.own q=some l) (hl:w.heap[l]? =some (.loop r)):
  Sim C (oput σ q (.loop st' n m ps avs bd)) (w.putObj l (.loop {r with state:=st',pending:=none}))∧Step C σ w C (oput σ q (.loop st' n m ps avs bd)) (w.putObj l (.loop {r with state:=st',pending:=none})):=by
 have hob:=hs.obj q
 rw [hq] at hob
 obtain ⟨bl,r',e0,e1,e2,e3,e4,e5,e6,e7,e8⟩:=hob
 rw [ho] at e0
 cases e0
 rw [hl] at e1
 cases e1
 have hlt:l<w.heap.size:=(Array.getElem?_eq_some_iff.1 hl).1
 have hd:σ q≠ .dead:=by rw [hq];exact (fun h=>by cases h)
 have hk:Keeps w C.imm (w.putObj l (.loop {r with state:=st',pending:=none})) C.imm:=⟨fun _ h=>h,fun b hb=>World.putObj_heap_other fun e=>hs.sep q l hd ho (e ▸ hb)⟩
 exact sim_set (w':=w.putObj l (.loop {r with state:=st',pending:=none})) (obj:=.loop st' n m ps avs bd) hs hd ho rfl rfl rfl World.putObj_size (fun b hb=>World.putObj_heap_other hb)
  ⟨l,_,ho,World.putObj_heap_same hlt,rfl,rfl,e4,e5,e6,e7,fun t ht=>(e8 t ht).keeps hk ⟨Nat.le_refl _,fun _ _=>rfl,fun _ _=>rfl⟩⟩
theorem putObj_kill {l:Nat} (o:Obj) (hs:Sim C σ w) {q:Nat} (hd:σ q≠ .dead) (ho:C.own q=some l):Sim C (oput σ q .dead) (w.putObj l o)∧Step C σ w C (oput σ q .dead) (w.putObj l o):=
 sim_set (w':=w.putObj l o) (obj:=.dead) hs hd ho rfl rfl rfl World.putObj_size (fun b hb=>World.putObj_heap_other hb) True.intro
def YieldQ (P:Program) (q:Nat) (args:List AV) (σ:Nat→AObj) (nx:Nat) (S:(Nat→AObj)→Nat→Prop):Prop:=
 ∀(C:Ctx) (w:World) (vs:List Value) (l:Nat),Sim C σ w→C.nx=nx→RepL w C args vs→C.own q=some l→
  ∃f tmps avs bd,(Instr.yield l vs.toArray).run P w= .ok (.round l f tmps avs bd) w∧∀ro,RoundIn (FR ro) 0 P l f tmps avs bd w fun e w'=>∃σ' nx' C',S σ' nx'∧e= .returned (.bool true)∧Sim C' σ' w'∧C'.nx=nx'∧Step C σ w C' σ' w'
def putL (m:Slots):List (Nat×AV)→Slots
 |[]=>m
 |p :: l=>putL (put m (some p.1) p.2) l
theorem putL_rep {w:World} {C:Ctx} {n:Nat}:∀(ps:List Nat) (args:List AV) (vs:List Value) (m:Slots) (tmps:Array Value),RepL w C args vs→tmps.size=n→(∀p∈ps,p<n)→(∀t,RepA w C (m t) (tmps.getD t undef))→
  ((ps.zip vs).foldl (fun ts (p:Nat×Value)=>ts.setIfInBounds p.1 p.2) tmps).size=n∧∀t,RepA w C (putL m (ps.zip args) t) (((ps.zip vs).foldl (fun ts (p:Nat×Value)=>ts.setIfInBounds p.1 p.2) tmps).getD t undef)
 |[],args,vs,m,tmps,_,hn,_,h=>by exact ⟨by simpa using hn,by simpa [putL] using h⟩
 |p :: ps,[],vs,m,tmps,hl,hn,_,h=>by
  have:vs=[]:=List.eq_nil_of_length_eq_zero (by have:=hl.1;simpa using this.symm)
  subst this
  exact ⟨by simpa using hn,by simpa [putL] using h⟩
 |p :: ps,a :: args,[],m,tmps,hl,hn,_,h=>by have:=hl.1;simp at this
 |p :: ps,a :: args,v :: vs,m,tmps,hl,hn,hp,h=>by
  have hpn:p<tmps.size:=by rw [hn];exact hp p List.mem_cons_self
  have h0:=hl.2 0 a v rfl rfl
  refine putL_rep ps args vs (put m (some p) a) (tmps.setIfInBounds p v) ⟨by have:=hl.1;simpa using this,fun k x u hx hu=>hl.2 (k+1) x u (by simpa using hx) (by simpa using hu)⟩ (by simpa using hn) (fun x hx=>hp x (List.mem_cons_of_mem _ hx)) fun t=>?_
  by_cases e:t=p
  ·subst e
   simp only [put,if_true,Array.getD_eq_getD_getElem?,Array.getElem?_setIfInBounds_self_of_lt hpn,Option.getD_some]
   exact h0
  ·simp only [put,if_neg e,Array.getD_eq_getD_getElem?,Array.getElem?_setIfInBounds_ne (show p≠t from fun h=>e h.symm)]
   have:=h t
   rwa [Array.getD_eq_getD_getElem?] at this
def roundM (n:Nat) (m:Slots) (ps:Array Tmp) (args:List AV):Slots:=putL (fun t=>if t<n then m t else .any) (ps.toList.zip args)
theorem yield_of {q:Nat} {args:List AV} {nx:Nat} {n:Nat} {m:Nat→AV} {ps:Array Tmp} {avs bd:Code} {S:(Nat→AObj)→Nat→Prop} (hq:σ q= .loop .ready n m ps avs bd) (hn:args.length=ps.size) (hp:ps.toList.all (·<n)=true)
  (h:∀B:Base,B.n=n→B.C.nx=nx→B.σ=σ→Kp P B [.code avs] (fun e s1=>e= .normal∧s1.σ q= .loop .ready n m ps avs bd∧
   Kp P B [.code bd] (fun e s2=>e= .normal∧s2.σ q= .loop .busy n m ps avs bd∧S (oput s2.σ q (.loop .ready n m ps avs bd)) s2.nx) .normal ⟨s1.m,oput s1.σ q (.loop .busy n m ps avs bd),s1.nx⟩) .normal ⟨roundM n m ps args,σ,nx⟩):
  YieldQ P q args σ nx S:=by
 intro C w vs l hs hnx hl ho
 have hob:=hs.obj q
 rw [hq] at hob
 obtain ⟨bl,r,e0,e1,e2,e3,e4,e5,e6,e7,e8⟩:=hob
 rw [ho] at e0
 cases e0
 have hsz:vs.toArray.size=r.params.size:=by rw [e5,←hn];simpa using hl.1.symm
 refine ⟨r.fn,_,r.assign,r.body,run_yield e1 hsz,fun ro=>?_⟩
 have hfold:(r.params.zip vs.toArray).foldl (fun tmps (x:Tmp×Value)=>tmps.setIfInBounds x.1 x.2) r.tmps=(ps.toList.zip vs).foldl (fun ts (p:Nat×Value)=>ts.setIfInBounds p.1 p.2) r.tmps:=by
  rw [e5,←Array.foldl_toList]
  simp
 rw [hfold,e6,e7]
 have hrep:=putL_rep (n:=n) ps.toList args vs (fun t=>if t<n then m t else .any) r.tmps hl e4 (fun p hpp=>by simpa using List.all_eq_true.1 hp p hpp) (fun t=>by
  by_cases ht:t<n
  ·simp only [if_pos ht];exact e8 t ht
  ·simp only [if_neg ht];exact .any)
 have hrel:Rel ⟨C,σ,w,n,some l⟩ ⟨roundM n m ps args,σ,nx⟩ {tmps:=(ps.toList.zip vs).foldl (fun ts (p:Nat×Value)=>ts.setIfInBounds p.1 p.2) r.tmps,defers:=[]} w:=
  ⟨C,hnx,hrep.2,hrep.1,Marks.nil,hs,Step.refl _ _ _⟩
 have hrun:=h ⟨C,σ,w,n,some l⟩ rfl hnx rfl _ _ hrel
 refine roundIn_of_wpIn (F:=FR ro) trivial (cwp_mono (ro:=some l) hrun fun e a1 w1 hp1=>?_)
 obtain ⟨s1,⟨he,hσ1,hk2⟩,C1,f1,f2,f3,f4,f5,f6⟩:=hp1
 subst he
 have hd1:s1.σ q≠ .dead:=by rw [hσ1];exact (fun h=>by cases h)
 have hqlt:q<C.nx:=live_lt hs (by rw [hq];exact (fun h=>by cases h))
 have hown1:C1.own q=some l:=(f6.le.own q hqlt).trans ho
 have hob1:=f5.obj q
 rw [hσ1] at hob1
 obtain ⟨bl1,r1,d0,d1,d2,d3,d4,d5,d6,d7,d8⟩:=hob1
 rw [hown1] at d0
 cases d0
 have hpend:{r1 with state:=LoopState.busy}={r1 with state:=.busy,pending:=none}:=by cases r1;simp only at d3;subst d3;rfl
 refine ⟨_,run_beginRound d1 d2,?_⟩
 rw [hpend]
 obtain ⟨p1,p2⟩:=putObj_set (st':=.busy) f5 hσ1 hown1 d1
 have hrel2:Rel ⟨C,σ,w,n,some l⟩ ⟨s1.m,oput s1.σ q (.loop .busy n m ps avs bd),s1.nx⟩ a1 (w1.putObj l (.loop {r1 with state:=.busy,pending:=none})):=
  ⟨C1,f1,fun t=>(f2 t).step f5 p2,f3,f4.step p2,p1,f6.trans p2⟩
 refine cwp_mono (ro:=some l) (hk2 _ _ hrel2) fun e a2 w2 hp2=>?_
 obtain ⟨s2,⟨he,hσ2,hS⟩,C2,g1,g2,g3,g4,g5,g6⟩:=hp2
 subst he
 have hown2:C2.own q=some l:=(g6.le.own q hqlt).trans ho
 have hob2:=g5.obj q
 rw [hσ2] at hob2
 obtain ⟨bl2,r2,c0,c1,c2,c3,_⟩:=hob2
 rw [hown2] at c0
 cases c0
 obtain ⟨u1,u2⟩:=putObj_set (st':=.ready) g5 hσ2 hown2 c1
 exact ⟨_,_,run_endRound none c1,_,_,C2,hS,rfl,u1,g1,g6.trans u2⟩
variable {B:Base} {k:List KI} {R:Post} {s:St}
theorem yield_exec {o:Oper} {c:Call} {fo:Operand} {a:Act} {l:Nat} {f:FuncId} {tmps:Array Value} {avs bd:Code} (ho:o.op= .call c) (hc:c.callee= .value fo) (hv:a.eval fo= .func (.yield l) #[] #[])
  (hy:(Instr.yield l (c.args.map a.eval).toList.toArray).run P w= .ok (.round l f tmps avs bd) w):(execOp a.eval o).run P w= .ok (.round l f tmps avs bd) w:=by
 rw [Array.toArray_toList] at hy
 simp only [execOp,ho,resolve,hc,Sem.run_bind,Deferred.ofValue,hv,Sem.run_pure,Result.andThen_ok,invoke,Array.empty_append]
 exact hy
theorem rep_yld {C:Ctx} {v:Value} {q:Nat} (h:RepA w C (.yld q) v):∃l,v= .func (.yield l) #[] #[]∧C.own q=some l:=by
 cases h with
 |yld h ho=>exact ⟨_,rfl,ho⟩
theorem K_yield {all:Array Oper} {o:Oper} {rest:List Oper} {c:Call} {fo:Operand} {q:Nat} {args:List AV} (hg:o.guard=none) (ho:o.op= .call c) (hc:c.callee= .value fo) (hf:ev s.m fo= .yld q) (ha:c.args.toList.map (ev s.m)=args)
  (hd:dOk B.n o.dst=true) {S:(Nat→AObj)→Nat→Prop} (spec:YieldQ P q args s.σ s.nx S) (h:∀σ' nx',S σ' nx'→Kp P B (.ops all rest :: k) R .normal ⟨put s.m o.dst (.b true),σ',nx'⟩):Kp P B (.ops all (o :: rest) :: k) R .normal s:=by
 intro a w hr
 refine wpL_plain hg fun K hK=>?_
 obtain ⟨C,h1,h2,h3,h4,h5,h6⟩:=hr
 have hρ:=ev_rep h2
 obtain ⟨hl,hlr⟩:=map_rep hρ c.args
 have hfo:=hρ fo
 rw [hf] at hfo
 obtain ⟨l,hv,hown⟩:=rep_yld hfo
 rw [ha] at hl hlr
 obtain ⟨f,tmps,avs,bd,hy,hround⟩:=spec C w (c.args.map a.eval).toList l h5 h1 ⟨by simpa using hl,fun k x u hx hu=>hlr k x u hx (by simpa using hu)⟩ hown
 refine owp_round (yield_exec ho hc hv hy) (RoundIn.mono (hround B.ro) ?_)
 rintro e w' ⟨σ',nx',C',hS,rfl,g1,g2,g3⟩
 exact ⟨_,rfl,hK _ _ (h σ' nx' hS _ _ ⟨C',g2,put_rep h5 g3 h2 (by rw [h3];exact hd) (.t (.v rfl)),by rw [put_size];exact h3,by rw [put_def];exact h4.step g3,g1,h6.trans g3⟩)⟩
theorem K_rangeFunc {g:Operand} {ps:Array Tmp} {avs bd:Code} (hro:B.ro=none) {f:FuncId} {args:List AV} (hf:callee (ev s.m g) [.yld s.nx]=some (f,args)) {S:AV→(Nat→AObj)→Nat→Prop}
  (spec:CallQ P f args (oput s.σ s.nx (.loop .ready B.n s.m ps avs bd)) (s.nx+1) S) (hS:∀r σ' nx',S r σ' nx'→σ' s.nx= .loop .ready B.n s.m ps avs bd)
  (h:∀r σ' nx',S r σ' nx'→Kp P B k R .normal ⟨s.m,oput σ' s.nx .dead,nx'⟩):Kp P B (.code (.rangeFunc g ps avs bd) :: k) R .normal s:=by
 intro a w hr
 obtain ⟨C,h1,h2,h3,h4,h5,h6⟩:=hr
 refine wpIn_rangeFunc (F:=FR B.ro) fun fn _=>?_
 have henter:=run_enterLoop_outer (P:=P) (w:=w) fn a.tmps ps avs bd
 rw [←hro] at henter
 obtain ⟨hg,spec⟩:=spec
 obtain ⟨lo,hlo⟩:∃lo:Loop,lo={state:=.ready,pending:=none,fn,tmps:=a.tmps,params:=ps,assign:=avs,body:=bd,defers:=w.heap.size}:=⟨_,rfl⟩
 rw [←hlo] at henter
 obtain ⟨j1,j2⟩:=sim_junk h5 (.deferred (some []))
 obtain ⟨w1,hw1⟩:∃w1,w1=w.alloc (.deferred (some [])):=⟨_,rfl⟩
 rw [←hw1] at j1 j2 henter
 have hw1s:w1.heap.size=w.heap.size+1:=by rw [hw1];exact World.size_alloc w _
 obtain ⟨C',hC⟩:∃C':Ctx,C'=⟨C.imm,fun i=>if i=C.nx then some w1.heap.size else C.own i,fun i=>if i=C.nx then undef else C.hdr i,C.nx+1⟩:=⟨_,rfl⟩
 have hk0:Keeps w1 C.imm (w1.alloc (.loop lo)) C'.imm:=⟨fun b h=>by rw [hC];exact h,fun b h=>push_old w1 _ (j1.imm_lt b h)⟩
 have hc0:CtxLe C C':=by
  subst hC
  exact ⟨by simp,fun i hi=>if_neg (by omega),fun i hi=>if_neg (by omega)⟩
 obtain ⟨n1,n2⟩:=sim_new j1 (.loop lo) (.loop .ready B.n s.m ps avs bd) undef C' hC ⟨w1.heap.size,lo,by rw [hC];simp,push_new w1 _,by rw [hlo],by rw [hlo],by rw [hlo];exact h3,by rw [hlo],by rw [hlo],by rw [hlo],fun t _=>by
  have:=((h2 t).step h5 j2).keeps hk0 hc0
  have e:lo.tmps=a.tmps:=by rw [hlo]
  rw [e];exact this⟩
 rw [h1] at n1 n2
 have hown:C'.own s.nx=some (w.heap.size+1):=by rw [hC,←h1,←hw1s];simp
 have hnx':C'.nx=s.nx+1:=by rw [hC,h1]
 have hst:=j2.trans n2
 have hyr:RepA (w1.alloc (.loop lo)) C' (.yld s.nx) (.func (.yield (w.heap.size+1)) #[] #[]):=.yld (by omega) hown
 have hgr:=(ev_rep h2 g).step h5 hst
 obtain ⟨first,caps,hv,hrl⟩:=callee_rep hf hgr (vs:=#[.func (.yield (w.heap.size+1)) #[] #[]]) rfl (fun k x u hx hu=>by
  cases k with
  |zero=>simp at hx hu;subst hx;subst hu;exact hyr
  |succ k=>simp at hx)
 have hcall:=spec C' _ _ n1 hnx' hrl
 have hres:(resolve a.eval (rangeCall g (w.heap.size+1)) 0).run P (w1.alloc (.loop lo))= .ok {target:=.fn (.func f) caps,args:=first++ #[.func (.yield (w.heap.size+1)) #[] #[]]} (w1.alloc (.loop lo)):=by
  have e:Array.map a.eval #[Operand.const (Value.func (Fn.yield (w.heap.size+1)) #[] #[])]= #[Value.func (Fn.yield (w.heap.size+1)) #[] #[]]:=by simp [Act.eval]
  simp only [resolve,rangeCall,Deferred.ofValue,hv,Sem.run_pure,e]
 have hinv:(invoke (.fn (.func f) caps) (first++ #[.func (.yield (w.heap.size+1)) #[] #[]])).run P (w1.alloc (.loop lo))= .ok (.enter f (first++ #[.func (.yield (w.heap.size+1)) #[] #[]]++caps)) (w1.alloc (.loop lo)):=by
  unfold goodFn at hg
  cases hfn:P.funcs[f]? with
  |none=>rw [hfn] at hg;cases hg
  |some fn=>
   rw [hfn] at hg
   simp only [Bool.and_eq_true,Bool.not_eq_true'] at hg
   simp only [invoke,callFunc,Sem.run_bind,run_program,hfn,Result.andThen_ok]
   have e1:fn.body.isNone=false:=by rw [←Option.not_isSome,hg.2];rfl
   simp [hg.1,e1]
 refine ⟨w.heap.size+1,_,_,_,_,f,_,_,henter,hres,fun _ _=>trivial,hinv,FR_depth,callsIn_FR.2 ?_⟩
 rw [Array.toArray_toList] at hcall
 refine hcall.mono ?_
 rintro e w3 ⟨r,σ',nx',C3,v,g0,rfl,g1,g2,g3,g4⟩
 have hσ:=hS _ _ _ g0
 have hob:=g1.obj s.nx
 rw [hσ] at hob
 obtain ⟨bl,r3,c0,c1,c2,c3,_⟩:=hob
 have hown3:C3.own s.nx=some (w.heap.size+1):=(g4.le.own s.nx (by omega)).trans hown
 rw [hown3] at c0
 cases c0
 have hd3:σ' s.nx≠ .dead:=by rw [hσ];exact (fun h=>by cases h)
 obtain ⟨k1,k2⟩:=putObj_kill (.loop {r3 with state:=.exhausted}) g1 hd3 hown3
 have hel:(Instr.endLoop (w.heap.size+1)).run P w3= .ok none (w3.putObj (w.heap.size+1) (.loop {r3 with state:=.exhausted})):=by
  rw [run_endLoop (P:=P) c1 (by rw [c2];decide),c3]
 refine ⟨none,_,hel,?_⟩
 have hfull:=(hst.trans g4).trans k2
 have hmut:∀{b},Mut C s.σ b→b<w.heap.size:=fun {b} ⟨i,hi,ho⟩=>own_lt h5 hi ho
 refine ⟨_,h r σ' nx' g0,C3,g2,fun t=>(h2 t).step h5 hfull,h3,?_,k1,h6.trans hfull⟩
 have hm1:MarkOf B.w.heap.size C s.σ w1 {target:=.collected w.heap.size,args:=#[]}:=
  ⟨w.heap.size,rfl,h6.size,by rw [hw1];exact push_new w _,fun hi=>by have:=h5.imm_lt _ hi;omega,fun hm=>by have:=hmut hm;omega⟩
 have hms:Marks B.w.heap.size C s.σ w1 ({target:=.collected w.heap.size,args:=#[]} :: a.defers):=by
  have h4':=h4.step j2
  refine ⟨fun d hd=>?_,List.pairwise_cons.2 ⟨fun d hd=>?_,h4.nodup⟩⟩
  ·rcases List.mem_cons.1 hd with e | e
   ·rw [e];exact hm1
   ·exact h4'.all d e
  ·obtain ⟨r',e1,_,e3,_⟩:=h4.all d hd
   have hlt:r'<w.heap.size:=(Array.getElem?_eq_some_iff.1 e3).1
   rw [e1]
   intro e
   cases e
   omega
 exact hms.step ((n2.trans g4).trans k2)
theorem K_range {g:Operand} {ps:Array Tmp} {avs bd:Code} (hro:B.ro=none) {f:FuncId} {args:List AV} (hf:callee (ev s.m g) [.yld s.nx]=some (f,args))
  (h:∀L,L= .loop .ready B.n s.m ps avs bd→∃S:AV→(Nat→AObj)→Nat→Prop,CallQ P f args (oput s.σ s.nx L) (s.nx+1) S∧∀r σ' nx',S r σ' nx'→σ' s.nx=L∧Kp P B k R .normal ⟨s.m,oput σ' s.nx .dead,nx'⟩):
  Kp P B (.code (.rangeFunc g ps avs bd) :: k) R .normal s:=by
 obtain ⟨S,h1,h2⟩:=h _ rfl
 exact K_rangeFunc hro hf h1 (fun r σ' nx' hs=>(h2 r σ' nx' hs).1) fun r σ' nx' hs=>(h2 r σ' nx' hs).2
end
@[go_sem] theorem run_range {P:Program} {n:Nat} {G:List KI→St→Prop} {f:Nat} {k:List KI} {s:St} {g:Operand} {ps:Array Tmp} {avs bd:Code}:run P n G (f+1) (.code (.rangeFunc g ps avs bd) :: k) s=G (.code (.rangeFunc g ps avs bd) :: k) s:=by rw [run];all_goals simp
theorem pure_ofR {P:Program} {f:FuncId} {fn:Func} {c:Code} (hf:P.funcs[f]? =some fn) (hb:fn.body=some c) (hname:(fn.name== "runtime.NumGoroutine")=false) {args:List AV} {r:AV} (hn:args.length≤fn.ntmps) (ha:args.all (bnd 0)=true) (hr:bnd 0 r=true)
  (h:∀B:Base,B.n=fn.ntmps→B.C.nx=0→B.ro=none→Kp P B [.code c] (fun e s=>(e= .ret∨e= .normal)∧∃rs,resL P s fn.results.toList=some rs∧frz s.σ (resV rs)=r) .normal ⟨slots0 args,noObj,0⟩):Pure P f args r:=by
 refine ⟨fun a h=>List.all_eq_true.1 ha a h,hr,spec_of_KR hf hb hname hn fun B h1 h2 _ h0=>?_⟩
 refine fun a w hrel=>cwp_mono (h B h1 h2 h0 a w hrel) fun e a' w' hp=>?_
 obtain ⟨s',⟨he,rs,h3,h4⟩,h5⟩:=hp
 refine ⟨s',?_,h5⟩
 rcases he with rfl | rfl
 ·exact ⟨rs,h3,Ends.pure h4.symm hr⟩
 ·exact ⟨rs,h3,Ends.pure h4.symm hr⟩
end Go.Proofs.YtackfabapangdaaGreat.R

set_option maxRecDepth 10000
namespace Go.Proofs.YtackfabapangdaaGreat.R
open Go.RowKit
section
variable {P:Program} {B:Base} {k:List KI} {R:Post} {s:St} {all:Array Oper} {o:Oper} {rest:List Oper}
end
theorem K_drawnG {P:Program} {B:Base} {k:List KI} {R:Post} {s:St} {all:Array Oper} {id:Nat} (lo fl ld:List Nat) (hm:P.follows .mixedOrders=true) (hst:statOK all B.n lo=true) (ht:((List.range all.size).all (fun i=>tied all lo i== !fl.contains i)&&ld.all (fun i=>flo all lo i))=true)
  (h:(∀i,i<all.size→tied all lo i= !fl.contains i)→(∀i,i∈ld→flo all lo i=true)→Kp P B (.opsD all lo none (num 0 all.toList) [] :: k) R .normal s):Kp P B (.code (.region id all true) :: k) R .normal s:=by
 rw [Bool.and_eq_true] at ht
 exact K_drawn lo hm hst (h (fun i hi=>eq_of_beq (List.all_eq_true.1 ht.1 i (List.mem_range.2 hi))) (fun i hi=>List.all_eq_true.1 ht.2 i hi))
end Go.Proofs.YtackfabapangdaaGreat.R

namespace Go.Proofs.YtackfabapangdaaGreat.R
open Go.RowKit
section
variable {P:Program} {C:Ctx} {σ:Nat→AObj} {w:World}
theorem run_from {t e:TypeId} {i:TI} (ht:P.underlying t=some (.slice e)) (he:TT P e=some i) (a:Option Addr) (len cap n:Nat) (k:IntKind) (hn:n≤len) (hc:len≤cap) (w:World):
  (Instr.sliceAt t (.slice a len cap) (some (.int k n)) none none).run P w= .ok (sliced a n len cap i.size) w:=by
 have hel:P.elem t=e:=by simp [Program.elem,ht]
 rw [run_sliceAt_slice w t _ _ _ _ (by rw [hel];exact ht),run_slice_any w t a len cap (by rw [hel];exact ht),hel]
 simp [Instr.sliceBounds,Instr.sliceBound,asIntOf,hn,hc,run_size he]
theorem run_to {t e:TypeId} {i:TI} (ht:P.underlying t=some (.slice e)) (he:TT P e=some i) (a:Option Addr) (len cap n:Nat) (k:IntKind) (hn:n≤cap) (w:World):
  (Instr.sliceAt t (.slice a len cap) none (some (.int k n)) none).run P w= .ok (sliced a 0 n cap i.size) w:=by
 have hel:P.elem t=e:=by simp [Program.elem,ht]
 rw [run_sliceAt_slice w t _ _ _ _ (by rw [hel];exact ht),run_slice_any w t a len cap (by rw [hel];exact ht),hel]
 simp [Instr.sliceBounds,Instr.sliceBound,asIntOf,hn,run_size he]
end
section
variable {P:Program} {B:Base} {k:List KI} {R:Post} {s:St}
end
end Go.Proofs.YtackfabapangdaaGreat.R

namespace Go.Proofs.YtackfabapangdaaGreat.R
open Go.RowKit
@[go_sem] theorem run_none {P:Program} {n:Nat} {G:List KI→St→Prop} {k:List KI} {s:St}:run P n G 0 k s=G k s:=by rw [run]
section
variable {P:Program} {B:Base} {k:List KI} {R:Post} {s:St} {all:Array Oper}
theorem K_impC {t:St} {c:Code} (h:Imp B s t) (hk:Kp P B (.code c :: k) R .normal t):Kp P B (.code c :: k) R .normal s:=
 fun a w hr=>hk a w (h _ _ hr)
theorem K_drawnGM {id:Nat} (lo fl ld:List Nat) (pend:List Rc) (hm:P.follows .mixedOrders=true) (hst:statOK all B.n lo=true) (ht:((List.range all.size).all (fun i=>tied all lo i== !fl.contains i)&&ld.all (fun i=>flo all lo i))=true) (hpd:∀q∈pend,∃o,all[q.i]? =some o∧lets all q.m o=some true∧evalS P s.σ s.nx (ev q.m) o.op=some (q.v,.none))
  (h:(∀i,i<all.size→tied all lo i= !fl.contains i)→(∀i,i∈ld→flo all lo i=true)→Kp P B (.opsD all lo none (num 0 all.toList) pend :: k) R .normal s):Kp P B (.code (.region id all true) :: k) R .normal s:=by
 rw [Bool.and_eq_true] at ht
 refine K_drawnM lo pend hm hst (fun q hq=>?_) (h (fun i hi=>eq_of_beq (List.all_eq_true.1 ht.1 i (List.mem_range.2 hi))) (fun i hi=>List.all_eq_true.1 ht.2 i hi))
 obtain ⟨o,h1,h2,h3⟩:=hpd q hq
 exact does_store (e:=.none) h1 h2 h3
end
end Go.Proofs.YtackfabapangdaaGreat.R

namespace Go.Proofs.YtackfabapangdaaGreat.R
section
variable {P:Program}
theorem spec_keep {f:FuncId} {fn:Func} {c:Code} (hf:P.funcs[f]? =some fn) (hb:fn.body=some c) (hname:(fn.name== "runtime.NumGoroutine")=false) {args:List AV} {σ:Nat→AObj} {nx:Nat} {r:AV} (hn:args.length≤fn.ntmps)
  (hr:bnd nx r=true)
  (h:(∀i,σ i= .dead∨(bndO nx (σ i)=true∧i<nx))→∀B:Base,B.n=fn.ntmps→B.C.nx=nx→B.σ=σ→Kp P B [.code c] (fun e s=>(e= .ret∨e= .normal)∧nx≤s.nx∧(∀i,i<nx→s.σ i=σ i)∧∃rs,resL P s fn.results.toList=some rs∧resV rs=r) .normal ⟨slots0 args,σ,nx⟩):
  CallSpec P f args σ nx r σ nx:=by
 refine CallQ.spec (CallQ.known (by simp [goodFn,hf,hb,hname]) fun hk=>?_)
 refine CallSpec.q (spec_of_K hf hb hname hn fun B h1 h2 h3=>?_)
 refine fun a w hrel=>cwp_mono (h hk B h1 h2 h3 a w hrel) fun e a' w' hp=>?_
 obtain ⟨s',⟨he,g1,g3,rs,g4,g5⟩,h5⟩:=hp
 have hend:Ends nx s' (resV rs) σ nx r:=by
  refine ⟨fun i=>?_,g1,Nat.le_refl _,.inl g5.symm,.inr hr⟩
  rcases hk i with e | ⟨e,e2⟩
  ·exact .inl e
  ·exact .inr ⟨(g3 i e2).symm,.inr ⟨e,e2⟩⟩
 refine ⟨s',?_,h5⟩
 rcases he with rfl | rfl
 ·exact ⟨rs,g4,hend⟩
 ·exact ⟨rs,g4,hend⟩
end
end Go.Proofs.YtackfabapangdaaGreat.R

namespace Go.Proofs.YtackfabapangdaaGreat.R
open Go.RowKit
section
variable {P:Program}
theorem sliced_part {bl lo hi cap sz:Nat} (h:lo<cap):sliced (some ⟨bl,0,none⟩) lo hi cap sz= .slice (some ⟨bl,lo*sz,none⟩) (hi-lo) (cap-lo):=by
 rw [sliced,if_neg (by omega)]
 simp [add_base]
theorem does_cutFrom {all:Array Oper} {i n:Nat} {o:Oper} {m:Slots} {t e:TypeId} {x ix:Operand} {q lo:Nat} {ik:IntKind} {es:List (List T)} {ie i0:TI} {σ:Nat→AObj} {nx:Nat} (ho':all[i]? =some o) (hl:lets all m o=some true) (ho:o.op= .slice t x (some ix) none none)
  (ht:TT P t=some i0) (hdesc:i0.desc= .slice e) (he:TT P e=some ie) (hx:ev m x= .ref q) (hσ:σ q= .arr ie.size es) (hi:ev m ix= .t (.v (.int ik lo))) (hlo:lo<es.length):Does P n all i m σ nx (.cut q ie.size lo es.length) σ nx:=by
 intro C a w hn hs hsz hrep ro K Q hK
 have hops:=mask_ev (m:=m) ho'
 have hd:dstOf all i=o.dst:=by simp [dstOf,ho']
 simp only [wpO,wpOpIn,ho',lets_wanted ho' hrep hl,if_true]
 rw [hd] at hK
 have rx:=ev_rep hrep x
 rw [hops x (by simp [ho,Op.operands]),hx] at rx
 have hob:=hs.obj q
 rw [hσ] at hob
 obtain ⟨hsz',⟨h0,_⟩ | ⟨bl,cap,vs,E,l0,hi',q1,q2,q3,q4,q5,q6,q7⟩⟩:=hob
 ·rw [h0] at hlo;simp at hlo
 generalize hu:a.eval x=u at rx
 cases rx with
 |ref hq hh=>
  rw [q2] at hh
  cases hh
  have ri:=ev_rep hrep ix
  rw [hops ix (by simp [ho,Op.operands]),hi] at ri
  obtain ⟨hiv,_⟩:=rep_v ri
  have hunt:P.underlying t=some (.slice e):=by rw [←hdesc];exact (tt_some ht).1
  have hx1:(execOp a.eval o).run P w= .ok (.value (.slice (some ⟨bl,lo*ie.size,none⟩) (es.length-lo) (cap-lo))) w:=by
   simp only [execOp,ho,hu,hiv,Option.map_some,Option.map_none,Sem.run_bind,run_from hunt he _ _ _ _ _ (Nat.le_of_lt hlo) q3,Result.andThen_ok,Sem.run_pure,sliced_part (show lo<cap by omega)]
  exact owp_value hx1 (hK _ _ C hs hn (Step.refl _ _ _) (.cut hq q1 q2))
theorem does_cutTo {all:Array Oper} {i n:Nat} {o:Oper} {m:Slots} {t e:TypeId} {x ix:Operand} {q up:Nat} {ik:IntKind} {es:List (List T)} {ie i0:TI} {σ:Nat→AObj} {nx:Nat} (ho':all[i]? =some o) (hl:lets all m o=some true) (ho:o.op= .slice t x none (some ix) none)
  (ht:TT P t=some i0) (hdesc:i0.desc= .slice e) (he:TT P e=some ie) (hx:ev m x= .ref q) (hσ:σ q= .arr ie.size es) (hi:ev m ix= .t (.v (.int ik up))) (hup:up≤es.length) (hpos:0<es.length):Does P n all i m σ nx (.cut q ie.size 0 up) σ nx:=by
 intro C a w hn hs hsz hrep ro K Q hK
 have hops:=mask_ev (m:=m) ho'
 have hd:dstOf all i=o.dst:=by simp [dstOf,ho']
 simp only [wpO,wpOpIn,ho',lets_wanted ho' hrep hl,if_true]
 rw [hd] at hK
 have rx:=ev_rep hrep x
 rw [hops x (by simp [ho,Op.operands]),hx] at rx
 have hob:=hs.obj q
 rw [hσ] at hob
 obtain ⟨hsz',⟨h0,_⟩ | ⟨bl,cap,vs,E,l0,hi',q1,q2,q3,q4,q5,q6,q7⟩⟩:=hob
 ·rw [h0] at hpos;simp at hpos
 generalize hu:a.eval x=u at rx
 cases rx with
 |ref hq hh=>
  rw [q2] at hh
  cases hh
  have ri:=ev_rep hrep ix
  rw [hops ix (by simp [ho,Op.operands]),hi] at ri
  obtain ⟨hiv,_⟩:=rep_v ri
  have hunt:P.underlying t=some (.slice e):=by rw [←hdesc];exact (tt_some ht).1
  have hx1:(execOp a.eval o).run P w= .ok (.value (.slice (some ⟨bl,0*ie.size,none⟩) (up-0) (cap-0))) w:=by
   simp only [execOp,ho,hu,hiv,Option.map_some,Option.map_none,Sem.run_bind,run_to hunt he _ _ _ _ _ (show up≤cap by omega),Result.andThen_ok,Sem.run_pure,sliced_part (show 0<cap by omega)]
  exact owp_value hx1 (hK _ _ C hs hn (Step.refl _ _ _) (.cut hq q1 q2))
theorem write_rows {C:Ctx} {σ:Nat→AObj} {w:World} (hs:Sim C σ w) {q bl cap n0 lo:Nat} {es ss:List (List T)} {vs:List Value} (hσ:σ q= .arr 1 es) (ho:C.own q=some bl) (hh:C.hdr q= .slice (some ⟨bl,0,none⟩) n0 cap)
  (hlo:lo+ss.length≤es.length) (hlen:vs.length=ss.length) (hrep:∀(j:Nat) (y:List T) (v:Value),ss[j]? =some y→vs[j]? =some v→∃c,y=[c]∧RepT w C.imm c v):
  ∃w',(storeCells ⟨bl,lo,none⟩ vs 0).run P w= .ok () w'∧Sim C (oput σ q (.arr 1 (es.take lo++(ss++es.drop (lo+ss.length))))) w'∧Step C σ w C (oput σ q (.arr 1 (es.take lo++(ss++es.drop (lo+ss.length))))) w':=by
 obtain ⟨h4,h5,hsz,cur,E,l0,l1,h6,h7,h8,h9⟩:=obj_arr hs hσ ho hh
 have hone:∀v∈vs,v.oneCell'=true:=by
  intro v hv
  obtain ⟨k,hk,rfl⟩:=List.getElem_of_mem hv
  obtain ⟨c,_,hc⟩:=hrep k ss[k] vs[k] (List.getElem?_eq_getElem _) (List.getElem?_eq_getElem _)
  exact repT_one hc
 obtain ⟨w',cur',e1,e2,e3,e4,e5,e6,e7,e8,e9⟩:=run_stores (P:=P) bl lo E l0 l1 vs 0 cur w h6 (by omega) hone (by rw [h7];exact h8)
 have hd:σ q≠ .dead:=by rw [hσ];exact fun h=>by cases h
 have hk:Keeps w C.imm w' C.imm:=⟨fun b h=>h,fun b' h=>e5 b' fun e=>hs.sep q bl hd ho (e ▸ h)⟩
 have hlen':(es.take lo++(ss++es.drop (lo+ss.length))).length=es.length:=by
  rw [List.length_append,List.length_take,List.length_append,List.length_drop];omega
 have hrows:∀e∈es.take lo++(ss++es.drop (lo+ss.length)),e.length=1:=by
  intro e he
  rcases List.mem_append.1 he with he | he
  ·exact hsz e (List.mem_of_mem_take he)
  rcases List.mem_append.1 he with he | he
  ·obtain ⟨k,hk,rfl⟩:=List.getElem_of_mem he
   obtain ⟨c,hc,_⟩:=hrep k ss[k] vs[k] (List.getElem?_eq_getElem _) (List.getElem?_eq_getElem _)
   rw [hc];rfl
  ·exact hsz e (List.mem_of_mem_drop he)
 obtain ⟨g1,g2⟩:=sim_set hs hd ho e7 e8 e9 e6 e5 (obj:=.arr 1 (es.take lo++(ss++es.drop (lo+ss.length)))) ⟨hrows,
  .inr ⟨bl,cap,cur',E,l0,l1,ho,by rw [hlen',hh,h4],by omega,e2,by omega,h8,fun j k y c u hy hc hu=>by
   rw [e4] at hu
   have hyl:=hrows y (List.mem_of_getElem? hy)
   have hkl:k<y.length:=(List.getElem?_eq_some_iff.1 hc).1
   have hk0:k=0:=by omega
   subst hk0
   have hj:j<es.length:=by rw [←hlen'];exact (List.getElem?_eq_some_iff.1 hy).1
   by_cases hjn:j<lo
   ·rw [if_neg (by omega)] at hu
    rw [List.getElem?_append_left (by rw [List.length_take];omega),List.getElem?_take,if_pos hjn] at hy
    exact (h9 _ _ _ _ _ hy hc hu).keeps hk
   ·rw [List.getElem?_append_right (by rw [List.length_take];omega),List.length_take,show min lo es.length=lo by omega] at hy
    by_cases hj2:j<lo+ss.length
    ·rw [if_pos (by omega)] at hu
     rw [List.getElem?_append_left (by omega)] at hy
     rw [show j*1+0-(lo+0)=j-lo by omega] at hu
     obtain ⟨c',hc',hr⟩:=hrep (j-lo) y u hy hu
     rw [hc'] at hc
     simp only [List.getElem?_cons_zero,Option.some.injEq] at hc
     subst hc
     exact hr.keeps hk
    ·rw [if_neg (by omega)] at hu
     rw [List.getElem?_append_right (by omega),List.getElem?_drop,show lo+ss.length+(j-lo-ss.length)=j by omega] at hy
     exact (h9 _ _ _ _ _ hy hc hu).keeps hk⟩⟩
 exact ⟨w',e1,g1,g2⟩
theorem copy_rows {C:Ctx} {σ:Nat→AObj} {w:World} (hs:Sim C σ w) {t t' e ty:TypeId} {ie:TI} {q bl cap n0 lo up k:Nat} {dc sc:Nat} {es:List (List T)} (ht:P.underlying t=some (.slice e)) (he:TT P e=some ie) (h1:ie.size=1) (hσ:σ q= .arr 1 es) (ho:C.own q=some bl) (hh:C.hdr q= .slice (some ⟨bl,0,none⟩) n0 cap)
  (hlo:lo+k≤es.length) (hk:k=Nat.min up (es.length-lo)) (hup:up≤es.length):
  ∃w',(Builtin.copy_ #[t,t'] ty #[.slice (some ⟨bl,lo,none⟩) (es.length-lo) dc,.slice (some ⟨bl,0,none⟩) up sc]).run P w= .ok (goInt k) w'∧Sim C (oput σ q (.arr 1 (es.take lo++(es.take k++es.drop (lo+k))))) w'∧Step C σ w C (oput σ q (.arr 1 (es.take lo++(es.take k++es.drop (lo+k))))) w':=by
 obtain ⟨h4,h5,hsz,cur,E,l0,l1,h6,h7,h8,h9⟩:=obj_arr hs hσ ho hh
 have hku:k≤up:=by rw [hk];exact Nat.min_le_left _ _
 have hlen:(cur.toList.take k).length=(es.take k).length:=by
  rw [List.length_take,List.length_take,Array.length_toList,h7];omega
 have hkl:(es.take k).length=k:=by rw [List.length_take];omega
 obtain ⟨w',e1,e2,e3⟩:=write_rows (P:=P) (lo:=lo) (ss:=es.take k) (vs:=cur.toList.take k) hs hσ ho hh (by rw [hkl];exact hlo) hlen fun j y v hy hv=>by
  have hj:j<k:=by
   have:=(List.getElem?_eq_some_iff.1 hy).1
   omega
  rw [List.getElem?_take,if_pos hj] at hy hv
  have hyl:=hsz y (List.mem_of_getElem? hy)
  obtain ⟨c,rfl⟩:∃c,y=[c]:=by
   match y,hyl with
   |[c],_=>exact ⟨c,rfl⟩
  rw [Array.getElem?_toList] at hv
  exact ⟨c,rfl,h9 j 0 [c] c v hy rfl (by simpa using hv)⟩
 rw [hkl] at e2 e3
 refine ⟨w',?_,e2,e3⟩
 have hsrc:∀(j:Nat) (v:Value),(cur.toList.take k)[j]? =some v→w.cell? ((⟨bl,0,none⟩:Addr).add j)=some v:=by
  intro j v hv
  rw [add_base]
  have hj:j<k:=by
   have:=(List.getElem?_eq_some_iff.1 hv).1
   omega
  rw [List.getElem?_take,if_pos hj,Array.getElem?_toList] at hv
  simp [World.cell?,h6,hv]
 have hl:=run_loadCells_list (P:=P) w ⟨bl,0,none⟩ (cur.toList.take k) hsrc
 have hkl2:(cur.toList.take k).length=k:=by rw [hlen,hkl]
 rw [hkl2] at hl
 have hsize:=run_size he (w:=w)
 rw [h1] at hsize
 simp [Builtin.copy_,run_underlying ht,Builtin.lenOf,Builtin.firstCells,hsize,←hk,hl,e1]
theorem does_copyPart {all:Array Oper} {i n:Nat} {o:Oper} {m:Slots} {c:Call} {x y:Operand} {t t' e:TypeId} {i0 ie:TI} {q lo up k:Nat} {es:List (List T)} {σ:Nat→AObj} {nx:Nat} (ho':all[i]? =some o) (hl:lets all m o=some true) (ho:o.op= .call c) (hc:c.callee= .builtin .copy) (ha:c.args= #[x,y]) (hy:c.argTypes= #[t,t'])
  (ht:TT P t=some i0) (hdesc:i0.desc= .slice e) (he:TT P e=some ie) (h1:ie.size=1) (hx:ev m x= .cut q 1 lo es.length) (hyv:ev m y= .cut q 1 0 up) (hσ:σ q= .arr 1 es) (hlo:lo+k≤es.length) (hk:k=Nat.min up (es.length-lo)) (hup:up≤es.length):
  Does P n all i m σ nx (.t (.v (.int .i64 k))) (oput σ q (.arr 1 (es.take lo++(es.take k++es.drop (lo+k))))) nx:=by
 intro C a w hn hs hsz hrep ro K Q hK
 have hops:=mask_ev (m:=m) ho'
 have hd:dstOf all i=o.dst:=by simp [dstOf,ho']
 simp only [wpO,wpOpIn,ho',lets_wanted ho' hrep hl,if_true]
 rw [hd] at hK
 have rx:=ev_rep hrep x
 have ry:=ev_rep hrep y
 rw [hops x (by simp [ho,Op.operands,Call.operands,ha,hc]),hx] at rx
 rw [hops y (by simp [ho,Op.operands,Call.operands,ha,hc]),hyv] at ry
 have hunt:P.underlying t=some (.slice e):=by rw [←hdesc];exact (tt_some ht).1
 generalize hu:a.eval x=u at rx
 generalize hv:a.eval y=v at ry
 cases rx with
 |@cut _ _ _ _ bl n0 cap b1 b2 b3=>
  cases ry with
  |cut d1 d2 d3=>
   rw [b2] at d2
   cases d2
   rw [b3] at d3
   cases d3
   obtain ⟨w',e1,e2,e3⟩:=copy_rows (P:=P) (t:=t) (t':=t') (ty:=o.type) (dc:=cap-lo) (sc:=cap) hs hunt he h1 hσ b2 b3 hlo hk hup
   have hx2:(execOp a.eval o).run P w= .ok (.value (goInt k)) w':=by
    obtain ⟨dst,op,type,pos,after,guard⟩:=o
    simp only at ho
    subst ho
    simp only at e1
    have hv':∀ρ,execOp ρ ⟨dst,.call c,type,pos,after,guard⟩=(do let d ←resolve ρ c type;invoke d.target d.args):=fun ρ=>rfl
    rw [hv']
    simp only [resolve,hc,Sem.run_bind,Sem.run_pure,Result.andThen_ok,invoke,builtin,ha,hy,List.map_toArray,List.map_cons,List.map_nil,hu,hv,Nat.mul_one,Nat.sub_zero,Nat.zero_mul,e1]
   exact owp_value hx2 (hK _ _ C e2 hn e3 (.t (.v rfl)))
theorem copy_tree {C:Ctx} {σ:Nat→AObj} {w:World} (hs:Sim C σ w) {t t' e ty:TypeId} {ie:TI} {q bl cap n0 dc:Nat} {es ys:List (List T)} {u:Value} (ht:P.underlying t=some (.slice e)) (he:TT P e=some ie) (h1:ie.size=1) (hσ:σ q= .arr 1 es) (ho:C.own q=some bl) (hh:C.hdr q= .slice (some ⟨bl,0,none⟩) n0 cap)
  (hu:RepT w C.imm (.sl ys) u) (hy:∀y∈ys,y.length=1) (hpos:0<ys.length) (hle:ys.length≤es.length):
  ∃w',(Builtin.copy_ #[t,t'] ty #[.slice (some ⟨bl,0,none⟩) es.length dc,u]).run P w= .ok (goInt ys.length) w'∧Sim C (oput σ q (.arr 1 (ys++es.drop ys.length))) w'∧Step C σ w C (oput σ q (.arr 1 (ys++es.drop ys.length))) w':=by
 cases hu with
 |nil=>simp at hpos
 |@sl _ ad cap2 sz un h0 hsz hc himm hcell hr=>
  have hsz1:sz=1:=by
   have a1:=hsz ys[0] (List.getElem_mem _)
   have a2:=hy ys[0] (List.getElem_mem _)
   omega
  subst hsz1
  obtain ⟨w',e1,e2,e3⟩:=write_rows (P:=P) (lo:=0) (ss:=ys) (vs:=(List.range ys.length).map un) hs hσ ho hh (by omega) (by simp) fun j y v hj hv=>by
   have hjl:=(List.getElem?_eq_some_iff.1 hj).1
   rw [List.getElem?_map,List.getElem?_range hjl] at hv
   cases hv
   have hyl:=hy y (List.mem_of_getElem? hj)
   obtain ⟨c,rfl⟩:∃c,y=[c]:=by
    match y,hyl with
    |[c],_=>exact ⟨c,rfl⟩
   have:=hr j 0 [c] c hj rfl
   rw [Nat.mul_one,Nat.add_zero] at this
   exact ⟨c,rfl,this⟩
  rw [List.take_zero,List.nil_append,Nat.zero_add] at e2 e3
  refine ⟨w',?_,e2,e3⟩
  have hsrc:∀(j:Nat) (v:Value),((List.range ys.length).map un)[j]? =some v→w.cell? (ad.add j)=some v:=by
   intro j v hv
   have hjl:j<ys.length:=by
    have:=(List.getElem?_eq_some_iff.1 hv).1
    simpa using this
   rw [List.getElem?_map,List.getElem?_range hjl] at hv
   cases hv
   exact hcell j (by omega)
  have hl:=run_loadCells_list (P:=P) w ad _ hsrc
  have hll:((List.range ys.length).map un).length=ys.length:=by simp
  rw [hll] at hl
  have hsize:=run_size he (w:=w)
  rw [h1] at hsize
  have hmin:Nat.min ys.length es.length=ys.length:=Nat.min_eq_left hle
  simp [Builtin.copy_,run_underlying ht,Builtin.lenOf,Builtin.firstCells,hsize,hmin,hl,e1]
end
section
variable {P:Program} {B:Base} {k:List KI} {R:Post} {s:St} {all:Array Oper} {o:Oper} {lo:List Nat} {sw:SW} {rest:List (Nat×Oper)} {i:Nat} {pend:List Rc} {v:AV}
theorem K_dLook (hd:all[i]? =some o→Does P B.n all i s.m s.σ s.nx v s.σ s.nx) (ht:tied all lo i=true) (h:Kp P B (.opsD all lo sw rest pend :: k) R .normal ⟨put s.m o.dst v,s.σ,s.nx⟩):Kp P B (.opsD all lo sw ((i,o) :: rest) pend :: k) R .normal s:=
 Chain.at fun ho=>Chain.step (loud:=none) (hd ho) (fun _=>.inr (by
  simp only [tied,List.all_eq_true,Bool.and_eq_true,Bool.or_eq_true,Bool.not_eq_true',decide_eq_false_iff_not] at ht
  exact ⟨fun k hk h=>((ht k hk).1).resolve_left (fun e=>e h),.inl fun k hk h=>((ht k hk).2).resolve_left (fun e=>e h)⟩)) (fun c hc=>by cases hc) (fun _ h=>h) h
theorem K_dTold {σ':Nat→AObj} {nx':Nat} (hd:all[i]? =some o→Does P B.n all i s.m s.σ s.nx v σ' nx') (hi:i∈lo) (hp:∀q∈pend,anc all q.i i=true∨Does P B.n all q.i q.m σ' nx' q.v σ' nx')
  (h:Kp P B (.opsD all lo sw rest pend :: k) R .normal ⟨put s.m o.dst v,σ',nx'⟩):Kp P B (.opsD all lo sw ((i,o) :: rest) pend :: k) R .normal s:=
 Chain.at fun ho=>Chain.step (loud:=some (σ',nx')) (hd ho) (fun hc=>by cases hc) (fun c hc=>by cases hc;exact ⟨hi,hp⟩) (fun _ h=>h) h
theorem K_copyT {t t' e:TypeId} {x y:Operand} {c:Call} {i0 ie:TI} {q:Nat} {es ys:List (List T)} {ops:List Oper} (hg:o.guard=none) (ho:o.op= .call c) (hc:c.callee= .builtin .copy) (ha:c.args= #[x,y]) (hy:c.argTypes= #[t,t']) (hb:dOk B.n o.dst=true)
  (ht:TT P t=some i0) (hdesc:i0.desc= .slice e) (he:TT P e=some ie) (h1:ie.size=1) (hx:ev s.m x= .ref q) (hyv:ev s.m y= .fsl ys) (hσ:s.σ q= .arr 1 es) (hyl:∀y∈ys,y.length=1) (hpos:0<ys.length) (hle:ys.length≤es.length)
  (h:Kp P B (.ops all ops :: k) R .normal ⟨put s.m o.dst (.t (.v (.int .i64 ys.length))),oput s.σ q (.arr 1 (ys++es.drop ys.length)),s.nx⟩):Kp P B (.ops all (o :: ops) :: k) R .normal s:=by
 intro a w hr
 obtain ⟨C,g1,g2,g3,g4,g5,g6⟩:=hr
 have rx:=ev_rep g2 x
 have ry:=ev_rep g2 y
 rw [hx] at rx
 rw [hyv] at ry
 have hob:=g5.obj q
 rw [hσ] at hob
 obtain ⟨hsz,⟨h0,_⟩ | ⟨bl,cap,vs,E,lo,hi',q1,q2,q3,q4,q5,q6,q7⟩⟩:=hob
 ·rw [h0] at hle;simp at hle;rw [hle] at hpos;simp at hpos
 have hunt:P.underlying t=some (.slice e):=by rw [←hdesc];exact (tt_some ht).1
 generalize hu:a.eval x=u at rx
 generalize hv:a.eval y=v at ry
 cases rx with
 |ref hq hh=>
  rw [q2] at hh
  cases hh
  cases ry with
  |@fsl _ ad hrt=>
   obtain ⟨w',e1,e2,e3⟩:=copy_tree (P:=P) (t:=t) (t':=t') (ty:=o.type) (dc:=cap) g5 hunt he h1 hσ q1 q2 hrt hyl hpos hle
   refine wpL_plain hg fun K hK=>?_
   have hx2:(execOp a.eval o).run P w= .ok (.value (goInt ys.length)) w':=by
    obtain ⟨dst,op,type,pos,after,guard⟩:=o
    simp only at ho
    subst ho
    simp only at e1
    have hv':∀ρ,execOp ρ ⟨dst,.call c,type,pos,after,guard⟩=(do let d ←resolve ρ c type;invoke d.target d.args):=fun ρ=>rfl
    rw [hv']
    simp only [resolve,hc,Sem.run_bind,Sem.run_pure,Result.andThen_ok,invoke,builtin,ha,hy,List.map_toArray,List.map_cons,List.map_nil,hu,hv,e1]
   refine owp_value hx2 ?_
   have p2:=put_rep (a:=a) g5 e3 g2 (d:=o.dst) (by rw [g3];exact hb) (v:=.t (.v (.int .i64 ys.length))) (u:=goInt ys.length) (.t (.v rfl))
   exact hK _ _ (h _ _ ⟨C,g1,p2,by rw [put_size];exact g3,by rw [put_def];exact g4.step e3,e2,g6.trans e3⟩)
end
end Go.Proofs.YtackfabapangdaaGreat.R

namespace Go.Proofs.YtackfabapangdaaGreat.R
open Go.RowKit
section
variable {P:Program} {n:Nat} {all:Array Oper}
end
section
variable {P:Program} {B:Base} {k:List KI} {R:Post} {s:St} {all:Array Oper}
end
@[go_sem] theorem up2 (n:Nat):(n=n+1+1)=False:=by simp only [eq_iff_iff,iff_false];omega
@[go_sem] theorem dn2 (n:Nat):(n+1+1=n)=False:=by simp only [eq_iff_iff,iff_false];omega
@[go_sem] theorem up3 (n:Nat):(n=n+1+1+1)=False:=by simp only [eq_iff_iff,iff_false];omega
@[go_sem] theorem dn3 (n:Nat):(n+1+1+1=n)=False:=by simp only [eq_iff_iff,iff_false];omega
@[go_sem] theorem up4 (n:Nat):(n=n+1+1+1+1)=False:=by simp only [eq_iff_iff,iff_false];omega
@[go_sem] theorem dn4 (n:Nat):(n+1+1+1+1=n)=False:=by simp only [eq_iff_iff,iff_false];omega
@[go_sem] theorem up5 (n:Nat):(n=n+1+1+1+1+1)=False:=by simp only [eq_iff_iff,iff_false];omega
@[go_sem] theorem dn5 (n:Nat):(n+1+1+1+1+1=n)=False:=by simp only [eq_iff_iff,iff_false];omega
@[go_sem] theorem up6 (n:Nat):(n=n+1+1+1+1+1+1)=False:=by simp only [eq_iff_iff,iff_false];omega
@[go_sem] theorem dn6 (n:Nat):(n+1+1+1+1+1+1=n)=False:=by simp only [eq_iff_iff,iff_false];omega
@[go_sem] theorem up7 (n:Nat):(n=n+1+1+1+1+1+1+1)=False:=by simp only [eq_iff_iff,iff_false];omega
@[go_sem] theorem dn7 (n:Nat):(n+1+1+1+1+1+1+1=n)=False:=by simp only [eq_iff_iff,iff_false];omega
@[go_sem] theorem up8 (n:Nat):(n=n+1+1+1+1+1+1+1+1)=False:=by simp only [eq_iff_iff,iff_false];omega
@[go_sem] theorem dn8 (n:Nat):(n+1+1+1+1+1+1+1+1=n)=False:=by simp only [eq_iff_iff,iff_false];omega
end Go.Proofs.YtackfabapangdaaGreat.R

namespace Go.Proofs.YtackfabapangdaaGreat.R
open Go Go.ChangeShapes Go.WideShapes Go.ChangeAt Go.RowKit
def jRest (P:Program) (f:FuncId) (fn:Func) (s:ChangeSpec) (c:OpenClaim):Bool:=
 c.wf (OpenSpec.ofChange s)&&laidOutB P&&mapsRowed P&&fn.params.all (P.readableRec ·)&&namedTie P c.named s.vars&&(c.stops==[])&&(P.stops==[])&&(c.knobs==[])&&(P.stopKnobs==[])&&(c.inPlace==P.inPlace f)&&(c.maps==(fn.params.toList++s.plain.varTypes P).any (P.mapsRec ·))&&(c.ifaces==(fn.params.toList++s.plain.varTypes P).any (P.ifacesRec ·))&&(c.mapsOut==P.mapsAmong fn.resultTypes.toList)&&(c.loops==(fn.params.toList++s.plain.varTypes P).any (P.loopsFrom ·))&&(c.wideKeys==(fn.params.toList++s.plain.varTypes P++fn.resultTypes.toList).any (P.wideKeysFrom ·))&&s.vars.all (P.varReadable ·)&&fn.resultTypes.all (fun t=>P.readableRec t&&decide (t<P.types.size))&&(c.ifacesOut==fn.resultTypes.toList.any (P.ifacesRec ·))&&(c.loopsOut==fn.resultTypes.toList.any (P.loopsFrom ·))&&(c.plainKeys==P.plainKeys)&&c.shortTexts.isNone&&P.stopsHeard&&(c.kinds==(if c.domain.isEmpty then [] else fn.params.toList.map fun t=>match P.underlying t with | some (.int k)=>some k | _=>none))&&(c.pinned==c.pinnedBy)&&(c.veiled==(fn.params.toList++s.plain.varTypes P++fn.resultTypes.toList).any (P.veiledRec ·))&&c.veiledFits P fn.params.toList (fn.params.toList++s.plain.varTypes P++fn.resultTypes.toList)
theorem joined_of {P:Program} {f:FuncId} {fn:Func} {s:ChangeSpec} {c:OpenClaim} (h:jRest P f fn s c=true) (h10:(c.unfollowed==P.unfollowed f)=true) (h11:(c.recurses==P.recurses f)=true) (h12:(c.named==P.varsNamed f)=true) (h25:P.mayEnter=true) (h26:(c.lifted==P.liftsFinal)=true) (h27:(P.make==some c.make)=true):joinedFacts P f fn s c=true:=by
 simp only [jRest,Bool.and_eq_true] at h
 obtain ⟨⟨⟨⟨⟨⟨⟨⟨⟨⟨⟨⟨⟨⟨⟨⟨⟨⟨⟨⟨⟨⟨⟨⟨⟨k0,k1⟩,k2⟩,k3⟩,k4⟩,k5⟩,k6⟩,k7⟩,k8⟩,k9⟩,k13⟩,k14⟩,k15⟩,k16⟩,k17⟩,k18⟩,k19⟩,k20⟩,k21⟩,k22⟩,k23⟩,k24⟩,k28⟩,k29⟩,k30⟩,k31⟩:=h
 simp only [joinedFacts,Bool.and_eq_true]
 exact ⟨⟨⟨⟨⟨⟨⟨⟨⟨⟨⟨⟨⟨⟨⟨⟨⟨⟨⟨⟨⟨⟨⟨⟨⟨⟨⟨⟨⟨⟨⟨k0,k1⟩,k2⟩,k3⟩,k4⟩,k5⟩,k6⟩,k7⟩,k8⟩,k9⟩,h10⟩,h11⟩,h12⟩,k13⟩,k14⟩,k15⟩,k16⟩,k17⟩,k18⟩,k19⟩,k20⟩,k21⟩,k22⟩,k23⟩,k24⟩,h25⟩,h26⟩,h27⟩,k28⟩,k29⟩,k30⟩,k31⟩
end Go.Proofs.YtackfabapangdaaGreat.R

set_option maxRecDepth 20000
namespace Go.Proofs.YtackfabapangdaaGreat
open Go Go.Proofs.YtackfabapangdaaGreat.R
noncomputable abbrev P:Program:=Tryz.prog
theorem tt3:TT P 3=some ⟨Go.TypeDesc.int Go.IntKind.i64,1,8,(Go.Value.int Go.IntKind.i64 0)⟩:=by kernel_rfl
theorem tt4:TT P 4=some ⟨Go.TypeDesc.bool,1,1,(Go.Value.bool Bool.false)⟩:=by kernel_rfl
theorem tt5:TT P 5=some ⟨Go.TypeDesc.int Go.IntKind.u8,1,1,(Go.Value.int Go.IntKind.u8 0)⟩:=by kernel_rfl
theorem tt9:TT P 9=some ⟨Go.TypeDesc.string,1,16,(Go.Value.string {data:=#[]})⟩:=by kernel_rfl
theorem tt21:TT P 21=some ⟨Go.TypeDesc.int Go.IntKind.i32,1,4,(Go.Value.int Go.IntKind.i32 0)⟩:=by kernel_rfl
theorem tt22:TT P 22=some ⟨Go.TypeDesc.slice 5,1,24,(Go.Value.slice Option.none 0 0)⟩:=by kernel_rfl
theorem tt26:TT P 26=some ⟨Go.TypeDesc.struct #[{name:= "Status",type:=3,offset:=0,embedded:=Bool.false,tag:= "",pkgPath:= "",byteOffset:=0},{name:= "Low",type:=3,offset:=1,embedded:=Bool.false,tag:= "",pkgPath:= "",byteOffset:=8},{name:= "Up",type:=3,offset:=2,embedded:=Bool.false,tag:= "",pkgPath:= "",byteOffset:=16}],3,24,(Go.Value.agg #[Go.Value.int Go.IntKind.i64 0,Go.Value.int Go.IntKind.i64 0,Go.Value.int Go.IntKind.i64 0])⟩:=by kernel_rfl
theorem tt29:TT P 29=some ⟨Go.TypeDesc.slice 68,1,24,(Go.Value.slice Option.none 0 0)⟩:=by kernel_rfl
theorem tt31:TT P 31=some ⟨Go.TypeDesc.struct #[{name:= "Routes",type:=29,offset:=0,embedded:=Bool.false,tag:= "",pkgPath:= "",byteOffset:=0}],1,24,(Go.Value.agg #[Go.Value.slice Option.none 0 0])⟩:=by kernel_rfl
theorem tt32:TT P 32=some ⟨Go.TypeDesc.slice 94,1,24,(Go.Value.slice Option.none 0 0)⟩:=by kernel_rfl
theorem tt34:TT P 34=some ⟨Go.TypeDesc.struct #[{name:= "Pairs",type:=3,offset:=0,embedded:=Bool.false,tag:= "",pkgPath:= "",byteOffset:=0},{name:= "Cars",type:=3,offset:=1,embedded:=Bool.false,tag:= "",pkgPath:= "",byteOffset:=8},{name:= "Room",type:=3,offset:=2,embedded:=Bool.false,tag:= "",pkgPath:= "",byteOffset:=16},{name:= "Stops",type:=32,offset:=3,embedded:=Bool.false,tag:= "",pkgPath:= "",byteOffset:=24}],4,48,(Go.Value.agg #[Go.Value.int Go.IntKind.i64 0,Go.Value.int Go.IntKind.i64 0,Go.Value.int Go.IntKind.i64 0,Go.Value.slice Option.none 0 0])⟩:=by kernel_rfl
theorem tt35:TT P 35=some ⟨Go.TypeDesc.int Go.IntKind.i64,1,8,(Go.Value.int Go.IntKind.i64 0)⟩:=by kernel_rfl
theorem tt44:TT P 44=some ⟨Go.TypeDesc.slice 114,1,24,(Go.Value.slice Option.none 0 0)⟩:=by kernel_rfl
theorem tt46:TT P 46=some ⟨Go.TypeDesc.struct #[{name:= "Least",type:=3,offset:=0,embedded:=Bool.false,tag:= "",pkgPath:= "",byteOffset:=0},{name:= "Parts",type:=44,offset:=1,embedded:=Bool.false,tag:= "",pkgPath:= "",byteOffset:=8}],2,32,(Go.Value.agg #[Go.Value.int Go.IntKind.i64 0,Go.Value.slice Option.none 0 0])⟩:=by kernel_rfl
theorem tt56:TT P 56=some ⟨Go.TypeDesc.slice 77,1,24,(Go.Value.slice Option.none 0 0)⟩:=by kernel_rfl
theorem tt58:TT P 58=some ⟨Go.TypeDesc.struct #[{name:= "Status",type:=3,offset:=0,embedded:=Bool.false,tag:= "",pkgPath:= "",byteOffset:=0},{name:= "P",type:=31,offset:=1,embedded:=Bool.false,tag:= "",pkgPath:= "",byteOffset:=8},{name:= "Up",type:=3,offset:=2,embedded:=Bool.false,tag:= "",pkgPath:= "",byteOffset:=32},{name:= "Low",type:=3,offset:=3,embedded:=Bool.false,tag:= "",pkgPath:= "",byteOffset:=40},{name:= "Steps",type:=3,offset:=4,embedded:=Bool.false,tag:= "",pkgPath:= "",byteOffset:=48},{name:= "Log",type:=56,offset:=5,embedded:=Bool.false,tag:= "",pkgPath:= "",byteOffset:=56}],6,80,(Go.Value.agg #[Go.Value.int Go.IntKind.i64 0,Go.Value.slice Option.none 0 0,Go.Value.int Go.IntKind.i64 0,Go.Value.int Go.IntKind.i64 0,Go.Value.int Go.IntKind.i64 0,Go.Value.slice Option.none 0 0])⟩:=by kernel_rfl
theorem tt65:TT P 65=some ⟨Go.TypeDesc.int Go.IntKind.u64,1,8,(Go.Value.int Go.IntKind.u64 0)⟩:=by kernel_rfl
theorem tt67:TT P 67=some ⟨Go.TypeDesc.struct #[{name:= "At",type:=3,offset:=0,embedded:=Bool.false,tag:= "",pkgPath:= "",byteOffset:=0},{name:= "Car",type:=3,offset:=1,embedded:=Bool.false,tag:= "",pkgPath:= "",byteOffset:=8},{name:= "Time",type:=3,offset:=2,embedded:=Bool.false,tag:= "",pkgPath:= "",byteOffset:=16},{name:= "Load",type:=3,offset:=3,embedded:=Bool.false,tag:= "",pkgPath:= "",byteOffset:=24},{name:= "First",type:=3,offset:=4,embedded:=Bool.false,tag:= "",pkgPath:= "",byteOffset:=32},{name:= "Must",type:=65,offset:=5,embedded:=Bool.false,tag:= "",pkgPath:= "",byteOffset:=40},{name:= "May",type:=65,offset:=6,embedded:=Bool.false,tag:= "",pkgPath:= "",byteOffset:=48},{name:= "On",type:=65,offset:=7,embedded:=Bool.false,tag:= "",pkgPath:= "",byteOffset:=56}],8,64,(Go.Value.agg #[Go.Value.int Go.IntKind.i64 0,Go.Value.int Go.IntKind.i64 0,Go.Value.int Go.IntKind.i64 0,Go.Value.int Go.IntKind.i64 0,Go.Value.int Go.IntKind.i64 0,Go.Value.int Go.IntKind.u64 0,Go.Value.int Go.IntKind.u64 0,Go.Value.int Go.IntKind.u64 0])⟩:=by kernel_rfl
theorem tt68:TT P 68=some ⟨Go.TypeDesc.slice 3,1,24,(Go.Value.slice Option.none 0 0)⟩:=by kernel_rfl
theorem tt94:TT P 94=some ⟨Go.TypeDesc.struct #[{name:= "X",type:=3,offset:=0,embedded:=Bool.false,tag:= "",pkgPath:= "",byteOffset:=0},{name:= "Y",type:=3,offset:=1,embedded:=Bool.false,tag:= "",pkgPath:= "",byteOffset:=8},{name:= "Demand",type:=3,offset:=2,embedded:=Bool.false,tag:= "",pkgPath:= "",byteOffset:=16},{name:= "Ready",type:=3,offset:=3,embedded:=Bool.false,tag:= "",pkgPath:= "",byteOffset:=24},{name:= "Due",type:=3,offset:=4,embedded:=Bool.false,tag:= "",pkgPath:= "",byteOffset:=32},{name:= "Service",type:=3,offset:=5,embedded:=Bool.false,tag:= "",pkgPath:= "",byteOffset:=40}],6,48,(Go.Value.agg #[Go.Value.int Go.IntKind.i64 0,Go.Value.int Go.IntKind.i64 0,Go.Value.int Go.IntKind.i64 0,Go.Value.int Go.IntKind.i64 0,Go.Value.int Go.IntKind.i64 0,Go.Value.int Go.IntKind.i64 0])⟩:=by kernel_rfl
theorem tt96:TT P 96=some ⟨Go.TypeDesc.slice 277,1,24,(Go.Value.slice Option.none 0 0)⟩:=by kernel_rfl
theorem tt105:TT P 105=some ⟨Go.TypeDesc.pointer 107,1,8,(Go.Value.pointer Option.none)⟩:=by kernel_rfl
theorem tt107:TT P 107=some ⟨Go.TypeDesc.struct #[{name:= "b",type:=22,offset:=0,embedded:=Bool.false,tag:= "",pkgPath:= "haulier/cert",byteOffset:=0},{name:= "e",type:=35,offset:=1,embedded:=Bool.false,tag:= "",pkgPath:= "haulier/cert",byteOffset:=24}],2,32,(Go.Value.agg #[Go.Value.slice Option.none 0 0,Go.Value.int Go.IntKind.i64 0])⟩:=by kernel_rfl
theorem tt112:TT P 112=some ⟨Go.TypeDesc.slice 123,1,24,(Go.Value.slice Option.none 0 0)⟩:=by kernel_rfl
theorem tt114:TT P 114=some ⟨Go.TypeDesc.struct #[{name:= "Layers",type:=112,offset:=0,embedded:=Bool.false,tag:= "",pkgPath:= "",byteOffset:=0}],1,24,(Go.Value.agg #[Go.Value.slice Option.none 0 0])⟩:=by kernel_rfl
theorem tt116:TT P 116=some ⟨Go.TypeDesc.pointer 118,1,8,(Go.Value.pointer Option.none)⟩:=by kernel_rfl
theorem tt118:TT P 118=some ⟨Go.TypeDesc.struct #[{name:= "x",type:=34,offset:=0,embedded:=Bool.false,tag:= "",pkgPath:= "haulier/proof",byteOffset:=0},{name:= "p",type:=46,offset:=4,embedded:=Bool.false,tag:= "",pkgPath:= "haulier/proof",byteOffset:=48},{name:= "deep",type:=68,offset:=6,embedded:=Bool.false,tag:= "",pkgPath:= "haulier/proof",byteOffset:=80}],7,104,(Go.Value.agg #[Go.Value.int Go.IntKind.i64 0,Go.Value.int Go.IntKind.i64 0,Go.Value.int Go.IntKind.i64 0,Go.Value.slice Option.none 0 0,Go.Value.int Go.IntKind.i64 0,Go.Value.slice Option.none 0 0,Go.Value.slice Option.none 0 0])⟩:=by kernel_rfl
theorem tt122:TT P 122=some ⟨Go.TypeDesc.struct #[{name:= "S",type:=67,offset:=0,embedded:=Bool.false,tag:= "",pkgPath:= "",byteOffset:=0},{name:= "Cost",type:=3,offset:=8,embedded:=Bool.false,tag:= "",pkgPath:= "",byteOffset:=64},{name:= "Part",type:=3,offset:=9,embedded:=Bool.false,tag:= "",pkgPath:= "",byteOffset:=72}],10,80,(Go.Value.agg #[Go.Value.int Go.IntKind.i64 0,Go.Value.int Go.IntKind.i64 0,Go.Value.int Go.IntKind.i64 0,Go.Value.int Go.IntKind.i64 0,Go.Value.int Go.IntKind.i64 0,Go.Value.int Go.IntKind.u64 0,Go.Value.int Go.IntKind.u64 0,Go.Value.int Go.IntKind.u64 0,Go.Value.int Go.IntKind.i64 0,Go.Value.int Go.IntKind.i64 0])⟩:=by kernel_rfl
theorem tt123:TT P 123=some ⟨Go.TypeDesc.slice 122,1,24,(Go.Value.slice Option.none 0 0)⟩:=by kernel_rfl
theorem tt157:TT P 157=some ⟨Go.TypeDesc.struct #[{name:= "b",type:=22,offset:=0,embedded:=Bool.false,tag:= "",pkgPath:= "haulier/cert",byteOffset:=0},{name:= "e",type:=35,offset:=1,embedded:=Bool.false,tag:= "",pkgPath:= "haulier/cert",byteOffset:=24}],2,32,(Go.Value.agg #[Go.Value.slice Option.none 0 0,Go.Value.int Go.IntKind.i64 0])⟩:=by kernel_rfl
theorem tt162:TT P 162=some ⟨Go.TypeDesc.struct #[{name:= "x",type:=34,offset:=0,embedded:=Bool.false,tag:= "",pkgPath:= "haulier/proof",byteOffset:=0},{name:= "r",type:=58,offset:=4,embedded:=Bool.false,tag:= "",pkgPath:= "haulier/proof",byteOffset:=48}],10,128,(Go.Value.agg #[Go.Value.int Go.IntKind.i64 0,Go.Value.int Go.IntKind.i64 0,Go.Value.int Go.IntKind.i64 0,Go.Value.slice Option.none 0 0,Go.Value.int Go.IntKind.i64 0,Go.Value.slice Option.none 0 0,Go.Value.int Go.IntKind.i64 0,Go.Value.int Go.IntKind.i64 0,Go.Value.int Go.IntKind.i64 0,Go.Value.slice Option.none 0 0])⟩:=by kernel_rfl
theorem tt171:TT P 171=some ⟨Go.TypeDesc.struct #[{name:= "b",type:=22,offset:=0,embedded:=Bool.false,tag:= "",pkgPath:= "haulier/scan",byteOffset:=0},{name:= "at",type:=3,offset:=1,embedded:=Bool.false,tag:= "",pkgPath:= "haulier/scan",byteOffset:=24}],2,32,(Go.Value.agg #[Go.Value.slice Option.none 0 0,Go.Value.int Go.IntKind.i64 0])⟩:=by kernel_rfl
theorem tt175:TT P 175=some ⟨Go.TypeDesc.array 6 3,6,48,(Go.Value.agg #[Go.Value.int Go.IntKind.i64 0,Go.Value.int Go.IntKind.i64 0,Go.Value.int Go.IntKind.i64 0,Go.Value.int Go.IntKind.i64 0,Go.Value.int Go.IntKind.i64 0,Go.Value.int Go.IntKind.i64 0])⟩:=by kernel_rfl
theorem tt180:TT P 180=some ⟨Go.TypeDesc.struct #[{name:= "Instance",type:=34,offset:=0,embedded:=Bool.true,tag:= "",pkgPath:= "",byteOffset:=0},{name:= "at",type:=3,offset:=4,embedded:=Bool.false,tag:= "",pkgPath:= "haulier/sched",byteOffset:=48},{name:= "now",type:=3,offset:=5,embedded:=Bool.false,tag:= "",pkgPath:= "haulier/sched",byteOffset:=56},{name:= "far",type:=3,offset:=6,embedded:=Bool.false,tag:= "",pkgPath:= "haulier/sched",byteOffset:=64},{name:= "load",type:=3,offset:=7,embedded:=Bool.false,tag:= "",pkgPath:= "haulier/sched",byteOffset:=72},{name:= "seen",type:=65,offset:=8,embedded:=Bool.false,tag:= "",pkgPath:= "haulier/sched",byteOffset:=80},{name:= "on",type:=65,offset:=9,embedded:=Bool.false,tag:= "",pkgPath:= "haulier/sched",byteOffset:=88},{name:= "times",type:=96,offset:=10,embedded:=Bool.false,tag:= "",pkgPath:= "haulier/sched",byteOffset:=96},{name:= "loads",type:=68,offset:=11,embedded:=Bool.false,tag:= "",pkgPath:= "haulier/sched",byteOffset:=120}],12,144,(Go.Value.agg #[Go.Value.int Go.IntKind.i64 0,Go.Value.int Go.IntKind.i64 0,Go.Value.int Go.IntKind.i64 0,Go.Value.slice Option.none 0 0,Go.Value.int Go.IntKind.i64 0,Go.Value.int Go.IntKind.i64 0,Go.Value.int Go.IntKind.i64 0,Go.Value.int Go.IntKind.i64 0,Go.Value.int Go.IntKind.u64 0,Go.Value.int Go.IntKind.u64 0,Go.Value.slice Option.none 0 0,Go.Value.slice Option.none 0 0])⟩:=by kernel_rfl
theorem tt187:TT P 187=some ⟨Go.TypeDesc.func #[122] #[4] Bool.false,1,8,Go.Value.nilFunc⟩:=by kernel_rfl
theorem tt192:TT P 192=some ⟨Go.TypeDesc.int Go.IntKind.u64,1,8,(Go.Value.int Go.IntKind.u64 0)⟩:=by kernel_rfl
theorem tt224:TT P 224=some ⟨Go.TypeDesc.struct #[{name:= "Instance",type:=34,offset:=0,embedded:=Bool.true,tag:= "",pkgPath:= "",byteOffset:=0},{name:= "s",type:=67,offset:=4,embedded:=Bool.false,tag:= "",pkgPath:= "haulier/state",byteOffset:=48}],12,112,(Go.Value.agg #[Go.Value.int Go.IntKind.i64 0,Go.Value.int Go.IntKind.i64 0,Go.Value.int Go.IntKind.i64 0,Go.Value.slice Option.none 0 0,Go.Value.int Go.IntKind.i64 0,Go.Value.int Go.IntKind.i64 0,Go.Value.int Go.IntKind.i64 0,Go.Value.int Go.IntKind.i64 0,Go.Value.int Go.IntKind.i64 0,Go.Value.int Go.IntKind.u64 0,Go.Value.int Go.IntKind.u64 0,Go.Value.int Go.IntKind.u64 0])⟩:=by kernel_rfl
theorem tt227:TT P 227=some ⟨Go.TypeDesc.array 3 65,3,24,(Go.Value.agg #[Go.Value.int Go.IntKind.u64 0,Go.Value.int Go.IntKind.u64 0,Go.Value.int Go.IntKind.u64 0])⟩:=by kernel_rfl
theorem tt239:TT P 239=some ⟨Go.TypeDesc.pointer 3,1,8,(Go.Value.pointer Option.none)⟩:=by kernel_rfl
theorem tt240:TT P 240=some ⟨Go.TypeDesc.array 5 239,5,40,(Go.Value.agg #[Go.Value.pointer Option.none,Go.Value.pointer Option.none,Go.Value.pointer Option.none,Go.Value.pointer Option.none,Go.Value.pointer Option.none])⟩:=by kernel_rfl
theorem tt241:TT P 241=some ⟨Go.TypeDesc.pointer 65,1,8,(Go.Value.pointer Option.none)⟩:=by kernel_rfl
theorem tt242:TT P 242=some ⟨Go.TypeDesc.array 3 241,3,24,(Go.Value.agg #[Go.Value.pointer Option.none,Go.Value.pointer Option.none,Go.Value.pointer Option.none])⟩:=by kernel_rfl
theorem tt277:TT P 277=some ⟨Go.TypeDesc.struct #[{name:= "Come",type:=3,offset:=0,embedded:=Bool.false,tag:= "",pkgPath:= "",byteOffset:=0},{name:= "Begin",type:=3,offset:=1,embedded:=Bool.false,tag:= "",pkgPath:= "",byteOffset:=8},{name:= "Leave",type:=3,offset:=2,embedded:=Bool.false,tag:= "",pkgPath:= "",byteOffset:=16}],3,24,(Go.Value.agg #[Go.Value.int Go.IntKind.i64 0,Go.Value.int Go.IntKind.i64 0,Go.Value.int Go.IntKind.i64 0])⟩:=by kernel_rfl
theorem tt296:TT P 296=some ⟨Go.TypeDesc.float Go.FloatKind.f64,1,8,(Go.Value.float Go.FloatKind.f64 0)⟩:=by kernel_rfl
attribute [go_sem] tt3 tt4 tt5 tt9 tt21 tt22 tt26 tt29 tt31 tt32 tt34 tt35 tt44 tt46 tt56 tt58 tt65 tt67 tt68 tt94 tt96 tt105 tt107 tt112 tt114 tt116 tt118 tt122 tt123 tt157 tt162 tt171 tt175 tt180 tt187 tt192 tt224 tt227 tt239 tt240 tt241 tt242 tt277 tt296
end Go.Proofs.YtackfabapangdaaGreat

set_option maxRecDepth 4000
namespace Go.Proofs.YtackfabapangdaaGreat
open Go Go.Proofs.YtackfabapangdaaGreat.R
def rowT (l:List Int):List T:=[.sl (ints l)]
theorem u64n (n:Nat) (h:n<18446744073709551616):IntKind.u64.wrap (n:Int)=n:=u64 _ (by omega)
theorem w64n (n:Nat) (h:n<9223372036854775808):IntKind.i64.wrap (n:Int)=n:=w64 _ (by omega)
def bitN (j:Int):Nat:=if 0≤j∧j≤63 then 2^j.toNat else 0
def hasB (s:Nat) (j:Int):Bool:=decide (0≤j∧j≤63)&&s.testBit j.toNat
theorem bitN_lt (j:Int):bitN j<2^64:=by
 unfold bitN;split
 ·exact Nat.pow_lt_pow_right (by decide) (by omega)
 ·decide
theorem bitN_nat {k:Nat} (h:k≤63):bitN k=2^k:=by rw [bitN,if_pos (by omega)];rfl
theorem bitN_out {j:Int} (h:j<0∨63<j):bitN j=0:=by rw [bitN,if_neg (by omega)]
theorem bandN {a b:Nat} (ha:a<2^64) (hb:b<2^64):band .u64 a b=((a&&&b:Nat):Int):=by
 show IntKind.u64.wrap ((BitVec.ofInt 64 a&&&BitVec.ofInt 64 b).toNat:Int)=_
 rw [BitVec.ofInt_natCast,BitVec.ofInt_natCast,BitVec.toNat_and,BitVec.toNat_ofNat,BitVec.toNat_ofNat,Nat.mod_eq_of_lt ha,Nat.mod_eq_of_lt hb]
 have h3:a&&&b<2^64:=Nat.and_lt_two_pow a hb
 exact u64 _ (by omega)
theorem borN {a b:Nat} (ha:a<2^64) (hb:b<2^64):bor .u64 a b=((a|||b:Nat):Int):=by
 show IntKind.u64.wrap ((BitVec.ofInt 64 a|||BitVec.ofInt 64 b).toNat:Int)=_
 rw [BitVec.ofInt_natCast,BitVec.ofInt_natCast,BitVec.toNat_or,BitVec.toNat_ofNat,BitVec.toNat_ofNat,Nat.mod_eq_of_lt ha,Nat.mod_eq_of_lt hb]
 have h3:a|||b<2^64:=Nat.or_lt_two_pow ha hb
 exact u64 _ (by omega)
theorem and_two (s k:Nat):(s&&&2^k=0)↔s.testBit k=false:=by
 constructor
 ·intro h
  have:=congrArg (fun x=>x.testBit k) h
  simpa [Nat.testBit_and,Nat.testBit_two_pow_self] using this
 ·intro h
  refine Nat.eq_of_testBit_eq fun i=>?_
  rw [Nat.testBit_and,Nat.zero_testBit,Nat.testBit_two_pow]
  by_cases e:k=i
  ·subst e;simp [h]
  ·simp [e]
theorem bit_pure (j:Int):Pure P 232 [.i j] (.u (bitN j)):=by
 refine pure_of Tryz.func232 rfl rfl (by simp [Tryz.f232]) (by simp [bnd,bnd.bndL]) (by simp [bnd]) fun B hB hnx=>?_
 simp only [Tryz.f232] at hB ⊢
 by_cases h1:j<0
 ·rw [bitN_out (.inl h1)]
  refine K_run hB 60 ?_
  simp [go_sem,h1]
 by_cases h2:63<j
 ·rw [bitN_out (.inr h2)]
  refine K_run hB 60 ?_
  simp [go_sem,h1,h2]
 obtain ⟨k,rfl⟩:∃k:Nat,j=k:=⟨j.toNat,by omega⟩
 have hk:k≤63:=by omega
 have hmin:min k 64=k:=by omega
 rw [bitN_nat hk]
 refine K_run hB 60 ?_
 simp [go_sem,h1,h2,hmin]
 have:2^k<2^64:=Nat.pow_lt_pow_right (by decide) (by omega)
 have h3:((2^k:Nat):Int)=(2:Int)^k:=by rw [Int.natCast_pow];rfl
 rw [←h3]
 exact u64n _ this
theorem has_pure (s:Nat) (j:Int) (hs:s<2^64):Pure P 193 [.u s,.i j] (.b (hasB s j)):=by
 refine pure_of Tryz.func193 rfl rfl (by simp [Tryz.f193]) (by simp [bnd,bnd.bndL]) (by simp [bnd]) fun B hB hnx=>?_
 simp only [Tryz.f193] at hB ⊢
 refine K_run hB 60 ?_
 simp [go_sem]
 refine K_call rfl rfl rfl (args:=[.i j]) (f:=232) (by simp [go_sem]) (by simp [go_sem,hB]) ((bit_pure j).spec _ _) ?_
 refine K_run hB 60 ?_
 simp [go_sem,bandN hs (bitN_lt j)]
 rw [hasB]
 by_cases h:0≤j∧j≤63
 ·obtain ⟨k,rfl⟩:∃k:Nat,j=k:=⟨j.toNat,by omega⟩
  have e0:s&&&bitN (k:Int)=0↔s.testBit k=false:=by
   rw [bitN_nat (by omega)]
   exact and_two s k
  simp only [h,and_self,decide_true,Bool.true_and,Int.toNat_natCast]
  cases hb:s.testBit k
  ·simp [e0.2 hb]
  ·have:¬s&&&bitN (k:Int)=0:=fun h=>by rw [e0.1 h] at hb;cases hb
   simp [this]
 ·rw [bitN_out (by omega)]
  simp [h]
end Go.Proofs.YtackfabapangdaaGreat

set_option maxRecDepth 4000
namespace Go.Proofs.YtackfabapangdaaGreat
open Go Go.Proofs.YtackfabapangdaaGreat.R
def sum1 (a n:Int):Int:=min (a+min (max n 0) 1152921504606846976) 1152921504606846976
def sumI (l:List Int):Int:=l.foldl sum1 0
theorem sum1_in {a:Int} (h:0≤a∧a≤1152921504606846976) (n:Int):0≤sum1 a n∧sum1 a n≤1152921504606846976:=by unfold sum1;omega
theorem sum_pure (l:List Int) (hl:l.length<2^63):Pure P 87 [.t (.sl (ints l))] (.i (sumI l)):=by
 refine pure_of Tryz.func87 rfl rfl (by simp [Tryz.f87]) (by simp [bnd,bnd.bndL]) (by simp [bnd]) fun B hB hnx=>?_
 simp only [Tryz.f87] at hB ⊢
 refine K_run hB 60 ?_
 simp [go_sem]
 refine K_loopP (α:=Nat×Int) (fun (k,a)=>k≤l.length∧(0≤a∧a≤1152921504606846976)∧(l.drop k).foldl sum1 a=sumI l) (fun (k,a)=>⟨sl [(6,.t (.sl (ints l))),(7,.i l.length),(8,.i k),(3,.i a)],noObj,0⟩) (fun x=>l.length-x.1) (0,0) ⟨Nat.zero_le _,by omega,rfl⟩ (Imp.slots (by simp [go_sem,ints]) rfl rfl) ?_
 rintro ⟨k,a⟩ ⟨h1,h2,h3⟩
 refine K_run hB 60 ?_
 simp [go_sem]
 refine fork_dec (fun h=>?_) (fun h=>?_)
 ·rw [List.drop_eq_getElem_cons h,List.foldl_cons] at h3
  have hs:=sum1_in h2 l[k]
  simp [go_sem,ints,h]
  refine Next.mk (k+1,sum1 a l[k]) ⟨by omega,hs,h3⟩ (Imp.slots (by
   simp [go_sem,ints,sum1]
   rw [w64 ((k:Int)+1) (by omega),w64 (a+min (max l[k] 0) 1152921504606846976) (by omega)]
   simp) rfl rfl) (by simp only;omega)
 ·have:k=l.length:=by omega
  subst this
  simp [go_sem]
  simpa using h3
def rootL (m:Nat):Nat→Nat→Nat
 |0,r=>r
 |k+1,r=>rootL m k (if (r+2^k)*(r+2^k)<m then r+2^k else r)
theorem rootL_spec (m:Nat):∀k r,r*r<m→m≤(r+2^k)*(r+2^k)→rootL m k r*rootL m k r<m∧m≤(rootL m k r+1)*(rootL m k r+1)
 |0,r,h1,h2=>⟨h1,h2⟩
 |k+1,r,h1,h2=>by
  rw [rootL]
  by_cases h:(r+2^k)*(r+2^k)<m
  ·rw [if_pos h]
   refine rootL_spec m k _ h ?_
   have e:r+2^k+2^k=r+2^(k+1):=by rw [Nat.pow_succ];omega
   rw [e];exact h2
  ·rw [if_neg h]
   exact rootL_spec m k r h1 (by omega)
theorem rootL_lt (m:Nat):∀k r,rootL m k r<r+2^k
 |0,r=>by simp [rootL]
 |k+1,r=>by
  rw [rootL]
  have e:r+2^k+2^k=r+2^(k+1):=by rw [Nat.pow_succ];omega
  have:=Nat.two_pow_pos k
  split
  ·have:=rootL_lt m k (r+2^k);omega
  ·have:=rootL_lt m k r;omega
def rootI (n:Int):Int:=if n≤0 then 0 else ((rootL (min n 1152921504606846976).toNat 31 0+1:Nat):Int)
theorem root_pure (n:Int):Pure P 243 [.i n] (.i (rootI n)):=by
 refine pure_of Tryz.func243 rfl rfl (by simp [Tryz.f243]) (by simp [bnd,bnd.bndL]) (by simp [bnd]) fun B hB hnx=>?_
 simp only [Tryz.f243] at hB ⊢
 obtain ⟨m,hm⟩:∃m:Nat,m=(min (max n 0) 1152921504606846976).toNat:=⟨_,rfl⟩
 have hmi:min (max n 0) 1152921504606846976=(m:Int):=by omega
 have hm60:m≤1152921504606846976:=by omega
 refine K_run hB 60 ?_
 simp [go_sem]
 refine K_scopeP (α:=Nat×Nat) 0 (fun (k,r)=>k≤30∧r+2^(k+1)≤2147483648∧rootL m (k+1) r=rootL m 31 0) (fun (k,r)=>⟨sl [(0,.i m),(3,.i r),(4,.i (2^k:Nat))],noObj,0⟩) (fun x=>x.1) rfl ?_ ?_
 ·have f0:¬(1152921504606846976:Int)<m:=by omega
  have f1:=w64 1073741824 (by omega)
  have f2:=w64 1152921504606846976 (by omega)
  refine K_run hB 60 ?_
  simp [go_sem,hmi,f1,f2,f0]
  refine ⟨29,0,⟨by omega,by omega,?_⟩,Imp.slots (by simp [go_sem]) rfl rfl⟩
  have e:rootL m 31 0=rootL m 30 (if (0+2^30)*(0+2^30)<m then 0+2^30 else 0):=rfl
  rw [e,if_neg (by simp;omega)]
 ·rintro ⟨k,r⟩ ⟨h1,h2,h3⟩
  obtain ⟨x,hx⟩:∃x,x=r+2^k:=⟨_,rfl⟩
  have hp:=Nat.two_pow_pos k
  have e2:r+2^k+2^k=r+2^(k+1):=by rw [Nat.pow_succ];omega
  have hxx:x*x≤2147483648*2147483648:=Nat.mul_le_mul (by omega) (by omega)
  have hcast:(r:Int)+2^k=(x:Int):=by rw [hx,Int.natCast_add,Int.natCast_pow];rfl
  have f1:IntKind.i64.wrap (x:Int)=x:=w64n x (by omega)
  have f2:IntKind.i64.wrap ((x:Int)*x)=((x*x:Nat):Int):=by rw [←Int.natCast_mul];exact w64n _ (by omega)
  rw [rootL] at h3
  rw [←hx] at h3
  have hend:∀r',rootL m 0 r'=rootL m 31 0→(if 0<m then ((r':Int)+1) else (r':Int))=rootI n:=fun r' hr=>by
   have hr':r'=rootL m 31 0:=hr
   by_cases hm0:0<m
   ·rw [if_pos hm0,rootI,if_neg (by omega)]
    have e:(min n 1152921504606846976).toNat=m:=by omega
    rw [e,hr'];rfl
   ·have e0:m=0:=by omega
    rw [if_neg hm0,rootI,if_pos (by omega),hr',e0]
    decide
  have hrr:r<2147483648:=by omega
  have hxr:x≤2147483648:=by omega
  have fx1:=w64 ((x:Int)+1) (by omega)
  have fr1:=w64 ((r:Int)+1) (by omega)
  by_cases hlt:x*x<m
  ·rw [if_pos hlt] at h3
   have hlt':(x:Int)*x<m:=by omega
   rcases k with _ | j
   ·have he:=hend x h3
    have hc0:(r:Int)+1=x:=by rw [hx];rfl
    have hm0:0<m:=by omega
    rw [if_pos hm0] at he
    rw [←he]
    refine K_run hB 60 ?_
    simp [go_sem,hc0,f1,f2,hlt',hm0,fx1]
   ·have f3:Int.fdiv (2^(j+1)) 2=2^j:=by rw [Int.pow_succ,Int.mul_fdiv_cancel _ (by decide)]
    have f4:(0:Int)<2^j:=Int.pow_pos (by decide)
    refine K_run hB 60 ?_
    simp [go_sem,hcast,f1,f2,hlt',f3,f4]
    refine Next.mk (j,x) ⟨by omega,by simp only;omega,h3⟩ (Imp.slots (by simp [go_sem]) rfl rfl) (by simp)
  ·rw [if_neg hlt] at h3
   have hlt':¬(x:Int)*x<m:=by omega
   rcases k with _ | j
   ·have he:=hend r h3
    have hc0:(r:Int)+1=x:=by rw [hx];rfl
    by_cases hm0:0<m
    ·rw [if_pos hm0,hc0] at he
     rw [←he]
     refine K_run hB 60 ?_
     simp [go_sem,hc0,f1,f2,hlt',hm0]
    ·rw [if_neg hm0] at he
     rw [←he]
     refine K_run hB 60 ?_
     simp [go_sem,hc0,f1,f2,hlt',hm0]
   ·have f3:Int.fdiv (2^(j+1)) 2=2^j:=by rw [Int.pow_succ,Int.mul_fdiv_cancel _ (by decide)]
    have f4:(0:Int)<2^j:=Int.pow_pos (by decide)
    refine K_run hB 60 ?_
    simp [go_sem,hcast,f1,f2,hlt',f3,f4]
    refine Next.mk (j,r) ⟨by omega,by simp only;omega,h3⟩ (Imp.slots (by simp [go_sem]) rfl rfl) (by simp)
end Go.Proofs.YtackfabapangdaaGreat

set_option maxRecDepth 4000
namespace Go.Proofs.YtackfabapangdaaGreat
open Go Go.Proofs.YtackfabapangdaaGreat.R
def andN (a b:Nat):Nat:=(BitVec.ofNat 64 a&&&~~~ BitVec.ofNat 64 b).toNat
theorem andN_lt (a b:Nat):andN a b<2^64:=BitVec.isLt _
theorem bandnN {a b:Nat}:bandn .u64 a b=((andN a b:Nat):Int):=by
 show IntKind.u64.wrap ((BitVec.ofInt 64 a&&&~~~ BitVec.ofInt 64 b).toNat:Int)=_
 rw [BitVec.ofInt_natCast,BitVec.ofInt_natCast]
 exact u64n _ (andN_lt a b)
theorem andN_bit (a b i:Nat):(andN a b).testBit i=(decide (i<64)&&(a.testBit i&& !b.testBit i)):=by
 unfold andN
 rw [BitVec.testBit_toNat,BitVec.getLsbD_and,BitVec.getLsbD_not,BitVec.getLsbD_ofNat,BitVec.getLsbD_ofNat]
 cases decide (i<64)<;>cases a.testBit i<;>cases b.testBit i<;>rfl
def withN (s:Nat) (j:Int):Nat:=s|||bitN j
def withoutN (s:Nat) (j:Int):Nat:=andN s (bitN j)
def withinB (s t:Nat):Bool:=(List.range 64).all fun i=>!s.testBit i||t.testBit i
theorem withN_lt {s:Nat} (h:s<2^64) (j:Int):withN s j<2^64:=Nat.or_lt_two_pow h (bitN_lt j)
theorem withoutN_lt (s:Nat) (j:Int):withoutN s j<2^64:=andN_lt _ _
theorem within_iff {s t:Nat}:andN s t=0↔withinB s t=true:=by
 unfold withinB
 rw [List.all_eq_true]
 constructor
 ·intro h i hi
  have h1:=andN_bit s t i
  rw [h,Nat.zero_testBit,decide_eq_true (List.mem_range.1 hi)] at h1
  revert h1
  cases s.testBit i<;>cases t.testBit i<;>simp
 ·intro h
  refine Nat.eq_of_testBit_eq fun i=>?_
  rw [andN_bit,Nat.zero_testBit]
  by_cases hi:i<64
  ·have:=h i (List.mem_range.2 hi)
   revert this
   cases s.testBit i<;>cases t.testBit i<;>simp
  ·simp [hi]
theorem with_pure (s:Nat) (j:Int) (hs:s<2^64):Pure P 210 [.u s,.i j] (.u (withN s j)):=by
 refine pure_of Tryz.func210 rfl rfl (by simp [Tryz.f210]) (by simp [bnd,bnd.bndL]) (by simp [bnd]) fun B hB hnx=>?_
 simp only [Tryz.f210] at hB ⊢
 refine K_run hB 60 ?_
 simp [go_sem]
 refine K_call rfl rfl rfl (args:=[.i j]) (f:=232) (by simp [go_sem]) (by simp [go_sem,hB]) ((bit_pure j).spec _ _) ?_
 refine K_run hB 60 ?_
 simp [go_sem,borN hs (bitN_lt j),withN]
theorem without_pure (s:Nat) (j:Int):Pure P 211 [.u s,.i j] (.u (withoutN s j)):=by
 refine pure_of Tryz.func211 rfl rfl (by simp [Tryz.f211]) (by simp [bnd,bnd.bndL]) (by simp [bnd]) fun B hB hnx=>?_
 simp only [Tryz.f211] at hB ⊢
 refine K_run hB 60 ?_
 simp [go_sem]
 refine K_call rfl rfl rfl (args:=[.i j]) (f:=232) (by simp [go_sem]) (by simp [go_sem,hB]) ((bit_pure j).spec _ _) ?_
 refine K_run hB 60 ?_
 simp [go_sem,bandnN,withoutN]
theorem within_pure (s t:Nat):Pure P 212 [.u s,.u t] (.b (withinB s t)):=by
 refine pure_of Tryz.func212 rfl rfl (by simp [Tryz.f212]) (by simp [bnd,bnd.bndL]) (by simp [bnd]) fun B hB hnx=>?_
 simp only [Tryz.f212] at hB ⊢
 refine K_run hB 60 ?_
 simp [go_sem,bandnN]
 by_cases h:andN s t=0
 ·rw [within_iff.1 h];simp [h]
 ·have:withinB s t=false:=by
   cases hw:withinB s t
   ·rfl
   ·exact absurd (within_iff.2 hw) h
  simp [h,this]
theorem has_nat {s i:Nat} (h:i<64):hasB s (i:Int)=s.testBit i:=by simp [hasB];omega
def uptoL:Nat→Nat
 |0=>0
 |k+1=>uptoL k|||2^(k+1)
def uptoN (n:Int):Nat:=uptoL (min (max n 0) 63).toNat
theorem uptoL_lt:∀k,k≤63→uptoL k<2^64
 |0,_=>by decide
 |k+1,h=>Nat.or_lt_two_pow (uptoL_lt k (by omega)) (Nat.pow_lt_pow_right (by decide) (by omega))
theorem upto_pure (n:Int):Pure P 213 [.i n] (.u (uptoN n)):=by
 refine pure_of Tryz.func213 rfl rfl (by simp [Tryz.f213]) (by simp [bnd,bnd.bndL]) (by simp [bnd]) fun B hB hnx=>?_
 simp only [Tryz.f213] at hB ⊢
 obtain ⟨m,hm⟩:∃m:Nat,m=(min (max n 0) 63).toNat:=⟨_,rfl⟩
 have hmi:min (max n 0) 63=(m:Int):=by omega
 have hm63:m≤63:=by omega
 have hu:uptoN n=uptoL m:=by rw [uptoN,←hm]
 rw [hu]
 refine K_run hB 60 ?_
 simp [go_sem,hmi]
 refine K_loopP (α:=Nat) (fun i=>i≤m) (fun i=>⟨sl [(0,.i m),(8,.i m),(9,.i i),(3,.u (uptoL i))],noObj,0⟩) (fun i=>m-i) 0 (Nat.zero_le _) (Imp.slots (by simp [go_sem,uptoL]) rfl rfl) ?_
 intro i hi
 refine K_run hB 60 ?_
 simp [go_sem]
 refine fork_dec (fun h=>?_) (fun h=>?_)
 ·have hii:IntKind.i64.wrap ((i:Int)+1)=((i+1:Nat):Int):=by rw [w64 ((i:Int)+1) (by omega)];rfl
  simp [go_sem,hii]
  refine K_call rfl rfl rfl (args:=[.i ((i+1:Nat):Int)]) (f:=232) (by simp [go_sem]) (by simp [go_sem,hB]) ((bit_pure _).spec _ _) ?_
  have hb:=bitN_nat (k:=i+1) (by omega)
  rw [hb]
  have hor:bor .u64 (uptoL i) ((2^(i+1):Nat):Int)=((uptoL (i+1):Nat):Int):=borN (uptoL_lt i (by omega)) (Nat.pow_lt_pow_right (by decide) (by omega))
  generalize 2^(i+1)=b at *
  refine K_run hB 60 ?_
  simp [go_sem,hii,hor]
  exact Next.mk (i+1) (by omega) (Imp.slots (by simp [go_sem]) rfl rfl) (by omega)
 ·have:i=m:=by omega
  subst this
  simp [go_sem]
end Go.Proofs.YtackfabapangdaaGreat

set_option maxRecDepth 4000
namespace Go.Proofs.YtackfabapangdaaGreat
open Go Go.Proofs.YtackfabapangdaaGreat.R
structure Stop where
 x:Int
 y:Int
 demand:Int
 ready:Int
 due:Int
 service:Int
structure Inst where
 pairs:Int
 cars:Int
 room:Int
 stops:List Stop
def Stop.t (s:Stop):List T:=[.i s.x,.i s.y,.i s.demand,.i s.ready,.i s.due,.i s.service]
def Inst.a (x:Inst):AV:=.agg [.t (.i x.pairs),.t (.i x.cars),.t (.i x.room),.t (.sl (x.stops.map Stop.t))]
def inB (lo hi n:Int):Bool:=decide (lo≤n)&&decide (n≤hi)
def Inst.stopB (x:Inst) (k:Nat) (s:Stop):Bool:=
 ((inB 0 10000 s.x&&inB 0 10000 s.y)&&(inB 0 1048576 s.ready&&inB 0 1048576 s.due)&&decide (s.ready≤s.due)&&inB 0 1000 s.service)&&
 (if k=0 then decide (s.demand=0)&&decide (s.service=0)
  else if (k:Int)≤x.pairs then inB 1 1000 s.demand
  else decide (s.demand=IntKind.i64.wrap (-(x.stops.getD (k-x.pairs.toNat) ⟨0,0,0,0,0,0⟩).demand)))
def allFrom {α:Type} (f:Nat→α→Bool):Nat→List α→Bool
 |_,[]=>true
 |k,a :: l=>f k a&&allFrom f (k+1) l
def Inst.may (x:Inst):Bool:=inB 0 16 x.pairs&&inB 1 8 x.cars&&inB 1 1000 x.room&&decide ((x.stops.length:Int)=2*x.pairs+1)&&allFrom x.stopB 0 x.stops
theorem allFrom_drop {α:Type} {f:Nat→α→Bool} {l:List α} {k:Nat} (h:k<l.length):allFrom f k (l.drop k)=(f k l[k]&&allFrom f (k+1) (l.drop (k+1))):=by rw [List.drop_eq_getElem_cons h];rfl
theorem between_pure (lo hi:Int) (l:List Int) (hl:l.length<2^63):Pure P 85 [.i lo,.i hi,.t (.sl (ints l))] (.b (l.all (inB lo hi))):=by
 refine pure_of Tryz.func85 rfl rfl (by simp [Tryz.f85]) (by simp [bnd,bnd.bndL]) (by simp [bnd]) fun B hB hnx=>?_
 simp only [Tryz.f85] at hB ⊢
 generalize hR:l.all (inB lo hi)=r
 refine K_run hB 60 ?_
 simp [go_sem]
 refine K_loopP (α:=Nat) (fun k=>k≤l.length∧(l.drop k).all (inB lo hi)=r) (fun k=>⟨sl [(0,.i lo),(1,.i hi),(9,.t (.sl (ints l))),(10,.i l.length),(11,.i k)],noObj,0⟩) (fun k=>l.length-k) 0 ⟨Nat.zero_le _,hR⟩ (Imp.slots (by simp [go_sem,ints]) rfl rfl) ?_
 rintro k ⟨h1,h3⟩
 refine K_run hB 60 ?_
 simp [go_sem]
 refine fork_dec (fun h=>?_) (fun h=>?_)
 ·rw [List.drop_eq_getElem_cons h,List.all_cons] at h3
  have hk:IntKind.i64.wrap ((k:Int)+1)=((k+1:Nat):Int):=by rw [w64 ((k:Int)+1) (by omega)];rfl
  generalize hn:l[k]=n at *
  by_cases g1:n<lo
  ·have:r=false:=by rw [←h3];simp [inB];omega
   simp [go_sem,ints,h,hn,g1,this]
  ·by_cases g2:hi<n
   ·have:r=false:=by rw [←h3];simp [inB];omega
    simp [go_sem,ints,h,hn,g1,g2,this]
   ·have e:inB lo hi n=true:=by simp [inB];omega
    rw [e,Bool.true_and] at h3
    simp [go_sem,ints,h,hn,g1,g2,hk]
    exact Next.mk (k+1) ⟨by omega,h3⟩ (Imp.slots (by simp [go_sem,ints]) rfl rfl) (by omega)
 ·have:k=l.length:=by omega
  subst this
  simp at h3
  simp [go_sem,h3]
theorem may_pure (x:Inst) (hl:x.stops.length<2^63):Pure P 33 [x.a] (.b x.may):=by
 refine pure_of Tryz.func33 rfl rfl (by simp [Tryz.f33]) (by simp [bnd,bnd.bndL,Inst.a]) (by simp [bnd]) fun B hB hnx=>?_
 simp only [Tryz.f33] at hB ⊢
 generalize hR:x.may=r
 refine K_run hB 60 ?_
 simp [go_sem,Inst.a]
 refine K_call rfl rfl rfl (args:=[.i 0,.i 16,.fsl (ints [x.pairs])]) (f:=85) (by simp [go_sem,ints]) (by simp [go_sem,hB]) (CallSpec.loose ((between_pure 0 16 [x.pairs] (by simp)).spec _ _)) ?_
 simp only [List.all_cons,List.all_nil,Bool.and_true]
 by_cases h1:inB 0 16 x.pairs=true
 rotate_left
 ·have h1':inB 0 16 x.pairs=false:=by simpa using h1
  have:r=false:=by rw [←hR,Inst.may,h1'];rfl
  refine K_run hB 60 ?_
  simp [go_sem,h1',this]
 refine K_run hB 60 ?_
 simp [go_sem,h1]
 refine K_call rfl rfl rfl (args:=[.i 1,.i 8,.fsl (ints [x.cars])]) (f:=85) (by simp [go_sem,ints]) (by simp [go_sem,hB]) (CallSpec.loose ((between_pure 1 8 [x.cars] (by simp)).spec _ _)) ?_
 simp only [List.all_cons,List.all_nil,Bool.and_true]
 by_cases h2:inB 1 8 x.cars=true
 rotate_left
 ·have h1':inB 1 8 x.cars=false:=by simpa using h2
  have:r=false:=by rw [←hR,Inst.may,h1'];simp
  refine K_run hB 60 ?_
  simp [go_sem,h1',this]
 refine K_run hB 60 ?_
 simp [go_sem,h2]
 refine K_call rfl rfl rfl (args:=[.i 1,.i 1000,.fsl (ints [x.room])]) (f:=85) (by simp [go_sem,ints]) (by simp [go_sem,hB]) (CallSpec.loose ((between_pure 1 1000 [x.room] (by simp)).spec _ _)) ?_
 simp only [List.all_cons,List.all_nil,Bool.and_true]
 by_cases h3:inB 1 1000 x.room=true
 rotate_left
 ·have h1':inB 1 1000 x.room=false:=by simpa using h3
  have:r=false:=by rw [←hR,Inst.may,h1'];simp
  refine K_run hB 60 ?_
  simp [go_sem,h1',this]
 have hp1:0≤x.pairs∧x.pairs≤16:=by simpa [inB] using h1
 obtain ⟨p,hp⟩:∃p:Nat,x.pairs=p:=⟨x.pairs.toNat,by omega⟩
 have w1:=w64 (2*(p:Int)) (by omega)
 have w2:=w64 (2*(p:Int)+1) (by omega)
 by_cases h4:(x.stops.length:Int)=2*p+1
 rotate_left
 ·have:r=false:=by rw [←hR,Inst.may,hp];simp [h4]
  refine K_run hB 60 ?_
  simp [go_sem,h3,hp,w1,w2,h4,this]
 refine K_run hB 60 ?_
 simp [go_sem,h3,hp,w1,w2,h4]
 have hsum:allFrom x.stopB 0 x.stops=r:=by rw [←hR,Inst.may,hp,h2,h3,←hp,h1,hp];simp [h4]
 have lenp:x.stops.length=2*p+1:=by omega
 refine K_loopP (α:=Nat) (fun k=>k≤x.stops.length∧allFrom x.stopB k (x.stops.drop k)=r) (fun k=>⟨sl [(1,.ptr 0 0),(35,.t (.sl (x.stops.map Stop.t))),(36,.i x.stops.length),(37,.i k)],ob [(0,.box [.t (.i p),.t (.i x.cars),.t (.i x.room),.t (.sl (x.stops.map Stop.t))])],1⟩) (fun k=>x.stops.length-k) 0 ⟨Nat.zero_le _,hsum⟩ (Sub.of (by omega) (by simp) (by simp [go_sem,h4]) (by simp [go_sem,hp])) ?_
 rintro k ⟨g1,g3⟩
 refine K_run hB 60 ?_
 simp [go_sem]
 refine fork_dec (fun h=>?_) (fun h=>?_)
 rotate_left
 ·have:k=x.stops.length:=by omega
  subst this
  simp [allFrom] at g3
  simp [go_sem,g3]
 rw [allFrom_drop h] at g3
 have hkk:IntKind.i64.wrap ((k:Int)+1)=((k+1:Nat):Int):=by rw [w64 ((k:Int)+1) (by omega)];rfl
 generalize hs:x.stops[k]=s at *
 simp [go_sem,h,hs,Stop.t]
 refine K_call rfl rfl rfl (args:=[.i 0,.i 10000,.fsl (ints [s.x,s.y])]) (f:=85) (by simp [go_sem,ints]) (by simp [go_sem,hB]) (CallSpec.loose ((between_pure 0 10000 [s.x,s.y] (by simp)).spec _ _)) ?_
 simp only [List.all_cons,List.all_nil,Bool.and_true]
 by_cases c1:(inB 0 10000 s.x&&inB 0 10000 s.y)=true
 rotate_left
 ·have c1':(inB 0 10000 s.x&&inB 0 10000 s.y)=false:=by simpa using c1
  have:r=false:=by rw [←g3,Inst.stopB,c1'];simp
  rw [c1']
  refine K_run hB 60 ?_
  simp [go_sem,this]
 rw [c1]
 refine K_run hB 60 ?_
 simp [go_sem]
 refine K_call rfl rfl rfl (args:=[.i 0,.i 1048576,.fsl (ints [s.ready,s.due])]) (f:=85) (by simp [go_sem,ints]) (by simp [go_sem,hB]) (CallSpec.loose ((between_pure 0 1048576 [s.ready,s.due] (by simp)).spec _ _)) ?_
 simp only [List.all_cons,List.all_nil,Bool.and_true]
 by_cases c2:(inB 0 1048576 s.ready&&inB 0 1048576 s.due)=true
 rotate_left
 ·have c1':(inB 0 1048576 s.ready&&inB 0 1048576 s.due)=false:=by simpa using c2
  have:r=false:=by rw [←g3,Inst.stopB,c1,c1'];simp
  rw [c1']
  refine K_run hB 60 ?_
  simp [go_sem,this]
 rw [c2]
 by_cases c3:s.due<s.ready
 ·have c3':¬s.ready≤s.due:=by omega
  have:r=false:=by rw [←g3,Inst.stopB,c1,c2];simp [c3']
  refine K_run hB 60 ?_
  simp [go_sem,this,c3]
 have c3':s.ready≤s.due:=by omega
 refine K_run hB 60 ?_
 simp [go_sem,c3]
 refine K_call rfl rfl rfl (args:=[.i 0,.i 1000,.fsl (ints [s.service])]) (f:=85) (by simp [go_sem,ints]) (by simp [go_sem,hB]) (CallSpec.loose ((between_pure 0 1000 [s.service] (by simp)).spec _ _)) ?_
 simp only [List.all_cons,List.all_nil,Bool.and_true]
 by_cases c4:inB 0 1000 s.service=true
 rotate_left
 ·have c1':inB 0 1000 s.service=false:=by simpa using c4
  have:r=false:=by rw [←g3,Inst.stopB,c1'];simp
  rw [c1']
  refine K_run hB 60 ?_
  simp [go_sem,this]
 rw [c4]
 rw [Inst.stopB,c1,c2,c4,hp] at g3
 simp only [c3',decide_true,Bool.true_and,Bool.and_true] at g3
 by_cases k0:k=0
 ·subst k0
  rw [if_pos rfl] at g3
  by_cases d1:s.demand=0
  ·by_cases d2:s.service=0
   ·simp only [d1,d2,decide_true,Bool.true_and] at g3
    refine K_run hB 100 ?_
    simp [go_sem,d1,d2]
    exact Next.mk 1 ⟨by omega,g3⟩ (Sub.of (by omega) (by simp) (by simp [go_sem,h4,w64 1 (by omega)]) (by simp [go_sem])) (by omega)
   ·have:r=false:=by rw [←g3];simp [d2]
    refine K_run hB 100 ?_
    simp [go_sem,d1,d2,this]
  ·have:r=false:=by rw [←g3];simp [d1]
   refine K_run hB 100 ?_
   simp [go_sem,d1,this]
 rw [if_neg k0] at g3
 have k0':¬(k:Int)=0:=by omega
 by_cases kp:(k:Int)≤p
 ·rw [if_pos kp] at g3
  refine K_run hB 100 ?_
  simp [go_sem,k0,k0',kp]
  refine K_call rfl rfl rfl (args:=[.i 1,.i 1000,.fsl (ints [s.demand])]) (f:=85) (by simp [go_sem,ints]) (by simp [go_sem,hB]) (CallSpec.loose ((between_pure 1 1000 [s.demand] (by simp)).spec _ _)) ?_
  simp only [List.all_cons,List.all_nil,Bool.and_true]
  by_cases c5:inB 1 1000 s.demand=true
  ·rw [c5,Bool.true_and] at g3
   rw [c5]
   refine K_run hB 100 ?_
   simp [go_sem,hkk]
   exact Next.mk (k+1) ⟨by omega,g3⟩ (Sub.of (by omega) (by simp) (by simp [go_sem,h4]) (by simp [go_sem])) (by omega)
  ·have c1':inB 1 1000 s.demand=false:=by simpa using c5
   have:r=false:=by rw [←g3,c1'];rfl
   rw [c1']
   refine K_run hB 60 ?_
   simp [go_sem,this]
 ·rw [if_neg kp] at g3
  have hi:k-p<x.stops.length:=by omega
  have e1:(p:Int).toNat=p:=Int.toNat_natCast p
  have e2:x.stops.getD (k-p) ⟨0,0,0,0,0,0⟩=x.stops[k-p]:=by simp [List.getD_eq_getElem?_getD,List.getElem?_eq_getElem hi]
  rw [e1,e2] at g3
  have w3:IntKind.i64.wrap ((k:Int)-p)=((k-p:Nat):Int):=by rw [w64 ((k:Int)-p) (by omega)];omega
  refine K_run hB 100 ?_
  simp [go_sem,k0,k0',kp]
  refine K_drawn [] rfl (by rw [hB];kernel_rfl) ?_
  by_cases c5:s.demand=IntKind.i64.wrap (-x.stops[k-p].demand)
  ·simp only [c5,decide_true,Bool.true_and] at g3
   refine K_run hB 100 ?_
   simp [go_sem,w3,hi,Stop.t,c5,hkk]
   exact Next.mk (k+1) ⟨by omega,g3⟩ (Sub.of (by omega) (by simp) (by simp [go_sem,h4]) (by simp [go_sem])) (by omega)
  ·have:r=false:=by rw [←g3];simp [c5]
   refine K_run hB 100 ?_
   simp [go_sem,w3,hi,Stop.t,this,c5]
end Go.Proofs.YtackfabapangdaaGreat

set_option maxRecDepth 4000
namespace Go.Proofs.YtackfabapangdaaGreat
open Go Go.Proofs.YtackfabapangdaaGreat.R
def clip (n:Int):Int:=min (max n 0) 10000
theorem clip_in (n:Int):0≤clip n∧clip n≤10000:=by unfold clip;omega
def fl (n:Int):Nat:=FloatKind.nearest .f64 (clip n)
theorem fl_holds (n:Int):Holds (fl n) (clip n):=nearest_holds _ (by have:=clip_in n;omega)
def sq (a b:Stop):Int:=(clip a.x-clip b.x)*(clip a.x-clip b.x)+(clip a.y-clip b.y)*(clip a.y-clip b.y)
def far (a b:Stop):Int:=rootI (sq a b)
theorem sq_in (a b:Stop):0≤sq a b∧sq a b≤200000000:=by
 have h:∀p:Int,-10000≤p∧p≤10000→0≤p*p∧p*p≤100000000:=fun p hp=>by
  have e:p*p=((p.natAbs*p.natAbs:Nat):Int):=by rw [Int.natCast_mul,←Int.natAbs_mul_self']
  have:=Nat.mul_le_mul (show p.natAbs≤10000 by omega) (show p.natAbs≤10000 by omega)
  rw [e];omega
 have h1:=h (clip a.x-clip b.x) (by have:=clip_in a.x;have:=clip_in b.x;omega)
 have h2:=h (clip a.y-clip b.y) (by have:=clip_in a.y;have:=clip_in b.y;omega)
 unfold sq;omega
theorem clip_pure (n:Int):Pure P 260 [.i n] (.t (.v (.float .f64 (fl n)))):=by
 refine pure_of Tryz.func260 rfl rfl (by simp [Tryz.f260]) (by simp [bnd,bnd.bndL]) (by simp [bnd]) fun B hB hnx=>?_
 simp only [Tryz.f260] at hB ⊢
 refine K_run hB 60 ?_
 simp [go_sem]
 refine K_val rfl (by simp [go_sem,hB]) (gives_toFloat (q:=.i64) (n:=clip n) rfl (by simp [go_sem,clip]) tt3 tt296 rfl) ?_
 refine K_run hB 60 ?_
 simp [go_sem,fl]
theorem place_pure (s:Stop):Pure P 242 [.agg (s.t.map .t)] (.t (.v (.complex .f64 (fl s.x) (fl s.y)))):=by
 refine pure_of Tryz.func242 rfl rfl (by simp [Tryz.f242]) (by simp [bnd,bnd.bndL,Stop.t]) (by simp [bnd]) fun B hB hnx=>?_
 simp only [Tryz.f242] at hB ⊢
 refine K_run hB 60 ?_
 simp [go_sem,Stop.t]
 refine K_drawn [] rfl (by rw [hB];kernel_rfl) ?_
 refine K_run hB 60 ?_
 simp [go_sem]
 refine K_dCallP rfl rfl rfl (args:=[.i s.x]) (f:=260) (by simp [go_sem]) (clip_pure s.x) ?_
 refine K_run hB 60 ?_
 simp [go_sem]
 refine K_dCallP rfl rfl rfl (args:=[.i s.y]) (f:=260) (by simp [go_sem]) (clip_pure s.y) ?_
 refine K_run hB 60 ?_
 simp [go_sem]
 refine K_dVal rfl (gives_complex (a:=fl s.x) (b:=fl s.y) rfl rfl rfl (by simp [go_sem]) (by simp [go_sem])) ?_
 refine K_run hB 60 ?_
 simp [go_sem]
theorem far_pure (a b:Stop):Pure P 214 [.agg (a.t.map .t),.agg (b.t.map .t)] (.i (far a b)):=by
 obtain ⟨re,im,re2,im2,e1,e2,e3⟩:=far_holds (fl_holds a.x) (fl_holds a.y) (fl_holds b.x) (fl_holds b.y) (clip_in _) (clip_in _) (clip_in _) (clip_in _)
 have e4:=toInt_holds e3 (by have:=sq_in a b;unfold sq at this;omega)
 refine pure_of Tryz.func214 rfl rfl (by simp [Tryz.f214]) (by simp [bnd,bnd.bndL,Stop.t]) (by simp [bnd]) fun B hB hnx=>?_
 simp only [Tryz.f214] at hB ⊢
 refine K_run hB 60 ?_
 simp [go_sem,Stop.t]
 refine K_drawn [] rfl (by rw [hB];kernel_rfl) ?_
 refine K_run hB 60 ?_
 simp [go_sem]
 refine K_dCallP rfl rfl rfl (args:=[.agg (a.t.map .t)]) (f:=242) (by simp [go_sem,Stop.t]) (place_pure a) ?_
 refine K_run hB 60 ?_
 simp [go_sem]
 refine K_dCallP rfl rfl rfl (args:=[.agg (b.t.map .t)]) (f:=242) (by simp [go_sem,Stop.t]) (place_pure b) ?_
 refine K_run hB 60 ?_
 simp [go_sem]
 refine K_dVal rfl (gives_csub rfl (by simp [go_sem]) (by simp [go_sem]) e1) ?_
 refine K_run hB 60 ?_
 simp [go_sem]
 refine K_val rfl (by simp [go_sem,hB]) (gives_real (a:=re) (b:=im) rfl rfl rfl (by simp [go_sem])) ?_
 refine K_run hB 60 ?_
 simp [go_sem]
 refine K_val rfl (by simp [go_sem,hB]) (gives_imag (a:=re) (b:=im) rfl rfl rfl (by simp [go_sem])) ?_
 refine K_run hB 60 ?_
 simp [go_sem]
 refine K_val rfl (by simp [go_sem,hB]) (gives_neg (b:=im) rfl (by simp [go_sem])) ?_
 refine K_run hB 60 ?_
 simp [go_sem]
 refine K_val rfl (by simp [go_sem,hB]) (gives_complex (a:=re) (b:=Op.negFloat .f64 im) rfl rfl rfl (by simp [go_sem]) (by simp [go_sem])) ?_
 refine K_run hB 60 ?_
 simp [go_sem]
 refine K_val rfl (by simp [go_sem,hB]) (gives_cmul rfl (by simp [go_sem]) (by simp [go_sem]) e2) ?_
 refine K_run hB 60 ?_
 simp [go_sem]
 refine K_val rfl (by simp [go_sem,hB]) (gives_real (a:=re2) (b:=im2) rfl rfl rfl (by simp [go_sem])) ?_
 refine K_run hB 60 ?_
 simp [go_sem]
 refine K_val rfl (by simp [go_sem,hB]) (gives_toInt (b:=re2) rfl (by simp [go_sem]) tt296 tt3 rfl e4) ?_
 refine K_run hB 60 ?_
 simp [go_sem]
 refine K_call rfl rfl rfl (args:=[.i (sq a b)]) (f:=243) (by simp [go_sem,sq]) (by simp [go_sem,hB]) ((root_pure (sq a b)).spec _ _) ?_
 refine K_run hB 60 ?_
 simp [go_sem,far]
end Go.Proofs.YtackfabapangdaaGreat

set_option maxRecDepth 4000
namespace Go.Proofs.YtackfabapangdaaGreat
open Go Go.Proofs.YtackfabapangdaaGreat.R
def byt (l:List Nat):List (List T):=l.map fun (n:Nat)=>[T.v (.int .u8 n)]
theorem byt_len (l:List Nat):(byt l).length=l.length:=List.length_map _
theorem byt_get (l:List Nat) (i:Nat) (h:i<(byt l).length):(byt l)[i]=[.v (.int .u8 (l[i]'(by rwa [byt_len] at h):Nat))]:=by simp [byt]
abbrev rdr (b:List Nat) (i:Nat):AObj:=.box [.t (.sl (byt b)),.i i]
def nowN (b:List Nat) (i:Nat):Nat:=b.getD i 10
theorem nowN_lt {b:List Nat} (h:∀c∈b,c<256) (i:Nat):nowN b i<256:=by
 unfold nowN
 rw [List.getD_eq_getElem?_getD]
 cases hb:b[i]? with
 |none=>decide
 |some c=>exact h c (List.mem_of_getElem? hb)
theorem nowN_out {b:List Nat} {i:Nat} (h:b.length≤i):nowN b i=10:=by simp [nowN,h]
theorem now_spec {σ:Nat→AObj} {nx q:Nat} {b:List Nat} {i:Nat} (h:σ q=rdr b i):CallSpec P 165 [.ptr q 0] σ nx (.t (.v (.int .u8 (nowN b i)))) σ nx:=by
 refine (spec_of (P:=P) Tryz.func165 rfl rfl (by simp [Tryz.f165]) fun B hB hnx hσ=>?_).spec
 simp only [Tryz.f165] at hB ⊢
 by_cases hi:(b.length:Int)≤i
 ·have e:=nowN_out (b:=b) (i:=i) (by omega)
  refine K_run hB 60 ?_
  simp [go_sem]
  refine K_drawn [] rfl (by rw [hB];kernel_rfl) ?_
  refine K_run hB 60 ?_
  simp [go_sem,h,byt_len,hi,e]
 ·have hi':i<b.length:=by omega
  have e:nowN b i=b[i]:=by simp [nowN,hi']
  refine K_run hB 60 ?_
  simp [go_sem]
  refine K_drawn [] rfl (by rw [hB];kernel_rfl) ?_
  refine K_run hB 60 ?_
  simp [go_sem,h,byt_len,hi]
  refine K_drawn [] rfl (by rw [hB];kernel_rfl) ?_
  refine K_run hB 60 ?_
  simp [go_sem,h,byt_len,hi',byt_get,e]
def digB (c:Nat):Bool:=decide (48≤c)&&decide (c≤57)
theorem digit_pure (c:Nat):Pure P 166 [.t (.v (.int .u8 c))] (.b (digB c)):=by
 refine pure_of Tryz.func166 rfl rfl (by simp [Tryz.f166]) (by simp [bnd,bnd.bndL]) (by simp [bnd]) fun B hB hnx=>?_
 simp only [Tryz.f166] at hB ⊢
 by_cases h:(48:Int)≤c
 ·have h':48≤c:=by omega
  refine K_run hB 60 ?_
  simp [go_sem,h,h',digB]
  omega
 ·have h':¬48≤c:=by omega
  refine K_run hB 60 ?_
  simp [go_sem,h,h',digB]
def digR (b:List Nat):Nat→Nat→Nat→Nat→Nat×Nat×Nat
 |0,i,n,d=>(n,d,i)
 |f+1,i,n,d=>if digB (nowN b i)=true then digR b f (i+1) (10*n+(nowN b i-48)) (d+1) else (n,d,i)
theorem digR_i (b:List Nat):∀f i n d,i≤(digR b f i n d).2.2∧(digR b f i n d).2.2≤i+f∧d≤(digR b f i n d).2.1∧(digR b f i n d).2.1+i=(digR b f i n d).2.2+d∧(i≤b.length→(digR b f i n d).2.2≤b.length)
 |0,i,n,d=>by simp [digR];omega
 |f+1,i,n,d=>by
  rw [digR]
  split
  ·rename_i h
   have ih:=digR_i b f (i+1) (10*n+(nowN b i-48)) (d+1)
   have hb:i<b.length:=by
    by_cases hi:i<b.length
    ·exact hi
    ·rw [nowN_out (by omega)] at h;exact absurd h (by decide)
   omega
  ·simp;omega
def restR (b:List Nat) (i:Nat):Nat:=if h:i<b.length∧nowN b i≠10 then restR b (i+1) else i
  termination_by b.length-i
theorem restR_ge (b:List Nat) (i:Nat):i≤restR b i:=by
 fun_induction restR b i with
 |case1 i h ih=>omega
 |case2 i h=>omega
def numR (b:List Nat) (next:Nat→List Int→List Int×Bool×Nat) (neg:Bool) (l:List Int) (r:Nat×Nat×Nat):List Int×Bool×Nat:=
 if r.2.1=0∨(nowN b r.2.2≠32∧nowN b r.2.2≠35∧nowN b r.2.2≠10) then ([],false,r.2.2)
 else next r.2.2 (l++[if neg then -(r.1:Int) else r.1])
def lineF (b:List Nat):Nat→Nat→List Int→List Int×Bool×Nat
 |0,i,_=>([],false,i)
 |f+1,i,l=>
  if nowN b i=32 then lineF b f (i+1) l
  else if nowN b i=35 then (l,true,restR b i+1)
  else if nowN b i=10 then (l,true,i+1)
  else numR b (lineF b f) (decide (nowN b i=45)) l (digR b 12 (if nowN b i=45 then i+1 else i) 0 0)
theorem now_hit {b:List Nat} {i:Nat} (h:nowN b i≠10):i<b.length:=by
 by_cases hi:i<b.length
 ·exact hi
 ·exact absurd (nowN_out (by omega)) h
theorem numR_len {b:List Nat} {next:Nat→List Int→List Int×Bool×Nat} {neg:Bool} {l:List Int} {r:Nat×Nat×Nat} {L:Nat} (h1:∀j l',(next j l').1.length≤l'.length+L) (h:1≤l.length+L+1):(numR b next neg l r).1.length≤l.length+1+L:=by
 unfold numR
 split
 ·simp
 ·have:=h1 r.2.2 (l++[if neg then -(r.1:Int) else r.1])
  rw [List.length_append] at this
  simpa using this
theorem lineF_len (b:List Nat):∀f i l,(lineF b f i l).1.length≤l.length+f
 |0,i,l=>by simp [lineF]
 |f+1,i,l=>by
  rw [lineF]
  split
  ·have:=lineF_len b f (i+1) l;omega
  ·split
   ·simp
   ·split
    ·simp
    ·have:=numR_len (b:=b) (next:=lineF b f) (neg:=decide (nowN b i=45)) (l:=l) (r:=digR b 12 (if nowN b i=45 then i+1 else i) 0 0) (L:=f) (fun j l'=>lineF_len b f j l') (by omega)
     omega
def lineR (b:List Nat) (i:Nat):List Int×Bool×Nat:=lineF b (b.length+1) i []
def lineV (r:List Int×Bool×Nat):AV:=.tup [.t (.sl (ints r.1)),.b r.2.1]
structure LX where
 lb:Nat
 f:Nat
 i:Nat
 n:Nat
 d:Nat
 neg:Bool
 j:Nat
 l:List Int
 σ:Nat→AObj
 nx:Nat
structure LX.I (σ0:Nat→AObj) (nx0 q:Nat) (b:List Nat) (R:List Int×Bool×Nat) (x:LX):Prop where
 go:(x.lb=0∧b.length<x.f+x.i∧lineF b x.f x.i x.l=R)∨(x.lb=3∧x.d≤12∧b.length+x.d≤x.f+x.i∧x.d≤x.i∧x.l.length+x.d≤x.i∧x.n<10^x.d∧numR b (lineF b x.f) x.neg x.l (digR b (12-x.d) x.i x.n x.d)=R)∨(x.lb=1∧(x.l,true,restR b x.i+1)=R)∨(x.lb=2∧(x.l,true,x.i+1)=R)
 le:x.i≤b.length
 len:x.l.length≤x.i
 rd:x.σ q=rdr b x.i
 arr:x.σ x.j= .arr 1 (ints x.l)
 ne:x.j≠q
 jl:nx0≤x.j
 jn:x.j<x.nx
 old:∀y,y<nx0→y≠q→x.σ y=σ0 y
def LX.st (q:Nat) (x:LX):St:=⟨sl ([(0,.ptr q 0),(2,.fsl []),(3,.b false),(4,.ref x.j)]++(if x.lb=3 then [(5,.i x.n),(6,.i x.d),(7,.b x.neg)] else [])),x.σ,x.nx⟩
def LX.m (b:List Nat) (x:LX):Nat:=20*(b.length+1-(if x.lb=3 then x.i-x.d else x.i))+(if x.lb=3 then 12-x.d else if x.lb=0 then 15 else if x.lb=1 then 2 else 1)
theorem pow10 {d n:Nat} (h:n<10^d) (hd:d≤12):n<1000000000000:=Nat.lt_of_lt_of_le h (Nat.pow_le_pow_right (by decide) hd)
theorem line_spec {σ:Nat→AObj} {nx q:Nat} {b:List Nat} {i:Nat} (h:σ q=rdr b i) (hq:q<nx) (hb:b.length≤4096) (hb8:∀c∈b,c<256) (hi:i≤b.length):
  CallSpec P 103 [.ptr q 0] σ nx (lineV (lineR b i)) (oput σ q (rdr b (lineR b i).2.2)) nx:=by
 refine spec_down (P:=P) Tryz.func103 rfl rfl (by simp [Tryz.f103]) hq (by simp [go_sem]) (by simp [go_sem,lineV]) fun hk B hB hnx hσ=>?_
 simp only [Tryz.f103] at hB ⊢
 generalize hR:lineR b i=R
 refine K_after ?_
 have hm:mostLen=4294967296:=rfl
 generalize hpost:(fun (e:Exit) (s:St)=>∃t,Imp B s t∧_)=post
 refine K_run hB 60 ?_
 simp [go_sem]
 refine K_scopeF LX.lb (LX.I σ nx q b R) (LX.st q) (LX.m b) (fun x hx=>?_) ?_ ?_
 ·rcases hx.go with ⟨h,_⟩ | ⟨h,_⟩ | ⟨h,_⟩ | ⟨h,_⟩<;>rw [h]<;>rfl
 ·rintro ⟨lb,f,i,n,d,neg,j,l,σ',nx'⟩ ⟨h1,h2,h3,h4,h5,h6,h7,h8,h9⟩ fall
  have hj0:q≠j:=fun e=>h6 e.symm
  have hii:IntKind.i64.wrap ((i:Int)+1)=((i+1:Nat):Int):=by
   simp only at h2
   rw [w64 ((i:Int)+1) (by omega)];rfl
  simp only at h1 h2 h3 h4 h5 h6 h7 h8 h9
  rcases h1 with ⟨rfl,g1,g2⟩ | ⟨rfl,g1,g2,g3,g4,g5,g6⟩ | ⟨rfl,g1⟩ | ⟨rfl,g1⟩
  ·show Kp P B (.code (tailC _ 0) :: _) _ _ _
   simp [tailC,findLabel]
   obtain ⟨f,rfl⟩:∃f',f=f'+1:=⟨f-1,by omega⟩
   rw [lineF] at g2
   refine K_run hB 100 ?_
   simp [go_sem,LX.st]
   refine K_call rfl rfl rfl (args:=[.ptr q 0]) (f:=165) (by simp [go_sem]) (by simp [go_sem,hB]) (now_spec h4) ?_
   by_cases c1:nowN b i=32
   ·rw [if_pos c1] at g2
    have hlt:=now_hit (b:=b) (i:=i) (by omega)
    rw [c1]
    refine K_run hB 100 ?_
    simp [go_sem,h4,hii]
    refine ⟨⟨0,f,i+1,0,0,false,j,l,_,nx'⟩,⟨.inl ⟨rfl,by simp only;omega,g2⟩,hlt,by simp only;omega,by simp [oput],by simp [oput,h6,h5],h6,h7,h8,?_⟩,rfl,Imp.slots (by simp [go_sem]) rfl rfl,by simp [LX.m];omega⟩
    intro y hy hyq
    simp [oput,hyq,h9 y hy hyq]
   rw [if_neg c1] at g2
   by_cases c2:nowN b i=35
   ·rw [if_pos c2] at g2
    rw [c2]
    refine K_run hB 100 ?_
    simp [go_sem]
    exact ⟨⟨1,f,i,0,0,false,j,l,σ',nx'⟩,⟨.inr (.inr (.inl ⟨rfl,g2⟩)),h2,h3,h4,h5,h6,h7,h8,h9⟩,rfl,Imp.slots (by simp [go_sem]) rfl rfl,by simp [LX.m]⟩
   rw [if_neg c2] at g2
   by_cases c3:nowN b i=10
   ·rw [if_pos c3] at g2
    rw [c3]
    refine K_run hB 100 ?_
    simp [go_sem]
    exact ⟨⟨2,f,i,0,0,false,j,l,σ',nx'⟩,⟨.inr (.inr (.inr ⟨rfl,g2⟩)),h2,h3,h4,h5,h6,h7,h8,h9⟩,rfl,Imp.slots (by simp [go_sem]) rfl rfl,by simp [LX.m]⟩
   rw [if_neg c3] at g2
   have hlt:=now_hit (b:=b) (i:=i) c3
   have d1:¬(nowN b i:Int)=32:=by omega
   have d2:¬(nowN b i:Int)=35:=by omega
   have d3:¬(nowN b i:Int)=10:=by omega
   refine K_run hB 100 ?_
   simp [go_sem,d1,d2,d3,c1,c2,c3]
   refine K_call rfl rfl rfl (args:=[.ptr q 0]) (f:=165) (by simp [go_sem]) (by simp [go_sem,hB]) (now_spec h4) ?_
   by_cases c4:nowN b i=45
   ·rw [if_pos c4,decide_eq_true c4] at g2
    rw [c4]
    refine K_run hB 21 ?_
    simp [go_sem,h4,hii]
    refine fall 3 _ ⟨⟨3,f,i+1,0,0,true,j,l,oput σ' q (rdr b (i+1)),nx'⟩,⟨.inr (.inl ⟨rfl,by simp,by simp only;omega,by simp,by simp only;omega,by simp,g2⟩),hlt,by simp only;omega,by simp [oput],by simp [oput,h6,h5],h6,h7,h8,?_⟩,rfl,Imp.slots (by simp [go_sem]) rfl rfl,by simp [LX.m];omega⟩
    intro y hy hyq
    simp [oput,hyq,h9 y hy hyq]
   ·rw [if_neg c4,decide_eq_false c4] at g2
    have d4:¬(nowN b i:Int)=45:=by omega
    refine K_run hB 12 ?_
    simp [go_sem,c4,d4]
    exact fall 3 _ ⟨⟨3,f,i,0,0,false,j,l,σ',nx'⟩,⟨.inr (.inl ⟨rfl,by simp,by simp only;omega,by simp,by simp only;omega,by simp,g2⟩),h2,h3,h4,h5,h6,h7,h8,h9⟩,rfl,Imp.slots (by simp [go_sem]) rfl rfl,by simp [LX.m]⟩
  ·show Kp P B (.code (tailC _ 3) :: _) _ _ _
   simp [tailC,findLabel]
   refine K_run hB 100 ?_
   simp [go_sem,LX.st]
   refine K_call rfl rfl rfl (args:=[.ptr q 0]) (f:=165) (by simp [go_sem]) (by simp [go_sem,hB]) (now_spec h4) ?_
   have hc8:=nowN_lt hb8 i
   refine K_run hB 100 ?_
   simp [go_sem]
   refine K_call rfl rfl rfl (args:=[.t (.v (.int .u8 (nowN b i)))]) (f:=166) (by simp [go_sem]) (by simp [go_sem,hB]) ((digit_pure (nowN b i)).spec _ _) ?_
   by_cases hgo:digB (nowN b i)=true∧d<12
   ·obtain ⟨hdig,hd12⟩:=hgo
    have hd12':(d:Int)<12:=by omega
    have hlt:i<b.length:=now_hit (fun e=>by rw [e] at hdig;exact absurd hdig (by decide))
    have hdg:48≤nowN b i∧nowN b i≤57:=by simpa [digB] using hdig
    rw [show 12-d=(12-(d+1))+1 by omega,digR,if_pos hdig] at g6
    rw [hdig]
    have hn:=pow10 g5 g1
    have w1:IntKind.i64.wrap (10*(n:Int))=10*n:=w64 _ (by omega)
    have w2:IntKind.u8.wrap ((nowN b i:Int)-48)=((nowN b i-48:Nat):Int):=by rw [u8w _ (by omega)];omega
    have w3:IntKind.i64.wrap ((nowN b i-48:Nat):Int)=((nowN b i-48:Nat):Int):=w64n _ (by omega)
    have w4:IntKind.i64.wrap (10*(n:Int)+((nowN b i-48:Nat):Int))=((10*n+(nowN b i-48):Nat):Int):=by rw [w64 _ (by omega)];omega
    have w5:IntKind.i64.wrap ((d:Int)+1)=((d+1:Nat):Int):=by rw [w64 _ (by omega)];rfl
    refine K_run hB 100 ?_
    simp [go_sem,hd12',hd12,w1,w2,w3,w4,w5,h4,hii]
    refine ⟨⟨3,f,i+1,10*n+(nowN b i-48),d+1,neg,j,l,_,nx'⟩,⟨.inr (.inl ⟨rfl,(show d+1≤12 by omega),(show b.length+(d+1)≤f+(i+1) by omega),(show d+1≤i+1 by omega),(show l.length+(d+1)≤i+1 by omega),(show 10*n+(nowN b i-48)<10^(d+1) by rw [Nat.pow_succ];omega),g6⟩),hlt,by simp only;omega,by simp [oput],by simp [oput,h6,h5],h6,h7,h8,?_⟩,rfl,Imp.slots (by simp [go_sem]) rfl rfl,by simp [LX.m];omega⟩
    intro y hy hyq
    simp [oput,hyq,h9 y hy hyq]
   have hstop:digR b (12-d) i n d=(n,d,i):=by
    by_cases hd:d<12
    ·have hdig:¬digB (nowN b i)=true:=fun e=>hgo ⟨e,hd⟩
     rw [show 12-d=(12-(d+1))+1 by omega,digR,if_neg hdig]
    ·rw [show 12-d=0 by omega,digR]
   rw [hstop] at g6
   have hgo2:(digB (nowN b i)&&decide ((d:Int)<12))=false:=by
    cases hdig:digB (nowN b i)
    ·rfl
    ·have:¬(d:Int)<12:=fun e=>hgo ⟨hdig,by omega⟩
     simp [this]
   have hskip:∃bb cc:Bool,digB (nowN b i)=bb∧decide ((d:Int)<12)=cc∧(bb&&cc)=false:=⟨_,_,rfl,rfl,hgo2⟩
   obtain ⟨bb,cc,hbb,hcc,hbc⟩:=hskip
   rw [hbb]
   cases bb
   ·refine K_run hB 100 ?_
    simp [go_sem]
    refine K_call rfl rfl rfl (args:=[.ptr q 0]) (f:=165) (by simp [go_sem]) (by simp [go_sem,hB]) (now_spec h4) ?_
    by_cases hd0:d=0
    ·have hRf:R=([],false,i):=by rw [←g6,numR,if_pos (.inl hd0)]
     refine K_run hB 100 ?_
     simp [go_sem,hd0]
     rw [←hpost]
     refine ⟨_,Imp.loose,.inl rfl,?_⟩
     simp [go_sem,hRf,lineV,h4,ints,loosen]
     exact ⟨by omega,fun y hy hyq=>h9 y hy hyq⟩
    by_cases hbad:nowN b i≠32∧nowN b i≠35∧nowN b i≠10
    ·have hRf:R=([],false,i):=by rw [←g6,numR,if_pos (.inr hbad)]
     obtain ⟨e1,e2,e3⟩:=hbad
     have d1:¬(nowN b i:Int)=32:=by omega
     have d2:¬(nowN b i:Int)=35:=by omega
     have d3:¬(nowN b i:Int)=10:=by omega
     refine K_run hB 100 ?_
     simp [go_sem,hd0,d1,d2,d3,e1,e2,e3]
     rw [←hpost]
     refine ⟨_,Imp.loose,.inl rfl,?_⟩
     simp [go_sem,hRf,lineV,h4,ints,loosen]
     exact ⟨by omega,fun y hy hyq=>h9 y hy hyq⟩
    rw [numR,if_neg (by rintro (e | e);exact hd0 e;exact hbad e)] at g6
    have hlen:(ints l).length=l.length:=List.length_map _
    have hcap:l.length+1≤mostLen:=by omega
    have hn:=pow10 g5 g1
    have w6:IntKind.i64.wrap (-(n:Int))= -(n:Int):=w64 _ (by omega)
    have hso:∀z:Int,ints l++[[.i z]]=ints (l++[z]):=fun z=>by simp [ints]
    rcases (by omega:nowN b i=32∨nowN b i=35∨nowN b i=10) with e1 | e1 | e1
    all_goals
     rw [e1]
     cases neg
     all_goals
      refine K_run hB 100 ?_
      simp [go_sem,hd0,h5,hlen,hcap,w6]
    all_goals first
     |refine ⟨⟨0,f,i,0,0,false,nx',l++[(n:Int)],_,nx'+1⟩,⟨.inl ⟨rfl,(show b.length<f+i by omega),g6⟩,h2,(show (l++[(n:Int)]).length≤i by rw [List.length_append];simp only [List.length_cons,List.length_nil];omega),?_,(by simp only [oput,if_true];rw [hso]),(show nx'≠q by omega),(show nx≤nx' by omega),(show nx'<nx'+1 by omega),?_⟩,rfl,Imp.slots (by simp [go_sem]) rfl rfl,by simp [LX.m];omega⟩
     |refine ⟨⟨0,f,i,0,0,false,nx',l++[-(n:Int)],_,nx'+1⟩,⟨.inl ⟨rfl,(show b.length<f+i by omega),g6⟩,h2,(show (l++[-(n:Int)]).length≤i by rw [List.length_append];simp only [List.length_cons,List.length_nil];omega),?_,(by simp only [oput,if_true];rw [hso]),(show nx'≠q by omega),(show nx≤nx' by omega),(show nx'<nx'+1 by omega),?_⟩,rfl,Imp.slots (by simp [go_sem]) rfl rfl,by simp [LX.m];omega⟩
    all_goals first
     |(simp [oput,hj0,h4,show q≠nx' by omega];done)
     |(intro y hy hyq
       simp [oput,show y≠nx' by omega,show y≠j by omega]
       exact h9 y hy hyq)
   ·have hd:¬(d:Int)<12:=by cases cc<;>simp_all
    refine K_run hB 100 ?_
    simp [go_sem,hd]
    refine K_call rfl rfl rfl (args:=[.ptr q 0]) (f:=165) (by simp [go_sem]) (by simp [go_sem,hB]) (now_spec h4) ?_
    by_cases hd0:d=0
    ·have hRf:R=([],false,i):=by rw [←g6,numR,if_pos (.inl hd0)]
     refine K_run hB 100 ?_
     simp [go_sem,hd0]
     rw [←hpost]
     refine ⟨_,Imp.loose,.inl rfl,?_⟩
     simp [go_sem,hRf,lineV,h4,ints,loosen]
     exact ⟨by omega,fun y hy hyq=>h9 y hy hyq⟩
    by_cases hbad:nowN b i≠32∧nowN b i≠35∧nowN b i≠10
    ·have hRf:R=([],false,i):=by rw [←g6,numR,if_pos (.inr hbad)]
     obtain ⟨e1,e2,e3⟩:=hbad
     have d1:¬(nowN b i:Int)=32:=by omega
     have d2:¬(nowN b i:Int)=35:=by omega
     have d3:¬(nowN b i:Int)=10:=by omega
     refine K_run hB 100 ?_
     simp [go_sem,hd0,d1,d2,d3,e1,e2,e3]
     rw [←hpost]
     refine ⟨_,Imp.loose,.inl rfl,?_⟩
     simp [go_sem,hRf,lineV,h4,ints,loosen]
     exact ⟨by omega,fun y hy hyq=>h9 y hy hyq⟩
    rw [numR,if_neg (by rintro (e | e);exact hd0 e;exact hbad e)] at g6
    have hlen:(ints l).length=l.length:=List.length_map _
    have hcap:l.length+1≤mostLen:=by omega
    have hn:=pow10 g5 g1
    have w6:IntKind.i64.wrap (-(n:Int))= -(n:Int):=w64 _ (by omega)
    have hso:∀z:Int,ints l++[[.i z]]=ints (l++[z]):=fun z=>by simp [ints]
    rcases (by omega:nowN b i=32∨nowN b i=35∨nowN b i=10) with e1 | e1 | e1
    all_goals
     rw [e1]
     cases neg
     all_goals
      refine K_run hB 100 ?_
      simp [go_sem,hd0,h5,hlen,hcap,w6]
    all_goals first
     |refine ⟨⟨0,f,i,0,0,false,nx',l++[(n:Int)],_,nx'+1⟩,⟨.inl ⟨rfl,(show b.length<f+i by omega),g6⟩,h2,(show (l++[(n:Int)]).length≤i by rw [List.length_append];simp only [List.length_cons,List.length_nil];omega),?_,(by simp only [oput,if_true];rw [hso]),(show nx'≠q by omega),(show nx≤nx' by omega),(show nx'<nx'+1 by omega),?_⟩,rfl,Imp.slots (by simp [go_sem]) rfl rfl,by simp [LX.m];omega⟩
     |refine ⟨⟨0,f,i,0,0,false,nx',l++[-(n:Int)],_,nx'+1⟩,⟨.inl ⟨rfl,(show b.length<f+i by omega),g6⟩,h2,(show (l++[-(n:Int)]).length≤i by rw [List.length_append];simp only [List.length_cons,List.length_nil];omega),?_,(by simp only [oput,if_true];rw [hso]),(show nx'≠q by omega),(show nx≤nx' by omega),(show nx'<nx'+1 by omega),?_⟩,rfl,Imp.slots (by simp [go_sem]) rfl rfl,by simp [LX.m];omega⟩
    all_goals first
     |(simp [oput,hj0,h4,show q≠nx' by omega];done)
     |(intro y hy hyq
       simp [oput,show y≠nx' by omega,show y≠j by omega]
       exact h9 y hy hyq)
  ·show Kp P B (.code (tailC _ 1) :: _) _ _ _
   simp [tailC,findLabel]
   refine K_run hB 100 ?_
   simp [go_sem,LX.st]
   refine K_call rfl rfl rfl (args:=[.ptr q 0]) (f:=165) (by simp [go_sem]) (by simp [go_sem,hB]) (now_spec h4) ?_
   by_cases c1:nowN b i=10
   ·have hr:restR b i=i:=by rw [restR,dif_neg (by rintro ⟨_,e⟩;exact e c1)]
    rw [hr] at g1
    rw [c1]
    refine K_run hB 4 ?_
    simp [go_sem]
    exact fall 2 _ ⟨⟨2,f,i,0,0,false,j,l,σ',nx'⟩,⟨.inr (.inr (.inr ⟨rfl,g1⟩)),h2,h3,h4,h5,h6,h7,h8,h9⟩,rfl,Imp.slots (by simp [go_sem]) rfl rfl,by simp [LX.m]⟩
   ·have hlt:=now_hit c1
    have hr:restR b i=restR b (i+1):=by rw [restR,dif_pos ⟨hlt,c1⟩]
    rw [hr] at g1
    have d1:¬(nowN b i:Int)=10:=by omega
    refine K_run hB 100 ?_
    simp [go_sem,c1,d1,h4,hii]
    refine ⟨⟨1,f,i+1,0,0,false,j,l,_,nx'⟩,⟨.inr (.inr (.inl ⟨rfl,g1⟩)),hlt,by simp only;omega,by simp [oput],by simp [oput,h6,h5],h6,h7,h8,?_⟩,rfl,Imp.slots (by simp [go_sem]) rfl rfl,by simp [LX.m];omega⟩
    intro y hy hyq
    simp [oput,hyq,h9 y hy hyq]
  ·show Kp P B (.code (tailC _ 2) :: _) _ _ _
   simp [tailC,findLabel]
   refine K_run hB 100 ?_
   simp [go_sem,LX.st,h4,hii]
   rw [←hpost]
   refine ⟨_,Imp.freeze (q:=j) (sz:=1) (es:=ints l) (by simp [go_sem,h6,h5]),.inl rfl,?_⟩
   simp [go_sem,frz1,frzO,←g1,lineV,hj0]
   refine ⟨by omega,by simp [frz1.frzL,frz1],fun y hy hyq=>?_⟩
   have hyj:y≠j:=by omega
   rw [if_neg hyj,if_neg hyq,h9 y hy hyq]
   rcases hk y with e | ⟨e,_⟩
   ·rw [e]
   ·exact frzO_id (q:=j) (es:=ints l) (by omega) (σ y) e
 ·intro J hJ
  refine K_run hB 13 ?_
  simp [go_sem]
  refine K_own 4 1 (by simp [go_sem]) ?_
  refine hJ 0 _ ⟨⟨0,b.length+1,i,0,0,false,nx,[],_,nx+1⟩,⟨.inl ⟨rfl,by simp only;omega,hR⟩,hi,by simp,?_,by simp [oput,ints],by simp only;omega,Nat.le_refl _,by simp,?_⟩,rfl,Imp.slots (by simp [go_sem]) rfl rfl⟩
  ·simp [oput,h];omega
  ·intro y hy _;simp [oput];omega
end Go.Proofs.YtackfabapangdaaGreat

set_option maxRecDepth 4000
namespace Go.Proofs.YtackfabapangdaaGreat
open Go Go.Proofs.YtackfabapangdaaGreat.R
theorem restR_le (b:List Nat) (i:Nat) (h:i≤b.length):restR b i≤b.length:=by
 fun_induction restR b i with
 |case1 i h ih=>exact ih (by omega)
 |case2 i h2=>exact h
theorem lineF_in (b:List Nat):∀f i l,i≤b.length→(lineF b f i l).2.1=true→i<(lineF b f i l).2.2∧(lineF b f i l).2.2≤b.length+1
 |0,i,l,_,h=>by simp [lineF] at h
 |f+1,i,l,hi,h=>by
  rw [lineF] at h ⊢
  split at h
  ·rename_i c1
   rw [if_pos c1]
   have:=lineF_in b f (i+1) l (now_hit (by omega)) h
   omega
  ·rename_i c1
   rw [if_neg c1]
   split at h
   ·rename_i c2
    rw [if_pos c2]
    have h1:=restR_ge b i
    have h2:=restR_le b i hi
    simp only;omega
   ·rename_i c2
    rw [if_neg c2]
    split at h
    ·rename_i c3
     rw [if_pos c3]
     simp only;omega
    ·rename_i c3
     rw [if_neg c3]
     have hlt:=now_hit c3
     have hr:=digR_i b 12 (if nowN b i=45 then i+1 else i) 0 0
     generalize digR b 12 (if nowN b i=45 then i+1 else i) 0 0=r at *
     unfold numR at h ⊢
     split at h
     ·simp at h
     ·rename_i c4
      rw [if_neg c4]
      have hr5:r.2.2≤b.length:=hr.2.2.2.2 (by split<;>omega)
      have hr6:i≤r.2.2:=by have:=hr.1;split at this<;>omega
      have:=lineF_in b f _ _ hr5 h
      omega
theorem lineR_in (b:List Nat) (i:Nat) (hi:i≤b.length) (h:(lineR b i).2.1=true):i<(lineR b i).2.2∧(lineR b i).2.2≤b.length+1:=lineF_in b _ i [] hi h
def linesF (b:List Nat):Nat→Nat→List (List Int)→Option (List (List Int))
 |0,_,a=>some a
 |f+1,i,a=>if i<b.length then (if (lineR b i).2.1=true then linesF b f (lineR b i).2.2 (if (lineR b i).1=[] then a else a++[(lineR b i).1]) else none) else some a
def linesR (b:List Nat):List (List Int)×Int:=if 4096<b.length then ([],6) else match linesF b (b.length+1) 0 [] with
 |none=>([],2)
 |some a=>(a,0)
theorem lines_pure (b:List Nat) (hb:b.length<2^62) (hb8:∀c∈b,c<256):Pure P 47 [.t (.sl (byt b))] (.tup [.t (.sl ((linesR b).1.map rowT)),.i (linesR b).2]):=by
 refine pure_of Tryz.func47 rfl rfl (by simp [Tryz.f47]) (by simp [bnd,bnd.bndL]) (by simp [bnd,bnd.bndL]) fun B hB hnx=>?_
 simp only [Tryz.f47] at hB ⊢
 generalize hR:linesR b=R
 rw [linesR] at hR
 by_cases hbig:(4096:Int)<b.length
 ·rw [if_pos (by omega)] at hR
  subst hR
  refine K_run hB 60 ?_
  simp [go_sem,byt_len,hbig]
 rw [if_neg (by omega)] at hR
 have hm:mostLen=4294967296:=rfl
 refine K_run hB 60 ?_
 simp [go_sem,byt_len,hbig]
 refine K_own 4 1 (by simp [go_sem]) ?_
 refine K_loopP (α:=Nat×Nat×List (List Int)×Nat×(Nat→AObj)×Nat) (fun (f,i,a,j,σ,nx)=>b.length<f+i∧a.length≤i∧i≤b.length+1∧linesF b f i a=linesF b (b.length+1) 0 []∧σ 0=rdr b i∧σ j= .arr 1 (a.map rowT)∧0<j∧j<nx)
  (fun (f,i,a,j,σ,nx)=>⟨sl [(0,.t (.sl (byt b))),(4,.ref j),(5,.ptr 0 0)],σ,nx⟩) (fun x=>b.length+1-x.2.1) (b.length+1,0,[],1,_,2) ?_ (Imp.slots (by simp [go_sem]) rfl rfl) ?_
 ·exact ⟨by omega,by simp,by omega,rfl,by simp [oput],by simp [oput],by omega,by omega⟩
 rintro ⟨f,i,a,j,σ,nx⟩ ⟨g1,g2,g3,g4,g5,g6,g7,g8⟩
 rw [←g4] at hR
 by_cases hi:(i:Int)<b.length
 rotate_left
 ·have hRf:R=(a,0):=by
   rw [←hR]
   cases f with
   |zero=>rfl
   |succ f=>rw [linesF,if_neg (by omega)]
  refine K_run hB 60 ?_
  simp [go_sem,g5,byt_len,hi,g6,hRf]
 have hi':i<b.length:=by omega
 obtain ⟨f,rfl⟩:∃f',f=f'+1:=⟨f-1,by omega⟩
 rw [linesF,if_pos hi'] at hR g4
 have hin:=lineR_in b i (by omega)
 have hsp:=line_spec (σ:=σ) (nx:=nx) (q:=0) (b:=b) (i:=i) g5 (by omega) (by omega) hb8 (by omega)
 generalize lineR b i=r at *
 refine K_run hB 60 ?_
 simp [go_sem,g5,byt_len,hi]
 refine K_call rfl rfl rfl (args:=[.ptr 0 0]) (f:=103) (by simp [go_sem]) (by simp [go_sem,hB]) hsp ?_
 by_cases hok:r.2.1=true
 rotate_left
 ·have hok':r.2.1=false:=by simpa using hok
  rw [if_neg hok] at hR
  have hRf:R=([],2):=hR.symm
  refine K_run hB 60 ?_
  simp [go_sem,lineV,hok',hRf]
 rw [if_pos hok] at hR g4
 have hin:=hin hok
 by_cases hnil:r.1=[]
 ·rw [if_pos hnil] at hR g4
  refine K_run hB 60 ?_
  simp [go_sem,lineV,hok,hnil,ints]
  refine Next.mk (f,r.2.2,a,j,_,nx) ?_ (Imp.slots (by simp [go_sem]) rfl rfl) (by simp only;omega)
  exact ⟨by simp only;omega,by simp only;omega,by simp only;omega,g4,by simp [oput],by simp [oput,show ¬j=0 by omega,g6],g7,g8⟩
 ·rw [if_neg hnil] at hR g4
  have hpos:0<r.1.length:=List.length_pos_iff.2 hnil
  have hcap:a.length+1≤mostLen:=by omega
  refine K_run hB 60 ?_
  simp [go_sem,lineV,hok,ints,hpos,show ¬j=0 by omega,g6,hcap]
  refine Next.mk (f,r.2.2,a++[r.1],nx,_,nx+1) ?_ (Imp.slots (by simp [go_sem]) rfl rfl) (by simp only;omega)
  refine ⟨by simp only;omega,(show (a++[r.1]).length≤r.2.2 by rw [List.length_append];simp only [List.length_cons,List.length_nil];omega),by simp only;omega,g4,?_,?_,by simp only;omega,by simp only;omega⟩
  ·simp [oput,show ¬0=nx by omega,show ¬0=j by omega]
  ·simp [oput,rowT,ints]
end Go.Proofs.YtackfabapangdaaGreat

set_option maxRecDepth 4000
namespace Go.Proofs.YtackfabapangdaaGreat
open Go Go.Proofs.YtackfabapangdaaGreat.R
def stopOf (l:List Int):Stop:=⟨l.getD 0 0,l.getD 1 0,l.getD 2 0,l.getD 3 0,l.getD 4 0,l.getD 5 0⟩
theorem stop_pure (l:List Int) (h:l.length=6):Pure P 50 [.t (.sl (ints l))] (.agg ((stopOf l).t.map .t)):=by
 obtain ⟨a,b,c,d,e,f,rfl⟩:∃a b c d e f,l=[a,b,c,d,e,f]:=by
  match l,h with
  |[a,b,c,d,e,f],_=>exact ⟨a,b,c,d,e,f,rfl⟩
 refine pure_of Tryz.func50 rfl rfl (by simp [Tryz.f50]) (by simp [bnd,bnd.bndL]) (by simp [bnd,bnd.bndL,Stop.t]) fun B hB hnx=>?_
 simp only [Tryz.f50] at hB ⊢
 refine K_run hB 60 ?_
 simp [go_sem]
 refine K_arrp (es:=ints [a,b,c,d,e,f]) rfl (by simp [go_sem,hB]) rfl tt175 rfl (by simp [go_sem]) (by simp [ints]) (by simp [ints]) ?_
 refine K_run hB 100 ?_
 simp [go_sem,ints,stopOf,Stop.t]
def oddB (l:List Int):Bool:=decide (l.length≠6)
theorem odd_pure (l:List Int):Pure P 48 [.t (.sl (ints l))] (.b (oddB l)):=by
 refine pure_of Tryz.func48 rfl rfl (by simp [Tryz.f48]) (by simp [bnd,bnd.bndL]) (by simp [bnd]) fun B hB hnx=>?_
 simp only [Tryz.f48] at hB ⊢
 have hlen:(ints l).length=l.length:=List.length_map _
 refine K_run hB 60 ?_
 simp [go_sem,hlen,oddB]
 omega
def oddAt:Nat→List (List Int)→Int
 |_,[]=>-1
 |k,l :: r=>if oddB l=true then k else oddAt (k+1) r
theorem oddAt_any:∀k (r:List (List Int)),decide (0≤oddAt k r)=r.any oddB
 |k,[]=>by simp [oddAt]
 |k,l :: r=>by
  rw [oddAt,List.any_cons]
  split
  ·rename_i h;rw [h];simp
  ·rename_i h
   have h':oddB l=false:=by simpa using h
   rw [h',Bool.false_or]
   exact oddAt_any (k+1) r
theorem index_pure (r:List (List Int)) (hr:r.length<2^62):Pure P 104 [.t (.sl (r.map rowT)),.fn (.func 48) [] []] (.i (oddAt 0 r)):=by
 refine pure_of Tryz.func104 rfl rfl (by simp [Tryz.f104]) (by simp [bnd,bnd.bndL]) (by simp [bnd]) fun B hB hnx=>?_
 simp only [Tryz.f104] at hB ⊢
 refine K_run hB 60 ?_
 simp [go_sem]
 refine K_loopP (α:=Nat) (fun k=>k≤r.length∧oddAt k (r.drop k)=oddAt 0 r) (fun k=>⟨sl [(0,.t (.sl (r.map rowT))),(1,.fn (.func 48) [] []),(7,.i r.length),(8,.i k)],noObj,0⟩) (fun k=>r.length-k) 0 ⟨Nat.zero_le _,rfl⟩ (Imp.slots (by simp [go_sem]) rfl rfl) ?_
 rintro k ⟨h1,h2⟩
 refine K_run hB 60 ?_
 simp [go_sem]
 refine fork_dec (fun h=>?_) (fun h=>?_)
 ·rw [List.drop_eq_getElem_cons h,oddAt] at h2
  have hkk:IntKind.i64.wrap ((k:Int)+1)=((k+1:Nat):Int):=by rw [w64 ((k:Int)+1) (by omega)];rfl
  generalize hl:r[k]=l at *
  simp [go_sem,h,hl,rowT]
  refine K_call rfl rfl rfl (args:=[.t (.sl (ints l))]) (f:=48) (by simp [go_sem]) (by simp [go_sem,hB]) ((odd_pure l).spec _ _) ?_
  by_cases ho:oddB l=true
  ·rw [if_pos ho] at h2
   rw [ho]
   refine K_run hB 60 ?_
   simp [go_sem,←h2]
  ·rw [if_neg ho] at h2
   have ho':oddB l=false:=by simpa using ho
   rw [ho']
   refine K_run hB 60 ?_
   simp [go_sem,hkk]
   exact Next.mk (k+1) ⟨by omega,h2⟩ (Imp.slots (by simp [go_sem,rowT]) rfl rfl) (by omega)
 ·have:k=r.length:=by omega
  subst this
  rw [List.drop_length] at h2
  simp [go_sem,←h2,oddAt]
theorem contains_pure (r:List (List Int)) (hr:r.length<2^62):Pure P 49 [.t (.sl (r.map rowT)),.fn (.func 48) [] []] (.b (r.any oddB)):=by
 rw [←oddAt_any 0]
 refine pure_of Tryz.func49 rfl rfl (by simp [Tryz.f49]) (by simp [bnd,bnd.bndL]) (by simp [bnd]) fun B hB hnx=>?_
 simp only [Tryz.f49] at hB ⊢
 refine K_run hB 60 ?_
 simp [go_sem]
 refine K_call rfl rfl rfl (args:=[.t (.sl (r.map rowT)),.fn (.func 48) [] []]) (f:=104) (by simp [go_sem]) (by simp [go_sem,hB]) ((index_pure r hr).spec _ _) ?_
 refine K_run hB 60 ?_
 simp [go_sem]
def Inst.zero:Inst:=⟨0,0,0,[]⟩
def instOf:List (List Int)→Inst
 |r :: l=>⟨r.getD 0 0,r.getD 1 0,r.getD 2 0,l.map stopOf⟩
 |[]=>Inst.zero
def parseL (l:List (List Int)):Inst×Int:=
 if l=[]∨(l.headD []).length≠3∨(l.drop 1).any oddB=true then (Inst.zero,2)
 else if (instOf l).may=true then (instOf l,0) else (Inst.zero,1)
def parseR (b:List Nat):Inst×Int:=if (linesR b).2≠0 then (Inst.zero,(linesR b).2) else parseL (linesR b).1
theorem linesF_len (b:List Nat):∀f i a l,linesF b f i a=some l→l.length≤a.length+f
 |0,i,a,l,h=>by simp [linesF] at h;subst h;simp
 |f+1,i,a,l,h=>by
  rw [linesF] at h
  split at h
  ·split at h
   ·have:=linesF_len b f _ _ _ h
    split at this
    ·omega
    ·rw [List.length_append] at this;simp only [List.length_cons,List.length_nil] at this;omega
   ·cases h
  ·cases h;omega
theorem linesR_len (b:List Nat):(linesR b).1.length≤4097:=by
 unfold linesR
 split
 ·simp
 ·split
  ·simp
  ·rename_i h1 _ a h
   have:=linesF_len b _ _ _ _ h
   simp only [List.length_nil] at this
   show a.length≤4097
   omega
def stopsT (l:List (List Int)) (k:Nat):List (List T):=((l.take k).map stopOf).map Stop.t
theorem stopsT_len {l:List (List Int)} {k:Nat} (h:k≤l.length):(stopsT l k).length=k:=by simp only [stopsT,List.length_map,List.length_take];omega
theorem stopsT_snoc {l:List (List Int)} {k:Nat} (h:k<l.length):stopsT l k++[(stopOf l[k]).t]=stopsT l (k+1):=by simp only [stopsT];rw [List.take_add_one,List.getElem?_eq_getElem h,List.map_append,List.map_append];rfl
theorem parse_pure (b:List Nat) (hb:b.length<2^62) (hb8:∀c∈b,c<256):Pure P 21 [.t (.sl (byt b))] (.tup [(parseR b).1.a,.i (parseR b).2]):=by
 refine pure_of Tryz.func21 rfl rfl (by simp [Tryz.f21]) (by simp [bnd,bnd.bndL]) (by simp [bnd,bnd.bndL,Inst.a]) fun B hB hnx=>?_
 simp only [Tryz.f21] at hB ⊢
 generalize hR:parseR b=R
 rw [parseR] at hR
 have hm:mostLen=4294967296:=rfl
 refine K_run hB 60 ?_
 simp [go_sem]
 refine K_call rfl rfl rfl (args:=[.t (.sl (byt b))]) (f:=47) (by simp [go_sem]) (by simp [go_sem,hB]) ((lines_pure b hb hb8).spec _ _) ?_
 have hlen:=linesR_len b
 rcases hle:linesR b with ⟨l,e⟩
 rw [hle] at hR hlen
 simp only at hR hlen
 by_cases he:e=0
 rotate_left
 ·rw [if_pos he] at hR
  subst hR
  refine K_run hB 60 ?_
  simp [go_sem,he,Inst.zero,Inst.a]
 subst he
 rw [if_neg (by simp),parseL] at hR
 cases l with
 |nil=>
  rw [if_pos (.inl rfl)] at hR
  subst hR
  refine K_run hB 60 ?_
  simp [go_sem,Inst.zero,Inst.a]
 |cons r l=>
  simp only [List.headD_cons,List.drop_succ_cons,List.drop_zero] at hR
  have hri:(ints r).length=r.length:=List.length_map _
  have h10:¬(l.length:Int)+1=0:=by omega
  by_cases h3:(r.length:Int)=3
  rotate_left
  ·rw [if_pos (.inr (.inl (by omega)))] at hR
   subst hR
   refine K_run hB 60 ?_
   simp [go_sem,rowT,hri,h3,h10,Inst.zero,Inst.a]
  have hall:∀y∈l.map rowT,y.length=1:=by
   intro y hy
   obtain ⟨n,_,rfl⟩:=List.mem_map.1 hy
   rfl
  have h11:(1:Int)≤l.length+1:=by omega
  refine K_run hB 60 ?_
  simp [go_sem,rowT,hri,h3,h10,h11]
  have hll:l.length<2^62:=by simp only [List.length_cons] at hlen;omega
  refine K_call rfl rfl rfl (args:=[.t (.sl (l.map rowT)),.fn (.func 48) [] []]) (f:=49) (by simp [go_sem,rowT]) (by simp [go_sem,hB]) ((contains_pure l hll).spec _ _) ?_
  by_cases ha:l.any oddB=true
  ·rw [if_pos (.inr (.inr ha))] at hR
   subst hR
   rw [ha]
   refine K_run hB 60 ?_
   simp [go_sem,Inst.zero,Inst.a]
  have ha':l.any oddB=false:=by simpa using ha
  rw [if_neg (by simp;exact ⟨by omega,by simpa using ha'⟩)] at hR
  rw [ha']
  refine K_run hB 60 ?_
  simp [go_sem]
  obtain ⟨x,y,z,rfl⟩:∃x y z,r=[x,y,z]:=by
   match r,h3 with
   |[x,y,z],_=>exact ⟨x,y,z,rfl⟩
  refine K_drawnF [16,17] [0,1,2,3,4,5,6,7,8,9,10,11,12,13,14,15] rfl (by rw [hB];kernel_rfl) (by kernel_rfl) fun ht hf=>?_
  refine K_run hB 150 ?_
  simp [go_sem,ints,rowT,h11,ht,hf]
  have hodd:∀a∈l,a.length=6:=by
   intro a h
   have:=List.any_eq_false.1 ha' a h
   simpa [oddB] using this
  refine K_loopP (α:=Nat×Nat×(Nat→AObj)×Nat) (fun (k,j,σ,nx)=>k≤l.length∧σ 0= .box [.i 0,.i 0,.i 0,.fsl []]∧σ 1= .box [.i x,.i y,.i z,.ref j]∧σ j= .arr 6 (stopsT l k)∧1<j∧j<nx)
   (fun (k,j,σ,nx)=>⟨sl [(2,.ptr 0 0),(3,.i 0),(7,.ptr 1 0),(53,.t (.sl (l.map rowT))),(54,.i l.length),(55,.i k)],σ,nx⟩) (fun x=>l.length-x.1) (0,2,_,3) ?_
   ((Imp.ownB (b:=1) (off:=3) (sz:=6) (cs:=[.i x,.i y,.i z,.fsl []]) (by simp [oput]) rfl).trans (Imp.slots (by simp [go_sem,rowT]) rfl rfl)) ?_
  ·exact ⟨Nat.zero_le _,by simp [oput],by simp [oput],by simp [oput,stopsT],by omega,by omega⟩
  rintro ⟨k,j,σ,nx⟩ ⟨g1,g2,g3,g4,g5,g6⟩
  refine K_run hB 8 ?_
  simp [go_sem]
  refine fork_dec (fun hk=>?_) (fun hk=>?_)
  ·have hti:=stopsT_snoc hk
   have hkk:IntKind.i64.wrap ((k:Int)+1)=((k+1:Nat):Int):=by rw [w64 ((k:Int)+1) (by omega)];rfl
   have ho6:=hodd l[k] (List.getElem_mem hk)
   have hlt:=stopsT_len g1
   generalize stopsT l k=L at g4 hti hlt
   generalize ha:l[k]=a at *
   have hcap:k+1≤mostLen:=by simp only [List.length_cons] at hlen;omega
   have hst:=stop_pure a ho6
   generalize stopOf a=d at *
   simp [go_sem]
   refine K_run hB 60 ?_
   simp [go_sem,rowT,hk,ha]
   refine K_drawnT [5,7] rfl (by rw [hB];kernel_rfl) (by kernel_rfl) fun ht=>?_
   refine K_run hB 60 ?_
   simp [go_sem,ht,g3]
   refine K_dCallP rfl rfl rfl (args:=[.t (.sl (ints a))]) (f:=50) (by simp [go_sem]) hst ?_
   refine K_run hB 60 ?_
   simp [go_sem,ht,g3,g4,hlt,hcap,hkk,Stop.t,show ¬1=j by omega,show ¬1=nx by omega]
   refine Next.mk (k+1,nx,_,nx+1) ?_ (Imp.slots (by simp [go_sem,rowT]) rfl rfl) (by simp only;omega)
   refine ⟨by simp only;omega,?_,?_,?_,by simp only;omega,by simp only;omega⟩
   ·simp [oput,show ¬0=nx by omega,show ¬0=j by omega,g2]
   ·simp [oput]
   ·simp only [←hti]
    simp [oput,show ¬nx=1 by omega,Stop.t]
  ·have:k=l.length:=by omega
   subst this
   simp [go_sem]
   have e:stopsT l l.length=(instOf ([x,y,z] :: l)).stops.map Stop.t:=by simp only [stopsT,List.take_length,instOf]
   rw [e] at g4
   have hm:=may_pure (instOf ([x,y,z] :: l)) (by simp only [instOf,List.length_map];omega)
   have ex:(instOf ([x,y,z] :: l)).pairs=x:=rfl
   have ey:(instOf ([x,y,z] :: l)).cars=y:=rfl
   have ez:(instOf ([x,y,z] :: l)).room=z:=rfl
   generalize instOf ([x,y,z] :: l)=J at *
   subst ex ey ez
   have h0j:¬0=j:=by omega
   have h1j:¬1=j:=by omega
   refine K_impK ((Imp.freeze (q:=j) g4).trans (Sub.of (n:=2) (l:=[(2,.ptr 0 0),(7,.ptr 1 0)]) (o:=[(0,.box [.i 0,.i 0,.i 0,.fsl []]),(1,.box [.i J.pairs,.i J.cars,.i J.room,.t (.sl (J.stops.map Stop.t))])]) (by omega) (by simp only;omega) (by simp [go_sem,frz1]) (by simp [go_sem,frzO,frz1,frz1.frzL,g2,g3,h0j,h1j]))) rfl ?_
   refine K_run hB 60 ?_
   simp [go_sem]
   refine K_call rfl rfl rfl (args:=[J.a]) (f:=33) (by simp [go_sem,Inst.a]) (by simp [go_sem,hB]) (hm.spec _ _) ?_
   cases hmay:J.may with
   |true=>
    rw [hmay,if_pos rfl] at hR
    subst hR
    refine K_run hB 60 ?_
    simp [go_sem,Inst.a]
   |false=>
    rw [hmay,if_neg (by simp)] at hR
    subst hR
    refine K_run hB 60 ?_
    simp [go_sem,Inst.a,Inst.zero]
end Go.Proofs.YtackfabapangdaaGreat

set_option maxRecDepth 4000
namespace Go.Proofs.YtackfabapangdaaGreat
open Go Go.Proofs.YtackfabapangdaaGreat.R
def smallB:List Nat:=[49,32,49,32,53,10,48,32,48,32,48,32,48,32,49,48,48,32,48,10,51,32,48,32,50,32,48,32,53,48,32,49,10,48,32,52,32,45,50,32,48,32,57,48,32,49,10]
def smallS:ByteArray:=⟨(smallB.map UInt8.ofNat).toArray⟩
def small:Inst:=⟨1,1,5,[⟨0,0,0,0,100,0⟩,⟨3,0,2,0,50,1⟩,⟨0,4,-2,0,90,1⟩]⟩
theorem small_parse:parseR smallB=(small,0):=by
 have h:linesR smallB=([[1,1,5],[0,0,0,0,100,0],[3,0,2,0,50,1],[0,4,-2,0,90,1]],0):=by decide+kernel
 rw [parseR,h]
 rfl
theorem small_bytes:bytesT smallS=byt smallB:=by
 simp [bytesT,smallS,byt,smallB]
theorem small_pure:Pure P 27 [] (.t (.v (.string smallS))):=by
 refine pure_of Tryz.func27 rfl rfl (by simp [Tryz.f27]) (by simp) (by simp [bnd]) fun B hB hnx=>?_
 simp only [Tryz.f27] at hB ⊢
 refine K_run hB 60 ?_
 simp [go_sem,smallS,smallB]
end Go.Proofs.YtackfabapangdaaGreat
