/- Parts of the proof. -/
import Derived.Test.YtnoifgjiipgpoaaGreatDoorMB
import Derived.KernelRfl
import Derived.Laws.StructEq
import Derived.Laws.ComplexArith
import Derived.WalkKit
import Derived.ProofKit
import Derived.OpenShut
import Derived.Carry
import Derived.RangeFuncIn
import Derived.Laws.Cover3
import Derived.ChangeKeysEq
set_option linter.all false
set_option maxHeartbeats 4000000
namespace Go.Proofs.YtnoifgjiipgpoaaGreatDoor.R
open Go.RowKit
attribute [go_sem] one bW y6 sK cP sL St.upd fJ.on ev rI pT fN p8 pZ nD aAC zC cellsOf mQ qH kP cW jJ cB TI.isAgg asInt pK uX bound uV tG rB sM kR zW aE2 uH cH jS callee zM kK iK gV gV.frzL aE aE.bndL dG iP
abbrev AV.i (n:Int):AV:=.t (.v (.int .i64 n))
abbrev AV.u (n:Int):AV:=.t (.v (.int .u64 n))
abbrev AV.b (b:Bool):AV:=.t (.v (.bool b))
abbrev T.i (n:Int):T:=.v (.int .i64 n)
theorem aO (n:Int) (h: -9223372036854775808≤n∧n≤9223372036854775807):IntKind.i64.wrap n=n:=by simp only [IntKind.wrap,IntKind.bits,IntKind.signed];simp;split<;>omega
theorem u64 (n:Int) (h:0≤n∧n≤18446744073709551615):IntKind.u64.wrap n=n:=by simp only [IntKind.wrap,IntKind.bits,IntKind.signed];simp;omega
theorem u8w (n:Int) (h:0≤n∧n≤255):IntKind.u8.wrap n=n:=by simp only [IntKind.wrap,IntKind.bits,IntKind.signed];simp;omega
theorem aV5 (x y:Int):(if x<y then y else x)=max x y:=by omega
theorem aV6 (x y:Int):(if y<x then y else x)=min x y:=by omega
@[go_sem] theorem bH2 {k k':IntKind} (x y:Int) (r:List AV):dV (fun y x=>decide (y>x)) k x (.t (.v (.int k' y)) :: r)=dV (fun y x=>decide (y>x)) k (max x y) r:=by simp only [dV,decide_eq_true_eq];rw [←aV5]
@[go_sem] theorem bH3 {k k':IntKind} (x y:Int) (r:List AV):dV (fun y x=>decide (y<x)) k x (.t (.v (.int k' y)) :: r)=dV (fun y x=>decide (y<x)) k (min x y) r:=by simp only [dV,decide_eq_true_eq];rw [←aV6]
@[go_sem] theorem bH4 {k:IntKind} (f:Int→Int→Bool) (x:Int):dV f k x []=some x:=rfl
@[go_sem] theorem bH0 (a b:Nat):((a:Int)=(b:Int))=(a=b):=by simp only [eq_iff_iff];omega
@[go_sem] theorem bHY (a b:Int):(a==b)=decide (a=b):=by by_cases h:a=b<;>simp [h]
@[go_sem] theorem bHZ (a b:Int):(a != b)= !decide (a=b):=by by_cases h:a=b<;>simp [h]
def aJ (l:List Int):List (List T):=l.map fun n=>[.i n]
section
variable {P:Program} {B:cD} {k:List KI} {R:dZ} {s:St}
@[go_sem] theorem bHU {J:St→Prop}:Kp P B [.again J] R .normal s=J s:=rfl
@[go_sem] theorem bHV {e:Exit}:Kp P B [.fin e] R .normal s=R e s:=rfl
@[go_sem] theorem bHW {l:Nat} {J:Nat→St→Prop}:Kp P B [.fin (.goto l),.lab J] R .normal s=J l s:=rfl
@[go_sem] theorem bHX {e:Exit}:Kp P B [] R e s=R e s:=rfl
def sl:List (Nat×AV)→bX
 |[],_=>.any
 |(j,v) :: l,i=>if i=j then v else sl l i
def ob:List (Nat×aG)→Nat→aG
 |[],_=>.dead
 |(j,v) :: l,i=>if i=j then v else ob l i
@[go_sem] theorem bC4 (i:Nat):sl [] i= .any:=rfl
@[go_sem] theorem bC3 (j:Nat) (v:AV) (l:List (Nat×AV)) (i:Nat):sl ((j,v) :: l) i=if i=j then v else sl l i:=rfl
@[go_sem] theorem bH7 (i:Nat):ob [] i= .dead:=rfl
@[go_sem] theorem bH6 (j:Nat) (v:aG) (l:List (Nat×aG)) (i:Nat):ob ((j,v) :: l) i=if i=j then v else ob l i:=rfl
@[go_sem] theorem bH5 (i:Nat):dR i= .dead:=rfl
@[go_sem] theorem bIA (m:bX) (v:AV):put m none v=m:=rfl
@[go_sem] theorem bH9 (m:bX) (d:Nat) (v:AV) (i:Nat):put m (some d) v i=if i=d then v else m i:=rfl
@[go_sem] theorem bH8 (σ:Nat→aG) (q:Nat) (o:aG) (i:Nat):aB σ q o i=if i=q then o else σ i:=rfl
@[go_sem] theorem bID (avs:List AV) (i:Nat):mB avs i=avs.getD i (.tup []):=rfl
theorem bC2 {n:Nat} (l:List (Nat×AV)) (h:∀p∈l,s.m p.1=p.2∧aE n p.2=true) (i:Nat):sl l i= .any∨(sl l i=s.m i∧aE n (sl l i)=true):=by
 induction l with
 |nil=>exact .inl rfl
 |cons p l ih=>
  obtain ⟨j,v⟩:=p;simp only [sl];split
  ·rename_i e;subst e;obtain ⟨h1,h2⟩:=h (i,v) (List.mem_cons_self);exact .inr ⟨h1.symm,h2⟩
  ·exact ih fun p hp=>h p (List.mem_cons_of_mem _ hp)
theorem aY2 {n:Nat} (l:List (Nat×aG)) (h:∀p∈l,s.σ p.1=p.2∧dG n p.2=true∧p.1<n) (i:Nat):ob l i= .dead∨(ob l i=s.σ i∧dG n (ob l i)=true∧i<n):=by
 induction l with
 |nil=>exact .inl rfl
 |cons p l ih=>
  obtain ⟨j,v⟩:=p;simp only [ob];split
  ·rename_i e;subst e;obtain ⟨h1,h2,h3⟩:=h (i,v) (List.mem_cons_self);exact .inr ⟨h1.symm,h2,h3⟩
  ·exact ih fun p hp=>h p (List.mem_cons_of_mem _ hp)
theorem eT.of {l:List (Nat×AV)} {o:List (Nat×aG)} {n:Nat} (hb:B.C.nx≤n) (hn:n≤s.nx) (hm:∀p∈l,s.m p.1=p.2∧aE n p.2=true) (ho:∀p∈o,s.σ p.1=p.2∧dG n p.2=true∧p.1<n):aH B s ⟨sl l,ob o,n⟩:=eT.imp
 ⟨bC2 l hm,hn,hb,aY2 o ho⟩
theorem j9.pure {r0 r:AV} (hr:r=gV s.σ r0) (hb:aE 0 r=true):j9 0 s r0 dR 0 r:=
 ⟨fun _=>.inl rfl,Nat.zero_le _,Nat.le_refl _,.inr ⟨fun _=>rfl,hr⟩,.inr hb⟩
theorem aH.keep {l:List (Nat×AV)} (hm:∀p∈l,s.m p.1=p.2):aH B s ⟨sl l,s.σ,s.nx⟩:=by
 refine aH.same (fun i=>?_) (fun i=>.inr rfl) rfl
 induction l with
 |nil=>exact .inl rfl
 |cons p l ih=>
  obtain ⟨j,v⟩:=p;show (if i=j then v else sl l i)= .any∨(if i=j then v else sl l i)=s.m i;split
  ·rename_i e;subst e;exact .inr (hm (i,v) List.mem_cons_self).symm
  ·exact ih fun p hp=>hm p (List.mem_cons_of_mem _ hp)
theorem aH.slots {l:List (Nat×AV)} {σ':Nat→aG} {n:Nat} (hm:∀p∈l,s.m p.1=p.2) (hσ:σ'=s.σ) (hn:n=s.nx):aH B s ⟨sl l,σ',n⟩:=by subst hσ hn;exact aH.keep hm
def Next {α:Type} (B:cD) (I:α→Prop) (st:α→St) (μ:α→Nat) (x:α) (s:St):Prop:=∃y,I y∧aH B s (st y)∧μ y<μ x
theorem Next.mk {α:Type} {I:α→Prop} {st:α→St} {μ:α→Nat} {x:α} (y:α) (h1:I y) (h2:aH B s (st y)) (h3:μ y<μ x):Next B I st μ x s:=⟨y,h1,h2,h3⟩
theorem bA {α:Type} (I:α→Prop) (st:α→St) (μ:α→Nat) (a0:α) (hI:I a0) {c:Code} (h0:aH B s (st a0))
  (round:∀a,I a→Kp P B (.code c :: .again (Next B I st μ a) :: k) R .normal (st a)):Kp P B (.code (.loop c) :: k) R .normal s:=by
 intro ac w hr;refine aTT (fun (x:{a // I a}) a w=>dJ B (st x.1) a w) (fun x=>μ x.1) ⟨a0,hI⟩ (h0 _ _ hr) fun x a w hx=>fU (round x.1 x.2 a w hx) fun e a' w' hp=>?_
 obtain ⟨s',h1,h2⟩:=hp;cases e with
 |normal=>obtain ⟨y,h3,h4,h5⟩:=h1;exact ⟨⟨y,h3⟩,h4 _ _ h2,h5⟩
 |_=>exact ⟨s',h1,h2⟩
theorem wW {α:Type} (l:Nat) (I:α→Prop) (st:α→St) (μ:α→Nat) {c rest:Code} (hf:findLabel c l=some rest)
  (first:Kp P B (.code c :: .lab (fun l' s'=>l'=l∧∃y,I y∧aH B s' (st y)) :: k) R .normal s)
  (pass:∀x,I x→Kp P B (.code rest :: .lab (fun l' s'=>l'=l∧Next B I st μ x s') :: k) R .normal (st x)):Kp P B (.code (.scope c) :: k) R .normal s:=by
 intro ac w hr;refine aHP (fun (x:{a // I a}) a w=>dJ B (st x.1) a w) (fun _=>l) (fun x=>μ x.1) (fun _=>rest) (fun _=>hf) (fU (first ac w hr) fun e a' w' hp=>?_) fun x a w hx=>fU (pass x.1 x.2 a w hx) fun e a' w' hp=>?_
 ·obtain ⟨s',h1,h2⟩:=hp;cases e with
  |goto l'=>obtain ⟨h0,y,h3,h4⟩:=h1;exact ⟨⟨y,h3⟩,h0.symm,h4 _ _ h2⟩
  |_=>exact ⟨s',h1,h2⟩
 ·obtain ⟨s',h1,h2⟩:=hp;cases e with
  |goto l'=>obtain ⟨h0,y,h3,h4,h5⟩:=h1;exact ⟨⟨y,h3⟩,h0.symm,h4 _ _ h2,h5⟩
  |_=>exact ⟨s',h1,h2⟩
theorem wV {J J':Nat→St→Prop} {c:Code} (hJ:∀l s,J l s→J' l s) (h:Kp P B (.code c :: .lab J :: k) R .normal s):Kp P B (.code c :: .lab J' :: k) R .normal s:=by
 intro a w hr;refine fU (h a w hr) (aD6 fun e s' hp=>?_);cases e with
 |goto l=>exact hJ _ _ hp
 |_=>exact hp
theorem aQS {α:Type} {l:Nat} {b:Code} (I:α→Prop) (st:α→St) (μ:α→Nat) (x0:α) (h0:I x0) (hs:aH B s (st x0))
  (pass:∀x,I x→Kp P B (.code b :: .lab (fun l' s'=>l'=l∧Next B I st μ x s') :: k) R .normal (st x)):Kp P B (.code (.scope (.seq (.label l) b)) :: k) R .normal s:=by
 refine wW (rest:=.seq .skip b) l I st μ (by simp [findLabel]) (o9 (tZ (jB hs (wV ?_ (pass x0 h0))))) fun x hx=>o9 (wX (pass x hx))
 rintro l' s' ⟨h1,y,h2,h3,_⟩;exact ⟨h1,y,h2,h3⟩
theorem qP {α:Type} (l:Nat) {c b:Code} (I:α→Prop) (st:α→St) (μ:α→Nat) (hf:findLabel c l=some (.seq .skip b))
  (pass:∀x,I x→Kp P B (.code b :: .lab (fun l' s'=>l'=l∧Next B I st μ x s') :: k) R .normal (st x))
  (first:∀J:Nat→St→Prop,(∀x s,I x→aH B s (st x)→Kp P B (.code (.seq (.label l) b) :: .lab J :: k) R .normal s)→Kp P B (.code c :: .lab J :: k) R .normal s):
  Kp P B (.code (.scope c) :: k) R .normal s:=by
 refine wW (rest:=.seq .skip b) l I st μ hf (first _ fun x s hx hs=>o9 (tZ (jB hs (wV ?_ (pass x hx))))) fun x hx=>o9 (wX (pass x hx))
 rintro l' s' ⟨h1,y,h2,h3,_⟩;exact ⟨h1,y,h2,h3⟩
theorem cA {f:FuncId} {fn:Func} {c:Code} (hf:P.funcs[f]? =some fn) (hb:fn.body=some c) (hname:(fn.name== "runtime.NumGoroutine")=false) {args:List AV} {σ:Nat→aG} {nx:Nat} (hn:args.length≤fn.ntmps) {S:AV→(Nat→aG)→Nat→Prop}
  (h:∀B:cD,B.n=fn.ntmps→B.C.nx=nx→B.σ=σ→Kp P B [.code c] (fun e s=>(e= .ret∨e= .normal)∧nx≤s.nx∧∃rs,kK P s fn.results.toList=some rs∧S (iK rs) s.σ s.nx) .normal ⟨mB args,σ,nx⟩):
  bN P f args σ nx S:=by
 refine aOL hf hb hname hn fun B h1 h2 h3=>?_
 refine fun a w hrel=>fU (h B h1 h2 h3 a w hrel) fun e a' w' hp=>?_
 obtain ⟨s',⟨he,h0,rs,h4,h5⟩,h8⟩:=hp;refine ⟨s',⟨iK rs,s'.σ,s'.nx,h5,?_⟩,h8⟩;have:j9 nx s' (iK rs) s'.σ s'.nx (iK rs):=⟨fun i=>.inr ⟨rfl,.inl rfl⟩,Nat.le_refl _,h0,.inl rfl,.inl rfl⟩;rcases he with rfl | rfl
 ·exact ⟨rs,h4,this⟩
 ·exact ⟨rs,h4,this⟩
theorem zI {t sz:Nat} (h:s.m t= .fsl []) {a:Act} {w:World} (hr:dJ B s a w):dJ B ⟨put s.m (some t) (.ref s.nx),aB s.σ s.nx (.arr sz []),s.nx+1⟩ a w:=by
 obtain ⟨C,h1,h2,h3,h4,h5,h6⟩:=hr;have ht:=h2 t;rw [h] at ht
 obtain ⟨ad,hv⟩:∃ad,a.tmps.getD t undef= .slice ad 0 0:=by
  generalize a.tmps.getD t undef=u at ht;cases ht with
  |fsl h=>exact ⟨_,rfl⟩
 obtain ⟨C',hC⟩:∃C':aZ,C'=⟨C.imm,fun i=>if i=C.nx then none else C.own i,fun i=>if i=C.nx then .slice ad 0 0 else C.hdr i,C.nx+1⟩:=⟨_,rfl⟩;obtain ⟨g1,g2⟩:=zU h5 (.arr sz []) (.slice ad 0 0) C' hC ⟨fun e he=>(by cases he),.inl ⟨rfl,by rw [hC];simp,ad,by rw [hC];simp⟩⟩;rw [h1] at g1 g2;refine ⟨C',by rw [hC,h1],fun i=>?_,h3,h4.step g2,g1,h6.trans g2⟩;by_cases hi:i=t
 ·subst hi;have:put s.m (some i) (.ref s.nx) i= .ref s.nx:=if_pos rfl;show aN w C' (put s.m (some i) (.ref s.nx) i) _;rw [this,hv];exact .ref (by rw [hC,h1];exact Nat.lt_succ_self _) (by rw [hC,h1];simp)
 ·have:put s.m (some t) (.ref s.nx) i=s.m i:=if_neg hi;show aN w C' (put s.m (some t) (.ref s.nx) i) _;rw [this];exact (h2 i).step h5 g2
theorem jC (t sz:Nat) {c:Code} (h:s.m t= .fsl []) (hk:Kp P B (.code c :: k) R .normal ⟨put s.m (some t) (.ref s.nx),aB s.σ s.nx (.arr sz []),s.nx+1⟩):Kp P B (.code c :: k) R .normal s:=
 fun a w hr=>hk a w (zI h hr)
theorem aW {f:FuncId} {fn:Func} {c:Code} (hf:P.funcs[f]? =some fn) (hb:fn.body=some c) (hname:(fn.name== "runtime.NumGoroutine")=false) {args:List AV} {r:AV} (hn:args.length≤fn.ntmps) (ha:args.all (aE 0)=true) (hr:aE 0 r=true)
  (h:∀B:cD,B.n=fn.ntmps→B.C.nx=0→Kp P B [.code c] (fun e s=>(e= .ret∨e= .normal)∧∃rs,kK P s fn.results.toList=some rs∧gV s.σ (iK rs)=r) .normal ⟨mB args,dR,0⟩):Pure P f args r:=by
 refine ⟨fun a h=>List.all_eq_true.1 ha a h,hr,vS hf hb hname hn fun B h1 h2 _=>?_⟩;refine fun a w hrel=>fU (h B h1 h2 a w hrel) fun e a' w' hp=>?_
 obtain ⟨s',⟨he,rs,h3,h4⟩,h5⟩:=hp;refine ⟨s',?_,h5⟩;rcases he with rfl | rfl
 ·exact ⟨rs,h3,j9.pure h4.symm hr⟩
 ·exact ⟨rs,h3,j9.pure h4.symm hr⟩
end
end Go.Proofs.YtnoifgjiipgpoaaGreatDoor.R
namespace Go.Proofs.YtnoifgjiipgpoaaGreatDoor.R
open Go.RowKit
def bB (q:Nat) (es:List (List T)):AV→AV
 | .ref i=>if i=q then .t (.sl es) else .ref i
 | .agg cs=>.agg (frzL q es cs)
 | .tup cs=>.tup (frzL q es cs)
 |a=>a
  where
 frzL (q:Nat) (es:List (List T)):List AV→List AV
 |[]=>[]
 |c :: cs=>bB q es c :: frzL q es cs
def dC (q:Nat) (es:List (List T)):aG→aG
 | .box cs=>.box (bB.frzL q es cs)
 |o=>o
section
variable {P:Program} {B:cD} {k:List KI} {R:dZ} {s:St}
theorem yA {q:Nat} {es:List (List T)}:∀{cs:List AV} {k:Nat} {a:AV},(bB.frzL q es cs)[k]? =some a→∃b,cs[k]? =some b∧a=bB q es b
 |[],k,a,h=>by simp [bB.frzL] at h
 |c :: cs,k,a,h=>by
  cases k with
  |zero=>simp [bB.frzL] at h;exact ⟨c,rfl,h.symm⟩
  |succ k=>simp only [bB.frzL,List.getElem?_cons_succ] at h;obtain ⟨b,h1,h2⟩:=yA h;exact ⟨b,by simpa using h1,h2⟩
theorem yB {q:Nat} {es:List (List T)}:∀(cs:List AV),(bB.frzL q es cs).length=cs.length
 |[]=>rfl
 |c :: cs=>by simp only [bB.frzL,List.length_cons,yB cs]
theorem aJK {w:World} {C C':aZ} {σ:Nat→aG} {q sz:Nat} {es:List (List T)} (hs:bC C σ w) (hq:σ q= .arr sz es) (hC:C'={C with imm:=fun b=>C.imm b∨C.own q=some b}) {x:AV} {v:Value} (h:aN w C x v):aN w C' (bB q es x) v:=by
 have hi:∀b,C'.imm b↔(C.imm b∨C.own q=some b):=fun b=>by rw [hC]
 have hk:eD w C.imm w C'.imm:=⟨fun b hb=>(hi b).2 (.inl hb),fun _ _=>rfl⟩;have hc:gC C C':=by subst hC;exact ⟨Nat.le_refl _,fun _ _=>rfl,fun _ _=>rfl⟩
 induction h with
 |t h=>exact (aN.t h).keeps hk hc
 |agg hl _ ih=>
  simp only [bB];refine .agg (by rw [yB];exact hl) fun k a u ha hu=>?_
  obtain ⟨b,h1,rfl⟩:=yA ha;exact ih k b u h1 hu
 |tup hl _ ih=>
  simp only [bB];refine .tup (by rw [yB];exact hl) fun k a u ha hu=>?_
  obtain ⟨b,h1,rfl⟩:=yA ha;exact ih k b u h1 hu
 |fsl h=>exact (aN.fsl h).keeps hk hc
 |@ref i n c a h1 h2=>
  simp only [bB];split
  ·rename_i e;subst e;have hob:=hs.obj i;rw [hq] at hob;obtain ⟨e1,e2,e3⟩:=uI hob h2;subst e1;refine .t ?_;rcases Nat.eq_zero_or_pos es.length with h0 | h0
   ·have:es=[]:=List.eq_nil_of_length_eq_zero h0;subst this;exact .nil
   ·obtain ⟨ad,rfl,hcell⟩:=e3.2 h0
    have hown:C.own i=some ad.block:=by
     obtain ⟨_,⟨e0,_⟩ | ⟨bl,cap,vs,E,lo,hi',ho1,ho2,_⟩⟩:=hob
     ·subst e0;simp at h0
     ·rw [h2] at ho2;cases ho2;exact ho1
    have hx:∀m,m<es.length*sz→∃u,w.cell? (ad.add m)=some u:=by intro m hm;obtain ⟨e,he,_,hmod,e1⟩:=rC e3.1 hm;have hel:=e3.1 e (List.mem_of_getElem? he);obtain ⟨u,g1,_⟩:=hcell (m / sz) (m % sz) e _ he (List.getElem?_eq_getElem (by omega));rw [←e1] at g1;exact ⟨u,g1⟩
    refine .sl (u:=fun m=>(w.cell? (ad.add m)).getD undef) h0 e3.1 e2 ((hi _).2 (.inr hown)) (fun m hm=>?_) (fun j m e ct he hct=>?_)
    ·obtain ⟨u,hu⟩:=hx m hm;rw [hu];rfl
    ·obtain ⟨u,g1,g2⟩:=hcell j m e ct he hct;show bT w C'.imm ct ((w.cell? (ad.add (j*sz+m))).getD undef);rw [g1];exact g2.keeps hk
  ·exact (aN.ref h1 h2).keeps hk hc
 |ptr h1 h2=>exact (aN.ptr h1 h2).keeps hk hc
 |rd h1 h2 h3=>exact (aN.rd h1 h2 h3).keeps hk hc
 |el h1 h2 h3=>exact (aN.el h1 h2 h3).keeps hk hc
 |cut h1 h2 h3=>exact (aN.cut h1 h2 h3).keeps hk hc
 |ifc h1 h2=>exact (aN.ifc h1 h2).keeps hk hc
 |mapr h1 h2=>exact (aN.mapr h1 h2).keeps hk hc
 |yld h1 h2=>exact (aN.yld h1 h2).keeps hk hc
 |fn h1 h2 h3 h4 _ _=>exact (aN.fn h1 h2 h3 h4).keeps hk hc
 |any=>exact .any
theorem aH.freeze {q sz:Nat} {es:List (List T)} (hq:s.σ q= .arr sz es):aH B s ⟨fun i=>bB q es (s.m i),fun j=>if j=q then .dead else dC q es (s.σ j),s.nx⟩:=by
 intro a w hr;obtain ⟨C,h1,h2,h3,h4,h5,h6⟩:=hr;obtain ⟨C',hC⟩:∃C':aZ,C'={C with imm:=fun b=>C.imm b∨C.own q=some b}:=⟨_,rfl⟩;obtain ⟨g1,g2⟩:=bCW h5 q (by rw [hq];exact (fun h=>by cases h)) C' hC
 have hd:∀j,(if j=q then aG.dead else dC q es (s.σ j))= .dead↔(if j=q then aG.dead else s.σ j)= .dead:=by
  intro j;by_cases e:j=q
  ·simp [e]
  ·simp only [if_neg e];cases s.σ j<;>simp [dC]
 have hg:bC C' (fun j=>if j=q then .dead else dC q es (s.σ j)) w:=by
  refine ⟨fun i hi=>(hd i).2 (g1.dead i hi),fun i=>?_,fun i j b hi hj=>g1.inj i j b (fun e=>hi ((hd i).2 e)) (fun e=>hj ((hd j).2 e)),fun i b hi=>g1.sep i b (fun e=>hi ((hd i).2 e)),g1.imm_lt⟩;have ho:=g1.obj i;by_cases e:i=q
  ·simp only [if_pos e];exact True.intro
  ·simp only [if_neg e] at ho ⊢;have ho':=h5.obj i;cases hσ:s.σ i with
   |box cs=>rw [hσ] at ho ho';obtain ⟨bl,vs,E,e1,e2,e3,e4⟩:=ho';refine ⟨bl,vs,E,by rw [hC];exact e1,e2,by rw [yB];exact e3,fun k a u ha hu=>?_⟩;obtain ⟨b,hb,rfl⟩:=yA ha;exact aJK h5 hq hC (e4 k b u hb hu)
   |_=>rw [hσ] at ho;exact ho
 refine ⟨C',by rw [hC];exact h1,fun i=>aJK h5 hq hC (h2 i),h3,(h4.step g2).less (fun b hb=>.inl hb) (fun b ⟨i,hi,hb⟩=>.inr ⟨i,(fun e=>hi ((hd i).2 e)),hb⟩),hg,h6.trans ⟨g2.le,g2.os,g2.tape,g2.output,g2.size,g2.imm,g2.same,fun b ⟨i,hi,hb⟩=>g2.wr b ⟨i,fun e=>hi ((hd i).2 e),hb⟩,g2.imm'⟩⟩
theorem aH.ownB {b off sz:Nat} {cs:List AV} (hb:s.σ b= .box cs) (hc:cs[off]? =some (.fsl [])):
  aH B s ⟨s.m,aB (aB s.σ b (.box (cs.set off (.ref s.nx)))) s.nx (.arr sz []),s.nx+1⟩:=by
 intro a w hr;obtain ⟨C,h1,h2,h3,h4,h5,h6⟩:=hr;have hob:=h5.obj b;rw [hb] at hob;obtain ⟨bl,vs,E,e1,e2,e3,e4⟩:=hob;have hlt:off<vs.size:=by have:=(List.getElem?_eq_some_iff.1 hc).1;omega
 have hrep:=e4 off _ vs[off] hc (Array.getElem?_eq_getElem hlt)
 obtain ⟨ad,hv⟩:∃ad,vs[off]= .slice ad 0 0:=by
  generalize vs[off]=u at hrep;cases hrep with
  |fsl h=>exact ⟨_,rfl⟩
 have hbl:b<C.nx:=iV h5 (by rw [hb];exact (fun h=>by cases h));obtain ⟨C',hC⟩:∃C':aZ,C'=⟨C.imm,fun i=>if i=C.nx then none else C.own i,fun i=>if i=C.nx then .slice ad 0 0 else C.hdr i,C.nx+1⟩:=⟨_,rfl⟩;obtain ⟨g1,g2⟩:=zU h5 (.arr sz []) (.slice ad 0 0) C' hC ⟨fun e he=>(by cases he),.inl ⟨rfl,by rw [hC];simp,ad,by rw [hC];simp⟩⟩
 have hd:∀j,aB (aB s.σ b (.box (cs.set off (.ref s.nx)))) s.nx (.arr sz []) j= .dead↔(if j=C.nx then aG.arr sz [] else s.σ j)= .dead:=by
  intro j;simp only [aB,h1];split
  ·simp
  ·split
   ·rename_i e;subst e;simp [hb]
   ·rfl
 have hg:bC C' (aB (aB s.σ b (.box (cs.set off (.ref s.nx)))) s.nx (.arr sz [])) w:=by
  refine ⟨fun i hi=>(hd i).2 (g1.dead i hi),fun i=>?_,fun i j b hi hj=>g1.inj i j b (fun e=>hi ((hd i).2 e)) (fun e=>hj ((hd j).2 e)),fun i b hi=>g1.sep i b (fun e=>hi ((hd i).2 e)),g1.imm_lt⟩;have ho:=g1.obj i;simp only [aB,←h1] at ho ⊢;by_cases e:i=C.nx
  ·simp only [if_pos e] at ho ⊢;exact ho
  ·simp only [if_neg e] at ho ⊢;by_cases eb:i=b
   ·subst eb;simp only [if_true];refine ⟨bl,vs,E,by rw [hC];simp [e,e1],e2,by simpa using e3,fun k x u hx hu=>?_⟩;by_cases ek:k=off
    ·subst ek;rw [List.getElem?_set_self (by omega)] at hx;cases hx;rw [Array.getElem?_eq_getElem hlt,hv] at hu;cases hu;exact .ref (by rw [hC];exact Nat.lt_succ_self _) (by rw [hC];simp)
    ·rw [List.getElem?_set_ne (fun h=>ek h.symm)] at hx;exact (e4 k x u hx hu).step h5 g2
   ·simp only [if_neg eb];exact ho
 refine ⟨C',by rw [hC,h1],fun i=>(h2 i).step h5 g2,h3,(h4.step g2).less (fun b hb=>.inl hb) (fun b ⟨i,hi,hb⟩=>.inr ⟨i,(fun e=>hi ((hd i).2 e)),hb⟩),hg,h6.trans ⟨g2.le,g2.os,g2.tape,g2.output,g2.size,g2.imm,g2.same,fun x ⟨i,hi,hx⟩=>g2.wr x ⟨i,fun e=>hi ((hd i).2 e),hx⟩,g2.imm'⟩⟩
end
end Go.Proofs.YtnoifgjiipgpoaaGreatDoor.R
namespace Go.Proofs.YtnoifgjiipgpoaaGreatDoor.R
open Go.RowKit
def sI (P:Program) (f:TypeId→AV→AV→Option Bool):List Field→List AV→List AV→Option Bool
 |[],_,_=>some true
 |fd :: r,xs,ys=>if fd.name= "_" then none else match TT P fd.type with
  |some i=>match jJ i xs fd.offset,jJ i ys fd.offset with
   |some a,some b=>match f fd.type a b,sI P f r xs ys with
    |some p,some q=>some (p&&q)
    |_,_=>none
   |_,_=>none
  |none=>none
def iS (P:Program):Nat→TypeId→AV→AV→Option Bool
 |0,_,_,_=>none
 |d+1,t,x,y=>match TT P t with
  |some ⟨.int _,_,_,_⟩=>match x,y with
   | .t (.v (.int k a)),.t (.v (.int k' b))=>if k=k' then some (decide (a=b)) else none
   |_,_=>none
  |some ⟨.bool,_,_,_⟩=>match x,y with
   | .t (.v (.bool a)),.t (.v (.bool b))=>some (a==b)
   |_,_=>none
  |some ⟨.struct fs,_,_,_⟩=>match x,y with
   | .agg xs,.agg ys=>if P.stoodInHeld t=true then none else sI P (fun t a b=>iS P d t a b) fs.toList xs ys
   |_,_=>none
  |_=>none
section
variable {P:Program}
theorem aUP {w:World} {C:aZ} {d:Nat} {f:TypeId→AV→AV→Option Bool}
  (hf:∀t x y b u v,f t x y=some b→aN w C x u→aN w C y v→(Op.equalIn d t u v).run P w= .ok b w) {xs ys:List AV} {us vs:Array Value} (hx:aN w C (.agg xs) (.agg us)) (hy:aN w C (.agg ys) (.agg vs)):
  ∀(fs:List Field) (b:Bool),sI P f fs xs ys=some b→(Op.eqFields d us vs fs).run P w= .ok b w:=by
 obtain ⟨us',hu',hxl,hxr⟩:=mA hx;obtain ⟨vs',hv',hyl,hyr⟩:=mA hy;cases hu';cases hv';intro fs
 induction fs with
 |nil=>intro b h;simp only [sI] at h;cases h;rfl
 |cons fd r ih=>
  intro b h;simp only [sI] at h;split at h
  ·cases h
  ·rename_i hn;split at h
   ·rename_i i hi;split at h
    ·rename_i a c ha hc;split at h
     ·rename_i p q hp hq;cases h;obtain ⟨u,hu,hru⟩:=vM hi hxl hxr ha;obtain ⟨v,hv,hrv⟩:=vM hi hyl hyr hc;have h1:=hf _ _ _ _ _ _ hp hru hrv;have h2:=ih _ hq;simp only [Op.eqFields,if_pos hn,Sem.run_bind,hu,hv,h1,Result.andThen_ok];cases p
      ·simp
      ·simp only [Bool.not_true,Bool.false_eq_true,if_false,h2,Bool.true_and]
     ·cases h
    ·cases h
   ·cases h
theorem aH8 {w:World} {C:aZ}:∀(d:Nat) (t:TypeId) (x y:AV) (b:Bool) (u v:Value),iS P d t x y=some b→aN w C x u→aN w C y v→(Op.equalIn d t u v).run P w= .ok b w:=by
 intro d
 induction d with
 |zero=>intro t x y b u v h;simp [iS] at h
 |succ d ih=>
  intro t x y b u v h hx hy;simp only [iS] at h;split at h
  ·rename_i ht;split at h
   ·split at h
    ·rename_i hk;subst hk;cases h;obtain ⟨rfl,_⟩:=cK hx;obtain ⟨rfl,_⟩:=cK hy;rw [run_equalIn_int _ _ _ _ _ _ _ (cG ht).1];congr 1
    ·cases h
   ·cases h
  ·rename_i ht;split at h
   ·cases h;obtain ⟨rfl,_⟩:=cK hx;obtain ⟨rfl,_⟩:=cK hy;exact run_equalIn_bool' _ _ _ _ _ (cG ht).1
   ·cases h
  ·rename_i fs _ _ _ ht;split at h
   ·split at h
    ·cases h
    ·rename_i hs;have hund:P.underlying t=some (.struct fs):=(cG ht).1;have hfo:P.fieldsOf t=fs:=by simp [Program.fieldsOf,hund]
     obtain ⟨us',rfl,_,_⟩:=mA hx;obtain ⟨vs',rfl,_,_⟩:=mA hy;rw [run_equalIn_agg _ _ _ _ _ (by rw [hfo];exact hund) (by simpa using hs),hfo];exact aUP (fun t x y b u v h1 h2 h3=>ih t x y b u v h1 h2 h3) hx hy _ _ h
   ·cases h
  ·cases h
def sJ (op:BinOp) (b:Bool):Option Bool:=match op with | .eql=>some b | .neq=>some (!b) | _=>none
theorem aH9 {w:World} {C:aZ} {o:Oper} {op:BinOp} {t t':TypeId} {x y:Operand} {ρa:Operand→AV} {ρ:Operand→Value} {b r:Bool} {xs ys:List AV} (ho:o.op= .binOp op t x y t') (hρ:∀x,aN w C (ρa x) (ρ x))
  (hx:ρa x= .agg xs) (hy:ρa y= .agg ys) (hg:P.eqGuardType P.depth t=false) (h:iS P 10000 t (.agg xs) (.agg ys)=some b) (hr:sJ op b=some r):(execOp ρ o).run P w= .ok (.value (.bool r)) w:=by
 have h1:=hρ x;have h2:=hρ y;rw [hx] at h1;rw [hy] at h2;have h3:=aH8 10000 t _ _ _ _ _ h h1 h2;obtain ⟨us,e1,_,_⟩:=mA h1;obtain ⟨vs,e2,_,_⟩:=mA h2;rw [e1,e2] at h3;cases op<;>simp only [sJ,reduceCtorEq] at hr
 ·cases hr;simp only [execOp,ho,Sem.run_bind,e1,e2,run_eqGuard_agg _ _ _ _ _ _ _ hg,Result.andThen_ok,run_eql_struct,h3,Sem.run_pure]
 ·cases hr;simp only [execOp,ho,Sem.run_bind,e1,e2,run_eqGuard_agg _ _ _ _ _ _ _ hg,Result.andThen_ok,run_neq_struct,h3,Sem.run_pure]
variable {B:cD} {k:List KI} {R:dZ} {s:St}
theorem aHV {all:Array Oper} {i n:Nat} {o:Oper} {m:bX} {op:BinOp} {t t':TypeId} {x y:Operand} {b r:Bool} {xs ys:List AV} (ho':all[i]? =some o) (hl:cZ all m o=some true) (ho:o.op= .binOp op t x y t')
  (hx:ev m x= .agg xs) (hy:ev m y= .agg ys) (hg:P.eqGuardType P.depth t=false) (h:iS P 10000 t (.agg xs) (.agg ys)=some b) (hr:sJ op b=some r) (σ:Nat→aG) (nx:Nat):cO P n all i m σ nx (.b r) σ nx:=by
 intro C a w hn hs hsz hrep ro K Q hK;have hops:=jV (m:=m) ho';have hd:bS all i=o.dst:=by simp [bS,ho']
 simp only [fI,wpOpIn,ho',jG ho' hrep hl,if_true];rw [hd] at hK;exact eW (aH9 ho (cV hrep) (by rw [hops x (by simp [ho,Op.operands])];exact hx) (by rw [hops y (by simp [ho,Op.operands])];exact hy) hg h hr) (hK _ _ C hs hn (bO.refl _ _ _) (.t (.v rfl)))
theorem aAQ {all:Array Oper} {o:Oper} {rest:List Oper} {op:BinOp} {t t':TypeId} {x y:Operand} {b r:Bool} {xs ys:List AV} (hgd:o.guard=none) (ho:o.op= .binOp op t x y t') (hd:cH B.n o.dst=true)
  (hx:ev s.m x= .agg xs) (hy:ev s.m y= .agg ys) (hg:P.eqGuardType P.depth t=false) (h:iS P 10000 t (.agg xs) (.agg ys)=some b) (hr:sJ op b=some r)
  (hk:Kp P B (.ops all rest :: k) R .normal ⟨put s.m o.dst (.b r),s.σ,s.nx⟩):Kp P B (.ops all (o :: rest) :: k) R .normal s:=by
 intro a w hrel;refine iO hgd fun K hK=>?_
 obtain ⟨C,h1,h2,h3,h4,h5,h6⟩:=hrel;refine eW (aH9 ho (cV h2) hx hy hg h hr) ?_;exact hK _ _ (hk _ _ ⟨C,h1,gM h5 (bO.refl _ _ _) h2 (by rw [h3];exact hd) (.t (.v rfl)),by rw [fF];exact h3,by rw [gL];exact h4,h5,h6⟩)
theorem tX {all:Array Oper} {lo:List Nat} {sw:SW} {i:Nat} {pend:List Rc} {o:Oper} {rest:List (Nat×Oper)} {op:BinOp} {t t':TypeId} {x y:Operand} {b r:Bool} {xs ys:List AV} (hl:cZ all s.m o=some true) (ho:o.op= .binOp op t x y t')
  (hx:ev s.m x= .agg xs) (hy:ev s.m y= .agg ys) (hg:P.eqGuardType P.depth t=false) (h:iS P 10000 t (.agg xs) (.agg ys)=some b) (hr:sJ op b=some r)
  (hk:Kp P B (.opsD all lo sw rest pend :: k) R .normal ⟨put s.m o.dst (.b r),s.σ,s.nx⟩):Kp P B (.opsD all lo sw ((i,o) :: rest) pend :: k) R .normal s:=
 bZ.at fun ho'=>bZ.step (loud:=none) (aHV ho' hl ho hx hy hg h hr _ _) (fun _=>.inl (aHV ho' hl ho hx hy hg h hr)) (fun c hc=>by cases hc) (fun _ h=>h) hk
attribute [go_sem] iS sI sJ
end
end Go.Proofs.YtnoifgjiipgpoaaGreatDoor.R
namespace Go.Proofs.YtnoifgjiipgpoaaGreatDoor.R
open Go.RowKit
def aAM (P:Program) (H:TypeId→List T→Prop):List Field→List T→Prop
 |[],ts=>ts=[]
 |fd :: r,ts=>∃a b,ts=a++b∧a.length=P.cellsOf fd.type∧H fd.type a∧aAM P H r b
def gO (P:Program):Nat→TypeId→List T→Prop
 |0,_,_=>False
 |f+1,t,ts=>match P.underlying t with
  |some .bool=>∃b,ts=[.v (.bool b)]
  |some (.int k)=>∃n,ts=[.v (.int k n)]∧(Lit.int k n).wf=true
  |some .string=>∃s,ts=[.v (.string s)]
  |some (.slice e)=>∃es,ts=[.sl es]∧es.length≤maxLen∧∀x∈es,x.length=P.cellsOf e∧gO P f e x
  |some (.struct fs)=>aAM P (fun t ts=>gO P f t ts) fs.toList ts
  |_=>False
def wF (P:Program):Nat→List Field→Option Nat
 |o,[]=>some o
 |o,fd :: r=>if fd.offset=o then wF P (o+P.cellsOf fd.type) r else none
def pV (P:Program):Nat→TypeId→Bool
 |0,_=>false
 |f+1,t=>match P.underlying t with
  |some .bool | some (.int _) | some .string=>true
  |some (.slice e)=>pV P f e&&decide (0<P.cellsOf e)
  |some (.struct fs)=>wF P 0 fs.toList==some (P.cellsOf t)&&fs.toList.all fun fd=>pV P f fd.type
  |_=>false
section
variable {P:Program} {w:World} {H:Type} {enc:TypeId×Value→H} {spare:Nat→Bool} {held:Bool}
abbrev old (w:World):Nat→Prop:=fun b=>b<w.heap.size
theorem aSW {base:Nat} {a:Addr}:∀{n:Nat} {l:List Value},w.cells? base a n=some l→l.length=n∧∀k u,l[k]? =some u→w.cell? (a.add k)=some u:=by
 intro n l h;unfold World.cells? at h;split at h
 ·have key:∀(ks:List Nat) (l:List Value),(ks.mapM fun i=>w.cell? (a.add i))=some l→l.length=ks.length∧∀(k:Nat) (u:Value),l[k]? =some u→∃i,ks[k]? =some i∧w.cell? (a.add i)=some u:=by
   intro ks
   induction ks with
   |nil=>intro l h;simp at h;subst h;exact ⟨rfl,fun k u h=>by simp at h⟩
   |cons i ks ih=>
    intro l h;simp only [List.mapM_cons,Option.bind_eq_bind,Option.bind_eq_some_iff,Option.pure_def,Option.some.injEq] at h;obtain ⟨x,hx,xs,hxs,rfl⟩:=h;obtain ⟨g1,g2⟩:=ih xs hxs;refine ⟨by simp [g1],fun k u hk=>?_⟩;cases k with
    |zero=>simp at hk;subst hk;exact ⟨i,rfl,hx⟩
    |succ k=>exact g2 k u (by simpa using hk)
  obtain ⟨g1,g2⟩:=key _ _ h;refine ⟨by simpa using g1,fun k u hk=>?_⟩;obtain ⟨i,hi,hc⟩:=g2 k u hk;have:i=k:=by obtain ⟨h1,h2⟩:=List.getElem?_eq_some_iff.1 hi;simpa using h2.symm
  rw [←this];exact hc
 ·cases h
theorem aXW {α β:Type} {f:α→Option β}:∀{l:List α} {r:List β},l.mapM f=some r→r.length=l.length∧∀(k:Nat) (x:α),l[k]? =some x→∃y,r[k]? =some y∧f x=some y:=by
 intro l
 induction l with
 |nil=>intro r h;simp at h;subst h;exact ⟨rfl,fun k x h=>by simp at h⟩
 |cons a l ih=>
  intro r h;simp only [List.mapM_cons,Option.bind_eq_bind,Option.bind_eq_some_iff,Option.pure_def,Option.some.injEq] at h;obtain ⟨x,hx,xs,hxs,rfl⟩:=h;obtain ⟨g1,g2⟩:=ih hxs;refine ⟨by simp [g1],fun k u hk=>?_⟩;cases k with
  |zero=>simp at hk;subst hk;exact ⟨x,rfl,hx⟩
  |succ k=>simpa using g2 k u (by simpa using hk)
theorem aSV {a:Addr} {u:Value} (h:w.cell? a=some u):a.block<w.heap.size:=by
 unfold World.cell? at h;cases hb:w.heap[a.block]? with
 |none=>rw [hb] at h;simp at h
 |some o=>exact (Array.getElem?_eq_some_iff.1 hb).1
def aGJ (P:Program) (w:World) (f:Nat) (t:TypeId) (cs:List Value):Prop:=
 ∃ts,gO P f t ts∧ts.length=cs.length∧∀(k:Nat) (a:T) (u:Value),ts[k]? =some a→cs[k]? =some u→bT w (old w) a u
theorem bE8 {f g:Nat} (ih:∀t cs d ps,DataW.trod enc P w 0 spare held f t cs=some (d,ps)→pV P g t=true→aGJ P w f t cs) {cs:List Value}:
  ∀(fs:List Field) (o e:Nat) (xs:List (DataW H×List MemPlace)),wF P o fs=some e→e≤cs.length→(∀fd∈fs,pV P g fd.type=true)→
   (fs.mapM fun fd=>DataW.trod enc P w 0 spare held f fd.type ((cs.drop fd.offset).take (P.cellsOf fd.type)))=some xs→
   o≤e∧∃ts,aAM P (fun t ts=>gO P f t ts) fs ts∧ts.length=e-o∧∀(k:Nat) (a:T) (u:Value),ts[k]? =some a→cs[o+k]? =some u→bT w (old w) a u:=by
 intro fs
 induction fs with
 |nil=>intro o e xs h1 h2 h3 h4;simp only [wF,Option.some.injEq] at h1;subst h1;exact ⟨Nat.le_refl _,[],rfl,by simp,fun k a u h=>by simp at h⟩
 |cons fd r ihr=>
  intro o e xs h1 h2 h3 h4;simp only [wF] at h1;split at h1
  ·rename_i ho;simp only [List.mapM_cons,Option.bind_eq_bind,Option.bind_eq_some_iff,Option.pure_def,Option.some.injEq] at h4;obtain ⟨x,hx,xs',hxs,_⟩:=h4;obtain ⟨g0,ts,g1,g2,g3⟩:=ihr _ e xs' h1 h2 (fun q hq=>h3 q (List.mem_cons_of_mem _ hq)) hxs;obtain ⟨ta,e1,e2,e3⟩:=ih _ _ x.1 x.2 hx (h3 fd List.mem_cons_self);have hal:ta.length=P.cellsOf fd.type:=by rw [e2];simp;omega
   refine ⟨by omega,ta++ts,⟨ta,ts,rfl,hal,e1,g1⟩,by rw [List.length_append,hal,g2];omega,fun k a u ha hu=>?_⟩;rw [List.getElem?_append] at ha;split at ha
   ·rename_i hk;refine e3 k a u ha ?_;rw [List.getElem?_take,if_pos (by omega),List.getElem?_drop,ho];exact hu
   ·rename_i hk;refine g3 _ a u ha ?_;rw [←hu];congr 1;omega
  ·cases h1
theorem aK2 {α:Type} {Q:Nat→α→Prop}:∀n,(∀i,i<n→∃x,Q i x)→∃l:List α,l.length=n∧∀(i:Nat) (x:α),l[i]? =some x→Q i x
 |0,_=>⟨[],rfl,fun i x h=>by simp at h⟩
 |n+1,h=>by
  obtain ⟨l,h1,h2⟩:=aK2 n fun i hi=>h i (by omega)
  obtain ⟨x,hx⟩:=h n (by omega);refine ⟨l++[x],by simp [h1],fun i y hy=>?_⟩;rw [List.getElem?_append] at hy;split at hy
  ·exact h2 i y hy
  ·rename_i hi;have:i=n:=by have:=(List.getElem?_eq_some_iff.1 hy).1;simp at this;omega
   subst this;simp [h1] at hy;subst hy;exact hx
theorem bE9:∀(f g:Nat) (t:TypeId) (cs:List Value) (d:DataW H) (ps:List MemPlace),DataW.trod enc P w 0 spare held f t cs=some (d,ps)→pV P g t=true→aGJ P w f t cs:=by
 intro f
 induction f with
 |zero=>intro g t cs d ps h;simp [DataW.trod] at h
 |succ f ih=>
  intro g t cs d ps h hp;cases g with
  |zero=>simp [pV] at hp
  |succ g=>
   have one:∀{x:T} {u:Value},bT w (old w) x u→∀(k:Nat) (a:T) (v:Value),[x][k]? =some a→[u][k]? =some v→bT w (old w) a v:=by
    intro x u hx k a v ha hv;cases k with
    |zero=>simp at ha hv;subst ha;subst hv;exact hx
    |succ k=>simp at ha
   simp only [pV] at hp;unfold DataW.trod at h;cases hu:P.underlying t with
   |none=>simp [hu] at hp
   |some du=>
    simp only [hu] at hp h;cases du<;>simp only [Bool.false_eq_true] at hp
    case bool=>
     split at h<;>first | (rename_i heq;cases heq) | skip
     all_goals first | cases h | skip
     rename_i b;exact ⟨[.v (.bool b)],by simp only [gO,hu];exact ⟨b,rfl⟩,rfl,one (.v rfl)⟩
    case int kk=>
     split at h<;>first | (rename_i heq;cases heq) | skip
     all_goals first | (cases h;done) | skip
     rename_i k' n;split at h
     ·rename_i hc;obtain ⟨rfl,hw⟩:=hc;exact ⟨[.v (.int k' n)],by simp only [gO,hu];exact ⟨n,rfl,hw⟩,rfl,one (.v rfl)⟩
     ·cases h
    case string=>
     split at h<;>first | (rename_i heq;cases heq) | skip
     all_goals first | (cases h;done) | skip
     rename_i b;exact ⟨[.v (.string b)],by simp only [gO,hu];exact ⟨b,rfl⟩,rfl,one (.v rfl)⟩
    case slice e=>
     split at h<;>first | (rename_i heq;cases heq) | skip
     all_goals first | (cases h;done) | skip
     ·exact ⟨[.sl []],by simp only [gO,hu];exact ⟨[],rfl,Nat.zero_le _,fun x hx=>by cases hx⟩,rfl,one .nil⟩
     ·rename_i a len cap;simp only [Bool.and_eq_true,decide_eq_true_eq] at hp;split at h
      ·rename_i hc;obtain ⟨elems,he,_⟩:=Option.bind_eq_some_iff.1 h;obtain ⟨g1,g2⟩:=aXW he
       have hel:∀i,i<len→∃x:List T,gO P f e x∧x.length=P.cellsOf e∧∀(k:Nat) (c:T),x[k]? =some c→∃u,w.cell? (a.add (i*P.cellsOf e+k))=some u∧bT w (old w) c u:=by
        intro i hi;obtain ⟨y,_,hy⟩:=g2 i i (by simp [hi]);obtain ⟨l,hl,hty⟩:=Option.bind_eq_some_iff.1 hy;obtain ⟨q1,q2⟩:=aSW hl;obtain ⟨x,e1,e2,e3⟩:=ih g e l y.1 y.2 hty hp.1;refine ⟨x,e1,by rw [e2,q1],fun k c hk=>?_⟩;have hkl:k<l.length:=by have:=(List.getElem?_eq_some_iff.1 hk).1;omega
        refine ⟨l[k],?_,e3 k c _ hk (List.getElem?_eq_getElem hkl)⟩;have:=q2 k l[k] (List.getElem?_eq_getElem hkl)
        rwa [xC] at this
       obtain ⟨es,s1,s2⟩:=aK2 len hel;have hmem:∀x∈es,gO P f e x∧x.length=P.cellsOf e:=fun x hx=>by obtain ⟨i,hi⟩:=List.getElem?_of_mem hx;exact ⟨(s2 i x hi).1,(s2 i x hi).2.1⟩
       refine ⟨[.sl es],by simp only [gO,hu];exact ⟨es,rfl,by have:=hc.2;omega,fun x hx=>⟨(hmem x hx).2,(hmem x hx).1⟩⟩,rfl,one ?_⟩;rcases Nat.eq_zero_or_pos es.length with h0 | h0
       ·have:es=[]:=List.eq_nil_of_length_eq_zero h0;subst this;simp at s1;subst s1;exact .nil
       ·rw [←s1];have hcell:∀k,k<es.length*P.cellsOf e→∃u,w.cell? (a.add k)=some u:=by intro k hk;obtain ⟨x,hx,_,hm,e1⟩:=rC (fun x hx=>(hmem x hx).2) hk;have hxl:=(s2 _ x hx).2.1;obtain ⟨u,hu',_⟩:=(s2 _ x hx).2.2 (k % P.cellsOf e) _ (List.getElem?_eq_getElem (by omega));rw [←e1] at hu';exact ⟨u,hu'⟩
        have hpos:0<es.length*P.cellsOf e:=Nat.mul_pos h0 hp.2;obtain ⟨u0,hu0⟩:=hcell 0 hpos;refine .sl (u:=fun k=>(w.cell? (a.add k)).getD undef) h0 (fun x hx=>(hmem x hx).2) (by omega) (by have:=aSV hu0;rwa [r8] at this) (fun k hk=>?_) (fun j k x c hx hc'=>?_)
        ·obtain ⟨u,hu'⟩:=hcell k hk;rw [hu'];rfl
        ·obtain ⟨u,hu',hr⟩:=(s2 j x hx).2.2 k c hc';show bT w (old w) c ((w.cell? (a.add (j*P.cellsOf e+k))).getD undef);rw [hu'];exact hr
      ·cases h
    case struct fs=>
     simp only [Bool.and_eq_true,beq_iff_eq,List.all_eq_true] at hp;split at h<;>first | (rename_i heq;cases heq) | skip
     all_goals first | (cases h;done) | (exfalso;rename_i hno _ _ _ _ _ _ _ _ _ _ _ _ _ _ _ _ _ _ _;exact hno fs rfl) | (exfalso;simp_all;done) | skip
     split at h
     ·rename_i hl;obtain ⟨xs,hxs,_⟩:=Option.map_eq_some_iff.1 h;obtain ⟨_,ts,g1,g2,g3⟩:=bE8 (ih g) fs.toList 0 _ xs hp.1 (by omega) hp.2 hxs;exact ⟨ts,by simp only [gO,hu];exact g1,by omega,fun k a u ha hu'=>g3 k a u ha (by simpa using hu')⟩
     ·cases h
end
end Go.Proofs.YtnoifgjiipgpoaaGreatDoor.R
namespace Go.Proofs.YtnoifgjiipgpoaaGreatDoor.R
open Go.RowKit
section
variable {P:Program} {B:cD} {s:St}
theorem aH.of {l:List (Nat×AV)} {σ':Nat→aG} {n:Nat} (hm:∀p∈l,s.m p.1=p.2) (ho:∀i,σ' i= .dead∨σ' i=s.σ i) (hn:n=s.nx):aH B s ⟨sl l,σ',n⟩:=
 (aH.keep hm).trans (aH.same (fun _=>.inr rfl) ho hn)
theorem iB {t:St} {all:Array Oper} {rest:List Oper} {k:List KI} {R:dZ} (h:aH B s t) (hk:Kp P B (.ops all rest :: k) R .normal t):Kp P B (.ops all rest :: k) R .normal s:=
 fun a w hr=>hk a w (h _ _ hr)
theorem bN.known {f:FuncId} {args:List AV} {σ:Nat→aG} {nx:Nat} {S:AV→(Nat→aG)→Nat→Prop} (hg:mN P f=true) (h:(∀i,σ i= .dead∨(dG nx (σ i)=true∧i<nx))→bN P f args σ nx S):bN P f args σ nx S:=by
 refine ⟨hg,fun C w vs hs hn hl=>(h fun i=>?_).2 C w vs hs hn hl⟩;by_cases hd:σ i= .dead
 ·exact .inl hd
 ·refine .inr ⟨?_,?_⟩
  ·rw [←hn];exact (hs.obj i).bnded
  ·rw [←hn];exact iV hs hd
theorem aJJ {n q:Nat} {es:List (List T)} (hn:n≤q):∀(a:AV),aE n a=true→bB q es a=a
 | .ref i,h=>by
  have:i<n:=by simpa [aE] using h
  simp only [bB];rw [if_neg (by omega)]
 | .agg cs,h=>by simp only [bB];rw [list cs (by simpa [aE] using h)]
 | .tup cs,h=>by simp only [bB];rw [list cs (by simpa [aE] using h)]
 | .t _,_=>rfl
 | .fsl _,_=>rfl
 | .rd _,_=>rfl
 | .any,_=>rfl
 | .ptr _ _,_=>rfl
 | .el _ _,_=>rfl
 | .cut _ _ _ _,_=>rfl
 | .ifc _ _,_=>rfl
 | .mapr _,_=>rfl
 | .yld _,_=>rfl
 | .fn _ _ _,_=>rfl
 where
 list:∀(cs:List AV),aE.bndL n cs=true→bB.frzL q es cs=cs
 |[],_=>rfl
 |c :: cs,h=>by simp only [aE.bndL,Bool.and_eq_true] at h;simp only [bB.frzL];rw [aJJ hn c h.1,list cs h.2]
theorem yC {n q:Nat} {es:List (List T)} (hn:n≤q) (o:aG) (h:dG n o=true):dC q es o=o:=by
 cases o with
 |box cs=>simp only [dC];rw [aJJ.list hn cs];simp only [dG,List.all_eq_true] at h;exact aA6 fun k a hk=>h a (List.mem_of_getElem? hk)
 |_=>rfl
theorem fO {f:FuncId} {fn:Func} {c:Code} (hf:P.funcs[f]? =some fn) (hb:fn.body=some c) (hname:(fn.name== "runtime.NumGoroutine")=false) {args:List AV} {σ:Nat→aG} {nx q:Nat} {o:aG} {r:AV} (hn:args.length≤fn.ntmps)
  (hq:q<nx) (ho:dG nx o=true) (hr:aE nx r=true)
  (h:(∀i,σ i= .dead∨(dG nx (σ i)=true∧i<nx))→∀B:cD,B.n=fn.ntmps→B.C.nx=nx→B.σ=σ→Kp P B [.code c] (fun e s=>(e= .ret∨e= .normal)∧nx≤s.nx∧s.σ q=o∧(∀i,i<nx→i≠q→s.σ i=σ i)∧∃rs,kK P s fn.results.toList=some rs∧iK rs=r) .normal ⟨mB args,σ,nx⟩):
  aT P f args σ nx r (aB σ q o) nx:=by
 refine bN.spec (bN.known (by simp [mN,hf,hb,hname]) fun hk=>?_);refine aT.q (vS hf hb hname hn fun B h1 h2 h3=>?_);refine fun a w hrel=>fU (h hk B h1 h2 h3 a w hrel) fun e a' w' hp=>?_
 obtain ⟨s',⟨he,g1,g2,g3,rs,g4,g5⟩,h5⟩:=hp
 have hend:j9 nx s' (iK rs) (aB σ q o) nx r:=by
  refine ⟨fun i=>?_,g1,Nat.le_refl _,.inl g5.symm,.inr hr⟩;by_cases hi:i=q
  ·subst hi;refine .inr ⟨by simp [aB,g2],.inr ⟨by simp [aB,ho],hq⟩⟩
  ·have e1:aB σ q o i=σ i:=by simp [aB,hi]
   rw [e1];rcases hk i with e | ⟨e,e2⟩
   ·exact .inl e
   ·exact .inr ⟨(g3 i e2 hi).symm,.inr ⟨e,e2⟩⟩
 refine ⟨s',?_,h5⟩;rcases he with rfl | rfl
 ·exact ⟨rs,g4,hend⟩
 ·exact ⟨rs,g4,hend⟩
end
end Go.Proofs.YtnoifgjiipgpoaaGreatDoor.R
namespace Go.Proofs.YtnoifgjiipgpoaaGreatDoor.R
open Ieee
set_option maxRecDepth 4000
def fK (b:Nat) (z:Int):Prop:=∃(s:Bool) (m k:Nat),double.read b= .number s m (-(k:Int))∧m=z.natAbs*2^k∧(z≠0→s=decide (z<0))
theorem aK3 {n k:Nat} (hn:n≠0):(n*2^k).log2=n.log2+k:=by
 have h1:=Nat.log2_self_le hn;have h2:=Nat.lt_log2_self (n:=n);have hne:n*2^k≠0:=Nat.mul_ne_zero hn (Nat.ne_of_gt (Nat.pow_pos (by decide:0<2)));refine Nat.le_antisymm ?_ ?_
 ·refine Nat.le_of_lt_succ ((Nat.log2_lt hne).2 ?_);rw [show (n.log2+k).succ=n.log2+1+k by omega,Nat.pow_add];exact Nat.mul_lt_mul_of_pos_right h2 (Nat.pow_pos (by decide))
 ·refine (Nat.le_log2 hne).2 ?_;rw [Nat.pow_add];exact Nat.mul_le_mul_right _ h1
theorem aBY (way:Toward) (neg:Bool) (n d:Nat):way.cut neg (n*2^d) d=n:=by
 rcases Nat.eq_zero_or_pos n with h0 | h0
 ·subst h0;simp only [Toward.cut,Nat.zero_mul,Nat.zero_div,Nat.zero_mod];cases way<;>simp
 ·have hlog:=aK3 (n:=n) (k:=d) (by omega);have hmin:min d ((n*2^d).log2+2)=d:=by omega
  have hp:0<2^d:=Nat.pow_pos (by decide);simp only [Toward.cut,hmin,Nat.one_shiftLeft,Nat.mul_mod_left,Nat.mul_div_cancel _ hp];cases way
  ·have h1:¬2^d<2*0:=by omega
   have h2:¬2^d=2*0:=by omega
   simp [h1]
  ·simp
  ·simp
  ·simp
theorem bBA (s:Bool) {r:Nat} (h1:double.binade≤r) (h2:r<double.infRung):double.read (double.word s r)= .number s (double.binade+r % double.binade) (double.leastPlace+(r / double.binade-1:Nat)):=by
 have hs:r<double.signWeight:=Nat.lt_trans h2 double.infRung_lt
 have e1:double.word s r / double.signWeight % 2=s.toNat∧double.word s r % double.signWeight=r:=by
  have hp:0<double.signWeight:=by omega
  cases s
  ·simp [Format.word,Nat.div_eq_of_lt hs,Nat.mod_eq_of_lt hs]
  ·simp [Format.word,Nat.add_div_left,hp,Nat.div_eq_of_lt hs,Nat.mod_eq_of_lt hs]
 unfold Format.read;simp only [e1.1,e1.2,if_neg (show ¬r<double.binade by omega),if_pos h2];cases s<;>rfl
theorem bBB (s:Bool):double.read (double.word s 0)= .number s 0 (-(1074:Nat)):=by cases s<;>decide+kernel
theorem aFS (s:Bool) (n k:Nat) (hn:n<2^53) (z:Int) (hz:z.natAbs=n) (hs:z≠0→s=decide (z<0)):fK (double.write (.number s (n*2^k) (-(k:Int)))) z:=by
 have hb:double.binade=2^52:=rfl;have hf:double.fractionBits=52:=rfl;have hl:double.leastPlace= -1074:=by decide
 have hi:double.infRung=2047*2^52:=by decide
 rcases Nat.eq_zero_or_pos n with h0 | h0
 ·subst h0;have e1:double.write (.number s (0*2^k) (-(k:Int)))=double.word s 0:=by simp [Format.write,Format.nearest]
  rw [e1];exact ⟨s,0,1074,bBB s,by rw [hz];omega,hs⟩
 ·have hne:n*2^k≠0:=Nat.mul_ne_zero (by omega) (Nat.ne_of_gt (Nat.pow_pos (by decide:0<2)));have hlog:=aK3 (n:=n) (k:=k) (by omega);have hL:n.log2≤52:=by have:=(Nat.log2_lt (by omega:n≠0)).2 hn;omega
  have hlo:=Nat.log2_self_le (n:=n) (by omega);have hhi:=Nat.lt_log2_self (n:=n);generalize hLL:n.log2=L at *;have hlast:max (-(k:Int)+((L+k:Nat):Int)-((52:Nat):Int)) (-1074)=(L:Int)-52:=by omega
  have hkept:Toward.even.cut s ((n*2^k) <<< (-(k:Int)-((L:Int)-52)).toNat) (((L:Int)-52) - -(k:Int)).toNat=n*2^(52-L):=by
   by_cases hle:(L:Int)-52≤ -(k:Int)
   ·have h1:(((L:Int)-52) - -(k:Int)).toNat=0:=by omega
    rw [h1,Nat.shiftLeft_eq];have:=aBY .even s (n*2^k*2^(-(k:Int)-((L:Int)-52)).toNat) 0;rw [Nat.pow_zero,Nat.mul_one] at this;rw [this,Nat.mul_assoc,←Nat.pow_add];congr 2;omega
   ·have h1:(-(k:Int)-((L:Int)-52)).toNat=0:=by omega
    rw [h1,Nat.shiftLeft_eq,Nat.pow_zero,Nat.mul_one];have h2:n*2^k=n*2^(52-L)*2^(((L:Int)-52) - -(k:Int)).toNat:=by rw [Nat.mul_assoc,←Nat.pow_add];congr 2;omega
    rw [h2];exact aBY .even s _ _
  have e2:2^L*2^(52-L)=2^52:=by rw [←Nat.pow_add];congr 1;omega
  have g1:2^52≤n*2^(52-L):=by rw [←e2];exact Nat.mul_le_mul_right _ hlo
  have g2:n*2^(52-L)<2^53:=by
   have e3:2^(L+1)*2^(52-L)=2^53:=by rw [←Nat.pow_add];congr 1;omega
   rw [←e3];exact Nat.mul_lt_mul_of_pos_right hhi (Nat.pow_pos (by decide))
  have c52:2^52=4503599627370496:=by decide
  have c53:2^53=9007199254740992:=by decide
  rw [c52] at g1;rw [c53] at g2;generalize hM:n*2^(52-L)=M at *;have hb':double.binade=4503599627370496:=by decide
  have hi':double.infRung=9218868437227405312:=by decide
  obtain ⟨r,hr⟩:∃r,r=(L+1022)*4503599627370496+M:=⟨_,rfl⟩;clear c52 c53 e2 hlo hhi hb hi hn;have r1:4503599627370496≤r:=by omega
  have r2:r<9218868437227405312:=by omega
  have r3:((L:Int)-52 - -1074).toNat=L+1022:=by omega
  have e1:double.write (.number s (n*2^k) (-(k:Int)))=double.word s r:=by simp only [Format.write,Format.nearest,if_neg hne,hlog,hf,hl,hlast,hkept,hb',hi',r3];rw [←hr,Nat.min_eq_left (Nat.le_of_lt r2)]
  have d1:4503599627370496+r % 4503599627370496=M:=by omega
  have d2:r / 4503599627370496-1=L+1022:=by omega
  have er:=bBA s (r:=r) (by rw [hb'];exact r1) (by rw [hi'];exact r2);rw [hb',hl,d1,d2] at er;have e5: -1074+((L+1022:Nat):Int)= -((52-L:Nat):Int):=by omega
  rw [e5,←e1] at er;exact ⟨s,M,52-L,er,by rw [hz,hM],hs⟩
theorem aYM (z:Int) (h:z.natAbs<2^53):fK (FloatKind.nearest .f64 z) z:=by have:=aFS (decide (z<0)) z.natAbs 0 h z rfl (fun _=>rfl);simpa [FloatKind.nearest,FloatKind.encode,FloatKind.format] using this
theorem aEU {s:Bool} {z:Int} {k j:Nat} (hs:z≠0→s=decide (z<0)):signed s (z.natAbs*2^k) j=z*(2:Int)^(k+j):=by
 have hp:((2^(k+j):Nat):Int)=(2:Int)^(k+j):=by rw [Int.natCast_pow];rfl
 have e1:((z.natAbs*2^k) <<< j:Nat)=z.natAbs*2^(k+j):=by rw [Nat.shiftLeft_eq,Nat.mul_assoc,←Nat.pow_add]
 unfold signed;rw [e1,←hp,Int.natCast_mul];by_cases h0:z=0
 ·subst h0;simp
 ·rw [hs h0];by_cases hn:z<0
  ·simp only [hn,decide_true,if_true];rw [←Int.neg_mul];congr 1;omega
  ·simp only [hn,decide_false];have:(z.natAbs:Int)=z:=by omega
   rw [this];rfl
theorem aOW {d e:Datum} {s t:Bool} {x y:Int} {k j:Nat} (hd:d= .number s (x.natAbs*2^k) (-(k:Int))) (he:e= .number t (y.natAbs*2^j) (-(j:Int))) (hs:x≠0→s=decide (x<0)) (ht:y≠0→t=decide (y<0))
  (h:(x+y).natAbs<2^53):∃b,(d.sum e).map double.write=some b∧fK b (x+y):=by
 subst hd he;have hmin:min (-(k:Int)) (-(j:Int))= -((max k j:Nat):Int):=by omega
 have h1:(-(k:Int) - -((max k j:Nat):Int)).toNat=max k j-k:=by omega
 have h2:(-(j:Int) - -((max k j:Nat):Int)).toNat=max k j-j:=by omega
 have e1:signed s (x.natAbs*2^k) (max k j-k)=x*(2:Int)^(max k j):=by rw [aEU hs];congr 2;omega
 have e2:signed t (y.natAbs*2^j) (max k j-j)=y*(2:Int)^(max k j):=by rw [aEU ht];congr 2;omega
 have e3:x*(2:Int)^(max k j)+y*(2:Int)^(max k j)=(x+y)*(2:Int)^(max k j):=by rw [Int.add_mul]
 have hp:(0:Int)<(2:Int)^(max k j):=Int.pow_pos (by decide);have e4:((x+y)*(2:Int)^(max k j)).natAbs=(x+y).natAbs*2^(max k j):=by rw [Int.natAbs_mul,Int.natAbs_pow];rfl
 simp only [Datum.sum,hmin,h1,h2,e1,e2,e3,Option.map_some,e4];refine ⟨_,rfl,aFS _ _ _ h _ rfl fun hne=>?_⟩;have hne2:¬(x+y)*(2:Int)^(max k j)=0:=fun h0=>(Int.mul_eq_zero.1 h0).elim hne (fun h=>by omega)
 rw [if_neg hne2];by_cases hneg:x+y<0
 ·have:=Int.mul_neg_of_neg_of_pos hneg hp;simp [hneg,this]
 ·have:=Int.mul_nonneg (show 0≤x+y by omega) (Int.le_of_lt hp);simp [hneg];omega
theorem aQ3 {a b:Nat} {x y:Int} (ha:fK a x) (hb:fK b y) (h:(x+y).natAbs<2^53):∃r,floatBits .add .f64 a b=some r∧fK r (x+y):=by obtain ⟨s,m,k,h1,rfl,h3⟩:=ha;obtain ⟨t,n,j,g1,rfl,g3⟩:=hb;exact aOW h1 g1 h3 g3 h
theorem aE7 {a b:Nat} {x y:Int} (ha:fK a x) (hb:fK b y) (h:(x-y).natAbs<2^53):∃r,floatBits .sub .f64 a b=some r∧fK r (x-y):=by
 obtain ⟨s,m,k,h1,rfl,h3⟩:=ha;obtain ⟨t,n,j,g1,rfl,g3⟩:=hb;have e1:(double.read b).opposite= .number (!t) ((-y).natAbs*2^j) (-(j:Int)):=by rw [g1];simp [Datum.opposite]
 have:=aOW (x:=x) (y:=-y) h1 e1 h3 (fun hy=>by
  have hy':y≠0:=fun h=>hy (by omega)
  rw [g3 hy']
  by_cases hn:y<0<;>simp [hn]<;>omega) (by rw [←Int.sub_eq_add_neg];exact h)
 rw [←Int.sub_eq_add_neg] at this;exact this
theorem y5 {a b:Nat} {x y:Int} (ha:fK a x) (hb:fK b y) (h:(x*y).natAbs<2^53):∃r,floatBits .mul .f64 a b=some r∧fK r (x*y):=by
 obtain ⟨s,m,k,h1,rfl,h3⟩:=ha;obtain ⟨t,n,j,g1,rfl,g3⟩:=hb;have e1:x.natAbs*2^k*(y.natAbs*2^j)=(x*y).natAbs*2^(k+j):=by rw [Int.natAbs_mul,Nat.pow_add];ac_rfl
 have e2: -(k:Int)+ -(j:Int)= -((k+j:Nat):Int):=by omega
 refine ⟨double.write (.number (s^^t) ((x*y).natAbs*2^(k+j)) (-((k+j:Nat):Int))),?_,aFS _ _ _ h _ rfl fun hne=>?_⟩
 ·show ((double.read a).product (double.read b)).map double.write=_;rw [h1,g1];simp only [Datum.product,Option.map_some,e1,e2]
 ·have hx:x≠0:=fun h0=>hne (by rw [h0,Int.zero_mul])
  have hy:y≠0:=fun h0=>hne (by rw [h0,Int.mul_zero])
  rw [h3 hx,g3 hy];by_cases hx1:x<0<;>by_cases hy1:y<0
  ·have:=Int.mul_pos_of_neg_of_neg hx1 hy1;simp [hx1,hy1];omega
  ·have:=Int.mul_neg_of_neg_of_pos hx1 (show 0<y by omega);simp [hx1,hy1,this]
  ·have:=Int.mul_neg_of_pos_of_neg (show 0<x by omega) hy1;simp [hx1,hy1,this]
  ·have:=Int.mul_pos (show 0<x by omega) (show 0<y by omega);simp [hx1,hy1];omega
theorem aYO {a:Nat} {x:Int} (ha:fK a x):fK (Op.negFloat .f64 a) (-x):=by
 obtain ⟨s,m,k,h1,h2,h3⟩:=ha
 have e0:double.read (Op.negFloat .f64 a)=(double.read a).opposite:=by
  have hsw:double.signWeight=2^63:=rfl;have e1:Op.negFloat .f64 a=a ^^^ 2^63:=rfl;have e2:(a ^^^ 2^63) % 2^63=a % 2^63:=by rw [Nat.xor_mod_two_pow,Nat.mod_self,Nat.xor_zero]
  have e3:(a ^^^ 2^63) / 2^63 % 2=1-a / 2^63 % 2:=by rw [Nat.xor_div_two_pow,Nat.div_self (Nat.pow_pos (by decide))];have:=Nat.xor_mod_two_pow (a:=a / 2^63) (b:=1) (n:=1);rw [Nat.pow_one] at this;rw [this];rcases Nat.mod_two_eq_zero_or_one (a / 2^63) with h | h<;>rw [h]<;>rfl
  have e4:((1-a / 2^63 % 2)==1)= !((a / 2^63 % 2)==1):=by rcases Nat.mod_two_eq_zero_or_one (a / 2^63) with h | h<;>rw [h]<;>rfl
  rw [e1];unfold Format.read;rw [hsw];simp only [e2,e3,e4];split
  ·rfl
  ·split
   ·rfl
   ·split<;>rfl
 refine ⟨!s,m,k,by rw [e0,h1];rfl,by rw [h2,Int.natAbs_neg],fun hne=>?_⟩;have hx:x≠0:=fun h=>hne (by omega)
 rw [h3 hx];by_cases hn:x<0<;>simp [hn]<;>omega
theorem bEZ {a:Nat} {x:Int} (ha:fK a x) (h: -9223372036854775808≤x∧x≤9223372036854775807):floatToIntVal .f64 a .i64=some x:=by
 obtain ⟨s,m,k,h1,rfl,h3⟩:=ha;have e1:FloatKind.decode .f64 a= .number s (x.natAbs*2^k) (-(k:Int)):=h1;have e2:(-(k:Int)).toNat=0:=by omega
 have e3:(-(-(k:Int))).toNat=k:=by omega
 have e4:(Datum.number s (x.natAbs*2^k) (-(k:Int))).toInt .zero=some x:=by simp only [Datum.toInt,Datum.integral,e2,e3,Nat.shiftLeft_eq,Nat.pow_zero,Nat.mul_one,aBY];have:=aEU (s:=s) (z:=x) (k:=0) (j:=0) h3;rw [Nat.pow_zero,Nat.mul_one] at this;rw [this];simp
 have hmin:IntKind.i64.min= -9223372036854775808:=by decide
 have hmax:IntKind.i64.max=9223372036854775807:=by decide
 unfold floatToIntVal;rw [e1,e4];simp only [hmin,hmax,if_pos h]
theorem aUZ {a b c d:Nat} {x y u v:Int} (ha:fK a x) (hb:fK b y) (hc:fK c u) (hd:fK d v) (hx:0≤x∧x≤10000) (hy:0≤y∧y≤10000) (hu:0≤u∧u≤10000) (hv:0≤v∧v≤10000):
  ∃re im re2 im2,cSumBits .sub .f64 a b c d=some (re,im)∧cMulBits re im re (Op.negFloat .f64 im)=some (re2,im2)∧fK re2 ((x-u)*(x-u)+(y-v)*(y-v)):=by
 obtain ⟨re,e1,g1⟩:=aE7 ha hc (by omega);obtain ⟨im,e2,g2⟩:=aE7 hb hd (by omega);have hp: -10000≤x-u∧x-u≤10000:=by omega
 have hq: -10000≤y-v∧y-v≤10000:=by omega
 generalize x-u=p at *;generalize y-v=q at *;have bd:∀m n:Int,-10000≤m∧m≤10000→ -10000≤n∧n≤10000→(m*n).natAbs≤100000000:=fun m n h1 h2=>by rw [Int.natAbs_mul];exact Nat.mul_le_mul (show m.natAbs≤10000 by omega) (show n.natAbs≤10000 by omega)
 have g3:=aYO g2;have b1:=bd p p hp hp;have b2:=bd q (-q) hq (by omega);have b3:=bd p (-q) hp (by omega);have b4:=bd q p hq hp;obtain ⟨m1,e3,k1⟩:=y5 g1 g1 (by omega);obtain ⟨m2,e4,k2⟩:=y5 g2 g3 (by omega);obtain ⟨m3,e5,k3⟩:=aE7 k1 k2 (by omega);obtain ⟨m4,e6,k4⟩:=y5 g1 g3 (by omega);obtain ⟨m5,e7,k5⟩:=y5 g2 g1 (by omega);obtain ⟨m6,e8,k6⟩:=aQ3 k4 k5 (by omega);refine ⟨re,im,m3,m6,?_,?_,?_⟩
 ·simp only [cSumBits,e1,e2,Option.bind_some]
 ·simp only [cMulBits,e3,e4,e5,e6,e7,e8,Option.bind_some]
 ·have:p*p-q* -q=p*p+q*q:=by rw [Int.mul_neg];omega
  rw [←this];exact k3
end Go.Proofs.YtnoifgjiipgpoaaGreatDoor.R
namespace Go.Proofs.YtnoifgjiipgpoaaGreatDoor.R
open Go.RowKit
def mD (P:Program) (o:Oper) (m:bX) (u:Value):Prop:=
 fN u=true∧∀(ρ:Operand→Value) (w:World),(∀x∈o.op.operands.toList,∀v,ev m x= .t (.v v)→ρ x=v)→(execOp ρ o).run P w= .ok (.value u) w
section
variable {P:Program} {B:cD} {k:List KI} {R:dZ} {s:St} {all:Array Oper} {o:Oper} {rest:List Oper} {u:Value}
theorem pA (hg:o.guard=none) (hd:cH B.n o.dst=true) (h:mD P o s.m u) (hk:Kp P B (.ops all rest :: k) R .normal ⟨put s.m o.dst (.t (.v u)),s.σ,s.nx⟩):Kp P B (.ops all (o :: rest) :: k) R .normal s:=by
 intro a w hr;refine iO hg fun K hK=>?_
 obtain ⟨C,h1,h2,h3,h4,h5,h6⟩:=hr;have hrun:=h.2 a.eval w fun x _ v hx=>by have:=cV h2 x;rw [hx] at this;exact (cK this).1
 refine eW hrun ?_;exact hK _ _ (hk _ _ ⟨C,h1,gM h5 (bO.refl _ _ _) h2 (by rw [h3];exact hd) (.t (.v h.1)),by rw [fF];exact h3,by rw [gL];exact h4,h5,h6⟩)
theorem aH0 {n i:Nat} {m:bX} (ho:all[i]? =some o) (hl:cZ all m o=some true) (h:mD P o m u) (σ:Nat→aG) (nx:Nat):cO P n all i m σ nx (.t (.v u)) σ nx:=by
 intro C a w hn hs hsz hr ro K Q hK;have hrun:=h.2 a.eval w fun x hx v hv=>by have:=cV hr x;rw [jV ho x hx,hv] at this;exact (cK this).1
 have hd:bS all i=o.dst:=by simp [bS,ho]
 simp only [fI,wpOpIn,ho,jG ho hr hl,if_true];refine eW hrun ?_;rw [hd] at hK;exact hK _ _ C hs hn (bO.refl _ _ _) (.t (.v h.1))
theorem aF4 {lo:List Nat} {sw:SW} {rest:List (Nat×Oper)} {i:Nat} {pend:List Rc} (hl:cZ all s.m o=some true) (h:mD P o s.m u) (hk:Kp P B (.opsD all lo sw rest pend :: k) R .normal ⟨put s.m o.dst (.t (.v u)),s.σ,s.nx⟩):Kp P B (.opsD all lo sw ((i,o) :: rest) pend :: k) R .normal s:=
 bZ.at fun ho=>bZ.step (loud:=none) (aH0 ho hl h _ _) (fun _=>.inl (aH0 ho hl h)) (fun c hc=>by cases hc) (fun _ h=>h) hk
end
theorem gQ {P:Program} {B:cD} {k:List KI} {R:dZ} {s:St} {all:Array Oper} {id:Nat} (lo:List Nat) (hm:P.follows .mixedOrders=true) (hst:rR all B.n lo=true) (ht:(List.range all.size).all (fR all lo)=true)
  (h:(∀i,i<all.size→fR all lo i=true)→Kp P B (.opsD all lo none (num 0 all.toList) [] :: k) R .normal s):Kp P B (.code (.region id all true) :: k) R .normal s:=
 bK lo hm hst (h fun i hi=>List.all_eq_true.1 ht i (List.mem_range.2 hi))
theorem cT {P:Program} {B:cD} {k:List KI} {R:dZ} {s:St} {all:Array Oper} {id:Nat} (lo fl:List Nat) (hm:P.follows .mixedOrders=true) (hst:rR all B.n lo=true) (ht:((List.range all.size).all (fun i=>fR all lo i== !fl.contains i)&&fl.all (fun i=>lo.contains i||mL all lo i))=true)
  (h:(∀i,i<all.size→fR all lo i= !fl.contains i)→(∀i,i∈fl→i∉lo→mL all lo i=true)→Kp P B (.opsD all lo none (num 0 all.toList) [] :: k) R .normal s):Kp P B (.code (.region id all true) :: k) R .normal s:=by
 rw [Bool.and_eq_true] at ht
 exact bK lo hm hst (h (fun i hi=>eq_of_beq (List.all_eq_true.1 ht.1 i (List.mem_range.2 hi))) (fun i hi hn=>by
  have:=List.all_eq_true.1 ht.2 i hi
  simpa [hn] using this))
theorem aF8 {P:Program} {B:cD} {k:List KI} {R:dZ} {s:St} {all:Array Oper} {id:Nat} (lo fl:List Nat) (a1 b1:Nat) (hlt:a1<b1) (hm:P.follows .mixedOrders=true) (hst:iZ all B.n lo (some (a1,b1,false))=true) (ht:((List.range all.size).all (fun i=>fR all lo i== !fl.contains i)&&fl.all (fun i=>lo.contains i||mL all lo i))=true)
  (h:(∀i,i<all.size→fR all lo i= !fl.contains i)→(∀i,i∈fl→i∉lo→mL all lo i=true)→Kp P B (.opsD all lo (some (a1,b1,false)) (num 0 all.toList) [] :: k) R .normal s):Kp P B (.code (.region id all true) :: k) R .normal s:=by
 rw [Bool.and_eq_true] at ht
 exact aQD lo a1 b1 hlt hm hst (h (fun i hi=>eq_of_beq (List.all_eq_true.1 ht.1 i (List.mem_range.2 hi))) (fun i hi hn=>by
  have:=List.all_eq_true.1 ht.2 i hi
  simpa [hn] using this))
def cQ:AV→AV
 | .fsl es=>.t (.sl es)
 | .agg cs=>.agg (loosenL cs)
 |a=>a
 where
 loosenL:List AV→List AV
 |[]=>[]
 |c :: cs=>cQ c :: loosenL cs
theorem aK7:∀{cs:List AV} {k:Nat} {a:AV},(cQ.loosenL cs)[k]? =some a→∃b,cs[k]? =some b∧a=cQ b
 |[],k,a,h=>by simp [cQ.loosenL] at h
 |c :: cs,k,a,h=>by
  cases k with
  |zero=>simp [cQ.loosenL] at h;exact ⟨c,rfl,h.symm⟩
  |succ k=>simp only [cQ.loosenL,List.getElem?_cons_succ] at h;obtain ⟨b,h1,h2⟩:=aK7 h;exact ⟨b,by simpa using h1,h2⟩
theorem aK8:∀(cs:List AV),(cQ.loosenL cs).length=cs.length
 |[]=>rfl
 |c :: cs=>by simp only [cQ.loosenL,List.length_cons,aK8 cs]
theorem aC5 {w:World} {C:aZ} {x:AV} {v:Value} (h:aN w C x v):aN w C (cQ x) v:=by
 induction h with
 |agg hl _ ih=>
  simp only [cQ];refine .agg (by rw [aK8];exact hl) fun k a u ha hu=>?_
  obtain ⟨b,h1,rfl⟩:=aK7 ha;exact ih k b u h1 hu
 |fsl h=>exact .t h
 |t h=>exact .t h
 |tup a b _=>exact .tup a b
 |ref a b=>exact .ref a b
 |ptr a b=>exact .ptr a b
 |rd a b c=>exact .rd a b c
 |el a b c=>exact .el a b c
 |cut a b c=>exact .cut a b c
 |ifc a b=>exact .ifc a b
 |mapr a b=>exact .mapr a b
 |yld a b=>exact .yld a b
 |fn a b c d _ _=>exact .fn a b c d
 |any=>exact .any
theorem aH.loose {B:cD} {s:St}:aH B s ⟨fun i=>cQ (s.m i),s.σ,s.nx⟩:=by intro a w hr;obtain ⟨C,h1,h2,h3,h4,h5,h6⟩:=hr;exact ⟨C,h1,fun t=>aC5 (h2 t),h3,h4,h5,h6⟩
theorem aT.loose {P:Program} {f:FuncId} {args:List AV} {σ:Nat→aG} {nx:Nat} {r:AV} {σ':Nat→aG} {nx':Nat} (h:aT P f (args.map cQ) σ nx r σ' nx'):aT P f args σ nx r σ' nx':=by refine ⟨h.1,fun C w vs h1 h2 h3=>h.2 C w vs h1 h2 ⟨by rw [List.length_map];exact h3.1,fun k a u ha hu=>?_⟩⟩;rw [List.getElem?_map] at ha;obtain ⟨b,hb,rfl⟩:=Option.map_eq_some_iff.1 ha;exact aC5 (h3.2 k b u hb hu)
theorem Pure.loose {P:Program} {f:FuncId} {args:List AV} {r:AV} (h:Pure P f (args.map cQ) r) (hb:args.all (aE 0)=true):Pure P f args r:=
 ⟨fun a ha=>List.all_eq_true.1 hb a ha,h.2.1,aT.loose h.2.2⟩
section
variable {P:Program} {o:Oper} {m:bX}
theorem aVH {t d:TypeId} {x:Operand} {q:IntKind} {n:Int} {i:TI} {f:TI} (ho:o.op= .convert t d x) (hx:ev m x= .t (.v (.int q n))) (ht:TT P t=some i) (hd:TT P d=some f) (hf:f.desc= .float .f64):mD P o m (.float .f64 (FloatKind.nearest .f64 n)):=by
 refine ⟨rfl,fun ρ w h=>?_⟩;have e:=h x (by rw [ho];simp [Op.operands]) _ hx;have hu:P.underlying d=some (.float .f64):=by rw [(cG hd).1,hf]
 simp only [execOp,ho,e,Sem.run_bind,run_convert_int_float w t d q .f64 n (by rw [(cG ht).1];rfl) hu,Result.andThen_ok,Sem.run_pure];rfl
theorem aVI {t d:TypeId} {x:Operand} {b:Nat} {n:Int} {i:TI} {f:TI} (ho:o.op= .convert t d x) (hx:ev m x= .t (.v (.float .f64 b))) (ht:TT P t=some i) (hd:TT P d=some f) (hf:f.desc= .int .i64) (hn:floatToIntVal .f64 b .i64=some n):mD P o m (.int .i64 n):=by
 refine ⟨rfl,fun ρ w h=>?_⟩;have e:=h x (by rw [ho];simp [Op.operands]) _ hx;have hu:P.underlying d=some (.int .i64):=by rw [(cG hd).1,hf]
 simp only [execOp,ho,e,Sem.run_bind,run_convert_float_int w t d .f64 .i64 b n (by rw [(cG ht).1];rfl) hu hn,Result.andThen_ok,Sem.run_pure]
theorem aVE {t t':TypeId} {x y:Operand} {a b c d re im:Nat} (ho:o.op= .binOp .sub t x y t') (hx:ev m x= .t (.v (.complex .f64 a b))) (hy:ev m y= .t (.v (.complex .f64 c d))) (hn:cSumBits .sub .f64 a b c d=some (re,im)):mD P o m (.complex .f64 re im):=by refine ⟨rfl,fun ρ w h=>?_⟩;have e:=h x (by rw [ho];simp [Op.operands]) _ hx;have e2:=h y (by rw [ho];simp [Op.operands]) _ hy;simp [execOp,ho,e,e2,eqGuard,run_complex_sum w .sub (.inr rfl) t .f64 a b c d re im hn]
theorem aVD {t t':TypeId} {x y:Operand} {a b c d re im:Nat} (ho:o.op= .binOp .mul t x y t') (hx:ev m x= .t (.v (.complex .f64 a b))) (hy:ev m y= .t (.v (.complex .f64 c d))) (hn:cMulBits a b c d=some (re,im)):mD P o m (.complex .f64 re im):=by refine ⟨rfl,fun ρ w h=>?_⟩;have e:=h x (by rw [ho];simp [Op.operands]) _ hx;have e2:=h y (by rw [ho];simp [Op.operands]) _ hy;simp [execOp,ho,e,e2,eqGuard,run_complex_mul w t a b c d re im hn]
theorem aVG {t:TypeId} {x:Operand} {b:Nat} (ho:o.op= .unOp .neg t x) (hx:ev m x= .t (.v (.float .f64 b))):mD P o m (.float .f64 (Op.negFloat .f64 b)):=by refine ⟨rfl,fun ρ w h=>?_⟩;have e:=h x (by rw [ho];simp [Op.operands]) _ hx;simp [execOp,ho,e,Op.unary]
theorem aJM {c:Call} {x:Operand} {a b:Nat} (ho:o.op= .call c) (hc:c.callee= .builtin .real) (hcx:c.args= #[x]) (hx:ev m x= .t (.v (.complex .f64 a b))):mD P o m (.float .f64 a):=by refine ⟨rfl,fun ρ w h=>?_⟩;have e:=h x (by rw [ho];simp [Op.operands,Call.operands,hcx]) _ hx;simp [execOp,ho,resolve,hc,hcx,e,invoke,builtin,run_real]
theorem aVF {c:Call} {x:Operand} {a b:Nat} (ho:o.op= .call c) (hc:c.callee= .builtin .imag) (hcx:c.args= #[x]) (hx:ev m x= .t (.v (.complex .f64 a b))):mD P o m (.float .f64 b):=by refine ⟨rfl,fun ρ w h=>?_⟩;have e:=h x (by rw [ho];simp [Op.operands,Call.operands,hcx]) _ hx;simp [execOp,ho,resolve,hc,hcx,e,invoke,builtin,run_imag]
theorem aJL {c:Call} {x y:Operand} {a b:Nat} (ho:o.op= .call c) (hc:c.callee= .builtin .complex) (hcx:c.args= #[x,y]) (hx:ev m x= .t (.v (.float .f64 a))) (hy:ev m y= .t (.v (.float .f64 b))):mD P o m (.complex .f64 a b):=by refine ⟨rfl,fun ρ w h=>?_⟩;have e:=h x (by rw [ho];simp [Op.operands,Call.operands,hcx]) _ hx;have e2:=h y (by rw [ho];simp [Op.operands,Call.operands,hcx]) _ hy;simp [execOp,ho,resolve,hc,hcx,e,e2,invoke,builtin,run_complex]
end
end Go.Proofs.YtnoifgjiipgpoaaGreatDoor.R
namespace Go.Proofs.YtnoifgjiipgpoaaGreatDoor.R
open Go.RowKit
section
variable {P:Program} {B:cD} {k:List KI} {R:dZ} {s:St}
def xL (c:Code) (l:Nat):Code:=(findLabel c l).getD .skip
theorem aAR {α:Type} {c:Code} (lab:α→Nat) (I:α→Prop) (st:α→St) (μ:α→Nat) (hf:∀x,I x→(findLabel c (lab x)).isSome=true)
  (first:Kp P B (.code c :: .lab (fun l' s'=>∃y,I y∧lab y=l'∧aH B s' (st y)) :: k) R .normal s)
  (pass:∀x,I x→Kp P B (.code (xL c (lab x)) :: .lab (fun l' s'=>∃y,I y∧lab y=l'∧aH B s' (st y)∧μ y<μ x) :: k) R .normal (st x)):Kp P B (.code (.scope c) :: k) R .normal s:=by
 intro ac w hr;refine aHP (fun (x:{a // I a}) a w=>dJ B (st x.1) a w) (fun x=>lab x.1) (fun x=>μ x.1) (xL c) (fun x=>?_) (fU (first ac w hr) fun e a' w' hp=>?_) fun x a w hx=>fU (pass x.1 x.2 a w hx) fun e a' w' hp=>?_
 ·obtain ⟨z,hz⟩:=Option.isSome_iff_exists.1 (hf x.1 x.2);rw [xL,hz];rfl
 ·obtain ⟨s',h1,h2⟩:=hp;cases e with
  |goto l'=>obtain ⟨y,h3,h0,h4⟩:=h1;exact ⟨⟨y,h3⟩,h0,h4 _ _ h2⟩
  |_=>exact ⟨s',h1,h2⟩
 ·obtain ⟨s',h1,h2⟩:=hp;cases e with
  |goto l'=>obtain ⟨y,h3,h0,h4,h5⟩:=h1;exact ⟨⟨y,h3⟩,h0,h4 _ _ h2,h5⟩
  |_=>exact ⟨s',h1,h2⟩
def i7 (c:Code) (l:Nat):Code:=match findLabel c l with
 |some (.seq .skip n)=>n
 |_=>.skip
theorem aGD {α:Type} {c:Code} (lab:α→Nat) (I:α→Prop) (st:α→St) (μ:α→Nat) (hf:∀x,I x→findLabel c (lab x)=some (.seq .skip (i7 c (lab x))))
  (pass:∀x,I x→(∀l' s',(∃y,I y∧lab y=l'∧aH B s' (st y)∧μ y<μ x)→Kp P B (.code (.seq (.label l') (i7 c l')) :: .lab (fun l' s'=>∃y,I y∧lab y=l'∧aH B s' (st y)∧μ y<μ x) :: k) R .normal s')→
   Kp P B (.code (i7 c (lab x)) :: .lab (fun l' s'=>∃y,I y∧lab y=l'∧aH B s' (st y)∧μ y<μ x) :: k) R .normal (st x))
  (first:∀J:Nat→St→Prop,(∀l' s',(∃y,I y∧lab y=l'∧aH B s' (st y))→Kp P B (.code (.seq (.label l') (i7 c l')) :: .lab J :: k) R .normal s')→Kp P B (.code c :: .lab J :: k) R .normal s):Kp P B (.code (.scope c) :: k) R .normal s:=by
 have key:∀n x,μ x=n→I x→Kp P B (.code (i7 c (lab x)) :: .lab (fun l' s'=>∃y,I y∧lab y=l'∧aH B s' (st y)∧μ y<μ x) :: k) R .normal (st x):=by
  intro n
  induction n using Nat.strongRecOn with
  |_ n ih=>intro x hn hx;refine pass x hx ?_;rintro l' s' ⟨y,hy,hl,hi,hm⟩;subst hl;refine o9 (tZ (jB hi (wV ?_ (ih (μ y) (by omega) y rfl hy))));rintro l2 s2 ⟨z,a,b,c,d⟩;exact ⟨z,a,b,c,by omega⟩
 refine aAR lab I st μ (fun x hx=>by rw [hf x hx];rfl) (first _ ?_) fun x hx=>?_
 ·rintro l' s' ⟨y,hy,hl,hi⟩;subst hl;refine o9 (tZ (jB hi (wV ?_ (key _ y rfl hy))));rintro l2 s2 ⟨z,a,b,c,d⟩;exact ⟨z,a,b,c⟩
 ·have:=hf x hx;rw [xL,this];exact o9 (wX (key _ x rfl hx))
theorem tW {c:Code} (h:Kp P B [.code c] (fun e s=>∃t,aH B s t∧R e t) .normal s):Kp P B [.code c] R .normal s:=by
 intro a w hr;refine fU (h a w hr) fun e a' w' hp=>?_
 obtain ⟨s',⟨t,h1,h2⟩,h3⟩:=hp;exact ⟨t,h2,h1 _ _ h3⟩
end
end Go.Proofs.YtnoifgjiipgpoaaGreatDoor.R
namespace Go.Proofs.YtnoifgjiipgpoaaGreatDoor.R
open Go.RowKit
section
variable {P:Program} {B:cD} {k:List KI} {R:dZ} {s:St} {all:Array Oper} {o:Oper} {rest:List Oper}
theorem aF0 {t e:TypeId} {n:Nat} {i:TI} {x:Operand} {es:List (List T)} (hg:o.guard=none) (hd:cH B.n o.dst=true) (ho:o.op= .sliceToArrayPointer t x) (ht:TT P t=some i) (hi:i.desc= .array n e) (hx:ev s.m x= .t (.sl es)) (hn:n≤es.length) (h0:0<es.length)
  (hk:Kp P B (.ops all rest :: k) R .normal ⟨put s.m o.dst (.rd es.flatten),s.σ,s.nx⟩):Kp P B (.ops all (o :: rest) :: k) R .normal s:=by
 intro a w hr;refine iO hg fun K hK=>?_
 obtain ⟨C,h1,h2,h3,h4,h5,h6⟩:=hr;have hrep:=cV h2 x;rw [hx] at hrep
 have hrt:bT w C.imm (.sl es) (a.eval x):=by
  generalize a.eval x=v at hrep;cases hrep with
  |t h=>exact h
 obtain ⟨ad,cap,sz,u,hv,hsz,himm,hcell,hel⟩:∃(ad:Addr) (cap sz:Nat) (u:Nat→Value),a.eval x= .slice (some ad) es.length cap∧(∀e∈es,e.length=sz)∧C.imm ad.block∧(∀k,k<es.length*sz→w.cell? (ad.add k)=some (u k))∧
   (∀(j k:Nat) (e:List T) (c:T),es[j]? =some e→e[k]? =some c→bT w C.imm c (u (j*sz+k))):=by
  generalize a.eval x=v at hrt;cases hrt with
  |nil=>simp at h0
  |@sl _ ad cap sz u _ hsz _ himm hcell hel=>exact ⟨ad,cap,sz,u,rfl,hsz,himm,hcell,hel⟩
 have hund:P.underlying t=some (.array n e):=by rw [(cG ht).1,hi]
 have hrun:(execOp a.eval o).run P w= .ok (.value (.pointer (some ad))) w:=by
  have:¬es.length<n:=by omega
  simp [execOp,ho,Instr.arrayAt,hv,run_underlying hund,this]
 have hfl:es.flatten.length=es.length*sz:=by
  rw [List.length_flatten];have:es.map List.length=List.replicate es.length sz:=by refine List.eq_replicate_iff.2 ⟨by simp,fun y hy=>?_⟩;obtain ⟨z,hz,rfl⟩:=List.mem_map.1 hy;exact hsz z hz
  rw [this,List.sum_replicate_nat]
 refine eW hrun ?_;refine hK _ _ (hk _ _ ⟨C,h1,gM h5 (bO.refl _ _ _) h2 (by rw [h3];exact hd) (.rd (u:=u) himm (fun m hm=>hcell m (by omega)) (fun m c hc=>?_)),by rw [fF];exact h3,by rw [gL];exact h4,h5,h6⟩);have hm:m<es.length*sz:=by rw [←hfl];exact (List.getElem?_eq_some_iff.1 hc).1
 obtain ⟨y,f1,f2,f3,f4⟩:=rC hsz hm;rw [f2] at hc;have:=hel _ _ y c f1 hc;rw [←f4] at this;exact this
end
end Go.Proofs.YtnoifgjiipgpoaaGreatDoor.R
namespace Go.Proofs.YtnoifgjiipgpoaaGreatDoor.R
def r9:List KI→Bool
 | .code _ :: _=>true
 | .ops _ _ :: _=>true
 | .blk _ :: k=>r9 k
 | .scp :: k=>r9 k
 | .lab _ :: k=>r9 k
 |_=>false
section
variable {P:Program} {B:cD} {s t:St} {R:dZ}
theorem aQI {k:List KI} (h:aH B s t) (ha:r9 k=true) (hk:Kp P B k R .normal t):Kp P B k R .normal s:=by
 induction k with
 |nil=>simp [r9] at ha
 |cons x k ih=>
  cases x with
  |code c=>exact fun a w hr=>hk a w (h _ _ hr)
  |ops all rest=>exact fun a w hr=>hk a w (h _ _ hr)
  |blk _=>exact ih ha hk
  |scp=>exact ih ha hk
  |lab _=>exact ih ha hk
  |_=>simp [r9] at ha
end
end Go.Proofs.YtnoifgjiipgpoaaGreatDoor.R
namespace Go.Proofs.YtnoifgjiipgpoaaGreatDoor.R
open Go.ChangeShapes Go.WideShapes Go.ChangeAt Go.RowKit
set_option maxRecDepth 100000
theorem bAG {H:Type} {enc:TypeId×Value→H} {Q:Program} {f:Func} {s:ChangeSpec} {apart fresh handsOn again:Bool} {W W':World} {args:Array Value} {v:Value} {ds gs:List (DataW H)} {before pa pv:List MemPlace}
  (hW:DataW.Whole enc Q f.params.toList s.vars apart W args.toList ds gs before) (hb:Below W.heap.size W W')
  (hres:∀(b:Nat) (sp:Nat→Bool) (hd:Bool),DataW.TrodAll enc Q W' b sp hd f.resultTypes.toList (v.resultList f.resultTypes.size) (s.fn H (ds++gs)).results [])
  (hargs:∀sp:Nat→Bool,(∀p∈before,sp p.block=true)→DataW.TrodAll enc Q W' 0 sp true f.params.toList args.toList (s.fn H (ds++gs)).args pa)
  (hvars:∀sp:Nat→Bool,(∀p∈before,sp p.block=true)→DataW.TrodVars enc Q W' sp s.vars (s.fn H (ds++gs)).vars pv)
  (hps:before=pa++pv)
  (hok:∀(j:Nat) (t:TypeId) (r:Value),f.resultTypes[j]? =some t→(v.resultList f.resultTypes.size)[j]? =some r→Value.okWide Q W' .any 0 t r):s.post enc Q f apart fresh handsOn again W args v W':=by
 have hlt:∀p∈before,p.block<W.heap.size:=fun p hp=>hW.lt p hp
 have hold:∀p∈before,(fun b=>decide (b<W.heap.size)) p.block=true:=fun p hp=>by simpa using hlt p hp
 refine ⟨ds,gs,before,[],pa,pv,hW,hres _ _ _,hargs _ hold,hvars _ hold,World.keptBut_mono (fun p hp=>⟨hp,?_⟩) (hb.frame (·∈before)),fun _=>?_⟩
 ·rw [hps,List.mem_append] at hp;exact Or.inr hp
 ·obtain ⟨_,_,_,_,_,hz,hn⟩:=hW;refine ⟨hok,_,_,([]++pa)++pv,⟨[]++pa,pv,trodAll_append (hargs _ (fun _ _=>rfl)) (hres _ _ _),hvars _ (fun _ _=>rfl),rfl,?_,?_⟩,?_⟩
  ·intro b off hp;have hp':MemPlace.cell b off∈before:=by rw [hps];simpa using hp
   rw [hb.frozen (p:=⟨b,off,none⟩) (hlt _ hp')];exact hz b off hp'
  ·intro ha;have:=hn ha;rw [hps] at this;simpa using this
  ·intro p hp _;rw [hps];simpa using hp
theorem aXY {α:Type} {g:α→List T} {Q:α→Prop} {es:List (List T)} (h:∀x∈es,∃a,x=g a∧Q a):∃l:List α,es=l.map g∧∀a∈l,Q a:=by
 induction es with
 |nil=>exact ⟨[],rfl,fun a h=>by cases h⟩
 |cons x es ih=>
  obtain ⟨a,rfl,ha⟩:=h x List.mem_cons_self;obtain ⟨l,rfl,hl⟩:=ih fun y hy=>h y (List.mem_cons_of_mem _ hy)
  exact ⟨a :: l,rfl,fun b hb=>by
   rcases List.mem_cons.1 hb with rfl | hb
   ·exact ha
   ·exact hl b hb⟩
section
variable {P:Program} {f:Nat} {t:TypeId} {ts:List T}
theorem aVS {e:TypeId} {α:Type} {g:α→List T} {Q:α→Prop} (hu:P.underlying t=some (.slice e)) (he:∀f x,gO P f e x→∃a,x=g a∧Q a) (h:gO P f t ts):∃l:List α,ts=[.sl (l.map g)]∧l.length≤maxLen∧∀a∈l,Q a:=by
 cases f with
 |zero=>exact h.elim
 |succ f=>
  simp only [gO,hu] at h;obtain ⟨es,rfl,hn,h⟩:=h;obtain ⟨l,rfl,hl⟩:=aXY (g:=g) (Q:=Q) fun x hx=>he f x (h x hx).2
  exact ⟨l,rfl,by simpa using hn,hl⟩
variable {H:Type} {enc:TypeId×Value→H} {W:World} {base:Nat} {sp:Nat→Bool} {held:Bool} {v:Value} {d:DataW H} {ps:List MemPlace}
abbrev C0 (W:World):aZ:=⟨old W,fun _=>none,fun _=>undef,0⟩
theorem bCV (W:World):bC (C0 W) dR W:=⟨fun _ _=>rfl,fun _=>True.intro,fun _ _ _ hi=>absurd rfl hi,fun _ _ hi=>absurd rfl hi,fun b hb=>hb⟩
theorem aRF {e:TypeId} (hu:P.underlying t=some (.slice e)) (hp:pV P 10 t=true) (h:DataW.Trod enc P W 0 sp held t v d ps) (hv:Value.okWide P W .any base t v):∃f ts,gO P f t ts∧∀x,ts=[x]→aN W (C0 W) (.t x) v:=by obtain ⟨a,len,cap,rfl⟩:=okWide_slice hu hv;obtain ⟨fuel,ht⟩:=h;obtain ⟨ts,g1,g2,g3⟩:=bE9 fuel 10 t _ _ _ ht hp;exact ⟨fuel,ts,g1,fun x hx=>by subst hx;exact .t (g3 0 _ _ rfl rfl)⟩
theorem aNI {a:AV} {u:Value} (h:aN W (C0 W) a u):kC W (C0 W) [a] [u]:=⟨rfl,fun k x y hx hy=>by
 cases k with
 |zero=>simp at hx hy;subst hx;subst hy;exact h
 |succ k=>simp at hx⟩
theorem bBG {a b:AV} {u u2:Value} (h:aN W (C0 W) a u) (h2:aN W (C0 W) b u2):kC W (C0 W) [a,b] [u,u2]:=(aNI h).app (aNI h2)
end
end Go.Proofs.YtnoifgjiipgpoaaGreatDoor.R
namespace Go.Proofs.YtnoifgjiipgpoaaGreatDoor.R
open Go.RowKit
set_option maxRecDepth 10000
section
variable {P:Program} {C:aZ} {σ:Nat→aG} {w:World}
theorem bCY (hs:bC C σ w) (o:Obj):bC C σ (w.alloc o)∧bO C σ w C σ (w.alloc o):=by
 have hold:∀b,b<w.heap.size→(w.alloc o).heap[b]? =w.heap[b]?:=fun b hb=>lY w o hb
 have hsz:(w.alloc o).heap.size=w.heap.size+1:=World.size_alloc w o;have hk:eD w C.imm (w.alloc o) C.imm:=⟨fun _ h=>h,fun b hb=>hold b (hs.imm_lt b hb)⟩;have hc:gC C C:=⟨Nat.le_refl _,fun _ _=>rfl,fun _ _=>rfl⟩;refine ⟨⟨hs.dead,fun i=>?_,hs.inj,hs.sep,fun b hb=>by have:=hs.imm_lt b hb;omega⟩,⟨hc,rfl,rfl,rfl,by omega,fun _ h=>h,fun b hb _=>hold b hb,fun _ h=>.inl h,fun _ h=>.inl h⟩⟩;by_cases hi:σ i= .dead
 ·rw [hi];exact True.intro
 ·exact (hs.obj i).step hk hc (iV hs hi) fun b ho=>hold b (lE hs hi ho)
theorem aNA {l:Nat} {r:Loop} (hs:bC C σ w) {q:Nat} {st st':LoopState} {n:Nat} {m:Nat→AV} {ps:Array Tmp} {avs bd:Code} (hq:σ q= .loop st n m ps avs bd) (ho:C.own q=some l) (hl:w.heap[l]? =some (.loop r)):
  bC C (aB σ q (.loop st' n m ps avs bd)) (w.putObj l (.loop {r with state:=st',pending:=none}))∧bO C σ w C (aB σ q (.loop st' n m ps avs bd)) (w.putObj l (.loop {r with state:=st',pending:=none})):=by
 have hob:=hs.obj q;rw [hq] at hob;obtain ⟨bl,r',e0,e1,e2,e3,e4,e5,e6,e7,e8⟩:=hob;rw [ho] at e0;cases e0;rw [hl] at e1;cases e1;have hlt:l<w.heap.size:=(Array.getElem?_eq_some_iff.1 hl).1;have hd:σ q≠ .dead:=by rw [hq];exact (fun h=>by cases h)
 have hk:eD w C.imm (w.putObj l (.loop {r with state:=st',pending:=none})) C.imm:=⟨fun _ h=>h,fun b hb=>World.putObj_heap_other fun e=>hs.sep q l hd ho (e ▸ hb)⟩
 exact oR (w':=w.putObj l (.loop {r with state:=st',pending:=none})) (obj:=.loop st' n m ps avs bd) hs hd ho rfl rfl rfl World.putObj_size (fun b hb=>World.putObj_heap_other hb)
  ⟨l,_,ho,World.putObj_heap_same hlt,rfl,rfl,e4,e5,e6,e7,fun t ht=>(e8 t ht).keeps hk ⟨Nat.le_refl _,fun _ _=>rfl,fun _ _=>rfl⟩⟩
theorem bA1 {l:Nat} (o:Obj) (hs:bC C σ w) {q:Nat} (hd:σ q≠ .dead) (ho:C.own q=some l):bC C (aB σ q .dead) (w.putObj l o)∧bO C σ w C (aB σ q .dead) (w.putObj l o):=
 oR (w':=w.putObj l o) (obj:=.dead) hs hd ho rfl rfl rfl World.putObj_size (fun b hb=>World.putObj_heap_other hb) True.intro
def rZ (P:Program) (q:Nat) (args:List AV) (σ:Nat→aG) (nx:Nat) (S:(Nat→aG)→Nat→Prop):Prop:=
 ∀(C:aZ) (w:World) (vs:List Value) (l:Nat),bC C σ w→C.nx=nx→kC w C args vs→C.own q=some l→
  ∃f tmps avs bd,(Instr.yield l vs.toArray).run P w= .ok (.round l f tmps avs bd) w∧∀ro,RoundIn (FR ro) 0 P l f tmps avs bd w fun e w'=>∃σ' nx' C',S σ' nx'∧e= .returned (.bool true)∧bC C' σ' w'∧C'.nx=nx'∧bO C σ w C' σ' w'
def oO (m:bX):List (Nat×AV)→bX
 |[]=>m
 |p :: l=>oO (put m (some p.1) p.2) l
theorem aM9 {w:World} {C:aZ} {n:Nat}:∀(ps:List Nat) (args:List AV) (vs:List Value) (m:bX) (tmps:Array Value),kC w C args vs→tmps.size=n→(∀p∈ps,p<n)→(∀t,aN w C (m t) (tmps.getD t undef))→
  ((ps.zip vs).foldl (fun ts (p:Nat×Value)=>ts.setIfInBounds p.1 p.2) tmps).size=n∧∀t,aN w C (oO m (ps.zip args) t) (((ps.zip vs).foldl (fun ts (p:Nat×Value)=>ts.setIfInBounds p.1 p.2) tmps).getD t undef)
 |[],args,vs,m,tmps,_,hn,_,h=>by exact ⟨by simpa using hn,by simpa [oO] using h⟩
 |p :: ps,[],vs,m,tmps,hl,hn,_,h=>by have:vs=[]:=List.eq_nil_of_length_eq_zero (by have:=hl.1;simpa using this.symm);subst this;exact ⟨by simpa using hn,by simpa [oO] using h⟩
 |p :: ps,a :: args,[],m,tmps,hl,hn,_,h=>by have:=hl.1;simp at this
 |p :: ps,a :: args,v :: vs,m,tmps,hl,hn,hp,h=>by
  have hpn:p<tmps.size:=by rw [hn];exact hp p List.mem_cons_self
  have h0:=hl.2 0 a v rfl rfl;refine aM9 ps args vs (put m (some p) a) (tmps.setIfInBounds p v) ⟨by have:=hl.1;simpa using this,fun k x u hx hu=>hl.2 (k+1) x u (by simpa using hx) (by simpa using hu)⟩ (by simpa using hn) (fun x hx=>hp x (List.mem_cons_of_mem _ hx)) fun t=>?_
  by_cases e:t=p
  ·subst e;simp only [put,if_true,Array.getD_eq_getD_getElem?,Array.getElem?_setIfInBounds_self_of_lt hpn,Option.getD_some];exact h0
  ·simp only [put,if_neg e,Array.getD_eq_getD_getElem?,Array.getElem?_setIfInBounds_ne (show p≠t from fun h=>e h.symm)];have:=h t
   rwa [Array.getD_eq_getD_getElem?] at this
def tM (n:Nat) (m:bX) (ps:Array Tmp) (args:List AV):bX:=oO (fun t=>if t<n then m t else .any) (ps.toList.zip args)
theorem aFU {q:Nat} {args:List AV} {nx:Nat} {n:Nat} {m:Nat→AV} {ps:Array Tmp} {avs bd:Code} {S:(Nat→aG)→Nat→Prop} (hq:σ q= .loop .ready n m ps avs bd) (hn:args.length=ps.size) (hp:ps.toList.all (·<n)=true)
  (h:∀B:cD,B.n=n→B.C.nx=nx→B.σ=σ→Kp P B [.code avs] (fun e s1=>e= .normal∧s1.σ q= .loop .ready n m ps avs bd∧
   Kp P B [.code bd] (fun e s2=>e= .normal∧s2.σ q= .loop .busy n m ps avs bd∧S (aB s2.σ q (.loop .ready n m ps avs bd)) s2.nx) .normal ⟨s1.m,aB s1.σ q (.loop .busy n m ps avs bd),s1.nx⟩) .normal ⟨tM n m ps args,σ,nx⟩):
  rZ P q args σ nx S:=by
 intro C w vs l hs hnx hl ho;have hob:=hs.obj q;rw [hq] at hob;obtain ⟨bl,r,e0,e1,e2,e3,e4,e5,e6,e7,e8⟩:=hob;rw [ho] at e0;cases e0;have hsz:vs.toArray.size=r.params.size:=by rw [e5,←hn];simpa using hl.1.symm
 refine ⟨r.fn,_,r.assign,r.body,run_yield e1 hsz,fun ro=>?_⟩;have hfold:(r.params.zip vs.toArray).foldl (fun tmps (x:Tmp×Value)=>tmps.setIfInBounds x.1 x.2) r.tmps=(ps.toList.zip vs).foldl (fun ts (p:Nat×Value)=>ts.setIfInBounds p.1 p.2) r.tmps:=by rw [e5,←Array.foldl_toList];simp
 rw [hfold,e6,e7]
 have hrep:=aM9 (n:=n) ps.toList args vs (fun t=>if t<n then m t else .any) r.tmps hl e4 (fun p hpp=>by simpa using List.all_eq_true.1 hp p hpp) (fun t=>by
  by_cases ht:t<n
  ·simp only [if_pos ht];exact e8 t ht
  ·simp only [if_neg ht];exact .any)
 have hrel:dJ ⟨C,σ,w,n,some l⟩ ⟨tM n m ps args,σ,nx⟩ {tmps:=(ps.toList.zip vs).foldl (fun ts (p:Nat×Value)=>ts.setIfInBounds p.1 p.2) r.tmps,defers:=[]} w:=
  ⟨C,hnx,hrep.2,hrep.1,jN.nil,hs,bO.refl _ _ _⟩
 have hrun:=h ⟨C,σ,w,n,some l⟩ rfl hnx rfl _ _ hrel;refine roundIn_of_wpIn (F:=FR ro) trivial (fU (ro:=some l) hrun fun e a1 w1 hp1=>?_);obtain ⟨s1,⟨he,hσ1,hk2⟩,C1,f1,f2,f3,f4,f5,f6⟩:=hp1;subst he;have hd1:s1.σ q≠ .dead:=by rw [hσ1];exact (fun h=>by cases h)
 have hqlt:q<C.nx:=iV hs (by rw [hq];exact (fun h=>by cases h));have hown1:C1.own q=some l:=(f6.le.own q hqlt).trans ho;have hob1:=f5.obj q;rw [hσ1] at hob1;obtain ⟨bl1,r1,d0,d1,d2,d3,d4,d5,d6,d7,d8⟩:=hob1;rw [hown1] at d0;cases d0;have hpend:{r1 with state:=LoopState.busy}={r1 with state:=.busy,pending:=none}:=by cases r1;simp only at d3;subst d3;rfl
 refine ⟨_,run_beginRound d1 d2,?_⟩;rw [hpend];obtain ⟨p1,p2⟩:=aNA (st':=.busy) f5 hσ1 hown1 d1
 have hrel2:dJ ⟨C,σ,w,n,some l⟩ ⟨s1.m,aB s1.σ q (.loop .busy n m ps avs bd),s1.nx⟩ a1 (w1.putObj l (.loop {r1 with state:=.busy,pending:=none})):=
  ⟨C1,f1,fun t=>(f2 t).step f5 p2,f3,f4.step p2,p1,f6.trans p2⟩
 refine fU (ro:=some l) (hk2 _ _ hrel2) fun e a2 w2 hp2=>?_
 obtain ⟨s2,⟨he,hσ2,hS⟩,C2,g1,g2,g3,g4,g5,g6⟩:=hp2;subst he;have hown2:C2.own q=some l:=(g6.le.own q hqlt).trans ho;have hob2:=g5.obj q;rw [hσ2] at hob2;obtain ⟨bl2,r2,c0,c1,c2,c3,_⟩:=hob2;rw [hown2] at c0;cases c0;obtain ⟨u1,u2⟩:=aNA (st':=.ready) g5 hσ2 hown2 c1;exact ⟨_,_,run_endRound none c1,_,_,C2,hS,rfl,u1,g1,g6.trans u2⟩
variable {B:cD} {k:List KI} {R:dZ} {s:St}
theorem aPZ {o:Oper} {c:Call} {fo:Operand} {a:Act} {l:Nat} {f:FuncId} {tmps:Array Value} {avs bd:Code} (ho:o.op= .call c) (hc:c.callee= .value fo) (hv:a.eval fo= .func (.yield l) #[] #[])
  (hy:(Instr.yield l (c.args.map a.eval).toList.toArray).run P w= .ok (.round l f tmps avs bd) w):(execOp a.eval o).run P w= .ok (.round l f tmps avs bd) w:=by
 rw [Array.toArray_toList] at hy;simp only [execOp,ho,resolve,hc,Sem.run_bind,Deferred.ofValue,hv,Sem.run_pure,Result.andThen_ok,invoke,Array.empty_append];exact hy
theorem aNT {C:aZ} {v:Value} {q:Nat} (h:aN w C (.yld q) v):∃l,v= .func (.yield l) #[] #[]∧C.own q=some l:=by
 cases h with
 |yld h ho=>exact ⟨_,rfl,ho⟩
theorem aQV {all:Array Oper} {o:Oper} {rest:List Oper} {c:Call} {fo:Operand} {q:Nat} {args:List AV} (hg:o.guard=none) (ho:o.op= .call c) (hc:c.callee= .value fo) (hf:ev s.m fo= .yld q) (ha:c.args.toList.map (ev s.m)=args)
  (hd:cH B.n o.dst=true) {S:(Nat→aG)→Nat→Prop} (spec:rZ P q args s.σ s.nx S) (h:∀σ' nx',S σ' nx'→Kp P B (.ops all rest :: k) R .normal ⟨put s.m o.dst (.b true),σ',nx'⟩):Kp P B (.ops all (o :: rest) :: k) R .normal s:=by
 intro a w hr;refine iO hg fun K hK=>?_
 obtain ⟨C,h1,h2,h3,h4,h5,h6⟩:=hr;have hρ:=cV h2;obtain ⟨hl,hlr⟩:=pQ hρ c.args;have hfo:=hρ fo;rw [hf] at hfo;obtain ⟨l,hv,hown⟩:=aNT hfo;rw [ha] at hl hlr;obtain ⟨f,tmps,avs,bd,hy,hround⟩:=spec C w (c.args.map a.eval).toList l h5 h1 ⟨by simpa using hl,fun k x u hx hu=>hlr k x u hx (by simpa using hu)⟩ hown;refine aMF (aPZ ho hc hv hy) (RoundIn.mono (hround B.ro) ?_);rintro e w' ⟨σ',nx',C',hS,rfl,g1,g2,g3⟩;exact ⟨_,rfl,hK _ _ (h σ' nx' hS _ _ ⟨C',g2,gM h5 g3 h2 (by rw [h3];exact hd) (.t (.v rfl)),by rw [fF];exact h3,by rw [gL];exact h4.step g3,g1,h6.trans g3⟩)⟩
theorem aUC {all:Array Oper} {i:Nat} {o:Oper} {m:bX} {c:Call} {fo:Operand} {q:Nat} {args:List AV} {σ σ':Nat→aG} {nx nx':Nat} {n:Nat} (ho':all[i]? =some o) (hl:cZ all m o=some true) (ho:o.op= .call c) (hc:c.callee= .value fo)
  (hf:ev m fo= .yld q) (ha:c.args.toList.map (ev m)=args) (spec:rZ P q args σ nx fun a b=>a=σ'∧b=nx'):cO P n all i m σ nx (.b true) σ' nx':=by
 intro C a w hn hs hsz hr ro K Q hK;have hops:∀x∈o.op.operands.toList,ev (iX (eO all i) m) x=ev m x:=jV ho'
 have hmem:∀x,x=fo∨x∈c.args.toList→x∈o.op.operands.toList:=by
  intro x hx;rw [ho];simp only [Op.operands,Call.operands,hc];rcases hx with rfl | hx
  ·simp
  ·simp;exact .inr (by simpa using hx)
 have e1:=hops fo (hmem _ (.inl rfl));have e2:c.args.toList.map (ev (iX (eO all i) m))=c.args.toList.map (ev m):=List.map_congr_left fun x hx=>hops x (hmem x (.inr hx))
 rw [←e1] at hf;rw [←e2] at ha;have hρ:=cV hr;obtain ⟨hl',hlr⟩:=pQ hρ c.args;have hfo:=hρ fo;rw [hf] at hfo;obtain ⟨l,hv,hown⟩:=aNT hfo;rw [ha] at hl' hlr;obtain ⟨f,tmps,avs,bd,hy,hround⟩:=spec C w (c.args.map a.eval).toList l hs hn ⟨by simpa using hl',fun k x u hx hu=>hlr k x u hx (by simpa using hu)⟩ hown;have hd:bS all i=o.dst:=by simp [bS,ho']
 simp only [fI,wpOpIn,ho',jG ho' hr hl,if_true];refine aMF (aPZ ho hc hv hy) (RoundIn.mono (hround ro) ?_);rw [hd] at hK;rintro e w' ⟨_,_,C',⟨rfl,rfl⟩,rfl,g1,g2,g3⟩;exact ⟨_,rfl,hK _ _ C' g1 g2 g3 (.t (.v rfl))⟩
theorem aQC {all:Array Oper} {lo:List Nat} {sw:SW} {i:Nat} {o:Oper} {rest:List (Nat×Oper)} {pend:List Rc} {c:Call} {fo:Operand} {q:Nat} {args:List AV} {σ':Nat→aG} {nx':Nat} (hl:cZ all s.m o=some true) (ho:o.op= .call c) (hc:c.callee= .value fo)
  (hf:ev s.m fo= .yld q) (ha:c.args.toList.map (ev s.m)=args) (spec:rZ P q args s.σ s.nx fun a b=>a=σ'∧b=nx') (hi:i∈lo) (hp:∀q∈pend,anc all q.i i=true∨cO P B.n all q.i q.m σ' nx' q.v σ' nx')
  (h:Kp P B (.opsD all lo sw rest pend :: k) R .normal ⟨put s.m o.dst (.b true),σ',nx'⟩):Kp P B (.opsD all lo sw ((i,o) :: rest) pend :: k) R .normal s:=
 bZ.at fun ho'=>bZ.step (loud:=some (σ',nx')) (aUC ho' hl ho hc hf ha spec) (fun hc=>by cases hc) (fun c hc=>by cases hc;exact ⟨hi,hp⟩) (fun _ h=>h) h
theorem aQO {g:Operand} {ps:Array Tmp} {avs bd:Code} (hro:B.ro=none) {f:FuncId} {args:List AV} (hf:callee (ev s.m g) [.yld s.nx]=some (f,args)) {S:AV→(Nat→aG)→Nat→Prop}
  (spec:bN P f args (aB s.σ s.nx (.loop .ready B.n s.m ps avs bd)) (s.nx+1) S) (hS:∀r σ' nx',S r σ' nx'→σ' s.nx= .loop .ready B.n s.m ps avs bd)
  (h:∀r σ' nx',S r σ' nx'→Kp P B k R .normal ⟨s.m,aB σ' s.nx .dead,nx'⟩):Kp P B (.code (.rangeFunc g ps avs bd) :: k) R .normal s:=by
 intro a w hr;obtain ⟨C,h1,h2,h3,h4,h5,h6⟩:=hr;refine wpIn_rangeFunc (F:=FR B.ro) fun fn _=>?_
 have henter:=run_enterLoop_outer (P:=P) (w:=w) fn a.tmps ps avs bd;rw [←hro] at henter;obtain ⟨hg,spec⟩:=spec;obtain ⟨lo,hlo⟩:∃lo:Loop,lo={state:=.ready,pending:=none,fn,tmps:=a.tmps,params:=ps,assign:=avs,body:=bd,defers:=w.heap.size}:=⟨_,rfl⟩;rw [←hlo] at henter;obtain ⟨j1,j2⟩:=bCY h5 (.deferred (some []));obtain ⟨w1,hw1⟩:∃w1,w1=w.alloc (.deferred (some [])):=⟨_,rfl⟩;rw [←hw1] at j1 j2 henter;have hw1s:w1.heap.size=w.heap.size+1:=by rw [hw1];exact World.size_alloc w _
 obtain ⟨C',hC⟩:∃C':aZ,C'=⟨C.imm,fun i=>if i=C.nx then some w1.heap.size else C.own i,fun i=>if i=C.nx then undef else C.hdr i,C.nx+1⟩:=⟨_,rfl⟩;have hk0:eD w1 C.imm (w1.alloc (.loop lo)) C'.imm:=⟨fun b h=>by rw [hC];exact h,fun b h=>lY w1 _ (j1.imm_lt b h)⟩;have hc0:gC C C':=by subst hC;exact ⟨by simp,fun i hi=>if_neg (by omega),fun i hi=>if_neg (by omega)⟩
 obtain ⟨n1,n2⟩:=rO j1 (.loop lo) (.loop .ready B.n s.m ps avs bd) undef C' hC ⟨w1.heap.size,lo,by rw [hC];simp,oN w1 _,by rw [hlo],by rw [hlo],by rw [hlo];exact h3,by rw [hlo],by rw [hlo],by rw [hlo],fun t _=>by
  have:=((h2 t).step h5 j2).keeps hk0 hc0
  have e:lo.tmps=a.tmps:=by rw [hlo]
  rw [e];exact this⟩
 rw [h1] at n1 n2;have hown:C'.own s.nx=some (w.heap.size+1):=by rw [hC,←h1,←hw1s];simp
 have hnx':C'.nx=s.nx+1:=by rw [hC,h1]
 have hst:=j2.trans n2;have hyr:aN (w1.alloc (.loop lo)) C' (.yld s.nx) (.func (.yield (w.heap.size+1)) #[] #[]):=.yld (by omega) hown;have hgr:=(cV h2 g).step h5 hst
 obtain ⟨first,caps,hv,hrl⟩:=aBL hf hgr (vs:=#[.func (.yield (w.heap.size+1)) #[] #[]]) rfl (fun k x u hx hu=>by
  cases k with
  |zero=>simp at hx hu;subst hx;subst hu;exact hyr
  |succ k=>simp at hx)
 have hcall:=spec C' _ _ n1 hnx' hrl
 have hres:(resolve a.eval (rangeCall g (w.heap.size+1)) 0).run P (w1.alloc (.loop lo))= .ok {target:=.fn (.func f) caps,args:=first++ #[.func (.yield (w.heap.size+1)) #[] #[]]} (w1.alloc (.loop lo)):=by
  have e:Array.map a.eval #[Operand.const (Value.func (Fn.yield (w.heap.size+1)) #[] #[])]= #[Value.func (Fn.yield (w.heap.size+1)) #[] #[]]:=by simp [Act.eval]
  simp only [resolve,rangeCall,Deferred.ofValue,hv,Sem.run_pure,e]
 have hinv:(invoke (.fn (.func f) caps) (first++ #[.func (.yield (w.heap.size+1)) #[] #[]])).run P (w1.alloc (.loop lo))= .ok (.enter f (first++ #[.func (.yield (w.heap.size+1)) #[] #[]]++caps)) (w1.alloc (.loop lo)):=by
  unfold mN at hg;cases hfn:P.funcs[f]? with
  |none=>rw [hfn] at hg;cases hg
  |some fn=>
   rw [hfn] at hg;simp only [Bool.and_eq_true,Bool.not_eq_true'] at hg;simp only [invoke,callFunc,Sem.run_bind,run_program,hfn,Result.andThen_ok];have e1:fn.body.isNone=false:=by rw [←Option.not_isSome,hg.2];rfl
   simp [hg.1,e1]
 refine ⟨w.heap.size+1,_,_,_,_,f,_,_,henter,hres,fun _ _=>trivial,hinv,aAK,aBM.2 ?_⟩;rw [Array.toArray_toList] at hcall;refine hcall.mono ?_;rintro e w3 ⟨r,σ',nx',C3,v,g0,rfl,g1,g2,g3,g4⟩;have hσ:=hS _ _ _ g0;have hob:=g1.obj s.nx;rw [hσ] at hob;obtain ⟨bl,r3,c0,c1,c2,c3,_⟩:=hob;have hown3:C3.own s.nx=some (w.heap.size+1):=(g4.le.own s.nx (by omega)).trans hown;rw [hown3] at c0;cases c0;have hd3:σ' s.nx≠ .dead:=by rw [hσ];exact (fun h=>by cases h)
 obtain ⟨k1,k2⟩:=bA1 (.loop {r3 with state:=.exhausted}) g1 hd3 hown3;have hel:(Instr.endLoop (w.heap.size+1)).run P w3= .ok none (w3.putObj (w.heap.size+1) (.loop {r3 with state:=.exhausted})):=by rw [run_endLoop (P:=P) c1 (by rw [c2];decide),c3]
 refine ⟨none,_,hel,?_⟩;have hfull:=(hst.trans g4).trans k2;have hmut:∀{b},kB C s.σ b→b<w.heap.size:=fun {b} ⟨i,hi,ho⟩=>lE h5 hi ho
 refine ⟨_,h r σ' nx' g0,C3,g2,fun t=>(h2 t).step h5 hfull,h3,?_,k1,h6.trans hfull⟩
 have hm1:aGH B.w.heap.size C s.σ w1 {target:=.collected w.heap.size,args:=#[]}:=
  ⟨w.heap.size,rfl,h6.size,by rw [hw1];exact oN w _,fun hi=>by have:=h5.imm_lt _ hi;omega,fun hm=>by have:=hmut hm;omega⟩
 have hms:jN B.w.heap.size C s.σ w1 ({target:=.collected w.heap.size,args:=#[]} :: a.defers):=by
  have h4':=h4.step j2;refine ⟨fun d hd=>?_,List.pairwise_cons.2 ⟨fun d hd=>?_,h4.nodup⟩⟩
  ·rcases List.mem_cons.1 hd with e | e
   ·rw [e];exact hm1
   ·exact h4'.all d e
  ·obtain ⟨r',e1,_,e3,_⟩:=h4.all d hd;have hlt:r'<w.heap.size:=(Array.getElem?_eq_some_iff.1 e3).1;rw [e1];intro e;cases e;omega
 exact hms.step ((n2.trans g4).trans k2)
theorem aGC {g:Operand} {ps:Array Tmp} {avs bd:Code} (hro:B.ro=none) {f:FuncId} {args:List AV} (hf:callee (ev s.m g) [.yld s.nx]=some (f,args))
  (h:∀L,L= .loop .ready B.n s.m ps avs bd→∃S:AV→(Nat→aG)→Nat→Prop,bN P f args (aB s.σ s.nx L) (s.nx+1) S∧∀r σ' nx',S r σ' nx'→σ' s.nx=L∧Kp P B k R .normal ⟨s.m,aB σ' s.nx .dead,nx'⟩):
  Kp P B (.code (.rangeFunc g ps avs bd) :: k) R .normal s:=by
 obtain ⟨S,h1,h2⟩:=h _ rfl;exact aQO hro hf h1 (fun r σ' nx' hs=>(h2 r σ' nx' hs).1) fun r σ' nx' hs=>(h2 r σ' nx' hs).2
end
@[go_sem] theorem bIC {P:Program} {n:Nat} {G:List KI→St→Prop} {f:Nat} {k:List KI} {s:St} {g:Operand} {ps:Array Tmp} {avs bd:Code}:run P n G (f+1) (.code (.rangeFunc g ps avs bd) :: k) s=G (.code (.rangeFunc g ps avs bd) :: k) s:=by rw [run];all_goals simp
theorem aM2 {P:Program} {f:FuncId} {fn:Func} {c:Code} (hf:P.funcs[f]? =some fn) (hb:fn.body=some c) (hname:(fn.name== "runtime.NumGoroutine")=false) {args:List AV} {r:AV} (hn:args.length≤fn.ntmps) (ha:args.all (aE 0)=true) (hr:aE 0 r=true)
  (h:∀B:cD,B.n=fn.ntmps→B.C.nx=0→B.ro=none→Kp P B [.code c] (fun e s=>(e= .ret∨e= .normal)∧∃rs,kK P s fn.results.toList=some rs∧gV s.σ (iK rs)=r) .normal ⟨mB args,dR,0⟩):Pure P f args r:=by
 refine ⟨fun a h=>List.all_eq_true.1 ha a h,hr,bDR hf hb hname hn fun B h1 h2 _ h0=>?_⟩;refine fun a w hrel=>fU (h B h1 h2 h0 a w hrel) fun e a' w' hp=>?_
 obtain ⟨s',⟨he,rs,h3,h4⟩,h5⟩:=hp;refine ⟨s',?_,h5⟩;rcases he with rfl | rfl
 ·exact ⟨rs,h3,j9.pure h4.symm hr⟩
 ·exact ⟨rs,h3,j9.pure h4.symm hr⟩
end Go.Proofs.YtnoifgjiipgpoaaGreatDoor.R
namespace Go.Proofs.YtnoifgjiipgpoaaGreatDoor.R
open Go.RowKit
set_option maxRecDepth 10000
def fE:List AV→Option (List Value)
 |[]=>some []
 | .t (.v x) :: r=>if fN x=true then (fE r).map (x :: ·) else none
 |_ :: _=>none
def fY:AV→Option Value
 | .t (.v x)=>if fN x=true then some x else none
 | .agg cs=>(fE cs).map fun l=>.agg l.toArray
 |_=>none
theorem aD4:∀{cs:List AV} {l:List Value},fE cs=some l→l.length=cs.length
 |[],l,h=>by simp [fE] at h;subst h;rfl
 | .t (.v x) :: r,l,h=>by
  simp only [fE] at h;split at h
  ·obtain ⟨l',h1,rfl⟩:=Option.map_eq_some_iff.1 h;simp [aD4 h1]
  ·cases h
 | .t (.sl _) :: _,_,h=>by simp [fE] at h
 | .agg _ :: _,_,h=>by simp [fE] at h
 | .tup _ :: _,_,h=>by simp [fE] at h
 | .fsl _ :: _,_,h=>by simp [fE] at h
 | .ref _ :: _,_,h=>by simp [fE] at h
 | .ptr _ _ :: _,_,h=>by simp [fE] at h
 | .rd _ :: _,_,h=>by simp [fE] at h
 | .el _ _ :: _,_,h=>by simp [fE] at h
 | .cut _ _ _ _ :: _,_,h=>by simp [fE] at h
 | .ifc _ _ :: _,_,h=>by simp [fE] at h
 | .mapr _ :: _,_,h=>by simp [fE] at h
 | .yld _ :: _,_,h=>by simp [fE] at h
 | .fn _ _ _ :: _,_,h=>by simp [fE] at h
 | .any :: _,_,h=>by simp [fE] at h
theorem aD3:∀{cs:List AV} {l:List Value},fE cs=some l→∀(k:Nat) (a:AV),cs[k]? =some a→∃x,a= .t (.v x)∧fN x=true∧l[k]? =some x
 |[],l,_,k,a,hk=>by simp at hk
 |c :: r,l,h,k,a,hk=>by
  cases c with
  |t y=>
   cases y with
   |v x=>
    simp only [fE] at h;split at h
    ·rename_i hp;obtain ⟨l',h1,rfl⟩:=Option.map_eq_some_iff.1 h;cases k with
     |zero=>simp at hk;subst hk;exact ⟨x,rfl,hp,rfl⟩
     |succ k=>exact aD3 h1 k a (by simpa using hk)
    ·cases h
   |sl _=>simp [fE] at h
  |_=>simp [fE] at h
section
variable {P:Program} {w:World} {C:aZ}
theorem aEH {a:AV} {u v:Value} (h:fY a=some u) (hr:aN w C a v):v=u:=by
 cases a with
 |t y=>
  cases y with
  |v x=>
   simp only [fY] at h;split at h
   ·cases h;exact (cK hr).1
   ·cases h
  |sl _=>simp [fY] at h
 |agg cs=>
  simp only [fY] at h;obtain ⟨l,h1,rfl⟩:=Option.map_eq_some_iff.1 h;obtain ⟨vs,rfl,hl,hrr⟩:=mA hr;have hlen:=aD4 h1;congr 1;apply Array.ext';refine List.ext_getElem? fun k=>?_
  by_cases hk:k<cs.length
  ·obtain ⟨x,e1,_,e3⟩:=aD3 h1 k _ (List.getElem?_eq_getElem hk);have hv:vs[k]? =some vs[k]:=Array.getElem?_eq_getElem (by omega);have:=hrr k _ _ (List.getElem?_eq_getElem hk) hv;rw [e1] at this;rw [e3,Array.getElem?_toList,hv,(cK this).1]
  ·rw [List.getElem?_eq_none (by simp;omega),List.getElem?_eq_none (by simp;omega)]
 |_=>simp [fY] at h
theorem aMR {a:AV} {u:Value} (h:fY a=some u):aN w C a u:=by
 cases a with
 |t y=>
  cases y with
  |v x=>
   simp only [fY] at h;split at h
   ·rename_i hp;cases h;exact .t (.v hp)
   ·cases h
  |sl _=>simp [fY] at h
 |agg cs=>
  simp only [fY] at h;obtain ⟨l,h1,rfl⟩:=Option.map_eq_some_iff.1 h;have hlen:=aD4 h1;refine .agg (by simpa using hlen.symm) fun k a u ha hu=>?_
  obtain ⟨x,rfl,hp,e3⟩:=aD3 h1 k a ha
  have:u=x:=by
   have h9:(l.toArray)[k]? =l[k]?:=by simp
   rw [h9,e3] at hu;exact (Option.some.inj hu).symm
  subst this;exact .t (.v hp)
 |_=>simp [fY] at h
def lJ (P:Program):Nat→TypeId→AV→Bool
 |0,_,_=>false
 |d+1,t,a=>match TT P t with
  |some ⟨.int _,_,_,_⟩=>match a with | .t (.v (.int _ _))=>true | _=>false
  |some ⟨.bool,_,_,_⟩=>match a with | .t (.v (.bool _))=>true | _=>false
  |some ⟨.struct fs,_,_,_⟩=>match a with
   | .agg cs=>fs.toList.all fun f=>match TT P f.type with
    |some i=>match jJ i cs f.offset with
     |some x=>lJ P d f.type x
     |none=>false
    |none=>false
   |_=>false
  |_=>false
theorem xR (em:Bool):∀(d:Nat) (t:TypeId) (a:AV) (v:Value),lJ P d t a=true→aN w C a v→(Instr.checkKey em d t v).run P w= .ok () w
 |0,_,_,_,h,_=>by simp [lJ] at h
 |d+1,t,a,v,h,hr=>by
  simp only [lJ] at h;cases ht:TT P t with
  |none=>rw [ht] at h;cases h
  |some i=>
   rw [ht] at h;have hu:=(cG ht).1;obtain ⟨desc,sz,by_,z⟩:=i;cases desc<;>simp only [Bool.false_eq_true] at h
   case bool=>
    split at h
    ·obtain ⟨rfl,_⟩:=cK hr;simp [Instr.checkKey,Sem.run_bind,run_underlying hu]
    ·cases h
   case int k=>
    split at h
    ·obtain ⟨rfl,_⟩:=cK hr;simp [Instr.checkKey,Sem.run_bind,run_underlying hu]
    ·cases h
   case struct fs=>
    split at h
    ·rename_i cs;obtain ⟨vs,rfl,hl,hrr⟩:=mA hr;rw [Instr.checkKey];simp only [Sem.run_bind,run_underlying hu,Result.andThen_ok];rw [←Array.forIn_toList];have each:=List.all_eq_true.1 h;clear h;generalize fs.toList=L at each
     induction L with
     |nil=>simp
     |cons f L ih=>
      have hf:=each f List.mem_cons_self;split at hf
      ·rename_i i hi;split at hf
       ·rename_i x hx;obtain ⟨u,p1,p2⟩:=vM (P:=P) hi hl hrr hx;have p3:=xR em d f.type x u hf p2;by_cases hn:f.name= "_"
        ·simp only [List.forIn_cons,Sem.run_bind,hn,ne_eq,not_true_eq_false,if_false,Result.andThen_ok,Sem.run_pure];exact ih fun y hy=>each y (List.mem_cons_of_mem _ hy)
        ·simp only [List.forIn_cons,Sem.run_bind,hn,ne_eq,not_false_eq_true,if_true,Result.andThen_ok,p1,p3,Sem.run_pure];exact ih fun y hy=>each y (List.mem_cons_of_mem _ hy)
       ·cases hf
      ·cases hf
    ·cases h
open Classical in
noncomputable def fC (u:Value):List (Value×AV)→Option (Nat×AV)
 |[]=>none
 |e :: r=>if e.1=u then some (0,e.2) else (fC u r).map fun p=>(p.1+1,p.2)
open Classical in
def mE (P:Program) (kt:TypeId) (ka:AV) (u:Value) (es:List (Value×AV)):Prop:=∀e∈es,∃kb,fY kb=some e.1∧iS P 10000 kt ka kb=some (decide (e.1=u))
open Classical in
theorem aGU {kt:TypeId} {ka:AV} {u:Value} (hu:fY ka=some u):∀(es:List (Value×AV)) (ms:List MapEntry) (i:Nat),mE P kt ka u es→es.length=ms.length→
  (∀(k:Nat) (a:Value×AV) (m:MapEntry),es[k]? =some a→ms[k]? =some m→m.key=a.1∧aN w C a.2 m.val)→
  (fC u es=none→(Instr.findAsking kt u ms i).run P w= .ok none w)∧(∀j a,fC u es=some (j,a)→∃m,ms[j]? =some m∧m.key=u∧aN w C a m.val∧(Instr.findAsking kt u ms i).run P w= .ok (some (i+j,m.val)) w)
 |[],[],i,_,_,_=>⟨fun _=>by simp [Instr.findAsking],fun j a h=>by simp [fC] at h⟩
 |[],_ :: _,_,_,h,_=>by simp at h
 |_ :: _,[],_,_,h,_=>by simp at h
 |e :: es,m :: ms,i,ht,hl,hr=>by
  obtain ⟨hk,hv⟩:=hr 0 e m rfl rfl;obtain ⟨kb,b1,b2⟩:=ht e List.mem_cons_self;have heq:=aH8 (w:=w) (C:=C) 10000 kt ka kb _ u e.1 b2 (aMR hu) (aMR b1);have heq:(Op.equal kt u m.key).run P w= .ok (decide (e.1=u)) w:=by rw [hk];exact heq
  obtain ⟨ih1,ih2⟩:=aGU hu es ms (i+1) (fun x hx=>ht x (List.mem_cons_of_mem _ hx)) (by simpa using hl) (fun k a m' h1 h2=>hr (k+1) a m' (by simpa using h1) (by simpa using h2));rw [fC,Instr.findAsking];simp only [Sem.run_bind,heq,Result.andThen_ok];by_cases hc:e.1=u
  ·simp only [hc,decide_true,if_true];refine ⟨fun h=>by simp at h,fun j a h=>?_⟩;simp only [Option.some.injEq,Prod.mk.injEq] at h;obtain ⟨rfl,rfl⟩:=h;exact ⟨m,rfl,by rw [hk,hc],hv,by simp⟩
  ·simp only [hc,decide_false,if_false,Bool.false_eq_true];refine ⟨fun h=>ih1 (by simpa using h),fun j a h=>?_⟩;obtain ⟨⟨j',a'⟩,h1,h2⟩:=Option.map_eq_some_iff.1 h;simp only [Prod.mk.injEq] at h2;obtain ⟨rfl,rfl⟩:=h2;obtain ⟨m',g1,g2,g3,g4⟩:=ih2 j' a' h1;exact ⟨m',by simpa using g1,g2,g3,by rw [g4,show i+(j'+1)=i+1+j' by omega]⟩
def pO (P:Program) (kt:TypeId):Bool:=match P.underlying kt with | some (.struct _) | some (.int _)=>true | _=>false
theorem aUO {d:Nat} {kt:TypeId} {q:IntKind} {ka kb:AV} {r:Bool} (hu:P.underlying kt=some (.int q)) (h:iS P (d+1) kt ka kb=some r):∃k a b,ka= .t (.v (.int k a))∧kb= .t (.v (.int k b))∧r=decide (a=b):=by
 simp only [iS] at h;cases ht:TT P kt with
 |none=>rw [ht] at h;cases h
 |some i=>
  obtain ⟨desc,sz,by_,z⟩:=i;have:=(cG ht).1;rw [hu] at this;cases this;rw [ht] at h;simp only at h;split at h
  ·split at h
   ·rename_i hk;subst hk;cases h;exact ⟨_,_,_,rfl,rfl,rfl⟩
   ·cases h
  ·cases h
open Classical in
theorem aCC {kt:TypeId} {ka:AV} {u:Value} (hk:pO P kt=true) (hc:lJ P 10000 kt ka=true) (hu:fY ka=some u) (es:List (Value×AV)) (ms:Array MapEntry) (ht:mE P kt ka u es) (hl:es.length=ms.size)
  (hr:∀(k:Nat) (a:Value×AV) (m:MapEntry),es[k]? =some a→ms[k]? =some m→m.key=a.1∧aN w C a.2 m.val):
  (fC u es=none→(Instr.findKey kt u ms.toList).run P w= .ok none w)∧(∀j a,fC u es=some (j,a)→∃m,ms[j]? =some m∧m.key=u∧aN w C a m.val∧(Instr.findKey kt u ms.toList).run P w= .ok (some (j,m.val)) w):=by
 have key:=aGU (w:=w) (C:=C) hu es ms.toList 0 ht (by simpa using hl) (fun k a m h1 h2=>hr k a m h1 (by simpa using h2));simp only [Array.getElem?_toList,Nat.zero_add] at key;unfold pO at hk;cases hund:P.underlying kt with
 |none=>rw [hund] at hk;cases hk
 |some kd=>
  rw [hund] at hk;cases kd<;>simp only [Bool.false_eq_true] at hk
  case struct fs=>rw [run_findKey_eq w (by rw [hund])];exact key
  case int q=>
   have now:∀(es:List (Value×AV)) (ms:List MapEntry) (i:Nat),mE P kt ka u es→es.length=ms.length→(∀(k:Nat) (a:Value×AV) (m:MapEntry),es[k]? =some a→ms[k]? =some m→m.key=a.1∧aN w C a.2 m.val)→
     (fC u es=none→Instr.findNow (.int q) u ms i=some none)∧(∀j a,fC u es=some (j,a)→∃m,ms[j]? =some m∧m.key=u∧aN w C a m.val∧Instr.findNow (.int q) u ms i=some (some (i+j,m.val))):=by
    intro es
    induction es with
    |nil=>intro ms i _ hl _;have:ms=[]:=List.eq_nil_of_length_eq_zero (by simpa using hl.symm);subst this;exact ⟨fun _=>rfl,fun j a h=>by simp [fC] at h⟩
    |cons e es ih=>
     intro ms i ht hl hr;cases ms with
     |nil=>simp at hl
     |cons m ms=>
      obtain ⟨hk',hv⟩:=hr 0 e m rfl rfl;obtain ⟨kb,b1,b2⟩:=ht e List.mem_cons_self;obtain ⟨ih1,ih2⟩:=ih ms (i+1) (fun x hx=>ht x (List.mem_cons_of_mem _ hx)) (by simpa using hl) (fun k a m' h1 h2=>hr (k+1) a m' (by simpa using h1) (by simpa using h2));have hs:Instr.sameNow (.int q) u m.key=some (decide (e.1=u)):=by rw [hk'];obtain ⟨k,a,b,rfl,rfl,e9⟩:=aUO (d:=9999) hund b2;simp only [fY,fN,if_true,Option.some.injEq] at hu b1;subst hu;rw [←b1] at e9 ⊢;rw [e9];simp only [Instr.sameNow,if_true,Option.some.injEq];by_cases e8:a=b<;>simp [e8]
      rw [fC,Instr.findNow,hs];by_cases hc:e.1=u
      ·simp only [hc,decide_true,if_true];refine ⟨fun h=>by simp at h,fun j a h=>?_⟩;simp only [Option.some.injEq,Prod.mk.injEq] at h;obtain ⟨rfl,rfl⟩:=h;exact ⟨m,rfl,by rw [hk',hc],hv,by simp⟩
      ·simp only [hc,decide_false,if_false];refine ⟨fun h=>ih1 (by simpa using h),fun j a h=>?_⟩;obtain ⟨⟨j',a'⟩,h1,h2⟩:=Option.map_eq_some_iff.1 h;simp only [Prod.mk.injEq] at h2;obtain ⟨rfl,rfl⟩:=h2;obtain ⟨m',g1,g2,g3,g4⟩:=ih2 j' a' h1;exact ⟨m',by simpa using g1,g2,g3,by rw [g4,show i+(j'+1)=i+1+j' by omega]⟩
   obtain ⟨n1,n2⟩:=now es ms.toList 0 ht (by simpa using hl) (fun k a m h1 h2=>hr k a m h1 (by simpa using h2));refine ⟨fun h=>MapKept.run_findKey hund (n1 h),fun j a h=>?_⟩;obtain ⟨m,g1,g2,g3,g4⟩:=n2 j a h;exact ⟨m,by simpa using g1,g2,g3,by simpa using MapKept.run_findKey hund g4⟩
end
end Go.Proofs.YtnoifgjiipgpoaaGreatDoor.R
namespace Go.Proofs.YtnoifgjiipgpoaaGreatDoor.R
open Go.RowKit
set_option maxRecDepth 10000
section
variable {P:Program} {B:cD} {k:List KI} {R:dZ} {s:St} {all:Array Oper} {o:Oper} {rest:List Oper}
theorem aDL {C:aZ} {σ:Nat→aG} {w:World} {m:Nat} {es:List (Value×AV)} {v:Value} (hs:bC C σ w) (hσ:σ m= .map es) (hr:aN w C (.mapr m) v):∃bl ms clock,v= .map (some bl)∧C.own m=some bl∧w.heap[bl]? =some (.map ms clock)∧es.length=ms.size∧
  ∀(k:Nat) (a:Value×AV) (u:MapEntry),es[k]? =some a→ms[k]? =some u→u.key=a.1∧aN w C a.2 u.val:=by
 have hob:=hs.obj m;rw [hσ] at hob;obtain ⟨bl,ms,clock,e0,e1,e2,e3⟩:=hob;cases hr with
 |mapr h ho=>rw [e0] at ho;cases ho;exact ⟨bl,ms,clock,rfl,e0,e1,e2,e3⟩
noncomputable def pP (z:AV) (u:Value) (es:List (Value×AV)) (ok:Bool):AV:=
 match fC u es with
 |some (_,a)=>if ok=true then .tup [a,.b true] else a
 |none=>if ok=true then .tup [z,.b false] else z
theorem aK6 {C:aZ} {σ:Nat→aG} {w:World} {ρ:Operand→AV} {ρv:Operand→Value} {t kt et:TypeId} {x ix:Operand} {ok:Bool} {it ie:TI} {m:Nat} {es:List (Value×AV)} {u:Value} (hs:bC C σ w) (hρ:∀x,aN w C (ρ x) (ρv x)) (ho:o.op= .lookup t x ix ok)
  (ht:TT P t=some it) (hd:it.desc= .map kt et) (he:TT P et=some ie) (hk:pO P kt=true) (hx:ρ x= .mapr m) (hσ:σ m= .map es) (hu:fY (ρ ix)=some u) (hc:lJ P 10000 kt (ρ ix)=true) (htell:mE P kt (ρ ix) u es):
  ∃v,(execOp ρv o).run P w= .ok (.value v) w∧aN w C (pP (rI ie.zero) u es ok) v:=by
 have hmx:=hρ x;rw [hx] at hmx;obtain ⟨bl,ms,clock,e0,e1,e2,e3,e4⟩:=aDL hs hσ hmx;have hix:=aEH hu (hρ ix);have hund:P.underlying t=some (.map kt et):=by rw [(cG ht).1,hd]
 have hck:(Instr.checkKey ms.isEmpty 10000 kt u).run P w= .ok () w:=by
  have:=xR (w:=w) (C:=C) ms.isEmpty 10000 kt (ρ ix) (ρv ix) hc (hρ ix)
  rwa [hix] at this
 obtain ⟨f1,f2⟩:=aCC (w:=w) (C:=C) hk hc hu es ms htell e3 e4;cases hf:fC u es with
 |none=>
  have:=f1 hf;refine ⟨if ok=true then .tuple #[ie.zero,.bool false] else ie.zero,?_,?_⟩
  ·have hrun:(execOp ρv o).run P w= .ok (.value (if ok=true then .tuple #[ie.zero,.bool false] else ie.zero)) w:=by simp only [execOp,ho,Instr.lookup,Sem.run_bind,run_underlying hund,Result.andThen_ok,e0,hix,MapKept.run_getObj_map e2,Sem.run_pure,hck,this,oQ he]
   exact hrun
  ·rw [pP,hf];cases ok
   ·exact xS _
   ·exact .tup rfl fun k a v ha hv=>by
     match k with
     |0=>simp at ha hv;subst ha;subst hv;exact xS _
     |1=>simp at ha hv;subst ha;subst hv;exact .t (.v rfl)
     |k+2=>simp at ha
 |some p=>
  obtain ⟨j,a⟩:=p;obtain ⟨me,g1,g2,g3,g4⟩:=f2 j a hf;refine ⟨if ok=true then .tuple #[me.val,.bool true] else me.val,?_,?_⟩
  ·have hrun:(execOp ρv o).run P w= .ok (.value (if ok=true then .tuple #[me.val,.bool true] else me.val)) w:=by simp only [execOp,ho,Instr.lookup,Sem.run_bind,run_underlying hund,Result.andThen_ok,e0,hix,MapKept.run_getObj_map e2,Sem.run_pure,hck,g4]
   exact hrun
  ·rw [pP,hf];cases ok
   ·exact g3
   ·exact .tup rfl fun k b v hb hv=>by
     match k with
     |0=>simp at hb hv;subst hb;subst hv;exact g3
     |1=>simp at hb hv;subst hb;subst hv;exact .t (.v rfl)
     |k+2=>simp at hb
theorem aF9 {t kt et:TypeId} {x ix:Operand} {ok:Bool} {it ie:TI} {m:Nat} {es:List (Value×AV)} {u:Value} {r:AV} (hg:o.guard=none) (ho:o.op= .lookup t x ix ok) (hd:cH B.n o.dst=true)
  (ht:TT P t=some it) (hdesc:it.desc= .map kt et) (he:TT P et=some ie) (hk:pO P kt=true) (hx:ev s.m x= .mapr m) (hσ:s.σ m= .map es) (hu:fY (ev s.m ix)=some u) (hc:lJ P 10000 kt (ev s.m ix)=true) (htell:mE P kt (ev s.m ix) u es) (hr:pP (rI ie.zero) u es ok=r)
  (h:Kp P B (.ops all rest :: k) R .normal ⟨put s.m o.dst r,s.σ,s.nx⟩):Kp P B (.ops all (o :: rest) :: k) R .normal s:=by
 intro a w hrel;refine iO hg fun K hK=>?_
 obtain ⟨C,h1,h2,h3,h4,h5,h6⟩:=hrel;obtain ⟨v,g1,g2⟩:=aK6 h5 (cV h2) ho ht hdesc he hk hx hσ hu hc htell;rw [hr] at g2;exact eW g1 (hK _ _ (h _ _ ⟨C,h1,gM h5 (bO.refl _ _ _) h2 (by rw [h3];exact hd) g2,by rw [fF];exact h3,by rw [gL];exact h4,h5,h6⟩))
theorem aQA {lo:List Nat} {sw:SW} {i:Nat} {rest:List (Nat×Oper)} {pend:List Rc} {t kt et:TypeId} {x ix:Operand} {ok:Bool} {it ie:TI} {m:Nat} {es:List (Value×AV)} {u:Value} {r:AV} (hl:cZ all s.m o=some true) (ho:o.op= .lookup t x ix ok)
  (ht:TT P t=some it) (hdesc:it.desc= .map kt et) (he:TT P et=some ie) (hk:pO P kt=true) (hx:ev s.m x= .mapr m) (hσ:s.σ m= .map es) (hu:fY (ev s.m ix)=some u) (hc:lJ P 10000 kt (ev s.m ix)=true) (htell:mE P kt (ev s.m ix) u es) (hr:pP (rI ie.zero) u es ok=r)
  (htied:fR all lo i=true) (h:Kp P B (.opsD all lo sw rest pend :: k) R .normal ⟨put s.m o.dst r,s.σ,s.nx⟩):Kp P B (.opsD all lo sw ((i,o) :: rest) pend :: k) R .normal s:=
 bZ.at fun ho'=>bZ.step (loud:=none) (v:=r) (by
  intro C a w hn hs hsz hrep ro K Q hK
  have hops:=jV (m:=s.m) ho'
  have hd:bS all i=o.dst:=by simp [bS,ho']
  simp only [fI,wpOpIn,ho',jG ho' hrep hl,if_true]
  have ex:=hops x (by simp [ho,Op.operands])
  have eix:=hops ix (by simp [ho,Op.operands])
  obtain ⟨v,g1,g2⟩:=aK6 hs (cV hrep) ho ht hdesc he hk (by rw [ex];exact hx) hσ (by rw [eix];exact hu) (by rw [eix];exact hc) (by rw [eix];exact htell)
  rw [hd] at hK
  rw [hr] at g2
  exact eW g1 (hK _ _ C hs hn (bO.refl _ _ _) g2)) (fun _=>.inr (by
  simp only [fR,List.all_eq_true,Bool.and_eq_true,Bool.or_eq_true,Bool.not_eq_true',decide_eq_false_iff_not] at htied
  exact ⟨fun k hk h=>((htied k hk).1).resolve_left (fun e=>e h),.inl fun k hk h=>((htied k hk).2).resolve_left (fun e=>e h)⟩)) (fun c hc=>by cases hc) (fun _ h=>h) h
noncomputable def hZ (u:Value) (a:AV) (es:List (Value×AV)):List (Value×AV):=
 match fC u es with
 |some (j,_)=>es.set j (u,a)
 |none=>es++[(u,a)]
theorem aN5 {w:World} {v:Value} (h:Instr.sameBits 10000 v v=true):(Instr.keyThatStays v v).run P w= .ok v w:=by simp only [Instr.keyThatStays,h,if_true,Sem.run_pure]
theorem aQJ {t kt et:TypeId} {x ix y:Operand} {it:TI} {m:Nat} {es:List (Value×AV)} {u:Value} (hg:o.guard=none) (ho:o.op= .mapUpdate t x ix y) (hd:cH B.n o.dst=true)
  (ht:TT P t=some it) (hdesc:it.desc= .map kt et) (hk:pO P kt=true) (hx:ev s.m x= .mapr m) (hσ:s.σ m= .map es) (hu:fY (ev s.m ix)=some u) (hc:lJ P 10000 kt (ev s.m ix)=true) (htell:mE P kt (ev s.m ix) u es) (hsame:fC u es=none∨Instr.sameBits 10000 u u=true)
  (h:Kp P B (.ops all rest :: k) R .normal ⟨put s.m o.dst (.tup []),aB s.σ m (.map (hZ u (ev s.m y) es)),s.nx⟩):Kp P B (.ops all (o :: rest) :: k) R .normal s:=by
 intro a w hrel;refine iO hg fun K hK=>?_
 obtain ⟨C,h1,h2,h3,h4,h5,h6⟩:=hrel;have hρ:=cV h2;have hmx:=hρ x;rw [hx] at hmx;obtain ⟨bl,ms,clock,e0,ow,e2,e3,e4⟩:=aDL h5 hσ hmx;have hix:=aEH hu (hρ ix);have hy:=hρ y;have hund:P.underlying t=some (.map kt et):=by rw [(cG ht).1,hdesc]
 have hck:(Instr.checkKey false 10000 kt u).run P w= .ok () w:=by
  have:=xR (w:=w) (C:=C) false 10000 kt (ev s.m ix) (a.eval ix) hc (hρ ix)
  rwa [hix] at this
 obtain ⟨f1,f2⟩:=aCC (w:=w) (C:=C) hk hc hu es ms htell e3 e4;have hlt:bl<w.heap.size:=(Array.getElem?_eq_some_iff.1 e2).1;have hdead:s.σ m≠ .dead:=by rw [hσ];exact (fun h=>by cases h)
 have fin:∀(ms':Array MapEntry) (clock':Nat),(execOp a.eval o).run P w= .ok .skip {w with heap:=w.heap.setIfInBounds bl (.map ms' clock')}→
   ((hZ u (ev s.m y) es).length=ms'.size∧∀(k:Nat) (b:Value×AV) (v:MapEntry),(hZ u (ev s.m y) es)[k]? =some b→ms'[k]? =some v→v.key=b.1∧aN w C b.2 v.val)→nQ B.ro P o a w K (post B (Kp P B k R)):=by
  intro ms' clock' hrun ⟨l1,l2⟩;have hne:∀b,b≠bl→(w.heap.setIfInBounds bl (.map ms' clock'))[b]? =w.heap[b]?:=fun b hb=>by simp [Array.getElem?_setIfInBounds_ne (Ne.symm hb)]
  have hk0:eD w C.imm {w with heap:=w.heap.setIfInBounds bl (.map ms' clock')} C.imm:=⟨fun _ h=>h,fun b hb=>hne b fun e=>h5.sep m bl hdead ow (e ▸ hb)⟩
  obtain ⟨g1,g2⟩:=oR (w':={w with heap:=w.heap.setIfInBounds bl (.map ms' clock')}) (obj:=.map (hZ u (ev s.m y) es)) h5 hdead ow rfl rfl rfl (by simp) hne ⟨bl,ms',clock',ow,by simp [hlt],l1,fun k b v hb hv=>by
   obtain ⟨p1,p2⟩:=l2 k b v hb hv
   exact ⟨p1,p2.keeps hk0 ⟨Nat.le_refl _,fun _ _=>rfl,fun _ _=>rfl⟩⟩⟩
  exact vK hrun (hK _ _ (h _ _ ⟨C,h1,gM h5 g2 h2 (by rw [h3];exact hd) (.tup rfl (fun k a u h=>by simp at h)),by rw [fF];exact h3,by rw [gL];exact h4.step g2,g1,h6.trans g2⟩))
 cases hf:fC u es with
 |none=>
  refine fin (ms.push {key:=u,val:=a.eval y,born:=clock}) (clock+1) ?_ ?_
  ·simp only [execOp,ho,Instr.mapUpdate,Sem.run_bind,run_underlying hund,Result.andThen_ok,e0,hix,MapKept.run_getObj_map e2,Sem.run_pure,hck,f1 hf,MapKept.run_setObj_map _ e2]
  ·rw [hZ,hf];refine ⟨by simp [e3],fun k b v hb hv=>?_⟩;simp only at hb;by_cases hk':k<es.length
   ·rw [List.getElem?_append_left hk'] at hb;rw [Array.getElem?_push_lt (by omega)] at hv;exact e4 k b v hb (by rw [Array.getElem?_eq_getElem (by omega)];exact hv)
   ·rw [List.getElem?_append_right (by omega)] at hb;have hk0:k-es.length=0:=by have:=(List.getElem?_eq_some_iff.1 hb).1;simp at this;omega
    have hke:k=ms.size:=by omega
    subst hke;rw [hk0] at hb;simp at hb hv;subst hb;subst hv;exact ⟨rfl,hy⟩
 |some p=>
  obtain ⟨j,b0⟩:=p;obtain ⟨me,g1,g2,g3,g4⟩:=f2 j b0 hf;have hst:=aN5 (P:=P) (w:=w) (hsame.resolve_left (by rw [hf];simp));have hjlt:j<ms.size:=(Array.getElem?_eq_some_iff.1 g1).1;refine fin (ms.modify j fun e=>{e with key:=u,val:=a.eval y}) clock ?_ ?_
  ·simp only [execOp,ho,Instr.mapUpdate,Sem.run_bind,run_underlying hund,Result.andThen_ok,e0,hix,MapKept.run_getObj_map e2,Sem.run_pure,hck,g4,g1,Option.map_some,Option.getD_some,g2,hst,MapKept.run_setObj_map _ e2]
  ·rw [hZ,hf];refine ⟨by simp [e3],fun k b v hb hv=>?_⟩;simp only at hb;by_cases hkj:k=j
   ·subst hkj;rw [List.getElem?_set_self (by omega)] at hb;cases hb;rw [Array.getElem?_modify,if_pos rfl,g1] at hv;cases hv;exact ⟨rfl,hy⟩
   ·rw [List.getElem?_set_ne (fun e=>hkj e.symm)] at hb;rw [Array.getElem?_modify,if_neg (fun e=>hkj e.symm)] at hv;exact e4 k b v hb hv
end
end Go.Proofs.YtnoifgjiipgpoaaGreatDoor.R
namespace Go.Proofs.YtnoifgjiipgpoaaGreatDoor.R
open Go.RowKit
set_option maxRecDepth 10000
section
variable {P:Program} {B:cD} {k:List KI} {R:dZ} {s:St} {all:Array Oper} {o:Oper} {rest:List Oper}
theorem bBH {w:World} {C:aZ} {es:List (List T)} {v:Value} (h:aN w C (.t (.sl es)) v):∃a l c,v= .slice a l c∧(es≠[]→a.isNone=false):=by
 cases h with
 |t h=>
  cases h with
  |nil=>exact ⟨_,_,_,rfl,fun h=>absurd rfl h⟩
  |sl h0=>exact ⟨_,_,_,rfl,fun _=>rfl⟩
theorem aYU {w:World} {ρv:Operand→Value} {t t' e:TypeId} {x:Operand} {a:Option Addr} {l c:Nat} (ho:o.op= .binOp .eql t x (.const (.slice none 0 0)) t') (hu:P.underlying t=some (.slice e)) (hx:ρv x= .slice a l c) (hc:ρv (.const (.slice none 0 0))= .slice none 0 0):
  (execOp ρv o).run P w= .ok (.value (.bool a.isNone)) w:=by
 have he:=run_equal_slice_nil (P:=P) w t e a l c hu;simp only [execOp,ho,hx,hc,Sem.run_bind,eqGuard,binOp];simp [he]
theorem aGA {t t':TypeId} {x:Operand} {it:TI} {e:TypeId} {es:List (List T)} (hg:o.guard=none) (ho:o.op= .binOp .eql t x (.const (.slice none 0 0)) t') (hd:cH B.n o.dst=true) (ht:TT P t=some it) (hdesc:it.desc= .slice e) (hx:ev s.m x= .t (.sl es))
  (h:∀b:Bool,(es≠[]→b=false)→Kp P B (.ops all rest :: k) R .normal ⟨put s.m o.dst (.b b),s.σ,s.nx⟩):Kp P B (.ops all (o :: rest) :: k) R .normal s:=by
 intro a w hrel;refine iO hg fun K hK=>?_
 obtain ⟨C,h1,h2,h3,h4,h5,h6⟩:=hrel;have hrx:=cV h2 x;rw [hx] at hrx;obtain ⟨ad,l,c,hv,hn⟩:=bBH hrx;have hund:P.underlying t=some (.slice e):=by rw [(cG ht).1,hdesc]
 exact eW (aYU ho hund hv rfl) (hK _ _ (h ad.isNone hn _ _ ⟨C,h1,gM h5 (bO.refl _ _ _) h2 (by rw [h3];exact hd) (.t (.v rfl)),by rw [fF];exact h3,by rw [gL];exact h4,h5,h6⟩))
end
theorem aF5 {P:Program} {B:cD} {k:List KI} {R:dZ} {s:St} {all:Array Oper} {id:Nat} (lo fl ld:List Nat) (hm:P.follows .mixedOrders=true) (hst:rR all B.n lo=true) (ht:((List.range all.size).all (fun i=>fR all lo i== !fl.contains i)&&ld.all (fun i=>mL all lo i))=true)
  (h:(∀i,i<all.size→fR all lo i= !fl.contains i)→(∀i,i∈ld→mL all lo i=true)→Kp P B (.opsD all lo none (num 0 all.toList) [] :: k) R .normal s):Kp P B (.code (.region id all true) :: k) R .normal s:=by
 rw [Bool.and_eq_true] at ht;exact bK lo hm hst (h (fun i hi=>eq_of_beq (List.all_eq_true.1 ht.1 i (List.mem_range.2 hi))) (fun i hi=>List.all_eq_true.1 ht.2 i hi))
end Go.Proofs.YtnoifgjiipgpoaaGreatDoor.R
namespace Go.Proofs.YtnoifgjiipgpoaaGreatDoor.R
open Go.RowKit
section
variable {P:Program} {B:cD} {k:List KI} {R:dZ} {s:St}
theorem aF2 {α:Type} (I:α→Prop) (st:α→St) {c:Code} (h1:Kp P B [.code c] (fun e s'=>e= .normal∧∃y,I y∧aH B s' (st y)) .normal s) (h2:∀y,I y→Kp P B k R .normal (st y)):Kp P B (.code c :: k) R .normal s:=by
 intro a w hr;refine fU (h1 a w hr) fun e a' w' hp=>?_
 obtain ⟨s',⟨rfl,y,hy,hi⟩,h3⟩:=hp;exact ⟨st y,h2 y hy,hi _ _ h3⟩
theorem aH.looseB {b:Nat} {cs:List AV} (hb:s.σ b= .box cs):aH B s ⟨s.m,aB s.σ b (.box (cs.map cQ)),s.nx⟩:=by
 intro a w hr;obtain ⟨C,h1,h2,h3,h4,h5,h6⟩:=hr
 have hd:∀j,aB s.σ b (.box (cs.map cQ)) j≠ .dead↔s.σ j≠ .dead:=fun j=>by
  by_cases e:j=b
  ·subst e;simp [aB,hb]
  ·simp [aB,e]
 have hob:=h5.obj b;rw [hb] at hob;obtain ⟨bl,vs,E,e1,e2,e3,e4⟩:=hob
 refine ⟨C,h1,h2,h3,h4.less (fun _ h=>.inl h) (fun x ⟨i,hi,hx⟩=>.inr ⟨i,(hd i).1 hi,hx⟩),⟨fun i hi=>?_,fun i=>?_,fun i j x hi hj=>h5.inj i j x ((hd i).1 hi) ((hd j).1 hj),fun i x hi=>h5.sep i x ((hd i).1 hi),h5.imm_lt⟩,
  ⟨h6.le,h6.os,h6.tape,h6.output,h6.size,h6.imm,h6.same,fun x ⟨i,hi,hx⟩=>h6.wr x ⟨i,(hd i).1 hi,hx⟩,h6.imm'⟩⟩
 ·exact Classical.byContradiction fun h=>(hd i).1 h (h5.dead i hi)
 ·by_cases e:i=b
  ·subst e;show gR w C i (aB s.σ i (.box (cs.map cQ)) i);simp only [aB,if_true];refine ⟨bl,vs,E,e1,e2,by simpa using e3,fun k x u hx hu=>?_⟩;rw [List.getElem?_map] at hx;obtain ⟨y,hy,rfl⟩:=Option.map_eq_some_iff.1 hx;exact aC5 (e4 k y u hy hu)
  ·show gR w C i (aB s.σ b (.box (cs.map cQ)) i);simp only [aB,if_neg e];exact h5.obj i
end
end Go.Proofs.YtnoifgjiipgpoaaGreatDoor.R
namespace Go.Proofs.YtnoifgjiipgpoaaGreatDoor.R
open Go.RowKit
section
variable {P:Program}
theorem aUN {t e:TypeId} {i:TypeInfo} (hu:P.underlying t=some (.array 3 e)) (hi:P.info? e=some i) (hc:P.cellsOf e=1) (hk:P.plainKey e=true) (he:P.underlying e=some (.int .u64)) (a b c a' b' c':Int) (w:World):
  (Op.equalIn 10000 t (.agg #[.int .u64 a,.int .u64 b,.int .u64 c]) (.agg #[.int .u64 a',.int .u64 b',.int .u64 c'])).run P w= .ok (a==a'&&(b==b'&&c==c')) w:=by
 rw [show (10000:Nat)=9999+1 from rfl,run_equalIn_array w 9999 _ _ hu hi,hc,show List.range 3=[0,1,2] from rfl];have q:∀(x y z:Int) (k:Nat) (v:Value),(#[Value.int .u64 x,.int .u64 y,.int .u64 z])[k]? =some v→(part e #[Value.int .u64 x,.int .u64 y,.int .u64 z] k).run P w= .ok v w:=fun x y z k v h=>run_part_plain w hk h
 have e1:∀x y:Int,(Op.equalIn 9999 e (.int .u64 x) (.int .u64 y)).run P w= .ok (x==y) w:=fun x y=>run_equalIn_int (P:=P) (w:=w) 9998 e .u64 .u64 x y he
 simp only [Op.eqItems,Sem.run_bind,Nat.mul_one,q a b c 0 (.int .u64 a) rfl,q a b c 1 (.int .u64 b) rfl,q a b c 2 (.int .u64 c) rfl,q a' b' c' 0 (.int .u64 a') rfl,q a' b' c' 1 (.int .u64 b') rfl,q a' b' c' 2 (.int .u64 c') rfl,Result.andThen_ok,e1];cases h1:a==a'<;>cases h2:b==b'<;>cases h3:c==c'<;>simp only [Bool.not_true,Bool.not_false,if_true,if_false,Bool.false_eq_true,Sem.run_bind,Sem.run_pure,Result.andThen_ok,q a b c 0 (.int .u64 a) rfl,q a b c 1 (.int .u64 b) rfl,q a b c 2 (.int .u64 c) rfl,q a' b' c' 0 (.int .u64 a') rfl,q a' b' c' 1 (.int .u64 b') rfl,q a' b' c' 2 (.int .u64 c') rfl,e1,h1,h2,h3,Bool.and_true,Bool.and_false,Bool.true_and,Bool.false_and]
theorem aNR {w:World} {C:aZ} {a b c:Int} {u:Value} (h:aN w C (.agg [.t (.v (.int .u64 a)),.t (.v (.int .u64 b)),.t (.v (.int .u64 c))]) u):u= .agg #[.int .u64 a,.int .u64 b,.int .u64 c]:=by
 obtain ⟨us,rfl,hl,hr⟩:=mA h;obtain ⟨l⟩:=us
 match l,hl with
 |[x,y,z],_=>obtain ⟨rfl,_⟩:=cK (hr 0 _ x rfl rfl);obtain ⟨rfl,_⟩:=cK (hr 1 _ y rfl rfl);obtain ⟨rfl,_⟩:=cK (hr 2 _ z rfl rfl);rfl
theorem aHW {all:Array Oper} {i n:Nat} {o:Oper} {m:bX} {t t' e:TypeId} {ti:TypeInfo} {x y:Operand} {a b c a' b' c':Int} (ho':all[i]? =some o) (hl:cZ all m o=some true) (ho:o.op= .binOp .eql t x y t')
  (hx:ev m x= .agg [.t (.v (.int .u64 a)),.t (.v (.int .u64 b)),.t (.v (.int .u64 c))]) (hy:ev m y= .agg [.t (.v (.int .u64 a')),.t (.v (.int .u64 b')),.t (.v (.int .u64 c'))]) (hg:P.eqGuardType P.depth t=false)
  (hu:P.underlying t=some (.array 3 e)) (hi:P.info? e=some ti) (hc:P.cellsOf e=1) (hk:P.plainKey e=true) (he:P.underlying e=some (.int .u64)) (σ:Nat→aG) (nx:Nat):cO P n all i m σ nx (.b (a==a'&&(b==b'&&c==c'))) σ nx:=by
 intro C ac w hn hs hsz hrep ro K Q hK;have hops:=jV (m:=m) ho';have hd:bS all i=o.dst:=by simp [bS,ho']
 simp only [fI,wpOpIn,ho',jG ho' hrep hl,if_true];rw [hd] at hK;have h1:=cV hrep x;have h2:=cV hrep y;rw [hops x (by simp [ho,Op.operands]),hx] at h1;rw [hops y (by simp [ho,Op.operands]),hy] at h2;refine eW ?_ (hK _ _ C hs hn (bO.refl _ _ _) (.t (.v rfl)));simp only [execOp,ho,Sem.run_bind,aNR h1,aNR h2,run_eqGuard_agg _ _ _ _ _ _ _ hg,Result.andThen_ok,run_eql_struct,aUN hu hi hc hk he,Sem.run_pure]
end
section
variable {P:Program} {B:cD} {k:List KI} {R:dZ} {s:St}
theorem aP9 {all:Array Oper} {lo:List Nat} {sw:SW} {i:Nat} {pend:List Rc} {o:Oper} {rest:List (Nat×Oper)} {t t' e:TypeId} {ti:TypeInfo} {x y:Operand} {a b c a' b' c':Int} (hl:cZ all s.m o=some true) (ho:o.op= .binOp .eql t x y t')
  (hx:ev s.m x= .agg [.t (.v (.int .u64 a)),.t (.v (.int .u64 b)),.t (.v (.int .u64 c))]) (hy:ev s.m y= .agg [.t (.v (.int .u64 a')),.t (.v (.int .u64 b')),.t (.v (.int .u64 c'))]) (hg:P.eqGuardType P.depth t=false)
  (hu:P.underlying t=some (.array 3 e)) (hi:P.info? e=some ti) (hc:P.cellsOf e=1) (hk:P.plainKey e=true) (he:P.underlying e=some (.int .u64))
  (h:Kp P B (.opsD all lo sw rest pend :: k) R .normal ⟨put s.m o.dst (.b (a==a'&&(b==b'&&c==c'))),s.σ,s.nx⟩):Kp P B (.opsD all lo sw ((i,o) :: rest) pend :: k) R .normal s:=
 bZ.at fun ho'=>bZ.step (loud:=none) (aHW ho' hl ho hx hy hg hu hi hc hk he _ _) (fun _=>.inl (aHW ho' hl ho hx hy hg hu hi hc hk he)) (fun c hc=>by cases hc) (fun _ h=>h) h
end
end Go.Proofs.YtnoifgjiipgpoaaGreatDoor.R
namespace Go.Proofs.YtnoifgjiipgpoaaGreatDoor.R
open Go.RowKit
section
variable {P:Program} {C:aZ} {σ:Nat→aG} {w:World}
theorem aN2 {t e:TypeId} {i:TI} (ht:P.underlying t=some (.slice e)) (he:TT P e=some i) (a:Option Addr) (len cap n:Nat) (k:IntKind) (hn:n≤len) (hc:len≤cap) (w:World):
  (Instr.sliceAt t (.slice a len cap) (some (.int k n)) none none).run P w= .ok (sliced a n len cap i.size) w:=by
 have hel:P.elem t=e:=by simp [Program.elem,ht]
 rw [run_sliceAt_slice w t _ _ _ _ (by rw [hel];exact ht),run_slice_any w t a len cap (by rw [hel];exact ht),hel];simp [Instr.sliceBounds,Instr.sliceBound,asIntOf,hn,hc,gA he]
theorem aEM {t e:TypeId} {i:TI} (ht:P.underlying t=some (.slice e)) (he:TT P e=some i) (a:Option Addr) (len cap n:Nat) (k:IntKind) (hn:n≤cap) (w:World):
  (Instr.sliceAt t (.slice a len cap) none (some (.int k n)) none).run P w= .ok (sliced a 0 n cap i.size) w:=by
 have hel:P.elem t=e:=by simp [Program.elem,ht]
 rw [run_sliceAt_slice w t _ _ _ _ (by rw [hel];exact ht),run_slice_any w t a len cap (by rw [hel];exact ht),hel];simp [Instr.sliceBounds,Instr.sliceBound,asIntOf,hn,gA he]
theorem aTS {es:List (List T)} {z:List T} {n sz:Nat} (h1:∀e∈es,e.length=sz) (h2:z.length=sz):∀e∈es.take n++List.replicate (es.length-n) z,e.length=sz:=by
 intro e he;rcases List.mem_append.1 he with he | he
 ·exact h1 e (List.mem_of_mem_take he)
 ·rw [(List.mem_replicate.1 he).2];exact h2
theorem aS6 (hs:bC C σ w) {t e ty:TypeId} {ie:TI} {q bl n cap n0:Nat} {es:List (List T)} {z:List T} (ht:P.underlying t=some (.slice e)) (he:TT P e=some ie) (hz:kP (kR ie)=some z)
  (hσ:σ q= .arr ie.size es) (ho:C.own q=some bl) (hh:C.hdr q= .slice (some ⟨bl,0,none⟩) n0 cap) (hn:n≤es.length):
  ∃w',(Builtin.clear_ #[t] ty #[sliced (some ⟨bl,0,none⟩) n es.length cap ie.size]).run P w= .ok (.tuple #[]) w'∧
   bC C (aB σ q (.arr ie.size (es.take n++List.replicate (es.length-n) z))) w'∧bO C σ w C (aB σ q (.arr ie.size (es.take n++List.replicate (es.length-n) z))) w':=by
 obtain ⟨h4,h5,hsz,vs,E,lo,hi,h6,h7,h8,h9⟩:=tC hs hσ ho hh;by_cases hne:n=es.length
 ·subst hne
  have e1:aB σ q (.arr ie.size (es.take es.length++List.replicate (es.length-es.length) z))=σ:=by
   funext j;by_cases hj:j=q
   ·subst hj;simp [aB,hσ]
   ·simp [aB,hj]
  rw [e1];refine ⟨w,?_,hs,bO.refl _ _ _⟩;by_cases hc:cap=es.length<;>simp [Builtin.clear_,sliced,run_underlying ht,hc]
 ·have hlt:n<es.length:=by omega
  obtain ⟨hzl,hzr⟩:=aFV (C:=C) (w:=w) hz;have hzs:=aAB he;have hle:es.length*ie.size≤cap*ie.size:=Nat.mul_le_mul_right _ h5;have hsub:(es.length-n)*ie.size=es.length*ie.size-n*ie.size:=Nat.sub_mul _ _ _;have hnle:n*ie.size≤es.length*ie.size:=Nat.mul_le_mul_right _ hn;have hcs:(Builtin.zeroCells ie.zero.cells (es.length-n)).size=(es.length-n)*ie.size:=by rw [aAI,hzs]
  have hone:∀v∈(Builtin.zeroCells ie.zero.cells (es.length-n)).toList,v.oneCell'=true:=by
   intro v hv;obtain ⟨k,hk,rfl⟩:=List.getElem_of_mem hv;have hk':k<(es.length-n)*ie.zero.cells.size:=by rw [Array.length_toList,aAI] at hk;exact hk
   have hg:(Builtin.zeroCells ie.zero.cells (es.length-n))[k]? =ie.zero.cells[k % ie.zero.cells.size]?:=yY hk'
   have hpos:0<ie.zero.cells.size:=by
    rcases Nat.eq_zero_or_pos ie.zero.cells.size with h0 | h0
    ·rw [h0] at hk';simp at hk'
    ·exact h0
   have hmod:=Nat.mod_lt k hpos;have e1:(Builtin.zeroCells ie.zero.cells (es.length-n)).toList[k]=ie.zero.cells[k % ie.zero.cells.size]:=by rw [Array.getElem?_eq_getElem (by rw [aAI];exact hk'),Array.getElem?_eq_getElem hmod] at hg;simpa using Option.some.inj hg
   rw [e1];exact aEG (hzr _ (z[k % ie.zero.cells.size]'(by omega)) _ (List.getElem?_eq_getElem _) (Array.getElem?_eq_getElem hmod))
  obtain ⟨w',vs',e1,e2,e3,e4,e5,e6,e7,e8,e9⟩:=vQ (P:=P) bl (n*ie.size) E lo hi (Builtin.zeroCells ie.zero.cells (es.length-n)).toList 0 vs w h6 (by rw [Array.length_toList,hcs];omega) hone (by rw [h7];exact h8);have hd:σ q≠ .dead:=by rw [hσ];exact fun h=>by cases h
  have hk:eD w C.imm w' C.imm:=⟨fun b h=>h,fun b' h=>e5 b' fun e=>hs.sep q bl hd ho (e ▸ h)⟩;have hlen':(es.take n++List.replicate (es.length-n) z).length=es.length:=by rw [List.length_append,List.length_take,List.length_replicate];omega
  have hrows:=aTS (n:=n) hsz (z:=z) (by omega)
  obtain ⟨g1,g2⟩:=oR hs hd ho e7 e8 e9 e6 e5 (obj:=.arr ie.size (es.take n++List.replicate (es.length-n) z)) ⟨hrows,
   .inr ⟨bl,cap,vs',E,lo,hi,ho,by rw [hlen',hh,h4],by omega,e2,by omega,h8,fun j k y c u hy hc hu=>by
    rw [e4] at hu
    simp only [Nat.add_zero,Array.length_toList,hcs] at hu
    have hyl:=hrows y (List.mem_of_getElem? hy)
    have hkl:k<y.length:=(List.getElem?_eq_some_iff.1 hc).1
    have hj:j<es.length:=by rw [←hlen'];exact (List.getElem?_eq_some_iff.1 hy).1
    have hj1:(j+1)*ie.size≤es.length*ie.size:=Nat.mul_le_mul_right _ hj
    rw [Nat.add_mul,Nat.one_mul] at hj1
    by_cases hjn:j<n
    ·have:(j+1)*ie.size≤n*ie.size:=Nat.mul_le_mul_right _ hjn
     rw [Nat.add_mul,Nat.one_mul] at this
     rw [if_neg (by omega)] at hu
     rw [List.getElem?_append_left (by rw [List.length_take];omega),List.getElem?_take,if_pos hjn] at hy
     exact (h9 _ _ _ _ _ hy hc hu).keeps hk
    ·have:n*ie.size≤j*ie.size:=Nat.mul_le_mul_right _ (by omega)
     rw [if_pos (by omega)] at hu
     rw [List.getElem?_append_right (by rw [List.length_take];omega),List.getElem?_replicate] at hy
     split at hy
     ·cases hy
      rw [Array.getElem?_toList] at hu
      have hm:j*ie.size+k-n*ie.size=(j-n)*ie.size+k:=by rw [Nat.sub_mul];omega
      rw [hm] at hu
      have hjm:(j-n+1)*ie.size≤(es.length-n)*ie.size:=Nat.mul_le_mul_right _ (by omega)
      rw [Nat.add_mul,Nat.one_mul] at hjm
      have hg:(Builtin.zeroCells ie.zero.cells (es.length-n))[(j-n)*ie.size+k]? =ie.zero.cells[((j-n)*ie.size+k) % ie.zero.cells.size]?:=yY (by rw [hzs];omega)
      have hmd:((j-n)*ie.size+k) % ie.size=k:=by rw [Nat.mul_comm,Nat.mul_add_mod,Nat.mod_eq_of_lt (by omega)]
      rw [hg,hzs,hmd] at hu
      exact (hzr k c u hc hu).keeps hk
     ·cases hy⟩⟩
  refine ⟨w',?_,g1,g2⟩;have hcap:¬cap=n:=by omega
  obtain ⟨m,hm⟩:∃m,es.length-n=m+1:=⟨es.length-n-1,by omega⟩;simp only [sliced,if_neg hcap,Option.map_some,pC,Nat.zero_add];rw [hm] at e1 ⊢;simp [Builtin.clear_,run_underlying ht,oQ he,e1]
theorem aOD (hs:bC C σ w) {q bl sz cap n0 n:Nat} {es:List (List T)} (hσ:σ q= .arr sz es) (ho1:C.own q=some bl) (hhq:C.hdr q= .slice (some ⟨bl,0,none⟩) n0 cap) (hn:n≤es.length):
  ∃C',C'.nx=C.nx+1∧bC C' (aB (aB σ q .dead) C.nx (.arr sz (es.take n))) w∧bO C σ w C' (aB (aB σ q .dead) C.nx (.arr sz (es.take n))) w∧aN w C' (.ref C.nx) (.slice (some ⟨bl,0,none⟩) n cap):=by
 obtain ⟨_,h5,hsz,vs,E,lo,hi,h6,h7,h8,h9⟩:=tC hs hσ ho1 hhq;have hqd:σ q≠ .dead:=by rw [hσ];exact fun h=>by cases h
 have hlen:(es.take n).length=n:=by rw [List.length_take];omega
 obtain ⟨C',hC⟩:∃C':aZ,C'=⟨C.imm,fun j=>if j=C.nx then some bl else C.own j,fun j=>if j=C.nx then .slice (some ⟨bl,0,none⟩) n cap else C.hdr j,C.nx+1⟩:=⟨_,rfl⟩;have himm:C'.imm=C.imm:=by rw [hC]
 have hnx:C'.nx=C.nx+1:=by rw [hC]
 have hown:∀j,C'.own j=if j=C.nx then some bl else C.own j:=fun j=>by rw [hC]
 have hh:C'.hdr C.nx= .slice (some ⟨bl,0,none⟩) n cap:=by rw [hC];exact if_pos rfl
 have hk:eD w C.imm w C'.imm:=by rw [himm];exact ⟨fun b h=>h,fun b h=>rfl⟩
 have hcc:gC C C':=by subst hC;exact ⟨Nat.le_succ _,fun i hi=>if_neg (by omega),fun i hi=>if_neg (by omega)⟩
 have live:∀j,j≠C.nx→(if j=C.nx then aG.arr sz (es.take n) else if j=q then .dead else σ j)≠ .dead→j≠q∧σ j≠ .dead:=by
  intro j hj h;rw [if_neg hj] at h;by_cases ej:j=q
  ·rw [if_pos ej] at h;exact absurd rfl h
  ·rw [if_neg ej] at h;exact ⟨ej,h⟩
 refine ⟨C',hnx,⟨fun j hj=>?_,fun j=>?_,fun j k b hj hk' e1 e2=>?_,fun j b hj hb=>?_,fun b h=>by rw [himm] at h;exact hs.imm_lt b h⟩,
  ⟨hcc,rfl,rfl,rfl,Nat.le_refl _,fun b h=>by rw [himm];exact h,fun b _ hm=>rfl,fun b h=>?_,fun b h=>.inl (by rw [himm] at h;exact h)⟩,.ref (by rw [hnx];exact Nat.lt_succ_self _) hh⟩
 ·rw [hnx] at hj;show (if j=C.nx then _ else if j=q then aG.dead else σ j)=_;rw [if_neg (by omega)];split
  ·rfl
  ·exact hs.dead j (by omega)
 ·show gR w C' j (if j=C.nx then _ else if j=q then aG.dead else σ j);by_cases ej:j=C.nx
  ·rw [if_pos ej];subst ej
   exact ⟨fun e he=>hsz e (List.mem_of_mem_take he),.inr ⟨bl,cap,vs,E,lo,hi,by rw [hown];exact if_pos rfl,by rw [hlen];exact hh,by omega,h6,h7,h8,fun j k l cc u h1 h2 h3=>by
    rw [List.getElem?_take] at h1
    split at h1
    ·exact (h9 j k l cc u h1 h2 h3).keeps hk
    ·cases h1⟩⟩
  ·rw [if_neg ej];by_cases eq:j=q
   ·rw [if_pos eq];exact True.intro
   ·rw [if_neg eq];by_cases hdj:σ j= .dead
    ·rw [hdj];exact True.intro
    ·exact (hs.obj j).step hk hcc (iV hs hdj) (fun b hb=>rfl)
 ·rw [hown] at e1 e2;by_cases ej:j=C.nx<;>by_cases ek:k=C.nx
  ·omega
  ·rw [if_pos ej] at e1;rw [if_neg ek] at e2;cases e1;obtain ⟨f1,f2⟩:=live k ek hk';exact absurd (hs.inj k q bl f2 hqd e2 ho1) f1
  ·rw [if_neg ej] at e1;rw [if_pos ek] at e2;cases e2;obtain ⟨f1,f2⟩:=live j ej hj;exact absurd (hs.inj j q bl f2 hqd e1 ho1) f1
  ·rw [if_neg ej] at e1;rw [if_neg ek] at e2;exact hs.inj j k b (live j ej hj).2 (live k ek hk').2 e1 e2
 ·rw [himm];rw [hown] at hb;by_cases ej:j=C.nx
  ·rw [if_pos ej] at hb;cases hb;exact hs.sep q bl hqd ho1
  ·rw [if_neg ej] at hb;exact hs.sep j b (live j ej hj).2 hb
 ·obtain ⟨j,hj,hb⟩:=h;rw [hown] at hb;by_cases ej:j=C.nx
  ·rw [if_pos ej] at hb;cases hb;exact .inl ⟨q,hqd,ho1⟩
  ·rw [if_neg ej] at hb;exact .inl ⟨j,(live j ej hj).2,hb⟩
end
section
variable {P:Program} {B:cD} {k:List KI} {R:dZ} {s:St}
theorem aP5 {all:Array Oper} {o1 o2:Oper} {rest:List Oper} {t e:TypeId} {x ix:Operand} {d1 q n:Nat} {c:Call} {ie i0:TI} {es:List (List T)} {z:List T} {ik:IntKind} (hg1:o1.guard=none) (hg2:o2.guard=none) (h1:o1.op= .slice t x (some ix) none none) (h2:o2.op= .call c) (hc:c.callee= .builtin .clear) (ha:c.args= #[.tmp d1]) (hy:c.argTypes= #[t]) (hd1:o1.dst=some d1)
  (hb1:cH B.n o1.dst=true) (hb2:cH B.n o2.dst=true) (ht:TT P t=some i0) (hdesc:i0.desc= .slice e) (he:TT P e=some ie) (hz:kP (kR ie)=some z) (hx:ev s.m x= .ref q) (hσ:s.σ q= .arr ie.size es) (hi:ev s.m ix= .t (.v (.int ik n))) (hn:n≤es.length) (hpos:0<es.length)
  (h:Kp P B (.ops all rest :: k) R .normal ⟨put (put s.m (some d1) .any) o2.dst (.tup []),aB s.σ q (.arr ie.size (es.take n++List.replicate (es.length-n) z)),s.nx⟩):Kp P B (.ops all (o1 :: o2 :: rest) :: k) R .normal s:=by
 intro a w hr;obtain ⟨C,g1,g2,g3,g4,g5,g6⟩:=hr;have rx:=cV g2 x;rw [hx] at rx;have hob:=g5.obj q;rw [hσ] at hob;obtain ⟨hsz,⟨h0,_⟩ | ⟨bl,cap,vs,E,lo,hi',q1,q2,q3,q4,q5,q6,q7⟩⟩:=hob
 ·rw [h0] at hpos;simp at hpos
 generalize hu:a.eval x=u at rx;cases rx with
 |ref hq hh=>
  rw [q2] at hh;cases hh;have ri:=cV g2 ix;rw [hi] at ri;obtain ⟨hiv,_⟩:=cK ri;have hunt:P.underlying t=some (.slice e):=by rw [←hdesc];exact (cG ht).1
  obtain ⟨w',e1,e2,e3⟩:=aS6 (ty:=o2.type) g5 hunt he hz hσ q1 q2 hn;have hd1':d1<a.tmps.size:=by rw [hd1] at hb1;rw [g3];simpa [cH] using hb1
  refine iO hg1 fun K hK=>?_
  have hx1:(execOp a.eval o1).run P w= .ok (.value (sliced (some ⟨bl,0,none⟩) n es.length cap ie.size)) w:=by simp only [execOp,h1,hu,hiv,Option.map_some,Option.map_none,Sem.run_bind,aN2 hunt he _ _ _ _ _ hn q3,Result.andThen_ok,Sem.run_pure]
  refine eW hx1 (hK _ _ (iO hg2 fun K' hK'=>?_))
  have hx2:(execOp (a.put o1.dst (sliced (some ⟨bl,0,none⟩) n es.length cap ie.size)).eval o2).run P w= .ok (.value (.tuple #[])) w':=by
   have hev:(a.put o1.dst (sliced (some ⟨bl,0,none⟩) n es.length cap ie.size)).eval (.tmp d1)=sliced (some ⟨bl,0,none⟩) n es.length cap ie.size:=by rw [hd1];simp [Act.eval,Act.put,Array.getD_eq_getD_getElem?,Array.getElem?_setIfInBounds_self_of_lt hd1']
   obtain ⟨dst,op,type,pos,after,guard⟩:=o2;simp only at h2;subst h2;have hv:∀ρ,execOp ρ ⟨dst,.call c,type,pos,after,guard⟩=(do let d ←resolve ρ c type;invoke d.target d.args):=fun ρ=>rfl
   rw [hv];simp only [resolve,hc,Sem.run_bind,Sem.run_pure,Result.andThen_ok,invoke,builtin,ha,hy,List.map_toArray,List.map_cons,List.map_nil,hev,e1]
  refine eW hx2 ?_;have p1:=gM g5 (bO.refl C s.σ w) g2 (d:=some d1) (by rw [←hd1,g3];exact hb1) (v:=.any) (u:=sliced (some ⟨bl,0,none⟩) n es.length cap ie.size) .any;have p2:=gM (a:=a.put o1.dst (sliced (some ⟨bl,0,none⟩) n es.length cap ie.size)) g5 e3 (by rw [hd1];exact p1) (d:=o2.dst) (by rw [fF,g3];exact hb2) (v:=.tup []) (u:=.tuple #[]) (.tup rfl fun k a u h=>by simp at h);exact hK' _ _ (h _ _ ⟨C,g1,p2,by rw [fF,fF];exact g3,by rw [gL,gL];exact g4.step e3,e2,g6.trans e3⟩)
theorem aQF {all:Array Oper} {o:Oper} {rest:List Oper} {t e:TypeId} {x ix:Operand} {q n sz:Nat} {ie i0:TI} {es:List (List T)} {ik:IntKind} (hg:o.guard=none) (h1:o.op= .slice t x none (some ix) none)
  (hb:cH B.n o.dst=true) (ht:TT P t=some i0) (hdesc:i0.desc= .slice e) (he:TT P e=some ie) (hx:ev s.m x= .ref q) (hσ:s.σ q= .arr sz es) (hi:ev s.m ix= .t (.v (.int ik n))) (hn:n≤es.length) (hpos:0<es.length)
  (h:Kp P B (.ops all rest :: k) R .normal ⟨put s.m o.dst (.ref s.nx),aB (aB s.σ q .dead) s.nx (.arr sz (es.take n)),s.nx+1⟩):Kp P B (.ops all (o :: rest) :: k) R .normal s:=by
 intro a w hr;obtain ⟨C,g1,g2,g3,g4,g5,g6⟩:=hr;have rx:=cV g2 x;rw [hx] at rx;have hob:=g5.obj q;rw [hσ] at hob;obtain ⟨hsz,⟨h0,_⟩ | ⟨bl,cap,vs,E,lo,hi',q1,q2,q3,q4,q5,q6,q7⟩⟩:=hob
 ·rw [h0] at hpos;simp at hpos
 generalize hu:a.eval x=u at rx;cases rx with
 |ref hq hh=>
  rw [q2] at hh;cases hh;have ri:=cV g2 ix;rw [hi] at ri;obtain ⟨hiv,_⟩:=cK ri;have hunt:P.underlying t=some (.slice e):=by rw [←hdesc];exact (cG ht).1
  obtain ⟨C',e1,e2,e3,e4⟩:=aOD g5 hσ q1 q2 hn;have hsl:sliced (some ⟨bl,0,none⟩) 0 n cap ie.size= .slice (some ⟨bl,0,none⟩) n cap:=by simp [sliced,uF]
  refine iO hg fun K hK=>?_
  have hx1:(execOp a.eval o).run P w= .ok (.value (.slice (some ⟨bl,0,none⟩) n cap)) w:=by simp only [execOp,h1,hu,hiv,Option.map_some,Option.map_none,Sem.run_bind,aEM hunt he _ _ _ _ _ (show n≤cap by omega),Result.andThen_ok,Sem.run_pure,hsl]
  refine eW hx1 ?_;have p1:=gM g5 e3 g2 (d:=o.dst) (by rw [g3];exact hb) e4;rw [g1] at e1 e2 e3 p1;exact hK _ _ (h _ _ ⟨C',e1,p1,by rw [fF];exact g3,by rw [gL];exact g4.step e3,e2,g6.trans e3⟩)
end
end Go.Proofs.YtnoifgjiipgpoaaGreatDoor.R
namespace Go.Proofs.YtnoifgjiipgpoaaGreatDoor.R
open Go.RowKit
@[go_sem] theorem bIB {P:Program} {n:Nat} {G:List KI→St→Prop} {k:List KI} {s:St}:run P n G 0 k s=G k s:=by rw [run]
section
variable {P:Program} {B:cD} {k:List KI} {R:dZ} {s:St} {all:Array Oper}
theorem nX {t:St} {c:Code} (h:aH B s t) (hk:Kp P B (.code c :: k) R .normal t):Kp P B (.code c :: k) R .normal s:=
 fun a w hr=>hk a w (h _ _ hr)
theorem aF6 {id:Nat} (lo fl ld:List Nat) (pend:List Rc) (hm:P.follows .mixedOrders=true) (hst:rR all B.n lo=true) (ht:((List.range all.size).all (fun i=>fR all lo i== !fl.contains i)&&ld.all (fun i=>mL all lo i))=true) (hpd:∀q∈pend,∃o,all[q.i]? =some o∧cZ all q.m o=some true∧cP P s.σ s.nx (ev q.m) o.op=some (q.v,.none))
  (h:(∀i,i<all.size→fR all lo i= !fl.contains i)→(∀i,i∈ld→mL all lo i=true)→Kp P B (.opsD all lo none (num 0 all.toList) pend :: k) R .normal s):Kp P B (.code (.region id all true) :: k) R .normal s:=by
 rw [Bool.and_eq_true] at ht;refine aF7 lo pend hm hst (fun q hq=>?_) (h (fun i hi=>eq_of_beq (List.all_eq_true.1 ht.1 i (List.mem_range.2 hi))) (fun i hi=>List.all_eq_true.1 ht.2 i hi));obtain ⟨o,h1,h2,h3⟩:=hpd q hq;exact kF (e:=.none) h1 h2 h3
end
end Go.Proofs.YtnoifgjiipgpoaaGreatDoor.R
namespace Go.Proofs.YtnoifgjiipgpoaaGreatDoor.R
theorem wG:∀(e:List T),kP (e.map AV.t)=some e
 |[]=>rfl
 |x :: e=>by simp only [List.map_cons,kP,qH,wG e]
theorem aN8 {α:Type}:∀(xs cs:List α) (off:Nat),off+xs.length≤cs.length→cW cs off xs=cs.take off++xs++cs.drop (off+xs.length)
 |[],cs,off,_=>by simp [cW]
 |x :: xs,cs,off,h=>by
  rw [List.length_cons] at h;rw [cW,aN8 xs (cs.set off x) (off+1) (by rw [List.length_set];omega)];have e1:(cs.set off x).take (off+1)=cs.take off++[x]:=by rw [List.take_succ_eq_append_getElem (by rw [List.length_set];omega),List.take_set_of_le (Nat.le_refl _)];simp
  have e2:(cs.set off x).drop (off+1+xs.length)=cs.drop (off+(x :: xs).length):=by rw [List.drop_set_of_lt (by omega),List.length_cons];congr 1;omega
  rw [e1,e2];simp
theorem qC {α:Type} {xs cs:List α} (h:xs.length=cs.length):cW cs 0 xs=xs:=by rw [aN8 xs cs 0 (by omega)];simp [h]
section
variable {P:Program}
theorem iM {f:FuncId} {fn:Func} {c:Code} (hf:P.funcs[f]? =some fn) (hb:fn.body=some c) (hname:(fn.name== "runtime.NumGoroutine")=false) {args:List AV} {σ:Nat→aG} {nx:Nat} {r:AV} (hn:args.length≤fn.ntmps)
  (hr:aE nx r=true)
  (h:(∀i,σ i= .dead∨(dG nx (σ i)=true∧i<nx))→∀B:cD,B.n=fn.ntmps→B.C.nx=nx→B.σ=σ→Kp P B [.code c] (fun e s=>(e= .ret∨e= .normal)∧nx≤s.nx∧(∀i,i<nx→s.σ i=σ i)∧∃rs,kK P s fn.results.toList=some rs∧iK rs=r) .normal ⟨mB args,σ,nx⟩):
  aT P f args σ nx r σ nx:=by
 refine bN.spec (bN.known (by simp [mN,hf,hb,hname]) fun hk=>?_);refine aT.q (vS hf hb hname hn fun B h1 h2 h3=>?_);refine fun a w hrel=>fU (h hk B h1 h2 h3 a w hrel) fun e a' w' hp=>?_
 obtain ⟨s',⟨he,g1,g3,rs,g4,g5⟩,h5⟩:=hp
 have hend:j9 nx s' (iK rs) σ nx r:=by
  refine ⟨fun i=>?_,g1,Nat.le_refl _,.inl g5.symm,.inr hr⟩;rcases hk i with e | ⟨e,e2⟩
  ·exact .inl e
  ·exact .inr ⟨(g3 i e2).symm,.inr ⟨e,e2⟩⟩
 refine ⟨s',?_,h5⟩;rcases he with rfl | rfl
 ·exact ⟨rs,g4,hend⟩
 ·exact ⟨rs,g4,hend⟩
end
end Go.Proofs.YtnoifgjiipgpoaaGreatDoor.R
