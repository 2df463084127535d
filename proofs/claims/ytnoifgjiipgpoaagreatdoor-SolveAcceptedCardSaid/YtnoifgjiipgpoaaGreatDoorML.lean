/- Parts of the proof. -/
import Derived.Test.YtnoifgjiipgpoaaGreatDoorMK
set_option linter.all false
set_option maxHeartbeats 4000000
namespace Go.Proofs.YtnoifgjiipgpoaaGreatDoor
open Go Go.Proofs.YtnoifgjiipgpoaaGreatDoor.R
set_option maxRecDepth 4000
def qZ:List Nat→Nat→Option Nat
 |[],n=>some n
 |c :: l,n=>if jR c=true then qZ l (10*n+(c-48)) else none
def pL (w:List Nat):Bool:=decide (w.head? =some 45)
def qJ (w:List Nat):List Nat:=if pL w=true then w.drop 1 else w
def oX (w:List Nat):Option Int:=
 if (qJ w).length<1∨12<(qJ w).length then none else (qZ (qJ w) 0).map fun (n:Nat)=>if pL w=true then -(n:Int) else (n:Int)
def oW (out:List Int) (w:List Nat):Option (List Int):=if w=[] then some out else (oX w).map fun n=>out++[n]
def fG:List Nat→List Int→List Nat→Option (List Int)
 |[],out,w=>oW out w
 |c :: s,out,w=>if c=35 then oW out w else if c=32 then (oW out w).bind fun o=>fG s o [] else fG s out (w++[c])
def oP (out:List (List Int)) (b:List Nat):Option (List (List Int)):=(fG b [] []).map fun l=>if l=[] then out else out++[l]
def jK:List Nat→List (List Int)→List Nat→Option (List (List Int))
 |[],out,b=>oP out b
 |c :: s,out,b=>if c=10 then (oP out b).bind fun o=>jK s o [] else jK s out (b++[c])
def aC0 (b:List Nat):List (List Int)×Int:=if 4096<b.length then ([],6) else match jK b [] [] with
 |none=>([],2)
 |some a=>(a,0)
def j0 (c:Nat):Prop:=c=32∨c=35∨c=10
theorem q8 {b:List Nat} {i c:Nat} {s:List Nat} (h:b.drop i=c :: s):bD b i=c∧b.drop (i+1)=s∧i<b.length:=by
 have hi:i<b.length:=by
  by_cases hi:i<b.length
  ·exact hi
  ·rw [List.drop_eq_nil_of_le (by omega)] at h;cases h
 rw [List.drop_eq_getElem_cons hi] at h;obtain ⟨h1,h2⟩:=List.cons.inj h;exact ⟨by rw [bD,List.getD_eq_getElem?_getD,List.getElem?_eq_getElem hi];exact h1,h2,hi⟩
theorem aUE {b:List Nat} {i:Nat} (h:b.drop i=[]):bD b i=10:=y8 (List.drop_eq_nil_iff.1 h)
def wT (t:List Nat):Prop:=t=[]∨∃s,t=10 :: s
theorem aB4 {b:List Nat} {i:Nat} {t:List Nat} (h:b.drop i=t) (ht:wT t):bD b i=10:=by
 rcases ht with rfl | ⟨s,rfl⟩
 ·exact aUE h
 ·exact (q8 h).1
theorem aH5 {b:List Nat} {i:Nat}:∀{w t:List Nat},b.drop i=w++t→b.drop (i+w.length)=t:=by intro w t h;rw [←List.drop_drop,h,List.drop_left]
theorem aHU {b:List Nat} {t:List Nat}:∀(w:List Nat) (fuel i n d:Nat),(∀c∈w,¬j0 c)→b.drop i=w++t→j0 (bD b (i+w.length))→
  (∃v,qZ w n=some v∧w.length≤fuel∧fB b fuel i n d=(v,d+w.length,i+w.length))∨((qZ w n=none∨fuel<w.length)∧¬j0 (bD b (fB b fuel i n d).2.2))
 |[],fuel,i,n,d,_,h,hs=>by
  refine .inl ⟨n,rfl,Nat.zero_le _,?_⟩;cases fuel with
  |zero=>rfl
  |succ fuel=>
   rw [fB,if_neg]
   ·rfl
   ·rw [List.length_nil,Nat.add_zero] at hs;unfold j0 at hs;intro hd;simp only [jR,Bool.and_eq_true,decide_eq_true_eq] at hd;omega
 |c :: w,fuel,i,n,d,hw,h,hs=>by
  obtain ⟨h1,h2,h3⟩:=q8 (s:=w++t) h;have hc:=hw c List.mem_cons_self;cases fuel with
  |zero=>exact .inr ⟨.inr (by simp),by rw [fB,h1];exact hc⟩
  |succ fuel=>
   rw [fB,qZ,h1];by_cases hd:jR c=true
   ·rw [if_pos hd,if_pos hd];have e:i+1+w.length=i+(c :: w).length:=by rw [List.length_cons];omega
    rcases aHU w fuel (i+1) (10*n+(c-48)) (d+1) (fun a ha=>hw a (List.mem_cons_of_mem _ ha)) h2 (by rw [e];exact hs) with ⟨v,g1,g2,g3⟩ | ⟨g1,g2⟩
    ·refine .inl ⟨v,g1,by rw [List.length_cons];omega,?_⟩;rw [g3,e,List.length_cons];congr 2;omega
    ·refine .inr ⟨?_,g2⟩;rcases g1 with g1 | g1
     ·exact .inl g1
     ·exact .inr (by rw [List.length_cons];omega)
   ·rw [if_neg hd,if_neg hd];exact .inr ⟨.inl rfl,by rw [h1];exact hc⟩
theorem aNU {b t:List Nat} (ht:wT t):∀(s:List Nat) (i:Nat),(∀c∈s,c≠10)→b.drop i=s++t→jZ b i=i+s.length
 |[],i,_,h=>by have:=aB4 h ht;rw [jZ,dif_neg (by rw [this];simp)];rfl
 |c :: s,i,hs,h=>by obtain ⟨h1,h2,h3⟩:=q8 (s:=s++t) h;rw [jZ,dif_pos ⟨h3,by rw [h1];exact hs c List.mem_cons_self⟩,aNU ht s (i+1) (fun a ha=>hs a (List.mem_cons_of_mem _ ha)) h2,List.length_cons];omega
theorem aNZ:∀(w:List Nat) (s:List Nat) (l:List Int) (v:List Nat),(∀c∈w,¬j0 c)→fG (w++s) l v=fG s l (v++w)
 |[],s,l,v,_=>by rw [List.nil_append,List.append_nil]
 |c :: w,s,l,v,hw=>by have hc:=hw c List.mem_cons_self;unfold j0 at hc;rw [List.cons_append,fG,if_neg (by omega),if_neg (by omega),aNZ w s l (v++[c]) fun a ha=>hw a (List.mem_cons_of_mem _ ha),List.append_assoc];rfl
theorem bBR {s:List Nat} (hs:s=[]∨∃c t,s=c :: t∧j0 c∧c≠10) (l:List Int) (w:List Nat) (hw:w≠[]):fG s l w=(oX w).bind fun n=>fG s (l++[n]) []:=by
 rcases hs with rfl | ⟨c,t,rfl,hc,hc10⟩
 ·rw [fG,oW,if_neg hw];cases oX w<;>rfl
 ·rw [fG,oW,if_neg hw];rcases hc with rfl | rfl | rfl
  ·rw [if_neg (by decide),if_pos rfl];cases oX w<;>rfl
  ·rw [if_pos rfl];cases oX w<;>rfl
  ·exact absurd rfl hc10
theorem aOO:∀(s:List Nat),∃w t,s=w++t∧(∀c∈w,¬(c=32∨c=35))∧(t=[]∨∃c u,t=c :: u∧(c=32∨c=35))
 |[]=>⟨[],[],rfl,fun c h=>(by cases h),.inl rfl⟩
 |c :: s=>by
  by_cases h:c=32∨c=35
  ·exact ⟨[],c :: s,rfl,fun c h=>(by cases h),.inr ⟨c,s,rfl,h⟩⟩
  ·obtain ⟨w,t,h1,h2,h3⟩:=aOO s;exact ⟨c :: w,t,by rw [h1];rfl,fun a ha=>(List.mem_cons.1 ha).elim (fun e=>by rw [e];exact h) (h2 a),h3⟩
theorem aCY {b t:List Nat} (ht:wT t):∀(f:Nat) (s:List Nat) (i:Nat) (l:List Int),s.length<f→(∀c∈s,c≠10)→b.drop i=s++t→
  (∃r,fG s l []=some r∧gX b f i l=(r,true,i+s.length+1))∨(fG s l []=none∧(gX b f i l).2.1=false)
 |0,s,i,l,hf,_,_=>absurd hf (Nat.not_lt_zero _)
 |f+1,[],i,l,hf,hs,h=>by have:=aB4 h ht;rw [gX,this,if_neg (by decide),if_neg (by decide),if_pos rfl];exact .inl ⟨l,rfl,rfl⟩
 |f+1,c :: s,i,l,hf,hs,h=>by
  obtain ⟨h1,h2,h3⟩:=q8 (s:=s++t) h;have hc:=hs c List.mem_cons_self;have hs':∀a∈s,a≠10:=fun a ha=>hs a (List.mem_cons_of_mem _ ha)
  have hlen:(c :: s).length=s.length+1:=rfl;rw [gX,h1];by_cases c32:c=32
  ·rw [if_pos c32,fG,if_neg (by omega),if_pos c32,hlen];have:=aCY ht f s (i+1) l (by omega) hs' h2;rw [show i+1+s.length=i+(s.length+1) by omega] at this;exact this
  rw [if_neg c32];by_cases c35:c=35
  ·rw [if_pos c35,fG,if_pos c35];refine .inl ⟨l,rfl,?_⟩;rw [aNU ht (c :: s) i hs h]
  rw [if_neg c35,if_neg hc];obtain ⟨w,u,e1,e2,e3⟩:=aOO (c :: s)
  have hw:w≠[]:=by
   rintro rfl;rw [List.nil_append] at e1;rcases e3 with e3 | ⟨a,v,e3,e4⟩
   ·rw [e3] at e1;cases e1
   ·rw [e3] at e1;obtain ⟨rfl,_⟩:=List.cons.inj e1;omega
  obtain ⟨w',rfl⟩:∃w',w=c :: w':=by
   cases w with
   |nil=>exact absurd rfl hw
   |cons a w'=>rw [List.cons_append] at e1;exact ⟨w',by rw [(List.cons.inj e1).1]⟩
  have hsepw:∀a∈c :: w',¬j0 a:=fun a ha=>by have g1:=e2 a ha;have g2:=hs a (by rw [e1];exact List.mem_append_left _ ha);unfold j0;omega
  have hu:u=[]∨∃a v,u=a :: v∧j0 a∧a≠10:=by
   rcases e3 with e3 | ⟨a,v,e3,e4⟩
   ·exact .inl e3
   ·exact .inr ⟨a,v,e3,by unfold j0;omega,by omega⟩
  have hd:b.drop i=(c :: w')++(u++t):=by rw [h,e1,List.append_assoc]
  have hdu:b.drop (i+(c :: w').length)=u++t:=aH5 hd
  have hsu:j0 (bD b (i+(c :: w').length)):=by
   rcases hu with rfl | ⟨a,v,rfl,g1,_⟩
   ·exact .inr (.inr (aB4 hdu ht))
   ·rw [(q8 (s:=v++t) hdu).1];exact g1
  have hlen2:(c :: s).length=(c :: w').length+u.length:=by rw [e1,List.length_append]
  have huf:u.length<f:=by rw [hlen2,List.length_cons] at hf;omega
  have hus:∀a∈u,a≠10:=fun a ha=>hs a (by rw [e1];exact List.mem_append_right _ ha)
  have hrow:fG (c :: s) l []=(oX (c :: w')).bind fun n=>fG u (l++[n]) []:=by rw [e1,aNZ _ _ _ _ hsepw,List.nil_append,bBR hu l _ hw]
  rw [hrow]
  have key:∃p ds,(if c=45 then i+1 else i)=p∧qJ (c :: w')=ds∧b.drop p=ds++(u++t)∧p+ds.length=i+(c :: w').length∧(∀a∈ds,¬j0 a):=by
   by_cases c45:c=45
   ·refine ⟨i+1,w',if_pos c45,?_,(q8 (s:=w'++(u++t)) hd).2.1,by rw [List.length_cons];omega,fun a ha=>hsepw a (List.mem_cons_of_mem _ ha)⟩;rw [qJ,pL,List.head?_cons,if_pos (decide_eq_true (by rw [c45]))];rfl
   ·refine ⟨i,c :: w',if_neg c45,?_,hd,rfl,hsepw⟩;rw [qJ,pL,List.head?_cons,if_neg];simpa using c45
  obtain ⟨p,ds,k1,k2,k3,k4,k5⟩:=key;have hneg:pL (c :: w')=decide (c=45):=by rw [pL,List.head?_cons];simp
  rw [k1,oX,k2,hneg];have hdig:=aHU ds 12 p 0 0 k5 k3 (by rw [k4];exact hsu);rw [lR];rcases hdig with ⟨v,g1,g2,g3⟩ | ⟨g1,g2⟩
  ·rw [g3,k4,g1];simp only [Nat.zero_add];by_cases h0:ds.length=0
   ·rw [if_pos (.inl (show ds.length<1 by omega)),if_pos (.inl h0)];exact .inr ⟨rfl,rfl⟩
   ·have hns:¬(ds.length=0∨bD b (i+(c :: w').length)≠32∧bD b (i+(c :: w').length)≠35∧bD b (i+(c :: w').length)≠10):=by unfold j0 at hsu;omega
    rw [if_neg (show ¬(ds.length<1∨12<ds.length) by omega),if_neg hns,Option.map_some,Option.bind_some];have:=aCY ht f u (i+(c :: w').length) (l++[if decide (c=45)=true then -(v:Int) else (v:Int)]) huf hus hdu;rw [show i+(c :: w').length+u.length=i+(c :: s).length by omega] at this;exact this
  ·unfold j0 at g2;generalize fB b 12 p 0 0=r at *;have hbad:r.2.1=0∨(bD b r.2.2≠32∧bD b r.2.2≠35∧bD b r.2.2≠10):=.inr (by omega);refine .inr ⟨?_,by rw [if_pos hbad]⟩;rcases g1 with g1 | g1
   ·split
    ·rfl
    ·rw [g1];rfl
   ·rw [if_pos (.inr g1)];rfl
theorem aON:∀(s:List Nat),∃w t,s=w++t∧(∀c∈w,c≠10)∧wT t
 |[]=>⟨[],[],rfl,fun c h=>(by cases h),.inl rfl⟩
 |c :: s=>by
  by_cases h:c=10
  ·exact ⟨[],c :: s,rfl,fun c h=>(by cases h),.inr ⟨s,by rw [h]⟩⟩
  ·obtain ⟨w,t,h1,h2,h3⟩:=aON s;exact ⟨c :: w,t,by rw [h1];rfl,fun a ha=>(List.mem_cons.1 ha).elim (fun e=>by rw [e];exact h) (h2 a),h3⟩
theorem aEQ:∀(w s:List Nat) (o:List (List Int)) (v:List Nat),(∀c∈w,c≠10)→jK (w++s) o v=jK s o (v++w)
 |[],s,o,v,_=>by rw [List.nil_append,List.append_nil]
 |c :: w,s,o,v,hw=>by rw [List.cons_append,jK,if_neg (hw c List.mem_cons_self),aEQ w s o (v++[c]) fun a ha=>hw a (List.mem_cons_of_mem _ ha),List.append_assoc];rfl
theorem aK0 (b:List Nat):∀(f i:Nat) (a:List (List Int)),b.length<i+f→kH b f i a=jK (b.drop i) a []
 |0,i,a,hf=>by rw [List.drop_eq_nil_of_le (by omega)];rfl
 |f+1,i,a,hf=>by
  rw [kH];split
  ·rename_i hi;obtain ⟨s,t,e1,e2,e3⟩:=aON (b.drop i);have hlen:s.length≤b.length:=by have:=congrArg List.length e1;rw [List.length_drop,List.length_append] at this;omega
   have hrow:=aCY e3 (b.length+1) s i [] (by omega) e2 e1;rw [←lC] at hrow;have hd:=aH5 e1;rw [e1,aEQ _ _ _ _ e2,List.nil_append];rcases hrow with ⟨r,h1,h2⟩ | ⟨h1,h2⟩
   ·rw [h2];simp only [if_true];have hE:oP a s=some (if r=[] then a else a++[r]):=by rw [oP,h1];rfl
    rw [aK0 b f _ _ (by omega)];rcases e3 with rfl | ⟨u,rfl⟩
    ·have:=List.drop_eq_nil_iff.1 hd;rw [jK,hE,List.drop_eq_nil_of_le (by omega)];rfl
    ·rw [jK,if_pos rfl,hE,Option.bind_some,(q8 hd).2.1]
   ·rw [if_neg (by rw [h2];decide)];have hE:oP a s=none:=by rw [oP,h1];rfl
    rcases e3 with rfl | ⟨u,rfl⟩
    ·rw [jK,hE]
    ·rw [jK,if_pos rfl,hE];rfl
  ·rw [List.drop_eq_nil_of_le (by omega)];rfl
theorem aXA (b:List Nat):aC0 b=eA b:=by rw [aC0,eA,aK0 b (b.length+1) 0 [] (by omega),List.drop_zero];rfl
theorem aHK {x:aA}:∀(rs:List (List Int)) (all:Int) (seen:List Int),(∀r∈rs,r≠[]∧(x.times r).2.2=0)→x.costGo rs all seen=x.costGo [] (all+x.gones rs) (rs.flatten.foldl bump seen)
 |[],all,seen,_=>by simp [aA.gones]
 |r :: rs,all,seen,h=>by
  obtain ⟨h1,h2⟩:=h r List.mem_cons_self;have hl:¬r.length=0:=fun e=>h1 (List.eq_nil_of_length_eq_zero e)
  conv=>lhs;rw [aA.costGo,if_neg hl,if_neg (by rw [h2];simp)]
  rw [aHK rs _ _ fun q hq=>h q (List.mem_cons_of_mem _ hq),List.flatten_cons,List.foldl_append,aA.gones,Int.add_assoc]
theorem aTL {x:aA} {p:Nat} (hx:x.Fit p) (hm:x.may=true) {rs:List (List Int)} (h:uC x p rs):x.cost rs=(x.gones rs,0):=by
 have hp:=hx.pairs;have hc:=h.cars;rw [aA.cost,if_neg (by simp [hm]),if_neg (by omega),aHK rs _ _ h.each,aA.costGo];have hr:∀j∈rs.flatten,1≤j∧j≤2*p:=fun j hj=>by obtain ⟨r,hr,hj⟩:=List.mem_flatten.1 hj;exact (oT hx hm (h.each r hr).2).1 j hj
 have hlen:(List.replicate (2*x.pairs+1).toNat (0:Int)).length=2*p+1:=by rw [List.length_replicate,hp];omega
 have hfl:(rs.flatten.foldl bump (List.replicate (2*x.pairs+1).toNat 0)).length=2*p+1:=by rw [qU,hlen]
 have hget:∀i (hi:i<2*p+1),(rs.flatten.foldl bump (List.replicate (2*x.pairs+1).toNat 0))[i]'(by rw [hfl];exact hi)=(rs.flatten.count (i:Int):Nat):=fun i hi=>by rw [aBI rs.flatten _ (by rw [hlen];exact hi) fun j hj=>by have:=hr j hj;omega];simp
 generalize rs.flatten.foldl bump (List.replicate (2*x.pairs+1).toNat 0)=S at *;rw [if_neg,if_neg,Int.zero_add]
 ·rw [List.any_eq_true];rintro ⟨n,hn,h0⟩;obtain ⟨i,hi,e⟩:=List.mem_drop_iff_getElem.1 hn;have h1:=hget (1+i) (by omega);rw [e] at h1;have h2:=h.all (1+i) (by omega) (by omega);have h3:=List.count_pos_iff.2 h2;have h0:=of_decide_eq_true h0;omega
 ·rw [List.any_eq_true];rintro ⟨n,hn,h0⟩;obtain ⟨i,hi,e⟩:=List.getElem_of_mem hn;have h1:=hget i (by omega);rw [e] at h1;have h2:=List.nodup_iff_count.1 h.once (i:Int);have h0:=of_decide_eq_true h0;omega
theorem aWD {α:Type} (κ:α→Int) (x:α) (s:List α):(jF κ x s).Perm (x :: s):=by
 have h:(fun y=>decide (κ x<κ y))=fun y=>!decide (κ y≤κ x):=funext fun y=>by
  by_cases c:κ y≤κ x
  ·rw [decide_eq_true c,decide_eq_false (by omega)];rfl
  ·rw [decide_eq_false c,decide_eq_true (by omega)];rfl
 rw [jF,h];exact List.perm_middle.trans ((List.filter_append_perm (fun y=>decide (κ y≤κ x)) s).cons x)
theorem aWI {α:Type} (κ:α→Int) (l:List α):(aU κ l).Perm l:=by
 have:∀(l s:List α),(l.foldl (fun s x=>jF κ x s) s).Perm (s++l):=by
  intro l
  induction l with
  |nil=>intro s;simp
  |cons x l ih=>intro s;refine (ih (jF κ x s)).trans ?_;refine ((aWD κ x s).append_right l).trans ?_;exact List.perm_middle.symm
 exact this l []
theorem aPE {l:List (List Int)} (h:∀r∈l,r≠[]):fH l=l:=List.filter_eq_self.2 fun r hr=>decide_eq_true (h r hr)
theorem bDM {l:List (List Int)} (h:∀r∈l,r≠[]):(dW l).Perm l:=by rw [dW,aPE h];exact aWI mK l
theorem aTN {x:aA} (hm:x.may=true) {rs:List (List Int)} {c:Int} (h:x.cost rs=(c,0)):x.cost (dW rs)=(c,0):=by
 obtain ⟨p,hx⟩:=x.fit hm;obtain ⟨hok,hc⟩:=xT hx hm h;have hp:=bDM fun r hr=>(hok.each r hr).1
 rw [aTL hx hm (hok.perm hp.symm),aJP x hp,hc]
theorem bIE {l:List (List Int)}:dW (dW l)=dW l:=by
 have h:∀r∈dW l,r≠[]:=fun r hr=>(zY.1 hr).2
 conv=>lhs;rw [dW,aPE h]
 exact pN (gI (κ:=mK) (fH l)).srt
theorem aPT {n:Int} (h0:0≤n) (h1:n<10):oX [48+n.toNat]=some n:=by
 obtain ⟨k,rfl⟩:∃k:Nat,n=k:=⟨n.toNat,by omega⟩;have hk:k<10:=by omega
 rw [Int.toNat_natCast];have hneg:pL [48+k]=false:=by rw [pL];exact decide_eq_false (by simp;omega)
 have hd:jR (48+k)=true:=by simp only [jR,Bool.and_eq_true,decide_eq_true_eq];omega
 have hu:qJ [48+k]=[48+k]:=by rw [qJ,hneg];rfl
 rw [oX,hu,if_neg (by simp),qZ,if_pos hd,qZ,Option.map_some,hneg,if_neg (by decide)];congr 1;omega
theorem aDZ (n m:Int) (l:List Int):dS (n :: m :: l)=(48+n.toNat) :: 32 :: dS (m :: l):=rfl
theorem aYV:jK rG [] []=some [[0]]:=by decide+kernel
theorem aN0:∀(r out:List Int),(∀n∈r,0≤n∧n<10)→fG (dS r) out []=some (out++r)
 |[],out,_=>by rw [dS,fG,oW,if_pos rfl,List.append_nil]
 |[n],out,h=>by obtain ⟨h0,h1⟩:=h n List.mem_cons_self;rw [dS,fG,if_neg (by omega),if_neg (by omega),fG,List.nil_append,oW,if_neg (by simp),aPT h0 h1];rfl
 |n :: m :: l,out,h=>by
  obtain ⟨h0,h1⟩:=h n List.mem_cons_self;have ih:=aN0 (m :: l) (out++[n]) fun k hk=>h k (List.mem_cons_of_mem _ hk)
  rw [aDZ,fG,if_neg (by omega),if_neg (by omega),fG,if_neg (by decide),if_pos rfl,List.nil_append,oW,if_neg (by simp),aPT h0 h1,Option.map_some,Option.bind_some,ih,List.append_assoc];rfl
theorem aMJ:∀(r:List Int),(∀n∈r,0≤n∧n<10)→∀c∈dS r,c≠10
 |[],_,c,hc=>by cases hc
 |[n],h,c,hc=>by rw [dS,List.mem_singleton] at hc;omega
 |n :: m :: l,h,c,hc=>by
  rw [aDZ] at hc;rcases List.mem_cons.1 hc with rfl | hc
  ·omega
  ·rcases List.mem_cons.1 hc with rfl | hc
   ·decide
   ·exact aMJ (m :: l) (fun k hk=>h k (List.mem_cons_of_mem _ hk)) c hc
theorem aER:∀(l out:List (List Int)),(∀r∈l,r≠[]∧∀n∈r,0≤n∧n<10)→jK (eK l) out []=some (out++l)
 |[],out,_=>by show jK [] out []=_;rw [jK,oP,fG,oW,if_pos rfl,Option.map_some,if_pos rfl,List.append_nil]
 |r :: l,out,h=>by
  obtain ⟨h0,h1⟩:=h r List.mem_cons_self;have e:eK (r :: l)=dS r++(10 :: eK l):=by show nK r++eK l=_;rw [nK,if_neg h0,List.append_assoc];rfl
  have hrow:oP out (dS r)=some (out++[r]):=by rw [oP,aN0 r [] h1,Option.map_some,List.nil_append,if_neg h0]
  rw [e,aEQ _ _ _ _ (aMJ r h1),List.nil_append,jK,if_pos rfl,hrow,Option.bind_some,aER l _ fun q hq=>h q (List.mem_cons_of_mem _ hq),List.append_assoc];rfl
theorem aXB {l:List (List Int)} (hD:oY l) (hne:∀r∈l,r≠[]):eA (eK l)=(l,0):=by
 have h1:=zG (K:=100) l fun r hr=>(hD.row r hr).1
 have h2:=hD.len;have h3:(2*100+1)*l.length≤(2*100+1)*20:=Nat.mul_le_mul_left _ h2;rw [←aXA,aC0,if_neg (by omega),aER l [] fun r hr=>⟨hne r hr,(hD.row r hr).2⟩];rfl
theorem aW1 (r:List Int) (h0:r≠[]) (h:∀n∈r,1≤n):1≤lB r r.length:=by
 have:∀(l:List Int) (a:Int),1≤a→(∀n∈l,1≤n)→1≤l.foldl min a:=by
  intro l
  induction l with
  |nil=>exact fun a h _=>h
  |cons b l ih=>exact fun a ha hl=>ih _ (by have:=hl b List.mem_cons_self;show 1≤min a b;omega) fun n hn=>hl n (List.mem_cons_of_mem _ hn)
 unfold lB;cases r with
 |nil=>exact absurd rfl h0
 |cons a r=>exact this _ _ (h a List.mem_cons_self) fun n hn=>h n (List.mem_of_mem_take (List.mem_of_mem_drop hn))
theorem bAD {x:aA} (hl:x.stops.length≤7) (hm:x.may=true) {rs:List (List Int)} {c:Int} (h:x.cost rs=(c,0)):jY (eK (dW rs))=(dW rs,0)∧eK (dW rs)≠rG:=by
 obtain ⟨p,hx⟩:=x.fit hm;obtain ⟨hok,_⟩:=xT hx hm h;have hD:=(aD5 hl hm h).1.sort;have hne:∀r∈dW rs,r≠[]:=fun r hr=>(zY.1 hr).2
 have hpos:∀r∈dW rs,∀n∈r,1≤n:=fun r hr n hn=>((oT hx hm (hok.each r (zY.1 hr).1).2).1 n hn).1
 refine ⟨?_,fun e=>?_⟩
 ·rw [jY,aXB hD hne,if_neg (by simp),zE,if_neg];rw [List.any_eq_true];rintro ⟨r,hr,hb⟩;have:=aW1 r (hne r hr) (hpos r hr);have hb:=of_decide_eq_true hb;omega
 ·have h1:=aER (dW rs) [] fun r hr=>⟨hne r hr,(hD.row r hr).2⟩
  rw [e,aYV] at h1;have h3:dW rs=[[0]]:=(Option.some.inj h1).symm;have:=hpos [0] (by rw [h3];exact List.mem_singleton.2 rfl) 0 (List.mem_singleton.2 rfl);omega
structure aF.FirstIn (x:aA) (s:aF):Prop where
 lo:0≤s.first
 hi:s.first≤2*x.pairs
theorem aIW {x:aA} (hm:x.may=true):x.rootS.FirstIn x:=by obtain ⟨p,hx⟩:=x.fit hm;have hp:=hx.pairs;rw [aA.rootS,if_pos hm];exact ⟨Int.le_refl _,by show (0:Int)≤_;omega⟩
theorem aIT {x:aA} {s:aF} (h:s.FirstIn x) {j:Int} (hj:(x.move s j).2.2=true):(x.move s j).1.FirstIn x:=by
 obtain ⟨h1,h2,h3,h4,h5⟩:=sV hj
 have hv:∀o,(x.visit s j).2=true→({(x.visit s j).1 with on:=o}:aF).FirstIn x:=fun o hv=>by
  unfold aA.visit at hv ⊢;split at hv
  ·simp at hv
  ·rename_i hla;rw [if_neg hla];constructor
   ·show 0≤if s.spot=0 then j else s.first
    split
    ·exact h3.1
    ·exact h.lo
   ·show (if s.spot=0 then j else s.first)≤_;split
    ·exact h3.2
    ·exact h.hi
 rw [h5];show (x.to s j).1.FirstIn x;unfold aA.to at h4 ⊢;split at h4
 ·rename_i e;rw [if_pos e];unfold aA.home at h4 ⊢;split at h4
  ·simp at h4
  ·rename_i hst;rw [if_neg hst];exact ⟨h.lo,h.hi⟩
 ·rename_i e;rw [if_neg e];split at h4
  ·rename_i e2;rw [if_pos e2];unfold aA.take at h4 ⊢;split at h4
   ·simp at h4
   ·rename_i hf;rw [if_neg hf];split at h4
    ·rename_i hvi;rw [if_pos hvi];exact hv _ hvi
    ·rename_i hvi;exact absurd h4 hvi
  ·rename_i e2;rw [if_neg e2];unfold aA.bring at h4 ⊢;split at h4
   ·simp at h4
   ·rename_i hf;rw [if_neg hf];split at h4
    ·rename_i hvi;rw [if_pos hvi];exact hv _ hvi
    ·rename_i hvi;exact absurd h4 hvi
theorem aIS {x:aA}:∀(l:List Int) (s:aF) (c:Int) (t:aF) (e:Int),s.FirstIn x→x.goes l s c=some (t,e)→t.FirstIn x
 |[],s,c,t,e,h,hg=>by obtain ⟨rfl,_⟩:=Prod.mk.inj (Option.some.inj hg);exact h
 |j :: l,s,c,t,e,h,hg=>by
  rw [aA.goes] at hg;split at hg
  ·rename_i hj;exact aIS l _ _ t e (aIT h hj) hg
  ·cases hg
theorem aIR {x:aA}:∀(l:List aF) (s:aF),s.FirstIn x→(∀t∈l,t.FirstIn x)→(l.foldl aF.join s).FirstIn x
 |[],s,h,_=>h
 |t :: l,s,h,hl=>by
  have ht:=hl t List.mem_cons_self;refine aIR l (s.join t) ⟨?_,?_⟩ fun u hu=>hl u (List.mem_cons_of_mem _ hu)
  ·show 0≤min s.first t.first;have:=h.lo;have:=ht.lo;omega
  ·show min s.first t.first≤_;have:=h.hi;omega
theorem aIU {x:aA} {l:List aC} (h:∀n∈l,n.s.FirstIn x) (up:Int):∀m∈x.next l up,m.s.FirstIn x:=by intro m hm;obtain ⟨n,hn,j,hj,rfl,_⟩:=gZ hm;exact aIT (h n hn) (jW hj)
theorem aU2 {x:aA} {l:List aC} (h:∀n∈l,n.s.FirstIn x) (w:Int):∀m∈x.squeeze l w,m.s.FirstIn x:=by
 intro m hm;rcases vT hm with hm | ⟨i,g,h0,_,hg,rfl⟩
 ·exact h m hm
 ·match g,h0 with
  |a :: g,_=>
   have ha:=hg a List.mem_cons_self;have hj:(eU ((a :: g).map aC.s)).1=(g.map aC.s).foldl aF.join a.s:=by rw [List.map_cons,eU,if_neg];rw [List.any_eq_true];rintro ⟨t,ht,h2⟩;simp only [decide_eq_true_eq] at h2;obtain ⟨b,hb,rfl⟩:=List.mem_map.1 ht;exact h2 ((hg b (List.mem_cons_of_mem _ hb)).2.trans ha.2.symm)
   show (eU ((a :: g).map aC.s)).1.FirstIn x;rw [hj];exact aIR _ _ (h a ha.1) fun t ht=>by obtain ⟨b,hb,rfl⟩:=List.mem_map.1 ht;exact h b (hg b (List.mem_cons_of_mem _ hb)).1
theorem aCD {x:aA} (w up dp:Int):∀(f:Nat) (ls:List (List aC)) (low:Int) (sq:Option Nat) (l:List aC),(∀k∈ls++[l],∀n∈k,n.s.FirstIn x)→∀k∈(x.buildGo w up dp f ls low sq l).layers,∀n∈k,n.s.FirstIn x
 |0,ls,low,sq,l,h=>fun k hk=>h k (List.mem_append_left _ hk)
 |f+1,ls,low,sq,l,h=>by
  rw [aA.buildGo];have hl:∀n∈l,n.s.FirstIn x:=h l (List.mem_append_right _ (List.mem_singleton.2 rfl));split
  ·exact fun k hk=>h k (List.mem_append_left _ hk)
  split
  ·exact h
  split
  ·refine aCD w up dp f _ _ _ _ fun k hk=>?_
   rcases List.mem_append.1 hk with hk | hk
   ·exact h k hk
   ·rw [List.mem_singleton.1 hk];exact aU2 (aIU hl up) w
  ·refine aCD w up dp f _ _ _ _ fun k hk=>?_
   rcases List.mem_append.1 hk with hk | hk
   ·exact h k hk
   ·rw [List.mem_singleton.1 hk];exact aIU hl up
theorem bAQ {x:aA} (hm:x.may=true) {w:Int} {r:bR} (hD:j8 x w r):∀q∈(x.proofOf r).parts,∀l∈q,∀n∈l,n.s.FirstIn x:=by
 intro q hq l hl n hn;by_cases h:r.log.length=0
 ·have e:x.proofOf r=⟨r.low,[[[⟨x.rootS,0,0⟩]]]⟩:=by rw [aA.proofOf,if_pos h]
  rw [e] at hq;simp only [List.mem_singleton] at hq;subst hq;simp only [List.mem_singleton] at hl;subst hl;simp only [List.mem_singleton] at hn;subst hn;exact aIW hm
 ·have e:x.proofOf r=⟨r.low,r.log.map fun d=>x.partM r d.2⟩:=by rw [aA.proofOf,if_neg h]
  rw [e] at hq;obtain ⟨d,hd,rfl⟩:=List.mem_map.1 hq;obtain ⟨k,hk,hkd⟩:=List.getElem_of_mem hd;obtain ⟨ht,u,hd2,_⟩:=hD.all k d.1 d.2 (by rw [List.getElem?_eq_getElem hk,hkd]);obtain ⟨i,hi,e2⟩:=List.getElem_of_mem hl;have hg:=tE (x:=x) (r:=r) (d:=d.2) i;rw [List.getElem?_eq_getElem hi,e2] at hg;cases hla:(dH r d.2)[i]? with
  |none=>rw [hla] at hg;cases hg
  |some lay=>rw [hla] at hg;have hg:=Option.some.inj hg;subst hg;obtain ⟨m,hmm,rfl⟩:=List.mem_map.1 hn;have hlm:=yL (List.mem_of_getElem? hla);rw [hd2] at hlm;refine aCD w u _ _ [] u none [d.1] (fun k hk n hn=>?_) lay hlm m hmm;rw [List.nil_append,List.mem_singleton] at hk;subst hk;rw [List.mem_singleton.1 hn];exact aIS _ _ _ _ _ (aIW hm) ht.goes
theorem bAR {x:aA} (hm:x.may=true) (hl:x.stops.length≤7) {w:Int} (hw:w≤40) {r:bR} (hD:j8 x w r):(x.proofOf r).c.good:=by obtain ⟨p,hx⟩:=x.fit hm;have hp:=hx.pairs;have hlen:=hx.len;have hcars:=hx.cars;have hmp:=aM1 hm hD;have hf:=bAQ hm hD;have hle:=aH1 hD hl hw;generalize x.proofOf r=P at *;simp only [aA.mayP,Bool.and_eq_true,decide_eq_true_eq,List.all_eq_true] at hmp;have hinf:iG=1152921504606846976:=rfl;have hpn:=hle.parts;refine ⟨⟨hmp.2.1,by have:=hmp.2.2.1;show P.least<_;omega⟩,by rw [bE.c,List.length_map];omega,fun q hq=>?_⟩;obtain ⟨q',hq',rfl⟩:=List.mem_map.1 hq;obtain ⟨g1,g2⟩:=hle.lays q' hq';refine ⟨by rw [List.length_map];omega,fun l hl2=>?_⟩;obtain ⟨l',hl',rfl⟩:=List.mem_map.1 hl2;obtain ⟨g3,g4⟩:=g2 l' hl';refine ⟨by rw [List.length_map];omega,fun s hs=>?_⟩;obtain ⟨n,hn,rfl⟩:=List.mem_map.1 hs;have hsp:=aPJ (hmp.2.2.2.2 q' hq') hl' hn;have hfi:=hf q' hq' l' hl' n hn;have hno:=g4 n hn;simp only [aA.spotB,aF.mayB,Bool.and_eq_true,decide_eq_true_eq] at hsp;have f1:=hfi.lo;have f2:=hfi.hi;obtain ⟨⟨⟨⟨⟨⟨⟨⟨⟨⟨⟨s1,s2⟩,s3⟩,s4⟩,s5⟩,s6⟩,s7⟩,s8⟩,s9⟩,s10⟩,s11⟩,s12⟩:=hsp;exact ⟨⟨s1,by show n.s.spot<_;omega⟩,⟨by show 0≤n.s.car;omega,by show n.s.car<_;omega⟩,⟨s5,by show n.s.time<_;omega⟩,⟨s7,by show n.s.load<_;omega⟩,⟨f1,by show n.s.first<_;omega⟩,⟨hno.must,hno.can,hno.on⟩,⟨s9,by show n.cost<_;omega⟩,⟨s11,by show n.part<_;omega⟩⟩
theorem pG {n:Int} (h:Nn n):gU 0 n=0:=if_neg (by have:=h.1;omega)
theorem aUR {p:cM} (h:p.good):p.err=0:=by
 have h1:∀l:List bP,(∀s∈l,s.good)→l.foldl bP.err 0=0:=by
  intro l
  induction l with
  |nil=>exact fun _=>rfl
  |cons s l ih=>
   intro hl;have hs:=hl s List.mem_cons_self;have:bP.err 0 s=0:=by simp only [bP.err,List.foldl_cons,List.foldl_nil,pG hs.at_,pG hs.car,pG hs.time,pG hs.load,pG hs.first,pG hs.cost,pG hs.part]
   rw [List.foldl_cons,this];exact ih fun t ht=>hl t (List.mem_cons_of_mem _ ht)
 rw [cM.err,pG h.least];refine h1 _ fun s hs=>?_
 obtain ⟨l,hl,hs⟩:=List.mem_flatten.1 hs;obtain ⟨q,hq,hl⟩:=List.mem_flatten.1 hl;exact ((h.part q hq).2 l hl).2 s hs
theorem aQ0 {i o:List Nat} (e:(bI i).2=0) (f:(cF o).2=0) (hl:(bI i).1.stops.length≤7) (hw:(cF o).1.width≤40):uO i (dD i o).text (dD i o).cert=⟨(dD i o).status,(dD i o).low,(dD i o).up⟩:=by
 have hm:=vL i e;have ho:=vJ o f;have hD:=aEO hl hm ho hw;have htd:=vR hl hm ho hw;have hgood:=bAR hm hl hw hD;have hholds:=bAS hm hD;have hlow:(((bI i).1.proofOf ((bI i).1.search (cF o).1)).c).least=((bI i).1.search (cF o).1).low:=rfl;have hsol:dD i o=(bI i).1.ans ((bI i).1.search (cF o).1) (eS 1):=by rw [dD,if_neg (by simp [e]),if_neg (by simp [f])]
 rw [hsol,aA.ans];simp only;have hcert:nE ((bI i).1.proofOf ((bI i).1.search (cF o).1))=((bI i).1.proofOf ((bI i).1.search (cF o).1)).c.enc:=by rw [nE,if_pos (aUR hgood)]
 rw [hcert];have hdec:=aTZ hgood;have hcp:=aHC ((bI i).1.proofOf ((bI i).1.search (cF o).1));have hinf:bF=1152921504606846976:=rfl;rw [uO,if_neg (by simp [e]),hdec,if_neg (by simp),hcp,if_neg (by rw [hholds];simp),hlow];generalize (bI i).1=x at *;generalize x.search (cF o).1=r at *
 have hcost:x.costT (if r.up<bF then eK (dW r.plan) else (eS 1).text)=(r.up,0):=by
  by_cases c:r.up<bF
  ·rw [if_pos c];have hpl:=htd.plan c;obtain ⟨t1,t2⟩:=bAD hl hm hpl;rw [aA.costT,if_neg (show ¬eK (dW r.plan)=[48,10] from t2),t1,if_neg (by simp)];exact aTN hm hpl
  ·rw [if_neg c];have:=htd.le;have hu:r.up=bF:=by omega
   rw [hu];exact if_pos rfl
 rw [hcost];simp only [if_true];rw [uP];have hless:=htd.less;rcases htd.status with ⟨s1,s2,s3⟩ | ⟨s1,s2,s3⟩ | ⟨s1,s2⟩
 ·rw [if_pos ⟨s3,by omega⟩,s1,s2]
 ·rw [if_neg (by omega),if_pos (by omega),s1]
 ·rw [if_neg (by omega),if_neg (by omega),s1]
set_option maxHeartbeats 1000000
theorem aSX (p:bE):∀c∈nE p,c<256:=by
 intro c hc;unfold nE at hc;split at hc
 ·have hE:∀ns:List Int,∀c∈d9 ns,c<256:=fun ns c hc=>by obtain ⟨n,_,hn⟩:=List.mem_flatMap.1 hc;exact xW _ c hn
  have hS:∀s:bP,∀c∈s.enc,c<256:=fun s c hc=>by
   simp only [bP.enc,List.mem_append] at hc;rcases hc with (((hc | hc) | hc) | hc) | hc
   ·exact hE _ c hc
   ·exact xW _ c hc
   ·exact xW _ c hc
   ·exact xW _ c hc
   ·exact hE _ c hc
  have hL:∀l:lI,∀c∈oG l,c<256:=fun l c hc=>by
   rcases List.mem_append.1 hc with hc | hc
   ·exact hE _ c hc
   ·obtain ⟨s,_,hs⟩:=List.mem_flatMap.1 hc;exact hS s c hs
  have hQ:∀q:jP,∀c∈mS q,c<256:=fun q c hc=>by
   rcases List.mem_append.1 hc with hc | hc
   ·exact hE _ c hc
   ·obtain ⟨l,_,hl⟩:=List.mem_flatMap.1 hc;exact hL l c hl
  simp only [cM.enc,List.mem_append] at hc;rcases hc with ((hc | hc) | hc) | hc
  ·have:∀c∈[72,76,82,49],c<256:=by decide
   exact this c hc
  ·exact hE _ c hc
  ·exact hE _ c hc
  ·obtain ⟨q,_,hq⟩:=List.mem_flatMap.1 hc;exact hQ q c hq
 ·cases hc
theorem bAN:∀(l:List (List Int)),(∀r∈l,∀n∈r,0≤n∧n<10)→∀c∈eK l,c<256:=by
 have hP:∀(r:List Int),(∀n∈r,0≤n∧n<10)→∀c∈dS r,c<256:=by
  intro r
  induction r with
  |nil=>exact fun _ c hc=>by cases hc
  |cons n r ih=>
   intro h c hc;have hn:=h n List.mem_cons_self;cases r with
   |nil=>rw [dS,List.mem_singleton] at hc;omega
   |cons m r=>
    rw [aDZ] at hc;rcases List.mem_cons.1 hc with rfl | hc
    ·omega
    ·rcases List.mem_cons.1 hc with rfl | hc
     ·decide
     ·exact ih (fun k hk=>h k (List.mem_cons_of_mem _ hk)) c hc
 intro l h c hc;obtain ⟨r,hr,hc⟩:=List.mem_flatMap.1 hc;unfold nK at hc;split at hc
 ·cases hc
 ·rcases List.mem_append.1 hc with hc | hc
  ·exact hP r (h r hr) c hc
  ·rw [List.mem_singleton.1 hc];decide
structure dA.Short (a:dA):Prop where
 text:a.text.length<2^31
 text8:∀c∈a.text,c<256
 cert:a.cert.length<2^33
 cert8:∀c∈a.cert,c<256
theorem aQ8 {i o:List Nat} (e:(bI i).2=0) (f:(cF o).2=0) (hl:(bI i).1.stops.length≤7) (hw:(cF o).1.width≤40):(dD i o).Short:=by
 have hm:=vL i e;have ho:=vJ o f;have htd:=vR hl hm ho hw;rw [aEY e f,aA.ans];have hce:=(aKX (aN7 (x:=(bI i).1) (o:=(cF o).1) hl hw)).2;have hmost:bH=4294967296:=rfl;have h8:=aSX ((bI i).1.proofOf ((bI i).1.search (cF o).1))
 have hcl:(nE ((bI i).1.proofOf ((bI i).1.search (cF o).1))).length<2^33:=by
  unfold nE;split
  ·omega
  ·simp
 generalize (bI i).1.search (cF o).1=r at *;by_cases c:r.up<bF
 ·rw [if_pos c];have hD:=(aD5 hl hm (htd.plan c)).1.sort;have h1:=zG (K:=100) (dW r.plan) fun q hq=>(hD.row q hq).1
  have h2:=hD.len;have h3:(2*100+1)*(dW r.plan).length≤(2*100+1)*20:=Nat.mul_le_mul_left _ h2;exact ⟨by show (eK (dW r.plan)).length<_;omega,bAN _ fun q hq=>(hD.row q hq).2,hcl,h8⟩
 ·rw [if_neg c];have hn:rG.length<2^31:=by decide
  have hn8:∀c∈rG,c<256:=by decide
  exact ⟨hn,hn8,hcl,h8⟩
theorem aXT (i o:List Nat) (hi:i.length<2^63) (hi8:∀c∈i,c<256) (ho:o.length<2^63) (ho8:∀c∈o,c<256):Pure P 7 [.t (.sl (aS i)),.t (.sl (aS o))] (.b true):=by
 refine aW Tryz.func7 rfl rfl (by simp [Tryz.f7]) (by simp [aE,aE.bndL]) (by simp [aE,aE.bndL]) fun B hB hnx=>?_
 simp only [Tryz.f7] at hB ⊢;have hf:=aIO i o hi hi8 ho ho8;refine aD ?_;simp [go_sem];refine aL rfl rfl rfl (args:=[]) (f:=11) (by simp [go_sem]) (by simp [go_sem,hB]) ((aGW).spec _ _) ?_;refine aD ?_;simp [go_sem];refine aL rfl rfl rfl (args:=[.t (.sl (aS i)),.t (.sl (aS o))]) (f:=12) (by simp [go_sem]) (by simp [go_sem,hB]) ((hf).spec _ _) ?_;cases cf:rA i o with
 |false=>refine aD ?_;simp [go_sem]
 |true=>
  obtain ⟨c1,c2⟩:=aIN cf;have hs:=aEZ i o hi hi8 ho ho8 c1 c2;by_cases e:(bI i).2=0
  ·by_cases f:(cF o).2=0
   ·have hst:=(vR c1 (vL i e) (vJ o f) c2).status;have hst2:¬(dD i o).status=0∧¬(dD i o).status=1:=by rw [aEY e f,aA.ans];simp only;omega
    have hsh:=aQ8 e f c1 c2;have hck:=aST i (dD i o).text (dD i o).cert hi hi8 (by have:=hsh.text;omega) hsh.text8 (by have:=hsh.cert;omega) hsh.cert8;rw [aQ0 e f c1 c2] at hck;generalize dD i o=A at *;refine aD ?_;simp [go_sem];refine aL rfl rfl rfl (args:=[.t (.sl (aS i)),.t (.sl (aS o))]) (f:=14) (by simp [go_sem]) (by simp [go_sem,hB]) ((hs).spec _ _) ?_;refine aD ?_;simp [go_sem,dA.a,dA.cs,hst2.1,hst2.2];refine bK [] rfl (by rw [hB];kernel_rfl) ?_;refine aD ?_;simp [go_sem];refine bQ rfl rfl rfl (args:=[.t (.sl (aS i)),.t (.sl (aS A.text)),.t (.sl (aS A.cert))]) (f:=22) (by simp [go_sem]) (hck) ?_;refine aD ?_;simp [go_sem,eH.a,eH.cs];refine tX (op:=.eql) (t:=51) (t':=51) (x:=.tmp 43) (y:=.tmp 44) (xs:=(⟨A.status,A.low,A.up⟩:eH).cs) (ys:=(⟨A.status,A.low,A.up⟩:eH).cs) (by simp [go_sem]) rfl (by simp [go_sem,eH.cs]) (by simp [go_sem,eH.cs]) aBR (aBQ ⟨A.status,A.low,A.up⟩ ⟨A.status,A.low,A.up⟩) rfl ?_;refine aD ?_;simp [go_sem]
   ·rw [aOI e f] at hs;refine aD ?_;simp [go_sem];refine aL rfl rfl rfl (args:=[.t (.sl (aS i)),.t (.sl (aS o))]) (f:=14) (by simp [go_sem]) (by simp [go_sem,hB]) ((hs).spec _ _) ?_;refine aD ?_;simp [go_sem,dA.a,dA.cs,eS]
  ·rw [aOH e] at hs;refine aD ?_;simp [go_sem];refine aL rfl rfl rfl (args:=[.t (.sl (aS i)),.t (.sl (aS o))]) (f:=14) (by simp [go_sem]) (by simp [go_sem,hB]) ((hs).spec _ _) ?_;refine aD ?_;simp [go_sem,dA.a,dA.cs,eS]
end Go.Proofs.YtnoifgjiipgpoaaGreatDoor
