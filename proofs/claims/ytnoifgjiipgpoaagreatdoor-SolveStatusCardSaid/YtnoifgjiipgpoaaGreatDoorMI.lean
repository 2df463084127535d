/- Parts of the proof: HeapT, HeapL, HeapO, HeapO2, HeapR, HeapW, SearchT, Join, Tog, Sqz, SqzW, Own, Build, Srch, Srch2, Srch3. -/
import Derived.Test.YtnoifgjiipgpoaaGreatDoorMH
set_option linter.all false
set_option maxHeartbeats 4000000
set_option maxRecDepth 4000
set_option maxHeartbeats 2000000
namespace Go.Proofs.YtnoifgjiipgpoaaGreatDoor
open Go Go.Proofs.YtnoifgjiipgpoaaGreatDoor.R
def pick1 (o:Int) (l:List Ent) (k s:Nat):Nat:=if k<l.length∧lessE o (l.getD k Ent.zero) (l.getD s Ent.zero)=true then k else s
def pkN (o:Int) (l:List Ent) (i:Nat):Nat→Nat
 |0=>i
 |j+1=>pick1 o l (2*i+1+j) (pkN o l i j)
def downGo (o:Int):Nat→List Ent→Nat→List Ent
 |0,l,_=>l
 |f+1,l,i=>if pkN o l i 2=i then l else downGo o f (swapE l i (pkN o l i 2)) (pkN o l i 2)
def restH (o:Int) (l:List Ent):List Ent:=
 let m:=l.take (l.length-1)
 if m.length=0 then m else downGo o (l.length+1) (m.set 0 (l.getD (l.length-1) Ent.zero)) 0
def takeS (σ:Nat→AObj) (nx h q:Nat) (o:Int) (l:List Ent):Nat→AObj:=fun i=>if i=h then .box [.ref (nx+4),.i o] else if i=nx+4 then .arr 4 (itemsT o l) else if i<nx∧i≠q then σ i else .dead
theorem pick1_lt {o:Int} {l:List Ent} {k s:Nat} (h:s<l.length):pick1 o l k s<l.length:=by
 unfold pick1;split
 ·rename_i h2;exact h2.1
 ·exact h
theorem pkN_lt {o:Int} {l:List Ent} {i:Nat} (h:i<l.length):∀j,pkN o l i j<l.length
 |0=>h
 |j+1=>pick1_lt (pkN_lt h j)
theorem pick1_ge {o:Int} {l:List Ent} {k s:Nat}:pick1 o l k s=k∨pick1 o l k s=s:=by
 unfold pick1;split
 ·exact .inl rfl
 ·exact .inr rfl
theorem pk2_gt {o:Int} {l:List Ent} {i:Nat} (h:pkN o l i 2≠i):i<pkN o l i 2:=by
 have h1:=pick1_ge (o:=o) (l:=l) (k:=2*i+1+1) (s:=pkN o l i 1)
 have h2:=pick1_ge (o:=o) (l:=l) (k:=2*i+1+0) (s:=i)
 have e1:pkN o l i 2=pick1 o l (2*i+1+1) (pkN o l i 1):=rfl
 have e2:pkN o l i 1=pick1 o l (2*i+1+0) i:=rfl
 omega
def itemC (o:Int) (e:Ent):List AV:=[.i e.bound,.i e.depth,.i e.no,.i o]
theorem take_nil_spec (o:Int) {σ:Nat→AObj} {nx h q:Nat} (hh:h<nx) (hσ:σ h= .box [.ref q,.i o]) (hq:q<nx) (hσq:σ q= .arr 4 []):
  CallSpec P 86 [.ptr h 0] σ nx (.tup [.agg [.i 0,.i 0,.i 0,.i 0],.b false]) σ nx:=by
 refine spec_keep Tryz.func86 rfl rfl (by simp [Tryz.f86]) (by simp [bnd,bnd.bndL]) fun hk B hB hnx hσB=>?_
 simp only [Tryz.f86] at hB ⊢
 have hne:¬h=nx:=by omega
 have hne1:¬h=nx+1:=by omega
 have hne2:¬q=nx:=by omega
 have hne3:¬q=nx+1:=by omega
 refine K_run hB 100 ?_
 simp [go_sem]
 refine K_scopeN (α:=Unit) 0 (fun _=>False) (fun _=>⟨sl [],noObj,0⟩) (fun _=>0) rfl (fun _ h=>h.elim) ?_
 intro J hJ
 refine K_run hB 100 ?_
 simp [go_sem,hσ,hne,hne1,hne2,hne3,hσq]
 exact ⟨by omega,fun i hi=>by simp [oput,show ¬i=nx by omega,show ¬i=nx+1 by omega]⟩
theorem take_spec (o:Int) (l:List Ent) (hl:l.length<2^30) (hpos:0<l.length) {σ:Nat→AObj} {nx h q:Nat} (hh:h<nx) (hσ:σ h= .box [.ref q,.i o]) (hq:q<nx) (hσq:σ q= .arr 4 (itemsT o l)):
  CallSpec P 86 [.ptr h 0] σ nx (.tup [.agg (itemC o (l.getD 0 Ent.zero)),.b true]) (takeS σ nx h q o (restH o l)) (nx+5):=by
 refine spec_of_K Tryz.func86 rfl rfl (by simp [Tryz.f86]) fun B hB hnx hσB=>?_
 simp only [Tryz.f86] at hB ⊢
 obtain ⟨info,mm,m1,m2,m3,m4⟩:=item_meth
 have hne:¬h=nx:=by omega
 have hne1:¬h=nx+1:=by omega
 have hne2:¬q=nx:=by omega
 have hne3:¬q=nx+1:=by omega
 have hqh:¬q=h:=fun e=>by rw [e,hσ] at hσq;cases hσq
 have hhq:¬h=q:=fun e=>hqh e.symm
 have hil:=items_len o l
 have w0:IntKind.i64.wrap ((l.length:Int)-1)=((l.length-1:Nat):Int):=by rw [w64 _ (by omega)];omega
 have hl0:¬l.length=0:=by omega
 have hg0:=fun h=>items_get o l (k:=0) hpos h
 have hg1:=fun h=>items_get o l (k:=l.length-1) (by omega) h
 have hpred:l.length-1<l.length:=by omega
 obtain ⟨n,hn⟩:∃n,n=l.length-1:=⟨_,rfl⟩
 rw [←hn] at w0 hg1 hpred
 have hle:n≤l.length:=by omega
 have htk:(itemsT o l).take n=itemsT o (l.take n):=by rw [itemsT,itemsT,List.map_take]
 generalize hR:restH o l=R
 rw [restH,←hn] at hR
 try simp only at hR
 generalize hfst:l.getD 0 Ent.zero=a0 at *
 generalize hlst:l.getD n Ent.zero=a1 at *
 have hq0:(itemsT o l)[0]? =some [.i a0.bound,.i a0.depth,.i a0.no,.i o]:=by
  rw [List.getElem?_eq_getElem (by rw [hil];exact hpos),hg0];rfl
 have hq1:(itemsT o l)[n]? =some [.i a1.bound,.i a1.depth,.i a1.no,.i o]:=by
  rw [List.getElem?_eq_getElem (by rw [hil];exact hpred),hg1];rfl
 have e1:¬h=nx+1+1:=by omega
 have e2:¬h=nx+1+1+1:=by omega
 have e3:¬q=nx+1+1:=by omega
 have e4:¬q=nx+1+1+1:=by omega
 have e5:¬h=nx+1+1+1+1:=by omega
 have f1:¬nx+1+1=h:=by omega
 have f2:¬nx+1+1=q:=by omega
 have f3:¬nx+1+1+1=h:=by omega
 have f4:¬nx+1+1+1=q:=by omega
 have f5:¬nx=h:=by omega
 have f6:¬nx=q:=by omega
 have f7:¬nx+1=h:=by omega
 have f8:¬nx+1=q:=by omega
 have fa:¬nx=nx+1+1:=by omega
 have fb:¬nx=nx+1+1+1:=by omega
 have fc:¬nx=nx+1+1+1+1:=by omega
 have fin:∀(τ:Nat→AObj) (m:Slots) (r:AV),τ h= .box [.ref (nx+4),.i o]→τ (nx+4)= .arr 4 (itemsT o R)→(∀j,j<nx→j≠h→j≠q→τ j=σ j)→Go.Proofs.YtnoifgjiipgpoaaGreatDoor.R.Ends nx (St.mk m τ (nx+5)) r (takeS σ nx h q o R) (nx+5) r:=fun τ m r k1 k2 k3=>by
  refine ⟨fun i=>?_,Nat.le_refl _,by omega,.inl rfl,.inl rfl⟩
  unfold takeS
  by_cases e1:i=h
  ·rw [if_pos e1,e1];exact .inr ⟨k1.symm,.inl rfl⟩
  rw [if_neg e1]
  by_cases e2:i=nx+4
  ·rw [if_pos e2,e2];exact .inr ⟨k2.symm,.inl rfl⟩
  rw [if_neg e2]
  by_cases e3:i<nx∧i≠q
  ·rw [if_pos e3];exact .inr ⟨(k3 i e3.1 e1 e3.2).symm,.inl rfl⟩
  ·rw [if_neg e3];exact .inl rfl
 have e6:¬nx+1+1+1+1=h:=by omega
 have e7:¬nx+1+1+1+1=q:=by omega
 have hlt:(itemsT o (l.take n)).length=n:=by rw [items_len,List.length_take];omega
 refine K_run hB 100 ?_
 simp [go_sem]
 refine K_scopeN (α:=Nat×List Ent×Nat×Nat×(Nat→AObj)) 0 (fun (f,m,i,p,τ)=>downGo o f m i=R∧m.length<f+i∧i<m.length∧m.length<2^30∧τ h= .box [.ref (nx+4),.i o]∧τ (nx+4)= .arr 4 (itemsT o m)∧(∀j,j<nx→j≠h→j≠q→τ j=σ j)∧τ p= .box (itemC o a0)∧nx+1<p∧p<nx+4∧∃cs,τ nx= .box cs∧cs.length=4)
  (fun (f,m,i,p,τ)=>⟨sl [(0,.ptr h 0),(2,.ptr nx 0),(5,.ptr p 0),(7,.i i)],τ,nx+5⟩) (fun a=>a.1) rfl ?_ ?_
 ·rintro ⟨f,m,i,p,τ⟩ ⟨g1,g2,g3,g4,g5,g6,g7,g8,g9,g10,cs,g11,g12⟩
  obtain ⟨f,rfl⟩:∃f',f=f'+1:=⟨f-1,by omega⟩
  rw [downGo] at g1
  have himl:=items_len o m
  have x1:IntKind.i64.wrap 1=1:=w64 1 (by omega)
  have x2:IntKind.i64.wrap 2=2:=w64 2 (by omega)
  obtain ⟨k1,hk1⟩:∃k,k=2*i+1:=⟨_,rfl⟩
  obtain ⟨k2,hk2⟩:∃k,k=2*i+2:=⟨_,rfl⟩
  have w1:IntKind.i64.wrap (2*(i:Int))=2*(i:Int):=w64 _ (by omega)
  have w2:IntKind.i64.wrap (2*(i:Int)+1)=(k1:Int):=by rw [w64 _ (by omega)];omega
  have w3:IntKind.i64.wrap (2*(i:Int)+2)=(k2:Int):=by rw [w64 _ (by omega)];omega
  refine K_run hB 100 ?_
  simp [go_sem,w1,w2,w3]
  refine K_loopP (α:=Nat) (fun j=>j≤2) (fun j=>⟨sl [(0,.ptr h 0),(2,.ptr nx 0),(5,.ptr p 0),(7,.i i),(8,.i (pkN o m i j)),(70,.agg [.i k1,.i k2]),(71,.i j)],τ,nx+5⟩) (fun j=>2-j) 0 (by omega) (Imp.slots (by simp [go_sem,pkN]) rfl rfl) ?_
  intro j hj
  obtain rfl | rfl | rfl:j=0∨j=1∨j=2:=by omega
  ·have hsl:=pkN_lt (o:=o) g3 0
   have hnx:pkN o m i 1=pick1 o m k1 (pkN o m i 0):=by rw [hk1];rfl
   generalize hs8:pkN o m i 0=s at *
   refine K_run hB 60 ?_
   simp [go_sem,hs8]
   by_cases c2:k1<m.length
   ·have hgk:=fun h=>items_get o m (k:=k1) c2 h
    have hgs:=fun h=>items_get o m (k:=s) hsl h
    rw [pick1] at hnx
    generalize m.getD k1 Ent.zero=a at *
    generalize m.getD s Ent.zero=b at *
    have hah:=ahead_pure o o a b
    refine K_drawn [] rfl (by rw [hB];kernel_rfl) ?_
    refine K_run hB 60 ?_
    simp [go_sem,c2,g5,g6,himl,hsl,hgk,hgs,Ent.t]
    refine K_dLook (v:=.ifc 156 (a.t o)) (fun ho=>?_) (by simp [go_sem]) ?_
    ·exact does_ifc ho (by simp [go_sem]) rfl (tt_some tt156).1 rfl (by simp [go_sem,Ent.t])
    refine K_run hB 60 ?_
    simp [go_sem,c2,g5,g6,himl,hsl,hgk,hgs,Ent.t]
    refine K_dLook (v:=.b (lessE o a b)) (fun ho=>?_) (by simp [go_sem]) ?_
    ·exact does_invoke ho (by simp [go_sem]) rfl rfl rfl m1 m2 m3 m4 (tt_some tt156).1 rfl (by first | (simp [go_sem];done) | (simp [go_sem];rfl)) (by first | (simp [go_sem,Ent.t];done) | (simp [go_sem,Ent.t];rfl)) (hah.spec _ _)
    cases hless:lessE o a b with
    |false=>
     rw [if_neg (by simp [hless])] at hnx
     refine K_run hB 60 ?_
     simp [go_sem]
     exact Next.mk 1 (by omega) (Imp.slots (by simp [go_sem,hnx,x1,x2]) rfl rfl) (by omega)
    |true=>
     rw [if_pos ⟨c2,hless⟩] at hnx
     refine K_run hB 60 ?_
     simp [go_sem]
     exact Next.mk 1 (by omega) (Imp.slots (by simp [go_sem,hnx,x1,x2]) rfl rfl) (by omega)
   ·rw [pick1,if_neg (fun h=>c2 h.1)] at hnx
    refine K_drawn [] rfl (by rw [hB];kernel_rfl) ?_
    refine K_run hB 60 ?_
    simp [go_sem,c2,g5,g6,himl]
    exact Next.mk 1 (by omega) (Imp.slots (by simp [go_sem,hnx,x1,x2]) rfl rfl) (by omega)
  ·have hsl:=pkN_lt (o:=o) g3 1
   have hnx:pkN o m i 2=pick1 o m k2 (pkN o m i 1):=by rw [hk2];rfl
   generalize hs8:pkN o m i 1=s at *
   refine K_run hB 60 ?_
   simp [go_sem,hs8]
   by_cases c2:k2<m.length
   ·have hgk:=fun h=>items_get o m (k:=k2) c2 h
    have hgs:=fun h=>items_get o m (k:=s) hsl h
    rw [pick1] at hnx
    generalize m.getD k2 Ent.zero=a at *
    generalize m.getD s Ent.zero=b at *
    have hah:=ahead_pure o o a b
    refine K_drawn [] rfl (by rw [hB];kernel_rfl) ?_
    refine K_run hB 60 ?_
    simp [go_sem,c2,g5,g6,himl,hsl,hgk,hgs,Ent.t]
    refine K_dLook (v:=.ifc 156 (a.t o)) (fun ho=>?_) (by simp [go_sem]) ?_
    ·exact does_ifc ho (by simp [go_sem]) rfl (tt_some tt156).1 rfl (by simp [go_sem,Ent.t])
    refine K_run hB 60 ?_
    simp [go_sem,c2,g5,g6,himl,hsl,hgk,hgs,Ent.t]
    refine K_dLook (v:=.b (lessE o a b)) (fun ho=>?_) (by simp [go_sem]) ?_
    ·exact does_invoke ho (by simp [go_sem]) rfl rfl rfl m1 m2 m3 m4 (tt_some tt156).1 rfl (by first | (simp [go_sem];done) | (simp [go_sem];rfl)) (by first | (simp [go_sem,Ent.t];done) | (simp [go_sem,Ent.t];rfl)) (hah.spec _ _)
    cases hless:lessE o a b with
    |false=>
     rw [if_neg (by simp [hless])] at hnx
     refine K_run hB 60 ?_
     simp [go_sem]
     exact Next.mk 2 (by omega) (Imp.slots (by simp [go_sem,hnx,x1,x2]) rfl rfl) (by omega)
    |true=>
     rw [if_pos ⟨c2,hless⟩] at hnx
     refine K_run hB 60 ?_
     simp [go_sem]
     exact Next.mk 2 (by omega) (Imp.slots (by simp [go_sem,hnx,x1,x2]) rfl rfl) (by omega)
   ·rw [pick1,if_neg (fun h=>c2 h.1)] at hnx
    refine K_drawn [] rfl (by rw [hB];kernel_rfl) ?_
    refine K_run hB 60 ?_
    simp [go_sem,c2,g5,g6,himl]
    exact Next.mk 2 (by omega) (Imp.slots (by simp [go_sem,hnx,x1,x2]) rfl rfl) (by omega)
  ·have hsl:=pkN_lt (o:=o) g3 2
   have hgt:=pk2_gt (o:=o) (l:=m) (i:=i)
   generalize pkN o m i 2=s at *
   obtain ⟨z0,z1,z2,z3,rfl⟩:∃z0 z1 z2 z3,cs=[z0,z1,z2,z3]:=by
    match cs,g12 with
    |[z0,z1,z2,z3],_=>exact ⟨z0,z1,z2,z3,rfl⟩
   refine K_run hB 60 ?_
   simp [go_sem]
   refine fork_dec (fun c3=>?_) (fun c3=>?_)
   ·rw [if_pos c3] at g1
    subst g1
    simp [go_sem,g8,g11,itemC]
    refine fin _ _ _ ?_ ?_ fun j j1 j2 j3=>?_
    ·simp [oput,g5,hne]
    ·simp [oput,g6]
    ·simp [oput,show ¬j=nx by omega,g7 j j1 j2 j3]
   ·rw [if_neg c3] at g1
    have hgi:=fun h=>items_get o m (k:=i) g3 h
    have hgs:=fun h=>items_get o m (k:=s) hsl h
    have hsw:=items_swap o m i s
    have c4:¬i=s:=fun e=>c3 e.symm
    generalize m.getD i Ent.zero=a at *
    generalize m.getD s Ent.zero=b at *
    have hgs2:∀h:s<((itemsT o m).set i [.i b.bound,.i b.depth,.i b.no,.i o]).length,((itemsT o m).set i [.i b.bound,.i b.depth,.i b.no,.i o])[s]'h=[.i b.bound,.i b.depth,.i b.no,.i o]:=fun h=>by
     rw [List.getElem_set_ne c4]
     exact hgs _
    have hls:((itemsT o m).set i [.i b.bound,.i b.depth,.i b.no,.i o]).length=m.length:=by rw [List.length_set];exact himl
    simp only [Ent.t] at hsw
    simp [go_sem]
    refine K_drawnF [25,27] [9] rfl (by rw [hB];kernel_rfl) (by kernel_rfl) fun ht hf'=>?_
    refine K_run hB 100 ?_
    simp [go_sem,ht,hf',g5,g6,himl,g3,hsl,hgi,hgs,hgs2,hls,hsw,Ent.t]
    have hgt2:=hgt c3
    refine Next.mk (f,swapE m i s,s,p,_) ⟨g1,by rw [swapE_len];simp only;omega,by rw [swapE_len];exact hsl,by rw [swapE_len];exact g4,?_,?_,fun j j1 j2 j3=>?_,?_,g9,g10,[z0,z1,z2,z3],?_,rfl⟩ (Imp.slots (by simp [go_sem]) rfl rfl) (by simp only;omega)
    ·simp [oput,g5,show ¬h=nx+4 by omega]
    ·simp [oput]
    ·simp [oput,show ¬j=nx+4 by omega,g7 j j1 j2 j3]
    ·simp [oput,show ¬p=nx+4 by omega,g8]
    ·simp [oput,g11]
 ·intro J hJ
  refine K_run hB 100 ?_
  simp [go_sem,hσ,hne,hne1,hne2,hne3,hσq,hil,hl0]
  refine K_drawnP [18,19,20,21] [0,1,2,3,4,5,6,7,8,9,10,11,12,13,14,15,16,17,18,19] 18 19 (by decide) rfl (by rw [hB];kernel_rfl) (by kernel_rfl) fun ht hf'=>?_
  refine K_run hB 60 ?_
  simp [go_sem,ht,hf',hσ,hne,hne1,hne2,hne3,hσq,hil,hl0,hpos,hg0,hg1,hpred,w0,hq0,hq1,e1,e2,e3,e4,Ent.t]
  refine K_dPair (by kernel_rfl) ?_ ?_
  all_goals
   refine K_run hB 60 ?_
   simp [go_sem,ht,hf',hσ,hne,hne1,hne2,hne3,hσq,hil,hl0,hpos,hg0,hg1,hpred,w0,hq0,hq1,e1,e2,e3,e4,Ent.t]
   refine K_drawnF [11,14] [0] rfl (by rw [hB];kernel_rfl) (by kernel_rfl) fun ht hf'=>?_
   refine K_run hB 60 ?_
   simp [go_sem,ht,hf',hσ,hne,hne1,hne2,hne3,hσq,hil,hl0,hpos,hg0,hg1,hpred,w0,hq0,hq1,e1,e2,e3,e4,Ent.t]
   apply K_dTold
   ·intro ho
    exact does_front (q:=q) (es:=itemsT o l) (sz:=4) (n:=n) (ik:=.i64) ho (by simp [go_sem]) rfl tt148 rfl tt156 (by simp [go_sem]) (by simp [oput,hne2,hne3,e3,e4,hσq]) (by simp [go_sem]) (by omega) (by omega)
   ·simp
   ·simp
   rw [htk]
   refine K_run hB 60 ?_
   simp [go_sem,ht,hf',hσ,hne,hne1,hne2,hne3,hhq,hqh,hσq,hlt,e1,e2,e3,e4,e5,e6,e7]
   refine fork_dec (fun c1=>?_) (fun c1=>?_)
  ·rw [if_pos (by rw [←items_len o,hlt];exact c1)] at hR
   subst hR
   simp [go_sem,hne,hne1,e1,e2,e3,e4,e5,e6,e7,f1,f2,f3,f4,f5,f6,f7,f8,fa,fb,fc]
   refine fin _ _ _ ?_ ?_ fun j j1 j2 j3=>?_
   ·simp [oput,hne,hne1,e1,e2,e3,e4,e5,e6,e7,f1,f2,f3,f4,f5,f6,f7,f8,fa,fb,fc]
   ·simp [oput,hne,hne1,e1,e2,e3,e4,e5,e6,e7,f1,f2,f3,f4,f5,f6,f7,f8,fa,fb,fc]
   ·simp [oput,j2,j3,show ¬j=nx by omega,show ¬j=nx+1 by omega,show ¬j=nx+1+1 by omega,show ¬j=nx+1+1+1 by omega,show ¬j=nx+1+1+1+1 by omega]
  ·rw [if_neg (by rw [←items_len o,hlt];exact c1)] at hR
   have c2:0<n:=by omega
   have hset:(itemsT o (l.take n)).set 0 [.i a1.bound,.i a1.depth,.i a1.no,.i o]=itemsT o ((l.take n).set 0 a1):=by simp [itemsT,List.map_set,Ent.t]
   have hgf0:(itemsT o (l.take n))[0]? =some [.i a0.bound,.i a0.depth,.i a0.no,.i o]:=by rw [←htk,List.getElem?_take,if_pos c2,hq0]
   have hgf:∀h:0<(itemsT o (l.take n)).length,(itemsT o (l.take n))[0]'h=[.i a0.bound,.i a0.depth,.i a0.no,.i o]:=fun h=>(List.getElem?_eq_some_iff.1 hgf0).2
   simp [go_sem,hne,hne1,e1,e2,e3,e4,e5,e6,e7,f1,f2,f3,f4,f5,f6,f7,f8,fa,fb,fc]
   refine K_drawnT [6] rfl (by rw [hB];kernel_rfl) (by kernel_rfl) fun ht=>?_
   refine K_run hB 12 ?_
   simp [go_sem,ht,hhq,hqh,hlt,c2,hset,hgf,hne,hne1,e1,e2,e3,e4,e5,e6,e7,f1,f2,f3,f4,f5,f6,f7,f8,fa,fb,fc]
   refine hJ (l.length+1,(l.take n).set 0 a1,0,nx+2,_) _ ⟨hR,?_,?_,?_,?_,?_,fun j j1 j2 j3=>?_,?_,?_,?_,[.i 0,.i 0,.i 0,.i 0],?_,rfl⟩ (Imp.slots (by simp [go_sem]) rfl rfl)
   ·simp only [List.length_set,List.length_take];omega
   ·simp only [List.length_set,List.length_take];omega
   ·simp only [List.length_set,List.length_take];omega
   ·simp [oput,hne,hne1,e1,e2,e3,e4,e5,e6,e7,f1,f2,f3,f4,f5,f6,f7,f8,fa,fb,fc]
   ·simp [oput,hne,hne1,e1,e2,e3,e4,e5,e6,e7,f1,f2,f3,f4,f5,f6,f7,f8,fa,fb,fc]
   ·simp [oput,j2,j3,show ¬j=nx by omega,show ¬j=nx+1 by omega,show ¬j=nx+1+1 by omega,show ¬j=nx+1+1+1 by omega,show ¬j=nx+1+1+1+1 by omega]
   ·simp [oput,itemC,hne,hne1,e1,e2,e3,e4,e5,e6,e7,f1,f2,f3,f4,f5,f6,f7,f8,fa,fb,fc]
   ·omega
   ·omega
   ·simp [oput,hne,hne1,e1,e2,e3,e4,e5,e6,e7,f1,f2,f3,f4,f5,f6,f7,f8,fa,fb,fc]
  ·rw [if_pos (by rw [←items_len o,hlt];exact c1)] at hR
   subst hR
   simp [go_sem,hne,hne1,e1,e2,e3,e4,e5,e6,e7,f1,f2,f3,f4,f5,f6,f7,f8,fa,fb,fc]
   refine fin _ _ _ ?_ ?_ fun j j1 j2 j3=>?_
   ·simp [oput,hne,hne1,e1,e2,e3,e4,e5,e6,e7,f1,f2,f3,f4,f5,f6,f7,f8,fa,fb,fc]
   ·simp [oput,hne,hne1,e1,e2,e3,e4,e5,e6,e7,f1,f2,f3,f4,f5,f6,f7,f8,fa,fb,fc]
   ·simp [oput,j2,j3,show ¬j=nx by omega,show ¬j=nx+1 by omega,show ¬j=nx+1+1 by omega,show ¬j=nx+1+1+1 by omega,show ¬j=nx+1+1+1+1 by omega]
  ·rw [if_neg (by rw [←items_len o,hlt];exact c1)] at hR
   have c2:0<n:=by omega
   have hset:(itemsT o (l.take n)).set 0 [.i a1.bound,.i a1.depth,.i a1.no,.i o]=itemsT o ((l.take n).set 0 a1):=by simp [itemsT,List.map_set,Ent.t]
   have hgf0:(itemsT o (l.take n))[0]? =some [.i a0.bound,.i a0.depth,.i a0.no,.i o]:=by rw [←htk,List.getElem?_take,if_pos c2,hq0]
   have hgf:∀h:0<(itemsT o (l.take n)).length,(itemsT o (l.take n))[0]'h=[.i a0.bound,.i a0.depth,.i a0.no,.i o]:=fun h=>(List.getElem?_eq_some_iff.1 hgf0).2
   simp [go_sem,hne,hne1,e1,e2,e3,e4,e5,e6,e7,f1,f2,f3,f4,f5,f6,f7,f8,fa,fb,fc]
   refine K_drawnT [6] rfl (by rw [hB];kernel_rfl) (by kernel_rfl) fun ht=>?_
   refine K_run hB 12 ?_
   simp [go_sem,ht,hhq,hqh,hlt,c2,hset,hgf,hne,hne1,e1,e2,e3,e4,e5,e6,e7,f1,f2,f3,f4,f5,f6,f7,f8,fa,fb,fc]
   refine hJ (l.length+1,(l.take n).set 0 a1,0,nx+3,_) _ ⟨hR,?_,?_,?_,?_,?_,fun j j1 j2 j3=>?_,?_,?_,?_,[.i 0,.i 0,.i 0,.i 0],?_,rfl⟩ (Imp.slots (by simp [go_sem]) rfl rfl)
   ·simp only [List.length_set,List.length_take];omega
   ·simp only [List.length_set,List.length_take];omega
   ·simp only [List.length_set,List.length_take];omega
   ·simp [oput,hne,hne1,e1,e2,e3,e4,e5,e6,e7,f1,f2,f3,f4,f5,f6,f7,f8,fa,fb,fc]
   ·simp [oput,hne,hne1,e1,e2,e3,e4,e5,e6,e7,f1,f2,f3,f4,f5,f6,f7,f8,fa,fb,fc]
   ·simp [oput,j2,j3,show ¬j=nx by omega,show ¬j=nx+1 by omega,show ¬j=nx+1+1 by omega,show ¬j=nx+1+1+1 by omega,show ¬j=nx+1+1+1+1 by omega]
   ·simp [oput,itemC,hne,hne1,e1,e2,e3,e4,e5,e6,e7,f1,f2,f3,f4,f5,f6,f7,f8,fa,fb,fc]
   ·omega
   ·omega
   ·simp [oput,hne,hne1,e1,e2,e3,e4,e5,e6,e7,f1,f2,f3,f4,f5,f6,f7,f8,fa,fb,fc]
end Go.Proofs.YtnoifgjiipgpoaaGreatDoor

set_option maxRecDepth 4000
namespace Go.Proofs.YtnoifgjiipgpoaaGreatDoor
open Go Go.Proofs.YtnoifgjiipgpoaaGreatDoor.R
theorem getD_at {l:List Ent} {i:Nat} (h:i<l.length):l.getD i Ent.zero=l[i]:=by
 rw [List.getD_eq_getElem?_getD,List.getElem?_eq_getElem h];rfl
theorem swapE_perm {l:List Ent} {i j:Nat} (hi:i<l.length) (hj:j<l.length):(swapE l i j).Perm l:=by
 rw [swapE,getD_at hi,getD_at hj]
 exact List.set_set_perm hi hj
theorem upGo_perm (o:Int):∀(f:Nat) (l:List Ent) (i:Nat),i<l.length→(upGo o f l i).Perm l
 |0,l,i,_=>List.Perm.refl _
 |f+1,l,i,h=>by
  rw [upGo]
  split
  ·have hv:(i-1) / 2<l.length:=by omega
   exact (upGo_perm o f _ _ (by rw [swapE_len];exact hv)).trans (swapE_perm h hv)
  ·exact List.Perm.refl _
theorem putH_perm (o:Int) (l:List Ent) (e:Ent):(putH o l e).Perm (l++[e]):=upGo_perm o _ _ _ (by simp)
theorem downGo_perm (o:Int):∀(f:Nat) (l:List Ent) (i:Nat),i<l.length→(downGo o f l i).Perm l
 |0,l,i,_=>List.Perm.refl _
 |f+1,l,i,h=>by
  rw [downGo]
  split
  ·exact List.Perm.refl _
  ·have hv:=pkN_lt (o:=o) h 2
   exact (downGo_perm o f _ _ (by rw [swapE_len];exact hv)).trans (swapE_perm h hv)
theorem restH_perm (o:Int) {l:List Ent} (hpos:0<l.length):(l.getD 0 Ent.zero :: restH o l).Perm l:=by
 rw [restH]
 try simp only
 have hd:l=l.take (l.length-1)++[l[l.length-1]'(by omega)]:=by
  have h1:=List.drop_eq_getElem_cons (l:=l) (i:=l.length-1) (by omega)
  rw [List.drop_eq_nil_of_le (by omega:l.length≤l.length-1+1)] at h1
  rw [←h1,List.take_append_drop]
 rw [getD_at hpos,getD_at (i:=l.length-1) (by omega)]
 generalize hx:l[l.length-1]'(by omega)=x at *
 generalize hm:l.take (l.length-1)=m at *
 split
 ·rename_i h0
  have hm0:m=[]:=List.eq_nil_of_length_eq_zero h0
  subst hm0
  rw [List.nil_append] at hd
  have:l[0]=x:=by simp [hd]
  rw [this,hd]
 ·rename_i h0
  have hp:=downGo_perm o (l.length+1) (m.set 0 x) 0 (by rw [List.length_set];omega)
  cases m with
  |nil=>exact absurd rfl h0
  |cons y m=>
   have:l[0]=y:=by simp [hd]
   rw [this]
   rw [List.set_cons_zero] at hp
   refine (hp.cons y).trans ?_
   conv=>rhs;rw [hd]
   rw [List.cons_append]
   refine List.Perm.cons y ?_
   exact (List.perm_append_comm (l₁:=[x]) (l₂:=m))
end Go.Proofs.YtnoifgjiipgpoaaGreatDoor

set_option maxRecDepth 4000
namespace Go.Proofs.YtnoifgjiipgpoaaGreatDoor
open Go Go.Proofs.YtnoifgjiipgpoaaGreatDoor.R
theorem notless_trans (o:Int) {a b c:Ent} (h1:lessE o b a=false) (h2:lessE o c b=false):lessE o c a=false:=by
 unfold lessE at *
 split at h1
 ·rename_i h
  rw [if_pos h] at h2 ⊢
  simp only [decide_eq_false_iff_not] at *
  omega
 ·rename_i h
  rw [if_neg h] at h2 ⊢
  split at h1
  ·rename_i h'
   rw [if_pos h'] at h2 ⊢
   simp only [decide_eq_false_iff_not] at *
   omega
  ·rename_i h'
   rw [if_neg h'] at h2 ⊢
   simp only [decide_eq_false_iff_not] at *
   omega
theorem less_asym (o:Int) {a b:Ent} (h:lessE o a b=true):lessE o b a=false:=by
 unfold lessE at *
 split at h
 ·rename_i h'
  rw [if_pos h']
  simp only [decide_eq_true_eq,decide_eq_false_iff_not] at *
  omega
 ·rename_i h'
  rw [if_neg h']
  split at h
  ·rename_i h''
   rw [if_pos h'']
   simp only [decide_eq_true_eq,decide_eq_false_iff_not] at *
   omega
  ·rename_i h''
   rw [if_neg h'']
   simp only [decide_eq_true_eq,decide_eq_false_iff_not] at *
   omega
def HeapOK (o:Int) (l:List Ent):Prop:=∀i,0<i→i<l.length→lessE o (l.getD i Ent.zero) (l.getD ((i-1) / 2) Ent.zero)=false
theorem heap_first {o:Int} {l:List Ent} (h:HeapOK o l):∀i,i<l.length→lessE o (l.getD i Ent.zero) (l.getD 0 Ent.zero)=false:=by
 intro i
 induction i using Nat.strongRecOn with
 |_ i ih=>
  intro hi
  by_cases h0:i=0
  ·subst h0
   cases hl:lessE o (l.getD 0 Ent.zero) (l.getD 0 Ent.zero) with
   |false=>rfl
   |true=>
    have:=less_asym o hl
    rw [hl] at this
    exact this
  ·exact notless_trans o (ih ((i-1) / 2) (by omega) (by omega)) (h i (by omega) hi)
theorem swapE_get {l:List Ent} {i j k:Nat} (hi:i<l.length) (hj:j<l.length):(swapE l i j).getD k Ent.zero=if k=j then l.getD i Ent.zero else if k=i then l.getD j Ent.zero else l.getD k Ent.zero:=by
 simp only [swapE,List.getD_eq_getElem?_getD,List.getElem?_set,List.length_set]
 by_cases h1:k=j
 ·subst h1
  simp [hj]
 ·rw [if_neg (fun e=>h1 e.symm),if_neg h1]
  by_cases h2:k=i
  ·subst h2
   simp [hi]
  ·rw [if_neg (fun e=>h2 e.symm),if_neg h2]
structure UpI (o:Int) (l:List Ent) (i:Nat):Prop where
 lt:i<l.length
 ok:∀k,0<k→k<l.length→k≠i→lessE o (l.getD k Ent.zero) (l.getD ((k-1) / 2) Ent.zero)=false
 kid:∀k,0<k→k<l.length→(k-1) / 2=i→0<i→lessE o (l.getD k Ent.zero) (l.getD ((i-1) / 2) Ent.zero)=false
theorem upGo_ok (o:Int):∀(f:Nat) (l:List Ent) (i:Nat),UpI o l i→i<f→HeapOK o (upGo o f l i)
 |0,l,i,_,h=>absurd h (Nat.not_lt_zero _)
 |f+1,l,i,h,hf=>by
  rw [upGo]
  split
  ·rename_i hc
   have hi:=h.lt
   obtain ⟨v,hv⟩:∃v,v=(i-1) / 2:=⟨_,rfl⟩
   rw [←hv] at hc ⊢
   have hvl:v<l.length:=by omega
   have hless:=less_asym o hc.2
   refine upGo_ok o f _ _ ⟨by rw [swapE_len];exact hvl,fun k k0 kl kv=>?_,fun k k0 kl kv v0=>?_⟩ (by omega)
   ·rw [swapE_len] at kl
    rw [swapE_get hi hvl,swapE_get hi hvl,if_neg kv]
    by_cases k1:k=i
    ·subst k1
     rw [if_pos rfl,if_pos hv.symm]
     exact hless
    ·rw [if_neg k1]
     by_cases k2:(k-1) / 2=v
     ·rw [if_pos k2]
      have:=h.ok k k0 kl k1
      rw [k2] at this
      exact notless_trans o hless this
     ·rw [if_neg k2]
      by_cases k3:(k-1) / 2=i
      ·rw [if_pos k3]
       have:=h.kid k k0 kl k3 hc.1
       rw [←hv] at this
       exact this
      ·rw [if_neg k3]
       exact h.ok k k0 kl k1
   ·rw [swapE_len] at kl
    rw [swapE_get hi hvl,swapE_get hi hvl,if_neg (by omega),if_neg (show ¬(v-1) / 2=v by omega),if_neg (show ¬(v-1) / 2=i by omega)]
    have hvo:=h.ok v v0 hvl (by omega)
    by_cases k1:k=i
    ·rw [if_pos k1];exact hvo
    ·rw [if_neg k1]
     have:=h.ok k k0 kl k1
     rw [kv] at this
     exact notless_trans o hvo this
  ·rename_i hc
   intro k k0 kl
   by_cases k1:k=i
   ·subst k1
    cases hl:lessE o (l.getD k Ent.zero) (l.getD ((k-1) / 2) Ent.zero) with
    |false=>rfl
    |true=>exact absurd ⟨k0,hl⟩ hc
   ·exact h.ok k k0 kl k1
theorem putH_ok {o:Int} {l:List Ent} (h:HeapOK o l) (e:Ent):HeapOK o (putH o l e):=by
 refine upGo_ok o _ _ _ ⟨by simp,fun k k0 kl kv=>?_,fun k k0 kl kv _=>?_⟩ (by omega)
 ·rw [List.length_append] at kl
  simp only [List.length_cons,List.length_nil] at kl
  have:=h k k0 (by omega)
  simp only [List.getD_eq_getElem?_getD] at this ⊢
  rw [List.getElem?_append_left (by omega),List.getElem?_append_left (by omega)]
  exact this
 ·rw [List.length_append] at kl
  simp only [List.length_cons,List.length_nil] at kl
  omega
end Go.Proofs.YtnoifgjiipgpoaaGreatDoor

set_option maxRecDepth 4000
namespace Go.Proofs.YtnoifgjiipgpoaaGreatDoor
open Go Go.Proofs.YtnoifgjiipgpoaaGreatDoor.R
theorem less_irrefl (o:Int) (a:Ent):lessE o a a=false:=by
 cases h:lessE o a a with
 |false=>rfl
 |true=>
  have:=less_asym o h
  rw [h] at this
  exact this
theorem pick1_min (o:Int) (l:List Ent) (k s:Nat):lessE o (l.getD s Ent.zero) (l.getD (pick1 o l k s) Ent.zero)=false∧(k<l.length→lessE o (l.getD k Ent.zero) (l.getD (pick1 o l k s) Ent.zero)=false):=by
 unfold pick1
 split
 ·rename_i h
  exact ⟨less_asym o h.2,fun _=>less_irrefl o _⟩
 ·rename_i h
  refine ⟨less_irrefl o _,fun hk=>?_⟩
  cases hl:lessE o (l.getD k Ent.zero) (l.getD s Ent.zero) with
  |false=>rfl
  |true=>exact absurd ⟨hk,hl⟩ h
theorem pk2_min (o:Int) (l:List Ent) (i:Nat):lessE o (l.getD i Ent.zero) (l.getD (pkN o l i 2) Ent.zero)=false∧∀k,(k-1) / 2=i→0<k→k<l.length→lessE o (l.getD k Ent.zero) (l.getD (pkN o l i 2) Ent.zero)=false:=by
 have e2:pkN o l i 2=pick1 o l (2*i+1+1) (pick1 o l (2*i+1+0) i):=rfl
 obtain ⟨a1,a2⟩:=pick1_min o l (2*i+1+0) i
 obtain ⟨b1,b2⟩:=pick1_min o l (2*i+1+1) (pick1 o l (2*i+1+0) i)
 rw [←e2] at b1 b2
 refine ⟨notless_trans o b1 a1,fun k hk k0 kl=>?_⟩
 by_cases h:k=2*i+1+1
 ·subst h;exact b2 kl
 ·have:k=2*i+1+0:=by omega
  subst this
  exact notless_trans o b1 (a2 kl)
theorem pk2_par {o:Int} {l:List Ent} {i:Nat} (h:pkN o l i 2≠i):(pkN o l i 2-1) / 2=i:=by
 have h1:=pick1_ge (o:=o) (l:=l) (k:=2*i+1+1) (s:=pkN o l i 1)
 have h2:=pick1_ge (o:=o) (l:=l) (k:=2*i+1+0) (s:=i)
 have e1:pkN o l i 2=pick1 o l (2*i+1+1) (pkN o l i 1):=rfl
 have e2:pkN o l i 1=pick1 o l (2*i+1+0) i:=rfl
 omega
structure DownI (o:Int) (l:List Ent) (i:Nat):Prop where
 lt:i<l.length
 ok:∀k,0<k→k<l.length→(k-1) / 2≠i→lessE o (l.getD k Ent.zero) (l.getD ((k-1) / 2) Ent.zero)=false
 kid:∀k,0<k→k<l.length→(k-1) / 2=i→0<i→lessE o (l.getD k Ent.zero) (l.getD ((i-1) / 2) Ent.zero)=false
theorem downGo_ok (o:Int):∀(f:Nat) (l:List Ent) (i:Nat),DownI o l i→l.length<f+i→HeapOK o (downGo o f l i)
 |0,l,i,h,hf=>absurd h.lt (by omega)
 |f+1,l,i,h,hf=>by
  rw [downGo]
  obtain ⟨m1,m2⟩:=pk2_min o l i
  have hi:=h.lt
  have hsl:=pkN_lt (o:=o) hi 2
  have hgt:=pk2_gt (o:=o) (l:=l) (i:=i)
  have hpar:=pk2_par (o:=o) (l:=l) (i:=i)
  generalize pkN o l i 2=s at *
  split
  ·rename_i hs
   subst hs
   intro k k0 kl
   by_cases k1:(k-1) / 2=s
   ·rw [k1];exact m2 k k1 k0 kl
   ·exact h.ok k k0 kl k1
  ·rename_i hs
   have hgt:=hgt hs
   have hpar:=hpar hs
   refine downGo_ok o f _ _ ⟨by rw [swapE_len];exact hsl,fun k k0 kl kv=>?_,fun k k0 kl kv _=>?_⟩ (by rw [swapE_len];omega)
   ·rw [swapE_len] at kl
    rw [swapE_get hi hsl,swapE_get hi hsl,if_neg kv]
    by_cases k1:k=s
    ·subst k1
     rw [if_pos rfl,if_pos hpar]
     exact m1
    ·rw [if_neg k1]
     by_cases k2:k=i
     ·subst k2
      rw [if_pos rfl,if_neg (by omega)]
      exact h.kid s (by omega) hsl hpar k0
     ·rw [if_neg k2]
      by_cases k3:(k-1) / 2=i
      ·rw [if_pos k3];exact m2 k k3 k0 kl
      ·rw [if_neg k3];exact h.ok k k0 kl k3
   ·rw [swapE_len] at kl
    rw [swapE_get hi hsl,swapE_get hi hsl,if_neg (by omega),if_neg (by omega),hpar,if_neg (by omega),if_pos rfl]
    have:=h.ok k k0 kl (by omega)
    rw [kv] at this
    exact this
theorem restH_ok {o:Int} {l:List Ent} (h:HeapOK o l) (hpos:0<l.length):HeapOK o (restH o l):=by
 rw [restH]
 try simp only
 have ht:∀k,k<l.length-1→(l.take (l.length-1)).getD k Ent.zero=l.getD k Ent.zero:=fun k hk=>by
  simp only [List.getD_eq_getElem?_getD,List.getElem?_take,if_pos hk]
 have hlen:(l.take (l.length-1)).length=l.length-1:=by rw [List.length_take];omega
 generalize l.getD (l.length-1) Ent.zero=x
 generalize l.take (l.length-1)=m at *
 have hs:∀k,0<k→(m.set 0 x).getD k Ent.zero=m.getD k Ent.zero:=fun k hk=>by
  simp only [List.getD_eq_getElem?_getD,List.getElem?_set_ne (show 0≠k by omega)]
 split
 ·rename_i h0
  intro k _ kl
  omega
 ·rename_i h0
  refine downGo_ok o _ _ _ ⟨by rw [List.length_set];omega,fun k k0 kl kv=>?_,fun k k0 kl kv k1=>absurd k1 (Nat.lt_irrefl 0)⟩ (by rw [List.length_set];omega)
  rw [List.length_set] at kl
  rw [hs k k0,hs _ (by omega),ht k (by omega),ht _ (by omega)]
  exact h k k0 (by omega)
end Go.Proofs.YtnoifgjiipgpoaaGreatDoor

set_option maxRecDepth 4000
namespace Go.Proofs.YtnoifgjiipgpoaaGreatDoor
open Go Go.Proofs.YtnoifgjiipgpoaaGreatDoor.R
theorem less_total (o:Int) {a b:Ent} (h1:lessE o a b=false) (h2:lessE o b a=false):a=b:=by
 have key:a.bound=b.bound∧a.depth=b.depth∧a.no=b.no:=by
  unfold lessE at *
  split at h1
  ·rename_i h
   rw [if_pos h] at h2
   simp only [decide_eq_false_iff_not] at *
   omega
  ·rename_i h
   rw [if_neg h] at h2
   split at h1
   ·rename_i h'
    rw [if_pos h'] at h2
    simp only [decide_eq_false_iff_not] at *
    omega
   ·rename_i h'
    rw [if_neg h'] at h2
    simp only [decide_eq_false_iff_not] at *
    omega
 obtain ⟨a1,a2,a3⟩:=a
 obtain ⟨b1,b2,b3⟩:=b
 simp only at key
 obtain ⟨rfl,rfl,rfl⟩:=key
 rfl
theorem minI_least (o:Int) (q:List Ent):∀(l:List Nat) (k r:Nat),l.foldl (fun k i=>if lessE o (q.getD i Ent.zero) (q.getD k Ent.zero)=true then i else k) k=r→lessE o (q.getD k Ent.zero) (q.getD r Ent.zero)=false∧∀i∈l,lessE o (q.getD i Ent.zero) (q.getD r Ent.zero)=false
 |[],k,r,h=>by
  rw [List.foldl_nil] at h
  subst h
  exact ⟨less_irrefl o _,fun i hi=>by cases hi⟩
 |i :: l,k,r,h=>by
  rw [List.foldl_cons] at h
  obtain ⟨h1,h2⟩:=minI_least o q l _ r h
  by_cases hl:lessE o (q.getD i Ent.zero) (q.getD k Ent.zero)=true
  ·rw [if_pos hl] at h1
   refine ⟨notless_trans o h1 (less_asym o hl),fun j hj=>?_⟩
   rcases List.mem_cons.1 hj with rfl | hj
   ·exact h1
   ·exact h2 j hj
  ·rw [if_neg hl] at h1
   have hl':lessE o (q.getD i Ent.zero) (q.getD k Ent.zero)=false:=by simpa using hl
   refine ⟨h1,fun j hj=>?_⟩
   rcases List.mem_cons.1 hj with rfl | hj
   ·exact notless_trans o h1 hl'
   ·exact h2 j hj
theorem take_heap {o:Int} {l q:List Ent} (hp:l.Perm q) (hok:HeapOK o l) (hpos:0<l.length):∃q',takeQ o q=some (l.getD 0 Ent.zero,q')∧(restH o l).Perm q':=by
 have hlen:=hp.length_eq
 have hq:q≠[]:=fun e=>by
  rw [e,List.length_nil] at hlen
  omega
 have hk:=minI_lt o hq
 have hmin:=fun i hi=>(minI_least o q (List.range q.length) 0 (minI o q) rfl).2 i (List.mem_range.2 hi)
 have hd:q=q.take (minI o q)++q[minI o q] :: q.drop (minI o q+1):=by rw [←List.drop_eq_getElem_cons hk,List.take_append_drop]
 have hmem:l.getD 0 Ent.zero∈q:=by
  rw [getD_at hpos]
  exact hp.subset (List.getElem_mem _)
 have hmem2:q.getD (minI o q) Ent.zero∈l:=by
  rw [getD_at hk]
  exact hp.symm.subset (List.getElem_mem _)
 have he:q.getD (minI o q) Ent.zero=l.getD 0 Ent.zero:=by
  obtain ⟨i,hi,e1⟩:=List.getElem_of_mem hmem
  obtain ⟨j,hj,e2⟩:=List.getElem_of_mem hmem2
  have h1:=hmin i hi
  have h2:=heap_first hok j hj
  rw [getD_at hi,e1] at h1
  rw [getD_at hj,e2] at h2
  exact less_total o h2 h1
 refine ⟨q.take (minI o q)++q.drop (minI o q+1),by rw [takeQ,if_neg hq,he],?_⟩
 have h3:=(restH_perm o hpos).trans hp
 have h4:(l.getD 0 Ent.zero :: (q.take (minI o q)++q.drop (minI o q+1))).Perm q:=by
  rw [←he,getD_at hk]
  refine List.perm_middle.symm.trans ?_
  rw [←hd]
 exact (h3.trans h4.symm).cons_inv
theorem least_fold_in:∀(l:List Ent) (n:Int),l.foldl (fun n f=>min n f.bound) n=n∨∃f∈l,l.foldl (fun n f=>min n f.bound) n=f.bound
 |[],n=>.inl rfl
 |e :: l,n=>by
  rw [List.foldl_cons]
  rcases least_fold_in l (min n e.bound) with h | ⟨f,hf,h⟩
  ·rw [h]
   by_cases c:n≤e.bound
   ·exact .inl (by omega)
   ·exact .inr ⟨e,List.mem_cons_self,by omega⟩
  ·exact .inr ⟨f,List.mem_cons_of_mem _ hf,h⟩
theorem least_in {q:List Ent} (h:q≠[]):∃f∈q,leastQ q=f.bound:=by
 cases q with
 |nil=>exact absurd rfl h
 |cons e l=>
  rcases least_fold_in l e.bound with h1 | ⟨f,hf,h1⟩
  ·exact ⟨e,List.mem_cons_self,h1⟩
  ·exact ⟨f,List.mem_cons_of_mem _ hf,h1⟩
theorem least_perm {l q:List Ent} (h:l.Perm q):leastQ l=leastQ q:=by
 by_cases hl:l=[]
 ·subst hl
  rw [h.symm.eq_nil]
 ·have hq:q≠[]:=fun e=>hl (by rw [e] at h;exact h.eq_nil)
  obtain ⟨f,hf,e1⟩:=least_in hl
  obtain ⟨g,hg,e2⟩:=least_in hq
  have h1:=least_le (h.subset hf)
  have h2:=least_le (h.symm.subset hg)
  omega
end Go.Proofs.YtnoifgjiipgpoaaGreatDoor

set_option maxRecDepth 4000
set_option maxHeartbeats 1000000
namespace Go.Proofs.YtnoifgjiipgpoaaGreatDoor
open Go Go.Proofs.YtnoifgjiipgpoaaGreatDoor.R
theorem len_spec (o:Int) (l:List Ent) {σ:Nat→AObj} {nx h q:Nat} (hh:h<nx) (hσ:σ h= .box [.ref q,.i o]) (hq:q<nx) (hσq:σ q= .arr 4 (itemsT o l)):
  CallSpec P 87 [.ptr h 0] σ nx (.i l.length) σ nx:=by
 refine spec_keep Tryz.func87 rfl rfl (by simp [Tryz.f87]) (by simp [bnd]) fun hk B hB hnx hσB=>?_
 simp only [Tryz.f87] at hB ⊢
 have hil:=items_len o l
 refine K_run hB 100 ?_
 simp [go_sem,hσ,hσq,hil]
theorem hput_spec (o:Int) (l:List Ent) (e:Ent) (hl:l.length<2^30) {σ:Nat→AObj} {nx h q:Nat} (hh:h<nx) (hσ:σ h= .box [.ref q,.i o]) (hq:q<nx) (hσq:σ q= .arr 4 (itemsT o l)):
  CallQ P 85 [.ptr h 0,e.a] σ nx fun r σ' nx'=>r= .tup []∧nx≤nx'∧∃q',nx≤q'∧q'<nx'∧σ' h= .box [.ref q',.i o]∧σ' q'= .arr 4 (itemsT o (putH o l e))∧∀i,i<nx→i≠h→i≠q→σ' i=σ i:=by
 refine spec_of Tryz.func85 rfl rfl (by simp [Tryz.f85]) fun B hB hnx hσB=>?_
 simp only [Tryz.f85] at hB ⊢
 have hne:¬h=nx:=by omega
 have hne2:¬q=nx:=by omega
 have hp:=fun (τ:Nat→AObj) (h1:τ h= .box [.ref q,.i o]) (h2:τ q= .arr 4 (itemsT o l))=>put_spec o l e hl (σ:=τ) (nx:=nx+1) (h:=h) (q:=q) (by omega) h1 (by omega) h2
 refine K_run hB 100 ?_
 simp [go_sem,Ent.a,Ent.cs]
 refine K_drawnZ [] 9 _ rfl (by rw [hB];kernel_rfl) (by kernel_rfl) rfl ?_
 refine K_run hB 100 ?_
 simp [go_sem,hσ,hne]
 refine K_call rfl rfl rfl (args:=[.ptr h 0,.agg ((e.t o).map .t)]) (f:=136) (by simp [go_sem,Ent.t]) (by simp [go_sem,hB]) (hp _ (by simp [oput,hne,hσ]) (by simp [oput,hne2,hσq])) ?_
 refine K_run hB 100 ?_
 simp [go_sem]
 have e1:¬nx+1+1=h:=by omega
 have e2:¬h=nx+1+1:=by omega
 refine ⟨by omega,nx+1+1,by omega,by omega,by rw [putS,if_pos rfl],by rw [putS,if_neg e1,if_pos rfl],fun i h1 h2 h3=>?_⟩
 rw [putS,if_neg h2,if_neg (by omega),if_pos ⟨by omega,h3⟩,oput,if_neg (by omega)]
theorem htake_nil (o:Int) {σ:Nat→AObj} {nx h q:Nat} (hh:h<nx) (hσ:σ h= .box [.ref q,.i o]) (hq:q<nx) (hσq:σ q= .arr 4 []):
  CallSpec P 48 [.ptr h 0] σ nx (.tup [Ent.zero.a,.b false]) σ nx:=by
 refine spec_keep Tryz.func48 rfl rfl (by simp [Tryz.f48]) (by simp [bnd,bnd.bndL,Ent.a,Ent.cs]) fun hk B hB hnx hσB=>?_
 simp only [Tryz.f48] at hB ⊢
 have hne:¬h=nx:=by omega
 have hne2:¬q=nx:=by omega
 have hp:=fun (τ:Nat→AObj) (h1:τ h= .box [.ref q,.i o]) (h2:τ q= .arr 4 [])=>take_nil_spec o (σ:=τ) (nx:=nx+1) (h:=h) (q:=q) (by omega) h1 (by omega) h2
 refine K_run hB 100 ?_
 simp [go_sem]
 refine K_call rfl rfl rfl (args:=[.ptr h 0]) (f:=86) (by simp [go_sem]) (by simp [go_sem,hB]) (hp _ (by simp [oput,hne,hσ]) (by simp [oput,hne2,hσq])) ?_
 refine K_run hB 100 ?_
 simp [go_sem,Ent.a,Ent.cs,Ent.zero]
 exact ⟨by omega,fun i hi=>by simp [oput,show ¬i=nx by omega,show ¬i=nx+1 by omega]⟩
theorem htake_spec (o:Int) (l:List Ent) (hl:l.length<2^30) (hpos:0<l.length) {σ:Nat→AObj} {nx h q:Nat} (hh:h<nx) (hσ:σ h= .box [.ref q,.i o]) (hq:q<nx) (hσq:σ q= .arr 4 (itemsT o l)):
  CallQ P 48 [.ptr h 0] σ nx fun r σ' nx'=>r= .tup [(l.getD 0 Ent.zero).a,.b true]∧nx≤nx'∧∃q',nx≤q'∧q'<nx'∧σ' h= .box [.ref q',.i o]∧σ' q'= .arr 4 (itemsT o (restH o l))∧∀i,i<nx→i≠h→i≠q→σ' i=σ i:=by
 refine spec_of Tryz.func48 rfl rfl (by simp [Tryz.f48]) fun B hB hnx hσB=>?_
 simp only [Tryz.f48] at hB ⊢
 have hne:¬h=nx:=by omega
 have hne2:¬q=nx:=by omega
 have e1:¬nx+1+4=h:=by omega
 have e2:¬h=nx+1+4:=by omega
 have e3:¬nx=h:=by omega
 have e4:¬nx=q:=by omega
 have hp:=fun (τ:Nat→AObj) (h1:τ h= .box [.ref q,.i o]) (h2:τ q= .arr 4 (itemsT o l))=>take_spec o l hl hpos (σ:=τ) (nx:=nx+1) (h:=h) (q:=q) (by omega) h1 (by omega) h2
 generalize restH o l=R at *
 generalize l.getD 0 Ent.zero=e at *
 refine K_run hB 100 ?_
 simp [go_sem]
 refine K_call rfl rfl rfl (args:=[.ptr h 0]) (f:=86) (by simp [go_sem]) (by simp [go_sem,hB]) (hp _ (by simp [oput,hne,hσ]) (by simp [oput,hne2,hσq])) ?_
 have e5:takeS (oput σ nx (.box [.i 0,.i 0,.i 0])) (nx+1) h q o R nx= .box [.i 0,.i 0,.i 0]:=by
  rw [takeS,if_neg e3,if_neg (by omega),if_pos ⟨by omega,e4⟩,oput,if_pos rfl]
 have hst:∀i,takeS (oput σ nx (.box [.i 0,.i 0,.i 0])) (nx+1) h q o R i=if i=h then .box [.ref (nx+1+4),.i o] else if i=nx+1+4 then .arr 4 (itemsT o R) else if i<nx+1∧i≠q then oput σ nx (.box [.i 0,.i 0,.i 0]) i else .dead:=fun i=>rfl
 generalize takeS (oput σ nx (.box [.i 0,.i 0,.i 0])) (nx+1) h q o R=τ at *
 have e6:¬nx=nx+1+5:=by omega
 refine K_run hB 100 ?_
 simp [go_sem,Ent.a,Ent.cs,itemC,e5,e6]
 refine ⟨by omega,nx+1+4,by omega,by omega,?_,?_,fun i h1 h2 h3=>?_⟩
 ·simp [oput,show ¬h=nx by omega,show ¬h=nx+1+5 by omega,hst h]
 ·simp [oput,show ¬nx+1+4=nx by omega,hst (nx+1+4),e1]
 ·simp [oput,show ¬i=nx by omega,show ¬i=nx+1+5 by omega,hst i,h2,h3,show ¬i=nx+1+4 by omega,show i<nx+1 by omega]
theorem hleast_spec (o:Int) (l:List Ent) (hl:l.length<2^30) {σ:Nat→AObj} {nx h q:Nat} (hh:h<nx) (hσ:σ h= .box [.ref q,.i o]) (hq:q<nx) (hσq:σ q= .arr 4 (itemsT o l)):
  CallSpec P 50 [.ptr h 0] σ nx (.i (leastQ l)) σ nx:=by
 generalize hR:leastQ l=R
 refine spec_keep Tryz.func50 rfl rfl (by simp [Tryz.f50]) (by simp [bnd]) fun hk B hB hnx hσB=>?_
 simp only [Tryz.f50] at hB ⊢
 have hil:=items_len o l
 have hlen:=len_spec o l hh hσ hq hσq
 refine K_run hB 100 ?_
 simp [go_sem]
 refine K_call rfl rfl rfl (args:=[.ptr h 0]) (f:=87) (by simp [go_sem]) (by simp [go_sem,hB]) hlen ?_
 by_cases c0:l.length=0
 ·have:l=[]:=List.eq_nil_of_length_eq_zero c0
  subst this
  have:R=1152921504606846976:=hR.symm
  refine K_run hB 100 ?_
  simp [go_sem,this]
 ·have hpos:0<l.length:=by omega
  have hg0:=fun h=>items_get o l (k:=0) hpos h
  have hR0:l.foldl (fun n f=>min n f.bound) (l.getD 0 Ent.zero).bound=R:=by
   cases l with
   |nil=>simp at hpos
   |cons e l=>rw [←hR];simp [leastQ]
  have w1:∀k:Nat,k<l.length→IntKind.i64.wrap ((k:Int)+1)=((k+1:Nat):Int):=fun k hk=>by rw [w64 _ (by omega)];omega
  generalize l.getD 0 Ent.zero=e0 at *
  refine K_run hB 100 ?_
  simp [go_sem,c0,hσ,hσq,hil,hpos,hg0,Ent.t]
  refine K_loopP (α:=Nat×Int×(Nat→AObj)×Nat) (fun (k,n,τ,m)=>k≤l.length∧(l.drop k).foldl (fun n f=>min n f.bound) n=R∧nx≤m∧∀i,i<nx→τ i=σ i) (fun (k,n,τ,m)=>⟨sl [(3,.i n),(22,.ref q),(23,.i l.length),(24,.i k)],τ,m⟩) (fun a=>l.length-a.1) (0,e0.bound,_,_) ⟨Nat.zero_le _,hR0,Nat.le_refl _,fun i _=>rfl⟩ (Imp.slots (by simp [go_sem]) rfl rfl) ?_
  rintro ⟨k,n,τ,m⟩ ⟨g1,g2,g3,g4⟩
  have hτ:=g4 q hq
  rw [hσq] at hτ
  have hqm:¬q=m:=by omega
  refine K_run hB 60 ?_
  simp [go_sem]
  refine fork_dec (fun hk=>?_) (fun hk=>?_)
  ·have hgk:=fun h=>items_get o l (k:=k) hk h
   rw [List.drop_eq_getElem_cons hk,List.foldl_cons] at g2
   have hgd:l.getD k Ent.zero=l[k]:=getD_at hk
   rw [hgd] at hgk
   have w1:=w1 k hk
   generalize l[k]=e at *
   simp [go_sem,hτ,hil,hk,hgk,Ent.t,w1]
   exact Next.mk (k+1,min n e.bound,_,_) ⟨by omega,g2,by simp only;omega,fun i hi=>by simp [oput,show ¬i=m by omega,g4 i hi]⟩ (Imp.slots (by simp [go_sem]) rfl rfl) (by simp only;omega)
  ·have:k=l.length:=by omega
   subst this
   rw [List.drop_length,List.foldl_nil] at g2
   subst g2
   simp [go_sem]
   exact ⟨by omega,g4⟩
end Go.Proofs.YtnoifgjiipgpoaaGreatDoor

set_option maxRecDepth 4000
namespace Go.Proofs.YtnoifgjiipgpoaaGreatDoor
open Go Go.Proofs.YtnoifgjiipgpoaaGreatDoor.R
theorem moves_stops (x:Inst) (s:State):(x.moves s).length≤x.stops.length:=by
 rw [moves_can];exact canB_len _ _
theorem next_one (x:Inst) (n:Node) (up:Int):(x.next [n] up).length≤x.stops.length:=by
 have h1:=onceL_len ([n].flatMap (x.kids up))
 have h2:([n].flatMap (x.kids up)).length≤(x.moves n.s).length:=by
  rw [List.flatMap_cons,List.flatMap_nil,List.append_nil,Inst.kids]
  refine Nat.le_trans (List.length_filter_le _ _) ?_
  rw [List.length_map]
  exact Nat.le_refl _
 have h3:=moves_stops x n.s
 rw [Inst.next]
 omega
theorem buildGo_two {x:Inst} (w up dp:Int):∀(f:Nat) (ls:List (List Node)) (low:Int) (sq:Option Nat) (l:List Node),1≤ls.length→(∀k,sq=some k→2≤k)→(x.buildGo w up dp f ls low sq l).exact=true∨2≤(x.buildGo w up dp f ls low sq l).sure
 |0,ls,low,sq,l,_,h=>by
  cases sq with
  |none=>exact .inl rfl
  |some k=>exact .inr (h k rfl)
 |f+1,ls,low,sq,l,hl,h=>by
  have hlen:(ls++[l]).length=ls.length+1:=by simp
  rw [Inst.buildGo]
  split
  ·cases sq with
   |none=>exact .inl rfl
   |some k=>exact .inr (h k rfl)
  split
  ·cases sq with
   |none=>exact .inl rfl
   |some k=>exact .inr (h k rfl)
  split
  ·refine buildGo_two w up dp f _ _ _ _ (by omega) fun k hk=>?_
   cases sq with
   |none=>simp only [Option.getD_none,Option.some.injEq] at hk;omega
   |some i=>have:=h i rfl;simp only [Option.getD_some,Option.some.injEq] at hk;omega
  ·exact buildGo_two w up dp f _ _ _ _ (by omega) h
theorem build_two (x:Inst) (n:Node) (w up:Int) (he:(x.build n w up).exact=false):2≤(x.build n w up).sure:=by
 have key:(x.build n w up).exact=true∨2≤(x.build n w up).sure:=by
  rw [Inst.build,Inst.buildGo,if_neg (by simp)]
  split
  ·exact .inl rfl
  have h1:=next_one x n up
  rw [if_neg (by unfold Inst.mostN;omega)]
  exact buildGo_two w up _ _ _ _ _ _ (by simp) fun k hk=>by cases hk
 rcases key with h | h
 ·rw [he] at h;cases h
 ·exact h
theorem getD_of {α:Type} {l:List α} {i:Nat} {a d:α} (h:l[i]? =some a):l.getD i d=a:=by
 rw [List.getD_eq_getElem?_getD,h];rfl
theorem push_nos {x:Inst} {low:Int} {s:SS} {n:Node} (hn:∀e∈s.q,∃m,s.subs[e.no]? =some m):∀e∈(x.push low s n).q,∃m,(x.push low s n).subs[e.no]? =some m:=by
 rcases push_or x low s n with ⟨e,_⟩ | ⟨_,e⟩
 ·rw [e];exact hn
 rw [e]
 intro f hf
 rcases List.mem_append.1 hf with hf | hf
 ·obtain ⟨m,hm⟩:=hn f hf
  exact ⟨m,get_old hm⟩
 ·rw [List.mem_singleton.1 hf]
  exact ⟨n,by simp⟩
theorem goes_good {x:Inst} {p:Nat} (hx:x.Fit p):∀{v:List Int} {s:State} {c:Int} {t:State} {d:Int},Good x p s→x.goes v s c=some (t,d)→Good x p t
 |[],s,c,t,d,hg,h=>by
  rw [Inst.goes] at h
  cases h
  exact hg
 |j :: v,s,c,t,d,hg,h=>by
  rw [Inst.goes] at h
  split at h
  ·rename_i hm
   exact goes_good hx (good_step hx hg hm).1 h
  ·cases h
theorem Track.good {x:Inst} {p:Nat} (hx:x.Fit p) (hm:x.may=true) {n:Node} (h:Track x n):Good x p n.s:=goes_good hx (good_root hx hm) h.goes
theorem Track.len13 {x:Inst} {p:Nat} (hx:x.Fit p) (hm:x.may=true) (hp:p≤3) {n:Node} (h:Track x n):n.path.length≤13:=by
 have:=h.len
 have:=meas_root hx hm
 omega
theorem pot_lay {x:Inst} {p:Nat} (hx:x.Fit p) (hm:x.may=true) (hp:p≤3) {n:Node} (h:Track x n) (up:Int) (D:Nat):∀k,k≤D→potL p (D-k) (x.layN up n k)≤potS p D n.s
 |0,_=>by simp only [Inst.layN,potL];exact Nat.le_refl _
 |k+1,hk=>by
  have h1:=pot_lay hx hm hp h up D k (by omega)
  have h2:=potL_once p (D-(k+1)) ((x.layN up n k).flatMap (x.kids up)) []
  have h3:=pot_flat hx hp (D-(k+1)) up (x.layN up n k) fun m hmm=>(layN_track h up k m hmm).1.good hx hm
  rw [show D-(k+1)+1=D-k by omega] at h3
  simp only [potL] at h2
  rw [Inst.layN,Inst.next,onceL]
  omega
def wt (p:Nat) (n:Node):Nat:=potS p (13-n.path.length) n.s*(14-n.path.length)
def SS.mass (p:Nat) (s:SS):Nat:=(s.q.map fun e=>wt p (s.subs.getD e.no Node.zero)).sum
theorem wts_lay (p K:Nat):∀(l:List Node),(∀n∈l,n.path.length=K)→(l.map (wt p)).sum=potL p (13-K) l*(14-K)
 |[],_=>by simp [potL]
 |n :: l,h=>by
  rw [List.map_cons,List.sum_cons,wts_lay p K l fun m hm=>h m (List.mem_cons_of_mem _ hm),potL,wt,h n List.mem_cons_self,Nat.add_mul]
structure Grows (p:Nat) (s t:SS) (l:List Node):Prop where
 subs:t.subs.length≤s.subs.length+l.length
 mass:t.mass p≤s.mass p+(l.map (wt p)).sum
 nos:∀e∈t.q,∃m,t.subs[e.no]? =some m
theorem grows_push {x:Inst} (p:Nat) (low:Int) {s:SS} (n:Node) (hn:∀e∈s.q,∃m,s.subs[e.no]? =some m):Grows p s (x.push low s n) [n]:=by
 refine ⟨?_,?_,push_nos hn⟩
 ·rcases push_or x low s n with ⟨e,_⟩ | ⟨_,e⟩<;>rw [e]<;>simp
 rcases push_or x low s n with ⟨e,_⟩ | ⟨_,e⟩
 ·rw [e];omega
 rw [e,SS.mass,SS.mass]
 simp only
 rw [List.map_append,List.sum_append]
 have h1:(s.q.map fun e=>wt p ((s.subs++[n]).getD e.no Node.zero))=s.q.map fun e=>wt p (s.subs.getD e.no Node.zero):=by
  refine List.map_congr_left fun e he=>?_
  obtain ⟨m,hm⟩:=hn e he
  rw [getD_of hm,getD_of (get_old hm)]
 have h2:(s.subs++[n])[s.subs.length]? =some n:=by simp
 rw [h1,List.map_cons,List.map_nil,List.sum_cons,List.sum_nil,getD_of h2,List.map_cons,List.map_nil,List.sum_cons,List.sum_nil]
 omega
theorem grows_pushes {x:Inst} (p:Nat) (low:Int):∀(l:List Node) (s:SS),(∀e∈s.q,∃m,s.subs[e.no]? =some m)→Grows p s (l.foldl (x.push low) s) l
 |[],s,hn=>⟨by simp,by simp,hn⟩
 |n :: l,s,hn=>by
  obtain ⟨h1,h2,h3⟩:=grows_push (x:=x) p low n hn
  obtain ⟨k1,k2,k3⟩:=grows_pushes (x:=x) p low l (x.push low s n) h3
  refine ⟨?_,?_,k3⟩
  ·simp only [List.length_cons,List.length_nil,List.foldl_cons] at *;omega
  ·simp only [List.map_cons,List.map_nil,List.sum_cons,List.sum_nil,List.foldl_cons] at *;omega
theorem mass_like {p:Nat} {s t:SS} (h1:t.subs=s.subs) (h2:t.q=s.q):t.mass p=s.mass p:=by rw [SS.mass,SS.mass,h1,h2]
theorem wt_pos {x:Inst} {p:Nat} (hx:x.Fit p) (hm:x.may=true) (hp:p≤3) {n:Node} (h:Track x n):1≤wt p n:=by
 have h1:=h.len13 hx hm hp
 have h2:=pot_pos p (13-n.path.length) (keyM n.s) n.s.yard
 rw [wt]
 exact Nat.mul_pos h2 (by omega)
theorem exGo_cnt (x:Inst) (most:Int) (h0:0≤most) (hm:most≤3000):∀(d:Nat) (st:Node×Bool×Int) (l:List Node) (n:Int),0≤n→n+3000*d<9223372036854775808→
  n≤(x.exGo most d st l n).2.2.2∧(x.exGo most d st l n).2.2.2≤n+3000*d
 |0,st,l,n,_,_=>by rw [Inst.exGo];exact ⟨Int.le_refl _,by simp⟩
 |d+1,st,l,n,h1,hn=>by
  rw [Inst.exGo]
  split
  ·exact ⟨Int.le_refl _,by simp only;omega⟩
  split
  ·exact ⟨Int.le_refl _,by simp only;omega⟩
  rename_i c1 c2
  have hw:=w64 (n+l.length) (by omega)
  have:=exGo_cnt x most h0 hm d (x.look st l) (frontL (x.next l st.2.2)) (IntKind.i64.wrap (n+l.length)) (by omega) (by omega)
  omega
theorem sizes_le (K:Nat):∀(ls:List (List Node)),(∀l∈ls,l.length≤K)→sizes ls≤K*ls.length
 |[],_=>by simp [sizes]
 |l :: ls,h=>by
  have h1:=sizes_le K ls fun m hm=>h m (List.mem_cons_of_mem _ hm)
  have h2:=h l List.mem_cons_self
  rw [sizes] at h1 ⊢
  rw [List.map_cons,List.sum_cons,List.length_cons,Nat.mul_add]
  omega
theorem build_head (x:Inst) (n:Node) (w up:Int):∃ls,(x.build n w up).layers=[n] :: ls:=by
 obtain ⟨h,e⟩:=sure_get (build_ok x n w up) (i:=0) (by have:=(build_ok x n w up).pos;omega)
 cases hl:(x.build n w up).layers with
 |nil=>rw [hl] at h;simp at h
 |cons a ls=>
  refine ⟨ls,?_⟩
  have:(x.build n w up).layers[0]=[n]:=e
  simp only [hl,List.getElem_cons_zero] at this
  rw [this]
structure Cost (x:Inst) (p:Nat) (n:Node) (s t:SS):Prop where
 subs:t.subs.length+t.mass p≤s.subs.length+s.mass p+wt p n
 mass:t.mass p+1≤s.mass p+wt p n
 log:t.log.length=s.log.length+1
 least:s.steps+2≤t.steps
 most:t.steps≤s.steps+400000
theorem look_cost {x:Inst} {p:Nat} (hx:x.Fit p) (hm:x.may=true) (hp:p≤3) {n:Node} (ht:Track x n) {w:Int} (hw:w≤40) {s:SS} (hs:∀e∈s.q,∃m,s.subs[e.no]? =some m):Cost x p n s (x.lookS w s n):=by
 have hwp:=wt_pos hx hm hp ht
 obtain ⟨n1,n2⟩:=narrow_steps x n w s.up (by omega)
 have hml:=meas_le x n.s
 have hml0:=meas_le x x.rootS
 have hmu:widthN w*x.meas n.s≤3000*40:=Nat.mul_le_mul (by unfold widthN;split<;>omega) hml
 have hmst:x.mostN w≤40:=by
  have:=hx.len
  unfold Inst.mostN
  omega
 have h1:1≤x.mostN w:=by
  have:=hx.len
  unfold Inst.mostN
  omega
 rw [Inst.lookS]
 have hn1:=offer_up (s.plus (x.narrow n w s.up).2.2) ((x.narrow n w s.up).1,(x.narrow n w s.up).2.1)
 have q1:(s.nar x w n).subs=s.subs:=hn1.2.1
 have q2:(s.nar x w n).q=s.q:=hn1.2.2.1
 have q3:(s.nar x w n).log=s.log:=hn1.2.2.2.1
 have q4:(s.nar x w n).steps=s.steps+(x.narrow n w s.up).2.2:=hn1.2.2.2.2
 generalize s.nar x w n=t at *
 have hsz:1≤sizes (x.build n w t.up).layers∧sizes (x.build n w t.up).layers≤40*41:=by
  obtain ⟨ls,hls⟩:=build_head x n w t.up
  have hlay:=build_lay n w t.up h1
  have hc:=build_count x n w t.up
  have hd:=(deep_meas hm).2
  rw [hls] at hlay hc ⊢
  rw [List.length_cons] at hc
  have h3:=sizes_le 40 ls fun l hl=>by have:=(hlay l hl).2;omega
  have h4:sizes ([n] :: ls)=1+sizes ls:=by simp [sizes]
  rw [h4]
  have:40*ls.length≤40*40:=Nat.mul_le_mul_left _ (by omega)
  omega
 have hdt:∀d,(t.dia n d).subs=s.subs∧(t.dia n d).q=s.q∧(t.dia n d).log.length=s.log.length+1∧(t.dia n d).steps=t.steps+sizes d.layers:=fun d=>⟨q1,q2,by show (t.log++_).length=_;rw [q3,List.length_append];rfl,rfl⟩
 have e0:=hdt (x.build n w t.up)
 rw [Inst.lookD]
 split
 ·exact ⟨by rw [mass_like e0.1 e0.2.1,e0.1];omega,by rw [mass_like e0.1 e0.2.1];omega,e0.2.2.1,by rw [e0.2.2.2];omega,by rw [e0.2.2.2];omega⟩
 split
 ·have h3:=offer_up ((t.dia n (x.build n w t.up)).plus (x.exact n (t.dia n (x.build n w t.up)).up (x.mostN w)).2.2.2) ((x.exact n (t.dia n (x.build n w t.up)).up (x.mostN w)).1,(x.exact n (t.dia n (x.build n w t.up)).up (x.mostN w)).2.1)
  have hcnt:0≤(x.exact n (t.dia n (x.build n w t.up)).up (x.mostN w)).2.2.2∧(x.exact n (t.dia n (x.build n w t.up)).up (x.mostN w)).2.2.2≤0+3000*((x.meas n.s+1:Nat):Int):=exGo_cnt x _ (by omega) (by omega) _ _ _ _ (Int.le_refl _) (by omega)
  have f1:=h3.2.1.trans e0.1
  have f2:=h3.2.2.1.trans e0.2.1
  have f3:((t.dia n (x.build n w t.up)).exa x w n).log=(t.dia n (x.build n w t.up)).log:=h3.2.2.2.1
  have f4:((t.dia n (x.build n w t.up)).exa x w n).steps=(t.dia n (x.build n w t.up)).steps+(x.exact n (t.dia n (x.build n w t.up)).up (x.mostN w)).2.2.2:=h3.2.2.2.2
  refine ⟨by rw [SS.exa,mass_like f1 f2,f1];omega,by rw [SS.exa,mass_like f1 f2];omega,by rw [f3];exact e0.2.2.1,by rw [f4,e0.2.2.2];omega,by rw [f4,e0.2.2.2];omega⟩
 ·rename_i c1 c2
  have htwo:=build_two x n w t.up (by simpa using c2)
  have hok:=build_ok x n w t.up
  rw [Inst.branch]
  obtain ⟨hl,hlast⟩:=sure_get hok (i:=(x.build n w t.up).sure-1) (by omega)
  rw [List.getD_eq_getElem?_getD,List.getElem?_eq_getElem hl,Option.getD_some]
  have hpath:∀m∈(x.build n w t.up).layers[(x.build n w t.up).sure-1],Track x m∧m.path.length=n.path.length+((x.build n w t.up).sure-1):=by
   rw [hlast]
   exact fun m hmm=>layN_track ht t.up _ m hmm
  have ho:=offers_up x ((x.build n w t.up).layers.take ((x.build n w t.up).sure-1)) (t.dia n (x.build n w t.up))
  generalize hS:x.offers (t.dia n (x.build n w t.up)) ((x.build n w t.up).layers.take ((x.build n w t.up).sure-1))=S at *
  have g1:=ho.2.1.trans e0.1
  have g2:=ho.2.2.1.trans e0.2.1
  obtain ⟨k1,k2,k3⟩:=grows_pushes (x:=x) p (x.build n w t.up).low ((x.build n w t.up).layers[(x.build n w t.up).sure-1]) S (by rw [g1,g2];exact hs)
  have hup:=pushes_up x (x.build n w t.up).low ((x.build n w t.up).layers[(x.build n w t.up).sure-1]) S
  have hlen:=ht.len13 hx hm hp
  rw [mass_like g1 g2,wts_lay p _ _ fun m hmm=>(hpath m hmm).2] at k2
  rw [g1] at k1
  have key:potL p (13-(n.path.length+((x.build n w t.up).sure-1))) ((x.build n w t.up).layers[(x.build n w t.up).sure-1])*(14-(n.path.length+((x.build n w t.up).sure-1)))+((x.build n w t.up).layers[(x.build n w t.up).sure-1]).length≤wt p n∧
    potL p (13-(n.path.length+((x.build n w t.up).sure-1))) ((x.build n w t.up).layers[(x.build n w t.up).sure-1])*(14-(n.path.length+((x.build n w t.up).sure-1)))+1≤wt p n:=by
   by_cases hD:(x.build n w t.up).sure-1≤13-n.path.length
   ·have hpl:=pot_lay hx hm hp ht t.up (13-n.path.length) _ hD
    rw [←hlast,Nat.sub_sub] at hpl
    have hll:=potL_len p (13-(n.path.length+((x.build n w t.up).sure-1))) ((x.build n w t.up).layers[(x.build n w t.up).sure-1])
    generalize potL p (13-(n.path.length+((x.build n w t.up).sure-1))) ((x.build n w t.up).layers[(x.build n w t.up).sure-1])=A at *
    have hpos:=pot_pos p (13-n.path.length) (keyM n.s) n.s.yard
    rw [←potS] at hpos
    rw [wt]
    generalize potS p (13-n.path.length) n.s=G at *
    have m1:A*(14-(n.path.length+((x.build n w t.up).sure-1)))≤G*(13-n.path.length):=Nat.mul_le_mul hpl (by omega)
    have m2:G*(14-n.path.length)=G*(13-n.path.length)+G:=by
     rw [show 14-n.path.length=(13-n.path.length)+1 by omega,Nat.mul_add,Nat.mul_one]
    omega
   ·have:(x.build n w t.up).layers[(x.build n w t.up).sure-1]=[]:=by
     refine List.eq_nil_iff_forall_not_mem.2 fun m hmm=>?_
     obtain ⟨a,b⟩:=hpath m hmm
     have:=a.len13 hx hm hp
     omega
    rw [this]
    simp only [potL,List.length_nil]
    omega
  generalize potL p (13-(n.path.length+((x.build n w t.up).sure-1))) ((x.build n w t.up).layers[(x.build n w t.up).sure-1])*(14-(n.path.length+((x.build n w t.up).sure-1)))=A at *
  refine ⟨by omega,by omega,by rw [hup.2.1,ho.2.2.2.1];exact e0.2.2.1,by rw [hup.2.2,ho.2.2.2.2,e0.2.2.2];omega,by rw [hup.2.2,ho.2.2.2.2,e0.2.2.2];omega⟩
theorem sum_split {q q':List Ent} {k:Nat} (hk:k<q.length) (h:q'=q.take k++q.drop (k+1)) (g:Ent→Nat):(q.map g).sum=g q[k]+(q'.map g).sum:=by
 have hd:q=q.take k++q[k] :: q.drop (k+1):=by rw [←List.drop_eq_getElem_cons hk,List.take_append_drop]
 rw [h,List.map_append,List.sum_append]
 conv=>lhs;rw [hd]
 rw [List.map_append,List.sum_append,List.map_cons,List.sum_cons]
 omega
theorem take_sum {o:Int} {q:List Ent} {e:Ent} {q':List Ent} (h:takeQ o q=some (e,q')) (g:Ent→Nat):(q.map g).sum=g e+(q'.map g).sum:=by
 unfold takeQ at h
 split at h
 ·cases h
 rename_i hq
 have hk:=minI_lt o hq
 obtain ⟨h1,h2⟩:=Prod.mk.inj (Option.some.inj h)
 rw [sum_split hk h2.symm g,←h1]
 congr 2
 rw [List.getD_eq_getElem?_getD,List.getElem?_eq_getElem hk];rfl
structure Small (x:Inst) (p:Nat) (s:SS):Prop where
 subs:s.subs.length+s.mass p≤1849
 log:s.log.length+s.mass p≤1848
 steps:2*(s.log.length:Int)≤s.steps∧s.steps≤400000*s.log.length
theorem Small.left {x:Inst} {p:Nat} {s:SS} (h:Small x p s) {o:Int} {e:Ent} {q:List Ent} (ht:takeQ o s.q=some (e,q)):Small x p (s.left q)∧(s.left q).mass p+wt p (s.subs.getD e.no Node.zero)=s.mass p:=by
 have hsum:=take_sum ht fun e=>wt p (s.subs.getD e.no Node.zero)
 have hmass:s.mass p=wt p (s.subs.getD e.no Node.zero)+(s.left q).mass p:=hsum
 refine ⟨⟨?_,?_,h.steps⟩,by omega⟩
 ·have:=h.subs
  show s.subs.length+_≤_
  omega
 ·have:=h.log
  show s.log.length+_≤_
  omega
structure Going (x:Inst) (p:Nat) (s:SS):Prop where
 inv:SInv x s
 cov:s.Covers x fun _=>False
 small:Small x p s
theorem Going.skip {x:Inst} {p:Nat} {s:SS} (h:Going x p s) {o:Int} {e:Ent} {q:List Ent} (ht:takeQ o s.q=some (e,q)) (c:s.up≤e.bound):Going x p (s.left q):=by
 obtain ⟨t1,t2,t3,t4⟩:=take_some ht
 obtain ⟨n,hn⟩:=h.inv.nos e t1
 have hcl:=Covers.left h.inv h.cov t2 hn
 have hb:=h.inv.bound e t1 n hn
 refine ⟨h.inv.left t3,fun v c hv hlt=>?_,(h.small.left ht).1⟩
 rcases hcl v c hv hlt with ⟨v',d',hv',hd'⟩ | hq
 ·have hlt':c<s.up:=hlt
  have:=hb v' d' hv' (by omega)
  omega
 ·exact .inr hq
theorem Going.look {x:Inst} {p:Nat} (hx:x.Fit p) (hm:x.may=true) (hp:p≤3) {s:SS} (h:Going x p s) {w:Int} (hw:w≤40) {o:Int} {e:Ent} {q:List Ent} (htk:takeQ o s.q=some (e,q)):
  ∃n,s.subs[e.no]? =some n∧s.subs.getD e.no Node.zero=n∧Track x n∧Going x p (x.lookS w (s.left q) n)∧Cost x p n (s.left q) (x.lookS w (s.left q) n)∧(x.lookS w (s.left q) n).mass p<s.mass p:=by
 have hst:x.stops.length<2^31:=by have:=hx.len;omega
 obtain ⟨t1,t2,t3,t4⟩:=take_some htk
 obtain ⟨n,hn⟩:=h.inv.nos e t1
 have ht:=h.inv.track n (List.mem_of_getElem? hn)
 have hsl:=h.inv.left t3
 obtain ⟨k1,k2⟩:=look_ok2 hst hm ht w hsl (Covers.left h.inv h.cov t2 hn)
 obtain ⟨h1,h2⟩:=h.small.left htk
 rw [getD_of hn] at h2
 have hc:=look_cost hx hm hp ht hw (s:=s.left q) hsl.nos
 obtain ⟨c1,c2,c3,c4,c5⟩:=hc
 have:=h.small.subs
 have:=h.small.log
 have:=h.small.steps
 have e1:(s.left q).subs.length=s.subs.length:=rfl
 have e2:(s.left q).log.length=s.log.length:=rfl
 have e3:(s.left q).steps=s.steps:=rfl
 exact ⟨n,hn,getD_of hn,ht,⟨k1,k2,⟨by omega,by omega,by omega,by omega⟩⟩,⟨c1,c2,c3,c4,c5⟩,by omega⟩
theorem run_ends {x:Inst} {p:Nat} (hx:x.Fit p) (hm:x.may=true) (hp:p≤3) (o:Opt) (hw:o.width≤40):∀(N:Nat) (s:SS),Going x p s→s.mass p<N→∃r,x.runGo o N s=some r
 |0,s,_,h=>absurd h (Nat.not_lt_zero _)
 |N+1,s,hs,h=>by
  rw [Inst.runGo]
  cases ht:takeQ o.order s.q with
  |none=>exact ⟨_,rfl⟩
  |some r=>
   obtain ⟨e,q⟩:=r
   simp only
   obtain ⟨n,hn,hg,htn,k1,k2,k3⟩:=hs.look hx hm hp hw ht
   have hpos:=wt_pos hx hm hp htn
   obtain ⟨m1,m2⟩:=hs.small.left ht
   rw [hg] at m2 ⊢
   by_cases c1:s.up≤e.bound
   ·rw [if_pos c1]
    exact run_ends hx hm hp o hw N _ (hs.skip ht c1) (by omega)
   rw [if_neg c1]
   by_cases c2:o.budget≤s.steps
   ·rw [if_pos c2];exact ⟨_,rfl⟩
   rw [if_neg c2]
   exact run_ends hx hm hp o hw N _ k1 (by omega)
theorem lookD_up (x:Inst) (w:Int) (s:SS) (n:Node) (d:Diag):(x.lookD w s n d).up≤s.up:=by
 have e0:(s.dia n d).up=s.up:=rfl
 unfold Inst.lookD
 split
 ·rw [e0];exact Int.le_refl _
 split
 ·exact (offer_up _ _).1
 ·rw [Inst.branch,(pushes_up x d.low _ _).1]
  have:=(offers_up x (d.layers.take (d.sure-1)) (s.dia n d)).1
  omega
theorem look_up (x:Inst) (w:Int) (s:SS) (n:Node):(x.lookS w s n).up≤s.up:=by
 have h1:=lookD_up x w (s.nar x w n) n (x.build n w (s.nar x w n).up)
 have h2:(s.nar x w n).up≤s.up:=(offer_up _ _).1
 rw [Inst.lookS]
 omega
theorem start_small {x:Inst} {p:Nat} (hx:x.Fit p) (hm:x.may=true) (hp:p≤3):Small x p x.start:=by
 obtain ⟨h1,h2,h3⟩:=grows_push (x:=x) p 0 (s:=⟨[],[],inf,[],0,[]⟩) x.rootN fun e he=>by simp at he
 have hup:=push_up x 0 ⟨[],[],inf,[],0,[]⟩ x.rootN
 have hpot:=pot_root p (by omega) 13 (by omega)
 have e3:keyM x.rootS=0:=by rw [Inst.rootS,if_pos hm];simp [keyM,State.zero]
 have e4:x.rootS.yard=true:=by rw [Inst.rootS,if_pos hm];simp [State.yard,State.zero]
 have hw:wt p x.rootN≤132*14:=by
  show pot p 13 (keyM x.rootS) x.rootS.yard*14≤_
  rw [e3,e4]
  exact Nat.mul_le_mul_right _ hpot
 have e5:(SS.mk [] [] inf [] 0 []).mass p=0:=rfl
 rw [Inst.start]
 simp only [List.map_cons,List.map_nil,List.sum_cons,List.sum_nil,List.length_cons,List.length_nil] at h1 h2
 refine ⟨by omega,?_,?_⟩
 ·rw [hup.2.1];simp only [List.length_nil];omega
 ·rw [hup.2.1,hup.2.2];simp
theorem start_going {x:Inst} {p:Nat} (hx:x.Fit p) (hm:x.may=true) (hp:p≤3):Going x p x.start:=by
 obtain ⟨h1,h2⟩:=start_ok (x:=x) (by have:=hx.len;omega) hm
 exact ⟨h1,h2,start_small hx hm hp⟩
end Go.Proofs.YtnoifgjiipgpoaaGreatDoor

set_option maxRecDepth 4000
set_option maxHeartbeats 1000000
namespace Go.Proofs.YtnoifgjiipgpoaaGreatDoor
open Go Go.Proofs.YtnoifgjiipgpoaaGreatDoor.R
def hC (h:State×Nat×Bool):List AV:=[.i h.1.spot,.i h.1.car,.i h.1.time,.i h.1.load,.i h.1.first,.u h.1.must,.u h.1.can,.u h.1.on,.i h.2.1,.b h.2.2]
def addH (h:State×Nat×Bool) (t:State):State×Nat×Bool:=if h.2.1=0 then (t,1,h.2.2) else (h.1.join t,h.2.1+1,h.2.2||decide (t.spot≠h.1.spot))
theorem join_ok {s t:State} (h:s.ok) (k:t.ok):(s.join t).ok:=⟨Nat.and_lt_two_pow _ k.must,Nat.or_lt_two_pow h.can k.can,Nat.and_lt_two_pow _ k.on⟩
theorem addH_ok {h:State×Nat×Bool} {t:State} (h1:h.1.ok) (h2:t.ok):(addH h t).1.ok:=by
 unfold addH
 split
 ·exact h2
 ·exact join_ok h1 h2
theorem addH_many (h:State×Nat×Bool) (t:State):(addH h t).2.1=h.2.1+1:=by unfold addH;split<;>simp_all
theorem add_spec (h:State×Nat×Bool) (t:State) (hk:h.2.1<2^62) (ho:h.1.ok) (htk:t.ok) {σ:Nat→AObj} {nx b:Nat} (hb:b<nx) (hσ:σ b= .box (hC h)):
  CallSpec P 287 [.ptr b 0,t.a] σ nx (.tup []) (oput σ b (.box (hC (addH h t)))) nx:=by
 refine spec_down Tryz.func287 rfl rfl (by simp [Tryz.f287]) hb (by simp [bndO,bnd,bnd.bndL,hC]) (by simp [bnd,bnd.bndL]) fun hkn B hB hnx hσB=>?_
 simp only [Tryz.f287] at hB ⊢
 have hne:¬b=nx:=by omega
 have hne2:¬nx=b:=by omega
 obtain ⟨s,k,o⟩:=h
 simp only at hk ho
 by_cases c0:k=0
 ·subst c0
  have e:addH (s,0,o) t=(t,1,o):=rfl
  have w1:IntKind.i64.wrap 1=1:=w64 _ (by omega)
  rw [e]
  refine K_run hB 100 ?_
  simp [go_sem,State.a,State.cs,hσ,hC,hne,hne2,w1]
  exact fun i h1 h2=>by simp [h2,show ¬i=nx by omega]
 ·have e:addH (s,k,o) t=(s.join t,k+1,o||decide (t.spot≠s.spot)):=if_neg c0
  have hw:IntKind.i64.wrap ((k:Int)+1)=(k:Int)+1:=w64 _ (by omega)
  have c1:¬(k:Int)+1=1:=by omega
  rw [e]
  refine K_run hB 100 ?_
  simp [go_sem,State.a,State.cs,hσ,hC,hne,hne2,hw,c1]
  have hm1:=bandN ho.must htk.must
  have hm2:=bandN ho.on htk.on
  have hm3:=borN ho.can htk.can
  refine K_cut (α:=Unit) (fun _=>True) (fun _=>⟨sl [(0,.ptr b 0),(3,.ptr nx 0),(4,.ptr b 0)],oput (oput σ nx (.box t.cs)) b (.box (hC (s,k+1,o||decide (t.spot≠s.spot)))),nx+1⟩) ?_ fun _ _=>?_
  ·refine K_drawnT [16] rfl (by rw [hB];kernel_rfl) (by kernel_rfl) fun ht=>?_
   cases o with
   |true=>
    refine K_run hB 100 ?_
    simp [go_sem,ht,hσ,hC,hne,hne2,hw,c1]
    refine Imp.slots (by simp [go_sem]) ?_ rfl
    funext i
    by_cases e1:i=b
    ·simp [oput,e1,hC]
    ·simp [oput,e1,State.cs]
   |false=>
    refine K_run hB 100 ?_
    simp [go_sem,ht,hσ,hC,hne,hne2,hw,c1]
    refine Imp.slots (by simp [go_sem]) ?_ rfl
    funext i
    by_cases e1:i=b
    ·simp [oput,e1,hC]
    ·simp [oput,e1,State.cs]
  refine K_run hB 100 ?_
  simp [go_sem]
  refine K_drawnF [18,21] [1,13,14,15] rfl (by rw [hB];kernel_rfl) (by kernel_rfl) fun ht hf'=>?_
  refine K_run hB 100 ?_
  simp [go_sem,ht,hf',hC,hne,hne2,State.cs]
  refine K_drawnF [18,21] [1,13,14,15] rfl (by rw [hB];kernel_rfl) (by kernel_rfl) fun ht hf'=>?_
  refine K_run hB 100 ?_
  simp [go_sem,ht,hf',hC,hne,hne2,State.cs]
  refine K_drawnF [18,21] [1,13,14,15] rfl (by rw [hB];kernel_rfl) (by kernel_rfl) fun ht hf'=>?_
  refine K_run hB 100 ?_
  simp [go_sem,ht,hf',hC,hne,hne2,State.cs,hm1,hm2]
  refine K_drawnT [9] rfl (by rw [hB];kernel_rfl) (by kernel_rfl) fun ht=>?_
  refine K_run hB 100 ?_
  simp [go_sem,ht,hC,hne,hne2,State.cs,hm3]
  exact ⟨⟨rfl,rfl,rfl,rfl,rfl,rfl,rfl,rfl⟩,fun i h1 h2=>by simp [h2,show ¬i=nx by omega]⟩
def State.row (s:State):List T:=[.i s.spot,.i s.car,.i s.time,.i s.load,.i s.first,.v (.int .u64 s.must),.v (.int .u64 s.can),.v (.int .u64 s.on)]
theorem each_spec (l:List State) (h:State×Nat×Bool) (hl:l.length<2^31) (h0:h.2.1=0) (ho:h.1.ok) (hlo:∀t∈l,t.ok) {σ:Nat→AObj} {nx b r:Nat} (hb:b<nx) (hσ:σ b= .box (hC h)) (hr:r<nx) (hrb:r≠b) (hσr:σ r= .arr 8 (l.map State.row)):
  CallSpec P 286 [.fn (.func 287) [.ptr b 0] [],.ref r] σ nx (.tup []) (oput σ b (.box (hC (l.foldl addH h)))) nx:=by
 refine spec_down Tryz.func286 rfl rfl (by simp [Tryz.f286]) hb (by simp [bndO,bnd,bnd.bndL,hC]) (by simp [bnd,bnd.bndL]) fun hkn B hB hnx hσB=>?_
 simp only [Tryz.f286] at hB ⊢
 have hil:(l.map State.row).length=l.length:=List.length_map _
 have hgt:∀(k:Nat) (h:k<l.length),(l.map State.row)[k]'(by rw [hil];exact h)=l[k].row:=fun k h=>by rw [List.getElem_map]
 generalize l.map State.row=X at *
 generalize hR:l.foldl addH h=R
 refine K_run hB 100 ?_
 simp [go_sem,hσr,hil]
 refine K_loopP (α:=Nat×(State×Nat×Bool)×(Nat→AObj)×Nat) (fun (k,h,τ,ny)=>k≤l.length∧(l.drop k).foldl addH h=R∧h.2.1=k∧h.1.ok∧τ b= .box (hC h)∧nx≤ny∧∀i,i<nx→i≠b→τ i=σ i)
  (fun (k,h,τ,ny)=>⟨sl [(0,.fn (.func 287) [.ptr b 0] []),(6,.ref r),(7,.i l.length),(8,.i k)],τ,ny⟩) (fun a=>l.length-a.1) (0,h,σ,nx) ⟨Nat.zero_le _,hR,h0,ho,hσ,Nat.le_refl _,fun i _ _=>rfl⟩ (Imp.slots (by simp [go_sem]) rfl rfl) ?_
 rintro ⟨k,h,τ,ny⟩ ⟨g1,g2,g3,g4,g5,g6,g7⟩
 have hτr:τ r= .arr 8 X:=(g7 r hr hrb).trans hσr
 refine K_run hB 60 ?_
 simp [go_sem]
 refine fork_dec (fun hk=>?_) (fun hk=>?_)
 ·have hkk:IntKind.i64.wrap ((k:Int)+1)=((k+1:Nat):Int):=by rw [w64 ((k:Int)+1) (by omega)];rfl
  have hget:∀h:k<X.length,X[k]'h=l[k].row:=fun h=>hgt k hk
  rw [List.drop_eq_getElem_cons hk,List.foldl_cons] at g2
  have hto:=hlo l[k] (List.getElem_mem _)
  generalize l[k]=t at *
  have hadd:=fun (τ':Nat→AObj) (h1:τ' b= .box (hC h))=>add_spec h t (by omega) g4 hto (σ:=τ') (nx:=ny+1) (b:=b) (by omega) h1
  have hok:=addH_ok g4 hto
  have hmn:=addH_many h t
  generalize addH h t=h' at *
  have m1:¬b=ny:=by omega
  have m2:¬r=ny:=by omega
  simp [go_sem,hil,hk,hget,State.row,hτr,m2]
  refine K_call rfl rfl rfl (args:=[.ptr b 0,t.a]) (f:=287) (by simp [go_sem,State.a,State.cs]) (by simp [go_sem,hB]) (hadd _ (by simp [oput,m1,g5])) ?_
  refine K_run hB 100 ?_
  simp [go_sem,hkk]
  refine Next.mk (k+1,h',_,ny+1) ?_ (Imp.slots (by simp [go_sem]) rfl rfl) (by simp only;omega)
  refine ⟨by simp only;omega,g2,by simp only;omega,hok,by simp [oput],by simp only;omega,fun i h1 h2=>?_⟩
  simp [oput,h2,show ¬i=ny by omega,g7 i h1 h2]
 ·have:k=l.length:=by omega
  subst this
  rw [List.drop_length,List.foldl_nil] at g2
  subst g2
  simp [go_sem,g5]
  exact ⟨g6,g7⟩
theorem fold_addH:∀(l:List State) (s:State) (k:Nat) (o:Bool),l.foldl addH (s,k+1,o)=(l.foldl State.join s,k+1+l.length,o||l.any fun t=>decide (t.spot≠s.spot))
 |[],s,k,o=>by simp
 |t :: l,s,k,o=>by
  have e:addH (s,k+1,o) t=(s.join t,k+1+1,o||decide (t.spot≠s.spot)):=if_neg (by simp)
  rw [List.foldl_cons,e,fold_addH l (s.join t) (k+1),List.foldl_cons,List.any_cons,List.length_cons,←Bool.or_assoc,show k+1+1+l.length=k+1+(l.length+1) by omega]
  rfl
theorem join_fold (l:List State):joinL l=if (l.foldl addH (State.zero,0,false)).2.1=0∨(l.foldl addH (State.zero,0,false)).2.2=true then (State.zero,false) else ((l.foldl addH (State.zero,0,false)).1,true):=by
 cases l with
 |nil=>rfl
 |cons s l=>
  have e:addH (State.zero,0,false) s=(s,0+1,false):=rfl
  rw [List.foldl_cons,e,fold_addH,joinL,Bool.false_or]
  simp only [show ¬(0+1+l.length=0) by omega,false_or]
theorem join_spec (l:List State) (hl:l.length<2^31) (hlo:∀t∈l,t.ok) {σ:Nat→AObj} {nx r:Nat} (hr:r<nx) (hσr:σ r= .arr 8 (l.map State.row)):
  CallSpec P 257 [.ref r] σ nx (.tup [(joinL l).1.a,.b (joinL l).2]) σ nx:=by
 refine spec_keep Tryz.func257 rfl rfl (by simp [Tryz.f257]) (by simp [bnd,bnd.bndL,State.a,State.cs]) fun hk B hB hnx hσB=>?_
 simp only [Tryz.f257] at hB ⊢
 have hes:=fun (τ:Nat→AObj) (h1:τ (nx+1)= .box (hC (State.zero,0,false))) (h2:τ r= .arr 8 (l.map State.row))=>each_spec l (State.zero,0,false) hl rfl State.zero_ok hlo (σ:=τ) (nx:=nx+2) (b:=nx+1) (r:=r) (by omega) h1 (by omega) (by omega) h2
 have hj:=join_fold l
 generalize joinL l=J at *
 generalize l.foldl addH (State.zero,0,false)=H at *
 obtain ⟨s,k,o⟩:=H
 simp only at hj
 have m1:¬r=nx:=by omega
 have m2:¬r=nx+1:=by omega
 have fin:∀(a b c:AObj) (i:Nat),i<nx→oput (oput (oput σ nx a) (nx+1) b) (nx+1) c i=σ i:=fun a b c i h=>by simp [oput,show ¬i=nx by omega,show ¬i=nx+1 by omega]
 refine K_run hB 100 ?_
 simp [go_sem]
 refine K_call rfl rfl rfl (args:=[.fn (.func 287) [.ptr (nx+1) 0] [],.ref r]) (f:=286) (by simp [go_sem]) (by simp [go_sem,hB]) (hes _ (by simp [oput,hC,State.zero]) (by simp [oput,m1,m2,hσr])) ?_
 by_cases c0:k=0
 ·rw [if_pos (.inl c0)] at hj
  subst hj
  refine K_run hB 100 ?_
  simp [go_sem,hC,c0]
  exact ⟨fun i h=>by simp [show ¬i=nx by omega,show ¬i=nx+1 by omega],rfl⟩
 cases o with
 |true=>
  rw [if_pos (.inr rfl)] at hj
  subst hj
  refine K_run hB 100 ?_
  simp [go_sem,hC,c0]
  exact ⟨fun i h=>by simp [show ¬i=nx by omega,show ¬i=nx+1 by omega],rfl⟩
 |false=>
  rw [if_neg (by simp [c0])] at hj
  subst hj
  refine K_run hB 100 ?_
  simp [go_sem,hC,c0]
  exact ⟨fun i h=>by simp [show ¬i=nx by omega,show ¬i=nx+1 by omega],rfl⟩
end Go.Proofs.YtnoifgjiipgpoaaGreatDoor

set_option maxRecDepth 4000
set_option maxHeartbeats 1000000
namespace Go.Proofs.YtnoifgjiipgpoaaGreatDoor
open Go Go.Proofs.YtnoifgjiipgpoaaGreatDoor.R
theorem costL_snoc (l:List Node) (m:Node):costL (l++[m])=if l=[]∨m.cost<costL l then m.cost else costL l:=by
 cases l with
 |nil=>simp [costL]
 |cons n l=>
  rw [List.cons_append,costL,List.foldl_append,costL]
  simp only [List.foldl_cons,List.foldl_nil,reduceCtorEq,false_or]
  split<;>omega
abbrev nodeC (s:State) (c:Int) (p:AV):List AV:=[.i s.spot,.i s.car,.i s.time,.i s.load,.i s.first,.u s.must,.u s.can,.u s.on,.i c,p]
theorem together_spec (l:List Node) (hl:l.length<2^31) (hlo:∀n∈l,n.s.ok) {σ:Nat→AObj} {nx r:Nat} (hr:r<nx) (hσr:σ r= .arr 10 (nodesT l)):
  CallSpec P 228 [.ref r] σ nx (.tup [(together l).1.a,.b (together l).2]) σ nx:=by
 refine spec_keep Tryz.func228 rfl rfl (by simp [Tryz.f228]) (by simp [bnd,bnd.bndL,Node.a,Node.cs]) fun hk B hB hnx hσB=>?_
 simp only [Tryz.f228] at hB ⊢
 have hil:(nodesT l).length=l.length:=List.length_map _
 have hgt:∀(k:Nat) (h:k<l.length),(nodesT l)[k]'(by rw [hil];exact h)=l[k].t:=fun k h=>nodesT_get l h
 have hmost:mostLen=4294967296:=rfl
 generalize hX:nodesT l=X at *
 have m1:¬r=nx:=by omega
 have m2:¬r=nx+1:=by omega
 have m3:¬r=nx+2:=by omega
 refine K_run hB 100 ?_
 simp [go_sem,hσr,hil,m1,m2]
 refine K_own 5 8 (by simp [go_sem]) ?_
 refine K_less (Imp.looseB (b:=nx+1) (cs:=[.i 0,.i 0,.i 0,.i 0,.i 0,.u 0,.u 0,.u 0,.i 0,.fsl []]) (by simp [oput])) ?_
 refine K_loopP (α:=Nat×Nat×(Nat→AObj)×Nat) (fun (k,q,τ,ny)=>k≤l.length∧τ (nx+1)= .box (nodeC State.zero (costL (l.take k)) (.t (.sl [])))∧τ q= .arr 8 ((l.map fun n=>n.s.row).take k)∧nx+2≤q∧q<ny∧τ nx= .box (nodeC State.zero 0 (.fsl []))∧∀i,i<nx→τ i=σ i)
  (fun (k,q,τ,ny)=>⟨sl [(2,.ptr nx 0),(3,.b false),(4,.ptr (nx+1) 0),(5,.ref q),(9,.ref r),(10,.i l.length),(11,.i k)],τ,ny⟩) (fun a=>l.length-a.1) (0,nx+2,_,nx+3) ?_ (Imp.slots (by simp [go_sem]) rfl rfl) ?_
 ·refine ⟨Nat.zero_le _,by simp [oput,loosen,State.zero,costL],by simp [oput],by omega,by omega,by simp [oput,State.zero,show ¬nx=nx+1+1 by omega],fun i h=>by simp [oput,show ¬i=nx by omega,show ¬i=nx+1 by omega,show ¬i=nx+2 by omega]⟩
 rintro ⟨k,q,τ,ny⟩ ⟨g1,g2,g3,g4,g5,g6,g7⟩
 have hτr:τ r= .arr 10 X:=(g7 r hr).trans hσr
 have n1:¬r=ny:=by omega
 have n2:¬nx+1=ny:=by omega
 have n3:¬q=ny:=by omega
 have n4:¬nx=ny:=by omega
 have n5:¬nx+1=q:=by omega
 have n6:¬ny=nx+1:=by omega
 have n7:¬q=nx+1:=by omega
 refine K_run hB 60 ?_
 simp [go_sem]
 refine fork_dec (fun hk=>?_) (fun hk=>?_)
 ·have hkk:IntKind.i64.wrap ((k:Int)+1)=((k+1:Nat):Int):=by rw [w64 ((k:Int)+1) (by omega)];rfl
  have hget:∀h:k<X.length,X[k]'h=l[k].t:=fun h=>hgt k hk
  have htk:l.take (k+1)=l.take k++[l[k]]:=List.take_succ_eq_append_getElem hk
  have hcs:=costL_snoc (l.take k) l[k]
  rw [←htk] at hcs
  have hnil:l.take k=[]↔k=0:=by
   rw [List.take_eq_nil_iff]
   constructor
   ·rintro (h | h)
    ·exact h
    ·rw [h] at hk;simp at hk
   ·exact fun h=>.inl h
  simp only [hnil] at hcs
  have hrow:(l.map fun n=>n.s.row).take k++[l[k].s.row]=(l.map fun n=>n.s.row).take (k+1):=by
   rw [List.take_succ_eq_append_getElem (by rw [List.length_map];exact hk),List.getElem_map]
  have hlen:((l.map fun n=>n.s.row).take k).length=k:=by rw [List.length_take,List.length_map];omega
  generalize (l.map fun n=>n.s.row).take k=rows at *
  generalize costL (l.take k)=c at *
  generalize l[k]=m at *
  have hcap:k+1≤mostLen:=by omega
  by_cases c0:k=0
  ·rw [if_pos (.inl c0)] at hcs
   have hd:decide (k=0)=true:=decide_eq_true c0
   simp [go_sem,hil,hk,hget,Node.t,hτr,n1,n2,n3,n4,n5,n6,n7,g2,g3,hd,hlen,hcap,hkk]
   refine Next.mk (k+1,ny+1,_,ny+2) ?_ (Imp.slots (by simp [go_sem]) rfl rfl) (by simp only;omega)
   refine ⟨by simp only;omega,by simp [oput,n4,n2,n3,n5,hcs,State.zero],by simp only [oput,if_true];rw [←hrow];rfl,by simp only;omega,by simp only;omega,by simp [oput,n4,g6,State.zero,show ¬nx=q by omega,show ¬nx=ny+1 by omega],fun i h=>by simp [oput,show ¬i=ny by omega,show ¬i=nx+1 by omega,show ¬i=q by omega,show ¬i=ny+1 by omega,g7 i h]⟩
  by_cases c1:m.cost<c
  ·rw [if_pos (.inr c1)] at hcs
   simp [go_sem,hil,hk,hget,Node.t,hτr,n1,n2,n3,n4,n5,n6,n7,g2,g3,c0,c1,hlen,hcap,hkk]
   refine Next.mk (k+1,ny+1,_,ny+2) ?_ (Imp.slots (by simp [go_sem]) rfl rfl) (by simp only;omega)
   refine ⟨by simp only;omega,by simp [oput,n4,n2,n3,n5,hcs,State.zero],by simp only [oput,if_true];rw [←hrow];rfl,by simp only;omega,by simp only;omega,by simp [oput,n4,g6,State.zero,show ¬nx=q by omega,show ¬nx=ny+1 by omega],fun i h=>by simp [oput,show ¬i=ny by omega,show ¬i=nx+1 by omega,show ¬i=q by omega,show ¬i=ny+1 by omega,g7 i h]⟩
  ·rw [if_neg (by rintro (h | h);exact c0 h;exact c1 h)] at hcs
   simp [go_sem,hil,hk,hget,Node.t,hτr,n1,n2,n3,n4,n5,n6,n7,g2,g3,c0,c1,hlen,hcap,hkk]
   refine Next.mk (k+1,ny+1,_,ny+2) ?_ (Imp.slots (by simp [go_sem]) rfl rfl) (by simp only;omega)
   refine ⟨by simp only;omega,by simp [oput,n4,n2,n3,n5,hcs,State.zero,g2],by simp only [oput,if_true];rw [←hrow];rfl,by simp only;omega,by simp only;omega,by simp [oput,n4,g6,State.zero,show ¬nx=q by omega,show ¬nx=ny+1 by omega],fun i h=>by simp [oput,show ¬i=ny by omega,show ¬i=nx+1 by omega,show ¬i=q by omega,show ¬i=ny+1 by omega,g7 i h]⟩
 ·have:k=l.length:=by omega
  subst this
  rw [List.take_length] at g2
  rw [List.take_of_length_le (by simp)] at g3
  have hjs:=fun (τ':Nat→AObj) (h1:τ' q= .arr 8 ((l.map fun n=>n.s).map State.row))=>join_spec (l.map fun n=>n.s) (by rw [List.length_map];exact hl) (fun t ht=>by
   obtain ⟨n,hn,rfl⟩:=List.mem_map.1 ht
   exact hlo n hn) (σ:=τ') (nx:=ny) (r:=q) g5 h1
  have htg:together l=(⟨(joinL (l.map fun n=>n.s)).1,costL l,[]⟩,(joinL (l.map fun n=>n.s)).2):=rfl
  generalize together l=TG at *
  generalize joinL (l.map fun n=>n.s)=J at *
  generalize costL l=c at *
  subst htg
  simp [go_sem]
  refine K_call rfl rfl rfl (args:=[.ref q]) (f:=257) (by simp [go_sem]) (by simp [go_sem,hB]) (hjs _ (by rw [List.map_map];exact g3)) ?_
  refine K_run hB 100 ?_
  simp [go_sem,State.a,State.cs,g2,g6,nodeC]
  exact ⟨by omega,fun i h=>by simp [show ¬i=nx by omega,show ¬i=nx+1 by omega,g7 i h],rfl⟩
end Go.Proofs.YtnoifgjiipgpoaaGreatDoor

set_option maxRecDepth 4000
set_option maxHeartbeats 1000000
namespace Go.Proofs.YtnoifgjiipgpoaaGreatDoor
open Go Go.Proofs.YtnoifgjiipgpoaaGreatDoor.R
theorem nodup_inj {α:Type} {l:List α} (h:l.Nodup) {i j:Nat} (hi:i<l.length) (hj:j<l.length) (e:l[i]=l[j]):i=j:=by
 rcases Nat.lt_trichotomy i j with h1 | h1 | h1
 ·exact absurd e (List.pairwise_iff_getElem.1 h i j hi hj h1)
 ·exact h1
 ·exact absurd e.symm (List.pairwise_iff_getElem.1 h j i hj hi h1)
theorem nodup_set {α:Type} {l:List α} (h:l.Nodup) {a:α} (hm:a∉l) (i:Nat):(l.set i a).Nodup:=by
 refine List.pairwise_iff_getElem.2 fun j k hj hk hjk=>?_
 rw [List.length_set] at hj hk
 rw [List.getElem_set,List.getElem_set]
 split
 ·split
  ·omega
  ·exact fun e=>hm (e ▸ List.getElem_mem _)
 ·split
  ·exact fun e=>hm (e ▸ List.getElem_mem _)
  ·exact List.pairwise_iff_getElem.1 h j k hj hk hjk
abbrev kv (i:Int):Value:=.int .i64 i
noncomputable def kmap (K:List (Int×Nat)):List (Value×AV):=K.map fun p=>(kv p.1,.ref p.2)
def kfind (i:Int):List (Int×Nat)→Option (Nat×Nat)
 |[]=>none
 |p :: K=>if p.1=i then some (0,p.2) else (kfind i K).map fun r=>(r.1+1,r.2)
def kset (i:Int) (q:Nat) (K:List (Int×Nat)):List (Int×Nat):=match kfind i K with
 |some (j,_)=>K.set j (i,q)
 |none=>K++[(i,q)]
theorem kv_inj {i j:Int}:kv i=kv j↔i=j:=⟨fun h=>by injection h,fun h=>by rw [h]⟩
theorem findM_k (i:Int):∀(K:List (Int×Nat)),findM (kv i) (kmap K)=(kfind i K).map fun r=>(r.1,.ref r.2)
 |[]=>rfl
 |p :: K=>by
  have e:kmap (p :: K)=(kv p.1,.ref p.2) :: kmap K:=rfl
  rw [e,findM,kfind,findM_k i K]
  by_cases h:p.1=i
  ·rw [if_pos (by rw [h]),if_pos h];rfl
  ·rw [if_neg (fun e=>h (kv_inj.1 e)),if_neg h,Option.map_map,Option.map_map]
   rfl
theorem kfind_some {i:Int}:∀{K:List (Int×Nat)} {j q:Nat},kfind i K=some (j,q)→∃h:j<K.length,K[j]=(i,q)
 |[],j,q,h=>by cases h
 |p :: K,j,q,h=>by
  rw [kfind] at h
  split at h
  ·rename_i e
   cases h
   exact ⟨by simp,by rw [←e];rfl⟩
  ·obtain ⟨r,h1,h2⟩:=Option.map_eq_some_iff.1 h
   cases h2
   obtain ⟨h3,h4⟩:=kfind_some h1
   exact ⟨by simp;omega,by simpa using h4⟩
theorem kfind_none {i:Int}:∀{K:List (Int×Nat)},kfind i K=none→i∉K.map Prod.fst
 |[],_=>by simp
 |p :: K,h=>by
  rw [kfind] at h
  split at h
  ·cases h
  ·rename_i e
   have:=kfind_none (Option.map_eq_none_iff.1 h)
   simp only [List.map_cons,List.mem_cons,not_or]
   exact ⟨fun h=>e h.symm,this⟩
theorem setM_k (i:Int) (q:Nat) (K:List (Int×Nat)):setM (kv i) (.ref q) (kmap K)=kmap (kset i q K):=by
 rw [setM,findM_k,kset]
 cases h:kfind i K with
 |none=>simp [kmap]
 |some r=>simp [kmap,List.map_set]
theorem k_tell (i:Int) (K:List (Int×Nat)):TellM P 3 (.i i) (kv i) (kmap K):=by
 intro e he
 obtain ⟨p,hp,rfl⟩:=List.mem_map.1 he
 refine ⟨.i p.1,rfl,?_⟩
 have:eqA P 10000 3 (.i i) (.i p.1)=some (decide (i=p.1)):=by
  simp [eqA,tt3]
 rw [this]
 congr 1
 rw [decide_eq_decide]
 exact ⟨fun h=>by rw [h],fun h=>(kv_inj.1 h).symm⟩
def grp (L:List Node) (i:Int):List Node:=L.filter fun n=>decide (n.s.spot=i)
structure KI (K:List (Int×Nat)) (L:List Node) (σ:Nat→AObj) (base nx:Nat):Prop where
 keys:(K.map Prod.fst).Nodup
 objs:(K.map Prod.snd).Nodup
 rows:∀p∈K,σ p.2= .arr 10 (nodesT (grp L p.1))∧base≤p.2∧p.2<nx
 none:∀i,i∉K.map Prod.fst→grp L i=[]
theorem grp_snoc (L:List Node) (n:Node) (i:Int):grp (L++[n]) i=grp L i++if n.s.spot=i then [n] else []:=by
 rw [grp,List.filter_append,grp]
 congr 1
 by_cases h:n.s.spot=i<;>simp [h]
theorem kset_map {i:Int} {q:Nat} {K:List (Int×Nat)}:((kset i q K).map Prod.fst=K.map Prod.fst∧i∈K.map Prod.fst)∨((kset i q K).map Prod.fst=K.map Prod.fst++[i]∧i∉K.map Prod.fst):=by
 unfold kset
 cases h:kfind i K with
 |none=>exact .inr ⟨by simp,kfind_none h⟩
 |some r=>
  obtain ⟨j,q0⟩:=r
  obtain ⟨h1,h2⟩:=kfind_some h
  refine .inl ⟨?_,List.mem_map.2 ⟨_,List.getElem_mem h1,by rw [h2]⟩⟩
  simp only [List.map_set]
  refine List.ext_getElem (by simp) fun k hk1 hk2=>?_
  rw [List.getElem_set]
  split
  ·rename_i e
   subst e
   rw [List.getElem_map,h2]
  ·rfl
theorem kset_mem {i:Int} {q:Nat} {K:List (Int×Nat)} (hk:(K.map Prod.fst).Nodup) {p:Int×Nat} (hp:p∈kset i q K):p=(i,q)∨(p∈K∧p.1≠i):=by
 unfold kset at hp
 cases h:kfind i K with
 |none=>
  rw [h] at hp
  rcases List.mem_append.1 hp with hp | hp
  ·refine .inr ⟨hp,fun e=>kfind_none h (List.mem_map.2 ⟨p,hp,e⟩)⟩
  ·exact .inl (List.mem_singleton.1 hp)
 |some r=>
  obtain ⟨j,q0⟩:=r
  rw [h] at hp
  obtain ⟨h1,h2⟩:=kfind_some h
  obtain ⟨k,hk1,hk2⟩:=List.getElem_of_mem hp
  simp only [List.length_set] at hk1
  rw [List.getElem_set] at hk2
  split at hk2
  ·exact .inl hk2.symm
  ·rename_i e
   refine .inr ⟨by rw [←hk2];exact List.getElem_mem _,fun e2=>e ?_⟩
   have e3:(K.map Prod.fst)[j]'(by simpa using h1)=(K.map Prod.fst)[k]'(by simpa using hk1):=by
    rw [List.getElem_map,List.getElem_map,h2,hk2,e2]
   exact nodup_inj hk _ _ e3
theorem KI.ne {K:List (Int×Nat)} {L:List Node} {σ:Nat→AObj} {base nx:Nat} (h:KI K L σ base nx) {a b:Int×Nat} (ha:a∈K) (hb:b∈K) (hne:a.1≠b.1):a.2≠b.2:=by
 intro e
 obtain ⟨j,hj1,hj2⟩:=List.getElem_of_mem ha
 obtain ⟨k,hk1,hk2⟩:=List.getElem_of_mem hb
 have e3:(K.map Prod.snd)[j]'(by simpa using hj1)=(K.map Prod.snd)[k]'(by simpa using hk1):=by
  rw [List.getElem_map,List.getElem_map,hj2,hk2,e]
 have:=nodup_inj h.objs _ _ e3
 subst this
 rw [hj2] at hk2
 exact hne (by rw [hk2])
theorem KI.add {K:List (Int×Nat)} {L:List Node} {σ σ':Nat→AObj} {base nx nx' q:Nat} {n:Node} (h:KI K L σ base nx) (hq:nx≤q∧q<nx') (hb:base≤nx) (hs:∀p∈K,p.1≠n.s.spot→σ' p.2=σ p.2) (hσq:σ' q= .arr 10 (nodesT (grp L n.s.spot++[n]))):
  KI (kset n.s.spot q K) (L++[n]) σ' base nx':=by
 refine ⟨?_,?_,fun p hp=>?_,fun i hi=>?_⟩
 ·rcases kset_map (i:=n.s.spot) (q:=q) (K:=K) with ⟨e,_⟩ | ⟨e,e2⟩
  ·rw [e];exact h.keys
  ·rw [e,List.nodup_append]
   exact ⟨h.keys,by simp,fun a ha b hb=>by rw [List.mem_singleton.1 hb];exact fun e=>e2 (e ▸ ha)⟩
 ·have hlt:∀a∈K.map Prod.snd,a<nx:=fun a ha=>by
   obtain ⟨p,hp,rfl⟩:=List.mem_map.1 ha
   exact (h.rows p hp).2.2
  unfold kset
  cases hf:kfind n.s.spot K with
  |none=>
   simp only [List.map_append,List.map_cons,List.map_nil]
   rw [List.nodup_append]
   exact ⟨h.objs,by simp,fun a ha b hb=>by rw [List.mem_singleton.1 hb];have:=hlt a ha;omega⟩
  |some r=>
   simp only [List.map_set]
   exact nodup_set h.objs (fun hm=>by have:=hlt q hm;omega) _
 ·rcases kset_mem h.keys hp with rfl | ⟨h1,h2⟩
  ·refine ⟨?_,by simp only;omega,hq.2⟩
   rw [grp_snoc,if_pos rfl];exact hσq
  ·obtain ⟨r1,r2,r3⟩:=h.rows p h1
   refine ⟨?_,r2,by omega⟩
   rw [grp_snoc,if_neg (fun e=>h2 e.symm),List.append_nil,hs p h1 h2,r1]
 ·have:i∉K.map Prod.fst∧i≠n.s.spot:=by
   rcases kset_map (i:=n.s.spot) (q:=q) (K:=K) with ⟨e,e2⟩ | ⟨e,e2⟩
   ·rw [e] at hi;exact ⟨hi,fun e3=>hi (e3 ▸ e2)⟩
   ·rw [e] at hi
    simp only [List.mem_append,List.mem_singleton,not_or] at hi
    exact hi
  rw [grp_snoc,if_neg (fun e=>this.2 e.symm),h.none i this.1,List.append_nil]
end Go.Proofs.YtnoifgjiipgpoaaGreatDoor

set_option maxRecDepth 4000
set_option maxHeartbeats 1000000
namespace Go.Proofs.YtnoifgjiipgpoaaGreatDoor
open Go Go.Proofs.YtnoifgjiipgpoaaGreatDoor.R
theorem mostN_eq (x:Inst) (w:Int):max w x.stops.length=(x.mostN w:Int):=by unfold Inst.mostN;omega
theorem most_pure (x:Inst) (w:Int):Pure P 191 [x.a,.i w] (.i (x.mostN w)):=by
 rw [←mostN_eq]
 refine pure_of Tryz.func191 rfl rfl (by simp [Tryz.f191]) (by simp [bnd,bnd.bndL,Inst.a]) (by simp [bnd,bnd.bndL]) fun B hB hnx=>?_
 simp only [Tryz.f191] at hB ⊢
 refine K_run hB 100 ?_
 simp [go_sem,Inst.a]
theorem squeeze_pure (x:Inst) (l:List Node) (w:Int) (hx:x.stops.length<2^31) (hl:l.length<2^31) (hn:∀n∈l,n.Fine):Pure P 193 [x.a,.t (.sl (nodesT l)),.i w] (.t (.sl (nodesT (x.squeeze l w)))):=by
 generalize hR:x.squeeze l w=R
 refine pure_of Tryz.func193 rfl rfl (by simp [Tryz.f193]) (by simp [bnd,bnd.bndL,Inst.a]) (by simp [bnd,bnd.bndL]) fun B hB hnx=>?_
 simp only [Tryz.f193] at hB ⊢
 have hso:=sorted_pure x l hx hl hn
 have hmo:=most_pure x w
 have hfS:∀n∈x.sortN l,n.Fine:=fun n h=>hn n (Inst.sortN_mem.1 h)
 have hSl:=x.sortN_len l
 rw [Inst.squeeze] at hR
 generalize x.sortN l=S at *
 have hM1:x.stops.length≤x.mostN w:=Nat.le_max_right _ _
 generalize x.mostN w=M at *
 have hNl:(nodesT S).length=S.length:=List.length_map _
 refine K_run hB 100 ?_
 simp [go_sem,Inst.a]
 refine K_call rfl rfl rfl (args:=[x.a,.t (.sl (nodesT l))]) (f:=139) (by simp [go_sem,Inst.a]) (by simp [go_sem,hB]) ((hso).spec _ _) ?_
 refine K_run hB 100 ?_
 simp [go_sem]
 refine K_call rfl rfl rfl (args:=[x.a,.i w]) (f:=191) (by simp [go_sem,Inst.a]) (by simp [go_sem,hB]) ((hmo).spec _ _) ?_
 by_cases c1:S.length≤M
 ·rw [if_pos c1] at hR
  subst hR
  refine K_run hB 100 ?_
  simp [go_sem,hNl,c1]
 rw [if_neg c1] at hR
 have hM2:M<2^31:=by omega
 obtain ⟨kp,hkp⟩:∃kp,kp=M-x.stops.length:=⟨_,rfl⟩
 have hkp2:(M:Int)-x.stops.length=kp:=by omega
 have hw1:IntKind.i64.wrap ((M:Int)-x.stops.length)=kp:=by rw [hkp2];exact w64 _ (by omega)
 have hkl:kp<S.length:=by omega
 have hS1:=nodesT_len S
 rw [←hkp] at hR
 have hXd:(nodesT S).drop kp=nodesT (S.drop kp):=by rw [nodesT,nodesT,List.map_drop]
 have hXt:(nodesT S).take kp=nodesT (S.take kp):=by rw [nodesT,nodesT,List.map_take]
 have hrl:(S.drop kp).length=S.length-kp:=List.length_drop
 have hrf:∀n∈S.drop kp,n.Fine:=fun n h=>hfS n (List.mem_of_mem_drop h)
 have hfl:(S.take kp).length≤kp:=by rw [List.length_take];omega
 refine K_run hB 100 ?_
 simp [go_sem,hNl,c1,hw1,if_pos hS1,hkl,Nat.le_of_lt hkl,hXd,hXt]
 generalize S.drop kp=rest at *
 generalize S.take kp=front at *
 have hQl:(nodesT rest).length=rest.length:=List.length_map _
 have hgt:∀(k:Nat) (h:k<rest.length),(nodesT rest)[k]'(by rw [hQl];exact h)=rest[k].t:=fun k h=>nodesT_get rest h
 generalize hX:nodesT rest=X at *
 have hmost:mostLen=4294967296:=rfl
 refine K_loopP (α:=Nat×List (Int×Nat)×(Nat→AObj)×Nat) (fun (k,K,τ,ny)=>k≤rest.length∧KI K (rest.take k) τ 2 ny∧τ 0= .box x.cs∧τ 1= .map (kmap K)∧2≤ny)
  (fun (k,K,τ,ny)=>⟨sl [(3,.ptr 0 0),(9,.fsl (nodesT front)),(10,.mapr 1),(39,.t (.sl X)),(40,.i rest.length),(41,.i k)],τ,ny⟩) (fun a=>rest.length-a.1) (0,[],_,2) ?_ (Imp.slots (by simp [go_sem,hQl]) rfl rfl) ?_
 ·exact ⟨Nat.zero_le _,⟨by simp,by simp,fun p h=>(by cases h),fun i _=>by simp [grp]⟩,by simp [oput,Inst.cs],by simp [oput,kmap],by omega⟩
 rintro ⟨k,K,τ,ny⟩ ⟨g1,g2,g3,g4,g5⟩
 refine K_run hB 60 ?_
 simp [go_sem]
 refine fork_dec (fun hk=>?_) (fun hk=>?_)
 ·have hkk:IntKind.i64.wrap ((k:Int)+1)=((k+1:Nat):Int):=by rw [w64 ((k:Int)+1) (by omega)];rfl
  have hget:∀h:k<X.length,X[k]'h=rest[k].t:=fun h=>hgt k hk
  have htk:rest.take (k+1)=rest.take k++[rest[k]]:=List.take_succ_eq_append_getElem hk
  have hgl:(grp (rest.take k) rest[k].s.spot).length≤k:=by
   refine Nat.le_trans (List.length_filter_le _ _) ?_
   rw [List.length_take];omega
  have hadd:=fun (τ':Nat→AObj) (ny' q:Nat)=>g2.add (n:=rest[k]) (σ':=τ') (nx':=ny') (q:=q)
  rw [←htk] at hadd
  generalize rest[k]=n at *
  have n0:¬0=ny:=by omega
  have n1:¬1=ny:=by omega
  simp [go_sem,hQl,hk,hget,Node.t,n0,n1]
  refine K_drawnF [11,12] [0,1,2,3] rfl (by rw [hB];kernel_rfl) (by kernel_rfl) fun ht hf'=>?_
  refine K_run hB 100 ?_
  simp [go_sem,ht,hf']
  refine K_dLookup (kt:=3) (et:=85) (es:=kmap K) (u:=kv n.s.spot) (m:=1) (r:=match kfind n.s.spot K with | some r=>.ref r.2 | none=>.fsl []) (by simp [go_sem]) rfl tt299 rfl tt85 (by kernel_rfl) (by simp [go_sem]) (by simp [go_sem,g4,n1,show ¬ny=0 by omega]) (by simp [go_sem];rfl) (by simp [go_sem];kernel_rfl) (by simp [go_sem];exact k_tell _ _) ?_ (by simp [ht]) ?_
  ·rw [lookA,findM_k]
   cases kfind n.s.spot K with
   |none=>simp [go_sem]
   |some r=>simp
  have hcap1:1≤mostLen:=by decide
  cases hf:kfind n.s.spot K with
  |none=>
   have hgr:grp (rest.take k) n.s.spot=[]:=g2.none _ (kfind_none hf)
   refine K_run hB 100 ?_
   simp [go_sem,ht,hf',n0,n1,hcap1]
   refine K_dTold (fun ho=>does_mapSet (P:=P) (n:=B.n) (kt:=3) (et:=85) (es:=kmap K) (u:=kv n.s.spot) (q:=1) ho (by simp [go_sem]) rfl tt299 rfl (by kernel_rfl) (by simp [go_sem]) (by simp [go_sem,g4,n1,show ¬ny=0 by omega]) (by simp [go_sem];rfl) (by simp [go_sem];kernel_rfl) (by simp [go_sem];exact k_tell _ _) (.inr (by simp [Instr.sameBits]))) (by simp) (fun q hq=>by rw [List.mem_singleton.1 hq];exact .inl (by kernel_rfl)) ?_
   refine K_run hB 100 ?_
   simp [go_sem,ht,hf',hkk,setM_k]
   refine Next.mk (k+1,kset n.s.spot (ny+1) K,_,ny+2) ?_ (Imp.slots (by simp [go_sem]) rfl rfl) (by simp only;omega)
   refine ⟨by simp only;omega,?_,by simp [oput,g3,n0],by simp [oput],by simp only;omega⟩
   refine hadd _ (ny+2) (ny+1) ⟨by omega,by omega⟩ g5 (fun p hp hne=>?_) ?_
   ·obtain ⟨_,s2,s3⟩:=g2.rows p hp
    simp [oput,show ¬p.2=ny by omega,show ¬p.2=1 by omega,show ¬p.2=ny+1 by omega]
   ·rw [hgr]
    simp [oput,nodesT,Node.t,show ¬ny=0 by omega]
  |some r=>
   obtain ⟨j,q⟩:=r
   obtain ⟨hj1,hj2⟩:=kfind_some hf
   have hmem:(n.s.spot,q)∈K:=hj2 ▸ List.getElem_mem hj1
   obtain ⟨r1,r2,r3⟩:=g2.rows (n.s.spot,q) hmem
   simp only at r1 r2 r3
   have n2:¬q=ny:=by omega
   have n3:¬1=q:=by omega
   have n4:¬0=q:=by omega
   have n5:¬ny=q:=by omega
   have hcap2:(nodesT (grp (rest.take k) n.s.spot)).length+1≤mostLen:=by rw [nodesT,List.length_map];omega
   refine K_run hB 100 ?_
   simp [go_sem,ht,hf',n0,n1,n2,n5,r1,hcap2]
   refine K_dTold (fun ho=>does_mapSet (P:=P) (n:=B.n) (kt:=3) (et:=85) (es:=kmap K) (u:=kv n.s.spot) (q:=1) ho (by simp [go_sem]) rfl tt299 rfl (by kernel_rfl) (by simp [go_sem]) (by simp [go_sem,g4,n1,n3,n4,show ¬ny=0 by omega]) (by simp [go_sem];rfl) (by simp [go_sem];kernel_rfl) (by simp [go_sem];exact k_tell _ _) (.inr (by simp [Instr.sameBits]))) (by simp) (fun q hq=>by rw [List.mem_singleton.1 hq];exact .inl (by kernel_rfl)) ?_
   refine K_run hB 100 ?_
   simp [go_sem,ht,hf',hkk,setM_k]
   refine Next.mk (k+1,kset n.s.spot (ny+1) K,_,ny+2) ?_ (Imp.slots (by simp [go_sem]) rfl rfl) (by simp only;omega)
   refine ⟨by simp only;omega,?_,by simp [oput,g3,n0,n4],by simp [oput],by simp only;omega⟩
   refine hadd _ (ny+2) (ny+1) ⟨by omega,by omega⟩ g5 (fun p hp hne=>?_) ?_
   ·obtain ⟨_,s2,s3⟩:=g2.rows p hp
    have:=g2.ne hp hmem hne
    simp only at this
    simp [oput,show ¬p.2=ny by omega,show ¬p.2=1 by omega,show ¬p.2=ny+1 by omega,this]
   ·simp [oput,nodesT,Node.t,show ¬ny=0 by omega]
 ·have:k=rest.length:=by omega
  subst this
  rw [List.take_length] at g2
  simp [go_sem,g3]
  have hok:∀(L:List Node),(∀n∈L,n∈rest)→∀n∈L,n.s.ok:=fun L h n hn=>(hrf n (h n hn)).ok
  refine K_loopP (α:=Nat×AV×List Node×(Nat→AObj)×Nat) (fun (i,A,out,τ',my)=>i≤x.stops.length∧(A= .fsl (nodesT out)∨∃q,A= .ref q∧τ' q= .arr 10 (nodesT out)∧ny≤q∧q<my)∧(out++((List.range x.stops.length).drop i).flatMap (oneAt rest)=R∧out.length≤kp+i)∧τ' 1= .map (kmap K)∧ny≤my∧∀p∈K,τ' p.2=τ p.2)
   (fun (i,A,out,τ',my)=>⟨sl [(9,A),(10,.mapr 1),(60,.i x.stops.length),(61,.i i)],τ',my⟩) (fun a=>x.stops.length-a.1) (0,.fsl (nodesT front),front,τ,ny) ?_ (Imp.slots (by simp [go_sem]) rfl rfl) ?_
  ·exact ⟨Nat.zero_le _,.inl rfl,⟨hR,hfl⟩,g4,Nat.le_refl _,fun p _=>rfl⟩
  rintro ⟨i,A,out,τ',my⟩ ⟨f1,f2,⟨f3,f3'⟩,f4,f5,f6⟩
  refine K_run hB 60 ?_
  simp [go_sem]
  refine fork_dec (fun hi=>?_) (fun hi=>?_)
  ·have hii:IntKind.i64.wrap ((i:Int)+1)=((i+1:Nat):Int):=by rw [w64 ((i:Int)+1) (by omega)];rfl
   rw [List.drop_eq_getElem_cons (by rw [List.length_range];exact hi),List.getElem_range,List.flatMap_cons,←List.append_assoc] at f3
   have hone:oneAt rest i=if (together (grp rest i)).2=true then [(together (grp rest i)).1] else []:=rfl
   have htg:=fun (τ2:Nat→AObj) (m2 q:Nat) (h1:q<m2) (h2:τ2 q= .arr 10 (nodesT (grp rest i)))=>together_spec (grp rest i) (Nat.lt_of_le_of_lt (List.length_filter_le _ _) (by omega)) (hok _ fun n hn=>(List.mem_filter.1 hn).1) (σ:=τ2) (nx:=m2) (r:=q) h1 h2
   simp [go_sem]
   refine K_lookup (kt:=3) (et:=85) (es:=kmap K) (u:=kv i) (m:=1) (r:=match kfind i K with | some r=>.ref r.2 | none=>.fsl []) rfl rfl (by simp [go_sem,hB]) tt299 rfl tt85 (by kernel_rfl) (by simp [go_sem]) (by simp [go_sem,f4]) (by simp [go_sem];rfl) (by simp [go_sem];kernel_rfl) (by simp [go_sem];exact k_tell _ _) ?_ ?_
   ·rw [lookA,findM_k]
    cases kfind i K with
    |none=>simp [go_sem]
    |some r=>simp
   refine K_impE (α:=Nat×(Nat→AObj)×Nat) (fun (q,τ2,m2)=>my≤m2∧q<m2∧τ2 q= .arr 10 (nodesT (grp rest i))∧∀j,j<my→τ2 j=τ' j) (fun (q,τ2,m2)=>⟨sl [(9,A),(10,.mapr 1),(60,.i x.stops.length),(61,.i i),(67,.ref q)],τ2,m2⟩) ?_ ?_
   ·cases hf:kfind i K with
    |none=>
     have hgr:grp rest i=[]:=g2.none _ (kfind_none hf)
     refine ⟨(my,_,my+1),⟨by omega,by omega,?_,?_⟩,(Imp.own (t:=67) (sz:=10) (by simp [go_sem])).trans (Imp.slots (by simp [go_sem]) rfl rfl)⟩
     ·rw [hgr];simp [oput,nodesT]
     ·intro j hj;simp [oput,show ¬j=my by omega]
    |some r=>
     obtain ⟨j,q⟩:=r
     obtain ⟨hj1,hj2⟩:=kfind_some hf
     have hmem:((i:Int),q)∈K:=hj2 ▸ List.getElem_mem hj1
     obtain ⟨r1,r2,r3⟩:=g2.rows _ hmem
     refine ⟨(q,_,my),⟨Nat.le_refl _,by simp only at r3 ⊢;omega,?_,fun _ _=>rfl⟩,Imp.slots (by simp [go_sem]) rfl rfl⟩
     exact (f6 _ hmem).trans r1
   rintro ⟨q,τ2,m2⟩ ⟨e1,e2,e3,e4⟩
   refine K_call rfl rfl rfl (args:=[.ref q]) (f:=228) (by simp [go_sem]) (by simp [go_sem,hB]) (htg _ _ _ e2 e3) ?_
   generalize together (grp rest i)=TG at *
   obtain ⟨tn,tb⟩:=TG
   have hcap1:1≤mostLen:=by decide
   have hcap2:(nodesT out).length+1≤mostLen:=by rw [nodesT,List.length_map];omega
   have m1:¬1=m2:=by omega
   have m0:¬1=m2+1:=by omega
   have hlow:∀j,ny≤j→j≠1:=fun j h=>by omega
   cases tb with
   |false=>
    rw [hone,if_neg (by simp),List.append_nil] at f3
    refine K_run hB 100 ?_
    simp [go_sem,Node.a,Node.cs,hii]
    refine Next.mk (i+1,A,out,_,m2+1) ?_ (Imp.slots (by simp [go_sem]) rfl rfl) (by simp only;omega)
    refine ⟨by simp only;omega,?_,⟨f3,by simp only;omega⟩,by simp [oput,m1,e4 1 (by omega),f4],by simp only;omega,?_⟩
    ·rcases f2 with f2 | ⟨q',f2,f7,f8,f9⟩
     ·exact .inl f2
     ·exact .inr ⟨q',f2,by simp [oput,show ¬q'=m2 by omega,e4 q' f9,f7],f8,by simp only;omega⟩
    ·intro a b hab
     have h1:=(g2.rows _ hab).2.2
     have h2:=f6 _ hab
     simp only at h1 h2
     simp [oput,show ¬b=m2 by omega,e4 b (by omega),h2]
   |true=>
    rw [hone,if_pos (by simp)] at f3
    simp only at f3
    have hsn:nodesT (out++[tn])=nodesT out++[tn.t]:=by simp [nodesT]
    rcases f2 with f2 | ⟨q',f2,f7,f8,f9⟩
    ·subst f2
     refine K_run hB 100 ?_
     simp [go_sem,Node.a,Node.cs,hcap1,hcap2,hii,if_pos (nodesT_len out)]
     refine Next.mk (i+1,.ref (m2+1),out++[tn],_,m2+2) ?_ (Imp.slots (by simp [go_sem]) rfl rfl) (by simp only;omega)
     refine ⟨by simp only;omega,.inr ⟨m2+1,rfl,?_,by omega,by simp only;omega⟩,⟨f3,by simp only [List.length_append,List.length_cons,List.length_nil];omega⟩,by simp [oput,m1,m0,e4 1 (by omega),f4,show ¬m2=0 by omega],by simp only;omega,?_⟩
     ·rw [hsn];simp [oput,Node.t]
     ·intro a b hab
      have h1:=(g2.rows _ hab).2.2
      have h2:=f6 _ hab
      simp only at h1 h2
      simp [oput,show ¬b=m2 by omega,show ¬b=m2+1 by omega,e4 b (by omega),h2]
    ·subst f2
     have hq1:¬q'=m2:=by omega
     have hq2:¬m2=q':=by omega
     have hq3:¬1=q':=by omega
     refine K_run hB 100 ?_
     simp [go_sem,Node.a,Node.cs,hcap1,hcap2,hii,hq1,e4 q' f9,f7]
     refine Next.mk (i+1,.ref (m2+1),out++[tn],_,m2+2) ?_ (Imp.slots (by simp [go_sem]) rfl rfl) (by simp only;omega)
     refine ⟨by simp only;omega,.inr ⟨m2+1,rfl,?_,by omega,by simp only;omega⟩,⟨f3,by simp only [List.length_append,List.length_cons,List.length_nil];omega⟩,by simp [oput,m1,m0,hq3,e4 1 (by omega),f4,show ¬m2=0 by omega],by simp only;omega,?_⟩
     ·rw [hsn];simp [oput,Node.t]
     ·intro a b hab
      have h1:=(g2.rows _ hab).2.2
      have h2:=f6 _ hab
      simp only at h1 h2
      simp [oput,show ¬b=m2 by omega,show ¬b=m2+1 by omega,show ¬b=q' by omega,e4 b (by omega),h2]
  ·have:i=x.stops.length:=by omega
   subst this
   rw [List.drop_of_length_le (by simp),List.flatMap_nil,List.append_nil] at f3
   subst f3
   rcases f2 with f2 | ⟨q',f2,f7,f8,f9⟩
   ·subst f2
    simp [go_sem]
   ·subst f2
    simp [go_sem,f7]
end Go.Proofs.YtnoifgjiipgpoaaGreatDoor

set_option maxRecDepth 4000
set_option maxHeartbeats 1000000
namespace Go.Proofs.YtnoifgjiipgpoaaGreatDoor
open Go Go.Proofs.YtnoifgjiipgpoaaGreatDoor.R
theorem cloneN_spec (l:List Node) (hl:l.length<4294967296) (σ:Nat→AObj) (nx:Nat):CallSpec P 227 [.t (.sl (nodesT l))] σ nx (.ref nx) (oput σ nx (.arr 10 (nodesT l))) (nx+1):=by
 refine CallQ.spec (spec_of Tryz.func227 rfl rfl (by simp [Tryz.f227]) fun B hB hnx hσ=>K_after ?_)
 simp only [Tryz.f227] at hB ⊢
 have hil:(nodesT l).length=l.length:=List.length_map _
 have hne:nodesT l=[]↔l=[]:=by simp [nodesT]
 have h1:=nodesT_len l
 have hmost:l.length≤mostLen:=by show l.length≤4294967296;omega
 refine K_run hB 100 ?_
 simp [go_sem]
 refine K_nilEq (es:=nodesT l) rfl rfl (by simp [go_sem,hB]) tt85 rfl (by simp [go_sem]) fun b hb=>?_
 cases b with
 |true=>
  have e:l=[]:=Decidable.byContradiction fun h=>by have:=hb (fun h'=>h (hne.1 h'));cases this
  have e2:nodesT l=[]:=hne.2 e
  refine K_run hB 100 ?_
  simp [go_sem]
  refine ⟨_,fun a w hr=>rel_own (t:=2) (sz:=10) (by simp [go_sem]) hr,?_⟩
  simp [go_sem,e2]
 |false=>
  refine K_run hB 100 ?_
  simp [go_sem,hil,hne,hmost,if_pos h1]
  refine ⟨_,Imp.self,?_⟩
  simp [go_sem]
theorem ownN_pure (l:List Node) (hl:l.length<2^31) (hp:∀n∈l,n.path.length<2^31):Pure P 192 [.t (.sl (nodesT l))] (.t (.sl (nodesT l))):=by
 refine pure_of Tryz.func192 rfl rfl (by simp [Tryz.f192]) (by simp [bnd,bnd.bndL]) (by simp [bnd,bnd.bndL]) fun B hB hnx=>?_
 simp only [Tryz.f192] at hB ⊢
 have hil:(nodesT l).length=l.length:=List.length_map _
 have hgt:∀(k:Nat) (h:k<l.length),(nodesT l)[k]'(by rw [hil];exact h)=l[k].t:=fun k h=>nodesT_get l h
 refine K_run hB 100 ?_
 simp [go_sem]
 refine K_call rfl rfl rfl (args:=[.t (.sl (nodesT l))]) (f:=227) (by simp [go_sem]) (by simp [go_sem,hB]) (cloneN_spec l (by omega) _ _) ?_
 refine K_run hB 100 ?_
 simp [go_sem,hil]
 refine K_loopP (α:=Nat×(Nat→AObj)×Nat) (fun (k,τ,ny)=>k≤l.length∧τ 0= .arr 10 (nodesT l)∧0<ny) (fun (k,τ,ny)=>⟨sl [(0,.ref 0),(7,.ref 0),(8,.i l.length),(9,.i k)],τ,ny⟩) (fun a=>l.length-a.1) (0,_,1) ⟨Nat.zero_le _,by simp [oput],by omega⟩ (Imp.slots (by simp [go_sem]) rfl rfl) ?_
 rintro ⟨k,τ,ny⟩ ⟨g1,g2,g3⟩
 refine K_run hB 60 ?_
 simp [go_sem]
 refine fork_dec (fun hk=>?_) (fun hk=>?_)
 ·have hkk:IntKind.i64.wrap ((k:Int)+1)=((k+1:Nat):Int):=by rw [w64 ((k:Int)+1) (by omega)];rfl
  have hget:∀h:k<(nodesT l).length,(nodesT l)[k]'h=l[k].t:=fun h=>hgt k hk
  have hpk:=hp l[k] (List.getElem_mem _)
  have hset:∀y,y=l[k].t→(nodesT l).set k y=nodesT l:=fun y hy=>by
   subst hy
   refine List.ext_getElem (by simp) fun i h1 h2=>?_
   rw [List.getElem_set]
   split
   ·rename_i e;subst e;exact (hget h2).symm
   ·rfl
  generalize hm:l[k]=m at *
  have n0:¬0=ny:=by omega
  have q1:(k*10+9) / 10=k:=by omega
  have q2:(k*10+9) % 10=9:=by omega
  simp [go_sem,hil,hk,hget,Node.t,g2,n0]
  refine K_call rfl rfl rfl (args:=[.t (.sl (ints m.path))]) (f:=93) (by simp [go_sem]) (by simp [go_sem,hB]) (clone_spec m.path (by omega) _ _) ?_
  refine K_imp ((Imp.freeze (q:=ny+1) (sz:=1) (es:=ints m.path) (by simp [oput])).trans (Imp.slots (l:=[(0,.ref 0),(7,.ref 0),(8,.i l.length),(9,.i k),(14,.ref 0),(15,.i k),(18,.t (.sl (ints m.path)))]) (by simp [go_sem,frz1]) rfl rfl)) ?_
  have hfz:frzO (ny+1) (ints m.path) (.arr 10 (nodesT l))= .arr 10 (nodesT l):=rfl
  refine K_run hB 100 ?_
  simp [go_sem,g2,n0,hil,hk,hget,Node.t,q1,q2,hfz,hkk,show ¬ny=0 by omega]
  refine Next.mk (k+1,_,ny+2) ⟨by simp only;omega,?_,by simp only;omega⟩ (Imp.slots (by simp [go_sem]) rfl rfl) (by simp only;omega)
  simp only [oput,if_true]
  exact congrArg (AObj.arr 10) (hset _ rfl)
 ·have:k=l.length:=by omega
  subst this
  simp [go_sem,g2]
theorem over_spec (x:Inst) (w:Int) (l:List Node) {σ:Nat→AObj} {nx a b:Nat} (ha:a<nx) (hb:b<nx) (h1:σ a= .box x.cs) (h2:σ b= .box [.i w]):
  CallSpec P 190 [.t (.sl (nodesT l)),.ptr a 0,.ptr b 0] σ nx (.b (decide (x.mostN w<l.length))) σ nx:=by
 refine spec_keep Tryz.func190 rfl rfl (by simp [Tryz.f190]) (by simp [bnd]) fun hk B hB hnx hσB=>?_
 simp only [Tryz.f190] at hB ⊢
 have hm:=most_pure x w
 have hil:(nodesT l).length=l.length:=List.length_map _
 generalize x.mostN w=M at *
 refine K_run hB 100 ?_
 simp [go_sem,h1,h2,hil,Inst.cs]
 refine K_call rfl rfl rfl (args:=[x.a,.i w]) (f:=191) (by simp [go_sem,Inst.a]) (by simp [go_sem,hB]) ((hm).spec _ _) ?_
 refine K_run hB 100 ?_
 simp [go_sem]
end Go.Proofs.YtnoifgjiipgpoaaGreatDoor

set_option maxRecDepth 4000
set_option maxHeartbeats 2000000
namespace Go.Proofs.YtnoifgjiipgpoaaGreatDoor
open Go Go.Proofs.YtnoifgjiipgpoaaGreatDoor.R
def lysT (ls:List (List Node)):List (List T):=ls.map fun l=>[.sl (nodesT l)]
def Diag.cs (d:Diag):List AV:=[.t (.sl (lysT d.layers)),.i d.low,.b d.exact,.i d.sure]
def Diag.a (d:Diag):AV:=.agg d.cs
structure WFine (l:List Node) (K:Nat):Prop where
 ok:∀n∈l,n.s.ok
 path:∀n∈l,n.path.length≤K
theorem WFine.next {x:Inst} {l:List Node} {K:Nat} (h:WFine l K) (up:Int):WFine (x.next l up) (K+1):=by
 refine ⟨?_,?_⟩<;>(intro m hm;obtain ⟨n,hn,j,hj,rfl,_⟩:=next_mem hm)
 ·exact move_ok x j (h.ok n hn)
 ·have:=h.path n hn
  show (n.path++[j]).length≤K+1
  rw [List.length_append]
  simp only [List.length_cons,List.length_nil]
  omega
theorem fold_ok:∀(l:List State) (s:State),s.ok→(∀t∈l,t.ok)→(l.foldl State.join s).ok
 |[],s,h,_=>h
 |t :: l,s,h,k=>fold_ok l (s.join t) (join_ok h (k t List.mem_cons_self)) fun u hu=>k u (List.mem_cons_of_mem _ hu)
theorem joinL_ok {l:List State} (h:∀t∈l,t.ok):(joinL l).1.ok:=by
 cases l with
 |nil=>exact State.zero_ok
 |cons s l=>
  rw [joinL]
  split
  ·exact State.zero_ok
  ·exact fold_ok l s (h s List.mem_cons_self) fun t ht=>h t (List.mem_cons_of_mem _ ht)
theorem WFine.squeeze {x:Inst} {l:List Node} {K:Nat} (h:WFine l K) (w:Int):WFine (x.squeeze l w) K:=by
 refine ⟨fun m hm=>?_,fun m hm=>?_⟩
 ·rcases squeeze_mem hm with hm | ⟨i,g,h1,h2,h3,rfl⟩
  ·exact h.ok m hm
  ·exact joinL_ok fun t ht=>by
    obtain ⟨q,hq,rfl⟩:=List.mem_map.1 ht
    exact h.ok q (h3 q hq).1
 ·rcases squeeze_mem hm with hm | ⟨i,g,h1,h2,h3,rfl⟩
  ·exact h.path m hm
  ·exact Nat.zero_le _
theorem deep_le (x:Inst):0≤x.deep∧x.deep≤39:=by
 unfold Inst.deep
 split
 ·rename_i hm
  obtain ⟨p,hx⟩:=x.fit hm
  have:=hx.pairs
  have:=hx.few
  have:=hx.cars
  omega
 ·omega
theorem next_few {x:Inst} {l:List Node} {up w:Int} (hw:w≤3000) (h:(x.next l up).length≤x.mostN w):(x.next l up).length≤3000:=by
 cases hm:x.may with
 |true=>
  obtain ⟨p,hx⟩:=x.fit hm
  have:=hx.len
  have:=hx.few
  unfold Inst.mostN at h
  omega
 |false=>
  have:x.next l up=[]:=by
   refine List.eq_nil_iff_forall_not_mem.2 fun m hm2=>?_
   obtain ⟨n,hn,j,hj,_⟩:=next_mem hm2
   have:=(move_may (moves_mem hj)).1
   rw [hm] at this;cases this
  rw [this];simp
theorem most_few {x:Inst} {l:List Node} {up w:Int} (hw:w≤3000) (h:x.mostN w<(x.next l up).length):x.mostN w≤3000:=by
 cases hm:x.may with
 |true=>
  obtain ⟨p,hx⟩:=x.fit hm
  have:=hx.len
  have:=hx.few
  unfold Inst.mostN
  omega
 |false=>
  have:x.next l up=[]:=by
   refine List.eq_nil_iff_forall_not_mem.2 fun m hm2=>?_
   obtain ⟨n,hn,j,hj,_⟩:=next_mem hm2
   have:=(move_may (moves_mem hj)).1
   rw [hm] at this;cases this
  rw [this] at h;simp at h
theorem build_pure (x:Inst) (n:Node) (w up:Int) (hl:x.stops.length<2^31) (hw:w≤3000) (ho:n.s.ok) (hp:n.path.length<2^29):Pure P 140 [x.a,n.a,.i w,.i up] ((x.build n w up).a):=by
 generalize hR:x.build n w up=R
 refine pure_of Tryz.func140 rfl rfl (by simp [Tryz.f140]) (by simp [bnd,bnd.bndL,Inst.a,Node.a,Node.cs]) (by simp [bnd,bnd.bndL,Diag.a,Diag.cs]) fun B hB hnx=>?_
 simp only [Tryz.f140] at hB ⊢
 have hdeep:=deep_pure x (by omega)
 have hdl:=deep_le x
 have hown:=ownN_pure [n] (by simp) (fun m hm=>by rw [List.mem_singleton.1 hm];omega)
 rw [Inst.build] at hR
 have hwd:IntKind.i64.wrap (x.deep-n.path.length)=x.deep-n.path.length:=w64 _ (by omega)
 generalize hdp:x.deep-(n.path.length:Int)=dp at *
 have hnl:(ints n.path).length=n.path.length:=List.length_map _
 refine K_run hB 100 ?_
 simp [go_sem,Inst.a,Node.a,Node.cs]
 refine K_scope ?_
 refine K_run hB 100 ?_
 simp [go_sem]
 refine K_drawn [] rfl (by rw [hB];kernel_rfl) ?_
 refine K_run hB 100 ?_
 simp [go_sem]
 refine K_dCallP rfl rfl rfl (args:=[x.a]) (f:=159) (by simp [go_sem,Inst.a]) (hdeep) ?_
 refine K_run hB 100 ?_
 simp [go_sem,hnl,hdp,hwd]
 refine K_call rfl rfl rfl (args:=[.fsl [n.t]]) (f:=192) (by simp [go_sem,Node.t]) (by simp [go_sem,hB]) ((Pure.loose hown (by simp [bnd])).spec _ _) ?_
 refine K_run hB 100 ?_
 simp [go_sem]
 refine K_less (Imp.ownB (b:=4) (off:=0) (sz:=1) (cs:=[.fsl [],.i up,.b true,.i 0]) (by simp [oput]) rfl) ?_
 refine K_loopP (α:=Nat×List (List Node)×Int×Option Nat×List Node×Nat×(Nat→AObj)×Nat) (fun (f,ls,low,sq,l,q,τ,ny)=>x.buildGo w up dp f ls low sq l=R∧(f:Int)+ls.length≥dp+2∧((ls.length:Int)≤dp∨ls=[])∧1≤f∧WFine l (n.path.length+ls.length)∧l.length≤3000∧τ 0= .box x.cs∧τ 2= .box [.i w]∧τ 3= .box [.fsl [],.i 0,.b false,.i 0]∧τ 4= .box [.ref q,.i low,.b sq.isNone,.i (sq.getD 0:Nat)]∧τ q= .arr 1 (lysT ls)∧4<q∧q<ny)
  (fun (f,ls,low,sq,l,q,τ,ny)=>⟨sl [(3,.i up),(4,.ptr 0 0),(6,.ptr 2 0),(8,.ptr 3 0),(9,.ptr 4 0),(10,.fn (.func 190) [] [.ptr 0 0,.ptr 2 0]),(11,.i dp),(12,.t (.sl (nodesT l)))],τ,ny⟩) (fun a=>a.1) (dp.toNat+2,[],up,none,[n],5,_,6) ?_ (Imp.slots (by simp [go_sem]) rfl rfl) ?_
 ·refine ⟨hR,by simp only [List.length_nil];omega,.inr rfl,by omega,⟨fun m hm=>by rw [List.mem_singleton.1 hm];exact ho,fun m hm=>by rw [List.mem_singleton.1 hm];omega⟩,by simp,by simp [oput,Inst.cs],by simp [oput],by simp [oput],by simp [oput,setCells],by simp [oput,lysT],by omega,by omega⟩
 clear hR
 rintro ⟨f,ls,low,sq,l,q,τ,ny⟩ ⟨hR,g1,g2,g3,g4,g5,h0,h2,h3,h4,h5,h6,h7⟩
 obtain ⟨f,rfl⟩:∃f',f=f'+1:=⟨f-1,by omega⟩
 have hil:(nodesT l).length=l.length:=List.length_map _
 have hyl:(lysT ls).length=ls.length:=List.length_map _
 have hls:ls.length≤40:=by
  rcases g2 with g2 | g2
  ·omega
  ·rw [g2];simp
 have n0:¬0=ny:=by omega
 have n2:¬2=ny:=by omega
 have n3:¬3=ny:=by omega
 have n4:¬4=ny:=by omega
 have n5:¬q=3:=by omega
 have n6:¬q=4:=by omega
 rw [Inst.buildGo] at hR
 by_cases c0:l=[]
 ·rw [if_pos c0] at hR
  subst hR
  have c0':l.length=0:=by rw [c0];rfl
  cases sq with
  |none=>
   refine K_run hB 60 ?_
   simp [go_sem,hil,c0',h4,h5,hyl,n5,n6,h3]
   rfl
  |some k=>
   refine K_run hB 60 ?_
   simp [go_sem,hil,c0',h4,h5,hyl,n5,n6,h3]
   rfl
 rw [if_neg c0] at hR
 have c0':0<l.length:=List.length_pos_iff.2 c0
 have hx:=expand_pure x l up hl (by omega) (fun m h=>⟨g4.ok m h,by have:=g4.path m h;omega⟩) (fun m h=>by have:=g4.path m h;omega)
 have hnw:=g4.next (x:=x) up
 have hsn:lysT ls++[[.sl (nodesT l)]]=lysT (ls++[l]):=by simp [lysT]
 have hcap:ls.length+1≤mostLen:=by show _≤4294967296;omega
 have hsl:(lysT (ls++[l])).length=ls.length+1:=by rw [lysT,List.length_map];simp
 have n7:¬4=q:=by omega
 have n8:¬0=q:=by omega
 have n9:¬2=q:=by omega
 have na:¬3=q:=by omega
 generalize x.bests l=Bs at *
 obtain ⟨b,is⟩:=Bs
 have hqs:=squeeze_pure x (x.next l up) w hl (by have:=next_len x l up;omega) (fun m h=>⟨hnw.ok m h,by have:=hnw.path m h;omega⟩)
 have hnf:=next_few (x:=x) (l:=l) (up:=up) hw
 have hmf:=most_few (x:=x) (l:=l) (up:=up) hw
 have hsq:=squeeze_len x (x.next l up) w
 have hsw:=hnw.squeeze (x:=x) w
 generalize x.squeeze (x.next l up) w=Q at *
 generalize x.next l up=M at *
 refine K_run hB 60 ?_
 simp [go_sem,hil,c0',h4,h5,hyl,hsn,hcap,n0,n2,n3,n4,n6,n7,n8,n9,na,h0,Inst.cs]
 refine K_run hB 100 ?_
 simp [go_sem,hil,c0',h4,h5,hyl,hsn,hcap,n0,n2,n3,n4,n6,n7,n8,n9,na,h0,Inst.cs]
 refine K_call rfl rfl rfl (args:=[x.a,.t (.sl (nodesT l)),.i up]) (f:=138) (by simp [go_sem,Inst.a]) (by simp [go_sem,hB]) ((hx).spec _ _) ?_
 have b0:¬ny=0:=by omega
 have b1:¬ny+1=0:=by omega
 have b2:¬ny=1:=by omega
 have b3:¬ny=2:=by omega
 have b4:¬ny=3:=by omega
 have b5:¬ny=4:=by omega
 have b6:¬4=ny+1:=by omega
 have hov:=fun (τ':Nat→AObj) (e1:τ' 0= .box x.cs) (e2:τ' 2= .box [.i w])=>over_spec x w M (σ:=τ') (nx:=ny+2) (a:=0) (b:=2) (by omega) (by omega) e1 e2
 have hwQ:WFine Q (n.path.length+(ls++[l]).length):=by rw [List.length_append];exact hsw
 have hwM:WFine M (n.path.length+(ls++[l]).length):=by rw [List.length_append];exact hnw
 cases is with
 |false=>
  have hlw:lowB low (b,false)=low:=rfl
  rw [hlw] at hR
  by_cases c1:dp<(ls.length:Int)+1
  ·rw [if_pos (by omega)] at hR
   subst hR
   cases sq with
   |none=>
    refine K_run hB 100 ?_
    simp [go_sem,expRes,Node.a,Node.cs,h0,h2,h3,h4,h5,n0,n2,n3,n4,n5,n6,n7,n8,n9,na,b0,b1,b2,b3,b4,b5,b6,hsl,Inst.cs,c1]
    simp [Diag.of,Diag.a,Diag.cs]
   |some k=>
    refine K_run hB 100 ?_
    simp [go_sem,expRes,Node.a,Node.cs,h0,h2,h3,h4,h5,n0,n2,n3,n4,n5,n6,n7,n8,n9,na,b0,b1,b2,b3,b4,b5,b6,hsl,Inst.cs,c1]
    rfl
  rw [if_neg (by omega)] at hR
  refine K_run hB 100 ?_
  simp [go_sem,expRes,Node.a,Node.cs,h0,h2,h3,h4,h5,n0,n2,n3,n4,n5,n6,n7,n8,n9,na,b0,b1,b2,b3,b4,b5,b6,hsl,Inst.cs,c1]
  refine K_call rfl rfl rfl (args:=[.t (.sl (nodesT M)),.ptr 0 0,.ptr 2 0]) (f:=190) (by simp [go_sem]) (by simp [go_sem,hB]) (hov _ (by simp [oput,h0,n0,n8,b0,b1,Inst.cs]) (by simp [oput,h2,n2,n9,b1,b2,b3])) ?_
  by_cases c2:x.mostN w<M.length
  ·rw [if_pos c2] at hR
   refine K_run hB 100 ?_
   simp [go_sem,expRes,Node.a,Node.cs,h0,h2,h3,h4,h5,n0,n2,n3,n4,n5,n6,n7,n8,n9,na,b0,b1,b2,b3,b4,b5,b6,hsl,Inst.cs,c2]
   refine K_call rfl rfl rfl (args:=[x.a,.t (.sl (nodesT M)),.i w]) (f:=193) (by simp [go_sem,Inst.a]) (by simp [go_sem,hB]) ((hqs).spec _ _) ?_
   cases sq with
   |none=>
    refine K_run hB 100 ?_
    simp [go_sem,expRes,Node.a,Node.cs,h0,h2,h3,h4,h5,n0,n2,n3,n4,n5,n6,n7,n8,n9,na,b0,b1,b2,b3,b4,b5,b6,hsl,Inst.cs]
    refine Next.mk (f,ls++[l],low,some (ls.length+1),Q,ny,_,ny+2) ?_ (Imp.slots (by simp [go_sem]) rfl rfl) (by simp only;omega)
    exact ⟨hR,by simp only [List.length_append,List.length_cons,List.length_nil];omega,.inl (by simp only [List.length_append,List.length_cons,List.length_nil];omega),by simp only;omega,hwQ,(by have:=hmf c2;simp only;omega),by simp [oput,h0,h2,h3,h4,n0,n2,n3,n4,n7,n8,n9,na,b0,b1,b2,b3,b4,b5,b6,Inst.cs],by simp [oput,h0,h2,h3,h4,n0,n2,n3,n4,n7,n8,n9,na,b0,b1,b2,b3,b4,b5,b6,Inst.cs],by simp [oput,h0,h2,h3,h4,n0,n2,n3,n4,n7,n8,n9,na,b0,b1,b2,b3,b4,b5,b6,Inst.cs],by simp [oput,h0,h2,h3,h4,n0,n2,n3,n4,n7,n8,n9,na,b0,b1,b2,b3,b4,b5,b6,Inst.cs],by simp [oput,h0,h2,h3,h4,n0,n2,n3,n4,n7,n8,n9,na,b0,b1,b2,b3,b4,b5,b6,Inst.cs],by simp only;omega,by simp only;omega⟩
   |some k=>
    refine K_run hB 100 ?_
    simp [go_sem,expRes,Node.a,Node.cs,h0,h2,h3,h4,h5,n0,n2,n3,n4,n5,n6,n7,n8,n9,na,b0,b1,b2,b3,b4,b5,b6,hsl,Inst.cs]
    refine Next.mk (f,ls++[l],low,some k,Q,ny,_,ny+2) ?_ (Imp.slots (by simp [go_sem]) rfl rfl) (by simp only;omega)
    exact ⟨hR,by simp only [List.length_append,List.length_cons,List.length_nil];omega,.inl (by simp only [List.length_append,List.length_cons,List.length_nil];omega),by simp only;omega,hwQ,(by have:=hmf c2;simp only;omega),by simp [oput,h0,h2,h3,h4,n0,n2,n3,n4,n7,n8,n9,na,b0,b1,b2,b3,b4,b5,b6,Inst.cs],by simp [oput,h0,h2,h3,h4,n0,n2,n3,n4,n7,n8,n9,na,b0,b1,b2,b3,b4,b5,b6,Inst.cs],by simp [oput,h0,h2,h3,h4,n0,n2,n3,n4,n7,n8,n9,na,b0,b1,b2,b3,b4,b5,b6,Inst.cs],by simp [oput,h0,h2,h3,h4,n0,n2,n3,n4,n7,n8,n9,na,b0,b1,b2,b3,b4,b5,b6,Inst.cs],by simp [oput,h0,h2,h3,h4,n0,n2,n3,n4,n7,n8,n9,na,b0,b1,b2,b3,b4,b5,b6,Inst.cs],by simp only;omega,by simp only;omega⟩
  ·rw [if_neg c2] at hR
   refine K_run hB 100 ?_
   simp [go_sem,expRes,Node.a,Node.cs,h0,h2,h3,h4,h5,n0,n2,n3,n4,n5,n6,n7,n8,n9,na,b0,b1,b2,b3,b4,b5,b6,hsl,Inst.cs,c2]
   refine Next.mk (f,ls++[l],low,sq,M,ny,_,ny+2) ?_ (Imp.slots (by simp [go_sem]) rfl rfl) (by simp only;omega)
   exact ⟨hR,by simp only [List.length_append,List.length_cons,List.length_nil];omega,.inl (by simp only [List.length_append,List.length_cons,List.length_nil];omega),by simp only;omega,hwM,(hnf (by omega)),by simp [oput,h0,h2,h3,h4,n0,n2,n3,n4,n7,n8,n9,na,b0,b1,b2,b3,b4,b5,b6,Inst.cs],by simp [oput,h0,h2,h3,h4,n0,n2,n3,n4,n7,n8,n9,na,b0,b1,b2,b3,b4,b5,b6,Inst.cs],by simp [oput,h0,h2,h3,h4,n0,n2,n3,n4,n7,n8,n9,na,b0,b1,b2,b3,b4,b5,b6,Inst.cs],by simp [oput,h0,h2,h3,h4,n0,n2,n3,n4,n7,n8,n9,na,b0,b1,b2,b3,b4,b5,b6,Inst.cs],by simp [oput,h0,h2,h3,h4,n0,n2,n3,n4,n7,n8,n9,na,b0,b1,b2,b3,b4,b5,b6,Inst.cs],by simp only;omega,by simp only;omega⟩
 |true=>
  have hlw:lowB low (b,true)=min low b.cost:=rfl
  rw [hlw] at hR
  by_cases c1:dp<(ls.length:Int)+1
  ·rw [if_pos (by omega)] at hR
   subst hR
   cases sq with
   |none=>
    refine K_run hB 100 ?_
    simp [go_sem,expRes,Node.a,Node.cs,h0,h2,h3,h4,h5,n0,n2,n3,n4,n5,n6,n7,n8,n9,na,b0,b1,b2,b3,b4,b5,b6,hsl,Inst.cs,c1]
    simp [Diag.of,Diag.a,Diag.cs]
   |some k=>
    refine K_run hB 100 ?_
    simp [go_sem,expRes,Node.a,Node.cs,h0,h2,h3,h4,h5,n0,n2,n3,n4,n5,n6,n7,n8,n9,na,b0,b1,b2,b3,b4,b5,b6,hsl,Inst.cs,c1]
    rfl
  rw [if_neg (by omega)] at hR
  refine K_run hB 100 ?_
  simp [go_sem,expRes,Node.a,Node.cs,h0,h2,h3,h4,h5,n0,n2,n3,n4,n5,n6,n7,n8,n9,na,b0,b1,b2,b3,b4,b5,b6,hsl,Inst.cs,c1]
  refine K_call rfl rfl rfl (args:=[.t (.sl (nodesT M)),.ptr 0 0,.ptr 2 0]) (f:=190) (by simp [go_sem]) (by simp [go_sem,hB]) (hov _ (by simp [oput,h0,n0,n8,b0,b1,Inst.cs]) (by simp [oput,h2,n2,n9,b1,b2,b3])) ?_
  by_cases c2:x.mostN w<M.length
  ·rw [if_pos c2] at hR
   refine K_run hB 100 ?_
   simp [go_sem,expRes,Node.a,Node.cs,h0,h2,h3,h4,h5,n0,n2,n3,n4,n5,n6,n7,n8,n9,na,b0,b1,b2,b3,b4,b5,b6,hsl,Inst.cs,c2]
   refine K_call rfl rfl rfl (args:=[x.a,.t (.sl (nodesT M)),.i w]) (f:=193) (by simp [go_sem,Inst.a]) (by simp [go_sem,hB]) ((hqs).spec _ _) ?_
   cases sq with
   |none=>
    refine K_run hB 100 ?_
    simp [go_sem,expRes,Node.a,Node.cs,h0,h2,h3,h4,h5,n0,n2,n3,n4,n5,n6,n7,n8,n9,na,b0,b1,b2,b3,b4,b5,b6,hsl,Inst.cs]
    refine Next.mk (f,ls++[l],min low b.cost,some (ls.length+1),Q,ny,_,ny+2) ?_ (Imp.slots (by simp [go_sem]) rfl rfl) (by simp only;omega)
    exact ⟨hR,by simp only [List.length_append,List.length_cons,List.length_nil];omega,.inl (by simp only [List.length_append,List.length_cons,List.length_nil];omega),by simp only;omega,hwQ,(by have:=hmf c2;simp only;omega),by simp [oput,h0,h2,h3,h4,n0,n2,n3,n4,n7,n8,n9,na,b0,b1,b2,b3,b4,b5,b6,Inst.cs],by simp [oput,h0,h2,h3,h4,n0,n2,n3,n4,n7,n8,n9,na,b0,b1,b2,b3,b4,b5,b6,Inst.cs],by simp [oput,h0,h2,h3,h4,n0,n2,n3,n4,n7,n8,n9,na,b0,b1,b2,b3,b4,b5,b6,Inst.cs],by simp [oput,h0,h2,h3,h4,n0,n2,n3,n4,n7,n8,n9,na,b0,b1,b2,b3,b4,b5,b6,Inst.cs],by simp [oput,h0,h2,h3,h4,n0,n2,n3,n4,n7,n8,n9,na,b0,b1,b2,b3,b4,b5,b6,Inst.cs],by simp only;omega,by simp only;omega⟩
   |some k=>
    refine K_run hB 100 ?_
    simp [go_sem,expRes,Node.a,Node.cs,h0,h2,h3,h4,h5,n0,n2,n3,n4,n5,n6,n7,n8,n9,na,b0,b1,b2,b3,b4,b5,b6,hsl,Inst.cs]
    refine Next.mk (f,ls++[l],min low b.cost,some k,Q,ny,_,ny+2) ?_ (Imp.slots (by simp [go_sem]) rfl rfl) (by simp only;omega)
    exact ⟨hR,by simp only [List.length_append,List.length_cons,List.length_nil];omega,.inl (by simp only [List.length_append,List.length_cons,List.length_nil];omega),by simp only;omega,hwQ,(by have:=hmf c2;simp only;omega),by simp [oput,h0,h2,h3,h4,n0,n2,n3,n4,n7,n8,n9,na,b0,b1,b2,b3,b4,b5,b6,Inst.cs],by simp [oput,h0,h2,h3,h4,n0,n2,n3,n4,n7,n8,n9,na,b0,b1,b2,b3,b4,b5,b6,Inst.cs],by simp [oput,h0,h2,h3,h4,n0,n2,n3,n4,n7,n8,n9,na,b0,b1,b2,b3,b4,b5,b6,Inst.cs],by simp [oput,h0,h2,h3,h4,n0,n2,n3,n4,n7,n8,n9,na,b0,b1,b2,b3,b4,b5,b6,Inst.cs],by simp [oput,h0,h2,h3,h4,n0,n2,n3,n4,n7,n8,n9,na,b0,b1,b2,b3,b4,b5,b6,Inst.cs],by simp only;omega,by simp only;omega⟩
  ·rw [if_neg c2] at hR
   refine K_run hB 100 ?_
   simp [go_sem,expRes,Node.a,Node.cs,h0,h2,h3,h4,h5,n0,n2,n3,n4,n5,n6,n7,n8,n9,na,b0,b1,b2,b3,b4,b5,b6,hsl,Inst.cs,c2]
   refine Next.mk (f,ls++[l],min low b.cost,sq,M,ny,_,ny+2) ?_ (Imp.slots (by simp [go_sem]) rfl rfl) (by simp only;omega)
   exact ⟨hR,by simp only [List.length_append,List.length_cons,List.length_nil];omega,.inl (by simp only [List.length_append,List.length_cons,List.length_nil];omega),by simp only;omega,hwM,(hnf (by omega)),by simp [oput,h0,h2,h3,h4,n0,n2,n3,n4,n7,n8,n9,na,b0,b1,b2,b3,b4,b5,b6,Inst.cs],by simp [oput,h0,h2,h3,h4,n0,n2,n3,n4,n7,n8,n9,na,b0,b1,b2,b3,b4,b5,b6,Inst.cs],by simp [oput,h0,h2,h3,h4,n0,n2,n3,n4,n7,n8,n9,na,b0,b1,b2,b3,b4,b5,b6,Inst.cs],by simp [oput,h0,h2,h3,h4,n0,n2,n3,n4,n7,n8,n9,na,b0,b1,b2,b3,b4,b5,b6,Inst.cs],by simp [oput,h0,h2,h3,h4,n0,n2,n3,n4,n7,n8,n9,na,b0,b1,b2,b3,b4,b5,b6,Inst.cs],by simp only;omega,by simp only;omega⟩
end Go.Proofs.YtnoifgjiipgpoaaGreatDoor

set_option maxRecDepth 4000
set_option maxHeartbeats 1000000
namespace Go.Proofs.YtnoifgjiipgpoaaGreatDoor
open Go Go.Proofs.YtnoifgjiipgpoaaGreatDoor.R
structure Ids where
 s:Nat
 h:Nat
 q:Nat
 sb:Nat
 lg:Nat
def planT (p:List (List Int)):List (List T):=p.map rowT
def Done.t (d:Node×Diag):List T:=d.1.t++[.sl (lysT d.2.layers),.i d.2.low,.v (.bool d.2.exact),.i d.2.sure]
def logT (l:List (Node×Diag)):List (List T):=l.map Done.t
def SS.cs (x:Inst) (o:Opt) (st low:Int) (k:Ids) (s:SS):List AV:=
 [.i x.pairs,.i x.cars,.i x.room,.t (.sl (x.stops.map Stop.t)),.i o.width,.i o.order,.i o.budget,.i st,.t (.sl (planT s.plan)),.i s.up,.i low,.i s.steps,.ref k.lg,.ref k.sb,.ptr k.h 0]
structure SBox (x:Inst) (o:Opt) (st low:Int) (k:Ids) (s:SS) (σ:Nat→AObj) (nx:Nat):Prop where
 box:σ k.s= .box (s.cs x o st low k)
 subs:σ k.sb= .arr 10 (nodesT s.subs)
 log:σ k.lg= .arr 14 (logT s.log)
 sh:k.s≠k.h
 qs:k.q≠k.s∧k.q≠k.h∧k.q≠k.sb∧k.q≠k.lg
 hs:k.h≠k.sb∧k.h≠k.lg
 lt:k.s<nx∧k.h<nx∧k.q<nx∧k.sb<nx∧k.lg<nx
structure Runs (k:Ids) (σ:Nat→AObj) (nx:Nat) (k':Ids) (σ':Nat→AObj) (nx':Nat):Prop where
 le:nx≤nx'
 s:k'.s=k.s
 h:k'.h=k.h
 q:k'.q=k.q∨nx≤k'.q
 sb:k'.sb=k.sb∨nx≤k'.sb
 lg:k'.lg=k.lg∨nx≤k'.lg
 keep:∀i,i<nx→i≠k.s→i≠k.h→i≠k.q→i≠k.sb→i≠k.lg→σ' i=σ i
theorem Runs.refl (k:Ids) (σ:Nat→AObj) (nx:Nat):Runs k σ nx k σ nx:=⟨Nat.le_refl _,rfl,rfl,.inl rfl,.inl rfl,.inl rfl,fun _ _ _ _ _ _ _=>rfl⟩
theorem Runs.trans {k k1 k2:Ids} {σ σ1 σ2:Nat→AObj} {nx nx1 nx2:Nat} (h:Runs k σ nx k1 σ1 nx1) (g:Runs k1 σ1 nx1 k2 σ2 nx2):Runs k σ nx k2 σ2 nx2:=by
 have:=h.le
 have:=h.q
 have:=h.sb
 have:=h.lg
 have:=g.q
 have:=g.sb
 have:=g.lg
 have h1:=h.s
 have h2:=h.h
 refine ⟨Nat.le_trans h.le g.le,g.s.trans h.s,g.h.trans h.h,by omega,by omega,by omega,fun i hi a b c d e=>?_⟩
 rw [g.keep i (by omega) (by omega) (by omega) (by omega) (by omega) (by omega),h.keep i hi a b c d e]
def Only (b:Nat) (σ:Nat→AObj) (nx:Nat) (σ':Nat→AObj) (nx':Nat):Prop:=nx≤nx'∧∀i,i<nx→i≠b→σ' i=σ i
theorem Only.runs {k:Ids} {σ σ':Nat→AObj} {nx nx':Nat} (h:Only k.s σ nx σ' nx'):Runs k σ nx k σ' nx':=⟨h.1,rfl,rfl,.inl rfl,.inl rfl,.inl rfl,fun i a b _ _ _ _=>h.2 i a b⟩
structure SOk (x:Inst) (o:Opt) (k:Ids) (s:SS) (σ:Nat→AObj) (nx:Nat):Prop where
 b:SBox x o 0 0 k s σ nx
 q:∃l,σ k.h= .box [.ref k.q,.i o.order]∧σ k.q= .arr 4 (itemsT o.order l)∧l.Perm s.q∧HeapOK o.order l
theorem SOk.only {x:Inst} {o:Opt} {k:Ids} {s t:SS} {σ σ':Nat→AObj} {nx nx':Nat} (h:SOk x o k s σ nx) (hb:SBox x o 0 0 k t σ' nx') (hq:t.q=s.q) (ho:Only k.s σ nx σ' nx'):SOk x o k t σ' nx':=by
 obtain ⟨l,h1,h2,h3,h4⟩:=h.q
 have:=h.b.lt
 have:=h.b.sh
 have:=h.b.qs
 exact ⟨hb,l,by rw [ho.2 _ (by omega) (by omega)];exact h1,by rw [ho.2 _ (by omega) (by omega)];exact h2,by rw [hq];exact h3,h4⟩
theorem SOk.stay {x:Inst} {o:Opt} {k:Ids} {s:SS} {σ σ':Nat→AObj} {nx nx':Nat} (h:SOk x o k s σ nx) (h1:nx≤nx') (h2:∀i,i<nx→σ' i=σ i):SOk x o k s σ' nx'∧Runs k σ nx k σ' nx':=by
 obtain ⟨⟨b1,b2,b3,b4,b5,b6,b7⟩,l,q1,q2,q3,q4⟩:=h
 refine ⟨⟨⟨?_,?_,?_,b4,b5,b6,by omega⟩,l,?_,?_,q3,q4⟩,h1,rfl,rfl,.inl rfl,.inl rfl,.inl rfl,fun i hi _ _ _ _ _=>h2 i hi⟩
 all_goals rw [h2 _ (by omega)];assumption
theorem offer_spec (x:Inst) (o:Opt) (st low:Int) (k:Ids) (s:SS) (n:Node) (is:Bool) (hp:n.path.length<2^31) {σ:Nat→AObj} {nx:Nat} (hb:SBox x o st low k s σ nx):
  CallQ P 88 [.ptr k.s 0,n.a,.b is] σ nx fun r σ' nx'=>r= .tup []∧SBox x o st low k (s.offer (n,is)) σ' nx'∧Only k.s σ nx σ' nx':=by
 refine spec_of Tryz.func88 rfl rfl (by simp [Tryz.f88]) fun B hB hnx hσB=>?_
 simp only [Tryz.f88] at hB ⊢
 obtain ⟨b1,b2,b3,b4,b5,b6,b7⟩:=hb
 rw [SS.cs] at b1
 have hne:¬k.s=nx:=by omega
 have hne':¬nx=k.s:=by omega
 have hsp:=split_pure n.path hp
 have fin:∀(τ:Nat→AObj) (nx':Nat) (t:SS),nx≤nx'→τ k.s= .box (t.cs x o st low k)→t.subs=s.subs→t.log=s.log→(∀i,i<nx→i≠k.s→τ i=σ i)→SBox x o st low k t τ nx'∧Only k.s σ nx τ nx':=fun τ nx' t h1 h2 h3 h4 h5=>by
  have e1:k.sb≠k.s:=fun e=>by rw [e,b1] at b2;cases b2
  have e2:k.lg≠k.s:=fun e=>by rw [e,b1] at b3;cases b3
  exact ⟨⟨h2,by rw [h3,h5 _ (by omega) e1];exact b2,by rw [h4,h5 _ (by omega) e2];exact b3,b4,b5,b6,by omega⟩,h1,h5⟩
 cases is with
 |false=>
  have e0:s.offer (n,false)=s:=by simp [SS.offer]
  rw [e0]
  refine K_run hB 100 ?_
  simp [go_sem,Node.a,Node.cs,b1,hne]
  refine K_drawn [] rfl (by rw [hB];kernel_rfl) ?_
  refine K_run hB 100 ?_
  simp [go_sem,b1,hne]
  exact fin _ _ _ (by omega) (by simp [oput,hne,b1,SS.cs]) rfl rfl fun i h1 h2=>by simp [oput,show ¬i=nx by omega]
 |true=>
  refine K_run hB 100 ?_
  simp [go_sem,Node.a,Node.cs,b1,hne]
  refine K_drawn [] rfl (by rw [hB];kernel_rfl) ?_
  by_cases c:n.cost<s.up
  ·have e0:s.offer (n,true)={s with up:=n.cost,plan:=(splitR n.path).1}:=by rw [SS.offer,if_pos ⟨rfl,c⟩]
   rw [e0]
   refine K_run hB 100 ?_
   simp [go_sem,b1,hne,hne',c]
   refine K_call rfl rfl rfl (args:=[.t (.sl (ints n.path))]) (f:=137) (by simp [go_sem]) (by simp [go_sem,hB]) ((hsp).spec _ _) ?_
   refine K_run hB 100 ?_
   simp [go_sem,b1,hne,hne',c]
   exact fin _ _ {s with up:=n.cost,plan:=(splitR n.path).1} (by omega) (by simp [oput,hne,SS.cs,planT]) rfl rfl fun i h1 h2=>by simp [oput,show ¬i=nx by omega,h2]
  ·have e0:s.offer (n,true)=s:=by rw [SS.offer,if_neg (fun h=>c h.2)]
   rw [e0]
   refine K_run hB 100 ?_
   simp [go_sem,b1,hne,c]
   exact fin _ _ _ (by omega) (by simp [oput,hne,b1,SS.cs]) rfl rfl fun i h1 h2=>by simp [oput,show ¬i=nx by omega]
theorem push_spec (x:Inst) (o:Opt) (k:Ids) (s:SS) (n:Node) (low:Int) (hx:x.stops.length<2^31) (ho:n.s.ok) (hp:n.path.length<2^31) (hs1:s.subs.length<2^30) (hs2:s.q.length<2^30) {σ:Nat→AObj} {nx:Nat} (hb:SOk x o k s σ nx):
  CallQ P 46 [.ptr k.s 0,n.a,.i low] σ nx fun r σ' nx'=>r= .tup []∧∃k',SOk x o k' (x.push low s n) σ' nx'∧Runs k σ nx k' σ' nx':=by
 refine spec_of Tryz.func46 rfl rfl (by simp [Tryz.f46]) fun B hB hnx hσB=>?_
 simp only [Tryz.f46] at hB ⊢
 have hb0:=hb
 obtain ⟨⟨b1,b2,b3,b4,b5,b6,b7⟩,l,q1,q2,q3,q4⟩:=hb
 rw [SS.cs] at b1
 have hne:¬k.s=nx:=by omega
 have hne':¬nx=k.s:=by omega
 have hne2:¬k.sb=nx:=by omega
 have hof:=of_pure x n hx ho
 have hll:=q3.length_eq
 have hil:(ints n.path).length=n.path.length:=List.length_map _
 have hnl:(nodesT s.subs).length=s.subs.length:=List.length_map _
 obtain ⟨b,hbv⟩:∃b,b=max low (x.of n):=⟨_,rfl⟩
 have hsk:=push_or x low s n
 rw [←hbv] at hsk
 have hpu:=fun (τ:Nat→AObj) (m:Nat)=>hput_spec o.order l ⟨b,n.path.length,s.subs.length⟩ (by omega) (σ:=τ) (nx:=m) (h:=k.h) (q:=k.q)
 have hne3:¬k.h=nx:=by omega
 have hne4:¬k.q=nx:=by omega
 refine K_run hB 100 ?_
 simp [go_sem,Node.a,Node.cs,b1,hne]
 refine K_drawn [] rfl (by rw [hB];kernel_rfl) ?_
 refine K_run hB 100 ?_
 simp [go_sem,Inst.a,b1,hne]
 refine K_dCallP rfl rfl rfl (args:=[x.a,n.a]) (f:=84) (by simp [go_sem,Inst.a,Node.a,Node.cs]) (hof) ?_
 by_cases c:s.up≤b
 ·have e0:x.push low s n=s:=by rcases hsk with ⟨h1,_⟩ | ⟨h1,_⟩<;>first | exact h1 | omega
  rw [e0]
  refine K_run hB 100 ?_
  simp [go_sem,b1,hne,←hbv,c]
  exact ⟨k,hb0.stay (by omega) fun i hi=>by simp [oput,show ¬i=nx by omega]⟩
 ·have e0:x.push low s n={s with q:=s.q++[⟨b,n.path.length,s.subs.length⟩],subs:=s.subs++[n]}:=by rcases hsk with ⟨h1,h2⟩ | ⟨_,h1⟩<;>first | exact h1 | omega
  rw [e0]
  refine K_run hB 100 ?_
  simp [go_sem,b1,hne,←hbv,c]
  refine K_drawnZ [] 14 _ rfl (by rw [hB];kernel_rfl) (by kernel_rfl) rfl ?_
  refine K_run hB 100 ?_
  simp [go_sem,b1,b2,hne,hne2,hil,hnl]
  refine K_callQ rfl rfl rfl (args:=[.ptr k.h 0,.agg [.i b,.i n.path.length,.i s.subs.length]]) (f:=85) (by simp [go_sem]) (by simp [go_sem,hB]) (hpu _ (nx+1) (by omega) (by simp [oput,hne3,q1]) (by omega) (by simp [oput,hne4,q2])) fun r σ' nx' hq=>?_
  obtain ⟨rfl,g1,q',g2,g3,g4,g5,g6⟩:=hq
  have f0:=g6 nx (by omega) (by omega) (by omega)
  have f1:=g6 k.s (by omega) (by omega) (by omega)
  have f2:=g6 k.sb (by omega) (by omega) (by omega)
  simp only [oput,hne,hne2,if_true,if_false,b1,b2] at f0 f1 f2
  have hcap:s.subs.length+1≤mostLen:=by show _≤4294967296;omega
  have happ:nodesT s.subs++[n.t]=nodesT (s.subs++[n]):=by simp [nodesT]
  have hnl2:=nodesT_len s.subs
  have hne5:¬k.s=k.sb:=fun e=>by rw [e,b2] at b1;cases b1
  have hne6:¬k.s=nx':=by omega
  have hne7:¬nx'=k.s:=by omega
  refine K_run hB 100 ?_
  simp [go_sem]
  refine K_drawnF [7,10] [0] rfl (by rw [hB];kernel_rfl) (by kernel_rfl) fun ht hf'=>?_
  refine K_run hB 22 ?_
  simp [go_sem,ht,hf',f0,f1,f2,hne5,hne6,hne7,hcap,hnl,hnl2,Node.t]
  have hls:k.lg≠k.sb:=fun e=>by rw [e,b2] at b3;cases b3
  have hls2:k.lg≠k.s:=fun e=>by rw [e,b1] at b3;cases b3
  have hg:∀(y z:AObj) (i:Nat),i<nx'→i≠k.s→i≠k.sb→oput (oput (oput σ' k.sb .dead) nx' y) k.s z i=σ' i:=fun y z i h1 h2 h3=>by simp [oput,h2,h3,show ¬i=nx' by omega]
  have hk:∀i,i<nx→i≠k.h→i≠k.q→σ' i=σ i:=fun i h1 h2 h3=>by rw [g6 i (by omega) h2 h3];simp [oput,show ¬i=nx by omega]
  refine ⟨by omega,{k with q:=q',sb:=nx'},⟨⟨?_,?_,?_,b4,?_,?_,?_⟩,putH o.order l ⟨b,n.path.length,s.subs.length⟩,?_,?_,(putH_perm _ _ _).trans (q3.append_right _),putH_ok q4 _⟩,?_⟩
  ·simp [oput,SS.cs]
  ·simp [oput,hne7,←happ,Node.t]
  ·exact (hg _ _ _ (by omega) hls2 hls).trans ((hk _ (by omega) (by omega) (by omega)).trans b3)
  ·simp only;omega
  ·simp only;omega
  ·simp only;omega
  ·exact (hg _ _ k.h (by omega) (by omega) (by omega)).trans g4
  ·exact (hg _ _ q' (by omega) (by omega) (by omega)).trans g5
  ·exact ⟨by omega,rfl,rfl,.inr (by simp only;omega),.inr (by simp only;omega),.inl rfl,fun i h1 h2 h3 h4 h5 _=>(hg _ _ i (by omega) h2 h5).trans (hk i h1 h3 h4)⟩
end Go.Proofs.YtnoifgjiipgpoaaGreatDoor

set_option maxRecDepth 4000
set_option maxHeartbeats 2000000
namespace Go.Proofs.YtnoifgjiipgpoaaGreatDoor
open Go Go.Proofs.YtnoifgjiipgpoaaGreatDoor.R
theorem logT_len (l:List (Node×Diag)):∀y∈logT l,y.length=14:=by
 intro y hy
 simp only [logT,List.mem_map] at hy
 obtain ⟨n,_,rfl⟩:=hy
 rfl
theorem lysT_get (l:List (List Node)) {k:Nat} (h:k<l.length) (h':k<(lysT l).length):(lysT l)[k]'h'=[.sl (nodesT l[k])]:=by simp [lysT]
theorem sizes_take (ls:List (List Node)) {k:Nat} (h:k<ls.length):sizes (ls.take (k+1))=sizes (ls.take k)+ls[k].length:=by
 rw [sizes,sizes,List.take_succ_eq_append_getElem h,List.map_append,List.sum_append]
 simp
theorem sizes_mono (ls:List (List Node)) (k:Nat):sizes (ls.take k)≤sizes ls:=by
 conv=>rhs;rw [←List.take_append_drop k ls]
 rw [sizes,sizes,List.map_append,List.sum_append]
 omega
theorem diagram_spec (x:Inst) (o:Opt) (k:Ids) (s:SS) (n:Node) (hx:x.stops.length<2^31) (hw:o.width≤3000) (ho:n.s.ok) (hp:n.path.length<2^29) (hl:s.log.length<2^30) (hd:(x.build n o.width s.up).layers.length<2^30) (hst:0≤s.steps∧s.steps+sizes (x.build n o.width s.up).layers<2^62) {σ:Nat→AObj} {nx:Nat} (hb:SOk x o k s σ nx):
  CallQ P 90 [.ptr k.s 0,n.a] σ nx fun r σ' nx'=>r=(x.build n o.width s.up).a∧∃k',SOk x o k' (s.dia n (x.build n o.width s.up)) σ' nx'∧Runs k σ nx k' σ' nx':=by
 refine spec_of Tryz.func90 rfl rfl (by simp [Tryz.f90]) fun B hB hnx hσB=>?_
 simp only [Tryz.f90] at hB ⊢
 have hb0:=hb
 obtain ⟨⟨b1,b2,b3,b4,b5,b6,b7⟩,l,q1,q2,q3,q4⟩:=hb
 rw [SS.cs] at b1
 have hbd:=build_pure x n o.width s.up hx hw ho hp
 generalize x.build n o.width s.up=D at *
 have hlen:(lysT D.layers).length=D.layers.length:=List.length_map _
 have ne1:¬k.s=nx:=by omega
 have ne2:¬k.s=nx+1:=by omega
 have ne3:¬k.s=nx+1+1:=by omega
 refine K_run hB 100 ?_
 simp [go_sem,Node.a,Node.cs,b1,ne1,ne2]
 refine K_drawnF [16,17] [0,1,2,3,4,5,6,7,8,9,10,11,12,13,14,15] rfl (by rw [hB];kernel_rfl) (by kernel_rfl) fun ht hf'=>?_
 refine K_run hB 100 ?_
 simp [go_sem,ht,hf',Inst.a,b1,ne1,ne2]
 refine K_dCallP rfl rfl rfl (args:=[x.a,n.a,.i o.width,.i s.up]) (f:=140) (by simp [go_sem,Inst.a,Node.a,Node.cs]) (hbd) ?_
 refine K_run hB 100 ?_
 simp [go_sem,ht,hf',Diag.a,Diag.cs,b1,ne1,ne2,ne3,hlen]
 refine K_loopP (α:=Nat×(Nat→AObj)) (fun (j,τ)=>j≤D.layers.length∧τ k.s= .box (SS.cs x o 0 0 k {s with steps:=s.steps+sizes (D.layers.take j)})∧τ nx= .box n.cs∧τ (nx+1)= .box [.fsl [],.i 0,.b false,.i 0]∧τ (nx+1+1)= .box D.cs∧∀i,i<nx→i≠k.s→τ i=σ i)
  (fun (j,τ)=>⟨sl [(0,.ptr k.s 0),(3,.ptr nx 0),(4,.ptr (nx+1) 0),(5,.ptr (nx+1+1) 0),(25,.t (.sl (lysT D.layers))),(26,.i D.layers.length),(27,.i j)],τ,nx+1+1+1⟩) (fun a=>D.layers.length-a.1) (0,_)
  ⟨Nat.zero_le _,?_,?_,?_,?_,?_⟩ (Imp.slots (by simp [go_sem]) rfl rfl) ?_
 ·simp [oput,b1,ne1,ne2,ne3,SS.cs,sizes]
 ·simp [go_sem,oput,Node.cs]
 ·simp [go_sem,oput]
 ·simp [go_sem,oput,Diag.cs]
 ·exact fun i h1 h2=>by simp [oput,show ¬i=nx by omega,show ¬i=nx+1 by omega,show ¬i=nx+1+1 by omega]
 rintro ⟨j,τ⟩ ⟨g1,g2,g3,g4,g5,g6⟩
 rw [SS.cs] at g2
 simp only at g2
 refine K_run hB 60 ?_
 simp [go_sem]
 refine fork_dec (fun hj=>?_) (fun hj=>?_)
 ·have hgj:∀h,(lysT D.layers)[j]'h=[.sl (nodesT D.layers[j])]:=fun h=>lysT_get D.layers hj h
  have hsz:=sizes_take D.layers hj
  have hmo:=sizes_mono D.layers (j+1)
  have hnl:(nodesT D.layers[j]).length=D.layers[j].length:=List.length_map _
  have wj:IntKind.i64.wrap ((j:Int)+1)=((j+1:Nat):Int):=by rw [w64 _ (by omega)];omega
  have ws:IntKind.i64.wrap (s.steps+(sizes (D.layers.take j):Int)+(D.layers[j].length:Int))=s.steps+(sizes (D.layers.take (j+1)):Int):=by rw [w64 _ (by omega)];omega
  generalize D.layers[j]=L at *
  generalize sizes (D.layers.take j)=A at *
  generalize hA':sizes (D.layers.take (j+1))=A' at *
  simp [go_sem,hlen,hj,hgj,hnl,g2,wj,ws]
  refine Next.mk (j+1,_) ⟨by omega,?_,?_,?_,?_,?_⟩ (Imp.slots (by simp [go_sem]) rfl rfl) (by simp only;omega)
  ·simp [oput,SS.cs,hA']
  ·simp [oput,ne1,g3,show ¬nx=k.s by omega]
  ·simp [oput,g4,show ¬nx+1=k.s by omega]
  ·simp [oput,g5,show ¬nx+1+1=k.s by omega]
  ·exact fun i h1 h2=>by simp [oput,h2,g6 i h1 h2]
 ·have:j=D.layers.length:=by omega
  subst this
  rw [List.take_length] at g2
  obtain ⟨A,hA⟩:∃A,A=sizes D.layers:=⟨_,rfl⟩
  rw [←hA] at g2
  have hcap:s.log.length+1≤mostLen:=by show _≤4294967296;omega
  have hll:(logT s.log).length=s.log.length:=List.length_map _
  have hl14:=logT_len s.log
  have f1:=(g6 k.lg (by omega) (fun e=>by rw [e,b1] at b3;cases b3)).trans b3
  have ne4:¬k.s=k.lg:=fun e=>by rw [←e,b1] at b3;cases b3
  have ne5:¬k.s=nx+1+1+1:=by omega
  have ne6:¬nx+1+1+1=k.s:=by omega
  have ne7:¬k.lg=nx:=by omega
  have ne8:¬nx=k.lg:=by omega
  have ne9:¬nx+1=k.lg:=by omega
  have nea:¬nx+1+1=k.lg:=by omega
  have neb:¬nx=k.s:=by omega
  have nec:¬nx+1=k.s:=by omega
  have ned:¬nx+1+1=k.s:=by omega
  have e1:=g3
  rw [Node.cs] at e1
  have e2:=g5
  rw [Diag.cs] at e2
  simp [go_sem]
  refine K_drawnF [10,14] [0] rfl (by rw [hB];kernel_rfl) (by kernel_rfl) fun ht hf'=>?_
  refine K_run hB 22 ?_
  simp [go_sem,ht,hf',g2,f1,e1,e2,g4,ne1,ne2,ne3,ne4,ne5,ne6,ne7,ne8,ne9,nea,neb,nec,ned,hcap,hll,hl14]
  have hls:k.sb≠k.lg:=fun e=>by rw [e,b3] at b2;cases b2
  have hls2:k.sb≠k.s:=fun e=>by rw [e,b1] at b2;cases b2
  have hg:∀(y z u:AObj) (i:Nat),i<nx→i≠k.s→i≠k.lg→oput (oput (oput (oput τ k.lg .dead) (nx+1+1+1) y) k.s z) (nx+1) u i=σ i:=fun y z u i h1 h2 h3=>by simp [oput,h2,h3,show ¬i=nx+1 by omega,show ¬i=nx+1+1+1 by omega,g6 i h1 h2]
  refine ⟨by omega,{k with lg:=nx+1+1+1},⟨⟨?_,?_,?_,b4,?_,?_,?_⟩,l,?_,?_,q3,q4⟩,?_⟩
  ·simp [oput,SS.cs,SS.dia,hA,ne2]
  ·exact (hg _ _ _ k.sb (by omega) hls2 hls).trans b2
  ·simp [oput,SS.dia,logT,Done.t,Node.t,show ¬nx+1+1=nx by omega,ne6]
  ·simp only;omega
  ·simp only;omega
  ·simp only;omega
  ·exact (hg _ _ _ k.h (by omega) (by omega) (by omega)).trans q1
  ·exact (hg _ _ _ k.q (by omega) (by omega) (by omega)).trans q2
  ·exact ⟨by omega,rfl,rfl,.inl rfl,.inl rfl,.inr (by simp only;omega),fun i h1 h2 h3 h4 h5 h6=>hg _ _ _ i h1 h2 h6⟩
end Go.Proofs.YtnoifgjiipgpoaaGreatDoor

set_option maxRecDepth 4000
set_option maxHeartbeats 2000000
namespace Go.Proofs.YtnoifgjiipgpoaaGreatDoor
open Go Go.Proofs.YtnoifgjiipgpoaaGreatDoor.R
structure LFine (ls:List (List Node)):Prop where
 len:ls.length<2^30
 few:∀l∈ls,l.length<2^20
 ok:∀l∈ls,∀n∈l,n.s.ok∧n.path.length<2^29
theorem offers_take (x:Inst) (s:SS) (ls:List (List Node)) {j:Nat} (h:j<ls.length):x.offers s (ls.take (j+1))=(x.offers s (ls.take j)).offer (x.bests ls[j]):=by
 rw [Inst.offers,List.take_succ_eq_append_getElem h,List.foldl_append,List.foldl_cons,List.foldl_nil]
 rfl
theorem pushes_take (x:Inst) (low:Int) (s:SS) (l:List Node) {j:Nat} (h:j<l.length):(l.take (j+1)).foldl (x.push low) s=x.push low ((l.take j).foldl (x.push low) s) l[j]:=by
 rw [List.take_succ_eq_append_getElem h,List.foldl_append,List.foldl_cons,List.foldl_nil]
theorem pushes_len (x:Inst) (low:Int):∀(l:List Node) (s:SS),(l.foldl (x.push low) s).subs.length≤s.subs.length+l.length∧(l.foldl (x.push low) s).q.length≤s.q.length+l.length
 |[],s=>⟨Nat.le_refl _,Nat.le_refl _⟩
 |n :: l,s=>by
  obtain ⟨h1,h2⟩:=pushes_len x low l (x.push low s n)
  have:(x.push low s n).subs.length≤s.subs.length+1∧(x.push low s n).q.length≤s.q.length+1:=by
   rcases push_or x low s n with ⟨e,_⟩ | ⟨_,e⟩<;>rw [e]<;>simp
  rw [List.foldl_cons,List.length_cons]
  omega
theorem branch_spec (x:Inst) (o:Opt) (k:Ids) (s:SS) (D:Diag) (hx:x.stops.length<2^31) (hd:LFine D.layers) (hs0:1≤D.sure) (hs1:D.sure≤D.layers.length) (hn1:s.subs.length<2^29) (hn2:s.q.length<2^29) {σ:Nat→AObj} {nx:Nat} (hb:SOk x o k s σ nx):
  CallQ P 92 [.ptr k.s 0,D.a] σ nx fun r σ' nx'=>r= .tup []∧∃k',SOk x o k' (x.branch D s) σ' nx'∧Runs k σ nx k' σ' nx':=by
 generalize hR:x.branch D s=R
 refine spec_of Tryz.func92 rfl rfl (by simp [Tryz.f92]) fun B hB hnx hσB=>?_
 simp only [Tryz.f92] at hB ⊢
 have hlt:=hb.b.lt
 have hlen:(lysT D.layers).length=D.layers.length:=List.length_map _
 obtain ⟨last,hlast⟩:∃n,n=D.sure-1:=⟨_,rfl⟩
 have w0:IntKind.i64.wrap ((D.sure:Int)-1)=(last:Int):=by have:=hd.len;rw [w64 _ (by omega)];omega
 have hll:last<D.layers.length:=by omega
 have hrow:∀y∈lysT D.layers,y.length=1:=fun y hy=>by
  simp only [lysT,List.mem_map] at hy
  obtain ⟨_,_,rfl⟩:=hy
  rfl
 have htk:((lysT D.layers).take last).length=last:=by rw [List.length_take];omega
 have hle:last≤D.layers.length:=by omega
 refine K_run hB 100 ?_
 simp [go_sem,Diag.a,Diag.cs,w0,hlen,if_pos hrow,htk,hle]
 refine K_loopP (α:=Nat×(Nat→AObj)×Nat) (fun (j,τ,m)=>j≤last∧SOk x o k (x.offers s (D.layers.take j)) τ m∧nx<m∧τ nx= .box D.cs∧Runs k σ nx k τ m)
  (fun (j,τ,m)=>⟨sl [(0,.ptr k.s 0),(3,.ptr nx 0),(4,.i last),(18,.t (.sl ((lysT D.layers).take last))),(19,.i last),(20,.i j)],τ,m⟩) (fun a=>last-a.1) (0,_,_)
  ⟨Nat.zero_le _,?_,Nat.lt_succ_self _,?_,?_⟩ (Imp.slots (by simp [go_sem]) rfl rfl) ?_
 ·exact (hb.stay (by omega) fun i hi=>by simp [oput,show ¬i=nx by omega]).1
 ·simp [go_sem,oput,Diag.cs]
 ·exact (hb.stay (by omega) fun i hi=>by simp [oput,show ¬i=nx by omega]).2
 rintro ⟨j,τ,m⟩ ⟨g1,g2,g3,g4,g5⟩
 refine K_run hB 60 ?_
 simp [go_sem]
 refine fork_dec (fun hj=>?_) (fun hj=>?_)
 ·have hgj:∀h,((lysT D.layers).take last)[j]'h=[.sl (nodesT D.layers[j])]:=fun h=>by rw [List.getElem_take];exact lysT_get D.layers (by omega) _
  have wj:IntKind.i64.wrap ((j:Int)+1)=((j+1:Nat):Int):=by have:=hd.len;rw [w64 _ (by omega)];omega
  have hof:=offers_take x s D.layers (show j<D.layers.length by omega)
  have hmem:D.layers[j]∈D.layers:=List.getElem_mem _
  have hbp:=bests_path (x:=x) (k:=2^29) fun n hn=>Nat.le_of_lt (hd.ok _ hmem n hn).2
  have hex:=expand_pure x D.layers[j] (x.offers s (D.layers.take j)).up hx (hd.few _ hmem) (fun n hn=>⟨(hd.ok _ hmem n hn).1,by have:=(hd.ok _ hmem n hn).2;omega⟩) (fun n hn=>by have:=(hd.ok _ hmem n hn).2;omega)
  generalize D.layers[j]=L at *
  generalize hS:x.offers s (D.layers.take j)=S at *
  generalize hS2:x.offers s (D.layers.take (j+1))=S2 at *
  have b1:=g2.b.box
  rw [SS.cs] at b1
  have hlt2:=g2.b.lt
  have ne1:¬k.s=m:=by omega
  have ne2:¬m=k.s:=by omega
  obtain ⟨bn,bi,hbk⟩:∃bn bi,x.bests L=(bn,bi):=⟨_,_,rfl⟩
  rw [hbk] at hof hbp hex
  simp only at hbp
  simp [go_sem,htk,hj,hgj]
  refine K_drawnF [15,17] [0,1,2,3,4,5,6,7,8,9,10,11,12,13,14] rfl (by rw [hB];kernel_rfl) (by kernel_rfl) fun ht hf'=>?_
  refine K_run hB 100 ?_
  simp [go_sem,ht,hf',b1,ne1,ne2,Inst.a]
  refine K_dCallP rfl rfl rfl (args:=[x.a,.t (.sl (nodesT L)),.i S.up]) (f:=138) (by simp [go_sem,Inst.a]) (hex) ?_
  refine K_run hB 100 ?_
  simp [go_sem,ht,hf',b1,ne1,ne2,expRes,Node.a,Node.cs]
  have hb':=fun τ' (h:∀i,i<m→τ' i=τ i)=>g2.stay (σ':=τ') (nx':=m+1) (by omega) h
  refine K_callQ rfl rfl rfl (args:=[.ptr k.s 0,bn.a,.b bi]) (f:=88) (by simp [go_sem,Node.a,Node.cs]) (by simp [go_sem,hB]) (offer_spec x o 0 0 k S bn bi (Nat.lt_of_le_of_lt hbp (by decide)) (nx:=m+1) (hb' _ fun i hi=>by simp [oput,show ¬i=m by omega]).1.b) fun r σ' nx' hq=>?_
  obtain ⟨rfl,c1,c2⟩:=hq
  have hτ:∀i,i<m→i≠k.s→σ' i=τ i:=fun i h1 h2=>by rw [c2.2 i (by omega) h2];simp [oput,show ¬i=m by omega]
  have c4:=c2.1
  refine K_run hB 100 ?_
  simp [go_sem,wj]
  refine Next.mk (j+1,σ',nx') ⟨by omega,?_,?_,?_,?_⟩ (Imp.slots (by simp [go_sem]) rfl rfl) (by simp only;omega)
  ·show SOk x o k (x.offers s (D.layers.take (j+1))) σ' nx'
   rw [hS2,hof]
   exact g2.only c1 (offer_up S (bn,bi)).2.2.1 ⟨by omega,hτ⟩
  ·simp only;omega
  ·exact (hτ _ g3 (by omega)).trans g4
  ·show Runs k σ nx k σ' nx'
   exact g5.trans (Only.runs ⟨by omega,hτ⟩)
 ·have:j=last:=by omega
  subst this
  have e4:=g4
  rw [Diag.cs] at e4
  generalize hS:x.offers s (D.layers.take j)=S at *
  have hgl:∀h,(lysT D.layers)[j]'h=[.sl (nodesT D.layers[j])]:=fun h=>lysT_get D.layers hll h
  have hR2:(D.layers[j]).foldl (x.push D.low) S=R:=by
   rw [←hR,Inst.branch,←hlast,hS,List.getD_eq_getElem?_getD,List.getElem?_eq_getElem hll]
   rfl
  have hmem:D.layers[j]∈D.layers:=List.getElem_mem _
  have hL1:=hd.few _ hmem
  have hL2:=hd.ok _ hmem
  generalize D.layers[j]=L at *
  have hnl:(nodesT L).length=L.length:=List.length_map _
  simp [go_sem,e4,hlen,hll,hgl,hnl]
  refine K_loopP (α:=Nat×Ids×(Nat→AObj)×Nat) (fun (i,k',τ1,m1)=>i≤L.length∧SOk x o k' ((L.take i).foldl (x.push D.low) S) τ1 m1∧nx<m1∧τ1 nx= .box D.cs∧Runs k τ m k' τ1 m1)
   (fun (i,k',τ,m)=>⟨sl [(0,.ptr k.s 0),(3,.ptr nx 0),(48,.t (.sl (nodesT L))),(49,.i L.length),(50,.i i)],τ,m⟩) (fun a=>L.length-a.1) (0,k,τ,m)
   ⟨Nat.zero_le _,g2,g3,g4,Runs.refl _ _ _⟩ (Imp.slots (by simp [go_sem]) rfl rfl) ?_
  rintro ⟨i,k',τ',m'⟩ ⟨i1,i2,i3,i4,i5⟩
  refine K_run hB 60 ?_
  simp [go_sem]
  refine fork_dec (fun hi=>?_) (fun hi=>?_)
  ·have hgi:∀h,(nodesT L)[i]'h=L[i].t:=fun h=>nodesT_get L hi
   have wi:IntKind.i64.wrap ((i:Int)+1)=((i+1:Nat):Int):=by rw [w64 _ (by omega)];omega
   have hpt:=pushes_take x D.low S L hi
   obtain ⟨hp1,hp2⟩:=pushes_len x D.low (L.take i) S
   obtain ⟨ho1,ho2⟩:=hL2 L[i] (List.getElem_mem _)
   have htl:(L.take i).length≤2^20:=by rw [List.length_take];omega
   generalize L[i]=n at *
   generalize (L.take i).foldl (x.push D.low) S=S1 at *
   generalize hS2:(L.take (i+1)).foldl (x.push D.low) S=S2 at *
   rw [Diag.cs] at i4
   have hss:S.subs=s.subs∧S.q=s.q:=by
    have:=offers_up x (D.layers.take j) s
    rw [hS] at this
    exact ⟨this.2.1,this.2.2.1⟩
   rw [hss.1] at hp1
   rw [hss.2] at hp2
   have ne1:¬nx=m':=by omega
   have es:k'.s=k.s:=i5.s
   have hb':=fun τ1 (h:∀i,i<m'→τ1 i=τ' i)=>i2.stay (σ':=τ1) (nx':=m'+1) (by omega) h
   simp [go_sem,hnl,hi,hgi,Node.t,i4,ne1]
   refine K_callQ rfl rfl rfl (args:=[.ptr k'.s 0,n.a,.i D.low]) (f:=46) (by simp [go_sem,Node.a,Node.cs,es]) (by simp [go_sem,hB]) (push_spec x o k' S1 n D.low hx ho1 (by omega) (by omega) (by omega) (nx:=m'+1) (hb' _ fun i hi=>by simp [oput,show ¬i=m' by omega]).1) fun r σ' nx' hq=>?_
   obtain ⟨rfl,k2,c1,c2⟩:=hq
   have hr:=(hb' _ fun i hi=>by simp only [oput];rw [if_neg (show ¬i=m' by omega),if_neg (show ¬i=m' by omega)]).2.trans c2
   have h0:=i2.b.lt
   have h1:=i5.q
   have h2:=i5.sb
   have h3:=i5.lg
   have h4:=i5.h
   have h5:=hb.b.lt
   have hkn:σ' nx=τ' nx:=by rw [hr.keep nx i3 (by omega) (by omega) (by omega) (by omega) (by omega)]
   have hle:=hr.le
   refine K_run hB 100 ?_
   simp [go_sem,wi]
   refine Next.mk (i+1,k2,σ',nx') ⟨by omega,?_,?_,?_,?_⟩ (Imp.slots (by simp [go_sem]) rfl rfl) (by simp only;omega)
   ·show SOk x o k2 ((L.take (i+1)).foldl (x.push D.low) S) σ' nx'
    rw [hS2,hpt]
    exact c1
   ·simp only;omega
   ·exact hkn.trans (i4.trans (by rw [Diag.cs]))
   ·exact i5.trans hr
  ·have:i=L.length:=by omega
   subst this
   rw [List.take_length,hR2] at i2
   simp [go_sem]
   exact ⟨by omega,k',i2,g5.trans i5⟩
end Go.Proofs.YtnoifgjiipgpoaaGreatDoor
