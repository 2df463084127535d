/- Parts of the proof: Build, Srch, Srch2, Srch3, Srch4, Law17e, Law15b, Srch5, Srch6, Law19, ArgO, ArgP, Whole. -/
import Derived.Test.YtackfabapangdaaGreatMH
import Derived.Test.YtackfabapangdaaGreatRows
import Derived.KernelRfl
set_option linter.unusedVariables false
set_option maxHeartbeats 4000000
set_option maxRecDepth 4000
set_option maxHeartbeats 2000000
namespace Go.Proofs.YtackfabapangdaaGreat
open Go Go.Proofs.YtackfabapangdaaGreat.R
def lysT (ls:List (List Node)):List (List T):=ls.map fun l=>[.sl (nodesT l)]
def Diag.cs (d:Diag):List AV:=[.t (.sl (lysT d.layers)),.i d.low,.b d.exact,.i d.sure]
def Diag.a (d:Diag):AV:=.agg d.cs
structure WFine (l:List Node) (K:Nat):Prop where
 ok:∀n∈l,n.s.ok
 path:∀n∈l,n.path.length≤K
theorem WFine.next {x:Inst} {l:List Node} {K:Nat} (h:WFine l K) (up:Int):WFine (x.next l up) (K+1):=by
 refine ⟨?_,?_⟩<;>(intro m hm;obtain ⟨n,hn,j,hj,rfl,_⟩:=next_mem hm)
 ·exact move_ok x j (h.ok n hn)
 ·have:=h.path n hn
  show (n.path++[j]).length≤K+1
  rw [List.length_append]
  simp only [List.length_cons,List.length_nil]
  omega
theorem fold_ok:∀(l:List State) (s:State),s.ok→(∀t∈l,t.ok)→(l.foldl State.join s).ok
 |[],s,h,_=>h
 |t :: l,s,h,k=>fold_ok l (s.join t) (join_ok h (k t List.mem_cons_self)) fun u hu=>k u (List.mem_cons_of_mem _ hu)
theorem joinL_ok {l:List State} (h:∀t∈l,t.ok):(joinL l).1.ok:=by
 cases l with
 |nil=>exact State.zero_ok
 |cons s l=>
  rw [joinL]
  split
  ·exact State.zero_ok
  ·exact fold_ok l s (h s List.mem_cons_self) fun t ht=>h t (List.mem_cons_of_mem _ ht)
theorem WFine.squeeze {x:Inst} {l:List Node} {K:Nat} (h:WFine l K) (w:Int):WFine (x.squeeze l w) K:=by
 refine ⟨fun m hm=>?_,fun m hm=>?_⟩
 ·rcases squeeze_mem hm with hm | ⟨i,g,h1,h2,h3,rfl⟩
  ·exact h.ok m hm
  ·exact joinL_ok fun t ht=>by
    obtain ⟨q,hq,rfl⟩:=List.mem_map.1 ht
    exact h.ok q (h3 q hq).1
 ·rcases squeeze_mem hm with hm | ⟨i,g,h1,h2,h3,rfl⟩
  ·exact h.path m hm
  ·exact Nat.zero_le _
theorem deep_le (x:Inst):0≤x.deep∧x.deep≤39:=by
 unfold Inst.deep
 split
 ·rename_i hm
  obtain ⟨p,hx⟩:=x.fit hm
  have:=hx.pairs
  have:=hx.few
  have:=hx.cars
  omega
 ·omega
theorem next_few {x:Inst} {l:List Node} {up w:Int} (hw:w≤3000) (h:(x.next l up).length≤x.mostN w):(x.next l up).length≤3000:=by
 cases hm:x.may with
 |true=>
  obtain ⟨p,hx⟩:=x.fit hm
  have:=hx.len
  have:=hx.few
  unfold Inst.mostN at h
  omega
 |false=>
  have:x.next l up=[]:=by
   refine List.eq_nil_iff_forall_not_mem.2 fun m hm2=>?_
   obtain ⟨n,hn,j,hj,_⟩:=next_mem hm2
   have:=(move_may (moves_mem hj)).1
   rw [hm] at this;cases this
  rw [this];simp
theorem most_few {x:Inst} {l:List Node} {up w:Int} (hw:w≤3000) (h:x.mostN w<(x.next l up).length):x.mostN w≤3000:=by
 cases hm:x.may with
 |true=>
  obtain ⟨p,hx⟩:=x.fit hm
  have:=hx.len
  have:=hx.few
  unfold Inst.mostN
  omega
 |false=>
  have:x.next l up=[]:=by
   refine List.eq_nil_iff_forall_not_mem.2 fun m hm2=>?_
   obtain ⟨n,hn,j,hj,_⟩:=next_mem hm2
   have:=(move_may (moves_mem hj)).1
   rw [hm] at this;cases this
  rw [this] at h;simp at h
theorem build_pure (x:Inst) (n:Node) (w up:Int) (hl:x.stops.length<2^31) (hw:w≤3000) (ho:n.s.ok) (hp:n.path.length<2^29):Pure P 182 [x.a,n.a,.i w,.i up] ((x.build n w up).a):=by
 generalize hR:x.build n w up=R
 refine pure_of Tryz.func182 rfl rfl (by simp [Tryz.f182]) (by simp [bnd,bnd.bndL,Inst.a,Node.a,Node.cs]) (by simp [bnd,bnd.bndL,Diag.a,Diag.cs]) fun B hB hnx=>?_
 simp only [Tryz.f182] at hB ⊢
 have hdeep:=deep_pure x (by omega)
 have hdl:=deep_le x
 have hown:=ownN_pure [n] (by simp) (fun m hm=>by rw [List.mem_singleton.1 hm];omega)
 rw [Inst.build] at hR
 have hwd:IntKind.i64.wrap (x.deep-n.path.length)=x.deep-n.path.length:=w64 _ (by omega)
 generalize hdp:x.deep-(n.path.length:Int)=dp at *
 have hnl:(ints n.path).length=n.path.length:=List.length_map _
 refine K_run hB 100 ?_
 simp [go_sem,Inst.a,Node.a,Node.cs]
 refine K_scope ?_
 refine K_run hB 100 ?_
 simp [go_sem]
 refine K_drawn [] rfl (by rw [hB];kernel_rfl) ?_
 refine K_run hB 100 ?_
 simp [go_sem]
 refine K_dCallP rfl rfl rfl (args:=[x.a]) (f:=124) (by simp [go_sem,Inst.a]) (hdeep) ?_
 refine K_run hB 100 ?_
 simp [go_sem,hnl,hdp,hwd]
 refine K_call rfl rfl rfl (args:=[.fsl [n.t]]) (f:=224) (by simp [go_sem,Node.t]) (by simp [go_sem,hB]) ((Pure.loose hown (by simp [bnd])).spec _ _) ?_
 refine K_run hB 100 ?_
 simp [go_sem]
 refine K_less (Imp.ownB (b:=4) (off:=0) (sz:=1) (cs:=[.fsl [],.i up,.b true,.i 0]) (by simp [oput]) rfl) ?_
 refine K_loopP (α:=Nat×List (List Node)×Int×Option Nat×List Node×Nat×(Nat→AObj)×Nat) (fun (f,ls,low,sq,l,q,τ,ny)=>x.buildGo w up dp f ls low sq l=R∧(f:Int)+ls.length≥dp+2∧((ls.length:Int)≤dp∨ls=[])∧1≤f∧WFine l (n.path.length+ls.length)∧l.length≤3000∧τ 0= .box x.cs∧τ 2= .box [.i w]∧τ 3= .box [.fsl [],.i 0,.b false,.i 0]∧τ 4= .box [.ref q,.i low,.b sq.isNone,.i (sq.getD 0:Nat)]∧τ q= .arr 1 (lysT ls)∧4<q∧q<ny)
  (fun (f,ls,low,sq,l,q,τ,ny)=>⟨sl [(3,.i up),(4,.ptr 0 0),(6,.ptr 2 0),(8,.ptr 3 0),(9,.ptr 4 0),(10,.fn (.func 222) [] [.ptr 0 0,.ptr 2 0]),(11,.i dp),(12,.t (.sl (nodesT l)))],τ,ny⟩) (fun a=>a.1) (dp.toNat+2,[],up,none,[n],5,_,6) ?_ (Imp.slots (by simp [go_sem]) rfl rfl) ?_
 ·refine ⟨hR,by simp only [List.length_nil];omega,.inr rfl,by omega,⟨fun m hm=>by rw [List.mem_singleton.1 hm];exact ho,fun m hm=>by rw [List.mem_singleton.1 hm];omega⟩,by simp,by simp [oput,Inst.cs],by simp [oput],by simp [oput],by simp [oput,setCells],by simp [oput,lysT],by omega,by omega⟩
 clear hR
 rintro ⟨f,ls,low,sq,l,q,τ,ny⟩ ⟨hR,g1,g2,g3,g4,g5,h0,h2,h3,h4,h5,h6,h7⟩
 obtain ⟨f,rfl⟩:∃f',f=f'+1:=⟨f-1,by omega⟩
 have hil:(nodesT l).length=l.length:=List.length_map _
 have hyl:(lysT ls).length=ls.length:=List.length_map _
 have hls:ls.length≤40:=by
  rcases g2 with g2 | g2
  ·omega
  ·rw [g2];simp
 have n0:¬0=ny:=by omega
 have n2:¬2=ny:=by omega
 have n3:¬3=ny:=by omega
 have n4:¬4=ny:=by omega
 have n5:¬q=3:=by omega
 have n6:¬q=4:=by omega
 rw [Inst.buildGo] at hR
 by_cases c0:l=[]
 ·rw [if_pos c0] at hR
  subst hR
  have c0':l.length=0:=by rw [c0];rfl
  cases sq with
  |none=>
   refine K_run hB 60 ?_
   simp [go_sem,hil,c0',h4,h5,hyl,n5,n6,h3]
   rfl
  |some k=>
   refine K_run hB 60 ?_
   simp [go_sem,hil,c0',h4,h5,hyl,n5,n6,h3]
   rfl
 rw [if_neg c0] at hR
 have c0':0<l.length:=List.length_pos_iff.2 c0
 have hx:=expand_pure x l up hl (by omega) (fun m h=>⟨g4.ok m h,by have:=g4.path m h;omega⟩) (fun m h=>by have:=g4.path m h;omega)
 have hnw:=g4.next (x:=x) up
 have hsn:lysT ls++[[.sl (nodesT l)]]=lysT (ls++[l]):=by simp [lysT]
 have hcap:ls.length+1≤mostLen:=by show _≤4294967296;omega
 have hsl:(lysT (ls++[l])).length=ls.length+1:=by rw [lysT,List.length_map];simp
 have n7:¬4=q:=by omega
 have n8:¬0=q:=by omega
 have n9:¬2=q:=by omega
 have na:¬3=q:=by omega
 generalize x.bests l=Bs at *
 obtain ⟨b,is⟩:=Bs
 have hqs:=squeeze_pure x (x.next l up) w hl (by have:=next_len x l up;omega) (fun m h=>⟨hnw.ok m h,by have:=hnw.path m h;omega⟩)
 have hnf:=next_few (x:=x) (l:=l) (up:=up) hw
 have hmf:=most_few (x:=x) (l:=l) (up:=up) hw
 have hsq:=squeeze_len x (x.next l up) w
 have hsw:=hnw.squeeze (x:=x) w
 generalize x.squeeze (x.next l up) w=Q at *
 generalize x.next l up=M at *
 refine K_run hB 60 ?_
 simp [go_sem,hil,c0',h4,h5,hyl,hsn,hcap,n0,n2,n3,n4,n6,n7,n8,n9,na,h0,Inst.cs]
 refine K_run hB 100 ?_
 simp [go_sem,hil,c0',h4,h5,hyl,hsn,hcap,n0,n2,n3,n4,n6,n7,n8,n9,na,h0,Inst.cs]
 refine K_call rfl rfl rfl (args:=[x.a,.t (.sl (nodesT l)),.i up]) (f:=180) (by simp [go_sem,Inst.a]) (by simp [go_sem,hB]) ((hx).spec _ _) ?_
 have b0:¬ny=0:=by omega
 have b1:¬ny+1=0:=by omega
 have b2:¬ny=1:=by omega
 have b3:¬ny=2:=by omega
 have b4:¬ny=3:=by omega
 have b5:¬ny=4:=by omega
 have b6:¬4=ny+1:=by omega
 have hov:=fun (τ':Nat→AObj) (e1:τ' 0= .box x.cs) (e2:τ' 2= .box [.i w])=>over_spec x w M (σ:=τ') (nx:=ny+2) (a:=0) (b:=2) (by omega) (by omega) e1 e2
 have hwQ:WFine Q (n.path.length+(ls++[l]).length):=by rw [List.length_append];exact hsw
 have hwM:WFine M (n.path.length+(ls++[l]).length):=by rw [List.length_append];exact hnw
 cases is with
 |false=>
  have hlw:lowB low (b,false)=low:=rfl
  rw [hlw] at hR
  by_cases c1:dp<(ls.length:Int)+1
  ·rw [if_pos (by omega)] at hR
   subst hR
   cases sq with
   |none=>
    refine K_run hB 100 ?_
    simp [go_sem,expRes,Node.a,Node.cs,h0,h2,h3,h4,h5,n0,n2,n3,n4,n5,n6,n7,n8,n9,na,b0,b1,b2,b3,b4,b5,b6,hsl,Inst.cs,c1]
    simp [Diag.of,Diag.a,Diag.cs]
   |some k=>
    refine K_run hB 100 ?_
    simp [go_sem,expRes,Node.a,Node.cs,h0,h2,h3,h4,h5,n0,n2,n3,n4,n5,n6,n7,n8,n9,na,b0,b1,b2,b3,b4,b5,b6,hsl,Inst.cs,c1]
    rfl
  rw [if_neg (by omega)] at hR
  refine K_run hB 100 ?_
  simp [go_sem,expRes,Node.a,Node.cs,h0,h2,h3,h4,h5,n0,n2,n3,n4,n5,n6,n7,n8,n9,na,b0,b1,b2,b3,b4,b5,b6,hsl,Inst.cs,c1]
  refine K_call rfl rfl rfl (args:=[.t (.sl (nodesT M)),.ptr 0 0,.ptr 2 0]) (f:=222) (by simp [go_sem]) (by simp [go_sem,hB]) (hov _ (by simp [oput,h0,n0,n8,b0,b1,Inst.cs]) (by simp [oput,h2,n2,n9,b1,b2,b3])) ?_
  by_cases c2:x.mostN w<M.length
  ·rw [if_pos c2] at hR
   refine K_run hB 100 ?_
   simp [go_sem,expRes,Node.a,Node.cs,h0,h2,h3,h4,h5,n0,n2,n3,n4,n5,n6,n7,n8,n9,na,b0,b1,b2,b3,b4,b5,b6,hsl,Inst.cs,c2]
   refine K_call rfl rfl rfl (args:=[x.a,.t (.sl (nodesT M)),.i w]) (f:=225) (by simp [go_sem,Inst.a]) (by simp [go_sem,hB]) ((hqs).spec _ _) ?_
   cases sq with
   |none=>
    refine K_run hB 100 ?_
    simp [go_sem,expRes,Node.a,Node.cs,h0,h2,h3,h4,h5,n0,n2,n3,n4,n5,n6,n7,n8,n9,na,b0,b1,b2,b3,b4,b5,b6,hsl,Inst.cs]
    refine Next.mk (f,ls++[l],low,some (ls.length+1),Q,ny,_,ny+2) ?_ (Imp.slots (by simp [go_sem]) rfl rfl) (by simp only;omega)
    exact ⟨hR,by simp only [List.length_append,List.length_cons,List.length_nil];omega,.inl (by simp only [List.length_append,List.length_cons,List.length_nil];omega),by simp only;omega,hwQ,(by have:=hmf c2;simp only;omega),by simp [oput,h0,h2,h3,h4,n0,n2,n3,n4,n7,n8,n9,na,b0,b1,b2,b3,b4,b5,b6,Inst.cs],by simp [oput,h0,h2,h3,h4,n0,n2,n3,n4,n7,n8,n9,na,b0,b1,b2,b3,b4,b5,b6,Inst.cs],by simp [oput,h0,h2,h3,h4,n0,n2,n3,n4,n7,n8,n9,na,b0,b1,b2,b3,b4,b5,b6,Inst.cs],by simp [oput,h0,h2,h3,h4,n0,n2,n3,n4,n7,n8,n9,na,b0,b1,b2,b3,b4,b5,b6,Inst.cs],by simp [oput,h0,h2,h3,h4,n0,n2,n3,n4,n7,n8,n9,na,b0,b1,b2,b3,b4,b5,b6,Inst.cs],by simp only;omega,by simp only;omega⟩
   |some k=>
    refine K_run hB 100 ?_
    simp [go_sem,expRes,Node.a,Node.cs,h0,h2,h3,h4,h5,n0,n2,n3,n4,n5,n6,n7,n8,n9,na,b0,b1,b2,b3,b4,b5,b6,hsl,Inst.cs]
    refine Next.mk (f,ls++[l],low,some k,Q,ny,_,ny+2) ?_ (Imp.slots (by simp [go_sem]) rfl rfl) (by simp only;omega)
    exact ⟨hR,by simp only [List.length_append,List.length_cons,List.length_nil];omega,.inl (by simp only [List.length_append,List.length_cons,List.length_nil];omega),by simp only;omega,hwQ,(by have:=hmf c2;simp only;omega),by simp [oput,h0,h2,h3,h4,n0,n2,n3,n4,n7,n8,n9,na,b0,b1,b2,b3,b4,b5,b6,Inst.cs],by simp [oput,h0,h2,h3,h4,n0,n2,n3,n4,n7,n8,n9,na,b0,b1,b2,b3,b4,b5,b6,Inst.cs],by simp [oput,h0,h2,h3,h4,n0,n2,n3,n4,n7,n8,n9,na,b0,b1,b2,b3,b4,b5,b6,Inst.cs],by simp [oput,h0,h2,h3,h4,n0,n2,n3,n4,n7,n8,n9,na,b0,b1,b2,b3,b4,b5,b6,Inst.cs],by simp [oput,h0,h2,h3,h4,n0,n2,n3,n4,n7,n8,n9,na,b0,b1,b2,b3,b4,b5,b6,Inst.cs],by simp only;omega,by simp only;omega⟩
  ·rw [if_neg c2] at hR
   refine K_run hB 100 ?_
   simp [go_sem,expRes,Node.a,Node.cs,h0,h2,h3,h4,h5,n0,n2,n3,n4,n5,n6,n7,n8,n9,na,b0,b1,b2,b3,b4,b5,b6,hsl,Inst.cs,c2]
   refine Next.mk (f,ls++[l],low,sq,M,ny,_,ny+2) ?_ (Imp.slots (by simp [go_sem]) rfl rfl) (by simp only;omega)
   exact ⟨hR,by simp only [List.length_append,List.length_cons,List.length_nil];omega,.inl (by simp only [List.length_append,List.length_cons,List.length_nil];omega),by simp only;omega,hwM,(hnf (by omega)),by simp [oput,h0,h2,h3,h4,n0,n2,n3,n4,n7,n8,n9,na,b0,b1,b2,b3,b4,b5,b6,Inst.cs],by simp [oput,h0,h2,h3,h4,n0,n2,n3,n4,n7,n8,n9,na,b0,b1,b2,b3,b4,b5,b6,Inst.cs],by simp [oput,h0,h2,h3,h4,n0,n2,n3,n4,n7,n8,n9,na,b0,b1,b2,b3,b4,b5,b6,Inst.cs],by simp [oput,h0,h2,h3,h4,n0,n2,n3,n4,n7,n8,n9,na,b0,b1,b2,b3,b4,b5,b6,Inst.cs],by simp [oput,h0,h2,h3,h4,n0,n2,n3,n4,n7,n8,n9,na,b0,b1,b2,b3,b4,b5,b6,Inst.cs],by simp only;omega,by simp only;omega⟩
 |true=>
  have hlw:lowB low (b,true)=min low b.cost:=rfl
  rw [hlw] at hR
  by_cases c1:dp<(ls.length:Int)+1
  ·rw [if_pos (by omega)] at hR
   subst hR
   cases sq with
   |none=>
    refine K_run hB 100 ?_
    simp [go_sem,expRes,Node.a,Node.cs,h0,h2,h3,h4,h5,n0,n2,n3,n4,n5,n6,n7,n8,n9,na,b0,b1,b2,b3,b4,b5,b6,hsl,Inst.cs,c1]
    simp [Diag.of,Diag.a,Diag.cs]
   |some k=>
    refine K_run hB 100 ?_
    simp [go_sem,expRes,Node.a,Node.cs,h0,h2,h3,h4,h5,n0,n2,n3,n4,n5,n6,n7,n8,n9,na,b0,b1,b2,b3,b4,b5,b6,hsl,Inst.cs,c1]
    rfl
  rw [if_neg (by omega)] at hR
  refine K_run hB 100 ?_
  simp [go_sem,expRes,Node.a,Node.cs,h0,h2,h3,h4,h5,n0,n2,n3,n4,n5,n6,n7,n8,n9,na,b0,b1,b2,b3,b4,b5,b6,hsl,Inst.cs,c1]
  refine K_call rfl rfl rfl (args:=[.t (.sl (nodesT M)),.ptr 0 0,.ptr 2 0]) (f:=222) (by simp [go_sem]) (by simp [go_sem,hB]) (hov _ (by simp [oput,h0,n0,n8,b0,b1,Inst.cs]) (by simp [oput,h2,n2,n9,b1,b2,b3])) ?_
  by_cases c2:x.mostN w<M.length
  ·rw [if_pos c2] at hR
   refine K_run hB 100 ?_
   simp [go_sem,expRes,Node.a,Node.cs,h0,h2,h3,h4,h5,n0,n2,n3,n4,n5,n6,n7,n8,n9,na,b0,b1,b2,b3,b4,b5,b6,hsl,Inst.cs,c2]
   refine K_call rfl rfl rfl (args:=[x.a,.t (.sl (nodesT M)),.i w]) (f:=225) (by simp [go_sem,Inst.a]) (by simp [go_sem,hB]) ((hqs).spec _ _) ?_
   cases sq with
   |none=>
    refine K_run hB 100 ?_
    simp [go_sem,expRes,Node.a,Node.cs,h0,h2,h3,h4,h5,n0,n2,n3,n4,n5,n6,n7,n8,n9,na,b0,b1,b2,b3,b4,b5,b6,hsl,Inst.cs]
    refine Next.mk (f,ls++[l],min low b.cost,some (ls.length+1),Q,ny,_,ny+2) ?_ (Imp.slots (by simp [go_sem]) rfl rfl) (by simp only;omega)
    exact ⟨hR,by simp only [List.length_append,List.length_cons,List.length_nil];omega,.inl (by simp only [List.length_append,List.length_cons,List.length_nil];omega),by simp only;omega,hwQ,(by have:=hmf c2;simp only;omega),by simp [oput,h0,h2,h3,h4,n0,n2,n3,n4,n7,n8,n9,na,b0,b1,b2,b3,b4,b5,b6,Inst.cs],by simp [oput,h0,h2,h3,h4,n0,n2,n3,n4,n7,n8,n9,na,b0,b1,b2,b3,b4,b5,b6,Inst.cs],by simp [oput,h0,h2,h3,h4,n0,n2,n3,n4,n7,n8,n9,na,b0,b1,b2,b3,b4,b5,b6,Inst.cs],by simp [oput,h0,h2,h3,h4,n0,n2,n3,n4,n7,n8,n9,na,b0,b1,b2,b3,b4,b5,b6,Inst.cs],by simp [oput,h0,h2,h3,h4,n0,n2,n3,n4,n7,n8,n9,na,b0,b1,b2,b3,b4,b5,b6,Inst.cs],by simp only;omega,by simp only;omega⟩
   |some k=>
    refine K_run hB 100 ?_
    simp [go_sem,expRes,Node.a,Node.cs,h0,h2,h3,h4,h5,n0,n2,n3,n4,n5,n6,n7,n8,n9,na,b0,b1,b2,b3,b4,b5,b6,hsl,Inst.cs]
    refine Next.mk (f,ls++[l],min low b.cost,some k,Q,ny,_,ny+2) ?_ (Imp.slots (by simp [go_sem]) rfl rfl) (by simp only;omega)
    exact ⟨hR,by simp only [List.length_append,List.length_cons,List.length_nil];omega,.inl (by simp only [List.length_append,List.length_cons,List.length_nil];omega),by simp only;omega,hwQ,(by have:=hmf c2;simp only;omega),by simp [oput,h0,h2,h3,h4,n0,n2,n3,n4,n7,n8,n9,na,b0,b1,b2,b3,b4,b5,b6,Inst.cs],by simp [oput,h0,h2,h3,h4,n0,n2,n3,n4,n7,n8,n9,na,b0,b1,b2,b3,b4,b5,b6,Inst.cs],by simp [oput,h0,h2,h3,h4,n0,n2,n3,n4,n7,n8,n9,na,b0,b1,b2,b3,b4,b5,b6,Inst.cs],by simp [oput,h0,h2,h3,h4,n0,n2,n3,n4,n7,n8,n9,na,b0,b1,b2,b3,b4,b5,b6,Inst.cs],by simp [oput,h0,h2,h3,h4,n0,n2,n3,n4,n7,n8,n9,na,b0,b1,b2,b3,b4,b5,b6,Inst.cs],by simp only;omega,by simp only;omega⟩
  ·rw [if_neg c2] at hR
   refine K_run hB 100 ?_
   simp [go_sem,expRes,Node.a,Node.cs,h0,h2,h3,h4,h5,n0,n2,n3,n4,n5,n6,n7,n8,n9,na,b0,b1,b2,b3,b4,b5,b6,hsl,Inst.cs,c2]
   refine Next.mk (f,ls++[l],min low b.cost,sq,M,ny,_,ny+2) ?_ (Imp.slots (by simp [go_sem]) rfl rfl) (by simp only;omega)
   exact ⟨hR,by simp only [List.length_append,List.length_cons,List.length_nil];omega,.inl (by simp only [List.length_append,List.length_cons,List.length_nil];omega),by simp only;omega,hwM,(hnf (by omega)),by simp [oput,h0,h2,h3,h4,n0,n2,n3,n4,n7,n8,n9,na,b0,b1,b2,b3,b4,b5,b6,Inst.cs],by simp [oput,h0,h2,h3,h4,n0,n2,n3,n4,n7,n8,n9,na,b0,b1,b2,b3,b4,b5,b6,Inst.cs],by simp [oput,h0,h2,h3,h4,n0,n2,n3,n4,n7,n8,n9,na,b0,b1,b2,b3,b4,b5,b6,Inst.cs],by simp [oput,h0,h2,h3,h4,n0,n2,n3,n4,n7,n8,n9,na,b0,b1,b2,b3,b4,b5,b6,Inst.cs],by simp [oput,h0,h2,h3,h4,n0,n2,n3,n4,n7,n8,n9,na,b0,b1,b2,b3,b4,b5,b6,Inst.cs],by simp only;omega,by simp only;omega⟩
end Go.Proofs.YtackfabapangdaaGreat

set_option maxRecDepth 4000
set_option maxHeartbeats 1000000
namespace Go.Proofs.YtackfabapangdaaGreat
open Go Go.Proofs.YtackfabapangdaaGreat.R
structure Ids where
 s:Nat
 h:Nat
 q:Nat
 sb:Nat
 lg:Nat
def planT (p:List (List Int)):List (List T):=p.map rowT
def Done.t (d:Node×Diag):List T:=d.1.t++[.sl (lysT d.2.layers),.i d.2.low,.v (.bool d.2.exact),.i d.2.sure]
def logT (l:List (Node×Diag)):List (List T):=l.map Done.t
def SS.cs (x:Inst) (o:Opt) (st low:Int) (k:Ids) (s:SS):List AV:=
 [.i x.pairs,.i x.cars,.i x.room,.t (.sl (x.stops.map Stop.t)),.i o.width,.i o.order,.i o.budget,.i st,.t (.sl (planT s.plan)),.i s.up,.i low,.i s.steps,.ref k.lg,.ref k.sb,.ptr k.h 0]
structure SBox (x:Inst) (o:Opt) (st low:Int) (k:Ids) (s:SS) (σ:Nat→AObj) (nx:Nat):Prop where
 box:σ k.s= .box (s.cs x o st low k)
 subs:σ k.sb= .arr 10 (nodesT s.subs)
 log:σ k.lg= .arr 14 (logT s.log)
 sh:k.s≠k.h
 qs:k.q≠k.s∧k.q≠k.h∧k.q≠k.sb∧k.q≠k.lg
 hs:k.h≠k.sb∧k.h≠k.lg
 lt:k.s<nx∧k.h<nx∧k.q<nx∧k.sb<nx∧k.lg<nx
structure Runs (k:Ids) (σ:Nat→AObj) (nx:Nat) (k':Ids) (σ':Nat→AObj) (nx':Nat):Prop where
 le:nx≤nx'
 s:k'.s=k.s
 h:k'.h=k.h
 q:k'.q=k.q∨nx≤k'.q
 sb:k'.sb=k.sb∨nx≤k'.sb
 lg:k'.lg=k.lg∨nx≤k'.lg
 keep:∀i,i<nx→i≠k.s→i≠k.h→i≠k.q→i≠k.sb→i≠k.lg→σ' i=σ i
theorem Runs.refl (k:Ids) (σ:Nat→AObj) (nx:Nat):Runs k σ nx k σ nx:=⟨Nat.le_refl _,rfl,rfl,.inl rfl,.inl rfl,.inl rfl,fun _ _ _ _ _ _ _=>rfl⟩
theorem Runs.trans {k k1 k2:Ids} {σ σ1 σ2:Nat→AObj} {nx nx1 nx2:Nat} (h:Runs k σ nx k1 σ1 nx1) (g:Runs k1 σ1 nx1 k2 σ2 nx2):Runs k σ nx k2 σ2 nx2:=by
 have:=h.le
 have:=h.q
 have:=h.sb
 have:=h.lg
 have:=g.q
 have:=g.sb
 have:=g.lg
 have h1:=h.s
 have h2:=h.h
 refine ⟨Nat.le_trans h.le g.le,g.s.trans h.s,g.h.trans h.h,by omega,by omega,by omega,fun i hi a b c d e=>?_⟩
 rw [g.keep i (by omega) (by omega) (by omega) (by omega) (by omega) (by omega),h.keep i hi a b c d e]
def Only (b:Nat) (σ:Nat→AObj) (nx:Nat) (σ':Nat→AObj) (nx':Nat):Prop:=nx≤nx'∧∀i,i<nx→i≠b→σ' i=σ i
theorem Only.runs {k:Ids} {σ σ':Nat→AObj} {nx nx':Nat} (h:Only k.s σ nx σ' nx'):Runs k σ nx k σ' nx':=⟨h.1,rfl,rfl,.inl rfl,.inl rfl,.inl rfl,fun i a b _ _ _ _=>h.2 i a b⟩
structure SOk (x:Inst) (o:Opt) (k:Ids) (s:SS) (σ:Nat→AObj) (nx:Nat):Prop where
 b:SBox x o 0 0 k s σ nx
 q:∃l,σ k.h= .box [.ref k.q,.i o.order]∧σ k.q= .arr 4 (itemsT o.order l)∧l.Perm s.q∧HeapOK o.order l
theorem SOk.only {x:Inst} {o:Opt} {k:Ids} {s t:SS} {σ σ':Nat→AObj} {nx nx':Nat} (h:SOk x o k s σ nx) (hb:SBox x o 0 0 k t σ' nx') (hq:t.q=s.q) (ho:Only k.s σ nx σ' nx'):SOk x o k t σ' nx':=by
 obtain ⟨l,h1,h2,h3,h4⟩:=h.q
 have:=h.b.lt
 have:=h.b.sh
 have:=h.b.qs
 exact ⟨hb,l,by rw [ho.2 _ (by omega) (by omega)];exact h1,by rw [ho.2 _ (by omega) (by omega)];exact h2,by rw [hq];exact h3,h4⟩
theorem SOk.stay {x:Inst} {o:Opt} {k:Ids} {s:SS} {σ σ':Nat→AObj} {nx nx':Nat} (h:SOk x o k s σ nx) (h1:nx≤nx') (h2:∀i,i<nx→σ' i=σ i):SOk x o k s σ' nx'∧Runs k σ nx k σ' nx':=by
 obtain ⟨⟨b1,b2,b3,b4,b5,b6,b7⟩,l,q1,q2,q3,q4⟩:=h
 refine ⟨⟨⟨?_,?_,?_,b4,b5,b6,by omega⟩,l,?_,?_,q3,q4⟩,h1,rfl,rfl,.inl rfl,.inl rfl,.inl rfl,fun i hi _ _ _ _ _=>h2 i hi⟩
 all_goals rw [h2 _ (by omega)];assumption
theorem offer_spec (x:Inst) (o:Opt) (st low:Int) (k:Ids) (s:SS) (n:Node) (is:Bool) (hp:n.path.length<2^31) {σ:Nat→AObj} {nx:Nat} (hb:SBox x o st low k s σ nx):
  CallQ P 129 [.ptr k.s 0,n.a,.b is] σ nx fun r σ' nx'=>r= .tup []∧SBox x o st low k (s.offer (n,is)) σ' nx'∧Only k.s σ nx σ' nx':=by
 refine spec_of Tryz.func129 rfl rfl (by simp [Tryz.f129]) fun B hB hnx hσB=>?_
 simp only [Tryz.f129] at hB ⊢
 obtain ⟨b1,b2,b3,b4,b5,b6,b7⟩:=hb
 rw [SS.cs] at b1
 have hne:¬k.s=nx:=by omega
 have hne':¬nx=k.s:=by omega
 have hsp:=split_pure n.path hp
 have fin:∀(τ:Nat→AObj) (nx':Nat) (t:SS),nx≤nx'→τ k.s= .box (t.cs x o st low k)→t.subs=s.subs→t.log=s.log→(∀i,i<nx→i≠k.s→τ i=σ i)→SBox x o st low k t τ nx'∧Only k.s σ nx τ nx':=fun τ nx' t h1 h2 h3 h4 h5=>by
  have e1:k.sb≠k.s:=fun e=>by rw [e,b1] at b2;cases b2
  have e2:k.lg≠k.s:=fun e=>by rw [e,b1] at b3;cases b3
  exact ⟨⟨h2,by rw [h3,h5 _ (by omega) e1];exact b2,by rw [h4,h5 _ (by omega) e2];exact b3,b4,b5,b6,by omega⟩,h1,h5⟩
 cases is with
 |false=>
  have e0:s.offer (n,false)=s:=by simp [SS.offer]
  rw [e0]
  refine K_run hB 100 ?_
  simp [go_sem,Node.a,Node.cs,b1,hne]
  refine K_drawn [] rfl (by rw [hB];kernel_rfl) ?_
  refine K_run hB 100 ?_
  simp [go_sem,b1,hne]
  exact fin _ _ _ (by omega) (by simp [oput,hne,b1,SS.cs]) rfl rfl fun i h1 h2=>by simp [oput,show ¬i=nx by omega]
 |true=>
  refine K_run hB 100 ?_
  simp [go_sem,Node.a,Node.cs,b1,hne]
  refine K_drawn [] rfl (by rw [hB];kernel_rfl) ?_
  by_cases c:n.cost<s.up
  ·have e0:s.offer (n,true)={s with up:=n.cost,plan:=(splitR n.path).1}:=by rw [SS.offer,if_pos ⟨rfl,c⟩]
   rw [e0]
   refine K_run hB 100 ?_
   simp [go_sem,b1,hne,hne',c]
   refine K_call rfl rfl rfl (args:=[.t (.sl (ints n.path))]) (f:=179) (by simp [go_sem]) (by simp [go_sem,hB]) ((hsp).spec _ _) ?_
   refine K_run hB 100 ?_
   simp [go_sem,b1,hne,hne',c]
   exact fin _ _ {s with up:=n.cost,plan:=(splitR n.path).1} (by omega) (by simp [oput,hne,SS.cs,planT]) rfl rfl fun i h1 h2=>by simp [oput,show ¬i=nx by omega,h2]
  ·have e0:s.offer (n,true)=s:=by rw [SS.offer,if_neg (fun h=>c h.2)]
   rw [e0]
   refine K_run hB 100 ?_
   simp [go_sem,b1,hne,c]
   exact fin _ _ _ (by omega) (by simp [oput,hne,b1,SS.cs]) rfl rfl fun i h1 h2=>by simp [oput,show ¬i=nx by omega]
theorem push_spec (x:Inst) (o:Opt) (k:Ids) (s:SS) (n:Node) (low:Int) (hx:x.stops.length<2^31) (ho:n.s.ok) (hp:n.path.length<2^31) (hs1:s.subs.length<2^30) (hs2:s.q.length<2^30) {σ:Nat→AObj} {nx:Nat} (hb:SOk x o k s σ nx):
  CallQ P 73 [.ptr k.s 0,n.a,.i low] σ nx fun r σ' nx'=>r= .tup []∧∃k',SOk x o k' (x.push low s n) σ' nx'∧Runs k σ nx k' σ' nx':=by
 refine spec_of Tryz.func73 rfl rfl (by simp [Tryz.f73]) fun B hB hnx hσB=>?_
 simp only [Tryz.f73] at hB ⊢
 have hb0:=hb
 obtain ⟨⟨b1,b2,b3,b4,b5,b6,b7⟩,l,q1,q2,q3,q4⟩:=hb
 rw [SS.cs] at b1
 have hne:¬k.s=nx:=by omega
 have hne':¬nx=k.s:=by omega
 have hne2:¬k.sb=nx:=by omega
 have hof:=of_pure x n hx ho
 have hll:=q3.length_eq
 have hil:(ints n.path).length=n.path.length:=List.length_map _
 have hnl:(nodesT s.subs).length=s.subs.length:=List.length_map _
 obtain ⟨b,hbv⟩:∃b,b=max low (x.of n):=⟨_,rfl⟩
 have hsk:=push_or x low s n
 rw [←hbv] at hsk
 have hpu:=fun (τ:Nat→AObj) (m:Nat)=>hput_spec o.order l ⟨b,n.path.length,s.subs.length⟩ (by omega) (σ:=τ) (nx:=m) (h:=k.h) (q:=k.q)
 have hne3:¬k.h=nx:=by omega
 have hne4:¬k.q=nx:=by omega
 refine K_run hB 100 ?_
 simp [go_sem,Node.a,Node.cs,b1,hne]
 refine K_drawn [] rfl (by rw [hB];kernel_rfl) ?_
 refine K_run hB 100 ?_
 simp [go_sem,Inst.a,b1,hne]
 refine K_dCallP rfl rfl rfl (args:=[x.a,n.a]) (f:=35) (by simp [go_sem,Inst.a,Node.a,Node.cs]) (hof) ?_
 by_cases c:s.up≤b
 ·have e0:x.push low s n=s:=by rcases hsk with ⟨h1,_⟩ | ⟨h1,_⟩<;>first | exact h1 | omega
  rw [e0]
  refine K_run hB 100 ?_
  simp [go_sem,b1,hne,←hbv,c]
  exact ⟨k,hb0.stay (by omega) fun i hi=>by simp [oput,show ¬i=nx by omega]⟩
 ·have e0:x.push low s n={s with q:=s.q++[⟨b,n.path.length,s.subs.length⟩],subs:=s.subs++[n]}:=by rcases hsk with ⟨h1,h2⟩ | ⟨_,h1⟩<;>first | exact h1 | omega
  rw [e0]
  refine K_run hB 100 ?_
  simp [go_sem,b1,hne,←hbv,c]
  refine K_drawnZ [] 14 _ rfl (by rw [hB];kernel_rfl) (by kernel_rfl) rfl ?_
  refine K_run hB 100 ?_
  simp [go_sem,b1,b2,hne,hne2,hil,hnl]
  refine K_callQ rfl rfl rfl (args:=[.ptr k.h 0,.agg [.i b,.i n.path.length,.i s.subs.length]]) (f:=126) (by simp [go_sem]) (by simp [go_sem,hB]) (hpu _ (nx+1) (by omega) (by simp [oput,hne3,q1]) (by omega) (by simp [oput,hne4,q2])) fun r σ' nx' hq=>?_
  obtain ⟨rfl,g1,q',g2,g3,g4,g5,g6⟩:=hq
  have f0:=g6 nx (by omega) (by omega) (by omega)
  have f1:=g6 k.s (by omega) (by omega) (by omega)
  have f2:=g6 k.sb (by omega) (by omega) (by omega)
  simp only [oput,hne,hne2,if_true,if_false,b1,b2] at f0 f1 f2
  have hcap:s.subs.length+1≤mostLen:=by show _≤4294967296;omega
  have happ:nodesT s.subs++[n.t]=nodesT (s.subs++[n]):=by simp [nodesT]
  have hnl2:=nodesT_len s.subs
  have hne5:¬k.s=k.sb:=fun e=>by rw [e,b2] at b1;cases b1
  have hne6:¬k.s=nx':=by omega
  have hne7:¬nx'=k.s:=by omega
  refine K_run hB 100 ?_
  simp [go_sem]
  refine K_drawnF [7,10] [0] rfl (by rw [hB];kernel_rfl) (by kernel_rfl) fun ht hf'=>?_
  refine K_run hB 22 ?_
  simp [go_sem,ht,hf',f0,f1,f2,hne5,hne6,hne7,hcap,hnl,hnl2,Node.t]
  have hls:k.lg≠k.sb:=fun e=>by rw [e,b2] at b3;cases b3
  have hls2:k.lg≠k.s:=fun e=>by rw [e,b1] at b3;cases b3
  have hg:∀(y z:AObj) (i:Nat),i<nx'→i≠k.s→i≠k.sb→oput (oput (oput σ' k.sb .dead) nx' y) k.s z i=σ' i:=fun y z i h1 h2 h3=>by simp [oput,h2,h3,show ¬i=nx' by omega]
  have hk:∀i,i<nx→i≠k.h→i≠k.q→σ' i=σ i:=fun i h1 h2 h3=>by rw [g6 i (by omega) h2 h3];simp [oput,show ¬i=nx by omega]
  refine ⟨by omega,{k with q:=q',sb:=nx'},⟨⟨?_,?_,?_,b4,?_,?_,?_⟩,putH o.order l ⟨b,n.path.length,s.subs.length⟩,?_,?_,(putH_perm _ _ _).trans (q3.append_right _),putH_ok q4 _⟩,?_⟩
  ·simp [oput,SS.cs]
  ·simp [oput,hne7,←happ,Node.t]
  ·exact (hg _ _ _ (by omega) hls2 hls).trans ((hk _ (by omega) (by omega) (by omega)).trans b3)
  ·simp only;omega
  ·simp only;omega
  ·simp only;omega
  ·exact (hg _ _ k.h (by omega) (by omega) (by omega)).trans g4
  ·exact (hg _ _ q' (by omega) (by omega) (by omega)).trans g5
  ·exact ⟨by omega,rfl,rfl,.inr (by simp only;omega),.inr (by simp only;omega),.inl rfl,fun i h1 h2 h3 h4 h5 _=>(hg _ _ i (by omega) h2 h5).trans (hk i h1 h3 h4)⟩
end Go.Proofs.YtackfabapangdaaGreat

set_option maxRecDepth 4000
set_option maxHeartbeats 2000000
namespace Go.Proofs.YtackfabapangdaaGreat
open Go Go.Proofs.YtackfabapangdaaGreat.R
theorem logT_len (l:List (Node×Diag)):∀y∈logT l,y.length=14:=by
 intro y hy
 simp only [logT,List.mem_map] at hy
 obtain ⟨n,_,rfl⟩:=hy
 rfl
theorem lysT_get (l:List (List Node)) {k:Nat} (h:k<l.length) (h':k<(lysT l).length):(lysT l)[k]'h'=[.sl (nodesT l[k])]:=by simp [lysT]
theorem sizes_take (ls:List (List Node)) {k:Nat} (h:k<ls.length):sizes (ls.take (k+1))=sizes (ls.take k)+ls[k].length:=by
 rw [sizes,sizes,List.take_succ_eq_append_getElem h,List.map_append,List.sum_append]
 simp
theorem sizes_mono (ls:List (List Node)) (k:Nat):sizes (ls.take k)≤sizes ls:=by
 conv=>rhs;rw [←List.take_append_drop k ls]
 rw [sizes,sizes,List.map_append,List.sum_append]
 omega
theorem diagram_spec (x:Inst) (o:Opt) (k:Ids) (s:SS) (n:Node) (hx:x.stops.length<2^31) (hw:o.width≤3000) (ho:n.s.ok) (hp:n.path.length<2^29) (hl:s.log.length<2^30) (hd:(x.build n o.width s.up).layers.length<2^30) (hst:0≤s.steps∧s.steps+sizes (x.build n o.width s.up).layers<2^62) {σ:Nat→AObj} {nx:Nat} (hb:SOk x o k s σ nx):
  CallQ P 131 [.ptr k.s 0,n.a] σ nx fun r σ' nx'=>r=(x.build n o.width s.up).a∧∃k',SOk x o k' (s.dia n (x.build n o.width s.up)) σ' nx'∧Runs k σ nx k' σ' nx':=by
 refine spec_of Tryz.func131 rfl rfl (by simp [Tryz.f131]) fun B hB hnx hσB=>?_
 simp only [Tryz.f131] at hB ⊢
 have hb0:=hb
 obtain ⟨⟨b1,b2,b3,b4,b5,b6,b7⟩,l,q1,q2,q3,q4⟩:=hb
 rw [SS.cs] at b1
 have hbd:=build_pure x n o.width s.up hx hw ho hp
 generalize x.build n o.width s.up=D at *
 have hlen:(lysT D.layers).length=D.layers.length:=List.length_map _
 have ne1:¬k.s=nx:=by omega
 have ne2:¬k.s=nx+1:=by omega
 have ne3:¬k.s=nx+1+1:=by omega
 refine K_run hB 100 ?_
 simp [go_sem,Node.a,Node.cs,b1,ne1,ne2]
 refine K_drawnF [16,17] [0,1,2,3,4,5,6,7,8,9,10,11,12,13,14,15] rfl (by rw [hB];kernel_rfl) (by kernel_rfl) fun ht hf'=>?_
 refine K_run hB 100 ?_
 simp [go_sem,ht,hf',Inst.a,b1,ne1,ne2]
 refine K_dCallP rfl rfl rfl (args:=[x.a,n.a,.i o.width,.i s.up]) (f:=182) (by simp [go_sem,Inst.a,Node.a,Node.cs]) (hbd) ?_
 refine K_run hB 100 ?_
 simp [go_sem,ht,hf',Diag.a,Diag.cs,b1,ne1,ne2,ne3,hlen]
 refine K_loopP (α:=Nat×(Nat→AObj)) (fun (j,τ)=>j≤D.layers.length∧τ k.s= .box (SS.cs x o 0 0 k {s with steps:=s.steps+sizes (D.layers.take j)})∧τ nx= .box n.cs∧τ (nx+1)= .box [.fsl [],.i 0,.b false,.i 0]∧τ (nx+1+1)= .box D.cs∧∀i,i<nx→i≠k.s→τ i=σ i)
  (fun (j,τ)=>⟨sl [(0,.ptr k.s 0),(3,.ptr nx 0),(4,.ptr (nx+1) 0),(5,.ptr (nx+1+1) 0),(25,.t (.sl (lysT D.layers))),(26,.i D.layers.length),(27,.i j)],τ,nx+1+1+1⟩) (fun a=>D.layers.length-a.1) (0,_)
  ⟨Nat.zero_le _,?_,?_,?_,?_,?_⟩ (Imp.slots (by simp [go_sem]) rfl rfl) ?_
 ·simp [oput,b1,ne1,ne2,ne3,SS.cs,sizes]
 ·simp [go_sem,oput,Node.cs]
 ·simp [go_sem,oput]
 ·simp [go_sem,oput,Diag.cs]
 ·exact fun i h1 h2=>by simp [oput,show ¬i=nx by omega,show ¬i=nx+1 by omega,show ¬i=nx+1+1 by omega]
 rintro ⟨j,τ⟩ ⟨g1,g2,g3,g4,g5,g6⟩
 rw [SS.cs] at g2
 simp only at g2
 refine K_run hB 60 ?_
 simp [go_sem]
 refine fork_dec (fun hj=>?_) (fun hj=>?_)
 ·have hgj:∀h,(lysT D.layers)[j]'h=[.sl (nodesT D.layers[j])]:=fun h=>lysT_get D.layers hj h
  have hsz:=sizes_take D.layers hj
  have hmo:=sizes_mono D.layers (j+1)
  have hnl:(nodesT D.layers[j]).length=D.layers[j].length:=List.length_map _
  have wj:IntKind.i64.wrap ((j:Int)+1)=((j+1:Nat):Int):=by rw [w64 _ (by omega)];omega
  have ws:IntKind.i64.wrap (s.steps+(sizes (D.layers.take j):Int)+(D.layers[j].length:Int))=s.steps+(sizes (D.layers.take (j+1)):Int):=by rw [w64 _ (by omega)];omega
  generalize D.layers[j]=L at *
  generalize sizes (D.layers.take j)=A at *
  generalize hA':sizes (D.layers.take (j+1))=A' at *
  simp [go_sem,hlen,hj,hgj,hnl,g2,wj,ws]
  refine Next.mk (j+1,_) ⟨by omega,?_,?_,?_,?_,?_⟩ (Imp.slots (by simp [go_sem]) rfl rfl) (by simp only;omega)
  ·simp [oput,SS.cs,hA']
  ·simp [oput,ne1,g3,show ¬nx=k.s by omega]
  ·simp [oput,g4,show ¬nx+1=k.s by omega]
  ·simp [oput,g5,show ¬nx+1+1=k.s by omega]
  ·exact fun i h1 h2=>by simp [oput,h2,g6 i h1 h2]
 ·have:j=D.layers.length:=by omega
  subst this
  rw [List.take_length] at g2
  obtain ⟨A,hA⟩:∃A,A=sizes D.layers:=⟨_,rfl⟩
  rw [←hA] at g2
  have hcap:s.log.length+1≤mostLen:=by show _≤4294967296;omega
  have hll:(logT s.log).length=s.log.length:=List.length_map _
  have hl14:=logT_len s.log
  have f1:=(g6 k.lg (by omega) (fun e=>by rw [e,b1] at b3;cases b3)).trans b3
  have ne4:¬k.s=k.lg:=fun e=>by rw [←e,b1] at b3;cases b3
  have ne5:¬k.s=nx+1+1+1:=by omega
  have ne6:¬nx+1+1+1=k.s:=by omega
  have ne7:¬k.lg=nx:=by omega
  have ne8:¬nx=k.lg:=by omega
  have ne9:¬nx+1=k.lg:=by omega
  have nea:¬nx+1+1=k.lg:=by omega
  have neb:¬nx=k.s:=by omega
  have nec:¬nx+1=k.s:=by omega
  have ned:¬nx+1+1=k.s:=by omega
  have e1:=g3
  rw [Node.cs] at e1
  have e2:=g5
  rw [Diag.cs] at e2
  simp [go_sem]
  refine K_drawnF [10,14] [0] rfl (by rw [hB];kernel_rfl) (by kernel_rfl) fun ht hf'=>?_
  refine K_run hB 22 ?_
  simp [go_sem,ht,hf',g2,f1,e1,e2,g4,ne1,ne2,ne3,ne4,ne5,ne6,ne7,ne8,ne9,nea,neb,nec,ned,hcap,hll,hl14]
  have hls:k.sb≠k.lg:=fun e=>by rw [e,b3] at b2;cases b2
  have hls2:k.sb≠k.s:=fun e=>by rw [e,b1] at b2;cases b2
  have hg:∀(y z u:AObj) (i:Nat),i<nx→i≠k.s→i≠k.lg→oput (oput (oput (oput τ k.lg .dead) (nx+1+1+1) y) k.s z) (nx+1) u i=σ i:=fun y z u i h1 h2 h3=>by simp [oput,h2,h3,show ¬i=nx+1 by omega,show ¬i=nx+1+1+1 by omega,g6 i h1 h2]
  refine ⟨by omega,{k with lg:=nx+1+1+1},⟨⟨?_,?_,?_,b4,?_,?_,?_⟩,l,?_,?_,q3,q4⟩,?_⟩
  ·simp [oput,SS.cs,SS.dia,hA,ne2]
  ·exact (hg _ _ _ k.sb (by omega) hls2 hls).trans b2
  ·simp [oput,SS.dia,logT,Done.t,Node.t,show ¬nx+1+1=nx by omega,ne6]
  ·simp only;omega
  ·simp only;omega
  ·simp only;omega
  ·exact (hg _ _ _ k.h (by omega) (by omega) (by omega)).trans q1
  ·exact (hg _ _ _ k.q (by omega) (by omega) (by omega)).trans q2
  ·exact ⟨by omega,rfl,rfl,.inl rfl,.inl rfl,.inr (by simp only;omega),fun i h1 h2 h3 h4 h5 h6=>hg _ _ _ i h1 h2 h6⟩
end Go.Proofs.YtackfabapangdaaGreat

set_option maxRecDepth 4000
set_option maxHeartbeats 2000000
namespace Go.Proofs.YtackfabapangdaaGreat
open Go Go.Proofs.YtackfabapangdaaGreat.R
structure LFine (ls:List (List Node)):Prop where
 len:ls.length<2^30
 few:∀l∈ls,l.length<2^20
 ok:∀l∈ls,∀n∈l,n.s.ok∧n.path.length<2^29
theorem offers_take (x:Inst) (s:SS) (ls:List (List Node)) {j:Nat} (h:j<ls.length):x.offers s (ls.take (j+1))=(x.offers s (ls.take j)).offer (x.bests ls[j]):=by
 rw [Inst.offers,List.take_succ_eq_append_getElem h,List.foldl_append,List.foldl_cons,List.foldl_nil]
 rfl
theorem pushes_take (x:Inst) (low:Int) (s:SS) (l:List Node) {j:Nat} (h:j<l.length):(l.take (j+1)).foldl (x.push low) s=x.push low ((l.take j).foldl (x.push low) s) l[j]:=by
 rw [List.take_succ_eq_append_getElem h,List.foldl_append,List.foldl_cons,List.foldl_nil]
theorem pushes_len (x:Inst) (low:Int):∀(l:List Node) (s:SS),(l.foldl (x.push low) s).subs.length≤s.subs.length+l.length∧(l.foldl (x.push low) s).q.length≤s.q.length+l.length
 |[],s=>⟨Nat.le_refl _,Nat.le_refl _⟩
 |n :: l,s=>by
  obtain ⟨h1,h2⟩:=pushes_len x low l (x.push low s n)
  have:(x.push low s n).subs.length≤s.subs.length+1∧(x.push low s n).q.length≤s.q.length+1:=by
   rcases push_or x low s n with ⟨e,_⟩ | ⟨_,e⟩<;>rw [e]<;>simp
  rw [List.foldl_cons,List.length_cons]
  omega
theorem branch_spec (x:Inst) (o:Opt) (k:Ids) (s:SS) (D:Diag) (hx:x.stops.length<2^31) (hd:LFine D.layers) (hs0:1≤D.sure) (hs1:D.sure≤D.layers.length) (hn1:s.subs.length<2^29) (hn2:s.q.length<2^29) {σ:Nat→AObj} {nx:Nat} (hb:SOk x o k s σ nx):
  CallQ P 133 [.ptr k.s 0,D.a] σ nx fun r σ' nx'=>r= .tup []∧∃k',SOk x o k' (x.branch D s) σ' nx'∧Runs k σ nx k' σ' nx':=by
 generalize hR:x.branch D s=R
 refine spec_of Tryz.func133 rfl rfl (by simp [Tryz.f133]) fun B hB hnx hσB=>?_
 simp only [Tryz.f133] at hB ⊢
 have hlt:=hb.b.lt
 have hlen:(lysT D.layers).length=D.layers.length:=List.length_map _
 obtain ⟨last,hlast⟩:∃n,n=D.sure-1:=⟨_,rfl⟩
 have w0:IntKind.i64.wrap ((D.sure:Int)-1)=(last:Int):=by have:=hd.len;rw [w64 _ (by omega)];omega
 have hll:last<D.layers.length:=by omega
 have hrow:∀y∈lysT D.layers,y.length=1:=fun y hy=>by
  simp only [lysT,List.mem_map] at hy
  obtain ⟨_,_,rfl⟩:=hy
  rfl
 have htk:((lysT D.layers).take last).length=last:=by rw [List.length_take];omega
 have hle:last≤D.layers.length:=by omega
 refine K_run hB 100 ?_
 simp [go_sem,Diag.a,Diag.cs,w0,hlen,if_pos hrow,htk,hle]
 refine K_loopP (α:=Nat×(Nat→AObj)×Nat) (fun (j,τ,m)=>j≤last∧SOk x o k (x.offers s (D.layers.take j)) τ m∧nx<m∧τ nx= .box D.cs∧Runs k σ nx k τ m)
  (fun (j,τ,m)=>⟨sl [(0,.ptr k.s 0),(3,.ptr nx 0),(4,.i last),(18,.t (.sl ((lysT D.layers).take last))),(19,.i last),(20,.i j)],τ,m⟩) (fun a=>last-a.1) (0,_,_)
  ⟨Nat.zero_le _,?_,Nat.lt_succ_self _,?_,?_⟩ (Imp.slots (by simp [go_sem]) rfl rfl) ?_
 ·exact (hb.stay (by omega) fun i hi=>by simp [oput,show ¬i=nx by omega]).1
 ·simp [go_sem,oput,Diag.cs]
 ·exact (hb.stay (by omega) fun i hi=>by simp [oput,show ¬i=nx by omega]).2
 rintro ⟨j,τ,m⟩ ⟨g1,g2,g3,g4,g5⟩
 refine K_run hB 60 ?_
 simp [go_sem]
 refine fork_dec (fun hj=>?_) (fun hj=>?_)
 ·have hgj:∀h,((lysT D.layers).take last)[j]'h=[.sl (nodesT D.layers[j])]:=fun h=>by rw [List.getElem_take];exact lysT_get D.layers (by omega) _
  have wj:IntKind.i64.wrap ((j:Int)+1)=((j+1:Nat):Int):=by have:=hd.len;rw [w64 _ (by omega)];omega
  have hof:=offers_take x s D.layers (show j<D.layers.length by omega)
  have hmem:D.layers[j]∈D.layers:=List.getElem_mem _
  have hbp:=bests_path (x:=x) (k:=2^29) fun n hn=>Nat.le_of_lt (hd.ok _ hmem n hn).2
  have hex:=expand_pure x D.layers[j] (x.offers s (D.layers.take j)).up hx (hd.few _ hmem) (fun n hn=>⟨(hd.ok _ hmem n hn).1,by have:=(hd.ok _ hmem n hn).2;omega⟩) (fun n hn=>by have:=(hd.ok _ hmem n hn).2;omega)
  generalize D.layers[j]=L at *
  generalize hS:x.offers s (D.layers.take j)=S at *
  generalize hS2:x.offers s (D.layers.take (j+1))=S2 at *
  have b1:=g2.b.box
  rw [SS.cs] at b1
  have hlt2:=g2.b.lt
  have ne1:¬k.s=m:=by omega
  have ne2:¬m=k.s:=by omega
  obtain ⟨bn,bi,hbk⟩:∃bn bi,x.bests L=(bn,bi):=⟨_,_,rfl⟩
  rw [hbk] at hof hbp hex
  simp only at hbp
  simp [go_sem,htk,hj,hgj]
  refine K_drawnF [15,17] [0,1,2,3,4,5,6,7,8,9,10,11,12,13,14] rfl (by rw [hB];kernel_rfl) (by kernel_rfl) fun ht hf'=>?_
  refine K_run hB 100 ?_
  simp [go_sem,ht,hf',b1,ne1,ne2,Inst.a]
  refine K_dCallP rfl rfl rfl (args:=[x.a,.t (.sl (nodesT L)),.i S.up]) (f:=180) (by simp [go_sem,Inst.a]) (hex) ?_
  refine K_run hB 100 ?_
  simp [go_sem,ht,hf',b1,ne1,ne2,expRes,Node.a,Node.cs]
  have hb':=fun τ' (h:∀i,i<m→τ' i=τ i)=>g2.stay (σ':=τ') (nx':=m+1) (by omega) h
  refine K_callQ rfl rfl rfl (args:=[.ptr k.s 0,bn.a,.b bi]) (f:=129) (by simp [go_sem,Node.a,Node.cs]) (by simp [go_sem,hB]) (offer_spec x o 0 0 k S bn bi (Nat.lt_of_le_of_lt hbp (by decide)) (nx:=m+1) (hb' _ fun i hi=>by simp [oput,show ¬i=m by omega]).1.b) fun r σ' nx' hq=>?_
  obtain ⟨rfl,c1,c2⟩:=hq
  have hτ:∀i,i<m→i≠k.s→σ' i=τ i:=fun i h1 h2=>by rw [c2.2 i (by omega) h2];simp [oput,show ¬i=m by omega]
  have c4:=c2.1
  refine K_run hB 100 ?_
  simp [go_sem,wj]
  refine Next.mk (j+1,σ',nx') ⟨by omega,?_,?_,?_,?_⟩ (Imp.slots (by simp [go_sem]) rfl rfl) (by simp only;omega)
  ·show SOk x o k (x.offers s (D.layers.take (j+1))) σ' nx'
   rw [hS2,hof]
   exact g2.only c1 (offer_up S (bn,bi)).2.2.1 ⟨by omega,hτ⟩
  ·simp only;omega
  ·exact (hτ _ g3 (by omega)).trans g4
  ·show Runs k σ nx k σ' nx'
   exact g5.trans (Only.runs ⟨by omega,hτ⟩)
 ·have:j=last:=by omega
  subst this
  have e4:=g4
  rw [Diag.cs] at e4
  generalize hS:x.offers s (D.layers.take j)=S at *
  have hgl:∀h,(lysT D.layers)[j]'h=[.sl (nodesT D.layers[j])]:=fun h=>lysT_get D.layers hll h
  have hR2:(D.layers[j]).foldl (x.push D.low) S=R:=by
   rw [←hR,Inst.branch,←hlast,hS,List.getD_eq_getElem?_getD,List.getElem?_eq_getElem hll]
   rfl
  have hmem:D.layers[j]∈D.layers:=List.getElem_mem _
  have hL1:=hd.few _ hmem
  have hL2:=hd.ok _ hmem
  generalize D.layers[j]=L at *
  have hnl:(nodesT L).length=L.length:=List.length_map _
  simp [go_sem,e4,hlen,hll,hgl,hnl]
  refine K_loopP (α:=Nat×Ids×(Nat→AObj)×Nat) (fun (i,k',τ1,m1)=>i≤L.length∧SOk x o k' ((L.take i).foldl (x.push D.low) S) τ1 m1∧nx<m1∧τ1 nx= .box D.cs∧Runs k τ m k' τ1 m1)
   (fun (i,k',τ,m)=>⟨sl [(0,.ptr k.s 0),(3,.ptr nx 0),(48,.t (.sl (nodesT L))),(49,.i L.length),(50,.i i)],τ,m⟩) (fun a=>L.length-a.1) (0,k,τ,m)
   ⟨Nat.zero_le _,g2,g3,g4,Runs.refl _ _ _⟩ (Imp.slots (by simp [go_sem]) rfl rfl) ?_
  rintro ⟨i,k',τ',m'⟩ ⟨i1,i2,i3,i4,i5⟩
  refine K_run hB 60 ?_
  simp [go_sem]
  refine fork_dec (fun hi=>?_) (fun hi=>?_)
  ·have hgi:∀h,(nodesT L)[i]'h=L[i].t:=fun h=>nodesT_get L hi
   have wi:IntKind.i64.wrap ((i:Int)+1)=((i+1:Nat):Int):=by rw [w64 _ (by omega)];omega
   have hpt:=pushes_take x D.low S L hi
   obtain ⟨hp1,hp2⟩:=pushes_len x D.low (L.take i) S
   obtain ⟨ho1,ho2⟩:=hL2 L[i] (List.getElem_mem _)
   have htl:(L.take i).length≤2^20:=by rw [List.length_take];omega
   generalize L[i]=n at *
   generalize (L.take i).foldl (x.push D.low) S=S1 at *
   generalize hS2:(L.take (i+1)).foldl (x.push D.low) S=S2 at *
   rw [Diag.cs] at i4
   have hss:S.subs=s.subs∧S.q=s.q:=by
    have:=offers_up x (D.layers.take j) s
    rw [hS] at this
    exact ⟨this.2.1,this.2.2.1⟩
   rw [hss.1] at hp1
   rw [hss.2] at hp2
   have ne1:¬nx=m':=by omega
   have es:k'.s=k.s:=i5.s
   have hb':=fun τ1 (h:∀i,i<m'→τ1 i=τ' i)=>i2.stay (σ':=τ1) (nx':=m'+1) (by omega) h
   simp [go_sem,hnl,hi,hgi,Node.t,i4,ne1]
   refine K_callQ rfl rfl rfl (args:=[.ptr k'.s 0,n.a,.i D.low]) (f:=73) (by simp [go_sem,Node.a,Node.cs,es]) (by simp [go_sem,hB]) (push_spec x o k' S1 n D.low hx ho1 (by omega) (by omega) (by omega) (nx:=m'+1) (hb' _ fun i hi=>by simp [oput,show ¬i=m' by omega]).1) fun r σ' nx' hq=>?_
   obtain ⟨rfl,k2,c1,c2⟩:=hq
   have hr:=(hb' _ fun i hi=>by simp only [oput];rw [if_neg (show ¬i=m' by omega),if_neg (show ¬i=m' by omega)]).2.trans c2
   have h0:=i2.b.lt
   have h1:=i5.q
   have h2:=i5.sb
   have h3:=i5.lg
   have h4:=i5.h
   have h5:=hb.b.lt
   have hkn:σ' nx=τ' nx:=by rw [hr.keep nx i3 (by omega) (by omega) (by omega) (by omega) (by omega)]
   have hle:=hr.le
   refine K_run hB 100 ?_
   simp [go_sem,wi]
   refine Next.mk (i+1,k2,σ',nx') ⟨by omega,?_,?_,?_,?_⟩ (Imp.slots (by simp [go_sem]) rfl rfl) (by simp only;omega)
   ·show SOk x o k2 ((L.take (i+1)).foldl (x.push D.low) S) σ' nx'
    rw [hS2,hpt]
    exact c1
   ·simp only;omega
   ·exact hkn.trans (i4.trans (by rw [Diag.cs]))
   ·exact i5.trans hr
  ·have:i=L.length:=by omega
   subst this
   rw [List.take_length,hR2] at i2
   simp [go_sem]
   exact ⟨by omega,k',i2,g5.trans i5⟩
end Go.Proofs.YtackfabapangdaaGreat

set_option maxRecDepth 4000
set_option maxHeartbeats 4000000
namespace Go.Proofs.YtackfabapangdaaGreat
open Go Go.Proofs.YtackfabapangdaaGreat.R
structure LookPre (x:Inst) (w:Int) (n:Node):Prop where
 st:x.stops.length<2^31
 wi:w≤3000
 ok:n.s.ok
 path:n.path.length<2^28
 nar:∀up,0≤(x.narrow n w up).2.2∧(x.narrow n w up).2.2<2^40∧(x.narrow n w up).1.path.length<2^31
 lay:∀up,LFine (x.build n w up).layers∧sizes (x.build n w up).layers<2^40
 most:x.mostN w<2^20
 exa:∀up,0≤(x.exact n up (x.mostN w)).2.2.2∧(x.exact n up (x.mostN w)).2.2.2<2^40∧(x.exact n up (x.mostN w)).1.path.length<2^31
structure SPre (s:SS):Prop where
 steps:0≤s.steps∧s.steps<2^60
 subs:s.subs.length<2^29
 q:s.q.length<2^29
 log:s.log.length<2^29
theorem SOk.turn {x:Inst} {o:Opt} {k:Ids} {s:SS} {σ:Nat→AObj} {nx:Nat} (h:SOk x o k s σ nx) {t:SS} {τ:Nat→AObj} {nx':Nat} (h1:τ k.s= .box (t.cs x o 0 0 k)) (h2:t.subs=s.subs) (h3:t.q=s.q) (h4:t.log=s.log) (ho:Only k.s σ nx τ nx'):SOk x o k t τ nx':=by
 obtain ⟨b1,b2,b3,b4,b5,b6,b7⟩:=h.b
 rw [SS.cs] at b1
 have e1:k.sb≠k.s:=fun e=>by rw [e,b1] at b2;cases b2
 have e2:k.lg≠k.s:=fun e=>by rw [e,b1] at b3;cases b3
 have:=ho.1
 exact h.only ⟨h1,by rw [h2,ho.2 _ (by omega) e1];exact b2,by rw [h4,ho.2 _ (by omega) e2];exact b3,b4,b5,b6,by omega⟩ h3 ho
theorem slook_spec (x:Inst) (o:Opt) (k:Ids) (s:SS) (n:Node) (hp:LookPre x o.width n) (hs:SPre s) {σ:Nat→AObj} {nx:Nat} (hb:SOk x o k s σ nx):
  CallQ P 77 [.ptr k.s 0,n.a] σ nx fun r σ' nx'=>r= .tup []∧∃k',SOk x o k' (x.lookS o.width s n) σ' nx'∧Runs k σ nx k' σ' nx':=by
 generalize hR:x.lookS o.width s n=R
 refine spec_of Tryz.func77 rfl rfl (by simp [Tryz.f77]) fun B hB hnx hσB=>?_
 simp only [Tryz.f77] at hB ⊢
 have hlt:=hb.b.lt
 have b1:=hb.b.box
 rw [SS.cs] at b1
 have hn:=nbest_pure x n o.width s.up hp.st hp.wi hp.ok (by have:=hp.path;omega)
 obtain ⟨p1,p2,p3⟩:=hp.nar s.up
 have hst:=hs.steps
 rw [Inst.lookS,SS.nar] at hR
 rw [naRes] at hn
 generalize (x.narrow n o.width s.up).2.2=v at *
 generalize (x.narrow n o.width s.up).2.1=bi at *
 generalize (x.narrow n o.width s.up).1=bn at *
 have ne1:¬k.s=nx:=by omega
 have ne2:¬k.s=nx+1:=by omega
 have ne3:¬nx=k.s:=by omega
 have ne4:¬nx+1=k.s:=by omega
 have w1:IntKind.i64.wrap (s.steps+v)=s.steps+v:=w64 _ (by omega)
 refine K_run hB 100 ?_
 simp [go_sem,Node.a,Node.cs,b1,ne1]
 refine K_drawnF [20,21] [0,1,2,3,4,5,6,7,8,9,10,11,12,13,14,15,16,17,18,19] rfl (by rw [hB];kernel_rfl) (by kernel_rfl) fun ht hf'=>?_
 refine K_run hB 100 ?_
 simp [go_sem,ht,hf',Inst.a,b1,ne1]
 refine K_dCallP rfl rfl rfl (args:=[x.a,n.a,.i o.width,.i s.up]) (f:=130) (by simp [go_sem,Inst.a,Node.a,Node.cs]) (hn) ?_
 refine K_run hB 100 ?_
 simp [go_sem,ht,hf',Inst.a,b1,ne1,ne2,ne3,ne4,w1,Node.a,Node.cs]
 have hs1:=fun (τ:Nat→AObj) (h1:τ k.s= .box ((s.plus v).cs x o 0 0 k)) (h2:∀i,i<nx→i≠k.s→τ i=σ i)=>hb.turn (t:=s.plus v) (nx':=nx+1+1) h1 rfl rfl rfl ⟨by omega,h2⟩
 refine K_callQ rfl rfl rfl (args:=[.ptr k.s 0,bn.a,.b bi]) (f:=129) (by simp [go_sem,Node.a,Node.cs]) (by simp [go_sem,hB]) (offer_spec x o 0 0 k (s.plus v) bn bi p3 (nx:=nx+1+1) (hs1 _ (by simp [oput,SS.cs,SS.plus]) fun i h1 h2=>by simp [oput,h2,show ¬i=nx by omega,show ¬i=nx+1 by omega]).b) fun r σ2 nx2 hq=>?_
 obtain ⟨rfl,c1,c2⟩:=hq
 have c3:=(hs1 _ (by simp [oput,SS.cs,SS.plus]) fun i h1 h2=>by simp only [oput];rw [if_neg h2,if_neg (show ¬i=nx+1 by omega),if_neg (show ¬i=nx+1 by omega),if_neg (show ¬i=nx by omega)]).only c1 (offer_up (s.plus v) (bn,bi)).2.2.1 c2
 have hle2:=c2.1
 have n2:σ2 nx= .box n.cs:=by rw [c2.2 nx (by omega) ne3];simp [oput,ne3,Node.cs]
 have r2:Runs k σ nx k σ2 nx2:=Only.runs ⟨by omega,fun i h1 h2=>by rw [c2.2 i (by omega) h2];simp [oput,h2,show ¬i=nx by omega,show ¬i=nx+1 by omega]⟩
 have hpre:((s.plus v).offer (bn,bi)).subs=s.subs∧((s.plus v).offer (bn,bi)).q=s.q∧((s.plus v).offer (bn,bi)).log=s.log∧((s.plus v).offer (bn,bi)).steps=s.steps+v:=(offer_up (s.plus v) (bn,bi)).2
 generalize (s.plus v).offer (bn,bi)=t at *
 obtain ⟨y1,y2,y3,y4⟩:=hpre
 have:=hs.subs
 have:=hs.q
 have:=hs.log
 obtain ⟨l1,l2⟩:=hp.lay t.up
 have hdok:=build_ok x n o.width t.up
 have hds:=hdok.pos
 have hds2:=hdok.le
 rw [Node.cs] at n2
 refine K_run hB 100 ?_
 simp [go_sem,n2]
 refine K_callQ rfl rfl rfl (args:=[.ptr k.s 0,n.a]) (f:=131) (by simp [go_sem,Node.a,Node.cs]) (by simp [go_sem,hB]) (diagram_spec x o k t n hp.st hp.wi hp.ok (by have:=hp.path;omega) (by rw [y3];omega) l1.len (by omega) (σ:=σ2) (nx:=nx2) c3) fun r σ3 nx3 hq=>?_
 obtain ⟨rfl,k3,d1,d2⟩:=hq
 have hle3:=d2.le
 have n3:σ3 nx=σ2 nx:=d2.keep nx (by omega) (by omega) (by omega) (by omega) (by omega) (by omega)
 rw [n2] at n3
 rw [Inst.lookD] at hR
 generalize hD:x.build n o.width t.up=D at *
 have r3:=r2.trans d2
 have z1:=r3.s
 have z2:=d2.q
 have z3:=d2.sb
 have z4:=d2.lg
 have z5:=d2.h
 have hlt3:=d1.b.lt
 have b3:=d1.b.box
 rw [SS.cs,z1] at b3
 have hup:(t.dia n D).up=t.up:=rfl
 have hts:(t.dia n D).steps=t.steps+sizes D.layers:=rfl
 have htu:(t.dia n D).subs=t.subs∧(t.dia n D).q=t.q:=⟨rfl,rfl⟩
 rw [hup,hts] at b3
 have m1:¬k.s=nx3:=by omega
 have m2:¬nx=nx3:=by omega
 have m3:¬nx3=k.s:=by omega
 refine K_run hB 100 ?_
 simp [go_sem,Diag.a,Diag.cs]
 refine K_drawn [] rfl (by rw [hB];kernel_rfl) ?_
 by_cases ca:t.up≤D.low
 ·rw [if_pos ca] at hR
  subst hR
  refine K_run hB 100 ?_
  simp [go_sem,b3,m1,ca]
  have hfin:=d1.stay (σ':=oput (oput σ3 nx3 (.box [.fsl [],.i 0,.b false,.i 0])) nx3 (.box D.cs)) (nx':=nx3+1) (by omega) fun i hi=>by simp [oput,show ¬i=nx3 by omega]
  rw [Diag.cs] at hfin
  exact ⟨by omega,k3,hfin.1,r3.trans hfin.2⟩
 rw [if_neg ca] at hR
 by_cases cb:D.exact=true
 ·rw [if_pos cb] at hR
  have he:=best_pure x n t.up (x.mostN o.width) hp.st (by have:=hp.most;omega) hp.ok (by have:=hp.path;omega)
  obtain ⟨u1,u2,u3⟩:=hp.exa t.up
  have hmx:max o.width (x.stops.length:Int)=(x.mostN o.width:Int):=by unfold Inst.mostN;omega
  rw [SS.exa,hup] at hR
  rw [exRes4] at he
  generalize (x.exact n t.up (x.mostN o.width)).2.2.2=ve at *
  generalize (x.exact n t.up (x.mostN o.width)).2.2.1=vw at *
  generalize (x.exact n t.up (x.mostN o.width)).2.1=ei at *
  generalize (x.exact n t.up (x.mostN o.width)).1=en at *
  have g1:¬k.s=nx3+1:=by omega
  have g2:¬nx=nx3+1:=by omega
  have g3:¬nx3+1=k.s:=by omega
  have g4:¬nx=k.s:=by omega
  have w2:IntKind.i64.wrap (t.steps+(sizes D.layers:Int)+ve)=t.steps+(sizes D.layers:Int)+ve:=w64 _ (by omega)
  refine K_run hB 100 ?_
  simp [go_sem,b3,m1,ca,cb]
  refine K_drawnF [28,29] [0,1,2,3,4,5,6,7,8,9,10,11,12,13,14,15,16,17,18,19,20,21,22,23,24,25,26,27] rfl (by rw [hB];kernel_rfl) (by kernel_rfl) fun ht hf'=>?_
  refine K_run hB 100 ?_
  simp [go_sem,ht,hf',Inst.a,b3,n3,m1,m2,hmx]
  refine K_dCallP rfl rfl rfl (args:=[x.a,n.a,.i t.up,.i (x.mostN o.width)]) (f:=132) (by simp [go_sem,Inst.a,Node.a,Node.cs]) (he) ?_
  refine K_run hB 100 ?_
  simp [go_sem,ht,hf',Inst.a,b3,n3,m1,m2,m3,g1,g2,g3,g4,hmx,w2,Node.a,Node.cs]
  have hs4:=fun (τ:Nat→AObj) (h1:τ k.s= .box (((t.dia n D).plus ve).cs x o 0 0 k3)) (h2:∀i,i<nx3→i≠k.s→τ i=σ3 i)=>d1.turn (t:=(t.dia n D).plus ve) (τ:=τ) (nx':=nx3+1+1) (by rw [z1];exact h1) rfl rfl rfl ⟨by omega,by rw [z1];exact h2⟩
  refine K_callQ rfl rfl rfl (args:=[.ptr k.s 0,en.a,.b ei]) (f:=129) (by simp [go_sem,Node.a,Node.cs]) (by simp [go_sem,hB]) (z1 ▸ offer_spec x o 0 0 k3 ((t.dia n D).plus ve) en ei u3 (nx:=nx3+1+1) (hs4 _ (by simp [oput,SS.cs,SS.plus,hup,hts]) fun i h1 h2=>by simp [oput,h2,show ¬i=nx3 by omega,show ¬i=nx3+1 by omega]).b) fun r σ4 nx4 hq=>?_
  obtain ⟨rfl,e1,e2⟩:=hq
  have e3:=fun (τ:Nat→AObj) (hτ:Only k.s τ (nx3+1+1) σ4 nx4) h1 h2=>(hs4 τ h1 h2).only e1 (offer_up ((t.dia n D).plus ve) (en,ei)).2.2.1 (by rw [z1];exact hτ)
  have e4:=e3 _ e2 (by simp [oput,SS.cs,SS.plus,hup,hts]) fun i h1 h2=>by simp only [oput];rw [if_neg h2,if_neg (show ¬i=nx3+1 by omega),if_neg (show ¬i=nx3+1 by omega),if_neg (show ¬i=nx3 by omega),if_neg (show ¬i=nx3 by omega)]
  have e5:=e2.1
  have e6:Only k3.s σ3 nx3 σ4 nx4:=⟨by omega,fun i h1 h2=>by rw [z1] at h2;rw [e2.2 i (by omega) h2];simp [oput,h2,show ¬i=nx3 by omega,show ¬i=nx3+1 by omega]⟩
  rw [hR] at e4
  refine K_run hB 100 ?_
  simp [go_sem]
  exact ⟨by omega,k3,e4,r3.trans e6.runs⟩
 ·rw [if_neg cb] at hR
  have hcb:D.exact=false:=by simpa using cb
  refine K_run hB 100 ?_
  simp [go_sem,b3,m1,ca,hcb]
  have hfin:=d1.stay (σ':=oput (oput σ3 nx3 (.box [.fsl [],.i 0,.b false,.i 0])) nx3 (.box D.cs)) (nx':=nx3+1) (by omega) fun i hi=>by simp [oput,show ¬i=nx3 by omega]
  rw [Diag.cs,hcb] at hfin
  refine K_callQ rfl rfl rfl (args:=[.ptr k.s 0,D.a]) (f:=133) (by simp [go_sem,Diag.a,Diag.cs,hcb]) (by simp [go_sem,hB]) (z1 ▸ branch_spec x o k3 (t.dia n D) D hp.st l1 (by omega) (by omega) (by rw [htu.1,y1];omega) (by rw [htu.2,y2];omega) hfin.1) fun r σ4 nx4 hq=>?_
  obtain ⟨rfl,k4,e1,e2⟩:=hq
  have e3:=(r3.trans hfin.2).trans e2
  rw [hR] at e1
  refine K_run hB 100 ?_
  simp [go_sem]
  exact ⟨e3.le,k4,e1,e3⟩
end Go.Proofs.YtackfabapangdaaGreat

set_option maxRecDepth 4000
set_option maxHeartbeats 1000000
namespace Go.Proofs.YtackfabapangdaaGreat
open Go Go.Proofs.YtackfabapangdaaGreat.R
theorem buildGo_fine {x:Inst} (w up dp:Int):∀(f:Nat) (ls:List (List Node)) (low:Int) (sq:Option Nat) (l:List Node) (K:Nat),WFine l K→
  ∀k∈(x.buildGo w up dp f ls low sq l).layers,k∈ls∨(WFine k (K+f)∧(k=l∨k.length≤x.mostN w))
 |0,ls,low,sq,l,K,_,k,hk=>.inl hk
 |f+1,ls,low,sq,l,K,h,k,hk=>by
  have push:k∈ls++[l]→k∈ls∨(WFine k (K+(f+1))∧(k=l∨k.length≤x.mostN w)):=fun hk=>by
   rcases List.mem_append.1 hk with hk | hk
   ·exact .inl hk
   ·rw [List.mem_singleton.1 hk]
    exact .inr ⟨⟨h.ok,fun n hn=>by have:=h.path n hn;omega⟩,.inl rfl⟩
  rw [Inst.buildGo] at hk
  split at hk
  ·exact .inl hk
  split at hk
  ·exact push hk
  split at hk
  ·rcases buildGo_fine w up dp f _ _ _ _ (K+1) (h.next up |>.squeeze w) k hk with h1 | ⟨h1,h2⟩
   ·exact push h1
   ·refine .inr ⟨⟨h1.ok,fun n hn=>by have:=h1.path n hn;omega⟩,.inr ?_⟩
    rcases h2 with rfl | h2
    ·exact squeeze_len x _ w
    ·exact h2
  ·rename_i hno
   rcases buildGo_fine w up dp f _ _ _ _ (K+1) (h.next up) k hk with h1 | ⟨h1,h2⟩
   ·exact push h1
   ·refine .inr ⟨⟨h1.ok,fun n hn=>by have:=h1.path n hn;omega⟩,.inr ?_⟩
    rcases h2 with rfl | h2
    ·omega
    ·exact h2
theorem build_fine {x:Inst} {n:Node} (ho:n.s.ok) (w up:Int):∀k∈(x.build n w up).layers,WFine k (n.path.length+41)∧(k=[n]∨k.length≤x.mostN w):=by
 intro k hk
 have hd:=deep_le x
 rcases buildGo_fine w up _ _ _ _ _ _ n.path.length ⟨fun m hm=>by rw [List.mem_singleton.1 hm];exact ho,fun m hm=>by rw [List.mem_singleton.1 hm];exact Nat.le_refl _⟩ k hk with h1 | ⟨h1,h2⟩
 ·cases h1
 ·exact ⟨⟨h1.ok,fun m hm=>by have:=h1.path m hm;omega⟩,h2⟩
theorem rsameD_pure (d:Diag) (h1:d.layers.length<2^31) (h2:∀l∈d.layers,l.length<2^31∧∀n∈l,n.path.length<2^31):Pure P 71 [d.a,d.a] (.b true):=by
 refine pure_of Tryz.func71 rfl rfl (by simp [Tryz.f71]) (by simp [bnd,bnd.bndL,Diag.a,Diag.cs]) (by simp [bnd,bnd.bndL]) fun B hB hnx=>?_
 simp only [Tryz.f71] at hB ⊢
 have hyl:(lysT d.layers).length=d.layers.length:=List.length_map _
 have hyg:∀(k:Nat) (h:k<d.layers.length),(lysT d.layers)[k]'(by rw [hyl];exact h)=[.sl (nodesT d.layers[k])]:=fun k h=>by simp [lysT]
 have hcs:d.cs=[.t (.sl (lysT d.layers)),.i d.low,.b d.exact,.i d.sure]:=rfl
 generalize lysT d.layers=Y at *
 generalize d.layers=L at *
 have hee:(!(d.exact==d.exact))=false:=by simp
 refine K_run hB 100 ?_
 simp [go_sem,Diag.a,hcs,hyl]
 refine K_loopP (α:=Nat) (fun k=>k≤L.length) (fun k=>⟨sl [(2,.ptr 0 0),(3,.ptr 1 0),(5,.i k)],oput (oput noObj 0 (.box [.t (.sl Y),.i d.low,.b d.exact,.i d.sure])) 1 (.box [.t (.sl Y),.i d.low,.b d.exact,.i d.sure]),2⟩) (fun k=>L.length-k) 0 (Nat.zero_le _) (Imp.slots (by simp [go_sem]) rfl rfl) ?_
 intro k g1
 refine K_run hB 60 ?_
 simp [go_sem,hyl]
 refine fork_dec (fun hk=>?_) (fun hk=>?_)
 ·have hkk:IntKind.i64.wrap ((k:Int)+1)=((k+1:Nat):Int):=by rw [w64 ((k:Int)+1) (by omega)];rfl
  have hget:∀h:k<Y.length,Y[k]'h=[.sl (nodesT L[k])]:=fun h=>hyg k hk
  obtain ⟨b1,b2⟩:=h2 L[k] (List.getElem_mem _)
  generalize L[k]=l at *
  have hs:=rsameN_pure l l (by omega) (by omega) (fun n h=>by have:=b2 n h;omega) (fun n h=>by have:=b2 n h;omega)
  rw [decide_eq_true rfl] at hs
  simp [go_sem]
  refine K_drawn [] rfl (by rw [hB];kernel_rfl) ?_
  refine K_run hB 100 ?_
  simp [go_sem,hyl,hk,hget]
  refine K_dCallP rfl rfl rfl (args:=[.t (.sl (nodesT l)),.t (.sl (nodesT l))]) (f:=70) (by simp [go_sem]) (hs) ?_
  refine K_run hB 100 ?_
  simp [go_sem,hkk]
  exact Next.mk (k+1) (by omega) (Imp.slots (by simp [go_sem]) rfl rfl) (by omega)
 ·have:k=L.length:=by omega
  subst this
  simp [go_sem]
end Go.Proofs.YtackfabapangdaaGreat

set_option maxRecDepth 4000
namespace Go.Proofs.YtackfabapangdaaGreat
open Go Go.Proofs.YtackfabapangdaaGreat.R
theorem exGo_path (x:Inst) (most:Int) (k:Nat):∀(d:Nat) (st:Node×Bool×Int) (l:List Node) (n:Int) {K:Nat},Level x l d K→K≤k→st.1.path.length≤k→(x.exGo most d st l n).1.path.length≤k
 |0,st,l,n,K,_,_,h=>h
 |d+1,st,l,n,K,h1,h2,h3=>by
  rw [Inst.exGo]
  split
  ·exact h3
  ·split
   ·exact h3
   ·refine exGo_path x most k d _ _ _ (h1.next st.2.2) h2 ?_
    unfold Inst.look
    split
    ·exact bests_path fun m hm=>by have:=h1.path m hm;omega
    ·exact h3
end Go.Proofs.YtackfabapangdaaGreat

set_option maxRecDepth 4000
set_option maxHeartbeats 4000000
namespace Go.Proofs.YtackfabapangdaaGreat
open Go Go.Proofs.YtackfabapangdaaGreat.R
theorem look_pre {x:Inst} {p:Nat} (hx:x.Fit p) (hm:x.may=true) (hp:p≤3) {n:Node} (ht:Track x n) {w:Int} (hw:w≤40):LookPre x w n:=by
 have hlen:=hx.len
 have hfew:=ht.few
 have hml:=meas_le x n.s
 have hmost:x.mostN w≤40:=by unfold Inst.mostN;omega
 have hlay:=fun up=>build_fine (x:=x) ht.is.ok w up
 have hdp:=(deep_meas hm).2
 have hcnt:∀up,(x.build n w up).layers.length≤41:=fun up=>by
  have:=build_count x n w up
  omega
 refine ⟨by omega,by omega,ht.is.ok,by omega,fun up=>?_,fun up=>⟨⟨by have:=hcnt up;omega,fun l hl=>?_,fun l hl m hm=>?_⟩,?_⟩,by omega,fun up=>?_⟩
 ·obtain ⟨n1,n2⟩:=narrow_steps x n w up (by omega)
  have hmu:widthN w*x.meas n.s≤3000*40:=Nat.mul_le_mul (by unfold widthN;split<;>omega) hml
  have:=narrow_path x n w up ht.is.ok
  omega
 ·rcases (hlay up l hl).2 with rfl | h
  ·simp
  ·omega
 ·have h:=(hlay up l hl).1
  exact ⟨h.ok m hm,by have:=h.path m hm;omega⟩
 ·have h:=sizes_le 41 (x.build n w up).layers fun l hl=>by
   rcases (hlay up l hl).2 with rfl | h
   ·simp
   ·omega
  have:41*(x.build n w up).layers.length≤41*41:=Nat.mul_le_mul_left _ (hcnt up)
  omega
 ·have h1:0≤(x.exact n up (x.mostN w)).2.2.2∧(x.exact n up (x.mostN w)).2.2.2≤0+3000*((x.meas n.s+1:Nat):Int):=exGo_cnt x _ (by omega) (by omega) _ _ _ _ (Int.le_refl _) (by omega)
  have h2:(x.exact n up (x.mostN w)).1.path.length≤n.path.length+41:=exGo_path x _ (n.path.length+41) _ _ _ _ (Level.root x n ht.is.ok) (by omega) (Nat.zero_le _)
  omega
theorem len_sum {α:Type} (f:α→Nat):∀(l:List α),(∀e∈l,1≤f e)→l.length≤(l.map f).sum
 |[],_=>Nat.zero_le _
 |e :: l,h=>by
  have h1:=len_sum f l fun a ha=>h a (List.mem_cons_of_mem _ ha)
  have h2:=h e List.mem_cons_self
  rw [List.length_cons,List.map_cons,List.sum_cons]
  omega
theorem Going.pre {x:Inst} {p:Nat} (hx:x.Fit p) (hm:x.may=true) (hp:p≤3) {s:SS} (h:Going x p s):SPre s:=by
 have h1:=h.small.subs
 have h2:=h.small.log
 have h3:=h.small.steps
 have h4:s.q.length≤s.mass p:=len_sum _ _ fun e he=>by
  obtain ⟨n,hn⟩:=h.inv.nos e he
  rw [getD_of hn]
  exact wt_pos hx hm hp (h.inv.track n (List.mem_of_getElem? hn))
 exact ⟨by omega,by omega,by omega,by omega⟩
def SRes.a (r:SRes):AV:=.agg [.i r.status,.t (.sl (planT r.plan)),.i r.up,.i r.low,.i r.steps,.t (.sl (logT r.log))]
def Inst.search (x:Inst) (o:Opt):SRes:=
 if x.may=true then if o.mayB=true then (x.runGo o 1850 x.start).getD ⟨0,[],inf,0,0,[]⟩ else ⟨1,[],inf,0,0,[]⟩ else ⟨0,[],inf,0,0,[]⟩
theorem search_is {x:Inst} {p:Nat} (hx:x.Fit p) (hm:x.may=true) (hp:p≤3) {o:Opt} (ho:o.mayB=true) (hw:o.width≤40):x.runGo o 1850 x.start=some (x.search o):=by
 have hg:=start_going hx hm hp
 have:=hg.small.subs
 obtain ⟨r,hr⟩:=run_ends hx hm hp o hw 1850 x.start hg (by omega)
 rw [Inst.search,if_pos hm,if_pos ho,hr]
 rfl
theorem new_spec (o:Int) {σ:Nat→AObj} {nx:Nat}:CallSpec P 72 [.i o] σ nx (.ptr nx 0) (oput σ nx (.box [.fsl [],.i o])) (nx+1):=by
 refine CallQ.spec (spec_of Tryz.func72 rfl rfl (by simp [Tryz.f72]) fun B hB hnx hσB=>?_)
 simp only [Tryz.f72] at hB ⊢
 refine K_run hB 100 ?_
 simp [go_sem]
theorem ends_spec (x:Inst) (o:Opt) (k:Ids) (s:SS) {σ:Nat→AObj} {nx:Nat} (hb:SOk x o k s σ nx):
  CallQ P 75 [.ptr k.s 0] σ nx fun r σ' nx'=>r= .agg [.i s.ends.status,.t (.sl (planT s.plan)),.i s.up,.i s.up,.i s.steps,.ref k.lg]∧nx≤nx'∧∀i,i<nx→i≠k.s→σ' i=σ i:=by
 refine spec_of Tryz.func75 rfl rfl (by simp [Tryz.f75]) fun B hB hnx hσB=>?_
 simp only [Tryz.f75] at hB ⊢
 have b1:=hb.b.box
 rw [SS.cs] at b1
 have hlt:=hb.b.lt
 have ne1:¬k.s=nx:=by omega
 have ne2:¬nx=k.s:=by omega
 by_cases c:s.up<inf
 ·have e:s.ends.status=2:=if_pos c
  have c':¬(1152921504606846976≤s.up):=by
   have:inf=1152921504606846976:=rfl
   omega
  refine K_run hB 100 ?_
  simp [go_sem,b1,ne1,ne2,c',e]
  exact fun i h1 h2=>by simp [oput,h2,show ¬i=nx by omega]
 ·have e:s.ends.status=3:=if_neg c
  have c':1152921504606846976≤s.up:=by
   have:inf=1152921504606846976:=rfl
   omega
  refine K_run hB 100 ?_
  simp [go_sem,b1,ne1,ne2,c',e]
  exact fun i h1 h2=>by simp [oput,h2,show ¬i=nx by omega]
end Go.Proofs.YtackfabapangdaaGreat

set_option maxRecDepth 4000
set_option maxHeartbeats 4000000
namespace Go.Proofs.YtackfabapangdaaGreat
open Go Go.Proofs.YtackfabapangdaaGreat.R
structure RI (x:Inst) (o:Opt) (p:Nat) (R:SRes) (f:Nat) (s:SS) (k:Ids) (τ:Nat→AObj) (m:Nat):Prop where
 run:x.runGo o f s=some R
 go:Going x p s
 ok:SOk x o k s τ m
 ids:k.s=4∧3≤k.h∧3≤k.q∧3≤k.sb∧3≤k.lg
 b0:τ 0= .box [.i x.pairs,.i x.cars,.i x.room,.t (.sl (x.stops.map Stop.t))]
 b1:τ 1= .box [.i o.width,.i o.order,.i o.budget]
 b2:τ 2= .box [.i 0,.fsl [],.i 0,.i 0,.i 0,.fsl []]
theorem RI.next {x:Inst} {o:Opt} {p:Nat} {R:SRes} {f g:Nat} {s t:SS} {k k':Ids} {τ τ':Nat→AObj} {m m':Nat} (h:RI x o p R f s k τ m) (h1:x.runGo o g t=some R) (h2:Going x p t) (h3:SOk x o k' t τ' m') (h4:Runs k τ m k' τ' m'):RI x o p R g t k' τ' m':=by
 have:=h.ids
 have:=h.ok.b.lt
 have h5:=h4.s
 have h6:=h4.h
 have:=h4.q
 have:=h4.sb
 have:=h4.lg
 refine ⟨h1,h2,h3,by omega,?_,?_,?_⟩
 ·rw [h4.keep 0 (by omega) (by omega) (by omega) (by omega) (by omega) (by omega)];exact h.b0
 ·rw [h4.keep 1 (by omega) (by omega) (by omega) (by omega) (by omega) (by omega)];exact h.b1
 ·rw [h4.keep 2 (by omega) (by omega) (by omega) (by omega) (by omega) (by omega)];exact h.b2
theorem srun_pure (x:Inst) (o:Opt) (hl:x.stops.length≤7) (hw:o.width≤40):Pure P 31 [x.a,o.a] ((x.search o).a):=by
 generalize hR:x.search o=R
 refine pure_of Tryz.func31 rfl rfl (by simp [Tryz.f31]) (by simp [bnd,bnd.bndL,Inst.a,Opt.a,Opt.cs]) (by simp [bnd,bnd.bndL,SRes.a]) fun B hB hnx=>?_
 simp only [Tryz.f31] at hB ⊢
 have hmy:=may_pure x (by omega)
 have hom:=omay_pure o
 refine K_run hB 100 ?_
 simp [go_sem,Inst.a,Opt.a,Opt.cs]
 refine K_scopeN (α:=Unit) 0 (fun _=>False) (fun _=>⟨sl [],noObj,0⟩) (fun _=>0) rfl (fun _ h=>h.elim) ?_
 intro J hJ
 refine K_run hB 100 ?_
 simp [go_sem]
 refine K_call rfl rfl rfl (args:=[x.a]) (f:=33) (by simp [go_sem,Inst.a]) (by simp [go_sem,hB]) ((hmy).spec _ _) ?_
 cases cm:x.may with
 |false=>
  rw [Inst.search,if_neg (by simp [cm])] at hR
  subst hR
  refine K_run hB 100 ?_
  simp [go_sem]
  rfl
 |true=>
  refine K_run hB 100 ?_
  simp [go_sem]
  refine K_call rfl rfl rfl (args:=[o.a]) (f:=34) (by simp [go_sem,Opt.a,Opt.cs]) (by simp [go_sem,hB]) ((hom).spec _ _) ?_
  cases co:o.mayB with
  |false=>
   rw [Inst.search,if_pos cm,if_neg (by simp [co])] at hR
   subst hR
   refine K_run hB 100 ?_
   simp [go_sem]
   rfl
  |true=>
   refine K_run hB 100 ?_
   simp [go_sem]
   refine K_drawnF [5,7] [0,1,2] rfl (by rw [hB];kernel_rfl) (by kernel_rfl) fun ht hf'=>?_
   refine K_run hB 100 ?_
   simp [go_sem,ht,hf']
   refine K_dCall rfl rfl rfl (args:=[.i o.order]) (f:=72) (by simp [go_sem]) (new_spec o.order) (by decide) (okPends_does (by simp [go_sem])) ?_
   refine K_run hB 100 ?_
   simp [go_sem,ht,hf']
   obtain ⟨τ0,hτ0⟩:∃τ0:Nat→AObj,τ0=ob [(0,.box [.i x.pairs,.i x.cars,.i x.room,.t (.sl (x.stops.map Stop.t))]),(1,.box [.i o.width,.i o.order,.i o.budget]),(2,.box [.i 0,.fsl [],.i 0,.i 0,.i 0,.fsl []]),(3,.box [.ref 5,.i o.order]),(4,.box (SS.cs x o 0 0 ⟨4,3,5,7,6⟩ ⟨[],[],inf,[],0,[]⟩)),(5,.arr 4 []),(6,.arr 14 []),(7,.arr 10 [])]:=⟨_,rfl⟩
   refine K_imp (t:=⟨sl [(2,.ptr 0 0),(3,.ptr 1 0),(4,.ptr 2 0),(5,.ptr 4 0),(26,.ptr 4 0),(27,.agg [.i x.pairs,.i x.cars,.i x.room,.t (.sl (x.stops.map Stop.t))])],τ0,8⟩)
    ((Imp.ownB (b:=3) (off:=0) (sz:=4) (cs:=[.fsl [],.i o.order]) (by simp [oput]) rfl).trans
    ((Imp.ownB (b:=4) (off:=12) (sz:=14) (cs:=[.i x.pairs,.i x.cars,.i x.room,.t (.sl (x.stops.map Stop.t)),.i o.width,.i o.order,.i o.budget,.i 0,.fsl [],.i inf,.i 0,.i 0,.fsl [],.fsl [],.ptr 3 0]) (by simp [oput];rfl) rfl).trans
    ((Imp.ownB (b:=4) (off:=13) (sz:=10) (cs:=[.i x.pairs,.i x.cars,.i x.room,.t (.sl (x.stops.map Stop.t)),.i o.width,.i o.order,.i o.budget,.i 0,.fsl [],.i inf,.i 0,.i 0,.ref 6,.fsl [],.ptr 3 0]) (by simp [oput]) rfl).trans
    ((Imp.looseB (b:=4) (cs:=[.i x.pairs,.i x.cars,.i x.room,.t (.sl (x.stops.map Stop.t)),.i o.width,.i o.order,.i o.budget,.i 0,.fsl [],.i inf,.i 0,.i 0,.ref 6,.ref 7,.ptr 3 0]) (by simp [oput])).trans
    (Imp.slots (by simp [go_sem]) ?_ rfl))))) ?_
   ·funext i
    rw [hτ0]
    match i with
    |0=>simp [oput,ob]
    |1=>simp [oput,ob]
    |2=>simp [oput,ob]
    |3=>simp [oput,ob]
    |4=>simp [oput,ob,loosen,SS.cs,planT]
    |5=>simp [oput,ob]
    |6=>simp [oput,ob]
    |7=>simp [oput,ob]
    |i+8=>simp [oput,ob,noObj]
   obtain ⟨p,hx⟩:=x.fit cm
   have hp3:p≤3:=by have:=hx.len;omega
   have hrun:=search_is hx cm hp3 co hw
   rw [hR] at hrun
   have hgo:=start_going hx cm hp3
   have hroot:=root_pureS x (by omega)
   have hrok:=rootS_ok x
   have hsok:SOk x o ⟨4,3,5,7,6⟩ ⟨[],[],inf,[],0,[]⟩ τ0 8:=by
    rw [hτ0]
    exact ⟨⟨rfl,rfl,rfl,by decide,by decide,by decide,by decide⟩,[],rfl,rfl,List.Perm.refl _,fun i h1 h2=>by simp at h2⟩
   have y0:τ0 0= .box [.i x.pairs,.i x.cars,.i x.room,.t (.sl (x.stops.map Stop.t))]:=by rw [hτ0];rfl
   have y1:τ0 1= .box [.i o.width,.i o.order,.i o.budget]:=by rw [hτ0];rfl
   have y2:τ0 2= .box [.i 0,.fsl [],.i 0,.i 0,.i 0,.fsl []]:=by rw [hτ0];rfl
   clear hτ0
   refine K_call rfl rfl rfl (args:=[x.a]) (f:=57) (by simp [go_sem,Inst.a]) (by simp [go_sem,hB]) ((hroot).spec _ _) ?_
   refine K_run hB 100 ?_
   simp [go_sem,State.a,State.cs]
   refine K_imp Imp.loose ?_
   refine K_callQ rfl rfl rfl (args:=[.ptr 4 0,x.rootN.a,.i 0]) (f:=73) (by simp [go_sem,Node.a,Node.cs,Inst.rootN,loosen,loosen.loosenL,ints]) (by simp [go_sem,hB]) (push_spec x o ⟨4,3,5,7,6⟩ ⟨[],[],inf,[],0,[]⟩ x.rootN 0 (by omega) hrok (by simp [Inst.rootN]) (by simp) (by simp) (σ:=τ0) (nx:=8) hsok) fun r σ1 nx1 hq=>?_
   obtain ⟨rfl,k1,c1,c2⟩:=hq
   rw [←Inst.start] at c1
   have z:=c2.q
   have z2:=c2.sb
   have z3:=c2.lg
   have z4:=c2.s
   have z5:=c2.h
   simp only at z z2 z3 z4 z5
   have hri:RI x o p R 1850 x.start k1 σ1 nx1:=by
    refine ⟨hrun,hgo,c1,by omega,?_,?_,?_⟩
    ·rw [c2.keep 0 (by decide) (by decide) (by decide) (by decide) (by decide) (by decide)];exact y0
    ·rw [c2.keep 1 (by decide) (by decide) (by decide) (by decide) (by decide) (by decide)];exact y1
    ·rw [c2.keep 2 (by decide) (by decide) (by decide) (by decide) (by decide) (by decide)];exact y2
   clear z z2 z3 z4 z5 c1 c2 y0 y1 y2 hsok hrun hgo hroot hrok hR hmy hom
   refine K_run hB 100 ?_
   simp [go_sem]
   refine K_loopP (α:=Nat×SS×Ids×(Nat→AObj)×Nat) (fun (f,s,k,τ,m)=>RI x o p R f s k τ m) (fun (f,s,k,τ,m)=>⟨sl [(2,.ptr 0 0),(3,.ptr 1 0),(4,.ptr 2 0),(5,.ptr 4 0)],τ,m⟩) (fun a=>a.1) (1850,x.start,k1,σ1,nx1) hri (Imp.slots (by simp [go_sem,loosen]) rfl rfl) ?_
   rintro ⟨f,s,k,τ,m⟩ h
   simp only at h
   obtain ⟨f,rfl⟩:∃f',f=f'+1:=by
    cases f with
    |zero=>have:=h.run;cases this
    |succ f=>exact ⟨f,rfl⟩
   have hrun:=h.run
   rw [Inst.runGo] at hrun
   obtain ⟨hi1,hi2,hi3,hi4,hi5⟩:=h.ids
   have hlt:=h.ok.b.lt
   have a1:=h.ok.b.box
   rw [SS.cs,hi1] at a1
   obtain ⟨l,q1,q2,q3,q4⟩:=h.ok.q
   have hll:=q3.length_eq
   have hpre:=h.go.pre hx cm hp3
   have:=hpre.q
   by_cases cq:l=[]
   ·subst cq
    have hq0:s.q=[]:=List.eq_nil_of_length_eq_zero (by rw [←hll];rfl)
    have hend:R=s.ends:=by
     rw [hq0] at hrun
     exact (Option.some.inj hrun).symm
    refine K_run hB 100 ?_
    simp [go_sem,a1]
    refine K_call rfl rfl rfl (args:=[.ptr k.h 0]) (f:=74) (by simp [go_sem]) (by simp [go_sem,hB]) (htake_nil o.order hlt.2.1 q1 hlt.2.2.1 q2) ?_
    refine K_run hB 100 ?_
    simp [go_sem,Ent.a,Ent.cs]
    have hst:=h.ok.stay (σ':=oput (oput τ m (.box [.i 0,.i 0,.i 0])) m (.box [.i Ent.zero.bound,.i Ent.zero.depth,.i Ent.zero.no])) (nx':=m+1) (by omega) fun i hi=>by simp [oput,show ¬i=m by omega]
    refine K_callQ rfl rfl rfl (args:=[.ptr k.s 0]) (f:=75) (by simp [go_sem,hi1]) (by simp [go_sem,hB]) (ends_spec x o k s (nx:=m+1) hst.1) fun r σ2 nx2 hq=>?_
    obtain ⟨rfl,e1,e2⟩:=hq
    have e3:σ2 2= .box [.i 0,.fsl [],.i 0,.i 0,.i 0,.fsl []]:=by rw [e2 2 (by omega) (by omega)];simp [oput,show ¬2=m by omega,h.b2]
    have e4:σ2 k.lg= .arr 14 (logT s.log):=by rw [e2 k.lg (by omega) (fun e=>by have h1:=h.ok.b.log;rw [e,h.ok.b.box] at h1;cases h1)];simp [oput,show ¬k.lg=m by omega,h.ok.b.log]
    have e5:¬k.lg=2:=by omega
    refine K_run hB 100 ?_
    simp [go_sem,e3,e4,e5]
    rw [hend]
    rfl
   ·have hpos:0<l.length:=List.length_pos_iff.2 cq
    obtain ⟨q',t1,t2⟩:=take_heap q3 q4 hpos
    have hok:=restH_ok q4 hpos
    have htk:=htake_spec o.order l (by omega) hpos hlt.2.1 q1 hlt.2.2.1 q2
    rw [t1] at hrun
    simp only at hrun
    obtain ⟨n,hn,hg,htn,k1,k2,k3⟩:=h.go.look hx cm hp3 hw t1
    have hskip:=fun c=>h.go.skip t1 c
    generalize l.getD 0 Ent.zero=e at *
    generalize restH o.order l=l' at *
    refine K_run hB 100 ?_
    simp [go_sem,a1]
    refine K_callQ rfl rfl rfl (args:=[.ptr k.h 0]) (f:=74) (by simp [go_sem]) (by simp [go_sem,hB]) htk fun r σ2 nx2 hq=>?_
    obtain ⟨rfl,g1,qn,g2,g3,g4,g5,g6⟩:=hq
    have hsb:=h.ok.b
    have d1:k.sb≠k.h∧k.sb≠k.q∧k.lg≠k.h∧k.lg≠k.q:=⟨fun e=>hsb.hs.1 e.symm,fun e=>hsb.qs.2.2.1 e.symm,fun e=>hsb.hs.2 e.symm,fun e=>hsb.qs.2.2.2 e.symm⟩
    have dsh:=hsb.sh
    have dqs:=hsb.qs
    have dhs:=hsb.hs
    have hsok2:SOk x o {k with q:=qn} (s.left q') σ2 nx2:=by
     refine ⟨⟨?_,?_,?_,dsh,?_,dhs,?_⟩,l',g4,g5,t2,hok⟩
     ·rw [g6 k.s (by omega) dsh (by omega)];exact hsb.box
     ·rw [g6 k.sb (by omega) d1.1 d1.2.1];exact hsb.subs
     ·rw [g6 k.lg (by omega) d1.2.2.1 d1.2.2.2];exact hsb.log
     ·simp only;omega
     ·simp only;omega
    have hruns2:Runs k τ m {k with q:=qn} σ2 nx2:=⟨g1,rfl,rfl,.inr g2,.inl rfl,.inl rfl,fun i h1 h2 h3 h4 h5 h6=>g6 i h1 h3 h4⟩
    clear htk
    have b3:=(hruns2.keep 1 (by omega) (by omega) (by omega) (by omega) (by omega) (by omega)).trans h.b1
    have b4:=(hruns2.keep 2 (by omega) (by omega) (by omega) (by omega) (by omega) (by omega)).trans h.b2
    have b5:=hsok2.b.box
    rw [SS.cs] at b5
    simp only [hi1,SS.left] at b5
    have hm4:4<nx2:=by omega
    have j1:¬4=nx2:=by omega
    have j2:¬nx2=4:=by omega
    have j3:¬1=nx2:=by omega
    have j4:¬2=nx2:=by omega
    have j5:¬nx2=2:=by omega
    refine K_run hB 100 ?_
    simp [go_sem,Ent.a,Ent.cs]
    refine K_drawn [] rfl (by rw [hB];kernel_rfl) ?_
    have hst2:=hsok2.stay (σ':=oput (oput σ2 nx2 (.box [.i 0,.i 0,.i 0])) nx2 (.box [.i e.bound,.i e.depth,.i e.no])) (nx':=nx2+1) (by omega) fun i hi=>by simp [oput,show ¬i=nx2 by omega]
    have hold:∀i,i<nx2→oput (oput σ2 nx2 (.box [.i 0,.i 0,.i 0])) nx2 (.box [.i e.bound,.i e.depth,.i e.no]) i=σ2 i:=fun i hi=>by simp [oput,show ¬i=nx2 by omega]
    have hnew:oput (oput σ2 nx2 (.box [.i 0,.i 0,.i 0])) nx2 (.box [.i e.bound,.i e.depth,.i e.no]) nx2= .box [.i e.bound,.i e.depth,.i e.no]:=by simp [oput]
    by_cases c1:s.up≤e.bound
    ·rw [if_pos c1] at hrun
     refine K_run hB 100 ?_
     simp [go_sem,b5,j1,c1]
     exact Next.mk (f,s.left q',{k with q:=qn},_,nx2+1) (h.next hrun (hskip c1) hst2.1 (hruns2.trans hst2.2)) (Imp.slots (by simp [go_sem]) rfl rfl) (by simp only;omega)
    rw [if_neg c1] at hrun
    refine K_run hB 100 ?_
    simp [go_sem,b5,j1,c1]
    refine K_drawn [] rfl (by rw [hB];kernel_rfl) ?_
    by_cases c2:o.budget≤s.steps
    ·rw [if_pos c2] at hrun
     refine K_run hB 100 ?_
     simp [go_sem,b5,b3,j1,j3,c2]
     have hl1:=hleast_spec o.order l' (by have:=t2.length_eq;have:=(take_some t1).2.2.2;omega) (σ:=oput (oput σ2 nx2 (.box [.i 0,.i 0,.i 0])) nx2 (.box [.i e.bound,.i e.depth,.i e.no])) (nx:=nx2+1) (h:=k.h) (q:=qn) (by omega) ((hold k.h (by omega)).trans g4) (by omega) ((hold qn g3).trans g5)
     rw [least_perm t2] at hl1
     have hmin:min (min s.up e.bound) (leastQ q')=min s.up (min e.bound (leastQ q')):=by omega
     refine K_drawnF [18,22] [1,7,8,14] rfl (by rw [hB];kernel_rfl) (by kernel_rfl) fun ht hf'=>?_
     refine K_run hB 100 ?_
     simp [go_sem,ht,hf',b5,j1,j2]
     refine K_dLook (v:=.i (leastQ q')) (fun ho=>?_) (by simp [go_sem,ht]) ?_
     ·exact does_call ho (by simp [go_sem]) rfl rfl (args:=[.ptr k.h 0]) (f:=76) (by simp [go_sem]) hl1
     have e4:σ2 k.lg= .arr 14 (logT s.log):=hsok2.b.log
     have e5:¬k.lg=2:=by omega
     have e6:¬k.lg=4:=fun e=>by have h1:=h.ok.b.log;rw [e,←hi1,h.ok.b.box] at h1;cases h1
     have e7:¬k.lg=nx2:=by omega
     refine K_run hB 100 ?_
     simp [go_sem,ht,hf',b5,b4,j1,j2,j4,j5,hmin,e4,e5,e6,e7]
     rw [←Option.some.inj hrun]
     rfl
    ·rw [if_neg c2,hg] at hrun
     have hno:=List.getElem?_eq_some_iff.1 hn
     obtain ⟨hno1,hno2⟩:=hno
     have hnl:(nodesT s.subs).length=s.subs.length:=List.length_map _
     have hgn:∀h,(nodesT s.subs)[e.no]'h=n.t:=fun h=>by rw [nodesT_get _ hno1,hno2]
     have hsb2:σ2 k.sb= .arr 10 (nodesT s.subs):=hsok2.b.subs
     have j6:¬k.sb=nx2:=by have:=hsok2.b.lt;simp only at this;omega
     refine K_run hB 100 ?_
     simp [go_sem,b5,b3,j1,j3,c2]
     refine K_drawnZ [] 9 _ rfl (by rw [hB];kernel_rfl) (by kernel_rfl) rfl ?_
     refine K_run hB 100 ?_
     simp [go_sem,b5,j1,hsb2,j6,hnl,hno1,hgn,Node.t]
     refine K_callQ rfl rfl rfl (args:=[.ptr k.s 0,n.a]) (f:=77) (by simp [go_sem,Node.a,Node.cs,hi1]) (by simp [go_sem,hB]) (slook_spec x o {k with q:=qn} (s.left q') n (look_pre hx cm hp3 htn hw) ⟨hpre.steps,hpre.subs,by have h1:=t2.length_eq;have h2:=(take_some t1).2.2.2;show q'.length<_;omega,hpre.log⟩ (nx:=nx2+1) hst2.1) fun r σ4 nx4 hq=>?_
     obtain ⟨rfl,k4,e1,e2⟩:=hq
     refine K_run hB 100 ?_
     simp [go_sem]
     exact Next.mk (f,x.lookS o.width (s.left q') n,k4,_,nx4) (h.next hrun k1 e1 ((hruns2.trans hst2.2).trans e2)) (Imp.slots (by simp [go_sem]) rfl rfl) (by simp only;omega)
end Go.Proofs.YtackfabapangdaaGreat

set_option maxRecDepth 4000
set_option maxHeartbeats 1000000
namespace Go.Proofs.YtackfabapangdaaGreat
open Go Go.Proofs.YtackfabapangdaaGreat.R
theorem small_search:(small.search ⟨1,0,100⟩).status=2∧(small.search ⟨1,0,100⟩).up=12∧(small.search ⟨1,0,100⟩).low=12∧(small.search ⟨1,0,100⟩).plan.length=1∧(small.search ⟨1,0,100⟩).log.length=1:=by decide+kernel
theorem awake19_pure:Pure P 28 [] (.b true):=by
 refine pure_of Tryz.func28 rfl rfl (by simp [Tryz.f28]) (by simp [bnd,bnd.bndL]) (by simp [bnd,bnd.bndL]) fun B hB hnx=>?_
 simp only [Tryz.f28] at hB ⊢
 refine K_run hB 100 ?_
 simp [go_sem]
 refine K_call rfl rfl rfl (args:=[]) (f:=27) (by simp [go_sem]) (by simp [go_sem,hB]) ((small_pure).spec _ _) ?_
 have hp:=parse_pure smallB (by decide) (by decide)
 rw [small_parse] at hp
 refine K_run hB 100 ?_
 simp [go_sem,small_bytes]
 refine K_call rfl rfl rfl (args:=[.t (.sl (byt smallB))]) (f:=21) (by simp [go_sem]) (by simp [go_sem,hB]) ((hp).spec _ _) ?_
 have hs:=srun_pure small ⟨1,0,100⟩ (by decide) (by decide)
 obtain ⟨e1,e2,e3,e4,e5⟩:=small_search
 generalize small.search ⟨1,0,100⟩=r at *
 generalize small=x at *
 have hl1:(planT r.plan).length=1:=by rw [planT,List.length_map,e4]
 have hl2:(logT r.log).length=1:=by rw [logT,List.length_map,e5]
 refine K_run hB 100 ?_
 simp [go_sem,Inst.a]
 refine K_call rfl rfl rfl (args:=[x.a,Opt.a ⟨1,0,100⟩]) (f:=31) (by simp [go_sem,Inst.a,Opt.a,Opt.cs]) (by simp [go_sem,hB]) ((hs).spec _ _) ?_
 refine K_run hB 100 ?_
 simp [go_sem,SRes.a,e1,e2,e3,hl1,hl2]
def fewO (x:Inst) (o:Opt):Bool:=decide (x.stops.length≤7)&&decide (o.width≤40)
theorem few19_pure (x:Inst) (o:Opt) (hl:x.stops.length<2^63):Pure P 29 [x.a,o.a] (.b (fewO x o)):=by
 refine pure_of Tryz.func29 rfl rfl (by simp [Tryz.f29]) (by simp [bnd,bnd.bndL,Inst.a,Opt.a,Opt.cs]) (by simp [bnd,bnd.bndL]) fun B hB hnx=>?_
 simp only [Tryz.f29] at hB ⊢
 by_cases c1:x.stops.length≤7
 ·have c2:(x.stops.length:Int)≤7:=by omega
  refine K_run hB 100 ?_
  simp [go_sem,Inst.a,Opt.a,Opt.cs,c1,c2,fewO]
 ·have c2:¬(x.stops.length:Int)≤7:=by omega
  refine K_run hB 100 ?_
  simp [go_sem,Inst.a,Opt.a,Opt.cs,c1,c2,fewO]
theorem plan_small {x:Inst} (hm:x.may=true) {rs:List (List Int)} {c:Int} (h:x.cost rs=(c,0)):rs.length<2^63∧∀r∈rs,r.length<2^63:=by
 obtain ⟨p,hx⟩:=x.fit hm
 obtain ⟨hok,_⟩:=cost_ok hx hm h
 have h1:=hok.cars
 have h2:=hx.cars
 have h3:=hx.few
 refine ⟨by omega,fun r hr=>?_⟩
 have:=(times_ok hx hm (hok.each r hr).2).2.1
 omega
theorem search_told {x:Inst} {o:Opt} (hl:x.stops.length≤7) (hm:x.may=true) (ho:o.mayB=true) (hw:o.width≤40):Told x (x.search o):=by
 obtain ⟨p,hx⟩:=x.fit hm
 have hp:p≤3:=by have:=hx.len;omega
 have hg:=start_going hx hm hp
 exact run_told (by omega) hm o 1850 x.start _ hg.inv hg.cov (search_is hx hm hp ho hw)
theorem lsleast_pure (x:Inst) (o:Opt) (g:List (List Int)) (hl:x.stops.length<2^63) (hg:g.length<2^63) (hgr:∀r∈g,r.length<2^63):Pure P 14 [x.a,o.a,.agg [.t (.sl (g.map rowT))]] (.b true):=by
 refine pure_of Tryz.func14 rfl rfl (by simp [Tryz.f14]) (by simp [bnd,bnd.bndL,Inst.a,Opt.a,Opt.cs]) (by simp [bnd,bnd.bndL]) fun B hB hnx=>?_
 simp only [Tryz.f14] at hB ⊢
 have hf:=few19_pure x o hl
 have hm:=may_pure x hl
 have ho:=omay_pure o
 have hc:=cost_pure x g hl hg hgr
 refine K_run hB 100 ?_
 simp [go_sem,Inst.a,Opt.a,Opt.cs]
 refine K_call rfl rfl rfl (args:=[]) (f:=28) (by simp [go_sem]) (by simp [go_sem,hB]) ((awake19_pure).spec _ _) ?_
 refine K_run hB 100 ?_
 simp [go_sem]
 refine K_call rfl rfl rfl (args:=[x.a,o.a]) (f:=29) (by simp [go_sem,Inst.a,Opt.a,Opt.cs]) (by simp [go_sem,hB]) ((hf).spec _ _) ?_
 cases cf:fewO x o with
 |false=>
  refine K_run hB 100 ?_
  simp [go_sem]
 |true=>
  simp only [fewO,Bool.and_eq_true,decide_eq_true_eq] at cf
  refine K_run hB 100 ?_
  simp [go_sem]
  refine K_call rfl rfl rfl (args:=[x.a]) (f:=33) (by simp [go_sem,Inst.a]) (by simp [go_sem,hB]) ((hm).spec _ _) ?_
  cases cm:x.may with
  |false=>
   refine K_run hB 100 ?_
   simp [go_sem]
  |true=>
   refine K_run hB 100 ?_
   simp [go_sem]
   refine K_call rfl rfl rfl (args:=[o.a]) (f:=34) (by simp [go_sem,Opt.a,Opt.cs]) (by simp [go_sem,hB]) ((ho).spec _ _) ?_
   cases co:o.mayB with
   |false=>
    refine K_run hB 100 ?_
    simp [go_sem]
   |true=>
    have hs:=srun_pure x o cf.1 cf.2
    obtain ⟨k1,k2,k3,k4,k5⟩:=search_told cf.1 cm co cf.2
    generalize x.search o=r at *
    have q1:(x.cost g).2=0→r.low≤(x.cost g).1:=fun h=>by
     obtain ⟨v,hv⟩:=plan_way cm (rs:=g) (c:=(x.cost g).1) (by rw [←h])
     exact k3 v _ hv
    generalize (x.cost g).1=c at *
    generalize (x.cost g).2=e at *
    have c4:¬r.up<r.low:=by omega
    refine K_run hB 100 ?_
    simp [go_sem]
    refine K_call rfl rfl rfl (args:=[x.a,o.a]) (f:=31) (by simp [go_sem,Inst.a,Opt.a,Opt.cs]) (by simp [go_sem,hB]) ((hs).spec _ _) ?_
    refine K_run hB 100 ?_
    simp [go_sem,SRes.a]
    refine K_call rfl rfl rfl (args:=[x.a,.agg [.t (.sl (g.map rowT))]]) (f:=22) (by simp [go_sem,Inst.a]) (by simp [go_sem,hB]) ((hc).spec _ _) ?_
    by_cases ce:e=0
    ·have c3:¬c<r.low:=by have:=q1 ce;omega
     by_cases cu:r.up<1152921504606846976
     ·obtain ⟨hp1,hp2⟩:=plan_small cm (k2 cu)
      have hc2:=cost_pure x r.plan hl hp1 hp2
      rw [k2 cu] at hc2
      refine K_run hB 100 ?_
      simp [go_sem,ce,c3,c4,cu]
      refine K_call rfl rfl rfl (args:=[x.a,.agg [.t (.sl (planT r.plan))]]) (f:=22) (by simp [go_sem,Inst.a,planT]) (by simp [go_sem,hB]) ((hc2).spec _ _) ?_
      rcases k5 with ⟨s1,s2,s3⟩ | ⟨s1,s2,s3⟩ | ⟨s1,s2⟩
      ·refine K_run hB 100 ?_
       simp [go_sem,s1,s2,cu]
      ·have:r.up=1152921504606846976:=s3
       omega
      ·refine K_run hB 100 ?_
       simp [go_sem,s1,s2,cu]
     ·rcases k5 with ⟨s1,s2,s3⟩ | ⟨s1,s2,s3⟩ | ⟨s1,s2⟩
      ·exact absurd s3 cu
      ·have s2':r.low=1152921504606846976:=s2
       have s3':r.up=1152921504606846976:=s3
       rw [s2'] at c3
       refine K_run hB 100 ?_
       simp [go_sem,ce,c3,c4,s1,s2',s3']
      ·refine K_run hB 100 ?_
       simp [go_sem,ce,c3,c4,s1,s2,cu]
    ·skip
     by_cases cu:r.up<1152921504606846976
     ·obtain ⟨hp1,hp2⟩:=plan_small cm (k2 cu)
      have hc2:=cost_pure x r.plan hl hp1 hp2
      rw [k2 cu] at hc2
      refine K_run hB 100 ?_
      simp [go_sem,ce,c4,cu]
      refine K_call rfl rfl rfl (args:=[x.a,.agg [.t (.sl (planT r.plan))]]) (f:=22) (by simp [go_sem,Inst.a,planT]) (by simp [go_sem,hB]) ((hc2).spec _ _) ?_
      rcases k5 with ⟨s1,s2,s3⟩ | ⟨s1,s2,s3⟩ | ⟨s1,s2⟩
      ·refine K_run hB 100 ?_
       simp [go_sem,s1,s2,cu]
      ·have:r.up=1152921504606846976:=s3
       omega
      ·refine K_run hB 100 ?_
       simp [go_sem,s1,s2,cu]
     ·rcases k5 with ⟨s1,s2,s3⟩ | ⟨s1,s2,s3⟩ | ⟨s1,s2⟩
      ·exact absurd s3 cu
      ·have s2':r.low=1152921504606846976:=s2
       have s3':r.up=1152921504606846976:=s3
       refine K_run hB 100 ?_
       simp [go_sem,ce,c4,s1,s2',s3']
      ·refine K_run hB 100 ?_
       simp [go_sem,ce,c4,s1,s2,cu]
end Go.Proofs.YtackfabapangdaaGreat

set_option maxRecDepth 100000
namespace Go.Proofs.YtackfabapangdaaGreat
open Go Go.ChangeShapes Go.WideShapes Go.ChangeAt Go.RowKit Go.Proofs.YtackfabapangdaaGreat.R
theorem has_opt {f:Nat} {ts:List T} (h:HasT P f 53 ts):∃o:Opt,ts=[.i o.width,.i o.order,.i o.budget]:=by
 obtain ⟨f',h⟩:=has_struct (tt_some tt53).1 h
 simp only [HasF] at h
 obtain ⟨a,_,rfl,_,ha,b,_,rfl,_,hb,c,_,rfl,_,hc,rfl⟩:=h
 obtain ⟨a,rfl⟩:=has_i ha
 obtain ⟨b,rfl⟩:=has_i hb
 obtain ⟨c,rfl⟩:=has_i hc
 exact ⟨⟨a,b,c⟩,rfl⟩
section
variable {H:Type} {enc:TypeId×Value→H} {W:World} {base:Nat} {sp:Nat→Bool} {held:Bool} {v:Value} {d:DataW H} {ps:List MemPlace}
theorem arg_opt (h:DataW.Trod enc P W 0 sp held 53 v d ps) (hv:Value.okWide P W .any base 53 v):∃o:Opt,RepA W (C0 W) o.a v:=by
 obtain ⟨f,ts,h1,h2⟩:=arg_struct (tt_some tt53).1 (by kernel_rfl) h hv
 obtain ⟨o,rfl⟩:=has_opt h1
 exact ⟨o,h2⟩
end
end Go.Proofs.YtackfabapangdaaGreat

set_option maxRecDepth 100000
namespace Go.Proofs.YtackfabapangdaaGreat
open Go Go.ChangeShapes Go.WideShapes Go.ChangeAt Go.RowKit Go.Proofs.YtackfabapangdaaGreat.R
theorem has_routes {f:Nat} {ts:List T} (h:HasT P f 29 ts):∃l:List (List Int),ts=[.sl (l.map rowT)]∧l.length≤maxLen∧∀r∈l,r.length≤maxLen:=
 has_slice (g:=rowT) (Q:=fun r=>r.length≤maxLen) (tt_some tt29).1 (fun f x h=>by
  obtain ⟨l,rfl,hl⟩:=has_ints h
  exact ⟨l,rfl,hl⟩) h
theorem has_plan {f:Nat} {ts:List T} (h:HasT P f 31 ts):∃l:List (List Int),ts=[.sl (l.map rowT)]∧l.length≤maxLen∧∀r∈l,r.length≤maxLen:=by
 obtain ⟨f',h⟩:=has_struct (tt_some tt31).1 h
 simp only [HasF] at h
 obtain ⟨a,_,rfl,_,ha,rfl⟩:=h
 obtain ⟨l,rfl,h1,h2⟩:=has_routes ha
 exact ⟨l,rfl,h1,h2⟩
section
variable {H:Type} {enc:TypeId×Value→H} {W:World} {base:Nat} {sp:Nat→Bool} {held:Bool} {v:Value} {d:DataW H} {ps:List MemPlace}
theorem arg_plan (h:DataW.Trod enc P W 0 sp held 31 v d ps) (hv:Value.okWide P W .any base 31 v):∃l:List (List Int),l.length≤maxLen∧(∀r∈l,r.length≤maxLen)∧RepA W (C0 W) (.agg [.t (.sl (l.map rowT))]) v:=by
 obtain ⟨f,ts,h1,h2⟩:=arg_struct (tt_some tt31).1 (by kernel_rfl) h hv
 obtain ⟨l,rfl,hl,hr⟩:=has_plan h1
 exact ⟨l,hl,hr,h2⟩
end
end Go.Proofs.YtackfabapangdaaGreat

set_option maxRecDepth 100000
namespace Go.Proofs.YtackfabapangdaaGreat
open Go
theorem w_enter:Tryz.prog.mayEnter=true:=by kernel_rfl
theorem w_lift:((false:Bool)==Tryz.prog.liftsFinal)=true:=by kernel_rfl
theorem w_make:(Tryz.prog.make==some Make.cut)=true:=by kernel_rfl
end Go.Proofs.YtackfabapangdaaGreat
