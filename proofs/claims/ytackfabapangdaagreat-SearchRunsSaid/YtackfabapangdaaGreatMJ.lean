/- Parts of the proof: Srch6, Law19, ArgO, Whole. -/
import Derived.Test.YtackfabapangdaaGreatMI
import Derived.Test.YtackfabapangdaaGreatRows
import Derived.KernelRfl
set_option linter.all false
set_option maxHeartbeats 4000000
set_option maxRecDepth 4000
set_option maxHeartbeats 4000000
namespace Go.Proofs.YtackfabapangdaaGreat
open Go Go.Proofs.YtackfabapangdaaGreat.R
structure RI (x:Inst) (o:Opt) (p:Nat) (R:SRes) (f:Nat) (s:SS) (k:Ids) (τ:Nat→AObj) (m:Nat):Prop where
 run:x.runGo o f s=some R
 go:Going x p s
 ok:SOk x o k s τ m
 ids:k.s=4∧3≤k.h∧3≤k.q∧3≤k.sb∧3≤k.lg
 b0:τ 0= .box [.i x.pairs,.i x.cars,.i x.room,.t (.sl (x.stops.map Stop.t))]
 b1:τ 1= .box [.i o.width,.i o.order,.i o.budget]
 b2:τ 2= .box [.i 0,.fsl [],.i 0,.i 0,.i 0,.fsl []]
theorem RI.next {x:Inst} {o:Opt} {p:Nat} {R:SRes} {f g:Nat} {s t:SS} {k k':Ids} {τ τ':Nat→AObj} {m m':Nat} (h:RI x o p R f s k τ m) (h1:x.runGo o g t=some R) (h2:Going x p t) (h3:SOk x o k' t τ' m') (h4:Runs k τ m k' τ' m'):RI x o p R g t k' τ' m':=by
 have:=h.ids
 have:=h.ok.b.lt
 have h5:=h4.s
 have h6:=h4.h
 have:=h4.q
 have:=h4.sb
 have:=h4.lg
 refine ⟨h1,h2,h3,by omega,?_,?_,?_⟩
 ·rw [h4.keep 0 (by omega) (by omega) (by omega) (by omega) (by omega) (by omega)];exact h.b0
 ·rw [h4.keep 1 (by omega) (by omega) (by omega) (by omega) (by omega) (by omega)];exact h.b1
 ·rw [h4.keep 2 (by omega) (by omega) (by omega) (by omega) (by omega) (by omega)];exact h.b2
theorem srun_pure (x:Inst) (o:Opt) (hl:x.stops.length≤7) (hw:o.width≤40):Pure P 31 [x.a,o.a] ((x.search o).a):=by
 generalize hR:x.search o=R
 refine pure_of Tryz.func31 rfl rfl (by simp [Tryz.f31]) (by simp [bnd,bnd.bndL,Inst.a,Opt.a,Opt.cs]) (by simp [bnd,bnd.bndL,SRes.a]) fun B hB hnx=>?_
 simp only [Tryz.f31] at hB ⊢
 have hmy:=may_pure x (by omega)
 have hom:=omay_pure o
 refine K_run hB 100 ?_
 simp [go_sem,Inst.a,Opt.a,Opt.cs]
 refine K_scopeN (α:=Unit) 0 (fun _=>False) (fun _=>⟨sl [],noObj,0⟩) (fun _=>0) rfl (fun _ h=>h.elim) ?_
 intro J hJ
 refine K_run hB 100 ?_
 simp [go_sem]
 refine K_call rfl rfl rfl (args:=[x.a]) (f:=33) (by simp [go_sem,Inst.a]) (by simp [go_sem,hB]) ((hmy).spec _ _) ?_
 cases cm:x.may with
 |false=>
  rw [Inst.search,if_neg (by simp [cm])] at hR
  subst hR
  refine K_run hB 100 ?_
  simp [go_sem]
  rfl
 |true=>
  refine K_run hB 100 ?_
  simp [go_sem]
  refine K_call rfl rfl rfl (args:=[o.a]) (f:=34) (by simp [go_sem,Opt.a,Opt.cs]) (by simp [go_sem,hB]) ((hom).spec _ _) ?_
  cases co:o.mayB with
  |false=>
   rw [Inst.search,if_pos cm,if_neg (by simp [co])] at hR
   subst hR
   refine K_run hB 100 ?_
   simp [go_sem]
   rfl
  |true=>
   refine K_run hB 100 ?_
   simp [go_sem]
   refine K_drawnF [5,7] [0,1,2] rfl (by rw [hB];kernel_rfl) (by kernel_rfl) fun ht hf'=>?_
   refine K_run hB 100 ?_
   simp [go_sem,ht,hf']
   refine K_dCall rfl rfl rfl (args:=[.i o.order]) (f:=72) (by simp [go_sem]) (new_spec o.order) (by decide) (okPends_does (by simp [go_sem])) ?_
   refine K_run hB 100 ?_
   simp [go_sem,ht,hf']
   obtain ⟨τ0,hτ0⟩:∃τ0:Nat→AObj,τ0=ob [(0,.box [.i x.pairs,.i x.cars,.i x.room,.t (.sl (x.stops.map Stop.t))]),(1,.box [.i o.width,.i o.order,.i o.budget]),(2,.box [.i 0,.fsl [],.i 0,.i 0,.i 0,.fsl []]),(3,.box [.ref 5,.i o.order]),(4,.box (SS.cs x o 0 0 ⟨4,3,5,7,6⟩ ⟨[],[],inf,[],0,[]⟩)),(5,.arr 4 []),(6,.arr 14 []),(7,.arr 10 [])]:=⟨_,rfl⟩
   refine K_imp (t:=⟨sl [(2,.ptr 0 0),(3,.ptr 1 0),(4,.ptr 2 0),(5,.ptr 4 0),(26,.ptr 4 0),(27,.agg [.i x.pairs,.i x.cars,.i x.room,.t (.sl (x.stops.map Stop.t))])],τ0,8⟩)
    ((Imp.ownB (b:=3) (off:=0) (sz:=4) (cs:=[.fsl [],.i o.order]) (by simp [oput]) rfl).trans
    ((Imp.ownB (b:=4) (off:=12) (sz:=14) (cs:=[.i x.pairs,.i x.cars,.i x.room,.t (.sl (x.stops.map Stop.t)),.i o.width,.i o.order,.i o.budget,.i 0,.fsl [],.i inf,.i 0,.i 0,.fsl [],.fsl [],.ptr 3 0]) (by simp [oput];rfl) rfl).trans
    ((Imp.ownB (b:=4) (off:=13) (sz:=10) (cs:=[.i x.pairs,.i x.cars,.i x.room,.t (.sl (x.stops.map Stop.t)),.i o.width,.i o.order,.i o.budget,.i 0,.fsl [],.i inf,.i 0,.i 0,.ref 6,.fsl [],.ptr 3 0]) (by simp [oput]) rfl).trans
    ((Imp.looseB (b:=4) (cs:=[.i x.pairs,.i x.cars,.i x.room,.t (.sl (x.stops.map Stop.t)),.i o.width,.i o.order,.i o.budget,.i 0,.fsl [],.i inf,.i 0,.i 0,.ref 6,.ref 7,.ptr 3 0]) (by simp [oput])).trans
    (Imp.slots (by simp [go_sem]) ?_ rfl))))) ?_
   ·funext i
    rw [hτ0]
    match i with
    |0=>simp [oput,ob]
    |1=>simp [oput,ob]
    |2=>simp [oput,ob]
    |3=>simp [oput,ob]
    |4=>simp [oput,ob,loosen,SS.cs,planT]
    |5=>simp [oput,ob]
    |6=>simp [oput,ob]
    |7=>simp [oput,ob]
    |i+8=>simp [oput,ob,noObj]
   obtain ⟨p,hx⟩:=x.fit cm
   have hp3:p≤3:=by have:=hx.len;omega
   have hrun:=search_is hx cm hp3 co hw
   rw [hR] at hrun
   have hgo:=start_going hx cm hp3
   have hroot:=root_pureS x (by omega)
   have hrok:=rootS_ok x
   have hsok:SOk x o ⟨4,3,5,7,6⟩ ⟨[],[],inf,[],0,[]⟩ τ0 8:=by
    rw [hτ0]
    exact ⟨⟨rfl,rfl,rfl,by decide,by decide,by decide,by decide⟩,[],rfl,rfl,List.Perm.refl _,fun i h1 h2=>by simp at h2⟩
   have y0:τ0 0= .box [.i x.pairs,.i x.cars,.i x.room,.t (.sl (x.stops.map Stop.t))]:=by rw [hτ0];rfl
   have y1:τ0 1= .box [.i o.width,.i o.order,.i o.budget]:=by rw [hτ0];rfl
   have y2:τ0 2= .box [.i 0,.fsl [],.i 0,.i 0,.i 0,.fsl []]:=by rw [hτ0];rfl
   clear hτ0
   refine K_call rfl rfl rfl (args:=[x.a]) (f:=57) (by simp [go_sem,Inst.a]) (by simp [go_sem,hB]) ((hroot).spec _ _) ?_
   refine K_run hB 100 ?_
   simp [go_sem,State.a,State.cs]
   refine K_imp Imp.loose ?_
   refine K_callQ rfl rfl rfl (args:=[.ptr 4 0,x.rootN.a,.i 0]) (f:=73) (by simp [go_sem,Node.a,Node.cs,Inst.rootN,loosen,loosen.loosenL,ints]) (by simp [go_sem,hB]) (push_spec x o ⟨4,3,5,7,6⟩ ⟨[],[],inf,[],0,[]⟩ x.rootN 0 (by omega) hrok (by simp [Inst.rootN]) (by simp) (by simp) (σ:=τ0) (nx:=8) hsok) fun r σ1 nx1 hq=>?_
   obtain ⟨rfl,k1,c1,c2⟩:=hq
   rw [←Inst.start] at c1
   have z:=c2.q
   have z2:=c2.sb
   have z3:=c2.lg
   have z4:=c2.s
   have z5:=c2.h
   simp only at z z2 z3 z4 z5
   have hri:RI x o p R 1850 x.start k1 σ1 nx1:=by
    refine ⟨hrun,hgo,c1,by omega,?_,?_,?_⟩
    ·rw [c2.keep 0 (by decide) (by decide) (by decide) (by decide) (by decide) (by decide)];exact y0
    ·rw [c2.keep 1 (by decide) (by decide) (by decide) (by decide) (by decide) (by decide)];exact y1
    ·rw [c2.keep 2 (by decide) (by decide) (by decide) (by decide) (by decide) (by decide)];exact y2
   clear z z2 z3 z4 z5 c1 c2 y0 y1 y2 hsok hrun hgo hroot hrok hR hmy hom
   refine K_run hB 100 ?_
   simp [go_sem]
   refine K_loopP (α:=Nat×SS×Ids×(Nat→AObj)×Nat) (fun (f,s,k,τ,m)=>RI x o p R f s k τ m) (fun (f,s,k,τ,m)=>⟨sl [(2,.ptr 0 0),(3,.ptr 1 0),(4,.ptr 2 0),(5,.ptr 4 0)],τ,m⟩) (fun a=>a.1) (1850,x.start,k1,σ1,nx1) hri (Imp.slots (by simp [go_sem,loosen]) rfl rfl) ?_
   rintro ⟨f,s,k,τ,m⟩ h
   simp only at h
   obtain ⟨f,rfl⟩:∃f',f=f'+1:=by
    cases f with
    |zero=>have:=h.run;cases this
    |succ f=>exact ⟨f,rfl⟩
   have hrun:=h.run
   rw [Inst.runGo] at hrun
   obtain ⟨hi1,hi2,hi3,hi4,hi5⟩:=h.ids
   have hlt:=h.ok.b.lt
   have a1:=h.ok.b.box
   rw [SS.cs,hi1] at a1
   obtain ⟨l,q1,q2,q3,q4⟩:=h.ok.q
   have hll:=q3.length_eq
   have hpre:=h.go.pre hx cm hp3
   have:=hpre.q
   by_cases cq:l=[]
   ·subst cq
    have hq0:s.q=[]:=List.eq_nil_of_length_eq_zero (by rw [←hll];rfl)
    have hend:R=s.ends:=by
     rw [hq0] at hrun
     exact (Option.some.inj hrun).symm
    refine K_run hB 100 ?_
    simp [go_sem,a1]
    refine K_call rfl rfl rfl (args:=[.ptr k.h 0]) (f:=74) (by simp [go_sem]) (by simp [go_sem,hB]) (htake_nil o.order hlt.2.1 q1 hlt.2.2.1 q2) ?_
    refine K_run hB 100 ?_
    simp [go_sem,Ent.a,Ent.cs]
    have hst:=h.ok.stay (σ':=oput (oput τ m (.box [.i 0,.i 0,.i 0])) m (.box [.i Ent.zero.bound,.i Ent.zero.depth,.i Ent.zero.no])) (nx':=m+1) (by omega) fun i hi=>by simp [oput,show ¬i=m by omega]
    refine K_callQ rfl rfl rfl (args:=[.ptr k.s 0]) (f:=75) (by simp [go_sem,hi1]) (by simp [go_sem,hB]) (ends_spec x o k s (nx:=m+1) hst.1) fun r σ2 nx2 hq=>?_
    obtain ⟨rfl,e1,e2⟩:=hq
    have e3:σ2 2= .box [.i 0,.fsl [],.i 0,.i 0,.i 0,.fsl []]:=by rw [e2 2 (by omega) (by omega)];simp [oput,show ¬2=m by omega,h.b2]
    have e4:σ2 k.lg= .arr 14 (logT s.log):=by rw [e2 k.lg (by omega) (fun e=>by have h1:=h.ok.b.log;rw [e,h.ok.b.box] at h1;cases h1)];simp [oput,show ¬k.lg=m by omega,h.ok.b.log]
    have e5:¬k.lg=2:=by omega
    refine K_run hB 100 ?_
    simp [go_sem,e3,e4,e5]
    rw [hend]
    rfl
   ·have hpos:0<l.length:=List.length_pos_iff.2 cq
    obtain ⟨q',t1,t2⟩:=take_heap q3 q4 hpos
    have hok:=restH_ok q4 hpos
    have htk:=htake_spec o.order l (by omega) hpos hlt.2.1 q1 hlt.2.2.1 q2
    rw [t1] at hrun
    simp only at hrun
    obtain ⟨n,hn,hg,htn,k1,k2,k3⟩:=h.go.look hx cm hp3 hw t1
    have hskip:=fun c=>h.go.skip t1 c
    generalize l.getD 0 Ent.zero=e at *
    generalize restH o.order l=l' at *
    refine K_run hB 100 ?_
    simp [go_sem,a1]
    refine K_callQ rfl rfl rfl (args:=[.ptr k.h 0]) (f:=74) (by simp [go_sem]) (by simp [go_sem,hB]) htk fun r σ2 nx2 hq=>?_
    obtain ⟨rfl,g1,qn,g2,g3,g4,g5,g6⟩:=hq
    have hsb:=h.ok.b
    have d1:k.sb≠k.h∧k.sb≠k.q∧k.lg≠k.h∧k.lg≠k.q:=⟨fun e=>hsb.hs.1 e.symm,fun e=>hsb.qs.2.2.1 e.symm,fun e=>hsb.hs.2 e.symm,fun e=>hsb.qs.2.2.2 e.symm⟩
    have dsh:=hsb.sh
    have dqs:=hsb.qs
    have dhs:=hsb.hs
    have hsok2:SOk x o {k with q:=qn} (s.left q') σ2 nx2:=by
     refine ⟨⟨?_,?_,?_,dsh,?_,dhs,?_⟩,l',g4,g5,t2,hok⟩
     ·rw [g6 k.s (by omega) dsh (by omega)];exact hsb.box
     ·rw [g6 k.sb (by omega) d1.1 d1.2.1];exact hsb.subs
     ·rw [g6 k.lg (by omega) d1.2.2.1 d1.2.2.2];exact hsb.log
     ·simp only;omega
     ·simp only;omega
    have hruns2:Runs k τ m {k with q:=qn} σ2 nx2:=⟨g1,rfl,rfl,.inr g2,.inl rfl,.inl rfl,fun i h1 h2 h3 h4 h5 h6=>g6 i h1 h3 h4⟩
    clear htk
    have b3:=(hruns2.keep 1 (by omega) (by omega) (by omega) (by omega) (by omega) (by omega)).trans h.b1
    have b4:=(hruns2.keep 2 (by omega) (by omega) (by omega) (by omega) (by omega) (by omega)).trans h.b2
    have b5:=hsok2.b.box
    rw [SS.cs] at b5
    simp only [hi1,SS.left] at b5
    have hm4:4<nx2:=by omega
    have j1:¬4=nx2:=by omega
    have j2:¬nx2=4:=by omega
    have j3:¬1=nx2:=by omega
    have j4:¬2=nx2:=by omega
    have j5:¬nx2=2:=by omega
    refine K_run hB 100 ?_
    simp [go_sem,Ent.a,Ent.cs]
    refine K_drawn [] rfl (by rw [hB];kernel_rfl) ?_
    have hst2:=hsok2.stay (σ':=oput (oput σ2 nx2 (.box [.i 0,.i 0,.i 0])) nx2 (.box [.i e.bound,.i e.depth,.i e.no])) (nx':=nx2+1) (by omega) fun i hi=>by simp [oput,show ¬i=nx2 by omega]
    have hold:∀i,i<nx2→oput (oput σ2 nx2 (.box [.i 0,.i 0,.i 0])) nx2 (.box [.i e.bound,.i e.depth,.i e.no]) i=σ2 i:=fun i hi=>by simp [oput,show ¬i=nx2 by omega]
    have hnew:oput (oput σ2 nx2 (.box [.i 0,.i 0,.i 0])) nx2 (.box [.i e.bound,.i e.depth,.i e.no]) nx2= .box [.i e.bound,.i e.depth,.i e.no]:=by simp [oput]
    by_cases c1:s.up≤e.bound
    ·rw [if_pos c1] at hrun
     refine K_run hB 100 ?_
     simp [go_sem,b5,j1,c1]
     exact Next.mk (f,s.left q',{k with q:=qn},_,nx2+1) (h.next hrun (hskip c1) hst2.1 (hruns2.trans hst2.2)) (Imp.slots (by simp [go_sem]) rfl rfl) (by simp only;omega)
    rw [if_neg c1] at hrun
    refine K_run hB 100 ?_
    simp [go_sem,b5,j1,c1]
    refine K_drawn [] rfl (by rw [hB];kernel_rfl) ?_
    by_cases c2:o.budget≤s.steps
    ·rw [if_pos c2] at hrun
     refine K_run hB 100 ?_
     simp [go_sem,b5,b3,j1,j3,c2]
     have hl1:=hleast_spec o.order l' (by have:=t2.length_eq;have:=(take_some t1).2.2.2;omega) (σ:=oput (oput σ2 nx2 (.box [.i 0,.i 0,.i 0])) nx2 (.box [.i e.bound,.i e.depth,.i e.no])) (nx:=nx2+1) (h:=k.h) (q:=qn) (by omega) ((hold k.h (by omega)).trans g4) (by omega) ((hold qn g3).trans g5)
     rw [least_perm t2] at hl1
     have hmin:min (min s.up e.bound) (leastQ q')=min s.up (min e.bound (leastQ q')):=by omega
     refine K_drawnF [18,22] [1,7,8,14] rfl (by rw [hB];kernel_rfl) (by kernel_rfl) fun ht hf'=>?_
     refine K_run hB 100 ?_
     simp [go_sem,ht,hf',b5,j1,j2]
     refine K_dLook (v:=.i (leastQ q')) (fun ho=>?_) (by simp [go_sem,ht]) ?_
     ·exact does_call ho (by simp [go_sem]) rfl rfl (args:=[.ptr k.h 0]) (f:=76) (by simp [go_sem]) hl1
     have e4:σ2 k.lg= .arr 14 (logT s.log):=hsok2.b.log
     have e5:¬k.lg=2:=by omega
     have e6:¬k.lg=4:=fun e=>by have h1:=h.ok.b.log;rw [e,←hi1,h.ok.b.box] at h1;cases h1
     have e7:¬k.lg=nx2:=by omega
     refine K_run hB 100 ?_
     simp [go_sem,ht,hf',b5,b4,j1,j2,j4,j5,hmin,e4,e5,e6,e7]
     rw [←Option.some.inj hrun]
     rfl
    ·rw [if_neg c2,hg] at hrun
     have hno:=List.getElem?_eq_some_iff.1 hn
     obtain ⟨hno1,hno2⟩:=hno
     have hnl:(nodesT s.subs).length=s.subs.length:=List.length_map _
     have hgn:∀h,(nodesT s.subs)[e.no]'h=n.t:=fun h=>by rw [nodesT_get _ hno1,hno2]
     have hsb2:σ2 k.sb= .arr 10 (nodesT s.subs):=hsok2.b.subs
     have j6:¬k.sb=nx2:=by have:=hsok2.b.lt;simp only at this;omega
     refine K_run hB 100 ?_
     simp [go_sem,b5,b3,j1,j3,c2]
     refine K_drawnZ [] 9 _ rfl (by rw [hB];kernel_rfl) (by kernel_rfl) rfl ?_
     refine K_run hB 100 ?_
     simp [go_sem,b5,j1,hsb2,j6,hnl,hno1,hgn,Node.t]
     refine K_callQ rfl rfl rfl (args:=[.ptr k.s 0,n.a]) (f:=77) (by simp [go_sem,Node.a,Node.cs,hi1]) (by simp [go_sem,hB]) (slook_spec x o {k with q:=qn} (s.left q') n (look_pre hx cm hp3 htn hw) ⟨hpre.steps,hpre.subs,by have h1:=t2.length_eq;have h2:=(take_some t1).2.2.2;show q'.length<_;omega,hpre.log⟩ (nx:=nx2+1) hst2.1) fun r σ4 nx4 hq=>?_
     obtain ⟨rfl,k4,e1,e2⟩:=hq
     refine K_run hB 100 ?_
     simp [go_sem]
     exact Next.mk (f,x.lookS o.width (s.left q') n,k4,_,nx4) (h.next hrun k1 e1 ((hruns2.trans hst2.2).trans e2)) (Imp.slots (by simp [go_sem]) rfl rfl) (by simp only;omega)
end Go.Proofs.YtackfabapangdaaGreat

set_option maxRecDepth 4000
set_option maxHeartbeats 1000000
namespace Go.Proofs.YtackfabapangdaaGreat
open Go Go.Proofs.YtackfabapangdaaGreat.R
theorem small_search:(small.search ⟨1,0,100⟩).status=2∧(small.search ⟨1,0,100⟩).up=12∧(small.search ⟨1,0,100⟩).low=12∧(small.search ⟨1,0,100⟩).plan.length=1∧(small.search ⟨1,0,100⟩).log.length=1:=by decide+kernel
theorem awake19_pure:Pure P 28 [] (.b true):=by
 refine pure_of Tryz.func28 rfl rfl (by simp [Tryz.f28]) (by simp [bnd,bnd.bndL]) (by simp [bnd,bnd.bndL]) fun B hB hnx=>?_
 simp only [Tryz.f28] at hB ⊢
 refine K_run hB 100 ?_
 simp [go_sem]
 refine K_call rfl rfl rfl (args:=[]) (f:=27) (by simp [go_sem]) (by simp [go_sem,hB]) ((small_pure).spec _ _) ?_
 have hp:=parse_pure smallB (by decide) (by decide)
 rw [small_parse] at hp
 refine K_run hB 100 ?_
 simp [go_sem,small_bytes]
 refine K_call rfl rfl rfl (args:=[.t (.sl (byt smallB))]) (f:=21) (by simp [go_sem]) (by simp [go_sem,hB]) ((hp).spec _ _) ?_
 have hs:=srun_pure small ⟨1,0,100⟩ (by decide) (by decide)
 obtain ⟨e1,e2,e3,e4,e5⟩:=small_search
 generalize small.search ⟨1,0,100⟩=r at *
 generalize small=x at *
 have hl1:(planT r.plan).length=1:=by rw [planT,List.length_map,e4]
 have hl2:(logT r.log).length=1:=by rw [logT,List.length_map,e5]
 refine K_run hB 100 ?_
 simp [go_sem,Inst.a]
 refine K_call rfl rfl rfl (args:=[x.a,Opt.a ⟨1,0,100⟩]) (f:=31) (by simp [go_sem,Inst.a,Opt.a,Opt.cs]) (by simp [go_sem,hB]) ((hs).spec _ _) ?_
 refine K_run hB 100 ?_
 simp [go_sem,SRes.a,e1,e2,e3,hl1,hl2]
def fewO (x:Inst) (o:Opt):Bool:=decide (x.stops.length≤7)&&decide (o.width≤40)
theorem few19_pure (x:Inst) (o:Opt) (hl:x.stops.length<2^63):Pure P 29 [x.a,o.a] (.b (fewO x o)):=by
 refine pure_of Tryz.func29 rfl rfl (by simp [Tryz.f29]) (by simp [bnd,bnd.bndL,Inst.a,Opt.a,Opt.cs]) (by simp [bnd,bnd.bndL]) fun B hB hnx=>?_
 simp only [Tryz.f29] at hB ⊢
 by_cases c1:x.stops.length≤7
 ·have c2:(x.stops.length:Int)≤7:=by omega
  refine K_run hB 100 ?_
  simp [go_sem,Inst.a,Opt.a,Opt.cs,c1,c2,fewO]
 ·have c2:¬(x.stops.length:Int)≤7:=by omega
  refine K_run hB 100 ?_
  simp [go_sem,Inst.a,Opt.a,Opt.cs,c1,c2,fewO]
theorem search_told {x:Inst} {o:Opt} (hl:x.stops.length≤7) (hm:x.may=true) (ho:o.mayB=true) (hw:o.width≤40):Told x (x.search o):=by
 obtain ⟨p,hx⟩:=x.fit hm
 have hp:p≤3:=by have:=hx.len;omega
 have hg:=start_going hx hm hp
 exact run_told (by omega) hm o 1850 x.start _ hg.inv hg.cov (search_is hx hm hp ho hw)
end Go.Proofs.YtackfabapangdaaGreat

set_option maxRecDepth 100000
namespace Go.Proofs.YtackfabapangdaaGreat
open Go Go.ChangeShapes Go.WideShapes Go.ChangeAt Go.RowKit Go.Proofs.YtackfabapangdaaGreat.R
theorem has_opt {f:Nat} {ts:List T} (h:HasT P f 53 ts):∃o:Opt,ts=[.i o.width,.i o.order,.i o.budget]:=by
 obtain ⟨f',h⟩:=has_struct (tt_some tt53).1 h
 simp only [HasF] at h
 obtain ⟨a,_,rfl,_,ha,b,_,rfl,_,hb,c,_,rfl,_,hc,rfl⟩:=h
 obtain ⟨a,rfl⟩:=has_i ha
 obtain ⟨b,rfl⟩:=has_i hb
 obtain ⟨c,rfl⟩:=has_i hc
 exact ⟨⟨a,b,c⟩,rfl⟩
section
variable {H:Type} {enc:TypeId×Value→H} {W:World} {base:Nat} {sp:Nat→Bool} {held:Bool} {v:Value} {d:DataW H} {ps:List MemPlace}
theorem arg_opt (h:DataW.Trod enc P W 0 sp held 53 v d ps) (hv:Value.okWide P W .any base 53 v):∃o:Opt,RepA W (C0 W) o.a v:=by
 obtain ⟨f,ts,h1,h2⟩:=arg_struct (tt_some tt53).1 (by kernel_rfl) h hv
 obtain ⟨o,rfl⟩:=has_opt h1
 exact ⟨o,h2⟩
end
end Go.Proofs.YtackfabapangdaaGreat

set_option maxRecDepth 100000
namespace Go.Proofs.YtackfabapangdaaGreat
open Go
theorem w_enter:Tryz.prog.mayEnter=true:=by kernel_rfl
theorem w_lift:((false:Bool)==Tryz.prog.liftsFinal)=true:=by kernel_rfl
theorem w_make:(Tryz.prog.make==some Make.cut)=true:=by kernel_rfl
end Go.Proofs.YtackfabapangdaaGreat
