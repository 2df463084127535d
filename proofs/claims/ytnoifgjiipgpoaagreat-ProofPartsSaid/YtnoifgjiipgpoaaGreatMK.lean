/- Parts of the proof: Law20e, Law20f. -/
import Derived.Test.YtnoifgjiipgpoaaGreatMJ
set_option linter.all false
set_option maxHeartbeats 4000000
set_option maxRecDepth 4000
set_option maxHeartbeats 1000000
namespace Go.Proofs.YtnoifgjiipgpoaaGreat
open Go Go.Proofs.YtnoifgjiipgpoaaGreat.R
theorem lesser_with {p:Prf} (h:p.Lesser) (k:Int):(⟨k,p.parts⟩:Prf).Lesser:=⟨h.parts,h.lays⟩
theorem tops_no {x:Inst} (hm:x.may=true) (hl:x.stops.length≤7) {w:Int} (hw:w≤40) {r:SRes} (hD:DoneX x w r) (ht:Told x r) (hs:r.status=2) {k:Int} (h1:r.low<k) (h2:k≤1152921504606846976):x.checkE ⟨k,(x.proofOf r).parts⟩=10:=by
 have h0:=hD.low.1
 refine proof_tops hm hD (by omega) h2 fun hz=>?_
 have hf:=(lesser_with (done_lesser hD hl hw) k)
 obtain ⟨_,_,h3⟩:=check_sound (by omega) hf.fine.parts hf.fine.ok hz
 rcases ht.status with ⟨_,e1,e2⟩ | ⟨e1,_⟩ | ⟨e1,_⟩
 ·obtain ⟨v,hv⟩:=plan_way hm (ht.plan e2)
  have:=h3 v _ hv
  have e3:(⟨k,(x.proofOf r).parts⟩:Prf).least=k:=rfl
  omega
 ·omega
 ·omega
theorem lptops_pure (x:Inst) (o:Opt) (more:Int) (hl:x.stops.length<2^63):Pure P 5 [x.a,o.a,.i more] (.b true):=by
 refine pure_of Tryz.func5 rfl rfl (by simp [Tryz.f5]) (by simp [bnd,bnd.bndL,Inst.a,Opt.a,Opt.cs]) (by simp [bnd,bnd.bndL]) fun B hB hnx=>?_
 simp only [Tryz.f5] at hB ⊢
 have hf:=few19_pure x o hl
 have hm:=may_pure x hl
 have ho:=omay_pure {o with budget:=549755813888}
 refine K_run hB 100 ?_
 simp [go_sem,Inst.a,Opt.a,Opt.cs]
 refine K_call rfl rfl rfl (args:=[]) (f:=7) (by simp [go_sem]) (by simp [go_sem,hB]) ((awake20_pure).spec _ _) ?_
 refine K_run hB 100 ?_
 simp [go_sem]
 refine K_call rfl rfl rfl (args:=[x.a,o.a]) (f:=8) (by simp [go_sem,Inst.a,Opt.a,Opt.cs]) (by simp [go_sem,hB]) ((hf).spec _ _) ?_
 cases cf:fewO x o with
 |false=>
  refine K_run hB 100 ?_
  simp [go_sem]
 |true=>
  simp only [fewO,Bool.and_eq_true,decide_eq_true_eq] at cf
  refine K_run hB 100 ?_
  simp [go_sem]
  refine K_call rfl rfl rfl (args:=[x.a]) (f:=13) (by simp [go_sem,Inst.a]) (by simp [go_sem,hB]) ((hm).spec _ _) ?_
  cases cm:x.may with
  |false=>
   refine K_run hB 100 ?_
   simp [go_sem]
  |true=>
   refine K_run hB 100 ?_
   simp [go_sem]
   refine K_call rfl rfl rfl (args:=[Opt.a {o with budget:=549755813888}]) (f:=14) (by simp [go_sem,Opt.a,Opt.cs]) (by simp [go_sem,hB]) ((ho).spec _ _) ?_
   cases co:Opt.mayB {o with budget:=549755813888} with
   |false=>
    refine K_run hB 100 ?_
    simp [go_sem]
   |true=>
    by_cases c1:more<1
    ·refine K_run hB 100 ?_
     simp [go_sem,c1]
    by_cases c2:1152921504606846976<more
    ·refine K_run hB 100 ?_
     simp [go_sem,c1,c2]
    have hs:=srun_pure x {o with budget:=549755813888} cf.1 cf.2
    have hfi:=search_fine3 (x:=x) (o:={o with budget:=549755813888}) cf.1 cf.2
    have hD:=search_done (o:={o with budget:=549755813888}) cf.1 cm co cf.2
    have htd:=search_told (o:={o with budget:=549755813888}) cf.1 cm co cf.2
    have hmk:=make2_pure x (x.search {o with budget:=549755813888}) (by omega) hfi
    have hle:=lesser_with (done_lesser hD cf.1 cf.2)
    have hno:=fun k=>tops_no cm cf.1 cf.2 hD htd (k:=k)
    have hck:=fun k=>check_pure x ⟨k,(x.proofOf (x.search {o with budget:=549755813888})).parts⟩ (by omega) (hle k).fine
    have hlow:=hD.low
    have hinf:inf=1152921504606846976:=rfl
    generalize x.proofOf (x.search {o with budget:=549755813888})=p at *
    generalize x.search {o with budget:=549755813888}=r at *
    refine K_run hB 100 ?_
    simp [go_sem,c1,c2]
    refine K_call rfl rfl rfl (args:=[x.a,Opt.a {o with budget:=549755813888}]) (f:=9) (by simp [go_sem,Inst.a,Opt.a,Opt.cs]) (by simp [go_sem,hB]) ((hs).spec _ _) ?_
    refine K_run hB 100 ?_
    simp [go_sem,SRes.a]
    refine K_call rfl rfl rfl (args:=[x.a,r.a]) (f:=11) (by simp [go_sem,Inst.a,SRes.a]) (by simp [go_sem,hB]) ((hmk).spec _ _) ?_
    by_cases c3:r.status=2
    ·have w1:IntKind.i64.wrap (1152921504606846976-r.low)=1152921504606846976-r.low:=w64 _ (by omega)
     by_cases c4:1152921504606846976-r.low<more
     ·refine K_run hB 100 ?_
      simp [go_sem,Prf.a,Prf.cs,c3,c4,w1]
     ·have w2:IntKind.i64.wrap (r.low+more)=r.low+more:=w64 _ (by omega)
      have hk:=hck (r.low+more)
      rw [hno _ c3 (by omega) (by omega)] at hk
      refine K_run hB 100 ?_
      simp [go_sem,Prf.a,Prf.cs,c3,c4,w1,w2]
      refine K_call rfl rfl rfl (args:=[x.a,(⟨r.low+more,p.parts⟩:Prf).a]) (f:=15) (by simp [go_sem,Inst.a,Prf.a,Prf.cs]) (by simp [go_sem,hB]) ((hk).spec _ _) ?_
      refine K_run hB 100 ?_
      simp [go_sem]
    ·refine K_run hB 100 ?_
     simp [go_sem,Prf.a,Prf.cs,c3]
def Prf.Led (p:Prf):Prop:=∃(k:Nat) (q:List (List Spot)),k+1<p.parts.length∧p.parts[k]? =some q∧∃l∈q,∃n∈l,n.part=p.parts.length
theorem check_none (x:Inst) (k:Int):x.checkE ⟨k,[]⟩=1:=by
 rw [Inst.checkE,if_neg]
 simp [Inst.mayP]
theorem check_cut {x:Inst} {p:Prf} (h:p.Led):x.checkE ⟨p.least,p.parts.take (p.parts.length-1)⟩=1:=by
 obtain ⟨k,q,hk,hq,l,hl,n,hn,hp⟩:=h
 rw [Inst.checkE,if_neg]
 intro hm
 simp only [Inst.mayP,Bool.and_eq_true,decide_eq_true_eq,List.all_eq_true] at hm
 have hqm:q∈p.parts.take (p.parts.length-1):=by
  rw [List.mem_take_iff_getElem]
  obtain ⟨h1,h2⟩:=List.getElem?_eq_some_iff.1 hq
  exact ⟨k,by omega,h2⟩
 have hw:=whole_spot (hm.2.2.2.2 q hqm) hl hn
 simp only [Inst.spotB,Bool.and_eq_true,decide_eq_true_eq,List.length_take] at hw
 omega
def Prf.Fwd (p:Prf):Prop:=∀(k:Nat) q,p.parts[k]? =some q→∀l∈q,∀n∈l,n.part=p.parts.length→k+1<p.parts.length
theorem proof_fwd {x:Inst} (hm:x.may=true) {w:Int} {r:SRes} (hD:DoneX x w r):(x.proofOf r).Fwd:=by
 intro k q hq l hl n hn hp
 by_cases h:r.log.length=0
 ·have e:x.proofOf r=⟨r.low,[[[⟨x.rootS,0,0⟩]]]⟩:=by rw [Inst.proofOf,if_pos h]
  rw [e] at hq hp ⊢
  have hq2:=List.mem_of_getElem? hq
  simp only [List.mem_singleton] at hq2
  subst hq2
  simp only [List.mem_singleton] at hl
  subst hl
  simp only [List.mem_singleton] at hn
  subst hn
  simp at hp
 ·have e:x.proofOf r=⟨r.low,r.log.map fun d=>x.partM r d.2⟩:=by rw [Inst.proofOf,if_neg h]
  rw [e] at hq hp ⊢
  simp only [List.getElem?_map,List.length_map] at hq hp ⊢
  cases hk:r.log[k]? with
  |none=>rw [hk] at hq;cases hq
  |some d=>
   rw [hk,Option.map_some] at hq
   have hq:=Option.some.inj hq
   subst hq
   obtain ⟨i,hi,e2⟩:=List.getElem_of_mem hl
   have hg:=partM_get (x:=x) (r:=r) (d:=d.2) i
   rw [List.getElem?_eq_getElem hi,e2] at hg
   cases hla:(laysP r d.2)[i]? with
   |none=>rw [hla] at hg;cases hg
   |some lay=>
    rw [hla] at hg
    have hg:=Option.some.inj hg
    subst hg
    obtain ⟨m,hmm,rfl⟩:=List.mem_map.1 hn
    have hpos:0<r.log.length:=by omega
    have hpe:layF x r (lastP r d.2) i m=r.log.length:=hp
    obtain ⟨⟨j,D,hj,hjD,hjj⟩,_⟩:=(holds_node hm hD (p:=⟨r.low,r.log.map fun d=>x.partM r d.2⟩) rfl (n:=d.1) (d:=d.2) hk hla hmm).2 (by omega)
    have:=(List.getElem?_eq_some_iff.1 hjD).1
    omega
end Go.Proofs.YtnoifgjiipgpoaaGreat

set_option maxRecDepth 4000
set_option maxHeartbeats 1000000
namespace Go.Proofs.YtnoifgjiipgpoaaGreat
open Go Go.Proofs.YtnoifgjiipgpoaaGreat.R
theorem lesser_cut {p:Prf} (h:p.Lesser):(⟨p.least,p.parts.take (p.parts.length-1)⟩:Prf).Lesser:=
 ⟨by have:=h.parts;simp only [List.length_take];omega,fun q hq=>h.lays q (List.mem_of_mem_take hq)⟩
theorem lpparts_pure (x:Inst) (o:Opt) (hl:x.stops.length<2^63):Pure P 6 [x.a,o.a] (.b true):=by
 refine pure_of Tryz.func6 rfl rfl (by simp [Tryz.f6]) (by simp [bnd,bnd.bndL,Inst.a,Opt.a,Opt.cs]) (by simp [bnd,bnd.bndL]) fun B hB hnx=>?_
 simp only [Tryz.f6] at hB ⊢
 have hf:=few19_pure x o hl
 have hm:=may_pure x hl
 have ho:=omay_pure o
 refine K_run hB 100 ?_
 simp [go_sem,Inst.a,Opt.a,Opt.cs]
 refine K_call rfl rfl rfl (args:=[]) (f:=7) (by simp [go_sem]) (by simp [go_sem,hB]) ((awake20_pure).spec _ _) ?_
 refine K_run hB 100 ?_
 simp [go_sem]
 refine K_call rfl rfl rfl (args:=[x.a,o.a]) (f:=8) (by simp [go_sem,Inst.a,Opt.a,Opt.cs]) (by simp [go_sem,hB]) ((hf).spec _ _) ?_
 cases cf:fewO x o with
 |false=>
  refine K_run hB 100 ?_
  simp [go_sem]
 |true=>
  simp only [fewO,Bool.and_eq_true,decide_eq_true_eq] at cf
  refine K_run hB 100 ?_
  simp [go_sem]
  refine K_call rfl rfl rfl (args:=[x.a]) (f:=13) (by simp [go_sem,Inst.a]) (by simp [go_sem,hB]) ((hm).spec _ _) ?_
  cases cm:x.may with
  |false=>
   refine K_run hB 100 ?_
   simp [go_sem]
  |true=>
   refine K_run hB 100 ?_
   simp [go_sem]
   refine K_call rfl rfl rfl (args:=[o.a]) (f:=14) (by simp [go_sem,Opt.a,Opt.cs]) (by simp [go_sem,hB]) ((ho).spec _ _) ?_
   cases co:o.mayB with
   |false=>
    refine K_run hB 100 ?_
    simp [go_sem]
   |true=>
    have hs:=srun_pure x o cf.1 cf.2
    have hfi:=search_fine3 (x:=x) (o:=o) cf.1 cf.2
    have hD:=search_done cf.1 cm co cf.2
    have hmk:=make2_pure x (x.search o) (by omega) hfi
    have hle:=done_lesser hD cf.1 cf.2
    have hfw:=proof_fwd cm hD
    have hmp:=proof_may cm hD
    have hck:=check_pure x (x.proofOf (x.search o)) (by omega) hle.fine
    rw [proof_holds cm hD] at hck
    generalize x.proofOf (x.search o)=p at *
    generalize x.search o=r at *
    have hne:0<p.parts.length:=by
     simp only [Inst.mayP,Bool.and_eq_true,decide_eq_true_eq] at hmp
     exact List.length_pos_iff.2 hmp.2.2.2.1
    have hpl:=hle.parts
    have hlp:(p.parts.map partT).length=p.parts.length:=List.length_map _
    have h0:=check_pure x ⟨p.least,[]⟩ (by omega) ⟨by simp,by simp,by simp,by simp⟩
    rw [check_none] at h0
    obtain ⟨m,hm1⟩:∃m,p.parts.length-1=m:=⟨_,rfl⟩
    have hcut:=fun h=>check_cut (x:=x) (p:=p) h
    have hlc:=lesser_cut hle
    rw [hm1] at hcut hlc
    have h1:=check_pure x ⟨p.least,p.parts.take m⟩ (by omega) hlc.fine
    have hne2:¬p.parts.length=0:=by omega
    have hw1:IntKind.i64.wrap ((p.parts.length:Int)-1)=(m:Int):=by rw [w64 _ (by omega)];omega
    refine K_run hB 100 ?_
    simp [go_sem]
    refine K_drawnF [5,6] [0,1,2,3,4] rfl (by rw [hB];kernel_rfl) (by kernel_rfl) fun ht hf'=>?_
    refine K_run hB 100 ?_
    simp [go_sem,ht,hf']
    refine K_dCallP rfl rfl rfl (args:=[x.a,o.a]) (f:=9) (by simp [go_sem,Inst.a,Opt.a,Opt.cs]) (hs) ?_
    refine K_run hB 100 ?_
    simp [go_sem,ht,hf',SRes.a]
    refine K_dCallP rfl rfl rfl (args:=[x.a,r.a]) (f:=11) (by simp [go_sem,Inst.a,SRes.a]) (hmk) ?_
    refine K_run hB 100 ?_
    simp [go_sem,ht,hf',Prf.a,Prf.cs]
    refine K_call rfl rfl rfl (args:=[x.a,p.a]) (f:=15) (by simp [go_sem,Inst.a,Prf.a,Prf.cs]) (by simp [go_sem,hB]) ((hck).spec _ _) ?_
    refine K_run hB 100 ?_
    simp [go_sem,hlp,hne2]
    refine K_loopP (α:=Nat×Bool) (fun (k,L)=>k≤p.parts.length∧(L=true→p.Led)) (fun (k,L)=>⟨sl [(2,.ptr 0 0),(7,.ptr 2 0),(8,.b L),(9,.i k)],_,_⟩) (fun a=>p.parts.length-a.1) (0,false) ⟨Nat.zero_le _,fun h=>by cases h⟩ (Imp.slots (by simp [go_sem]) rfl rfl) ?_
    rintro ⟨k,L⟩ ⟨g1,g2⟩
    by_cases hk:k<p.parts.length
    ·have hkk:IntKind.i64.wrap ((k:Int)+1)=((k+1:Nat):Int):=by rw [w64 ((k:Int)+1) (by omega)];rfl
     have hget:∀h,(p.parts.map partT)[k]'h=[.sl (p.parts[k].map layT)]:=fun h=>by simp [partT]
     have hqe:p.parts[k]? =some p.parts[k]:=List.getElem?_eq_getElem hk
     obtain ⟨hql,hqn⟩:=hle.lays p.parts[k] (List.getElem_mem _)
     generalize p.parts[k]=q at *
     have hlq:(q.map layT).length=q.length:=List.length_map _
     refine K_run hB 60 ?_
     simp [go_sem,hlp,hk]
     refine K_loopP (α:=Nat×Bool) (fun (i,L)=>i≤q.length∧(L=true→p.Led)) (fun (i,L)=>⟨sl [(2,.ptr 0 0),(7,.ptr 2 0),(8,.b L),(9,.i k),(10,.i i)],_,_⟩) (fun a=>q.length-a.1) (0,L) ⟨Nat.zero_le _,g2⟩ (Imp.slots (by simp [go_sem]) rfl rfl) ?_
     clear g2
     rintro ⟨i,L⟩ ⟨i1,i2⟩
     by_cases hi:i<q.length
     ·have hii:IntKind.i64.wrap ((i:Int)+1)=((i+1:Nat):Int):=by rw [w64 ((i:Int)+1) (by omega)];rfl
      have hgi:∀h,(q.map layT)[i]'h=[.sl (q[i].map Spot.t)]:=fun h=>by simp [layT]
      have hlm:q[i]∈q:=List.getElem_mem _
      obtain ⟨hln,_⟩:=hqn q[i] hlm
      generalize q[i]=l at *
      have hll:(l.map Spot.t).length=l.length:=List.length_map _
      refine K_run hB 60 ?_
      simp [go_sem,hlp,hk,hget,hlq,hi]
      refine K_loopP (α:=Nat×Bool) (fun (j,L)=>j≤l.length∧(L=true→p.Led)) (fun (j,L)=>⟨sl [(2,.ptr 0 0),(7,.ptr 2 0),(8,.b L),(9,.i k),(10,.i i),(11,.i j)],_,_⟩) (fun a=>l.length-a.1) (0,L) ⟨Nat.zero_le _,i2⟩ (Imp.slots (by simp [go_sem]) rfl rfl) ?_
      clear i2
      rintro ⟨j,L⟩ ⟨j1,j2⟩
      by_cases hj:j<l.length
      ·have hjj:IntKind.i64.wrap ((j:Int)+1)=((j+1:Nat):Int):=by rw [w64 ((j:Int)+1) (by omega)];rfl
       have hgj:∀h,(l.map Spot.t)[j]'h=l[j].t:=fun h=>by simp
       have hnm:l[j]∈l:=List.getElem_mem _
       generalize l[j]=n at *
       refine K_run hB 60 ?_
       simp [go_sem,hlp,hk,hget,hlq,hi,hgi,hll,hj]
       refine K_drawn [] rfl (by rw [hB];kernel_rfl) ?_
       cases L with
       |true=>
        refine K_run hB 60 ?_
        simp [go_sem,hjj]
        exact Next.mk (j+1,true) ⟨by omega,j2⟩ (Imp.slots (by simp [go_sem]) rfl rfl) (by simp only;omega)
       |false=>
        refine K_run hB 60 ?_
        simp [go_sem,hlp,hk,hget,hlq,hi,hgi,hll,hj,hgj,Spot.t,hjj]
        refine Next.mk (j+1,decide (n.part=p.parts.length)) ⟨by omega,fun h=>?_⟩ (Imp.slots (by simp [go_sem]) rfl rfl) (by simp only;omega)
        have hpe:n.part=p.parts.length:=of_decide_eq_true h
        exact ⟨k,q,hfw k q hqe l hlm n hnm hpe,hqe,l,hlm,n,hnm,hpe⟩
      ·refine K_run hB 60 ?_
       simp [go_sem,hlp,hk,hget,hlq,hi,hgi,hll,hj,hii]
       exact Next.mk (i+1,L) ⟨by omega,j2⟩ (Imp.slots (by simp [go_sem]) rfl rfl) (by simp only;omega)
     ·refine K_run hB 60 ?_
      simp [go_sem,hlp,hk,hget,hlq,hi,hkk]
      exact Next.mk (k+1,L) ⟨by omega,i2⟩ (Imp.slots (by simp [go_sem]) rfl rfl) (by simp only;omega)
    ·refine K_run hB 60 ?_
     simp [go_sem,hlp,hk]
     refine K_drawnF [10,11] [0,1,2,3,4,5,6,7,8,9] rfl (by rw [hB];kernel_rfl) (by kernel_rfl) fun ht hf'=>?_
     have h1o:∀q:List (List Spot),(partT q).length=1:=fun _=>rfl
     refine K_run hB 60 ?_
     simp [go_sem,ht,hf',hlp,hw1,h1o,show m≤p.parts.length by omega]
     refine K_call rfl rfl rfl (args:=[x.a,(⟨p.least,p.parts.take m⟩:Prf).a]) (f:=15) (by simp [go_sem,Inst.a,Prf.a,Prf.cs]) (by simp [go_sem,hB]) ((h1).spec _ _) ?_
     refine K_run hB 100 ?_
     simp [go_sem]
     refine K_call rfl rfl rfl (args:=[x.a,.agg [.i p.least,.fsl []]]) (f:=15) (by simp [go_sem,Inst.a]) (by simp [go_sem,hB]) ((Pure.loose h0 (by simp [bnd,bnd.bndL,Inst.a])).spec _ _) ?_
     cases L with
     |true=>
      rw [hcut (g2 rfl)] at *
      refine K_run hB 100 ?_
      simp [go_sem]
     |false=>
      refine K_run hB 100 ?_
      simp [go_sem]
end Go.Proofs.YtnoifgjiipgpoaaGreat
