/- Parts of the proof: Law20e. -/
import Derived.Test.YtnoifgjiipgpoaaGreatMJ
set_option linter.all false
set_option maxHeartbeats 4000000
set_option maxRecDepth 4000
set_option maxHeartbeats 1000000
namespace Go.Proofs.YtnoifgjiipgpoaaGreat
open Go Go.Proofs.YtnoifgjiipgpoaaGreat.R
theorem lesser_with {p:Prf} (h:p.Lesser) (k:Int):(⟨k,p.parts⟩:Prf).Lesser:=⟨h.parts,h.lays⟩
theorem tops_no {x:Inst} (hm:x.may=true) (hl:x.stops.length≤7) {w:Int} (hw:w≤40) {r:SRes} (hD:DoneX x w r) (ht:Told x r) (hs:r.status=2) {k:Int} (h1:r.low<k) (h2:k≤1152921504606846976):x.checkE ⟨k,(x.proofOf r).parts⟩=10:=by
 have h0:=hD.low.1
 refine proof_tops hm hD (by omega) h2 fun hz=>?_
 have hf:=(lesser_with (done_lesser hD hl hw) k)
 obtain ⟨_,_,h3⟩:=check_sound (by omega) hf.fine.parts hf.fine.ok hz
 rcases ht.status with ⟨_,e1,e2⟩ | ⟨e1,_⟩ | ⟨e1,_⟩
 ·obtain ⟨v,hv⟩:=plan_way hm (ht.plan e2)
  have:=h3 v _ hv
  have e3:(⟨k,(x.proofOf r).parts⟩:Prf).least=k:=rfl
  omega
 ·omega
 ·omega
theorem lptops_pure (x:Inst) (o:Opt) (more:Int) (hl:x.stops.length<2^63):Pure P 5 [x.a,o.a,.i more] (.b true):=by
 refine pure_of Tryz.func5 rfl rfl (by simp [Tryz.f5]) (by simp [bnd,bnd.bndL,Inst.a,Opt.a,Opt.cs]) (by simp [bnd,bnd.bndL]) fun B hB hnx=>?_
 simp only [Tryz.f5] at hB ⊢
 have hf:=few19_pure x o hl
 have hm:=may_pure x hl
 have ho:=omay_pure {o with budget:=549755813888}
 refine K_run hB 100 ?_
 simp [go_sem,Inst.a,Opt.a,Opt.cs]
 refine K_call rfl rfl rfl (args:=[]) (f:=7) (by simp [go_sem]) (by simp [go_sem,hB]) ((awake20_pure).spec _ _) ?_
 refine K_run hB 100 ?_
 simp [go_sem]
 refine K_call rfl rfl rfl (args:=[x.a,o.a]) (f:=8) (by simp [go_sem,Inst.a,Opt.a,Opt.cs]) (by simp [go_sem,hB]) ((hf).spec _ _) ?_
 cases cf:fewO x o with
 |false=>
  refine K_run hB 100 ?_
  simp [go_sem]
 |true=>
  simp only [fewO,Bool.and_eq_true,decide_eq_true_eq] at cf
  refine K_run hB 100 ?_
  simp [go_sem]
  refine K_call rfl rfl rfl (args:=[x.a]) (f:=13) (by simp [go_sem,Inst.a]) (by simp [go_sem,hB]) ((hm).spec _ _) ?_
  cases cm:x.may with
  |false=>
   refine K_run hB 100 ?_
   simp [go_sem]
  |true=>
   refine K_run hB 100 ?_
   simp [go_sem]
   refine K_call rfl rfl rfl (args:=[Opt.a {o with budget:=549755813888}]) (f:=14) (by simp [go_sem,Opt.a,Opt.cs]) (by simp [go_sem,hB]) ((ho).spec _ _) ?_
   cases co:Opt.mayB {o with budget:=549755813888} with
   |false=>
    refine K_run hB 100 ?_
    simp [go_sem]
   |true=>
    by_cases c1:more<1
    ·refine K_run hB 100 ?_
     simp [go_sem,c1]
    by_cases c2:1152921504606846976<more
    ·refine K_run hB 100 ?_
     simp [go_sem,c1,c2]
    have hs:=srun_pure x {o with budget:=549755813888} cf.1 cf.2
    have hfi:=search_fine3 (x:=x) (o:={o with budget:=549755813888}) cf.1 cf.2
    have hD:=search_done (o:={o with budget:=549755813888}) cf.1 cm co cf.2
    have htd:=search_told (o:={o with budget:=549755813888}) cf.1 cm co cf.2
    have hmk:=make2_pure x (x.search {o with budget:=549755813888}) (by omega) hfi
    have hle:=lesser_with (done_lesser hD cf.1 cf.2)
    have hno:=fun k=>tops_no cm cf.1 cf.2 hD htd (k:=k)
    have hck:=fun k=>check_pure x ⟨k,(x.proofOf (x.search {o with budget:=549755813888})).parts⟩ (by omega) (hle k).fine
    have hlow:=hD.low
    have hinf:inf=1152921504606846976:=rfl
    generalize x.proofOf (x.search {o with budget:=549755813888})=p at *
    generalize x.search {o with budget:=549755813888}=r at *
    refine K_run hB 100 ?_
    simp [go_sem,c1,c2]
    refine K_call rfl rfl rfl (args:=[x.a,Opt.a {o with budget:=549755813888}]) (f:=9) (by simp [go_sem,Inst.a,Opt.a,Opt.cs]) (by simp [go_sem,hB]) ((hs).spec _ _) ?_
    refine K_run hB 100 ?_
    simp [go_sem,SRes.a]
    refine K_call rfl rfl rfl (args:=[x.a,r.a]) (f:=11) (by simp [go_sem,Inst.a,SRes.a]) (by simp [go_sem,hB]) ((hmk).spec _ _) ?_
    by_cases c3:r.status=2
    ·have w1:IntKind.i64.wrap (1152921504606846976-r.low)=1152921504606846976-r.low:=w64 _ (by omega)
     by_cases c4:1152921504606846976-r.low<more
     ·refine K_run hB 100 ?_
      simp [go_sem,Prf.a,Prf.cs,c3,c4,w1]
     ·have w2:IntKind.i64.wrap (r.low+more)=r.low+more:=w64 _ (by omega)
      have hk:=hck (r.low+more)
      rw [hno _ c3 (by omega) (by omega)] at hk
      refine K_run hB 100 ?_
      simp [go_sem,Prf.a,Prf.cs,c3,c4,w1,w2]
      refine K_call rfl rfl rfl (args:=[x.a,(⟨r.low+more,p.parts⟩:Prf).a]) (f:=15) (by simp [go_sem,Inst.a,Prf.a,Prf.cs]) (by simp [go_sem,hB]) ((hk).spec _ _) ?_
      refine K_run hB 100 ?_
      simp [go_sem]
    ·refine K_run hB 100 ?_
     simp [go_sem,Prf.a,Prf.cs,c3]
def Prf.Led (p:Prf):Prop:=∃(k:Nat) (q:List (List Spot)),k+1<p.parts.length∧p.parts[k]? =some q∧∃l∈q,∃n∈l,n.part=p.parts.length
theorem check_none (x:Inst) (k:Int):x.checkE ⟨k,[]⟩=1:=by
 rw [Inst.checkE,if_neg]
 simp [Inst.mayP]
theorem check_cut {x:Inst} {p:Prf} (h:p.Led):x.checkE ⟨p.least,p.parts.take (p.parts.length-1)⟩=1:=by
 obtain ⟨k,q,hk,hq,l,hl,n,hn,hp⟩:=h
 rw [Inst.checkE,if_neg]
 intro hm
 simp only [Inst.mayP,Bool.and_eq_true,decide_eq_true_eq,List.all_eq_true] at hm
 have hqm:q∈p.parts.take (p.parts.length-1):=by
  rw [List.mem_take_iff_getElem]
  obtain ⟨h1,h2⟩:=List.getElem?_eq_some_iff.1 hq
  exact ⟨k,by omega,h2⟩
 have hw:=whole_spot (hm.2.2.2.2 q hqm) hl hn
 simp only [Inst.spotB,Bool.and_eq_true,decide_eq_true_eq,List.length_take] at hw
 omega
def Prf.Fwd (p:Prf):Prop:=∀(k:Nat) q,p.parts[k]? =some q→∀l∈q,∀n∈l,n.part=p.parts.length→k+1<p.parts.length
theorem proof_fwd {x:Inst} (hm:x.may=true) {w:Int} {r:SRes} (hD:DoneX x w r):(x.proofOf r).Fwd:=by
 intro k q hq l hl n hn hp
 by_cases h:r.log.length=0
 ·have e:x.proofOf r=⟨r.low,[[[⟨x.rootS,0,0⟩]]]⟩:=by rw [Inst.proofOf,if_pos h]
  rw [e] at hq hp ⊢
  have hq2:=List.mem_of_getElem? hq
  simp only [List.mem_singleton] at hq2
  subst hq2
  simp only [List.mem_singleton] at hl
  subst hl
  simp only [List.mem_singleton] at hn
  subst hn
  simp at hp
 ·have e:x.proofOf r=⟨r.low,r.log.map fun d=>x.partM r d.2⟩:=by rw [Inst.proofOf,if_neg h]
  rw [e] at hq hp ⊢
  simp only [List.getElem?_map,List.length_map] at hq hp ⊢
  cases hk:r.log[k]? with
  |none=>rw [hk] at hq;cases hq
  |some d=>
   rw [hk,Option.map_some] at hq
   have hq:=Option.some.inj hq
   subst hq
   obtain ⟨i,hi,e2⟩:=List.getElem_of_mem hl
   have hg:=partM_get (x:=x) (r:=r) (d:=d.2) i
   rw [List.getElem?_eq_getElem hi,e2] at hg
   cases hla:(laysP r d.2)[i]? with
   |none=>rw [hla] at hg;cases hg
   |some lay=>
    rw [hla] at hg
    have hg:=Option.some.inj hg
    subst hg
    obtain ⟨m,hmm,rfl⟩:=List.mem_map.1 hn
    have hpos:0<r.log.length:=by omega
    have hpe:layF x r (lastP r d.2) i m=r.log.length:=hp
    obtain ⟨⟨j,D,hj,hjD,hjj⟩,_⟩:=(holds_node hm hD (p:=⟨r.low,r.log.map fun d=>x.partM r d.2⟩) rfl (n:=d.1) (d:=d.2) hk hla hmm).2 (by omega)
    have:=(List.getElem?_eq_some_iff.1 hjD).1
    omega
end Go.Proofs.YtnoifgjiipgpoaaGreat
