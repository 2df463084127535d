/- Parts of the proof: Law19b, Law19d, RHeap, SplitP, SplitRf, RSrch, RSrch2, NarrowR, RSrch3, RSrch4, RSrch5, Law19e. -/
import Derived.Test.YtackfabapangdaaGreatMJ
set_option linter.all false
set_option maxHeartbeats 4000000
set_option maxRecDepth 4000
set_option maxHeartbeats 1000000
namespace Go.Proofs.YtackfabapangdaaGreat
open Go Go.Proofs.YtackfabapangdaaGreat.R
structure Whole (x:Inst) (r:SRes):Prop where
 low:r.low=r.up
 least:∀v c,x.way v x.rootS c→r.up≤c
 some:r.up<inf→r.status=2∧∃v,x.way v x.rootS r.up
 none:¬r.up<inf→r.status=3∧r.up=inf
end Go.Proofs.YtackfabapangdaaGreat

set_option maxRecDepth 4000
set_option maxHeartbeats 1000000
namespace Go.Proofs.YtackfabapangdaaGreat
open Go Go.Proofs.YtackfabapangdaaGreat.R
theorem planT_get (l:List (List Int)) {k:Nat} (h:k<l.length) (h':k<(planT l).length):(planT l)[k]'h'=[.sl (ints l[k])]:=by simp [planT,rowT]
theorem take_succ {α:Type} {l:List α} {k:Nat} (h:k<l.length):l.take (k+1)=l.take k++[l[k]]:=by rw [List.take_add_one,List.getElem?_eq_getElem h];rfl
theorem rsameL_pure (a b:List (List Int)) (ha:a.length<2^62) (hb:b.length<2^62) (ga:∀r∈a,r.length<2^62) (gb:∀r∈b,r.length<2^62):Pure P 69 [.t (.sl (planT a)),.t (.sl (planT b))] (.b (decide (a=b))):=by
 refine pure_of Tryz.func69 rfl rfl (by simp [Tryz.f69]) (by simp [bnd,bnd.bndL]) (by simp [bnd,bnd.bndL]) fun B hB hnx=>?_
 simp only [Tryz.f69] at hB ⊢
 have h1:(planT a).length=a.length:=List.length_map _
 have h2:(planT b).length=b.length:=List.length_map _
 by_cases c0:a.length=b.length
 rotate_left
 ·have:¬a=b:=fun e=>c0 (by rw [e])
  refine K_run hB 100 ?_
  simp [go_sem,h1,h2,c0,this]
 refine K_run hB 100 ?_
 simp [go_sem,h1,h2,c0]
 refine K_loopP (α:=Nat) (fun k=>k≤b.length∧a.take k=b.take k) (fun k=>⟨sl [(0,.t (.sl (planT a))),(1,.t (.sl (planT b))),(5,.i k)],noObj,0⟩) (fun k=>b.length-k) 0 ⟨Nat.zero_le _,rfl⟩ (Imp.slots (by simp [go_sem]) rfl rfl) ?_
 rintro k ⟨g1,g2⟩
 refine K_run hB 100 ?_
 simp [go_sem,h1,c0]
 refine fork_dec (fun hk=>?_) (fun hk=>?_)
 ·have hkk:IntKind.i64.wrap ((k:Int)+1)=((k+1:Nat):Int):=by rw [w64 ((k:Int)+1) (by omega)];rfl
  have hk':k<a.length:=by omega
  have e1:=fun h=>planT_get a hk' h
  have e2:=fun h=>planT_get b hk h
  have n1:=take_succ hk'
  have n2:=take_succ hk
  have f1:=ga _ (List.getElem_mem hk')
  have f2:=gb _ (List.getElem_mem hk)
  have hne:¬a[k]=b[k]→¬a=b:=fun h e=>h (by subst e;rfl)
  generalize hal:a[k]=l at *
  generalize hbl:b[k]=m at *
  have i1:(ints l).length=l.length:=List.length_map _
  have i2:(ints m).length=m.length:=List.length_map _
  simp [go_sem]
  refine K_drawn [] rfl (by rw [hB];kernel_rfl) ?_
  by_cases c1:l.length=m.length
  rotate_left
  ·have:=hne fun e=>c1 (by rw [e])
   refine K_run hB 100 ?_
   simp [go_sem,h1,h2,hk,hk',e1,e2,i1,i2,c1,this]
  refine K_run hB 100 ?_
  simp [go_sem,h1,h2,hk,hk',e1,e2,i1,i2,c1]
  refine K_loopP (α:=Nat) (fun j=>j≤m.length∧l.take j=m.take j) (fun j=>⟨sl [(0,.t (.sl (planT a))),(1,.t (.sl (planT b))),(5,.i k),(6,.i j)],noObj,0⟩) (fun j=>m.length-j) 0 ⟨Nat.zero_le _,rfl⟩ (Imp.slots (by simp [go_sem]) rfl rfl) ?_
  rintro j ⟨j1,j2⟩
  refine K_run hB 100 ?_
  simp [go_sem,h1,hk',e1,i1,c1]
  refine fork_dec (fun hj=>?_) (fun hj=>?_)
  ·have hjj:IntKind.i64.wrap ((j:Int)+1)=((j+1:Nat):Int):=by rw [w64 ((j:Int)+1) (by omega)];rfl
   have hj':j<l.length:=by omega
   have d1:=ints_getS l hj'
   have d2:=ints_getS m hj
   have o1:=take_succ hj'
   have o2:=take_succ hj
   simp [go_sem]
   refine K_drawn [] rfl (by rw [hB];kernel_rfl) ?_
   by_cases c2:l[j]=m[j]
   ·refine K_run hB 100 ?_
    simp [go_sem,h1,h2,hk,hk',e1,e2,i1,i2,hj,hj',d1,d2,c2,hjj]
    refine Next.mk (j+1) ⟨by omega,by rw [o1,o2,j2,c2]⟩ (Imp.slots (by simp [go_sem]) rfl rfl) (by omega)
   ·have:¬a=b:=hne fun e=>c2 (by subst e;rfl)
    refine K_run hB 100 ?_
    simp [go_sem,h1,h2,hk,hk',e1,e2,i1,i2,hj,hj',d1,d2,c2,this]
  ·have:j=m.length:=by omega
   subst this
   rw [List.take_of_length_le (by omega),List.take_of_length_le (by omega)] at j2
   simp [go_sem,hkk]
   refine Next.mk (k+1) ⟨by omega,by rw [n1,n2,g2,j2]⟩ (Imp.slots (by simp [go_sem]) rfl rfl) (by omega)
 ·have:k=b.length:=by omega
  subst this
  rw [List.take_of_length_le (by omega),List.take_of_length_le (by omega)] at g2
  simp [go_sem,g2]
theorem look_log (x:Inst) (w:Int) (s:SS) (n:Node):(x.lookS w s n).log=s.log++[(n,x.build n w (s.nar x w n).up)]:=by
 have h1:(s.nar x w n).log=s.log:=(offer_up (s.plus (x.narrow n w s.up).2.2) ((x.narrow n w s.up).1,(x.narrow n w s.up).2.1)).2.2.2.1
 rw [Inst.lookS,←h1]
 generalize s.nar x w n=t
 unfold Inst.lookD
 split
 ·rfl
 split
 ·exact (offer_up _ _).2.2.2.1
 ·rw [Inst.branch,(pushes_up x _ _ _).2.1,(offers_up x _ _).2.2.2.1]
  rfl
structure LogOK (x:Inst) (w:Int) (d:Node×Diag):Prop where
 track:Track x d.1
 built:∃up,d.2=x.build d.1 w up
theorem run_log {x:Inst} {p:Nat} (hx:x.Fit p) (hm:x.may=true) (hp:p≤3) (o:Opt) (hw:o.width≤40):∀(N:Nat) (s:SS) (r:SRes),Going x p s→(∀d∈s.log,LogOK x o.width d)→x.runGo o N s=some r→(∀d∈r.log,LogOK x o.width d)∧s.log <+:r.log∧r.log.length≤1848
 |0,s,r,_,_,h=>by cases h
 |N+1,s,r,hs,hl,h=>by
  have hlen:s.log.length≤1848:=by have:=hs.small.log;omega
  rw [Inst.runGo] at h
  cases ht:takeQ o.order s.q with
  |none=>
   rw [ht] at h
   cases h
   exact ⟨hl,List.prefix_refl _,hlen⟩
  |some r'=>
   obtain ⟨e,q⟩:=r'
   rw [ht] at h
   simp only at h
   obtain ⟨n,hn,hg,htn,k1,k2,k3⟩:=hs.look hx hm hp hw ht
   rw [hg] at h
   by_cases c1:s.up≤e.bound
   ·rw [if_pos c1] at h
    exact run_log hx hm hp o hw N (s.left q) r (hs.skip ht c1) hl h
   rw [if_neg c1] at h
   by_cases c2:o.budget≤s.steps
   ·rw [if_pos c2] at h
    cases h
    exact ⟨hl,List.prefix_refl _,hlen⟩
   rw [if_neg c2] at h
   have hlog:=look_log x o.width (s.left q) n
   have e2:(s.left q).log=s.log:=rfl
   rw [e2] at hlog
   obtain ⟨i1,i2,i3⟩:=run_log hx hm hp o hw N _ r k1 (fun d hd=>by
    rw [hlog] at hd
    rcases List.mem_append.1 hd with hd | hd
    ·exact hl d hd
    ·rw [List.mem_singleton.1 hd]
     exact ⟨htn,_,rfl⟩) h
   rw [hlog] at i2
   exact ⟨i1,(List.prefix_append _ _).trans i2,i3⟩
structure SFine (r:SRes):Prop where
 plan:r.plan.length<2^62
 routes:∀p∈r.plan,p.length<2^62
 log:r.log.length<2^30
 each:∀d∈r.log,d.1.path.length<2^31∧d.2.layers.length<2^31∧∀l∈d.2.layers,l.length<2^31∧∀n∈l,n.path.length<2^31
def PlanI (s:SS):Prop:=s.up≤inf∧(s.up<inf∨s.plan=[])
theorem PlanI.offer {s:SS} (h:PlanI s) (b:Node×Bool):PlanI (s.offer b):=by
 unfold SS.offer
 split
 ·rename_i hc
  have:=h.1
  exact ⟨by show b.1.cost≤inf;omega,.inl (by show b.1.cost<inf;omega)⟩
 ·exact h
theorem PlanI.offers {x:Inst}:∀(ls:List (List Node)) (s:SS),PlanI s→PlanI (x.offers s ls)
 |[],s,h=>h
 |l :: ls,s,h=>PlanI.offers ls (s.offer (x.bests l)) (h.offer _)
theorem push_plan (x:Inst) (low:Int) (s:SS) (n:Node):(x.push low s n).plan=s.plan:=by
 rcases push_or x low s n with ⟨e,_⟩ | ⟨_,e⟩<;>rw [e]
theorem PlanI.pushes {x:Inst} {low:Int}:∀(l:List Node) (s:SS),PlanI s→PlanI (l.foldl (x.push low) s)
 |[],s,h=>h
 |n :: l,s,h=>PlanI.pushes l (x.push low s n) (by unfold PlanI;rw [push_plan,(push_up x low s n).1];exact h)
theorem PlanI.look {x:Inst} {w:Int} {s:SS} (h:PlanI s) (n:Node):PlanI (x.lookS w s n):=by
 have h1:PlanI (s.nar x w n):=PlanI.offer (s:=s.plus (x.narrow n w s.up).2.2) h _
 rw [Inst.lookS]
 generalize s.nar x w n=t at *
 unfold Inst.lookD
 split
 ·exact h1
 split
 ·exact PlanI.offer (s:=(t.dia n _).plus _) h1 _
 ·exact PlanI.pushes _ _ (PlanI.offers _ _ h1)
theorem run_plan {x:Inst} (o:Opt):∀(N:Nat) (s:SS) (r:SRes),PlanI s→x.runGo o N s=some r→r.up<inf∨r.plan=[]
 |0,s,r,_,h=>by cases h
 |N+1,s,r,hs,h=>by
  rw [Inst.runGo] at h
  cases ht:takeQ o.order s.q with
  |none=>
   rw [ht] at h
   cases h
   exact hs.2
  |some r'=>
   obtain ⟨e,q⟩:=r'
   rw [ht] at h
   simp only at h
   have hq:PlanI (s.left q):=hs
   by_cases c1:s.up≤e.bound
   ·rw [if_pos c1] at h
    exact run_plan o N _ r hq h
   rw [if_neg c1] at h
   by_cases c2:o.budget≤s.steps
   ·rw [if_pos c2] at h
    cases h
    exact hs.2
   rw [if_neg c2] at h
   exact run_plan o N _ r (hq.look _) h
theorem search_fine {x:Inst} {o:Opt} (hl:x.stops.length≤7) (hm:x.may=true) (ho:o.mayB=true) (hw:o.width≤40):SFine (x.search o):=by
 obtain ⟨p,hx⟩:=x.fit hm
 have hp:p≤3:=by have:=hx.len;omega
 have hrun:=search_is hx hm hp ho hw
 have hg:=start_going hx hm hp
 have hlog0:x.start.log=[]:=(push_up x 0 ⟨[],[],inf,[],0,[]⟩ x.rootN).2.1
 obtain ⟨i1,_,i3⟩:=run_log hx hm hp o hw 1850 x.start _ hg (fun d hd=>by rw [hlog0] at hd;cases hd) hrun
 have hpl:=run_plan o 1850 x.start _ (by unfold PlanI;rw [Inst.start,push_plan,(push_up x 0 _ x.rootN).1];exact ⟨Int.le_refl _,.inr rfl⟩) hrun
 have ht:=search_told hl hm ho hw
 have hplan:(x.search o).plan.length<2^62∧∀p∈(x.search o).plan,p.length<2^62:=by
  rcases hpl with h | h
  ·obtain ⟨hok,_⟩:=cost_ok hx hm (ht.plan h)
   have h1:=hok.cars
   have h2:=hx.cars
   have h3:=hx.few
   refine ⟨by omega,fun r hr=>?_⟩
   have:=(times_ok hx hm (hok.each r hr).2).2.1
   omega
  ·rw [h];simp
 refine ⟨hplan.1,hplan.2,by omega,fun d hd=>?_⟩
 obtain ⟨h1,up,h2⟩:=i1 d hd
 have hpre:=look_pre hx hm hp h1 hw
 obtain ⟨⟨f1,f2,f3⟩,_⟩:=hpre.lay up
 rw [h2]
 refine ⟨by have:=hpre.path;omega,by omega,fun l hl=>⟨by have:=f2 l hl;omega,fun n hn=>by have:=(f3 l hl n hn).2;omega⟩⟩
theorem logT_get (l:List (Node×Diag)) {k:Nat} (h:k<l.length) (h':k<(logT l).length):(logT l)[k]'h'=Done.t l[k]:=by simp [logT]
def SRes.same (a b:SRes):Bool:=decide (a.status=b.status∧a.up=b.up∧a.low=b.low∧a.steps=b.steps∧a.log.length=b.log.length∧a.plan=b.plan)
theorem ssame_pure (a b:SRes) (ha:SFine a) (hb:SFine b) (hlog:a.log.length=b.log.length→a.log=b.log):Pure P 30 [a.a,b.a] (.b (a.same b)):=by
 generalize hR:a.same b=R
 refine pure_of Tryz.func30 rfl rfl (by simp [Tryz.f30]) (by simp [bnd,bnd.bndL,SRes.a]) (by simp [bnd,bnd.bndL]) fun B hB hnx=>?_
 simp only [Tryz.f30] at hB ⊢
 rw [SRes.same] at hR
 have h1:(logT a.log).length=a.log.length:=List.length_map _
 have h2:(logT b.log).length=b.log.length:=List.length_map _
 have hpl:=rsameL_pure a.plan b.plan ha.plan hb.plan ha.routes hb.routes
 by_cases c1:a.status=b.status
 rotate_left
 ·have:R=false:=by rw [←hR];exact decide_eq_false fun h=>c1 h.1
  refine K_run hB 100 ?_
  simp [go_sem,SRes.a,h1,h2,c1,this]
 by_cases c2:a.up=b.up
 rotate_left
 ·have:R=false:=by rw [←hR];exact decide_eq_false fun h=>c2 h.2.1
  refine K_run hB 100 ?_
  simp [go_sem,SRes.a,h1,h2,c1,c2,this]
 by_cases c3:a.low=b.low
 rotate_left
 ·have:R=false:=by rw [←hR];exact decide_eq_false fun h=>c3 h.2.2.1
  refine K_run hB 100 ?_
  simp [go_sem,SRes.a,h1,h2,c1,c2,c3,this]
 by_cases c4:a.steps=b.steps
 rotate_left
 ·have:R=false:=by rw [←hR];exact decide_eq_false fun h=>c4 h.2.2.2.1
  refine K_run hB 100 ?_
  simp [go_sem,SRes.a,h1,h2,c1,c2,c3,c4,this]
 by_cases c5:a.log.length=b.log.length
 rotate_left
 ·have:R=false:=by rw [←hR];exact decide_eq_false fun h=>c5 h.2.2.2.2.1
  refine K_run hB 100 ?_
  simp [go_sem,SRes.a,h1,h2,c1,c2,c3,c4,c5,this]
 have hR2:decide (a.plan=b.plan)=R:=by rw [←hR];exact decide_eq_decide.2 ⟨fun h=>⟨c1,c2,c3,c4,c5,h⟩,fun h=>h.2.2.2.2.2⟩
 rw [hR2] at hpl
 have hlog:=(hlog c5).symm
 rw [hlog] at h2
 have hae:=ha.each
 have hal:=ha.log
 refine K_run hB 100 ?_
 simp [go_sem,SRes.a,h1,h2,c1,c2,c3,c4,hlog]
 refine K_call rfl rfl rfl (args:=[.t (.sl (planT a.plan)),.t (.sl (planT b.plan))]) (f:=69) (by simp [go_sem]) (by simp [go_sem,hB]) ((hpl).spec _ _) ?_
 refine K_run hB 100 ?_
 simp [go_sem]
 refine K_loopP (α:=Nat) (fun j=>j≤a.log.length) (fun j=>⟨sl [(2,.ptr 0 0),(3,.ptr 1 0),(5,.b R),(6,.i j)],_,_⟩) (fun j=>a.log.length-j) 0 (Nat.zero_le _) (Imp.slots (by simp [go_sem]) rfl rfl) ?_
 intro j hj0
 refine K_run hB 60 ?_
 simp [go_sem,h1]
 refine fork_dec (fun hj=>?_) (fun hj=>?_)
 ·have hjj:IntKind.i64.wrap ((j:Int)+1)=((j+1:Nat):Int):=by rw [w64 ((j:Int)+1) (by omega)];rfl
  have hgj:=fun h=>logT_get a.log hj h
  obtain ⟨d1,d2,d3⟩:=hae _ (List.getElem_mem hj)
  have hs1:=rsameN_pure [a.log[j].1] [a.log[j].1] (by simp) (by simp) (by simp;omega) (by simp;omega)
  rw [decide_eq_true rfl] at hs1
  have hs2:=rsameD_pure a.log[j].2 d2 d3
  obtain ⟨d,hd⟩:∃d,d=a.log[j]:=⟨_,rfl⟩
  rw [←hd] at hgj d1 d2 d3 hs1 hs2
  obtain ⟨n,D⟩:=d
  simp only at hs1 hs2
  simp [go_sem]
  refine K_drawn [] rfl (by rw [hB];kernel_rfl) ?_
  refine K_run hB 100 ?_
  simp [go_sem,h1,h2,hj,hgj,Done.t,Node.t]
  refine K_dCallP rfl rfl rfl (args:=[.fsl (nodesT [n]),.fsl (nodesT [n])]) (f:=70) (by simp [go_sem,nodesT,Node.t]) (Pure.loose hs1 (by simp [bnd])) ?_
  refine K_run hB 100 ?_
  simp [go_sem]
  refine K_drawn [] rfl (by rw [hB];kernel_rfl) ?_
  refine K_run hB 100 ?_
  simp [go_sem,h1,h2,hj,hgj,Done.t,Node.t]
  refine K_dCallP rfl rfl rfl (args:=[D.a,D.a]) (f:=71) (by simp [go_sem,Diag.a,Diag.cs]) (hs2) ?_
  refine K_run hB 100 ?_
  simp [go_sem,hjj]
  exact Next.mk (j+1) (by omega) (Imp.slots (by simp [go_sem]) rfl rfl) (by omega)
 ·simp [go_sem]
end Go.Proofs.YtackfabapangdaaGreat

set_option maxRecDepth 4000
set_option maxHeartbeats 2000000
namespace Go.Proofs.YtackfabapangdaaGreat
open Go Go.Proofs.YtackfabapangdaaGreat.R
def Ent.t3 (e:Ent):List T:=[.i e.bound,.i e.depth,.i e.no]
def entsT (l:List Ent):List (List T):=l.map Ent.t3
theorem ents_len (l:List Ent):(entsT l).length=l.length:=List.length_map _
theorem ents_one (l:List Ent):∀y∈entsT l,y.length=3:=by
 intro y hy
 obtain ⟨_,_,rfl⟩:=List.mem_map.1 hy
 rfl
theorem ents_get (l:List Ent) {k:Nat} (h:k<l.length) (h':k<(entsT l).length):(entsT l)[k]'h'=(l.getD k Ent.zero).t3:=by
 rw [List.getD_eq_getElem?_getD,List.getElem?_eq_getElem h]
 exact List.getElem_map _
theorem rless_pure (o:Int) (a b:Ent):Pure P 138 [.i o,a.a,b.a] (.b (lessE o a b)):=by
 generalize hR:lessE o a b=R
 refine pure_of Tryz.func138 rfl rfl (by simp [Tryz.f138]) (by simp [bnd,bnd.bndL,Ent.a,Ent.cs]) (by simp [bnd,bnd.bndL]) fun B hB hnx=>?_
 simp only [Tryz.f138] at hB ⊢
 rw [lessE] at hR
 obtain ⟨a1,a2,a3⟩:=a
 obtain ⟨b1,b2,b3⟩:=b
 simp only at hR
 by_cases c0:o=0
 ·rw [if_pos c0] at hR
  by_cases c1:a1<b1
  ·have:R=true:=by rw [←hR];exact decide_eq_true (.inl c1)
   refine K_run hB 150 ?_
   simp [go_sem,Ent.a,Ent.cs,c0,c1,this]
  by_cases c2:a1=b1
  rotate_left
  ·have:R=false:=by rw [←hR];exact decide_eq_false (by omega)
   refine K_run hB 150 ?_
   simp [go_sem,Ent.a,Ent.cs,c0,c1,c2,this]
  by_cases c3:b2<a2
  ·have:R=true:=by rw [←hR];exact decide_eq_true (.inr ⟨c2,.inl c3⟩)
   refine K_run hB 150 ?_
   simp [go_sem,Ent.a,Ent.cs,c0,c1,c2,c3,this]
  by_cases c4:a2=b2
  rotate_left
  ·have:R=false:=by rw [←hR];exact decide_eq_false (by omega)
   refine K_run hB 150 ?_
   simp [go_sem,Ent.a,Ent.cs,c0,c1,c2,c3,c4,this]
  have:R=decide (a3<b3):=by rw [←hR];exact decide_eq_decide.2 (by omega)
  refine K_run hB 150 ?_
  simp [go_sem,Ent.a,Ent.cs,c0,c1,c2,c3,c4,this]
 rw [if_neg c0] at hR
 by_cases cx:o=1
 ·rw [if_pos cx] at hR
  by_cases c1:b2<a2
  ·have:R=true:=by rw [←hR];exact decide_eq_true (.inl c1)
   refine K_run hB 150 ?_
   simp [go_sem,Ent.a,Ent.cs,c0,cx,c1,this]
  by_cases c2:a2=b2
  rotate_left
  ·have:R=false:=by rw [←hR];exact decide_eq_false (by omega)
   refine K_run hB 150 ?_
   simp [go_sem,Ent.a,Ent.cs,c0,cx,c1,c2,this]
  by_cases c3:a1<b1
  ·have:R=true:=by rw [←hR];exact decide_eq_true (.inr ⟨c2,.inl c3⟩)
   refine K_run hB 150 ?_
   simp [go_sem,Ent.a,Ent.cs,c0,cx,c1,c2,c3,this]
  by_cases c4:a1=b1
  rotate_left
  ·have:R=false:=by rw [←hR];exact decide_eq_false (by omega)
   refine K_run hB 150 ?_
   simp [go_sem,Ent.a,Ent.cs,c0,cx,c1,c2,c3,c4,this]
  have:R=decide (a3<b3):=by rw [←hR];exact decide_eq_decide.2 (by omega)
  refine K_run hB 150 ?_
  simp [go_sem,Ent.a,Ent.cs,c0,cx,c1,c2,c3,c4,this]
 rw [if_neg cx] at hR
 by_cases c1:a3<b3
 ·have:R=true:=by rw [←hR];exact decide_eq_true (.inl c1)
  refine K_run hB 150 ?_
  simp [go_sem,Ent.a,Ent.cs,c0,cx,c1,this]
 by_cases c2:a3=b3
 rotate_left
 ·have:R=false:=by rw [←hR];exact decide_eq_false (by omega)
  refine K_run hB 150 ?_
  simp [go_sem,Ent.a,Ent.cs,c0,cx,c1,c2,this]
 by_cases c3:a1<b1
 ·have:R=true:=by rw [←hR];exact decide_eq_true (.inr ⟨c2,.inl c3⟩)
  refine K_run hB 150 ?_
  simp [go_sem,Ent.a,Ent.cs,c0,cx,c1,c2,c3,this]
 by_cases c4:a1=b1
 rotate_left
 ·have:R=false:=by rw [←hR];exact decide_eq_false (by omega)
  refine K_run hB 150 ?_
  simp [go_sem,Ent.a,Ent.cs,c0,cx,c1,c2,c3,c4,this]
 have:R=decide (a2<b2):=by rw [←hR];exact decide_eq_decide.2 (by omega)
 refine K_run hB 150 ?_
 simp [go_sem,Ent.a,Ent.cs,c0,cx,c1,c2,c3,c4,this]
theorem rput_spec (o:Int) (l:List Ent) (e:Ent) (hl:l.length<2^30) {σ:Nat→AObj} {nx h q:Nat} (hh:h<nx) (hσ:σ h= .box [.i o,.ref q]) (hq:q<nx) (hσq:σ q= .arr 3 (entsT l)):
  CallQ P 137 [.ptr h 0,e.a] σ nx fun r σ' nx'=>r= .tup []∧nx≤nx'∧∃q',nx≤q'∧q'<nx'∧σ' h= .box [.i o,.ref q']∧σ' q'= .arr 3 (entsT (l++[e]))∧∀i,i<nx→i≠h→i≠q→σ' i=σ i:=by
 refine spec_of Tryz.func137 rfl rfl (by simp [Tryz.f137]) fun B hB hnx hσB=>?_
 simp only [Tryz.f137] at hB ⊢
 have hne:¬h=nx:=by omega
 have hne':¬nx=h:=by omega
 have hne2:¬q=nx:=by omega
 have hne3:¬nx=q:=by omega
 have hqh:¬h=q:=fun e=>by rw [←e,hσ] at hσq;cases hσq
 have hil:=ents_len l
 have hi3:=ents_one l
 have hcap:l.length+1≤mostLen:=by show _≤4294967296;omega
 have e1:¬nx+1=h:=by omega
 have e2:¬h=nx+1:=by omega
 refine K_run hB 100 ?_
 simp [go_sem,Ent.a,Ent.cs]
 refine K_drawnF [7,10] [0] rfl (by rw [hB];kernel_rfl) (by kernel_rfl) fun ht hf'=>?_
 refine K_run hB 22 ?_
 simp [go_sem,ht,hf',hσ,hσq,hne,hne',hne2,hne3,hqh,hil,hi3,hcap,e1,e2]
 refine ⟨by omega,nx+1,by omega,by omega,by simp [oput],by simp [oput,e1,entsT,Ent.t3],fun i h1 h2 h3=>by simp [oput,h2,h3,show ¬i=nx by omega,show ¬i=nx+1 by omega]⟩
theorem rleast_spec (o:Int) (l:List Ent) (hl:l.length<2^30) {σ:Nat→AObj} {nx h q:Nat} (hh:h<nx) (hσ:σ h= .box [.i o,.ref q]) (hq:q<nx) (hσq:σ q= .arr 3 (entsT l)):
  CallSpec P 139 [.ptr h 0] σ nx (.i (leastQ l)) σ nx:=by
 generalize hR:leastQ l=R
 refine spec_keep Tryz.func139 rfl rfl (by simp [Tryz.f139]) (by simp [bnd]) fun hk B hB hnx hσB=>?_
 simp only [Tryz.f139] at hB ⊢
 have hil:=ents_len l
 refine K_run hB 100 ?_
 simp [go_sem]
 refine K_loopP (α:=Nat×Int) (fun (k,n)=>k≤l.length∧(k=0→n=1152921504606846976)∧(0<k→(l.drop k).foldl (fun n f=>min n f.bound) n=R)) (fun (k,n)=>⟨sl [(0,.ptr h 0),(3,.i n),(4,.i k)],σ,nx⟩) (fun a=>l.length-a.1) (0,1152921504606846976) ⟨Nat.zero_le _,fun _=>rfl,fun h=>absurd h (Nat.lt_irrefl 0)⟩ (Imp.slots (by simp [go_sem]) rfl rfl) ?_
 rintro ⟨k,n⟩ ⟨g1,g2,g3⟩
 refine K_run hB 150 ?_
 simp [go_sem,hσ,hσq,hil]
 refine fork_dec (fun hk=>?_) (fun hk=>?_)
 ·have hkk:IntKind.i64.wrap ((k:Int)+1)=((k+1:Nat):Int):=by rw [w64 ((k:Int)+1) (by omega)];rfl
  have hgk:=fun h=>ents_get l hk h
  have hgd:l.getD k Ent.zero=l[k]:=getD_at hk
  rw [hgd] at hgk
  by_cases c0:k=0
  ·subst c0
   have hfold:(l.drop 1).foldl (fun n f=>min n f.bound) l[0].bound=R:=by
    cases l with
    |nil=>simp at hk
    |cons e l=>rw [←hR];rfl
   generalize l[0]=e at *
   have w1:IntKind.i64.wrap 1=1:=w64 1 (by omega)
   simp [go_sem,w1,hσ,hσq,hil,hk,hgk,Ent.t3,hkk]
   exact Next.mk (1,e.bound) ⟨by simp only;omega,fun h=>by simp only at h;omega,fun _=>hfold⟩ (Imp.slots (by simp [go_sem,w1]) rfl rfl) (by simp only;omega)
  ·have g3:=g3 (by omega)
   rw [List.drop_eq_getElem_cons hk,List.foldl_cons] at g3
   generalize l[k]=e at *
   by_cases c1:e.bound<n
   ·rw [show min n e.bound=e.bound by omega] at g3
    simp [go_sem,hσ,hσq,hil,hk,hgk,Ent.t3,hkk,c0,c1]
    exact Next.mk (k+1,e.bound) ⟨by simp only;omega,fun h=>by simp only at h;omega,fun _=>g3⟩ (Imp.slots (by simp [go_sem]) rfl rfl) (by simp only;omega)
   ·rw [show min n e.bound=n by omega] at g3
    simp [go_sem,hσ,hσq,hil,hk,hgk,Ent.t3,hkk,c0,c1]
    exact Next.mk (k+1,n) ⟨by simp only;omega,fun h=>by simp only at h;omega,fun _=>g3⟩ (Imp.slots (by simp [go_sem]) rfl rfl) (by simp only;omega)
 ·have hkl:k=l.length:=by omega
  have hn:n=R:=by
   by_cases c0:k=0
   ·rw [g2 c0,←hR,List.eq_nil_of_length_eq_zero (l:=l) (by omega)]
    rfl
   ·have:=g3 (by omega)
    rw [hkl,List.drop_length] at this
    exact this
  simp [go_sem,hn]
theorem rtake_nil (o:Int) {σ:Nat→AObj} {nx h q:Nat} (hh:h<nx) (hσ:σ h= .box [.i o,.ref q]) (hq:q<nx) (hσq:σ q= .arr 3 []):
  CallSpec P 82 [.ptr h 0] σ nx (.tup [Ent.zero.a,.b false]) σ nx:=by
 refine spec_keep Tryz.func82 rfl rfl (by simp [Tryz.f82]) (by simp [bnd,bnd.bndL,Ent.a,Ent.cs]) fun hk B hB hnx hσB=>?_
 simp only [Tryz.f82] at hB ⊢
 have hne:¬h=nx:=by omega
 have hne2:¬q=nx:=by omega
 refine K_run hB 100 ?_
 simp [go_sem,hσ,hσq,hne,hne2,Ent.a,Ent.cs,Ent.zero]
 exact fun i hi=>by simp [oput,show ¬i=nx by omega]
def minTo (o:Int) (l:List Ent) (n:Nat):Nat:=(List.range n).foldl (fun k i=>if lessE o (l.getD i Ent.zero) (l.getD k Ent.zero)=true then i else k) 0
theorem minTo_succ (o:Int) (l:List Ent) (n:Nat):minTo o l (n+1)=if lessE o (l.getD n Ent.zero) (l.getD (minTo o l n) Ent.zero)=true then n else minTo o l n:=by
 rw [minTo,List.range_succ,List.foldl_append,List.foldl_cons,List.foldl_nil]
 rfl
theorem minTo_lt (o:Int) (l:List Ent) (n:Nat):0<n→minTo o l n<n:=by
 induction n with
 |zero=>intro h;omega
 |succ n ih=>
  intro _
  rw [minTo_succ]
  split
  ·omega
  ·by_cases h:n=0
   ·subst h;exact Nat.lt_succ_self 0
   ·have:=ih (by omega);omega
def Alone (σ:Nat→AObj) (h q:Nat) (es:List (List T)):Prop:=∀j,j≠h→j≠q→frzO q es (σ j)=σ j
theorem rtake_spec (o:Int) (l:List Ent) (hl:l.length<2^30) (hpos:0<l.length) {σ:Nat→AObj} {nx h q:Nat} (hh:h<nx) (hσ:σ h= .box [.i o,.ref q]) (hq:q<nx) (hσq:σ q= .arr 3 (entsT l)) (hal:Alone σ h q (entsT l)):
  CallQ P 82 [.ptr h 0] σ nx fun r σ' nx'=>r= .tup [(l.getD (minI o l) Ent.zero).a,.b true]∧nx≤nx'∧∃q',nx≤q'∧q'<nx'∧σ' h= .box [.i o,.ref q']∧σ' q'= .arr 3 (entsT (l.take (minI o l)++l.drop (minI o l+1)))∧∀i,i<nx→i≠h→i≠q→σ' i=σ i:=by
 refine spec_of Tryz.func82 rfl rfl (by simp [Tryz.f82]) fun B hB hnx hσB=>?_
 simp only [Tryz.f82] at hB ⊢
 have hne:¬h=nx:=by omega
 have hne':¬nx=h:=by omega
 have hne2:¬q=nx:=by omega
 have hne3:¬nx=q:=by omega
 have hqh:¬h=q:=fun e=>by rw [←e,hσ] at hσq;cases hσq
 have hil:=ents_len l
 have hi3:=ents_one l
 have c0:¬l.length=0:=by omega
 obtain ⟨σ1,hσ1⟩:∃σ1:Nat→AObj,σ1=fun j=>if j=q then .dead else if j=h then .box [.i o,.t (.sl (entsT l))] else σ j:=⟨_,rfl⟩
 have s1:σ1 h= .box [.i o,.t (.sl (entsT l))]:=by simp [hσ1,hqh]
 have s2:∀j,j≠h→j≠q→σ1 j=σ j:=fun j h1 h2=>by simp [hσ1,h1,h2]
 refine K_impC (t:=⟨slots0 [.ptr h 0],σ1,nx⟩) (Imp.frz (q:=q) (sz:=3) (es:=entsT l) hσq (fun i=>?_) fun j=>?_) ?_
 ·match i with
  |0=>rfl
  |i+1=>rfl
 ·simp only [hσ1]
  by_cases e1:j=q
  ·rw [if_pos e1,if_pos e1]
  rw [if_neg e1,if_neg e1]
  by_cases e2:j=h
  ·rw [if_pos e2,e2,hσ]
   simp [frzO,frz1,frz1.frzL]
  ·rw [if_neg e2]
   exact hal j e2 e1
 clear hσ1 hal
 refine K_run hB 100 ?_
 simp [go_sem,s1,hne,hil,c0]
 refine K_loopP (α:=Nat) (fun k=>1≤k∧k≤l.length) (fun k=>⟨sl [(0,.ptr h 0),(2,.ptr nx 0),(4,.i (minTo o l k)),(5,.i k)],oput σ1 nx (.box [.i 0,.i 0,.i 0]),nx+1⟩) (fun k=>l.length-k) 1 ⟨Nat.le_refl _,hpos⟩ (Imp.slots (by simp [go_sem,minTo]) rfl rfl) ?_
 rintro k ⟨g0,g1⟩
 refine K_run hB 150 ?_
 simp [go_sem,s1,hne,hil]
 refine fork_dec (fun hk=>?_) (fun hk=>?_)
 ·have hkk:IntKind.i64.wrap ((k:Int)+1)=((k+1:Nat):Int):=by rw [w64 ((k:Int)+1) (by omega)];rfl
  have hvl:=minTo_lt o l k (by omega)
  have hsu:=minTo_succ o l k
  have hvl2:minTo o l k<l.length:=by omega
  generalize minTo o l k=v at *
  have hgk:=fun h=>ents_get l hk h
  have hgv:=fun h=>ents_get l hvl2 h
  have hls:=rless_pure o (l.getD k Ent.zero) (l.getD v Ent.zero)
  generalize l.getD k Ent.zero=a at *
  generalize l.getD v Ent.zero=b at *
  simp [go_sem]
  refine K_drawn [] rfl (by rw [hB];kernel_rfl) ?_
  refine K_run hB 100 ?_
  simp [go_sem,s1,hne,hil,hk,hvl2,hgk,hgv,Ent.t3]
  refine K_dCallP rfl rfl rfl (args:=[.i o,a.a,b.a]) (f:=138) (by simp [go_sem,Ent.a,Ent.cs]) (hls) ?_
  cases hless:lessE o a b with
  |true=>
   rw [hless,if_pos rfl] at hsu
   refine K_run hB 100 ?_
   simp [go_sem,hkk]
   exact Next.mk (k+1) ⟨by omega,by omega⟩ (Imp.slots (by simp [go_sem,hsu]) rfl rfl) (by omega)
  |false=>
   rw [hless,if_neg (by decide)] at hsu
   refine K_run hB 100 ?_
   simp [go_sem,hkk]
   exact Next.mk (k+1) ⟨by omega,by omega⟩ (Imp.slots (by simp [go_sem,hsu]) rfl rfl) (by omega)
 ·have hkl:k=l.length:=by omega
  subst hkl
  have hmi:minTo o l l.length=minI o l:=rfl
  rw [hmi]
  have hvl:minI o l<l.length:=minI_lt o fun e=>by rw [e] at hpos;simp at hpos
  generalize minI o l=v at *
  have hgv:=fun h=>ents_get l hvl h
  have hdr:(entsT l).drop (v+1)=entsT (l.drop (v+1)):=by simp [entsT]
  have htk:(entsT l).take v=entsT (l.take v):=by simp [entsT]
  have hvle:v≤l.length:=by omega
  have hvle2:v+1≤l.length:=by omega
  have wv:IntKind.i64.wrap ((v:Int)+1)=((v+1:Nat):Int):=by rw [w64 _ (by omega)];omega
  have hl1:=ents_len (l.take v)
  have hl2:=ents_len (l.drop (v+1))
  have hl3:(l.take v).length=v:=by rw [List.length_take];omega
  have hl4:(l.drop (v+1)).length=l.length-(v+1):=List.length_drop
  have ho1:=ents_one (l.take v)
  have ho2:=ents_one (l.drop (v+1))
  have hcap1:v≤mostLen:=by show _≤4294967296;omega
  have hcap2:v+(l.length-(v+1))≤mostLen:=by show _≤4294967296;omega
  have hgd:l.getD v Ent.zero=l[v]:=getD_at hvl
  rw [hgd] at hgv
  have b1:(0:Int)≤(v:Int)+1:=by omega
  have b2:(v:Int)+1≤(l.length:Int):=by omega
  have n1:¬h=nx+1:=by omega
  have n2:¬nx+1=h:=by omega
  have n3:¬h=nx+1+1:=by omega
  have n4:¬nx+1+1=h:=by omega
  have n5:¬h=nx+1+1+1:=by omega
  have n6:¬nx+1+1+1=h:=by omega
  simp [go_sem,s1,hne,hne',n1,n2,n3,n4,n5,n6,hil,hvl,hgv,Ent.t3,if_pos hi3,hvle,hvle2,wv,htk,hdr,hl1,hl2,hl3,hl4,hcap1,hcap2,if_pos ho1,if_pos ho2,b1,b2]
  have happ:entsT (l.take v)++entsT (l.drop (v+1))=entsT (l.take v++l.drop (v+1)):=by simp [entsT]
  refine ⟨by omega,rfl,by omega,nx+1+1+1,by omega,by omega,rfl,?_,fun i h1 h2 h3=>?_⟩
  ·rw [if_neg (by omega),if_neg n6,if_pos rfl,happ]
  ·rw [if_neg (by omega),if_neg h2,if_neg (by omega),if_neg (by omega),if_neg (by omega),if_neg (by omega),if_neg (by omega),if_neg (by omega)]
   exact s2 i h2 h3
end Go.Proofs.YtackfabapangdaaGreat

set_option maxRecDepth 4000
namespace Go.Proofs.YtackfabapangdaaGreat
open Go Go.Proofs.YtackfabapangdaaGreat.R
def join0:List (List Int)→List Int
 |[]=>[]
 |[r]=>r
 |r :: s :: rs=>r++0 :: join0 (s :: rs)
def GoodT:Int→List (List Int)→Prop
 |_,[]=>True
 |last,r :: rs=>r≠[]∧(∀i∈r,0<i)∧last<r.getD 0 0∧GoodT (r.getD 0 0) rs
theorem splitF_late:∀(f:Nat) (t:List Int) (last:Int) (acc:List (List Int)),(splitF f t last true acc).2≠0
 |0,_,_,_=>by rw [splitF];decide
 |f+1,t,last,acc=>by
  rw [splitF]
  split
  ·rw [if_pos (by simp)];decide
  split
  ·decide
  ·rw [Bool.true_or];exact splitF_late f _ _ _
theorem idx_pos {l:List Int} (h:idxI lowI 0 l<0):∀i∈l,0<i:=by
 have key:∀(l:List Int) (k:Nat),idxI lowI k l<0→∀i∈l,0<i:=by
  intro l
  induction l with
  |nil=>intro k _ i hi;cases hi
  |cons n l ih=>
   intro k h i hi
   rw [idxI] at h
   split at h
   ·omega
   ·rename_i hn
    rcases List.mem_cons.1 hi with rfl | hi
    ·simp only [lowI,decide_eq_true_eq] at hn;omega
    ·exact ih _ h i hi
 exact key l 0 h
theorem splitF_good:∀(f:Nat) (t:List Int) (last:Int) (acc rs:List (List Int)),t≠[]→splitF f t last false acc=(rs,0)→∃qs,rs=acc++qs∧qs≠[]∧join0 qs=t∧GoodT last qs
 |0,_,_,_,_,_,h=>by rw [splitF] at h;cases h
 |f+1,t,last,acc,rs,ht,h=>by
  rw [splitF] at h
  have hlen:0<t.length:=List.length_pos_iff.2 ht
  by_cases c1:idxI lowI 0 t<0
  ·rw [if_pos c1,Bool.false_or] at h
   split at h
   ·cases h
   ·rename_i c2
    obtain ⟨h1,_⟩:=Prod.mk.inj h
    have hl:last<t.getD 0 0:=by simpa using c2
    exact ⟨[t],h1.symm,by simp,rfl,ht,idx_pos c1,hl,trivial⟩
  rw [if_neg c1] at h
  split at h
  ·cases h
  rename_i c2
  rw [Bool.false_or] at h
  rcases idxI_at lowI 0 t with h0 | ⟨j,hj,e1,e2,e3⟩
  ·exact absurd h0 c1
  rw [e1] at h c2
  rw [Nat.zero_add] at h c2
  simp only [Int.toNat_natCast] at h c2
  have hz:t[j]=0:=by
   have:t.getD j 0=t[j]:=by rw [List.getD_eq_getElem?_getD,List.getElem?_eq_getElem hj];rfl
   rw [this] at e2 c2
   simp only [lowI,decide_eq_true_eq] at e2
   omega
  have hj0:0<j:=by omega
  have hjl:j+1<t.length:=by omega
  by_cases c3:t.getD 0 0≤last
  ·rw [decide_eq_true c3] at h
   have:=splitF_late f (t.drop (j+1)) (t.getD 0 0) (acc++[t.take j])
   rw [h] at this
   exact absurd rfl this
  rw [decide_eq_false c3] at h
  have hne:t.drop (j+1)≠[]:=fun e=>by
   have:=congrArg List.length e
   rw [List.length_drop,List.length_nil] at this
   omega
  obtain ⟨qs,q1,q2,q3,q4⟩:=splitF_good f _ _ _ rs hne h
  have hg0:(t.take j).getD 0 0=t.getD 0 0:=by
   rw [List.getD_eq_getElem?_getD,List.getD_eq_getElem?_getD,List.getElem?_take_of_lt hj0]
  refine ⟨t.take j :: qs,by rw [q1,List.append_assoc];rfl,by simp,?_,?_⟩
  ·cases qs with
   |nil=>exact absurd rfl q2
   |cons q qs=>
    rw [join0,q3,←hz,←List.drop_eq_getElem_cons hj,List.take_append_drop]
  ·refine ⟨fun e=>?_,fun i hi=>?_,by rw [hg0];omega,by rw [hg0];exact q4⟩
   ·have:=congrArg List.length e
    rw [List.length_take,List.length_nil] at this
    omega
   ·have:=e3 i hi
    simp only [lowI,decide_eq_false_iff_not] at this
    omega
theorem split_good {t:List Int} (ht:t≠[]) (h:(splitR t).2=0):(splitR t).1≠[]∧join0 (splitR t).1=t∧GoodT 0 (splitR t).1:=by
 have hl:t.length≠0:=fun e=>ht (List.eq_nil_of_length_eq_zero e)
 rw [splitR,if_neg hl] at h ⊢
 generalize hs:splitF (t.length+1) t 0 false []=r at *
 obtain ⟨rs,e⟩:=r
 simp only at h
 subst h
 obtain ⟨qs,h1,h2,h3,h4⟩:=splitF_good _ _ _ _ _ ht hs
 rw [List.nil_append] at h1
 subst h1
 exact ⟨h2,h3,h4⟩
def rcut:List Int→List Int→List (List Int)
 |[],r=>[r]
 |j :: l,r=>if 0<j then rcut l (r++[j]) else r :: rcut l []
theorem rcut_app:∀(l m r:List Int),(∀i∈l,0<i)→rcut (l++m) r=rcut m (r++l)
 |[],m,r,_=>by simp
 |j :: l,m,r,h=>by
  rw [List.cons_append,rcut,if_pos (h j List.mem_cons_self),rcut_app l m _ fun i hi=>h i (List.mem_cons_of_mem _ hi),List.append_assoc]
  rfl
theorem rcut_join:∀(last:Int) (rs:List (List Int)),rs≠[]→GoodT last rs→rcut (join0 rs) []=rs
 |_,[],h,_=>absurd rfl h
 |_,[r],_,h=>by
  have:=rcut_app r [] [] h.2.1
  rw [List.append_nil] at this
  rw [join0,this]
  rfl
 |_,r :: s :: rs,_,h=>by
  rw [join0,rcut_app r _ [] h.2.1,rcut,if_neg (by decide),rcut_join _ (s :: rs) (by simp) h.2.2.2]
  rfl
theorem join_form:∀(last:Int) (rs:List (List Int)),rs≠[]→GoodT last rs→join0 rs≠[]∧0<(join0 rs).getD 0 0∧∀i (h:i<(join0 rs).length),0≤(join0 rs)[i]∧((join0 rs)[i]=0→0<i∧i+1<(join0 rs).length∧0<(join0 rs).getD (i-1) 0)
 |_,[],h,_=>absurd rfl h
 |_,[r],_,h=>by
  obtain ⟨h1,h2,h3,_⟩:=h
  have hl:0<r.length:=List.length_pos_iff.2 h1
  refine ⟨h1,?_,fun i hi=>?_⟩
  ·rw [join0,List.getD_eq_getElem?_getD,List.getElem?_eq_getElem hl]
   exact h2 _ (List.getElem_mem hl)
  ·have:=h2 _ (List.getElem_mem hi)
   have e:(join0 [r])[i]=r[i]:=rfl
   rw [e]
   exact ⟨Int.le_of_lt this,fun h=>by omega⟩
 |_,r :: s :: rs,_,h=>by
  obtain ⟨h1,h2,h3,h4⟩:=h
  obtain ⟨i1,i2,i3⟩:=join_form _ (s :: rs) (by simp) h4
  have hl:0<r.length:=List.length_pos_iff.2 h1
  have hjl:0<(join0 (s :: rs)).length:=List.length_pos_iff.2 i1
  rw [join0]
  generalize join0 (s :: rs)=m at *
  refine ⟨by simp,?_,fun i hi=>?_⟩
  ·rw [List.getD_eq_getElem?_getD,List.getElem?_append_left hl,List.getElem?_eq_getElem hl]
   exact h2 _ (List.getElem_mem hl)
  ·rw [List.length_append,List.length_cons] at hi
   by_cases c1:i<r.length
   ·rw [List.getElem_append_left c1]
    have:=h2 _ (List.getElem_mem c1)
    exact ⟨Int.le_of_lt this,fun h=>by omega⟩
   rw [List.getElem_append_right (by omega)]
   by_cases c2:i=r.length
   ·subst c2
    have e0:(0 :: m)[r.length-r.length]'(by simp)=0:=by simp
    rw [e0]
    refine ⟨Int.le_refl _,fun _=>⟨hl,by rw [List.length_append,List.length_cons];omega,?_⟩⟩
    rw [List.getD_eq_getElem?_getD,List.getElem?_append_left (by omega),List.getElem?_eq_getElem (by omega)]
    exact h2 _ (List.getElem_mem _)
   ·obtain ⟨k,rfl⟩:∃k,i=r.length+1+k:=⟨i-r.length-1,by omega⟩
    have e0:(0 :: m)[r.length+1+k-r.length]'(by rw [List.length_cons];omega)=m[k]'(by omega):=by
     simp only [show r.length+1+k-r.length=k+1 by omega,List.getElem_cons_succ]
    rw [e0]
    obtain ⟨g1,g2⟩:=i3 k (by omega)
    refine ⟨g1,fun h=>?_⟩
    obtain ⟨a,b,c⟩:=g2 h
    refine ⟨by omega,by rw [List.length_append,List.length_cons];omega,?_⟩
    rw [List.getD_eq_getElem?_getD,List.getElem?_append_right (by omega),show r.length+1+k-1-r.length=(k-1)+1 by omega,List.getElem?_cons_succ,←List.getD_eq_getElem?_getD]
    exact c
theorem good_firsts:∀(last:Int) (rs:List (List Int)),GoodT last rs→∀k,1≤k→k<rs.length→(rs.getD (k-1) []).getD 0 0<(rs.getD k []).getD 0 0
 |_,[],_,k,_,h=>by simp at h
 |_,[r],_,k,h1,h=>by simp at h;omega
 |_,r :: s :: rs,hg,k,h1,h=>by
  obtain ⟨_,_,_,hg2⟩:=hg
  by_cases c:k=1
  ·subst c
   exact hg2.2.2.1
  ·obtain ⟨k,rfl⟩:∃j,k=j+2:=⟨k-2,by omega⟩
   have:=good_firsts _ (s :: rs) hg2 (k+1) (by omega) (by simp at h ⊢;omega)
   simpa using this
end Go.Proofs.YtackfabapangdaaGreat

set_option maxRecDepth 4000
set_option maxHeartbeats 2000000
namespace Go.Proofs.YtackfabapangdaaGreat
open Go Go.Proofs.YtackfabapangdaaGreat.R
theorem good_each:∀(last:Int) (rs:List (List Int)),GoodT last rs→∀r∈rs,r≠[]
 |_,[],_,r,h=>by cases h
 |_,q :: rs,hg,r,h=>by
  rcases List.mem_cons.1 h with rfl | h
  ·exact hg.1
  ·exact good_each _ rs hg.2.2.2 r h
theorem rsplit_pure (rs:List (List Int)) (t:List Int) (hne:rs≠[]) (hg:GoodT 0 rs) (ht:join0 rs=t) (hlen:t.length<2^31):Pure P 187 [.t (.sl (ints t))] (.tup [.agg [.t (.sl (rs.map rowT))],.i 0]):=by
 have hform:=(join_form 0 rs hne hg)
 have hcut:=rcut_join 0 rs hne hg
 have hfirst:=good_firsts 0 rs hg
 have heach:=good_each 0 rs hg
 rw [ht] at hform hcut
 obtain ⟨ht0,_,hform⟩:=hform
 have hl0:0<t.length:=List.length_pos_iff.2 ht0
 clear ht hg ht0
 have hil:(ints t).length=t.length:=List.length_map _
 refine pure_of Tryz.func187 rfl rfl (by simp [Tryz.f187]) (by simp [bnd,bnd.bndL]) (by simp [bnd,bnd.bndL]) fun B hB hnx=>?_
 simp only [Tryz.f187] at hB ⊢
 have c0:¬t.length=0:=by omega
 have w1:IntKind.i64.wrap ((t.length:Int)-1)=((t.length-1:Nat):Int):=by rw [w64 _ (by omega)];omega
 refine K_run hB 100 ?_
 simp [go_sem,hil,c0]
 refine K_loopP (α:=Nat) (fun k=>k≤t.length) (fun k=>⟨sl [(0,.t (.sl (ints t))),(2,.ptr 0 0),(4,.ptr 1 0),(5,.i k)],_,_⟩) (fun k=>t.length-k) 0 (Nat.zero_le _) (Imp.slots (by simp [go_sem]) rfl rfl) ?_
 intro k hk0
 refine K_run hB 150 ?_
 simp [go_sem,hil]
 refine fork_dec (fun hk=>?_) (fun hk=>?_)
 ·have hkk:IntKind.i64.wrap ((k:Int)+1)=((k+1:Nat):Int):=by rw [w64 ((k:Int)+1) (by omega)];rfl
  have hgk:=ints_getS t hk
  obtain ⟨f1,f2⟩:=hform k hk
  by_cases c1:t[k]=0
  ·obtain ⟨g1,g2,g3⟩:=f2 c1
   obtain ⟨v,hv⟩:∃v,v=k-1:=⟨_,rfl⟩
   have w2:IntKind.i64.wrap ((k:Int)-1)=(v:Int):=by rw [w64 _ (by omega)];omega
   have hvl:v<t.length:=by omega
   have hgv:=ints_getS t hvl
   rw [←hv,List.getD_eq_getElem?_getD,List.getElem?_eq_getElem hvl] at g3
   have g3':¬t[v]=0:=by simp only [Option.getD_some] at g3;omega
   have g4:¬k=0:=by omega
   have g5:¬k=t.length-1:=by omega
   simp [go_sem,hil,hk,hgk,c1,w1,w2,hvl,hgv,g3',g4,g5,hkk]
   exact Next.mk (k+1) (by omega) (Imp.slots (by simp [go_sem]) rfl rfl) (by omega)
  ·have c2:¬t[k]<0:=by omega
   simp [go_sem,hil,hk,hgk,c1,c2,hkk]
   exact Next.mk (k+1) (by omega) (Imp.slots (by simp [go_sem]) rfl rfl) (by omega)
 simp [go_sem]
 refine K_loopP (α:=Nat×List (List Int)×List Int×Nat×Nat×(Nat→AObj)×Nat) (fun (i,acc,r,qs,qr,τ,m)=>i≤t.length+1∧(i≤t.length→acc++rcut (t.drop i) r=rs)∧(i=t.length+1→acc=rs)∧acc.length≤i∧r.length≤i∧τ qs= .arr 1 (acc.map rowT)∧τ qr= .arr 1 (ints r)∧τ 0= .box [.fsl []]∧τ 1= .box [.fsl []]∧2≤qs∧qs<m∧2≤qr∧qr<m∧qs≠qr∧∀j,j≠0→j≠1→j≠qs→j≠qr→τ j= .dead)
  (fun (i,acc,r,qs,qr,τ,m)=>⟨sl [(0,.t (.sl (ints t))),(2,.ptr 0 0),(4,.ptr 1 0),(6,.ref qs),(7,.ref qr),(8,.i i)],τ,m⟩) (fun a=>t.length+1-a.1) (0,[],[],2,3,ob [(0,.box [.fsl []]),(1,.box [.fsl []]),(2,.arr 1 []),(3,.arr 1 [])],4) ?_
  ((Imp.own (t:=6) (sz:=1) (by simp [go_sem])).trans ((Imp.own (t:=7) (sz:=1) (by simp [go_sem])).trans (Imp.slots (by simp [go_sem]) ?_ (by simp)))) ?_
 ·exact ⟨by omega,fun _=>by simpa using hcut,fun h=>by omega,Nat.le_refl _,Nat.le_refl _,rfl,rfl,rfl,rfl,by decide,by decide,by decide,by decide,by decide,fun j h0 h1 h2 h3=>by simp [ob,h0,h1,h2,h3]⟩
 ·funext i
  match i with
  |0=>simp [oput,ob]
  |1=>simp [oput,ob]
  |2=>simp [oput,ob]
  |3=>simp [oput,ob]
  |i+4=>simp [oput,ob,noObj]
 rintro ⟨i,acc,r,qs,qr,τ,m⟩ ⟨g1,g2,g3,g4,g5,g6,g7,g8,g9,ga,gb,gc,gd,ge,gf⟩
 have hii:i≤t.length→IntKind.i64.wrap ((i:Int)+1)=((i+1:Nat):Int):=fun h=>by rw [w64 ((i:Int)+1) (by omega)];rfl
 have hal:(acc.map rowT).length=acc.length:=List.length_map _
 have hrl:(ints r).length=r.length:=List.length_map _
 have hr1:∀y∈ints r,y.length=1:=ints_one r
 have ha1:∀y∈acc.map rowT,y.length=1:=fun y hy=>by
  obtain ⟨_,_,rfl⟩:=List.mem_map.1 hy
  rfl
 by_cases c1:i≤t.length
 ·have hii:=hii c1
  have hcapr:r.length+1≤mostLen:=by show _≤4294967296;omega
  have hcapa:acc.length+1≤mostLen:=by show _≤4294967296;omega
  have g2:=g2 c1
  have key:∀(hb:¬(i<t.length∧0<t.getD i 0)),acc++[r]++(if i<t.length then rcut (t.drop (i+1)) [] else [])=rs:=fun hb=>by
   rw [←g2]
   by_cases c2:i<t.length
   ·have h3:t.getD i 0=t[i]:=by rw [List.getD_eq_getElem?_getD,List.getElem?_eq_getElem c2];rfl
    rw [h3] at hb
    rw [if_pos c2,List.drop_eq_getElem_cons c2,rcut,if_neg (fun h=>hb ⟨c2,h⟩),List.append_assoc]
    rfl
   ·rw [if_neg c2,List.drop_eq_nil_of_le (by omega),rcut,List.append_nil]
  by_cases c2:i<t.length∧0<t.getD i 0
  ·obtain ⟨c2,c3⟩:=c2
   have h3:t.getD i 0=t[i]:=by rw [List.getD_eq_getElem?_getD,List.getElem?_eq_getElem c2];rfl
   rw [h3] at c3
   have hgi:=ints_getS t c2
   rw [List.drop_eq_getElem_cons c2,rcut,if_pos c3] at g2
   refine K_run hB 60 ?_
   simp [go_sem,hil,c1,c2,hgi,c3,g7,hrl,hcapr,hr1]
   refine Next.mk (i+1,acc,r++[t[i]],qs,m,_,m+1) ⟨by simp only;omega,fun _=>g2,fun h=>by simp only at h;omega,by simp only;omega,by rw [List.length_append];simp only [List.length_cons,List.length_nil];omega,?_,?_,?_,?_,ga,by simp only;omega,by simp only;omega,by simp only;omega,by simp only;omega,?_⟩ (Imp.slots (by simp [go_sem,hii]) rfl rfl) (by simp only;omega)
   ·simp [oput,g6,show ¬qs=m by omega,ge]
   ·simp [oput,ints]
   ·simp [oput,g8,show ¬0=m by omega,show ¬0=qr by omega]
   ·simp [oput,g9,show ¬1=m by omega,show ¬1=qr by omega]
   ·exact fun j h0 h1 h2 h3=>by
     by_cases e:j=qr
     ·simp [oput,e,show ¬qr=m by omega]
     ·simp [oput,h3,e,gf j h0 h1 h2 e]
  ·have key:=key c2
   obtain ⟨σ5,hσ5⟩:∃σ5:Nat→AObj,σ5=fun j=>if j=qr then AObj.dead else frzO qr (ints r) (τ j):=⟨_,rfl⟩
   have s0:σ5 0= .box [.fsl []]:=by simp [hσ5,show ¬0=qr by omega,g8,frzO,frz1,frz1.frzL]
   have s1:σ5 1= .box [.fsl []]:=by simp [hσ5,show ¬1=qr by omega,g9,frzO,frz1,frz1.frzL]
   have s2:σ5 qs= .arr 1 (acc.map rowT):=by simp [hσ5,ge,g6,frzO]
   have s3:∀j,j≠0→j≠1→j≠qs→σ5 j= .dead:=fun j h0 h1 h2=>by
    by_cases e:j=qr
    ·simp [hσ5,e]
    ·simp [hσ5,e,gf j h0 h1 h2 e,frzO]
   have ge':¬qs=qr:=ge
   refine K_impC (t:=⟨sl [(0,.t (.sl (ints t))),(2,.ptr 0 0),(4,.ptr 1 0),(6,.ref qs),(7,.t (.sl (ints r))),(8,.i i)],σ5,m⟩) ((Imp.freeze (q:=qr) (sz:=1) (es:=ints r) g7).trans (Imp.slots (by simp [go_sem,frz1,ge']) hσ5 rfl)) ?_
   have fin:∀(s:St),s.m 0= .t (.sl (ints t))→s.m 2= .ptr 0 0→s.m 4= .ptr 1 0→s.m 6= .ref m→s.m 7= .fsl []→s.m 8= .i ((i+1:Nat):Int)→s.σ=oput (oput σ5 qs .dead) m (.arr 1 (acc.map rowT++[[.sl (ints r)]]))→s.nx=m+1→
     R.Next B (fun (i,acc,r,qs,qr,τ,m)=>i≤t.length+1∧(i≤t.length→acc++rcut (t.drop i) r=rs)∧(i=t.length+1→acc=rs)∧acc.length≤i∧r.length≤i∧τ qs= .arr 1 (acc.map rowT)∧τ qr= .arr 1 (ints r)∧τ 0= .box [.fsl []]∧τ 1= .box [.fsl []]∧2≤qs∧qs<m∧2≤qr∧qr<m∧qs≠qr∧∀j,j≠0→j≠1→j≠qs→j≠qr→τ j= .dead)
      (fun (i,acc,r,qs,qr,τ,m)=>⟨sl [(0,.t (.sl (ints t))),(2,.ptr 0 0),(4,.ptr 1 0),(6,.ref qs),(7,.ref qr),(8,.i i)],τ,m⟩) (fun a=>t.length+1-a.1) (i,acc,r,qs,qr,τ,m) s:=fun s h0 h2 h4 h6 h7 h8 hσ hn=>by
    refine Next.mk (i+1,acc++[r],[],m,m+1,oput (oput (oput σ5 qs .dead) m (.arr 1 (acc.map rowT++[[.sl (ints r)]]))) (m+1) (.arr 1 []),m+2) ⟨by omega,fun h=>?_,fun h=>?_,?_,Nat.zero_le _,?_,?_,?_,?_,by omega,by omega,by omega,by omega,by omega,?_⟩
     ((Imp.own (t:=7) (sz:=1) h7).trans (Imp.slots (by simp [go_sem,h0,h2,h4,h6,h8,hn]) (by rw [hσ,hn]) (by show m+2=s.nx+1;omega))) (by simp only;omega)
    ·rw [if_pos (by omega)] at key
     exact key
    ·rw [if_neg (by omega),List.append_nil] at key
     exact key
    ·rw [List.length_append];simp only [List.length_cons,List.length_nil];omega
    ·simp [oput,rowT]
    ·simp [oput,ints]
    ·simp [oput,s0,show ¬0=m by omega,show ¬0=m+1 by omega,show ¬0=qs by omega]
    ·simp [oput,s1,show ¬m=0 by omega,show ¬1=m by omega,show ¬1=m+1 by omega,show ¬1=qs by omega]
    ·exact fun j k0 k1 k2 k3=>by
      by_cases e:j=qs
      ·simp [oput,e,show ¬qs=m by omega,show ¬qs=m+1 by omega]
      ·have k2':¬j=m:=k2
       have k3':¬j=m+1:=k3
       simp [oput,k2',k3',e,s3 j k0 k1 e]
   by_cases c3:i<t.length
   ·have h3:t.getD i 0=t[i]:=by rw [List.getD_eq_getElem?_getD,List.getElem?_eq_getElem c3];rfl
    have c4:¬0<t[i]:=fun h=>c2 ⟨c3,by rw [h3];exact h⟩
    have hgi:=ints_getS t c3
    refine K_run hB 150 ?_
    simp [go_sem,hil,c1,c3,hgi,c4,s2,hal,hcapa,ha1]
    exact fin _ (by simp [go_sem]) (by simp [go_sem]) (by simp [go_sem]) (by simp [go_sem]) (by simp [go_sem]) (by simp [go_sem,hii]) rfl rfl
   ·refine K_run hB 150 ?_
    simp [go_sem,hil,c1,c3,s2,hal,hcapa,ha1]
    exact fin _ (by simp [go_sem]) (by simp [go_sem]) (by simp [go_sem]) (by simp [go_sem]) (by simp [go_sem]) (by simp [go_sem,hii]) rfl rfl
 ·have hacc:=g3 (by omega)
  subst hacc
  have e1:¬1=qs:=by omega
  have e2:¬0=qs:=by omega
  have e3:¬qs=0:=by omega
  refine K_run hB 60 ?_
  simp [go_sem,hil,c1]
  refine K_loopP (α:=Nat) (fun k=>1≤k∧k≤acc.length∨k=1) (fun k=>⟨sl [(2,.ptr 0 0),(4,.ptr 1 0),(6,.ref qs),(9,.i k)],τ,m⟩) (fun k=>acc.length-k) 1 (.inr rfl) (Imp.slots (by simp [go_sem]) rfl rfl) ?_
  intro k hk0
  refine K_run hB 60 ?_
  simp [go_sem,g6,hal]
  refine fork_dec (fun hk=>?_) (fun hk=>?_)
  ·have hkk:IntKind.i64.wrap ((k:Int)+1)=((k+1:Nat):Int):=by rw [w64 ((k:Int)+1) (by omega)];rfl
   obtain ⟨v,hv⟩:∃v,v=k-1:=⟨_,rfl⟩
   have w2:IntKind.i64.wrap ((k:Int)-1)=(v:Int):=by rw [w64 _ (by omega)];omega
   have hvl:v<acc.length:=by omega
   have hf:=hfirst k (by omega) hk
   have hgd:∀(k:Nat) (h:k<acc.length),acc.getD k []=acc[k]:=fun k h=>by rw [List.getD_eq_getElem?_getD,List.getElem?_eq_getElem h];rfl
   rw [←hv,hgd v hvl,hgd k hk] at hf
   have hgk:∀h,(acc.map rowT)[k]'h=[.sl (ints acc[k])]:=fun h=>by simp [rowT]
   have hgv:∀h,(acc.map rowT)[v]'h=[.sl (ints acc[v])]:=fun h=>by simp [rowT]
   have n1:=heach _ (List.getElem_mem hk)
   have n2:=heach _ (List.getElem_mem hvl)
   generalize acc[k]=a at *
   generalize acc[v]=b at *
   cases a with
   |nil=>exact absurd rfl n1
   |cons a0 a=>
    cases b with
    |nil=>exact absurd rfl n2
    |cons b0 b=>
     have hf':¬a0≤b0:=by simp only [List.getD_cons_zero] at hf;omega
     have i1:ints (a0 :: a)=[.i a0] :: ints a:=rfl
     have i2:ints (b0 :: b)=[.i b0] :: ints b:=rfl
     simp [go_sem]
     refine K_drawn [] rfl (by rw [hB];kernel_rfl) ?_
     refine K_run hB 100 ?_
     simp [go_sem,g6,hal,hk,hgk,hgv,hvl,w2,i1,i2,hf',hkk,Nat.mod_one]
     exact Next.mk (k+1) (.inl ⟨by omega,by omega⟩) (Imp.slots (by simp [go_sem]) rfl rfl) (by omega)
  ·simp [go_sem,g8,e1,e2,e3,g6]
theorem rsplit_nil:Pure P 187 [.t (.sl (ints []))] (.tup [.agg [.t (.sl (List.map rowT []))],.i 0]):=by
 refine pure_of Tryz.func187 rfl rfl (by simp [Tryz.f187]) (by simp [bnd,bnd.bndL]) (by simp [bnd,bnd.bndL]) fun B hB hnx=>?_
 simp only [Tryz.f187] at hB ⊢
 have hil:(ints []).length=0:=rfl
 refine K_run hB 100 ?_
 simp [go_sem,hil]
end Go.Proofs.YtackfabapangdaaGreat

set_option maxRecDepth 4000
set_option maxHeartbeats 2000000
namespace Go.Proofs.YtackfabapangdaaGreat
open Go Go.Proofs.YtackfabapangdaaGreat.R
structure DOk (x:Inst) (o:Opt) (k:Ids) (s:SS) (σ:Nat→AObj) (nx:Nat):Prop where
 b:SBox x o 0 0 k s σ nx
 h:σ k.h= .box [.i o.order,.ref k.q]
 q:σ k.q= .arr 3 (entsT s.q)
theorem DOk.only {x:Inst} {o:Opt} {k:Ids} {s t:SS} {σ σ':Nat→AObj} {nx nx':Nat} (h:DOk x o k s σ nx) (hb:SBox x o 0 0 k t σ' nx') (hq:t.q=s.q) (ho:Only k.s σ nx σ' nx'):DOk x o k t σ' nx':=by
 have:=h.b.lt
 have:=h.b.sh
 have:=h.b.qs
 exact ⟨hb,by rw [ho.2 _ (by omega) (by omega)];exact h.h,by rw [ho.2 _ (by omega) (by omega),hq];exact h.q⟩
theorem DOk.stay {x:Inst} {o:Opt} {k:Ids} {s:SS} {σ σ':Nat→AObj} {nx nx':Nat} (h:DOk x o k s σ nx) (h1:nx≤nx') (h2:∀i,i<nx→σ' i=σ i):DOk x o k s σ' nx'∧Runs k σ nx k σ' nx':=by
 obtain ⟨⟨b1,b2,b3,b4,b5,b6,b7⟩,q1,q2⟩:=h
 refine ⟨⟨⟨?_,?_,?_,b4,b5,b6,by omega⟩,?_,?_⟩,h1,rfl,rfl,.inl rfl,.inl rfl,.inl rfl,fun i hi _ _ _ _ _=>h2 i hi⟩
 all_goals rw [h2 _ (by omega)];assumption
theorem DOk.turn {x:Inst} {o:Opt} {k:Ids} {s:SS} {σ:Nat→AObj} {nx:Nat} (h:DOk x o k s σ nx) {t:SS} {τ:Nat→AObj} {nx':Nat} (h1:τ k.s= .box (t.cs x o 0 0 k)) (h2:t.subs=s.subs) (h3:t.q=s.q) (h4:t.log=s.log) (ho:Only k.s σ nx τ nx'):DOk x o k t τ nx':=by
 obtain ⟨b1,b2,b3,b4,b5,b6,b7⟩:=h.b
 rw [SS.cs] at b1
 have e1:k.sb≠k.s:=fun e=>by rw [e,b1] at b2;cases b2
 have e2:k.lg≠k.s:=fun e=>by rw [e,b1] at b3;cases b3
 have:=ho.1
 exact h.only ⟨h1,by rw [h2,ho.2 _ (by omega) e1];exact b2,by rw [h4,ho.2 _ (by omega) e2];exact b3,b4,b5,b6,by omega⟩ h3 ho
def Splits (n:Node):Prop:=∃rs:List (List Int),rs=(splitR n.path).1∧(n.path=[]∧rs=[]∨rs≠[]∧GoodT 0 rs∧join0 rs=n.path)
theorem rsplit_any {n:Node} (h:Splits n) (hp:n.path.length<2^31):R.Pure P 187 [.t (.sl (ints n.path))] (.tup [.agg [.t (.sl (planT (splitR n.path).1))],.i 0]):=by
 obtain ⟨rs,h1,h2⟩:=h
 rw [←h1]
 rcases h2 with ⟨h3,h4⟩ | ⟨h3,h4,h5⟩
 ·rw [h3,h4]
  exact rsplit_nil
 ·exact rsplit_pure rs n.path h3 h4 h5 hp
theorem roffer_spec (x:Inst) (o:Opt) (st low:Int) (k:Ids) (s:SS) (n:Node) (hsp0:n.cost<s.up→Splits n) (hp:n.path.length<2^31) {σ:Nat→AObj} {nx:Nat} (hb:SBox x o st low k s σ nx):
  CallQ P 141 [.ptr k.s 0,n.a] σ nx fun r σ' nx'=>r= .tup []∧SBox x o st low k (s.offer (n,true)) σ' nx'∧Only k.s σ nx σ' nx':=by
 refine spec_of Tryz.func141 rfl rfl (by simp [Tryz.f141]) fun B hB hnx hσB=>?_
 simp only [Tryz.f141] at hB ⊢
 obtain ⟨b1,b2,b3,b4,b5,b6,b7⟩:=hb
 rw [SS.cs] at b1
 have hne:¬k.s=nx:=by omega
 have hne':¬nx=k.s:=by omega
 have hne2:¬k.s=nx+1:=by omega
 have hne3:¬nx+1=k.s:=by omega
 have fin:∀(τ:Nat→AObj) (nx':Nat) (t:SS),nx≤nx'→τ k.s= .box (t.cs x o st low k)→t.subs=s.subs→t.log=s.log→(∀i,i<nx→i≠k.s→τ i=σ i)→SBox x o st low k t τ nx'∧Only k.s σ nx τ nx':=fun τ nx' t h1 h2 h3 h4 h5=>by
  have e1:k.sb≠k.s:=fun e=>by rw [e,b1] at b2;cases b2
  have e2:k.lg≠k.s:=fun e=>by rw [e,b1] at b3;cases b3
  exact ⟨⟨h2,by rw [h3,h5 _ (by omega) e1];exact b2,by rw [h4,h5 _ (by omega) e2];exact b3,b4,b5,b6,by omega⟩,h1,h5⟩
 refine K_run hB 100 ?_
 simp [go_sem,Node.a,Node.cs,b1,hne]
 refine K_drawn [] rfl (by rw [hB];kernel_rfl) ?_
 by_cases c:n.cost<s.up
 ·have e0:s.offer (n,true)={s with up:=n.cost,plan:=(splitR n.path).1}:=by rw [SS.offer,if_pos ⟨rfl,c⟩]
  have hsp:=rsplit_any (hsp0 c) hp
  rw [e0]
  refine K_run hB 100 ?_
  simp [go_sem,b1,hne,hne',c]
  refine K_call rfl rfl rfl (args:=[.t (.sl (ints n.path))]) (f:=187) (by simp [go_sem]) (by simp [go_sem,hB]) ((hsp).spec _ _) ?_
  refine K_run hB 100 ?_
  simp [go_sem,b1,hne,hne',hne2,hne3,c]
  exact ⟨by omega,fin _ _ {s with up:=n.cost,plan:=(splitR n.path).1} (by omega) (by simp [oput,hne,SS.cs,planT]) rfl rfl fun i h1 h2=>by simp [oput,show ¬i=nx by omega,show ¬i=nx+1 by omega,h2]⟩
 ·have e0:s.offer (n,true)=s:=by rw [SS.offer,if_neg (fun h=>c h.2)]
  rw [e0]
  refine K_run hB 100 ?_
  simp [go_sem,b1,hne,c]
  exact fin _ _ _ (by omega) (by simp [oput,hne,b1,SS.cs]) rfl rfl fun i h1 h2=>by simp [oput,show ¬i=nx by omega]
theorem rpush_spec (x:Inst) (o:Opt) (k:Ids) (s:SS) (n:Node) (low:Int) (hx:x.stops.length<2^31) (ho:n.s.ok) (hp:n.path.length<2^31) (hs1:s.subs.length<2^30) (hs2:s.q.length<2^30) {σ:Nat→AObj} {nx:Nat} (hb:DOk x o k s σ nx):
  CallQ P 80 [.ptr k.s 0,n.a,.i low] σ nx fun r σ' nx'=>r= .tup []∧∃k',DOk x o k' (x.push low s n) σ' nx'∧Runs k σ nx k' σ' nx':=by
 refine spec_of Tryz.func80 rfl rfl (by simp [Tryz.f80]) fun B hB hnx hσB=>?_
 simp only [Tryz.f80] at hB ⊢
 have hb0:=hb
 obtain ⟨⟨b1,b2,b3,b4,b5,b6,b7⟩,q1,q2⟩:=hb
 rw [SS.cs] at b1
 have hne:¬k.s=nx:=by omega
 have hne':¬nx=k.s:=by omega
 have hne2:¬k.sb=nx:=by omega
 have hof:=rof_pure x n hx ho
 have hil:(ints n.path).length=n.path.length:=List.length_map _
 have hnl:(nodesT s.subs).length=s.subs.length:=List.length_map _
 have hsk:=push_or x low s n
 have hne3:¬k.h=nx:=by omega
 have hne4:¬k.q=nx:=by omega
 refine K_run hB 100 ?_
 simp [go_sem,Node.a,Node.cs,b1,hne]
 refine K_drawn [] rfl (by rw [hB];kernel_rfl) ?_
 refine K_run hB 100 ?_
 simp [go_sem,Inst.a,b1,hne]
 refine K_dCallP rfl rfl rfl (args:=[x.a,n.a]) (f:=136) (by simp [go_sem,Inst.a,Node.a,Node.cs]) (hof) ?_
 generalize hv:x.of n=v at *
 obtain ⟨b,hbv⟩:∃b,b=max low v:=⟨_,rfl⟩
 rw [←hbv] at hsk
 have hcap:s.subs.length+1≤mostLen:=by show _≤4294967296;omega
 have happ:nodesT s.subs++[n.t]=nodesT (s.subs++[n]):=by simp [nodesT]
 have hnl2:=nodesT_len s.subs
 have hne5:¬k.s=k.sb:=fun e=>by rw [e,b2] at b1;cases b1
 have hls:k.lg≠k.sb:=fun e=>by rw [e,b2] at b3;cases b3
 have hls2:k.lg≠k.s:=fun e=>by rw [e,b1] at b3;cases b3
 have hpu:=fun (τ:Nat→AObj) (m:Nat)=>rput_spec o.order s.q ⟨b,n.path.length,s.subs.length⟩ hs2 (σ:=τ) (nx:=m) (h:=k.h) (q:=k.q)
 by_cases c1:v<low
 ·skip
  have e:low=b:=by omega
  have c1':v<b:=by omega
  by_cases c:s.up≤b
  ·have e0:x.push low s n=s:=by rcases hsk with ⟨h1,_⟩ | ⟨h1,_⟩<;>first | exact h1 | omega
   have c':¬b<s.up:=by omega
   rw [e0]
   refine K_run hB 100 ?_
   simp [go_sem,e,c1',b1,hne,c']
   exact ⟨k,hb0.stay (by omega) fun i hi=>by simp [oput,show ¬i=nx by omega]⟩
  ·have e0:x.push low s n={s with q:=s.q++[⟨b,n.path.length,s.subs.length⟩],subs:=s.subs++[n]}:=by rcases hsk with ⟨h1,h2⟩ | ⟨_,h1⟩<;>first | exact h1 | omega
   have c':b<s.up:=by omega
   rw [e0]
   refine K_run hB 100 ?_
   simp [go_sem,e,c1',b1,hne,c']
   refine K_drawnZ [] 14 _ rfl (by rw [hB];kernel_rfl) (by kernel_rfl) rfl ?_
   refine K_run hB 100 ?_
   simp [go_sem,b1,b2,hne,hne2,hil,hnl]
   refine K_callQ rfl rfl rfl (args:=[.ptr k.h 0,.agg [.i b,.i n.path.length,.i s.subs.length]]) (f:=137) (by simp [go_sem]) (by simp [go_sem,hB]) (hpu _ (nx+1) (by omega) (by simp [oput,hne3,q1]) (by omega) (by simp [oput,hne4,q2])) fun r σ' nx' hq=>?_
   obtain ⟨rfl,g1,q',g2,g3,g4,g5,g6⟩:=hq
   have f0:=g6 nx (by omega) (by omega) (by omega)
   have f1:=g6 k.s (by omega) (by omega) (by omega)
   have f2:=g6 k.sb (by omega) (by omega) (by omega)
   simp only [oput,hne,hne2,if_true,if_false,b1,b2] at f0 f1 f2
   have hne6:¬k.s=nx':=by omega
   have hne7:¬nx'=k.s:=by omega
   refine K_run hB 100 ?_
   simp [go_sem]
   refine K_drawnF [7,10] [0] rfl (by rw [hB];kernel_rfl) (by kernel_rfl) fun ht hf'=>?_
   refine K_run hB 22 ?_
   simp [go_sem,ht,hf',f0,f1,f2,hne5,hne6,hne7,hcap,hnl,hnl2,Node.t]
   have hg:∀(y z:AObj) (i:Nat),i<nx'→i≠k.s→i≠k.sb→oput (oput (oput σ' k.sb .dead) nx' y) k.s z i=σ' i:=fun y z i h1 h2 h3=>by simp [oput,h2,h3,show ¬i=nx' by omega]
   have hk:∀i,i<nx→i≠k.h→i≠k.q→σ' i=σ i:=fun i h1 h2 h3=>by rw [g6 i (by omega) h2 h3];simp [oput,show ¬i=nx by omega]
   refine ⟨by omega,{k with q:=q',sb:=nx'},⟨⟨?_,?_,?_,b4,?_,?_,?_⟩,?_,?_⟩,?_⟩
   ·simp [oput,SS.cs]
   ·simp [oput,hne7,←happ,Node.t]
   ·exact (hg _ _ k.lg (by omega) hls2 hls).trans ((hk _ (by omega) (by omega) (by omega)).trans b3)
   ·simp only;omega
   ·simp only;omega
   ·simp only;omega
   ·exact (hg _ _ k.h (by omega) (by omega) (by omega)).trans g4
   ·exact (hg _ _ q' (by omega) (by omega) (by omega)).trans g5
   ·exact ⟨by omega,rfl,rfl,.inr (by simp only;omega),.inr (by simp only;omega),.inl rfl,fun i h1 h2 h3 h4 h5 _=>(hg _ _ i (by omega) h2 h5).trans (hk i h1 h3 h4)⟩
 ·skip
  have e:v=b:=by omega
  have c1':¬b<low:=by omega
  by_cases c:s.up≤b
  ·have e0:x.push low s n=s:=by rcases hsk with ⟨h1,_⟩ | ⟨h1,_⟩<;>first | exact h1 | omega
   have c':¬b<s.up:=by omega
   rw [e0]
   refine K_run hB 100 ?_
   simp [go_sem,e,c1',b1,hne,c']
   exact ⟨k,hb0.stay (by omega) fun i hi=>by simp [oput,show ¬i=nx by omega]⟩
  ·have e0:x.push low s n={s with q:=s.q++[⟨b,n.path.length,s.subs.length⟩],subs:=s.subs++[n]}:=by rcases hsk with ⟨h1,h2⟩ | ⟨_,h1⟩<;>first | exact h1 | omega
   have c':b<s.up:=by omega
   rw [e0]
   refine K_run hB 100 ?_
   simp [go_sem,e,c1',b1,hne,c']
   refine K_drawnZ [] 14 _ rfl (by rw [hB];kernel_rfl) (by kernel_rfl) rfl ?_
   refine K_run hB 100 ?_
   simp [go_sem,b1,b2,hne,hne2,hil,hnl]
   refine K_callQ rfl rfl rfl (args:=[.ptr k.h 0,.agg [.i b,.i n.path.length,.i s.subs.length]]) (f:=137) (by simp [go_sem]) (by simp [go_sem,hB]) (hpu _ (nx+1) (by omega) (by simp [oput,hne3,q1]) (by omega) (by simp [oput,hne4,q2])) fun r σ' nx' hq=>?_
   obtain ⟨rfl,g1,q',g2,g3,g4,g5,g6⟩:=hq
   have f0:=g6 nx (by omega) (by omega) (by omega)
   have f1:=g6 k.s (by omega) (by omega) (by omega)
   have f2:=g6 k.sb (by omega) (by omega) (by omega)
   simp only [oput,hne,hne2,if_true,if_false,b1,b2] at f0 f1 f2
   have hne6:¬k.s=nx':=by omega
   have hne7:¬nx'=k.s:=by omega
   refine K_run hB 100 ?_
   simp [go_sem]
   refine K_drawnF [7,10] [0] rfl (by rw [hB];kernel_rfl) (by kernel_rfl) fun ht hf'=>?_
   refine K_run hB 22 ?_
   simp [go_sem,ht,hf',f0,f1,f2,hne5,hne6,hne7,hcap,hnl,hnl2,Node.t]
   have hg:∀(y z:AObj) (i:Nat),i<nx'→i≠k.s→i≠k.sb→oput (oput (oput σ' k.sb .dead) nx' y) k.s z i=σ' i:=fun y z i h1 h2 h3=>by simp [oput,h2,h3,show ¬i=nx' by omega]
   have hk:∀i,i<nx→i≠k.h→i≠k.q→σ' i=σ i:=fun i h1 h2 h3=>by rw [g6 i (by omega) h2 h3];simp [oput,show ¬i=nx by omega]
   refine ⟨by omega,{k with q:=q',sb:=nx'},⟨⟨?_,?_,?_,b4,?_,?_,?_⟩,?_,?_⟩,?_⟩
   ·simp [oput,SS.cs]
   ·simp [oput,hne7,←happ,Node.t]
   ·exact (hg _ _ k.lg (by omega) hls2 hls).trans ((hk _ (by omega) (by omega) (by omega)).trans b3)
   ·simp only;omega
   ·simp only;omega
   ·simp only;omega
   ·exact (hg _ _ k.h (by omega) (by omega) (by omega)).trans g4
   ·exact (hg _ _ q' (by omega) (by omega) (by omega)).trans g5
   ·exact ⟨by omega,rfl,rfl,.inr (by simp only;omega),.inr (by simp only;omega),.inl rfl,fun i h1 h2 h3 h4 h5 _=>(hg _ _ i (by omega) h2 h5).trans (hk i h1 h3 h4)⟩
end Go.Proofs.YtackfabapangdaaGreat

set_option maxRecDepth 4000
set_option maxHeartbeats 2000000
namespace Go.Proofs.YtackfabapangdaaGreat
open Go Go.Proofs.YtackfabapangdaaGreat.R
theorem rbranch_spec (x:Inst) (o:Opt) (k:Ids) (s:SS) (D:Diag) (hx:x.stops.length<2^31) (hd:LFine D.layers) (hs0:1≤D.sure) (hs1:D.sure≤D.layers.length) (hsp:∀l∈D.layers.take (D.sure-1),(x.bests l).2=true→Splits (x.bests l).1) (hn1:s.subs.length<2^29) (hn2:s.q.length<2^29) {σ:Nat→AObj} {nx:Nat} (hb:DOk x o k s σ nx):
  CallQ P 143 [.ptr k.s 0,D.a] σ nx fun r σ' nx'=>r= .tup []∧∃k',DOk x o k' (x.branch D s) σ' nx'∧Runs k σ nx k' σ' nx':=by
 generalize hR:x.branch D s=R
 refine spec_of Tryz.func143 rfl rfl (by simp [Tryz.f143]) fun B hB hnx hσB=>?_
 simp only [Tryz.f143] at hB ⊢
 have hlt:=hb.b.lt
 have hlen:(lysT D.layers).length=D.layers.length:=List.length_map _
 obtain ⟨last,hlast⟩:∃n,n=D.sure-1:=⟨_,rfl⟩
 have w0:IntKind.i64.wrap ((D.sure:Int)-1)=(last:Int):=by have:=hd.len;rw [w64 _ (by omega)];omega
 have hll:last<D.layers.length:=by omega
 rw [←hlast] at hsp
 refine K_run hB 100 ?_
 simp [go_sem,Diag.a,Diag.cs]
 refine K_loopP (α:=Nat×(Nat→AObj)×Nat) (fun (j,τ,m)=>j≤last∧DOk x o k (x.offers s (D.layers.take j)) τ m∧nx<m∧τ nx= .box D.cs∧Runs k σ nx k τ m)
  (fun (j,τ,m)=>⟨sl [(0,.ptr k.s 0),(3,.ptr nx 0),(4,.i j)],τ,m⟩) (fun a=>last-a.1) (0,_,_)
  ⟨Nat.zero_le _,?_,Nat.lt_succ_self _,?_,?_⟩ (Imp.slots (by simp [go_sem]) rfl rfl) ?_
 ·exact (hb.stay (by omega) fun i hi=>by simp [oput,show ¬i=nx by omega]).1
 ·simp [go_sem,oput,Diag.cs]
 ·exact (hb.stay (by omega) fun i hi=>by simp [oput,show ¬i=nx by omega]).2
 rintro ⟨j,τ,m⟩ ⟨g1,g2,g3,g4,g5⟩
 have wj:IntKind.i64.wrap ((j:Int)+1)=((j+1:Nat):Int):=by have:=hd.len;rw [w64 _ (by omega)];omega
 have e4:=g4
 rw [Diag.cs] at e4
 by_cases hj:j<last
 ·have hj1:(j:Int)+1<(D.sure:Int):=by omega
  have hjl:j<D.layers.length:=by omega
  have hgj:∀h,(lysT D.layers)[j]'h=[.sl (nodesT (D.layers[j]'hjl))]:=fun h=>lysT_get D.layers hjl _
  have hof:=offers_take x s D.layers hjl
  have hmem:D.layers[j]∈D.layers:=List.getElem_mem _
  have hbp:=bests_path (x:=x) (k:=2^29) fun n hn=>Nat.le_of_lt (hd.ok _ hmem n hn).2
  have hspj:=hsp D.layers[j] (by rw [List.mem_take_iff_getElem];exact ⟨j,by omega,rfl⟩)
  have hex:=rexpand_pure x D.layers[j] (x.offers s (D.layers.take j)).up hx (hd.few _ hmem) (fun n hn=>⟨(hd.ok _ hmem n hn).1,by have:=(hd.ok _ hmem n hn).2;omega⟩) (fun n hn=>by have:=(hd.ok _ hmem n hn).2;omega)
  generalize D.layers[j]=L at *
  generalize hS:x.offers s (D.layers.take j)=S at *
  generalize hS2:x.offers s (D.layers.take (j+1))=S2 at *
  have b1:=g2.b.box
  rw [SS.cs] at b1
  have hlt2:=g2.b.lt
  have ne1:¬k.s=m:=by omega
  have ne2:¬m=k.s:=by omega
  have ne3:¬nx=m:=by omega
  obtain ⟨bn,bi,hbk⟩:∃bn bi,x.bests L=(bn,bi):=⟨_,_,rfl⟩
  rw [hbk] at hof hbp hex hspj
  simp only at hbp hspj
  refine K_run hB 60 ?_
  simp [go_sem,wj,e4,hj1]
  refine K_drawnF [19,21] [0,1,2,3,4,5,6,7,8,9,10,11,12,13,14,15,16,17,18] rfl (by rw [hB];kernel_rfl) (by kernel_rfl) fun ht hf'=>?_
  refine K_run hB 100 ?_
  simp [go_sem,ht,hf',b1,ne1,ne2,ne3,e4,hlen,hjl,hgj,Inst.a]
  refine K_dCallP rfl rfl rfl (args:=[x.a,.t (.sl (nodesT L)),.i S.up]) (f:=185) (by simp [go_sem,Inst.a]) (hex) ?_
  have hb':=fun τ' (h:∀i,i<m→τ' i=τ i)=>g2.stay (σ':=τ') (nx':=m+1) (by omega) h
  cases bi with
  |false=>
   have hof':S2=S:=by rw [hof];simp [SS.offer]
   refine K_run hB 100 ?_
   simp [go_sem,ht,hf',b1,ne1,ne2,ne3,e4,hlen,hjl,hgj,expRes,Node.a,Node.cs,wj]
   have hq:=hb' (oput (oput τ m (.box [.i 0,.i 0,.i 0,.i 0,.i 0,.u 0,.u 0,.u 0,.i 0,.fsl []])) m (.box bn.cs)) fun i hi=>by simp [oput,show ¬i=m by omega]
   refine Next.mk (j+1,_,m+1) ⟨by omega,?_,?_,?_,?_⟩ (Imp.slots (by simp [go_sem]) rfl rfl) (by simp only;omega)
   ·show DOk x o k (x.offers s (D.layers.take (j+1))) _ (m+1)
    rw [hS2,hof']
    exact hq.1
   ·simp only;omega
   ·simp [oput,ne3,g4]
   ·exact g5.trans hq.2
  |true=>
   refine K_run hB 100 ?_
   simp [go_sem,ht,hf',b1,ne1,ne2,ne3,e4,hlen,hjl,hgj,expRes,Node.a,Node.cs]
   refine K_callQ rfl rfl rfl (args:=[.ptr k.s 0,bn.a]) (f:=141) (by simp [go_sem,Node.a,Node.cs]) (by simp [go_sem,hB]) (roffer_spec x o 0 0 k S bn (fun _=>hspj rfl) (Nat.lt_of_le_of_lt hbp (by decide)) (nx:=m+1) (hb' _ fun i hi=>by simp [oput,show ¬i=m by omega]).1.b) fun r σ' nx' hq=>?_
   obtain ⟨rfl,c1,c2⟩:=hq
   have hτ:∀i,i<m→i≠k.s→σ' i=τ i:=fun i h1 h2=>by rw [c2.2 i (by omega) h2];simp [oput,show ¬i=m by omega]
   have c4:=c2.1
   refine K_run hB 100 ?_
   simp [go_sem,wj]
   refine Next.mk (j+1,σ',nx') ⟨by omega,?_,?_,?_,?_⟩ (Imp.slots (by simp [go_sem]) rfl rfl) (by simp only;omega)
   ·show DOk x o k (x.offers s (D.layers.take (j+1))) σ' nx'
    rw [hS2,hof]
    exact g2.only c1 (offer_up S (bn,true)).2.2.1 ⟨by omega,hτ⟩
   ·simp only;omega
   ·exact (hτ _ g3 (by omega)).trans g4
   ·show Runs k σ nx k σ' nx'
    exact g5.trans (Only.runs ⟨by omega,hτ⟩)
 ·have:j=last:=by omega
  subst this
  have hj1:¬(j:Int)+1<(D.sure:Int):=by omega
  generalize hS:x.offers s (D.layers.take j)=S at *
  have hgl:∀h,(lysT D.layers)[j]'h=[.sl (nodesT (D.layers[j]'hll))]:=fun h=>lysT_get D.layers hll h
  have hR2:(D.layers[j]).foldl (x.push D.low) S=R:=by
   rw [←hR,Inst.branch,←hlast,hS,List.getD_eq_getElem?_getD,List.getElem?_eq_getElem hll]
   rfl
  have hmem:D.layers[j]∈D.layers:=List.getElem_mem _
  have hL1:=hd.few _ hmem
  have hL2:=hd.ok _ hmem
  generalize D.layers[j]=L at *
  have hnl:(nodesT L).length=L.length:=List.length_map _
  refine K_run hB 60 ?_
  simp [go_sem,wj,e4,hj1,w0,hlen,hll,hgl,hnl]
  refine K_loopP (α:=Nat×Ids×(Nat→AObj)×Nat) (fun (i,k',τ1,m1)=>i≤L.length∧DOk x o k' ((L.take i).foldl (x.push D.low) S) τ1 m1∧nx<m1∧τ1 nx= .box D.cs∧Runs k τ m k' τ1 m1)
   (fun (i,k',τ,m)=>⟨sl [(0,.ptr k.s 0),(3,.ptr nx 0),(8,.t (.sl (nodesT L))),(9,.i i)],τ,m⟩) (fun a=>L.length-a.1) (0,k,τ,m)
   ⟨Nat.zero_le _,g2,g3,g4,Runs.refl _ _ _⟩ (Imp.slots (by simp [go_sem]) rfl rfl) ?_
  rintro ⟨i,k',τ',m'⟩ ⟨i1,i2,i3,i4,i5⟩
  refine K_run hB 60 ?_
  simp [go_sem,hnl]
  refine fork_dec (fun hi=>?_) (fun hi=>?_)
  ·have hgi:∀h,(nodesT L)[i]'h=L[i].t:=fun h=>nodesT_get L hi
   have wi:IntKind.i64.wrap ((i:Int)+1)=((i+1:Nat):Int):=by rw [w64 _ (by omega)];omega
   have hpt:=pushes_take x D.low S L hi
   obtain ⟨hp1,hp2⟩:=pushes_len x D.low (L.take i) S
   obtain ⟨ho1,ho2⟩:=hL2 L[i] (List.getElem_mem _)
   have htl:(L.take i).length≤2^20:=by rw [List.length_take];omega
   generalize L[i]=n at *
   generalize (L.take i).foldl (x.push D.low) S=S1 at *
   generalize hS2:(L.take (i+1)).foldl (x.push D.low) S=S2 at *
   rw [Diag.cs] at i4
   have hss:S.subs=s.subs∧S.q=s.q:=by
    have:=offers_up x (D.layers.take j) s
    rw [hS] at this
    exact ⟨this.2.1,this.2.2.1⟩
   rw [hss.1] at hp1
   rw [hss.2] at hp2
   have es:k'.s=k.s:=i5.s
   simp [go_sem]
   refine K_drawnZ [] 7 _ rfl (by rw [hB];kernel_rfl) (by kernel_rfl) rfl ?_
   refine K_run hB 100 ?_
   simp [go_sem,hnl,hi,hgi,Node.t,i4]
   refine K_callQ rfl rfl rfl (args:=[.ptr k'.s 0,n.a,.i D.low]) (f:=80) (by simp [go_sem,Node.a,Node.cs,es]) (by simp [go_sem,hB]) (rpush_spec x o k' S1 n D.low hx ho1 (by omega) (by omega) (by omega) (σ:=τ') (nx:=m') i2) fun r σ' nx' hq=>?_
   obtain ⟨rfl,k2,c1,c2⟩:=hq
   have h0:=i2.b.lt
   have h1:=i5.q
   have h2:=i5.sb
   have h3:=i5.lg
   have h4:=i5.h
   have h5:=hb.b.lt
   have hkn:σ' nx=τ' nx:=c2.keep nx i3 (by omega) (by omega) (by omega) (by omega) (by omega)
   have hle:=c2.le
   refine K_run hB 100 ?_
   simp [go_sem,wi]
   refine Next.mk (i+1,k2,σ',nx') ⟨by omega,?_,?_,?_,?_⟩ (Imp.slots (by simp [go_sem]) rfl rfl) (by simp only;omega)
   ·show DOk x o k2 ((L.take (i+1)).foldl (x.push D.low) S) σ' nx'
    rw [hS2,hpt]
    exact c1
   ·simp only;omega
   ·exact hkn.trans (i4.trans (by rw [Diag.cs]))
   ·exact i5.trans c2
  ·have:i=L.length:=by omega
   subst this
   rw [List.take_length,hR2] at i2
   simp [go_sem]
   have i6:=g5.trans i5
   exact ⟨i6.le,k',i2,i6⟩
end Go.Proofs.YtackfabapangdaaGreat

set_option maxRecDepth 4000
set_option maxHeartbeats 1000000
namespace Go.Proofs.YtackfabapangdaaGreat
open Go Go.Proofs.YtackfabapangdaaGreat.R
theorem rnbest_pure (x:Inst) (n:Node) (width up:Int) (hl:x.stops.length<2^31) (hw:width≤3000) (ho:n.s.ok) (hp:n.path.length<2^29):Pure P 140 [x.a,n.a,.i width,.i up] (naRes (x.narrow n width up)):=by
 generalize hR:x.narrow n width up=R
 refine pure_of Tryz.func140 rfl rfl (by simp [Tryz.f140]) (by simp [bnd,bnd.bndL,Inst.a,Node.a,Node.cs]) (by simp [bnd,bnd.bndL,naRes,Node.a,Node.cs]) fun B hB hnx=>?_
 simp only [Tryz.f140] at hB ⊢
 have hlev:=Level.root x n ho
 have hmeas:=meas_le x n.s
 rw [Inst.narrow] at hR
 generalize hd:x.meas n.s+1=d0 at *
 generalize hK:n.path.length+x.meas n.s+1=K at *
 have hW1:max width 1=(widthN width:Nat):=by unfold widthN;split<;>omega
 have hW2:widthN width≤3000:=by unfold widthN;split<;>omega
 generalize widthN width=W at *
 refine K_run hB 9 ?_
 simp [go_sem,Inst.a,Node.a,Node.cs]
 have hW3:width<1→W=1:=fun h=>by omega
 have hW4:¬width<1→width=W:=fun h=>by omega
 refine K_cut (α:=Unit) (fun _=>True) (fun _=>⟨sl [(2,.i W),(3,.i up),(4,.ptr 0 0),(5,.ptr 1 0),(8,.ptr 2 0)],oput (oput (oput noObj 0 (.box x.cs)) 1 (.box n.cs)) 2 (.box [.i 0,.i 0,.i 0,.i 0,.i 0,.u 0,.u 0,.u 0,.i 0,.fsl []]),3⟩) ?_ fun _ _=>?_
 ·by_cases c0:width<1
  ·have:=hW3 c0
   refine K_run hB 100 ?_
   simp [go_sem,c0]
   exact Imp.slots (by simp [go_sem,this]) rfl rfl
  ·have:=hW4 c0
   refine K_run hB 100 ?_
   simp [go_sem,c0]
   exact Imp.slots (by simp [go_sem];exact this) rfl rfl
 refine K_run hB 100 ?_
 simp [go_sem,Node.cs]
 refine K_less ((Imp.looseB (b:=2) (cs:=[.i 0,.i 0,.i 0,.i 0,.i 0,.u 0,.u 0,.u 0,.i 0,.fsl []]) (by simp [oput])).trans ((Imp.looseB (b:=3) (cs:=[.i 0,.i 0,.i 0,.i 0,.i 0,.u 0,.u 0,.u 0,.i 0,.fsl []]) (by simp [oput])).trans Imp.loose)) ?_
 refine K_loopP (α:=Nat×(Node×Bool×Int)×List Node×Int×(Nat→AObj)×Nat) (fun (d,st,l,n,σ,nx)=>Level x l d K∧x.naGo W d st l n=R∧l.length≤3000∧σ 0= .box x.cs∧σ 2= .box Node.zero.cs∧σ 3= .box st.1.cs∧3<nx)
  (fun (d,st,l,n,σ,nx)=>⟨sl [(2,.i W),(3,.i st.2.2),(4,.ptr 0 0),(8,.ptr 2 0),(11,.ptr 3 0),(12,.b st.2.1),(13,.i n),(14,.t (.sl (nodesT l)))],σ,nx⟩) (fun a=>a.1) (d0,(Node.zero,false,up),[n],0,_,4) ?_ (Imp.slots (by simp [go_sem,loosen,nodesT,Node.t]) rfl rfl) ?_
 ·exact ⟨hlev,hR,by simp,by simp [oput,Inst.cs],by simp [oput,Node.zero,State.zero,Node.cs,ints,loosen],by simp [oput,Node.zero,State.zero,Node.cs,ints,loosen],by omega⟩
 rintro ⟨d,st,l,n,σ,nx⟩ ⟨g1,g2,g0,g3,g4,g5,g6⟩
 have hil:(nodesT l).length=l.length:=List.length_map _
 have hgo:x.naGo W d st l n=match d with
  |0=>(st.1,st.2.1,n)
  |d+1=>if l.length=0 then (st.1,st.2.1,n) else x.naGo W d (x.look st l) (x.few W l st.2.2) (IntKind.i64.wrap (n+l.length)):=by cases d<;>rfl
 by_cases c1:l.length=0
 ·have hr:R=(st.1,st.2.1,n):=by
   rw [←g2,hgo]
   cases d with
   |zero=>rfl
   |succ d=>simp only;rw [if_pos c1]
  subst hr
  refine K_run hB 100 ?_
  simp [go_sem,hil,c1,g4,g5,Node.cs]
  rfl
 cases d with
 |zero=>exact absurd (by rw [g1.empty];rfl) c1
 |succ d=>
  simp only at hgo
  rw [if_neg c1] at hgo
  have c4:0<l.length:=by omega
  rw [hgo] at g2
  have hx:=rexpand_pure x l st.2.2 hl (by omega) (fun m h=>⟨g1.ok m h,by have:=g1.path m h;omega⟩) (fun m h=>by have:=g1.path m h;omega)
  have q1:=next_len x l st.2.2
  have q2:∀m∈x.next l st.2.2,m.Fine:=by
   intro m hm
   obtain ⟨k,h,j,_,rfl,_⟩:=next_mem hm
   refine ⟨move_ok x j (g1.ok k h),?_⟩
   have:=g1.path k h
   show (k.path++[j]).length<2^31
   rw [List.length_append]
   simp only [List.length_cons,List.length_nil]
   omega
  have hf:=rsorted_pure x (x.next l st.2.2) hl (by omega) fun m h=>(q2 m h).ok
  have hlv:=g1.few W st.2.2
  have hfl:=few_len x W l st.2.2
  rw [Inst.few] at hlv hfl g2
  have hsl:=x.sortN_len (x.next l st.2.2)
  have hlk:x.look st l=if (x.bests l).2=true∧(x.bests l).1.cost<st.2.2 then ((x.bests l).1,true,(x.bests l).1.cost) else st:=rfl
  generalize x.look st l=st' at *
  generalize x.next l st.2.2=M at *
  generalize x.sortN M=S at *
  generalize x.bests l=Rb at *
  obtain ⟨b,is⟩:=Rb
  simp only at hlk
  have hSl:(nodesT S).length=S.length:=List.length_map _
  have hS1:=nodesT_len S
  have hSt:(nodesT S).take W=nodesT (S.take W):=by rw [nodesT,nodesT,List.map_take]
  refine K_run hB 100 ?_
  simp [go_sem,hil,c4,g3,Inst.cs]
  refine K_call rfl rfl rfl (args:=[x.a,.t (.sl (nodesT l)),.i st.2.2]) (f:=185) (by simp [go_sem,Inst.a]) (by simp [go_sem,hB]) ((hx).spec _ _) ?_
  have m0:¬0=nx:=by omega
  have m2:¬2=nx:=by omega
  have m3:¬3=nx:=by omega
  have m4:¬nx=3:=by omega
  cases is with
  |false=>
   rw [if_neg (by simp)] at hlk
   subst hlk
   refine K_run hB 100 ?_
   simp [go_sem,expRes,Node.a,Node.cs,g3,m0,Inst.cs]
   refine K_call rfl rfl rfl (args:=[x.a,.t (.sl (nodesT M))]) (f:=186) (by simp [go_sem,Inst.a]) (by simp [go_sem,hB]) ((hf).spec _ _) ?_
   refine K_run hB 100 ?_
   simp [go_sem,hSl]
   refine fork_dec (fun hk=>?_) (fun hk=>?_)
   ·have hk':(W:Int)≤S.length:=by omega
    simp [go_sem,hSl,if_pos hS1,hSt,hk',show W≤S.length by omega]
    refine Next.mk (d,st',S.take W,IntKind.i64.wrap (n+l.length),_,nx+1) ?_ (Imp.slots (by simp [go_sem]) rfl rfl) (by simp only;omega)
    exact ⟨hlv,g2,by simp only;omega,by simp [oput,g3,m0,Inst.cs],by simp [oput,g4,m2,Node.cs],by simp [oput,g5,m3,Node.cs],by simp only;omega⟩
   ·have hk':S.take W=S:=List.take_of_length_le (by omega)
    rw [hk'] at hlv hfl g2
    simp [go_sem]
    refine Next.mk (d,st',S,IntKind.i64.wrap (n+l.length),_,nx+1) ?_ (Imp.slots (by simp [go_sem]) rfl rfl) (by simp only;omega)
    exact ⟨hlv,g2,by simp only;omega,by simp [oput,g3,m0,Inst.cs],by simp [oput,g4,m2,Node.cs],by simp [oput,g5,m3,Node.cs],by simp only;omega⟩
  |true=>
   by_cases c5:b.cost<st.2.2
   ·rw [if_pos ⟨rfl,c5⟩] at hlk
    subst hlk
    refine K_run hB 100 ?_
    simp [go_sem,expRes,Node.a,Node.cs,c5,m3,m4,m0,g3,g5,Inst.cs]
    refine K_call rfl rfl rfl (args:=[x.a,.t (.sl (nodesT M))]) (f:=186) (by simp [go_sem,Inst.a]) (by simp [go_sem,hB]) ((hf).spec _ _) ?_
    refine K_run hB 100 ?_
    simp [go_sem,hSl]
    refine fork_dec (fun hk=>?_) (fun hk=>?_)
    ·have hk':(W:Int)≤S.length:=by omega
     simp [go_sem,hSl,if_pos hS1,hSt,hk',show W≤S.length by omega]
     refine Next.mk (d,(b,true,b.cost),S.take W,IntKind.i64.wrap (n+l.length),_,nx+1) ?_ (Imp.slots (by simp [go_sem]) rfl rfl) (by simp only;omega)
     exact ⟨hlv,g2,by simp only;omega,by simp [oput,g3,m0,Inst.cs],by simp [oput,g4,m2,Node.cs],by simp [oput,g5,m3,Node.cs],by simp only;omega⟩
    ·have hk':S.take W=S:=List.take_of_length_le (by omega)
     rw [hk'] at hlv hfl g2
     simp [go_sem]
     refine Next.mk (d,(b,true,b.cost),S,IntKind.i64.wrap (n+l.length),_,nx+1) ?_ (Imp.slots (by simp [go_sem]) rfl rfl) (by simp only;omega)
     exact ⟨hlv,g2,by simp only;omega,by simp [oput,g3,m0,Inst.cs],by simp [oput,g4,m2,Node.cs],by simp [oput,g5,m3,Node.cs],by simp only;omega⟩
   ·rw [if_neg (fun h=>c5 h.2)] at hlk
    subst hlk
    refine K_run hB 100 ?_
    simp [go_sem,expRes,Node.a,Node.cs,c5,g3,m0,Inst.cs]
    refine K_call rfl rfl rfl (args:=[x.a,.t (.sl (nodesT M))]) (f:=186) (by simp [go_sem,Inst.a]) (by simp [go_sem,hB]) ((hf).spec _ _) ?_
    refine K_run hB 100 ?_
    simp [go_sem,hSl]
    refine fork_dec (fun hk=>?_) (fun hk=>?_)
    ·have hk':(W:Int)≤S.length:=by omega
     simp [go_sem,hSl,if_pos hS1,hSt,hk',show W≤S.length by omega]
     refine Next.mk (d,st',S.take W,IntKind.i64.wrap (n+l.length),_,nx+1) ?_ (Imp.slots (by simp [go_sem]) rfl rfl) (by simp only;omega)
     exact ⟨hlv,g2,by simp only;omega,by simp [oput,g3,m0,Inst.cs],by simp [oput,g4,m2,Node.cs],by simp [oput,g5,m3,Node.cs],by simp only;omega⟩
    ·have hk':S.take W=S:=List.take_of_length_le (by omega)
     rw [hk'] at hlv hfl g2
     simp [go_sem]
     refine Next.mk (d,st',S,IntKind.i64.wrap (n+l.length),_,nx+1) ?_ (Imp.slots (by simp [go_sem]) rfl rfl) (by simp only;omega)
     exact ⟨hlv,g2,by simp only;omega,by simp [oput,g3,m0,Inst.cs],by simp [oput,g4,m2,Node.cs],by simp [oput,g5,m3,Node.cs],by simp only;omega⟩
end Go.Proofs.YtackfabapangdaaGreat

set_option maxRecDepth 4000
set_option maxHeartbeats 4000000
namespace Go.Proofs.YtackfabapangdaaGreat
open Go Go.Proofs.YtackfabapangdaaGreat.R
structure RPre (x:Inst) (w:Int) (n:Node):Prop where
 pre:LookPre x w n
 nar:∀up,(x.narrow n w up).2.1=true→Splits (x.narrow n w up).1
 exa:∀up,(x.exact n up (x.mostN w)).2.1=true→Splits (x.exact n up (x.mostN w)).1
 bst:∀up,∀l∈(x.build n w up).layers.take ((x.build n w up).sure-1),(x.bests l).2=true→Splits (x.bests l).1
theorem rmost_spec (x:Inst) (o:Opt) (k:Ids) (s:SS) (hx:x.stops.length<2^31) {σ:Nat→AObj} {nx:Nat} (hb:σ k.s= .box (s.cs x o 0 0 k)):
  CallSpec P 145 [.ptr k.s 0] σ nx (.i (x.mostN o.width)) σ nx:=by
 refine spec_keep Tryz.func145 rfl rfl (by simp [Tryz.f145]) (by simp [bnd]) fun hk B hB hnx hσB=>?_
 simp only [Tryz.f145] at hB ⊢
 rw [SS.cs] at hb
 have hsl:(x.stops.map Stop.t).length=x.stops.length:=List.length_map _
 refine K_run hB 100 ?_
 simp [go_sem]
 refine K_drawn [] rfl (by rw [hB];kernel_rfl) ?_
 by_cases c:(x.stops.length:Int)<o.width
 ·have e:(x.mostN o.width:Int)=o.width:=by unfold Inst.mostN;omega
  refine K_run hB 100 ?_
  simp [go_sem,hb,hsl,c,e]
 ·have e:(x.mostN o.width:Int)=x.stops.length:=by unfold Inst.mostN;omega
  refine K_run hB 100 ?_
  simp [go_sem,hb,hsl,c,e]
theorem rlook_spec (x:Inst) (o:Opt) (k:Ids) (s:SS) (n:Node) (hrp:RPre x o.width n) (hs:SPre s) {σ:Nat→AObj} {nx:Nat} (hb:DOk x o k s σ nx):
  CallQ P 84 [.ptr k.s 0,n.a] σ nx fun r σ' nx'=>r= .tup []∧∃k',DOk x o k' (x.lookS o.width s n) σ' nx'∧Runs k σ nx k' σ' nx':=by
 generalize hR:x.lookS o.width s n=R
 refine spec_of Tryz.func84 rfl rfl (by simp [Tryz.f84]) fun B hB hnx hσB=>?_
 simp only [Tryz.f84] at hB ⊢
 have hp:=hrp.pre
 have hlt:=hb.b.lt
 have b1:=hb.b.box
 rw [SS.cs] at b1
 have hn:=rnbest_pure x n o.width s.up hp.st hp.wi hp.ok (by have:=hp.path;omega)
 obtain ⟨p1,p2,p3⟩:=hp.nar s.up
 have p4:=hrp.nar s.up
 have hst:=hs.steps
 rw [Inst.lookS,SS.nar] at hR
 rw [naRes] at hn
 generalize (x.narrow n o.width s.up).2.2=v at *
 generalize (x.narrow n o.width s.up).2.1=bi at *
 generalize (x.narrow n o.width s.up).1=bn at *
 have ne1:¬k.s=nx:=by omega
 have ne2:¬k.s=nx+1:=by omega
 have ne3:¬nx=k.s:=by omega
 have ne4:¬nx+1=k.s:=by omega
 have w1:IntKind.i64.wrap (s.steps+v)=s.steps+v:=w64 _ (by omega)
 refine K_run hB 100 ?_
 simp [go_sem,Node.a,Node.cs,b1,ne1]
 refine K_drawnF [20,21] [0,1,2,3,4,5,6,7,8,9,10,11,12,13,14,15,16,17,18,19] rfl (by rw [hB];kernel_rfl) (by kernel_rfl) fun ht hf'=>?_
 refine K_run hB 100 ?_
 simp [go_sem,ht,hf',Inst.a,b1,ne1]
 refine K_dCallP rfl rfl rfl (args:=[x.a,n.a,.i o.width,.i s.up]) (f:=140) (by simp [go_sem,Inst.a,Node.a,Node.cs]) (hn) ?_
 have hs1:=fun (τ:Nat→AObj) (h1:τ k.s= .box ((s.plus v).cs x o 0 0 k)) (h2:∀i,i<nx→i≠k.s→τ i=σ i)=>hb.turn (t:=s.plus v) (nx':=nx+1+1) h1 rfl rfl rfl ⟨by omega,h2⟩
 have hpre:((s.plus v).offer (bn,bi)).subs=s.subs∧((s.plus v).offer (bn,bi)).q=s.q∧((s.plus v).offer (bn,bi)).log=s.log∧((s.plus v).offer (bn,bi)).steps=s.steps+v:=(offer_up (s.plus v) (bn,bi)).2
 obtain ⟨t,ht0⟩:∃t,t=(s.plus v).offer (bn,bi):=⟨_,rfl⟩
 rw [←ht0] at hR hpre
 obtain ⟨y1,y2,y3,y4⟩:=hpre
 have hst2:0≤s.steps+v:=by omega
 obtain rfl | rfl:bi=false∨bi=true:=by cases bi<;>simp
 case' inl=>
  have e0:t=s.plus v:=by rw [ht0];simp [SS.offer]
  refine K_run hB 100 ?_
  simp [go_sem,ht,hf',Inst.a,b1,ne1,ne2,ne3,ne4,w1,Node.a,Node.cs]
  refine K_impC (t:=⟨sl [(0,.ptr k.s 0),(3,.ptr nx 0)],_,nx+1+1⟩) (Imp.slots (by simp [go_sem]) rfl rfl) ?_
  generalize hσ2:oput _ _ _=σ2
  have c3:DOk x o k t σ2 (nx+1+1):=by rw [e0,←hσ2];exact hs1 _ (by simp [oput,SS.cs,SS.plus]) fun i h1 h2=>by simp [oput,h2,show ¬i=nx by omega,show ¬i=nx+1 by omega]
  have n2:σ2 nx= .box n.cs:=by rw [←hσ2];simp [oput,ne3,Node.cs]
  have r2:Runs k σ nx k σ2 (nx+1+1):=by rw [←hσ2];exact Only.runs ⟨by omega,fun i h1 h2=>by simp [oput,h2,show ¬i=nx by omega,show ¬i=nx+1 by omega]⟩
  obtain ⟨nx2,hnx2⟩:∃m,m=nx+1+1:=⟨_,rfl⟩
  have hle2:nx+1+1≤nx2:=by omega
  rw [←hnx2] at c3 r2 ⊢
  clear hσ2 hnx2 e0
 case' inr=>
  refine K_run hB 100 ?_
  simp [go_sem,ht,hf',Inst.a,b1,ne1,ne2,ne3,ne4,w1,Node.a,Node.cs]
  refine K_callQ rfl rfl rfl (args:=[.ptr k.s 0,bn.a]) (f:=141) (by simp [go_sem,Node.a,Node.cs]) (by simp [go_sem,hB]) (roffer_spec x o 0 0 k (s.plus v) bn (fun _=>p4 rfl) p3 (nx:=nx+1+1) (hs1 _ (by simp [oput,SS.cs,SS.plus]) fun i h1 h2=>by simp [oput,h2,show ¬i=nx by omega,show ¬i=nx+1 by omega]).b) fun r σ2 nx2 hq=>?_
  obtain ⟨rfl,c1,c2⟩:=hq
  rw [←ht0] at c1
  have c3:=(hs1 _ (by simp [oput,SS.cs,SS.plus]) fun i h1 h2=>by simp only [oput];rw [if_neg h2,if_neg (show ¬i=nx+1 by omega),if_neg (show ¬i=nx+1 by omega),if_neg (show ¬i=nx by omega)]).only c1 (y2.trans rfl) c2
  have hle2:nx+1+1≤nx2:=c2.1
  have n2:σ2 nx= .box n.cs:=by rw [c2.2 nx (by omega) ne3];simp [oput,ne3,Node.cs]
  have r2:Runs k σ nx k σ2 nx2:=Only.runs ⟨by omega,fun i h1 h2=>by rw [c2.2 i (by omega) h2];simp [oput,h2,show ¬i=nx by omega,show ¬i=nx+1 by omega]⟩
  refine K_run hB 100 ?_
  simp [go_sem]
  refine K_impC (t:=⟨sl [(0,.ptr k.s 0),(3,.ptr nx 0)],σ2,nx2⟩) (Imp.slots (by simp [go_sem]) rfl rfl) ?_
  clear c1 c2
 all_goals
  have hsu:=hs.subs
  have hsq:=hs.q
  have hsl:=hs.log
  obtain ⟨l1,l2⟩:=hp.lay t.up
  have hbld:=rbuild_pure x n o.width t.up hp.st hp.wi hp.ok (by have:=hp.path;omega)
  have hdok:=build_ok x n o.width t.up
  have hds:=hdok.pos
  have hds2:=hdok.le
  have hbst:=hrp.bst t.up
  rw [Inst.lookD] at hR
  generalize hD:x.build n o.width t.up=D at *
  have hlen:(lysT D.layers).length=D.layers.length:=List.length_map _
  have hlt2:=c3.b.lt
  have c4:=c3.b.box
  rw [SS.cs] at c4
  rw [Node.cs] at n2
  have m1:¬k.s=nx2:=by omega
  have m2:¬nx=nx2:=by omega
  have m3:¬nx2=k.s:=by omega
  refine K_drawnF [16,17] [0,1,2,3,4,5,6,7,8,9,10,11,12,13,14,15] rfl (by rw [hB];kernel_rfl) (by kernel_rfl) fun ht hf'=>?_
  refine K_run hB 100 ?_
  simp [go_sem,ht,hf',Inst.a,c4,n2,m1,m2]
  refine K_dCallP rfl rfl rfl (args:=[x.a,n.a,.i o.width,.i t.up]) (f:=142) (by simp [go_sem,Inst.a,Node.a,Node.cs]) (hbld) ?_
  refine K_run hB 100 ?_
  simp [go_sem,ht,hf',Diag.a,Diag.cs,c4,n2,m1,m2,hlen]
  refine K_loopP (α:=Nat×(Nat→AObj)) (fun (j,τ)=>j≤D.layers.length∧τ k.s= .box (SS.cs x o 0 0 k {t with steps:=t.steps+sizes (D.layers.take j)})∧τ nx= .box n.cs∧τ nx2= .box D.cs∧∀i,i<nx2→i≠k.s→τ i=σ2 i)
   (fun (j,τ)=>⟨sl [(0,.ptr k.s 0),(3,.ptr nx 0),(7,.ptr nx2 0),(8,.i j)],τ,nx2+1⟩) (fun a=>D.layers.length-a.1) (0,_)
   ⟨Nat.zero_le _,?_,?_,?_,?_⟩ (Imp.slots (by simp [go_sem]) rfl rfl) ?_
  ·simp [oput,c4,m1,SS.cs,sizes]
  ·simp [oput,n2,m2,Node.cs]
  ·simp [oput,Diag.cs]
  ·exact fun i h1 h2=>by simp [oput,show ¬i=nx2 by omega]
  rintro ⟨j,τ⟩ ⟨g1,g2,g3,g4,g6⟩
  rw [SS.cs] at g2
  rw [Diag.cs] at g4
  simp only at g2
  by_cases hj:j<D.layers.length
  ·have hgj:∀h,(lysT D.layers)[j]'h=[.sl (nodesT D.layers[j])]:=fun h=>lysT_get D.layers hj h
   have hsz:=sizes_take D.layers hj
   have hmo:=sizes_mono D.layers (j+1)
   have hnl:(nodesT D.layers[j]).length=D.layers[j].length:=List.length_map _
   have wj:IntKind.i64.wrap ((j:Int)+1)=((j+1:Nat):Int):=by have:=l1.len;rw [w64 _ (by omega)];omega
   have ws:IntKind.i64.wrap (t.steps+(sizes (D.layers.take j):Int)+(D.layers[j].length:Int))=t.steps+(sizes (D.layers.take (j+1)):Int):=by rw [w64 _ (by omega)];omega
   generalize D.layers[j]=L at *
   generalize sizes (D.layers.take j)=A at *
   generalize hA':sizes (D.layers.take (j+1))=A' at *
   refine K_run hB 60 ?_
   simp [go_sem,g4,hlen,hj]
   refine K_drawnT [16] rfl (by rw [hB];kernel_rfl) (by kernel_rfl) fun ht=>?_
   refine K_run hB 100 ?_
   simp [go_sem,ht,g2,g4,hlen,hj,hgj,hnl,ws,wj]
   refine Next.mk (j+1,_) ⟨by omega,?_,?_,?_,?_⟩ (Imp.slots (by simp [go_sem]) rfl rfl) (by simp only;omega)
   ·simp [oput,SS.cs,hA']
   ·simp [oput,g3,ne3]
   ·simp [oput,g4,m3,Diag.cs]
   ·exact fun i h1 h2=>by simp [oput,h2,g6 i h1 h2]
  have:j=D.layers.length:=by omega
  subst this
  rw [List.take_length] at g2
  refine K_run hB 60 ?_
  simp [go_sem,g4,hlen]
  obtain ⟨A,hA⟩:∃A,A=sizes D.layers:=⟨_,rfl⟩
  rw [←hA] at g2
  have b2:=c3.b.subs
  have b3:=c3.b.log
  have b4:=c3.b.sh
  have b5:=c3.b.qs
  have b6:=c3.b.hs
  have q1:=c3.h
  have q2:=c3.q
  have hcap:t.log.length+1≤mostLen:=by show _≤4294967296;rw [y3];omega
  have hll:(logT t.log).length=t.log.length:=List.length_map _
  have hl14:=logT_len t.log
  have hlk:k.lg≠k.s:=fun e=>by rw [e,c4] at b3;cases b3
  have f1:=(g6 k.lg (by omega) hlk).trans b3
  have u1:¬k.s=k.lg:=fun e=>hlk e.symm
  have u2:¬k.s=nx2+1:=by omega
  have u3:¬nx2+1=k.s:=by omega
  have u4:¬k.lg=nx:=by omega
  have u5:¬nx=k.lg:=by omega
  have u6:¬nx2=k.lg:=by omega
  have u7:¬nx=nx2+1:=by omega
  have e1:=g3
  rw [Node.cs] at e1
  refine K_drawnF [10,14] [0] rfl (by rw [hB];kernel_rfl) (by kernel_rfl) fun ht hf'=>?_
  refine K_run hB 100 ?_
  simp [go_sem,ht,hf',g2,f1,e1,g4,ne3,m1,m2,m3,u1,u2,u3,u4,u5,u6,u7,hcap,hll,hl14]
  refine K_impC (t:=⟨sl [(0,.ptr k.s 0),(3,.ptr nx 0),(7,.ptr nx2 0)],_,nx2+1+1⟩) (Imp.slots (by simp [go_sem]) rfl rfl) ?_
  generalize hσ3:oput _ _ _=σ3
  have hg:∀i,i<nx2→i≠k.s→i≠k.lg→σ3 i=σ2 i:=fun i h1 h2 h3=>by rw [←hσ3,←g6 i h1 h2];simp [oput,h2,h3,show ¬i=nx2+1 by omega]
  have hls:k.sb≠k.lg:=fun e=>by rw [e,b3] at b2;cases b2
  have hls2:k.sb≠k.s:=fun e=>by rw [e,c4] at b2;cases b2
  have b7:σ3 k.s= .box ((t.dia n D).cs x o 0 0 {k with lg:=nx2+1}):=by rw [←hσ3];simp [oput,SS.cs,SS.dia,hA]
  have n3:σ3 nx= .box n.cs:=by rw [hg nx (by omega) ne3 u5,n2,Node.cs]
  have D3:σ3 nx2= .box D.cs:=by rw [←hσ3];simp [oput,m3,u6,g4,Diag.cs]
  have d1:DOk x o {k with lg:=nx2+1} (t.dia n D) σ3 (nx2+1+1):=by
   refine ⟨⟨b7,?_,?_,b4,?_,?_,?_⟩,?_,?_⟩
   ·exact (hg k.sb (by omega) hls2 hls).trans b2
   ·rw [←hσ3];simp [oput,SS.dia,logT,Done.t,Node.t,u3]
   ·simp only;omega
   ·simp only;omega
   ·simp only;omega
   ·exact (hg k.h (by omega) (by omega) (by omega)).trans q1
   ·exact (hg k.q (by omega) (by omega) (by omega)).trans q2
  have d2:Runs k σ2 nx2 {k with lg:=nx2+1} σ3 (nx2+1+1):=⟨by omega,rfl,rfl,.inl rfl,.inl rfl,.inr (by simp only;omega),fun i h1 h2 h3 h4 h5 h6=>hg i h1 h2 h6⟩
  clear hσ3 hg g6 e1 f1 g2 g3 g4
  obtain ⟨k3,hk3⟩:∃k',k'={k with lg:=nx2+1}:=⟨_,rfl⟩
  have z1:k3.s=k.s:=by rw [hk3]
  rw [←hk3] at d1 d2 b7
  have r3:=r2.trans d2
  have hle3:nx2+1+1≤nx2+1+1:=Nat.le_refl _
  clear hk3
  obtain ⟨nx3,hnx3⟩:∃m,m=nx2+1+1:=⟨_,rfl⟩
  rw [←hnx3] at d1 d2 r3 ⊢
  have hup:(t.dia n D).up=t.up:=rfl
  have hts:(t.dia n D).steps=t.steps+sizes D.layers:=rfl
  have htu:(t.dia n D).subs=t.subs∧(t.dia n D).q=t.q:=⟨rfl,rfl⟩
  rw [SS.cs,hup,hts] at b7
  rw [Node.cs] at n3
  rw [Diag.cs] at D3
  refine K_drawn [] rfl (by rw [hB];kernel_rfl) ?_
  by_cases ca:t.up≤D.low
  ·rw [if_pos ca] at hR
   subst hR
   refine K_run hB 100 ?_
   simp [go_sem,b7,D3,ca]
   exact ⟨by omega,k3,d1,r3⟩
  rw [if_neg ca] at hR
  have hm3:¬k.s=nx3:=by omega
  have hm4:¬nx3=k.s:=by omega
  have hm5:¬nx=nx3:=by omega
  by_cases cb:D.exact=true
  ·rw [if_pos cb] at hR
   have he:=rbest_pure x n t.up (x.mostN o.width) hp.st (by have:=hp.most;omega) hp.ok (by have:=hp.path;omega)
   obtain ⟨v1,v2,v3⟩:=hp.exa t.up
   have v4:=hrp.exa t.up
   have hmo:=rmost_spec x o k3 (t.dia n D) hp.st (σ:=σ3) (nx:=nx3) d1.b.box
   have hmo2:=rmost_spec x o k3 (t.dia n D) hp.st (σ:=oput σ3 nx3 (.box [.i 0,.i 0,.i 0,.i 0,.i 0,.u 0,.u 0,.u 0,.i 0,.fsl []])) (nx:=nx3+1) (by rw [←d1.b.box];simp [oput,z1,hm3])
   rw [SS.exa,hup] at hR
   rw [exRes4] at he
   generalize (x.exact n t.up (x.mostN o.width)).2.2.2=ve at *
   generalize (x.exact n t.up (x.mostN o.width)).2.2.1=vw at *
   generalize (x.exact n t.up (x.mostN o.width)).2.1=ei at *
   generalize (x.exact n t.up (x.mostN o.width)).1=en at *
   have w2:IntKind.i64.wrap (t.steps+(sizes D.layers:Int)+ve)=t.steps+(sizes D.layers:Int)+ve:=w64 _ (by omega)
   refine K_run hB 100 ?_
   simp [go_sem,b7,D3,ca,cb]
   refine K_drawnF [18,19] [0,1,2,3,4,5,6,7,8,9,10,11,12,13,14,15,16,17] rfl (by rw [hB];kernel_rfl) (by kernel_rfl) fun ht hf'=>?_
   refine K_run hB 100 ?_
   simp [go_sem,ht,hf',Inst.a,b7,n3]
   refine K_dLookF (v:=.i (x.mostN o.width)) (fun ho=>does_call ho (by simp [go_sem]) rfl rfl (f:=145) (args:=[.ptr k.s 0]) (by simp [go_sem]) (z1 ▸ hmo)) (by simp) ?_
   refine K_dCallP rfl rfl rfl (args:=[x.a,n.a,.i t.up,.i (x.mostN o.width)]) (f:=144) (by simp [go_sem,Inst.a,Node.a,Node.cs]) (he) ?_
   refine K_run hB 5 ?_
   simp [go_sem,Node.a,Node.cs]
   refine K_dTold (v:=.ptr nx3 0) (σ':=oput σ3 nx3 (.box [.i 0,.i 0,.i 0,.i 0,.i 0,.u 0,.u 0,.u 0,.i 0,.fsl []])) (nx':=nx3+1) (fun ho=>does_store (e:=.new (.box [.i 0,.i 0,.i 0,.i 0,.i 0,.u 0,.u 0,.u 0,.i 0,.fsl []])) ho (by simp [go_sem]) (by simp [go_sem])) (by simp) (fun q hq=>?_) ?_
   ·rcases List.mem_cons.1 hq with rfl | hq
    ·exact .inr (does_call rfl (by simp [go_sem]) rfl rfl (f:=145) (args:=[.ptr k.s 0]) (by simp [go_sem]) (z1 ▸ hmo2))
    ·exact okPends_does (by simp [go_sem,b7,n3,hm3,hm5]) q hq
   have hs4:=fun (τ:Nat→AObj) (h1:τ k.s= .box (((t.dia n D).plus ve).cs x o 0 0 k3)) (h2:∀i,i<nx3→i≠k.s→τ i=σ3 i)=>d1.turn (t:=(t.dia n D).plus ve) (τ:=τ) (nx':=nx3+1) (by rw [z1];exact h1) rfl rfl rfl ⟨by omega,by rw [z1];exact h2⟩
   have ro:∀(τ:Nat→AObj),(∀i,i<nx3→i≠k.s→τ i=σ3 i)→Runs k3 σ3 nx3 k3 τ (nx3+1):=fun τ h=>Only.runs ⟨by omega,by rw [z1];exact h⟩
   obtain rfl | rfl:ei=false∨ei=true:=by cases ei<;>simp
   ·have e0:R=(t.dia n D).plus ve:=by rw [←hR];simp [SS.offer]
    refine K_run hB 100 ?_
    simp [go_sem,ht,hf',b7,n3,hm3,hm4,hm5,w2,Node.a,Node.cs]
    have hsame:∀(y z u:AObj) (i:Nat),i<nx3→i≠k.s→oput (oput (oput σ3 nx3 y) nx3 z) k.s u i=σ3 i:=fun y z u i h1 h2=>by simp [oput,h2,show ¬i=nx3 by omega]
    rw [e0]
    refine ⟨by kernel_rfl,?_⟩
    exact ⟨by omega,k3,hs4 _ (by simp [oput,SS.cs,SS.plus,hup,hts]) (hsame _ _ _),r3.trans (ro _ (hsame _ _ _))⟩
   ·refine K_run hB 100 ?_
    simp [go_sem,ht,hf',b7,n3,hm3,hm4,hm5,w2,Node.a,Node.cs]
    refine ⟨by kernel_rfl,?_⟩
    refine K_callQ rfl rfl rfl (args:=[.ptr k.s 0,en.a]) (f:=141) (by simp [go_sem,Node.a,Node.cs]) (by simp [go_sem,hB]) (z1 ▸ roffer_spec x o 0 0 k3 ((t.dia n D).plus ve) en (fun _=>v4 rfl) v3 (nx:=nx3+1) (hs4 _ (by simp [oput,SS.cs,SS.plus,hup,hts]) fun i h1 h2=>by simp [oput,h2,show ¬i=nx3 by omega]).b) fun r σ4 nx4 hq=>?_
    obtain ⟨rfl,f1,f2⟩:=hq
    have f6:=fun (τ:Nat→AObj) (hτ:Only k.s τ (nx3+1) σ4 nx4) h1 h2=>(hs4 τ h1 h2).only f1 (offer_up ((t.dia n D).plus ve) (en,true)).2.2.1 (by rw [z1];exact hτ)
    have f3:=f6 _ f2 (by simp [oput,SS.cs,SS.plus,hup,hts]) fun i h1 h2=>by simp only [oput];rw [if_neg h2,if_neg (show ¬i=nx3 by omega),if_neg (show ¬i=nx3 by omega)]
    have f4:nx3+1≤nx4:=f2.1
    have f5:Runs k3 σ3 nx3 k3 σ4 nx4:=Only.runs ⟨by omega,fun i h1 h2=>by rw [z1] at h2;rw [f2.2 i (by omega) h2];simp [oput,h2,show ¬i=nx3 by omega]⟩
    rw [hR] at f3
    refine K_run hB 100 ?_
    simp [go_sem]
    exact ⟨by omega,k3,f3,r3.trans f5⟩
  ·rw [if_neg cb] at hR
   have hcb:D.exact=false:=by simpa using cb
   refine K_run hB 100 ?_
   simp [go_sem,b7,D3,ca,hcb]
   refine K_callQ rfl rfl rfl (args:=[.ptr k.s 0,D.a]) (f:=143) (by simp [go_sem,Diag.a,Diag.cs,hcb]) (by simp [go_sem,hB]) (z1 ▸ rbranch_spec x o k3 (t.dia n D) D hp.st l1 (by omega) (by omega) hbst (by rw [htu.1,y1];omega) (by rw [htu.2,y2];omega) d1) fun r σ4 nx4 hq=>?_
   obtain ⟨rfl,k4,f1,f2⟩:=hq
   have f3:=r3.trans f2
   rw [hR] at f1
   refine K_run hB 100 ?_
   simp [go_sem]
   exact ⟨f3.le,k4,f1,f3⟩
end Go.Proofs.YtackfabapangdaaGreat

set_option maxRecDepth 4000
set_option maxHeartbeats 4000000
namespace Go.Proofs.YtackfabapangdaaGreat
open Go Go.Proofs.YtackfabapangdaaGreat.R
theorem romay_pure (o:Opt):Pure P 79 [o.a] (.b o.mayB):=by
 generalize hR:o.mayB=R
 refine pure_of Tryz.func79 rfl rfl (by simp [Tryz.f79]) (by simp [bnd,bnd.bndL,Opt.a,Opt.cs]) (by simp [bnd,bnd.bndL]) fun B hB hnx=>?_
 simp only [Tryz.f79] at hB ⊢
 rw [Opt.mayB] at hR
 by_cases c1:1≤o.width
 rotate_left
 ·have:R=false:=by rw [←hR];exact decide_eq_false (by omega)
  refine K_run hB 100 ?_
  simp [go_sem,Opt.a,Opt.cs,c1,this]
 by_cases c2:o.width≤1048576
 rotate_left
 ·have:R=false:=by rw [←hR];exact decide_eq_false (by omega)
  refine K_run hB 100 ?_
  simp [go_sem,Opt.a,Opt.cs,c1,c2,this]
 by_cases c3:0≤o.order
 rotate_left
 ·have:R=false:=by rw [←hR];exact decide_eq_false (by omega)
  refine K_run hB 100 ?_
  simp [go_sem,Opt.a,Opt.cs,c1,c2,c3,this]
 by_cases c4:o.order≤2
 rotate_left
 ·have:R=false:=by rw [←hR];exact decide_eq_false (by omega)
  refine K_run hB 100 ?_
  simp [go_sem,Opt.a,Opt.cs,c1,c2,c3,c4,this]
 by_cases c5:0≤o.budget
 rotate_left
 ·have:R=false:=by rw [←hR];exact decide_eq_false (by omega)
  refine K_run hB 100 ?_
  simp [go_sem,Opt.a,Opt.cs,c1,c2,c3,c4,c5,this]
 by_cases c6:o.budget≤549755813888
 rotate_left
 ·have:R=false:=by rw [←hR];exact decide_eq_false (by omega)
  refine K_run hB 100 ?_
  simp [go_sem,Opt.a,Opt.cs,c1,c2,c3,c4,c5,c6,this]
 have:R=true:=by rw [←hR];exact decide_eq_true (by omega)
 refine K_run hB 100 ?_
 simp [go_sem,Opt.a,Opt.cs,c1,c2,c3,c4,c5,c6,this]
theorem rsleast_spec (x:Inst) (o:Opt) (k:Ids) (s:SS) (b:Int) (hq:s.q.length<2^30) {σ:Nat→AObj} {nx:Nat} (hs:σ k.s= .box (s.cs x o 4 0 k)) (hlt:k.h<nx∧k.q<nx) (hh:σ k.h= .box [.i o.order,.ref k.q]) (hσq:σ k.q= .arr 3 (entsT s.q)):
  CallSpec P 83 [.ptr k.s 0,.i b] σ nx (.i (min s.up (min b (leastQ s.q)))) σ nx:=by
 generalize hR:min s.up (min b (leastQ s.q))=R
 have hl:=rleast_spec o.order s.q hq (nx:=nx) hlt.1 hh hlt.2 hσq
 refine spec_keep Tryz.func83 rfl rfl (by simp [Tryz.f83]) (by simp [bnd]) fun hk B hB hnx hσB=>?_
 simp only [Tryz.f83] at hB ⊢
 rw [SS.cs] at hs
 refine K_run hB 100 ?_
 simp [go_sem,hs]
 refine K_call rfl rfl rfl (args:=[.ptr k.h 0]) (f:=139) (by simp [go_sem]) (by simp [go_sem,hB]) hl ?_
 generalize leastQ s.q=v at *
 by_cases c1:b<v
 ·by_cases c2:s.up<b
  ·have:R=s.up:=by omega
   refine K_run hB 100 ?_
   simp [go_sem,hs,c1,c2,this]
  ·have:R=b:=by omega
   refine K_run hB 100 ?_
   simp [go_sem,hs,c1,c2,this]
 ·by_cases c2:s.up<v
  ·have:R=s.up:=by omega
   refine K_run hB 100 ?_
   simp [go_sem,hs,c1,c2,this]
  ·have:R=v:=by omega
   refine K_run hB 100 ?_
   simp [go_sem,hs,c1,c2,this]
theorem Splits.of_way {x:Inst} (hm:x.may=true) {n:Node} {d:Int} (h:x.way n.path x.rootS d):Splits n:=by
 obtain ⟨t1,_⟩:=tour_plain hm h
 by_cases c:n.path=[]
 ·exact ⟨_,rfl,.inl ⟨c,by rw [c];rfl⟩⟩
 ·obtain ⟨g1,g2,g3⟩:=split_good c t1
  exact ⟨_,rfl,.inr ⟨g1,g3,g2⟩⟩
theorem rlook_pre {x:Inst} {p:Nat} (hx:x.Fit p) (hm:x.may=true) (hp:p≤3) {n:Node} (ht:Track x n) {w:Int} (hw:w≤40):RPre x w n:=by
 refine ⟨look_pre hx hm hp ht hw,fun up h=>.of_way hm (narrow_isWay ht w up h),fun up h=>.of_way hm (exact_isWay ht _ up h),fun up l hl hb=>?_⟩
 have hok:=build_ok x n w up
 generalize x.build n w up=d at *
 obtain ⟨i,hi,e⟩:=List.getElem_of_mem hl
 rw [List.length_take] at hi
 have hpos:=hok.pos
 obtain ⟨hl2,e2⟩:=sure_get hok (i:=i) (by omega)
 rw [List.getElem_take,e2] at e
 refine .of_way hm (bests_isWay (fun m hmm=>?_) hb)
 rw [←e] at hmm
 exact (layN_track ht up i m hmm).1
end Go.Proofs.YtackfabapangdaaGreat

set_option maxRecDepth 4000
set_option maxHeartbeats 4000000
namespace Go.Proofs.YtackfabapangdaaGreat
open Go Go.Proofs.YtackfabapangdaaGreat.R
def norm (k:Ids) (τ:Nat→AObj) (j:Nat):AObj:=if j=0∨j=1∨j=2∨j=k.s∨j=k.h∨j=k.q∨j=k.sb∨j=k.lg then τ j else .dead
theorem norm_or (k:Ids) (τ:Nat→AObj) (j:Nat):norm k τ j= .dead∨norm k τ j=τ j:=by
 unfold norm
 split
 ·exact .inr rfl
 ·exact .inl rfl
theorem norm_at (k:Ids) (τ:Nat→AObj) {j:Nat} (h:j=0∨j=1∨j=2∨j=k.s∨j=k.h∨j=k.q∨j=k.sb∨j=k.lg):norm k τ j=τ j:=if_pos h
theorem DOk.norm {x:Inst} {o:Opt} {k:Ids} {s:SS} {τ:Nat→AObj} {m:Nat} (h:DOk x o k s τ m):DOk x o k s (norm k τ) m:=by
 obtain ⟨⟨b1,b2,b3,b4,b5,b6,b7⟩,q1,q2⟩:=h
 refine ⟨⟨?_,?_,?_,b4,b5,b6,b7⟩,?_,?_⟩
 all_goals rw [norm_at _ _ (by simp)];assumption
structure RD (x:Inst) (o:Opt) (p:Nat) (R:SRes) (f:Nat) (s:SS) (k:Ids) (τ:Nat→AObj) (m:Nat):Prop where
 run:x.runGo o f s=some R
 go:Going x p s
 ok:DOk x o k s τ m
 ids:k.s=4∧3≤k.h∧3≤k.q∧3≤k.sb∧3≤k.lg
 b0:τ 0= .box [.i x.pairs,.i x.cars,.i x.room,.t (.sl (x.stops.map Stop.t))]
 b1:τ 1= .box [.i o.width,.i o.order,.i o.budget]
 b2:τ 2= .box [.i 0,.fsl [],.i 0,.i 0,.i 0,.fsl []]
 al:Alone τ k.h k.q (entsT s.q)
theorem RD.make {x:Inst} {o:Opt} {p:Nat} {R:SRes} {f:Nat} {s:SS} {k:Ids} {τ:Nat→AObj} {m:Nat} (h1:x.runGo o f s=some R) (h2:Going x p s) (h3:DOk x o k s τ m) (h4:k.s=4∧3≤k.h∧3≤k.q∧3≤k.sb∧3≤k.lg) (b0:τ 0= .box [.i x.pairs,.i x.cars,.i x.room,.t (.sl (x.stops.map Stop.t))]) (b1:τ 1= .box [.i o.width,.i o.order,.i o.budget]) (b2:τ 2= .box [.i 0,.fsl [],.i 0,.i 0,.i 0,.fsl []]):RD x o p R f s k (norm k τ) m:=by
 refine ⟨h1,h2,h3.norm,h4,by rw [norm_at _ _ (by simp),b0],by rw [norm_at _ _ (by simp),b1],by rw [norm_at _ _ (by simp),b2],fun j c1 c2=>?_⟩
 have e1:k.lg≠k.q:=h3.b.qs.2.2.2.symm
 have e2:k.sb≠k.q:=h3.b.qs.2.2.1.symm
 rcases norm_or k τ j with e | e
 ·rw [e];rfl
 rw [e]
 by_cases d:j=0∨j=1∨j=2∨j=k.s∨j=k.h∨j=k.q∨j=k.sb∨j=k.lg
 ·rcases d with rfl | rfl | rfl | rfl | d | d | rfl | rfl
  ·rw [b0];rfl
  ·rw [b1];rfl
  ·rw [b2];rfl
  ·rw [h3.b.box,SS.cs];simp [frzO,frz1,frz1.frzL,e1,e2]
  ·exact (c1 d).elim
  ·exact (c2 d).elim
  ·rw [h3.b.subs];rfl
  ·rw [h3.b.log];rfl
 ·have:Go.Proofs.YtackfabapangdaaGreat.norm k τ j= .dead:=if_neg d
  rw [←e,this];rfl
theorem RD.next {x:Inst} {o:Opt} {p:Nat} {R:SRes} {f g:Nat} {s t:SS} {k k':Ids} {τ τ':Nat→AObj} {m m':Nat} (h:RD x o p R f s k τ m) (h1:x.runGo o g t=some R) (h2:Going x p t) (h3:DOk x o k' t τ' m') (h4:Runs k τ m k' τ' m'):RD x o p R g t k' (norm k' τ') m':=by
 have:=h.ids
 have:=h.ok.b.lt
 have h5:=h4.s
 have h6:=h4.h
 have:=h4.q
 have:=h4.sb
 have:=h4.lg
 refine .make h1 h2 h3 (by omega) ?_ ?_ ?_
 ·rw [h4.keep 0 (by omega) (by omega) (by omega) (by omega) (by omega) (by omega)];exact h.b0
 ·rw [h4.keep 1 (by omega) (by omega) (by omega) (by omega) (by omega) (by omega)];exact h.b1
 ·rw [h4.keep 2 (by omega) (by omega) (by omega) (by omega) (by omega) (by omega)];exact h.b2
theorem rsrun_pure (x:Inst) (o:Opt) (hl:x.stops.length≤7) (hw:o.width≤40):Pure P 32 [x.a,o.a] ((x.search o).a):=by
 generalize hR:x.search o=R
 refine pure_of Tryz.func32 rfl rfl (by simp [Tryz.f32]) (by simp [bnd,bnd.bndL,Inst.a,Opt.a,Opt.cs]) (by simp [bnd,bnd.bndL,SRes.a]) fun B hB hnx=>?_
 simp only [Tryz.f32] at hB ⊢
 have hmy:=rmay_pure x (by omega)
 have hom:=romay_pure o
 refine K_run hB 100 ?_
 simp [go_sem,Inst.a,Opt.a,Opt.cs]
 refine K_call rfl rfl rfl (args:=[x.a]) (f:=78) (by simp [go_sem,Inst.a]) (by simp [go_sem,hB]) ((hmy).spec _ _) ?_
 refine K_run hB 100 ?_
 simp [go_sem]
 refine K_call rfl rfl rfl (args:=[o.a]) (f:=79) (by simp [go_sem,Opt.a,Opt.cs]) (by simp [go_sem,hB]) ((hom).spec _ _) ?_
 cases cm:x.may with
 |false=>
  rw [Inst.search,if_neg (by simp [cm])] at hR
  subst hR
  refine K_run hB 100 ?_
  simp [go_sem]
  rfl
 |true=>
  cases co:o.mayB with
  |false=>
   rw [Inst.search,if_pos cm,if_neg (by simp [co])] at hR
   subst hR
   refine K_run hB 100 ?_
   simp [go_sem]
   rfl
  |true=>
   refine K_run hB 100 ?_
   simp [go_sem]
   obtain ⟨τ0,hτ0⟩:∃τ0:Nat→AObj,τ0=ob [(0,.box [.i x.pairs,.i x.cars,.i x.room,.t (.sl (x.stops.map Stop.t))]),(1,.box [.i o.width,.i o.order,.i o.budget]),(2,.box [.i 0,.fsl [],.i 0,.i 0,.i 0,.fsl []]),(3,.box [.i o.order,.ref 5]),(4,.box (SS.cs x o 0 0 ⟨4,3,5,7,6⟩ ⟨[],[],inf,[],0,[]⟩)),(5,.arr 3 []),(6,.arr 14 []),(7,.arr 10 [])]:=⟨_,rfl⟩
   refine K_imp (t:=⟨sl [(2,.ptr 0 0),(3,.ptr 1 0),(4,.ptr 2 0),(7,.ptr 4 0),(29,.ptr 4 0),(30,.agg [.i x.pairs,.i x.cars,.i x.room,.t (.sl (x.stops.map Stop.t))])],τ0,8⟩)
    ((Imp.ownB (b:=3) (off:=1) (sz:=3) (cs:=[.i o.order,.fsl []]) (by simp [oput]) rfl).trans
    ((Imp.ownB (b:=4) (off:=12) (sz:=14) (cs:=[.i x.pairs,.i x.cars,.i x.room,.t (.sl (x.stops.map Stop.t)),.i o.width,.i o.order,.i o.budget,.i 0,.fsl [],.i inf,.i 0,.i 0,.fsl [],.fsl [],.ptr 3 0]) (by simp [oput];rfl) rfl).trans
    ((Imp.ownB (b:=4) (off:=13) (sz:=10) (cs:=[.i x.pairs,.i x.cars,.i x.room,.t (.sl (x.stops.map Stop.t)),.i o.width,.i o.order,.i o.budget,.i 0,.fsl [],.i inf,.i 0,.i 0,.ref 6,.fsl [],.ptr 3 0]) (by simp [oput]) rfl).trans
    ((Imp.looseB (b:=4) (cs:=[.i x.pairs,.i x.cars,.i x.room,.t (.sl (x.stops.map Stop.t)),.i o.width,.i o.order,.i o.budget,.i 0,.fsl [],.i inf,.i 0,.i 0,.ref 6,.ref 7,.ptr 3 0]) (by simp [oput])).trans
    (Imp.slots (by simp [go_sem]) ?_ rfl))))) ?_
   ·funext i
    rw [hτ0]
    match i with
    |0=>simp [oput,ob]
    |1=>simp [oput,ob]
    |2=>simp [oput,ob]
    |3=>simp [oput,ob]
    |4=>simp [oput,ob,loosen,SS.cs,planT]
    |5=>simp [oput,ob]
    |6=>simp [oput,ob]
    |7=>simp [oput,ob]
    |i+8=>simp [oput,ob,noObj]
   obtain ⟨p,hx⟩:=x.fit cm
   have hp3:p≤3:=by have:=hx.len;omega
   have hrun:=search_is hx cm hp3 co hw
   rw [hR] at hrun
   have hgo:=start_going hx cm hp3
   have hroot:=rroot_pureS x (by omega)
   have hrok:=rootS_ok x
   have hdok:DOk x o ⟨4,3,5,7,6⟩ ⟨[],[],inf,[],0,[]⟩ τ0 8:=by
    rw [hτ0]
    exact ⟨⟨rfl,rfl,rfl,by decide,by decide,by decide,by decide⟩,rfl,rfl⟩
   have y0:τ0 0= .box [.i x.pairs,.i x.cars,.i x.room,.t (.sl (x.stops.map Stop.t))]:=by rw [hτ0];rfl
   have y1:τ0 1= .box [.i o.width,.i o.order,.i o.budget]:=by rw [hτ0];rfl
   have y2:τ0 2= .box [.i 0,.fsl [],.i 0,.i 0,.i 0,.fsl []]:=by rw [hτ0];rfl
   clear hτ0
   refine K_call rfl rfl rfl (args:=[x.a]) (f:=81) (by simp [go_sem,Inst.a]) (by simp [go_sem,hB]) ((hroot).spec _ _) ?_
   refine K_run hB 100 ?_
   simp [go_sem,State.a,State.cs]
   refine K_imp Imp.loose ?_
   refine K_callQ rfl rfl rfl (args:=[.ptr 4 0,x.rootN.a,.i 0]) (f:=80) (by simp [go_sem,Node.a,Node.cs,Inst.rootN,loosen,loosen.loosenL,ints]) (by simp [go_sem,hB]) (rpush_spec x o ⟨4,3,5,7,6⟩ ⟨[],[],inf,[],0,[]⟩ x.rootN 0 (by omega) hrok (by simp [Inst.rootN]) (by simp) (by simp) (σ:=τ0) (nx:=8) hdok) fun r σ1 nx1 hq=>?_
   obtain ⟨rfl,k1,c1,c2⟩:=hq
   rw [←Inst.start] at c1
   have z:=c2.q
   have z2:=c2.sb
   have z3:=c2.lg
   have z4:=c2.s
   have z5:=c2.h
   simp only at z z2 z3 z4 z5
   have hri:RD x o p R 1850 x.start k1 (norm k1 σ1) nx1:=by
    refine .make hrun hgo c1 (by omega) ?_ ?_ ?_
    ·rw [c2.keep 0 (by decide) (by decide) (by decide) (by decide) (by decide) (by decide)];exact y0
    ·rw [c2.keep 1 (by decide) (by decide) (by decide) (by decide) (by decide) (by decide)];exact y1
    ·rw [c2.keep 2 (by decide) (by decide) (by decide) (by decide) (by decide) (by decide)];exact y2
   clear z z2 z3 z4 z5 c1 c2 y0 y1 y2 hdok hrun hgo hroot hrok hR hmy hom
   refine K_run hB 100 ?_
   simp [go_sem]
   refine K_loopP (α:=Nat×SS×Ids×(Nat→AObj)×Nat) (fun (f,s,k,τ,m)=>RD x o p R f s k τ m) (fun (f,s,k,τ,m)=>⟨sl [(2,.ptr 0 0),(3,.ptr 1 0),(4,.ptr 2 0),(7,.ptr 4 0)],τ,m⟩) (fun a=>a.1) (1850,x.start,k1,norm k1 σ1,nx1) hri (Imp.of (by simp [go_sem,loosen]) (norm_or k1 σ1) rfl) ?_
   rintro ⟨f,s,k,τ,m⟩ h
   simp only at h
   obtain ⟨f,rfl⟩:∃f',f=f'+1:=by
    cases f with
    |zero=>have:=h.run;cases this
    |succ f=>exact ⟨f,rfl⟩
   have hrun:=h.run
   rw [Inst.runGo] at hrun
   obtain ⟨hi1,hi2,hi3,hi4,hi5⟩:=h.ids
   have hlt:=h.ok.b.lt
   have a1:=h.ok.b.box
   rw [SS.cs,hi1] at a1
   have q1:=h.ok.h
   have q2:=h.ok.q
   have hpre:=h.go.pre hx cm hp3
   have hql:=hpre.q
   by_cases cq:s.q=[]
   ·have hend:R=s.ends:=by
     rw [cq] at hrun
     exact (Option.some.inj hrun).symm
    rw [cq] at q2
    refine K_run hB 100 ?_
    simp [go_sem,a1]
    refine K_call rfl rfl rfl (args:=[.ptr k.h 0]) (f:=82) (by simp [go_sem]) (by simp [go_sem,hB]) (rtake_nil o.order hlt.2.1 q1 hlt.2.2.1 q2) ?_
    have j1:¬4=m:=by omega
    have j2:¬2=m:=by omega
    have j3:¬m=4:=by omega
    have j4:¬m=2:=by omega
    have e4:τ k.lg= .arr 14 (logT s.log):=h.ok.b.log
    have e5:¬k.lg=2:=by omega
    have e6:¬k.lg=4:=fun e=>by rw [e,a1] at e4;cases e4
    have e7:¬k.lg=m:=by omega
    have hb2:=h.b2
    by_cases c:s.up<inf
    ·have c':s.up<1152921504606846976:=c
     have e:s.ends.status=2:=if_pos c
     refine K_run hB 100 ?_
     simp [go_sem,a1,Ent.a,Ent.cs,j1,j2,j3,j4,c',e4,e5,e6,e7,hb2]
     rw [hend,SRes.a,e]
     rfl
    ·have c':¬s.up<1152921504606846976:=c
     have e:s.ends.status=3:=if_neg c
     refine K_run hB 100 ?_
     simp [go_sem,a1,Ent.a,Ent.cs,j1,j2,j3,j4,c',e4,e5,e6,e7,hb2]
     rw [hend,SRes.a,e]
     rfl
   ·have hpos:0<s.q.length:=List.length_pos_iff.2 cq
    have htk:=rtake_spec o.order s.q (by omega) hpos hlt.2.1 q1 hlt.2.2.1 q2 h.al
    obtain ⟨e,he⟩:∃e,e=s.q.getD (minI o.order s.q) Ent.zero:=⟨_,rfl⟩
    obtain ⟨q',hq'⟩:∃q',q'=s.q.take (minI o.order s.q)++s.q.drop (minI o.order s.q+1):=⟨_,rfl⟩
    have t1:takeQ o.order s.q=some (e,q'):=by rw [takeQ,if_neg cq,he,hq']
    rw [←he,←hq'] at htk
    clear he hq'
    have hqs:=(take_some t1).2.2.2
    rw [t1] at hrun
    simp only at hrun
    obtain ⟨n,hn,hg,htn,k1,k2,k3⟩:=h.go.look hx cm hp3 hw t1
    have hskip:=fun c=>h.go.skip t1 c
    refine K_run hB 100 ?_
    simp [go_sem,a1]
    refine K_callQ rfl rfl rfl (args:=[.ptr k.h 0]) (f:=82) (by simp [go_sem]) (by simp [go_sem,hB]) htk fun r σ2 nx2 hq=>?_
    obtain ⟨rfl,g1,qn,g2,g3,g4,g5,g6⟩:=hq
    have hsb:=h.ok.b
    have d1:k.sb≠k.h∧k.sb≠k.q∧k.lg≠k.h∧k.lg≠k.q:=⟨fun e=>hsb.hs.1 e.symm,fun e=>hsb.qs.2.2.1 e.symm,fun e=>hsb.hs.2 e.symm,fun e=>hsb.qs.2.2.2 e.symm⟩
    have dsh:=hsb.sh
    have dqs:=hsb.qs
    have dhs:=hsb.hs
    have hsok2:DOk x o {k with q:=qn} (s.left q') σ2 nx2:=by
     refine ⟨⟨?_,?_,?_,dsh,?_,dhs,?_⟩,g4,g5⟩
     ·rw [g6 k.s (by omega) dsh (by omega)];exact hsb.box
     ·rw [g6 k.sb (by omega) d1.1 d1.2.1];exact hsb.subs
     ·rw [g6 k.lg (by omega) d1.2.2.1 d1.2.2.2];exact hsb.log
     ·simp only;omega
     ·simp only;omega
    have hruns2:Runs k τ m {k with q:=qn} σ2 nx2:=⟨g1,rfl,rfl,.inr g2,.inl rfl,.inl rfl,fun i h1 h2 h3 h4 h5 h6=>g6 i h1 h3 h4⟩
    clear htk
    have b3:=(hruns2.keep 1 (by omega) (by omega) (by omega) (by omega) (by omega) (by omega)).trans h.b1
    have b4:=(hruns2.keep 2 (by omega) (by omega) (by omega) (by omega) (by omega) (by omega)).trans h.b2
    have b5:=hsok2.b.box
    rw [SS.cs] at b5
    simp only [hi1,SS.left] at b5
    have hm4:4<nx2:=by omega
    have j1:¬4=nx2:=by omega
    have j2:¬nx2=4:=by omega
    have j3:¬1=nx2:=by omega
    have j4:¬2=nx2:=by omega
    have j5:¬nx2=2:=by omega
    refine K_run hB 100 ?_
    simp [go_sem,Ent.a,Ent.cs]
    refine K_drawn [] rfl (by rw [hB];kernel_rfl) ?_
    have hst2:=hsok2.stay (σ':=oput (oput σ2 nx2 (.box [.i 0,.i 0,.i 0])) nx2 (.box [.i e.bound,.i e.depth,.i e.no])) (nx':=nx2+1) (by omega) fun i hi=>by simp [oput,show ¬i=nx2 by omega]
    have hold:∀i,i<nx2→oput (oput σ2 nx2 (.box [.i 0,.i 0,.i 0])) nx2 (.box [.i e.bound,.i e.depth,.i e.no]) i=σ2 i:=fun i hi=>by simp [oput,show ¬i=nx2 by omega]
    by_cases c1:s.up≤e.bound
    ·rw [if_pos c1] at hrun
     refine K_run hB 100 ?_
     simp [go_sem,b5,j1,c1]
     exact Next.mk (f,s.left q',{k with q:=qn},norm {k with q:=qn} _,nx2+1) (h.next hrun (hskip c1) hst2.1 (hruns2.trans hst2.2)) (Imp.of (by simp [go_sem]) (norm_or _ _) rfl) (by simp only;omega)
    rw [if_neg c1] at hrun
    refine K_run hB 100 ?_
    simp [go_sem,b5,j1,c1]
    refine K_drawn [] rfl (by rw [hB];kernel_rfl) ?_
    have e4:σ2 k.lg= .arr 14 (logT s.log):=hsok2.b.log
    have e5:¬k.lg=2:=by omega
    have e6:¬k.lg=4:=fun e=>by have h1:=h.ok.b.log;rw [e,a1] at h1;cases h1
    have e7:¬k.lg=nx2:=by omega
    by_cases c2:o.budget≤s.steps
    ·rw [if_pos c2] at hrun
     refine K_run hB 100 ?_
     simp [go_sem,b5,b3,j1,j2,j3,c2]
     have f1:¬k.h=4:=by omega
     have f2:¬k.h=nx2:=by omega
     have f3:¬qn=4:=by omega
     have f4:¬qn=nx2:=by omega
     refine K_call rfl rfl rfl (args:=[.ptr k.s 0,.i e.bound]) (f:=83) (by simp [go_sem,hi1]) (by simp [go_sem,hB]) (rsleast_spec x o {k with q:=qn} (s.left q') e.bound (by show q'.length<_;omega) (nx:=nx2+1) (by simp [oput,SS.cs,SS.left,hi1]) ⟨by show k.h<_;omega,by show qn<_;omega⟩ (by simp [oput,f1,f2,g4]) (by simp [oput,f3,f4,g5,SS.left])) ?_
     refine K_run hB 100 ?_
     simp [go_sem,b5,b4,j1,j2,j4,j5,e4,e5,e6,e7]
     rw [←Option.some.inj hrun]
     rfl
    ·rw [if_neg c2,hg] at hrun
     have hno:=List.getElem?_eq_some_iff.1 hn
     obtain ⟨hno1,hno2⟩:=hno
     have hnl:(nodesT s.subs).length=s.subs.length:=List.length_map _
     have hgn:∀h,(nodesT s.subs)[e.no]'h=n.t:=fun h=>by rw [nodesT_get _ hno1,hno2]
     have hsb2:σ2 k.sb= .arr 10 (nodesT s.subs):=hsok2.b.subs
     have j6:¬k.sb=nx2:=by have:=hsok2.b.lt;simp only at this;omega
     refine K_run hB 100 ?_
     simp [go_sem,b5,b3,j1,j3,c2]
     refine K_drawnZ [] 9 _ rfl (by rw [hB];kernel_rfl) (by kernel_rfl) rfl ?_
     refine K_run hB 100 ?_
     simp [go_sem,b5,j1,hsb2,j6,hnl,hno1,hgn,Node.t]
     refine K_callQ rfl rfl rfl (args:=[.ptr k.s 0,n.a]) (f:=84) (by simp [go_sem,Node.a,Node.cs,hi1]) (by simp [go_sem,hB]) (rlook_spec x o {k with q:=qn} (s.left q') n (rlook_pre hx cm hp3 htn hw) ⟨hpre.steps,hpre.subs,by show q'.length<_;omega,hpre.log⟩ (nx:=nx2+1) hst2.1) fun r σ4 nx4 hq=>?_
     obtain ⟨rfl,k4,e1,e2⟩:=hq
     refine K_run hB 100 ?_
     simp [go_sem]
     exact Next.mk (f,x.lookS o.width (s.left q') n,k4,norm k4 σ4,nx4) (h.next hrun k1 e1 ((hruns2.trans hst2.2).trans e2)) (Imp.of (by simp [go_sem]) (norm_or _ _) rfl) (by simp only;omega)
end Go.Proofs.YtackfabapangdaaGreat

set_option maxRecDepth 4000
set_option maxHeartbeats 1000000
namespace Go.Proofs.YtackfabapangdaaGreat
open Go Go.Proofs.YtackfabapangdaaGreat.R
theorem search_fine2 {x:Inst} {o:Opt} (hl:x.stops.length≤7) (hw:o.width≤40):SFine (x.search o):=by
 cases hm:x.may with
 |true=>
  cases ho:o.mayB with
  |true=>exact search_fine hl hm ho hw
  |false=>
   have:x.search o=⟨1,[],inf,0,0,[]⟩:=by rw [Inst.search,if_pos hm,if_neg (by simp [ho])]
   rw [this]
   constructor<;>simp
 |false=>
  have:x.search o=⟨0,[],inf,0,0,[]⟩:=by rw [Inst.search,if_neg (by simp [hm])]
  rw [this]
  constructor<;>simp
theorem lsruns_pure (x:Inst) (o:Opt) (hl:x.stops.length<2^63):Pure P 7 [x.a,o.a] (.b true):=by
 refine pure_of Tryz.func7 rfl rfl (by simp [Tryz.f7]) (by simp [bnd,bnd.bndL,Inst.a,Opt.a,Opt.cs]) (by simp [bnd,bnd.bndL]) fun B hB hnx=>?_
 simp only [Tryz.f7] at hB ⊢
 have hf:=few19_pure x o hl
 refine K_run hB 100 ?_
 simp [go_sem,Inst.a,Opt.a,Opt.cs]
 refine K_call rfl rfl rfl (args:=[]) (f:=28) (by simp [go_sem]) (by simp [go_sem,hB]) ((awake19_pure).spec _ _) ?_
 refine K_run hB 100 ?_
 simp [go_sem]
 refine K_call rfl rfl rfl (args:=[x.a,o.a]) (f:=29) (by simp [go_sem,Inst.a,Opt.a,Opt.cs]) (by simp [go_sem,hB]) ((hf).spec _ _) ?_
 cases cf:fewO x o with
 |false=>
  refine K_run hB 100 ?_
  simp [go_sem]
 |true=>
  simp only [fewO,Bool.and_eq_true,decide_eq_true_eq] at cf
  have hs:=srun_pure x o cf.1 cf.2
  have ht:=rsrun_pure x o cf.1 cf.2
  have hfine:=search_fine2 (x:=x) (o:=o) cf.1 cf.2
  have hsm:=ssame_pure _ _ hfine hfine fun _=>rfl
  clear hfine
  generalize x.search o=r at *
  have hsame:r.same r=true:=by simp [SRes.same]
  rw [hsame] at hsm
  refine K_run hB 100 ?_
  simp [go_sem]
  refine K_drawn [] rfl (by rw [hB];kernel_rfl) ?_
  refine K_run hB 100 ?_
  simp [go_sem,Inst.a,Opt.a,Opt.cs]
  refine K_dCallP rfl rfl rfl (args:=[x.a,o.a]) (f:=31) (by simp [go_sem,Inst.a,Opt.a,Opt.cs]) (hs) ?_
  refine K_run hB 100 ?_
  simp [go_sem,Inst.a,Opt.a,Opt.cs,SRes.a]
  refine K_dCallP rfl rfl rfl (args:=[x.a,o.a]) (f:=32) (by simp [go_sem,Inst.a,Opt.a,Opt.cs]) (ht) ?_
  refine K_run hB 100 ?_
  simp [go_sem,SRes.a]
  refine K_dCallP rfl rfl rfl (args:=[r.a,r.a]) (f:=30) (by simp [go_sem,SRes.a]) (hsm) ?_
  refine K_run hB 100 ?_
  simp [go_sem]
end Go.Proofs.YtackfabapangdaaGreat
