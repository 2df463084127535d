/- Parts of the proof: Law19b, Law19d. -/
import Derived.Test.YtackfabapangdaaGreatMI
set_option linter.unusedVariables false
set_option maxHeartbeats 4000000
set_option maxRecDepth 4000
set_option maxHeartbeats 1000000
namespace Go.Proofs.YtackfabapangdaaGreat
open Go Go.Proofs.YtackfabapangdaaGreat.R
structure Whole (x:Inst) (r:SRes):Prop where
 low:r.low=r.up
 least:∀v c,x.way v x.rootS c→r.up≤c
 some:r.up<inf→r.status=2∧∃v,x.way v x.rootS r.up
 none:¬r.up<inf→r.status=3∧r.up=inf
theorem search_whole {x:Inst} {o:Opt} (hl:x.stops.length≤7) (hm:x.may=true) (ho:o.mayB=true) (hw:o.width≤40) (hb:o.budget=549755813888):Whole x (x.search o):=by
 obtain ⟨p,hx⟩:=x.fit hm
 have hp:p≤3:=by have:=hx.len;omega
 have h4:=run_whole hx hm hp o hw (by omega) 1850 x.start _ (start_going hx hm hp) (search_is hx hm hp ho hw)
 obtain ⟨k1,k2,k3,k4,k5⟩:=search_told hl hm ho hw
 generalize x.search o=r at *
 have hlow:r.low=r.up:=by
  rcases k5 with ⟨_,h,_⟩ | ⟨_,h1,h2⟩ | ⟨h,_⟩
  ·exact h
  ·rw [h1,h2]
  ·exact absurd h h4
 refine ⟨hlow,fun v c hv=>by have:=k3 v c hv;omega,fun hu=>⟨?_,plan_way hm (k2 hu)⟩,fun hu=>?_⟩
 ·rcases k5 with ⟨h,_⟩ | ⟨_,_,h⟩ | ⟨h,_⟩
  ·exact h
  ·omega
  ·exact absurd h h4
 ·rcases k5 with ⟨_,_,h⟩ | ⟨h,_,h2⟩ | ⟨h,_⟩
  ·exact absurd h hu
  ·exact ⟨h,h2⟩
  ·exact absurd h h4
theorem Whole.same {x:Inst} {a b:SRes} (ha:Whole x a) (hb:Whole x b):a.status=b.status∧a.up=b.up∧a.low=b.low:=by
 have hu:a.up=b.up:=by
  by_cases h1:a.up<inf
  ·obtain ⟨_,v,hv⟩:=ha.some h1
   have h2:=hb.least v _ hv
   obtain ⟨_,w,hw⟩:=hb.some (by omega)
   have:=ha.least w _ hw
   omega
  ·have h3:=(ha.none h1).2
   by_cases h2:b.up<inf
   ·obtain ⟨_,w,hw⟩:=hb.some h2
    have:=ha.least w _ hw
    omega
   ·rw [h3,(hb.none h2).2]
 refine ⟨?_,hu,by rw [ha.low,hb.low,hu]⟩
 by_cases h1:a.up<inf
 ·rw [(ha.some h1).1,(hb.some (by omega)).1]
 ·rw [(ha.none h1).1,(hb.none (by omega)).1]
theorem Whole.every {x:Inst} (hm:x.may=true) {r:SRes} (h:Whole x r):(x.everyAll=inf→r.status=3)∧(x.everyAll≠inf→r.status=2∧r.up=x.everyAll):=by
 obtain ⟨p,hx⟩:=x.fit hm
 have hd:x.deepN≤1000:=by
  have:=hx.pairs
  have:=hx.few
  have:=hx.cars
  unfold Inst.deepN
  omega
 have hle:∀v c,x.way v x.rootS c→x.everyAll≤c:=fun v c hv=>every_has x _ hv (way_root_len hx hm hv) hd
 have hin:0≤x.everyAll∧x.everyAll≤inf:=every_in x _ x.rootS
 refine ⟨fun he=>?_,fun he=>?_⟩
 ·by_cases hu:r.up<inf
  ·obtain ⟨_,v,hv⟩:=h.some hu
   have:=hle v _ hv
   omega
  ·exact (h.none hu).1
 ·obtain ⟨w,hw⟩:∃w,x.way w x.rootS x.everyAll:=every_from x _ x.rootS (by have:x.every x.deepN x.rootS=x.everyAll:=rfl;omega)
  have h1:=h.least w _ hw
  obtain ⟨h2,v,hv⟩:=h.some (by omega)
  have:=hle v _ hv
  exact ⟨h2,by omega⟩
theorem more_move {x y:Inst} (hy:y={x with cars:=y.cars,room:=y.room}) (hm:y.may=true) (hc:x.cars≤y.cars) (hr:x.room≤y.room) {s:State} {j:Int} (h:(x.move s j).2.2=true):y.move s j=x.move s j:=by
 obtain ⟨h1,h2,h3,h4,h5⟩:=move_is h
 obtain ⟨a,b,c,d⟩:=x
 obtain ⟨a',b',c',d'⟩:=y
 cases hy
 simp only at hc hr
 have e1:s.mayB ⟨a,b',c',d⟩=true:=by
  simp only [State.mayB,Bool.and_eq_true,decide_eq_true_eq] at h2 ⊢
  obtain ⟨⟨⟨⟨⟨⟨⟨g1,g2⟩,g3⟩,g4⟩,g5⟩,g6⟩,g7⟩,g8⟩:=h2
  exact ⟨⟨⟨⟨⟨⟨⟨g1,g2⟩,g3⟩,by omega⟩,g5⟩,g6⟩,g7⟩,g8⟩
 have e2:Inst.to ⟨a,b',c',d⟩ s j=Inst.to ⟨a,b,c,d⟩ s j:=by
  unfold Inst.to at h4 ⊢
  split
  ·rename_i hj
   rw [if_pos hj] at h4
   unfold Inst.home at h4 ⊢
   split at h4
   ·cases h4
   rename_i hs
   rw [if_neg hs]
   refine if_neg fun hs'=>hs ?_
   simp only [Inst.stayB,Bool.or_eq_true,decide_eq_true_eq] at hs' ⊢
   rcases hs' with (((g | g) | g) | g) | g
   ·exact .inl (.inl (.inl (.inl g)))
   ·exact .inl (.inl (.inl (.inr g)))
   ·exact .inl (.inl (.inr (by omega)))
   ·exact .inl (.inr g)
   ·exact .inr g
  rename_i hj
  rw [if_neg hj] at h4
  split
  ·rename_i hp
   rw [if_pos hp] at h4
   unfold Inst.take at h4 ⊢
   split at h4
   ·cases h4
   rename_i hs
   rw [if_neg hs,if_neg fun hs'=>hs ?_]
   ·rfl
   ·simp only [Inst.fullB,Bool.or_eq_true,decide_eq_true_eq] at hs' ⊢
    rcases hs' with g | g
    ·exact .inl (by have:(Inst.stop ⟨a,b',c',d⟩ j).demand=(Inst.stop ⟨a,b,c,d⟩ j).demand:=rfl;omega)
    ·exact .inr g
  ·rfl
 rw [h5]
 unfold Inst.move
 rw [if_pos ⟨hm,e1⟩]
 unfold Inst.step
 simp only at h3
 rw [if_neg (by simp only;omega),e2,if_pos h4]
 rfl
theorem more_root {x y:Inst} (hy:y={x with cars:=y.cars,room:=y.room}) (hx:x.may=true) (hm:y.may=true):y.rootS=x.rootS:=by
 rw [Inst.rootS,Inst.rootS,if_pos hx,if_pos hm,hy]
 rfl
theorem more_end {x y:Inst} (hy:y={x with cars:=y.cars,room:=y.room}) (hx:x.may=true) (hm:y.may=true) (hc:x.cars≤y.cars) {s:State} (h:(x.endS s).2=true):y.endS s=x.endS s:=by
 have hroot:=more_root hy hx hm
 have hp:y.pairs=x.pairs:=by rw [hy]
 have hst:∀j,y.stop j=x.stop j:=fun j=>by rw [hy];rfl
 have hall:∀m,y.allB m=x.allB m:=fun m=>by rw [hy];rfl
 have e0:x.may≠false:=by simp [hx]
 have e0':y.may≠false:=by simp [hm]
 unfold Inst.endS at h ⊢
 rw [if_neg e0] at h
 rw [if_neg e0,if_neg e0',hroot,hp]
 by_cases h1:x.pairs=0∧s=x.rootS
 ·rw [if_pos h1,if_pos h1]
 rw [if_neg h1] at h
 rw [if_neg h1,if_neg h1]
 split at h
 ·rename_i h2
  obtain ⟨g1,g2,g3,g4,g5⟩:=h2
  have e1:s.mayB y=true:=by
   simp only [State.mayB,Bool.and_eq_true,decide_eq_true_eq,hp] at g1 ⊢
   obtain ⟨⟨⟨⟨⟨⟨⟨k1,k2⟩,k3⟩,k4⟩,k5⟩,k6⟩,k7⟩,k8⟩:=g1
   exact ⟨⟨⟨⟨⟨⟨⟨k1,k2⟩,k3⟩,by omega⟩,k5⟩,k6⟩,k7⟩,k8⟩
  rw [if_pos ⟨e1,g2,g3,by rw [hall];exact g4,by rw [hst,hst];exact g5⟩,if_pos ⟨g1,g2,g3,g4,g5⟩,hst,hst]
 ·cases h
theorem more_way {x y:Inst} (hy:y={x with cars:=y.cars,room:=y.room}) (hx:x.may=true) (hm:y.may=true) (hc:x.cars≤y.cars) (hr:x.room≤y.room):∀{v:List Int} {s:State} {c:Int},x.way v s c→y.way v s c
 |[],s,c,h=>by
  have:=more_end hy hx hm hc h.1
  rw [Inst.way,this]
  exact h
 |j :: v,s,c,h=>by
  obtain ⟨h1,d,h2,h3⟩:=h
  have:=more_move hy hm hc hr h1
  rw [Inst.way,this]
  exact ⟨h1,d,more_way hy hx hm hc hr h2,h3⟩
theorem lsevery_pure (x:Inst) (o:Opt) (hl:x.stops.length<2^63):Pure P 8 [x.a,o.a] (.b true):=by
 refine pure_of Tryz.func8 rfl rfl (by simp [Tryz.f8]) (by simp [bnd,bnd.bndL,Inst.a,Opt.a,Opt.cs]) (by simp [bnd,bnd.bndL]) fun B hB hnx=>?_
 simp only [Tryz.f8] at hB ⊢
 have hm:=may_pure x hl
 have ho:=omay_pure {o with budget:=549755813888}
 refine K_run hB 100 ?_
 simp [go_sem,Inst.a,Opt.a,Opt.cs]
 refine K_call rfl rfl rfl (args:=[]) (f:=28) (by simp [go_sem]) (by simp [go_sem,hB]) ((awake19_pure).spec _ _) ?_
 by_cases c1:5<(x.stops.length:Int)
 ·refine K_run hB 100 ?_
  simp [go_sem,c1]
 by_cases c2:40<o.width
 ·refine K_run hB 100 ?_
  simp [go_sem,c1,c2]
 refine K_run hB 100 ?_
 simp [go_sem,c1,c2]
 refine K_call rfl rfl rfl (args:=[x.a]) (f:=33) (by simp [go_sem,Inst.a]) (by simp [go_sem,hB]) ((hm).spec _ _) ?_
 cases cm:x.may with
 |false=>
  refine K_run hB 100 ?_
  simp [go_sem]
 |true=>
  refine K_run hB 100 ?_
  simp [go_sem]
  refine K_call rfl rfl rfl (args:=[Opt.a {o with budget:=549755813888}]) (f:=34) (by simp [go_sem,Opt.a,Opt.cs]) (by simp [go_sem,hB]) ((ho).spec _ _) ?_
  cases co:Opt.mayB {o with budget:=549755813888} with
  |false=>
   refine K_run hB 100 ?_
   simp [go_sem]
  |true=>
   have hs:=srun_pure x {o with budget:=549755813888} (by omega) (by simp only;omega)
   obtain ⟨k1,k2⟩:=(search_whole (o:={o with budget:=549755813888}) (by omega) cm co (by simp only;omega) rfl).every cm
   have h3:=everyAll_pure x cm
   generalize x.search {o with budget:=549755813888}=r at *
   generalize x.everyAll=E at *
   refine K_run hB 100 ?_
   simp [go_sem]
   refine K_call rfl rfl rfl (args:=[x.a,Opt.a {o with budget:=549755813888}]) (f:=31) (by simp [go_sem,Inst.a,Opt.a,Opt.cs]) (by simp [go_sem,hB]) ((hs).spec _ _) ?_
   refine K_run hB 100 ?_
   simp [go_sem,SRes.a]
   refine K_call rfl rfl rfl (args:=[x.a]) (f:=24) (by simp [go_sem,Inst.a]) (by simp [go_sem,hB]) ((h3).spec _ _) ?_
   by_cases ce:E=1152921504606846976
   ·have s1:=k1 ce
    refine K_run hB 100 ?_
    simp [go_sem,ce,s1]
   ·obtain ⟨s1,s2⟩:=k2 ce
    refine K_run hB 100 ?_
    simp [go_sem,ce,s1,s2]
theorem lswidths_pure (x:Inst) (o q:Opt) (hl:x.stops.length<2^63):Pure P 10 [x.a,o.a,q.a] (.b true):=by
 refine pure_of Tryz.func10 rfl rfl (by simp [Tryz.f10]) (by simp [bnd,bnd.bndL,Inst.a,Opt.a,Opt.cs]) (by simp [bnd,bnd.bndL]) fun B hB hnx=>?_
 simp only [Tryz.f10] at hB ⊢
 have hf:=few19_pure x o hl
 have hf2:=few19_pure x q hl
 have hm:=may_pure x hl
 have ho:=omay_pure {o with budget:=549755813888}
 have hq:=omay_pure {q with budget:=549755813888}
 refine K_run hB 100 ?_
 simp [go_sem,Inst.a,Opt.a,Opt.cs]
 refine K_call rfl rfl rfl (args:=[]) (f:=28) (by simp [go_sem]) (by simp [go_sem,hB]) ((awake19_pure).spec _ _) ?_
 refine K_run hB 100 ?_
 simp [go_sem]
 refine K_call rfl rfl rfl (args:=[x.a,o.a]) (f:=29) (by simp [go_sem,Inst.a,Opt.a,Opt.cs]) (by simp [go_sem,hB]) ((hf).spec _ _) ?_
 refine K_run hB 100 ?_
 simp [go_sem]
 refine K_call rfl rfl rfl (args:=[x.a,q.a]) (f:=29) (by simp [go_sem,Inst.a,Opt.a,Opt.cs]) (by simp [go_sem,hB]) ((hf2).spec _ _) ?_
 cases cf:fewO x o with
 |false=>
  refine K_run hB 100 ?_
  simp [go_sem]
 |true=>
  cases cg:fewO x q with
  |false=>
   refine K_run hB 100 ?_
   simp [go_sem]
  |true=>
   simp only [fewO,Bool.and_eq_true,decide_eq_true_eq] at cf cg
   refine K_run hB 100 ?_
   simp [go_sem]
   refine K_call rfl rfl rfl (args:=[x.a]) (f:=33) (by simp [go_sem,Inst.a]) (by simp [go_sem,hB]) ((hm).spec _ _) ?_
   cases cm:x.may with
   |false=>
    refine K_run hB 100 ?_
    simp [go_sem]
   |true=>
    refine K_run hB 100 ?_
    simp [go_sem]
    refine K_call rfl rfl rfl (args:=[Opt.a {o with budget:=549755813888}]) (f:=34) (by simp [go_sem,Opt.a,Opt.cs]) (by simp [go_sem,hB]) ((ho).spec _ _) ?_
    cases co:Opt.mayB {o with budget:=549755813888} with
    |false=>
     refine K_run hB 100 ?_
     simp [go_sem]
    |true=>
     refine K_run hB 100 ?_
     simp [go_sem]
     refine K_call rfl rfl rfl (args:=[Opt.a {q with budget:=549755813888}]) (f:=34) (by simp [go_sem,Opt.a,Opt.cs]) (by simp [go_sem,hB]) ((hq).spec _ _) ?_
     cases cq:Opt.mayB {q with budget:=549755813888} with
     |false=>
      refine K_run hB 100 ?_
      simp [go_sem]
     |true=>
      have hs:=srun_pure x {o with budget:=549755813888} cf.1 cf.2
      have ht:=srun_pure x {q with budget:=549755813888} cf.1 cg.2
      obtain ⟨k1,k2,k3⟩:=(search_whole (o:={o with budget:=549755813888}) cf.1 cm co cf.2 rfl).same (search_whole (o:={q with budget:=549755813888}) cf.1 cm cq cg.2 rfl)
      generalize x.search {o with budget:=549755813888}=r at *
      generalize x.search {q with budget:=549755813888}=r2 at *
      refine K_run hB 100 ?_
      simp [go_sem]
      refine K_call rfl rfl rfl (args:=[x.a,Opt.a {o with budget:=549755813888}]) (f:=31) (by simp [go_sem,Inst.a,Opt.a,Opt.cs]) (by simp [go_sem,hB]) ((hs).spec _ _) ?_
      refine K_run hB 100 ?_
      simp [go_sem,SRes.a]
      refine K_call rfl rfl rfl (args:=[x.a,Opt.a {q with budget:=549755813888}]) (f:=31) (by simp [go_sem,Inst.a,Opt.a,Opt.cs]) (by simp [go_sem,hB]) ((ht).spec _ _) ?_
      refine K_run hB 100 ?_
      simp [go_sem,SRes.a,k1,k2,k3]
end Go.Proofs.YtackfabapangdaaGreat

set_option maxRecDepth 4000
set_option maxHeartbeats 1000000
namespace Go.Proofs.YtackfabapangdaaGreat
open Go Go.Proofs.YtackfabapangdaaGreat.R
theorem planT_get (l:List (List Int)) {k:Nat} (h:k<l.length) (h':k<(planT l).length):(planT l)[k]'h'=[.sl (ints l[k])]:=by simp [planT,rowT]
theorem take_succ {α:Type} {l:List α} {k:Nat} (h:k<l.length):l.take (k+1)=l.take k++[l[k]]:=by rw [List.take_add_one,List.getElem?_eq_getElem h];rfl
theorem rsameL_pure (a b:List (List Int)) (ha:a.length<2^62) (hb:b.length<2^62) (ga:∀r∈a,r.length<2^62) (gb:∀r∈b,r.length<2^62):Pure P 69 [.t (.sl (planT a)),.t (.sl (planT b))] (.b (decide (a=b))):=by
 refine pure_of Tryz.func69 rfl rfl (by simp [Tryz.f69]) (by simp [bnd,bnd.bndL]) (by simp [bnd,bnd.bndL]) fun B hB hnx=>?_
 simp only [Tryz.f69] at hB ⊢
 have h1:(planT a).length=a.length:=List.length_map _
 have h2:(planT b).length=b.length:=List.length_map _
 by_cases c0:a.length=b.length
 rotate_left
 ·have:¬a=b:=fun e=>c0 (by rw [e])
  refine K_run hB 100 ?_
  simp [go_sem,h1,h2,c0,this]
 refine K_run hB 100 ?_
 simp [go_sem,h1,h2,c0]
 refine K_loopP (α:=Nat) (fun k=>k≤b.length∧a.take k=b.take k) (fun k=>⟨sl [(0,.t (.sl (planT a))),(1,.t (.sl (planT b))),(5,.i k)],noObj,0⟩) (fun k=>b.length-k) 0 ⟨Nat.zero_le _,rfl⟩ (Imp.slots (by simp [go_sem]) rfl rfl) ?_
 rintro k ⟨g1,g2⟩
 refine K_run hB 100 ?_
 simp [go_sem,h1,c0]
 refine fork_dec (fun hk=>?_) (fun hk=>?_)
 ·have hkk:IntKind.i64.wrap ((k:Int)+1)=((k+1:Nat):Int):=by rw [w64 ((k:Int)+1) (by omega)];rfl
  have hk':k<a.length:=by omega
  have e1:=fun h=>planT_get a hk' h
  have e2:=fun h=>planT_get b hk h
  have n1:=take_succ hk'
  have n2:=take_succ hk
  have f1:=ga _ (List.getElem_mem hk')
  have f2:=gb _ (List.getElem_mem hk)
  have hne:¬a[k]=b[k]→¬a=b:=fun h e=>h (by subst e;rfl)
  generalize hal:a[k]=l at *
  generalize hbl:b[k]=m at *
  have i1:(ints l).length=l.length:=List.length_map _
  have i2:(ints m).length=m.length:=List.length_map _
  simp [go_sem]
  refine K_drawn [] rfl (by rw [hB];kernel_rfl) ?_
  by_cases c1:l.length=m.length
  rotate_left
  ·have:=hne fun e=>c1 (by rw [e])
   refine K_run hB 100 ?_
   simp [go_sem,h1,h2,hk,hk',e1,e2,i1,i2,c1,this]
  refine K_run hB 100 ?_
  simp [go_sem,h1,h2,hk,hk',e1,e2,i1,i2,c1]
  refine K_loopP (α:=Nat) (fun j=>j≤m.length∧l.take j=m.take j) (fun j=>⟨sl [(0,.t (.sl (planT a))),(1,.t (.sl (planT b))),(5,.i k),(6,.i j)],noObj,0⟩) (fun j=>m.length-j) 0 ⟨Nat.zero_le _,rfl⟩ (Imp.slots (by simp [go_sem]) rfl rfl) ?_
  rintro j ⟨j1,j2⟩
  refine K_run hB 100 ?_
  simp [go_sem,h1,hk',e1,i1,c1]
  refine fork_dec (fun hj=>?_) (fun hj=>?_)
  ·have hjj:IntKind.i64.wrap ((j:Int)+1)=((j+1:Nat):Int):=by rw [w64 ((j:Int)+1) (by omega)];rfl
   have hj':j<l.length:=by omega
   have d1:=ints_getS l hj'
   have d2:=ints_getS m hj
   have o1:=take_succ hj'
   have o2:=take_succ hj
   simp [go_sem]
   refine K_drawn [] rfl (by rw [hB];kernel_rfl) ?_
   by_cases c2:l[j]=m[j]
   ·refine K_run hB 100 ?_
    simp [go_sem,h1,h2,hk,hk',e1,e2,i1,i2,hj,hj',d1,d2,c2,hjj]
    refine Next.mk (j+1) ⟨by omega,by rw [o1,o2,j2,c2]⟩ (Imp.slots (by simp [go_sem]) rfl rfl) (by omega)
   ·have:¬a=b:=hne fun e=>c2 (by subst e;rfl)
    refine K_run hB 100 ?_
    simp [go_sem,h1,h2,hk,hk',e1,e2,i1,i2,hj,hj',d1,d2,c2,this]
  ·have:j=m.length:=by omega
   subst this
   rw [List.take_of_length_le (by omega),List.take_of_length_le (by omega)] at j2
   simp [go_sem,hkk]
   refine Next.mk (k+1) ⟨by omega,by rw [n1,n2,g2,j2]⟩ (Imp.slots (by simp [go_sem]) rfl rfl) (by omega)
 ·have:k=b.length:=by omega
  subst this
  rw [List.take_of_length_le (by omega),List.take_of_length_le (by omega)] at g2
  simp [go_sem,g2]
theorem look_log (x:Inst) (w:Int) (s:SS) (n:Node):(x.lookS w s n).log=s.log++[(n,x.build n w (s.nar x w n).up)]:=by
 have h1:(s.nar x w n).log=s.log:=(offer_up (s.plus (x.narrow n w s.up).2.2) ((x.narrow n w s.up).1,(x.narrow n w s.up).2.1)).2.2.2.1
 rw [Inst.lookS,←h1]
 generalize s.nar x w n=t
 unfold Inst.lookD
 split
 ·rfl
 split
 ·exact (offer_up _ _).2.2.2.1
 ·rw [Inst.branch,(pushes_up x _ _ _).2.1,(offers_up x _ _).2.2.2.1]
  rfl
structure LogOK (x:Inst) (w:Int) (d:Node×Diag):Prop where
 track:Track x d.1
 built:∃up,d.2=x.build d.1 w up
theorem run_log {x:Inst} {p:Nat} (hx:x.Fit p) (hm:x.may=true) (hp:p≤3) (o:Opt) (hw:o.width≤40):∀(N:Nat) (s:SS) (r:SRes),Going x p s→(∀d∈s.log,LogOK x o.width d)→x.runGo o N s=some r→(∀d∈r.log,LogOK x o.width d)∧s.log <+:r.log∧r.log.length≤1848
 |0,s,r,_,_,h=>by cases h
 |N+1,s,r,hs,hl,h=>by
  have hlen:s.log.length≤1848:=by have:=hs.small.log;omega
  rw [Inst.runGo] at h
  cases ht:takeQ o.order s.q with
  |none=>
   rw [ht] at h
   cases h
   exact ⟨hl,List.prefix_refl _,hlen⟩
  |some r'=>
   obtain ⟨e,q⟩:=r'
   rw [ht] at h
   simp only at h
   obtain ⟨n,hn,hg,htn,k1,k2,k3⟩:=hs.look hx hm hp hw ht
   rw [hg] at h
   by_cases c1:s.up≤e.bound
   ·rw [if_pos c1] at h
    exact run_log hx hm hp o hw N (s.left q) r (hs.skip ht c1) hl h
   rw [if_neg c1] at h
   by_cases c2:o.budget≤s.steps
   ·rw [if_pos c2] at h
    cases h
    exact ⟨hl,List.prefix_refl _,hlen⟩
   rw [if_neg c2] at h
   have hlog:=look_log x o.width (s.left q) n
   have e2:(s.left q).log=s.log:=rfl
   rw [e2] at hlog
   obtain ⟨i1,i2,i3⟩:=run_log hx hm hp o hw N _ r k1 (fun d hd=>by
    rw [hlog] at hd
    rcases List.mem_append.1 hd with hd | hd
    ·exact hl d hd
    ·rw [List.mem_singleton.1 hd]
     exact ⟨htn,_,rfl⟩) h
   rw [hlog] at i2
   exact ⟨i1,(List.prefix_append _ _).trans i2,i3⟩
theorem run_front {x:Inst} {p:Nat} (hx:x.Fit p) (hm:x.may=true) (hp:p≤3) (o o':Opt) (hw:o.width≤40) (h1:o'.width=o.width) (h2:o'.order=o.order) (h3:o.budget≤o'.budget):∀(N:Nat) (s:SS) (r r':SRes),Going x p s→(∀d∈s.log,LogOK x o.width d)→x.runGo o N s=some r→x.runGo o' N s=some r'→r.log <+:r'.log
 |0,s,r,r',_,_,h,_=>by cases h
 |N+1,s,r,r',hs,hl,h,h'=>by
  have hpre:=(run_log hx hm hp o' (by omega) (N+1) s r' hs (by rw [h1];exact hl) h').2.1
  rw [Inst.runGo] at h h'
  rw [h2,h1] at h'
  cases ht:takeQ o.order s.q with
  |none=>
   rw [ht] at h
   cases h
   exact hpre
  |some r0=>
   obtain ⟨e,q⟩:=r0
   rw [ht] at h h'
   simp only at h h'
   obtain ⟨n,hn,hg,htn,k1,k2,k3⟩:=hs.look hx hm hp hw ht
   rw [hg] at h h'
   by_cases c1:s.up≤e.bound
   ·rw [if_pos c1] at h h'
    exact run_front hx hm hp o o' hw h1 h2 h3 N (s.left q) r r' (hs.skip ht c1) hl h h'
   rw [if_neg c1] at h h'
   by_cases c2:o.budget≤s.steps
   ·rw [if_pos c2] at h
    cases h
    exact hpre
   rw [if_neg c2] at h
   rw [if_neg (by omega)] at h'
   refine run_front hx hm hp o o' hw h1 h2 h3 N _ r r' k1 (fun d hd=>?_) h h'
   rw [look_log] at hd
   rcases List.mem_append.1 hd with hd | hd
   ·exact hl d hd
   ·rw [List.mem_singleton.1 hd]
    exact ⟨htn,_,rfl⟩
structure SFine (r:SRes):Prop where
 plan:r.plan.length<2^62
 routes:∀p∈r.plan,p.length<2^62
 log:r.log.length<2^30
 each:∀d∈r.log,d.1.path.length<2^31∧d.2.layers.length<2^31∧∀l∈d.2.layers,l.length<2^31∧∀n∈l,n.path.length<2^31
def PlanI (s:SS):Prop:=s.up≤inf∧(s.up<inf∨s.plan=[])
theorem PlanI.offer {s:SS} (h:PlanI s) (b:Node×Bool):PlanI (s.offer b):=by
 unfold SS.offer
 split
 ·rename_i hc
  have:=h.1
  exact ⟨by show b.1.cost≤inf;omega,.inl (by show b.1.cost<inf;omega)⟩
 ·exact h
theorem PlanI.offers {x:Inst}:∀(ls:List (List Node)) (s:SS),PlanI s→PlanI (x.offers s ls)
 |[],s,h=>h
 |l :: ls,s,h=>PlanI.offers ls (s.offer (x.bests l)) (h.offer _)
theorem push_plan (x:Inst) (low:Int) (s:SS) (n:Node):(x.push low s n).plan=s.plan:=by
 rcases push_or x low s n with ⟨e,_⟩ | ⟨_,e⟩<;>rw [e]
theorem PlanI.pushes {x:Inst} {low:Int}:∀(l:List Node) (s:SS),PlanI s→PlanI (l.foldl (x.push low) s)
 |[],s,h=>h
 |n :: l,s,h=>PlanI.pushes l (x.push low s n) (by unfold PlanI;rw [push_plan,(push_up x low s n).1];exact h)
theorem PlanI.look {x:Inst} {w:Int} {s:SS} (h:PlanI s) (n:Node):PlanI (x.lookS w s n):=by
 have h1:PlanI (s.nar x w n):=PlanI.offer (s:=s.plus (x.narrow n w s.up).2.2) h _
 rw [Inst.lookS]
 generalize s.nar x w n=t at *
 unfold Inst.lookD
 split
 ·exact h1
 split
 ·exact PlanI.offer (s:=(t.dia n _).plus _) h1 _
 ·exact PlanI.pushes _ _ (PlanI.offers _ _ h1)
theorem run_plan {x:Inst} (o:Opt):∀(N:Nat) (s:SS) (r:SRes),PlanI s→x.runGo o N s=some r→r.up<inf∨r.plan=[]
 |0,s,r,_,h=>by cases h
 |N+1,s,r,hs,h=>by
  rw [Inst.runGo] at h
  cases ht:takeQ o.order s.q with
  |none=>
   rw [ht] at h
   cases h
   exact hs.2
  |some r'=>
   obtain ⟨e,q⟩:=r'
   rw [ht] at h
   simp only at h
   have hq:PlanI (s.left q):=hs
   by_cases c1:s.up≤e.bound
   ·rw [if_pos c1] at h
    exact run_plan o N _ r hq h
   rw [if_neg c1] at h
   by_cases c2:o.budget≤s.steps
   ·rw [if_pos c2] at h
    cases h
    exact hs.2
   rw [if_neg c2] at h
   exact run_plan o N _ r (hq.look _) h
theorem search_fine {x:Inst} {o:Opt} (hl:x.stops.length≤7) (hm:x.may=true) (ho:o.mayB=true) (hw:o.width≤40):SFine (x.search o):=by
 obtain ⟨p,hx⟩:=x.fit hm
 have hp:p≤3:=by have:=hx.len;omega
 have hrun:=search_is hx hm hp ho hw
 have hg:=start_going hx hm hp
 have hlog0:x.start.log=[]:=(push_up x 0 ⟨[],[],inf,[],0,[]⟩ x.rootN).2.1
 obtain ⟨i1,_,i3⟩:=run_log hx hm hp o hw 1850 x.start _ hg (fun d hd=>by rw [hlog0] at hd;cases hd) hrun
 have hpl:=run_plan o 1850 x.start _ (by unfold PlanI;rw [Inst.start,push_plan,(push_up x 0 _ x.rootN).1];exact ⟨Int.le_refl _,.inr rfl⟩) hrun
 have ht:=search_told hl hm ho hw
 have hplan:(x.search o).plan.length<2^62∧∀p∈(x.search o).plan,p.length<2^62:=by
  rcases hpl with h | h
  ·obtain ⟨hok,_⟩:=cost_ok hx hm (ht.plan h)
   have h1:=hok.cars
   have h2:=hx.cars
   have h3:=hx.few
   refine ⟨by omega,fun r hr=>?_⟩
   have:=(times_ok hx hm (hok.each r hr).2).2.1
   omega
  ·rw [h];simp
 refine ⟨hplan.1,hplan.2,by omega,fun d hd=>?_⟩
 obtain ⟨h1,up,h2⟩:=i1 d hd
 have hpre:=look_pre hx hm hp h1 hw
 obtain ⟨⟨f1,f2,f3⟩,_⟩:=hpre.lay up
 rw [h2]
 refine ⟨by have:=hpre.path;omega,by omega,fun l hl=>⟨by have:=f2 l hl;omega,fun n hn=>by have:=(f3 l hl n hn).2;omega⟩⟩
theorem logT_get (l:List (Node×Diag)) {k:Nat} (h:k<l.length) (h':k<(logT l).length):(logT l)[k]'h'=Done.t l[k]:=by simp [logT]
def SRes.same (a b:SRes):Bool:=decide (a.status=b.status∧a.up=b.up∧a.low=b.low∧a.steps=b.steps∧a.log.length=b.log.length∧a.plan=b.plan)
theorem ssame_pure (a b:SRes) (ha:SFine a) (hb:SFine b) (hlog:a.log.length=b.log.length→a.log=b.log):Pure P 30 [a.a,b.a] (.b (a.same b)):=by
 generalize hR:a.same b=R
 refine pure_of Tryz.func30 rfl rfl (by simp [Tryz.f30]) (by simp [bnd,bnd.bndL,SRes.a]) (by simp [bnd,bnd.bndL]) fun B hB hnx=>?_
 simp only [Tryz.f30] at hB ⊢
 rw [SRes.same] at hR
 have h1:(logT a.log).length=a.log.length:=List.length_map _
 have h2:(logT b.log).length=b.log.length:=List.length_map _
 have hpl:=rsameL_pure a.plan b.plan ha.plan hb.plan ha.routes hb.routes
 by_cases c1:a.status=b.status
 rotate_left
 ·have:R=false:=by rw [←hR];exact decide_eq_false fun h=>c1 h.1
  refine K_run hB 100 ?_
  simp [go_sem,SRes.a,h1,h2,c1,this]
 by_cases c2:a.up=b.up
 rotate_left
 ·have:R=false:=by rw [←hR];exact decide_eq_false fun h=>c2 h.2.1
  refine K_run hB 100 ?_
  simp [go_sem,SRes.a,h1,h2,c1,c2,this]
 by_cases c3:a.low=b.low
 rotate_left
 ·have:R=false:=by rw [←hR];exact decide_eq_false fun h=>c3 h.2.2.1
  refine K_run hB 100 ?_
  simp [go_sem,SRes.a,h1,h2,c1,c2,c3,this]
 by_cases c4:a.steps=b.steps
 rotate_left
 ·have:R=false:=by rw [←hR];exact decide_eq_false fun h=>c4 h.2.2.2.1
  refine K_run hB 100 ?_
  simp [go_sem,SRes.a,h1,h2,c1,c2,c3,c4,this]
 by_cases c5:a.log.length=b.log.length
 rotate_left
 ·have:R=false:=by rw [←hR];exact decide_eq_false fun h=>c5 h.2.2.2.2.1
  refine K_run hB 100 ?_
  simp [go_sem,SRes.a,h1,h2,c1,c2,c3,c4,c5,this]
 have hR2:decide (a.plan=b.plan)=R:=by rw [←hR];exact decide_eq_decide.2 ⟨fun h=>⟨c1,c2,c3,c4,c5,h⟩,fun h=>h.2.2.2.2.2⟩
 rw [hR2] at hpl
 have hlog:=(hlog c5).symm
 rw [hlog] at h2
 have hae:=ha.each
 have hal:=ha.log
 refine K_run hB 100 ?_
 simp [go_sem,SRes.a,h1,h2,c1,c2,c3,c4,hlog]
 refine K_call rfl rfl rfl (args:=[.t (.sl (planT a.plan)),.t (.sl (planT b.plan))]) (f:=69) (by simp [go_sem]) (by simp [go_sem,hB]) ((hpl).spec _ _) ?_
 refine K_run hB 100 ?_
 simp [go_sem]
 refine K_loopP (α:=Nat) (fun j=>j≤a.log.length) (fun j=>⟨sl [(2,.ptr 0 0),(3,.ptr 1 0),(5,.b R),(6,.i j)],_,_⟩) (fun j=>a.log.length-j) 0 (Nat.zero_le _) (Imp.slots (by simp [go_sem]) rfl rfl) ?_
 intro j hj0
 refine K_run hB 60 ?_
 simp [go_sem,h1]
 refine fork_dec (fun hj=>?_) (fun hj=>?_)
 ·have hjj:IntKind.i64.wrap ((j:Int)+1)=((j+1:Nat):Int):=by rw [w64 ((j:Int)+1) (by omega)];rfl
  have hgj:=fun h=>logT_get a.log hj h
  obtain ⟨d1,d2,d3⟩:=hae _ (List.getElem_mem hj)
  have hs1:=rsameN_pure [a.log[j].1] [a.log[j].1] (by simp) (by simp) (by simp;omega) (by simp;omega)
  rw [decide_eq_true rfl] at hs1
  have hs2:=rsameD_pure a.log[j].2 d2 d3
  obtain ⟨d,hd⟩:∃d,d=a.log[j]:=⟨_,rfl⟩
  rw [←hd] at hgj d1 d2 d3 hs1 hs2
  obtain ⟨n,D⟩:=d
  simp only at hs1 hs2
  simp [go_sem]
  refine K_drawn [] rfl (by rw [hB];kernel_rfl) ?_
  refine K_run hB 100 ?_
  simp [go_sem,h1,h2,hj,hgj,Done.t,Node.t]
  refine K_dCallP rfl rfl rfl (args:=[.fsl (nodesT [n]),.fsl (nodesT [n])]) (f:=70) (by simp [go_sem,nodesT,Node.t]) (Pure.loose hs1 (by simp [bnd])) ?_
  refine K_run hB 100 ?_
  simp [go_sem]
  refine K_drawn [] rfl (by rw [hB];kernel_rfl) ?_
  refine K_run hB 100 ?_
  simp [go_sem,h1,h2,hj,hgj,Done.t,Node.t]
  refine K_dCallP rfl rfl rfl (args:=[D.a,D.a]) (f:=71) (by simp [go_sem,Diag.a,Diag.cs]) (hs2) ?_
  refine K_run hB 100 ?_
  simp [go_sem,hjj]
  exact Next.mk (j+1) (by omega) (Imp.slots (by simp [go_sem]) rfl rfl) (by omega)
 ·simp [go_sem]
theorem lsbudget_pure (x:Inst) (o:Opt) (more:Int) (hl:x.stops.length<2^63):Pure P 9 [x.a,o.a,.i more] (.b true):=by
 refine pure_of Tryz.func9 rfl rfl (by simp [Tryz.f9]) (by simp [bnd,bnd.bndL,Inst.a,Opt.a,Opt.cs]) (by simp [bnd,bnd.bndL]) fun B hB hnx=>?_
 simp only [Tryz.f9] at hB ⊢
 have hf:=few19_pure x o hl
 have hm:=may_pure x hl
 have ho:=omay_pure o
 refine K_run hB 100 ?_
 simp [go_sem,Inst.a,Opt.a,Opt.cs]
 refine K_call rfl rfl rfl (args:=[]) (f:=28) (by simp [go_sem]) (by simp [go_sem,hB]) ((awake19_pure).spec _ _) ?_
 refine K_run hB 100 ?_
 simp [go_sem]
 refine K_call rfl rfl rfl (args:=[x.a,o.a]) (f:=29) (by simp [go_sem,Inst.a,Opt.a,Opt.cs]) (by simp [go_sem,hB]) ((hf).spec _ _) ?_
 cases cf:fewO x o with
 |false=>
  refine K_run hB 100 ?_
  simp [go_sem]
 |true=>
  simp only [fewO,Bool.and_eq_true,decide_eq_true_eq] at cf
  refine K_run hB 100 ?_
  simp [go_sem]
  refine K_call rfl rfl rfl (args:=[x.a]) (f:=33) (by simp [go_sem,Inst.a]) (by simp [go_sem,hB]) ((hm).spec _ _) ?_
  cases cm:x.may with
  |false=>
   refine K_run hB 100 ?_
   simp [go_sem]
  |true=>
   refine K_run hB 100 ?_
   simp [go_sem]
   refine K_call rfl rfl rfl (args:=[o.a]) (f:=34) (by simp [go_sem,Opt.a,Opt.cs]) (by simp [go_sem,hB]) ((ho).spec _ _) ?_
   cases co:o.mayB with
   |false=>
    refine K_run hB 100 ?_
    simp [go_sem]
   |true=>
    have hob:=of_decide_eq_true co
    have w1:IntKind.i64.wrap (549755813888-o.budget)=549755813888-o.budget:=w64 _ (by omega)
    by_cases c1:more<0
    ·refine K_run hB 100 ?_
     simp [go_sem,c1]
    by_cases c2:549755813888-o.budget<more
    ·refine K_run hB 100 ?_
     simp [go_sem,c1,w1,c2]
    have w2:IntKind.i64.wrap (o.budget+more)=o.budget+more:=w64 _ (by omega)
    obtain ⟨p,hx⟩:=x.fit cm
    have hp:p≤3:=by have:=hx.len;omega
    have co2:Opt.mayB {o with budget:=o.budget+more}=true:=decide_eq_true (by simp only;omega)
    have hs:=srun_pure x o cf.1 cf.2
    have ht:=srun_pure x {o with budget:=o.budget+more} cf.1 cf.2
    have hg:=start_going hx cm hp
    have hlog0:x.start.log=[]:=(push_up x 0 ⟨[],[],inf,[],0,[]⟩ x.rootN).2.1
    have r1:=search_is hx cm hp co cf.2
    have r2:=search_is (o:={o with budget:=o.budget+more}) hx cm hp co2 cf.2
    obtain ⟨m1,m2,m3,m4⟩:=run_more hx cm hp o {o with budget:=o.budget+more} cf.2 rfl rfl (by simp only;omega) 1850 x.start _ _ hg r1 r2
    have hpre:=run_front hx cm hp o {o with budget:=o.budget+more} cf.2 rfl rfl (by simp only;omega) 1850 x.start _ _ hg (fun d hd=>by rw [hlog0] at hd;cases hd) r1 r2
    have hsm:=ssame_pure _ _ (search_fine cf.1 cm co cf.2) (search_fine (o:={o with budget:=o.budget+more}) cf.1 cm co2 cf.2) fun h=>hpre.eq_of_length h
    clear r1 r2 hpre hg hlog0
    generalize x.search o=r at *
    generalize x.search {o with budget:=o.budget+more}=r2 at *
    have hsame:r.status≠4→r.same r2=true:=fun h=>by rw [m1 h];simp [SRes.same]
    generalize r.same r2=S at *
    have l1:(logT r.log).length=r.log.length:=List.length_map _
    have l2:(logT r2.log).length=r2.log.length:=List.length_map _
    refine K_run hB 100 ?_
    simp [go_sem,c1,w1,c2,w2]
    refine K_call rfl rfl rfl (args:=[x.a,o.a]) (f:=31) (by simp [go_sem,Inst.a,Opt.a,Opt.cs]) (by simp [go_sem,hB]) ((hs).spec _ _) ?_
    refine K_run hB 100 ?_
    simp [go_sem,w2,SRes.a]
    refine K_call rfl rfl rfl (args:=[x.a,Opt.a {o with budget:=o.budget+more}]) (f:=31) (by simp [go_sem,Inst.a,Opt.a,Opt.cs]) (by simp [go_sem,hB]) ((ht).spec _ _) ?_
    refine K_run hB 100 ?_
    simp [go_sem,SRes.a]
    refine K_call rfl rfl rfl (args:=[r.a,r2.a]) (f:=30) (by simp [go_sem,SRes.a]) (by simp [go_sem,hB]) ((hsm).spec _ _) ?_
    by_cases c4:r.status=4
    ·refine K_run hB 100 ?_
     simp [go_sem,c4,m2,m3,m4,l1,l2]
    ·have:=hsame c4
     refine K_run hB 100 ?_
     simp [go_sem,c4,this]
end Go.Proofs.YtackfabapangdaaGreat
