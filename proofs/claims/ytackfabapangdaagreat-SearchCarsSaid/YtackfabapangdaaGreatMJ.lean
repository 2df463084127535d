/- Parts of the proof: Law19b, Law19c. -/
import Derived.Test.YtackfabapangdaaGreatMI
set_option linter.unusedVariables false
set_option maxHeartbeats 4000000
set_option maxRecDepth 4000
set_option maxHeartbeats 1000000
namespace Go.Proofs.YtackfabapangdaaGreat
open Go Go.Proofs.YtackfabapangdaaGreat.R
structure Whole (x:Inst) (r:SRes):Prop where
 low:r.low=r.up
 least:∀v c,x.way v x.rootS c→r.up≤c
 some:r.up<inf→r.status=2∧∃v,x.way v x.rootS r.up
 none:¬r.up<inf→r.status=3∧r.up=inf
theorem search_whole {x:Inst} {o:Opt} (hl:x.stops.length≤7) (hm:x.may=true) (ho:o.mayB=true) (hw:o.width≤40) (hb:o.budget=549755813888):Whole x (x.search o):=by
 obtain ⟨p,hx⟩:=x.fit hm
 have hp:p≤3:=by have:=hx.len;omega
 have h4:=run_whole hx hm hp o hw (by omega) 1850 x.start _ (start_going hx hm hp) (search_is hx hm hp ho hw)
 obtain ⟨k1,k2,k3,k4,k5⟩:=search_told hl hm ho hw
 generalize x.search o=r at *
 have hlow:r.low=r.up:=by
  rcases k5 with ⟨_,h,_⟩ | ⟨_,h1,h2⟩ | ⟨h,_⟩
  ·exact h
  ·rw [h1,h2]
  ·exact absurd h h4
 refine ⟨hlow,fun v c hv=>by have:=k3 v c hv;omega,fun hu=>⟨?_,plan_way hm (k2 hu)⟩,fun hu=>?_⟩
 ·rcases k5 with ⟨h,_⟩ | ⟨_,_,h⟩ | ⟨h,_⟩
  ·exact h
  ·omega
  ·exact absurd h h4
 ·rcases k5 with ⟨_,_,h⟩ | ⟨h,_,h2⟩ | ⟨h,_⟩
  ·exact absurd h hu
  ·exact ⟨h,h2⟩
  ·exact absurd h h4
theorem Whole.same {x:Inst} {a b:SRes} (ha:Whole x a) (hb:Whole x b):a.status=b.status∧a.up=b.up∧a.low=b.low:=by
 have hu:a.up=b.up:=by
  by_cases h1:a.up<inf
  ·obtain ⟨_,v,hv⟩:=ha.some h1
   have h2:=hb.least v _ hv
   obtain ⟨_,w,hw⟩:=hb.some (by omega)
   have:=ha.least w _ hw
   omega
  ·have h3:=(ha.none h1).2
   by_cases h2:b.up<inf
   ·obtain ⟨_,w,hw⟩:=hb.some h2
    have:=ha.least w _ hw
    omega
   ·rw [h3,(hb.none h2).2]
 refine ⟨?_,hu,by rw [ha.low,hb.low,hu]⟩
 by_cases h1:a.up<inf
 ·rw [(ha.some h1).1,(hb.some (by omega)).1]
 ·rw [(ha.none h1).1,(hb.none (by omega)).1]
theorem Whole.every {x:Inst} (hm:x.may=true) {r:SRes} (h:Whole x r):(x.everyAll=inf→r.status=3)∧(x.everyAll≠inf→r.status=2∧r.up=x.everyAll):=by
 obtain ⟨p,hx⟩:=x.fit hm
 have hd:x.deepN≤1000:=by
  have:=hx.pairs
  have:=hx.few
  have:=hx.cars
  unfold Inst.deepN
  omega
 have hle:∀v c,x.way v x.rootS c→x.everyAll≤c:=fun v c hv=>every_has x _ hv (way_root_len hx hm hv) hd
 have hin:0≤x.everyAll∧x.everyAll≤inf:=every_in x _ x.rootS
 refine ⟨fun he=>?_,fun he=>?_⟩
 ·by_cases hu:r.up<inf
  ·obtain ⟨_,v,hv⟩:=h.some hu
   have:=hle v _ hv
   omega
  ·exact (h.none hu).1
 ·obtain ⟨w,hw⟩:∃w,x.way w x.rootS x.everyAll:=every_from x _ x.rootS (by have:x.every x.deepN x.rootS=x.everyAll:=rfl;omega)
  have h1:=h.least w _ hw
  obtain ⟨h2,v,hv⟩:=h.some (by omega)
  have:=hle v _ hv
  exact ⟨h2,by omega⟩
theorem more_move {x y:Inst} (hy:y={x with cars:=y.cars,room:=y.room}) (hm:y.may=true) (hc:x.cars≤y.cars) (hr:x.room≤y.room) {s:State} {j:Int} (h:(x.move s j).2.2=true):y.move s j=x.move s j:=by
 obtain ⟨h1,h2,h3,h4,h5⟩:=move_is h
 obtain ⟨a,b,c,d⟩:=x
 obtain ⟨a',b',c',d'⟩:=y
 cases hy
 simp only at hc hr
 have e1:s.mayB ⟨a,b',c',d⟩=true:=by
  simp only [State.mayB,Bool.and_eq_true,decide_eq_true_eq] at h2 ⊢
  obtain ⟨⟨⟨⟨⟨⟨⟨g1,g2⟩,g3⟩,g4⟩,g5⟩,g6⟩,g7⟩,g8⟩:=h2
  exact ⟨⟨⟨⟨⟨⟨⟨g1,g2⟩,g3⟩,by omega⟩,g5⟩,g6⟩,g7⟩,g8⟩
 have e2:Inst.to ⟨a,b',c',d⟩ s j=Inst.to ⟨a,b,c,d⟩ s j:=by
  unfold Inst.to at h4 ⊢
  split
  ·rename_i hj
   rw [if_pos hj] at h4
   unfold Inst.home at h4 ⊢
   split at h4
   ·cases h4
   rename_i hs
   rw [if_neg hs]
   refine if_neg fun hs'=>hs ?_
   simp only [Inst.stayB,Bool.or_eq_true,decide_eq_true_eq] at hs' ⊢
   rcases hs' with (((g | g) | g) | g) | g
   ·exact .inl (.inl (.inl (.inl g)))
   ·exact .inl (.inl (.inl (.inr g)))
   ·exact .inl (.inl (.inr (by omega)))
   ·exact .inl (.inr g)
   ·exact .inr g
  rename_i hj
  rw [if_neg hj] at h4
  split
  ·rename_i hp
   rw [if_pos hp] at h4
   unfold Inst.take at h4 ⊢
   split at h4
   ·cases h4
   rename_i hs
   rw [if_neg hs,if_neg fun hs'=>hs ?_]
   ·rfl
   ·simp only [Inst.fullB,Bool.or_eq_true,decide_eq_true_eq] at hs' ⊢
    rcases hs' with g | g
    ·exact .inl (by have:(Inst.stop ⟨a,b',c',d⟩ j).demand=(Inst.stop ⟨a,b,c,d⟩ j).demand:=rfl;omega)
    ·exact .inr g
  ·rfl
 rw [h5]
 unfold Inst.move
 rw [if_pos ⟨hm,e1⟩]
 unfold Inst.step
 simp only at h3
 rw [if_neg (by simp only;omega),e2,if_pos h4]
 rfl
theorem more_root {x y:Inst} (hy:y={x with cars:=y.cars,room:=y.room}) (hx:x.may=true) (hm:y.may=true):y.rootS=x.rootS:=by
 rw [Inst.rootS,Inst.rootS,if_pos hx,if_pos hm,hy]
 rfl
theorem more_end {x y:Inst} (hy:y={x with cars:=y.cars,room:=y.room}) (hx:x.may=true) (hm:y.may=true) (hc:x.cars≤y.cars) {s:State} (h:(x.endS s).2=true):y.endS s=x.endS s:=by
 have hroot:=more_root hy hx hm
 have hp:y.pairs=x.pairs:=by rw [hy]
 have hst:∀j,y.stop j=x.stop j:=fun j=>by rw [hy];rfl
 have hall:∀m,y.allB m=x.allB m:=fun m=>by rw [hy];rfl
 have e0:x.may≠false:=by simp [hx]
 have e0':y.may≠false:=by simp [hm]
 unfold Inst.endS at h ⊢
 rw [if_neg e0] at h
 rw [if_neg e0,if_neg e0',hroot,hp]
 by_cases h1:x.pairs=0∧s=x.rootS
 ·rw [if_pos h1,if_pos h1]
 rw [if_neg h1] at h
 rw [if_neg h1,if_neg h1]
 split at h
 ·rename_i h2
  obtain ⟨g1,g2,g3,g4,g5⟩:=h2
  have e1:s.mayB y=true:=by
   simp only [State.mayB,Bool.and_eq_true,decide_eq_true_eq,hp] at g1 ⊢
   obtain ⟨⟨⟨⟨⟨⟨⟨k1,k2⟩,k3⟩,k4⟩,k5⟩,k6⟩,k7⟩,k8⟩:=g1
   exact ⟨⟨⟨⟨⟨⟨⟨k1,k2⟩,k3⟩,by omega⟩,k5⟩,k6⟩,k7⟩,k8⟩
  rw [if_pos ⟨e1,g2,g3,by rw [hall];exact g4,by rw [hst,hst];exact g5⟩,if_pos ⟨g1,g2,g3,g4,g5⟩,hst,hst]
 ·cases h
theorem more_way {x y:Inst} (hy:y={x with cars:=y.cars,room:=y.room}) (hx:x.may=true) (hm:y.may=true) (hc:x.cars≤y.cars) (hr:x.room≤y.room):∀{v:List Int} {s:State} {c:Int},x.way v s c→y.way v s c
 |[],s,c,h=>by
  have:=more_end hy hx hm hc h.1
  rw [Inst.way,this]
  exact h
 |j :: v,s,c,h=>by
  obtain ⟨h1,d,h2,h3⟩:=h
  have:=more_move hy hm hc hr h1
  rw [Inst.way,this]
  exact ⟨h1,d,more_way hy hx hm hc hr h2,h3⟩
theorem lsevery_pure (x:Inst) (o:Opt) (hl:x.stops.length<2^63):Pure P 8 [x.a,o.a] (.b true):=by
 refine pure_of Tryz.func8 rfl rfl (by simp [Tryz.f8]) (by simp [bnd,bnd.bndL,Inst.a,Opt.a,Opt.cs]) (by simp [bnd,bnd.bndL]) fun B hB hnx=>?_
 simp only [Tryz.f8] at hB ⊢
 have hm:=may_pure x hl
 have ho:=omay_pure {o with budget:=549755813888}
 refine K_run hB 100 ?_
 simp [go_sem,Inst.a,Opt.a,Opt.cs]
 refine K_call rfl rfl rfl (args:=[]) (f:=28) (by simp [go_sem]) (by simp [go_sem,hB]) ((awake19_pure).spec _ _) ?_
 by_cases c1:5<(x.stops.length:Int)
 ·refine K_run hB 100 ?_
  simp [go_sem,c1]
 by_cases c2:40<o.width
 ·refine K_run hB 100 ?_
  simp [go_sem,c1,c2]
 refine K_run hB 100 ?_
 simp [go_sem,c1,c2]
 refine K_call rfl rfl rfl (args:=[x.a]) (f:=33) (by simp [go_sem,Inst.a]) (by simp [go_sem,hB]) ((hm).spec _ _) ?_
 cases cm:x.may with
 |false=>
  refine K_run hB 100 ?_
  simp [go_sem]
 |true=>
  refine K_run hB 100 ?_
  simp [go_sem]
  refine K_call rfl rfl rfl (args:=[Opt.a {o with budget:=549755813888}]) (f:=34) (by simp [go_sem,Opt.a,Opt.cs]) (by simp [go_sem,hB]) ((ho).spec _ _) ?_
  cases co:Opt.mayB {o with budget:=549755813888} with
  |false=>
   refine K_run hB 100 ?_
   simp [go_sem]
  |true=>
   have hs:=srun_pure x {o with budget:=549755813888} (by omega) (by simp only;omega)
   obtain ⟨k1,k2⟩:=(search_whole (o:={o with budget:=549755813888}) (by omega) cm co (by simp only;omega) rfl).every cm
   have h3:=everyAll_pure x cm
   generalize x.search {o with budget:=549755813888}=r at *
   generalize x.everyAll=E at *
   refine K_run hB 100 ?_
   simp [go_sem]
   refine K_call rfl rfl rfl (args:=[x.a,Opt.a {o with budget:=549755813888}]) (f:=31) (by simp [go_sem,Inst.a,Opt.a,Opt.cs]) (by simp [go_sem,hB]) ((hs).spec _ _) ?_
   refine K_run hB 100 ?_
   simp [go_sem,SRes.a]
   refine K_call rfl rfl rfl (args:=[x.a]) (f:=24) (by simp [go_sem,Inst.a]) (by simp [go_sem,hB]) ((h3).spec _ _) ?_
   by_cases ce:E=1152921504606846976
   ·have s1:=k1 ce
    refine K_run hB 100 ?_
    simp [go_sem,ce,s1]
   ·obtain ⟨s1,s2⟩:=k2 ce
    refine K_run hB 100 ?_
    simp [go_sem,ce,s1,s2]
theorem lswidths_pure (x:Inst) (o q:Opt) (hl:x.stops.length<2^63):Pure P 10 [x.a,o.a,q.a] (.b true):=by
 refine pure_of Tryz.func10 rfl rfl (by simp [Tryz.f10]) (by simp [bnd,bnd.bndL,Inst.a,Opt.a,Opt.cs]) (by simp [bnd,bnd.bndL]) fun B hB hnx=>?_
 simp only [Tryz.f10] at hB ⊢
 have hf:=few19_pure x o hl
 have hf2:=few19_pure x q hl
 have hm:=may_pure x hl
 have ho:=omay_pure {o with budget:=549755813888}
 have hq:=omay_pure {q with budget:=549755813888}
 refine K_run hB 100 ?_
 simp [go_sem,Inst.a,Opt.a,Opt.cs]
 refine K_call rfl rfl rfl (args:=[]) (f:=28) (by simp [go_sem]) (by simp [go_sem,hB]) ((awake19_pure).spec _ _) ?_
 refine K_run hB 100 ?_
 simp [go_sem]
 refine K_call rfl rfl rfl (args:=[x.a,o.a]) (f:=29) (by simp [go_sem,Inst.a,Opt.a,Opt.cs]) (by simp [go_sem,hB]) ((hf).spec _ _) ?_
 refine K_run hB 100 ?_
 simp [go_sem]
 refine K_call rfl rfl rfl (args:=[x.a,q.a]) (f:=29) (by simp [go_sem,Inst.a,Opt.a,Opt.cs]) (by simp [go_sem,hB]) ((hf2).spec _ _) ?_
 cases cf:fewO x o with
 |false=>
  refine K_run hB 100 ?_
  simp [go_sem]
 |true=>
  cases cg:fewO x q with
  |false=>
   refine K_run hB 100 ?_
   simp [go_sem]
  |true=>
   simp only [fewO,Bool.and_eq_true,decide_eq_true_eq] at cf cg
   refine K_run hB 100 ?_
   simp [go_sem]
   refine K_call rfl rfl rfl (args:=[x.a]) (f:=33) (by simp [go_sem,Inst.a]) (by simp [go_sem,hB]) ((hm).spec _ _) ?_
   cases cm:x.may with
   |false=>
    refine K_run hB 100 ?_
    simp [go_sem]
   |true=>
    refine K_run hB 100 ?_
    simp [go_sem]
    refine K_call rfl rfl rfl (args:=[Opt.a {o with budget:=549755813888}]) (f:=34) (by simp [go_sem,Opt.a,Opt.cs]) (by simp [go_sem,hB]) ((ho).spec _ _) ?_
    cases co:Opt.mayB {o with budget:=549755813888} with
    |false=>
     refine K_run hB 100 ?_
     simp [go_sem]
    |true=>
     refine K_run hB 100 ?_
     simp [go_sem]
     refine K_call rfl rfl rfl (args:=[Opt.a {q with budget:=549755813888}]) (f:=34) (by simp [go_sem,Opt.a,Opt.cs]) (by simp [go_sem,hB]) ((hq).spec _ _) ?_
     cases cq:Opt.mayB {q with budget:=549755813888} with
     |false=>
      refine K_run hB 100 ?_
      simp [go_sem]
     |true=>
      have hs:=srun_pure x {o with budget:=549755813888} cf.1 cf.2
      have ht:=srun_pure x {q with budget:=549755813888} cf.1 cg.2
      obtain ⟨k1,k2,k3⟩:=(search_whole (o:={o with budget:=549755813888}) cf.1 cm co cf.2 rfl).same (search_whole (o:={q with budget:=549755813888}) cf.1 cm cq cg.2 rfl)
      generalize x.search {o with budget:=549755813888}=r at *
      generalize x.search {q with budget:=549755813888}=r2 at *
      refine K_run hB 100 ?_
      simp [go_sem]
      refine K_call rfl rfl rfl (args:=[x.a,Opt.a {o with budget:=549755813888}]) (f:=31) (by simp [go_sem,Inst.a,Opt.a,Opt.cs]) (by simp [go_sem,hB]) ((hs).spec _ _) ?_
      refine K_run hB 100 ?_
      simp [go_sem,SRes.a]
      refine K_call rfl rfl rfl (args:=[x.a,Opt.a {q with budget:=549755813888}]) (f:=31) (by simp [go_sem,Inst.a,Opt.a,Opt.cs]) (by simp [go_sem,hB]) ((ht).spec _ _) ?_
      refine K_run hB 100 ?_
      simp [go_sem,SRes.a,k1,k2,k3]
end Go.Proofs.YtackfabapangdaaGreat

set_option maxRecDepth 4000
set_option maxHeartbeats 1000000
namespace Go.Proofs.YtackfabapangdaaGreat
open Go Go.Proofs.YtackfabapangdaaGreat.R
def Inst.more (x:Inst) (a b:Int):Inst:={x with cars:=x.cars+a,room:=x.room+b}
theorem more_search {x:Inst} {a b:Int} (ha:0≤a) (hb:0≤b) {o:Opt} (hl:x.stops.length≤7) (hm:x.may=true) (hy:(x.more a b).may=true) (ho:o.mayB=true) (hw:o.width≤40) (hbu:o.budget=549755813888):((x.more a b).search o).up≤(x.search o).up:=by
 have h1:=search_whole hl hm ho hw hbu
 have h2:=search_whole (x:=x.more a b) hl hy ho hw hbu
 by_cases hu:(x.search o).up<inf
 ·obtain ⟨_,v,hv⟩:=h1.some hu
  refine h2.least v _ ?_
  rw [more_root (x:=x) rfl hm hy]
  exact more_way (x:=x) rfl hm hy (by show x.cars≤x.cars+a;omega) (by show x.room≤x.room+b;omega) hv
 ·have h3:=(h1.none hu).2
  by_cases hu2:((x.more a b).search o).up<inf
  ·omega
  ·have:=(h2.none hu2).2
   omega
theorem lscars_pure (x:Inst) (o:Opt) (a b:Int) (hl:x.stops.length<2^63):Pure P 12 [x.a,o.a,.i a,.i b] (.b true):=by
 refine pure_of Tryz.func12 rfl rfl (by simp [Tryz.f12]) (by simp [bnd,bnd.bndL,Inst.a,Opt.a,Opt.cs]) (by simp [bnd,bnd.bndL]) fun B hB hnx=>?_
 simp only [Tryz.f12] at hB ⊢
 have hf:=few19_pure x o hl
 have hm:=may_pure x hl
 have ho:=omay_pure {o with budget:=549755813888}
 refine K_run hB 100 ?_
 simp [go_sem,Inst.a,Opt.a,Opt.cs]
 refine K_call rfl rfl rfl (args:=[]) (f:=28) (by simp [go_sem]) (by simp [go_sem,hB]) ((awake19_pure).spec _ _) ?_
 refine K_run hB 100 ?_
 simp [go_sem]
 refine K_call rfl rfl rfl (args:=[x.a,o.a]) (f:=29) (by simp [go_sem,Inst.a,Opt.a,Opt.cs]) (by simp [go_sem,hB]) ((hf).spec _ _) ?_
 cases cf:fewO x o with
 |false=>
  refine K_run hB 100 ?_
  simp [go_sem]
 |true=>
  simp only [fewO,Bool.and_eq_true,decide_eq_true_eq] at cf
  refine K_run hB 100 ?_
  simp [go_sem]
  refine K_call rfl rfl rfl (args:=[x.a]) (f:=33) (by simp [go_sem,Inst.a]) (by simp [go_sem,hB]) ((hm).spec _ _) ?_
  cases cm:x.may with
  |false=>
   refine K_run hB 100 ?_
   simp [go_sem]
  |true=>
   refine K_run hB 100 ?_
   simp [go_sem]
   refine K_call rfl rfl rfl (args:=[Opt.a {o with budget:=549755813888}]) (f:=34) (by simp [go_sem,Opt.a,Opt.cs]) (by simp [go_sem,hB]) ((ho).spec _ _) ?_
   cases co:Opt.mayB {o with budget:=549755813888} with
   |false=>
    refine K_run hB 100 ?_
    simp [go_sem]
   |true=>
    by_cases c1:a<0
    ·refine K_run hB 100 ?_
     simp [go_sem,c1]
    by_cases c2:8<a
    ·refine K_run hB 100 ?_
     simp [go_sem,c1,c2]
    by_cases c3:b<0
    ·refine K_run hB 100 ?_
     simp [go_sem,c1,c2,c3]
    by_cases c4:1000<b
    ·refine K_run hB 100 ?_
     simp [go_sem,c1,c2,c3,c4]
    obtain ⟨p,hx⟩:=x.fit cm
    have hcars:=hx.cars
    have hroom:=hx.room
    have w1:IntKind.i64.wrap (x.cars+a)=x.cars+a:=w64 _ (by omega)
    have w2:IntKind.i64.wrap (x.room+b)=x.room+b:=w64 _ (by omega)
    have hy:=may_pure (x.more a b) hl
    have hk:=fun h=>more_search (x:=x) (a:=a) (b:=b) (by omega) (by omega) (o:={o with budget:=549755813888}) cf.1 cm h co cf.2 rfl
    have hs:=srun_pure x {o with budget:=549755813888} cf.1 cf.2
    have ht:=srun_pure (x.more a b) {o with budget:=549755813888} cf.1 cf.2
    refine K_run hB 100 ?_
    simp [go_sem,c1,c2,c3,c4,w1,w2]
    refine K_call rfl rfl rfl (args:=[Inst.a (x.more a b)]) (f:=33) (by simp [go_sem,Inst.a,Inst.more]) (by simp [go_sem,hB]) ((hy).spec _ _) ?_
    cases cy:(x.more a b).may with
    |false=>
     refine K_run hB 100 ?_
     simp [go_sem]
    |true=>
     have hk:=hk cy
     generalize (x.more a b).search {o with budget:=549755813888}=r2 at *
     generalize x.search {o with budget:=549755813888}=r at *
     refine K_run hB 100 ?_
     simp [go_sem]
     refine K_call rfl rfl rfl (args:=[Inst.a (x.more a b),Opt.a {o with budget:=549755813888}]) (f:=31) (by simp [go_sem,Inst.a,Inst.more,Opt.a,Opt.cs]) (by simp [go_sem,hB]) ((ht).spec _ _) ?_
     refine K_run hB 100 ?_
     simp [go_sem,SRes.a]
     refine K_call rfl rfl rfl (args:=[x.a,Opt.a {o with budget:=549755813888}]) (f:=31) (by simp [go_sem,Inst.a,Opt.a,Opt.cs]) (by simp [go_sem,hB]) ((hs).spec _ _) ?_
     refine K_run hB 100 ?_
     simp [go_sem,SRes.a,hk]
end Go.Proofs.YtackfabapangdaaGreat
