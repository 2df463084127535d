/- Parts of the proof: ToursP, PlansP, WideT, SearchP, SearchQ, SearchR, SearchG, Heap, HeapP, HeapT, HeapL, HeapO, HeapO2, HeapR, HeapW, Opts, SearchT, Join, Tog. -/
import Derived.Test.YtackfabapangdaaGreatMG
set_option linter.all false
set_option maxHeartbeats 4000000
set_option maxRecDepth 4000
namespace Go.Proofs.YtackfabapangdaaGreat
open Go Go.Proofs.YtackfabapangdaaGreat.R
structure Sim1 (x:Inst) (p m0:Nat) (s:State) (c:Car) (k:Nat):Prop where
 spot:c.spot=s.spot
 now:c.now=s.time
 load:c.load=s.load
 on:c.on=s.on
 seen:∀i,1≤i→i≤2*p→s.must.testBit i=(m0.testBit i||c.seen.testBit i)
 old:∀i,1≤i→i≤p→m0.testBit i=true→m0.testBit (i+p)=true
 fit:c.Fit p k
 good:Good x p s
theorem Sim1.step {x:Inst} {p m0 k:Nat} {s:State} {c:Car} {j:Int} (hx:x.Fit p) (h:Sim1 x p m0 s c k) (hj:j≠0) (hm:(x.move s j).2.2=true):
  (x.visitC c j).2=0∧Sim1 x p m0 (x.move s j).1 (x.visitC c j).1 (k+1)∧(x.visitC c j).1.gone=c.gone+(x.move s j).2.1:=by
 obtain ⟨g1,g2,g3,g4,g5,g6⟩:=good_step hx h.good hm
 obtain ⟨m1,m2,m3,m4,m5,m6,m7,m8⟩:=move_pos hm hj
 have hp:=hx.pairs
 have hfew:=hx.few
 obtain ⟨i,rfl⟩:∃i:Nat,j=i:=⟨j.toNat,by omega⟩
 simp only [Inst.lateB,Bool.or_eq_false_iff,decide_eq_false_iff_not] at m5
 rw [has_testN (by omega)] at m5
 have hs:=h.seen i (by omega) (by omega)
 rw [m5.1] at hs
 have hv:x.visitsE c i=0:=by
  rw [Inst.visitsE,if_neg (by omega),if_neg,if_neg,if_neg]
  ·rw [h.load]
   by_cases hi:(i:Int)≤x.pairs
   ·have:=m6 hi
    simp only [Inst.fullB,Bool.or_eq_false_iff,decide_eq_false_iff_not] at this
    omega
   ·have hb:=hx.bring (k:=i-p) (by omega) (by omega)
    have ht:=hx.take (k:=i-p) (by omega) (by omega)
    have hr:=h.good.room
    rw [show i-p+p=i by omega] at hb
    omega
  ·rintro ⟨hi,hq⟩
   have:=m7 hi
   simp only [Inst.emptyB,Bool.or_eq_false_iff,Bool.not_eq_false',decide_eq_false_iff_not] at this
   have e:(i:Int)-x.pairs=((i-p:Nat):Int):=by omega
   rw [e] at this hq
   rw [has_testN (by omega),h.good.eq] at this
   rw [has_testN (by omega)] at hq
   have h1:=h.seen (i-p) (by omega) (by omega)
   rw [this.2,hq,Bool.or_false] at h1
   have h2:=h.old (i-p) (by omega) (by omega) h1.symm
   rw [show i-p+p=i by omega] at h2
   rw [h2] at hs
   cases hs
  ·rw [has_testN (by omega)]
   intro hq
   rw [hq,Bool.or_true] at hs
   cases hs
 have hfar:x.visitC c i=({spot:=i,now:=x.begins s i+(x.stop i).service,gone:=c.gone+far (x.stop s.spot) (x.stop i),load:=s.load+(x.stop i).demand,seen:=withN c.seen i,on:=if (i:Int)≤x.pairs then withN s.on i else withoutN s.on (i-x.pairs),times:=c.times++[[.i (s.time+far (x.stop s.spot) (x.stop i)),.i (x.begins s i),.i (x.begins s i+(x.stop i).service)]],loads:=c.loads++[s.load+(x.stop i).demand]},0):=by
  rw [Inst.visitC,if_neg (by simp [hv]),h.spot,h.now,h.load,h.on,if_neg]
  ·rfl
  ·have:=m5.2
   unfold Inst.begins at this
   exact this
 have hfit:=visitC_fit hx h.fit (i:=i) (by rw [hfar])
 rw [hfar] at hfit ⊢
 rw [if_pos (by omega)] at g4 g6
 refine ⟨rfl,⟨?_,?_,?_,?_,?_,h.old,hfit,g1⟩,?_⟩
 ·rw [m8];rfl
 ·rw [m8];rfl
 ·rw [g6]
 ·rw [m8];rfl
 ·intro n n1 n2
  rw [g4,with_bit (by omega),with_bit (by omega),h.seen n n1 n2,Bool.or_assoc]
 ·rw [m8]
def MatchS (p must:Nat) (seen:List Int):Prop:=seen.length=2*p+1∧∀i (h:i<seen.length),seen[i]=if 1≤i∧must.testBit i=true then 1 else 0
theorem MatchS.bump {p must:Nat} {seen:List Int} (h:MatchS p must seen) {j:Nat} (h1:1≤j) (h2:j≤2*p) (h64:j≤63) (hn:must.testBit j=false):MatchS p (withN must j) (bump seen j):=by
 obtain ⟨hl,hs⟩:=h
 refine ⟨by rw [bump_len];exact hl,fun i hi=>?_⟩
 have hi':i<seen.length:=by rw [bump_len] at hi;exact hi
 have e:seen.getD j 0=seen[j]:=by rw [List.getD_eq_getElem?_getD,List.getElem?_eq_getElem (by omega)];rfl
 have h0:=hs j (by omega)
 rw [if_neg (by simp [hn])] at h0
 simp only [Go.Proofs.YtackfabapangdaaGreat.bump,Int.toNat_natCast,e,h0,List.getElem_set,with_bit h64]
 by_cases hji:j=i
 ·subst hji
  simp [h1]
 ·rw [if_neg hji,hs i hi']
  simp [hji]
theorem MatchS.end {p must:Nat} {seen:List Int} (h:MatchS p must seen) (ha:∀i,1≤i→i≤2*p→must.testBit i=true):(seen.any fun n=>decide (1<n))=false∧((seen.drop 1).any fun n=>decide (n=0))=false:=by
 obtain ⟨hl,hs⟩:=h
 constructor
 ·rw [List.any_eq_false]
  intro n hn
  obtain ⟨i,hi,rfl⟩:=List.mem_iff_getElem.1 hn
  rw [hs i hi]
  split<;>simp
 ·rw [List.any_eq_false]
  intro n hn
  obtain ⟨i,hi,rfl⟩:=List.mem_iff_getElem.1 hn
  rw [List.getElem_drop,hs (1+i) (by rw [List.length_drop] at hi;omega),if_pos ⟨by omega,ha _ (by omega) (by rw [List.length_drop] at hi;omega)⟩]
  simp
theorem runC_cons {x:Inst} {i:Int} {r:List Int} {c:Car} (h:(x.visitC c i).2=0):x.runC (i :: r) c=x.runC r (x.visitC c i).1:=by
 rw [Inst.runC,if_neg (by simp [h])]
theorem route_rest {x:Inst} {p m0:Nat} (hx:x.Fit p) (h0:x.pairs≠0):∀(path:List Int) (s:State) (c:Car) (k:Nat) (d:Int),Sim1 x p m0 s c k→s.spot≠0→x.way path s d→
  ∃r rest c',path=r++rest∧(∀i∈r,0<i)∧x.runC r c=(c',0)∧
   ((rest=[]∧d=c'.gone-c.gone∧∀seen,MatchS p s.must seen→∃must,MatchS p must (r.foldl bump seen)∧∀i,1≤i→i≤2*p→must.testBit i=true)∨
    (∃path' s' d',rest=0 :: path'∧d=c'.gone-c.gone+d'∧x.way path' s' d'∧s'.spot=0∧s'.on=0∧s'.load=0∧s'.time=(x.stop 0).ready∧s'.first=s.first∧s'.car=s.car+1∧s.car<x.cars∧Good x p s'∧∀seen,MatchS p s.must seen→MatchS p s'.must (r.foldl bump seen)))
 |[],s,c,k,d,hs,hsp,hw=>by
  obtain ⟨w1,w2⟩:=hw
  obtain ⟨e1,e2 | ⟨e2,e3,e4,e5,e6,e7⟩⟩:=end_is w1
  ·exact absurd e2.1 h0
  ·refine ⟨[],[],x.drive c 0,rfl,by simp,?_,.inl ⟨rfl,?_,fun seen hm=>⟨s.must,hm,fun i i1 i2=>?_⟩⟩⟩
   ·rw [Inst.runC,Inst.homeC,hs.on,hs.now,hs.spot,if_neg (by simp [e4]),if_neg (by omega)]
   ·rw [w2,e7]
    show _=c.gone+far (x.stop c.spot) (x.stop 0)-c.gone
    rw [hs.spot]
    simp only
    omega
   ·rw [←hs.good.eq]
    exact Inst.all_bit hx e5 i1 i2
 |j :: path,s,c,k,d,hs,hsp,hw=>by
  obtain ⟨w1,d',w2,w3⟩:=hw
  by_cases hj:j=0
  ·subst hj
   obtain ⟨g1,g2,g3,g4⟩:=move_home w1
   have hgs:=(good_step hx hs.good w1).1
   simp only [Inst.stayB,Bool.or_eq_false_iff,decide_eq_false_iff_not] at g3
   obtain ⟨⟨⟨⟨a1,a2⟩,a3⟩,a4⟩,a5⟩:=g3
   rw [g4] at w2 w3 hgs
   have hon:s.on=0:=by omega
   refine ⟨[],0 :: path,x.drive c 0,rfl,by simp,?_,.inr ⟨path,x.homeS s,d',rfl,?_,w2,rfl,hon,rfl,rfl,rfl,rfl,by omega,hgs,fun seen hm=>hm⟩⟩
   ·rw [Inst.runC,Inst.homeC,hs.on,hs.now,hs.spot,if_neg (by simp [hon]),if_neg (by omega)]
   ·show _=c.gone+far (x.stop c.spot) (x.stop 0)-c.gone+d'
    rw [hs.spot,w3]
    simp only
    omega
  ·obtain ⟨v1,v2,v3⟩:=hs.step hx hj w1
   obtain ⟨b1,b2,b3,b4,_,_⟩:=good_step hx hs.good w1
   obtain ⟨_,_,p3,p4,p5,_,_,m8⟩:=move_pos w1 hj
   have hfew:=hx.few
   rw [if_pos p3] at b4
   have hsp':(x.move s j).1.spot≠0:=by rw [m8];exact hj
   have hfi:(x.move s j).1.first=s.first:=by rw [m8];show (if s.spot=0 then j else s.first)=s.first;rw [if_neg hsp]
   have hca:(x.move s j).1.car=s.car:=by rw [m8];rfl
   obtain ⟨r,rest,c',q1,q2,q3,q4⟩:=route_rest hx h0 path _ _ _ d' v2 hsp' w2
   have hmt:∀seen,MatchS p s.must seen→MatchS p (x.move s j).1.must (bump seen j):=fun seen hm=>by
    obtain ⟨i,rfl⟩:∃i:Nat,j=i:=⟨j.toNat,by omega⟩
    simp only [Inst.lateB,Bool.or_eq_false_iff] at p5
    have:=p5.1
    rw [has_testN (by omega)] at this
    rw [b4]
    exact hm.bump (by omega) (by omega) (by omega) this
   refine ⟨j :: r,rest,c',by rw [q1];rfl,fun i hi=>?_,by rw [runC_cons v1];exact q3,?_⟩
   ·rcases List.mem_cons.1 hi with rfl | hi
    ·exact p3
    ·exact q2 i hi
   ·rcases q4 with ⟨t1,t2,t3⟩ | ⟨path',s',d2,t1,t2,t3,t4,t5,t6,t7,t8,t9,t10,t11,t12⟩
    ·exact .inl ⟨t1,by omega,fun seen hm=>t3 _ (hmt seen hm)⟩
    ·exact .inr ⟨path',s',d2,t1,by omega,t3,t4,t5,t6,t7,by rw [t8,hfi],by rw [t9,hca],by omega,t11,fun seen hm=>t12 _ (hmt seen hm)⟩
theorem idx_none:∀(l:List Int) (k:Nat),(∀i∈l,0<i)→idxI lowI k l= -1
 |[],_,_=>rfl
 |i :: l,k,h=>by
  have:=h i List.mem_cons_self
  rw [idxI,if_neg (by simp [lowI];omega)]
  exact idx_none l (k+1) fun j hj=>h j (List.mem_cons_of_mem _ hj)
theorem idx_zero:∀(l m:List Int) (k:Nat),(∀i∈l,0<i)→idxI lowI k (l++0 :: m)=((k+l.length:Nat):Int)
 |[],m,k,_=>by rw [List.nil_append,idxI,if_pos (by simp [lowI])];simp
 |i :: l,m,k,h=>by
  have:=h i List.mem_cons_self
  rw [List.cons_append,idxI,if_neg (by simp [lowI];omega),idx_zero l m (k+1) fun j hj=>h j (List.mem_cons_of_mem _ hj),List.length_cons]
  congr 1
  omega
theorem yard_split {x:Inst} {p:Nat} (hx:x.Fit p) (hm:x.may=true) (h0:x.pairs≠0):∀(f:Nat) (path:List Int) (s:State) (d:Int) (acc:List (List Int)),path.length<f→s.spot=0→s.on=0→s.load=0→s.time=(x.stop 0).ready→Good x p s→x.way path s d→
  path≠[]∧∃routes,splitF f path s.first false acc=(acc++routes,0)∧(routes.length:Int)+s.car≤x.cars+1∧∀all seen,MatchS p s.must seen→x.costGo routes all seen=(all+d,0)
 |0,path,s,d,acc,hf,_,_,_,_,_,_=>absurd hf (by omega)
 |f+1,[],s,d,acc,_,hsp,_,_,_,_,hw=>by
  obtain ⟨w1,w2⟩:=hw
  obtain ⟨e1,e2 | ⟨e2,e3,_⟩⟩:=end_is w1
  ·exact absurd e2.1 h0
  ·exact absurd hsp e3
 |f+1,j :: path,s,d,acc,hf,hsp,hon,hld,hti,hg,hw=>by
  refine ⟨by simp,?_⟩
  obtain ⟨w1,d1,w2,w3⟩:=hw
  have hj:j≠0:=by
   intro e
   subst e
   obtain ⟨_,_,g3,_⟩:=move_home w1
   simp [Inst.stayB,hsp] at g3
  have hs:Sim1 x p s.must s x.car0 0:=by
   refine ⟨hsp.symm,hti.symm,hld.symm,hon.symm,fun i _ _=>by simp [Inst.car0],fun i i1 i2 h=>?_,car0_fit hx,hg⟩
   have:=hg.on i i1 i2
   rw [hon,Nat.zero_testBit,h] at this
   simpa using this.symm
  obtain ⟨v1,v2,v3⟩:=hs.step hx hj w1
  obtain ⟨b1,b2,b3,b4,_,_⟩:=good_step hx hg w1
  obtain ⟨_,hmay,p3,p4,p5,p6,p7,m8⟩:=move_pos w1 hj
  have hfew:=hx.few
  have hp:=hx.pairs
  rw [if_pos p3] at b4
  have hjp:j≤x.pairs:=by
   by_cases c:j≤x.pairs
   ·exact c
   ·have:=p7 (by omega)
    simp [Inst.emptyB,hsp] at this
  have hfirst:s.first<j:=by
   have:=p6 hjp
   simp only [Inst.fullB,Bool.or_eq_false_iff,Bool.and_eq_false_iff,decide_eq_false_iff_not] at this
   rcases this.2 with h | h
   ·exact absurd hsp h
   ·omega
  have hsp':(x.move s j).1.spot≠0:=by rw [m8];exact hj
  have hfi:(x.move s j).1.first=j:=by rw [m8];show (if s.spot=0 then j else s.first)=j;rw [if_pos hsp]
  have hca:(x.move s j).1.car=s.car:=by rw [m8];rfl
  have hmt:∀seen,MatchS p s.must seen→MatchS p (x.move s j).1.must (bump seen j):=fun seen hm=>by
   obtain ⟨i,rfl⟩:∃i:Nat,j=i:=⟨j.toNat,by omega⟩
   simp only [Inst.lateB,Bool.or_eq_false_iff] at p5
   have:=p5.1
   rw [has_testN (by omega)] at this
   rw [b4]
   exact hm.bump (by omega) (by omega) (by omega) this
  obtain ⟨r,rest,c',q1,q2,q3,q4⟩:=route_rest hx h0 path _ _ _ d1 v2 hsp' w2
  have hpos:∀i∈j :: r,0<i:=fun i hi=>by
   rcases List.mem_cons.1 hi with rfl | hi
   ·exact p3
   ·exact q2 i hi
  have hrun:x.runC (j :: r) x.car0=(c',0):=by rw [runC_cons v1];exact q3
  have htimes:x.times (j :: r)=(c'.times,c'.gone,0):=by rw [Inst.times,if_neg (by simp [hm]),hrun];rfl
  have hg0:x.car0.gone=0:=rfl
  have hcgo:∀rs all seen,x.costGo ((j :: r) :: rs) all seen=x.costGo rs (all+c'.gone) (r.foldl bump (bump seen j)):=fun rs all seen=>by
   rw [Inst.costGo,if_neg (by simp),htimes]
   simp
  rw [List.length_cons] at hf
  have hsc:=s.fit hx hmay
  have hlast:(false||decide (j≤s.first))=false:=by rw [Bool.false_or];exact decide_eq_false (by omega)
  rcases q4 with ⟨t1,t2,t3⟩ | ⟨path',s',d2,t1,t2,t3,t4,t5,t6,t7,t8,t9,t10,t11,t12⟩
  ·subst t1
   rw [List.append_nil] at q1
   subst q1
   refine ⟨[j :: path],?_,?_,?_⟩
   ·rw [splitF,if_pos (by rw [idx_none _ 0 hpos];omega),List.getD_cons_zero,hlast]
    rfl
   ·have:=hsc.car
    simp only [List.length_cons,List.length_nil]
    omega
   ·intro all seen hms
    obtain ⟨must,k1,k2⟩:=t3 _ (hmt seen hms)
    obtain ⟨k3,k4⟩:=k1.end k2
    rw [hcgo,Inst.costGo,k3,k4]
    simp only [Bool.false_eq_true,if_false]
    congr 1
    omega
  ·subst t1
   subst q1
   rw [List.length_append,List.length_cons] at hf
   obtain ⟨y1,routes,y2,y3,y4⟩:=yard_split hx hm h0 f path' s' d2 (acc++[j :: r]) (by omega) t4 t5 t6 t7 t11 t3
   have hlen':path'.length≠0:=fun e=>y1 (List.eq_nil_of_length_eq_zero e)
   have hidx:idxI lowI 0 (j :: (r++0 :: path'))=((0+(j :: r).length:Nat):Int):=idx_zero (j :: r) path' 0 hpos
   rw [Nat.zero_add] at hidx
   refine ⟨(j :: r) :: routes,?_,?_,?_⟩
   ·rw [splitF,hidx,if_neg (by omega),if_neg,Int.toNat_natCast,List.getD_cons_zero,hlast]
    ·have e1:(j :: (r++0 :: path')).drop ((j :: r).length+1)=path':=by
      have:(j :: (r++0 :: path'))=(j :: r++[0])++path':=by simp
      rw [this,List.drop_left' (by simp)]
     have e2:(j :: (r++0 :: path')).take (j :: r).length=j :: r:=by
      have:(j :: (r++0 :: path'))=(j :: r)++(0 :: path'):=by simp
      rw [this,List.take_left' rfl]
     rw [e1,e2]
     rw [t8,hfi] at y2
     rw [y2,List.append_assoc]
     rfl
    ·have e3:(j :: (r++0 :: path')).getD ((j :: r).length:Int).toNat 0=0:=by
      have:(j :: (r++0 :: path'))=(j :: r)++(0 :: path'):=by simp
      rw [Int.toNat_natCast,this,List.getD_eq_getElem?_getD,List.getElem?_append_right (Nat.le_refl _)]
      simp
     rw [e3]
     simp only [List.length_cons,List.length_append]
     omega
   ·rw [t9,hca] at y3
    simp only [List.length_cons]
    omega
   ·intro all seen hms
    rw [hcgo,y4 _ _ (t12 _ (hmt seen hms))]
    congr 1
    omega
theorem tour_plain {x:Inst} (hm:x.may=true) {path:List Int} {d:Int} (hw:x.way path x.rootS d):(splitR path).2=0∧x.cost (splitR path).1=(d,0):=by
 obtain ⟨p,hx⟩:=x.fit hm
 have hp:=hx.pairs
 have hc:=hx.cars
 have hroot:x.rootS={State.zero with car:=1,time:=(x.stop 0).ready}:=by rw [Inst.rootS,if_pos hm]
 have hms:MatchS p 0 (List.replicate (2*x.pairs+1).toNat 0):=by
  refine ⟨by rw [List.length_replicate];omega,fun i hi=>?_⟩
  simp
 by_cases h0:x.pairs=0
 ·match path,hw with
  |[],hw=>
   have hd:d=0:=by
    obtain ⟨e1,e2 | ⟨e2,e3,_⟩⟩:=end_is hw.1
    ·rw [hw.2,e2.2.2]
    ·rw [hroot] at e3;exact absurd rfl e3
   have e:splitR []=([],0):=rfl
   rw [e]
   refine ⟨rfl,?_⟩
   obtain ⟨k3,k4⟩:=hms.end (fun i i1 i2=>by omega)
   rw [Inst.cost,if_neg (by simp [hm]),if_neg (by simp only [List.length_nil];omega),Inst.costGo,k3,k4,hd]
   simp
  |j :: path,hw=>exact absurd h0 (move_pairs hw.1)
 ·obtain ⟨y1,routes,y2,y3,y4⟩:=yard_split hx hm h0 (path.length+1) path x.rootS d [] (by omega) (by rw [hroot];rfl) (by rw [hroot];rfl) (by rw [hroot];rfl) (by rw [hroot]) (good_root hx hm) hw
  have hf:x.rootS.first=0:=by rw [hroot];rfl
  have hca:x.rootS.car=1:=by rw [hroot]
  have hmu:x.rootS.must=0:=by rw [hroot];rfl
  rw [hf] at y2
  rw [hca] at y3
  rw [hmu] at y4
  have hne:¬path.length=0:=fun e=>y1 (List.eq_nil_of_length_eq_zero e)
  rw [splitR,if_neg hne,y2]
  refine ⟨rfl,?_⟩
  show x.cost ([]++routes)=(d,0)
  rw [List.nil_append,Inst.cost,if_neg (by simp [hm]),if_neg (by omega),y4 _ _ hms]
  simp
end Go.Proofs.YtackfabapangdaaGreat

set_option maxRecDepth 4000
namespace Go.Proofs.YtackfabapangdaaGreat
open Go Go.Proofs.YtackfabapangdaaGreat.R
def Inst.gones (x:Inst):List (List Int)→Int
 |[]=>0
 |r :: rs=>(x.times r).2.1+x.gones rs
structure PlanOK (x:Inst) (p:Nat) (rs:List (List Int)):Prop where
 cars:(rs.length:Int)≤x.cars
 each:∀r∈rs,r≠[]∧(x.times r).2.2=0
 once:rs.flatten.Nodup
 all:∀i:Nat,1≤i→i≤2*p→(i:Int)∈rs.flatten
theorem bump_count {i:Nat}:∀(r:List Int) (s:List Int) (h:i<s.length),(∀j∈r,0≤j)→(r.foldl bump s)[i]'(by rw [bumps_len];exact h)=s[i]+(r.count (i:Int):Nat)
 |[],s,h,_=>by simp
 |j :: r,s,h,hr=>by
  have h0:=hr j List.mem_cons_self
  have ih:=bump_count r (bump s j) (by rw [bump_len];exact h) fun k hk=>hr k (List.mem_cons_of_mem _ hk)
  simp only [List.foldl_cons]
  rw [ih,List.count_cons]
  simp only [bump,List.getElem_set]
  by_cases e:j.toNat=i
  ·have e2:j=(i:Int):=by omega
   have e3:s.getD j.toNat 0=s[i]:=by rw [e,List.getD_eq_getElem?_getD,List.getElem?_eq_getElem h];rfl
   rw [if_pos e,e3,e2]
   simp only [beq_self_eq_true,if_true]
   omega
  ·have e2:¬j=(i:Int):=by omega
   rw [if_neg e]
   simp [e2]
theorem costGo_ok {x:Inst} {p:Nat} (hx:x.Fit p) (hm:x.may=true):∀(rs:List (List Int)) (all:Int) (seen:List Int) {c:Int},seen.length=2*p+1→x.costGo rs all seen=(c,0)→
  c=all+x.gones rs∧(∀r∈rs,r≠[]∧(x.times r).2.2=0)∧((rs.flatten.foldl bump seen).any fun n=>decide (1<n))=false∧(((rs.flatten.foldl bump seen).drop 1).any fun n=>decide (n=0))=false
 |[],all,seen,c,hs,h=>by
  rw [Inst.costGo] at h
  split at h
  ·cases h
  split at h
  ·cases h
  rename_i h1 h2
  simp only [Prod.mk.injEq,and_true] at h
  exact ⟨by simp only [Inst.gones];omega,by simp,(Bool.not_eq_true _).mp h1,(Bool.not_eq_true _).mp h2⟩
 |r :: rs,all,seen,c,hs,h=>by
  rw [Inst.costGo] at h
  split at h
  ·cases h
  split at h
  ·rename_i h1 h2
   simp only [Prod.mk.injEq] at h
   exact absurd h.2 h2
  rename_i h1 h2
  obtain ⟨g1,g2,g3,g4⟩:=costGo_ok hx hm rs _ _ (by rw [bumps_len];exact hs) h
  refine ⟨by simp only [Inst.gones];omega,fun q hq=>?_,by rw [List.flatten_cons,List.foldl_append];exact g3,by rw [List.flatten_cons,List.foldl_append];exact g4⟩
  rcases List.mem_cons.1 hq with rfl | hq
  ·exact ⟨fun e=>h1 (by rw [e];rfl),by simpa using h2⟩
  ·exact g2 q hq
theorem cost_ok {x:Inst} {p:Nat} (hx:x.Fit p) (hm:x.may=true) {rs:List (List Int)} {c:Int} (h:x.cost rs=(c,0)):PlanOK x p rs∧c=x.gones rs:=by
 have hp:=hx.pairs
 rw [Inst.cost,if_neg (by simp [hm])] at h
 split at h
 ·cases h
 rename_i hc
 have hlen:(List.replicate (2*x.pairs+1).toNat (0:Int)).length=2*p+1:=by rw [List.length_replicate];omega
 obtain ⟨g1,g2,g3,g4⟩:=costGo_ok hx hm rs _ _ hlen h
 have hstop:∀i∈rs.flatten,1≤i∧i≤2*p:=fun i hi=>by
  obtain ⟨r,hr,hir⟩:=List.mem_flatten.1 hi
  exact (times_ok hx hm (g2 r hr).2).1 i hir
 have hcnt:∀i:Nat,(hi:i≤2*p)→(rs.flatten.foldl bump (List.replicate (2*x.pairs+1).toNat 0))[i]'(by rw [bumps_len,hlen];omega)=((rs.flatten.count (i:Int):Nat):Int):=fun i hi=>by
  rw [bump_count _ _ (by rw [hlen];omega) (fun j hj=>by have:=hstop j hj;omega)]
  simp
 have hfl:=bumps_len rs.flatten (List.replicate (2*x.pairs+1).toNat (0:Int))
 rw [hlen] at hfl
 refine ⟨⟨by omega,g2,?_,?_⟩,by omega⟩
 ·rw [List.nodup_iff_count]
  intro a
  by_cases ha:a∈rs.flatten
  ·obtain ⟨h1,h2⟩:=hstop a ha
   obtain ⟨i,rfl⟩:∃i:Nat,a=i:=⟨a.toNat,by omega⟩
   have h3:=hcnt i (by omega)
   rw [List.any_eq_false] at g3
   have h4:=g3 _ (List.getElem_mem (l:=rs.flatten.foldl bump (List.replicate (2*x.pairs+1).toNat 0)) (n:=i) (by rw [hfl];omega))
   rw [h3] at h4
   simp only [decide_eq_true_eq] at h4
   omega
  ·rw [List.count_eq_zero.2 ha]
   omega
 ·intro i h1 h2
  by_cases ha:(i:Int)∈rs.flatten
  ·exact ha
  ·exfalso
   have h3:=hcnt i h2
   rw [List.count_eq_zero.2 ha] at h3
   rw [List.any_eq_false] at g4
   refine g4 _ (List.mem_iff_getElem.2 ⟨i-1,by rw [List.length_drop,hfl];omega,?_⟩) (decide_eq_true rfl)
   rw [List.getElem_drop]
   have e:1+(i-1)=i:=by omega
   simp only [e]
   exact h3
end Go.Proofs.YtackfabapangdaaGreat

set_option maxRecDepth 4000
namespace Go.Proofs.YtackfabapangdaaGreat
open Go Go.Proofs.YtackfabapangdaaGreat.R
structure Track (x:Inst) (n:Node):Prop where
 goes:x.goes n.path x.rootS 0=some (n.s,n.cost)
 is:n.s.Is n.s.spot
 cost:0≤n.cost∧n.cost≤14143*(n.path.length:Int)
 len:n.path.length+x.meas n.s≤x.meas x.rootS
theorem track_root {x:Inst} (hm:x.may=true):Track x x.rootN:=
 ⟨rfl,⟨rfl,rootS_ok x,pos_root hm,seen_root x⟩,by simp [Inst.rootN],by simp [Inst.rootN]⟩
theorem Track.few {x:Inst} {n:Node} (h:Track x n):n.path.length≤40:=by
 have:=h.len
 have:=meas_le x x.rootS
 omega
theorem Track.child {x:Inst} {n:Node} (h:Track x n) {j:Int} (hj:(x.move n.s j).2.2=true):Track x (x.child n j):=by
 have hc:=move_cost hj
 have hl:=h.cost
 have hf:=h.few
 have e:(x.child n j).cost=n.cost+(x.move n.s j).2.1:=sumI_two hl.1 hc.1 (by omega)
 have hm:=meas_move hj
 have hlen:(n.path++[j]).length=n.path.length+1:=by simp
 refine ⟨?_,h.is.move hj,?_,?_⟩
 ·show x.goes (n.path++[j]) x.rootS 0=some ((x.move n.s j).1,(x.child n j).cost)
  rw [goes_app,h.goes,Option.bind_some]
  show x.goes [j] n.s n.cost=_
  rw [Inst.goes,if_pos hj,w64 _ (by omega),e]
  rfl
 ·rw [e]
  show _∧_≤14143*((n.path++[j]).length:Int)
  rw [hlen]
  omega
 ·show (n.path++[j]).length+x.meas (x.move n.s j).1≤_
  rw [hlen]
  have:=h.len
  omega
theorem layN_track {x:Inst} {n:Node} (h:Track x n) (up:Int):∀(k:Nat),∀m∈x.layN up n k,Track x m∧m.path.length=n.path.length+k
 |0,m,hm=>by rw [List.mem_singleton.1 hm];exact ⟨h,rfl⟩
 |k+1,m,hm=>by
  obtain ⟨q,hq,j,hj,rfl,_⟩:=next_mem hm
  obtain ⟨h1,h2⟩:=layN_track h up k q hq
  refine ⟨h1.child (moves_mem hj),?_⟩
  show (q.path++[j]).length=_
  rw [List.length_append,h2]
  simp only [List.length_cons,List.length_nil]
  omega
theorem Track.wl {x:Inst} {l:List Node} (h:∀n∈l,Track x n) {r:Nat} (hr:r≤1000):WL x l r:=
 ⟨fun n hn=>(h n hn).is,fun n hn=>by have:=(h n hn).cost;have:=(h n hn).few;omega⟩
theorem Track.way {x:Inst} {n:Node} (h:Track x n) {v:List Int} {c:Int} (hv:x.way v n.s c):x.way (n.path++v) x.rootS (n.cost+c):=by
 have hf:=h.few
 have:=way_app (c0:=0) (by omega) (by omega) h.goes hv
 rwa [show n.cost-0+c=n.cost+c by omega] at this
theorem deep_may {x:Inst} (hm:x.may=true):x.deep=2*x.pairs+x.cars-1:=by rw [Inst.deep,if_pos hm]
theorem deep_meas {x:Inst} (hm:x.may=true):(x.meas x.rootS:Int)≤x.deep∧x.deep≤39:=by
 obtain ⟨p,hx⟩:=x.fit hm
 have h1:=meas_rootC hx hm
 have:=hx.pairs
 have:=hx.few
 have:=hx.cars
 rw [deep_may hm]
 omega
theorem build_way {x:Inst} (hst:x.stops.length<2^31) (hm:x.may=true) {n:Node} (h:Track x n) (w up:Int) {v:List Int} {c:Int} (hv:x.way v n.s c) (hlt:n.cost+c<up):(x.build n w up).low≤n.cost+c:=by
 have h1:=deep_meas hm
 have h2:=way_len hv
 have h3:=h.len
 rw [Inst.build]
 exact buildGo_way hst w up _ _ _ _ _ _ (Track.wl (fun m hm=>by rw [List.mem_singleton.1 hm];exact h) (by omega)) n List.mem_cons_self v c hv hlt (by simp only [List.length_nil];omega) (by omega)
theorem build_ok (x:Inst) (n:Node) (w up:Int):(x.build n w up).Ok x up n:=by
 rw [Inst.build]
 refine buildGo_sure w up _ n _ _ _ _ _ ⟨fun i hi=>by simp at hi,by simp⟩ (fun _=>rfl) (fun k hk=>by cases hk) (fun _=>by simp) (by omega) (fun k hk=>by cases hk) ?_ (.inr rfl)
 simp only [List.length_nil]
 omega
theorem build_lay {x:Inst} (n:Node) (w up:Int) (h:1≤x.mostN w):∀k∈(x.build n w up).layers.drop 1,k≠[]∧k.length≤x.mostN w:=
 buildGo_lay w up _ _ _ _ _ _ (by simpa using h) (fun k hk=>by simp at hk)
theorem build_count (x:Inst) (n:Node) (w up:Int):((x.build n w up).layers.length:Int)≤max 1 (x.deep-n.path.length+1):=by
 have:=buildGo_count (x:=x) w up (x.deep-n.path.length) ((x.deep-n.path.length).toNat+2) [] up none [n]
 rw [Inst.build]
 simp only [List.length_nil] at this
 omega
end Go.Proofs.YtackfabapangdaaGreat

set_option maxRecDepth 4000
namespace Go.Proofs.YtackfabapangdaaGreat
open Go Go.Proofs.YtackfabapangdaaGreat.R
structure Ent where
 bound:Int
 depth:Int
 no:Nat
 deriving DecidableEq
structure SS where
 subs:List Node
 q:List Ent
 up:Int
 plan:List (List Int)
 steps:Int
 log:List (Node×Diag)
def SS.offer (s:SS) (b:Node×Bool):SS:=if b.2=true∧b.1.cost<s.up then {s with up:=b.1.cost,plan:=(splitR b.1.path).1} else s
def Inst.push (x:Inst) (low:Int) (s:SS) (n:Node):SS:=
 if max low (x.of n)<s.up then {s with q:=s.q++[⟨max low (x.of n),n.path.length,s.subs.length⟩],subs:=s.subs++[n]} else s
def Inst.offers (x:Inst) (s:SS) (ls:List (List Node)):SS:=ls.foldl (fun s l=>s.offer (x.bests l)) s
def Inst.branch (x:Inst) (d:Diag) (s:SS):SS:=(d.layers.getD (d.sure-1) []).foldl (x.push d.low) (x.offers s (d.layers.take (d.sure-1)))
def sizes (ls:List (List Node)):Nat:=(ls.map List.length).sum
def SS.plus (s:SS) (k:Int):SS:={s with steps:=s.steps+k}
def SS.nar (x:Inst) (w:Int) (s:SS) (n:Node):SS:=(s.plus (x.narrow n w s.up).2.2).offer ((x.narrow n w s.up).1,(x.narrow n w s.up).2.1)
def SS.dia (s:SS) (n:Node) (d:Diag):SS:={s with steps:=s.steps+sizes d.layers,log:=s.log++[(n,d)]}
def SS.exa (x:Inst) (w:Int) (s:SS) (n:Node):SS:=(s.plus (x.exact n s.up (x.mostN w)).2.2.2).offer ((x.exact n s.up (x.mostN w)).1,(x.exact n s.up (x.mostN w)).2.1)
def Inst.lookD (x:Inst) (w:Int) (s:SS) (n:Node) (d:Diag):SS:=if s.up≤d.low then s.dia n d else if d.exact=true then (s.dia n d).exa x w n else x.branch d (s.dia n d)
def Inst.lookS (x:Inst) (w:Int) (s:SS) (n:Node):SS:=x.lookD w (s.nar x w n) n (x.build n w (s.nar x w n).up)
def Inst.goesOn (x:Inst) (n:Node) (c:Int):Prop:=∃v d,x.way v n.s d∧n.cost+d≤c
structure Found (x:Inst) (s:SS):Prop where
 le:s.up≤inf
 plan:s.up<inf→x.cost s.plan=(s.up,0)
structure SInv (x:Inst) (s:SS):Prop where
 track:∀n∈s.subs,Track x n
 nos:∀e∈s.q,∃n,s.subs[e.no]? =some n
 bound:∀e∈s.q,∀n,s.subs[e.no]? =some n→∀v c,x.way v n.s c→n.cost+c<s.up→e.bound≤n.cost+c
 found:Found x s
def SS.Covers (x:Inst) (s:SS) (more:Int→Prop):Prop:=∀v c,x.way v x.rootS c→c<s.up→more c∨∃e∈s.q,∃n,s.subs[e.no]? =some n∧x.goesOn n c
theorem offer_up (s:SS) (b:Node×Bool):(s.offer b).up≤s.up∧(s.offer b).subs=s.subs∧(s.offer b).q=s.q∧(s.offer b).log=s.log∧(s.offer b).steps=s.steps:=by
 unfold SS.offer
 split
 ·rename_i h
  exact ⟨Int.le_of_lt h.2,rfl,rfl,rfl,rfl⟩
 ·exact ⟨Int.le_refl _,rfl,rfl,rfl,rfl⟩
theorem offer_gets (s:SS) (b:Node×Bool) (h:b.2=true):(s.offer b).up≤b.1.cost:=by
 unfold SS.offer
 split
 ·exact Int.le_refl _
 ·rename_i hn
  simp only [h,true_and] at hn
  omega
def Inst.isWay (x:Inst) (b:Node×Bool):Prop:=b.2=true→x.way b.1.path x.rootS b.1.cost
theorem way_few {x:Inst} {v:List Int} {c:Int} (h:x.way v x.rootS c):0≤c∧c<inf:=by
 have h1:=way_in h
 have h2:=way_len h
 have h3:=meas_le x x.rootS
 have:inf=1152921504606846976:=rfl
 omega
theorem Found.offer {x:Inst} (hm:x.may=true) {s:SS} (h:Found x s) {b:Node×Bool} (hb:x.isWay b):Found x (s.offer b):=by
 unfold SS.offer
 split
 ·rename_i hc
  have hw:=hb hc.1
  exact ⟨Int.le_of_lt (way_few hw).2,fun _=>(tour_plain hm hw).2⟩
 ·exact h
theorem SInv.offer {x:Inst} (hm:x.may=true) {s:SS} (h:SInv x s) {b:Node×Bool} (hb:x.isWay b):SInv x (s.offer b):=by
 obtain ⟨h1,h2,h3,h4,h5⟩:=offer_up s b
 refine ⟨by rw [h2];exact h.track,by rw [h2,h3];exact h.nos,?_,h.found.offer hm hb⟩
 rw [h2,h3]
 exact fun e he n hn v c hv hc=>h.bound e he n hn v c hv (by omega)
theorem Covers.offer {x:Inst} {s:SS} {more:Int→Prop} (h:s.Covers x more) (b:Node×Bool):(s.offer b).Covers x more:=by
 obtain ⟨h1,h2,h3,h4,h5⟩:=offer_up s b
 intro v c hv hc
 rw [h2,h3]
 exact h v c hv (by omega)
theorem layN_way {x:Inst} {n:Node} (h:Track x n) (up:Int):∀(k:Nat),∀m∈x.layN up n k,∀v c,x.way v m.s c→∃u,x.way (u++v) n.s (m.cost-n.cost+c)
 |0,m,hm,v,c,hv=>by
  rw [List.mem_singleton.1 hm] at hv ⊢
  exact ⟨[],by rw [show n.cost-n.cost+c=c by omega];exact hv⟩
 |k+1,m,hm,v,c,hv=>by
  obtain ⟨q,hq,j,hj,rfl,_⟩:=next_mem hm
  have hj:=moves_mem hj
  have ht:=(layN_track h up k q hq).1
  have hcc:(x.child q j).cost=q.cost+(x.move q.s j).2.1:=by
   have:=ht.cost
   have:=ht.few
   have:=move_cost hj
   exact sumI_two (by omega) (by omega) (by omega)
  obtain ⟨u,hu⟩:=layN_way h up k q hq (j :: v) ((x.move q.s j).2.1+c) ⟨hj,c,hv,rfl⟩
  refine ⟨u++[j],?_⟩
  rw [List.append_assoc,hcc,show q.cost+(x.move q.s j).2.1-n.cost+c=q.cost-n.cost+((x.move q.s j).2.1+c) by omega]
  exact hu
theorem of_way {x:Inst} (hst:x.stops.length<2^31) {n:Node} (h:Track x n) {v:List Int} {c:Int} (hv:x.way v n.s c):x.of n≤n.cost+c:=by
 have h1:=way_low h.is.seen hv
 have h2:=way_in hv
 have h3:=way_len hv
 have h4:=meas_le x n.s
 have h5:=h.cost
 have h6:=h.few
 exact move_seen_low hst n (n.cost+c) h5.1 (by omega) (by omega)
theorem push_or (x:Inst) (low:Int) (s:SS) (n:Node):(x.push low s n=s∧s.up≤max low (x.of n))∨(max low (x.of n)<s.up∧x.push low s n={s with q:=s.q++[⟨max low (x.of n),n.path.length,s.subs.length⟩],subs:=s.subs++[n]}):=by
 unfold Inst.push
 split
 ·rename_i h;exact .inr ⟨h,rfl⟩
 ·rename_i h;exact .inl ⟨rfl,by omega⟩
theorem get_old {α:Type} {l m:List α} {i:Nat} {a:α} (h:l[i]? =some a):(l++m)[i]? =some a:=by
 have:=(List.getElem?_eq_some_iff.1 h).1
 rw [List.getElem?_append_left this];exact h
theorem SInv.push {x:Inst} {s:SS} (h:SInv x s) (low:Int) {n:Node} (ht:Track x n) (hb:∀v c,x.way v n.s c→n.cost+c<s.up→max low (x.of n)≤n.cost+c):SInv x (x.push low s n):=by
 rcases push_or x low s n with ⟨e,_⟩ | ⟨_,e⟩
 ·rw [e];exact h
 rw [e]
 have hlast:(s.subs++[n])[s.subs.length]? =some n:=by simp
 refine ⟨fun m hm=>?_,fun f hf=>?_,fun f hf m hm v c hv hc=>?_,⟨h.found.le,h.found.plan⟩⟩
 ·rcases List.mem_append.1 hm with hm | hm
  ·exact h.track m hm
  ·rw [List.mem_singleton.1 hm];exact ht
 ·rcases List.mem_append.1 hf with hf | hf
  ·obtain ⟨m,hm⟩:=h.nos f hf
   exact ⟨m,get_old hm⟩
  ·rw [List.mem_singleton.1 hf];exact ⟨n,hlast⟩
 ·rcases List.mem_append.1 hf with hf | hf
  ·obtain ⟨m',hm'⟩:=h.nos f hf
   have:=get_old (m:=[n]) hm'
   have he:m'=m:=Option.some.inj (this.symm.trans hm)
   rw [he] at hm'
   exact h.bound f hf m hm' v c hv hc
  ·rw [List.mem_singleton.1 hf] at hm ⊢
   simp only at hm ⊢
   rw [hlast] at hm
   cases hm
   exact hb v c hv hc
theorem push_up (x:Inst) (low:Int) (s:SS) (n:Node):(x.push low s n).up=s.up∧(x.push low s n).log=s.log∧(x.push low s n).steps=s.steps:=by
 unfold Inst.push
 split<;>exact ⟨rfl,rfl,rfl⟩
theorem push_has {x:Inst} {low:Int} {s:SS} {n:Node} {c:Int} (hg:x.goesOn n c) (hb:max low (x.of n)<s.up):∃e∈(x.push low s n).q,∃m,(x.push low s n).subs[e.no]? =some m∧x.goesOn m c:=by
 rcases push_or x low s n with ⟨_,e⟩ | ⟨_,e⟩
 ·omega
 ·rw [e]
  exact ⟨_,List.mem_append_right _ (List.mem_singleton.2 rfl),n,by simp,hg⟩
theorem push_keeps {x:Inst} {low:Int} {s:SS} {n:Node} {c:Int} (h:∃e∈s.q,∃m,s.subs[e.no]? =some m∧x.goesOn m c):∃e∈(x.push low s n).q,∃m,(x.push low s n).subs[e.no]? =some m∧x.goesOn m c:=by
 rcases push_or x low s n with ⟨e,_⟩ | ⟨_,e⟩
 ·rw [e];exact h
 ·rw [e]
  obtain ⟨f,hf,m,hm,hg⟩:=h
  exact ⟨f,List.mem_append_left _ hf,m,get_old hm,hg⟩
theorem pushes_up (x:Inst) (low:Int):∀(l:List Node) (s:SS),(l.foldl (x.push low) s).up=s.up∧(l.foldl (x.push low) s).log=s.log∧(l.foldl (x.push low) s).steps=s.steps
 |[],s=>⟨rfl,rfl,rfl⟩
 |n :: l,s=>by
  obtain ⟨h1,h2,h3⟩:=pushes_up x low l (x.push low s n)
  obtain ⟨k1,k2,k3⟩:=push_up x low s n
  exact ⟨h1.trans k1,h2.trans k2,h3.trans k3⟩
theorem pushes_inv {x:Inst} (low:Int):∀(l:List Node) (s:SS),SInv x s→(∀n∈l,Track x n∧∀v c,x.way v n.s c→n.cost+c<s.up→max low (x.of n)≤n.cost+c)→SInv x (l.foldl (x.push low) s)
 |[],s,h,_=>h
 |n :: l,s,h,hl=>by
  obtain ⟨h1,h2⟩:=hl n List.mem_cons_self
  refine pushes_inv low l (x.push low s n) (h.push low h1 h2) fun m hm=>?_
  rw [(push_up x low s n).1]
  exact hl m (List.mem_cons_of_mem _ hm)
theorem pushes_keep {x:Inst} (low:Int):∀(l:List Node) (s:SS) (c:Int),(∃e∈s.q,∃m,s.subs[e.no]? =some m∧x.goesOn m c)→∃e∈(l.foldl (x.push low) s).q,∃m,(l.foldl (x.push low) s).subs[e.no]? =some m∧x.goesOn m c
 |[],s,c,h=>h
 |n :: l,s,c,h=>pushes_keep low l (x.push low s n) c (push_keeps h)
theorem pushes_has {x:Inst} (low:Int):∀(l:List Node) (s:SS) (c:Int) (n:Node),n∈l→x.goesOn n c→max low (x.of n)<s.up→∃e∈(l.foldl (x.push low) s).q,∃m,(l.foldl (x.push low) s).subs[e.no]? =some m∧x.goesOn m c
 |m :: l,s,c,n,hn,hg,hb=>by
  rcases List.mem_cons.1 hn with rfl | hn
  ·exact pushes_keep low l _ c (push_has hg hb)
  ·exact pushes_has low l (x.push low s m) c n hn hg (by rw [(push_up x low s m).1];exact hb)
end Go.Proofs.YtackfabapangdaaGreat

set_option maxRecDepth 4000
namespace Go.Proofs.YtackfabapangdaaGreat
open Go Go.Proofs.YtackfabapangdaaGreat.R
theorem front1_sub (F:List Node) (c:Node):(front1 F c).Sublist (F++[c]):=by
 unfold front1
 split
 ·exact List.sublist_append_left _ _
 ·exact (List.filter_sublist).append (List.Sublist.refl _)
theorem front_subl:∀(l pre F:List Node),F.Sublist pre→(l.foldl front1 F).Sublist (pre++l)
 |[],pre,F,h=>by rw [List.append_nil];exact h
 |c :: l,pre,F,h=>by
  have:=front_subl l (pre++[c]) (front1 F c) ((front1_sub F c).trans (h.append (List.Sublist.refl _)))
  rw [List.append_assoc] at this
  exact this
theorem front_sub (l:List Node):(frontL l).Sublist l:=front_subl l [] [] (List.Sublist.refl _)
theorem next_nodup (x:Inst) (l:List Node) (up:Int):((x.next l up).map Node.s).Nodup:=onceL_nodup _
def Under (l m:List Node):Prop:=∀n∈l,∃k∈m,k.s=n.s∧k.cost≤n.cost
theorem under_len {l m:List Node} (hl:(l.map Node.s).Nodup) (h:Under l m):l.length≤m.length:=by
 have:=nodup_len (l.map Node.s) (m.map Node.s) hl fun s hs=>by
  obtain ⟨n,hn,rfl⟩:=List.mem_map.1 hs
  obtain ⟨k,hk,e,_⟩:=h n hn
  exact List.mem_map.2 ⟨k,hk,e⟩
 simpa using this
theorem of_less {x:Inst} {n m:Node} {d:Nat} {l:List Node} (hs:m.s=n.s) (hc:0≤m.cost) (hle:m.cost≤n.cost) (hn:n.cost≤1152921504606846976):x.of m≤x.of n:=by
 rw [Inst.of,Inst.of,hs]
 simp only [sumI,List.foldl_cons,List.foldl_nil,sum1]
 omega
theorem under_next {x:Inst} {l m:List Node} {d e:Nat} (hl:Lev x l (d+1)) (hm:Lev x m (e+1)) (h:Under l m) {up up':Int} (hu:up≤up'):Under (x.next l up) (x.next m up'):=by
 intro c hc
 obtain ⟨n,hn,j,hj,rfl,hof⟩:=next_mem hc
 obtain ⟨k,hk,e1,e2⟩:=h n hn
 have hmv:=moves_mem hj
 have hmv':(x.move k.s j).2.2=true:=by rw [e1];exact hmv
 have c1:=child_cost hl hn hmv
 have c2:=child_cost hm hk hmv'
 have hs:(x.child k j).s=(x.child n j).s:=by show (x.move k.s j).1=(x.move n.s j).1;rw [e1]
 have h3:=hl.cost n hn
 have h4:=hm.cost k hk
 have h5:=move_cost hmv
 have hcc:(x.child k j).cost≤(x.child n j).cost:=by rw [c1,c2,e1];omega
 have hof2:x.of (x.child k j)<up':=by
  have:=of_less (x:=x) (d:=0) (l:=[]) hs (by rw [c2,e1];omega) hcc (by rw [c1];omega)
  omega
 obtain ⟨q,q1,q2,q3⟩:=onceL_has (l:=m.flatMap (x.kids up')) (k:=x.child k j) (by
  refine List.mem_flatMap.2 ⟨k,hk,?_⟩
  rw [Inst.kids,List.mem_filter]
  exact ⟨List.mem_map.2 ⟨j,mem_moves hmv',rfl⟩,by simpa using hof2⟩)
 exact ⟨q,q1,q2.trans hs,by omega⟩
theorem layN_lev {x:Inst} {n:Node} (h:Track x n) (up:Int) (k:Nat):Lev x (x.layN up n k) 41:=(Track.wl (fun m hm=>(layN_track h up k m hm).1) (r:=0) (by omega)).lev
theorem exGo_whole {x:Inst} {n:Node} (ht:Track x n) {up:Int} {most:Int} (hw:∀k,((x.layN up n k).length:Int)≤most):∀(d:Nat) (st:Node×Bool×Int) (l:List Node) (s:Int) (k:Nat),Lev x l d→stOk st→st.2.2≤up→(l.map Node.s).Nodup→Under l (x.layN up n k)→
  (x.exGo most d st l s).2.2.1=true
 |0,st,l,s,k,_,_,_,_,_=>rfl
 |d+1,st,l,s,k,hl,h,hu,hn,hun=>by
  rw [Inst.exGo]
  split
  ·rfl
  have hlen:=under_len hn hun
  have:=hw k
  rw [if_neg (by omega)]
  obtain ⟨k1,k2,k3⟩:=look_ok (x:=x) (l:=l) h
  refine exGo_whole ht hw d (x.look st l) _ _ (k+1) (hl.front st.2.2) k1 (by omega) ?_ ?_
  ·exact (next_nodup x l st.2.2).sublist ((front_sub _).map _)
  ·intro c hc
   exact under_next hl (layN_lev ht up k) hun hu c ((front_sub _).subset hc)
theorem buildGo_end {x:Inst} (w up dp:Int) (n:Node):∀(f:Nat) (ls:List (List Node)) (low:Int) (sq:Option Nat) (l:List Node),(sq=none→l=x.layN up n ls.length)→dp+2≤(f:Int)+ls.length→1≤f→(x.buildGo w up dp f ls low sq l).exact=true→
  x.layN up n (x.buildGo w up dp f ls low sq l).layers.length=[]∨dp<(x.buildGo w up dp f ls low sq l).layers.length
 |0,ls,low,sq,l,_,_,h,_=>absurd h (by omega)
 |f+1,ls,low,sq,l,hn,hf,_,he=>by
  rw [Inst.buildGo] at he ⊢
  split
  ·rename_i c0
   rw [if_pos c0] at he
   simp only [Diag.of,Option.isNone_iff_eq_none] at he
   refine .inl ?_
   show x.layN up n ls.length=[]
   rw [←hn he,c0]
  rename_i c0
  rw [if_neg c0] at he
  split
  ·rename_i c1
   refine .inr ?_
   show dp<((ls++[l]).length:Int)
   rw [List.length_append]
   exact c1
  rename_i c1
  rw [if_neg c1] at he
  have hlen:(ls++[l]).length=ls.length+1:=by simp
  split
  ·rename_i c2
   rw [if_pos c2] at he
   exact buildGo_end w up dp n f _ _ _ _ (fun h=>by cases h) (by omega) (by omega) he
  ·rename_i c2
   rw [if_neg c2] at he
   exact buildGo_end w up dp n f _ _ _ _ (fun h=>by rw [hlen,hn h];rfl) (by omega) (by omega) he
theorem layN_nil {x:Inst} {up:Int} {n:Node} {k:Nat} (h:x.layN up n k=[]):∀i,x.layN up n (k+i)=[]
 |0=>h
 |i+1=>by
  show x.next (x.layN up n (k+i)) up=[]
  rw [layN_nil h i]
  rfl
theorem build_thin {x:Inst} (hm:x.may=true) {n:Node} (h:Track x n) (w up:Int) (he:(x.build n w up).exact=true) (k:Nat):(x.layN up n k).length≤x.mostN w:=by
 have hok:=build_ok x n w up
 have hw:=hok.whole
 rw [he] at hw
 have hs:(x.build n w up).sure=(x.build n w up).layers.length:=of_decide_eq_true hw.symm
 have h1:1≤x.mostN w:=by
  have:1≤x.stops.length:=by
   obtain ⟨p,hx⟩:=x.fit hm
   have:=hx.len
   omega
  unfold Inst.mostN
  omega
 by_cases hk:k<(x.build n w up).layers.length
 ·have h2:=hok.lay k (by omega)
  cases k with
  |zero=>exact h1
  |succ k=>
   refine (build_lay n w up h1 (x.layN up n (k+1)) ?_).2
   rw [List.getElem?_eq_getElem hk] at h2
   rw [←Option.some.inj h2]
   rw [List.mem_drop_iff_getElem]
   exact ⟨k,by omega,by simp only [Nat.add_comm 1 k]⟩
 ·have hend:=buildGo_end (x:=x) w up (x.deep-n.path.length) n ((x.deep-n.path.length).toNat+2) [] up none [n] (fun _=>rfl) (by simp only [List.length_nil];omega) (by omega) he
  rw [←Inst.build] at hend
  rcases hend with h3 | h3
  ·obtain ⟨i,rfl⟩:∃i,k=(x.build n w up).layers.length+i:=⟨k-(x.build n w up).layers.length,by omega⟩
   rw [layN_nil h3 i]
   exact Nat.zero_le _
  ·cases hl:x.layN up n k with
   |nil=>exact Nat.zero_le _
   |cons m l=>
    have hmm:m∈x.layN up n k:=by rw [hl];exact List.mem_cons_self
    obtain ⟨t1,t2⟩:=layN_track h up k m hmm
    have:=t1.len
    have:=(deep_meas hm).1
    omega
theorem exact_whole {x:Inst} (hm:x.may=true) {n:Node} (h:Track x n) (w:Int) {up u:Int} (hu:u≤up) (he:(x.build n w up).exact=true):(x.exact n u (x.mostN w)).2.2.1=true:=by
 have hc:=h.cost
 have hf:=h.few
 refine exGo_whole h (up:=up) (fun k=>by have:=build_thin hm h w up he k;omega) _ (Node.zero,false,u) [n] 0 0 (Lev.root h.is.ok h.is.pos h.is.seen (by omega)) (fun h=>by cases h) hu (by simp) ?_
 intro m hm
 exact ⟨n,List.mem_cons_self,by rw [List.mem_singleton.1 hm],by rw [List.mem_singleton.1 hm];exact Int.le_refl _⟩
end Go.Proofs.YtackfabapangdaaGreat

set_option maxRecDepth 4000
namespace Go.Proofs.YtackfabapangdaaGreat
open Go Go.Proofs.YtackfabapangdaaGreat.R
theorem SInv.like {x:Inst} {s t:SS} (h:SInv x s) (h1:t.subs=s.subs) (h2:t.q=s.q) (h3:t.up=s.up) (h4:t.plan=s.plan):SInv x t:=by
 obtain ⟨a,b,c,d,e,f⟩:=s
 obtain ⟨a',b',c',d',e',f'⟩:=t
 simp only at h1 h2 h3 h4
 subst h1;subst h2;subst h3;subst h4
 exact ⟨h.track,h.nos,h.bound,⟨h.found.le,h.found.plan⟩⟩
theorem Covers.like {x:Inst} {s t:SS} {more:Int→Prop} (h:s.Covers x more) (h1:t.subs=s.subs) (h2:t.q=s.q) (h3:t.up=s.up):t.Covers x more:=by
 intro v c hv hc
 rw [h1,h2]
 exact h v c hv (by omega)
theorem Track.fit {x:Inst} {n:Node} (h:Track x n):0≤n.cost∧n.cost≤1152921504606000000:=by
 have:=h.cost
 have:=h.few
 omega
theorem narrow_isWay {x:Inst} {n:Node} (h:Track x n) (w up:Int):x.isWay ((x.narrow n w up).1,(x.narrow n w up).2.1):=by
 intro hs
 obtain ⟨v,c,h1,h2,h3,_⟩:=narrow_from h.is.ok h.is.pos h.is.seen h.fit hs
 simp only
 rw [h2,h3]
 exact h.way h1
theorem exact_isWay {x:Inst} {n:Node} (h:Track x n) (most up:Int):x.isWay ((x.exact n up most).1,(x.exact n up most).2.1):=by
 intro hs
 obtain ⟨v,c,h1,h2,h3,_⟩:=exact_from h.is.ok h.is.pos h.is.seen h.fit hs
 simp only
 rw [h2,h3]
 exact h.way h1
theorem bests_isWay {x:Inst} {l:List Node} (h:∀m∈l,Track x m):x.isWay (x.bests l):=by
 intro hs
 obtain ⟨m,hm,b1,b2,b3⟩:=bests_from hs
 have ht:=h m hm
 have hf:=ht.fit
 have hec:=end_cost b1
 rw [sumI_two hf.1 hec.1 (by omega)] at b2
 have:=ht.way (v:=[]) (c:=(x.endS m.s).1) ⟨b1,rfl⟩
 rw [List.append_nil,←b2,←b3] at this
 exact this
theorem offers_up (x:Inst):∀(ls:List (List Node)) (s:SS),(x.offers s ls).up≤s.up∧(x.offers s ls).subs=s.subs∧(x.offers s ls).q=s.q∧(x.offers s ls).log=s.log∧(x.offers s ls).steps=s.steps
 |[],s=>⟨Int.le_refl _,rfl,rfl,rfl,rfl⟩
 |l :: ls,s=>by
  obtain ⟨h1,h2,h3,h4,h5⟩:=offers_up x ls (s.offer (x.bests l))
  obtain ⟨k1,k2,k3,k4,k5⟩:=offer_up s (x.bests l)
  exact ⟨Int.le_trans h1 k1,h2.trans k2,h3.trans k3,h4.trans k4,h5.trans k5⟩
theorem offers_gets (x:Inst):∀(ls:List (List Node)) (s:SS),∀l∈ls,(x.bests l).2=true→(x.offers s ls).up≤(x.bests l).1.cost
 |[],s,l,hl,_=>by cases hl
 |k :: ls,s,l,hl,hb=>by
  rcases List.mem_cons.1 hl with rfl | hl
  ·exact Int.le_trans (offers_up x ls _).1 (offer_gets s _ hb)
  ·exact offers_gets x ls _ l hl hb
theorem offers_inv {x:Inst} (hm:x.may=true):∀(ls:List (List Node)) (s:SS),SInv x s→(∀l∈ls,∀m∈l,Track x m)→SInv x (x.offers s ls)
 |[],s,h,_=>h
 |l :: ls,s,h,hl=>offers_inv hm ls _ (h.offer hm (bests_isWay (hl l List.mem_cons_self))) fun k hk=>hl k (List.mem_cons_of_mem _ hk)
theorem offers_cov {x:Inst} {more:Int→Prop}:∀(ls:List (List Node)) (s:SS),s.Covers x more→(x.offers s ls).Covers x more
 |[],s,h=>h
 |l :: ls,s,h=>offers_cov ls _ (Covers.offer h _)
theorem layN_goes {x:Inst} (hst:x.stops.length<2^31) {n:Node} (h:Track x n) {up c:Int} (hg:x.goesOn n c) (hc:c<up):∀(k:Nat),(∀i,i<k→(x.bests (x.layN up n i)).2=true→c<(x.bests (x.layN up n i)).1.cost)→∃m∈x.layN up n k,x.goesOn m c
 |0,_=>⟨n,List.mem_cons_self,hg⟩
 |k+1,hno=>by
  obtain ⟨m,hm,v,d,hv,hd⟩:=layN_goes hst h hg hc k fun i hi=>hno i (by omega)
  have hl:=layN_lev h up k
  match v,hv with
  |[],hv=>
   obtain ⟨b1,b2⟩:=bests_has hm hv.1
   rw [end_sum hl hm hv.1,←hv.2] at b2
   have:=hno k (by omega) b1
   omega
  |j :: v,hv=>
   obtain ⟨g1,e,g2,g3⟩:=hv
   obtain ⟨q,hq,q1,q2⟩:=next_way hst hl hm g1 g2 (up:=up) (by omega)
   exact ⟨q,hq,v,e,by rw [q1];exact g2,by omega⟩
theorem sure_get {x:Inst} {up:Int} {n:Node} {d:Diag} (h:d.Ok x up n) {i:Nat} (hi:i<d.sure):∃hl:i<d.layers.length,d.layers[i]=x.layN up n i:=by
 have:=h.lay i hi
 have hl:i<d.layers.length:=by have:=h.le;omega
 rw [List.getElem?_eq_getElem hl] at this
 exact ⟨hl,Option.some.inj this⟩
theorem branch_ok {x:Inst} (hst:x.stops.length<2^31) (hm:x.may=true) {n:Node} (ht:Track x n) (w:Int) {s:SS} (h:SInv x s) (hc:s.Covers x (x.goesOn n)):SInv x (x.branch (x.build n w s.up) s)∧(x.branch (x.build n w s.up) s).Covers x fun _=>False:=by
 have hok:=build_ok x n w s.up
 have hbw:=fun (v:List Int) (c:Int) (hv:x.way v n.s c)=>build_way hst hm ht w s.up hv
 generalize x.build n w s.up=d at *
 rw [Inst.branch]
 have hpos:=hok.pos
 obtain ⟨hl,hlast⟩:=sure_get hok (i:=d.sure-1) (by omega)
 rw [List.getD_eq_getElem?_getD,List.getElem?_eq_getElem hl,Option.getD_some,hlast]
 have hin:∀l∈d.layers.take (d.sure-1),∃i,i<d.sure-1∧l=x.layN s.up n i:=by
  intro l hl
  obtain ⟨i,hi,e⟩:=List.getElem_of_mem hl
  rw [List.length_take] at hi
  obtain ⟨hl2,e2⟩:=sure_get hok (i:=i) (by omega)
  refine ⟨i,by omega,?_⟩
  rw [←e,List.getElem_take,e2]
 have hof:∀i,i<d.sure-1→x.layN s.up n i∈d.layers.take (d.sure-1):=by
  intro i hi
  obtain ⟨hl2,e2⟩:=sure_get hok (i:=i) (by omega)
  rw [←e2]
  exact List.mem_take_iff_getElem.2 ⟨i,by omega,rfl⟩
 have h3:=offers_inv hm (d.layers.take (d.sure-1)) s h fun l hl m hmm=>by
  obtain ⟨i,_,rfl⟩:=hin l hl
  exact (layN_track ht s.up i m hmm).1
 have hc3:=offers_cov (d.layers.take (d.sure-1)) s hc
 have hup:=(offers_up x (d.layers.take (d.sure-1)) s).1
 have hget:=fun i hi=>offers_gets x (d.layers.take (d.sure-1)) s _ (hof i hi)
 generalize x.offers s (d.layers.take (d.sure-1))=t at *
 refine ⟨pushes_inv d.low _ t h3 fun m hmm=>?_,fun v c hv hcl=>?_⟩
 ·have htm:=(layN_track ht s.up _ m hmm).1
  refine ⟨htm,fun v c hv hlt=>?_⟩
  have h4:=of_way hst htm hv
  obtain ⟨u,hu⟩:=layN_way ht s.up _ m hmm v c hv
  have:=hbw _ _ hu (by omega)
  omega
 ·rw [(pushes_up x d.low _ t).1] at hcl
  refine .inr ?_
  rcases hc3 v c hv hcl with hg | hq
  ·obtain ⟨m,hmm,hgm⟩:=layN_goes hst ht hg (up:=s.up) (by omega) (d.sure-1) fun i hi hb=>by
    have:=hget i hi hb
    omega
   obtain ⟨v',d',hv',hd'⟩:=hgm
   have htm:=(layN_track ht s.up _ m hmm).1
   have h4:=of_way hst htm hv'
   obtain ⟨u,hu⟩:=layN_way ht s.up _ m hmm v' d' hv'
   have:=hbw _ _ hu (by omega)
   exact pushes_has d.low _ t c m hmm ⟨v',d',hv',hd'⟩ (by omega)
  ·exact pushes_keep d.low _ t c hq
theorem look_ok2 {x:Inst} (hst:x.stops.length<2^31) (hm:x.may=true) {n:Node} (ht:Track x n) (w:Int) {s:SS} (h:SInv x s) (hc:s.Covers x (x.goesOn n)):SInv x (x.lookS w s n)∧(x.lookS w s n).Covers x fun _=>False:=by
 rw [Inst.lookS]
 have hs1:SInv x (s.nar x w n):=by
  rw [SS.nar]
  exact SInv.offer hm (h.like (t:=s.plus _) rfl rfl rfl rfl) (narrow_isWay ht w s.up)
 have hc1:(s.nar x w n).Covers x (x.goesOn n):=by
  rw [SS.nar]
  exact Covers.offer (Covers.like (t:=s.plus _) hc rfl rfl rfl) _
 generalize s.nar x w n=t at *
 have hbw:=fun (v:List Int) (c:Int) (hv:x.way v n.s c)=>build_way hst hm ht w t.up hv
 have hbr:=branch_ok hst hm ht w (s:=t.dia n (x.build n w t.up)) (hs1.like rfl rfl rfl rfl) (Covers.like hc1 rfl rfl rfl)
 have hex:=exact_whole hm ht w (up:=t.up) (u:=t.up) (Int.le_refl _)
 have hdu:(t.dia n (x.build n w t.up)).up=t.up:=rfl
 rw [hdu] at hbr
 generalize x.build n w t.up=d at *
 have hs2:SInv x (t.dia n d):=hs1.like rfl rfl rfl rfl
 have hc2:(t.dia n d).Covers x (x.goesOn n):=Covers.like hc1 rfl rfl rfl
 rw [Inst.lookD]
 split
 ·rename_i c1
  refine ⟨hs2,fun v c hv hlt=>?_⟩
  rcases hc2 v c hv hlt with ⟨v',d',hv',hd'⟩ | hq
  ·have:=hbw v' d' hv' (by rw [hdu] at hlt;omega)
   rw [hdu] at hlt
   omega
  ·exact .inr hq
 split
 ·rename_i c2
  have hall:=hex c2
  rw [SS.exa,hdu]
  have hs3:SInv x ((t.dia n d).plus (x.exact n t.up (x.mostN w)).2.2.2):=hs2.like rfl rfl rfl rfl
  have hc3:((t.dia n d).plus (x.exact n t.up (x.mostN w)).2.2.2).Covers x (x.goesOn n):=Covers.like hc2 rfl rfl rfl
  have hu3:((t.dia n d).plus (x.exact n t.up (x.mostN w)).2.2.2).up=t.up:=rfl
  generalize (t.dia n d).plus (x.exact n t.up (x.mostN w)).2.2.2=z at *
  refine ⟨hs3.offer hm (exact_isWay ht _ _),fun v c hv hlt=>?_⟩
  have hle:=offer_up z ((x.exact n t.up (x.mostN w)).1,(x.exact n t.up (x.mostN w)).2.1)
  have hle1:=hle.1
  rcases hc3 v c hv (by omega) with ⟨v',d',hv',hd'⟩ | hq
  ·obtain ⟨e1,e2⟩:=exact_has hst ht.is.ok ht.is.pos ht.is.seen ht.fit hall hv' (by omega)
   have:=offer_gets z ((x.exact n t.up (x.mostN w)).1,(x.exact n t.up (x.mostN w)).2.1) e1
   simp only at this
   omega
  ·rw [hle.2.1,hle.2.2.1]
   exact .inr hq
 ·exact hbr
end Go.Proofs.YtackfabapangdaaGreat

set_option maxRecDepth 4000
namespace Go.Proofs.YtackfabapangdaaGreat
open Go Go.Proofs.YtackfabapangdaaGreat.R
structure Opt where
 width:Int
 order:Int
 budget:Int
structure SRes where
 status:Int
 plan:List (List Int)
 up:Int
 low:Int
 steps:Int
 log:List (Node×Diag)
def Ent.zero:Ent:=⟨0,0,0⟩
def lessE (o:Int) (a b:Ent):Bool:=
 if o=0 then decide (a.bound<b.bound∨a.bound=b.bound∧(b.depth<a.depth∨a.depth=b.depth∧a.no<b.no))
 else if o=1 then decide (b.depth<a.depth∨a.depth=b.depth∧(a.bound<b.bound∨a.bound=b.bound∧a.no<b.no))
 else decide (a.no<b.no∨a.no=b.no∧(a.bound<b.bound∨a.bound=b.bound∧a.depth<b.depth))
def minI (o:Int) (q:List Ent):Nat:=(List.range q.length).foldl (fun k i=>if lessE o (q.getD i Ent.zero) (q.getD k Ent.zero)=true then i else k) 0
def takeQ (o:Int) (q:List Ent):Option (Ent×List Ent):=if q=[] then none else some (q.getD (minI o q) Ent.zero,q.take (minI o q)++q.drop (minI o q+1))
def leastQ:List Ent→Int
 |[]=>inf
 |e :: l=>l.foldl (fun n f=>min n f.bound) e.bound
def SS.ends (s:SS):SRes:=⟨if s.up<inf then 2 else 3,s.plan,s.up,s.up,s.steps,s.log⟩
def SS.stop (s:SS) (e:Ent):SRes:=⟨4,s.plan,s.up,min s.up (min e.bound (leastQ s.q)),s.steps,s.log⟩
def SS.left (s:SS) (q:List Ent):SS:={s with q:=q}
def Inst.runGo (x:Inst) (o:Opt):Nat→SS→Option SRes
 |0,_=>none
 |f+1,s=>match takeQ o.order s.q with
  |none=>some s.ends
  |some (e,q)=>if s.up≤e.bound then x.runGo o f (s.left q) else if o.budget≤s.steps then some ((s.left q).stop e) else x.runGo o f (x.lookS o.width (s.left q) (s.subs.getD e.no Node.zero))
def Inst.start (x:Inst):SS:=x.push 0 ⟨[],[],inf,[],0,[]⟩ x.rootN
theorem minI_go (o:Int) (q:List Ent):∀(l:List Nat) (k:Nat),k<q.length→(∀i∈l,i<q.length)→l.foldl (fun k i=>if lessE o (q.getD i Ent.zero) (q.getD k Ent.zero)=true then i else k) k<q.length
 |[],k,h,_=>h
 |i :: l,k,h,hl=>by
  rw [List.foldl_cons]
  refine minI_go o q l _ ?_ fun j hj=>hl j (List.mem_cons_of_mem _ hj)
  split
  ·exact hl i List.mem_cons_self
  ·exact h
theorem minI_lt (o:Int) {q:List Ent} (h:q≠[]):minI o q<q.length:=
 minI_go o q _ 0 (List.length_pos_iff.2 h) fun i hi=>List.mem_range.1 hi
theorem take_none {o:Int} {q:List Ent} (h:takeQ o q=none):q=[]:=by
 unfold takeQ at h
 split at h
 ·assumption
 ·cases h
theorem take_some {o:Int} {q:List Ent} {e:Ent} {q':List Ent} (h:takeQ o q=some (e,q')):e∈q∧(∀f∈q,f=e∨f∈q')∧(∀f∈q',f∈q)∧q.length=q'.length+1:=by
 unfold takeQ at h
 split at h
 ·cases h
 rename_i hq
 have hk:=minI_lt o hq
 generalize minI o q=k at *
 obtain ⟨rfl,rfl⟩:=Prod.mk.inj (Option.some.inj h)
 have hd:q=q.take k++q[k] :: q.drop (k+1):=by rw [←List.drop_eq_getElem_cons hk,List.take_append_drop]
 have hg:q.getD k Ent.zero=q[k]:=by rw [List.getD_eq_getElem?_getD,List.getElem?_eq_getElem hk];rfl
 rw [hg]
 refine ⟨List.getElem_mem _,fun f hf=>?_,fun f hf=>?_,?_⟩
 ·rw [hd] at hf
  rcases List.mem_append.1 hf with hf | hf
  ·exact .inr (List.mem_append_left _ hf)
  ·rcases List.mem_cons.1 hf with hf | hf
   ·exact .inl hf
   ·exact .inr (List.mem_append_right _ hf)
 ·rcases List.mem_append.1 hf with hf | hf
  ·exact List.mem_of_mem_take hf
  ·exact List.mem_of_mem_drop hf
 ·rw [List.length_append,List.length_take,List.length_drop]
  omega
theorem least_fold:∀(l:List Ent) (n:Int),l.foldl (fun n f=>min n f.bound) n≤n∧∀f∈l,l.foldl (fun n f=>min n f.bound) n≤f.bound
 |[],n=>⟨Int.le_refl _,fun f hf=>by cases hf⟩
 |e :: l,n=>by
  obtain ⟨h1,h2⟩:=least_fold l (min n e.bound)
  rw [List.foldl_cons]
  refine ⟨by omega,fun f hf=>?_⟩
  rcases List.mem_cons.1 hf with rfl | hf
  ·omega
  ·exact h2 f hf
theorem least_le {q:List Ent} {f:Ent} (h:f∈q):leastQ q≤f.bound:=by
 cases q with
 |nil=>cases h
 |cons e l=>
  obtain ⟨h1,h2⟩:=least_fold l e.bound
  rcases List.mem_cons.1 h with rfl | h
  ·exact h1
  ·exact h2 f h
structure Told (x:Inst) (r:SRes):Prop where
 le:r.up≤inf
 plan:r.up<inf→x.cost r.plan=(r.up,0)
 low:∀v c,x.way v x.rootS c→r.low≤c
 less:r.low≤r.up
 status:(r.status=2∧r.low=r.up∧r.up<inf)∨(r.status=3∧r.low=inf∧r.up=inf)∨(r.status=4∧r.low<r.up)
theorem SInv.left {x:Inst} {s:SS} (h:SInv x s) {q:List Ent} (hq:∀f∈q,f∈s.q):SInv x (s.left q):=
 ⟨h.track,fun e he=>h.nos e (hq e he),fun e he=>h.bound e (hq e he),⟨h.found.le,h.found.plan⟩⟩
theorem Covers.left {x:Inst} {s:SS} (hs:SInv x s) (h:s.Covers x fun _=>False) {q:List Ent} {e:Ent} (hq:∀f∈s.q,f=e∨f∈q) {n:Node} (hn:s.subs[e.no]? =some n):(s.left q).Covers x (x.goesOn n):=by
 intro v c hv hc
 rcases h v c hv hc with hf | ⟨f,hf,m,hm,hg⟩
 ·exact hf.elim
 ·rcases hq f hf with rfl | hf
  ·rw [hn] at hm
   cases hm
   exact .inl hg
  ·exact .inr ⟨f,hf,m,hm,hg⟩
theorem run_told {x:Inst} (hst:x.stops.length<2^31) (hm:x.may=true) (o:Opt):∀(f:Nat) (s:SS) (r:SRes),SInv x s→s.Covers x (fun _=>False)→x.runGo o f s=some r→Told x r
 |0,s,r,_,_,h=>by cases h
 |f+1,s,r,hs,hc,h=>by
  rw [Inst.runGo] at h
  cases ht:takeQ o.order s.q with
  |none=>
   rw [ht] at h
   have hq:=take_none ht
   have:r=s.ends:=(Option.some.inj h).symm
   subst this
   have hno:∀v c,x.way v x.rootS c→s.up≤c:=fun v c hv=>by
    by_cases hlt:c<s.up
    ·rcases hc v c hv hlt with hf | ⟨e,he,_⟩
     ·exact hf.elim
     ·rw [hq] at he;cases he
    ·omega
   refine ⟨hs.found.le,hs.found.plan,hno,Int.le_refl _,?_⟩
   have hle:=hs.found.le
   by_cases hu:s.up<inf
   ·exact .inl ⟨if_pos hu,rfl,hu⟩
   ·exact .inr (.inl ⟨if_neg hu,by show s.up=inf;omega,by show s.up=inf;omega⟩)
  |some p=>
   obtain ⟨e,q⟩:=p
   rw [ht] at h
   simp only at h
   obtain ⟨t1,t2,t3,t4⟩:=take_some ht
   obtain ⟨n,hn⟩:=hs.nos e t1
   have hb:=hs.bound e t1 n hn
   have hcl:=Covers.left hs hc t2 hn
   have hsl:=hs.left t3
   by_cases c1:s.up≤e.bound
   ·rw [if_pos c1] at h
    refine run_told hst hm o f _ r hsl (fun v c hv hlt=>?_) h
    rcases hcl v c hv hlt with ⟨v',d',hv',hd'⟩ | hq
    ·have hlt':c<s.up:=hlt
     have:=hb v' d' hv' (by omega)
     omega
    ·exact .inr hq
   rw [if_neg c1] at h
   by_cases c2:o.budget≤s.steps
   ·rw [if_pos c2] at h
    have:r=(s.left q).stop e:=(Option.some.inj h).symm
    subst this
    have hlow:((s.left q).stop e).low=min s.up (min e.bound (leastQ q)):=rfl
    refine ⟨hs.found.le,hs.found.plan,fun v c hv=>?_,?_,.inr (.inr ⟨rfl,?_⟩)⟩
    ·rw [hlow]
     by_cases hlt:c<s.up
     ·rcases hcl v c hv hlt with ⟨v',d',hv',hd'⟩ | ⟨g,hg,m,hm',v',d',hv',hd'⟩
      ·have:=hb v' d' hv' (by omega)
       omega
      ·have:=hs.bound g (t3 g hg) m hm' v' d' hv' (by omega)
       have:leastQ q≤g.bound:=least_le hg
       omega
     ·omega
    ·rw [hlow];show _≤s.up;omega
    ·rw [hlow];show _<s.up;omega
   ·rw [if_neg c2] at h
    have hgd:s.subs.getD e.no Node.zero=n:=by rw [List.getD_eq_getElem?_getD,hn];rfl
    rw [hgd] at h
    obtain ⟨k1,k2⟩:=look_ok2 hst hm (hs.track n (List.mem_of_getElem? hn)) o.width hsl hcl
    exact run_told hst hm o f _ r k1 k2 h
theorem start_ok {x:Inst} (hst:x.stops.length<2^31) (hm:x.may=true):SInv x x.start∧x.start.Covers x fun _=>False:=by
 have ht:=track_root hm
 have h0:SInv x ⟨[],[],inf,[],0,[]⟩:=⟨fun n hn=>by simp at hn,fun e he=>by simp at he,fun e he=>by simp at he,⟨Int.le_refl _,fun h=>absurd h (Int.lt_irrefl _)⟩⟩
 have hof:∀v c,x.way v x.rootN.s c→max 0 (x.of x.rootN)≤x.rootN.cost+c:=fun v c hv=>by
  have h1:=of_way hst ht hv
  have h2:=way_in hv
  have h3:=ht.cost
  omega
 refine ⟨h0.push 0 ht fun v c hv _=>hof v c hv,fun v c hv hlt=>?_⟩
 rw [Inst.start,(push_up x 0 _ x.rootN).1] at hlt
 refine .inr (push_has ⟨v,c,hv,?_⟩ ?_)
 ·show (0:Int)+c≤c;omega
 ·have:=hof v c hv
  have h0:x.rootN.cost=0:=rfl
  have:c<inf:=hlt
  show _<inf
  omega
end Go.Proofs.YtackfabapangdaaGreat

set_option maxRecDepth 4000
namespace Go.Proofs.YtackfabapangdaaGreat
open Go Go.Proofs.YtackfabapangdaaGreat.R
def Ent.cs (e:Ent):List AV:=[.i e.bound,.i e.depth,.i e.no]
def Ent.a (e:Ent):AV:=.agg e.cs
def Ent.t (o:Int) (e:Ent):List T:=[.i e.bound,.i e.depth,.i e.no,.i o]
def orL:List Int→Int
 |[]=>0
 |a :: l=>if a=0 then orL l else a
theorem or_pure (l:List Int) (hl:l.length<2^31):Pure P 294 [.t (.sl (ints l))] (.i (orL l)):=by
 generalize hR:orL l=R
 refine pure_of Tryz.func294 rfl rfl (by simp [Tryz.f294]) (by simp [bnd,bnd.bndL]) (by simp [bnd,bnd.bndL]) fun B hB hnx=>?_
 simp only [Tryz.f294] at hB ⊢
 have hil:(ints l).length=l.length:=List.length_map _
 have hig:∀(k:Nat) (h:k<l.length),(ints l)[k]'(by rw [hil];exact h)=[.i l[k]]:=fun k h=>ints_getS _ h
 generalize ints l=Y at *
 refine K_run hB 100 ?_
 simp [go_sem,hil]
 refine K_loopP (α:=Nat) (fun k=>k≤l.length∧orL (l.drop k)=R) (fun k=>⟨sl [(3,.i 0),(6,.t (.sl Y)),(7,.i l.length),(8,.i k)],_,_⟩) (fun k=>l.length-k) 0 ⟨Nat.zero_le _,hR⟩ (Imp.slots (by simp [go_sem]) rfl rfl) ?_
 rintro k ⟨g1,g2⟩
 refine K_run hB 60 ?_
 simp [go_sem]
 refine fork_dec (fun hk=>?_) (fun hk=>?_)
 ·have hkk:IntKind.i64.wrap ((k:Int)+1)=((k+1:Nat):Int):=by rw [w64 ((k:Int)+1) (by omega)];rfl
  have hgk:∀h:k<Y.length,Y[k]'h=[.i l[k]]:=fun h=>hig k hk
  rw [List.drop_eq_getElem_cons hk,orL] at g2
  generalize l[k]=a at *
  by_cases c1:a=0
  ·rw [if_pos c1] at g2
   simp [go_sem,hil,hk,hgk,c1,hkk]
   exact Next.mk (k+1) ⟨by omega,g2⟩ (Imp.slots (by simp [go_sem]) rfl rfl) (by omega)
  ·rw [if_neg c1] at g2
   subst g2
   simp [go_sem,hil,hk,hgk,c1]
 ·have:k=l.length:=by omega
  subst this
  rw [List.drop_length,orL] at g2
  subst g2
  simp [go_sem]
def compE (o:Int) (a b:Ent):Int:=
 if o=0 then orL [cmpI a.bound b.bound,-cmpI a.depth b.depth,cmpI a.no b.no]
 else if o=1 then orL [-cmpI a.depth b.depth,cmpI a.bound b.bound,cmpI a.no b.no]
 else orL [cmpI a.no b.no,cmpI a.bound b.bound,cmpI a.depth b.depth]
theorem compE_less (o:Int) (a b:Ent):decide (compE o a b<0)=lessE o a b:=by
 unfold compE lessE
 by_cases c1:o=0
 ·rw [if_pos c1,if_pos c1]
  refine decide_eq_decide.2 ?_
  simp only [orL,cmpI]
  repeat' split
  all_goals omega
 ·rw [if_neg c1,if_neg c1]
  by_cases c2:o=1
  ·rw [if_pos c2,if_pos c2]
   refine decide_eq_decide.2 ?_
   simp only [orL,cmpI]
   repeat' split
   all_goals omega
  ·rw [if_neg c2,if_neg c2]
   refine decide_eq_decide.2 ?_
   simp only [orL,cmpI]
   repeat' split
   all_goals omega
theorem cmpI_in (a b:Int): -1≤cmpI a b∧cmpI a b≤1:=by
 unfold cmpI
 repeat' split
 all_goals omega
theorem compare_pure (o:Int) (a b:Ent):Pure P 293 [.i o,a.a,b.a] (.i (compE o a b)):=by
 generalize hR:compE o a b=R
 refine pure_of Tryz.func293 rfl rfl (by simp [Tryz.f293]) (by simp [bnd,bnd.bndL,Ent.a,Ent.cs]) (by simp [bnd,bnd.bndL]) fun B hB hnx=>?_
 simp only [Tryz.f293] at hB ⊢
 have h1:=cmp_pure a.bound b.bound
 have h2:=cmp_pure a.depth b.depth
 have h3:=cmp_pure a.no b.no
 have w2:=cmpI_in a.depth b.depth
 rw [compE] at hR
 have o1:=or_pure [cmpI a.bound b.bound,-cmpI a.depth b.depth,cmpI a.no b.no] (by simp)
 have o2:=or_pure [-cmpI a.depth b.depth,cmpI a.bound b.bound,cmpI a.no b.no] (by simp)
 have o3:=or_pure [cmpI a.no b.no,cmpI a.bound b.bound,cmpI a.depth b.depth] (by simp)
 generalize cmpI a.bound b.bound=cb at *
 generalize cmpI a.depth b.depth=cd at *
 generalize cmpI a.no b.no=cn at *
 have wd:IntKind.i64.wrap (-cd)= -cd:=w64 _ (by omega)
 refine K_run hB 100 ?_
 simp [go_sem,Ent.a,Ent.cs]
 refine K_drawn [] rfl (by rw [hB];kernel_rfl) ?_
 refine K_run hB 100 ?_
 simp [go_sem]
 refine K_dCallP rfl rfl rfl (args:=[.i a.bound,.i b.bound]) (f:=247) (by simp [go_sem]) (h1) ?_
 refine K_run hB 100 ?_
 simp [go_sem]
 refine K_dCallP rfl rfl rfl (args:=[.i a.depth,.i b.depth]) (f:=247) (by simp [go_sem]) (h2) ?_
 refine K_run hB 100 ?_
 simp [go_sem]
 refine K_dCallP rfl rfl rfl (args:=[.i a.no,.i b.no]) (f:=247) (by simp [go_sem]) (h3) ?_
 by_cases c1:o=0
 ·rw [if_pos c1] at hR
  refine K_run hB 100 ?_
  simp [go_sem,c1,wd]
  refine K_call rfl rfl rfl (args:=[.fsl (ints [cb,-cd,cn])]) (f:=294) (by simp [go_sem,ints]) (by simp [go_sem,hB]) ((Pure.loose o1 (by simp [bnd])).spec _ _) ?_
  refine K_run hB 100 ?_
  simp [go_sem]
  exact hR
 rw [if_neg c1] at hR
 by_cases c2:o=1
 ·rw [if_pos c2] at hR
  refine K_run hB 100 ?_
  simp [go_sem,c1,c2,wd]
  refine K_call rfl rfl rfl (args:=[.fsl (ints [-cd,cb,cn])]) (f:=294) (by simp [go_sem,ints]) (by simp [go_sem,hB]) ((Pure.loose o2 (by simp [bnd])).spec _ _) ?_
  refine K_run hB 100 ?_
  simp [go_sem]
  exact hR
 rw [if_neg c2] at hR
 refine K_run hB 100 ?_
 simp [go_sem,c1,c2]
 refine K_call rfl rfl rfl (args:=[.fsl (ints [cn,cb,cd])]) (f:=294) (by simp [go_sem,ints]) (by simp [go_sem,hB]) ((Pure.loose o3 (by simp [bnd])).spec _ _) ?_
 refine K_run hB 100 ?_
 simp [go_sem]
 exact hR
theorem hless_pure (o:Int) (a b:Ent):Pure P 292 [.i o,a.a,b.a] (.b (lessE o a b)):=by
 refine pure_of Tryz.func292 rfl rfl (by simp [Tryz.f292]) (by simp [bnd,bnd.bndL,Ent.a,Ent.cs]) (by simp [bnd,bnd.bndL]) fun B hB hnx=>?_
 simp only [Tryz.f292] at hB ⊢
 have h:=compare_pure o a b
 rw [←compE_less]
 refine K_run hB 100 ?_
 simp [go_sem,Ent.a,Ent.cs]
 refine K_call rfl rfl rfl (args:=[.i o,a.a,b.a]) (f:=293) (by simp [go_sem,Ent.a,Ent.cs]) (by simp [go_sem,hB]) ((h).spec _ _) ?_
 refine K_run hB 100 ?_
 simp [go_sem]
theorem ahead_pure (o o2:Int) (a b:Ent):Pure P 291 [.agg ((a.t o).map .t),.agg ((b.t o2).map .t)] (.b (lessE o a b)):=by
 refine pure_of Tryz.func291 rfl rfl (by simp [Tryz.f291]) (by simp [bnd,bnd.bndL,Ent.t]) (by simp [bnd,bnd.bndL]) fun B hB hnx=>?_
 simp only [Tryz.f291] at hB ⊢
 have h:=hless_pure o a b
 refine K_run hB 100 ?_
 simp [go_sem,Ent.t]
 refine K_call rfl rfl rfl (args:=[.i o,a.a,b.a]) (f:=292) (by simp [go_sem,Ent.a,Ent.cs]) (by simp [go_sem,hB]) ((h).spec _ _) ?_
 refine K_run hB 100 ?_
 simp [go_sem]
end Go.Proofs.YtackfabapangdaaGreat

set_option maxRecDepth 4000
set_option maxHeartbeats 1000000
namespace Go.Proofs.YtackfabapangdaaGreat
open Go Go.Proofs.YtackfabapangdaaGreat.R
def itemsT (o:Int) (l:List Ent):List (List T):=l.map (Ent.t o)
def swapE (l:List Ent) (i j:Nat):List Ent:=(l.set i (l.getD j Ent.zero)).set j (l.getD i Ent.zero)
def upGo (o:Int):Nat→List Ent→Nat→List Ent
 |0,l,_=>l
 |f+1,l,i=>if 0<i∧lessE o (l.getD i Ent.zero) (l.getD ((i-1) / 2) Ent.zero)=true then upGo o f (swapE l i ((i-1) / 2)) ((i-1) / 2) else l
def putH (o:Int) (l:List Ent) (e:Ent):List Ent:=upGo o (l.length+1) (l++[e]) l.length
def putS (σ:Nat→AObj) (nx h q:Nat) (o:Int) (l:List Ent):Nat→AObj:=fun i=>if i=h then .box [.ref (nx+1),.i o] else if i=nx+1 then .arr 4 (itemsT o l) else if i<nx∧i≠q then σ i else .dead
theorem item_ahead:((P.info? 205).bind fun info=>(info.methods.find? fun m=>m.name== "haulier/heap.ahead").map fun mm=>(mm.path,mm.func))=some (#[],some (291,false)):=by kernel_rfl
theorem item_meth:∃info mm,P.info? 205=some info∧(info.methods.find? fun m=>m.name== "haulier/heap.ahead")=some mm∧mm.path= #[]∧mm.func=some (291,false):=by
 obtain ⟨info,h1,h2⟩:=Option.bind_eq_some_iff.1 item_ahead
 obtain ⟨mm,h3,h4⟩:=Option.map_eq_some_iff.1 h2
 obtain ⟨h5,h6⟩:=Prod.mk.inj h4
 exact ⟨info,mm,h1,h3,h5,h6⟩
theorem swapE_len (l:List Ent) (i j:Nat):(swapE l i j).length=l.length:=by simp [swapE]
theorem items_len (o:Int) (l:List Ent):(itemsT o l).length=l.length:=List.length_map _
theorem items_get (o:Int) (l:List Ent) {k:Nat} (h:k<l.length) (h':k<(itemsT o l).length):(itemsT o l)[k]'h'=(l.getD k Ent.zero).t o:=by
 rw [List.getD_eq_getElem?_getD,List.getElem?_eq_getElem h]
 exact List.getElem_map _
theorem items_swap (o:Int) (l:List Ent) (i j:Nat):((itemsT o l).set i ((l.getD j Ent.zero).t o)).set j ((l.getD i Ent.zero).t o)=itemsT o (swapE l i j):=by
 simp [itemsT,swapE,List.map_set]
theorem put_spec (o:Int) (l:List Ent) (e:Ent) (hl:l.length<2^30) {σ:Nat→AObj} {nx h q:Nat} (hh:h<nx) (hσ:σ h= .box [.ref q,.i o]) (hq:q<nx) (hσq:σ q= .arr 4 (itemsT o l)):
  CallSpec P 178 [.ptr h 0,.agg ((e.t o).map .t)] σ nx (.tup []) (putS σ nx h q o (putH o l e)) (nx+2):=by
 refine spec_of_K Tryz.func178 rfl rfl (by simp [Tryz.f178]) fun B hB hnx hσB=>?_
 simp only [Tryz.f178] at hB ⊢
 obtain ⟨info,mm,m1,m2,m3,m4⟩:=item_meth
 have hne:¬h=nx:=by omega
 have hne2:¬q=nx:=by omega
 have hqh:¬q=h:=fun e=>by rw [e,hσ] at hσq;cases hσq
 have hil:=items_len o l
 have hcap:l.length+1≤mostLen:=by show _≤4294967296;omega
 have happ:itemsT o l++[[.i e.bound,.i e.depth,.i e.no,.i o]]=itemsT o (l++[e]):=by simp [itemsT,Ent.t]
 have hne3:¬h=nx+1:=by omega
 have w0':IntKind.i64.wrap (l.length:Int)=(l.length:Int):=w64 _ (by omega)
 have hne5:¬nx+1=h:=by omega
 have hne4:¬h=q:=fun e=>hqh e.symm
 have hil2:(itemsT o (l++[e])).length=l.length+1:=by rw [items_len,List.length_append];rfl
 have w0:IntKind.i64.wrap ((l.length:Int)+1-1)=(l.length:Int):=by rw [w64 _ (by omega)];omega
 generalize hR:putH o l e=R
 rw [putH] at hR
 have fin:∀(τ:Nat→AObj) (m:Slots),τ h= .box [.ref (nx+1),.i o]→τ (nx+1)= .arr 4 (itemsT o R)→(∀j,j<nx→j≠h→j≠q→τ j=σ j)→Go.Proofs.YtackfabapangdaaGreat.R.Ends nx (St.mk m τ (nx+2)) (.tup []) (putS σ nx h q o R) (nx+2) (.tup []):=fun τ m k1 k2 k3=>by
  refine ⟨fun i=>?_,Nat.le_refl _,by omega,.inl rfl,.inl rfl⟩
  unfold putS
  by_cases e1:i=h
  ·rw [if_pos e1,e1];exact .inr ⟨k1.symm,.inl rfl⟩
  rw [if_neg e1]
  by_cases e2:i=nx+1
  ·rw [if_pos e2,e2];exact .inr ⟨k2.symm,.inl rfl⟩
  rw [if_neg e2]
  by_cases e3:i<nx∧i≠q
  ·rw [if_pos e3];exact .inr ⟨(k3 i e3.1 e1 e3.2).symm,.inl rfl⟩
  ·rw [if_neg e3];exact .inl rfl
 refine K_run hB 100 ?_
 simp [go_sem,Ent.t]
 refine K_scopeN (α:=Nat×List Ent×Nat×(Nat→AObj)) 0 (fun (f,m,i,τ)=>upGo o f m i=R∧i<f∧i<m.length∧m.length<2^31∧τ h= .box [.ref (nx+1),.i o]∧τ (nx+1)= .arr 4 (itemsT o m)∧∀j,j<nx→j≠h→j≠q→τ j=σ j)
  (fun (f,m,i,τ)=>⟨sl [(0,.ptr h 0),(4,.i i)],τ,nx+2⟩) (fun a=>a.1) rfl ?_ ?_
 ·rintro ⟨f,m,i,τ⟩ ⟨g1,g2,g3,g4,g5,g6,g7⟩
  have himl:=items_len o m
  have w1:IntKind.i64.wrap ((i:Int)-1)=(i:Int)-1:=w64 _ (by omega)
  obtain ⟨v,hv⟩:∃v,v=(i-1) / 2:=⟨_,rfl⟩
  have w2:IntKind.i64.wrap (Int.tdiv ((i:Int)-1) 2)=(v:Int):=by
   rw [hv]
   rcases Nat.eq_zero_or_pos i with e | e
   ·subst e;rfl
   ·obtain ⟨k,rfl⟩:∃k,i=k+1:=⟨i-1,by omega⟩
    rw [show (((k+1:Nat):Int)-1)=(k:Int) by omega,Int.tdiv_eq_ediv_of_nonneg (by omega),w64 _ (by omega)]
    simp
  refine K_run hB 100 ?_
  simp [go_sem,w1,w2]
  obtain ⟨f,rfl⟩:∃f',f=f'+1:=⟨f-1,by omega⟩
  rw [upGo,←hv] at g1
  by_cases c0:i=0
  ·rw [if_neg (by omega)] at g1
   subst g1
   subst c0
   refine K_drawn [] rfl (by rw [hB];kernel_rfl) ?_
   refine K_run hB 100 ?_
   simp [go_sem,w1]
   exact fin _ _ g5 g6 g7
  have hov:v<m.length:=by omega
  have hgi:=fun h=>items_get o m (k:=i) g3 h
  have hgo:=fun h=>items_get o m (k:=v) hov h
  have hsw:=items_swap o m i v
  have hneI:¬i=v:=by omega
  generalize m.getD i Ent.zero=a at *
  generalize m.getD v Ent.zero=b at *
  have hah:=ahead_pure o o a b
  have c1:0<i:=by omega
  refine K_drawn [] rfl (by rw [hB];kernel_rfl) ?_
  refine K_run hB 100 ?_
  simp [go_sem,c1,g5,g6,himl,g3,hov,hgi,hgo,Ent.t]
  refine K_dLook (v:=.ifc 205 (a.t o)) (fun ho=>?_) (by simp [go_sem]) ?_
  ·exact does_ifc ho (by simp [go_sem]) rfl (tt_some tt205).1 rfl (by simp [go_sem,Ent.t])
  refine K_run hB 100 ?_
  simp [go_sem,c1,g5,g6,himl,g3,hov,hgi,hgo,Ent.t]
  refine K_dLook (v:=.b (lessE o a b)) (fun ho=>?_) (by simp [go_sem]) ?_
  ·exact does_invoke ho (by simp [go_sem]) rfl rfl rfl m1 m2 m3 m4 (tt_some tt205).1 rfl (by first | (simp [go_sem];done) | (simp [go_sem];rfl)) (by first | (simp [go_sem,Ent.t];done) | (simp [go_sem,Ent.t];rfl)) (hah.spec _ _)
  cases hless:lessE o a b with
  |false=>
   rw [if_neg (by simp [hless])] at g1
   subst g1
   refine K_run hB 100 ?_
   simp [go_sem]
   exact fin _ _ g5 g6 g7
  |true=>
   rw [if_pos ⟨c1,hless⟩] at g1
   refine K_run hB 100 ?_
   simp [go_sem]
   refine K_drawnF [25,27] [9] rfl (by rw [hB];kernel_rfl) (by kernel_rfl) fun ht hf'=>?_
   have hgs:∀h:v<((itemsT o m).set i [.i b.bound,.i b.depth,.i b.no,.i o]).length,((itemsT o m).set i [.i b.bound,.i b.depth,.i b.no,.i o])[v]'h=[.i b.bound,.i b.depth,.i b.no,.i o]:=fun h=>by
    rw [List.getElem_set_ne hneI]
    exact hgo _
   have hls:((itemsT o m).set i [.i b.bound,.i b.depth,.i b.no,.i o]).length=m.length:=by rw [List.length_set];exact himl
   simp only [Ent.t] at hsw
   refine K_run hB 100 ?_
   simp [go_sem,ht,hf',g5,g6,himl,g3,hov,hgi,hgo,hgs,hls,hsw,Ent.t]
   refine Next.mk (f,swapE m i v,v,_) ⟨g1,by simp only;omega,by rw [swapE_len];exact hov,by rw [swapE_len];exact g4,?_,?_,?_⟩ (Imp.slots (by simp [go_sem]) rfl rfl) (by simp only;omega)
   ·simp [oput,g5,hne3]
   ·simp [oput]
   ·intro j h1 h2 h3
    simp [oput,show ¬j=nx+1 by omega,g7 j h1 h2 h3]
 ·intro J hJ
  refine K_run hB 100 ?_
  simp [go_sem,hσ,hne]
  refine K_drawnF [7,10] [0] rfl (by rw [hB];kernel_rfl) (by kernel_rfl) fun ht hf'=>?_
  refine K_run hB 22 ?_
  simp [go_sem,ht,hf',hσ,hne,hne2,hne3,hne4,hne5,hσq,hil,hcap,happ,hil2,w0]
  refine hJ (l.length+1,l++[e],l.length,_) _ ⟨hR,by omega,by rw [List.length_append];simp,by rw [List.length_append];simp only [List.length_cons,List.length_nil];omega,?_,?_,?_⟩ (Imp.slots (by simp [go_sem,w0']) rfl rfl)
  ·simp [oput]
  ·simp [oput,hne3]
   intro e;omega
  ·intro j h1 h2 h3
   simp [oput,h2,h3,show ¬j=nx by omega,show ¬j=nx+1 by omega]
end Go.Proofs.YtackfabapangdaaGreat

set_option maxRecDepth 4000
set_option maxHeartbeats 2000000
namespace Go.Proofs.YtackfabapangdaaGreat
open Go Go.Proofs.YtackfabapangdaaGreat.R
def pick1 (o:Int) (l:List Ent) (k s:Nat):Nat:=if k<l.length∧lessE o (l.getD k Ent.zero) (l.getD s Ent.zero)=true then k else s
def pkN (o:Int) (l:List Ent) (i:Nat):Nat→Nat
 |0=>i
 |j+1=>pick1 o l (2*i+1+j) (pkN o l i j)
def downGo (o:Int):Nat→List Ent→Nat→List Ent
 |0,l,_=>l
 |f+1,l,i=>if pkN o l i 2=i then l else downGo o f (swapE l i (pkN o l i 2)) (pkN o l i 2)
def restH (o:Int) (l:List Ent):List Ent:=
 let m:=l.take (l.length-1)
 if m.length=0 then m else downGo o (l.length+1) (m.set 0 (l.getD (l.length-1) Ent.zero)) 0
def takeS (σ:Nat→AObj) (nx h q:Nat) (o:Int) (l:List Ent):Nat→AObj:=fun i=>if i=h then .box [.ref (nx+4),.i o] else if i=nx+4 then .arr 4 (itemsT o l) else if i<nx∧i≠q then σ i else .dead
theorem pick1_lt {o:Int} {l:List Ent} {k s:Nat} (h:s<l.length):pick1 o l k s<l.length:=by
 unfold pick1;split
 ·rename_i h2;exact h2.1
 ·exact h
theorem pkN_lt {o:Int} {l:List Ent} {i:Nat} (h:i<l.length):∀j,pkN o l i j<l.length
 |0=>h
 |j+1=>pick1_lt (pkN_lt h j)
theorem pick1_ge {o:Int} {l:List Ent} {k s:Nat}:pick1 o l k s=k∨pick1 o l k s=s:=by
 unfold pick1;split
 ·exact .inl rfl
 ·exact .inr rfl
theorem pk2_gt {o:Int} {l:List Ent} {i:Nat} (h:pkN o l i 2≠i):i<pkN o l i 2:=by
 have h1:=pick1_ge (o:=o) (l:=l) (k:=2*i+1+1) (s:=pkN o l i 1)
 have h2:=pick1_ge (o:=o) (l:=l) (k:=2*i+1+0) (s:=i)
 have e1:pkN o l i 2=pick1 o l (2*i+1+1) (pkN o l i 1):=rfl
 have e2:pkN o l i 1=pick1 o l (2*i+1+0) i:=rfl
 omega
def itemC (o:Int) (e:Ent):List AV:=[.i e.bound,.i e.depth,.i e.no,.i o]
theorem take_nil_spec (o:Int) {σ:Nat→AObj} {nx h q:Nat} (hh:h<nx) (hσ:σ h= .box [.ref q,.i o]) (hq:q<nx) (hσq:σ q= .arr 4 []):
  CallSpec P 127 [.ptr h 0] σ nx (.tup [.agg [.i 0,.i 0,.i 0,.i 0],.b false]) σ nx:=by
 refine spec_keep Tryz.func127 rfl rfl (by simp [Tryz.f127]) (by simp [bnd,bnd.bndL]) fun hk B hB hnx hσB=>?_
 simp only [Tryz.f127] at hB ⊢
 have hne:¬h=nx:=by omega
 have hne1:¬h=nx+1:=by omega
 have hne2:¬q=nx:=by omega
 have hne3:¬q=nx+1:=by omega
 refine K_run hB 100 ?_
 simp [go_sem]
 refine K_scopeN (α:=Unit) 0 (fun _=>False) (fun _=>⟨sl [],noObj,0⟩) (fun _=>0) rfl (fun _ h=>h.elim) ?_
 intro J hJ
 refine K_run hB 100 ?_
 simp [go_sem,hσ,hne,hne1,hne2,hne3,hσq]
 exact ⟨by omega,fun i hi=>by simp [oput,show ¬i=nx by omega,show ¬i=nx+1 by omega]⟩
theorem take_spec (o:Int) (l:List Ent) (hl:l.length<2^30) (hpos:0<l.length) {σ:Nat→AObj} {nx h q:Nat} (hh:h<nx) (hσ:σ h= .box [.ref q,.i o]) (hq:q<nx) (hσq:σ q= .arr 4 (itemsT o l)):
  CallSpec P 127 [.ptr h 0] σ nx (.tup [.agg (itemC o (l.getD 0 Ent.zero)),.b true]) (takeS σ nx h q o (restH o l)) (nx+5):=by
 refine spec_of_K Tryz.func127 rfl rfl (by simp [Tryz.f127]) fun B hB hnx hσB=>?_
 simp only [Tryz.f127] at hB ⊢
 obtain ⟨info,mm,m1,m2,m3,m4⟩:=item_meth
 have hne:¬h=nx:=by omega
 have hne1:¬h=nx+1:=by omega
 have hne2:¬q=nx:=by omega
 have hne3:¬q=nx+1:=by omega
 have hqh:¬q=h:=fun e=>by rw [e,hσ] at hσq;cases hσq
 have hhq:¬h=q:=fun e=>hqh e.symm
 have hil:=items_len o l
 have w0:IntKind.i64.wrap ((l.length:Int)-1)=((l.length-1:Nat):Int):=by rw [w64 _ (by omega)];omega
 have hl0:¬l.length=0:=by omega
 have hg0:=fun h=>items_get o l (k:=0) hpos h
 have hg1:=fun h=>items_get o l (k:=l.length-1) (by omega) h
 have hpred:l.length-1<l.length:=by omega
 obtain ⟨n,hn⟩:∃n,n=l.length-1:=⟨_,rfl⟩
 rw [←hn] at w0 hg1 hpred
 have hle:n≤l.length:=by omega
 have htk:(itemsT o l).take n=itemsT o (l.take n):=by rw [itemsT,itemsT,List.map_take]
 generalize hR:restH o l=R
 rw [restH,←hn] at hR
 try simp only at hR
 generalize hfst:l.getD 0 Ent.zero=a0 at *
 generalize hlst:l.getD n Ent.zero=a1 at *
 have hq0:(itemsT o l)[0]? =some [.i a0.bound,.i a0.depth,.i a0.no,.i o]:=by
  rw [List.getElem?_eq_getElem (by rw [hil];exact hpos),hg0];rfl
 have hq1:(itemsT o l)[n]? =some [.i a1.bound,.i a1.depth,.i a1.no,.i o]:=by
  rw [List.getElem?_eq_getElem (by rw [hil];exact hpred),hg1];rfl
 have e1:¬h=nx+1+1:=by omega
 have e2:¬h=nx+1+1+1:=by omega
 have e3:¬q=nx+1+1:=by omega
 have e4:¬q=nx+1+1+1:=by omega
 have e5:¬h=nx+1+1+1+1:=by omega
 have f1:¬nx+1+1=h:=by omega
 have f2:¬nx+1+1=q:=by omega
 have f3:¬nx+1+1+1=h:=by omega
 have f4:¬nx+1+1+1=q:=by omega
 have f5:¬nx=h:=by omega
 have f6:¬nx=q:=by omega
 have f7:¬nx+1=h:=by omega
 have f8:¬nx+1=q:=by omega
 have fa:¬nx=nx+1+1:=by omega
 have fb:¬nx=nx+1+1+1:=by omega
 have fc:¬nx=nx+1+1+1+1:=by omega
 have fin:∀(τ:Nat→AObj) (m:Slots) (r:AV),τ h= .box [.ref (nx+4),.i o]→τ (nx+4)= .arr 4 (itemsT o R)→(∀j,j<nx→j≠h→j≠q→τ j=σ j)→Go.Proofs.YtackfabapangdaaGreat.R.Ends nx (St.mk m τ (nx+5)) r (takeS σ nx h q o R) (nx+5) r:=fun τ m r k1 k2 k3=>by
  refine ⟨fun i=>?_,Nat.le_refl _,by omega,.inl rfl,.inl rfl⟩
  unfold takeS
  by_cases e1:i=h
  ·rw [if_pos e1,e1];exact .inr ⟨k1.symm,.inl rfl⟩
  rw [if_neg e1]
  by_cases e2:i=nx+4
  ·rw [if_pos e2,e2];exact .inr ⟨k2.symm,.inl rfl⟩
  rw [if_neg e2]
  by_cases e3:i<nx∧i≠q
  ·rw [if_pos e3];exact .inr ⟨(k3 i e3.1 e1 e3.2).symm,.inl rfl⟩
  ·rw [if_neg e3];exact .inl rfl
 have e6:¬nx+1+1+1+1=h:=by omega
 have e7:¬nx+1+1+1+1=q:=by omega
 have hlt:(itemsT o (l.take n)).length=n:=by rw [items_len,List.length_take];omega
 refine K_run hB 100 ?_
 simp [go_sem]
 refine K_scopeN (α:=Nat×List Ent×Nat×Nat×(Nat→AObj)) 0 (fun (f,m,i,p,τ)=>downGo o f m i=R∧m.length<f+i∧i<m.length∧m.length<2^30∧τ h= .box [.ref (nx+4),.i o]∧τ (nx+4)= .arr 4 (itemsT o m)∧(∀j,j<nx→j≠h→j≠q→τ j=σ j)∧τ p= .box (itemC o a0)∧nx+1<p∧p<nx+4∧∃cs,τ nx= .box cs∧cs.length=4)
  (fun (f,m,i,p,τ)=>⟨sl [(0,.ptr h 0),(2,.ptr nx 0),(5,.ptr p 0),(7,.i i)],τ,nx+5⟩) (fun a=>a.1) rfl ?_ ?_
 ·rintro ⟨f,m,i,p,τ⟩ ⟨g1,g2,g3,g4,g5,g6,g7,g8,g9,g10,cs,g11,g12⟩
  obtain ⟨f,rfl⟩:∃f',f=f'+1:=⟨f-1,by omega⟩
  rw [downGo] at g1
  have himl:=items_len o m
  have x1:IntKind.i64.wrap 1=1:=w64 1 (by omega)
  have x2:IntKind.i64.wrap 2=2:=w64 2 (by omega)
  obtain ⟨k1,hk1⟩:∃k,k=2*i+1:=⟨_,rfl⟩
  obtain ⟨k2,hk2⟩:∃k,k=2*i+2:=⟨_,rfl⟩
  have w1:IntKind.i64.wrap (2*(i:Int))=2*(i:Int):=w64 _ (by omega)
  have w2:IntKind.i64.wrap (2*(i:Int)+1)=(k1:Int):=by rw [w64 _ (by omega)];omega
  have w3:IntKind.i64.wrap (2*(i:Int)+2)=(k2:Int):=by rw [w64 _ (by omega)];omega
  refine K_run hB 100 ?_
  simp [go_sem,w1,w2,w3]
  refine K_loopP (α:=Nat) (fun j=>j≤2) (fun j=>⟨sl [(0,.ptr h 0),(2,.ptr nx 0),(5,.ptr p 0),(7,.i i),(8,.i (pkN o m i j)),(70,.agg [.i k1,.i k2]),(71,.i j)],τ,nx+5⟩) (fun j=>2-j) 0 (by omega) (Imp.slots (by simp [go_sem,pkN]) rfl rfl) ?_
  intro j hj
  obtain rfl | rfl | rfl:j=0∨j=1∨j=2:=by omega
  ·have hsl:=pkN_lt (o:=o) g3 0
   have hnx:pkN o m i 1=pick1 o m k1 (pkN o m i 0):=by rw [hk1];rfl
   generalize hs8:pkN o m i 0=s at *
   refine K_run hB 60 ?_
   simp [go_sem,hs8]
   by_cases c2:k1<m.length
   ·have hgk:=fun h=>items_get o m (k:=k1) c2 h
    have hgs:=fun h=>items_get o m (k:=s) hsl h
    rw [pick1] at hnx
    generalize m.getD k1 Ent.zero=a at *
    generalize m.getD s Ent.zero=b at *
    have hah:=ahead_pure o o a b
    refine K_drawn [] rfl (by rw [hB];kernel_rfl) ?_
    refine K_run hB 60 ?_
    simp [go_sem,c2,g5,g6,himl,hsl,hgk,hgs,Ent.t]
    refine K_dLook (v:=.ifc 205 (a.t o)) (fun ho=>?_) (by simp [go_sem]) ?_
    ·exact does_ifc ho (by simp [go_sem]) rfl (tt_some tt205).1 rfl (by simp [go_sem,Ent.t])
    refine K_run hB 60 ?_
    simp [go_sem,c2,g5,g6,himl,hsl,hgk,hgs,Ent.t]
    refine K_dLook (v:=.b (lessE o a b)) (fun ho=>?_) (by simp [go_sem]) ?_
    ·exact does_invoke ho (by simp [go_sem]) rfl rfl rfl m1 m2 m3 m4 (tt_some tt205).1 rfl (by first | (simp [go_sem];done) | (simp [go_sem];rfl)) (by first | (simp [go_sem,Ent.t];done) | (simp [go_sem,Ent.t];rfl)) (hah.spec _ _)
    cases hless:lessE o a b with
    |false=>
     rw [if_neg (by simp [hless])] at hnx
     refine K_run hB 60 ?_
     simp [go_sem]
     exact Next.mk 1 (by omega) (Imp.slots (by simp [go_sem,hnx,x1,x2]) rfl rfl) (by omega)
    |true=>
     rw [if_pos ⟨c2,hless⟩] at hnx
     refine K_run hB 60 ?_
     simp [go_sem]
     exact Next.mk 1 (by omega) (Imp.slots (by simp [go_sem,hnx,x1,x2]) rfl rfl) (by omega)
   ·rw [pick1,if_neg (fun h=>c2 h.1)] at hnx
    refine K_drawn [] rfl (by rw [hB];kernel_rfl) ?_
    refine K_run hB 60 ?_
    simp [go_sem,c2,g5,g6,himl]
    exact Next.mk 1 (by omega) (Imp.slots (by simp [go_sem,hnx,x1,x2]) rfl rfl) (by omega)
  ·have hsl:=pkN_lt (o:=o) g3 1
   have hnx:pkN o m i 2=pick1 o m k2 (pkN o m i 1):=by rw [hk2];rfl
   generalize hs8:pkN o m i 1=s at *
   refine K_run hB 60 ?_
   simp [go_sem,hs8]
   by_cases c2:k2<m.length
   ·have hgk:=fun h=>items_get o m (k:=k2) c2 h
    have hgs:=fun h=>items_get o m (k:=s) hsl h
    rw [pick1] at hnx
    generalize m.getD k2 Ent.zero=a at *
    generalize m.getD s Ent.zero=b at *
    have hah:=ahead_pure o o a b
    refine K_drawn [] rfl (by rw [hB];kernel_rfl) ?_
    refine K_run hB 60 ?_
    simp [go_sem,c2,g5,g6,himl,hsl,hgk,hgs,Ent.t]
    refine K_dLook (v:=.ifc 205 (a.t o)) (fun ho=>?_) (by simp [go_sem]) ?_
    ·exact does_ifc ho (by simp [go_sem]) rfl (tt_some tt205).1 rfl (by simp [go_sem,Ent.t])
    refine K_run hB 60 ?_
    simp [go_sem,c2,g5,g6,himl,hsl,hgk,hgs,Ent.t]
    refine K_dLook (v:=.b (lessE o a b)) (fun ho=>?_) (by simp [go_sem]) ?_
    ·exact does_invoke ho (by simp [go_sem]) rfl rfl rfl m1 m2 m3 m4 (tt_some tt205).1 rfl (by first | (simp [go_sem];done) | (simp [go_sem];rfl)) (by first | (simp [go_sem,Ent.t];done) | (simp [go_sem,Ent.t];rfl)) (hah.spec _ _)
    cases hless:lessE o a b with
    |false=>
     rw [if_neg (by simp [hless])] at hnx
     refine K_run hB 60 ?_
     simp [go_sem]
     exact Next.mk 2 (by omega) (Imp.slots (by simp [go_sem,hnx,x1,x2]) rfl rfl) (by omega)
    |true=>
     rw [if_pos ⟨c2,hless⟩] at hnx
     refine K_run hB 60 ?_
     simp [go_sem]
     exact Next.mk 2 (by omega) (Imp.slots (by simp [go_sem,hnx,x1,x2]) rfl rfl) (by omega)
   ·rw [pick1,if_neg (fun h=>c2 h.1)] at hnx
    refine K_drawn [] rfl (by rw [hB];kernel_rfl) ?_
    refine K_run hB 60 ?_
    simp [go_sem,c2,g5,g6,himl]
    exact Next.mk 2 (by omega) (Imp.slots (by simp [go_sem,hnx,x1,x2]) rfl rfl) (by omega)
  ·have hsl:=pkN_lt (o:=o) g3 2
   have hgt:=pk2_gt (o:=o) (l:=m) (i:=i)
   generalize pkN o m i 2=s at *
   obtain ⟨z0,z1,z2,z3,rfl⟩:∃z0 z1 z2 z3,cs=[z0,z1,z2,z3]:=by
    match cs,g12 with
    |[z0,z1,z2,z3],_=>exact ⟨z0,z1,z2,z3,rfl⟩
   refine K_run hB 60 ?_
   simp [go_sem]
   refine fork_dec (fun c3=>?_) (fun c3=>?_)
   ·rw [if_pos c3] at g1
    subst g1
    simp [go_sem,g8,g11,itemC]
    refine fin _ _ _ ?_ ?_ fun j j1 j2 j3=>?_
    ·simp [oput,g5,hne]
    ·simp [oput,g6]
    ·simp [oput,show ¬j=nx by omega,g7 j j1 j2 j3]
   ·rw [if_neg c3] at g1
    have hgi:=fun h=>items_get o m (k:=i) g3 h
    have hgs:=fun h=>items_get o m (k:=s) hsl h
    have hsw:=items_swap o m i s
    have c4:¬i=s:=fun e=>c3 e.symm
    generalize m.getD i Ent.zero=a at *
    generalize m.getD s Ent.zero=b at *
    have hgs2:∀h:s<((itemsT o m).set i [.i b.bound,.i b.depth,.i b.no,.i o]).length,((itemsT o m).set i [.i b.bound,.i b.depth,.i b.no,.i o])[s]'h=[.i b.bound,.i b.depth,.i b.no,.i o]:=fun h=>by
     rw [List.getElem_set_ne c4]
     exact hgs _
    have hls:((itemsT o m).set i [.i b.bound,.i b.depth,.i b.no,.i o]).length=m.length:=by rw [List.length_set];exact himl
    simp only [Ent.t] at hsw
    simp [go_sem]
    refine K_drawnF [25,27] [9] rfl (by rw [hB];kernel_rfl) (by kernel_rfl) fun ht hf'=>?_
    refine K_run hB 100 ?_
    simp [go_sem,ht,hf',g5,g6,himl,g3,hsl,hgi,hgs,hgs2,hls,hsw,Ent.t]
    have hgt2:=hgt c3
    refine Next.mk (f,swapE m i s,s,p,_) ⟨g1,by rw [swapE_len];simp only;omega,by rw [swapE_len];exact hsl,by rw [swapE_len];exact g4,?_,?_,fun j j1 j2 j3=>?_,?_,g9,g10,[z0,z1,z2,z3],?_,rfl⟩ (Imp.slots (by simp [go_sem]) rfl rfl) (by simp only;omega)
    ·simp [oput,g5,show ¬h=nx+4 by omega]
    ·simp [oput]
    ·simp [oput,show ¬j=nx+4 by omega,g7 j j1 j2 j3]
    ·simp [oput,show ¬p=nx+4 by omega,g8]
    ·simp [oput,g11]
 ·intro J hJ
  refine K_run hB 100 ?_
  simp [go_sem,hσ,hne,hne1,hne2,hne3,hσq,hil,hl0]
  refine K_drawnP [18,19,20,21] [0,1,2,3,4,5,6,7,8,9,10,11,12,13,14,15,16,17,18,19] 18 19 (by decide) rfl (by rw [hB];kernel_rfl) (by kernel_rfl) fun ht hf'=>?_
  refine K_run hB 60 ?_
  simp [go_sem,ht,hf',hσ,hne,hne1,hne2,hne3,hσq,hil,hl0,hpos,hg0,hg1,hpred,w0,hq0,hq1,e1,e2,e3,e4,Ent.t]
  refine K_dPair (by kernel_rfl) ?_ ?_
  all_goals
   refine K_run hB 60 ?_
   simp [go_sem,ht,hf',hσ,hne,hne1,hne2,hne3,hσq,hil,hl0,hpos,hg0,hg1,hpred,w0,hq0,hq1,e1,e2,e3,e4,Ent.t]
   refine K_drawnF [11,14] [0] rfl (by rw [hB];kernel_rfl) (by kernel_rfl) fun ht hf'=>?_
   refine K_run hB 60 ?_
   simp [go_sem,ht,hf',hσ,hne,hne1,hne2,hne3,hσq,hil,hl0,hpos,hg0,hg1,hpred,w0,hq0,hq1,e1,e2,e3,e4,Ent.t]
   apply K_dTold
   ·intro ho
    exact does_front (q:=q) (es:=itemsT o l) (sz:=4) (n:=n) (ik:=.i64) ho (by simp [go_sem]) rfl tt198 rfl tt205 (by simp [go_sem]) (by simp [oput,hne2,hne3,e3,e4,hσq]) (by simp [go_sem]) (by omega) (by omega)
   ·simp
   ·simp
   rw [htk]
   refine K_run hB 60 ?_
   simp [go_sem,ht,hf',hσ,hne,hne1,hne2,hne3,hhq,hqh,hσq,hlt,e1,e2,e3,e4,e5,e6,e7]
   refine fork_dec (fun c1=>?_) (fun c1=>?_)
  ·rw [if_pos (by rw [←items_len o,hlt];exact c1)] at hR
   subst hR
   simp [go_sem,hne,hne1,e1,e2,e3,e4,e5,e6,e7,f1,f2,f3,f4,f5,f6,f7,f8,fa,fb,fc]
   refine fin _ _ _ ?_ ?_ fun j j1 j2 j3=>?_
   ·simp [oput,hne,hne1,e1,e2,e3,e4,e5,e6,e7,f1,f2,f3,f4,f5,f6,f7,f8,fa,fb,fc]
   ·simp [oput,hne,hne1,e1,e2,e3,e4,e5,e6,e7,f1,f2,f3,f4,f5,f6,f7,f8,fa,fb,fc]
   ·simp [oput,j2,j3,show ¬j=nx by omega,show ¬j=nx+1 by omega,show ¬j=nx+1+1 by omega,show ¬j=nx+1+1+1 by omega,show ¬j=nx+1+1+1+1 by omega]
  ·rw [if_neg (by rw [←items_len o,hlt];exact c1)] at hR
   have c2:0<n:=by omega
   have hset:(itemsT o (l.take n)).set 0 [.i a1.bound,.i a1.depth,.i a1.no,.i o]=itemsT o ((l.take n).set 0 a1):=by simp [itemsT,List.map_set,Ent.t]
   have hgf0:(itemsT o (l.take n))[0]? =some [.i a0.bound,.i a0.depth,.i a0.no,.i o]:=by rw [←htk,List.getElem?_take,if_pos c2,hq0]
   have hgf:∀h:0<(itemsT o (l.take n)).length,(itemsT o (l.take n))[0]'h=[.i a0.bound,.i a0.depth,.i a0.no,.i o]:=fun h=>(List.getElem?_eq_some_iff.1 hgf0).2
   simp [go_sem,hne,hne1,e1,e2,e3,e4,e5,e6,e7,f1,f2,f3,f4,f5,f6,f7,f8,fa,fb,fc]
   refine K_drawnT [6] rfl (by rw [hB];kernel_rfl) (by kernel_rfl) fun ht=>?_
   refine K_run hB 12 ?_
   simp [go_sem,ht,hhq,hqh,hlt,c2,hset,hgf,hne,hne1,e1,e2,e3,e4,e5,e6,e7,f1,f2,f3,f4,f5,f6,f7,f8,fa,fb,fc]
   refine hJ (l.length+1,(l.take n).set 0 a1,0,nx+2,_) _ ⟨hR,?_,?_,?_,?_,?_,fun j j1 j2 j3=>?_,?_,?_,?_,[.i 0,.i 0,.i 0,.i 0],?_,rfl⟩ (Imp.slots (by simp [go_sem]) rfl rfl)
   ·simp only [List.length_set,List.length_take];omega
   ·simp only [List.length_set,List.length_take];omega
   ·simp only [List.length_set,List.length_take];omega
   ·simp [oput,hne,hne1,e1,e2,e3,e4,e5,e6,e7,f1,f2,f3,f4,f5,f6,f7,f8,fa,fb,fc]
   ·simp [oput,hne,hne1,e1,e2,e3,e4,e5,e6,e7,f1,f2,f3,f4,f5,f6,f7,f8,fa,fb,fc]
   ·simp [oput,j2,j3,show ¬j=nx by omega,show ¬j=nx+1 by omega,show ¬j=nx+1+1 by omega,show ¬j=nx+1+1+1 by omega,show ¬j=nx+1+1+1+1 by omega]
   ·simp [oput,itemC,hne,hne1,e1,e2,e3,e4,e5,e6,e7,f1,f2,f3,f4,f5,f6,f7,f8,fa,fb,fc]
   ·omega
   ·omega
   ·simp [oput,hne,hne1,e1,e2,e3,e4,e5,e6,e7,f1,f2,f3,f4,f5,f6,f7,f8,fa,fb,fc]
  ·rw [if_pos (by rw [←items_len o,hlt];exact c1)] at hR
   subst hR
   simp [go_sem,hne,hne1,e1,e2,e3,e4,e5,e6,e7,f1,f2,f3,f4,f5,f6,f7,f8,fa,fb,fc]
   refine fin _ _ _ ?_ ?_ fun j j1 j2 j3=>?_
   ·simp [oput,hne,hne1,e1,e2,e3,e4,e5,e6,e7,f1,f2,f3,f4,f5,f6,f7,f8,fa,fb,fc]
   ·simp [oput,hne,hne1,e1,e2,e3,e4,e5,e6,e7,f1,f2,f3,f4,f5,f6,f7,f8,fa,fb,fc]
   ·simp [oput,j2,j3,show ¬j=nx by omega,show ¬j=nx+1 by omega,show ¬j=nx+1+1 by omega,show ¬j=nx+1+1+1 by omega,show ¬j=nx+1+1+1+1 by omega]
  ·rw [if_neg (by rw [←items_len o,hlt];exact c1)] at hR
   have c2:0<n:=by omega
   have hset:(itemsT o (l.take n)).set 0 [.i a1.bound,.i a1.depth,.i a1.no,.i o]=itemsT o ((l.take n).set 0 a1):=by simp [itemsT,List.map_set,Ent.t]
   have hgf0:(itemsT o (l.take n))[0]? =some [.i a0.bound,.i a0.depth,.i a0.no,.i o]:=by rw [←htk,List.getElem?_take,if_pos c2,hq0]
   have hgf:∀h:0<(itemsT o (l.take n)).length,(itemsT o (l.take n))[0]'h=[.i a0.bound,.i a0.depth,.i a0.no,.i o]:=fun h=>(List.getElem?_eq_some_iff.1 hgf0).2
   simp [go_sem,hne,hne1,e1,e2,e3,e4,e5,e6,e7,f1,f2,f3,f4,f5,f6,f7,f8,fa,fb,fc]
   refine K_drawnT [6] rfl (by rw [hB];kernel_rfl) (by kernel_rfl) fun ht=>?_
   refine K_run hB 12 ?_
   simp [go_sem,ht,hhq,hqh,hlt,c2,hset,hgf,hne,hne1,e1,e2,e3,e4,e5,e6,e7,f1,f2,f3,f4,f5,f6,f7,f8,fa,fb,fc]
   refine hJ (l.length+1,(l.take n).set 0 a1,0,nx+3,_) _ ⟨hR,?_,?_,?_,?_,?_,fun j j1 j2 j3=>?_,?_,?_,?_,[.i 0,.i 0,.i 0,.i 0],?_,rfl⟩ (Imp.slots (by simp [go_sem]) rfl rfl)
   ·simp only [List.length_set,List.length_take];omega
   ·simp only [List.length_set,List.length_take];omega
   ·simp only [List.length_set,List.length_take];omega
   ·simp [oput,hne,hne1,e1,e2,e3,e4,e5,e6,e7,f1,f2,f3,f4,f5,f6,f7,f8,fa,fb,fc]
   ·simp [oput,hne,hne1,e1,e2,e3,e4,e5,e6,e7,f1,f2,f3,f4,f5,f6,f7,f8,fa,fb,fc]
   ·simp [oput,j2,j3,show ¬j=nx by omega,show ¬j=nx+1 by omega,show ¬j=nx+1+1 by omega,show ¬j=nx+1+1+1 by omega,show ¬j=nx+1+1+1+1 by omega]
   ·simp [oput,itemC,hne,hne1,e1,e2,e3,e4,e5,e6,e7,f1,f2,f3,f4,f5,f6,f7,f8,fa,fb,fc]
   ·omega
   ·omega
   ·simp [oput,hne,hne1,e1,e2,e3,e4,e5,e6,e7,f1,f2,f3,f4,f5,f6,f7,f8,fa,fb,fc]
end Go.Proofs.YtackfabapangdaaGreat

set_option maxRecDepth 4000
namespace Go.Proofs.YtackfabapangdaaGreat
open Go Go.Proofs.YtackfabapangdaaGreat.R
theorem getD_at {l:List Ent} {i:Nat} (h:i<l.length):l.getD i Ent.zero=l[i]:=by
 rw [List.getD_eq_getElem?_getD,List.getElem?_eq_getElem h];rfl
theorem swapE_perm {l:List Ent} {i j:Nat} (hi:i<l.length) (hj:j<l.length):(swapE l i j).Perm l:=by
 rw [swapE,getD_at hi,getD_at hj]
 exact List.set_set_perm hi hj
theorem upGo_perm (o:Int):∀(f:Nat) (l:List Ent) (i:Nat),i<l.length→(upGo o f l i).Perm l
 |0,l,i,_=>List.Perm.refl _
 |f+1,l,i,h=>by
  rw [upGo]
  split
  ·have hv:(i-1) / 2<l.length:=by omega
   exact (upGo_perm o f _ _ (by rw [swapE_len];exact hv)).trans (swapE_perm h hv)
  ·exact List.Perm.refl _
theorem putH_perm (o:Int) (l:List Ent) (e:Ent):(putH o l e).Perm (l++[e]):=upGo_perm o _ _ _ (by simp)
theorem downGo_perm (o:Int):∀(f:Nat) (l:List Ent) (i:Nat),i<l.length→(downGo o f l i).Perm l
 |0,l,i,_=>List.Perm.refl _
 |f+1,l,i,h=>by
  rw [downGo]
  split
  ·exact List.Perm.refl _
  ·have hv:=pkN_lt (o:=o) h 2
   exact (downGo_perm o f _ _ (by rw [swapE_len];exact hv)).trans (swapE_perm h hv)
theorem restH_perm (o:Int) {l:List Ent} (hpos:0<l.length):(l.getD 0 Ent.zero :: restH o l).Perm l:=by
 rw [restH]
 try simp only
 have hd:l=l.take (l.length-1)++[l[l.length-1]'(by omega)]:=by
  have h1:=List.drop_eq_getElem_cons (l:=l) (i:=l.length-1) (by omega)
  rw [List.drop_eq_nil_of_le (by omega:l.length≤l.length-1+1)] at h1
  rw [←h1,List.take_append_drop]
 rw [getD_at hpos,getD_at (i:=l.length-1) (by omega)]
 generalize hx:l[l.length-1]'(by omega)=x at *
 generalize hm:l.take (l.length-1)=m at *
 split
 ·rename_i h0
  have hm0:m=[]:=List.eq_nil_of_length_eq_zero h0
  subst hm0
  rw [List.nil_append] at hd
  have:l[0]=x:=by simp [hd]
  rw [this,hd]
 ·rename_i h0
  have hp:=downGo_perm o (l.length+1) (m.set 0 x) 0 (by rw [List.length_set];omega)
  cases m with
  |nil=>exact absurd rfl h0
  |cons y m=>
   have:l[0]=y:=by simp [hd]
   rw [this]
   rw [List.set_cons_zero] at hp
   refine (hp.cons y).trans ?_
   conv=>rhs;rw [hd]
   rw [List.cons_append]
   refine List.Perm.cons y ?_
   exact (List.perm_append_comm (l₁:=[x]) (l₂:=m))
end Go.Proofs.YtackfabapangdaaGreat

set_option maxRecDepth 4000
namespace Go.Proofs.YtackfabapangdaaGreat
open Go Go.Proofs.YtackfabapangdaaGreat.R
theorem notless_trans (o:Int) {a b c:Ent} (h1:lessE o b a=false) (h2:lessE o c b=false):lessE o c a=false:=by
 unfold lessE at *
 split at h1
 ·rename_i h
  rw [if_pos h] at h2 ⊢
  simp only [decide_eq_false_iff_not] at *
  omega
 ·rename_i h
  rw [if_neg h] at h2 ⊢
  split at h1
  ·rename_i h'
   rw [if_pos h'] at h2 ⊢
   simp only [decide_eq_false_iff_not] at *
   omega
  ·rename_i h'
   rw [if_neg h'] at h2 ⊢
   simp only [decide_eq_false_iff_not] at *
   omega
theorem less_asym (o:Int) {a b:Ent} (h:lessE o a b=true):lessE o b a=false:=by
 unfold lessE at *
 split at h
 ·rename_i h'
  rw [if_pos h']
  simp only [decide_eq_true_eq,decide_eq_false_iff_not] at *
  omega
 ·rename_i h'
  rw [if_neg h']
  split at h
  ·rename_i h''
   rw [if_pos h'']
   simp only [decide_eq_true_eq,decide_eq_false_iff_not] at *
   omega
  ·rename_i h''
   rw [if_neg h'']
   simp only [decide_eq_true_eq,decide_eq_false_iff_not] at *
   omega
def HeapOK (o:Int) (l:List Ent):Prop:=∀i,0<i→i<l.length→lessE o (l.getD i Ent.zero) (l.getD ((i-1) / 2) Ent.zero)=false
theorem heap_first {o:Int} {l:List Ent} (h:HeapOK o l):∀i,i<l.length→lessE o (l.getD i Ent.zero) (l.getD 0 Ent.zero)=false:=by
 intro i
 induction i using Nat.strongRecOn with
 |_ i ih=>
  intro hi
  by_cases h0:i=0
  ·subst h0
   cases hl:lessE o (l.getD 0 Ent.zero) (l.getD 0 Ent.zero) with
   |false=>rfl
   |true=>
    have:=less_asym o hl
    rw [hl] at this
    exact this
  ·exact notless_trans o (ih ((i-1) / 2) (by omega) (by omega)) (h i (by omega) hi)
theorem swapE_get {l:List Ent} {i j k:Nat} (hi:i<l.length) (hj:j<l.length):(swapE l i j).getD k Ent.zero=if k=j then l.getD i Ent.zero else if k=i then l.getD j Ent.zero else l.getD k Ent.zero:=by
 simp only [swapE,List.getD_eq_getElem?_getD,List.getElem?_set,List.length_set]
 by_cases h1:k=j
 ·subst h1
  simp [hj]
 ·rw [if_neg (fun e=>h1 e.symm),if_neg h1]
  by_cases h2:k=i
  ·subst h2
   simp [hi]
  ·rw [if_neg (fun e=>h2 e.symm),if_neg h2]
structure UpI (o:Int) (l:List Ent) (i:Nat):Prop where
 lt:i<l.length
 ok:∀k,0<k→k<l.length→k≠i→lessE o (l.getD k Ent.zero) (l.getD ((k-1) / 2) Ent.zero)=false
 kid:∀k,0<k→k<l.length→(k-1) / 2=i→0<i→lessE o (l.getD k Ent.zero) (l.getD ((i-1) / 2) Ent.zero)=false
theorem upGo_ok (o:Int):∀(f:Nat) (l:List Ent) (i:Nat),UpI o l i→i<f→HeapOK o (upGo o f l i)
 |0,l,i,_,h=>absurd h (Nat.not_lt_zero _)
 |f+1,l,i,h,hf=>by
  rw [upGo]
  split
  ·rename_i hc
   have hi:=h.lt
   obtain ⟨v,hv⟩:∃v,v=(i-1) / 2:=⟨_,rfl⟩
   rw [←hv] at hc ⊢
   have hvl:v<l.length:=by omega
   have hless:=less_asym o hc.2
   refine upGo_ok o f _ _ ⟨by rw [swapE_len];exact hvl,fun k k0 kl kv=>?_,fun k k0 kl kv v0=>?_⟩ (by omega)
   ·rw [swapE_len] at kl
    rw [swapE_get hi hvl,swapE_get hi hvl,if_neg kv]
    by_cases k1:k=i
    ·subst k1
     rw [if_pos rfl,if_pos hv.symm]
     exact hless
    ·rw [if_neg k1]
     by_cases k2:(k-1) / 2=v
     ·rw [if_pos k2]
      have:=h.ok k k0 kl k1
      rw [k2] at this
      exact notless_trans o hless this
     ·rw [if_neg k2]
      by_cases k3:(k-1) / 2=i
      ·rw [if_pos k3]
       have:=h.kid k k0 kl k3 hc.1
       rw [←hv] at this
       exact this
      ·rw [if_neg k3]
       exact h.ok k k0 kl k1
   ·rw [swapE_len] at kl
    rw [swapE_get hi hvl,swapE_get hi hvl,if_neg (by omega),if_neg (show ¬(v-1) / 2=v by omega),if_neg (show ¬(v-1) / 2=i by omega)]
    have hvo:=h.ok v v0 hvl (by omega)
    by_cases k1:k=i
    ·rw [if_pos k1];exact hvo
    ·rw [if_neg k1]
     have:=h.ok k k0 kl k1
     rw [kv] at this
     exact notless_trans o hvo this
  ·rename_i hc
   intro k k0 kl
   by_cases k1:k=i
   ·subst k1
    cases hl:lessE o (l.getD k Ent.zero) (l.getD ((k-1) / 2) Ent.zero) with
    |false=>rfl
    |true=>exact absurd ⟨k0,hl⟩ hc
   ·exact h.ok k k0 kl k1
theorem putH_ok {o:Int} {l:List Ent} (h:HeapOK o l) (e:Ent):HeapOK o (putH o l e):=by
 refine upGo_ok o _ _ _ ⟨by simp,fun k k0 kl kv=>?_,fun k k0 kl kv _=>?_⟩ (by omega)
 ·rw [List.length_append] at kl
  simp only [List.length_cons,List.length_nil] at kl
  have:=h k k0 (by omega)
  simp only [List.getD_eq_getElem?_getD] at this ⊢
  rw [List.getElem?_append_left (by omega),List.getElem?_append_left (by omega)]
  exact this
 ·rw [List.length_append] at kl
  simp only [List.length_cons,List.length_nil] at kl
  omega
end Go.Proofs.YtackfabapangdaaGreat

set_option maxRecDepth 4000
namespace Go.Proofs.YtackfabapangdaaGreat
open Go Go.Proofs.YtackfabapangdaaGreat.R
theorem less_irrefl (o:Int) (a:Ent):lessE o a a=false:=by
 cases h:lessE o a a with
 |false=>rfl
 |true=>
  have:=less_asym o h
  rw [h] at this
  exact this
theorem pick1_min (o:Int) (l:List Ent) (k s:Nat):lessE o (l.getD s Ent.zero) (l.getD (pick1 o l k s) Ent.zero)=false∧(k<l.length→lessE o (l.getD k Ent.zero) (l.getD (pick1 o l k s) Ent.zero)=false):=by
 unfold pick1
 split
 ·rename_i h
  exact ⟨less_asym o h.2,fun _=>less_irrefl o _⟩
 ·rename_i h
  refine ⟨less_irrefl o _,fun hk=>?_⟩
  cases hl:lessE o (l.getD k Ent.zero) (l.getD s Ent.zero) with
  |false=>rfl
  |true=>exact absurd ⟨hk,hl⟩ h
theorem pk2_min (o:Int) (l:List Ent) (i:Nat):lessE o (l.getD i Ent.zero) (l.getD (pkN o l i 2) Ent.zero)=false∧∀k,(k-1) / 2=i→0<k→k<l.length→lessE o (l.getD k Ent.zero) (l.getD (pkN o l i 2) Ent.zero)=false:=by
 have e2:pkN o l i 2=pick1 o l (2*i+1+1) (pick1 o l (2*i+1+0) i):=rfl
 obtain ⟨a1,a2⟩:=pick1_min o l (2*i+1+0) i
 obtain ⟨b1,b2⟩:=pick1_min o l (2*i+1+1) (pick1 o l (2*i+1+0) i)
 rw [←e2] at b1 b2
 refine ⟨notless_trans o b1 a1,fun k hk k0 kl=>?_⟩
 by_cases h:k=2*i+1+1
 ·subst h;exact b2 kl
 ·have:k=2*i+1+0:=by omega
  subst this
  exact notless_trans o b1 (a2 kl)
theorem pk2_par {o:Int} {l:List Ent} {i:Nat} (h:pkN o l i 2≠i):(pkN o l i 2-1) / 2=i:=by
 have h1:=pick1_ge (o:=o) (l:=l) (k:=2*i+1+1) (s:=pkN o l i 1)
 have h2:=pick1_ge (o:=o) (l:=l) (k:=2*i+1+0) (s:=i)
 have e1:pkN o l i 2=pick1 o l (2*i+1+1) (pkN o l i 1):=rfl
 have e2:pkN o l i 1=pick1 o l (2*i+1+0) i:=rfl
 omega
structure DownI (o:Int) (l:List Ent) (i:Nat):Prop where
 lt:i<l.length
 ok:∀k,0<k→k<l.length→(k-1) / 2≠i→lessE o (l.getD k Ent.zero) (l.getD ((k-1) / 2) Ent.zero)=false
 kid:∀k,0<k→k<l.length→(k-1) / 2=i→0<i→lessE o (l.getD k Ent.zero) (l.getD ((i-1) / 2) Ent.zero)=false
theorem downGo_ok (o:Int):∀(f:Nat) (l:List Ent) (i:Nat),DownI o l i→l.length<f+i→HeapOK o (downGo o f l i)
 |0,l,i,h,hf=>absurd h.lt (by omega)
 |f+1,l,i,h,hf=>by
  rw [downGo]
  obtain ⟨m1,m2⟩:=pk2_min o l i
  have hi:=h.lt
  have hsl:=pkN_lt (o:=o) hi 2
  have hgt:=pk2_gt (o:=o) (l:=l) (i:=i)
  have hpar:=pk2_par (o:=o) (l:=l) (i:=i)
  generalize pkN o l i 2=s at *
  split
  ·rename_i hs
   subst hs
   intro k k0 kl
   by_cases k1:(k-1) / 2=s
   ·rw [k1];exact m2 k k1 k0 kl
   ·exact h.ok k k0 kl k1
  ·rename_i hs
   have hgt:=hgt hs
   have hpar:=hpar hs
   refine downGo_ok o f _ _ ⟨by rw [swapE_len];exact hsl,fun k k0 kl kv=>?_,fun k k0 kl kv _=>?_⟩ (by rw [swapE_len];omega)
   ·rw [swapE_len] at kl
    rw [swapE_get hi hsl,swapE_get hi hsl,if_neg kv]
    by_cases k1:k=s
    ·subst k1
     rw [if_pos rfl,if_pos hpar]
     exact m1
    ·rw [if_neg k1]
     by_cases k2:k=i
     ·subst k2
      rw [if_pos rfl,if_neg (by omega)]
      exact h.kid s (by omega) hsl hpar k0
     ·rw [if_neg k2]
      by_cases k3:(k-1) / 2=i
      ·rw [if_pos k3];exact m2 k k3 k0 kl
      ·rw [if_neg k3];exact h.ok k k0 kl k3
   ·rw [swapE_len] at kl
    rw [swapE_get hi hsl,swapE_get hi hsl,if_neg (by omega),if_neg (by omega),hpar,if_neg (by omega),if_pos rfl]
    have:=h.ok k k0 kl (by omega)
    rw [kv] at this
    exact this
theorem restH_ok {o:Int} {l:List Ent} (h:HeapOK o l) (hpos:0<l.length):HeapOK o (restH o l):=by
 rw [restH]
 try simp only
 have ht:∀k,k<l.length-1→(l.take (l.length-1)).getD k Ent.zero=l.getD k Ent.zero:=fun k hk=>by
  simp only [List.getD_eq_getElem?_getD,List.getElem?_take,if_pos hk]
 have hlen:(l.take (l.length-1)).length=l.length-1:=by rw [List.length_take];omega
 generalize l.getD (l.length-1) Ent.zero=x
 generalize l.take (l.length-1)=m at *
 have hs:∀k,0<k→(m.set 0 x).getD k Ent.zero=m.getD k Ent.zero:=fun k hk=>by
  simp only [List.getD_eq_getElem?_getD,List.getElem?_set_ne (show 0≠k by omega)]
 split
 ·rename_i h0
  intro k _ kl
  omega
 ·rename_i h0
  refine downGo_ok o _ _ _ ⟨by rw [List.length_set];omega,fun k k0 kl kv=>?_,fun k k0 kl kv k1=>absurd k1 (Nat.lt_irrefl 0)⟩ (by rw [List.length_set];omega)
  rw [List.length_set] at kl
  rw [hs k k0,hs _ (by omega),ht k (by omega),ht _ (by omega)]
  exact h k k0 (by omega)
end Go.Proofs.YtackfabapangdaaGreat

set_option maxRecDepth 4000
namespace Go.Proofs.YtackfabapangdaaGreat
open Go Go.Proofs.YtackfabapangdaaGreat.R
theorem less_total (o:Int) {a b:Ent} (h1:lessE o a b=false) (h2:lessE o b a=false):a=b:=by
 have key:a.bound=b.bound∧a.depth=b.depth∧a.no=b.no:=by
  unfold lessE at *
  split at h1
  ·rename_i h
   rw [if_pos h] at h2
   simp only [decide_eq_false_iff_not] at *
   omega
  ·rename_i h
   rw [if_neg h] at h2
   split at h1
   ·rename_i h'
    rw [if_pos h'] at h2
    simp only [decide_eq_false_iff_not] at *
    omega
   ·rename_i h'
    rw [if_neg h'] at h2
    simp only [decide_eq_false_iff_not] at *
    omega
 obtain ⟨a1,a2,a3⟩:=a
 obtain ⟨b1,b2,b3⟩:=b
 simp only at key
 obtain ⟨rfl,rfl,rfl⟩:=key
 rfl
theorem minI_least (o:Int) (q:List Ent):∀(l:List Nat) (k r:Nat),l.foldl (fun k i=>if lessE o (q.getD i Ent.zero) (q.getD k Ent.zero)=true then i else k) k=r→lessE o (q.getD k Ent.zero) (q.getD r Ent.zero)=false∧∀i∈l,lessE o (q.getD i Ent.zero) (q.getD r Ent.zero)=false
 |[],k,r,h=>by
  rw [List.foldl_nil] at h
  subst h
  exact ⟨less_irrefl o _,fun i hi=>by cases hi⟩
 |i :: l,k,r,h=>by
  rw [List.foldl_cons] at h
  obtain ⟨h1,h2⟩:=minI_least o q l _ r h
  by_cases hl:lessE o (q.getD i Ent.zero) (q.getD k Ent.zero)=true
  ·rw [if_pos hl] at h1
   refine ⟨notless_trans o h1 (less_asym o hl),fun j hj=>?_⟩
   rcases List.mem_cons.1 hj with rfl | hj
   ·exact h1
   ·exact h2 j hj
  ·rw [if_neg hl] at h1
   have hl':lessE o (q.getD i Ent.zero) (q.getD k Ent.zero)=false:=by simpa using hl
   refine ⟨h1,fun j hj=>?_⟩
   rcases List.mem_cons.1 hj with rfl | hj
   ·exact notless_trans o h1 hl'
   ·exact h2 j hj
theorem take_heap {o:Int} {l q:List Ent} (hp:l.Perm q) (hok:HeapOK o l) (hpos:0<l.length):∃q',takeQ o q=some (l.getD 0 Ent.zero,q')∧(restH o l).Perm q':=by
 have hlen:=hp.length_eq
 have hq:q≠[]:=fun e=>by
  rw [e,List.length_nil] at hlen
  omega
 have hk:=minI_lt o hq
 have hmin:=fun i hi=>(minI_least o q (List.range q.length) 0 (minI o q) rfl).2 i (List.mem_range.2 hi)
 have hd:q=q.take (minI o q)++q[minI o q] :: q.drop (minI o q+1):=by rw [←List.drop_eq_getElem_cons hk,List.take_append_drop]
 have hmem:l.getD 0 Ent.zero∈q:=by
  rw [getD_at hpos]
  exact hp.subset (List.getElem_mem _)
 have hmem2:q.getD (minI o q) Ent.zero∈l:=by
  rw [getD_at hk]
  exact hp.symm.subset (List.getElem_mem _)
 have he:q.getD (minI o q) Ent.zero=l.getD 0 Ent.zero:=by
  obtain ⟨i,hi,e1⟩:=List.getElem_of_mem hmem
  obtain ⟨j,hj,e2⟩:=List.getElem_of_mem hmem2
  have h1:=hmin i hi
  have h2:=heap_first hok j hj
  rw [getD_at hi,e1] at h1
  rw [getD_at hj,e2] at h2
  exact less_total o h2 h1
 refine ⟨q.take (minI o q)++q.drop (minI o q+1),by rw [takeQ,if_neg hq,he],?_⟩
 have h3:=(restH_perm o hpos).trans hp
 have h4:(l.getD 0 Ent.zero :: (q.take (minI o q)++q.drop (minI o q+1))).Perm q:=by
  rw [←he,getD_at hk]
  refine List.perm_middle.symm.trans ?_
  rw [←hd]
 exact (h3.trans h4.symm).cons_inv
theorem least_fold_in:∀(l:List Ent) (n:Int),l.foldl (fun n f=>min n f.bound) n=n∨∃f∈l,l.foldl (fun n f=>min n f.bound) n=f.bound
 |[],n=>.inl rfl
 |e :: l,n=>by
  rw [List.foldl_cons]
  rcases least_fold_in l (min n e.bound) with h | ⟨f,hf,h⟩
  ·rw [h]
   by_cases c:n≤e.bound
   ·exact .inl (by omega)
   ·exact .inr ⟨e,List.mem_cons_self,by omega⟩
  ·exact .inr ⟨f,List.mem_cons_of_mem _ hf,h⟩
theorem least_in {q:List Ent} (h:q≠[]):∃f∈q,leastQ q=f.bound:=by
 cases q with
 |nil=>exact absurd rfl h
 |cons e l=>
  rcases least_fold_in l e.bound with h1 | ⟨f,hf,h1⟩
  ·exact ⟨e,List.mem_cons_self,h1⟩
  ·exact ⟨f,List.mem_cons_of_mem _ hf,h1⟩
theorem least_perm {l q:List Ent} (h:l.Perm q):leastQ l=leastQ q:=by
 by_cases hl:l=[]
 ·subst hl
  rw [h.symm.eq_nil]
 ·have hq:q≠[]:=fun e=>hl (by rw [e] at h;exact h.eq_nil)
  obtain ⟨f,hf,e1⟩:=least_in hl
  obtain ⟨g,hg,e2⟩:=least_in hq
  have h1:=least_le (h.subset hf)
  have h2:=least_le (h.symm.subset hg)
  omega
end Go.Proofs.YtackfabapangdaaGreat

set_option maxRecDepth 4000
set_option maxHeartbeats 1000000
namespace Go.Proofs.YtackfabapangdaaGreat
open Go Go.Proofs.YtackfabapangdaaGreat.R
theorem len_spec (o:Int) (l:List Ent) {σ:Nat→AObj} {nx h q:Nat} (hh:h<nx) (hσ:σ h= .box [.ref q,.i o]) (hq:q<nx) (hσq:σ q= .arr 4 (itemsT o l)):
  CallSpec P 128 [.ptr h 0] σ nx (.i l.length) σ nx:=by
 refine spec_keep Tryz.func128 rfl rfl (by simp [Tryz.f128]) (by simp [bnd]) fun hk B hB hnx hσB=>?_
 simp only [Tryz.f128] at hB ⊢
 have hil:=items_len o l
 refine K_run hB 100 ?_
 simp [go_sem,hσ,hσq,hil]
theorem hput_spec (o:Int) (l:List Ent) (e:Ent) (hl:l.length<2^30) {σ:Nat→AObj} {nx h q:Nat} (hh:h<nx) (hσ:σ h= .box [.ref q,.i o]) (hq:q<nx) (hσq:σ q= .arr 4 (itemsT o l)):
  CallQ P 126 [.ptr h 0,e.a] σ nx fun r σ' nx'=>r= .tup []∧nx≤nx'∧∃q',nx≤q'∧q'<nx'∧σ' h= .box [.ref q',.i o]∧σ' q'= .arr 4 (itemsT o (putH o l e))∧∀i,i<nx→i≠h→i≠q→σ' i=σ i:=by
 refine spec_of Tryz.func126 rfl rfl (by simp [Tryz.f126]) fun B hB hnx hσB=>?_
 simp only [Tryz.f126] at hB ⊢
 have hne:¬h=nx:=by omega
 have hne2:¬q=nx:=by omega
 have hp:=fun (τ:Nat→AObj) (h1:τ h= .box [.ref q,.i o]) (h2:τ q= .arr 4 (itemsT o l))=>put_spec o l e hl (σ:=τ) (nx:=nx+1) (h:=h) (q:=q) (by omega) h1 (by omega) h2
 refine K_run hB 100 ?_
 simp [go_sem,Ent.a,Ent.cs]
 refine K_drawnZ [] 9 _ rfl (by rw [hB];kernel_rfl) (by kernel_rfl) rfl ?_
 refine K_run hB 100 ?_
 simp [go_sem,hσ,hne]
 refine K_call rfl rfl rfl (args:=[.ptr h 0,.agg ((e.t o).map .t)]) (f:=178) (by simp [go_sem,Ent.t]) (by simp [go_sem,hB]) (hp _ (by simp [oput,hne,hσ]) (by simp [oput,hne2,hσq])) ?_
 refine K_run hB 100 ?_
 simp [go_sem]
 have e1:¬nx+1+1=h:=by omega
 have e2:¬h=nx+1+1:=by omega
 refine ⟨by omega,nx+1+1,by omega,by omega,by rw [putS,if_pos rfl],by rw [putS,if_neg e1,if_pos rfl],fun i h1 h2 h3=>?_⟩
 rw [putS,if_neg h2,if_neg (by omega),if_pos ⟨by omega,h3⟩,oput,if_neg (by omega)]
theorem htake_nil (o:Int) {σ:Nat→AObj} {nx h q:Nat} (hh:h<nx) (hσ:σ h= .box [.ref q,.i o]) (hq:q<nx) (hσq:σ q= .arr 4 []):
  CallSpec P 74 [.ptr h 0] σ nx (.tup [Ent.zero.a,.b false]) σ nx:=by
 refine spec_keep Tryz.func74 rfl rfl (by simp [Tryz.f74]) (by simp [bnd,bnd.bndL,Ent.a,Ent.cs]) fun hk B hB hnx hσB=>?_
 simp only [Tryz.f74] at hB ⊢
 have hne:¬h=nx:=by omega
 have hne2:¬q=nx:=by omega
 have hp:=fun (τ:Nat→AObj) (h1:τ h= .box [.ref q,.i o]) (h2:τ q= .arr 4 [])=>take_nil_spec o (σ:=τ) (nx:=nx+1) (h:=h) (q:=q) (by omega) h1 (by omega) h2
 refine K_run hB 100 ?_
 simp [go_sem]
 refine K_call rfl rfl rfl (args:=[.ptr h 0]) (f:=127) (by simp [go_sem]) (by simp [go_sem,hB]) (hp _ (by simp [oput,hne,hσ]) (by simp [oput,hne2,hσq])) ?_
 refine K_run hB 100 ?_
 simp [go_sem,Ent.a,Ent.cs,Ent.zero]
 exact ⟨by omega,fun i hi=>by simp [oput,show ¬i=nx by omega,show ¬i=nx+1 by omega]⟩
theorem htake_spec (o:Int) (l:List Ent) (hl:l.length<2^30) (hpos:0<l.length) {σ:Nat→AObj} {nx h q:Nat} (hh:h<nx) (hσ:σ h= .box [.ref q,.i o]) (hq:q<nx) (hσq:σ q= .arr 4 (itemsT o l)):
  CallQ P 74 [.ptr h 0] σ nx fun r σ' nx'=>r= .tup [(l.getD 0 Ent.zero).a,.b true]∧nx≤nx'∧∃q',nx≤q'∧q'<nx'∧σ' h= .box [.ref q',.i o]∧σ' q'= .arr 4 (itemsT o (restH o l))∧∀i,i<nx→i≠h→i≠q→σ' i=σ i:=by
 refine spec_of Tryz.func74 rfl rfl (by simp [Tryz.f74]) fun B hB hnx hσB=>?_
 simp only [Tryz.f74] at hB ⊢
 have hne:¬h=nx:=by omega
 have hne2:¬q=nx:=by omega
 have e1:¬nx+1+4=h:=by omega
 have e2:¬h=nx+1+4:=by omega
 have e3:¬nx=h:=by omega
 have e4:¬nx=q:=by omega
 have hp:=fun (τ:Nat→AObj) (h1:τ h= .box [.ref q,.i o]) (h2:τ q= .arr 4 (itemsT o l))=>take_spec o l hl hpos (σ:=τ) (nx:=nx+1) (h:=h) (q:=q) (by omega) h1 (by omega) h2
 generalize restH o l=R at *
 generalize l.getD 0 Ent.zero=e at *
 refine K_run hB 100 ?_
 simp [go_sem]
 refine K_call rfl rfl rfl (args:=[.ptr h 0]) (f:=127) (by simp [go_sem]) (by simp [go_sem,hB]) (hp _ (by simp [oput,hne,hσ]) (by simp [oput,hne2,hσq])) ?_
 have e5:takeS (oput σ nx (.box [.i 0,.i 0,.i 0])) (nx+1) h q o R nx= .box [.i 0,.i 0,.i 0]:=by
  rw [takeS,if_neg e3,if_neg (by omega),if_pos ⟨by omega,e4⟩,oput,if_pos rfl]
 have hst:∀i,takeS (oput σ nx (.box [.i 0,.i 0,.i 0])) (nx+1) h q o R i=if i=h then .box [.ref (nx+1+4),.i o] else if i=nx+1+4 then .arr 4 (itemsT o R) else if i<nx+1∧i≠q then oput σ nx (.box [.i 0,.i 0,.i 0]) i else .dead:=fun i=>rfl
 generalize takeS (oput σ nx (.box [.i 0,.i 0,.i 0])) (nx+1) h q o R=τ at *
 have e6:¬nx=nx+1+5:=by omega
 refine K_run hB 100 ?_
 simp [go_sem,Ent.a,Ent.cs,itemC,e5,e6]
 refine ⟨by omega,nx+1+4,by omega,by omega,?_,?_,fun i h1 h2 h3=>?_⟩
 ·simp [oput,show ¬h=nx by omega,show ¬h=nx+1+5 by omega,hst h]
 ·simp [oput,show ¬nx+1+4=nx by omega,hst (nx+1+4),e1]
 ·simp [oput,show ¬i=nx by omega,show ¬i=nx+1+5 by omega,hst i,h2,h3,show ¬i=nx+1+4 by omega,show i<nx+1 by omega]
theorem hleast_spec (o:Int) (l:List Ent) (hl:l.length<2^30) {σ:Nat→AObj} {nx h q:Nat} (hh:h<nx) (hσ:σ h= .box [.ref q,.i o]) (hq:q<nx) (hσq:σ q= .arr 4 (itemsT o l)):
  CallSpec P 76 [.ptr h 0] σ nx (.i (leastQ l)) σ nx:=by
 generalize hR:leastQ l=R
 refine spec_keep Tryz.func76 rfl rfl (by simp [Tryz.f76]) (by simp [bnd]) fun hk B hB hnx hσB=>?_
 simp only [Tryz.f76] at hB ⊢
 have hil:=items_len o l
 have hlen:=len_spec o l hh hσ hq hσq
 refine K_run hB 100 ?_
 simp [go_sem]
 refine K_call rfl rfl rfl (args:=[.ptr h 0]) (f:=128) (by simp [go_sem]) (by simp [go_sem,hB]) hlen ?_
 by_cases c0:l.length=0
 ·have:l=[]:=List.eq_nil_of_length_eq_zero c0
  subst this
  have:R=1152921504606846976:=hR.symm
  refine K_run hB 100 ?_
  simp [go_sem,this]
 ·have hpos:0<l.length:=by omega
  have hg0:=fun h=>items_get o l (k:=0) hpos h
  have hR0:l.foldl (fun n f=>min n f.bound) (l.getD 0 Ent.zero).bound=R:=by
   cases l with
   |nil=>simp at hpos
   |cons e l=>rw [←hR];simp [leastQ]
  have w1:∀k:Nat,k<l.length→IntKind.i64.wrap ((k:Int)+1)=((k+1:Nat):Int):=fun k hk=>by rw [w64 _ (by omega)];omega
  generalize l.getD 0 Ent.zero=e0 at *
  refine K_run hB 100 ?_
  simp [go_sem,c0,hσ,hσq,hil,hpos,hg0,Ent.t]
  refine K_loopP (α:=Nat×Int×(Nat→AObj)×Nat) (fun (k,n,τ,m)=>k≤l.length∧(l.drop k).foldl (fun n f=>min n f.bound) n=R∧nx≤m∧∀i,i<nx→τ i=σ i) (fun (k,n,τ,m)=>⟨sl [(3,.i n),(22,.ref q),(23,.i l.length),(24,.i k)],τ,m⟩) (fun a=>l.length-a.1) (0,e0.bound,_,_) ⟨Nat.zero_le _,hR0,Nat.le_refl _,fun i _=>rfl⟩ (Imp.slots (by simp [go_sem]) rfl rfl) ?_
  rintro ⟨k,n,τ,m⟩ ⟨g1,g2,g3,g4⟩
  have hτ:=g4 q hq
  rw [hσq] at hτ
  have hqm:¬q=m:=by omega
  refine K_run hB 60 ?_
  simp [go_sem]
  refine fork_dec (fun hk=>?_) (fun hk=>?_)
  ·have hgk:=fun h=>items_get o l (k:=k) hk h
   rw [List.drop_eq_getElem_cons hk,List.foldl_cons] at g2
   have hgd:l.getD k Ent.zero=l[k]:=getD_at hk
   rw [hgd] at hgk
   have w1:=w1 k hk
   generalize l[k]=e at *
   simp [go_sem,hτ,hil,hk,hgk,Ent.t,w1]
   exact Next.mk (k+1,min n e.bound,_,_) ⟨by omega,g2,by simp only;omega,fun i hi=>by simp [oput,show ¬i=m by omega,g4 i hi]⟩ (Imp.slots (by simp [go_sem]) rfl rfl) (by simp only;omega)
  ·have:k=l.length:=by omega
   subst this
   rw [List.drop_length,List.foldl_nil] at g2
   subst g2
   simp [go_sem]
   exact ⟨by omega,g4⟩
end Go.Proofs.YtackfabapangdaaGreat

set_option maxRecDepth 4000
namespace Go.Proofs.YtackfabapangdaaGreat
open Go Go.Proofs.YtackfabapangdaaGreat.R
def Opt.cs (o:Opt):List AV:=[.i o.width,.i o.order,.i o.budget]
def Opt.a (o:Opt):AV:=.agg o.cs
def Opt.mayB (o:Opt):Bool:=decide ((1≤o.width∧o.width≤1048576)∧(0≤o.order∧o.order≤2)∧(0≤o.budget∧o.budget≤549755813888))
def Opt.near (o:Opt):Opt:=⟨min (max o.width 1) 1048576,min (max o.order 0) 2,min (max o.budget 0) 549755813888⟩
theorem near_self (o:Opt):decide (o.width=o.near.width∧o.order=o.near.order∧o.budget=o.near.budget)=o.mayB:=by
 refine decide_eq_decide.2 ?_
 simp only [Opt.near]
 omega
theorem bounded_pure (o:Opt):Pure P 86 [o.a] (o.near.a):=by
 refine pure_of Tryz.func86 rfl rfl (by simp [Tryz.f86]) (by simp [bnd,bnd.bndL,Opt.a,Opt.cs]) (by simp [bnd,bnd.bndL,Opt.a,Opt.cs]) fun B hB hnx=>?_
 simp only [Tryz.f86] at hB ⊢
 refine K_run hB 100 ?_
 simp [go_sem,Opt.a,Opt.cs]
 exact ⟨rfl,rfl,rfl⟩
theorem opt_guard:P.eqGuardType P.depth 53=false:=by kernel_rfl
theorem opt_stood:P.stoodInHeld 53=false:=by kernel_rfl
theorem opt_eq (a b:Opt):eqA P 10000 53 a.a b.a=some (decide (a.width=b.width∧a.order=b.order∧a.budget=b.budget)):=by
 simp [go_sem,Opt.a,Opt.cs,opt_stood]
theorem omay_pure (o:Opt):Pure P 34 [o.a] (.b o.mayB):=by
 refine pure_of Tryz.func34 rfl rfl (by simp [Tryz.f34]) (by simp [bnd,bnd.bndL,Opt.a,Opt.cs]) (by simp [bnd,bnd.bndL]) fun B hB hnx=>?_
 simp only [Tryz.f34] at hB ⊢
 have h:=bounded_pure o
 have hn:=near_self o
 generalize o.near=p at *
 refine K_run hB 100 ?_
 simp [go_sem,Opt.a,Opt.cs]
 refine K_drawn [] rfl (by rw [hB];kernel_rfl) ?_
 refine K_run hB 100 ?_
 simp [go_sem]
 refine K_dCallP rfl rfl rfl (args:=[o.a]) (f:=86) (by simp [go_sem,Opt.a,Opt.cs]) (h) ?_
 refine K_dEq (op:=.eql) (t:=53) (t':=53) (x:=.tmp 3) (y:=.tmp 5) (xs:=o.cs) (ys:=p.cs) (by simp [go_sem]) rfl (by simp [go_sem,Opt.cs]) (by simp [go_sem,Opt.a,Opt.cs]) opt_guard (opt_eq o p) rfl ?_
 rw [hn]
 refine K_run hB 100 ?_
 simp [go_sem]
end Go.Proofs.YtackfabapangdaaGreat

set_option maxRecDepth 4000
namespace Go.Proofs.YtackfabapangdaaGreat
open Go Go.Proofs.YtackfabapangdaaGreat.R
theorem moves_stops (x:Inst) (s:State):(x.moves s).length≤x.stops.length:=by
 rw [moves_can];exact canB_len _ _
theorem next_one (x:Inst) (n:Node) (up:Int):(x.next [n] up).length≤x.stops.length:=by
 have h1:=onceL_len ([n].flatMap (x.kids up))
 have h2:([n].flatMap (x.kids up)).length≤(x.moves n.s).length:=by
  rw [List.flatMap_cons,List.flatMap_nil,List.append_nil,Inst.kids]
  refine Nat.le_trans (List.length_filter_le _ _) ?_
  rw [List.length_map]
  exact Nat.le_refl _
 have h3:=moves_stops x n.s
 rw [Inst.next]
 omega
theorem buildGo_two {x:Inst} (w up dp:Int):∀(f:Nat) (ls:List (List Node)) (low:Int) (sq:Option Nat) (l:List Node),1≤ls.length→(∀k,sq=some k→2≤k)→(x.buildGo w up dp f ls low sq l).exact=true∨2≤(x.buildGo w up dp f ls low sq l).sure
 |0,ls,low,sq,l,_,h=>by
  cases sq with
  |none=>exact .inl rfl
  |some k=>exact .inr (h k rfl)
 |f+1,ls,low,sq,l,hl,h=>by
  have hlen:(ls++[l]).length=ls.length+1:=by simp
  rw [Inst.buildGo]
  split
  ·cases sq with
   |none=>exact .inl rfl
   |some k=>exact .inr (h k rfl)
  split
  ·cases sq with
   |none=>exact .inl rfl
   |some k=>exact .inr (h k rfl)
  split
  ·refine buildGo_two w up dp f _ _ _ _ (by omega) fun k hk=>?_
   cases sq with
   |none=>simp only [Option.getD_none,Option.some.injEq] at hk;omega
   |some i=>have:=h i rfl;simp only [Option.getD_some,Option.some.injEq] at hk;omega
  ·exact buildGo_two w up dp f _ _ _ _ (by omega) h
theorem build_two (x:Inst) (n:Node) (w up:Int) (he:(x.build n w up).exact=false):2≤(x.build n w up).sure:=by
 have key:(x.build n w up).exact=true∨2≤(x.build n w up).sure:=by
  rw [Inst.build,Inst.buildGo,if_neg (by simp)]
  split
  ·exact .inl rfl
  have h1:=next_one x n up
  rw [if_neg (by unfold Inst.mostN;omega)]
  exact buildGo_two w up _ _ _ _ _ _ (by simp) fun k hk=>by cases hk
 rcases key with h | h
 ·rw [he] at h;cases h
 ·exact h
theorem getD_of {α:Type} {l:List α} {i:Nat} {a d:α} (h:l[i]? =some a):l.getD i d=a:=by
 rw [List.getD_eq_getElem?_getD,h];rfl
theorem push_nos {x:Inst} {low:Int} {s:SS} {n:Node} (hn:∀e∈s.q,∃m,s.subs[e.no]? =some m):∀e∈(x.push low s n).q,∃m,(x.push low s n).subs[e.no]? =some m:=by
 rcases push_or x low s n with ⟨e,_⟩ | ⟨_,e⟩
 ·rw [e];exact hn
 rw [e]
 intro f hf
 rcases List.mem_append.1 hf with hf | hf
 ·obtain ⟨m,hm⟩:=hn f hf
  exact ⟨m,get_old hm⟩
 ·rw [List.mem_singleton.1 hf]
  exact ⟨n,by simp⟩
theorem goes_good {x:Inst} {p:Nat} (hx:x.Fit p):∀{v:List Int} {s:State} {c:Int} {t:State} {d:Int},Good x p s→x.goes v s c=some (t,d)→Good x p t
 |[],s,c,t,d,hg,h=>by
  rw [Inst.goes] at h
  cases h
  exact hg
 |j :: v,s,c,t,d,hg,h=>by
  rw [Inst.goes] at h
  split at h
  ·rename_i hm
   exact goes_good hx (good_step hx hg hm).1 h
  ·cases h
theorem Track.good {x:Inst} {p:Nat} (hx:x.Fit p) (hm:x.may=true) {n:Node} (h:Track x n):Good x p n.s:=goes_good hx (good_root hx hm) h.goes
theorem Track.len13 {x:Inst} {p:Nat} (hx:x.Fit p) (hm:x.may=true) (hp:p≤3) {n:Node} (h:Track x n):n.path.length≤13:=by
 have:=h.len
 have:=meas_root hx hm
 omega
theorem pot_lay {x:Inst} {p:Nat} (hx:x.Fit p) (hm:x.may=true) (hp:p≤3) {n:Node} (h:Track x n) (up:Int) (D:Nat):∀k,k≤D→potL p (D-k) (x.layN up n k)≤potS p D n.s
 |0,_=>by simp only [Inst.layN,potL];exact Nat.le_refl _
 |k+1,hk=>by
  have h1:=pot_lay hx hm hp h up D k (by omega)
  have h2:=potL_once p (D-(k+1)) ((x.layN up n k).flatMap (x.kids up)) []
  have h3:=pot_flat hx hp (D-(k+1)) up (x.layN up n k) fun m hmm=>(layN_track h up k m hmm).1.good hx hm
  rw [show D-(k+1)+1=D-k by omega] at h3
  simp only [potL] at h2
  rw [Inst.layN,Inst.next,onceL]
  omega
def wt (p:Nat) (n:Node):Nat:=potS p (13-n.path.length) n.s*(14-n.path.length)
def SS.mass (p:Nat) (s:SS):Nat:=(s.q.map fun e=>wt p (s.subs.getD e.no Node.zero)).sum
theorem wts_lay (p K:Nat):∀(l:List Node),(∀n∈l,n.path.length=K)→(l.map (wt p)).sum=potL p (13-K) l*(14-K)
 |[],_=>by simp [potL]
 |n :: l,h=>by
  rw [List.map_cons,List.sum_cons,wts_lay p K l fun m hm=>h m (List.mem_cons_of_mem _ hm),potL,wt,h n List.mem_cons_self,Nat.add_mul]
structure Grows (p:Nat) (s t:SS) (l:List Node):Prop where
 subs:t.subs.length≤s.subs.length+l.length
 mass:t.mass p≤s.mass p+(l.map (wt p)).sum
 nos:∀e∈t.q,∃m,t.subs[e.no]? =some m
theorem grows_push {x:Inst} (p:Nat) (low:Int) {s:SS} (n:Node) (hn:∀e∈s.q,∃m,s.subs[e.no]? =some m):Grows p s (x.push low s n) [n]:=by
 refine ⟨?_,?_,push_nos hn⟩
 ·rcases push_or x low s n with ⟨e,_⟩ | ⟨_,e⟩<;>rw [e]<;>simp
 rcases push_or x low s n with ⟨e,_⟩ | ⟨_,e⟩
 ·rw [e];omega
 rw [e,SS.mass,SS.mass]
 simp only
 rw [List.map_append,List.sum_append]
 have h1:(s.q.map fun e=>wt p ((s.subs++[n]).getD e.no Node.zero))=s.q.map fun e=>wt p (s.subs.getD e.no Node.zero):=by
  refine List.map_congr_left fun e he=>?_
  obtain ⟨m,hm⟩:=hn e he
  rw [getD_of hm,getD_of (get_old hm)]
 have h2:(s.subs++[n])[s.subs.length]? =some n:=by simp
 rw [h1,List.map_cons,List.map_nil,List.sum_cons,List.sum_nil,getD_of h2,List.map_cons,List.map_nil,List.sum_cons,List.sum_nil]
 omega
theorem grows_pushes {x:Inst} (p:Nat) (low:Int):∀(l:List Node) (s:SS),(∀e∈s.q,∃m,s.subs[e.no]? =some m)→Grows p s (l.foldl (x.push low) s) l
 |[],s,hn=>⟨by simp,by simp,hn⟩
 |n :: l,s,hn=>by
  obtain ⟨h1,h2,h3⟩:=grows_push (x:=x) p low n hn
  obtain ⟨k1,k2,k3⟩:=grows_pushes (x:=x) p low l (x.push low s n) h3
  refine ⟨?_,?_,k3⟩
  ·simp only [List.length_cons,List.length_nil,List.foldl_cons] at *;omega
  ·simp only [List.map_cons,List.map_nil,List.sum_cons,List.sum_nil,List.foldl_cons] at *;omega
theorem mass_like {p:Nat} {s t:SS} (h1:t.subs=s.subs) (h2:t.q=s.q):t.mass p=s.mass p:=by rw [SS.mass,SS.mass,h1,h2]
theorem wt_pos {x:Inst} {p:Nat} (hx:x.Fit p) (hm:x.may=true) (hp:p≤3) {n:Node} (h:Track x n):1≤wt p n:=by
 have h1:=h.len13 hx hm hp
 have h2:=pot_pos p (13-n.path.length) (keyM n.s) n.s.yard
 rw [wt]
 exact Nat.mul_pos h2 (by omega)
theorem exGo_cnt (x:Inst) (most:Int) (h0:0≤most) (hm:most≤3000):∀(d:Nat) (st:Node×Bool×Int) (l:List Node) (n:Int),0≤n→n+3000*d<9223372036854775808→
  n≤(x.exGo most d st l n).2.2.2∧(x.exGo most d st l n).2.2.2≤n+3000*d
 |0,st,l,n,_,_=>by rw [Inst.exGo];exact ⟨Int.le_refl _,by simp⟩
 |d+1,st,l,n,h1,hn=>by
  rw [Inst.exGo]
  split
  ·exact ⟨Int.le_refl _,by simp only;omega⟩
  split
  ·exact ⟨Int.le_refl _,by simp only;omega⟩
  rename_i c1 c2
  have hw:=w64 (n+l.length) (by omega)
  have:=exGo_cnt x most h0 hm d (x.look st l) (frontL (x.next l st.2.2)) (IntKind.i64.wrap (n+l.length)) (by omega) (by omega)
  omega
theorem sizes_le (K:Nat):∀(ls:List (List Node)),(∀l∈ls,l.length≤K)→sizes ls≤K*ls.length
 |[],_=>by simp [sizes]
 |l :: ls,h=>by
  have h1:=sizes_le K ls fun m hm=>h m (List.mem_cons_of_mem _ hm)
  have h2:=h l List.mem_cons_self
  rw [sizes] at h1 ⊢
  rw [List.map_cons,List.sum_cons,List.length_cons,Nat.mul_add]
  omega
theorem build_head (x:Inst) (n:Node) (w up:Int):∃ls,(x.build n w up).layers=[n] :: ls:=by
 obtain ⟨h,e⟩:=sure_get (build_ok x n w up) (i:=0) (by have:=(build_ok x n w up).pos;omega)
 cases hl:(x.build n w up).layers with
 |nil=>rw [hl] at h;simp at h
 |cons a ls=>
  refine ⟨ls,?_⟩
  have:(x.build n w up).layers[0]=[n]:=e
  simp only [hl,List.getElem_cons_zero] at this
  rw [this]
structure Cost (x:Inst) (p:Nat) (n:Node) (s t:SS):Prop where
 subs:t.subs.length+t.mass p≤s.subs.length+s.mass p+wt p n
 mass:t.mass p+1≤s.mass p+wt p n
 log:t.log.length=s.log.length+1
 least:s.steps+2≤t.steps
 most:t.steps≤s.steps+400000
theorem look_cost {x:Inst} {p:Nat} (hx:x.Fit p) (hm:x.may=true) (hp:p≤3) {n:Node} (ht:Track x n) {w:Int} (hw:w≤40) {s:SS} (hs:∀e∈s.q,∃m,s.subs[e.no]? =some m):Cost x p n s (x.lookS w s n):=by
 have hwp:=wt_pos hx hm hp ht
 obtain ⟨n1,n2⟩:=narrow_steps x n w s.up (by omega)
 have hml:=meas_le x n.s
 have hml0:=meas_le x x.rootS
 have hmu:widthN w*x.meas n.s≤3000*40:=Nat.mul_le_mul (by unfold widthN;split<;>omega) hml
 have hmst:x.mostN w≤40:=by
  have:=hx.len
  unfold Inst.mostN
  omega
 have h1:1≤x.mostN w:=by
  have:=hx.len
  unfold Inst.mostN
  omega
 rw [Inst.lookS]
 have hn1:=offer_up (s.plus (x.narrow n w s.up).2.2) ((x.narrow n w s.up).1,(x.narrow n w s.up).2.1)
 have q1:(s.nar x w n).subs=s.subs:=hn1.2.1
 have q2:(s.nar x w n).q=s.q:=hn1.2.2.1
 have q3:(s.nar x w n).log=s.log:=hn1.2.2.2.1
 have q4:(s.nar x w n).steps=s.steps+(x.narrow n w s.up).2.2:=hn1.2.2.2.2
 generalize s.nar x w n=t at *
 have hsz:1≤sizes (x.build n w t.up).layers∧sizes (x.build n w t.up).layers≤40*41:=by
  obtain ⟨ls,hls⟩:=build_head x n w t.up
  have hlay:=build_lay n w t.up h1
  have hc:=build_count x n w t.up
  have hd:=(deep_meas hm).2
  rw [hls] at hlay hc ⊢
  rw [List.length_cons] at hc
  have h3:=sizes_le 40 ls fun l hl=>by have:=(hlay l hl).2;omega
  have h4:sizes ([n] :: ls)=1+sizes ls:=by simp [sizes]
  rw [h4]
  have:40*ls.length≤40*40:=Nat.mul_le_mul_left _ (by omega)
  omega
 have hdt:∀d,(t.dia n d).subs=s.subs∧(t.dia n d).q=s.q∧(t.dia n d).log.length=s.log.length+1∧(t.dia n d).steps=t.steps+sizes d.layers:=fun d=>⟨q1,q2,by show (t.log++_).length=_;rw [q3,List.length_append];rfl,rfl⟩
 have e0:=hdt (x.build n w t.up)
 rw [Inst.lookD]
 split
 ·exact ⟨by rw [mass_like e0.1 e0.2.1,e0.1];omega,by rw [mass_like e0.1 e0.2.1];omega,e0.2.2.1,by rw [e0.2.2.2];omega,by rw [e0.2.2.2];omega⟩
 split
 ·have h3:=offer_up ((t.dia n (x.build n w t.up)).plus (x.exact n (t.dia n (x.build n w t.up)).up (x.mostN w)).2.2.2) ((x.exact n (t.dia n (x.build n w t.up)).up (x.mostN w)).1,(x.exact n (t.dia n (x.build n w t.up)).up (x.mostN w)).2.1)
  have hcnt:0≤(x.exact n (t.dia n (x.build n w t.up)).up (x.mostN w)).2.2.2∧(x.exact n (t.dia n (x.build n w t.up)).up (x.mostN w)).2.2.2≤0+3000*((x.meas n.s+1:Nat):Int):=exGo_cnt x _ (by omega) (by omega) _ _ _ _ (Int.le_refl _) (by omega)
  have f1:=h3.2.1.trans e0.1
  have f2:=h3.2.2.1.trans e0.2.1
  have f3:((t.dia n (x.build n w t.up)).exa x w n).log=(t.dia n (x.build n w t.up)).log:=h3.2.2.2.1
  have f4:((t.dia n (x.build n w t.up)).exa x w n).steps=(t.dia n (x.build n w t.up)).steps+(x.exact n (t.dia n (x.build n w t.up)).up (x.mostN w)).2.2.2:=h3.2.2.2.2
  refine ⟨by rw [SS.exa,mass_like f1 f2,f1];omega,by rw [SS.exa,mass_like f1 f2];omega,by rw [f3];exact e0.2.2.1,by rw [f4,e0.2.2.2];omega,by rw [f4,e0.2.2.2];omega⟩
 ·rename_i c1 c2
  have htwo:=build_two x n w t.up (by simpa using c2)
  have hok:=build_ok x n w t.up
  rw [Inst.branch]
  obtain ⟨hl,hlast⟩:=sure_get hok (i:=(x.build n w t.up).sure-1) (by omega)
  rw [List.getD_eq_getElem?_getD,List.getElem?_eq_getElem hl,Option.getD_some]
  have hpath:∀m∈(x.build n w t.up).layers[(x.build n w t.up).sure-1],Track x m∧m.path.length=n.path.length+((x.build n w t.up).sure-1):=by
   rw [hlast]
   exact fun m hmm=>layN_track ht t.up _ m hmm
  have ho:=offers_up x ((x.build n w t.up).layers.take ((x.build n w t.up).sure-1)) (t.dia n (x.build n w t.up))
  generalize hS:x.offers (t.dia n (x.build n w t.up)) ((x.build n w t.up).layers.take ((x.build n w t.up).sure-1))=S at *
  have g1:=ho.2.1.trans e0.1
  have g2:=ho.2.2.1.trans e0.2.1
  obtain ⟨k1,k2,k3⟩:=grows_pushes (x:=x) p (x.build n w t.up).low ((x.build n w t.up).layers[(x.build n w t.up).sure-1]) S (by rw [g1,g2];exact hs)
  have hup:=pushes_up x (x.build n w t.up).low ((x.build n w t.up).layers[(x.build n w t.up).sure-1]) S
  have hlen:=ht.len13 hx hm hp
  rw [mass_like g1 g2,wts_lay p _ _ fun m hmm=>(hpath m hmm).2] at k2
  rw [g1] at k1
  have key:potL p (13-(n.path.length+((x.build n w t.up).sure-1))) ((x.build n w t.up).layers[(x.build n w t.up).sure-1])*(14-(n.path.length+((x.build n w t.up).sure-1)))+((x.build n w t.up).layers[(x.build n w t.up).sure-1]).length≤wt p n∧
    potL p (13-(n.path.length+((x.build n w t.up).sure-1))) ((x.build n w t.up).layers[(x.build n w t.up).sure-1])*(14-(n.path.length+((x.build n w t.up).sure-1)))+1≤wt p n:=by
   by_cases hD:(x.build n w t.up).sure-1≤13-n.path.length
   ·have hpl:=pot_lay hx hm hp ht t.up (13-n.path.length) _ hD
    rw [←hlast,Nat.sub_sub] at hpl
    have hll:=potL_len p (13-(n.path.length+((x.build n w t.up).sure-1))) ((x.build n w t.up).layers[(x.build n w t.up).sure-1])
    generalize potL p (13-(n.path.length+((x.build n w t.up).sure-1))) ((x.build n w t.up).layers[(x.build n w t.up).sure-1])=A at *
    have hpos:=pot_pos p (13-n.path.length) (keyM n.s) n.s.yard
    rw [←potS] at hpos
    rw [wt]
    generalize potS p (13-n.path.length) n.s=G at *
    have m1:A*(14-(n.path.length+((x.build n w t.up).sure-1)))≤G*(13-n.path.length):=Nat.mul_le_mul hpl (by omega)
    have m2:G*(14-n.path.length)=G*(13-n.path.length)+G:=by
     rw [show 14-n.path.length=(13-n.path.length)+1 by omega,Nat.mul_add,Nat.mul_one]
    omega
   ·have:(x.build n w t.up).layers[(x.build n w t.up).sure-1]=[]:=by
     refine List.eq_nil_iff_forall_not_mem.2 fun m hmm=>?_
     obtain ⟨a,b⟩:=hpath m hmm
     have:=a.len13 hx hm hp
     omega
    rw [this]
    simp only [potL,List.length_nil]
    omega
  generalize potL p (13-(n.path.length+((x.build n w t.up).sure-1))) ((x.build n w t.up).layers[(x.build n w t.up).sure-1])*(14-(n.path.length+((x.build n w t.up).sure-1)))=A at *
  refine ⟨by omega,by omega,by rw [hup.2.1,ho.2.2.2.1];exact e0.2.2.1,by rw [hup.2.2,ho.2.2.2.2,e0.2.2.2];omega,by rw [hup.2.2,ho.2.2.2.2,e0.2.2.2];omega⟩
theorem sum_split {q q':List Ent} {k:Nat} (hk:k<q.length) (h:q'=q.take k++q.drop (k+1)) (g:Ent→Nat):(q.map g).sum=g q[k]+(q'.map g).sum:=by
 have hd:q=q.take k++q[k] :: q.drop (k+1):=by rw [←List.drop_eq_getElem_cons hk,List.take_append_drop]
 rw [h,List.map_append,List.sum_append]
 conv=>lhs;rw [hd]
 rw [List.map_append,List.sum_append,List.map_cons,List.sum_cons]
 omega
theorem take_sum {o:Int} {q:List Ent} {e:Ent} {q':List Ent} (h:takeQ o q=some (e,q')) (g:Ent→Nat):(q.map g).sum=g e+(q'.map g).sum:=by
 unfold takeQ at h
 split at h
 ·cases h
 rename_i hq
 have hk:=minI_lt o hq
 obtain ⟨h1,h2⟩:=Prod.mk.inj (Option.some.inj h)
 rw [sum_split hk h2.symm g,←h1]
 congr 2
 rw [List.getD_eq_getElem?_getD,List.getElem?_eq_getElem hk];rfl
structure Small (x:Inst) (p:Nat) (s:SS):Prop where
 subs:s.subs.length+s.mass p≤1849
 log:s.log.length+s.mass p≤1848
 steps:2*(s.log.length:Int)≤s.steps∧s.steps≤400000*s.log.length
theorem Small.left {x:Inst} {p:Nat} {s:SS} (h:Small x p s) {o:Int} {e:Ent} {q:List Ent} (ht:takeQ o s.q=some (e,q)):Small x p (s.left q)∧(s.left q).mass p+wt p (s.subs.getD e.no Node.zero)=s.mass p:=by
 have hsum:=take_sum ht fun e=>wt p (s.subs.getD e.no Node.zero)
 have hmass:s.mass p=wt p (s.subs.getD e.no Node.zero)+(s.left q).mass p:=hsum
 refine ⟨⟨?_,?_,h.steps⟩,by omega⟩
 ·have:=h.subs
  show s.subs.length+_≤_
  omega
 ·have:=h.log
  show s.log.length+_≤_
  omega
structure Going (x:Inst) (p:Nat) (s:SS):Prop where
 inv:SInv x s
 cov:s.Covers x fun _=>False
 small:Small x p s
theorem Going.skip {x:Inst} {p:Nat} {s:SS} (h:Going x p s) {o:Int} {e:Ent} {q:List Ent} (ht:takeQ o s.q=some (e,q)) (c:s.up≤e.bound):Going x p (s.left q):=by
 obtain ⟨t1,t2,t3,t4⟩:=take_some ht
 obtain ⟨n,hn⟩:=h.inv.nos e t1
 have hcl:=Covers.left h.inv h.cov t2 hn
 have hb:=h.inv.bound e t1 n hn
 refine ⟨h.inv.left t3,fun v c hv hlt=>?_,(h.small.left ht).1⟩
 rcases hcl v c hv hlt with ⟨v',d',hv',hd'⟩ | hq
 ·have hlt':c<s.up:=hlt
  have:=hb v' d' hv' (by omega)
  omega
 ·exact .inr hq
theorem Going.look {x:Inst} {p:Nat} (hx:x.Fit p) (hm:x.may=true) (hp:p≤3) {s:SS} (h:Going x p s) {w:Int} (hw:w≤40) {o:Int} {e:Ent} {q:List Ent} (htk:takeQ o s.q=some (e,q)):
  ∃n,s.subs[e.no]? =some n∧s.subs.getD e.no Node.zero=n∧Track x n∧Going x p (x.lookS w (s.left q) n)∧Cost x p n (s.left q) (x.lookS w (s.left q) n)∧(x.lookS w (s.left q) n).mass p<s.mass p:=by
 have hst:x.stops.length<2^31:=by have:=hx.len;omega
 obtain ⟨t1,t2,t3,t4⟩:=take_some htk
 obtain ⟨n,hn⟩:=h.inv.nos e t1
 have ht:=h.inv.track n (List.mem_of_getElem? hn)
 have hsl:=h.inv.left t3
 obtain ⟨k1,k2⟩:=look_ok2 hst hm ht w hsl (Covers.left h.inv h.cov t2 hn)
 obtain ⟨h1,h2⟩:=h.small.left htk
 rw [getD_of hn] at h2
 have hc:=look_cost hx hm hp ht hw (s:=s.left q) hsl.nos
 obtain ⟨c1,c2,c3,c4,c5⟩:=hc
 have:=h.small.subs
 have:=h.small.log
 have:=h.small.steps
 have e1:(s.left q).subs.length=s.subs.length:=rfl
 have e2:(s.left q).log.length=s.log.length:=rfl
 have e3:(s.left q).steps=s.steps:=rfl
 exact ⟨n,hn,getD_of hn,ht,⟨k1,k2,⟨by omega,by omega,by omega,by omega⟩⟩,⟨c1,c2,c3,c4,c5⟩,by omega⟩
theorem run_ends {x:Inst} {p:Nat} (hx:x.Fit p) (hm:x.may=true) (hp:p≤3) (o:Opt) (hw:o.width≤40):∀(N:Nat) (s:SS),Going x p s→s.mass p<N→∃r,x.runGo o N s=some r
 |0,s,_,h=>absurd h (Nat.not_lt_zero _)
 |N+1,s,hs,h=>by
  rw [Inst.runGo]
  cases ht:takeQ o.order s.q with
  |none=>exact ⟨_,rfl⟩
  |some r=>
   obtain ⟨e,q⟩:=r
   simp only
   obtain ⟨n,hn,hg,htn,k1,k2,k3⟩:=hs.look hx hm hp hw ht
   have hpos:=wt_pos hx hm hp htn
   obtain ⟨m1,m2⟩:=hs.small.left ht
   rw [hg] at m2 ⊢
   by_cases c1:s.up≤e.bound
   ·rw [if_pos c1]
    exact run_ends hx hm hp o hw N _ (hs.skip ht c1) (by omega)
   rw [if_neg c1]
   by_cases c2:o.budget≤s.steps
   ·rw [if_pos c2];exact ⟨_,rfl⟩
   rw [if_neg c2]
   exact run_ends hx hm hp o hw N _ k1 (by omega)
theorem start_small {x:Inst} {p:Nat} (hx:x.Fit p) (hm:x.may=true) (hp:p≤3):Small x p x.start:=by
 obtain ⟨h1,h2,h3⟩:=grows_push (x:=x) p 0 (s:=⟨[],[],inf,[],0,[]⟩) x.rootN fun e he=>by simp at he
 have hup:=push_up x 0 ⟨[],[],inf,[],0,[]⟩ x.rootN
 have hpot:=pot_root p (by omega) 13 (by omega)
 have e3:keyM x.rootS=0:=by rw [Inst.rootS,if_pos hm];simp [keyM,State.zero]
 have e4:x.rootS.yard=true:=by rw [Inst.rootS,if_pos hm];simp [State.yard,State.zero]
 have hw:wt p x.rootN≤132*14:=by
  show pot p 13 (keyM x.rootS) x.rootS.yard*14≤_
  rw [e3,e4]
  exact Nat.mul_le_mul_right _ hpot
 have e5:(SS.mk [] [] inf [] 0 []).mass p=0:=rfl
 rw [Inst.start]
 simp only [List.map_cons,List.map_nil,List.sum_cons,List.sum_nil,List.length_cons,List.length_nil] at h1 h2
 refine ⟨by omega,?_,?_⟩
 ·rw [hup.2.1];simp only [List.length_nil];omega
 ·rw [hup.2.1,hup.2.2];simp
theorem start_going {x:Inst} {p:Nat} (hx:x.Fit p) (hm:x.may=true) (hp:p≤3):Going x p x.start:=by
 obtain ⟨h1,h2⟩:=start_ok (x:=x) (by have:=hx.len;omega) hm
 exact ⟨h1,h2,start_small hx hm hp⟩
end Go.Proofs.YtackfabapangdaaGreat

set_option maxRecDepth 4000
set_option maxHeartbeats 1000000
namespace Go.Proofs.YtackfabapangdaaGreat
open Go Go.Proofs.YtackfabapangdaaGreat.R
def hC (h:State×Nat×Bool):List AV:=[.i h.1.spot,.i h.1.car,.i h.1.time,.i h.1.load,.i h.1.first,.u h.1.must,.u h.1.can,.u h.1.on,.i h.2.1,.b h.2.2]
def addH (h:State×Nat×Bool) (t:State):State×Nat×Bool:=if h.2.1=0 then (t,1,h.2.2) else (h.1.join t,h.2.1+1,h.2.2||decide (t.spot≠h.1.spot))
theorem join_ok {s t:State} (h:s.ok) (k:t.ok):(s.join t).ok:=⟨Nat.and_lt_two_pow _ k.must,Nat.or_lt_two_pow h.can k.can,Nat.and_lt_two_pow _ k.on⟩
theorem addH_ok {h:State×Nat×Bool} {t:State} (h1:h.1.ok) (h2:t.ok):(addH h t).1.ok:=by
 unfold addH
 split
 ·exact h2
 ·exact join_ok h1 h2
theorem addH_many (h:State×Nat×Bool) (t:State):(addH h t).2.1=h.2.1+1:=by unfold addH;split<;>simp_all
theorem add_spec (h:State×Nat×Bool) (t:State) (hk:h.2.1<2^62) (ho:h.1.ok) (htk:t.ok) {σ:Nat→AObj} {nx b:Nat} (hb:b<nx) (hσ:σ b= .box (hC h)):
  CallSpec P 272 [.ptr b 0,t.a] σ nx (.tup []) (oput σ b (.box (hC (addH h t)))) nx:=by
 refine spec_down Tryz.func272 rfl rfl (by simp [Tryz.f272]) hb (by simp [bndO,bnd,bnd.bndL,hC]) (by simp [bnd,bnd.bndL]) fun hkn B hB hnx hσB=>?_
 simp only [Tryz.f272] at hB ⊢
 have hne:¬b=nx:=by omega
 have hne2:¬nx=b:=by omega
 obtain ⟨s,k,o⟩:=h
 simp only at hk ho
 by_cases c0:k=0
 ·subst c0
  have e:addH (s,0,o) t=(t,1,o):=rfl
  have w1:IntKind.i64.wrap 1=1:=w64 _ (by omega)
  rw [e]
  refine K_run hB 100 ?_
  simp [go_sem,State.a,State.cs,hσ,hC,hne,hne2,w1]
  exact fun i h1 h2=>by simp [h2,show ¬i=nx by omega]
 ·have e:addH (s,k,o) t=(s.join t,k+1,o||decide (t.spot≠s.spot)):=if_neg c0
  have hw:IntKind.i64.wrap ((k:Int)+1)=(k:Int)+1:=w64 _ (by omega)
  have c1:¬(k:Int)+1=1:=by omega
  rw [e]
  refine K_run hB 100 ?_
  simp [go_sem,State.a,State.cs,hσ,hC,hne,hne2,hw,c1]
  have hm1:=bandN ho.must htk.must
  have hm2:=bandN ho.on htk.on
  have hm3:=borN ho.can htk.can
  refine K_cut (α:=Unit) (fun _=>True) (fun _=>⟨sl [(0,.ptr b 0),(3,.ptr nx 0),(4,.ptr b 0)],oput (oput σ nx (.box t.cs)) b (.box (hC (s,k+1,o||decide (t.spot≠s.spot)))),nx+1⟩) ?_ fun _ _=>?_
  ·refine K_drawnT [16] rfl (by rw [hB];kernel_rfl) (by kernel_rfl) fun ht=>?_
   cases o with
   |true=>
    refine K_run hB 100 ?_
    simp [go_sem,ht,hσ,hC,hne,hne2,hw,c1]
    refine Imp.slots (by simp [go_sem]) ?_ rfl
    funext i
    by_cases e1:i=b
    ·simp [oput,e1,hC]
    ·simp [oput,e1,State.cs]
   |false=>
    refine K_run hB 100 ?_
    simp [go_sem,ht,hσ,hC,hne,hne2,hw,c1]
    refine Imp.slots (by simp [go_sem]) ?_ rfl
    funext i
    by_cases e1:i=b
    ·simp [oput,e1,hC]
    ·simp [oput,e1,State.cs]
  refine K_run hB 100 ?_
  simp [go_sem]
  refine K_drawnF [18,21] [1,13,14,15] rfl (by rw [hB];kernel_rfl) (by kernel_rfl) fun ht hf'=>?_
  refine K_run hB 100 ?_
  simp [go_sem,ht,hf',hC,hne,hne2,State.cs]
  refine K_drawnF [18,21] [1,13,14,15] rfl (by rw [hB];kernel_rfl) (by kernel_rfl) fun ht hf'=>?_
  refine K_run hB 100 ?_
  simp [go_sem,ht,hf',hC,hne,hne2,State.cs]
  refine K_drawnF [18,21] [1,13,14,15] rfl (by rw [hB];kernel_rfl) (by kernel_rfl) fun ht hf'=>?_
  refine K_run hB 100 ?_
  simp [go_sem,ht,hf',hC,hne,hne2,State.cs,hm1,hm2]
  refine K_drawnT [9] rfl (by rw [hB];kernel_rfl) (by kernel_rfl) fun ht=>?_
  refine K_run hB 100 ?_
  simp [go_sem,ht,hC,hne,hne2,State.cs,hm3]
  exact ⟨⟨rfl,rfl,rfl,rfl,rfl,rfl,rfl,rfl⟩,fun i h1 h2=>by simp [h2,show ¬i=nx by omega]⟩
def State.row (s:State):List T:=[.i s.spot,.i s.car,.i s.time,.i s.load,.i s.first,.v (.int .u64 s.must),.v (.int .u64 s.can),.v (.int .u64 s.on)]
theorem each_spec (l:List State) (h:State×Nat×Bool) (hl:l.length<2^31) (h0:h.2.1=0) (ho:h.1.ok) (hlo:∀t∈l,t.ok) {σ:Nat→AObj} {nx b r:Nat} (hb:b<nx) (hσ:σ b= .box (hC h)) (hr:r<nx) (hrb:r≠b) (hσr:σ r= .arr 8 (l.map State.row)):
  CallSpec P 271 [.fn (.func 272) [.ptr b 0] [],.ref r] σ nx (.tup []) (oput σ b (.box (hC (l.foldl addH h)))) nx:=by
 refine spec_down Tryz.func271 rfl rfl (by simp [Tryz.f271]) hb (by simp [bndO,bnd,bnd.bndL,hC]) (by simp [bnd,bnd.bndL]) fun hkn B hB hnx hσB=>?_
 simp only [Tryz.f271] at hB ⊢
 have hil:(l.map State.row).length=l.length:=List.length_map _
 have hgt:∀(k:Nat) (h:k<l.length),(l.map State.row)[k]'(by rw [hil];exact h)=l[k].row:=fun k h=>by rw [List.getElem_map]
 generalize l.map State.row=X at *
 generalize hR:l.foldl addH h=R
 refine K_run hB 100 ?_
 simp [go_sem,hσr,hil]
 refine K_loopP (α:=Nat×(State×Nat×Bool)×(Nat→AObj)×Nat) (fun (k,h,τ,ny)=>k≤l.length∧(l.drop k).foldl addH h=R∧h.2.1=k∧h.1.ok∧τ b= .box (hC h)∧nx≤ny∧∀i,i<nx→i≠b→τ i=σ i)
  (fun (k,h,τ,ny)=>⟨sl [(0,.fn (.func 272) [.ptr b 0] []),(6,.ref r),(7,.i l.length),(8,.i k)],τ,ny⟩) (fun a=>l.length-a.1) (0,h,σ,nx) ⟨Nat.zero_le _,hR,h0,ho,hσ,Nat.le_refl _,fun i _ _=>rfl⟩ (Imp.slots (by simp [go_sem]) rfl rfl) ?_
 rintro ⟨k,h,τ,ny⟩ ⟨g1,g2,g3,g4,g5,g6,g7⟩
 have hτr:τ r= .arr 8 X:=(g7 r hr hrb).trans hσr
 refine K_run hB 60 ?_
 simp [go_sem]
 refine fork_dec (fun hk=>?_) (fun hk=>?_)
 ·have hkk:IntKind.i64.wrap ((k:Int)+1)=((k+1:Nat):Int):=by rw [w64 ((k:Int)+1) (by omega)];rfl
  have hget:∀h:k<X.length,X[k]'h=l[k].row:=fun h=>hgt k hk
  rw [List.drop_eq_getElem_cons hk,List.foldl_cons] at g2
  have hto:=hlo l[k] (List.getElem_mem _)
  generalize l[k]=t at *
  have hadd:=fun (τ':Nat→AObj) (h1:τ' b= .box (hC h))=>add_spec h t (by omega) g4 hto (σ:=τ') (nx:=ny+1) (b:=b) (by omega) h1
  have hok:=addH_ok g4 hto
  have hmn:=addH_many h t
  generalize addH h t=h' at *
  have m1:¬b=ny:=by omega
  have m2:¬r=ny:=by omega
  simp [go_sem,hil,hk,hget,State.row,hτr,m2]
  refine K_call rfl rfl rfl (args:=[.ptr b 0,t.a]) (f:=272) (by simp [go_sem,State.a,State.cs]) (by simp [go_sem,hB]) (hadd _ (by simp [oput,m1,g5])) ?_
  refine K_run hB 100 ?_
  simp [go_sem,hkk]
  refine Next.mk (k+1,h',_,ny+1) ?_ (Imp.slots (by simp [go_sem]) rfl rfl) (by simp only;omega)
  refine ⟨by simp only;omega,g2,by simp only;omega,hok,by simp [oput],by simp only;omega,fun i h1 h2=>?_⟩
  simp [oput,h2,show ¬i=ny by omega,g7 i h1 h2]
 ·have:k=l.length:=by omega
  subst this
  rw [List.drop_length,List.foldl_nil] at g2
  subst g2
  simp [go_sem,g5]
  exact ⟨g6,g7⟩
theorem fold_addH:∀(l:List State) (s:State) (k:Nat) (o:Bool),l.foldl addH (s,k+1,o)=(l.foldl State.join s,k+1+l.length,o||l.any fun t=>decide (t.spot≠s.spot))
 |[],s,k,o=>by simp
 |t :: l,s,k,o=>by
  have e:addH (s,k+1,o) t=(s.join t,k+1+1,o||decide (t.spot≠s.spot)):=if_neg (by simp)
  rw [List.foldl_cons,e,fold_addH l (s.join t) (k+1),List.foldl_cons,List.any_cons,List.length_cons,←Bool.or_assoc,show k+1+1+l.length=k+1+(l.length+1) by omega]
  rfl
theorem join_fold (l:List State):joinL l=if (l.foldl addH (State.zero,0,false)).2.1=0∨(l.foldl addH (State.zero,0,false)).2.2=true then (State.zero,false) else ((l.foldl addH (State.zero,0,false)).1,true):=by
 cases l with
 |nil=>rfl
 |cons s l=>
  have e:addH (State.zero,0,false) s=(s,0+1,false):=rfl
  rw [List.foldl_cons,e,fold_addH,joinL,Bool.false_or]
  simp only [show ¬(0+1+l.length=0) by omega,false_or]
theorem join_spec (l:List State) (hl:l.length<2^31) (hlo:∀t∈l,t.ok) {σ:Nat→AObj} {nx r:Nat} (hr:r<nx) (hσr:σ r= .arr 8 (l.map State.row)):
  CallSpec P 263 [.ref r] σ nx (.tup [(joinL l).1.a,.b (joinL l).2]) σ nx:=by
 refine spec_keep Tryz.func263 rfl rfl (by simp [Tryz.f263]) (by simp [bnd,bnd.bndL,State.a,State.cs]) fun hk B hB hnx hσB=>?_
 simp only [Tryz.f263] at hB ⊢
 have hes:=fun (τ:Nat→AObj) (h1:τ (nx+1)= .box (hC (State.zero,0,false))) (h2:τ r= .arr 8 (l.map State.row))=>each_spec l (State.zero,0,false) hl rfl State.zero_ok hlo (σ:=τ) (nx:=nx+2) (b:=nx+1) (r:=r) (by omega) h1 (by omega) (by omega) h2
 have hj:=join_fold l
 generalize joinL l=J at *
 generalize l.foldl addH (State.zero,0,false)=H at *
 obtain ⟨s,k,o⟩:=H
 simp only at hj
 have m1:¬r=nx:=by omega
 have m2:¬r=nx+1:=by omega
 have fin:∀(a b c:AObj) (i:Nat),i<nx→oput (oput (oput σ nx a) (nx+1) b) (nx+1) c i=σ i:=fun a b c i h=>by simp [oput,show ¬i=nx by omega,show ¬i=nx+1 by omega]
 refine K_run hB 100 ?_
 simp [go_sem]
 refine K_call rfl rfl rfl (args:=[.fn (.func 272) [.ptr (nx+1) 0] [],.ref r]) (f:=271) (by simp [go_sem]) (by simp [go_sem,hB]) (hes _ (by simp [oput,hC,State.zero]) (by simp [oput,m1,m2,hσr])) ?_
 by_cases c0:k=0
 ·rw [if_pos (.inl c0)] at hj
  subst hj
  refine K_run hB 100 ?_
  simp [go_sem,hC,c0]
  exact ⟨fun i h=>by simp [show ¬i=nx by omega,show ¬i=nx+1 by omega],rfl⟩
 cases o with
 |true=>
  rw [if_pos (.inr rfl)] at hj
  subst hj
  refine K_run hB 100 ?_
  simp [go_sem,hC,c0]
  exact ⟨fun i h=>by simp [show ¬i=nx by omega,show ¬i=nx+1 by omega],rfl⟩
 |false=>
  rw [if_neg (by simp [c0])] at hj
  subst hj
  refine K_run hB 100 ?_
  simp [go_sem,hC,c0]
  exact ⟨fun i h=>by simp [show ¬i=nx by omega,show ¬i=nx+1 by omega],rfl⟩
end Go.Proofs.YtackfabapangdaaGreat

set_option maxRecDepth 4000
set_option maxHeartbeats 1000000
namespace Go.Proofs.YtackfabapangdaaGreat
open Go Go.Proofs.YtackfabapangdaaGreat.R
theorem costL_snoc (l:List Node) (m:Node):costL (l++[m])=if l=[]∨m.cost<costL l then m.cost else costL l:=by
 cases l with
 |nil=>simp [costL]
 |cons n l=>
  rw [List.cons_append,costL,List.foldl_append,costL]
  simp only [List.foldl_cons,List.foldl_nil,reduceCtorEq,false_or]
  split<;>omega
abbrev nodeC (s:State) (c:Int) (p:AV):List AV:=[.i s.spot,.i s.car,.i s.time,.i s.load,.i s.first,.u s.must,.u s.can,.u s.on,.i c,p]
theorem together_spec (l:List Node) (hl:l.length<2^31) (hlo:∀n∈l,n.s.ok) {σ:Nat→AObj} {nx r:Nat} (hr:r<nx) (hσr:σ r= .arr 10 (nodesT l)):
  CallSpec P 249 [.ref r] σ nx (.tup [(together l).1.a,.b (together l).2]) σ nx:=by
 refine spec_keep Tryz.func249 rfl rfl (by simp [Tryz.f249]) (by simp [bnd,bnd.bndL,Node.a,Node.cs]) fun hk B hB hnx hσB=>?_
 simp only [Tryz.f249] at hB ⊢
 have hil:(nodesT l).length=l.length:=List.length_map _
 have hgt:∀(k:Nat) (h:k<l.length),(nodesT l)[k]'(by rw [hil];exact h)=l[k].t:=fun k h=>nodesT_get l h
 have hmost:mostLen=4294967296:=rfl
 generalize hX:nodesT l=X at *
 have m1:¬r=nx:=by omega
 have m2:¬r=nx+1:=by omega
 have m3:¬r=nx+2:=by omega
 refine K_run hB 100 ?_
 simp [go_sem,hσr,hil,m1,m2]
 refine K_own 5 8 (by simp [go_sem]) ?_
 refine K_less (Imp.looseB (b:=nx+1) (cs:=[.i 0,.i 0,.i 0,.i 0,.i 0,.u 0,.u 0,.u 0,.i 0,.fsl []]) (by simp [oput])) ?_
 refine K_loopP (α:=Nat×Nat×(Nat→AObj)×Nat) (fun (k,q,τ,ny)=>k≤l.length∧τ (nx+1)= .box (nodeC State.zero (costL (l.take k)) (.t (.sl [])))∧τ q= .arr 8 ((l.map fun n=>n.s.row).take k)∧nx+2≤q∧q<ny∧τ nx= .box (nodeC State.zero 0 (.fsl []))∧∀i,i<nx→τ i=σ i)
  (fun (k,q,τ,ny)=>⟨sl [(2,.ptr nx 0),(3,.b false),(4,.ptr (nx+1) 0),(5,.ref q),(9,.ref r),(10,.i l.length),(11,.i k)],τ,ny⟩) (fun a=>l.length-a.1) (0,nx+2,_,nx+3) ?_ (Imp.slots (by simp [go_sem]) rfl rfl) ?_
 ·refine ⟨Nat.zero_le _,by simp [oput,loosen,State.zero,costL],by simp [oput],by omega,by omega,by simp [oput,State.zero,show ¬nx=nx+1+1 by omega],fun i h=>by simp [oput,show ¬i=nx by omega,show ¬i=nx+1 by omega,show ¬i=nx+2 by omega]⟩
 rintro ⟨k,q,τ,ny⟩ ⟨g1,g2,g3,g4,g5,g6,g7⟩
 have hτr:τ r= .arr 10 X:=(g7 r hr).trans hσr
 have n1:¬r=ny:=by omega
 have n2:¬nx+1=ny:=by omega
 have n3:¬q=ny:=by omega
 have n4:¬nx=ny:=by omega
 have n5:¬nx+1=q:=by omega
 have n6:¬ny=nx+1:=by omega
 have n7:¬q=nx+1:=by omega
 refine K_run hB 60 ?_
 simp [go_sem]
 refine fork_dec (fun hk=>?_) (fun hk=>?_)
 ·have hkk:IntKind.i64.wrap ((k:Int)+1)=((k+1:Nat):Int):=by rw [w64 ((k:Int)+1) (by omega)];rfl
  have hget:∀h:k<X.length,X[k]'h=l[k].t:=fun h=>hgt k hk
  have htk:l.take (k+1)=l.take k++[l[k]]:=List.take_succ_eq_append_getElem hk
  have hcs:=costL_snoc (l.take k) l[k]
  rw [←htk] at hcs
  have hnil:l.take k=[]↔k=0:=by
   rw [List.take_eq_nil_iff]
   constructor
   ·rintro (h | h)
    ·exact h
    ·rw [h] at hk;simp at hk
   ·exact fun h=>.inl h
  simp only [hnil] at hcs
  have hrow:(l.map fun n=>n.s.row).take k++[l[k].s.row]=(l.map fun n=>n.s.row).take (k+1):=by
   rw [List.take_succ_eq_append_getElem (by rw [List.length_map];exact hk),List.getElem_map]
  have hlen:((l.map fun n=>n.s.row).take k).length=k:=by rw [List.length_take,List.length_map];omega
  generalize (l.map fun n=>n.s.row).take k=rows at *
  generalize costL (l.take k)=c at *
  generalize l[k]=m at *
  have hcap:k+1≤mostLen:=by omega
  by_cases c0:k=0
  ·rw [if_pos (.inl c0)] at hcs
   have hd:decide (k=0)=true:=decide_eq_true c0
   simp [go_sem,hil,hk,hget,Node.t,hτr,n1,n2,n3,n4,n5,n6,n7,g2,g3,hd,hlen,hcap,hkk]
   refine Next.mk (k+1,ny+1,_,ny+2) ?_ (Imp.slots (by simp [go_sem]) rfl rfl) (by simp only;omega)
   refine ⟨by simp only;omega,by simp [oput,n4,n2,n3,n5,hcs,State.zero],by simp only [oput,if_true];rw [←hrow];rfl,by simp only;omega,by simp only;omega,by simp [oput,n4,g6,State.zero,show ¬nx=q by omega,show ¬nx=ny+1 by omega],fun i h=>by simp [oput,show ¬i=ny by omega,show ¬i=nx+1 by omega,show ¬i=q by omega,show ¬i=ny+1 by omega,g7 i h]⟩
  by_cases c1:m.cost<c
  ·rw [if_pos (.inr c1)] at hcs
   simp [go_sem,hil,hk,hget,Node.t,hτr,n1,n2,n3,n4,n5,n6,n7,g2,g3,c0,c1,hlen,hcap,hkk]
   refine Next.mk (k+1,ny+1,_,ny+2) ?_ (Imp.slots (by simp [go_sem]) rfl rfl) (by simp only;omega)
   refine ⟨by simp only;omega,by simp [oput,n4,n2,n3,n5,hcs,State.zero],by simp only [oput,if_true];rw [←hrow];rfl,by simp only;omega,by simp only;omega,by simp [oput,n4,g6,State.zero,show ¬nx=q by omega,show ¬nx=ny+1 by omega],fun i h=>by simp [oput,show ¬i=ny by omega,show ¬i=nx+1 by omega,show ¬i=q by omega,show ¬i=ny+1 by omega,g7 i h]⟩
  ·rw [if_neg (by rintro (h | h);exact c0 h;exact c1 h)] at hcs
   simp [go_sem,hil,hk,hget,Node.t,hτr,n1,n2,n3,n4,n5,n6,n7,g2,g3,c0,c1,hlen,hcap,hkk]
   refine Next.mk (k+1,ny+1,_,ny+2) ?_ (Imp.slots (by simp [go_sem]) rfl rfl) (by simp only;omega)
   refine ⟨by simp only;omega,by simp [oput,n4,n2,n3,n5,hcs,State.zero,g2],by simp only [oput,if_true];rw [←hrow];rfl,by simp only;omega,by simp only;omega,by simp [oput,n4,g6,State.zero,show ¬nx=q by omega,show ¬nx=ny+1 by omega],fun i h=>by simp [oput,show ¬i=ny by omega,show ¬i=nx+1 by omega,show ¬i=q by omega,show ¬i=ny+1 by omega,g7 i h]⟩
 ·have:k=l.length:=by omega
  subst this
  rw [List.take_length] at g2
  rw [List.take_of_length_le (by simp)] at g3
  have hjs:=fun (τ':Nat→AObj) (h1:τ' q= .arr 8 ((l.map fun n=>n.s).map State.row))=>join_spec (l.map fun n=>n.s) (by rw [List.length_map];exact hl) (fun t ht=>by
   obtain ⟨n,hn,rfl⟩:=List.mem_map.1 ht
   exact hlo n hn) (σ:=τ') (nx:=ny) (r:=q) g5 h1
  have htg:together l=(⟨(joinL (l.map fun n=>n.s)).1,costL l,[]⟩,(joinL (l.map fun n=>n.s)).2):=rfl
  generalize together l=TG at *
  generalize joinL (l.map fun n=>n.s)=J at *
  generalize costL l=c at *
  subst htg
  simp [go_sem]
  refine K_call rfl rfl rfl (args:=[.ref q]) (f:=263) (by simp [go_sem]) (by simp [go_sem,hB]) (hjs _ (by rw [List.map_map];exact g3)) ?_
  refine K_run hB 100 ?_
  simp [go_sem,State.a,State.cs,g2,g6,nodeC]
  exact ⟨by omega,fun i h=>by simp [show ¬i=nx by omega,show ¬i=nx+1 by omega,g7 i h],rfl⟩
end Go.Proofs.YtackfabapangdaaGreat
