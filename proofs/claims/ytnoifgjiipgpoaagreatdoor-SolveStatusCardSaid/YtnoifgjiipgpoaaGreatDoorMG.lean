/- Parts of the proof: Ways, ToursP, PlansP, PlanR, SortW3, SortW4, SortW5, Front, Front2, Front3, Sorted, Narrow, Find. -/
import Derived.Test.YtnoifgjiipgpoaaGreatDoorMF
set_option linter.all false
set_option maxHeartbeats 4000000
set_option maxRecDepth 4000
namespace Go.Proofs.YtnoifgjiipgpoaaGreatDoor
open Go Go.Proofs.YtnoifgjiipgpoaaGreatDoor.R
def Inst.way (x:Inst):List Int→State→Int→Prop
 |[],s,c=>(x.endS s).2=true∧c=(x.endS s).1
 |j :: l,s,c=>(x.move s j).2.2=true∧∃d,x.way l (x.move s j).1 d∧c=(x.move s j).2.1+d
theorem way_in {x:Inst}:∀{l:List Int} {s:State} {c:Int},x.way l s c→0≤c∧c≤14143*(l.length+1)
 |[],s,c,h=>by
  have:=end_cost h.1
  have:=h.2
  simp only [List.length_nil]
  omega
 |j :: l,s,c,h=>by
  obtain ⟨h1,d,h2,h3⟩:=h
  have:=way_in h2
  have:=move_cost h1
  rw [List.length_cons]
  omega
theorem way_len {x:Inst}:∀{l:List Int} {s:State} {c:Int},x.way l s c→l.length≤x.meas s
 |[],s,c,h=>Nat.zero_le _
 |j :: l,s,c,h=>by
  obtain ⟨h1,d,h2,h3⟩:=h
  have:=way_len h2
  have:=meas_move h1
  rw [List.length_cons]
  omega
theorem way_low {x:Inst}:∀{l:List Int} {s:State} {c:Int},s.seenAt→x.way l s c→lowP x.near s.can≤c
 |[],s,c,_,h=>by rw [h.2];exact low_end h.1
 |j :: l,s,c,hs,h=>by
  obtain ⟨h1,d,h2,h3⟩:=h
  have:=way_low (seen_step h1) h2
  have:=low_step hs h1
  omega
theorem way_app {x:Inst}:∀{l:List Int} {s t:State} {c0 c1:Int} {m:List Int} {d:Int},0≤c0→c0+14143*l.length<9223372036854775808→x.goes l s c0=some (t,c1)→x.way m t d→x.way (l++m) s (c1-c0+d)
 |[],s,t,c0,c1,m,d,_,_,h,he=>by
  rw [Inst.goes] at h
  cases h
  have:c0-c0+d=d:=by omega
  rw [this]
  exact he
 |j :: l,s,t,c0,c1,m,d,h0,hl,h,he=>by
  rw [Inst.goes] at h
  split at h
  ·rename_i hm
   have hc:=move_cost hm
   rw [List.length_cons] at hl
   rw [w64 _ (by omega)] at h
   exact ⟨hm,_,way_app (by omega) (by omega) h he,by omega⟩
  ·cases h
structure State.Pos (s:State):Prop where
 car:1≤s.car
 time:0≤s.time
 load:0≤s.load
theorem within_with {a b k:Nat} (hk:k≤63) (h:withinB a b=true):withinB (withN a k) (withN b k)=true:=by
 rw [withinB,List.all_eq_true] at *
 intro i hi
 have:=h i hi
 rw [with_bit hk,with_bit hk]
 revert this
 cases a.testBit i<;>cases b.testBit i<;>cases decide (k=i)<;>simp
theorem within_without {a b k:Nat} (hk:k≤63) (h:withinB a b=true):withinB (withoutN a k) (withoutN b k)=true:=by
 rw [withinB,List.all_eq_true] at *
 intro i hi
 have:=h i hi
 have hi':=List.mem_range.1 hi
 rw [without_bit hk hi',without_bit hk hi']
 revert this
 cases a.testBit i<;>cases b.testBit i<;>cases decide (k=i)<;>simp
theorem within_zero {a:Nat} (ha:a<2^64) (h:withinB a 0=true):a=0:=by
 refine Nat.eq_of_testBit_eq fun i=>?_
 by_cases hi:i<64
 ·rw [withinB,List.all_eq_true] at h
  have:=h i (List.mem_range.2 hi)
  revert this
  cases a.testBit i<;>simp
 ·rw [Nat.zero_testBit]
  exact Nat.testBit_lt_two_pow (Nat.lt_of_lt_of_le ha (Nat.pow_le_pow_right (by omega) (by omega)))
theorem cov_mk {a b:State} (e1:a.spot=b.spot) (e2:withinB a.must b.must=true) (e3:withinB a.on b.on=true) (e4:withinB b.can a.can=true) (e5:a.car≤b.car) (e6:a.time≤b.time) (e7:a.load≤b.load) (e8:a.first≤b.first):coversB a b=true:=by
 simp only [coversB,Bool.and_eq_true,decide_eq_true_eq]
 exact ⟨⟨⟨⟨⟨⟨⟨e1,e2⟩,e3⟩,e4⟩,e5⟩,e6⟩,e7⟩,e8⟩
theorem cov_may {x:Inst} {a b:State} (h:coversB a b=true) (hp:a.Pos) (hb:b.mayB x=true):a.mayB x=true:=by
 simp only [coversB,Bool.and_eq_true,decide_eq_true_eq] at h
 simp only [State.mayB,Bool.and_eq_true,decide_eq_true_eq] at hb ⊢
 have:=hp.car
 have:=hp.time
 have:=hp.load
 omega
theorem cov_home {x:Inst} {a b:State} (hcov:coversB a b=true) (hp:a.Pos) (ho:a.ok) (h:(x.move b 0).2.2=true):
  x.move a 0=(x.homeS a,far (x.stop b.spot) (x.stop 0),true)∧coversB (x.homeS a) (x.homeS b)=true∧(x.homeS a).Pos:=by
 have hc:=hcov
 simp only [coversB,Bool.and_eq_true,decide_eq_true_eq] at hc
 obtain ⟨⟨⟨⟨⟨⟨⟨e1,e2⟩,e3⟩,e4⟩,e5⟩,e6⟩,e7⟩,e8⟩:=hc
 obtain ⟨h1,h2,h3,h4⟩:=move_home h
 obtain ⟨p,hx⟩:=x.fit h1
 have hpp:=hx.pairs
 have ha:=cov_may hcov hp h2
 have hs:x.stayB a=false:=by
  simp only [Inst.stayB,Bool.or_eq_false_iff,decide_eq_false_iff_not] at h3 ⊢
  obtain ⟨⟨⟨⟨a1,a2⟩,a3⟩,a4⟩,a5⟩:=h3
  have hon:a.on=0:=by
   have:b.on=0:=by omega
   rw [this] at e3
   exact within_zero ho.on e3
  refine ⟨⟨⟨⟨by rw [e1];exact a1,by omega⟩,by omega⟩,?_⟩,by rw [e1];omega⟩
  cases hq:x.allB a.must with
  |false=>rfl
  |true=>
   have:=within_trans hq e2
   rw [Inst.allB] at a4
   rw [a4] at this
   cases this
 have hto:x.to a 0=(x.homeS a,true):=by rw [Inst.to,if_pos rfl,Inst.home,if_neg (by rw [hs];simp)]
 have hmv:=move_mk (j:=0) h1 ha (by omega) (by rw [hto])
 rw [hto,e1] at hmv
 have h5:=(hx.at (j:=0) (by omega) (by omega)).ready
 have h6:=hp.car
 refine ⟨hmv,cov_mk (a:=x.homeS a) (b:=x.homeS b) rfl e2 e3 e4 ?_ ?_ ?_ e8,⟨?_,?_,?_⟩⟩<;>simp only [Inst.homeS]<;>omega
theorem cov_pos {x:Inst} {a b:State} {j:Int} (hj:j≠0) (hcov:coversB a b=true) (hp:a.Pos) (h:(x.move b j).2.2=true):
  x.move a j=(x.rvisit a j (x.begins a j),far (x.stop b.spot) (x.stop j),true)∧coversB (x.rvisit a j (x.begins a j)) (x.rvisit b j (x.begins b j))=true∧(x.rvisit a j (x.begins a j)).Pos:=by
 have hc:=hcov
 simp only [coversB,Bool.and_eq_true,decide_eq_true_eq] at hc
 obtain ⟨⟨⟨⟨⟨⟨⟨e1,e2⟩,e3⟩,e4⟩,e5⟩,e6⟩,e7⟩,e8⟩:=hc
 obtain ⟨h1,h2,h3,h4,h5,h6,h7,h8⟩:=move_pos h hj
 obtain ⟨p,hx⟩:=x.fit h1
 have hpp:=hx.pairs
 have hfew:=hx.few
 have ha:=cov_may hcov hp h2
 have hbe:x.begins a j≤x.begins b j:=by
  unfold Inst.begins
  rw [e1]
  omega
 have k1:x.lateB a j=false:=by
  simp only [Inst.lateB,Bool.or_eq_false_iff,decide_eq_false_iff_not] at h5 ⊢
  refine ⟨?_,by omega⟩
  cases hq:hasB a.must j with
  |false=>rfl
  |true=>
   have:=within_has e2 j hq
   rw [h5.1] at this
   cases this
 have k2:j≤x.pairs→x.fullB a j=false:=fun hh=>by
  have:=h6 hh
  simp only [Inst.fullB,Bool.or_eq_false_iff,Bool.and_eq_false_iff,decide_eq_false_iff_not] at this ⊢
  refine ⟨by omega,?_⟩
  rcases this.2 with h9 | h9
  ·exact .inl (by rw [e1];exact h9)
  ·exact .inr (by omega)
 have k3:x.pairs<j→x.emptyB a j=false:=fun hh=>by
  have:=h7 hh
  simp only [Inst.emptyB,Bool.or_eq_false_iff,Bool.not_eq_false',decide_eq_false_iff_not] at this ⊢
  exact ⟨by rw [e1];exact this.1,within_has e4 _ this.2⟩
 have hto:=to_visit (x:=x) (s:=a) hj k1 k2 k3
 have hmv:=move_mk (j:=j) h1 ha (by omega) (by rw [hto])
 rw [hto,e1] at hmv
 have h9:=(hx.at (j:=j) (by omega) (by omega)).service
 have h10:=(far_le (x.stop a.spot) (x.stop j)).1
 have h11:=hp.time
 have h12:=hp.car
 have h13:0≤x.begins a j:=by unfold Inst.begins;omega
 obtain ⟨k,hk⟩:∃k:Nat,j=k:=⟨j.toNat,by omega⟩
 refine ⟨hmv,?_,⟨?_,?_,?_⟩⟩
 ·generalize x.begins a j=ta at *
  generalize x.begins b j=tb at *
  generalize x.stop j=sj at *
  refine cov_mk ?_ ?_ ?_ ?_ ?_ ?_ ?_ ?_
  ·simp only [Inst.rvisit]
  ·simp only [Inst.rvisit]
   rw [hk]
   exact within_with (by omega) e2
  ·simp only [Inst.rvisit]
   rw [hk]
   split
   ·exact within_with (by omega) e3
   ·obtain ⟨q,hq⟩:∃q:Nat,(k:Int)-x.pairs=q:=⟨((k:Int)-x.pairs).toNat,by omega⟩
    rw [hq]
    exact within_without (by omega) e3
  ·simp only [Inst.rvisit]
   rw [hk]
   exact within_with (by omega) e4
  ·simp only [Inst.rvisit]
   exact e5
  ·simp only [Inst.rvisit]
   omega
  ·simp only [Inst.rvisit]
   omega
  ·simp only [Inst.rvisit]
   rw [e1]
   split
   ·exact Int.le_refl _
   ·exact e8
 ·simp only [Inst.rvisit];exact h12
 ·simp only [Inst.rvisit];omega
 ·simp only [Inst.rvisit];omega
theorem cov_move {x:Inst} {a b:State} {j:Int} (hc:coversB a b=true) (hp:a.Pos) (ho:a.ok) (h:(x.move b j).2.2=true):
  (x.move a j).2.2=true∧(x.move a j).2.1=(x.move b j).2.1∧coversB (x.move a j).1 (x.move b j).1=true∧(x.move a j).1.Pos:=by
 by_cases hj:j=0
 ·subst hj
  obtain ⟨g1,g2,g3⟩:=cov_home hc hp ho h
  rw [g1,(move_home h).2.2.2]
  exact ⟨rfl,rfl,g2,g3⟩
 ·obtain ⟨g1,g2,g3⟩:=cov_pos hj hc hp h
  rw [g1,(move_pos h hj).2.2.2.2.2.2.2]
  exact ⟨rfl,rfl,g2,g3⟩
theorem cov_end {x:Inst} {a b:State} (h0:x.pairs≠0) (hc:coversB a b=true) (hp:a.Pos) (ho:a.ok) (h:(x.endS b).2=true):(x.endS a).2=true∧(x.endS a).1=(x.endS b).1:=by
 have hcov:=hc
 simp only [coversB,Bool.and_eq_true,decide_eq_true_eq] at hc
 obtain ⟨⟨⟨⟨⟨⟨⟨e1,e2⟩,e3⟩,e4⟩,e5⟩,e6⟩,e7⟩,e8⟩:=hc
 obtain ⟨h1,h2 | ⟨h2,h3,h4,h5,h6,h7⟩⟩:=end_is h
 ·exact absurd h2.1 h0
 ·have hon:a.on=0:=by
   rw [h4] at e3
   exact within_zero ho.on e3
  have hend:x.endS a=(far (x.stop a.spot) (x.stop 0),true):=by
   rw [Inst.endS,if_neg (by simp [h1]),if_neg (fun h=>h0 h.1),if_pos]
   refine ⟨cov_may hcov hp h2,by rw [e1];exact h3,hon,?_,by rw [e1];omega⟩
   exact within_trans h5 e4
  rw [hend,h7,e1]
  exact ⟨rfl,rfl⟩
theorem cov_way {x:Inst} (h0:x.pairs≠0):∀{l:List Int} {a b:State} {c:Int},coversB a b=true→a.Pos→a.ok→x.way l b c→x.way l a c
 |[],a,b,c,hc,hp,ho,h=>by
  obtain ⟨h1,h2⟩:=cov_end h0 hc hp ho h.1
  exact ⟨h1,by rw [h2];exact h.2⟩
 |j :: l,a,b,c,hc,hp,ho,h=>by
  obtain ⟨h1,d,h2,h3⟩:=h
  obtain ⟨g1,g2,g3,g4⟩:=cov_move hc hp ho h1
  exact ⟨g1,d,cov_way h0 g3 g4 (move_ok x j ho) h2,by omega⟩
theorem pos_move {x:Inst} {s:State} {j:Int} (hp:s.Pos) (ho:s.ok) (h:(x.move s j).2.2=true):(x.move s j).1.Pos:=(cov_move (covers_refl s) hp ho h).2.2.2
theorem pos_root {x:Inst} (h:x.may=true):x.rootS.Pos:=by
 obtain ⟨p,hx⟩:=x.fit h
 have:=(hx.at (j:=0) (by omega) (by omega)).ready
 rw [Inst.rootS,if_pos h]
 exact ⟨Int.le_refl _,this.1,Int.le_refl _⟩
theorem move_pairs {x:Inst} {s:State} {j:Int} (h:(x.move s j).2.2=true):x.pairs≠0:=by
 by_cases hj:j=0
 ·subst hj
  obtain ⟨h1,h2,h3,h4⟩:=move_home h
  simp only [Inst.stayB,Bool.or_eq_false_iff,decide_eq_false_iff_not] at h3
  simp only [State.mayB,Bool.and_eq_true,decide_eq_true_eq] at h2
  omega
 ·have:=move_pos h hj
  omega
end Go.Proofs.YtnoifgjiipgpoaaGreatDoor

set_option maxRecDepth 4000
namespace Go.Proofs.YtnoifgjiipgpoaaGreatDoor
open Go Go.Proofs.YtnoifgjiipgpoaaGreatDoor.R
structure Sim1 (x:Inst) (p m0:Nat) (s:State) (c:Car) (k:Nat):Prop where
 spot:c.spot=s.spot
 now:c.now=s.time
 load:c.load=s.load
 on:c.on=s.on
 seen:∀i,1≤i→i≤2*p→s.must.testBit i=(m0.testBit i||c.seen.testBit i)
 old:∀i,1≤i→i≤p→m0.testBit i=true→m0.testBit (i+p)=true
 fit:c.Fit p k
 good:Good x p s
theorem Sim1.step {x:Inst} {p m0 k:Nat} {s:State} {c:Car} {j:Int} (hx:x.Fit p) (h:Sim1 x p m0 s c k) (hj:j≠0) (hm:(x.move s j).2.2=true):
  (x.visitC c j).2=0∧Sim1 x p m0 (x.move s j).1 (x.visitC c j).1 (k+1)∧(x.visitC c j).1.gone=c.gone+(x.move s j).2.1:=by
 obtain ⟨g1,g2,g3,g4,g5,g6⟩:=good_step hx h.good hm
 obtain ⟨m1,m2,m3,m4,m5,m6,m7,m8⟩:=move_pos hm hj
 have hp:=hx.pairs
 have hfew:=hx.few
 obtain ⟨i,rfl⟩:∃i:Nat,j=i:=⟨j.toNat,by omega⟩
 simp only [Inst.lateB,Bool.or_eq_false_iff,decide_eq_false_iff_not] at m5
 rw [has_testN (by omega)] at m5
 have hs:=h.seen i (by omega) (by omega)
 rw [m5.1] at hs
 have hv:x.visitsE c i=0:=by
  rw [Inst.visitsE,if_neg (by omega),if_neg,if_neg,if_neg]
  ·rw [h.load]
   by_cases hi:(i:Int)≤x.pairs
   ·have:=m6 hi
    simp only [Inst.fullB,Bool.or_eq_false_iff,decide_eq_false_iff_not] at this
    omega
   ·have hb:=hx.bring (k:=i-p) (by omega) (by omega)
    have ht:=hx.take (k:=i-p) (by omega) (by omega)
    have hr:=h.good.room
    rw [show i-p+p=i by omega] at hb
    omega
  ·rintro ⟨hi,hq⟩
   have:=m7 hi
   simp only [Inst.emptyB,Bool.or_eq_false_iff,Bool.not_eq_false',decide_eq_false_iff_not] at this
   have e:(i:Int)-x.pairs=((i-p:Nat):Int):=by omega
   rw [e] at this hq
   rw [has_testN (by omega),h.good.eq] at this
   rw [has_testN (by omega)] at hq
   have h1:=h.seen (i-p) (by omega) (by omega)
   rw [this.2,hq,Bool.or_false] at h1
   have h2:=h.old (i-p) (by omega) (by omega) h1.symm
   rw [show i-p+p=i by omega] at h2
   rw [h2] at hs
   cases hs
  ·rw [has_testN (by omega)]
   intro hq
   rw [hq,Bool.or_true] at hs
   cases hs
 have hfar:x.visitC c i=({spot:=i,now:=x.begins s i+(x.stop i).service,gone:=c.gone+far (x.stop s.spot) (x.stop i),load:=s.load+(x.stop i).demand,seen:=withN c.seen i,on:=if (i:Int)≤x.pairs then withN s.on i else withoutN s.on (i-x.pairs),times:=c.times++[[.i (s.time+far (x.stop s.spot) (x.stop i)),.i (x.begins s i),.i (x.begins s i+(x.stop i).service)]],loads:=c.loads++[s.load+(x.stop i).demand]},0):=by
  rw [Inst.visitC,if_neg (by simp [hv]),h.spot,h.now,h.load,h.on,if_neg]
  ·rfl
  ·have:=m5.2
   unfold Inst.begins at this
   exact this
 have hfit:=visitC_fit hx h.fit (i:=i) (by rw [hfar])
 rw [hfar] at hfit ⊢
 rw [if_pos (by omega)] at g4 g6
 refine ⟨rfl,⟨?_,?_,?_,?_,?_,h.old,hfit,g1⟩,?_⟩
 ·rw [m8];rfl
 ·rw [m8];rfl
 ·rw [g6]
 ·rw [m8];rfl
 ·intro n n1 n2
  rw [g4,with_bit (by omega),with_bit (by omega),h.seen n n1 n2,Bool.or_assoc]
 ·rw [m8]
def MatchS (p must:Nat) (seen:List Int):Prop:=seen.length=2*p+1∧∀i (h:i<seen.length),seen[i]=if 1≤i∧must.testBit i=true then 1 else 0
theorem MatchS.bump {p must:Nat} {seen:List Int} (h:MatchS p must seen) {j:Nat} (h1:1≤j) (h2:j≤2*p) (h64:j≤63) (hn:must.testBit j=false):MatchS p (withN must j) (bump seen j):=by
 obtain ⟨hl,hs⟩:=h
 refine ⟨by rw [bump_len];exact hl,fun i hi=>?_⟩
 have hi':i<seen.length:=by rw [bump_len] at hi;exact hi
 have e:seen.getD j 0=seen[j]:=by rw [List.getD_eq_getElem?_getD,List.getElem?_eq_getElem (by omega)];rfl
 have h0:=hs j (by omega)
 rw [if_neg (by simp [hn])] at h0
 simp only [Go.Proofs.YtnoifgjiipgpoaaGreatDoor.bump,Int.toNat_natCast,e,h0,List.getElem_set,with_bit h64]
 by_cases hji:j=i
 ·subst hji
  simp [h1]
 ·rw [if_neg hji,hs i hi']
  simp [hji]
theorem MatchS.end {p must:Nat} {seen:List Int} (h:MatchS p must seen) (ha:∀i,1≤i→i≤2*p→must.testBit i=true):(seen.any fun n=>decide (1<n))=false∧((seen.drop 1).any fun n=>decide (n=0))=false:=by
 obtain ⟨hl,hs⟩:=h
 constructor
 ·rw [List.any_eq_false]
  intro n hn
  obtain ⟨i,hi,rfl⟩:=List.mem_iff_getElem.1 hn
  rw [hs i hi]
  split<;>simp
 ·rw [List.any_eq_false]
  intro n hn
  obtain ⟨i,hi,rfl⟩:=List.mem_iff_getElem.1 hn
  rw [List.getElem_drop,hs (1+i) (by rw [List.length_drop] at hi;omega),if_pos ⟨by omega,ha _ (by omega) (by rw [List.length_drop] at hi;omega)⟩]
  simp
theorem runC_cons {x:Inst} {i:Int} {r:List Int} {c:Car} (h:(x.visitC c i).2=0):x.runC (i :: r) c=x.runC r (x.visitC c i).1:=by
 rw [Inst.runC,if_neg (by simp [h])]
theorem route_rest {x:Inst} {p m0:Nat} (hx:x.Fit p) (h0:x.pairs≠0):∀(path:List Int) (s:State) (c:Car) (k:Nat) (d:Int),Sim1 x p m0 s c k→s.spot≠0→x.way path s d→
  ∃r rest c',path=r++rest∧(∀i∈r,0<i)∧x.runC r c=(c',0)∧
   ((rest=[]∧d=c'.gone-c.gone∧∀seen,MatchS p s.must seen→∃must,MatchS p must (r.foldl bump seen)∧∀i,1≤i→i≤2*p→must.testBit i=true)∨
    (∃path' s' d',rest=0 :: path'∧d=c'.gone-c.gone+d'∧x.way path' s' d'∧s'.spot=0∧s'.on=0∧s'.load=0∧s'.time=(x.stop 0).ready∧s'.first=s.first∧s'.car=s.car+1∧s.car<x.cars∧Good x p s'∧∀seen,MatchS p s.must seen→MatchS p s'.must (r.foldl bump seen)))
 |[],s,c,k,d,hs,hsp,hw=>by
  obtain ⟨w1,w2⟩:=hw
  obtain ⟨e1,e2 | ⟨e2,e3,e4,e5,e6,e7⟩⟩:=end_is w1
  ·exact absurd e2.1 h0
  ·refine ⟨[],[],x.drive c 0,rfl,by simp,?_,.inl ⟨rfl,?_,fun seen hm=>⟨s.must,hm,fun i i1 i2=>?_⟩⟩⟩
   ·rw [Inst.runC,Inst.homeC,hs.on,hs.now,hs.spot,if_neg (by simp [e4]),if_neg (by omega)]
   ·rw [w2,e7]
    show _=c.gone+far (x.stop c.spot) (x.stop 0)-c.gone
    rw [hs.spot]
    simp only
    omega
   ·rw [←hs.good.eq]
    exact Inst.all_bit hx e5 i1 i2
 |j :: path,s,c,k,d,hs,hsp,hw=>by
  obtain ⟨w1,d',w2,w3⟩:=hw
  by_cases hj:j=0
  ·subst hj
   obtain ⟨g1,g2,g3,g4⟩:=move_home w1
   have hgs:=(good_step hx hs.good w1).1
   simp only [Inst.stayB,Bool.or_eq_false_iff,decide_eq_false_iff_not] at g3
   obtain ⟨⟨⟨⟨a1,a2⟩,a3⟩,a4⟩,a5⟩:=g3
   rw [g4] at w2 w3 hgs
   have hon:s.on=0:=by omega
   refine ⟨[],0 :: path,x.drive c 0,rfl,by simp,?_,.inr ⟨path,x.homeS s,d',rfl,?_,w2,rfl,hon,rfl,rfl,rfl,rfl,by omega,hgs,fun seen hm=>hm⟩⟩
   ·rw [Inst.runC,Inst.homeC,hs.on,hs.now,hs.spot,if_neg (by simp [hon]),if_neg (by omega)]
   ·show _=c.gone+far (x.stop c.spot) (x.stop 0)-c.gone+d'
    rw [hs.spot,w3]
    simp only
    omega
  ·obtain ⟨v1,v2,v3⟩:=hs.step hx hj w1
   obtain ⟨b1,b2,b3,b4,_,_⟩:=good_step hx hs.good w1
   obtain ⟨_,_,p3,p4,p5,_,_,m8⟩:=move_pos w1 hj
   have hfew:=hx.few
   rw [if_pos p3] at b4
   have hsp':(x.move s j).1.spot≠0:=by rw [m8];exact hj
   have hfi:(x.move s j).1.first=s.first:=by rw [m8];show (if s.spot=0 then j else s.first)=s.first;rw [if_neg hsp]
   have hca:(x.move s j).1.car=s.car:=by rw [m8];rfl
   obtain ⟨r,rest,c',q1,q2,q3,q4⟩:=route_rest hx h0 path _ _ _ d' v2 hsp' w2
   have hmt:∀seen,MatchS p s.must seen→MatchS p (x.move s j).1.must (bump seen j):=fun seen hm=>by
    obtain ⟨i,rfl⟩:∃i:Nat,j=i:=⟨j.toNat,by omega⟩
    simp only [Inst.lateB,Bool.or_eq_false_iff] at p5
    have:=p5.1
    rw [has_testN (by omega)] at this
    rw [b4]
    exact hm.bump (by omega) (by omega) (by omega) this
   refine ⟨j :: r,rest,c',by rw [q1];rfl,fun i hi=>?_,by rw [runC_cons v1];exact q3,?_⟩
   ·rcases List.mem_cons.1 hi with rfl | hi
    ·exact p3
    ·exact q2 i hi
   ·rcases q4 with ⟨t1,t2,t3⟩ | ⟨path',s',d2,t1,t2,t3,t4,t5,t6,t7,t8,t9,t10,t11,t12⟩
    ·exact .inl ⟨t1,by omega,fun seen hm=>t3 _ (hmt seen hm)⟩
    ·exact .inr ⟨path',s',d2,t1,by omega,t3,t4,t5,t6,t7,by rw [t8,hfi],by rw [t9,hca],by omega,t11,fun seen hm=>t12 _ (hmt seen hm)⟩
theorem idx_none:∀(l:List Int) (k:Nat),(∀i∈l,0<i)→idxI lowI k l= -1
 |[],_,_=>rfl
 |i :: l,k,h=>by
  have:=h i List.mem_cons_self
  rw [idxI,if_neg (by simp [lowI];omega)]
  exact idx_none l (k+1) fun j hj=>h j (List.mem_cons_of_mem _ hj)
theorem idx_zero:∀(l m:List Int) (k:Nat),(∀i∈l,0<i)→idxI lowI k (l++0 :: m)=((k+l.length:Nat):Int)
 |[],m,k,_=>by rw [List.nil_append,idxI,if_pos (by simp [lowI])];simp
 |i :: l,m,k,h=>by
  have:=h i List.mem_cons_self
  rw [List.cons_append,idxI,if_neg (by simp [lowI];omega),idx_zero l m (k+1) fun j hj=>h j (List.mem_cons_of_mem _ hj),List.length_cons]
  congr 1
  omega
theorem yard_split {x:Inst} {p:Nat} (hx:x.Fit p) (hm:x.may=true) (h0:x.pairs≠0):∀(f:Nat) (path:List Int) (s:State) (d:Int) (acc:List (List Int)),path.length<f→s.spot=0→s.on=0→s.load=0→s.time=(x.stop 0).ready→Good x p s→x.way path s d→
  path≠[]∧∃routes,splitF f path s.first false acc=(acc++routes,0)∧(routes.length:Int)+s.car≤x.cars+1∧∀all seen,MatchS p s.must seen→x.costGo routes all seen=(all+d,0)
 |0,path,s,d,acc,hf,_,_,_,_,_,_=>absurd hf (by omega)
 |f+1,[],s,d,acc,_,hsp,_,_,_,_,hw=>by
  obtain ⟨w1,w2⟩:=hw
  obtain ⟨e1,e2 | ⟨e2,e3,_⟩⟩:=end_is w1
  ·exact absurd e2.1 h0
  ·exact absurd hsp e3
 |f+1,j :: path,s,d,acc,hf,hsp,hon,hld,hti,hg,hw=>by
  refine ⟨by simp,?_⟩
  obtain ⟨w1,d1,w2,w3⟩:=hw
  have hj:j≠0:=by
   intro e
   subst e
   obtain ⟨_,_,g3,_⟩:=move_home w1
   simp [Inst.stayB,hsp] at g3
  have hs:Sim1 x p s.must s x.car0 0:=by
   refine ⟨hsp.symm,hti.symm,hld.symm,hon.symm,fun i _ _=>by simp [Inst.car0],fun i i1 i2 h=>?_,car0_fit hx,hg⟩
   have:=hg.on i i1 i2
   rw [hon,Nat.zero_testBit,h] at this
   simpa using this.symm
  obtain ⟨v1,v2,v3⟩:=hs.step hx hj w1
  obtain ⟨b1,b2,b3,b4,_,_⟩:=good_step hx hg w1
  obtain ⟨_,hmay,p3,p4,p5,p6,p7,m8⟩:=move_pos w1 hj
  have hfew:=hx.few
  have hp:=hx.pairs
  rw [if_pos p3] at b4
  have hjp:j≤x.pairs:=by
   by_cases c:j≤x.pairs
   ·exact c
   ·have:=p7 (by omega)
    simp [Inst.emptyB,hsp] at this
  have hfirst:s.first<j:=by
   have:=p6 hjp
   simp only [Inst.fullB,Bool.or_eq_false_iff,Bool.and_eq_false_iff,decide_eq_false_iff_not] at this
   rcases this.2 with h | h
   ·exact absurd hsp h
   ·omega
  have hsp':(x.move s j).1.spot≠0:=by rw [m8];exact hj
  have hfi:(x.move s j).1.first=j:=by rw [m8];show (if s.spot=0 then j else s.first)=j;rw [if_pos hsp]
  have hca:(x.move s j).1.car=s.car:=by rw [m8];rfl
  have hmt:∀seen,MatchS p s.must seen→MatchS p (x.move s j).1.must (bump seen j):=fun seen hm=>by
   obtain ⟨i,rfl⟩:∃i:Nat,j=i:=⟨j.toNat,by omega⟩
   simp only [Inst.lateB,Bool.or_eq_false_iff] at p5
   have:=p5.1
   rw [has_testN (by omega)] at this
   rw [b4]
   exact hm.bump (by omega) (by omega) (by omega) this
  obtain ⟨r,rest,c',q1,q2,q3,q4⟩:=route_rest hx h0 path _ _ _ d1 v2 hsp' w2
  have hpos:∀i∈j :: r,0<i:=fun i hi=>by
   rcases List.mem_cons.1 hi with rfl | hi
   ·exact p3
   ·exact q2 i hi
  have hrun:x.runC (j :: r) x.car0=(c',0):=by rw [runC_cons v1];exact q3
  have htimes:x.times (j :: r)=(c'.times,c'.gone,0):=by rw [Inst.times,if_neg (by simp [hm]),hrun];rfl
  have hg0:x.car0.gone=0:=rfl
  have hcgo:∀rs all seen,x.costGo ((j :: r) :: rs) all seen=x.costGo rs (all+c'.gone) (r.foldl bump (bump seen j)):=fun rs all seen=>by
   rw [Inst.costGo,if_neg (by simp),htimes]
   simp
  rw [List.length_cons] at hf
  have hsc:=s.fit hx hmay
  have hlast:(false||decide (j≤s.first))=false:=by rw [Bool.false_or];exact decide_eq_false (by omega)
  rcases q4 with ⟨t1,t2,t3⟩ | ⟨path',s',d2,t1,t2,t3,t4,t5,t6,t7,t8,t9,t10,t11,t12⟩
  ·subst t1
   rw [List.append_nil] at q1
   subst q1
   refine ⟨[j :: path],?_,?_,?_⟩
   ·rw [splitF,if_pos (by rw [idx_none _ 0 hpos];omega),List.getD_cons_zero,hlast]
    rfl
   ·have:=hsc.car
    simp only [List.length_cons,List.length_nil]
    omega
   ·intro all seen hms
    obtain ⟨must,k1,k2⟩:=t3 _ (hmt seen hms)
    obtain ⟨k3,k4⟩:=k1.end k2
    rw [hcgo,Inst.costGo,k3,k4]
    simp only [Bool.false_eq_true,if_false]
    congr 1
    omega
  ·subst t1
   subst q1
   rw [List.length_append,List.length_cons] at hf
   obtain ⟨y1,routes,y2,y3,y4⟩:=yard_split hx hm h0 f path' s' d2 (acc++[j :: r]) (by omega) t4 t5 t6 t7 t11 t3
   have hlen':path'.length≠0:=fun e=>y1 (List.eq_nil_of_length_eq_zero e)
   have hidx:idxI lowI 0 (j :: (r++0 :: path'))=((0+(j :: r).length:Nat):Int):=idx_zero (j :: r) path' 0 hpos
   rw [Nat.zero_add] at hidx
   refine ⟨(j :: r) :: routes,?_,?_,?_⟩
   ·rw [splitF,hidx,if_neg (by omega),if_neg,Int.toNat_natCast,List.getD_cons_zero,hlast]
    ·have e1:(j :: (r++0 :: path')).drop ((j :: r).length+1)=path':=by
      have:(j :: (r++0 :: path'))=(j :: r++[0])++path':=by simp
      rw [this,List.drop_left' (by simp)]
     have e2:(j :: (r++0 :: path')).take (j :: r).length=j :: r:=by
      have:(j :: (r++0 :: path'))=(j :: r)++(0 :: path'):=by simp
      rw [this,List.take_left' rfl]
     rw [e1,e2]
     rw [t8,hfi] at y2
     rw [y2,List.append_assoc]
     rfl
    ·have e3:(j :: (r++0 :: path')).getD ((j :: r).length:Int).toNat 0=0:=by
      have:(j :: (r++0 :: path'))=(j :: r)++(0 :: path'):=by simp
      rw [Int.toNat_natCast,this,List.getD_eq_getElem?_getD,List.getElem?_append_right (Nat.le_refl _)]
      simp
     rw [e3]
     simp only [List.length_cons,List.length_append]
     omega
   ·rw [t9,hca] at y3
    simp only [List.length_cons]
    omega
   ·intro all seen hms
    rw [hcgo,y4 _ _ (t12 _ (hmt seen hms))]
    congr 1
    omega
theorem tour_plain {x:Inst} (hm:x.may=true) {path:List Int} {d:Int} (hw:x.way path x.rootS d):(splitR path).2=0∧x.cost (splitR path).1=(d,0):=by
 obtain ⟨p,hx⟩:=x.fit hm
 have hp:=hx.pairs
 have hc:=hx.cars
 have hroot:x.rootS={State.zero with car:=1,time:=(x.stop 0).ready}:=by rw [Inst.rootS,if_pos hm]
 have hms:MatchS p 0 (List.replicate (2*x.pairs+1).toNat 0):=by
  refine ⟨by rw [List.length_replicate];omega,fun i hi=>?_⟩
  simp
 by_cases h0:x.pairs=0
 ·match path,hw with
  |[],hw=>
   have hd:d=0:=by
    obtain ⟨e1,e2 | ⟨e2,e3,_⟩⟩:=end_is hw.1
    ·rw [hw.2,e2.2.2]
    ·rw [hroot] at e3;exact absurd rfl e3
   have e:splitR []=([],0):=rfl
   rw [e]
   refine ⟨rfl,?_⟩
   obtain ⟨k3,k4⟩:=hms.end (fun i i1 i2=>by omega)
   rw [Inst.cost,if_neg (by simp [hm]),if_neg (by simp only [List.length_nil];omega),Inst.costGo,k3,k4,hd]
   simp
  |j :: path,hw=>exact absurd h0 (move_pairs hw.1)
 ·obtain ⟨y1,routes,y2,y3,y4⟩:=yard_split hx hm h0 (path.length+1) path x.rootS d [] (by omega) (by rw [hroot];rfl) (by rw [hroot];rfl) (by rw [hroot];rfl) (by rw [hroot]) (good_root hx hm) hw
  have hf:x.rootS.first=0:=by rw [hroot];rfl
  have hca:x.rootS.car=1:=by rw [hroot]
  have hmu:x.rootS.must=0:=by rw [hroot];rfl
  rw [hf] at y2
  rw [hca] at y3
  rw [hmu] at y4
  have hne:¬path.length=0:=fun e=>y1 (List.eq_nil_of_length_eq_zero e)
  rw [splitR,if_neg hne,y2]
  refine ⟨rfl,?_⟩
  show x.cost ([]++routes)=(d,0)
  rw [List.nil_append,Inst.cost,if_neg (by simp [hm]),if_neg (by omega),y4 _ _ hms]
  simp
end Go.Proofs.YtnoifgjiipgpoaaGreatDoor

set_option maxRecDepth 4000
namespace Go.Proofs.YtnoifgjiipgpoaaGreatDoor
open Go Go.Proofs.YtnoifgjiipgpoaaGreatDoor.R
def Inst.gones (x:Inst):List (List Int)→Int
 |[]=>0
 |r :: rs=>(x.times r).2.1+x.gones rs
theorem gones_perm (x:Inst) {a b:List (List Int)} (h:a.Perm b):x.gones a=x.gones b:=by
 induction h with
 |nil=>rfl
 |cons r _ ih=>simp only [Inst.gones,ih]
 |swap r s l=>simp only [Inst.gones];omega
 |trans _ _ h1 h2=>exact h1.trans h2
structure PlanOK (x:Inst) (p:Nat) (rs:List (List Int)):Prop where
 cars:(rs.length:Int)≤x.cars
 each:∀r∈rs,r≠[]∧(x.times r).2.2=0
 once:rs.flatten.Nodup
 all:∀i:Nat,1≤i→i≤2*p→(i:Int)∈rs.flatten
theorem PlanOK.perm {x:Inst} {p:Nat} {a b:List (List Int)} (h:PlanOK x p a) (hp:a.Perm b):PlanOK x p b:=
 ⟨by rw [←hp.length_eq];exact h.cars,fun r hr=>h.each r (hp.mem_iff.2 hr),(hp.flatten.nodup_iff).1 h.once,fun i h1 h2=>(hp.flatten.mem_iff).1 (h.all i h1 h2)⟩
theorem bump_count {i:Nat}:∀(r:List Int) (s:List Int) (h:i<s.length),(∀j∈r,0≤j)→(r.foldl bump s)[i]'(by rw [bumps_len];exact h)=s[i]+(r.count (i:Int):Nat)
 |[],s,h,_=>by simp
 |j :: r,s,h,hr=>by
  have h0:=hr j List.mem_cons_self
  have ih:=bump_count r (bump s j) (by rw [bump_len];exact h) fun k hk=>hr k (List.mem_cons_of_mem _ hk)
  simp only [List.foldl_cons]
  rw [ih,List.count_cons]
  simp only [bump,List.getElem_set]
  by_cases e:j.toNat=i
  ·have e2:j=(i:Int):=by omega
   have e3:s.getD j.toNat 0=s[i]:=by rw [e,List.getD_eq_getElem?_getD,List.getElem?_eq_getElem h];rfl
   rw [if_pos e,e3,e2]
   simp only [beq_self_eq_true,if_true]
   omega
  ·have e2:¬j=(i:Int):=by omega
   rw [if_neg e]
   simp [e2]
theorem costGo_ok {x:Inst} {p:Nat} (hx:x.Fit p) (hm:x.may=true):∀(rs:List (List Int)) (all:Int) (seen:List Int) {c:Int},seen.length=2*p+1→x.costGo rs all seen=(c,0)→
  c=all+x.gones rs∧(∀r∈rs,r≠[]∧(x.times r).2.2=0)∧((rs.flatten.foldl bump seen).any fun n=>decide (1<n))=false∧(((rs.flatten.foldl bump seen).drop 1).any fun n=>decide (n=0))=false
 |[],all,seen,c,hs,h=>by
  rw [Inst.costGo] at h
  split at h
  ·cases h
  split at h
  ·cases h
  rename_i h1 h2
  simp only [Prod.mk.injEq,and_true] at h
  exact ⟨by simp only [Inst.gones];omega,by simp,(Bool.not_eq_true _).mp h1,(Bool.not_eq_true _).mp h2⟩
 |r :: rs,all,seen,c,hs,h=>by
  rw [Inst.costGo] at h
  split at h
  ·cases h
  split at h
  ·rename_i h1 h2
   simp only [Prod.mk.injEq] at h
   exact absurd h.2 h2
  rename_i h1 h2
  obtain ⟨g1,g2,g3,g4⟩:=costGo_ok hx hm rs _ _ (by rw [bumps_len];exact hs) h
  refine ⟨by simp only [Inst.gones];omega,fun q hq=>?_,by rw [List.flatten_cons,List.foldl_append];exact g3,by rw [List.flatten_cons,List.foldl_append];exact g4⟩
  rcases List.mem_cons.1 hq with rfl | hq
  ·exact ⟨fun e=>h1 (by rw [e];rfl),by simpa using h2⟩
  ·exact g2 q hq
theorem cost_ok {x:Inst} {p:Nat} (hx:x.Fit p) (hm:x.may=true) {rs:List (List Int)} {c:Int} (h:x.cost rs=(c,0)):PlanOK x p rs∧c=x.gones rs:=by
 have hp:=hx.pairs
 rw [Inst.cost,if_neg (by simp [hm])] at h
 split at h
 ·cases h
 rename_i hc
 have hlen:(List.replicate (2*x.pairs+1).toNat (0:Int)).length=2*p+1:=by rw [List.length_replicate];omega
 obtain ⟨g1,g2,g3,g4⟩:=costGo_ok hx hm rs _ _ hlen h
 have hstop:∀i∈rs.flatten,1≤i∧i≤2*p:=fun i hi=>by
  obtain ⟨r,hr,hir⟩:=List.mem_flatten.1 hi
  exact (times_ok hx hm (g2 r hr).2).1 i hir
 have hcnt:∀i:Nat,(hi:i≤2*p)→(rs.flatten.foldl bump (List.replicate (2*x.pairs+1).toNat 0))[i]'(by rw [bumps_len,hlen];omega)=((rs.flatten.count (i:Int):Nat):Int):=fun i hi=>by
  rw [bump_count _ _ (by rw [hlen];omega) (fun j hj=>by have:=hstop j hj;omega)]
  simp
 have hfl:=bumps_len rs.flatten (List.replicate (2*x.pairs+1).toNat (0:Int))
 rw [hlen] at hfl
 refine ⟨⟨by omega,g2,?_,?_⟩,by omega⟩
 ·rw [List.nodup_iff_count]
  intro a
  by_cases ha:a∈rs.flatten
  ·obtain ⟨h1,h2⟩:=hstop a ha
   obtain ⟨i,rfl⟩:∃i:Nat,a=i:=⟨a.toNat,by omega⟩
   have h3:=hcnt i (by omega)
   rw [List.any_eq_false] at g3
   have h4:=g3 _ (List.getElem_mem (l:=rs.flatten.foldl bump (List.replicate (2*x.pairs+1).toNat 0)) (n:=i) (by rw [hfl];omega))
   rw [h3] at h4
   simp only [decide_eq_true_eq] at h4
   omega
  ·rw [List.count_eq_zero.2 ha]
   omega
 ·intro i h1 h2
  by_cases ha:(i:Int)∈rs.flatten
  ·exact ha
  ·exfalso
   have h3:=hcnt i h2
   rw [List.count_eq_zero.2 ha] at h3
   rw [List.any_eq_false] at g4
   refine g4 _ (List.mem_iff_getElem.2 ⟨i-1,by rw [List.length_drop,hfl];omega,?_⟩) (decide_eq_true rfl)
   rw [List.getElem_drop]
   have e:1+(i-1)=i:=by omega
   simp only [e]
   exact h3
theorem Sim1.back {x:Inst} {p m0 k:Nat} {s:State} {c:Car} {j:Int} (hx:x.Fit p) (hm:x.may=true) (h:Sim1 x p m0 s c k) (hcar:1≤s.car∧s.car≤x.cars) (hv:(x.visitC c j).2=0) (hn:∀i:Nat,j=i→s.must.testBit i=false) (hf:s.spot=0→c.seen=0∧s.first<j):
  (x.move s j).2.2=true∧0<j:=by
 have hp:=hx.pairs
 have hfew:=hx.few
 rw [Inst.visitC] at hv
 split at hv
 ·rename_i hh;exact absurd hv hh
 rename_i hvs
 split at hv
 ·cases hv
 rename_i hdue
 obtain ⟨k1,k2,k3,k4,k5⟩:=visits_ok (by simpa using hvs)
 obtain ⟨i,rfl⟩:∃i:Nat,j=i:=⟨j.toNat,by omega⟩
 have hmi:=hn i rfl
 have hsum:=sumOn_pos hx s.on p (Nat.le_refl _)
 have hmay:s.mayB x=true:=by
  have h1:=h.fit.spot
  have h2:=h.fit.now
  have h3:=h.good.load
  have h4:=h.good.room
  have h5:=hx.room
  have h6:=h.spot
  have h7:=h.now
  simp only [State.mayB,Bool.and_eq_true,decide_eq_true_eq]
  omega
 have l1:x.lateB s i=false:=by
  simp only [Inst.lateB,Bool.or_eq_false_iff,decide_eq_false_iff_not]
  rw [has_testN (by omega)]
  refine ⟨hmi,?_⟩
  unfold Inst.begins
  rw [←h.now,←h.spot]
  omega
 have l2:(i:Int)≤x.pairs→x.fullB s i=false:=fun hi=>by
  simp only [Inst.fullB,Bool.or_eq_false_iff,Bool.and_eq_false_iff,decide_eq_false_iff_not]
  rw [←h.load]
  refine ⟨by omega,?_⟩
  by_cases hs:s.spot=0
  ·have:=hf hs
   exact .inr (by omega)
  ·exact .inl hs
 have l3:x.pairs<(i:Int)→x.emptyB s i=false:=fun hi=>by
  have hb:=k4 hi
  have e:(i:Int)-x.pairs=((i-p:Nat):Int):=by omega
  rw [e,has_testN (by omega)] at hb
  simp only [Inst.emptyB,Bool.or_eq_false_iff,Bool.not_eq_false',decide_eq_false_iff_not]
  rw [e,has_testN (by omega),h.good.eq,h.seen (i-p) (by omega) (by omega),hb]
  refine ⟨fun hs=>?_,by simp⟩
  have:=(hf hs).1
  rw [this,Nat.zero_testBit] at hb
  cases hb
 have hto:=to_visit (x:=x) (s:=s) (j:=i) (by omega) l1 l2 l3
 have hmv:=move_mk (j:=i) hm hmay (by omega) (by rw [hto])
 exact ⟨by rw [hmv],by omega⟩
theorem route_fwd {x:Inst} {p m0:Nat} (hx:x.Fit p) (hm:x.may=true):∀(r:List Int) (s:State) (c:Car) (k:Nat),Sim1 x p m0 s c k→s.spot≠0→(1≤s.car∧s.car≤x.cars)→(x.runC r c).2=0→r.Nodup→(∀i:Nat,(i:Int)∈r→s.must.testBit i=false)→
  ∃s' c1 k',Sim1 x p m0 s' c1 k'∧s'.spot≠0∧s'.car=s.car∧s'.first=s.first∧x.homeC c1=x.runC r c∧(∀i,1≤i→i≤2*p→s'.must.testBit i=(s.must.testBit i||decide ((i:Int)∈r)))∧
   ∀path d,x.way path s' d→x.way (r++path) s (c1.gone-c.gone+d)
 |[],s,c,k,hs,hsp,hcar,hr,_,_=>by
  refine ⟨s,c,k,hs,hsp,rfl,rfl,rfl,fun i _ _=>by simp,fun path d hw=>?_⟩
  have:c.gone-c.gone+d=d:=by omega
  rw [this]
  exact hw
 |j :: r,s,c,k,hs,hsp,hcar,hr,hnd,hdis=>by
  have hv:(x.visitC c j).2=0:=by
   rw [Inst.runC] at hr
   by_cases c1:(x.visitC c j).2=0
   ·exact c1
   ·rw [if_pos c1] at hr;exact absurd hr c1
  rw [runC_cons hv] at hr ⊢
  rw [List.nodup_cons] at hnd
  obtain ⟨b1,b2⟩:=hs.back hx hm hcar hv (fun i e=>hdis i (by rw [e];exact List.mem_cons_self)) (fun h=>absurd h hsp)
  obtain ⟨v1,v2,v3⟩:=hs.step hx (by omega) b1
  obtain ⟨_,_,p3,p4,_,_,_,m8⟩:=move_pos b1 (by omega)
  obtain ⟨_,_,_,q4,_,_⟩:=good_step hx hs.good b1
  have hfew:=hx.few
  have hp:=hx.pairs
  rw [if_pos b2] at q4
  have e1:(x.move s j).1.car=s.car:=by rw [m8];rfl
  have e2:(x.move s j).1.first=s.first:=by rw [m8];show (if s.spot=0 then j else s.first)=s.first;rw [if_neg hsp]
  have e3:(x.move s j).1.spot≠0:=by rw [m8];show j≠0;omega
  obtain ⟨n,rfl⟩:∃n:Nat,j=n:=⟨j.toNat,by omega⟩
  have hbit:∀i,(x.move s (n:Int)).1.must.testBit i=(s.must.testBit i||decide (n=i)):=fun i=>by rw [q4,with_bit (by omega)]
  obtain ⟨s',c1,k',g1,g2,g3,g4,g5,g6,g7⟩:=route_fwd hx hm r _ _ _ v2 e3 (by rw [e1];exact hcar) hr hnd.2 (fun i hi=>by
   rw [hbit,hdis i (List.mem_cons_of_mem _ hi)]
   have:¬n=i:=by rintro rfl;exact hnd.1 hi
   simp [this])
  refine ⟨s',c1,k',g1,g2,by rw [g3,e1],by rw [g4,e2],g5,fun i i1 i2=>?_,fun path d hw=>?_⟩
  ·rw [g6 i i1 i2,hbit,Bool.or_assoc]
   congr 1
   rw [Bool.eq_iff_iff]
   simp only [Bool.or_eq_true,decide_eq_true_eq,List.mem_cons]
   constructor
   ·rintro (rfl | h)
    ·exact .inl rfl
    ·exact .inr h
   ·rintro (h | h)
    ·exact .inl (by omega)
    ·exact .inr h
  ·refine ⟨b1,_,g7 path d hw,?_⟩
   omega
def headI (r:List Int):Int:=r.getD 0 0
theorem route_first {x:Inst} {p:Nat} (hx:x.Fit p) (hm:x.may=true) {r:List Int} {s:State} (hsp:s.spot=0) (hon:s.on=0) (hld:s.load=0) (hti:s.time=(x.stop 0).ready) (hg:Good x p s) (hc:1≤s.car∧s.car≤x.cars) (hne:r≠[]) (ht:(x.times r).2.2=0) (hnd:r.Nodup)
  (hdis:∀i:Nat,(i:Int)∈r→s.must.testBit i=false) (hfi:s.first<headI r):
  ∃s' c1 k',Sim1 x p s.must s' c1 k'∧s'.spot≠0∧s'.car=s.car∧s'.first=headI r∧(x.homeC c1).2=0∧(x.times r).2.1=(x.homeC c1).1.gone∧(∀i,1≤i→i≤2*p→s'.must.testBit i=(s.must.testBit i||decide ((i:Int)∈r)))∧
   ∀path d,x.way path s' d→x.way (r++path) s (c1.gone+d):=by
 match r,hne with
 |j :: r,_=>
  have hs:Sim1 x p s.must s x.car0 0:=by
   refine ⟨hsp.symm,hti.symm,hld.symm,hon.symm,fun i _ _=>by simp [Inst.car0],fun i i1 i2 h=>?_,car0_fit hx,hg⟩
   have:=hg.on i i1 i2
   rw [hon,Nat.zero_testBit,h] at this
   simpa using this.symm
  have hrun:(x.runC (j :: r) x.car0).2=0:=by
   rw [Inst.times,if_neg (by simp [hm])] at ht
   by_cases c1:(x.runC (j :: r) x.car0).2=0
   ·exact c1
   ·rw [if_pos c1] at ht;exact absurd ht c1
  have htm:(x.times (j :: r)).2.1=(x.runC (j :: r) x.car0).1.gone:=by rw [Inst.times,if_neg (by simp [hm]),if_neg (by simp [hrun])]
  have hv:(x.visitC x.car0 j).2=0:=by
   rw [Inst.runC] at hrun
   by_cases c1:(x.visitC x.car0 j).2=0
   ·exact c1
   ·rw [if_pos c1] at hrun;exact absurd hrun c1
  rw [runC_cons hv] at hrun htm
  rw [List.nodup_cons] at hnd
  have hhd:headI (j :: r)=j:=rfl
  rw [hhd] at hfi ⊢
  obtain ⟨b1,b2⟩:=hs.back hx hm hc hv (fun i e=>hdis i (by rw [e];exact List.mem_cons_self)) (fun _=>⟨rfl,hfi⟩)
  obtain ⟨v1,v2,v3⟩:=hs.step hx (by omega) b1
  obtain ⟨_,_,p3,p4,_,_,_,m8⟩:=move_pos b1 (by omega)
  obtain ⟨_,_,_,q4,_,_⟩:=good_step hx hg b1
  have hfew:=hx.few
  have hp:=hx.pairs
  rw [if_pos b2] at q4
  have e1:(x.move s j).1.car=s.car:=by rw [m8];rfl
  have e2:(x.move s j).1.first=j:=by rw [m8];show (if s.spot=0 then j else s.first)=j;rw [if_pos hsp]
  have e3:(x.move s j).1.spot≠0:=by rw [m8];show j≠0;omega
  have hg0:x.car0.gone=0:=rfl
  obtain ⟨n,rfl⟩:∃n:Nat,j=n:=⟨j.toNat,by omega⟩
  have hbit:∀i,(x.move s (n:Int)).1.must.testBit i=(s.must.testBit i||decide (n=i)):=fun i=>by rw [q4,with_bit (by omega)]
  obtain ⟨s',c1,k',g1,g2,g3,g4,g5,g6,g7⟩:=route_fwd hx hm r _ _ _ v2 e3 (by rw [e1];exact hc) hrun hnd.2 (fun i hi=>by
   rw [hbit,hdis i (List.mem_cons_of_mem _ hi)]
   have:¬n=i:=by rintro rfl;exact hnd.1 hi
   simp [this])
  refine ⟨s',c1,k',g1,g2,by rw [g3,e1],by rw [g4,e2],by rw [g5];exact hrun,by rw [htm,g5],fun i i1 i2=>?_,fun path d hw=>?_⟩
  ·rw [g6 i i1 i2,hbit,Bool.or_assoc]
   congr 1
   rw [Bool.eq_iff_iff]
   simp only [Bool.or_eq_true,decide_eq_true_eq,List.mem_cons]
   constructor
   ·rintro (rfl | h)
    ·exact .inl rfl
    ·exact .inr h
   ·rintro (h | h)
    ·exact .inl (by omega)
    ·exact .inr h
  ·refine ⟨b1,_,g7 path d hw,?_⟩
   omega
theorem homeC_ok {x:Inst} {c:Car} (h:(x.homeC c).2=0):c.on=0∧c.now+far (x.stop c.spot) (x.stop 0)≤(x.stop 0).due∧(x.homeC c).1.gone=c.gone+far (x.stop c.spot) (x.stop 0):=by
 rw [Inst.homeC] at h ⊢
 by_cases c1:c.on=0
 ·rw [if_neg (by simp [c1])] at h ⊢
  by_cases c2:(x.stop 0).due<c.now+far (x.stop c.spot) (x.stop 0)
  ·rw [if_pos c2] at h;cases h
  ·rw [if_neg c2]
   exact ⟨c1,by omega,rfl⟩
 ·rw [if_pos c1] at h;cases h
theorem Sim1.mayB {x:Inst} {p m0 k:Nat} {s:State} {c:Car} (hx:x.Fit p) (h:Sim1 x p m0 s c k) (hcar:1≤s.car∧s.car≤x.cars):s.mayB x=true:=by
 have hp:=hx.pairs
 have hsum:=sumOn_pos hx s.on p (Nat.le_refl _)
 have h1:=h.fit.spot
 have h2:=h.fit.now
 have h3:=h.good.load
 have h4:=h.good.room
 have h5:=hx.room
 have h6:=h.spot
 have h7:=h.now
 simp only [State.mayB,Bool.and_eq_true,decide_eq_true_eq]
 omega
theorem upto_only:∀(k:Nat) {i:Nat},(uptoL k).testBit i=true→1≤i∧i≤k
 |0,i,h=>by simp [uptoL] at h
 |k+1,i,h=>by
  rw [uptoL,Nat.testBit_or,Bool.or_eq_true] at h
  rcases h with h | h
  ·have:=upto_only k h;omega
  ·rw [Nat.testBit_two_pow] at h
   have:k+1=i:=by simpa using h
   omega
theorem allB_of {x:Inst} {p t:Nat} (hx:x.Fit p) (h:∀i,1≤i→i≤2*p→t.testBit i=true):x.allB t=true:=by
 rw [Inst.allB,withinB,List.all_eq_true]
 intro i hi
 have hp:=hx.pairs
 have hfew:=hx.few
 have hu:(uptoN (2*x.pairs)).testBit i=true→t.testBit i=true:=fun hb=>by
  unfold uptoN at hb
  have:=upto_only _ hb
  exact h i this.1 (by omega)
 cases hb:(uptoN (2*x.pairs)).testBit i with
 |false=>rfl
 |true=>rw [hu hb];rfl
theorem yard_fwd {x:Inst} {p:Nat} (hx:x.Fit p) (hm:x.may=true) (h0:x.pairs≠0):∀(rs:List (List Int)) (r:List Int) (s:State),s.spot=0→s.on=0→s.load=0→s.time=(x.stop 0).ready→Good x p s→1≤s.car→s.car+rs.length≤x.cars→(∀q∈r :: rs,q≠[]∧(x.times q).2.2=0)→(r :: rs).flatten.Nodup→
  (∀i:Nat,(i:Int)∈(r :: rs).flatten→s.must.testBit i=false)→(∀i:Nat,1≤i→i≤2*p→s.must.testBit i=true∨(i:Int)∈(r :: rs).flatten)→s.first<headI r→(r :: rs).Pairwise (fun a b=>headI a<headI b)→∃path,x.way path s (x.gones (r :: rs)):=by
 intro rs
 induction rs with
 |nil=>
  intro r s hsp hon hld hti hg hc1 hc2 heach hnd hdis hall hfi hpw
  obtain ⟨e1,e2⟩:=heach r List.mem_cons_self
  simp only [List.flatten_cons,List.flatten_nil,List.append_nil] at hnd hdis hall
  obtain ⟨s',c1,k',g1,g2,g3,g4,g5,g6,g7,g8⟩:=route_first hx hm hsp hon hld hti hg ⟨hc1,by simp only [List.length_nil] at hc2;omega⟩ e1 e2 hnd hdis hfi
  obtain ⟨a1,a2,a3⟩:=homeC_ok g5
  have hend:x.endS s'=(far (x.stop s'.spot) (x.stop 0),true):=by
   rw [Inst.endS,if_neg (by simp [hm]),if_neg (fun h=>h0 h.1),if_pos]
   refine ⟨g1.mayB hx (by rw [g3];simp only [List.length_nil] at hc2;omega),g2,by rw [←g1.on];exact a1,allB_of hx fun i i1 i2=>?_,by rw [←g1.now,←g1.spot];exact a2⟩
   rw [g1.good.eq,g7 i i1 i2]
   rcases hall i i1 i2 with h | h
   ·rw [h];rfl
   ·simp [h]
  have hw:=g8 [] _ (show x.way [] s' (far (x.stop s'.spot) (x.stop 0)) from ⟨by rw [hend],by rw [hend]⟩)
  refine ⟨r++[],?_⟩
  rw [Inst.gones,Inst.gones,g6,a3,g1.spot,Int.add_zero]
  exact hw
 |cons r2 rs ih=>
  intro r s hsp hon hld hti hg hc1 hc2 heach hnd hdis hall hfi hpw
  obtain ⟨e1,e2⟩:=heach r List.mem_cons_self
  rw [List.flatten_cons] at hnd hdis hall
  rw [List.length_cons] at hc2
  obtain ⟨n1,n2,n3⟩:=List.nodup_append.1 hnd
  obtain ⟨s',c1,k',g1,g2,g3,g4,g5,g6,g7,g8⟩:=route_first hx hm hsp hon hld hti hg ⟨hc1,by omega⟩ e1 e2 n1 (fun i hi=>hdis i (List.mem_append_left _ hi)) hfi
  obtain ⟨a1,a2,a3⟩:=homeC_ok g5
  rw [List.pairwise_cons] at hpw
  obtain ⟨e3,e4⟩:=heach r2 (by simp)
  have hr2:=times_ok hx hm e4
  obtain ⟨j2,hj2⟩:∃j2,j2∈r2:=List.exists_mem_of_ne_nil _ e3
  have hp:=hx.pairs
  have hfew:=hx.few
  have hmay:=g1.mayB hx (by rw [g3];omega)
  have hstay:x.stayB s'=false:=by
   simp only [Inst.stayB,Bool.or_eq_false_iff,decide_eq_false_iff_not]
   refine ⟨⟨⟨⟨g2,by rw [←g1.on,a1];simp⟩,by rw [g3];omega⟩,?_⟩,by rw [←g1.now,←g1.spot];omega⟩
   cases hq:x.allB s'.must with
   |false=>rfl
   |true=>
    exfalso
    obtain ⟨i,rfl⟩:∃i:Nat,j2=i:=⟨j2.toNat,by have:=hr2.1 j2 hj2;omega⟩
    have hi:=hr2.1 _ hj2
    have h1:=Inst.all_bit hx hq (i:=i) (by omega) (by omega)
    have hmem:(i:Int)∈(r2 :: rs).flatten:=by rw [List.flatten_cons];exact List.mem_append_left _ hj2
    rw [g7 i (by omega) (by omega),hdis i (List.mem_append_right _ hmem),Bool.false_or,decide_eq_true_eq] at h1
    exact n3 _ h1 _ hmem rfl
  have hto:x.to s' 0=(x.homeS s',true):=by rw [Inst.to,if_pos rfl,Inst.home,if_neg (by rw [hstay];simp)]
  have hmv:=move_mk (j:=0) hm hmay (by omega) (by rw [hto])
  rw [hto] at hmv
  have hmv1:(x.move s' 0).2.2=true:=by rw [hmv]
  have hgood:=(good_step hx g1.good hmv1).1
  rw [hmv] at hgood
  obtain ⟨path,hpath⟩:=ih r2 (x.homeS s') rfl (by show s'.on=0;rw [←g1.on];exact a1) rfl rfl hgood (by show 1≤s'.car+1;omega) (by show s'.car+1+(rs.length:Int)≤x.cars;rw [g3];omega) (fun q hq=>heach q (List.mem_cons_of_mem _ hq)) n2
   (fun i hi=>by
    show s'.must.testBit i=false
    have hi2:1≤i∧i≤2*p:=by
     obtain ⟨q,hq,hiq⟩:=List.mem_flatten.1 hi
     have:=(times_ok hx hm (heach q (List.mem_cons_of_mem _ hq)).2).1 _ hiq
     omega
    rw [g7 i hi2.1 hi2.2,hdis i (List.mem_append_right _ hi),Bool.false_or]
    exact decide_eq_false fun h=>n3 _ h _ hi rfl)
   (fun i i1 i2=>by
    show s'.must.testBit i=true∨_
    rw [g7 i i1 i2]
    rcases hall i i1 i2 with h | h
    ·exact .inl (by rw [h];rfl)
    ·rcases List.mem_append.1 h with h | h
     ·exact .inl (by simp [h])
     ·exact .inr h)
   (by show s'.first<headI r2;rw [g4];exact hpw.1 r2 (by simp)) hpw.2
  have hw:=g8 (0 :: path) _ (show x.way (0 :: path) s' (far (x.stop s'.spot) (x.stop 0)+x.gones (r2 :: rs)) from ⟨hmv1,_,by rw [hmv];exact hpath,by rw [hmv]⟩)
  refine ⟨r++0 :: path,?_⟩
  rw [Inst.gones,g6,a3,g1.spot]
  have e:c1.gone+far (x.stop s'.spot) (x.stop 0)+x.gones (r2 :: rs)=c1.gone+(far (x.stop s'.spot) (x.stop 0)+x.gones (r2 :: rs)):=by omega
  rw [e]
  exact hw
theorem plan_way {x:Inst} (hm:x.may=true) {rs:List (List Int)} {c:Int} (h:x.cost rs=(c,0)):∃path,x.way path x.rootS c:=by
 obtain ⟨p,hx⟩:=x.fit hm
 have hp:=hx.pairs
 have hroot:x.rootS={State.zero with car:=1,time:=(x.stop 0).ready}:=by rw [Inst.rootS,if_pos hm]
 obtain ⟨hok,rfl⟩:=cost_ok hx hm h
 by_cases h0:x.pairs=0
 ·have hn:rs=[]:=by
   cases rs with
   |nil=>rfl
   |cons r rs=>
    obtain ⟨e1,e2⟩:=hok.each r List.mem_cons_self
    obtain ⟨j,hj⟩:=List.exists_mem_of_ne_nil _ e1
    have:=(times_ok hx hm e2).1 j hj
    omega
  subst hn
  refine ⟨[],?_,?_⟩
  ·rw [Inst.endS,if_neg (by simp [hm]),if_pos ⟨h0,rfl⟩]
  ·rw [Inst.endS,if_neg (by simp [hm]),if_pos ⟨h0,rfl⟩];rfl
 ·obtain ⟨qs,hqs⟩:∃qs,qs=rs.mergeSort (fun a b=>decide (headI a≤headI b)):=⟨_,rfl⟩
  have hperm:rs.Perm qs:=by rw [hqs];exact (List.mergeSort_perm _ _).symm
  have hsort:qs.Pairwise fun a b=>decide (headI a≤headI b)=true:=by
   rw [hqs]
   refine List.pairwise_mergeSort (fun a b c h1 h2=>?_) (fun a b=>?_) rs
   ·simp only [decide_eq_true_eq] at *;omega
   ·simp only [Bool.or_eq_true,decide_eq_true_eq];omega
  have hok2:=hok.perm hperm
  rw [gones_perm x hperm]
  have hne:qs≠[]:=by
   intro e
   have:=hok2.all 1 (Nat.le_refl _) (by omega)
   rw [e] at this
   cases this
  match qs,hne with
  |r :: qs,_=>
   have hhead:∀q∈r :: qs,headI q∈q:=fun q hq=>by
    obtain ⟨e1,_⟩:=hok2.each q hq
    cases q with
    |nil=>exact absurd rfl e1
    |cons j q=>exact List.mem_cons_self
   have hpw:(r :: qs).Pairwise fun a b=>headI a<headI b:=by
    have hnd:=hok2.once
    rw [List.Nodup,List.pairwise_flatten] at hnd
    refine (hsort.and hnd.2).imp_of_mem fun {a b} ha hb h=>?_
    have h1:=h.1
    simp only [decide_eq_true_eq] at h1
    have h2:=h.2 (headI a) (hhead a ha) (headI b) (hhead b hb)
    omega
   obtain ⟨e1,e2⟩:=hok2.each r List.mem_cons_self
   have hpos:=(times_ok hx hm e2).1 _ (hhead r List.mem_cons_self)
   have hcars:=hok2.cars
   rw [List.length_cons] at hcars
   refine yard_fwd hx hm h0 qs r x.rootS (by rw [hroot];rfl) (by rw [hroot];rfl) (by rw [hroot];rfl) (by rw [hroot]) (good_root hx hm) (by rw [hroot];show (1:Int)≤1;omega) (by rw [hroot];show (1:Int)+(qs.length:Int)≤x.cars;omega) hok2.each hok2.once
    (fun i _=>by rw [hroot];exact Nat.zero_testBit i) (fun i i1 i2=>.inr (hok2.all i i1 i2)) (by rw [hroot];show (0:Int)<headI r;omega) hpw
end Go.Proofs.YtnoifgjiipgpoaaGreatDoor

set_option maxRecDepth 4000
set_option maxHeartbeats 1000000
namespace Go.Proofs.YtnoifgjiipgpoaaGreatDoor
open Go Go.Proofs.YtnoifgjiipgpoaaGreatDoor.R
def leastL (l:List Int) (k:Nat):Int:=((l.take k).drop 1).foldl min (l.getD 0 0)
theorem leastL_one (l:List Int):leastL l 1=l.getD 0 0:=by
 cases l<;>rfl
theorem leastL_succ (l:List Int) {k:Nat} (h1:1≤k) (h:k<l.length):leastL l (k+1)=min (leastL l k) l[k]:=by
 have e:(l.take (k+1)).drop 1=(l.take k).drop 1++[l[k]]:=by
  rw [List.take_succ_eq_append_getElem h,List.drop_append,show 1-(l.take k).length=0 by rw [List.length_take];omega]
  rfl
 rw [leastL,e,List.foldl_append]
 rfl
theorem smin_pure (l:List Int) (h0:0<l.length) (hl:l.length<2^62):Pure P 52 [.t (.sl (ints l))] (.i (leastL l l.length)):=by
 generalize hR:leastL l l.length=R
 refine pure_of Tryz.func52 rfl rfl (by simp [Tryz.f52]) (by simp [bnd,bnd.bndL]) (by simp [bnd,bnd.bndL]) fun B hB hnx=>?_
 simp only [Tryz.f52] at hB ⊢
 have hil:(ints l).length=l.length:=List.length_map _
 have hg0:=ints_getS l h0
 have c0:¬l.length=0:=by omega
 have e0:l[0]=leastL l 1:=by rw [leastL_one,List.getD_eq_getElem?_getD,List.getElem?_eq_getElem h0];rfl
 have c1:¬(l.length:Int)<1:=by omega
 refine K_run hB 100 ?_
 simp [go_sem,hil,c0,c1,h0,hg0,e0]
 refine K_loopP (α:=Nat) (fun k=>1≤k∧k≤l.length) (fun k=>⟨sl [(0,.t (.sl (ints l))),(3,.i (leastL l k)),(4,.i k)],_,_⟩) (fun k=>l.length-k) 1 ⟨Nat.le_refl _,h0⟩ (Imp.slots (by simp [go_sem]) rfl rfl) ?_
 rintro k ⟨g0,g1⟩
 by_cases hk:k<l.length
 ·have hkk:IntKind.i64.wrap ((k:Int)+1)=((k+1:Nat):Int):=by rw [w64 _ (by omega)];rfl
  have hgk:=ints_getS l hk
  have hs:=leastL_succ l g0 hk
  generalize l[k]=v at *
  generalize leastL l k=u at *
  refine K_run hB 100 ?_
  simp [go_sem,hil,hk,hgk,hkk]
  exact Next.mk (k+1) ⟨by omega,by omega⟩ (Imp.slots (by simp [go_sem,hs]) rfl rfl) (by omega)
 ·have:k=l.length:=by omega
  subst this
  rw [hR]
  refine K_run hB 100 ?_
  simp [go_sem,hil]
theorem linesF_row (b:List Nat):∀f i a l,(∀r∈a,r≠[]∧r.length≤b.length+1)→linesF b f i a=some l→∀r∈l,r≠[]∧r.length≤b.length+1
 |0,i,a,l,ha,h=>by simp [linesF] at h;subst h;exact ha
 |f+1,i,a,l,ha,h=>by
  rw [linesF] at h
  split at h
  ·split at h
   ·refine linesF_row b f _ _ _ ?_ h
    split
    ·exact ha
    ·rename_i hne
     intro r hr
     rcases List.mem_append.1 hr with hr | hr
     ·exact ha r hr
     ·rw [List.mem_singleton.1 hr]
      refine ⟨hne,?_⟩
      have:=lineF_len b (b.length+1) i []
      simpa [lineR] using this
   ·cases h
  ·cases h;exact ha
theorem linesR_row (b:List Nat):∀r∈(linesR b).1,r≠[]∧r.length≤4097:=by
 unfold linesR
 split
 ·intro r hr;cases hr
 ·rename_i hl
  split
  ·intro r hr;cases hr
  ·rename_i a h
   intro r hr
   have:=linesF_row b _ _ _ _ (fun r hr=>by cases hr) h r hr
   exact ⟨this.1,by omega⟩
def badRow (l:List Int):Bool:=decide (leastL l l.length<1)
def planL (l:List (List Int)):List (List Int)×Int:=if l.any badRow=true then ([],2) else (l,0)
def planR (b:List Nat):List (List Int)×Int:=if (linesR b).2≠0 then ([],(linesR b).2) else planL (linesR b).1
theorem linesB_pure (b:List Nat) (hb:b.length<2^63) (hb8:∀c∈b,c<256):Pure P 40 [.t (.sl (byt b))] (.tup [.t (.sl ((linesR b).1.map rowT)),.i (linesR b).2]):=by
 by_cases h:b.length<2^62
 ·exact lines_pure b h hb8
 have e:linesR b=([],6):=if_pos (by omega)
 rw [e]
 refine pure_of Tryz.func40 rfl rfl (by simp [Tryz.f40]) (by simp [bnd,bnd.bndL]) (by simp [bnd,bnd.bndL]) fun B hB hnx=>?_
 simp only [Tryz.f40] at hB ⊢
 have c:4096<(b.length:Int):=by omega
 refine K_run hB 100 ?_
 simp [go_sem,byt_len,c]
theorem parseB_pure (b:List Nat) (hb:b.length<2^63) (hb8:∀c∈b,c<256):Pure P 16 [.t (.sl (byt b))] (.tup [(parseR b).1.a,.i (parseR b).2]):=by
 by_cases h:b.length<2^62
 ·exact parse_pure b h hb8
 have e:linesR b=([],6):=if_pos (by omega)
 have e2:parseR b=(Inst.zero,6):=by rw [parseR,e];rfl
 have hp:=linesB_pure b hb hb8
 rw [e] at hp
 rw [e2]
 refine pure_of Tryz.func16 rfl rfl (by simp [Tryz.f16]) (by simp [bnd,bnd.bndL]) (by simp [bnd,bnd.bndL,Inst.a,Inst.zero]) fun B hB hnx=>?_
 simp only [Tryz.f16] at hB ⊢
 refine K_run hB 100 ?_
 simp [go_sem]
 refine K_call rfl rfl rfl (args:=[.t (.sl (byt b))]) (f:=40) (by simp [go_sem]) (by simp [go_sem,hB]) ((hp).spec _ _) ?_
 refine K_run hB 100 ?_
 simp [go_sem,Inst.a,Inst.zero]
theorem pparse_pure (b:List Nat) (hb:b.length<2^63) (hb8:∀c∈b,c<256):Pure P 20 [.t (.sl (byt b))] (.tup [.agg [.t (.sl ((planR b).1.map rowT))],.i (planR b).2]):=by
 generalize hR:planR b=R
 refine pure_of Tryz.func20 rfl rfl (by simp [Tryz.f20]) (by simp [bnd,bnd.bndL]) (by simp [bnd,bnd.bndL]) fun B hB hnx=>?_
 simp only [Tryz.f20] at hB ⊢
 rw [planR] at hR
 have hrow:=linesR_row b
 have hlen:=linesR_len b
 have hp:=linesB_pure b hb hb8
 refine K_run hB 100 ?_
 simp [go_sem]
 refine K_call rfl rfl rfl (args:=[.t (.sl (byt b))]) (f:=40) (by simp [go_sem]) (by simp [go_sem,hB]) ((hp).spec _ _) ?_
 generalize (linesR b).1=l at *
 generalize (linesR b).2=e at *
 by_cases ce:e=0
 rotate_left
 ·rw [if_pos ce] at hR
  subst hR
  refine K_run hB 100 ?_
  simp [go_sem,ce]
 ·subst ce
  rw [if_neg (by simp),planL] at hR
  have hll:(l.map rowT).length=l.length:=List.length_map _
  refine K_run hB 100 ?_
  simp [go_sem,hll]
  refine K_loopP (α:=Nat) (fun k=>k≤l.length∧∀r∈l.take k,badRow r=false) (fun k=>⟨sl [(2,.ptr 0 0),(3,.i 0),(4,.t (.sl (l.map rowT))),(17,.t (.sl (l.map rowT))),(18,.i l.length),(19,.i k)],_,_⟩) (fun k=>l.length-k) 0 ⟨Nat.zero_le _,fun r hr=>by simp at hr⟩ (Imp.slots (by simp [go_sem]) rfl rfl) ?_
  rintro k ⟨g0,g1⟩
  by_cases hk:k<l.length
  ·have hkk:IntKind.i64.wrap ((k:Int)+1)=((k+1:Nat):Int):=by rw [w64 _ (by omega)];rfl
   have hgk:∀h,(l.map rowT)[k]'h=[.sl (ints l[k])]:=fun h=>by simp [rowT]
   have hr:=hrow l[k] (List.getElem_mem _)
   have hm:=smin_pure l[k] (List.length_pos_iff.2 hr.1) (by omega)
   have htk:l.take (k+1)=l.take k++[l[k]]:=List.take_succ_eq_append_getElem hk
   have hmem:l[k]∈l:=List.getElem_mem _
   generalize l[k]=r at *
   refine K_run hB 100 ?_
   simp [go_sem,hll,hk,hgk]
   refine K_call rfl rfl rfl (args:=[.t (.sl (ints r))]) (f:=52) (by simp [go_sem]) (by simp [go_sem,hB]) ((hm).spec _ _) ?_
   by_cases c:leastL r r.length<1
   ·have hany:l.any badRow=true:=List.any_eq_true.2 ⟨r,hmem,decide_eq_true c⟩
    rw [if_pos hany] at hR
    subst hR
    refine K_run hB 100 ?_
    simp [go_sem,c]
   ·refine K_run hB 100 ?_
    simp [go_sem,c,hkk]
    refine Next.mk (k+1) ⟨by omega,fun r' hr'=>?_⟩ (Imp.slots (by simp [go_sem]) rfl rfl) (by omega)
    rw [htk] at hr'
    rcases List.mem_append.1 hr' with h | h
    ·exact g1 r' h
    ·rw [List.mem_singleton.1 h];exact decide_eq_false c
  ·have:k=l.length:=by omega
   subst this
   rw [List.take_length] at g1
   have hany:¬l.any badRow=true:=by rw [List.any_eq_true];rintro ⟨r,h1,h2⟩;rw [g1 r h1] at h2;cases h2
   rw [if_neg hany] at hR
   subst hR
   refine K_run hB 100 ?_
   simp [go_sem,hll]
end Go.Proofs.YtnoifgjiipgpoaaGreatDoor

set_option maxRecDepth 4000
namespace Go.Proofs.YtnoifgjiipgpoaaGreatDoor
open Go Go.Proofs.YtnoifgjiipgpoaaGreatDoor.R
theorem fdiv2 (t:Nat):Int.fdiv (t:Int) 2=((t / 2:Nat):Int):=by
 rw [Int.fdiv_eq_ediv_of_nonneg _ (by omega)]
 omega
theorem get_row {S:List (List T)} {k:Nat} {y:List T} (h:S[k]? =some y):k<S.length∧∀h:k<S.length,S[k]'h=y:=by
 obtain ⟨h1,h2⟩:=List.getElem?_eq_some_iff.1 h
 exact ⟨h1,fun _=>h2⟩
theorem two_near {X Z:List (List T)} {x y:List T} (hx:x.length=11) (hy:y.length=11):Two (X++x :: y :: Z) X.length (X.length+1) x y:=by
 have:=two_far (X:=X) (Y:=[]) (Z:=Z) hx hy
 simpa using this
structure Halves (pre U V post:List (List T)) (a m b:Nat):Prop where
 ha:a=pre.length
 hm:m=a+U.length
 hb:b=m+V.length
 u0:0<U.length
 v0:0<V.length
 su:Srt κr U
 sv:Srt κr V
 kr:∀e∈U++V,KR e
 len:∀e∈pre++(U++(V++post)),e.length=11
 big:(pre++(U++(V++post))).length<2^31
abbrev symF:FuncId:=285
theorem symLeft_spec (pre U V post:List (List T)) (a m b:Nat) (hH:Halves pre U V post a m b) (hU1:U.length=1):∀{σ:Nat→AObj} {nx q:Nat},q<nx→σ q= .arr 11 (pre++(U++(V++post)))→
  CallSpec P symF [.ref q,.i a,.i m,.i b,cmpF] σ nx (.tup []) (oput σ q (.arr 11 (pre++(isort κr (U++V)++post)))) nx:=by
 intro σ nx q hq hσq
 obtain ⟨ha,hm,hb,u0,v0,su,sv,kr,len,big⟩:=hH
 simp only [List.length_append] at big
 refine spec_down Tryz.func285 rfl rfl (by simp [Tryz.f285]) hq (by simp [bndO]) (by simp [bnd,bnd.bndL]) fun hk B hB hnx hσ=>?_
 simp only [Tryz.f285] at hB ⊢
 obtain ⟨S,hS⟩:∃S,S=pre++(U++(V++post)):=⟨_,rfl⟩
 have hSl:S.length=a+(U.length+(V.length+post.length)):=by rw [hS];simp only [List.length_append];omega
 have hσS:oput σ q (.arr 11 S)=σ:=by rw [hS,←hσq];exact oput_self rfl
 have hSU:∀i (h:i<U.length),S[a+i]? =some U[i]:=fun i h=>by
  rw [hS,ha,List.getElem?_append_right (by omega),show pre.length+i-pre.length=i by omega,List.getElem?_append_left h,List.getElem?_eq_getElem h]
 have hSV:∀i (h:i<V.length),S[m+i]? =some V[i]:=fun i h=>by
  rw [hS,hm,ha,List.getElem?_append_right (by omega),show pre.length+U.length+i-pre.length=U.length+i by omega,List.getElem?_append_right (by omega),show U.length+i-U.length=i by omega,List.getElem?_append_left h,List.getElem?_eq_getElem h]
 have hlU:∀i (h:i<U.length),(U[i]).length=11:=fun i h=>len _ (by simp)
 have hlV:∀i (h:i<V.length),(V[i]).length=11:=fun i h=>len _ (by simp)
 obtain ⟨x,rfl⟩:∃x,U=[x]:=by
  match U,hU1 with
  |[x],_=>exact ⟨x,rfl⟩
 have w1:IntKind.i64.wrap ((m:Int)-a)=1:=by rw [w64 _ (by omega)];omega
 have hSx:=hSU 0 (by simp)
 simp only [Nat.add_zero,List.getElem_cons_zero] at hSx
 have hKx:KR x:=kr x (by simp)
 have hxl:=hKx.len
 refine K_run hB 100 ?_
 simp [go_sem,w1]
 refine K_loopP (α:=Nat×Nat) (fun (i,j)=>i≤j∧j≤V.length∧(∀e∈V.take i,κr e<κr x)∧∀e∈V.drop j,κr x≤κr e) (fun (i,j)=>⟨sl [(0,.ref q),(1,.i a),(2,.i m),(3,.i b),(4,cmpF),(10,.i (m+i:Nat)),(11,.i (m+j:Nat))],oput σ q (.arr 11 S),nx⟩) (fun (i,j)=>j-i) (0,V.length)
  ⟨Nat.zero_le _,Nat.le_refl _,by simp,by simp⟩ (Imp.slots (by simp [go_sem,hb]) hσS rfl) ?_
 rintro ⟨i,j⟩ ⟨i1,i2,i3,i4⟩
 by_cases c:i<j
 ·obtain ⟨t,ht⟩:∃t,t=m+i+(m+j):=⟨_,rfl⟩
  obtain ⟨h',hh'⟩:∃h',h'=(i+j) / 2:=⟨_,rfl⟩
  obtain ⟨hh,hhh⟩:∃hh,hh=m+h':=⟨_,rfl⟩
  have wA:IntKind.i64.wrap ((m:Int)+i+(m+j))=(t:Int):=by rw [w64 _ (by omega)];omega
  have wB:IntKind.u64.wrap (t:Int)=t:=u64 _ (by omega)
  have fd:Int.fdiv (t:Int) 2=(hh:Int):=by rw [fdiv2];omega
  have wC:IntKind.i64.wrap (hh:Int)=hh:=w64 _ (by omega)
  have hV':h'<V.length:=by omega
  have hgh:=hSV h' hV'
  rw [←hhh] at hgh
  have hKy:KR V[h']:=kr _ (by simp)
  have htk:∀e∈V.take (h'+1),κr e≤κr V[h']:=fun e he=>by
   rw [List.take_succ_eq_append_getElem hV'] at he
   have h2:=srt_take sv (h'+1)
   rw [List.take_succ_eq_append_getElem hV',Srt,List.pairwise_append] at h2
   rcases List.mem_append.1 he with he | he
   ·exact h2.2.2 e he _ (by simp)
   ·rw [List.mem_singleton.1 he];exact Int.le_refl _
  have hdk:∀e∈V.drop h',κr V[h']≤κr e:=fun e he=>by
   rw [List.drop_eq_getElem_cons hV'] at he
   have h2:=srt_drop sv h'
   rw [List.drop_eq_getElem_cons hV',Srt,List.pairwise_cons] at h2
   rcases List.mem_cons.1 he with rfl | he
   ·exact Int.le_refl _
   ·exact h2.1 e he
  generalize V[h']=y at *
  obtain ⟨y1,y2⟩:=get_row hgh
  obtain ⟨x1,x2⟩:=get_row hSx
  have hyl:=hKy.len
  have k1:=take11 hyl
  have k2:=take11 hxl
  have d1:hh*11 / 11=hh:=by omega
  have d2:hh*11 % 11=0:=by omega
  have d3:a*11 / 11=a:=by omega
  have d4:a*11 % 11=0:=by omega
  have hcm:=keyCmp_pure y x hKy hKx
  have hneg:=cmpI_neg (κr y) (κr x)
  have wD:IntKind.i64.wrap ((hh:Int)+1)=(m:Int)+(h'+1:Nat):=by rw [w64 _ (by omega)];omega
  refine K_run hB 60 ?_
  simp [go_sem,c,wA,wB,fd,wC]
  refine K_drawn [] rfl (by rw [hB];kernel_rfl) ?_
  refine K_run hB 100 ?_
  simp [go_sem,y1,y2,x1,x2,hyl,hxl,k1,k2,d1,d2,d3,d4]
  refine K_dCallP rfl rfl rfl (args:=[.agg (y.map .t),.agg (x.map .t)]) (f:=226) (by simp [go_sem]) (hcm) ?_
  by_cases c2:κr y<κr x
  ·refine K_run hB 100 ?_
   simp [go_sem,hneg,c2,wD]
   exact Next.mk (h'+1,j) ⟨by simp only;omega,i2,fun e he=>by have:=htk e he;omega,i4⟩ (Imp.slots (by simp [go_sem]) rfl rfl) (by simp only;omega)
  ·refine K_run hB 100 ?_
   simp [go_sem,hneg,c2]
   exact Next.mk (i,h') ⟨by simp only;omega,by simp only;omega,i3,fun e he=>by have:=hdk e he;omega⟩ (Imp.slots (by simp [go_sem,hhh]) rfl rfl) (by simp only;omega)
 ·have hij:i=j:=by omega
  subst hij
  have hres:isort κr ([x]++V)=V.take i++x :: V.drop i:=by
   have h2:V=V.take i++V.drop i:=(List.take_append_drop _ _).symm
   have:=one_left (κ:=κr) (u:=V.take i) (v:=V.drop i) (x:=x) (by rw [←h2];exact sv) i3 i4
   rw [←h2] at this
   exact this
  obtain ⟨Fl,hFl⟩:∃Fl:Nat→List (List T),∀k,Fl k=pre++(V.take k++x :: (V.drop k++post)):=⟨_,fun _=>rfl⟩
  have wE:IntKind.i64.wrap ((m:Int)+i-1)=(a:Int)+i:=by rw [w64 _ (by simp only [List.length_cons,List.length_nil] at hm;omega)];simp only [List.length_cons,List.length_nil] at hm;omega
  refine K_run hB 60 ?_
  simp [go_sem,c]
  refine K_loopP (α:=Nat) (fun k=>k≤i) (fun k=>⟨sl [(0,.ref q),(1,.i a),(2,.i m),(3,.i b),(4,cmpF),(10,.i (m+i:Nat)),(13,.i (a+k:Nat))],oput σ q (.arr 11 (Fl k)),nx⟩) (fun k=>i-k) 0 (Nat.zero_le _) (Imp.slots (by simp [go_sem]) (by rw [hFl,hS];simp) rfl) ?_
  intro k hki
  by_cases c3:k<i
  ·have hkV:k<V.length:=by omega
   have hs1:Fl k=(pre++V.take k)++x :: V[k] :: (V.drop (k+1)++post):=by
    rw [hFl,List.drop_eq_getElem_cons hkV]
    simp only [List.append_assoc,List.cons_append]
   have hs2:Fl (k+1)=(pre++V.take k)++V[k] :: x :: (V.drop (k+1)++post):=by
    rw [hFl,List.take_succ_eq_append_getElem hkV]
    simp only [List.append_assoc,List.cons_append,List.nil_append]
   have hyl:=hlV k hkV
   generalize V[k]=y at *
   have htwo:=two_near (X:=pre++V.take k) (Z:=V.drop (k+1)++post) hxl hyl
   have hset:=near_set (pre++V.take k) (V.drop (k+1)++post) x y
   rw [←hs1] at htwo hset
   rw [←hs2] at hset
   have e1:(pre++V.take k).length=a+k:=by rw [List.length_append,List.length_take];omega
   rw [e1] at htwo hset
   obtain ⟨u,hu⟩:∃u,u=a+k:=⟨_,rfl⟩
   obtain ⟨v,hv⟩:∃v,v=u+1:=⟨_,rfl⟩
   rw [←hu,←hv] at htwo hset
   obtain ⟨t1,t2,t3,t4,t5,t6⟩:=htwo
   have hne:¬u=v:=by omega
   have hne':¬v=u:=by omega
   have d1:u*11 / 11=u:=by omega
   have d2:u*11 % 11=0:=by omega
   have d3:v*11 / 11=v:=by omega
   have d4:v*11 % 11=0:=by omega
   have k1:=take11 t5
   have k2:=take11 t6
   have k3:setCells x 0 y=y:=setCells_all (by omega)
   have k4:setCells y 0 x=x:=setCells_all (by omega)
   have w3:(a:Int)+k=(u:Int):=by omega
   have w4:IntKind.i64.wrap ((u:Int)+1)=(v:Int):=by rw [w64 _ (by omega)];omega
   have c3':(u:Int)<(a:Int)+i:=by omega
   generalize Fl k=S1 at *
   generalize hS':Fl (k+1)=S2 at *
   refine K_run hB 60 ?_
   simp [go_sem,w3,wE,c3']
   refine K_drawnF [15,17] [2,3,4] rfl (by rw [hB];kernel_rfl) (by kernel_rfl) fun ht hf'=>?_
   refine K_run hB 100 ?_
   simp [go_sem,ht,hf',w3,w4,t1,t2,t3,t4,d1,d2,d3,d4,t5,t6,k1,k2,k3,k4,toTs_t,hne,hne']
   refine Next.mk (k+1) (by omega) (Imp.slots (by simp [go_sem,hv,hu];omega) ?_ rfl) (by omega)
   rw [hS',←hset]
   funext j
   by_cases e:j=q<;>simp [oput,e]
  ·have hki':k=i:=by omega
   subst hki'
   refine K_run hB 60 ?_
   simp [go_sem,wE]
   rw [hFl]
   simp only [List.append_assoc,List.cons_append] at hres ⊢
   exact ⟨by rw [show isort κr (x :: V)=V.take k++x :: V.drop k from hres];simp,fun j h1 h2 h3=>absurd h3 h2⟩
theorem symRight_spec (pre U V post:List (List T)) (a m b:Nat) (hH:Halves pre U V post a m b) (hU1:¬U.length=1) (hV1:V.length=1):∀{σ:Nat→AObj} {nx q:Nat},q<nx→σ q= .arr 11 (pre++(U++(V++post)))→
  CallSpec P symF [.ref q,.i a,.i m,.i b,cmpF] σ nx (.tup []) (oput σ q (.arr 11 (pre++(isort κr (U++V)++post)))) nx:=by
 intro σ nx q hq hσq
 obtain ⟨ha,hm,hb,u0,v0,su,sv,kr,len,big⟩:=hH
 simp only [List.length_append] at big
 refine spec_down Tryz.func285 rfl rfl (by simp [Tryz.f285]) hq (by simp [bndO]) (by simp [bnd,bnd.bndL]) fun hk B hB hnx hσ=>?_
 simp only [Tryz.f285] at hB ⊢
 obtain ⟨S,hS⟩:∃S,S=pre++(U++(V++post)):=⟨_,rfl⟩
 have hSl:S.length=a+(U.length+(V.length+post.length)):=by rw [hS];simp only [List.length_append];omega
 have hσS:oput σ q (.arr 11 S)=σ:=by rw [hS,←hσq];exact oput_self rfl
 have hSU:∀i (h:i<U.length),S[a+i]? =some U[i]:=fun i h=>by
  rw [hS,ha,List.getElem?_append_right (by omega),show pre.length+i-pre.length=i by omega,List.getElem?_append_left h,List.getElem?_eq_getElem h]
 have hSV:∀i (h:i<V.length),S[m+i]? =some V[i]:=fun i h=>by
  rw [hS,hm,ha,List.getElem?_append_right (by omega),show pre.length+U.length+i-pre.length=U.length+i by omega,List.getElem?_append_right (by omega),show U.length+i-U.length=i by omega,List.getElem?_append_left h,List.getElem?_eq_getElem h]
 have hlU:∀i (h:i<U.length),(U[i]).length=11:=fun i h=>len _ (by simp)
 have hlV:∀i (h:i<V.length),(V[i]).length=11:=fun i h=>len _ (by simp)
 have w1:IntKind.i64.wrap ((m:Int)-a)=(U.length:Int):=by rw [w64 _ (by omega)];omega
 have hU1':¬(U.length:Int)=1:=by omega
 obtain ⟨y,rfl⟩:∃y,V=[y]:=by
  match V,hV1 with
  |[y],_=>exact ⟨y,rfl⟩
 have w2:IntKind.i64.wrap ((b:Int)-m)=1:=by rw [w64 _ (by simp only [List.length_cons,List.length_nil] at hb;omega)];simp only [List.length_cons,List.length_nil] at hb;omega
 have hSy:=hSV 0 (by simp)
 simp only [Nat.add_zero,List.getElem_cons_zero] at hSy
 have hKy:KR y:=kr y (by simp)
 have hyl:=hKy.len
 refine K_run hB 100 ?_
 simp [go_sem,w1,hU1',hU1,w2]
 refine K_loopP (α:=Nat×Nat) (fun (i,j)=>i≤j∧j≤U.length∧(∀e∈U.take i,κr e≤κr y)∧∀e∈U.drop j,κr y<κr e) (fun (i,j)=>⟨sl [(0,.ref q),(1,.i a),(2,.i m),(3,.i b),(4,cmpF),(14,.i (a+i:Nat)),(15,.i (a+j:Nat))],oput σ q (.arr 11 S),nx⟩) (fun (i,j)=>j-i) (0,U.length)
  ⟨Nat.zero_le _,Nat.le_refl _,by simp,by simp⟩ (Imp.slots (by simp [go_sem,hm]) hσS rfl) ?_
 rintro ⟨i,j⟩ ⟨i1,i2,i3,i4⟩
 by_cases c:i<j
 ·obtain ⟨t,ht⟩:∃t,t=a+i+(a+j):=⟨_,rfl⟩
  obtain ⟨h',hh'⟩:∃h',h'=(i+j) / 2:=⟨_,rfl⟩
  obtain ⟨hh,hhh⟩:∃hh,hh=a+h':=⟨_,rfl⟩
  have wA:IntKind.i64.wrap ((a:Int)+i+(a+j))=(t:Int):=by rw [w64 _ (by omega)];omega
  have wB:IntKind.u64.wrap (t:Int)=t:=u64 _ (by omega)
  have fd:Int.fdiv (t:Int) 2=(hh:Int):=by rw [fdiv2];omega
  have wC:IntKind.i64.wrap (hh:Int)=hh:=w64 _ (by omega)
  have hU':h'<U.length:=by omega
  have hgh:=hSU h' hU'
  rw [←hhh] at hgh
  have hKx:KR U[h']:=kr _ (by simp)
  have htk:∀e∈U.take (h'+1),κr e≤κr U[h']:=fun e he=>by
   rw [List.take_succ_eq_append_getElem hU'] at he
   have h2:=srt_take su (h'+1)
   rw [List.take_succ_eq_append_getElem hU',Srt,List.pairwise_append] at h2
   rcases List.mem_append.1 he with he | he
   ·exact h2.2.2 e he _ (by simp)
   ·rw [List.mem_singleton.1 he];exact Int.le_refl _
  have hdk:∀e∈U.drop h',κr U[h']≤κr e:=fun e he=>by
   rw [List.drop_eq_getElem_cons hU'] at he
   have h2:=srt_drop su h'
   rw [List.drop_eq_getElem_cons hU',Srt,List.pairwise_cons] at h2
   rcases List.mem_cons.1 he with rfl | he
   ·exact Int.le_refl _
   ·exact h2.1 e he
  generalize U[h']=x at *
  obtain ⟨x1,x2⟩:=get_row hgh
  obtain ⟨y1,y2⟩:=get_row hSy
  have hxl:=hKx.len
  have k1:=take11 hyl
  have k2:=take11 hxl
  have d1:hh*11 / 11=hh:=by omega
  have d2:hh*11 % 11=0:=by omega
  have d3:m*11 / 11=m:=by omega
  have d4:m*11 % 11=0:=by omega
  have hcm:=keyCmp_pure y x hKy hKx
  have hneg:=cmpI_neg (κr y) (κr x)
  have wD:IntKind.i64.wrap ((hh:Int)+1)=(a:Int)+(h'+1:Nat):=by rw [w64 _ (by omega)];omega
  refine K_run hB 60 ?_
  simp [go_sem,c,wA,wB,fd,wC]
  refine K_drawn [] rfl (by rw [hB];kernel_rfl) ?_
  refine K_run hB 100 ?_
  simp [go_sem,y1,y2,x1,x2,hyl,hxl,k1,k2,d1,d2,d3,d4]
  refine K_dCallP rfl rfl rfl (args:=[.agg (y.map .t),.agg (x.map .t)]) (f:=226) (by simp [go_sem]) (hcm) ?_
  by_cases c2:κr y<κr x
  ·refine K_run hB 100 ?_
   simp [go_sem,hneg,c2]
   exact Next.mk (i,h') ⟨by simp only;omega,by simp only;omega,i3,fun e he=>by have:=hdk e he;omega⟩ (Imp.slots (by simp [go_sem,hhh]) rfl rfl) (by simp only;omega)
  ·refine K_run hB 100 ?_
   simp [go_sem,hneg,c2,wD]
   exact Next.mk (h'+1,j) ⟨by simp only;omega,i2,fun e he=>by have:=htk e he;omega,i4⟩ (Imp.slots (by simp [go_sem]) rfl rfl) (by simp only;omega)
 ·have hij:i=j:=by omega
  subst hij
  have hres:isort κr (U++[y])=U.take i++y :: U.drop i:=by
   have h2:U=U.take i++U.drop i:=(List.take_append_drop _ _).symm
   have:=one_right (κ:=κr) (u:=U.take i) (v:=U.drop i) (y:=y) (by rw [←h2];exact su) i3 i4
   rw [←h2] at this
   exact this
  obtain ⟨Fl,hFl⟩:∃Fl:Nat→List (List T),∀k,Fl k=pre++(U.take k++y :: (U.drop k++post)):=⟨_,fun _=>rfl⟩
  refine K_run hB 60 ?_
  simp [go_sem,c]
  refine K_loopP (α:=Nat) (fun k=>i≤k∧k≤U.length) (fun k=>⟨sl [(0,.ref q),(1,.i a),(2,.i m),(3,.i b),(4,cmpF),(14,.i (a+i:Nat)),(17,.i (a+k:Nat))],oput σ q (.arr 11 (Fl k)),nx⟩) (fun k=>k) U.length ⟨i2,Nat.le_refl _⟩ (Imp.slots (by simp [go_sem,hm]) (by rw [hFl,hS];simp) rfl) ?_
  rintro k ⟨hki,hkU⟩
  by_cases c3:i<k
  ·obtain ⟨k,rfl⟩:∃k',k=k'+1:=⟨k-1,by omega⟩
   have hkU':k<U.length:=by omega
   have hs1:Fl (k+1)=(pre++U.take k)++U[k] :: y :: (U.drop (k+1)++post):=by
    rw [hFl,List.take_succ_eq_append_getElem hkU']
    simp only [List.append_assoc,List.cons_append,List.nil_append]
   have hs2:Fl k=(pre++U.take k)++y :: U[k] :: (U.drop (k+1)++post):=by
    rw [hFl,List.drop_eq_getElem_cons hkU']
    simp only [List.append_assoc,List.cons_append]
   have hzl:=hlU k hkU'
   generalize U[k]=z at *
   have htwo:=two_near (X:=pre++U.take k) (Z:=U.drop (k+1)++post) hzl hyl
   have hset:=near_set2 (pre++U.take k) (U.drop (k+1)++post) z y
   rw [←hs1] at htwo hset
   rw [←hs2] at hset
   have e1:(pre++U.take k).length=a+k:=by rw [List.length_append,List.length_take];omega
   rw [e1] at htwo hset
   obtain ⟨u,hu⟩:∃u,u=a+k:=⟨_,rfl⟩
   obtain ⟨v,hv⟩:∃v,v=u+1:=⟨_,rfl⟩
   rw [←hu,←hv] at htwo hset
   obtain ⟨t1,t2,t3,t4,t5,t6⟩:=htwo
   have hne:¬u=v:=by omega
   have hne':¬v=u:=by omega
   have d1:u*11 / 11=u:=by omega
   have d2:u*11 % 11=0:=by omega
   have d3:v*11 / 11=v:=by omega
   have d4:v*11 % 11=0:=by omega
   have k1:=take11 t5
   have k2:=take11 t6
   have k3:setCells z 0 y=y:=setCells_all (by omega)
   have k4:setCells y 0 z=z:=setCells_all (by omega)
   have w3:(a:Int)+(k+1)=(v:Int):=by omega
   have w4:IntKind.i64.wrap ((v:Int)-1)=(u:Int):=by rw [w64 _ (by omega)];omega
   have c3':(a:Int)+i<(v:Int):=by omega
   generalize Fl (k+1)=S1 at *
   generalize hS':Fl k=S2 at *
   refine K_run hB 60 ?_
   simp [go_sem,w3,c3']
   refine K_drawnF [15,17] [2,3,4] rfl (by rw [hB];kernel_rfl) (by kernel_rfl) fun ht hf'=>?_
   refine K_run hB 100 ?_
   simp [go_sem,ht,hf',w3,w4,t1,t2,t3,t4,d1,d2,d3,d4,t5,t6,k1,k2,k3,k4,toTs_t,hne,hne']
   refine Next.mk k ⟨by omega,by omega⟩ (Imp.slots (by simp [go_sem,hu]) ?_ rfl) (by omega)
   rw [hS',←hset]
   funext j
   by_cases e:j=q<;>simp [oput,e]
  ·have hki':k=i:=by omega
   subst hki'
   refine K_run hB 60 ?_
   simp [go_sem]
   rw [hFl]
   exact ⟨by rw [hres];simp,fun j h1 h2 h3=>absurd h3 h2⟩
end Go.Proofs.YtnoifgjiipgpoaaGreatDoor

set_option maxRecDepth 4000
set_option maxHeartbeats 1000000
namespace Go.Proofs.YtnoifgjiipgpoaaGreatDoor
open Go Go.Proofs.YtnoifgjiipgpoaaGreatDoor.R
theorem merge2 {p X G:Prop} (h1:p→X→G) (h2:¬p→X→G) (h3:X):G:=(Classical.em p).elim (fun h=>h1 h h3) (fun h=>h2 h h3)
theorem wr_add {x y z:Nat} (h:z=x+y) (hz:z<9223372036854775808):IntKind.i64.wrap ((x:Int)+y)=(z:Int):=by rw [w64 _ (by omega)];omega
theorem wr_sub {x y z:Nat} (h:z+y=x) (hx:x<9223372036854775808):IntKind.i64.wrap ((x:Int)-y)=(z:Int):=by rw [w64 _ (by omega)];omega
theorem wr_sub1 {x z:Nat} (h:z+1=x) (hx:x<9223372036854775808):IntKind.i64.wrap ((x:Int)-1)=(z:Int):=by rw [w64 _ (by omega)];omega
theorem wr_add1 {x:Nat} (hx:x+1<9223372036854775808):IntKind.i64.wrap ((x:Int)+1)=((x+1:Nat):Int):=by rw [w64 _ (by omega)];omega
theorem wr_u {x:Nat} (hx:x<9223372036854775808):IntKind.u64.wrap (x:Int)=(x:Int):=u64 _ (by omega)
theorem half_in {s r:Nat} (h:s<r):s≤(s+r) / 2∧(s+r) / 2<r:=by omega
theorem sym_ix {a m b n p lo0 r0 s r c ul vl:Nat} (ha1:a≤lo0) (hr:r0≤m) (h3:m+r0≤n) (h4:n≤b+lo0) (hp:p+1=n) (hm:m=a+ul) (hb:b=m+vl) (i1:lo0≤s) (i3:r≤r0) (h5:s≤c) (h6:c<r):
  c-a<ul∧a+(c-a)=c∧p-c-m<vl∧m+(p-c-m)=p-c∧p-c+c=p∧c+1-1-a=c-a∧n-(c+1)-m=p-c-m:=by omega
theorem sym_cut {U V:List (List T)} {i e:Nat} (su:Srt κr U) (sv:Srt κr V)
  (h1:i=0∨V.length≤e∨∃x y,0<i∧U[i-1]? =some x∧V[e]? =some y∧κr x≤κr y)
  (h2:e=0∨U.length≤i∨∃x y,0<e∧U[i]? =some x∧V[e-1]? =some y∧κr y<κr x):
  isort κr (U++V)=isort κr (U.take i++V.take e)++isort κr (U.drop i++V.drop e):=by
 have hlast:∀{L:List (List T)} {k:Nat} {x:List T},Srt κr L→0<k→L[k-1]? =some x→∀u∈L.take k,κr u≤κr x:=fun {L k x} hs hk hx u hu=>by
  obtain ⟨k,rfl⟩:∃k',k=k'+1:=⟨k-1,by omega⟩
  obtain ⟨g1,g2⟩:=List.getElem?_eq_some_iff.1 hx
  simp only [Nat.add_sub_cancel] at g1 g2
  have h5:=srt_take hs (k+1)
  rw [List.take_succ_eq_append_getElem g1,g2] at hu h5
  rw [Srt,List.pairwise_append] at h5
  rcases List.mem_append.1 hu with hu | hu
  ·exact h5.2.2 u hu x (by simp)
  ·rw [List.mem_singleton.1 hu];exact Int.le_refl _
 have hfirst:∀{L:List (List T)} {k:Nat} {x:List T},Srt κr L→L[k]? =some x→∀u∈L.drop k,κr x≤κr u:=fun {L k x} hs hx u hu=>by
  obtain ⟨g1,g2⟩:=List.getElem?_eq_some_iff.1 hx
  have h5:=srt_drop hs k
  rw [List.drop_eq_getElem_cons g1,g2] at hu h5
  rw [Srt,List.pairwise_cons] at h5
  rcases List.mem_cons.1 hu with rfl | hu
  ·exact Int.le_refl _
  ·exact h5.1 u hu
 have:=isort_cut (κ:=κr) (u1:=U.take i) (u2:=U.drop i) (v1:=V.take e) (v2:=V.drop e) (by rw [List.take_append_drop];exact su) (by rw [List.take_append_drop];exact sv) ?_ ?_
 ·rw [List.take_append_drop,List.take_append_drop] at this
  exact this
 ·intro u hu v hv
  rcases h1 with rfl | h1 | ⟨x,y,h3,h4,h5,h6⟩
  ·simp at hu
  ·rw [List.drop_eq_nil_of_le h1] at hv;cases hv
  ·have:=hlast su h3 h4 u hu
   have:=hfirst sv h5 v hv
   omega
 ·intro v hv u hu
  rcases h2 with rfl | h2 | ⟨x,y,h3,h4,h5,h6⟩
  ·simp at hv
  ·rw [List.drop_eq_nil_of_le h2] at hu;cases hu
  ·have:=hlast sv h3 h5 v hv
   have:=hfirst su h4 u hu
   omega
theorem symMerge_spec:∀(N:Nat) (pre U V post:List (List T)) (a m b:Nat),U.length+V.length≤N→Halves pre U V post a m b→∀{σ:Nat→AObj} {nx q:Nat},q<nx→σ q= .arr 11 (pre++(U++(V++post)))→
  CallSpec P symF [.ref q,.i a,.i m,.i b,cmpF] σ nx (.tup []) (oput σ q (.arr 11 (pre++(isort κr (U++V)++post)))) nx:=by
 intro N
 induction N with
 |zero=>
  intro pre U V post a m b hN hH
  have:=hH.u0
  omega
 |succ N ih=>
 intro pre U V post a m b hN hH σ nx q hq hσq
 by_cases hU1:U.length=1
 ·exact symLeft_spec pre U V post a m b hH hU1 hq hσq
 by_cases hV1:V.length=1
 ·exact symRight_spec pre U V post a m b hH hU1 hV1 hq hσq
 have hH0:=hH
 obtain ⟨ha,hm,hb,u0,v0,su,sv,kr,len,big⟩:=hH
 simp only [List.length_append] at big
 refine spec_down Tryz.func285 rfl rfl (by simp [Tryz.f285]) hq (by simp [bndO]) (by simp [bnd,bnd.bndL]) fun hk B hB hnx hσ=>?_
 simp only [Tryz.f285] at hB ⊢
 obtain ⟨S,hS⟩:∃S,S=pre++(U++(V++post)):=⟨_,rfl⟩
 have hSl:S.length=a+(U.length+(V.length+post.length)):=by rw [hS];simp only [List.length_append];omega
 have hσS:oput σ q (.arr 11 S)=σ:=by rw [hS,←hσq];exact oput_self rfl
 have hSU:∀i (h:i<U.length),S[a+i]? =some U[i]:=fun i h=>by
  rw [hS,ha,List.getElem?_append_right (by omega),show pre.length+i-pre.length=i by omega,List.getElem?_append_left h,List.getElem?_eq_getElem h]
 have hSV:∀i (h:i<V.length),S[m+i]? =some V[i]:=fun i h=>by
  rw [hS,hm,ha,List.getElem?_append_right (by omega),show pre.length+U.length+i-pre.length=U.length+i by omega,List.getElem?_append_right (by omega),show U.length+i-U.length=i by omega,List.getElem?_append_left h,List.getElem?_eq_getElem h]
 have hlU:∀i (h:i<U.length),(U[i]).length=11:=fun i h=>len _ (by simp)
 have hlV:∀i (h:i<V.length),(V[i]).length=11:=fun i h=>len _ (by simp)
 have hb31:b<2147483648:=by omega
 have u2:2≤U.length:=by omega
 have v2:2≤V.length:=by omega
 have hpost:post.length<2147483648:=by omega
 have htot:a+(U.length+(V.length+post.length))<2147483648:=by omega
 clear big hk hnx hσ
 obtain ⟨t,ht⟩:∃t,t=a+b:=⟨_,rfl⟩
 obtain ⟨mid,hmid⟩:∃mid,mid=t / 2:=⟨_,rfl⟩
 obtain ⟨n,hn⟩:∃n,n=mid+m:=⟨_,rfl⟩
 obtain ⟨p,hp⟩:∃p,p+1=n:=⟨n-1,by omega⟩
 have w1:IntKind.i64.wrap ((m:Int)-a)=(U.length:Int):=wr_sub (by omega) (by omega)
 have w2:IntKind.i64.wrap ((b:Int)-m)=(V.length:Int):=wr_sub (by omega) (by omega)
 have wA:IntKind.i64.wrap ((a:Int)+b)=(t:Int):=wr_add ht (by omega)
 have wB:IntKind.u64.wrap (t:Int)=t:=wr_u (by omega)
 have fd:Int.fdiv (t:Int) 2=(mid:Int):=by rw [fdiv2,hmid]
 have wC:IntKind.i64.wrap (mid:Int)=mid:=w64n _ (by omega)
 have wN:IntKind.i64.wrap ((mid:Int)+m)=(n:Int):=wr_add hn (by omega)
 have wP:IntKind.i64.wrap ((n:Int)-1)=(p:Int):=wr_sub1 hp (by omega)
 have hU1':¬(U.length:Int)=1:=by omega
 have hV1':¬(V.length:Int)=1:=by omega
 have ham:a<mid:=by omega
 have hmb:mid<b:=by omega
 have hN2:mid-a≤N∧b-mid≤N:=by omega
 obtain ⟨lo0,r0,hlo,hbnd,hcs⟩:∃lo0 r0:Nat,lo0≤r0∧(a≤lo0∧r0≤m∧m+r0≤n∧n≤b+lo0)∧((mid<m∧lo0+b=n∧r0=mid)∨(¬mid<m∧lo0=a∧r0=m)):=by
  by_cases cm:mid<m
  ·exact ⟨n-b,mid,by omega,by omega,.inl ⟨cm,by omega,rfl⟩⟩
  ·exact ⟨a,m,by omega,by omega,.inr ⟨cm,rfl,rfl⟩⟩
 obtain ⟨b1,b2,b3,b4⟩:=hbnd
 have w5:mid<m→IntKind.i64.wrap ((n:Int)-b)=(lo0:Int):=fun cm=>wr_sub (by omega) (by omega)
 have hc1:mid<m→r0=mid:=fun cm=>by omega
 have hc2:¬mid<m→lo0=a∧r0=m:=fun cm=>by omega
 have hS0:lo0=a∨n-lo0=b:=by omega
 have hR0:r0=m∨n-r0=m:=by omega
 apply merge2 (p:=mid<m)
 ·intro cm key
  have w5:=w5 cm
  refine K_run hB 100 ?_
  simp [go_sem,w1,hU1',w2,hV1',wA,wB,fd,wC,wN,cm,w5,wP]
  exact K_loopP (α:=Nat×Nat) (fun (s,r)=>lo0≤s∧s≤r∧r≤r0∧(s=lo0∨(a<s∧∃x,U[s-1-a]? =some x∧∃y,V[n-s-m]? =some y∧κr x≤κr y))∧(r=r0∨(m<n-r∧∃x,U[r-a]? =some x∧∃y,V[p-r-m]? =some y∧κr y<κr x)))
   (fun (s,r)=>⟨sl [(0,.ref q),(1,.i a),(2,.i m),(3,.i b),(4,cmpF),(18,.i mid),(19,.i n),(20,.i s),(21,.i r),(22,.i p)],oput σ q (.arr 11 S),nx⟩) (fun (s,r)=>r-s) (lo0,r0) ⟨Nat.le_refl _,hlo,Nat.le_refl _,.inl rfl,.inl rfl⟩ (Imp.slots (by simp [go_sem,hc1 cm]) hσS rfl) key
 ·intro cm key
  refine K_run hB 100 ?_
  simp [go_sem,w1,hU1',w2,hV1',wA,wB,fd,wC,wN,cm,wP]
  exact K_loopP (α:=Nat×Nat) (fun (s,r)=>lo0≤s∧s≤r∧r≤r0∧(s=lo0∨(a<s∧∃x,U[s-1-a]? =some x∧∃y,V[n-s-m]? =some y∧κr x≤κr y))∧(r=r0∨(m<n-r∧∃x,U[r-a]? =some x∧∃y,V[p-r-m]? =some y∧κr y<κr x)))
   (fun (s,r)=>⟨sl [(0,.ref q),(1,.i a),(2,.i m),(3,.i b),(4,cmpF),(18,.i mid),(19,.i n),(20,.i s),(21,.i r),(22,.i p)],oput σ q (.arr 11 S),nx⟩) (fun (s,r)=>r-s) (lo0,r0) ⟨Nat.le_refl _,hlo,Nat.le_refl _,.inl rfl,.inl rfl⟩ (Imp.slots (by simp [go_sem,hc2 cm]) hσS rfl) key
 clear w1 w2 wA wB fd wC wN wP w5 hc1 hc2 hU1' hV1' hcs
 rintro ⟨s,r⟩ ⟨i1,i2,i3,i4,i5⟩
 by_cases c:s<r
 ·obtain ⟨t2,ht2⟩:∃t,t=s+r:=⟨_,rfl⟩
  obtain ⟨c',hc'⟩:∃c',c'=t2 / 2:=⟨_,rfl⟩
  obtain ⟨c1,c2⟩:=half_in c
  rw [←ht2,←hc'] at c1 c2
  obtain ⟨j1,j2,j3,j4,j5,j6,j7⟩:=sym_ix b1 b2 b3 b4 hp hm hb i1 i3 c1 c2
  have hcb:c'<2147483648:=by omega
  have hrb:t2<4294967296:=by omega
  have hpb:p<4294967296:=by omega
  have wA2:IntKind.i64.wrap ((s:Int)+r)=(t2:Int):=wr_add ht2 (by omega)
  have wB2:IntKind.u64.wrap (t2:Int)=t2:=wr_u (by omega)
  have fd2:Int.fdiv (t2:Int) 2=(c':Int):=by rw [fdiv2,hc']
  have wC2:IntKind.i64.wrap (c':Int)=c':=w64n _ (by omega)
  have wE2:IntKind.i64.wrap ((c':Int)+1)=((c'+1:Nat):Int):=wr_add1 (by omega)
  obtain ⟨d',hd'⟩:∃d',d'=p-c':=⟨_,rfl⟩
  have wD2:IntKind.i64.wrap ((p:Int)-c')=(d':Int):=wr_sub (by rw [hd'];exact j5) (by omega)
  have gx:=hSU (c'-a) j1
  have gy:S[d']? =some (V[p-c'-m]'j3):=by
   have:=hSV (p-c'-m) j3
   rw [j4] at this
   rw [hd']
   exact this
  have ux:U[c'-a]? =some U[c'-a]:=List.getElem?_eq_getElem j1
  have vy:V[p-c'-m]? =some V[p-c'-m]:=List.getElem?_eq_getElem j3
  rw [j2] at gx
  have hKx:KR U[c'-a]:=kr _ (by simp)
  have hKy:KR V[p-c'-m]:=kr _ (by simp)
  generalize U[c'-a]'j1=x at *
  generalize V[p-c'-m]'j3=y at *
  obtain ⟨x1,x2⟩:=get_row gx
  obtain ⟨y1,y2⟩:=get_row gy
  have hxl:=hKx.len
  have hyl:=hKy.len
  have k1:=take11 hyl
  have k2:=take11 hxl
  have d1:c'*11 / 11=c':=by omega
  have d2:c'*11 % 11=0:=by omega
  have d3:d'*11 / 11=d':=by omega
  have d4:d'*11 % 11=0:=by omega
  have hcm:=keyCmp_pure y x hKy hKx
  have hneg:=cmpI_neg (κr y) (κr x)
  have n1:lo0≤c'+1:=by omega
  have n2:c'≤r0:=by omega
  have n3:a<c'+1:=by omega
  have n4:m<n-c':=by omega
  have n5:r-(c'+1)<r-s:=by omega
  have n6:c'-s<r-s:=by omega
  refine K_run hB 60 ?_
  simp [go_sem,c,wA2,wB2,fd2,wC2]
  refine K_drawn [] rfl (by rw [hB];kernel_rfl) ?_
  refine K_run hB 100 ?_
  simp [go_sem,wD2,x1,x2,y1,y2,hxl,hyl,k1,k2,d1,d2,d3,d4]
  refine K_dCallP rfl rfl rfl (args:=[.agg (y.map .t),.agg (x.map .t)]) (f:=226) (by simp [go_sem]) (hcm) ?_
  by_cases c3:κr y<κr x
  ·refine K_run hB 100 ?_
   simp [go_sem,hneg,c3]
   exact Next.mk (s,c') ⟨i1,c1,n2,i4,.inr ⟨n4,x,ux,y,vy,c3⟩⟩ (Imp.slots (by simp [go_sem]) rfl rfl) n6
  ·refine K_run hB 100 ?_
   simp [go_sem,hneg,c3,wE2]
   exact Next.mk (c'+1,r) ⟨n1,c2,i3,.inr ⟨n3,x,by simp only [j6];exact ux,y,by simp only [j7];exact vy,Int.not_lt.1 c3⟩,i5⟩ (Imp.slots (by simp [go_sem]) rfl rfl) n5
 have hsr:s=r:=by omega
 subst hsr
 clear c i2
 obtain ⟨e,he⟩:∃e,e+s=n:=⟨n-s,by omega⟩
 have hme:m≤e∧e≤b:=by omega
 have hsm:a≤s∧s≤m:=by omega
 have hnb:n<4294967296:=by omega
 have wS:IntKind.i64.wrap ((n:Int)-s)=(e:Int):=wr_sub he (by omega)
 have hmid2:mid=s+(e-m):=by omega
 have hre:n-s-m=e-m:=by omega
 have hrp:p-s-m=e-m-1:=by omega
 have hcut:isort κr (U++V)=isort κr (U.take (s-a)++V.take (e-m))++isort κr (U.drop (s-a)++V.drop (e-m)):=by
  refine sym_cut su sv ?_ ?_
  ·rcases i4 with i4 | ⟨h1,x,h2,y,h3,h4⟩
   ·rcases hS0 with h | h
    ·exact .inl (by omega)
    ·exact .inr (.inl (by omega))
   ·rw [hre] at h3
    refine .inr (.inr ⟨x,y,by omega,?_,h3,h4⟩)
    have:s-a-1=s-1-a:=by omega
    rw [this];exact h2
  ·rcases i5 with i5 | ⟨h1,x,h2,y,h3,h4⟩
   ·rcases hR0 with h | h
    ·exact .inr (.inl (by omega))
    ·exact .inl (by omega)
   ·rw [hrp] at h3
    exact .inr (.inr ⟨x,y,by omega,h2,h3,h4⟩)
 clear i4 i5 hS0 hR0 hSU hSV hlU hlV hre hrp
 obtain ⟨U1,hU1d⟩:∃U1,U1=U.take (s-a):=⟨_,rfl⟩
 obtain ⟨U2,hU2d⟩:∃U2,U2=U.drop (s-a):=⟨_,rfl⟩
 obtain ⟨V1,hV1d⟩:∃V1,V1=V.take (e-m):=⟨_,rfl⟩
 obtain ⟨V2,hV2d⟩:∃V2,V2=V.drop (e-m):=⟨_,rfl⟩
 rw [←hU1d,←hU2d,←hV1d,←hV2d] at hcut
 have lU1:U1.length=s-a:=by rw [hU1d,List.length_take];omega
 have lU2:U2.length=m-s:=by rw [hU2d,List.length_drop];omega
 have lV1:V1.length=e-m:=by rw [hV1d,List.length_take];omega
 have lV2:V2.length=b-e:=by rw [hV2d,List.length_drop];omega
 have hUU:U1++U2=U:=by rw [hU1d,hU2d];exact List.take_append_drop _ _
 have hVV:V1++V2=V:=by rw [hV1d,hV2d];exact List.take_append_drop _ _
 have sU1:Srt κr U1:=by rw [hU1d];exact srt_take su _
 have sU2:Srt κr U2:=by rw [hU2d];exact srt_drop su _
 have sV1:Srt κr V1:=by rw [hV1d];exact srt_take sv _
 have sV2:Srt κr V2:=by rw [hV2d];exact srt_drop sv _
 have hkr:∀x∈U1++V1++(U2++V2),KR x:=fun x hx=>kr x (by
  rw [←hUU,←hVV]
  simp only [List.mem_append] at hx ⊢
  rcases hx with (h | h) | h | h
  ·exact .inl (.inl h)
  ·exact .inr (.inl h)
  ·exact .inl (.inr h)
  ·exact .inr (.inr h))
 have hlen:∀x∈pre++(U1++(U2++(V1++(V2++post)))),x.length=11:=fun x hx=>len x (by
  rw [←hUU,←hVV]
  simpa using hx)
 have hSS:S=pre++(U1++(U2++(V1++(V2++post)))):=by rw [hS,←hUU,←hVV];simp
 obtain ⟨L1,hL1⟩:∃L1,L1=pre++(U1++(V1++(U2++(V2++post)))):=⟨_,rfl⟩
 obtain ⟨L2,hL2⟩:∃L2,L2=pre++(isort κr (U1++V1)++(U2++(V2++post))):=⟨_,rfl⟩
 have hL3:pre++(isort κr (U++V)++post)=pre++(isort κr (U1++V1)++(isort κr (U2++V2)++post)):=by rw [hcut,List.append_assoc]
 rw [hL3]
 have lpU:(pre++U1).length=s:=by rw [List.length_append,lU1,←ha];omega
 have hrot:=rotate_spec (pre++U1) U2 V1 (V2++post)
 have hsk:¬(s<m∧m<e)→S=L1:=fun h=>by
  rw [hSS,hL1]
  by_cases h1:s<m
  ·have:V1=[]:=List.eq_nil_of_length_eq_zero (by omega)
   rw [this];simp
  ·have:U2=[]:=List.eq_nil_of_length_eq_zero (by omega)
   rw [this];simp
 apply merge2 (p:=s<m∧m<e)
 ·rintro ⟨c1,c2⟩
  have hrot:=hrot (by rw [lU2];omega) (by rw [lV1];omega) (by simpa using hlen) (by simp only [List.length_append,lU1,lU2,lV1,lV2,←ha];omega) (σ:=oput σ q (.arr 11 S)) hq (by simp [oput,hSS])
  rw [oput_twice,lpU,lU2,lV1,show s+(m-s)=m by omega,show m+(e-m)=e by omega] at hrot
  intro key
  refine K_run hB 60 ?_
  simp [go_sem,wS,c1,c2]
  refine K_call rfl rfl rfl (args:=[.ref q,.i s,.i m,.i e,cmpF]) (f:=293) (by simp [go_sem]) (by simp [go_sem,hB]) hrot ?_
  refine K_run hB 1 ?_
  simp [go_sem]
  refine K_impC (t:=⟨sl [(0,.ref q),(1,.i a),(2,.i m),(3,.i b),(4,cmpF),(18,.i mid),(20,.i s),(24,.i e)],oput σ q (.arr 11 L1),nx⟩) (Imp.slots (by simp [go_sem]) (by rw [hL1]) rfl) ?_
  exact key
 ·intro c1
  have hsk:=hsk c1
  by_cases c2:s<m
  ·have c3:¬m<e:=fun h=>c1 ⟨c2,h⟩
   intro key
   refine K_run hB 33 ?_
   simp [go_sem,wS,c2,c3]
   refine K_impC (t:=⟨sl [(0,.ref q),(1,.i a),(2,.i m),(3,.i b),(4,cmpF),(18,.i mid),(20,.i s),(24,.i e)],oput σ q (.arr 11 L1),nx⟩) (Imp.slots (by simp [go_sem]) (by rw [hsk]) rfl) ?_
   exact key
  ·intro key
   refine K_run hB 30 ?_
   simp [go_sem,wS,c2]
   refine K_impC (t:=⟨sl [(0,.ref q),(1,.i a),(2,.i m),(3,.i b),(4,cmpF),(18,.i mid),(20,.i s),(24,.i e)],oput σ q (.arr 11 L1),nx⟩) (Imp.slots (by simp [go_sem]) (by rw [hsk]) rfl) ?_
   exact key
 clear hrot hsk
 have hleft:a<s→s<mid→CallSpec P symF [.ref q,.i a,.i s,.i mid,cmpF] (oput σ q (.arr 11 L1)) nx (.tup []) (oput σ q (.arr 11 L2)) nx:=fun c1 c2=>by
  have:=ih pre U1 V1 (U2++(V2++post)) a s mid (by omega) ⟨ha,by omega,by omega,by omega,by omega,sU1,sV1,fun x hx=>hkr x (List.mem_append_left _ hx),fun x hx=>hlen x (by
   simp only [List.mem_append] at hx ⊢
   rcases hx with h | h | h | h | h | h
   ·exact .inl h
   ·exact .inr (.inl h)
   ·exact .inr (.inr (.inr (.inl h)))
   ·exact .inr (.inr (.inl h))
   ·exact .inr (.inr (.inr (.inr (.inl h))))
   ·exact .inr (.inr (.inr (.inr (.inr h))))),by simp only [List.length_append,lU1,lU2,lV1,lV2,←ha];omega⟩ (σ:=oput σ q (.arr 11 L1)) (nx:=nx) hq (by simp [oput,hL1])
  rw [oput_twice,←hL2] at this
  exact this
 have hleft0:¬(a<s∧s<mid)→L1=L2:=fun h=>by
  have:isort κr (U1++V1)=U1++V1:=by
   by_cases h1:a<s
   ·have:V1=[]:=List.eq_nil_of_length_eq_zero (by omega)
    rw [this,List.append_nil]
    exact isort_self sU1
   ·have:U1=[]:=List.eq_nil_of_length_eq_zero (by omega)
    rw [this,List.nil_append]
    exact isort_self sV1
  rw [hL1,hL2,this,List.append_assoc]
 have lp2:(pre++isort κr (U1++V1)).length=mid:=by rw [List.length_append,isort_len,List.length_append,lU1,lV1,←ha];omega
 have hright:mid<e→e<b→CallSpec P symF [.ref q,.i mid,.i e,.i b,cmpF] (oput σ q (.arr 11 L2)) nx (.tup []) (oput σ q (.arr 11 (pre++(isort κr (U1++V1)++(isort κr (U2++V2)++post))))) nx:=fun c1 c2=>by
  have:=ih (pre++isort κr (U1++V1)) U2 V2 post mid e b (by omega) ⟨lp2.symm,by omega,by omega,by omega,by omega,sU2,sV2,fun x hx=>hkr x (List.mem_append_right _ hx),fun x hx=>hlen x (by
   simp only [List.mem_append,isort_mem] at hx ⊢
   rcases hx with (h | h | h) | h | h | h
   ·exact .inl h
   ·exact .inr (.inl h)
   ·exact .inr (.inr (.inr (.inl h)))
   ·exact .inr (.inr (.inl h))
   ·exact .inr (.inr (.inr (.inr (.inl h))))
   ·exact .inr (.inr (.inr (.inr (.inr h))))),by rw [List.length_append,lp2];simp only [List.length_append,lU2,lV2];omega⟩ (σ:=oput σ q (.arr 11 L2)) (nx:=nx) hq (by simp [oput,hL2])
  rw [oput_twice,List.append_assoc] at this
  exact this
 have hright0:¬(mid<e∧e<b)→L2=pre++(isort κr (U1++V1)++(isort κr (U2++V2)++post)):=fun h=>by
  have:isort κr (U2++V2)=U2++V2:=by
   by_cases h1:mid<e
   ·have:V2=[]:=List.eq_nil_of_length_eq_zero (by omega)
    rw [this,List.append_nil]
    exact isort_self sU2
   ·have:U2=[]:=List.eq_nil_of_length_eq_zero (by omega)
    rw [this,List.nil_append]
    exact isort_self sV2
  rw [hL2,this,List.append_assoc]
 clear ih
 apply merge2 (p:=a<s∧s<mid)
 ·rintro ⟨c1,c2⟩
  have hleft:=hleft c1 c2
  intro key
  refine K_run hB 60 ?_
  simp [go_sem,c1,c2]
  refine K_call rfl rfl rfl (args:=[.ref q,.i a,.i s,.i mid,cmpF]) (f:=285) (by simp [go_sem]) (by simp [go_sem,hB]) hleft ?_
  refine K_run hB 1 ?_
  simp [go_sem]
  refine K_impC (t:=⟨sl [(0,.ref q),(3,.i b),(4,cmpF),(18,.i mid),(24,.i e)],oput σ q (.arr 11 L2),nx⟩) (Imp.slots (by simp [go_sem]) rfl rfl) ?_
  exact key
 ·intro c1
  have hleft0:=hleft0 c1
  by_cases c2:a<s
  ·have c3:¬s<mid:=fun h=>c1 ⟨c2,h⟩
   intro key
   refine K_run hB 17 ?_
   simp [go_sem,c2,c3]
   refine K_impC (t:=⟨sl [(0,.ref q),(3,.i b),(4,cmpF),(18,.i mid),(24,.i e)],oput σ q (.arr 11 L2),nx⟩) (Imp.slots (by simp [go_sem]) (by rw [hleft0]) rfl) ?_
   exact key
  ·intro key
   refine K_run hB 14 ?_
   simp [go_sem,c2]
   refine K_impC (t:=⟨sl [(0,.ref q),(3,.i b),(4,cmpF),(18,.i mid),(24,.i e)],oput σ q (.arr 11 L2),nx⟩) (Imp.slots (by simp [go_sem]) (by rw [hleft0]) rfl) ?_
   exact key
 by_cases c1:mid<e
 ·by_cases c2:e<b
  ·have hright:=hright c1 c2
   refine K_run hB 60 ?_
   simp [go_sem,c1,c2]
   refine K_call rfl rfl rfl (args:=[.ref q,.i mid,.i e,.i b,cmpF]) (f:=285) (by simp [go_sem]) (by simp [go_sem,hB]) hright ?_
   refine K_run hB 100 ?_
   simp [go_sem]
   exact fun j h1 h2 h3=>absurd h3 h2
  ·have hright0:=hright0 fun h=>c2 h.2
   refine K_run hB 60 ?_
   simp [go_sem,c1,c2]
   rw [hright0]
   exact ⟨rfl,fun j h1 h2 h3=>absurd h3 h2⟩
 ·have hright0:=hright0 fun h=>c1 h.1
  refine K_run hB 60 ?_
  simp [go_sem,c1]
  rw [hright0]
  exact ⟨rfl,fun j h1 h2 h3=>absurd h3 h2⟩
end Go.Proofs.YtnoifgjiipgpoaaGreatDoor

set_option maxRecDepth 4000
set_option maxHeartbeats 1000000
namespace Go.Proofs.YtnoifgjiipgpoaaGreatDoor
open Go Go.Proofs.YtnoifgjiipgpoaaGreatDoor.R
theorem allBlks_at {α:Type} {κ:α→Int} {bs t:Nat} {l:List α} (h1:bs*t≤l.length) (h2:l.length<bs*t+bs):allBlks κ bs l=blks κ bs t l++isort κ (l.drop (bs*t)):=by
 have:l.length / bs=t:=Nat.div_eq_of_lt_le (by rw [Nat.mul_comm];exact h1) (by rw [Nat.succ_mul,Nat.mul_comm];exact h2)
 rw [allBlks,this]
theorem stable_spec (l:List (List T)) (hK:∀e∈l,KR e) (hbig:l.length<2^31) {σ:Nat→AObj} {nx q:Nat} (hq:q<nx) (hσq:σ q= .arr 11 l):
  CallSpec P 256 [.ref q,.i l.length,cmpF] σ nx (.tup []) (oput σ q (.arr 11 (isort κr l))) nx:=by
 refine spec_down Tryz.func256 rfl rfl (by simp [Tryz.f256]) hq (by simp [bndO]) (by simp [bnd,bnd.bndL]) fun hk B hB hnx hσ=>?_
 simp only [Tryz.f256] at hB ⊢
 obtain ⟨n,hn⟩:∃n,n=l.length:=⟨_,rfl⟩
 rw [←hn] at hbig ⊢
 have hL:∀e∈l,e.length=11:=fun e he=>(hK e he).len
 have hKi:∀(m:List (List T)),(∀e∈m,e∈l)→∀e∈isort κr m,KR e:=fun m hm e he=>hK e (hm e (isort_mem.1 he))
 have hKb:∀(bs t:Nat) (m:List (List T)),(∀e∈m,e∈l)→∀e∈blks κr bs t m,KR e:=fun bs t=>by
  induction t with
  |zero=>intro m _ e he;cases he
  |succ t ih=>
   intro m hm e he
   rcases List.mem_append.1 he with he | he
   ·exact hKi _ (fun x hx=>hm x (List.mem_of_mem_take hx)) e he
   ·exact ih _ (fun x hx=>hm x (List.mem_of_mem_drop hx)) e he
 have hKa:∀(bs:Nat) (m:List (List T)),(∀e∈m,e∈l)→∀e∈allBlks κr bs m,KR e:=fun bs m hm e he=>by
  rcases List.mem_append.1 he with he | he
  ·exact hKb _ _ m hm e he
  ·exact hKi _ (fun x hx=>hm x (List.mem_of_mem_drop hx)) e he
 have hσ0:oput σ q (.arr 11 (blks κr 20 0 l++l.drop (20*0)))=σ:=by
  rw [show blks κr 20 0 l++l.drop (20*0)=l by simp [blks],←hσq]
  exact oput_self rfl
 refine K_run hB 100 ?_
 simp [go_sem]
 refine K_loopP (α:=Nat) (fun t=>20*t≤n) (fun t=>⟨sl [(0,.ref q),(1,.i n),(2,cmpF),(6,.i 20),(7,.i (20*t:Nat)),(8,.i (20*t+20:Nat))],oput σ q (.arr 11 (blks κr 20 t l++l.drop (20*t))),nx⟩) (fun t=>n-t) 0 (Nat.zero_le _) (Imp.slots (by simp [go_sem]) hσ0 rfl) ?_
 intro t ht
 have hbl:(blks κr 20 t l).length=20*t:=blks_len 20 t l (by omega)
 by_cases c1:20*t+20≤n
 ·have c1':20*(t:Int)+20≤n:=by omega
  have hml:((l.drop (20*t)).take 20).length=20:=by rw [List.length_take,List.length_drop];omega
  have hd:l.drop (20*t)=(l.drop (20*t)).take 20++l.drop (20*t+20):=by
   rw [←List.drop_drop,List.take_append_drop]
  have hsp:=insert_spec (blks κr 20 t l) ((l.drop (20*t)).take 20) (l.drop (20*t+20)) (fun e he=>hK e (List.mem_of_mem_drop (List.mem_of_mem_take he))) (fun e he=>by
   rcases List.mem_append.1 he with he | he
   ·exact (hKb 20 t l (fun _ h=>h) e he).len
   ·rw [←hd] at he
    exact hL e (List.mem_of_mem_drop he)) (by rw [←hd,List.length_append,hbl,List.length_drop];omega) (σ:=oput σ q (.arr 11 (blks κr 20 t l++l.drop (20*t)))) (nx:=nx) (q:=q) hq (by simp only [oput,if_true];rw [←hd])
  rw [hml,hbl,oput_twice,←List.append_assoc,←blks_snoc] at hsp
  have w1:IntKind.i64.wrap (20*(t:Int)+20+20)=20*(t+1:Nat)+20:=by rw [w64 _ (by omega)];omega
  refine K_run hB 60 ?_
  simp [go_sem,c1']
  refine K_call rfl rfl rfl (args:=[.ref q,.i (20*t:Nat),.i (20*t+20:Nat),cmpF]) (f:=284) (by simp [go_sem]) (by simp [go_sem,hB]) hsp ?_
  refine K_run hB 100 ?_
  simp [go_sem,w1]
  exact Next.mk (t+1) (by omega) (Imp.slots (by simp [go_sem];omega) rfl rfl) (by omega)
 have c1':¬20*(t:Int)+20≤n:=by omega
 have hsp:=insert_spec (blks κr 20 t l) (l.drop (20*t)) [] (fun e he=>hK e (List.mem_of_mem_drop he)) (fun e he=>by
  rw [List.append_nil] at he
  rcases List.mem_append.1 he with he | he
  ·exact (hKb 20 t l (fun _ h=>h) e he).len
  ·exact hL e (List.mem_of_mem_drop he)) (by rw [List.append_nil,List.length_append,hbl,List.length_drop];omega) (σ:=oput σ q (.arr 11 (blks κr 20 t l++l.drop (20*t)))) (nx:=nx) (q:=q) hq (by simp [oput])
 have hnn:20*t+(l.drop (20*t)).length=n:=by rw [List.length_drop];omega
 rw [hbl,hnn,oput_twice,List.append_nil,←allBlks_at (by omega) (by omega)] at hsp
 refine K_run hB 60 ?_
 simp [go_sem,c1']
 refine K_call rfl rfl rfl (args:=[.ref q,.i (20*t:Nat),.i n,cmpF]) (f:=284) (by simp [go_sem]) (by simp [go_sem,hB]) hsp ?_
 clear hsp hnn hbl c1 c1' ht
 refine K_run hB 100 ?_
 simp [go_sem]
 refine K_loopP (α:=Nat) (fun bs=>20≤bs∧bs<2^32) (fun bs=>⟨sl [(0,.ref q),(1,.i n),(2,cmpF),(6,.i bs)],oput σ q (.arr 11 (allBlks κr bs l)),nx⟩) (fun bs=>n-bs) 20 ⟨by omega,by omega⟩ (Imp.slots (by simp [go_sem]) rfl rfl) ?_
 rintro bs ⟨g1,g2⟩
 by_cases c2:bs<n
 rotate_left
 ·have e:allBlks κr bs l=isort κr l:=allBlks_le (by omega) (by omega)
  refine K_run hB 60 ?_
  simp [go_sem,c2]
  rw [e]
  exact ⟨rfl,fun j h1 h2 h3=>absurd h3 h2⟩
 obtain ⟨b2,hb2⟩:∃b2,b2=2*bs:=⟨_,rfl⟩
 have w1:IntKind.i64.wrap (2*(bs:Int))=b2:=by rw [w64 _ (by omega)];omega
 have w1':IntKind.i64.wrap ((bs:Int)*2)=b2:=by rw [w64 _ (by omega)];omega
 refine K_run hB 60 ?_
 simp [go_sem,c2,w1]
 refine K_loopP (α:=Nat×Nat) (fun (s,a)=>a=b2*s∧a≤n) (fun (s,a)=>⟨sl [(0,.ref q),(1,.i n),(2,cmpF),(6,.i bs),(7,.i a),(8,.i (a+b2:Nat))],oput σ q (.arr 11 (blks κr b2 s l++allBlks κr bs (l.drop a))),nx⟩) (fun (s,a)=>n-a) (0,0) ⟨by simp,Nat.zero_le _⟩ (Imp.slots (by simp [go_sem]) (by simp [blks]) rfl) ?_
 rintro ⟨s,a⟩ ⟨ha,han⟩
 have hbl:(blks κr b2 s l).length=a:=by rw [blks_len b2 s l (by omega),ha]
 have hpart:∀e∈blks κr b2 s l,KR e:=hKb b2 s l fun _ h=>h
 have hdl:(l.drop a).length=n-a:=by rw [List.length_drop];omega
 have w2:IntKind.i64.wrap ((a:Int)+bs)=((a+bs:Nat):Int):=by rw [w64 _ (by omega)];omega
 by_cases c3:a+b2≤n
 ·have c3':(a:Int)+b2≤n:=by omega
  have e1:allBlks κr bs (l.drop a)=isort κr ((l.drop a).take bs)++(isort κr (((l.drop a).drop bs).take bs)++allBlks κr bs (l.drop (a+b2))):=by
   rw [allBlks_cons (by omega) (by omega),allBlks_cons (by omega) (by rw [List.length_drop];omega)]
   simp only [List.drop_drop]
   rw [show a+bs+bs=a+b2 by omega]
  have lu:(isort κr ((l.drop a).take bs)).length=bs:=by rw [isort_len,List.length_take];omega
  have lv:(isort κr (((l.drop a).drop bs).take bs)).length=bs:=by rw [isort_len,List.length_take,List.length_drop];omega
  have e2:isort κr (isort κr ((l.drop a).take bs)++isort κr (((l.drop a).drop bs).take bs))=isort κr ((l.drop a).take b2):=by
   rw [isort_app]
   congr 1
   rw [show b2=bs+bs by omega,List.take_add]
  have hsp:=symMerge_spec (bs+bs) (blks κr b2 s l) (isort κr ((l.drop a).take bs)) (isort κr (((l.drop a).drop bs).take bs)) (allBlks κr bs (l.drop (a+b2))) a (a+bs) (a+b2) (by omega)
   ⟨hbl.symm,by omega,by omega,by omega,by omega,(isort_sort _).srt,(isort_sort _).srt,fun e he=>by
    rcases List.mem_append.1 he with he | he
    ·exact hKi _ (fun x hx=>List.mem_of_mem_drop (List.mem_of_mem_take hx)) e he
    ·exact hKi _ (fun x hx=>List.mem_of_mem_drop (List.mem_of_mem_drop (List.mem_of_mem_take hx))) e he,fun e he=>by
    rw [←e1] at he
    rcases List.mem_append.1 he with he | he
    ·exact (hpart e he).len
    ·exact (hKa bs _ (fun x hx=>List.mem_of_mem_drop hx) e he).len,by rw [←e1,List.length_append,hbl,allBlks_len,hdl];omega⟩ (σ:=oput σ q (.arr 11 (blks κr b2 s l++allBlks κr bs (l.drop a)))) (nx:=nx) (q:=q) hq (by simp only [oput,if_true];rw [e1])
  rw [oput_twice,e2,←List.append_assoc] at hsp
  have e3:blks κr b2 s l++isort κr ((l.drop a).take b2)=blks κr b2 (s+1) l:=by rw [blks_snoc,ha]
  rw [e3] at hsp
  have w3:IntKind.i64.wrap ((a:Int)+b2+b2)=(a:Int)+b2+b2:=w64 _ (by omega)
  refine K_run hB 60 ?_
  simp [go_sem,c3',w2]
  refine K_call rfl rfl rfl (args:=[.ref q,.i a,.i (a+bs:Nat),.i (a+b2:Nat),cmpF]) (f:=285) (by simp [go_sem]) (by simp [go_sem,hB]) hsp ?_
  refine K_run hB 100 ?_
  simp [go_sem,w1,w3]
  exact Next.mk (s+1,a+b2) ⟨by simp only [ha,Nat.mul_succ],by simp only;omega⟩ (Imp.slots (by simp [go_sem]) rfl rfl) (by simp only;omega)
 have c3':¬(a:Int)+b2≤n:=by omega
 have hfin:allBlks κr b2 l=blks κr b2 s l++isort κr (l.drop a):=by rw [allBlks_at (t:=s) (by omega) (by omega),ha]
 by_cases c4:a+bs<n
 ·have c4':(a:Int)+bs<n:=by omega
  have e1:allBlks κr bs (l.drop a)=isort κr ((l.drop a).take bs)++(isort κr ((l.drop a).drop bs)++[]):=by
   rw [allBlks_cons (by omega) (by omega),allBlks_small (by rw [List.length_drop];omega),List.append_nil]
  have lu:(isort κr ((l.drop a).take bs)).length=bs:=by rw [isort_len,List.length_take];omega
  have lv:(isort κr ((l.drop a).drop bs)).length=n-a-bs:=by rw [isort_len,List.length_drop];omega
  have e2:isort κr (isort κr ((l.drop a).take bs)++isort κr ((l.drop a).drop bs))=isort κr (l.drop a):=by rw [isort_app,List.take_append_drop]
  have hsp:=symMerge_spec (bs+(n-a-bs)) (blks κr b2 s l) (isort κr ((l.drop a).take bs)) (isort κr ((l.drop a).drop bs)) [] a (a+bs) n (by omega)
   ⟨hbl.symm,by omega,by omega,by omega,by omega,(isort_sort _).srt,(isort_sort _).srt,fun e he=>by
    rcases List.mem_append.1 he with he | he
    ·exact hKi _ (fun x hx=>List.mem_of_mem_drop (List.mem_of_mem_take hx)) e he
    ·exact hKi _ (fun x hx=>List.mem_of_mem_drop (List.mem_of_mem_drop hx)) e he,fun e he=>by
    rw [←e1] at he
    rcases List.mem_append.1 he with he | he
    ·exact (hpart e he).len
    ·exact (hKa bs _ (fun x hx=>List.mem_of_mem_drop hx) e he).len,by rw [←e1,List.length_append,hbl,allBlks_len,hdl];omega⟩ (σ:=oput σ q (.arr 11 (blks κr b2 s l++allBlks κr bs (l.drop a)))) (nx:=nx) (q:=q) hq (by simp only [oput,if_true];rw [e1])
  rw [oput_twice,e2,List.append_nil,←hfin] at hsp
  refine K_run hB 60 ?_
  simp [go_sem,c3',w2,c4']
  refine K_call rfl rfl rfl (args:=[.ref q,.i a,.i (a+bs:Nat),.i n,cmpF]) (f:=285) (by simp [go_sem]) (by simp [go_sem,hB]) hsp ?_
  refine K_run hB 100 ?_
  simp [go_sem,w1']
  exact Next.mk b2 ⟨by omega,by omega⟩ (Imp.slots (by simp [go_sem]) rfl rfl) (by omega)
 ·have c4':¬(a:Int)+bs<n:=by omega
  have e1:blks κr b2 s l++allBlks κr bs (l.drop a)=allBlks κr b2 l:=by rw [hfin,allBlks_le (bs:=bs) (by omega) (by omega)]
  refine K_run hB 60 ?_
  simp [go_sem,c3',w2,c4',w1']
  exact Next.mk b2 ⟨by omega,by omega⟩ (Imp.slots (by simp [go_sem]) (by rw [e1]) rfl) (by omega)
theorem sortStable_spec (l:List (List T)) (hK:∀e∈l,KR e) (hbig:l.length<2^31) {σ:Nat→AObj} {nx q:Nat} (hq:q<nx) (hσq:σ q= .arr 11 l):
  CallSpec P 225 [.ref q,cmpF] σ nx (.tup []) (oput σ q (.arr 11 (isort κr l))) nx:=by
 have hs:=stable_spec l hK hbig hq hσq
 refine CallQ.spec (spec_of Tryz.func225 rfl rfl (by simp [Tryz.f225]) fun B hB hnx hσ=>?_)
 simp only [Tryz.f225] at hB ⊢
 refine K_run hB 100 ?_
 simp [go_sem,hσq]
 refine K_call rfl rfl rfl (args:=[.ref q,.i l.length,cmpF]) (f:=256) (by simp [go_sem]) (by simp [go_sem,hB]) hs ?_
 refine K_run hB 100 ?_
 simp [go_sem]
end Go.Proofs.YtnoifgjiipgpoaaGreatDoor

set_option maxRecDepth 4000
namespace Go.Proofs.YtnoifgjiipgpoaaGreatDoor
open Go Go.Proofs.YtnoifgjiipgpoaaGreatDoor.R
theorem sets_pure (s:State):Pure P 259 [s.a] (.agg [.u s.must,.u s.can,.u s.on]):=by
 refine pure_of Tryz.func259 rfl rfl (by simp [Tryz.f259]) (by simp [bnd,bnd.bndL,State.a,State.cs]) (by simp [bnd,bnd.bndL]) fun B hB hnx=>?_
 simp only [Tryz.f259] at hB ⊢
 refine K_run hB 100 ?_
 simp [go_sem,State.a,State.cs]
theorem sets_guard:P.eqGuardType P.depth 239=false:=by kernel_rfl
theorem than_pure (a b:Node):Pure P 231 [a.a,b.a] (.b (a.than b)):=by
 generalize hR:a.than b=R
 refine pure_of Tryz.func231 rfl rfl (by simp [Tryz.f231]) (by simp [bnd,bnd.bndL,Node.a,Node.cs]) (by simp [bnd,bnd.bndL]) fun B hB hnx=>?_
 simp only [Tryz.f231] at hB ⊢
 have hs1:=sets_pure a.s
 have hs2:=sets_pure b.s
 have hc:=covers_pure a.s b.s
 rw [Node.than] at hR
 refine K_run hB 100 ?_
 simp [go_sem,Node.a,Node.cs]
 refine K_drawn [] rfl (by rw [hB];kernel_rfl) ?_
 by_cases c1:a.cost≤b.cost
 ·rw [decide_eq_true c1,Bool.true_and] at hR
  refine K_run hB 100 ?_
  simp [go_sem,c1]
  refine K_dCallP rfl rfl rfl (args:=[a.s.a]) (f:=259) (by simp [go_sem,State.a,State.cs]) (hs1) ?_
  refine K_run hB 100 ?_
  simp [go_sem]
  refine K_dCallP rfl rfl rfl (args:=[b.s.a]) (f:=259) (by simp [go_sem,State.a,State.cs]) (hs2) ?_
  refine K_run hB 100 ?_
  simp [go_sem]
  refine K_dEq3 (x:=.tmp 13) (y:=.tmp 16) (a:=a.s.must) (b:=a.s.can) (c:=a.s.on) (a':=b.s.must) (b':=b.s.can) (c':=b.s.on) rfl rfl (by simp [go_sem]) (by simp [go_sem]) sets_guard (e:=89) (by kernel_rfl) (Option.some_get (show (P.info? 89).isSome=true by kernel_rfl)).symm (by kernel_rfl) (by kernel_rfl) (by kernel_rfl) ?_
  have he:(((a.s.must:Int)==(b.s.must:Int))&&(((a.s.can:Int)==(b.s.can:Int))&&((a.s.on:Int)==(b.s.on:Int))))=(decide (a.s.must=b.s.must)&&decide (a.s.can=b.s.can)&&decide (a.s.on=b.s.on)):=by
   rw [Bool.eq_iff_iff]
   simp only [Bool.and_eq_true,beq_iff_eq,decide_eq_true_eq,and_assoc]
   omega
  rw [he]
  cases c2:(decide (a.s.must=b.s.must)&&decide (a.s.can=b.s.can)&&decide (a.s.on=b.s.on)) with
  |false=>
   rw [c2,Bool.false_and] at hR
   subst hR
   refine K_run hB 100 ?_
   simp [go_sem]
  |true=>
   rw [c2,Bool.true_and] at hR
   rw [hR] at hc
   refine K_run hB 100 ?_
   simp [go_sem]
   refine K_dCallP rfl rfl rfl (args:=[a.s.a,b.s.a]) (f:=207) (by simp [go_sem,State.a,State.cs]) (hc) ?_
   refine K_run hB 100 ?_
   simp [go_sem]
 ·rw [decide_eq_false c1,Bool.false_and] at hR
  subst hR
  refine K_run hB 100 ?_
  simp [go_sem,c1]
theorem front1_spec (a b:Node) {σ:Nat→AObj} {nx q:Nat} (hq:q<nx) (hb:σ q= .box b.cs):CallSpec P 230 [a.a,.ptr q 0] σ nx (.b (a.than b)) σ nx:=by
 have hth:=than_pure a b
 have e:σ=oput σ q (σ q):=by funext i;by_cases h:i=q<;>simp [oput,h]
 have h:CallSpec P 230 [a.a,.ptr q 0] σ nx (.b (a.than b)) (oput σ q (σ q)) nx:=by
  refine spec_down Tryz.func230 rfl rfl (by simp [Tryz.f230]) hq (by rw [hb];simp [bndO,bnd,bnd.bndL,Node.cs]) (by simp [bnd]) fun hk B hB hnx hσ=>?_
  simp only [Tryz.f230] at hB ⊢
  have hne:¬q=nx:=by omega
  refine K_run hB 100 ?_
  simp [go_sem,Node.a,Node.cs,hb,hne]
  refine K_call rfl rfl rfl (args:=[a.a,b.a]) (f:=231) (by simp [go_sem,Node.a,Node.cs]) (by simp [go_sem,hB]) ((hth).spec _ _) ?_
  refine K_run hB 100 ?_
  simp [go_sem]
  exact ⟨by simp [hne,hb,Node.cs],fun i h1 h2 h3=>by omega⟩
 rw [←e] at h
 exact h
theorem front2_spec (a b:Node) {σ:Nat→AObj} {nx q:Nat} (hq:q<nx) (hb:σ q= .box b.cs):CallSpec P 233 [a.a,.ptr q 0] σ nx (.b (b.than a)) σ nx:=by
 have hth:=than_pure b a
 have e:σ=oput σ q (σ q):=by funext i;by_cases h:i=q<;>simp [oput,h]
 have h:CallSpec P 233 [a.a,.ptr q 0] σ nx (.b (b.than a)) (oput σ q (σ q)) nx:=by
  refine spec_down Tryz.func233 rfl rfl (by simp [Tryz.f233]) hq (by rw [hb];simp [bndO,bnd,bnd.bndL,Node.cs]) (by simp [bnd]) fun hk B hB hnx hσ=>?_
  simp only [Tryz.f233] at hB ⊢
  have hne:¬q=nx:=by omega
  refine K_run hB 100 ?_
  simp [go_sem,Node.a,Node.cs,hb,hne]
  refine K_call rfl rfl rfl (args:=[b.a,a.a]) (f:=231) (by simp [go_sem,Node.a,Node.cs]) (by simp [go_sem,hB]) ((hth).spec _ _) ?_
  refine K_run hB 100 ?_
  simp [go_sem]
  exact ⟨by simp [hne,hb,Node.cs],fun i h1 h2 h3=>by omega⟩
 rw [←e] at h
 exact h
def idxF (p:Node→Bool):Nat→List Node→Int
 |_,[]=>-1
 |i,n :: l=>if p n=true then (i:Int) else idxF p (i+1) l
theorem idxF_any (p:Node→Bool):∀(i:Nat) (l:List Node),(0≤idxF p i l)↔l.any p=true
 |_,[]=>by simp [idxF]
 |i,n :: l=>by
  rw [idxF,List.any_cons]
  cases h:p n with
  |true=>simp
  |false=>simp [idxF_any p (i+1) l]
theorem indexF_spec (F:List Node) (p:Node→Bool) {σ:Nat→AObj} {nx r q:Nat} {f:FuncId} (hr:σ r= .arr 10 (nodesT F)) (hF:F.length<2^31) (hf:∀n,CallSpec P f [n.a,.ptr q 0] σ nx (.b (p n)) σ nx):
  CallSpec P 258 [.ref r,.fn (.func f) [] [.ptr q 0]] σ nx (.i (idxF p 0 F)) σ nx:=by
 generalize hR:idxF p 0 F=R
 refine CallQ.spec (spec_of Tryz.func258 rfl rfl (by simp [Tryz.f258]) fun B hB hnx hσ=>?_)
 simp only [Tryz.f258] at hB ⊢
 have hil:(nodesT F).length=F.length:=List.length_map _
 have hgt:∀(k:Nat) (h:k<F.length),(nodesT F)[k]'(by rw [hil];exact h)=F[k].t:=fun k h=>nodesT_get F h
 refine K_run hB 100 ?_
 simp [go_sem,hr,hil]
 refine K_loopP (α:=Nat) (fun k=>k≤F.length∧idxF p k (F.drop k)=R) (fun k=>⟨sl [(1,.fn (.func f) [] [.ptr q 0]),(0,.ref r),(7,.i F.length),(8,.i k)],σ,nx⟩) (fun k=>F.length-k) 0 ⟨Nat.zero_le _,hR⟩ (Imp.slots (by simp [go_sem]) rfl rfl) ?_
 rintro k ⟨g1,g2⟩
 refine K_run hB 60 ?_
 simp [go_sem]
 refine fork_dec (fun hk=>?_) (fun hk=>?_)
 ·have hkk:IntKind.i64.wrap ((k:Int)+1)=((k+1:Nat):Int):=by rw [w64 ((k:Int)+1) (by omega)];rfl
  have hget:∀h:k<(nodesT F).length,(nodesT F)[k]'h=F[k].t:=fun h=>hgt k hk
  rw [List.drop_eq_getElem_cons hk,idxF] at g2
  generalize F[k]=n at *
  have hp:=hf n
  have q1:k*10 / 10=k:=by omega
  have q4:k*10 % 10=0:=by omega
  simp [go_sem,hr,hil,hk,hget,q1,q4,Node.t]
  refine K_call rfl rfl rfl (args:=[n.a,.ptr q 0]) (f:=f) (by simp [go_sem,Node.a,Node.cs]) (by simp [go_sem,hB]) hp ?_
  cases h:p n with
  |true=>
   rw [h,if_pos rfl] at g2
   subst g2
   refine K_run hB 100 ?_
   simp [go_sem]
  |false=>
   rw [h,if_neg (by simp)] at g2
   refine K_run hB 100 ?_
   simp [go_sem,hkk]
   exact Next.mk (k+1) ⟨by omega,g2⟩ (Imp.slots (by simp [go_sem]) rfl rfl) (by omega)
 ·have:k=F.length:=by omega
  subst this
  rw [List.drop_length,idxF] at g2
  subst g2
  simp [go_sem]
theorem containsF_spec (F:List Node) (p:Node→Bool) {σ:Nat→AObj} {nx r q:Nat} {f:FuncId} (hr:σ r= .arr 10 (nodesT F)) (hF:F.length<2^31) (hf:∀n,CallSpec P f [n.a,.ptr q 0] σ nx (.b (p n)) σ nx):
  CallSpec P 229 [.ref r,.fn (.func f) [] [.ptr q 0]] σ nx (.b (F.any p)) σ nx:=by
 have hi:=indexF_spec F p hr hF hf
 have ha:=idxF_any p 0 F
 refine CallQ.spec (spec_of Tryz.func229 rfl rfl (by simp [Tryz.f229]) fun B hB hnx hσ=>?_)
 simp only [Tryz.f229] at hB ⊢
 generalize idxF p 0 F=i at *
 refine K_run hB 100 ?_
 simp [go_sem]
 refine K_call rfl rfl rfl (args:=[.ref r,.fn (.func f) [] [.ptr q 0]]) (f:=258) (by simp [go_sem]) (by simp [go_sem,hB]) hi ?_
 refine K_run hB 100 ?_
 simp [go_sem]
 rw [Bool.eq_iff_iff,decide_eq_true_eq]
 exact ha
end Go.Proofs.YtnoifgjiipgpoaaGreatDoor

set_option maxRecDepth 4000
namespace Go.Proofs.YtnoifgjiipgpoaaGreatDoor
open Go Go.Proofs.YtnoifgjiipgpoaaGreatDoor.R
theorem idxF_cases (p:Node→Bool):∀(i:Nat) (l:List Node),(idxF p i l= -1∧l.filter (fun n=>!p n)=l)∨∃k,∃h:k<l.length,idxF p i l=((i+k:Nat):Int)∧p l[k]=true∧(l.take k).filter (fun n=>!p n)=l.take k
 |i,[]=>.inl ⟨rfl,rfl⟩
 |i,n :: l=>by
  rw [idxF]
  cases h:p n with
  |true=>exact .inr ⟨0,by simp,by simp,by simpa using h,by simp⟩
  |false=>
   simp only [Bool.false_eq_true,if_false]
   rcases idxF_cases p (i+1) l with ⟨h1,h2⟩ | ⟨k,hk,h1,h2,h3⟩
   ·exact .inl ⟨h1,by rw [List.filter_cons,h];simp [h2]⟩
   ·exact .inr ⟨k+1,by simpa using hk,by rw [h1];congr 1;omega,by simpa using h2,by rw [List.take_succ_cons,List.filter_cons,h];simp [h3]⟩
theorem deleteF_spec (F:List Node) (p:Node→Bool) {σ:Nat→AObj} {nx r q:Nat} {f:FuncId} (hr:σ r= .arr 10 (nodesT F)) (hrn:r<nx) (hq:q<nx) (hrq:q≠r) (hF:F.length<2^31) (hf:∀n σ' nx',σ' q=σ q→nx≤nx'→CallSpec P f [n.a,.ptr q 0] σ' nx' (.b (p n)) σ' nx'):
  CallQ P 232 [.ref r,.fn (.func f) [] [.ptr q 0]] σ nx fun v σ' nx'=>∃g,v= .ref g∧σ' g= .arr 10 (nodesT (F.filter fun n=>!p n))∧nx≤nx'∧g<nx'∧(g=r∨nx≤g)∧∀i,i<nx→i≠r→σ' i=σ i:=by
 have hi:=indexF_spec F p (q:=q) hr hF fun n=>hf n σ nx rfl (Nat.le_refl _)
 have hc:=idxF_cases p 0 F
 refine spec_of Tryz.func232 rfl rfl (by simp [Tryz.f232]) fun B hB hnx hσ=>?_
 simp only [Tryz.f232] at hB ⊢
 refine K_run hB 100 ?_
 simp [go_sem]
 refine K_call rfl rfl rfl (args:=[.ref r,.fn (.func f) [] [.ptr q 0]]) (f:=258) (by simp [go_sem]) (by simp [go_sem,hB]) hi ?_
 rcases hc with ⟨h1,h2⟩ | ⟨k,hk,h1,h2,h3⟩
 ·rw [h1,h2]
  refine K_run hB 100 ?_
  simp [go_sem]
  exact ⟨hr,hrn⟩
 ·rw [Nat.zero_add] at h1
  rw [h1]
  have hkk:IntKind.i64.wrap ((k:Int)+1)=((k+1:Nat):Int):=by rw [w64 ((k:Int)+1) (by omega)];rfl
  have hk1:¬(k:Int)= -1:=by omega
  refine K_run hB 100 ?_
  simp [go_sem,hkk,hk1]
  refine K_loopP (α:=Nat×Nat×List Node×(Nat→AObj)×Nat) (fun (j,i,X,σ1,n1)=>j≤F.length∧i<j∧X.length=F.length∧X.take i=(F.take j).filter (fun n=>!p n)∧X.drop j=F.drop j∧σ1 r= .arr 10 (nodesT X)∧nx≤n1∧∀a,a<nx→a≠r→σ1 a=σ a)
   (fun (j,i,X,σ1,n1)=>⟨sl [(0,.ref r),(1,.fn (.func f) [] [.ptr q 0]),(5,.i i),(6,.i j)],σ1,n1⟩) (fun a=>F.length-a.1) (k+1,k,F,σ,nx) ?_ (Imp.slots (by simp [go_sem]) rfl rfl) ?_
  ·refine ⟨by omega,by omega,rfl,?_,rfl,hr,Nat.le_refl _,fun a _ _=>rfl⟩
   rw [List.take_succ_eq_append_getElem hk,List.filter_append,h3]
   simp [h2]
  rintro ⟨j,i,X,σ1,n1⟩ ⟨g1,g2,g3,g4,g5,g6,g7,g8⟩
  have hil:(nodesT X).length=X.length:=List.length_map _
  refine K_run hB 60 ?_
  simp [go_sem,g6,hil,g3]
  refine fork_dec (fun hj=>?_) (fun hj=>?_)
  ·have hjj:IntKind.i64.wrap ((j:Int)+1)=((j+1:Nat):Int):=by rw [w64 ((j:Int)+1) (by omega)];rfl
   have hii:IntKind.i64.wrap ((i:Int)+1)=((i+1:Nat):Int):=by rw [w64 ((i:Int)+1) (by omega)];rfl
   have hjX:j<X.length:=by omega
   have hXj:X[j]=F[j]:=by
    have e1:=List.drop_eq_getElem_cons hjX
    have e2:=List.drop_eq_getElem_cons hj
    rw [g5,e2] at e1
    exact (List.cons.inj e1).1.symm
   have hget:∀h:j<(nodesT X).length,(nodesT X)[j]'h=F[j].t:=fun h=>by rw [nodesT_get X hjX,hXj]
   have htk:=List.take_succ_eq_append_getElem hj
   have hdr:X.drop (j+1)=F.drop (j+1):=by
    have e1:=List.drop_eq_getElem_cons hjX
    have e2:=List.drop_eq_getElem_cons hj
    rw [g5,e2] at e1
    exact (List.cons.inj e1).2.symm
   generalize F[j]=m at *
   have q1:j*10 / 10=j:=by omega
   have q4:j*10 % 10=0:=by omega
   have hrn1:¬r=n1:=by omega
   have hqn1:¬q=n1:=by omega
   have hiX:i<X.length:=by omega
   have hgi:∀h:i<(nodesT X).length,(nodesT X)[i]'h=X[i].t:=fun h=>nodesT_get X hiX
   have hiF:i<F.length:=by omega
   have q5:i*10 / 10=i:=by omega
   have q6:i*10 % 10=0:=by omega
   have hσq:(oput (oput σ1 n1 (.box [.i 0,.i 0,.i 0,.i 0,.i 0,.u 0,.u 0,.u 0,.i 0,.fsl []])) n1 (.box m.cs)) q=σ q:=by simp [oput,hqn1,g8 q hq hrq]
   have hfm:=hf m _ (n1+1) hσq (by omega)
   simp [go_sem,g6,hil,hj,hjX,hget,q1,q4,Node.t,g3]
   refine K_call rfl rfl rfl (args:=[m.a,.ptr q 0]) (f:=f) (by simp [go_sem,Node.a,Node.cs]) (by simp [go_sem,hB]) (hf m _ _ (by simp [oput,hqn1,g8 q hq hrq]) (by simp only;omega)) ?_
   cases h:p m with
   |true=>
    refine K_run hB 100 ?_
    simp [go_sem,hjj]
    refine Next.mk (j+1,i,X,_,n1+1) ?_ (Imp.slots (by simp [go_sem]) rfl rfl) (by simp only;omega)
    refine ⟨by simp only;omega,by simp only;omega,g3,?_,hdr,?_,by simp only;omega,fun a h1 h2=>?_⟩
    ·rw [htk,List.filter_append,g4];simp [h]
    ·simp [oput,hrn1,g6]
    ·simp [oput,show ¬a=n1 by omega,g8 a h1 h2]
   |false=>
    refine K_run hB 100 ?_
    simp [go_sem,hjj,hii,g6,hil,g3,hrn1,hiF,hiX,hgi,q5,q6,Node.t]
    refine Next.mk (j+1,i+1,X.set i m,_,n1+1) ?_ (Imp.slots (by simp [go_sem]) rfl rfl) (by simp only;omega)
    refine ⟨by simp only;omega,by simp only;omega,by simp only [List.length_set];exact g3,?_,?_,?_,by simp only;omega,fun a h1 h2=>?_⟩
    ·rw [htk,List.filter_append,←g4,List.take_succ_eq_append_getElem (by rw [List.length_set];exact hiX),List.take_set,List.set_eq_of_length_le (by rw [List.length_take];omega)]
     simp [h]
    ·rw [List.drop_set_of_lt (by omega)];exact hdr
    ·simp [oput,nodesT,Node.t,List.map_set]
    ·simp [oput,h2,show ¬a=n1 by omega,g8 a h1 h2]
  ·have:j=F.length:=by omega
   subst this
   rw [List.take_length] at g4
   have hz0:∀es:List (List T),∀z,((nodesT X).take i++List.replicate ((nodesT X).length-i) z).take i=(nodesT X).take i:=fun _ z=>by rw [List.take_append_of_le_length (by rw [List.length_take];omega),List.take_take,Nat.min_self]
   simp [go_sem]
   refine K_clear (ik:=.i64) (x:=.tmp 36) (ix:=.tmp 37) (d1:=38) (q:=r) (n:=i) (es:=nodesT X) (z:=[.i 0,.i 0,.i 0,.i 0,.i 0,.v (.int .u64 0),.v (.int .u64 0),.v (.int .u64 0),.i 0,.sl []]) rfl rfl rfl rfl rfl rfl rfl rfl (by simp [go_sem,hB]) rfl tt85 rfl tt94 rfl (by simp [go_sem]) g6 (by simp [go_sem]) (by omega) (by omega) ?_
   refine K_run hB 100 ?_
   simp [go_sem]
   have hlen2:((nodesT X).take i++List.replicate ((nodesT X).length-i) ([.i 0,.i 0,.i 0,.i 0,.i 0,.v (.int .u64 0),.v (.int .u64 0),.v (.int .u64 0),.i 0,.sl []]:List T)).length=F.length:=by rw [List.length_append,List.length_take,List.length_replicate];omega
   refine K_front (ik:=.i64) (x:=.tmp 39) (ix:=.tmp 40) (q:=r) (n:=i) (sz:=10) rfl rfl (by simp [go_sem,hB]) tt85 rfl tt94 (by simp [go_sem]) (by simp [oput];rfl) (by simp [go_sem]) (by rw [hlen2];omega) (by rw [hlen2];omega) ?_
   rw [hz0 [] _]
   have hti:(nodesT X).take i=nodesT (X.take i):=by simp [nodesT,List.map_take]
   rw [hti,g4]
   refine K_run hB 100 ?_
   simp [go_sem]
   refine ⟨by omega,by omega,fun a h1 h2=>?_⟩
   simp [h2,show ¬a=n1 by omega,g8 a h1 h2]
end Go.Proofs.YtnoifgjiipgpoaaGreatDoor

set_option maxRecDepth 4000
namespace Go.Proofs.YtnoifgjiipgpoaaGreatDoor
open Go Go.Proofs.YtnoifgjiipgpoaaGreatDoor.R
theorem front1_len (out:List Node) (b:Node):(front1 out b).length≤out.length+1:=by
 unfold front1
 split
 ·omega
 ·have:=List.length_filter_le (fun a=>!b.than a) out
  rw [List.length_append,List.length_cons,List.length_nil]
  omega
theorem front_pure (l:List Node) (hl:l.length<2^31) (hn:∀n∈l,n.path.length<2^31):Pure P 194 [.t (.sl (nodesT l))] (.t (.sl (nodesT (frontL l)))):=by
 generalize hR:frontL l=R
 refine pure_of Tryz.func194 rfl rfl (by simp [Tryz.f194]) (by simp [bnd,bnd.bndL]) (by simp [bnd,bnd.bndL]) fun B hB hnx=>?_
 simp only [Tryz.f194] at hB ⊢
 have hil:(nodesT l).length=l.length:=List.length_map _
 have hgt:∀(k:Nat) (h:k<l.length),(nodesT l)[k]'(by rw [hil];exact h)=l[k].t:=fun k h=>nodesT_get l h
 generalize hX:nodesT l=X at *
 have hmost:mostLen=4294967296:=rfl
 rw [frontL] at hR
 refine K_run hB 100 ?_
 simp [go_sem,hil]
 refine K_own 3 10 (by simp [go_sem]) ?_
 refine K_loopP (α:=Nat×List Node×Nat×(Nat→AObj)×Nat) (fun (k,out,a,σ,nx)=>k≤l.length∧(l.drop k).foldl front1 out=R∧out.length≤k∧σ a= .arr 10 (nodesT out)∧a<nx)
  (fun (k,out,a,σ,nx)=>⟨sl [(3,.ref a),(6,.t (.sl X)),(7,.i l.length),(8,.i k)],σ,nx⟩) (fun a=>l.length-a.1) (0,[],0,_,1) ?_ (Imp.slots (by simp [go_sem,hil]) rfl rfl) ?_
 ·exact ⟨Nat.zero_le _,hR,Nat.le_refl _,by simp [oput,nodesT],by omega⟩
 rintro ⟨k,out,a,σ,nx⟩ ⟨g1,g2,g3,g4,g5⟩
 refine K_run hB 60 ?_
 simp [go_sem]
 refine fork_dec (fun hk=>?_) (fun hk=>?_)
 ·have hkk:IntKind.i64.wrap ((k:Int)+1)=((k+1:Nat):Int):=by rw [w64 ((k:Int)+1) (by omega)];rfl
  have hget:∀h:k<X.length,X[k]'h=l[k].t:=fun h=>hgt k hk
  rw [List.drop_eq_getElem_cons hk,List.foldl_cons] at g2
  have hpath:=hn l[k] (List.getElem_mem _)
  generalize l[k]=m at *
  have hcl:=clone_spec m.path (by omega)
  have hfr:front1 out m=if out.any (fun a=>a.than m)=true then out else (out.filter fun a=>!m.than a)++[m]:=rfl
  have hfl:=front1_len out m
  have ha:¬a=nx:=by omega
  simp [go_sem,hil,hk,hget,Node.t]
  refine K_call rfl rfl rfl (args:=[.ref a,.fn (.func 230) [] [.ptr nx 0]]) (f:=229) (by simp [go_sem]) (by simp [go_sem,hB]) (containsF_spec out (fun c=>c.than m) (by simp [oput,ha,g4]) (by omega) fun c=>front1_spec c m (by simp only;omega) (by simp [oput,Node.cs])) ?_
  cases hany:out.any (fun c=>c.than m) with
  |true=>
   rw [hany,if_pos rfl] at hfr
   rw [hfr] at g2
   refine K_run hB 100 ?_
   simp [go_sem,hkk]
   exact Next.mk (k+1,out,a,_,nx+1) ⟨by simp only;omega,g2,by simp only;omega,by simp [oput,ha,g4],by simp only;omega⟩ (Imp.slots (by simp [go_sem]) rfl rfl) (by simp only;omega)
  |false=>
   rw [hany,if_neg (by simp)] at hfr
   rw [hfr] at g2 hfl
   refine K_run hB 100 ?_
   simp [go_sem]
   refine K_callQ rfl rfl rfl (args:=[.ref a,.fn (.func 233) [] [.ptr nx 0]]) (f:=232) (by simp [go_sem]) (by simp [go_sem,hB]) (deleteF_spec out (fun c=>m.than c) (by simp [oput,ha,g4]) (by simp only;omega) (by simp only;omega) (by omega) (by omega) fun c σ' nx' h1 h2=>front2_spec c m (by simp only at h2;omega) (by rw [h1];simp [oput,Node.cs])) ?_
   rintro v σ2 n2 ⟨g,rfl,d1,d2,d3,d4,d5⟩
   have e1:σ2 nx= .box m.cs:=by rw [d5 nx (by simp only;omega) (by omega)];simp [oput,Node.cs]
   simp only at d2 d4
   have hgn:¬g=nx:=by omega
   generalize (out.filter fun c=>!m.than c)=O at *
   refine K_run hB 100 ?_
   simp [go_sem,e1,Node.cs]
   refine K_call rfl rfl rfl (args:=[.t (.sl (ints m.path))]) (f:=93) (by simp [go_sem]) (by simp [go_sem,hB]) (hcl _ _) ?_
   obtain ⟨σ5,hσ5⟩:∃σ5:Nat→AObj,σ5=fun j=>if j=n2 then AObj.dead else frzO n2 (ints m.path) (oput σ2 n2 (.arr 1 (ints m.path)) j):=⟨_,rfl⟩
   have f1:σ5 nx= .box m.cs:=by simp [hσ5,oput,show ¬nx=n2 by omega,e1,frzO,frz1,frz1.frzL,Node.cs]
   have f2:σ5 g= .arr 10 (nodesT O):=by simp [hσ5,oput,show ¬g=n2 by omega,d1,frzO]
   have hlO:(nodesT O).length=O.length:=List.length_map _
   have hcap:O.length+1≤mostLen:=by rw [List.length_append,List.length_cons,List.length_nil] at hfl;omega
   refine K_imp ((Imp.freeze (q:=n2) (sz:=1) (es:=ints m.path) (by simp [oput])).trans (Imp.slots (l:=[(3,.ref g),(5,.ptr nx 0),(6,.t (.sl X)),(7,.i l.length),(8,.i k),(20,.t (.sl (ints m.path)))]) (by simp [go_sem,frz1,frz1.frzL,show ¬g=n2 by omega]) hσ5 rfl)) ?_
   refine K_run hB 100 ?_
   simp [go_sem,f1,f2,Node.cs,hgn,hlO,hcap,hkk]
   refine Next.mk (k+1,O++[m],n2+1,_,n2+2) ?_ (Imp.slots (by simp [go_sem]) rfl rfl) (by simp only;omega)
   refine ⟨by simp only;omega,g2,by simp only;omega,?_,by simp only;omega⟩
   simp [oput,nodesT,Node.t]
 ·have:k=l.length:=by omega
  subst this
  rw [List.drop_length,List.foldl_nil] at g2
  subst g2
  simp [go_sem,g4]
end Go.Proofs.YtnoifgjiipgpoaaGreatDoor

set_option maxRecDepth 4000
set_option maxHeartbeats 1000000
namespace Go.Proofs.YtnoifgjiipgpoaaGreatDoor
open Go Go.Proofs.YtnoifgjiipgpoaaGreatDoor.R
def Inst.sortN (x:Inst) (l:List Node):List Node:=isort x.of l
def Inst.keyT (x:Inst) (n:Node):List T:=n.t++[.i (x.of n)]
theorem Inst.keys_sort (x:Inst) (l:List Node):isort κr (l.map x.keyT)=(x.sortN l).map x.keyT:=by
 rw [←isort_map (κ:=κr) x.keyT l]
 congr 2
theorem Inst.sortN_len (x:Inst) (l:List Node):(x.sortN l).length=l.length:=isort_len l
theorem Inst.sortN_mem {x:Inst} {l:List Node} {n:Node}:n∈x.sortN l↔n∈l:=isort_mem
theorem sorted1_spec (x:Inst) (n:Node) (hl:x.stops.length<2^31) (ho:n.s.ok) {σ:Nat→AObj} {nx q:Nat} (hq:q<nx) (hb:σ q= .box x.cs):CallSpec P 189 [n.a,.ptr q 0] σ nx (.i (x.of n)) σ nx:=by
 have hth:=of_pure x n hl ho
 have e:σ=oput σ q (σ q):=by funext i;by_cases h:i=q<;>simp [oput,h]
 have h:CallSpec P 189 [n.a,.ptr q 0] σ nx (.i (x.of n)) (oput σ q (σ q)) nx:=by
  refine spec_down Tryz.func189 rfl rfl (by simp [Tryz.f189]) hq (by rw [hb];simp [bndO,bnd,bnd.bndL,Inst.cs]) (by simp [bnd]) fun hk B hB hnx hσ=>?_
  simp only [Tryz.f189] at hB ⊢
  have hne:¬q=nx:=by omega
  refine K_run hB 100 ?_
  simp [go_sem,Node.a,Node.cs,hb,hne,Inst.cs]
  refine K_call rfl rfl rfl (args:=[x.a,n.a]) (f:=84) (by simp [go_sem,Inst.a,Node.a,Node.cs]) (by simp [go_sem,hB]) ((hth).spec _ _) ?_
  refine K_run hB 100 ?_
  simp [go_sem]
  exact ⟨by simp [hne,hb,Inst.cs],fun i h1 h2 h3=>by omega⟩
 rw [←e] at h
 exact h
theorem sortedF_spec (x:Inst) (l:List Node) (hx:x.stops.length<2^31) (hl:l.length<2^31) (ho:∀n∈l,n.s.ok) {σ:Nat→AObj} {nx q:Nat} (hq:q<nx) (hb:σ q= .box x.cs):
  CallSpec P 188 [.t (.sl (nodesT l)),.fn (.func 189) [] [.ptr q 0]] σ nx (.t (.sl (nodesT (x.sortN l)))) (oput σ q (.box x.cs)) nx:=by
 refine spec_down Tryz.func188 rfl rfl (by simp [Tryz.f188]) hq (by simp [bndO,bnd,bnd.bndL,Inst.cs]) (by simp [bnd,bnd.bndL]) fun hk0 B hB hnx hσ=>?_
 simp only [Tryz.f188] at hB ⊢
 refine K_after ?_
 generalize hpost:(fun (e:Exit) (s:St)=>∃t,Imp B s t∧_)=post
 have hil:(nodesT l).length=l.length:=List.length_map _
 have hgt:∀(k:Nat) (h:k<l.length),(nodesT l)[k]'(by rw [hil];exact h)=l[k].t:=fun k h=>nodesT_get l h
 generalize hX:nodesT l=X at *
 have hmost:mostLen=4294967296:=rfl
 obtain ⟨K,hK⟩:∃K,K=l.map x.keyT:=⟨_,rfl⟩
 have hKl:K.length=l.length:=by rw [hK,List.length_map]
 refine K_run hB 100 ?_
 simp [go_sem,hil]
 refine K_own 5 11 (by simp [go_sem]) ?_
 refine K_loopP (α:=Nat×Nat×(Nat→AObj)×Nat) (fun (k,a,σ',ny)=>k≤l.length∧σ' a= .arr 11 (K.take k)∧nx≤a∧a<ny∧σ' q= .box x.cs∧∀i,i<nx→i≠q→σ' i=σ i)
  (fun (k,a,σ',ny)=>⟨sl [(1,.fn (.func 189) [] [.ptr q 0]),(5,.ref a),(11,.t (.sl X)),(12,.i l.length),(13,.i k)],σ',ny⟩) (fun a=>l.length-a.1) (0,nx,_,nx+1) ?_ (Imp.slots (by simp [go_sem,hil]) rfl rfl) ?_
 ·exact ⟨Nat.zero_le _,by simp [oput],Nat.le_refl _,by omega,by simp [oput,show ¬q=nx by omega,hb],fun i h1 h2=>by simp [oput,show ¬i=nx by omega]⟩
 rintro ⟨k,a,σ',ny⟩ ⟨g1,g2,g3,g4,g5,g6⟩
 refine K_run hB 60 ?_
 simp [go_sem]
 refine fork_dec (fun hk=>?_) (fun hk=>?_)
 ·have hkk:IntKind.i64.wrap ((k:Int)+1)=((k+1:Nat):Int):=by rw [w64 ((k:Int)+1) (by omega)];rfl
  have hget:∀h:k<X.length,X[k]'h=l[k].t:=fun h=>hgt k hk
  have hmem:=ho l[k] (List.getElem_mem _)
  have htk:K.take (k+1)=K.take k++[x.keyT l[k]]:=by rw [List.take_add_one,List.getElem?_eq_getElem (by omega)];simp [hK]
  have hkl:(K.take k).length=k:=by rw [List.length_take];omega
  generalize K.take k=Kk at *
  generalize l[k]=n at *
  have ha:¬a=ny:=by omega
  have hqn:¬q=ny:=by omega
  have hs1:=fun σ'' (h:σ'' q= .box x.cs)=>sorted1_spec x n hx hmem (σ:=σ'') (nx:=ny+1) (q:=q) (by omega) h
  have hcap:k+1≤mostLen:=by omega
  simp [go_sem,hil,hk,hget,Node.t]
  refine K_drawnF [4,7] [0,1] rfl (by rw [hB];kernel_rfl) (by kernel_rfl) fun ht hf'=>?_
  refine K_run hB 4 ?_
  simp [go_sem,ht,hf',Node.cs]
  refine K_dCall rfl rfl rfl (args:=[n.a,.ptr q 0]) (f:=189) (by simp [go_sem,Node.a,Node.cs]) (hs1 _ (by simp [oput,hqn,g5])) (by decide) (okPends_does (by simp [go_sem,Node.cs])) ?_
  refine K_run hB 100 ?_
  simp [go_sem,ht,hf',g2,ha,hkl,hcap,hkk,show ¬ny=a by omega]
  refine Next.mk (k+1,ny+1,_,ny+2) ?_ (Imp.slots (by simp [go_sem]) rfl rfl) (by simp only;omega)
  exact ⟨by simp only;omega,by simp [oput,htk,Inst.keyT,Node.t],by simp only;omega,by simp only;omega,by simp [oput,hqn,g5,show ¬q=a by omega,show ¬q=ny+1 by omega],fun i h1 h2=>by simp [oput,show ¬i=ny by omega,show ¬i=a by omega,show ¬i=ny+1 by omega,g6 i h1 h2]⟩
 ·have:k=l.length:=by omega
  subst this
  rw [←hKl,List.take_length,hK] at g2
  have hS:=sortStable_spec (l.map x.keyT) (fun e he=>by
   obtain ⟨n,_,rfl⟩:=List.mem_map.1 he
   exact ⟨n,x.of n,rfl⟩) (by rw [List.length_map];exact hl) (nx:=ny) g4 g2
  rw [x.keys_sort] at hS
  have hL:=x.sortN_len l
  generalize x.sortN l=S at *
  have hkl:(S.map x.keyT).length=l.length:=by rw [List.length_map,hL]
  have hkg:∀(k:Nat) (h:k<l.length),(S.map x.keyT)[k]'(by rw [hkl];exact h)=(S[k]'(by rw [hL];exact h)).t++[.i (x.of (S[k]'(by rw [hL];exact h)))]:=fun k h=>by rw [List.getElem_map];rfl
  simp [go_sem]
  refine K_run hB 100 ?_
  simp [go_sem]
  refine K_call rfl rfl rfl (args:=[.ref a,cmpF]) (f:=225) (by simp [go_sem]) (by simp [go_sem,hB]) hS ?_
  refine K_run hB 100 ?_
  simp [go_sem,hkl]
  refine K_own 8 10 (by simp [go_sem]) ?_
  have hqa:¬q=a:=by omega
  have hany:¬a=ny:=by omega
  refine K_loopP (α:=Nat×Nat×(Nat→AObj)×Nat) (fun (k,c,τ,nz)=>k≤l.length∧τ c= .arr 10 (nodesT (S.take k))∧τ a= .arr 11 (S.map x.keyT)∧nx≤c∧c<nz∧a<nz∧c≠a∧τ q= .box x.cs∧∀i,i<nx→i≠q→τ i=σ i)
   (fun (k,c,τ,nz)=>⟨sl [(8,.ref c),(28,.ref a),(29,.i l.length),(30,.i k)],τ,nz⟩) (fun a=>l.length-a.1) (0,ny,_,ny+1) ?_ (Imp.slots (by simp [go_sem,hkl]) rfl rfl) ?_
  ·exact ⟨Nat.zero_le _,by simp [oput,nodesT],by simp [oput,hany],by omega,by omega,by omega,by omega,by simp [oput,show ¬q=ny by omega,hqa,g5],fun i h1 h2=>by simp [oput,show ¬i=ny by omega,show ¬i=a by omega,g6 i h1 h2]⟩
  clear hS g1 g2 g5 g6
  rintro ⟨k,c,τ,nz⟩ ⟨g1,g2,g7,g8,g9,ga,gb,g5,g6⟩
  refine K_run hB 60 ?_
  simp [go_sem]
  refine fork_dec (fun hk=>?_) (fun hk=>?_)
  ·have hkk:IntKind.i64.wrap ((k:Int)+1)=((k+1:Nat):Int):=by rw [w64 ((k:Int)+1) (by omega)];rfl
   have hkS:k<S.length:=by omega
   have htk:S.take (k+1)=S.take k++[S[k]]:=by rw [List.take_add_one,List.getElem?_eq_getElem hkS];rfl
   have hget:∀h:k<(S.map x.keyT).length,(S.map x.keyT)[k]'h=S[k].t++[.i (x.of S[k])]:=fun h=>hkg k hk
   have htl:(nodesT (S.take k)).length=k:=by rw [nodesT,List.length_map,List.length_take];omega
   have hcap:k+1≤mostLen:=by omega
   have q1:k*11 / 11=k:=by omega
   have q4:k*11 % 11=0:=by omega
   have hc:¬c=nz:=by omega
   generalize S[k]=n at *
   simp [go_sem,g7,hkl,hk,hget,q1,q4,Node.t,g2,hc,htl,hcap,hkk]
   refine Next.mk (k+1,nz+1,_,nz+2) ?_ (Imp.slots (by simp [go_sem]) rfl rfl) (by simp only;omega)
   exact ⟨by simp only;omega,by simp [oput,htk,nodesT,Node.t],by simp [oput,g7,show ¬a=nz by omega,show ¬a=c by omega,show ¬a=nz+1 by omega],by simp only;omega,by simp only;omega,by simp only;omega,by simp only;omega,by simp [oput,g5,show ¬q=nz by omega,show ¬q=c by omega,show ¬q=nz+1 by omega],fun i h1 h2=>by simp [oput,show ¬i=nz by omega,show ¬i=c by omega,show ¬i=nz+1 by omega,g6 i h1 h2]⟩
  ·have:k=l.length:=by omega
   subst this
   rw [←hL,List.take_length] at g2
   simp [go_sem]
   rw [←hpost]
   refine ⟨_,Imp.freeze (q:=c) (sz:=10) (es:=nodesT S) (by simp [go_sem,g2]),.inl rfl,?_⟩
   simp [go_sem,frz1,frzO,show ¬q=c by omega,g5]
   refine ⟨by omega,by simp [frz1.frzL,frz1,Inst.cs],fun y hy hyq=>?_⟩
   rw [if_neg (by omega),g6 y hy hyq]
   rcases hk0 y with e | ⟨e,_⟩
   ·rw [e]
   ·exact frzO_id (q:=c) (es:=nodesT S) (by omega) (σ y) e
theorem sorted_pure (x:Inst) (l:List Node) (hx:x.stops.length<2^31) (hl:l.length<2^31) (hn:∀n∈l,n.Fine):Pure P 139 [x.a,.t (.sl (nodesT l))] (.t (.sl (nodesT (x.sortN l)))):=by
 refine pure_of Tryz.func139 rfl rfl (by simp [Tryz.f139]) (by simp [bnd,bnd.bndL,Inst.a]) (by simp [bnd,bnd.bndL]) fun B hB hnx=>?_
 simp only [Tryz.f139] at hB ⊢
 have hil:(nodesT l).length=l.length:=List.length_map _
 have hgt:∀(k:Nat) (h:k<l.length),(nodesT l)[k]'(by rw [hil];exact h)=l[k].t:=fun k h=>nodesT_get l h
 generalize hX:nodesT l=X at *
 have hmost:mostLen=4294967296:=rfl
 refine K_run hB 100 ?_
 simp [go_sem,hil,Inst.a]
 refine K_own 5 10 (by simp [go_sem]) ?_
 refine K_loopP (α:=Nat×Nat×(Nat→AObj)×Nat) (fun (k,a,σ',ny)=>k≤l.length∧σ' a= .arr 10 (nodesT (l.take k))∧0<a∧a<ny∧σ' 0= .box x.cs)
  (fun (k,a,σ',ny)=>⟨sl [(2,.ptr 0 0),(5,.ref a),(8,.t (.sl X)),(9,.i l.length),(10,.i k)],σ',ny⟩) (fun a=>l.length-a.1) (0,1,_,2) ?_ (Imp.slots (by simp [go_sem,hil]) rfl rfl) ?_
 ·exact ⟨Nat.zero_le _,by simp [oput,nodesT],by omega,by omega,by simp [oput,Inst.cs]⟩
 rintro ⟨k,a,σ',ny⟩ ⟨g1,g2,g3,g4,g5⟩
 refine K_run hB 60 ?_
 simp [go_sem]
 refine fork_dec (fun hk=>?_) (fun hk=>?_)
 ·have hkk:IntKind.i64.wrap ((k:Int)+1)=((k+1:Nat):Int):=by rw [w64 ((k:Int)+1) (by omega)];rfl
  have hget:∀h:k<X.length,X[k]'h=l[k].t:=fun h=>hgt k hk
  have hfine:=hn l[k] (List.getElem_mem _)
  have htk:l.take (k+1)=l.take k++[l[k]]:=by rw [List.take_add_one,List.getElem?_eq_getElem hk];rfl
  have hkl:(nodesT (l.take k)).length=k:=by rw [nodesT,List.length_map,List.length_take];omega
  generalize l[k]=n at *
  have ha:¬a=ny:=by omega
  have hown:=own_pure n (by have:=hfine.len;omega)
  have hcap:k+1≤mostLen:=by omega
  simp [go_sem,hil,hk,hget,Node.t]
  refine K_call rfl rfl rfl (args:=[n.a]) (f:=185) (by simp [go_sem,Node.a,Node.cs]) (by simp [go_sem,hB]) ((hown).spec _ _) ?_
  refine K_run hB 100 ?_
  simp [go_sem,Node.a,Node.cs,g2,ha,hkl,hcap,hkk]
  refine Next.mk (k+1,ny+1,_,ny+2) ?_ (Imp.slots (by simp [go_sem]) rfl rfl) (by simp only;omega)
  exact ⟨by simp only;omega,by simp [oput,htk,nodesT,Node.t],by simp only;omega,by simp only;omega,by simp [oput,g5,show ¬0=ny by omega,show ¬0=a by omega]⟩
 ·have:k=l.length:=by omega
  subst this
  rw [List.take_length] at g2
  have hS:∀σ nx,0<nx→σ 0= .box x.cs→CallSpec P 188 [.t (.sl (nodesT l)),.fn (.func 189) [] [.ptr 0 0]] σ nx (.t (.sl (nodesT (x.sortN l)))) (oput σ 0 (.box x.cs)) nx:=fun σ nx h1 h2=>sortedF_spec x l hx hl (fun n h=>(hn n h).ok) h1 h2
  rw [hX] at hS
  obtain ⟨σ5,hσ5⟩:∃σ5:Nat→AObj,σ5=fun j=>if j=a then AObj.dead else frzO a X (σ' j):=⟨_,rfl⟩
  have f1:σ5 0= .box x.cs:=by simp [hσ5,show ¬0=a by omega,g5,frzO,frz1,frz1.frzL,Inst.cs]
  have hSS:=hS σ5 ny (by omega) f1
  simp [go_sem]
  refine K_imp ((Imp.freeze (q:=a) (sz:=10) (es:=X) (by simp [g2,hX])).trans (Imp.slots (l:=[(2,.ptr 0 0),(20,.t (.sl X)),(21,.fn (.func 189) [] [.ptr 0 0])]) (by simp [go_sem,frz1,frz1.frzL]) hσ5 rfl)) ?_
  refine K_run hB 100 ?_
  simp [go_sem]
  refine K_call rfl rfl rfl (args:=[.t (.sl X),.fn (.func 189) [] [.ptr 0 0]]) (f:=188) (by simp [go_sem]) (by simp [go_sem,hB]) hSS ?_
  refine K_run hB 100 ?_
  simp [go_sem]
end Go.Proofs.YtnoifgjiipgpoaaGreatDoor

set_option maxRecDepth 4000
set_option maxHeartbeats 1000000
namespace Go.Proofs.YtnoifgjiipgpoaaGreatDoor
open Go Go.Proofs.YtnoifgjiipgpoaaGreatDoor.R
def Inst.few (x:Inst) (W:Nat) (l:List Node) (up:Int):List Node:=(x.sortN (x.next l up)).take W
def Inst.naGo (x:Inst) (W:Nat):Nat→Node×Bool×Int→List Node→Int→Node×Bool×Int
 |0,st,_,n=>(st.1,st.2.1,n)
 |d+1,st,l,n=>if l.length=0 then (st.1,st.2.1,n) else x.naGo W d (x.look st l) (x.few W l st.2.2) (IntKind.i64.wrap (n+l.length))
def widthN (w:Int):Nat:=if w<1 then 1 else w.toNat
def Inst.narrow (x:Inst) (n:Node) (width up:Int):Node×Bool×Int:=x.naGo (widthN width) (x.meas n.s+1) (Node.zero,false,up) [n] 0
def naRes (r:Node×Bool×Int):AV:=.tup [r.1.a,.b r.2.1,.i r.2.2]
theorem few_mem {x:Inst} {W:Nat} {l:List Node} {up:Int} {n:Node} (h:n∈x.few W l up):n∈x.next l up:=Inst.sortN_mem.1 (List.mem_of_mem_take h)
theorem few_len (x:Inst) (W:Nat) (l:List Node) (up:Int):(x.few W l up).length≤W:=by rw [Inst.few,List.length_take];omega
theorem Level.few {x:Inst} {l:List Node} {d K:Nat} (h:Level x l (d+1) K) (W:Nat) (up:Int):Level x (x.few W l up) d K:=by
 have key:∀m∈x.few W l up,∃n∈l,∃j,(x.move n.s j).2.2=true∧m=x.child n j:=by
  intro m hm
  obtain ⟨n,hn,j,hj,e,_⟩:=next_mem (few_mem hm)
  exact ⟨n,hn,j,moves_mem hj,e⟩
 refine ⟨?_,?_,?_⟩
 ·intro m hm
  obtain ⟨n,hn,j,hj,rfl⟩:=key m hm
  exact move_ok x j (h.ok n hn)
 ·intro m hm
  obtain ⟨n,hn,j,hj,rfl⟩:=key m hm
  have:=meas_move hj
  have:=h.deep n hn
  show x.meas (x.move n.s j).1<d
  omega
 ·intro m hm
  obtain ⟨n,hn,j,hj,rfl⟩:=key m hm
  have:=h.path n hn
  show (n.path++[j]).length+d≤K
  rw [List.length_append]
  simp only [List.length_cons,List.length_nil]
  omega
theorem nbest_pure (x:Inst) (n:Node) (width up:Int) (hl:x.stops.length<2^31) (hw:width≤3000) (ho:n.s.ok) (hp:n.path.length<2^29):Pure P 89 [x.a,n.a,.i width,.i up] (naRes (x.narrow n width up)):=by
 generalize hR:x.narrow n width up=R
 refine pure_of Tryz.func89 rfl rfl (by simp [Tryz.f89]) (by simp [bnd,bnd.bndL,Inst.a,Node.a,Node.cs]) (by simp [bnd,bnd.bndL,naRes,Node.a,Node.cs]) fun B hB hnx=>?_
 simp only [Tryz.f89] at hB ⊢
 have hlev:=Level.root x n ho
 have hmeas:=meas_le x n.s
 rw [Inst.narrow] at hR
 generalize hd:x.meas n.s+1=d0 at *
 generalize hK:n.path.length+x.meas n.s+1=K at *
 have hW1:max width 1=(widthN width:Nat):=by unfold widthN;split<;>omega
 have hW2:widthN width≤3000:=by unfold widthN;split<;>omega
 generalize widthN width=W at *
 refine K_run hB 100 ?_
 simp [go_sem,Inst.a,Node.a,Node.cs]
 refine K_less ((Imp.looseB (b:=2) (cs:=[.i 0,.i 0,.i 0,.i 0,.i 0,.u 0,.u 0,.u 0,.i 0,.fsl []]) (by simp [oput])).trans ((Imp.looseB (b:=3) (cs:=[.i 0,.i 0,.i 0,.i 0,.i 0,.u 0,.u 0,.u 0,.i 0,.fsl []]) (by simp [oput])).trans Imp.loose)) ?_
 refine K_loopP (α:=Nat×(Node×Bool×Int)×List Node×Int×(Nat→AObj)×Nat) (fun (d,st,l,n,σ,nx)=>Level x l d K∧x.naGo W d st l n=R∧l.length≤3000∧σ 0= .box x.cs∧σ 2= .box Node.zero.cs∧σ 3= .box st.1.cs∧3<nx)
  (fun (d,st,l,n,σ,nx)=>⟨sl [(2,.i width),(3,.i st.2.2),(4,.ptr 0 0),(8,.ptr 2 0),(11,.ptr 3 0),(12,.b st.2.1),(13,.i n),(14,.t (.sl (nodesT l)))],σ,nx⟩) (fun a=>a.1) (d0,(Node.zero,false,up),[n],0,_,4) ?_ (Imp.slots (by simp [go_sem,loosen,nodesT,Node.t]) rfl rfl) ?_
 ·exact ⟨hlev,hR,by simp,by simp [oput,Inst.cs],by simp [oput,Node.zero,State.zero,Node.cs,ints,loosen],by simp [oput,Node.zero,State.zero,Node.cs,ints,loosen],by omega⟩
 rintro ⟨d,st,l,n,σ,nx⟩ ⟨g1,g2,g0,g3,g4,g5,g6⟩
 have hil:(nodesT l).length=l.length:=List.length_map _
 have hgo:x.naGo W d st l n=match d with
  |0=>(st.1,st.2.1,n)
  |d+1=>if l.length=0 then (st.1,st.2.1,n) else x.naGo W d (x.look st l) (x.few W l st.2.2) (IntKind.i64.wrap (n+l.length)):=by cases d<;>rfl
 by_cases c1:l.length=0
 ·have hr:R=(st.1,st.2.1,n):=by
   rw [←g2,hgo]
   cases d with
   |zero=>rfl
   |succ d=>simp only;rw [if_pos c1]
  subst hr
  refine K_run hB 100 ?_
  simp [go_sem,hil,c1,g4,g5,Node.cs]
  rfl
 cases d with
 |zero=>exact absurd (by rw [g1.empty];rfl) c1
 |succ d=>
  simp only at hgo
  rw [if_neg c1] at hgo
  have c4:0<l.length:=by omega
  rw [hgo] at g2
  have hx:=expand_pure x l st.2.2 hl (by omega) (fun m h=>⟨g1.ok m h,by have:=g1.path m h;omega⟩) (fun m h=>by have:=g1.path m h;omega)
  have q1:=next_len x l st.2.2
  have q2:∀m∈x.next l st.2.2,m.Fine:=by
   intro m hm
   obtain ⟨k,h,j,_,rfl,_⟩:=next_mem hm
   refine ⟨move_ok x j (g1.ok k h),?_⟩
   have:=g1.path k h
   show (k.path++[j]).length<2^31
   rw [List.length_append]
   simp only [List.length_cons,List.length_nil]
   omega
  have hf:=sorted_pure x (x.next l st.2.2) hl (by omega) q2
  have hlv:=g1.few W st.2.2
  have hfl:=few_len x W l st.2.2
  rw [Inst.few] at hlv hfl g2
  have hsl:=x.sortN_len (x.next l st.2.2)
  have hlk:x.look st l=if (x.bests l).2=true∧(x.bests l).1.cost<st.2.2 then ((x.bests l).1,true,(x.bests l).1.cost) else st:=rfl
  generalize x.look st l=st' at *
  generalize x.next l st.2.2=M at *
  generalize x.sortN M=S at *
  generalize x.bests l=Rb at *
  obtain ⟨b,is⟩:=Rb
  simp only at hlk
  have hm:min (S.length:Int) (max width 1)=(min S.length W:Nat):=by rw [hW1];omega
  have htk:S.take W=S.take (min S.length W):=by
   by_cases h:W≤S.length
   ·rw [Nat.min_eq_right h]
   ·rw [Nat.min_eq_left (by omega),List.take_length,List.take_of_length_le (by omega)]
  rw [htk] at hlv hfl g2
  have hkl:min S.length W≤S.length:=by omega
  generalize min S.length W=k at *
  have hSl:(nodesT S).length=S.length:=List.length_map _
  have hS1:=nodesT_len S
  have hSt:(nodesT S).take k=nodesT (S.take k):=by rw [nodesT,nodesT,List.map_take]
  refine K_run hB 100 ?_
  simp [go_sem,hil,c4,g3,Inst.cs]
  refine K_call rfl rfl rfl (args:=[x.a,.t (.sl (nodesT l)),.i st.2.2]) (f:=138) (by simp [go_sem,Inst.a]) (by simp [go_sem,hB]) ((hx).spec _ _) ?_
  have m0:¬0=nx:=by omega
  have m2:¬2=nx:=by omega
  have m3:¬3=nx:=by omega
  have m4:¬nx=3:=by omega
  cases is with
  |false=>
   rw [if_neg (by simp)] at hlk
   subst hlk
   refine K_run hB 100 ?_
   simp [go_sem,expRes,Node.a,Node.cs,g3,m0,Inst.cs]
   refine K_call rfl rfl rfl (args:=[x.a,.t (.sl (nodesT M))]) (f:=139) (by simp [go_sem,Inst.a]) (by simp [go_sem,hB]) ((hf).spec _ _) ?_
   refine K_run hB 100 ?_
   simp [go_sem,hSl,hm,if_pos hS1,hSt,hkl]
   refine Next.mk (d,st',S.take k,IntKind.i64.wrap (n+l.length),_,nx+1) ?_ (Imp.loose.trans (Imp.slots (by simp [go_sem,loosen]) rfl rfl)) (by simp only;omega)
   exact ⟨hlv,g2,by simp only;omega,by simp [oput,g3,m0,Inst.cs],by simp [oput,g4,m2,Node.cs],by simp [oput,g5,m3,Node.cs],by simp only;omega⟩
  |true=>
   by_cases c5:b.cost<st.2.2
   ·rw [if_pos ⟨rfl,c5⟩] at hlk
    subst hlk
    refine K_run hB 100 ?_
    simp [go_sem,expRes,Node.a,Node.cs,c5]
    refine K_drawnF [3] [1,2] rfl (by rw [hB];kernel_rfl) (by kernel_rfl) fun ht hf'=>?_
    refine K_run hB 100 ?_
    simp [go_sem,ht,hf',c5,m3,m4,m0,g3,g5,Inst.cs,Node.cs]
    refine K_call rfl rfl rfl (args:=[x.a,.t (.sl (nodesT M))]) (f:=139) (by simp [go_sem,Inst.a]) (by simp [go_sem,hB]) ((hf).spec _ _) ?_
    refine K_run hB 100 ?_
    simp [go_sem,hSl,hm,if_pos hS1,hSt,hkl]
    refine Next.mk (d,(b,true,b.cost),S.take k,IntKind.i64.wrap (n+l.length),_,nx+1) ?_ (Imp.loose.trans (Imp.slots (by simp [go_sem,loosen]) rfl rfl)) (by simp only;omega)
    exact ⟨hlv,g2,by simp only;omega,by simp [oput,g3,m0,Inst.cs],by simp [oput,g4,m2,Node.cs],by simp [oput,g5,m3,Node.cs],by simp only;omega⟩
   ·rw [if_neg (fun h=>c5 h.2)] at hlk
    subst hlk
    refine K_run hB 100 ?_
    simp [go_sem,expRes,Node.a,Node.cs,c5,g3,m0,Inst.cs]
    refine K_call rfl rfl rfl (args:=[x.a,.t (.sl (nodesT M))]) (f:=139) (by simp [go_sem,Inst.a]) (by simp [go_sem,hB]) ((hf).spec _ _) ?_
    refine K_run hB 100 ?_
    simp [go_sem,hSl,hm,if_pos hS1,hSt,hkl]
    refine Next.mk (d,st',S.take k,IntKind.i64.wrap (n+l.length),_,nx+1) ?_ (Imp.loose.trans (Imp.slots (by simp [go_sem,loosen]) rfl rfl)) (by simp only;omega)
    exact ⟨hlv,g2,by simp only;omega,by simp [oput,g3,m0,Inst.cs],by simp [oput,g4,m2,Node.cs],by simp [oput,g5,m3,Node.cs],by simp only;omega⟩
end Go.Proofs.YtnoifgjiipgpoaaGreatDoor

set_option maxRecDepth 4000
namespace Go.Proofs.YtnoifgjiipgpoaaGreatDoor
open Go Go.Proofs.YtnoifgjiipgpoaaGreatDoor.R
structure Lev (x:Inst) (l:List Node) (d:Nat):Prop where
 ok:∀n∈l,n.s.ok
 deep:∀n∈l,x.meas n.s<d
 pos:∀n∈l,n.s.Pos
 seen:∀n∈l,n.s.seenAt
 cost:∀n∈l,0≤n.cost∧n.cost+14143*(d:Int)≤1152921504606846976
theorem child_cost {x:Inst} {l:List Node} {d:Nat} (h:Lev x l (d+1)) {n:Node} (hn:n∈l) {j:Int} (hj:(x.move n.s j).2.2=true):(x.child n j).cost=n.cost+(x.move n.s j).2.1:=by
 have h1:=h.cost n hn
 have h2:=move_cost hj
 show sumI [n.cost,(x.move n.s j).2.1]=_
 rw [sumI_two h1.1 h2.1 (by omega)]
theorem Lev.sub {x:Inst} {l m:List Node} {d:Nat} (h:Lev x l d) (hs:∀n∈m,n∈l):Lev x m d:=
 ⟨fun n hn=>h.ok n (hs n hn),fun n hn=>h.deep n (hs n hn),fun n hn=>h.pos n (hs n hn),fun n hn=>h.seen n (hs n hn),fun n hn=>h.cost n (hs n hn)⟩
theorem Lev.next {x:Inst} {l:List Node} {d:Nat} (h:Lev x l (d+1)) (up:Int):Lev x (x.next l up) d:=by
 have key:∀m∈x.next l up,∃n∈l,∃j,(x.move n.s j).2.2=true∧m=x.child n j:=by
  intro m hm
  obtain ⟨n,hn,j,hj,e,_⟩:=next_mem hm
  exact ⟨n,hn,j,moves_mem hj,e⟩
 refine ⟨?_,?_,?_,?_,?_⟩<;>(intro m hm;obtain ⟨n,hn,j,hj,rfl⟩:=key m hm)
 ·exact move_ok x j (h.ok n hn)
 ·have:=meas_move hj
  have:=h.deep n hn
  show x.meas (x.move n.s j).1<d
  omega
 ·exact pos_move (h.pos n hn) (h.ok n hn) hj
 ·exact seen_step hj
 ·rw [child_cost h hn hj]
  have:=h.cost n hn
  have:=move_cost hj
  omega
theorem Lev.front {x:Inst} {l:List Node} {d:Nat} (h:Lev x l (d+1)) (up:Int):Lev x (frontL (x.next l up)) d:=(h.next up).sub fun n hn=>(front_inv _).sub n hn
theorem Lev.empty {x:Inst} {l:List Node} (h:Lev x l 0):l=[]:=by
 cases l with
 |nil=>rfl
 |cons n l=>exact absurd (h.deep n List.mem_cons_self) (by omega)
theorem Lev.root {x:Inst} {n:Node} (h1:n.s.ok) (h2:n.s.Pos) (h3:n.s.seenAt) (h4:0≤n.cost∧n.cost≤1152921504606000000):Lev x [n] (x.meas n.s+1):=by
 have:=meas_le x n.s
 refine ⟨?_,?_,?_,?_,?_⟩<;>(intro m hm;rw [List.mem_singleton.1 hm])
 ·exact h1
 ·omega
 ·exact h2
 ·exact h3
 ·omega
theorem best_fold_from (x:Inst):∀(l:List Node) (b:Node×Bool),(l.foldl x.best1 b)=b∨((l.foldl x.best1 b).2=true∧∃n∈l,(x.endS n.s).2=true∧(l.foldl x.best1 b).1.cost=sumI [n.cost,(x.endS n.s).1]∧(l.foldl x.best1 b).1.path=n.path)
 |[],b=>.inl rfl
 |n :: l,b=>by
  rw [List.foldl_cons]
  rcases best_fold_from x l (x.best1 b n) with h | ⟨h1,m,hm,h2⟩
  ·rw [h]
   unfold Inst.best1
   split
   ·rename_i hc
    exact .inr ⟨rfl,n,List.mem_cons_self,hc.1,rfl,rfl⟩
   ·exact .inl rfl
  ·exact .inr ⟨h1,m,List.mem_cons_of_mem _ hm,h2⟩
theorem bests_from {x:Inst} {l:List Node} (h:(x.bests l).2=true):∃n∈l,(x.endS n.s).2=true∧(x.bests l).1.cost=sumI [n.cost,(x.endS n.s).1]∧(x.bests l).1.path=n.path:=by
 rcases best_fold_from x l (Node.zero,false) with h1 | ⟨_,h2⟩
 ·rw [Inst.bests,h1] at h;cases h
 ·exact h2
theorem end_sum {x:Inst} {l:List Node} {d:Nat} (h:Lev x l (d+1)) {n:Node} (hn:n∈l) (he:(x.endS n.s).2=true):sumI [n.cost,(x.endS n.s).1]=n.cost+(x.endS n.s).1:=by
 have h1:=h.cost n hn
 have h2:=end_cost he
 rw [sumI_two h1.1 h2.1 (by omega)]
theorem next_way {x:Inst} (hst:x.stops.length<2^31) {l:List Node} {d:Nat} (h:Lev x l (d+1)) {n:Node} (hn:n∈l) {j:Int} {w:List Int} {c:Int} (hj:(x.move n.s j).2.2=true) (hw:x.way w (x.move n.s j).1 c) {up:Int} (hlt:n.cost+((x.move n.s j).2.1+c)<up):
  ∃m∈x.next l up,m.s=(x.move n.s j).1∧m.cost≤n.cost+(x.move n.s j).2.1:=by
 have hc:=h.cost n hn
 have hmc:=move_cost hj
 have hcc:=child_cost h hn hj
 have hwl:=way_len hw
 have hwi:=way_in hw
 have hmm:=meas_move hj
 have hdp:=h.deep n hn
 have hlow:=way_low (seen_step hj) hw
 have hof:x.of (x.child n j)<up:=by
  have:=move_seen_low (x:=x) hst (x.child n j) (n.cost+((x.move n.s j).2.1+c)) (by omega) (by rw [hcc];show _+lowP x.near (x.move n.s j).1.can≤_;omega) (by omega)
  omega
 have hmem:x.child n j∈l.flatMap (x.kids up):=by
  refine List.mem_flatMap.2 ⟨n,hn,?_⟩
  rw [Inst.kids,List.mem_filter]
  exact ⟨List.mem_map.2 ⟨j,mem_moves hj,rfl⟩,by simpa using hof⟩
 obtain ⟨m,h1,h2,h3⟩:=onceL_has hmem
 exact ⟨m,h1,h2,by omega⟩
theorem front_way {x:Inst} {l:List Node} {d:Nat} (h:Lev x l d) (hp:x.pairs≠0) {n:Node} (hn:n∈l) {w:List Int} {c:Int} (hw:x.way w n.s c):∃m∈frontL l,x.way w m.s c∧m.cost≤n.cost:=by
 obtain ⟨f,hf,hfn⟩:=(front_inv l).up n hn
 have hfl:=(front_inv l).sub f hf
 simp only [Node.than,Bool.and_eq_true,decide_eq_true_eq] at hfn
 exact ⟨f,hf,cov_way hp hfn.2 (h.pos f hfl) (h.ok f hfl) hw,hfn.1.1⟩
theorem exGo_keep (x:Inst) (most:Int):∀(d:Nat) (st:Node×Bool×Int) (l:List Node) (n:Int),stOk st→st.2.1=true→(x.exGo most d st l n).2.1=true∧(x.exGo most d st l n).1.cost≤st.2.2
 |0,st,l,n,h,hs=>⟨hs,by rw [Inst.exGo];have:=h hs;simp only;omega⟩
 |d+1,st,l,n,h,hs=>by
  rw [Inst.exGo]
  split
  ·exact ⟨hs,by have:=h hs;simp only;omega⟩
  ·split
   ·exact ⟨hs,by have:=h hs;simp only;omega⟩
   ·obtain ⟨k1,k2,k3⟩:=look_ok (x:=x) (l:=l) h
    obtain ⟨j1,j2⟩:=exGo_keep x most d (x.look st l) (frontL (x.next l st.2.2)) (IntKind.i64.wrap (n+l.length)) k1 (k3 hs)
    exact ⟨j1,by omega⟩
theorem exGo_has {x:Inst} (hst:x.stops.length<2^31) (most:Int):∀(d:Nat) (st:Node×Bool×Int) (l:List Node) (n:Int),Lev x l d→stOk st→(x.exGo most d st l n).2.2.1=true→
  ∀m∈l,∀(w:List Int) (c:Int),x.way w m.s c→m.cost+c<st.2.2→(x.exGo most d st l n).2.1=true∧(x.exGo most d st l n).1.cost≤m.cost+c
 |0,st,l,n,hl,_,_,m,hm,w,c,_,_=>by rw [hl.empty] at hm;cases hm
 |d+1,st,l,n,hl,h,hall,m,hm,w,c,hw,hlt=>by
  have c1:¬l.length=0:=by
   have:=List.length_pos_of_mem hm
   omega
  rw [Inst.exGo,if_neg c1] at hall ⊢
  by_cases c2:most<l.length
  ·rw [if_pos c2] at hall;cases hall
  rw [if_neg c2] at hall ⊢
  obtain ⟨k1,k2,k3⟩:=look_ok (x:=x) (l:=l) h
  match w,hw with
  |[],hw=>
   obtain ⟨b1,b2⟩:=bests_has hm hw.1
   rw [end_sum hl hm hw.1,←hw.2] at b2
   have hlk:x.look st l=((x.bests l).1,true,(x.bests l).1.cost):=by rw [Inst.look,if_pos ⟨b1,by omega⟩]
   obtain ⟨j1,j2⟩:=exGo_keep x most d (x.look st l) (frontL (x.next l st.2.2)) (IntKind.i64.wrap (n+l.length)) k1 (by rw [hlk])
   refine ⟨j1,?_⟩
   have:(x.look st l).2.2=(x.bests l).1.cost:=by rw [hlk]
   omega
  |j :: w,hw=>
   obtain ⟨g1,e,g2,g3⟩:=hw
   obtain ⟨q,hq,q1,q2⟩:=next_way hst hl hm g1 g2 (up:=st.2.2) (by omega)
   obtain ⟨f,hf,f1,f2⟩:=front_way (hl.next st.2.2) (move_pairs g1) hq (w:=w) (c:=e) (by rw [q1];exact g2)
   by_cases c3:f.cost+e<(x.look st l).2.2
   ·obtain ⟨i1,i2⟩:=exGo_has hst most d (x.look st l) (frontL (x.next l st.2.2)) _ (hl.front st.2.2) k1 hall f hf w e f1 c3
    exact ⟨i1,by omega⟩
   ·have hs:(x.look st l).2.1=true:=by
     unfold Inst.look at c3 ⊢
     split
     ·rfl
     ·rename_i hh
      rw [if_neg hh] at c3
      omega
    obtain ⟨j1,j2⟩:=exGo_keep x most d (x.look st l) (frontL (x.next l st.2.2)) (IntKind.i64.wrap (n+l.length)) k1 hs
    exact ⟨j1,by omega⟩
theorem exGo_from {x:Inst} (most:Int):∀(d:Nat) (st:Node×Bool×Int) (l:List Node) (n:Int),Lev x l d→stOk st→
  ((x.exGo most d st l n).2.1=st.2.1∧(x.exGo most d st l n).1=st.1)∨
  ((x.exGo most d st l n).2.1=true∧∃m∈l,∃(w:List Int) (c:Int),x.way w m.s c∧(x.exGo most d st l n).1.cost=m.cost+c∧(x.exGo most d st l n).1.path=m.path++w∧m.cost+c<st.2.2)
 |0,st,l,n,_,_=>.inl ⟨rfl,rfl⟩
 |d+1,st,l,n,hl,h=>by
  rw [Inst.exGo]
  split
  ·exact .inl ⟨rfl,rfl⟩
  split
  ·exact .inl ⟨rfl,rfl⟩
  obtain ⟨k1,k2,k3⟩:=look_ok (x:=x) (l:=l) h
  rcases exGo_from most d (x.look st l) (frontL (x.next l st.2.2)) (IntKind.i64.wrap (n+l.length)) (hl.front st.2.2) k1 with ⟨i1,i2⟩ | ⟨i1,m,hm,w,c,i2,i3,i4,i5⟩
  ·by_cases hh:(x.bests l).2=true∧(x.bests l).1.cost<st.2.2
   ·have hlk:x.look st l=((x.bests l).1,true,(x.bests l).1.cost):=by rw [Inst.look,if_pos hh]
    rw [i1,i2,hlk]
    obtain ⟨m,hm,b1,b2,b3⟩:=bests_from hh.1
    rw [end_sum hl hm b1] at b2
    exact .inr ⟨rfl,m,hm,[],_,⟨b1,rfl⟩,b2,by rw [List.append_nil];exact b3,by omega⟩
   ·have hlk:x.look st l=st:=by rw [Inst.look,if_neg hh]
    rw [i1,i2,hlk]
    exact .inl ⟨rfl,rfl⟩
  ·obtain ⟨q,hq,j,hj,rfl,_⟩:=next_mem ((front_inv _).sub m hm)
   have hj:=moves_mem hj
   have hcc:=child_cost hl hq hj
   refine .inr ⟨i1,q,hq,j :: w,(x.move q.s j).2.1+c,⟨hj,c,i2,rfl⟩,?_,?_,?_⟩
   ·rw [i3,hcc];omega
   ·rw [i4]
    show (q.path++[j])++w=_
    rw [List.append_assoc];rfl
   ·rw [hcc] at i5;omega
theorem exact_has {x:Inst} (hst:x.stops.length<2^31) {n:Node} {up most:Int} (h1:n.s.ok) (h2:n.s.Pos) (h3:n.s.seenAt) (h4:0≤n.cost∧n.cost≤1152921504606000000) (hall:(x.exact n up most).2.2.1=true) {w:List Int} {c:Int} (hw:x.way w n.s c) (hlt:n.cost+c<up):
  (x.exact n up most).2.1=true∧(x.exact n up most).1.cost≤n.cost+c:=
 exGo_has hst most _ _ _ _ (Lev.root h1 h2 h3 h4) (fun h=>by cases h) hall n List.mem_cons_self w c hw hlt
theorem exact_from {x:Inst} {n:Node} {up most:Int} (h1:n.s.ok) (h2:n.s.Pos) (h3:n.s.seenAt) (h4:0≤n.cost∧n.cost≤1152921504606000000) (hs:(x.exact n up most).2.1=true):
  ∃(w:List Int) (c:Int),x.way w n.s c∧(x.exact n up most).1.cost=n.cost+c∧(x.exact n up most).1.path=n.path++w∧n.cost+c<up:=by
 rcases exGo_from (x:=x) most _ (Node.zero,false,up) _ 0 (Lev.root h1 h2 h3 h4) (fun h=>by cases h) with ⟨i1,_⟩ | ⟨_,m,hm,w,c,i2⟩
 ·rw [Inst.exact,i1] at hs;cases hs
 ·rw [List.mem_singleton.1 hm] at i2
  exact ⟨w,c,i2⟩
end Go.Proofs.YtnoifgjiipgpoaaGreatDoor
