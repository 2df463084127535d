/- Parts of the proof: Law12b, FrontP, KeepsP, ExactP, Ways, NarrowP, PfS, PfT, Rep, PfK, Chk2, Law20, Law22, Law22b, ArgB, Whole. -/
import Derived.Test.YtackfabapangdaaGreatMF
import Derived.Test.YtackfabapangdaaGreatRows
import Derived.KernelRfl
set_option linter.all false
set_option maxHeartbeats 4000000
set_option maxRecDepth 4000
namespace Go.Proofs.YtackfabapangdaaGreat
open Go Go.Proofs.YtackfabapangdaaGreat.R
theorem goes_app (x:Inst):∀(l m:List Int) (s:State) (c:Int),x.goes (l++m) s c=(x.goes l s c).bind fun r=>x.goes m r.1 r.2
 |[],m,s,c=>rfl
 |j :: l,m,s,c=>by
  rw [List.cons_append,Inst.goes,Inst.goes]
  split
  ·exact goes_app x l m _ _
  ·rfl
theorem seen_root (x:Inst):x.rootS.seenAt:=by
 unfold Inst.rootS
 split<;>exact .inl rfl
theorem end_cost {x:Inst} {s:State} (h:(x.endS s).2=true):0≤(x.endS s).1∧(x.endS s).1≤14143:=by
 obtain ⟨_,h | h⟩:=end_is h
 ·rw [h.2.2];omega
 ·rw [h.2.2.2.2.2];exact far_le _ _
end Go.Proofs.YtackfabapangdaaGreat

set_option maxRecDepth 4000
namespace Go.Proofs.YtackfabapangdaaGreat
open Go Go.Proofs.YtackfabapangdaaGreat.R
theorem within_refl (s:Nat):withinB s s=true:=by
 rw [withinB,List.all_eq_true]
 intro i _
 cases s.testBit i<;>rfl
theorem within_trans {s t u:Nat} (h1:withinB s t=true) (h2:withinB t u=true):withinB s u=true:=by
 rw [withinB,List.all_eq_true] at *
 intro i hi
 have a:=h1 i hi
 have b:=h2 i hi
 revert a b
 cases s.testBit i<;>cases t.testBit i<;>cases u.testBit i<;>simp
def Node.than (a b:Node):Bool:=decide (a.cost≤b.cost)&&(decide (a.s.must=b.s.must)&&decide (a.s.can=b.s.can)&&decide (a.s.on=b.s.on))&&coversB a.s b.s
theorem covers_refl (s:State):coversB s s=true:=by
 simp [coversB,within_refl]
theorem covers_trans {a b c:State} (h1:coversB a b=true) (h2:coversB b c=true):coversB a c=true:=by
 simp only [coversB,Bool.and_eq_true,decide_eq_true_eq] at *
 obtain ⟨⟨⟨⟨⟨⟨⟨a1,a2⟩,a3⟩,a4⟩,a5⟩,a6⟩,a7⟩,a8⟩:=h1
 obtain ⟨⟨⟨⟨⟨⟨⟨b1,b2⟩,b3⟩,b4⟩,b5⟩,b6⟩,b7⟩,b8⟩:=h2
 exact ⟨⟨⟨⟨⟨⟨⟨a1.trans b1,within_trans a2 b2⟩,within_trans a3 b3⟩,within_trans b4 a4⟩,by omega⟩,by omega⟩,by omega⟩,by omega⟩
def blk (pre:List Node) (b:Node) (post:List Node):Bool:=pre.any (fun a=>a.than b)||post.any fun c=>c.than b&& !b.than c
end Go.Proofs.YtackfabapangdaaGreat

set_option maxRecDepth 4000
namespace Go.Proofs.YtackfabapangdaaGreat
open Go Go.Proofs.YtackfabapangdaaGreat.R
theorem canB_of {f:Nat→Bool}:∀{n k:Nat},k<n→f k=true→(k:Int)∈canB f n
 |n+1,k,h,hf=>by
  rw [canB,List.mem_append]
  by_cases e:k=n
  ·subst e
   exact .inr (by rw [if_pos hf];simp)
  ·exact .inl (canB_of (by omega) hf)
theorem mem_moves {x:Inst} {s:State} {j:Int} (h:(x.move s j).2.2=true):j∈x.moves s:=by
 have hm:x.may=true:=by
  by_cases e:j=0
  ·subst e;exact (move_home h).1
  ·exact (move_pos h e).1
 obtain ⟨p,hx⟩:=x.fit hm
 have h1:=hx.len
 have h2:=hx.pairs
 have hj:0≤j∧j<x.stops.length:=by
  by_cases e:j=0
  ·omega
  ·have:=move_pos h e
   omega
 rw [moves_can]
 have:((j.toNat:Nat):Int)=j:=by omega
 rw [←this]
 exact canB_of (by omega) (by rw [this];exact h)
end Go.Proofs.YtackfabapangdaaGreat

set_option maxRecDepth 4000
namespace Go.Proofs.YtackfabapangdaaGreat
open Go Go.Proofs.YtackfabapangdaaGreat.R
def Inst.base (x:Inst) (s:State):Nat:=((List.range (2*x.pairs.toNat+1)).filter fun j:Nat=>decide (1≤j)&& !hasB s.must (j:Int)).length+(x.cars-s.car).toNat
theorem base_move {x:Inst} {s:State} {j:Int} (h:(x.move s j).2.2=true):x.base (x.move s j).1<x.base s:=by
 by_cases e:j=0
 ·subst e
  obtain ⟨_,_,h3,h4⟩:=move_home h
  rw [h4]
  simp only [Inst.stayB,Bool.or_eq_false_iff,decide_eq_false_iff_not] at h3
  simp only [Inst.base,Inst.homeS]
  have:=h3.1.1.2
  omega
 ·obtain ⟨h1,h2,h3,h4,h5,_,_,h6⟩:=move_pos h e
  obtain ⟨p,hx⟩:=x.fit h1
  have:=hx.few
  have:=hx.pairs
  rw [h6]
  simp only [Inst.lateB,Bool.or_eq_false_iff] at h5
  simp only [Inst.base,Inst.rvisit]
  obtain ⟨k,rfl⟩:∃k:Nat,j=k:=⟨j.toNat,by omega⟩
  refine Nat.add_lt_add_right (filter_lt _ (a:=k) (List.mem_range.2 (by omega)) ?_ ?_ ?_) _
  ·rw [h5.1]
   simp only [Bool.not_false,Bool.and_true,decide_eq_true_eq]
   omega
  ·rw [has_withN (by omega)]
   simp
  ·intro b
   rw [has_withN (by omega)]
   simp only [Bool.and_eq_true,Bool.not_eq_true',Bool.or_eq_false_iff]
   exact fun h=>⟨h.1,h.2.1⟩
def Inst.meas (x:Inst) (s:State):Nat:=if x.may=true∧s.mayB x=true then x.base s else 0
theorem move_may {x:Inst} {s:State} {j:Int} (h:(x.move s j).2.2=true):x.may=true∧s.mayB x=true:=by
 by_cases e:j=0
 ·subst e
  exact ⟨(move_home h).1,(move_home h).2.1⟩
 ·exact ⟨(move_pos h e).1,(move_pos h e).2.1⟩
theorem meas_move {x:Inst} {s:State} {j:Int} (h:(x.move s j).2.2=true):x.meas (x.move s j).1<x.meas s:=by
 have h1:=base_move h
 have h2:=move_may h
 have:x.meas (x.move s j).1≤x.base (x.move s j).1:=by
  unfold Inst.meas
  split<;>omega
 have:x.meas s=x.base s:=by rw [Inst.meas,if_pos h2]
 omega
theorem meas_le (x:Inst) (s:State):x.meas s≤40:=by
 unfold Inst.meas
 split
 ·rename_i h
  obtain ⟨p,hx⟩:=x.fit h.1
  have h1:=hx.few
  have h2:=hx.pairs
  have h3:=hx.cars
  have h4:=h.2
  simp only [State.mayB,Bool.and_eq_true,decide_eq_true_eq] at h4
  have h5:=h4.1.1.1.1.1.2
  have h6:((List.range (2*x.pairs.toNat+1)).filter fun j:Nat=>decide (1≤j)&& !hasB s.must (j:Int)).length≤2*x.pairs.toNat+1:=by
   refine Nat.le_trans (List.length_filter_le _ _) ?_
   rw [List.length_range];exact Nat.le_refl _
  unfold Inst.base
  omega
 ·omega
end Go.Proofs.YtackfabapangdaaGreat

set_option maxRecDepth 4000
namespace Go.Proofs.YtackfabapangdaaGreat
open Go Go.Proofs.YtackfabapangdaaGreat.R
def Inst.way (x:Inst):List Int→State→Int→Prop
 |[],s,c=>(x.endS s).2=true∧c=(x.endS s).1
 |j :: l,s,c=>(x.move s j).2.2=true∧∃d,x.way l (x.move s j).1 d∧c=(x.move s j).2.1+d
theorem way_in {x:Inst}:∀{l:List Int} {s:State} {c:Int},x.way l s c→0≤c∧c≤14143*(l.length+1)
 |[],s,c,h=>by
  have:=end_cost h.1
  have:=h.2
  simp only [List.length_nil]
  omega
 |j :: l,s,c,h=>by
  obtain ⟨h1,d,h2,h3⟩:=h
  have:=way_in h2
  have:=move_cost h1
  rw [List.length_cons]
  omega
theorem way_len {x:Inst}:∀{l:List Int} {s:State} {c:Int},x.way l s c→l.length≤x.meas s
 |[],s,c,h=>Nat.zero_le _
 |j :: l,s,c,h=>by
  obtain ⟨h1,d,h2,h3⟩:=h
  have:=way_len h2
  have:=meas_move h1
  rw [List.length_cons]
  omega
theorem way_low {x:Inst}:∀{l:List Int} {s:State} {c:Int},s.seenAt→x.way l s c→lowP x.near s.can≤c
 |[],s,c,_,h=>by rw [h.2];exact low_end h.1
 |j :: l,s,c,hs,h=>by
  obtain ⟨h1,d,h2,h3⟩:=h
  have:=way_low (seen_step h1) h2
  have:=low_step hs h1
  omega
structure State.Pos (s:State):Prop where
 car:1≤s.car
 time:0≤s.time
 load:0≤s.load
theorem within_with {a b k:Nat} (hk:k≤63) (h:withinB a b=true):withinB (withN a k) (withN b k)=true:=by
 rw [withinB,List.all_eq_true] at *
 intro i hi
 have:=h i hi
 rw [with_bit hk,with_bit hk]
 revert this
 cases a.testBit i<;>cases b.testBit i<;>cases decide (k=i)<;>simp
theorem within_without {a b k:Nat} (hk:k≤63) (h:withinB a b=true):withinB (withoutN a k) (withoutN b k)=true:=by
 rw [withinB,List.all_eq_true] at *
 intro i hi
 have:=h i hi
 have hi':=List.mem_range.1 hi
 rw [without_bit hk hi',without_bit hk hi']
 revert this
 cases a.testBit i<;>cases b.testBit i<;>cases decide (k=i)<;>simp
theorem within_zero {a:Nat} (ha:a<2^64) (h:withinB a 0=true):a=0:=by
 refine Nat.eq_of_testBit_eq fun i=>?_
 by_cases hi:i<64
 ·rw [withinB,List.all_eq_true] at h
  have:=h i (List.mem_range.2 hi)
  revert this
  cases a.testBit i<;>simp
 ·rw [Nat.zero_testBit]
  exact Nat.testBit_lt_two_pow (Nat.lt_of_lt_of_le ha (Nat.pow_le_pow_right (by omega) (by omega)))
theorem cov_mk {a b:State} (e1:a.spot=b.spot) (e2:withinB a.must b.must=true) (e3:withinB a.on b.on=true) (e4:withinB b.can a.can=true) (e5:a.car≤b.car) (e6:a.time≤b.time) (e7:a.load≤b.load) (e8:a.first≤b.first):coversB a b=true:=by
 simp only [coversB,Bool.and_eq_true,decide_eq_true_eq]
 exact ⟨⟨⟨⟨⟨⟨⟨e1,e2⟩,e3⟩,e4⟩,e5⟩,e6⟩,e7⟩,e8⟩
theorem cov_may {x:Inst} {a b:State} (h:coversB a b=true) (hp:a.Pos) (hb:b.mayB x=true):a.mayB x=true:=by
 simp only [coversB,Bool.and_eq_true,decide_eq_true_eq] at h
 simp only [State.mayB,Bool.and_eq_true,decide_eq_true_eq] at hb ⊢
 have:=hp.car
 have:=hp.time
 have:=hp.load
 omega
theorem cov_home {x:Inst} {a b:State} (hcov:coversB a b=true) (hp:a.Pos) (ho:a.ok) (h:(x.move b 0).2.2=true):
  x.move a 0=(x.homeS a,far (x.stop b.spot) (x.stop 0),true)∧coversB (x.homeS a) (x.homeS b)=true∧(x.homeS a).Pos:=by
 have hc:=hcov
 simp only [coversB,Bool.and_eq_true,decide_eq_true_eq] at hc
 obtain ⟨⟨⟨⟨⟨⟨⟨e1,e2⟩,e3⟩,e4⟩,e5⟩,e6⟩,e7⟩,e8⟩:=hc
 obtain ⟨h1,h2,h3,h4⟩:=move_home h
 obtain ⟨p,hx⟩:=x.fit h1
 have hpp:=hx.pairs
 have ha:=cov_may hcov hp h2
 have hs:x.stayB a=false:=by
  simp only [Inst.stayB,Bool.or_eq_false_iff,decide_eq_false_iff_not] at h3 ⊢
  obtain ⟨⟨⟨⟨a1,a2⟩,a3⟩,a4⟩,a5⟩:=h3
  have hon:a.on=0:=by
   have:b.on=0:=by omega
   rw [this] at e3
   exact within_zero ho.on e3
  refine ⟨⟨⟨⟨by rw [e1];exact a1,by omega⟩,by omega⟩,?_⟩,by rw [e1];omega⟩
  cases hq:x.allB a.must with
  |false=>rfl
  |true=>
   have:=within_trans hq e2
   rw [Inst.allB] at a4
   rw [a4] at this
   cases this
 have hto:x.to a 0=(x.homeS a,true):=by rw [Inst.to,if_pos rfl,Inst.home,if_neg (by rw [hs];simp)]
 have hmv:=move_mk (j:=0) h1 ha (by omega) (by rw [hto])
 rw [hto,e1] at hmv
 have h5:=(hx.at (j:=0) (by omega) (by omega)).ready
 have h6:=hp.car
 refine ⟨hmv,cov_mk (a:=x.homeS a) (b:=x.homeS b) rfl e2 e3 e4 ?_ ?_ ?_ e8,⟨?_,?_,?_⟩⟩<;>simp only [Inst.homeS]<;>omega
theorem cov_pos {x:Inst} {a b:State} {j:Int} (hj:j≠0) (hcov:coversB a b=true) (hp:a.Pos) (h:(x.move b j).2.2=true):
  x.move a j=(x.rvisit a j (x.begins a j),far (x.stop b.spot) (x.stop j),true)∧coversB (x.rvisit a j (x.begins a j)) (x.rvisit b j (x.begins b j))=true∧(x.rvisit a j (x.begins a j)).Pos:=by
 have hc:=hcov
 simp only [coversB,Bool.and_eq_true,decide_eq_true_eq] at hc
 obtain ⟨⟨⟨⟨⟨⟨⟨e1,e2⟩,e3⟩,e4⟩,e5⟩,e6⟩,e7⟩,e8⟩:=hc
 obtain ⟨h1,h2,h3,h4,h5,h6,h7,h8⟩:=move_pos h hj
 obtain ⟨p,hx⟩:=x.fit h1
 have hpp:=hx.pairs
 have hfew:=hx.few
 have ha:=cov_may hcov hp h2
 have hbe:x.begins a j≤x.begins b j:=by
  unfold Inst.begins
  rw [e1]
  omega
 have k1:x.lateB a j=false:=by
  simp only [Inst.lateB,Bool.or_eq_false_iff,decide_eq_false_iff_not] at h5 ⊢
  refine ⟨?_,by omega⟩
  cases hq:hasB a.must j with
  |false=>rfl
  |true=>
   have:=within_has e2 j hq
   rw [h5.1] at this
   cases this
 have k2:j≤x.pairs→x.fullB a j=false:=fun hh=>by
  have:=h6 hh
  simp only [Inst.fullB,Bool.or_eq_false_iff,Bool.and_eq_false_iff,decide_eq_false_iff_not] at this ⊢
  refine ⟨by omega,?_⟩
  rcases this.2 with h9 | h9
  ·exact .inl (by rw [e1];exact h9)
  ·exact .inr (by omega)
 have k3:x.pairs<j→x.emptyB a j=false:=fun hh=>by
  have:=h7 hh
  simp only [Inst.emptyB,Bool.or_eq_false_iff,Bool.not_eq_false',decide_eq_false_iff_not] at this ⊢
  exact ⟨by rw [e1];exact this.1,within_has e4 _ this.2⟩
 have hto:=to_visit (x:=x) (s:=a) hj k1 k2 k3
 have hmv:=move_mk (j:=j) h1 ha (by omega) (by rw [hto])
 rw [hto,e1] at hmv
 have h9:=(hx.at (j:=j) (by omega) (by omega)).service
 have h10:=(far_le (x.stop a.spot) (x.stop j)).1
 have h11:=hp.time
 have h12:=hp.car
 have h13:0≤x.begins a j:=by unfold Inst.begins;omega
 obtain ⟨k,hk⟩:∃k:Nat,j=k:=⟨j.toNat,by omega⟩
 refine ⟨hmv,?_,⟨?_,?_,?_⟩⟩
 ·generalize x.begins a j=ta at *
  generalize x.begins b j=tb at *
  generalize x.stop j=sj at *
  refine cov_mk ?_ ?_ ?_ ?_ ?_ ?_ ?_ ?_
  ·simp only [Inst.rvisit]
  ·simp only [Inst.rvisit]
   rw [hk]
   exact within_with (by omega) e2
  ·simp only [Inst.rvisit]
   rw [hk]
   split
   ·exact within_with (by omega) e3
   ·obtain ⟨q,hq⟩:∃q:Nat,(k:Int)-x.pairs=q:=⟨((k:Int)-x.pairs).toNat,by omega⟩
    rw [hq]
    exact within_without (by omega) e3
  ·simp only [Inst.rvisit]
   rw [hk]
   exact within_with (by omega) e4
  ·simp only [Inst.rvisit]
   exact e5
  ·simp only [Inst.rvisit]
   omega
  ·simp only [Inst.rvisit]
   omega
  ·simp only [Inst.rvisit]
   rw [e1]
   split
   ·exact Int.le_refl _
   ·exact e8
 ·simp only [Inst.rvisit];exact h12
 ·simp only [Inst.rvisit];omega
 ·simp only [Inst.rvisit];omega
theorem cov_move {x:Inst} {a b:State} {j:Int} (hc:coversB a b=true) (hp:a.Pos) (ho:a.ok) (h:(x.move b j).2.2=true):
  (x.move a j).2.2=true∧(x.move a j).2.1=(x.move b j).2.1∧coversB (x.move a j).1 (x.move b j).1=true∧(x.move a j).1.Pos:=by
 by_cases hj:j=0
 ·subst hj
  obtain ⟨g1,g2,g3⟩:=cov_home hc hp ho h
  rw [g1,(move_home h).2.2.2]
  exact ⟨rfl,rfl,g2,g3⟩
 ·obtain ⟨g1,g2,g3⟩:=cov_pos hj hc hp h
  rw [g1,(move_pos h hj).2.2.2.2.2.2.2]
  exact ⟨rfl,rfl,g2,g3⟩
theorem cov_end {x:Inst} {a b:State} (h0:x.pairs≠0) (hc:coversB a b=true) (hp:a.Pos) (ho:a.ok) (h:(x.endS b).2=true):(x.endS a).2=true∧(x.endS a).1=(x.endS b).1:=by
 have hcov:=hc
 simp only [coversB,Bool.and_eq_true,decide_eq_true_eq] at hc
 obtain ⟨⟨⟨⟨⟨⟨⟨e1,e2⟩,e3⟩,e4⟩,e5⟩,e6⟩,e7⟩,e8⟩:=hc
 obtain ⟨h1,h2 | ⟨h2,h3,h4,h5,h6,h7⟩⟩:=end_is h
 ·exact absurd h2.1 h0
 ·have hon:a.on=0:=by
   rw [h4] at e3
   exact within_zero ho.on e3
  have hend:x.endS a=(far (x.stop a.spot) (x.stop 0),true):=by
   rw [Inst.endS,if_neg (by simp [h1]),if_neg (fun h=>h0 h.1),if_pos]
   refine ⟨cov_may hcov hp h2,by rw [e1];exact h3,hon,?_,by rw [e1];omega⟩
   exact within_trans h5 e4
  rw [hend,h7,e1]
  exact ⟨rfl,rfl⟩
theorem move_pairs {x:Inst} {s:State} {j:Int} (h:(x.move s j).2.2=true):x.pairs≠0:=by
 by_cases hj:j=0
 ·subst hj
  obtain ⟨h1,h2,h3,h4⟩:=move_home h
  simp only [Inst.stayB,Bool.or_eq_false_iff,decide_eq_false_iff_not] at h3
  simp only [State.mayB,Bool.and_eq_true,decide_eq_true_eq] at h2
  omega
 ·have:=move_pos h hj
  omega
end Go.Proofs.YtackfabapangdaaGreat

set_option maxRecDepth 4000
namespace Go.Proofs.YtackfabapangdaaGreat
open Go Go.Proofs.YtackfabapangdaaGreat.R
theorem meas_rootC {x:Inst} {p:Nat} (hx:x.Fit p) (hm:x.may=true):(x.meas x.rootS:Int)≤2*x.pairs+x.cars-1:=by
 have hp:=hx.pairs
 have hc:=hx.cars
 unfold Inst.meas
 split
 ·rw [Inst.rootS,if_pos hm]
  have h6:((List.range (2*x.pairs.toNat+1)).filter fun j:Nat=>decide (1≤j)&& !hasB ({State.zero with car:=1,time:=(x.stop 0).ready}:State).must (j:Int)).length<((List.range (2*x.pairs.toNat+1)).filter fun _=>true).length:=
   filter_lt _ (a:=0) (List.mem_range.2 (by omega)) rfl (by simp) (fun _ _=>rfl)
  rw [List.filter_eq_self.2 (fun _ _=>rfl),List.length_range] at h6
  have:x.base ({State.zero with car:=1,time:=(x.stop 0).ready}:State)≤2*x.pairs.toNat+(x.cars-1).toNat:=Nat.add_le_add (Nat.le_of_lt_succ h6) (Nat.le_refl _)
  omega
 ·omega
end Go.Proofs.YtackfabapangdaaGreat

set_option maxRecDepth 4000
namespace Go.Proofs.YtackfabapangdaaGreat
open Go Go.Proofs.YtackfabapangdaaGreat.R
structure Kept (k:Nat) (a b:List Int):Prop where
 len:b.length=a.length
 same:∀j,j≤k→b.getD j 0=a.getD j 0
 less:∀j,b.getD j 0≤a.getD j 0
 pos:(∀j,0≤a.getD j 0∧a.getD j 0≤infI)→∀j,0≤b.getD j 0∧b.getD j 0≤infI
theorem Kept.refl (k:Nat) (a:List Int):Kept k a a:=⟨rfl,fun _ _=>rfl,fun _=>Int.le_refl _,fun h=>h⟩
theorem Kept.trans {k:Nat} {a b c:List Int} (h1:Kept k a b) (h2:Kept k b c):Kept k a c:=
 ⟨h2.len.trans h1.len,fun j h=>(h2.same j h).trans (h1.same j h),fun j=>Int.le_trans (h2.less j) (h1.less j),fun h=>h2.pos (h1.pos h)⟩
theorem getD_set {l:List Int} {i j:Nat} {v:Int} (hi:i<l.length):(l.set i v).getD j 0=if i=j then v else l.getD j 0:=by
 rw [List.getD_eq_getElem?_getD,List.getElem?_set,List.getD_eq_getElem?_getD]
 by_cases h:i=j
 ·subst h;simp [hi]
 ·simp [h]
theorem wrap_dk {a:List Int} {k i:Nat} (hr:∀j,0≤a.getD j 0∧a.getD j 0≤infI) (hi:i<2^31):IntKind.i64.wrap (a.getD k 0+i)=a.getD k 0+i:=by
 have:=hr k
 rw [infI] at this
 exact w64 _ (by omega)
theorem step_kept {k i:Nat} {n:Spot} {a:List Int} (hr:∀j,0≤a.getD j 0∧a.getD j 0≤infI) (hi:i<2^31):Kept k a (stepD k i n a)∧((k:Int)<n.part-1→(n.part-1).toNat<a.length→(stepD k i n a).getD (n.part-1).toNat 0≤a.getD k 0+i):=by
 have hw:=wrap_dk (k:=k) hr hi
 unfold stepD
 rw [hw]
 split
 ·rename_i c
  by_cases hl:(n.part-1).toNat<a.length
  ·have hg:=fun j=>getD_set (l:=a) (j:=j) (v:=min (a.getD (n.part-1).toNat 0) (a.getD k 0+i)) hl
   have hk:=hr k
   have hp:=hr (n.part-1).toNat
   refine ⟨⟨List.length_set,fun j hj=>?_,fun j=>?_,fun _ j=>?_⟩,fun _ _=>?_⟩
   ·rw [hg,if_neg (by omega)]
   ·rw [hg]
    split
    ·rename_i e;rw [←e];omega
    ·exact Int.le_refl _
   ·rw [hg]
    split
    ·omega
    ·exact hr j
   ·rw [hg,if_pos rfl];omega
  ·rw [List.set_eq_of_length_le (by omega)]
   exact ⟨Kept.refl k a,fun _ h=>absurd h hl⟩
 ·rename_i c
  exact ⟨Kept.refl k a,fun h=>absurd h c⟩
def Tells (x:Inst) (p:Prf) (k i:Nat) (dk:Int) (F:List Int) (n:Spot):Prop:=
 x.holdsB p k i n dk=true∧((k:Int)<n.part-1→(n.part-1).toNat<F.length→F.getD (n.part-1).toNat 0≤dk+i)
theorem Tells.kept {x:Inst} {p:Prf} {k i m:Nat} {dk:Int} {a b:List Int} {n:Spot} (h:Tells x p k i dk a n) (hk:Kept m a b):Tells x p k i dk b n:=
 ⟨h.1,fun h1 h2=>Int.le_trans (hk.less _) (h.2 h1 (by rw [←hk.len];exact h2))⟩
theorem lay_tells {x:Inst} {p:Prf} {k i:Nat} (hi:i<2^31):∀(l:List Spot) (a b:List Int),(∀j,0≤a.getD j 0∧a.getD j 0≤infI)→x.layGo p k i l a=some b→Kept k a b∧∀n∈l,Tells x p k i (a.getD k 0) b n
 |[],a,b,hr,h=>by
  cases h
  exact ⟨Kept.refl k a,fun n hn=>by cases hn⟩
 |n :: l,a,b,hr,h=>by
  rw [Inst.layGo] at h
  split at h
  ·rename_i hh
   obtain ⟨s1,s2⟩:=step_kept (k:=k) (n:=n) hr hi
   obtain ⟨i1,i2⟩:=lay_tells hi l _ b (s1.pos hr) h
   have e:=s1.same k (Nat.le_refl k)
   refine ⟨s1.trans i1,fun m hm=>?_⟩
   rcases List.mem_cons.1 hm with rfl | hm
   ·exact Tells.kept (a:=stepD k i m a) ⟨hh,fun h1 h2=>s2 h1 (by rw [←s1.len];exact h2)⟩ i1
   ·rw [←e];exact i2 m hm
  ·cases h
theorem part_tells {x:Inst} {p:Prf} {k:Nat}:∀(i:Nat) (q:List (List Spot)) (a b:List Int),i+q.length<2^31→(∀j,0≤a.getD j 0∧a.getD j 0≤infI)→x.partGo p k i q a=some b→Kept k a b∧∀j l,q[j]? =some l→∀n∈l,Tells x p k (i+j) (a.getD k 0) b n
 |i,[],a,b,_,hr,h=>by
  cases h
  exact ⟨Kept.refl k a,fun j l hj=>by simp at hj⟩
 |i,l :: q,a,b,hq,hr,h=>by
  rw [Inst.partGo] at h
  split at h
  ·cases h
  ·rename_i d hd
   rw [List.length_cons] at hq
   obtain ⟨s1,s2⟩:=lay_tells (by omega) l a d hr hd
   obtain ⟨i1,i2⟩:=part_tells (i+1) q d b (by omega) (s1.pos hr) h
   refine ⟨s1.trans i1,fun j m hj n hn=>?_⟩
   cases j with
   |zero=>
    simp only [List.getElem?_cons_zero,Option.some.injEq] at hj
    subst hj
    exact (s2 n hn).kept i1
   |succ j=>
    rw [List.getElem?_cons_succ] at hj
    have:=i2 j m hj n hn
    rw [s1.same k (Nat.le_refl k),show i+1+j=i+(j+1) by omega] at this
    exact this
theorem parts_tells {x:Inst} {p:Prf}:∀(k:Nat) (ps:List (List (List Spot))) (a F:List Int),(∀q∈ps,q.length<2^30)→(∀j,0≤a.getD j 0∧a.getD j 0≤infI)→x.partsGo p k ps a=some F→
  (∀j,0≤F.getD j 0∧F.getD j 0≤infI)∧F.length=a.length∧(∀j,j≤k→F.getD j 0=a.getD j 0)∧(∀j,F.getD j 0≤a.getD j 0)∧∀j q,ps[j]? =some q→F.getD (k+j) 0≠infI→∀i l,q[i]? =some l→∀n∈l,Tells x p (k+j) i (F.getD (k+j) 0) F n
 |k,[],a,F,_,hr,h=>by
  cases h
  exact ⟨hr,rfl,fun _ _=>rfl,fun _=>Int.le_refl _,fun j q hj=>by simp at hj⟩
 |k,q :: ps,a,F,hq,hr,h=>by
  rw [Inst.partsGo] at h
  split at h
  ·rename_i c
   obtain ⟨i0,i1,i2,i3,i4⟩:=parts_tells (k+1) ps a F (fun q h=>hq q (List.mem_cons_of_mem _ h)) hr h
   refine ⟨i0,i1,fun j hj=>i2 j (by omega),i3,fun j r hj hF=>?_⟩
   cases j with
   |zero=>
    rw [Nat.add_zero,i2 k (by omega)] at hF
    exact absurd c hF
   |succ j=>
    rw [List.getElem?_cons_succ] at hj
    rw [show k+(j+1)=k+1+j by omega] at hF ⊢
    exact i4 j r hj hF
  ·split at h
   ·cases h
   ·rename_i d hd
    have hq0:=hq q List.mem_cons_self
    obtain ⟨s1,s2⟩:=part_tells 0 q a d (by omega) hr hd
    obtain ⟨i0,i1,i2,i3,i4⟩:=parts_tells (k+1) ps d F (fun q h=>hq q (List.mem_cons_of_mem _ h)) (s1.pos hr) h
    have hk:∀j,j≤k→F.getD j 0=a.getD j 0:=fun j hj=>(i2 j (by omega)).trans (s1.same j hj)
    refine ⟨i0,i1.trans s1.len,hk,fun j=>Int.le_trans (i3 j) (s1.less j),fun j r hj hF=>?_⟩
    cases j with
    |zero=>
     simp only [List.getElem?_cons_zero,Option.some.injEq] at hj
     subst hj
     intro i l hil n hn
     have:=s2 i l hil n hn
     rw [Nat.zero_add] at this
     rw [Nat.add_zero,hk k (Nat.le_refl k)]
     exact ⟨this.1,fun h1 h2=>Int.le_trans (i3 _) (this.2 h1 (by rw [←i1];exact h2))⟩
    |succ j=>
     rw [List.getElem?_cons_succ] at hj
     rw [show k+(j+1)=k+1+j by omega] at hF ⊢
     exact i4 j r hj hF
end Go.Proofs.YtackfabapangdaaGreat

set_option maxRecDepth 4000
namespace Go.Proofs.YtackfabapangdaaGreat
open Go Go.Proofs.YtackfabapangdaaGreat.R
theorem sumI_le {a b:Int} (ha:0≤a) (hb:0≤b):sumI [a,b]≤a+b:=by
 simp only [sumI,List.foldl_cons,List.foldl_nil,sum1]
 omega
theorem sumI_nn (a b:Int):0≤sumI [a,b]:=by
 simp only [sumI,List.foldl_cons,List.foldl_nil,sum1]
 omega
theorem spot_pos {x:Inst} {p:Prf} {n:Spot} (h:x.spotB p n=true):n.s.Pos∧0≤n.cost∧0≤n.part∧n.part≤p.parts.length:=by
 simp only [Inst.spotB,State.mayB,Bool.and_eq_true,decide_eq_true_eq] at h
 obtain ⟨⟨⟨⟨h1,h2⟩,h3⟩,h4⟩,h5⟩:=h
 exact ⟨⟨h1.1.1.1.1.1.2,h1.1.1.1.2,h1.1.2⟩,h2,h4,h5⟩
theorem whole_spot {x:Inst} {p:Prf} {q:List (List Spot)} (h:x.wholeB p q=true) {l:List Spot} (hl:l∈q) {n:Spot} (hn:n∈l):x.spotB p n=true:=by
 unfold Inst.wholeB at h
 split at h
 ·cases h
 ·simp only [Bool.and_eq_true,Bool.not_eq_true',decide_eq_true_eq,List.any_eq_false] at h
  have:=h.2 l hl
  simp only [Bool.not_eq_true,List.any_eq_false] at this
  have:=this n hn
  simpa using this
structure Holds (x:Inst) (p:Prf) (F:List Int):Prop where
 len:F.length=p.parts.length
 whole:∀q∈p.parts,x.wholeB p q=true
 ok:∀q∈p.parts,∀l∈q,∀n∈l,n.s.ok
 small:∀q∈p.parts,q.length<2^30
 rng:∀j,0≤F.getD j 0∧F.getD j 0≤infI
 tells:∀k q,p.parts[k]? =some q→F.getD k 0≠infI→∀i l,q[i]? =some l→∀n∈l,Tells x p k i (F.getD k 0) F n
theorem deep_small {x:Inst} (hm:x.may=true):x.deep≤1000:=by
 obtain ⟨p,hx⟩:=x.fit hm
 have:=hx.pairs
 have:=hx.few
 have:=hx.cars
 rw [Inst.deep,if_pos hm]
 omega
theorem low_cov {x:Inst} (hl:x.stops.length<2^31) {a t:State} (hc:coversB a t=true) (hs:t.seenAt) {w:List Int} {c:Int} (hw:x.way w t c):0≤x.low a∧x.low a≤c:=by
 have h1:=lowP_in (near_le x) a.can
 rw [low_eq x a hl]
 simp only [coversB,Bool.and_eq_true,decide_eq_true_eq] at hc
 have h2:lowP x.near a.can≤lowP x.near t.can:=lowP_mono (near_le x) fun j=>within_has hc.1.1.1.1.2 j
 have h3:=way_low hs hw
 omega
theorem sound_go {x:Inst} {p:Prf} {F:List Int} (hx:x.may=true) (hl:x.stops.length<2^31) (H:Holds x p F):∀(w:List Int) (r k:Nat),p.parts.length-k≤r→∀(q:List (List Spot)) (i:Nat) (l:List Spot) (n:Spot) (t:State) (e c m:Int),p.parts[k]? =some q→q[i]? =some l→n∈l→
  F.getD k 0≠infI→coversB n.s t=true→(x.pairs=0→n.s=t)→t.ok→t.seenAt→n.cost≤e→F.getD k 0+i≤m→(x.meas t:Int)+m≤x.deep→x.way w t c→p.least≤e+c:=by
 intro w
 induction w with
 |nil=>
  intro r
  induction r with
  |zero=>
   intro k hk q i l n t e c m hq
   have:=(List.getElem?_eq_some_iff.1 hq).1
   omega
  |succ r ih=>
   intro k hk q i l n t e c m hq hl2 hn hF hc h0 hto hts he hm hd hw
   have hqm:=List.mem_of_getElem? hq
   have hlm:=List.mem_of_getElem? hl2
   obtain ⟨hpos,hn0,hp0,hp1⟩:=spot_pos (whole_spot (H.whole q hqm) hlm hn)
   have hnok:=H.ok q hqm l hlm n hn
   obtain ⟨t1,t2⟩:=H.tells k q hq hF i l hl2 n hn
   obtain ⟨lo1,lo2⟩:=low_cov hl hc hts hw
   have hwi:=way_in hw
   unfold Inst.holdsB at t1
   split at t1
   ·rename_i c1
    simp only [Inst.deadB,decide_eq_true_eq] at c1
    have:=sumI_le hn0 lo1
    omega
   split at t1
   ·rename_i c2
    unfold Prf.leadsB at t1
    split at t1
    ·rename_i f hf
     simp only [Bool.and_eq_true,decide_eq_true_eq] at t1
     obtain ⟨u1,u2,u3⟩:=t1
     obtain ⟨hj,l0,q0,hpj⟩:=first_some hf
     have hFj:=t2 u1 (by rw [H.len];exact hj)
     have hds:=deep_small hx
     refine ih (n.part-1).toNat (by omega) ((f :: l0) :: q0) 0 (f :: l0) f t e c m (by rw [List.getElem?_eq_getElem hj,hpj]) rfl List.mem_cons_self ?_ (by rw [u2];exact hc) (fun h=>by rw [u2];exact h0 h) hto hts (by omega) (by omega) hd hw
     rw [infI];omega
    ·cases t1
   ·rename_i c2
    have hend:(x.endS n.s).2=true∧(x.endS n.s).1=c:=by
     by_cases hp:x.pairs=0
     ·rw [h0 hp];exact ⟨hw.1,hw.2.symm⟩
     ·obtain ⟨e1,e2⟩:=cov_end hp hc hpos hnok hw.1
      exact ⟨e1,by rw [e2];exact hw.2.symm⟩
    split at t1
    ·cases t1
    ·rename_i c3
     rw [hend.2] at c3
     have:=sumI_le hn0 hwi.1
     have:¬sumI [n.cost,c]<p.least:=fun h=>c3 ⟨hend.1,h⟩
     omega
 |cons j w ihw=>
  intro r
  induction r with
  |zero=>
   intro k hk q i l n t e c m hq
   have:=(List.getElem?_eq_some_iff.1 hq).1
   omega
  |succ r ih=>
   intro k hk q i l n t e c m hq hl2 hn hF hc h0 hto hts he hm hd hw
   have hqm:=List.mem_of_getElem? hq
   have hlm:=List.mem_of_getElem? hl2
   obtain ⟨hpos,hn0,hp0,hp1⟩:=spot_pos (whole_spot (H.whole q hqm) hlm hn)
   have hnok:=H.ok q hqm l hlm n hn
   obtain ⟨t1,t2⟩:=H.tells k q hq hF i l hl2 n hn
   obtain ⟨lo1,lo2⟩:=low_cov hl hc hts hw
   have hwi:=way_in hw
   have hds:=deep_small hx
   unfold Inst.holdsB at t1
   split at t1
   ·rename_i c1
    simp only [Inst.deadB,decide_eq_true_eq] at c1
    have:=sumI_le hn0 lo1
    omega
   split at t1
   ·rename_i c2
    unfold Prf.leadsB at t1
    split at t1
    ·rename_i f hf
     simp only [Bool.and_eq_true,decide_eq_true_eq] at t1
     obtain ⟨u1,u2,u3⟩:=t1
     obtain ⟨hj,l0,q0,hpj⟩:=first_some hf
     have hFj:=t2 u1 (by rw [H.len];exact hj)
     refine ih (n.part-1).toNat (by omega) ((f :: l0) :: q0) 0 (f :: l0) f t e c m (by rw [List.getElem?_eq_getElem hj,hpj]) rfl List.mem_cons_self ?_ (by rw [u2];exact hc) (fun h=>by rw [u2];exact h0 h) hto hts (by omega) (by omega) hd hw
     rw [infI];omega
    ·cases t1
   ·rename_i c2
    split at t1
    ·cases t1
    ·rename_i c3
     obtain ⟨g1,d,g2,g3⟩:=hw
     have hmm:=meas_move g1
     have hmc:=move_cost g1
     have hil:=(List.getElem?_eq_some_iff.1 hl2).1
     have hqs:=H.small q hqm
     rw [wrap_dk H.rng (by omega),if_neg (by omega)] at t1
     obtain ⟨v1,v2,v3,v4⟩:=cov_move hc hpos hnok g1
     rw [Inst.goesB,List.all_eq_true] at t1
     have hgo:=t1 j (mem_moves v1)
     rw [Inst.goB,Bool.or_eq_true] at hgo
     have hs1:=sumI_le hn0 (b:=(x.move n.s j).2.1) (by rw [v2];exact hmc.1)
     have hs2:=sumI_nn n.cost (x.move n.s j).2.1
     rw [v2] at hs1 hs2 hgo
     rcases hgo with hgo | hgo
     ·simp only [Inst.deadB,decide_eq_true_eq] at hgo
      obtain ⟨lo3,lo4⟩:=low_cov hl v3 (seen_step g1) g2
      have:=sumI_le hs2 lo3
      omega
     ·rw [hq,Option.getD_some] at hgo
      obtain ⟨n',hn',hb⟩:=List.any_eq_true.1 hgo
      simp only [Bool.and_eq_true,decide_eq_true_eq] at hb
      have hi1:i+1<q.length:=by
       by_cases h:i+1<q.length
       ·exact h
       ·rw [List.getD_eq_getElem?_getD,List.getElem?_eq_none (by omega)] at hn'
        cases hn'
      have hgd:q.getD (i+1) []=q[i+1]:=by rw [List.getD_eq_getElem?_getD,List.getElem?_eq_getElem hi1];rfl
      rw [hgd] at hn'
      have:=ihw (p.parts.length) k (by omega) q (i+1) q[i+1] n' (x.move t j).1 (e+(x.move t j).2.1) d (m+1) hq (List.getElem?_eq_getElem hi1) hn' hF (covers_trans hb.2 v3) (fun h=>absurd h (move_pairs g1)) (move_ok x j hto) (seen_step g1) (by omega) (by omega) (by omega) g2
      omega
theorem check_sound {x:Inst} {p:Prf} (hl:x.stops.length<2^31) (hs:∀q∈p.parts,q.length<2^30) (ho:∀q∈p.parts,∀l∈q,∀n∈l,n.s.ok) (h:x.checkE p=0):x.may=true∧p.least≤infI∧∀(w:List Int) (c:Int),x.way w x.rootS c→p.least≤c:=by
 obtain ⟨c1,f,F,hf,c2,c3,hF⟩:=check_zero h
 simp only [Inst.mayP,Bool.and_eq_true,decide_eq_true_eq] at c1
 obtain ⟨m1,m2,m3,m4,m5⟩:=c1
 refine ⟨m1,m3,fun w c hw=>?_⟩
 have hlen0:0<p.parts.length:=List.length_pos_iff.2 m4
 have hr0:∀j,0≤((List.replicate p.parts.length infI).set 0 0).getD j 0∧((List.replicate p.parts.length infI).set 0 0).getD j 0≤infI:=by
  intro j
  rw [getD_set (by rw [List.length_replicate];exact hlen0)]
  split
  ·exact ⟨Int.le_refl _,by decide⟩
  ·rw [List.getD_eq_getElem?_getD,List.getElem?_replicate]
   split
   ·exact ⟨by decide,Int.le_refl _⟩
   ·exact ⟨Int.le_refl _,by decide⟩
 obtain ⟨i0,i1,i2,i3,i4⟩:=parts_tells 0 p.parts _ F hs hr0 hF
 have hF0:F.getD 0 0=0:=by
  rw [i2 0 (Nat.le_refl 0),getD_set (by rw [List.length_replicate];exact hlen0),if_pos rfl]
 have H:Holds x p F:=⟨by rw [i1,List.length_set,List.length_replicate],List.all_eq_true.1 m5,ho,hs,i0,fun k q hq hk i l hil n hn=>by
  have:=i4 k q hq (by rw [Nat.zero_add];exact hk) i l hil n hn
  rw [Nat.zero_add] at this
  exact this⟩
 obtain ⟨hj,l0,q0,hpj⟩:=first_some hf
 obtain ⟨pp,hx⟩:=x.fit m1
 have hdp:x.deep=2*x.pairs+x.cars-1:=by rw [Inst.deep,if_pos m1]
 have hme:=meas_rootC hx m1
 have:=sound_go m1 hl H w p.parts.length 0 (by omega) ((f :: l0) :: q0) 0 (f :: l0) f x.rootS 0 c 0 (by rw [List.getElem?_eq_getElem hj,hpj]) rfl List.mem_cons_self (by rw [hF0];decide) (by rw [c2];exact covers_refl _) (fun _=>c2) (rootS_ok x) (seen_root x) (by omega) (by rw [hF0];omega) (by omega) hw
 omega
end Go.Proofs.YtackfabapangdaaGreat

set_option maxRecDepth 4000
namespace Go.Proofs.YtackfabapangdaaGreat
open Go Go.Proofs.YtackfabapangdaaGreat.R
theorem and32 {n:Nat} (h:n<4294967296):band .u64 n 4294967295=n:=by
 have:=bandN (a:=n) (b:=4294967295) (by omega) (by decide)
 rw [show ((4294967295:Nat):Int)=4294967295 from rfl] at this
 rw [this,show 4294967295=2^32-1 from rfl,Nat.and_two_pow_sub_one_eq_mod,Nat.mod_eq_of_lt h]
theorem mul64_pure (n:Nat) (hn:n<2^31):Pure P 175 [.u 1,.u n] (.tup [.u 0,.u n]):=by
 refine pure_of Tryz.func175 rfl rfl (by simp [Tryz.f175]) (by simp [bnd,bnd.bndL]) (by simp [bnd,bnd.bndL]) fun B hB hnx=>?_
 simp only [Tryz.f175] at hB ⊢
 have e1:band .u64 1 4294967295=1:=and32 (n:=1) (by omega)
 have e2:=and32 (n:=n) (by omega)
 have e3:Int.fdiv 1 4294967296=0:=by decide
 have e4:Int.fdiv (n:Int) 4294967296=0:=by rw [Int.fdiv_eq_ediv_of_nonneg _ (by omega)];omega
 have e5:band .u64 0 4294967295=0:=and32 (n:=0) (by omega)
 have e6:IntKind.u64.wrap (n:Int)=n:=u64 _ (by omega)
 have e7:IntKind.u64.wrap 0=0:=u64 _ (by omega)
 refine K_run hB 100 ?_
 simp [go_sem,e1,e2,e3,e4,e5,e6,e7]
theorem mul_pure (n:Nat) (hn:n<2^31):Pure P 121 [.u 1,.u n] (.tup [.u 0,.u n]):=by
 refine pure_of Tryz.func121 rfl rfl (by simp [Tryz.f121]) (by simp [bnd,bnd.bndL]) (by simp [bnd,bnd.bndL]) fun B hB hnx=>?_
 simp only [Tryz.f121] at hB ⊢
 refine K_run hB 100 ?_
 simp [go_sem]
 refine K_call rfl rfl rfl (args:=[.u 1,.u n]) (f:=175) (by simp [go_sem]) (by simp [go_sem,hB]) ((mul64_pure n hn).spec _ _) ?_
 refine K_run hB 100 ?_
 simp [go_sem]
theorem repeat_spec (v:Int) (n:Nat) (h0:0<n) (hn:n<2^31) (σ:Nat→AObj) (nx:Nat):CallSpec P 67 [.fsl [[.i v]],.i n] σ nx (.ref nx) (oput σ nx (.arr 1 (List.replicate n [.i v]))) (nx+1):=by
 refine CallQ.spec (spec_of Tryz.func67 rfl rfl (by simp [Tryz.f67]) fun B hB hnx hσ=>K_after ?_)
 simp only [Tryz.f67] at hB ⊢
 have hmost:n≤mostLen:=by show n≤4294967296;omega
 have hu:IntKind.u64.wrap (n:Int)=n:=u64 _ (by omega)
 have hi:IntKind.i64.wrap (n:Int)=n:=w64 _ (by omega)
 have hu1:IntKind.u64.wrap 1=1:=u64 _ (by omega)
 have hneg:¬(n:Int)<0:=by omega
 refine K_run hB 100 ?_
 simp [go_sem,hneg,hu,hi,hu1]
 refine K_call rfl rfl rfl (args:=[.u 1,.u n]) (f:=121) (by simp [go_sem,hneg,hu,hi,hu1]) (by simp [go_sem,hB]) ((mul_pure n hn).spec _ _) ?_
 have hbig:¬9223372036854775807<(n:Int):=by omega
 refine K_run hB 100 ?_
 simp [go_sem,hneg,hu,hi,hu1,hbig,hmost]
 refine K_copyT rfl rfl rfl rfl rfl (by simp [go_sem,hB]) tt68 rfl tt3 rfl (q:=nx) (es:=List.replicate n [.i 0]) (ys:=[[.i v]]) (by simp [go_sem]) (by simp [go_sem]) (by simp [go_sem]) (by simp) (by simp) (by simp;omega) ?_
 have hrow:[[T.i v]]++(List.replicate n [T.i 0]).drop 1=List.replicate 1 [T.i v]++List.replicate (n-1) [T.i 0]:=by simp
 refine K_run hB 100 ?_
 simp [go_sem]
 refine K_loopP (α:=Nat) (fun j=>1≤j∧j≤n) (fun j=>⟨sl [(7,.ref nx),(8,.i j)],oput σ nx (.arr 1 (List.replicate j [.i v]++List.replicate (n-j) [.i 0])),nx+1⟩) (fun j=>n-j) 1 ⟨Nat.le_refl _,h0⟩ (Imp.slots (by simp [go_sem]) ?_ rfl) ?_
 ·have hoo:∀(o o':AObj),oput (oput σ nx o) nx o'=oput σ nx o':=fun o o'=>funext fun i=>by simp only [oput];split<;>rfl
  rw [←hrow,hoo]
  simp
 rintro j ⟨g1,g2⟩
 have hlen:(List.replicate j [T.i v]++List.replicate (n-j) [T.i 0]).length=n:=by simp;omega
 refine K_run hB 60 ?_
 simp [go_sem,hlen]
 refine fork_dec (fun hj=>?_) (fun hj=>?_)
 ·have hj:j<n:=by omega
  refine K_run hB 60 ?_
  simp [go_sem]
  refine K_drawnF [7] [0] rfl (by rw [hB];kernel_rfl) (by kernel_rfl) fun ht hf'=>?_
  refine K_run hB 60 ?_
  simp [go_sem,ht,hf']
  refine K_dLook (v:=.cut nx 1 j (List.replicate j [T.i v]++List.replicate (n-j) [T.i 0]).length) (fun ho=>?_) (by simp [ht]) ?_
  ·exact does_cutFrom (P:=P) (n:=B.n) (es:=(List.replicate j [T.i v]++List.replicate (n-j) [T.i 0])) ho (by simp [go_sem]) rfl tt68 rfl tt3 (q:=nx) (by simp [go_sem]) (by simp [go_sem]) (ik:=.i64) (lo:=j) (by simp [go_sem]) (by rw [hlen];exact hj)
  refine K_run hB 60 ?_
  simp [go_sem,ht,hf']
  refine K_dLook (v:=.cut nx 1 0 j) (fun ho=>?_) (by simp [ht]) ?_
  ·exact does_cutTo (P:=P) (n:=B.n) (es:=List.replicate j [.i v]++List.replicate (n-j) [.i 0]) ho (by simp [go_sem]) rfl tt68 rfl tt3 (q:=nx) (by simp [go_sem]) (by simp [go_sem]) (ik:=.i64) (up:=j) (by simp [go_sem]) (by rw [hlen];omega) (by rw [hlen];omega)
  obtain ⟨k,hk⟩:∃k,k=Nat.min j (n-j):=⟨_,rfl⟩
  have hk1:k≤j∧k≤n-j∧1≤k:=by rw [hk];refine ⟨Nat.min_le_left _ _,Nat.min_le_right _ _,Nat.le_min.2 ⟨g1,by omega⟩⟩
  simp only [hlen]
  refine K_dTold (v:=.i k) (σ':=oput (oput σ nx (.arr 1 (List.replicate j [T.i v]++List.replicate (n-j) [T.i 0]))) nx (.arr 1 ((List.replicate j [T.i v]++List.replicate (n-j) [T.i 0]).take j++((List.replicate j [T.i v]++List.replicate (n-j) [T.i 0]).take k++(List.replicate j [T.i v]++List.replicate (n-j) [T.i 0]).drop (j+k))))) (nx':=nx+1) (fun ho=>?_) (by simp) (by simp) ?_
  ·exact does_copyPart (P:=P) (n:=B.n) ho (by simp [go_sem]) rfl rfl rfl rfl tt68 rfl tt3 rfl (q:=nx) (lo:=j) (up:=j) (by simp [go_sem]<;>omega) (by simp [go_sem]) (by simp [go_sem]) (by rw [hlen];omega) (by rw [hlen];exact hk) (by rw [hlen];omega)
  have hw:IntKind.i64.wrap ((j:Int)+(k:Int))=((j+k:Nat):Int):=by rw [w64 _ (by omega)];omega
  have hrow:(List.replicate j [T.i v]++List.replicate (n-j) [T.i 0]).take j++((List.replicate j [T.i v]++List.replicate (n-j) [T.i 0]).take k++(List.replicate j [T.i v]++List.replicate (n-j) [T.i 0]).drop (j+k))=List.replicate (j+k) [T.i v]++List.replicate (n-(j+k)) [T.i 0]:=by
   rw [List.take_left' (by simp),List.take_append_of_le_length (by simp;omega),List.take_replicate,show min k j=k by omega,←List.drop_drop,List.drop_left' (by simp),List.drop_replicate,←List.append_assoc,List.replicate_append_replicate,Nat.sub_sub]
  rw [hrow]
  have hoo:∀(o o':AObj),oput (oput σ nx o) nx o'=oput σ nx o':=fun o o'=>funext fun i=>by simp only [oput];split<;>rfl
  rw [hoo]
  refine K_run hB 60 ?_
  simp [go_sem,ht,hf',hw]
  refine Next.mk (j+k) ⟨by omega,by omega⟩ (Imp.slots (by simp [go_sem]) rfl rfl) (by omega)
 ·have hj:j=n:=by omega
  subst hj
  simp [go_sem]
  refine ⟨_,Imp.self,?_⟩
  simp [go_sem]
end Go.Proofs.YtackfabapangdaaGreat

set_option maxRecDepth 4000
set_option maxHeartbeats 1000000
namespace Go.Proofs.YtackfabapangdaaGreat
open Go Go.Proofs.YtackfabapangdaaGreat.R
def resP:Option (List Int)→Int
 |none=>10
 |some _=>0
theorem partsGo_cons {x:Inst} {p:Prf} {k:Nat} {q:List (List Spot)} {ps:List (List (List Spot))} {dl:List Int} (h:dl.getD k 0≠infI):x.partsGo p k (q :: ps) dl=(x.partGo p k 0 q dl).bind (x.partsGo p (k+1) ps):=by
 rw [Inst.partsGo,if_neg h]
 cases x.partGo p k 0 q dl<;>rfl
theorem partGo_cons {x:Inst} {p:Prf} {k i:Nat} {l:List Spot} {q:List (List Spot)} {dl:List Int}:x.partGo p k i (l :: q) dl=(x.layGo p k i l dl).bind (x.partGo p k (i+1) q):=by
 rw [Inst.partGo]
 cases x.layGo p k i l dl<;>rfl
structure Prf.Fine (p:Prf):Prop where
 len:p.parts.length<2^31
 parts:∀q∈p.parts,q.length<2^30
 lays:∀q∈p.parts,∀l∈q,l.length<2^31
 ok:∀q∈p.parts,∀l∈q,∀n∈l,n.s.ok
theorem first_of {x:Inst} {p:Prf} (hw:∀q∈p.parts,x.wholeB p q=true) {j:Nat} (hj:j<p.parts.length):∃f,p.first j=some f:=by
 have h:=hw p.parts[j] (List.getElem_mem _)
 rw [Prf.first,List.getElem?_eq_getElem hj]
 generalize p.parts[j]=q at *
 unfold Inst.wholeB at h
 split at h
 ·cases h
 ·rename_i l q0
  simp only [Bool.and_eq_true,decide_eq_true_eq] at h
  cases l with
  |nil=>simp at h
  |cons n l=>exact ⟨n,rfl⟩
theorem check_pure (x:Inst) (p:Prf) (hl:x.stops.length<2^31) (hp:p.Fine):Pure P 26 [x.a,p.a] (.i (x.checkE p)):=by
 generalize hR:x.checkE p=R
 refine pure_of Tryz.func26 rfl rfl (by simp [Tryz.f26]) (by simp [bnd,bnd.bndL,Inst.a,Prf.a,Prf.cs]) (by simp [bnd,bnd.bndL]) fun B hB hnx=>?_
 simp only [Tryz.f26] at hB ⊢
 have hplen:=hp.len
 rw [Inst.checkE] at hR
 refine K_run hB 100 ?_
 simp [go_sem,Inst.a,Prf.a,Prf.cs]
 refine K_scopeN (α:=Unit) 0 (fun _=>False) (fun _=>⟨sl [],noObj,0⟩) (fun _=>0) rfl (fun _ h=>h.elim) ?_
 intro J hJ
 refine K_run hB 100 ?_
 simp [go_sem]
 refine K_call rfl rfl rfl (args:=[x.a]) (f:=33) (by simp [go_sem,Inst.a]) (by simp [go_sem,hB]) ((may_pure x (by omega)).spec _ _) ?_
 cases hmay:x.may with
 |false=>
  rw [if_neg (by simp [Inst.mayP,hmay])] at hR
  subst hR
  refine K_run hB 100 ?_
  simp [go_sem]
 |true=>
  have hYl:(p.parts.map partT).length=p.parts.length:=List.length_map _
  have hYg:∀(k:Nat) (h:k<p.parts.length),(p.parts.map partT)[k]'(by rw [hYl];exact h)=partT p.parts[k]:=fun k h=>map_get partT p.parts h _
  by_cases c1:p.least<0
  ·rw [if_neg (by simp [Inst.mayP];omega)] at hR
   subst hR
   refine K_run hB 100 ?_
   simp [go_sem,c1]
  by_cases c2:infI<p.least
  ·rw [if_neg (by simp [Inst.mayP];omega)] at hR
   subst hR
   have c2':1152921504606846976<p.least:=c2
   refine K_run hB 100 ?_
   simp [go_sem,c1,c2']
  have c2':¬1152921504606846976<p.least:=c2
  by_cases c3:p.parts=[]
  ·rw [if_neg (by simp [Inst.mayP,c3])] at hR
   subst hR
   refine K_run hB 100 ?_
   simp [go_sem,c1,c2',c3]
  have hpos:0<p.parts.length:=List.length_pos_iff.2 c3
  have c3':¬p.parts.length=0:=by omega
  obtain ⟨pp,hx⟩:=x.fit hmay
  have hxp:=hx.pairs
  have hxf:=hx.few
  have hcont:=fun (τ:Nat→AObj) (h1:τ 2= .box (ckC x p (.fsl []))) (h2:τ 3= .box [.ptr 2 0])=>containsPart_spec p.parts (fun q=>!x.wholeB p q) (σ:=τ) (nx:=4) (f:=64) (caps:=[.ptr 3 0]) hplen fun q hq=>check1_spec x p q (.fsl []) (by omega) (by have:=hp.parts q hq;omega) (hp.lays q hq) (by omega) h1 (by omega) h2
  refine K_run hB 100 ?_
  simp [go_sem,c1,c2',c3,hYl,c3']
  refine K_call rfl rfl rfl (args:=[.t (.sl (p.parts.map partT)),.fn (.func 64) [] [.ptr 3 0]]) (f:=66) (by simp [go_sem]) (by simp [go_sem,hB]) (hcont _ (by simp [oput,ckC,Inst.cs]) (by simp [oput])) ?_
  cases c4:p.parts.any fun q=>!x.wholeB p q with
  |true=>
   have:p.parts.all (x.wholeB p)=false:=by
    rw [List.any_eq_true] at c4
    obtain ⟨q,h1,h2⟩:=c4
    rw [List.all_eq_false]
    exact ⟨q,h1,by simpa using h2⟩
   rw [if_neg (by simp [Inst.mayP,this])] at hR
   subst hR
   refine K_run hB 100 ?_
   simp [go_sem]
  |false=>
   have hw:∀q∈p.parts,x.wholeB p q=true:=by
    rw [List.any_eq_false] at c4
    intro q hq
    have:=c4 q hq
    simpa using this
   have hmp:x.mayP p=true:=by
    simp only [Inst.mayP,Bool.and_eq_true,decide_eq_true_eq]
    exact ⟨hmay,by omega,by omega,c3,List.all_eq_true.2 hw⟩
   rw [if_pos hmp] at hR
   obtain ⟨f,hf⟩:=first_of hw hpos
   rw [hf] at hR
   simp only at hR
   obtain ⟨hj0,l0,q0,hp0⟩:=first_some hf
   have hY0:∀h:0<(p.parts.map partT).length,(p.parts.map partT)[0]'h=[.sl ([.sl (f.t :: l0.map Spot.t)] :: q0.map layT)]:=fun h=>by rw [List.getElem_map,hp0];rfl
   generalize hY:p.parts.map partT=Y at *
   have hck:∀D,ckC x p D=[.t (.i x.pairs),.t (.i x.cars),.t (.i x.room),.t (.sl (x.stops.map Stop.t)),.i p.least,.t (.sl Y),D]:=fun D=>by rw [ckC,hY]
   have hr:=root_pureS x (by omega)
   refine K_run hB 100 ?_
   simp [go_sem,hYl,hpos,hY0,Spot.t]
   refine K_drawn [] rfl (by rw [hB];kernel_rfl) ?_
   refine K_run hB 100 ?_
   simp [go_sem]
   refine K_dCallP rfl rfl rfl (args:=[x.a]) (f:=57) (by simp [go_sem,Inst.a]) (hr) ?_
   generalize x.rootS=rt at *
   refine K_dEq (op:=.neq) (t:=67) (t':=67) (x:=.tmp 55) (y:=.tmp 57) (xs:=f.s.cs) (ys:=rt.cs) (by simp [go_sem]) rfl (by simp [go_sem,State.cs]) (by simp [go_sem,State.a,State.cs]) state_guard (state_eq f.s rt) rfl ?_
   by_cases c5:f.s=rt
   rotate_left
   ·rw [if_neg (fun h=>c5 h.1)] at hR
    subst hR
    refine K_run hB 100 ?_
    simp [go_sem,c5]
   by_cases c6:f.cost=0
   rotate_left
   ·rw [if_neg (fun h=>c6 h.2)] at hR
    subst hR
    refine K_run hB 100 ?_
    simp [go_sem,c5,c6]
   rw [if_pos ⟨c5,c6⟩] at hR
   refine K_run hB 100 ?_
   simp [go_sem,c5,c6]
   refine K_drawnF [5,8] [0] rfl (by rw [hB];kernel_rfl) (by kernel_rfl) fun ht hf'=>?_
   refine K_run hB 100 ?_
   simp [go_sem,ht,hf',hYl]
   refine K_dCall rfl rfl rfl (args:=[.fsl [[.i 1152921504606846976]],.i p.parts.length]) (f:=67) (by simp [go_sem]) (repeat_spec 1152921504606846976 p.parts.length hpos hplen _ _) (by decide) (okPends_does (by simp [go_sem])) ?_
   refine K_run hB 100 ?_
   simp [go_sem,ht,hf',hpos,hYl]
   have hR':resP (x.partsGo p 0 (p.parts.drop 0) ((List.replicate p.parts.length infI).set 0 0))=R:=by
    rw [←hR,List.drop_zero]
    cases x.partsGo p 0 p.parts ((List.replicate p.parts.length infI).set 0 0)<;>rfl
   have hdl0:((List.replicate p.parts.length infI).set 0 0).length=p.parts.length:=by rw [List.length_set,List.length_replicate]
   have hlead:∀q∈p.parts,∀l∈q,∀n∈l,0≤n.part∧n.part≤p.parts.length∧(0<n.part→∃j f,n.part=((j:Nat):Int)+1∧p.first j=some f):=fun q hq l hl' n hn=>by
    obtain ⟨_,_,b1,b2⟩:=spot_pos (whole_spot (hw q hq) hl' hn)
    refine ⟨b1,b2,fun h0=>?_⟩
    obtain ⟨j,hj⟩:∃j:Nat,n.part=(j:Int)+1:=⟨(n.part-1).toNat,by omega⟩
    obtain ⟨f,hf⟩:=first_of hw (j:=j) (by omega)
    exact ⟨j,f,hj,hf⟩
   have hhold:=fun (τ:Nat→AObj) (ny:Nat) (k i:Nat) (q:List (List Spot)) (n:Spot) (dl:List Int) (h1:p.parts[k]? =some q) (h2:i<2^31) (h3:k<dl.length) (h4:0<n.part→∃j f,n.part=((j:Nat):Int)+1∧p.first j=some f) (h5:n.s.ok) (h6:5<ny) (h7:τ 2= .box (ckC x p (.ref 5))) (h8:τ 5= .arr 1 (ints dl))=>holds_spec x p n k i 5 dl q hl h5 hplen h1 (by have:=hp.parts q (List.mem_of_getElem? h1);omega) (hp.lays q (List.mem_of_getElem? h1)) h2 h3 h4 (σ:=τ) (nx:=ny) (c:=2) (by omega) h7 (by omega) h8
   have hparts:=hp.parts
   have hlays:=hp.lays
   have hoks:=hp.ok
   have hck5:=hck (.ref 5)
   clear hcont hR hY0 hr hp
   generalize hps:p.parts=ps at *
   refine K_loopP (α:=Nat×List Int×(Nat→AObj)×Nat) (fun (k,dl,τ,ny)=>k≤ps.length∧dl.length=ps.length∧resP (x.partsGo p k (ps.drop k) dl)=R∧τ 2= .box (ckC x p (.ref 5))∧τ 3= .box [.ptr 2 0]∧τ 5= .arr 1 (ints dl)∧5<ny)
    (fun (k,dl,τ,ny)=>⟨sl [(5,.ptr 3 0),(78,.t (.sl Y)),(79,.i ps.length),(80,.i k)],τ,ny⟩) (fun a=>ps.length-a.1) (0,(List.replicate ps.length infI).set 0 0,_,6) ?_ (Imp.slots (by simp [go_sem]) rfl rfl) ?_
   ·refine ⟨Nat.zero_le _,hdl0,hR',?_,?_,?_,?_⟩
    ·simp [oput,hck5]
    ·simp [oput]
    ·simp [oput,ints,List.map_set,infI]
    ·simp
   rintro ⟨k,dl,τ,ny⟩ ⟨g1,g2,g3,g4,g5,g6,g7⟩
   refine K_run hB 60 ?_
   simp [go_sem]
   refine fork_dec (fun hk=>?_) (fun hk=>?_)
   ·have hkk:IntKind.i64.wrap ((k:Int)+1)=((k+1:Nat):Int):=by rw [w64 ((k:Int)+1) (by omega)];rfl
    have hgk:∀h:k<Y.length,Y[k]'h=partT ps[k]:=fun h=>hYg k hk
    have hqk:ps[k]? =some ps[k]:=List.getElem?_eq_getElem hk
    have hqm:ps[k]∈ps:=List.getElem_mem _
    have hql:=hparts _ hqm
    have hdl:(ints dl).length=dl.length:=List.length_map _
    have hdg:∀h:k<(ints dl).length,(ints dl)[k]'h=[.i dl[k]]:=fun h=>ints_getS _ (by omega)
    have hgd:dl.getD k 0=dl[k]:=by rw [List.getD_eq_getElem?_getD,List.getElem?_eq_getElem (by omega)];rfl
    have hdk:k<dl.length:=by omega
    rw [List.drop_eq_getElem_cons hk] at g3
    have hlq:=fun l (hl':l∈ps[k]) n hn=>hlead _ hqm l hl' n hn
    have hoq:=hoks _ hqm
    generalize ps[k]=q at *
    have hpt:partT q=[.sl (q.map layT)]:=rfl
    have n2:¬2=ny:=by omega
    have n3:¬3=ny:=by omega
    have n5:¬5=ny:=by omega
    by_cases d1:dl[k]=infI
    ·rw [Inst.partsGo,hgd,if_pos d1] at g3
     have d1':dl[k]=1152921504606846976:=d1
     simp [go_sem,hYl,hk,hgk,hpt,g4,g5,g6,n2,n3,n5,hck5,hdl,hdk,hdg,Nat.mod_one,d1',hkk]
     refine Next.mk (k+1,dl,_,ny+1) ?_ (Imp.slots (by simp [go_sem]) rfl rfl) (by simp only;omega)
     exact ⟨by simp only;omega,g2,g3,by simp [oput,n2,g4,hck5],by simp [oput,n3,g5],by simp [oput,n5,g6],by simp only;omega⟩
    ·rw [partsGo_cons (by rw [hgd];exact d1)] at g3
     have d1':¬dl[k]=1152921504606846976:=d1
     simp [go_sem,hYl,hk,hgk,hpt,g4,g5,g6,n2,n3,n5,hck5,hdl,hdk,hdg,Nat.mod_one,d1']
     generalize hG:x.partsGo p (k+1) (ps.drop (k+1))=G at *
     have hZl:(q.map layT).length=q.length:=List.length_map _
     have hZg:∀(k:Nat) (h:k<q.length),(q.map layT)[k]'(by rw [hZl];exact h)=layT q[k]:=fun k h=>map_get layT q h _
     have hlq2:=hlays _ hqm
     generalize q.map layT=Z at *
     refine K_loopP (α:=Nat×List Int×(Nat→AObj)×Nat) (fun (i,d,τ,ny)=>i≤q.length∧d.length=ps.length∧resP ((x.partGo p k i (q.drop i) d).bind G)=R∧τ 2= .box (ckC x p (.ref 5))∧τ 3= .box [.ptr 2 0]∧τ 5= .arr 1 (ints d)∧5<ny)
      (fun (i,d,τ,ny)=>⟨sl [(5,.ptr 3 0),(8,.i k),(78,.t (.sl Y)),(79,.i ps.length),(80,.i k),(94,.t (.sl Z)),(95,.i q.length),(96,.i i)],τ,ny⟩) (fun a=>q.length-a.1) (0,dl,_,ny+1) ?_ (Imp.slots (by simp [go_sem,hZl]) rfl rfl) ?_
     ·exact ⟨Nat.zero_le _,g2,g3,by simp [oput,n2,g4,hck5],by simp [oput,n3,g5],by simp [oput,n5,g6],by omega⟩
     clear g2 g3 g4 g5 g6 g7 n2 n3 n5 hdl hdg hgd hdk d1 d1'
     rintro ⟨i,d,τ,ny⟩ ⟨g1,g2,g3,g4,g5,g6,g7⟩
     refine K_run hB 60 ?_
     simp [go_sem]
     refine fork_dec (fun hi=>?_) (fun hi=>?_)
     ·have hii:IntKind.i64.wrap ((i:Int)+1)=((i+1:Nat):Int):=by rw [w64 ((i:Int)+1) (by omega)];rfl
      have hgi:∀h:i<Z.length,Z[i]'h=layT q[i]:=fun h=>hZg i hi
      rw [List.drop_eq_getElem_cons hi,partGo_cons,Option.bind_assoc] at g3
      have hln:=fun n (hn:n∈q[i])=>hlq _ (List.getElem_mem hi) n hn
      have hon:=hoq _ (List.getElem_mem hi)
      have hll:=hlq2 _ (List.getElem_mem hi)
      generalize q[i]=l at *
      generalize hG2:(fun d=>(x.partGo p k (i+1) (q.drop (i+1)) d).bind G)=G2 at *
      have hly:layT l=[.sl (l.map Spot.t)]:=rfl
      have hVl:(l.map Spot.t).length=l.length:=List.length_map _
      have hVg:∀(k:Nat) (h:k<l.length),(l.map Spot.t)[k]'(by rw [hVl];exact h)=l[k].t:=fun k h=>map_get Spot.t l h _
      simp [go_sem,hZl,hi,hgi,hly]
      refine K_loopP (α:=Nat×List Int×(Nat→AObj)×Nat) (fun (j,d,τ,ny)=>j≤l.length∧d.length=ps.length∧resP ((x.layGo p k i (l.drop j) d).bind G2)=R∧τ 2= .box (ckC x p (.ref 5))∧τ 3= .box [.ptr 2 0]∧τ 5= .arr 1 (ints d)∧5<ny)
       (fun (j,d,τ,ny)=>⟨sl [(5,.ptr 3 0),(8,.i k),(10,.i i),(78,.t (.sl Y)),(79,.i ps.length),(80,.i k),(94,.t (.sl Z)),(95,.i q.length),(96,.i i),(101,.t (.sl (l.map Spot.t))),(102,.i l.length),(103,.i j)],τ,ny⟩) (fun a=>l.length-a.1) (0,d,τ,ny) ?_ (Imp.slots (by simp [go_sem,hVl]) rfl rfl) ?_
      ·exact ⟨Nat.zero_le _,g2,g3,g4,g5,g6,g7⟩
      clear g2 g3 g4 g5 g6 g7
      rintro ⟨j,d,τ,ny⟩ ⟨g1,g2,g3,g4,g5,g6,g7⟩
      refine K_run hB 60 ?_
      simp [go_sem]
      refine fork_dec (fun hj=>?_) (fun hj=>?_)
      ·have hjj:IntKind.i64.wrap ((j:Int)+1)=((j+1:Nat):Int):=by rw [w64 ((j:Int)+1) (by omega)];rfl
       have hgj:∀h:j<(l.map Spot.t).length,(l.map Spot.t)[j]'h=l[j].t:=fun h=>hVg j hj
       have hgd:d.getD k 0=d[k]:=by rw [List.getD_eq_getElem?_getD,List.getElem?_eq_getElem (by omega)];rfl
       rw [List.drop_eq_getElem_cons hj,Inst.layGo,hgd] at g3
       obtain ⟨hn0,hn1,hn2⟩:=hln _ (List.getElem_mem hj)
       have hn3:=hon _ (List.getElem_mem hj)
       generalize l[j]=n at *
       have n2:¬2=ny:=by omega
       have n3:¬3=ny:=by omega
       have n5:¬5=ny:=by omega
       have hh:=fun τ' h1 h2=>hhold τ' (ny+1) k i q n d hqk (by omega) (by omega) hn2 hn3 (by omega) h1 h2
       simp [go_sem,hVl,hj,hgj,Spot.t,g5,n3]
       refine K_call rfl rfl rfl (args:=[.ptr 2 0,.i k,.i i,n.a]) (f:=68) (by simp [go_sem,Spot.a,Spot.cs]) (by simp [go_sem,hB]) (hh _ (by simp [oput,n2,g4]) (by simp [oput,n5,g6])) ?_
       cases hhb:x.holdsB p k i n d[k] with
       |false=>
        rw [hhb,if_neg (by simp)] at g3
        subst g3
        refine K_run hB 100 ?_
        simp [go_sem]
        rfl
       |true=>
        rw [hhb,if_pos rfl] at g3
        have hw1:IntKind.i64.wrap (n.part-1)=n.part-1:=w64 _ (by omega)
        by_cases e1:(k:Int)<n.part-1
        ·obtain ⟨o,ho⟩:∃o:Nat,n.part-1=(o:Int):=⟨(n.part-1).toNat,by omega⟩
         have hst:stepD k i n d=d.set o (min (d.getD o 0) (IntKind.i64.wrap (d.getD k 0+i))):=by
          rw [stepD,if_pos e1,show (n.part-1).toNat=o by omega]
         have hod:o<d.length:=by omega
         have hgo:d.getD o 0=d[o]:=by rw [List.getD_eq_getElem?_getD,List.getElem?_eq_getElem hod];rfl
         rw [hst,hgo,hgd] at g3
         have hdl:(ints d).length=d.length:=List.length_map _
         have hdk:k<d.length:=by omega
         have hdg:∀h:k<(ints d).length,(ints d)[k]'h=[.i d[k]]:=fun h=>ints_getS _ hdk
         have hdo:∀h:o<(ints d).length,(ints d)[o]'h=[.i d[o]]:=fun h=>ints_getS _ hod
         have e1':k<o:=by omega
         rw [ho] at hw1
         generalize d[k]=dk at *
         generalize d[o]=dO at *
         refine K_run hB 100 ?_
         simp [go_sem,ho,hw1,e1']
         refine K_drawnT [23] rfl (by rw [hB];kernel_rfl) (by kernel_rfl) fun ht=>?_
         refine K_run hB 100 ?_
         simp [go_sem,ht,n2,n3,n5,g4,g5,g6,hck5,hdl,hdk,hod,hdg,hdo,Nat.mod_one,hjj]
         refine Next.mk (j+1,d.set o (min dO (IntKind.i64.wrap (dk+i))),_,ny+1) ?_ (Imp.slots (by simp [go_sem]) rfl rfl) (by simp only;omega)
         exact ⟨by simp only;omega,by simp only [List.length_set];exact g2,g3,by simp [oput,n2,g4,hck5],by simp [oput,n3,g5],by simp [oput,n5,g6,ints,List.map_set],by simp only;omega⟩
        ·have hst:stepD k i n d=d:=by rw [stepD,if_neg e1]
         rw [hst] at g3
         refine K_run hB 100 ?_
         simp [go_sem,hw1,e1,hjj]
         refine Next.mk (j+1,d,_,ny+1) ?_ (Imp.slots (by simp [go_sem]) rfl rfl) (by simp only;omega)
         exact ⟨by simp only;omega,g2,g3,by simp [oput,n2,g4],by simp [oput,n3,g5],by simp [oput,n5,g6],by simp only;omega⟩
      ·have:j=l.length:=by omega
       subst this
       rw [List.drop_length,Inst.layGo,Option.bind_some,←hG2] at g3
       simp [go_sem,hii]
       refine Next.mk (i+1,d,τ,ny) ?_ (Imp.slots (by simp [go_sem]) rfl rfl) (by simp only;omega)
       exact ⟨by simp only;omega,g2,g3,g4,g5,g6,g7⟩
     ·have:i=q.length:=by omega
      subst this
      rw [List.drop_length,Inst.partGo,Option.bind_some,←hG] at g3
      simp [go_sem,hkk]
      refine Next.mk (k+1,d,τ,ny) ?_ (Imp.slots (by simp [go_sem]) rfl rfl) (by simp only;omega)
      exact ⟨by simp only;omega,g2,g3,g4.trans (by rw [hck5]),g5,g6,g7⟩
   ·have:k=ps.length:=by omega
    subst this
    rw [List.drop_length,Inst.partsGo,resP] at g3
    subst g3
    simp [go_sem]
end Go.Proofs.YtackfabapangdaaGreat

set_option maxRecDepth 4000
set_option maxHeartbeats 1000000
namespace Go.Proofs.YtackfabapangdaaGreat
open Go Go.Proofs.YtackfabapangdaaGreat.R
def CSpot.sp (s:CSpot):Spot:=⟨⟨s.at_,s.car,s.time,s.load,s.first,s.must,s.may,s.on⟩,s.cost,s.part⟩
def CPrf.pf (p:CPrf):Prf:=⟨p.least,p.parts.map fun q=>q.map fun l=>l.map CSpot.sp⟩
theorem pf_a (p:CPrf):p.a=p.pf.a:=by
 have h1:∀l:Layer,(l.map CSpot.sp).map Spot.t=l.map CSpot.t:=fun l=>by rw [List.map_map];rfl
 have h2:∀q:Part,partT (q.map fun l=>l.map CSpot.sp)=cpartT q:=fun q=>by
  unfold partT cpartT
  rw [List.map_map]
  congr 2
  refine List.map_congr_left fun l _=>?_
  show layT (l.map CSpot.sp)=[clayT l]
  rw [layT,h1,clayT]
 rw [CPrf.a,Prf.a,Prf.cs,CPrf.pf]
 simp only [List.map_map]
 have h3:(partT ∘ fun q:Part=>q.map fun l=>l.map CSpot.sp)=cpartT:=funext h2
 rw [h3]
theorem good_fine {p:CPrf} (h:p.good):p.pf.Fine:=by
 refine ⟨?_,fun q hq=>?_,fun q hq l hl=>?_,fun q hq l hl n hn=>?_⟩
 ·have:=h.parts
  simp only [CPrf.pf,List.length_map]
  omega
 all_goals
  obtain ⟨q',hq',rfl⟩:=List.mem_map.1 hq
  have hg:=h.part q' hq'
 ·have:=hg.1
  rw [List.length_map]
  omega
 all_goals
  obtain ⟨l',hl',rfl⟩:=List.mem_map.1 hl
  have hg2:=hg.2 l' hl'
 ·have:=hg2.1
  rw [List.length_map]
  omega
 ·obtain ⟨s,hs,rfl⟩:=List.mem_map.1 hn
  have ho:=(hg2.2 s hs).ok
  exact ⟨ho.1,ho.2.1,ho.2.2⟩
theorem parseR_len (b:List Nat):(parseR b).1.stops.length≤4097:=by
 have h:=linesR_len b
 unfold parseR
 split
 ·simp [Inst.zero]
 ·unfold parseL
  split
  ·simp [Inst.zero]
  ·split
   ·cases hl:(linesR b).1 with
    |nil=>simp [instOf,Inst.zero]
    |cons r l=>
     rw [hl] at h
     simp only [instOf,List.length_map]
     simp only [List.length_cons] at h
     omega
   ·simp [Inst.zero]
def checkR (i t c:List Nat):Clm:=
 if (parseR i).2≠0 then ⟨5,0,0⟩ else if (dec c).2≠0 then ⟨5,0,0⟩ else if (parseR i).1.checkE (dec c).1.pf≠0 then ⟨5,0,0⟩
 else if ((parseR i).1.costT t).2=0 then claimR ((parseR i).1.costT t).1 (dec c).1.least else ⟨5,0,0⟩
theorem ccheck_pure (i t c:List Nat) (hi:i.length<2^63) (hi8:∀c∈i,c<256) (ht:t.length<2^63) (ht8:∀c∈t,c<256) (hc:c.length<2^63) (hc8:∀x∈c,x<256):Pure P 17 [.t (.sl (byt i)),.t (.sl (byt t)),.t (.sl (byt c))] ((checkR i t c).a):=by
 generalize hR:checkR i t c=R
 refine pure_of Tryz.func17 rfl rfl (by simp [Tryz.f17]) (by simp [bnd,bnd.bndL]) (by simp [bnd,bnd.bndL,Clm.a,Clm.cs]) fun B hB hnx=>?_
 simp only [Tryz.f17] at hB ⊢
 rw [checkR] at hR
 have h1:=parseB_pure i hi hi8
 have hlen:=parseR_len i
 have h2:=decode_pure c hc hc8
 have hgood:=dec_once hc8
 have h3:=fun (p:CPrf) (hp:p.good)=>check_pure (parseR i).1 p.pf (by omega) (good_fine hp)
 have h4:=ccost_pure (parseR i).1 t (by omega) ht ht8
 generalize (parseR i).1=x at *
 generalize (parseR i).2=e at *
 generalize (dec c).1=p at *
 generalize (dec c).2=f at *
 rw [cbyt_eq,pf_a] at h2
 have hl:p.pf.least=p.least:=rfl
 refine K_run hB 100 ?_
 simp [go_sem]
 refine K_scopeP (α:=Unit) 0 (fun _=>R=⟨5,0,0⟩) (fun _=>⟨sl [(6,.ptr 0 0)],ob [(0,.box [.i 0,.i 0,.i 0])],3⟩) (fun _=>0) rfl ?_ ?_
 ·refine K_run hB 100 ?_
  simp [go_sem]
  refine K_call rfl rfl rfl (args:=[.t (.sl (byt i))]) (f:=21) (by simp [go_sem]) (by simp [go_sem,hB]) ((h1).spec _ _) ?_
  by_cases c1:e=0
  rotate_left
  ·rw [if_pos c1] at hR
   refine K_run hB 100 ?_
   simp [go_sem,c1,Inst.a]
   refine ⟨hR.symm,Imp.of (by simp [go_sem]) (fun i=>?_) rfl⟩
   match i with
   |0=>exact .inr (by simp [ob,oput])
   |i+1=>exact .inl (by simp [ob,noObj])
  rw [if_neg (fun h=>h c1)] at hR
  refine K_run hB 100 ?_
  simp [go_sem,c1,Inst.a]
  refine K_call rfl rfl rfl (args:=[.t (.sl (byt c))]) (f:=25) (by simp [go_sem]) (by simp [go_sem,hB]) ((h2).spec _ _) ?_
  by_cases c2:f=0
  rotate_left
  ·rw [if_pos c2] at hR
   refine K_run hB 100 ?_
   simp [go_sem,c2,Prf.a,Prf.cs]
   refine ⟨hR.symm,Imp.of (by simp [go_sem]) (fun i=>?_) rfl⟩
   match i with
   |0=>exact .inr (by simp [ob,oput])
   |i+1=>exact .inl (by simp [ob,noObj])
  rw [if_neg (fun h=>h c2)] at hR
  have h5:=h3 p (hgood c2).2
  clear h3 hgood
  generalize x.checkE p.pf=v at *
  refine K_run hB 100 ?_
  simp [go_sem,c2,Prf.a,Prf.cs]
  refine K_call rfl rfl rfl (args:=[x.a,p.pf.a]) (f:=26) (by simp [go_sem,Inst.a,Prf.a,Prf.cs]) (by simp [go_sem,hB]) ((h5).spec _ _) ?_
  by_cases c3:v=0
  rotate_left
  ·rw [if_pos c3] at hR
   refine K_run hB 100 ?_
   simp [go_sem,c3]
   refine ⟨hR.symm,Imp.of (by simp [go_sem]) (fun i=>?_) rfl⟩
   match i with
   |0=>exact .inr (by simp [ob,oput])
   |i+1=>exact .inl (by simp [ob,noObj])
  rw [if_neg (fun h=>h c3)] at hR
  refine K_run hB 100 ?_
  simp [go_sem,c3]
  refine K_call rfl rfl rfl (args:=[x.a,.t (.sl (byt t))]) (f:=41) (by simp [go_sem,Inst.a]) (by simp [go_sem,hB]) ((h4).spec _ _) ?_
  generalize x.costT t=w at *
  by_cases c4:w.2=0
  ·rw [if_pos c4] at hR
   refine K_run hB 100 ?_
   simp [go_sem,c4]
   have h6:=claim_pure w.1 p.pf.least
   rw [hl,hR] at h6
   refine K_call rfl rfl rfl (args:=[.i w.1,.i p.pf.least]) (f:=42) (by simp [go_sem]) (by simp [go_sem,hB]) ((h6).spec _ _) ?_
   refine K_run hB 100 ?_
   simp [go_sem,Clm.a,Clm.cs]
  ·rw [if_neg c4] at hR
   refine K_run hB 100 ?_
   simp [go_sem,c4]
   rw [←hR]
   rfl
 ·rintro ⟨⟩ h
  refine K_run hB 100 ?_
  simp [go_sem]
  rw [h]
  rfl
end Go.Proofs.YtackfabapangdaaGreat

set_option maxRecDepth 4000
set_option maxHeartbeats 1000000
namespace Go.Proofs.YtackfabapangdaaGreat
open Go Go.Proofs.YtackfabapangdaaGreat.R
def Inst.rootP (x:Inst) (m:Int):Prf:=⟨m,[[[⟨x.rootS,0,0⟩]]]⟩
theorem small_check:small.checkE (small.rootP 0)=0∧small.checkE ((small.rootP 0).less 13)=10:=by decide+kernel
end Go.Proofs.YtackfabapangdaaGreat

set_option maxRecDepth 4000
set_option maxHeartbeats 1000000
namespace Go.Proofs.YtackfabapangdaaGreat
open Go Go.Proofs.YtackfabapangdaaGreat.R
def rootC:CPrf:=⟨0,[[[⟨0,1,0,0,0,0,0,0,0,0⟩]]]⟩
theorem small_root:small.rootS=⟨0,1,0,0,0,0,0,0⟩:=by decide+kernel
theorem rootC_is:small.rootP 0=rootC.pf:=by rw [Inst.rootP,small_root];rfl
theorem plan12:planR [49,32,50]=([[1,2]],0):=by
 have h:linesR [49,32,50]=([[1,2]],0):=by simp [linesR,linesF,lineR,lineF,numR,digR,digB,nowN]
 rw [planR,h]
 decide
theorem plan21:planR [50,32,49]=([[2,1]],0):=by
 have h:linesR [50,32,49]=([[2,1]],0):=by simp [linesR,linesF,lineR,lineF,numR,digR,digB,nowN]
 rw [planR,h]
 decide
theorem plan1212:planR [49,32,50,10,49,32,50]=([[1,2],[1,2]],0):=by
 have h:linesR [49,32,50,10,49,32,50]=([[1,2],[1,2]],0):=by simp [linesR,linesF,lineR,lineF,numR,digR,digB,nowN]
 rw [planR,h]
 decide
theorem none_x:(parseR [120]).2≠0:=by
 have h:(linesR [120]).2=2:=by simp [linesR,linesF,lineR,lineF,numR,digR,digB,nowN]
 rw [parseR,if_pos (by rw [h];decide),h]
 decide
theorem small_costs:small.cost [[1,2]]=(12,0)∧(small.cost [[2,1]]).2≠0∧(small.cost [[1,2],[1,2]]).2≠0:=by decide+kernel
theorem rootC_good:rootC.good:=by
 constructor
 ·exact ⟨by decide,by decide⟩
 ·decide
 ·intro q hq
  rw [List.mem_singleton.1 hq]
  refine ⟨by decide,fun l hl=>?_⟩
  rw [List.mem_singleton.1 hl]
  refine ⟨by decide,fun s hs=>?_⟩
  rw [List.mem_singleton.1 hs]
  constructor<;>first | exact ⟨by decide,by decide⟩ | exact ⟨by decide,by decide,by decide⟩
theorem check_awake:checkR smallB [49,32,50] rootC.enc=⟨4,0,12⟩:=by
 have e1:small.checkE rootC.pf=0:=by rw [←rootC_is];exact small_check.1
 have e2:small.costT [49,32,50]=(12,0):=by rw [Inst.costT,if_neg (by decide),plan12,if_neg (by decide)];exact small_costs.1
 rw [checkR,small_parse,dec_enc rootC_good,if_neg (by decide),if_neg (by decide),if_neg (by rw [e1];decide),e2,if_pos rfl]
 decide
theorem rootC_ok:rootC.ok:=by
 refine ⟨by decide,?_,?_,?_⟩
 ·intro q hq
  rw [List.mem_singleton.1 hq]
  decide
 ·intro q hq l hl
  rw [List.mem_singleton.1 hq] at hl
  rw [List.mem_singleton.1 hl]
  decide
 ·intro q hq l hl s hs
  rw [List.mem_singleton.1 hq] at hl
  rw [List.mem_singleton.1 hl] at hs
  rw [List.mem_singleton.1 hs]
  exact ⟨by decide,by decide,by decide⟩
theorem rootC_enc:rootC.enc=[72,76,82,49,0,1,1,1,0,1,0,0,0,0,0,0,0,0]:=by
 simp [CPrf.enc,rootC,encI,partEnc,layEnc,CSpot.enc,enc_lt,un]
theorem rootC_err:rootC.err=0:=by simp [CPrf.err,CPrf.spots,rootC,CSpot.err,err1]
theorem check_bad {i t c:List Nat} (h:((parseR i).1.costT t).2≠0):checkR i t c=⟨5,0,0⟩:=by
 rw [checkR,if_neg h]
 split
 ·rfl
 ·split
  ·rfl
  ·split<;>rfl
theorem other_bad (c:List Nat):checkR smallB [50,32,49] c=⟨5,0,0⟩∧checkR smallB [49,32,50,10,49,32,50] c=⟨5,0,0⟩:=by
 have e2:small.costT [50,32,49]=small.cost [[2,1]]:=by rw [Inst.costT,if_neg (by decide),plan21,if_neg (by decide)]
 have e3:small.costT [49,32,50,10,49,32,50]=small.cost [[1,2],[1,2]]:=by rw [Inst.costT,if_neg (by decide),plan1212,if_neg (by decide)]
 exact ⟨check_bad (by rw [small_parse,e2];exact small_costs.2.1),check_bad (by rw [small_parse,e3];exact small_costs.2.2)⟩
theorem make0_pure (x:Inst) (hl:x.stops.length<2^31):Pure P 40 [x.a,.agg [.i 0,.t (.sl []),.i 0,.i 0,.i 0,.t (.sl [])]] ((x.rootP 0).a):=by
 refine pure_of Tryz.func40 rfl rfl (by simp [Tryz.f40]) (by simp [bnd,bnd.bndL,Inst.a]) (by simp [bnd,bnd.bndL,Prf.a,Prf.cs]) fun B hB hnx=>?_
 simp only [Tryz.f40] at hB ⊢
 have hr:=root_pureS x (by omega)
 rw [Inst.rootP]
 generalize x.rootS=r at *
 refine K_run hB 100 ?_
 simp [go_sem,Inst.a]
 refine K_loopP (α:=Unit) (fun _=>True) (fun _=>⟨sl [(2,.ptr 0 0),(3,.ptr 1 0),(4,.ptr 2 0),(6,.ptr 4 0),(17,.i 0),(18,.i 0)],_,_⟩) (fun _=>0) () trivial (Imp.slots (by simp [go_sem]) rfl rfl) ?_
 intro _ _
 refine K_run hB 60 ?_
 simp [go_sem]
 refine K_call rfl rfl rfl (args:=[x.a]) (f:=57) (by simp [go_sem,Inst.a]) (by simp [go_sem,hB]) ((hr).spec _ _) ?_
 refine K_run hB 100 ?_
 simp [go_sem,State.a,State.cs]
 rfl
def few22 (i t c:List Nat):Bool:=decide (i.length≤6000)&&decide (t.length≤6000)&&decide (c.length≤20000)&&decide ((parseR i).1.stops.length≤9)
theorem few22_pure (i t c:List Nat) (hi:i.length<2^63) (hi8:∀c∈i,c<256):Pure P 16 [.t (.sl (byt i)),.t (.sl (byt t)),.t (.sl (byt c))] (.b (few22 i t c)):=by
 generalize hR:few22 i t c=R
 refine pure_of Tryz.func16 rfl rfl (by simp [Tryz.f16]) (by simp [bnd,bnd.bndL]) (by simp [bnd,bnd.bndL]) fun B hB hnx=>?_
 simp only [Tryz.f16] at hB ⊢
 rw [few22] at hR
 have h1:=parseB_pure i hi hi8
 generalize (parseR i).1=x at *
 generalize (parseR i).2=e at *
 have hsl:(x.stops.map Stop.t).length=x.stops.length:=List.length_map _
 refine K_run hB 100 ?_
 simp [go_sem]
 refine K_call rfl rfl rfl (args:=[.t (.sl (byt i))]) (f:=21) (by simp [go_sem]) (by simp [go_sem,hB]) ((h1).spec _ _) ?_
 by_cases c1:(i.length:Int)≤6000
 rotate_left
 ·have d1:¬i.length≤6000:=by omega
  have:R=false:=by rw [←hR];simp [d1]
  refine K_run hB 100 ?_
  simp [go_sem,Inst.a,byt_len,hsl,c1,this]
 have d1:i.length≤6000:=by omega
 by_cases c2:(t.length:Int)≤6000
 rotate_left
 ·have d2:¬t.length≤6000:=by omega
  have:R=false:=by rw [←hR];simp [d2]
  refine K_run hB 100 ?_
  simp [go_sem,Inst.a,byt_len,hsl,c1,c2,this]
 have d2:t.length≤6000:=by omega
 by_cases c3:(c.length:Int)≤20000
 rotate_left
 ·have d3:¬c.length≤20000:=by omega
  have:R=false:=by rw [←hR];simp [d3]
  refine K_run hB 100 ?_
  simp [go_sem,Inst.a,byt_len,hsl,c1,c2,c3,this]
 have d3:c.length≤20000:=by omega
 by_cases c4:(x.stops.length:Int)≤9
 rotate_left
 ·have d4:¬x.stops.length≤9:=by omega
  have:R=false:=by rw [←hR];simp [d4]
  refine K_run hB 100 ?_
  simp [go_sem,Inst.a,byt_len,hsl,c1,c2,c3,c4,this]
 have d4:x.stops.length≤9:=by omega
 have:R=true:=by rw [←hR];simp [d1,d2,d3,d4]
 refine K_run hB 100 ?_
 simp [go_sem,Inst.a,byt_len,hsl,c1,c2,c3,c4,this]
end Go.Proofs.YtackfabapangdaaGreat

set_option maxRecDepth 4000
set_option maxHeartbeats 1000000
namespace Go.Proofs.YtackfabapangdaaGreat
open Go Go.Proofs.YtackfabapangdaaGreat.R
theorem awake22_pure:Pure P 15 [] (.b true):=by
 refine pure_of Tryz.func15 rfl rfl (by simp [Tryz.f15]) (by simp [bnd,bnd.bndL]) (by simp [bnd,bnd.bndL]) fun B hB hnx=>?_
 simp only [Tryz.f15] at hB ⊢
 have hp:=parse_pure smallB (by decide) (by decide)
 rw [small_parse] at hp
 have hl:small.stops.length<2^31:=by decide
 have hmk:=make0_pure small hl
 rw [rootC_is,←pf_a] at hmk
 have hen:=encode_pure rootC rootC_ok (by rw [rootC_enc];decide)
 rw [if_pos rootC_err,rootC_enc,cbyt_eq] at hen
 have hck:=ccheck_pure smallB [49,32,50] rootC.enc (by decide) (by decide) (by decide) (by decide) (by rw [rootC_enc];decide) (by rw [rootC_enc];decide)
 rw [check_awake,rootC_enc] at hck
 have hpa:rootC.a= .agg [.i 0,.t (.sl (rootC.parts.map cpartT))]:=rfl
 rw [hpa] at hmk hen
 generalize rootC.parts.map cpartT=rp at *
 generalize small=x at *
 refine K_run hB 100 ?_
 simp [go_sem]
 refine K_call rfl rfl rfl (args:=[]) (f:=27) (by simp [go_sem]) (by simp [go_sem,hB]) ((small_pure).spec _ _) ?_
 refine K_run hB 100 ?_
 simp [go_sem,small_bytes]
 refine K_call rfl rfl rfl (args:=[.t (.sl (byt smallB))]) (f:=21) (by simp [go_sem]) (by simp [go_sem,hB]) ((hp).spec _ _) ?_
 refine K_run hB 100 ?_
 simp [go_sem,Inst.a]
 refine K_call rfl rfl rfl (args:=[x.a,.agg [.i 0,.fsl [],.i 0,.i 0,.i 0,.fsl []]]) (f:=40) (by simp [go_sem,Inst.a]) (by simp [go_sem,hB]) ((Pure.loose hmk (by simp [bnd,bnd.bndL,Inst.a])).spec _ _) ?_
 refine K_run hB 100 ?_
 simp [go_sem]
 refine K_call rfl rfl rfl (args:=[.agg [.i 0,.t (.sl rp)]]) (f:=39) (by simp [go_sem]) (by simp [go_sem,hB]) ((hen).spec _ _) ?_
 refine K_run hB 100 ?_
 simp [go_sem]
 refine K_call rfl rfl rfl (args:=[]) (f:=27) (by simp [go_sem]) (by simp [go_sem,hB]) ((small_pure).spec _ _) ?_
 refine K_run hB 1 ?_
 simp [go_sem,small_bytes]
 refine K_bytes (es:=byt [49,32,50]) rfl rfl rfl rfl rfl tt22 rfl tt5 rfl (by simp [go_sem,byt]) (by simp [go_sem,hB]) (by simp [go_sem,hB]) ?_
 refine K_run hB 100 ?_
 simp [go_sem]
 refine K_call rfl rfl rfl (args:=[.t (.sl (byt smallB)),.t (.sl (byt [49,32,50])),.t (.sl (byt [72,76,82,49,0,1,1,1,0,1,0,0,0,0,0,0,0,0]))]) (f:=17) (by simp [go_sem]) (by simp [go_sem,hB]) ((hck).spec _ _) ?_
 refine K_run hB 100 ?_
 simp [go_sem,Clm.a,Clm.cs]
 refine K_eq (op:=.eql) (t:=26) (t':=26) (x:=.tmp 25) (y:=.tmp 26) (xs:=(⟨4,0,12⟩:Clm).cs) (ys:=(⟨4,0,12⟩:Clm).cs) rfl rfl (by simp [go_sem,hB]) (by simp [go_sem,Clm.cs]) (by simp [go_sem,Clm.cs]) claim_guard (claim_eq ⟨4,0,12⟩ ⟨4,0,12⟩) rfl ?_
 refine K_run hB 100 ?_
 simp [go_sem]
 refine K_call rfl rfl rfl (args:=[]) (f:=19) (by simp [go_sem]) (by simp [go_sem,hB]) ((noplan_pure).spec _ _) ?_
 refine K_run hB 100 ?_
 simp [go_sem,unbytes_byt]
theorem lcother_pure (t c:List Nat) (ht:t.length<2^63) (ht8:∀c∈t,c<256) (hc:c.length<2^63) (hc8:∀x∈c,x<256):Pure P 6 [.t (.sl (byt t)),.t (.sl (byt c))] (.b true):=by
 refine pure_of Tryz.func6 rfl rfl (by simp [Tryz.f6]) (by simp [bnd,bnd.bndL]) (by simp [bnd,bnd.bndL]) fun B hB hnx=>?_
 simp only [Tryz.f6] at hB ⊢
 have h1:=ccheck_pure [120] t c (by decide) (by decide) ht ht8 hc hc8
 have h2:=ccheck_pure smallB [50,32,49] c (by decide) (by decide) (by decide) (by decide) hc hc8
 have h3:=ccheck_pure smallB [49,32,50,10,49,32,50] c (by decide) (by decide) (by decide) (by decide) hc hc8
 have e1:checkR [120] t c=⟨5,0,0⟩:=by rw [checkR,if_pos none_x]
 obtain ⟨e2,e3⟩:=other_bad c
 rw [e1] at h1
 rw [e2] at h2
 rw [e3] at h3
 refine K_run hB 100 ?_
 simp [go_sem]
 refine K_call rfl rfl rfl (args:=[]) (f:=15) (by simp [go_sem]) (by simp [go_sem,hB]) ((awake22_pure).spec _ _) ?_
 by_cases c1:6000<(t.length:Int)
 ·refine K_run hB 100 ?_
  simp [go_sem,byt_len,c1]
 by_cases c2:20000<(c.length:Int)
 ·refine K_run hB 100 ?_
  simp [go_sem,byt_len,c1,c2]
 refine K_run hB 28 ?_
 simp [go_sem,byt_len,c1,c2]
 refine K_bytes (es:=byt [120]) rfl rfl rfl rfl rfl tt22 rfl tt5 rfl (by simp [go_sem,byt]) (by simp [go_sem,hB]) (by simp [go_sem,hB]) ?_
 refine K_run hB 100 ?_
 simp [go_sem]
 refine K_call rfl rfl rfl (args:=[.t (.sl (byt [120])),.t (.sl (byt t)),.t (.sl (byt c))]) (f:=17) (by simp [go_sem]) (by simp [go_sem,hB]) ((h1).spec _ _) ?_
 refine K_run hB 100 ?_
 simp [go_sem,Clm.a,Clm.cs]
 refine K_call rfl rfl rfl (args:=[]) (f:=27) (by simp [go_sem]) (by simp [go_sem,hB]) ((small_pure).spec _ _) ?_
 refine K_run hB 1 ?_
 simp [go_sem,small_bytes]
 refine K_bytes (es:=byt [50,32,49]) rfl rfl rfl rfl rfl tt22 rfl tt5 rfl (by simp [go_sem,byt]) (by simp [go_sem,hB]) (by simp [go_sem,hB]) ?_
 refine K_run hB 100 ?_
 simp [go_sem]
 refine K_call rfl rfl rfl (args:=[.t (.sl (byt smallB)),.t (.sl (byt [50,32,49])),.t (.sl (byt c))]) (f:=17) (by simp [go_sem]) (by simp [go_sem,hB]) ((h2).spec _ _) ?_
 refine K_run hB 100 ?_
 simp [go_sem,Clm.a,Clm.cs]
 refine K_call rfl rfl rfl (args:=[]) (f:=27) (by simp [go_sem]) (by simp [go_sem,hB]) ((small_pure).spec _ _) ?_
 refine K_run hB 1 ?_
 simp [go_sem,small_bytes]
 refine K_bytes (es:=byt [49,32,50,10,49,32,50]) rfl rfl rfl rfl rfl tt22 rfl tt5 rfl (by simp [go_sem,byt]) (by simp [go_sem,hB]) (by simp [go_sem,hB]) ?_
 refine K_run hB 100 ?_
 simp [go_sem]
 refine K_call rfl rfl rfl (args:=[.t (.sl (byt smallB)),.t (.sl (byt [49,32,50,10,49,32,50])),.t (.sl (byt c))]) (f:=17) (by simp [go_sem]) (by simp [go_sem,hB]) ((h3).spec _ _) ?_
 refine K_run hB 100 ?_
 simp [go_sem,Clm.a,Clm.cs]
end Go.Proofs.YtackfabapangdaaGreat

set_option maxRecDepth 100000
namespace Go.Proofs.YtackfabapangdaaGreat
open Go Go.ChangeShapes Go.WideShapes Go.ChangeAt Go.RowKit Go.Proofs.YtackfabapangdaaGreat.R
theorem has_u8 {f:Nat} {ts:List T} (h:HasT P f 5 ts):∃n:Nat,ts=[.v (.int .u8 n)]∧n<256:=by
 cases f with
 |zero=>exact h.elim
 |succ f=>
  simp only [HasT,(tt_some tt5).1] at h
  obtain ⟨n,rfl,hw⟩:=h
  have hr:0≤n∧n<256:=by
   simp [Lit.wf,IntKind.min,IntKind.max,IntKind.wrap,IntKind.bits,IntKind.signed] at hw
   omega
  refine ⟨n.toNat,by rw [Int.toNat_of_nonneg hr.1],by omega⟩
theorem has_bytes {f:Nat} {ts:List T} (h:HasT P f 22 ts):∃l:List Nat,ts=[.sl (byt l)]∧l.length≤maxLen∧∀c∈l,c<256:=by
 obtain ⟨l,rfl,h1,h2⟩:=has_slice (g:=fun n:Nat=>[T.v (.int .u8 n)]) (Q:=fun n=>n<256) (tt_some tt22).1 (fun f x h=>has_u8 h) h
 exact ⟨l,rfl,h1,h2⟩
section
variable {H:Type} {enc:TypeId×Value→H} {W:World} {base:Nat} {sp:Nat→Bool} {held:Bool} {v:Value} {d:DataW H} {ps:List MemPlace}
theorem arg_bytes (h:DataW.Trod enc P W 0 sp held 22 v d ps) (hv:Value.okWide P W .any base 22 v):∃l:List Nat,(l.length≤maxLen∧∀c∈l,c<256)∧RepA W (C0 W) (.t (.sl (byt l))) v:=by
 obtain ⟨f,ts,h1,h2⟩:=arg_slice (tt_some tt22).1 (by kernel_rfl) h hv
 obtain ⟨l,rfl,hl⟩:=has_bytes h1
 exact ⟨l,hl,h2 _ rfl⟩
end
end Go.Proofs.YtackfabapangdaaGreat

set_option maxRecDepth 100000
namespace Go.Proofs.YtackfabapangdaaGreat
open Go
theorem w_enter:Tryz.prog.mayEnter=true:=by kernel_rfl
theorem w_lift:((false:Bool)==Tryz.prog.liftsFinal)=true:=by kernel_rfl
theorem w_make:(Tryz.prog.make==some Make.cut)=true:=by kernel_rfl
end Go.Proofs.YtackfabapangdaaGreat
