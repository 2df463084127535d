/- Parts of the proof: Ways, Find, Pot, Look, Best, Law15, NarrowP, Deep, WideP, WideQ, Sched, Sched2, Sched3, PlanC, Split, ToursP, PlansP, WideT, SearchP, SearchQ, SearchR. -/
import Derived.Test.YtnoifgjiipgpoaaGreatMF
set_option linter.all false
set_option maxHeartbeats 4000000
set_option maxRecDepth 4000
namespace Go.Proofs.YtnoifgjiipgpoaaGreat
open Go Go.Proofs.YtnoifgjiipgpoaaGreat.R
def Inst.way (x:Inst):List Int→State→Int→Prop
 |[],s,c=>(x.endS s).2=true∧c=(x.endS s).1
 |j :: l,s,c=>(x.move s j).2.2=true∧∃d,x.way l (x.move s j).1 d∧c=(x.move s j).2.1+d
theorem way_in {x:Inst}:∀{l:List Int} {s:State} {c:Int},x.way l s c→0≤c∧c≤14143*(l.length+1)
 |[],s,c,h=>by
  have:=end_cost h.1
  have:=h.2
  simp only [List.length_nil]
  omega
 |j :: l,s,c,h=>by
  obtain ⟨h1,d,h2,h3⟩:=h
  have:=way_in h2
  have:=move_cost h1
  rw [List.length_cons]
  omega
theorem way_len {x:Inst}:∀{l:List Int} {s:State} {c:Int},x.way l s c→l.length≤x.meas s
 |[],s,c,h=>Nat.zero_le _
 |j :: l,s,c,h=>by
  obtain ⟨h1,d,h2,h3⟩:=h
  have:=way_len h2
  have:=meas_move h1
  rw [List.length_cons]
  omega
theorem way_low {x:Inst}:∀{l:List Int} {s:State} {c:Int},s.seenAt→x.way l s c→lowP x.near s.can≤c
 |[],s,c,_,h=>by rw [h.2];exact low_end h.1
 |j :: l,s,c,hs,h=>by
  obtain ⟨h1,d,h2,h3⟩:=h
  have:=way_low (seen_step h1) h2
  have:=low_step hs h1
  omega
theorem way_app {x:Inst}:∀{l:List Int} {s t:State} {c0 c1:Int} {m:List Int} {d:Int},0≤c0→c0+14143*l.length<9223372036854775808→x.goes l s c0=some (t,c1)→x.way m t d→x.way (l++m) s (c1-c0+d)
 |[],s,t,c0,c1,m,d,_,_,h,he=>by
  rw [Inst.goes] at h
  cases h
  have:c0-c0+d=d:=by omega
  rw [this]
  exact he
 |j :: l,s,t,c0,c1,m,d,h0,hl,h,he=>by
  rw [Inst.goes] at h
  split at h
  ·rename_i hm
   have hc:=move_cost hm
   rw [List.length_cons] at hl
   rw [w64 _ (by omega)] at h
   exact ⟨hm,_,way_app (by omega) (by omega) h he,by omega⟩
  ·cases h
structure State.Pos (s:State):Prop where
 car:1≤s.car
 time:0≤s.time
 load:0≤s.load
theorem within_with {a b k:Nat} (hk:k≤63) (h:withinB a b=true):withinB (withN a k) (withN b k)=true:=by
 rw [withinB,List.all_eq_true] at *
 intro i hi
 have:=h i hi
 rw [with_bit hk,with_bit hk]
 revert this
 cases a.testBit i<;>cases b.testBit i<;>cases decide (k=i)<;>simp
theorem within_without {a b k:Nat} (hk:k≤63) (h:withinB a b=true):withinB (withoutN a k) (withoutN b k)=true:=by
 rw [withinB,List.all_eq_true] at *
 intro i hi
 have:=h i hi
 have hi':=List.mem_range.1 hi
 rw [without_bit hk hi',without_bit hk hi']
 revert this
 cases a.testBit i<;>cases b.testBit i<;>cases decide (k=i)<;>simp
theorem within_zero {a:Nat} (ha:a<2^64) (h:withinB a 0=true):a=0:=by
 refine Nat.eq_of_testBit_eq fun i=>?_
 by_cases hi:i<64
 ·rw [withinB,List.all_eq_true] at h
  have:=h i (List.mem_range.2 hi)
  revert this
  cases a.testBit i<;>simp
 ·rw [Nat.zero_testBit]
  exact Nat.testBit_lt_two_pow (Nat.lt_of_lt_of_le ha (Nat.pow_le_pow_right (by omega) (by omega)))
theorem cov_mk {a b:State} (e1:a.spot=b.spot) (e2:withinB a.must b.must=true) (e3:withinB a.on b.on=true) (e4:withinB b.can a.can=true) (e5:a.car≤b.car) (e6:a.time≤b.time) (e7:a.load≤b.load) (e8:a.first≤b.first):coversB a b=true:=by
 simp only [coversB,Bool.and_eq_true,decide_eq_true_eq]
 exact ⟨⟨⟨⟨⟨⟨⟨e1,e2⟩,e3⟩,e4⟩,e5⟩,e6⟩,e7⟩,e8⟩
theorem cov_may {x:Inst} {a b:State} (h:coversB a b=true) (hp:a.Pos) (hb:b.mayB x=true):a.mayB x=true:=by
 simp only [coversB,Bool.and_eq_true,decide_eq_true_eq] at h
 simp only [State.mayB,Bool.and_eq_true,decide_eq_true_eq] at hb ⊢
 have:=hp.car
 have:=hp.time
 have:=hp.load
 omega
theorem cov_home {x:Inst} {a b:State} (hcov:coversB a b=true) (hp:a.Pos) (ho:a.ok) (h:(x.move b 0).2.2=true):
  x.move a 0=(x.homeS a,far (x.stop b.spot) (x.stop 0),true)∧coversB (x.homeS a) (x.homeS b)=true∧(x.homeS a).Pos:=by
 have hc:=hcov
 simp only [coversB,Bool.and_eq_true,decide_eq_true_eq] at hc
 obtain ⟨⟨⟨⟨⟨⟨⟨e1,e2⟩,e3⟩,e4⟩,e5⟩,e6⟩,e7⟩,e8⟩:=hc
 obtain ⟨h1,h2,h3,h4⟩:=move_home h
 obtain ⟨p,hx⟩:=x.fit h1
 have hpp:=hx.pairs
 have ha:=cov_may hcov hp h2
 have hs:x.stayB a=false:=by
  simp only [Inst.stayB,Bool.or_eq_false_iff,decide_eq_false_iff_not] at h3 ⊢
  obtain ⟨⟨⟨⟨a1,a2⟩,a3⟩,a4⟩,a5⟩:=h3
  have hon:a.on=0:=by
   have:b.on=0:=by omega
   rw [this] at e3
   exact within_zero ho.on e3
  refine ⟨⟨⟨⟨by rw [e1];exact a1,by omega⟩,by omega⟩,?_⟩,by rw [e1];omega⟩
  cases hq:x.allB a.must with
  |false=>rfl
  |true=>
   have:=within_trans hq e2
   rw [Inst.allB] at a4
   rw [a4] at this
   cases this
 have hto:x.to a 0=(x.homeS a,true):=by rw [Inst.to,if_pos rfl,Inst.home,if_neg (by rw [hs];simp)]
 have hmv:=move_mk (j:=0) h1 ha (by omega) (by rw [hto])
 rw [hto,e1] at hmv
 have h5:=(hx.at (j:=0) (by omega) (by omega)).ready
 have h6:=hp.car
 refine ⟨hmv,cov_mk (a:=x.homeS a) (b:=x.homeS b) rfl e2 e3 e4 ?_ ?_ ?_ e8,⟨?_,?_,?_⟩⟩<;>simp only [Inst.homeS]<;>omega
theorem cov_pos {x:Inst} {a b:State} {j:Int} (hj:j≠0) (hcov:coversB a b=true) (hp:a.Pos) (h:(x.move b j).2.2=true):
  x.move a j=(x.rvisit a j (x.begins a j),far (x.stop b.spot) (x.stop j),true)∧coversB (x.rvisit a j (x.begins a j)) (x.rvisit b j (x.begins b j))=true∧(x.rvisit a j (x.begins a j)).Pos:=by
 have hc:=hcov
 simp only [coversB,Bool.and_eq_true,decide_eq_true_eq] at hc
 obtain ⟨⟨⟨⟨⟨⟨⟨e1,e2⟩,e3⟩,e4⟩,e5⟩,e6⟩,e7⟩,e8⟩:=hc
 obtain ⟨h1,h2,h3,h4,h5,h6,h7,h8⟩:=move_pos h hj
 obtain ⟨p,hx⟩:=x.fit h1
 have hpp:=hx.pairs
 have hfew:=hx.few
 have ha:=cov_may hcov hp h2
 have hbe:x.begins a j≤x.begins b j:=by
  unfold Inst.begins
  rw [e1]
  omega
 have k1:x.lateB a j=false:=by
  simp only [Inst.lateB,Bool.or_eq_false_iff,decide_eq_false_iff_not] at h5 ⊢
  refine ⟨?_,by omega⟩
  cases hq:hasB a.must j with
  |false=>rfl
  |true=>
   have:=within_has e2 j hq
   rw [h5.1] at this
   cases this
 have k2:j≤x.pairs→x.fullB a j=false:=fun hh=>by
  have:=h6 hh
  simp only [Inst.fullB,Bool.or_eq_false_iff,Bool.and_eq_false_iff,decide_eq_false_iff_not] at this ⊢
  refine ⟨by omega,?_⟩
  rcases this.2 with h9 | h9
  ·exact .inl (by rw [e1];exact h9)
  ·exact .inr (by omega)
 have k3:x.pairs<j→x.emptyB a j=false:=fun hh=>by
  have:=h7 hh
  simp only [Inst.emptyB,Bool.or_eq_false_iff,Bool.not_eq_false',decide_eq_false_iff_not] at this ⊢
  exact ⟨by rw [e1];exact this.1,within_has e4 _ this.2⟩
 have hto:=to_visit (x:=x) (s:=a) hj k1 k2 k3
 have hmv:=move_mk (j:=j) h1 ha (by omega) (by rw [hto])
 rw [hto,e1] at hmv
 have h9:=(hx.at (j:=j) (by omega) (by omega)).service
 have h10:=(far_le (x.stop a.spot) (x.stop j)).1
 have h11:=hp.time
 have h12:=hp.car
 have h13:0≤x.begins a j:=by unfold Inst.begins;omega
 obtain ⟨k,hk⟩:∃k:Nat,j=k:=⟨j.toNat,by omega⟩
 refine ⟨hmv,?_,⟨?_,?_,?_⟩⟩
 ·generalize x.begins a j=ta at *
  generalize x.begins b j=tb at *
  generalize x.stop j=sj at *
  refine cov_mk ?_ ?_ ?_ ?_ ?_ ?_ ?_ ?_
  ·simp only [Inst.rvisit]
  ·simp only [Inst.rvisit]
   rw [hk]
   exact within_with (by omega) e2
  ·simp only [Inst.rvisit]
   rw [hk]
   split
   ·exact within_with (by omega) e3
   ·obtain ⟨q,hq⟩:∃q:Nat,(k:Int)-x.pairs=q:=⟨((k:Int)-x.pairs).toNat,by omega⟩
    rw [hq]
    exact within_without (by omega) e3
  ·simp only [Inst.rvisit]
   rw [hk]
   exact within_with (by omega) e4
  ·simp only [Inst.rvisit]
   exact e5
  ·simp only [Inst.rvisit]
   omega
  ·simp only [Inst.rvisit]
   omega
  ·simp only [Inst.rvisit]
   rw [e1]
   split
   ·exact Int.le_refl _
   ·exact e8
 ·simp only [Inst.rvisit];exact h12
 ·simp only [Inst.rvisit];omega
 ·simp only [Inst.rvisit];omega
theorem cov_move {x:Inst} {a b:State} {j:Int} (hc:coversB a b=true) (hp:a.Pos) (ho:a.ok) (h:(x.move b j).2.2=true):
  (x.move a j).2.2=true∧(x.move a j).2.1=(x.move b j).2.1∧coversB (x.move a j).1 (x.move b j).1=true∧(x.move a j).1.Pos:=by
 by_cases hj:j=0
 ·subst hj
  obtain ⟨g1,g2,g3⟩:=cov_home hc hp ho h
  rw [g1,(move_home h).2.2.2]
  exact ⟨rfl,rfl,g2,g3⟩
 ·obtain ⟨g1,g2,g3⟩:=cov_pos hj hc hp h
  rw [g1,(move_pos h hj).2.2.2.2.2.2.2]
  exact ⟨rfl,rfl,g2,g3⟩
theorem cov_end {x:Inst} {a b:State} (h0:x.pairs≠0) (hc:coversB a b=true) (hp:a.Pos) (ho:a.ok) (h:(x.endS b).2=true):(x.endS a).2=true∧(x.endS a).1=(x.endS b).1:=by
 have hcov:=hc
 simp only [coversB,Bool.and_eq_true,decide_eq_true_eq] at hc
 obtain ⟨⟨⟨⟨⟨⟨⟨e1,e2⟩,e3⟩,e4⟩,e5⟩,e6⟩,e7⟩,e8⟩:=hc
 obtain ⟨h1,h2 | ⟨h2,h3,h4,h5,h6,h7⟩⟩:=end_is h
 ·exact absurd h2.1 h0
 ·have hon:a.on=0:=by
   rw [h4] at e3
   exact within_zero ho.on e3
  have hend:x.endS a=(far (x.stop a.spot) (x.stop 0),true):=by
   rw [Inst.endS,if_neg (by simp [h1]),if_neg (fun h=>h0 h.1),if_pos]
   refine ⟨cov_may hcov hp h2,by rw [e1];exact h3,hon,?_,by rw [e1];omega⟩
   exact within_trans h5 e4
  rw [hend,h7,e1]
  exact ⟨rfl,rfl⟩
theorem cov_way {x:Inst} (h0:x.pairs≠0):∀{l:List Int} {a b:State} {c:Int},coversB a b=true→a.Pos→a.ok→x.way l b c→x.way l a c
 |[],a,b,c,hc,hp,ho,h=>by
  obtain ⟨h1,h2⟩:=cov_end h0 hc hp ho h.1
  exact ⟨h1,by rw [h2];exact h.2⟩
 |j :: l,a,b,c,hc,hp,ho,h=>by
  obtain ⟨h1,d,h2,h3⟩:=h
  obtain ⟨g1,g2,g3,g4⟩:=cov_move hc hp ho h1
  exact ⟨g1,d,cov_way h0 g3 g4 (move_ok x j ho) h2,by omega⟩
theorem pos_move {x:Inst} {s:State} {j:Int} (hp:s.Pos) (ho:s.ok) (h:(x.move s j).2.2=true):(x.move s j).1.Pos:=(cov_move (covers_refl s) hp ho h).2.2.2
theorem pos_root {x:Inst} (h:x.may=true):x.rootS.Pos:=by
 obtain ⟨p,hx⟩:=x.fit h
 have:=(hx.at (j:=0) (by omega) (by omega)).ready
 rw [Inst.rootS,if_pos h]
 exact ⟨Int.le_refl _,this.1,Int.le_refl _⟩
theorem move_pairs {x:Inst} {s:State} {j:Int} (h:(x.move s j).2.2=true):x.pairs≠0:=by
 by_cases hj:j=0
 ·subst hj
  obtain ⟨h1,h2,h3,h4⟩:=move_home h
  simp only [Inst.stayB,Bool.or_eq_false_iff,decide_eq_false_iff_not] at h3
  simp only [State.mayB,Bool.and_eq_true,decide_eq_true_eq] at h2
  omega
 ·have:=move_pos h hj
  omega
end Go.Proofs.YtnoifgjiipgpoaaGreat

set_option maxRecDepth 4000
namespace Go.Proofs.YtnoifgjiipgpoaaGreat
open Go Go.Proofs.YtnoifgjiipgpoaaGreat.R
structure Lev (x:Inst) (l:List Node) (d:Nat):Prop where
 ok:∀n∈l,n.s.ok
 deep:∀n∈l,x.meas n.s<d
 pos:∀n∈l,n.s.Pos
 seen:∀n∈l,n.s.seenAt
 cost:∀n∈l,0≤n.cost∧n.cost+14143*(d:Int)≤1152921504606846976
theorem child_cost {x:Inst} {l:List Node} {d:Nat} (h:Lev x l (d+1)) {n:Node} (hn:n∈l) {j:Int} (hj:(x.move n.s j).2.2=true):(x.child n j).cost=n.cost+(x.move n.s j).2.1:=by
 have h1:=h.cost n hn
 have h2:=move_cost hj
 show sumI [n.cost,(x.move n.s j).2.1]=_
 rw [sumI_two h1.1 h2.1 (by omega)]
theorem Lev.sub {x:Inst} {l m:List Node} {d:Nat} (h:Lev x l d) (hs:∀n∈m,n∈l):Lev x m d:=
 ⟨fun n hn=>h.ok n (hs n hn),fun n hn=>h.deep n (hs n hn),fun n hn=>h.pos n (hs n hn),fun n hn=>h.seen n (hs n hn),fun n hn=>h.cost n (hs n hn)⟩
theorem Lev.next {x:Inst} {l:List Node} {d:Nat} (h:Lev x l (d+1)) (up:Int):Lev x (x.next l up) d:=by
 have key:∀m∈x.next l up,∃n∈l,∃j,(x.move n.s j).2.2=true∧m=x.child n j:=by
  intro m hm
  obtain ⟨n,hn,j,hj,e,_⟩:=next_mem hm
  exact ⟨n,hn,j,moves_mem hj,e⟩
 refine ⟨?_,?_,?_,?_,?_⟩<;>(intro m hm;obtain ⟨n,hn,j,hj,rfl⟩:=key m hm)
 ·exact move_ok x j (h.ok n hn)
 ·have:=meas_move hj
  have:=h.deep n hn
  show x.meas (x.move n.s j).1<d
  omega
 ·exact pos_move (h.pos n hn) (h.ok n hn) hj
 ·exact seen_step hj
 ·rw [child_cost h hn hj]
  have:=h.cost n hn
  have:=move_cost hj
  omega
theorem Lev.front {x:Inst} {l:List Node} {d:Nat} (h:Lev x l (d+1)) (up:Int):Lev x (frontL (x.next l up)) d:=(h.next up).sub fun n hn=>(front_inv _).sub n hn
theorem Lev.empty {x:Inst} {l:List Node} (h:Lev x l 0):l=[]:=by
 cases l with
 |nil=>rfl
 |cons n l=>exact absurd (h.deep n List.mem_cons_self) (by omega)
theorem Lev.root {x:Inst} {n:Node} (h1:n.s.ok) (h2:n.s.Pos) (h3:n.s.seenAt) (h4:0≤n.cost∧n.cost≤1152921504606000000):Lev x [n] (x.meas n.s+1):=by
 have:=meas_le x n.s
 refine ⟨?_,?_,?_,?_,?_⟩<;>(intro m hm;rw [List.mem_singleton.1 hm])
 ·exact h1
 ·omega
 ·exact h2
 ·exact h3
 ·omega
theorem best_fold_from (x:Inst):∀(l:List Node) (b:Node×Bool),(l.foldl x.best1 b)=b∨((l.foldl x.best1 b).2=true∧∃n∈l,(x.endS n.s).2=true∧(l.foldl x.best1 b).1.cost=sumI [n.cost,(x.endS n.s).1]∧(l.foldl x.best1 b).1.path=n.path)
 |[],b=>.inl rfl
 |n :: l,b=>by
  rw [List.foldl_cons]
  rcases best_fold_from x l (x.best1 b n) with h | ⟨h1,m,hm,h2⟩
  ·rw [h]
   unfold Inst.best1
   split
   ·rename_i hc
    exact .inr ⟨rfl,n,List.mem_cons_self,hc.1,rfl,rfl⟩
   ·exact .inl rfl
  ·exact .inr ⟨h1,m,List.mem_cons_of_mem _ hm,h2⟩
theorem bests_from {x:Inst} {l:List Node} (h:(x.bests l).2=true):∃n∈l,(x.endS n.s).2=true∧(x.bests l).1.cost=sumI [n.cost,(x.endS n.s).1]∧(x.bests l).1.path=n.path:=by
 rcases best_fold_from x l (Node.zero,false) with h1 | ⟨_,h2⟩
 ·rw [Inst.bests,h1] at h;cases h
 ·exact h2
theorem end_sum {x:Inst} {l:List Node} {d:Nat} (h:Lev x l (d+1)) {n:Node} (hn:n∈l) (he:(x.endS n.s).2=true):sumI [n.cost,(x.endS n.s).1]=n.cost+(x.endS n.s).1:=by
 have h1:=h.cost n hn
 have h2:=end_cost he
 rw [sumI_two h1.1 h2.1 (by omega)]
theorem next_way {x:Inst} (hst:x.stops.length<2^31) {l:List Node} {d:Nat} (h:Lev x l (d+1)) {n:Node} (hn:n∈l) {j:Int} {w:List Int} {c:Int} (hj:(x.move n.s j).2.2=true) (hw:x.way w (x.move n.s j).1 c) {up:Int} (hlt:n.cost+((x.move n.s j).2.1+c)<up):
  ∃m∈x.next l up,m.s=(x.move n.s j).1∧m.cost≤n.cost+(x.move n.s j).2.1:=by
 have hc:=h.cost n hn
 have hmc:=move_cost hj
 have hcc:=child_cost h hn hj
 have hwl:=way_len hw
 have hwi:=way_in hw
 have hmm:=meas_move hj
 have hdp:=h.deep n hn
 have hlow:=way_low (seen_step hj) hw
 have hof:x.of (x.child n j)<up:=by
  have:=move_seen_low (x:=x) hst (x.child n j) (n.cost+((x.move n.s j).2.1+c)) (by omega) (by rw [hcc];show _+lowP x.near (x.move n.s j).1.can≤_;omega) (by omega)
  omega
 have hmem:x.child n j∈l.flatMap (x.kids up):=by
  refine List.mem_flatMap.2 ⟨n,hn,?_⟩
  rw [Inst.kids,List.mem_filter]
  exact ⟨List.mem_map.2 ⟨j,mem_moves hj,rfl⟩,by simpa using hof⟩
 obtain ⟨m,h1,h2,h3⟩:=onceL_has hmem
 exact ⟨m,h1,h2,by omega⟩
theorem front_way {x:Inst} {l:List Node} {d:Nat} (h:Lev x l d) (hp:x.pairs≠0) {n:Node} (hn:n∈l) {w:List Int} {c:Int} (hw:x.way w n.s c):∃m∈frontL l,x.way w m.s c∧m.cost≤n.cost:=by
 obtain ⟨f,hf,hfn⟩:=(front_inv l).up n hn
 have hfl:=(front_inv l).sub f hf
 simp only [Node.than,Bool.and_eq_true,decide_eq_true_eq] at hfn
 exact ⟨f,hf,cov_way hp hfn.2 (h.pos f hfl) (h.ok f hfl) hw,hfn.1.1⟩
theorem exGo_keep (x:Inst) (most:Int):∀(d:Nat) (st:Node×Bool×Int) (l:List Node) (n:Int),stOk st→st.2.1=true→(x.exGo most d st l n).2.1=true∧(x.exGo most d st l n).1.cost≤st.2.2
 |0,st,l,n,h,hs=>⟨hs,by rw [Inst.exGo];have:=h hs;simp only;omega⟩
 |d+1,st,l,n,h,hs=>by
  rw [Inst.exGo]
  split
  ·exact ⟨hs,by have:=h hs;simp only;omega⟩
  ·split
   ·exact ⟨hs,by have:=h hs;simp only;omega⟩
   ·obtain ⟨k1,k2,k3⟩:=look_ok (x:=x) (l:=l) h
    obtain ⟨j1,j2⟩:=exGo_keep x most d (x.look st l) (frontL (x.next l st.2.2)) (IntKind.i64.wrap (n+l.length)) k1 (k3 hs)
    exact ⟨j1,by omega⟩
theorem exGo_has {x:Inst} (hst:x.stops.length<2^31) (most:Int):∀(d:Nat) (st:Node×Bool×Int) (l:List Node) (n:Int),Lev x l d→stOk st→(x.exGo most d st l n).2.2.1=true→
  ∀m∈l,∀(w:List Int) (c:Int),x.way w m.s c→m.cost+c<st.2.2→(x.exGo most d st l n).2.1=true∧(x.exGo most d st l n).1.cost≤m.cost+c
 |0,st,l,n,hl,_,_,m,hm,w,c,_,_=>by rw [hl.empty] at hm;cases hm
 |d+1,st,l,n,hl,h,hall,m,hm,w,c,hw,hlt=>by
  have c1:¬l.length=0:=by
   have:=List.length_pos_of_mem hm
   omega
  rw [Inst.exGo,if_neg c1] at hall ⊢
  by_cases c2:most<l.length
  ·rw [if_pos c2] at hall;cases hall
  rw [if_neg c2] at hall ⊢
  obtain ⟨k1,k2,k3⟩:=look_ok (x:=x) (l:=l) h
  match w,hw with
  |[],hw=>
   obtain ⟨b1,b2⟩:=bests_has hm hw.1
   rw [end_sum hl hm hw.1,←hw.2] at b2
   have hlk:x.look st l=((x.bests l).1,true,(x.bests l).1.cost):=by rw [Inst.look,if_pos ⟨b1,by omega⟩]
   obtain ⟨j1,j2⟩:=exGo_keep x most d (x.look st l) (frontL (x.next l st.2.2)) (IntKind.i64.wrap (n+l.length)) k1 (by rw [hlk])
   refine ⟨j1,?_⟩
   have:(x.look st l).2.2=(x.bests l).1.cost:=by rw [hlk]
   omega
  |j :: w,hw=>
   obtain ⟨g1,e,g2,g3⟩:=hw
   obtain ⟨q,hq,q1,q2⟩:=next_way hst hl hm g1 g2 (up:=st.2.2) (by omega)
   obtain ⟨f,hf,f1,f2⟩:=front_way (hl.next st.2.2) (move_pairs g1) hq (w:=w) (c:=e) (by rw [q1];exact g2)
   by_cases c3:f.cost+e<(x.look st l).2.2
   ·obtain ⟨i1,i2⟩:=exGo_has hst most d (x.look st l) (frontL (x.next l st.2.2)) _ (hl.front st.2.2) k1 hall f hf w e f1 c3
    exact ⟨i1,by omega⟩
   ·have hs:(x.look st l).2.1=true:=by
     unfold Inst.look at c3 ⊢
     split
     ·rfl
     ·rename_i hh
      rw [if_neg hh] at c3
      omega
    obtain ⟨j1,j2⟩:=exGo_keep x most d (x.look st l) (frontL (x.next l st.2.2)) (IntKind.i64.wrap (n+l.length)) k1 hs
    exact ⟨j1,by omega⟩
theorem exGo_from {x:Inst} (most:Int):∀(d:Nat) (st:Node×Bool×Int) (l:List Node) (n:Int),Lev x l d→stOk st→
  ((x.exGo most d st l n).2.1=st.2.1∧(x.exGo most d st l n).1=st.1)∨
  ((x.exGo most d st l n).2.1=true∧∃m∈l,∃(w:List Int) (c:Int),x.way w m.s c∧(x.exGo most d st l n).1.cost=m.cost+c∧(x.exGo most d st l n).1.path=m.path++w∧m.cost+c<st.2.2)
 |0,st,l,n,_,_=>.inl ⟨rfl,rfl⟩
 |d+1,st,l,n,hl,h=>by
  rw [Inst.exGo]
  split
  ·exact .inl ⟨rfl,rfl⟩
  split
  ·exact .inl ⟨rfl,rfl⟩
  obtain ⟨k1,k2,k3⟩:=look_ok (x:=x) (l:=l) h
  rcases exGo_from most d (x.look st l) (frontL (x.next l st.2.2)) (IntKind.i64.wrap (n+l.length)) (hl.front st.2.2) k1 with ⟨i1,i2⟩ | ⟨i1,m,hm,w,c,i2,i3,i4,i5⟩
  ·by_cases hh:(x.bests l).2=true∧(x.bests l).1.cost<st.2.2
   ·have hlk:x.look st l=((x.bests l).1,true,(x.bests l).1.cost):=by rw [Inst.look,if_pos hh]
    rw [i1,i2,hlk]
    obtain ⟨m,hm,b1,b2,b3⟩:=bests_from hh.1
    rw [end_sum hl hm b1] at b2
    exact .inr ⟨rfl,m,hm,[],_,⟨b1,rfl⟩,b2,by rw [List.append_nil];exact b3,by omega⟩
   ·have hlk:x.look st l=st:=by rw [Inst.look,if_neg hh]
    rw [i1,i2,hlk]
    exact .inl ⟨rfl,rfl⟩
  ·obtain ⟨q,hq,j,hj,rfl,_⟩:=next_mem ((front_inv _).sub m hm)
   have hj:=moves_mem hj
   have hcc:=child_cost hl hq hj
   refine .inr ⟨i1,q,hq,j :: w,(x.move q.s j).2.1+c,⟨hj,c,i2,rfl⟩,?_,?_,?_⟩
   ·rw [i3,hcc];omega
   ·rw [i4]
    show (q.path++[j])++w=_
    rw [List.append_assoc];rfl
   ·rw [hcc] at i5;omega
theorem exact_has {x:Inst} (hst:x.stops.length<2^31) {n:Node} {up most:Int} (h1:n.s.ok) (h2:n.s.Pos) (h3:n.s.seenAt) (h4:0≤n.cost∧n.cost≤1152921504606000000) (hall:(x.exact n up most).2.2.1=true) {w:List Int} {c:Int} (hw:x.way w n.s c) (hlt:n.cost+c<up):
  (x.exact n up most).2.1=true∧(x.exact n up most).1.cost≤n.cost+c:=
 exGo_has hst most _ _ _ _ (Lev.root h1 h2 h3 h4) (fun h=>by cases h) hall n List.mem_cons_self w c hw hlt
theorem exact_from {x:Inst} {n:Node} {up most:Int} (h1:n.s.ok) (h2:n.s.Pos) (h3:n.s.seenAt) (h4:0≤n.cost∧n.cost≤1152921504606000000) (hs:(x.exact n up most).2.1=true):
  ∃(w:List Int) (c:Int),x.way w n.s c∧(x.exact n up most).1.cost=n.cost+c∧(x.exact n up most).1.path=n.path++w∧n.cost+c<up:=by
 rcases exGo_from (x:=x) most _ (Node.zero,false,up) _ 0 (Lev.root h1 h2 h3 h4) (fun h=>by cases h) with ⟨i1,_⟩ | ⟨_,m,hm,w,c,i2⟩
 ·rw [Inst.exact,i1] at hs;cases hs
 ·rw [List.mem_singleton.1 hm] at i2
  exact ⟨w,c,i2⟩
end Go.Proofs.YtnoifgjiipgpoaaGreat

set_option maxRecDepth 4000
namespace Go.Proofs.YtnoifgjiipgpoaaGreat
open Go Go.Proofs.YtnoifgjiipgpoaaGreat.R
def sumTo (f:Nat→Nat):Nat→Nat
 |0=>0
 |n+1=>sumTo f n+f n
def okJ (p M:Nat) (yard:Bool) (j:Nat):Bool:=
 if j=0 then !yard&&(List.range p).all fun k=>!M.testBit k||M.testBit (k+p)
 else if j≤p then !M.testBit (j-1) else !yard&& !M.testBit (j-1)&&M.testBit (j-1-p)
def pot (p:Nat):Nat→Nat→Bool→Nat
 |0,_,_=>1
 |d+1,M,yard=>max 1 (sumTo (fun j=>if okJ p M yard j=true then pot p d (if j=0 then M else M|||2^(j-1)) (decide (j=0)) else 0) (2*p+1))
theorem pot_pos (p:Nat):∀(d M:Nat) (yard:Bool),1≤pot p d M yard
 |0,_,_=>Nat.le_refl _
 |d+1,_,_=>Nat.le_max_left _ _
theorem pot_root:∀p<4,∀d<15,pot p d 0 true≤132:=by decide+kernel
def keyM (s:State):Nat:=s.must / 2 % 64
theorem keyM_bit (s:State) {k:Nat} (hk:k<6):(keyM s).testBit k=s.must.testBit (k+1):=by
 rw [keyM,show (64:Nat)=2^6 from rfl,Nat.testBit_mod_two_pow,Nat.testBit_succ]
 simp [hk]
def State.yard (s:State):Bool:=decide (s.spot=0)
def potS (p d:Nat) (s:State):Nat:=pot p d (keyM s) s.yard
def potL (p d:Nat):List Node→Nat
 |[]=>0
 |n :: l=>potS p d n.s+potL p d l
theorem potL_app (p d:Nat):∀(l m:List Node),potL p d (l++m)=potL p d l+potL p d m
 |[],m=>by simp [potL]
 |n :: l,m=>by rw [List.cons_append,potL,potL,potL_app p d l m];omega
theorem potL_len (p d:Nat):∀(l:List Node),l.length≤potL p d l
 |[]=>Nat.zero_le _
 |n :: l=>by
  have:=potL_len p d l
  have:=pot_pos p d (keyM n.s) n.s.yard
  rw [List.length_cons,potL,potS]
  omega
theorem potL_filter (p d:Nat) (f:Node→Bool):∀(l:List Node),potL p d (l.filter f)≤potL p d l
 |[]=>Nat.le_refl _
 |n :: l=>by
  have:=potL_filter p d f l
  rw [List.filter_cons]
  split<;>simp only [potL]<;>omega
theorem potL_set (p d:Nat) {n:Node}:∀(l:List Node) (i:Nat) (h:i<l.length),l[i].s=n.s→potL p d (l.set i n)=potL p d l
 |m :: l,0,h,e=>by
  simp only [List.getElem_cons_zero] at e
  simp only [List.set_cons_zero,potL,e]
 |m :: l,i+1,h,e=>by
  simp only [List.getElem_cons_succ] at e
  rw [List.set_cons_succ,potL,potL,potL_set p d l i (by simpa using h) e]
theorem potL_once1 (p d:Nat) (out:List Node) (n:Node):potL p d (once1 out n)≤potL p d out+potS p d n.s:=by
 unfold once1
 split
 ·rw [potL_app];simp only [potL];omega
 ·rename_i i e
  obtain ⟨h1,h2⟩:=sIdx_some e
  split
  ·rw [potL_set p d out i h1 h2];omega
  ·omega
theorem potL_once (p d:Nat):∀(l out:List Node),potL p d (l.foldl once1 out)≤potL p d out+potL p d l
 |[],out=>Nat.le_refl _
 |n :: l,out=>by
  have:=potL_once p d l (once1 out n)
  have:=potL_once1 p d out n
  rw [List.foldl_cons,potL]
  omega
theorem move_key {x:Inst} {p:Nat} {s:State} (hx:x.Fit p) (hp3:p≤3) (hg:Good x p s) {k:Nat} (h:(x.move s k).2.2=true):
  okJ p (keyM s) s.yard k=true∧potS p 0 (x.move s k).1=1∧keyM (x.move s k).1=(if k=0 then keyM s else keyM s|||2^(k-1))∧(x.move s k).1.yard=decide (k=0):=by
 have hp:=hx.pairs
 by_cases hk:k=0
 ·subst hk
  obtain ⟨h1,h2,h3,h4⟩:=move_home h
  simp only [Inst.stayB,Bool.or_eq_false_iff,decide_eq_false_iff_not] at h3
  have e0:(((0:Nat):Int))=0:=rfl
  rw [e0,h4]
  refine ⟨?_,rfl,rfl,rfl⟩
  rw [okJ,if_pos rfl,State.yard,Bool.and_eq_true,List.all_eq_true]
  refine ⟨by simp [h3.1.1.1.1],fun i hi=>?_⟩
  have hi:=List.mem_range.1 hi
  have hon:=hg.on (i+1) (by omega) (by omega)
  have:s.on=0:=by omega
  rw [this,Nat.zero_testBit] at hon
  rw [keyM_bit s (by omega),keyM_bit s (by omega),show i+p+1=i+1+p by omega]
  revert hon
  cases s.must.testBit (i+1)<;>cases s.must.testBit (i+1+p)<;>simp
 ·obtain ⟨h1,h2,h3,h4,h5,h6,h7,h8⟩:=move_pos h (by omega)
  simp only [Inst.lateB,Bool.or_eq_false_iff] at h5
  have h50:=h5.1
  rw [has_testN (by omega)] at h50
  rw [h8]
  refine ⟨?_,rfl,?_,by simp only [State.yard,Inst.rvisit];rw [Bool.eq_iff_iff];simp⟩
  ·rw [okJ,if_neg hk]
   have e1:(keyM s).testBit (k-1)=s.must.testBit k:=by rw [keyM_bit s (by omega),show k-1+1=k by omega]
   split
   ·rw [e1,h50];rfl
   ·have h9:=h7 (by omega)
    simp only [Inst.emptyB,Bool.or_eq_false_iff,Bool.not_eq_false',decide_eq_false_iff_not] at h9
    have e2:(k:Int)-x.pairs=((k-p:Nat):Int):=by omega
    have h10:=h9.2
    rw [e2,has_testN (by omega),hg.eq] at h10
    have e3:(keyM s).testBit (k-1-p)=s.must.testBit (k-p):=by rw [keyM_bit s (by omega),show k-1-p+1=k-p by omega]
    rw [e1,h50,e3,h10,State.yard]
    simp [h9.1]
  ·rw [if_neg hk]
   refine Nat.eq_of_testBit_eq fun i=>?_
   rw [Nat.testBit_or,Nat.testBit_two_pow]
   by_cases hi:i<6
   ·rw [keyM_bit _ hi,keyM_bit s hi]
    show (withN s.must k).testBit (i+1)=_
    rw [with_bit (by omega)]
    have:decide (k=i+1)=decide (k-1=i):=by rw [Bool.eq_iff_iff];simp;omega
    rw [this]
   ·have e:∀t:State,(keyM t).testBit i=false:=fun t=>by
     rw [keyM,show (64:Nat)=2^6 from rfl,Nat.testBit_mod_two_pow]
     simp [hi]
    rw [e,e]
    have:¬k-1=i:=by omega
    simp [this]
theorem potL_canB (x:Inst) (p d:Nat) (n:Node) (f:Nat→Bool) (g:Nat→Nat):∀(N:Nat),(∀k<N,f k=true→potS p d (x.child n k).s≤g k)→potL p d ((canB f N).map (x.child n))≤sumTo g N
 |0,_=>Nat.le_refl _
 |N+1,h=>by
  have ih:=potL_canB x p d n f g N fun k hk=>h k (by omega)
  rw [canB,List.map_append,potL_app,sumTo]
  by_cases hf:f N=true
  ·have:=h N (by omega) hf
   rw [if_pos hf]
   simp only [List.map_cons,List.map_nil,potL]
   omega
  ·rw [if_neg hf]
   simp only [List.map_nil,potL]
   omega
theorem pot_kids {x:Inst} {p:Nat} (hx:x.Fit p) (hp3:p≤3) (d:Nat) (up:Int) (n:Node) (hg:Good x p n.s):potL p d (x.kids up n)≤potS p (d+1) n.s:=by
 refine Nat.le_trans (potL_filter p d _ _) ?_
 rw [moves_can]
 refine Nat.le_trans (potL_canB x p d n _ (fun j=>if okJ p (keyM n.s) n.s.yard j=true then pot p d (if j=0 then keyM n.s else keyM n.s|||2^(j-1)) (decide (j=0)) else 0) _ ?_) ?_
 ·intro k hk hf
  obtain ⟨h1,_,h2,h3⟩:=move_key hx hp3 hg hf
  show potS p d (x.move n.s k).1≤_
  rw [if_pos h1,potS,h2,h3]
  exact Nat.le_refl _
 ·rw [hx.len]
  exact Nat.le_max_right _ _
theorem pot_flat {x:Inst} {p:Nat} (hx:x.Fit p) (hp3:p≤3) (d:Nat) (up:Int):∀(l:List Node),(∀n∈l,Good x p n.s)→potL p d (l.flatMap (x.kids up))≤potL p (d+1) l
 |[],_=>Nat.le_refl _
 |n :: l,h=>by
  have h1:=pot_kids hx hp3 d up n (h n List.mem_cons_self)
  have h2:=pot_flat hx hp3 d up l fun m hm=>h m (List.mem_cons_of_mem _ hm)
  rw [List.flatMap_cons,potL_app,potL]
  omega
theorem meas_root {x:Inst} {p:Nat} (hx:x.Fit p) (hm:x.may=true):x.meas x.rootS≤2*p+7:=by
 have hp:=hx.pairs
 have hc:=hx.cars
 unfold Inst.meas
 split
 ·rw [Inst.rootS,if_pos hm]
  have h6:((List.range (2*x.pairs.toNat+1)).filter fun j:Nat=>decide (1≤j)&& !hasB ({State.zero with car:=1,time:=(x.stop 0).ready}:State).must (j:Int)).length<((List.range (2*x.pairs.toNat+1)).filter fun _=>true).length:=
   filter_lt _ (a:=0) (List.mem_range.2 (by omega)) rfl (by simp) (fun _ _=>rfl)
  rw [List.filter_eq_self.2 (fun _ _=>rfl),List.length_range] at h6
  refine Nat.le_trans (Nat.add_le_add (Nat.le_of_lt_succ h6) (Nat.le_refl _)) ?_
  show 2*x.pairs.toNat+(x.cars-1).toNat≤2*p+7
  omega
 ·omega
end Go.Proofs.YtnoifgjiipgpoaaGreat

set_option maxRecDepth 4000
namespace Go.Proofs.YtnoifgjiipgpoaaGreat
open Go Go.Proofs.YtnoifgjiipgpoaaGreat.R
def sCells (st:Node×Bool×Int) (n:Int):List AV:=[.i st.1.s.spot,.i st.1.s.car,.i st.1.s.time,.i st.1.s.load,.i st.1.s.first,.u st.1.s.must,.u st.1.s.can,.u st.1.s.on,.i st.1.cost,.t (.sl (ints st.1.path)),.b st.2.1,.i st.2.2,.i n]
theorem look_spec (x:Inst) (l:List Node) (st:Node×Bool×Int) (n:Int) {σ:Nat→AObj} {nx b:Nat} (hb:b<nx) (hσb:σ b= .box (sCells st n)) (hl:x.stops.length<2^31) (hll:l.length<2^20) (hn:∀n∈l,n.Fine) (hn2:∀n∈l,n.path.length<2^30):
  CallSpec P 76 [.ptr b 0,x.a,.t (.sl (nodesT l))] σ nx (.t (.sl (nodesT (frontL (x.next l st.2.2))))) (oput σ b (.box (sCells (x.look st l) (IntKind.i64.wrap (n+l.length))))) nx:=by
 have hlk:x.look st l=if (x.bests l).2=true∧(x.bests l).1.cost<st.2.2 then ((x.bests l).1,true,(x.bests l).1.cost) else st:=rfl
 refine spec_down Tryz.func76 rfl rfl (by simp [Tryz.f76]) hb (by simp [bndO,bnd,bnd.bndL,sCells]) (by simp [bnd]) fun hk B hB hnx hσ=>?_
 simp only [Tryz.f76] at hB ⊢
 have hne:¬b=nx:=by omega
 have hil:(nodesT l).length=l.length:=List.length_map _
 have hx:=expand_pure x l st.2.2 hl hll hn hn2
 have q1:=next_len x l st.2.2
 have q2:∀m∈x.next l st.2.2,m.path.length<2^31:=by
  intro m hm
  obtain ⟨n,h,j,_,rfl,_⟩:=next_mem hm
  have:=hn2 n h
  show (n.path++[j]).length<2^31
  rw [List.length_append]
  simp only [List.length_cons,List.length_nil]
  omega
 have hf:=front_pure (x.next l st.2.2) (by omega) q2
 generalize x.look st l=st' at *
 generalize x.next l st.2.2=M at *
 generalize x.bests l=Rb at *
 generalize frontL M=R at *
 refine K_run hB 100 ?_
 simp [go_sem,Inst.a,hσb,sCells,hne,hil]
 have hne2:¬nx=b:=by omega
 have hne3:¬b=nx+1:=by omega
 have hne4:¬nx+1=b:=by omega
 refine K_drawnF [11,13] [0,1,2,3,4,5,6,7,8,9,10] rfl (by rw [hB];kernel_rfl) (by kernel_rfl) fun ht hf'=>?_
 refine K_run hB 100 ?_
 simp [go_sem,ht,hf',hne,hne2,hσb,sCells]
 refine K_dCallP rfl rfl rfl (args:=[x.a,.t (.sl (nodesT l)),.i st.2.2]) (f:=73) (by simp [go_sem,Inst.a]) (hx) ?_
 refine K_run hB 100 ?_
 simp [go_sem,ht,hf',expRes,Node.a,Node.cs,hne,hne2,hne3,hne4,hσb,sCells]
 obtain ⟨B1,is⟩:=Rb
 simp only at hlk
 cases is with
 |false=>
  rw [if_neg (by simp)] at hlk
  subst hlk
  refine K_drawn [] rfl (by rw [hB];kernel_rfl) ?_
  refine K_run hB 100 ?_
  simp [go_sem]
  refine K_call rfl rfl rfl (args:=[.t (.sl (nodesT M))]) (f:=112) (by simp [go_sem]) (by simp [go_sem,hB]) ((hf).spec _ _) ?_
  refine K_run hB 100 ?_
  simp [go_sem]
  exact ⟨by omega,by simp [hne3,hne,hne4],fun i h1 h2=>by simp [h2,show ¬i=nx+1 by omega,show ¬i=nx by omega]⟩
 |true=>
  by_cases c1:B1.cost<st.2.2
  ·rw [if_pos ⟨rfl,c1⟩] at hlk
   subst hlk
   refine K_drawn [] rfl (by rw [hB];kernel_rfl) ?_
   refine K_run hB 100 ?_
   simp [go_sem,hne,hne2,hne3,hne4,c1]
   refine K_drawnF [8,11,14] [1,2,4,5] rfl (by rw [hB];kernel_rfl) (by kernel_rfl) fun ht hf'=>?_
   refine K_run hB 100 ?_
   simp [go_sem,ht,hf',hne,hne2,hne3,hne4]
   refine K_call rfl rfl rfl (args:=[.t (.sl (nodesT M))]) (f:=112) (by simp [go_sem]) (by simp [go_sem,hB]) ((hf).spec _ _) ?_
   refine K_run hB 100 ?_
   simp [go_sem]
   exact ⟨by omega,fun i h1 h2=>by simp [h2,show ¬i=nx+1 by omega,show ¬i=nx by omega]⟩
  ·rw [if_neg (fun h=>c1 h.2)] at hlk
   subst hlk
   refine K_drawn [] rfl (by rw [hB];kernel_rfl) ?_
   refine K_run hB 100 ?_
   simp [go_sem,hne,hne2,hne3,hne4,c1]
   refine K_call rfl rfl rfl (args:=[.t (.sl (nodesT M))]) (f:=112) (by simp [go_sem]) (by simp [go_sem,hB]) ((hf).spec _ _) ?_
   refine K_run hB 100 ?_
   simp [go_sem]
   exact ⟨by omega,by simp [hne3,hne,hne4],fun i h1 h2=>by simp [h2,show ¬i=nx+1 by omega,show ¬i=nx by omega]⟩
end Go.Proofs.YtnoifgjiipgpoaaGreat

set_option maxRecDepth 4000
namespace Go.Proofs.YtnoifgjiipgpoaaGreat
open Go Go.Proofs.YtnoifgjiipgpoaaGreat.R
theorem best_pure (x:Inst) (n:Node) (up most:Int) (hl:x.stops.length<2^31) (hm:most<2^20) (ho:n.s.ok) (hp:n.path.length<2^29):Pure P 46 [x.a,n.a,.i up,.i most] (exRes4 (x.exact n up most)):=by
 generalize hR:x.exact n up most=R
 refine pure_of Tryz.func46 rfl rfl (by simp [Tryz.f46]) (by simp [bnd,bnd.bndL,Inst.a,Node.a,Node.cs]) (by simp [bnd,bnd.bndL,exRes4,Node.a,Node.cs]) fun B hB hnx=>?_
 simp only [Tryz.f46] at hB ⊢
 have hlev:=Level.root x n ho
 have hmeas:=meas_le x n.s
 rw [Inst.exact] at hR
 generalize hd:x.meas n.s+1=d0 at *
 generalize hK:n.path.length+x.meas n.s+1=K at *
 refine K_run hB 100 ?_
 simp [go_sem,Inst.a,Node.a,Node.cs]
 refine K_scopeN (α:=Nat×(Node×Bool×Int)×List Node×Int×(Nat→AObj)×Nat) 0 (fun (d,st,l,n,σ,nx)=>Level x l d K∧x.exGo most d st l n=R∧σ 0= .box x.cs∧σ 2= .box Node.zero.cs∧σ 3= .box (sCells st n)∧3<nx)
  (fun (d,st,l,n,σ,nx)=>⟨sl [(3,.i most),(4,.ptr 0 0),(8,.ptr 2 0),(12,.ptr 3 0),(13,.t (.sl (nodesT l)))],σ,nx⟩) (fun a=>a.1) rfl ?_ ?_
 ·rintro ⟨d,st,l,n,σ,nx⟩ ⟨g1,g2,g3,g4,g5,g6⟩
  have hil:(nodesT l).length=l.length:=List.length_map _
  have hgo:x.exGo most d st l n=match d with
   |0=>(st.1,st.2.1,true,n)
   |d+1=>if l.length=0 then (st.1,st.2.1,true,n) else if most<l.length then (st.1,st.2.1,false,n) else x.exGo most d (x.look st l) (frontL (x.next l st.2.2)) (IntKind.i64.wrap (n+l.length)):=by cases d<;>rfl
  by_cases c1:l.length=0
  ·have hr:R=(st.1,st.2.1,true,n):=by
    rw [←g2,hgo]
    cases d with
    |zero=>rfl
    |succ d=>simp only;rw [if_pos c1]
   subst hr
   by_cases c2:(0:Int)≤most
   ·refine K_run hB 100 ?_
    simp [go_sem,hil,c1,c2]
    refine K_drawnF [13] [4,5,6,7,8,9,10,11,12] rfl (by rw [hB];kernel_rfl) (by kernel_rfl) fun ht hf'=>?_
    refine K_run hB 100 ?_
    simp [go_sem,ht,hf',g4,g5,sCells,Node.cs]
    rfl
   ·refine K_run hB 100 ?_
    simp [go_sem,hil,c1,c2]
    refine K_drawnF [13] [4,5,6,7,8,9,10,11,12] rfl (by rw [hB];kernel_rfl) (by kernel_rfl) fun ht hf'=>?_
    refine K_run hB 100 ?_
    simp [go_sem,ht,hf',g4,g5,sCells,Node.cs]
    rfl
  cases d with
  |zero=>exact absurd (by rw [g1.empty];rfl) c1
  |succ d=>
   simp only at hgo
   rw [if_neg c1] at hgo
   by_cases c2:most<l.length
   ·rw [if_pos c2] at hgo
    rw [hgo] at g2
    subst g2
    have c3:¬(l.length:Int)≤most:=by omega
    have c4:¬(l.length:Int)=0:=by omega
    refine K_run hB 100 ?_
    simp [go_sem,hil,c1,c3,c4]
    refine K_drawnF [13] [4,5,6,7,8,9,10,11,12] rfl (by rw [hB];kernel_rfl) (by kernel_rfl) fun ht hf'=>?_
    refine K_run hB 100 ?_
    simp [go_sem,ht,hf',g4,g5,sCells,Node.cs]
    rfl
   ·rw [if_neg c2] at hgo
    rw [hgo] at g2
    have c3:(l.length:Int)≤most:=by omega
    have c4:0<l.length:=by omega
    have hlk:=look_spec x l st n (σ:=σ) (nx:=nx) (b:=3) g6 g5 hl (by omega) (fun m h=>⟨g1.ok m h,by have:=g1.path m h;omega⟩) (fun m h=>by have:=g1.path m h;omega)
    refine K_run hB 100 ?_
    simp [go_sem,hil,c1,c3,c4,g3,Inst.cs]
    refine K_call rfl rfl rfl (args:=[.ptr 3 0,x.a,.t (.sl (nodesT l))]) (f:=76) (by simp [go_sem,Inst.a]) (by simp [go_sem,hB]) hlk ?_
    refine K_run hB 100 ?_
    simp [go_sem]
    refine Next.mk (d,x.look st l,frontL (x.next l st.2.2),IntKind.i64.wrap (n+l.length),_,nx) ?_ (Imp.slots (by simp [go_sem]) rfl rfl) (by simp only;omega)
    exact ⟨g1.next st.2.2,g2,by simp [oput,g3,Inst.cs],by simp [oput,g4],by simp [oput],g6⟩
 ·intro J hJ
  refine K_run hB 14 ?_
  simp [go_sem,Node.cs]
  refine hJ (d0,(Node.zero,false,up),[n],0,_,_) _ ?_ ((Imp.looseB (b:=2) (cs:=[.i 0,.i 0,.i 0,.i 0,.i 0,.u 0,.u 0,.u 0,.i 0,.fsl []]) (by simp [oput])).trans ((Imp.looseB (b:=3) (cs:=[.i 0,.i 0,.i 0,.i 0,.i 0,.u 0,.u 0,.u 0,.i 0,.fsl [],.b false,.i up,.i 0]) (by simp [oput])).trans (Imp.loose.trans (Imp.slots (by simp [go_sem,loosen,nodesT,Node.t]) rfl rfl))))
  exact ⟨hlev,hR,by simp [oput,Inst.cs],by simp [oput,Node.zero,State.zero,Node.cs,ints,loosen],by simp [oput,sCells,Node.zero,State.zero,ints,loosen],by simp only;omega⟩
end Go.Proofs.YtnoifgjiipgpoaaGreat

set_option maxRecDepth 4000
namespace Go.Proofs.YtnoifgjiipgpoaaGreat
open Go Go.Proofs.YtnoifgjiipgpoaaGreat.R
def Inst.rootN (x:Inst):Node:=⟨x.rootS,0,[]⟩
end Go.Proofs.YtnoifgjiipgpoaaGreat

set_option maxRecDepth 4000
namespace Go.Proofs.YtnoifgjiipgpoaaGreat
open Go Go.Proofs.YtnoifgjiipgpoaaGreat.R
theorem naGo_path (x:Inst) (W:Nat) (k:Nat):∀(d:Nat) (st:Node×Bool×Int) (l:List Node) (n:Int) {K:Nat},Level x l d K→K≤k→st.1.path.length≤k→(x.naGo W d st l n).1.path.length≤k
 |0,st,l,n,K,_,_,h=>h
 |d+1,st,l,n,K,h1,h2,h3=>by
  rw [Inst.naGo]
  split
  ·exact h3
  ·refine naGo_path x W k d _ _ _ (h1.few W st.2.2) h2 ?_
   unfold Inst.look
   split
   ·exact bests_path fun m hm=>by have:=h1.path m hm;omega
   ·exact h3
theorem narrow_path (x:Inst) (n:Node) (w up:Int) (ho:n.s.ok):(x.narrow n w up).1.path.length≤n.path.length+41:=by
 have:=meas_le x n.s
 have h:=naGo_path x (widthN w) (n.path.length+x.meas n.s+1) _ (Node.zero,false,up) _ 0 (Level.root x n ho) (Nat.le_refl _) (Nat.zero_le _)
 have:(x.narrow n w up).1.path.length≤n.path.length+x.meas n.s+1:=h
 omega
theorem Lev.few {x:Inst} {l:List Node} {d:Nat} (h:Lev x l (d+1)) (W:Nat) (up:Int):Lev x (x.few W l up) d:=(h.next up).sub fun n hn=>few_mem hn
theorem naGo_from {x:Inst} (W:Nat):∀(d:Nat) (st:Node×Bool×Int) (l:List Node) (n:Int),Lev x l d→stOk st→
  ((x.naGo W d st l n).2.1=st.2.1∧(x.naGo W d st l n).1=st.1)∨
  ((x.naGo W d st l n).2.1=true∧∃m∈l,∃(w:List Int) (c:Int),x.way w m.s c∧(x.naGo W d st l n).1.cost=m.cost+c∧(x.naGo W d st l n).1.path=m.path++w∧m.cost+c<st.2.2)
 |0,st,l,n,_,_=>.inl ⟨rfl,rfl⟩
 |d+1,st,l,n,hl,h=>by
  rw [Inst.naGo]
  split
  ·exact .inl ⟨rfl,rfl⟩
  obtain ⟨k1,k2,k3⟩:=look_ok (x:=x) (l:=l) h
  rcases naGo_from W d (x.look st l) (x.few W l st.2.2) (IntKind.i64.wrap (n+l.length)) (hl.few W st.2.2) k1 with ⟨i1,i2⟩ | ⟨i1,m,hm,w,c,i2,i3,i4,i5⟩
  ·by_cases hh:(x.bests l).2=true∧(x.bests l).1.cost<st.2.2
   ·have hlk:x.look st l=((x.bests l).1,true,(x.bests l).1.cost):=by rw [Inst.look,if_pos hh]
    rw [i1,i2,hlk]
    obtain ⟨m,hm,b1,b2,b3⟩:=bests_from hh.1
    rw [end_sum hl hm b1] at b2
    exact .inr ⟨rfl,m,hm,[],_,⟨b1,rfl⟩,b2,by rw [List.append_nil];exact b3,by omega⟩
   ·have hlk:x.look st l=st:=by rw [Inst.look,if_neg hh]
    rw [i1,i2,hlk]
    exact .inl ⟨rfl,rfl⟩
  ·obtain ⟨q,hq,j,hj,rfl,_⟩:=next_mem (few_mem hm)
   have hj:=moves_mem hj
   have hcc:=child_cost hl hq hj
   refine .inr ⟨i1,q,hq,j :: w,(x.move q.s j).2.1+c,⟨hj,c,i2,rfl⟩,?_,?_,?_⟩
   ·rw [i3,hcc];omega
   ·rw [i4]
    show (q.path++[j])++w=_
    rw [List.append_assoc];rfl
   ·rw [hcc] at i5;omega
theorem narrow_from {x:Inst} {n:Node} {up wi:Int} (h1:n.s.ok) (h2:n.s.Pos) (h3:n.s.seenAt) (h4:0≤n.cost∧n.cost≤1152921504606000000) (hs:(x.narrow n wi up).2.1=true):
  ∃(w:List Int) (c:Int),x.way w n.s c∧(x.narrow n wi up).1.cost=n.cost+c∧(x.narrow n wi up).1.path=n.path++w∧n.cost+c<up:=by
 rcases naGo_from (x:=x) (widthN wi) _ (Node.zero,false,up) _ 0 (Lev.root h1 h2 h3 h4) (fun h=>by cases h) with ⟨i1,_⟩ | ⟨_,m,hm,w,c,i2⟩
 ·rw [Inst.narrow,i1] at hs;cases hs
 ·rw [List.mem_singleton.1 hm] at i2
  exact ⟨w,c,i2⟩
theorem naGo_steps (x:Inst) (W:Nat) (hW:W≤3000):∀(d:Nat) (st:Node×Bool×Int) (l:List Node) (n:Int),l.length≤W→0≤n→n+3000*d<9223372036854775808→n≤(x.naGo W d st l n).2.2∧(x.naGo W d st l n).2.2≤n+W*d
 |0,st,l,n,_,_,_=>by rw [Inst.naGo];simp
 |d+1,st,l,n,hl,h0,hn=>by
  rw [Inst.naGo]
  have e:(W:Int)*((d+1:Nat):Int)=W*d+W:=by rw [Int.natCast_add,Int.mul_add];simp
  have e2:(0:Int)≤(W:Int)*d:=Int.mul_nonneg (by omega) (by omega)
  split
  ·refine ⟨Int.le_refl _,?_⟩
   simp only
   omega
  ·have hw:=w64 (n+l.length) (by omega)
   obtain ⟨i1,i2⟩:=naGo_steps x W hW d (x.look st l) (x.few W l st.2.2) (IntKind.i64.wrap (n+l.length)) (few_len x W l st.2.2) (by omega) (by omega)
   refine ⟨by omega,?_⟩
   rw [hw] at i2 ⊢
   omega
theorem narrow_steps (x:Inst) (n:Node) (wi up:Int) (hw:wi≤3000):1≤(x.narrow n wi up).2.2∧(x.narrow n wi up).2.2≤1+widthN wi*x.meas n.s:=by
 have hm:=meas_le x n.s
 have hW2:widthN wi≤3000:=by unfold widthN;split<;>omega
 have e:x.narrow n wi up=x.naGo (widthN wi) (x.meas n.s) (x.look (Node.zero,false,up) [n]) (x.few (widthN wi) [n] up) 1:=by
  rw [Inst.narrow,Inst.naGo,if_neg (by simp)]
  rfl
 have:=naGo_steps x (widthN wi) hW2 (x.meas n.s) (x.look (Node.zero,false,up) [n]) (x.few (widthN wi) [n] up) 1 (few_len x _ _ _) (by omega) (by omega)
 rw [e]
 exact this
theorem meas_rootC {x:Inst} {p:Nat} (hx:x.Fit p) (hm:x.may=true):(x.meas x.rootS:Int)≤2*x.pairs+x.cars-1:=by
 have hp:=hx.pairs
 have hc:=hx.cars
 unfold Inst.meas
 split
 ·rw [Inst.rootS,if_pos hm]
  have h6:((List.range (2*x.pairs.toNat+1)).filter fun j:Nat=>decide (1≤j)&& !hasB ({State.zero with car:=1,time:=(x.stop 0).ready}:State).must (j:Int)).length<((List.range (2*x.pairs.toNat+1)).filter fun _=>true).length:=
   filter_lt _ (a:=0) (List.mem_range.2 (by omega)) rfl (by simp) (fun _ _=>rfl)
  rw [List.filter_eq_self.2 (fun _ _=>rfl),List.length_range] at h6
  have:x.base ({State.zero with car:=1,time:=(x.stop 0).ready}:State)≤2*x.pairs.toNat+(x.cars-1).toNat:=Nat.add_le_add (Nat.le_of_lt_succ h6) (Nat.le_refl _)
  omega
 ·omega
end Go.Proofs.YtnoifgjiipgpoaaGreat

set_option maxRecDepth 4000
namespace Go.Proofs.YtnoifgjiipgpoaaGreat
open Go Go.Proofs.YtnoifgjiipgpoaaGreat.R
def Inst.deep (x:Inst):Int:=if x.may then 2*x.pairs+x.cars-1 else 0
theorem deep_pure (x:Inst) (hl:x.stops.length<2^63):Pure P 66 [x.a] (.i x.deep):=by
 refine pure_of Tryz.func66 rfl rfl (by simp [Tryz.f66]) (by simp [bnd,bnd.bndL,Inst.a]) (by simp [bnd,bnd.bndL]) fun B hB hnx=>?_
 simp only [Tryz.f66] at hB ⊢
 refine K_run hB 100 ?_
 simp [go_sem,Inst.a]
 refine K_call rfl rfl rfl (args:=[x.a]) (f:=13) (by simp [go_sem,Inst.a]) (by simp [go_sem,hB]) ((may_pure x hl).spec _ _) ?_
 cases hmay:x.may with
 |false=>
  refine K_run hB 100 ?_
  simp [go_sem]
  rw [Inst.deep,if_neg (by simp [hmay])]
 |true=>
  obtain ⟨p,hx⟩:=x.fit hmay
  have hp:=hx.pairs
  have hf:=hx.few
  have hc:=hx.cars
  have w1:=w64 (2*x.pairs) (by omega)
  have w2:=w64 (2*x.pairs+x.cars) (by omega)
  have w3:=w64 (2*x.pairs+x.cars-1) (by omega)
  refine K_run hB 100 ?_
  simp [go_sem,w1,w2,w3]
  rw [Inst.deep,if_pos hmay]
end Go.Proofs.YtnoifgjiipgpoaaGreat

set_option maxRecDepth 4000
namespace Go.Proofs.YtnoifgjiipgpoaaGreat
open Go Go.Proofs.YtnoifgjiipgpoaaGreat.R
def State.join (s t:State):State:=⟨s.spot,min s.car t.car,min s.time t.time,min s.load t.load,min s.first t.first,s.must&&&t.must,s.can|||t.can,s.on&&&t.on⟩
def joinL:List State→State×Bool
 |[]=>(State.zero,false)
 |s :: l=>if l.any (fun t=>decide (t.spot≠s.spot))=true then (State.zero,false) else (l.foldl State.join s,true)
def costL:List Node→Int
 |[]=>0
 |n :: l=>l.foldl (fun c m=>min c m.cost) n.cost
def together (l:List Node):Node×Bool:=(⟨(joinL (l.map Node.s)).1,costL l,[]⟩,(joinL (l.map Node.s)).2)
def atStop (l:List Node) (i:Nat):List Node:=l.filter fun n=>decide (n.s.spot=i)
def Inst.mostN (x:Inst) (w:Int):Nat:=max w.toNat x.stops.length
def oneAt (l:List Node) (i:Nat):List Node:=if (together (atStop l i)).2=true then [(together (atStop l i)).1] else []
def Inst.squeeze (x:Inst) (l:List Node) (w:Int):List Node:=
 if (x.sortN l).length≤x.mostN w then x.sortN l else
 (x.sortN l).take (x.mostN w-x.stops.length)++(List.range x.stops.length).flatMap (oneAt ((x.sortN l).drop (x.mostN w-x.stops.length)))
theorem within_and_l (a b:Nat):withinB (a&&&b) a=true:=by
 rw [withinB,List.all_eq_true]
 intro i _
 rw [Nat.testBit_and]
 cases a.testBit i<;>cases b.testBit i<;>rfl
theorem within_and_r (a b:Nat):withinB (a&&&b) b=true:=by rw [Nat.and_comm];exact within_and_l b a
theorem within_or_l (a b:Nat):withinB a (a|||b)=true:=by
 rw [withinB,List.all_eq_true]
 intro i _
 rw [Nat.testBit_or]
 cases a.testBit i<;>cases b.testBit i<;>rfl
theorem within_or_r (a b:Nat):withinB b (a|||b)=true:=by rw [Nat.or_comm];exact within_or_l b a
theorem join_cov1 (s t:State):coversB (s.join t) s=true:=
 cov_mk rfl (within_and_l _ _) (within_and_l _ _) (within_or_l _ _) (Int.min_le_left _ _) (Int.min_le_left _ _) (Int.min_le_left _ _) (Int.min_le_left _ _)
theorem join_cov2 {s t:State} (h:s.spot=t.spot):coversB (s.join t) t=true:=
 cov_mk h (within_and_r _ _) (within_and_r _ _) (within_or_r _ _) (Int.min_le_right _ _) (Int.min_le_right _ _) (Int.min_le_right _ _) (Int.min_le_right _ _)
structure State.Is (s:State) (i:Int):Prop where
 spot:s.spot=i
 ok:s.ok
 pos:s.Pos
 seen:s.seenAt
theorem State.Is.join {s t:State} {i:Int} (h:s.Is i) (k:t.Is i):(s.join t).Is i:=by
 refine ⟨h.spot,⟨?_,?_,?_⟩,⟨?_,?_,?_⟩,?_⟩
 ·exact Nat.and_lt_two_pow _ k.ok.must
 ·exact Nat.or_lt_two_pow h.ok.can k.ok.can
 ·exact Nat.and_lt_two_pow _ k.ok.on
 ·exact Int.le_min.2 ⟨h.pos.car,k.pos.car⟩
 ·exact Int.le_min.2 ⟨h.pos.time,k.pos.time⟩
 ·exact Int.le_min.2 ⟨h.pos.load,k.pos.load⟩
 ·rcases h.seen with e | e
  ·exact .inl e
  rcases k.seen with e2 | e2
  ·refine .inl ?_
   show s.spot=0
   rw [h.spot,←k.spot];exact e2
  ·refine .inr ?_
   show hasB (s.must&&&t.must) s.spot=true
   rw [k.spot,←h.spot] at e2
   simp only [hasB,Bool.and_eq_true,decide_eq_true_eq,Nat.testBit_and] at *
   exact ⟨e.1,e.2,e2.2⟩
theorem fold_join:∀(l:List State) (s:State),(∀t∈l,t.spot=s.spot)→(l.foldl State.join s).spot=s.spot∧coversB (l.foldl State.join s) s=true∧∀t∈l,coversB (l.foldl State.join s) t=true
 |[],s,_=>⟨rfl,covers_refl _,fun t h=>by cases h⟩
 |t :: l,s,h=>by
  obtain ⟨h1,h2,h3⟩:=fold_join l (s.join t) fun u hu=>h u (List.mem_cons_of_mem _ hu)
  rw [List.foldl_cons]
  refine ⟨h1,covers_trans h2 (join_cov1 s t),fun u hu=>?_⟩
  rcases List.mem_cons.1 hu with rfl | hu
  ·exact covers_trans h2 (join_cov2 (h u List.mem_cons_self).symm)
  ·exact h3 u hu
theorem fold_is {i:Int}:∀(l:List State) (s:State),s.Is i→(∀t∈l,t.Is i)→(l.foldl State.join s).Is i
 |[],s,h,_=>h
 |t :: l,s,h,k=>fold_is l (s.join t) (h.join (k t List.mem_cons_self)) fun u hu=>k u (List.mem_cons_of_mem _ hu)
theorem joinL_same {l:List State} (h0:l≠[]) {i:Int} (h:∀t∈l,t.spot=i):(joinL l).2=true∧(joinL l).1.spot=i∧(∀t∈l,coversB (joinL l).1 t=true)∧((∀t∈l,t.Is i)→(joinL l).1.Is i):=by
 cases l with
 |nil=>exact absurd rfl h0
 |cons s l=>
  have hs:=h s List.mem_cons_self
  have hl:∀t∈l,t.spot=s.spot:=fun t ht=>by rw [hs];exact h t (List.mem_cons_of_mem _ ht)
  have e:joinL (s :: l)=(l.foldl State.join s,true):=by
   rw [joinL,if_neg]
   rw [List.any_eq_true]
   rintro ⟨t,ht,e⟩
   exact (of_decide_eq_true e) (hl t ht)
  obtain ⟨h1,h2,h3⟩:=fold_join l s hl
  rw [e]
  refine ⟨rfl,by simp only;omega,fun t ht=>?_,fun k=>fold_is l s (k s List.mem_cons_self) fun t ht=>k t (List.mem_cons_of_mem _ ht)⟩
  rcases List.mem_cons.1 ht with rfl | ht
  ·exact h2
  ·exact h3 t ht
theorem fold_cost:∀(l:List Node) (c:Int),l.foldl (fun c m=>min c m.cost) c≤c∧(∀n∈l,l.foldl (fun c m=>min c m.cost) c≤n.cost)∧(l.foldl (fun c m=>min c m.cost) c=c∨∃n∈l,l.foldl (fun c m=>min c m.cost) c=n.cost)
 |[],c=>⟨Int.le_refl _,fun n h=>(by cases h),.inl rfl⟩
 |m :: l,c=>by
  obtain ⟨h1,h2,h3⟩:=fold_cost l (min c m.cost)
  rw [List.foldl_cons]
  refine ⟨by omega,fun n hn=>?_,?_⟩
  ·rcases List.mem_cons.1 hn with rfl | hn
   ·omega
   ·exact h2 n hn
  ·rcases h3 with h3 | ⟨n,hn,h3⟩
   ·rw [h3]
    by_cases e:c≤m.cost
    ·exact .inl (by omega)
    ·exact .inr ⟨m,List.mem_cons_self,by omega⟩
   ·exact .inr ⟨n,List.mem_cons_of_mem _ hn,h3⟩
theorem costL_is {l:List Node} (h:l≠[]):(∀n∈l,costL l≤n.cost)∧∃n∈l,costL l=n.cost:=by
 cases l with
 |nil=>exact absurd rfl h
 |cons m l=>
  obtain ⟨h1,h2,h3⟩:=fold_cost l m.cost
  rw [costL]
  refine ⟨fun n hn=>?_,?_⟩
  ·rcases List.mem_cons.1 hn with rfl | hn
   ·exact h1
   ·exact h2 n hn
  ·rcases h3 with h3 | ⟨n,hn,h3⟩
   ·exact ⟨m,List.mem_cons_self,h3⟩
   ·exact ⟨n,List.mem_cons_of_mem _ hn,h3⟩
theorem atStop_mem {l:List Node} {i:Nat} {n:Node}:n∈atStop l i↔n∈l∧n.s.spot=i:=by
 rw [atStop,List.mem_filter,decide_eq_true_eq]
theorem oneAt_mem {l:List Node} {i:Nat} {m:Node} (h:m∈oneAt l i):atStop l i≠[]∧m=(together (atStop l i)).1:=by
 unfold oneAt at h
 split at h
 ·rename_i hh
  refine ⟨fun e=>?_,List.mem_singleton.1 h⟩
  rw [e] at hh
  simp [together,joinL] at hh
 ·cases h
theorem oneAt_has {l:List Node} {i:Nat} {n:Node} (h:n∈l) (hi:n.s.spot=i):∃m∈oneAt l i,coversB m.s n.s=true∧m.cost≤n.cost:=by
 have hn:n∈atStop l i:=atStop_mem.2 ⟨h,hi⟩
 have hne:atStop l i≠[]:=fun e=>by rw [e] at hn;cases hn
 have hne2:(atStop l i).map Node.s≠[]:=by simpa using hne
 obtain ⟨h1,h2,h3,h4⟩:=joinL_same hne2 (i:=(i:Int)) fun t ht=>by
  obtain ⟨q,hq,rfl⟩:=List.mem_map.1 ht
  exact (atStop_mem.1 hq).2
 refine ⟨(together (atStop l i)).1,?_,h3 _ (List.mem_map.2 ⟨n,hn,rfl⟩),(costL_is hne).1 n hn⟩
 rw [oneAt,if_pos (show (together (atStop l i)).2=true from h1)]
 exact List.mem_singleton.2 rfl
theorem oneAt_len (l:List Node) (i:Nat):(oneAt l i).length≤1:=by unfold oneAt;split<;>simp
theorem squeeze_mem {x:Inst} {l:List Node} {w:Int} {m:Node} (h:m∈x.squeeze l w):m∈l∨∃(i:Nat) (g:List Node),g≠[]∧i<x.stops.length∧(∀n∈g,n∈l∧n.s.spot=i)∧m=(together g).1:=by
 unfold Inst.squeeze at h
 split at h
 ·exact .inl (Inst.sortN_mem.1 h)
 ·rcases List.mem_append.1 h with h | h
  ·exact .inl (Inst.sortN_mem.1 (List.mem_of_mem_take h))
  ·obtain ⟨i,hi,h⟩:=List.mem_flatMap.1 h
   obtain ⟨h1,h2⟩:=oneAt_mem h
   exact .inr ⟨i,_,h1,List.mem_range.1 hi,fun n hn=>⟨Inst.sortN_mem.1 (List.mem_of_mem_drop (atStop_mem.1 hn).1),(atStop_mem.1 hn).2⟩,h2⟩
theorem squeeze_cov {x:Inst} {l:List Node} (w:Int) {n:Node} (hn:n∈l) (h0:0≤n.s.spot) (h1:n.s.spot<x.stops.length):∃m∈x.squeeze l w,coversB m.s n.s=true∧m.cost≤n.cost:=by
 have hs:n∈x.sortN l:=Inst.sortN_mem.2 hn
 unfold Inst.squeeze
 split
 ·exact ⟨n,hs,covers_refl _,Int.le_refl _⟩
 ·generalize x.mostN w-x.stops.length=k at *
  rw [←List.take_append_drop k (x.sortN l)] at hs
  rcases List.mem_append.1 hs with hs | hs
  ·exact ⟨n,List.mem_append_left _ hs,covers_refl _,Int.le_refl _⟩
  ·obtain ⟨i,hi⟩:∃i:Nat,n.s.spot=i:=⟨n.s.spot.toNat,by omega⟩
   obtain ⟨m,h2,h3,h4⟩:=oneAt_has hs hi
   exact ⟨m,List.mem_append_right _ (List.mem_flatMap.2 ⟨i,List.mem_range.2 (by omega),h2⟩),h3,h4⟩
theorem flat_one {α β:Type} (f:α→List β) (h:∀a,(f a).length≤1):∀(l:List α),(l.flatMap f).length≤l.length
 |[]=>Nat.le_refl _
 |a :: l=>by
  rw [List.flatMap_cons,List.length_append,List.length_cons]
  have:=h a
  have:=flat_one f h l
  omega
theorem squeeze_len (x:Inst) (l:List Node) (w:Int):(x.squeeze l w).length≤x.mostN w:=by
 unfold Inst.squeeze
 split
 ·assumption
 ·have h1:=flat_one (oneAt ((x.sortN l).drop (x.mostN w-x.stops.length))) (oneAt_len _) (List.range x.stops.length)
  rw [List.length_range] at h1
  have h2:x.stops.length≤x.mostN w:=Nat.le_max_right _ _
  rw [List.length_append,List.length_take]
  omega
end Go.Proofs.YtnoifgjiipgpoaaGreat

set_option maxRecDepth 4000
namespace Go.Proofs.YtnoifgjiipgpoaaGreat
open Go Go.Proofs.YtnoifgjiipgpoaaGreat.R
structure Diag where
 layers:List (List Node)
 low:Int
 exact:Bool
 sure:Nat
 deriving DecidableEq
def Diag.of (ls:List (List Node)) (low:Int) (sq:Option Nat):Diag:=⟨ls,low,sq.isNone,sq.getD ls.length⟩
def lowB (low:Int) (b:Node×Bool):Int:=if b.2=true then min low b.1.cost else low
def Inst.buildGo (x:Inst) (w up dp:Int):Nat→List (List Node)→Int→Option Nat→List Node→Diag
 |0,ls,low,sq,_=>Diag.of ls low sq
 |f+1,ls,low,sq,l=>if l=[] then Diag.of ls low sq else
  if dp<((ls.length+1:Nat):Int) then Diag.of (ls++[l]) (lowB low (x.bests l)) sq else
  if x.mostN w<(x.next l up).length then x.buildGo w up dp f (ls++[l]) (lowB low (x.bests l)) (some (sq.getD (ls.length+1))) (x.squeeze (x.next l up) w)
  else x.buildGo w up dp f (ls++[l]) (lowB low (x.bests l)) sq (x.next l up)
def Inst.build (x:Inst) (n:Node) (w up:Int):Diag:=x.buildGo w up (x.deep-n.path.length) ((x.deep-n.path.length).toNat+2) [] up none [n]
structure WL (x:Inst) (l:List Node) (r:Nat):Prop where
 is:∀n∈l,n.s.Is n.s.spot
 cost:∀n∈l,0≤n.cost∧n.cost+14143*((r:Int)+41)≤1152921504606846976
theorem WL.lev {x:Inst} {l:List Node} {r:Nat} (h:WL x l r):Lev x l 41:=
 ⟨fun n hn=>(h.is n hn).ok,fun n _=>by have:=meas_le x n.s;omega,fun n hn=>(h.is n hn).pos,fun n hn=>(h.is n hn).seen,fun n hn=>by have:=h.cost n hn;omega⟩
theorem child_spot {x:Inst} {s:State} {j:Int} (h:(x.move s j).2.2=true):0≤(x.move s j).1.spot∧(x.move s j).1.spot<x.stops.length:=by
 by_cases hj:j=0
 ·subst hj
  obtain ⟨h1,h2,h3,h4⟩:=move_home h
  obtain ⟨p,hx⟩:=x.fit h1
  have:=hx.len
  rw [h4]
  show 0≤(0:Int)∧(0:Int)<x.stops.length
  omega
 ·obtain ⟨h1,h2,h3,h4,_,_,_,h5⟩:=move_pos h hj
  obtain ⟨p,hx⟩:=x.fit h1
  have:=hx.len
  have:=hx.pairs
  rw [h5]
  show 0≤j∧j<x.stops.length
  omega
theorem State.Is.move {x:Inst} {s:State} {j i:Int} (h:s.Is i) (hj:(x.move s j).2.2=true):(x.move s j).1.Is (x.move s j).1.spot:=⟨rfl,move_ok x j h.ok,pos_move h.pos h.ok hj,seen_step hj⟩
theorem WL.next {x:Inst} {l:List Node} {r:Nat} (h:WL x l (r+1)) (up:Int):WL x (x.next l up) r∧∀m∈x.next l up,0≤m.s.spot∧m.s.spot<x.stops.length:=by
 have key:∀m∈x.next l up,∃n∈l,∃j,(x.move n.s j).2.2=true∧m=x.child n j:=by
  intro m hm
  obtain ⟨n,hn,j,hj,e,_⟩:=next_mem hm
  exact ⟨n,hn,j,moves_mem hj,e⟩
 refine ⟨⟨?_,?_⟩,?_⟩<;>(intro m hm;obtain ⟨n,hn,j,hj,rfl⟩:=key m hm)
 ·exact (h.is n hn).move hj
 ·rw [child_cost h.lev hn hj]
  have:=h.cost n hn
  have:=move_cost hj
  omega
 ·exact child_spot hj
theorem WL.squeeze {x:Inst} {l:List Node} {r:Nat} (h:WL x l r) (w:Int):WL x (x.squeeze l w) r:=by
 have key:∀m∈x.squeeze l w,m.s.Is m.s.spot∧∃n∈l,m.cost=n.cost:=by
  intro m hm
  rcases squeeze_mem hm with hm | ⟨i,g,h1,h2,h3,rfl⟩
  ·exact ⟨h.is m hm,m,hm,rfl⟩
  ·have hne2:g.map Node.s≠[]:=by simpa using h1
   obtain ⟨j1,j2,j3,j4⟩:=joinL_same hne2 (i:=(i:Int)) fun t ht=>by
    obtain ⟨q,hq,rfl⟩:=List.mem_map.1 ht
    exact (h3 q hq).2
   have j5:=j4 fun t ht=>by
    obtain ⟨q,hq,rfl⟩:=List.mem_map.1 ht
    have:=h.is q (h3 q hq).1
    rw [(h3 q hq).2] at this
    exact this
   obtain ⟨n,hn,e⟩:=(costL_is h1).2
   exact ⟨⟨rfl,j5.ok,j5.pos,j5.seen⟩,n,(h3 n hn).1,e⟩
 refine ⟨fun m hm=>(key m hm).1,fun m hm=>?_⟩
 obtain ⟨_,n,hn,e⟩:=key m hm
 rw [e]
 exact h.cost n hn
theorem lowB_le (low:Int) (b:Node×Bool):lowB low b≤low:=by unfold lowB;split<;>omega
theorem buildGo_le (x:Inst) (w up dp:Int):∀(f:Nat) (ls:List (List Node)) (low:Int) (sq:Option Nat) (l:List Node),(x.buildGo w up dp f ls low sq l).low≤low
 |0,ls,low,sq,l=>Int.le_refl _
 |f+1,ls,low,sq,l=>by
  have hb:=lowB_le low (x.bests l)
  rw [Inst.buildGo]
  split
  ·exact Int.le_refl _
  split
  ·exact hb
  split
  ·exact Int.le_trans (buildGo_le x w up dp f _ _ _ _) hb
  ·exact Int.le_trans (buildGo_le x w up dp f _ _ _ _) hb
theorem buildGo_way {x:Inst} (hst:x.stops.length<2^31) (w up dp:Int):∀(f:Nat) (ls:List (List Node)) (low:Int) (sq:Option Nat) (l:List Node),WL x l f→
  ∀m∈l,∀(v:List Int) (c:Int),x.way v m.s c→m.cost+c<up→(ls.length:Int)+v.length≤dp→v.length<f→(x.buildGo w up dp f ls low sq l).low≤m.cost+c
 |0,ls,low,sq,l,_,m,hm,v,c,_,_,_,hf=>absurd hf (Nat.not_lt_zero _)
 |f+1,ls,low,sq,l,hl,m,hm,v,c,hv,hlt,hdp,hf=>by
  have hne:¬l=[]:=fun e=>by rw [e] at hm;cases hm
  have hend:v=[]→lowB low (x.bests l)≤m.cost+c:=by
   rintro rfl
   obtain ⟨b1,b2⟩:=bests_has hm hv.1
   rw [end_sum hl.lev hm hv.1,←hv.2] at b2
   rw [lowB,if_pos b1]
   omega
  rw [Inst.buildGo,if_neg hne]
  by_cases c1:dp<((ls.length+1:Nat):Int)
  ·rw [if_pos c1]
   exact hend (List.eq_nil_of_length_eq_zero (by omega))
  rw [if_neg c1]
  match v,hv with
  |[],hv=>
   split
   ·exact Int.le_trans (buildGo_le x w up dp f _ _ _ _) (hend rfl)
   ·exact Int.le_trans (buildGo_le x w up dp f _ _ _ _) (hend rfl)
  |j :: v,hv=>
   obtain ⟨g1,e,g2,g3⟩:=hv
   obtain ⟨q,hq,q1,q2⟩:=next_way hst hl.lev hm g1 g2 (up:=up) (by omega)
   obtain ⟨hn1,hn2⟩:=hl.next up
   have hlen:(((ls++[l]).length:Nat):Int)+v.length≤dp:=by
    rw [List.length_append]
    simp only [List.length_cons,List.length_nil] at hdp ⊢
    omega
   have hf2:v.length<f:=by simp only [List.length_cons] at hf;omega
   rw [←q1] at g2
   split
   ·obtain ⟨t,ht,t1,t2⟩:=squeeze_cov w hq (hn2 q hq).1 (hn2 q hq).2
    have ht3:=(hn1.squeeze w).is t ht
    have:=buildGo_way hst w up dp f (ls++[l]) (lowB low (x.bests l)) (some (sq.getD (ls.length+1))) _ (hn1.squeeze w) t ht v e (cov_way (move_pairs g1) t1 ht3.pos ht3.ok g2) (by omega) hlen hf2
    omega
   ·have:=buildGo_way hst w up dp f (ls++[l]) (lowB low (x.bests l)) sq _ hn1 q hq v e g2 (by omega) hlen hf2
    omega
def Inst.layN (x:Inst) (up:Int) (n:Node):Nat→List Node
 |0=>[n]
 |k+1=>x.next (x.layN up n k) up
structure SureI (x:Inst) (up:Int) (n:Node) (ls:List (List Node)) (sq:Option Nat):Prop where
 lay:∀i,i<sq.getD ls.length→ls[i]? =some (x.layN up n i)
 le:sq.getD ls.length≤ls.length
theorem SureI.push {x:Inst} {up:Int} {n:Node} {ls:List (List Node)} {sq:Option Nat} {l:List Node} (h:SureI x up n ls sq) (hl:sq=none→l=x.layN up n ls.length):SureI x up n (ls++[l]) sq:=by
 cases sq with
 |some k=>
  have h1:=h.lay
  have h2:=h.le
  simp only [Option.getD_some] at h1 h2
  refine ⟨fun i hi=>?_,?_⟩
  ·simp only [Option.getD_some] at hi
   rw [List.getElem?_append_left (by omega)]
   exact h1 i hi
  ·simp only [Option.getD_some,List.length_append,List.length_cons];omega
 |none=>
  have h1:=h.lay
  simp only [Option.getD_none] at h1
  refine ⟨fun i hi=>?_,by simp⟩
  simp only [Option.getD_none,List.length_append,List.length_cons,List.length_nil] at hi
  by_cases e:i<ls.length
  ·rw [List.getElem?_append_left e];exact h1 i e
  ·have:i=ls.length:=by omega
   subst this
   rw [List.getElem?_append_right (Nat.le_refl _),Nat.sub_self,hl rfl]
   rfl
structure Diag.Ok (x:Inst) (up:Int) (n:Node) (d:Diag):Prop where
 lay:∀i,i<d.sure→d.layers[i]? =some (x.layN up n i)
 le:d.sure≤d.layers.length
 whole:d.exact=decide (d.sure=d.layers.length)
 pos:1≤d.sure
theorem buildGo_sure {x:Inst} (w up dp:Int) (n:Node):∀(f:Nat) (ls:List (List Node)) (low:Int) (sq:Option Nat) (l:List Node),SureI x up n ls sq→(sq=none→l=x.layN up n ls.length)→(∀k,sq=some k→1≤k∧(l≠[]∨k<ls.length))→(ls=[]→l≠[])→1≤f→
  (∀k,sq=some k→ls.length+f≥1)→(f:Int)+ls.length≥dp+2→((ls.length:Int)≤dp∨ls=[])→(x.buildGo w up dp f ls low sq l).Ok x up n
 |0,ls,low,sq,l,_,_,_,_,hf,_,_,_=>absurd hf (by omega)
 |f+1,ls,low,sq,l,h,hn,hs,h0,hf,hq,hfu,hle=>by
  rw [Inst.buildGo]
  by_cases c0:l=[]
  ·rw [if_pos c0]
   refine ⟨h.lay,h.le,?_,?_⟩
   ·cases sq with
    |none=>simp [Diag.of]
    |some k=>
     have:=(hs k rfl).2
     have:k<ls.length:=this.resolve_left fun e=>e c0
     show false=decide (k=ls.length)
     exact (decide_eq_false (by omega)).symm
   ·cases sq with
    |none=>
     have:ls≠[]:=fun e=>h0 e c0
     have:=List.length_pos_iff.2 this
     simp only [Diag.of,Option.getD_none];omega
    |some k=>exact (hs k rfl).1
  rw [if_neg c0]
  have hp:=h.push hn
  by_cases c1:dp<((ls.length+1:Nat):Int)
  ·rw [if_pos c1]
   refine ⟨hp.lay,hp.le,?_,?_⟩
   ·cases sq with
    |none=>simp [Diag.of]
    |some k=>
     have:=h.le
     simp only [Option.getD_some] at this
     show false=decide (k=(ls++[l]).length)
     exact (decide_eq_false (by rw [List.length_append];simp only [List.length_cons];omega)).symm
   ·cases sq with
    |none=>simp [Diag.of]
    |some k=>exact (hs k rfl).1
  rw [if_neg c1]
  have hlen:(ls++[l]).length=ls.length+1:=by simp
  split
  ·rename_i hov
   have hne:x.next l up≠[]:=fun e=>by rw [e] at hov;simp at hov
   obtain ⟨q,hq2⟩:=List.exists_mem_of_ne_nil _ hne
   obtain ⟨m,hm,j,hj,rfl,_⟩:=next_mem hq2
   have hsp:=child_spot (moves_mem hj)
   obtain ⟨t,ht,_⟩:=squeeze_cov w hq2 hsp.1 hsp.2
   have hne2:x.squeeze (x.next l up) w≠[]:=fun e=>by rw [e] at ht;cases ht
   refine buildGo_sure w up dp n f _ _ _ _ ?_ (fun e=>by cases e) (fun k hk=>⟨?_,.inl hne2⟩) (fun _=>hne2) (by omega) (fun _ _=>by omega) (by rw [hlen];omega) (.inl (by rw [hlen];omega))
   ·cases sq with
    |none=>
     simp only [Option.getD_none]
     refine ⟨fun i hi=>hp.lay i ?_,by simp⟩
     simp only [Option.getD_some] at hi
     simp only [Option.getD_none,hlen]
     exact hi
    |some k=>exact hp
   ·cases hk
    cases sq with
    |none=>simp
    |some k=>exact (hs k rfl).1
  ·refine buildGo_sure w up dp n f _ _ _ _ hp (fun e=>?_) (fun k hk=>⟨(hs k hk).1,.inr ?_⟩) (fun e=>by simp at e) (by omega) (fun _ _=>by omega) (by rw [hlen];omega) (.inl (by rw [hlen];omega))
   ·rw [hlen,Inst.layN,←hn e]
   ·have:=h.le
    rw [hk] at this
    simp only [Option.getD_some] at this
    omega
theorem buildGo_lay {x:Inst} (w up dp:Int):∀(f:Nat) (ls:List (List Node)) (low:Int) (sq:Option Nat) (l:List Node),l.length≤x.mostN w→(∀k∈ls.drop 1,k≠[]∧k.length≤x.mostN w)→
  ∀k∈(x.buildGo w up dp f ls low sq l).layers.drop 1,k≠[]∧k.length≤x.mostN w
 |0,ls,low,sq,l,_,h=>h
 |f+1,ls,low,sq,l,hl,h=>by
  rw [Inst.buildGo]
  split
  ·exact h
  rename_i c0
  have h2:∀k∈(ls++[l]).drop 1,k≠[]∧k.length≤x.mostN w:=by
   intro k hk
   cases ls with
   |nil=>simp at hk
   |cons a ls=>
    rw [List.cons_append,List.drop_succ_cons,List.drop_zero] at hk
    rcases List.mem_append.1 hk with hk | hk
    ·exact h k (by simpa using hk)
    ·rw [List.mem_singleton.1 hk];exact ⟨c0,hl⟩
  split
  ·exact h2
  split
  ·exact buildGo_lay w up dp f _ _ _ _ (squeeze_len x _ w) h2
  ·exact buildGo_lay w up dp f _ _ _ _ (by omega) h2
theorem buildGo_count {x:Inst} (w up dp:Int):∀(f:Nat) (ls:List (List Node)) (low:Int) (sq:Option Nat) (l:List Node),((x.buildGo w up dp f ls low sq l).layers.length:Int)≤max ((ls.length:Int)+1) (dp+1)
 |0,ls,low,sq,l=>by show (ls.length:Int)≤_;omega
 |f+1,ls,low,sq,l=>by
  have hlen:(ls++[l]).length=ls.length+1:=by simp
  rw [Inst.buildGo]
  split
  ·show (ls.length:Int)≤_;omega
  split
  ·show ((ls++[l]).length:Int)≤_;omega
  split
  ·have:=buildGo_count (x:=x) w up dp f (ls++[l]) (lowB low (x.bests l)) (some (sq.getD (ls.length+1))) (x.squeeze (x.next l up) w);omega
  ·have:=buildGo_count (x:=x) w up dp f (ls++[l]) (lowB low (x.bests l)) sq (x.next l up);omega
end Go.Proofs.YtnoifgjiipgpoaaGreat

set_option maxRecDepth 4000
namespace Go.Proofs.YtnoifgjiipgpoaaGreat
open Go Go.Proofs.YtnoifgjiipgpoaaGreat.R
structure Car where
 spot:Int
 now:Int
 gone:Int
 load:Int
 seen:Nat
 on:Nat
 times:List (List T)
 loads:List Int
structure Car.Fit (c:Car) (p k:Nat):Prop where
 spot:0≤c.spot∧c.spot≤2*p
 now:0≤c.now∧c.now≤1049576
 gone:0≤c.gone∧c.gone≤14143*k
 load: -1000*(k:Int)≤c.load∧c.load≤1000
 seen:c.seen<2^64
 on:c.on<2^64
 times:c.times.length=k
 loads:c.loads.length=k
 three:∀y∈c.times,y.length=3
 few:k+((List.range (2*p+1)).filter fun j:Nat=>decide (1≤j)&& !hasB c.seen (j:Int)).length≤2*p
theorem Car.Fit.le {c:Car} {p k:Nat} (h:c.Fit p k):k≤2*p:=by have:=h.few;omega
def Inst.visitsE (x:Inst) (c:Car) (i:Int):Int:=
 if i<1∨2*x.pairs<i then 1 else if hasB c.seen i=true then 5 else if x.pairs<i∧hasB c.seen (i-x.pairs)=false then 8 else if x.room<c.load+(x.stop i).demand then 6 else 0
def Inst.drive (x:Inst) (c:Car) (i:Int):Car:={c with spot:=i,gone:=c.gone+far (x.stop c.spot) (x.stop i)}
end Go.Proofs.YtnoifgjiipgpoaaGreat

set_option maxRecDepth 4000
namespace Go.Proofs.YtnoifgjiipgpoaaGreat
open Go Go.Proofs.YtnoifgjiipgpoaaGreat.R
def Inst.visitC (x:Inst) (c:Car) (i:Int):Car×Int:=
 if x.visitsE c i≠0 then (c,x.visitsE c i)
 else if (x.stop i).due<max (c.now+far (x.stop c.spot) (x.stop i)) (x.stop i).ready then (x.drive c i,7)
 else ({spot:=i,now:=max (c.now+far (x.stop c.spot) (x.stop i)) (x.stop i).ready+(x.stop i).service,gone:=c.gone+far (x.stop c.spot) (x.stop i),load:=c.load+(x.stop i).demand,seen:=withN c.seen i,
        on:=if i≤x.pairs then withN c.on i else withoutN c.on (i-x.pairs),times:=c.times++[[.i (c.now+far (x.stop c.spot) (x.stop i)),.i (max (c.now+far (x.stop c.spot) (x.stop i)) (x.stop i).ready),.i (max (c.now+far (x.stop c.spot) (x.stop i)) (x.stop i).ready+(x.stop i).service)]],loads:=c.loads++[c.load+(x.stop i).demand]},0)
theorem visits_ok {x:Inst} {c:Car} {i:Int} (h:x.visitsE c i=0):1≤i∧i≤2*x.pairs∧hasB c.seen i=false∧(x.pairs<i→hasB c.seen (i-x.pairs)=true)∧c.load+(x.stop i).demand≤x.room:=by
 rw [Inst.visitsE] at h
 split at h
 ·cases h
 split at h
 ·cases h
 split at h
 ·cases h
 split at h
 ·cases h
 rename_i h1 h2 h3 h4
 refine ⟨by omega,by omega,by simpa using h2,fun h=>?_,by omega⟩
 cases hq:hasB c.seen (i-x.pairs) with
 |true=>rfl
 |false=>exact absurd ⟨h,hq⟩ h3
end Go.Proofs.YtnoifgjiipgpoaaGreat

set_option maxRecDepth 4000
namespace Go.Proofs.YtnoifgjiipgpoaaGreat
open Go Go.Proofs.YtnoifgjiipgpoaaGreat.R
theorem visitC_fit {x:Inst} {c:Car} {i:Int} {p k:Nat} (hx:x.Fit p) (hc:c.Fit p k) (h:(x.visitC c i).2=0):(x.visitC c i).1.Fit p (k+1):=by
 have hok:=visits_ok (x:=x) (c:=c) (i:=i)
 rw [Inst.visitC] at h ⊢
 by_cases c0:x.visitsE c i=0
 rotate_left
 ·rw [if_pos c0] at h;exact absurd h c0
 rw [if_neg (by simp [c0])] at h ⊢
 by_cases c1:(x.stop i).due<max (c.now+far (x.stop c.spot) (x.stop i)) (x.stop i).ready
 ·rw [if_pos c1] at h;cases h
 rw [if_neg c1]
 obtain ⟨k1,k2,k3,k4,k5⟩:=hok c0
 have hp:=hx.pairs
 have hfi:=hx.at (j:=i) (by omega) (by omega)
 have hfar:=far_le (x.stop c.spot) (x.stop i)
 have h1:=hc.now
 have h2:=hc.gone
 have h3:=hc.load
 have h4:=hfi.ready
 have h5:=hfi.due
 have h6:=hfi.service
 have h7:=hfi.demand
 have h8:=hx.room
 have h9:=hx.few
 constructor
 ·simp only;omega
 ·simp only;omega
 ·simp only;omega
 ·simp only;omega
 ·exact withN_lt hc.seen _
 ·simp only
  split
  ·exact withN_lt hc.on _
  ·exact withoutN_lt _ _
 ·simp [hc.times]
 ·simp [hc.loads]
 ·intro y hy
  simp only [List.mem_append,List.mem_singleton] at hy
  rcases hy with hy | rfl
  ·exact hc.three y hy
  ·rfl
 ·have h10:=hc.few
  obtain ⟨j,rfl⟩:∃j:Nat,i=j:=⟨i.toNat,by omega⟩
  have:=filter_lt (p:=fun j:Nat=>decide (1≤j)&& !hasB c.seen (j:Int)) (q:=fun m:Nat=>decide (1≤m)&& !hasB (withN c.seen (j:Int)) (m:Int)) (List.range (2*p+1)) (a:=j) (List.mem_range.2 (by omega)) (by rw [k3];simp;omega) (by rw [has_withN (by omega)];simp) (fun m=>by
   rw [has_withN (by omega)]
   simp only [Bool.and_eq_true,Bool.not_eq_true',Bool.or_eq_false_iff]
   exact fun h=>⟨h.1,h.2.1⟩)
  simp only
  omega
def Inst.homeC (x:Inst) (c:Car):Car×Int:=
 if c.on≠0 then (c,8) else if (x.stop 0).due<c.now+far (x.stop c.spot) (x.stop 0) then (x.drive c 0,7) else (x.drive c 0,0)
def Inst.car0 (x:Inst):Car:=⟨0,(x.stop 0).ready,0,0,0,0,[],[]⟩
theorem car0_fit {x:Inst} {p:Nat} (hx:x.Fit p):x.car0.Fit p 0:=by
 have h1:=(hx.at (j:=0) (by omega) (by omega)).ready
 refine ⟨by simp only [Inst.car0];omega,by simp only [Inst.car0];omega,by simp only [Inst.car0];omega,by simp only [Inst.car0];omega,by simp [Inst.car0],by simp [Inst.car0],rfl,rfl,(fun y hy=>by cases hy),?_⟩
 have:=filter_lt (p:=fun _:Nat=>true) (q:=fun j:Nat=>decide (1≤j)&& !hasB x.car0.seen (j:Int)) (List.range (2*p+1)) (a:=0) (List.mem_range.2 (by omega)) rfl (by simp) (fun _ _=>rfl)
 rw [List.filter_eq_self.2 (fun _ _=>rfl),List.length_range] at this
 omega
def Inst.runC (x:Inst):List Int→Car→Car×Int
 |[],c=>x.homeC c
 |i :: r,c=>if (x.visitC c i).2≠0 then x.visitC c i else x.runC r (x.visitC c i).1
def Inst.times (x:Inst) (route:List Int):List (List T)×Int×Int:=
 if x.may=false then ([],0,1) else if (x.runC route x.car0).2≠0 then ([],0,(x.runC route x.car0).2) else ((x.runC route x.car0).1.times,(x.runC route x.car0).1.gone,0)
end Go.Proofs.YtnoifgjiipgpoaaGreat

set_option maxRecDepth 4000
namespace Go.Proofs.YtnoifgjiipgpoaaGreat
open Go Go.Proofs.YtnoifgjiipgpoaaGreat.R
def idxI (p:Int→Bool):Nat→List Int→Int
 |_,[]=>-1
 |i,n :: l=>if p n=true then (i:Int) else idxI p (i+1) l
theorem indexI_pure (l:List Int) (p:Int→Bool) (f:FuncId) (hl:l.length<2^62) (hf:∀n,Pure P f [.i n] (.b (p n))):Pure P 101 [.t (.sl (ints l)),.fn (.func f) [] []] (.i (idxI p 0 l)):=by
 have hil:(ints l).length=l.length:=List.length_map _
 refine pure_of Tryz.func101 rfl rfl (by simp [Tryz.f101]) (by simp [bnd,bnd.bndL]) (by simp [bnd,bnd.bndL]) fun B hB hnx=>?_
 simp only [Tryz.f101] at hB ⊢
 refine K_run hB 100 ?_
 simp [go_sem,hil]
 refine K_loopP (α:=Nat) (fun k=>k≤l.length∧idxI p k (l.drop k)=idxI p 0 l) (fun k=>⟨sl [(0,.t (.sl (ints l))),(1,.fn (.func f) [] []),(7,.i l.length),(8,.i k)],noObj,0⟩) (fun k=>l.length-k) 0 ⟨Nat.zero_le _,rfl⟩ (Imp.slots (by simp [go_sem]) rfl rfl) ?_
 rintro k ⟨h1,h2⟩
 refine K_run hB 60 ?_
 simp [go_sem]
 refine fork_dec (fun h=>?_) (fun h=>?_)
 ·rw [List.drop_eq_getElem_cons h,idxI] at h2
  have hkk:IntKind.i64.wrap ((k:Int)+1)=((k+1:Nat):Int):=by rw [w64 ((k:Int)+1) (by omega)];rfl
  have hget:=ints_getS l h
  generalize l[k]=n at *
  have hp:=hf n
  simp [go_sem,h,hil,hget]
  refine K_call rfl rfl rfl (args:=[.i n]) (f:=f) (by simp [go_sem]) (by simp [go_sem,hB]) (hp.spec _ _) ?_
  cases ho:p n with
  |true=>
   rw [ho,if_pos rfl] at h2
   refine K_run hB 100 ?_
   simp [go_sem,←h2]
  |false=>
   rw [ho,if_neg (by simp)] at h2
   refine K_run hB 100 ?_
   simp [go_sem,hkk]
   exact Next.mk (k+1) ⟨by omega,h2⟩ (Imp.slots (by simp [go_sem]) rfl rfl) (by omega)
 ·have:k=l.length:=by omega
  subst this
  rw [List.drop_length] at h2
  simp [go_sem,←h2,idxI]
def bump (s:List Int) (i:Int):List Int:=s.set i.toNat (s.getD i.toNat 0+1)
def Inst.costGo (x:Inst):List (List Int)→Int→List Int→Int×Int
 |[],all,seen=>if (seen.any fun n=>decide (1<n))=true then (0,5) else if ((seen.drop 1).any fun n=>decide (n=0))=true then (0,4) else (all,0)
 |r :: rs,all,seen=>if r.length=0 then (0,1) else if (x.times r).2.2≠0 then (0,(x.times r).2.2) else x.costGo rs (all+(x.times r).2.1) (r.foldl bump seen)
def Inst.cost (x:Inst) (p:List (List Int)):Int×Int:=
 if x.may=false then (0,1) else if x.cars<p.length then (0,6) else x.costGo p 0 (List.replicate (2*x.pairs+1).toNat 0)
theorem runC_ok {x:Inst} {p:Nat} (hx:x.Fit p):∀(r:List Int) (c:Car) (k:Nat),c.Fit p k→(x.runC r c).2=0→(∀i∈r,1≤i∧i≤2*p)∧k+r.length≤2*p∧0≤(x.runC r c).1.gone∧(x.runC r c).1.gone≤14143*(k+r.length+1)
 |[],c,k,hc,h=>by
  have hg:=hc.gone
  have hf:=far_le (x.stop c.spot) (x.stop 0)
  have:=hc.le
  refine ⟨fun i hi=>(by cases hi),by simpa using this,?_⟩
  rw [Inst.runC,Inst.homeC]
  simp only [List.length_nil]
  split
  ·simp only;omega
  ·split<;>simp only [Inst.drive]<;>omega
 |i :: r,c,k,hc,h=>by
  rw [Inst.runC] at h ⊢
  by_cases c1:(x.visitC c i).2=0
  ·rw [if_neg (by simp [c1])] at h ⊢
   obtain ⟨h1,h2,h3,h4⟩:=runC_ok hx r _ _ (visitC_fit hx hc c1) h
   have hv:x.visitsE c i=0:=by
    rw [Inst.visitC] at c1
    split at c1
    ·rename_i hh;exact absurd c1 hh
    ·rename_i hh;simpa using hh
   obtain ⟨k1,k2,_⟩:=visits_ok hv
   have hp:=hx.pairs
   rw [List.length_cons]
   refine ⟨fun j hj=>?_,by omega,h3,by omega⟩
   rcases List.mem_cons.1 hj with rfl | hj
   ·omega
   ·exact h1 j hj
  ·rw [if_pos c1] at h
   exact absurd h c1
theorem times_ok {x:Inst} {p:Nat} (hx:x.Fit p) (hm:x.may=true) {r:List Int} (h:(x.times r).2.2=0):(∀i∈r,1≤i∧i≤2*p)∧r.length≤2*p∧0≤(x.times r).2.1∧(x.times r).2.1≤14143*33:=by
 rw [Inst.times,if_neg (by simp [hm])] at h ⊢
 by_cases c1:(x.runC r x.car0).2=0
 ·rw [if_neg (by simp [c1])]
  obtain ⟨h1,h2,h3,h4⟩:=runC_ok hx r _ 0 (car0_fit hx) c1
  have:=hx.few
  exact ⟨h1,by omega,h3,by simp only;omega⟩
 ·rw [if_pos c1] at h
  exact absurd h c1
theorem bump_len (s:List Int) (i:Int):(bump s i).length=s.length:=List.length_set
theorem bumps_len:∀(r:List Int) (s:List Int),(r.foldl bump s).length=s.length
 |[],s=>rfl
 |i :: r,s=>by rw [List.foldl_cons,bumps_len,bump_len]
end Go.Proofs.YtnoifgjiipgpoaaGreat

set_option maxRecDepth 4000
namespace Go.Proofs.YtnoifgjiipgpoaaGreat
open Go Go.Proofs.YtnoifgjiipgpoaaGreat.R
def lowI (n:Int):Bool:=decide (n≤0)
theorem idxI_at (p:Int→Bool):∀(i:Nat) (l:List Int),idxI p i l<0∨∃j,j<l.length∧idxI p i l=((i+j:Nat):Int)∧p (l.getD j 0)=true∧∀n∈l.take j,p n=false
 |_,[]=>.inl (by simp [idxI])
 |i,n :: l=>by
  rw [idxI]
  cases h:p n with
  |true=>exact .inr ⟨0,by simp,by simp,by simpa using h,by simp⟩
  |false=>
   rcases idxI_at p (i+1) l with h1 | ⟨j,hj,h1,h2,h3⟩
   ·exact .inl (by simpa using h1)
   ·refine .inr ⟨j+1,by simpa using hj,?_,by simpa using h2,?_⟩
    ·rw [if_neg (by simp),h1]
     omega
    ·intro m hm
     rw [List.take_succ_cons] at hm
     rcases List.mem_cons.1 hm with rfl | hm
     ·exact h
     ·exact h3 m hm
def splitF:Nat→List Int→Int→Bool→List (List Int)→List (List Int)×Int
 |0,_,_,_,_=>([],2)
 |f+1,t,last,order,acc=>
  if idxI lowI 0 t<0 then (if (order||decide (t.getD 0 0≤last))=true then ([],8) else (acc++[t],0))
  else if idxI lowI 0 t=0∨t.getD (idxI lowI 0 t).toNat 0<0∨idxI lowI 0 t=(t.length:Int)-1 then ([],2)
  else splitF f (t.drop ((idxI lowI 0 t).toNat+1)) (t.getD 0 0) (order||decide (t.getD 0 0≤last)) (acc++[t.take (idxI lowI 0 t).toNat])
def splitR (t:List Int):List (List Int)×Int:=if t.length=0 then ([],0) else splitF (t.length+1) t 0 false []
theorem low1_pure (n:Int):Pure P 102 [.i n] (.b (lowI n)):=by
 refine pure_of Tryz.func102 rfl rfl (by simp [Tryz.f102]) (by simp [bnd,bnd.bndL]) (by simp [bnd,bnd.bndL]) fun B hB hnx=>?_
 simp only [Tryz.f102] at hB ⊢
 refine K_run hB 100 ?_
 simp [go_sem,lowI]
theorem split_pure (t:List Int) (ht:t.length<2^31):Pure P 72 [.t (.sl (ints t))] (.tup [.agg [.t (.sl ((splitR t).1.map rowT))],.i (splitR t).2]):=by
 generalize hR:splitR t=R
 have hil:(ints t).length=t.length:=List.length_map _
 refine pure_of Tryz.func72 rfl rfl (by simp [Tryz.f72]) (by simp [bnd,bnd.bndL]) (by simp [bnd,bnd.bndL]) fun B hB hnx=>?_
 simp only [Tryz.f72] at hB ⊢
 rw [splitR] at hR
 refine K_run hB 100 ?_
 simp [go_sem]
 refine K_scopeL (α:=Unit) (fun _=>0) (fun _=>False) (fun _=>⟨fun _=>.any,noObj,0⟩) (fun _=>0) (fun _ h=>h.elim) ?_ (fun _ h=>h.elim)
 by_cases c0:t.length=0
 ·rw [if_pos c0] at hR
  subst hR
  refine K_run hB 100 ?_
  simp [go_sem,hil,c0]
 rw [if_neg c0] at hR
 refine K_run hB 100 ?_
 simp [go_sem,hil,c0]
 refine K_call rfl rfl rfl (args:=[.t (.sl (ints t))]) (f:=100) (by simp [go_sem]) (by simp [go_sem,hB]) (clone_spec t (by omega) _ _) ?_
 refine K_run hB 100 ?_
 simp [go_sem]
 refine K_loopP (α:=Nat×List Int×Int×Bool×List (List Int)×(Nat→AObj)×Nat×Nat) (fun (f,t',last,order,acc,σ,nx,q)=>t'.length≠0∧t'.length<f∧acc.length+t'.length≤t.length∧splitF f t' last order acc=R∧σ 0= .box [.fsl []]∧σ 1= .box [.ref q]∧σ q= .arr 1 (acc.map rowT)∧1<q∧q<nx)
  (fun (f,t',last,order,acc,σ,nx,q)=>⟨sl [(0,.t (.sl (ints t'))),(2,.ptr 0 0),(4,.ptr 1 0),(5,.b order),(6,.i last)],σ,nx⟩) (fun a=>a.1) (t.length+1,t,0,false,[],_,4,3) ?_
  ((Imp.freeze (q:=2) (sz:=1) (es:=ints t) (by simp [go_sem])).trans ((Imp.ownB (b:=1) (off:=0) (sz:=1) (cs:=[.fsl []]) (by simp [go_sem,frzO,frz1,frz1.frzL]) rfl).trans (Imp.slots (by simp [go_sem,frz1]) rfl rfl))) ?_
 ·exact ⟨c0,by omega,by simp,hR,by simp [oput,frzO,frz1,frz1.frzL],by simp [oput],by simp [oput],by omega,by omega⟩
 rintro ⟨f,t',last,order,acc,σ,nx,q⟩ ⟨g1,g2,g3,g4,g5,g6,g7,g8,g9⟩
 obtain ⟨f,rfl⟩:∃f',f=f'+1:=⟨f-1,by omega⟩
 have hil2:(ints t').length=t'.length:=List.length_map _
 have hlt0:0<t'.length:=by omega
 have hix:=indexI_pure t' lowI 102 (by omega) low1_pure
 have hat:=idxI_at lowI 0 t'
 rw [splitF] at g4
 have hhd:t'.getD 0 0=t'[0]'hlt0:=by rw [List.getD_eq_getElem?_getD,List.getElem?_eq_getElem hlt0];rfl
 have hget0:=ints_getS t' (i:=0) hlt0
 rw [hhd] at g4
 generalize idxI lowI 0 t'=e at *
 refine K_run hB 100 ?_
 simp [go_sem,hil2]
 refine K_call rfl rfl rfl (args:=[.t (.sl (ints t')),.fn (.func 102) [] []]) (f:=101) (by simp [go_sem]) (by simp [go_sem,hB]) ((hix).spec _ _) ?_
 have hm1:(acc.map rowT).length+1≤mostLen:=by rw [List.length_map];show _≤4294967296;omega
 have hm2:acc.length+1≤mostLen:=by show _≤4294967296;omega
 have hone:∀y∈ints t',y.length=1:=by
  intro y hy
  simp only [ints,List.mem_map] at hy
  obtain ⟨n,_,rfl⟩:=hy
  rfl
 have htl:List.take t'.length (ints t')=ints t':=by rw [←hil2,List.take_length]
 by_cases c1:e<0
 ·rw [if_pos c1] at g4
  cases order<;>by_cases c2:t'[0]≤last
  all_goals
   simp only [c2,Bool.false_or,Bool.true_or,decide_true,decide_false,if_true,Bool.false_eq_true,if_false] at g4
   subst g4
   refine K_run hB 100 ?_
   simp [go_sem,c1,hil2,hlt0,hget0,c2]
   refine K_drawnT [7,9] rfl (by rw [hB];kernel_rfl) (by kernel_rfl) fun ht=>?_
   refine K_run hB 100 ?_
   simp [go_sem,ht,hil2,g5,g6,g7,hm1,hm2,if_pos hone,hone,htl,show ¬1=nx by omega,show ¬1=q by omega,show ¬0=nx by omega,show ¬0=q by omega,show ¬nx=0 by omega,show ¬nx=1 by omega,rowT]
 ·rw [if_neg c1] at g4
  obtain ⟨j,hj,rfl,k2,k3⟩:=hat.resolve_left c1
  have hgetj:=ints_getS t' hj
  have hge:t'.getD j 0=t'[j]:=by rw [List.getD_eq_getElem?_getD,List.getElem?_eq_getElem hj];rfl
  simp only [Nat.zero_add,Int.toNat_natCast] at g4 c1 ⊢
  rw [hge] at g4
  have hjI:(j:Int)<t'.length:=by omega
  have hjle:j≤t'.length:=by omega
  have htj:List.take j (ints t')=ints (t'.take j):=by simp [ints,List.map_take]
  have hdj:List.drop (j+1) (ints t')=ints (t'.drop (j+1)):=by simp [ints,List.map_drop]
  have wj:IntKind.i64.wrap ((j:Int)+1)=((j+1:Nat):Int):=by rw [w64 _ (by omega)];rfl
  have w1:=w64 ((t'.length:Int)-1) (by omega)
  by_cases d1:j=0
  ·rw [if_pos (.inl (by omega))] at g4
   subst g4
   refine K_run hB 100 ?_
   simp [go_sem,c1,hil2,d1,g5]
  by_cases d2:t'[j]<0
  ·rw [if_pos (.inr (.inl d2))] at g4
   subst g4
   refine K_run hB 100 ?_
   simp [go_sem,c1,hil2,d1,hj,hgetj,d2,g5]
  by_cases d3:(j:Int)=(t'.length:Int)-1
  ·rw [if_pos (.inr (.inr d3))] at g4
   subst g4
   have hv:IntKind.i64.wrap ((t'.length:Int)-1)=j:=by rw [w1];omega
   refine K_run hB 100 ?_
   simp [go_sem,c1,hil2,d1,hj,hgetj,d2,hv,g5]
  rw [if_neg (by omega)] at g4
  refine K_run hB 100 ?_
  simp [go_sem,c1,hil2,d1,hj,hgetj,d2,w1,d3]
  cases order<;>by_cases c2:t'[0]≤last
  all_goals
   simp only [c2,Bool.false_or,Bool.true_or,decide_true,decide_false] at g4
   simp [go_sem,c1,hil2,hlt0,hget0,c2]
   refine K_drawnT [7,9] rfl (by rw [hB];kernel_rfl) (by kernel_rfl) fun ht=>?_
   refine K_run hB 100 ?_
   simp [go_sem,ht,hil2,g5,g6,g7,hm1,hm2,if_pos hone,hone,hjle,htj,hdj,show ¬1=nx by omega,show ¬1=q by omega,show ¬0=nx by omega,show ¬0=q by omega,show ¬j=t'.length by omega,wj,show 0≤(j:Int)+1 by omega,show (j:Int)+1≤t'.length by omega]
   refine Next.mk (f,t'.drop (j+1),t'[0],_,acc++[t'.take j],_,nx+1,nx) ⟨?_,?_,?_,g4,?_,?_,?_,?_,?_⟩ (Imp.slots (by simp [go_sem,hdj,c2]) rfl rfl) (by simp only;omega)
   ·simp only [List.drop_eq_nil_iff];omega
   ·simp only [List.length_drop];omega
   ·simp only [List.length_drop,List.length_append,List.length_cons,List.length_nil];omega
   ·simp [oput,show ¬0=nx by omega,show ¬0=q by omega,g5]
   ·simp [oput]
   ·simp [oput,show ¬nx=1 by omega,rowT]
   ·simp only;omega
   ·simp only;omega
end Go.Proofs.YtnoifgjiipgpoaaGreat

set_option maxRecDepth 4000
namespace Go.Proofs.YtnoifgjiipgpoaaGreat
open Go Go.Proofs.YtnoifgjiipgpoaaGreat.R
structure Sim1 (x:Inst) (p m0:Nat) (s:State) (c:Car) (k:Nat):Prop where
 spot:c.spot=s.spot
 now:c.now=s.time
 load:c.load=s.load
 on:c.on=s.on
 seen:∀i,1≤i→i≤2*p→s.must.testBit i=(m0.testBit i||c.seen.testBit i)
 old:∀i,1≤i→i≤p→m0.testBit i=true→m0.testBit (i+p)=true
 fit:c.Fit p k
 good:Good x p s
theorem Sim1.step {x:Inst} {p m0 k:Nat} {s:State} {c:Car} {j:Int} (hx:x.Fit p) (h:Sim1 x p m0 s c k) (hj:j≠0) (hm:(x.move s j).2.2=true):
  (x.visitC c j).2=0∧Sim1 x p m0 (x.move s j).1 (x.visitC c j).1 (k+1)∧(x.visitC c j).1.gone=c.gone+(x.move s j).2.1:=by
 obtain ⟨g1,g2,g3,g4,g5,g6⟩:=good_step hx h.good hm
 obtain ⟨m1,m2,m3,m4,m5,m6,m7,m8⟩:=move_pos hm hj
 have hp:=hx.pairs
 have hfew:=hx.few
 obtain ⟨i,rfl⟩:∃i:Nat,j=i:=⟨j.toNat,by omega⟩
 simp only [Inst.lateB,Bool.or_eq_false_iff,decide_eq_false_iff_not] at m5
 rw [has_testN (by omega)] at m5
 have hs:=h.seen i (by omega) (by omega)
 rw [m5.1] at hs
 have hv:x.visitsE c i=0:=by
  rw [Inst.visitsE,if_neg (by omega),if_neg,if_neg,if_neg]
  ·rw [h.load]
   by_cases hi:(i:Int)≤x.pairs
   ·have:=m6 hi
    simp only [Inst.fullB,Bool.or_eq_false_iff,decide_eq_false_iff_not] at this
    omega
   ·have hb:=hx.bring (k:=i-p) (by omega) (by omega)
    have ht:=hx.take (k:=i-p) (by omega) (by omega)
    have hr:=h.good.room
    rw [show i-p+p=i by omega] at hb
    omega
  ·rintro ⟨hi,hq⟩
   have:=m7 hi
   simp only [Inst.emptyB,Bool.or_eq_false_iff,Bool.not_eq_false',decide_eq_false_iff_not] at this
   have e:(i:Int)-x.pairs=((i-p:Nat):Int):=by omega
   rw [e] at this hq
   rw [has_testN (by omega),h.good.eq] at this
   rw [has_testN (by omega)] at hq
   have h1:=h.seen (i-p) (by omega) (by omega)
   rw [this.2,hq,Bool.or_false] at h1
   have h2:=h.old (i-p) (by omega) (by omega) h1.symm
   rw [show i-p+p=i by omega] at h2
   rw [h2] at hs
   cases hs
  ·rw [has_testN (by omega)]
   intro hq
   rw [hq,Bool.or_true] at hs
   cases hs
 have hfar:x.visitC c i=({spot:=i,now:=x.begins s i+(x.stop i).service,gone:=c.gone+far (x.stop s.spot) (x.stop i),load:=s.load+(x.stop i).demand,seen:=withN c.seen i,on:=if (i:Int)≤x.pairs then withN s.on i else withoutN s.on (i-x.pairs),times:=c.times++[[.i (s.time+far (x.stop s.spot) (x.stop i)),.i (x.begins s i),.i (x.begins s i+(x.stop i).service)]],loads:=c.loads++[s.load+(x.stop i).demand]},0):=by
  rw [Inst.visitC,if_neg (by simp [hv]),h.spot,h.now,h.load,h.on,if_neg]
  ·rfl
  ·have:=m5.2
   unfold Inst.begins at this
   exact this
 have hfit:=visitC_fit hx h.fit (i:=i) (by rw [hfar])
 rw [hfar] at hfit ⊢
 rw [if_pos (by omega)] at g4 g6
 refine ⟨rfl,⟨?_,?_,?_,?_,?_,h.old,hfit,g1⟩,?_⟩
 ·rw [m8];rfl
 ·rw [m8];rfl
 ·rw [g6]
 ·rw [m8];rfl
 ·intro n n1 n2
  rw [g4,with_bit (by omega),with_bit (by omega),h.seen n n1 n2,Bool.or_assoc]
 ·rw [m8]
def MatchS (p must:Nat) (seen:List Int):Prop:=seen.length=2*p+1∧∀i (h:i<seen.length),seen[i]=if 1≤i∧must.testBit i=true then 1 else 0
theorem MatchS.bump {p must:Nat} {seen:List Int} (h:MatchS p must seen) {j:Nat} (h1:1≤j) (h2:j≤2*p) (h64:j≤63) (hn:must.testBit j=false):MatchS p (withN must j) (bump seen j):=by
 obtain ⟨hl,hs⟩:=h
 refine ⟨by rw [bump_len];exact hl,fun i hi=>?_⟩
 have hi':i<seen.length:=by rw [bump_len] at hi;exact hi
 have e:seen.getD j 0=seen[j]:=by rw [List.getD_eq_getElem?_getD,List.getElem?_eq_getElem (by omega)];rfl
 have h0:=hs j (by omega)
 rw [if_neg (by simp [hn])] at h0
 simp only [Go.Proofs.YtnoifgjiipgpoaaGreat.bump,Int.toNat_natCast,e,h0,List.getElem_set,with_bit h64]
 by_cases hji:j=i
 ·subst hji
  simp [h1]
 ·rw [if_neg hji,hs i hi']
  simp [hji]
theorem MatchS.end {p must:Nat} {seen:List Int} (h:MatchS p must seen) (ha:∀i,1≤i→i≤2*p→must.testBit i=true):(seen.any fun n=>decide (1<n))=false∧((seen.drop 1).any fun n=>decide (n=0))=false:=by
 obtain ⟨hl,hs⟩:=h
 constructor
 ·rw [List.any_eq_false]
  intro n hn
  obtain ⟨i,hi,rfl⟩:=List.mem_iff_getElem.1 hn
  rw [hs i hi]
  split<;>simp
 ·rw [List.any_eq_false]
  intro n hn
  obtain ⟨i,hi,rfl⟩:=List.mem_iff_getElem.1 hn
  rw [List.getElem_drop,hs (1+i) (by rw [List.length_drop] at hi;omega),if_pos ⟨by omega,ha _ (by omega) (by rw [List.length_drop] at hi;omega)⟩]
  simp
theorem runC_cons {x:Inst} {i:Int} {r:List Int} {c:Car} (h:(x.visitC c i).2=0):x.runC (i :: r) c=x.runC r (x.visitC c i).1:=by
 rw [Inst.runC,if_neg (by simp [h])]
theorem route_rest {x:Inst} {p m0:Nat} (hx:x.Fit p) (h0:x.pairs≠0):∀(path:List Int) (s:State) (c:Car) (k:Nat) (d:Int),Sim1 x p m0 s c k→s.spot≠0→x.way path s d→
  ∃r rest c',path=r++rest∧(∀i∈r,0<i)∧x.runC r c=(c',0)∧
   ((rest=[]∧d=c'.gone-c.gone∧∀seen,MatchS p s.must seen→∃must,MatchS p must (r.foldl bump seen)∧∀i,1≤i→i≤2*p→must.testBit i=true)∨
    (∃path' s' d',rest=0 :: path'∧d=c'.gone-c.gone+d'∧x.way path' s' d'∧s'.spot=0∧s'.on=0∧s'.load=0∧s'.time=(x.stop 0).ready∧s'.first=s.first∧s'.car=s.car+1∧s.car<x.cars∧Good x p s'∧∀seen,MatchS p s.must seen→MatchS p s'.must (r.foldl bump seen)))
 |[],s,c,k,d,hs,hsp,hw=>by
  obtain ⟨w1,w2⟩:=hw
  obtain ⟨e1,e2 | ⟨e2,e3,e4,e5,e6,e7⟩⟩:=end_is w1
  ·exact absurd e2.1 h0
  ·refine ⟨[],[],x.drive c 0,rfl,by simp,?_,.inl ⟨rfl,?_,fun seen hm=>⟨s.must,hm,fun i i1 i2=>?_⟩⟩⟩
   ·rw [Inst.runC,Inst.homeC,hs.on,hs.now,hs.spot,if_neg (by simp [e4]),if_neg (by omega)]
   ·rw [w2,e7]
    show _=c.gone+far (x.stop c.spot) (x.stop 0)-c.gone
    rw [hs.spot]
    simp only
    omega
   ·rw [←hs.good.eq]
    exact Inst.all_bit hx e5 i1 i2
 |j :: path,s,c,k,d,hs,hsp,hw=>by
  obtain ⟨w1,d',w2,w3⟩:=hw
  by_cases hj:j=0
  ·subst hj
   obtain ⟨g1,g2,g3,g4⟩:=move_home w1
   have hgs:=(good_step hx hs.good w1).1
   simp only [Inst.stayB,Bool.or_eq_false_iff,decide_eq_false_iff_not] at g3
   obtain ⟨⟨⟨⟨a1,a2⟩,a3⟩,a4⟩,a5⟩:=g3
   rw [g4] at w2 w3 hgs
   have hon:s.on=0:=by omega
   refine ⟨[],0 :: path,x.drive c 0,rfl,by simp,?_,.inr ⟨path,x.homeS s,d',rfl,?_,w2,rfl,hon,rfl,rfl,rfl,rfl,by omega,hgs,fun seen hm=>hm⟩⟩
   ·rw [Inst.runC,Inst.homeC,hs.on,hs.now,hs.spot,if_neg (by simp [hon]),if_neg (by omega)]
   ·show _=c.gone+far (x.stop c.spot) (x.stop 0)-c.gone+d'
    rw [hs.spot,w3]
    simp only
    omega
  ·obtain ⟨v1,v2,v3⟩:=hs.step hx hj w1
   obtain ⟨b1,b2,b3,b4,_,_⟩:=good_step hx hs.good w1
   obtain ⟨_,_,p3,p4,p5,_,_,m8⟩:=move_pos w1 hj
   have hfew:=hx.few
   rw [if_pos p3] at b4
   have hsp':(x.move s j).1.spot≠0:=by rw [m8];exact hj
   have hfi:(x.move s j).1.first=s.first:=by rw [m8];show (if s.spot=0 then j else s.first)=s.first;rw [if_neg hsp]
   have hca:(x.move s j).1.car=s.car:=by rw [m8];rfl
   obtain ⟨r,rest,c',q1,q2,q3,q4⟩:=route_rest hx h0 path _ _ _ d' v2 hsp' w2
   have hmt:∀seen,MatchS p s.must seen→MatchS p (x.move s j).1.must (bump seen j):=fun seen hm=>by
    obtain ⟨i,rfl⟩:∃i:Nat,j=i:=⟨j.toNat,by omega⟩
    simp only [Inst.lateB,Bool.or_eq_false_iff] at p5
    have:=p5.1
    rw [has_testN (by omega)] at this
    rw [b4]
    exact hm.bump (by omega) (by omega) (by omega) this
   refine ⟨j :: r,rest,c',by rw [q1];rfl,fun i hi=>?_,by rw [runC_cons v1];exact q3,?_⟩
   ·rcases List.mem_cons.1 hi with rfl | hi
    ·exact p3
    ·exact q2 i hi
   ·rcases q4 with ⟨t1,t2,t3⟩ | ⟨path',s',d2,t1,t2,t3,t4,t5,t6,t7,t8,t9,t10,t11,t12⟩
    ·exact .inl ⟨t1,by omega,fun seen hm=>t3 _ (hmt seen hm)⟩
    ·exact .inr ⟨path',s',d2,t1,by omega,t3,t4,t5,t6,t7,by rw [t8,hfi],by rw [t9,hca],by omega,t11,fun seen hm=>t12 _ (hmt seen hm)⟩
theorem idx_none:∀(l:List Int) (k:Nat),(∀i∈l,0<i)→idxI lowI k l= -1
 |[],_,_=>rfl
 |i :: l,k,h=>by
  have:=h i List.mem_cons_self
  rw [idxI,if_neg (by simp [lowI];omega)]
  exact idx_none l (k+1) fun j hj=>h j (List.mem_cons_of_mem _ hj)
theorem idx_zero:∀(l m:List Int) (k:Nat),(∀i∈l,0<i)→idxI lowI k (l++0 :: m)=((k+l.length:Nat):Int)
 |[],m,k,_=>by rw [List.nil_append,idxI,if_pos (by simp [lowI])];simp
 |i :: l,m,k,h=>by
  have:=h i List.mem_cons_self
  rw [List.cons_append,idxI,if_neg (by simp [lowI];omega),idx_zero l m (k+1) fun j hj=>h j (List.mem_cons_of_mem _ hj),List.length_cons]
  congr 1
  omega
theorem yard_split {x:Inst} {p:Nat} (hx:x.Fit p) (hm:x.may=true) (h0:x.pairs≠0):∀(f:Nat) (path:List Int) (s:State) (d:Int) (acc:List (List Int)),path.length<f→s.spot=0→s.on=0→s.load=0→s.time=(x.stop 0).ready→Good x p s→x.way path s d→
  path≠[]∧∃routes,splitF f path s.first false acc=(acc++routes,0)∧(routes.length:Int)+s.car≤x.cars+1∧∀all seen,MatchS p s.must seen→x.costGo routes all seen=(all+d,0)
 |0,path,s,d,acc,hf,_,_,_,_,_,_=>absurd hf (by omega)
 |f+1,[],s,d,acc,_,hsp,_,_,_,_,hw=>by
  obtain ⟨w1,w2⟩:=hw
  obtain ⟨e1,e2 | ⟨e2,e3,_⟩⟩:=end_is w1
  ·exact absurd e2.1 h0
  ·exact absurd hsp e3
 |f+1,j :: path,s,d,acc,hf,hsp,hon,hld,hti,hg,hw=>by
  refine ⟨by simp,?_⟩
  obtain ⟨w1,d1,w2,w3⟩:=hw
  have hj:j≠0:=by
   intro e
   subst e
   obtain ⟨_,_,g3,_⟩:=move_home w1
   simp [Inst.stayB,hsp] at g3
  have hs:Sim1 x p s.must s x.car0 0:=by
   refine ⟨hsp.symm,hti.symm,hld.symm,hon.symm,fun i _ _=>by simp [Inst.car0],fun i i1 i2 h=>?_,car0_fit hx,hg⟩
   have:=hg.on i i1 i2
   rw [hon,Nat.zero_testBit,h] at this
   simpa using this.symm
  obtain ⟨v1,v2,v3⟩:=hs.step hx hj w1
  obtain ⟨b1,b2,b3,b4,_,_⟩:=good_step hx hg w1
  obtain ⟨_,hmay,p3,p4,p5,p6,p7,m8⟩:=move_pos w1 hj
  have hfew:=hx.few
  have hp:=hx.pairs
  rw [if_pos p3] at b4
  have hjp:j≤x.pairs:=by
   by_cases c:j≤x.pairs
   ·exact c
   ·have:=p7 (by omega)
    simp [Inst.emptyB,hsp] at this
  have hfirst:s.first<j:=by
   have:=p6 hjp
   simp only [Inst.fullB,Bool.or_eq_false_iff,Bool.and_eq_false_iff,decide_eq_false_iff_not] at this
   rcases this.2 with h | h
   ·exact absurd hsp h
   ·omega
  have hsp':(x.move s j).1.spot≠0:=by rw [m8];exact hj
  have hfi:(x.move s j).1.first=j:=by rw [m8];show (if s.spot=0 then j else s.first)=j;rw [if_pos hsp]
  have hca:(x.move s j).1.car=s.car:=by rw [m8];rfl
  have hmt:∀seen,MatchS p s.must seen→MatchS p (x.move s j).1.must (bump seen j):=fun seen hm=>by
   obtain ⟨i,rfl⟩:∃i:Nat,j=i:=⟨j.toNat,by omega⟩
   simp only [Inst.lateB,Bool.or_eq_false_iff] at p5
   have:=p5.1
   rw [has_testN (by omega)] at this
   rw [b4]
   exact hm.bump (by omega) (by omega) (by omega) this
  obtain ⟨r,rest,c',q1,q2,q3,q4⟩:=route_rest hx h0 path _ _ _ d1 v2 hsp' w2
  have hpos:∀i∈j :: r,0<i:=fun i hi=>by
   rcases List.mem_cons.1 hi with rfl | hi
   ·exact p3
   ·exact q2 i hi
  have hrun:x.runC (j :: r) x.car0=(c',0):=by rw [runC_cons v1];exact q3
  have htimes:x.times (j :: r)=(c'.times,c'.gone,0):=by rw [Inst.times,if_neg (by simp [hm]),hrun];rfl
  have hg0:x.car0.gone=0:=rfl
  have hcgo:∀rs all seen,x.costGo ((j :: r) :: rs) all seen=x.costGo rs (all+c'.gone) (r.foldl bump (bump seen j)):=fun rs all seen=>by
   rw [Inst.costGo,if_neg (by simp),htimes]
   simp
  rw [List.length_cons] at hf
  have hsc:=s.fit hx hmay
  have hlast:(false||decide (j≤s.first))=false:=by rw [Bool.false_or];exact decide_eq_false (by omega)
  rcases q4 with ⟨t1,t2,t3⟩ | ⟨path',s',d2,t1,t2,t3,t4,t5,t6,t7,t8,t9,t10,t11,t12⟩
  ·subst t1
   rw [List.append_nil] at q1
   subst q1
   refine ⟨[j :: path],?_,?_,?_⟩
   ·rw [splitF,if_pos (by rw [idx_none _ 0 hpos];omega),List.getD_cons_zero,hlast]
    rfl
   ·have:=hsc.car
    simp only [List.length_cons,List.length_nil]
    omega
   ·intro all seen hms
    obtain ⟨must,k1,k2⟩:=t3 _ (hmt seen hms)
    obtain ⟨k3,k4⟩:=k1.end k2
    rw [hcgo,Inst.costGo,k3,k4]
    simp only [Bool.false_eq_true,if_false]
    congr 1
    omega
  ·subst t1
   subst q1
   rw [List.length_append,List.length_cons] at hf
   obtain ⟨y1,routes,y2,y3,y4⟩:=yard_split hx hm h0 f path' s' d2 (acc++[j :: r]) (by omega) t4 t5 t6 t7 t11 t3
   have hlen':path'.length≠0:=fun e=>y1 (List.eq_nil_of_length_eq_zero e)
   have hidx:idxI lowI 0 (j :: (r++0 :: path'))=((0+(j :: r).length:Nat):Int):=idx_zero (j :: r) path' 0 hpos
   rw [Nat.zero_add] at hidx
   refine ⟨(j :: r) :: routes,?_,?_,?_⟩
   ·rw [splitF,hidx,if_neg (by omega),if_neg,Int.toNat_natCast,List.getD_cons_zero,hlast]
    ·have e1:(j :: (r++0 :: path')).drop ((j :: r).length+1)=path':=by
      have:(j :: (r++0 :: path'))=(j :: r++[0])++path':=by simp
      rw [this,List.drop_left' (by simp)]
     have e2:(j :: (r++0 :: path')).take (j :: r).length=j :: r:=by
      have:(j :: (r++0 :: path'))=(j :: r)++(0 :: path'):=by simp
      rw [this,List.take_left' rfl]
     rw [e1,e2]
     rw [t8,hfi] at y2
     rw [y2,List.append_assoc]
     rfl
    ·have e3:(j :: (r++0 :: path')).getD ((j :: r).length:Int).toNat 0=0:=by
      have:(j :: (r++0 :: path'))=(j :: r)++(0 :: path'):=by simp
      rw [Int.toNat_natCast,this,List.getD_eq_getElem?_getD,List.getElem?_append_right (Nat.le_refl _)]
      simp
     rw [e3]
     simp only [List.length_cons,List.length_append]
     omega
   ·rw [t9,hca] at y3
    simp only [List.length_cons]
    omega
   ·intro all seen hms
    rw [hcgo,y4 _ _ (t12 _ (hmt seen hms))]
    congr 1
    omega
theorem tour_plain {x:Inst} (hm:x.may=true) {path:List Int} {d:Int} (hw:x.way path x.rootS d):(splitR path).2=0∧x.cost (splitR path).1=(d,0):=by
 obtain ⟨p,hx⟩:=x.fit hm
 have hp:=hx.pairs
 have hc:=hx.cars
 have hroot:x.rootS={State.zero with car:=1,time:=(x.stop 0).ready}:=by rw [Inst.rootS,if_pos hm]
 have hms:MatchS p 0 (List.replicate (2*x.pairs+1).toNat 0):=by
  refine ⟨by rw [List.length_replicate];omega,fun i hi=>?_⟩
  simp
 by_cases h0:x.pairs=0
 ·match path,hw with
  |[],hw=>
   have hd:d=0:=by
    obtain ⟨e1,e2 | ⟨e2,e3,_⟩⟩:=end_is hw.1
    ·rw [hw.2,e2.2.2]
    ·rw [hroot] at e3;exact absurd rfl e3
   have e:splitR []=([],0):=rfl
   rw [e]
   refine ⟨rfl,?_⟩
   obtain ⟨k3,k4⟩:=hms.end (fun i i1 i2=>by omega)
   rw [Inst.cost,if_neg (by simp [hm]),if_neg (by simp only [List.length_nil];omega),Inst.costGo,k3,k4,hd]
   simp
  |j :: path,hw=>exact absurd h0 (move_pairs hw.1)
 ·obtain ⟨y1,routes,y2,y3,y4⟩:=yard_split hx hm h0 (path.length+1) path x.rootS d [] (by omega) (by rw [hroot];rfl) (by rw [hroot];rfl) (by rw [hroot];rfl) (by rw [hroot]) (good_root hx hm) hw
  have hf:x.rootS.first=0:=by rw [hroot];rfl
  have hca:x.rootS.car=1:=by rw [hroot]
  have hmu:x.rootS.must=0:=by rw [hroot];rfl
  rw [hf] at y2
  rw [hca] at y3
  rw [hmu] at y4
  have hne:¬path.length=0:=fun e=>y1 (List.eq_nil_of_length_eq_zero e)
  rw [splitR,if_neg hne,y2]
  refine ⟨rfl,?_⟩
  show x.cost ([]++routes)=(d,0)
  rw [List.nil_append,Inst.cost,if_neg (by simp [hm]),if_neg (by omega),y4 _ _ hms]
  simp
end Go.Proofs.YtnoifgjiipgpoaaGreat

set_option maxRecDepth 4000
namespace Go.Proofs.YtnoifgjiipgpoaaGreat
open Go Go.Proofs.YtnoifgjiipgpoaaGreat.R
def Inst.gones (x:Inst):List (List Int)→Int
 |[]=>0
 |r :: rs=>(x.times r).2.1+x.gones rs
theorem gones_perm (x:Inst) {a b:List (List Int)} (h:a.Perm b):x.gones a=x.gones b:=by
 induction h with
 |nil=>rfl
 |cons r _ ih=>simp only [Inst.gones,ih]
 |swap r s l=>simp only [Inst.gones];omega
 |trans _ _ h1 h2=>exact h1.trans h2
structure PlanOK (x:Inst) (p:Nat) (rs:List (List Int)):Prop where
 cars:(rs.length:Int)≤x.cars
 each:∀r∈rs,r≠[]∧(x.times r).2.2=0
 once:rs.flatten.Nodup
 all:∀i:Nat,1≤i→i≤2*p→(i:Int)∈rs.flatten
theorem PlanOK.perm {x:Inst} {p:Nat} {a b:List (List Int)} (h:PlanOK x p a) (hp:a.Perm b):PlanOK x p b:=
 ⟨by rw [←hp.length_eq];exact h.cars,fun r hr=>h.each r (hp.mem_iff.2 hr),(hp.flatten.nodup_iff).1 h.once,fun i h1 h2=>(hp.flatten.mem_iff).1 (h.all i h1 h2)⟩
theorem bump_count {i:Nat}:∀(r:List Int) (s:List Int) (h:i<s.length),(∀j∈r,0≤j)→(r.foldl bump s)[i]'(by rw [bumps_len];exact h)=s[i]+(r.count (i:Int):Nat)
 |[],s,h,_=>by simp
 |j :: r,s,h,hr=>by
  have h0:=hr j List.mem_cons_self
  have ih:=bump_count r (bump s j) (by rw [bump_len];exact h) fun k hk=>hr k (List.mem_cons_of_mem _ hk)
  simp only [List.foldl_cons]
  rw [ih,List.count_cons]
  simp only [bump,List.getElem_set]
  by_cases e:j.toNat=i
  ·have e2:j=(i:Int):=by omega
   have e3:s.getD j.toNat 0=s[i]:=by rw [e,List.getD_eq_getElem?_getD,List.getElem?_eq_getElem h];rfl
   rw [if_pos e,e3,e2]
   simp only [beq_self_eq_true,if_true]
   omega
  ·have e2:¬j=(i:Int):=by omega
   rw [if_neg e]
   simp [e2]
theorem costGo_ok {x:Inst} {p:Nat} (hx:x.Fit p) (hm:x.may=true):∀(rs:List (List Int)) (all:Int) (seen:List Int) {c:Int},seen.length=2*p+1→x.costGo rs all seen=(c,0)→
  c=all+x.gones rs∧(∀r∈rs,r≠[]∧(x.times r).2.2=0)∧((rs.flatten.foldl bump seen).any fun n=>decide (1<n))=false∧(((rs.flatten.foldl bump seen).drop 1).any fun n=>decide (n=0))=false
 |[],all,seen,c,hs,h=>by
  rw [Inst.costGo] at h
  split at h
  ·cases h
  split at h
  ·cases h
  rename_i h1 h2
  simp only [Prod.mk.injEq,and_true] at h
  exact ⟨by simp only [Inst.gones];omega,by simp,(Bool.not_eq_true _).mp h1,(Bool.not_eq_true _).mp h2⟩
 |r :: rs,all,seen,c,hs,h=>by
  rw [Inst.costGo] at h
  split at h
  ·cases h
  split at h
  ·rename_i h1 h2
   simp only [Prod.mk.injEq] at h
   exact absurd h.2 h2
  rename_i h1 h2
  obtain ⟨g1,g2,g3,g4⟩:=costGo_ok hx hm rs _ _ (by rw [bumps_len];exact hs) h
  refine ⟨by simp only [Inst.gones];omega,fun q hq=>?_,by rw [List.flatten_cons,List.foldl_append];exact g3,by rw [List.flatten_cons,List.foldl_append];exact g4⟩
  rcases List.mem_cons.1 hq with rfl | hq
  ·exact ⟨fun e=>h1 (by rw [e];rfl),by simpa using h2⟩
  ·exact g2 q hq
theorem cost_ok {x:Inst} {p:Nat} (hx:x.Fit p) (hm:x.may=true) {rs:List (List Int)} {c:Int} (h:x.cost rs=(c,0)):PlanOK x p rs∧c=x.gones rs:=by
 have hp:=hx.pairs
 rw [Inst.cost,if_neg (by simp [hm])] at h
 split at h
 ·cases h
 rename_i hc
 have hlen:(List.replicate (2*x.pairs+1).toNat (0:Int)).length=2*p+1:=by rw [List.length_replicate];omega
 obtain ⟨g1,g2,g3,g4⟩:=costGo_ok hx hm rs _ _ hlen h
 have hstop:∀i∈rs.flatten,1≤i∧i≤2*p:=fun i hi=>by
  obtain ⟨r,hr,hir⟩:=List.mem_flatten.1 hi
  exact (times_ok hx hm (g2 r hr).2).1 i hir
 have hcnt:∀i:Nat,(hi:i≤2*p)→(rs.flatten.foldl bump (List.replicate (2*x.pairs+1).toNat 0))[i]'(by rw [bumps_len,hlen];omega)=((rs.flatten.count (i:Int):Nat):Int):=fun i hi=>by
  rw [bump_count _ _ (by rw [hlen];omega) (fun j hj=>by have:=hstop j hj;omega)]
  simp
 have hfl:=bumps_len rs.flatten (List.replicate (2*x.pairs+1).toNat (0:Int))
 rw [hlen] at hfl
 refine ⟨⟨by omega,g2,?_,?_⟩,by omega⟩
 ·rw [List.nodup_iff_count]
  intro a
  by_cases ha:a∈rs.flatten
  ·obtain ⟨h1,h2⟩:=hstop a ha
   obtain ⟨i,rfl⟩:∃i:Nat,a=i:=⟨a.toNat,by omega⟩
   have h3:=hcnt i (by omega)
   rw [List.any_eq_false] at g3
   have h4:=g3 _ (List.getElem_mem (l:=rs.flatten.foldl bump (List.replicate (2*x.pairs+1).toNat 0)) (n:=i) (by rw [hfl];omega))
   rw [h3] at h4
   simp only [decide_eq_true_eq] at h4
   omega
  ·rw [List.count_eq_zero.2 ha]
   omega
 ·intro i h1 h2
  by_cases ha:(i:Int)∈rs.flatten
  ·exact ha
  ·exfalso
   have h3:=hcnt i h2
   rw [List.count_eq_zero.2 ha] at h3
   rw [List.any_eq_false] at g4
   refine g4 _ (List.mem_iff_getElem.2 ⟨i-1,by rw [List.length_drop,hfl];omega,?_⟩) (decide_eq_true rfl)
   rw [List.getElem_drop]
   have e:1+(i-1)=i:=by omega
   simp only [e]
   exact h3
theorem Sim1.back {x:Inst} {p m0 k:Nat} {s:State} {c:Car} {j:Int} (hx:x.Fit p) (hm:x.may=true) (h:Sim1 x p m0 s c k) (hcar:1≤s.car∧s.car≤x.cars) (hv:(x.visitC c j).2=0) (hn:∀i:Nat,j=i→s.must.testBit i=false) (hf:s.spot=0→c.seen=0∧s.first<j):
  (x.move s j).2.2=true∧0<j:=by
 have hp:=hx.pairs
 have hfew:=hx.few
 rw [Inst.visitC] at hv
 split at hv
 ·rename_i hh;exact absurd hv hh
 rename_i hvs
 split at hv
 ·cases hv
 rename_i hdue
 obtain ⟨k1,k2,k3,k4,k5⟩:=visits_ok (by simpa using hvs)
 obtain ⟨i,rfl⟩:∃i:Nat,j=i:=⟨j.toNat,by omega⟩
 have hmi:=hn i rfl
 have hsum:=sumOn_pos hx s.on p (Nat.le_refl _)
 have hmay:s.mayB x=true:=by
  have h1:=h.fit.spot
  have h2:=h.fit.now
  have h3:=h.good.load
  have h4:=h.good.room
  have h5:=hx.room
  have h6:=h.spot
  have h7:=h.now
  simp only [State.mayB,Bool.and_eq_true,decide_eq_true_eq]
  omega
 have l1:x.lateB s i=false:=by
  simp only [Inst.lateB,Bool.or_eq_false_iff,decide_eq_false_iff_not]
  rw [has_testN (by omega)]
  refine ⟨hmi,?_⟩
  unfold Inst.begins
  rw [←h.now,←h.spot]
  omega
 have l2:(i:Int)≤x.pairs→x.fullB s i=false:=fun hi=>by
  simp only [Inst.fullB,Bool.or_eq_false_iff,Bool.and_eq_false_iff,decide_eq_false_iff_not]
  rw [←h.load]
  refine ⟨by omega,?_⟩
  by_cases hs:s.spot=0
  ·have:=hf hs
   exact .inr (by omega)
  ·exact .inl hs
 have l3:x.pairs<(i:Int)→x.emptyB s i=false:=fun hi=>by
  have hb:=k4 hi
  have e:(i:Int)-x.pairs=((i-p:Nat):Int):=by omega
  rw [e,has_testN (by omega)] at hb
  simp only [Inst.emptyB,Bool.or_eq_false_iff,Bool.not_eq_false',decide_eq_false_iff_not]
  rw [e,has_testN (by omega),h.good.eq,h.seen (i-p) (by omega) (by omega),hb]
  refine ⟨fun hs=>?_,by simp⟩
  have:=(hf hs).1
  rw [this,Nat.zero_testBit] at hb
  cases hb
 have hto:=to_visit (x:=x) (s:=s) (j:=i) (by omega) l1 l2 l3
 have hmv:=move_mk (j:=i) hm hmay (by omega) (by rw [hto])
 exact ⟨by rw [hmv],by omega⟩
theorem route_fwd {x:Inst} {p m0:Nat} (hx:x.Fit p) (hm:x.may=true):∀(r:List Int) (s:State) (c:Car) (k:Nat),Sim1 x p m0 s c k→s.spot≠0→(1≤s.car∧s.car≤x.cars)→(x.runC r c).2=0→r.Nodup→(∀i:Nat,(i:Int)∈r→s.must.testBit i=false)→
  ∃s' c1 k',Sim1 x p m0 s' c1 k'∧s'.spot≠0∧s'.car=s.car∧s'.first=s.first∧x.homeC c1=x.runC r c∧(∀i,1≤i→i≤2*p→s'.must.testBit i=(s.must.testBit i||decide ((i:Int)∈r)))∧
   ∀path d,x.way path s' d→x.way (r++path) s (c1.gone-c.gone+d)
 |[],s,c,k,hs,hsp,hcar,hr,_,_=>by
  refine ⟨s,c,k,hs,hsp,rfl,rfl,rfl,fun i _ _=>by simp,fun path d hw=>?_⟩
  have:c.gone-c.gone+d=d:=by omega
  rw [this]
  exact hw
 |j :: r,s,c,k,hs,hsp,hcar,hr,hnd,hdis=>by
  have hv:(x.visitC c j).2=0:=by
   rw [Inst.runC] at hr
   by_cases c1:(x.visitC c j).2=0
   ·exact c1
   ·rw [if_pos c1] at hr;exact absurd hr c1
  rw [runC_cons hv] at hr ⊢
  rw [List.nodup_cons] at hnd
  obtain ⟨b1,b2⟩:=hs.back hx hm hcar hv (fun i e=>hdis i (by rw [e];exact List.mem_cons_self)) (fun h=>absurd h hsp)
  obtain ⟨v1,v2,v3⟩:=hs.step hx (by omega) b1
  obtain ⟨_,_,p3,p4,_,_,_,m8⟩:=move_pos b1 (by omega)
  obtain ⟨_,_,_,q4,_,_⟩:=good_step hx hs.good b1
  have hfew:=hx.few
  have hp:=hx.pairs
  rw [if_pos b2] at q4
  have e1:(x.move s j).1.car=s.car:=by rw [m8];rfl
  have e2:(x.move s j).1.first=s.first:=by rw [m8];show (if s.spot=0 then j else s.first)=s.first;rw [if_neg hsp]
  have e3:(x.move s j).1.spot≠0:=by rw [m8];show j≠0;omega
  obtain ⟨n,rfl⟩:∃n:Nat,j=n:=⟨j.toNat,by omega⟩
  have hbit:∀i,(x.move s (n:Int)).1.must.testBit i=(s.must.testBit i||decide (n=i)):=fun i=>by rw [q4,with_bit (by omega)]
  obtain ⟨s',c1,k',g1,g2,g3,g4,g5,g6,g7⟩:=route_fwd hx hm r _ _ _ v2 e3 (by rw [e1];exact hcar) hr hnd.2 (fun i hi=>by
   rw [hbit,hdis i (List.mem_cons_of_mem _ hi)]
   have:¬n=i:=by rintro rfl;exact hnd.1 hi
   simp [this])
  refine ⟨s',c1,k',g1,g2,by rw [g3,e1],by rw [g4,e2],g5,fun i i1 i2=>?_,fun path d hw=>?_⟩
  ·rw [g6 i i1 i2,hbit,Bool.or_assoc]
   congr 1
   rw [Bool.eq_iff_iff]
   simp only [Bool.or_eq_true,decide_eq_true_eq,List.mem_cons]
   constructor
   ·rintro (rfl | h)
    ·exact .inl rfl
    ·exact .inr h
   ·rintro (h | h)
    ·exact .inl (by omega)
    ·exact .inr h
  ·refine ⟨b1,_,g7 path d hw,?_⟩
   omega
def headI (r:List Int):Int:=r.getD 0 0
theorem route_first {x:Inst} {p:Nat} (hx:x.Fit p) (hm:x.may=true) {r:List Int} {s:State} (hsp:s.spot=0) (hon:s.on=0) (hld:s.load=0) (hti:s.time=(x.stop 0).ready) (hg:Good x p s) (hc:1≤s.car∧s.car≤x.cars) (hne:r≠[]) (ht:(x.times r).2.2=0) (hnd:r.Nodup)
  (hdis:∀i:Nat,(i:Int)∈r→s.must.testBit i=false) (hfi:s.first<headI r):
  ∃s' c1 k',Sim1 x p s.must s' c1 k'∧s'.spot≠0∧s'.car=s.car∧s'.first=headI r∧(x.homeC c1).2=0∧(x.times r).2.1=(x.homeC c1).1.gone∧(∀i,1≤i→i≤2*p→s'.must.testBit i=(s.must.testBit i||decide ((i:Int)∈r)))∧
   ∀path d,x.way path s' d→x.way (r++path) s (c1.gone+d):=by
 match r,hne with
 |j :: r,_=>
  have hs:Sim1 x p s.must s x.car0 0:=by
   refine ⟨hsp.symm,hti.symm,hld.symm,hon.symm,fun i _ _=>by simp [Inst.car0],fun i i1 i2 h=>?_,car0_fit hx,hg⟩
   have:=hg.on i i1 i2
   rw [hon,Nat.zero_testBit,h] at this
   simpa using this.symm
  have hrun:(x.runC (j :: r) x.car0).2=0:=by
   rw [Inst.times,if_neg (by simp [hm])] at ht
   by_cases c1:(x.runC (j :: r) x.car0).2=0
   ·exact c1
   ·rw [if_pos c1] at ht;exact absurd ht c1
  have htm:(x.times (j :: r)).2.1=(x.runC (j :: r) x.car0).1.gone:=by rw [Inst.times,if_neg (by simp [hm]),if_neg (by simp [hrun])]
  have hv:(x.visitC x.car0 j).2=0:=by
   rw [Inst.runC] at hrun
   by_cases c1:(x.visitC x.car0 j).2=0
   ·exact c1
   ·rw [if_pos c1] at hrun;exact absurd hrun c1
  rw [runC_cons hv] at hrun htm
  rw [List.nodup_cons] at hnd
  have hhd:headI (j :: r)=j:=rfl
  rw [hhd] at hfi ⊢
  obtain ⟨b1,b2⟩:=hs.back hx hm hc hv (fun i e=>hdis i (by rw [e];exact List.mem_cons_self)) (fun _=>⟨rfl,hfi⟩)
  obtain ⟨v1,v2,v3⟩:=hs.step hx (by omega) b1
  obtain ⟨_,_,p3,p4,_,_,_,m8⟩:=move_pos b1 (by omega)
  obtain ⟨_,_,_,q4,_,_⟩:=good_step hx hg b1
  have hfew:=hx.few
  have hp:=hx.pairs
  rw [if_pos b2] at q4
  have e1:(x.move s j).1.car=s.car:=by rw [m8];rfl
  have e2:(x.move s j).1.first=j:=by rw [m8];show (if s.spot=0 then j else s.first)=j;rw [if_pos hsp]
  have e3:(x.move s j).1.spot≠0:=by rw [m8];show j≠0;omega
  have hg0:x.car0.gone=0:=rfl
  obtain ⟨n,rfl⟩:∃n:Nat,j=n:=⟨j.toNat,by omega⟩
  have hbit:∀i,(x.move s (n:Int)).1.must.testBit i=(s.must.testBit i||decide (n=i)):=fun i=>by rw [q4,with_bit (by omega)]
  obtain ⟨s',c1,k',g1,g2,g3,g4,g5,g6,g7⟩:=route_fwd hx hm r _ _ _ v2 e3 (by rw [e1];exact hc) hrun hnd.2 (fun i hi=>by
   rw [hbit,hdis i (List.mem_cons_of_mem _ hi)]
   have:¬n=i:=by rintro rfl;exact hnd.1 hi
   simp [this])
  refine ⟨s',c1,k',g1,g2,by rw [g3,e1],by rw [g4,e2],by rw [g5];exact hrun,by rw [htm,g5],fun i i1 i2=>?_,fun path d hw=>?_⟩
  ·rw [g6 i i1 i2,hbit,Bool.or_assoc]
   congr 1
   rw [Bool.eq_iff_iff]
   simp only [Bool.or_eq_true,decide_eq_true_eq,List.mem_cons]
   constructor
   ·rintro (rfl | h)
    ·exact .inl rfl
    ·exact .inr h
   ·rintro (h | h)
    ·exact .inl (by omega)
    ·exact .inr h
  ·refine ⟨b1,_,g7 path d hw,?_⟩
   omega
theorem homeC_ok {x:Inst} {c:Car} (h:(x.homeC c).2=0):c.on=0∧c.now+far (x.stop c.spot) (x.stop 0)≤(x.stop 0).due∧(x.homeC c).1.gone=c.gone+far (x.stop c.spot) (x.stop 0):=by
 rw [Inst.homeC] at h ⊢
 by_cases c1:c.on=0
 ·rw [if_neg (by simp [c1])] at h ⊢
  by_cases c2:(x.stop 0).due<c.now+far (x.stop c.spot) (x.stop 0)
  ·rw [if_pos c2] at h;cases h
  ·rw [if_neg c2]
   exact ⟨c1,by omega,rfl⟩
 ·rw [if_pos c1] at h;cases h
theorem Sim1.mayB {x:Inst} {p m0 k:Nat} {s:State} {c:Car} (hx:x.Fit p) (h:Sim1 x p m0 s c k) (hcar:1≤s.car∧s.car≤x.cars):s.mayB x=true:=by
 have hp:=hx.pairs
 have hsum:=sumOn_pos hx s.on p (Nat.le_refl _)
 have h1:=h.fit.spot
 have h2:=h.fit.now
 have h3:=h.good.load
 have h4:=h.good.room
 have h5:=hx.room
 have h6:=h.spot
 have h7:=h.now
 simp only [State.mayB,Bool.and_eq_true,decide_eq_true_eq]
 omega
theorem upto_only:∀(k:Nat) {i:Nat},(uptoL k).testBit i=true→1≤i∧i≤k
 |0,i,h=>by simp [uptoL] at h
 |k+1,i,h=>by
  rw [uptoL,Nat.testBit_or,Bool.or_eq_true] at h
  rcases h with h | h
  ·have:=upto_only k h;omega
  ·rw [Nat.testBit_two_pow] at h
   have:k+1=i:=by simpa using h
   omega
theorem allB_of {x:Inst} {p t:Nat} (hx:x.Fit p) (h:∀i,1≤i→i≤2*p→t.testBit i=true):x.allB t=true:=by
 rw [Inst.allB,withinB,List.all_eq_true]
 intro i hi
 have hp:=hx.pairs
 have hfew:=hx.few
 have hu:(uptoN (2*x.pairs)).testBit i=true→t.testBit i=true:=fun hb=>by
  unfold uptoN at hb
  have:=upto_only _ hb
  exact h i this.1 (by omega)
 cases hb:(uptoN (2*x.pairs)).testBit i with
 |false=>rfl
 |true=>rw [hu hb];rfl
theorem yard_fwd {x:Inst} {p:Nat} (hx:x.Fit p) (hm:x.may=true) (h0:x.pairs≠0):∀(rs:List (List Int)) (r:List Int) (s:State),s.spot=0→s.on=0→s.load=0→s.time=(x.stop 0).ready→Good x p s→1≤s.car→s.car+rs.length≤x.cars→(∀q∈r :: rs,q≠[]∧(x.times q).2.2=0)→(r :: rs).flatten.Nodup→
  (∀i:Nat,(i:Int)∈(r :: rs).flatten→s.must.testBit i=false)→(∀i:Nat,1≤i→i≤2*p→s.must.testBit i=true∨(i:Int)∈(r :: rs).flatten)→s.first<headI r→(r :: rs).Pairwise (fun a b=>headI a<headI b)→∃path,x.way path s (x.gones (r :: rs)):=by
 intro rs
 induction rs with
 |nil=>
  intro r s hsp hon hld hti hg hc1 hc2 heach hnd hdis hall hfi hpw
  obtain ⟨e1,e2⟩:=heach r List.mem_cons_self
  simp only [List.flatten_cons,List.flatten_nil,List.append_nil] at hnd hdis hall
  obtain ⟨s',c1,k',g1,g2,g3,g4,g5,g6,g7,g8⟩:=route_first hx hm hsp hon hld hti hg ⟨hc1,by simp only [List.length_nil] at hc2;omega⟩ e1 e2 hnd hdis hfi
  obtain ⟨a1,a2,a3⟩:=homeC_ok g5
  have hend:x.endS s'=(far (x.stop s'.spot) (x.stop 0),true):=by
   rw [Inst.endS,if_neg (by simp [hm]),if_neg (fun h=>h0 h.1),if_pos]
   refine ⟨g1.mayB hx (by rw [g3];simp only [List.length_nil] at hc2;omega),g2,by rw [←g1.on];exact a1,allB_of hx fun i i1 i2=>?_,by rw [←g1.now,←g1.spot];exact a2⟩
   rw [g1.good.eq,g7 i i1 i2]
   rcases hall i i1 i2 with h | h
   ·rw [h];rfl
   ·simp [h]
  have hw:=g8 [] _ (show x.way [] s' (far (x.stop s'.spot) (x.stop 0)) from ⟨by rw [hend],by rw [hend]⟩)
  refine ⟨r++[],?_⟩
  rw [Inst.gones,Inst.gones,g6,a3,g1.spot,Int.add_zero]
  exact hw
 |cons r2 rs ih=>
  intro r s hsp hon hld hti hg hc1 hc2 heach hnd hdis hall hfi hpw
  obtain ⟨e1,e2⟩:=heach r List.mem_cons_self
  rw [List.flatten_cons] at hnd hdis hall
  rw [List.length_cons] at hc2
  obtain ⟨n1,n2,n3⟩:=List.nodup_append.1 hnd
  obtain ⟨s',c1,k',g1,g2,g3,g4,g5,g6,g7,g8⟩:=route_first hx hm hsp hon hld hti hg ⟨hc1,by omega⟩ e1 e2 n1 (fun i hi=>hdis i (List.mem_append_left _ hi)) hfi
  obtain ⟨a1,a2,a3⟩:=homeC_ok g5
  rw [List.pairwise_cons] at hpw
  obtain ⟨e3,e4⟩:=heach r2 (by simp)
  have hr2:=times_ok hx hm e4
  obtain ⟨j2,hj2⟩:∃j2,j2∈r2:=List.exists_mem_of_ne_nil _ e3
  have hp:=hx.pairs
  have hfew:=hx.few
  have hmay:=g1.mayB hx (by rw [g3];omega)
  have hstay:x.stayB s'=false:=by
   simp only [Inst.stayB,Bool.or_eq_false_iff,decide_eq_false_iff_not]
   refine ⟨⟨⟨⟨g2,by rw [←g1.on,a1];simp⟩,by rw [g3];omega⟩,?_⟩,by rw [←g1.now,←g1.spot];omega⟩
   cases hq:x.allB s'.must with
   |false=>rfl
   |true=>
    exfalso
    obtain ⟨i,rfl⟩:∃i:Nat,j2=i:=⟨j2.toNat,by have:=hr2.1 j2 hj2;omega⟩
    have hi:=hr2.1 _ hj2
    have h1:=Inst.all_bit hx hq (i:=i) (by omega) (by omega)
    have hmem:(i:Int)∈(r2 :: rs).flatten:=by rw [List.flatten_cons];exact List.mem_append_left _ hj2
    rw [g7 i (by omega) (by omega),hdis i (List.mem_append_right _ hmem),Bool.false_or,decide_eq_true_eq] at h1
    exact n3 _ h1 _ hmem rfl
  have hto:x.to s' 0=(x.homeS s',true):=by rw [Inst.to,if_pos rfl,Inst.home,if_neg (by rw [hstay];simp)]
  have hmv:=move_mk (j:=0) hm hmay (by omega) (by rw [hto])
  rw [hto] at hmv
  have hmv1:(x.move s' 0).2.2=true:=by rw [hmv]
  have hgood:=(good_step hx g1.good hmv1).1
  rw [hmv] at hgood
  obtain ⟨path,hpath⟩:=ih r2 (x.homeS s') rfl (by show s'.on=0;rw [←g1.on];exact a1) rfl rfl hgood (by show 1≤s'.car+1;omega) (by show s'.car+1+(rs.length:Int)≤x.cars;rw [g3];omega) (fun q hq=>heach q (List.mem_cons_of_mem _ hq)) n2
   (fun i hi=>by
    show s'.must.testBit i=false
    have hi2:1≤i∧i≤2*p:=by
     obtain ⟨q,hq,hiq⟩:=List.mem_flatten.1 hi
     have:=(times_ok hx hm (heach q (List.mem_cons_of_mem _ hq)).2).1 _ hiq
     omega
    rw [g7 i hi2.1 hi2.2,hdis i (List.mem_append_right _ hi),Bool.false_or]
    exact decide_eq_false fun h=>n3 _ h _ hi rfl)
   (fun i i1 i2=>by
    show s'.must.testBit i=true∨_
    rw [g7 i i1 i2]
    rcases hall i i1 i2 with h | h
    ·exact .inl (by rw [h];rfl)
    ·rcases List.mem_append.1 h with h | h
     ·exact .inl (by simp [h])
     ·exact .inr h)
   (by show s'.first<headI r2;rw [g4];exact hpw.1 r2 (by simp)) hpw.2
  have hw:=g8 (0 :: path) _ (show x.way (0 :: path) s' (far (x.stop s'.spot) (x.stop 0)+x.gones (r2 :: rs)) from ⟨hmv1,_,by rw [hmv];exact hpath,by rw [hmv]⟩)
  refine ⟨r++0 :: path,?_⟩
  rw [Inst.gones,g6,a3,g1.spot]
  have e:c1.gone+far (x.stop s'.spot) (x.stop 0)+x.gones (r2 :: rs)=c1.gone+(far (x.stop s'.spot) (x.stop 0)+x.gones (r2 :: rs)):=by omega
  rw [e]
  exact hw
theorem plan_way {x:Inst} (hm:x.may=true) {rs:List (List Int)} {c:Int} (h:x.cost rs=(c,0)):∃path,x.way path x.rootS c:=by
 obtain ⟨p,hx⟩:=x.fit hm
 have hp:=hx.pairs
 have hroot:x.rootS={State.zero with car:=1,time:=(x.stop 0).ready}:=by rw [Inst.rootS,if_pos hm]
 obtain ⟨hok,rfl⟩:=cost_ok hx hm h
 by_cases h0:x.pairs=0
 ·have hn:rs=[]:=by
   cases rs with
   |nil=>rfl
   |cons r rs=>
    obtain ⟨e1,e2⟩:=hok.each r List.mem_cons_self
    obtain ⟨j,hj⟩:=List.exists_mem_of_ne_nil _ e1
    have:=(times_ok hx hm e2).1 j hj
    omega
  subst hn
  refine ⟨[],?_,?_⟩
  ·rw [Inst.endS,if_neg (by simp [hm]),if_pos ⟨h0,rfl⟩]
  ·rw [Inst.endS,if_neg (by simp [hm]),if_pos ⟨h0,rfl⟩];rfl
 ·obtain ⟨qs,hqs⟩:∃qs,qs=rs.mergeSort (fun a b=>decide (headI a≤headI b)):=⟨_,rfl⟩
  have hperm:rs.Perm qs:=by rw [hqs];exact (List.mergeSort_perm _ _).symm
  have hsort:qs.Pairwise fun a b=>decide (headI a≤headI b)=true:=by
   rw [hqs]
   refine List.pairwise_mergeSort (fun a b c h1 h2=>?_) (fun a b=>?_) rs
   ·simp only [decide_eq_true_eq] at *;omega
   ·simp only [Bool.or_eq_true,decide_eq_true_eq];omega
  have hok2:=hok.perm hperm
  rw [gones_perm x hperm]
  have hne:qs≠[]:=by
   intro e
   have:=hok2.all 1 (Nat.le_refl _) (by omega)
   rw [e] at this
   cases this
  match qs,hne with
  |r :: qs,_=>
   have hhead:∀q∈r :: qs,headI q∈q:=fun q hq=>by
    obtain ⟨e1,_⟩:=hok2.each q hq
    cases q with
    |nil=>exact absurd rfl e1
    |cons j q=>exact List.mem_cons_self
   have hpw:(r :: qs).Pairwise fun a b=>headI a<headI b:=by
    have hnd:=hok2.once
    rw [List.Nodup,List.pairwise_flatten] at hnd
    refine (hsort.and hnd.2).imp_of_mem fun {a b} ha hb h=>?_
    have h1:=h.1
    simp only [decide_eq_true_eq] at h1
    have h2:=h.2 (headI a) (hhead a ha) (headI b) (hhead b hb)
    omega
   obtain ⟨e1,e2⟩:=hok2.each r List.mem_cons_self
   have hpos:=(times_ok hx hm e2).1 _ (hhead r List.mem_cons_self)
   have hcars:=hok2.cars
   rw [List.length_cons] at hcars
   refine yard_fwd hx hm h0 qs r x.rootS (by rw [hroot];rfl) (by rw [hroot];rfl) (by rw [hroot];rfl) (by rw [hroot]) (good_root hx hm) (by rw [hroot];show (1:Int)≤1;omega) (by rw [hroot];show (1:Int)+(qs.length:Int)≤x.cars;omega) hok2.each hok2.once
    (fun i _=>by rw [hroot];exact Nat.zero_testBit i) (fun i i1 i2=>.inr (hok2.all i i1 i2)) (by rw [hroot];show (0:Int)<headI r;omega) hpw
end Go.Proofs.YtnoifgjiipgpoaaGreat

set_option maxRecDepth 4000
namespace Go.Proofs.YtnoifgjiipgpoaaGreat
open Go Go.Proofs.YtnoifgjiipgpoaaGreat.R
structure Track (x:Inst) (n:Node):Prop where
 goes:x.goes n.path x.rootS 0=some (n.s,n.cost)
 is:n.s.Is n.s.spot
 cost:0≤n.cost∧n.cost≤14143*(n.path.length:Int)
 len:n.path.length+x.meas n.s≤x.meas x.rootS
theorem track_root {x:Inst} (hm:x.may=true):Track x x.rootN:=
 ⟨rfl,⟨rfl,rootS_ok x,pos_root hm,seen_root x⟩,by simp [Inst.rootN],by simp [Inst.rootN]⟩
theorem Track.few {x:Inst} {n:Node} (h:Track x n):n.path.length≤40:=by
 have:=h.len
 have:=meas_le x x.rootS
 omega
theorem Track.child {x:Inst} {n:Node} (h:Track x n) {j:Int} (hj:(x.move n.s j).2.2=true):Track x (x.child n j):=by
 have hc:=move_cost hj
 have hl:=h.cost
 have hf:=h.few
 have e:(x.child n j).cost=n.cost+(x.move n.s j).2.1:=sumI_two hl.1 hc.1 (by omega)
 have hm:=meas_move hj
 have hlen:(n.path++[j]).length=n.path.length+1:=by simp
 refine ⟨?_,h.is.move hj,?_,?_⟩
 ·show x.goes (n.path++[j]) x.rootS 0=some ((x.move n.s j).1,(x.child n j).cost)
  rw [goes_app,h.goes,Option.bind_some]
  show x.goes [j] n.s n.cost=_
  rw [Inst.goes,if_pos hj,w64 _ (by omega),e]
  rfl
 ·rw [e]
  show _∧_≤14143*((n.path++[j]).length:Int)
  rw [hlen]
  omega
 ·show (n.path++[j]).length+x.meas (x.move n.s j).1≤_
  rw [hlen]
  have:=h.len
  omega
theorem layN_track {x:Inst} {n:Node} (h:Track x n) (up:Int):∀(k:Nat),∀m∈x.layN up n k,Track x m∧m.path.length=n.path.length+k
 |0,m,hm=>by rw [List.mem_singleton.1 hm];exact ⟨h,rfl⟩
 |k+1,m,hm=>by
  obtain ⟨q,hq,j,hj,rfl,_⟩:=next_mem hm
  obtain ⟨h1,h2⟩:=layN_track h up k q hq
  refine ⟨h1.child (moves_mem hj),?_⟩
  show (q.path++[j]).length=_
  rw [List.length_append,h2]
  simp only [List.length_cons,List.length_nil]
  omega
theorem Track.wl {x:Inst} {l:List Node} (h:∀n∈l,Track x n) {r:Nat} (hr:r≤1000):WL x l r:=
 ⟨fun n hn=>(h n hn).is,fun n hn=>by have:=(h n hn).cost;have:=(h n hn).few;omega⟩
theorem Track.way {x:Inst} {n:Node} (h:Track x n) {v:List Int} {c:Int} (hv:x.way v n.s c):x.way (n.path++v) x.rootS (n.cost+c):=by
 have hf:=h.few
 have:=way_app (c0:=0) (by omega) (by omega) h.goes hv
 rwa [show n.cost-0+c=n.cost+c by omega] at this
theorem deep_may {x:Inst} (hm:x.may=true):x.deep=2*x.pairs+x.cars-1:=by rw [Inst.deep,if_pos hm]
theorem deep_meas {x:Inst} (hm:x.may=true):(x.meas x.rootS:Int)≤x.deep∧x.deep≤39:=by
 obtain ⟨p,hx⟩:=x.fit hm
 have h1:=meas_rootC hx hm
 have:=hx.pairs
 have:=hx.few
 have:=hx.cars
 rw [deep_may hm]
 omega
theorem build_way {x:Inst} (hst:x.stops.length<2^31) (hm:x.may=true) {n:Node} (h:Track x n) (w up:Int) {v:List Int} {c:Int} (hv:x.way v n.s c) (hlt:n.cost+c<up):(x.build n w up).low≤n.cost+c:=by
 have h1:=deep_meas hm
 have h2:=way_len hv
 have h3:=h.len
 rw [Inst.build]
 exact buildGo_way hst w up _ _ _ _ _ _ (Track.wl (fun m hm=>by rw [List.mem_singleton.1 hm];exact h) (by omega)) n List.mem_cons_self v c hv hlt (by simp only [List.length_nil];omega) (by omega)
theorem build_ok (x:Inst) (n:Node) (w up:Int):(x.build n w up).Ok x up n:=by
 rw [Inst.build]
 refine buildGo_sure w up _ n _ _ _ _ _ ⟨fun i hi=>by simp at hi,by simp⟩ (fun _=>rfl) (fun k hk=>by cases hk) (fun _=>by simp) (by omega) (fun k hk=>by cases hk) ?_ (.inr rfl)
 simp only [List.length_nil]
 omega
theorem build_lay {x:Inst} (n:Node) (w up:Int) (h:1≤x.mostN w):∀k∈(x.build n w up).layers.drop 1,k≠[]∧k.length≤x.mostN w:=
 buildGo_lay w up _ _ _ _ _ _ (by simpa using h) (fun k hk=>by simp at hk)
theorem build_count (x:Inst) (n:Node) (w up:Int):((x.build n w up).layers.length:Int)≤max 1 (x.deep-n.path.length+1):=by
 have:=buildGo_count (x:=x) w up (x.deep-n.path.length) ((x.deep-n.path.length).toNat+2) [] up none [n]
 rw [Inst.build]
 simp only [List.length_nil] at this
 omega
end Go.Proofs.YtnoifgjiipgpoaaGreat

set_option maxRecDepth 4000
namespace Go.Proofs.YtnoifgjiipgpoaaGreat
open Go Go.Proofs.YtnoifgjiipgpoaaGreat.R
structure Ent where
 bound:Int
 depth:Int
 no:Nat
 deriving DecidableEq
structure SS where
 subs:List Node
 q:List Ent
 up:Int
 plan:List (List Int)
 steps:Int
 log:List (Node×Diag)
def SS.offer (s:SS) (b:Node×Bool):SS:=if b.2=true∧b.1.cost<s.up then {s with up:=b.1.cost,plan:=(splitR b.1.path).1} else s
def Inst.push (x:Inst) (low:Int) (s:SS) (n:Node):SS:=
 if max low (x.of n)<s.up then {s with q:=s.q++[⟨max low (x.of n),n.path.length,s.subs.length⟩],subs:=s.subs++[n]} else s
def Inst.offers (x:Inst) (s:SS) (ls:List (List Node)):SS:=ls.foldl (fun s l=>s.offer (x.bests l)) s
def Inst.branch (x:Inst) (d:Diag) (s:SS):SS:=(d.layers.getD (d.sure-1) []).foldl (x.push d.low) (x.offers s (d.layers.take (d.sure-1)))
def sizes (ls:List (List Node)):Nat:=(ls.map List.length).sum
def SS.plus (s:SS) (k:Int):SS:={s with steps:=s.steps+k}
def SS.nar (x:Inst) (w:Int) (s:SS) (n:Node):SS:=(s.plus (x.narrow n w s.up).2.2).offer ((x.narrow n w s.up).1,(x.narrow n w s.up).2.1)
def SS.dia (s:SS) (n:Node) (d:Diag):SS:={s with steps:=s.steps+sizes d.layers,log:=s.log++[(n,d)]}
def SS.exa (x:Inst) (w:Int) (s:SS) (n:Node):SS:=(s.plus (x.exact n s.up (x.mostN w)).2.2.2).offer ((x.exact n s.up (x.mostN w)).1,(x.exact n s.up (x.mostN w)).2.1)
def Inst.lookD (x:Inst) (w:Int) (s:SS) (n:Node) (d:Diag):SS:=if s.up≤d.low then s.dia n d else if d.exact=true then (s.dia n d).exa x w n else x.branch d (s.dia n d)
def Inst.lookS (x:Inst) (w:Int) (s:SS) (n:Node):SS:=x.lookD w (s.nar x w n) n (x.build n w (s.nar x w n).up)
def Inst.goesOn (x:Inst) (n:Node) (c:Int):Prop:=∃v d,x.way v n.s d∧n.cost+d≤c
structure Found (x:Inst) (s:SS):Prop where
 le:s.up≤inf
 plan:s.up<inf→x.cost s.plan=(s.up,0)
structure SInv (x:Inst) (s:SS):Prop where
 track:∀n∈s.subs,Track x n
 nos:∀e∈s.q,∃n,s.subs[e.no]? =some n
 bound:∀e∈s.q,∀n,s.subs[e.no]? =some n→∀v c,x.way v n.s c→n.cost+c<s.up→e.bound≤n.cost+c
 found:Found x s
def SS.Covers (x:Inst) (s:SS) (more:Int→Prop):Prop:=∀v c,x.way v x.rootS c→c<s.up→more c∨∃e∈s.q,∃n,s.subs[e.no]? =some n∧x.goesOn n c
theorem offer_up (s:SS) (b:Node×Bool):(s.offer b).up≤s.up∧(s.offer b).subs=s.subs∧(s.offer b).q=s.q∧(s.offer b).log=s.log∧(s.offer b).steps=s.steps:=by
 unfold SS.offer
 split
 ·rename_i h
  exact ⟨Int.le_of_lt h.2,rfl,rfl,rfl,rfl⟩
 ·exact ⟨Int.le_refl _,rfl,rfl,rfl,rfl⟩
theorem offer_gets (s:SS) (b:Node×Bool) (h:b.2=true):(s.offer b).up≤b.1.cost:=by
 unfold SS.offer
 split
 ·exact Int.le_refl _
 ·rename_i hn
  simp only [h,true_and] at hn
  omega
def Inst.isWay (x:Inst) (b:Node×Bool):Prop:=b.2=true→x.way b.1.path x.rootS b.1.cost
theorem way_few {x:Inst} {v:List Int} {c:Int} (h:x.way v x.rootS c):0≤c∧c<inf:=by
 have h1:=way_in h
 have h2:=way_len h
 have h3:=meas_le x x.rootS
 have:inf=1152921504606846976:=rfl
 omega
theorem Found.offer {x:Inst} (hm:x.may=true) {s:SS} (h:Found x s) {b:Node×Bool} (hb:x.isWay b):Found x (s.offer b):=by
 unfold SS.offer
 split
 ·rename_i hc
  have hw:=hb hc.1
  exact ⟨Int.le_of_lt (way_few hw).2,fun _=>(tour_plain hm hw).2⟩
 ·exact h
theorem SInv.offer {x:Inst} (hm:x.may=true) {s:SS} (h:SInv x s) {b:Node×Bool} (hb:x.isWay b):SInv x (s.offer b):=by
 obtain ⟨h1,h2,h3,h4,h5⟩:=offer_up s b
 refine ⟨by rw [h2];exact h.track,by rw [h2,h3];exact h.nos,?_,h.found.offer hm hb⟩
 rw [h2,h3]
 exact fun e he n hn v c hv hc=>h.bound e he n hn v c hv (by omega)
theorem Covers.offer {x:Inst} {s:SS} {more:Int→Prop} (h:s.Covers x more) (b:Node×Bool):(s.offer b).Covers x more:=by
 obtain ⟨h1,h2,h3,h4,h5⟩:=offer_up s b
 intro v c hv hc
 rw [h2,h3]
 exact h v c hv (by omega)
theorem layN_way {x:Inst} {n:Node} (h:Track x n) (up:Int):∀(k:Nat),∀m∈x.layN up n k,∀v c,x.way v m.s c→∃u,x.way (u++v) n.s (m.cost-n.cost+c)
 |0,m,hm,v,c,hv=>by
  rw [List.mem_singleton.1 hm] at hv ⊢
  exact ⟨[],by rw [show n.cost-n.cost+c=c by omega];exact hv⟩
 |k+1,m,hm,v,c,hv=>by
  obtain ⟨q,hq,j,hj,rfl,_⟩:=next_mem hm
  have hj:=moves_mem hj
  have ht:=(layN_track h up k q hq).1
  have hcc:(x.child q j).cost=q.cost+(x.move q.s j).2.1:=by
   have:=ht.cost
   have:=ht.few
   have:=move_cost hj
   exact sumI_two (by omega) (by omega) (by omega)
  obtain ⟨u,hu⟩:=layN_way h up k q hq (j :: v) ((x.move q.s j).2.1+c) ⟨hj,c,hv,rfl⟩
  refine ⟨u++[j],?_⟩
  rw [List.append_assoc,hcc,show q.cost+(x.move q.s j).2.1-n.cost+c=q.cost-n.cost+((x.move q.s j).2.1+c) by omega]
  exact hu
theorem of_way {x:Inst} (hst:x.stops.length<2^31) {n:Node} (h:Track x n) {v:List Int} {c:Int} (hv:x.way v n.s c):x.of n≤n.cost+c:=by
 have h1:=way_low h.is.seen hv
 have h2:=way_in hv
 have h3:=way_len hv
 have h4:=meas_le x n.s
 have h5:=h.cost
 have h6:=h.few
 exact move_seen_low hst n (n.cost+c) h5.1 (by omega) (by omega)
theorem push_or (x:Inst) (low:Int) (s:SS) (n:Node):(x.push low s n=s∧s.up≤max low (x.of n))∨(max low (x.of n)<s.up∧x.push low s n={s with q:=s.q++[⟨max low (x.of n),n.path.length,s.subs.length⟩],subs:=s.subs++[n]}):=by
 unfold Inst.push
 split
 ·rename_i h;exact .inr ⟨h,rfl⟩
 ·rename_i h;exact .inl ⟨rfl,by omega⟩
theorem get_old {α:Type} {l m:List α} {i:Nat} {a:α} (h:l[i]? =some a):(l++m)[i]? =some a:=by
 have:=(List.getElem?_eq_some_iff.1 h).1
 rw [List.getElem?_append_left this];exact h
theorem SInv.push {x:Inst} {s:SS} (h:SInv x s) (low:Int) {n:Node} (ht:Track x n) (hb:∀v c,x.way v n.s c→n.cost+c<s.up→max low (x.of n)≤n.cost+c):SInv x (x.push low s n):=by
 rcases push_or x low s n with ⟨e,_⟩ | ⟨_,e⟩
 ·rw [e];exact h
 rw [e]
 have hlast:(s.subs++[n])[s.subs.length]? =some n:=by simp
 refine ⟨fun m hm=>?_,fun f hf=>?_,fun f hf m hm v c hv hc=>?_,⟨h.found.le,h.found.plan⟩⟩
 ·rcases List.mem_append.1 hm with hm | hm
  ·exact h.track m hm
  ·rw [List.mem_singleton.1 hm];exact ht
 ·rcases List.mem_append.1 hf with hf | hf
  ·obtain ⟨m,hm⟩:=h.nos f hf
   exact ⟨m,get_old hm⟩
  ·rw [List.mem_singleton.1 hf];exact ⟨n,hlast⟩
 ·rcases List.mem_append.1 hf with hf | hf
  ·obtain ⟨m',hm'⟩:=h.nos f hf
   have:=get_old (m:=[n]) hm'
   have he:m'=m:=Option.some.inj (this.symm.trans hm)
   rw [he] at hm'
   exact h.bound f hf m hm' v c hv hc
  ·rw [List.mem_singleton.1 hf] at hm ⊢
   simp only at hm ⊢
   rw [hlast] at hm
   cases hm
   exact hb v c hv hc
theorem push_up (x:Inst) (low:Int) (s:SS) (n:Node):(x.push low s n).up=s.up∧(x.push low s n).log=s.log∧(x.push low s n).steps=s.steps:=by
 unfold Inst.push
 split<;>exact ⟨rfl,rfl,rfl⟩
theorem push_has {x:Inst} {low:Int} {s:SS} {n:Node} {c:Int} (hg:x.goesOn n c) (hb:max low (x.of n)<s.up):∃e∈(x.push low s n).q,∃m,(x.push low s n).subs[e.no]? =some m∧x.goesOn m c:=by
 rcases push_or x low s n with ⟨_,e⟩ | ⟨_,e⟩
 ·omega
 ·rw [e]
  exact ⟨_,List.mem_append_right _ (List.mem_singleton.2 rfl),n,by simp,hg⟩
theorem push_keeps {x:Inst} {low:Int} {s:SS} {n:Node} {c:Int} (h:∃e∈s.q,∃m,s.subs[e.no]? =some m∧x.goesOn m c):∃e∈(x.push low s n).q,∃m,(x.push low s n).subs[e.no]? =some m∧x.goesOn m c:=by
 rcases push_or x low s n with ⟨e,_⟩ | ⟨_,e⟩
 ·rw [e];exact h
 ·rw [e]
  obtain ⟨f,hf,m,hm,hg⟩:=h
  exact ⟨f,List.mem_append_left _ hf,m,get_old hm,hg⟩
theorem pushes_up (x:Inst) (low:Int):∀(l:List Node) (s:SS),(l.foldl (x.push low) s).up=s.up∧(l.foldl (x.push low) s).log=s.log∧(l.foldl (x.push low) s).steps=s.steps
 |[],s=>⟨rfl,rfl,rfl⟩
 |n :: l,s=>by
  obtain ⟨h1,h2,h3⟩:=pushes_up x low l (x.push low s n)
  obtain ⟨k1,k2,k3⟩:=push_up x low s n
  exact ⟨h1.trans k1,h2.trans k2,h3.trans k3⟩
theorem pushes_inv {x:Inst} (low:Int):∀(l:List Node) (s:SS),SInv x s→(∀n∈l,Track x n∧∀v c,x.way v n.s c→n.cost+c<s.up→max low (x.of n)≤n.cost+c)→SInv x (l.foldl (x.push low) s)
 |[],s,h,_=>h
 |n :: l,s,h,hl=>by
  obtain ⟨h1,h2⟩:=hl n List.mem_cons_self
  refine pushes_inv low l (x.push low s n) (h.push low h1 h2) fun m hm=>?_
  rw [(push_up x low s n).1]
  exact hl m (List.mem_cons_of_mem _ hm)
theorem pushes_keep {x:Inst} (low:Int):∀(l:List Node) (s:SS) (c:Int),(∃e∈s.q,∃m,s.subs[e.no]? =some m∧x.goesOn m c)→∃e∈(l.foldl (x.push low) s).q,∃m,(l.foldl (x.push low) s).subs[e.no]? =some m∧x.goesOn m c
 |[],s,c,h=>h
 |n :: l,s,c,h=>pushes_keep low l (x.push low s n) c (push_keeps h)
theorem pushes_has {x:Inst} (low:Int):∀(l:List Node) (s:SS) (c:Int) (n:Node),n∈l→x.goesOn n c→max low (x.of n)<s.up→∃e∈(l.foldl (x.push low) s).q,∃m,(l.foldl (x.push low) s).subs[e.no]? =some m∧x.goesOn m c
 |m :: l,s,c,n,hn,hg,hb=>by
  rcases List.mem_cons.1 hn with rfl | hn
  ·exact pushes_keep low l _ c (push_has hg hb)
  ·exact pushes_has low l (x.push low s m) c n hn hg (by rw [(push_up x low s m).1];exact hb)
end Go.Proofs.YtnoifgjiipgpoaaGreat

set_option maxRecDepth 4000
namespace Go.Proofs.YtnoifgjiipgpoaaGreat
open Go Go.Proofs.YtnoifgjiipgpoaaGreat.R
theorem front1_sub (F:List Node) (c:Node):(front1 F c).Sublist (F++[c]):=by
 unfold front1
 split
 ·exact List.sublist_append_left _ _
 ·exact (List.filter_sublist).append (List.Sublist.refl _)
theorem front_subl:∀(l pre F:List Node),F.Sublist pre→(l.foldl front1 F).Sublist (pre++l)
 |[],pre,F,h=>by rw [List.append_nil];exact h
 |c :: l,pre,F,h=>by
  have:=front_subl l (pre++[c]) (front1 F c) ((front1_sub F c).trans (h.append (List.Sublist.refl _)))
  rw [List.append_assoc] at this
  exact this
theorem front_sub (l:List Node):(frontL l).Sublist l:=front_subl l [] [] (List.Sublist.refl _)
theorem next_nodup (x:Inst) (l:List Node) (up:Int):((x.next l up).map Node.s).Nodup:=onceL_nodup _
def Under (l m:List Node):Prop:=∀n∈l,∃k∈m,k.s=n.s∧k.cost≤n.cost
theorem under_len {l m:List Node} (hl:(l.map Node.s).Nodup) (h:Under l m):l.length≤m.length:=by
 have:=nodup_len (l.map Node.s) (m.map Node.s) hl fun s hs=>by
  obtain ⟨n,hn,rfl⟩:=List.mem_map.1 hs
  obtain ⟨k,hk,e,_⟩:=h n hn
  exact List.mem_map.2 ⟨k,hk,e⟩
 simpa using this
theorem of_less {x:Inst} {n m:Node} {d:Nat} {l:List Node} (hs:m.s=n.s) (hc:0≤m.cost) (hle:m.cost≤n.cost) (hn:n.cost≤1152921504606846976):x.of m≤x.of n:=by
 rw [Inst.of,Inst.of,hs]
 simp only [sumI,List.foldl_cons,List.foldl_nil,sum1]
 omega
theorem under_next {x:Inst} {l m:List Node} {d e:Nat} (hl:Lev x l (d+1)) (hm:Lev x m (e+1)) (h:Under l m) {up up':Int} (hu:up≤up'):Under (x.next l up) (x.next m up'):=by
 intro c hc
 obtain ⟨n,hn,j,hj,rfl,hof⟩:=next_mem hc
 obtain ⟨k,hk,e1,e2⟩:=h n hn
 have hmv:=moves_mem hj
 have hmv':(x.move k.s j).2.2=true:=by rw [e1];exact hmv
 have c1:=child_cost hl hn hmv
 have c2:=child_cost hm hk hmv'
 have hs:(x.child k j).s=(x.child n j).s:=by show (x.move k.s j).1=(x.move n.s j).1;rw [e1]
 have h3:=hl.cost n hn
 have h4:=hm.cost k hk
 have h5:=move_cost hmv
 have hcc:(x.child k j).cost≤(x.child n j).cost:=by rw [c1,c2,e1];omega
 have hof2:x.of (x.child k j)<up':=by
  have:=of_less (x:=x) (d:=0) (l:=[]) hs (by rw [c2,e1];omega) hcc (by rw [c1];omega)
  omega
 obtain ⟨q,q1,q2,q3⟩:=onceL_has (l:=m.flatMap (x.kids up')) (k:=x.child k j) (by
  refine List.mem_flatMap.2 ⟨k,hk,?_⟩
  rw [Inst.kids,List.mem_filter]
  exact ⟨List.mem_map.2 ⟨j,mem_moves hmv',rfl⟩,by simpa using hof2⟩)
 exact ⟨q,q1,q2.trans hs,by omega⟩
theorem layN_lev {x:Inst} {n:Node} (h:Track x n) (up:Int) (k:Nat):Lev x (x.layN up n k) 41:=(Track.wl (fun m hm=>(layN_track h up k m hm).1) (r:=0) (by omega)).lev
theorem exGo_whole {x:Inst} {n:Node} (ht:Track x n) {up:Int} {most:Int} (hw:∀k,((x.layN up n k).length:Int)≤most):∀(d:Nat) (st:Node×Bool×Int) (l:List Node) (s:Int) (k:Nat),Lev x l d→stOk st→st.2.2≤up→(l.map Node.s).Nodup→Under l (x.layN up n k)→
  (x.exGo most d st l s).2.2.1=true
 |0,st,l,s,k,_,_,_,_,_=>rfl
 |d+1,st,l,s,k,hl,h,hu,hn,hun=>by
  rw [Inst.exGo]
  split
  ·rfl
  have hlen:=under_len hn hun
  have:=hw k
  rw [if_neg (by omega)]
  obtain ⟨k1,k2,k3⟩:=look_ok (x:=x) (l:=l) h
  refine exGo_whole ht hw d (x.look st l) _ _ (k+1) (hl.front st.2.2) k1 (by omega) ?_ ?_
  ·exact (next_nodup x l st.2.2).sublist ((front_sub _).map _)
  ·intro c hc
   exact under_next hl (layN_lev ht up k) hun hu c ((front_sub _).subset hc)
theorem buildGo_end {x:Inst} (w up dp:Int) (n:Node):∀(f:Nat) (ls:List (List Node)) (low:Int) (sq:Option Nat) (l:List Node),(sq=none→l=x.layN up n ls.length)→dp+2≤(f:Int)+ls.length→1≤f→(x.buildGo w up dp f ls low sq l).exact=true→
  x.layN up n (x.buildGo w up dp f ls low sq l).layers.length=[]∨dp<(x.buildGo w up dp f ls low sq l).layers.length
 |0,ls,low,sq,l,_,_,h,_=>absurd h (by omega)
 |f+1,ls,low,sq,l,hn,hf,_,he=>by
  rw [Inst.buildGo] at he ⊢
  split
  ·rename_i c0
   rw [if_pos c0] at he
   simp only [Diag.of,Option.isNone_iff_eq_none] at he
   refine .inl ?_
   show x.layN up n ls.length=[]
   rw [←hn he,c0]
  rename_i c0
  rw [if_neg c0] at he
  split
  ·rename_i c1
   refine .inr ?_
   show dp<((ls++[l]).length:Int)
   rw [List.length_append]
   exact c1
  rename_i c1
  rw [if_neg c1] at he
  have hlen:(ls++[l]).length=ls.length+1:=by simp
  split
  ·rename_i c2
   rw [if_pos c2] at he
   exact buildGo_end w up dp n f _ _ _ _ (fun h=>by cases h) (by omega) (by omega) he
  ·rename_i c2
   rw [if_neg c2] at he
   exact buildGo_end w up dp n f _ _ _ _ (fun h=>by rw [hlen,hn h];rfl) (by omega) (by omega) he
theorem layN_nil {x:Inst} {up:Int} {n:Node} {k:Nat} (h:x.layN up n k=[]):∀i,x.layN up n (k+i)=[]
 |0=>h
 |i+1=>by
  show x.next (x.layN up n (k+i)) up=[]
  rw [layN_nil h i]
  rfl
theorem build_thin {x:Inst} (hm:x.may=true) {n:Node} (h:Track x n) (w up:Int) (he:(x.build n w up).exact=true) (k:Nat):(x.layN up n k).length≤x.mostN w:=by
 have hok:=build_ok x n w up
 have hw:=hok.whole
 rw [he] at hw
 have hs:(x.build n w up).sure=(x.build n w up).layers.length:=of_decide_eq_true hw.symm
 have h1:1≤x.mostN w:=by
  have:1≤x.stops.length:=by
   obtain ⟨p,hx⟩:=x.fit hm
   have:=hx.len
   omega
  unfold Inst.mostN
  omega
 by_cases hk:k<(x.build n w up).layers.length
 ·have h2:=hok.lay k (by omega)
  cases k with
  |zero=>exact h1
  |succ k=>
   refine (build_lay n w up h1 (x.layN up n (k+1)) ?_).2
   rw [List.getElem?_eq_getElem hk] at h2
   rw [←Option.some.inj h2]
   rw [List.mem_drop_iff_getElem]
   exact ⟨k,by omega,by simp only [Nat.add_comm 1 k]⟩
 ·have hend:=buildGo_end (x:=x) w up (x.deep-n.path.length) n ((x.deep-n.path.length).toNat+2) [] up none [n] (fun _=>rfl) (by simp only [List.length_nil];omega) (by omega) he
  rw [←Inst.build] at hend
  rcases hend with h3 | h3
  ·obtain ⟨i,rfl⟩:∃i,k=(x.build n w up).layers.length+i:=⟨k-(x.build n w up).layers.length,by omega⟩
   rw [layN_nil h3 i]
   exact Nat.zero_le _
  ·cases hl:x.layN up n k with
   |nil=>exact Nat.zero_le _
   |cons m l=>
    have hmm:m∈x.layN up n k:=by rw [hl];exact List.mem_cons_self
    obtain ⟨t1,t2⟩:=layN_track h up k m hmm
    have:=t1.len
    have:=(deep_meas hm).1
    omega
theorem exact_whole {x:Inst} (hm:x.may=true) {n:Node} (h:Track x n) (w:Int) {up u:Int} (hu:u≤up) (he:(x.build n w up).exact=true):(x.exact n u (x.mostN w)).2.2.1=true:=by
 have hc:=h.cost
 have hf:=h.few
 refine exGo_whole h (up:=up) (fun k=>by have:=build_thin hm h w up he k;omega) _ (Node.zero,false,u) [n] 0 0 (Lev.root h.is.ok h.is.pos h.is.seen (by omega)) (fun h=>by cases h) hu (by simp) ?_
 intro m hm
 exact ⟨n,List.mem_cons_self,by rw [List.mem_singleton.1 hm],by rw [List.mem_singleton.1 hm];exact Int.le_refl _⟩
end Go.Proofs.YtnoifgjiipgpoaaGreat

set_option maxRecDepth 4000
namespace Go.Proofs.YtnoifgjiipgpoaaGreat
open Go Go.Proofs.YtnoifgjiipgpoaaGreat.R
theorem SInv.like {x:Inst} {s t:SS} (h:SInv x s) (h1:t.subs=s.subs) (h2:t.q=s.q) (h3:t.up=s.up) (h4:t.plan=s.plan):SInv x t:=by
 obtain ⟨a,b,c,d,e,f⟩:=s
 obtain ⟨a',b',c',d',e',f'⟩:=t
 simp only at h1 h2 h3 h4
 subst h1;subst h2;subst h3;subst h4
 exact ⟨h.track,h.nos,h.bound,⟨h.found.le,h.found.plan⟩⟩
theorem Covers.like {x:Inst} {s t:SS} {more:Int→Prop} (h:s.Covers x more) (h1:t.subs=s.subs) (h2:t.q=s.q) (h3:t.up=s.up):t.Covers x more:=by
 intro v c hv hc
 rw [h1,h2]
 exact h v c hv (by omega)
theorem Track.fit {x:Inst} {n:Node} (h:Track x n):0≤n.cost∧n.cost≤1152921504606000000:=by
 have:=h.cost
 have:=h.few
 omega
theorem narrow_isWay {x:Inst} {n:Node} (h:Track x n) (w up:Int):x.isWay ((x.narrow n w up).1,(x.narrow n w up).2.1):=by
 intro hs
 obtain ⟨v,c,h1,h2,h3,_⟩:=narrow_from h.is.ok h.is.pos h.is.seen h.fit hs
 simp only
 rw [h2,h3]
 exact h.way h1
theorem exact_isWay {x:Inst} {n:Node} (h:Track x n) (most up:Int):x.isWay ((x.exact n up most).1,(x.exact n up most).2.1):=by
 intro hs
 obtain ⟨v,c,h1,h2,h3,_⟩:=exact_from h.is.ok h.is.pos h.is.seen h.fit hs
 simp only
 rw [h2,h3]
 exact h.way h1
theorem bests_isWay {x:Inst} {l:List Node} (h:∀m∈l,Track x m):x.isWay (x.bests l):=by
 intro hs
 obtain ⟨m,hm,b1,b2,b3⟩:=bests_from hs
 have ht:=h m hm
 have hf:=ht.fit
 have hec:=end_cost b1
 rw [sumI_two hf.1 hec.1 (by omega)] at b2
 have:=ht.way (v:=[]) (c:=(x.endS m.s).1) ⟨b1,rfl⟩
 rw [List.append_nil,←b2,←b3] at this
 exact this
theorem offers_up (x:Inst):∀(ls:List (List Node)) (s:SS),(x.offers s ls).up≤s.up∧(x.offers s ls).subs=s.subs∧(x.offers s ls).q=s.q∧(x.offers s ls).log=s.log∧(x.offers s ls).steps=s.steps
 |[],s=>⟨Int.le_refl _,rfl,rfl,rfl,rfl⟩
 |l :: ls,s=>by
  obtain ⟨h1,h2,h3,h4,h5⟩:=offers_up x ls (s.offer (x.bests l))
  obtain ⟨k1,k2,k3,k4,k5⟩:=offer_up s (x.bests l)
  exact ⟨Int.le_trans h1 k1,h2.trans k2,h3.trans k3,h4.trans k4,h5.trans k5⟩
theorem offers_gets (x:Inst):∀(ls:List (List Node)) (s:SS),∀l∈ls,(x.bests l).2=true→(x.offers s ls).up≤(x.bests l).1.cost
 |[],s,l,hl,_=>by cases hl
 |k :: ls,s,l,hl,hb=>by
  rcases List.mem_cons.1 hl with rfl | hl
  ·exact Int.le_trans (offers_up x ls _).1 (offer_gets s _ hb)
  ·exact offers_gets x ls _ l hl hb
theorem offers_inv {x:Inst} (hm:x.may=true):∀(ls:List (List Node)) (s:SS),SInv x s→(∀l∈ls,∀m∈l,Track x m)→SInv x (x.offers s ls)
 |[],s,h,_=>h
 |l :: ls,s,h,hl=>offers_inv hm ls _ (h.offer hm (bests_isWay (hl l List.mem_cons_self))) fun k hk=>hl k (List.mem_cons_of_mem _ hk)
theorem offers_cov {x:Inst} {more:Int→Prop}:∀(ls:List (List Node)) (s:SS),s.Covers x more→(x.offers s ls).Covers x more
 |[],s,h=>h
 |l :: ls,s,h=>offers_cov ls _ (Covers.offer h _)
theorem layN_goes {x:Inst} (hst:x.stops.length<2^31) {n:Node} (h:Track x n) {up c:Int} (hg:x.goesOn n c) (hc:c<up):∀(k:Nat),(∀i,i<k→(x.bests (x.layN up n i)).2=true→c<(x.bests (x.layN up n i)).1.cost)→∃m∈x.layN up n k,x.goesOn m c
 |0,_=>⟨n,List.mem_cons_self,hg⟩
 |k+1,hno=>by
  obtain ⟨m,hm,v,d,hv,hd⟩:=layN_goes hst h hg hc k fun i hi=>hno i (by omega)
  have hl:=layN_lev h up k
  match v,hv with
  |[],hv=>
   obtain ⟨b1,b2⟩:=bests_has hm hv.1
   rw [end_sum hl hm hv.1,←hv.2] at b2
   have:=hno k (by omega) b1
   omega
  |j :: v,hv=>
   obtain ⟨g1,e,g2,g3⟩:=hv
   obtain ⟨q,hq,q1,q2⟩:=next_way hst hl hm g1 g2 (up:=up) (by omega)
   exact ⟨q,hq,v,e,by rw [q1];exact g2,by omega⟩
theorem sure_get {x:Inst} {up:Int} {n:Node} {d:Diag} (h:d.Ok x up n) {i:Nat} (hi:i<d.sure):∃hl:i<d.layers.length,d.layers[i]=x.layN up n i:=by
 have:=h.lay i hi
 have hl:i<d.layers.length:=by have:=h.le;omega
 rw [List.getElem?_eq_getElem hl] at this
 exact ⟨hl,Option.some.inj this⟩
theorem branch_ok {x:Inst} (hst:x.stops.length<2^31) (hm:x.may=true) {n:Node} (ht:Track x n) (w:Int) {s:SS} (h:SInv x s) (hc:s.Covers x (x.goesOn n)):SInv x (x.branch (x.build n w s.up) s)∧(x.branch (x.build n w s.up) s).Covers x fun _=>False:=by
 have hok:=build_ok x n w s.up
 have hbw:=fun (v:List Int) (c:Int) (hv:x.way v n.s c)=>build_way hst hm ht w s.up hv
 generalize x.build n w s.up=d at *
 rw [Inst.branch]
 have hpos:=hok.pos
 obtain ⟨hl,hlast⟩:=sure_get hok (i:=d.sure-1) (by omega)
 rw [List.getD_eq_getElem?_getD,List.getElem?_eq_getElem hl,Option.getD_some,hlast]
 have hin:∀l∈d.layers.take (d.sure-1),∃i,i<d.sure-1∧l=x.layN s.up n i:=by
  intro l hl
  obtain ⟨i,hi,e⟩:=List.getElem_of_mem hl
  rw [List.length_take] at hi
  obtain ⟨hl2,e2⟩:=sure_get hok (i:=i) (by omega)
  refine ⟨i,by omega,?_⟩
  rw [←e,List.getElem_take,e2]
 have hof:∀i,i<d.sure-1→x.layN s.up n i∈d.layers.take (d.sure-1):=by
  intro i hi
  obtain ⟨hl2,e2⟩:=sure_get hok (i:=i) (by omega)
  rw [←e2]
  exact List.mem_take_iff_getElem.2 ⟨i,by omega,rfl⟩
 have h3:=offers_inv hm (d.layers.take (d.sure-1)) s h fun l hl m hmm=>by
  obtain ⟨i,_,rfl⟩:=hin l hl
  exact (layN_track ht s.up i m hmm).1
 have hc3:=offers_cov (d.layers.take (d.sure-1)) s hc
 have hup:=(offers_up x (d.layers.take (d.sure-1)) s).1
 have hget:=fun i hi=>offers_gets x (d.layers.take (d.sure-1)) s _ (hof i hi)
 generalize x.offers s (d.layers.take (d.sure-1))=t at *
 refine ⟨pushes_inv d.low _ t h3 fun m hmm=>?_,fun v c hv hcl=>?_⟩
 ·have htm:=(layN_track ht s.up _ m hmm).1
  refine ⟨htm,fun v c hv hlt=>?_⟩
  have h4:=of_way hst htm hv
  obtain ⟨u,hu⟩:=layN_way ht s.up _ m hmm v c hv
  have:=hbw _ _ hu (by omega)
  omega
 ·rw [(pushes_up x d.low _ t).1] at hcl
  refine .inr ?_
  rcases hc3 v c hv hcl with hg | hq
  ·obtain ⟨m,hmm,hgm⟩:=layN_goes hst ht hg (up:=s.up) (by omega) (d.sure-1) fun i hi hb=>by
    have:=hget i hi hb
    omega
   obtain ⟨v',d',hv',hd'⟩:=hgm
   have htm:=(layN_track ht s.up _ m hmm).1
   have h4:=of_way hst htm hv'
   obtain ⟨u,hu⟩:=layN_way ht s.up _ m hmm v' d' hv'
   have:=hbw _ _ hu (by omega)
   exact pushes_has d.low _ t c m hmm ⟨v',d',hv',hd'⟩ (by omega)
  ·exact pushes_keep d.low _ t c hq
theorem look_ok2 {x:Inst} (hst:x.stops.length<2^31) (hm:x.may=true) {n:Node} (ht:Track x n) (w:Int) {s:SS} (h:SInv x s) (hc:s.Covers x (x.goesOn n)):SInv x (x.lookS w s n)∧(x.lookS w s n).Covers x fun _=>False:=by
 rw [Inst.lookS]
 have hs1:SInv x (s.nar x w n):=by
  rw [SS.nar]
  exact SInv.offer hm (h.like (t:=s.plus _) rfl rfl rfl rfl) (narrow_isWay ht w s.up)
 have hc1:(s.nar x w n).Covers x (x.goesOn n):=by
  rw [SS.nar]
  exact Covers.offer (Covers.like (t:=s.plus _) hc rfl rfl rfl) _
 generalize s.nar x w n=t at *
 have hbw:=fun (v:List Int) (c:Int) (hv:x.way v n.s c)=>build_way hst hm ht w t.up hv
 have hbr:=branch_ok hst hm ht w (s:=t.dia n (x.build n w t.up)) (hs1.like rfl rfl rfl rfl) (Covers.like hc1 rfl rfl rfl)
 have hex:=exact_whole hm ht w (up:=t.up) (u:=t.up) (Int.le_refl _)
 have hdu:(t.dia n (x.build n w t.up)).up=t.up:=rfl
 rw [hdu] at hbr
 generalize x.build n w t.up=d at *
 have hs2:SInv x (t.dia n d):=hs1.like rfl rfl rfl rfl
 have hc2:(t.dia n d).Covers x (x.goesOn n):=Covers.like hc1 rfl rfl rfl
 rw [Inst.lookD]
 split
 ·rename_i c1
  refine ⟨hs2,fun v c hv hlt=>?_⟩
  rcases hc2 v c hv hlt with ⟨v',d',hv',hd'⟩ | hq
  ·have:=hbw v' d' hv' (by rw [hdu] at hlt;omega)
   rw [hdu] at hlt
   omega
  ·exact .inr hq
 split
 ·rename_i c2
  have hall:=hex c2
  rw [SS.exa,hdu]
  have hs3:SInv x ((t.dia n d).plus (x.exact n t.up (x.mostN w)).2.2.2):=hs2.like rfl rfl rfl rfl
  have hc3:((t.dia n d).plus (x.exact n t.up (x.mostN w)).2.2.2).Covers x (x.goesOn n):=Covers.like hc2 rfl rfl rfl
  have hu3:((t.dia n d).plus (x.exact n t.up (x.mostN w)).2.2.2).up=t.up:=rfl
  generalize (t.dia n d).plus (x.exact n t.up (x.mostN w)).2.2.2=z at *
  refine ⟨hs3.offer hm (exact_isWay ht _ _),fun v c hv hlt=>?_⟩
  have hle:=offer_up z ((x.exact n t.up (x.mostN w)).1,(x.exact n t.up (x.mostN w)).2.1)
  have hle1:=hle.1
  rcases hc3 v c hv (by omega) with ⟨v',d',hv',hd'⟩ | hq
  ·obtain ⟨e1,e2⟩:=exact_has hst ht.is.ok ht.is.pos ht.is.seen ht.fit hall hv' (by omega)
   have:=offer_gets z ((x.exact n t.up (x.mostN w)).1,(x.exact n t.up (x.mostN w)).2.1) e1
   simp only at this
   omega
  ·rw [hle.2.1,hle.2.2.1]
   exact .inr hq
 ·exact hbr
end Go.Proofs.YtnoifgjiipgpoaaGreat
