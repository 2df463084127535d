/- Parts of the proof: WideP, WideQ, Sched, Sched2, Sched3, PlanC, Split, ToursP, WideT, SearchP, SearchQ, SearchR, SearchG, Heap, HeapP, HeapT, HeapL, HeapO, HeapO2, HeapR, HeapW, Opts. -/
import Derived.Test.YtackfabapangdaaGreatMF
set_option linter.all false
set_option maxHeartbeats 4000000
set_option maxRecDepth 4000
namespace Go.Proofs.YtackfabapangdaaGreat
open Go Go.Proofs.YtackfabapangdaaGreat.R
def State.join (s t:State):State:=⟨s.spot,min s.car t.car,min s.time t.time,min s.load t.load,min s.first t.first,s.must&&&t.must,s.can|||t.can,s.on&&&t.on⟩
def joinL:List State→State×Bool
 |[]=>(State.zero,false)
 |s :: l=>if l.any (fun t=>decide (t.spot≠s.spot))=true then (State.zero,false) else (l.foldl State.join s,true)
def costL:List Node→Int
 |[]=>0
 |n :: l=>l.foldl (fun c m=>min c m.cost) n.cost
def together (l:List Node):Node×Bool:=(⟨(joinL (l.map Node.s)).1,costL l,[]⟩,(joinL (l.map Node.s)).2)
def atStop (l:List Node) (i:Nat):List Node:=l.filter fun n=>decide (n.s.spot=i)
def Inst.mostN (x:Inst) (w:Int):Nat:=max w.toNat x.stops.length
def oneAt (l:List Node) (i:Nat):List Node:=if (together (atStop l i)).2=true then [(together (atStop l i)).1] else []
def Inst.squeeze (x:Inst) (l:List Node) (w:Int):List Node:=
 if (x.sortN l).length≤x.mostN w then x.sortN l else
 (x.sortN l).take (x.mostN w-x.stops.length)++(List.range x.stops.length).flatMap (oneAt ((x.sortN l).drop (x.mostN w-x.stops.length)))
theorem within_and_l (a b:Nat):withinB (a&&&b) a=true:=by
 rw [withinB,List.all_eq_true]
 intro i _
 rw [Nat.testBit_and]
 cases a.testBit i<;>cases b.testBit i<;>rfl
theorem within_and_r (a b:Nat):withinB (a&&&b) b=true:=by rw [Nat.and_comm];exact within_and_l b a
theorem within_or_l (a b:Nat):withinB a (a|||b)=true:=by
 rw [withinB,List.all_eq_true]
 intro i _
 rw [Nat.testBit_or]
 cases a.testBit i<;>cases b.testBit i<;>rfl
theorem within_or_r (a b:Nat):withinB b (a|||b)=true:=by rw [Nat.or_comm];exact within_or_l b a
theorem join_cov1 (s t:State):coversB (s.join t) s=true:=
 cov_mk rfl (within_and_l _ _) (within_and_l _ _) (within_or_l _ _) (Int.min_le_left _ _) (Int.min_le_left _ _) (Int.min_le_left _ _) (Int.min_le_left _ _)
theorem join_cov2 {s t:State} (h:s.spot=t.spot):coversB (s.join t) t=true:=
 cov_mk h (within_and_r _ _) (within_and_r _ _) (within_or_r _ _) (Int.min_le_right _ _) (Int.min_le_right _ _) (Int.min_le_right _ _) (Int.min_le_right _ _)
structure State.Is (s:State) (i:Int):Prop where
 spot:s.spot=i
 ok:s.ok
 pos:s.Pos
 seen:s.seenAt
theorem State.Is.join {s t:State} {i:Int} (h:s.Is i) (k:t.Is i):(s.join t).Is i:=by
 refine ⟨h.spot,⟨?_,?_,?_⟩,⟨?_,?_,?_⟩,?_⟩
 ·exact Nat.and_lt_two_pow _ k.ok.must
 ·exact Nat.or_lt_two_pow h.ok.can k.ok.can
 ·exact Nat.and_lt_two_pow _ k.ok.on
 ·exact Int.le_min.2 ⟨h.pos.car,k.pos.car⟩
 ·exact Int.le_min.2 ⟨h.pos.time,k.pos.time⟩
 ·exact Int.le_min.2 ⟨h.pos.load,k.pos.load⟩
 ·rcases h.seen with e | e
  ·exact .inl e
  rcases k.seen with e2 | e2
  ·refine .inl ?_
   show s.spot=0
   rw [h.spot,←k.spot];exact e2
  ·refine .inr ?_
   show hasB (s.must&&&t.must) s.spot=true
   rw [k.spot,←h.spot] at e2
   simp only [hasB,Bool.and_eq_true,decide_eq_true_eq,Nat.testBit_and] at *
   exact ⟨e.1,e.2,e2.2⟩
theorem fold_join:∀(l:List State) (s:State),(∀t∈l,t.spot=s.spot)→(l.foldl State.join s).spot=s.spot∧coversB (l.foldl State.join s) s=true∧∀t∈l,coversB (l.foldl State.join s) t=true
 |[],s,_=>⟨rfl,covers_refl _,fun t h=>by cases h⟩
 |t :: l,s,h=>by
  obtain ⟨h1,h2,h3⟩:=fold_join l (s.join t) fun u hu=>h u (List.mem_cons_of_mem _ hu)
  rw [List.foldl_cons]
  refine ⟨h1,covers_trans h2 (join_cov1 s t),fun u hu=>?_⟩
  rcases List.mem_cons.1 hu with rfl | hu
  ·exact covers_trans h2 (join_cov2 (h u List.mem_cons_self).symm)
  ·exact h3 u hu
theorem fold_is {i:Int}:∀(l:List State) (s:State),s.Is i→(∀t∈l,t.Is i)→(l.foldl State.join s).Is i
 |[],s,h,_=>h
 |t :: l,s,h,k=>fold_is l (s.join t) (h.join (k t List.mem_cons_self)) fun u hu=>k u (List.mem_cons_of_mem _ hu)
theorem joinL_same {l:List State} (h0:l≠[]) {i:Int} (h:∀t∈l,t.spot=i):(joinL l).2=true∧(joinL l).1.spot=i∧(∀t∈l,coversB (joinL l).1 t=true)∧((∀t∈l,t.Is i)→(joinL l).1.Is i):=by
 cases l with
 |nil=>exact absurd rfl h0
 |cons s l=>
  have hs:=h s List.mem_cons_self
  have hl:∀t∈l,t.spot=s.spot:=fun t ht=>by rw [hs];exact h t (List.mem_cons_of_mem _ ht)
  have e:joinL (s :: l)=(l.foldl State.join s,true):=by
   rw [joinL,if_neg]
   rw [List.any_eq_true]
   rintro ⟨t,ht,e⟩
   exact (of_decide_eq_true e) (hl t ht)
  obtain ⟨h1,h2,h3⟩:=fold_join l s hl
  rw [e]
  refine ⟨rfl,by simp only;omega,fun t ht=>?_,fun k=>fold_is l s (k s List.mem_cons_self) fun t ht=>k t (List.mem_cons_of_mem _ ht)⟩
  rcases List.mem_cons.1 ht with rfl | ht
  ·exact h2
  ·exact h3 t ht
theorem fold_cost:∀(l:List Node) (c:Int),l.foldl (fun c m=>min c m.cost) c≤c∧(∀n∈l,l.foldl (fun c m=>min c m.cost) c≤n.cost)∧(l.foldl (fun c m=>min c m.cost) c=c∨∃n∈l,l.foldl (fun c m=>min c m.cost) c=n.cost)
 |[],c=>⟨Int.le_refl _,fun n h=>(by cases h),.inl rfl⟩
 |m :: l,c=>by
  obtain ⟨h1,h2,h3⟩:=fold_cost l (min c m.cost)
  rw [List.foldl_cons]
  refine ⟨by omega,fun n hn=>?_,?_⟩
  ·rcases List.mem_cons.1 hn with rfl | hn
   ·omega
   ·exact h2 n hn
  ·rcases h3 with h3 | ⟨n,hn,h3⟩
   ·rw [h3]
    by_cases e:c≤m.cost
    ·exact .inl (by omega)
    ·exact .inr ⟨m,List.mem_cons_self,by omega⟩
   ·exact .inr ⟨n,List.mem_cons_of_mem _ hn,h3⟩
theorem costL_is {l:List Node} (h:l≠[]):(∀n∈l,costL l≤n.cost)∧∃n∈l,costL l=n.cost:=by
 cases l with
 |nil=>exact absurd rfl h
 |cons m l=>
  obtain ⟨h1,h2,h3⟩:=fold_cost l m.cost
  rw [costL]
  refine ⟨fun n hn=>?_,?_⟩
  ·rcases List.mem_cons.1 hn with rfl | hn
   ·exact h1
   ·exact h2 n hn
  ·rcases h3 with h3 | ⟨n,hn,h3⟩
   ·exact ⟨m,List.mem_cons_self,h3⟩
   ·exact ⟨n,List.mem_cons_of_mem _ hn,h3⟩
theorem atStop_mem {l:List Node} {i:Nat} {n:Node}:n∈atStop l i↔n∈l∧n.s.spot=i:=by
 rw [atStop,List.mem_filter,decide_eq_true_eq]
theorem oneAt_mem {l:List Node} {i:Nat} {m:Node} (h:m∈oneAt l i):atStop l i≠[]∧m=(together (atStop l i)).1:=by
 unfold oneAt at h
 split at h
 ·rename_i hh
  refine ⟨fun e=>?_,List.mem_singleton.1 h⟩
  rw [e] at hh
  simp [together,joinL] at hh
 ·cases h
theorem oneAt_has {l:List Node} {i:Nat} {n:Node} (h:n∈l) (hi:n.s.spot=i):∃m∈oneAt l i,coversB m.s n.s=true∧m.cost≤n.cost:=by
 have hn:n∈atStop l i:=atStop_mem.2 ⟨h,hi⟩
 have hne:atStop l i≠[]:=fun e=>by rw [e] at hn;cases hn
 have hne2:(atStop l i).map Node.s≠[]:=by simpa using hne
 obtain ⟨h1,h2,h3,h4⟩:=joinL_same hne2 (i:=(i:Int)) fun t ht=>by
  obtain ⟨q,hq,rfl⟩:=List.mem_map.1 ht
  exact (atStop_mem.1 hq).2
 refine ⟨(together (atStop l i)).1,?_,h3 _ (List.mem_map.2 ⟨n,hn,rfl⟩),(costL_is hne).1 n hn⟩
 rw [oneAt,if_pos (show (together (atStop l i)).2=true from h1)]
 exact List.mem_singleton.2 rfl
theorem oneAt_len (l:List Node) (i:Nat):(oneAt l i).length≤1:=by unfold oneAt;split<;>simp
theorem squeeze_mem {x:Inst} {l:List Node} {w:Int} {m:Node} (h:m∈x.squeeze l w):m∈l∨∃(i:Nat) (g:List Node),g≠[]∧i<x.stops.length∧(∀n∈g,n∈l∧n.s.spot=i)∧m=(together g).1:=by
 unfold Inst.squeeze at h
 split at h
 ·exact .inl (Inst.sortN_mem.1 h)
 ·rcases List.mem_append.1 h with h | h
  ·exact .inl (Inst.sortN_mem.1 (List.mem_of_mem_take h))
  ·obtain ⟨i,hi,h⟩:=List.mem_flatMap.1 h
   obtain ⟨h1,h2⟩:=oneAt_mem h
   exact .inr ⟨i,_,h1,List.mem_range.1 hi,fun n hn=>⟨Inst.sortN_mem.1 (List.mem_of_mem_drop (atStop_mem.1 hn).1),(atStop_mem.1 hn).2⟩,h2⟩
theorem squeeze_cov {x:Inst} {l:List Node} (w:Int) {n:Node} (hn:n∈l) (h0:0≤n.s.spot) (h1:n.s.spot<x.stops.length):∃m∈x.squeeze l w,coversB m.s n.s=true∧m.cost≤n.cost:=by
 have hs:n∈x.sortN l:=Inst.sortN_mem.2 hn
 unfold Inst.squeeze
 split
 ·exact ⟨n,hs,covers_refl _,Int.le_refl _⟩
 ·generalize x.mostN w-x.stops.length=k at *
  rw [←List.take_append_drop k (x.sortN l)] at hs
  rcases List.mem_append.1 hs with hs | hs
  ·exact ⟨n,List.mem_append_left _ hs,covers_refl _,Int.le_refl _⟩
  ·obtain ⟨i,hi⟩:∃i:Nat,n.s.spot=i:=⟨n.s.spot.toNat,by omega⟩
   obtain ⟨m,h2,h3,h4⟩:=oneAt_has hs hi
   exact ⟨m,List.mem_append_right _ (List.mem_flatMap.2 ⟨i,List.mem_range.2 (by omega),h2⟩),h3,h4⟩
theorem flat_one {α β:Type} (f:α→List β) (h:∀a,(f a).length≤1):∀(l:List α),(l.flatMap f).length≤l.length
 |[]=>Nat.le_refl _
 |a :: l=>by
  rw [List.flatMap_cons,List.length_append,List.length_cons]
  have:=h a
  have:=flat_one f h l
  omega
theorem squeeze_len (x:Inst) (l:List Node) (w:Int):(x.squeeze l w).length≤x.mostN w:=by
 unfold Inst.squeeze
 split
 ·assumption
 ·have h1:=flat_one (oneAt ((x.sortN l).drop (x.mostN w-x.stops.length))) (oneAt_len _) (List.range x.stops.length)
  rw [List.length_range] at h1
  have h2:x.stops.length≤x.mostN w:=Nat.le_max_right _ _
  rw [List.length_append,List.length_take]
  omega
end Go.Proofs.YtackfabapangdaaGreat

set_option maxRecDepth 4000
namespace Go.Proofs.YtackfabapangdaaGreat
open Go Go.Proofs.YtackfabapangdaaGreat.R
structure Diag where
 layers:List (List Node)
 low:Int
 exact:Bool
 sure:Nat
 deriving DecidableEq
def Diag.of (ls:List (List Node)) (low:Int) (sq:Option Nat):Diag:=⟨ls,low,sq.isNone,sq.getD ls.length⟩
def lowB (low:Int) (b:Node×Bool):Int:=if b.2=true then min low b.1.cost else low
def Inst.buildGo (x:Inst) (w up dp:Int):Nat→List (List Node)→Int→Option Nat→List Node→Diag
 |0,ls,low,sq,_=>Diag.of ls low sq
 |f+1,ls,low,sq,l=>if l=[] then Diag.of ls low sq else
  if dp<((ls.length+1:Nat):Int) then Diag.of (ls++[l]) (lowB low (x.bests l)) sq else
  if x.mostN w<(x.next l up).length then x.buildGo w up dp f (ls++[l]) (lowB low (x.bests l)) (some (sq.getD (ls.length+1))) (x.squeeze (x.next l up) w)
  else x.buildGo w up dp f (ls++[l]) (lowB low (x.bests l)) sq (x.next l up)
def Inst.build (x:Inst) (n:Node) (w up:Int):Diag:=x.buildGo w up (x.deep-n.path.length) ((x.deep-n.path.length).toNat+2) [] up none [n]
structure WL (x:Inst) (l:List Node) (r:Nat):Prop where
 is:∀n∈l,n.s.Is n.s.spot
 cost:∀n∈l,0≤n.cost∧n.cost+14143*((r:Int)+41)≤1152921504606846976
theorem WL.lev {x:Inst} {l:List Node} {r:Nat} (h:WL x l r):Lev x l 41:=
 ⟨fun n hn=>(h.is n hn).ok,fun n _=>by have:=meas_le x n.s;omega,fun n hn=>(h.is n hn).pos,fun n hn=>(h.is n hn).seen,fun n hn=>by have:=h.cost n hn;omega⟩
theorem child_spot {x:Inst} {s:State} {j:Int} (h:(x.move s j).2.2=true):0≤(x.move s j).1.spot∧(x.move s j).1.spot<x.stops.length:=by
 by_cases hj:j=0
 ·subst hj
  obtain ⟨h1,h2,h3,h4⟩:=move_home h
  obtain ⟨p,hx⟩:=x.fit h1
  have:=hx.len
  rw [h4]
  show 0≤(0:Int)∧(0:Int)<x.stops.length
  omega
 ·obtain ⟨h1,h2,h3,h4,_,_,_,h5⟩:=move_pos h hj
  obtain ⟨p,hx⟩:=x.fit h1
  have:=hx.len
  have:=hx.pairs
  rw [h5]
  show 0≤j∧j<x.stops.length
  omega
theorem State.Is.move {x:Inst} {s:State} {j i:Int} (h:s.Is i) (hj:(x.move s j).2.2=true):(x.move s j).1.Is (x.move s j).1.spot:=⟨rfl,move_ok x j h.ok,pos_move h.pos h.ok hj,seen_step hj⟩
theorem WL.next {x:Inst} {l:List Node} {r:Nat} (h:WL x l (r+1)) (up:Int):WL x (x.next l up) r∧∀m∈x.next l up,0≤m.s.spot∧m.s.spot<x.stops.length:=by
 have key:∀m∈x.next l up,∃n∈l,∃j,(x.move n.s j).2.2=true∧m=x.child n j:=by
  intro m hm
  obtain ⟨n,hn,j,hj,e,_⟩:=next_mem hm
  exact ⟨n,hn,j,moves_mem hj,e⟩
 refine ⟨⟨?_,?_⟩,?_⟩<;>(intro m hm;obtain ⟨n,hn,j,hj,rfl⟩:=key m hm)
 ·exact (h.is n hn).move hj
 ·rw [child_cost h.lev hn hj]
  have:=h.cost n hn
  have:=move_cost hj
  omega
 ·exact child_spot hj
theorem WL.squeeze {x:Inst} {l:List Node} {r:Nat} (h:WL x l r) (w:Int):WL x (x.squeeze l w) r:=by
 have key:∀m∈x.squeeze l w,m.s.Is m.s.spot∧∃n∈l,m.cost=n.cost:=by
  intro m hm
  rcases squeeze_mem hm with hm | ⟨i,g,h1,h2,h3,rfl⟩
  ·exact ⟨h.is m hm,m,hm,rfl⟩
  ·have hne2:g.map Node.s≠[]:=by simpa using h1
   obtain ⟨j1,j2,j3,j4⟩:=joinL_same hne2 (i:=(i:Int)) fun t ht=>by
    obtain ⟨q,hq,rfl⟩:=List.mem_map.1 ht
    exact (h3 q hq).2
   have j5:=j4 fun t ht=>by
    obtain ⟨q,hq,rfl⟩:=List.mem_map.1 ht
    have:=h.is q (h3 q hq).1
    rw [(h3 q hq).2] at this
    exact this
   obtain ⟨n,hn,e⟩:=(costL_is h1).2
   exact ⟨⟨rfl,j5.ok,j5.pos,j5.seen⟩,n,(h3 n hn).1,e⟩
 refine ⟨fun m hm=>(key m hm).1,fun m hm=>?_⟩
 obtain ⟨_,n,hn,e⟩:=key m hm
 rw [e]
 exact h.cost n hn
theorem lowB_le (low:Int) (b:Node×Bool):lowB low b≤low:=by unfold lowB;split<;>omega
theorem buildGo_le (x:Inst) (w up dp:Int):∀(f:Nat) (ls:List (List Node)) (low:Int) (sq:Option Nat) (l:List Node),(x.buildGo w up dp f ls low sq l).low≤low
 |0,ls,low,sq,l=>Int.le_refl _
 |f+1,ls,low,sq,l=>by
  have hb:=lowB_le low (x.bests l)
  rw [Inst.buildGo]
  split
  ·exact Int.le_refl _
  split
  ·exact hb
  split
  ·exact Int.le_trans (buildGo_le x w up dp f _ _ _ _) hb
  ·exact Int.le_trans (buildGo_le x w up dp f _ _ _ _) hb
theorem buildGo_way {x:Inst} (hst:x.stops.length<2^31) (w up dp:Int):∀(f:Nat) (ls:List (List Node)) (low:Int) (sq:Option Nat) (l:List Node),WL x l f→
  ∀m∈l,∀(v:List Int) (c:Int),x.way v m.s c→m.cost+c<up→(ls.length:Int)+v.length≤dp→v.length<f→(x.buildGo w up dp f ls low sq l).low≤m.cost+c
 |0,ls,low,sq,l,_,m,hm,v,c,_,_,_,hf=>absurd hf (Nat.not_lt_zero _)
 |f+1,ls,low,sq,l,hl,m,hm,v,c,hv,hlt,hdp,hf=>by
  have hne:¬l=[]:=fun e=>by rw [e] at hm;cases hm
  have hend:v=[]→lowB low (x.bests l)≤m.cost+c:=by
   rintro rfl
   obtain ⟨b1,b2⟩:=bests_has hm hv.1
   rw [end_sum hl.lev hm hv.1,←hv.2] at b2
   rw [lowB,if_pos b1]
   omega
  rw [Inst.buildGo,if_neg hne]
  by_cases c1:dp<((ls.length+1:Nat):Int)
  ·rw [if_pos c1]
   exact hend (List.eq_nil_of_length_eq_zero (by omega))
  rw [if_neg c1]
  match v,hv with
  |[],hv=>
   split
   ·exact Int.le_trans (buildGo_le x w up dp f _ _ _ _) (hend rfl)
   ·exact Int.le_trans (buildGo_le x w up dp f _ _ _ _) (hend rfl)
  |j :: v,hv=>
   obtain ⟨g1,e,g2,g3⟩:=hv
   obtain ⟨q,hq,q1,q2⟩:=next_way hst hl.lev hm g1 g2 (up:=up) (by omega)
   obtain ⟨hn1,hn2⟩:=hl.next up
   have hlen:(((ls++[l]).length:Nat):Int)+v.length≤dp:=by
    rw [List.length_append]
    simp only [List.length_cons,List.length_nil] at hdp ⊢
    omega
   have hf2:v.length<f:=by simp only [List.length_cons] at hf;omega
   rw [←q1] at g2
   split
   ·obtain ⟨t,ht,t1,t2⟩:=squeeze_cov w hq (hn2 q hq).1 (hn2 q hq).2
    have ht3:=(hn1.squeeze w).is t ht
    have:=buildGo_way hst w up dp f (ls++[l]) (lowB low (x.bests l)) (some (sq.getD (ls.length+1))) _ (hn1.squeeze w) t ht v e (cov_way (move_pairs g1) t1 ht3.pos ht3.ok g2) (by omega) hlen hf2
    omega
   ·have:=buildGo_way hst w up dp f (ls++[l]) (lowB low (x.bests l)) sq _ hn1 q hq v e g2 (by omega) hlen hf2
    omega
def Inst.layN (x:Inst) (up:Int) (n:Node):Nat→List Node
 |0=>[n]
 |k+1=>x.next (x.layN up n k) up
structure SureI (x:Inst) (up:Int) (n:Node) (ls:List (List Node)) (sq:Option Nat):Prop where
 lay:∀i,i<sq.getD ls.length→ls[i]? =some (x.layN up n i)
 le:sq.getD ls.length≤ls.length
theorem SureI.push {x:Inst} {up:Int} {n:Node} {ls:List (List Node)} {sq:Option Nat} {l:List Node} (h:SureI x up n ls sq) (hl:sq=none→l=x.layN up n ls.length):SureI x up n (ls++[l]) sq:=by
 cases sq with
 |some k=>
  have h1:=h.lay
  have h2:=h.le
  simp only [Option.getD_some] at h1 h2
  refine ⟨fun i hi=>?_,?_⟩
  ·simp only [Option.getD_some] at hi
   rw [List.getElem?_append_left (by omega)]
   exact h1 i hi
  ·simp only [Option.getD_some,List.length_append,List.length_cons];omega
 |none=>
  have h1:=h.lay
  simp only [Option.getD_none] at h1
  refine ⟨fun i hi=>?_,by simp⟩
  simp only [Option.getD_none,List.length_append,List.length_cons,List.length_nil] at hi
  by_cases e:i<ls.length
  ·rw [List.getElem?_append_left e];exact h1 i e
  ·have:i=ls.length:=by omega
   subst this
   rw [List.getElem?_append_right (Nat.le_refl _),Nat.sub_self,hl rfl]
   rfl
structure Diag.Ok (x:Inst) (up:Int) (n:Node) (d:Diag):Prop where
 lay:∀i,i<d.sure→d.layers[i]? =some (x.layN up n i)
 le:d.sure≤d.layers.length
 whole:d.exact=decide (d.sure=d.layers.length)
 pos:1≤d.sure
theorem buildGo_sure {x:Inst} (w up dp:Int) (n:Node):∀(f:Nat) (ls:List (List Node)) (low:Int) (sq:Option Nat) (l:List Node),SureI x up n ls sq→(sq=none→l=x.layN up n ls.length)→(∀k,sq=some k→1≤k∧(l≠[]∨k<ls.length))→(ls=[]→l≠[])→1≤f→
  (∀k,sq=some k→ls.length+f≥1)→(f:Int)+ls.length≥dp+2→((ls.length:Int)≤dp∨ls=[])→(x.buildGo w up dp f ls low sq l).Ok x up n
 |0,ls,low,sq,l,_,_,_,_,hf,_,_,_=>absurd hf (by omega)
 |f+1,ls,low,sq,l,h,hn,hs,h0,hf,hq,hfu,hle=>by
  rw [Inst.buildGo]
  by_cases c0:l=[]
  ·rw [if_pos c0]
   refine ⟨h.lay,h.le,?_,?_⟩
   ·cases sq with
    |none=>simp [Diag.of]
    |some k=>
     have:=(hs k rfl).2
     have:k<ls.length:=this.resolve_left fun e=>e c0
     show false=decide (k=ls.length)
     exact (decide_eq_false (by omega)).symm
   ·cases sq with
    |none=>
     have:ls≠[]:=fun e=>h0 e c0
     have:=List.length_pos_iff.2 this
     simp only [Diag.of,Option.getD_none];omega
    |some k=>exact (hs k rfl).1
  rw [if_neg c0]
  have hp:=h.push hn
  by_cases c1:dp<((ls.length+1:Nat):Int)
  ·rw [if_pos c1]
   refine ⟨hp.lay,hp.le,?_,?_⟩
   ·cases sq with
    |none=>simp [Diag.of]
    |some k=>
     have:=h.le
     simp only [Option.getD_some] at this
     show false=decide (k=(ls++[l]).length)
     exact (decide_eq_false (by rw [List.length_append];simp only [List.length_cons];omega)).symm
   ·cases sq with
    |none=>simp [Diag.of]
    |some k=>exact (hs k rfl).1
  rw [if_neg c1]
  have hlen:(ls++[l]).length=ls.length+1:=by simp
  split
  ·rename_i hov
   have hne:x.next l up≠[]:=fun e=>by rw [e] at hov;simp at hov
   obtain ⟨q,hq2⟩:=List.exists_mem_of_ne_nil _ hne
   obtain ⟨m,hm,j,hj,rfl,_⟩:=next_mem hq2
   have hsp:=child_spot (moves_mem hj)
   obtain ⟨t,ht,_⟩:=squeeze_cov w hq2 hsp.1 hsp.2
   have hne2:x.squeeze (x.next l up) w≠[]:=fun e=>by rw [e] at ht;cases ht
   refine buildGo_sure w up dp n f _ _ _ _ ?_ (fun e=>by cases e) (fun k hk=>⟨?_,.inl hne2⟩) (fun _=>hne2) (by omega) (fun _ _=>by omega) (by rw [hlen];omega) (.inl (by rw [hlen];omega))
   ·cases sq with
    |none=>
     simp only [Option.getD_none]
     refine ⟨fun i hi=>hp.lay i ?_,by simp⟩
     simp only [Option.getD_some] at hi
     simp only [Option.getD_none,hlen]
     exact hi
    |some k=>exact hp
   ·cases hk
    cases sq with
    |none=>simp
    |some k=>exact (hs k rfl).1
  ·refine buildGo_sure w up dp n f _ _ _ _ hp (fun e=>?_) (fun k hk=>⟨(hs k hk).1,.inr ?_⟩) (fun e=>by simp at e) (by omega) (fun _ _=>by omega) (by rw [hlen];omega) (.inl (by rw [hlen];omega))
   ·rw [hlen,Inst.layN,←hn e]
   ·have:=h.le
    rw [hk] at this
    simp only [Option.getD_some] at this
    omega
theorem buildGo_lay {x:Inst} (w up dp:Int):∀(f:Nat) (ls:List (List Node)) (low:Int) (sq:Option Nat) (l:List Node),l.length≤x.mostN w→(∀k∈ls.drop 1,k≠[]∧k.length≤x.mostN w)→
  ∀k∈(x.buildGo w up dp f ls low sq l).layers.drop 1,k≠[]∧k.length≤x.mostN w
 |0,ls,low,sq,l,_,h=>h
 |f+1,ls,low,sq,l,hl,h=>by
  rw [Inst.buildGo]
  split
  ·exact h
  rename_i c0
  have h2:∀k∈(ls++[l]).drop 1,k≠[]∧k.length≤x.mostN w:=by
   intro k hk
   cases ls with
   |nil=>simp at hk
   |cons a ls=>
    rw [List.cons_append,List.drop_succ_cons,List.drop_zero] at hk
    rcases List.mem_append.1 hk with hk | hk
    ·exact h k (by simpa using hk)
    ·rw [List.mem_singleton.1 hk];exact ⟨c0,hl⟩
  split
  ·exact h2
  split
  ·exact buildGo_lay w up dp f _ _ _ _ (squeeze_len x _ w) h2
  ·exact buildGo_lay w up dp f _ _ _ _ (by omega) h2
theorem buildGo_count {x:Inst} (w up dp:Int):∀(f:Nat) (ls:List (List Node)) (low:Int) (sq:Option Nat) (l:List Node),((x.buildGo w up dp f ls low sq l).layers.length:Int)≤max ((ls.length:Int)+1) (dp+1)
 |0,ls,low,sq,l=>by show (ls.length:Int)≤_;omega
 |f+1,ls,low,sq,l=>by
  have hlen:(ls++[l]).length=ls.length+1:=by simp
  rw [Inst.buildGo]
  split
  ·show (ls.length:Int)≤_;omega
  split
  ·show ((ls++[l]).length:Int)≤_;omega
  split
  ·have:=buildGo_count (x:=x) w up dp f (ls++[l]) (lowB low (x.bests l)) (some (sq.getD (ls.length+1))) (x.squeeze (x.next l up) w);omega
  ·have:=buildGo_count (x:=x) w up dp f (ls++[l]) (lowB low (x.bests l)) sq (x.next l up);omega
end Go.Proofs.YtackfabapangdaaGreat

set_option maxRecDepth 4000
namespace Go.Proofs.YtackfabapangdaaGreat
open Go Go.Proofs.YtackfabapangdaaGreat.R
structure Car where
 spot:Int
 now:Int
 gone:Int
 load:Int
 seen:Nat
 on:Nat
 times:List (List T)
 loads:List Int
structure Car.Fit (c:Car) (p k:Nat):Prop where
 spot:0≤c.spot∧c.spot≤2*p
 now:0≤c.now∧c.now≤1049576
 gone:0≤c.gone∧c.gone≤14143*k
 load: -1000*(k:Int)≤c.load∧c.load≤1000
 seen:c.seen<2^64
 on:c.on<2^64
 times:c.times.length=k
 loads:c.loads.length=k
 three:∀y∈c.times,y.length=3
 few:k+((List.range (2*p+1)).filter fun j:Nat=>decide (1≤j)&& !hasB c.seen (j:Int)).length≤2*p
def Inst.visitsE (x:Inst) (c:Car) (i:Int):Int:=
 if i<1∨2*x.pairs<i then 1 else if hasB c.seen i=true then 5 else if x.pairs<i∧hasB c.seen (i-x.pairs)=false then 8 else if x.room<c.load+(x.stop i).demand then 6 else 0
def Inst.drive (x:Inst) (c:Car) (i:Int):Car:={c with spot:=i,gone:=c.gone+far (x.stop c.spot) (x.stop i)}
end Go.Proofs.YtackfabapangdaaGreat

set_option maxRecDepth 4000
namespace Go.Proofs.YtackfabapangdaaGreat
open Go Go.Proofs.YtackfabapangdaaGreat.R
def Inst.visitC (x:Inst) (c:Car) (i:Int):Car×Int:=
 if x.visitsE c i≠0 then (c,x.visitsE c i)
 else if (x.stop i).due<max (c.now+far (x.stop c.spot) (x.stop i)) (x.stop i).ready then (x.drive c i,7)
 else ({spot:=i,now:=max (c.now+far (x.stop c.spot) (x.stop i)) (x.stop i).ready+(x.stop i).service,gone:=c.gone+far (x.stop c.spot) (x.stop i),load:=c.load+(x.stop i).demand,seen:=withN c.seen i,
        on:=if i≤x.pairs then withN c.on i else withoutN c.on (i-x.pairs),times:=c.times++[[.i (c.now+far (x.stop c.spot) (x.stop i)),.i (max (c.now+far (x.stop c.spot) (x.stop i)) (x.stop i).ready),.i (max (c.now+far (x.stop c.spot) (x.stop i)) (x.stop i).ready+(x.stop i).service)]],loads:=c.loads++[c.load+(x.stop i).demand]},0)
theorem visits_ok {x:Inst} {c:Car} {i:Int} (h:x.visitsE c i=0):1≤i∧i≤2*x.pairs∧hasB c.seen i=false∧(x.pairs<i→hasB c.seen (i-x.pairs)=true)∧c.load+(x.stop i).demand≤x.room:=by
 rw [Inst.visitsE] at h
 split at h
 ·cases h
 split at h
 ·cases h
 split at h
 ·cases h
 split at h
 ·cases h
 rename_i h1 h2 h3 h4
 refine ⟨by omega,by omega,by simpa using h2,fun h=>?_,by omega⟩
 cases hq:hasB c.seen (i-x.pairs) with
 |true=>rfl
 |false=>exact absurd ⟨h,hq⟩ h3
end Go.Proofs.YtackfabapangdaaGreat

set_option maxRecDepth 4000
namespace Go.Proofs.YtackfabapangdaaGreat
open Go Go.Proofs.YtackfabapangdaaGreat.R
theorem visitC_fit {x:Inst} {c:Car} {i:Int} {p k:Nat} (hx:x.Fit p) (hc:c.Fit p k) (h:(x.visitC c i).2=0):(x.visitC c i).1.Fit p (k+1):=by
 have hok:=visits_ok (x:=x) (c:=c) (i:=i)
 rw [Inst.visitC] at h ⊢
 by_cases c0:x.visitsE c i=0
 rotate_left
 ·rw [if_pos c0] at h;exact absurd h c0
 rw [if_neg (by simp [c0])] at h ⊢
 by_cases c1:(x.stop i).due<max (c.now+far (x.stop c.spot) (x.stop i)) (x.stop i).ready
 ·rw [if_pos c1] at h;cases h
 rw [if_neg c1]
 obtain ⟨k1,k2,k3,k4,k5⟩:=hok c0
 have hp:=hx.pairs
 have hfi:=hx.at (j:=i) (by omega) (by omega)
 have hfar:=far_le (x.stop c.spot) (x.stop i)
 have h1:=hc.now
 have h2:=hc.gone
 have h3:=hc.load
 have h4:=hfi.ready
 have h5:=hfi.due
 have h6:=hfi.service
 have h7:=hfi.demand
 have h8:=hx.room
 have h9:=hx.few
 constructor
 ·simp only;omega
 ·simp only;omega
 ·simp only;omega
 ·simp only;omega
 ·exact withN_lt hc.seen _
 ·simp only
  split
  ·exact withN_lt hc.on _
  ·exact withoutN_lt _ _
 ·simp [hc.times]
 ·simp [hc.loads]
 ·intro y hy
  simp only [List.mem_append,List.mem_singleton] at hy
  rcases hy with hy | rfl
  ·exact hc.three y hy
  ·rfl
 ·have h10:=hc.few
  obtain ⟨j,rfl⟩:∃j:Nat,i=j:=⟨i.toNat,by omega⟩
  have:=filter_lt (p:=fun j:Nat=>decide (1≤j)&& !hasB c.seen (j:Int)) (q:=fun m:Nat=>decide (1≤m)&& !hasB (withN c.seen (j:Int)) (m:Int)) (List.range (2*p+1)) (a:=j) (List.mem_range.2 (by omega)) (by rw [k3];simp;omega) (by rw [has_withN (by omega)];simp) (fun m=>by
   rw [has_withN (by omega)]
   simp only [Bool.and_eq_true,Bool.not_eq_true',Bool.or_eq_false_iff]
   exact fun h=>⟨h.1,h.2.1⟩)
  simp only
  omega
def Inst.homeC (x:Inst) (c:Car):Car×Int:=
 if c.on≠0 then (c,8) else if (x.stop 0).due<c.now+far (x.stop c.spot) (x.stop 0) then (x.drive c 0,7) else (x.drive c 0,0)
def Inst.car0 (x:Inst):Car:=⟨0,(x.stop 0).ready,0,0,0,0,[],[]⟩
theorem car0_fit {x:Inst} {p:Nat} (hx:x.Fit p):x.car0.Fit p 0:=by
 have h1:=(hx.at (j:=0) (by omega) (by omega)).ready
 refine ⟨by simp only [Inst.car0];omega,by simp only [Inst.car0];omega,by simp only [Inst.car0];omega,by simp only [Inst.car0];omega,by simp [Inst.car0],by simp [Inst.car0],rfl,rfl,(fun y hy=>by cases hy),?_⟩
 have:=filter_lt (p:=fun _:Nat=>true) (q:=fun j:Nat=>decide (1≤j)&& !hasB x.car0.seen (j:Int)) (List.range (2*p+1)) (a:=0) (List.mem_range.2 (by omega)) rfl (by simp) (fun _ _=>rfl)
 rw [List.filter_eq_self.2 (fun _ _=>rfl),List.length_range] at this
 omega
def Inst.runC (x:Inst):List Int→Car→Car×Int
 |[],c=>x.homeC c
 |i :: r,c=>if (x.visitC c i).2≠0 then x.visitC c i else x.runC r (x.visitC c i).1
def Inst.times (x:Inst) (route:List Int):List (List T)×Int×Int:=
 if x.may=false then ([],0,1) else if (x.runC route x.car0).2≠0 then ([],0,(x.runC route x.car0).2) else ((x.runC route x.car0).1.times,(x.runC route x.car0).1.gone,0)
end Go.Proofs.YtackfabapangdaaGreat

set_option maxRecDepth 4000
namespace Go.Proofs.YtackfabapangdaaGreat
open Go Go.Proofs.YtackfabapangdaaGreat.R
def idxI (p:Int→Bool):Nat→List Int→Int
 |_,[]=>-1
 |i,n :: l=>if p n=true then (i:Int) else idxI p (i+1) l
theorem indexI_pure (l:List Int) (p:Int→Bool) (f:FuncId) (hl:l.length<2^62) (hf:∀n,Pure P f [.i n] (.b (p n))):Pure P 106 [.t (.sl (ints l)),.fn (.func f) [] []] (.i (idxI p 0 l)):=by
 have hil:(ints l).length=l.length:=List.length_map _
 refine pure_of Tryz.func106 rfl rfl (by simp [Tryz.f106]) (by simp [bnd,bnd.bndL]) (by simp [bnd,bnd.bndL]) fun B hB hnx=>?_
 simp only [Tryz.f106] at hB ⊢
 refine K_run hB 100 ?_
 simp [go_sem,hil]
 refine K_loopP (α:=Nat) (fun k=>k≤l.length∧idxI p k (l.drop k)=idxI p 0 l) (fun k=>⟨sl [(0,.t (.sl (ints l))),(1,.fn (.func f) [] []),(7,.i l.length),(8,.i k)],noObj,0⟩) (fun k=>l.length-k) 0 ⟨Nat.zero_le _,rfl⟩ (Imp.slots (by simp [go_sem]) rfl rfl) ?_
 rintro k ⟨h1,h2⟩
 refine K_run hB 60 ?_
 simp [go_sem]
 refine fork_dec (fun h=>?_) (fun h=>?_)
 ·rw [List.drop_eq_getElem_cons h,idxI] at h2
  have hkk:IntKind.i64.wrap ((k:Int)+1)=((k+1:Nat):Int):=by rw [w64 ((k:Int)+1) (by omega)];rfl
  have hget:=ints_getS l h
  generalize l[k]=n at *
  have hp:=hf n
  simp [go_sem,h,hil,hget]
  refine K_call rfl rfl rfl (args:=[.i n]) (f:=f) (by simp [go_sem]) (by simp [go_sem,hB]) (hp.spec _ _) ?_
  cases ho:p n with
  |true=>
   rw [ho,if_pos rfl] at h2
   refine K_run hB 100 ?_
   simp [go_sem,←h2]
  |false=>
   rw [ho,if_neg (by simp)] at h2
   refine K_run hB 100 ?_
   simp [go_sem,hkk]
   exact Next.mk (k+1) ⟨by omega,h2⟩ (Imp.slots (by simp [go_sem]) rfl rfl) (by omega)
 ·have:k=l.length:=by omega
  subst this
  rw [List.drop_length] at h2
  simp [go_sem,←h2,idxI]
def bump (s:List Int) (i:Int):List Int:=s.set i.toNat (s.getD i.toNat 0+1)
def Inst.costGo (x:Inst):List (List Int)→Int→List Int→Int×Int
 |[],all,seen=>if (seen.any fun n=>decide (1<n))=true then (0,5) else if ((seen.drop 1).any fun n=>decide (n=0))=true then (0,4) else (all,0)
 |r :: rs,all,seen=>if r.length=0 then (0,1) else if (x.times r).2.2≠0 then (0,(x.times r).2.2) else x.costGo rs (all+(x.times r).2.1) (r.foldl bump seen)
def Inst.cost (x:Inst) (p:List (List Int)):Int×Int:=
 if x.may=false then (0,1) else if x.cars<p.length then (0,6) else x.costGo p 0 (List.replicate (2*x.pairs+1).toNat 0)
theorem bump_len (s:List Int) (i:Int):(bump s i).length=s.length:=List.length_set
end Go.Proofs.YtackfabapangdaaGreat

set_option maxRecDepth 4000
namespace Go.Proofs.YtackfabapangdaaGreat
open Go Go.Proofs.YtackfabapangdaaGreat.R
def lowI (n:Int):Bool:=decide (n≤0)
theorem idxI_at (p:Int→Bool):∀(i:Nat) (l:List Int),idxI p i l<0∨∃j,j<l.length∧idxI p i l=((i+j:Nat):Int)∧p (l.getD j 0)=true∧∀n∈l.take j,p n=false
 |_,[]=>.inl (by simp [idxI])
 |i,n :: l=>by
  rw [idxI]
  cases h:p n with
  |true=>exact .inr ⟨0,by simp,by simp,by simpa using h,by simp⟩
  |false=>
   rcases idxI_at p (i+1) l with h1 | ⟨j,hj,h1,h2,h3⟩
   ·exact .inl (by simpa using h1)
   ·refine .inr ⟨j+1,by simpa using hj,?_,by simpa using h2,?_⟩
    ·rw [if_neg (by simp),h1]
     omega
    ·intro m hm
     rw [List.take_succ_cons] at hm
     rcases List.mem_cons.1 hm with rfl | hm
     ·exact h
     ·exact h3 m hm
def splitF:Nat→List Int→Int→Bool→List (List Int)→List (List Int)×Int
 |0,_,_,_,_=>([],2)
 |f+1,t,last,order,acc=>
  if idxI lowI 0 t<0 then (if (order||decide (t.getD 0 0≤last))=true then ([],8) else (acc++[t],0))
  else if idxI lowI 0 t=0∨t.getD (idxI lowI 0 t).toNat 0<0∨idxI lowI 0 t=(t.length:Int)-1 then ([],2)
  else splitF f (t.drop ((idxI lowI 0 t).toNat+1)) (t.getD 0 0) (order||decide (t.getD 0 0≤last)) (acc++[t.take (idxI lowI 0 t).toNat])
def splitR (t:List Int):List (List Int)×Int:=if t.length=0 then ([],0) else splitF (t.length+1) t 0 false []
theorem low1_pure (n:Int):Pure P 216 [.i n] (.b (lowI n)):=by
 refine pure_of Tryz.func216 rfl rfl (by simp [Tryz.f216]) (by simp [bnd,bnd.bndL]) (by simp [bnd,bnd.bndL]) fun B hB hnx=>?_
 simp only [Tryz.f216] at hB ⊢
 refine K_run hB 100 ?_
 simp [go_sem,lowI]
theorem split_pure (t:List Int) (ht:t.length<2^31):Pure P 179 [.t (.sl (ints t))] (.tup [.agg [.t (.sl ((splitR t).1.map rowT))],.i (splitR t).2]):=by
 generalize hR:splitR t=R
 have hil:(ints t).length=t.length:=List.length_map _
 refine pure_of Tryz.func179 rfl rfl (by simp [Tryz.f179]) (by simp [bnd,bnd.bndL]) (by simp [bnd,bnd.bndL]) fun B hB hnx=>?_
 simp only [Tryz.f179] at hB ⊢
 rw [splitR] at hR
 refine K_run hB 100 ?_
 simp [go_sem]
 refine K_scopeL (α:=Unit) (fun _=>0) (fun _=>False) (fun _=>⟨fun _=>.any,noObj,0⟩) (fun _=>0) (fun _ h=>h.elim) ?_ (fun _ h=>h.elim)
 by_cases c0:t.length=0
 ·rw [if_pos c0] at hR
  subst hR
  refine K_run hB 100 ?_
  simp [go_sem,hil,c0]
 rw [if_neg c0] at hR
 refine K_run hB 100 ?_
 simp [go_sem,hil,c0]
 refine K_call rfl rfl rfl (args:=[.t (.sl (ints t))]) (f:=215) (by simp [go_sem]) (by simp [go_sem,hB]) (clone_spec t (by omega) _ _) ?_
 refine K_run hB 100 ?_
 simp [go_sem]
 refine K_loopP (α:=Nat×List Int×Int×Bool×List (List Int)×(Nat→AObj)×Nat×Nat) (fun (f,t',last,order,acc,σ,nx,q)=>t'.length≠0∧t'.length<f∧acc.length+t'.length≤t.length∧splitF f t' last order acc=R∧σ 0= .box [.fsl []]∧σ 1= .box [.ref q]∧σ q= .arr 1 (acc.map rowT)∧1<q∧q<nx)
  (fun (f,t',last,order,acc,σ,nx,q)=>⟨sl [(0,.t (.sl (ints t'))),(2,.ptr 0 0),(4,.ptr 1 0),(5,.b order),(6,.i last)],σ,nx⟩) (fun a=>a.1) (t.length+1,t,0,false,[],_,4,3) ?_
  ((Imp.freeze (q:=2) (sz:=1) (es:=ints t) (by simp [go_sem])).trans ((Imp.ownB (b:=1) (off:=0) (sz:=1) (cs:=[.fsl []]) (by simp [go_sem,frzO,frz1,frz1.frzL]) rfl).trans (Imp.slots (by simp [go_sem,frz1]) rfl rfl))) ?_
 ·exact ⟨c0,by omega,by simp,hR,by simp [oput,frzO,frz1,frz1.frzL],by simp [oput],by simp [oput],by omega,by omega⟩
 rintro ⟨f,t',last,order,acc,σ,nx,q⟩ ⟨g1,g2,g3,g4,g5,g6,g7,g8,g9⟩
 obtain ⟨f,rfl⟩:∃f',f=f'+1:=⟨f-1,by omega⟩
 have hil2:(ints t').length=t'.length:=List.length_map _
 have hlt0:0<t'.length:=by omega
 have hix:=indexI_pure t' lowI 216 (by omega) low1_pure
 have hat:=idxI_at lowI 0 t'
 rw [splitF] at g4
 have hhd:t'.getD 0 0=t'[0]'hlt0:=by rw [List.getD_eq_getElem?_getD,List.getElem?_eq_getElem hlt0];rfl
 have hget0:=ints_getS t' (i:=0) hlt0
 rw [hhd] at g4
 generalize idxI lowI 0 t'=e at *
 refine K_run hB 100 ?_
 simp [go_sem,hil2]
 refine K_call rfl rfl rfl (args:=[.t (.sl (ints t')),.fn (.func 216) [] []]) (f:=106) (by simp [go_sem]) (by simp [go_sem,hB]) ((hix).spec _ _) ?_
 have hm1:(acc.map rowT).length+1≤mostLen:=by rw [List.length_map];show _≤4294967296;omega
 have hm2:acc.length+1≤mostLen:=by show _≤4294967296;omega
 have hone:∀y∈ints t',y.length=1:=by
  intro y hy
  simp only [ints,List.mem_map] at hy
  obtain ⟨n,_,rfl⟩:=hy
  rfl
 have htl:List.take t'.length (ints t')=ints t':=by rw [←hil2,List.take_length]
 by_cases c1:e<0
 ·rw [if_pos c1] at g4
  cases order<;>by_cases c2:t'[0]≤last
  all_goals
   simp only [c2,Bool.false_or,Bool.true_or,decide_true,decide_false,if_true,Bool.false_eq_true,if_false] at g4
   subst g4
   refine K_run hB 100 ?_
   simp [go_sem,c1,hil2,hlt0,hget0,c2]
   refine K_drawnT [7,9] rfl (by rw [hB];kernel_rfl) (by kernel_rfl) fun ht=>?_
   refine K_run hB 100 ?_
   simp [go_sem,ht,hil2,g5,g6,g7,hm1,hm2,if_pos hone,hone,htl,show ¬1=nx by omega,show ¬1=q by omega,show ¬0=nx by omega,show ¬0=q by omega,show ¬nx=0 by omega,show ¬nx=1 by omega,rowT]
 ·rw [if_neg c1] at g4
  obtain ⟨j,hj,rfl,k2,k3⟩:=hat.resolve_left c1
  have hgetj:=ints_getS t' hj
  have hge:t'.getD j 0=t'[j]:=by rw [List.getD_eq_getElem?_getD,List.getElem?_eq_getElem hj];rfl
  simp only [Nat.zero_add,Int.toNat_natCast] at g4 c1 ⊢
  rw [hge] at g4
  have hjI:(j:Int)<t'.length:=by omega
  have hjle:j≤t'.length:=by omega
  have htj:List.take j (ints t')=ints (t'.take j):=by simp [ints,List.map_take]
  have hdj:List.drop (j+1) (ints t')=ints (t'.drop (j+1)):=by simp [ints,List.map_drop]
  have wj:IntKind.i64.wrap ((j:Int)+1)=((j+1:Nat):Int):=by rw [w64 _ (by omega)];rfl
  have w1:=w64 ((t'.length:Int)-1) (by omega)
  by_cases d1:j=0
  ·rw [if_pos (.inl (by omega))] at g4
   subst g4
   refine K_run hB 100 ?_
   simp [go_sem,c1,hil2,d1,g5]
  by_cases d2:t'[j]<0
  ·rw [if_pos (.inr (.inl d2))] at g4
   subst g4
   refine K_run hB 100 ?_
   simp [go_sem,c1,hil2,d1,hj,hgetj,d2,g5]
  by_cases d3:(j:Int)=(t'.length:Int)-1
  ·rw [if_pos (.inr (.inr d3))] at g4
   subst g4
   have hv:IntKind.i64.wrap ((t'.length:Int)-1)=j:=by rw [w1];omega
   refine K_run hB 100 ?_
   simp [go_sem,c1,hil2,d1,hj,hgetj,d2,hv,g5]
  rw [if_neg (by omega)] at g4
  refine K_run hB 100 ?_
  simp [go_sem,c1,hil2,d1,hj,hgetj,d2,w1,d3]
  cases order<;>by_cases c2:t'[0]≤last
  all_goals
   simp only [c2,Bool.false_or,Bool.true_or,decide_true,decide_false] at g4
   simp [go_sem,c1,hil2,hlt0,hget0,c2]
   refine K_drawnT [7,9] rfl (by rw [hB];kernel_rfl) (by kernel_rfl) fun ht=>?_
   refine K_run hB 100 ?_
   simp [go_sem,ht,hil2,g5,g6,g7,hm1,hm2,if_pos hone,hone,hjle,htj,hdj,show ¬1=nx by omega,show ¬1=q by omega,show ¬0=nx by omega,show ¬0=q by omega,show ¬j=t'.length by omega,wj,show 0≤(j:Int)+1 by omega,show (j:Int)+1≤t'.length by omega]
   refine Next.mk (f,t'.drop (j+1),t'[0],_,acc++[t'.take j],_,nx+1,nx) ⟨?_,?_,?_,g4,?_,?_,?_,?_,?_⟩ (Imp.slots (by simp [go_sem,hdj,c2]) rfl rfl) (by simp only;omega)
   ·simp only [List.drop_eq_nil_iff];omega
   ·simp only [List.length_drop];omega
   ·simp only [List.length_drop,List.length_append,List.length_cons,List.length_nil];omega
   ·simp [oput,show ¬0=nx by omega,show ¬0=q by omega,g5]
   ·simp [oput]
   ·simp [oput,show ¬nx=1 by omega,rowT]
   ·simp only;omega
   ·simp only;omega
end Go.Proofs.YtackfabapangdaaGreat

set_option maxRecDepth 4000
namespace Go.Proofs.YtackfabapangdaaGreat
open Go Go.Proofs.YtackfabapangdaaGreat.R
structure Sim1 (x:Inst) (p m0:Nat) (s:State) (c:Car) (k:Nat):Prop where
 spot:c.spot=s.spot
 now:c.now=s.time
 load:c.load=s.load
 on:c.on=s.on
 seen:∀i,1≤i→i≤2*p→s.must.testBit i=(m0.testBit i||c.seen.testBit i)
 old:∀i,1≤i→i≤p→m0.testBit i=true→m0.testBit (i+p)=true
 fit:c.Fit p k
 good:Good x p s
theorem Sim1.step {x:Inst} {p m0 k:Nat} {s:State} {c:Car} {j:Int} (hx:x.Fit p) (h:Sim1 x p m0 s c k) (hj:j≠0) (hm:(x.move s j).2.2=true):
  (x.visitC c j).2=0∧Sim1 x p m0 (x.move s j).1 (x.visitC c j).1 (k+1)∧(x.visitC c j).1.gone=c.gone+(x.move s j).2.1:=by
 obtain ⟨g1,g2,g3,g4,g5,g6⟩:=good_step hx h.good hm
 obtain ⟨m1,m2,m3,m4,m5,m6,m7,m8⟩:=move_pos hm hj
 have hp:=hx.pairs
 have hfew:=hx.few
 obtain ⟨i,rfl⟩:∃i:Nat,j=i:=⟨j.toNat,by omega⟩
 simp only [Inst.lateB,Bool.or_eq_false_iff,decide_eq_false_iff_not] at m5
 rw [has_testN (by omega)] at m5
 have hs:=h.seen i (by omega) (by omega)
 rw [m5.1] at hs
 have hv:x.visitsE c i=0:=by
  rw [Inst.visitsE,if_neg (by omega),if_neg,if_neg,if_neg]
  ·rw [h.load]
   by_cases hi:(i:Int)≤x.pairs
   ·have:=m6 hi
    simp only [Inst.fullB,Bool.or_eq_false_iff,decide_eq_false_iff_not] at this
    omega
   ·have hb:=hx.bring (k:=i-p) (by omega) (by omega)
    have ht:=hx.take (k:=i-p) (by omega) (by omega)
    have hr:=h.good.room
    rw [show i-p+p=i by omega] at hb
    omega
  ·rintro ⟨hi,hq⟩
   have:=m7 hi
   simp only [Inst.emptyB,Bool.or_eq_false_iff,Bool.not_eq_false',decide_eq_false_iff_not] at this
   have e:(i:Int)-x.pairs=((i-p:Nat):Int):=by omega
   rw [e] at this hq
   rw [has_testN (by omega),h.good.eq] at this
   rw [has_testN (by omega)] at hq
   have h1:=h.seen (i-p) (by omega) (by omega)
   rw [this.2,hq,Bool.or_false] at h1
   have h2:=h.old (i-p) (by omega) (by omega) h1.symm
   rw [show i-p+p=i by omega] at h2
   rw [h2] at hs
   cases hs
  ·rw [has_testN (by omega)]
   intro hq
   rw [hq,Bool.or_true] at hs
   cases hs
 have hfar:x.visitC c i=({spot:=i,now:=x.begins s i+(x.stop i).service,gone:=c.gone+far (x.stop s.spot) (x.stop i),load:=s.load+(x.stop i).demand,seen:=withN c.seen i,on:=if (i:Int)≤x.pairs then withN s.on i else withoutN s.on (i-x.pairs),times:=c.times++[[.i (s.time+far (x.stop s.spot) (x.stop i)),.i (x.begins s i),.i (x.begins s i+(x.stop i).service)]],loads:=c.loads++[s.load+(x.stop i).demand]},0):=by
  rw [Inst.visitC,if_neg (by simp [hv]),h.spot,h.now,h.load,h.on,if_neg]
  ·rfl
  ·have:=m5.2
   unfold Inst.begins at this
   exact this
 have hfit:=visitC_fit hx h.fit (i:=i) (by rw [hfar])
 rw [hfar] at hfit ⊢
 rw [if_pos (by omega)] at g4 g6
 refine ⟨rfl,⟨?_,?_,?_,?_,?_,h.old,hfit,g1⟩,?_⟩
 ·rw [m8];rfl
 ·rw [m8];rfl
 ·rw [g6]
 ·rw [m8];rfl
 ·intro n n1 n2
  rw [g4,with_bit (by omega),with_bit (by omega),h.seen n n1 n2,Bool.or_assoc]
 ·rw [m8]
def MatchS (p must:Nat) (seen:List Int):Prop:=seen.length=2*p+1∧∀i (h:i<seen.length),seen[i]=if 1≤i∧must.testBit i=true then 1 else 0
theorem MatchS.bump {p must:Nat} {seen:List Int} (h:MatchS p must seen) {j:Nat} (h1:1≤j) (h2:j≤2*p) (h64:j≤63) (hn:must.testBit j=false):MatchS p (withN must j) (bump seen j):=by
 obtain ⟨hl,hs⟩:=h
 refine ⟨by rw [bump_len];exact hl,fun i hi=>?_⟩
 have hi':i<seen.length:=by rw [bump_len] at hi;exact hi
 have e:seen.getD j 0=seen[j]:=by rw [List.getD_eq_getElem?_getD,List.getElem?_eq_getElem (by omega)];rfl
 have h0:=hs j (by omega)
 rw [if_neg (by simp [hn])] at h0
 simp only [Go.Proofs.YtackfabapangdaaGreat.bump,Int.toNat_natCast,e,h0,List.getElem_set,with_bit h64]
 by_cases hji:j=i
 ·subst hji
  simp [h1]
 ·rw [if_neg hji,hs i hi']
  simp [hji]
theorem MatchS.end {p must:Nat} {seen:List Int} (h:MatchS p must seen) (ha:∀i,1≤i→i≤2*p→must.testBit i=true):(seen.any fun n=>decide (1<n))=false∧((seen.drop 1).any fun n=>decide (n=0))=false:=by
 obtain ⟨hl,hs⟩:=h
 constructor
 ·rw [List.any_eq_false]
  intro n hn
  obtain ⟨i,hi,rfl⟩:=List.mem_iff_getElem.1 hn
  rw [hs i hi]
  split<;>simp
 ·rw [List.any_eq_false]
  intro n hn
  obtain ⟨i,hi,rfl⟩:=List.mem_iff_getElem.1 hn
  rw [List.getElem_drop,hs (1+i) (by rw [List.length_drop] at hi;omega),if_pos ⟨by omega,ha _ (by omega) (by rw [List.length_drop] at hi;omega)⟩]
  simp
theorem runC_cons {x:Inst} {i:Int} {r:List Int} {c:Car} (h:(x.visitC c i).2=0):x.runC (i :: r) c=x.runC r (x.visitC c i).1:=by
 rw [Inst.runC,if_neg (by simp [h])]
theorem route_rest {x:Inst} {p m0:Nat} (hx:x.Fit p) (h0:x.pairs≠0):∀(path:List Int) (s:State) (c:Car) (k:Nat) (d:Int),Sim1 x p m0 s c k→s.spot≠0→x.way path s d→
  ∃r rest c',path=r++rest∧(∀i∈r,0<i)∧x.runC r c=(c',0)∧
   ((rest=[]∧d=c'.gone-c.gone∧∀seen,MatchS p s.must seen→∃must,MatchS p must (r.foldl bump seen)∧∀i,1≤i→i≤2*p→must.testBit i=true)∨
    (∃path' s' d',rest=0 :: path'∧d=c'.gone-c.gone+d'∧x.way path' s' d'∧s'.spot=0∧s'.on=0∧s'.load=0∧s'.time=(x.stop 0).ready∧s'.first=s.first∧s'.car=s.car+1∧s.car<x.cars∧Good x p s'∧∀seen,MatchS p s.must seen→MatchS p s'.must (r.foldl bump seen)))
 |[],s,c,k,d,hs,hsp,hw=>by
  obtain ⟨w1,w2⟩:=hw
  obtain ⟨e1,e2 | ⟨e2,e3,e4,e5,e6,e7⟩⟩:=end_is w1
  ·exact absurd e2.1 h0
  ·refine ⟨[],[],x.drive c 0,rfl,by simp,?_,.inl ⟨rfl,?_,fun seen hm=>⟨s.must,hm,fun i i1 i2=>?_⟩⟩⟩
   ·rw [Inst.runC,Inst.homeC,hs.on,hs.now,hs.spot,if_neg (by simp [e4]),if_neg (by omega)]
   ·rw [w2,e7]
    show _=c.gone+far (x.stop c.spot) (x.stop 0)-c.gone
    rw [hs.spot]
    simp only
    omega
   ·rw [←hs.good.eq]
    exact Inst.all_bit hx e5 i1 i2
 |j :: path,s,c,k,d,hs,hsp,hw=>by
  obtain ⟨w1,d',w2,w3⟩:=hw
  by_cases hj:j=0
  ·subst hj
   obtain ⟨g1,g2,g3,g4⟩:=move_home w1
   have hgs:=(good_step hx hs.good w1).1
   simp only [Inst.stayB,Bool.or_eq_false_iff,decide_eq_false_iff_not] at g3
   obtain ⟨⟨⟨⟨a1,a2⟩,a3⟩,a4⟩,a5⟩:=g3
   rw [g4] at w2 w3 hgs
   have hon:s.on=0:=by omega
   refine ⟨[],0 :: path,x.drive c 0,rfl,by simp,?_,.inr ⟨path,x.homeS s,d',rfl,?_,w2,rfl,hon,rfl,rfl,rfl,rfl,by omega,hgs,fun seen hm=>hm⟩⟩
   ·rw [Inst.runC,Inst.homeC,hs.on,hs.now,hs.spot,if_neg (by simp [hon]),if_neg (by omega)]
   ·show _=c.gone+far (x.stop c.spot) (x.stop 0)-c.gone+d'
    rw [hs.spot,w3]
    simp only
    omega
  ·obtain ⟨v1,v2,v3⟩:=hs.step hx hj w1
   obtain ⟨b1,b2,b3,b4,_,_⟩:=good_step hx hs.good w1
   obtain ⟨_,_,p3,p4,p5,_,_,m8⟩:=move_pos w1 hj
   have hfew:=hx.few
   rw [if_pos p3] at b4
   have hsp':(x.move s j).1.spot≠0:=by rw [m8];exact hj
   have hfi:(x.move s j).1.first=s.first:=by rw [m8];show (if s.spot=0 then j else s.first)=s.first;rw [if_neg hsp]
   have hca:(x.move s j).1.car=s.car:=by rw [m8];rfl
   obtain ⟨r,rest,c',q1,q2,q3,q4⟩:=route_rest hx h0 path _ _ _ d' v2 hsp' w2
   have hmt:∀seen,MatchS p s.must seen→MatchS p (x.move s j).1.must (bump seen j):=fun seen hm=>by
    obtain ⟨i,rfl⟩:∃i:Nat,j=i:=⟨j.toNat,by omega⟩
    simp only [Inst.lateB,Bool.or_eq_false_iff] at p5
    have:=p5.1
    rw [has_testN (by omega)] at this
    rw [b4]
    exact hm.bump (by omega) (by omega) (by omega) this
   refine ⟨j :: r,rest,c',by rw [q1];rfl,fun i hi=>?_,by rw [runC_cons v1];exact q3,?_⟩
   ·rcases List.mem_cons.1 hi with rfl | hi
    ·exact p3
    ·exact q2 i hi
   ·rcases q4 with ⟨t1,t2,t3⟩ | ⟨path',s',d2,t1,t2,t3,t4,t5,t6,t7,t8,t9,t10,t11,t12⟩
    ·exact .inl ⟨t1,by omega,fun seen hm=>t3 _ (hmt seen hm)⟩
    ·exact .inr ⟨path',s',d2,t1,by omega,t3,t4,t5,t6,t7,by rw [t8,hfi],by rw [t9,hca],by omega,t11,fun seen hm=>t12 _ (hmt seen hm)⟩
theorem idx_none:∀(l:List Int) (k:Nat),(∀i∈l,0<i)→idxI lowI k l= -1
 |[],_,_=>rfl
 |i :: l,k,h=>by
  have:=h i List.mem_cons_self
  rw [idxI,if_neg (by simp [lowI];omega)]
  exact idx_none l (k+1) fun j hj=>h j (List.mem_cons_of_mem _ hj)
theorem idx_zero:∀(l m:List Int) (k:Nat),(∀i∈l,0<i)→idxI lowI k (l++0 :: m)=((k+l.length:Nat):Int)
 |[],m,k,_=>by rw [List.nil_append,idxI,if_pos (by simp [lowI])];simp
 |i :: l,m,k,h=>by
  have:=h i List.mem_cons_self
  rw [List.cons_append,idxI,if_neg (by simp [lowI];omega),idx_zero l m (k+1) fun j hj=>h j (List.mem_cons_of_mem _ hj),List.length_cons]
  congr 1
  omega
theorem yard_split {x:Inst} {p:Nat} (hx:x.Fit p) (hm:x.may=true) (h0:x.pairs≠0):∀(f:Nat) (path:List Int) (s:State) (d:Int) (acc:List (List Int)),path.length<f→s.spot=0→s.on=0→s.load=0→s.time=(x.stop 0).ready→Good x p s→x.way path s d→
  path≠[]∧∃routes,splitF f path s.first false acc=(acc++routes,0)∧(routes.length:Int)+s.car≤x.cars+1∧∀all seen,MatchS p s.must seen→x.costGo routes all seen=(all+d,0)
 |0,path,s,d,acc,hf,_,_,_,_,_,_=>absurd hf (by omega)
 |f+1,[],s,d,acc,_,hsp,_,_,_,_,hw=>by
  obtain ⟨w1,w2⟩:=hw
  obtain ⟨e1,e2 | ⟨e2,e3,_⟩⟩:=end_is w1
  ·exact absurd e2.1 h0
  ·exact absurd hsp e3
 |f+1,j :: path,s,d,acc,hf,hsp,hon,hld,hti,hg,hw=>by
  refine ⟨by simp,?_⟩
  obtain ⟨w1,d1,w2,w3⟩:=hw
  have hj:j≠0:=by
   intro e
   subst e
   obtain ⟨_,_,g3,_⟩:=move_home w1
   simp [Inst.stayB,hsp] at g3
  have hs:Sim1 x p s.must s x.car0 0:=by
   refine ⟨hsp.symm,hti.symm,hld.symm,hon.symm,fun i _ _=>by simp [Inst.car0],fun i i1 i2 h=>?_,car0_fit hx,hg⟩
   have:=hg.on i i1 i2
   rw [hon,Nat.zero_testBit,h] at this
   simpa using this.symm
  obtain ⟨v1,v2,v3⟩:=hs.step hx hj w1
  obtain ⟨b1,b2,b3,b4,_,_⟩:=good_step hx hg w1
  obtain ⟨_,hmay,p3,p4,p5,p6,p7,m8⟩:=move_pos w1 hj
  have hfew:=hx.few
  have hp:=hx.pairs
  rw [if_pos p3] at b4
  have hjp:j≤x.pairs:=by
   by_cases c:j≤x.pairs
   ·exact c
   ·have:=p7 (by omega)
    simp [Inst.emptyB,hsp] at this
  have hfirst:s.first<j:=by
   have:=p6 hjp
   simp only [Inst.fullB,Bool.or_eq_false_iff,Bool.and_eq_false_iff,decide_eq_false_iff_not] at this
   rcases this.2 with h | h
   ·exact absurd hsp h
   ·omega
  have hsp':(x.move s j).1.spot≠0:=by rw [m8];exact hj
  have hfi:(x.move s j).1.first=j:=by rw [m8];show (if s.spot=0 then j else s.first)=j;rw [if_pos hsp]
  have hca:(x.move s j).1.car=s.car:=by rw [m8];rfl
  have hmt:∀seen,MatchS p s.must seen→MatchS p (x.move s j).1.must (bump seen j):=fun seen hm=>by
   obtain ⟨i,rfl⟩:∃i:Nat,j=i:=⟨j.toNat,by omega⟩
   simp only [Inst.lateB,Bool.or_eq_false_iff] at p5
   have:=p5.1
   rw [has_testN (by omega)] at this
   rw [b4]
   exact hm.bump (by omega) (by omega) (by omega) this
  obtain ⟨r,rest,c',q1,q2,q3,q4⟩:=route_rest hx h0 path _ _ _ d1 v2 hsp' w2
  have hpos:∀i∈j :: r,0<i:=fun i hi=>by
   rcases List.mem_cons.1 hi with rfl | hi
   ·exact p3
   ·exact q2 i hi
  have hrun:x.runC (j :: r) x.car0=(c',0):=by rw [runC_cons v1];exact q3
  have htimes:x.times (j :: r)=(c'.times,c'.gone,0):=by rw [Inst.times,if_neg (by simp [hm]),hrun];rfl
  have hg0:x.car0.gone=0:=rfl
  have hcgo:∀rs all seen,x.costGo ((j :: r) :: rs) all seen=x.costGo rs (all+c'.gone) (r.foldl bump (bump seen j)):=fun rs all seen=>by
   rw [Inst.costGo,if_neg (by simp),htimes]
   simp
  rw [List.length_cons] at hf
  have hsc:=s.fit hx hmay
  have hlast:(false||decide (j≤s.first))=false:=by rw [Bool.false_or];exact decide_eq_false (by omega)
  rcases q4 with ⟨t1,t2,t3⟩ | ⟨path',s',d2,t1,t2,t3,t4,t5,t6,t7,t8,t9,t10,t11,t12⟩
  ·subst t1
   rw [List.append_nil] at q1
   subst q1
   refine ⟨[j :: path],?_,?_,?_⟩
   ·rw [splitF,if_pos (by rw [idx_none _ 0 hpos];omega),List.getD_cons_zero,hlast]
    rfl
   ·have:=hsc.car
    simp only [List.length_cons,List.length_nil]
    omega
   ·intro all seen hms
    obtain ⟨must,k1,k2⟩:=t3 _ (hmt seen hms)
    obtain ⟨k3,k4⟩:=k1.end k2
    rw [hcgo,Inst.costGo,k3,k4]
    simp only [Bool.false_eq_true,if_false]
    congr 1
    omega
  ·subst t1
   subst q1
   rw [List.length_append,List.length_cons] at hf
   obtain ⟨y1,routes,y2,y3,y4⟩:=yard_split hx hm h0 f path' s' d2 (acc++[j :: r]) (by omega) t4 t5 t6 t7 t11 t3
   have hlen':path'.length≠0:=fun e=>y1 (List.eq_nil_of_length_eq_zero e)
   have hidx:idxI lowI 0 (j :: (r++0 :: path'))=((0+(j :: r).length:Nat):Int):=idx_zero (j :: r) path' 0 hpos
   rw [Nat.zero_add] at hidx
   refine ⟨(j :: r) :: routes,?_,?_,?_⟩
   ·rw [splitF,hidx,if_neg (by omega),if_neg,Int.toNat_natCast,List.getD_cons_zero,hlast]
    ·have e1:(j :: (r++0 :: path')).drop ((j :: r).length+1)=path':=by
      have:(j :: (r++0 :: path'))=(j :: r++[0])++path':=by simp
      rw [this,List.drop_left' (by simp)]
     have e2:(j :: (r++0 :: path')).take (j :: r).length=j :: r:=by
      have:(j :: (r++0 :: path'))=(j :: r)++(0 :: path'):=by simp
      rw [this,List.take_left' rfl]
     rw [e1,e2]
     rw [t8,hfi] at y2
     rw [y2,List.append_assoc]
     rfl
    ·have e3:(j :: (r++0 :: path')).getD ((j :: r).length:Int).toNat 0=0:=by
      have:(j :: (r++0 :: path'))=(j :: r)++(0 :: path'):=by simp
      rw [Int.toNat_natCast,this,List.getD_eq_getElem?_getD,List.getElem?_append_right (Nat.le_refl _)]
      simp
     rw [e3]
     simp only [List.length_cons,List.length_append]
     omega
   ·rw [t9,hca] at y3
    simp only [List.length_cons]
    omega
   ·intro all seen hms
    rw [hcgo,y4 _ _ (t12 _ (hmt seen hms))]
    congr 1
    omega
theorem tour_plain {x:Inst} (hm:x.may=true) {path:List Int} {d:Int} (hw:x.way path x.rootS d):(splitR path).2=0∧x.cost (splitR path).1=(d,0):=by
 obtain ⟨p,hx⟩:=x.fit hm
 have hp:=hx.pairs
 have hc:=hx.cars
 have hroot:x.rootS={State.zero with car:=1,time:=(x.stop 0).ready}:=by rw [Inst.rootS,if_pos hm]
 have hms:MatchS p 0 (List.replicate (2*x.pairs+1).toNat 0):=by
  refine ⟨by rw [List.length_replicate];omega,fun i hi=>?_⟩
  simp
 by_cases h0:x.pairs=0
 ·match path,hw with
  |[],hw=>
   have hd:d=0:=by
    obtain ⟨e1,e2 | ⟨e2,e3,_⟩⟩:=end_is hw.1
    ·rw [hw.2,e2.2.2]
    ·rw [hroot] at e3;exact absurd rfl e3
   have e:splitR []=([],0):=rfl
   rw [e]
   refine ⟨rfl,?_⟩
   obtain ⟨k3,k4⟩:=hms.end (fun i i1 i2=>by omega)
   rw [Inst.cost,if_neg (by simp [hm]),if_neg (by simp only [List.length_nil];omega),Inst.costGo,k3,k4,hd]
   simp
  |j :: path,hw=>exact absurd h0 (move_pairs hw.1)
 ·obtain ⟨y1,routes,y2,y3,y4⟩:=yard_split hx hm h0 (path.length+1) path x.rootS d [] (by omega) (by rw [hroot];rfl) (by rw [hroot];rfl) (by rw [hroot];rfl) (by rw [hroot]) (good_root hx hm) hw
  have hf:x.rootS.first=0:=by rw [hroot];rfl
  have hca:x.rootS.car=1:=by rw [hroot]
  have hmu:x.rootS.must=0:=by rw [hroot];rfl
  rw [hf] at y2
  rw [hca] at y3
  rw [hmu] at y4
  have hne:¬path.length=0:=fun e=>y1 (List.eq_nil_of_length_eq_zero e)
  rw [splitR,if_neg hne,y2]
  refine ⟨rfl,?_⟩
  show x.cost ([]++routes)=(d,0)
  rw [List.nil_append,Inst.cost,if_neg (by simp [hm]),if_neg (by omega),y4 _ _ hms]
  simp
end Go.Proofs.YtackfabapangdaaGreat

set_option maxRecDepth 4000
namespace Go.Proofs.YtackfabapangdaaGreat
open Go Go.Proofs.YtackfabapangdaaGreat.R
structure Track (x:Inst) (n:Node):Prop where
 goes:x.goes n.path x.rootS 0=some (n.s,n.cost)
 is:n.s.Is n.s.spot
 cost:0≤n.cost∧n.cost≤14143*(n.path.length:Int)
 len:n.path.length+x.meas n.s≤x.meas x.rootS
theorem track_root {x:Inst} (hm:x.may=true):Track x x.rootN:=
 ⟨rfl,⟨rfl,rootS_ok x,pos_root hm,seen_root x⟩,by simp [Inst.rootN],by simp [Inst.rootN]⟩
theorem Track.few {x:Inst} {n:Node} (h:Track x n):n.path.length≤40:=by
 have:=h.len
 have:=meas_le x x.rootS
 omega
theorem Track.child {x:Inst} {n:Node} (h:Track x n) {j:Int} (hj:(x.move n.s j).2.2=true):Track x (x.child n j):=by
 have hc:=move_cost hj
 have hl:=h.cost
 have hf:=h.few
 have e:(x.child n j).cost=n.cost+(x.move n.s j).2.1:=sumI_two hl.1 hc.1 (by omega)
 have hm:=meas_move hj
 have hlen:(n.path++[j]).length=n.path.length+1:=by simp
 refine ⟨?_,h.is.move hj,?_,?_⟩
 ·show x.goes (n.path++[j]) x.rootS 0=some ((x.move n.s j).1,(x.child n j).cost)
  rw [goes_app,h.goes,Option.bind_some]
  show x.goes [j] n.s n.cost=_
  rw [Inst.goes,if_pos hj,w64 _ (by omega),e]
  rfl
 ·rw [e]
  show _∧_≤14143*((n.path++[j]).length:Int)
  rw [hlen]
  omega
 ·show (n.path++[j]).length+x.meas (x.move n.s j).1≤_
  rw [hlen]
  have:=h.len
  omega
theorem layN_track {x:Inst} {n:Node} (h:Track x n) (up:Int):∀(k:Nat),∀m∈x.layN up n k,Track x m∧m.path.length=n.path.length+k
 |0,m,hm=>by rw [List.mem_singleton.1 hm];exact ⟨h,rfl⟩
 |k+1,m,hm=>by
  obtain ⟨q,hq,j,hj,rfl,_⟩:=next_mem hm
  obtain ⟨h1,h2⟩:=layN_track h up k q hq
  refine ⟨h1.child (moves_mem hj),?_⟩
  show (q.path++[j]).length=_
  rw [List.length_append,h2]
  simp only [List.length_cons,List.length_nil]
  omega
theorem Track.wl {x:Inst} {l:List Node} (h:∀n∈l,Track x n) {r:Nat} (hr:r≤1000):WL x l r:=
 ⟨fun n hn=>(h n hn).is,fun n hn=>by have:=(h n hn).cost;have:=(h n hn).few;omega⟩
theorem Track.way {x:Inst} {n:Node} (h:Track x n) {v:List Int} {c:Int} (hv:x.way v n.s c):x.way (n.path++v) x.rootS (n.cost+c):=by
 have hf:=h.few
 have:=way_app (c0:=0) (by omega) (by omega) h.goes hv
 rwa [show n.cost-0+c=n.cost+c by omega] at this
theorem deep_may {x:Inst} (hm:x.may=true):x.deep=2*x.pairs+x.cars-1:=by rw [Inst.deep,if_pos hm]
theorem deep_meas {x:Inst} (hm:x.may=true):(x.meas x.rootS:Int)≤x.deep∧x.deep≤39:=by
 obtain ⟨p,hx⟩:=x.fit hm
 have h1:=meas_rootC hx hm
 have:=hx.pairs
 have:=hx.few
 have:=hx.cars
 rw [deep_may hm]
 omega
theorem build_way {x:Inst} (hst:x.stops.length<2^31) (hm:x.may=true) {n:Node} (h:Track x n) (w up:Int) {v:List Int} {c:Int} (hv:x.way v n.s c) (hlt:n.cost+c<up):(x.build n w up).low≤n.cost+c:=by
 have h1:=deep_meas hm
 have h2:=way_len hv
 have h3:=h.len
 rw [Inst.build]
 exact buildGo_way hst w up _ _ _ _ _ _ (Track.wl (fun m hm=>by rw [List.mem_singleton.1 hm];exact h) (by omega)) n List.mem_cons_self v c hv hlt (by simp only [List.length_nil];omega) (by omega)
theorem build_ok (x:Inst) (n:Node) (w up:Int):(x.build n w up).Ok x up n:=by
 rw [Inst.build]
 refine buildGo_sure w up _ n _ _ _ _ _ ⟨fun i hi=>by simp at hi,by simp⟩ (fun _=>rfl) (fun k hk=>by cases hk) (fun _=>by simp) (by omega) (fun k hk=>by cases hk) ?_ (.inr rfl)
 simp only [List.length_nil]
 omega
theorem build_lay {x:Inst} (n:Node) (w up:Int) (h:1≤x.mostN w):∀k∈(x.build n w up).layers.drop 1,k≠[]∧k.length≤x.mostN w:=
 buildGo_lay w up _ _ _ _ _ _ (by simpa using h) (fun k hk=>by simp at hk)
theorem build_count (x:Inst) (n:Node) (w up:Int):((x.build n w up).layers.length:Int)≤max 1 (x.deep-n.path.length+1):=by
 have:=buildGo_count (x:=x) w up (x.deep-n.path.length) ((x.deep-n.path.length).toNat+2) [] up none [n]
 rw [Inst.build]
 simp only [List.length_nil] at this
 omega
end Go.Proofs.YtackfabapangdaaGreat

set_option maxRecDepth 4000
namespace Go.Proofs.YtackfabapangdaaGreat
open Go Go.Proofs.YtackfabapangdaaGreat.R
structure Ent where
 bound:Int
 depth:Int
 no:Nat
 deriving DecidableEq
structure SS where
 subs:List Node
 q:List Ent
 up:Int
 plan:List (List Int)
 steps:Int
 log:List (Node×Diag)
def SS.offer (s:SS) (b:Node×Bool):SS:=if b.2=true∧b.1.cost<s.up then {s with up:=b.1.cost,plan:=(splitR b.1.path).1} else s
def Inst.push (x:Inst) (low:Int) (s:SS) (n:Node):SS:=
 if max low (x.of n)<s.up then {s with q:=s.q++[⟨max low (x.of n),n.path.length,s.subs.length⟩],subs:=s.subs++[n]} else s
def Inst.offers (x:Inst) (s:SS) (ls:List (List Node)):SS:=ls.foldl (fun s l=>s.offer (x.bests l)) s
def Inst.branch (x:Inst) (d:Diag) (s:SS):SS:=(d.layers.getD (d.sure-1) []).foldl (x.push d.low) (x.offers s (d.layers.take (d.sure-1)))
def sizes (ls:List (List Node)):Nat:=(ls.map List.length).sum
def SS.plus (s:SS) (k:Int):SS:={s with steps:=s.steps+k}
def SS.nar (x:Inst) (w:Int) (s:SS) (n:Node):SS:=(s.plus (x.narrow n w s.up).2.2).offer ((x.narrow n w s.up).1,(x.narrow n w s.up).2.1)
def SS.dia (s:SS) (n:Node) (d:Diag):SS:={s with steps:=s.steps+sizes d.layers,log:=s.log++[(n,d)]}
def SS.exa (x:Inst) (w:Int) (s:SS) (n:Node):SS:=(s.plus (x.exact n s.up (x.mostN w)).2.2.2).offer ((x.exact n s.up (x.mostN w)).1,(x.exact n s.up (x.mostN w)).2.1)
def Inst.lookD (x:Inst) (w:Int) (s:SS) (n:Node) (d:Diag):SS:=if s.up≤d.low then s.dia n d else if d.exact=true then (s.dia n d).exa x w n else x.branch d (s.dia n d)
def Inst.lookS (x:Inst) (w:Int) (s:SS) (n:Node):SS:=x.lookD w (s.nar x w n) n (x.build n w (s.nar x w n).up)
def Inst.goesOn (x:Inst) (n:Node) (c:Int):Prop:=∃v d,x.way v n.s d∧n.cost+d≤c
structure Found (x:Inst) (s:SS):Prop where
 le:s.up≤inf
 plan:s.up<inf→x.cost s.plan=(s.up,0)
structure SInv (x:Inst) (s:SS):Prop where
 track:∀n∈s.subs,Track x n
 nos:∀e∈s.q,∃n,s.subs[e.no]? =some n
 bound:∀e∈s.q,∀n,s.subs[e.no]? =some n→∀v c,x.way v n.s c→n.cost+c<s.up→e.bound≤n.cost+c
 found:Found x s
def SS.Covers (x:Inst) (s:SS) (more:Int→Prop):Prop:=∀v c,x.way v x.rootS c→c<s.up→more c∨∃e∈s.q,∃n,s.subs[e.no]? =some n∧x.goesOn n c
theorem offer_up (s:SS) (b:Node×Bool):(s.offer b).up≤s.up∧(s.offer b).subs=s.subs∧(s.offer b).q=s.q∧(s.offer b).log=s.log∧(s.offer b).steps=s.steps:=by
 unfold SS.offer
 split
 ·rename_i h
  exact ⟨Int.le_of_lt h.2,rfl,rfl,rfl,rfl⟩
 ·exact ⟨Int.le_refl _,rfl,rfl,rfl,rfl⟩
theorem offer_gets (s:SS) (b:Node×Bool) (h:b.2=true):(s.offer b).up≤b.1.cost:=by
 unfold SS.offer
 split
 ·exact Int.le_refl _
 ·rename_i hn
  simp only [h,true_and] at hn
  omega
def Inst.isWay (x:Inst) (b:Node×Bool):Prop:=b.2=true→x.way b.1.path x.rootS b.1.cost
theorem way_few {x:Inst} {v:List Int} {c:Int} (h:x.way v x.rootS c):0≤c∧c<inf:=by
 have h1:=way_in h
 have h2:=way_len h
 have h3:=meas_le x x.rootS
 have:inf=1152921504606846976:=rfl
 omega
theorem Found.offer {x:Inst} (hm:x.may=true) {s:SS} (h:Found x s) {b:Node×Bool} (hb:x.isWay b):Found x (s.offer b):=by
 unfold SS.offer
 split
 ·rename_i hc
  have hw:=hb hc.1
  exact ⟨Int.le_of_lt (way_few hw).2,fun _=>(tour_plain hm hw).2⟩
 ·exact h
theorem SInv.offer {x:Inst} (hm:x.may=true) {s:SS} (h:SInv x s) {b:Node×Bool} (hb:x.isWay b):SInv x (s.offer b):=by
 obtain ⟨h1,h2,h3,h4,h5⟩:=offer_up s b
 refine ⟨by rw [h2];exact h.track,by rw [h2,h3];exact h.nos,?_,h.found.offer hm hb⟩
 rw [h2,h3]
 exact fun e he n hn v c hv hc=>h.bound e he n hn v c hv (by omega)
theorem Covers.offer {x:Inst} {s:SS} {more:Int→Prop} (h:s.Covers x more) (b:Node×Bool):(s.offer b).Covers x more:=by
 obtain ⟨h1,h2,h3,h4,h5⟩:=offer_up s b
 intro v c hv hc
 rw [h2,h3]
 exact h v c hv (by omega)
theorem layN_way {x:Inst} {n:Node} (h:Track x n) (up:Int):∀(k:Nat),∀m∈x.layN up n k,∀v c,x.way v m.s c→∃u,x.way (u++v) n.s (m.cost-n.cost+c)
 |0,m,hm,v,c,hv=>by
  rw [List.mem_singleton.1 hm] at hv ⊢
  exact ⟨[],by rw [show n.cost-n.cost+c=c by omega];exact hv⟩
 |k+1,m,hm,v,c,hv=>by
  obtain ⟨q,hq,j,hj,rfl,_⟩:=next_mem hm
  have hj:=moves_mem hj
  have ht:=(layN_track h up k q hq).1
  have hcc:(x.child q j).cost=q.cost+(x.move q.s j).2.1:=by
   have:=ht.cost
   have:=ht.few
   have:=move_cost hj
   exact sumI_two (by omega) (by omega) (by omega)
  obtain ⟨u,hu⟩:=layN_way h up k q hq (j :: v) ((x.move q.s j).2.1+c) ⟨hj,c,hv,rfl⟩
  refine ⟨u++[j],?_⟩
  rw [List.append_assoc,hcc,show q.cost+(x.move q.s j).2.1-n.cost+c=q.cost-n.cost+((x.move q.s j).2.1+c) by omega]
  exact hu
theorem of_way {x:Inst} (hst:x.stops.length<2^31) {n:Node} (h:Track x n) {v:List Int} {c:Int} (hv:x.way v n.s c):x.of n≤n.cost+c:=by
 have h1:=way_low h.is.seen hv
 have h2:=way_in hv
 have h3:=way_len hv
 have h4:=meas_le x n.s
 have h5:=h.cost
 have h6:=h.few
 exact move_seen_low hst n (n.cost+c) h5.1 (by omega) (by omega)
theorem push_or (x:Inst) (low:Int) (s:SS) (n:Node):(x.push low s n=s∧s.up≤max low (x.of n))∨(max low (x.of n)<s.up∧x.push low s n={s with q:=s.q++[⟨max low (x.of n),n.path.length,s.subs.length⟩],subs:=s.subs++[n]}):=by
 unfold Inst.push
 split
 ·rename_i h;exact .inr ⟨h,rfl⟩
 ·rename_i h;exact .inl ⟨rfl,by omega⟩
theorem get_old {α:Type} {l m:List α} {i:Nat} {a:α} (h:l[i]? =some a):(l++m)[i]? =some a:=by
 have:=(List.getElem?_eq_some_iff.1 h).1
 rw [List.getElem?_append_left this];exact h
theorem SInv.push {x:Inst} {s:SS} (h:SInv x s) (low:Int) {n:Node} (ht:Track x n) (hb:∀v c,x.way v n.s c→n.cost+c<s.up→max low (x.of n)≤n.cost+c):SInv x (x.push low s n):=by
 rcases push_or x low s n with ⟨e,_⟩ | ⟨_,e⟩
 ·rw [e];exact h
 rw [e]
 have hlast:(s.subs++[n])[s.subs.length]? =some n:=by simp
 refine ⟨fun m hm=>?_,fun f hf=>?_,fun f hf m hm v c hv hc=>?_,⟨h.found.le,h.found.plan⟩⟩
 ·rcases List.mem_append.1 hm with hm | hm
  ·exact h.track m hm
  ·rw [List.mem_singleton.1 hm];exact ht
 ·rcases List.mem_append.1 hf with hf | hf
  ·obtain ⟨m,hm⟩:=h.nos f hf
   exact ⟨m,get_old hm⟩
  ·rw [List.mem_singleton.1 hf];exact ⟨n,hlast⟩
 ·rcases List.mem_append.1 hf with hf | hf
  ·obtain ⟨m',hm'⟩:=h.nos f hf
   have:=get_old (m:=[n]) hm'
   have he:m'=m:=Option.some.inj (this.symm.trans hm)
   rw [he] at hm'
   exact h.bound f hf m hm' v c hv hc
  ·rw [List.mem_singleton.1 hf] at hm ⊢
   simp only at hm ⊢
   rw [hlast] at hm
   cases hm
   exact hb v c hv hc
theorem push_up (x:Inst) (low:Int) (s:SS) (n:Node):(x.push low s n).up=s.up∧(x.push low s n).log=s.log∧(x.push low s n).steps=s.steps:=by
 unfold Inst.push
 split<;>exact ⟨rfl,rfl,rfl⟩
theorem push_has {x:Inst} {low:Int} {s:SS} {n:Node} {c:Int} (hg:x.goesOn n c) (hb:max low (x.of n)<s.up):∃e∈(x.push low s n).q,∃m,(x.push low s n).subs[e.no]? =some m∧x.goesOn m c:=by
 rcases push_or x low s n with ⟨_,e⟩ | ⟨_,e⟩
 ·omega
 ·rw [e]
  exact ⟨_,List.mem_append_right _ (List.mem_singleton.2 rfl),n,by simp,hg⟩
theorem push_keeps {x:Inst} {low:Int} {s:SS} {n:Node} {c:Int} (h:∃e∈s.q,∃m,s.subs[e.no]? =some m∧x.goesOn m c):∃e∈(x.push low s n).q,∃m,(x.push low s n).subs[e.no]? =some m∧x.goesOn m c:=by
 rcases push_or x low s n with ⟨e,_⟩ | ⟨_,e⟩
 ·rw [e];exact h
 ·rw [e]
  obtain ⟨f,hf,m,hm,hg⟩:=h
  exact ⟨f,List.mem_append_left _ hf,m,get_old hm,hg⟩
theorem pushes_up (x:Inst) (low:Int):∀(l:List Node) (s:SS),(l.foldl (x.push low) s).up=s.up∧(l.foldl (x.push low) s).log=s.log∧(l.foldl (x.push low) s).steps=s.steps
 |[],s=>⟨rfl,rfl,rfl⟩
 |n :: l,s=>by
  obtain ⟨h1,h2,h3⟩:=pushes_up x low l (x.push low s n)
  obtain ⟨k1,k2,k3⟩:=push_up x low s n
  exact ⟨h1.trans k1,h2.trans k2,h3.trans k3⟩
theorem pushes_inv {x:Inst} (low:Int):∀(l:List Node) (s:SS),SInv x s→(∀n∈l,Track x n∧∀v c,x.way v n.s c→n.cost+c<s.up→max low (x.of n)≤n.cost+c)→SInv x (l.foldl (x.push low) s)
 |[],s,h,_=>h
 |n :: l,s,h,hl=>by
  obtain ⟨h1,h2⟩:=hl n List.mem_cons_self
  refine pushes_inv low l (x.push low s n) (h.push low h1 h2) fun m hm=>?_
  rw [(push_up x low s n).1]
  exact hl m (List.mem_cons_of_mem _ hm)
theorem pushes_keep {x:Inst} (low:Int):∀(l:List Node) (s:SS) (c:Int),(∃e∈s.q,∃m,s.subs[e.no]? =some m∧x.goesOn m c)→∃e∈(l.foldl (x.push low) s).q,∃m,(l.foldl (x.push low) s).subs[e.no]? =some m∧x.goesOn m c
 |[],s,c,h=>h
 |n :: l,s,c,h=>pushes_keep low l (x.push low s n) c (push_keeps h)
theorem pushes_has {x:Inst} (low:Int):∀(l:List Node) (s:SS) (c:Int) (n:Node),n∈l→x.goesOn n c→max low (x.of n)<s.up→∃e∈(l.foldl (x.push low) s).q,∃m,(l.foldl (x.push low) s).subs[e.no]? =some m∧x.goesOn m c
 |m :: l,s,c,n,hn,hg,hb=>by
  rcases List.mem_cons.1 hn with rfl | hn
  ·exact pushes_keep low l _ c (push_has hg hb)
  ·exact pushes_has low l (x.push low s m) c n hn hg (by rw [(push_up x low s m).1];exact hb)
end Go.Proofs.YtackfabapangdaaGreat

set_option maxRecDepth 4000
namespace Go.Proofs.YtackfabapangdaaGreat
open Go Go.Proofs.YtackfabapangdaaGreat.R
theorem front1_sub (F:List Node) (c:Node):(front1 F c).Sublist (F++[c]):=by
 unfold front1
 split
 ·exact List.sublist_append_left _ _
 ·exact (List.filter_sublist).append (List.Sublist.refl _)
theorem front_subl:∀(l pre F:List Node),F.Sublist pre→(l.foldl front1 F).Sublist (pre++l)
 |[],pre,F,h=>by rw [List.append_nil];exact h
 |c :: l,pre,F,h=>by
  have:=front_subl l (pre++[c]) (front1 F c) ((front1_sub F c).trans (h.append (List.Sublist.refl _)))
  rw [List.append_assoc] at this
  exact this
theorem front_sub (l:List Node):(frontL l).Sublist l:=front_subl l [] [] (List.Sublist.refl _)
theorem next_nodup (x:Inst) (l:List Node) (up:Int):((x.next l up).map Node.s).Nodup:=onceL_nodup _
def Under (l m:List Node):Prop:=∀n∈l,∃k∈m,k.s=n.s∧k.cost≤n.cost
theorem under_len {l m:List Node} (hl:(l.map Node.s).Nodup) (h:Under l m):l.length≤m.length:=by
 have:=nodup_len (l.map Node.s) (m.map Node.s) hl fun s hs=>by
  obtain ⟨n,hn,rfl⟩:=List.mem_map.1 hs
  obtain ⟨k,hk,e,_⟩:=h n hn
  exact List.mem_map.2 ⟨k,hk,e⟩
 simpa using this
theorem of_less {x:Inst} {n m:Node} {d:Nat} {l:List Node} (hs:m.s=n.s) (hc:0≤m.cost) (hle:m.cost≤n.cost) (hn:n.cost≤1152921504606846976):x.of m≤x.of n:=by
 rw [Inst.of,Inst.of,hs]
 simp only [sumI,List.foldl_cons,List.foldl_nil,sum1]
 omega
theorem under_next {x:Inst} {l m:List Node} {d e:Nat} (hl:Lev x l (d+1)) (hm:Lev x m (e+1)) (h:Under l m) {up up':Int} (hu:up≤up'):Under (x.next l up) (x.next m up'):=by
 intro c hc
 obtain ⟨n,hn,j,hj,rfl,hof⟩:=next_mem hc
 obtain ⟨k,hk,e1,e2⟩:=h n hn
 have hmv:=moves_mem hj
 have hmv':(x.move k.s j).2.2=true:=by rw [e1];exact hmv
 have c1:=child_cost hl hn hmv
 have c2:=child_cost hm hk hmv'
 have hs:(x.child k j).s=(x.child n j).s:=by show (x.move k.s j).1=(x.move n.s j).1;rw [e1]
 have h3:=hl.cost n hn
 have h4:=hm.cost k hk
 have h5:=move_cost hmv
 have hcc:(x.child k j).cost≤(x.child n j).cost:=by rw [c1,c2,e1];omega
 have hof2:x.of (x.child k j)<up':=by
  have:=of_less (x:=x) (d:=0) (l:=[]) hs (by rw [c2,e1];omega) hcc (by rw [c1];omega)
  omega
 obtain ⟨q,q1,q2,q3⟩:=onceL_has (l:=m.flatMap (x.kids up')) (k:=x.child k j) (by
  refine List.mem_flatMap.2 ⟨k,hk,?_⟩
  rw [Inst.kids,List.mem_filter]
  exact ⟨List.mem_map.2 ⟨j,mem_moves hmv',rfl⟩,by simpa using hof2⟩)
 exact ⟨q,q1,q2.trans hs,by omega⟩
theorem layN_lev {x:Inst} {n:Node} (h:Track x n) (up:Int) (k:Nat):Lev x (x.layN up n k) 41:=(Track.wl (fun m hm=>(layN_track h up k m hm).1) (r:=0) (by omega)).lev
theorem exGo_whole {x:Inst} {n:Node} (ht:Track x n) {up:Int} {most:Int} (hw:∀k,((x.layN up n k).length:Int)≤most):∀(d:Nat) (st:Node×Bool×Int) (l:List Node) (s:Int) (k:Nat),Lev x l d→stOk st→st.2.2≤up→(l.map Node.s).Nodup→Under l (x.layN up n k)→
  (x.exGo most d st l s).2.2.1=true
 |0,st,l,s,k,_,_,_,_,_=>rfl
 |d+1,st,l,s,k,hl,h,hu,hn,hun=>by
  rw [Inst.exGo]
  split
  ·rfl
  have hlen:=under_len hn hun
  have:=hw k
  rw [if_neg (by omega)]
  obtain ⟨k1,k2,k3⟩:=look_ok (x:=x) (l:=l) h
  refine exGo_whole ht hw d (x.look st l) _ _ (k+1) (hl.front st.2.2) k1 (by omega) ?_ ?_
  ·exact (next_nodup x l st.2.2).sublist ((front_sub _).map _)
  ·intro c hc
   exact under_next hl (layN_lev ht up k) hun hu c ((front_sub _).subset hc)
theorem buildGo_end {x:Inst} (w up dp:Int) (n:Node):∀(f:Nat) (ls:List (List Node)) (low:Int) (sq:Option Nat) (l:List Node),(sq=none→l=x.layN up n ls.length)→dp+2≤(f:Int)+ls.length→1≤f→(x.buildGo w up dp f ls low sq l).exact=true→
  x.layN up n (x.buildGo w up dp f ls low sq l).layers.length=[]∨dp<(x.buildGo w up dp f ls low sq l).layers.length
 |0,ls,low,sq,l,_,_,h,_=>absurd h (by omega)
 |f+1,ls,low,sq,l,hn,hf,_,he=>by
  rw [Inst.buildGo] at he ⊢
  split
  ·rename_i c0
   rw [if_pos c0] at he
   simp only [Diag.of,Option.isNone_iff_eq_none] at he
   refine .inl ?_
   show x.layN up n ls.length=[]
   rw [←hn he,c0]
  rename_i c0
  rw [if_neg c0] at he
  split
  ·rename_i c1
   refine .inr ?_
   show dp<((ls++[l]).length:Int)
   rw [List.length_append]
   exact c1
  rename_i c1
  rw [if_neg c1] at he
  have hlen:(ls++[l]).length=ls.length+1:=by simp
  split
  ·rename_i c2
   rw [if_pos c2] at he
   exact buildGo_end w up dp n f _ _ _ _ (fun h=>by cases h) (by omega) (by omega) he
  ·rename_i c2
   rw [if_neg c2] at he
   exact buildGo_end w up dp n f _ _ _ _ (fun h=>by rw [hlen,hn h];rfl) (by omega) (by omega) he
theorem layN_nil {x:Inst} {up:Int} {n:Node} {k:Nat} (h:x.layN up n k=[]):∀i,x.layN up n (k+i)=[]
 |0=>h
 |i+1=>by
  show x.next (x.layN up n (k+i)) up=[]
  rw [layN_nil h i]
  rfl
theorem build_thin {x:Inst} (hm:x.may=true) {n:Node} (h:Track x n) (w up:Int) (he:(x.build n w up).exact=true) (k:Nat):(x.layN up n k).length≤x.mostN w:=by
 have hok:=build_ok x n w up
 have hw:=hok.whole
 rw [he] at hw
 have hs:(x.build n w up).sure=(x.build n w up).layers.length:=of_decide_eq_true hw.symm
 have h1:1≤x.mostN w:=by
  have:1≤x.stops.length:=by
   obtain ⟨p,hx⟩:=x.fit hm
   have:=hx.len
   omega
  unfold Inst.mostN
  omega
 by_cases hk:k<(x.build n w up).layers.length
 ·have h2:=hok.lay k (by omega)
  cases k with
  |zero=>exact h1
  |succ k=>
   refine (build_lay n w up h1 (x.layN up n (k+1)) ?_).2
   rw [List.getElem?_eq_getElem hk] at h2
   rw [←Option.some.inj h2]
   rw [List.mem_drop_iff_getElem]
   exact ⟨k,by omega,by simp only [Nat.add_comm 1 k]⟩
 ·have hend:=buildGo_end (x:=x) w up (x.deep-n.path.length) n ((x.deep-n.path.length).toNat+2) [] up none [n] (fun _=>rfl) (by simp only [List.length_nil];omega) (by omega) he
  rw [←Inst.build] at hend
  rcases hend with h3 | h3
  ·obtain ⟨i,rfl⟩:∃i,k=(x.build n w up).layers.length+i:=⟨k-(x.build n w up).layers.length,by omega⟩
   rw [layN_nil h3 i]
   exact Nat.zero_le _
  ·cases hl:x.layN up n k with
   |nil=>exact Nat.zero_le _
   |cons m l=>
    have hmm:m∈x.layN up n k:=by rw [hl];exact List.mem_cons_self
    obtain ⟨t1,t2⟩:=layN_track h up k m hmm
    have:=t1.len
    have:=(deep_meas hm).1
    omega
theorem exact_whole {x:Inst} (hm:x.may=true) {n:Node} (h:Track x n) (w:Int) {up u:Int} (hu:u≤up) (he:(x.build n w up).exact=true):(x.exact n u (x.mostN w)).2.2.1=true:=by
 have hc:=h.cost
 have hf:=h.few
 refine exGo_whole h (up:=up) (fun k=>by have:=build_thin hm h w up he k;omega) _ (Node.zero,false,u) [n] 0 0 (Lev.root h.is.ok h.is.pos h.is.seen (by omega)) (fun h=>by cases h) hu (by simp) ?_
 intro m hm
 exact ⟨n,List.mem_cons_self,by rw [List.mem_singleton.1 hm],by rw [List.mem_singleton.1 hm];exact Int.le_refl _⟩
end Go.Proofs.YtackfabapangdaaGreat

set_option maxRecDepth 4000
namespace Go.Proofs.YtackfabapangdaaGreat
open Go Go.Proofs.YtackfabapangdaaGreat.R
theorem SInv.like {x:Inst} {s t:SS} (h:SInv x s) (h1:t.subs=s.subs) (h2:t.q=s.q) (h3:t.up=s.up) (h4:t.plan=s.plan):SInv x t:=by
 obtain ⟨a,b,c,d,e,f⟩:=s
 obtain ⟨a',b',c',d',e',f'⟩:=t
 simp only at h1 h2 h3 h4
 subst h1;subst h2;subst h3;subst h4
 exact ⟨h.track,h.nos,h.bound,⟨h.found.le,h.found.plan⟩⟩
theorem Covers.like {x:Inst} {s t:SS} {more:Int→Prop} (h:s.Covers x more) (h1:t.subs=s.subs) (h2:t.q=s.q) (h3:t.up=s.up):t.Covers x more:=by
 intro v c hv hc
 rw [h1,h2]
 exact h v c hv (by omega)
theorem Track.fit {x:Inst} {n:Node} (h:Track x n):0≤n.cost∧n.cost≤1152921504606000000:=by
 have:=h.cost
 have:=h.few
 omega
theorem narrow_isWay {x:Inst} {n:Node} (h:Track x n) (w up:Int):x.isWay ((x.narrow n w up).1,(x.narrow n w up).2.1):=by
 intro hs
 obtain ⟨v,c,h1,h2,h3,_⟩:=narrow_from h.is.ok h.is.pos h.is.seen h.fit hs
 simp only
 rw [h2,h3]
 exact h.way h1
theorem exact_isWay {x:Inst} {n:Node} (h:Track x n) (most up:Int):x.isWay ((x.exact n up most).1,(x.exact n up most).2.1):=by
 intro hs
 obtain ⟨v,c,h1,h2,h3,_⟩:=exact_from h.is.ok h.is.pos h.is.seen h.fit hs
 simp only
 rw [h2,h3]
 exact h.way h1
theorem bests_isWay {x:Inst} {l:List Node} (h:∀m∈l,Track x m):x.isWay (x.bests l):=by
 intro hs
 obtain ⟨m,hm,b1,b2,b3⟩:=bests_from hs
 have ht:=h m hm
 have hf:=ht.fit
 have hec:=end_cost b1
 rw [sumI_two hf.1 hec.1 (by omega)] at b2
 have:=ht.way (v:=[]) (c:=(x.endS m.s).1) ⟨b1,rfl⟩
 rw [List.append_nil,←b2,←b3] at this
 exact this
theorem offers_up (x:Inst):∀(ls:List (List Node)) (s:SS),(x.offers s ls).up≤s.up∧(x.offers s ls).subs=s.subs∧(x.offers s ls).q=s.q∧(x.offers s ls).log=s.log∧(x.offers s ls).steps=s.steps
 |[],s=>⟨Int.le_refl _,rfl,rfl,rfl,rfl⟩
 |l :: ls,s=>by
  obtain ⟨h1,h2,h3,h4,h5⟩:=offers_up x ls (s.offer (x.bests l))
  obtain ⟨k1,k2,k3,k4,k5⟩:=offer_up s (x.bests l)
  exact ⟨Int.le_trans h1 k1,h2.trans k2,h3.trans k3,h4.trans k4,h5.trans k5⟩
theorem offers_gets (x:Inst):∀(ls:List (List Node)) (s:SS),∀l∈ls,(x.bests l).2=true→(x.offers s ls).up≤(x.bests l).1.cost
 |[],s,l,hl,_=>by cases hl
 |k :: ls,s,l,hl,hb=>by
  rcases List.mem_cons.1 hl with rfl | hl
  ·exact Int.le_trans (offers_up x ls _).1 (offer_gets s _ hb)
  ·exact offers_gets x ls _ l hl hb
theorem offers_inv {x:Inst} (hm:x.may=true):∀(ls:List (List Node)) (s:SS),SInv x s→(∀l∈ls,∀m∈l,Track x m)→SInv x (x.offers s ls)
 |[],s,h,_=>h
 |l :: ls,s,h,hl=>offers_inv hm ls _ (h.offer hm (bests_isWay (hl l List.mem_cons_self))) fun k hk=>hl k (List.mem_cons_of_mem _ hk)
theorem offers_cov {x:Inst} {more:Int→Prop}:∀(ls:List (List Node)) (s:SS),s.Covers x more→(x.offers s ls).Covers x more
 |[],s,h=>h
 |l :: ls,s,h=>offers_cov ls _ (Covers.offer h _)
theorem layN_goes {x:Inst} (hst:x.stops.length<2^31) {n:Node} (h:Track x n) {up c:Int} (hg:x.goesOn n c) (hc:c<up):∀(k:Nat),(∀i,i<k→(x.bests (x.layN up n i)).2=true→c<(x.bests (x.layN up n i)).1.cost)→∃m∈x.layN up n k,x.goesOn m c
 |0,_=>⟨n,List.mem_cons_self,hg⟩
 |k+1,hno=>by
  obtain ⟨m,hm,v,d,hv,hd⟩:=layN_goes hst h hg hc k fun i hi=>hno i (by omega)
  have hl:=layN_lev h up k
  match v,hv with
  |[],hv=>
   obtain ⟨b1,b2⟩:=bests_has hm hv.1
   rw [end_sum hl hm hv.1,←hv.2] at b2
   have:=hno k (by omega) b1
   omega
  |j :: v,hv=>
   obtain ⟨g1,e,g2,g3⟩:=hv
   obtain ⟨q,hq,q1,q2⟩:=next_way hst hl hm g1 g2 (up:=up) (by omega)
   exact ⟨q,hq,v,e,by rw [q1];exact g2,by omega⟩
theorem sure_get {x:Inst} {up:Int} {n:Node} {d:Diag} (h:d.Ok x up n) {i:Nat} (hi:i<d.sure):∃hl:i<d.layers.length,d.layers[i]=x.layN up n i:=by
 have:=h.lay i hi
 have hl:i<d.layers.length:=by have:=h.le;omega
 rw [List.getElem?_eq_getElem hl] at this
 exact ⟨hl,Option.some.inj this⟩
theorem branch_ok {x:Inst} (hst:x.stops.length<2^31) (hm:x.may=true) {n:Node} (ht:Track x n) (w:Int) {s:SS} (h:SInv x s) (hc:s.Covers x (x.goesOn n)):SInv x (x.branch (x.build n w s.up) s)∧(x.branch (x.build n w s.up) s).Covers x fun _=>False:=by
 have hok:=build_ok x n w s.up
 have hbw:=fun (v:List Int) (c:Int) (hv:x.way v n.s c)=>build_way hst hm ht w s.up hv
 generalize x.build n w s.up=d at *
 rw [Inst.branch]
 have hpos:=hok.pos
 obtain ⟨hl,hlast⟩:=sure_get hok (i:=d.sure-1) (by omega)
 rw [List.getD_eq_getElem?_getD,List.getElem?_eq_getElem hl,Option.getD_some,hlast]
 have hin:∀l∈d.layers.take (d.sure-1),∃i,i<d.sure-1∧l=x.layN s.up n i:=by
  intro l hl
  obtain ⟨i,hi,e⟩:=List.getElem_of_mem hl
  rw [List.length_take] at hi
  obtain ⟨hl2,e2⟩:=sure_get hok (i:=i) (by omega)
  refine ⟨i,by omega,?_⟩
  rw [←e,List.getElem_take,e2]
 have hof:∀i,i<d.sure-1→x.layN s.up n i∈d.layers.take (d.sure-1):=by
  intro i hi
  obtain ⟨hl2,e2⟩:=sure_get hok (i:=i) (by omega)
  rw [←e2]
  exact List.mem_take_iff_getElem.2 ⟨i,by omega,rfl⟩
 have h3:=offers_inv hm (d.layers.take (d.sure-1)) s h fun l hl m hmm=>by
  obtain ⟨i,_,rfl⟩:=hin l hl
  exact (layN_track ht s.up i m hmm).1
 have hc3:=offers_cov (d.layers.take (d.sure-1)) s hc
 have hup:=(offers_up x (d.layers.take (d.sure-1)) s).1
 have hget:=fun i hi=>offers_gets x (d.layers.take (d.sure-1)) s _ (hof i hi)
 generalize x.offers s (d.layers.take (d.sure-1))=t at *
 refine ⟨pushes_inv d.low _ t h3 fun m hmm=>?_,fun v c hv hcl=>?_⟩
 ·have htm:=(layN_track ht s.up _ m hmm).1
  refine ⟨htm,fun v c hv hlt=>?_⟩
  have h4:=of_way hst htm hv
  obtain ⟨u,hu⟩:=layN_way ht s.up _ m hmm v c hv
  have:=hbw _ _ hu (by omega)
  omega
 ·rw [(pushes_up x d.low _ t).1] at hcl
  refine .inr ?_
  rcases hc3 v c hv hcl with hg | hq
  ·obtain ⟨m,hmm,hgm⟩:=layN_goes hst ht hg (up:=s.up) (by omega) (d.sure-1) fun i hi hb=>by
    have:=hget i hi hb
    omega
   obtain ⟨v',d',hv',hd'⟩:=hgm
   have htm:=(layN_track ht s.up _ m hmm).1
   have h4:=of_way hst htm hv'
   obtain ⟨u,hu⟩:=layN_way ht s.up _ m hmm v' d' hv'
   have:=hbw _ _ hu (by omega)
   exact pushes_has d.low _ t c m hmm ⟨v',d',hv',hd'⟩ (by omega)
  ·exact pushes_keep d.low _ t c hq
theorem look_ok2 {x:Inst} (hst:x.stops.length<2^31) (hm:x.may=true) {n:Node} (ht:Track x n) (w:Int) {s:SS} (h:SInv x s) (hc:s.Covers x (x.goesOn n)):SInv x (x.lookS w s n)∧(x.lookS w s n).Covers x fun _=>False:=by
 rw [Inst.lookS]
 have hs1:SInv x (s.nar x w n):=by
  rw [SS.nar]
  exact SInv.offer hm (h.like (t:=s.plus _) rfl rfl rfl rfl) (narrow_isWay ht w s.up)
 have hc1:(s.nar x w n).Covers x (x.goesOn n):=by
  rw [SS.nar]
  exact Covers.offer (Covers.like (t:=s.plus _) hc rfl rfl rfl) _
 generalize s.nar x w n=t at *
 have hbw:=fun (v:List Int) (c:Int) (hv:x.way v n.s c)=>build_way hst hm ht w t.up hv
 have hbr:=branch_ok hst hm ht w (s:=t.dia n (x.build n w t.up)) (hs1.like rfl rfl rfl rfl) (Covers.like hc1 rfl rfl rfl)
 have hex:=exact_whole hm ht w (up:=t.up) (u:=t.up) (Int.le_refl _)
 have hdu:(t.dia n (x.build n w t.up)).up=t.up:=rfl
 rw [hdu] at hbr
 generalize x.build n w t.up=d at *
 have hs2:SInv x (t.dia n d):=hs1.like rfl rfl rfl rfl
 have hc2:(t.dia n d).Covers x (x.goesOn n):=Covers.like hc1 rfl rfl rfl
 rw [Inst.lookD]
 split
 ·rename_i c1
  refine ⟨hs2,fun v c hv hlt=>?_⟩
  rcases hc2 v c hv hlt with ⟨v',d',hv',hd'⟩ | hq
  ·have:=hbw v' d' hv' (by rw [hdu] at hlt;omega)
   rw [hdu] at hlt
   omega
  ·exact .inr hq
 split
 ·rename_i c2
  have hall:=hex c2
  rw [SS.exa,hdu]
  have hs3:SInv x ((t.dia n d).plus (x.exact n t.up (x.mostN w)).2.2.2):=hs2.like rfl rfl rfl rfl
  have hc3:((t.dia n d).plus (x.exact n t.up (x.mostN w)).2.2.2).Covers x (x.goesOn n):=Covers.like hc2 rfl rfl rfl
  have hu3:((t.dia n d).plus (x.exact n t.up (x.mostN w)).2.2.2).up=t.up:=rfl
  generalize (t.dia n d).plus (x.exact n t.up (x.mostN w)).2.2.2=z at *
  refine ⟨hs3.offer hm (exact_isWay ht _ _),fun v c hv hlt=>?_⟩
  have hle:=offer_up z ((x.exact n t.up (x.mostN w)).1,(x.exact n t.up (x.mostN w)).2.1)
  have hle1:=hle.1
  rcases hc3 v c hv (by omega) with ⟨v',d',hv',hd'⟩ | hq
  ·obtain ⟨e1,e2⟩:=exact_has hst ht.is.ok ht.is.pos ht.is.seen ht.fit hall hv' (by omega)
   have:=offer_gets z ((x.exact n t.up (x.mostN w)).1,(x.exact n t.up (x.mostN w)).2.1) e1
   simp only at this
   omega
  ·rw [hle.2.1,hle.2.2.1]
   exact .inr hq
 ·exact hbr
end Go.Proofs.YtackfabapangdaaGreat

set_option maxRecDepth 4000
namespace Go.Proofs.YtackfabapangdaaGreat
open Go Go.Proofs.YtackfabapangdaaGreat.R
structure Opt where
 width:Int
 order:Int
 budget:Int
structure SRes where
 status:Int
 plan:List (List Int)
 up:Int
 low:Int
 steps:Int
 log:List (Node×Diag)
def Ent.zero:Ent:=⟨0,0,0⟩
def lessE (o:Int) (a b:Ent):Bool:=
 if o=0 then decide (a.bound<b.bound∨a.bound=b.bound∧(b.depth<a.depth∨a.depth=b.depth∧a.no<b.no))
 else if o=1 then decide (b.depth<a.depth∨a.depth=b.depth∧(a.bound<b.bound∨a.bound=b.bound∧a.no<b.no))
 else decide (a.no<b.no∨a.no=b.no∧(a.bound<b.bound∨a.bound=b.bound∧a.depth<b.depth))
def minI (o:Int) (q:List Ent):Nat:=(List.range q.length).foldl (fun k i=>if lessE o (q.getD i Ent.zero) (q.getD k Ent.zero)=true then i else k) 0
def takeQ (o:Int) (q:List Ent):Option (Ent×List Ent):=if q=[] then none else some (q.getD (minI o q) Ent.zero,q.take (minI o q)++q.drop (minI o q+1))
def leastQ:List Ent→Int
 |[]=>inf
 |e :: l=>l.foldl (fun n f=>min n f.bound) e.bound
def SS.ends (s:SS):SRes:=⟨if s.up<inf then 2 else 3,s.plan,s.up,s.up,s.steps,s.log⟩
def SS.stop (s:SS) (e:Ent):SRes:=⟨4,s.plan,s.up,min s.up (min e.bound (leastQ s.q)),s.steps,s.log⟩
def SS.left (s:SS) (q:List Ent):SS:={s with q:=q}
def Inst.runGo (x:Inst) (o:Opt):Nat→SS→Option SRes
 |0,_=>none
 |f+1,s=>match takeQ o.order s.q with
  |none=>some s.ends
  |some (e,q)=>if s.up≤e.bound then x.runGo o f (s.left q) else if o.budget≤s.steps then some ((s.left q).stop e) else x.runGo o f (x.lookS o.width (s.left q) (s.subs.getD e.no Node.zero))
def Inst.start (x:Inst):SS:=x.push 0 ⟨[],[],inf,[],0,[]⟩ x.rootN
theorem minI_go (o:Int) (q:List Ent):∀(l:List Nat) (k:Nat),k<q.length→(∀i∈l,i<q.length)→l.foldl (fun k i=>if lessE o (q.getD i Ent.zero) (q.getD k Ent.zero)=true then i else k) k<q.length
 |[],k,h,_=>h
 |i :: l,k,h,hl=>by
  rw [List.foldl_cons]
  refine minI_go o q l _ ?_ fun j hj=>hl j (List.mem_cons_of_mem _ hj)
  split
  ·exact hl i List.mem_cons_self
  ·exact h
theorem minI_lt (o:Int) {q:List Ent} (h:q≠[]):minI o q<q.length:=
 minI_go o q _ 0 (List.length_pos_iff.2 h) fun i hi=>List.mem_range.1 hi
theorem take_some {o:Int} {q:List Ent} {e:Ent} {q':List Ent} (h:takeQ o q=some (e,q')):e∈q∧(∀f∈q,f=e∨f∈q')∧(∀f∈q',f∈q)∧q.length=q'.length+1:=by
 unfold takeQ at h
 split at h
 ·cases h
 rename_i hq
 have hk:=minI_lt o hq
 generalize minI o q=k at *
 obtain ⟨rfl,rfl⟩:=Prod.mk.inj (Option.some.inj h)
 have hd:q=q.take k++q[k] :: q.drop (k+1):=by rw [←List.drop_eq_getElem_cons hk,List.take_append_drop]
 have hg:q.getD k Ent.zero=q[k]:=by rw [List.getD_eq_getElem?_getD,List.getElem?_eq_getElem hk];rfl
 rw [hg]
 refine ⟨List.getElem_mem _,fun f hf=>?_,fun f hf=>?_,?_⟩
 ·rw [hd] at hf
  rcases List.mem_append.1 hf with hf | hf
  ·exact .inr (List.mem_append_left _ hf)
  ·rcases List.mem_cons.1 hf with hf | hf
   ·exact .inl hf
   ·exact .inr (List.mem_append_right _ hf)
 ·rcases List.mem_append.1 hf with hf | hf
  ·exact List.mem_of_mem_take hf
  ·exact List.mem_of_mem_drop hf
 ·rw [List.length_append,List.length_take,List.length_drop]
  omega
theorem least_fold:∀(l:List Ent) (n:Int),l.foldl (fun n f=>min n f.bound) n≤n∧∀f∈l,l.foldl (fun n f=>min n f.bound) n≤f.bound
 |[],n=>⟨Int.le_refl _,fun f hf=>by cases hf⟩
 |e :: l,n=>by
  obtain ⟨h1,h2⟩:=least_fold l (min n e.bound)
  rw [List.foldl_cons]
  refine ⟨by omega,fun f hf=>?_⟩
  rcases List.mem_cons.1 hf with rfl | hf
  ·omega
  ·exact h2 f hf
theorem least_le {q:List Ent} {f:Ent} (h:f∈q):leastQ q≤f.bound:=by
 cases q with
 |nil=>cases h
 |cons e l=>
  obtain ⟨h1,h2⟩:=least_fold l e.bound
  rcases List.mem_cons.1 h with rfl | h
  ·exact h1
  ·exact h2 f h
theorem SInv.left {x:Inst} {s:SS} (h:SInv x s) {q:List Ent} (hq:∀f∈q,f∈s.q):SInv x (s.left q):=
 ⟨h.track,fun e he=>h.nos e (hq e he),fun e he=>h.bound e (hq e he),⟨h.found.le,h.found.plan⟩⟩
theorem Covers.left {x:Inst} {s:SS} (hs:SInv x s) (h:s.Covers x fun _=>False) {q:List Ent} {e:Ent} (hq:∀f∈s.q,f=e∨f∈q) {n:Node} (hn:s.subs[e.no]? =some n):(s.left q).Covers x (x.goesOn n):=by
 intro v c hv hc
 rcases h v c hv hc with hf | ⟨f,hf,m,hm,hg⟩
 ·exact hf.elim
 ·rcases hq f hf with rfl | hf
  ·rw [hn] at hm
   cases hm
   exact .inl hg
  ·exact .inr ⟨f,hf,m,hm,hg⟩
theorem start_ok {x:Inst} (hst:x.stops.length<2^31) (hm:x.may=true):SInv x x.start∧x.start.Covers x fun _=>False:=by
 have ht:=track_root hm
 have h0:SInv x ⟨[],[],inf,[],0,[]⟩:=⟨fun n hn=>by simp at hn,fun e he=>by simp at he,fun e he=>by simp at he,⟨Int.le_refl _,fun h=>absurd h (Int.lt_irrefl _)⟩⟩
 have hof:∀v c,x.way v x.rootN.s c→max 0 (x.of x.rootN)≤x.rootN.cost+c:=fun v c hv=>by
  have h1:=of_way hst ht hv
  have h2:=way_in hv
  have h3:=ht.cost
  omega
 refine ⟨h0.push 0 ht fun v c hv _=>hof v c hv,fun v c hv hlt=>?_⟩
 rw [Inst.start,(push_up x 0 _ x.rootN).1] at hlt
 refine .inr (push_has ⟨v,c,hv,?_⟩ ?_)
 ·show (0:Int)+c≤c;omega
 ·have:=hof v c hv
  have h0:x.rootN.cost=0:=rfl
  have:c<inf:=hlt
  show _<inf
  omega
end Go.Proofs.YtackfabapangdaaGreat

set_option maxRecDepth 4000
namespace Go.Proofs.YtackfabapangdaaGreat
open Go Go.Proofs.YtackfabapangdaaGreat.R
def Ent.cs (e:Ent):List AV:=[.i e.bound,.i e.depth,.i e.no]
def Ent.a (e:Ent):AV:=.agg e.cs
def Ent.t (o:Int) (e:Ent):List T:=[.i e.bound,.i e.depth,.i e.no,.i o]
def orL:List Int→Int
 |[]=>0
 |a :: l=>if a=0 then orL l else a
theorem or_pure (l:List Int) (hl:l.length<2^31):Pure P 294 [.t (.sl (ints l))] (.i (orL l)):=by
 generalize hR:orL l=R
 refine pure_of Tryz.func294 rfl rfl (by simp [Tryz.f294]) (by simp [bnd,bnd.bndL]) (by simp [bnd,bnd.bndL]) fun B hB hnx=>?_
 simp only [Tryz.f294] at hB ⊢
 have hil:(ints l).length=l.length:=List.length_map _
 have hig:∀(k:Nat) (h:k<l.length),(ints l)[k]'(by rw [hil];exact h)=[.i l[k]]:=fun k h=>ints_getS _ h
 generalize ints l=Y at *
 refine K_run hB 100 ?_
 simp [go_sem,hil]
 refine K_loopP (α:=Nat) (fun k=>k≤l.length∧orL (l.drop k)=R) (fun k=>⟨sl [(3,.i 0),(6,.t (.sl Y)),(7,.i l.length),(8,.i k)],_,_⟩) (fun k=>l.length-k) 0 ⟨Nat.zero_le _,hR⟩ (Imp.slots (by simp [go_sem]) rfl rfl) ?_
 rintro k ⟨g1,g2⟩
 refine K_run hB 60 ?_
 simp [go_sem]
 refine fork_dec (fun hk=>?_) (fun hk=>?_)
 ·have hkk:IntKind.i64.wrap ((k:Int)+1)=((k+1:Nat):Int):=by rw [w64 ((k:Int)+1) (by omega)];rfl
  have hgk:∀h:k<Y.length,Y[k]'h=[.i l[k]]:=fun h=>hig k hk
  rw [List.drop_eq_getElem_cons hk,orL] at g2
  generalize l[k]=a at *
  by_cases c1:a=0
  ·rw [if_pos c1] at g2
   simp [go_sem,hil,hk,hgk,c1,hkk]
   exact Next.mk (k+1) ⟨by omega,g2⟩ (Imp.slots (by simp [go_sem]) rfl rfl) (by omega)
  ·rw [if_neg c1] at g2
   subst g2
   simp [go_sem,hil,hk,hgk,c1]
 ·have:k=l.length:=by omega
  subst this
  rw [List.drop_length,orL] at g2
  subst g2
  simp [go_sem]
def compE (o:Int) (a b:Ent):Int:=
 if o=0 then orL [cmpI a.bound b.bound,-cmpI a.depth b.depth,cmpI a.no b.no]
 else if o=1 then orL [-cmpI a.depth b.depth,cmpI a.bound b.bound,cmpI a.no b.no]
 else orL [cmpI a.no b.no,cmpI a.bound b.bound,cmpI a.depth b.depth]
theorem compE_less (o:Int) (a b:Ent):decide (compE o a b<0)=lessE o a b:=by
 unfold compE lessE
 by_cases c1:o=0
 ·rw [if_pos c1,if_pos c1]
  refine decide_eq_decide.2 ?_
  simp only [orL,cmpI]
  repeat' split
  all_goals omega
 ·rw [if_neg c1,if_neg c1]
  by_cases c2:o=1
  ·rw [if_pos c2,if_pos c2]
   refine decide_eq_decide.2 ?_
   simp only [orL,cmpI]
   repeat' split
   all_goals omega
  ·rw [if_neg c2,if_neg c2]
   refine decide_eq_decide.2 ?_
   simp only [orL,cmpI]
   repeat' split
   all_goals omega
theorem cmpI_in (a b:Int): -1≤cmpI a b∧cmpI a b≤1:=by
 unfold cmpI
 repeat' split
 all_goals omega
theorem compare_pure (o:Int) (a b:Ent):Pure P 293 [.i o,a.a,b.a] (.i (compE o a b)):=by
 generalize hR:compE o a b=R
 refine pure_of Tryz.func293 rfl rfl (by simp [Tryz.f293]) (by simp [bnd,bnd.bndL,Ent.a,Ent.cs]) (by simp [bnd,bnd.bndL]) fun B hB hnx=>?_
 simp only [Tryz.f293] at hB ⊢
 have h1:=cmp_pure a.bound b.bound
 have h2:=cmp_pure a.depth b.depth
 have h3:=cmp_pure a.no b.no
 have w2:=cmpI_in a.depth b.depth
 rw [compE] at hR
 have o1:=or_pure [cmpI a.bound b.bound,-cmpI a.depth b.depth,cmpI a.no b.no] (by simp)
 have o2:=or_pure [-cmpI a.depth b.depth,cmpI a.bound b.bound,cmpI a.no b.no] (by simp)
 have o3:=or_pure [cmpI a.no b.no,cmpI a.bound b.bound,cmpI a.depth b.depth] (by simp)
 generalize cmpI a.bound b.bound=cb at *
 generalize cmpI a.depth b.depth=cd at *
 generalize cmpI a.no b.no=cn at *
 have wd:IntKind.i64.wrap (-cd)= -cd:=w64 _ (by omega)
 refine K_run hB 100 ?_
 simp [go_sem,Ent.a,Ent.cs]
 refine K_drawn [] rfl (by rw [hB];kernel_rfl) ?_
 refine K_run hB 100 ?_
 simp [go_sem]
 refine K_dCallP rfl rfl rfl (args:=[.i a.bound,.i b.bound]) (f:=247) (by simp [go_sem]) (h1) ?_
 refine K_run hB 100 ?_
 simp [go_sem]
 refine K_dCallP rfl rfl rfl (args:=[.i a.depth,.i b.depth]) (f:=247) (by simp [go_sem]) (h2) ?_
 refine K_run hB 100 ?_
 simp [go_sem]
 refine K_dCallP rfl rfl rfl (args:=[.i a.no,.i b.no]) (f:=247) (by simp [go_sem]) (h3) ?_
 by_cases c1:o=0
 ·rw [if_pos c1] at hR
  refine K_run hB 100 ?_
  simp [go_sem,c1,wd]
  refine K_call rfl rfl rfl (args:=[.fsl (ints [cb,-cd,cn])]) (f:=294) (by simp [go_sem,ints]) (by simp [go_sem,hB]) ((Pure.loose o1 (by simp [bnd])).spec _ _) ?_
  refine K_run hB 100 ?_
  simp [go_sem]
  exact hR
 rw [if_neg c1] at hR
 by_cases c2:o=1
 ·rw [if_pos c2] at hR
  refine K_run hB 100 ?_
  simp [go_sem,c1,c2,wd]
  refine K_call rfl rfl rfl (args:=[.fsl (ints [-cd,cb,cn])]) (f:=294) (by simp [go_sem,ints]) (by simp [go_sem,hB]) ((Pure.loose o2 (by simp [bnd])).spec _ _) ?_
  refine K_run hB 100 ?_
  simp [go_sem]
  exact hR
 rw [if_neg c2] at hR
 refine K_run hB 100 ?_
 simp [go_sem,c1,c2]
 refine K_call rfl rfl rfl (args:=[.fsl (ints [cn,cb,cd])]) (f:=294) (by simp [go_sem,ints]) (by simp [go_sem,hB]) ((Pure.loose o3 (by simp [bnd])).spec _ _) ?_
 refine K_run hB 100 ?_
 simp [go_sem]
 exact hR
theorem hless_pure (o:Int) (a b:Ent):Pure P 292 [.i o,a.a,b.a] (.b (lessE o a b)):=by
 refine pure_of Tryz.func292 rfl rfl (by simp [Tryz.f292]) (by simp [bnd,bnd.bndL,Ent.a,Ent.cs]) (by simp [bnd,bnd.bndL]) fun B hB hnx=>?_
 simp only [Tryz.f292] at hB ⊢
 have h:=compare_pure o a b
 rw [←compE_less]
 refine K_run hB 100 ?_
 simp [go_sem,Ent.a,Ent.cs]
 refine K_call rfl rfl rfl (args:=[.i o,a.a,b.a]) (f:=293) (by simp [go_sem,Ent.a,Ent.cs]) (by simp [go_sem,hB]) ((h).spec _ _) ?_
 refine K_run hB 100 ?_
 simp [go_sem]
theorem ahead_pure (o o2:Int) (a b:Ent):Pure P 291 [.agg ((a.t o).map .t),.agg ((b.t o2).map .t)] (.b (lessE o a b)):=by
 refine pure_of Tryz.func291 rfl rfl (by simp [Tryz.f291]) (by simp [bnd,bnd.bndL,Ent.t]) (by simp [bnd,bnd.bndL]) fun B hB hnx=>?_
 simp only [Tryz.f291] at hB ⊢
 have h:=hless_pure o a b
 refine K_run hB 100 ?_
 simp [go_sem,Ent.t]
 refine K_call rfl rfl rfl (args:=[.i o,a.a,b.a]) (f:=292) (by simp [go_sem,Ent.a,Ent.cs]) (by simp [go_sem,hB]) ((h).spec _ _) ?_
 refine K_run hB 100 ?_
 simp [go_sem]
end Go.Proofs.YtackfabapangdaaGreat

set_option maxRecDepth 4000
set_option maxHeartbeats 1000000
namespace Go.Proofs.YtackfabapangdaaGreat
open Go Go.Proofs.YtackfabapangdaaGreat.R
def itemsT (o:Int) (l:List Ent):List (List T):=l.map (Ent.t o)
def swapE (l:List Ent) (i j:Nat):List Ent:=(l.set i (l.getD j Ent.zero)).set j (l.getD i Ent.zero)
def upGo (o:Int):Nat→List Ent→Nat→List Ent
 |0,l,_=>l
 |f+1,l,i=>if 0<i∧lessE o (l.getD i Ent.zero) (l.getD ((i-1) / 2) Ent.zero)=true then upGo o f (swapE l i ((i-1) / 2)) ((i-1) / 2) else l
def putH (o:Int) (l:List Ent) (e:Ent):List Ent:=upGo o (l.length+1) (l++[e]) l.length
def putS (σ:Nat→AObj) (nx h q:Nat) (o:Int) (l:List Ent):Nat→AObj:=fun i=>if i=h then .box [.ref (nx+1),.i o] else if i=nx+1 then .arr 4 (itemsT o l) else if i<nx∧i≠q then σ i else .dead
theorem item_ahead:((P.info? 205).bind fun info=>(info.methods.find? fun m=>m.name== "haulier/heap.ahead").map fun mm=>(mm.path,mm.func))=some (#[],some (291,false)):=by kernel_rfl
theorem item_meth:∃info mm,P.info? 205=some info∧(info.methods.find? fun m=>m.name== "haulier/heap.ahead")=some mm∧mm.path= #[]∧mm.func=some (291,false):=by
 obtain ⟨info,h1,h2⟩:=Option.bind_eq_some_iff.1 item_ahead
 obtain ⟨mm,h3,h4⟩:=Option.map_eq_some_iff.1 h2
 obtain ⟨h5,h6⟩:=Prod.mk.inj h4
 exact ⟨info,mm,h1,h3,h5,h6⟩
theorem swapE_len (l:List Ent) (i j:Nat):(swapE l i j).length=l.length:=by simp [swapE]
theorem items_len (o:Int) (l:List Ent):(itemsT o l).length=l.length:=List.length_map _
theorem items_get (o:Int) (l:List Ent) {k:Nat} (h:k<l.length) (h':k<(itemsT o l).length):(itemsT o l)[k]'h'=(l.getD k Ent.zero).t o:=by
 rw [List.getD_eq_getElem?_getD,List.getElem?_eq_getElem h]
 exact List.getElem_map _
theorem items_swap (o:Int) (l:List Ent) (i j:Nat):((itemsT o l).set i ((l.getD j Ent.zero).t o)).set j ((l.getD i Ent.zero).t o)=itemsT o (swapE l i j):=by
 simp [itemsT,swapE,List.map_set]
theorem put_spec (o:Int) (l:List Ent) (e:Ent) (hl:l.length<2^30) {σ:Nat→AObj} {nx h q:Nat} (hh:h<nx) (hσ:σ h= .box [.ref q,.i o]) (hq:q<nx) (hσq:σ q= .arr 4 (itemsT o l)):
  CallSpec P 178 [.ptr h 0,.agg ((e.t o).map .t)] σ nx (.tup []) (putS σ nx h q o (putH o l e)) (nx+2):=by
 refine spec_of_K Tryz.func178 rfl rfl (by simp [Tryz.f178]) fun B hB hnx hσB=>?_
 simp only [Tryz.f178] at hB ⊢
 obtain ⟨info,mm,m1,m2,m3,m4⟩:=item_meth
 have hne:¬h=nx:=by omega
 have hne2:¬q=nx:=by omega
 have hqh:¬q=h:=fun e=>by rw [e,hσ] at hσq;cases hσq
 have hil:=items_len o l
 have hcap:l.length+1≤mostLen:=by show _≤4294967296;omega
 have happ:itemsT o l++[[.i e.bound,.i e.depth,.i e.no,.i o]]=itemsT o (l++[e]):=by simp [itemsT,Ent.t]
 have hne3:¬h=nx+1:=by omega
 have w0':IntKind.i64.wrap (l.length:Int)=(l.length:Int):=w64 _ (by omega)
 have hne5:¬nx+1=h:=by omega
 have hne4:¬h=q:=fun e=>hqh e.symm
 have hil2:(itemsT o (l++[e])).length=l.length+1:=by rw [items_len,List.length_append];rfl
 have w0:IntKind.i64.wrap ((l.length:Int)+1-1)=(l.length:Int):=by rw [w64 _ (by omega)];omega
 generalize hR:putH o l e=R
 rw [putH] at hR
 have fin:∀(τ:Nat→AObj) (m:Slots),τ h= .box [.ref (nx+1),.i o]→τ (nx+1)= .arr 4 (itemsT o R)→(∀j,j<nx→j≠h→j≠q→τ j=σ j)→Go.Proofs.YtackfabapangdaaGreat.R.Ends nx (St.mk m τ (nx+2)) (.tup []) (putS σ nx h q o R) (nx+2) (.tup []):=fun τ m k1 k2 k3=>by
  refine ⟨fun i=>?_,Nat.le_refl _,by omega,.inl rfl,.inl rfl⟩
  unfold putS
  by_cases e1:i=h
  ·rw [if_pos e1,e1];exact .inr ⟨k1.symm,.inl rfl⟩
  rw [if_neg e1]
  by_cases e2:i=nx+1
  ·rw [if_pos e2,e2];exact .inr ⟨k2.symm,.inl rfl⟩
  rw [if_neg e2]
  by_cases e3:i<nx∧i≠q
  ·rw [if_pos e3];exact .inr ⟨(k3 i e3.1 e1 e3.2).symm,.inl rfl⟩
  ·rw [if_neg e3];exact .inl rfl
 refine K_run hB 100 ?_
 simp [go_sem,Ent.t]
 refine K_scopeN (α:=Nat×List Ent×Nat×(Nat→AObj)) 0 (fun (f,m,i,τ)=>upGo o f m i=R∧i<f∧i<m.length∧m.length<2^31∧τ h= .box [.ref (nx+1),.i o]∧τ (nx+1)= .arr 4 (itemsT o m)∧∀j,j<nx→j≠h→j≠q→τ j=σ j)
  (fun (f,m,i,τ)=>⟨sl [(0,.ptr h 0),(4,.i i)],τ,nx+2⟩) (fun a=>a.1) rfl ?_ ?_
 ·rintro ⟨f,m,i,τ⟩ ⟨g1,g2,g3,g4,g5,g6,g7⟩
  have himl:=items_len o m
  have w1:IntKind.i64.wrap ((i:Int)-1)=(i:Int)-1:=w64 _ (by omega)
  obtain ⟨v,hv⟩:∃v,v=(i-1) / 2:=⟨_,rfl⟩
  have w2:IntKind.i64.wrap (Int.tdiv ((i:Int)-1) 2)=(v:Int):=by
   rw [hv]
   rcases Nat.eq_zero_or_pos i with e | e
   ·subst e;rfl
   ·obtain ⟨k,rfl⟩:∃k,i=k+1:=⟨i-1,by omega⟩
    rw [show (((k+1:Nat):Int)-1)=(k:Int) by omega,Int.tdiv_eq_ediv_of_nonneg (by omega),w64 _ (by omega)]
    simp
  refine K_run hB 100 ?_
  simp [go_sem,w1,w2]
  obtain ⟨f,rfl⟩:∃f',f=f'+1:=⟨f-1,by omega⟩
  rw [upGo,←hv] at g1
  by_cases c0:i=0
  ·rw [if_neg (by omega)] at g1
   subst g1
   subst c0
   refine K_drawn [] rfl (by rw [hB];kernel_rfl) ?_
   refine K_run hB 100 ?_
   simp [go_sem,w1]
   exact fin _ _ g5 g6 g7
  have hov:v<m.length:=by omega
  have hgi:=fun h=>items_get o m (k:=i) g3 h
  have hgo:=fun h=>items_get o m (k:=v) hov h
  have hsw:=items_swap o m i v
  have hneI:¬i=v:=by omega
  generalize m.getD i Ent.zero=a at *
  generalize m.getD v Ent.zero=b at *
  have hah:=ahead_pure o o a b
  have c1:0<i:=by omega
  refine K_drawn [] rfl (by rw [hB];kernel_rfl) ?_
  refine K_run hB 100 ?_
  simp [go_sem,c1,g5,g6,himl,g3,hov,hgi,hgo,Ent.t]
  refine K_dLook (v:=.ifc 205 (a.t o)) (fun ho=>?_) (by simp [go_sem]) ?_
  ·exact does_ifc ho (by simp [go_sem]) rfl (tt_some tt205).1 rfl (by simp [go_sem,Ent.t])
  refine K_run hB 100 ?_
  simp [go_sem,c1,g5,g6,himl,g3,hov,hgi,hgo,Ent.t]
  refine K_dLook (v:=.b (lessE o a b)) (fun ho=>?_) (by simp [go_sem]) ?_
  ·exact does_invoke ho (by simp [go_sem]) rfl rfl rfl m1 m2 m3 m4 (tt_some tt205).1 rfl (by first | (simp [go_sem];done) | (simp [go_sem];rfl)) (by first | (simp [go_sem,Ent.t];done) | (simp [go_sem,Ent.t];rfl)) (hah.spec _ _)
  cases hless:lessE o a b with
  |false=>
   rw [if_neg (by simp [hless])] at g1
   subst g1
   refine K_run hB 100 ?_
   simp [go_sem]
   exact fin _ _ g5 g6 g7
  |true=>
   rw [if_pos ⟨c1,hless⟩] at g1
   refine K_run hB 100 ?_
   simp [go_sem]
   refine K_drawnF [25,27] [9] rfl (by rw [hB];kernel_rfl) (by kernel_rfl) fun ht hf'=>?_
   have hgs:∀h:v<((itemsT o m).set i [.i b.bound,.i b.depth,.i b.no,.i o]).length,((itemsT o m).set i [.i b.bound,.i b.depth,.i b.no,.i o])[v]'h=[.i b.bound,.i b.depth,.i b.no,.i o]:=fun h=>by
    rw [List.getElem_set_ne hneI]
    exact hgo _
   have hls:((itemsT o m).set i [.i b.bound,.i b.depth,.i b.no,.i o]).length=m.length:=by rw [List.length_set];exact himl
   simp only [Ent.t] at hsw
   refine K_run hB 100 ?_
   simp [go_sem,ht,hf',g5,g6,himl,g3,hov,hgi,hgo,hgs,hls,hsw,Ent.t]
   refine Next.mk (f,swapE m i v,v,_) ⟨g1,by simp only;omega,by rw [swapE_len];exact hov,by rw [swapE_len];exact g4,?_,?_,?_⟩ (Imp.slots (by simp [go_sem]) rfl rfl) (by simp only;omega)
   ·simp [oput,g5,hne3]
   ·simp [oput]
   ·intro j h1 h2 h3
    simp [oput,show ¬j=nx+1 by omega,g7 j h1 h2 h3]
 ·intro J hJ
  refine K_run hB 100 ?_
  simp [go_sem,hσ,hne]
  refine K_drawnF [7,10] [0] rfl (by rw [hB];kernel_rfl) (by kernel_rfl) fun ht hf'=>?_
  refine K_run hB 22 ?_
  simp [go_sem,ht,hf',hσ,hne,hne2,hne3,hne4,hne5,hσq,hil,hcap,happ,hil2,w0]
  refine hJ (l.length+1,l++[e],l.length,_) _ ⟨hR,by omega,by rw [List.length_append];simp,by rw [List.length_append];simp only [List.length_cons,List.length_nil];omega,?_,?_,?_⟩ (Imp.slots (by simp [go_sem,w0']) rfl rfl)
  ·simp [oput]
  ·simp [oput,hne3]
   intro e;omega
  ·intro j h1 h2 h3
   simp [oput,h2,h3,show ¬j=nx by omega,show ¬j=nx+1 by omega]
end Go.Proofs.YtackfabapangdaaGreat

set_option maxRecDepth 4000
set_option maxHeartbeats 2000000
namespace Go.Proofs.YtackfabapangdaaGreat
open Go Go.Proofs.YtackfabapangdaaGreat.R
def pick1 (o:Int) (l:List Ent) (k s:Nat):Nat:=if k<l.length∧lessE o (l.getD k Ent.zero) (l.getD s Ent.zero)=true then k else s
def pkN (o:Int) (l:List Ent) (i:Nat):Nat→Nat
 |0=>i
 |j+1=>pick1 o l (2*i+1+j) (pkN o l i j)
def downGo (o:Int):Nat→List Ent→Nat→List Ent
 |0,l,_=>l
 |f+1,l,i=>if pkN o l i 2=i then l else downGo o f (swapE l i (pkN o l i 2)) (pkN o l i 2)
def restH (o:Int) (l:List Ent):List Ent:=
 let m:=l.take (l.length-1)
 if m.length=0 then m else downGo o (l.length+1) (m.set 0 (l.getD (l.length-1) Ent.zero)) 0
def takeS (σ:Nat→AObj) (nx h q:Nat) (o:Int) (l:List Ent):Nat→AObj:=fun i=>if i=h then .box [.ref (nx+4),.i o] else if i=nx+4 then .arr 4 (itemsT o l) else if i<nx∧i≠q then σ i else .dead
theorem pick1_lt {o:Int} {l:List Ent} {k s:Nat} (h:s<l.length):pick1 o l k s<l.length:=by
 unfold pick1;split
 ·rename_i h2;exact h2.1
 ·exact h
theorem pkN_lt {o:Int} {l:List Ent} {i:Nat} (h:i<l.length):∀j,pkN o l i j<l.length
 |0=>h
 |j+1=>pick1_lt (pkN_lt h j)
theorem pick1_ge {o:Int} {l:List Ent} {k s:Nat}:pick1 o l k s=k∨pick1 o l k s=s:=by
 unfold pick1;split
 ·exact .inl rfl
 ·exact .inr rfl
theorem pk2_gt {o:Int} {l:List Ent} {i:Nat} (h:pkN o l i 2≠i):i<pkN o l i 2:=by
 have h1:=pick1_ge (o:=o) (l:=l) (k:=2*i+1+1) (s:=pkN o l i 1)
 have h2:=pick1_ge (o:=o) (l:=l) (k:=2*i+1+0) (s:=i)
 have e1:pkN o l i 2=pick1 o l (2*i+1+1) (pkN o l i 1):=rfl
 have e2:pkN o l i 1=pick1 o l (2*i+1+0) i:=rfl
 omega
def itemC (o:Int) (e:Ent):List AV:=[.i e.bound,.i e.depth,.i e.no,.i o]
theorem take_nil_spec (o:Int) {σ:Nat→AObj} {nx h q:Nat} (hh:h<nx) (hσ:σ h= .box [.ref q,.i o]) (hq:q<nx) (hσq:σ q= .arr 4 []):
  CallSpec P 127 [.ptr h 0] σ nx (.tup [.agg [.i 0,.i 0,.i 0,.i 0],.b false]) σ nx:=by
 refine spec_keep Tryz.func127 rfl rfl (by simp [Tryz.f127]) (by simp [bnd,bnd.bndL]) fun hk B hB hnx hσB=>?_
 simp only [Tryz.f127] at hB ⊢
 have hne:¬h=nx:=by omega
 have hne1:¬h=nx+1:=by omega
 have hne2:¬q=nx:=by omega
 have hne3:¬q=nx+1:=by omega
 refine K_run hB 100 ?_
 simp [go_sem]
 refine K_scopeN (α:=Unit) 0 (fun _=>False) (fun _=>⟨sl [],noObj,0⟩) (fun _=>0) rfl (fun _ h=>h.elim) ?_
 intro J hJ
 refine K_run hB 100 ?_
 simp [go_sem,hσ,hne,hne1,hne2,hne3,hσq]
 exact ⟨by omega,fun i hi=>by simp [oput,show ¬i=nx by omega,show ¬i=nx+1 by omega]⟩
theorem take_spec (o:Int) (l:List Ent) (hl:l.length<2^30) (hpos:0<l.length) {σ:Nat→AObj} {nx h q:Nat} (hh:h<nx) (hσ:σ h= .box [.ref q,.i o]) (hq:q<nx) (hσq:σ q= .arr 4 (itemsT o l)):
  CallSpec P 127 [.ptr h 0] σ nx (.tup [.agg (itemC o (l.getD 0 Ent.zero)),.b true]) (takeS σ nx h q o (restH o l)) (nx+5):=by
 refine spec_of_K Tryz.func127 rfl rfl (by simp [Tryz.f127]) fun B hB hnx hσB=>?_
 simp only [Tryz.f127] at hB ⊢
 obtain ⟨info,mm,m1,m2,m3,m4⟩:=item_meth
 have hne:¬h=nx:=by omega
 have hne1:¬h=nx+1:=by omega
 have hne2:¬q=nx:=by omega
 have hne3:¬q=nx+1:=by omega
 have hqh:¬q=h:=fun e=>by rw [e,hσ] at hσq;cases hσq
 have hhq:¬h=q:=fun e=>hqh e.symm
 have hil:=items_len o l
 have w0:IntKind.i64.wrap ((l.length:Int)-1)=((l.length-1:Nat):Int):=by rw [w64 _ (by omega)];omega
 have hl0:¬l.length=0:=by omega
 have hg0:=fun h=>items_get o l (k:=0) hpos h
 have hg1:=fun h=>items_get o l (k:=l.length-1) (by omega) h
 have hpred:l.length-1<l.length:=by omega
 obtain ⟨n,hn⟩:∃n,n=l.length-1:=⟨_,rfl⟩
 rw [←hn] at w0 hg1 hpred
 have hle:n≤l.length:=by omega
 have htk:(itemsT o l).take n=itemsT o (l.take n):=by rw [itemsT,itemsT,List.map_take]
 generalize hR:restH o l=R
 rw [restH,←hn] at hR
 try simp only at hR
 generalize hfst:l.getD 0 Ent.zero=a0 at *
 generalize hlst:l.getD n Ent.zero=a1 at *
 have hq0:(itemsT o l)[0]? =some [.i a0.bound,.i a0.depth,.i a0.no,.i o]:=by
  rw [List.getElem?_eq_getElem (by rw [hil];exact hpos),hg0];rfl
 have hq1:(itemsT o l)[n]? =some [.i a1.bound,.i a1.depth,.i a1.no,.i o]:=by
  rw [List.getElem?_eq_getElem (by rw [hil];exact hpred),hg1];rfl
 have e1:¬h=nx+1+1:=by omega
 have e2:¬h=nx+1+1+1:=by omega
 have e3:¬q=nx+1+1:=by omega
 have e4:¬q=nx+1+1+1:=by omega
 have e5:¬h=nx+1+1+1+1:=by omega
 have f1:¬nx+1+1=h:=by omega
 have f2:¬nx+1+1=q:=by omega
 have f3:¬nx+1+1+1=h:=by omega
 have f4:¬nx+1+1+1=q:=by omega
 have f5:¬nx=h:=by omega
 have f6:¬nx=q:=by omega
 have f7:¬nx+1=h:=by omega
 have f8:¬nx+1=q:=by omega
 have fa:¬nx=nx+1+1:=by omega
 have fb:¬nx=nx+1+1+1:=by omega
 have fc:¬nx=nx+1+1+1+1:=by omega
 have fin:∀(τ:Nat→AObj) (m:Slots) (r:AV),τ h= .box [.ref (nx+4),.i o]→τ (nx+4)= .arr 4 (itemsT o R)→(∀j,j<nx→j≠h→j≠q→τ j=σ j)→Go.Proofs.YtackfabapangdaaGreat.R.Ends nx (St.mk m τ (nx+5)) r (takeS σ nx h q o R) (nx+5) r:=fun τ m r k1 k2 k3=>by
  refine ⟨fun i=>?_,Nat.le_refl _,by omega,.inl rfl,.inl rfl⟩
  unfold takeS
  by_cases e1:i=h
  ·rw [if_pos e1,e1];exact .inr ⟨k1.symm,.inl rfl⟩
  rw [if_neg e1]
  by_cases e2:i=nx+4
  ·rw [if_pos e2,e2];exact .inr ⟨k2.symm,.inl rfl⟩
  rw [if_neg e2]
  by_cases e3:i<nx∧i≠q
  ·rw [if_pos e3];exact .inr ⟨(k3 i e3.1 e1 e3.2).symm,.inl rfl⟩
  ·rw [if_neg e3];exact .inl rfl
 have e6:¬nx+1+1+1+1=h:=by omega
 have e7:¬nx+1+1+1+1=q:=by omega
 have hlt:(itemsT o (l.take n)).length=n:=by rw [items_len,List.length_take];omega
 refine K_run hB 100 ?_
 simp [go_sem]
 refine K_scopeN (α:=Nat×List Ent×Nat×Nat×(Nat→AObj)) 0 (fun (f,m,i,p,τ)=>downGo o f m i=R∧m.length<f+i∧i<m.length∧m.length<2^30∧τ h= .box [.ref (nx+4),.i o]∧τ (nx+4)= .arr 4 (itemsT o m)∧(∀j,j<nx→j≠h→j≠q→τ j=σ j)∧τ p= .box (itemC o a0)∧nx+1<p∧p<nx+4∧∃cs,τ nx= .box cs∧cs.length=4)
  (fun (f,m,i,p,τ)=>⟨sl [(0,.ptr h 0),(2,.ptr nx 0),(5,.ptr p 0),(7,.i i)],τ,nx+5⟩) (fun a=>a.1) rfl ?_ ?_
 ·rintro ⟨f,m,i,p,τ⟩ ⟨g1,g2,g3,g4,g5,g6,g7,g8,g9,g10,cs,g11,g12⟩
  obtain ⟨f,rfl⟩:∃f',f=f'+1:=⟨f-1,by omega⟩
  rw [downGo] at g1
  have himl:=items_len o m
  have x1:IntKind.i64.wrap 1=1:=w64 1 (by omega)
  have x2:IntKind.i64.wrap 2=2:=w64 2 (by omega)
  obtain ⟨k1,hk1⟩:∃k,k=2*i+1:=⟨_,rfl⟩
  obtain ⟨k2,hk2⟩:∃k,k=2*i+2:=⟨_,rfl⟩
  have w1:IntKind.i64.wrap (2*(i:Int))=2*(i:Int):=w64 _ (by omega)
  have w2:IntKind.i64.wrap (2*(i:Int)+1)=(k1:Int):=by rw [w64 _ (by omega)];omega
  have w3:IntKind.i64.wrap (2*(i:Int)+2)=(k2:Int):=by rw [w64 _ (by omega)];omega
  refine K_run hB 100 ?_
  simp [go_sem,w1,w2,w3]
  refine K_loopP (α:=Nat) (fun j=>j≤2) (fun j=>⟨sl [(0,.ptr h 0),(2,.ptr nx 0),(5,.ptr p 0),(7,.i i),(8,.i (pkN o m i j)),(70,.agg [.i k1,.i k2]),(71,.i j)],τ,nx+5⟩) (fun j=>2-j) 0 (by omega) (Imp.slots (by simp [go_sem,pkN]) rfl rfl) ?_
  intro j hj
  obtain rfl | rfl | rfl:j=0∨j=1∨j=2:=by omega
  ·have hsl:=pkN_lt (o:=o) g3 0
   have hnx:pkN o m i 1=pick1 o m k1 (pkN o m i 0):=by rw [hk1];rfl
   generalize hs8:pkN o m i 0=s at *
   refine K_run hB 60 ?_
   simp [go_sem,hs8]
   by_cases c2:k1<m.length
   ·have hgk:=fun h=>items_get o m (k:=k1) c2 h
    have hgs:=fun h=>items_get o m (k:=s) hsl h
    rw [pick1] at hnx
    generalize m.getD k1 Ent.zero=a at *
    generalize m.getD s Ent.zero=b at *
    have hah:=ahead_pure o o a b
    refine K_drawn [] rfl (by rw [hB];kernel_rfl) ?_
    refine K_run hB 60 ?_
    simp [go_sem,c2,g5,g6,himl,hsl,hgk,hgs,Ent.t]
    refine K_dLook (v:=.ifc 205 (a.t o)) (fun ho=>?_) (by simp [go_sem]) ?_
    ·exact does_ifc ho (by simp [go_sem]) rfl (tt_some tt205).1 rfl (by simp [go_sem,Ent.t])
    refine K_run hB 60 ?_
    simp [go_sem,c2,g5,g6,himl,hsl,hgk,hgs,Ent.t]
    refine K_dLook (v:=.b (lessE o a b)) (fun ho=>?_) (by simp [go_sem]) ?_
    ·exact does_invoke ho (by simp [go_sem]) rfl rfl rfl m1 m2 m3 m4 (tt_some tt205).1 rfl (by first | (simp [go_sem];done) | (simp [go_sem];rfl)) (by first | (simp [go_sem,Ent.t];done) | (simp [go_sem,Ent.t];rfl)) (hah.spec _ _)
    cases hless:lessE o a b with
    |false=>
     rw [if_neg (by simp [hless])] at hnx
     refine K_run hB 60 ?_
     simp [go_sem]
     exact Next.mk 1 (by omega) (Imp.slots (by simp [go_sem,hnx,x1,x2]) rfl rfl) (by omega)
    |true=>
     rw [if_pos ⟨c2,hless⟩] at hnx
     refine K_run hB 60 ?_
     simp [go_sem]
     exact Next.mk 1 (by omega) (Imp.slots (by simp [go_sem,hnx,x1,x2]) rfl rfl) (by omega)
   ·rw [pick1,if_neg (fun h=>c2 h.1)] at hnx
    refine K_drawn [] rfl (by rw [hB];kernel_rfl) ?_
    refine K_run hB 60 ?_
    simp [go_sem,c2,g5,g6,himl]
    exact Next.mk 1 (by omega) (Imp.slots (by simp [go_sem,hnx,x1,x2]) rfl rfl) (by omega)
  ·have hsl:=pkN_lt (o:=o) g3 1
   have hnx:pkN o m i 2=pick1 o m k2 (pkN o m i 1):=by rw [hk2];rfl
   generalize hs8:pkN o m i 1=s at *
   refine K_run hB 60 ?_
   simp [go_sem,hs8]
   by_cases c2:k2<m.length
   ·have hgk:=fun h=>items_get o m (k:=k2) c2 h
    have hgs:=fun h=>items_get o m (k:=s) hsl h
    rw [pick1] at hnx
    generalize m.getD k2 Ent.zero=a at *
    generalize m.getD s Ent.zero=b at *
    have hah:=ahead_pure o o a b
    refine K_drawn [] rfl (by rw [hB];kernel_rfl) ?_
    refine K_run hB 60 ?_
    simp [go_sem,c2,g5,g6,himl,hsl,hgk,hgs,Ent.t]
    refine K_dLook (v:=.ifc 205 (a.t o)) (fun ho=>?_) (by simp [go_sem]) ?_
    ·exact does_ifc ho (by simp [go_sem]) rfl (tt_some tt205).1 rfl (by simp [go_sem,Ent.t])
    refine K_run hB 60 ?_
    simp [go_sem,c2,g5,g6,himl,hsl,hgk,hgs,Ent.t]
    refine K_dLook (v:=.b (lessE o a b)) (fun ho=>?_) (by simp [go_sem]) ?_
    ·exact does_invoke ho (by simp [go_sem]) rfl rfl rfl m1 m2 m3 m4 (tt_some tt205).1 rfl (by first | (simp [go_sem];done) | (simp [go_sem];rfl)) (by first | (simp [go_sem,Ent.t];done) | (simp [go_sem,Ent.t];rfl)) (hah.spec _ _)
    cases hless:lessE o a b with
    |false=>
     rw [if_neg (by simp [hless])] at hnx
     refine K_run hB 60 ?_
     simp [go_sem]
     exact Next.mk 2 (by omega) (Imp.slots (by simp [go_sem,hnx,x1,x2]) rfl rfl) (by omega)
    |true=>
     rw [if_pos ⟨c2,hless⟩] at hnx
     refine K_run hB 60 ?_
     simp [go_sem]
     exact Next.mk 2 (by omega) (Imp.slots (by simp [go_sem,hnx,x1,x2]) rfl rfl) (by omega)
   ·rw [pick1,if_neg (fun h=>c2 h.1)] at hnx
    refine K_drawn [] rfl (by rw [hB];kernel_rfl) ?_
    refine K_run hB 60 ?_
    simp [go_sem,c2,g5,g6,himl]
    exact Next.mk 2 (by omega) (Imp.slots (by simp [go_sem,hnx,x1,x2]) rfl rfl) (by omega)
  ·have hsl:=pkN_lt (o:=o) g3 2
   have hgt:=pk2_gt (o:=o) (l:=m) (i:=i)
   generalize pkN o m i 2=s at *
   obtain ⟨z0,z1,z2,z3,rfl⟩:∃z0 z1 z2 z3,cs=[z0,z1,z2,z3]:=by
    match cs,g12 with
    |[z0,z1,z2,z3],_=>exact ⟨z0,z1,z2,z3,rfl⟩
   refine K_run hB 60 ?_
   simp [go_sem]
   refine fork_dec (fun c3=>?_) (fun c3=>?_)
   ·rw [if_pos c3] at g1
    subst g1
    simp [go_sem,g8,g11,itemC]
    refine fin _ _ _ ?_ ?_ fun j j1 j2 j3=>?_
    ·simp [oput,g5,hne]
    ·simp [oput,g6]
    ·simp [oput,show ¬j=nx by omega,g7 j j1 j2 j3]
   ·rw [if_neg c3] at g1
    have hgi:=fun h=>items_get o m (k:=i) g3 h
    have hgs:=fun h=>items_get o m (k:=s) hsl h
    have hsw:=items_swap o m i s
    have c4:¬i=s:=fun e=>c3 e.symm
    generalize m.getD i Ent.zero=a at *
    generalize m.getD s Ent.zero=b at *
    have hgs2:∀h:s<((itemsT o m).set i [.i b.bound,.i b.depth,.i b.no,.i o]).length,((itemsT o m).set i [.i b.bound,.i b.depth,.i b.no,.i o])[s]'h=[.i b.bound,.i b.depth,.i b.no,.i o]:=fun h=>by
     rw [List.getElem_set_ne c4]
     exact hgs _
    have hls:((itemsT o m).set i [.i b.bound,.i b.depth,.i b.no,.i o]).length=m.length:=by rw [List.length_set];exact himl
    simp only [Ent.t] at hsw
    simp [go_sem]
    refine K_drawnF [25,27] [9] rfl (by rw [hB];kernel_rfl) (by kernel_rfl) fun ht hf'=>?_
    refine K_run hB 100 ?_
    simp [go_sem,ht,hf',g5,g6,himl,g3,hsl,hgi,hgs,hgs2,hls,hsw,Ent.t]
    have hgt2:=hgt c3
    refine Next.mk (f,swapE m i s,s,p,_) ⟨g1,by rw [swapE_len];simp only;omega,by rw [swapE_len];exact hsl,by rw [swapE_len];exact g4,?_,?_,fun j j1 j2 j3=>?_,?_,g9,g10,[z0,z1,z2,z3],?_,rfl⟩ (Imp.slots (by simp [go_sem]) rfl rfl) (by simp only;omega)
    ·simp [oput,g5,show ¬h=nx+4 by omega]
    ·simp [oput]
    ·simp [oput,show ¬j=nx+4 by omega,g7 j j1 j2 j3]
    ·simp [oput,show ¬p=nx+4 by omega,g8]
    ·simp [oput,g11]
 ·intro J hJ
  refine K_run hB 100 ?_
  simp [go_sem,hσ,hne,hne1,hne2,hne3,hσq,hil,hl0]
  refine K_drawnP [18,19,20,21] [0,1,2,3,4,5,6,7,8,9,10,11,12,13,14,15,16,17,18,19] 18 19 (by decide) rfl (by rw [hB];kernel_rfl) (by kernel_rfl) fun ht hf'=>?_
  refine K_run hB 60 ?_
  simp [go_sem,ht,hf',hσ,hne,hne1,hne2,hne3,hσq,hil,hl0,hpos,hg0,hg1,hpred,w0,hq0,hq1,e1,e2,e3,e4,Ent.t]
  refine K_dPair (by kernel_rfl) ?_ ?_
  all_goals
   refine K_run hB 60 ?_
   simp [go_sem,ht,hf',hσ,hne,hne1,hne2,hne3,hσq,hil,hl0,hpos,hg0,hg1,hpred,w0,hq0,hq1,e1,e2,e3,e4,Ent.t]
   refine K_drawnF [11,14] [0] rfl (by rw [hB];kernel_rfl) (by kernel_rfl) fun ht hf'=>?_
   refine K_run hB 60 ?_
   simp [go_sem,ht,hf',hσ,hne,hne1,hne2,hne3,hσq,hil,hl0,hpos,hg0,hg1,hpred,w0,hq0,hq1,e1,e2,e3,e4,Ent.t]
   apply K_dTold
   ·intro ho
    exact does_front (q:=q) (es:=itemsT o l) (sz:=4) (n:=n) (ik:=.i64) ho (by simp [go_sem]) rfl tt198 rfl tt205 (by simp [go_sem]) (by simp [oput,hne2,hne3,e3,e4,hσq]) (by simp [go_sem]) (by omega) (by omega)
   ·simp
   ·simp
   rw [htk]
   refine K_run hB 60 ?_
   simp [go_sem,ht,hf',hσ,hne,hne1,hne2,hne3,hhq,hqh,hσq,hlt,e1,e2,e3,e4,e5,e6,e7]
   refine fork_dec (fun c1=>?_) (fun c1=>?_)
  ·rw [if_pos (by rw [←items_len o,hlt];exact c1)] at hR
   subst hR
   simp [go_sem,hne,hne1,e1,e2,e3,e4,e5,e6,e7,f1,f2,f3,f4,f5,f6,f7,f8,fa,fb,fc]
   refine fin _ _ _ ?_ ?_ fun j j1 j2 j3=>?_
   ·simp [oput,hne,hne1,e1,e2,e3,e4,e5,e6,e7,f1,f2,f3,f4,f5,f6,f7,f8,fa,fb,fc]
   ·simp [oput,hne,hne1,e1,e2,e3,e4,e5,e6,e7,f1,f2,f3,f4,f5,f6,f7,f8,fa,fb,fc]
   ·simp [oput,j2,j3,show ¬j=nx by omega,show ¬j=nx+1 by omega,show ¬j=nx+1+1 by omega,show ¬j=nx+1+1+1 by omega,show ¬j=nx+1+1+1+1 by omega]
  ·rw [if_neg (by rw [←items_len o,hlt];exact c1)] at hR
   have c2:0<n:=by omega
   have hset:(itemsT o (l.take n)).set 0 [.i a1.bound,.i a1.depth,.i a1.no,.i o]=itemsT o ((l.take n).set 0 a1):=by simp [itemsT,List.map_set,Ent.t]
   have hgf0:(itemsT o (l.take n))[0]? =some [.i a0.bound,.i a0.depth,.i a0.no,.i o]:=by rw [←htk,List.getElem?_take,if_pos c2,hq0]
   have hgf:∀h:0<(itemsT o (l.take n)).length,(itemsT o (l.take n))[0]'h=[.i a0.bound,.i a0.depth,.i a0.no,.i o]:=fun h=>(List.getElem?_eq_some_iff.1 hgf0).2
   simp [go_sem,hne,hne1,e1,e2,e3,e4,e5,e6,e7,f1,f2,f3,f4,f5,f6,f7,f8,fa,fb,fc]
   refine K_drawnT [6] rfl (by rw [hB];kernel_rfl) (by kernel_rfl) fun ht=>?_
   refine K_run hB 12 ?_
   simp [go_sem,ht,hhq,hqh,hlt,c2,hset,hgf,hne,hne1,e1,e2,e3,e4,e5,e6,e7,f1,f2,f3,f4,f5,f6,f7,f8,fa,fb,fc]
   refine hJ (l.length+1,(l.take n).set 0 a1,0,nx+2,_) _ ⟨hR,?_,?_,?_,?_,?_,fun j j1 j2 j3=>?_,?_,?_,?_,[.i 0,.i 0,.i 0,.i 0],?_,rfl⟩ (Imp.slots (by simp [go_sem]) rfl rfl)
   ·simp only [List.length_set,List.length_take];omega
   ·simp only [List.length_set,List.length_take];omega
   ·simp only [List.length_set,List.length_take];omega
   ·simp [oput,hne,hne1,e1,e2,e3,e4,e5,e6,e7,f1,f2,f3,f4,f5,f6,f7,f8,fa,fb,fc]
   ·simp [oput,hne,hne1,e1,e2,e3,e4,e5,e6,e7,f1,f2,f3,f4,f5,f6,f7,f8,fa,fb,fc]
   ·simp [oput,j2,j3,show ¬j=nx by omega,show ¬j=nx+1 by omega,show ¬j=nx+1+1 by omega,show ¬j=nx+1+1+1 by omega,show ¬j=nx+1+1+1+1 by omega]
   ·simp [oput,itemC,hne,hne1,e1,e2,e3,e4,e5,e6,e7,f1,f2,f3,f4,f5,f6,f7,f8,fa,fb,fc]
   ·omega
   ·omega
   ·simp [oput,hne,hne1,e1,e2,e3,e4,e5,e6,e7,f1,f2,f3,f4,f5,f6,f7,f8,fa,fb,fc]
  ·rw [if_pos (by rw [←items_len o,hlt];exact c1)] at hR
   subst hR
   simp [go_sem,hne,hne1,e1,e2,e3,e4,e5,e6,e7,f1,f2,f3,f4,f5,f6,f7,f8,fa,fb,fc]
   refine fin _ _ _ ?_ ?_ fun j j1 j2 j3=>?_
   ·simp [oput,hne,hne1,e1,e2,e3,e4,e5,e6,e7,f1,f2,f3,f4,f5,f6,f7,f8,fa,fb,fc]
   ·simp [oput,hne,hne1,e1,e2,e3,e4,e5,e6,e7,f1,f2,f3,f4,f5,f6,f7,f8,fa,fb,fc]
   ·simp [oput,j2,j3,show ¬j=nx by omega,show ¬j=nx+1 by omega,show ¬j=nx+1+1 by omega,show ¬j=nx+1+1+1 by omega,show ¬j=nx+1+1+1+1 by omega]
  ·rw [if_neg (by rw [←items_len o,hlt];exact c1)] at hR
   have c2:0<n:=by omega
   have hset:(itemsT o (l.take n)).set 0 [.i a1.bound,.i a1.depth,.i a1.no,.i o]=itemsT o ((l.take n).set 0 a1):=by simp [itemsT,List.map_set,Ent.t]
   have hgf0:(itemsT o (l.take n))[0]? =some [.i a0.bound,.i a0.depth,.i a0.no,.i o]:=by rw [←htk,List.getElem?_take,if_pos c2,hq0]
   have hgf:∀h:0<(itemsT o (l.take n)).length,(itemsT o (l.take n))[0]'h=[.i a0.bound,.i a0.depth,.i a0.no,.i o]:=fun h=>(List.getElem?_eq_some_iff.1 hgf0).2
   simp [go_sem,hne,hne1,e1,e2,e3,e4,e5,e6,e7,f1,f2,f3,f4,f5,f6,f7,f8,fa,fb,fc]
   refine K_drawnT [6] rfl (by rw [hB];kernel_rfl) (by kernel_rfl) fun ht=>?_
   refine K_run hB 12 ?_
   simp [go_sem,ht,hhq,hqh,hlt,c2,hset,hgf,hne,hne1,e1,e2,e3,e4,e5,e6,e7,f1,f2,f3,f4,f5,f6,f7,f8,fa,fb,fc]
   refine hJ (l.length+1,(l.take n).set 0 a1,0,nx+3,_) _ ⟨hR,?_,?_,?_,?_,?_,fun j j1 j2 j3=>?_,?_,?_,?_,[.i 0,.i 0,.i 0,.i 0],?_,rfl⟩ (Imp.slots (by simp [go_sem]) rfl rfl)
   ·simp only [List.length_set,List.length_take];omega
   ·simp only [List.length_set,List.length_take];omega
   ·simp only [List.length_set,List.length_take];omega
   ·simp [oput,hne,hne1,e1,e2,e3,e4,e5,e6,e7,f1,f2,f3,f4,f5,f6,f7,f8,fa,fb,fc]
   ·simp [oput,hne,hne1,e1,e2,e3,e4,e5,e6,e7,f1,f2,f3,f4,f5,f6,f7,f8,fa,fb,fc]
   ·simp [oput,j2,j3,show ¬j=nx by omega,show ¬j=nx+1 by omega,show ¬j=nx+1+1 by omega,show ¬j=nx+1+1+1 by omega,show ¬j=nx+1+1+1+1 by omega]
   ·simp [oput,itemC,hne,hne1,e1,e2,e3,e4,e5,e6,e7,f1,f2,f3,f4,f5,f6,f7,f8,fa,fb,fc]
   ·omega
   ·omega
   ·simp [oput,hne,hne1,e1,e2,e3,e4,e5,e6,e7,f1,f2,f3,f4,f5,f6,f7,f8,fa,fb,fc]
end Go.Proofs.YtackfabapangdaaGreat

set_option maxRecDepth 4000
namespace Go.Proofs.YtackfabapangdaaGreat
open Go Go.Proofs.YtackfabapangdaaGreat.R
theorem getD_at {l:List Ent} {i:Nat} (h:i<l.length):l.getD i Ent.zero=l[i]:=by
 rw [List.getD_eq_getElem?_getD,List.getElem?_eq_getElem h];rfl
theorem swapE_perm {l:List Ent} {i j:Nat} (hi:i<l.length) (hj:j<l.length):(swapE l i j).Perm l:=by
 rw [swapE,getD_at hi,getD_at hj]
 exact List.set_set_perm hi hj
theorem upGo_perm (o:Int):∀(f:Nat) (l:List Ent) (i:Nat),i<l.length→(upGo o f l i).Perm l
 |0,l,i,_=>List.Perm.refl _
 |f+1,l,i,h=>by
  rw [upGo]
  split
  ·have hv:(i-1) / 2<l.length:=by omega
   exact (upGo_perm o f _ _ (by rw [swapE_len];exact hv)).trans (swapE_perm h hv)
  ·exact List.Perm.refl _
theorem putH_perm (o:Int) (l:List Ent) (e:Ent):(putH o l e).Perm (l++[e]):=upGo_perm o _ _ _ (by simp)
theorem downGo_perm (o:Int):∀(f:Nat) (l:List Ent) (i:Nat),i<l.length→(downGo o f l i).Perm l
 |0,l,i,_=>List.Perm.refl _
 |f+1,l,i,h=>by
  rw [downGo]
  split
  ·exact List.Perm.refl _
  ·have hv:=pkN_lt (o:=o) h 2
   exact (downGo_perm o f _ _ (by rw [swapE_len];exact hv)).trans (swapE_perm h hv)
theorem restH_perm (o:Int) {l:List Ent} (hpos:0<l.length):(l.getD 0 Ent.zero :: restH o l).Perm l:=by
 rw [restH]
 try simp only
 have hd:l=l.take (l.length-1)++[l[l.length-1]'(by omega)]:=by
  have h1:=List.drop_eq_getElem_cons (l:=l) (i:=l.length-1) (by omega)
  rw [List.drop_eq_nil_of_le (by omega:l.length≤l.length-1+1)] at h1
  rw [←h1,List.take_append_drop]
 rw [getD_at hpos,getD_at (i:=l.length-1) (by omega)]
 generalize hx:l[l.length-1]'(by omega)=x at *
 generalize hm:l.take (l.length-1)=m at *
 split
 ·rename_i h0
  have hm0:m=[]:=List.eq_nil_of_length_eq_zero h0
  subst hm0
  rw [List.nil_append] at hd
  have:l[0]=x:=by simp [hd]
  rw [this,hd]
 ·rename_i h0
  have hp:=downGo_perm o (l.length+1) (m.set 0 x) 0 (by rw [List.length_set];omega)
  cases m with
  |nil=>exact absurd rfl h0
  |cons y m=>
   have:l[0]=y:=by simp [hd]
   rw [this]
   rw [List.set_cons_zero] at hp
   refine (hp.cons y).trans ?_
   conv=>rhs;rw [hd]
   rw [List.cons_append]
   refine List.Perm.cons y ?_
   exact (List.perm_append_comm (l₁:=[x]) (l₂:=m))
end Go.Proofs.YtackfabapangdaaGreat

set_option maxRecDepth 4000
namespace Go.Proofs.YtackfabapangdaaGreat
open Go Go.Proofs.YtackfabapangdaaGreat.R
theorem notless_trans (o:Int) {a b c:Ent} (h1:lessE o b a=false) (h2:lessE o c b=false):lessE o c a=false:=by
 unfold lessE at *
 split at h1
 ·rename_i h
  rw [if_pos h] at h2 ⊢
  simp only [decide_eq_false_iff_not] at *
  omega
 ·rename_i h
  rw [if_neg h] at h2 ⊢
  split at h1
  ·rename_i h'
   rw [if_pos h'] at h2 ⊢
   simp only [decide_eq_false_iff_not] at *
   omega
  ·rename_i h'
   rw [if_neg h'] at h2 ⊢
   simp only [decide_eq_false_iff_not] at *
   omega
theorem less_asym (o:Int) {a b:Ent} (h:lessE o a b=true):lessE o b a=false:=by
 unfold lessE at *
 split at h
 ·rename_i h'
  rw [if_pos h']
  simp only [decide_eq_true_eq,decide_eq_false_iff_not] at *
  omega
 ·rename_i h'
  rw [if_neg h']
  split at h
  ·rename_i h''
   rw [if_pos h'']
   simp only [decide_eq_true_eq,decide_eq_false_iff_not] at *
   omega
  ·rename_i h''
   rw [if_neg h'']
   simp only [decide_eq_true_eq,decide_eq_false_iff_not] at *
   omega
def HeapOK (o:Int) (l:List Ent):Prop:=∀i,0<i→i<l.length→lessE o (l.getD i Ent.zero) (l.getD ((i-1) / 2) Ent.zero)=false
theorem heap_first {o:Int} {l:List Ent} (h:HeapOK o l):∀i,i<l.length→lessE o (l.getD i Ent.zero) (l.getD 0 Ent.zero)=false:=by
 intro i
 induction i using Nat.strongRecOn with
 |_ i ih=>
  intro hi
  by_cases h0:i=0
  ·subst h0
   cases hl:lessE o (l.getD 0 Ent.zero) (l.getD 0 Ent.zero) with
   |false=>rfl
   |true=>
    have:=less_asym o hl
    rw [hl] at this
    exact this
  ·exact notless_trans o (ih ((i-1) / 2) (by omega) (by omega)) (h i (by omega) hi)
theorem swapE_get {l:List Ent} {i j k:Nat} (hi:i<l.length) (hj:j<l.length):(swapE l i j).getD k Ent.zero=if k=j then l.getD i Ent.zero else if k=i then l.getD j Ent.zero else l.getD k Ent.zero:=by
 simp only [swapE,List.getD_eq_getElem?_getD,List.getElem?_set,List.length_set]
 by_cases h1:k=j
 ·subst h1
  simp [hj]
 ·rw [if_neg (fun e=>h1 e.symm),if_neg h1]
  by_cases h2:k=i
  ·subst h2
   simp [hi]
  ·rw [if_neg (fun e=>h2 e.symm),if_neg h2]
structure UpI (o:Int) (l:List Ent) (i:Nat):Prop where
 lt:i<l.length
 ok:∀k,0<k→k<l.length→k≠i→lessE o (l.getD k Ent.zero) (l.getD ((k-1) / 2) Ent.zero)=false
 kid:∀k,0<k→k<l.length→(k-1) / 2=i→0<i→lessE o (l.getD k Ent.zero) (l.getD ((i-1) / 2) Ent.zero)=false
theorem upGo_ok (o:Int):∀(f:Nat) (l:List Ent) (i:Nat),UpI o l i→i<f→HeapOK o (upGo o f l i)
 |0,l,i,_,h=>absurd h (Nat.not_lt_zero _)
 |f+1,l,i,h,hf=>by
  rw [upGo]
  split
  ·rename_i hc
   have hi:=h.lt
   obtain ⟨v,hv⟩:∃v,v=(i-1) / 2:=⟨_,rfl⟩
   rw [←hv] at hc ⊢
   have hvl:v<l.length:=by omega
   have hless:=less_asym o hc.2
   refine upGo_ok o f _ _ ⟨by rw [swapE_len];exact hvl,fun k k0 kl kv=>?_,fun k k0 kl kv v0=>?_⟩ (by omega)
   ·rw [swapE_len] at kl
    rw [swapE_get hi hvl,swapE_get hi hvl,if_neg kv]
    by_cases k1:k=i
    ·subst k1
     rw [if_pos rfl,if_pos hv.symm]
     exact hless
    ·rw [if_neg k1]
     by_cases k2:(k-1) / 2=v
     ·rw [if_pos k2]
      have:=h.ok k k0 kl k1
      rw [k2] at this
      exact notless_trans o hless this
     ·rw [if_neg k2]
      by_cases k3:(k-1) / 2=i
      ·rw [if_pos k3]
       have:=h.kid k k0 kl k3 hc.1
       rw [←hv] at this
       exact this
      ·rw [if_neg k3]
       exact h.ok k k0 kl k1
   ·rw [swapE_len] at kl
    rw [swapE_get hi hvl,swapE_get hi hvl,if_neg (by omega),if_neg (show ¬(v-1) / 2=v by omega),if_neg (show ¬(v-1) / 2=i by omega)]
    have hvo:=h.ok v v0 hvl (by omega)
    by_cases k1:k=i
    ·rw [if_pos k1];exact hvo
    ·rw [if_neg k1]
     have:=h.ok k k0 kl k1
     rw [kv] at this
     exact notless_trans o hvo this
  ·rename_i hc
   intro k k0 kl
   by_cases k1:k=i
   ·subst k1
    cases hl:lessE o (l.getD k Ent.zero) (l.getD ((k-1) / 2) Ent.zero) with
    |false=>rfl
    |true=>exact absurd ⟨k0,hl⟩ hc
   ·exact h.ok k k0 kl k1
theorem putH_ok {o:Int} {l:List Ent} (h:HeapOK o l) (e:Ent):HeapOK o (putH o l e):=by
 refine upGo_ok o _ _ _ ⟨by simp,fun k k0 kl kv=>?_,fun k k0 kl kv _=>?_⟩ (by omega)
 ·rw [List.length_append] at kl
  simp only [List.length_cons,List.length_nil] at kl
  have:=h k k0 (by omega)
  simp only [List.getD_eq_getElem?_getD] at this ⊢
  rw [List.getElem?_append_left (by omega),List.getElem?_append_left (by omega)]
  exact this
 ·rw [List.length_append] at kl
  simp only [List.length_cons,List.length_nil] at kl
  omega
end Go.Proofs.YtackfabapangdaaGreat

set_option maxRecDepth 4000
namespace Go.Proofs.YtackfabapangdaaGreat
open Go Go.Proofs.YtackfabapangdaaGreat.R
theorem less_irrefl (o:Int) (a:Ent):lessE o a a=false:=by
 cases h:lessE o a a with
 |false=>rfl
 |true=>
  have:=less_asym o h
  rw [h] at this
  exact this
theorem pick1_min (o:Int) (l:List Ent) (k s:Nat):lessE o (l.getD s Ent.zero) (l.getD (pick1 o l k s) Ent.zero)=false∧(k<l.length→lessE o (l.getD k Ent.zero) (l.getD (pick1 o l k s) Ent.zero)=false):=by
 unfold pick1
 split
 ·rename_i h
  exact ⟨less_asym o h.2,fun _=>less_irrefl o _⟩
 ·rename_i h
  refine ⟨less_irrefl o _,fun hk=>?_⟩
  cases hl:lessE o (l.getD k Ent.zero) (l.getD s Ent.zero) with
  |false=>rfl
  |true=>exact absurd ⟨hk,hl⟩ h
theorem pk2_min (o:Int) (l:List Ent) (i:Nat):lessE o (l.getD i Ent.zero) (l.getD (pkN o l i 2) Ent.zero)=false∧∀k,(k-1) / 2=i→0<k→k<l.length→lessE o (l.getD k Ent.zero) (l.getD (pkN o l i 2) Ent.zero)=false:=by
 have e2:pkN o l i 2=pick1 o l (2*i+1+1) (pick1 o l (2*i+1+0) i):=rfl
 obtain ⟨a1,a2⟩:=pick1_min o l (2*i+1+0) i
 obtain ⟨b1,b2⟩:=pick1_min o l (2*i+1+1) (pick1 o l (2*i+1+0) i)
 rw [←e2] at b1 b2
 refine ⟨notless_trans o b1 a1,fun k hk k0 kl=>?_⟩
 by_cases h:k=2*i+1+1
 ·subst h;exact b2 kl
 ·have:k=2*i+1+0:=by omega
  subst this
  exact notless_trans o b1 (a2 kl)
theorem pk2_par {o:Int} {l:List Ent} {i:Nat} (h:pkN o l i 2≠i):(pkN o l i 2-1) / 2=i:=by
 have h1:=pick1_ge (o:=o) (l:=l) (k:=2*i+1+1) (s:=pkN o l i 1)
 have h2:=pick1_ge (o:=o) (l:=l) (k:=2*i+1+0) (s:=i)
 have e1:pkN o l i 2=pick1 o l (2*i+1+1) (pkN o l i 1):=rfl
 have e2:pkN o l i 1=pick1 o l (2*i+1+0) i:=rfl
 omega
structure DownI (o:Int) (l:List Ent) (i:Nat):Prop where
 lt:i<l.length
 ok:∀k,0<k→k<l.length→(k-1) / 2≠i→lessE o (l.getD k Ent.zero) (l.getD ((k-1) / 2) Ent.zero)=false
 kid:∀k,0<k→k<l.length→(k-1) / 2=i→0<i→lessE o (l.getD k Ent.zero) (l.getD ((i-1) / 2) Ent.zero)=false
theorem downGo_ok (o:Int):∀(f:Nat) (l:List Ent) (i:Nat),DownI o l i→l.length<f+i→HeapOK o (downGo o f l i)
 |0,l,i,h,hf=>absurd h.lt (by omega)
 |f+1,l,i,h,hf=>by
  rw [downGo]
  obtain ⟨m1,m2⟩:=pk2_min o l i
  have hi:=h.lt
  have hsl:=pkN_lt (o:=o) hi 2
  have hgt:=pk2_gt (o:=o) (l:=l) (i:=i)
  have hpar:=pk2_par (o:=o) (l:=l) (i:=i)
  generalize pkN o l i 2=s at *
  split
  ·rename_i hs
   subst hs
   intro k k0 kl
   by_cases k1:(k-1) / 2=s
   ·rw [k1];exact m2 k k1 k0 kl
   ·exact h.ok k k0 kl k1
  ·rename_i hs
   have hgt:=hgt hs
   have hpar:=hpar hs
   refine downGo_ok o f _ _ ⟨by rw [swapE_len];exact hsl,fun k k0 kl kv=>?_,fun k k0 kl kv _=>?_⟩ (by rw [swapE_len];omega)
   ·rw [swapE_len] at kl
    rw [swapE_get hi hsl,swapE_get hi hsl,if_neg kv]
    by_cases k1:k=s
    ·subst k1
     rw [if_pos rfl,if_pos hpar]
     exact m1
    ·rw [if_neg k1]
     by_cases k2:k=i
     ·subst k2
      rw [if_pos rfl,if_neg (by omega)]
      exact h.kid s (by omega) hsl hpar k0
     ·rw [if_neg k2]
      by_cases k3:(k-1) / 2=i
      ·rw [if_pos k3];exact m2 k k3 k0 kl
      ·rw [if_neg k3];exact h.ok k k0 kl k3
   ·rw [swapE_len] at kl
    rw [swapE_get hi hsl,swapE_get hi hsl,if_neg (by omega),if_neg (by omega),hpar,if_neg (by omega),if_pos rfl]
    have:=h.ok k k0 kl (by omega)
    rw [kv] at this
    exact this
theorem restH_ok {o:Int} {l:List Ent} (h:HeapOK o l) (hpos:0<l.length):HeapOK o (restH o l):=by
 rw [restH]
 try simp only
 have ht:∀k,k<l.length-1→(l.take (l.length-1)).getD k Ent.zero=l.getD k Ent.zero:=fun k hk=>by
  simp only [List.getD_eq_getElem?_getD,List.getElem?_take,if_pos hk]
 have hlen:(l.take (l.length-1)).length=l.length-1:=by rw [List.length_take];omega
 generalize l.getD (l.length-1) Ent.zero=x
 generalize l.take (l.length-1)=m at *
 have hs:∀k,0<k→(m.set 0 x).getD k Ent.zero=m.getD k Ent.zero:=fun k hk=>by
  simp only [List.getD_eq_getElem?_getD,List.getElem?_set_ne (show 0≠k by omega)]
 split
 ·rename_i h0
  intro k _ kl
  omega
 ·rename_i h0
  refine downGo_ok o _ _ _ ⟨by rw [List.length_set];omega,fun k k0 kl kv=>?_,fun k k0 kl kv k1=>absurd k1 (Nat.lt_irrefl 0)⟩ (by rw [List.length_set];omega)
  rw [List.length_set] at kl
  rw [hs k k0,hs _ (by omega),ht k (by omega),ht _ (by omega)]
  exact h k k0 (by omega)
end Go.Proofs.YtackfabapangdaaGreat

set_option maxRecDepth 4000
namespace Go.Proofs.YtackfabapangdaaGreat
open Go Go.Proofs.YtackfabapangdaaGreat.R
theorem less_total (o:Int) {a b:Ent} (h1:lessE o a b=false) (h2:lessE o b a=false):a=b:=by
 have key:a.bound=b.bound∧a.depth=b.depth∧a.no=b.no:=by
  unfold lessE at *
  split at h1
  ·rename_i h
   rw [if_pos h] at h2
   simp only [decide_eq_false_iff_not] at *
   omega
  ·rename_i h
   rw [if_neg h] at h2
   split at h1
   ·rename_i h'
    rw [if_pos h'] at h2
    simp only [decide_eq_false_iff_not] at *
    omega
   ·rename_i h'
    rw [if_neg h'] at h2
    simp only [decide_eq_false_iff_not] at *
    omega
 obtain ⟨a1,a2,a3⟩:=a
 obtain ⟨b1,b2,b3⟩:=b
 simp only at key
 obtain ⟨rfl,rfl,rfl⟩:=key
 rfl
theorem minI_least (o:Int) (q:List Ent):∀(l:List Nat) (k r:Nat),l.foldl (fun k i=>if lessE o (q.getD i Ent.zero) (q.getD k Ent.zero)=true then i else k) k=r→lessE o (q.getD k Ent.zero) (q.getD r Ent.zero)=false∧∀i∈l,lessE o (q.getD i Ent.zero) (q.getD r Ent.zero)=false
 |[],k,r,h=>by
  rw [List.foldl_nil] at h
  subst h
  exact ⟨less_irrefl o _,fun i hi=>by cases hi⟩
 |i :: l,k,r,h=>by
  rw [List.foldl_cons] at h
  obtain ⟨h1,h2⟩:=minI_least o q l _ r h
  by_cases hl:lessE o (q.getD i Ent.zero) (q.getD k Ent.zero)=true
  ·rw [if_pos hl] at h1
   refine ⟨notless_trans o h1 (less_asym o hl),fun j hj=>?_⟩
   rcases List.mem_cons.1 hj with rfl | hj
   ·exact h1
   ·exact h2 j hj
  ·rw [if_neg hl] at h1
   have hl':lessE o (q.getD i Ent.zero) (q.getD k Ent.zero)=false:=by simpa using hl
   refine ⟨h1,fun j hj=>?_⟩
   rcases List.mem_cons.1 hj with rfl | hj
   ·exact notless_trans o h1 hl'
   ·exact h2 j hj
theorem take_heap {o:Int} {l q:List Ent} (hp:l.Perm q) (hok:HeapOK o l) (hpos:0<l.length):∃q',takeQ o q=some (l.getD 0 Ent.zero,q')∧(restH o l).Perm q':=by
 have hlen:=hp.length_eq
 have hq:q≠[]:=fun e=>by
  rw [e,List.length_nil] at hlen
  omega
 have hk:=minI_lt o hq
 have hmin:=fun i hi=>(minI_least o q (List.range q.length) 0 (minI o q) rfl).2 i (List.mem_range.2 hi)
 have hd:q=q.take (minI o q)++q[minI o q] :: q.drop (minI o q+1):=by rw [←List.drop_eq_getElem_cons hk,List.take_append_drop]
 have hmem:l.getD 0 Ent.zero∈q:=by
  rw [getD_at hpos]
  exact hp.subset (List.getElem_mem _)
 have hmem2:q.getD (minI o q) Ent.zero∈l:=by
  rw [getD_at hk]
  exact hp.symm.subset (List.getElem_mem _)
 have he:q.getD (minI o q) Ent.zero=l.getD 0 Ent.zero:=by
  obtain ⟨i,hi,e1⟩:=List.getElem_of_mem hmem
  obtain ⟨j,hj,e2⟩:=List.getElem_of_mem hmem2
  have h1:=hmin i hi
  have h2:=heap_first hok j hj
  rw [getD_at hi,e1] at h1
  rw [getD_at hj,e2] at h2
  exact less_total o h2 h1
 refine ⟨q.take (minI o q)++q.drop (minI o q+1),by rw [takeQ,if_neg hq,he],?_⟩
 have h3:=(restH_perm o hpos).trans hp
 have h4:(l.getD 0 Ent.zero :: (q.take (minI o q)++q.drop (minI o q+1))).Perm q:=by
  rw [←he,getD_at hk]
  refine List.perm_middle.symm.trans ?_
  rw [←hd]
 exact (h3.trans h4.symm).cons_inv
theorem least_fold_in:∀(l:List Ent) (n:Int),l.foldl (fun n f=>min n f.bound) n=n∨∃f∈l,l.foldl (fun n f=>min n f.bound) n=f.bound
 |[],n=>.inl rfl
 |e :: l,n=>by
  rw [List.foldl_cons]
  rcases least_fold_in l (min n e.bound) with h | ⟨f,hf,h⟩
  ·rw [h]
   by_cases c:n≤e.bound
   ·exact .inl (by omega)
   ·exact .inr ⟨e,List.mem_cons_self,by omega⟩
  ·exact .inr ⟨f,List.mem_cons_of_mem _ hf,h⟩
theorem least_in {q:List Ent} (h:q≠[]):∃f∈q,leastQ q=f.bound:=by
 cases q with
 |nil=>exact absurd rfl h
 |cons e l=>
  rcases least_fold_in l e.bound with h1 | ⟨f,hf,h1⟩
  ·exact ⟨e,List.mem_cons_self,h1⟩
  ·exact ⟨f,List.mem_cons_of_mem _ hf,h1⟩
theorem least_perm {l q:List Ent} (h:l.Perm q):leastQ l=leastQ q:=by
 by_cases hl:l=[]
 ·subst hl
  rw [h.symm.eq_nil]
 ·have hq:q≠[]:=fun e=>hl (by rw [e] at h;exact h.eq_nil)
  obtain ⟨f,hf,e1⟩:=least_in hl
  obtain ⟨g,hg,e2⟩:=least_in hq
  have h1:=least_le (h.subset hf)
  have h2:=least_le (h.symm.subset hg)
  omega
end Go.Proofs.YtackfabapangdaaGreat

set_option maxRecDepth 4000
set_option maxHeartbeats 1000000
namespace Go.Proofs.YtackfabapangdaaGreat
open Go Go.Proofs.YtackfabapangdaaGreat.R
theorem len_spec (o:Int) (l:List Ent) {σ:Nat→AObj} {nx h q:Nat} (hh:h<nx) (hσ:σ h= .box [.ref q,.i o]) (hq:q<nx) (hσq:σ q= .arr 4 (itemsT o l)):
  CallSpec P 128 [.ptr h 0] σ nx (.i l.length) σ nx:=by
 refine spec_keep Tryz.func128 rfl rfl (by simp [Tryz.f128]) (by simp [bnd]) fun hk B hB hnx hσB=>?_
 simp only [Tryz.f128] at hB ⊢
 have hil:=items_len o l
 refine K_run hB 100 ?_
 simp [go_sem,hσ,hσq,hil]
theorem hput_spec (o:Int) (l:List Ent) (e:Ent) (hl:l.length<2^30) {σ:Nat→AObj} {nx h q:Nat} (hh:h<nx) (hσ:σ h= .box [.ref q,.i o]) (hq:q<nx) (hσq:σ q= .arr 4 (itemsT o l)):
  CallQ P 126 [.ptr h 0,e.a] σ nx fun r σ' nx'=>r= .tup []∧nx≤nx'∧∃q',nx≤q'∧q'<nx'∧σ' h= .box [.ref q',.i o]∧σ' q'= .arr 4 (itemsT o (putH o l e))∧∀i,i<nx→i≠h→i≠q→σ' i=σ i:=by
 refine spec_of Tryz.func126 rfl rfl (by simp [Tryz.f126]) fun B hB hnx hσB=>?_
 simp only [Tryz.f126] at hB ⊢
 have hne:¬h=nx:=by omega
 have hne2:¬q=nx:=by omega
 have hp:=fun (τ:Nat→AObj) (h1:τ h= .box [.ref q,.i o]) (h2:τ q= .arr 4 (itemsT o l))=>put_spec o l e hl (σ:=τ) (nx:=nx+1) (h:=h) (q:=q) (by omega) h1 (by omega) h2
 refine K_run hB 100 ?_
 simp [go_sem,Ent.a,Ent.cs]
 refine K_drawnZ [] 9 _ rfl (by rw [hB];kernel_rfl) (by kernel_rfl) rfl ?_
 refine K_run hB 100 ?_
 simp [go_sem,hσ,hne]
 refine K_call rfl rfl rfl (args:=[.ptr h 0,.agg ((e.t o).map .t)]) (f:=178) (by simp [go_sem,Ent.t]) (by simp [go_sem,hB]) (hp _ (by simp [oput,hne,hσ]) (by simp [oput,hne2,hσq])) ?_
 refine K_run hB 100 ?_
 simp [go_sem]
 have e1:¬nx+1+1=h:=by omega
 have e2:¬h=nx+1+1:=by omega
 refine ⟨by omega,nx+1+1,by omega,by omega,by rw [putS,if_pos rfl],by rw [putS,if_neg e1,if_pos rfl],fun i h1 h2 h3=>?_⟩
 rw [putS,if_neg h2,if_neg (by omega),if_pos ⟨by omega,h3⟩,oput,if_neg (by omega)]
theorem htake_nil (o:Int) {σ:Nat→AObj} {nx h q:Nat} (hh:h<nx) (hσ:σ h= .box [.ref q,.i o]) (hq:q<nx) (hσq:σ q= .arr 4 []):
  CallSpec P 74 [.ptr h 0] σ nx (.tup [Ent.zero.a,.b false]) σ nx:=by
 refine spec_keep Tryz.func74 rfl rfl (by simp [Tryz.f74]) (by simp [bnd,bnd.bndL,Ent.a,Ent.cs]) fun hk B hB hnx hσB=>?_
 simp only [Tryz.f74] at hB ⊢
 have hne:¬h=nx:=by omega
 have hne2:¬q=nx:=by omega
 have hp:=fun (τ:Nat→AObj) (h1:τ h= .box [.ref q,.i o]) (h2:τ q= .arr 4 [])=>take_nil_spec o (σ:=τ) (nx:=nx+1) (h:=h) (q:=q) (by omega) h1 (by omega) h2
 refine K_run hB 100 ?_
 simp [go_sem]
 refine K_call rfl rfl rfl (args:=[.ptr h 0]) (f:=127) (by simp [go_sem]) (by simp [go_sem,hB]) (hp _ (by simp [oput,hne,hσ]) (by simp [oput,hne2,hσq])) ?_
 refine K_run hB 100 ?_
 simp [go_sem,Ent.a,Ent.cs,Ent.zero]
 exact ⟨by omega,fun i hi=>by simp [oput,show ¬i=nx by omega,show ¬i=nx+1 by omega]⟩
theorem htake_spec (o:Int) (l:List Ent) (hl:l.length<2^30) (hpos:0<l.length) {σ:Nat→AObj} {nx h q:Nat} (hh:h<nx) (hσ:σ h= .box [.ref q,.i o]) (hq:q<nx) (hσq:σ q= .arr 4 (itemsT o l)):
  CallQ P 74 [.ptr h 0] σ nx fun r σ' nx'=>r= .tup [(l.getD 0 Ent.zero).a,.b true]∧nx≤nx'∧∃q',nx≤q'∧q'<nx'∧σ' h= .box [.ref q',.i o]∧σ' q'= .arr 4 (itemsT o (restH o l))∧∀i,i<nx→i≠h→i≠q→σ' i=σ i:=by
 refine spec_of Tryz.func74 rfl rfl (by simp [Tryz.f74]) fun B hB hnx hσB=>?_
 simp only [Tryz.f74] at hB ⊢
 have hne:¬h=nx:=by omega
 have hne2:¬q=nx:=by omega
 have e1:¬nx+1+4=h:=by omega
 have e2:¬h=nx+1+4:=by omega
 have e3:¬nx=h:=by omega
 have e4:¬nx=q:=by omega
 have hp:=fun (τ:Nat→AObj) (h1:τ h= .box [.ref q,.i o]) (h2:τ q= .arr 4 (itemsT o l))=>take_spec o l hl hpos (σ:=τ) (nx:=nx+1) (h:=h) (q:=q) (by omega) h1 (by omega) h2
 generalize restH o l=R at *
 generalize l.getD 0 Ent.zero=e at *
 refine K_run hB 100 ?_
 simp [go_sem]
 refine K_call rfl rfl rfl (args:=[.ptr h 0]) (f:=127) (by simp [go_sem]) (by simp [go_sem,hB]) (hp _ (by simp [oput,hne,hσ]) (by simp [oput,hne2,hσq])) ?_
 have e5:takeS (oput σ nx (.box [.i 0,.i 0,.i 0])) (nx+1) h q o R nx= .box [.i 0,.i 0,.i 0]:=by
  rw [takeS,if_neg e3,if_neg (by omega),if_pos ⟨by omega,e4⟩,oput,if_pos rfl]
 have hst:∀i,takeS (oput σ nx (.box [.i 0,.i 0,.i 0])) (nx+1) h q o R i=if i=h then .box [.ref (nx+1+4),.i o] else if i=nx+1+4 then .arr 4 (itemsT o R) else if i<nx+1∧i≠q then oput σ nx (.box [.i 0,.i 0,.i 0]) i else .dead:=fun i=>rfl
 generalize takeS (oput σ nx (.box [.i 0,.i 0,.i 0])) (nx+1) h q o R=τ at *
 have e6:¬nx=nx+1+5:=by omega
 refine K_run hB 100 ?_
 simp [go_sem,Ent.a,Ent.cs,itemC,e5,e6]
 refine ⟨by omega,nx+1+4,by omega,by omega,?_,?_,fun i h1 h2 h3=>?_⟩
 ·simp [oput,show ¬h=nx by omega,show ¬h=nx+1+5 by omega,hst h]
 ·simp [oput,show ¬nx+1+4=nx by omega,hst (nx+1+4),e1]
 ·simp [oput,show ¬i=nx by omega,show ¬i=nx+1+5 by omega,hst i,h2,h3,show ¬i=nx+1+4 by omega,show i<nx+1 by omega]
theorem hleast_spec (o:Int) (l:List Ent) (hl:l.length<2^30) {σ:Nat→AObj} {nx h q:Nat} (hh:h<nx) (hσ:σ h= .box [.ref q,.i o]) (hq:q<nx) (hσq:σ q= .arr 4 (itemsT o l)):
  CallSpec P 76 [.ptr h 0] σ nx (.i (leastQ l)) σ nx:=by
 generalize hR:leastQ l=R
 refine spec_keep Tryz.func76 rfl rfl (by simp [Tryz.f76]) (by simp [bnd]) fun hk B hB hnx hσB=>?_
 simp only [Tryz.f76] at hB ⊢
 have hil:=items_len o l
 have hlen:=len_spec o l hh hσ hq hσq
 refine K_run hB 100 ?_
 simp [go_sem]
 refine K_call rfl rfl rfl (args:=[.ptr h 0]) (f:=128) (by simp [go_sem]) (by simp [go_sem,hB]) hlen ?_
 by_cases c0:l.length=0
 ·have:l=[]:=List.eq_nil_of_length_eq_zero c0
  subst this
  have:R=1152921504606846976:=hR.symm
  refine K_run hB 100 ?_
  simp [go_sem,this]
 ·have hpos:0<l.length:=by omega
  have hg0:=fun h=>items_get o l (k:=0) hpos h
  have hR0:l.foldl (fun n f=>min n f.bound) (l.getD 0 Ent.zero).bound=R:=by
   cases l with
   |nil=>simp at hpos
   |cons e l=>rw [←hR];simp [leastQ]
  have w1:∀k:Nat,k<l.length→IntKind.i64.wrap ((k:Int)+1)=((k+1:Nat):Int):=fun k hk=>by rw [w64 _ (by omega)];omega
  generalize l.getD 0 Ent.zero=e0 at *
  refine K_run hB 100 ?_
  simp [go_sem,c0,hσ,hσq,hil,hpos,hg0,Ent.t]
  refine K_loopP (α:=Nat×Int×(Nat→AObj)×Nat) (fun (k,n,τ,m)=>k≤l.length∧(l.drop k).foldl (fun n f=>min n f.bound) n=R∧nx≤m∧∀i,i<nx→τ i=σ i) (fun (k,n,τ,m)=>⟨sl [(3,.i n),(22,.ref q),(23,.i l.length),(24,.i k)],τ,m⟩) (fun a=>l.length-a.1) (0,e0.bound,_,_) ⟨Nat.zero_le _,hR0,Nat.le_refl _,fun i _=>rfl⟩ (Imp.slots (by simp [go_sem]) rfl rfl) ?_
  rintro ⟨k,n,τ,m⟩ ⟨g1,g2,g3,g4⟩
  have hτ:=g4 q hq
  rw [hσq] at hτ
  have hqm:¬q=m:=by omega
  refine K_run hB 60 ?_
  simp [go_sem]
  refine fork_dec (fun hk=>?_) (fun hk=>?_)
  ·have hgk:=fun h=>items_get o l (k:=k) hk h
   rw [List.drop_eq_getElem_cons hk,List.foldl_cons] at g2
   have hgd:l.getD k Ent.zero=l[k]:=getD_at hk
   rw [hgd] at hgk
   have w1:=w1 k hk
   generalize l[k]=e at *
   simp [go_sem,hτ,hil,hk,hgk,Ent.t,w1]
   exact Next.mk (k+1,min n e.bound,_,_) ⟨by omega,g2,by simp only;omega,fun i hi=>by simp [oput,show ¬i=m by omega,g4 i hi]⟩ (Imp.slots (by simp [go_sem]) rfl rfl) (by simp only;omega)
  ·have:k=l.length:=by omega
   subst this
   rw [List.drop_length,List.foldl_nil] at g2
   subst g2
   simp [go_sem]
   exact ⟨by omega,g4⟩
end Go.Proofs.YtackfabapangdaaGreat

set_option maxRecDepth 4000
namespace Go.Proofs.YtackfabapangdaaGreat
open Go Go.Proofs.YtackfabapangdaaGreat.R
def Opt.cs (o:Opt):List AV:=[.i o.width,.i o.order,.i o.budget]
def Opt.a (o:Opt):AV:=.agg o.cs
def Opt.mayB (o:Opt):Bool:=decide ((1≤o.width∧o.width≤1048576)∧(0≤o.order∧o.order≤2)∧(0≤o.budget∧o.budget≤549755813888))
def Opt.near (o:Opt):Opt:=⟨min (max o.width 1) 1048576,min (max o.order 0) 2,min (max o.budget 0) 549755813888⟩
theorem near_self (o:Opt):decide (o.width=o.near.width∧o.order=o.near.order∧o.budget=o.near.budget)=o.mayB:=by
 refine decide_eq_decide.2 ?_
 simp only [Opt.near]
 omega
theorem bounded_pure (o:Opt):Pure P 86 [o.a] (o.near.a):=by
 refine pure_of Tryz.func86 rfl rfl (by simp [Tryz.f86]) (by simp [bnd,bnd.bndL,Opt.a,Opt.cs]) (by simp [bnd,bnd.bndL,Opt.a,Opt.cs]) fun B hB hnx=>?_
 simp only [Tryz.f86] at hB ⊢
 refine K_run hB 100 ?_
 simp [go_sem,Opt.a,Opt.cs]
 exact ⟨rfl,rfl,rfl⟩
theorem opt_guard:P.eqGuardType P.depth 53=false:=by kernel_rfl
theorem opt_stood:P.stoodInHeld 53=false:=by kernel_rfl
theorem opt_eq (a b:Opt):eqA P 10000 53 a.a b.a=some (decide (a.width=b.width∧a.order=b.order∧a.budget=b.budget)):=by
 simp [go_sem,Opt.a,Opt.cs,opt_stood]
theorem omay_pure (o:Opt):Pure P 34 [o.a] (.b o.mayB):=by
 refine pure_of Tryz.func34 rfl rfl (by simp [Tryz.f34]) (by simp [bnd,bnd.bndL,Opt.a,Opt.cs]) (by simp [bnd,bnd.bndL]) fun B hB hnx=>?_
 simp only [Tryz.f34] at hB ⊢
 have h:=bounded_pure o
 have hn:=near_self o
 generalize o.near=p at *
 refine K_run hB 100 ?_
 simp [go_sem,Opt.a,Opt.cs]
 refine K_drawn [] rfl (by rw [hB];kernel_rfl) ?_
 refine K_run hB 100 ?_
 simp [go_sem]
 refine K_dCallP rfl rfl rfl (args:=[o.a]) (f:=86) (by simp [go_sem,Opt.a,Opt.cs]) (h) ?_
 refine K_dEq (op:=.eql) (t:=53) (t':=53) (x:=.tmp 3) (y:=.tmp 5) (xs:=o.cs) (ys:=p.cs) (by simp [go_sem]) rfl (by simp [go_sem,Opt.cs]) (by simp [go_sem,Opt.a,Opt.cs]) opt_guard (opt_eq o p) rfl ?_
 rw [hn]
 refine K_run hB 100 ?_
 simp [go_sem]
end Go.Proofs.YtackfabapangdaaGreat
