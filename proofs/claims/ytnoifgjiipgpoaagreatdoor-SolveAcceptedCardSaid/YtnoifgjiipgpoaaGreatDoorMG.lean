/- Parts of the proof. -/
import Derived.Test.YtnoifgjiipgpoaaGreatDoorMF
set_option linter.all false
set_option maxHeartbeats 4000000
namespace Go.Proofs.YtnoifgjiipgpoaaGreatDoor
open Go Go.Proofs.YtnoifgjiipgpoaaGreatDoor.R
set_option maxRecDepth 4000
theorem aLO (x:aA) (W:Nat) (k:Nat):∀(d:Nat) (st:aC×Bool×Int) (l:List aC) (n:Int) {K:Nat},iC x l d K→K≤k→st.1.path.length≤k→(x.naGo W d st l n).1.path.length≤k
 |0,st,l,n,K,_,_,h=>h
 |d+1,st,l,n,K,h1,h2,h3=>by
  rw [aA.naGo];split
  ·exact h3
  ·refine aLO x W k d _ _ _ (h1.few W st.2.2) h2 ?_;unfold aA.look;split
   ·exact aA2 fun m hm=>by have:=h1.path m hm;omega
   ·exact h3
theorem aYD (x:aA) (n:aC) (w up:Int) (ho:n.s.ok):(x.narrow n w up).1.path.length≤n.path.length+41:=by have:=lQ x n.s;have h:=aLO x (iA w) (n.path.length+x.meas n.s+1) _ (aC.zero,false,up) _ 0 (iC.root x n ho) (Nat.le_refl _) (Nat.zero_le _);have:(x.narrow n w up).1.path.length≤n.path.length+x.meas n.s+1:=h;omega
theorem dY.few {x:aA} {l:List aC} {d:Nat} (h:dY x l (d+1)) (W:Nat) (up:Int):dY x (x.few W l up) d:=(h.next up).sub fun n hn=>aCB hn
theorem aLN {x:aA} (W:Nat):∀(d:Nat) (st:aC×Bool×Int) (l:List aC) (n:Int),dY x l d→rQ st→
  ((x.naGo W d st l n).2.1=st.2.1∧(x.naGo W d st l n).1=st.1)∨
  ((x.naGo W d st l n).2.1=true∧∃m∈l,∃(w:List Int) (c:Int),x.way w m.s c∧(x.naGo W d st l n).1.cost=m.cost+c∧(x.naGo W d st l n).1.path=m.path++w∧m.cost+c<st.2.2)
 |0,st,l,n,_,_=>.inl ⟨rfl,rfl⟩
 |d+1,st,l,n,hl,h=>by
  rw [aA.naGo];split
  ·exact .inl ⟨rfl,rfl⟩
  obtain ⟨k1,k2,k3⟩:=vE (x:=x) (l:=l) h;rcases aLN W d (x.look st l) (x.few W l st.2.2) (IntKind.i64.wrap (n+l.length)) (hl.few W st.2.2) k1 with ⟨i1,i2⟩ | ⟨i1,m,hm,w,c,i2,i3,i4,i5⟩
  ·by_cases hh:(x.bests l).2=true∧(x.bests l).1.cost<st.2.2
   ·have hlk:x.look st l=((x.bests l).1,true,(x.bests l).1.cost):=by rw [aA.look,if_pos hh]
    rw [i1,i2,hlk];obtain ⟨m,hm,b1,b2,b3⟩:=aA1 hh.1;rw [uY hl hm b1] at b2;exact .inr ⟨rfl,m,hm,[],_,⟨b1,rfl⟩,b2,by rw [List.append_nil];exact b3,by omega⟩
   ·have hlk:x.look st l=st:=by rw [aA.look,if_neg hh]
    rw [i1,i2,hlk];exact .inl ⟨rfl,rfl⟩
  ·obtain ⟨q,hq,j,hj,rfl,_⟩:=gZ (aCB hm);have hj:=jW hj;have hcc:=qV hl hq hj;refine .inr ⟨i1,q,hq,j :: w,(x.move q.s j).2.1+c,⟨hj,c,i2,rfl⟩,?_,?_,?_⟩
   ·rw [i3,hcc];omega
   ·rw [i4];show (q.path++[j])++w=_;rw [List.append_assoc];rfl
   ·rw [hcc] at i5;omega
theorem aYB {x:aA} {n:aC} {up wi:Int} (h1:n.s.ok) (h2:n.s.Pos) (h3:n.s.seenAt) (h4:0≤n.cost∧n.cost≤1152921504606000000) (hs:(x.narrow n wi up).2.1=true):
  ∃(w:List Int) (c:Int),x.way w n.s c∧(x.narrow n wi up).1.cost=n.cost+c∧(x.narrow n wi up).1.path=n.path++w∧n.cost+c<up:=by
 rcases aLN (x:=x) (iA wi) _ (aC.zero,false,up) _ 0 (dY.root h1 h2 h3 h4) (fun h=>by cases h) with ⟨i1,_⟩ | ⟨_,m,hm,w,c,i2⟩
 ·rw [aA.narrow,i1] at hs;cases hs
 ·rw [List.mem_singleton.1 hm] at i2;exact ⟨w,c,i2⟩
theorem aLP (x:aA) (W:Nat) (hW:W≤3000):∀(d:Nat) (st:aC×Bool×Int) (l:List aC) (n:Int),l.length≤W→0≤n→n+3000*d<9223372036854775808→n≤(x.naGo W d st l n).2.2∧(x.naGo W d st l n).2.2≤n+W*d
 |0,st,l,n,_,_,_=>by rw [aA.naGo];simp
 |d+1,st,l,n,hl,h0,hn=>by
  rw [aA.naGo];have e:(W:Int)*((d+1:Nat):Int)=W*d+W:=by rw [Int.natCast_add,Int.mul_add];simp
  have e2:(0:Int)≤(W:Int)*d:=Int.mul_nonneg (by omega) (by omega);split
  ·refine ⟨Int.le_refl _,?_⟩;simp only;omega
  ·have hw:=aO (n+l.length) (by omega);obtain ⟨i1,i2⟩:=aLP x W hW d (x.look st l) (x.few W l st.2.2) (IntKind.i64.wrap (n+l.length)) (aCA x W l st.2.2) (by omega) (by omega);refine ⟨by omega,?_⟩;rw [hw] at i2 ⊢;omega
theorem aLR (x:aA) (n:aC) (wi up:Int) (hw:wi≤3000):1≤(x.narrow n wi up).2.2∧(x.narrow n wi up).2.2≤1+iA wi*x.meas n.s:=by
 have hm:=lQ x n.s;have hW2:iA wi≤3000:=by unfold iA;split<;>omega
 have e:x.narrow n wi up=x.naGo (iA wi) (x.meas n.s) (x.look (aC.zero,false,up) [n]) (x.few (iA wi) [n] up) 1:=by rw [aA.narrow,aA.naGo,if_neg (by simp)];rfl
 have:=aLP x (iA wi) hW2 (x.meas n.s) (x.look (aC.zero,false,up) [n]) (x.few (iA wi) [n] up) 1 (aCA x _ _ _) (by omega) (by omega);rw [e];exact this
theorem aX2 {x:aA} {p:Nat} (hx:x.Fit p) (hm:x.may=true):(x.meas x.rootS:Int)≤2*x.pairs+x.cars-1:=by
 have hp:=hx.pairs;have hc:=hx.cars;unfold aA.meas;split
 ·rw [aA.rootS,if_pos hm]
  have h6:((List.range (2*x.pairs.toNat+1)).filter fun j:Nat=>decide (1≤j)&& !cI ({aF.zero with car:=1,time:=(x.stop 0).ready}:aF).must (j:Int)).length<((List.range (2*x.pairs.toNat+1)).filter fun _=>true).length:=
   sN _ (a:=0) (List.mem_range.2 (by omega)) rfl (by simp) (fun _ _=>rfl)
  rw [List.filter_eq_self.2 (fun _ _=>rfl),List.length_range] at h6;have:x.base ({aF.zero with car:=1,time:=(x.stop 0).ready}:aF)≤2*x.pairs.toNat+(x.cars-1).toNat:=Nat.add_le_add (Nat.le_of_lt_succ h6) (Nat.le_refl _);omega
 ·omega
def aA.deep (x:aA):Int:=if x.may then 2*x.pairs+x.cars-1 else 0
theorem aHS (x:aA) (hl:x.stops.length<2^63):Pure P 159 [x.a] (.i x.deep):=by
 refine aW Tryz.func159 rfl rfl (by simp [Tryz.f159]) (by simp [aE,aE.bndL,aA.a]) (by simp [aE,aE.bndL]) fun B hB hnx=>?_
 simp only [Tryz.f159] at hB ⊢;refine aD ?_;simp [go_sem,aA.a];refine aL rfl rfl rfl (args:=[x.a]) (f:=44) (by simp [go_sem,aA.a]) (by simp [go_sem,hB]) ((lP x hl).spec _ _) ?_;cases hmay:x.may with
 |false=>refine aD ?_;simp [go_sem];rw [aA.deep,if_neg (by simp [hmay])]
 |true=>obtain ⟨p,hx⟩:=x.fit hmay;have hp:=hx.pairs;have hf:=hx.few;have hc:=hx.cars;have w1:=aO (2*x.pairs) (by omega);have w2:=aO (2*x.pairs+x.cars) (by omega);have w3:=aO (2*x.pairs+x.cars-1) (by omega);refine aD ?_;simp [go_sem,w1,w2,w3];rw [aA.deep,if_pos hmay]
def aF.join (s t:aF):aF:=⟨s.spot,min s.car t.car,min s.time t.time,min s.load t.load,min s.first t.first,s.must&&&t.must,s.can|||t.can,s.on&&&t.on⟩
def eU:List aF→aF×Bool
 |[]=>(aF.zero,false)
 |s :: l=>if l.any (fun t=>decide (t.spot≠s.spot))=true then (aF.zero,false) else (l.foldl aF.join s,true)
def iR:List aC→Int
 |[]=>0
 |n :: l=>l.foldl (fun c m=>min c m.cost) n.cost
def kQ (l:List aC):aC×Bool:=(⟨(eU (l.map aC.s)).1,iR l,[]⟩,(eU (l.map aC.s)).2)
def mG (l:List aC) (i:Nat):List aC:=l.filter fun n=>decide (n.s.spot=i)
def aA.mostN (x:aA) (w:Int):Nat:=max w.toNat x.stops.length
def nO (l:List aC) (i:Nat):List aC:=if (kQ (mG l i)).2=true then [(kQ (mG l i)).1] else []
def aA.squeeze (x:aA) (l:List aC) (w:Int):List aC:=
 if (x.sortN l).length≤x.mostN w then x.sortN l else
 (x.sortN l).take (x.mostN w-x.stops.length)++(List.range x.stops.length).flatMap (nO ((x.sortN l).drop (x.mostN w-x.stops.length)))
theorem aFO (a b:Nat):dE (a&&&b) a=true:=by rw [dE,List.all_eq_true];intro i _;rw [Nat.testBit_and];cases a.testBit i<;>cases b.testBit i<;>rfl
theorem aPM (a b:Nat):dE (a&&&b) b=true:=by rw [Nat.and_comm];exact aFO b a
theorem aPP (a b:Nat):dE a (a|||b)=true:=by rw [dE,List.all_eq_true];intro i _;rw [Nat.testBit_or];cases a.testBit i<;>cases b.testBit i<;>rfl
theorem bHL (a b:Nat):dE b (a|||b)=true:=by rw [Nat.or_comm];exact aPP b a
theorem aWL (s t:aF):dB (s.join t) s=true:=
 xU rfl (aFO _ _) (aFO _ _) (aPP _ _) (Int.min_le_left _ _) (Int.min_le_left _ _) (Int.min_le_left _ _) (Int.min_le_left _ _)
theorem aWM {s t:aF} (h:s.spot=t.spot):dB (s.join t) t=true:=
 xU h (aPM _ _) (aPM _ _) (bHL _ _) (Int.min_le_right _ _) (Int.min_le_right _ _) (Int.min_le_right _ _) (Int.min_le_right _ _)
structure aF.Is (s:aF) (i:Int):Prop where
 spot:s.spot=i
 ok:s.ok
 pos:s.Pos
 seen:s.seenAt
theorem aF.Is.join {s t:aF} {i:Int} (h:s.Is i) (k:t.Is i):(s.join t).Is i:=by
 refine ⟨h.spot,⟨?_,?_,?_⟩,⟨?_,?_,?_⟩,?_⟩
 ·exact Nat.and_lt_two_pow _ k.ok.must
 ·exact Nat.or_lt_two_pow h.ok.can k.ok.can
 ·exact Nat.and_lt_two_pow _ k.ok.on
 ·exact Int.le_min.2 ⟨h.pos.car,k.pos.car⟩
 ·exact Int.le_min.2 ⟨h.pos.time,k.pos.time⟩
 ·exact Int.le_min.2 ⟨h.pos.load,k.pos.load⟩
 ·rcases h.seen with e | e
  ·exact .inl e
  rcases k.seen with e2 | e2
  ·refine .inl ?_;show s.spot=0;rw [h.spot,←k.spot];exact e2
  ·refine .inr ?_;show cI (s.must&&&t.must) s.spot=true;rw [k.spot,←h.spot] at e2;simp only [cI,Bool.and_eq_true,decide_eq_true_eq,Nat.testBit_and] at *;exact ⟨e.1,e.2,e2.2⟩
theorem aI8:∀(l:List aF) (s:aF),(∀t∈l,t.spot=s.spot)→(l.foldl aF.join s).spot=s.spot∧dB (l.foldl aF.join s) s=true∧∀t∈l,dB (l.foldl aF.join s) t=true
 |[],s,_=>⟨rfl,qX _,fun t h=>by cases h⟩
 |t :: l,s,h=>by
  obtain ⟨h1,h2,h3⟩:=aI8 l (s.join t) fun u hu=>h u (List.mem_cons_of_mem _ hu)
  rw [List.foldl_cons];refine ⟨h1,aBX h2 (aWL s t),fun u hu=>?_⟩;rcases List.mem_cons.1 hu with rfl | hu
  ·exact aBX h2 (aWM (h u List.mem_cons_self).symm)
  ·exact h3 u hu
theorem aI7 {i:Int}:∀(l:List aF) (s:aF),s.Is i→(∀t∈l,t.Is i)→(l.foldl aF.join s).Is i
 |[],s,h,_=>h
 |t :: l,s,h,k=>aI7 l (s.join t) (h.join (k t List.mem_cons_self)) fun u hu=>k u (List.mem_cons_of_mem _ hu)
theorem aKB {l:List aF} (h0:l≠[]) {i:Int} (h:∀t∈l,t.spot=i):(eU l).2=true∧(eU l).1.spot=i∧(∀t∈l,dB (eU l).1 t=true)∧((∀t∈l,t.Is i)→(eU l).1.Is i):=by
 cases l with
 |nil=>exact absurd rfl h0
 |cons s l=>
  have hs:=h s List.mem_cons_self;have hl:∀t∈l,t.spot=s.spot:=fun t ht=>by rw [hs];exact h t (List.mem_cons_of_mem _ ht)
  have e:eU (s :: l)=(l.foldl aF.join s,true):=by rw [eU,if_neg];rw [List.any_eq_true];rintro ⟨t,ht,e⟩;exact (of_decide_eq_true e) (hl t ht)
  obtain ⟨h1,h2,h3⟩:=aI8 l s hl;rw [e];refine ⟨rfl,by simp only;omega,fun t ht=>?_,fun k=>aI7 l s (k s List.mem_cons_self) fun t ht=>k t (List.mem_cons_of_mem _ ht)⟩;rcases List.mem_cons.1 ht with rfl | ht
  ·exact h2
  ·exact h3 t ht
theorem aI5:∀(l:List aC) (c:Int),l.foldl (fun c m=>min c m.cost) c≤c∧(∀n∈l,l.foldl (fun c m=>min c m.cost) c≤n.cost)∧(l.foldl (fun c m=>min c m.cost) c=c∨∃n∈l,l.foldl (fun c m=>min c m.cost) c=n.cost)
 |[],c=>⟨Int.le_refl _,fun n h=>(by cases h),.inl rfl⟩
 |m :: l,c=>by
  obtain ⟨h1,h2,h3⟩:=aI5 l (min c m.cost);rw [List.foldl_cons];refine ⟨by omega,fun n hn=>?_,?_⟩
  ·rcases List.mem_cons.1 hn with rfl | hn
   ·omega
   ·exact h2 n hn
  ·rcases h3 with h3 | ⟨n,hn,h3⟩
   ·rw [h3];by_cases e:c≤m.cost
    ·exact .inl (by omega)
    ·exact .inr ⟨m,List.mem_cons_self,by omega⟩
   ·exact .inr ⟨n,List.mem_cons_of_mem _ hn,h3⟩
theorem aBT {l:List aC} (h:l≠[]):(∀n∈l,iR l≤n.cost)∧∃n∈l,iR l=n.cost:=by
 cases l with
 |nil=>exact absurd rfl h
 |cons m l=>
  obtain ⟨h1,h2,h3⟩:=aI5 l m.cost;rw [iR];refine ⟨fun n hn=>?_,?_⟩
  ·rcases List.mem_cons.1 hn with rfl | hn
   ·exact h1
   ·exact h2 n hn
  ·rcases h3 with h3 | ⟨n,hn,h3⟩
   ·exact ⟨m,List.mem_cons_self,h3⟩
   ·exact ⟨n,List.mem_cons_of_mem _ hn,h3⟩
theorem xI {l:List aC} {i:Nat} {n:aC}:n∈mG l i↔n∈l∧n.s.spot=i:=by rw [mG,List.mem_filter,decide_eq_true_eq]
theorem aZI {l:List aC} {i:Nat} {m:aC} (h:m∈nO l i):mG l i≠[]∧m=(kQ (mG l i)).1:=by
 unfold nO at h;split at h
 ·rename_i hh;refine ⟨fun e=>?_,List.mem_singleton.1 h⟩;rw [e] at hh;simp [kQ,eU] at hh
 ·cases h
theorem aZG {l:List aC} {i:Nat} {n:aC} (h:n∈l) (hi:n.s.spot=i):∃m∈nO l i,dB m.s n.s=true∧m.cost≤n.cost:=by
 have hn:n∈mG l i:=xI.2 ⟨h,hi⟩;have hne:mG l i≠[]:=fun e=>by rw [e] at hn;cases hn
 have hne2:(mG l i).map aC.s≠[]:=by simpa using hne
 obtain ⟨h1,h2,h3,h4⟩:=aKB hne2 (i:=(i:Int)) fun t ht=>by obtain ⟨q,hq,rfl⟩:=List.mem_map.1 ht;exact (xI.1 hq).2
 refine ⟨(kQ (mG l i)).1,?_,h3 _ (List.mem_map.2 ⟨n,hn,rfl⟩),(aBT hne).1 n hn⟩;rw [nO,if_pos (show (kQ (mG l i)).2=true from h1)];exact List.mem_singleton.2 rfl
theorem aZH (l:List aC) (i:Nat):(nO l i).length≤1:=by unfold nO;split<;>simp
theorem vT {x:aA} {l:List aC} {w:Int} {m:aC} (h:m∈x.squeeze l w):m∈l∨∃(i:Nat) (g:List aC),g≠[]∧i<x.stops.length∧(∀n∈g,n∈l∧n.s.spot=i)∧m=(kQ g).1:=by
 unfold aA.squeeze at h;split at h
 ·exact .inl (aA.sortN_mem.1 h)
 ·rcases List.mem_append.1 h with h | h
  ·exact .inl (aA.sortN_mem.1 (List.mem_of_mem_take h))
  ·obtain ⟨i,hi,h⟩:=List.mem_flatMap.1 h;obtain ⟨h1,h2⟩:=aZI h;exact .inr ⟨i,_,h1,List.mem_range.1 hi,fun n hn=>⟨aA.sortN_mem.1 (List.mem_of_mem_drop (xI.1 hn).1),(xI.1 hn).2⟩,h2⟩
theorem aE0 {x:aA} {l:List aC} (w:Int) {n:aC} (hn:n∈l) (h0:0≤n.s.spot) (h1:n.s.spot<x.stops.length):∃m∈x.squeeze l w,dB m.s n.s=true∧m.cost≤n.cost:=by
 have hs:n∈x.sortN l:=aA.sortN_mem.2 hn;unfold aA.squeeze;split
 ·exact ⟨n,hs,qX _,Int.le_refl _⟩
 ·generalize x.mostN w-x.stops.length=k at *;rw [←List.take_append_drop k (x.sortN l)] at hs;rcases List.mem_append.1 hs with hs | hs
  ·exact ⟨n,List.mem_append_left _ hs,qX _,Int.le_refl _⟩
  ·obtain ⟨i,hi⟩:∃i:Nat,n.s.spot=i:=⟨n.s.spot.toNat,by omega⟩;obtain ⟨m,h2,h3,h4⟩:=aZG hs hi;exact ⟨m,List.mem_append_right _ (List.mem_flatMap.2 ⟨i,List.mem_range.2 (by omega),h2⟩),h3,h4⟩
theorem aI0 {α β:Type} (f:α→List β) (h:∀a,(f a).length≤1):∀(l:List α),(l.flatMap f).length≤l.length
 |[]=>Nat.le_refl _
 |a :: l=>by rw [List.flatMap_cons,List.length_append,List.length_cons];have:=h a;have:=aI0 f h l;omega
theorem aE1 (x:aA) (l:List aC) (w:Int):(x.squeeze l w).length≤x.mostN w:=by
 unfold aA.squeeze;split
 ·assumption
 ·have h1:=aI0 (nO ((x.sortN l).drop (x.mostN w-x.stops.length))) (aZH _) (List.range x.stops.length);rw [List.length_range] at h1;have h2:x.stops.length≤x.mostN w:=Nat.le_max_right _ _;rw [List.length_append,List.length_take];omega
structure aX where
 layers:List (List aC)
 low:Int
 exact:Bool
 sure:Nat
 deriving DecidableEq
def aX.of (ls:List (List aC)) (low:Int) (sq:Option Nat):aX:=⟨ls,low,sq.isNone,sq.getD ls.length⟩
def jH (low:Int) (b:aC×Bool):Int:=if b.2=true then min low b.1.cost else low
def aA.buildGo (x:aA) (w up dp:Int):Nat→List (List aC)→Int→Option Nat→List aC→aX
 |0,ls,low,sq,_=>aX.of ls low sq
 |f+1,ls,low,sq,l=>if l=[] then aX.of ls low sq else
  if dp<((ls.length+1:Nat):Int) then aX.of (ls++[l]) (jH low (x.bests l)) sq else
  if x.mostN w<(x.next l up).length then x.buildGo w up dp f (ls++[l]) (jH low (x.bests l)) (some (sq.getD (ls.length+1))) (x.squeeze (x.next l up) w)
  else x.buildGo w up dp f (ls++[l]) (jH low (x.bests l)) sq (x.next l up)
def aA.build (x:aA) (n:aC) (w up:Int):aX:=x.buildGo w up (x.deep-n.path.length) ((x.deep-n.path.length).toNat+2) [] up none [n]
structure WL (x:aA) (l:List aC) (r:Nat):Prop where
 is:∀n∈l,n.s.Is n.s.spot
 cost:∀n∈l,0≤n.cost∧n.cost+14143*((r:Int)+41)≤1152921504606846976
theorem WL.lev {x:aA} {l:List aC} {r:Nat} (h:WL x l r):dY x l 41:=
 ⟨fun n hn=>(h.is n hn).ok,fun n _=>by have:=lQ x n.s;omega,fun n hn=>(h.is n hn).pos,fun n hn=>(h.is n hn).seen,fun n hn=>by have:=h.cost n hn;omega⟩
theorem aBP {x:aA} {s:aF} {j:Int} (h:(x.move s j).2.2=true):0≤(x.move s j).1.spot∧(x.move s j).1.spot<x.stops.length:=by
 by_cases hj:j=0
 ·subst hj;obtain ⟨h1,h2,h3,h4⟩:=lD h;obtain ⟨p,hx⟩:=x.fit h1;have:=hx.len;rw [h4];show 0≤(0:Int)∧(0:Int)<x.stops.length;omega
 ·obtain ⟨h1,h2,h3,h4,_,_,_,h5⟩:=iY h hj;obtain ⟨p,hx⟩:=x.fit h1;have:=hx.len;have:=hx.pairs;rw [h5];show 0≤j∧j<x.stops.length;omega
theorem aF.Is.move {x:aA} {s:aF} {j i:Int} (h:s.Is i) (hj:(x.move s j).2.2=true):(x.move s j).1.Is (x.move s j).1.spot:=⟨rfl,nM x j h.ok,aMT h.pos h.ok hj,zS hj⟩
theorem WL.next {x:aA} {l:List aC} {r:Nat} (h:WL x l (r+1)) (up:Int):WL x (x.next l up) r∧∀m∈x.next l up,0≤m.s.spot∧m.s.spot<x.stops.length:=by
 have key:∀m∈x.next l up,∃n∈l,∃j,(x.move n.s j).2.2=true∧m=x.child n j:=by intro m hm;obtain ⟨n,hn,j,hj,e,_⟩:=gZ hm;exact ⟨n,hn,j,jW hj,e⟩
 refine ⟨⟨?_,?_⟩,?_⟩<;>(intro m hm;obtain ⟨n,hn,j,hj,rfl⟩:=key m hm)
 ·exact (h.is n hn).move hj
 ·rw [qV h.lev hn hj];have:=h.cost n hn;have:=oH hj;omega
 ·exact aBP hj
theorem WL.squeeze {x:aA} {l:List aC} {r:Nat} (h:WL x l r) (w:Int):WL x (x.squeeze l w) r:=by
 have key:∀m∈x.squeeze l w,m.s.Is m.s.spot∧∃n∈l,m.cost=n.cost:=by
  intro m hm;rcases vT hm with hm | ⟨i,g,h1,h2,h3,rfl⟩
  ·exact ⟨h.is m hm,m,hm,rfl⟩
  ·have hne2:g.map aC.s≠[]:=by simpa using h1
   obtain ⟨j1,j2,j3,j4⟩:=aKB hne2 (i:=(i:Int)) fun t ht=>by obtain ⟨q,hq,rfl⟩:=List.mem_map.1 ht;exact (h3 q hq).2
   have j5:=j4 fun t ht=>by obtain ⟨q,hq,rfl⟩:=List.mem_map.1 ht;have:=h.is q (h3 q hq).1;rw [(h3 q hq).2] at this;exact this
   obtain ⟨n,hn,e⟩:=(aBT h1).2;exact ⟨⟨rfl,j5.ok,j5.pos,j5.seen⟩,n,(h3 n hn).1,e⟩
 refine ⟨fun m hm=>(key m hm).1,fun m hm=>?_⟩;obtain ⟨_,n,hn,e⟩:=key m hm;rw [e];exact h.cost n hn
theorem aK9 (low:Int) (b:aC×Bool):jH low b≤low:=by unfold jH;split<;>omega
theorem xP (x:aA) (w up dp:Int):∀(f:Nat) (ls:List (List aC)) (low:Int) (sq:Option Nat) (l:List aC),(x.buildGo w up dp f ls low sq l).low≤low
 |0,ls,low,sq,l=>Int.le_refl _
 |f+1,ls,low,sq,l=>by
  have hb:=aK9 low (x.bests l);rw [aA.buildGo];split
  ·exact Int.le_refl _
  split
  ·exact hb
  split
  ·exact Int.le_trans (xP x w up dp f _ _ _ _) hb
  ·exact Int.le_trans (xP x w up dp f _ _ _ _) hb
theorem aBG {x:aA} (hst:x.stops.length<2^31) (w up dp:Int):∀(f:Nat) (ls:List (List aC)) (low:Int) (sq:Option Nat) (l:List aC),WL x l f→
  ∀m∈l,∀(v:List Int) (c:Int),x.way v m.s c→m.cost+c<up→(ls.length:Int)+v.length≤dp→v.length<f→(x.buildGo w up dp f ls low sq l).low≤m.cost+c
 |0,ls,low,sq,l,_,m,hm,v,c,_,_,_,hf=>absurd hf (Nat.not_lt_zero _)
 |f+1,ls,low,sq,l,hl,m,hm,v,c,hv,hlt,hdp,hf=>by
  have hne:¬l=[]:=fun e=>by rw [e] at hm;cases hm
  have hend:v=[]→jH low (x.bests l)≤m.cost+c:=by rintro rfl;obtain ⟨b1,b2⟩:=xM hm hv.1;rw [uY hl.lev hm hv.1,←hv.2] at b2;rw [jH,if_pos b1];omega
  rw [aA.buildGo,if_neg hne];by_cases c1:dp<((ls.length+1:Nat):Int)
  ·rw [if_pos c1];exact hend (List.eq_nil_of_length_eq_zero (by omega))
  rw [if_neg c1]
  match v,hv with
  |[],hv=>
   split
   ·exact Int.le_trans (xP x w up dp f _ _ _ _) (hend rfl)
   ·exact Int.le_trans (xP x w up dp f _ _ _ _) (hend rfl)
  |j :: v,hv=>
   obtain ⟨g1,e,g2,g3⟩:=hv;obtain ⟨q,hq,q1,q2⟩:=aDH hst hl.lev hm g1 g2 (up:=up) (by omega);obtain ⟨hn1,hn2⟩:=hl.next up;have hlen:(((ls++[l]).length:Nat):Int)+v.length≤dp:=by rw [List.length_append];simp only [List.length_cons,List.length_nil] at hdp ⊢;omega
   have hf2:v.length<f:=by simp only [List.length_cons] at hf;omega
   rw [←q1] at g2;split
   ·obtain ⟨t,ht,t1,t2⟩:=aE0 w hq (hn2 q hq).1 (hn2 q hq).2;have ht3:=(hn1.squeeze w).is t ht;have:=aBG hst w up dp f (ls++[l]) (jH low (x.bests l)) (some (sq.getD (ls.length+1))) _ (hn1.squeeze w) t ht v e (aBW (aDA g1) t1 ht3.pos ht3.ok g2) (by omega) hlen hf2;omega
   ·have:=aBG hst w up dp f (ls++[l]) (jH low (x.bests l)) sq _ hn1 q hq v e g2 (by omega) hlen hf2;omega
def aA.layN (x:aA) (up:Int) (n:aC):Nat→List aC
 |0=>[n]
 |k+1=>x.next (x.layN up n k) up
structure xA (x:aA) (up:Int) (n:aC) (ls:List (List aC)) (sq:Option Nat):Prop where
 lay:∀i,i<sq.getD ls.length→ls[i]? =some (x.layN up n i)
 le:sq.getD ls.length≤ls.length
theorem xA.push {x:aA} {up:Int} {n:aC} {ls:List (List aC)} {sq:Option Nat} {l:List aC} (h:xA x up n ls sq) (hl:sq=none→l=x.layN up n ls.length):xA x up n (ls++[l]) sq:=by
 cases sq with
 |some k=>
  have h1:=h.lay;have h2:=h.le;simp only [Option.getD_some] at h1 h2;refine ⟨fun i hi=>?_,?_⟩
  ·simp only [Option.getD_some] at hi;rw [List.getElem?_append_left (by omega)];exact h1 i hi
  ·simp only [Option.getD_some,List.length_append,List.length_cons];omega
 |none=>
  have h1:=h.lay;simp only [Option.getD_none] at h1;refine ⟨fun i hi=>?_,by simp⟩;simp only [Option.getD_none,List.length_append,List.length_cons,List.length_nil] at hi;by_cases e:i<ls.length
  ·rw [List.getElem?_append_left e];exact h1 i e
  ·have:i=ls.length:=by omega
   subst this;rw [List.getElem?_append_right (Nat.le_refl _),Nat.sub_self,hl rfl];rfl
structure aX.Ok (x:aA) (up:Int) (n:aC) (d:aX):Prop where
 lay:∀i,i<d.sure→d.layers[i]? =some (x.layN up n i)
 le:d.sure≤d.layers.length
 whole:d.exact=decide (d.sure=d.layers.length)
 pos:1≤d.sure
theorem aBE {x:aA} (w up dp:Int) (n:aC):∀(f:Nat) (ls:List (List aC)) (low:Int) (sq:Option Nat) (l:List aC),xA x up n ls sq→(sq=none→l=x.layN up n ls.length)→(∀k,sq=some k→1≤k∧(l≠[]∨k<ls.length))→(ls=[]→l≠[])→1≤f→
  (∀k,sq=some k→ls.length+f≥1)→(f:Int)+ls.length≥dp+2→((ls.length:Int)≤dp∨ls=[])→(x.buildGo w up dp f ls low sq l).Ok x up n
 |0,ls,low,sq,l,_,_,_,_,hf,_,_,_=>absurd hf (by omega)
 |f+1,ls,low,sq,l,h,hn,hs,h0,hf,hq,hfu,hle=>by
  rw [aA.buildGo];by_cases c0:l=[]
  ·rw [if_pos c0];refine ⟨h.lay,h.le,?_,?_⟩
   ·cases sq with
    |none=>simp [aX.of]
    |some k=>
     have:=(hs k rfl).2;have:k<ls.length:=this.resolve_left fun e=>e c0
     show false=decide (k=ls.length);exact (decide_eq_false (by omega)).symm
   ·cases sq with
    |none=>
     have:ls≠[]:=fun e=>h0 e c0
     have:=List.length_pos_iff.2 this;simp only [aX.of,Option.getD_none];omega
    |some k=>exact (hs k rfl).1
  rw [if_neg c0];have hp:=h.push hn;by_cases c1:dp<((ls.length+1:Nat):Int)
  ·rw [if_pos c1];refine ⟨hp.lay,hp.le,?_,?_⟩
   ·cases sq with
    |none=>simp [aX.of]
    |some k=>have:=h.le;simp only [Option.getD_some] at this;show false=decide (k=(ls++[l]).length);exact (decide_eq_false (by rw [List.length_append];simp only [List.length_cons];omega)).symm
   ·cases sq with
    |none=>simp [aX.of]
    |some k=>exact (hs k rfl).1
  rw [if_neg c1];have hlen:(ls++[l]).length=ls.length+1:=by simp
  split
  ·rename_i hov;have hne:x.next l up≠[]:=fun e=>by rw [e] at hov;simp at hov
   obtain ⟨q,hq2⟩:=List.exists_mem_of_ne_nil _ hne;obtain ⟨m,hm,j,hj,rfl,_⟩:=gZ hq2;have hsp:=aBP (jW hj);obtain ⟨t,ht,_⟩:=aE0 w hq2 hsp.1 hsp.2;have hne2:x.squeeze (x.next l up) w≠[]:=fun e=>by rw [e] at ht;cases ht
   refine aBE w up dp n f _ _ _ _ ?_ (fun e=>by cases e) (fun k hk=>⟨?_,.inl hne2⟩) (fun _=>hne2) (by omega) (fun _ _=>by omega) (by rw [hlen];omega) (.inl (by rw [hlen];omega))
   ·cases sq with
    |none=>simp only [Option.getD_none];refine ⟨fun i hi=>hp.lay i ?_,by simp⟩;simp only [Option.getD_some] at hi;simp only [Option.getD_none,hlen];exact hi
    |some k=>exact hp
   ·cases hk;cases sq with
    |none=>simp
    |some k=>exact (hs k rfl).1
  ·refine aBE w up dp n f _ _ _ _ hp (fun e=>?_) (fun k hk=>⟨(hs k hk).1,.inr ?_⟩) (fun e=>by simp at e) (by omega) (fun _ _=>by omega) (by rw [hlen];omega) (.inl (by rw [hlen];omega))
   ·rw [hlen,aA.layN,←hn e]
   ·have:=h.le;rw [hk] at this;simp only [Option.getD_some] at this;omega
theorem aBD {x:aA} (w up dp:Int):∀(f:Nat) (ls:List (List aC)) (low:Int) (sq:Option Nat) (l:List aC),l.length≤x.mostN w→(∀k∈ls.drop 1,k≠[]∧k.length≤x.mostN w)→
  ∀k∈(x.buildGo w up dp f ls low sq l).layers.drop 1,k≠[]∧k.length≤x.mostN w
 |0,ls,low,sq,l,_,h=>h
 |f+1,ls,low,sq,l,hl,h=>by
  rw [aA.buildGo];split
  ·exact h
  rename_i c0
  have h2:∀k∈(ls++[l]).drop 1,k≠[]∧k.length≤x.mostN w:=by
   intro k hk;cases ls with
   |nil=>simp at hk
   |cons a ls=>
    rw [List.cons_append,List.drop_succ_cons,List.drop_zero] at hk;rcases List.mem_append.1 hk with hk | hk
    ·exact h k (by simpa using hk)
    ·rw [List.mem_singleton.1 hk];exact ⟨c0,hl⟩
  split
  ·exact h2
  split
  ·exact aBD w up dp f _ _ _ _ (aE1 x _ w) h2
  ·exact aBD w up dp f _ _ _ _ (by omega) h2
theorem aA9 {x:aA} (w up dp:Int):∀(f:Nat) (ls:List (List aC)) (low:Int) (sq:Option Nat) (l:List aC),((x.buildGo w up dp f ls low sq l).layers.length:Int)≤max ((ls.length:Int)+1) (dp+1)
 |0,ls,low,sq,l=>by show (ls.length:Int)≤_;omega
 |f+1,ls,low,sq,l=>by
  have hlen:(ls++[l]).length=ls.length+1:=by simp
  rw [aA.buildGo];split
  ·show (ls.length:Int)≤_;omega
  split
  ·show ((ls++[l]).length:Int)≤_;omega
  split
  ·have:=aA9 (x:=x) w up dp f (ls++[l]) (jH low (x.bests l)) (some (sq.getD (ls.length+1))) (x.squeeze (x.next l up) w);omega
  ·have:=aA9 (x:=x) w up dp f (ls++[l]) (jH low (x.bests l)) sq (x.next l up);omega
structure dI where
 spot:Int
 now:Int
 gone:Int
 load:Int
 seen:Nat
 on:Nat
 times:List (List T)
 loads:List Int
def cS (x:aA) (c:dI) (qt ql:Nat):List AV:=[.t (.i x.pairs),.t (.i x.cars),.t (.i x.room),.t (.sl (x.stops.map aR.t)),.i c.spot,.i c.now,.i c.gone,.i c.load,.u c.seen,.u c.on,.ref qt,.ref ql]
structure dI.Fit (c:dI) (p k:Nat):Prop where
 spot:0≤c.spot∧c.spot≤2*p
 now:0≤c.now∧c.now≤1049576
 gone:0≤c.gone∧c.gone≤14143*k
 load: -1000*(k:Int)≤c.load∧c.load≤1000
 seen:c.seen<2^64
 on:c.on<2^64
 times:c.times.length=k
 loads:c.loads.length=k
 three:∀y∈c.times,y.length=3
 few:k+((List.range (2*p+1)).filter fun j:Nat=>decide (1≤j)&& !cI c.seen (j:Int)).length≤2*p
theorem dI.Fit.le {c:dI} {p k:Nat} (h:c.Fit p k):k≤2*p:=by have:=h.few;omega
def aA.visitsE (x:aA) (c:dI) (i:Int):Int:=
 if i<1∨2*x.pairs<i then 1 else if cI c.seen i=true then 5 else if x.pairs<i∧cI c.seen (i-x.pairs)=false then 8 else if x.room<c.load+(x.stop i).demand then 6 else 0
theorem aZP (σ:Nat→aG) (q:Nat):aB σ q (σ q)=σ:=by funext i;by_cases h:i=q<;>simp [aB,h]
theorem bHA (x:aA) (c:dI) (i:Int) {p k:Nat} (hx:x.Fit p) (hc:c.Fit p k) {σ:Nat→aG} {nx b qt ql:Nat} (hb:b<nx) (hσb:σ b= .box (cS x c qt ql)) (hqt:qt<nx) (hql:ql<nx):
  aT P 266 [.ptr b 0,.i i] σ nx (.i (x.visitsE c i)) σ nx:=by
 generalize hR:x.visitsE c i=R
 have h:aT P 266 [.ptr b 0,.i i] σ nx (.i R) (aB σ b (σ b)) nx:=by
  refine fO Tryz.func266 rfl rfl (by simp [Tryz.f266]) hb (by rw [hσb];simp [dG,aE,aE.bndL,cS,hqt,hql]) (by simp [aE]) fun hkn B hB hnx hσ=>?_
  simp only [Tryz.f266] at hB ⊢;rw [aA.visitsE] at hR;have hp:=hx.pairs;have hfew:=hx.few;have w1:=aO (2*x.pairs) (by omega);by_cases c1:i<1
  ·rw [if_pos (.inl c1)] at hR;subst hR;refine aD ?_;simp [go_sem,hσb,cS,c1,w1]
  by_cases c2:2*x.pairs<i
  ·rw [if_pos (.inr c2)] at hR;subst hR;refine aD ?_;simp [go_sem,hσb,cS,c1,c2,w1]
  rw [if_neg (by omega)] at hR;have hh1:=u9 c.seen i hc.seen;refine aD ?_;simp [go_sem,hσb,cS,c1,c2,w1];refine aL rfl rfl rfl (args:=[.u c.seen,.i i]) (f:=223) (by simp [go_sem]) (by simp [go_sem,hB]) ((hh1).spec _ _) ?_;by_cases c3:cI c.seen i=true
  ·rw [if_pos c3] at hR;subst hR;refine aD ?_;simp [go_sem,c3,hσb,cS]
  rw [if_neg c3] at hR;have c3':cI c.seen i=false:=by simpa using c3
  have w2:=aO (i-x.pairs) (by omega);have hh2:=u9 c.seen (i-x.pairs) hc.seen;have h0:0≤i:=by omega
  have g1:=hx.lt (j:=i) (by omega);have g3:=hx.get (j:=i) (by omega);have hd:=(hx.at (j:=i) (by omega) (by omega)).demand;have hload:=hc.load;have hkle:=hc.le;have w3:=aO (c.load+(x.stop i).demand) (by omega);generalize x.stop i=a at *;by_cases c4:x.pairs<i
  ·refine aD ?_;simp [go_sem,c3',c4,hσb,cS,w2];refine aL rfl rfl rfl (args:=[.u c.seen,.i (i-x.pairs)]) (f:=223) (by simp [go_sem]) (by simp [go_sem,hB]) ((hh2).spec _ _) ?_;by_cases c5:cI c.seen (i-x.pairs)=true
   ·rw [if_neg (by simp [c5])] at hR;refine aD ?_;simp [go_sem,c5];refine bK [] rfl (by rw [hB];kernel_rfl) ?_;by_cases c6:x.room<c.load+a.demand
    ·rw [if_pos c6] at hR;subst hR;refine aD ?_;simp [go_sem,hσb,cS,h0,g1,g3,aR.t,w3,c6]
    ·rw [if_neg c6] at hR;subst hR;refine aD ?_;simp [go_sem,hσb,cS,h0,g1,g3,aR.t,w3,c6]
   ·have c5':cI c.seen (i-x.pairs)=false:=by simpa using c5
    rw [if_pos ⟨c4,c5'⟩] at hR;subst hR;refine aD ?_;simp [go_sem,c5',hσb,cS]
  ·rw [if_neg (by simp [c4])] at hR;refine aD ?_;simp [go_sem,c3',c4,hσb,cS];refine bK [] rfl (by rw [hB];kernel_rfl) ?_;by_cases c6:x.room<c.load+a.demand
   ·rw [if_pos c6] at hR;subst hR;refine aD ?_;simp [go_sem,hσb,cS,h0,g1,g3,aR.t,w3,c6]
   ·rw [if_neg c6] at hR;subst hR;refine aD ?_;simp [go_sem,hσb,cS,h0,g1,g3,aR.t,w3,c6]
 rw [aZP] at h;exact h
def aA.drive (x:aA) (c:dI) (i:Int):dI:={c with spot:=i,gone:=c.gone+bL (x.stop c.spot) (x.stop i)}
theorem aH4 (x:aA) (c:dI) (i:Int) {p k:Nat} (hx:x.Fit p) (hc:c.Fit p k) (h1:0≤i) (h2:i≤2*p) {σ:Nat→aG} {nx b qt ql:Nat} (hb:b<nx) (hσb:σ b= .box (cS x c qt ql)) (hqt:qt<nx) (hql:ql<nx):
  aT P 267 [.ptr b 0,.i i] σ nx (.i (c.now+bL (x.stop c.spot) (x.stop i))) (aB σ b (.box (cS x (x.drive c i) qt ql))) nx:=by
 refine fO Tryz.func267 rfl rfl (by simp [Tryz.f267]) hb (by simp [dG,aE,aE.bndL,cS,hqt,hql]) (by simp [aE]) fun hkn B hB hnx hσ=>?_
 simp only [Tryz.f267] at hB ⊢;have f1:=hc.spot;have g1:=hx.lt (j:=c.spot) (by omega);have g2:=hx.get (j:=c.spot) (by omega);have g3:=hx.lt (j:=i) (by omega);have g4:=hx.get (j:=i) (by omega);have hf:=aB9 (x.stop c.spot) (x.stop i);have hle:=nI (x.stop c.spot) (x.stop i);have hn:=hc.now;have hg:=hc.gone;have hkle:=hc.le;have hfew:=hx.few;rw [aA.drive];generalize x.stop i=z at *;generalize x.stop c.spot=y at *;have w1:=aO (c.gone+bL y z) (by omega);have w2:=aO (c.now+bL y z) (by omega);refine aD ?_;simp [go_sem];refine bK [] rfl (by rw [hB];kernel_rfl) ?_;refine aD ?_;simp [go_sem,hσb,cS,f1.1,g1,g2,h1,g3,g4,aR.t];refine bQ rfl rfl rfl (args:=[.agg (y.t.map .t),.agg (z.t.map .t)]) (f:=237) (by simp [go_sem,aR.t]) (hf) ?_;refine aD ?_;simp [go_sem,hσb,cS,w1,w2];exact fun j h1 h2=>by simp [h2]
structure wZ (c:dI) (σ:Nat→aG) (nx b qt ql:Nat):Prop where
 tm:σ qt= .arr 3 c.times
 ld:σ ql= .arr 1 (aJ c.loads)
 ltT:qt<nx
 ltL:ql<nx
 neT:qt≠b
 neL:ql≠b
 ne:qt≠ql
def aA.visitC (x:aA) (c:dI) (i:Int):dI×Int:=
 if x.visitsE c i≠0 then (c,x.visitsE c i)
 else if (x.stop i).due<max (c.now+bL (x.stop c.spot) (x.stop i)) (x.stop i).ready then (x.drive c i,7)
 else ({spot:=i,now:=max (c.now+bL (x.stop c.spot) (x.stop i)) (x.stop i).ready+(x.stop i).service,gone:=c.gone+bL (x.stop c.spot) (x.stop i),load:=c.load+(x.stop i).demand,seen:=cL c.seen i,
        on:=if i≤x.pairs then cL c.on i else i9 c.on (i-x.pairs),times:=c.times++[[.i (c.now+bL (x.stop c.spot) (x.stop i)),.i (max (c.now+bL (x.stop c.spot) (x.stop i)) (x.stop i).ready),.i (max (c.now+bL (x.stop c.spot) (x.stop i)) (x.stop i).ready+(x.stop i).service)]],loads:=c.loads++[c.load+(x.stop i).demand]},0)
theorem aAD {x:aA} {c:dI} {i:Int} (h:x.visitsE c i=0):1≤i∧i≤2*x.pairs∧cI c.seen i=false∧(x.pairs<i→cI c.seen (i-x.pairs)=true)∧c.load+(x.stop i).demand≤x.room:=by
 rw [aA.visitsE] at h;split at h
 ·cases h
 split at h
 ·cases h
 split at h
 ·cases h
 split at h
 ·cases h
 rename_i h1 h2 h3 h4;refine ⟨by omega,by omega,by simpa using h2,fun h=>?_,by omega⟩;cases hq:cI c.seen (i-x.pairs) with
 |true=>rfl
 |false=>exact absurd ⟨h,hq⟩ h3
def aQZ (x:aA) (c':dI) (e:Int) (σ:Nat→aG) (nx b qt ql:Nat) (r:AV) (σ':Nat→aG) (nx':Nat):Prop:=
 r= .i e∧nx≤nx'∧∃qt' ql',σ' b= .box (cS x c' qt' ql')∧wZ c' σ' nx' b qt' ql'∧(∀j,j<nx→j≠b→j≠qt→j≠ql→σ' j=σ j)∧(qt'=qt∨nx≤qt')∧(ql'=ql∨nx≤ql')
theorem bG9 (x:aA) (c:dI) (i:Int) {p k:Nat} (hx:x.Fit p) (hc:c.Fit p k) {σ:Nat→aG} {nx b qt ql:Nat} (hb:b<nx) (hσb:σ b= .box (cS x c qt ql)) (hr3:wZ c σ nx b qt ql):
  bN P 240 [.ptr b 0,.i i] σ nx (aQZ x (x.visitC c i).1 (x.visitC c i).2 σ nx b qt ql):=by
 generalize hR:x.visitC c i=R;refine cA Tryz.func240 rfl rfl (by simp [Tryz.f240]) fun B hB hnx hσ=>?_
 simp only [Tryz.f240] at hB ⊢;have hvs:=bHA x c i hx hc hb hσb hr3.ltT hr3.ltL;rw [aA.visitC] at hR;have hok:=aAD (x:=x) (c:=c) (i:=i);generalize x.visitsE c i=e at *;refine aD ?_;simp [go_sem];refine aL rfl rfl rfl (args:=[.ptr b 0,.i i]) (f:=266) (by simp [go_sem]) (by simp [go_sem,hB]) hvs ?_;by_cases c0:e=0
 rotate_left
 ·rw [if_pos c0] at hR;subst hR;refine aD ?_;simp [go_sem,c0];exact ⟨rfl,Nat.le_refl _,qt,ql,hσb,hr3,fun j _ _ _ _=>rfl,.inl rfl,.inl rfl⟩
 rw [if_neg (by simp [c0])] at hR;obtain ⟨k1,k2,k3,k4,k5⟩:=hok c0;have hp:=hx.pairs;have hfew:=hx.few;have g3:=hx.lt (j:=i) (by omega);have g4:=hx.get (j:=i) (by omega);have hds:∀{σ:Nat→aG} {nx:Nat},b<nx→σ b= .box (cS x c qt ql)→qt<nx→ql<nx→_:=fun {σ nx}=>aH4 x c i hx hc (by omega) (by omega) (σ:=σ) (nx:=nx) (b:=b) (qt:=qt) (ql:=ql)
 have hfi:=hx.at (j:=i) (by omega) (by omega);have hfar:=nI (x.stop c.spot) (x.stop i);generalize hzz:x.stop i=z at *;generalize hdd:bL (x.stop c.spot) z=d at *;have hn:=hc.now;have hg:=hc.gone;have hkle:=hc.le;have hne:¬b=nx:=by omega
 have hne2:¬nx=b:=by omega
 have h0:0≤i:=by omega
 refine aD ?_;simp [go_sem,c0,hσb,cS,h0,g3,g4,aR.t];refine aL rfl rfl rfl (args:=[.ptr b 0,.i i]) (f:=267) (by simp [go_sem]) (by simp [go_sem,hB]) (hds (by simp only;omega) (by simp [aB,hne,hσb]) (by have:=hr3.ltT;simp only;omega) (by have:=hr3.ltL;simp only;omega)) ?_;have hcd:x.drive c i={c with spot:=i,gone:=c.gone+d}:=by rw [aA.drive,hzz,hdd]
 have hdc:cS x (x.drive c i) qt ql=[.t (.i x.pairs),.t (.i x.cars),.t (.i x.room),.t (.sl (x.stops.map aR.t)),.i i,.i c.now,.i (c.gone+d),.i c.load,.u c.seen,.u c.on,.ref qt,.ref ql]:=by rw [hcd];rfl
 have f1:=hfi.ready;have f2:=hfi.service;have f3:=hfi.due;have f4:=hfi.demand;have f5:=hc.load;generalize hbe:max (c.now+d) z.ready=be at *;have w1:=aO (be+z.service) (by omega);have w2:=aO (c.load+z.demand) (by omega);by_cases c1:z.due<be
 ·rw [if_pos c1] at hR;subst hR;refine aD ?_;simp [go_sem,hne,hne2,hbe,c1];rw [hdc];exact ⟨by omega,rfl,by omega,qt,ql,by simp [aB,hne,show ¬b=nx+1 by omega,hcd,cS],⟨by simp [aB,show ¬qt=nx by have:=hr3.ltT;omega,show ¬qt=nx+1 by have:=hr3.ltT;omega,hr3.neT,hr3.tm,hcd],by simp [aB,show ¬ql=nx by have:=hr3.ltL;omega,show ¬ql=nx+1 by have:=hr3.ltL;omega,hr3.neL,hr3.ld,hcd],by have:=hr3.ltT;omega,by have:=hr3.ltL;omega,hr3.neT,hr3.neL,hr3.ne⟩,fun j h1 h2 h3 h4=>by simp [aB,h2,show ¬j=nx by omega,show ¬j=nx+1 by omega],.inl rfl,.inl rfl⟩
 rw [if_neg c1] at hR;refine aD ?_;simp [go_sem,hne,hne2,hbe,c1,w1,show ¬b=nx+1 by omega,show ¬nx=nx+1 by omega];have ht1:=hr3.ltT;have ht2:=hr3.ltL;have ht3:=hr3.neT;have ht4:=hr3.neL;have ht5:=hr3.ne;have ht6:=hr3.tm;have ht7:=hr3.ld;obtain ⟨σ1,hσ1⟩:∃σ1:Nat→aG,σ1=aB (aB (aB σ nx (.box [.i z.x,.i z.y,.i z.demand,.i z.ready,.i z.due,.i z.service])) (nx+1) (.box [.i (c.now+d),.i be,.i (be+z.service)])) b (.box [.t (.i x.pairs),.t (.i x.cars),.t (.i x.room),.t (.sl (x.stops.map aR.t)),.i i,.i c.now,.i (c.gone+d),.i c.load,.u c.seen,.u c.on,.ref qt,.ref ql]):=⟨_,rfl⟩;have s1:σ1 b= .box [.t (.i x.pairs),.t (.i x.cars),.t (.i x.room),.t (.sl (x.stops.map aR.t)),.i i,.i c.now,.i (c.gone+d),.i c.load,.u c.seen,.u c.on,.ref qt,.ref ql]:=by rw [hσ1];simp [aB]
 have s2:σ1 (nx+1)= .box [.i (c.now+d),.i be,.i (be+z.service)]:=by rw [hσ1];simp [aB,show ¬nx+1=b by omega]
 have s3:σ1 nx= .box [.i z.x,.i z.y,.i z.demand,.i z.ready,.i z.due,.i z.service]:=by rw [hσ1];simp [aB,hne2]
 have s4:∀j,j<nx→j≠b→σ1 j=σ j:=fun j h1 h2=>by rw [hσ1];simp [aB,h2,show ¬j=nx by omega,show ¬j=nx+1 by omega]
 refine nX (t:=⟨sl [(0,.ptr b 0),(1,.i i),(6,.ptr nx 0),(8,.ptr (nx+1) 0)],σ1,nx+1+1⟩) (aH.slots (by simp [go_sem]) ?_ rfl) ?_
 ·rw [hσ1];funext j;simp only [aB,hdc];by_cases e1:j=b
  ·simp [e1,hne,show ¬b=nx+1 by omega]
  ·by_cases e2:j=nx+1
   ·simp [e2,show ¬nx+1=b by omega]
   ·by_cases e3:j=nx<;>simp [e1,e2,e3]
 have hw1:=tU c.seen i hc.seen;have hw2:=tU c.on i hc.on;have hw3:=aPS c.on (i-x.pairs);have w3:=aO (i-x.pairs) (by omega);obtain ⟨on2,hon⟩:∃on2,on2=(if i≤x.pairs then cL c.on i else i9 c.on (i-x.pairs)):=⟨_,rfl⟩;rw [←hon] at hR;obtain ⟨σ2,hσ2⟩:∃σ2:Nat→aG,σ2=aB σ1 b (.box [.t (.i x.pairs),.t (.i x.cars),.t (.i x.room),.t (.sl (x.stops.map aR.t)),.i i,.i (be+z.service),.i (c.gone+d),.i (c.load+z.demand),.u (cL c.seen i),.u on2,.ref qt,.ref ql]):=⟨_,rfl⟩;refine cT [20,23,26] [1,2,9,10,11] rfl (by rw [hB];kernel_rfl) (by kernel_rfl) fun ht hf'=>?_
 refine aD ?_;simp [go_sem,ht,hf',s1,s2,s3,w2];refine bQ rfl rfl rfl (args:=[.u c.seen,.i i]) (f:=268) (by simp [go_sem]) (hw1) ?_;refine aD ?_;simp [go_sem,ht,hf',s1,s2,s3,w2,hne,hne2,show ¬nx+1=b by omega];by_cases c2:i≤x.pairs
 case' pos=>rw [if_pos c2] at hon;simp [go_sem,c2,s1];refine aL rfl rfl rfl (args:=[.u c.on,.i i]) (f:=268) (by simp [go_sem]) (by simp [go_sem,hB]) ((hw2).spec _ _) ?_;refine aD ?_;simp [go_sem,s1]
 case' neg=>
  rw [if_neg c2] at hon;simp [go_sem,c2,s1];refine gQ [15] rfl (by rw [hB];kernel_rfl) (by kernel_rfl) fun ht=>?_
  refine aD ?_;simp [go_sem,ht,s1,w3];refine bQ rfl rfl rfl (args:=[.u c.on,.i (i-x.pairs)]) (f:=269) (by simp [go_sem]) (hw3) ?_;refine aD ?_;simp [go_sem,ht,s1]
 all_goals
  have u1:σ2 b= .box [.t (.i x.pairs),.t (.i x.cars),.t (.i x.room),.t (.sl (x.stops.map aR.t)),.i i,.i (be+z.service),.i (c.gone+d),.i (c.load+z.demand),.u (cL c.seen i),.u on2,.ref qt,.ref ql]:=by rw [hσ2];simp [aB]
  have u2:σ2 (nx+1)= .box [.i (c.now+d),.i be,.i (be+z.service)]:=by rw [hσ2];simp [aB,s2,show ¬nx+1=b by omega]
  have u3:σ2 qt= .arr 3 c.times:=by rw [hσ2];simp [aB,ht3,s4 qt ht1 ht3,ht6]
  have u4:σ2 ql= .arr 1 (aJ c.loads):=by rw [hσ2];simp [aB,ht4,s4 ql ht2 ht4,ht7]
  have u5:∀j,j<nx→j≠b→σ2 j=σ j:=fun j h1 h2=>by rw [hσ2];simp [aB,h2,s4 j h1 h2]
  refine nX (t:=⟨sl [(0,.ptr b 0),(8,.ptr (nx+1) 0)],σ2,nx+1+1⟩) (aH.slots (by simp [go_sem]) ?_ rfl) ?_
  ·rw [hσ2];funext j;by_cases e1:j=b<;>simp [aB,e1,hon]
  refine aF6 [8,18,21,24] [0,1,9,10,11,12,13,14,15,16,17] [] [⟨12,fun t=>if t=109 then .ptr b 11 else .any,.ref ql,some (dR,0)⟩,⟨16,fun t=>if t=113 then .ptr b 7 else .any,.i (c.load+z.demand),some (dR,0)⟩] rfl (by rw [hB];kernel_rfl) (by kernel_rfl) (fun q hq=>?_) fun ht hf'=>?_
  ·simp only [List.mem_cons,List.not_mem_nil,or_false] at hq;rcases hq with rfl | rfl
   ·exact ⟨_,rfl,by simp [go_sem],by simp [go_sem,u1]⟩
   ·exact ⟨_,rfl,by simp [go_sem],by simp [go_sem,u1]⟩
  have hm1:c.times.length+1≤bH:=by rw [hc.times];show k+1≤4294967296;omega
  have hm2:(aJ c.loads).length+1≤bH:=by rw [aJ,List.length_map,hc.loads];show k+1≤4294967296;omega
  have hb1:¬b=qt:=fun e=>ht3 e.symm
  have hb2:¬b=ql:=fun e=>ht4 e.symm
  have hb3:¬ql=qt:=fun e=>ht5 e.symm
  have hb4:¬b=nx+1+1:=by omega
  have hb5:¬ql=nx+1+1:=by omega
  refine bG hB 12 ?_;simp [go_sem,ht,hf',u1,u2,u3,u4,hm1,hb1,hb2,hb3,hb4,hb5];refine aAN (v:=.ref ql) (by simp [go_sem]) (by simp [go_sem,u1,hb1,hb4]) ⟨rfl,⟨12,fun t=>if t=109 then .ptr b 11 else .any,.ref ql,some (dR,0)⟩,by simp,by simp,rfl,rfl,fun t h=>?_⟩ ?_
  ·have:t=109:=by simpa [eO,Oper.looksAt,Op.operands] using h
   subst this;simp [go_sem]
  refine bG hB 3 ?_;simp [go_sem];refine aAN (v:=.i (c.load+z.demand)) (by simp [go_sem]) (by simp [go_sem,u1,hb1,hb4]) ⟨rfl,⟨16,fun t=>if t=113 then .ptr b 7 else .any,.i (c.load+z.demand),some (dR,0)⟩,by simp,by simp,rfl,rfl,fun t h=>?_⟩ ?_
  ·have:t=113:=by simpa [eO,Oper.looksAt,Op.operands] using h
   subst this;simp [go_sem]
  refine aD ?_;simp [go_sem,ht,hf',u1,u2,u3,u4,hm2,hb1,hb2,hb3,hb4,hb5,show ¬b=nx+1+1+1 by omega];refine ⟨.inl (by kernel_rfl),by omega,?_⟩;rw [←hR]
  exact ⟨rfl,by omega,nx+1+1,nx+1+1+1,by simp [aB,hb5,show ¬b=nx+1+1+1 by omega,cS],⟨by simp [aB,show ¬nx+1+1=b by omega,show ¬nx+1+1=ql by omega],by simp [aB,show ¬nx+1+1+1=b by omega,aJ],by omega,by omega,by omega,by omega,by omega⟩,
   fun j h1 h2 h3 h4=>by simp [aB,h2,h3,h4,show ¬j=nx+1+1 by omega,show ¬j=nx+1+1+1 by omega,u5 j h1 h2],.inr (by omega),.inr (by omega)⟩
theorem aFJ {x:aA} {c:dI} {i:Int} {p k:Nat} (hx:x.Fit p) (hc:c.Fit p k) (h:(x.visitC c i).2=0):(x.visitC c i).1.Fit p (k+1):=by
 have hok:=aAD (x:=x) (c:=c) (i:=i);rw [aA.visitC] at h ⊢;by_cases c0:x.visitsE c i=0
 rotate_left
 ·rw [if_pos c0] at h;exact absurd h c0
 rw [if_neg (by simp [c0])] at h ⊢;by_cases c1:(x.stop i).due<max (c.now+bL (x.stop c.spot) (x.stop i)) (x.stop i).ready
 ·rw [if_pos c1] at h;cases h
 rw [if_neg c1];obtain ⟨k1,k2,k3,k4,k5⟩:=hok c0;have hp:=hx.pairs;have hfi:=hx.at (j:=i) (by omega) (by omega);have hfar:=nI (x.stop c.spot) (x.stop i);have h1:=hc.now;have h2:=hc.gone;have h3:=hc.load;have h4:=hfi.ready;have h5:=hfi.due;have h6:=hfi.service;have h7:=hfi.demand;have h8:=hx.room;have h9:=hx.few;constructor
 ·simp only;omega
 ·simp only;omega
 ·simp only;omega
 ·simp only;omega
 ·exact wM hc.seen _
 ·simp only;split
  ·exact wM hc.on _
  ·exact aPR _ _
 ·simp [hc.times]
 ·simp [hc.loads]
 ·intro y hy;simp only [List.mem_append,List.mem_singleton] at hy;rcases hy with hy | rfl
  ·exact hc.three y hy
  ·rfl
 ·have h10:=hc.few;obtain ⟨j,rfl⟩:∃j:Nat,i=j:=⟨i.toNat,by omega⟩
  have:=sN (p:=fun j:Nat=>decide (1≤j)&& !cI c.seen (j:Int)) (q:=fun m:Nat=>decide (1≤m)&& !cI (cL c.seen (j:Int)) (m:Int)) (List.range (2*p+1)) (a:=j) (List.mem_range.2 (by omega)) (by rw [k3];simp;omega) (by rw [rD (by omega)];simp) (fun m=>by
   rw [rD (by omega)]
   simp only [Bool.and_eq_true,Bool.not_eq_true',Bool.or_eq_false_iff]
   exact fun h=>⟨h.1,h.2.1⟩)
  simp only;omega
def aA.homeC (x:aA) (c:dI):dI×Int:=
 if c.on≠0 then (c,8) else if (x.stop 0).due<c.now+bL (x.stop c.spot) (x.stop 0) then (x.drive c 0,7) else (x.drive c 0,0)
theorem aV0 (x:aA) (c:dI):(x.homeC c).1.times=c.times∧(x.homeC c).1.loads=c.loads:=by
 rw [aA.homeC];split
 ·exact ⟨rfl,rfl⟩
 ·split<;>exact ⟨rfl,rfl⟩
theorem aVZ (x:aA) (c:dI) {p k:Nat} (hx:x.Fit p) (hc:c.Fit p k) {σ:Nat→aG} {nx b qt ql:Nat} (hb:b<nx) (hσb:σ b= .box (cS x c qt ql)) (hqt:qt<nx) (hql:ql<nx):
  aT P 241 [.ptr b 0] σ nx (.i (x.homeC c).2) (aB σ b (.box (cS x (x.homeC c).1 qt ql))) nx:=by
 generalize hR:x.homeC c=R;refine fO Tryz.func241 rfl rfl (by simp [Tryz.f241]) hb (by simp [dG,aE,aE.bndL,cS,hqt,hql]) (by simp [aE]) fun hkn B hB hnx hσ=>?_
 simp only [Tryz.f241] at hB ⊢;have hds:=aH4 x c 0 hx hc (by omega) (by omega) hb hσb hqt hql;rw [aA.homeC] at hR;by_cases c0:c.on=0
 rotate_left
 ·rw [if_pos c0] at hR;subst hR;have c0':¬(c.on:Int)=0:=by omega
  refine aD ?_;simp [go_sem,hσb,cS,c0,c0']
 rw [if_neg (by simp [c0])] at hR;have g1:=hx.lt (j:=0) (by omega);have g3:=hx.get0;have hdr:x.drive c 0={c with spot:=0,gone:=c.gone+bL (x.stop c.spot) (x.stop 0)}:=rfl;generalize x.stop 0=z at *;generalize bL (x.stop c.spot) z=d at *;have g4:(0:Int)<x.stops.length:=g1;have g5:0<x.stops.length:=by omega
 refine aD ?_;simp [go_sem,hσb,cS,c0];refine aF6 [1] [2,3,4,5,6,7,8,9] [] [⟨6,fun t=>if t=13 then .ptr b 3 else .any,.t (.sl (x.stops.map aR.t)),some (dR,0)⟩] rfl (by rw [hB];kernel_rfl) (by kernel_rfl) (fun q hq=>?_) fun ht hf'=>?_
 ·simp only [List.mem_cons,List.not_mem_nil,or_false] at hq;subst hq;exact ⟨_,rfl,by simp [go_sem],by simp [go_sem,hσb,cS]⟩
 refine bG hB 1 ?_;simp [go_sem,hσb,cS];refine o8 rfl rfl rfl (args:=[.ptr b 0,.i 0]) (f:=267) (by simp [go_sem]) hds (by decide) (oK (by simp [go_sem,cS])) ?_;refine bG hB 4 ?_;simp [go_sem,cS];refine aAN (v:=.t (.sl (x.stops.map aR.t))) (by simp [go_sem]) (by simp [go_sem,cS]) ⟨rfl,⟨6,fun t=>if t=13 then .ptr b 3 else .any,.t (.sl (x.stops.map aR.t)),some (dR,0)⟩,by simp,by simp,rfl,rfl,fun t h=>?_⟩ ?_
 ·have:t=13:=by simpa [eO,Oper.looksAt,Op.operands] using h
  subst this;simp [go_sem]
 refine bG hB 2 ?_;simp [go_sem,g4,g5,g3,aR.t];refine aP8 (v:=.i z.due) (by simp [go_sem]) (fun σ nx=>by simp [go_sem,aR.t,g3,g5]) ?_;by_cases c1:z.due<c.now+d
 ·rw [if_pos c1] at hR;subst hR;refine aD ?_;simp [go_sem,c1,hdr,cS];exact fun j h1 h2 h3=>absurd h3 h2
 ·rw [if_neg c1] at hR;subst hR;refine aD ?_;simp [go_sem,c1,hdr,cS];exact fun j h1 h2 h3=>absurd h3 h2
def aA.car0 (x:aA):dI:=⟨0,(x.stop 0).ready,0,0,0,0,[],[]⟩
theorem xQ {x:aA} {p:Nat} (hx:x.Fit p):x.car0.Fit p 0:=by have h1:=(hx.at (j:=0) (by omega) (by omega)).ready;refine ⟨by simp only [aA.car0];omega,by simp only [aA.car0];omega,by simp only [aA.car0];omega,by simp only [aA.car0];omega,by simp [aA.car0],by simp [aA.car0],rfl,rfl,(fun y hy=>by cases hy),?_⟩;have:=sN (p:=fun _:Nat=>true) (q:=fun j:Nat=>decide (1≤j)&& !cI x.car0.seen (j:Int)) (List.range (2*p+1)) (a:=0) (List.mem_range.2 (by omega)) rfl (by simp) (fun _ _=>rfl);rw [List.filter_eq_self.2 (fun _ _=>rfl),List.length_range] at this;omega
theorem aR4 (x:aA) {p:Nat} (hx:x.Fit p) (σ:Nat→aG) (nx:Nat):
  bN P 239 [x.a] σ nx fun r σ' nx'=>∃b,r= .ptr b 0∧nx≤b∧b<nx'∧σ' b= .box [.t (.i x.pairs),.t (.i x.cars),.t (.i x.room),.t (.sl (x.stops.map aR.t)),.i 0,.i (x.stop 0).ready,.i 0,.i 0,.u 0,.u 0,.fsl [],.fsl []]∧∀j,j<nx→σ' j=σ j:=by
 refine cA Tryz.func239 rfl rfl (by simp [Tryz.f239]) fun B hB hnx hσ=>?_
 simp only [Tryz.f239] at hB ⊢;have g1:=hx.lt (j:=0) (by omega);have g3:=hx.get0;generalize x.stop 0=z at *;have g4:(0:Int)<x.stops.length:=g1;have g5:0<x.stops.length:=by omega
 refine aD ?_;simp [go_sem,aA.a];refine gQ [7] rfl (by rw [hB];kernel_rfl) (by kernel_rfl) fun ht=>?_
 refine aD ?_;simp [go_sem,ht,g4,g5,g3,aR.t];exact ⟨by omega,fun j h1=>by simp [show ¬j=nx by omega,show ¬j=nx+1 by omega]⟩
def aA.runC (x:aA):List Int→dI→dI×Int
 |[],c=>x.homeC c
 |i :: r,c=>if (x.visitC c i).2≠0 then x.visitC c i else x.runC r (x.visitC c i).1
def aQW (x:aA) (R:dI×Int) (σ:Nat→aG) (nx:Nat) (r:AV) (σ':Nat→aG) (nx':Nat):Prop:=
 nx≤nx'∧(∀j,j<nx→σ' j=σ j)∧((R.2≠0∧r= .tup [.t (.v (.pointer none)),.i R.2])∨(R.2=0∧∃b qt ql,r= .tup [.ptr b 0,.i 0]∧b<nx'∧σ' b= .box (cS x R.1 qt ql)∧wZ R.1 σ' nx' b qt ql))
structure RX where
 lb:Nat
 k:Nat
 c:dI
 e:Int
 b:Nat
 qt:Nat
 ql:Nat
 σ:Nat→aG
 nx:Nat
structure RX.I (x:aA) (p:Nat) (route:List Int) (R:dI×Int) (σ0:Nat→aG) (nx0:Nat) (a:RX):Prop where
 go:(a.lb=1∧a.k≤route.length∧a.c.Fit p a.k∧a.b<a.nx∧nx0<a.b∧nx0<a.qt∧nx0<a.ql∧a.σ a.b= .box (cS x a.c a.qt a.ql)∧wZ a.c a.σ a.nx a.b a.qt a.ql∧x.runC (route.drop a.k) a.c=R)∨(a.lb=0∧a.e=R.2∧R.2≠0)
 old:∀j,j≤nx0→a.σ j=σ0 j
 nx:nx0<a.nx
def RX.st (route:List Int) (a:RX):St:=⟨sl (if a.lb=1 then [(1,.t (.sl (aJ route))),(6,.ptr a.b 0),(7,.i a.k)] else [(8,.i a.e)]),a.σ,a.nx⟩
def RX.m (route:List Int) (a:RX):Nat:=if a.lb=1 then route.length+1-a.k else 0
theorem bCN (x:aA) (route:List Int) (hm:x.may=true) (hr:route.length<2^63) (σ:Nat→aG) (nx:Nat):
  bN P 208 [x.a,.t (.sl (aJ route))] σ nx (aQW x (x.runC route x.car0) σ nx):=by
 generalize hR:x.runC route x.car0=R;obtain ⟨p,hx⟩:=x.fit hm;have hlen:=hx.len;have hfew:=hx.few;have hil:(aJ route).length=route.length:=List.length_map _;refine cA Tryz.func208 rfl rfl (by simp [Tryz.f208]) fun B hB hnx hσ=>?_
 simp only [Tryz.f208] at hB ⊢;refine aD ?_;simp [go_sem,aA.a];obtain ⟨σ1,hσ1⟩:∃σ1:Nat→aG,σ1=aB σ nx (.box x.cs):=⟨_,rfl⟩;refine aGD RX.lb (RX.I x p route R σ1 nx) (RX.st route) (RX.m route) (fun a ha=>?_) ?_ ?_
 ·rcases ha.go with ⟨h,_⟩ | ⟨h,_⟩<;>rw [h]<;>rfl
 ·rintro ⟨lb,k,c,e,b,qt,ql,σ',nx'⟩ ⟨hgo,hold,hnx'⟩ fall;simp only at hgo hold hnx';rcases hgo with ⟨rfl,g1,g2,g3,g4,g5,g6,g7,g8,g9⟩ | ⟨rfl,rfl,g2⟩
  ·show Kp P B (.code (i7 _ 1) :: _) _ _ _;simp [i7,findLabel];refine aD ?_;simp [go_sem,RX.st,hil];refine bU (fun hk=>?_) (fun hk=>?_)
   ·have hget:=gH route hk;rw [List.drop_eq_getElem_cons hk,aA.runC] at g9;have hfit:=aFJ (i:=route[k]) hx g2;have hvs:=bG9 x c route[k] hx g2 g3 g7 g8;have hkk:IntKind.i64.wrap ((k:Int)+1)=((k+1:Nat):Int):=by rw [aO ((k:Int)+1) (by omega)];rfl
    generalize route[k]=i at *;generalize x.visitC c i=V at *;simp [go_sem,hil,hk,hget];refine dX rfl rfl rfl (args:=[.ptr b 0,.i i]) (f:=240) (by simp [go_sem]) (by simp [go_sem,hB]) hvs ?_;rintro r σ2 nx2 ⟨rfl,v1,qt2,ql2,v2,v3,v4,v5,v6⟩;have hold2:∀j,j≤nx→σ2 j=σ1 j:=fun j hj=>by rw [v4 j (by omega) (by omega) (by omega) (by omega)];exact hold j hj
    by_cases c1:V.2=0
    ·rw [if_neg (by simp [c1])] at g9;refine aD ?_;simp [go_sem,c1,hkk];refine ⟨⟨1,k+1,V.1,0,b,qt2,ql2,σ2,nx2⟩,⟨.inl ⟨rfl,by simp only;omega,hfit c1,by simp only;omega,g4,by simp only;omega,by simp only;omega,v2,v3,g9⟩,hold2,by simp only;omega⟩,rfl,aH.slots (by simp [go_sem,RX.st]) rfl rfl,by simp only [RX.m,if_true];omega⟩
    ·rw [if_pos c1] at g9;subst g9;refine aD ?_;simp [go_sem,c1];refine ⟨⟨0,0,c,V.2,b,qt2,ql2,σ2,nx2⟩,⟨.inr ⟨rfl,rfl,c1⟩,hold2,by simp only;omega⟩,rfl,aH.slots (by simp [go_sem,RX.st]) rfl rfl,by simp [RX.m];omega⟩
   ·have:k=route.length:=by omega
    subst this;rw [List.drop_length,aA.runC] at g9;have hhs:=aVZ x c hx g2 g3 g7 g8.ltT g8.ltL;have hht:=aV0 x c;rw [g9] at hhs hht;simp [go_sem];refine aL rfl rfl rfl (args:=[.ptr b 0]) (f:=241) (by simp [go_sem]) (by simp [go_sem,hB]) hhs ?_;by_cases c1:R.2=0
    ·refine aD ?_;simp [go_sem,c1];have hne:∀j,j<nx→j≠b:=fun j hj=>by omega
     refine ⟨by omega,by omega,fun j hj=>?_,.inr ⟨c1,b,qt,ql,rfl,g3,by simp [aB],⟨?_,?_,g8.ltT,g8.ltL,g8.neT,g8.neL,g8.ne⟩⟩⟩
     ·have:=hold j (by omega);simp [aB,hne j hj,this,hσ1,show ¬j=nx by omega]
     ·simp [aB,g8.neT,g8.tm,hht.1]
     ·simp [aB,g8.neL,g8.ld,hht.2]
    ·refine bG hB 9 ?_;simp [go_sem,c1];refine fall 0 _ ?_;refine ⟨⟨0,0,c,R.2,b,qt,ql,_,nx'⟩,⟨.inr ⟨rfl,rfl,c1⟩,fun j hj=>?_,by simp only;omega⟩,rfl,aH.slots (by simp [go_sem,RX.st]) rfl rfl,by simp [RX.m]⟩;simp only at hj ⊢;have:=hold j hj;simp [aB,show ¬j=b by omega,this]
  ·show Kp P B (.code (i7 _ 0) :: _) _ _ _;simp [i7,findLabel];refine aD ?_;simp [go_sem,RX.st];exact ⟨by omega,by omega,fun j hj=>by rw [hold j (by omega),hσ1];simp [aB,show ¬j=nx by omega],.inl ⟨g2,rfl⟩⟩
 ·intro J hJ;refine aD ?_;simp [go_sem];refine aL rfl rfl rfl (args:=[x.a]) (f:=44) (by simp [go_sem,aA.a]) (by simp [go_sem,hB]) ((lP x (by omega)).spec _ _) ?_;refine aD ?_;simp [go_sem,hm];refine dX rfl rfl rfl (args:=[x.a]) (f:=239) (by simp [go_sem,aA.a]) (by simp [go_sem,hB]) (aR4 x hx _ _) ?_;rintro r σ2 nx2 ⟨b,rfl,b1,b2,b3,b4⟩;simp only at b1 b2 b3 b4;refine bG hB 4 ?_;simp [go_sem];obtain ⟨σ3,hσ3⟩:∃σ3:Nat→aG,σ3=aB (aB (aB (aB σ2 b (.box [.t (.i x.pairs),.t (.i x.cars),.t (.i x.room),.t (.sl (x.stops.map aR.t)),.i 0,.i (x.stop 0).ready,.i 0,.i 0,.u 0,.u 0,.ref nx2,.fsl []])) nx2 (.arr 3 [])) b (.box (cS x x.car0 nx2 (nx2+1)))) (nx2+1) (.arr 1 []):=⟨_,rfl⟩;refine hJ 1 _ ⟨⟨1,0,x.car0,0,b,nx2,nx2+1,σ3,nx2+2⟩,⟨.inl ⟨rfl,Nat.zero_le _,xQ hx,by simp only;omega,by simp only;omega,by simp only;omega,by simp only;omega,?_,⟨?_,?_,by simp only;omega,by simp only;omega,by simp only;omega,by simp only;omega,by simp only;omega⟩,hR⟩,?_,by simp only;omega⟩,rfl,?_⟩
  ·simp [hσ3,aB,show ¬b=nx2+1 by omega]
  ·simp [hσ3,aB,show ¬nx2=b by omega,aA.car0]
  ·simp [hσ3,aB,aA.car0,aJ]
  ·intro j hj;simp only at hj ⊢;simp only [hσ3,aB];rw [if_neg (by omega),if_neg (by omega),if_neg (by omega),if_neg (by omega),hσ1];exact b4 j (by omega)
  ·refine (aH.ownB (b:=b) (off:=10) (sz:=3) (by simpa using b3) rfl).trans ((aH.ownB (b:=b) (off:=11) (sz:=1) (cs:=[.t (.i x.pairs),.t (.i x.cars),.t (.i x.room),.t (.sl (x.stops.map aR.t)),.i 0,.i (x.stop 0).ready,.i 0,.i 0,.u 0,.u 0,.ref nx2,.fsl []]) (by simp [aB,show ¬b=nx2 by omega]) rfl).trans (aH.slots (by simp [go_sem,RX.st]) ?_ rfl));rw [hσ3];rfl
theorem bCG (x:aA) (route:List Int) (hm:x.may=false) (hl:x.stops.length<2^63) (σ:Nat→aG) (nx:Nat):
  bN P 208 [x.a,.t (.sl (aJ route))] σ nx fun r σ' nx'=>r= .tup [.t (.v (.pointer none)),.i 1]:=by
 refine cA Tryz.func208 rfl rfl (by simp [Tryz.f208]) fun B hB hnx hσ=>?_
 simp only [Tryz.f208] at hB ⊢;refine aD ?_;simp [go_sem,aA.a];refine aAR (α:=Unit) (fun _=>0) (fun _=>False) (fun _=>⟨fun _=>.any,σ,nx⟩) (fun _=>0) (fun _ h=>h.elim) ?_ (fun _ h=>h.elim);refine aD ?_;simp [go_sem];refine aL rfl rfl rfl (args:=[x.a]) (f:=44) (by simp [go_sem,aA.a]) (by simp [go_sem,hB]) ((lP x hl).spec _ _) ?_;refine aD ?_;simp [go_sem,hm]
def aA.times (x:aA) (route:List Int):List (List T)×Int×Int:=
 if x.may=false then ([],0,1) else if (x.runC route x.car0).2≠0 then ([],0,(x.runC route x.car0).2) else ((x.runC route x.car0).1.times,(x.runC route x.car0).1.gone,0)
def rV (r:List (List T)×Int×Int):AV:=.tup [.t (.sl r.1),.i r.2.1,.i r.2.2]
theorem bEY (x:aA) (route:List Int) (hl:x.stops.length<2^63) (hr:route.length<2^63):Pure P 161 [x.a,.t (.sl (aJ route))] (rV (x.times route)):=by
 generalize hR:x.times route=R;refine aW Tryz.func161 rfl rfl (by simp [Tryz.f161]) (by simp [aE,aE.bndL,aA.a]) (by simp [aE,aE.bndL,rV]) fun B hB hnx=>?_
 simp only [Tryz.f161] at hB ⊢;rw [aA.times] at hR;refine aD ?_;simp [go_sem,aA.a];cases hm:x.may with
 |false=>rw [if_pos hm] at hR;refine dX rfl rfl rfl (args:=[x.a,.t (.sl (aJ route))]) (f:=208) (by simp [go_sem,aA.a]) (by simp [go_sem,hB]) (bCG x route hm hl _ _) ?_;rintro r σ' nx' rfl;subst hR;refine aD ?_;simp [go_sem,rV]
 |true=>
  rw [if_neg (by simp [hm])] at hR;have hrs:=bCN x route hm hr;generalize x.runC route x.car0=V at *;refine dX rfl rfl rfl (args:=[x.a,.t (.sl (aJ route))]) (f:=208) (by simp [go_sem,aA.a]) (by simp [go_sem,hB]) (hrs _ _) ?_;rintro r σ' nx' ⟨h1,h2,⟨h3,rfl⟩ | ⟨h3,b,qt,ql,rfl,h4,h5,h6⟩⟩
  ·rw [if_pos h3] at hR;subst hR;refine aD ?_;simp [go_sem,h3,rV]
  ·rw [if_neg (by simp [h3])] at hR;subst hR;refine aD ?_;simp [go_sem];refine bK [] rfl (by rw [hB];kernel_rfl) ?_;refine aD ?_;simp [go_sem,h5,cS,h6.tm,rV]
def dU (p:Int→Bool):Nat→List Int→Int
 |_,[]=>-1
 |i,n :: l=>if p n=true then (i:Int) else dU p (i+1) l
theorem aCM (p:Int→Bool):∀(i:Nat) (l:List Int),(0≤dU p i l)↔l.any p=true
 |_,[]=>by simp [dU]
 |i,n :: l=>by
  rw [dU,List.any_cons];cases h:p n with
  |true=>simp
  |false=>simp [aCM p (i+1) l]
theorem aJ3 (l:List Int) (p:Int→Bool) (f:FuncId) (hl:l.length<2^62) (hf:∀n,Pure P f [.i n] (.b (p n))):Pure P 183 [.t (.sl (aJ l)),.fn (.func f) [] []] (.i (dU p 0 l)):=by
 have hil:(aJ l).length=l.length:=List.length_map _;refine aW Tryz.func183 rfl rfl (by simp [Tryz.f183]) (by simp [aE,aE.bndL]) (by simp [aE,aE.bndL]) fun B hB hnx=>?_
 simp only [Tryz.f183] at hB ⊢;refine aD ?_;simp [go_sem,hil];refine bA (α:=Nat) (fun k=>k≤l.length∧dU p k (l.drop k)=dU p 0 l) (fun k=>⟨sl [(0,.t (.sl (aJ l))),(1,.fn (.func f) [] []),(7,.i l.length),(8,.i k)],dR,0⟩) (fun k=>l.length-k) 0 ⟨Nat.zero_le _,rfl⟩ (aH.slots (by simp [go_sem]) rfl rfl) ?_;rintro k ⟨h1,h2⟩;refine aI ?_;simp [go_sem];refine bU (fun h=>?_) (fun h=>?_)
 ·rw [List.drop_eq_getElem_cons h,dU] at h2;have hkk:IntKind.i64.wrap ((k:Int)+1)=((k+1:Nat):Int):=by rw [aO ((k:Int)+1) (by omega)];rfl
  have hget:=gH l h;generalize l[k]=n at *;have hp:=hf n;simp [go_sem,h,hil,hget];refine aL rfl rfl rfl (args:=[.i n]) (f:=f) (by simp [go_sem]) (by simp [go_sem,hB]) (hp.spec _ _) ?_;cases ho:p n with
  |true=>rw [ho,if_pos rfl] at h2;refine aD ?_;simp [go_sem,←h2]
  |false=>rw [ho,if_neg (by simp)] at h2;refine aD ?_;simp [go_sem,hkk];exact Next.mk (k+1) ⟨by omega,h2⟩ (aH.slots (by simp [go_sem]) rfl rfl) (by omega)
 ·have:k=l.length:=by omega
  subst this;rw [List.drop_length] at h2;simp [go_sem,←h2,dU]
theorem aTD (l:List Int) (p:Int→Bool) (f:FuncId) (hl:l.length<2^62) (hf:∀n,Pure P f [.i n] (.b (p n))):Pure P 163 [.t (.sl (aJ l)),.fn (.func f) [] []] (.b (l.any p)):=by
 have hi:=aJ3 l p f hl hf;have ha:=aCM p 0 l;refine aW Tryz.func163 rfl rfl (by simp [Tryz.f163]) (by simp [aE,aE.bndL]) (by simp [aE,aE.bndL]) fun B hB hnx=>?_
 simp only [Tryz.f163] at hB ⊢;generalize dU p 0 l=i at *;refine aD ?_;simp [go_sem];refine aL rfl rfl rfl (args:=[.t (.sl (aJ l)),.fn (.func f) [] []]) (f:=183) (by simp [go_sem]) (by simp [go_sem,hB]) ((hi).spec _ _) ?_;refine aD ?_;simp [go_sem];rw [Bool.eq_iff_iff,decide_eq_true_eq];exact ha
theorem aV8 (l:List Int) (v:Int) (hl:l.length<2^62):Pure P 209 [.t (.sl (aJ l)),.i v] (.i (dU (fun n=>decide (n=v)) 0 l)):=by
 have hil:(aJ l).length=l.length:=List.length_map _;refine aW Tryz.func209 rfl rfl (by simp [Tryz.f209]) (by simp [aE,aE.bndL]) (by simp [aE,aE.bndL]) fun B hB hnx=>?_
 simp only [Tryz.f209] at hB ⊢;refine aD ?_;simp [go_sem,hil];refine bA (α:=Nat) (fun k=>k≤l.length∧dU (fun n=>decide (n=v)) k (l.drop k)=dU (fun n=>decide (n=v)) 0 l) (fun k=>⟨sl [(0,.t (.sl (aJ l))),(1,.i v),(7,.i l.length),(8,.i k)],dR,0⟩) (fun k=>l.length-k) 0 ⟨Nat.zero_le _,rfl⟩ (aH.slots (by simp [go_sem]) rfl rfl) ?_;rintro k ⟨h1,h2⟩;refine aI ?_;simp [go_sem];refine bU (fun h=>?_) (fun h=>?_)
 ·rw [List.drop_eq_getElem_cons h,dU] at h2;have hkk:IntKind.i64.wrap ((k:Int)+1)=((k+1:Nat):Int):=by rw [aO ((k:Int)+1) (by omega)];rfl
  have hget:=gH l h;generalize l[k]=n at *;by_cases ho:v=n
  ·subst ho;rw [if_pos (by simp)] at h2;simp [go_sem,h,hil,hget,←h2]
  ·have ho':¬n=v:=fun e=>ho e.symm
   rw [if_neg (by simp [ho'])] at h2;simp [go_sem,h,hil,hget,ho,hkk];exact Next.mk (k+1) ⟨by omega,h2⟩ (aH.slots (by simp [go_sem]) rfl rfl) (by omega)
 ·have:k=l.length:=by omega
  subst this;rw [List.drop_length] at h2;simp [go_sem,←h2,dU]
theorem aTB (l:List Int) (v:Int) (hl:l.length<2^62):Pure P 164 [.t (.sl (aJ l)),.i v] (.b (l.any fun n=>decide (n=v))):=by
 have hi:=aV8 l v hl;have ha:=aCM (fun n=>decide (n=v)) 0 l;refine aW Tryz.func164 rfl rfl (by simp [Tryz.f164]) (by simp [aE,aE.bndL]) (by simp [aE,aE.bndL]) fun B hB hnx=>?_
 simp only [Tryz.f164] at hB ⊢;generalize dU (fun n=>decide (n=v)) 0 l=i at *;refine aD ?_;simp [go_sem];refine aL rfl rfl rfl (args:=[.t (.sl (aJ l)),.i v]) (f:=209) (by simp [go_sem]) (by simp [go_sem,hB]) ((hi).spec _ _) ?_;refine aD ?_;simp [go_sem];rw [Bool.eq_iff_iff,decide_eq_true_eq];exact ha
theorem bGT (n:Int):Pure P 162 [.i n] (.b (decide (1<n))):=by
 refine aW Tryz.func162 rfl rfl (by simp [Tryz.f162]) (by simp [aE,aE.bndL]) (by simp [aE,aE.bndL]) fun B hB hnx=>?_
 simp only [Tryz.f162] at hB ⊢;refine aD ?_;simp [go_sem]
def bump (s:List Int) (i:Int):List Int:=s.set i.toNat (s.getD i.toNat 0+1)
def aA.costGo (x:aA):List (List Int)→Int→List Int→Int×Int
 |[],all,seen=>if (seen.any fun n=>decide (1<n))=true then (0,5) else if ((seen.drop 1).any fun n=>decide (n=0))=true then (0,4) else (all,0)
 |r :: rs,all,seen=>if r.length=0 then (0,1) else if (x.times r).2.2≠0 then (0,(x.times r).2.2) else x.costGo rs (all+(x.times r).2.1) (r.foldl bump seen)
def aA.cost (x:aA) (p:List (List Int)):Int×Int:=
 if x.may=false then (0,1) else if x.cars<p.length then (0,6) else x.costGo p 0 (List.replicate (2*x.pairs+1).toNat 0)
theorem aN1 {x:aA} {p:Nat} (hx:x.Fit p):∀(r:List Int) (c:dI) (k:Nat),c.Fit p k→(x.runC r c).2=0→(∀i∈r,1≤i∧i≤2*p)∧k+r.length≤2*p∧0≤(x.runC r c).1.gone∧(x.runC r c).1.gone≤14143*(k+r.length+1)
 |[],c,k,hc,h=>by
  have hg:=hc.gone;have hf:=nI (x.stop c.spot) (x.stop 0);have:=hc.le;refine ⟨fun i hi=>(by cases hi),by simpa using this,?_⟩;rw [aA.runC,aA.homeC];simp only [List.length_nil];split
  ·simp only;omega
  ·split<;>simp only [aA.drive]<;>omega
 |i :: r,c,k,hc,h=>by
  rw [aA.runC] at h ⊢;by_cases c1:(x.visitC c i).2=0
  ·rw [if_neg (by simp [c1])] at h ⊢;obtain ⟨h1,h2,h3,h4⟩:=aN1 hx r _ _ (aFJ hx hc c1) h
   have hv:x.visitsE c i=0:=by
    rw [aA.visitC] at c1;split at c1
    ·rename_i hh;exact absurd c1 hh
    ·rename_i hh;simpa using hh
   obtain ⟨k1,k2,_⟩:=aAD hv;have hp:=hx.pairs;rw [List.length_cons];refine ⟨fun j hj=>?_,by omega,h3,by omega⟩;rcases List.mem_cons.1 hj with rfl | hj
   ·omega
   ·exact h1 j hj
  ·rw [if_pos c1] at h;exact absurd h c1
theorem oT {x:aA} {p:Nat} (hx:x.Fit p) (hm:x.may=true) {r:List Int} (h:(x.times r).2.2=0):(∀i∈r,1≤i∧i≤2*p)∧r.length≤2*p∧0≤(x.times r).2.1∧(x.times r).2.1≤14143*33:=by
 rw [aA.times,if_neg (by simp [hm])] at h ⊢;by_cases c1:(x.runC r x.car0).2=0
 ·rw [if_neg (by simp [c1])];obtain ⟨h1,h2,h3,h4⟩:=aN1 hx r _ 0 (xQ hx) c1;have:=hx.few;exact ⟨h1,by omega,h3,by simp only;omega⟩
 ·rw [if_pos c1] at h;exact absurd h c1
theorem uM (s:List Int) (i:Int):(bump s i).length=s.length:=List.length_set
theorem qU:∀(r:List Int) (s:List Int),(r.foldl bump s).length=s.length
 |[],s=>rfl
 |i :: r,s=>by rw [List.foldl_cons,qU,uM]
theorem aSM {s:List Int} {m:Int} (h:∀n∈s,0≤n∧n≤m) (i:Int):∀n∈bump s i,0≤n∧n≤m+1:=by
 intro n hn;by_cases hi:i.toNat<s.length
 ·rcases List.mem_or_eq_of_mem_set hn with h1 | h1
  ·have:=h n h1;omega
  ·have e:s.getD i.toNat 0=s[i.toNat]:=by rw [List.getD_eq_getElem?_getD,List.getElem?_eq_getElem hi];rfl
   rw [e] at h1;have:=h _ (List.getElem_mem hi);omega
 ·rw [bump,List.set_eq_of_length_le (by omega)] at hn;have:=h _ hn;omega
theorem aTM (x:aA) (p:List (List Int)) (hl:x.stops.length<2^63) (hp:p.length<2^63) (hr:∀r∈p,r.length<2^63):Pure P 109 [x.a,.agg [.t (.sl (p.map aY))]] (.tup [.i (x.cost p).1,.i (x.cost p).2]):=by
 generalize hR:x.cost p=R;have hpl:(p.map aY).length=p.length:=List.length_map _;refine aW Tryz.func109 rfl rfl (by simp [Tryz.f109]) (by simp [aE,aE.bndL,aA.a]) (by simp [aE,aE.bndL]) fun B hB hnx=>?_
 simp only [Tryz.f109] at hB ⊢;rw [aA.cost] at hR;refine aD ?_;simp [go_sem,aA.a];refine aL rfl rfl rfl (args:=[x.a]) (f:=44) (by simp [go_sem,aA.a]) (by simp [go_sem,hB]) ((lP x hl).spec _ _) ?_;cases hm:x.may with
 |false=>rw [if_pos hm] at hR;subst hR;refine aD ?_;simp [go_sem]
 |true=>
  rw [if_neg (by simp [hm])] at hR;obtain ⟨q,hx⟩:=x.fit hm;have hpq:=hx.pairs;have hfew:=hx.few;have hcars:=hx.cars;by_cases c1:x.cars<p.length
  ·rw [if_pos c1] at hR;subst hR;refine aD ?_;simp [go_sem,hpl,c1]
  rw [if_neg c1] at hR;have w1:=aO (2*x.pairs) (by omega);have w2:=aO (2*x.pairs+1) (by omega);refine aD ?_;simp [go_sem,hpl,c1];refine aF5 [4] [5] [] rfl (by rw [hB];kernel_rfl) (by kernel_rfl) fun ht hf'=>?_
  have hml:2*x.pairs+1≤(bH:Int):=by show _≤(4294967296:Int);omega
  refine aD ?_;simp [go_sem,ht,hf',w1,w2,hml,show 0≤2*x.pairs+1 by omega,hpl];have hrep:List.replicate (2*x.pairs+1).toNat [(.i 0:T)]=aJ (List.replicate (2*x.pairs+1).toNat 0):=by simp [aJ]
  refine bA (α:=Nat×Int×List Int) (fun (k,all,seen)=>k≤p.length∧seen.length=2*q+1∧x.costGo (p.drop k) all seen=R∧(0≤all∧all≤466719*k)∧∀n∈seen,0≤n∧n≤33*k)
   (fun (k,all,seen)=>⟨sl [(2,.ptr 0 0),(6,.i all),(7,.ref 2),(33,.t (.sl (p.map aY))),(34,.i p.length),(35,.i k)],ob [(0,.box x.cs),(2,.arr 1 (aJ seen))],3⟩) (fun a=>p.length-a.1) (0,0,List.replicate (2*x.pairs+1).toNat 0) ?_
   (eT.of (by omega) (by simp) (by simp [go_sem]) (by simp [go_sem,hrep])) ?_
  ·refine ⟨Nat.zero_le _,by rw [List.length_replicate];omega,hR,by omega,fun n hn=>?_⟩;rw [(List.mem_replicate.1 hn).2];omega
  rintro ⟨k,all,seen⟩ ⟨h1,h2,h3,h4,h5⟩;refine aI ?_;simp [go_sem,hpl];refine bU (fun hk=>?_) (fun hk=>?_)
  ·rw [List.drop_eq_getElem_cons hk,aA.costGo] at h3;have hkk:IntKind.i64.wrap ((k:Int)+1)=((k+1:Nat):Int):=by rw [aO ((k:Int)+1) (by omega)];rfl
   have hrl:=hr p[k] (List.getElem_mem hk);have hget:(p.map aY)[k]'(by rw [hpl];exact hk)=[.sl (aJ p[k])]:=by simp [aY]
   generalize p[k]=r at *;have hil:(aJ r).length=r.length:=List.length_map _;have hte:=bEY x r hl hrl;have hok:=oT hx hm (r:=r);by_cases c2:r.length=0
   ·rw [if_pos c2] at h3;subst h3;simp [go_sem,hk,hpl,hget,hil,c2]
   rw [if_neg c2] at h3;generalize x.times r=V at *;simp [go_sem,hk,hpl,hget,hil,c2];refine aL rfl rfl rfl (args:=[x.a,.t (.sl (aJ r))]) (f:=161) (by simp [go_sem,aA.a]) (by simp [go_sem,hB]) ((hte).spec _ _) ?_;by_cases c3:V.2.2=0
   rotate_left
   ·rw [if_pos c3] at h3;subst h3;refine aD ?_;simp [go_sem,rV,c3]
   rw [if_neg (by simp [c3])] at h3;obtain ⟨o1,o2,o3,o4⟩:=hok c3;have w3:=aO (all+V.2.1) (by omega);have hbl:=qU r seen;refine aD ?_;simp [go_sem,rV,c3,w3,hil]
   refine bA (α:=Nat×List Int) (fun (j,s)=>j≤r.length∧s.length=2*q+1∧(r.drop j).foldl bump s=r.foldl bump seen∧∀n∈s,0≤n∧n≤33*k+j)
    (fun (j,s)=>⟨sl [(2,.ptr 0 0),(6,.i (all+V.2.1)),(7,.ref 2),(33,.t (.sl (p.map aY))),(34,.i p.length),(35,.i k),(55,.t (.sl (aJ r))),(56,.i r.length),(57,.i j)],ob [(0,.box x.cs),(2,.arr 1 (aJ s))],3⟩) (fun a=>r.length-a.1) (0,seen) ⟨Nat.zero_le _,h2,rfl,fun n hn=>by have:=h5 n hn;omega⟩
    (eT.of (by omega) (by simp) (by simp [go_sem]) (by simp [go_sem])) ?_
   rintro ⟨j,s⟩ ⟨i1,i2,i3,i4⟩;refine aI ?_;simp [go_sem,hil];refine bU (fun hj=>?_) (fun hj=>?_)
   ·rw [List.drop_eq_getElem_cons hj,List.foldl_cons] at i3;have hjj:IntKind.i64.wrap ((j:Int)+1)=((j+1:Nat):Int):=by rw [aO ((j:Int)+1) (by omega)];rfl
    have hgetj:=gH r hj;have hin:=o1 r[j] (List.getElem_mem hj);generalize r[j]=i at *;have hisl:(aJ s).length=s.length:=List.length_map _;have hlt:i.toNat<s.length:=by omega
    have hltI:i<(s.length:Int):=by omega
    have hgets:=gH s hlt;have hsi:=i4 _ (List.getElem_mem hlt);have w4:=aO (s[i.toNat]+1) (by omega);have hb:bump s i=s.set i.toNat (s[i.toNat]+1):=by rw [bump,List.getD_eq_getElem?_getD,List.getElem?_eq_getElem hlt];rfl
    have hbi:aJ (bump s i)=(aJ s).set i.toNat [.i (s[i.toNat]+1)]:=by rw [hb,aJ,aJ,List.map_set]
    have hbl1:=uM s i;have hble:=aSM (m:=33*k+j) i4 i;generalize s[i.toNat]=m at *;simp [go_sem,hj,hil,hgetj,show 0≤i by omega,hltI,hisl,hgets,w4,hjj,hlt,Nat.mod_one];refine Next.mk (j+1,bump s i) ⟨by simp only;omega,by simp only;omega,i3,fun n hn=>by have:=hble n hn;simp only;omega⟩ (eT.of (by omega) (by simp) (by simp [go_sem]) (by simp [go_sem,hbi])) (by simp only;omega)
   ·have:j=r.length:=by omega
    subst this;rw [List.drop_length,List.foldl_nil] at i3;subst i3;simp [go_sem,hkk];exact Next.mk (k+1,all+V.2.1,r.foldl bump seen) ⟨by simp only;omega,by simp only;omega,h3,by simp only;omega,fun n hn=>by have:=i4 n hn;simp only;omega⟩ (eT.of (by omega) (by simp) (by simp [go_sem]) (by simp [go_sem])) (by simp only;omega)
  ·have:k=p.length:=by omega
   subst this;rw [List.drop_length,aA.costGo] at h3;have hsl:seen.length<2^62:=by omega
   have hc1:=aTD seen (fun n=>decide (1<n)) 162 hsl bGT;have hc2:=aTB (seen.drop 1) 0 (by rw [List.length_drop];omega);have hdr:aJ (seen.drop 1)=(aJ seen).drop 1:=by simp [aJ,List.map_drop]
   have hisl:(aJ seen).length=seen.length:=List.length_map _;have hone:∀y∈aJ seen,y.length=1:=by intro y hy;simp only [aJ,List.mem_map] at hy;obtain ⟨n,_,rfl⟩:=hy;rfl
   simp [go_sem];refine iB (t:=⟨sl [(6,.i all),(7,.t (.sl (aJ seen))),(70,.t (.sl (aJ seen))),(71,.fn (.func 162) [] [])],dR,3⟩) ((aH.freeze (q:=2) (sz:=1) (es:=aJ seen) (by simp [go_sem])).trans (aH.of (by simp [go_sem,bB]) (fun i=>.inl rfl) rfl)) ?_;refine aL rfl rfl rfl (args:=[.t (.sl (aJ seen)),.fn (.func 162) [] []]) (f:=163) (by simp [go_sem]) (by simp [go_sem,hB]) (hc1.spec _ _) ?_;cases e1:seen.any fun n=>decide (1<n) with
   |true=>rw [if_pos e1] at h3;subst h3;refine aD ?_;simp [go_sem]
   |false=>
    rw [if_neg (by simp [e1])] at h3;refine aD ?_;simp [go_sem,hisl,h2,if_pos hone,hone,show (1:Int)≤2*(q:Int)+1 by omega];have hdr2:(aJ seen).tail=aJ seen.tail:=by simp [aJ]
    cases e2:(seen.drop 1).any fun n=>decide (n=0) with
    |true=>rw [if_pos e2] at h3;rw [e2] at hc2;subst h3;refine aL rfl rfl rfl (args:=[.t (.sl (aJ (seen.drop 1))),.i 0]) (f:=164) (by simp [go_sem,hdr2]) (by simp [go_sem,hB]) (hc2.spec _ _) ?_;refine aD ?_;simp [go_sem]
    |false=>rw [if_neg (by rw [e2];simp)] at h3;rw [e2] at hc2;subst h3;refine aL rfl rfl rfl (args:=[.t (.sl (aJ (seen.drop 1))),.i 0]) (f:=164) (by simp [go_sem,hdr2]) (by simp [go_sem,hB]) (hc2.spec _ _) ?_;refine aD ?_;simp [go_sem]
def iW (n:Int):Bool:=decide (n≤0)
theorem aJW (p:Int→Bool):∀(i:Nat) (l:List Int),dU p i l<0∨∃j,j<l.length∧dU p i l=((i+j:Nat):Int)∧p (l.getD j 0)=true∧∀n∈l.take j,p n=false
 |_,[]=>.inl (by simp [dU])
 |i,n :: l=>by
  rw [dU];cases h:p n with
  |true=>exact .inr ⟨0,by simp,by simp,by simpa using h,by simp⟩
  |false=>
   rcases aJW p (i+1) l with h1 | ⟨j,hj,h1,h2,h3⟩
   ·exact .inl (by simpa using h1)
   ·refine .inr ⟨j+1,by simpa using hj,?_,by simpa using h2,?_⟩
    ·rw [if_neg (by simp),h1];omega
    ·intro m hm;rw [List.take_succ_cons] at hm;rcases List.mem_cons.1 hm with rfl | hm
     ·exact h
     ·exact h3 m hm
def rP:Nat→List Int→Int→Bool→List (List Int)→List (List Int)×Int
 |0,_,_,_,_=>([],2)
 |f+1,t,last,order,acc=>
  if dU iW 0 t<0 then (if (order||decide (t.getD 0 0≤last))=true then ([],8) else (acc++[t],0))
  else if dU iW 0 t=0∨t.getD (dU iW 0 t).toNat 0<0∨dU iW 0 t=(t.length:Int)-1 then ([],2)
  else rP f (t.drop ((dU iW 0 t).toNat+1)) (t.getD 0 0) (order||decide (t.getD 0 0≤last)) (acc++[t.take (dU iW 0 t).toNat])
def mW (t:List Int):List (List Int)×Int:=if t.length=0 then ([],0) else rP (t.length+1) t 0 false []
theorem aXN (n:Int):Pure P 184 [.i n] (.b (iW n)):=by
 refine aW Tryz.func184 rfl rfl (by simp [Tryz.f184]) (by simp [aE,aE.bndL]) (by simp [aE,aE.bndL]) fun B hB hnx=>?_
 simp only [Tryz.f184] at hB ⊢;refine aD ?_;simp [go_sem,iW]
theorem bDS (t:List Int) (ht:t.length<2^31):Pure P 137 [.t (.sl (aJ t))] (.tup [.agg [.t (.sl ((mW t).1.map aY))],.i (mW t).2]):=by
 generalize hR:mW t=R;have hil:(aJ t).length=t.length:=List.length_map _;refine aW Tryz.func137 rfl rfl (by simp [Tryz.f137]) (by simp [aE,aE.bndL]) (by simp [aE,aE.bndL]) fun B hB hnx=>?_
 simp only [Tryz.f137] at hB ⊢;rw [mW] at hR;refine aD ?_;simp [go_sem];refine aAR (α:=Unit) (fun _=>0) (fun _=>False) (fun _=>⟨fun _=>.any,dR,0⟩) (fun _=>0) (fun _ h=>h.elim) ?_ (fun _ h=>h.elim);by_cases c0:t.length=0
 ·rw [if_pos c0] at hR;subst hR;refine aD ?_;simp [go_sem,hil,c0]
 rw [if_neg c0] at hR;refine aD ?_;simp [go_sem,hil,c0];refine aL rfl rfl rfl (args:=[.t (.sl (aJ t))]) (f:=93) (by simp [go_sem]) (by simp [go_sem,hB]) (sF t (by omega) _ _) ?_;refine aD ?_;simp [go_sem]
 refine bA (α:=Nat×List Int×Int×Bool×List (List Int)×(Nat→aG)×Nat×Nat) (fun (f,t',last,order,acc,σ,nx,q)=>t'.length≠0∧t'.length<f∧acc.length+t'.length≤t.length∧rP f t' last order acc=R∧σ 0= .box [.fsl []]∧σ 1= .box [.ref q]∧σ q= .arr 1 (acc.map aY)∧1<q∧q<nx)
  (fun (f,t',last,order,acc,σ,nx,q)=>⟨sl [(0,.t (.sl (aJ t'))),(2,.ptr 0 0),(4,.ptr 1 0),(5,.b order),(6,.i last)],σ,nx⟩) (fun a=>a.1) (t.length+1,t,0,false,[],_,4,3) ?_
  ((aH.freeze (q:=2) (sz:=1) (es:=aJ t) (by simp [go_sem])).trans ((aH.ownB (b:=1) (off:=0) (sz:=1) (cs:=[.fsl []]) (by simp [go_sem,dC,bB,bB.frzL]) rfl).trans (aH.slots (by simp [go_sem,bB]) rfl rfl))) ?_
 ·exact ⟨c0,by omega,by simp,hR,by simp [aB,dC,bB,bB.frzL],by simp [aB],by simp [aB],by omega,by omega⟩
 rintro ⟨f,t',last,order,acc,σ,nx,q⟩ ⟨g1,g2,g3,g4,g5,g6,g7,g8,g9⟩;obtain ⟨f,rfl⟩:∃f',f=f'+1:=⟨f-1,by omega⟩;have hil2:(aJ t').length=t'.length:=List.length_map _;have hlt0:0<t'.length:=by omega
 have hix:=aJ3 t' iW 184 (by omega) aXN;have hat:=aJW iW 0 t';rw [rP] at g4;have hhd:t'.getD 0 0=t'[0]'hlt0:=by rw [List.getD_eq_getElem?_getD,List.getElem?_eq_getElem hlt0];rfl
 have hget0:=gH t' (i:=0) hlt0;rw [hhd] at g4;generalize dU iW 0 t'=e at *;refine aD ?_;simp [go_sem,hil2];refine aL rfl rfl rfl (args:=[.t (.sl (aJ t')),.fn (.func 184) [] []]) (f:=183) (by simp [go_sem]) (by simp [go_sem,hB]) ((hix).spec _ _) ?_;have hm1:(acc.map aY).length+1≤bH:=by rw [List.length_map];show _≤4294967296;omega
 have hm2:acc.length+1≤bH:=by show _≤4294967296;omega
 have hone:∀y∈aJ t',y.length=1:=by intro y hy;simp only [aJ,List.mem_map] at hy;obtain ⟨n,_,rfl⟩:=hy;rfl
 have htl:List.take t'.length (aJ t')=aJ t':=by rw [←hil2,List.take_length]
 by_cases c1:e<0
 ·rw [if_pos c1] at g4;cases order<;>by_cases c2:t'[0]≤last
  all_goals
   simp only [c2,Bool.false_or,Bool.true_or,decide_true,decide_false,if_true,Bool.false_eq_true,if_false] at g4;subst g4;refine aD ?_;simp [go_sem,c1,hil2,hlt0,hget0,c2];refine gQ [7,9] rfl (by rw [hB];kernel_rfl) (by kernel_rfl) fun ht=>?_
   refine aD ?_;simp [go_sem,ht,hil2,g5,g6,g7,hm1,hm2,if_pos hone,hone,htl,show ¬1=nx by omega,show ¬1=q by omega,show ¬0=nx by omega,show ¬0=q by omega,show ¬nx=0 by omega,show ¬nx=1 by omega,aY]
 ·rw [if_neg c1] at g4;obtain ⟨j,hj,rfl,k2,k3⟩:=hat.resolve_left c1;have hgetj:=gH t' hj;have hge:t'.getD j 0=t'[j]:=by rw [List.getD_eq_getElem?_getD,List.getElem?_eq_getElem hj];rfl
  simp only [Nat.zero_add,Int.toNat_natCast] at g4 c1 ⊢;rw [hge] at g4;have hjI:(j:Int)<t'.length:=by omega
  have hjle:j≤t'.length:=by omega
  have htj:List.take j (aJ t')=aJ (t'.take j):=by simp [aJ,List.map_take]
  have hdj:List.drop (j+1) (aJ t')=aJ (t'.drop (j+1)):=by simp [aJ,List.map_drop]
  have wj:IntKind.i64.wrap ((j:Int)+1)=((j+1:Nat):Int):=by rw [aO _ (by omega)];rfl
  have w1:=aO ((t'.length:Int)-1) (by omega);by_cases d1:j=0
  ·rw [if_pos (.inl (by omega))] at g4;subst g4;refine aD ?_;simp [go_sem,c1,hil2,d1,g5]
  by_cases d2:t'[j]<0
  ·rw [if_pos (.inr (.inl d2))] at g4;subst g4;refine aD ?_;simp [go_sem,c1,hil2,d1,hj,hgetj,d2,g5]
  by_cases d3:(j:Int)=(t'.length:Int)-1
  ·rw [if_pos (.inr (.inr d3))] at g4;subst g4;have hv:IntKind.i64.wrap ((t'.length:Int)-1)=j:=by rw [w1];omega
   refine aD ?_;simp [go_sem,c1,hil2,d1,hj,hgetj,d2,hv,g5]
  rw [if_neg (by omega)] at g4;refine aD ?_;simp [go_sem,c1,hil2,d1,hj,hgetj,d2,w1,d3];cases order<;>by_cases c2:t'[0]≤last
  all_goals
   simp only [c2,Bool.false_or,Bool.true_or,decide_true,decide_false] at g4;simp [go_sem,c1,hil2,hlt0,hget0,c2];refine gQ [7,9] rfl (by rw [hB];kernel_rfl) (by kernel_rfl) fun ht=>?_
   refine aD ?_;simp [go_sem,ht,hil2,g5,g6,g7,hm1,hm2,if_pos hone,hone,hjle,htj,hdj,show ¬1=nx by omega,show ¬1=q by omega,show ¬0=nx by omega,show ¬0=q by omega,show ¬j=t'.length by omega,wj,show 0≤(j:Int)+1 by omega,show (j:Int)+1≤t'.length by omega];refine Next.mk (f,t'.drop (j+1),t'[0],_,acc++[t'.take j],_,nx+1,nx) ⟨?_,?_,?_,g4,?_,?_,?_,?_,?_⟩ (aH.slots (by simp [go_sem,hdj,c2]) rfl rfl) (by simp only;omega)
   ·simp only [List.drop_eq_nil_iff];omega
   ·simp only [List.length_drop];omega
   ·simp only [List.length_drop,List.length_append,List.length_cons,List.length_nil];omega
   ·simp [aB,show ¬0=nx by omega,show ¬0=q by omega,g5]
   ·simp [aB]
   ·simp [aB,show ¬nx=1 by omega,aY]
   ·simp only;omega
   ·simp only;omega
structure kW (x:aA) (p m0:Nat) (s:aF) (c:dI) (k:Nat):Prop where
 spot:c.spot=s.spot
 now:c.now=s.time
 load:c.load=s.load
 on:c.on=s.on
 seen:∀i,1≤i→i≤2*p→s.must.testBit i=(m0.testBit i||c.seen.testBit i)
 old:∀i,1≤i→i≤p→m0.testBit i=true→m0.testBit (i+p)=true
 fit:c.Fit p k
 good:kA x p s
theorem kW.step {x:aA} {p m0 k:Nat} {s:aF} {c:dI} {j:Int} (hx:x.Fit p) (h:kW x p m0 s c k) (hj:j≠0) (hm:(x.move s j).2.2=true):
  (x.visitC c j).2=0∧kW x p m0 (x.move s j).1 (x.visitC c j).1 (k+1)∧(x.visitC c j).1.gone=c.gone+(x.move s j).2.1:=by
 obtain ⟨g1,g2,g3,g4,g5,g6⟩:=pJ hx h.good hm;obtain ⟨m1,m2,m3,m4,m5,m6,m7,m8⟩:=iY hm hj;have hp:=hx.pairs;have hfew:=hx.few;obtain ⟨i,rfl⟩:∃i:Nat,j=i:=⟨j.toNat,by omega⟩;simp only [aA.lateB,Bool.or_eq_false_iff,decide_eq_false_iff_not] at m5;rw [iT (by omega)] at m5;have hs:=h.seen i (by omega) (by omega);rw [m5.1] at hs
 have hv:x.visitsE c i=0:=by
  rw [aA.visitsE,if_neg (by omega),if_neg,if_neg,if_neg]
  ·rw [h.load];by_cases hi:(i:Int)≤x.pairs
   ·have:=m6 hi;simp only [aA.fullB,Bool.or_eq_false_iff,decide_eq_false_iff_not] at this;omega
   ·have hb:=hx.bring (k:=i-p) (by omega) (by omega);have ht:=hx.take (k:=i-p) (by omega) (by omega);have hr:=h.good.room;rw [show i-p+p=i by omega] at hb;omega
  ·rintro ⟨hi,hq⟩;have:=m7 hi;simp only [aA.emptyB,Bool.or_eq_false_iff,Bool.not_eq_false',decide_eq_false_iff_not] at this;have e:(i:Int)-x.pairs=((i-p:Nat):Int):=by omega
   rw [e] at this hq;rw [iT (by omega),h.good.eq] at this;rw [iT (by omega)] at hq;have h1:=h.seen (i-p) (by omega) (by omega);rw [this.2,hq,Bool.or_false] at h1;have h2:=h.old (i-p) (by omega) (by omega) h1.symm;rw [show i-p+p=i by omega] at h2;rw [h2] at hs;cases hs
  ·rw [iT (by omega)];intro hq;rw [hq,Bool.or_true] at hs;cases hs
 have hfar:x.visitC c i=({spot:=i,now:=x.begins s i+(x.stop i).service,gone:=c.gone+bL (x.stop s.spot) (x.stop i),load:=s.load+(x.stop i).demand,seen:=cL c.seen i,on:=if (i:Int)≤x.pairs then cL s.on i else i9 s.on (i-x.pairs),times:=c.times++[[.i (s.time+bL (x.stop s.spot) (x.stop i)),.i (x.begins s i),.i (x.begins s i+(x.stop i).service)]],loads:=c.loads++[s.load+(x.stop i).demand]},0):=by
  rw [aA.visitC,if_neg (by simp [hv]),h.spot,h.now,h.load,h.on,if_neg]
  ·rfl
  ·have:=m5.2;unfold aA.begins at this;exact this
 have hfit:=aFJ hx h.fit (i:=i) (by rw [hfar]);rw [hfar] at hfit ⊢;rw [if_pos (by omega)] at g4 g6;refine ⟨rfl,⟨?_,?_,?_,?_,?_,h.old,hfit,g1⟩,?_⟩
 ·rw [m8];rfl
 ·rw [m8];rfl
 ·rw [g6]
 ·rw [m8];rfl
 ·intro n n1 n2;rw [g4,i8 (by omega),i8 (by omega),h.seen n n1 n2,Bool.or_assoc]
 ·rw [m8]
def jO (p must:Nat) (seen:List Int):Prop:=seen.length=2*p+1∧∀i (h:i<seen.length),seen[i]=if 1≤i∧must.testBit i=true then 1 else 0
theorem jO.bump {p must:Nat} {seen:List Int} (h:jO p must seen) {j:Nat} (h1:1≤j) (h2:j≤2*p) (h64:j≤63) (hn:must.testBit j=false):jO p (cL must j) (bump seen j):=by
 obtain ⟨hl,hs⟩:=h;refine ⟨by rw [uM];exact hl,fun i hi=>?_⟩;have hi':i<seen.length:=by rw [uM] at hi;exact hi
 have e:seen.getD j 0=seen[j]:=by rw [List.getD_eq_getElem?_getD,List.getElem?_eq_getElem (by omega)];rfl
 have h0:=hs j (by omega);rw [if_neg (by simp [hn])] at h0;simp only [Go.Proofs.YtnoifgjiipgpoaaGreatDoor.bump,Int.toNat_natCast,e,h0,List.getElem_set,i8 h64];by_cases hji:j=i
 ·subst hji;simp [h1]
 ·rw [if_neg hji,hs i hi'];simp [hji]
theorem jO.end {p must:Nat} {seen:List Int} (h:jO p must seen) (ha:∀i,1≤i→i≤2*p→must.testBit i=true):(seen.any fun n=>decide (1<n))=false∧((seen.drop 1).any fun n=>decide (n=0))=false:=by
 obtain ⟨hl,hs⟩:=h;constructor
 ·rw [List.any_eq_false];intro n hn;obtain ⟨i,hi,rfl⟩:=List.mem_iff_getElem.1 hn;rw [hs i hi];split<;>simp
 ·rw [List.any_eq_false];intro n hn;obtain ⟨i,hi,rfl⟩:=List.mem_iff_getElem.1 hn;rw [List.getElem_drop,hs (1+i) (by rw [List.length_drop] at hi;omega),if_pos ⟨by omega,ha _ (by omega) (by rw [List.length_drop] at hi;omega)⟩];simp
theorem zQ {x:aA} {i:Int} {r:List Int} {c:dI} (h:(x.visitC c i).2=0):x.runC (i :: r) c=x.runC r (x.visitC c i).1:=by rw [aA.runC,if_neg (by simp [h])]
theorem aNY {x:aA} {p m0:Nat} (hx:x.Fit p) (h0:x.pairs≠0):∀(path:List Int) (s:aF) (c:dI) (k:Nat) (d:Int),kW x p m0 s c k→s.spot≠0→x.way path s d→
  ∃r rest c',path=r++rest∧(∀i∈r,0<i)∧x.runC r c=(c',0)∧
   ((rest=[]∧d=c'.gone-c.gone∧∀seen,jO p s.must seen→∃must,jO p must (r.foldl bump seen)∧∀i,1≤i→i≤2*p→must.testBit i=true)∨
    (∃path' s' d',rest=0 :: path'∧d=c'.gone-c.gone+d'∧x.way path' s' d'∧s'.spot=0∧s'.on=0∧s'.load=0∧s'.time=(x.stop 0).ready∧s'.first=s.first∧s'.car=s.car+1∧s.car<x.cars∧kA x p s'∧∀seen,jO p s.must seen→jO p s'.must (r.foldl bump seen)))
 |[],s,c,k,d,hs,hsp,hw=>by
  obtain ⟨w1,w2⟩:=hw;obtain ⟨e1,e2 | ⟨e2,e3,e4,e5,e6,e7⟩⟩:=sH w1
  ·exact absurd e2.1 h0
  ·refine ⟨[],[],x.drive c 0,rfl,by simp,?_,.inl ⟨rfl,?_,fun seen hm=>⟨s.must,hm,fun i i1 i2=>?_⟩⟩⟩
   ·rw [aA.runC,aA.homeC,hs.on,hs.now,hs.spot,if_neg (by simp [e4]),if_neg (by omega)]
   ·rw [w2,e7];show _=c.gone+bL (x.stop c.spot) (x.stop 0)-c.gone;rw [hs.spot];simp only;omega
   ·rw [←hs.good.eq];exact aA.all_bit hx e5 i1 i2
 |j :: path,s,c,k,d,hs,hsp,hw=>by
  obtain ⟨w1,d',w2,w3⟩:=hw;by_cases hj:j=0
  ·subst hj;obtain ⟨g1,g2,g3,g4⟩:=lD w1;have hgs:=(pJ hx hs.good w1).1;simp only [aA.stayB,Bool.or_eq_false_iff,decide_eq_false_iff_not] at g3;obtain ⟨⟨⟨⟨a1,a2⟩,a3⟩,a4⟩,a5⟩:=g3;rw [g4] at w2 w3 hgs;have hon:s.on=0:=by omega
   refine ⟨[],0 :: path,x.drive c 0,rfl,by simp,?_,.inr ⟨path,x.homeS s,d',rfl,?_,w2,rfl,hon,rfl,rfl,rfl,rfl,by omega,hgs,fun seen hm=>hm⟩⟩
   ·rw [aA.runC,aA.homeC,hs.on,hs.now,hs.spot,if_neg (by simp [hon]),if_neg (by omega)]
   ·show _=c.gone+bL (x.stop c.spot) (x.stop 0)-c.gone+d';rw [hs.spot,w3];simp only;omega
  ·obtain ⟨v1,v2,v3⟩:=hs.step hx hj w1;obtain ⟨b1,b2,b3,b4,_,_⟩:=pJ hx hs.good w1;obtain ⟨_,_,p3,p4,p5,_,_,m8⟩:=iY w1 hj;have hfew:=hx.few;rw [if_pos p3] at b4;have hsp':(x.move s j).1.spot≠0:=by rw [m8];exact hj
   have hfi:(x.move s j).1.first=s.first:=by rw [m8];show (if s.spot=0 then j else s.first)=s.first;rw [if_neg hsp]
   have hca:(x.move s j).1.car=s.car:=by rw [m8];rfl
   obtain ⟨r,rest,c',q1,q2,q3,q4⟩:=aNY hx h0 path _ _ _ d' v2 hsp' w2;have hmt:∀seen,jO p s.must seen→jO p (x.move s j).1.must (bump seen j):=fun seen hm=>by obtain ⟨i,rfl⟩:∃i:Nat,j=i:=⟨j.toNat,by omega⟩;simp only [aA.lateB,Bool.or_eq_false_iff] at p5;have:=p5.1;rw [iT (by omega)] at this;rw [b4];exact hm.bump (by omega) (by omega) (by omega) this
   refine ⟨j :: r,rest,c',by rw [q1];rfl,fun i hi=>?_,by rw [zQ v1];exact q3,?_⟩
   ·rcases List.mem_cons.1 hi with rfl | hi
    ·exact p3
    ·exact q2 i hi
   ·rcases q4 with ⟨t1,t2,t3⟩ | ⟨path',s',d2,t1,t2,t3,t4,t5,t6,t7,t8,t9,t10,t11,t12⟩
    ·exact .inl ⟨t1,by omega,fun seen hm=>t3 _ (hmt seen hm)⟩
    ·exact .inr ⟨path',s',d2,t1,by omega,t3,t4,t5,t6,t7,by rw [t8,hfi],by rw [t9,hca],by omega,t11,fun seen hm=>t12 _ (hmt seen hm)⟩
theorem aJ0:∀(l:List Int) (k:Nat),(∀i∈l,0<i)→dU iW k l= -1
 |[],_,_=>rfl
 |i :: l,k,h=>by have:=h i List.mem_cons_self;rw [dU,if_neg (by simp [iW];omega)];exact aJ0 l (k+1) fun j hj=>h j (List.mem_cons_of_mem _ hj)
theorem aJ1:∀(l m:List Int) (k:Nat),(∀i∈l,0<i)→dU iW k (l++0 :: m)=((k+l.length:Nat):Int)
 |[],m,k,_=>by rw [List.nil_append,dU,if_pos (by simp [iW])];simp
 |i :: l,m,k,h=>by have:=h i List.mem_cons_self;rw [List.cons_append,dU,if_neg (by simp [iW];omega),aJ1 l m (k+1) fun j hj=>h j (List.mem_cons_of_mem _ hj),List.length_cons];congr 1;omega
theorem aPY {x:aA} {p:Nat} (hx:x.Fit p) (hm:x.may=true) (h0:x.pairs≠0):∀(f:Nat) (path:List Int) (s:aF) (d:Int) (acc:List (List Int)),path.length<f→s.spot=0→s.on=0→s.load=0→s.time=(x.stop 0).ready→kA x p s→x.way path s d→
  path≠[]∧∃routes,rP f path s.first false acc=(acc++routes,0)∧(routes.length:Int)+s.car≤x.cars+1∧∀all seen,jO p s.must seen→x.costGo routes all seen=(all+d,0)
 |0,path,s,d,acc,hf,_,_,_,_,_,_=>absurd hf (by omega)
 |f+1,[],s,d,acc,_,hsp,_,_,_,_,hw=>by
  obtain ⟨w1,w2⟩:=hw;obtain ⟨e1,e2 | ⟨e2,e3,_⟩⟩:=sH w1
  ·exact absurd e2.1 h0
  ·exact absurd hsp e3
 |f+1,j :: path,s,d,acc,hf,hsp,hon,hld,hti,hg,hw=>by
  refine ⟨by simp,?_⟩;obtain ⟨w1,d1,w2,w3⟩:=hw;have hj:j≠0:=by intro e;subst e;obtain ⟨_,_,g3,_⟩:=lD w1;simp [aA.stayB,hsp] at g3
  have hs:kW x p s.must s x.car0 0:=by refine ⟨hsp.symm,hti.symm,hld.symm,hon.symm,fun i _ _=>by simp [aA.car0],fun i i1 i2 h=>?_,xQ hx,hg⟩;have:=hg.on i i1 i2;rw [hon,Nat.zero_testBit,h] at this;simpa using this.symm
  obtain ⟨v1,v2,v3⟩:=hs.step hx hj w1;obtain ⟨b1,b2,b3,b4,_,_⟩:=pJ hx hg w1;obtain ⟨_,hmay,p3,p4,p5,p6,p7,m8⟩:=iY w1 hj;have hfew:=hx.few;have hp:=hx.pairs;rw [if_pos p3] at b4
  have hjp:j≤x.pairs:=by
   by_cases c:j≤x.pairs
   ·exact c
   ·have:=p7 (by omega);simp [aA.emptyB,hsp] at this
  have hfirst:s.first<j:=by
   have:=p6 hjp;simp only [aA.fullB,Bool.or_eq_false_iff,Bool.and_eq_false_iff,decide_eq_false_iff_not] at this;rcases this.2 with h | h
   ·exact absurd hsp h
   ·omega
  have hsp':(x.move s j).1.spot≠0:=by rw [m8];exact hj
  have hfi:(x.move s j).1.first=j:=by rw [m8];show (if s.spot=0 then j else s.first)=j;rw [if_pos hsp]
  have hca:(x.move s j).1.car=s.car:=by rw [m8];rfl
  have hmt:∀seen,jO p s.must seen→jO p (x.move s j).1.must (bump seen j):=fun seen hm=>by obtain ⟨i,rfl⟩:∃i:Nat,j=i:=⟨j.toNat,by omega⟩;simp only [aA.lateB,Bool.or_eq_false_iff] at p5;have:=p5.1;rw [iT (by omega)] at this;rw [b4];exact hm.bump (by omega) (by omega) (by omega) this
  obtain ⟨r,rest,c',q1,q2,q3,q4⟩:=aNY hx h0 path _ _ _ d1 v2 hsp' w2
  have hpos:∀i∈j :: r,0<i:=fun i hi=>by
   rcases List.mem_cons.1 hi with rfl | hi
   ·exact p3
   ·exact q2 i hi
  have hrun:x.runC (j :: r) x.car0=(c',0):=by rw [zQ v1];exact q3
  have htimes:x.times (j :: r)=(c'.times,c'.gone,0):=by rw [aA.times,if_neg (by simp [hm]),hrun];rfl
  have hg0:x.car0.gone=0:=rfl;have hcgo:∀rs all seen,x.costGo ((j :: r) :: rs) all seen=x.costGo rs (all+c'.gone) (r.foldl bump (bump seen j)):=fun rs all seen=>by rw [aA.costGo,if_neg (by simp),htimes];simp
  rw [List.length_cons] at hf;have hsc:=s.fit hx hmay;have hlast:(false||decide (j≤s.first))=false:=by rw [Bool.false_or];exact decide_eq_false (by omega)
  rcases q4 with ⟨t1,t2,t3⟩ | ⟨path',s',d2,t1,t2,t3,t4,t5,t6,t7,t8,t9,t10,t11,t12⟩
  ·subst t1;rw [List.append_nil] at q1;subst q1;refine ⟨[j :: path],?_,?_,?_⟩
   ·rw [rP,if_pos (by rw [aJ0 _ 0 hpos];omega),List.getD_cons_zero,hlast];rfl
   ·have:=hsc.car;simp only [List.length_cons,List.length_nil];omega
   ·intro all seen hms;obtain ⟨must,k1,k2⟩:=t3 _ (hmt seen hms);obtain ⟨k3,k4⟩:=k1.end k2;rw [hcgo,aA.costGo,k3,k4];simp only [Bool.false_eq_true,if_false];congr 1;omega
  ·subst t1;subst q1;rw [List.length_append,List.length_cons] at hf;obtain ⟨y1,routes,y2,y3,y4⟩:=aPY hx hm h0 f path' s' d2 (acc++[j :: r]) (by omega) t4 t5 t6 t7 t11 t3;have hlen':path'.length≠0:=fun e=>y1 (List.eq_nil_of_length_eq_zero e)
   have hidx:dU iW 0 (j :: (r++0 :: path'))=((0+(j :: r).length:Nat):Int):=aJ1 (j :: r) path' 0 hpos;rw [Nat.zero_add] at hidx;refine ⟨(j :: r) :: routes,?_,?_,?_⟩
   ·rw [rP,hidx,if_neg (by omega),if_neg,Int.toNat_natCast,List.getD_cons_zero,hlast]
    ·have e1:(j :: (r++0 :: path')).drop ((j :: r).length+1)=path':=by
      have:(j :: (r++0 :: path'))=(j :: r++[0])++path':=by simp
      rw [this,List.drop_left' (by simp)]
     have e2:(j :: (r++0 :: path')).take (j :: r).length=j :: r:=by
      have:(j :: (r++0 :: path'))=(j :: r)++(0 :: path'):=by simp
      rw [this,List.take_left' rfl]
     rw [e1,e2];rw [t8,hfi] at y2;rw [y2,List.append_assoc];rfl
    ·have e3:(j :: (r++0 :: path')).getD ((j :: r).length:Int).toNat 0=0:=by
      have:(j :: (r++0 :: path'))=(j :: r)++(0 :: path'):=by simp
      rw [Int.toNat_natCast,this,List.getD_eq_getElem?_getD,List.getElem?_append_right (Nat.le_refl _)];simp
     rw [e3];simp only [List.length_cons,List.length_append];omega
   ·rw [t9,hca] at y3;simp only [List.length_cons];omega
   ·intro all seen hms;rw [hcgo,y4 _ _ (t12 _ (hmt seen hms))];congr 1;omega
theorem bE6 {x:aA} (hm:x.may=true) {path:List Int} {d:Int} (hw:x.way path x.rootS d):(mW path).2=0∧x.cost (mW path).1=(d,0):=by
 obtain ⟨p,hx⟩:=x.fit hm;have hp:=hx.pairs;have hc:=hx.cars;have hroot:x.rootS={aF.zero with car:=1,time:=(x.stop 0).ready}:=by rw [aA.rootS,if_pos hm]
 have hms:jO p 0 (List.replicate (2*x.pairs+1).toNat 0):=by refine ⟨by rw [List.length_replicate];omega,fun i hi=>?_⟩;simp
 by_cases h0:x.pairs=0
 ·match path,hw with
  |[],hw=>
   have hd:d=0:=by
    obtain ⟨e1,e2 | ⟨e2,e3,_⟩⟩:=sH hw.1
    ·rw [hw.2,e2.2.2]
    ·rw [hroot] at e3;exact absurd rfl e3
   have e:mW []=([],0):=rfl;rw [e];refine ⟨rfl,?_⟩;obtain ⟨k3,k4⟩:=hms.end (fun i i1 i2=>by omega);rw [aA.cost,if_neg (by simp [hm]),if_neg (by simp only [List.length_nil];omega),aA.costGo,k3,k4,hd];simp
  |j :: path,hw=>exact absurd h0 (aDA hw.1)
 ·obtain ⟨y1,routes,y2,y3,y4⟩:=aPY hx hm h0 (path.length+1) path x.rootS d [] (by omega) (by rw [hroot];rfl) (by rw [hroot];rfl) (by rw [hroot];rfl) (by rw [hroot]) (aCH hx hm) hw;have hf:x.rootS.first=0:=by rw [hroot];rfl
  have hca:x.rootS.car=1:=by rw [hroot]
  have hmu:x.rootS.must=0:=by rw [hroot];rfl
  rw [hf] at y2;rw [hca] at y3;rw [hmu] at y4;have hne:¬path.length=0:=fun e=>y1 (List.eq_nil_of_length_eq_zero e)
  rw [mW,if_neg hne,y2];refine ⟨rfl,?_⟩;show x.cost ([]++routes)=(d,0);rw [List.nil_append,aA.cost,if_neg (by simp [hm]),if_neg (by omega),y4 _ _ hms];simp
def aA.gones (x:aA):List (List Int)→Int
 |[]=>0
 |r :: rs=>(x.times r).2.1+x.gones rs
theorem aJP (x:aA) {a b:List (List Int)} (h:a.Perm b):x.gones a=x.gones b:=by
 induction h with
 |nil=>rfl
 |cons r _ ih=>simp only [aA.gones,ih]
 |swap r s l=>simp only [aA.gones];omega
 |trans _ _ h1 h2=>exact h1.trans h2
structure uC (x:aA) (p:Nat) (rs:List (List Int)):Prop where
 cars:(rs.length:Int)≤x.cars
 each:∀r∈rs,r≠[]∧(x.times r).2.2=0
 once:rs.flatten.Nodup
 all:∀i:Nat,1≤i→i≤2*p→(i:Int)∈rs.flatten
theorem uC.perm {x:aA} {p:Nat} {a b:List (List Int)} (h:uC x p a) (hp:a.Perm b):uC x p b:=
 ⟨by rw [←hp.length_eq];exact h.cars,fun r hr=>h.each r (hp.mem_iff.2 hr),(hp.flatten.nodup_iff).1 h.once,fun i h1 h2=>(hp.flatten.mem_iff).1 (h.all i h1 h2)⟩
theorem aBI {i:Nat}:∀(r:List Int) (s:List Int) (h:i<s.length),(∀j∈r,0≤j)→(r.foldl bump s)[i]'(by rw [qU];exact h)=s[i]+(r.count (i:Int):Nat)
 |[],s,h,_=>by simp
 |j :: r,s,h,hr=>by
  have h0:=hr j List.mem_cons_self;have ih:=aBI r (bump s j) (by rw [uM];exact h) fun k hk=>hr k (List.mem_cons_of_mem _ hk)
  simp only [List.foldl_cons];rw [ih,List.count_cons];simp only [bump,List.getElem_set];by_cases e:j.toNat=i
  ·have e2:j=(i:Int):=by omega
   have e3:s.getD j.toNat 0=s[i]:=by rw [e,List.getD_eq_getElem?_getD,List.getElem?_eq_getElem h];rfl
   rw [if_pos e,e3,e2];simp only [beq_self_eq_true,if_true];omega
  ·have e2:¬j=(i:Int):=by omega
   rw [if_neg e];simp [e2]
theorem aHL {x:aA} {p:Nat} (hx:x.Fit p) (hm:x.may=true):∀(rs:List (List Int)) (all:Int) (seen:List Int) {c:Int},seen.length=2*p+1→x.costGo rs all seen=(c,0)→
  c=all+x.gones rs∧(∀r∈rs,r≠[]∧(x.times r).2.2=0)∧((rs.flatten.foldl bump seen).any fun n=>decide (1<n))=false∧(((rs.flatten.foldl bump seen).drop 1).any fun n=>decide (n=0))=false
 |[],all,seen,c,hs,h=>by
  rw [aA.costGo] at h;split at h
  ·cases h
  split at h
  ·cases h
  rename_i h1 h2;simp only [Prod.mk.injEq,and_true] at h;exact ⟨by simp only [aA.gones];omega,by simp,(Bool.not_eq_true _).mp h1,(Bool.not_eq_true _).mp h2⟩
 |r :: rs,all,seen,c,hs,h=>by
  rw [aA.costGo] at h;split at h
  ·cases h
  split at h
  ·rename_i h1 h2;simp only [Prod.mk.injEq] at h;exact absurd h.2 h2
  rename_i h1 h2;obtain ⟨g1,g2,g3,g4⟩:=aHL hx hm rs _ _ (by rw [qU];exact hs) h;refine ⟨by simp only [aA.gones];omega,fun q hq=>?_,by rw [List.flatten_cons,List.foldl_append];exact g3,by rw [List.flatten_cons,List.foldl_append];exact g4⟩;rcases List.mem_cons.1 hq with rfl | hq
  ·exact ⟨fun e=>h1 (by rw [e];rfl),by simpa using h2⟩
  ·exact g2 q hq
theorem xT {x:aA} {p:Nat} (hx:x.Fit p) (hm:x.may=true) {rs:List (List Int)} {c:Int} (h:x.cost rs=(c,0)):uC x p rs∧c=x.gones rs:=by
 have hp:=hx.pairs;rw [aA.cost,if_neg (by simp [hm])] at h;split at h
 ·cases h
 rename_i hc;have hlen:(List.replicate (2*x.pairs+1).toNat (0:Int)).length=2*p+1:=by rw [List.length_replicate];omega
 obtain ⟨g1,g2,g3,g4⟩:=aHL hx hm rs _ _ hlen h;have hstop:∀i∈rs.flatten,1≤i∧i≤2*p:=fun i hi=>by obtain ⟨r,hr,hir⟩:=List.mem_flatten.1 hi;exact (oT hx hm (g2 r hr).2).1 i hir
 have hcnt:∀i:Nat,(hi:i≤2*p)→(rs.flatten.foldl bump (List.replicate (2*x.pairs+1).toNat 0))[i]'(by rw [qU,hlen];omega)=((rs.flatten.count (i:Int):Nat):Int):=fun i hi=>by rw [aBI _ _ (by rw [hlen];omega) (fun j hj=>by have:=hstop j hj;omega)];simp
 have hfl:=qU rs.flatten (List.replicate (2*x.pairs+1).toNat (0:Int));rw [hlen] at hfl;refine ⟨⟨by omega,g2,?_,?_⟩,by omega⟩
 ·rw [List.nodup_iff_count];intro a;by_cases ha:a∈rs.flatten
  ·obtain ⟨h1,h2⟩:=hstop a ha;obtain ⟨i,rfl⟩:∃i:Nat,a=i:=⟨a.toNat,by omega⟩;have h3:=hcnt i (by omega);rw [List.any_eq_false] at g3;have h4:=g3 _ (List.getElem_mem (l:=rs.flatten.foldl bump (List.replicate (2*x.pairs+1).toNat 0)) (n:=i) (by rw [hfl];omega));rw [h3] at h4;simp only [decide_eq_true_eq] at h4;omega
  ·rw [List.count_eq_zero.2 ha];omega
 ·intro i h1 h2;by_cases ha:(i:Int)∈rs.flatten
  ·exact ha
  ·exfalso;have h3:=hcnt i h2;rw [List.count_eq_zero.2 ha] at h3;rw [List.any_eq_false] at g4;refine g4 _ (List.mem_iff_getElem.2 ⟨i-1,by rw [List.length_drop,hfl];omega,?_⟩) (decide_eq_true rfl);rw [List.getElem_drop];have e:1+(i-1)=i:=by omega
   simp only [e];exact h3
theorem kW.back {x:aA} {p m0 k:Nat} {s:aF} {c:dI} {j:Int} (hx:x.Fit p) (hm:x.may=true) (h:kW x p m0 s c k) (hcar:1≤s.car∧s.car≤x.cars) (hv:(x.visitC c j).2=0) (hn:∀i:Nat,j=i→s.must.testBit i=false) (hf:s.spot=0→c.seen=0∧s.first<j):
  (x.move s j).2.2=true∧0<j:=by
 have hp:=hx.pairs;have hfew:=hx.few;rw [aA.visitC] at hv;split at hv
 ·rename_i hh;exact absurd hv hh
 rename_i hvs;split at hv
 ·cases hv
 rename_i hdue;obtain ⟨k1,k2,k3,k4,k5⟩:=aAD (by simpa using hvs);obtain ⟨i,rfl⟩:∃i:Nat,j=i:=⟨j.toNat,by omega⟩;have hmi:=hn i rfl;have hsum:=vY hx s.on p (Nat.le_refl _);have hmay:s.mayB x=true:=by have h1:=h.fit.spot;have h2:=h.fit.now;have h3:=h.good.load;have h4:=h.good.room;have h5:=hx.room;have h6:=h.spot;have h7:=h.now;simp only [aF.mayB,Bool.and_eq_true,decide_eq_true_eq];omega
 have l1:x.lateB s i=false:=by simp only [aA.lateB,Bool.or_eq_false_iff,decide_eq_false_iff_not];rw [iT (by omega)];refine ⟨hmi,?_⟩;unfold aA.begins;rw [←h.now,←h.spot];omega
 have l2:(i:Int)≤x.pairs→x.fullB s i=false:=fun hi=>by
  simp only [aA.fullB,Bool.or_eq_false_iff,Bool.and_eq_false_iff,decide_eq_false_iff_not];rw [←h.load];refine ⟨by omega,?_⟩;by_cases hs:s.spot=0
  ·have:=hf hs;exact .inr (by omega)
  ·exact .inl hs
 have l3:x.pairs<(i:Int)→x.emptyB s i=false:=fun hi=>by
  have hb:=k4 hi;have e:(i:Int)-x.pairs=((i-p:Nat):Int):=by omega
  rw [e,iT (by omega)] at hb;simp only [aA.emptyB,Bool.or_eq_false_iff,Bool.not_eq_false',decide_eq_false_iff_not];rw [e,iT (by omega),h.good.eq,h.seen (i-p) (by omega) (by omega),hb];refine ⟨fun hs=>?_,by simp⟩;have:=(hf hs).1;rw [this,Nat.zero_testBit] at hb;cases hb
 have hto:=aFD (x:=x) (s:=s) (j:=i) (by omega) l1 l2 l3;have hmv:=yZ (j:=i) hm hmay (by omega) (by rw [hto]);exact ⟨by rw [hmv],by omega⟩
theorem aNX {x:aA} {p m0:Nat} (hx:x.Fit p) (hm:x.may=true):∀(r:List Int) (s:aF) (c:dI) (k:Nat),kW x p m0 s c k→s.spot≠0→(1≤s.car∧s.car≤x.cars)→(x.runC r c).2=0→r.Nodup→(∀i:Nat,(i:Int)∈r→s.must.testBit i=false)→
  ∃s' c1 k',kW x p m0 s' c1 k'∧s'.spot≠0∧s'.car=s.car∧s'.first=s.first∧x.homeC c1=x.runC r c∧(∀i,1≤i→i≤2*p→s'.must.testBit i=(s.must.testBit i||decide ((i:Int)∈r)))∧
   ∀path d,x.way path s' d→x.way (r++path) s (c1.gone-c.gone+d)
 |[],s,c,k,hs,hsp,hcar,hr,_,_=>by
  refine ⟨s,c,k,hs,hsp,rfl,rfl,rfl,fun i _ _=>by simp,fun path d hw=>?_⟩;have:c.gone-c.gone+d=d:=by omega
  rw [this];exact hw
 |j :: r,s,c,k,hs,hsp,hcar,hr,hnd,hdis=>by
  have hv:(x.visitC c j).2=0:=by
   rw [aA.runC] at hr;by_cases c1:(x.visitC c j).2=0
   ·exact c1
   ·rw [if_pos c1] at hr;exact absurd hr c1
  rw [zQ hv] at hr ⊢;rw [List.nodup_cons] at hnd;obtain ⟨b1,b2⟩:=hs.back hx hm hcar hv (fun i e=>hdis i (by rw [e];exact List.mem_cons_self)) (fun h=>absurd h hsp);obtain ⟨v1,v2,v3⟩:=hs.step hx (by omega) b1;obtain ⟨_,_,p3,p4,_,_,_,m8⟩:=iY b1 (by omega);obtain ⟨_,_,_,q4,_,_⟩:=pJ hx hs.good b1;have hfew:=hx.few;have hp:=hx.pairs;rw [if_pos b2] at q4;have e1:(x.move s j).1.car=s.car:=by rw [m8];rfl
  have e2:(x.move s j).1.first=s.first:=by rw [m8];show (if s.spot=0 then j else s.first)=s.first;rw [if_neg hsp]
  have e3:(x.move s j).1.spot≠0:=by rw [m8];show j≠0;omega
  obtain ⟨n,rfl⟩:∃n:Nat,j=n:=⟨j.toNat,by omega⟩;have hbit:∀i,(x.move s (n:Int)).1.must.testBit i=(s.must.testBit i||decide (n=i)):=fun i=>by rw [q4,i8 (by omega)]
  obtain ⟨s',c1,k',g1,g2,g3,g4,g5,g6,g7⟩:=aNX hx hm r _ _ _ v2 e3 (by rw [e1];exact hcar) hr hnd.2 (fun i hi=>by
   rw [hbit,hdis i (List.mem_cons_of_mem _ hi)]
   have:¬n=i:=by rintro rfl;exact hnd.1 hi
   simp [this])
  refine ⟨s',c1,k',g1,g2,by rw [g3,e1],by rw [g4,e2],g5,fun i i1 i2=>?_,fun path d hw=>?_⟩
  ·rw [g6 i i1 i2,hbit,Bool.or_assoc];congr 1;rw [Bool.eq_iff_iff];simp only [Bool.or_eq_true,decide_eq_true_eq,List.mem_cons];constructor
   ·rintro (rfl | h)
    ·exact .inl rfl
    ·exact .inr h
   ·rintro (h | h)
    ·exact .inl (by omega)
    ·exact .inr h
  ·refine ⟨b1,_,g7 path d hw,?_⟩;omega
def iU (r:List Int):Int:=r.getD 0 0
theorem aNW {x:aA} {p:Nat} (hx:x.Fit p) (hm:x.may=true) {r:List Int} {s:aF} (hsp:s.spot=0) (hon:s.on=0) (hld:s.load=0) (hti:s.time=(x.stop 0).ready) (hg:kA x p s) (hc:1≤s.car∧s.car≤x.cars) (hne:r≠[]) (ht:(x.times r).2.2=0) (hnd:r.Nodup)
  (hdis:∀i:Nat,(i:Int)∈r→s.must.testBit i=false) (hfi:s.first<iU r):
  ∃s' c1 k',kW x p s.must s' c1 k'∧s'.spot≠0∧s'.car=s.car∧s'.first=iU r∧(x.homeC c1).2=0∧(x.times r).2.1=(x.homeC c1).1.gone∧(∀i,1≤i→i≤2*p→s'.must.testBit i=(s.must.testBit i||decide ((i:Int)∈r)))∧
   ∀path d,x.way path s' d→x.way (r++path) s (c1.gone+d):=by
 match r,hne with
 |j :: r,_=>
  have hs:kW x p s.must s x.car0 0:=by refine ⟨hsp.symm,hti.symm,hld.symm,hon.symm,fun i _ _=>by simp [aA.car0],fun i i1 i2 h=>?_,xQ hx,hg⟩;have:=hg.on i i1 i2;rw [hon,Nat.zero_testBit,h] at this;simpa using this.symm
  have hrun:(x.runC (j :: r) x.car0).2=0:=by
   rw [aA.times,if_neg (by simp [hm])] at ht;by_cases c1:(x.runC (j :: r) x.car0).2=0
   ·exact c1
   ·rw [if_pos c1] at ht;exact absurd ht c1
  have htm:(x.times (j :: r)).2.1=(x.runC (j :: r) x.car0).1.gone:=by rw [aA.times,if_neg (by simp [hm]),if_neg (by simp [hrun])]
  have hv:(x.visitC x.car0 j).2=0:=by
   rw [aA.runC] at hrun;by_cases c1:(x.visitC x.car0 j).2=0
   ·exact c1
   ·rw [if_pos c1] at hrun;exact absurd hrun c1
  rw [zQ hv] at hrun htm;rw [List.nodup_cons] at hnd;have hhd:iU (j :: r)=j:=rfl;rw [hhd] at hfi ⊢;obtain ⟨b1,b2⟩:=hs.back hx hm hc hv (fun i e=>hdis i (by rw [e];exact List.mem_cons_self)) (fun _=>⟨rfl,hfi⟩);obtain ⟨v1,v2,v3⟩:=hs.step hx (by omega) b1;obtain ⟨_,_,p3,p4,_,_,_,m8⟩:=iY b1 (by omega);obtain ⟨_,_,_,q4,_,_⟩:=pJ hx hg b1;have hfew:=hx.few;have hp:=hx.pairs;rw [if_pos b2] at q4;have e1:(x.move s j).1.car=s.car:=by rw [m8];rfl
  have e2:(x.move s j).1.first=j:=by rw [m8];show (if s.spot=0 then j else s.first)=j;rw [if_pos hsp]
  have e3:(x.move s j).1.spot≠0:=by rw [m8];show j≠0;omega
  have hg0:x.car0.gone=0:=rfl;obtain ⟨n,rfl⟩:∃n:Nat,j=n:=⟨j.toNat,by omega⟩;have hbit:∀i,(x.move s (n:Int)).1.must.testBit i=(s.must.testBit i||decide (n=i)):=fun i=>by rw [q4,i8 (by omega)]
  obtain ⟨s',c1,k',g1,g2,g3,g4,g5,g6,g7⟩:=aNX hx hm r _ _ _ v2 e3 (by rw [e1];exact hc) hrun hnd.2 (fun i hi=>by
   rw [hbit,hdis i (List.mem_cons_of_mem _ hi)]
   have:¬n=i:=by rintro rfl;exact hnd.1 hi
   simp [this])
  refine ⟨s',c1,k',g1,g2,by rw [g3,e1],by rw [g4,e2],by rw [g5];exact hrun,by rw [htm,g5],fun i i1 i2=>?_,fun path d hw=>?_⟩
  ·rw [g6 i i1 i2,hbit,Bool.or_assoc];congr 1;rw [Bool.eq_iff_iff];simp only [Bool.or_eq_true,decide_eq_true_eq,List.mem_cons];constructor
   ·rintro (rfl | h)
    ·exact .inl rfl
    ·exact .inr h
   ·rintro (h | h)
    ·exact .inl (by omega)
    ·exact .inr h
  ·refine ⟨b1,_,g7 path d hw,?_⟩;omega
theorem aJT {x:aA} {c:dI} (h:(x.homeC c).2=0):c.on=0∧c.now+bL (x.stop c.spot) (x.stop 0)≤(x.stop 0).due∧(x.homeC c).1.gone=c.gone+bL (x.stop c.spot) (x.stop 0):=by
 rw [aA.homeC] at h ⊢;by_cases c1:c.on=0
 ·rw [if_neg (by simp [c1])] at h ⊢;by_cases c2:(x.stop 0).due<c.now+bL (x.stop c.spot) (x.stop 0)
  ·rw [if_pos c2] at h;cases h
  ·rw [if_neg c2];exact ⟨c1,by omega,rfl⟩
 ·rw [if_pos c1] at h;cases h
theorem kW.mayB {x:aA} {p m0 k:Nat} {s:aF} {c:dI} (hx:x.Fit p) (h:kW x p m0 s c k) (hcar:1≤s.car∧s.car≤x.cars):s.mayB x=true:=by have hp:=hx.pairs;have hsum:=vY hx s.on p (Nat.le_refl _);have h1:=h.fit.spot;have h2:=h.fit.now;have h3:=h.good.load;have h4:=h.good.room;have h5:=hx.room;have h6:=h.spot;have h7:=h.now;simp only [aF.mayB,Bool.and_eq_true,decide_eq_true_eq];omega
theorem aPD:∀(k:Nat) {i:Nat},(lH k).testBit i=true→1≤i∧i≤k
 |0,i,h=>by simp [lH] at h
 |k+1,i,h=>by
  rw [lH,Nat.testBit_or,Bool.or_eq_true] at h;rcases h with h | h
  ·have:=aPD k h;omega
  ·rw [Nat.testBit_two_pow] at h;have:k+1=i:=by simpa using h
   omega
theorem aQ5 {x:aA} {p t:Nat} (hx:x.Fit p) (h:∀i,1≤i→i≤2*p→t.testBit i=true):x.allB t=true:=by
 rw [aA.allB,dE,List.all_eq_true];intro i hi;have hp:=hx.pairs;have hfew:=hx.few;have hu:(nS (2*x.pairs)).testBit i=true→t.testBit i=true:=fun hb=>by unfold nS at hb;have:=aPD _ hb;exact h i this.1 (by omega)
 cases hb:(nS (2*x.pairs)).testBit i with
 |false=>rfl
 |true=>rw [hu hb];rfl
theorem bHT {x:aA} {p:Nat} (hx:x.Fit p) (hm:x.may=true) (h0:x.pairs≠0):∀(rs:List (List Int)) (r:List Int) (s:aF),s.spot=0→s.on=0→s.load=0→s.time=(x.stop 0).ready→kA x p s→1≤s.car→s.car+rs.length≤x.cars→(∀q∈r :: rs,q≠[]∧(x.times q).2.2=0)→(r :: rs).flatten.Nodup→
  (∀i:Nat,(i:Int)∈(r :: rs).flatten→s.must.testBit i=false)→(∀i:Nat,1≤i→i≤2*p→s.must.testBit i=true∨(i:Int)∈(r :: rs).flatten)→s.first<iU r→(r :: rs).Pairwise (fun a b=>iU a<iU b)→∃path,x.way path s (x.gones (r :: rs)):=by
 intro rs
 induction rs with
 |nil=>
  intro r s hsp hon hld hti hg hc1 hc2 heach hnd hdis hall hfi hpw;obtain ⟨e1,e2⟩:=heach r List.mem_cons_self;simp only [List.flatten_cons,List.flatten_nil,List.append_nil] at hnd hdis hall;obtain ⟨s',c1,k',g1,g2,g3,g4,g5,g6,g7,g8⟩:=aNW hx hm hsp hon hld hti hg ⟨hc1,by simp only [List.length_nil] at hc2;omega⟩ e1 e2 hnd hdis hfi;obtain ⟨a1,a2,a3⟩:=aJT g5
  have hend:x.endS s'=(bL (x.stop s'.spot) (x.stop 0),true):=by
   rw [aA.endS,if_neg (by simp [hm]),if_neg (fun h=>h0 h.1),if_pos];refine ⟨g1.mayB hx (by rw [g3];simp only [List.length_nil] at hc2;omega),g2,by rw [←g1.on];exact a1,aQ5 hx fun i i1 i2=>?_,by rw [←g1.now,←g1.spot];exact a2⟩;rw [g1.good.eq,g7 i i1 i2];rcases hall i i1 i2 with h | h
   ·rw [h];rfl
   ·simp [h]
  have hw:=g8 [] _ (show x.way [] s' (bL (x.stop s'.spot) (x.stop 0)) from ⟨by rw [hend],by rw [hend]⟩);refine ⟨r++[],?_⟩;rw [aA.gones,aA.gones,g6,a3,g1.spot,Int.add_zero];exact hw
 |cons r2 rs ih=>
  intro r s hsp hon hld hti hg hc1 hc2 heach hnd hdis hall hfi hpw;obtain ⟨e1,e2⟩:=heach r List.mem_cons_self;rw [List.flatten_cons] at hnd hdis hall;rw [List.length_cons] at hc2;obtain ⟨n1,n2,n3⟩:=List.nodup_append.1 hnd;obtain ⟨s',c1,k',g1,g2,g3,g4,g5,g6,g7,g8⟩:=aNW hx hm hsp hon hld hti hg ⟨hc1,by omega⟩ e1 e2 n1 (fun i hi=>hdis i (List.mem_append_left _ hi)) hfi;obtain ⟨a1,a2,a3⟩:=aJT g5;rw [List.pairwise_cons] at hpw;obtain ⟨e3,e4⟩:=heach r2 (by simp);have hr2:=oT hx hm e4;obtain ⟨j2,hj2⟩:∃j2,j2∈r2:=List.exists_mem_of_ne_nil _ e3;have hp:=hx.pairs;have hfew:=hx.few;have hmay:=g1.mayB hx (by rw [g3];omega)
  have hstay:x.stayB s'=false:=by
   simp only [aA.stayB,Bool.or_eq_false_iff,decide_eq_false_iff_not];refine ⟨⟨⟨⟨g2,by rw [←g1.on,a1];simp⟩,by rw [g3];omega⟩,?_⟩,by rw [←g1.now,←g1.spot];omega⟩;cases hq:x.allB s'.must with
   |false=>rfl
   |true=>
    exfalso;obtain ⟨i,rfl⟩:∃i:Nat,j2=i:=⟨j2.toNat,by have:=hr2.1 j2 hj2;omega⟩;have hi:=hr2.1 _ hj2;have h1:=aA.all_bit hx hq (i:=i) (by omega) (by omega);have hmem:(i:Int)∈(r2 :: rs).flatten:=by rw [List.flatten_cons];exact List.mem_append_left _ hj2
    rw [g7 i (by omega) (by omega),hdis i (List.mem_append_right _ hmem),Bool.false_or,decide_eq_true_eq] at h1;exact n3 _ h1 _ hmem rfl
  have hto:x.to s' 0=(x.homeS s',true):=by rw [aA.to,if_pos rfl,aA.home,if_neg (by rw [hstay];simp)]
  have hmv:=yZ (j:=0) hm hmay (by omega) (by rw [hto]);rw [hto] at hmv;have hmv1:(x.move s' 0).2.2=true:=by rw [hmv]
  have hgood:=(pJ hx g1.good hmv1).1;rw [hmv] at hgood
  obtain ⟨path,hpath⟩:=ih r2 (x.homeS s') rfl (by show s'.on=0;rw [←g1.on];exact a1) rfl rfl hgood (by show 1≤s'.car+1;omega) (by show s'.car+1+(rs.length:Int)≤x.cars;rw [g3];omega) (fun q hq=>heach q (List.mem_cons_of_mem _ hq)) n2
   (fun i hi=>by
    show s'.must.testBit i=false
    have hi2:1≤i∧i≤2*p:=by
     obtain ⟨q,hq,hiq⟩:=List.mem_flatten.1 hi
     have:=(oT hx hm (heach q (List.mem_cons_of_mem _ hq)).2).1 _ hiq
     omega
    rw [g7 i hi2.1 hi2.2,hdis i (List.mem_append_right _ hi),Bool.false_or]
    exact decide_eq_false fun h=>n3 _ h _ hi rfl)
   (fun i i1 i2=>by
    show s'.must.testBit i=true∨_
    rw [g7 i i1 i2]
    rcases hall i i1 i2 with h | h
    ·exact .inl (by rw [h];rfl)
    ·rcases List.mem_append.1 h with h | h
     ·exact .inl (by simp [h])
     ·exact .inr h)
   (by show s'.first<iU r2;rw [g4];exact hpw.1 r2 (by simp)) hpw.2
  have hw:=g8 (0 :: path) _ (show x.way (0 :: path) s' (bL (x.stop s'.spot) (x.stop 0)+x.gones (r2 :: rs)) from ⟨hmv1,_,by rw [hmv];exact hpath,by rw [hmv]⟩);refine ⟨r++0 :: path,?_⟩;rw [aA.gones,g6,a3,g1.spot];have e:c1.gone+bL (x.stop s'.spot) (x.stop 0)+x.gones (r2 :: rs)=c1.gone+(bL (x.stop s'.spot) (x.stop 0)+x.gones (r2 :: rs)):=by omega
  rw [e];exact hw
theorem bAE {x:aA} (hm:x.may=true) {rs:List (List Int)} {c:Int} (h:x.cost rs=(c,0)):∃path,x.way path x.rootS c:=by
 obtain ⟨p,hx⟩:=x.fit hm;have hp:=hx.pairs;have hroot:x.rootS={aF.zero with car:=1,time:=(x.stop 0).ready}:=by rw [aA.rootS,if_pos hm]
 obtain ⟨hok,rfl⟩:=xT hx hm h;by_cases h0:x.pairs=0
 ·have hn:rs=[]:=by
   cases rs with
   |nil=>rfl
   |cons r rs=>obtain ⟨e1,e2⟩:=hok.each r List.mem_cons_self;obtain ⟨j,hj⟩:=List.exists_mem_of_ne_nil _ e1;have:=(oT hx hm e2).1 j hj;omega
  subst hn;refine ⟨[],?_,?_⟩
  ·rw [aA.endS,if_neg (by simp [hm]),if_pos ⟨h0,rfl⟩]
  ·rw [aA.endS,if_neg (by simp [hm]),if_pos ⟨h0,rfl⟩];rfl
 ·obtain ⟨qs,hqs⟩:∃qs,qs=rs.mergeSort (fun a b=>decide (iU a≤iU b)):=⟨_,rfl⟩;have hperm:rs.Perm qs:=by rw [hqs];exact (List.mergeSort_perm _ _).symm
  have hsort:qs.Pairwise fun a b=>decide (iU a≤iU b)=true:=by
   rw [hqs];refine List.pairwise_mergeSort (fun a b c h1 h2=>?_) (fun a b=>?_) rs
   ·simp only [decide_eq_true_eq] at *;omega
   ·simp only [Bool.or_eq_true,decide_eq_true_eq];omega
  have hok2:=hok.perm hperm;rw [aJP x hperm];have hne:qs≠[]:=by intro e;have:=hok2.all 1 (Nat.le_refl _) (by omega);rw [e] at this;cases this
  match qs,hne with
  |r :: qs,_=>
   have hhead:∀q∈r :: qs,iU q∈q:=fun q hq=>by
    obtain ⟨e1,_⟩:=hok2.each q hq;cases q with
    |nil=>exact absurd rfl e1
    |cons j q=>exact List.mem_cons_self
   have hpw:(r :: qs).Pairwise fun a b=>iU a<iU b:=by
    have hnd:=hok2.once;rw [List.Nodup,List.pairwise_flatten] at hnd;refine (hsort.and hnd.2).imp_of_mem fun {a b} ha hb h=>?_
    have h1:=h.1;simp only [decide_eq_true_eq] at h1;have h2:=h.2 (iU a) (hhead a ha) (iU b) (hhead b hb);omega
   obtain ⟨e1,e2⟩:=hok2.each r List.mem_cons_self;have hpos:=(oT hx hm e2).1 _ (hhead r List.mem_cons_self);have hcars:=hok2.cars;rw [List.length_cons] at hcars
   refine bHT hx hm h0 qs r x.rootS (by rw [hroot];rfl) (by rw [hroot];rfl) (by rw [hroot];rfl) (by rw [hroot]) (aCH hx hm) (by rw [hroot];show (1:Int)≤1;omega) (by rw [hroot];show (1:Int)+(qs.length:Int)≤x.cars;omega) hok2.each hok2.once
    (fun i _=>by rw [hroot];exact Nat.zero_testBit i) (fun i i1 i2=>.inr (hok2.all i i1 i2)) (by rw [hroot];show (0:Int)<iU r;omega) hpw
structure bY (x:aA) (n:aC):Prop where
 goes:x.goes n.path x.rootS 0=some (n.s,n.cost)
 is:n.s.Is n.s.spot
 cost:0≤n.cost∧n.cost≤14143*(n.path.length:Int)
 len:n.path.length+x.meas n.s≤x.meas x.rootS
theorem bE7 {x:aA} (hm:x.may=true):bY x x.rootN:=
 ⟨rfl,⟨rfl,zO x,bAF hm,bCQ x⟩,by simp [aA.rootN],by simp [aA.rootN]⟩
theorem bY.few {x:aA} {n:aC} (h:bY x n):n.path.length≤40:=by have:=h.len;have:=lQ x x.rootS;omega
theorem bY.child {x:aA} {n:aC} (h:bY x n) {j:Int} (hj:(x.move n.s j).2.2=true):bY x (x.child n j):=by
 have hc:=oH hj;have hl:=h.cost;have hf:=h.few;have e:(x.child n j).cost=n.cost+(x.move n.s j).2.1:=rS hl.1 hc.1 (by omega);have hm:=sT hj;have hlen:(n.path++[j]).length=n.path.length+1:=by simp
 refine ⟨?_,h.is.move hj,?_,?_⟩
 ·show x.goes (n.path++[j]) x.rootS 0=some ((x.move n.s j).1,(x.child n j).cost);rw [oF,h.goes,Option.bind_some];show x.goes [j] n.s n.cost=_;rw [aA.goes,if_pos hj,aO _ (by omega),e];rfl
 ·rw [e];show _∧_≤14143*((n.path++[j]).length:Int);rw [hlen];omega
 ·show (n.path++[j]).length+x.meas (x.move n.s j).1≤_;rw [hlen];have:=h.len;omega
theorem lO {x:aA} {n:aC} (h:bY x n) (up:Int):∀(k:Nat),∀m∈x.layN up n k,bY x m∧m.path.length=n.path.length+k
 |0,m,hm=>by rw [List.mem_singleton.1 hm];exact ⟨h,rfl⟩
 |k+1,m,hm=>by obtain ⟨q,hq,j,hj,rfl,_⟩:=gZ hm;obtain ⟨h1,h2⟩:=lO h up k q hq;refine ⟨h1.child (jW hj),?_⟩;show (q.path++[j]).length=_;rw [List.length_append,h2];simp only [List.length_cons,List.length_nil];omega
theorem bY.wl {x:aA} {l:List aC} (h:∀n∈l,bY x n) {r:Nat} (hr:r≤1000):WL x l r:=
 ⟨fun n hn=>(h n hn).is,fun n hn=>by have:=(h n hn).cost;have:=(h n hn).few;omega⟩
theorem bY.way {x:aA} {n:aC} (h:bY x n) {v:List Int} {c:Int} (hv:x.way v n.s c):x.way (n.path++v) x.rootS (n.cost+c):=by
 have hf:=h.few;have:=aPH (c0:=0) (by omega) (by omega) h.goes hv
 rwa [show n.cost-0+c=n.cost+c by omega] at this
theorem aT2 {x:aA} (hm:x.may=true):x.deep=2*x.pairs+x.cars-1:=by rw [aA.deep,if_pos hm]
theorem qY {x:aA} (hm:x.may=true):(x.meas x.rootS:Int)≤x.deep∧x.deep≤39:=by obtain ⟨p,hx⟩:=x.fit hm;have h1:=aX2 hx hm;have:=hx.pairs;have:=hx.few;have:=hx.cars;rw [aT2 hm];omega
theorem aG8 {x:aA} (hst:x.stops.length<2^31) (hm:x.may=true) {n:aC} (h:bY x n) (w up:Int) {v:List Int} {c:Int} (hv:x.way v n.s c) (hlt:n.cost+c<up):(x.build n w up).low≤n.cost+c:=by have h1:=qY hm;have h2:=wL hv;have h3:=h.len;rw [aA.build];exact aBG hst w up _ _ _ _ _ _ (bY.wl (fun m hm=>by rw [List.mem_singleton.1 hm];exact h) (by omega)) n List.mem_cons_self v c hv hlt (by simp only [List.length_nil];omega) (by omega)
theorem mI (x:aA) (n:aC) (w up:Int):(x.build n w up).Ok x up n:=by rw [aA.build];refine aBE w up _ n _ _ _ _ _ ⟨fun i hi=>by simp at hi,by simp⟩ (fun _=>rfl) (fun k hk=>by cases hk) (fun _=>by simp) (by omega) (fun k hk=>by cases hk) ?_ (.inr rfl);simp only [List.length_nil];omega
theorem aG6 {x:aA} (n:aC) (w up:Int) (h:1≤x.mostN w):∀k∈(x.build n w up).layers.drop 1,k≠[]∧k.length≤x.mostN w:=
 aBD w up _ _ _ _ _ _ (by simpa using h) (fun k hk=>by simp at hk)
theorem uL (x:aA) (n:aC) (w up:Int):((x.build n w up).layers.length:Int)≤max 1 (x.deep-n.path.length+1):=by have:=aA9 (x:=x) w up (x.deep-n.path.length) ((x.deep-n.path.length).toNat+2) [] up none [n];rw [aA.build];simp only [List.length_nil] at this;omega
structure aK where
 bound:Int
 depth:Int
 no:Nat
 deriving DecidableEq
structure SS where
 subs:List aC
 q:List aK
 up:Int
 plan:List (List Int)
 steps:Int
 log:List (aC×aX)
def SS.offer (s:SS) (b:aC×Bool):SS:=if b.2=true∧b.1.cost<s.up then {s with up:=b.1.cost,plan:=(mW b.1.path).1} else s
def aA.push (x:aA) (low:Int) (s:SS) (n:aC):SS:=
 if max low (x.of n)<s.up then {s with q:=s.q++[⟨max low (x.of n),n.path.length,s.subs.length⟩],subs:=s.subs++[n]} else s
def aA.offers (x:aA) (s:SS) (ls:List (List aC)):SS:=ls.foldl (fun s l=>s.offer (x.bests l)) s
def aA.branch (x:aA) (d:aX) (s:SS):SS:=(d.layers.getD (d.sure-1) []).foldl (x.push d.low) (x.offers s (d.layers.take (d.sure-1)))
def eG (ls:List (List aC)):Nat:=(ls.map List.length).sum
def SS.plus (s:SS) (k:Int):SS:={s with steps:=s.steps+k}
def SS.nar (x:aA) (w:Int) (s:SS) (n:aC):SS:=(s.plus (x.narrow n w s.up).2.2).offer ((x.narrow n w s.up).1,(x.narrow n w s.up).2.1)
def SS.dia (s:SS) (n:aC) (d:aX):SS:={s with steps:=s.steps+eG d.layers,log:=s.log++[(n,d)]}
def SS.exa (x:aA) (w:Int) (s:SS) (n:aC):SS:=(s.plus (x.exact n s.up (x.mostN w)).2.2.2).offer ((x.exact n s.up (x.mostN w)).1,(x.exact n s.up (x.mostN w)).2.1)
def aA.lookD (x:aA) (w:Int) (s:SS) (n:aC) (d:aX):SS:=if s.up≤d.low then s.dia n d else if d.exact=true then (s.dia n d).exa x w n else x.branch d (s.dia n d)
def aA.lookS (x:aA) (w:Int) (s:SS) (n:aC):SS:=x.lookD w (s.nar x w n) n (x.build n w (s.nar x w n).up)
def aA.goesOn (x:aA) (n:aC) (c:Int):Prop:=∃v d,x.way v n.s d∧n.cost+d≤c
structure tV (x:aA) (s:SS):Prop where
 le:s.up≤bF
 plan:s.up<bF→x.cost s.plan=(s.up,0)
structure eI (x:aA) (s:SS):Prop where
 track:∀n∈s.subs,bY x n
 nos:∀e∈s.q,∃n,s.subs[e.no]? =some n
 bound:∀e∈s.q,∀n,s.subs[e.no]? =some n→∀v c,x.way v n.s c→n.cost+c<s.up→e.bound≤n.cost+c
 found:tV x s
def SS.Covers (x:aA) (s:SS) (more:Int→Prop):Prop:=∀v c,x.way v x.rootS c→c<s.up→more c∨∃e∈s.q,∃n,s.subs[e.no]? =some n∧x.goesOn n c
theorem hO (s:SS) (b:aC×Bool):(s.offer b).up≤s.up∧(s.offer b).subs=s.subs∧(s.offer b).q=s.q∧(s.offer b).log=s.log∧(s.offer b).steps=s.steps:=by
 unfold SS.offer;split
 ·rename_i h;exact ⟨Int.le_of_lt h.2,rfl,rfl,rfl,rfl⟩
 ·exact ⟨Int.le_refl _,rfl,rfl,rfl,rfl⟩
theorem aDO (s:SS) (b:aC×Bool) (h:b.2=true):(s.offer b).up≤b.1.cost:=by
 unfold SS.offer;split
 ·exact Int.le_refl _
 ·rename_i hn;simp only [h,true_and] at hn;omega
def aA.isWay (x:aA) (b:aC×Bool):Prop:=b.2=true→x.way b.1.path x.rootS b.1.cost
theorem aPI {x:aA} {v:List Int} {c:Int} (h:x.way v x.rootS c):0≤c∧c<bF:=by have h1:=wK h;have h2:=wL h;have h3:=lQ x x.rootS;have:bF=1152921504606846976:=rfl;omega
theorem tV.offer {x:aA} (hm:x.may=true) {s:SS} (h:tV x s) {b:aC×Bool} (hb:x.isWay b):tV x (s.offer b):=by
 unfold SS.offer;split
 ·rename_i hc;have hw:=hb hc.1;exact ⟨Int.le_of_lt (aPI hw).2,fun _=>(bE6 hm hw).2⟩
 ·exact h
theorem eI.offer {x:aA} (hm:x.may=true) {s:SS} (h:eI x s) {b:aC×Bool} (hb:x.isWay b):eI x (s.offer b):=by obtain ⟨h1,h2,h3,h4,h5⟩:=hO s b;refine ⟨by rw [h2];exact h.track,by rw [h2,h3];exact h.nos,?_,h.found.offer hm hb⟩;rw [h2,h3];exact fun e he n hn v c hv hc=>h.bound e he n hn v c hv (by omega)
theorem Covers.offer {x:aA} {s:SS} {more:Int→Prop} (h:s.Covers x more) (b:aC×Bool):(s.offer b).Covers x more:=by obtain ⟨h1,h2,h3,h4,h5⟩:=hO s b;intro v c hv hc;rw [h2,h3];exact h v c hv (by omega)
theorem yK {x:aA} {n:aC} (h:bY x n) (up:Int):∀(k:Nat),∀m∈x.layN up n k,∀v c,x.way v m.s c→∃u,x.way (u++v) n.s (m.cost-n.cost+c)
 |0,m,hm,v,c,hv=>by rw [List.mem_singleton.1 hm] at hv ⊢;exact ⟨[],by rw [show n.cost-n.cost+c=c by omega];exact hv⟩
 |k+1,m,hm,v,c,hv=>by
  obtain ⟨q,hq,j,hj,rfl,_⟩:=gZ hm;have hj:=jW hj;have ht:=(lO h up k q hq).1;have hcc:(x.child q j).cost=q.cost+(x.move q.s j).2.1:=by have:=ht.cost;have:=ht.few;have:=oH hj;exact rS (by omega) (by omega) (by omega)
  obtain ⟨u,hu⟩:=yK h up k q hq (j :: v) ((x.move q.s j).2.1+c) ⟨hj,c,hv,rfl⟩;refine ⟨u++[j],?_⟩;rw [List.append_assoc,hcc,show q.cost+(x.move q.s j).2.1-n.cost+c=q.cost-n.cost+((x.move q.s j).2.1+c) by omega];exact hu
theorem aDN {x:aA} (hst:x.stops.length<2^31) {n:aC} (h:bY x n) {v:List Int} {c:Int} (hv:x.way v n.s c):x.of n≤n.cost+c:=by have h1:=aFK h.is.seen hv;have h2:=wK hv;have h3:=wL hv;have h4:=lQ x n.s;have h5:=h.cost;have h6:=h.few;exact aLK hst n (n.cost+c) h5.1 (by omega) (by omega)
theorem lZ (x:aA) (low:Int) (s:SS) (n:aC):(x.push low s n=s∧s.up≤max low (x.of n))∨(max low (x.of n)<s.up∧x.push low s n={s with q:=s.q++[⟨max low (x.of n),n.path.length,s.subs.length⟩],subs:=s.subs++[n]}):=by
 unfold aA.push;split
 ·rename_i h;exact .inr ⟨h,rfl⟩
 ·rename_i h;exact .inl ⟨rfl,by omega⟩
theorem pI {α:Type} {l m:List α} {i:Nat} {a:α} (h:l[i]? =some a):(l++m)[i]? =some a:=by have:=(List.getElem?_eq_some_iff.1 h).1;rw [List.getElem?_append_left this];exact h
theorem eI.push {x:aA} {s:SS} (h:eI x s) (low:Int) {n:aC} (ht:bY x n) (hb:∀v c,x.way v n.s c→n.cost+c<s.up→max low (x.of n)≤n.cost+c):eI x (x.push low s n):=by
 rcases lZ x low s n with ⟨e,_⟩ | ⟨_,e⟩
 ·rw [e];exact h
 rw [e];have hlast:(s.subs++[n])[s.subs.length]? =some n:=by simp
 refine ⟨fun m hm=>?_,fun f hf=>?_,fun f hf m hm v c hv hc=>?_,⟨h.found.le,h.found.plan⟩⟩
 ·rcases List.mem_append.1 hm with hm | hm
  ·exact h.track m hm
  ·rw [List.mem_singleton.1 hm];exact ht
 ·rcases List.mem_append.1 hf with hf | hf
  ·obtain ⟨m,hm⟩:=h.nos f hf;exact ⟨m,pI hm⟩
  ·rw [List.mem_singleton.1 hf];exact ⟨n,hlast⟩
 ·rcases List.mem_append.1 hf with hf | hf
  ·obtain ⟨m',hm'⟩:=h.nos f hf;have:=pI (m:=[n]) hm';have he:m'=m:=Option.some.inj (this.symm.trans hm);rw [he] at hm';exact h.bound f hf m hm' v c hv hc
  ·rw [List.mem_singleton.1 hf] at hm ⊢;simp only at hm ⊢;rw [hlast] at hm;cases hm;exact hb v c hv hc
theorem p9 (x:aA) (low:Int) (s:SS) (n:aC):(x.push low s n).up=s.up∧(x.push low s n).log=s.log∧(x.push low s n).steps=s.steps:=by unfold aA.push;split<;>exact ⟨rfl,rfl,rfl⟩
theorem aM3 {x:aA} {low:Int} {s:SS} {n:aC} {c:Int} (hg:x.goesOn n c) (hb:max low (x.of n)<s.up):∃e∈(x.push low s n).q,∃m,(x.push low s n).subs[e.no]? =some m∧x.goesOn m c:=by
 rcases lZ x low s n with ⟨_,e⟩ | ⟨_,e⟩
 ·omega
 ·rw [e];exact ⟨_,List.mem_append_right _ (List.mem_singleton.2 rfl),n,by simp,hg⟩
theorem bAX {x:aA} {low:Int} {s:SS} {n:aC} {c:Int} (h:∃e∈s.q,∃m,s.subs[e.no]? =some m∧x.goesOn m c):∃e∈(x.push low s n).q,∃m,(x.push low s n).subs[e.no]? =some m∧x.goesOn m c:=by
 rcases lZ x low s n with ⟨e,_⟩ | ⟨_,e⟩
 ·rw [e];exact h
 ·rw [e];obtain ⟨f,hf,m,hm,hg⟩:=h;exact ⟨f,List.mem_append_left _ hf,m,pI hm,hg⟩
theorem rL (x:aA) (low:Int):∀(l:List aC) (s:SS),(l.foldl (x.push low) s).up=s.up∧(l.foldl (x.push low) s).log=s.log∧(l.foldl (x.push low) s).steps=s.steps
 |[],s=>⟨rfl,rfl,rfl⟩
 |n :: l,s=>by obtain ⟨h1,h2,h3⟩:=rL x low l (x.push low s n);obtain ⟨k1,k2,k3⟩:=p9 x low s n;exact ⟨h1.trans k1,h2.trans k2,h3.trans k3⟩
theorem aM7 {x:aA} (low:Int):∀(l:List aC) (s:SS),eI x s→(∀n∈l,bY x n∧∀v c,x.way v n.s c→n.cost+c<s.up→max low (x.of n)≤n.cost+c)→eI x (l.foldl (x.push low) s)
 |[],s,h,_=>h
 |n :: l,s,h,hl=>by
  obtain ⟨h1,h2⟩:=hl n List.mem_cons_self;refine aM7 low l (x.push low s n) (h.push low h1 h2) fun m hm=>?_
  rw [(p9 x low s n).1];exact hl m (List.mem_cons_of_mem _ hm)
theorem aEB {x:aA} (low:Int):∀(l:List aC) (s:SS) (c:Int),(∃e∈s.q,∃m,s.subs[e.no]? =some m∧x.goesOn m c)→∃e∈(l.foldl (x.push low) s).q,∃m,(l.foldl (x.push low) s).subs[e.no]? =some m∧x.goesOn m c
 |[],s,c,h=>h
 |n :: l,s,c,h=>aEB low l (x.push low s n) c (bAX h)
theorem aM6 {x:aA} (low:Int):∀(l:List aC) (s:SS) (c:Int) (n:aC),n∈l→x.goesOn n c→max low (x.of n)<s.up→∃e∈(l.foldl (x.push low) s).q,∃m,(l.foldl (x.push low) s).subs[e.no]? =some m∧x.goesOn m c
 |m :: l,s,c,n,hn,hg,hb=>by
  rcases List.mem_cons.1 hn with rfl | hn
  ·exact aEB low l _ c (aM3 hg hb)
  ·exact aM6 low l (x.push low s m) c n hn hg (by rw [(p9 x low s m).1];exact hb)
theorem aU8 (F:List aC) (c:aC):(jE F c).Sublist (F++[c]):=by
 unfold jE;split
 ·exact List.sublist_append_left _ _
 ·exact (List.filter_sublist).append (List.Sublist.refl _)
theorem aJI:∀(l pre F:List aC),F.Sublist pre→(l.foldl jE F).Sublist (pre++l)
 |[],pre,F,h=>by rw [List.append_nil];exact h
 |c :: l,pre,F,h=>by have:=aJI l (pre++[c]) (jE F c) ((aU8 F c).trans (h.append (List.Sublist.refl _)));rw [List.append_assoc] at this;exact this
theorem aJH (l:List aC):(gG l).Sublist l:=aJI l [] [] (List.Sublist.refl _)
theorem aL0 (x:aA) (l:List aC) (up:Int):((x.next l up).map aC.s).Nodup:=aZE _
def xB (l m:List aC):Prop:=∀n∈l,∃k∈m,k.s=n.s∧k.cost≤n.cost
theorem bG2 {l m:List aC} (hl:(l.map aC.s).Nodup) (h:xB l m):l.length≤m.length:=by
 have:=aL2 (l.map aC.s) (m.map aC.s) hl fun s hs=>by obtain ⟨n,hn,rfl⟩:=List.mem_map.1 hs;obtain ⟨k,hk,e,_⟩:=h n hn;exact List.mem_map.2 ⟨k,hk,e⟩
 simpa using this
theorem aY4 {x:aA} {n m:aC} {d:Nat} {l:List aC} (hs:m.s=n.s) (hc:0≤m.cost) (hle:m.cost≤n.cost) (hn:n.cost≤1152921504606846976):x.of m≤x.of n:=by rw [aA.of,aA.of,hs];simp only [dL,List.foldl_cons,List.foldl_nil,mY];omega
theorem bG3 {x:aA} {l m:List aC} {d e:Nat} (hl:dY x l (d+1)) (hm:dY x m (e+1)) (h:xB l m) {up up':Int} (hu:up≤up'):xB (x.next l up) (x.next m up'):=by
 intro c hc;obtain ⟨n,hn,j,hj,rfl,hof⟩:=gZ hc;obtain ⟨k,hk,e1,e2⟩:=h n hn;have hmv:=jW hj;have hmv':(x.move k.s j).2.2=true:=by rw [e1];exact hmv
 have c1:=qV hl hn hmv;have c2:=qV hm hk hmv';have hs:(x.child k j).s=(x.child n j).s:=by show (x.move k.s j).1=(x.move n.s j).1;rw [e1]
 have h3:=hl.cost n hn;have h4:=hm.cost k hk;have h5:=oH hmv;have hcc:(x.child k j).cost≤(x.child n j).cost:=by rw [c1,c2,e1];omega
 have hof2:x.of (x.child k j)<up':=by have:=aY4 (x:=x) (d:=0) (l:=[]) hs (by rw [c2,e1];omega) hcc (by rw [c1];omega);omega
 obtain ⟨q,q1,q2,q3⟩:=aDT (l:=m.flatMap (x.kids up')) (k:=x.child k j) (by
  refine List.mem_flatMap.2 ⟨k,hk,?_⟩
  rw [aA.kids,List.mem_filter]
  exact ⟨List.mem_map.2 ⟨j,aLD hmv',rfl⟩,by simpa using hof2⟩)
 exact ⟨q,q1,q2.trans hs,by omega⟩
theorem aKM {x:aA} {n:aC} (h:bY x n) (up:Int) (k:Nat):dY x (x.layN up n k) 41:=(bY.wl (fun m hm=>(lO h up k m hm).1) (r:=0) (by omega)).lev
theorem aIH {x:aA} {n:aC} (ht:bY x n) {up:Int} {most:Int} (hw:∀k,((x.layN up n k).length:Int)≤most):∀(d:Nat) (st:aC×Bool×Int) (l:List aC) (s:Int) (k:Nat),dY x l d→rQ st→st.2.2≤up→(l.map aC.s).Nodup→xB l (x.layN up n k)→
  (x.exGo most d st l s).2.2.1=true
 |0,st,l,s,k,_,_,_,_,_=>rfl
 |d+1,st,l,s,k,hl,h,hu,hn,hun=>by
  rw [aA.exGo];split
  ·rfl
  have hlen:=bG2 hn hun;have:=hw k;rw [if_neg (by omega)];obtain ⟨k1,k2,k3⟩:=vE (x:=x) (l:=l) h;refine aIH ht hw d (x.look st l) _ _ (k+1) (hl.front st.2.2) k1 (by omega) ?_ ?_
  ·exact (aL0 x l st.2.2).sublist ((aJH _).map _)
  ·intro c hc;exact bG3 hl (aKM ht up k) hun hu c ((aJH _).subset hc)
theorem aBB {x:aA} (w up dp:Int) (n:aC):∀(f:Nat) (ls:List (List aC)) (low:Int) (sq:Option Nat) (l:List aC),(sq=none→l=x.layN up n ls.length)→dp+2≤(f:Int)+ls.length→1≤f→(x.buildGo w up dp f ls low sq l).exact=true→
  x.layN up n (x.buildGo w up dp f ls low sq l).layers.length=[]∨dp<(x.buildGo w up dp f ls low sq l).layers.length
 |0,ls,low,sq,l,_,_,h,_=>absurd h (by omega)
 |f+1,ls,low,sq,l,hn,hf,_,he=>by
  rw [aA.buildGo] at he ⊢;split
  ·rename_i c0;rw [if_pos c0] at he;simp only [aX.of,Option.isNone_iff_eq_none] at he;refine .inl ?_;show x.layN up n ls.length=[];rw [←hn he,c0]
  rename_i c0;rw [if_neg c0] at he;split
  ·rename_i c1;refine .inr ?_;show dp<((ls++[l]).length:Int);rw [List.length_append];exact c1
  rename_i c1;rw [if_neg c1] at he;have hlen:(ls++[l]).length=ls.length+1:=by simp
  split
  ·rename_i c2;rw [if_pos c2] at he;exact aBB w up dp n f _ _ _ _ (fun h=>by cases h) (by omega) (by omega) he
  ·rename_i c2;rw [if_neg c2] at he;exact aBB w up dp n f _ _ _ _ (fun h=>by rw [hlen,hn h];rfl) (by omega) (by omega) he
theorem aKN {x:aA} {up:Int} {n:aC} {k:Nat} (h:x.layN up n k=[]):∀i,x.layN up n (k+i)=[]
 |0=>h
 |i+1=>by show x.next (x.layN up n (k+i)) up=[];rw [aKN h i];rfl
theorem aSL {x:aA} (hm:x.may=true) {n:aC} (h:bY x n) (w up:Int) (he:(x.build n w up).exact=true) (k:Nat):(x.layN up n k).length≤x.mostN w:=by
 have hok:=mI x n w up;have hw:=hok.whole;rw [he] at hw;have hs:(x.build n w up).sure=(x.build n w up).layers.length:=of_decide_eq_true hw.symm
 have h1:1≤x.mostN w:=by
  have:1≤x.stops.length:=by obtain ⟨p,hx⟩:=x.fit hm;have:=hx.len;omega
  unfold aA.mostN;omega
 by_cases hk:k<(x.build n w up).layers.length
 ·have h2:=hok.lay k (by omega);cases k with
  |zero=>exact h1
  |succ k=>refine (aG6 n w up h1 (x.layN up n (k+1)) ?_).2;rw [List.getElem?_eq_getElem hk] at h2;rw [←Option.some.inj h2];rw [List.mem_drop_iff_getElem];exact ⟨k,by omega,by simp only [Nat.add_comm 1 k]⟩
 ·have hend:=aBB (x:=x) w up (x.deep-n.path.length) n ((x.deep-n.path.length).toNat+2) [] up none [n] (fun _=>rfl) (by simp only [List.length_nil];omega) (by omega) he;rw [←aA.build] at hend;rcases hend with h3 | h3
  ·obtain ⟨i,rfl⟩:∃i,k=(x.build n w up).layers.length+i:=⟨k-(x.build n w up).layers.length,by omega⟩;rw [aKN h3 i];exact Nat.zero_le _
  ·cases hl:x.layN up n k with
   |nil=>exact Nat.zero_le _
   |cons m l=>
    have hmm:m∈x.layN up n k:=by rw [hl];exact List.mem_cons_self
    obtain ⟨t1,t2⟩:=lO h up k m hmm;have:=t1.len;have:=(qY hm).1;omega
theorem aIJ {x:aA} (hm:x.may=true) {n:aC} (h:bY x n) (w:Int) {up u:Int} (hu:u≤up) (he:(x.build n w up).exact=true):(x.exact n u (x.mostN w)).2.2.1=true:=by have hc:=h.cost;have hf:=h.few;refine aIH h (up:=up) (fun k=>by have:=aSL hm h w up he k;omega) _ (aC.zero,false,u) [n] 0 0 (dY.root h.is.ok h.is.pos h.is.seen (by omega)) (fun h=>by cases h) hu (by simp) ?_;intro m hm;exact ⟨n,List.mem_cons_self,by rw [List.mem_singleton.1 hm],by rw [List.mem_singleton.1 hm];exact Int.le_refl _⟩
theorem eI.like {x:aA} {s t:SS} (h:eI x s) (h1:t.subs=s.subs) (h2:t.q=s.q) (h3:t.up=s.up) (h4:t.plan=s.plan):eI x t:=by obtain ⟨a,b,c,d,e,f⟩:=s;obtain ⟨a',b',c',d',e',f'⟩:=t;simp only at h1 h2 h3 h4;subst h1;subst h2;subst h3;subst h4;exact ⟨h.track,h.nos,h.bound,⟨h.found.le,h.found.plan⟩⟩
theorem Covers.like {x:aA} {s t:SS} {more:Int→Prop} (h:s.Covers x more) (h1:t.subs=s.subs) (h2:t.q=s.q) (h3:t.up=s.up):t.Covers x more:=by intro v c hv hc;rw [h1,h2];exact h v c hv (by omega)
theorem bY.fit {x:aA} {n:aC} (h:bY x n):0≤n.cost∧n.cost≤1152921504606000000:=by have:=h.cost;have:=h.few;omega
theorem aYC {x:aA} {n:aC} (h:bY x n) (w up:Int):x.isWay ((x.narrow n w up).1,(x.narrow n w up).2.1):=by intro hs;obtain ⟨v,c,h1,h2,h3,_⟩:=aYB h.is.ok h.is.pos h.is.seen h.fit hs;simp only;rw [h2,h3];exact h.way h1
theorem aUY {x:aA} {n:aC} (h:bY x n) (most up:Int):x.isWay ((x.exact n up most).1,(x.exact n up most).2.1):=by intro hs;obtain ⟨v,c,h1,h2,h3,_⟩:=aUX h.is.ok h.is.pos h.is.seen h.fit hs;simp only;rw [h2,h3];exact h.way h1
theorem aR7 {x:aA} {l:List aC} (h:∀m∈l,bY x m):x.isWay (x.bests l):=by intro hs;obtain ⟨m,hm,b1,b2,b3⟩:=aA1 hs;have ht:=h m hm;have hf:=ht.fit;have hec:=xY b1;rw [rS hf.1 hec.1 (by omega)] at b2;have:=ht.way (v:=[]) (c:=(x.endS m.s).1) ⟨b1,rfl⟩;rw [List.append_nil,←b2,←b3] at this;exact this
theorem oJ (x:aA):∀(ls:List (List aC)) (s:SS),(x.offers s ls).up≤s.up∧(x.offers s ls).subs=s.subs∧(x.offers s ls).q=s.q∧(x.offers s ls).log=s.log∧(x.offers s ls).steps=s.steps
 |[],s=>⟨Int.le_refl _,rfl,rfl,rfl,rfl⟩
 |l :: ls,s=>by obtain ⟨h1,h2,h3,h4,h5⟩:=oJ x ls (s.offer (x.bests l));obtain ⟨k1,k2,k3,k4,k5⟩:=hO s (x.bests l);exact ⟨Int.le_trans h1 k1,h2.trans k2,h3.trans k3,h4.trans k4,h5.trans k5⟩
theorem aDQ (x:aA):∀(ls:List (List aC)) (s:SS),∀l∈ls,(x.bests l).2=true→(x.offers s ls).up≤(x.bests l).1.cost
 |[],s,l,hl,_=>by cases hl
 |k :: ls,s,l,hl,hb=>by
  rcases List.mem_cons.1 hl with rfl | hl
  ·exact Int.le_trans (oJ x ls _).1 (aDO s _ hb)
  ·exact aDQ x ls _ l hl hb
theorem aMA {x:aA} (hm:x.may=true):∀(ls:List (List aC)) (s:SS),eI x s→(∀l∈ls,∀m∈l,bY x m)→eI x (x.offers s ls)
 |[],s,h,_=>h
 |l :: ls,s,h,hl=>aMA hm ls _ (h.offer hm (aR7 (hl l List.mem_cons_self))) fun k hk=>hl k (List.mem_cons_of_mem _ hk)
theorem aL9 {x:aA} {more:Int→Prop}:∀(ls:List (List aC)) (s:SS),s.Covers x more→(x.offers s ls).Covers x more
 |[],s,h=>h
 |l :: ls,s,h=>aL9 ls _ (Covers.offer h _)
theorem aKK {x:aA} (hst:x.stops.length<2^31) {n:aC} (h:bY x n) {up c:Int} (hg:x.goesOn n c) (hc:c<up):∀(k:Nat),(∀i,i<k→(x.bests (x.layN up n i)).2=true→c<(x.bests (x.layN up n i)).1.cost)→∃m∈x.layN up n k,x.goesOn m c
 |0,_=>⟨n,List.mem_cons_self,hg⟩
 |k+1,hno=>by
  obtain ⟨m,hm,v,d,hv,hd⟩:=aKK hst h hg hc k fun i hi=>hno i (by omega)
  have hl:=aKM h up k
  match v,hv with
  |[],hv=>obtain ⟨b1,b2⟩:=xM hm hv.1;rw [uY hl hm hv.1,←hv.2] at b2;have:=hno k (by omega) b1;omega
  |j :: v,hv=>obtain ⟨g1,e,g2,g3⟩:=hv;obtain ⟨q,hq,q1,q2⟩:=aDH hst hl hm g1 g2 (up:=up) (by omega);exact ⟨q,hq,v,e,by rw [q1];exact g2,by omega⟩
theorem qE {x:aA} {up:Int} {n:aC} {d:aX} (h:d.Ok x up n) {i:Nat} (hi:i<d.sure):∃hl:i<d.layers.length,d.layers[i]=x.layN up n i:=by
 have:=h.lay i hi;have hl:i<d.layers.length:=by have:=h.le;omega
 rw [List.getElem?_eq_getElem hl] at this;exact ⟨hl,Option.some.inj this⟩
theorem aSE {x:aA} (hst:x.stops.length<2^31) (hm:x.may=true) {n:aC} (ht:bY x n) (w:Int) {s:SS} (h:eI x s) (hc:s.Covers x (x.goesOn n)):eI x (x.branch (x.build n w s.up) s)∧(x.branch (x.build n w s.up) s).Covers x fun _=>False:=by
 have hok:=mI x n w s.up;have hbw:=fun (v:List Int) (c:Int) (hv:x.way v n.s c)=>aG8 hst hm ht w s.up hv
 generalize x.build n w s.up=d at *;rw [aA.branch];have hpos:=hok.pos;obtain ⟨hl,hlast⟩:=qE hok (i:=d.sure-1) (by omega);rw [List.getD_eq_getElem?_getD,List.getElem?_eq_getElem hl,Option.getD_some,hlast];have hin:∀l∈d.layers.take (d.sure-1),∃i,i<d.sure-1∧l=x.layN s.up n i:=by intro l hl;obtain ⟨i,hi,e⟩:=List.getElem_of_mem hl;rw [List.length_take] at hi;obtain ⟨hl2,e2⟩:=qE hok (i:=i) (by omega);refine ⟨i,by omega,?_⟩;rw [←e,List.getElem_take,e2]
 have hof:∀i,i<d.sure-1→x.layN s.up n i∈d.layers.take (d.sure-1):=by intro i hi;obtain ⟨hl2,e2⟩:=qE hok (i:=i) (by omega);rw [←e2];exact List.mem_take_iff_getElem.2 ⟨i,by omega,rfl⟩
 have h3:=aMA hm (d.layers.take (d.sure-1)) s h fun l hl m hmm=>by obtain ⟨i,_,rfl⟩:=hin l hl;exact (lO ht s.up i m hmm).1
 have hc3:=aL9 (d.layers.take (d.sure-1)) s hc;have hup:=(oJ x (d.layers.take (d.sure-1)) s).1;have hget:=fun i hi=>aDQ x (d.layers.take (d.sure-1)) s _ (hof i hi)
 generalize x.offers s (d.layers.take (d.sure-1))=t at *;refine ⟨aM7 d.low _ t h3 fun m hmm=>?_,fun v c hv hcl=>?_⟩
 ·have htm:=(lO ht s.up _ m hmm).1;refine ⟨htm,fun v c hv hlt=>?_⟩;have h4:=aDN hst htm hv;obtain ⟨u,hu⟩:=yK ht s.up _ m hmm v c hv;have:=hbw _ _ hu (by omega);omega
 ·rw [(rL x d.low _ t).1] at hcl;refine .inr ?_;rcases hc3 v c hv hcl with hg | hq
  ·obtain ⟨m,hmm,hgm⟩:=aKK hst ht hg (up:=s.up) (by omega) (d.sure-1) fun i hi hb=>by have:=hget i hi hb;omega
   obtain ⟨v',d',hv',hd'⟩:=hgm;have htm:=(lO ht s.up _ m hmm).1;have h4:=aDN hst htm hv';obtain ⟨u,hu⟩:=yK ht s.up _ m hmm v' d' hv';have:=hbw _ _ hu (by omega);exact aM6 d.low _ t c m hmm ⟨v',d',hv',hd'⟩ (by omega)
  ·exact aEB d.low _ t c hq
theorem aK5 {x:aA} (hst:x.stops.length<2^31) (hm:x.may=true) {n:aC} (ht:bY x n) (w:Int) {s:SS} (h:eI x s) (hc:s.Covers x (x.goesOn n)):eI x (x.lookS w s n)∧(x.lookS w s n).Covers x fun _=>False:=by
 rw [aA.lookS];have hs1:eI x (s.nar x w n):=by rw [SS.nar];exact eI.offer hm (h.like (t:=s.plus _) rfl rfl rfl rfl) (aYC ht w s.up)
 have hc1:(s.nar x w n).Covers x (x.goesOn n):=by rw [SS.nar];exact Covers.offer (Covers.like (t:=s.plus _) hc rfl rfl rfl) _
 generalize s.nar x w n=t at *;have hbw:=fun (v:List Int) (c:Int) (hv:x.way v n.s c)=>aG8 hst hm ht w t.up hv
 have hbr:=aSE hst hm ht w (s:=t.dia n (x.build n w t.up)) (hs1.like rfl rfl rfl rfl) (Covers.like hc1 rfl rfl rfl);have hex:=aIJ hm ht w (up:=t.up) (u:=t.up) (Int.le_refl _);have hdu:(t.dia n (x.build n w t.up)).up=t.up:=rfl;rw [hdu] at hbr;generalize x.build n w t.up=d at *;have hs2:eI x (t.dia n d):=hs1.like rfl rfl rfl rfl;have hc2:(t.dia n d).Covers x (x.goesOn n):=Covers.like hc1 rfl rfl rfl;rw [aA.lookD];split
 ·rename_i c1;refine ⟨hs2,fun v c hv hlt=>?_⟩;rcases hc2 v c hv hlt with ⟨v',d',hv',hd'⟩ | hq
  ·have:=hbw v' d' hv' (by rw [hdu] at hlt;omega);rw [hdu] at hlt;omega
  ·exact .inr hq
 split
 ·rename_i c2;have hall:=hex c2;rw [SS.exa,hdu];have hs3:eI x ((t.dia n d).plus (x.exact n t.up (x.mostN w)).2.2.2):=hs2.like rfl rfl rfl rfl;have hc3:((t.dia n d).plus (x.exact n t.up (x.mostN w)).2.2.2).Covers x (x.goesOn n):=Covers.like hc2 rfl rfl rfl;have hu3:((t.dia n d).plus (x.exact n t.up (x.mostN w)).2.2.2).up=t.up:=rfl;generalize (t.dia n d).plus (x.exact n t.up (x.mostN w)).2.2.2=z at *;refine ⟨hs3.offer hm (aUY ht _ _),fun v c hv hlt=>?_⟩;have hle:=hO z ((x.exact n t.up (x.mostN w)).1,(x.exact n t.up (x.mostN w)).2.1);have hle1:=hle.1;rcases hc3 v c hv (by omega) with ⟨v',d',hv',hd'⟩ | hq
  ·obtain ⟨e1,e2⟩:=aII hst ht.is.ok ht.is.pos ht.is.seen ht.fit hall hv' (by omega);have:=aDO z ((x.exact n t.up (x.mostN w)).1,(x.exact n t.up (x.mostN w)).2.1) e1;simp only at this;omega
  ·rw [hle.2.1,hle.2.2.1];exact .inr hq
 ·exact hbr
structure aV where
 width:Int
 order:Int
 budget:Int
structure bR where
 status:Int
 plan:List (List Int)
 up:Int
 low:Int
 steps:Int
 log:List (aC×aX)
def aK.zero:aK:=⟨0,0,0⟩
def cN (o:Int) (a b:aK):Bool:=
 if o=0 then decide (a.bound<b.bound∨a.bound=b.bound∧(b.depth<a.depth∨a.depth=b.depth∧a.no<b.no))
 else if o=1 then decide (b.depth<a.depth∨a.depth=b.depth∧(a.bound<b.bound∨a.bound=b.bound∧a.no<b.no))
 else decide (a.no<b.no∨a.no=b.no∧(a.bound<b.bound∨a.bound=b.bound∧a.depth<b.depth))
def dV (o:Int) (q:List aK):Nat:=(List.range q.length).foldl (fun k i=>if cN o (q.getD i aK.zero) (q.getD k aK.zero)=true then i else k) 0
def gB (o:Int) (q:List aK):Option (aK×List aK):=if q=[] then none else some (q.getD (dV o q) aK.zero,q.take (dV o q)++q.drop (dV o q+1))
def jU:List aK→Int
 |[]=>bF
 |e :: l=>l.foldl (fun n f=>min n f.bound) e.bound
def SS.ends (s:SS):bR:=⟨if s.up<bF then 2 else 3,s.plan,s.up,s.up,s.steps,s.log⟩
def SS.stop (s:SS) (e:aK):bR:=⟨4,s.plan,s.up,min s.up (min e.bound (jU s.q)),s.steps,s.log⟩
def SS.left (s:SS) (q:List aK):SS:={s with q:=q}
def aA.runGo (x:aA) (o:aV):Nat→SS→Option bR
 |0,_=>none
 |f+1,s=>match gB o.order s.q with
  |none=>some s.ends
  |some (e,q)=>if s.up≤e.bound then x.runGo o f (s.left q) else if o.budget≤s.steps then some ((s.left q).stop e) else x.runGo o f (x.lookS o.width (s.left q) (s.subs.getD e.no aC.zero))
def aA.start (x:aA):SS:=x.push 0 ⟨[],[],bF,[],0,[]⟩ x.rootN
theorem aLE (o:Int) (q:List aK):∀(l:List Nat) (k:Nat),k<q.length→(∀i∈l,i<q.length)→l.foldl (fun k i=>if cN o (q.getD i aK.zero) (q.getD k aK.zero)=true then i else k) k<q.length
 |[],k,h,_=>h
 |i :: l,k,h,hl=>by
  rw [List.foldl_cons];refine aLE o q l _ ?_ fun j hj=>hl j (List.mem_cons_of_mem _ hj)
  split
  ·exact hl i List.mem_cons_self
  ·exact h
theorem yX (o:Int) {q:List aK} (h:q≠[]):dV o q<q.length:=
 aLE o q _ 0 (List.length_pos_iff.2 h) fun i hi=>List.mem_range.1 hi
theorem aOZ {o:Int} {q:List aK} (h:gB o q=none):q=[]:=by
 unfold gB at h;split at h
 ·assumption
 ·cases h
theorem qG {o:Int} {q:List aK} {e:aK} {q':List aK} (h:gB o q=some (e,q')):e∈q∧(∀f∈q,f=e∨f∈q')∧(∀f∈q',f∈q)∧q.length=q'.length+1:=by
 unfold gB at h;split at h
 ·cases h
 rename_i hq;have hk:=yX o hq;generalize dV o q=k at *;obtain ⟨rfl,rfl⟩:=Prod.mk.inj (Option.some.inj h);have hd:q=q.take k++q[k] :: q.drop (k+1):=by rw [←List.drop_eq_getElem_cons hk,List.take_append_drop]
 have hg:q.getD k aK.zero=q[k]:=by rw [List.getD_eq_getElem?_getD,List.getElem?_eq_getElem hk];rfl
 rw [hg];refine ⟨List.getElem_mem _,fun f hf=>?_,fun f hf=>?_,?_⟩
 ·rw [hd] at hf;rcases List.mem_append.1 hf with hf | hf
  ·exact .inr (List.mem_append_left _ hf)
  ·rcases List.mem_cons.1 hf with hf | hf
   ·exact .inl hf
   ·exact .inr (List.mem_append_right _ hf)
 ·rcases List.mem_append.1 hf with hf | hf
  ·exact List.mem_of_mem_take hf
  ·exact List.mem_of_mem_drop hf
 ·rw [List.length_append,List.length_take,List.length_drop];omega
theorem aKP:∀(l:List aK) (n:Int),l.foldl (fun n f=>min n f.bound) n≤n∧∀f∈l,l.foldl (fun n f=>min n f.bound) n≤f.bound
 |[],n=>⟨Int.le_refl _,fun f hf=>by cases hf⟩
 |e :: l,n=>by
  obtain ⟨h1,h2⟩:=aKP l (min n e.bound);rw [List.foldl_cons];refine ⟨by omega,fun f hf=>?_⟩;rcases List.mem_cons.1 hf with rfl | hf
  ·omega
  ·exact h2 f hf
theorem yM {q:List aK} {f:aK} (h:f∈q):jU q≤f.bound:=by
 cases q with
 |nil=>cases h
 |cons e l=>
  obtain ⟨h1,h2⟩:=aKP l e.bound;rcases List.mem_cons.1 h with rfl | h
  ·exact h1
  ·exact h2 f h
structure aGL (x:aA) (r:bR):Prop where
 le:r.up≤bF
 plan:r.up<bF→x.cost r.plan=(r.up,0)
 low:∀v c,x.way v x.rootS c→r.low≤c
 less:r.low≤r.up
 status:(r.status=2∧r.low=r.up∧r.up<bF)∨(r.status=3∧r.low=bF∧r.up=bF)∨(r.status=4∧r.low<r.up)
theorem eI.left {x:aA} {s:SS} (h:eI x s) {q:List aK} (hq:∀f∈q,f∈s.q):eI x (s.left q):=
 ⟨h.track,fun e he=>h.nos e (hq e he),fun e he=>h.bound e (hq e he),⟨h.found.le,h.found.plan⟩⟩
theorem Covers.left {x:aA} {s:SS} (hs:eI x s) (h:s.Covers x fun _=>False) {q:List aK} {e:aK} (hq:∀f∈s.q,f=e∨f∈q) {n:aC} (hn:s.subs[e.no]? =some n):(s.left q).Covers x (x.goesOn n):=by
 intro v c hv hc;rcases h v c hv hc with hf | ⟨f,hf,m,hm,hg⟩
 ·exact hf.elim
 ·rcases hq f hf with rfl | hf
  ·rw [hn] at hm;cases hm;exact .inl hg
  ·exact .inr ⟨f,hf,m,hm,hg⟩
theorem aEN {x:aA} (hst:x.stops.length<2^31) (hm:x.may=true) (o:aV):∀(f:Nat) (s:SS) (r:bR),eI x s→s.Covers x (fun _=>False)→x.runGo o f s=some r→aGL x r
 |0,s,r,_,_,h=>by cases h
 |f+1,s,r,hs,hc,h=>by
  rw [aA.runGo] at h;cases ht:gB o.order s.q with
  |none=>
   rw [ht] at h;have hq:=aOZ ht;have:r=s.ends:=(Option.some.inj h).symm;subst this
   have hno:∀v c,x.way v x.rootS c→s.up≤c:=fun v c hv=>by
    by_cases hlt:c<s.up
    ·rcases hc v c hv hlt with hf | ⟨e,he,_⟩
     ·exact hf.elim
     ·rw [hq] at he;cases he
    ·omega
   refine ⟨hs.found.le,hs.found.plan,hno,Int.le_refl _,?_⟩;have hle:=hs.found.le;by_cases hu:s.up<bF
   ·exact .inl ⟨if_pos hu,rfl,hu⟩
   ·exact .inr (.inl ⟨if_neg hu,by show s.up=bF;omega,by show s.up=bF;omega⟩)
  |some p=>
   obtain ⟨e,q⟩:=p;rw [ht] at h;simp only at h;obtain ⟨t1,t2,t3,t4⟩:=qG ht;obtain ⟨n,hn⟩:=hs.nos e t1;have hb:=hs.bound e t1 n hn;have hcl:=Covers.left hs hc t2 hn;have hsl:=hs.left t3;by_cases c1:s.up≤e.bound
   ·rw [if_pos c1] at h;refine aEN hst hm o f _ r hsl (fun v c hv hlt=>?_) h;rcases hcl v c hv hlt with ⟨v',d',hv',hd'⟩ | hq
    ·have hlt':c<s.up:=hlt;have:=hb v' d' hv' (by omega);omega
    ·exact .inr hq
   rw [if_neg c1] at h;by_cases c2:o.budget≤s.steps
   ·rw [if_pos c2] at h;have:r=(s.left q).stop e:=(Option.some.inj h).symm;subst this;have hlow:((s.left q).stop e).low=min s.up (min e.bound (jU q)):=rfl;refine ⟨hs.found.le,hs.found.plan,fun v c hv=>?_,?_,.inr (.inr ⟨rfl,?_⟩)⟩
    ·rw [hlow];by_cases hlt:c<s.up
     ·rcases hcl v c hv hlt with ⟨v',d',hv',hd'⟩ | ⟨g,hg,m,hm',v',d',hv',hd'⟩
      ·have:=hb v' d' hv' (by omega);omega
      ·have:=hs.bound g (t3 g hg) m hm' v' d' hv' (by omega);have:jU q≤g.bound:=yM hg;omega
     ·omega
    ·rw [hlow];show _≤s.up;omega
    ·rw [hlow];show _<s.up;omega
   ·rw [if_neg c2] at h;have hgd:s.subs.getD e.no aC.zero=n:=by rw [List.getD_eq_getElem?_getD,hn];rfl
    rw [hgd] at h;obtain ⟨k1,k2⟩:=aK5 hst hm (hs.track n (List.mem_of_getElem? hn)) o.width hsl hcl;exact aEN hst hm o f _ r k1 k2 h
theorem bD6 {x:aA} (hst:x.stops.length<2^31) (hm:x.may=true):eI x x.start∧x.start.Covers x fun _=>False:=by
 have ht:=bE7 hm;have h0:eI x ⟨[],[],bF,[],0,[]⟩:=⟨fun n hn=>by simp at hn,fun e he=>by simp at he,fun e he=>by simp at he,⟨Int.le_refl _,fun h=>absurd h (Int.lt_irrefl _)⟩⟩;have hof:∀v c,x.way v x.rootN.s c→max 0 (x.of x.rootN)≤x.rootN.cost+c:=fun v c hv=>by have h1:=aDN hst ht hv;have h2:=wK hv;have h3:=ht.cost;omega
 refine ⟨h0.push 0 ht fun v c hv _=>hof v c hv,fun v c hv hlt=>?_⟩;rw [aA.start,(p9 x 0 _ x.rootN).1] at hlt;refine .inr (aM3 ⟨v,c,hv,?_⟩ ?_)
 ·show (0:Int)+c≤c;omega
 ·have:=hof v c hv;have h0:x.rootN.cost=0:=rfl;have:c<bF:=hlt;show _<bF;omega
def aV.cs (o:aV):List AV:=[.i o.width,.i o.order,.i o.budget]
def aV.a (o:aV):AV:=.agg o.cs
def aV.mayB (o:aV):Bool:=decide ((1≤o.width∧o.width≤1048576)∧(0≤o.order∧o.order≤2)∧(0≤o.budget∧o.budget≤549755813888))
def aV.near (o:aV):aV:=⟨min (max o.width 1) 1048576,min (max o.order 0) 2,min (max o.budget 0) 549755813888⟩
theorem aYK (o:aV):decide (o.width=o.near.width∧o.order=o.near.order∧o.budget=o.near.budget)=o.mayB:=by refine decide_eq_decide.2 ?_;simp only [aV.near];omega
theorem aSD (o:aV):Pure P 61 [o.a] (o.near.a):=by
 refine aW Tryz.func61 rfl rfl (by simp [Tryz.f61]) (by simp [aE,aE.bndL,aV.a,aV.cs]) (by simp [aE,aE.bndL,aV.a,aV.cs]) fun B hB hnx=>?_
 simp only [Tryz.f61] at hB ⊢;refine aD ?_;simp [go_sem,aV.a,aV.cs];exact ⟨rfl,rfl,rfl⟩
theorem aZN:P.eqGuardType P.depth 36=false:=by kernel_rfl
theorem aZO:P.stoodInHeld 36=false:=by kernel_rfl
theorem aZM (a b:aV):iS P 10000 36 a.a b.a=some (decide (a.width=b.width∧a.order=b.order∧a.budget=b.budget)):=by simp [go_sem,aV.a,aV.cs,aZO]
theorem aMB (o:aV):Pure P 25 [o.a] (.b o.mayB):=by
 refine aW Tryz.func25 rfl rfl (by simp [Tryz.f25]) (by simp [aE,aE.bndL,aV.a,aV.cs]) (by simp [aE,aE.bndL]) fun B hB hnx=>?_
 simp only [Tryz.f25] at hB ⊢;have h:=aSD o;have hn:=aYK o;generalize o.near=p at *;refine aD ?_;simp [go_sem,aV.a,aV.cs];refine bK [] rfl (by rw [hB];kernel_rfl) ?_;refine aD ?_;simp [go_sem];refine bQ rfl rfl rfl (args:=[o.a]) (f:=61) (by simp [go_sem,aV.a,aV.cs]) (h) ?_;refine tX (op:=.eql) (t:=36) (t':=36) (x:=.tmp 3) (y:=.tmp 5) (xs:=o.cs) (ys:=p.cs) (by simp [go_sem]) rfl (by simp [go_sem,aV.cs]) (by simp [go_sem,aV.a,aV.cs]) aZN (aZM o p) rfl ?_;rw [hn];refine aD ?_;simp [go_sem]
set_option maxHeartbeats 1000000
def nT:aV:=⟨0,0,0⟩
def aDV (r:List Int):aV:=⟨r.getD 0 0,r.getD 1 0,r.getD 2 0⟩
def rJ (l:List (List Int)):aV×Int:=
 if l.length=1∧(l.headD []).length=3 then (if (aDV (l.headD [])).mayB=true then (aDV (l.headD []),0) else (nT,1)) else (nT,2)
def cF (b:List Nat):aV×Int:=if (eA b).2≠0 then (nT,(eA b).2) else rJ (eA b).1
theorem aDU (b:List Nat) (hb:b.length<2^63) (hb8:∀c∈b,c<256):Pure P 17 [.t (.sl (aS b))] (.tup [(cF b).1.a,.i (cF b).2]):=by
 generalize hR:cF b=R;refine aW Tryz.func17 rfl rfl (by simp [Tryz.f17]) (by simp [aE,aE.bndL]) (by simp [aE,aE.bndL,aV.a,aV.cs]) fun B hB hnx=>?_
 simp only [Tryz.f17] at hB ⊢;rw [cF] at hR;have hrow:=aC1 b;have hp:=aCZ b hb hb8;refine aD ?_;simp [go_sem];refine aL rfl rfl rfl (args:=[.t (.sl (aS b))]) (f:=40) (by simp [go_sem]) (by simp [go_sem,hB]) ((hp).spec _ _) ?_;generalize (eA b).1=l at *;generalize (eA b).2=e at *;by_cases ce:e=0
 rotate_left
 ·rw [if_pos ce] at hR;subst hR;refine aD ?_;simp [go_sem,ce,aV.a,aV.cs,nT]
 subst ce;rw [if_neg (by simp)] at hR
 match l with
 |[]=>rw [rJ,if_neg (by simp)] at hR;subst hR;refine aD ?_;simp [go_sem,aV.a,aV.cs,nT]
 |r :: s :: l=>
  rw [rJ,if_neg (by simp)] at hR;subst hR;have h1:¬(l.length:Int)+1+1=1:=by omega
  refine aD ?_;simp [go_sem,h1,aV.a,aV.cs,nT]
 |[r]=>
  have hil:(aJ r).length=r.length:=List.length_map _;by_cases h3:(r.length:Int)=3
  rotate_left
  ·rw [rJ,if_neg (by simp;omega)] at hR;subst hR;refine aD ?_;simp [go_sem,aY,hil,h3,aV.a,aV.cs,nT]
  obtain ⟨u,v,w,rfl⟩:∃u v w,r=[u,v,w]:=by
   match r,h3 with
   |[u,v,w],_=>exact ⟨u,v,w,rfl⟩
  rw [rJ,if_pos (by simp)] at hR;have ho:=aMB ⟨u,v,w⟩;have e1:aDV ([[u,v,w]].headD [])=⟨u,v,w⟩:=rfl;rw [e1] at hR;refine aD ?_;simp [go_sem,aY,aJ];refine aF0 (es:=[[.i u],[.i v],[.i w]]) rfl (by simp [go_sem,hB]) rfl aO3 rfl (by simp [go_sem]) (by simp) (by simp) ?_;refine aD ?_;simp [go_sem];refine aL rfl rfl rfl (args:=[(⟨u,v,w⟩:aV).a]) (f:=25) (by simp [go_sem,aV.a,aV.cs]) (by simp [go_sem,hB]) ((ho).spec _ _) ?_;cases co:aV.mayB ⟨u,v,w⟩ with
  |true=>rw [co,if_pos rfl] at hR;subst hR;refine aD ?_;simp [go_sem,aV.a,aV.cs]
  |false=>rw [co,if_neg (by decide)] at hR;subst hR;refine aD ?_;simp [go_sem,aV.a,aV.cs,nT]
def enc (n:Nat):List Nat:=if h:128≤n then (n % 128+128) :: enc (n / 128) else [n]
  decreasing_by omega
def gF (l:List Nat):List (List T):=l.map fun (n:Nat)=>[T.v (.int .u8 n)]
theorem q9 {n:Nat} (h:128≤n):enc n=(n % 128+128) :: enc (n / 128):=by rw [enc,dif_pos h]
theorem pF {n:Nat} (h:¬128≤n):enc n=[n]:=by rw [enc,dif_neg h]
theorem aBN (l:List Nat):(gF l).length=l.length:=List.length_map _
theorem aHA (l:List Nat):∀y∈gF l,y.length=1:=by intro y hy;obtain ⟨n,_,rfl⟩:=List.mem_map.1 hy;rfl
theorem aUI (k:Nat):∀n,n<128^(k+1)→(enc n).length≤k+1:=by
 induction k with
 |zero=>intro n hn;rw [pF (by omega)];simp
 |succ k ih=>
  intro n hn;by_cases h:128≤n
  ·rw [q9 h];have:=ih (n / 128) (by rw [Nat.div_lt_iff_lt_mul (by omega)];rw [Nat.pow_succ] at hn;omega);simp;omega
  ·rw [pF h];simp
theorem sG {n:Nat} (h:n<2^64):(enc n).length≤10:=aUI 9 n (by omega)
theorem aUJ (n:Nat):1≤(enc n).length:=by
 by_cases h:128≤n
 ·rw [q9 h];simp
 ·rw [pF h];simp
end Go.Proofs.YtnoifgjiipgpoaaGreatDoor
