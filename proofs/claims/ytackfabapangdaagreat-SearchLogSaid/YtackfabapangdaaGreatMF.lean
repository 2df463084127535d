/- Parts of the proof: LowP, Law12, Law12b, Once, Once2, OnceR, Expand, Expand2, Law14, OnceP, FrontP, Front, Front2, Front3, Sorted, KeepsP, ExactP, Narrow, ExactQ, Ways, Find, Pot, Look, Best, Law15, NarrowP, Deep. -/
import Derived.Test.YtackfabapangdaaGreatME
set_option linter.all false
set_option maxHeartbeats 4000000
set_option maxRecDepth 4000
namespace Go.Proofs.YtackfabapangdaaGreat
open Go Go.Proofs.YtackfabapangdaaGreat.R
theorem move_pos {x:Inst} {s:State} {j:Int} (h:(x.move s j).2.2=true) (hj:j≠0):x.may=true∧s.mayB x=true∧0<j∧j≤2*x.pairs∧x.lateB s j=false∧(j≤x.pairs→x.fullB s j=false)∧(x.pairs<j→x.emptyB s j=false)∧
  x.move s j=(x.rvisit s j (x.begins s j),far (x.stop s.spot) (x.stop j),true):=by
 obtain ⟨h1,h2,h3,h4,h5⟩:=move_is h
 have k1:x.lateB s j=false:=by
  cases e:x.lateB s j with
  |false=>rfl
  |true=>rw [to_not hj (.inl e)] at h4;cases h4
 have k2:j≤x.pairs→x.fullB s j=false:=fun hp=>by
  cases e:x.fullB s j with
  |false=>rfl
  |true=>rw [to_not hj (.inr (.inl ⟨hp,e⟩))] at h4;cases h4
 have k3:x.pairs<j→x.emptyB s j=false:=fun hp=>by
  cases e:x.emptyB s j with
  |false=>rfl
  |true=>rw [to_not hj (.inr (.inr ⟨hp,e⟩))] at h4;cases h4
 refine ⟨h1,h2,by omega,h3.2,k1,k2,k3,?_⟩
 rw [h5,to_visit hj k1 k2 k3]
theorem move_home {x:Inst} {s:State} (h:(x.move s 0).2.2=true):x.may=true∧s.mayB x=true∧x.stayB s=false∧x.move s 0=(x.homeS s,far (x.stop s.spot) (x.stop 0),true):=by
 obtain ⟨h1,h2,h3,h4,h5⟩:=move_is h
 have e:x.to s 0=x.home s:=by simp [Inst.to]
 rw [e] at h4 h5
 have k1:x.stayB s=false:=by
  cases c:x.stayB s with
  |false=>rfl
  |true=>rw [Inst.home,if_pos c] at h4;cases h4
 refine ⟨h1,h2,k1,?_⟩
 rw [h5,Inst.home,if_neg (by simp [k1])]
theorem has_withN {t k:Nat} (hk:k≤63) (i:Nat):hasB (withN t k) i=(hasB t i||decide (i=k)):=by
 by_cases hi:i≤63
 ·rw [has_testN hi,has_testN hi,with_bit hk]
  by_cases e:i=k
  ·subst e;simp
  ·have:¬k=i:=fun h=>e h.symm
   simp [e,this]
 ·have e1:∀u,hasB u (i:Int)=false:=fun u=>by simp [hasB];omega
  have:¬i=k:=by omega
  simp [e1,this]
theorem lefts_past {may j:Nat} (hj:j≤63):∀(i:Nat) (l:List Int),j<i→lefts (withN may j) i l=lefts may i l
 |_,[],_=>rfl
 |i,d :: l,h=>by
  rw [lefts,lefts,lefts_past hj (i+1) l (by omega),has_withN hj]
  have:¬i=j:=by omega
  simp [this]
theorem lefts_with {may j:Nat} (hj:j≤63) (h1:1≤j):∀(i:Nat) (l:List Int),i≤j→(∀d∈l,0≤d∧d≤14143)→lefts may i l≤lefts (withN may j) i l+l.getD (j-i) 0
 |_,[],_,_=>by simp [lefts]
 |i,d :: l,h,hd=>by
  have h0:=hd d List.mem_cons_self
  have hd':∀e∈l,0≤e∧e≤14143:=fun e he=>hd e (List.mem_cons_of_mem _ he)
  rw [lefts,lefts,has_withN hj]
  by_cases e:i=j
  ·subst e
   rw [lefts_past hj (i+1) l (by omega)]
   simp only [Nat.sub_self,List.getD_cons_zero,decide_true,Bool.or_true]
   split<;>simp<;>omega
  ·have:=lefts_with (may:=may) hj h1 (i+1) l (by omega) hd'
   have e2:j-i=(j-(i+1))+1:=by omega
   rw [e2,List.getD_cons_succ]
   have e3:decide (i=j)=false:=decide_eq_false e
   rw [e3,Bool.or_false]
   omega
theorem nearF_lower {k:Nat} {b:Stop}:∀(l:List Stop) (i:Nat) (v:Int),nearF k b i l v≤v
 |[],_,v=>Int.le_refl _
 |a :: l,i,v=>by
  rw [nearF]
  have:=nearF_lower (k:=k) (b:=b) l (i+1) (if i=k then v else min v (far a b))
  split at this<;>split<;>omega
theorem nearF_far {k:Nat} {b:Stop}:∀(l:List Stop) (i m:Nat) (v:Int) (hm:m<l.length),i+m≠k→nearF k b i l v≤far l[m] b
 |[],_,m,_,hm,_=>by simp at hm
 |a :: l,i,0,v,_,hne=>by
  rw [nearF,if_neg (by omega)]
  have:=nearF_lower (k:=k) (b:=b) l (i+1) (min v (far a b))
  simp only [List.getElem_cons_zero]
  omega
 |a :: l,i,m+1,v,hm,hne=>by
  rw [nearF]
  simpa using nearF_far l (i+1) m _ (by simpa using hm) (by omega)
theorem nearK_far (x:Inst) {k m:Nat} (b:Stop) (hm:m<x.stops.length) (hne:m≠k):x.nearK k b≤far x.stops[m] b:=by
 have h1:=nearF_far (k:=k) (b:=b) x.stops 0 m inf hm (by omega)
 have h2:=far_le x.stops[m] b
 have hinf:inf=1152921504606846976:=rfl
 unfold Inst.nearK
 rcases nearF_le k b 0 x.stops inf (.inr rfl) with h | h
 ·rw [Int.tmod_eq_of_lt h.1 (by omega)];exact h1
 ·omega
theorem near_may {x:Inst} (h:x.may=true):x.near=nears x 0 x.stops:=by rw [Inst.near,if_pos h]
theorem near_getD {x:Inst} {p:Nat} (hx:x.Fit p) (h:x.may=true) {k:Nat} (hk:k≤2*p):x.near.getD k 0=x.nearK k (x.stop k):=by
 have hl:=hx.len
 rw [near_may h,List.getD_eq_getElem?_getD,List.getElem?_eq_getElem (by rw [nears_len];omega),nears_get x 0 x.stops k (by omega),Inst.stop_at (by omega)]
 simp
theorem near_far {x:Inst} {p:Nat} (hx:x.Fit p) (h:x.may=true) {k m:Nat} (hk:k≤2*p) (hm:m≤2*p) (hne:m≠k):x.near.getD k 0≤far (x.stop m) (x.stop k):=by
 have hl:=hx.len
 rw [near_getD hx h hk,Inst.stop_at (k:=m) (by omega)]
 exact nearK_far x _ _ hne
theorem near_length {x:Inst} {p:Nat} (hx:x.Fit p) (h:x.may=true):x.near.length=2*p+1:=by rw [near_may h,nears_len,hx.len]
theorem lowP_cons {near:List Int} {may:Nat} (h:2≤near.length):lowP near may=near.getD 0 0+lefts may 0 near:=by
 match near,h with
 |a :: b :: l,_=>rfl
 |[],h=>simp at h
 |[_],h=>simp at h
theorem lowP_in {near:List Int} (hn:∀d∈near,0≤d∧d≤14143) (may:Nat):0≤lowP near may∧lowP near may≤14143*(near.length+1):=by
 by_cases h:2≤near.length
 ·rw [lowP_cons h]
  have h1:=lefts_in may 0 near hn
  have h2:0≤near.getD 0 0∧near.getD 0 0≤14143:=by
   rw [List.getD_eq_getElem?_getD,List.getElem?_eq_getElem (by omega)]
   exact hn _ (List.getElem_mem _)
  omega
 ·match near,h with
  |[],_=>simp [lowP]
  |[_],_=>simp [lowP]
  |a :: b :: l,h=>simp at h
def State.seenAt (s:State):Prop:=s.spot=0∨hasB s.must s.spot=true
theorem low_step {x:Inst} {s:State} {j:Int} (hs:s.seenAt) (h:(x.move s j).2.2=true):lowP x.near s.can≤(x.move s j).2.1+lowP x.near (x.move s j).1.can:=by
 by_cases hj:j=0
 ·subst hj
  obtain ⟨_,_,_,e⟩:=move_home h
  rw [e]
  have:=(far_le (x.stop s.spot) (x.stop 0)).1
  show _≤far (x.stop s.spot) (x.stop 0)+lowP x.near s.can
  omega
 ·obtain ⟨hm,hmay,h1,h2,h3,_,_,e⟩:=move_pos h hj
  obtain ⟨p,hx⟩:=x.fit hm
  have hp:=hx.pairs
  have hfew:=hx.few
  have hst:=s.fit hx hmay
  rw [e]
  show _≤far (x.stop s.spot) (x.stop j)+lowP x.near (withN s.can j)
  obtain ⟨k,rfl⟩:∃k:Nat,j=k:=⟨j.toNat,by omega⟩
  obtain ⟨m,hmm⟩:∃m:Nat,s.spot=m:=⟨s.spot.toNat,by have:=hst.spot;omega⟩
  have hne:m≠k:=by
   rintro rfl
   rcases hs with hs | hs
   ·omega
   ·rw [Inst.lateB,←hmm,hs] at h3;simp at h3
  have hlen:=near_length hx hm
  have hf:=near_far hx hm (k:=k) (m:=m) (by omega) (by have:=hst.spot;omega) hne
  rw [lowP_cons (by omega),lowP_cons (by omega),hmm]
  have:=lefts_with (may:=s.can) (j:=k) (by omega) (by omega) 0 x.near (by omega) (near_le x)
  rw [Nat.sub_zero] at this
  omega
theorem lefts_all {may:Nat}:∀(i:Nat) (l:List Int),(∀j:Nat,i≤j→j<i+l.length→0<j→hasB may j=true)→lefts may i l=0
 |_,[],_=>rfl
 |i,d :: l,h=>by
  rw [lefts,lefts_all (i+1) l fun j h1 h2 h3=>h j (by omega) (by simp only [List.length_cons];omega) h3]
  have:¬(0<i∧hasB may i=false):=fun ⟨h1,h2⟩=>by
   rw [h i (Nat.le_refl _) (by simp) h1] at h2
   cases h2
  rw [if_neg this]
  rfl
theorem end_is {x:Inst} {s:State} (h:(x.endS s).2=true):x.may=true∧((x.pairs=0∧s=x.rootS∧x.endS s=(0,true))∨
  (s.mayB x=true∧s.spot≠0∧s.on=0∧x.allB s.can=true∧s.time+far (x.stop s.spot) (x.stop 0)≤(x.stop 0).due∧x.endS s=(far (x.stop s.spot) (x.stop 0),true))):=by
 unfold Inst.endS at h ⊢
 split at h
 ·cases h
 ·rename_i h1
  have hm:x.may=true:=by simpa using h1
  refine ⟨hm,?_⟩
  rw [if_neg h1]
  split at h
  ·rename_i h2
   rw [if_pos h2]
   exact .inl ⟨h2.1,h2.2,rfl⟩
  ·rename_i h2
   rw [if_neg h2]
   split at h
   ·rename_i h3
    rw [if_pos h3]
    exact .inr ⟨h3.1,h3.2.1,h3.2.2.1,h3.2.2.2.1,h3.2.2.2.2,rfl⟩
   ·cases h
theorem low_end {x:Inst} {s:State} (h:(x.endS s).2=true):lowP x.near s.can≤(x.endS s).1:=by
 obtain ⟨hm,h⟩:=end_is h
 obtain ⟨p,hx⟩:=x.fit hm
 have hp:=hx.pairs
 have hlen:=near_length hx hm
 rcases h with ⟨h1,h2,e⟩ | ⟨h1,h2,h3,h4,h5,e⟩
 ·rw [e]
  have:x.near.length=1:=by omega
  match hn:x.near,this with
  |[a],_=>simp [lowP]
 ·have hst:=s.fit hx h1
  have hp1:1≤p:=by have:=hst.spot;omega
  rw [e,lowP_cons (by omega),lefts_all 0 x.near fun j _ hj h0=>by
   have:=hx.few
   rw [has_testN (by omega)]
   exact Inst.all_bit hx h4 (by omega) (by omega)]
  obtain ⟨m,hmm⟩:∃m:Nat,s.spot=m:=⟨s.spot.toNat,by have:=hst.spot;omega⟩
  have hf:=near_far hx hm (k:=0) (m:=m) (by omega) (by have:=hst.spot;omega) (by omega)
  rw [hmm]
  show _≤far (x.stop m) (x.stop 0)
  have e0:x.stop ((0:Nat):Int)=x.stop 0:=rfl
  rw [e0] at hf
  omega
theorem seen_step {x:Inst} {s:State} {j:Int} (h:(x.move s j).2.2=true):(x.move s j).1.seenAt:=by
 by_cases hj:j=0
 ·subst hj
  obtain ⟨_,_,_,e⟩:=move_home h
  rw [e]
  exact .inl rfl
 ·obtain ⟨hm,_,h1,h2,_,_,_,e⟩:=move_pos h hj
  obtain ⟨p,hx⟩:=x.fit hm
  have hp:=hx.pairs
  have hfew:=hx.few
  rw [e]
  refine .inr ?_
  show hasB (withN s.must j) j=true
  obtain ⟨k,rfl⟩:∃k:Nat,j=k:=⟨j.toNat,by omega⟩
  rw [has_withN (by omega)]
  simp
end Go.Proofs.YtackfabapangdaaGreat

set_option maxRecDepth 4000
namespace Go.Proofs.YtackfabapangdaaGreat
open Go Go.Proofs.YtackfabapangdaaGreat.R
theorem canB_mem {f:Nat→Bool}:∀{n:Nat} {j:Int},j∈canB f n→∃k:Nat,j=k∧k<n∧f k=true
 |0,j,h=>by cases h
 |n+1,j,h=>by
  rw [canB,List.mem_append] at h
  rcases h with h | h
  ·obtain ⟨k,h1,h2,h3⟩:=canB_mem h
   exact ⟨k,h1,by omega,h3⟩
  ·split at h
   ·rename_i hf
    rw [List.mem_singleton] at h
    exact ⟨n,h,by omega,hf⟩
   ·cases h
theorem moves_mem {x:Inst} {s:State} {j:Int} (h:j∈x.moves s):(x.move s j).2.2=true:=by
 rw [moves_can] at h
 obtain ⟨k,rfl,_,h3⟩:=canB_mem h
 exact h3
theorem moves_len (x:Inst) (s:State):(x.moves s).length≤x.stops.length:=by
 rw [moves_can]
 exact canB_len _ _
theorem move_cost {x:Inst} {s:State} {j:Int} (h:(x.move s j).2.2=true):0≤(x.move s j).2.1∧(x.move s j).2.1≤14143:=by
 obtain ⟨_,_,_,_,e⟩:=move_is h
 rw [e]
 exact far_le _ _
end Go.Proofs.YtackfabapangdaaGreat

set_option maxRecDepth 4000
namespace Go.Proofs.YtackfabapangdaaGreat
open Go Go.Proofs.YtackfabapangdaaGreat.R
theorem sumI_two {a b:Int} (ha:0≤a) (hb:0≤b) (h:a+b≤1152921504606846976):sumI [a,b]=a+b:=by
 simp only [sumI,List.foldl_cons,List.foldl_nil,sum1]
 omega
theorem goes_app (x:Inst):∀(l m:List Int) (s:State) (c:Int),x.goes (l++m) s c=(x.goes l s c).bind fun r=>x.goes m r.1 r.2
 |[],m,s,c=>rfl
 |j :: l,m,s,c=>by
  rw [List.cons_append,Inst.goes,Inst.goes]
  split
  ·exact goes_app x l m _ _
  ·rfl
theorem seen_root (x:Inst):x.rootS.seenAt:=by
 unfold Inst.rootS
 split<;>exact .inl rfl
theorem end_cost {x:Inst} {s:State} (h:(x.endS s).2=true):0≤(x.endS s).1∧(x.endS s).1≤14143:=by
 obtain ⟨_,h | h⟩:=end_is h
 ·rw [h.2.2];omega
 ·rw [h.2.2.2.2.2];exact far_le _ _
theorem ints_one (l:List Int):∀y∈ints l,y.length=1:=by
 intro y hy
 simp only [ints,List.mem_map] at hy
 obtain ⟨n,_,rfl⟩:=hy
 rfl
end Go.Proofs.YtackfabapangdaaGreat

set_option maxRecDepth 4000
namespace Go.Proofs.YtackfabapangdaaGreat
open Go Go.Proofs.YtackfabapangdaaGreat.R
theorem clone_spec (l:List Int) (hl:l.length<4294967296) (σ:Nat→AObj) (nx:Nat):CallSpec P 215 [.t (.sl (ints l))] σ nx (.ref nx) (oput σ nx (.arr 1 (ints l))) (nx+1):=by
 refine CallQ.spec (spec_of Tryz.func215 rfl rfl (by simp [Tryz.f215]) fun B hB hnx hσ=>K_after ?_)
 simp only [Tryz.f215] at hB ⊢
 have hil:(ints l).length=l.length:=List.length_map _
 have hne:ints l=[]↔l=[]:=by simp [ints]
 have h1:=ints_one l
 have hmost:l.length≤mostLen:=by show l.length≤4294967296;omega
 refine K_run hB 100 ?_
 simp [go_sem]
 refine K_nilEq (es:=ints l) rfl rfl (by simp [go_sem,hB]) tt68 rfl (by simp [go_sem]) fun b hb=>?_
 cases b with
 |true=>
  have e:l=[]:=Decidable.byContradiction fun h=>by have:=hb (fun h'=>h (hne.1 h'));cases this
  have e2:ints l=[]:=hne.2 e
  refine K_run hB 100 ?_
  simp [go_sem]
  refine ⟨_,fun a w hr=>rel_own (t:=2) (sz:=1) (by simp [go_sem]) hr,?_⟩
  simp [go_sem,e2]
 |false=>
  refine K_run hB 100 ?_
  simp [go_sem,hil,hne,hmost,if_pos h1]
  refine ⟨_,Imp.self,?_⟩
  simp [go_sem]
theorem own_pure (n:Node) (hl:n.path.length<4294967296):Pure P 217 [n.a] (n.a):=by
 refine pure_of Tryz.func217 rfl rfl (by simp [Tryz.f217]) (by simp [bnd,bnd.bndL,Node.a,Node.cs]) (by simp [bnd,bnd.bndL,Node.a,Node.cs]) fun B hB hnx=>?_
 simp only [Tryz.f217] at hB ⊢
 refine K_run hB 100 ?_
 simp [go_sem,Node.a,Node.cs]
 refine K_call rfl rfl rfl (args:=[.t (.sl (ints n.path))]) (f:=215) (by simp [go_sem]) (by simp [go_sem,hB]) (clone_spec n.path hl _ _) ?_
 refine K_run hB 100 ?_
 simp [go_sem]
end Go.Proofs.YtackfabapangdaaGreat

set_option maxRecDepth 4000
namespace Go.Proofs.YtackfabapangdaaGreat
open Go Go.Proofs.YtackfabapangdaaGreat.R
def sIdx (s:State):List Node→Option Nat
 |[]=>none
 |m :: l=>if m.s=s then some 0 else (sIdx s l).map (·+1)
def once1 (out:List Node) (n:Node):List Node:=match sIdx n.s out with
 |none=>out++[n]
 |some i=>if n.cost<(out.getD i n).cost then out.set i n else out
def onceL (l:List Node):List Node:=l.foldl once1 []
def State.v (s:State):Value:=.agg #[.int .i64 s.spot,.int .i64 s.car,.int .i64 s.time,.int .i64 s.load,.int .i64 s.first,.int .u64 s.must,.int .u64 s.can,.int .u64 s.on]
theorem State.v_inj {a b:State} (h:a.v=b.v):a=b:=by
 simp only [State.v,Value.agg.injEq,Array.mk.injEq,List.cons.injEq,Value.int.injEq,and_true,true_and] at h
 cases a;cases b
 simp only [State.mk.injEq]
 simp only at h
 omega
theorem State.plain (s:State):plainA s.a=some s.v:=rfl
def keysM:Nat→List Node→List (Value×AV)
 |_,[]=>[]
 |k,m :: l=>(m.s.v,.i k) :: keysM (k+1) l
theorem findM_keys (s:State):∀(k:Nat) (out:List Node),findM s.v (keysM k out)=(sIdx s out).map fun i=>(i,.i ((k+i:Nat):Int))
 |_,[]=>rfl
 |k,m :: l=>by
  rw [keysM,findM,sIdx,findM_keys s (k+1) l]
  by_cases h:m.s=s
  ·rw [if_pos (by rw [h]),if_pos h];rfl
  ·rw [if_neg (fun e=>h (State.v_inj e)),if_neg h,Option.map_map,Option.map_map]
   congr 1
   funext i
   simp only [Function.comp]
   rw [show k+1+i=k+(i+1) by omega]
theorem keysM_app (n:Node):∀(k:Nat) (out:List Node),keysM k (out++[n])=keysM k out++[(n.s.v,.i ((k+out.length:Nat):Int))]
 |_,[]=>rfl
 |k,m :: l=>by
  rw [List.cons_append,keysM,keysM,keysM_app n (k+1) l,List.cons_append,List.length_cons,show k+1+l.length=k+(l.length+1) by omega]
theorem keysM_set {n:Node}:∀(k i:Nat) (out:List Node) (h:i<out.length),out[i].s=n.s→keysM k (out.set i n)=keysM k out
 |_,_,[],h,_=>by simp at h
 |k,0,m :: l,_,e=>by simp only [List.set_cons_zero,keysM];rw [show m.s=n.s from e]
 |k,i+1,m :: l,h,e=>by
  rw [List.set_cons_succ,keysM,keysM,keysM_set (k+1) i l (by simpa using h) (by simpa using e)]
theorem sIdx_some {s:State}:∀{out:List Node} {i:Nat},sIdx s out=some i→∃h:i<out.length,out[i].s=s
 |[],i,h=>by simp [sIdx] at h
 |m :: l,i,h=>by
  rw [sIdx] at h
  split at h
  ·rename_i e
   cases h
   exact ⟨by simp,e⟩
  ·obtain ⟨j,h1,rfl⟩:=Option.map_eq_some_iff.1 h
   obtain ⟨h2,h3⟩:=sIdx_some h1
   exact ⟨by simpa using h2,by simpa using h3⟩
theorem keys_tell (s:State) (k:Nat) (out:List Node):TellM P 67 s.a s.v (keysM k out):=by
 induction out generalizing k with
 |nil=>intro e h;cases h
 |cons m l ih=>
  intro e h
  rw [keysM] at h
  rcases List.mem_cons.1 h with rfl | h
  ·refine ⟨m.s.a,m.s.plain,?_⟩
   rw [state_eq]
   congr 1
   rw [decide_eq_decide]
   exact ⟨fun h=>by rw [h],fun h=>(State.v_inj h).symm⟩
  ·exact ih (k+1) e h
theorem state_key (s:State):ckA P 10000 67 s.a=true:=by kernel_rfl
theorem once1_len (out:List Node) (n:Node):(once1 out n).length≤out.length+1:=by
 unfold once1
 split
 ·simp
 ·split<;>simp
def nodesT (l:List Node):List (List T):=l.map Node.t
theorem nodesT_get (l:List Node) {k:Nat} (h:k<l.length):(nodesT l)[k]'(by rw [nodesT,List.length_map];exact h)=l[k].t:=by simp [nodesT]
theorem nodesT_len (l:List Node):∀y∈nodesT l,y.length=10:=by
 intro y hy
 simp only [nodesT,List.mem_map] at hy
 obtain ⟨n,_,rfl⟩:=hy
 rfl
structure Node.Fine (n:Node):Prop where
 ok:n.s.ok
 len:n.path.length<2^31
theorem once_pure (l:List Node) (hl:l.length<2^31) (hn:∀n∈l,n.Fine):Pure P 219 [.t (.sl (nodesT l))] (.t (.sl (nodesT (onceL l)))):=by
 generalize hR:onceL l=R
 refine pure_of Tryz.func219 rfl rfl (by simp [Tryz.f219]) (by simp [bnd,bnd.bndL]) (by simp [bnd,bnd.bndL]) fun B hB hnx=>?_
 simp only [Tryz.f219] at hB ⊢
 have hil:(nodesT l).length=l.length:=List.length_map _
 have hgt:∀(k:Nat) (h:k<l.length),(nodesT l)[k]'(by rw [hil];exact h)=l[k].t:=fun k h=>nodesT_get l h
 generalize hX:nodesT l=X at *
 have hmost:mostLen=4294967296:=rfl
 refine K_run hB 100 ?_
 simp [go_sem,hil]
 refine K_own 4 10 (by simp [go_sem]) ?_
 refine K_loopP (α:=Nat×List Node×Nat×(Nat→AObj)×Nat) (fun (k,out,j,σ,nx)=>k≤l.length∧(l.drop k).foldl once1 out=R∧out.length≤k∧σ 0= .map (keysM 0 out)∧σ j= .arr 10 (nodesT out)∧0<j∧j<nx)
  (fun (k,out,j,σ,nx)=>⟨sl [(3,.mapr 0),(4,.ref j),(10,.t (.sl X)),(11,.i l.length),(12,.i k)],σ,nx⟩) (fun a=>l.length-a.1) (0,[],1,_,2) ?_ (Imp.slots (by simp [go_sem,hil]) rfl rfl) ?_
 ·exact ⟨Nat.zero_le _,hR,Nat.le_refl _,by simp [oput,keysM],by simp [oput,nodesT],by omega,by omega⟩
 rintro ⟨k,out,j,σ,nx⟩ ⟨g1,g2,g3,g4,g5,g6,g7⟩
 refine K_run hB 60 ?_
 simp [go_sem]
 refine fork_dec (fun hk=>?_) (fun hk=>?_)
 ·have hkk:IntKind.i64.wrap ((k:Int)+1)=((k+1:Nat):Int):=by rw [w64 ((k:Int)+1) (by omega)];rfl
  have hget:∀h:k<X.length,X[k]'h=l[k].t:=fun h=>hgt k hk
  rw [List.drop_eq_getElem_cons hk,List.foldl_cons] at g2
  have hfine:=hn l[k] (List.getElem_mem _)
  generalize l[k]=n at *
  have hown:=own_pure n (by have:=hfine.len;omega)
  simp [go_sem,hil,hk,hget,Node.t,g5]
  refine K_lookup (kt:=67) (et:=3) (es:=keysM 0 out) (u:=n.s.v) (m:=0) (r:=match sIdx n.s out with | some i=>.tup [.i i,.b true] | none=>.tup [.i 0,.b false]) rfl rfl (by simp [go_sem,hB]) tt298 rfl tt3 (by kernel_rfl) (by simp [go_sem]) (by simp [go_sem,g4,show ¬0=nx by omega]) (by simp [go_sem];exact n.s.plain) (by simp [go_sem];exact state_key n.s) (by simp [go_sem];exact keys_tell n.s 0 out) ?_ ?_
  ·rw [lookA,findM_keys]
   cases sIdx n.s out with
   |none=>simp [go_sem]
   |some i=>simp
  have ho:once1 out n=match sIdx n.s out with
   |none=>out++[n]
   |some i=>if n.cost<(out.getD i n).cost then out.set i n else out:=rfl
  have hlen:(nodesT out).length=out.length:=List.length_map _
  have hnj:¬j=nx:=by omega
  have hn0:¬0=nx:=by omega
  have h0j:¬0=j:=by omega
  cases hi:sIdx n.s out with
  |none=>
   rw [hi] at ho
   simp only at ho
   rw [ho] at g2
   have hcap:out.length+1≤mostLen:=by omega
   refine K_run hB 100 ?_
   simp [go_sem,g5,hlen,hnj]
   refine K_mapSet (kt:=67) (et:=3) (es:=keysM 0 out) (u:=n.s.v) (m:=0) rfl rfl (by simp [go_sem,hB]) tt298 rfl (by kernel_rfl) (by simp [go_sem]) (by simp [go_sem,g4,hn0]) (by simp [go_sem];exact n.s.plain) (by simp [go_sem];exact state_key n.s) (by simp [go_sem];exact keys_tell n.s 0 out) (.inl (by rw [findM_keys,hi];rfl)) ?_
   refine K_run hB 100 ?_
   simp [go_sem,show ¬nx=0 by omega]
   refine K_call rfl rfl rfl (args:=[n.a]) (f:=217) (by simp [go_sem,Node.a,Node.cs]) (by simp [go_sem,hB]) ((hown).spec _ _) ?_
   refine K_run hB 100 ?_
   simp [go_sem,Node.a,Node.cs,g5,hlen,hcap,hnj,hkk,h0j,show ¬j=0 by omega]
   refine Next.mk (k+1,out++[n],nx+1,_,nx+2) ?_ (Imp.slots (by simp [go_sem]) rfl rfl) (by simp only;omega)
   refine ⟨by simp only;omega,g2,by simp only [List.length_append,List.length_cons,List.length_nil];omega,?_,?_,by simp only;omega,by simp only;omega⟩
   ·simp [oput,hn0,h0j,setM,findM_keys,hi,keysM_app]
   ·simp [oput,nodesT,Node.t]
  |some i=>
   obtain ⟨hil2,his⟩:=sIdx_some hi
   rw [hi] at ho
   simp only at ho
   have hgi:∀h:i<(nodesT out).length,(nodesT out)[i]'h=out[i].t:=fun h=>nodesT_get out hil2
   have hgd:out.getD i n=out[i]:=by rw [List.getD_eq_getElem?_getD,List.getElem?_eq_getElem hil2];rfl
   rw [hgd] at ho
   have q1:i*10 / 10=i:=by omega
   have q2:(i*10+8) / 10=i:=by omega
   have q3:(i*10+8) % 10=8:=by omega
   have q4:i*10 % 10=0:=by omega
   have q5:(i:Int)<out.length:=by omega
   refine K_run hB 100 ?_
   simp [go_sem]
   refine K_drawn [] rfl (by rw [hB];kernel_rfl) ?_
   by_cases c1:n.cost<out[i].cost
   ·rw [if_pos c1] at ho
    rw [ho] at g2
    refine K_run hB 100 ?_
    simp [go_sem,g5,hlen,hnj,hgi,q2,q3,q5,hil2,Node.t,c1]
    refine K_call rfl rfl rfl (args:=[n.a]) (f:=217) (by simp [go_sem,Node.a,Node.cs]) (by simp [go_sem,hB]) ((hown).spec _ _) ?_
    refine K_run hB 100 ?_
    simp [go_sem,Node.a,Node.cs,g5,hlen,hnj,hgi,q1,q4,q5,hil2,Node.t,hkk]
    refine Next.mk (k+1,out.set i n,j,_,nx+1) ?_ (Imp.slots (by simp [go_sem]) rfl rfl) (by simp only;omega)
    refine ⟨by simp only;omega,g2,by simp only [List.length_set];omega,?_,?_,by simp only;omega,by simp only;omega⟩
    ·rw [keysM_set 0 i out hil2 his]
     simp [oput,hn0,h0j,g4]
    ·simp [oput,nodesT,Node.t,List.map_set]
   ·rw [if_neg c1] at ho
    rw [ho] at g2
    refine K_run hB 100 ?_
    simp [go_sem,g5,hlen,hnj,hgi,q2,q3,q5,hil2,Node.t,c1,hkk]
    refine Next.mk (k+1,out,j,_,nx+1) ?_ (Imp.slots (by simp [go_sem]) rfl rfl) (by simp only;omega)
    refine ⟨by simp only;omega,g2,by simp only;omega,?_,?_,by simp only;omega,by simp only;omega⟩
    ·simp [oput,hn0,g4]
    ·simp [oput,hnj,g5]
 ·have:k=l.length:=by omega
  subst this
  rw [List.drop_length,List.foldl_nil] at g2
  subst g2
  simp [go_sem,g5]
end Go.Proofs.YtackfabapangdaaGreat

set_option maxRecDepth 4000
namespace Go.Proofs.YtackfabapangdaaGreat
open Go Go.Proofs.YtackfabapangdaaGreat.R
theorem sIdx_none {s:State}:∀{l:List Node},sIdx s l=none→∀m∈l,m.s≠s
 |[],_,m,h=>by cases h
 |a :: l,h,m,hm=>by
  rw [sIdx] at h
  split at h
  ·cases h
  ·rename_i e
   rcases List.mem_cons.1 hm with rfl | hm
   ·exact e
   ·exact sIdx_none (by simpa using h) m hm
theorem set_states {out:List Node} {n:Node} {i:Nat} (h:i<out.length) (e:out[i].s=n.s):(out.set i n).map Node.s=out.map Node.s:=by
 rw [List.map_set,←e]
 apply List.ext_getElem?
 intro j
 by_cases hj:i=j
 ·subst hj
  rw [List.getElem?_set_self (by simpa using h),List.getElem?_map,List.getElem?_eq_getElem h];rfl
 ·rw [List.getElem?_set_ne hj]
theorem once1_nodup {out:List Node} (h:(out.map Node.s).Nodup) (n:Node):((once1 out n).map Node.s).Nodup:=by
 unfold once1
 split
 ·rename_i e
  rw [List.map_append,List.nodup_append]
  refine ⟨h,by simp,?_⟩
  intro a ha b hb
  simp only [List.map_cons,List.map_nil,List.mem_singleton] at hb
  obtain ⟨m,hm,rfl⟩:=List.mem_map.1 ha
  rw [hb]
  exact sIdx_none e m hm
 ·rename_i i e
  obtain ⟨h1,h2⟩:=sIdx_some e
  split
  ·rw [set_states h1 h2];exact h
  ·exact h
end Go.Proofs.YtackfabapangdaaGreat

set_option maxRecDepth 4000
namespace Go.Proofs.YtackfabapangdaaGreat
open Go Go.Proofs.YtackfabapangdaaGreat.R
def Inst.child (x:Inst) (n:Node) (j:Int):Node:=⟨(x.move n.s j).1,sumI [n.cost,(x.move n.s j).2.1],n.path++[j]⟩
def Node.ra (n:Node) (r:Nat):AV:=.agg [.i n.s.spot,.i n.s.car,.i n.s.time,.i n.s.load,.i n.s.first,.u n.s.must,.u n.s.can,.u n.s.on,.i n.cost,.ref r]
theorem children_pure (x:Inst) (n:Node) (σ:Nat→AObj) (nx:Nat):CallQ P 218 [x.a,n.a] σ nx fun r σ' nx'=>r= .fn (.func 244) [] [.ptr nx 0,.ptr (nx+1) 0]∧nx'=nx+2∧
  σ'=oput (oput σ nx (.box x.cs)) (nx+1) (.box n.cs):=by
 refine spec_of Tryz.func218 rfl rfl (by simp [Tryz.f218]) fun B hB hnx hσ=>?_
 simp only [Tryz.f218] at hB ⊢
 refine K_run hB 100 ?_
 simp [go_sem,Inst.a,Node.a,Node.cs,Inst.cs]
 omega
theorem children1_spec (x:Inst) (n:Node) (hl:x.stops.length<2^63) (ho:n.s.ok) (hp:n.path.length<2^31) (q b1 b2:Nat) (J:Nat→(Nat→AObj)→Nat→Prop) (σ0:Nat→AObj) (nx0:Nat) (h0:J 0 σ0 nx0)
  (hb:∀k σ nx,J k σ nx→nx0≤nx∧b1<nx∧b2<nx∧σ b1= .box x.cs∧σ b2= .box n.cs)
  (hy:∀k (hk:k<(x.moves n.s).length) σ nx σ1 nx1 r,J k σ nx→(∀i,i<nx→σ1 i=σ i)→nx≤r→r<nx1→σ1 r= .arr 1 (ints (n.path++[(x.moves n.s)[k]]))→
   ∃σ' nx',YieldQ P q [(x.child n (x.moves n.s)[k]).ra r] σ1 nx1 (fun a b=>a=σ'∧b=nx')∧J (k+1) σ' nx'):
  CallQ P 244 [.yld q,.ptr b1 0,.ptr b2 0] σ0 nx0 fun _ σ' nx'=>J (x.moves n.s).length σ' nx':=by
 refine spec_of Tryz.func244 rfl rfl (by simp [Tryz.f244]) fun B hB hnx hσ=>?_
 simp only [Tryz.f244] at hB ⊢
 obtain ⟨_,_,_,a1,a2⟩:=hb 0 σ0 nx0 h0
 have hms:=moves_pure x n.s hl ho
 have hmv:=fun j=>move_pure x n.s j hl ho
 have hil:(ints (x.moves n.s)).length=(x.moves n.s).length:=List.length_map _
 have hpl:(ints n.path).length=n.path.length:=List.length_map _
 have hgt:∀(k:Nat) (h:k<(x.moves n.s).length),(ints (x.moves n.s))[k]'(by rw [hil];exact h)=[.i ((x.moves n.s)[k])]:=fun k h=>ints_getS _ h
 have hml:(x.moves n.s).length<2^63:=by
  rw [moves_can]
  have:=canB_len (fun k=>(x.move n.s k).2.2) x.stops.length
  omega
 have hmost:mostLen=4294967296:=rfl
 have hcl:=clone_spec n.path (by omega)
 generalize hX:ints (x.moves n.s)=X at *
 generalize hL:x.moves n.s=L at *
 refine K_run hB 100 ?_
 simp [go_sem,a1,a2,Inst.cs,Node.cs]
 refine K_call rfl rfl rfl (args:=[x.a,n.s.a]) (f:=109) (by simp [go_sem,Inst.a,State.a,State.cs]) (by simp [go_sem,hB]) ((hms).spec _ _) ?_
 refine K_run hB 100 ?_
 simp [go_sem,hil]
 refine K_loopP (α:=Nat×(Nat→AObj)×Nat) (fun (k,σ,nx)=>k≤L.length∧J k σ nx) (fun (k,σ,nx)=>⟨sl [(0,.yld q),(1,.ptr b1 0),(2,.ptr b2 0),(12,.t (.sl X)),(13,.i L.length),(14,.i k)],σ,nx⟩) (fun a=>L.length-a.1) (0,σ0,nx0) ⟨Nat.zero_le _,h0⟩ (Imp.slots (by simp [go_sem]) rfl rfl) ?_
 rintro ⟨k,σ,nx⟩ ⟨g1,g2⟩
 obtain ⟨gn,l1,l2,d1,d2⟩:=hb k σ nx g2
 refine K_run hB 60 ?_
 simp [go_sem]
 refine fork_dec (fun hk=>?_) (fun hk=>?_)
 ·have hkk:IntKind.i64.wrap ((k:Int)+1)=((k+1:Nat):Int):=by rw [w64 ((k:Int)+1) (by omega)];rfl
  have hget:∀h:k<X.length,X[k]'h=[.i L[k]]:=fun h=>hgt k hk
  have hyk:=hy k hk σ nx
  generalize L[k]=j at *
  have hm:=hmv j
  have hch:x.child n j=⟨(x.move n.s j).1,sumI [n.cost,(x.move n.s j).2.1],n.path++[j]⟩:=rfl
  generalize x.child n j=c at *
  generalize x.move n.s j=V at *
  obtain ⟨t,d,is⟩:=V
  simp only at hch
  have hsum:=sum_pure [n.cost,d] (by simp)
  have n1:¬b1=nx:=by omega
  have n2:¬b2=nx:=by omega
  have n3:¬b2=nx+1:=by omega
  have hcap:n.path.length+1≤mostLen:=by omega
  simp [go_sem,hil,hk,hget,d1,d2,Inst.cs,Node.cs]
  refine K_call rfl rfl rfl (args:=[x.a,n.s.a,.i j]) (f:=89) (by simp [go_sem,Inst.a,State.a,State.cs]) (by simp [go_sem,hB]) ((hm).spec _ _) ?_
  refine K_run hB 100 ?_
  simp [go_sem,mv,State.a,State.cs]
  refine K_drawnG [9,12,14] [0,1,10,11] [1] rfl (by rw [hB];kernel_rfl) (by kernel_rfl) fun ht hf'=>?_
  refine K_run hB 100 ?_
  simp [go_sem,ht,hf',d2,n2,Node.cs]
  refine K_dCallP rfl rfl rfl (args:=[.fsl (ints [n.cost,d])]) (f:=87) (by simp [go_sem,ints]) (Pure.loose hsum (by simp [bnd])) ?_
  refine K_run hB 100 ?_
  simp [go_sem,ht,hf',d2,n2,Node.cs]
  refine K_dCall rfl rfl rfl (args:=[.t (.sl (ints n.path))]) (f:=215) (by simp [go_sem]) (hcl _ _) (by decide) (okPends_does (by simp [go_sem])) ?_
  refine K_run hB 100 ?_
  simp [go_sem,ht,hf',hpl,hcap,show ¬nx=nx+1+1 by omega,show ¬nx=nx+1 by omega]
  obtain ⟨σ',nx',h1,h2⟩:=hyk (oput (oput (oput (oput (oput σ nx (.box [.i 0,.i 0,.i 0,.i 0,.i 0,.u 0,.u 0,.u 0])) nx (.box [.i t.spot,.i t.car,.i t.time,.i t.load,.i t.first,.u t.must,.u t.can,.u t.on])) (nx+1) (.arr 1 (ints n.path))) (nx+1) .dead) (nx+2) (.arr 1 (ints n.path++[[.i j]]))) (nx+3) (nx+2) g2 (fun i hi=>by simp [oput,show ¬i=nx by omega,show ¬i=nx+1 by omega,show ¬i=nx+2 by omega]) (by omega) (by omega) (by simp [oput,ints])
  refine K_dYield rfl rfl rfl (q:=q) (args:=[c.ra (nx+2)]) (σ':=σ') (nx':=nx') (by simp [go_sem]) (by simp [go_sem,Node.ra,hch]) h1 (by decide) (okPends_does ⟨.inl (by kernel_rfl),trivial⟩) ?_
  refine K_run hB 100 ?_
  simp [go_sem,hkk]
  exact Next.mk (k+1,σ',nx') ⟨by simp only;omega,h2⟩ (Imp.slots (by simp [go_sem]) rfl rfl) (by simp only;omega)
 ·have:k=L.length:=by omega
  subst this
  simp [go_sem,hnx,g2]
  exact gn
end Go.Proofs.YtackfabapangdaaGreat

set_option maxRecDepth 4000
namespace Go.Proofs.YtackfabapangdaaGreat
open Go Go.Proofs.YtackfabapangdaaGreat.R
def Inst.kids (x:Inst) (up:Int) (n:Node):List Node:=((x.moves n.s).map (x.child n)).filter fun c=>decide (x.of c<up)
def Node.zero:Node:=⟨State.zero,0,[]⟩
def Inst.best1 (x:Inst) (b:Node×Bool) (n:Node):Node×Bool:=
 if (x.endS n.s).2=true∧(b.2=false∨sumI [n.cost,(x.endS n.s).1]<b.1.cost) then ({n with cost:=sumI [n.cost,(x.endS n.s).1]},true) else b
def Inst.bests (x:Inst) (l:List Node):Node×Bool:=l.foldl x.best1 (Node.zero,false)
def Inst.next (x:Inst) (l:List Node) (up:Int):List Node:=onceL (l.flatMap (x.kids up))
theorem moves_33 (x:Inst) (s:State):(x.moves s).length≤33:=by
 cases hm:x.may with
 |false=>
  rw [Inst.moves,if_neg (by simp [hm])];simp
 |true=>
  obtain ⟨p,hx⟩:=x.fit hm
  have:=hx.len
  have:=hx.few
  have:=moves_len x s
  omega
theorem kids_33 (x:Inst) (up:Int) (n:Node):(x.kids up n).length≤33:=by
 unfold Inst.kids
 refine Nat.le_trans (List.length_filter_le _ _) ?_
 rw [List.length_map]
 exact moves_33 x n.s
def expRes (l:List Node) (b:Node×Bool):AV:=.tup [.t (.sl (nodesT l)),b.1.a,.b b.2]
theorem take_kids (x:Inst) (up:Int) (n:Node) {k:Nat} (hk:k<(x.moves n.s).length):
  (((x.moves n.s).take (k+1)).map (x.child n)).filter (fun c=>decide (x.of c<up))=(((x.moves n.s).take k).map (x.child n)).filter (fun c=>decide (x.of c<up))++(if x.of (x.child n (x.moves n.s)[k])<up then [x.child n (x.moves n.s)[k]] else []):=by
 rw [List.take_succ_eq_append_getElem hk,List.map_append,List.filter_append]
 congr 1
 simp only [List.map_cons,List.map_nil,List.filter_cons,List.filter_nil,decide_eq_true_eq]
structure Loop14 (x:Inst) (up:Int) (n:Node) (all:List Node) (b:Node) (L:AObj) (nx0 b1:Nat) (k:Nat) (σ:Nat→AObj) (nx:Nat):Prop where
 o0:σ 0= .box x.cs
 o1:σ 1= .box [.i up]
 o2:σ 2= .box Node.zero.cs
 o4:σ 4= .box b.cs
 p1:σ b1= .box x.cs
 p2:σ (b1+1)= .box n.cs
 q:σ (b1+2)=L
 le:nx0≤nx∧b1+2<nx∧4<b1
 row:∃a,σ 3= .box [.ref a]∧σ a= .arr 10 (nodesT (all++(((x.moves n.s).take k).map (x.child n)).filter fun c=>decide (x.of c<up)))∧4<a∧a<nx∧a≠b1∧a≠b1+1∧a≠b1+2
theorem expand_pure (x:Inst) (l:List Node) (up:Int) (hl:x.stops.length<2^31) (hll:l.length<2^20) (hn:∀n∈l,n.Fine) (hn2:∀n∈l,n.path.length<2^30):Pure P 180 [x.a,.t (.sl (nodesT l)),.i up] (expRes (x.next l up) (x.bests l)):=by
 generalize hR:x.next l up=R
 generalize hRb:x.bests l=Rb
 refine pure_ofR Tryz.func180 rfl rfl (by simp [Tryz.f180]) (by simp [bnd,bnd.bndL,Inst.a]) (by simp [bnd,bnd.bndL,expRes,Node.a,Node.cs]) fun B hB hnx hro=>?_
 simp only [Tryz.f180] at hB ⊢
 have hil:(nodesT l).length=l.length:=List.length_map _
 have hgt:∀(k:Nat) (h:k<l.length),(nodesT l)[k]'(by rw [hil];exact h)=l[k].t:=fun k h=>nodesT_get l h
 generalize hX:nodesT l=X at *
 have hmost:mostLen=4294967296:=rfl
 rw [Inst.next] at hR
 rw [Inst.bests] at hRb
 refine K_run hB 100 ?_
 simp [go_sem,Inst.a,hil]
 refine K_less (((Imp.ownB (b:=3) (off:=0) (sz:=10) (cs:=[.fsl []]) (by simp [go_sem]) rfl).trans (Imp.looseB (b:=2) (cs:=[.i 0,.i 0,.i 0,.i 0,.i 0,.u 0,.u 0,.u 0,.i 0,.fsl []]) (by simp [oput]))).trans (Imp.looseB (b:=4) (cs:=[.i 0,.i 0,.i 0,.i 0,.i 0,.u 0,.u 0,.u 0,.i 0,.fsl []]) (by simp [oput]))) ?_
 refine K_loopP (α:=Nat×List Node×(Node×Bool)×Nat×(Nat→AObj)×Nat) (fun (k,all,b,a,σ,nx)=>k≤l.length∧(all++(l.drop k).flatMap (x.kids up)=l.flatMap (x.kids up)∧all.length≤33*k)∧(l.drop k).foldl x.best1 b=Rb∧σ 0= .box x.cs∧σ 1= .box [.i up]∧σ 2= .box Node.zero.cs∧σ 3= .box [.ref a]∧σ 4= .box b.1.cs∧σ a= .arr 10 (nodesT all)∧4<a∧a<nx)
  (fun (k,all,b,a,σ,nx)=>⟨sl [(3,.ptr 0 0),(5,.ptr 1 0),(7,.ptr 2 0),(9,.ptr 3 0),(10,.ptr 4 0),(11,.b b.2),(18,.t (.sl X)),(19,.i l.length),(20,.i k)],σ,nx⟩) (fun a=>l.length-a.1) (0,[],(Node.zero,false),5,_,6) ?_ (Imp.slots (by simp [go_sem]) rfl rfl) ?_
 ·exact ⟨Nat.zero_le _,⟨rfl,Nat.le_refl _⟩,hRb,by simp [oput,Inst.cs],by simp [oput],by simp [oput,Node.zero,State.zero,Node.cs,ints,loosen],by simp [oput],by simp [oput,Node.zero,State.zero,Node.cs,ints,loosen],by simp [oput,nodesT],by omega,by omega⟩
 rintro ⟨k,all,b,a,σ,nx⟩ ⟨g1,⟨g2,g2'⟩,g3,h0,h1,h2,h3,h4,h5,h6,h7⟩
 refine K_run hB 60 ?_
 simp [go_sem]
 refine fork_dec (fun hk=>?_) (fun hk=>?_)
 ·have hkk:IntKind.i64.wrap ((k:Int)+1)=((k+1:Nat):Int):=by rw [w64 ((k:Int)+1) (by omega)];rfl
  have hget:∀h:k<X.length,X[k]'h=l[k].t:=fun h=>hgt k hk
  rw [List.drop_eq_getElem_cons hk,List.flatMap_cons] at g2
  rw [List.drop_eq_getElem_cons hk,List.foldl_cons] at g3
  have hfine:=hn l[k] (List.getElem_mem _)
  have hpath:=hn2 l[k] (List.getElem_mem _)
  generalize l[k]=n at *
  have hen:=end_pure x n.s (by omega) hfine.ok
  have hown:=own_pure n (by omega)
  have hbe:x.best1 b n=if (x.endS n.s).2=true∧(b.2=false∨sumI [n.cost,(x.endS n.s).1]<b.1.cost) then ({n with cost:=sumI [n.cost,(x.endS n.s).1]},true) else b:=rfl
  have m0:¬0=nx:=by omega
  have m1:¬1=nx:=by omega
  have m2:¬2=nx:=by omega
  have m3:¬3=nx:=by omega
  have m4:¬4=nx:=by omega
  have ma:¬a=nx:=by omega
  have ma4:¬a=4:=by omega
  have mn4:¬nx=4:=by omega
  simp [go_sem,hil,hk,hget,Node.t,h0,m0,Inst.cs]
  refine K_call rfl rfl rfl (args:=[x.a,n.s.a]) (f:=108) (by simp [go_sem,Inst.a,State.a,State.cs]) (by simp [go_sem,hB]) ((hen).spec _ _) ?_
  refine K_run hB 10 ?_
  simp [go_sem]
  refine K_cut (α:=Nat→AObj) (fun σ'=>σ' 0= .box x.cs∧σ' 1= .box [.i up]∧σ' 2= .box Node.zero.cs∧σ' 3= .box [.ref a]∧σ' 4= .box (x.best1 b n).1.cs∧σ' a= .arr 10 (nodesT all)∧σ' nx= .box n.cs)
   (fun σ'=>⟨sl [(3,.ptr 0 0),(5,.ptr 1 0),(7,.ptr 2 0),(9,.ptr 3 0),(10,.ptr 4 0),(11,.b (x.best1 b n).2),(13,.ptr nx 0),(18,.t (.sl X)),(19,.i l.length),(20,.i k)],σ',nx+1⟩) ?_ ?_
  ·have hsum:=sum_pure [n.cost,(x.endS n.s).1] (by simp)
   generalize x.best1 b n=b' at *
   generalize x.endS n.s=E at *
   obtain ⟨c,is⟩:=E
   cases is with
   |false=>
    rw [if_neg (by simp)] at hbe
    subst hbe
    refine K_run hB 100 ?_
    simp [go_sem]
    refine ⟨_,⟨?_,?_,?_,?_,?_,?_,?_⟩,Imp.slots (by simp [go_sem]) rfl rfl⟩
    all_goals simp [oput,m0,m1,m2,m3,m4,ma,h0,h1,h2,h3,h4,h5,Inst.cs,Node.cs]
   |true=>
    simp only [true_and] at hbe
    refine K_run hB 100 ?_
    simp [go_sem]
    refine K_call rfl rfl rfl (args:=[.fsl (ints [n.cost,c])]) (f:=87) (by simp [go_sem,ints]) (by simp [go_sem,hB]) ((Pure.loose hsum (by simp [bnd])).spec _ _) ?_
    generalize sumI [n.cost,c]=e at *
    by_cases c1:b.2=false∨e<b.1.cost
    ·rw [if_pos c1] at hbe
     subst hbe
     cases c2:b.2 with
     |false=>
      refine K_run hB 100 ?_
      simp [go_sem,c2]
      refine K_call rfl rfl rfl (args:=[n.a]) (f:=217) (by simp [go_sem,Node.a,Node.cs]) (by simp [go_sem,hB]) ((hown).spec _ _) ?_
      refine K_run hB 100 ?_
      simp [go_sem,Node.a,Node.cs,h4,m4,mn4]
      refine ⟨_,⟨?_,?_,?_,?_,?_,?_,?_⟩,Imp.slots (by simp [go_sem]) rfl rfl⟩
      all_goals simp [oput,m0,m1,m2,m3,m4,ma,ma4,mn4,h0,h1,h2,h3,h4,h5,Inst.cs,Node.cs]
     |true=>
      have c3:e<b.1.cost:=c1.resolve_left (by simp [c2])
      refine K_run hB 100 ?_
      simp [go_sem,c2,h4,m4,Node.cs,c3]
      refine K_call rfl rfl rfl (args:=[n.a]) (f:=217) (by simp [go_sem,Node.a,Node.cs]) (by simp [go_sem,hB]) ((hown).spec _ _) ?_
      refine K_run hB 100 ?_
      simp [go_sem,Node.a,Node.cs,h4,m4,mn4]
      refine ⟨_,⟨?_,?_,?_,?_,?_,?_,?_⟩,Imp.slots (by simp [go_sem]) rfl rfl⟩
      all_goals simp [oput,m0,m1,m2,m3,m4,ma,ma4,mn4,h0,h1,h2,h3,h4,h5,Inst.cs,Node.cs]
    ·rw [if_neg c1] at hbe
     subst hbe
     have c2:b'.2=true:=by
      cases h:b'.2 with
      |true=>rfl
      |false=>exact absurd (.inl h) c1
     have c3:¬e<b'.1.cost:=fun h=>c1 (.inr h)
     refine K_run hB 100 ?_
     simp [go_sem,c2,h4,m4,Node.cs,c3]
     refine ⟨_,⟨?_,?_,?_,?_,?_,?_,?_⟩,Imp.slots (by simp [go_sem,c2]) rfl rfl⟩
     all_goals simp [oput,m0,m1,m2,m3,m4,ma,h0,h1,h2,h3,h4,h5,Inst.cs,Node.cs]
  rintro σ' ⟨k0,k1,k2,k3,k4,k5,k6⟩
  have hch:=children_pure x n
  refine K_run hB 100 ?_
  simp [go_sem,k0,k6,Inst.cs,Node.cs]
  refine K_callQ rfl rfl rfl (args:=[x.a,n.a]) (f:=218) (by simp [go_sem,Inst.a,Node.a,Node.cs]) (by simp [go_sem,hB]) (hch _ _) ?_
  rintro r σ2 nx2 ⟨rfl,rfl,rfl⟩
  refine K_run hB 100 ?_
  simp [go_sem]
  generalize hb':x.best1 b n=b' at *
  have hsp:=children1_spec x n (by omega) hfine.ok (by omega)
  have hk33:=moves_33 x n.s
  refine K_less (Imp.slots (l:=[(3,.ptr 0 0),(5,.ptr 1 0),(7,.ptr 2 0),(9,.ptr 3 0),(10,.ptr 4 0),(11,.b b'.2),(18,.t (.sl X)),(19,.i l.length),(20,.i k),(51,.fn (.func 244) [] [.ptr (nx+1) 0,.ptr (nx+2) 0])]) (by simp [go_sem]) rfl rfl) ?_
  refine K_range hro (f:=244) (args:=[.yld (nx+3),.ptr (nx+1) 0,.ptr (nx+2) 0]) (by simp [go_sem]) fun L hL=>⟨fun _ σ3 nx3=>Loop14 x up n all b'.1 L (nx+4) (nx+1) (x.moves n.s).length σ3 nx3,?_,?_⟩
  ·refine hsp (nx+3) (nx+1) (nx+2) (Loop14 x up n all b'.1 L (nx+4) (nx+1)) _ (nx+4) ?_ ?_ ?_
   ·refine ⟨?_,?_,?_,?_,?_,?_,?_,by omega,⟨a,?_,?_,by omega,by omega,by omega,by omega,by omega⟩⟩
    all_goals simp [oput,k0,k1,k2,k3,k4,k5,show ¬nx=0 by omega,show ¬nx=1 by omega,show ¬nx=2 by omega,show ¬nx=3 by omega,show ¬0=nx+3 by omega,show ¬1=nx+3 by omega,show ¬2=nx+3 by omega,show ¬3=nx+3 by omega,show ¬4=nx+3 by omega,show ¬a=nx+3 by omega,
     show ¬0=nx+2 by omega,show ¬1=nx+2 by omega,show ¬2=nx+2 by omega,show ¬3=nx+2 by omega,show ¬4=nx+2 by omega,show ¬a=nx+2 by omega,show ¬0=nx+1 by omega,show ¬1=nx+1 by omega,show ¬2=nx+1 by omega,show ¬3=nx+1 by omega,show ¬4=nx+1 by omega,show ¬a=nx+1 by omega,Inst.cs,Node.cs]
   ·rintro k' σ3 nx3 hJ
    have:=hJ.le
    exact ⟨this.1,by omega,by omega,hJ.p1,hJ.p2⟩
   ·intro k' hk' σ3 nx3 σ4 nx4 r hJ hag hr1 hr2 hr3
    have hle:=hJ.le
    obtain ⟨a',r1,r2,r3,r4,r5,r6,r7⟩:=hJ.row
    have htk:=take_kids x up n hk'
    have hcok:(x.child n (x.moves n.s)[k']).s.ok:=move_ok x _ hfine.ok
    have hcp:(x.child n (x.moves n.s)[k']).path=n.path++[(x.moves n.s)[k']]:=rfl
    rw [←hcp] at hr3
    generalize x.child n (x.moves n.s)[k']=c at *
    have hof:=of_pure x c hl hcok
    have hlen:(nodesT (all++(((x.moves n.s).take k').map (x.child n)).filter fun c=>decide (x.of c<up))).length+1≤mostLen:=by
     rw [nodesT,List.length_map,List.length_append]
     have:=List.length_filter_le (fun c=>decide (x.of c<up)) (((x.moves n.s).take k').map (x.child n))
     rw [List.length_map,List.length_take] at this
     omega
    generalize (((x.moves n.s).take k').map (x.child n)).filter (fun c=>decide (x.of c<up))=F at *
    have s0:σ4 0= .box x.cs:=(hag 0 (by omega)).trans hJ.o0
    have s1:σ4 1= .box [.i up]:=(hag 1 (by omega)).trans hJ.o1
    have s2:σ4 2= .box Node.zero.cs:=(hag 2 (by omega)).trans hJ.o2
    have s3:σ4 3= .box [.ref a']:=(hag 3 (by omega)).trans r1
    have s4:σ4 4= .box b'.1.cs:=(hag 4 (by omega)).trans hJ.o4
    have s5:σ4 a'= .arr 10 (nodesT (all++F)):=(hag a' (by omega)).trans r2
    have s6:σ4 (nx+1)= .box x.cs:=(hag (nx+1) (by omega)).trans hJ.p1
    have s7:σ4 (nx+2)= .box n.cs:=(hag (nx+2) (by omega)).trans hJ.p2
    have s8:σ4 (nx+3)=L:=(hag (nx+3) (by omega)).trans hJ.q
    obtain ⟨σ5,hσ5⟩:∃σ5:Nat→AObj,σ5=fun j=>if j=r then AObj.dead else frzO r (ints c.path) (σ4 j):=⟨_,rfl⟩
    have f0:σ5 0= .box x.cs:=by simp [hσ5,show ¬0=r by omega,s0,frzO,frz1,frz1.frzL,Inst.cs]
    have f1:σ5 1= .box [.i up]:=by simp [hσ5,show ¬1=r by omega,s1,frzO,frz1,frz1.frzL]
    have f2:σ5 2= .box Node.zero.cs:=by simp [hσ5,show ¬2=r by omega,s2,frzO,frz1,frz1.frzL,Node.cs]
    have f3:σ5 3= .box [.ref a']:=by simp [hσ5,show ¬3=r by omega,s3,frzO,frz1,frz1.frzL,show ¬a'=r by omega]
    have f4:σ5 4= .box b'.1.cs:=by simp [hσ5,show ¬4=r by omega,s4,frzO,frz1,frz1.frzL,Node.cs]
    have f5:σ5 a'= .arr 10 (nodesT (all++F)):=by simp [hσ5,show ¬a'=r by omega,s5,frzO]
    have f6:σ5 (nx+1)= .box x.cs:=by simp [hσ5,show ¬nx+1=r by omega,s6,frzO,frz1,frz1.frzL,Inst.cs]
    have f7:σ5 (nx+2)= .box n.cs:=by simp [hσ5,show ¬nx+2=r by omega,s7,frzO,frz1,frz1.frzL,Node.cs]
    have f8:σ5 (nx+3)=L:=by simp [hσ5,show ¬nx+3=r by omega,s8,hL,frzO]
    have d0:¬0=nx4:=by omega
    have d1:¬1=nx4:=by omega
    have d2:¬2=nx4:=by omega
    have d3:¬3=nx4:=by omega
    have d4:¬4=nx4:=by omega
    have d5:¬a'=nx4:=by omega
    have d6:¬nx+1=nx4:=by omega
    have d7:¬nx+2=nx4:=by omega
    have d8:¬nx+3=nx4:=by omega
    have hB0:=hB
    by_cases hlt:x.of c<up
    ·refine ⟨oput (oput (oput (oput (oput σ5 nx4 (.box c.cs)) a' .dead) (nx4+1) (.arr 10 (nodesT (all++F)++[c.t]))) 3 (.box [.ref (nx4+1)])) (nx+3) L,nx4+2,?y,?j⟩
     case y=>
      refine yield_of (s8.trans hL) rfl (by rw [hB];rfl) fun B' hB' hnx' hσ'=>?_
      have hL':=hL
      rw [hB] at hL'
      have hB:=hB'.trans hB
      refine K_less ((Imp.freeze (q:=r) (sz:=1) (es:=ints c.path) hr3).trans (Imp.slots (l:=[(3,.ptr 0 0),(5,.ptr 1 0),(9,.ptr 3 0),(52,c.a)]) (by simp [go_sem,roundM,putL,frz1,frz1.frzL,hB0,Node.ra,Node.a,Node.cs]) hσ5 rfl)) ?_
      refine K_run hB 100 ?_
      simp [go_sem,f8,d8,hL,Node.a,Node.cs]
      refine K_run hB 100 ?_
      simp [go_sem]
      refine K_drawn [] rfl (by rw [hB];kernel_rfl) ?_
      refine K_run hB 100 ?_
      simp [go_sem,f0,d0,d8,show ¬nx4=nx+3 by omega,Inst.cs]
      refine K_dCallP rfl rfl rfl (args:=[x.a,c.a]) (f:=35) (by simp [go_sem,Inst.a,Node.a,Node.cs]) (hof) ?_
      refine K_run hB 100 ?_
      simp [go_sem,f1,f3,f5,d1,d3,d5,d8,hlt,hlen,Node.cs,show ¬nx4=nx+3 by omega,show ¬a'=nx+3 by omega,show ¬nx=0 by omega,show ¬nx+3=a' by omega,show ¬nx+3=nx4 by omega,show ¬nx+3=nx4+1 by omega,show ¬nx4=2 by omega,show ¬3=a' by omega,show ¬nx4=nx+2 by omega,f8]
      funext i
      have w1:¬nx=0:=by omega
      have w2:¬a'=nx+3:=by omega
      have w3:¬nx4=nx+3:=by omega
      have w4:¬nx4+1=nx+3:=by omega
      have w6:¬nx4=nx+2:=by omega
      have w7:¬a'=3:=by omega
      have w8:¬a'=nx4+1:=by omega
      by_cases e1:i=nx+3
      ·simp [oput,e1,hL,hB,hB0]
      by_cases e2:i=3
      ·simp [oput,e2,w1]
      by_cases e3:i=nx4+1
      ·simp [oput,e3,w4,w6,Node.t,nodesT]
      by_cases e4:i=a'
      ·simp [oput,e4,w2,w7,w8]
      by_cases e5:i=nx4
      ·simp [oput,e1,e2,e3,e4,e5,w3,Node.cs]
      simp [oput,e1,e2,e3,e4,e5]
     case j=>
      rw [if_pos hlt] at htk
      have v0:∀j,j≤4→j≠3→¬j=a'∧¬j=nx4+1:=by intros;omega
      have w0:¬nx4=0:=by omega
      have w1:¬nx4=1:=by omega
      have w2:¬nx=2:=by omega
      have w3:¬nx=1:=by omega
      have w4:¬nx=nx4:=by omega
      have w5:¬nx=0:=by omega
      have w6:¬nx4=nx+2:=by omega
      have w7:¬nx4=nx+3:=by omega
      have w8:¬nx4=2:=by omega
      have w9:¬nx4=3:=by omega
      have wa:=v0 0 (by omega) (by omega)
      have wb:=v0 1 (by omega) (by omega)
      have wc:=v0 2 (by omega) (by omega)
      have wd:=v0 4 (by omega) (by omega)
      have we:¬nx+1=a':=by omega
      have wf:¬nx+2=a':=by omega
      refine ⟨?_,?_,?_,?_,?_,?_,?_,by omega,⟨nx4+1,?_,?_,by omega,by omega,by omega,by omega,by omega⟩⟩
      ·simp [oput,d0,f0,w0,Inst.cs,wa.1,wa.2,w0,show ¬0=nx4+1 by omega]
      ·simp [oput,d1,f1,wb.1,wb.2,w1,w0]
      ·simp [oput,d2,f2,wc.1,wc.2,w8,Node.cs]
      ·simp [oput,f4,wd.1,wd.2,show ¬4=nx4 by omega,show ¬4=nx4+1 by omega,show ¬4=nx+3 by omega,Node.cs]
      ·simp [oput,d6,f6,we,w2,w4,show ¬nx+1=nx4 by omega,Inst.cs]
      ·simp [oput,d7,f7,wf,show ¬nx+1=nx4 by omega,show ¬nx+2=3 by omega,show ¬nx+2=nx4+1 by omega,Node.cs]
      ·simp [oput]
      ·simp [oput,w5]
      ·rw [htk]
       simp [oput,w6,w8,nodesT]
    ·refine ⟨oput (oput σ5 nx4 (.box c.cs)) (nx+3) L,nx4+1,?y,?j⟩
     case y=>
      refine yield_of (s8.trans hL) rfl (by rw [hB];rfl) fun B' hB' hnx' hσ'=>?_
      have hL':=hL
      rw [hB] at hL'
      have hB:=hB'.trans hB
      refine K_less ((Imp.freeze (q:=r) (sz:=1) (es:=ints c.path) hr3).trans (Imp.slots (l:=[(3,.ptr 0 0),(5,.ptr 1 0),(9,.ptr 3 0),(52,c.a)]) (by simp [go_sem,roundM,putL,frz1,frz1.frzL,hB0,Node.ra,Node.a,Node.cs]) hσ5 rfl)) ?_
      refine K_run hB 100 ?_
      simp [go_sem,f8,d8,hL,Node.a,Node.cs]
      refine K_run hB 100 ?_
      simp [go_sem]
      refine K_drawn [] rfl (by rw [hB];kernel_rfl) ?_
      refine K_run hB 100 ?_
      simp [go_sem,f0,d0,d8,show ¬nx4=nx+3 by omega,Inst.cs]
      refine K_dCallP rfl rfl rfl (args:=[x.a,c.a]) (f:=35) (by simp [go_sem,Inst.a,Node.a,Node.cs]) (hof) ?_
      refine K_run hB 100 ?_
      simp [go_sem,f1,f3,f5,d1,d3,d5,d8,hlt,hlen,Node.cs,show ¬nx4=nx+3 by omega,show ¬a'=nx+3 by omega,show ¬nx=0 by omega,show ¬nx+3=a' by omega,show ¬nx+3=nx4 by omega,show ¬nx+3=nx4+1 by omega,show ¬nx4=2 by omega,show ¬3=a' by omega,show ¬nx4=nx+2 by omega,f8]
      funext i
      have w3:¬nx4=nx+3:=by omega
      by_cases e1:i=nx+3
      ·simp [oput,e1,hL,hB,hB0]
      by_cases e5:i=nx4
      ·simp [oput,e5,w3,Node.cs]
      simp [oput,e1,e5]
     case j=>
      rw [if_neg hlt,List.append_nil] at htk
      have v0:∀j,j≤4→¬j=nx4∧¬j=nx+3:=by intros;omega
      have w0:=v0 0 (by omega)
      have w1:=v0 1 (by omega)
      have w2:=v0 2 (by omega)
      have w3:=v0 3 (by omega)
      have w4:=v0 4 (by omega)
      have we:¬nx+1=nx4:=by omega
      have wf:¬nx+2=nx4:=by omega
      have wg:¬nx=0:=by omega
      have wh:¬a'=nx4:=by omega
      have wi:¬a'=nx+3:=by omega
      refine ⟨?_,?_,?_,?_,?_,?_,?_,by omega,⟨a',?_,?_,by omega,by omega,by omega,by omega,by omega⟩⟩
      ·simp [oput,f0,w0,Inst.cs]
      ·simp [oput,f1,w1,w1.2]
      ·simp [oput,f2,w2,Node.cs]
      ·simp [oput,f4,w4,Node.cs]
      ·simp [oput,f6,we,Inst.cs]
      ·simp [oput,f7,wf,Node.cs]
      ·simp [oput]
      ·simp [oput,f3,w3,wg]
      ·rw [htk]
       simp [oput,f5,wh,wi]
  ·rintro r σ3 nx3 hJ
   refine ⟨hJ.q,?_⟩
   have hle:=hJ.le
   obtain ⟨a',r1,r2,r3,r4,r5,r6,r7⟩:=hJ.row
   rw [List.take_length] at r2
   have hkl:(((x.moves n.s).map (x.child n)).filter fun c=>decide (x.of c<up))=x.kids up n:=rfl
   rw [hkl] at r2
   have hkl2:=kids_33 x up n
   refine K_run hB 100 ?_
   simp [go_sem,hkk]
   refine Next.mk (k+1,all++x.kids up n,b',a',oput σ3 (nx+3) .dead,nx3) ?_ (Imp.slots (by simp [go_sem]) rfl rfl) (by simp only;omega)
   have v0:∀j,j≤4→¬j=nx+3:=by intros;omega
   have w0:=v0 0 (by omega)
   have w1:=v0 1 (by omega)
   have w2:=v0 2 (by omega)
   have w3:¬nx=0:=by omega
   have w4:=v0 4 (by omega)
   have w5:¬a'=nx+3:=by omega
   refine ⟨by simp only;omega,⟨by rw [List.append_assoc];exact g2,by simp only [List.length_append];omega⟩,g3,?_,?_,?_,?_,?_,?_,by simp only;omega,by simp only;omega⟩
   ·simp [oput,w0,hJ.o0]
   ·simp [oput,w1,hJ.o1]
   ·simp [oput,w2,hJ.o2,Node.cs]
   ·simp [oput,w3,r1]
   ·simp [oput,w4,hJ.o4,Node.cs]
   ·simp [oput,w5,r2]
 ·have:k=l.length:=by omega
  subst this
  rw [List.drop_length,List.flatMap_nil,List.append_nil] at g2
  rw [List.drop_length,List.foldl_nil] at g3
  subst g3
  rw [←g2] at hR
  have hfa:∀n∈all,n.Fine:=by
   intro c hc
   rw [g2] at hc
   obtain ⟨n,hn3,hc⟩:=List.mem_flatMap.1 hc
   obtain ⟨hc,-⟩:=List.mem_filter.1 hc
   obtain ⟨j,hj,rfl⟩:=List.mem_map.1 hc
   refine ⟨move_ok x _ (hn n hn3).ok,?_⟩
   have:=hn2 n hn3
   show (n.path++[j]).length<2^31
   rw [List.length_append]
   simp only [List.length_cons,List.length_nil]
   omega
  have hon:=once_pure all (by omega) hfa
  rw [hR] at hon
  refine K_run hB 60 ?_
  simp [go_sem]
  obtain ⟨σ5,hσ5⟩:∃σ5:Nat→AObj,σ5=fun j=>if j=a then AObj.dead else frzO a (nodesT all) (σ j):=⟨_,rfl⟩
  have f0:σ5 0= .box x.cs:=by simp [hσ5,show ¬0=a by omega,h0,frzO,frz1,frz1.frzL,Inst.cs]
  have f2:σ5 2= .box Node.zero.cs:=by simp [hσ5,show ¬2=a by omega,h2,frzO,frz1,frz1.frzL,Node.cs]
  have f3:σ5 3= .box [.t (.sl (nodesT all))]:=by simp [hσ5,show ¬3=a by omega,h3,frzO,frz1,frz1.frzL]
  have f4:σ5 4= .box b.1.cs:=by simp [hσ5,show ¬4=a by omega,h4,frzO,frz1,frz1.frzL,Node.cs]
  refine K_less ((Imp.freeze (q:=a) (sz:=10) (es:=nodesT all) h5).trans (Imp.slots (l:=[(7,.ptr 2 0),(9,.ptr 3 0),(10,.ptr 4 0),(11,.b b.2)]) (by simp [go_sem,frz1,frz1.frzL]) hσ5 rfl)) ?_
  refine K_drawnF [5] [3] rfl (by rw [hB];kernel_rfl) (by kernel_rfl) fun ht hf'=>?_
  refine K_run hB 100 ?_
  simp [go_sem,ht,hf',f3]
  refine K_dCallP rfl rfl rfl (args:=[.t (.sl (nodesT all))]) (f:=219) (by simp [go_sem]) (hon) ?_
  refine K_run hB 100 ?_
  simp [go_sem,ht,hf',f4,f2,Node.cs]
  rfl
end Go.Proofs.YtackfabapangdaaGreat

set_option maxRecDepth 4000
namespace Go.Proofs.YtackfabapangdaaGreat
open Go Go.Proofs.YtackfabapangdaaGreat.R
theorem once1_mem {out:List Node} {n m:Node} (h:m∈once1 out n):m∈out∨m=n:=by
 unfold once1 at h
 split at h
 ·rcases List.mem_append.1 h with h | h
  ·exact .inl h
  ·exact .inr (List.mem_singleton.1 h)
 ·split at h
  ·exact List.mem_or_eq_of_mem_set h
  ·exact .inl h
theorem fold_mem:∀(l out:List Node) {m:Node},m∈l.foldl once1 out→m∈out∨m∈l
 |[],out,m,h=>.inl h
 |n :: l,out,m,h=>by
  rcases fold_mem l (once1 out n) h with h | h
  ·rcases once1_mem h with h | rfl
   ·exact .inl h
   ·exact .inr List.mem_cons_self
  ·exact .inr (List.mem_cons_of_mem _ h)
theorem onceL_mem {l:List Node} {m:Node} (h:m∈onceL l):m∈l:=(fold_mem l [] h).resolve_left (by simp)
theorem fold_len:∀(l out:List Node),(l.foldl once1 out).length≤out.length+l.length
 |[],out=>Nat.le_refl _
 |n :: l,out=>by
  have h1:=fold_len l (once1 out n)
  have h2:=once1_len out n
  simp only [List.foldl_cons,List.length_cons]
  omega
theorem onceL_len (l:List Node):(onceL l).length≤l.length:=by
 have:=fold_len l []
 simpa [onceL] using this
theorem flat_len {α β:Type} (f:α→List β) (k:Nat) (h:∀a,(f a).length≤k):∀l:List α,(l.flatMap f).length≤k*l.length
 |[]=>by simp
 |a :: l=>by
  have h1:=h a
  have h2:=flat_len f k h l
  rw [List.flatMap_cons,List.length_append,List.length_cons,Nat.mul_add]
  omega
theorem next_len (x:Inst) (l:List Node) (up:Int):(x.next l up).length≤33*l.length:=
 Nat.le_trans (onceL_len _) (flat_len _ 33 (kids_33 x up) l)
theorem next_mem {x:Inst} {l:List Node} {up:Int} {m:Node} (h:m∈x.next l up):∃n∈l,∃j∈x.moves n.s,m=x.child n j∧x.of m<up:=by
 obtain ⟨n,hn,hc⟩:=List.mem_flatMap.1 (onceL_mem h)
 obtain ⟨hc,hu⟩:=List.mem_filter.1 hc
 obtain ⟨j,hj,rfl⟩:=List.mem_map.1 hc
 exact ⟨n,hn,j,hj,rfl,by simpa using hu⟩
theorem best_path (x:Inst) (k:Nat):∀(l:List Node) (b:Node×Bool),(∀n∈l,n.path.length≤k)→b.1.path.length≤k→(l.foldl x.best1 b).1.path.length≤k
 |[],b,h,hb=>hb
 |n :: l,b,h,hb=>by
  refine best_path x k l _ (fun m hm=>h m (List.mem_cons_of_mem _ hm)) ?_
  unfold Inst.best1
  split
  ·exact h n List.mem_cons_self
  ·exact hb
theorem bests_path {x:Inst} {k:Nat} {l:List Node} (h:∀n∈l,n.path.length≤k):(x.bests l).1.path.length≤k:=best_path x k l _ h (Nat.zero_le _)
end Go.Proofs.YtackfabapangdaaGreat

set_option maxRecDepth 4000
namespace Go.Proofs.YtackfabapangdaaGreat
open Go Go.Proofs.YtackfabapangdaaGreat.R
theorem fold_nodup:∀(l out:List Node),(out.map Node.s).Nodup→((l.foldl once1 out).map Node.s).Nodup
 |[],_,h=>h
 |n :: l,out,h=>fold_nodup l _ (once1_nodup h n)
theorem onceL_nodup (l:List Node):((onceL l).map Node.s).Nodup:=fold_nodup l [] (by simp)
theorem once1_self (out:List Node) (n:Node):∃m∈once1 out n,m.s=n.s∧m.cost≤n.cost:=by
 unfold once1
 split
 ·exact ⟨n,by simp,rfl,Int.le_refl _⟩
 ·rename_i i e
  obtain ⟨h1,h2⟩:=sIdx_some e
  have hgd:out.getD i n=out[i]:=by rw [List.getD_eq_getElem?_getD,List.getElem?_eq_getElem h1];rfl
  rw [hgd]
  split
  ·exact ⟨n,List.mem_set h1 n,rfl,Int.le_refl _⟩
  ·exact ⟨out[i],List.getElem_mem h1,h2,by omega⟩
theorem once1_has (out:List Node) (n k:Node) (h:∃m∈out,m.s=k.s∧m.cost≤k.cost):∃m∈once1 out n,m.s=k.s∧m.cost≤k.cost:=by
 obtain ⟨m,hm,h1,h2⟩:=h
 unfold once1
 split
 ·exact ⟨m,List.mem_append_left _ hm,h1,h2⟩
 ·rename_i i e
  obtain ⟨h3,h4⟩:=sIdx_some e
  have hgd:out.getD i n=out[i]:=by rw [List.getD_eq_getElem?_getD,List.getElem?_eq_getElem h3];rfl
  rw [hgd]
  split
  ·rename_i hc
   obtain ⟨j,hj,rfl⟩:=List.mem_iff_getElem.1 hm
   by_cases e2:i=j
   ·subst e2
    exact ⟨n,List.mem_set h3 n,by rw [←h4,h1],by omega⟩
   ·refine ⟨out[j],?_,h1,h2⟩
    rw [List.mem_iff_getElem]
    exact ⟨j,by simpa using hj,by rw [List.getElem_set_ne e2]⟩
  ·exact ⟨m,hm,h1,h2⟩
theorem fold_has:∀(l out:List Node) (k:Node),(k∈l∨∃m∈out,m.s=k.s∧m.cost≤k.cost)→∃m∈l.foldl once1 out,m.s=k.s∧m.cost≤k.cost
 |[],out,k,h=>h.resolve_left (by simp)
 |n :: l,out,k,h=>by
  refine fold_has l (once1 out n) k ?_
  rcases h with h | h
  ·rcases List.mem_cons.1 h with rfl | h
   ·exact .inr (once1_self out k)
   ·exact .inl h
  ·exact .inr (once1_has out n k h)
theorem onceL_has {l:List Node} {k:Node} (h:k∈l):∃m∈onceL l,m.s=k.s∧m.cost≤k.cost:=fold_has l [] k (.inl h)
theorem nodup_len {α:Type} [DecidableEq α]:∀(l m:List α),l.Nodup→(∀a∈l,a∈m)→l.length≤m.length
 |[],m,_,_=>Nat.zero_le _
 |a :: l,m,h,hs=>by
  rw [List.nodup_cons] at h
  have ha:=hs a List.mem_cons_self
  have:=nodup_len l (m.erase a) h.2 fun b hb=>by
   have:b≠a:=fun e=>h.1 (e ▸ hb)
   exact (List.mem_erase_of_ne this).2 (hs b (List.mem_cons_of_mem _ hb))
  rw [List.length_erase_of_mem ha] at this
  have:=List.length_pos_of_mem ha
  rw [List.length_cons]
  omega
end Go.Proofs.YtackfabapangdaaGreat

set_option maxRecDepth 4000
namespace Go.Proofs.YtackfabapangdaaGreat
open Go Go.Proofs.YtackfabapangdaaGreat.R
theorem within_refl (s:Nat):withinB s s=true:=by
 rw [withinB,List.all_eq_true]
 intro i _
 cases s.testBit i<;>rfl
theorem within_trans {s t u:Nat} (h1:withinB s t=true) (h2:withinB t u=true):withinB s u=true:=by
 rw [withinB,List.all_eq_true] at *
 intro i hi
 have a:=h1 i hi
 have b:=h2 i hi
 revert a b
 cases s.testBit i<;>cases t.testBit i<;>cases u.testBit i<;>simp
def Node.than (a b:Node):Bool:=decide (a.cost≤b.cost)&&(decide (a.s.must=b.s.must)&&decide (a.s.can=b.s.can)&&decide (a.s.on=b.s.on))&&coversB a.s b.s
theorem covers_refl (s:State):coversB s s=true:=by
 simp [coversB,within_refl]
theorem covers_trans {a b c:State} (h1:coversB a b=true) (h2:coversB b c=true):coversB a c=true:=by
 simp only [coversB,Bool.and_eq_true,decide_eq_true_eq] at *
 obtain ⟨⟨⟨⟨⟨⟨⟨a1,a2⟩,a3⟩,a4⟩,a5⟩,a6⟩,a7⟩,a8⟩:=h1
 obtain ⟨⟨⟨⟨⟨⟨⟨b1,b2⟩,b3⟩,b4⟩,b5⟩,b6⟩,b7⟩,b8⟩:=h2
 exact ⟨⟨⟨⟨⟨⟨⟨a1.trans b1,within_trans a2 b2⟩,within_trans a3 b3⟩,within_trans b4 a4⟩,by omega⟩,by omega⟩,by omega⟩,by omega⟩
theorem than_refl (a:Node):a.than a=true:=by simp [Node.than,covers_refl]
theorem than_trans {a b c:Node} (h1:a.than b=true) (h2:b.than c=true):a.than c=true:=by
 simp only [Node.than,Bool.and_eq_true,decide_eq_true_eq] at *
 obtain ⟨⟨a1,⟨a2,a3⟩,a4⟩,a5⟩:=h1
 obtain ⟨⟨b1,⟨b2,b3⟩,b4⟩,b5⟩:=h2
 exact ⟨⟨by omega,⟨by omega,by omega⟩,by omega⟩,covers_trans a5 b5⟩
def front1 (out:List Node) (b:Node):List Node:=if out.any (fun a=>a.than b)=true then out else (out.filter fun a=>!b.than a)++[b]
def frontL (l:List Node):List Node:=l.foldl front1 []
def blk (pre:List Node) (b:Node) (post:List Node):Bool:=pre.any (fun a=>a.than b)||post.any fun c=>c.than b&& !b.than c
def frR (pre:List Node):List Node→List Node→List Node
 |[],_=>[]
 |b :: l,post=>(if blk pre b (l++post)=true then [] else [b])++frR (pre++[b]) l post
theorem frR_post (c:Node):∀(l pre:List Node),frR pre l [c]=(frR pre l []).filter fun b=>!(c.than b&& !b.than c)
 |[],pre=>rfl
 |b :: l,pre=>by
  rw [frR,frR,List.filter_append,frR_post c l]
  congr 1
  have:blk pre b (l++[c])=(blk pre b (l++[])||(c.than b&& !b.than c)):=by
   simp [blk,Bool.or_assoc]
  rw [this]
  generalize hq:(c.than b&& !b.than c)=q
  cases blk pre b (l++[])<;>cases q<;>simp only [Bool.or_true,Bool.or_false,Bool.false_eq_true,if_true,if_false,List.filter_cons,List.filter_nil,hq,Bool.not_true,Bool.not_false]
theorem frR_app (c:Node):∀(l pre:List Node),frR pre (l++[c]) []=frR pre l [c]++(if (pre++l).any (fun a=>a.than c)=true then [] else [c])
 |[],pre=>by simp [frR,blk]
 |b :: l,pre=>by
  rw [List.cons_append,frR,frR,frR_app c l,List.append_nil,List.append_assoc,List.append_assoc]
  simp
structure FrInv (pre F:List Node):Prop where
 up:∀a∈pre,∃f∈F,f.than a=true
 sub:∀f∈F,f∈pre
 one:∀f∈F,∀b∈F,f.than b=true→f=b
 eq:F=frR [] pre []
theorem FrInv.step {pre F:List Node} (h:FrInv pre F) (c:Node):FrInv (pre++[c]) (front1 F c):=by
 have hany:pre.any (fun a=>a.than c)=F.any fun a=>a.than c:=by
  rw [Bool.eq_iff_iff,List.any_eq_true,List.any_eq_true]
  constructor
  ·rintro ⟨a,ha,hc⟩
   obtain ⟨f,hf,hfa⟩:=h.up a ha
   exact ⟨f,hf,than_trans hfa hc⟩
  ·rintro ⟨f,hf,hc⟩
   exact ⟨f,h.sub f hf,hc⟩
 have he:frR [] (pre++[c]) []=front1 F c:=by
  rw [frR_app,frR_post,←h.eq,List.nil_append,hany]
  unfold front1
  by_cases hc:F.any (fun a=>a.than c)=true
  ·rw [if_pos hc,if_pos hc,List.append_nil]
   rw [List.filter_eq_self]
   intro b hb
   rw [List.any_eq_true] at hc
   obtain ⟨f,hf,hfc⟩:=hc
   cases h1:c.than b with
   |false=>rfl
   |true=>
    have:=h.one f hf b hb (than_trans hfc h1)
    subst this
    simp [hfc]
  ·rw [if_neg hc,if_neg hc]
   congr 1
   refine List.filter_congr fun b hb=>?_
   have:b.than c=false:=by
    cases h1:b.than c with
    |false=>rfl
    |true=>exact absurd (List.any_eq_true.2 ⟨b,hb,h1⟩) hc
   simp [this]
 refine ⟨?_,?_,?_,he.symm⟩
 ·intro a ha
  unfold front1
  split
  ·rename_i hc
   rcases List.mem_append.1 ha with ha | ha
   ·exact h.up a ha
   ·rw [List.mem_singleton.1 ha]
    obtain ⟨f,hf,hfc⟩:=List.any_eq_true.1 hc
    exact ⟨f,hf,hfc⟩
  ·rcases List.mem_append.1 ha with ha | ha
   ·obtain ⟨f,hf,hfa⟩:=h.up a ha
    cases h1:c.than f with
    |true=>exact ⟨c,by simp,than_trans h1 hfa⟩
    |false=>exact ⟨f,List.mem_append_left _ (List.mem_filter.2 ⟨hf,by simp [h1]⟩),hfa⟩
   ·rw [List.mem_singleton.1 ha]
    exact ⟨c,by simp,than_refl c⟩
 ·intro f hf
  unfold front1 at hf
  split at hf
  ·exact List.mem_append_left _ (h.sub f hf)
  ·rcases List.mem_append.1 hf with hf | hf
   ·exact List.mem_append_left _ (h.sub f (List.mem_filter.1 hf).1)
   ·exact List.mem_append_right _ hf
 ·intro f hf b hb hfb
  unfold front1 at hf hb
  split at hf
  ·rename_i hc
   rw [if_pos hc] at hb
   exact h.one f hf b hb hfb
  ·rename_i hc
   rw [if_neg hc] at hb
   rcases List.mem_append.1 hf with hf | hf<;>rcases List.mem_append.1 hb with hb | hb
   ·exact h.one f (List.mem_filter.1 hf).1 b (List.mem_filter.1 hb).1 hfb
   ·rw [List.mem_singleton.1 hb] at hfb
    exact absurd (List.any_eq_true.2 ⟨f,(List.mem_filter.1 hf).1,hfb⟩) hc
   ·rw [List.mem_singleton.1 hf] at hfb
    have:=(List.mem_filter.1 hb).2
    rw [hfb] at this
    cases this
   ·rw [List.mem_singleton.1 hf,List.mem_singleton.1 hb]
theorem FrInv.fold:∀{l pre F:List Node},FrInv pre F→FrInv (pre++l) (l.foldl front1 F)
 |[],pre,F,h=>by rw [List.append_nil];exact h
 |c :: l,pre,F,h=>by
  have:=(h.step c).fold (l:=l)
  rw [List.append_assoc] at this
  exact this
theorem front_inv (l:List Node):FrInv l (frontL l):=by
 have:FrInv [] []:=⟨by simp,by simp,by simp,rfl⟩
 exact this.fold (l:=l)
end Go.Proofs.YtackfabapangdaaGreat

set_option maxRecDepth 4000
namespace Go.Proofs.YtackfabapangdaaGreat
open Go Go.Proofs.YtackfabapangdaaGreat.R
theorem sets_pure (s:State):Pure P 265 [s.a] (.agg [.u s.must,.u s.can,.u s.on]):=by
 refine pure_of Tryz.func265 rfl rfl (by simp [Tryz.f265]) (by simp [bnd,bnd.bndL,State.a,State.cs]) (by simp [bnd,bnd.bndL]) fun B hB hnx=>?_
 simp only [Tryz.f265] at hB ⊢
 refine K_run hB 100 ?_
 simp [go_sem,State.a,State.cs]
theorem sets_guard:P.eqGuardType P.depth 227=false:=by kernel_rfl
theorem than_pure (a b:Node):Pure P 252 [a.a,b.a] (.b (a.than b)):=by
 generalize hR:a.than b=R
 refine pure_of Tryz.func252 rfl rfl (by simp [Tryz.f252]) (by simp [bnd,bnd.bndL,Node.a,Node.cs]) (by simp [bnd,bnd.bndL]) fun B hB hnx=>?_
 simp only [Tryz.f252] at hB ⊢
 have hs1:=sets_pure a.s
 have hs2:=sets_pure b.s
 have hc:=covers_pure a.s b.s
 rw [Node.than] at hR
 refine K_run hB 100 ?_
 simp [go_sem,Node.a,Node.cs]
 refine K_drawn [] rfl (by rw [hB];kernel_rfl) ?_
 by_cases c1:a.cost≤b.cost
 ·rw [decide_eq_true c1,Bool.true_and] at hR
  refine K_run hB 100 ?_
  simp [go_sem,c1]
  refine K_dCallP rfl rfl rfl (args:=[a.s.a]) (f:=265) (by simp [go_sem,State.a,State.cs]) (hs1) ?_
  refine K_run hB 100 ?_
  simp [go_sem]
  refine K_dCallP rfl rfl rfl (args:=[b.s.a]) (f:=265) (by simp [go_sem,State.a,State.cs]) (hs2) ?_
  refine K_run hB 100 ?_
  simp [go_sem]
  refine K_dEq3 (x:=.tmp 13) (y:=.tmp 16) (a:=a.s.must) (b:=a.s.can) (c:=a.s.on) (a':=b.s.must) (b':=b.s.can) (c':=b.s.on) rfl rfl (by simp [go_sem]) (by simp [go_sem]) sets_guard (e:=65) (by kernel_rfl) (Option.some_get (show (P.info? 65).isSome=true by kernel_rfl)).symm (by kernel_rfl) (by kernel_rfl) (by kernel_rfl) ?_
  have he:(((a.s.must:Int)==(b.s.must:Int))&&(((a.s.can:Int)==(b.s.can:Int))&&((a.s.on:Int)==(b.s.on:Int))))=(decide (a.s.must=b.s.must)&&decide (a.s.can=b.s.can)&&decide (a.s.on=b.s.on)):=by
   rw [Bool.eq_iff_iff]
   simp only [Bool.and_eq_true,beq_iff_eq,decide_eq_true_eq,and_assoc]
   omega
  rw [he]
  cases c2:(decide (a.s.must=b.s.must)&&decide (a.s.can=b.s.can)&&decide (a.s.on=b.s.on)) with
  |false=>
   rw [c2,Bool.false_and] at hR
   subst hR
   refine K_run hB 100 ?_
   simp [go_sem]
  |true=>
   rw [c2,Bool.true_and] at hR
   rw [hR] at hc
   refine K_run hB 100 ?_
   simp [go_sem]
   refine K_dCallP rfl rfl rfl (args:=[a.s.a,b.s.a]) (f:=177) (by simp [go_sem,State.a,State.cs]) (hc) ?_
   refine K_run hB 100 ?_
   simp [go_sem]
 ·rw [decide_eq_false c1,Bool.false_and] at hR
  subst hR
  refine K_run hB 100 ?_
  simp [go_sem,c1]
theorem front1_spec (a b:Node) {σ:Nat→AObj} {nx q:Nat} (hq:q<nx) (hb:σ q= .box b.cs):CallSpec P 251 [a.a,.ptr q 0] σ nx (.b (a.than b)) σ nx:=by
 have hth:=than_pure a b
 have e:σ=oput σ q (σ q):=by funext i;by_cases h:i=q<;>simp [oput,h]
 have h:CallSpec P 251 [a.a,.ptr q 0] σ nx (.b (a.than b)) (oput σ q (σ q)) nx:=by
  refine spec_down Tryz.func251 rfl rfl (by simp [Tryz.f251]) hq (by rw [hb];simp [bndO,bnd,bnd.bndL,Node.cs]) (by simp [bnd]) fun hk B hB hnx hσ=>?_
  simp only [Tryz.f251] at hB ⊢
  have hne:¬q=nx:=by omega
  refine K_run hB 100 ?_
  simp [go_sem,Node.a,Node.cs,hb,hne]
  refine K_call rfl rfl rfl (args:=[a.a,b.a]) (f:=252) (by simp [go_sem,Node.a,Node.cs]) (by simp [go_sem,hB]) ((hth).spec _ _) ?_
  refine K_run hB 100 ?_
  simp [go_sem]
  exact ⟨by simp [hne,hb,Node.cs],fun i h1 h2 h3=>by omega⟩
 rw [←e] at h
 exact h
theorem front2_spec (a b:Node) {σ:Nat→AObj} {nx q:Nat} (hq:q<nx) (hb:σ q= .box b.cs):CallSpec P 254 [a.a,.ptr q 0] σ nx (.b (b.than a)) σ nx:=by
 have hth:=than_pure b a
 have e:σ=oput σ q (σ q):=by funext i;by_cases h:i=q<;>simp [oput,h]
 have h:CallSpec P 254 [a.a,.ptr q 0] σ nx (.b (b.than a)) (oput σ q (σ q)) nx:=by
  refine spec_down Tryz.func254 rfl rfl (by simp [Tryz.f254]) hq (by rw [hb];simp [bndO,bnd,bnd.bndL,Node.cs]) (by simp [bnd]) fun hk B hB hnx hσ=>?_
  simp only [Tryz.f254] at hB ⊢
  have hne:¬q=nx:=by omega
  refine K_run hB 100 ?_
  simp [go_sem,Node.a,Node.cs,hb,hne]
  refine K_call rfl rfl rfl (args:=[b.a,a.a]) (f:=252) (by simp [go_sem,Node.a,Node.cs]) (by simp [go_sem,hB]) ((hth).spec _ _) ?_
  refine K_run hB 100 ?_
  simp [go_sem]
  exact ⟨by simp [hne,hb,Node.cs],fun i h1 h2 h3=>by omega⟩
 rw [←e] at h
 exact h
def idxF (p:Node→Bool):Nat→List Node→Int
 |_,[]=>-1
 |i,n :: l=>if p n=true then (i:Int) else idxF p (i+1) l
theorem idxF_any (p:Node→Bool):∀(i:Nat) (l:List Node),(0≤idxF p i l)↔l.any p=true
 |_,[]=>by simp [idxF]
 |i,n :: l=>by
  rw [idxF,List.any_cons]
  cases h:p n with
  |true=>simp
  |false=>simp [idxF_any p (i+1) l]
theorem indexF_spec (F:List Node) (p:Node→Bool) {σ:Nat→AObj} {nx r q:Nat} {f:FuncId} (hr:σ r= .arr 10 (nodesT F)) (hF:F.length<2^31) (hf:∀n,CallSpec P f [n.a,.ptr q 0] σ nx (.b (p n)) σ nx):
  CallSpec P 264 [.ref r,.fn (.func f) [] [.ptr q 0]] σ nx (.i (idxF p 0 F)) σ nx:=by
 generalize hR:idxF p 0 F=R
 refine CallQ.spec (spec_of Tryz.func264 rfl rfl (by simp [Tryz.f264]) fun B hB hnx hσ=>?_)
 simp only [Tryz.f264] at hB ⊢
 have hil:(nodesT F).length=F.length:=List.length_map _
 have hgt:∀(k:Nat) (h:k<F.length),(nodesT F)[k]'(by rw [hil];exact h)=F[k].t:=fun k h=>nodesT_get F h
 refine K_run hB 100 ?_
 simp [go_sem,hr,hil]
 refine K_loopP (α:=Nat) (fun k=>k≤F.length∧idxF p k (F.drop k)=R) (fun k=>⟨sl [(1,.fn (.func f) [] [.ptr q 0]),(0,.ref r),(7,.i F.length),(8,.i k)],σ,nx⟩) (fun k=>F.length-k) 0 ⟨Nat.zero_le _,hR⟩ (Imp.slots (by simp [go_sem]) rfl rfl) ?_
 rintro k ⟨g1,g2⟩
 refine K_run hB 60 ?_
 simp [go_sem]
 refine fork_dec (fun hk=>?_) (fun hk=>?_)
 ·have hkk:IntKind.i64.wrap ((k:Int)+1)=((k+1:Nat):Int):=by rw [w64 ((k:Int)+1) (by omega)];rfl
  have hget:∀h:k<(nodesT F).length,(nodesT F)[k]'h=F[k].t:=fun h=>hgt k hk
  rw [List.drop_eq_getElem_cons hk,idxF] at g2
  generalize F[k]=n at *
  have hp:=hf n
  have q1:k*10 / 10=k:=by omega
  have q4:k*10 % 10=0:=by omega
  simp [go_sem,hr,hil,hk,hget,q1,q4,Node.t]
  refine K_call rfl rfl rfl (args:=[n.a,.ptr q 0]) (f:=f) (by simp [go_sem,Node.a,Node.cs]) (by simp [go_sem,hB]) hp ?_
  cases h:p n with
  |true=>
   rw [h,if_pos rfl] at g2
   subst g2
   refine K_run hB 100 ?_
   simp [go_sem]
  |false=>
   rw [h,if_neg (by simp)] at g2
   refine K_run hB 100 ?_
   simp [go_sem,hkk]
   exact Next.mk (k+1) ⟨by omega,g2⟩ (Imp.slots (by simp [go_sem]) rfl rfl) (by omega)
 ·have:k=F.length:=by omega
  subst this
  rw [List.drop_length,idxF] at g2
  subst g2
  simp [go_sem]
theorem containsF_spec (F:List Node) (p:Node→Bool) {σ:Nat→AObj} {nx r q:Nat} {f:FuncId} (hr:σ r= .arr 10 (nodesT F)) (hF:F.length<2^31) (hf:∀n,CallSpec P f [n.a,.ptr q 0] σ nx (.b (p n)) σ nx):
  CallSpec P 250 [.ref r,.fn (.func f) [] [.ptr q 0]] σ nx (.b (F.any p)) σ nx:=by
 have hi:=indexF_spec F p hr hF hf
 have ha:=idxF_any p 0 F
 refine CallQ.spec (spec_of Tryz.func250 rfl rfl (by simp [Tryz.f250]) fun B hB hnx hσ=>?_)
 simp only [Tryz.f250] at hB ⊢
 generalize idxF p 0 F=i at *
 refine K_run hB 100 ?_
 simp [go_sem]
 refine K_call rfl rfl rfl (args:=[.ref r,.fn (.func f) [] [.ptr q 0]]) (f:=264) (by simp [go_sem]) (by simp [go_sem,hB]) hi ?_
 refine K_run hB 100 ?_
 simp [go_sem]
 rw [Bool.eq_iff_iff,decide_eq_true_eq]
 exact ha
end Go.Proofs.YtackfabapangdaaGreat

set_option maxRecDepth 4000
namespace Go.Proofs.YtackfabapangdaaGreat
open Go Go.Proofs.YtackfabapangdaaGreat.R
theorem idxF_cases (p:Node→Bool):∀(i:Nat) (l:List Node),(idxF p i l= -1∧l.filter (fun n=>!p n)=l)∨∃k,∃h:k<l.length,idxF p i l=((i+k:Nat):Int)∧p l[k]=true∧(l.take k).filter (fun n=>!p n)=l.take k
 |i,[]=>.inl ⟨rfl,rfl⟩
 |i,n :: l=>by
  rw [idxF]
  cases h:p n with
  |true=>exact .inr ⟨0,by simp,by simp,by simpa using h,by simp⟩
  |false=>
   simp only [Bool.false_eq_true,if_false]
   rcases idxF_cases p (i+1) l with ⟨h1,h2⟩ | ⟨k,hk,h1,h2,h3⟩
   ·exact .inl ⟨h1,by rw [List.filter_cons,h];simp [h2]⟩
   ·exact .inr ⟨k+1,by simpa using hk,by rw [h1];congr 1;omega,by simpa using h2,by rw [List.take_succ_cons,List.filter_cons,h];simp [h3]⟩
theorem deleteF_spec (F:List Node) (p:Node→Bool) {σ:Nat→AObj} {nx r q:Nat} {f:FuncId} (hr:σ r= .arr 10 (nodesT F)) (hrn:r<nx) (hq:q<nx) (hrq:q≠r) (hF:F.length<2^31) (hf:∀n σ' nx',σ' q=σ q→nx≤nx'→CallSpec P f [n.a,.ptr q 0] σ' nx' (.b (p n)) σ' nx'):
  CallQ P 253 [.ref r,.fn (.func f) [] [.ptr q 0]] σ nx fun v σ' nx'=>∃g,v= .ref g∧σ' g= .arr 10 (nodesT (F.filter fun n=>!p n))∧nx≤nx'∧g<nx'∧(g=r∨nx≤g)∧∀i,i<nx→i≠r→σ' i=σ i:=by
 have hi:=indexF_spec F p (q:=q) hr hF fun n=>hf n σ nx rfl (Nat.le_refl _)
 have hc:=idxF_cases p 0 F
 refine spec_of Tryz.func253 rfl rfl (by simp [Tryz.f253]) fun B hB hnx hσ=>?_
 simp only [Tryz.f253] at hB ⊢
 refine K_run hB 100 ?_
 simp [go_sem]
 refine K_call rfl rfl rfl (args:=[.ref r,.fn (.func f) [] [.ptr q 0]]) (f:=264) (by simp [go_sem]) (by simp [go_sem,hB]) hi ?_
 rcases hc with ⟨h1,h2⟩ | ⟨k,hk,h1,h2,h3⟩
 ·rw [h1,h2]
  refine K_run hB 100 ?_
  simp [go_sem]
  exact ⟨hr,hrn⟩
 ·rw [Nat.zero_add] at h1
  rw [h1]
  have hkk:IntKind.i64.wrap ((k:Int)+1)=((k+1:Nat):Int):=by rw [w64 ((k:Int)+1) (by omega)];rfl
  have hk1:¬(k:Int)= -1:=by omega
  refine K_run hB 100 ?_
  simp [go_sem,hkk,hk1]
  refine K_loopP (α:=Nat×Nat×List Node×(Nat→AObj)×Nat) (fun (j,i,X,σ1,n1)=>j≤F.length∧i<j∧X.length=F.length∧X.take i=(F.take j).filter (fun n=>!p n)∧X.drop j=F.drop j∧σ1 r= .arr 10 (nodesT X)∧nx≤n1∧∀a,a<nx→a≠r→σ1 a=σ a)
   (fun (j,i,X,σ1,n1)=>⟨sl [(0,.ref r),(1,.fn (.func f) [] [.ptr q 0]),(5,.i i),(6,.i j)],σ1,n1⟩) (fun a=>F.length-a.1) (k+1,k,F,σ,nx) ?_ (Imp.slots (by simp [go_sem]) rfl rfl) ?_
  ·refine ⟨by omega,by omega,rfl,?_,rfl,hr,Nat.le_refl _,fun a _ _=>rfl⟩
   rw [List.take_succ_eq_append_getElem hk,List.filter_append,h3]
   simp [h2]
  rintro ⟨j,i,X,σ1,n1⟩ ⟨g1,g2,g3,g4,g5,g6,g7,g8⟩
  have hil:(nodesT X).length=X.length:=List.length_map _
  refine K_run hB 60 ?_
  simp [go_sem,g6,hil,g3]
  refine fork_dec (fun hj=>?_) (fun hj=>?_)
  ·have hjj:IntKind.i64.wrap ((j:Int)+1)=((j+1:Nat):Int):=by rw [w64 ((j:Int)+1) (by omega)];rfl
   have hii:IntKind.i64.wrap ((i:Int)+1)=((i+1:Nat):Int):=by rw [w64 ((i:Int)+1) (by omega)];rfl
   have hjX:j<X.length:=by omega
   have hXj:X[j]=F[j]:=by
    have e1:=List.drop_eq_getElem_cons hjX
    have e2:=List.drop_eq_getElem_cons hj
    rw [g5,e2] at e1
    exact (List.cons.inj e1).1.symm
   have hget:∀h:j<(nodesT X).length,(nodesT X)[j]'h=F[j].t:=fun h=>by rw [nodesT_get X hjX,hXj]
   have htk:=List.take_succ_eq_append_getElem hj
   have hdr:X.drop (j+1)=F.drop (j+1):=by
    have e1:=List.drop_eq_getElem_cons hjX
    have e2:=List.drop_eq_getElem_cons hj
    rw [g5,e2] at e1
    exact (List.cons.inj e1).2.symm
   generalize F[j]=m at *
   have q1:j*10 / 10=j:=by omega
   have q4:j*10 % 10=0:=by omega
   have hrn1:¬r=n1:=by omega
   have hqn1:¬q=n1:=by omega
   have hiX:i<X.length:=by omega
   have hgi:∀h:i<(nodesT X).length,(nodesT X)[i]'h=X[i].t:=fun h=>nodesT_get X hiX
   have hiF:i<F.length:=by omega
   have q5:i*10 / 10=i:=by omega
   have q6:i*10 % 10=0:=by omega
   have hσq:(oput (oput σ1 n1 (.box [.i 0,.i 0,.i 0,.i 0,.i 0,.u 0,.u 0,.u 0,.i 0,.fsl []])) n1 (.box m.cs)) q=σ q:=by simp [oput,hqn1,g8 q hq hrq]
   have hfm:=hf m _ (n1+1) hσq (by omega)
   simp [go_sem,g6,hil,hj,hjX,hget,q1,q4,Node.t,g3]
   refine K_call rfl rfl rfl (args:=[m.a,.ptr q 0]) (f:=f) (by simp [go_sem,Node.a,Node.cs]) (by simp [go_sem,hB]) (hf m _ _ (by simp [oput,hqn1,g8 q hq hrq]) (by simp only;omega)) ?_
   cases h:p m with
   |true=>
    refine K_run hB 100 ?_
    simp [go_sem,hjj]
    refine Next.mk (j+1,i,X,_,n1+1) ?_ (Imp.slots (by simp [go_sem]) rfl rfl) (by simp only;omega)
    refine ⟨by simp only;omega,by simp only;omega,g3,?_,hdr,?_,by simp only;omega,fun a h1 h2=>?_⟩
    ·rw [htk,List.filter_append,g4];simp [h]
    ·simp [oput,hrn1,g6]
    ·simp [oput,show ¬a=n1 by omega,g8 a h1 h2]
   |false=>
    refine K_run hB 100 ?_
    simp [go_sem,hjj,hii,g6,hil,g3,hrn1,hiF,hiX,hgi,q5,q6,Node.t]
    refine Next.mk (j+1,i+1,X.set i m,_,n1+1) ?_ (Imp.slots (by simp [go_sem]) rfl rfl) (by simp only;omega)
    refine ⟨by simp only;omega,by simp only;omega,by simp only [List.length_set];exact g3,?_,?_,?_,by simp only;omega,fun a h1 h2=>?_⟩
    ·rw [htk,List.filter_append,←g4,List.take_succ_eq_append_getElem (by rw [List.length_set];exact hiX),List.take_set,List.set_eq_of_length_le (by rw [List.length_take];omega)]
     simp [h]
    ·rw [List.drop_set_of_lt (by omega)];exact hdr
    ·simp [oput,nodesT,Node.t,List.map_set]
    ·simp [oput,h2,show ¬a=n1 by omega,g8 a h1 h2]
  ·have:j=F.length:=by omega
   subst this
   rw [List.take_length] at g4
   have hz0:∀es:List (List T),∀z,((nodesT X).take i++List.replicate ((nodesT X).length-i) z).take i=(nodesT X).take i:=fun _ z=>by rw [List.take_append_of_le_length (by rw [List.length_take];omega),List.take_take,Nat.min_self]
   simp [go_sem]
   refine K_clear (ik:=.i64) (x:=.tmp 36) (ix:=.tmp 37) (d1:=38) (q:=r) (n:=i) (es:=nodesT X) (z:=[.i 0,.i 0,.i 0,.i 0,.i 0,.v (.int .u64 0),.v (.int .u64 0),.v (.int .u64 0),.i 0,.sl []]) rfl rfl rfl rfl rfl rfl rfl rfl (by simp [go_sem,hB]) rfl tt128 rfl tt70 rfl (by simp [go_sem]) g6 (by simp [go_sem]) (by omega) (by omega) ?_
   refine K_run hB 100 ?_
   simp [go_sem]
   have hlen2:((nodesT X).take i++List.replicate ((nodesT X).length-i) ([.i 0,.i 0,.i 0,.i 0,.i 0,.v (.int .u64 0),.v (.int .u64 0),.v (.int .u64 0),.i 0,.sl []]:List T)).length=F.length:=by rw [List.length_append,List.length_take,List.length_replicate];omega
   refine K_front (ik:=.i64) (x:=.tmp 39) (ix:=.tmp 40) (q:=r) (n:=i) (sz:=10) rfl rfl (by simp [go_sem,hB]) tt128 rfl tt70 (by simp [go_sem]) (by simp [oput];rfl) (by simp [go_sem]) (by rw [hlen2];omega) (by rw [hlen2];omega) ?_
   rw [hz0 [] _]
   have hti:(nodesT X).take i=nodesT (X.take i):=by simp [nodesT,List.map_take]
   rw [hti,g4]
   refine K_run hB 100 ?_
   simp [go_sem]
   refine ⟨by omega,by omega,fun a h1 h2=>?_⟩
   simp [h2,show ¬a=n1 by omega,g8 a h1 h2]
end Go.Proofs.YtackfabapangdaaGreat

set_option maxRecDepth 4000
namespace Go.Proofs.YtackfabapangdaaGreat
open Go Go.Proofs.YtackfabapangdaaGreat.R
theorem front1_len (out:List Node) (b:Node):(front1 out b).length≤out.length+1:=by
 unfold front1
 split
 ·omega
 ·have:=List.length_filter_le (fun a=>!b.than a) out
  rw [List.length_append,List.length_cons,List.length_nil]
  omega
theorem front_pure (l:List Node) (hl:l.length<2^31) (hn:∀n∈l,n.path.length<2^31):Pure P 226 [.t (.sl (nodesT l))] (.t (.sl (nodesT (frontL l)))):=by
 generalize hR:frontL l=R
 refine pure_of Tryz.func226 rfl rfl (by simp [Tryz.f226]) (by simp [bnd,bnd.bndL]) (by simp [bnd,bnd.bndL]) fun B hB hnx=>?_
 simp only [Tryz.f226] at hB ⊢
 have hil:(nodesT l).length=l.length:=List.length_map _
 have hgt:∀(k:Nat) (h:k<l.length),(nodesT l)[k]'(by rw [hil];exact h)=l[k].t:=fun k h=>nodesT_get l h
 generalize hX:nodesT l=X at *
 have hmost:mostLen=4294967296:=rfl
 rw [frontL] at hR
 refine K_run hB 100 ?_
 simp [go_sem,hil]
 refine K_own 3 10 (by simp [go_sem]) ?_
 refine K_loopP (α:=Nat×List Node×Nat×(Nat→AObj)×Nat) (fun (k,out,a,σ,nx)=>k≤l.length∧(l.drop k).foldl front1 out=R∧out.length≤k∧σ a= .arr 10 (nodesT out)∧a<nx)
  (fun (k,out,a,σ,nx)=>⟨sl [(3,.ref a),(6,.t (.sl X)),(7,.i l.length),(8,.i k)],σ,nx⟩) (fun a=>l.length-a.1) (0,[],0,_,1) ?_ (Imp.slots (by simp [go_sem,hil]) rfl rfl) ?_
 ·exact ⟨Nat.zero_le _,hR,Nat.le_refl _,by simp [oput,nodesT],by omega⟩
 rintro ⟨k,out,a,σ,nx⟩ ⟨g1,g2,g3,g4,g5⟩
 refine K_run hB 60 ?_
 simp [go_sem]
 refine fork_dec (fun hk=>?_) (fun hk=>?_)
 ·have hkk:IntKind.i64.wrap ((k:Int)+1)=((k+1:Nat):Int):=by rw [w64 ((k:Int)+1) (by omega)];rfl
  have hget:∀h:k<X.length,X[k]'h=l[k].t:=fun h=>hgt k hk
  rw [List.drop_eq_getElem_cons hk,List.foldl_cons] at g2
  have hpath:=hn l[k] (List.getElem_mem _)
  generalize l[k]=m at *
  have hcl:=clone_spec m.path (by omega)
  have hfr:front1 out m=if out.any (fun a=>a.than m)=true then out else (out.filter fun a=>!m.than a)++[m]:=rfl
  have hfl:=front1_len out m
  have ha:¬a=nx:=by omega
  simp [go_sem,hil,hk,hget,Node.t]
  refine K_call rfl rfl rfl (args:=[.ref a,.fn (.func 251) [] [.ptr nx 0]]) (f:=250) (by simp [go_sem]) (by simp [go_sem,hB]) (containsF_spec out (fun c=>c.than m) (by simp [oput,ha,g4]) (by omega) fun c=>front1_spec c m (by simp only;omega) (by simp [oput,Node.cs])) ?_
  cases hany:out.any (fun c=>c.than m) with
  |true=>
   rw [hany,if_pos rfl] at hfr
   rw [hfr] at g2
   refine K_run hB 100 ?_
   simp [go_sem,hkk]
   exact Next.mk (k+1,out,a,_,nx+1) ⟨by simp only;omega,g2,by simp only;omega,by simp [oput,ha,g4],by simp only;omega⟩ (Imp.slots (by simp [go_sem]) rfl rfl) (by simp only;omega)
  |false=>
   rw [hany,if_neg (by simp)] at hfr
   rw [hfr] at g2 hfl
   refine K_run hB 100 ?_
   simp [go_sem]
   refine K_callQ rfl rfl rfl (args:=[.ref a,.fn (.func 254) [] [.ptr nx 0]]) (f:=253) (by simp [go_sem]) (by simp [go_sem,hB]) (deleteF_spec out (fun c=>m.than c) (by simp [oput,ha,g4]) (by simp only;omega) (by simp only;omega) (by omega) (by omega) fun c σ' nx' h1 h2=>front2_spec c m (by simp only at h2;omega) (by rw [h1];simp [oput,Node.cs])) ?_
   rintro v σ2 n2 ⟨g,rfl,d1,d2,d3,d4,d5⟩
   have e1:σ2 nx= .box m.cs:=by rw [d5 nx (by simp only;omega) (by omega)];simp [oput,Node.cs]
   simp only at d2 d4
   have hgn:¬g=nx:=by omega
   generalize (out.filter fun c=>!m.than c)=O at *
   refine K_run hB 100 ?_
   simp [go_sem,e1,Node.cs]
   refine K_call rfl rfl rfl (args:=[.t (.sl (ints m.path))]) (f:=215) (by simp [go_sem]) (by simp [go_sem,hB]) (hcl _ _) ?_
   obtain ⟨σ5,hσ5⟩:∃σ5:Nat→AObj,σ5=fun j=>if j=n2 then AObj.dead else frzO n2 (ints m.path) (oput σ2 n2 (.arr 1 (ints m.path)) j):=⟨_,rfl⟩
   have f1:σ5 nx= .box m.cs:=by simp [hσ5,oput,show ¬nx=n2 by omega,e1,frzO,frz1,frz1.frzL,Node.cs]
   have f2:σ5 g= .arr 10 (nodesT O):=by simp [hσ5,oput,show ¬g=n2 by omega,d1,frzO]
   have hlO:(nodesT O).length=O.length:=List.length_map _
   have hcap:O.length+1≤mostLen:=by rw [List.length_append,List.length_cons,List.length_nil] at hfl;omega
   refine K_imp ((Imp.freeze (q:=n2) (sz:=1) (es:=ints m.path) (by simp [oput])).trans (Imp.slots (l:=[(3,.ref g),(5,.ptr nx 0),(6,.t (.sl X)),(7,.i l.length),(8,.i k),(20,.t (.sl (ints m.path)))]) (by simp [go_sem,frz1,frz1.frzL,show ¬g=n2 by omega]) hσ5 rfl)) ?_
   refine K_run hB 100 ?_
   simp [go_sem,f1,f2,Node.cs,hgn,hlO,hcap,hkk]
   refine Next.mk (k+1,O++[m],n2+1,_,n2+2) ?_ (Imp.slots (by simp [go_sem]) rfl rfl) (by simp only;omega)
   refine ⟨by simp only;omega,g2,by simp only;omega,?_,by simp only;omega⟩
   simp [oput,nodesT,Node.t]
 ·have:k=l.length:=by omega
  subst this
  rw [List.drop_length,List.foldl_nil] at g2
  subst g2
  simp [go_sem,g4]
end Go.Proofs.YtackfabapangdaaGreat

set_option maxRecDepth 4000
set_option maxHeartbeats 1000000
namespace Go.Proofs.YtackfabapangdaaGreat
open Go Go.Proofs.YtackfabapangdaaGreat.R
def Inst.sortN (x:Inst) (l:List Node):List Node:=isort x.of l
def Inst.keyT (x:Inst) (n:Node):List T:=n.t++[.i (x.of n)]
theorem Inst.keys_sort (x:Inst) (l:List Node):isort κr (l.map x.keyT)=(x.sortN l).map x.keyT:=by
 rw [←isort_map (κ:=κr) x.keyT l]
 congr 2
theorem Inst.sortN_len (x:Inst) (l:List Node):(x.sortN l).length=l.length:=isort_len l
theorem Inst.sortN_mem {x:Inst} {l:List Node} {n:Node}:n∈x.sortN l↔n∈l:=isort_mem
theorem sorted1_spec (x:Inst) (n:Node) (hl:x.stops.length<2^31) (ho:n.s.ok) {σ:Nat→AObj} {nx q:Nat} (hq:q<nx) (hb:σ q= .box x.cs):CallSpec P 221 [n.a,.ptr q 0] σ nx (.i (x.of n)) σ nx:=by
 have hth:=of_pure x n hl ho
 have e:σ=oput σ q (σ q):=by funext i;by_cases h:i=q<;>simp [oput,h]
 have h:CallSpec P 221 [n.a,.ptr q 0] σ nx (.i (x.of n)) (oput σ q (σ q)) nx:=by
  refine spec_down Tryz.func221 rfl rfl (by simp [Tryz.f221]) hq (by rw [hb];simp [bndO,bnd,bnd.bndL,Inst.cs]) (by simp [bnd]) fun hk B hB hnx hσ=>?_
  simp only [Tryz.f221] at hB ⊢
  have hne:¬q=nx:=by omega
  refine K_run hB 100 ?_
  simp [go_sem,Node.a,Node.cs,hb,hne,Inst.cs]
  refine K_call rfl rfl rfl (args:=[x.a,n.a]) (f:=35) (by simp [go_sem,Inst.a,Node.a,Node.cs]) (by simp [go_sem,hB]) ((hth).spec _ _) ?_
  refine K_run hB 100 ?_
  simp [go_sem]
  exact ⟨by simp [hne,hb,Inst.cs],fun i h1 h2 h3=>by omega⟩
 rw [←e] at h
 exact h
theorem sortedF_spec (x:Inst) (l:List Node) (hx:x.stops.length<2^31) (hl:l.length<2^31) (ho:∀n∈l,n.s.ok) {σ:Nat→AObj} {nx q:Nat} (hq:q<nx) (hb:σ q= .box x.cs):
  CallSpec P 220 [.t (.sl (nodesT l)),.fn (.func 221) [] [.ptr q 0]] σ nx (.t (.sl (nodesT (x.sortN l)))) (oput σ q (.box x.cs)) nx:=by
 refine spec_down Tryz.func220 rfl rfl (by simp [Tryz.f220]) hq (by simp [bndO,bnd,bnd.bndL,Inst.cs]) (by simp [bnd,bnd.bndL]) fun hk0 B hB hnx hσ=>?_
 simp only [Tryz.f220] at hB ⊢
 refine K_after ?_
 generalize hpost:(fun (e:Exit) (s:St)=>∃t,Imp B s t∧_)=post
 have hil:(nodesT l).length=l.length:=List.length_map _
 have hgt:∀(k:Nat) (h:k<l.length),(nodesT l)[k]'(by rw [hil];exact h)=l[k].t:=fun k h=>nodesT_get l h
 generalize hX:nodesT l=X at *
 have hmost:mostLen=4294967296:=rfl
 obtain ⟨K,hK⟩:∃K,K=l.map x.keyT:=⟨_,rfl⟩
 have hKl:K.length=l.length:=by rw [hK,List.length_map]
 refine K_run hB 100 ?_
 simp [go_sem,hil]
 refine K_own 5 11 (by simp [go_sem]) ?_
 refine K_loopP (α:=Nat×Nat×(Nat→AObj)×Nat) (fun (k,a,σ',ny)=>k≤l.length∧σ' a= .arr 11 (K.take k)∧nx≤a∧a<ny∧σ' q= .box x.cs∧∀i,i<nx→i≠q→σ' i=σ i)
  (fun (k,a,σ',ny)=>⟨sl [(1,.fn (.func 221) [] [.ptr q 0]),(5,.ref a),(11,.t (.sl X)),(12,.i l.length),(13,.i k)],σ',ny⟩) (fun a=>l.length-a.1) (0,nx,_,nx+1) ?_ (Imp.slots (by simp [go_sem,hil]) rfl rfl) ?_
 ·exact ⟨Nat.zero_le _,by simp [oput],Nat.le_refl _,by omega,by simp [oput,show ¬q=nx by omega,hb],fun i h1 h2=>by simp [oput,show ¬i=nx by omega]⟩
 rintro ⟨k,a,σ',ny⟩ ⟨g1,g2,g3,g4,g5,g6⟩
 refine K_run hB 60 ?_
 simp [go_sem]
 refine fork_dec (fun hk=>?_) (fun hk=>?_)
 ·have hkk:IntKind.i64.wrap ((k:Int)+1)=((k+1:Nat):Int):=by rw [w64 ((k:Int)+1) (by omega)];rfl
  have hget:∀h:k<X.length,X[k]'h=l[k].t:=fun h=>hgt k hk
  have hmem:=ho l[k] (List.getElem_mem _)
  have htk:K.take (k+1)=K.take k++[x.keyT l[k]]:=by rw [List.take_add_one,List.getElem?_eq_getElem (by omega)];simp [hK]
  have hkl:(K.take k).length=k:=by rw [List.length_take];omega
  generalize K.take k=Kk at *
  generalize l[k]=n at *
  have ha:¬a=ny:=by omega
  have hqn:¬q=ny:=by omega
  have hs1:=fun σ'' (h:σ'' q= .box x.cs)=>sorted1_spec x n hx hmem (σ:=σ'') (nx:=ny+1) (q:=q) (by omega) h
  have hcap:k+1≤mostLen:=by omega
  simp [go_sem,hil,hk,hget,Node.t]
  refine K_drawnF [4,7] [0,1] rfl (by rw [hB];kernel_rfl) (by kernel_rfl) fun ht hf'=>?_
  refine K_run hB 4 ?_
  simp [go_sem,ht,hf',Node.cs]
  refine K_dCall rfl rfl rfl (args:=[n.a,.ptr q 0]) (f:=221) (by simp [go_sem,Node.a,Node.cs]) (hs1 _ (by simp [oput,hqn,g5])) (by decide) (okPends_does (by simp [go_sem,Node.cs])) ?_
  refine K_run hB 100 ?_
  simp [go_sem,ht,hf',g2,ha,hkl,hcap,hkk,show ¬ny=a by omega]
  refine Next.mk (k+1,ny+1,_,ny+2) ?_ (Imp.slots (by simp [go_sem]) rfl rfl) (by simp only;omega)
  exact ⟨by simp only;omega,by simp [oput,htk,Inst.keyT,Node.t],by simp only;omega,by simp only;omega,by simp [oput,hqn,g5,show ¬q=a by omega,show ¬q=ny+1 by omega],fun i h1 h2=>by simp [oput,show ¬i=ny by omega,show ¬i=a by omega,show ¬i=ny+1 by omega,g6 i h1 h2]⟩
 ·have:k=l.length:=by omega
  subst this
  rw [←hKl,List.take_length,hK] at g2
  have hS:=sortStable_spec (l.map x.keyT) (fun e he=>by
   obtain ⟨n,_,rfl⟩:=List.mem_map.1 he
   exact ⟨n,x.of n,rfl⟩) (by rw [List.length_map];exact hl) (nx:=ny) g4 g2
  rw [x.keys_sort] at hS
  have hL:=x.sortN_len l
  generalize x.sortN l=S at *
  have hkl:(S.map x.keyT).length=l.length:=by rw [List.length_map,hL]
  have hkg:∀(k:Nat) (h:k<l.length),(S.map x.keyT)[k]'(by rw [hkl];exact h)=(S[k]'(by rw [hL];exact h)).t++[.i (x.of (S[k]'(by rw [hL];exact h)))]:=fun k h=>by rw [List.getElem_map];rfl
  simp [go_sem]
  refine K_run hB 100 ?_
  simp [go_sem]
  refine K_call rfl rfl rfl (args:=[.ref a,cmpF]) (f:=245) (by simp [go_sem]) (by simp [go_sem,hB]) hS ?_
  refine K_run hB 100 ?_
  simp [go_sem,hkl]
  refine K_own 8 10 (by simp [go_sem]) ?_
  have hqa:¬q=a:=by omega
  have hany:¬a=ny:=by omega
  refine K_loopP (α:=Nat×Nat×(Nat→AObj)×Nat) (fun (k,c,τ,nz)=>k≤l.length∧τ c= .arr 10 (nodesT (S.take k))∧τ a= .arr 11 (S.map x.keyT)∧nx≤c∧c<nz∧a<nz∧c≠a∧τ q= .box x.cs∧∀i,i<nx→i≠q→τ i=σ i)
   (fun (k,c,τ,nz)=>⟨sl [(8,.ref c),(28,.ref a),(29,.i l.length),(30,.i k)],τ,nz⟩) (fun a=>l.length-a.1) (0,ny,_,ny+1) ?_ (Imp.slots (by simp [go_sem,hkl]) rfl rfl) ?_
  ·exact ⟨Nat.zero_le _,by simp [oput,nodesT],by simp [oput,hany],by omega,by omega,by omega,by omega,by simp [oput,show ¬q=ny by omega,hqa,g5],fun i h1 h2=>by simp [oput,show ¬i=ny by omega,show ¬i=a by omega,g6 i h1 h2]⟩
  clear hS g1 g2 g5 g6
  rintro ⟨k,c,τ,nz⟩ ⟨g1,g2,g7,g8,g9,ga,gb,g5,g6⟩
  refine K_run hB 60 ?_
  simp [go_sem]
  refine fork_dec (fun hk=>?_) (fun hk=>?_)
  ·have hkk:IntKind.i64.wrap ((k:Int)+1)=((k+1:Nat):Int):=by rw [w64 ((k:Int)+1) (by omega)];rfl
   have hkS:k<S.length:=by omega
   have htk:S.take (k+1)=S.take k++[S[k]]:=by rw [List.take_add_one,List.getElem?_eq_getElem hkS];rfl
   have hget:∀h:k<(S.map x.keyT).length,(S.map x.keyT)[k]'h=S[k].t++[.i (x.of S[k])]:=fun h=>hkg k hk
   have htl:(nodesT (S.take k)).length=k:=by rw [nodesT,List.length_map,List.length_take];omega
   have hcap:k+1≤mostLen:=by omega
   have q1:k*11 / 11=k:=by omega
   have q4:k*11 % 11=0:=by omega
   have hc:¬c=nz:=by omega
   generalize S[k]=n at *
   simp [go_sem,g7,hkl,hk,hget,q1,q4,Node.t,g2,hc,htl,hcap,hkk]
   refine Next.mk (k+1,nz+1,_,nz+2) ?_ (Imp.slots (by simp [go_sem]) rfl rfl) (by simp only;omega)
   exact ⟨by simp only;omega,by simp [oput,htk,nodesT,Node.t],by simp [oput,g7,show ¬a=nz by omega,show ¬a=c by omega,show ¬a=nz+1 by omega],by simp only;omega,by simp only;omega,by simp only;omega,by simp only;omega,by simp [oput,g5,show ¬q=nz by omega,show ¬q=c by omega,show ¬q=nz+1 by omega],fun i h1 h2=>by simp [oput,show ¬i=nz by omega,show ¬i=c by omega,show ¬i=nz+1 by omega,g6 i h1 h2]⟩
  ·have:k=l.length:=by omega
   subst this
   rw [←hL,List.take_length] at g2
   simp [go_sem]
   rw [←hpost]
   refine ⟨_,Imp.freeze (q:=c) (sz:=10) (es:=nodesT S) (by simp [go_sem,g2]),.inl rfl,?_⟩
   simp [go_sem,frz1,frzO,show ¬q=c by omega,g5]
   refine ⟨by omega,by simp [frz1.frzL,frz1,Inst.cs],fun y hy hyq=>?_⟩
   rw [if_neg (by omega),g6 y hy hyq]
   rcases hk0 y with e | ⟨e,_⟩
   ·rw [e]
   ·exact frzO_id (q:=c) (es:=nodesT S) (by omega) (σ y) e
theorem sorted_pure (x:Inst) (l:List Node) (hx:x.stops.length<2^31) (hl:l.length<2^31) (hn:∀n∈l,n.Fine):Pure P 181 [x.a,.t (.sl (nodesT l))] (.t (.sl (nodesT (x.sortN l)))):=by
 refine pure_of Tryz.func181 rfl rfl (by simp [Tryz.f181]) (by simp [bnd,bnd.bndL,Inst.a]) (by simp [bnd,bnd.bndL]) fun B hB hnx=>?_
 simp only [Tryz.f181] at hB ⊢
 have hil:(nodesT l).length=l.length:=List.length_map _
 have hgt:∀(k:Nat) (h:k<l.length),(nodesT l)[k]'(by rw [hil];exact h)=l[k].t:=fun k h=>nodesT_get l h
 generalize hX:nodesT l=X at *
 have hmost:mostLen=4294967296:=rfl
 refine K_run hB 100 ?_
 simp [go_sem,hil,Inst.a]
 refine K_own 5 10 (by simp [go_sem]) ?_
 refine K_loopP (α:=Nat×Nat×(Nat→AObj)×Nat) (fun (k,a,σ',ny)=>k≤l.length∧σ' a= .arr 10 (nodesT (l.take k))∧0<a∧a<ny∧σ' 0= .box x.cs)
  (fun (k,a,σ',ny)=>⟨sl [(2,.ptr 0 0),(5,.ref a),(8,.t (.sl X)),(9,.i l.length),(10,.i k)],σ',ny⟩) (fun a=>l.length-a.1) (0,1,_,2) ?_ (Imp.slots (by simp [go_sem,hil]) rfl rfl) ?_
 ·exact ⟨Nat.zero_le _,by simp [oput,nodesT],by omega,by omega,by simp [oput,Inst.cs]⟩
 rintro ⟨k,a,σ',ny⟩ ⟨g1,g2,g3,g4,g5⟩
 refine K_run hB 60 ?_
 simp [go_sem]
 refine fork_dec (fun hk=>?_) (fun hk=>?_)
 ·have hkk:IntKind.i64.wrap ((k:Int)+1)=((k+1:Nat):Int):=by rw [w64 ((k:Int)+1) (by omega)];rfl
  have hget:∀h:k<X.length,X[k]'h=l[k].t:=fun h=>hgt k hk
  have hfine:=hn l[k] (List.getElem_mem _)
  have htk:l.take (k+1)=l.take k++[l[k]]:=by rw [List.take_add_one,List.getElem?_eq_getElem hk];rfl
  have hkl:(nodesT (l.take k)).length=k:=by rw [nodesT,List.length_map,List.length_take];omega
  generalize l[k]=n at *
  have ha:¬a=ny:=by omega
  have hown:=own_pure n (by have:=hfine.len;omega)
  have hcap:k+1≤mostLen:=by omega
  simp [go_sem,hil,hk,hget,Node.t]
  refine K_call rfl rfl rfl (args:=[n.a]) (f:=217) (by simp [go_sem,Node.a,Node.cs]) (by simp [go_sem,hB]) ((hown).spec _ _) ?_
  refine K_run hB 100 ?_
  simp [go_sem,Node.a,Node.cs,g2,ha,hkl,hcap,hkk]
  refine Next.mk (k+1,ny+1,_,ny+2) ?_ (Imp.slots (by simp [go_sem]) rfl rfl) (by simp only;omega)
  exact ⟨by simp only;omega,by simp [oput,htk,nodesT,Node.t],by simp only;omega,by simp only;omega,by simp [oput,g5,show ¬0=ny by omega,show ¬0=a by omega]⟩
 ·have:k=l.length:=by omega
  subst this
  rw [List.take_length] at g2
  have hS:∀σ nx,0<nx→σ 0= .box x.cs→CallSpec P 220 [.t (.sl (nodesT l)),.fn (.func 221) [] [.ptr 0 0]] σ nx (.t (.sl (nodesT (x.sortN l)))) (oput σ 0 (.box x.cs)) nx:=fun σ nx h1 h2=>sortedF_spec x l hx hl (fun n h=>(hn n h).ok) h1 h2
  rw [hX] at hS
  obtain ⟨σ5,hσ5⟩:∃σ5:Nat→AObj,σ5=fun j=>if j=a then AObj.dead else frzO a X (σ' j):=⟨_,rfl⟩
  have f1:σ5 0= .box x.cs:=by simp [hσ5,show ¬0=a by omega,g5,frzO,frz1,frz1.frzL,Inst.cs]
  have hSS:=hS σ5 ny (by omega) f1
  simp [go_sem]
  refine K_imp ((Imp.freeze (q:=a) (sz:=10) (es:=X) (by simp [g2,hX])).trans (Imp.slots (l:=[(2,.ptr 0 0),(20,.t (.sl X)),(21,.fn (.func 221) [] [.ptr 0 0])]) (by simp [go_sem,frz1,frz1.frzL]) hσ5 rfl)) ?_
  refine K_run hB 100 ?_
  simp [go_sem]
  refine K_call rfl rfl rfl (args:=[.t (.sl X),.fn (.func 221) [] [.ptr 0 0]]) (f:=220) (by simp [go_sem]) (by simp [go_sem,hB]) hSS ?_
  refine K_run hB 100 ?_
  simp [go_sem]
end Go.Proofs.YtackfabapangdaaGreat

set_option maxRecDepth 4000
namespace Go.Proofs.YtackfabapangdaaGreat
open Go Go.Proofs.YtackfabapangdaaGreat.R
theorem canB_of {f:Nat→Bool}:∀{n k:Nat},k<n→f k=true→(k:Int)∈canB f n
 |n+1,k,h,hf=>by
  rw [canB,List.mem_append]
  by_cases e:k=n
  ·subst e
   exact .inr (by rw [if_pos hf];simp)
  ·exact .inl (canB_of (by omega) hf)
theorem mem_moves {x:Inst} {s:State} {j:Int} (h:(x.move s j).2.2=true):j∈x.moves s:=by
 have hm:x.may=true:=by
  by_cases e:j=0
  ·subst e;exact (move_home h).1
  ·exact (move_pos h e).1
 obtain ⟨p,hx⟩:=x.fit hm
 have h1:=hx.len
 have h2:=hx.pairs
 have hj:0≤j∧j<x.stops.length:=by
  by_cases e:j=0
  ·omega
  ·have:=move_pos h e
   omega
 rw [moves_can]
 have:((j.toNat:Nat):Int)=j:=by omega
 rw [←this]
 exact canB_of (by omega) (by rw [this];exact h)
theorem move_seen_low {x:Inst} (hl:x.stops.length<2^31) (m:Node) (k:Int) (h0:0≤m.cost) (h1:m.cost+lowP x.near m.s.can≤k) (hk:k≤1152921504606846976):x.of m≤k:=by
 have hin:=lowP_in (near_le x) m.s.can
 rw [Inst.of,low_eq x m.s (by omega),sumI_two h0 hin.1 (by omega)]
 exact h1
theorem bests_fold (x:Inst) (v:Int):∀(l:List Node) (b:Node×Bool),((∃n∈l,(x.endS n.s).2=true∧sumI [n.cost,(x.endS n.s).1]=v)∨(b.2=true∧b.1.cost≤v))→(l.foldl x.best1 b).2=true∧(l.foldl x.best1 b).1.cost≤v
 |[],b,h=>by
  rcases h with ⟨n,h,_⟩ | h
  ·cases h
  ·exact h
 |n :: l,b,h=>by
  refine bests_fold x v l (x.best1 b n) ?_
  have key:b.2=true∧b.1.cost≤v→(x.best1 b n).2=true∧(x.best1 b n).1.cost≤v:=by
   rintro ⟨h1,h2⟩
   unfold Inst.best1
   split
   ·rename_i hc
    refine ⟨rfl,?_⟩
    rcases hc.2 with hc | hc
    ·rw [h1] at hc;cases hc
    ·simp only;omega
   ·exact ⟨h1,h2⟩
  rcases h with ⟨m,hm,h1,h2⟩ | h
  ·rcases List.mem_cons.1 hm with rfl | hm
   ·refine .inr ?_
    unfold Inst.best1
    split
    ·exact ⟨rfl,by simp only;omega⟩
    ·rename_i hc
     have hb:b.2=true:=by
      cases e:b.2 with
      |true=>rfl
      |false=>exact absurd ⟨h1,.inl e⟩ hc
     refine ⟨hb,?_⟩
     have:¬sumI [m.cost,(x.endS m.s).1]<b.1.cost:=fun e=>hc ⟨h1,.inr e⟩
     omega
   ·exact .inl ⟨m,hm,h1,h2⟩
  ·exact .inr (key h)
theorem bests_has {x:Inst} {l:List Node} {n:Node} (hn:n∈l) (he:(x.endS n.s).2=true):(x.bests l).2=true∧(x.bests l).1.cost≤sumI [n.cost,(x.endS n.s).1]:=bests_fold x _ l _ (.inl ⟨n,hn,he,rfl⟩)
end Go.Proofs.YtackfabapangdaaGreat

set_option maxRecDepth 4000
namespace Go.Proofs.YtackfabapangdaaGreat
open Go Go.Proofs.YtackfabapangdaaGreat.R
def Inst.base (x:Inst) (s:State):Nat:=((List.range (2*x.pairs.toNat+1)).filter fun j:Nat=>decide (1≤j)&& !hasB s.must (j:Int)).length+(x.cars-s.car).toNat
theorem base_move {x:Inst} {s:State} {j:Int} (h:(x.move s j).2.2=true):x.base (x.move s j).1<x.base s:=by
 by_cases e:j=0
 ·subst e
  obtain ⟨_,_,h3,h4⟩:=move_home h
  rw [h4]
  simp only [Inst.stayB,Bool.or_eq_false_iff,decide_eq_false_iff_not] at h3
  simp only [Inst.base,Inst.homeS]
  have:=h3.1.1.2
  omega
 ·obtain ⟨h1,h2,h3,h4,h5,_,_,h6⟩:=move_pos h e
  obtain ⟨p,hx⟩:=x.fit h1
  have:=hx.few
  have:=hx.pairs
  rw [h6]
  simp only [Inst.lateB,Bool.or_eq_false_iff] at h5
  simp only [Inst.base,Inst.rvisit]
  obtain ⟨k,rfl⟩:∃k:Nat,j=k:=⟨j.toNat,by omega⟩
  refine Nat.add_lt_add_right (filter_lt _ (a:=k) (List.mem_range.2 (by omega)) ?_ ?_ ?_) _
  ·rw [h5.1]
   simp only [Bool.not_false,Bool.and_true,decide_eq_true_eq]
   omega
  ·rw [has_withN (by omega)]
   simp
  ·intro b
   rw [has_withN (by omega)]
   simp only [Bool.and_eq_true,Bool.not_eq_true',Bool.or_eq_false_iff]
   exact fun h=>⟨h.1,h.2.1⟩
def Inst.meas (x:Inst) (s:State):Nat:=if x.may=true∧s.mayB x=true then x.base s else 0
theorem move_may {x:Inst} {s:State} {j:Int} (h:(x.move s j).2.2=true):x.may=true∧s.mayB x=true:=by
 by_cases e:j=0
 ·subst e
  exact ⟨(move_home h).1,(move_home h).2.1⟩
 ·exact ⟨(move_pos h e).1,(move_pos h e).2.1⟩
theorem meas_move {x:Inst} {s:State} {j:Int} (h:(x.move s j).2.2=true):x.meas (x.move s j).1<x.meas s:=by
 have h1:=base_move h
 have h2:=move_may h
 have:x.meas (x.move s j).1≤x.base (x.move s j).1:=by
  unfold Inst.meas
  split<;>omega
 have:x.meas s=x.base s:=by rw [Inst.meas,if_pos h2]
 omega
theorem meas_le (x:Inst) (s:State):x.meas s≤40:=by
 unfold Inst.meas
 split
 ·rename_i h
  obtain ⟨p,hx⟩:=x.fit h.1
  have h1:=hx.few
  have h2:=hx.pairs
  have h3:=hx.cars
  have h4:=h.2
  simp only [State.mayB,Bool.and_eq_true,decide_eq_true_eq] at h4
  have h5:=h4.1.1.1.1.1.2
  have h6:((List.range (2*x.pairs.toNat+1)).filter fun j:Nat=>decide (1≤j)&& !hasB s.must (j:Int)).length≤2*x.pairs.toNat+1:=by
   refine Nat.le_trans (List.length_filter_le _ _) ?_
   rw [List.length_range];exact Nat.le_refl _
  unfold Inst.base
  omega
 ·omega
def Inst.look (x:Inst) (st:Node×Bool×Int) (l:List Node):Node×Bool×Int:=
 if (x.bests l).2=true∧(x.bests l).1.cost<st.2.2 then ((x.bests l).1,true,(x.bests l).1.cost) else st
def Inst.exGo (x:Inst) (most:Int):Nat→Node×Bool×Int→List Node→Int→Node×Bool×Bool×Int
 |0,st,_,n=>(st.1,st.2.1,true,n)
 |d+1,st,l,n=>if l.length=0 then (st.1,st.2.1,true,n) else if most<l.length then (st.1,st.2.1,false,n) else
  x.exGo most d (x.look st l) (frontL (x.next l st.2.2)) (IntKind.i64.wrap (n+l.length))
def Inst.exact (x:Inst) (n:Node) (up most:Int):Node×Bool×Bool×Int:=x.exGo most (x.meas n.s+1) (Node.zero,false,up) [n] 0
def exRes4 (r:Node×Bool×Bool×Int):AV:=.tup [r.1.a,.b r.2.1,.b r.2.2.1,.i r.2.2.2]
structure Level (x:Inst) (l:List Node) (d K:Nat):Prop where
 ok:∀n∈l,n.s.ok
 deep:∀n∈l,x.meas n.s<d
 path:∀n∈l,n.path.length+d≤K
theorem Level.next {x:Inst} {l:List Node} {d K:Nat} (h:Level x l (d+1) K) (up:Int):Level x (frontL (x.next l up)) d K:=by
 have key:∀m∈frontL (x.next l up),∃n∈l,∃j,(x.move n.s j).2.2=true∧m=x.child n j:=by
  intro m hm
  obtain ⟨n,hn,j,hj,e,_⟩:=next_mem ((front_inv _).sub m hm)
  exact ⟨n,hn,j,moves_mem hj,e⟩
 refine ⟨?_,?_,?_⟩
 ·intro m hm
  obtain ⟨n,hn,j,hj,rfl⟩:=key m hm
  exact move_ok x j (h.ok n hn)
 ·intro m hm
  obtain ⟨n,hn,j,hj,rfl⟩:=key m hm
  have:=meas_move hj
  have:=h.deep n hn
  show x.meas (x.move n.s j).1<d
  omega
 ·intro m hm
  obtain ⟨n,hn,j,hj,rfl⟩:=key m hm
  have:=h.path n hn
  show (n.path++[j]).length+d≤K
  rw [List.length_append]
  simp only [List.length_cons,List.length_nil]
  omega
theorem Level.empty {x:Inst} {l:List Node} {K:Nat} (h:Level x l 0 K):l=[]:=by
 cases l with
 |nil=>rfl
 |cons n l=>exact absurd (h.deep n List.mem_cons_self) (by omega)
theorem Level.root (x:Inst) (n:Node) (h:n.s.ok):Level x [n] (x.meas n.s+1) (n.path.length+x.meas n.s+1):=by
 refine ⟨?_,?_,?_⟩<;>(intro m hm;rw [List.mem_singleton.1 hm])
 ·exact h
 ·omega
 ·omega
end Go.Proofs.YtackfabapangdaaGreat

set_option maxRecDepth 4000
set_option maxHeartbeats 1000000
namespace Go.Proofs.YtackfabapangdaaGreat
open Go Go.Proofs.YtackfabapangdaaGreat.R
def Inst.few (x:Inst) (W:Nat) (l:List Node) (up:Int):List Node:=(x.sortN (x.next l up)).take W
def Inst.naGo (x:Inst) (W:Nat):Nat→Node×Bool×Int→List Node→Int→Node×Bool×Int
 |0,st,_,n=>(st.1,st.2.1,n)
 |d+1,st,l,n=>if l.length=0 then (st.1,st.2.1,n) else x.naGo W d (x.look st l) (x.few W l st.2.2) (IntKind.i64.wrap (n+l.length))
def widthN (w:Int):Nat:=if w<1 then 1 else w.toNat
def Inst.narrow (x:Inst) (n:Node) (width up:Int):Node×Bool×Int:=x.naGo (widthN width) (x.meas n.s+1) (Node.zero,false,up) [n] 0
def naRes (r:Node×Bool×Int):AV:=.tup [r.1.a,.b r.2.1,.i r.2.2]
theorem few_mem {x:Inst} {W:Nat} {l:List Node} {up:Int} {n:Node} (h:n∈x.few W l up):n∈x.next l up:=Inst.sortN_mem.1 (List.mem_of_mem_take h)
theorem few_len (x:Inst) (W:Nat) (l:List Node) (up:Int):(x.few W l up).length≤W:=by rw [Inst.few,List.length_take];omega
theorem Level.few {x:Inst} {l:List Node} {d K:Nat} (h:Level x l (d+1) K) (W:Nat) (up:Int):Level x (x.few W l up) d K:=by
 have key:∀m∈x.few W l up,∃n∈l,∃j,(x.move n.s j).2.2=true∧m=x.child n j:=by
  intro m hm
  obtain ⟨n,hn,j,hj,e,_⟩:=next_mem (few_mem hm)
  exact ⟨n,hn,j,moves_mem hj,e⟩
 refine ⟨?_,?_,?_⟩
 ·intro m hm
  obtain ⟨n,hn,j,hj,rfl⟩:=key m hm
  exact move_ok x j (h.ok n hn)
 ·intro m hm
  obtain ⟨n,hn,j,hj,rfl⟩:=key m hm
  have:=meas_move hj
  have:=h.deep n hn
  show x.meas (x.move n.s j).1<d
  omega
 ·intro m hm
  obtain ⟨n,hn,j,hj,rfl⟩:=key m hm
  have:=h.path n hn
  show (n.path++[j]).length+d≤K
  rw [List.length_append]
  simp only [List.length_cons,List.length_nil]
  omega
theorem nbest_pure (x:Inst) (n:Node) (width up:Int) (hl:x.stops.length<2^31) (hw:width≤3000) (ho:n.s.ok) (hp:n.path.length<2^29):Pure P 130 [x.a,n.a,.i width,.i up] (naRes (x.narrow n width up)):=by
 generalize hR:x.narrow n width up=R
 refine pure_of Tryz.func130 rfl rfl (by simp [Tryz.f130]) (by simp [bnd,bnd.bndL,Inst.a,Node.a,Node.cs]) (by simp [bnd,bnd.bndL,naRes,Node.a,Node.cs]) fun B hB hnx=>?_
 simp only [Tryz.f130] at hB ⊢
 have hlev:=Level.root x n ho
 have hmeas:=meas_le x n.s
 rw [Inst.narrow] at hR
 generalize hd:x.meas n.s+1=d0 at *
 generalize hK:n.path.length+x.meas n.s+1=K at *
 have hW1:max width 1=(widthN width:Nat):=by unfold widthN;split<;>omega
 have hW2:widthN width≤3000:=by unfold widthN;split<;>omega
 generalize widthN width=W at *
 refine K_run hB 100 ?_
 simp [go_sem,Inst.a,Node.a,Node.cs]
 refine K_less ((Imp.looseB (b:=2) (cs:=[.i 0,.i 0,.i 0,.i 0,.i 0,.u 0,.u 0,.u 0,.i 0,.fsl []]) (by simp [oput])).trans ((Imp.looseB (b:=3) (cs:=[.i 0,.i 0,.i 0,.i 0,.i 0,.u 0,.u 0,.u 0,.i 0,.fsl []]) (by simp [oput])).trans Imp.loose)) ?_
 refine K_loopP (α:=Nat×(Node×Bool×Int)×List Node×Int×(Nat→AObj)×Nat) (fun (d,st,l,n,σ,nx)=>Level x l d K∧x.naGo W d st l n=R∧l.length≤3000∧σ 0= .box x.cs∧σ 2= .box Node.zero.cs∧σ 3= .box st.1.cs∧3<nx)
  (fun (d,st,l,n,σ,nx)=>⟨sl [(2,.i width),(3,.i st.2.2),(4,.ptr 0 0),(8,.ptr 2 0),(11,.ptr 3 0),(12,.b st.2.1),(13,.i n),(14,.t (.sl (nodesT l)))],σ,nx⟩) (fun a=>a.1) (d0,(Node.zero,false,up),[n],0,_,4) ?_ (Imp.slots (by simp [go_sem,loosen,nodesT,Node.t]) rfl rfl) ?_
 ·exact ⟨hlev,hR,by simp,by simp [oput,Inst.cs],by simp [oput,Node.zero,State.zero,Node.cs,ints,loosen],by simp [oput,Node.zero,State.zero,Node.cs,ints,loosen],by omega⟩
 rintro ⟨d,st,l,n,σ,nx⟩ ⟨g1,g2,g0,g3,g4,g5,g6⟩
 have hil:(nodesT l).length=l.length:=List.length_map _
 have hgo:x.naGo W d st l n=match d with
  |0=>(st.1,st.2.1,n)
  |d+1=>if l.length=0 then (st.1,st.2.1,n) else x.naGo W d (x.look st l) (x.few W l st.2.2) (IntKind.i64.wrap (n+l.length)):=by cases d<;>rfl
 by_cases c1:l.length=0
 ·have hr:R=(st.1,st.2.1,n):=by
   rw [←g2,hgo]
   cases d with
   |zero=>rfl
   |succ d=>simp only;rw [if_pos c1]
  subst hr
  refine K_run hB 100 ?_
  simp [go_sem,hil,c1,g4,g5,Node.cs]
  rfl
 cases d with
 |zero=>exact absurd (by rw [g1.empty];rfl) c1
 |succ d=>
  simp only at hgo
  rw [if_neg c1] at hgo
  have c4:0<l.length:=by omega
  rw [hgo] at g2
  have hx:=expand_pure x l st.2.2 hl (by omega) (fun m h=>⟨g1.ok m h,by have:=g1.path m h;omega⟩) (fun m h=>by have:=g1.path m h;omega)
  have q1:=next_len x l st.2.2
  have q2:∀m∈x.next l st.2.2,m.Fine:=by
   intro m hm
   obtain ⟨k,h,j,_,rfl,_⟩:=next_mem hm
   refine ⟨move_ok x j (g1.ok k h),?_⟩
   have:=g1.path k h
   show (k.path++[j]).length<2^31
   rw [List.length_append]
   simp only [List.length_cons,List.length_nil]
   omega
  have hf:=sorted_pure x (x.next l st.2.2) hl (by omega) q2
  have hlv:=g1.few W st.2.2
  have hfl:=few_len x W l st.2.2
  rw [Inst.few] at hlv hfl g2
  have hsl:=x.sortN_len (x.next l st.2.2)
  have hlk:x.look st l=if (x.bests l).2=true∧(x.bests l).1.cost<st.2.2 then ((x.bests l).1,true,(x.bests l).1.cost) else st:=rfl
  generalize x.look st l=st' at *
  generalize x.next l st.2.2=M at *
  generalize x.sortN M=S at *
  generalize x.bests l=Rb at *
  obtain ⟨b,is⟩:=Rb
  simp only at hlk
  have hm:min (S.length:Int) (max width 1)=(min S.length W:Nat):=by rw [hW1];omega
  have htk:S.take W=S.take (min S.length W):=by
   by_cases h:W≤S.length
   ·rw [Nat.min_eq_right h]
   ·rw [Nat.min_eq_left (by omega),List.take_length,List.take_of_length_le (by omega)]
  rw [htk] at hlv hfl g2
  have hkl:min S.length W≤S.length:=by omega
  generalize min S.length W=k at *
  have hSl:(nodesT S).length=S.length:=List.length_map _
  have hS1:=nodesT_len S
  have hSt:(nodesT S).take k=nodesT (S.take k):=by rw [nodesT,nodesT,List.map_take]
  refine K_run hB 100 ?_
  simp [go_sem,hil,c4,g3,Inst.cs]
  refine K_call rfl rfl rfl (args:=[x.a,.t (.sl (nodesT l)),.i st.2.2]) (f:=180) (by simp [go_sem,Inst.a]) (by simp [go_sem,hB]) ((hx).spec _ _) ?_
  have m0:¬0=nx:=by omega
  have m2:¬2=nx:=by omega
  have m3:¬3=nx:=by omega
  have m4:¬nx=3:=by omega
  cases is with
  |false=>
   rw [if_neg (by simp)] at hlk
   subst hlk
   refine K_run hB 100 ?_
   simp [go_sem,expRes,Node.a,Node.cs,g3,m0,Inst.cs]
   refine K_call rfl rfl rfl (args:=[x.a,.t (.sl (nodesT M))]) (f:=181) (by simp [go_sem,Inst.a]) (by simp [go_sem,hB]) ((hf).spec _ _) ?_
   refine K_run hB 100 ?_
   simp [go_sem,hSl,hm,if_pos hS1,hSt,hkl]
   refine Next.mk (d,st',S.take k,IntKind.i64.wrap (n+l.length),_,nx+1) ?_ (Imp.loose.trans (Imp.slots (by simp [go_sem,loosen]) rfl rfl)) (by simp only;omega)
   exact ⟨hlv,g2,by simp only;omega,by simp [oput,g3,m0,Inst.cs],by simp [oput,g4,m2,Node.cs],by simp [oput,g5,m3,Node.cs],by simp only;omega⟩
  |true=>
   by_cases c5:b.cost<st.2.2
   ·rw [if_pos ⟨rfl,c5⟩] at hlk
    subst hlk
    refine K_run hB 100 ?_
    simp [go_sem,expRes,Node.a,Node.cs,c5]
    refine K_drawnF [3] [1,2] rfl (by rw [hB];kernel_rfl) (by kernel_rfl) fun ht hf'=>?_
    refine K_run hB 100 ?_
    simp [go_sem,ht,hf',c5,m3,m4,m0,g3,g5,Inst.cs,Node.cs]
    refine K_call rfl rfl rfl (args:=[x.a,.t (.sl (nodesT M))]) (f:=181) (by simp [go_sem,Inst.a]) (by simp [go_sem,hB]) ((hf).spec _ _) ?_
    refine K_run hB 100 ?_
    simp [go_sem,hSl,hm,if_pos hS1,hSt,hkl]
    refine Next.mk (d,(b,true,b.cost),S.take k,IntKind.i64.wrap (n+l.length),_,nx+1) ?_ (Imp.loose.trans (Imp.slots (by simp [go_sem,loosen]) rfl rfl)) (by simp only;omega)
    exact ⟨hlv,g2,by simp only;omega,by simp [oput,g3,m0,Inst.cs],by simp [oput,g4,m2,Node.cs],by simp [oput,g5,m3,Node.cs],by simp only;omega⟩
   ·rw [if_neg (fun h=>c5 h.2)] at hlk
    subst hlk
    refine K_run hB 100 ?_
    simp [go_sem,expRes,Node.a,Node.cs,c5,g3,m0,Inst.cs]
    refine K_call rfl rfl rfl (args:=[x.a,.t (.sl (nodesT M))]) (f:=181) (by simp [go_sem,Inst.a]) (by simp [go_sem,hB]) ((hf).spec _ _) ?_
    refine K_run hB 100 ?_
    simp [go_sem,hSl,hm,if_pos hS1,hSt,hkl]
    refine Next.mk (d,st',S.take k,IntKind.i64.wrap (n+l.length),_,nx+1) ?_ (Imp.loose.trans (Imp.slots (by simp [go_sem,loosen]) rfl rfl)) (by simp only;omega)
    exact ⟨hlv,g2,by simp only;omega,by simp [oput,g3,m0,Inst.cs],by simp [oput,g4,m2,Node.cs],by simp [oput,g5,m3,Node.cs],by simp only;omega⟩
end Go.Proofs.YtackfabapangdaaGreat

set_option maxRecDepth 4000
namespace Go.Proofs.YtackfabapangdaaGreat
open Go Go.Proofs.YtackfabapangdaaGreat.R
def stOk (st:Node×Bool×Int):Prop:=st.2.1=true→st.1.cost=st.2.2
theorem look_ok {x:Inst} {st:Node×Bool×Int} {l:List Node} (h:stOk st):stOk (x.look st l)∧(x.look st l).2.2≤st.2.2∧(st.2.1=true→(x.look st l).2.1=true):=by
 unfold Inst.look
 split
 ·rename_i hc
  exact ⟨fun _=>rfl,by simp only;omega,fun _=>rfl⟩
 ·exact ⟨h,Int.le_refl _,fun h=>h⟩
end Go.Proofs.YtackfabapangdaaGreat

set_option maxRecDepth 4000
namespace Go.Proofs.YtackfabapangdaaGreat
open Go Go.Proofs.YtackfabapangdaaGreat.R
def Inst.way (x:Inst):List Int→State→Int→Prop
 |[],s,c=>(x.endS s).2=true∧c=(x.endS s).1
 |j :: l,s,c=>(x.move s j).2.2=true∧∃d,x.way l (x.move s j).1 d∧c=(x.move s j).2.1+d
theorem way_in {x:Inst}:∀{l:List Int} {s:State} {c:Int},x.way l s c→0≤c∧c≤14143*(l.length+1)
 |[],s,c,h=>by
  have:=end_cost h.1
  have:=h.2
  simp only [List.length_nil]
  omega
 |j :: l,s,c,h=>by
  obtain ⟨h1,d,h2,h3⟩:=h
  have:=way_in h2
  have:=move_cost h1
  rw [List.length_cons]
  omega
theorem way_len {x:Inst}:∀{l:List Int} {s:State} {c:Int},x.way l s c→l.length≤x.meas s
 |[],s,c,h=>Nat.zero_le _
 |j :: l,s,c,h=>by
  obtain ⟨h1,d,h2,h3⟩:=h
  have:=way_len h2
  have:=meas_move h1
  rw [List.length_cons]
  omega
theorem way_low {x:Inst}:∀{l:List Int} {s:State} {c:Int},s.seenAt→x.way l s c→lowP x.near s.can≤c
 |[],s,c,_,h=>by rw [h.2];exact low_end h.1
 |j :: l,s,c,hs,h=>by
  obtain ⟨h1,d,h2,h3⟩:=h
  have:=way_low (seen_step h1) h2
  have:=low_step hs h1
  omega
theorem way_app {x:Inst}:∀{l:List Int} {s t:State} {c0 c1:Int} {m:List Int} {d:Int},0≤c0→c0+14143*l.length<9223372036854775808→x.goes l s c0=some (t,c1)→x.way m t d→x.way (l++m) s (c1-c0+d)
 |[],s,t,c0,c1,m,d,_,_,h,he=>by
  rw [Inst.goes] at h
  cases h
  have:c0-c0+d=d:=by omega
  rw [this]
  exact he
 |j :: l,s,t,c0,c1,m,d,h0,hl,h,he=>by
  rw [Inst.goes] at h
  split at h
  ·rename_i hm
   have hc:=move_cost hm
   rw [List.length_cons] at hl
   rw [w64 _ (by omega)] at h
   exact ⟨hm,_,way_app (by omega) (by omega) h he,by omega⟩
  ·cases h
structure State.Pos (s:State):Prop where
 car:1≤s.car
 time:0≤s.time
 load:0≤s.load
theorem within_with {a b k:Nat} (hk:k≤63) (h:withinB a b=true):withinB (withN a k) (withN b k)=true:=by
 rw [withinB,List.all_eq_true] at *
 intro i hi
 have:=h i hi
 rw [with_bit hk,with_bit hk]
 revert this
 cases a.testBit i<;>cases b.testBit i<;>cases decide (k=i)<;>simp
theorem within_without {a b k:Nat} (hk:k≤63) (h:withinB a b=true):withinB (withoutN a k) (withoutN b k)=true:=by
 rw [withinB,List.all_eq_true] at *
 intro i hi
 have:=h i hi
 have hi':=List.mem_range.1 hi
 rw [without_bit hk hi',without_bit hk hi']
 revert this
 cases a.testBit i<;>cases b.testBit i<;>cases decide (k=i)<;>simp
theorem within_zero {a:Nat} (ha:a<2^64) (h:withinB a 0=true):a=0:=by
 refine Nat.eq_of_testBit_eq fun i=>?_
 by_cases hi:i<64
 ·rw [withinB,List.all_eq_true] at h
  have:=h i (List.mem_range.2 hi)
  revert this
  cases a.testBit i<;>simp
 ·rw [Nat.zero_testBit]
  exact Nat.testBit_lt_two_pow (Nat.lt_of_lt_of_le ha (Nat.pow_le_pow_right (by omega) (by omega)))
theorem cov_mk {a b:State} (e1:a.spot=b.spot) (e2:withinB a.must b.must=true) (e3:withinB a.on b.on=true) (e4:withinB b.can a.can=true) (e5:a.car≤b.car) (e6:a.time≤b.time) (e7:a.load≤b.load) (e8:a.first≤b.first):coversB a b=true:=by
 simp only [coversB,Bool.and_eq_true,decide_eq_true_eq]
 exact ⟨⟨⟨⟨⟨⟨⟨e1,e2⟩,e3⟩,e4⟩,e5⟩,e6⟩,e7⟩,e8⟩
theorem cov_may {x:Inst} {a b:State} (h:coversB a b=true) (hp:a.Pos) (hb:b.mayB x=true):a.mayB x=true:=by
 simp only [coversB,Bool.and_eq_true,decide_eq_true_eq] at h
 simp only [State.mayB,Bool.and_eq_true,decide_eq_true_eq] at hb ⊢
 have:=hp.car
 have:=hp.time
 have:=hp.load
 omega
theorem cov_home {x:Inst} {a b:State} (hcov:coversB a b=true) (hp:a.Pos) (ho:a.ok) (h:(x.move b 0).2.2=true):
  x.move a 0=(x.homeS a,far (x.stop b.spot) (x.stop 0),true)∧coversB (x.homeS a) (x.homeS b)=true∧(x.homeS a).Pos:=by
 have hc:=hcov
 simp only [coversB,Bool.and_eq_true,decide_eq_true_eq] at hc
 obtain ⟨⟨⟨⟨⟨⟨⟨e1,e2⟩,e3⟩,e4⟩,e5⟩,e6⟩,e7⟩,e8⟩:=hc
 obtain ⟨h1,h2,h3,h4⟩:=move_home h
 obtain ⟨p,hx⟩:=x.fit h1
 have hpp:=hx.pairs
 have ha:=cov_may hcov hp h2
 have hs:x.stayB a=false:=by
  simp only [Inst.stayB,Bool.or_eq_false_iff,decide_eq_false_iff_not] at h3 ⊢
  obtain ⟨⟨⟨⟨a1,a2⟩,a3⟩,a4⟩,a5⟩:=h3
  have hon:a.on=0:=by
   have:b.on=0:=by omega
   rw [this] at e3
   exact within_zero ho.on e3
  refine ⟨⟨⟨⟨by rw [e1];exact a1,by omega⟩,by omega⟩,?_⟩,by rw [e1];omega⟩
  cases hq:x.allB a.must with
  |false=>rfl
  |true=>
   have:=within_trans hq e2
   rw [Inst.allB] at a4
   rw [a4] at this
   cases this
 have hto:x.to a 0=(x.homeS a,true):=by rw [Inst.to,if_pos rfl,Inst.home,if_neg (by rw [hs];simp)]
 have hmv:=move_mk (j:=0) h1 ha (by omega) (by rw [hto])
 rw [hto,e1] at hmv
 have h5:=(hx.at (j:=0) (by omega) (by omega)).ready
 have h6:=hp.car
 refine ⟨hmv,cov_mk (a:=x.homeS a) (b:=x.homeS b) rfl e2 e3 e4 ?_ ?_ ?_ e8,⟨?_,?_,?_⟩⟩<;>simp only [Inst.homeS]<;>omega
theorem cov_pos {x:Inst} {a b:State} {j:Int} (hj:j≠0) (hcov:coversB a b=true) (hp:a.Pos) (h:(x.move b j).2.2=true):
  x.move a j=(x.rvisit a j (x.begins a j),far (x.stop b.spot) (x.stop j),true)∧coversB (x.rvisit a j (x.begins a j)) (x.rvisit b j (x.begins b j))=true∧(x.rvisit a j (x.begins a j)).Pos:=by
 have hc:=hcov
 simp only [coversB,Bool.and_eq_true,decide_eq_true_eq] at hc
 obtain ⟨⟨⟨⟨⟨⟨⟨e1,e2⟩,e3⟩,e4⟩,e5⟩,e6⟩,e7⟩,e8⟩:=hc
 obtain ⟨h1,h2,h3,h4,h5,h6,h7,h8⟩:=move_pos h hj
 obtain ⟨p,hx⟩:=x.fit h1
 have hpp:=hx.pairs
 have hfew:=hx.few
 have ha:=cov_may hcov hp h2
 have hbe:x.begins a j≤x.begins b j:=by
  unfold Inst.begins
  rw [e1]
  omega
 have k1:x.lateB a j=false:=by
  simp only [Inst.lateB,Bool.or_eq_false_iff,decide_eq_false_iff_not] at h5 ⊢
  refine ⟨?_,by omega⟩
  cases hq:hasB a.must j with
  |false=>rfl
  |true=>
   have:=within_has e2 j hq
   rw [h5.1] at this
   cases this
 have k2:j≤x.pairs→x.fullB a j=false:=fun hh=>by
  have:=h6 hh
  simp only [Inst.fullB,Bool.or_eq_false_iff,Bool.and_eq_false_iff,decide_eq_false_iff_not] at this ⊢
  refine ⟨by omega,?_⟩
  rcases this.2 with h9 | h9
  ·exact .inl (by rw [e1];exact h9)
  ·exact .inr (by omega)
 have k3:x.pairs<j→x.emptyB a j=false:=fun hh=>by
  have:=h7 hh
  simp only [Inst.emptyB,Bool.or_eq_false_iff,Bool.not_eq_false',decide_eq_false_iff_not] at this ⊢
  exact ⟨by rw [e1];exact this.1,within_has e4 _ this.2⟩
 have hto:=to_visit (x:=x) (s:=a) hj k1 k2 k3
 have hmv:=move_mk (j:=j) h1 ha (by omega) (by rw [hto])
 rw [hto,e1] at hmv
 have h9:=(hx.at (j:=j) (by omega) (by omega)).service
 have h10:=(far_le (x.stop a.spot) (x.stop j)).1
 have h11:=hp.time
 have h12:=hp.car
 have h13:0≤x.begins a j:=by unfold Inst.begins;omega
 obtain ⟨k,hk⟩:∃k:Nat,j=k:=⟨j.toNat,by omega⟩
 refine ⟨hmv,?_,⟨?_,?_,?_⟩⟩
 ·generalize x.begins a j=ta at *
  generalize x.begins b j=tb at *
  generalize x.stop j=sj at *
  refine cov_mk ?_ ?_ ?_ ?_ ?_ ?_ ?_ ?_
  ·simp only [Inst.rvisit]
  ·simp only [Inst.rvisit]
   rw [hk]
   exact within_with (by omega) e2
  ·simp only [Inst.rvisit]
   rw [hk]
   split
   ·exact within_with (by omega) e3
   ·obtain ⟨q,hq⟩:∃q:Nat,(k:Int)-x.pairs=q:=⟨((k:Int)-x.pairs).toNat,by omega⟩
    rw [hq]
    exact within_without (by omega) e3
  ·simp only [Inst.rvisit]
   rw [hk]
   exact within_with (by omega) e4
  ·simp only [Inst.rvisit]
   exact e5
  ·simp only [Inst.rvisit]
   omega
  ·simp only [Inst.rvisit]
   omega
  ·simp only [Inst.rvisit]
   rw [e1]
   split
   ·exact Int.le_refl _
   ·exact e8
 ·simp only [Inst.rvisit];exact h12
 ·simp only [Inst.rvisit];omega
 ·simp only [Inst.rvisit];omega
theorem cov_move {x:Inst} {a b:State} {j:Int} (hc:coversB a b=true) (hp:a.Pos) (ho:a.ok) (h:(x.move b j).2.2=true):
  (x.move a j).2.2=true∧(x.move a j).2.1=(x.move b j).2.1∧coversB (x.move a j).1 (x.move b j).1=true∧(x.move a j).1.Pos:=by
 by_cases hj:j=0
 ·subst hj
  obtain ⟨g1,g2,g3⟩:=cov_home hc hp ho h
  rw [g1,(move_home h).2.2.2]
  exact ⟨rfl,rfl,g2,g3⟩
 ·obtain ⟨g1,g2,g3⟩:=cov_pos hj hc hp h
  rw [g1,(move_pos h hj).2.2.2.2.2.2.2]
  exact ⟨rfl,rfl,g2,g3⟩
theorem cov_end {x:Inst} {a b:State} (h0:x.pairs≠0) (hc:coversB a b=true) (hp:a.Pos) (ho:a.ok) (h:(x.endS b).2=true):(x.endS a).2=true∧(x.endS a).1=(x.endS b).1:=by
 have hcov:=hc
 simp only [coversB,Bool.and_eq_true,decide_eq_true_eq] at hc
 obtain ⟨⟨⟨⟨⟨⟨⟨e1,e2⟩,e3⟩,e4⟩,e5⟩,e6⟩,e7⟩,e8⟩:=hc
 obtain ⟨h1,h2 | ⟨h2,h3,h4,h5,h6,h7⟩⟩:=end_is h
 ·exact absurd h2.1 h0
 ·have hon:a.on=0:=by
   rw [h4] at e3
   exact within_zero ho.on e3
  have hend:x.endS a=(far (x.stop a.spot) (x.stop 0),true):=by
   rw [Inst.endS,if_neg (by simp [h1]),if_neg (fun h=>h0 h.1),if_pos]
   refine ⟨cov_may hcov hp h2,by rw [e1];exact h3,hon,?_,by rw [e1];omega⟩
   exact within_trans h5 e4
  rw [hend,h7,e1]
  exact ⟨rfl,rfl⟩
theorem cov_way {x:Inst} (h0:x.pairs≠0):∀{l:List Int} {a b:State} {c:Int},coversB a b=true→a.Pos→a.ok→x.way l b c→x.way l a c
 |[],a,b,c,hc,hp,ho,h=>by
  obtain ⟨h1,h2⟩:=cov_end h0 hc hp ho h.1
  exact ⟨h1,by rw [h2];exact h.2⟩
 |j :: l,a,b,c,hc,hp,ho,h=>by
  obtain ⟨h1,d,h2,h3⟩:=h
  obtain ⟨g1,g2,g3,g4⟩:=cov_move hc hp ho h1
  exact ⟨g1,d,cov_way h0 g3 g4 (move_ok x j ho) h2,by omega⟩
theorem pos_move {x:Inst} {s:State} {j:Int} (hp:s.Pos) (ho:s.ok) (h:(x.move s j).2.2=true):(x.move s j).1.Pos:=(cov_move (covers_refl s) hp ho h).2.2.2
theorem pos_root {x:Inst} (h:x.may=true):x.rootS.Pos:=by
 obtain ⟨p,hx⟩:=x.fit h
 have:=(hx.at (j:=0) (by omega) (by omega)).ready
 rw [Inst.rootS,if_pos h]
 exact ⟨Int.le_refl _,this.1,Int.le_refl _⟩
theorem move_pairs {x:Inst} {s:State} {j:Int} (h:(x.move s j).2.2=true):x.pairs≠0:=by
 by_cases hj:j=0
 ·subst hj
  obtain ⟨h1,h2,h3,h4⟩:=move_home h
  simp only [Inst.stayB,Bool.or_eq_false_iff,decide_eq_false_iff_not] at h3
  simp only [State.mayB,Bool.and_eq_true,decide_eq_true_eq] at h2
  omega
 ·have:=move_pos h hj
  omega
end Go.Proofs.YtackfabapangdaaGreat

set_option maxRecDepth 4000
namespace Go.Proofs.YtackfabapangdaaGreat
open Go Go.Proofs.YtackfabapangdaaGreat.R
structure Lev (x:Inst) (l:List Node) (d:Nat):Prop where
 ok:∀n∈l,n.s.ok
 deep:∀n∈l,x.meas n.s<d
 pos:∀n∈l,n.s.Pos
 seen:∀n∈l,n.s.seenAt
 cost:∀n∈l,0≤n.cost∧n.cost+14143*(d:Int)≤1152921504606846976
theorem child_cost {x:Inst} {l:List Node} {d:Nat} (h:Lev x l (d+1)) {n:Node} (hn:n∈l) {j:Int} (hj:(x.move n.s j).2.2=true):(x.child n j).cost=n.cost+(x.move n.s j).2.1:=by
 have h1:=h.cost n hn
 have h2:=move_cost hj
 show sumI [n.cost,(x.move n.s j).2.1]=_
 rw [sumI_two h1.1 h2.1 (by omega)]
theorem Lev.sub {x:Inst} {l m:List Node} {d:Nat} (h:Lev x l d) (hs:∀n∈m,n∈l):Lev x m d:=
 ⟨fun n hn=>h.ok n (hs n hn),fun n hn=>h.deep n (hs n hn),fun n hn=>h.pos n (hs n hn),fun n hn=>h.seen n (hs n hn),fun n hn=>h.cost n (hs n hn)⟩
theorem Lev.next {x:Inst} {l:List Node} {d:Nat} (h:Lev x l (d+1)) (up:Int):Lev x (x.next l up) d:=by
 have key:∀m∈x.next l up,∃n∈l,∃j,(x.move n.s j).2.2=true∧m=x.child n j:=by
  intro m hm
  obtain ⟨n,hn,j,hj,e,_⟩:=next_mem hm
  exact ⟨n,hn,j,moves_mem hj,e⟩
 refine ⟨?_,?_,?_,?_,?_⟩<;>(intro m hm;obtain ⟨n,hn,j,hj,rfl⟩:=key m hm)
 ·exact move_ok x j (h.ok n hn)
 ·have:=meas_move hj
  have:=h.deep n hn
  show x.meas (x.move n.s j).1<d
  omega
 ·exact pos_move (h.pos n hn) (h.ok n hn) hj
 ·exact seen_step hj
 ·rw [child_cost h hn hj]
  have:=h.cost n hn
  have:=move_cost hj
  omega
theorem Lev.front {x:Inst} {l:List Node} {d:Nat} (h:Lev x l (d+1)) (up:Int):Lev x (frontL (x.next l up)) d:=(h.next up).sub fun n hn=>(front_inv _).sub n hn
theorem Lev.empty {x:Inst} {l:List Node} (h:Lev x l 0):l=[]:=by
 cases l with
 |nil=>rfl
 |cons n l=>exact absurd (h.deep n List.mem_cons_self) (by omega)
theorem Lev.root {x:Inst} {n:Node} (h1:n.s.ok) (h2:n.s.Pos) (h3:n.s.seenAt) (h4:0≤n.cost∧n.cost≤1152921504606000000):Lev x [n] (x.meas n.s+1):=by
 have:=meas_le x n.s
 refine ⟨?_,?_,?_,?_,?_⟩<;>(intro m hm;rw [List.mem_singleton.1 hm])
 ·exact h1
 ·omega
 ·exact h2
 ·exact h3
 ·omega
theorem best_fold_from (x:Inst):∀(l:List Node) (b:Node×Bool),(l.foldl x.best1 b)=b∨((l.foldl x.best1 b).2=true∧∃n∈l,(x.endS n.s).2=true∧(l.foldl x.best1 b).1.cost=sumI [n.cost,(x.endS n.s).1]∧(l.foldl x.best1 b).1.path=n.path)
 |[],b=>.inl rfl
 |n :: l,b=>by
  rw [List.foldl_cons]
  rcases best_fold_from x l (x.best1 b n) with h | ⟨h1,m,hm,h2⟩
  ·rw [h]
   unfold Inst.best1
   split
   ·rename_i hc
    exact .inr ⟨rfl,n,List.mem_cons_self,hc.1,rfl,rfl⟩
   ·exact .inl rfl
  ·exact .inr ⟨h1,m,List.mem_cons_of_mem _ hm,h2⟩
theorem bests_from {x:Inst} {l:List Node} (h:(x.bests l).2=true):∃n∈l,(x.endS n.s).2=true∧(x.bests l).1.cost=sumI [n.cost,(x.endS n.s).1]∧(x.bests l).1.path=n.path:=by
 rcases best_fold_from x l (Node.zero,false) with h1 | ⟨_,h2⟩
 ·rw [Inst.bests,h1] at h;cases h
 ·exact h2
theorem end_sum {x:Inst} {l:List Node} {d:Nat} (h:Lev x l (d+1)) {n:Node} (hn:n∈l) (he:(x.endS n.s).2=true):sumI [n.cost,(x.endS n.s).1]=n.cost+(x.endS n.s).1:=by
 have h1:=h.cost n hn
 have h2:=end_cost he
 rw [sumI_two h1.1 h2.1 (by omega)]
theorem next_way {x:Inst} (hst:x.stops.length<2^31) {l:List Node} {d:Nat} (h:Lev x l (d+1)) {n:Node} (hn:n∈l) {j:Int} {w:List Int} {c:Int} (hj:(x.move n.s j).2.2=true) (hw:x.way w (x.move n.s j).1 c) {up:Int} (hlt:n.cost+((x.move n.s j).2.1+c)<up):
  ∃m∈x.next l up,m.s=(x.move n.s j).1∧m.cost≤n.cost+(x.move n.s j).2.1:=by
 have hc:=h.cost n hn
 have hmc:=move_cost hj
 have hcc:=child_cost h hn hj
 have hwl:=way_len hw
 have hwi:=way_in hw
 have hmm:=meas_move hj
 have hdp:=h.deep n hn
 have hlow:=way_low (seen_step hj) hw
 have hof:x.of (x.child n j)<up:=by
  have:=move_seen_low (x:=x) hst (x.child n j) (n.cost+((x.move n.s j).2.1+c)) (by omega) (by rw [hcc];show _+lowP x.near (x.move n.s j).1.can≤_;omega) (by omega)
  omega
 have hmem:x.child n j∈l.flatMap (x.kids up):=by
  refine List.mem_flatMap.2 ⟨n,hn,?_⟩
  rw [Inst.kids,List.mem_filter]
  exact ⟨List.mem_map.2 ⟨j,mem_moves hj,rfl⟩,by simpa using hof⟩
 obtain ⟨m,h1,h2,h3⟩:=onceL_has hmem
 exact ⟨m,h1,h2,by omega⟩
theorem front_way {x:Inst} {l:List Node} {d:Nat} (h:Lev x l d) (hp:x.pairs≠0) {n:Node} (hn:n∈l) {w:List Int} {c:Int} (hw:x.way w n.s c):∃m∈frontL l,x.way w m.s c∧m.cost≤n.cost:=by
 obtain ⟨f,hf,hfn⟩:=(front_inv l).up n hn
 have hfl:=(front_inv l).sub f hf
 simp only [Node.than,Bool.and_eq_true,decide_eq_true_eq] at hfn
 exact ⟨f,hf,cov_way hp hfn.2 (h.pos f hfl) (h.ok f hfl) hw,hfn.1.1⟩
theorem exGo_keep (x:Inst) (most:Int):∀(d:Nat) (st:Node×Bool×Int) (l:List Node) (n:Int),stOk st→st.2.1=true→(x.exGo most d st l n).2.1=true∧(x.exGo most d st l n).1.cost≤st.2.2
 |0,st,l,n,h,hs=>⟨hs,by rw [Inst.exGo];have:=h hs;simp only;omega⟩
 |d+1,st,l,n,h,hs=>by
  rw [Inst.exGo]
  split
  ·exact ⟨hs,by have:=h hs;simp only;omega⟩
  ·split
   ·exact ⟨hs,by have:=h hs;simp only;omega⟩
   ·obtain ⟨k1,k2,k3⟩:=look_ok (x:=x) (l:=l) h
    obtain ⟨j1,j2⟩:=exGo_keep x most d (x.look st l) (frontL (x.next l st.2.2)) (IntKind.i64.wrap (n+l.length)) k1 (k3 hs)
    exact ⟨j1,by omega⟩
theorem exGo_has {x:Inst} (hst:x.stops.length<2^31) (most:Int):∀(d:Nat) (st:Node×Bool×Int) (l:List Node) (n:Int),Lev x l d→stOk st→(x.exGo most d st l n).2.2.1=true→
  ∀m∈l,∀(w:List Int) (c:Int),x.way w m.s c→m.cost+c<st.2.2→(x.exGo most d st l n).2.1=true∧(x.exGo most d st l n).1.cost≤m.cost+c
 |0,st,l,n,hl,_,_,m,hm,w,c,_,_=>by rw [hl.empty] at hm;cases hm
 |d+1,st,l,n,hl,h,hall,m,hm,w,c,hw,hlt=>by
  have c1:¬l.length=0:=by
   have:=List.length_pos_of_mem hm
   omega
  rw [Inst.exGo,if_neg c1] at hall ⊢
  by_cases c2:most<l.length
  ·rw [if_pos c2] at hall;cases hall
  rw [if_neg c2] at hall ⊢
  obtain ⟨k1,k2,k3⟩:=look_ok (x:=x) (l:=l) h
  match w,hw with
  |[],hw=>
   obtain ⟨b1,b2⟩:=bests_has hm hw.1
   rw [end_sum hl hm hw.1,←hw.2] at b2
   have hlk:x.look st l=((x.bests l).1,true,(x.bests l).1.cost):=by rw [Inst.look,if_pos ⟨b1,by omega⟩]
   obtain ⟨j1,j2⟩:=exGo_keep x most d (x.look st l) (frontL (x.next l st.2.2)) (IntKind.i64.wrap (n+l.length)) k1 (by rw [hlk])
   refine ⟨j1,?_⟩
   have:(x.look st l).2.2=(x.bests l).1.cost:=by rw [hlk]
   omega
  |j :: w,hw=>
   obtain ⟨g1,e,g2,g3⟩:=hw
   obtain ⟨q,hq,q1,q2⟩:=next_way hst hl hm g1 g2 (up:=st.2.2) (by omega)
   obtain ⟨f,hf,f1,f2⟩:=front_way (hl.next st.2.2) (move_pairs g1) hq (w:=w) (c:=e) (by rw [q1];exact g2)
   by_cases c3:f.cost+e<(x.look st l).2.2
   ·obtain ⟨i1,i2⟩:=exGo_has hst most d (x.look st l) (frontL (x.next l st.2.2)) _ (hl.front st.2.2) k1 hall f hf w e f1 c3
    exact ⟨i1,by omega⟩
   ·have hs:(x.look st l).2.1=true:=by
     unfold Inst.look at c3 ⊢
     split
     ·rfl
     ·rename_i hh
      rw [if_neg hh] at c3
      omega
    obtain ⟨j1,j2⟩:=exGo_keep x most d (x.look st l) (frontL (x.next l st.2.2)) (IntKind.i64.wrap (n+l.length)) k1 hs
    exact ⟨j1,by omega⟩
theorem exGo_from {x:Inst} (most:Int):∀(d:Nat) (st:Node×Bool×Int) (l:List Node) (n:Int),Lev x l d→stOk st→
  ((x.exGo most d st l n).2.1=st.2.1∧(x.exGo most d st l n).1=st.1)∨
  ((x.exGo most d st l n).2.1=true∧∃m∈l,∃(w:List Int) (c:Int),x.way w m.s c∧(x.exGo most d st l n).1.cost=m.cost+c∧(x.exGo most d st l n).1.path=m.path++w∧m.cost+c<st.2.2)
 |0,st,l,n,_,_=>.inl ⟨rfl,rfl⟩
 |d+1,st,l,n,hl,h=>by
  rw [Inst.exGo]
  split
  ·exact .inl ⟨rfl,rfl⟩
  split
  ·exact .inl ⟨rfl,rfl⟩
  obtain ⟨k1,k2,k3⟩:=look_ok (x:=x) (l:=l) h
  rcases exGo_from most d (x.look st l) (frontL (x.next l st.2.2)) (IntKind.i64.wrap (n+l.length)) (hl.front st.2.2) k1 with ⟨i1,i2⟩ | ⟨i1,m,hm,w,c,i2,i3,i4,i5⟩
  ·by_cases hh:(x.bests l).2=true∧(x.bests l).1.cost<st.2.2
   ·have hlk:x.look st l=((x.bests l).1,true,(x.bests l).1.cost):=by rw [Inst.look,if_pos hh]
    rw [i1,i2,hlk]
    obtain ⟨m,hm,b1,b2,b3⟩:=bests_from hh.1
    rw [end_sum hl hm b1] at b2
    exact .inr ⟨rfl,m,hm,[],_,⟨b1,rfl⟩,b2,by rw [List.append_nil];exact b3,by omega⟩
   ·have hlk:x.look st l=st:=by rw [Inst.look,if_neg hh]
    rw [i1,i2,hlk]
    exact .inl ⟨rfl,rfl⟩
  ·obtain ⟨q,hq,j,hj,rfl,_⟩:=next_mem ((front_inv _).sub m hm)
   have hj:=moves_mem hj
   have hcc:=child_cost hl hq hj
   refine .inr ⟨i1,q,hq,j :: w,(x.move q.s j).2.1+c,⟨hj,c,i2,rfl⟩,?_,?_,?_⟩
   ·rw [i3,hcc];omega
   ·rw [i4]
    show (q.path++[j])++w=_
    rw [List.append_assoc];rfl
   ·rw [hcc] at i5;omega
theorem exact_has {x:Inst} (hst:x.stops.length<2^31) {n:Node} {up most:Int} (h1:n.s.ok) (h2:n.s.Pos) (h3:n.s.seenAt) (h4:0≤n.cost∧n.cost≤1152921504606000000) (hall:(x.exact n up most).2.2.1=true) {w:List Int} {c:Int} (hw:x.way w n.s c) (hlt:n.cost+c<up):
  (x.exact n up most).2.1=true∧(x.exact n up most).1.cost≤n.cost+c:=
 exGo_has hst most _ _ _ _ (Lev.root h1 h2 h3 h4) (fun h=>by cases h) hall n List.mem_cons_self w c hw hlt
theorem exact_from {x:Inst} {n:Node} {up most:Int} (h1:n.s.ok) (h2:n.s.Pos) (h3:n.s.seenAt) (h4:0≤n.cost∧n.cost≤1152921504606000000) (hs:(x.exact n up most).2.1=true):
  ∃(w:List Int) (c:Int),x.way w n.s c∧(x.exact n up most).1.cost=n.cost+c∧(x.exact n up most).1.path=n.path++w∧n.cost+c<up:=by
 rcases exGo_from (x:=x) most _ (Node.zero,false,up) _ 0 (Lev.root h1 h2 h3 h4) (fun h=>by cases h) with ⟨i1,_⟩ | ⟨_,m,hm,w,c,i2⟩
 ·rw [Inst.exact,i1] at hs;cases hs
 ·rw [List.mem_singleton.1 hm] at i2
  exact ⟨w,c,i2⟩
end Go.Proofs.YtackfabapangdaaGreat

set_option maxRecDepth 4000
namespace Go.Proofs.YtackfabapangdaaGreat
open Go Go.Proofs.YtackfabapangdaaGreat.R
def sumTo (f:Nat→Nat):Nat→Nat
 |0=>0
 |n+1=>sumTo f n+f n
def okJ (p M:Nat) (yard:Bool) (j:Nat):Bool:=
 if j=0 then !yard&&(List.range p).all fun k=>!M.testBit k||M.testBit (k+p)
 else if j≤p then !M.testBit (j-1) else !yard&& !M.testBit (j-1)&&M.testBit (j-1-p)
def pot (p:Nat):Nat→Nat→Bool→Nat
 |0,_,_=>1
 |d+1,M,yard=>max 1 (sumTo (fun j=>if okJ p M yard j=true then pot p d (if j=0 then M else M|||2^(j-1)) (decide (j=0)) else 0) (2*p+1))
theorem pot_pos (p:Nat):∀(d M:Nat) (yard:Bool),1≤pot p d M yard
 |0,_,_=>Nat.le_refl _
 |d+1,_,_=>Nat.le_max_left _ _
theorem pot_root:∀p<4,∀d<15,pot p d 0 true≤132:=by decide+kernel
def keyM (s:State):Nat:=s.must / 2 % 64
theorem keyM_bit (s:State) {k:Nat} (hk:k<6):(keyM s).testBit k=s.must.testBit (k+1):=by
 rw [keyM,show (64:Nat)=2^6 from rfl,Nat.testBit_mod_two_pow,Nat.testBit_succ]
 simp [hk]
def State.yard (s:State):Bool:=decide (s.spot=0)
def potS (p d:Nat) (s:State):Nat:=pot p d (keyM s) s.yard
def potL (p d:Nat):List Node→Nat
 |[]=>0
 |n :: l=>potS p d n.s+potL p d l
theorem potL_app (p d:Nat):∀(l m:List Node),potL p d (l++m)=potL p d l+potL p d m
 |[],m=>by simp [potL]
 |n :: l,m=>by rw [List.cons_append,potL,potL,potL_app p d l m];omega
theorem potL_len (p d:Nat):∀(l:List Node),l.length≤potL p d l
 |[]=>Nat.zero_le _
 |n :: l=>by
  have:=potL_len p d l
  have:=pot_pos p d (keyM n.s) n.s.yard
  rw [List.length_cons,potL,potS]
  omega
theorem potL_filter (p d:Nat) (f:Node→Bool):∀(l:List Node),potL p d (l.filter f)≤potL p d l
 |[]=>Nat.le_refl _
 |n :: l=>by
  have:=potL_filter p d f l
  rw [List.filter_cons]
  split<;>simp only [potL]<;>omega
theorem potL_set (p d:Nat) {n:Node}:∀(l:List Node) (i:Nat) (h:i<l.length),l[i].s=n.s→potL p d (l.set i n)=potL p d l
 |m :: l,0,h,e=>by
  simp only [List.getElem_cons_zero] at e
  simp only [List.set_cons_zero,potL,e]
 |m :: l,i+1,h,e=>by
  simp only [List.getElem_cons_succ] at e
  rw [List.set_cons_succ,potL,potL,potL_set p d l i (by simpa using h) e]
theorem potL_once1 (p d:Nat) (out:List Node) (n:Node):potL p d (once1 out n)≤potL p d out+potS p d n.s:=by
 unfold once1
 split
 ·rw [potL_app];simp only [potL];omega
 ·rename_i i e
  obtain ⟨h1,h2⟩:=sIdx_some e
  split
  ·rw [potL_set p d out i h1 h2];omega
  ·omega
theorem potL_once (p d:Nat):∀(l out:List Node),potL p d (l.foldl once1 out)≤potL p d out+potL p d l
 |[],out=>Nat.le_refl _
 |n :: l,out=>by
  have:=potL_once p d l (once1 out n)
  have:=potL_once1 p d out n
  rw [List.foldl_cons,potL]
  omega
theorem move_key {x:Inst} {p:Nat} {s:State} (hx:x.Fit p) (hp3:p≤3) (hg:Good x p s) {k:Nat} (h:(x.move s k).2.2=true):
  okJ p (keyM s) s.yard k=true∧potS p 0 (x.move s k).1=1∧keyM (x.move s k).1=(if k=0 then keyM s else keyM s|||2^(k-1))∧(x.move s k).1.yard=decide (k=0):=by
 have hp:=hx.pairs
 by_cases hk:k=0
 ·subst hk
  obtain ⟨h1,h2,h3,h4⟩:=move_home h
  simp only [Inst.stayB,Bool.or_eq_false_iff,decide_eq_false_iff_not] at h3
  have e0:(((0:Nat):Int))=0:=rfl
  rw [e0,h4]
  refine ⟨?_,rfl,rfl,rfl⟩
  rw [okJ,if_pos rfl,State.yard,Bool.and_eq_true,List.all_eq_true]
  refine ⟨by simp [h3.1.1.1.1],fun i hi=>?_⟩
  have hi:=List.mem_range.1 hi
  have hon:=hg.on (i+1) (by omega) (by omega)
  have:s.on=0:=by omega
  rw [this,Nat.zero_testBit] at hon
  rw [keyM_bit s (by omega),keyM_bit s (by omega),show i+p+1=i+1+p by omega]
  revert hon
  cases s.must.testBit (i+1)<;>cases s.must.testBit (i+1+p)<;>simp
 ·obtain ⟨h1,h2,h3,h4,h5,h6,h7,h8⟩:=move_pos h (by omega)
  simp only [Inst.lateB,Bool.or_eq_false_iff] at h5
  have h50:=h5.1
  rw [has_testN (by omega)] at h50
  rw [h8]
  refine ⟨?_,rfl,?_,by simp only [State.yard,Inst.rvisit];rw [Bool.eq_iff_iff];simp⟩
  ·rw [okJ,if_neg hk]
   have e1:(keyM s).testBit (k-1)=s.must.testBit k:=by rw [keyM_bit s (by omega),show k-1+1=k by omega]
   split
   ·rw [e1,h50];rfl
   ·have h9:=h7 (by omega)
    simp only [Inst.emptyB,Bool.or_eq_false_iff,Bool.not_eq_false',decide_eq_false_iff_not] at h9
    have e2:(k:Int)-x.pairs=((k-p:Nat):Int):=by omega
    have h10:=h9.2
    rw [e2,has_testN (by omega),hg.eq] at h10
    have e3:(keyM s).testBit (k-1-p)=s.must.testBit (k-p):=by rw [keyM_bit s (by omega),show k-1-p+1=k-p by omega]
    rw [e1,h50,e3,h10,State.yard]
    simp [h9.1]
  ·rw [if_neg hk]
   refine Nat.eq_of_testBit_eq fun i=>?_
   rw [Nat.testBit_or,Nat.testBit_two_pow]
   by_cases hi:i<6
   ·rw [keyM_bit _ hi,keyM_bit s hi]
    show (withN s.must k).testBit (i+1)=_
    rw [with_bit (by omega)]
    have:decide (k=i+1)=decide (k-1=i):=by rw [Bool.eq_iff_iff];simp;omega
    rw [this]
   ·have e:∀t:State,(keyM t).testBit i=false:=fun t=>by
     rw [keyM,show (64:Nat)=2^6 from rfl,Nat.testBit_mod_two_pow]
     simp [hi]
    rw [e,e]
    have:¬k-1=i:=by omega
    simp [this]
theorem potL_canB (x:Inst) (p d:Nat) (n:Node) (f:Nat→Bool) (g:Nat→Nat):∀(N:Nat),(∀k<N,f k=true→potS p d (x.child n k).s≤g k)→potL p d ((canB f N).map (x.child n))≤sumTo g N
 |0,_=>Nat.le_refl _
 |N+1,h=>by
  have ih:=potL_canB x p d n f g N fun k hk=>h k (by omega)
  rw [canB,List.map_append,potL_app,sumTo]
  by_cases hf:f N=true
  ·have:=h N (by omega) hf
   rw [if_pos hf]
   simp only [List.map_cons,List.map_nil,potL]
   omega
  ·rw [if_neg hf]
   simp only [List.map_nil,potL]
   omega
theorem pot_kids {x:Inst} {p:Nat} (hx:x.Fit p) (hp3:p≤3) (d:Nat) (up:Int) (n:Node) (hg:Good x p n.s):potL p d (x.kids up n)≤potS p (d+1) n.s:=by
 refine Nat.le_trans (potL_filter p d _ _) ?_
 rw [moves_can]
 refine Nat.le_trans (potL_canB x p d n _ (fun j=>if okJ p (keyM n.s) n.s.yard j=true then pot p d (if j=0 then keyM n.s else keyM n.s|||2^(j-1)) (decide (j=0)) else 0) _ ?_) ?_
 ·intro k hk hf
  obtain ⟨h1,_,h2,h3⟩:=move_key hx hp3 hg hf
  show potS p d (x.move n.s k).1≤_
  rw [if_pos h1,potS,h2,h3]
  exact Nat.le_refl _
 ·rw [hx.len]
  exact Nat.le_max_right _ _
theorem pot_flat {x:Inst} {p:Nat} (hx:x.Fit p) (hp3:p≤3) (d:Nat) (up:Int):∀(l:List Node),(∀n∈l,Good x p n.s)→potL p d (l.flatMap (x.kids up))≤potL p (d+1) l
 |[],_=>Nat.le_refl _
 |n :: l,h=>by
  have h1:=pot_kids hx hp3 d up n (h n List.mem_cons_self)
  have h2:=pot_flat hx hp3 d up l fun m hm=>h m (List.mem_cons_of_mem _ hm)
  rw [List.flatMap_cons,potL_app,potL]
  omega
theorem meas_root {x:Inst} {p:Nat} (hx:x.Fit p) (hm:x.may=true):x.meas x.rootS≤2*p+7:=by
 have hp:=hx.pairs
 have hc:=hx.cars
 unfold Inst.meas
 split
 ·rw [Inst.rootS,if_pos hm]
  have h6:((List.range (2*x.pairs.toNat+1)).filter fun j:Nat=>decide (1≤j)&& !hasB ({State.zero with car:=1,time:=(x.stop 0).ready}:State).must (j:Int)).length<((List.range (2*x.pairs.toNat+1)).filter fun _=>true).length:=
   filter_lt _ (a:=0) (List.mem_range.2 (by omega)) rfl (by simp) (fun _ _=>rfl)
  rw [List.filter_eq_self.2 (fun _ _=>rfl),List.length_range] at h6
  refine Nat.le_trans (Nat.add_le_add (Nat.le_of_lt_succ h6) (Nat.le_refl _)) ?_
  show 2*x.pairs.toNat+(x.cars-1).toNat≤2*p+7
  omega
 ·omega
end Go.Proofs.YtackfabapangdaaGreat

set_option maxRecDepth 4000
namespace Go.Proofs.YtackfabapangdaaGreat
open Go Go.Proofs.YtackfabapangdaaGreat.R
def sCells (st:Node×Bool×Int) (n:Int):List AV:=[.i st.1.s.spot,.i st.1.s.car,.i st.1.s.time,.i st.1.s.load,.i st.1.s.first,.u st.1.s.must,.u st.1.s.can,.u st.1.s.on,.i st.1.cost,.t (.sl (ints st.1.path)),.b st.2.1,.i st.2.2,.i n]
theorem look_spec (x:Inst) (l:List Node) (st:Node×Bool×Int) (n:Int) {σ:Nat→AObj} {nx b:Nat} (hb:b<nx) (hσb:σ b= .box (sCells st n)) (hl:x.stops.length<2^31) (hll:l.length<2^20) (hn:∀n∈l,n.Fine) (hn2:∀n∈l,n.path.length<2^30):
  CallSpec P 183 [.ptr b 0,x.a,.t (.sl (nodesT l))] σ nx (.t (.sl (nodesT (frontL (x.next l st.2.2))))) (oput σ b (.box (sCells (x.look st l) (IntKind.i64.wrap (n+l.length))))) nx:=by
 have hlk:x.look st l=if (x.bests l).2=true∧(x.bests l).1.cost<st.2.2 then ((x.bests l).1,true,(x.bests l).1.cost) else st:=rfl
 refine spec_down Tryz.func183 rfl rfl (by simp [Tryz.f183]) hb (by simp [bndO,bnd,bnd.bndL,sCells]) (by simp [bnd]) fun hk B hB hnx hσ=>?_
 simp only [Tryz.f183] at hB ⊢
 have hne:¬b=nx:=by omega
 have hil:(nodesT l).length=l.length:=List.length_map _
 have hx:=expand_pure x l st.2.2 hl hll hn hn2
 have q1:=next_len x l st.2.2
 have q2:∀m∈x.next l st.2.2,m.path.length<2^31:=by
  intro m hm
  obtain ⟨n,h,j,_,rfl,_⟩:=next_mem hm
  have:=hn2 n h
  show (n.path++[j]).length<2^31
  rw [List.length_append]
  simp only [List.length_cons,List.length_nil]
  omega
 have hf:=front_pure (x.next l st.2.2) (by omega) q2
 generalize x.look st l=st' at *
 generalize x.next l st.2.2=M at *
 generalize x.bests l=Rb at *
 generalize frontL M=R at *
 refine K_run hB 100 ?_
 simp [go_sem,Inst.a,hσb,sCells,hne,hil]
 have hne2:¬nx=b:=by omega
 have hne3:¬b=nx+1:=by omega
 have hne4:¬nx+1=b:=by omega
 refine K_drawnF [11,13] [0,1,2,3,4,5,6,7,8,9,10] rfl (by rw [hB];kernel_rfl) (by kernel_rfl) fun ht hf'=>?_
 refine K_run hB 100 ?_
 simp [go_sem,ht,hf',hne,hne2,hσb,sCells]
 refine K_dCallP rfl rfl rfl (args:=[x.a,.t (.sl (nodesT l)),.i st.2.2]) (f:=180) (by simp [go_sem,Inst.a]) (hx) ?_
 refine K_run hB 100 ?_
 simp [go_sem,ht,hf',expRes,Node.a,Node.cs,hne,hne2,hne3,hne4,hσb,sCells]
 obtain ⟨B1,is⟩:=Rb
 simp only at hlk
 cases is with
 |false=>
  rw [if_neg (by simp)] at hlk
  subst hlk
  refine K_drawn [] rfl (by rw [hB];kernel_rfl) ?_
  refine K_run hB 100 ?_
  simp [go_sem]
  refine K_call rfl rfl rfl (args:=[.t (.sl (nodesT M))]) (f:=226) (by simp [go_sem]) (by simp [go_sem,hB]) ((hf).spec _ _) ?_
  refine K_run hB 100 ?_
  simp [go_sem]
  exact ⟨by omega,by simp [hne3,hne,hne4],fun i h1 h2=>by simp [h2,show ¬i=nx+1 by omega,show ¬i=nx by omega]⟩
 |true=>
  by_cases c1:B1.cost<st.2.2
  ·rw [if_pos ⟨rfl,c1⟩] at hlk
   subst hlk
   refine K_drawn [] rfl (by rw [hB];kernel_rfl) ?_
   refine K_run hB 100 ?_
   simp [go_sem,hne,hne2,hne3,hne4,c1]
   refine K_drawnF [8,11,14] [1,2,4,5] rfl (by rw [hB];kernel_rfl) (by kernel_rfl) fun ht hf'=>?_
   refine K_run hB 100 ?_
   simp [go_sem,ht,hf',hne,hne2,hne3,hne4]
   refine K_call rfl rfl rfl (args:=[.t (.sl (nodesT M))]) (f:=226) (by simp [go_sem]) (by simp [go_sem,hB]) ((hf).spec _ _) ?_
   refine K_run hB 100 ?_
   simp [go_sem]
   exact ⟨by omega,fun i h1 h2=>by simp [h2,show ¬i=nx+1 by omega,show ¬i=nx by omega]⟩
  ·rw [if_neg (fun h=>c1 h.2)] at hlk
   subst hlk
   refine K_drawn [] rfl (by rw [hB];kernel_rfl) ?_
   refine K_run hB 100 ?_
   simp [go_sem,hne,hne2,hne3,hne4,c1]
   refine K_call rfl rfl rfl (args:=[.t (.sl (nodesT M))]) (f:=226) (by simp [go_sem]) (by simp [go_sem,hB]) ((hf).spec _ _) ?_
   refine K_run hB 100 ?_
   simp [go_sem]
   exact ⟨by omega,by simp [hne3,hne,hne4],fun i h1 h2=>by simp [h2,show ¬i=nx+1 by omega,show ¬i=nx by omega]⟩
end Go.Proofs.YtackfabapangdaaGreat

set_option maxRecDepth 4000
namespace Go.Proofs.YtackfabapangdaaGreat
open Go Go.Proofs.YtackfabapangdaaGreat.R
theorem best_pure (x:Inst) (n:Node) (up most:Int) (hl:x.stops.length<2^31) (hm:most<2^20) (ho:n.s.ok) (hp:n.path.length<2^29):Pure P 132 [x.a,n.a,.i up,.i most] (exRes4 (x.exact n up most)):=by
 generalize hR:x.exact n up most=R
 refine pure_of Tryz.func132 rfl rfl (by simp [Tryz.f132]) (by simp [bnd,bnd.bndL,Inst.a,Node.a,Node.cs]) (by simp [bnd,bnd.bndL,exRes4,Node.a,Node.cs]) fun B hB hnx=>?_
 simp only [Tryz.f132] at hB ⊢
 have hlev:=Level.root x n ho
 have hmeas:=meas_le x n.s
 rw [Inst.exact] at hR
 generalize hd:x.meas n.s+1=d0 at *
 generalize hK:n.path.length+x.meas n.s+1=K at *
 refine K_run hB 100 ?_
 simp [go_sem,Inst.a,Node.a,Node.cs]
 refine K_scopeN (α:=Nat×(Node×Bool×Int)×List Node×Int×(Nat→AObj)×Nat) 0 (fun (d,st,l,n,σ,nx)=>Level x l d K∧x.exGo most d st l n=R∧σ 0= .box x.cs∧σ 2= .box Node.zero.cs∧σ 3= .box (sCells st n)∧3<nx)
  (fun (d,st,l,n,σ,nx)=>⟨sl [(3,.i most),(4,.ptr 0 0),(8,.ptr 2 0),(12,.ptr 3 0),(13,.t (.sl (nodesT l)))],σ,nx⟩) (fun a=>a.1) rfl ?_ ?_
 ·rintro ⟨d,st,l,n,σ,nx⟩ ⟨g1,g2,g3,g4,g5,g6⟩
  have hil:(nodesT l).length=l.length:=List.length_map _
  have hgo:x.exGo most d st l n=match d with
   |0=>(st.1,st.2.1,true,n)
   |d+1=>if l.length=0 then (st.1,st.2.1,true,n) else if most<l.length then (st.1,st.2.1,false,n) else x.exGo most d (x.look st l) (frontL (x.next l st.2.2)) (IntKind.i64.wrap (n+l.length)):=by cases d<;>rfl
  by_cases c1:l.length=0
  ·have hr:R=(st.1,st.2.1,true,n):=by
    rw [←g2,hgo]
    cases d with
    |zero=>rfl
    |succ d=>simp only;rw [if_pos c1]
   subst hr
   by_cases c2:(0:Int)≤most
   ·refine K_run hB 100 ?_
    simp [go_sem,hil,c1,c2]
    refine K_drawnF [13] [4,5,6,7,8,9,10,11,12] rfl (by rw [hB];kernel_rfl) (by kernel_rfl) fun ht hf'=>?_
    refine K_run hB 100 ?_
    simp [go_sem,ht,hf',g4,g5,sCells,Node.cs]
    rfl
   ·refine K_run hB 100 ?_
    simp [go_sem,hil,c1,c2]
    refine K_drawnF [13] [4,5,6,7,8,9,10,11,12] rfl (by rw [hB];kernel_rfl) (by kernel_rfl) fun ht hf'=>?_
    refine K_run hB 100 ?_
    simp [go_sem,ht,hf',g4,g5,sCells,Node.cs]
    rfl
  cases d with
  |zero=>exact absurd (by rw [g1.empty];rfl) c1
  |succ d=>
   simp only at hgo
   rw [if_neg c1] at hgo
   by_cases c2:most<l.length
   ·rw [if_pos c2] at hgo
    rw [hgo] at g2
    subst g2
    have c3:¬(l.length:Int)≤most:=by omega
    have c4:¬(l.length:Int)=0:=by omega
    refine K_run hB 100 ?_
    simp [go_sem,hil,c1,c3,c4]
    refine K_drawnF [13] [4,5,6,7,8,9,10,11,12] rfl (by rw [hB];kernel_rfl) (by kernel_rfl) fun ht hf'=>?_
    refine K_run hB 100 ?_
    simp [go_sem,ht,hf',g4,g5,sCells,Node.cs]
    rfl
   ·rw [if_neg c2] at hgo
    rw [hgo] at g2
    have c3:(l.length:Int)≤most:=by omega
    have c4:0<l.length:=by omega
    have hlk:=look_spec x l st n (σ:=σ) (nx:=nx) (b:=3) g6 g5 hl (by omega) (fun m h=>⟨g1.ok m h,by have:=g1.path m h;omega⟩) (fun m h=>by have:=g1.path m h;omega)
    refine K_run hB 100 ?_
    simp [go_sem,hil,c1,c3,c4,g3,Inst.cs]
    refine K_call rfl rfl rfl (args:=[.ptr 3 0,x.a,.t (.sl (nodesT l))]) (f:=183) (by simp [go_sem,Inst.a]) (by simp [go_sem,hB]) hlk ?_
    refine K_run hB 100 ?_
    simp [go_sem]
    refine Next.mk (d,x.look st l,frontL (x.next l st.2.2),IntKind.i64.wrap (n+l.length),_,nx) ?_ (Imp.slots (by simp [go_sem]) rfl rfl) (by simp only;omega)
    exact ⟨g1.next st.2.2,g2,by simp [oput,g3,Inst.cs],by simp [oput,g4],by simp [oput],g6⟩
 ·intro J hJ
  refine K_run hB 14 ?_
  simp [go_sem,Node.cs]
  refine hJ (d0,(Node.zero,false,up),[n],0,_,_) _ ?_ ((Imp.looseB (b:=2) (cs:=[.i 0,.i 0,.i 0,.i 0,.i 0,.u 0,.u 0,.u 0,.i 0,.fsl []]) (by simp [oput])).trans ((Imp.looseB (b:=3) (cs:=[.i 0,.i 0,.i 0,.i 0,.i 0,.u 0,.u 0,.u 0,.i 0,.fsl [],.b false,.i up,.i 0]) (by simp [oput])).trans (Imp.loose.trans (Imp.slots (by simp [go_sem,loosen,nodesT,Node.t]) rfl rfl))))
  exact ⟨hlev,hR,by simp [oput,Inst.cs],by simp [oput,Node.zero,State.zero,Node.cs,ints,loosen],by simp [oput,sCells,Node.zero,State.zero,ints,loosen],by simp only;omega⟩
end Go.Proofs.YtackfabapangdaaGreat

set_option maxRecDepth 4000
namespace Go.Proofs.YtackfabapangdaaGreat
open Go Go.Proofs.YtackfabapangdaaGreat.R
def Inst.rootN (x:Inst):Node:=⟨x.rootS,0,[]⟩
end Go.Proofs.YtackfabapangdaaGreat

set_option maxRecDepth 4000
namespace Go.Proofs.YtackfabapangdaaGreat
open Go Go.Proofs.YtackfabapangdaaGreat.R
theorem naGo_path (x:Inst) (W:Nat) (k:Nat):∀(d:Nat) (st:Node×Bool×Int) (l:List Node) (n:Int) {K:Nat},Level x l d K→K≤k→st.1.path.length≤k→(x.naGo W d st l n).1.path.length≤k
 |0,st,l,n,K,_,_,h=>h
 |d+1,st,l,n,K,h1,h2,h3=>by
  rw [Inst.naGo]
  split
  ·exact h3
  ·refine naGo_path x W k d _ _ _ (h1.few W st.2.2) h2 ?_
   unfold Inst.look
   split
   ·exact bests_path fun m hm=>by have:=h1.path m hm;omega
   ·exact h3
theorem narrow_path (x:Inst) (n:Node) (w up:Int) (ho:n.s.ok):(x.narrow n w up).1.path.length≤n.path.length+41:=by
 have:=meas_le x n.s
 have h:=naGo_path x (widthN w) (n.path.length+x.meas n.s+1) _ (Node.zero,false,up) _ 0 (Level.root x n ho) (Nat.le_refl _) (Nat.zero_le _)
 have:(x.narrow n w up).1.path.length≤n.path.length+x.meas n.s+1:=h
 omega
theorem Lev.few {x:Inst} {l:List Node} {d:Nat} (h:Lev x l (d+1)) (W:Nat) (up:Int):Lev x (x.few W l up) d:=(h.next up).sub fun n hn=>few_mem hn
theorem naGo_from {x:Inst} (W:Nat):∀(d:Nat) (st:Node×Bool×Int) (l:List Node) (n:Int),Lev x l d→stOk st→
  ((x.naGo W d st l n).2.1=st.2.1∧(x.naGo W d st l n).1=st.1)∨
  ((x.naGo W d st l n).2.1=true∧∃m∈l,∃(w:List Int) (c:Int),x.way w m.s c∧(x.naGo W d st l n).1.cost=m.cost+c∧(x.naGo W d st l n).1.path=m.path++w∧m.cost+c<st.2.2)
 |0,st,l,n,_,_=>.inl ⟨rfl,rfl⟩
 |d+1,st,l,n,hl,h=>by
  rw [Inst.naGo]
  split
  ·exact .inl ⟨rfl,rfl⟩
  obtain ⟨k1,k2,k3⟩:=look_ok (x:=x) (l:=l) h
  rcases naGo_from W d (x.look st l) (x.few W l st.2.2) (IntKind.i64.wrap (n+l.length)) (hl.few W st.2.2) k1 with ⟨i1,i2⟩ | ⟨i1,m,hm,w,c,i2,i3,i4,i5⟩
  ·by_cases hh:(x.bests l).2=true∧(x.bests l).1.cost<st.2.2
   ·have hlk:x.look st l=((x.bests l).1,true,(x.bests l).1.cost):=by rw [Inst.look,if_pos hh]
    rw [i1,i2,hlk]
    obtain ⟨m,hm,b1,b2,b3⟩:=bests_from hh.1
    rw [end_sum hl hm b1] at b2
    exact .inr ⟨rfl,m,hm,[],_,⟨b1,rfl⟩,b2,by rw [List.append_nil];exact b3,by omega⟩
   ·have hlk:x.look st l=st:=by rw [Inst.look,if_neg hh]
    rw [i1,i2,hlk]
    exact .inl ⟨rfl,rfl⟩
  ·obtain ⟨q,hq,j,hj,rfl,_⟩:=next_mem (few_mem hm)
   have hj:=moves_mem hj
   have hcc:=child_cost hl hq hj
   refine .inr ⟨i1,q,hq,j :: w,(x.move q.s j).2.1+c,⟨hj,c,i2,rfl⟩,?_,?_,?_⟩
   ·rw [i3,hcc];omega
   ·rw [i4]
    show (q.path++[j])++w=_
    rw [List.append_assoc];rfl
   ·rw [hcc] at i5;omega
theorem narrow_from {x:Inst} {n:Node} {up wi:Int} (h1:n.s.ok) (h2:n.s.Pos) (h3:n.s.seenAt) (h4:0≤n.cost∧n.cost≤1152921504606000000) (hs:(x.narrow n wi up).2.1=true):
  ∃(w:List Int) (c:Int),x.way w n.s c∧(x.narrow n wi up).1.cost=n.cost+c∧(x.narrow n wi up).1.path=n.path++w∧n.cost+c<up:=by
 rcases naGo_from (x:=x) (widthN wi) _ (Node.zero,false,up) _ 0 (Lev.root h1 h2 h3 h4) (fun h=>by cases h) with ⟨i1,_⟩ | ⟨_,m,hm,w,c,i2⟩
 ·rw [Inst.narrow,i1] at hs;cases hs
 ·rw [List.mem_singleton.1 hm] at i2
  exact ⟨w,c,i2⟩
theorem naGo_steps (x:Inst) (W:Nat) (hW:W≤3000):∀(d:Nat) (st:Node×Bool×Int) (l:List Node) (n:Int),l.length≤W→0≤n→n+3000*d<9223372036854775808→n≤(x.naGo W d st l n).2.2∧(x.naGo W d st l n).2.2≤n+W*d
 |0,st,l,n,_,_,_=>by rw [Inst.naGo];simp
 |d+1,st,l,n,hl,h0,hn=>by
  rw [Inst.naGo]
  have e:(W:Int)*((d+1:Nat):Int)=W*d+W:=by rw [Int.natCast_add,Int.mul_add];simp
  have e2:(0:Int)≤(W:Int)*d:=Int.mul_nonneg (by omega) (by omega)
  split
  ·refine ⟨Int.le_refl _,?_⟩
   simp only
   omega
  ·have hw:=w64 (n+l.length) (by omega)
   obtain ⟨i1,i2⟩:=naGo_steps x W hW d (x.look st l) (x.few W l st.2.2) (IntKind.i64.wrap (n+l.length)) (few_len x W l st.2.2) (by omega) (by omega)
   refine ⟨by omega,?_⟩
   rw [hw] at i2 ⊢
   omega
theorem narrow_steps (x:Inst) (n:Node) (wi up:Int) (hw:wi≤3000):1≤(x.narrow n wi up).2.2∧(x.narrow n wi up).2.2≤1+widthN wi*x.meas n.s:=by
 have hm:=meas_le x n.s
 have hW2:widthN wi≤3000:=by unfold widthN;split<;>omega
 have e:x.narrow n wi up=x.naGo (widthN wi) (x.meas n.s) (x.look (Node.zero,false,up) [n]) (x.few (widthN wi) [n] up) 1:=by
  rw [Inst.narrow,Inst.naGo,if_neg (by simp)]
  rfl
 have:=naGo_steps x (widthN wi) hW2 (x.meas n.s) (x.look (Node.zero,false,up) [n]) (x.few (widthN wi) [n] up) 1 (few_len x _ _ _) (by omega) (by omega)
 rw [e]
 exact this
theorem meas_rootC {x:Inst} {p:Nat} (hx:x.Fit p) (hm:x.may=true):(x.meas x.rootS:Int)≤2*x.pairs+x.cars-1:=by
 have hp:=hx.pairs
 have hc:=hx.cars
 unfold Inst.meas
 split
 ·rw [Inst.rootS,if_pos hm]
  have h6:((List.range (2*x.pairs.toNat+1)).filter fun j:Nat=>decide (1≤j)&& !hasB ({State.zero with car:=1,time:=(x.stop 0).ready}:State).must (j:Int)).length<((List.range (2*x.pairs.toNat+1)).filter fun _=>true).length:=
   filter_lt _ (a:=0) (List.mem_range.2 (by omega)) rfl (by simp) (fun _ _=>rfl)
  rw [List.filter_eq_self.2 (fun _ _=>rfl),List.length_range] at h6
  have:x.base ({State.zero with car:=1,time:=(x.stop 0).ready}:State)≤2*x.pairs.toNat+(x.cars-1).toNat:=Nat.add_le_add (Nat.le_of_lt_succ h6) (Nat.le_refl _)
  omega
 ·omega
end Go.Proofs.YtackfabapangdaaGreat

set_option maxRecDepth 4000
namespace Go.Proofs.YtackfabapangdaaGreat
open Go Go.Proofs.YtackfabapangdaaGreat.R
def Inst.deep (x:Inst):Int:=if x.may then 2*x.pairs+x.cars-1 else 0
theorem deep_pure (x:Inst) (hl:x.stops.length<2^63):Pure P 124 [x.a] (.i x.deep):=by
 refine pure_of Tryz.func124 rfl rfl (by simp [Tryz.f124]) (by simp [bnd,bnd.bndL,Inst.a]) (by simp [bnd,bnd.bndL]) fun B hB hnx=>?_
 simp only [Tryz.f124] at hB ⊢
 refine K_run hB 100 ?_
 simp [go_sem,Inst.a]
 refine K_call rfl rfl rfl (args:=[x.a]) (f:=33) (by simp [go_sem,Inst.a]) (by simp [go_sem,hB]) ((may_pure x hl).spec _ _) ?_
 cases hmay:x.may with
 |false=>
  refine K_run hB 100 ?_
  simp [go_sem]
  rw [Inst.deep,if_neg (by simp [hmay])]
 |true=>
  obtain ⟨p,hx⟩:=x.fit hmay
  have hp:=hx.pairs
  have hf:=hx.few
  have hc:=hx.cars
  have w1:=w64 (2*x.pairs) (by omega)
  have w2:=w64 (2*x.pairs+x.cars) (by omega)
  have w3:=w64 (2*x.pairs+x.cars-1) (by omega)
  refine K_run hB 100 ?_
  simp [go_sem,w1,w2,w3]
  rw [Inst.deep,if_pos hmay]
end Go.Proofs.YtackfabapangdaaGreat
