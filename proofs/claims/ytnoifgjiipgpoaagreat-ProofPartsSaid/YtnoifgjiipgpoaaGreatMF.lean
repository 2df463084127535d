/- Parts of the proof: Near, Bound, Bound2, StateR, StateR2, StateR3, Bound3, Bound4, Late, Ends, Seen, LowP, Law12, Law12b, Once, Once2, OnceR, Expand, Expand2, Law14, OnceP, FrontP, Front, Front2, Front3, Sorted, KeepsP, ExactP, Narrow, ExactQ. -/
import Derived.Test.YtnoifgjiipgpoaaGreatME
set_option linter.all false
set_option maxHeartbeats 4000000
set_option maxRecDepth 4000
namespace Go.Proofs.YtnoifgjiipgpoaaGreat
open Go Go.Proofs.YtnoifgjiipgpoaaGreat.R
def inf:Int:=1152921504606846976
theorem far_in (a b:Stop):0≤far a b∧far a b<inf:=by
 have h:=sq_in a b
 unfold far rootI inf
 split
 ·omega
 ·have:=rootL_lt (min (sq a b) 1152921504606846976).toNat 31 0
  simp only [Nat.reducePow,Nat.zero_add] at this
  omega
def nearF (k:Nat) (b:Stop):Nat→List Stop→Int→Int
 |_,[],v=>v
 |i,a :: l,v=>nearF k b (i+1) l (if i=k then v else min v (far a b))
def Inst.nearK (x:Inst) (k:Nat) (b:Stop):Int:=(nearF k b 0 x.stops inf).tmod inf
def nears (x:Inst):Nat→List Stop→List Int
 |_,[]=>[]
 |k,b :: l=>x.nearK k b :: nears x (k+1) l
def Inst.near (x:Inst):List Int:=if x.may then nears x 0 x.stops else []
theorem nears_len (x:Inst):∀k l,(nears x k l).length=l.length
 |_,[]=>rfl
 |k,b :: l=>by rw [nears,List.length_cons,nears_len x (k+1) l,List.length_cons]
theorem nears_get (x:Inst):∀(k:Nat) (l:List Stop) (i:Nat) (h:i<l.length),(nears x k l)[i]'(by rw [nears_len];exact h)=x.nearK (k+i) l[i]
 |k,b :: l,0,h=>rfl
 |k,b :: l,i+1,h=>by
  have:=nears_get x (k+1) l i (by simpa using h)
  simp only [nears,List.getElem_cons_succ]
  rw [this,show k+1+i=k+(i+1) by omega]
theorem nears_snoc (x:Inst) {k:Nat} (h:k<x.stops.length):(nears x 0 x.stops).take (k+1)=(nears x 0 x.stops).take k++[x.nearK k x.stops[k]]:=by
 rw [List.take_succ_eq_append_getElem (by rw [nears_len];exact h),nears_get x 0 x.stops k h,Nat.zero_add]
theorem nearF_drop {k:Nat} {b:Stop} {l:List Stop} {i:Nat} {v:Int} (h:i<l.length):nearF k b i (l.drop i) v=nearF k b (i+1) (l.drop (i+1)) (if i=k then v else min v (far l[i] b)):=by rw [List.drop_eq_getElem_cons h];rfl
theorem rows_get (x:Inst) {i:Nat} (h:i<x.rows.length):x.rows[i]=rowT (x.row (x.stops[i]'(by rw [x.rows_len] at h;exact h))):=by simp [Inst.rows]
theorem row_get (x:Inst) (a:Stop) {i:Nat} (h:i<(x.row a).length):(x.row a)[i]=far a (x.stops[i]'(by rw [x.row_len] at h;exact h)):=by simp [Inst.row]
theorem ints_get (l:List Int) {i:Nat} (h:i<(ints l).length):(ints l)[i]=[.i (l[i]'(by simpa [ints] using h))]:=by simp [ints]
theorem ints_len (l:List Int):(ints l).length=l.length:=List.length_map _
theorem near_pure (x:Inst) (hl:x.stops.length<2^31):Pure P 98 [x.a] (.t (.sl (ints x.near))):=by
 have hinf:inf=1152921504606846976:=rfl
 refine pure_of Tryz.func98 rfl rfl (by simp [Tryz.f98]) (by simp [bnd,bnd.bndL,Inst.a]) (by simp [bnd]) fun B hB hnx=>?_
 simp only [Tryz.f98] at hB ⊢
 have hm:mostLen=4294967296:=rfl
 refine K_run hB 60 ?_
 simp [go_sem,Inst.a]
 refine K_call rfl rfl rfl (args:=[x.a]) (f:=119) (by simp [go_sem,Inst.a]) (by simp [go_sem,hB]) ((matrix_pure x hl).spec _ _) ?_
 rw [x.mat_rows]
 by_cases h0:x.may=true
 rotate_left
 ·have h0':x.may=false:=by simpa using h0
  simp only [h0',Bool.false_eq_true,if_false]
  refine K_run hB 60 ?_
  simp [go_sem]
  refine K_own 4 1 (by simp [go_sem]) ?_
  refine K_loopP (α:=Unit) (fun _=>True) (fun _=>⟨sl [(4,.ref 1),(11,.i 0),(12,.i 0)],ob [(1,.arr 1 [])],2⟩) (fun _=>0) () trivial (Sub.of (by omega) (by simp) (by simp [go_sem]) (by simp [go_sem])) ?_
  rintro ⟨⟩ _
  refine K_run hB 60 ?_
  simp [go_sem,Inst.near,h0',ints]
 simp only [h0,if_true]
 have hrl:=x.rows_len
 refine K_run hB 60 ?_
 simp [go_sem,hrl]
 refine K_own 4 1 (by simp [go_sem]) ?_
 refine K_loopP (α:=Nat×Nat×(Nat→AObj)×Nat) (fun (k,j,σ,nx)=>k≤x.stops.length∧σ j= .arr 1 (ints ((nears x 0 x.stops).take k))∧j<nx)
  (fun (k,j,σ,nx)=>⟨sl [(3,.t (.sl x.rows)),(4,.ref j),(11,.i x.stops.length),(12,.i k)],σ,nx⟩) (fun y=>x.stops.length-y.1) (0,1,_,2)
  ?_ (Imp.slots (by simp [go_sem]) rfl rfl) ?_
 ·exact ⟨Nat.zero_le _,by simp [oput,ints],by omega⟩
 rintro ⟨k,j,σ,nx⟩ ⟨g1,cj,gn⟩
 refine K_run hB 60 ?_
 simp [go_sem]
 refine fork_dec (fun h=>?_) (fun h=>?_)
 rotate_left
 ·have:k=x.stops.length:=by omega
  subst this
  rw [←nears_len x 0 x.stops,List.take_length] at cj
  simp [go_sem,cj,Inst.near,h0]
 have htk:=nears_snoc x h
 have hlen:(ints ((nears x 0 x.stops).take k)).length=k:=by rw [ints_len,List.length_take,nears_len];omega
 have hkk:IntKind.i64.wrap ((k:Int)+1)=((k+1:Nat):Int):=by rw [w64 ((k:Int)+1) (by omega)];rfl
 generalize (nears x 0 x.stops).take k=R at cj hlen htk
 generalize hb:x.stops[k]=b at *
 simp [go_sem,hrl]
 refine K_loopP (α:=Nat×Int) (fun (i,v)=>i≤x.stops.length∧(0≤v∧v≤inf)∧(nearF k b i (x.stops.drop i) v).tmod inf=x.nearK k b)
  (fun (i,v)=>⟨sl [(3,.t (.sl x.rows)),(4,.ref j),(11,.i x.stops.length),(12,.i k),(5,.i k),(6,.i v),(16,.i x.stops.length),(17,.i i)],σ,nx⟩) (fun y=>x.stops.length-y.1) (0,inf)
  ⟨Nat.zero_le _,by omega,rfl⟩ (Imp.slots (by simp [go_sem,hinf]) rfl rfl) ?_
 rintro ⟨i,v⟩ ⟨i1,i2,i3⟩
 refine K_run hB 60 ?_
 simp [go_sem]
 refine fork_dec (fun hi=>?_) (fun hi=>?_)
 ·have hii:IntKind.i64.wrap ((i:Int)+1)=((i+1:Nat):Int):=by rw [w64 ((i:Int)+1) (by omega)];rfl
  have hfa:=far_in x.stops[i] b
  have hrow:=x.row_len x.stops[i]
  rw [nearF_drop hi] at i3
  by_cases hik:i=k
  ·rw [if_pos hik] at i3
   simp [go_sem,hik,w64 ((k:Int)+1) (by omega)]
   exact Next.mk (k+1,v) ⟨by simp only;omega,i2,by rw [hik] at i3;exact i3⟩ (Imp.slots (by simp [go_sem]) rfl rfl) (by simp only;omega)
  ·rw [if_neg hik] at i3
   simp [go_sem,hik,hi,h,hrl,rows_get,rowT,ints_get,ints_len,hrow,row_get,hb,hii]
   exact Next.mk (i+1,min v (far x.stops[i] b)) ⟨by simp only;omega,by omega,i3⟩ (Imp.slots (by simp [go_sem]) rfl rfl) (by simp only;omega)
 ·have:i=x.stops.length:=by omega
  subst this
  rw [List.drop_length] at i3
  have i4:v.tmod inf=x.nearK k b:=i3
  have hcap:k+1≤mostLen:=by omega
  rw [hinf] at i4
  have hw:IntKind.i64.wrap (x.nearK k b)=x.nearK k b:=by
   refine w64 _ ?_
   rw [←i4,Int.tmod_eq_emod_of_nonneg i2.1]
   omega
  simp [go_sem,i4,hw,cj,hlen,hcap,hkk]
  refine Next.mk (k+1,nx,_,nx+1) ?_ (Imp.slots (by simp [go_sem]) rfl rfl) (by simp only;omega)
  exact ⟨by simp only;omega,by simp [oput,htk,ints_snoc],by simp only;omega⟩
end Go.Proofs.YtnoifgjiipgpoaaGreat

set_option maxRecDepth 4000
namespace Go.Proofs.YtnoifgjiipgpoaaGreat
open Go Go.Proofs.YtnoifgjiipgpoaaGreat.R
def leftSum (may:Nat):Nat→List Int→Int→Int
 |_,[],n=>n
 |j,d :: l,n=>leftSum may (j+1) l (if 0<j∧hasB may j=false then IntKind.i64.wrap (n+d) else n)
theorem left_pure (near:List Int) (may:Nat) (σ:Nat→AObj) (nx:Nat):CallQ P 99 [.t (.sl (ints near)),.u may] σ nx fun r σ' nx'=>r= .fn (.func 120) [] [.ptr nx 0,.ptr (nx+1) 0]∧nx'=nx+2∧
  σ'=oput (oput σ nx (.box [.t (.sl (ints near))])) (nx+1) (.box [.u may]):=by
 refine spec_of Tryz.func99 rfl rfl (by simp [Tryz.f99]) fun B hB hnx hσ=>?_
 simp only [Tryz.f99] at hB ⊢
 refine K_run hB 100 ?_
 simp [go_sem]
 omega
theorem left1_spec (near:List Int) (may:Nat) (hm:may<2^64) (hl:near.length<2^63) (q b1 b2 nx:Nat) (st:Int→Nat→AObj) (h1:∀n,st n b1= .box [.t (.sl (ints near))]) (h2:∀n,st n b2= .box [.u may])
  (hy:∀(j d n:Int),YieldQ P q [.i j,.i d] (st n) nx fun σ' nx'=>σ'=st (IntKind.i64.wrap (n+d))∧nx'=nx) (n0:Int):
  CallQ P 120 [.yld q,.ptr b1 0,.ptr b2 0] (st n0) nx fun r σ' nx'=>σ'=st (leftSum may 0 near n0)∧nx'=nx:=by
 refine spec_of Tryz.func120 rfl rfl (by simp [Tryz.f120]) fun B hB hnx hσ=>?_
 simp only [Tryz.f120] at hB ⊢
 have hil:(ints near).length=near.length:=List.length_map _
 refine K_run hB 100 ?_
 simp [go_sem,h1,hil]
 refine K_loopP (α:=Nat×Int) (fun (k,n)=>k≤near.length∧leftSum may k (near.drop k) n=leftSum may 0 near n0) (fun (k,n)=>⟨sl [(0,.yld q),(1,.ptr b1 0),(2,.ptr b2 0),(6,.t (.sl (ints near))),(7,.i near.length),(8,.i k)],st n,nx⟩) (fun a=>near.length-a.1) (0,n0) ⟨Nat.zero_le _,rfl⟩ (Imp.slots (by simp [go_sem]) rfl rfl) ?_
 rintro ⟨k,n⟩ ⟨g1,g2⟩
 refine K_run hB 60 ?_
 simp [go_sem]
 refine fork_dec (fun hk=>?_) (fun hk=>?_)
 ·have hkk:IntKind.i64.wrap ((k:Int)+1)=((k+1:Nat):Int):=by rw [w64 ((k:Int)+1) (by omega)];rfl
  rw [List.drop_eq_getElem_cons hk,leftSum] at g2
  have hget:=ints_getS near hk
  generalize near[k]=d at *
  by_cases c1:0<k
  ·simp [go_sem,hil,hk,hget,c1,h2]
   refine K_call rfl rfl rfl (args:=[.u may,.i k]) (f:=121) (by simp [go_sem]) (by simp [go_sem,hB]) ((has_pure may k hm).spec _ _) ?_
   cases c2:hasB may k with
   |true=>
    rw [if_neg (by simp [c2])] at g2
    refine K_run hB 100 ?_
    simp [go_sem,hkk]
    exact Next.mk (k+1,n) ⟨by simp only;omega,g2⟩ (Imp.slots (by simp [go_sem]) rfl rfl) (by simp only;omega)
   |false=>
    rw [if_pos ⟨c1,c2⟩] at g2
    refine K_run hB 100 ?_
    simp [go_sem]
    refine K_yield rfl rfl rfl (q:=q) (args:=[.i k,.i d]) (by simp [go_sem]) (by simp [go_sem]) (by simp [go_sem,hB]) (hy k d n) ?_
    rintro σ' nx' ⟨rfl,rfl⟩
    refine K_run hB 100 ?_
    simp [go_sem,hkk]
    exact Next.mk (k+1,IntKind.i64.wrap (n+d)) ⟨by simp only;omega,g2⟩ (Imp.slots (by simp [go_sem]) rfl rfl) (by simp only;omega)
  ·rw [if_neg (by simp [c1])] at g2
   simp [go_sem,hil,hk,hget,c1,h2,hkk]
   exact Next.mk (k+1,n) ⟨by simp only;omega,g2⟩ (Imp.slots (by simp [go_sem]) rfl rfl) (by simp only;omega)
 ·have:k=near.length:=by omega
  subst this
  rw [List.drop_length,leftSum] at g2
  simp [go_sem,g2,hnx]
end Go.Proofs.YtnoifgjiipgpoaaGreat

set_option maxRecDepth 4000
namespace Go.Proofs.YtnoifgjiipgpoaaGreat
open Go Go.Proofs.YtnoifgjiipgpoaaGreat.R
def atLeast (near:List Int) (may:Nat):Int:=match near with
 |a :: b :: l=>leftSum may 0 (a :: b :: l) a
 |_=>0
def Inst.low (x:Inst) (s:State):Int:=atLeast x.near s.can
theorem near_len (x:Inst):x.near.length≤x.stops.length:=by
 unfold Inst.near
 split
 ·rw [nears_len];exact Nat.le_refl _
 ·exact Nat.zero_le _
theorem at_pure (x:Inst) (s:State) (hl:x.stops.length<2^31) (ho:s.ok):Pure P 70 [x.a,s.a] (.i (x.low s)):=by
 generalize hR:x.low s=R
 refine pure_ofR Tryz.func70 rfl rfl (by simp [Tryz.f70]) (by simp [bnd,bnd.bndL,Inst.a,State.a,State.cs]) (by simp [bnd,bnd.bndL]) fun B hB hnx hro=>?_
 simp only [Tryz.f70] at hB ⊢
 rw [Inst.low] at hR
 have hnl:=near_len x
 have hne:=near_pure x hl
 generalize x.near=near at *
 refine K_run hB 100 ?_
 simp [go_sem,Inst.a,State.a,State.cs]
 refine K_call rfl rfl rfl (args:=[x.a]) (f:=98) (by simp [go_sem,Inst.a]) (by simp [go_sem,hB]) ((hne).spec _ _) ?_
 match near,hR,hnl with
 |[],hR,_=>
  simp only [atLeast] at hR
  subst hR
  refine K_run hB 100 ?_
  simp [go_sem,ints]
 |[_],hR,_=>
  simp only [atLeast] at hR
  subst hR
  refine K_run hB 100 ?_
  simp [go_sem,ints]
 |d0 :: d1 :: l,hR,hnl=>
  simp only [atLeast] at hR
  have hil:(ints (d0 :: d1 :: l)).length=l.length+2:=by simp [ints]
  have hgt:¬(l.length:Int)+2<2:=by omega
  have hgt':¬((l.length+2:Nat):Int)<2:=by omega
  have hget:∀h:0<(ints (d0 :: d1 :: l)).length,(ints (d0 :: d1 :: l))[0]'h=[.i d0]:=fun h=>by simp [ints]
  have hll:l.length+2<2^63:=by simp only [List.length_cons] at hnl;omega
  have hle:=left_pure (d0 :: d1 :: l) s.can
  have hl1:=left1_spec (d0 :: d1 :: l) s.can ho.can (by simpa using hll) 5 3 4 6
  have hpos:(0:Int)<l.length+2:=by omega
  generalize hX:ints (d0 :: d1 :: l)=X at *
  generalize hN:leftSum s.can 0 (d0 :: d1 :: l)=N at *
  refine K_run hB 100 ?_
  simp [go_sem,hil,hgt,hgt',hget,hpos]
  refine K_callQ rfl rfl rfl (args:=[.t (.sl X),.u s.can]) (f:=99) (by simp [go_sem]) (by simp [go_sem,hB]) (hle _ _) ?_
  rintro r σ' nx' ⟨rfl,rfl,rfl⟩
  refine K_run hB 100 ?_
  simp [go_sem]
  refine K_less (Sub.of (l:=[(6,.ptr 2 0),(20,.fn (.func 120) [] [.ptr 3 0,.ptr 4 0])]) (o:=[(2,.box [.i d0]),(3,.box [.t (.sl X)]),(4,.box [.u s.can])]) (n:=5) (by omega) (by simp) (by simp [go_sem]) (by simp [go_sem])) ?_
  refine K_range hro (f:=120) (args:=[.yld 5,.ptr 3 0,.ptr 4 0]) (by simp [go_sem]) fun L hL=>?_
  obtain ⟨st,hst⟩:∃st:Int→Nat→AObj,st=fun n=>oput (oput (ob [(3,.box [.t (.sl X)]),(4,.box [.u s.can])]) 5 L) 2 (.box [.i n]):=⟨_,rfl⟩
  have e':oput (ob [(2,.box [.i d0]),(3,.box [.t (.sl X)]),(4,.box [.u s.can])]) 5 L=st d0:=funext fun i=>by
   by_cases e2:i=2
   ·subst e2;simp [hst,oput,ob]
   ·simp [hst,oput,ob,e2]
  have s2:∀n,st n 2= .box [.i n]:=fun n=>by simp [hst,oput]
  have s5:∀n,st n 5=L:=fun n=>by simp [hst,oput]
  have su:∀n m L',oput (oput (oput (st n) 5 L') 2 (.box [.i m])) 5 L=st m:=fun n m L'=>funext fun i=>by
   by_cases e2:i=2
   ·subst e2;simp [hst,oput]
   ·by_cases e5:i=5
    ·subst e5;simp [hst,oput]
    ·simp [hst,oput,e2,e5]
  have hsp:=hl1 st (fun n=>by simp [hst,oput,ob]) (fun n=>by simp [hst,oput,ob]) (fun j d n=>by
   refine yield_of ((s5 n).trans hL) rfl (by rw [hB];rfl) fun B' hB' hnx' _=>?_
   replace hB':=hB'.trans hB
   refine K_run hB' 60 ?_
   simp [go_sem,roundM,putL,(s5 n).trans hL]
   refine K_run hB' 60 ?_
   simp [go_sem,roundM,putL,hB,oput,s2,←hL]
   rw [hB] at hL
   subst hL
   exact su _ _ _) d0
  refine ⟨_,by rw [e'];exact hsp,?_⟩
  rintro r σ' nx' ⟨rfl,rfl⟩
  refine ⟨s5 _,?_⟩
  refine K_run hB 100 ?_
  simp [go_sem,oput,s2,hR]
end Go.Proofs.YtnoifgjiipgpoaaGreat

set_option maxRecDepth 4000
namespace Go.Proofs.YtnoifgjiipgpoaaGreat
open Go Go.Proofs.YtnoifgjiipgpoaaGreat.R
def Inst.rvisit (x:Inst) (s:State) (j b:Int):State:=
 {spot:=j,car:=s.car,time:=b+(x.stop j).service,load:=max (s.load+(x.stop j).demand) 0,first:=if s.spot=0 then j else s.first,must:=withN s.must j,can:=withN s.can j,on:=if j≤x.pairs then withN s.on j else withoutN s.on (j-x.pairs)}
end Go.Proofs.YtnoifgjiipgpoaaGreat

set_option maxRecDepth 4000
namespace Go.Proofs.YtnoifgjiipgpoaaGreat
open Go Go.Proofs.YtnoifgjiipgpoaaGreat.R
theorem to_visit {x:Inst} {s:State} {j:Int} (h0:j≠0) (hl:x.lateB s j=false) (hf:j≤x.pairs→x.fullB s j=false) (he:x.pairs<j→x.emptyB s j=false):x.to s j=(x.rvisit s j (x.begins s j),true):=by
 unfold Inst.to
 rw [if_neg h0]
 by_cases c:j≤x.pairs
 ·rw [if_pos c]
  simp [Inst.take,hf c,Inst.visit,hl,Inst.seen,Inst.rvisit,c]
 ·rw [if_neg c]
  simp [Inst.bring,he (by omega),Inst.visit,hl,Inst.seen,Inst.rvisit,c]
theorem to_not {x:Inst} {s:State} {j:Int} (h0:j≠0) (h:x.lateB s j=true∨(j≤x.pairs∧x.fullB s j=true)∨(x.pairs<j∧x.emptyB s j=true)):(x.to s j).2=false:=by
 unfold Inst.to
 rw [if_neg h0]
 rcases h with h | ⟨h1,h2⟩ | ⟨h1,h2⟩
 ·split
  ·unfold Inst.take Inst.visit
   split
   ·rfl
   ·simp [h]
  ·unfold Inst.bring Inst.visit
   split
   ·rfl
   ·simp [h]
 ·rw [if_pos h1]
  simp [Inst.take,h2]
 ·rw [if_neg (by omega)]
  simp [Inst.bring,h2]
end Go.Proofs.YtnoifgjiipgpoaaGreat

set_option maxRecDepth 4000
namespace Go.Proofs.YtnoifgjiipgpoaaGreat
open Go Go.Proofs.YtnoifgjiipgpoaaGreat.R
theorem canB_no:∀k,canB (fun _=>false) k=[]
 |0=>rfl
 |k+1=>by rw [canB,canB_no k];rfl
theorem moves_can (x:Inst) (s:State):x.moves s=canB (fun k=>(x.move s k).2.2) x.stops.length:=by
 unfold Inst.moves
 split
 ·rename_i h
  congr 1
  funext k
  rw [Inst.move,if_pos h]
 ·rename_i h
  have:(fun k:Nat=>(x.move s (k:Int)).2.2)=fun _=>false:=by
   funext k
   rw [Inst.move,if_neg h]
  rw [this,canB_no]
end Go.Proofs.YtnoifgjiipgpoaaGreat

set_option maxRecDepth 4000
namespace Go.Proofs.YtnoifgjiipgpoaaGreat
open Go Go.Proofs.YtnoifgjiipgpoaaGreat.R
def Inst.of (x:Inst) (n:Node):Int:=sumI [n.cost,x.low n.s]
theorem of_pure (x:Inst) (n:Node) (hl:x.stops.length<2^31) (ho:n.s.ok):Pure P 39 [x.a,n.a] (.i (x.of n)):=by
 have ha:=at_pure x n.s hl ho
 have hs:=sum_pure [n.cost,x.low n.s] (by simp)
 rw [Inst.of]
 generalize x.low n.s=d at *
 refine pure_of Tryz.func39 rfl rfl (by simp [Tryz.f39]) (by simp [bnd,bnd.bndL,Inst.a,Node.a,Node.cs]) (by simp [bnd,bnd.bndL]) fun B hB hnx=>?_
 simp only [Tryz.f39] at hB ⊢
 refine K_run hB 100 ?_
 simp [go_sem,Inst.a,Node.a,Node.cs]
 refine K_drawn [] rfl (by rw [hB];kernel_rfl) ?_
 refine K_run hB 100 ?_
 simp [go_sem]
 refine K_dCallP rfl rfl rfl (args:=[x.a,n.s.a]) (f:=70) (by simp [go_sem,Inst.a,State.a,State.cs]) (ha) ?_
 refine K_run hB 100 ?_
 simp [go_sem]
 refine K_dCallP rfl rfl rfl (args:=[.fsl (ints [n.cost,d])]) (f:=65) (by simp [go_sem,ints]) (Pure.loose hs (by simp [bnd])) ?_
 refine K_run hB 100 ?_
 simp [go_sem]
end Go.Proofs.YtnoifgjiipgpoaaGreat

set_option maxRecDepth 4000
namespace Go.Proofs.YtnoifgjiipgpoaaGreat
open Go Go.Proofs.YtnoifgjiipgpoaaGreat.R
theorem far_le (a b:Stop):0≤far a b∧far a b≤14143:=by
 obtain ⟨h1,h2⟩:=sq_in a b
 refine ⟨(far_in a b).1,?_⟩
 unfold far rootI
 split
 ·omega
 ·rename_i hp
  have e:(min (sq a b) 1152921504606846976).toNat=(sq a b).toNat:=by omega
  rw [e]
  obtain ⟨g1,_⟩:=rootL_spec (sq a b).toNat 31 0 (by omega) (by simp;omega)
  generalize rootL (sq a b).toNat 31 0=r at *
  have:r≤14142:=by
   rcases Nat.lt_or_ge 14142 r with h | h
   ·have:=Nat.mul_le_mul (show 14143≤r from h) (show 14143≤r from h)
    omega
   ·exact h
  omega
theorem nearF_le (k:Nat) (b:Stop):∀(i:Nat) (l:List Stop) (v:Int),(0≤v∧v≤14143)∨v=inf→(0≤nearF k b i l v∧nearF k b i l v≤14143)∨nearF k b i l v=inf
 |_,[],v,h=>h
 |i,a :: l,v,h=>by
  rw [nearF]
  refine nearF_le k b (i+1) l _ ?_
  have:=far_le a b
  have hinf:inf=1152921504606846976:=rfl
  split
  ·exact h
  ·omega
theorem nearK_le (x:Inst) (k:Nat) (b:Stop):0≤x.nearK k b∧x.nearK k b≤14143:=by
 unfold Inst.nearK
 have hinf:inf=1152921504606846976:=rfl
 rcases nearF_le k b 0 x.stops inf (.inr rfl) with h | h
 ·rw [Int.tmod_eq_of_lt h.1 (by omega)];exact h
 ·rw [h,hinf];decide
theorem nears_le (x:Inst):∀(k:Nat) (l:List Stop),∀d∈nears x k l,0≤d∧d≤14143
 |_,[],d,h=>by cases h
 |k,b :: l,d,h=>by
  rw [nears] at h
  rcases List.mem_cons.1 h with e | e
  ·rw [e];exact nearK_le x k b
  ·exact nears_le x (k+1) l d e
theorem near_le (x:Inst):∀d∈x.near,0≤d∧d≤14143:=by
 unfold Inst.near
 split
 ·exact nears_le x 0 x.stops
 ·intro d h;cases h
def lefts (may:Nat):Nat→List Int→Int
 |_,[]=>0
 |j,d :: l=>(if 0<j∧hasB may j=false then d else 0)+lefts may (j+1) l
theorem lefts_in (may:Nat):∀(j:Nat) (l:List Int),(∀d∈l,0≤d∧d≤14143)→0≤lefts may j l∧lefts may j l≤14143*l.length
 |_,[],_=>by simp [lefts]
 |j,d :: l,h=>by
  have h1:=h d List.mem_cons_self
  have h2:=lefts_in may (j+1) l fun e he=>h e (List.mem_cons_of_mem _ he)
  rw [lefts,List.length_cons]
  split<;>omega
theorem leftSum_eq (may:Nat):∀(j:Nat) (l:List Int) (n:Int),(∀d∈l,0≤d∧d≤14143)→0≤n→n+14143*l.length<9223372036854775808→leftSum may j l n=n+lefts may j l
 |_,[],n,_,_,_=>by simp [leftSum,lefts]
 |j,d :: l,n,h,h0,hn=>by
  have h1:=h d List.mem_cons_self
  rw [List.length_cons] at hn
  rw [leftSum,lefts]
  split
  ·rw [w64 (n+d) (by omega),leftSum_eq may (j+1) l (n+d) (fun e he=>h e (List.mem_cons_of_mem _ he)) (by omega) (by omega)]
   omega
  ·rw [leftSum_eq may (j+1) l n (fun e he=>h e (List.mem_cons_of_mem _ he)) h0 (by omega)]
   omega
theorem lefts_mono {a b:Nat} (hab:∀j:Nat,hasB b j=true→hasB a j=true):∀(j:Nat) (l:List Int),(∀d∈l,0≤d∧d≤14143)→lefts a j l≤lefts b j l
 |_,[],_=>Int.le_refl _
 |j,d :: l,h=>by
  have h1:=h d List.mem_cons_self
  have h2:=lefts_mono hab (j+1) l fun e he=>h e (List.mem_cons_of_mem _ he)
  rw [lefts,lefts]
  by_cases c:0<j∧hasB b j=false
  ·rw [if_pos c]
   split<;>omega
  ·rw [if_neg c]
   have:¬(0<j∧hasB a j=false):=fun ⟨e1,e2⟩=>by
    cases hb:hasB b j with
    |true=>rw [hab j hb] at e2;cases e2
    |false=>exact c ⟨e1,hb⟩
   rw [if_neg this]
   omega
def lowP (near:List Int) (may:Nat):Int:=match near with
 |a :: b :: l=>a+lefts may 0 (a :: b :: l)
 |_=>0
theorem low_eq (x:Inst) (s:State) (hl:x.stops.length<2^31):x.low s=lowP x.near s.can:=by
 unfold Inst.low
 have h1:=near_le x
 have h2:=near_len x
 generalize x.near=near at *
 match near with
 |[]=>rfl
 |[_]=>rfl
 |a :: b :: l=>
  simp only [atLeast,lowP]
  have ha:=h1 a List.mem_cons_self
  refine leftSum_eq _ _ _ _ h1 ha.1 ?_
  simp only [List.length_cons] at h2 ⊢
  omega
theorem lowP_mono {near:List Int} {a b:Nat} (hn:∀d∈near,0≤d∧d≤14143) (hab:∀j:Nat,hasB b j=true→hasB a j=true):lowP near a≤lowP near b:=by
 match near with
 |[]=>exact Int.le_refl _
 |[_]=>exact Int.le_refl _
 |x :: y :: l=>
  simp only [lowP]
  have:=lefts_mono hab 0 (x :: y :: l) hn
  omega
theorem within_has {a b:Nat} (h:withinB b a=true) (j:Int):hasB b j=true→hasB a j=true:=by
 unfold hasB
 simp only [Bool.and_eq_true,decide_eq_true_eq]
 rintro ⟨h1,h2⟩
 refine ⟨h1,?_⟩
 have:=List.all_eq_true.1 h j.toNat (List.mem_range.2 (by omega))
 rw [h2] at this
 simpa using this
def coversB (a b:State):Bool:=
 decide (a.spot=b.spot)&&withinB a.must b.must&&withinB a.on b.on&&withinB b.can a.can&&decide (a.car≤b.car)&&decide (a.time≤b.time)&&decide (a.load≤b.load)&&decide (a.first≤b.first)
theorem covers_pure (a b:State):Pure P 95 [a.a,b.a] (.b (coversB a b)):=by
 generalize hR:coversB a b=R
 refine pure_of Tryz.func95 rfl rfl (by simp [Tryz.f95]) (by simp [bnd,bnd.bndL,State.a,State.cs]) (by simp [bnd,bnd.bndL]) fun B hB hnx=>?_
 simp only [Tryz.f95] at hB ⊢
 rw [coversB] at hR
 have hw1:=within_pure a.must b.must
 have hw2:=within_pure a.on b.on
 have hw3:=within_pure b.can a.can
 by_cases c1:a.spot=b.spot
 rotate_left
 ·refine K_run hB 100 ?_
  simp [go_sem,State.a,State.cs,c1]
  simp [←hR,c1]
 refine K_run hB 100 ?_
 simp [go_sem,State.a,State.cs,c1]
 refine K_call rfl rfl rfl (args:=[.u a.must,.u b.must]) (f:=115) (by simp [go_sem]) (by simp [go_sem,hB]) ((hw1).spec _ _) ?_
 cases c2:withinB a.must b.must with
 |false=>
  refine K_run hB 100 ?_
  simp [go_sem]
  simp [←hR,c2]
 |true=>
  refine K_run hB 100 ?_
  simp [go_sem]
  refine K_call rfl rfl rfl (args:=[.u a.on,.u b.on]) (f:=115) (by simp [go_sem]) (by simp [go_sem,hB]) ((hw2).spec _ _) ?_
  cases c3:withinB a.on b.on with
  |false=>
   refine K_run hB 100 ?_
   simp [go_sem]
   simp [←hR,c3]
  |true=>
   refine K_run hB 100 ?_
   simp [go_sem]
   refine K_call rfl rfl rfl (args:=[.u b.can,.u a.can]) (f:=115) (by simp [go_sem]) (by simp [go_sem,hB]) ((hw3).spec _ _) ?_
   cases c4:withinB b.can a.can with
   |false=>
    refine K_run hB 100 ?_
    simp [go_sem]
    simp [←hR,c4]
   |true=>
    rw [c2,c3,c4] at hR
    simp only [c1,decide_true,Bool.and_true,Bool.true_and] at hR
    refine K_run hB 100 ?_
    simp [go_sem]
    refine atVal_decT (fun h1=>?_) (fun h1=>by simp [go_sem,h1,←hR])
    simp [go_sem,h1]
    refine atVal_decT (fun h2=>?_) (fun h2=>by simp [go_sem,h2,←hR])
    simp [go_sem,h2]
    refine atVal_decT (fun h3=>?_) (fun h3=>by simp [go_sem,h3,←hR])
    simp [go_sem,h3]
    simp [←hR,h1,h2,h3]
end Go.Proofs.YtnoifgjiipgpoaaGreat

set_option maxRecDepth 4000
namespace Go.Proofs.YtnoifgjiipgpoaaGreat
open Go Go.Proofs.YtnoifgjiipgpoaaGreat.R
theorem move_is {x:Inst} {s:State} {j:Int} (hv:(x.move s j).2.2=true):x.may=true∧s.mayB x=true∧(0≤j∧j≤2*x.pairs)∧(x.to s j).2=true∧x.move s j=((x.to s j).1,far (x.stop s.spot) (x.stop j),true):=by
 unfold Inst.move at hv ⊢
 split at hv
 ·rename_i h
  rw [if_pos h]
  unfold Inst.step at hv ⊢
  split at hv
  ·simp at hv
  ·rename_i h1
   rw [if_neg h1]
   split at hv
   ·rename_i h2
    rw [if_pos h2]
    exact ⟨h.1,h.2,by omega,h2,rfl⟩
   ·simp at hv
 ·simp at hv
theorem move_mk {x:Inst} {s:State} {j:Int} (h1:x.may=true) (h2:s.mayB x=true) (h3:0≤j∧j≤2*x.pairs) (h4:(x.to s j).2=true):x.move s j=((x.to s j).1,far (x.stop s.spot) (x.stop j),true):=by
 unfold Inst.move Inst.step
 rw [if_pos ⟨h1,h2⟩,if_neg (by omega),if_pos h4]
end Go.Proofs.YtnoifgjiipgpoaaGreat

set_option maxRecDepth 4000
namespace Go.Proofs.YtnoifgjiipgpoaaGreat
open Go Go.Proofs.YtnoifgjiipgpoaaGreat.R
theorem upto_bit:∀{k i:Nat},1≤i→i≤k→(uptoL k).testBit i=true
 |0,i,h1,h2=>by omega
 |k+1,i,h1,h2=>by
  rw [uptoL,Nat.testBit_or]
  by_cases h:i≤k
  ·rw [upto_bit h1 h];rfl
  ·have:i=k+1:=by omega
   subst this
   rw [Nat.testBit_two_pow_self,Bool.or_true]
theorem Inst.all_bit {x:Inst} {t p:Nat} (hx:x.Fit p) (h:x.allB t=true) {i:Nat} (h1:1≤i) (h2:i≤2*p):t.testBit i=true:=by
 have hf:=hx.few
 have hp:=hx.pairs
 unfold Inst.allB withinB at h
 rw [List.all_eq_true] at h
 have:=h i (List.mem_range.2 (by omega))
 have hu:(uptoN (2*x.pairs)).testBit i=true:=by
  unfold uptoN
  exact upto_bit h1 (by omega)
 rw [hu] at this
 simpa using this
end Go.Proofs.YtnoifgjiipgpoaaGreat

set_option maxRecDepth 4000
namespace Go.Proofs.YtnoifgjiipgpoaaGreat
open Go Go.Proofs.YtnoifgjiipgpoaaGreat.R
theorem with_bit {t k:Nat} (hk:k≤63) (i:Nat):(withN t k).testBit i=(t.testBit i||decide (k=i)):=by
 rw [withN,bitN_nat hk,Nat.testBit_or,Nat.testBit_two_pow]
theorem without_bit {t k:Nat} (hk:k≤63) {i:Nat} (hi:i<64):(withoutN t k).testBit i=(t.testBit i&& !decide (k=i)):=by
 rw [withoutN,bitN_nat hk,andN_bit,Nat.testBit_two_pow]
 simp [hi]
def sumOn (x:Inst):Nat→Nat→Int
 |0,_=>0
 |k+1,t=>sumOn x k t+if t.testBit (k+1)=true then (x.stop (k+1:Nat)).demand else 0
theorem sumOn_zero (x:Inst):∀k,sumOn x k 0=0
 |0=>rfl
 |k+1=>by rw [sumOn,sumOn_zero x k];simp
theorem sumOn_pos {x:Inst} {p:Nat} (hx:x.Fit p) (t:Nat):∀k,k≤p→0≤sumOn x k t
 |0,_=>Int.le_refl _
 |k+1,h=>by
  have:=sumOn_pos hx t k (by omega)
  have:=hx.take (k:=k+1) (by omega) h
  rw [sumOn]
  split<;>omega
theorem sumOn_with (x:Inst) {t j:Nat} (hj:j≤63) (hn:t.testBit j=false) (h1:1≤j):∀k,k≤63→sumOn x k (withN t j)=sumOn x k t+if j≤k then (x.stop j).demand else 0
 |0,_=>by rw [if_neg (by omega)];rfl
 |k+1,hk=>by
  rw [sumOn,sumOn_with x hj hn h1 k (by omega),with_bit hj,sumOn]
  by_cases e:j=k+1
  ·subst e
   rw [if_neg (by omega),hn]
   simp
  ·have:(decide (j=k+1))=false:=by simpa using e
   rw [this,Bool.or_false]
   by_cases e2:j≤k
   ·rw [if_pos e2,if_pos (show j≤k+1 by omega)];omega
   ·rw [if_neg e2,if_neg (show ¬j≤k+1 by omega)];omega
theorem sumOn_without (x:Inst) {t j:Nat} (hj:j≤63) (hn:t.testBit j=true) (h1:1≤j):∀k,k≤63→sumOn x k (withoutN t j)=sumOn x k t-if j≤k then (x.stop j).demand else 0
 |0,_=>by rw [if_neg (by omega)];rfl
 |k+1,hk=>by
  rw [sumOn,sumOn_without x hj hn h1 k (by omega),without_bit hj (by omega),sumOn]
  by_cases e:j=k+1
  ·subst e
   rw [if_neg (by omega),hn]
   simp
  ·have:(decide (j=k+1))=false:=by simpa using e
   rw [this,Bool.not_false,Bool.and_true]
   by_cases e2:j≤k
   ·rw [if_pos e2,if_pos (show j≤k+1 by omega)];omega
   ·rw [if_neg e2,if_neg (show ¬j≤k+1 by omega)];omega
structure Good (x:Inst) (p:Nat) (s:State):Prop where
 eq:s.can=s.must
 on:∀k,1≤k→k≤p→s.on.testBit k=(s.must.testBit k&& !s.must.testBit (k+p))
 order:∀k,1≤k→k≤p→s.must.testBit (k+p)=true→s.must.testBit k=true
 load:s.load=sumOn x p s.on
 room:s.load≤x.room
theorem good_root {x:Inst} {p:Nat} (hx:x.Fit p) (hm:x.may=true):Good x p x.rootS:=by
 rw [Inst.rootS,if_pos hm]
 refine ⟨rfl,fun k _ _=>by simp [State.zero],fun k _ _ h=>by simp [State.zero] at h,?_,?_⟩
 ·exact (sumOn_zero x p).symm
 ·have:=hx.room
  show (0:Int)≤x.room
  omega
theorem has_testN {t k:Nat} (hk:k≤63):hasB t (k:Int)=t.testBit k:=has_nat (by omega)
theorem good_step {x:Inst} {p:Nat} {s:State} {j:Int} (hx:x.Fit p) (hg:Good x p s) (h:(x.move s j).2.2=true):
  Good x p (x.move s j).1∧0≤j∧j≤2*p∧(x.move s j).1.must=(if 0<j then withN s.must j else s.must)∧
  (x.move s j).1.on=(if x.pairs<j then withoutN s.on (j-x.pairs) else if 0<j then withN s.on j else s.on)∧
  (x.move s j).1.load=(if 0<j then s.load+(x.stop j).demand else s.load):=by
 obtain ⟨h1,h2,h3,h4,h5⟩:=move_is h
 have hp:=hx.pairs
 have hfew:=hx.few
 obtain ⟨k,rfl⟩:∃k:Nat,j=k:=⟨j.toNat,by omega⟩
 rw [h5]
 have h3':(k:Int)≤2*p:=by omega
 have hvis:(x.visit s k).2=true→(x.visit s k).1=x.seen s k∧hasB s.must k=false:=by
  unfold Inst.visit Inst.lateB
  split
  ·intro h;simp at h
  ·rename_i hh
   intro _
   simp only [Bool.or_eq_true,not_or] at hh
   exact ⟨rfl,by simpa using hh.1⟩
 by_cases hk0:k=0
 ·subst hk0
  have e:x.to s ((0:Nat):Int)=x.home s:=by simp [Inst.to]
  rw [e] at h4 ⊢
  unfold Inst.home at h4 ⊢
  split at h4
  ·simp at h4
  ·rename_i hh
   rw [if_neg hh]
   have hon:s.on=0:=by
    simp only [Inst.stayB,Bool.or_eq_true,decide_eq_true_eq,not_or] at hh
    have:=hh.1.1.1.2
    omega
   have hl:s.load=0:=by rw [hg.load,hon,sumOn_zero]
   refine ⟨⟨hg.eq,hg.on,hg.order,by show (0:Int)=sumOn x p s.on;rw [hon,sumOn_zero],by show (0:Int)≤x.room;have:=hx.room;omega⟩,by omega,by omega,by simp [Inst.homeS],by rw [if_neg (by omega),if_neg (by omega)];rfl,by rw [if_neg (by omega),hl];rfl⟩
 have hk63:k≤63:=by omega
 by_cases hkp:k≤p
 ·have e:x.to s (k:Int)=x.take s k:=by rw [Inst.to,if_neg (by omega),if_pos (by omega)]
  rw [e] at h4 ⊢
  have hd:=hx.take (k:=k) (by omega) hkp
  unfold Inst.take at h4 ⊢
  split at h4
  ·simp at h4
  rename_i hh
  rw [if_neg hh]
  split at h4
  rotate_left
  ·rename_i h8;exact absurd h4 h8
  rename_i h8
  rw [if_pos h8]
  obtain ⟨e1,e2⟩:=hvis h8
  rw [e1]
  rw [has_testN hk63] at e2
  have hroom:s.load+(x.stop k).demand≤x.room:=by
   simp only [Inst.fullB,Bool.or_eq_true,decide_eq_true_eq,not_or] at hh
   omega
  have hnon:s.on.testBit k=false:=by rw [hg.on k (by omega) hkp,e2,Bool.false_and]
  have hpos:=sumOn_pos hx s.on p (Nat.le_refl _)
  have hload:=hg.load
  have hmax:max (s.load+(x.stop k).demand) 0=s.load+(x.stop k).demand:=by omega
  refine ⟨⟨by show withN s.can k=withN s.must k;rw [hg.eq],fun i i1 i2=>?_,fun i i1 i2 i3=>?_,?_,?_⟩,by omega,by omega,?_,?_,?_⟩
  ·show (withN s.on k).testBit i=((withN s.must k).testBit i&& !(withN s.must k).testBit (i+p))
   rw [with_bit hk63,with_bit hk63,with_bit hk63,hg.on i i1 i2]
   have:decide (k=i+p)=false:=by simp;omega
   rw [this,Bool.or_false]
   by_cases hki:k=i
   ·subst hki
    have hb:s.must.testBit (k+p)=false:=by
     cases hq:s.must.testBit (k+p) with
     |false=>rfl
     |true=>rw [hg.order k i1 i2 hq] at e2;cases e2
    simp [hb]
   ·simp [hki]
  ·have i3':(withN s.must k).testBit (i+p)=true:=i3
   show (withN s.must k).testBit i=true
   rw [with_bit hk63] at i3' ⊢
   have:decide (k=i+p)=false:=by simp;omega
   rw [this,Bool.or_false] at i3'
   rw [hg.order i i1 i2 i3',Bool.true_or]
  ·show max (s.load+(x.stop k).demand) 0=sumOn x p (withN s.on k)
   rw [sumOn_with x hk63 hnon (by omega) p (by omega),if_pos hkp,hmax,hload]
  ·show max (s.load+(x.stop k).demand) 0≤x.room
   omega
  ·rw [if_pos (by omega)];rfl
  ·rw [if_neg (by omega),if_pos (by omega)]
  ·rw [if_pos (by omega)];exact hmax
 ·obtain ⟨q,rfl⟩:∃q,k=q+p:=⟨k-p,by omega⟩
  have hq1:1≤q:=by omega
  have hq2:q≤p:=by omega
  have hq63:q≤63:=by omega
  have ej:((q+p:Nat):Int)-x.pairs=(q:Int):=by omega
  have e:x.to s ((q+p:Nat):Int)=x.bring s (q+p:Nat):=by rw [Inst.to,if_neg (by omega),if_neg (by omega)]
  rw [e] at h4 ⊢
  have hd:=hx.take (k:=q) hq1 hq2
  have hb:=hx.bring (k:=q) hq1 hq2
  unfold Inst.bring at h4 ⊢
  split at h4
  ·simp at h4
  rename_i hh
  rw [if_neg hh]
  split at h4
  rotate_left
  ·rename_i h8;exact absurd h4 h8
  rename_i h8
  rw [if_pos h8]
  obtain ⟨e1,e2⟩:=hvis h8
  rw [e1,ej]
  rw [has_testN hk63] at e2
  have hcan:s.must.testBit q=true:=by
   simp only [Inst.emptyB,Bool.or_eq_true,decide_eq_true_eq,not_or,ej] at hh
   have:=hh.2
   rw [has_testN hq63,hg.eq] at this
   simpa using this
  have hon:s.on.testBit q=true:=by rw [hg.on q hq1 hq2,hcan,e2];rfl
  have hpos:=sumOn_pos hx (withoutN s.on q) p (Nat.le_refl _)
  have hload:=hg.load
  have hsum:=sumOn_without x hq63 hon hq1 p (by omega)
  rw [if_pos hq2] at hsum
  have hmax:max (s.load+(x.stop (q+p:Nat)).demand) 0=s.load+(x.stop (q+p:Nat)).demand:=by omega
  refine ⟨⟨by show withN s.can (q+p:Nat)=withN s.must (q+p:Nat);rw [hg.eq],fun i i1 i2=>?_,fun i i1 i2 i3=>?_,?_,?_⟩,by omega,by omega,?_,?_,?_⟩
  ·show (withoutN s.on q).testBit i=((withN s.must (q+p:Nat)).testBit i&& !(withN s.must (q+p:Nat)).testBit (i+p))
   rw [without_bit hq63 (by omega),with_bit hk63,with_bit hk63,hg.on i i1 i2]
   have:decide (q+p=i)=false:=by simp;omega
   rw [this,Bool.or_false]
   have e5:decide (q+p=i+p)=decide (q=i):=by simp
   rw [e5]
   by_cases hki:q=i
   ·simp [hki]
   ·simp [hki]
  ·have i3':(withN s.must (q+p:Nat)).testBit (i+p)=true:=i3
   show (withN s.must (q+p:Nat)).testBit i=true
   rw [with_bit hk63] at i3' ⊢
   by_cases hki:q=i
   ·subst hki
    rw [hcan,Bool.true_or]
   ·have:decide (q+p=i+p)=false:=by simp;omega
    rw [this,Bool.or_false] at i3'
    rw [hg.order i i1 i2 i3',Bool.true_or]
  ·show max (s.load+(x.stop (q+p:Nat)).demand) 0=sumOn x p (withoutN s.on q)
   omega
  ·show max (s.load+(x.stop (q+p:Nat)).demand) 0≤x.room
   have:=hg.room
   omega
  ·rw [if_pos (by omega)];rfl
  ·rw [if_pos (by omega)]
  ·rw [if_pos (by omega)];exact hmax
end Go.Proofs.YtnoifgjiipgpoaaGreat

set_option maxRecDepth 4000
namespace Go.Proofs.YtnoifgjiipgpoaaGreat
open Go Go.Proofs.YtnoifgjiipgpoaaGreat.R
theorem move_pos {x:Inst} {s:State} {j:Int} (h:(x.move s j).2.2=true) (hj:j≠0):x.may=true∧s.mayB x=true∧0<j∧j≤2*x.pairs∧x.lateB s j=false∧(j≤x.pairs→x.fullB s j=false)∧(x.pairs<j→x.emptyB s j=false)∧
  x.move s j=(x.rvisit s j (x.begins s j),far (x.stop s.spot) (x.stop j),true):=by
 obtain ⟨h1,h2,h3,h4,h5⟩:=move_is h
 have k1:x.lateB s j=false:=by
  cases e:x.lateB s j with
  |false=>rfl
  |true=>rw [to_not hj (.inl e)] at h4;cases h4
 have k2:j≤x.pairs→x.fullB s j=false:=fun hp=>by
  cases e:x.fullB s j with
  |false=>rfl
  |true=>rw [to_not hj (.inr (.inl ⟨hp,e⟩))] at h4;cases h4
 have k3:x.pairs<j→x.emptyB s j=false:=fun hp=>by
  cases e:x.emptyB s j with
  |false=>rfl
  |true=>rw [to_not hj (.inr (.inr ⟨hp,e⟩))] at h4;cases h4
 refine ⟨h1,h2,by omega,h3.2,k1,k2,k3,?_⟩
 rw [h5,to_visit hj k1 k2 k3]
theorem move_home {x:Inst} {s:State} (h:(x.move s 0).2.2=true):x.may=true∧s.mayB x=true∧x.stayB s=false∧x.move s 0=(x.homeS s,far (x.stop s.spot) (x.stop 0),true):=by
 obtain ⟨h1,h2,h3,h4,h5⟩:=move_is h
 have e:x.to s 0=x.home s:=by simp [Inst.to]
 rw [e] at h4 h5
 have k1:x.stayB s=false:=by
  cases c:x.stayB s with
  |false=>rfl
  |true=>rw [Inst.home,if_pos c] at h4;cases h4
 refine ⟨h1,h2,k1,?_⟩
 rw [h5,Inst.home,if_neg (by simp [k1])]
theorem has_withN {t k:Nat} (hk:k≤63) (i:Nat):hasB (withN t k) i=(hasB t i||decide (i=k)):=by
 by_cases hi:i≤63
 ·rw [has_testN hi,has_testN hi,with_bit hk]
  by_cases e:i=k
  ·subst e;simp
  ·have:¬k=i:=fun h=>e h.symm
   simp [e,this]
 ·have e1:∀u,hasB u (i:Int)=false:=fun u=>by simp [hasB];omega
  have:¬i=k:=by omega
  simp [e1,this]
theorem lefts_past {may j:Nat} (hj:j≤63):∀(i:Nat) (l:List Int),j<i→lefts (withN may j) i l=lefts may i l
 |_,[],_=>rfl
 |i,d :: l,h=>by
  rw [lefts,lefts,lefts_past hj (i+1) l (by omega),has_withN hj]
  have:¬i=j:=by omega
  simp [this]
theorem lefts_with {may j:Nat} (hj:j≤63) (h1:1≤j):∀(i:Nat) (l:List Int),i≤j→(∀d∈l,0≤d∧d≤14143)→lefts may i l≤lefts (withN may j) i l+l.getD (j-i) 0
 |_,[],_,_=>by simp [lefts]
 |i,d :: l,h,hd=>by
  have h0:=hd d List.mem_cons_self
  have hd':∀e∈l,0≤e∧e≤14143:=fun e he=>hd e (List.mem_cons_of_mem _ he)
  rw [lefts,lefts,has_withN hj]
  by_cases e:i=j
  ·subst e
   rw [lefts_past hj (i+1) l (by omega)]
   simp only [Nat.sub_self,List.getD_cons_zero,decide_true,Bool.or_true]
   split<;>simp<;>omega
  ·have:=lefts_with (may:=may) hj h1 (i+1) l (by omega) hd'
   have e2:j-i=(j-(i+1))+1:=by omega
   rw [e2,List.getD_cons_succ]
   have e3:decide (i=j)=false:=decide_eq_false e
   rw [e3,Bool.or_false]
   omega
theorem nearF_lower {k:Nat} {b:Stop}:∀(l:List Stop) (i:Nat) (v:Int),nearF k b i l v≤v
 |[],_,v=>Int.le_refl _
 |a :: l,i,v=>by
  rw [nearF]
  have:=nearF_lower (k:=k) (b:=b) l (i+1) (if i=k then v else min v (far a b))
  split at this<;>split<;>omega
theorem nearF_far {k:Nat} {b:Stop}:∀(l:List Stop) (i m:Nat) (v:Int) (hm:m<l.length),i+m≠k→nearF k b i l v≤far l[m] b
 |[],_,m,_,hm,_=>by simp at hm
 |a :: l,i,0,v,_,hne=>by
  rw [nearF,if_neg (by omega)]
  have:=nearF_lower (k:=k) (b:=b) l (i+1) (min v (far a b))
  simp only [List.getElem_cons_zero]
  omega
 |a :: l,i,m+1,v,hm,hne=>by
  rw [nearF]
  simpa using nearF_far l (i+1) m _ (by simpa using hm) (by omega)
theorem nearK_far (x:Inst) {k m:Nat} (b:Stop) (hm:m<x.stops.length) (hne:m≠k):x.nearK k b≤far x.stops[m] b:=by
 have h1:=nearF_far (k:=k) (b:=b) x.stops 0 m inf hm (by omega)
 have h2:=far_le x.stops[m] b
 have hinf:inf=1152921504606846976:=rfl
 unfold Inst.nearK
 rcases nearF_le k b 0 x.stops inf (.inr rfl) with h | h
 ·rw [Int.tmod_eq_of_lt h.1 (by omega)];exact h1
 ·omega
theorem near_may {x:Inst} (h:x.may=true):x.near=nears x 0 x.stops:=by rw [Inst.near,if_pos h]
theorem near_getD {x:Inst} {p:Nat} (hx:x.Fit p) (h:x.may=true) {k:Nat} (hk:k≤2*p):x.near.getD k 0=x.nearK k (x.stop k):=by
 have hl:=hx.len
 rw [near_may h,List.getD_eq_getElem?_getD,List.getElem?_eq_getElem (by rw [nears_len];omega),nears_get x 0 x.stops k (by omega),Inst.stop_at (by omega)]
 simp
theorem near_far {x:Inst} {p:Nat} (hx:x.Fit p) (h:x.may=true) {k m:Nat} (hk:k≤2*p) (hm:m≤2*p) (hne:m≠k):x.near.getD k 0≤far (x.stop m) (x.stop k):=by
 have hl:=hx.len
 rw [near_getD hx h hk,Inst.stop_at (k:=m) (by omega)]
 exact nearK_far x _ _ hne
theorem near_length {x:Inst} {p:Nat} (hx:x.Fit p) (h:x.may=true):x.near.length=2*p+1:=by rw [near_may h,nears_len,hx.len]
theorem lowP_cons {near:List Int} {may:Nat} (h:2≤near.length):lowP near may=near.getD 0 0+lefts may 0 near:=by
 match near,h with
 |a :: b :: l,_=>rfl
 |[],h=>simp at h
 |[_],h=>simp at h
theorem lowP_in {near:List Int} (hn:∀d∈near,0≤d∧d≤14143) (may:Nat):0≤lowP near may∧lowP near may≤14143*(near.length+1):=by
 by_cases h:2≤near.length
 ·rw [lowP_cons h]
  have h1:=lefts_in may 0 near hn
  have h2:0≤near.getD 0 0∧near.getD 0 0≤14143:=by
   rw [List.getD_eq_getElem?_getD,List.getElem?_eq_getElem (by omega)]
   exact hn _ (List.getElem_mem _)
  omega
 ·match near,h with
  |[],_=>simp [lowP]
  |[_],_=>simp [lowP]
  |a :: b :: l,h=>simp at h
def State.seenAt (s:State):Prop:=s.spot=0∨hasB s.must s.spot=true
theorem low_step {x:Inst} {s:State} {j:Int} (hs:s.seenAt) (h:(x.move s j).2.2=true):lowP x.near s.can≤(x.move s j).2.1+lowP x.near (x.move s j).1.can:=by
 by_cases hj:j=0
 ·subst hj
  obtain ⟨_,_,_,e⟩:=move_home h
  rw [e]
  have:=(far_le (x.stop s.spot) (x.stop 0)).1
  show _≤far (x.stop s.spot) (x.stop 0)+lowP x.near s.can
  omega
 ·obtain ⟨hm,hmay,h1,h2,h3,_,_,e⟩:=move_pos h hj
  obtain ⟨p,hx⟩:=x.fit hm
  have hp:=hx.pairs
  have hfew:=hx.few
  have hst:=s.fit hx hmay
  rw [e]
  show _≤far (x.stop s.spot) (x.stop j)+lowP x.near (withN s.can j)
  obtain ⟨k,rfl⟩:∃k:Nat,j=k:=⟨j.toNat,by omega⟩
  obtain ⟨m,hmm⟩:∃m:Nat,s.spot=m:=⟨s.spot.toNat,by have:=hst.spot;omega⟩
  have hne:m≠k:=by
   rintro rfl
   rcases hs with hs | hs
   ·omega
   ·rw [Inst.lateB,←hmm,hs] at h3;simp at h3
  have hlen:=near_length hx hm
  have hf:=near_far hx hm (k:=k) (m:=m) (by omega) (by have:=hst.spot;omega) hne
  rw [lowP_cons (by omega),lowP_cons (by omega),hmm]
  have:=lefts_with (may:=s.can) (j:=k) (by omega) (by omega) 0 x.near (by omega) (near_le x)
  rw [Nat.sub_zero] at this
  omega
theorem lefts_all {may:Nat}:∀(i:Nat) (l:List Int),(∀j:Nat,i≤j→j<i+l.length→0<j→hasB may j=true)→lefts may i l=0
 |_,[],_=>rfl
 |i,d :: l,h=>by
  rw [lefts,lefts_all (i+1) l fun j h1 h2 h3=>h j (by omega) (by simp only [List.length_cons];omega) h3]
  have:¬(0<i∧hasB may i=false):=fun ⟨h1,h2⟩=>by
   rw [h i (Nat.le_refl _) (by simp) h1] at h2
   cases h2
  rw [if_neg this]
  rfl
theorem end_is {x:Inst} {s:State} (h:(x.endS s).2=true):x.may=true∧((x.pairs=0∧s=x.rootS∧x.endS s=(0,true))∨
  (s.mayB x=true∧s.spot≠0∧s.on=0∧x.allB s.can=true∧s.time+far (x.stop s.spot) (x.stop 0)≤(x.stop 0).due∧x.endS s=(far (x.stop s.spot) (x.stop 0),true))):=by
 unfold Inst.endS at h ⊢
 split at h
 ·cases h
 ·rename_i h1
  have hm:x.may=true:=by simpa using h1
  refine ⟨hm,?_⟩
  rw [if_neg h1]
  split at h
  ·rename_i h2
   rw [if_pos h2]
   exact .inl ⟨h2.1,h2.2,rfl⟩
  ·rename_i h2
   rw [if_neg h2]
   split at h
   ·rename_i h3
    rw [if_pos h3]
    exact .inr ⟨h3.1,h3.2.1,h3.2.2.1,h3.2.2.2.1,h3.2.2.2.2,rfl⟩
   ·cases h
theorem low_end {x:Inst} {s:State} (h:(x.endS s).2=true):lowP x.near s.can≤(x.endS s).1:=by
 obtain ⟨hm,h⟩:=end_is h
 obtain ⟨p,hx⟩:=x.fit hm
 have hp:=hx.pairs
 have hlen:=near_length hx hm
 rcases h with ⟨h1,h2,e⟩ | ⟨h1,h2,h3,h4,h5,e⟩
 ·rw [e]
  have:x.near.length=1:=by omega
  match hn:x.near,this with
  |[a],_=>simp [lowP]
 ·have hst:=s.fit hx h1
  have hp1:1≤p:=by have:=hst.spot;omega
  rw [e,lowP_cons (by omega),lefts_all 0 x.near fun j _ hj h0=>by
   have:=hx.few
   rw [has_testN (by omega)]
   exact Inst.all_bit hx h4 (by omega) (by omega)]
  obtain ⟨m,hmm⟩:∃m:Nat,s.spot=m:=⟨s.spot.toNat,by have:=hst.spot;omega⟩
  have hf:=near_far hx hm (k:=0) (m:=m) (by omega) (by have:=hst.spot;omega) (by omega)
  rw [hmm]
  show _≤far (x.stop m) (x.stop 0)
  have e0:x.stop ((0:Nat):Int)=x.stop 0:=rfl
  rw [e0] at hf
  omega
theorem seen_step {x:Inst} {s:State} {j:Int} (h:(x.move s j).2.2=true):(x.move s j).1.seenAt:=by
 by_cases hj:j=0
 ·subst hj
  obtain ⟨_,_,_,e⟩:=move_home h
  rw [e]
  exact .inl rfl
 ·obtain ⟨hm,_,h1,h2,_,_,_,e⟩:=move_pos h hj
  obtain ⟨p,hx⟩:=x.fit hm
  have hp:=hx.pairs
  have hfew:=hx.few
  rw [e]
  refine .inr ?_
  show hasB (withN s.must j) j=true
  obtain ⟨k,rfl⟩:∃k:Nat,j=k:=⟨j.toNat,by omega⟩
  rw [has_withN (by omega)]
  simp
end Go.Proofs.YtnoifgjiipgpoaaGreat

set_option maxRecDepth 4000
namespace Go.Proofs.YtnoifgjiipgpoaaGreat
open Go Go.Proofs.YtnoifgjiipgpoaaGreat.R
theorem canB_mem {f:Nat→Bool}:∀{n:Nat} {j:Int},j∈canB f n→∃k:Nat,j=k∧k<n∧f k=true
 |0,j,h=>by cases h
 |n+1,j,h=>by
  rw [canB,List.mem_append] at h
  rcases h with h | h
  ·obtain ⟨k,h1,h2,h3⟩:=canB_mem h
   exact ⟨k,h1,by omega,h3⟩
  ·split at h
   ·rename_i hf
    rw [List.mem_singleton] at h
    exact ⟨n,h,by omega,hf⟩
   ·cases h
theorem moves_mem {x:Inst} {s:State} {j:Int} (h:j∈x.moves s):(x.move s j).2.2=true:=by
 rw [moves_can] at h
 obtain ⟨k,rfl,_,h3⟩:=canB_mem h
 exact h3
theorem moves_len (x:Inst) (s:State):(x.moves s).length≤x.stops.length:=by
 rw [moves_can]
 exact canB_len _ _
theorem move_cost {x:Inst} {s:State} {j:Int} (h:(x.move s j).2.2=true):0≤(x.move s j).2.1∧(x.move s j).2.1≤14143:=by
 obtain ⟨_,_,_,_,e⟩:=move_is h
 rw [e]
 exact far_le _ _
end Go.Proofs.YtnoifgjiipgpoaaGreat

set_option maxRecDepth 4000
namespace Go.Proofs.YtnoifgjiipgpoaaGreat
open Go Go.Proofs.YtnoifgjiipgpoaaGreat.R
theorem sumI_two {a b:Int} (ha:0≤a) (hb:0≤b) (h:a+b≤1152921504606846976):sumI [a,b]=a+b:=by
 simp only [sumI,List.foldl_cons,List.foldl_nil,sum1]
 omega
theorem goes_app (x:Inst):∀(l m:List Int) (s:State) (c:Int),x.goes (l++m) s c=(x.goes l s c).bind fun r=>x.goes m r.1 r.2
 |[],m,s,c=>rfl
 |j :: l,m,s,c=>by
  rw [List.cons_append,Inst.goes,Inst.goes]
  split
  ·exact goes_app x l m _ _
  ·rfl
theorem seen_root (x:Inst):x.rootS.seenAt:=by
 unfold Inst.rootS
 split<;>exact .inl rfl
theorem end_cost {x:Inst} {s:State} (h:(x.endS s).2=true):0≤(x.endS s).1∧(x.endS s).1≤14143:=by
 obtain ⟨_,h | h⟩:=end_is h
 ·rw [h.2.2];omega
 ·rw [h.2.2.2.2.2];exact far_le _ _
theorem ints_one (l:List Int):∀y∈ints l,y.length=1:=by
 intro y hy
 simp only [ints,List.mem_map] at hy
 obtain ⟨n,_,rfl⟩:=hy
 rfl
end Go.Proofs.YtnoifgjiipgpoaaGreat

set_option maxRecDepth 4000
namespace Go.Proofs.YtnoifgjiipgpoaaGreat
open Go Go.Proofs.YtnoifgjiipgpoaaGreat.R
theorem clone_spec (l:List Int) (hl:l.length<4294967296) (σ:Nat→AObj) (nx:Nat):CallSpec P 100 [.t (.sl (ints l))] σ nx (.ref nx) (oput σ nx (.arr 1 (ints l))) (nx+1):=by
 refine CallQ.spec (spec_of Tryz.func100 rfl rfl (by simp [Tryz.f100]) fun B hB hnx hσ=>K_after ?_)
 simp only [Tryz.f100] at hB ⊢
 have hil:(ints l).length=l.length:=List.length_map _
 have hne:ints l=[]↔l=[]:=by simp [ints]
 have h1:=ints_one l
 have hmost:l.length≤mostLen:=by show l.length≤4294967296;omega
 refine K_run hB 100 ?_
 simp [go_sem]
 refine K_nilEq (es:=ints l) rfl rfl (by simp [go_sem,hB]) tt67 rfl (by simp [go_sem]) fun b hb=>?_
 cases b with
 |true=>
  have e:l=[]:=Decidable.byContradiction fun h=>by have:=hb (fun h'=>h (hne.1 h'));cases this
  have e2:ints l=[]:=hne.2 e
  refine K_run hB 100 ?_
  simp [go_sem]
  refine ⟨_,fun a w hr=>rel_own (t:=2) (sz:=1) (by simp [go_sem]) hr,?_⟩
  simp [go_sem,e2]
 |false=>
  refine K_run hB 100 ?_
  simp [go_sem,hil,hne,hmost,if_pos h1]
  refine ⟨_,Imp.self,?_⟩
  simp [go_sem]
theorem own_pure (n:Node) (hl:n.path.length<4294967296):Pure P 103 [n.a] (n.a):=by
 refine pure_of Tryz.func103 rfl rfl (by simp [Tryz.f103]) (by simp [bnd,bnd.bndL,Node.a,Node.cs]) (by simp [bnd,bnd.bndL,Node.a,Node.cs]) fun B hB hnx=>?_
 simp only [Tryz.f103] at hB ⊢
 refine K_run hB 100 ?_
 simp [go_sem,Node.a,Node.cs]
 refine K_call rfl rfl rfl (args:=[.t (.sl (ints n.path))]) (f:=100) (by simp [go_sem]) (by simp [go_sem,hB]) (clone_spec n.path hl _ _) ?_
 refine K_run hB 100 ?_
 simp [go_sem]
end Go.Proofs.YtnoifgjiipgpoaaGreat

set_option maxRecDepth 4000
namespace Go.Proofs.YtnoifgjiipgpoaaGreat
open Go Go.Proofs.YtnoifgjiipgpoaaGreat.R
def sIdx (s:State):List Node→Option Nat
 |[]=>none
 |m :: l=>if m.s=s then some 0 else (sIdx s l).map (·+1)
def once1 (out:List Node) (n:Node):List Node:=match sIdx n.s out with
 |none=>out++[n]
 |some i=>if n.cost<(out.getD i n).cost then out.set i n else out
def onceL (l:List Node):List Node:=l.foldl once1 []
def State.v (s:State):Value:=.agg #[.int .i64 s.spot,.int .i64 s.car,.int .i64 s.time,.int .i64 s.load,.int .i64 s.first,.int .u64 s.must,.int .u64 s.can,.int .u64 s.on]
theorem State.v_inj {a b:State} (h:a.v=b.v):a=b:=by
 simp only [State.v,Value.agg.injEq,Array.mk.injEq,List.cons.injEq,Value.int.injEq,and_true,true_and] at h
 cases a;cases b
 simp only [State.mk.injEq]
 simp only at h
 omega
theorem State.plain (s:State):plainA s.a=some s.v:=rfl
def keysM:Nat→List Node→List (Value×AV)
 |_,[]=>[]
 |k,m :: l=>(m.s.v,.i k) :: keysM (k+1) l
theorem findM_keys (s:State):∀(k:Nat) (out:List Node),findM s.v (keysM k out)=(sIdx s out).map fun i=>(i,.i ((k+i:Nat):Int))
 |_,[]=>rfl
 |k,m :: l=>by
  rw [keysM,findM,sIdx,findM_keys s (k+1) l]
  by_cases h:m.s=s
  ·rw [if_pos (by rw [h]),if_pos h];rfl
  ·rw [if_neg (fun e=>h (State.v_inj e)),if_neg h,Option.map_map,Option.map_map]
   congr 1
   funext i
   simp only [Function.comp]
   rw [show k+1+i=k+(i+1) by omega]
theorem keysM_app (n:Node):∀(k:Nat) (out:List Node),keysM k (out++[n])=keysM k out++[(n.s.v,.i ((k+out.length:Nat):Int))]
 |_,[]=>rfl
 |k,m :: l=>by
  rw [List.cons_append,keysM,keysM,keysM_app n (k+1) l,List.cons_append,List.length_cons,show k+1+l.length=k+(l.length+1) by omega]
theorem keysM_set {n:Node}:∀(k i:Nat) (out:List Node) (h:i<out.length),out[i].s=n.s→keysM k (out.set i n)=keysM k out
 |_,_,[],h,_=>by simp at h
 |k,0,m :: l,_,e=>by simp only [List.set_cons_zero,keysM];rw [show m.s=n.s from e]
 |k,i+1,m :: l,h,e=>by
  rw [List.set_cons_succ,keysM,keysM,keysM_set (k+1) i l (by simpa using h) (by simpa using e)]
theorem sIdx_some {s:State}:∀{out:List Node} {i:Nat},sIdx s out=some i→∃h:i<out.length,out[i].s=s
 |[],i,h=>by simp [sIdx] at h
 |m :: l,i,h=>by
  rw [sIdx] at h
  split at h
  ·rename_i e
   cases h
   exact ⟨by simp,e⟩
  ·obtain ⟨j,h1,rfl⟩:=Option.map_eq_some_iff.1 h
   obtain ⟨h2,h3⟩:=sIdx_some h1
   exact ⟨by simpa using h2,by simpa using h3⟩
theorem keys_tell (s:State) (k:Nat) (out:List Node):TellM P 52 s.a s.v (keysM k out):=by
 induction out generalizing k with
 |nil=>intro e h;cases h
 |cons m l ih=>
  intro e h
  rw [keysM] at h
  rcases List.mem_cons.1 h with rfl | h
  ·refine ⟨m.s.a,m.s.plain,?_⟩
   rw [state_eq]
   congr 1
   rw [decide_eq_decide]
   exact ⟨fun h=>by rw [h],fun h=>(State.v_inj h).symm⟩
  ·exact ih (k+1) e h
theorem state_key (s:State):ckA P 10000 52 s.a=true:=by kernel_rfl
theorem once1_len (out:List Node) (n:Node):(once1 out n).length≤out.length+1:=by
 unfold once1
 split
 ·simp
 ·split<;>simp
def nodesT (l:List Node):List (List T):=l.map Node.t
theorem nodesT_get (l:List Node) {k:Nat} (h:k<l.length):(nodesT l)[k]'(by rw [nodesT,List.length_map];exact h)=l[k].t:=by simp [nodesT]
theorem nodesT_len (l:List Node):∀y∈nodesT l,y.length=10:=by
 intro y hy
 simp only [nodesT,List.mem_map] at hy
 obtain ⟨n,_,rfl⟩:=hy
 rfl
structure Node.Fine (n:Node):Prop where
 ok:n.s.ok
 len:n.path.length<2^31
theorem once_pure (l:List Node) (hl:l.length<2^31) (hn:∀n∈l,n.Fine):Pure P 105 [.t (.sl (nodesT l))] (.t (.sl (nodesT (onceL l)))):=by
 generalize hR:onceL l=R
 refine pure_of Tryz.func105 rfl rfl (by simp [Tryz.f105]) (by simp [bnd,bnd.bndL]) (by simp [bnd,bnd.bndL]) fun B hB hnx=>?_
 simp only [Tryz.f105] at hB ⊢
 have hil:(nodesT l).length=l.length:=List.length_map _
 have hgt:∀(k:Nat) (h:k<l.length),(nodesT l)[k]'(by rw [hil];exact h)=l[k].t:=fun k h=>nodesT_get l h
 generalize hX:nodesT l=X at *
 have hmost:mostLen=4294967296:=rfl
 refine K_run hB 100 ?_
 simp [go_sem,hil]
 refine K_own 4 10 (by simp [go_sem]) ?_
 refine K_loopP (α:=Nat×List Node×Nat×(Nat→AObj)×Nat) (fun (k,out,j,σ,nx)=>k≤l.length∧(l.drop k).foldl once1 out=R∧out.length≤k∧σ 0= .map (keysM 0 out)∧σ j= .arr 10 (nodesT out)∧0<j∧j<nx)
  (fun (k,out,j,σ,nx)=>⟨sl [(3,.mapr 0),(4,.ref j),(10,.t (.sl X)),(11,.i l.length),(12,.i k)],σ,nx⟩) (fun a=>l.length-a.1) (0,[],1,_,2) ?_ (Imp.slots (by simp [go_sem,hil]) rfl rfl) ?_
 ·exact ⟨Nat.zero_le _,hR,Nat.le_refl _,by simp [oput,keysM],by simp [oput,nodesT],by omega,by omega⟩
 rintro ⟨k,out,j,σ,nx⟩ ⟨g1,g2,g3,g4,g5,g6,g7⟩
 refine K_run hB 60 ?_
 simp [go_sem]
 refine fork_dec (fun hk=>?_) (fun hk=>?_)
 ·have hkk:IntKind.i64.wrap ((k:Int)+1)=((k+1:Nat):Int):=by rw [w64 ((k:Int)+1) (by omega)];rfl
  have hget:∀h:k<X.length,X[k]'h=l[k].t:=fun h=>hgt k hk
  rw [List.drop_eq_getElem_cons hk,List.foldl_cons] at g2
  have hfine:=hn l[k] (List.getElem_mem _)
  generalize l[k]=n at *
  have hown:=own_pure n (by have:=hfine.len;omega)
  simp [go_sem,hil,hk,hget,Node.t,g5]
  refine K_lookup (kt:=52) (et:=3) (es:=keysM 0 out) (u:=n.s.v) (m:=0) (r:=match sIdx n.s out with | some i=>.tup [.i i,.b true] | none=>.tup [.i 0,.b false]) rfl rfl (by simp [go_sem,hB]) tt207 rfl tt3 (by kernel_rfl) (by simp [go_sem]) (by simp [go_sem,g4,show ¬0=nx by omega]) (by simp [go_sem];exact n.s.plain) (by simp [go_sem];exact state_key n.s) (by simp [go_sem];exact keys_tell n.s 0 out) ?_ ?_
  ·rw [lookA,findM_keys]
   cases sIdx n.s out with
   |none=>simp [go_sem]
   |some i=>simp
  have ho:once1 out n=match sIdx n.s out with
   |none=>out++[n]
   |some i=>if n.cost<(out.getD i n).cost then out.set i n else out:=rfl
  have hlen:(nodesT out).length=out.length:=List.length_map _
  have hnj:¬j=nx:=by omega
  have hn0:¬0=nx:=by omega
  have h0j:¬0=j:=by omega
  cases hi:sIdx n.s out with
  |none=>
   rw [hi] at ho
   simp only at ho
   rw [ho] at g2
   have hcap:out.length+1≤mostLen:=by omega
   refine K_run hB 100 ?_
   simp [go_sem,g5,hlen,hnj]
   refine K_mapSet (kt:=52) (et:=3) (es:=keysM 0 out) (u:=n.s.v) (m:=0) rfl rfl (by simp [go_sem,hB]) tt207 rfl (by kernel_rfl) (by simp [go_sem]) (by simp [go_sem,g4,hn0]) (by simp [go_sem];exact n.s.plain) (by simp [go_sem];exact state_key n.s) (by simp [go_sem];exact keys_tell n.s 0 out) (.inl (by rw [findM_keys,hi];rfl)) ?_
   refine K_run hB 100 ?_
   simp [go_sem,show ¬nx=0 by omega]
   refine K_call rfl rfl rfl (args:=[n.a]) (f:=103) (by simp [go_sem,Node.a,Node.cs]) (by simp [go_sem,hB]) ((hown).spec _ _) ?_
   refine K_run hB 100 ?_
   simp [go_sem,Node.a,Node.cs,g5,hlen,hcap,hnj,hkk,h0j,show ¬j=0 by omega]
   refine Next.mk (k+1,out++[n],nx+1,_,nx+2) ?_ (Imp.slots (by simp [go_sem]) rfl rfl) (by simp only;omega)
   refine ⟨by simp only;omega,g2,by simp only [List.length_append,List.length_cons,List.length_nil];omega,?_,?_,by simp only;omega,by simp only;omega⟩
   ·simp [oput,hn0,h0j,setM,findM_keys,hi,keysM_app]
   ·simp [oput,nodesT,Node.t]
  |some i=>
   obtain ⟨hil2,his⟩:=sIdx_some hi
   rw [hi] at ho
   simp only at ho
   have hgi:∀h:i<(nodesT out).length,(nodesT out)[i]'h=out[i].t:=fun h=>nodesT_get out hil2
   have hgd:out.getD i n=out[i]:=by rw [List.getD_eq_getElem?_getD,List.getElem?_eq_getElem hil2];rfl
   rw [hgd] at ho
   have q1:i*10 / 10=i:=by omega
   have q2:(i*10+8) / 10=i:=by omega
   have q3:(i*10+8) % 10=8:=by omega
   have q4:i*10 % 10=0:=by omega
   have q5:(i:Int)<out.length:=by omega
   refine K_run hB 100 ?_
   simp [go_sem]
   refine K_drawn [] rfl (by rw [hB];kernel_rfl) ?_
   by_cases c1:n.cost<out[i].cost
   ·rw [if_pos c1] at ho
    rw [ho] at g2
    refine K_run hB 100 ?_
    simp [go_sem,g5,hlen,hnj,hgi,q2,q3,q5,hil2,Node.t,c1]
    refine K_call rfl rfl rfl (args:=[n.a]) (f:=103) (by simp [go_sem,Node.a,Node.cs]) (by simp [go_sem,hB]) ((hown).spec _ _) ?_
    refine K_run hB 100 ?_
    simp [go_sem,Node.a,Node.cs,g5,hlen,hnj,hgi,q1,q4,q5,hil2,Node.t,hkk]
    refine Next.mk (k+1,out.set i n,j,_,nx+1) ?_ (Imp.slots (by simp [go_sem]) rfl rfl) (by simp only;omega)
    refine ⟨by simp only;omega,g2,by simp only [List.length_set];omega,?_,?_,by simp only;omega,by simp only;omega⟩
    ·rw [keysM_set 0 i out hil2 his]
     simp [oput,hn0,h0j,g4]
    ·simp [oput,nodesT,Node.t,List.map_set]
   ·rw [if_neg c1] at ho
    rw [ho] at g2
    refine K_run hB 100 ?_
    simp [go_sem,g5,hlen,hnj,hgi,q2,q3,q5,hil2,Node.t,c1,hkk]
    refine Next.mk (k+1,out,j,_,nx+1) ?_ (Imp.slots (by simp [go_sem]) rfl rfl) (by simp only;omega)
    refine ⟨by simp only;omega,g2,by simp only;omega,?_,?_,by simp only;omega,by simp only;omega⟩
    ·simp [oput,hn0,g4]
    ·simp [oput,hnj,g5]
 ·have:k=l.length:=by omega
  subst this
  rw [List.drop_length,List.foldl_nil] at g2
  subst g2
  simp [go_sem,g5]
end Go.Proofs.YtnoifgjiipgpoaaGreat

set_option maxRecDepth 4000
namespace Go.Proofs.YtnoifgjiipgpoaaGreat
open Go Go.Proofs.YtnoifgjiipgpoaaGreat.R
theorem sIdx_none {s:State}:∀{l:List Node},sIdx s l=none→∀m∈l,m.s≠s
 |[],_,m,h=>by cases h
 |a :: l,h,m,hm=>by
  rw [sIdx] at h
  split at h
  ·cases h
  ·rename_i e
   rcases List.mem_cons.1 hm with rfl | hm
   ·exact e
   ·exact sIdx_none (by simpa using h) m hm
theorem set_states {out:List Node} {n:Node} {i:Nat} (h:i<out.length) (e:out[i].s=n.s):(out.set i n).map Node.s=out.map Node.s:=by
 rw [List.map_set,←e]
 apply List.ext_getElem?
 intro j
 by_cases hj:i=j
 ·subst hj
  rw [List.getElem?_set_self (by simpa using h),List.getElem?_map,List.getElem?_eq_getElem h];rfl
 ·rw [List.getElem?_set_ne hj]
theorem once1_nodup {out:List Node} (h:(out.map Node.s).Nodup) (n:Node):((once1 out n).map Node.s).Nodup:=by
 unfold once1
 split
 ·rename_i e
  rw [List.map_append,List.nodup_append]
  refine ⟨h,by simp,?_⟩
  intro a ha b hb
  simp only [List.map_cons,List.map_nil,List.mem_singleton] at hb
  obtain ⟨m,hm,rfl⟩:=List.mem_map.1 ha
  rw [hb]
  exact sIdx_none e m hm
 ·rename_i i e
  obtain ⟨h1,h2⟩:=sIdx_some e
  split
  ·rw [set_states h1 h2];exact h
  ·exact h
end Go.Proofs.YtnoifgjiipgpoaaGreat

set_option maxRecDepth 4000
namespace Go.Proofs.YtnoifgjiipgpoaaGreat
open Go Go.Proofs.YtnoifgjiipgpoaaGreat.R
def Inst.child (x:Inst) (n:Node) (j:Int):Node:=⟨(x.move n.s j).1,sumI [n.cost,(x.move n.s j).2.1],n.path++[j]⟩
def Node.ra (n:Node) (r:Nat):AV:=.agg [.i n.s.spot,.i n.s.car,.i n.s.time,.i n.s.load,.i n.s.first,.u n.s.must,.u n.s.can,.u n.s.on,.i n.cost,.ref r]
theorem children_pure (x:Inst) (n:Node) (σ:Nat→AObj) (nx:Nat):CallQ P 104 [x.a,n.a] σ nx fun r σ' nx'=>r= .fn (.func 122) [] [.ptr nx 0,.ptr (nx+1) 0]∧nx'=nx+2∧
  σ'=oput (oput σ nx (.box x.cs)) (nx+1) (.box n.cs):=by
 refine spec_of Tryz.func104 rfl rfl (by simp [Tryz.f104]) fun B hB hnx hσ=>?_
 simp only [Tryz.f104] at hB ⊢
 refine K_run hB 100 ?_
 simp [go_sem,Inst.a,Node.a,Node.cs,Inst.cs]
 omega
theorem children1_spec (x:Inst) (n:Node) (hl:x.stops.length<2^63) (ho:n.s.ok) (hp:n.path.length<2^31) (q b1 b2:Nat) (J:Nat→(Nat→AObj)→Nat→Prop) (σ0:Nat→AObj) (nx0:Nat) (h0:J 0 σ0 nx0)
  (hb:∀k σ nx,J k σ nx→nx0≤nx∧b1<nx∧b2<nx∧σ b1= .box x.cs∧σ b2= .box n.cs)
  (hy:∀k (hk:k<(x.moves n.s).length) σ nx σ1 nx1 r,J k σ nx→(∀i,i<nx→σ1 i=σ i)→nx≤r→r<nx1→σ1 r= .arr 1 (ints (n.path++[(x.moves n.s)[k]]))→
   ∃σ' nx',YieldQ P q [(x.child n (x.moves n.s)[k]).ra r] σ1 nx1 (fun a b=>a=σ'∧b=nx')∧J (k+1) σ' nx'):
  CallQ P 122 [.yld q,.ptr b1 0,.ptr b2 0] σ0 nx0 fun _ σ' nx'=>J (x.moves n.s).length σ' nx':=by
 refine spec_of Tryz.func122 rfl rfl (by simp [Tryz.f122]) fun B hB hnx hσ=>?_
 simp only [Tryz.f122] at hB ⊢
 obtain ⟨_,_,_,a1,a2⟩:=hb 0 σ0 nx0 h0
 have hms:=moves_pure x n.s hl ho
 have hmv:=fun j=>move_pure x n.s j hl ho
 have hil:(ints (x.moves n.s)).length=(x.moves n.s).length:=List.length_map _
 have hpl:(ints n.path).length=n.path.length:=List.length_map _
 have hgt:∀(k:Nat) (h:k<(x.moves n.s).length),(ints (x.moves n.s))[k]'(by rw [hil];exact h)=[.i ((x.moves n.s)[k])]:=fun k h=>ints_getS _ h
 have hml:(x.moves n.s).length<2^63:=by
  rw [moves_can]
  have:=canB_len (fun k=>(x.move n.s k).2.2) x.stops.length
  omega
 have hmost:mostLen=4294967296:=rfl
 have hcl:=clone_spec n.path (by omega)
 generalize hX:ints (x.moves n.s)=X at *
 generalize hL:x.moves n.s=L at *
 refine K_run hB 100 ?_
 simp [go_sem,a1,a2,Inst.cs,Node.cs]
 refine K_call rfl rfl rfl (args:=[x.a,n.s.a]) (f:=92) (by simp [go_sem,Inst.a,State.a,State.cs]) (by simp [go_sem,hB]) ((hms).spec _ _) ?_
 refine K_run hB 100 ?_
 simp [go_sem,hil]
 refine K_loopP (α:=Nat×(Nat→AObj)×Nat) (fun (k,σ,nx)=>k≤L.length∧J k σ nx) (fun (k,σ,nx)=>⟨sl [(0,.yld q),(1,.ptr b1 0),(2,.ptr b2 0),(12,.t (.sl X)),(13,.i L.length),(14,.i k)],σ,nx⟩) (fun a=>L.length-a.1) (0,σ0,nx0) ⟨Nat.zero_le _,h0⟩ (Imp.slots (by simp [go_sem]) rfl rfl) ?_
 rintro ⟨k,σ,nx⟩ ⟨g1,g2⟩
 obtain ⟨gn,l1,l2,d1,d2⟩:=hb k σ nx g2
 refine K_run hB 60 ?_
 simp [go_sem]
 refine fork_dec (fun hk=>?_) (fun hk=>?_)
 ·have hkk:IntKind.i64.wrap ((k:Int)+1)=((k+1:Nat):Int):=by rw [w64 ((k:Int)+1) (by omega)];rfl
  have hget:∀h:k<X.length,X[k]'h=[.i L[k]]:=fun h=>hgt k hk
  have hyk:=hy k hk σ nx
  generalize L[k]=j at *
  have hm:=hmv j
  have hch:x.child n j=⟨(x.move n.s j).1,sumI [n.cost,(x.move n.s j).2.1],n.path++[j]⟩:=rfl
  generalize x.child n j=c at *
  generalize x.move n.s j=V at *
  obtain ⟨t,d,is⟩:=V
  simp only at hch
  have hsum:=sum_pure [n.cost,d] (by simp)
  have n1:¬b1=nx:=by omega
  have n2:¬b2=nx:=by omega
  have n3:¬b2=nx+1:=by omega
  have hcap:n.path.length+1≤mostLen:=by omega
  simp [go_sem,hil,hk,hget,d1,d2,Inst.cs,Node.cs]
  refine K_call rfl rfl rfl (args:=[x.a,n.s.a,.i j]) (f:=93) (by simp [go_sem,Inst.a,State.a,State.cs]) (by simp [go_sem,hB]) ((hm).spec _ _) ?_
  refine K_run hB 100 ?_
  simp [go_sem,mv,State.a,State.cs]
  refine K_drawnG [9,12,14] [0,1,10,11] [1] rfl (by rw [hB];kernel_rfl) (by kernel_rfl) fun ht hf'=>?_
  refine K_run hB 100 ?_
  simp [go_sem,ht,hf',d2,n2,Node.cs]
  refine K_dCallP rfl rfl rfl (args:=[.fsl (ints [n.cost,d])]) (f:=65) (by simp [go_sem,ints]) (Pure.loose hsum (by simp [bnd])) ?_
  refine K_run hB 100 ?_
  simp [go_sem,ht,hf',d2,n2,Node.cs]
  refine K_dCall rfl rfl rfl (args:=[.t (.sl (ints n.path))]) (f:=100) (by simp [go_sem]) (hcl _ _) (by decide) (okPends_does (by simp [go_sem])) ?_
  refine K_run hB 100 ?_
  simp [go_sem,ht,hf',hpl,hcap,show ¬nx=nx+1+1 by omega,show ¬nx=nx+1 by omega]
  obtain ⟨σ',nx',h1,h2⟩:=hyk (oput (oput (oput (oput (oput σ nx (.box [.i 0,.i 0,.i 0,.i 0,.i 0,.u 0,.u 0,.u 0])) nx (.box [.i t.spot,.i t.car,.i t.time,.i t.load,.i t.first,.u t.must,.u t.can,.u t.on])) (nx+1) (.arr 1 (ints n.path))) (nx+1) .dead) (nx+2) (.arr 1 (ints n.path++[[.i j]]))) (nx+3) (nx+2) g2 (fun i hi=>by simp [oput,show ¬i=nx by omega,show ¬i=nx+1 by omega,show ¬i=nx+2 by omega]) (by omega) (by omega) (by simp [oput,ints])
  refine K_dYield rfl rfl rfl (q:=q) (args:=[c.ra (nx+2)]) (σ':=σ') (nx':=nx') (by simp [go_sem]) (by simp [go_sem,Node.ra,hch]) h1 (by decide) (okPends_does ⟨.inl (by kernel_rfl),trivial⟩) ?_
  refine K_run hB 100 ?_
  simp [go_sem,hkk]
  exact Next.mk (k+1,σ',nx') ⟨by simp only;omega,h2⟩ (Imp.slots (by simp [go_sem]) rfl rfl) (by simp only;omega)
 ·have:k=L.length:=by omega
  subst this
  simp [go_sem,hnx,g2]
  exact gn
end Go.Proofs.YtnoifgjiipgpoaaGreat

set_option maxRecDepth 4000
namespace Go.Proofs.YtnoifgjiipgpoaaGreat
open Go Go.Proofs.YtnoifgjiipgpoaaGreat.R
def Inst.kids (x:Inst) (up:Int) (n:Node):List Node:=((x.moves n.s).map (x.child n)).filter fun c=>decide (x.of c<up)
def Node.zero:Node:=⟨State.zero,0,[]⟩
def Inst.best1 (x:Inst) (b:Node×Bool) (n:Node):Node×Bool:=
 if (x.endS n.s).2=true∧(b.2=false∨sumI [n.cost,(x.endS n.s).1]<b.1.cost) then ({n with cost:=sumI [n.cost,(x.endS n.s).1]},true) else b
def Inst.bests (x:Inst) (l:List Node):Node×Bool:=l.foldl x.best1 (Node.zero,false)
def Inst.next (x:Inst) (l:List Node) (up:Int):List Node:=onceL (l.flatMap (x.kids up))
theorem moves_33 (x:Inst) (s:State):(x.moves s).length≤33:=by
 cases hm:x.may with
 |false=>
  rw [Inst.moves,if_neg (by simp [hm])];simp
 |true=>
  obtain ⟨p,hx⟩:=x.fit hm
  have:=hx.len
  have:=hx.few
  have:=moves_len x s
  omega
theorem kids_33 (x:Inst) (up:Int) (n:Node):(x.kids up n).length≤33:=by
 unfold Inst.kids
 refine Nat.le_trans (List.length_filter_le _ _) ?_
 rw [List.length_map]
 exact moves_33 x n.s
def expRes (l:List Node) (b:Node×Bool):AV:=.tup [.t (.sl (nodesT l)),b.1.a,.b b.2]
theorem take_kids (x:Inst) (up:Int) (n:Node) {k:Nat} (hk:k<(x.moves n.s).length):
  (((x.moves n.s).take (k+1)).map (x.child n)).filter (fun c=>decide (x.of c<up))=(((x.moves n.s).take k).map (x.child n)).filter (fun c=>decide (x.of c<up))++(if x.of (x.child n (x.moves n.s)[k])<up then [x.child n (x.moves n.s)[k]] else []):=by
 rw [List.take_succ_eq_append_getElem hk,List.map_append,List.filter_append]
 congr 1
 simp only [List.map_cons,List.map_nil,List.filter_cons,List.filter_nil,decide_eq_true_eq]
structure Loop14 (x:Inst) (up:Int) (n:Node) (all:List Node) (b:Node) (L:AObj) (nx0 b1:Nat) (k:Nat) (σ:Nat→AObj) (nx:Nat):Prop where
 o0:σ 0= .box x.cs
 o1:σ 1= .box [.i up]
 o2:σ 2= .box Node.zero.cs
 o4:σ 4= .box b.cs
 p1:σ b1= .box x.cs
 p2:σ (b1+1)= .box n.cs
 q:σ (b1+2)=L
 le:nx0≤nx∧b1+2<nx∧4<b1
 row:∃a,σ 3= .box [.ref a]∧σ a= .arr 10 (nodesT (all++(((x.moves n.s).take k).map (x.child n)).filter fun c=>decide (x.of c<up)))∧4<a∧a<nx∧a≠b1∧a≠b1+1∧a≠b1+2
theorem expand_pure (x:Inst) (l:List Node) (up:Int) (hl:x.stops.length<2^31) (hll:l.length<2^20) (hn:∀n∈l,n.Fine) (hn2:∀n∈l,n.path.length<2^30):Pure P 73 [x.a,.t (.sl (nodesT l)),.i up] (expRes (x.next l up) (x.bests l)):=by
 generalize hR:x.next l up=R
 generalize hRb:x.bests l=Rb
 refine pure_ofR Tryz.func73 rfl rfl (by simp [Tryz.f73]) (by simp [bnd,bnd.bndL,Inst.a]) (by simp [bnd,bnd.bndL,expRes,Node.a,Node.cs]) fun B hB hnx hro=>?_
 simp only [Tryz.f73] at hB ⊢
 have hil:(nodesT l).length=l.length:=List.length_map _
 have hgt:∀(k:Nat) (h:k<l.length),(nodesT l)[k]'(by rw [hil];exact h)=l[k].t:=fun k h=>nodesT_get l h
 generalize hX:nodesT l=X at *
 have hmost:mostLen=4294967296:=rfl
 rw [Inst.next] at hR
 rw [Inst.bests] at hRb
 refine K_run hB 100 ?_
 simp [go_sem,Inst.a,hil]
 refine K_less (((Imp.ownB (b:=3) (off:=0) (sz:=10) (cs:=[.fsl []]) (by simp [go_sem]) rfl).trans (Imp.looseB (b:=2) (cs:=[.i 0,.i 0,.i 0,.i 0,.i 0,.u 0,.u 0,.u 0,.i 0,.fsl []]) (by simp [oput]))).trans (Imp.looseB (b:=4) (cs:=[.i 0,.i 0,.i 0,.i 0,.i 0,.u 0,.u 0,.u 0,.i 0,.fsl []]) (by simp [oput]))) ?_
 refine K_loopP (α:=Nat×List Node×(Node×Bool)×Nat×(Nat→AObj)×Nat) (fun (k,all,b,a,σ,nx)=>k≤l.length∧(all++(l.drop k).flatMap (x.kids up)=l.flatMap (x.kids up)∧all.length≤33*k)∧(l.drop k).foldl x.best1 b=Rb∧σ 0= .box x.cs∧σ 1= .box [.i up]∧σ 2= .box Node.zero.cs∧σ 3= .box [.ref a]∧σ 4= .box b.1.cs∧σ a= .arr 10 (nodesT all)∧4<a∧a<nx)
  (fun (k,all,b,a,σ,nx)=>⟨sl [(3,.ptr 0 0),(5,.ptr 1 0),(7,.ptr 2 0),(9,.ptr 3 0),(10,.ptr 4 0),(11,.b b.2),(18,.t (.sl X)),(19,.i l.length),(20,.i k)],σ,nx⟩) (fun a=>l.length-a.1) (0,[],(Node.zero,false),5,_,6) ?_ (Imp.slots (by simp [go_sem]) rfl rfl) ?_
 ·exact ⟨Nat.zero_le _,⟨rfl,Nat.le_refl _⟩,hRb,by simp [oput,Inst.cs],by simp [oput],by simp [oput,Node.zero,State.zero,Node.cs,ints,loosen],by simp [oput],by simp [oput,Node.zero,State.zero,Node.cs,ints,loosen],by simp [oput,nodesT],by omega,by omega⟩
 rintro ⟨k,all,b,a,σ,nx⟩ ⟨g1,⟨g2,g2'⟩,g3,h0,h1,h2,h3,h4,h5,h6,h7⟩
 refine K_run hB 60 ?_
 simp [go_sem]
 refine fork_dec (fun hk=>?_) (fun hk=>?_)
 ·have hkk:IntKind.i64.wrap ((k:Int)+1)=((k+1:Nat):Int):=by rw [w64 ((k:Int)+1) (by omega)];rfl
  have hget:∀h:k<X.length,X[k]'h=l[k].t:=fun h=>hgt k hk
  rw [List.drop_eq_getElem_cons hk,List.flatMap_cons] at g2
  rw [List.drop_eq_getElem_cons hk,List.foldl_cons] at g3
  have hfine:=hn l[k] (List.getElem_mem _)
  have hpath:=hn2 l[k] (List.getElem_mem _)
  generalize l[k]=n at *
  have hen:=end_pure x n.s (by omega) hfine.ok
  have hown:=own_pure n (by omega)
  have hbe:x.best1 b n=if (x.endS n.s).2=true∧(b.2=false∨sumI [n.cost,(x.endS n.s).1]<b.1.cost) then ({n with cost:=sumI [n.cost,(x.endS n.s).1]},true) else b:=rfl
  have m0:¬0=nx:=by omega
  have m1:¬1=nx:=by omega
  have m2:¬2=nx:=by omega
  have m3:¬3=nx:=by omega
  have m4:¬4=nx:=by omega
  have ma:¬a=nx:=by omega
  have ma4:¬a=4:=by omega
  have mn4:¬nx=4:=by omega
  simp [go_sem,hil,hk,hget,Node.t,h0,m0,Inst.cs]
  refine K_call rfl rfl rfl (args:=[x.a,n.s.a]) (f:=64) (by simp [go_sem,Inst.a,State.a,State.cs]) (by simp [go_sem,hB]) ((hen).spec _ _) ?_
  refine K_run hB 10 ?_
  simp [go_sem]
  refine K_cut (α:=Nat→AObj) (fun σ'=>σ' 0= .box x.cs∧σ' 1= .box [.i up]∧σ' 2= .box Node.zero.cs∧σ' 3= .box [.ref a]∧σ' 4= .box (x.best1 b n).1.cs∧σ' a= .arr 10 (nodesT all)∧σ' nx= .box n.cs)
   (fun σ'=>⟨sl [(3,.ptr 0 0),(5,.ptr 1 0),(7,.ptr 2 0),(9,.ptr 3 0),(10,.ptr 4 0),(11,.b (x.best1 b n).2),(13,.ptr nx 0),(18,.t (.sl X)),(19,.i l.length),(20,.i k)],σ',nx+1⟩) ?_ ?_
  ·have hsum:=sum_pure [n.cost,(x.endS n.s).1] (by simp)
   generalize x.best1 b n=b' at *
   generalize x.endS n.s=E at *
   obtain ⟨c,is⟩:=E
   cases is with
   |false=>
    rw [if_neg (by simp)] at hbe
    subst hbe
    refine K_run hB 100 ?_
    simp [go_sem]
    refine ⟨_,⟨?_,?_,?_,?_,?_,?_,?_⟩,Imp.slots (by simp [go_sem]) rfl rfl⟩
    all_goals simp [oput,m0,m1,m2,m3,m4,ma,h0,h1,h2,h3,h4,h5,Inst.cs,Node.cs]
   |true=>
    simp only [true_and] at hbe
    refine K_run hB 100 ?_
    simp [go_sem]
    refine K_call rfl rfl rfl (args:=[.fsl (ints [n.cost,c])]) (f:=65) (by simp [go_sem,ints]) (by simp [go_sem,hB]) ((Pure.loose hsum (by simp [bnd])).spec _ _) ?_
    generalize sumI [n.cost,c]=e at *
    by_cases c1:b.2=false∨e<b.1.cost
    ·rw [if_pos c1] at hbe
     subst hbe
     cases c2:b.2 with
     |false=>
      refine K_run hB 100 ?_
      simp [go_sem,c2]
      refine K_call rfl rfl rfl (args:=[n.a]) (f:=103) (by simp [go_sem,Node.a,Node.cs]) (by simp [go_sem,hB]) ((hown).spec _ _) ?_
      refine K_run hB 100 ?_
      simp [go_sem,Node.a,Node.cs,h4,m4,mn4]
      refine ⟨_,⟨?_,?_,?_,?_,?_,?_,?_⟩,Imp.slots (by simp [go_sem]) rfl rfl⟩
      all_goals simp [oput,m0,m1,m2,m3,m4,ma,ma4,mn4,h0,h1,h2,h3,h4,h5,Inst.cs,Node.cs]
     |true=>
      have c3:e<b.1.cost:=c1.resolve_left (by simp [c2])
      refine K_run hB 100 ?_
      simp [go_sem,c2,h4,m4,Node.cs,c3]
      refine K_call rfl rfl rfl (args:=[n.a]) (f:=103) (by simp [go_sem,Node.a,Node.cs]) (by simp [go_sem,hB]) ((hown).spec _ _) ?_
      refine K_run hB 100 ?_
      simp [go_sem,Node.a,Node.cs,h4,m4,mn4]
      refine ⟨_,⟨?_,?_,?_,?_,?_,?_,?_⟩,Imp.slots (by simp [go_sem]) rfl rfl⟩
      all_goals simp [oput,m0,m1,m2,m3,m4,ma,ma4,mn4,h0,h1,h2,h3,h4,h5,Inst.cs,Node.cs]
    ·rw [if_neg c1] at hbe
     subst hbe
     have c2:b'.2=true:=by
      cases h:b'.2 with
      |true=>rfl
      |false=>exact absurd (.inl h) c1
     have c3:¬e<b'.1.cost:=fun h=>c1 (.inr h)
     refine K_run hB 100 ?_
     simp [go_sem,c2,h4,m4,Node.cs,c3]
     refine ⟨_,⟨?_,?_,?_,?_,?_,?_,?_⟩,Imp.slots (by simp [go_sem,c2]) rfl rfl⟩
     all_goals simp [oput,m0,m1,m2,m3,m4,ma,h0,h1,h2,h3,h4,h5,Inst.cs,Node.cs]
  rintro σ' ⟨k0,k1,k2,k3,k4,k5,k6⟩
  have hch:=children_pure x n
  refine K_run hB 100 ?_
  simp [go_sem,k0,k6,Inst.cs,Node.cs]
  refine K_callQ rfl rfl rfl (args:=[x.a,n.a]) (f:=104) (by simp [go_sem,Inst.a,Node.a,Node.cs]) (by simp [go_sem,hB]) (hch _ _) ?_
  rintro r σ2 nx2 ⟨rfl,rfl,rfl⟩
  refine K_run hB 100 ?_
  simp [go_sem]
  generalize hb':x.best1 b n=b' at *
  have hsp:=children1_spec x n (by omega) hfine.ok (by omega)
  have hk33:=moves_33 x n.s
  refine K_less (Imp.slots (l:=[(3,.ptr 0 0),(5,.ptr 1 0),(7,.ptr 2 0),(9,.ptr 3 0),(10,.ptr 4 0),(11,.b b'.2),(18,.t (.sl X)),(19,.i l.length),(20,.i k),(51,.fn (.func 122) [] [.ptr (nx+1) 0,.ptr (nx+2) 0])]) (by simp [go_sem]) rfl rfl) ?_
  refine K_range hro (f:=122) (args:=[.yld (nx+3),.ptr (nx+1) 0,.ptr (nx+2) 0]) (by simp [go_sem]) fun L hL=>⟨fun _ σ3 nx3=>Loop14 x up n all b'.1 L (nx+4) (nx+1) (x.moves n.s).length σ3 nx3,?_,?_⟩
  ·refine hsp (nx+3) (nx+1) (nx+2) (Loop14 x up n all b'.1 L (nx+4) (nx+1)) _ (nx+4) ?_ ?_ ?_
   ·refine ⟨?_,?_,?_,?_,?_,?_,?_,by omega,⟨a,?_,?_,by omega,by omega,by omega,by omega,by omega⟩⟩
    all_goals simp [oput,k0,k1,k2,k3,k4,k5,show ¬nx=0 by omega,show ¬nx=1 by omega,show ¬nx=2 by omega,show ¬nx=3 by omega,show ¬0=nx+3 by omega,show ¬1=nx+3 by omega,show ¬2=nx+3 by omega,show ¬3=nx+3 by omega,show ¬4=nx+3 by omega,show ¬a=nx+3 by omega,
     show ¬0=nx+2 by omega,show ¬1=nx+2 by omega,show ¬2=nx+2 by omega,show ¬3=nx+2 by omega,show ¬4=nx+2 by omega,show ¬a=nx+2 by omega,show ¬0=nx+1 by omega,show ¬1=nx+1 by omega,show ¬2=nx+1 by omega,show ¬3=nx+1 by omega,show ¬4=nx+1 by omega,show ¬a=nx+1 by omega,Inst.cs,Node.cs]
   ·rintro k' σ3 nx3 hJ
    have:=hJ.le
    exact ⟨this.1,by omega,by omega,hJ.p1,hJ.p2⟩
   ·intro k' hk' σ3 nx3 σ4 nx4 r hJ hag hr1 hr2 hr3
    have hle:=hJ.le
    obtain ⟨a',r1,r2,r3,r4,r5,r6,r7⟩:=hJ.row
    have htk:=take_kids x up n hk'
    have hcok:(x.child n (x.moves n.s)[k']).s.ok:=move_ok x _ hfine.ok
    have hcp:(x.child n (x.moves n.s)[k']).path=n.path++[(x.moves n.s)[k']]:=rfl
    rw [←hcp] at hr3
    generalize x.child n (x.moves n.s)[k']=c at *
    have hof:=of_pure x c hl hcok
    have hlen:(nodesT (all++(((x.moves n.s).take k').map (x.child n)).filter fun c=>decide (x.of c<up))).length+1≤mostLen:=by
     rw [nodesT,List.length_map,List.length_append]
     have:=List.length_filter_le (fun c=>decide (x.of c<up)) (((x.moves n.s).take k').map (x.child n))
     rw [List.length_map,List.length_take] at this
     omega
    generalize (((x.moves n.s).take k').map (x.child n)).filter (fun c=>decide (x.of c<up))=F at *
    have s0:σ4 0= .box x.cs:=(hag 0 (by omega)).trans hJ.o0
    have s1:σ4 1= .box [.i up]:=(hag 1 (by omega)).trans hJ.o1
    have s2:σ4 2= .box Node.zero.cs:=(hag 2 (by omega)).trans hJ.o2
    have s3:σ4 3= .box [.ref a']:=(hag 3 (by omega)).trans r1
    have s4:σ4 4= .box b'.1.cs:=(hag 4 (by omega)).trans hJ.o4
    have s5:σ4 a'= .arr 10 (nodesT (all++F)):=(hag a' (by omega)).trans r2
    have s6:σ4 (nx+1)= .box x.cs:=(hag (nx+1) (by omega)).trans hJ.p1
    have s7:σ4 (nx+2)= .box n.cs:=(hag (nx+2) (by omega)).trans hJ.p2
    have s8:σ4 (nx+3)=L:=(hag (nx+3) (by omega)).trans hJ.q
    obtain ⟨σ5,hσ5⟩:∃σ5:Nat→AObj,σ5=fun j=>if j=r then AObj.dead else frzO r (ints c.path) (σ4 j):=⟨_,rfl⟩
    have f0:σ5 0= .box x.cs:=by simp [hσ5,show ¬0=r by omega,s0,frzO,frz1,frz1.frzL,Inst.cs]
    have f1:σ5 1= .box [.i up]:=by simp [hσ5,show ¬1=r by omega,s1,frzO,frz1,frz1.frzL]
    have f2:σ5 2= .box Node.zero.cs:=by simp [hσ5,show ¬2=r by omega,s2,frzO,frz1,frz1.frzL,Node.cs]
    have f3:σ5 3= .box [.ref a']:=by simp [hσ5,show ¬3=r by omega,s3,frzO,frz1,frz1.frzL,show ¬a'=r by omega]
    have f4:σ5 4= .box b'.1.cs:=by simp [hσ5,show ¬4=r by omega,s4,frzO,frz1,frz1.frzL,Node.cs]
    have f5:σ5 a'= .arr 10 (nodesT (all++F)):=by simp [hσ5,show ¬a'=r by omega,s5,frzO]
    have f6:σ5 (nx+1)= .box x.cs:=by simp [hσ5,show ¬nx+1=r by omega,s6,frzO,frz1,frz1.frzL,Inst.cs]
    have f7:σ5 (nx+2)= .box n.cs:=by simp [hσ5,show ¬nx+2=r by omega,s7,frzO,frz1,frz1.frzL,Node.cs]
    have f8:σ5 (nx+3)=L:=by simp [hσ5,show ¬nx+3=r by omega,s8,hL,frzO]
    have d0:¬0=nx4:=by omega
    have d1:¬1=nx4:=by omega
    have d2:¬2=nx4:=by omega
    have d3:¬3=nx4:=by omega
    have d4:¬4=nx4:=by omega
    have d5:¬a'=nx4:=by omega
    have d6:¬nx+1=nx4:=by omega
    have d7:¬nx+2=nx4:=by omega
    have d8:¬nx+3=nx4:=by omega
    have hB0:=hB
    by_cases hlt:x.of c<up
    ·refine ⟨oput (oput (oput (oput (oput σ5 nx4 (.box c.cs)) a' .dead) (nx4+1) (.arr 10 (nodesT (all++F)++[c.t]))) 3 (.box [.ref (nx4+1)])) (nx+3) L,nx4+2,?y,?j⟩
     case y=>
      refine yield_of (s8.trans hL) rfl (by rw [hB];rfl) fun B' hB' hnx' hσ'=>?_
      have hL':=hL
      rw [hB] at hL'
      have hB:=hB'.trans hB
      refine K_less ((Imp.freeze (q:=r) (sz:=1) (es:=ints c.path) hr3).trans (Imp.slots (l:=[(3,.ptr 0 0),(5,.ptr 1 0),(9,.ptr 3 0),(52,c.a)]) (by simp [go_sem,roundM,putL,frz1,frz1.frzL,hB0,Node.ra,Node.a,Node.cs]) hσ5 rfl)) ?_
      refine K_run hB 100 ?_
      simp [go_sem,f8,d8,hL,Node.a,Node.cs]
      refine K_run hB 100 ?_
      simp [go_sem]
      refine K_drawn [] rfl (by rw [hB];kernel_rfl) ?_
      refine K_run hB 100 ?_
      simp [go_sem,f0,d0,d8,show ¬nx4=nx+3 by omega,Inst.cs]
      refine K_dCallP rfl rfl rfl (args:=[x.a,c.a]) (f:=39) (by simp [go_sem,Inst.a,Node.a,Node.cs]) (hof) ?_
      refine K_run hB 100 ?_
      simp [go_sem,f1,f3,f5,d1,d3,d5,d8,hlt,hlen,Node.cs,show ¬nx4=nx+3 by omega,show ¬a'=nx+3 by omega,show ¬nx=0 by omega,show ¬nx+3=a' by omega,show ¬nx+3=nx4 by omega,show ¬nx+3=nx4+1 by omega,show ¬nx4=2 by omega,show ¬3=a' by omega,show ¬nx4=nx+2 by omega,f8]
      funext i
      have w1:¬nx=0:=by omega
      have w2:¬a'=nx+3:=by omega
      have w3:¬nx4=nx+3:=by omega
      have w4:¬nx4+1=nx+3:=by omega
      have w6:¬nx4=nx+2:=by omega
      have w7:¬a'=3:=by omega
      have w8:¬a'=nx4+1:=by omega
      by_cases e1:i=nx+3
      ·simp [oput,e1,hL,hB,hB0]
      by_cases e2:i=3
      ·simp [oput,e2,w1]
      by_cases e3:i=nx4+1
      ·simp [oput,e3,w4,w6,Node.t,nodesT]
      by_cases e4:i=a'
      ·simp [oput,e4,w2,w7,w8]
      by_cases e5:i=nx4
      ·simp [oput,e1,e2,e3,e4,e5,w3,Node.cs]
      simp [oput,e1,e2,e3,e4,e5]
     case j=>
      rw [if_pos hlt] at htk
      have v0:∀j,j≤4→j≠3→¬j=a'∧¬j=nx4+1:=by intros;omega
      have w0:¬nx4=0:=by omega
      have w1:¬nx4=1:=by omega
      have w2:¬nx=2:=by omega
      have w3:¬nx=1:=by omega
      have w4:¬nx=nx4:=by omega
      have w5:¬nx=0:=by omega
      have w6:¬nx4=nx+2:=by omega
      have w7:¬nx4=nx+3:=by omega
      have w8:¬nx4=2:=by omega
      have w9:¬nx4=3:=by omega
      have wa:=v0 0 (by omega) (by omega)
      have wb:=v0 1 (by omega) (by omega)
      have wc:=v0 2 (by omega) (by omega)
      have wd:=v0 4 (by omega) (by omega)
      have we:¬nx+1=a':=by omega
      have wf:¬nx+2=a':=by omega
      refine ⟨?_,?_,?_,?_,?_,?_,?_,by omega,⟨nx4+1,?_,?_,by omega,by omega,by omega,by omega,by omega⟩⟩
      ·simp [oput,d0,f0,w0,Inst.cs,wa.1,wa.2,w0,show ¬0=nx4+1 by omega]
      ·simp [oput,d1,f1,wb.1,wb.2,w1,w0]
      ·simp [oput,d2,f2,wc.1,wc.2,w8,Node.cs]
      ·simp [oput,f4,wd.1,wd.2,show ¬4=nx4 by omega,show ¬4=nx4+1 by omega,show ¬4=nx+3 by omega,Node.cs]
      ·simp [oput,d6,f6,we,w2,w4,show ¬nx+1=nx4 by omega,Inst.cs]
      ·simp [oput,d7,f7,wf,show ¬nx+1=nx4 by omega,show ¬nx+2=3 by omega,show ¬nx+2=nx4+1 by omega,Node.cs]
      ·simp [oput]
      ·simp [oput,w5]
      ·rw [htk]
       simp [oput,w6,w8,nodesT]
    ·refine ⟨oput (oput σ5 nx4 (.box c.cs)) (nx+3) L,nx4+1,?y,?j⟩
     case y=>
      refine yield_of (s8.trans hL) rfl (by rw [hB];rfl) fun B' hB' hnx' hσ'=>?_
      have hL':=hL
      rw [hB] at hL'
      have hB:=hB'.trans hB
      refine K_less ((Imp.freeze (q:=r) (sz:=1) (es:=ints c.path) hr3).trans (Imp.slots (l:=[(3,.ptr 0 0),(5,.ptr 1 0),(9,.ptr 3 0),(52,c.a)]) (by simp [go_sem,roundM,putL,frz1,frz1.frzL,hB0,Node.ra,Node.a,Node.cs]) hσ5 rfl)) ?_
      refine K_run hB 100 ?_
      simp [go_sem,f8,d8,hL,Node.a,Node.cs]
      refine K_run hB 100 ?_
      simp [go_sem]
      refine K_drawn [] rfl (by rw [hB];kernel_rfl) ?_
      refine K_run hB 100 ?_
      simp [go_sem,f0,d0,d8,show ¬nx4=nx+3 by omega,Inst.cs]
      refine K_dCallP rfl rfl rfl (args:=[x.a,c.a]) (f:=39) (by simp [go_sem,Inst.a,Node.a,Node.cs]) (hof) ?_
      refine K_run hB 100 ?_
      simp [go_sem,f1,f3,f5,d1,d3,d5,d8,hlt,hlen,Node.cs,show ¬nx4=nx+3 by omega,show ¬a'=nx+3 by omega,show ¬nx=0 by omega,show ¬nx+3=a' by omega,show ¬nx+3=nx4 by omega,show ¬nx+3=nx4+1 by omega,show ¬nx4=2 by omega,show ¬3=a' by omega,show ¬nx4=nx+2 by omega,f8]
      funext i
      have w3:¬nx4=nx+3:=by omega
      by_cases e1:i=nx+3
      ·simp [oput,e1,hL,hB,hB0]
      by_cases e5:i=nx4
      ·simp [oput,e5,w3,Node.cs]
      simp [oput,e1,e5]
     case j=>
      rw [if_neg hlt,List.append_nil] at htk
      have v0:∀j,j≤4→¬j=nx4∧¬j=nx+3:=by intros;omega
      have w0:=v0 0 (by omega)
      have w1:=v0 1 (by omega)
      have w2:=v0 2 (by omega)
      have w3:=v0 3 (by omega)
      have w4:=v0 4 (by omega)
      have we:¬nx+1=nx4:=by omega
      have wf:¬nx+2=nx4:=by omega
      have wg:¬nx=0:=by omega
      have wh:¬a'=nx4:=by omega
      have wi:¬a'=nx+3:=by omega
      refine ⟨?_,?_,?_,?_,?_,?_,?_,by omega,⟨a',?_,?_,by omega,by omega,by omega,by omega,by omega⟩⟩
      ·simp [oput,f0,w0,Inst.cs]
      ·simp [oput,f1,w1,w1.2]
      ·simp [oput,f2,w2,Node.cs]
      ·simp [oput,f4,w4,Node.cs]
      ·simp [oput,f6,we,Inst.cs]
      ·simp [oput,f7,wf,Node.cs]
      ·simp [oput]
      ·simp [oput,f3,w3,wg]
      ·rw [htk]
       simp [oput,f5,wh,wi]
  ·rintro r σ3 nx3 hJ
   refine ⟨hJ.q,?_⟩
   have hle:=hJ.le
   obtain ⟨a',r1,r2,r3,r4,r5,r6,r7⟩:=hJ.row
   rw [List.take_length] at r2
   have hkl:(((x.moves n.s).map (x.child n)).filter fun c=>decide (x.of c<up))=x.kids up n:=rfl
   rw [hkl] at r2
   have hkl2:=kids_33 x up n
   refine K_run hB 100 ?_
   simp [go_sem,hkk]
   refine Next.mk (k+1,all++x.kids up n,b',a',oput σ3 (nx+3) .dead,nx3) ?_ (Imp.slots (by simp [go_sem]) rfl rfl) (by simp only;omega)
   have v0:∀j,j≤4→¬j=nx+3:=by intros;omega
   have w0:=v0 0 (by omega)
   have w1:=v0 1 (by omega)
   have w2:=v0 2 (by omega)
   have w3:¬nx=0:=by omega
   have w4:=v0 4 (by omega)
   have w5:¬a'=nx+3:=by omega
   refine ⟨by simp only;omega,⟨by rw [List.append_assoc];exact g2,by simp only [List.length_append];omega⟩,g3,?_,?_,?_,?_,?_,?_,by simp only;omega,by simp only;omega⟩
   ·simp [oput,w0,hJ.o0]
   ·simp [oput,w1,hJ.o1]
   ·simp [oput,w2,hJ.o2,Node.cs]
   ·simp [oput,w3,r1]
   ·simp [oput,w4,hJ.o4,Node.cs]
   ·simp [oput,w5,r2]
 ·have:k=l.length:=by omega
  subst this
  rw [List.drop_length,List.flatMap_nil,List.append_nil] at g2
  rw [List.drop_length,List.foldl_nil] at g3
  subst g3
  rw [←g2] at hR
  have hfa:∀n∈all,n.Fine:=by
   intro c hc
   rw [g2] at hc
   obtain ⟨n,hn3,hc⟩:=List.mem_flatMap.1 hc
   obtain ⟨hc,-⟩:=List.mem_filter.1 hc
   obtain ⟨j,hj,rfl⟩:=List.mem_map.1 hc
   refine ⟨move_ok x _ (hn n hn3).ok,?_⟩
   have:=hn2 n hn3
   show (n.path++[j]).length<2^31
   rw [List.length_append]
   simp only [List.length_cons,List.length_nil]
   omega
  have hon:=once_pure all (by omega) hfa
  rw [hR] at hon
  refine K_run hB 60 ?_
  simp [go_sem]
  obtain ⟨σ5,hσ5⟩:∃σ5:Nat→AObj,σ5=fun j=>if j=a then AObj.dead else frzO a (nodesT all) (σ j):=⟨_,rfl⟩
  have f0:σ5 0= .box x.cs:=by simp [hσ5,show ¬0=a by omega,h0,frzO,frz1,frz1.frzL,Inst.cs]
  have f2:σ5 2= .box Node.zero.cs:=by simp [hσ5,show ¬2=a by omega,h2,frzO,frz1,frz1.frzL,Node.cs]
  have f3:σ5 3= .box [.t (.sl (nodesT all))]:=by simp [hσ5,show ¬3=a by omega,h3,frzO,frz1,frz1.frzL]
  have f4:σ5 4= .box b.1.cs:=by simp [hσ5,show ¬4=a by omega,h4,frzO,frz1,frz1.frzL,Node.cs]
  refine K_less ((Imp.freeze (q:=a) (sz:=10) (es:=nodesT all) h5).trans (Imp.slots (l:=[(7,.ptr 2 0),(9,.ptr 3 0),(10,.ptr 4 0),(11,.b b.2)]) (by simp [go_sem,frz1,frz1.frzL]) hσ5 rfl)) ?_
  refine K_drawnF [5] [3] rfl (by rw [hB];kernel_rfl) (by kernel_rfl) fun ht hf'=>?_
  refine K_run hB 100 ?_
  simp [go_sem,ht,hf',f3]
  refine K_dCallP rfl rfl rfl (args:=[.t (.sl (nodesT all))]) (f:=105) (by simp [go_sem]) (hon) ?_
  refine K_run hB 100 ?_
  simp [go_sem,ht,hf',f4,f2,Node.cs]
  rfl
end Go.Proofs.YtnoifgjiipgpoaaGreat

set_option maxRecDepth 4000
namespace Go.Proofs.YtnoifgjiipgpoaaGreat
open Go Go.Proofs.YtnoifgjiipgpoaaGreat.R
theorem once1_mem {out:List Node} {n m:Node} (h:m∈once1 out n):m∈out∨m=n:=by
 unfold once1 at h
 split at h
 ·rcases List.mem_append.1 h with h | h
  ·exact .inl h
  ·exact .inr (List.mem_singleton.1 h)
 ·split at h
  ·exact List.mem_or_eq_of_mem_set h
  ·exact .inl h
theorem fold_mem:∀(l out:List Node) {m:Node},m∈l.foldl once1 out→m∈out∨m∈l
 |[],out,m,h=>.inl h
 |n :: l,out,m,h=>by
  rcases fold_mem l (once1 out n) h with h | h
  ·rcases once1_mem h with h | rfl
   ·exact .inl h
   ·exact .inr List.mem_cons_self
  ·exact .inr (List.mem_cons_of_mem _ h)
theorem onceL_mem {l:List Node} {m:Node} (h:m∈onceL l):m∈l:=(fold_mem l [] h).resolve_left (by simp)
theorem fold_len:∀(l out:List Node),(l.foldl once1 out).length≤out.length+l.length
 |[],out=>Nat.le_refl _
 |n :: l,out=>by
  have h1:=fold_len l (once1 out n)
  have h2:=once1_len out n
  simp only [List.foldl_cons,List.length_cons]
  omega
theorem onceL_len (l:List Node):(onceL l).length≤l.length:=by
 have:=fold_len l []
 simpa [onceL] using this
theorem flat_len {α β:Type} (f:α→List β) (k:Nat) (h:∀a,(f a).length≤k):∀l:List α,(l.flatMap f).length≤k*l.length
 |[]=>by simp
 |a :: l=>by
  have h1:=h a
  have h2:=flat_len f k h l
  rw [List.flatMap_cons,List.length_append,List.length_cons,Nat.mul_add]
  omega
theorem next_len (x:Inst) (l:List Node) (up:Int):(x.next l up).length≤33*l.length:=
 Nat.le_trans (onceL_len _) (flat_len _ 33 (kids_33 x up) l)
theorem next_mem {x:Inst} {l:List Node} {up:Int} {m:Node} (h:m∈x.next l up):∃n∈l,∃j∈x.moves n.s,m=x.child n j∧x.of m<up:=by
 obtain ⟨n,hn,hc⟩:=List.mem_flatMap.1 (onceL_mem h)
 obtain ⟨hc,hu⟩:=List.mem_filter.1 hc
 obtain ⟨j,hj,rfl⟩:=List.mem_map.1 hc
 exact ⟨n,hn,j,hj,rfl,by simpa using hu⟩
theorem best_path (x:Inst) (k:Nat):∀(l:List Node) (b:Node×Bool),(∀n∈l,n.path.length≤k)→b.1.path.length≤k→(l.foldl x.best1 b).1.path.length≤k
 |[],b,h,hb=>hb
 |n :: l,b,h,hb=>by
  refine best_path x k l _ (fun m hm=>h m (List.mem_cons_of_mem _ hm)) ?_
  unfold Inst.best1
  split
  ·exact h n List.mem_cons_self
  ·exact hb
theorem bests_path {x:Inst} {k:Nat} {l:List Node} (h:∀n∈l,n.path.length≤k):(x.bests l).1.path.length≤k:=best_path x k l _ h (Nat.zero_le _)
end Go.Proofs.YtnoifgjiipgpoaaGreat

set_option maxRecDepth 4000
namespace Go.Proofs.YtnoifgjiipgpoaaGreat
open Go Go.Proofs.YtnoifgjiipgpoaaGreat.R
theorem fold_nodup:∀(l out:List Node),(out.map Node.s).Nodup→((l.foldl once1 out).map Node.s).Nodup
 |[],_,h=>h
 |n :: l,out,h=>fold_nodup l _ (once1_nodup h n)
theorem onceL_nodup (l:List Node):((onceL l).map Node.s).Nodup:=fold_nodup l [] (by simp)
theorem once1_self (out:List Node) (n:Node):∃m∈once1 out n,m.s=n.s∧m.cost≤n.cost:=by
 unfold once1
 split
 ·exact ⟨n,by simp,rfl,Int.le_refl _⟩
 ·rename_i i e
  obtain ⟨h1,h2⟩:=sIdx_some e
  have hgd:out.getD i n=out[i]:=by rw [List.getD_eq_getElem?_getD,List.getElem?_eq_getElem h1];rfl
  rw [hgd]
  split
  ·exact ⟨n,List.mem_set h1 n,rfl,Int.le_refl _⟩
  ·exact ⟨out[i],List.getElem_mem h1,h2,by omega⟩
theorem once1_has (out:List Node) (n k:Node) (h:∃m∈out,m.s=k.s∧m.cost≤k.cost):∃m∈once1 out n,m.s=k.s∧m.cost≤k.cost:=by
 obtain ⟨m,hm,h1,h2⟩:=h
 unfold once1
 split
 ·exact ⟨m,List.mem_append_left _ hm,h1,h2⟩
 ·rename_i i e
  obtain ⟨h3,h4⟩:=sIdx_some e
  have hgd:out.getD i n=out[i]:=by rw [List.getD_eq_getElem?_getD,List.getElem?_eq_getElem h3];rfl
  rw [hgd]
  split
  ·rename_i hc
   obtain ⟨j,hj,rfl⟩:=List.mem_iff_getElem.1 hm
   by_cases e2:i=j
   ·subst e2
    exact ⟨n,List.mem_set h3 n,by rw [←h4,h1],by omega⟩
   ·refine ⟨out[j],?_,h1,h2⟩
    rw [List.mem_iff_getElem]
    exact ⟨j,by simpa using hj,by rw [List.getElem_set_ne e2]⟩
  ·exact ⟨m,hm,h1,h2⟩
theorem fold_has:∀(l out:List Node) (k:Node),(k∈l∨∃m∈out,m.s=k.s∧m.cost≤k.cost)→∃m∈l.foldl once1 out,m.s=k.s∧m.cost≤k.cost
 |[],out,k,h=>h.resolve_left (by simp)
 |n :: l,out,k,h=>by
  refine fold_has l (once1 out n) k ?_
  rcases h with h | h
  ·rcases List.mem_cons.1 h with rfl | h
   ·exact .inr (once1_self out k)
   ·exact .inl h
  ·exact .inr (once1_has out n k h)
theorem onceL_has {l:List Node} {k:Node} (h:k∈l):∃m∈onceL l,m.s=k.s∧m.cost≤k.cost:=fold_has l [] k (.inl h)
theorem nodup_len {α:Type} [DecidableEq α]:∀(l m:List α),l.Nodup→(∀a∈l,a∈m)→l.length≤m.length
 |[],m,_,_=>Nat.zero_le _
 |a :: l,m,h,hs=>by
  rw [List.nodup_cons] at h
  have ha:=hs a List.mem_cons_self
  have:=nodup_len l (m.erase a) h.2 fun b hb=>by
   have:b≠a:=fun e=>h.1 (e ▸ hb)
   exact (List.mem_erase_of_ne this).2 (hs b (List.mem_cons_of_mem _ hb))
  rw [List.length_erase_of_mem ha] at this
  have:=List.length_pos_of_mem ha
  rw [List.length_cons]
  omega
end Go.Proofs.YtnoifgjiipgpoaaGreat

set_option maxRecDepth 4000
namespace Go.Proofs.YtnoifgjiipgpoaaGreat
open Go Go.Proofs.YtnoifgjiipgpoaaGreat.R
theorem within_refl (s:Nat):withinB s s=true:=by
 rw [withinB,List.all_eq_true]
 intro i _
 cases s.testBit i<;>rfl
theorem within_trans {s t u:Nat} (h1:withinB s t=true) (h2:withinB t u=true):withinB s u=true:=by
 rw [withinB,List.all_eq_true] at *
 intro i hi
 have a:=h1 i hi
 have b:=h2 i hi
 revert a b
 cases s.testBit i<;>cases t.testBit i<;>cases u.testBit i<;>simp
def Node.than (a b:Node):Bool:=decide (a.cost≤b.cost)&&(decide (a.s.must=b.s.must)&&decide (a.s.can=b.s.can)&&decide (a.s.on=b.s.on))&&coversB a.s b.s
theorem covers_refl (s:State):coversB s s=true:=by
 simp [coversB,within_refl]
theorem covers_trans {a b c:State} (h1:coversB a b=true) (h2:coversB b c=true):coversB a c=true:=by
 simp only [coversB,Bool.and_eq_true,decide_eq_true_eq] at *
 obtain ⟨⟨⟨⟨⟨⟨⟨a1,a2⟩,a3⟩,a4⟩,a5⟩,a6⟩,a7⟩,a8⟩:=h1
 obtain ⟨⟨⟨⟨⟨⟨⟨b1,b2⟩,b3⟩,b4⟩,b5⟩,b6⟩,b7⟩,b8⟩:=h2
 exact ⟨⟨⟨⟨⟨⟨⟨a1.trans b1,within_trans a2 b2⟩,within_trans a3 b3⟩,within_trans b4 a4⟩,by omega⟩,by omega⟩,by omega⟩,by omega⟩
theorem than_refl (a:Node):a.than a=true:=by simp [Node.than,covers_refl]
theorem than_trans {a b c:Node} (h1:a.than b=true) (h2:b.than c=true):a.than c=true:=by
 simp only [Node.than,Bool.and_eq_true,decide_eq_true_eq] at *
 obtain ⟨⟨a1,⟨a2,a3⟩,a4⟩,a5⟩:=h1
 obtain ⟨⟨b1,⟨b2,b3⟩,b4⟩,b5⟩:=h2
 exact ⟨⟨by omega,⟨by omega,by omega⟩,by omega⟩,covers_trans a5 b5⟩
def front1 (out:List Node) (b:Node):List Node:=if out.any (fun a=>a.than b)=true then out else (out.filter fun a=>!b.than a)++[b]
def frontL (l:List Node):List Node:=l.foldl front1 []
def blk (pre:List Node) (b:Node) (post:List Node):Bool:=pre.any (fun a=>a.than b)||post.any fun c=>c.than b&& !b.than c
def frR (pre:List Node):List Node→List Node→List Node
 |[],_=>[]
 |b :: l,post=>(if blk pre b (l++post)=true then [] else [b])++frR (pre++[b]) l post
theorem frR_post (c:Node):∀(l pre:List Node),frR pre l [c]=(frR pre l []).filter fun b=>!(c.than b&& !b.than c)
 |[],pre=>rfl
 |b :: l,pre=>by
  rw [frR,frR,List.filter_append,frR_post c l]
  congr 1
  have:blk pre b (l++[c])=(blk pre b (l++[])||(c.than b&& !b.than c)):=by
   simp [blk,Bool.or_assoc]
  rw [this]
  generalize hq:(c.than b&& !b.than c)=q
  cases blk pre b (l++[])<;>cases q<;>simp only [Bool.or_true,Bool.or_false,Bool.false_eq_true,if_true,if_false,List.filter_cons,List.filter_nil,hq,Bool.not_true,Bool.not_false]
theorem frR_app (c:Node):∀(l pre:List Node),frR pre (l++[c]) []=frR pre l [c]++(if (pre++l).any (fun a=>a.than c)=true then [] else [c])
 |[],pre=>by simp [frR,blk]
 |b :: l,pre=>by
  rw [List.cons_append,frR,frR,frR_app c l,List.append_nil,List.append_assoc,List.append_assoc]
  simp
structure FrInv (pre F:List Node):Prop where
 up:∀a∈pre,∃f∈F,f.than a=true
 sub:∀f∈F,f∈pre
 one:∀f∈F,∀b∈F,f.than b=true→f=b
 eq:F=frR [] pre []
theorem FrInv.step {pre F:List Node} (h:FrInv pre F) (c:Node):FrInv (pre++[c]) (front1 F c):=by
 have hany:pre.any (fun a=>a.than c)=F.any fun a=>a.than c:=by
  rw [Bool.eq_iff_iff,List.any_eq_true,List.any_eq_true]
  constructor
  ·rintro ⟨a,ha,hc⟩
   obtain ⟨f,hf,hfa⟩:=h.up a ha
   exact ⟨f,hf,than_trans hfa hc⟩
  ·rintro ⟨f,hf,hc⟩
   exact ⟨f,h.sub f hf,hc⟩
 have he:frR [] (pre++[c]) []=front1 F c:=by
  rw [frR_app,frR_post,←h.eq,List.nil_append,hany]
  unfold front1
  by_cases hc:F.any (fun a=>a.than c)=true
  ·rw [if_pos hc,if_pos hc,List.append_nil]
   rw [List.filter_eq_self]
   intro b hb
   rw [List.any_eq_true] at hc
   obtain ⟨f,hf,hfc⟩:=hc
   cases h1:c.than b with
   |false=>rfl
   |true=>
    have:=h.one f hf b hb (than_trans hfc h1)
    subst this
    simp [hfc]
  ·rw [if_neg hc,if_neg hc]
   congr 1
   refine List.filter_congr fun b hb=>?_
   have:b.than c=false:=by
    cases h1:b.than c with
    |false=>rfl
    |true=>exact absurd (List.any_eq_true.2 ⟨b,hb,h1⟩) hc
   simp [this]
 refine ⟨?_,?_,?_,he.symm⟩
 ·intro a ha
  unfold front1
  split
  ·rename_i hc
   rcases List.mem_append.1 ha with ha | ha
   ·exact h.up a ha
   ·rw [List.mem_singleton.1 ha]
    obtain ⟨f,hf,hfc⟩:=List.any_eq_true.1 hc
    exact ⟨f,hf,hfc⟩
  ·rcases List.mem_append.1 ha with ha | ha
   ·obtain ⟨f,hf,hfa⟩:=h.up a ha
    cases h1:c.than f with
    |true=>exact ⟨c,by simp,than_trans h1 hfa⟩
    |false=>exact ⟨f,List.mem_append_left _ (List.mem_filter.2 ⟨hf,by simp [h1]⟩),hfa⟩
   ·rw [List.mem_singleton.1 ha]
    exact ⟨c,by simp,than_refl c⟩
 ·intro f hf
  unfold front1 at hf
  split at hf
  ·exact List.mem_append_left _ (h.sub f hf)
  ·rcases List.mem_append.1 hf with hf | hf
   ·exact List.mem_append_left _ (h.sub f (List.mem_filter.1 hf).1)
   ·exact List.mem_append_right _ hf
 ·intro f hf b hb hfb
  unfold front1 at hf hb
  split at hf
  ·rename_i hc
   rw [if_pos hc] at hb
   exact h.one f hf b hb hfb
  ·rename_i hc
   rw [if_neg hc] at hb
   rcases List.mem_append.1 hf with hf | hf<;>rcases List.mem_append.1 hb with hb | hb
   ·exact h.one f (List.mem_filter.1 hf).1 b (List.mem_filter.1 hb).1 hfb
   ·rw [List.mem_singleton.1 hb] at hfb
    exact absurd (List.any_eq_true.2 ⟨f,(List.mem_filter.1 hf).1,hfb⟩) hc
   ·rw [List.mem_singleton.1 hf] at hfb
    have:=(List.mem_filter.1 hb).2
    rw [hfb] at this
    cases this
   ·rw [List.mem_singleton.1 hf,List.mem_singleton.1 hb]
theorem FrInv.fold:∀{l pre F:List Node},FrInv pre F→FrInv (pre++l) (l.foldl front1 F)
 |[],pre,F,h=>by rw [List.append_nil];exact h
 |c :: l,pre,F,h=>by
  have:=(h.step c).fold (l:=l)
  rw [List.append_assoc] at this
  exact this
theorem front_inv (l:List Node):FrInv l (frontL l):=by
 have:FrInv [] []:=⟨by simp,by simp,by simp,rfl⟩
 exact this.fold (l:=l)
end Go.Proofs.YtnoifgjiipgpoaaGreat

set_option maxRecDepth 4000
namespace Go.Proofs.YtnoifgjiipgpoaaGreat
open Go Go.Proofs.YtnoifgjiipgpoaaGreat.R
theorem sets_pure (s:State):Pure P 145 [s.a] (.agg [.u s.must,.u s.can,.u s.on]):=by
 refine pure_of Tryz.func145 rfl rfl (by simp [Tryz.f145]) (by simp [bnd,bnd.bndL,State.a,State.cs]) (by simp [bnd,bnd.bndL]) fun B hB hnx=>?_
 simp only [Tryz.f145] at hB ⊢
 refine K_run hB 100 ?_
 simp [go_sem,State.a,State.cs]
theorem sets_guard:P.eqGuardType P.depth 229=false:=by kernel_rfl
theorem than_pure (a b:Node):Pure P 130 [a.a,b.a] (.b (a.than b)):=by
 generalize hR:a.than b=R
 refine pure_of Tryz.func130 rfl rfl (by simp [Tryz.f130]) (by simp [bnd,bnd.bndL,Node.a,Node.cs]) (by simp [bnd,bnd.bndL]) fun B hB hnx=>?_
 simp only [Tryz.f130] at hB ⊢
 have hs1:=sets_pure a.s
 have hs2:=sets_pure b.s
 have hc:=covers_pure a.s b.s
 rw [Node.than] at hR
 refine K_run hB 100 ?_
 simp [go_sem,Node.a,Node.cs]
 refine K_drawn [] rfl (by rw [hB];kernel_rfl) ?_
 by_cases c1:a.cost≤b.cost
 ·rw [decide_eq_true c1,Bool.true_and] at hR
  refine K_run hB 100 ?_
  simp [go_sem,c1]
  refine K_dCallP rfl rfl rfl (args:=[a.s.a]) (f:=145) (by simp [go_sem,State.a,State.cs]) (hs1) ?_
  refine K_run hB 100 ?_
  simp [go_sem]
  refine K_dCallP rfl rfl rfl (args:=[b.s.a]) (f:=145) (by simp [go_sem,State.a,State.cs]) (hs2) ?_
  refine K_run hB 100 ?_
  simp [go_sem]
  refine K_dEq3 (x:=.tmp 13) (y:=.tmp 16) (a:=a.s.must) (b:=a.s.can) (c:=a.s.on) (a':=b.s.must) (b':=b.s.can) (c':=b.s.on) rfl rfl (by simp [go_sem]) (by simp [go_sem]) sets_guard (e:=50) (by kernel_rfl) (Option.some_get (show (P.info? 50).isSome=true by kernel_rfl)).symm (by kernel_rfl) (by kernel_rfl) (by kernel_rfl) ?_
  have he:(((a.s.must:Int)==(b.s.must:Int))&&(((a.s.can:Int)==(b.s.can:Int))&&((a.s.on:Int)==(b.s.on:Int))))=(decide (a.s.must=b.s.must)&&decide (a.s.can=b.s.can)&&decide (a.s.on=b.s.on)):=by
   rw [Bool.eq_iff_iff]
   simp only [Bool.and_eq_true,beq_iff_eq,decide_eq_true_eq,and_assoc]
   omega
  rw [he]
  cases c2:(decide (a.s.must=b.s.must)&&decide (a.s.can=b.s.can)&&decide (a.s.on=b.s.on)) with
  |false=>
   rw [c2,Bool.false_and] at hR
   subst hR
   refine K_run hB 100 ?_
   simp [go_sem]
  |true=>
   rw [c2,Bool.true_and] at hR
   rw [hR] at hc
   refine K_run hB 100 ?_
   simp [go_sem]
   refine K_dCallP rfl rfl rfl (args:=[a.s.a,b.s.a]) (f:=95) (by simp [go_sem,State.a,State.cs]) (hc) ?_
   refine K_run hB 100 ?_
   simp [go_sem]
 ·rw [decide_eq_false c1,Bool.false_and] at hR
  subst hR
  refine K_run hB 100 ?_
  simp [go_sem,c1]
theorem front1_spec (a b:Node) {σ:Nat→AObj} {nx q:Nat} (hq:q<nx) (hb:σ q= .box b.cs):CallSpec P 129 [a.a,.ptr q 0] σ nx (.b (a.than b)) σ nx:=by
 have hth:=than_pure a b
 have e:σ=oput σ q (σ q):=by funext i;by_cases h:i=q<;>simp [oput,h]
 have h:CallSpec P 129 [a.a,.ptr q 0] σ nx (.b (a.than b)) (oput σ q (σ q)) nx:=by
  refine spec_down Tryz.func129 rfl rfl (by simp [Tryz.f129]) hq (by rw [hb];simp [bndO,bnd,bnd.bndL,Node.cs]) (by simp [bnd]) fun hk B hB hnx hσ=>?_
  simp only [Tryz.f129] at hB ⊢
  have hne:¬q=nx:=by omega
  refine K_run hB 100 ?_
  simp [go_sem,Node.a,Node.cs,hb,hne]
  refine K_call rfl rfl rfl (args:=[a.a,b.a]) (f:=130) (by simp [go_sem,Node.a,Node.cs]) (by simp [go_sem,hB]) ((hth).spec _ _) ?_
  refine K_run hB 100 ?_
  simp [go_sem]
  exact ⟨by simp [hne,hb,Node.cs],fun i h1 h2 h3=>by omega⟩
 rw [←e] at h
 exact h
theorem front2_spec (a b:Node) {σ:Nat→AObj} {nx q:Nat} (hq:q<nx) (hb:σ q= .box b.cs):CallSpec P 132 [a.a,.ptr q 0] σ nx (.b (b.than a)) σ nx:=by
 have hth:=than_pure b a
 have e:σ=oput σ q (σ q):=by funext i;by_cases h:i=q<;>simp [oput,h]
 have h:CallSpec P 132 [a.a,.ptr q 0] σ nx (.b (b.than a)) (oput σ q (σ q)) nx:=by
  refine spec_down Tryz.func132 rfl rfl (by simp [Tryz.f132]) hq (by rw [hb];simp [bndO,bnd,bnd.bndL,Node.cs]) (by simp [bnd]) fun hk B hB hnx hσ=>?_
  simp only [Tryz.f132] at hB ⊢
  have hne:¬q=nx:=by omega
  refine K_run hB 100 ?_
  simp [go_sem,Node.a,Node.cs,hb,hne]
  refine K_call rfl rfl rfl (args:=[b.a,a.a]) (f:=130) (by simp [go_sem,Node.a,Node.cs]) (by simp [go_sem,hB]) ((hth).spec _ _) ?_
  refine K_run hB 100 ?_
  simp [go_sem]
  exact ⟨by simp [hne,hb,Node.cs],fun i h1 h2 h3=>by omega⟩
 rw [←e] at h
 exact h
def idxF (p:Node→Bool):Nat→List Node→Int
 |_,[]=>-1
 |i,n :: l=>if p n=true then (i:Int) else idxF p (i+1) l
theorem idxF_any (p:Node→Bool):∀(i:Nat) (l:List Node),(0≤idxF p i l)↔l.any p=true
 |_,[]=>by simp [idxF]
 |i,n :: l=>by
  rw [idxF,List.any_cons]
  cases h:p n with
  |true=>simp
  |false=>simp [idxF_any p (i+1) l]
theorem indexF_spec (F:List Node) (p:Node→Bool) {σ:Nat→AObj} {nx r q:Nat} {f:FuncId} (hr:σ r= .arr 10 (nodesT F)) (hF:F.length<2^31) (hf:∀n,CallSpec P f [n.a,.ptr q 0] σ nx (.b (p n)) σ nx):
  CallSpec P 144 [.ref r,.fn (.func f) [] [.ptr q 0]] σ nx (.i (idxF p 0 F)) σ nx:=by
 generalize hR:idxF p 0 F=R
 refine CallQ.spec (spec_of Tryz.func144 rfl rfl (by simp [Tryz.f144]) fun B hB hnx hσ=>?_)
 simp only [Tryz.f144] at hB ⊢
 have hil:(nodesT F).length=F.length:=List.length_map _
 have hgt:∀(k:Nat) (h:k<F.length),(nodesT F)[k]'(by rw [hil];exact h)=F[k].t:=fun k h=>nodesT_get F h
 refine K_run hB 100 ?_
 simp [go_sem,hr,hil]
 refine K_loopP (α:=Nat) (fun k=>k≤F.length∧idxF p k (F.drop k)=R) (fun k=>⟨sl [(1,.fn (.func f) [] [.ptr q 0]),(0,.ref r),(7,.i F.length),(8,.i k)],σ,nx⟩) (fun k=>F.length-k) 0 ⟨Nat.zero_le _,hR⟩ (Imp.slots (by simp [go_sem]) rfl rfl) ?_
 rintro k ⟨g1,g2⟩
 refine K_run hB 60 ?_
 simp [go_sem]
 refine fork_dec (fun hk=>?_) (fun hk=>?_)
 ·have hkk:IntKind.i64.wrap ((k:Int)+1)=((k+1:Nat):Int):=by rw [w64 ((k:Int)+1) (by omega)];rfl
  have hget:∀h:k<(nodesT F).length,(nodesT F)[k]'h=F[k].t:=fun h=>hgt k hk
  rw [List.drop_eq_getElem_cons hk,idxF] at g2
  generalize F[k]=n at *
  have hp:=hf n
  have q1:k*10 / 10=k:=by omega
  have q4:k*10 % 10=0:=by omega
  simp [go_sem,hr,hil,hk,hget,q1,q4,Node.t]
  refine K_call rfl rfl rfl (args:=[n.a,.ptr q 0]) (f:=f) (by simp [go_sem,Node.a,Node.cs]) (by simp [go_sem,hB]) hp ?_
  cases h:p n with
  |true=>
   rw [h,if_pos rfl] at g2
   subst g2
   refine K_run hB 100 ?_
   simp [go_sem]
  |false=>
   rw [h,if_neg (by simp)] at g2
   refine K_run hB 100 ?_
   simp [go_sem,hkk]
   exact Next.mk (k+1) ⟨by omega,g2⟩ (Imp.slots (by simp [go_sem]) rfl rfl) (by omega)
 ·have:k=F.length:=by omega
  subst this
  rw [List.drop_length,idxF] at g2
  subst g2
  simp [go_sem]
theorem containsF_spec (F:List Node) (p:Node→Bool) {σ:Nat→AObj} {nx r q:Nat} {f:FuncId} (hr:σ r= .arr 10 (nodesT F)) (hF:F.length<2^31) (hf:∀n,CallSpec P f [n.a,.ptr q 0] σ nx (.b (p n)) σ nx):
  CallSpec P 128 [.ref r,.fn (.func f) [] [.ptr q 0]] σ nx (.b (F.any p)) σ nx:=by
 have hi:=indexF_spec F p hr hF hf
 have ha:=idxF_any p 0 F
 refine CallQ.spec (spec_of Tryz.func128 rfl rfl (by simp [Tryz.f128]) fun B hB hnx hσ=>?_)
 simp only [Tryz.f128] at hB ⊢
 generalize idxF p 0 F=i at *
 refine K_run hB 100 ?_
 simp [go_sem]
 refine K_call rfl rfl rfl (args:=[.ref r,.fn (.func f) [] [.ptr q 0]]) (f:=144) (by simp [go_sem]) (by simp [go_sem,hB]) hi ?_
 refine K_run hB 100 ?_
 simp [go_sem]
 rw [Bool.eq_iff_iff,decide_eq_true_eq]
 exact ha
end Go.Proofs.YtnoifgjiipgpoaaGreat

set_option maxRecDepth 4000
namespace Go.Proofs.YtnoifgjiipgpoaaGreat
open Go Go.Proofs.YtnoifgjiipgpoaaGreat.R
theorem idxF_cases (p:Node→Bool):∀(i:Nat) (l:List Node),(idxF p i l= -1∧l.filter (fun n=>!p n)=l)∨∃k,∃h:k<l.length,idxF p i l=((i+k:Nat):Int)∧p l[k]=true∧(l.take k).filter (fun n=>!p n)=l.take k
 |i,[]=>.inl ⟨rfl,rfl⟩
 |i,n :: l=>by
  rw [idxF]
  cases h:p n with
  |true=>exact .inr ⟨0,by simp,by simp,by simpa using h,by simp⟩
  |false=>
   simp only [Bool.false_eq_true,if_false]
   rcases idxF_cases p (i+1) l with ⟨h1,h2⟩ | ⟨k,hk,h1,h2,h3⟩
   ·exact .inl ⟨h1,by rw [List.filter_cons,h];simp [h2]⟩
   ·exact .inr ⟨k+1,by simpa using hk,by rw [h1];congr 1;omega,by simpa using h2,by rw [List.take_succ_cons,List.filter_cons,h];simp [h3]⟩
theorem deleteF_spec (F:List Node) (p:Node→Bool) {σ:Nat→AObj} {nx r q:Nat} {f:FuncId} (hr:σ r= .arr 10 (nodesT F)) (hrn:r<nx) (hq:q<nx) (hrq:q≠r) (hF:F.length<2^31) (hf:∀n σ' nx',σ' q=σ q→nx≤nx'→CallSpec P f [n.a,.ptr q 0] σ' nx' (.b (p n)) σ' nx'):
  CallQ P 131 [.ref r,.fn (.func f) [] [.ptr q 0]] σ nx fun v σ' nx'=>∃g,v= .ref g∧σ' g= .arr 10 (nodesT (F.filter fun n=>!p n))∧nx≤nx'∧g<nx'∧(g=r∨nx≤g)∧∀i,i<nx→i≠r→σ' i=σ i:=by
 have hi:=indexF_spec F p (q:=q) hr hF fun n=>hf n σ nx rfl (Nat.le_refl _)
 have hc:=idxF_cases p 0 F
 refine spec_of Tryz.func131 rfl rfl (by simp [Tryz.f131]) fun B hB hnx hσ=>?_
 simp only [Tryz.f131] at hB ⊢
 refine K_run hB 100 ?_
 simp [go_sem]
 refine K_call rfl rfl rfl (args:=[.ref r,.fn (.func f) [] [.ptr q 0]]) (f:=144) (by simp [go_sem]) (by simp [go_sem,hB]) hi ?_
 rcases hc with ⟨h1,h2⟩ | ⟨k,hk,h1,h2,h3⟩
 ·rw [h1,h2]
  refine K_run hB 100 ?_
  simp [go_sem]
  exact ⟨hr,hrn⟩
 ·rw [Nat.zero_add] at h1
  rw [h1]
  have hkk:IntKind.i64.wrap ((k:Int)+1)=((k+1:Nat):Int):=by rw [w64 ((k:Int)+1) (by omega)];rfl
  have hk1:¬(k:Int)= -1:=by omega
  refine K_run hB 100 ?_
  simp [go_sem,hkk,hk1]
  refine K_loopP (α:=Nat×Nat×List Node×(Nat→AObj)×Nat) (fun (j,i,X,σ1,n1)=>j≤F.length∧i<j∧X.length=F.length∧X.take i=(F.take j).filter (fun n=>!p n)∧X.drop j=F.drop j∧σ1 r= .arr 10 (nodesT X)∧nx≤n1∧∀a,a<nx→a≠r→σ1 a=σ a)
   (fun (j,i,X,σ1,n1)=>⟨sl [(0,.ref r),(1,.fn (.func f) [] [.ptr q 0]),(5,.i i),(6,.i j)],σ1,n1⟩) (fun a=>F.length-a.1) (k+1,k,F,σ,nx) ?_ (Imp.slots (by simp [go_sem]) rfl rfl) ?_
  ·refine ⟨by omega,by omega,rfl,?_,rfl,hr,Nat.le_refl _,fun a _ _=>rfl⟩
   rw [List.take_succ_eq_append_getElem hk,List.filter_append,h3]
   simp [h2]
  rintro ⟨j,i,X,σ1,n1⟩ ⟨g1,g2,g3,g4,g5,g6,g7,g8⟩
  have hil:(nodesT X).length=X.length:=List.length_map _
  refine K_run hB 60 ?_
  simp [go_sem,g6,hil,g3]
  refine fork_dec (fun hj=>?_) (fun hj=>?_)
  ·have hjj:IntKind.i64.wrap ((j:Int)+1)=((j+1:Nat):Int):=by rw [w64 ((j:Int)+1) (by omega)];rfl
   have hii:IntKind.i64.wrap ((i:Int)+1)=((i+1:Nat):Int):=by rw [w64 ((i:Int)+1) (by omega)];rfl
   have hjX:j<X.length:=by omega
   have hXj:X[j]=F[j]:=by
    have e1:=List.drop_eq_getElem_cons hjX
    have e2:=List.drop_eq_getElem_cons hj
    rw [g5,e2] at e1
    exact (List.cons.inj e1).1.symm
   have hget:∀h:j<(nodesT X).length,(nodesT X)[j]'h=F[j].t:=fun h=>by rw [nodesT_get X hjX,hXj]
   have htk:=List.take_succ_eq_append_getElem hj
   have hdr:X.drop (j+1)=F.drop (j+1):=by
    have e1:=List.drop_eq_getElem_cons hjX
    have e2:=List.drop_eq_getElem_cons hj
    rw [g5,e2] at e1
    exact (List.cons.inj e1).2.symm
   generalize F[j]=m at *
   have q1:j*10 / 10=j:=by omega
   have q4:j*10 % 10=0:=by omega
   have hrn1:¬r=n1:=by omega
   have hqn1:¬q=n1:=by omega
   have hiX:i<X.length:=by omega
   have hgi:∀h:i<(nodesT X).length,(nodesT X)[i]'h=X[i].t:=fun h=>nodesT_get X hiX
   have hiF:i<F.length:=by omega
   have q5:i*10 / 10=i:=by omega
   have q6:i*10 % 10=0:=by omega
   have hσq:(oput (oput σ1 n1 (.box [.i 0,.i 0,.i 0,.i 0,.i 0,.u 0,.u 0,.u 0,.i 0,.fsl []])) n1 (.box m.cs)) q=σ q:=by simp [oput,hqn1,g8 q hq hrq]
   have hfm:=hf m _ (n1+1) hσq (by omega)
   simp [go_sem,g6,hil,hj,hjX,hget,q1,q4,Node.t,g3]
   refine K_call rfl rfl rfl (args:=[m.a,.ptr q 0]) (f:=f) (by simp [go_sem,Node.a,Node.cs]) (by simp [go_sem,hB]) (hf m _ _ (by simp [oput,hqn1,g8 q hq hrq]) (by simp only;omega)) ?_
   cases h:p m with
   |true=>
    refine K_run hB 100 ?_
    simp [go_sem,hjj]
    refine Next.mk (j+1,i,X,_,n1+1) ?_ (Imp.slots (by simp [go_sem]) rfl rfl) (by simp only;omega)
    refine ⟨by simp only;omega,by simp only;omega,g3,?_,hdr,?_,by simp only;omega,fun a h1 h2=>?_⟩
    ·rw [htk,List.filter_append,g4];simp [h]
    ·simp [oput,hrn1,g6]
    ·simp [oput,show ¬a=n1 by omega,g8 a h1 h2]
   |false=>
    refine K_run hB 100 ?_
    simp [go_sem,hjj,hii,g6,hil,g3,hrn1,hiF,hiX,hgi,q5,q6,Node.t]
    refine Next.mk (j+1,i+1,X.set i m,_,n1+1) ?_ (Imp.slots (by simp [go_sem]) rfl rfl) (by simp only;omega)
    refine ⟨by simp only;omega,by simp only;omega,by simp only [List.length_set];exact g3,?_,?_,?_,by simp only;omega,fun a h1 h2=>?_⟩
    ·rw [htk,List.filter_append,←g4,List.take_succ_eq_append_getElem (by rw [List.length_set];exact hiX),List.take_set,List.set_eq_of_length_le (by rw [List.length_take];omega)]
     simp [h]
    ·rw [List.drop_set_of_lt (by omega)];exact hdr
    ·simp [oput,nodesT,Node.t,List.map_set]
    ·simp [oput,h2,show ¬a=n1 by omega,g8 a h1 h2]
  ·have:j=F.length:=by omega
   subst this
   rw [List.take_length] at g4
   have hz0:∀es:List (List T),∀z,((nodesT X).take i++List.replicate ((nodesT X).length-i) z).take i=(nodesT X).take i:=fun _ z=>by rw [List.take_append_of_le_length (by rw [List.length_take];omega),List.take_take,Nat.min_self]
   simp [go_sem]
   refine K_clear (ik:=.i64) (x:=.tmp 36) (ix:=.tmp 37) (d1:=38) (q:=r) (n:=i) (es:=nodesT X) (z:=[.i 0,.i 0,.i 0,.i 0,.i 0,.v (.int .u64 0),.v (.int .u64 0),.v (.int .u64 0),.i 0,.sl []]) rfl rfl rfl rfl rfl rfl rfl rfl (by simp [go_sem,hB]) rfl tt63 rfl tt69 rfl (by simp [go_sem]) g6 (by simp [go_sem]) (by omega) (by omega) ?_
   refine K_run hB 100 ?_
   simp [go_sem]
   have hlen2:((nodesT X).take i++List.replicate ((nodesT X).length-i) ([.i 0,.i 0,.i 0,.i 0,.i 0,.v (.int .u64 0),.v (.int .u64 0),.v (.int .u64 0),.i 0,.sl []]:List T)).length=F.length:=by rw [List.length_append,List.length_take,List.length_replicate];omega
   refine K_front (ik:=.i64) (x:=.tmp 39) (ix:=.tmp 40) (q:=r) (n:=i) (sz:=10) rfl rfl (by simp [go_sem,hB]) tt63 rfl tt69 (by simp [go_sem]) (by simp [oput];rfl) (by simp [go_sem]) (by rw [hlen2];omega) (by rw [hlen2];omega) ?_
   rw [hz0 [] _]
   have hti:(nodesT X).take i=nodesT (X.take i):=by simp [nodesT,List.map_take]
   rw [hti,g4]
   refine K_run hB 100 ?_
   simp [go_sem]
   refine ⟨by omega,by omega,fun a h1 h2=>?_⟩
   simp [h2,show ¬a=n1 by omega,g8 a h1 h2]
end Go.Proofs.YtnoifgjiipgpoaaGreat

set_option maxRecDepth 4000
namespace Go.Proofs.YtnoifgjiipgpoaaGreat
open Go Go.Proofs.YtnoifgjiipgpoaaGreat.R
theorem front1_len (out:List Node) (b:Node):(front1 out b).length≤out.length+1:=by
 unfold front1
 split
 ·omega
 ·have:=List.length_filter_le (fun a=>!b.than a) out
  rw [List.length_append,List.length_cons,List.length_nil]
  omega
theorem front_pure (l:List Node) (hl:l.length<2^31) (hn:∀n∈l,n.path.length<2^31):Pure P 112 [.t (.sl (nodesT l))] (.t (.sl (nodesT (frontL l)))):=by
 generalize hR:frontL l=R
 refine pure_of Tryz.func112 rfl rfl (by simp [Tryz.f112]) (by simp [bnd,bnd.bndL]) (by simp [bnd,bnd.bndL]) fun B hB hnx=>?_
 simp only [Tryz.f112] at hB ⊢
 have hil:(nodesT l).length=l.length:=List.length_map _
 have hgt:∀(k:Nat) (h:k<l.length),(nodesT l)[k]'(by rw [hil];exact h)=l[k].t:=fun k h=>nodesT_get l h
 generalize hX:nodesT l=X at *
 have hmost:mostLen=4294967296:=rfl
 rw [frontL] at hR
 refine K_run hB 100 ?_
 simp [go_sem,hil]
 refine K_own 3 10 (by simp [go_sem]) ?_
 refine K_loopP (α:=Nat×List Node×Nat×(Nat→AObj)×Nat) (fun (k,out,a,σ,nx)=>k≤l.length∧(l.drop k).foldl front1 out=R∧out.length≤k∧σ a= .arr 10 (nodesT out)∧a<nx)
  (fun (k,out,a,σ,nx)=>⟨sl [(3,.ref a),(6,.t (.sl X)),(7,.i l.length),(8,.i k)],σ,nx⟩) (fun a=>l.length-a.1) (0,[],0,_,1) ?_ (Imp.slots (by simp [go_sem,hil]) rfl rfl) ?_
 ·exact ⟨Nat.zero_le _,hR,Nat.le_refl _,by simp [oput,nodesT],by omega⟩
 rintro ⟨k,out,a,σ,nx⟩ ⟨g1,g2,g3,g4,g5⟩
 refine K_run hB 60 ?_
 simp [go_sem]
 refine fork_dec (fun hk=>?_) (fun hk=>?_)
 ·have hkk:IntKind.i64.wrap ((k:Int)+1)=((k+1:Nat):Int):=by rw [w64 ((k:Int)+1) (by omega)];rfl
  have hget:∀h:k<X.length,X[k]'h=l[k].t:=fun h=>hgt k hk
  rw [List.drop_eq_getElem_cons hk,List.foldl_cons] at g2
  have hpath:=hn l[k] (List.getElem_mem _)
  generalize l[k]=m at *
  have hcl:=clone_spec m.path (by omega)
  have hfr:front1 out m=if out.any (fun a=>a.than m)=true then out else (out.filter fun a=>!m.than a)++[m]:=rfl
  have hfl:=front1_len out m
  have ha:¬a=nx:=by omega
  simp [go_sem,hil,hk,hget,Node.t]
  refine K_call rfl rfl rfl (args:=[.ref a,.fn (.func 129) [] [.ptr nx 0]]) (f:=128) (by simp [go_sem]) (by simp [go_sem,hB]) (containsF_spec out (fun c=>c.than m) (by simp [oput,ha,g4]) (by omega) fun c=>front1_spec c m (by simp only;omega) (by simp [oput,Node.cs])) ?_
  cases hany:out.any (fun c=>c.than m) with
  |true=>
   rw [hany,if_pos rfl] at hfr
   rw [hfr] at g2
   refine K_run hB 100 ?_
   simp [go_sem,hkk]
   exact Next.mk (k+1,out,a,_,nx+1) ⟨by simp only;omega,g2,by simp only;omega,by simp [oput,ha,g4],by simp only;omega⟩ (Imp.slots (by simp [go_sem]) rfl rfl) (by simp only;omega)
  |false=>
   rw [hany,if_neg (by simp)] at hfr
   rw [hfr] at g2 hfl
   refine K_run hB 100 ?_
   simp [go_sem]
   refine K_callQ rfl rfl rfl (args:=[.ref a,.fn (.func 132) [] [.ptr nx 0]]) (f:=131) (by simp [go_sem]) (by simp [go_sem,hB]) (deleteF_spec out (fun c=>m.than c) (by simp [oput,ha,g4]) (by simp only;omega) (by simp only;omega) (by omega) (by omega) fun c σ' nx' h1 h2=>front2_spec c m (by simp only at h2;omega) (by rw [h1];simp [oput,Node.cs])) ?_
   rintro v σ2 n2 ⟨g,rfl,d1,d2,d3,d4,d5⟩
   have e1:σ2 nx= .box m.cs:=by rw [d5 nx (by simp only;omega) (by omega)];simp [oput,Node.cs]
   simp only at d2 d4
   have hgn:¬g=nx:=by omega
   generalize (out.filter fun c=>!m.than c)=O at *
   refine K_run hB 100 ?_
   simp [go_sem,e1,Node.cs]
   refine K_call rfl rfl rfl (args:=[.t (.sl (ints m.path))]) (f:=100) (by simp [go_sem]) (by simp [go_sem,hB]) (hcl _ _) ?_
   obtain ⟨σ5,hσ5⟩:∃σ5:Nat→AObj,σ5=fun j=>if j=n2 then AObj.dead else frzO n2 (ints m.path) (oput σ2 n2 (.arr 1 (ints m.path)) j):=⟨_,rfl⟩
   have f1:σ5 nx= .box m.cs:=by simp [hσ5,oput,show ¬nx=n2 by omega,e1,frzO,frz1,frz1.frzL,Node.cs]
   have f2:σ5 g= .arr 10 (nodesT O):=by simp [hσ5,oput,show ¬g=n2 by omega,d1,frzO]
   have hlO:(nodesT O).length=O.length:=List.length_map _
   have hcap:O.length+1≤mostLen:=by rw [List.length_append,List.length_cons,List.length_nil] at hfl;omega
   refine K_imp ((Imp.freeze (q:=n2) (sz:=1) (es:=ints m.path) (by simp [oput])).trans (Imp.slots (l:=[(3,.ref g),(5,.ptr nx 0),(6,.t (.sl X)),(7,.i l.length),(8,.i k),(20,.t (.sl (ints m.path)))]) (by simp [go_sem,frz1,frz1.frzL,show ¬g=n2 by omega]) hσ5 rfl)) ?_
   refine K_run hB 100 ?_
   simp [go_sem,f1,f2,Node.cs,hgn,hlO,hcap,hkk]
   refine Next.mk (k+1,O++[m],n2+1,_,n2+2) ?_ (Imp.slots (by simp [go_sem]) rfl rfl) (by simp only;omega)
   refine ⟨by simp only;omega,g2,by simp only;omega,?_,by simp only;omega⟩
   simp [oput,nodesT,Node.t]
 ·have:k=l.length:=by omega
  subst this
  rw [List.drop_length,List.foldl_nil] at g2
  subst g2
  simp [go_sem,g4]
end Go.Proofs.YtnoifgjiipgpoaaGreat

set_option maxRecDepth 4000
set_option maxHeartbeats 1000000
namespace Go.Proofs.YtnoifgjiipgpoaaGreat
open Go Go.Proofs.YtnoifgjiipgpoaaGreat.R
def Inst.sortN (x:Inst) (l:List Node):List Node:=isort x.of l
def Inst.keyT (x:Inst) (n:Node):List T:=n.t++[.i (x.of n)]
theorem Inst.keys_sort (x:Inst) (l:List Node):isort κr (l.map x.keyT)=(x.sortN l).map x.keyT:=by
 rw [←isort_map (κ:=κr) x.keyT l]
 congr 2
theorem Inst.sortN_len (x:Inst) (l:List Node):(x.sortN l).length=l.length:=isort_len l
theorem Inst.sortN_mem {x:Inst} {l:List Node} {n:Node}:n∈x.sortN l↔n∈l:=isort_mem
theorem sorted1_spec (x:Inst) (n:Node) (hl:x.stops.length<2^31) (ho:n.s.ok) {σ:Nat→AObj} {nx q:Nat} (hq:q<nx) (hb:σ q= .box x.cs):CallSpec P 107 [n.a,.ptr q 0] σ nx (.i (x.of n)) σ nx:=by
 have hth:=of_pure x n hl ho
 have e:σ=oput σ q (σ q):=by funext i;by_cases h:i=q<;>simp [oput,h]
 have h:CallSpec P 107 [n.a,.ptr q 0] σ nx (.i (x.of n)) (oput σ q (σ q)) nx:=by
  refine spec_down Tryz.func107 rfl rfl (by simp [Tryz.f107]) hq (by rw [hb];simp [bndO,bnd,bnd.bndL,Inst.cs]) (by simp [bnd]) fun hk B hB hnx hσ=>?_
  simp only [Tryz.f107] at hB ⊢
  have hne:¬q=nx:=by omega
  refine K_run hB 100 ?_
  simp [go_sem,Node.a,Node.cs,hb,hne,Inst.cs]
  refine K_call rfl rfl rfl (args:=[x.a,n.a]) (f:=39) (by simp [go_sem,Inst.a,Node.a,Node.cs]) (by simp [go_sem,hB]) ((hth).spec _ _) ?_
  refine K_run hB 100 ?_
  simp [go_sem]
  exact ⟨by simp [hne,hb,Inst.cs],fun i h1 h2 h3=>by omega⟩
 rw [←e] at h
 exact h
theorem sortedF_spec (x:Inst) (l:List Node) (hx:x.stops.length<2^31) (hl:l.length<2^31) (ho:∀n∈l,n.s.ok) {σ:Nat→AObj} {nx q:Nat} (hq:q<nx) (hb:σ q= .box x.cs):
  CallSpec P 106 [.t (.sl (nodesT l)),.fn (.func 107) [] [.ptr q 0]] σ nx (.t (.sl (nodesT (x.sortN l)))) (oput σ q (.box x.cs)) nx:=by
 refine spec_down Tryz.func106 rfl rfl (by simp [Tryz.f106]) hq (by simp [bndO,bnd,bnd.bndL,Inst.cs]) (by simp [bnd,bnd.bndL]) fun hk0 B hB hnx hσ=>?_
 simp only [Tryz.f106] at hB ⊢
 refine K_after ?_
 generalize hpost:(fun (e:Exit) (s:St)=>∃t,Imp B s t∧_)=post
 have hil:(nodesT l).length=l.length:=List.length_map _
 have hgt:∀(k:Nat) (h:k<l.length),(nodesT l)[k]'(by rw [hil];exact h)=l[k].t:=fun k h=>nodesT_get l h
 generalize hX:nodesT l=X at *
 have hmost:mostLen=4294967296:=rfl
 obtain ⟨K,hK⟩:∃K,K=l.map x.keyT:=⟨_,rfl⟩
 have hKl:K.length=l.length:=by rw [hK,List.length_map]
 refine K_run hB 100 ?_
 simp [go_sem,hil]
 refine K_own 5 11 (by simp [go_sem]) ?_
 refine K_loopP (α:=Nat×Nat×(Nat→AObj)×Nat) (fun (k,a,σ',ny)=>k≤l.length∧σ' a= .arr 11 (K.take k)∧nx≤a∧a<ny∧σ' q= .box x.cs∧∀i,i<nx→i≠q→σ' i=σ i)
  (fun (k,a,σ',ny)=>⟨sl [(1,.fn (.func 107) [] [.ptr q 0]),(5,.ref a),(11,.t (.sl X)),(12,.i l.length),(13,.i k)],σ',ny⟩) (fun a=>l.length-a.1) (0,nx,_,nx+1) ?_ (Imp.slots (by simp [go_sem,hil]) rfl rfl) ?_
 ·exact ⟨Nat.zero_le _,by simp [oput],Nat.le_refl _,by omega,by simp [oput,show ¬q=nx by omega,hb],fun i h1 h2=>by simp [oput,show ¬i=nx by omega]⟩
 rintro ⟨k,a,σ',ny⟩ ⟨g1,g2,g3,g4,g5,g6⟩
 refine K_run hB 60 ?_
 simp [go_sem]
 refine fork_dec (fun hk=>?_) (fun hk=>?_)
 ·have hkk:IntKind.i64.wrap ((k:Int)+1)=((k+1:Nat):Int):=by rw [w64 ((k:Int)+1) (by omega)];rfl
  have hget:∀h:k<X.length,X[k]'h=l[k].t:=fun h=>hgt k hk
  have hmem:=ho l[k] (List.getElem_mem _)
  have htk:K.take (k+1)=K.take k++[x.keyT l[k]]:=by rw [List.take_add_one,List.getElem?_eq_getElem (by omega)];simp [hK]
  have hkl:(K.take k).length=k:=by rw [List.length_take];omega
  generalize K.take k=Kk at *
  generalize l[k]=n at *
  have ha:¬a=ny:=by omega
  have hqn:¬q=ny:=by omega
  have hs1:=fun σ'' (h:σ'' q= .box x.cs)=>sorted1_spec x n hx hmem (σ:=σ'') (nx:=ny+1) (q:=q) (by omega) h
  have hcap:k+1≤mostLen:=by omega
  simp [go_sem,hil,hk,hget,Node.t]
  refine K_drawnF [4,7] [0,1] rfl (by rw [hB];kernel_rfl) (by kernel_rfl) fun ht hf'=>?_
  refine K_run hB 4 ?_
  simp [go_sem,ht,hf',Node.cs]
  refine K_dCall rfl rfl rfl (args:=[n.a,.ptr q 0]) (f:=107) (by simp [go_sem,Node.a,Node.cs]) (hs1 _ (by simp [oput,hqn,g5])) (by decide) (okPends_does (by simp [go_sem,Node.cs])) ?_
  refine K_run hB 100 ?_
  simp [go_sem,ht,hf',g2,ha,hkl,hcap,hkk,show ¬ny=a by omega]
  refine Next.mk (k+1,ny+1,_,ny+2) ?_ (Imp.slots (by simp [go_sem]) rfl rfl) (by simp only;omega)
  exact ⟨by simp only;omega,by simp [oput,htk,Inst.keyT,Node.t],by simp only;omega,by simp only;omega,by simp [oput,hqn,g5,show ¬q=a by omega,show ¬q=ny+1 by omega],fun i h1 h2=>by simp [oput,show ¬i=ny by omega,show ¬i=a by omega,show ¬i=ny+1 by omega,g6 i h1 h2]⟩
 ·have:k=l.length:=by omega
  subst this
  rw [←hKl,List.take_length,hK] at g2
  have hS:=sortStable_spec (l.map x.keyT) (fun e he=>by
   obtain ⟨n,_,rfl⟩:=List.mem_map.1 he
   exact ⟨n,x.of n,rfl⟩) (by rw [List.length_map];exact hl) (nx:=ny) g4 g2
  rw [x.keys_sort] at hS
  have hL:=x.sortN_len l
  generalize x.sortN l=S at *
  have hkl:(S.map x.keyT).length=l.length:=by rw [List.length_map,hL]
  have hkg:∀(k:Nat) (h:k<l.length),(S.map x.keyT)[k]'(by rw [hkl];exact h)=(S[k]'(by rw [hL];exact h)).t++[.i (x.of (S[k]'(by rw [hL];exact h)))]:=fun k h=>by rw [List.getElem_map];rfl
  simp [go_sem]
  refine K_run hB 100 ?_
  simp [go_sem]
  refine K_call rfl rfl rfl (args:=[.ref a,cmpF]) (f:=123) (by simp [go_sem]) (by simp [go_sem,hB]) hS ?_
  refine K_run hB 100 ?_
  simp [go_sem,hkl]
  refine K_own 8 10 (by simp [go_sem]) ?_
  have hqa:¬q=a:=by omega
  have hany:¬a=ny:=by omega
  refine K_loopP (α:=Nat×Nat×(Nat→AObj)×Nat) (fun (k,c,τ,nz)=>k≤l.length∧τ c= .arr 10 (nodesT (S.take k))∧τ a= .arr 11 (S.map x.keyT)∧nx≤c∧c<nz∧a<nz∧c≠a∧τ q= .box x.cs∧∀i,i<nx→i≠q→τ i=σ i)
   (fun (k,c,τ,nz)=>⟨sl [(8,.ref c),(28,.ref a),(29,.i l.length),(30,.i k)],τ,nz⟩) (fun a=>l.length-a.1) (0,ny,_,ny+1) ?_ (Imp.slots (by simp [go_sem,hkl]) rfl rfl) ?_
  ·exact ⟨Nat.zero_le _,by simp [oput,nodesT],by simp [oput,hany],by omega,by omega,by omega,by omega,by simp [oput,show ¬q=ny by omega,hqa,g5],fun i h1 h2=>by simp [oput,show ¬i=ny by omega,show ¬i=a by omega,g6 i h1 h2]⟩
  clear hS g1 g2 g5 g6
  rintro ⟨k,c,τ,nz⟩ ⟨g1,g2,g7,g8,g9,ga,gb,g5,g6⟩
  refine K_run hB 60 ?_
  simp [go_sem]
  refine fork_dec (fun hk=>?_) (fun hk=>?_)
  ·have hkk:IntKind.i64.wrap ((k:Int)+1)=((k+1:Nat):Int):=by rw [w64 ((k:Int)+1) (by omega)];rfl
   have hkS:k<S.length:=by omega
   have htk:S.take (k+1)=S.take k++[S[k]]:=by rw [List.take_add_one,List.getElem?_eq_getElem hkS];rfl
   have hget:∀h:k<(S.map x.keyT).length,(S.map x.keyT)[k]'h=S[k].t++[.i (x.of S[k])]:=fun h=>hkg k hk
   have htl:(nodesT (S.take k)).length=k:=by rw [nodesT,List.length_map,List.length_take];omega
   have hcap:k+1≤mostLen:=by omega
   have q1:k*11 / 11=k:=by omega
   have q4:k*11 % 11=0:=by omega
   have hc:¬c=nz:=by omega
   generalize S[k]=n at *
   simp [go_sem,g7,hkl,hk,hget,q1,q4,Node.t,g2,hc,htl,hcap,hkk]
   refine Next.mk (k+1,nz+1,_,nz+2) ?_ (Imp.slots (by simp [go_sem]) rfl rfl) (by simp only;omega)
   exact ⟨by simp only;omega,by simp [oput,htk,nodesT,Node.t],by simp [oput,g7,show ¬a=nz by omega,show ¬a=c by omega,show ¬a=nz+1 by omega],by simp only;omega,by simp only;omega,by simp only;omega,by simp only;omega,by simp [oput,g5,show ¬q=nz by omega,show ¬q=c by omega,show ¬q=nz+1 by omega],fun i h1 h2=>by simp [oput,show ¬i=nz by omega,show ¬i=c by omega,show ¬i=nz+1 by omega,g6 i h1 h2]⟩
  ·have:k=l.length:=by omega
   subst this
   rw [←hL,List.take_length] at g2
   simp [go_sem]
   rw [←hpost]
   refine ⟨_,Imp.freeze (q:=c) (sz:=10) (es:=nodesT S) (by simp [go_sem,g2]),.inl rfl,?_⟩
   simp [go_sem,frz1,frzO,show ¬q=c by omega,g5]
   refine ⟨by omega,by simp [frz1.frzL,frz1,Inst.cs],fun y hy hyq=>?_⟩
   rw [if_neg (by omega),g6 y hy hyq]
   rcases hk0 y with e | ⟨e,_⟩
   ·rw [e]
   ·exact frzO_id (q:=c) (es:=nodesT S) (by omega) (σ y) e
theorem sorted_pure (x:Inst) (l:List Node) (hx:x.stops.length<2^31) (hl:l.length<2^31) (hn:∀n∈l,n.Fine):Pure P 74 [x.a,.t (.sl (nodesT l))] (.t (.sl (nodesT (x.sortN l)))):=by
 refine pure_of Tryz.func74 rfl rfl (by simp [Tryz.f74]) (by simp [bnd,bnd.bndL,Inst.a]) (by simp [bnd,bnd.bndL]) fun B hB hnx=>?_
 simp only [Tryz.f74] at hB ⊢
 have hil:(nodesT l).length=l.length:=List.length_map _
 have hgt:∀(k:Nat) (h:k<l.length),(nodesT l)[k]'(by rw [hil];exact h)=l[k].t:=fun k h=>nodesT_get l h
 generalize hX:nodesT l=X at *
 have hmost:mostLen=4294967296:=rfl
 refine K_run hB 100 ?_
 simp [go_sem,hil,Inst.a]
 refine K_own 5 10 (by simp [go_sem]) ?_
 refine K_loopP (α:=Nat×Nat×(Nat→AObj)×Nat) (fun (k,a,σ',ny)=>k≤l.length∧σ' a= .arr 10 (nodesT (l.take k))∧0<a∧a<ny∧σ' 0= .box x.cs)
  (fun (k,a,σ',ny)=>⟨sl [(2,.ptr 0 0),(5,.ref a),(8,.t (.sl X)),(9,.i l.length),(10,.i k)],σ',ny⟩) (fun a=>l.length-a.1) (0,1,_,2) ?_ (Imp.slots (by simp [go_sem,hil]) rfl rfl) ?_
 ·exact ⟨Nat.zero_le _,by simp [oput,nodesT],by omega,by omega,by simp [oput,Inst.cs]⟩
 rintro ⟨k,a,σ',ny⟩ ⟨g1,g2,g3,g4,g5⟩
 refine K_run hB 60 ?_
 simp [go_sem]
 refine fork_dec (fun hk=>?_) (fun hk=>?_)
 ·have hkk:IntKind.i64.wrap ((k:Int)+1)=((k+1:Nat):Int):=by rw [w64 ((k:Int)+1) (by omega)];rfl
  have hget:∀h:k<X.length,X[k]'h=l[k].t:=fun h=>hgt k hk
  have hfine:=hn l[k] (List.getElem_mem _)
  have htk:l.take (k+1)=l.take k++[l[k]]:=by rw [List.take_add_one,List.getElem?_eq_getElem hk];rfl
  have hkl:(nodesT (l.take k)).length=k:=by rw [nodesT,List.length_map,List.length_take];omega
  generalize l[k]=n at *
  have ha:¬a=ny:=by omega
  have hown:=own_pure n (by have:=hfine.len;omega)
  have hcap:k+1≤mostLen:=by omega
  simp [go_sem,hil,hk,hget,Node.t]
  refine K_call rfl rfl rfl (args:=[n.a]) (f:=103) (by simp [go_sem,Node.a,Node.cs]) (by simp [go_sem,hB]) ((hown).spec _ _) ?_
  refine K_run hB 100 ?_
  simp [go_sem,Node.a,Node.cs,g2,ha,hkl,hcap,hkk]
  refine Next.mk (k+1,ny+1,_,ny+2) ?_ (Imp.slots (by simp [go_sem]) rfl rfl) (by simp only;omega)
  exact ⟨by simp only;omega,by simp [oput,htk,nodesT,Node.t],by simp only;omega,by simp only;omega,by simp [oput,g5,show ¬0=ny by omega,show ¬0=a by omega]⟩
 ·have:k=l.length:=by omega
  subst this
  rw [List.take_length] at g2
  have hS:∀σ nx,0<nx→σ 0= .box x.cs→CallSpec P 106 [.t (.sl (nodesT l)),.fn (.func 107) [] [.ptr 0 0]] σ nx (.t (.sl (nodesT (x.sortN l)))) (oput σ 0 (.box x.cs)) nx:=fun σ nx h1 h2=>sortedF_spec x l hx hl (fun n h=>(hn n h).ok) h1 h2
  rw [hX] at hS
  obtain ⟨σ5,hσ5⟩:∃σ5:Nat→AObj,σ5=fun j=>if j=a then AObj.dead else frzO a X (σ' j):=⟨_,rfl⟩
  have f1:σ5 0= .box x.cs:=by simp [hσ5,show ¬0=a by omega,g5,frzO,frz1,frz1.frzL,Inst.cs]
  have hSS:=hS σ5 ny (by omega) f1
  simp [go_sem]
  refine K_imp ((Imp.freeze (q:=a) (sz:=10) (es:=X) (by simp [g2,hX])).trans (Imp.slots (l:=[(2,.ptr 0 0),(20,.t (.sl X)),(21,.fn (.func 107) [] [.ptr 0 0])]) (by simp [go_sem,frz1,frz1.frzL]) hσ5 rfl)) ?_
  refine K_run hB 100 ?_
  simp [go_sem]
  refine K_call rfl rfl rfl (args:=[.t (.sl X),.fn (.func 107) [] [.ptr 0 0]]) (f:=106) (by simp [go_sem]) (by simp [go_sem,hB]) hSS ?_
  refine K_run hB 100 ?_
  simp [go_sem]
end Go.Proofs.YtnoifgjiipgpoaaGreat

set_option maxRecDepth 4000
namespace Go.Proofs.YtnoifgjiipgpoaaGreat
open Go Go.Proofs.YtnoifgjiipgpoaaGreat.R
theorem canB_of {f:Nat→Bool}:∀{n k:Nat},k<n→f k=true→(k:Int)∈canB f n
 |n+1,k,h,hf=>by
  rw [canB,List.mem_append]
  by_cases e:k=n
  ·subst e
   exact .inr (by rw [if_pos hf];simp)
  ·exact .inl (canB_of (by omega) hf)
theorem mem_moves {x:Inst} {s:State} {j:Int} (h:(x.move s j).2.2=true):j∈x.moves s:=by
 have hm:x.may=true:=by
  by_cases e:j=0
  ·subst e;exact (move_home h).1
  ·exact (move_pos h e).1
 obtain ⟨p,hx⟩:=x.fit hm
 have h1:=hx.len
 have h2:=hx.pairs
 have hj:0≤j∧j<x.stops.length:=by
  by_cases e:j=0
  ·omega
  ·have:=move_pos h e
   omega
 rw [moves_can]
 have:((j.toNat:Nat):Int)=j:=by omega
 rw [←this]
 exact canB_of (by omega) (by rw [this];exact h)
theorem move_seen_low {x:Inst} (hl:x.stops.length<2^31) (m:Node) (k:Int) (h0:0≤m.cost) (h1:m.cost+lowP x.near m.s.can≤k) (hk:k≤1152921504606846976):x.of m≤k:=by
 have hin:=lowP_in (near_le x) m.s.can
 rw [Inst.of,low_eq x m.s (by omega),sumI_two h0 hin.1 (by omega)]
 exact h1
theorem bests_fold (x:Inst) (v:Int):∀(l:List Node) (b:Node×Bool),((∃n∈l,(x.endS n.s).2=true∧sumI [n.cost,(x.endS n.s).1]=v)∨(b.2=true∧b.1.cost≤v))→(l.foldl x.best1 b).2=true∧(l.foldl x.best1 b).1.cost≤v
 |[],b,h=>by
  rcases h with ⟨n,h,_⟩ | h
  ·cases h
  ·exact h
 |n :: l,b,h=>by
  refine bests_fold x v l (x.best1 b n) ?_
  have key:b.2=true∧b.1.cost≤v→(x.best1 b n).2=true∧(x.best1 b n).1.cost≤v:=by
   rintro ⟨h1,h2⟩
   unfold Inst.best1
   split
   ·rename_i hc
    refine ⟨rfl,?_⟩
    rcases hc.2 with hc | hc
    ·rw [h1] at hc;cases hc
    ·simp only;omega
   ·exact ⟨h1,h2⟩
  rcases h with ⟨m,hm,h1,h2⟩ | h
  ·rcases List.mem_cons.1 hm with rfl | hm
   ·refine .inr ?_
    unfold Inst.best1
    split
    ·exact ⟨rfl,by simp only;omega⟩
    ·rename_i hc
     have hb:b.2=true:=by
      cases e:b.2 with
      |true=>rfl
      |false=>exact absurd ⟨h1,.inl e⟩ hc
     refine ⟨hb,?_⟩
     have:¬sumI [m.cost,(x.endS m.s).1]<b.1.cost:=fun e=>hc ⟨h1,.inr e⟩
     omega
   ·exact .inl ⟨m,hm,h1,h2⟩
  ·exact .inr (key h)
theorem bests_has {x:Inst} {l:List Node} {n:Node} (hn:n∈l) (he:(x.endS n.s).2=true):(x.bests l).2=true∧(x.bests l).1.cost≤sumI [n.cost,(x.endS n.s).1]:=bests_fold x _ l _ (.inl ⟨n,hn,he,rfl⟩)
end Go.Proofs.YtnoifgjiipgpoaaGreat

set_option maxRecDepth 4000
namespace Go.Proofs.YtnoifgjiipgpoaaGreat
open Go Go.Proofs.YtnoifgjiipgpoaaGreat.R
def Inst.base (x:Inst) (s:State):Nat:=((List.range (2*x.pairs.toNat+1)).filter fun j:Nat=>decide (1≤j)&& !hasB s.must (j:Int)).length+(x.cars-s.car).toNat
theorem base_move {x:Inst} {s:State} {j:Int} (h:(x.move s j).2.2=true):x.base (x.move s j).1<x.base s:=by
 by_cases e:j=0
 ·subst e
  obtain ⟨_,_,h3,h4⟩:=move_home h
  rw [h4]
  simp only [Inst.stayB,Bool.or_eq_false_iff,decide_eq_false_iff_not] at h3
  simp only [Inst.base,Inst.homeS]
  have:=h3.1.1.2
  omega
 ·obtain ⟨h1,h2,h3,h4,h5,_,_,h6⟩:=move_pos h e
  obtain ⟨p,hx⟩:=x.fit h1
  have:=hx.few
  have:=hx.pairs
  rw [h6]
  simp only [Inst.lateB,Bool.or_eq_false_iff] at h5
  simp only [Inst.base,Inst.rvisit]
  obtain ⟨k,rfl⟩:∃k:Nat,j=k:=⟨j.toNat,by omega⟩
  refine Nat.add_lt_add_right (filter_lt _ (a:=k) (List.mem_range.2 (by omega)) ?_ ?_ ?_) _
  ·rw [h5.1]
   simp only [Bool.not_false,Bool.and_true,decide_eq_true_eq]
   omega
  ·rw [has_withN (by omega)]
   simp
  ·intro b
   rw [has_withN (by omega)]
   simp only [Bool.and_eq_true,Bool.not_eq_true',Bool.or_eq_false_iff]
   exact fun h=>⟨h.1,h.2.1⟩
def Inst.meas (x:Inst) (s:State):Nat:=if x.may=true∧s.mayB x=true then x.base s else 0
theorem move_may {x:Inst} {s:State} {j:Int} (h:(x.move s j).2.2=true):x.may=true∧s.mayB x=true:=by
 by_cases e:j=0
 ·subst e
  exact ⟨(move_home h).1,(move_home h).2.1⟩
 ·exact ⟨(move_pos h e).1,(move_pos h e).2.1⟩
theorem meas_move {x:Inst} {s:State} {j:Int} (h:(x.move s j).2.2=true):x.meas (x.move s j).1<x.meas s:=by
 have h1:=base_move h
 have h2:=move_may h
 have:x.meas (x.move s j).1≤x.base (x.move s j).1:=by
  unfold Inst.meas
  split<;>omega
 have:x.meas s=x.base s:=by rw [Inst.meas,if_pos h2]
 omega
theorem meas_le (x:Inst) (s:State):x.meas s≤40:=by
 unfold Inst.meas
 split
 ·rename_i h
  obtain ⟨p,hx⟩:=x.fit h.1
  have h1:=hx.few
  have h2:=hx.pairs
  have h3:=hx.cars
  have h4:=h.2
  simp only [State.mayB,Bool.and_eq_true,decide_eq_true_eq] at h4
  have h5:=h4.1.1.1.1.1.2
  have h6:((List.range (2*x.pairs.toNat+1)).filter fun j:Nat=>decide (1≤j)&& !hasB s.must (j:Int)).length≤2*x.pairs.toNat+1:=by
   refine Nat.le_trans (List.length_filter_le _ _) ?_
   rw [List.length_range];exact Nat.le_refl _
  unfold Inst.base
  omega
 ·omega
def Inst.look (x:Inst) (st:Node×Bool×Int) (l:List Node):Node×Bool×Int:=
 if (x.bests l).2=true∧(x.bests l).1.cost<st.2.2 then ((x.bests l).1,true,(x.bests l).1.cost) else st
def Inst.exGo (x:Inst) (most:Int):Nat→Node×Bool×Int→List Node→Int→Node×Bool×Bool×Int
 |0,st,_,n=>(st.1,st.2.1,true,n)
 |d+1,st,l,n=>if l.length=0 then (st.1,st.2.1,true,n) else if most<l.length then (st.1,st.2.1,false,n) else
  x.exGo most d (x.look st l) (frontL (x.next l st.2.2)) (IntKind.i64.wrap (n+l.length))
def Inst.exact (x:Inst) (n:Node) (up most:Int):Node×Bool×Bool×Int:=x.exGo most (x.meas n.s+1) (Node.zero,false,up) [n] 0
def exRes4 (r:Node×Bool×Bool×Int):AV:=.tup [r.1.a,.b r.2.1,.b r.2.2.1,.i r.2.2.2]
structure Level (x:Inst) (l:List Node) (d K:Nat):Prop where
 ok:∀n∈l,n.s.ok
 deep:∀n∈l,x.meas n.s<d
 path:∀n∈l,n.path.length+d≤K
theorem Level.next {x:Inst} {l:List Node} {d K:Nat} (h:Level x l (d+1) K) (up:Int):Level x (frontL (x.next l up)) d K:=by
 have key:∀m∈frontL (x.next l up),∃n∈l,∃j,(x.move n.s j).2.2=true∧m=x.child n j:=by
  intro m hm
  obtain ⟨n,hn,j,hj,e,_⟩:=next_mem ((front_inv _).sub m hm)
  exact ⟨n,hn,j,moves_mem hj,e⟩
 refine ⟨?_,?_,?_⟩
 ·intro m hm
  obtain ⟨n,hn,j,hj,rfl⟩:=key m hm
  exact move_ok x j (h.ok n hn)
 ·intro m hm
  obtain ⟨n,hn,j,hj,rfl⟩:=key m hm
  have:=meas_move hj
  have:=h.deep n hn
  show x.meas (x.move n.s j).1<d
  omega
 ·intro m hm
  obtain ⟨n,hn,j,hj,rfl⟩:=key m hm
  have:=h.path n hn
  show (n.path++[j]).length+d≤K
  rw [List.length_append]
  simp only [List.length_cons,List.length_nil]
  omega
theorem Level.empty {x:Inst} {l:List Node} {K:Nat} (h:Level x l 0 K):l=[]:=by
 cases l with
 |nil=>rfl
 |cons n l=>exact absurd (h.deep n List.mem_cons_self) (by omega)
theorem Level.root (x:Inst) (n:Node) (h:n.s.ok):Level x [n] (x.meas n.s+1) (n.path.length+x.meas n.s+1):=by
 refine ⟨?_,?_,?_⟩<;>(intro m hm;rw [List.mem_singleton.1 hm])
 ·exact h
 ·omega
 ·omega
end Go.Proofs.YtnoifgjiipgpoaaGreat

set_option maxRecDepth 4000
set_option maxHeartbeats 1000000
namespace Go.Proofs.YtnoifgjiipgpoaaGreat
open Go Go.Proofs.YtnoifgjiipgpoaaGreat.R
def Inst.few (x:Inst) (W:Nat) (l:List Node) (up:Int):List Node:=(x.sortN (x.next l up)).take W
def Inst.naGo (x:Inst) (W:Nat):Nat→Node×Bool×Int→List Node→Int→Node×Bool×Int
 |0,st,_,n=>(st.1,st.2.1,n)
 |d+1,st,l,n=>if l.length=0 then (st.1,st.2.1,n) else x.naGo W d (x.look st l) (x.few W l st.2.2) (IntKind.i64.wrap (n+l.length))
def widthN (w:Int):Nat:=if w<1 then 1 else w.toNat
def Inst.narrow (x:Inst) (n:Node) (width up:Int):Node×Bool×Int:=x.naGo (widthN width) (x.meas n.s+1) (Node.zero,false,up) [n] 0
def naRes (r:Node×Bool×Int):AV:=.tup [r.1.a,.b r.2.1,.i r.2.2]
theorem few_mem {x:Inst} {W:Nat} {l:List Node} {up:Int} {n:Node} (h:n∈x.few W l up):n∈x.next l up:=Inst.sortN_mem.1 (List.mem_of_mem_take h)
theorem few_len (x:Inst) (W:Nat) (l:List Node) (up:Int):(x.few W l up).length≤W:=by rw [Inst.few,List.length_take];omega
theorem Level.few {x:Inst} {l:List Node} {d K:Nat} (h:Level x l (d+1) K) (W:Nat) (up:Int):Level x (x.few W l up) d K:=by
 have key:∀m∈x.few W l up,∃n∈l,∃j,(x.move n.s j).2.2=true∧m=x.child n j:=by
  intro m hm
  obtain ⟨n,hn,j,hj,e,_⟩:=next_mem (few_mem hm)
  exact ⟨n,hn,j,moves_mem hj,e⟩
 refine ⟨?_,?_,?_⟩
 ·intro m hm
  obtain ⟨n,hn,j,hj,rfl⟩:=key m hm
  exact move_ok x j (h.ok n hn)
 ·intro m hm
  obtain ⟨n,hn,j,hj,rfl⟩:=key m hm
  have:=meas_move hj
  have:=h.deep n hn
  show x.meas (x.move n.s j).1<d
  omega
 ·intro m hm
  obtain ⟨n,hn,j,hj,rfl⟩:=key m hm
  have:=h.path n hn
  show (n.path++[j]).length+d≤K
  rw [List.length_append]
  simp only [List.length_cons,List.length_nil]
  omega
theorem nbest_pure (x:Inst) (n:Node) (width up:Int) (hl:x.stops.length<2^31) (hw:width≤3000) (ho:n.s.ok) (hp:n.path.length<2^29):Pure P 44 [x.a,n.a,.i width,.i up] (naRes (x.narrow n width up)):=by
 generalize hR:x.narrow n width up=R
 refine pure_of Tryz.func44 rfl rfl (by simp [Tryz.f44]) (by simp [bnd,bnd.bndL,Inst.a,Node.a,Node.cs]) (by simp [bnd,bnd.bndL,naRes,Node.a,Node.cs]) fun B hB hnx=>?_
 simp only [Tryz.f44] at hB ⊢
 have hlev:=Level.root x n ho
 have hmeas:=meas_le x n.s
 rw [Inst.narrow] at hR
 generalize hd:x.meas n.s+1=d0 at *
 generalize hK:n.path.length+x.meas n.s+1=K at *
 have hW1:max width 1=(widthN width:Nat):=by unfold widthN;split<;>omega
 have hW2:widthN width≤3000:=by unfold widthN;split<;>omega
 generalize widthN width=W at *
 refine K_run hB 100 ?_
 simp [go_sem,Inst.a,Node.a,Node.cs]
 refine K_less ((Imp.looseB (b:=2) (cs:=[.i 0,.i 0,.i 0,.i 0,.i 0,.u 0,.u 0,.u 0,.i 0,.fsl []]) (by simp [oput])).trans ((Imp.looseB (b:=3) (cs:=[.i 0,.i 0,.i 0,.i 0,.i 0,.u 0,.u 0,.u 0,.i 0,.fsl []]) (by simp [oput])).trans Imp.loose)) ?_
 refine K_loopP (α:=Nat×(Node×Bool×Int)×List Node×Int×(Nat→AObj)×Nat) (fun (d,st,l,n,σ,nx)=>Level x l d K∧x.naGo W d st l n=R∧l.length≤3000∧σ 0= .box x.cs∧σ 2= .box Node.zero.cs∧σ 3= .box st.1.cs∧3<nx)
  (fun (d,st,l,n,σ,nx)=>⟨sl [(2,.i width),(3,.i st.2.2),(4,.ptr 0 0),(8,.ptr 2 0),(11,.ptr 3 0),(12,.b st.2.1),(13,.i n),(14,.t (.sl (nodesT l)))],σ,nx⟩) (fun a=>a.1) (d0,(Node.zero,false,up),[n],0,_,4) ?_ (Imp.slots (by simp [go_sem,loosen,nodesT,Node.t]) rfl rfl) ?_
 ·exact ⟨hlev,hR,by simp,by simp [oput,Inst.cs],by simp [oput,Node.zero,State.zero,Node.cs,ints,loosen],by simp [oput,Node.zero,State.zero,Node.cs,ints,loosen],by omega⟩
 rintro ⟨d,st,l,n,σ,nx⟩ ⟨g1,g2,g0,g3,g4,g5,g6⟩
 have hil:(nodesT l).length=l.length:=List.length_map _
 have hgo:x.naGo W d st l n=match d with
  |0=>(st.1,st.2.1,n)
  |d+1=>if l.length=0 then (st.1,st.2.1,n) else x.naGo W d (x.look st l) (x.few W l st.2.2) (IntKind.i64.wrap (n+l.length)):=by cases d<;>rfl
 by_cases c1:l.length=0
 ·have hr:R=(st.1,st.2.1,n):=by
   rw [←g2,hgo]
   cases d with
   |zero=>rfl
   |succ d=>simp only;rw [if_pos c1]
  subst hr
  refine K_run hB 100 ?_
  simp [go_sem,hil,c1,g4,g5,Node.cs]
  rfl
 cases d with
 |zero=>exact absurd (by rw [g1.empty];rfl) c1
 |succ d=>
  simp only at hgo
  rw [if_neg c1] at hgo
  have c4:0<l.length:=by omega
  rw [hgo] at g2
  have hx:=expand_pure x l st.2.2 hl (by omega) (fun m h=>⟨g1.ok m h,by have:=g1.path m h;omega⟩) (fun m h=>by have:=g1.path m h;omega)
  have q1:=next_len x l st.2.2
  have q2:∀m∈x.next l st.2.2,m.Fine:=by
   intro m hm
   obtain ⟨k,h,j,_,rfl,_⟩:=next_mem hm
   refine ⟨move_ok x j (g1.ok k h),?_⟩
   have:=g1.path k h
   show (k.path++[j]).length<2^31
   rw [List.length_append]
   simp only [List.length_cons,List.length_nil]
   omega
  have hf:=sorted_pure x (x.next l st.2.2) hl (by omega) q2
  have hlv:=g1.few W st.2.2
  have hfl:=few_len x W l st.2.2
  rw [Inst.few] at hlv hfl g2
  have hsl:=x.sortN_len (x.next l st.2.2)
  have hlk:x.look st l=if (x.bests l).2=true∧(x.bests l).1.cost<st.2.2 then ((x.bests l).1,true,(x.bests l).1.cost) else st:=rfl
  generalize x.look st l=st' at *
  generalize x.next l st.2.2=M at *
  generalize x.sortN M=S at *
  generalize x.bests l=Rb at *
  obtain ⟨b,is⟩:=Rb
  simp only at hlk
  have hm:min (S.length:Int) (max width 1)=(min S.length W:Nat):=by rw [hW1];omega
  have htk:S.take W=S.take (min S.length W):=by
   by_cases h:W≤S.length
   ·rw [Nat.min_eq_right h]
   ·rw [Nat.min_eq_left (by omega),List.take_length,List.take_of_length_le (by omega)]
  rw [htk] at hlv hfl g2
  have hkl:min S.length W≤S.length:=by omega
  generalize min S.length W=k at *
  have hSl:(nodesT S).length=S.length:=List.length_map _
  have hS1:=nodesT_len S
  have hSt:(nodesT S).take k=nodesT (S.take k):=by rw [nodesT,nodesT,List.map_take]
  refine K_run hB 100 ?_
  simp [go_sem,hil,c4,g3,Inst.cs]
  refine K_call rfl rfl rfl (args:=[x.a,.t (.sl (nodesT l)),.i st.2.2]) (f:=73) (by simp [go_sem,Inst.a]) (by simp [go_sem,hB]) ((hx).spec _ _) ?_
  have m0:¬0=nx:=by omega
  have m2:¬2=nx:=by omega
  have m3:¬3=nx:=by omega
  have m4:¬nx=3:=by omega
  cases is with
  |false=>
   rw [if_neg (by simp)] at hlk
   subst hlk
   refine K_run hB 100 ?_
   simp [go_sem,expRes,Node.a,Node.cs,g3,m0,Inst.cs]
   refine K_call rfl rfl rfl (args:=[x.a,.t (.sl (nodesT M))]) (f:=74) (by simp [go_sem,Inst.a]) (by simp [go_sem,hB]) ((hf).spec _ _) ?_
   refine K_run hB 100 ?_
   simp [go_sem,hSl,hm,if_pos hS1,hSt,hkl]
   refine Next.mk (d,st',S.take k,IntKind.i64.wrap (n+l.length),_,nx+1) ?_ (Imp.loose.trans (Imp.slots (by simp [go_sem,loosen]) rfl rfl)) (by simp only;omega)
   exact ⟨hlv,g2,by simp only;omega,by simp [oput,g3,m0,Inst.cs],by simp [oput,g4,m2,Node.cs],by simp [oput,g5,m3,Node.cs],by simp only;omega⟩
  |true=>
   by_cases c5:b.cost<st.2.2
   ·rw [if_pos ⟨rfl,c5⟩] at hlk
    subst hlk
    refine K_run hB 100 ?_
    simp [go_sem,expRes,Node.a,Node.cs,c5]
    refine K_drawnF [3] [1,2] rfl (by rw [hB];kernel_rfl) (by kernel_rfl) fun ht hf'=>?_
    refine K_run hB 100 ?_
    simp [go_sem,ht,hf',c5,m3,m4,m0,g3,g5,Inst.cs,Node.cs]
    refine K_call rfl rfl rfl (args:=[x.a,.t (.sl (nodesT M))]) (f:=74) (by simp [go_sem,Inst.a]) (by simp [go_sem,hB]) ((hf).spec _ _) ?_
    refine K_run hB 100 ?_
    simp [go_sem,hSl,hm,if_pos hS1,hSt,hkl]
    refine Next.mk (d,(b,true,b.cost),S.take k,IntKind.i64.wrap (n+l.length),_,nx+1) ?_ (Imp.loose.trans (Imp.slots (by simp [go_sem,loosen]) rfl rfl)) (by simp only;omega)
    exact ⟨hlv,g2,by simp only;omega,by simp [oput,g3,m0,Inst.cs],by simp [oput,g4,m2,Node.cs],by simp [oput,g5,m3,Node.cs],by simp only;omega⟩
   ·rw [if_neg (fun h=>c5 h.2)] at hlk
    subst hlk
    refine K_run hB 100 ?_
    simp [go_sem,expRes,Node.a,Node.cs,c5,g3,m0,Inst.cs]
    refine K_call rfl rfl rfl (args:=[x.a,.t (.sl (nodesT M))]) (f:=74) (by simp [go_sem,Inst.a]) (by simp [go_sem,hB]) ((hf).spec _ _) ?_
    refine K_run hB 100 ?_
    simp [go_sem,hSl,hm,if_pos hS1,hSt,hkl]
    refine Next.mk (d,st',S.take k,IntKind.i64.wrap (n+l.length),_,nx+1) ?_ (Imp.loose.trans (Imp.slots (by simp [go_sem,loosen]) rfl rfl)) (by simp only;omega)
    exact ⟨hlv,g2,by simp only;omega,by simp [oput,g3,m0,Inst.cs],by simp [oput,g4,m2,Node.cs],by simp [oput,g5,m3,Node.cs],by simp only;omega⟩
end Go.Proofs.YtnoifgjiipgpoaaGreat

set_option maxRecDepth 4000
namespace Go.Proofs.YtnoifgjiipgpoaaGreat
open Go Go.Proofs.YtnoifgjiipgpoaaGreat.R
def stOk (st:Node×Bool×Int):Prop:=st.2.1=true→st.1.cost=st.2.2
theorem look_ok {x:Inst} {st:Node×Bool×Int} {l:List Node} (h:stOk st):stOk (x.look st l)∧(x.look st l).2.2≤st.2.2∧(st.2.1=true→(x.look st l).2.1=true):=by
 unfold Inst.look
 split
 ·rename_i hc
  exact ⟨fun _=>rfl,by simp only;omega,fun _=>rfl⟩
 ·exact ⟨h,Int.le_refl _,fun h=>h⟩
end Go.Proofs.YtnoifgjiipgpoaaGreat
