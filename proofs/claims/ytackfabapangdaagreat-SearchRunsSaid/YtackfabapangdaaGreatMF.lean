/- Parts of the proof: Near, NearR, Bound, Bound2, StateR, StateR2, StateR3, Bound3, Bound4, Late, Ends, Seen, LowP, Law12, Law12b, Once, Once2, OnceR, Expand, Expand2, ExpandR. -/
import Derived.Test.YtackfabapangdaaGreatME
set_option linter.all false
set_option maxHeartbeats 4000000
set_option maxRecDepth 4000
namespace Go.Proofs.YtackfabapangdaaGreat
open Go Go.Proofs.YtackfabapangdaaGreat.R
def inf:Int:=1152921504606846976
theorem far_in (a b:Stop):0≤far a b∧far a b<inf:=by
 have h:=sq_in a b
 unfold far rootI inf
 split
 ·omega
 ·have:=rootL_lt (min (sq a b) 1152921504606846976).toNat 31 0
  simp only [Nat.reducePow,Nat.zero_add] at this
  omega
def nearF (k:Nat) (b:Stop):Nat→List Stop→Int→Int
 |_,[],v=>v
 |i,a :: l,v=>nearF k b (i+1) l (if i=k then v else min v (far a b))
def Inst.nearK (x:Inst) (k:Nat) (b:Stop):Int:=(nearF k b 0 x.stops inf).tmod inf
def nears (x:Inst):Nat→List Stop→List Int
 |_,[]=>[]
 |k,b :: l=>x.nearK k b :: nears x (k+1) l
def Inst.near (x:Inst):List Int:=if x.may then nears x 0 x.stops else []
theorem nears_len (x:Inst):∀k l,(nears x k l).length=l.length
 |_,[]=>rfl
 |k,b :: l=>by rw [nears,List.length_cons,nears_len x (k+1) l,List.length_cons]
theorem nears_get (x:Inst):∀(k:Nat) (l:List Stop) (i:Nat) (h:i<l.length),(nears x k l)[i]'(by rw [nears_len];exact h)=x.nearK (k+i) l[i]
 |k,b :: l,0,h=>rfl
 |k,b :: l,i+1,h=>by
  have:=nears_get x (k+1) l i (by simpa using h)
  simp only [nears,List.getElem_cons_succ]
  rw [this,show k+1+i=k+(i+1) by omega]
theorem nears_snoc (x:Inst) {k:Nat} (h:k<x.stops.length):(nears x 0 x.stops).take (k+1)=(nears x 0 x.stops).take k++[x.nearK k x.stops[k]]:=by
 rw [List.take_succ_eq_append_getElem (by rw [nears_len];exact h),nears_get x 0 x.stops k h,Nat.zero_add]
theorem nearF_drop {k:Nat} {b:Stop} {l:List Stop} {i:Nat} {v:Int} (h:i<l.length):nearF k b i (l.drop i) v=nearF k b (i+1) (l.drop (i+1)) (if i=k then v else min v (far l[i] b)):=by rw [List.drop_eq_getElem_cons h];rfl
theorem rows_get (x:Inst) {i:Nat} (h:i<x.rows.length):x.rows[i]=rowT (x.row (x.stops[i]'(by rw [x.rows_len] at h;exact h))):=by simp [Inst.rows]
theorem row_get (x:Inst) (a:Stop) {i:Nat} (h:i<(x.row a).length):(x.row a)[i]=far a (x.stops[i]'(by rw [x.row_len] at h;exact h)):=by simp [Inst.row]
theorem ints_get (l:List Int) {i:Nat} (h:i<(ints l).length):(ints l)[i]=[.i (l[i]'(by simpa [ints] using h))]:=by simp [ints]
theorem ints_len (l:List Int):(ints l).length=l.length:=List.length_map _
theorem near_pure (x:Inst) (hl:x.stops.length<2^31):Pure P 146 [x.a] (.t (.sl (ints x.near))):=by
 have hinf:inf=1152921504606846976:=rfl
 refine pure_of Tryz.func146 rfl rfl (by simp [Tryz.f146]) (by simp [bnd,bnd.bndL,Inst.a]) (by simp [bnd]) fun B hB hnx=>?_
 simp only [Tryz.f146] at hB ⊢
 have hm:mostLen=4294967296:=rfl
 refine K_run hB 60 ?_
 simp [go_sem,Inst.a]
 refine K_call rfl rfl rfl (args:=[x.a]) (f:=191) (by simp [go_sem,Inst.a]) (by simp [go_sem,hB]) ((matrix_pure x hl).spec _ _) ?_
 rw [x.mat_rows]
 by_cases h0:x.may=true
 rotate_left
 ·have h0':x.may=false:=by simpa using h0
  simp only [h0',Bool.false_eq_true,if_false]
  refine K_run hB 60 ?_
  simp [go_sem]
  refine K_own 4 1 (by simp [go_sem]) ?_
  refine K_loopP (α:=Unit) (fun _=>True) (fun _=>⟨sl [(4,.ref 1),(11,.i 0),(12,.i 0)],ob [(1,.arr 1 [])],2⟩) (fun _=>0) () trivial (Sub.of (by omega) (by simp) (by simp [go_sem]) (by simp [go_sem])) ?_
  rintro ⟨⟩ _
  refine K_run hB 60 ?_
  simp [go_sem,Inst.near,h0',ints]
 simp only [h0,if_true]
 have hrl:=x.rows_len
 refine K_run hB 60 ?_
 simp [go_sem,hrl]
 refine K_own 4 1 (by simp [go_sem]) ?_
 refine K_loopP (α:=Nat×Nat×(Nat→AObj)×Nat) (fun (k,j,σ,nx)=>k≤x.stops.length∧σ j= .arr 1 (ints ((nears x 0 x.stops).take k))∧j<nx)
  (fun (k,j,σ,nx)=>⟨sl [(3,.t (.sl x.rows)),(4,.ref j),(11,.i x.stops.length),(12,.i k)],σ,nx⟩) (fun y=>x.stops.length-y.1) (0,1,_,2)
  ?_ (Imp.slots (by simp [go_sem]) rfl rfl) ?_
 ·exact ⟨Nat.zero_le _,by simp [oput,ints],by omega⟩
 rintro ⟨k,j,σ,nx⟩ ⟨g1,cj,gn⟩
 refine K_run hB 60 ?_
 simp [go_sem]
 refine fork_dec (fun h=>?_) (fun h=>?_)
 rotate_left
 ·have:k=x.stops.length:=by omega
  subst this
  rw [←nears_len x 0 x.stops,List.take_length] at cj
  simp [go_sem,cj,Inst.near,h0]
 have htk:=nears_snoc x h
 have hlen:(ints ((nears x 0 x.stops).take k)).length=k:=by rw [ints_len,List.length_take,nears_len];omega
 have hkk:IntKind.i64.wrap ((k:Int)+1)=((k+1:Nat):Int):=by rw [w64 ((k:Int)+1) (by omega)];rfl
 generalize (nears x 0 x.stops).take k=R at cj hlen htk
 generalize hb:x.stops[k]=b at *
 simp [go_sem,hrl]
 refine K_loopP (α:=Nat×Int) (fun (i,v)=>i≤x.stops.length∧(0≤v∧v≤inf)∧(nearF k b i (x.stops.drop i) v).tmod inf=x.nearK k b)
  (fun (i,v)=>⟨sl [(3,.t (.sl x.rows)),(4,.ref j),(11,.i x.stops.length),(12,.i k),(5,.i k),(6,.i v),(16,.i x.stops.length),(17,.i i)],σ,nx⟩) (fun y=>x.stops.length-y.1) (0,inf)
  ⟨Nat.zero_le _,by omega,rfl⟩ (Imp.slots (by simp [go_sem,hinf]) rfl rfl) ?_
 rintro ⟨i,v⟩ ⟨i1,i2,i3⟩
 refine K_run hB 60 ?_
 simp [go_sem]
 refine fork_dec (fun hi=>?_) (fun hi=>?_)
 ·have hii:IntKind.i64.wrap ((i:Int)+1)=((i+1:Nat):Int):=by rw [w64 ((i:Int)+1) (by omega)];rfl
  have hfa:=far_in x.stops[i] b
  have hrow:=x.row_len x.stops[i]
  rw [nearF_drop hi] at i3
  by_cases hik:i=k
  ·rw [if_pos hik] at i3
   simp [go_sem,hik,w64 ((k:Int)+1) (by omega)]
   exact Next.mk (k+1,v) ⟨by simp only;omega,i2,by rw [hik] at i3;exact i3⟩ (Imp.slots (by simp [go_sem]) rfl rfl) (by simp only;omega)
  ·rw [if_neg hik] at i3
   simp [go_sem,hik,hi,h,hrl,rows_get,rowT,ints_get,ints_len,hrow,row_get,hb,hii]
   exact Next.mk (i+1,min v (far x.stops[i] b)) ⟨by simp only;omega,by omega,i3⟩ (Imp.slots (by simp [go_sem]) rfl rfl) (by simp only;omega)
 ·have:i=x.stops.length:=by omega
  subst this
  rw [List.drop_length] at i3
  have i4:v.tmod inf=x.nearK k b:=i3
  have hcap:k+1≤mostLen:=by omega
  rw [hinf] at i4
  have hw:IntKind.i64.wrap (x.nearK k b)=x.nearK k b:=by
   refine w64 _ ?_
   rw [←i4,Int.tmod_eq_emod_of_nonneg i2.1]
   omega
  simp [go_sem,i4,hw,cj,hlen,hcap,hkk]
  refine Next.mk (k+1,nx,_,nx+1) ?_ (Imp.slots (by simp [go_sem]) rfl rfl) (by simp only;omega)
  exact ⟨by simp only;omega,by simp [oput,htk,ints_snoc],by simp only;omega⟩
end Go.Proofs.YtackfabapangdaaGreat

set_option maxRecDepth 4000
namespace Go.Proofs.YtackfabapangdaaGreat
open Go Go.Proofs.YtackfabapangdaaGreat.R
theorem rnear_pure (x:Inst) (hl:x.stops.length<2^31):Pure P 227 [x.a] (.t (.sl (ints x.near))):=by
 have hinf:inf=1152921504606846976:=rfl
 refine pure_of Tryz.func227 rfl rfl (by simp [Tryz.f227]) (by simp [bnd,bnd.bndL,Inst.a]) (by simp [bnd]) fun B hB hnx=>?_
 simp only [Tryz.f227] at hB ⊢
 have hm:mostLen=4294967296:=rfl
 refine K_run hB 60 ?_
 simp [go_sem,Inst.a]
 refine K_call rfl rfl rfl (args:=[x.a]) (f:=255) (by simp [go_sem,Inst.a]) (by simp [go_sem,hB]) ((rmatrix_pure x hl).spec _ _) ?_
 rw [x.mat_rows]
 by_cases h0:x.may=true
 rotate_left
 ·have h0':x.may=false:=by simpa using h0
  simp only [h0',Bool.false_eq_true,if_false]
  refine K_run hB 60 ?_
  simp [go_sem]
  refine K_own 4 1 (by simp [go_sem]) ?_
  refine K_loopP (α:=Unit) (fun _=>True) (fun _=>⟨sl [(3,.t (.sl [])),(4,.ref 1),(5,.i 0)],ob [(1,.arr 1 [])],2⟩) (fun _=>0) () trivial (Sub.of (by omega) (by simp) (by simp [go_sem]) (by simp [go_sem])) ?_
  rintro ⟨⟩ _
  refine K_run hB 60 ?_
  simp [go_sem,Inst.near,h0',ints]
 simp only [h0,if_true]
 have hrl:=x.rows_len
 refine K_run hB 60 ?_
 simp [go_sem]
 refine K_own 4 1 (by simp [go_sem]) ?_
 refine K_loopP (α:=Nat×Nat×(Nat→AObj)×Nat) (fun (k,j,σ,nx)=>k≤x.stops.length∧σ j= .arr 1 (ints ((nears x 0 x.stops).take k))∧j<nx)
  (fun (k,j,σ,nx)=>⟨sl [(3,.t (.sl x.rows)),(4,.ref j),(5,.i k)],σ,nx⟩) (fun y=>x.stops.length-y.1) (0,1,_,2)
  ?_ (Imp.slots (by simp [go_sem]) rfl rfl) ?_
 ·exact ⟨Nat.zero_le _,by simp [oput,ints],by omega⟩
 rintro ⟨k,j,σ,nx⟩ ⟨g1,cj,gn⟩
 refine K_run hB 60 ?_
 simp [go_sem,hrl]
 refine fork_dec (fun h=>?_) (fun h=>?_)
 rotate_left
 ·have:k=x.stops.length:=by omega
  subst this
  rw [←nears_len x 0 x.stops,List.take_length] at cj
  simp [go_sem,cj,Inst.near,h0]
 have htk:=nears_snoc x h
 have hlen:(ints ((nears x 0 x.stops).take k)).length=k:=by rw [ints_len,List.length_take,nears_len];omega
 have hkk:IntKind.i64.wrap ((k:Int)+1)=((k+1:Nat):Int):=by rw [w64 ((k:Int)+1) (by omega)];rfl
 generalize (nears x 0 x.stops).take k=R at cj hlen htk
 generalize hb:x.stops[k]=b at *
 simp [go_sem]
 refine K_loopP (α:=Nat×Int) (fun (i,v)=>i≤x.stops.length∧(0≤v∧v≤inf)∧(nearF k b i (x.stops.drop i) v).tmod inf=x.nearK k b∧(v=inf↔(i=0∨(k=0∧i=1))))
  (fun (i,v)=>⟨sl [(3,.t (.sl x.rows)),(4,.ref j),(5,.i k),(6,.i (v.tmod inf)),(7,.i i)],σ,nx⟩) (fun y=>x.stops.length-y.1) (0,inf)
  ⟨Nat.zero_le _,by omega,rfl,by simp⟩ (Imp.slots (by simp [go_sem,hinf]) rfl rfl) ?_
 rintro ⟨i,v⟩ ⟨i1,i2,i3,i4⟩
 refine K_run hB 150 ?_
 simp [go_sem,hrl]
 refine fork_dec (fun hi=>?_) (fun hi=>?_)
 ·have hii:IntKind.i64.wrap ((i:Int)+1)=((i+1:Nat):Int):=by rw [w64 ((i:Int)+1) (by omega)];rfl
  have hfa:=far_in x.stops[i] b
  have hrow:=x.row_len x.stops[i]
  rw [nearF_drop hi] at i3
  by_cases hik:i=k
  ·rw [if_pos hik] at i3
   simp [go_sem,hik,w64 ((k:Int)+1) (by omega)]
   exact Next.mk (k+1,v) ⟨by simp only;omega,i2,by rw [hik] at i3;exact i3,by simp only at i4 ⊢;omega⟩ (Imp.slots (by simp [go_sem]) rfl rfl) (by simp only;omega)
  ·rw [if_neg hik] at i3
   by_cases hfirst:i=0∨(k=0∧i=1)
   ·have hv:v=inf:=i4.2 hfirst
    have hmin:min v (far x.stops[i] b)=far x.stops[i] b:=by omega
    have hmod:(far x.stops[i] b).tmod inf=far x.stops[i] b:=Int.tmod_eq_of_lt hfa.1 hfa.2
    rw [hmin] at i3
    rcases hfirst with h1 | ⟨h1,h2⟩
    ·have hk0:¬0=k:=by omega
     subst h1
     have hk1:¬(0:Int)=k:=by omega
     simp [go_sem,hk0,hk1,hi,h,hrl,rows_get,rowT,ints_get,ints_len,hrow,row_get,hb,w64 1 (by omega)]
     exact Next.mk (1,far x.stops[0] b) ⟨by simp only;omega,by omega,i3,by simp only;omega⟩ (Imp.slots (by simp [go_sem,hmod]) rfl rfl) (by simp only;omega)
    ·subst h1 h2
     have hi1:(1:Int)<x.stops.length:=by omega
     simp [go_sem,hi,hi1,h,hrl,rows_get,rowT,ints_get,ints_len,hrow,row_get,hb,w64 2 (by omega)]
     exact Next.mk (2,far x.stops[1] b) ⟨by simp only;omega,by omega,i3,by simp only;omega⟩ (Imp.slots (by simp [go_sem,hmod]) rfl rfl) (by simp only;omega)
   ·have hv:¬v=inf:=fun e=>hfirst (i4.1 e)
    have hvm:v.tmod inf=v:=Int.tmod_eq_of_lt i2.1 (by omega)
    have hi0:¬i=0:=fun e=>hfirst (.inl e)
    rw [hvm]
    by_cases hless:far x.stops[i] b<v
    ·have hmin:min v (far x.stops[i] b)=far x.stops[i] b:=by omega
     have hmod:(far x.stops[i] b).tmod inf=far x.stops[i] b:=Int.tmod_eq_of_lt hfa.1 hfa.2
     rw [hmin] at i3
     by_cases hk0:k=0
     ·have hi1:¬i=1:=fun e=>hfirst (.inr ⟨hk0,e⟩)
      subst hk0
      have j0:¬(i:Int)=0:=by omega
      have j1:¬(i:Int)=1:=by omega
      simp [go_sem,hik,hi0,hi1,j0,j1,hi,h,hrl,rows_get,rowT,ints_get,ints_len,hrow,row_get,hb,hii,hless]
      exact Next.mk (i+1,far x.stops[i] b) ⟨by simp only;omega,by omega,i3,by simp only;omega⟩ (Imp.slots (by simp [go_sem,hmod]) rfl rfl) (by simp only;omega)
     ·have j0:¬(i:Int)=0:=by omega
      have j1:¬(k:Int)=0:=by omega
      have j2:¬(i:Int)=k:=by omega
      simp [go_sem,hik,hi0,hk0,j0,j1,j2,hi,h,hrl,rows_get,rowT,ints_get,ints_len,hrow,row_get,hb,hii,hless]
      exact Next.mk (i+1,far x.stops[i] b) ⟨by simp only;omega,by omega,i3,by simp only;omega⟩ (Imp.slots (by simp [go_sem,hmod]) rfl rfl) (by simp only;omega)
    ·have hmin:min v (far x.stops[i] b)=v:=by omega
     rw [hmin] at i3
     by_cases hk0:k=0
     ·have hi1:¬i=1:=fun e=>hfirst (.inr ⟨hk0,e⟩)
      subst hk0
      have j0:¬(i:Int)=0:=by omega
      have j1:¬(i:Int)=1:=by omega
      simp [go_sem,hik,hi0,hi1,j0,j1,hi,h,hrl,rows_get,rowT,ints_get,ints_len,hrow,row_get,hb,hii,hless]
      exact Next.mk (i+1,v) ⟨by simp only;omega,i2,i3,by simp only;omega⟩ (Imp.slots (by simp [go_sem,hvm]) rfl rfl) (by simp only;omega)
     ·have j0:¬(i:Int)=0:=by omega
      have j1:¬(k:Int)=0:=by omega
      have j2:¬(i:Int)=k:=by omega
      simp [go_sem,hik,hi0,hk0,j0,j1,j2,hi,h,hrl,rows_get,rowT,ints_get,ints_len,hrow,row_get,hb,hii,hless]
      exact Next.mk (i+1,v) ⟨by simp only;omega,i2,i3,by simp only;omega⟩ (Imp.slots (by simp [go_sem,hvm]) rfl rfl) (by simp only;omega)
 ·have:i=x.stops.length:=by omega
  subst this
  rw [List.drop_length] at i3
  have i5:v.tmod inf=x.nearK k b:=i3
  have hcap:k+1≤mostLen:=by omega
  simp [go_sem,i5,cj,hlen,hcap,hkk]
  refine Next.mk (k+1,nx,_,nx+1) ?_ (Imp.slots (by simp [go_sem]) rfl rfl) (by simp only;omega)
  exact ⟨by simp only;omega,by simp [oput,htk,ints_snoc],by simp only;omega⟩
end Go.Proofs.YtackfabapangdaaGreat

set_option maxRecDepth 4000
namespace Go.Proofs.YtackfabapangdaaGreat
open Go Go.Proofs.YtackfabapangdaaGreat.R
def leftSum (may:Nat):Nat→List Int→Int→Int
 |_,[],n=>n
 |j,d :: l,n=>leftSum may (j+1) l (if 0<j∧hasB may j=false then IntKind.i64.wrap (n+d) else n)
theorem left_pure (near:List Int) (may:Nat) (σ:Nat→AObj) (nx:Nat):CallQ P 147 [.t (.sl (ints near)),.u may] σ nx fun r σ' nx'=>r= .fn (.func 192) [] [.ptr nx 0,.ptr (nx+1) 0]∧nx'=nx+2∧
  σ'=oput (oput σ nx (.box [.t (.sl (ints near))])) (nx+1) (.box [.u may]):=by
 refine spec_of Tryz.func147 rfl rfl (by simp [Tryz.f147]) fun B hB hnx hσ=>?_
 simp only [Tryz.f147] at hB ⊢
 refine K_run hB 100 ?_
 simp [go_sem]
 omega
theorem left1_spec (near:List Int) (may:Nat) (hm:may<2^64) (hl:near.length<2^63) (q b1 b2 nx:Nat) (st:Int→Nat→AObj) (h1:∀n,st n b1= .box [.t (.sl (ints near))]) (h2:∀n,st n b2= .box [.u may])
  (hy:∀(j d n:Int),YieldQ P q [.i j,.i d] (st n) nx fun σ' nx'=>σ'=st (IntKind.i64.wrap (n+d))∧nx'=nx) (n0:Int):
  CallQ P 192 [.yld q,.ptr b1 0,.ptr b2 0] (st n0) nx fun r σ' nx'=>σ'=st (leftSum may 0 near n0)∧nx'=nx:=by
 refine spec_of Tryz.func192 rfl rfl (by simp [Tryz.f192]) fun B hB hnx hσ=>?_
 simp only [Tryz.f192] at hB ⊢
 have hil:(ints near).length=near.length:=List.length_map _
 refine K_run hB 100 ?_
 simp [go_sem,h1,hil]
 refine K_loopP (α:=Nat×Int) (fun (k,n)=>k≤near.length∧leftSum may k (near.drop k) n=leftSum may 0 near n0) (fun (k,n)=>⟨sl [(0,.yld q),(1,.ptr b1 0),(2,.ptr b2 0),(6,.t (.sl (ints near))),(7,.i near.length),(8,.i k)],st n,nx⟩) (fun a=>near.length-a.1) (0,n0) ⟨Nat.zero_le _,rfl⟩ (Imp.slots (by simp [go_sem]) rfl rfl) ?_
 rintro ⟨k,n⟩ ⟨g1,g2⟩
 refine K_run hB 60 ?_
 simp [go_sem]
 refine fork_dec (fun hk=>?_) (fun hk=>?_)
 ·have hkk:IntKind.i64.wrap ((k:Int)+1)=((k+1:Nat):Int):=by rw [w64 ((k:Int)+1) (by omega)];rfl
  rw [List.drop_eq_getElem_cons hk,leftSum] at g2
  have hget:=ints_getS near hk
  generalize near[k]=d at *
  by_cases c1:0<k
  ·simp [go_sem,hil,hk,hget,c1,h2]
   refine K_call rfl rfl rfl (args:=[.u may,.i k]) (f:=193) (by simp [go_sem]) (by simp [go_sem,hB]) ((has_pure may k hm).spec _ _) ?_
   cases c2:hasB may k with
   |true=>
    rw [if_neg (by simp [c2])] at g2
    refine K_run hB 100 ?_
    simp [go_sem,hkk]
    exact Next.mk (k+1,n) ⟨by simp only;omega,g2⟩ (Imp.slots (by simp [go_sem]) rfl rfl) (by simp only;omega)
   |false=>
    rw [if_pos ⟨c1,c2⟩] at g2
    refine K_run hB 100 ?_
    simp [go_sem]
    refine K_yield rfl rfl rfl (q:=q) (args:=[.i k,.i d]) (by simp [go_sem]) (by simp [go_sem]) (by simp [go_sem,hB]) (hy k d n) ?_
    rintro σ' nx' ⟨rfl,rfl⟩
    refine K_run hB 100 ?_
    simp [go_sem,hkk]
    exact Next.mk (k+1,IntKind.i64.wrap (n+d)) ⟨by simp only;omega,g2⟩ (Imp.slots (by simp [go_sem]) rfl rfl) (by simp only;omega)
  ·rw [if_neg (by simp [c1])] at g2
   simp [go_sem,hil,hk,hget,c1,h2,hkk]
   exact Next.mk (k+1,n) ⟨by simp only;omega,g2⟩ (Imp.slots (by simp [go_sem]) rfl rfl) (by simp only;omega)
 ·have:k=near.length:=by omega
  subst this
  rw [List.drop_length,leftSum] at g2
  simp [go_sem,g2,hnx]
end Go.Proofs.YtackfabapangdaaGreat

set_option maxRecDepth 4000
namespace Go.Proofs.YtackfabapangdaaGreat
open Go Go.Proofs.YtackfabapangdaaGreat.R
def atLeast (near:List Int) (may:Nat):Int:=match near with
 |a :: b :: l=>leftSum may 0 (a :: b :: l) a
 |_=>0
def Inst.low (x:Inst) (s:State):Int:=atLeast x.near s.can
theorem near_len (x:Inst):x.near.length≤x.stops.length:=by
 unfold Inst.near
 split
 ·rw [nears_len];exact Nat.le_refl _
 ·exact Nat.zero_le _
theorem at_pure (x:Inst) (s:State) (hl:x.stops.length<2^31) (ho:s.ok):Pure P 88 [x.a,s.a] (.i (x.low s)):=by
 generalize hR:x.low s=R
 refine pure_ofR Tryz.func88 rfl rfl (by simp [Tryz.f88]) (by simp [bnd,bnd.bndL,Inst.a,State.a,State.cs]) (by simp [bnd,bnd.bndL]) fun B hB hnx hro=>?_
 simp only [Tryz.f88] at hB ⊢
 rw [Inst.low] at hR
 have hnl:=near_len x
 have hne:=near_pure x hl
 generalize x.near=near at *
 refine K_run hB 100 ?_
 simp [go_sem,Inst.a,State.a,State.cs]
 refine K_call rfl rfl rfl (args:=[x.a]) (f:=146) (by simp [go_sem,Inst.a]) (by simp [go_sem,hB]) ((hne).spec _ _) ?_
 match near,hR,hnl with
 |[],hR,_=>
  simp only [atLeast] at hR
  subst hR
  refine K_run hB 100 ?_
  simp [go_sem,ints]
 |[_],hR,_=>
  simp only [atLeast] at hR
  subst hR
  refine K_run hB 100 ?_
  simp [go_sem,ints]
 |d0 :: d1 :: l,hR,hnl=>
  simp only [atLeast] at hR
  have hil:(ints (d0 :: d1 :: l)).length=l.length+2:=by simp [ints]
  have hgt:¬(l.length:Int)+2<2:=by omega
  have hgt':¬((l.length+2:Nat):Int)<2:=by omega
  have hget:∀h:0<(ints (d0 :: d1 :: l)).length,(ints (d0 :: d1 :: l))[0]'h=[.i d0]:=fun h=>by simp [ints]
  have hll:l.length+2<2^63:=by simp only [List.length_cons] at hnl;omega
  have hle:=left_pure (d0 :: d1 :: l) s.can
  have hl1:=left1_spec (d0 :: d1 :: l) s.can ho.can (by simpa using hll) 5 3 4 6
  have hpos:(0:Int)<l.length+2:=by omega
  generalize hX:ints (d0 :: d1 :: l)=X at *
  generalize hN:leftSum s.can 0 (d0 :: d1 :: l)=N at *
  refine K_run hB 100 ?_
  simp [go_sem,hil,hgt,hgt',hget,hpos]
  refine K_callQ rfl rfl rfl (args:=[.t (.sl X),.u s.can]) (f:=147) (by simp [go_sem]) (by simp [go_sem,hB]) (hle _ _) ?_
  rintro r σ' nx' ⟨rfl,rfl,rfl⟩
  refine K_run hB 100 ?_
  simp [go_sem]
  refine K_less (Sub.of (l:=[(6,.ptr 2 0),(20,.fn (.func 192) [] [.ptr 3 0,.ptr 4 0])]) (o:=[(2,.box [.i d0]),(3,.box [.t (.sl X)]),(4,.box [.u s.can])]) (n:=5) (by omega) (by simp) (by simp [go_sem]) (by simp [go_sem])) ?_
  refine K_range hro (f:=192) (args:=[.yld 5,.ptr 3 0,.ptr 4 0]) (by simp [go_sem]) fun L hL=>?_
  obtain ⟨st,hst⟩:∃st:Int→Nat→AObj,st=fun n=>oput (oput (ob [(3,.box [.t (.sl X)]),(4,.box [.u s.can])]) 5 L) 2 (.box [.i n]):=⟨_,rfl⟩
  have e':oput (ob [(2,.box [.i d0]),(3,.box [.t (.sl X)]),(4,.box [.u s.can])]) 5 L=st d0:=funext fun i=>by
   by_cases e2:i=2
   ·subst e2;simp [hst,oput,ob]
   ·simp [hst,oput,ob,e2]
  have s2:∀n,st n 2= .box [.i n]:=fun n=>by simp [hst,oput]
  have s5:∀n,st n 5=L:=fun n=>by simp [hst,oput]
  have su:∀n m L',oput (oput (oput (st n) 5 L') 2 (.box [.i m])) 5 L=st m:=fun n m L'=>funext fun i=>by
   by_cases e2:i=2
   ·subst e2;simp [hst,oput]
   ·by_cases e5:i=5
    ·subst e5;simp [hst,oput]
    ·simp [hst,oput,e2,e5]
  have hsp:=hl1 st (fun n=>by simp [hst,oput,ob]) (fun n=>by simp [hst,oput,ob]) (fun j d n=>by
   refine yield_of ((s5 n).trans hL) rfl (by rw [hB];rfl) fun B' hB' hnx' _=>?_
   replace hB':=hB'.trans hB
   refine K_run hB' 60 ?_
   simp [go_sem,roundM,putL,(s5 n).trans hL]
   refine K_run hB' 60 ?_
   simp [go_sem,roundM,putL,hB,oput,s2,←hL]
   rw [hB] at hL
   subst hL
   exact su _ _ _) d0
  refine ⟨_,by rw [e'];exact hsp,?_⟩
  rintro r σ' nx' ⟨rfl,rfl⟩
  refine ⟨s5 _,?_⟩
  refine K_run hB 100 ?_
  simp [go_sem,oput,s2,hR]
end Go.Proofs.YtackfabapangdaaGreat

set_option maxRecDepth 4000
namespace Go.Proofs.YtackfabapangdaaGreat
open Go Go.Proofs.YtackfabapangdaaGreat.R
theorem rmay10_pure (x:Inst) (s:State) (hl:x.stops.length<2^63):Pure P 157 [x.a,s.a] (.b (x.may&&s.mayB x)):=by
 generalize hR:s.mayB x=R
 refine pure_of Tryz.func157 rfl rfl (by simp [Tryz.f157]) (by simp [bnd,bnd.bndL,Inst.a,State.a,State.cs]) (by simp [bnd,bnd.bndL]) fun B hB hnx=>?_
 simp only [Tryz.f157] at hB ⊢
 rw [State.mayB] at hR
 refine K_run hB 100 ?_
 simp [go_sem,Inst.a,State.a,State.cs]
 refine K_call rfl rfl rfl (args:=[x.a]) (f:=78) (by simp [go_sem,Inst.a]) (by simp [go_sem,hB]) ((rmay_pure x hl).spec _ _) ?_
 cases hm:x.may with
 |false=>
  refine K_run hB 100 ?_
  simp [go_sem]
 |true=>
  obtain ⟨p,hx⟩:=x.fit hm
  have hf:=hx.few
  have w1:=w64 (2*x.pairs) (by rw [hx.pairs];omega)
  refine K_run hB 100 ?_
  simp [go_sem]
  refine atVal_decT (fun h1=>?_) (fun h1=>by simp [go_sem,h1,w1,←hR])
  simp [go_sem,h1,w1]
  refine atVal_decT (fun h2=>?_) (fun h2=>by simp [go_sem,h2,w1,←hR])
  simp [go_sem,h2,w1]
  refine atVal_decT (fun h3=>?_) (fun h3=>by simp [go_sem,h3,w1,←hR])
  simp [go_sem,h3,w1]
  refine atVal_decT (fun h4=>?_) (fun h4=>by simp [go_sem,h4,w1,←hR])
  simp [go_sem,h4,w1]
  refine atVal_decT (fun h5=>?_) (fun h5=>by simp [go_sem,h5,w1,←hR])
  simp [go_sem,h5,w1]
  refine atVal_decT (fun h6=>?_) (fun h6=>by simp [go_sem,h6,w1,←hR])
  simp [go_sem,h6,w1]
  refine atVal_decT (fun h7=>?_) (fun h7=>by simp [go_sem,h7,w1,←hR])
  simp [go_sem,h7,w1]
  simp [←hR,h1,h2,h3,h4,h5,h6,h7]
theorem rhome_pure (x:Inst) (s:State) {p:Nat} (hx:x.Fit p) (hs:s.Fit x p) (ho:s.ok):Pure P 238 [x.a,s.a,.i (far (x.stop s.spot) (x.stop 0))] (mv ((x.home s).1,(if (x.home s).2=true then far (x.stop s.spot) (x.stop 0) else 0),(x.home s).2)):=by
 generalize hR:x.home s=R
 refine pure_of Tryz.func238 rfl rfl (by simp [Tryz.f238]) (by simp [bnd,bnd.bndL,Inst.a,State.a,State.cs]) (by simp [bnd,bnd.bndL,mv,State.a,State.cs]) fun B hB hnx=>?_
 simp only [Tryz.f238] at hB ⊢
 have g2:(0:Int)<x.stops.length:=hx.lt (j:=0) (by omega)
 have g3:0<x.stops.length:=by omega
 have g4:=hx.get0
 have hf:=hx.at (j:=0) (by omega) (by omega)
 have hfi:=far_in' (x.stop s.spot) (x.stop 0)
 rw [Inst.home,Inst.stayB,Inst.homeS] at hR
 generalize far (x.stop s.spot) (x.stop 0)=d at *
 generalize x.stop 0=a at *
 have w1:=w64 (s.time+d) (by have:=hs.time;omega)
 have w2:=w64 (s.car+1) (by have:=hs.car;have:=hx.cars;omega)
 refine K_run hB 100 ?_
 simp [go_sem,Inst.a,State.a,State.cs]
 refine K_call rfl rfl rfl (args:=[x.a,.u s.must]) (f:=201) (by simp [go_sem,Inst.a]) (by simp [go_sem,hB]) ((rall_pure x s.must ho.must hx).spec _ _) ?_
 by_cases c1:s.spot=0
 ·have:R=(s,false):=by rw [←hR,if_pos (by simp [c1])]
  subst this
  refine K_run hB 100 ?_
  simp [go_sem,c1]
  refine K_drawn [] rfl (by rw [hB];kernel_rfl) ?_
  refine K_run hB 100 ?_
  simp [go_sem,c1,mv,State.a,State.cs]
 by_cases c2:s.on=0
 rotate_left
 ·have:R=(s,false):=by rw [←hR,if_pos (by simp [c2])]
  subst this
  refine K_run hB 100 ?_
  simp [go_sem,c1,c2]
  refine K_drawn [] rfl (by rw [hB];kernel_rfl) ?_
  refine K_run hB 100 ?_
  simp [go_sem,c1,c2,mv,State.a,State.cs]
 by_cases c3:x.cars≤s.car
 ·have:R=(s,false):=by rw [←hR,if_pos (by simp [c3])]
  subst this
  refine K_run hB 100 ?_
  simp [go_sem,c1,c2,c3]
  refine K_drawn [] rfl (by rw [hB];kernel_rfl) ?_
  refine K_run hB 100 ?_
  simp [go_sem,c1,c2,c3,mv,State.a,State.cs]
 cases c4:x.allB s.must with
 |true=>
  have:R=(s,false):=by rw [←hR,if_pos (by simp [c4])]
  subst this
  refine K_run hB 100 ?_
  simp [go_sem,c1,c2,c3]
  refine K_drawn [] rfl (by rw [hB];kernel_rfl) ?_
  refine K_run hB 100 ?_
  simp [go_sem,c1,c2,c3,mv,State.a,State.cs]
 |false=>
  by_cases c5:a.due<s.time+d
  ·have:R=(s,false):=by rw [←hR,if_pos (by simp [c5])]
   subst this
   refine K_run hB 100 ?_
   simp [go_sem,c1,c2,c3]
   refine K_drawn [] rfl (by rw [hB];kernel_rfl) ?_
   refine K_run hB 100 ?_
   simp [go_sem,c1,c2,c3,c5,w1,g2,g3,g4,Stop.t,mv,State.a,State.cs]
  ·rw [if_neg (by simp [c1,c2,c3,c4,c5])] at hR
   refine K_run hB 100 ?_
   simp [go_sem,c1,c2,c3]
   refine K_drawn [] rfl (by rw [hB];kernel_rfl) ?_
   refine K_run hB 100 ?_
   simp [go_sem,c1,c2,c3,c5,w1,w2,g2,g3,g4,Stop.t,←hR,mv,State.a,State.cs]
def Inst.rvisit (x:Inst) (s:State) (j b:Int):State:=
 {spot:=j,car:=s.car,time:=b+(x.stop j).service,load:=max (s.load+(x.stop j).demand) 0,first:=if s.spot=0 then j else s.first,must:=withN s.must j,can:=withN s.can j,on:=if j≤x.pairs then withN s.on j else withoutN s.on (j-x.pairs)}
theorem rvisit_pure (x:Inst) (s:State) (j b:Int) {p:Nat} (hx:x.Fit p) (hs:s.Fit x p) (ho:s.ok) (h2:0≤j) (h3:j≤2*p) (hb:0≤b∧b≤1048576):Pure P 239 [x.a,s.a,.i j,.i b] ((x.rvisit s j b).a):=by
 generalize hR:x.rvisit s j b=R
 refine pure_of Tryz.func239 rfl rfl (by simp [Tryz.f239]) (by simp [bnd,bnd.bndL,Inst.a,State.a,State.cs]) (by simp [bnd,bnd.bndL,State.a,State.cs]) fun B hB hnx=>?_
 simp only [Tryz.f239] at hB ⊢
 have g2:=hx.lt h3
 have g4:=hx.get h3
 have hf:=hx.at h2 h3
 have hp:=hx.pairs
 have hfew:=hx.few
 rw [Inst.rvisit] at hR
 generalize x.stop j=a at *
 have w1:=w64 (b+a.service) (by have:=hf.service;omega)
 have w2:=w64 (s.load+a.demand) (by have:=hf.demand;have:=hs.load;omega)
 have w3:=w64 (j-x.pairs) (by omega)
 refine K_run hB 100 ?_
 simp [go_sem,Inst.a,State.a,State.cs,h2,g2,g4,Stop.t,w1]
 refine K_drawnT [10] rfl (by rw [hB];kernel_rfl) (by kernel_rfl) fun ht=>?_
 have hmax:(if s.load+a.demand<0 then 0 else s.load+a.demand)=max (s.load+a.demand) 0:=by omega
 by_cases c1:s.load+a.demand<0
 all_goals
  by_cases c2:s.spot=0
  all_goals
   refine K_run hB 100 ?_
   simp [go_sem,ht,h2,g2,g4,Stop.t,w2,c1,c2]
   refine K_call rfl rfl rfl (args:=[.u s.must,.i j]) (f:=258) (by simp [go_sem]) (by simp [go_sem,hB]) ((rwith_pure s.must j ho.must).spec _ _) ?_
   refine K_run hB 100 ?_
   simp [go_sem]
   refine K_call rfl rfl rfl (args:=[.u s.can,.i j]) (f:=258) (by simp [go_sem]) (by simp [go_sem,hB]) ((rwith_pure s.can j ho.can).spec _ _) ?_
   by_cases c3:j≤x.pairs
   ·refine K_run hB 100 ?_
    simp [go_sem,c3]
    refine K_call rfl rfl rfl (args:=[.u s.on,.i j]) (f:=258) (by simp [go_sem]) (by simp [go_sem,hB]) ((rwith_pure s.on j ho.on).spec _ _) ?_
    rw [if_pos c3] at hR
    first | rw [if_pos c1] at hmax | rw [if_neg c1] at hmax
    refine K_run hB 100 ?_
    simp [go_sem,←hR,c2,←hmax]
   ·refine K_run hB 100 ?_
    simp [go_sem,c3,w3]
    refine K_call rfl rfl rfl (args:=[.u s.on,.i (j-x.pairs)]) (f:=259) (by simp [go_sem]) (by simp [go_sem,hB]) ((rwithout_pure s.on (j-x.pairs) ho.on).spec _ _) ?_
    rw [if_neg c3] at hR
    first | rw [if_pos c1] at hmax | rw [if_neg c1] at hmax
    refine K_run hB 100 ?_
    simp [go_sem,←hR,c2,←hmax]
end Go.Proofs.YtackfabapangdaaGreat

set_option maxRecDepth 4000
namespace Go.Proofs.YtackfabapangdaaGreat
open Go Go.Proofs.YtackfabapangdaaGreat.R
theorem move_none {x:Inst} {s:State} {j:Int} (h:¬(x.may=true∧s.mayB x=true∧0≤j∧j≤2*x.pairs)):x.move s j=(s,0,false):=by
 unfold Inst.move
 split
 ·rename_i c
  unfold Inst.step
  rw [if_pos]
  have:¬(0≤j∧j≤2*x.pairs):=fun e=>h ⟨c.1,c.2,e.1,e.2⟩
  omega
 ·rfl
theorem move_in {x:Inst} {s:State} {j:Int} (h1:x.may=true) (h2:s.mayB x=true) (h3:0≤j) (h4:j≤2*x.pairs):x.move s j=if (x.to s j).2=true then ((x.to s j).1,far (x.stop s.spot) (x.stop j),true) else (s,0,false):=by
 unfold Inst.move Inst.step
 rw [if_pos ⟨h1,h2⟩,if_neg (by omega)]
theorem home_fst (x:Inst) (s:State) (h:(x.home s).2=false):(x.home s).1=s:=by
 unfold Inst.home at h ⊢
 split
 ·rfl
 ·rename_i c
  rw [if_neg c] at h
  cases h
theorem to_visit {x:Inst} {s:State} {j:Int} (h0:j≠0) (hl:x.lateB s j=false) (hf:j≤x.pairs→x.fullB s j=false) (he:x.pairs<j→x.emptyB s j=false):x.to s j=(x.rvisit s j (x.begins s j),true):=by
 unfold Inst.to
 rw [if_neg h0]
 by_cases c:j≤x.pairs
 ·rw [if_pos c]
  simp [Inst.take,hf c,Inst.visit,hl,Inst.seen,Inst.rvisit,c]
 ·rw [if_neg c]
  simp [Inst.bring,he (by omega),Inst.visit,hl,Inst.seen,Inst.rvisit,c]
theorem to_not {x:Inst} {s:State} {j:Int} (h0:j≠0) (h:x.lateB s j=true∨(j≤x.pairs∧x.fullB s j=true)∨(x.pairs<j∧x.emptyB s j=true)):(x.to s j).2=false:=by
 unfold Inst.to
 rw [if_neg h0]
 rcases h with h | ⟨h1,h2⟩ | ⟨h1,h2⟩
 ·split
  ·unfold Inst.take Inst.visit
   split
   ·rfl
   ·simp [h]
  ·unfold Inst.bring Inst.visit
   split
   ·rfl
   ·simp [h]
 ·rw [if_pos h1]
  simp [Inst.take,h2]
 ·rw [if_neg (by omega)]
  simp [Inst.bring,h2]
theorem rmove_take (x:Inst) (s:State) (j:Int) (hl:x.stops.length<2^63) (ho:s.ok) (hm:x.may=true) (hs:s.mayB x=true) (h2:0≤j) (c2:¬2*x.pairs<j) (c3:j≠0) (c6:j≤x.pairs):Pure P 204 [x.a,s.a,.i j] (mv (x.move s j)):=by
 generalize hR:x.move s j=R
 refine pure_of Tryz.func204 rfl rfl (by simp [Tryz.f204]) (by simp [bnd,bnd.bndL,Inst.a,State.a,State.cs]) (by simp [bnd,bnd.bndL,mv,State.a,State.cs]) fun B hB hnx=>?_
 simp only [Tryz.f204] at hB ⊢
 refine K_run hB 100 ?_
 simp [go_sem,Inst.a,State.a,State.cs]
 refine K_call rfl rfl rfl (args:=[x.a,s.a]) (f:=157) (by simp [go_sem,Inst.a,State.a,State.cs]) (by simp [go_sem,hB]) ((rmay10_pure x s hl).spec _ _) ?_
 obtain ⟨p,hx⟩:=x.fit hm
 have hst:=s.fit hx hs
 have hfew:=hx.few
 have hp:=hx.pairs
 have w1:=w64 (2*x.pairs) (by omega)
 have c1:¬j<0:=by omega
 have h3:j≤2*p:=by omega
 have g1:=hx.lt hst.spot.2
 have g2:=hx.lt h3
 have g3:=hx.get hst.spot.2
 have g4:=hx.get h3
 have hsp:=hst.spot.1
 rw [move_in hm hs h2 (by omega)] at hR
 refine K_run hB 100 ?_
 simp [go_sem,hm,hs,c1,c2,w1]
 refine K_drawn [] rfl (by rw [hB];kernel_rfl) ?_
 have hfar:=rfar_pure (x.stop s.spot) (x.stop j)
 have hfi:=far_in' (x.stop s.spot) (x.stop j)
 refine K_run hB 100 ?_
 simp [go_sem,hsp,g1,h2,g2,g3,g4,Stop.t]
 refine K_dCallP rfl rfl rfl (args:=[.agg ((x.stop s.spot).t.map .t),.agg ((x.stop j).t.map .t)]) (f:=202) (by simp [go_sem,Stop.t]) (hfar) ?_
 have hf:=hx.at h2 h3
 have hlate:x.lateB s j=(hasB s.must j||decide (x.begins s j>(x.stop j).due)):=rfl
 have hbe:x.begins s j=max (s.time+far (x.stop s.spot) (x.stop j)) (x.stop j).ready:=rfl
 have hfull:x.fullB s j=(decide (s.load+(x.stop j).demand>x.room)||(decide (s.spot=0)&&decide (j≤s.first))):=rfl
 have hempty:x.emptyB s j=(decide (s.spot=0)|| !hasB s.can (j-x.pairs)):=rfl
 have hto:=to_visit (x:=x) (s:=s) (j:=j) c3
 have htn:=to_not (x:=x) (s:=s) (j:=j) c3
 have hmax:(if s.time+far (x.stop s.spot) (x.stop j)<(x.stop j).ready then (x.stop j).ready else s.time+far (x.stop s.spot) (x.stop j))=x.begins s j:=by rw [hbe];omega
 have hvis:x.begins s j≤(x.stop j).due→_:=fun h=>rvisit_pure x s j (x.begins s j) hx hst ho h2 h3 (by have:=hf.ready;have:=hf.due;have:=hst.time;omega)
 have w2:=w64 (s.time+far (x.stop s.spot) (x.stop j)) (by have:=hst.time;omega)
 generalize x.begins s j=b at *
 generalize far (x.stop s.spot) (x.stop j)=d at *
 generalize x.lateB s j=late at *
 generalize x.fullB s j=full at *
 generalize x.emptyB s j=empty at *
 have hdem:=hf.demand
 have hload:=hst.load
 generalize x.stop j=a at *
 have w3:=w64 (s.load+a.demand) (by omega)
 have w4:=w64 (j-x.pairs) (by omega)
 have w5:=w64 b (by have:=hf.ready;have:=hst.time;omega)
 by_cases c4:s.time+d<a.ready
 all_goals
  first | rw [if_pos c4] at hmax | rw [if_neg c4] at hmax
  rw [hmax] at c4
  refine K_run hB 100 ?_
  simp [go_sem,c3,c4,h2,g2,g4,Stop.t,w2,w5,hmax]
  refine K_call rfl rfl rfl (args:=[.u s.must,.i j]) (f:=228) (by simp [go_sem]) (by simp [go_sem,hB]) ((rhas_pure s.must j ho.must).spec _ _) ?_
  cases hha:hasB s.must j with
  |true=>
   rw [if_neg (by rw [htn (.inl (by simp [hlate,hha]))];simp)] at hR
   subst hR
   refine K_run hB 100 ?_
   simp [go_sem,mv,State.a,State.cs]
  |false=>
   rw [hha,Bool.false_or] at hlate
   by_cases c5:a.due<b
   rotate_left
   ·skip
    have hl0:late=false:=by rw [hlate];exact decide_eq_false c5
    rw [hl0] at hto
    by_cases c7:full=true
    ·rw [if_neg (by rw [htn (.inr (.inl ⟨c6,c7⟩))];simp)] at hR
     subst hR
     rw [c7,eq_comm,Bool.or_eq_true,Bool.and_eq_true,decide_eq_true_eq,decide_eq_true_eq,decide_eq_true_eq] at hfull
     refine K_run hB 100 ?_
     simp [go_sem,c5,c6,h2,g2,g4,Stop.t,w2,w5,hmax,w3]
     refine K_drawn [] rfl (by rw [hB];kernel_rfl) ?_
     by_cases c8:x.room<s.load+a.demand
     ·refine K_run hB 100 ?_
      simp [go_sem,c5,c6,h2,g2,g4,Stop.t,w2,w5,hmax,w3,c8,mv,State.a,State.cs]
     ·obtain ⟨c9,c10⟩:=hfull.resolve_left c8
      refine K_run hB 100 ?_
      simp [go_sem,c5,c6,h2,g2,g4,Stop.t,w2,w5,hmax,w3,c8,c9,c10,mv,State.a,State.cs]
    ·have c7:full=false:=by simpa using c7
     have hv:=hvis (by omega)
     rw [hto rfl (fun _=>c7) (by omega),if_pos rfl] at hR
     subst hR
     rw [c7,eq_comm,Bool.or_eq_false_iff,Bool.and_eq_false_iff,decide_eq_false_iff_not,decide_eq_false_iff_not,decide_eq_false_iff_not] at hfull
     obtain ⟨c8,c9⟩:=hfull
     have c10:¬x.pairs<j:=by omega
     refine K_run hB 100 ?_
     simp [go_sem,c5,c6,h2,g2,g4,Stop.t,w2,w5,hmax,w3]
     refine K_drawn [] rfl (by rw [hB];kernel_rfl) ?_
     by_cases c9':s.spot=0
     all_goals
      first
      |have c11:=c9.resolve_left (fun h=>h c9')
       refine K_run hB 100 ?_
       simp [go_sem,c6,h2,g2,g4,Stop.t,w2,w5,hmax,w3,c8,c9',c11,w4]
      |refine K_run hB 100 ?_
       simp [go_sem,c6,h2,g2,g4,Stop.t,w2,w5,hmax,w3,c8,c9',w4]
      refine K_call rfl rfl rfl (args:=[.u s.can,.i (j-x.pairs)]) (f:=228) (by simp [go_sem]) (by simp [go_sem,hB]) ((rhas_pure s.can (j-x.pairs) ho.can).spec _ _) ?_
      refine K_run hB 100 ?_
      simp [go_sem,c10]
      refine K_call rfl rfl rfl (args:=[x.a,s.a,.i j,.i b]) (f:=239) (by simp [go_sem,Inst.a,State.a,State.cs,c9']) (by simp [go_sem,hB]) ((hv).spec _ _) ?_
      refine K_run hB 100 ?_
      simp [go_sem,mv,State.a,State.cs]
   ·rw [if_neg (by rw [htn (.inl (by rw [hlate];exact decide_eq_true c5))];simp)] at hR
    subst hR
    refine K_run hB 100 ?_
    simp [go_sem,c5,h2,g2,g4,Stop.t,hmax,w2,w5,mv,State.a,State.cs]
theorem rmove_bring (x:Inst) (s:State) (j:Int) (hl:x.stops.length<2^63) (ho:s.ok) (hm:x.may=true) (hs:s.mayB x=true) (h2:0≤j) (c2:¬2*x.pairs<j) (c3:j≠0) (c6:¬j≤x.pairs):Pure P 204 [x.a,s.a,.i j] (mv (x.move s j)):=by
 generalize hR:x.move s j=R
 refine pure_of Tryz.func204 rfl rfl (by simp [Tryz.f204]) (by simp [bnd,bnd.bndL,Inst.a,State.a,State.cs]) (by simp [bnd,bnd.bndL,mv,State.a,State.cs]) fun B hB hnx=>?_
 simp only [Tryz.f204] at hB ⊢
 refine K_run hB 100 ?_
 simp [go_sem,Inst.a,State.a,State.cs]
 refine K_call rfl rfl rfl (args:=[x.a,s.a]) (f:=157) (by simp [go_sem,Inst.a,State.a,State.cs]) (by simp [go_sem,hB]) ((rmay10_pure x s hl).spec _ _) ?_
 obtain ⟨p,hx⟩:=x.fit hm
 have hst:=s.fit hx hs
 have hfew:=hx.few
 have hp:=hx.pairs
 have w1:=w64 (2*x.pairs) (by omega)
 have c1:¬j<0:=by omega
 have h3:j≤2*p:=by omega
 have g1:=hx.lt hst.spot.2
 have g2:=hx.lt h3
 have g3:=hx.get hst.spot.2
 have g4:=hx.get h3
 have hsp:=hst.spot.1
 rw [move_in hm hs h2 (by omega)] at hR
 refine K_run hB 100 ?_
 simp [go_sem,hm,hs,c1,c2,w1]
 refine K_drawn [] rfl (by rw [hB];kernel_rfl) ?_
 have hfar:=rfar_pure (x.stop s.spot) (x.stop j)
 have hfi:=far_in' (x.stop s.spot) (x.stop j)
 refine K_run hB 100 ?_
 simp [go_sem,hsp,g1,h2,g2,g3,g4,Stop.t]
 refine K_dCallP rfl rfl rfl (args:=[.agg ((x.stop s.spot).t.map .t),.agg ((x.stop j).t.map .t)]) (f:=202) (by simp [go_sem,Stop.t]) (hfar) ?_
 have hf:=hx.at h2 h3
 have hlate:x.lateB s j=(hasB s.must j||decide (x.begins s j>(x.stop j).due)):=rfl
 have hbe:x.begins s j=max (s.time+far (x.stop s.spot) (x.stop j)) (x.stop j).ready:=rfl
 have hfull:x.fullB s j=(decide (s.load+(x.stop j).demand>x.room)||(decide (s.spot=0)&&decide (j≤s.first))):=rfl
 have hempty:x.emptyB s j=(decide (s.spot=0)|| !hasB s.can (j-x.pairs)):=rfl
 have hto:=to_visit (x:=x) (s:=s) (j:=j) c3
 have htn:=to_not (x:=x) (s:=s) (j:=j) c3
 have hmax:(if s.time+far (x.stop s.spot) (x.stop j)<(x.stop j).ready then (x.stop j).ready else s.time+far (x.stop s.spot) (x.stop j))=x.begins s j:=by rw [hbe];omega
 have hvis:x.begins s j≤(x.stop j).due→_:=fun h=>rvisit_pure x s j (x.begins s j) hx hst ho h2 h3 (by have:=hf.ready;have:=hf.due;have:=hst.time;omega)
 have w2:=w64 (s.time+far (x.stop s.spot) (x.stop j)) (by have:=hst.time;omega)
 generalize x.begins s j=b at *
 generalize far (x.stop s.spot) (x.stop j)=d at *
 generalize x.lateB s j=late at *
 generalize x.fullB s j=full at *
 generalize x.emptyB s j=empty at *
 have hdem:=hf.demand
 have hload:=hst.load
 generalize x.stop j=a at *
 have w3:=w64 (s.load+a.demand) (by omega)
 have w4:=w64 (j-x.pairs) (by omega)
 have w5:=w64 b (by have:=hf.ready;have:=hst.time;omega)
 by_cases c4:s.time+d<a.ready
 all_goals
  first | rw [if_pos c4] at hmax | rw [if_neg c4] at hmax
  rw [hmax] at c4
  refine K_run hB 100 ?_
  simp [go_sem,c3,c4,h2,g2,g4,Stop.t,w2,w5,hmax]
  refine K_call rfl rfl rfl (args:=[.u s.must,.i j]) (f:=228) (by simp [go_sem]) (by simp [go_sem,hB]) ((rhas_pure s.must j ho.must).spec _ _) ?_
  cases hha:hasB s.must j with
  |true=>
   rw [if_neg (by rw [htn (.inl (by simp [hlate,hha]))];simp)] at hR
   subst hR
   refine K_run hB 100 ?_
   simp [go_sem,mv,State.a,State.cs]
  |false=>
   rw [hha,Bool.false_or] at hlate
   by_cases c5:a.due<b
   rotate_left
   ·skip
    have hl0:late=false:=by rw [hlate];exact decide_eq_false c5
    rw [hl0] at hto
    have c10:x.pairs<j:=by omega
    refine K_run hB 100 ?_
    simp [go_sem,c5,c6,h2,g2,g4,Stop.t,w2,w5,hmax,w3]
    refine K_drawn [] rfl (by rw [hB];kernel_rfl) ?_
    refine K_run hB 100 ?_
    simp [go_sem,c6,h2,g2,g4,Stop.t,w2,w5,hmax,w3,w4]
    refine K_call rfl rfl rfl (args:=[.u s.can,.i (j-x.pairs)]) (f:=228) (by simp [go_sem]) (by simp [go_sem,hB]) ((rhas_pure s.can (j-x.pairs) ho.can).spec _ _) ?_
    by_cases c7:s.spot=0
    ·rw [if_neg (by rw [htn (.inr (.inr ⟨c10,by rw [hempty,c7];rfl⟩))];simp)] at hR
     subst hR
     refine K_run hB 100 ?_
     simp [go_sem,c10,c7,mv,State.a,State.cs]
    ·cases c8:hasB s.can (j-x.pairs) with
     |false=>
      rw [if_neg (by rw [htn (.inr (.inr ⟨c10,by rw [hempty,c8];simp⟩))];simp)] at hR
      subst hR
      refine K_run hB 100 ?_
      simp [go_sem,c10,c7,mv,State.a,State.cs]
     |true=>
      have hv:=hvis (by omega)
      rw [hto rfl (fun h=>absurd h c6) (fun _=>by rw [hempty,c8];simp [c7]),if_pos rfl] at hR
      subst hR
      refine K_run hB 100 ?_
      simp [go_sem,c10,c7]
      refine K_call rfl rfl rfl (args:=[x.a,s.a,.i j,.i b]) (f:=239) (by simp [go_sem,Inst.a,State.a,State.cs]) (by simp [go_sem,hB]) ((hv).spec _ _) ?_
      refine K_run hB 100 ?_
      simp [go_sem,mv,State.a,State.cs]
   ·rw [if_neg (by rw [htn (.inl (by rw [hlate];exact decide_eq_true c5))];simp)] at hR
    subst hR
    refine K_run hB 100 ?_
    simp [go_sem,c5,h2,g2,g4,Stop.t,hmax,w2,w5,mv,State.a,State.cs]
theorem rmove_pure (x:Inst) (s:State) (j:Int) (hl:x.stops.length<2^63) (ho:s.ok):Pure P 204 [x.a,s.a,.i j] (mv (x.move s j)):=by
 by_cases q1:x.may=true∧s.mayB x=true∧0≤j∧¬2*x.pairs<j∧j≠0
 ·obtain ⟨q1,q2,q3,q4,q5⟩:=q1
  by_cases q6:j≤x.pairs
  ·exact rmove_take x s j hl ho q1 q2 q3 q4 q5 q6
  ·exact rmove_bring x s j hl ho q1 q2 q3 q4 q5 q6
 generalize hR:x.move s j=R
 refine pure_of Tryz.func204 rfl rfl (by simp [Tryz.f204]) (by simp [bnd,bnd.bndL,Inst.a,State.a,State.cs]) (by simp [bnd,bnd.bndL,mv,State.a,State.cs]) fun B hB hnx=>?_
 simp only [Tryz.f204] at hB ⊢
 refine K_run hB 100 ?_
 simp [go_sem,Inst.a,State.a,State.cs]
 refine K_call rfl rfl rfl (args:=[x.a,s.a]) (f:=157) (by simp [go_sem,Inst.a,State.a,State.cs]) (by simp [go_sem,hB]) ((rmay10_pure x s hl).spec _ _) ?_
 cases hm:(x.may&&s.mayB x) with
 |false=>
  have hn:x.move s j=(s,0,false):=move_none fun h=>by simp [h.1,h.2.1] at hm
  rw [hn] at hR
  subst hR
  refine K_run hB 100 ?_
  simp [go_sem,mv,State.a,State.cs]
 |true=>
  rw [Bool.and_eq_true] at hm
  obtain ⟨hm,hs⟩:=hm
  obtain ⟨p,hx⟩:=x.fit hm
  have hst:=s.fit hx hs
  have hfew:=hx.few
  have hp:=hx.pairs
  have w1:=w64 (2*x.pairs) (by omega)
  by_cases c1:j<0
  ·rw [move_none (by omega)] at hR
   subst hR
   refine K_run hB 100 ?_
   simp [go_sem,c1,mv,State.a,State.cs]
  by_cases c2:2*x.pairs<j
  ·rw [move_none (by omega)] at hR
   subst hR
   refine K_run hB 100 ?_
   simp [go_sem,c1,c2,w1,mv,State.a,State.cs]
  obtain rfl:j=0:=by
   rcases Decidable.em (j=0) with e | e
   ·exact e
   ·exact absurd ⟨hm,hs,by omega,c2,e⟩ q1
  have h3:(0:Int)≤2*p:=by omega
  have g1:=hx.lt hst.spot.2
  have g2:(0:Int)<x.stops.length:=hx.lt h3
  have g3:=hx.get hst.spot.2
  have g4:=hx.get0
  have hsp:=hst.spot.1
  have g5:0<x.stops.length:=by omega
  rw [move_in hm hs (by omega) (by omega)] at hR
  refine K_run hB 100 ?_
  simp [go_sem,c1,c2,w1]
  refine K_drawn [] rfl (by rw [hB];kernel_rfl) ?_
  have hfar:=rfar_pure (x.stop s.spot) (x.stop 0)
  refine K_run hB 100 ?_
  simp [go_sem,hsp,g1,g2,g3,g4,g5,Stop.t]
  refine K_dCallP rfl rfl rfl (args:=[.agg ((x.stop s.spot).t.map .t),.agg ((x.stop 0).t.map .t)]) (f:=202) (by simp [go_sem,Stop.t]) (hfar) ?_
  have hh:=rhome_pure x s hx hst ho
  have e:x.to s 0=x.home s:=by simp [Inst.to]
  have e2:=home_fst x s
  rw [e] at hR
  generalize x.home s=V at *
  obtain ⟨t,is⟩:=V
  generalize far (x.stop s.spot) (x.stop 0)=d at *
  refine K_run hB 100 ?_
  simp [go_sem]
  refine K_call rfl rfl rfl (args:=[x.a,s.a,.i d]) (f:=238) (by simp [go_sem,Inst.a,State.a,State.cs]) (by simp [go_sem,hB]) ((hh).spec _ _) ?_
  cases is with
  |false=>
   have e3:t=s:=e2 rfl
   rw [if_neg (by simp)] at hR
   subst hR
   subst e3
   refine K_run hB 100 ?_
   simp [go_sem,mv,State.a,State.cs]
  |true=>
   rw [if_pos rfl] at hR
   subst hR
   refine K_run hB 100 ?_
   simp [go_sem,mv,State.a,State.cs]
end Go.Proofs.YtackfabapangdaaGreat

set_option maxRecDepth 4000
namespace Go.Proofs.YtackfabapangdaaGreat
open Go Go.Proofs.YtackfabapangdaaGreat.R
theorem rsame_pure (l m:List Int) (hl:l.length<2^63) (hm:m.length<2^63):Pure P 38 [.t (.sl (ints l)),.t (.sl (ints m))] (.b (decide (l=m))):=by
 refine pure_of Tryz.func38 rfl rfl (by simp [Tryz.f38]) (by simp [bnd,bnd.bndL]) (by simp [bnd,bnd.bndL]) fun B hB hnx=>?_
 simp only [Tryz.f38] at hB ⊢
 have h1:(ints l).length=l.length:=List.length_map _
 have h2:(ints m).length=m.length:=List.length_map _
 by_cases c0:l.length=m.length
 rotate_left
 ·have:¬l=m:=fun e=>c0 (by rw [e])
  refine K_run hB 100 ?_
  simp [go_sem,h1,h2,c0,this]
 refine K_run hB 100 ?_
 simp [go_sem,h1,h2,c0]
 refine K_loopP (α:=Nat) (fun k=>k≤m.length∧l.take k=m.take k) (fun k=>⟨sl [(0,.t (.sl (ints l))),(1,.t (.sl (ints m))),(5,.i k)],noObj,0⟩) (fun k=>m.length-k) 0 ⟨Nat.zero_le _,rfl⟩ (Imp.slots (by simp [go_sem]) rfl rfl) ?_
 rintro k ⟨g1,g2⟩
 refine K_run hB 100 ?_
 simp [go_sem,h1,c0]
 refine fork_dec (fun hk=>?_) (fun hk=>?_)
 ·have hkk:IntKind.i64.wrap ((k:Int)+1)=((k+1:Nat):Int):=by rw [w64 ((k:Int)+1) (by omega)];rfl
  have hk':k<l.length:=by omega
  have e1:=ints_getS l hk'
  have e2:=ints_getS m hk
  have n1:l.take (k+1)=l.take k++[l[k]]:=by rw [List.take_add_one,List.getElem?_eq_getElem hk'];rfl
  have n2:m.take (k+1)=m.take k++[m[k]]:=by rw [List.take_add_one,List.getElem?_eq_getElem hk];rfl
  simp [go_sem]
  refine K_drawn [] rfl (by rw [hB];kernel_rfl) ?_
  by_cases c1:l[k]=m[k]
  ·refine K_run hB 100 ?_
   simp [go_sem,h1,h2,hk,hk',e1,e2,c1,hkk]
   refine Next.mk (k+1) ⟨by omega,by rw [n1,n2,g2,c1]⟩ (Imp.slots (by simp [go_sem]) rfl rfl) (by omega)
  ·have:¬l=m:=fun e=>c1 (by subst e;rfl)
   refine K_run hB 100 ?_
   simp [go_sem,h1,h2,hk,hk',e1,e2,c1,this]
 ·have:k=m.length:=by omega
  subst this
  rw [List.take_of_length_le (by omega),List.take_of_length_le (by omega)] at g2
  simp [go_sem,g2]
theorem canB_no:∀k,canB (fun _=>false) k=[]
 |0=>rfl
 |k+1=>by rw [canB,canB_no k];rfl
theorem moves_can (x:Inst) (s:State):x.moves s=canB (fun k=>(x.move s k).2.2) x.stops.length:=by
 unfold Inst.moves
 split
 ·rename_i h
  congr 1
  funext k
  rw [Inst.move,if_pos h]
 ·rename_i h
  have:(fun k:Nat=>(x.move s (k:Int)).2.2)=fun _=>false:=by
   funext k
   rw [Inst.move,if_neg h]
  rw [this,canB_no]
theorem rmoves_pure (x:Inst) (s:State) (hl:x.stops.length<2^31) (ho:s.ok):Pure P 203 [x.a,s.a] (.t (.sl (ints (x.moves s)))):=by
 generalize hR:x.moves s=R
 rw [moves_can] at hR
 have hl':x.stops.length<2^63:=by omega
 have hst:=fun j=>rmove_pure x s j hl' ho
 have hmost:mostLen=4294967296:=rfl
 refine pure_of Tryz.func203 rfl rfl (by simp [Tryz.f203]) (by simp [bnd,bnd.bndL,Inst.a,State.a,State.cs]) (by simp [bnd,bnd.bndL]) fun B hB hnx=>?_
 simp only [Tryz.f203] at hB ⊢
 refine K_run hB 100 ?_
 simp [go_sem,Inst.a,State.a,State.cs]
 refine K_own 5 1 (by simp [go_sem]) ?_
 refine K_loopP (α:=Nat×Nat×(Nat→AObj)×Nat) (fun (k,j,σ,nx)=>k≤x.stops.length∧σ 0= .box [.t (.i x.pairs),.t (.i x.cars),.t (.i x.room),.t (.sl (x.stops.map Stop.t))]∧σ 1= .box s.cs∧σ j= .arr 1 (ints (canB (fun k=>(x.move s k).2.2) k))∧1<j∧j<nx)
  (fun (k,j,σ,nx)=>⟨sl [(2,.ptr 0 0),(3,.ptr 1 0),(5,.ref j),(6,.i k)],σ,nx⟩) (fun a=>x.stops.length-a.1) (0,2,_,3) ?_ (Imp.slots (by simp [go_sem]) rfl rfl) ?_
 ·exact ⟨Nat.zero_le _,by simp [oput],by simp [oput,State.cs],by simp [oput,canB,ints],by omega,by omega⟩
 rintro ⟨k,j,σ,nx⟩ ⟨g1,g2,g3,g4,g5,g6⟩
 refine K_run hB 100 ?_
 simp [go_sem,g2]
 refine fork_dec (fun hk=>?_) (fun hk=>?_)
 ·have hkk:IntKind.i64.wrap ((k:Int)+1)=((k+1:Nat):Int):=by rw [w64 ((k:Int)+1) (by omega)];rfl
  have hn:canB (fun k=>(x.move s k).2.2) (k+1)=canB (fun k=>(x.move s k).2.2) k++(if (x.move s k).2.2=true then [(k:Int)] else []):=rfl
  have hcl:=canB_len (fun k=>(x.move s k).2.2) k
  have h1:=hst k
  generalize canB (fun k=>(x.move s k).2.2) k=L at g4 hn hcl
  generalize x.move s k=V at hn h1
  obtain ⟨t,c,is⟩:=V
  simp only at hn
  simp [go_sem,g2,g3,State.cs]
  refine K_call rfl rfl rfl (args:=[x.a,s.a,.i k]) (f:=204) (by simp [go_sem,Inst.a,State.a,State.cs]) (by simp [go_sem,hB]) ((h1).spec _ _) ?_
  cases is with
  |false=>
   refine K_run hB 100 ?_
   simp [go_sem,mv,State.a,State.cs,hkk]
   refine Next.mk (k+1,j,_,nx+1) ?_ (Imp.slots (by simp [go_sem]) rfl rfl) (by simp only;omega)
   refine ⟨by simp only;omega,?_,?_,?_,by simp only;omega,by simp only;omega⟩
   ·simp [oput,show ¬0=nx by omega,g2]
   ·simp [oput,show ¬1=nx by omega,g3,State.cs]
   ·simp only [hn]
    simp [oput,show ¬j=nx by omega,g4]
  |true=>
   have hlen':(ints L).length=L.length:=List.length_map _
   have hcap:L.length+1≤mostLen:=by omega
   refine K_run hB 100 ?_
   simp [go_sem,mv,State.a,State.cs,hkk,g4,hlen',hcap,show ¬j=nx by omega]
   refine Next.mk (k+1,nx+1,_,nx+2) ?_ (Imp.slots (by simp [go_sem]) rfl rfl) (by simp only;omega)
   refine ⟨by simp only;omega,?_,?_,?_,by simp only;omega,by simp only;omega⟩
   ·simp [oput,show ¬0=nx by omega,show ¬0=nx+1 by omega,show ¬0=j by omega,g2]
   ·simp [oput,show ¬1=nx by omega,show ¬1=nx+1 by omega,show ¬1=j by omega,show ¬nx=0 by omega,g3,State.cs]
   ·simp only [hn]
    simp [oput,ints]
 ·have:k=x.stops.length:=by omega
  subst this
  rw [hR] at g4
  simp [go_sem,g4]
theorem endS_no {x:Inst} {s:State} (h1:x.may=true) (h0:¬(x.pairs=0∧s=x.rootS)) (h:¬(s.mayB x=true∧s.spot≠0∧s.on=0∧x.allB s.can=true∧s.time+far (x.stop s.spot) (x.stop 0)≤(x.stop 0).due)):x.endS s=(0,false):=by
 unfold Inst.endS
 rw [if_neg (by simp [h1]),if_neg h0,if_neg h]
theorem rend_tail (x:Inst) (s:State) (hl:x.stops.length<2^63) (ho:s.ok) (hm:x.may=true) (c1:¬(x.pairs=0∧s=x.rootS)):Pure P 159 [x.a,s.a] (.tup [.i (x.endS s).1,.b (x.endS s).2]):=by
 generalize hR:x.endS s=R
 refine pure_of Tryz.func159 rfl rfl (by simp [Tryz.f159]) (by simp [bnd,bnd.bndL,Inst.a,State.a,State.cs]) (by simp [bnd,bnd.bndL]) fun B hB hnx=>?_
 simp only [Tryz.f159] at hB ⊢
 obtain ⟨p,hx⟩:=x.fit hm
 have hrr:=rroot_pureS x hl
 have hno:=endS_no hm c1
 have hyes:s.mayB x=true∧s.spot≠0∧s.on=0∧x.allB s.can=true∧s.time+far (x.stop s.spot) (x.stop 0)≤(x.stop 0).due→x.endS s=(far (x.stop s.spot) (x.stop 0),true):=fun h=>by
  unfold Inst.endS
  rw [if_neg (by simp [hm]),if_neg c1,if_pos h]
 have g2:(0:Int)<x.stops.length:=hx.lt (j:=0) (by omega)
 have g3:0<x.stops.length:=by omega
 have g4:=hx.get0
 have hall:=rall_pure x s.can ho.can hx
 refine K_run hB 100 ?_
 simp [go_sem,Inst.a,State.a,State.cs]
 refine K_call rfl rfl rfl (args:=[x.a]) (f:=78) (by simp [go_sem,Inst.a]) (by simp [go_sem,hB]) ((rmay_pure x hl).spec _ _) ?_
 refine K_run hB 100 ?_
 simp [go_sem,hm]
 refine K_drawn [] rfl (by rw [hB];kernel_rfl) ?_
 generalize x.rootS=r at *
 by_cases c2:x.pairs=0
 all_goals
  first
  |have c3:¬s=r:=fun h=>c1 ⟨c2,h⟩
   refine K_run hB 100 ?_
   simp [go_sem,c2]
   refine K_dCallP rfl rfl rfl (args:=[x.a]) (f:=81) (by simp [go_sem,Inst.a,c2]) (hrr) ?_
   refine K_dEq (op:=.eql) (t:=67) (t':=67) (x:=.tmp 19) (y:=.tmp 21) (xs:=s.cs) (ys:=r.cs) (by simp [go_sem,c2]) rfl (by simp [go_sem,State.cs]) (by simp [go_sem,State.a]) state_guard (state_eq s r) rfl ?_
   refine K_run hB 100 ?_
   simp [go_sem,c2,c3]
  |refine K_run hB 100 ?_
   simp [go_sem,c2]
  refine K_call rfl rfl rfl (args:=[x.a,s.a]) (f:=157) (by simp [go_sem,Inst.a,State.a,State.cs,c2]) (by simp [go_sem,hB]) ((rmay10_pure x s hl).spec _ _) ?_
  rw [hm,Bool.true_and]
  cases hs:s.mayB x with
  |false=>
   rw [hno (by simp [hs])] at hR
   subst hR
   refine K_run hB 100 ?_
   simp [go_sem]
  |true=>
   by_cases c4:s.spot=0
   ·rw [hno (by simp [c4])] at hR
    subst hR
    refine K_run hB 100 ?_
    simp [go_sem,c4]
   by_cases c5:s.on=0
   rotate_left
   ·rw [hno (by simp [c5])] at hR
    subst hR
    refine K_run hB 100 ?_
    simp [go_sem,c4,c5]
   have hst:=s.fit hx hs
   have hsp:=hst.spot.1
   have g5:=hx.lt hst.spot.2
   have g6:=hx.get hst.spot.2
   have hfar:=rfar_pure (x.stop s.spot) (x.stop 0)
   have hfi:=far_in' (x.stop s.spot) (x.stop 0)
   refine K_run hB 100 ?_
   simp [go_sem,c4,c5]
   refine K_call rfl rfl rfl (args:=[x.a,.u s.can]) (f:=201) (by simp [go_sem,Inst.a,c2]) (by simp [go_sem,hB]) ((hall).spec _ _) ?_
   refine K_run hB 100 ?_
   simp [go_sem]
   refine K_drawn [] rfl (by rw [hB];kernel_rfl) ?_
   refine K_run hB 100 ?_
   simp [go_sem,hsp,g2,g3,g4,g5,g6,Stop.t]
   refine K_dCallP rfl rfl rfl (args:=[.agg ((x.stop s.spot).t.map .t),.agg ((x.stop 0).t.map .t)]) (f:=202) (by simp [go_sem,Stop.t]) (hfar) ?_
   generalize far (x.stop s.spot) (x.stop 0)=d at *
   generalize x.stop 0=a at *
   have w1:=w64 (s.time+d) (by have:=hst.time;omega)
   cases c6:x.allB s.can with
   |false=>
    rw [hno (by simp [c6])] at hR
    subst hR
    refine K_run hB 100 ?_
    simp [go_sem]
    refine K_drawn [] rfl (by rw [hB];kernel_rfl) ?_
    refine K_run hB 100 ?_
    simp [go_sem]
   |true=>
    by_cases c7:a.due<s.time+d
    ·rw [hno (by intro h;have:=h.2.2.2.2;omega)] at hR
     subst hR
     refine K_run hB 100 ?_
     simp [go_sem]
     refine K_drawn [] rfl (by rw [hB];kernel_rfl) ?_
     refine K_run hB 100 ?_
     simp [go_sem,w1,c7,g2,g3,g4,Stop.t]
    ·rw [hyes ⟨hs,c4,c5,c6,by omega⟩] at hR
     subst hR
     refine K_run hB 100 ?_
     simp [go_sem]
     refine K_drawn [] rfl (by rw [hB];kernel_rfl) ?_
     refine K_run hB 100 ?_
     simp [go_sem,w1,c7,g2,g3,g4,Stop.t]
theorem rend_pure (x:Inst) (s:State) (hl:x.stops.length<2^63) (ho:s.ok):Pure P 159 [x.a,s.a] (.tup [.i (x.endS s).1,.b (x.endS s).2]):=by
 by_cases q:x.may=true∧¬(x.pairs=0∧s=x.rootS)
 ·exact rend_tail x s hl ho q.1 q.2
 generalize hR:x.endS s=R
 refine pure_of Tryz.func159 rfl rfl (by simp [Tryz.f159]) (by simp [bnd,bnd.bndL,Inst.a,State.a,State.cs]) (by simp [bnd,bnd.bndL]) fun B hB hnx=>?_
 simp only [Tryz.f159] at hB ⊢
 rw [Inst.endS] at hR
 refine K_run hB 100 ?_
 simp [go_sem,Inst.a,State.a,State.cs]
 refine K_call rfl rfl rfl (args:=[x.a]) (f:=78) (by simp [go_sem,Inst.a]) (by simp [go_sem,hB]) ((rmay_pure x hl).spec _ _) ?_
 cases hm:x.may with
 |false=>
  rw [if_pos hm] at hR
  subst hR
  refine K_run hB 100 ?_
  simp [go_sem]
  refine K_drawn [] rfl (by rw [hB];kernel_rfl) ?_
  refine K_run hB 100 ?_
  simp [go_sem]
  refine K_call rfl rfl rfl (args:=[x.a,s.a]) (f:=157) (by simp [go_sem,Inst.a,State.a,State.cs]) (by simp [go_sem,hB]) ((rmay10_pure x s hl).spec _ _) ?_
  rw [hm,Bool.false_and]
  refine K_run hB 100 ?_
  simp [go_sem]
 |true=>
  have c1:x.pairs=0∧s=x.rootS:=Decidable.byContradiction fun h=>q ⟨hm,h⟩
  rw [if_neg (by simp [hm]),if_pos c1] at hR
  subst hR
  obtain ⟨c2,c3⟩:=c1
  have hrr:=rroot_pureS x hl
  generalize x.rootS=r at *
  refine K_run hB 100 ?_
  simp [go_sem]
  refine K_drawn [] rfl (by rw [hB];kernel_rfl) ?_
  refine K_run hB 100 ?_
  simp [go_sem,c2]
  refine K_dCallP rfl rfl rfl (args:=[x.a]) (f:=81) (by simp [go_sem,Inst.a,c2]) (hrr) ?_
  refine K_dEq (op:=.eql) (t:=67) (t':=67) (x:=.tmp 19) (y:=.tmp 21) (xs:=s.cs) (ys:=r.cs) (by simp [go_sem,c2]) rfl (by simp [go_sem,State.cs]) (by simp [go_sem,State.a]) state_guard (state_eq s r) rfl ?_
  refine K_run hB 100 ?_
  simp [go_sem,c2,c3]
end Go.Proofs.YtackfabapangdaaGreat

set_option maxRecDepth 4000
namespace Go.Proofs.YtackfabapangdaaGreat
open Go Go.Proofs.YtackfabapangdaaGreat.R
def Inst.of (x:Inst) (n:Node):Int:=sumI [n.cost,x.low n.s]
theorem of_pure (x:Inst) (n:Node) (hl:x.stops.length<2^31) (ho:n.s.ok):Pure P 35 [x.a,n.a] (.i (x.of n)):=by
 have ha:=at_pure x n.s hl ho
 have hs:=sum_pure [n.cost,x.low n.s] (by simp)
 rw [Inst.of]
 generalize x.low n.s=d at *
 refine pure_of Tryz.func35 rfl rfl (by simp [Tryz.f35]) (by simp [bnd,bnd.bndL,Inst.a,Node.a,Node.cs]) (by simp [bnd,bnd.bndL]) fun B hB hnx=>?_
 simp only [Tryz.f35] at hB ⊢
 refine K_run hB 100 ?_
 simp [go_sem,Inst.a,Node.a,Node.cs]
 refine K_drawn [] rfl (by rw [hB];kernel_rfl) ?_
 refine K_run hB 100 ?_
 simp [go_sem]
 refine K_dCallP rfl rfl rfl (args:=[x.a,n.s.a]) (f:=88) (by simp [go_sem,Inst.a,State.a,State.cs]) (ha) ?_
 refine K_run hB 100 ?_
 simp [go_sem]
 refine K_dCallP rfl rfl rfl (args:=[.fsl (ints [n.cost,d])]) (f:=87) (by simp [go_sem,ints]) (Pure.loose hs (by simp [bnd])) ?_
 refine K_run hB 100 ?_
 simp [go_sem]
theorem rat_pure (x:Inst) (s:State) (hl:x.stops.length<2^31) (ho:s.ok):Pure P 184 [x.a,s.a] (.i (x.low s)):=by
 generalize hR:x.low s=R
 refine pure_of Tryz.func184 rfl rfl (by simp [Tryz.f184]) (by simp [bnd,bnd.bndL,Inst.a,State.a,State.cs]) (by simp [bnd,bnd.bndL]) fun B hB hnx=>?_
 simp only [Tryz.f184] at hB ⊢
 rw [Inst.low] at hR
 have hnl:=near_len x
 have hne:=rnear_pure x hl
 generalize x.near=near at *
 refine K_run hB 100 ?_
 simp [go_sem,Inst.a,State.a,State.cs]
 refine K_call rfl rfl rfl (args:=[x.a]) (f:=227) (by simp [go_sem,Inst.a]) (by simp [go_sem,hB]) ((hne).spec _ _) ?_
 match near,hR,hnl with
 |[],hR,_=>
  simp only [atLeast] at hR
  subst hR
  refine K_run hB 100 ?_
  simp [go_sem,ints]
 |[_],hR,_=>
  simp only [atLeast] at hR
  subst hR
  refine K_run hB 100 ?_
  simp [go_sem,ints]
 |d0 :: d1 :: l,hR,hnl=>
  simp only [atLeast] at hR
  rw [leftSum,if_neg (by simp)] at hR
  obtain ⟨Y,hY⟩:∃Y,Y=d0 :: d1 :: l:=⟨_,rfl⟩
  obtain ⟨X,hX⟩:∃X,X=ints Y:=⟨_,rfl⟩
  have hdr:Y.drop 1=d1 :: l:=by rw [hY];rfl
  have hlen:Y.length=l.length+2:=by rw [hY];rfl
  have hil:X.length=l.length+2:=by rw [hX,ints,List.length_map,hlen]
  have hgt:¬(l.length:Int)+2<2:=by omega
  have hpos:(0:Int)<l.length+2:=by omega
  have hll:l.length+2<2^63:=by simp only [List.length_cons] at hnl;omega
  have hget:∀(k:Nat) (h:k<Y.length) (h':k<X.length),X[k]'h'=[.i (Y[k]'h)]:=fun k h h'=>by subst hX;exact ints_getS _ h
  have hget0:∀h:0<X.length,X[0]'h=[.i d0]:=fun h=>by rw [hget 0 (by omega) h];simp [hY]
  rw [←hdr,Nat.zero_add] at hR
  rw [←hY,←hX] at hne
  rw [←hY,←hX]
  clear hX hY
  refine K_run hB 100 ?_
  simp [go_sem,hil,hgt,hpos,hget0]
  refine K_loopP (α:=Nat×Int) (fun (k,n)=>1≤k∧k≤Y.length∧leftSum s.can k (Y.drop k) n=R) (fun (k,n)=>⟨sl [(3,.ptr 1 0),(5,.t (.sl X)),(6,.i n),(7,.i k)],oput (oput noObj 0 (.box [.t (.i x.pairs),.t (.i x.cars),.t (.i x.room),.t (.sl (x.stops.map Stop.t))])) 1 (.box s.cs),2⟩) (fun a=>Y.length-a.1) (1,d0) ⟨Nat.le_refl _,by omega,hR⟩ (Imp.slots (by simp [go_sem]) rfl rfl) ?_
  rintro ⟨k,n⟩ ⟨g1,g2,g3⟩
  refine K_run hB 60 ?_
  simp [go_sem,hil]
  refine fork_dec (fun hk=>?_) (fun hk=>?_)
  ·have hk':k<Y.length:=by omega
   have hkk:IntKind.i64.wrap ((k:Int)+1)=((k+1:Nat):Int):=by rw [w64 ((k:Int)+1) (by omega)];rfl
   rw [List.drop_eq_getElem_cons hk',leftSum] at g3
   have hg:X[k]? =some [.i Y[k]]:=by rw [List.getElem?_eq_getElem (by omega),hget k hk' (by omega)]
   have hki:(k:Int)<l.length+2:=by omega
   generalize Y[k]=d at *
   simp [go_sem,State.cs]
   refine K_call rfl rfl rfl (args:=[.u s.can,.i k]) (f:=228) (by simp [go_sem]) (by simp [go_sem,hB]) ((rhas_pure s.can k ho.can).spec _ _) ?_
   cases c1:hasB s.can k with
   |true=>
    rw [if_neg (by simp [c1])] at g3
    refine K_run hB 100 ?_
    simp [go_sem,hkk]
    exact Next.mk (k+1,n) ⟨by simp only;omega,by simp only;omega,g3⟩ (Imp.slots (by simp [go_sem]) (by simp [State.cs]) rfl) (by simp only;omega)
   |false=>
    rw [if_pos ⟨by omega,c1⟩] at g3
    refine K_run hB 100 ?_
    simp [go_sem,hil,hki,hg,hkk]
    exact Next.mk (k+1,IntKind.i64.wrap (n+d)) ⟨by simp only;omega,by simp only;omega,g3⟩ (Imp.slots (by simp [go_sem]) (by simp [State.cs]) rfl) (by simp only;omega)
  ·have:k=Y.length:=by omega
   subst this
   rw [List.drop_length,leftSum] at g3
   simp [go_sem,g3]
theorem rof_pure (x:Inst) (n:Node) (hl:x.stops.length<2^31) (ho:n.s.ok):Pure P 136 [x.a,n.a] (.i (x.of n)):=by
 have ha:=rat_pure x n.s hl ho
 have hs:=rsum_pure [n.cost,x.low n.s] (by simp)
 rw [Inst.of]
 generalize x.low n.s=d at *
 refine pure_of Tryz.func136 rfl rfl (by simp [Tryz.f136]) (by simp [bnd,bnd.bndL,Inst.a,Node.a,Node.cs]) (by simp [bnd,bnd.bndL]) fun B hB hnx=>?_
 simp only [Tryz.f136] at hB ⊢
 refine K_run hB 100 ?_
 simp [go_sem,Inst.a,Node.a,Node.cs]
 refine K_drawn [] rfl (by rw [hB];kernel_rfl) ?_
 refine K_run hB 100 ?_
 simp [go_sem]
 refine K_dCallP rfl rfl rfl (args:=[x.a,n.s.a]) (f:=184) (by simp [go_sem,Inst.a,State.a,State.cs]) (ha) ?_
 refine K_run hB 100 ?_
 simp [go_sem]
 refine K_dCallP rfl rfl rfl (args:=[.fsl (ints [n.cost,d])]) (f:=160) (by simp [go_sem,ints]) (Pure.loose hs (by simp [bnd])) ?_
 refine K_run hB 100 ?_
 simp [go_sem]
end Go.Proofs.YtackfabapangdaaGreat

set_option maxRecDepth 4000
namespace Go.Proofs.YtackfabapangdaaGreat
open Go Go.Proofs.YtackfabapangdaaGreat.R
theorem far_le (a b:Stop):0≤far a b∧far a b≤14143:=by
 obtain ⟨h1,h2⟩:=sq_in a b
 refine ⟨(far_in a b).1,?_⟩
 unfold far rootI
 split
 ·omega
 ·rename_i hp
  have e:(min (sq a b) 1152921504606846976).toNat=(sq a b).toNat:=by omega
  rw [e]
  obtain ⟨g1,_⟩:=rootL_spec (sq a b).toNat 31 0 (by omega) (by simp;omega)
  generalize rootL (sq a b).toNat 31 0=r at *
  have:r≤14142:=by
   rcases Nat.lt_or_ge 14142 r with h | h
   ·have:=Nat.mul_le_mul (show 14143≤r from h) (show 14143≤r from h)
    omega
   ·exact h
  omega
theorem nearF_le (k:Nat) (b:Stop):∀(i:Nat) (l:List Stop) (v:Int),(0≤v∧v≤14143)∨v=inf→(0≤nearF k b i l v∧nearF k b i l v≤14143)∨nearF k b i l v=inf
 |_,[],v,h=>h
 |i,a :: l,v,h=>by
  rw [nearF]
  refine nearF_le k b (i+1) l _ ?_
  have:=far_le a b
  have hinf:inf=1152921504606846976:=rfl
  split
  ·exact h
  ·omega
theorem nearK_le (x:Inst) (k:Nat) (b:Stop):0≤x.nearK k b∧x.nearK k b≤14143:=by
 unfold Inst.nearK
 have hinf:inf=1152921504606846976:=rfl
 rcases nearF_le k b 0 x.stops inf (.inr rfl) with h | h
 ·rw [Int.tmod_eq_of_lt h.1 (by omega)];exact h
 ·rw [h,hinf];decide
theorem nears_le (x:Inst):∀(k:Nat) (l:List Stop),∀d∈nears x k l,0≤d∧d≤14143
 |_,[],d,h=>by cases h
 |k,b :: l,d,h=>by
  rw [nears] at h
  rcases List.mem_cons.1 h with e | e
  ·rw [e];exact nearK_le x k b
  ·exact nears_le x (k+1) l d e
theorem near_le (x:Inst):∀d∈x.near,0≤d∧d≤14143:=by
 unfold Inst.near
 split
 ·exact nears_le x 0 x.stops
 ·intro d h;cases h
def lefts (may:Nat):Nat→List Int→Int
 |_,[]=>0
 |j,d :: l=>(if 0<j∧hasB may j=false then d else 0)+lefts may (j+1) l
theorem lefts_in (may:Nat):∀(j:Nat) (l:List Int),(∀d∈l,0≤d∧d≤14143)→0≤lefts may j l∧lefts may j l≤14143*l.length
 |_,[],_=>by simp [lefts]
 |j,d :: l,h=>by
  have h1:=h d List.mem_cons_self
  have h2:=lefts_in may (j+1) l fun e he=>h e (List.mem_cons_of_mem _ he)
  rw [lefts,List.length_cons]
  split<;>omega
theorem leftSum_eq (may:Nat):∀(j:Nat) (l:List Int) (n:Int),(∀d∈l,0≤d∧d≤14143)→0≤n→n+14143*l.length<9223372036854775808→leftSum may j l n=n+lefts may j l
 |_,[],n,_,_,_=>by simp [leftSum,lefts]
 |j,d :: l,n,h,h0,hn=>by
  have h1:=h d List.mem_cons_self
  rw [List.length_cons] at hn
  rw [leftSum,lefts]
  split
  ·rw [w64 (n+d) (by omega),leftSum_eq may (j+1) l (n+d) (fun e he=>h e (List.mem_cons_of_mem _ he)) (by omega) (by omega)]
   omega
  ·rw [leftSum_eq may (j+1) l n (fun e he=>h e (List.mem_cons_of_mem _ he)) h0 (by omega)]
   omega
def lowP (near:List Int) (may:Nat):Int:=match near with
 |a :: b :: l=>a+lefts may 0 (a :: b :: l)
 |_=>0
theorem low_eq (x:Inst) (s:State) (hl:x.stops.length<2^31):x.low s=lowP x.near s.can:=by
 unfold Inst.low
 have h1:=near_le x
 have h2:=near_len x
 generalize x.near=near at *
 match near with
 |[]=>rfl
 |[_]=>rfl
 |a :: b :: l=>
  simp only [atLeast,lowP]
  have ha:=h1 a List.mem_cons_self
  refine leftSum_eq _ _ _ _ h1 ha.1 ?_
  simp only [List.length_cons] at h2 ⊢
  omega
theorem within_has {a b:Nat} (h:withinB b a=true) (j:Int):hasB b j=true→hasB a j=true:=by
 unfold hasB
 simp only [Bool.and_eq_true,decide_eq_true_eq]
 rintro ⟨h1,h2⟩
 refine ⟨h1,?_⟩
 have:=List.all_eq_true.1 h j.toNat (List.mem_range.2 (by omega))
 rw [h2] at this
 simpa using this
def coversB (a b:State):Bool:=
 decide (a.spot=b.spot)&&withinB a.must b.must&&withinB a.on b.on&&withinB b.can a.can&&decide (a.car≤b.car)&&decide (a.time≤b.time)&&decide (a.load≤b.load)&&decide (a.first≤b.first)
theorem covers_pure (a b:State):Pure P 177 [a.a,b.a] (.b (coversB a b)):=by
 generalize hR:coversB a b=R
 refine pure_of Tryz.func177 rfl rfl (by simp [Tryz.f177]) (by simp [bnd,bnd.bndL,State.a,State.cs]) (by simp [bnd,bnd.bndL]) fun B hB hnx=>?_
 simp only [Tryz.f177] at hB ⊢
 rw [coversB] at hR
 have hw1:=within_pure a.must b.must
 have hw2:=within_pure a.on b.on
 have hw3:=within_pure b.can a.can
 by_cases c1:a.spot=b.spot
 rotate_left
 ·refine K_run hB 100 ?_
  simp [go_sem,State.a,State.cs,c1]
  simp [←hR,c1]
 refine K_run hB 100 ?_
 simp [go_sem,State.a,State.cs,c1]
 refine K_call rfl rfl rfl (args:=[.u a.must,.u b.must]) (f:=212) (by simp [go_sem]) (by simp [go_sem,hB]) ((hw1).spec _ _) ?_
 cases c2:withinB a.must b.must with
 |false=>
  refine K_run hB 100 ?_
  simp [go_sem]
  simp [←hR,c2]
 |true=>
  refine K_run hB 100 ?_
  simp [go_sem]
  refine K_call rfl rfl rfl (args:=[.u a.on,.u b.on]) (f:=212) (by simp [go_sem]) (by simp [go_sem,hB]) ((hw2).spec _ _) ?_
  cases c3:withinB a.on b.on with
  |false=>
   refine K_run hB 100 ?_
   simp [go_sem]
   simp [←hR,c3]
  |true=>
   refine K_run hB 100 ?_
   simp [go_sem]
   refine K_call rfl rfl rfl (args:=[.u b.can,.u a.can]) (f:=212) (by simp [go_sem]) (by simp [go_sem,hB]) ((hw3).spec _ _) ?_
   cases c4:withinB b.can a.can with
   |false=>
    refine K_run hB 100 ?_
    simp [go_sem]
    simp [←hR,c4]
   |true=>
    rw [c2,c3,c4] at hR
    simp only [c1,decide_true,Bool.and_true,Bool.true_and] at hR
    refine K_run hB 100 ?_
    simp [go_sem]
    refine atVal_decT (fun h1=>?_) (fun h1=>by simp [go_sem,h1,←hR])
    simp [go_sem,h1]
    refine atVal_decT (fun h2=>?_) (fun h2=>by simp [go_sem,h2,←hR])
    simp [go_sem,h2]
    refine atVal_decT (fun h3=>?_) (fun h3=>by simp [go_sem,h3,←hR])
    simp [go_sem,h3]
    simp [←hR,h1,h2,h3]
end Go.Proofs.YtackfabapangdaaGreat

set_option maxRecDepth 4000
namespace Go.Proofs.YtackfabapangdaaGreat
open Go Go.Proofs.YtackfabapangdaaGreat.R
theorem move_is {x:Inst} {s:State} {j:Int} (hv:(x.move s j).2.2=true):x.may=true∧s.mayB x=true∧(0≤j∧j≤2*x.pairs)∧(x.to s j).2=true∧x.move s j=((x.to s j).1,far (x.stop s.spot) (x.stop j),true):=by
 unfold Inst.move at hv ⊢
 split at hv
 ·rename_i h
  rw [if_pos h]
  unfold Inst.step at hv ⊢
  split at hv
  ·simp at hv
  ·rename_i h1
   rw [if_neg h1]
   split at hv
   ·rename_i h2
    rw [if_pos h2]
    exact ⟨h.1,h.2,by omega,h2,rfl⟩
   ·simp at hv
 ·simp at hv
theorem move_mk {x:Inst} {s:State} {j:Int} (h1:x.may=true) (h2:s.mayB x=true) (h3:0≤j∧j≤2*x.pairs) (h4:(x.to s j).2=true):x.move s j=((x.to s j).1,far (x.stop s.spot) (x.stop j),true):=by
 unfold Inst.move Inst.step
 rw [if_pos ⟨h1,h2⟩,if_neg (by omega),if_pos h4]
end Go.Proofs.YtackfabapangdaaGreat

set_option maxRecDepth 4000
namespace Go.Proofs.YtackfabapangdaaGreat
open Go Go.Proofs.YtackfabapangdaaGreat.R
theorem upto_bit:∀{k i:Nat},1≤i→i≤k→(uptoL k).testBit i=true
 |0,i,h1,h2=>by omega
 |k+1,i,h1,h2=>by
  rw [uptoL,Nat.testBit_or]
  by_cases h:i≤k
  ·rw [upto_bit h1 h];rfl
  ·have:i=k+1:=by omega
   subst this
   rw [Nat.testBit_two_pow_self,Bool.or_true]
theorem Inst.all_bit {x:Inst} {t p:Nat} (hx:x.Fit p) (h:x.allB t=true) {i:Nat} (h1:1≤i) (h2:i≤2*p):t.testBit i=true:=by
 have hf:=hx.few
 have hp:=hx.pairs
 unfold Inst.allB withinB at h
 rw [List.all_eq_true] at h
 have:=h i (List.mem_range.2 (by omega))
 have hu:(uptoN (2*x.pairs)).testBit i=true:=by
  unfold uptoN
  exact upto_bit h1 (by omega)
 rw [hu] at this
 simpa using this
end Go.Proofs.YtackfabapangdaaGreat

set_option maxRecDepth 4000
namespace Go.Proofs.YtackfabapangdaaGreat
open Go Go.Proofs.YtackfabapangdaaGreat.R
theorem with_bit {t k:Nat} (hk:k≤63) (i:Nat):(withN t k).testBit i=(t.testBit i||decide (k=i)):=by
 rw [withN,bitN_nat hk,Nat.testBit_or,Nat.testBit_two_pow]
theorem without_bit {t k:Nat} (hk:k≤63) {i:Nat} (hi:i<64):(withoutN t k).testBit i=(t.testBit i&& !decide (k=i)):=by
 rw [withoutN,bitN_nat hk,andN_bit,Nat.testBit_two_pow]
 simp [hi]
def sumOn (x:Inst):Nat→Nat→Int
 |0,_=>0
 |k+1,t=>sumOn x k t+if t.testBit (k+1)=true then (x.stop (k+1:Nat)).demand else 0
theorem sumOn_zero (x:Inst):∀k,sumOn x k 0=0
 |0=>rfl
 |k+1=>by rw [sumOn,sumOn_zero x k];simp
theorem sumOn_pos {x:Inst} {p:Nat} (hx:x.Fit p) (t:Nat):∀k,k≤p→0≤sumOn x k t
 |0,_=>Int.le_refl _
 |k+1,h=>by
  have:=sumOn_pos hx t k (by omega)
  have:=hx.take (k:=k+1) (by omega) h
  rw [sumOn]
  split<;>omega
theorem sumOn_with (x:Inst) {t j:Nat} (hj:j≤63) (hn:t.testBit j=false) (h1:1≤j):∀k,k≤63→sumOn x k (withN t j)=sumOn x k t+if j≤k then (x.stop j).demand else 0
 |0,_=>by rw [if_neg (by omega)];rfl
 |k+1,hk=>by
  rw [sumOn,sumOn_with x hj hn h1 k (by omega),with_bit hj,sumOn]
  by_cases e:j=k+1
  ·subst e
   rw [if_neg (by omega),hn]
   simp
  ·have:(decide (j=k+1))=false:=by simpa using e
   rw [this,Bool.or_false]
   by_cases e2:j≤k
   ·rw [if_pos e2,if_pos (show j≤k+1 by omega)];omega
   ·rw [if_neg e2,if_neg (show ¬j≤k+1 by omega)];omega
theorem sumOn_without (x:Inst) {t j:Nat} (hj:j≤63) (hn:t.testBit j=true) (h1:1≤j):∀k,k≤63→sumOn x k (withoutN t j)=sumOn x k t-if j≤k then (x.stop j).demand else 0
 |0,_=>by rw [if_neg (by omega)];rfl
 |k+1,hk=>by
  rw [sumOn,sumOn_without x hj hn h1 k (by omega),without_bit hj (by omega),sumOn]
  by_cases e:j=k+1
  ·subst e
   rw [if_neg (by omega),hn]
   simp
  ·have:(decide (j=k+1))=false:=by simpa using e
   rw [this,Bool.not_false,Bool.and_true]
   by_cases e2:j≤k
   ·rw [if_pos e2,if_pos (show j≤k+1 by omega)];omega
   ·rw [if_neg e2,if_neg (show ¬j≤k+1 by omega)];omega
structure Good (x:Inst) (p:Nat) (s:State):Prop where
 eq:s.can=s.must
 on:∀k,1≤k→k≤p→s.on.testBit k=(s.must.testBit k&& !s.must.testBit (k+p))
 order:∀k,1≤k→k≤p→s.must.testBit (k+p)=true→s.must.testBit k=true
 load:s.load=sumOn x p s.on
 room:s.load≤x.room
theorem good_root {x:Inst} {p:Nat} (hx:x.Fit p) (hm:x.may=true):Good x p x.rootS:=by
 rw [Inst.rootS,if_pos hm]
 refine ⟨rfl,fun k _ _=>by simp [State.zero],fun k _ _ h=>by simp [State.zero] at h,?_,?_⟩
 ·exact (sumOn_zero x p).symm
 ·have:=hx.room
  show (0:Int)≤x.room
  omega
theorem has_testN {t k:Nat} (hk:k≤63):hasB t (k:Int)=t.testBit k:=has_nat (by omega)
theorem good_step {x:Inst} {p:Nat} {s:State} {j:Int} (hx:x.Fit p) (hg:Good x p s) (h:(x.move s j).2.2=true):
  Good x p (x.move s j).1∧0≤j∧j≤2*p∧(x.move s j).1.must=(if 0<j then withN s.must j else s.must)∧
  (x.move s j).1.on=(if x.pairs<j then withoutN s.on (j-x.pairs) else if 0<j then withN s.on j else s.on)∧
  (x.move s j).1.load=(if 0<j then s.load+(x.stop j).demand else s.load):=by
 obtain ⟨h1,h2,h3,h4,h5⟩:=move_is h
 have hp:=hx.pairs
 have hfew:=hx.few
 obtain ⟨k,rfl⟩:∃k:Nat,j=k:=⟨j.toNat,by omega⟩
 rw [h5]
 have h3':(k:Int)≤2*p:=by omega
 have hvis:(x.visit s k).2=true→(x.visit s k).1=x.seen s k∧hasB s.must k=false:=by
  unfold Inst.visit Inst.lateB
  split
  ·intro h;simp at h
  ·rename_i hh
   intro _
   simp only [Bool.or_eq_true,not_or] at hh
   exact ⟨rfl,by simpa using hh.1⟩
 by_cases hk0:k=0
 ·subst hk0
  have e:x.to s ((0:Nat):Int)=x.home s:=by simp [Inst.to]
  rw [e] at h4 ⊢
  unfold Inst.home at h4 ⊢
  split at h4
  ·simp at h4
  ·rename_i hh
   rw [if_neg hh]
   have hon:s.on=0:=by
    simp only [Inst.stayB,Bool.or_eq_true,decide_eq_true_eq,not_or] at hh
    have:=hh.1.1.1.2
    omega
   have hl:s.load=0:=by rw [hg.load,hon,sumOn_zero]
   refine ⟨⟨hg.eq,hg.on,hg.order,by show (0:Int)=sumOn x p s.on;rw [hon,sumOn_zero],by show (0:Int)≤x.room;have:=hx.room;omega⟩,by omega,by omega,by simp [Inst.homeS],by rw [if_neg (by omega),if_neg (by omega)];rfl,by rw [if_neg (by omega),hl];rfl⟩
 have hk63:k≤63:=by omega
 by_cases hkp:k≤p
 ·have e:x.to s (k:Int)=x.take s k:=by rw [Inst.to,if_neg (by omega),if_pos (by omega)]
  rw [e] at h4 ⊢
  have hd:=hx.take (k:=k) (by omega) hkp
  unfold Inst.take at h4 ⊢
  split at h4
  ·simp at h4
  rename_i hh
  rw [if_neg hh]
  split at h4
  rotate_left
  ·rename_i h8;exact absurd h4 h8
  rename_i h8
  rw [if_pos h8]
  obtain ⟨e1,e2⟩:=hvis h8
  rw [e1]
  rw [has_testN hk63] at e2
  have hroom:s.load+(x.stop k).demand≤x.room:=by
   simp only [Inst.fullB,Bool.or_eq_true,decide_eq_true_eq,not_or] at hh
   omega
  have hnon:s.on.testBit k=false:=by rw [hg.on k (by omega) hkp,e2,Bool.false_and]
  have hpos:=sumOn_pos hx s.on p (Nat.le_refl _)
  have hload:=hg.load
  have hmax:max (s.load+(x.stop k).demand) 0=s.load+(x.stop k).demand:=by omega
  refine ⟨⟨by show withN s.can k=withN s.must k;rw [hg.eq],fun i i1 i2=>?_,fun i i1 i2 i3=>?_,?_,?_⟩,by omega,by omega,?_,?_,?_⟩
  ·show (withN s.on k).testBit i=((withN s.must k).testBit i&& !(withN s.must k).testBit (i+p))
   rw [with_bit hk63,with_bit hk63,with_bit hk63,hg.on i i1 i2]
   have:decide (k=i+p)=false:=by simp;omega
   rw [this,Bool.or_false]
   by_cases hki:k=i
   ·subst hki
    have hb:s.must.testBit (k+p)=false:=by
     cases hq:s.must.testBit (k+p) with
     |false=>rfl
     |true=>rw [hg.order k i1 i2 hq] at e2;cases e2
    simp [hb]
   ·simp [hki]
  ·have i3':(withN s.must k).testBit (i+p)=true:=i3
   show (withN s.must k).testBit i=true
   rw [with_bit hk63] at i3' ⊢
   have:decide (k=i+p)=false:=by simp;omega
   rw [this,Bool.or_false] at i3'
   rw [hg.order i i1 i2 i3',Bool.true_or]
  ·show max (s.load+(x.stop k).demand) 0=sumOn x p (withN s.on k)
   rw [sumOn_with x hk63 hnon (by omega) p (by omega),if_pos hkp,hmax,hload]
  ·show max (s.load+(x.stop k).demand) 0≤x.room
   omega
  ·rw [if_pos (by omega)];rfl
  ·rw [if_neg (by omega),if_pos (by omega)]
  ·rw [if_pos (by omega)];exact hmax
 ·obtain ⟨q,rfl⟩:∃q,k=q+p:=⟨k-p,by omega⟩
  have hq1:1≤q:=by omega
  have hq2:q≤p:=by omega
  have hq63:q≤63:=by omega
  have ej:((q+p:Nat):Int)-x.pairs=(q:Int):=by omega
  have e:x.to s ((q+p:Nat):Int)=x.bring s (q+p:Nat):=by rw [Inst.to,if_neg (by omega),if_neg (by omega)]
  rw [e] at h4 ⊢
  have hd:=hx.take (k:=q) hq1 hq2
  have hb:=hx.bring (k:=q) hq1 hq2
  unfold Inst.bring at h4 ⊢
  split at h4
  ·simp at h4
  rename_i hh
  rw [if_neg hh]
  split at h4
  rotate_left
  ·rename_i h8;exact absurd h4 h8
  rename_i h8
  rw [if_pos h8]
  obtain ⟨e1,e2⟩:=hvis h8
  rw [e1,ej]
  rw [has_testN hk63] at e2
  have hcan:s.must.testBit q=true:=by
   simp only [Inst.emptyB,Bool.or_eq_true,decide_eq_true_eq,not_or,ej] at hh
   have:=hh.2
   rw [has_testN hq63,hg.eq] at this
   simpa using this
  have hon:s.on.testBit q=true:=by rw [hg.on q hq1 hq2,hcan,e2];rfl
  have hpos:=sumOn_pos hx (withoutN s.on q) p (Nat.le_refl _)
  have hload:=hg.load
  have hsum:=sumOn_without x hq63 hon hq1 p (by omega)
  rw [if_pos hq2] at hsum
  have hmax:max (s.load+(x.stop (q+p:Nat)).demand) 0=s.load+(x.stop (q+p:Nat)).demand:=by omega
  refine ⟨⟨by show withN s.can (q+p:Nat)=withN s.must (q+p:Nat);rw [hg.eq],fun i i1 i2=>?_,fun i i1 i2 i3=>?_,?_,?_⟩,by omega,by omega,?_,?_,?_⟩
  ·show (withoutN s.on q).testBit i=((withN s.must (q+p:Nat)).testBit i&& !(withN s.must (q+p:Nat)).testBit (i+p))
   rw [without_bit hq63 (by omega),with_bit hk63,with_bit hk63,hg.on i i1 i2]
   have:decide (q+p=i)=false:=by simp;omega
   rw [this,Bool.or_false]
   have e5:decide (q+p=i+p)=decide (q=i):=by simp
   rw [e5]
   by_cases hki:q=i
   ·simp [hki]
   ·simp [hki]
  ·have i3':(withN s.must (q+p:Nat)).testBit (i+p)=true:=i3
   show (withN s.must (q+p:Nat)).testBit i=true
   rw [with_bit hk63] at i3' ⊢
   by_cases hki:q=i
   ·subst hki
    rw [hcan,Bool.true_or]
   ·have:decide (q+p=i+p)=false:=by simp;omega
    rw [this,Bool.or_false] at i3'
    rw [hg.order i i1 i2 i3',Bool.true_or]
  ·show max (s.load+(x.stop (q+p:Nat)).demand) 0=sumOn x p (withoutN s.on q)
   omega
  ·show max (s.load+(x.stop (q+p:Nat)).demand) 0≤x.room
   have:=hg.room
   omega
  ·rw [if_pos (by omega)];rfl
  ·rw [if_pos (by omega)]
  ·rw [if_pos (by omega)];exact hmax
end Go.Proofs.YtackfabapangdaaGreat

set_option maxRecDepth 4000
namespace Go.Proofs.YtackfabapangdaaGreat
open Go Go.Proofs.YtackfabapangdaaGreat.R
theorem move_pos {x:Inst} {s:State} {j:Int} (h:(x.move s j).2.2=true) (hj:j≠0):x.may=true∧s.mayB x=true∧0<j∧j≤2*x.pairs∧x.lateB s j=false∧(j≤x.pairs→x.fullB s j=false)∧(x.pairs<j→x.emptyB s j=false)∧
  x.move s j=(x.rvisit s j (x.begins s j),far (x.stop s.spot) (x.stop j),true):=by
 obtain ⟨h1,h2,h3,h4,h5⟩:=move_is h
 have k1:x.lateB s j=false:=by
  cases e:x.lateB s j with
  |false=>rfl
  |true=>rw [to_not hj (.inl e)] at h4;cases h4
 have k2:j≤x.pairs→x.fullB s j=false:=fun hp=>by
  cases e:x.fullB s j with
  |false=>rfl
  |true=>rw [to_not hj (.inr (.inl ⟨hp,e⟩))] at h4;cases h4
 have k3:x.pairs<j→x.emptyB s j=false:=fun hp=>by
  cases e:x.emptyB s j with
  |false=>rfl
  |true=>rw [to_not hj (.inr (.inr ⟨hp,e⟩))] at h4;cases h4
 refine ⟨h1,h2,by omega,h3.2,k1,k2,k3,?_⟩
 rw [h5,to_visit hj k1 k2 k3]
theorem move_home {x:Inst} {s:State} (h:(x.move s 0).2.2=true):x.may=true∧s.mayB x=true∧x.stayB s=false∧x.move s 0=(x.homeS s,far (x.stop s.spot) (x.stop 0),true):=by
 obtain ⟨h1,h2,h3,h4,h5⟩:=move_is h
 have e:x.to s 0=x.home s:=by simp [Inst.to]
 rw [e] at h4 h5
 have k1:x.stayB s=false:=by
  cases c:x.stayB s with
  |false=>rfl
  |true=>rw [Inst.home,if_pos c] at h4;cases h4
 refine ⟨h1,h2,k1,?_⟩
 rw [h5,Inst.home,if_neg (by simp [k1])]
theorem has_withN {t k:Nat} (hk:k≤63) (i:Nat):hasB (withN t k) i=(hasB t i||decide (i=k)):=by
 by_cases hi:i≤63
 ·rw [has_testN hi,has_testN hi,with_bit hk]
  by_cases e:i=k
  ·subst e;simp
  ·have:¬k=i:=fun h=>e h.symm
   simp [e,this]
 ·have e1:∀u,hasB u (i:Int)=false:=fun u=>by simp [hasB];omega
  have:¬i=k:=by omega
  simp [e1,this]
theorem lefts_past {may j:Nat} (hj:j≤63):∀(i:Nat) (l:List Int),j<i→lefts (withN may j) i l=lefts may i l
 |_,[],_=>rfl
 |i,d :: l,h=>by
  rw [lefts,lefts,lefts_past hj (i+1) l (by omega),has_withN hj]
  have:¬i=j:=by omega
  simp [this]
theorem lefts_with {may j:Nat} (hj:j≤63) (h1:1≤j):∀(i:Nat) (l:List Int),i≤j→(∀d∈l,0≤d∧d≤14143)→lefts may i l≤lefts (withN may j) i l+l.getD (j-i) 0
 |_,[],_,_=>by simp [lefts]
 |i,d :: l,h,hd=>by
  have h0:=hd d List.mem_cons_self
  have hd':∀e∈l,0≤e∧e≤14143:=fun e he=>hd e (List.mem_cons_of_mem _ he)
  rw [lefts,lefts,has_withN hj]
  by_cases e:i=j
  ·subst e
   rw [lefts_past hj (i+1) l (by omega)]
   simp only [Nat.sub_self,List.getD_cons_zero,decide_true,Bool.or_true]
   split<;>simp<;>omega
  ·have:=lefts_with (may:=may) hj h1 (i+1) l (by omega) hd'
   have e2:j-i=(j-(i+1))+1:=by omega
   rw [e2,List.getD_cons_succ]
   have e3:decide (i=j)=false:=decide_eq_false e
   rw [e3,Bool.or_false]
   omega
theorem nearF_lower {k:Nat} {b:Stop}:∀(l:List Stop) (i:Nat) (v:Int),nearF k b i l v≤v
 |[],_,v=>Int.le_refl _
 |a :: l,i,v=>by
  rw [nearF]
  have:=nearF_lower (k:=k) (b:=b) l (i+1) (if i=k then v else min v (far a b))
  split at this<;>split<;>omega
theorem nearF_far {k:Nat} {b:Stop}:∀(l:List Stop) (i m:Nat) (v:Int) (hm:m<l.length),i+m≠k→nearF k b i l v≤far l[m] b
 |[],_,m,_,hm,_=>by simp at hm
 |a :: l,i,0,v,_,hne=>by
  rw [nearF,if_neg (by omega)]
  have:=nearF_lower (k:=k) (b:=b) l (i+1) (min v (far a b))
  simp only [List.getElem_cons_zero]
  omega
 |a :: l,i,m+1,v,hm,hne=>by
  rw [nearF]
  simpa using nearF_far l (i+1) m _ (by simpa using hm) (by omega)
theorem nearK_far (x:Inst) {k m:Nat} (b:Stop) (hm:m<x.stops.length) (hne:m≠k):x.nearK k b≤far x.stops[m] b:=by
 have h1:=nearF_far (k:=k) (b:=b) x.stops 0 m inf hm (by omega)
 have h2:=far_le x.stops[m] b
 have hinf:inf=1152921504606846976:=rfl
 unfold Inst.nearK
 rcases nearF_le k b 0 x.stops inf (.inr rfl) with h | h
 ·rw [Int.tmod_eq_of_lt h.1 (by omega)];exact h1
 ·omega
theorem near_may {x:Inst} (h:x.may=true):x.near=nears x 0 x.stops:=by rw [Inst.near,if_pos h]
theorem near_getD {x:Inst} {p:Nat} (hx:x.Fit p) (h:x.may=true) {k:Nat} (hk:k≤2*p):x.near.getD k 0=x.nearK k (x.stop k):=by
 have hl:=hx.len
 rw [near_may h,List.getD_eq_getElem?_getD,List.getElem?_eq_getElem (by rw [nears_len];omega),nears_get x 0 x.stops k (by omega),Inst.stop_at (by omega)]
 simp
theorem near_far {x:Inst} {p:Nat} (hx:x.Fit p) (h:x.may=true) {k m:Nat} (hk:k≤2*p) (hm:m≤2*p) (hne:m≠k):x.near.getD k 0≤far (x.stop m) (x.stop k):=by
 have hl:=hx.len
 rw [near_getD hx h hk,Inst.stop_at (k:=m) (by omega)]
 exact nearK_far x _ _ hne
theorem near_length {x:Inst} {p:Nat} (hx:x.Fit p) (h:x.may=true):x.near.length=2*p+1:=by rw [near_may h,nears_len,hx.len]
theorem lowP_cons {near:List Int} {may:Nat} (h:2≤near.length):lowP near may=near.getD 0 0+lefts may 0 near:=by
 match near,h with
 |a :: b :: l,_=>rfl
 |[],h=>simp at h
 |[_],h=>simp at h
theorem lowP_in {near:List Int} (hn:∀d∈near,0≤d∧d≤14143) (may:Nat):0≤lowP near may∧lowP near may≤14143*(near.length+1):=by
 by_cases h:2≤near.length
 ·rw [lowP_cons h]
  have h1:=lefts_in may 0 near hn
  have h2:0≤near.getD 0 0∧near.getD 0 0≤14143:=by
   rw [List.getD_eq_getElem?_getD,List.getElem?_eq_getElem (by omega)]
   exact hn _ (List.getElem_mem _)
  omega
 ·match near,h with
  |[],_=>simp [lowP]
  |[_],_=>simp [lowP]
  |a :: b :: l,h=>simp at h
def State.seenAt (s:State):Prop:=s.spot=0∨hasB s.must s.spot=true
theorem low_step {x:Inst} {s:State} {j:Int} (hs:s.seenAt) (h:(x.move s j).2.2=true):lowP x.near s.can≤(x.move s j).2.1+lowP x.near (x.move s j).1.can:=by
 by_cases hj:j=0
 ·subst hj
  obtain ⟨_,_,_,e⟩:=move_home h
  rw [e]
  have:=(far_le (x.stop s.spot) (x.stop 0)).1
  show _≤far (x.stop s.spot) (x.stop 0)+lowP x.near s.can
  omega
 ·obtain ⟨hm,hmay,h1,h2,h3,_,_,e⟩:=move_pos h hj
  obtain ⟨p,hx⟩:=x.fit hm
  have hp:=hx.pairs
  have hfew:=hx.few
  have hst:=s.fit hx hmay
  rw [e]
  show _≤far (x.stop s.spot) (x.stop j)+lowP x.near (withN s.can j)
  obtain ⟨k,rfl⟩:∃k:Nat,j=k:=⟨j.toNat,by omega⟩
  obtain ⟨m,hmm⟩:∃m:Nat,s.spot=m:=⟨s.spot.toNat,by have:=hst.spot;omega⟩
  have hne:m≠k:=by
   rintro rfl
   rcases hs with hs | hs
   ·omega
   ·rw [Inst.lateB,←hmm,hs] at h3;simp at h3
  have hlen:=near_length hx hm
  have hf:=near_far hx hm (k:=k) (m:=m) (by omega) (by have:=hst.spot;omega) hne
  rw [lowP_cons (by omega),lowP_cons (by omega),hmm]
  have:=lefts_with (may:=s.can) (j:=k) (by omega) (by omega) 0 x.near (by omega) (near_le x)
  rw [Nat.sub_zero] at this
  omega
theorem lefts_all {may:Nat}:∀(i:Nat) (l:List Int),(∀j:Nat,i≤j→j<i+l.length→0<j→hasB may j=true)→lefts may i l=0
 |_,[],_=>rfl
 |i,d :: l,h=>by
  rw [lefts,lefts_all (i+1) l fun j h1 h2 h3=>h j (by omega) (by simp only [List.length_cons];omega) h3]
  have:¬(0<i∧hasB may i=false):=fun ⟨h1,h2⟩=>by
   rw [h i (Nat.le_refl _) (by simp) h1] at h2
   cases h2
  rw [if_neg this]
  rfl
theorem end_is {x:Inst} {s:State} (h:(x.endS s).2=true):x.may=true∧((x.pairs=0∧s=x.rootS∧x.endS s=(0,true))∨
  (s.mayB x=true∧s.spot≠0∧s.on=0∧x.allB s.can=true∧s.time+far (x.stop s.spot) (x.stop 0)≤(x.stop 0).due∧x.endS s=(far (x.stop s.spot) (x.stop 0),true))):=by
 unfold Inst.endS at h ⊢
 split at h
 ·cases h
 ·rename_i h1
  have hm:x.may=true:=by simpa using h1
  refine ⟨hm,?_⟩
  rw [if_neg h1]
  split at h
  ·rename_i h2
   rw [if_pos h2]
   exact .inl ⟨h2.1,h2.2,rfl⟩
  ·rename_i h2
   rw [if_neg h2]
   split at h
   ·rename_i h3
    rw [if_pos h3]
    exact .inr ⟨h3.1,h3.2.1,h3.2.2.1,h3.2.2.2.1,h3.2.2.2.2,rfl⟩
   ·cases h
theorem low_end {x:Inst} {s:State} (h:(x.endS s).2=true):lowP x.near s.can≤(x.endS s).1:=by
 obtain ⟨hm,h⟩:=end_is h
 obtain ⟨p,hx⟩:=x.fit hm
 have hp:=hx.pairs
 have hlen:=near_length hx hm
 rcases h with ⟨h1,h2,e⟩ | ⟨h1,h2,h3,h4,h5,e⟩
 ·rw [e]
  have:x.near.length=1:=by omega
  match hn:x.near,this with
  |[a],_=>simp [lowP]
 ·have hst:=s.fit hx h1
  have hp1:1≤p:=by have:=hst.spot;omega
  rw [e,lowP_cons (by omega),lefts_all 0 x.near fun j _ hj h0=>by
   have:=hx.few
   rw [has_testN (by omega)]
   exact Inst.all_bit hx h4 (by omega) (by omega)]
  obtain ⟨m,hmm⟩:∃m:Nat,s.spot=m:=⟨s.spot.toNat,by have:=hst.spot;omega⟩
  have hf:=near_far hx hm (k:=0) (m:=m) (by omega) (by have:=hst.spot;omega) (by omega)
  rw [hmm]
  show _≤far (x.stop m) (x.stop 0)
  have e0:x.stop ((0:Nat):Int)=x.stop 0:=rfl
  rw [e0] at hf
  omega
theorem seen_step {x:Inst} {s:State} {j:Int} (h:(x.move s j).2.2=true):(x.move s j).1.seenAt:=by
 by_cases hj:j=0
 ·subst hj
  obtain ⟨_,_,_,e⟩:=move_home h
  rw [e]
  exact .inl rfl
 ·obtain ⟨hm,_,h1,h2,_,_,_,e⟩:=move_pos h hj
  obtain ⟨p,hx⟩:=x.fit hm
  have hp:=hx.pairs
  have hfew:=hx.few
  rw [e]
  refine .inr ?_
  show hasB (withN s.must j) j=true
  obtain ⟨k,rfl⟩:∃k:Nat,j=k:=⟨j.toNat,by omega⟩
  rw [has_withN (by omega)]
  simp
end Go.Proofs.YtackfabapangdaaGreat

set_option maxRecDepth 4000
namespace Go.Proofs.YtackfabapangdaaGreat
open Go Go.Proofs.YtackfabapangdaaGreat.R
theorem canB_mem {f:Nat→Bool}:∀{n:Nat} {j:Int},j∈canB f n→∃k:Nat,j=k∧k<n∧f k=true
 |0,j,h=>by cases h
 |n+1,j,h=>by
  rw [canB,List.mem_append] at h
  rcases h with h | h
  ·obtain ⟨k,h1,h2,h3⟩:=canB_mem h
   exact ⟨k,h1,by omega,h3⟩
  ·split at h
   ·rename_i hf
    rw [List.mem_singleton] at h
    exact ⟨n,h,by omega,hf⟩
   ·cases h
theorem moves_mem {x:Inst} {s:State} {j:Int} (h:j∈x.moves s):(x.move s j).2.2=true:=by
 rw [moves_can] at h
 obtain ⟨k,rfl,_,h3⟩:=canB_mem h
 exact h3
theorem moves_len (x:Inst) (s:State):(x.moves s).length≤x.stops.length:=by
 rw [moves_can]
 exact canB_len _ _
theorem move_cost {x:Inst} {s:State} {j:Int} (h:(x.move s j).2.2=true):0≤(x.move s j).2.1∧(x.move s j).2.1≤14143:=by
 obtain ⟨_,_,_,_,e⟩:=move_is h
 rw [e]
 exact far_le _ _
end Go.Proofs.YtackfabapangdaaGreat

set_option maxRecDepth 4000
namespace Go.Proofs.YtackfabapangdaaGreat
open Go Go.Proofs.YtackfabapangdaaGreat.R
theorem sumI_two {a b:Int} (ha:0≤a) (hb:0≤b) (h:a+b≤1152921504606846976):sumI [a,b]=a+b:=by
 simp only [sumI,List.foldl_cons,List.foldl_nil,sum1]
 omega
theorem goes_app (x:Inst):∀(l m:List Int) (s:State) (c:Int),x.goes (l++m) s c=(x.goes l s c).bind fun r=>x.goes m r.1 r.2
 |[],m,s,c=>rfl
 |j :: l,m,s,c=>by
  rw [List.cons_append,Inst.goes,Inst.goes]
  split
  ·exact goes_app x l m _ _
  ·rfl
theorem seen_root (x:Inst):x.rootS.seenAt:=by
 unfold Inst.rootS
 split<;>exact .inl rfl
theorem end_cost {x:Inst} {s:State} (h:(x.endS s).2=true):0≤(x.endS s).1∧(x.endS s).1≤14143:=by
 obtain ⟨_,h | h⟩:=end_is h
 ·rw [h.2.2];omega
 ·rw [h.2.2.2.2.2];exact far_le _ _
theorem ints_one (l:List Int):∀y∈ints l,y.length=1:=by
 intro y hy
 simp only [ints,List.mem_map] at hy
 obtain ⟨n,_,rfl⟩:=hy
 rfl
end Go.Proofs.YtackfabapangdaaGreat

set_option maxRecDepth 4000
namespace Go.Proofs.YtackfabapangdaaGreat
open Go Go.Proofs.YtackfabapangdaaGreat.R
theorem clone_spec (l:List Int) (hl:l.length<4294967296) (σ:Nat→AObj) (nx:Nat):CallSpec P 215 [.t (.sl (ints l))] σ nx (.ref nx) (oput σ nx (.arr 1 (ints l))) (nx+1):=by
 refine CallQ.spec (spec_of Tryz.func215 rfl rfl (by simp [Tryz.f215]) fun B hB hnx hσ=>K_after ?_)
 simp only [Tryz.f215] at hB ⊢
 have hil:(ints l).length=l.length:=List.length_map _
 have hne:ints l=[]↔l=[]:=by simp [ints]
 have h1:=ints_one l
 have hmost:l.length≤mostLen:=by show l.length≤4294967296;omega
 refine K_run hB 100 ?_
 simp [go_sem]
 refine K_nilEq (es:=ints l) rfl rfl (by simp [go_sem,hB]) tt68 rfl (by simp [go_sem]) fun b hb=>?_
 cases b with
 |true=>
  have e:l=[]:=Decidable.byContradiction fun h=>by have:=hb (fun h'=>h (hne.1 h'));cases this
  have e2:ints l=[]:=hne.2 e
  refine K_run hB 100 ?_
  simp [go_sem]
  refine ⟨_,fun a w hr=>rel_own (t:=2) (sz:=1) (by simp [go_sem]) hr,?_⟩
  simp [go_sem,e2]
 |false=>
  refine K_run hB 100 ?_
  simp [go_sem,hil,hne,hmost,if_pos h1]
  refine ⟨_,Imp.self,?_⟩
  simp [go_sem]
theorem own_pure (n:Node) (hl:n.path.length<4294967296):Pure P 217 [n.a] (n.a):=by
 refine pure_of Tryz.func217 rfl rfl (by simp [Tryz.f217]) (by simp [bnd,bnd.bndL,Node.a,Node.cs]) (by simp [bnd,bnd.bndL,Node.a,Node.cs]) fun B hB hnx=>?_
 simp only [Tryz.f217] at hB ⊢
 refine K_run hB 100 ?_
 simp [go_sem,Node.a,Node.cs]
 refine K_call rfl rfl rfl (args:=[.t (.sl (ints n.path))]) (f:=215) (by simp [go_sem]) (by simp [go_sem,hB]) (clone_spec n.path hl _ _) ?_
 refine K_run hB 100 ?_
 simp [go_sem]
end Go.Proofs.YtackfabapangdaaGreat

set_option maxRecDepth 4000
namespace Go.Proofs.YtackfabapangdaaGreat
open Go Go.Proofs.YtackfabapangdaaGreat.R
def sIdx (s:State):List Node→Option Nat
 |[]=>none
 |m :: l=>if m.s=s then some 0 else (sIdx s l).map (·+1)
def once1 (out:List Node) (n:Node):List Node:=match sIdx n.s out with
 |none=>out++[n]
 |some i=>if n.cost<(out.getD i n).cost then out.set i n else out
def onceL (l:List Node):List Node:=l.foldl once1 []
def State.v (s:State):Value:=.agg #[.int .i64 s.spot,.int .i64 s.car,.int .i64 s.time,.int .i64 s.load,.int .i64 s.first,.int .u64 s.must,.int .u64 s.can,.int .u64 s.on]
theorem State.v_inj {a b:State} (h:a.v=b.v):a=b:=by
 simp only [State.v,Value.agg.injEq,Array.mk.injEq,List.cons.injEq,Value.int.injEq,and_true,true_and] at h
 cases a;cases b
 simp only [State.mk.injEq]
 simp only at h
 omega
theorem State.plain (s:State):plainA s.a=some s.v:=rfl
def keysM:Nat→List Node→List (Value×AV)
 |_,[]=>[]
 |k,m :: l=>(m.s.v,.i k) :: keysM (k+1) l
theorem findM_keys (s:State):∀(k:Nat) (out:List Node),findM s.v (keysM k out)=(sIdx s out).map fun i=>(i,.i ((k+i:Nat):Int))
 |_,[]=>rfl
 |k,m :: l=>by
  rw [keysM,findM,sIdx,findM_keys s (k+1) l]
  by_cases h:m.s=s
  ·rw [if_pos (by rw [h]),if_pos h];rfl
  ·rw [if_neg (fun e=>h (State.v_inj e)),if_neg h,Option.map_map,Option.map_map]
   congr 1
   funext i
   simp only [Function.comp]
   rw [show k+1+i=k+(i+1) by omega]
theorem keysM_app (n:Node):∀(k:Nat) (out:List Node),keysM k (out++[n])=keysM k out++[(n.s.v,.i ((k+out.length:Nat):Int))]
 |_,[]=>rfl
 |k,m :: l=>by
  rw [List.cons_append,keysM,keysM,keysM_app n (k+1) l,List.cons_append,List.length_cons,show k+1+l.length=k+(l.length+1) by omega]
theorem keysM_set {n:Node}:∀(k i:Nat) (out:List Node) (h:i<out.length),out[i].s=n.s→keysM k (out.set i n)=keysM k out
 |_,_,[],h,_=>by simp at h
 |k,0,m :: l,_,e=>by simp only [List.set_cons_zero,keysM];rw [show m.s=n.s from e]
 |k,i+1,m :: l,h,e=>by
  rw [List.set_cons_succ,keysM,keysM,keysM_set (k+1) i l (by simpa using h) (by simpa using e)]
theorem sIdx_some {s:State}:∀{out:List Node} {i:Nat},sIdx s out=some i→∃h:i<out.length,out[i].s=s
 |[],i,h=>by simp [sIdx] at h
 |m :: l,i,h=>by
  rw [sIdx] at h
  split at h
  ·rename_i e
   cases h
   exact ⟨by simp,e⟩
  ·obtain ⟨j,h1,rfl⟩:=Option.map_eq_some_iff.1 h
   obtain ⟨h2,h3⟩:=sIdx_some h1
   exact ⟨by simpa using h2,by simpa using h3⟩
theorem keys_tell (s:State) (k:Nat) (out:List Node):TellM P 67 s.a s.v (keysM k out):=by
 induction out generalizing k with
 |nil=>intro e h;cases h
 |cons m l ih=>
  intro e h
  rw [keysM] at h
  rcases List.mem_cons.1 h with rfl | h
  ·refine ⟨m.s.a,m.s.plain,?_⟩
   rw [state_eq]
   congr 1
   rw [decide_eq_decide]
   exact ⟨fun h=>by rw [h],fun h=>(State.v_inj h).symm⟩
  ·exact ih (k+1) e h
theorem state_key (s:State):ckA P 10000 67 s.a=true:=by kernel_rfl
theorem once1_len (out:List Node) (n:Node):(once1 out n).length≤out.length+1:=by
 unfold once1
 split
 ·simp
 ·split<;>simp
def nodesT (l:List Node):List (List T):=l.map Node.t
theorem nodesT_get (l:List Node) {k:Nat} (h:k<l.length):(nodesT l)[k]'(by rw [nodesT,List.length_map];exact h)=l[k].t:=by simp [nodesT]
theorem nodesT_len (l:List Node):∀y∈nodesT l,y.length=10:=by
 intro y hy
 simp only [nodesT,List.mem_map] at hy
 obtain ⟨n,_,rfl⟩:=hy
 rfl
structure Node.Fine (n:Node):Prop where
 ok:n.s.ok
 len:n.path.length<2^31
theorem once_pure (l:List Node) (hl:l.length<2^31) (hn:∀n∈l,n.Fine):Pure P 219 [.t (.sl (nodesT l))] (.t (.sl (nodesT (onceL l)))):=by
 generalize hR:onceL l=R
 refine pure_of Tryz.func219 rfl rfl (by simp [Tryz.f219]) (by simp [bnd,bnd.bndL]) (by simp [bnd,bnd.bndL]) fun B hB hnx=>?_
 simp only [Tryz.f219] at hB ⊢
 have hil:(nodesT l).length=l.length:=List.length_map _
 have hgt:∀(k:Nat) (h:k<l.length),(nodesT l)[k]'(by rw [hil];exact h)=l[k].t:=fun k h=>nodesT_get l h
 generalize hX:nodesT l=X at *
 have hmost:mostLen=4294967296:=rfl
 refine K_run hB 100 ?_
 simp [go_sem,hil]
 refine K_own 4 10 (by simp [go_sem]) ?_
 refine K_loopP (α:=Nat×List Node×Nat×(Nat→AObj)×Nat) (fun (k,out,j,σ,nx)=>k≤l.length∧(l.drop k).foldl once1 out=R∧out.length≤k∧σ 0= .map (keysM 0 out)∧σ j= .arr 10 (nodesT out)∧0<j∧j<nx)
  (fun (k,out,j,σ,nx)=>⟨sl [(3,.mapr 0),(4,.ref j),(10,.t (.sl X)),(11,.i l.length),(12,.i k)],σ,nx⟩) (fun a=>l.length-a.1) (0,[],1,_,2) ?_ (Imp.slots (by simp [go_sem,hil]) rfl rfl) ?_
 ·exact ⟨Nat.zero_le _,hR,Nat.le_refl _,by simp [oput,keysM],by simp [oput,nodesT],by omega,by omega⟩
 rintro ⟨k,out,j,σ,nx⟩ ⟨g1,g2,g3,g4,g5,g6,g7⟩
 refine K_run hB 60 ?_
 simp [go_sem]
 refine fork_dec (fun hk=>?_) (fun hk=>?_)
 ·have hkk:IntKind.i64.wrap ((k:Int)+1)=((k+1:Nat):Int):=by rw [w64 ((k:Int)+1) (by omega)];rfl
  have hget:∀h:k<X.length,X[k]'h=l[k].t:=fun h=>hgt k hk
  rw [List.drop_eq_getElem_cons hk,List.foldl_cons] at g2
  have hfine:=hn l[k] (List.getElem_mem _)
  generalize l[k]=n at *
  have hown:=own_pure n (by have:=hfine.len;omega)
  simp [go_sem,hil,hk,hget,Node.t,g5]
  refine K_lookup (kt:=67) (et:=3) (es:=keysM 0 out) (u:=n.s.v) (m:=0) (r:=match sIdx n.s out with | some i=>.tup [.i i,.b true] | none=>.tup [.i 0,.b false]) rfl rfl (by simp [go_sem,hB]) tt298 rfl tt3 (by kernel_rfl) (by simp [go_sem]) (by simp [go_sem,g4,show ¬0=nx by omega]) (by simp [go_sem];exact n.s.plain) (by simp [go_sem];exact state_key n.s) (by simp [go_sem];exact keys_tell n.s 0 out) ?_ ?_
  ·rw [lookA,findM_keys]
   cases sIdx n.s out with
   |none=>simp [go_sem]
   |some i=>simp
  have ho:once1 out n=match sIdx n.s out with
   |none=>out++[n]
   |some i=>if n.cost<(out.getD i n).cost then out.set i n else out:=rfl
  have hlen:(nodesT out).length=out.length:=List.length_map _
  have hnj:¬j=nx:=by omega
  have hn0:¬0=nx:=by omega
  have h0j:¬0=j:=by omega
  cases hi:sIdx n.s out with
  |none=>
   rw [hi] at ho
   simp only at ho
   rw [ho] at g2
   have hcap:out.length+1≤mostLen:=by omega
   refine K_run hB 100 ?_
   simp [go_sem,g5,hlen,hnj]
   refine K_mapSet (kt:=67) (et:=3) (es:=keysM 0 out) (u:=n.s.v) (m:=0) rfl rfl (by simp [go_sem,hB]) tt298 rfl (by kernel_rfl) (by simp [go_sem]) (by simp [go_sem,g4,hn0]) (by simp [go_sem];exact n.s.plain) (by simp [go_sem];exact state_key n.s) (by simp [go_sem];exact keys_tell n.s 0 out) (.inl (by rw [findM_keys,hi];rfl)) ?_
   refine K_run hB 100 ?_
   simp [go_sem,show ¬nx=0 by omega]
   refine K_call rfl rfl rfl (args:=[n.a]) (f:=217) (by simp [go_sem,Node.a,Node.cs]) (by simp [go_sem,hB]) ((hown).spec _ _) ?_
   refine K_run hB 100 ?_
   simp [go_sem,Node.a,Node.cs,g5,hlen,hcap,hnj,hkk,h0j,show ¬j=0 by omega]
   refine Next.mk (k+1,out++[n],nx+1,_,nx+2) ?_ (Imp.slots (by simp [go_sem]) rfl rfl) (by simp only;omega)
   refine ⟨by simp only;omega,g2,by simp only [List.length_append,List.length_cons,List.length_nil];omega,?_,?_,by simp only;omega,by simp only;omega⟩
   ·simp [oput,hn0,h0j,setM,findM_keys,hi,keysM_app]
   ·simp [oput,nodesT,Node.t]
  |some i=>
   obtain ⟨hil2,his⟩:=sIdx_some hi
   rw [hi] at ho
   simp only at ho
   have hgi:∀h:i<(nodesT out).length,(nodesT out)[i]'h=out[i].t:=fun h=>nodesT_get out hil2
   have hgd:out.getD i n=out[i]:=by rw [List.getD_eq_getElem?_getD,List.getElem?_eq_getElem hil2];rfl
   rw [hgd] at ho
   have q1:i*10 / 10=i:=by omega
   have q2:(i*10+8) / 10=i:=by omega
   have q3:(i*10+8) % 10=8:=by omega
   have q4:i*10 % 10=0:=by omega
   have q5:(i:Int)<out.length:=by omega
   refine K_run hB 100 ?_
   simp [go_sem]
   refine K_drawn [] rfl (by rw [hB];kernel_rfl) ?_
   by_cases c1:n.cost<out[i].cost
   ·rw [if_pos c1] at ho
    rw [ho] at g2
    refine K_run hB 100 ?_
    simp [go_sem,g5,hlen,hnj,hgi,q2,q3,q5,hil2,Node.t,c1]
    refine K_call rfl rfl rfl (args:=[n.a]) (f:=217) (by simp [go_sem,Node.a,Node.cs]) (by simp [go_sem,hB]) ((hown).spec _ _) ?_
    refine K_run hB 100 ?_
    simp [go_sem,Node.a,Node.cs,g5,hlen,hnj,hgi,q1,q4,q5,hil2,Node.t,hkk]
    refine Next.mk (k+1,out.set i n,j,_,nx+1) ?_ (Imp.slots (by simp [go_sem]) rfl rfl) (by simp only;omega)
    refine ⟨by simp only;omega,g2,by simp only [List.length_set];omega,?_,?_,by simp only;omega,by simp only;omega⟩
    ·rw [keysM_set 0 i out hil2 his]
     simp [oput,hn0,h0j,g4]
    ·simp [oput,nodesT,Node.t,List.map_set]
   ·rw [if_neg c1] at ho
    rw [ho] at g2
    refine K_run hB 100 ?_
    simp [go_sem,g5,hlen,hnj,hgi,q2,q3,q5,hil2,Node.t,c1,hkk]
    refine Next.mk (k+1,out,j,_,nx+1) ?_ (Imp.slots (by simp [go_sem]) rfl rfl) (by simp only;omega)
    refine ⟨by simp only;omega,g2,by simp only;omega,?_,?_,by simp only;omega,by simp only;omega⟩
    ·simp [oput,hn0,g4]
    ·simp [oput,hnj,g5]
 ·have:k=l.length:=by omega
  subst this
  rw [List.drop_length,List.foldl_nil] at g2
  subst g2
  simp [go_sem,g5]
end Go.Proofs.YtackfabapangdaaGreat

set_option maxRecDepth 4000
namespace Go.Proofs.YtackfabapangdaaGreat
open Go Go.Proofs.YtackfabapangdaaGreat.R
def lastF (s:State):Nat→List Node→Int→Int
 |_,[],v=>v
 |i,m :: l,v=>lastF s (i+1) l (if m.s=s then (i:Int) else v)
theorem lastF_no {s:State}:∀(i:Nat) (l:List Node) (v:Int),(∀m∈l,m.s≠s)→lastF s i l v=v
 |_,[],_,_=>rfl
 |i,m :: l,v,h=>by rw [lastF,if_neg (h m List.mem_cons_self),lastF_no (i+1) l v fun x hx=>h x (List.mem_cons_of_mem _ hx)]
theorem lastF_idx {s:State}:∀(i:Nat) (l:List Node) (v:Int),(l.map Node.s).Nodup→lastF s i l v=match sIdx s l with | some j=>((i+j:Nat):Int) | none=>v
 |_,[],_,_=>rfl
 |i,m :: l,v,h=>by
  rw [List.map_cons,List.nodup_cons] at h
  rw [lastF,sIdx]
  by_cases e:m.s=s
  ·rw [if_pos e,if_pos e,lastF_no]
   ·rfl
   ·intro x hx hxs
    exact h.1 (List.mem_map.2 ⟨x,hx,by rw [hxs,e]⟩)
  ·rw [if_neg e,if_neg e,lastF_idx (i+1) l v h.2]
   cases sIdx s l with
   |none=>rfl
   |some j=>simp only [Option.map_some];rw [show i+1+j=i+(j+1) by omega]
theorem sIdx_none {s:State}:∀{l:List Node},sIdx s l=none→∀m∈l,m.s≠s
 |[],_,m,h=>by cases h
 |a :: l,h,m,hm=>by
  rw [sIdx] at h
  split at h
  ·cases h
  ·rename_i e
   rcases List.mem_cons.1 hm with rfl | hm
   ·exact e
   ·exact sIdx_none (by simpa using h) m hm
theorem set_states {out:List Node} {n:Node} {i:Nat} (h:i<out.length) (e:out[i].s=n.s):(out.set i n).map Node.s=out.map Node.s:=by
 rw [List.map_set,←e]
 apply List.ext_getElem?
 intro j
 by_cases hj:i=j
 ·subst hj
  rw [List.getElem?_set_self (by simpa using h),List.getElem?_map,List.getElem?_eq_getElem h];rfl
 ·rw [List.getElem?_set_ne hj]
theorem once1_nodup {out:List Node} (h:(out.map Node.s).Nodup) (n:Node):((once1 out n).map Node.s).Nodup:=by
 unfold once1
 split
 ·rename_i e
  rw [List.map_append,List.nodup_append]
  refine ⟨h,by simp,?_⟩
  intro a ha b hb
  simp only [List.map_cons,List.map_nil,List.mem_singleton] at hb
  obtain ⟨m,hm,rfl⟩:=List.mem_map.1 ha
  rw [hb]
  exact sIdx_none e m hm
 ·rename_i i e
  obtain ⟨h1,h2⟩:=sIdx_some e
  split
  ·rw [set_states h1 h2];exact h
  ·exact h
theorem ronce_pure (l:List Node) (hl:l.length<2^31):Pure P 229 [.t (.sl (nodesT l))] (.t (.sl (nodesT (onceL l)))):=by
 generalize hR:onceL l=R
 refine pure_of Tryz.func229 rfl rfl (by simp [Tryz.f229]) (by simp [bnd,bnd.bndL]) (by simp [bnd,bnd.bndL]) fun B hB hnx=>?_
 simp only [Tryz.f229] at hB ⊢
 have hil:(nodesT l).length=l.length:=List.length_map _
 have hgt:∀(k:Nat) (h:k<l.length),(nodesT l)[k]'(by rw [hil];exact h)=l[k].t:=fun k h=>nodesT_get l h
 generalize hX:nodesT l=X at *
 have hmost:mostLen=4294967296:=rfl
 refine K_run hB 100 ?_
 simp [go_sem]
 refine K_own 3 10 (by simp [go_sem]) ?_
 refine K_loopP (α:=Nat×List Node×Nat×(Nat→AObj)×Nat) (fun (k,out,j,σ,nx)=>k≤l.length∧(l.drop k).foldl once1 out=R∧out.length≤k∧σ j= .arr 10 (nodesT out)∧j<nx∧(out.map Node.s).Nodup)
  (fun (k,out,j,σ,nx)=>⟨sl [(0,.t (.sl X)),(3,.ref j),(4,.i k)],σ,nx⟩) (fun a=>l.length-a.1) (0,[],0,_,1) ?_ (Imp.slots (by simp [go_sem]) rfl rfl) ?_
 ·exact ⟨Nat.zero_le _,hR,Nat.le_refl _,by simp [oput,nodesT],by omega,by simp⟩
 rintro ⟨k,out,j,σ,nx⟩ ⟨g1,g2,g3,g5,g7,gd⟩
 refine K_run hB 60 ?_
 simp [go_sem,hil]
 refine fork_dec (fun hk=>?_) (fun hk=>?_)
 ·have hkk:IntKind.i64.wrap ((k:Int)+1)=((k+1:Nat):Int):=by rw [w64 ((k:Int)+1) (by omega)];rfl
  have hget:∀h:k<X.length,X[k]'h=l[k].t:=fun h=>hgt k hk
  rw [List.drop_eq_getElem_cons hk,List.foldl_cons] at g2
  generalize l[k]=n at *
  have ho:once1 out n=match sIdx n.s out with
   |none=>out++[n]
   |some i=>if n.cost<(out.getD i n).cost then out.set i n else out:=rfl
  have hnd:=once1_nodup gd n
  have hlast:=lastF_idx (s:=n.s) 0 out (-1) gd
  have hlen:(nodesT out).length=out.length:=List.length_map _
  simp [go_sem]
  refine K_loopP (α:=Nat×Int) (fun (i,v)=>i≤out.length∧lastF n.s i (out.drop i) v=lastF n.s 0 out (-1)) (fun (i,v)=>⟨sl [(0,.t (.sl X)),(3,.ref j),(4,.i k),(5,.i v),(6,.i i)],σ,nx⟩) (fun a=>out.length-a.1) (0,-1) ⟨Nat.zero_le _,rfl⟩ (Imp.slots (by simp [go_sem]) rfl rfl) ?_
  rintro ⟨i,v⟩ ⟨f1,f2⟩
  refine K_run hB 60 ?_
  simp [go_sem,g5,hlen]
  refine fork_dec (fun hi=>?_) (fun hi=>?_)
  ·have hii:IntKind.i64.wrap ((i:Int)+1)=((i+1:Nat):Int):=by rw [w64 ((i:Int)+1) (by omega)];rfl
   have hgi:∀h:i<(nodesT out).length,(nodesT out)[i]'h=out[i].t:=fun h=>nodesT_get out hi
   rw [List.drop_eq_getElem_cons hi,lastF] at f2
   generalize out[i]=m at *
   have q1:i*10 / 10=i:=by omega
   have q4:i*10 % 10=0:=by omega
   simp [go_sem]
   refine K_drawn [] rfl (by rw [hB];kernel_rfl) ?_
   refine K_run hB 100 ?_
   simp [go_sem,g5,hlen,hi,hgi,q1,q4,hil,hk,hget,Node.t]
   refine K_dEq (op:=.eql) (t:=67) (t':=67) (x:=.tmp 23) (y:=.tmp 28) (xs:=m.s.cs) (ys:=n.s.cs) (by simp [go_sem]) rfl (by simp [go_sem,State.cs]) (by simp [go_sem,State.cs]) state_guard (state_eq m.s n.s) rfl ?_
   by_cases e:m.s=n.s
   ·rw [if_pos e] at f2
    refine K_run hB 100 ?_
    simp [go_sem,e,hii]
    exact Next.mk (i+1,(i:Int)) ⟨by simp only;omega,f2⟩ (Imp.slots (by simp [go_sem]) rfl rfl) (by simp only;omega)
   ·rw [if_neg e] at f2
    refine K_run hB 100 ?_
    simp [go_sem,e,hii]
    exact Next.mk (i+1,v) ⟨by simp only;omega,f2⟩ (Imp.slots (by simp [go_sem]) rfl rfl) (by simp only;omega)
  ·have:i=out.length:=by omega
   subst this
   rw [List.drop_length,lastF,hlast] at f2
   cases hs:sIdx n.s out with
   |none=>
    rw [hs] at f2 ho
    simp only at f2 ho
    subst f2
    rw [ho] at g2 hnd
    have hcap:out.length+1≤mostLen:=by omega
    simp [go_sem,g5,hlen,hcap,hil,hk,hget,Node.t,hkk]
    refine Next.mk (k+1,out++[n],nx,_,nx+1) ?_ (Imp.slots (by simp [go_sem]) rfl rfl) (by simp only;omega)
    refine ⟨by simp only;omega,g2,by simp only [List.length_append,List.length_cons,List.length_nil];omega,?_,by simp only;omega,hnd⟩
    simp [oput,nodesT,Node.t]
   |some i=>
    rw [hs] at f2 ho
    simp only [Nat.zero_add] at f2 ho
    subst f2
    obtain ⟨hil2,his⟩:=sIdx_some hs
    have hgi:∀h:i<(nodesT out).length,(nodesT out)[i]'h=out[i].t:=fun h=>nodesT_get out hil2
    have hgd:out.getD i n=out[i]:=by rw [List.getD_eq_getElem?_getD,List.getElem?_eq_getElem hil2];rfl
    rw [hgd] at ho
    have q1:i*10 / 10=i:=by omega
    have q2:(i*10+8) / 10=i:=by omega
    have q3:(i*10+8) % 10=8:=by omega
    have q4:i*10 % 10=0:=by omega
    have q5:(i:Int)<out.length:=by omega
    have q6:¬(i:Int)<0:=by omega
    simp [go_sem,q6]
    refine K_drawn [] rfl (by rw [hB];kernel_rfl) ?_
    by_cases c1:n.cost<out[i].cost
    ·rw [if_pos c1] at ho
     rw [ho] at g2 hnd
     refine K_run hB 100 ?_
     simp [go_sem,g5,hlen,hgi,q1,q2,q3,q4,q5,hil2,hil,hk,hget,Node.t,c1,hkk]
     refine Next.mk (k+1,out.set i n,j,_,nx) ?_ (Imp.slots (by simp [go_sem]) rfl rfl) (by simp only;omega)
     refine ⟨by simp only;omega,g2,by simp only [List.length_set];omega,?_,by simp only;omega,hnd⟩
     simp [oput,nodesT,Node.t,List.map_set]
    ·rw [if_neg c1] at ho
     rw [ho] at g2 hnd
     refine K_run hB 100 ?_
     simp [go_sem,g5,hlen,hgi,q1,q2,q3,q4,q5,hil2,hil,hk,hget,Node.t,c1,hkk]
     exact Next.mk (k+1,out,j,σ,nx) ⟨by simp only;omega,g2,by simp only;omega,g5,by simp only;omega,hnd⟩ (Imp.slots (by simp [go_sem]) rfl rfl) (by simp only;omega)
 ·have:k=l.length:=by omega
  subst this
  rw [List.drop_length,List.foldl_nil] at g2
  subst g2
  simp [go_sem,g5]
theorem rsameN_pure (a b:List Node) (ha:a.length<2^63) (hb:b.length<2^63) (hpa:∀n∈a,n.path.length<2^63) (hpb:∀n∈b,n.path.length<2^63):Pure P 70 [.t (.sl (nodesT a)),.t (.sl (nodesT b))] (.b (decide (a=b))):=by
 refine pure_of Tryz.func70 rfl rfl (by simp [Tryz.f70]) (by simp [bnd,bnd.bndL]) (by simp [bnd,bnd.bndL]) fun B hB hnx=>?_
 simp only [Tryz.f70] at hB ⊢
 have h1:(nodesT a).length=a.length:=List.length_map _
 have h2:(nodesT b).length=b.length:=List.length_map _
 by_cases c0:a.length=b.length
 rotate_left
 ·have:¬a=b:=fun e=>c0 (by rw [e])
  refine K_run hB 100 ?_
  simp [go_sem,h1,h2,c0,this]
 refine K_run hB 100 ?_
 simp [go_sem,h1,h2,c0]
 refine K_loopP (α:=Nat) (fun k=>k≤b.length∧a.take k=b.take k) (fun k=>⟨sl [(0,.t (.sl (nodesT a))),(1,.t (.sl (nodesT b))),(5,.i k)],noObj,0⟩) (fun k=>b.length-k) 0 ⟨Nat.zero_le _,rfl⟩ (Imp.slots (by simp [go_sem]) rfl rfl) ?_
 rintro k ⟨g1,g2⟩
 refine K_run hB 100 ?_
 simp [go_sem,h1,c0]
 refine fork_dec (fun hk=>?_) (fun hk=>?_)
 ·have hkk:IntKind.i64.wrap ((k:Int)+1)=((k+1:Nat):Int):=by rw [w64 ((k:Int)+1) (by omega)];rfl
  have hk':k<a.length:=by omega
  have e1:∀h:k<(nodesT a).length,(nodesT a)[k]'h=a[k].t:=fun h=>nodesT_get a hk'
  have e2:∀h:k<(nodesT b).length,(nodesT b)[k]'h=b[k].t:=fun h=>nodesT_get b hk
  have n1:a.take (k+1)=a.take k++[a[k]]:=by rw [List.take_add_one,List.getElem?_eq_getElem hk'];rfl
  have n2:b.take (k+1)=b.take k++[b[k]]:=by rw [List.take_add_one,List.getElem?_eq_getElem hk];rfl
  have hs:=rsame_pure a[k].path b[k].path (hpa _ (List.getElem_mem _)) (hpb _ (List.getElem_mem _))
  have hne:a[k]≠b[k]→¬a=b:=fun h e=>h (by subst e;rfl)
  have heq:a[k]=b[k]↔a[k].path=b[k].path∧a[k].s=b[k].s∧a[k].cost=b[k].cost:=by
   generalize a[k]=x
   generalize b[k]=y
   cases x;cases y
   simp only [Node.mk.injEq]
   exact ⟨fun h=>⟨h.2.2,h.1,h.2.1⟩,fun h=>⟨h.2.1,h.2.2,h.1⟩⟩
  simp [go_sem]
  refine K_drawn [] rfl (by rw [hB];kernel_rfl) ?_
  generalize a[k]=x at *
  generalize b[k]=y at *
  refine K_run hB 100 ?_
  simp [go_sem,h1,h2,hk,hk',e1,e2,Node.t]
  refine K_dCallP rfl rfl rfl (args:=[.t (.sl (ints x.path)),.t (.sl (ints y.path))]) (f:=38) (by simp [go_sem]) (hs) ?_
  by_cases d1:x.path=y.path
  rotate_left
  ·have:=hne (fun h=>d1 (heq.1 h).1)
   refine K_run hB 100 ?_
   simp [go_sem,d1]
   refine K_drawn [] rfl (by rw [hB];kernel_rfl) ?_
   refine K_run hB 100 ?_
   simp [go_sem,this]
  refine K_run hB 100 ?_
  simp [go_sem,d1]
  refine K_drawn [] rfl (by rw [hB];kernel_rfl) ?_
  refine K_run hB 100 ?_
  simp [go_sem,h1,h2,hk,hk',e1,e2,Node.t]
  refine K_dEq (op:=.neq) (t:=67) (t':=67) (x:=.tmp 36) (y:=.tmp 41) (xs:=x.s.cs) (ys:=y.s.cs) (by simp [go_sem]) rfl (by simp [go_sem,State.cs]) (by simp [go_sem,State.cs]) state_guard (state_eq x.s y.s) rfl ?_
  by_cases d2:x.s=y.s
  rotate_left
  ·have:=hne (fun h=>d2 (heq.1 h).2.1)
   refine K_run hB 100 ?_
   simp [go_sem,d2,this]
  by_cases d3:x.cost=y.cost
  rotate_left
  ·have:=hne (fun h=>d3 (heq.1 h).2.2)
   refine K_run hB 100 ?_
   simp [go_sem,d2,h1,h2,hk,hk',e1,e2,Node.t,d3,this]
  have hxy:=heq.2 ⟨d1,d2,d3⟩
  refine K_run hB 100 ?_
  simp [go_sem,d2,h1,h2,hk,hk',e1,e2,Node.t,d3,hkk]
  refine Next.mk (k+1) ⟨by omega,by rw [n1,n2,g2,hxy]⟩ (Imp.slots (by simp [go_sem]) rfl rfl) (by omega)
 ·have:k=b.length:=by omega
  subst this
  rw [List.take_of_length_le (by omega),List.take_of_length_le (by omega)] at g2
  simp [go_sem,g2]
end Go.Proofs.YtackfabapangdaaGreat

set_option maxRecDepth 4000
namespace Go.Proofs.YtackfabapangdaaGreat
open Go Go.Proofs.YtackfabapangdaaGreat.R
def Inst.child (x:Inst) (n:Node) (j:Int):Node:=⟨(x.move n.s j).1,sumI [n.cost,(x.move n.s j).2.1],n.path++[j]⟩
def Node.ra (n:Node) (r:Nat):AV:=.agg [.i n.s.spot,.i n.s.car,.i n.s.time,.i n.s.load,.i n.s.first,.u n.s.must,.u n.s.can,.u n.s.on,.i n.cost,.ref r]
theorem children_pure (x:Inst) (n:Node) (σ:Nat→AObj) (nx:Nat):CallQ P 218 [x.a,n.a] σ nx fun r σ' nx'=>r= .fn (.func 244) [] [.ptr nx 0,.ptr (nx+1) 0]∧nx'=nx+2∧
  σ'=oput (oput σ nx (.box x.cs)) (nx+1) (.box n.cs):=by
 refine spec_of Tryz.func218 rfl rfl (by simp [Tryz.f218]) fun B hB hnx hσ=>?_
 simp only [Tryz.f218] at hB ⊢
 refine K_run hB 100 ?_
 simp [go_sem,Inst.a,Node.a,Node.cs,Inst.cs]
 omega
theorem children1_spec (x:Inst) (n:Node) (hl:x.stops.length<2^63) (ho:n.s.ok) (hp:n.path.length<2^31) (q b1 b2:Nat) (J:Nat→(Nat→AObj)→Nat→Prop) (σ0:Nat→AObj) (nx0:Nat) (h0:J 0 σ0 nx0)
  (hb:∀k σ nx,J k σ nx→nx0≤nx∧b1<nx∧b2<nx∧σ b1= .box x.cs∧σ b2= .box n.cs)
  (hy:∀k (hk:k<(x.moves n.s).length) σ nx σ1 nx1 r,J k σ nx→(∀i,i<nx→σ1 i=σ i)→nx≤r→r<nx1→σ1 r= .arr 1 (ints (n.path++[(x.moves n.s)[k]]))→
   ∃σ' nx',YieldQ P q [(x.child n (x.moves n.s)[k]).ra r] σ1 nx1 (fun a b=>a=σ'∧b=nx')∧J (k+1) σ' nx'):
  CallQ P 244 [.yld q,.ptr b1 0,.ptr b2 0] σ0 nx0 fun _ σ' nx'=>J (x.moves n.s).length σ' nx':=by
 refine spec_of Tryz.func244 rfl rfl (by simp [Tryz.f244]) fun B hB hnx hσ=>?_
 simp only [Tryz.f244] at hB ⊢
 obtain ⟨_,_,_,a1,a2⟩:=hb 0 σ0 nx0 h0
 have hms:=moves_pure x n.s hl ho
 have hmv:=fun j=>move_pure x n.s j hl ho
 have hil:(ints (x.moves n.s)).length=(x.moves n.s).length:=List.length_map _
 have hpl:(ints n.path).length=n.path.length:=List.length_map _
 have hgt:∀(k:Nat) (h:k<(x.moves n.s).length),(ints (x.moves n.s))[k]'(by rw [hil];exact h)=[.i ((x.moves n.s)[k])]:=fun k h=>ints_getS _ h
 have hml:(x.moves n.s).length<2^63:=by
  rw [moves_can]
  have:=canB_len (fun k=>(x.move n.s k).2.2) x.stops.length
  omega
 have hmost:mostLen=4294967296:=rfl
 have hcl:=clone_spec n.path (by omega)
 generalize hX:ints (x.moves n.s)=X at *
 generalize hL:x.moves n.s=L at *
 refine K_run hB 100 ?_
 simp [go_sem,a1,a2,Inst.cs,Node.cs]
 refine K_call rfl rfl rfl (args:=[x.a,n.s.a]) (f:=109) (by simp [go_sem,Inst.a,State.a,State.cs]) (by simp [go_sem,hB]) ((hms).spec _ _) ?_
 refine K_run hB 100 ?_
 simp [go_sem,hil]
 refine K_loopP (α:=Nat×(Nat→AObj)×Nat) (fun (k,σ,nx)=>k≤L.length∧J k σ nx) (fun (k,σ,nx)=>⟨sl [(0,.yld q),(1,.ptr b1 0),(2,.ptr b2 0),(12,.t (.sl X)),(13,.i L.length),(14,.i k)],σ,nx⟩) (fun a=>L.length-a.1) (0,σ0,nx0) ⟨Nat.zero_le _,h0⟩ (Imp.slots (by simp [go_sem]) rfl rfl) ?_
 rintro ⟨k,σ,nx⟩ ⟨g1,g2⟩
 obtain ⟨gn,l1,l2,d1,d2⟩:=hb k σ nx g2
 refine K_run hB 60 ?_
 simp [go_sem]
 refine fork_dec (fun hk=>?_) (fun hk=>?_)
 ·have hkk:IntKind.i64.wrap ((k:Int)+1)=((k+1:Nat):Int):=by rw [w64 ((k:Int)+1) (by omega)];rfl
  have hget:∀h:k<X.length,X[k]'h=[.i L[k]]:=fun h=>hgt k hk
  have hyk:=hy k hk σ nx
  generalize L[k]=j at *
  have hm:=hmv j
  have hch:x.child n j=⟨(x.move n.s j).1,sumI [n.cost,(x.move n.s j).2.1],n.path++[j]⟩:=rfl
  generalize x.child n j=c at *
  generalize x.move n.s j=V at *
  obtain ⟨t,d,is⟩:=V
  simp only at hch
  have hsum:=sum_pure [n.cost,d] (by simp)
  have n1:¬b1=nx:=by omega
  have n2:¬b2=nx:=by omega
  have n3:¬b2=nx+1:=by omega
  have hcap:n.path.length+1≤mostLen:=by omega
  simp [go_sem,hil,hk,hget,d1,d2,Inst.cs,Node.cs]
  refine K_call rfl rfl rfl (args:=[x.a,n.s.a,.i j]) (f:=89) (by simp [go_sem,Inst.a,State.a,State.cs]) (by simp [go_sem,hB]) ((hm).spec _ _) ?_
  refine K_run hB 100 ?_
  simp [go_sem,mv,State.a,State.cs]
  refine K_drawnG [9,12,14] [0,1,10,11] [1] rfl (by rw [hB];kernel_rfl) (by kernel_rfl) fun ht hf'=>?_
  refine K_run hB 100 ?_
  simp [go_sem,ht,hf',d2,n2,Node.cs]
  refine K_dCallP rfl rfl rfl (args:=[.fsl (ints [n.cost,d])]) (f:=87) (by simp [go_sem,ints]) (Pure.loose hsum (by simp [bnd])) ?_
  refine K_run hB 100 ?_
  simp [go_sem,ht,hf',d2,n2,Node.cs]
  refine K_dCall rfl rfl rfl (args:=[.t (.sl (ints n.path))]) (f:=215) (by simp [go_sem]) (hcl _ _) (by decide) (okPends_does (by simp [go_sem])) ?_
  refine K_run hB 100 ?_
  simp [go_sem,ht,hf',hpl,hcap,show ¬nx=nx+1+1 by omega,show ¬nx=nx+1 by omega]
  obtain ⟨σ',nx',h1,h2⟩:=hyk (oput (oput (oput (oput (oput σ nx (.box [.i 0,.i 0,.i 0,.i 0,.i 0,.u 0,.u 0,.u 0])) nx (.box [.i t.spot,.i t.car,.i t.time,.i t.load,.i t.first,.u t.must,.u t.can,.u t.on])) (nx+1) (.arr 1 (ints n.path))) (nx+1) .dead) (nx+2) (.arr 1 (ints n.path++[[.i j]]))) (nx+3) (nx+2) g2 (fun i hi=>by simp [oput,show ¬i=nx by omega,show ¬i=nx+1 by omega,show ¬i=nx+2 by omega]) (by omega) (by omega) (by simp [oput,ints])
  refine K_dYield rfl rfl rfl (q:=q) (args:=[c.ra (nx+2)]) (σ':=σ') (nx':=nx') (by simp [go_sem]) (by simp [go_sem,Node.ra,hch]) h1 (by decide) (okPends_does ⟨.inl (by kernel_rfl),trivial⟩) ?_
  refine K_run hB 100 ?_
  simp [go_sem,hkk]
  exact Next.mk (k+1,σ',nx') ⟨by simp only;omega,h2⟩ (Imp.slots (by simp [go_sem]) rfl rfl) (by simp only;omega)
 ·have:k=L.length:=by omega
  subst this
  simp [go_sem,hnx,g2]
  exact gn
end Go.Proofs.YtackfabapangdaaGreat

set_option maxRecDepth 4000
namespace Go.Proofs.YtackfabapangdaaGreat
open Go Go.Proofs.YtackfabapangdaaGreat.R
def Inst.kids (x:Inst) (up:Int) (n:Node):List Node:=((x.moves n.s).map (x.child n)).filter fun c=>decide (x.of c<up)
def Node.zero:Node:=⟨State.zero,0,[]⟩
def Inst.best1 (x:Inst) (b:Node×Bool) (n:Node):Node×Bool:=
 if (x.endS n.s).2=true∧(b.2=false∨sumI [n.cost,(x.endS n.s).1]<b.1.cost) then ({n with cost:=sumI [n.cost,(x.endS n.s).1]},true) else b
def Inst.bests (x:Inst) (l:List Node):Node×Bool:=l.foldl x.best1 (Node.zero,false)
def Inst.next (x:Inst) (l:List Node) (up:Int):List Node:=onceL (l.flatMap (x.kids up))
theorem moves_33 (x:Inst) (s:State):(x.moves s).length≤33:=by
 cases hm:x.may with
 |false=>
  rw [Inst.moves,if_neg (by simp [hm])];simp
 |true=>
  obtain ⟨p,hx⟩:=x.fit hm
  have:=hx.len
  have:=hx.few
  have:=moves_len x s
  omega
theorem kids_33 (x:Inst) (up:Int) (n:Node):(x.kids up n).length≤33:=by
 unfold Inst.kids
 refine Nat.le_trans (List.length_filter_le _ _) ?_
 rw [List.length_map]
 exact moves_33 x n.s
def expRes (l:List Node) (b:Node×Bool):AV:=.tup [.t (.sl (nodesT l)),b.1.a,.b b.2]
theorem take_kids (x:Inst) (up:Int) (n:Node) {k:Nat} (hk:k<(x.moves n.s).length):
  (((x.moves n.s).take (k+1)).map (x.child n)).filter (fun c=>decide (x.of c<up))=(((x.moves n.s).take k).map (x.child n)).filter (fun c=>decide (x.of c<up))++(if x.of (x.child n (x.moves n.s)[k])<up then [x.child n (x.moves n.s)[k]] else []):=by
 rw [List.take_succ_eq_append_getElem hk,List.map_append,List.filter_append]
 congr 1
 simp only [List.map_cons,List.map_nil,List.filter_cons,List.filter_nil,decide_eq_true_eq]
structure Loop14 (x:Inst) (up:Int) (n:Node) (all:List Node) (b:Node) (L:AObj) (nx0 b1:Nat) (k:Nat) (σ:Nat→AObj) (nx:Nat):Prop where
 o0:σ 0= .box x.cs
 o1:σ 1= .box [.i up]
 o2:σ 2= .box Node.zero.cs
 o4:σ 4= .box b.cs
 p1:σ b1= .box x.cs
 p2:σ (b1+1)= .box n.cs
 q:σ (b1+2)=L
 le:nx0≤nx∧b1+2<nx∧4<b1
 row:∃a,σ 3= .box [.ref a]∧σ a= .arr 10 (nodesT (all++(((x.moves n.s).take k).map (x.child n)).filter fun c=>decide (x.of c<up)))∧4<a∧a<nx∧a≠b1∧a≠b1+1∧a≠b1+2
theorem expand_pure (x:Inst) (l:List Node) (up:Int) (hl:x.stops.length<2^31) (hll:l.length<2^20) (hn:∀n∈l,n.Fine) (hn2:∀n∈l,n.path.length<2^30):Pure P 180 [x.a,.t (.sl (nodesT l)),.i up] (expRes (x.next l up) (x.bests l)):=by
 generalize hR:x.next l up=R
 generalize hRb:x.bests l=Rb
 refine pure_ofR Tryz.func180 rfl rfl (by simp [Tryz.f180]) (by simp [bnd,bnd.bndL,Inst.a]) (by simp [bnd,bnd.bndL,expRes,Node.a,Node.cs]) fun B hB hnx hro=>?_
 simp only [Tryz.f180] at hB ⊢
 have hil:(nodesT l).length=l.length:=List.length_map _
 have hgt:∀(k:Nat) (h:k<l.length),(nodesT l)[k]'(by rw [hil];exact h)=l[k].t:=fun k h=>nodesT_get l h
 generalize hX:nodesT l=X at *
 have hmost:mostLen=4294967296:=rfl
 rw [Inst.next] at hR
 rw [Inst.bests] at hRb
 refine K_run hB 100 ?_
 simp [go_sem,Inst.a,hil]
 refine K_less (((Imp.ownB (b:=3) (off:=0) (sz:=10) (cs:=[.fsl []]) (by simp [go_sem]) rfl).trans (Imp.looseB (b:=2) (cs:=[.i 0,.i 0,.i 0,.i 0,.i 0,.u 0,.u 0,.u 0,.i 0,.fsl []]) (by simp [oput]))).trans (Imp.looseB (b:=4) (cs:=[.i 0,.i 0,.i 0,.i 0,.i 0,.u 0,.u 0,.u 0,.i 0,.fsl []]) (by simp [oput]))) ?_
 refine K_loopP (α:=Nat×List Node×(Node×Bool)×Nat×(Nat→AObj)×Nat) (fun (k,all,b,a,σ,nx)=>k≤l.length∧(all++(l.drop k).flatMap (x.kids up)=l.flatMap (x.kids up)∧all.length≤33*k)∧(l.drop k).foldl x.best1 b=Rb∧σ 0= .box x.cs∧σ 1= .box [.i up]∧σ 2= .box Node.zero.cs∧σ 3= .box [.ref a]∧σ 4= .box b.1.cs∧σ a= .arr 10 (nodesT all)∧4<a∧a<nx)
  (fun (k,all,b,a,σ,nx)=>⟨sl [(3,.ptr 0 0),(5,.ptr 1 0),(7,.ptr 2 0),(9,.ptr 3 0),(10,.ptr 4 0),(11,.b b.2),(18,.t (.sl X)),(19,.i l.length),(20,.i k)],σ,nx⟩) (fun a=>l.length-a.1) (0,[],(Node.zero,false),5,_,6) ?_ (Imp.slots (by simp [go_sem]) rfl rfl) ?_
 ·exact ⟨Nat.zero_le _,⟨rfl,Nat.le_refl _⟩,hRb,by simp [oput,Inst.cs],by simp [oput],by simp [oput,Node.zero,State.zero,Node.cs,ints,loosen],by simp [oput],by simp [oput,Node.zero,State.zero,Node.cs,ints,loosen],by simp [oput,nodesT],by omega,by omega⟩
 rintro ⟨k,all,b,a,σ,nx⟩ ⟨g1,⟨g2,g2'⟩,g3,h0,h1,h2,h3,h4,h5,h6,h7⟩
 refine K_run hB 60 ?_
 simp [go_sem]
 refine fork_dec (fun hk=>?_) (fun hk=>?_)
 ·have hkk:IntKind.i64.wrap ((k:Int)+1)=((k+1:Nat):Int):=by rw [w64 ((k:Int)+1) (by omega)];rfl
  have hget:∀h:k<X.length,X[k]'h=l[k].t:=fun h=>hgt k hk
  rw [List.drop_eq_getElem_cons hk,List.flatMap_cons] at g2
  rw [List.drop_eq_getElem_cons hk,List.foldl_cons] at g3
  have hfine:=hn l[k] (List.getElem_mem _)
  have hpath:=hn2 l[k] (List.getElem_mem _)
  generalize l[k]=n at *
  have hen:=end_pure x n.s (by omega) hfine.ok
  have hown:=own_pure n (by omega)
  have hbe:x.best1 b n=if (x.endS n.s).2=true∧(b.2=false∨sumI [n.cost,(x.endS n.s).1]<b.1.cost) then ({n with cost:=sumI [n.cost,(x.endS n.s).1]},true) else b:=rfl
  have m0:¬0=nx:=by omega
  have m1:¬1=nx:=by omega
  have m2:¬2=nx:=by omega
  have m3:¬3=nx:=by omega
  have m4:¬4=nx:=by omega
  have ma:¬a=nx:=by omega
  have ma4:¬a=4:=by omega
  have mn4:¬nx=4:=by omega
  simp [go_sem,hil,hk,hget,Node.t,h0,m0,Inst.cs]
  refine K_call rfl rfl rfl (args:=[x.a,n.s.a]) (f:=108) (by simp [go_sem,Inst.a,State.a,State.cs]) (by simp [go_sem,hB]) ((hen).spec _ _) ?_
  refine K_run hB 10 ?_
  simp [go_sem]
  refine K_cut (α:=Nat→AObj) (fun σ'=>σ' 0= .box x.cs∧σ' 1= .box [.i up]∧σ' 2= .box Node.zero.cs∧σ' 3= .box [.ref a]∧σ' 4= .box (x.best1 b n).1.cs∧σ' a= .arr 10 (nodesT all)∧σ' nx= .box n.cs)
   (fun σ'=>⟨sl [(3,.ptr 0 0),(5,.ptr 1 0),(7,.ptr 2 0),(9,.ptr 3 0),(10,.ptr 4 0),(11,.b (x.best1 b n).2),(13,.ptr nx 0),(18,.t (.sl X)),(19,.i l.length),(20,.i k)],σ',nx+1⟩) ?_ ?_
  ·have hsum:=sum_pure [n.cost,(x.endS n.s).1] (by simp)
   generalize x.best1 b n=b' at *
   generalize x.endS n.s=E at *
   obtain ⟨c,is⟩:=E
   cases is with
   |false=>
    rw [if_neg (by simp)] at hbe
    subst hbe
    refine K_run hB 100 ?_
    simp [go_sem]
    refine ⟨_,⟨?_,?_,?_,?_,?_,?_,?_⟩,Imp.slots (by simp [go_sem]) rfl rfl⟩
    all_goals simp [oput,m0,m1,m2,m3,m4,ma,h0,h1,h2,h3,h4,h5,Inst.cs,Node.cs]
   |true=>
    simp only [true_and] at hbe
    refine K_run hB 100 ?_
    simp [go_sem]
    refine K_call rfl rfl rfl (args:=[.fsl (ints [n.cost,c])]) (f:=87) (by simp [go_sem,ints]) (by simp [go_sem,hB]) ((Pure.loose hsum (by simp [bnd])).spec _ _) ?_
    generalize sumI [n.cost,c]=e at *
    by_cases c1:b.2=false∨e<b.1.cost
    ·rw [if_pos c1] at hbe
     subst hbe
     cases c2:b.2 with
     |false=>
      refine K_run hB 100 ?_
      simp [go_sem,c2]
      refine K_call rfl rfl rfl (args:=[n.a]) (f:=217) (by simp [go_sem,Node.a,Node.cs]) (by simp [go_sem,hB]) ((hown).spec _ _) ?_
      refine K_run hB 100 ?_
      simp [go_sem,Node.a,Node.cs,h4,m4,mn4]
      refine ⟨_,⟨?_,?_,?_,?_,?_,?_,?_⟩,Imp.slots (by simp [go_sem]) rfl rfl⟩
      all_goals simp [oput,m0,m1,m2,m3,m4,ma,ma4,mn4,h0,h1,h2,h3,h4,h5,Inst.cs,Node.cs]
     |true=>
      have c3:e<b.1.cost:=c1.resolve_left (by simp [c2])
      refine K_run hB 100 ?_
      simp [go_sem,c2,h4,m4,Node.cs,c3]
      refine K_call rfl rfl rfl (args:=[n.a]) (f:=217) (by simp [go_sem,Node.a,Node.cs]) (by simp [go_sem,hB]) ((hown).spec _ _) ?_
      refine K_run hB 100 ?_
      simp [go_sem,Node.a,Node.cs,h4,m4,mn4]
      refine ⟨_,⟨?_,?_,?_,?_,?_,?_,?_⟩,Imp.slots (by simp [go_sem]) rfl rfl⟩
      all_goals simp [oput,m0,m1,m2,m3,m4,ma,ma4,mn4,h0,h1,h2,h3,h4,h5,Inst.cs,Node.cs]
    ·rw [if_neg c1] at hbe
     subst hbe
     have c2:b'.2=true:=by
      cases h:b'.2 with
      |true=>rfl
      |false=>exact absurd (.inl h) c1
     have c3:¬e<b'.1.cost:=fun h=>c1 (.inr h)
     refine K_run hB 100 ?_
     simp [go_sem,c2,h4,m4,Node.cs,c3]
     refine ⟨_,⟨?_,?_,?_,?_,?_,?_,?_⟩,Imp.slots (by simp [go_sem,c2]) rfl rfl⟩
     all_goals simp [oput,m0,m1,m2,m3,m4,ma,h0,h1,h2,h3,h4,h5,Inst.cs,Node.cs]
  rintro σ' ⟨k0,k1,k2,k3,k4,k5,k6⟩
  have hch:=children_pure x n
  refine K_run hB 100 ?_
  simp [go_sem,k0,k6,Inst.cs,Node.cs]
  refine K_callQ rfl rfl rfl (args:=[x.a,n.a]) (f:=218) (by simp [go_sem,Inst.a,Node.a,Node.cs]) (by simp [go_sem,hB]) (hch _ _) ?_
  rintro r σ2 nx2 ⟨rfl,rfl,rfl⟩
  refine K_run hB 100 ?_
  simp [go_sem]
  generalize hb':x.best1 b n=b' at *
  have hsp:=children1_spec x n (by omega) hfine.ok (by omega)
  have hk33:=moves_33 x n.s
  refine K_less (Imp.slots (l:=[(3,.ptr 0 0),(5,.ptr 1 0),(7,.ptr 2 0),(9,.ptr 3 0),(10,.ptr 4 0),(11,.b b'.2),(18,.t (.sl X)),(19,.i l.length),(20,.i k),(51,.fn (.func 244) [] [.ptr (nx+1) 0,.ptr (nx+2) 0])]) (by simp [go_sem]) rfl rfl) ?_
  refine K_range hro (f:=244) (args:=[.yld (nx+3),.ptr (nx+1) 0,.ptr (nx+2) 0]) (by simp [go_sem]) fun L hL=>⟨fun _ σ3 nx3=>Loop14 x up n all b'.1 L (nx+4) (nx+1) (x.moves n.s).length σ3 nx3,?_,?_⟩
  ·refine hsp (nx+3) (nx+1) (nx+2) (Loop14 x up n all b'.1 L (nx+4) (nx+1)) _ (nx+4) ?_ ?_ ?_
   ·refine ⟨?_,?_,?_,?_,?_,?_,?_,by omega,⟨a,?_,?_,by omega,by omega,by omega,by omega,by omega⟩⟩
    all_goals simp [oput,k0,k1,k2,k3,k4,k5,show ¬nx=0 by omega,show ¬nx=1 by omega,show ¬nx=2 by omega,show ¬nx=3 by omega,show ¬0=nx+3 by omega,show ¬1=nx+3 by omega,show ¬2=nx+3 by omega,show ¬3=nx+3 by omega,show ¬4=nx+3 by omega,show ¬a=nx+3 by omega,
     show ¬0=nx+2 by omega,show ¬1=nx+2 by omega,show ¬2=nx+2 by omega,show ¬3=nx+2 by omega,show ¬4=nx+2 by omega,show ¬a=nx+2 by omega,show ¬0=nx+1 by omega,show ¬1=nx+1 by omega,show ¬2=nx+1 by omega,show ¬3=nx+1 by omega,show ¬4=nx+1 by omega,show ¬a=nx+1 by omega,Inst.cs,Node.cs]
   ·rintro k' σ3 nx3 hJ
    have:=hJ.le
    exact ⟨this.1,by omega,by omega,hJ.p1,hJ.p2⟩
   ·intro k' hk' σ3 nx3 σ4 nx4 r hJ hag hr1 hr2 hr3
    have hle:=hJ.le
    obtain ⟨a',r1,r2,r3,r4,r5,r6,r7⟩:=hJ.row
    have htk:=take_kids x up n hk'
    have hcok:(x.child n (x.moves n.s)[k']).s.ok:=move_ok x _ hfine.ok
    have hcp:(x.child n (x.moves n.s)[k']).path=n.path++[(x.moves n.s)[k']]:=rfl
    rw [←hcp] at hr3
    generalize x.child n (x.moves n.s)[k']=c at *
    have hof:=of_pure x c hl hcok
    have hlen:(nodesT (all++(((x.moves n.s).take k').map (x.child n)).filter fun c=>decide (x.of c<up))).length+1≤mostLen:=by
     rw [nodesT,List.length_map,List.length_append]
     have:=List.length_filter_le (fun c=>decide (x.of c<up)) (((x.moves n.s).take k').map (x.child n))
     rw [List.length_map,List.length_take] at this
     omega
    generalize (((x.moves n.s).take k').map (x.child n)).filter (fun c=>decide (x.of c<up))=F at *
    have s0:σ4 0= .box x.cs:=(hag 0 (by omega)).trans hJ.o0
    have s1:σ4 1= .box [.i up]:=(hag 1 (by omega)).trans hJ.o1
    have s2:σ4 2= .box Node.zero.cs:=(hag 2 (by omega)).trans hJ.o2
    have s3:σ4 3= .box [.ref a']:=(hag 3 (by omega)).trans r1
    have s4:σ4 4= .box b'.1.cs:=(hag 4 (by omega)).trans hJ.o4
    have s5:σ4 a'= .arr 10 (nodesT (all++F)):=(hag a' (by omega)).trans r2
    have s6:σ4 (nx+1)= .box x.cs:=(hag (nx+1) (by omega)).trans hJ.p1
    have s7:σ4 (nx+2)= .box n.cs:=(hag (nx+2) (by omega)).trans hJ.p2
    have s8:σ4 (nx+3)=L:=(hag (nx+3) (by omega)).trans hJ.q
    obtain ⟨σ5,hσ5⟩:∃σ5:Nat→AObj,σ5=fun j=>if j=r then AObj.dead else frzO r (ints c.path) (σ4 j):=⟨_,rfl⟩
    have f0:σ5 0= .box x.cs:=by simp [hσ5,show ¬0=r by omega,s0,frzO,frz1,frz1.frzL,Inst.cs]
    have f1:σ5 1= .box [.i up]:=by simp [hσ5,show ¬1=r by omega,s1,frzO,frz1,frz1.frzL]
    have f2:σ5 2= .box Node.zero.cs:=by simp [hσ5,show ¬2=r by omega,s2,frzO,frz1,frz1.frzL,Node.cs]
    have f3:σ5 3= .box [.ref a']:=by simp [hσ5,show ¬3=r by omega,s3,frzO,frz1,frz1.frzL,show ¬a'=r by omega]
    have f4:σ5 4= .box b'.1.cs:=by simp [hσ5,show ¬4=r by omega,s4,frzO,frz1,frz1.frzL,Node.cs]
    have f5:σ5 a'= .arr 10 (nodesT (all++F)):=by simp [hσ5,show ¬a'=r by omega,s5,frzO]
    have f6:σ5 (nx+1)= .box x.cs:=by simp [hσ5,show ¬nx+1=r by omega,s6,frzO,frz1,frz1.frzL,Inst.cs]
    have f7:σ5 (nx+2)= .box n.cs:=by simp [hσ5,show ¬nx+2=r by omega,s7,frzO,frz1,frz1.frzL,Node.cs]
    have f8:σ5 (nx+3)=L:=by simp [hσ5,show ¬nx+3=r by omega,s8,hL,frzO]
    have d0:¬0=nx4:=by omega
    have d1:¬1=nx4:=by omega
    have d2:¬2=nx4:=by omega
    have d3:¬3=nx4:=by omega
    have d4:¬4=nx4:=by omega
    have d5:¬a'=nx4:=by omega
    have d6:¬nx+1=nx4:=by omega
    have d7:¬nx+2=nx4:=by omega
    have d8:¬nx+3=nx4:=by omega
    have hB0:=hB
    by_cases hlt:x.of c<up
    ·refine ⟨oput (oput (oput (oput (oput σ5 nx4 (.box c.cs)) a' .dead) (nx4+1) (.arr 10 (nodesT (all++F)++[c.t]))) 3 (.box [.ref (nx4+1)])) (nx+3) L,nx4+2,?y,?j⟩
     case y=>
      refine yield_of (s8.trans hL) rfl (by rw [hB];rfl) fun B' hB' hnx' hσ'=>?_
      have hL':=hL
      rw [hB] at hL'
      have hB:=hB'.trans hB
      refine K_less ((Imp.freeze (q:=r) (sz:=1) (es:=ints c.path) hr3).trans (Imp.slots (l:=[(3,.ptr 0 0),(5,.ptr 1 0),(9,.ptr 3 0),(52,c.a)]) (by simp [go_sem,roundM,putL,frz1,frz1.frzL,hB0,Node.ra,Node.a,Node.cs]) hσ5 rfl)) ?_
      refine K_run hB 100 ?_
      simp [go_sem,f8,d8,hL,Node.a,Node.cs]
      refine K_run hB 100 ?_
      simp [go_sem]
      refine K_drawn [] rfl (by rw [hB];kernel_rfl) ?_
      refine K_run hB 100 ?_
      simp [go_sem,f0,d0,d8,show ¬nx4=nx+3 by omega,Inst.cs]
      refine K_dCallP rfl rfl rfl (args:=[x.a,c.a]) (f:=35) (by simp [go_sem,Inst.a,Node.a,Node.cs]) (hof) ?_
      refine K_run hB 100 ?_
      simp [go_sem,f1,f3,f5,d1,d3,d5,d8,hlt,hlen,Node.cs,show ¬nx4=nx+3 by omega,show ¬a'=nx+3 by omega,show ¬nx=0 by omega,show ¬nx+3=a' by omega,show ¬nx+3=nx4 by omega,show ¬nx+3=nx4+1 by omega,show ¬nx4=2 by omega,show ¬3=a' by omega,show ¬nx4=nx+2 by omega,f8]
      funext i
      have w1:¬nx=0:=by omega
      have w2:¬a'=nx+3:=by omega
      have w3:¬nx4=nx+3:=by omega
      have w4:¬nx4+1=nx+3:=by omega
      have w6:¬nx4=nx+2:=by omega
      have w7:¬a'=3:=by omega
      have w8:¬a'=nx4+1:=by omega
      by_cases e1:i=nx+3
      ·simp [oput,e1,hL,hB,hB0]
      by_cases e2:i=3
      ·simp [oput,e2,w1]
      by_cases e3:i=nx4+1
      ·simp [oput,e3,w4,w6,Node.t,nodesT]
      by_cases e4:i=a'
      ·simp [oput,e4,w2,w7,w8]
      by_cases e5:i=nx4
      ·simp [oput,e1,e2,e3,e4,e5,w3,Node.cs]
      simp [oput,e1,e2,e3,e4,e5]
     case j=>
      rw [if_pos hlt] at htk
      have v0:∀j,j≤4→j≠3→¬j=a'∧¬j=nx4+1:=by intros;omega
      have w0:¬nx4=0:=by omega
      have w1:¬nx4=1:=by omega
      have w2:¬nx=2:=by omega
      have w3:¬nx=1:=by omega
      have w4:¬nx=nx4:=by omega
      have w5:¬nx=0:=by omega
      have w6:¬nx4=nx+2:=by omega
      have w7:¬nx4=nx+3:=by omega
      have w8:¬nx4=2:=by omega
      have w9:¬nx4=3:=by omega
      have wa:=v0 0 (by omega) (by omega)
      have wb:=v0 1 (by omega) (by omega)
      have wc:=v0 2 (by omega) (by omega)
      have wd:=v0 4 (by omega) (by omega)
      have we:¬nx+1=a':=by omega
      have wf:¬nx+2=a':=by omega
      refine ⟨?_,?_,?_,?_,?_,?_,?_,by omega,⟨nx4+1,?_,?_,by omega,by omega,by omega,by omega,by omega⟩⟩
      ·simp [oput,d0,f0,w0,Inst.cs,wa.1,wa.2,w0,show ¬0=nx4+1 by omega]
      ·simp [oput,d1,f1,wb.1,wb.2,w1,w0]
      ·simp [oput,d2,f2,wc.1,wc.2,w8,Node.cs]
      ·simp [oput,f4,wd.1,wd.2,show ¬4=nx4 by omega,show ¬4=nx4+1 by omega,show ¬4=nx+3 by omega,Node.cs]
      ·simp [oput,d6,f6,we,w2,w4,show ¬nx+1=nx4 by omega,Inst.cs]
      ·simp [oput,d7,f7,wf,show ¬nx+1=nx4 by omega,show ¬nx+2=3 by omega,show ¬nx+2=nx4+1 by omega,Node.cs]
      ·simp [oput]
      ·simp [oput,w5]
      ·rw [htk]
       simp [oput,w6,w8,nodesT]
    ·refine ⟨oput (oput σ5 nx4 (.box c.cs)) (nx+3) L,nx4+1,?y,?j⟩
     case y=>
      refine yield_of (s8.trans hL) rfl (by rw [hB];rfl) fun B' hB' hnx' hσ'=>?_
      have hL':=hL
      rw [hB] at hL'
      have hB:=hB'.trans hB
      refine K_less ((Imp.freeze (q:=r) (sz:=1) (es:=ints c.path) hr3).trans (Imp.slots (l:=[(3,.ptr 0 0),(5,.ptr 1 0),(9,.ptr 3 0),(52,c.a)]) (by simp [go_sem,roundM,putL,frz1,frz1.frzL,hB0,Node.ra,Node.a,Node.cs]) hσ5 rfl)) ?_
      refine K_run hB 100 ?_
      simp [go_sem,f8,d8,hL,Node.a,Node.cs]
      refine K_run hB 100 ?_
      simp [go_sem]
      refine K_drawn [] rfl (by rw [hB];kernel_rfl) ?_
      refine K_run hB 100 ?_
      simp [go_sem,f0,d0,d8,show ¬nx4=nx+3 by omega,Inst.cs]
      refine K_dCallP rfl rfl rfl (args:=[x.a,c.a]) (f:=35) (by simp [go_sem,Inst.a,Node.a,Node.cs]) (hof) ?_
      refine K_run hB 100 ?_
      simp [go_sem,f1,f3,f5,d1,d3,d5,d8,hlt,hlen,Node.cs,show ¬nx4=nx+3 by omega,show ¬a'=nx+3 by omega,show ¬nx=0 by omega,show ¬nx+3=a' by omega,show ¬nx+3=nx4 by omega,show ¬nx+3=nx4+1 by omega,show ¬nx4=2 by omega,show ¬3=a' by omega,show ¬nx4=nx+2 by omega,f8]
      funext i
      have w3:¬nx4=nx+3:=by omega
      by_cases e1:i=nx+3
      ·simp [oput,e1,hL,hB,hB0]
      by_cases e5:i=nx4
      ·simp [oput,e5,w3,Node.cs]
      simp [oput,e1,e5]
     case j=>
      rw [if_neg hlt,List.append_nil] at htk
      have v0:∀j,j≤4→¬j=nx4∧¬j=nx+3:=by intros;omega
      have w0:=v0 0 (by omega)
      have w1:=v0 1 (by omega)
      have w2:=v0 2 (by omega)
      have w3:=v0 3 (by omega)
      have w4:=v0 4 (by omega)
      have we:¬nx+1=nx4:=by omega
      have wf:¬nx+2=nx4:=by omega
      have wg:¬nx=0:=by omega
      have wh:¬a'=nx4:=by omega
      have wi:¬a'=nx+3:=by omega
      refine ⟨?_,?_,?_,?_,?_,?_,?_,by omega,⟨a',?_,?_,by omega,by omega,by omega,by omega,by omega⟩⟩
      ·simp [oput,f0,w0,Inst.cs]
      ·simp [oput,f1,w1,w1.2]
      ·simp [oput,f2,w2,Node.cs]
      ·simp [oput,f4,w4,Node.cs]
      ·simp [oput,f6,we,Inst.cs]
      ·simp [oput,f7,wf,Node.cs]
      ·simp [oput]
      ·simp [oput,f3,w3,wg]
      ·rw [htk]
       simp [oput,f5,wh,wi]
  ·rintro r σ3 nx3 hJ
   refine ⟨hJ.q,?_⟩
   have hle:=hJ.le
   obtain ⟨a',r1,r2,r3,r4,r5,r6,r7⟩:=hJ.row
   rw [List.take_length] at r2
   have hkl:(((x.moves n.s).map (x.child n)).filter fun c=>decide (x.of c<up))=x.kids up n:=rfl
   rw [hkl] at r2
   have hkl2:=kids_33 x up n
   refine K_run hB 100 ?_
   simp [go_sem,hkk]
   refine Next.mk (k+1,all++x.kids up n,b',a',oput σ3 (nx+3) .dead,nx3) ?_ (Imp.slots (by simp [go_sem]) rfl rfl) (by simp only;omega)
   have v0:∀j,j≤4→¬j=nx+3:=by intros;omega
   have w0:=v0 0 (by omega)
   have w1:=v0 1 (by omega)
   have w2:=v0 2 (by omega)
   have w3:¬nx=0:=by omega
   have w4:=v0 4 (by omega)
   have w5:¬a'=nx+3:=by omega
   refine ⟨by simp only;omega,⟨by rw [List.append_assoc];exact g2,by simp only [List.length_append];omega⟩,g3,?_,?_,?_,?_,?_,?_,by simp only;omega,by simp only;omega⟩
   ·simp [oput,w0,hJ.o0]
   ·simp [oput,w1,hJ.o1]
   ·simp [oput,w2,hJ.o2,Node.cs]
   ·simp [oput,w3,r1]
   ·simp [oput,w4,hJ.o4,Node.cs]
   ·simp [oput,w5,r2]
 ·have:k=l.length:=by omega
  subst this
  rw [List.drop_length,List.flatMap_nil,List.append_nil] at g2
  rw [List.drop_length,List.foldl_nil] at g3
  subst g3
  rw [←g2] at hR
  have hfa:∀n∈all,n.Fine:=by
   intro c hc
   rw [g2] at hc
   obtain ⟨n,hn3,hc⟩:=List.mem_flatMap.1 hc
   obtain ⟨hc,-⟩:=List.mem_filter.1 hc
   obtain ⟨j,hj,rfl⟩:=List.mem_map.1 hc
   refine ⟨move_ok x _ (hn n hn3).ok,?_⟩
   have:=hn2 n hn3
   show (n.path++[j]).length<2^31
   rw [List.length_append]
   simp only [List.length_cons,List.length_nil]
   omega
  have hon:=once_pure all (by omega) hfa
  rw [hR] at hon
  refine K_run hB 60 ?_
  simp [go_sem]
  obtain ⟨σ5,hσ5⟩:∃σ5:Nat→AObj,σ5=fun j=>if j=a then AObj.dead else frzO a (nodesT all) (σ j):=⟨_,rfl⟩
  have f0:σ5 0= .box x.cs:=by simp [hσ5,show ¬0=a by omega,h0,frzO,frz1,frz1.frzL,Inst.cs]
  have f2:σ5 2= .box Node.zero.cs:=by simp [hσ5,show ¬2=a by omega,h2,frzO,frz1,frz1.frzL,Node.cs]
  have f3:σ5 3= .box [.t (.sl (nodesT all))]:=by simp [hσ5,show ¬3=a by omega,h3,frzO,frz1,frz1.frzL]
  have f4:σ5 4= .box b.1.cs:=by simp [hσ5,show ¬4=a by omega,h4,frzO,frz1,frz1.frzL,Node.cs]
  refine K_less ((Imp.freeze (q:=a) (sz:=10) (es:=nodesT all) h5).trans (Imp.slots (l:=[(7,.ptr 2 0),(9,.ptr 3 0),(10,.ptr 4 0),(11,.b b.2)]) (by simp [go_sem,frz1,frz1.frzL]) hσ5 rfl)) ?_
  refine K_drawnF [5] [3] rfl (by rw [hB];kernel_rfl) (by kernel_rfl) fun ht hf'=>?_
  refine K_run hB 100 ?_
  simp [go_sem,ht,hf',f3]
  refine K_dCallP rfl rfl rfl (args:=[.t (.sl (nodesT all))]) (f:=219) (by simp [go_sem]) (hon) ?_
  refine K_run hB 100 ?_
  simp [go_sem,ht,hf',f4,f2,Node.cs]
  rfl
end Go.Proofs.YtackfabapangdaaGreat

set_option maxRecDepth 4000
namespace Go.Proofs.YtackfabapangdaaGreat
open Go Go.Proofs.YtackfabapangdaaGreat.R
theorem rexpand_pure (x:Inst) (l:List Node) (up:Int) (hl:x.stops.length<2^31) (hll:l.length<2^20) (hn:∀n∈l,n.Fine) (hn2:∀n∈l,n.path.length<2^30):Pure P 185 [x.a,.t (.sl (nodesT l)),.i up] (expRes (x.next l up) (x.bests l)):=by
 generalize hR:x.next l up=R
 generalize hRb:x.bests l=Rb
 refine pure_of Tryz.func185 rfl rfl (by simp [Tryz.f185]) (by simp [bnd,bnd.bndL,Inst.a]) (by simp [bnd,bnd.bndL,expRes,Node.a,Node.cs]) fun B hB hnx=>?_
 simp only [Tryz.f185] at hB ⊢
 have hil:(nodesT l).length=l.length:=List.length_map _
 have hgt:∀(k:Nat) (h:k<l.length),(nodesT l)[k]'(by rw [hil];exact h)=l[k].t:=fun k h=>nodesT_get l h
 generalize hX:nodesT l=X at *
 have hmost:mostLen=4294967296:=rfl
 rw [Inst.next] at hR
 rw [Inst.bests] at hRb
 refine K_run hB 100 ?_
 simp [go_sem,Inst.a,hil]
 refine K_own 9 10 (by simp [go_sem]) ?_
 refine K_less ((Imp.looseB (b:=1) (cs:=[.i 0,.i 0,.i 0,.i 0,.i 0,.u 0,.u 0,.u 0,.i 0,.fsl []]) (by simp [oput])).trans (Imp.looseB (b:=2) (cs:=[.i 0,.i 0,.i 0,.i 0,.i 0,.u 0,.u 0,.u 0,.i 0,.fsl []]) (by simp [oput]))) ?_
 refine K_loopP (α:=Nat×List Node×(Node×Bool)×Nat×(Nat→AObj)×Nat) (fun (k,all,b,a,σ,nx)=>k≤l.length∧(all++(l.drop k).flatMap (x.kids up)=l.flatMap (x.kids up)∧all.length≤33*k)∧(l.drop k).foldl x.best1 b=Rb∧σ 0= .box x.cs∧σ 1= .box Node.zero.cs∧σ 2= .box b.1.cs∧σ a= .arr 10 (nodesT all)∧2<a∧a<nx)
  (fun (k,all,b,a,σ,nx)=>⟨sl [(1,.t (.sl X)),(2,.i up),(3,.ptr 0 0),(7,.ptr 1 0),(9,.ref a),(10,.ptr 2 0),(11,.b b.2),(12,.i k)],σ,nx⟩) (fun a=>l.length-a.1) (0,[],(Node.zero,false),3,_,4) ?_ (Imp.slots (by simp [go_sem]) rfl rfl) ?_
 ·exact ⟨Nat.zero_le _,⟨rfl,Nat.le_refl _⟩,hRb,by simp [oput,Inst.cs],by simp [oput,Node.zero,State.zero,Node.cs,ints,loosen],by simp [oput,Node.zero,State.zero,Node.cs,ints,loosen],by simp [oput,nodesT],by omega,by omega⟩
 rintro ⟨k,all,b,a,σ,nx⟩ ⟨g1,⟨g2,g2'⟩,g3,h0,h1,h2,h3,h4,h5⟩
 refine K_run hB 60 ?_
 simp [go_sem,hil]
 refine fork_dec (fun hk=>?_) (fun hk=>?_)
 ·have hkk:IntKind.i64.wrap ((k:Int)+1)=((k+1:Nat):Int):=by rw [w64 ((k:Int)+1) (by omega)];rfl
  have hget:∀h:k<X.length,X[k]'h=l[k].t:=fun h=>hgt k hk
  rw [List.drop_eq_getElem_cons hk,List.flatMap_cons] at g2
  rw [List.drop_eq_getElem_cons hk,List.foldl_cons] at g3
  have hfine:=hn l[k] (List.getElem_mem _)
  have hpath:=hn2 l[k] (List.getElem_mem _)
  generalize l[k]=n at *
  have hen:=rend_pure x n.s (by omega) hfine.ok
  have hbe:x.best1 b n=if (x.endS n.s).2=true∧(b.2=false∨sumI [n.cost,(x.endS n.s).1]<b.1.cost) then ({n with cost:=sumI [n.cost,(x.endS n.s).1]},true) else b:=rfl
  have hsum:=rsum_pure [n.cost,(x.endS n.s).1] (by simp)
  have hE:∃c is,x.endS n.s=(c,is):=⟨_,_,rfl⟩
  obtain ⟨c,is,hE⟩:=hE
  rw [hE] at hen hbe hsum
  simp only at hen hbe hsum
  have m0:¬0=nx:=by omega
  have m1:¬1=nx:=by omega
  have m2:¬2=nx:=by omega
  have ma:¬a=nx:=by omega
  have ma2:¬a=2:=by omega
  have mn2:¬nx=2:=by omega
  simp [go_sem,hil,hk,hget,Node.t,h0,m0,Inst.cs]
  refine K_call rfl rfl rfl (args:=[x.a,n.s.a]) (f:=159) (by simp [go_sem,Inst.a,State.a,State.cs]) (by simp [go_sem,hB]) ((hen).spec _ _) ?_
  refine K_run hB 100 ?_
  simp [go_sem]
  refine K_call rfl rfl rfl (args:=[.fsl (ints [n.cost,c])]) (f:=160) (by simp [go_sem,ints]) (by simp [go_sem,hB]) ((Pure.loose hsum (by simp [bnd])).spec _ _) ?_
  refine K_run hB 3 ?_
  simp [go_sem]
  refine K_cut (α:=Nat→AObj) (fun σ'=>σ' 0= .box x.cs∧σ' 1= .box Node.zero.cs∧σ' 2= .box (x.best1 b n).1.cs∧σ' a= .arr 10 (nodesT all)∧σ' nx= .box n.cs)
   (fun σ'=>⟨sl [(1,.t (.sl X)),(2,.i up),(3,.ptr 0 0),(7,.ptr 1 0),(9,.ref a),(10,.ptr 2 0),(11,.b (x.best1 b n).2),(12,.i k),(13,.ptr nx 0)],σ',nx+1⟩) ?_ ?_
  ·generalize x.best1 b n=b' at *
   cases is with
   |false=>
    rw [if_neg (by simp)] at hbe
    subst hbe
    refine K_run hB 100 ?_
    simp [go_sem]
    refine ⟨_,⟨?_,?_,?_,?_,?_⟩,Imp.slots (by simp [go_sem]) rfl rfl⟩
    all_goals simp [oput,m0,m1,m2,ma,h0,h1,h2,h3,Inst.cs,Node.cs]
   |true=>
    simp only [true_and] at hbe
    generalize sumI [n.cost,c]=e at *
    by_cases c1:b.2=false∨e<b.1.cost
    ·rw [if_pos c1] at hbe
     subst hbe
     cases c2:b.2 with
     |false=>
      refine K_run hB 100 ?_
      simp [go_sem,c2,Node.cs,h2,m2]
      refine ⟨_,⟨?_,?_,?_,?_,?_⟩,Imp.slots (by simp [go_sem]) rfl rfl⟩
      all_goals simp [oput,m0,m1,m2,ma,ma2,mn2,h0,h1,h2,h3,Inst.cs,Node.cs]
     |true=>
      have c3:e<b.1.cost:=c1.resolve_left (by simp [c2])
      refine K_run hB 100 ?_
      simp [go_sem,c2,h2,m2,Node.cs,c3]
      refine ⟨_,⟨?_,?_,?_,?_,?_⟩,Imp.slots (by simp [go_sem]) rfl rfl⟩
      all_goals simp [oput,m0,m1,m2,ma,ma2,mn2,h0,h1,h2,h3,Inst.cs,Node.cs]
    ·rw [if_neg c1] at hbe
     subst hbe
     have c2:b'.2=true:=by
      cases h:b'.2 with
      |true=>rfl
      |false=>exact absurd (.inl h) c1
     have c3:¬e<b'.1.cost:=fun h=>c1 (.inr h)
     refine K_run hB 100 ?_
     simp [go_sem,c2,h2,m2,Node.cs,c3]
     refine ⟨_,⟨?_,?_,?_,?_,?_⟩,Imp.slots (by simp [go_sem,c2]) rfl rfl⟩
     all_goals simp [oput,m0,m1,m2,ma,h0,h1,h2,h3,Inst.cs,Node.cs]
  rintro σ' ⟨k0,k1,k2,k3,k4⟩
  generalize hb':x.best1 b n=b' at *
  have hms:=rmoves_pure x n.s (by omega) hfine.ok
  have hk33:=moves_33 x n.s
  have hkl:(((x.moves n.s).map (x.child n)).filter fun c=>decide (x.of c<up))=x.kids up n:=rfl
  have hcok:∀j,(x.child n j).s.ok:=fun j=>move_ok x j hfine.ok
  have hpl:(ints n.path).length=n.path.length:=List.length_map _
  have hcap0:n.path.length≤mostLen:=by omega
  have hcap1:n.path.length+1≤mostLen:=by omega
  have hone:∀y:List T,y∈ints n.path→y.length=1:=by simp [ints]
  have hmv:=fun j=>rmove_pure x n.s j (by omega) hfine.ok
  have hml:(ints (x.moves n.s)).length=(x.moves n.s).length:=List.length_map _
  have hmg:∀(i:Nat) (h:i<(x.moves n.s).length),(ints (x.moves n.s))[i]'(by rw [hml];exact h)=[.i ((x.moves n.s)[i])]:=fun i h=>ints_getS _ h
  have hk332:=kids_33 x up n
  refine K_run hB 100 ?_
  simp [go_sem,k0,k4,Inst.cs,Node.cs]
  refine K_call rfl rfl rfl (args:=[x.a,n.s.a]) (f:=203) (by simp [go_sem,Inst.a,State.a,State.cs]) (by simp [go_sem,hB]) ((hms).spec _ _) ?_
  generalize hY:ints (x.moves n.s)=Y at *
  generalize x.moves n.s=M at *
  refine K_run hB 100 ?_
  simp [go_sem]
  refine K_loopP (α:=Nat×List Node×Nat×(Nat→AObj)×Nat) (fun (i,acc,a,σ,ny)=>i≤M.length∧(acc++((M.drop i).map (x.child n)).filter (fun c=>decide (x.of c<up))=all++x.kids up n∧acc.length≤all.length+i)∧σ 0= .box x.cs∧σ 1= .box Node.zero.cs∧σ 2= .box b'.1.cs∧σ nx= .box n.cs∧σ a= .arr 10 (nodesT acc)∧2<a∧a<ny∧nx<ny∧a≠nx)
   (fun (i,acc,a,σ,ny)=>⟨sl [(1,.t (.sl X)),(2,.i up),(3,.ptr 0 0),(7,.ptr 1 0),(9,.ref a),(10,.ptr 2 0),(11,.b b'.2),(12,.i k),(13,.ptr nx 0),(17,.t (.sl Y)),(18,.i i)],σ,ny⟩) (fun a=>M.length-a.1) (0,all,a,_,nx+1) ?_ (Imp.slots (by simp [go_sem]) rfl rfl) ?_
  ·exact ⟨Nat.zero_le _,⟨by rw [List.drop_zero,hkl],by omega⟩,k0,k1,k2,k4,k3,by omega,by omega,by omega,by omega⟩
  rintro ⟨i,acc,a,σ,ny⟩ ⟨f1,⟨f2,f2'⟩,f3,f4,f5,f6,f7,f8,f9,fa,fb⟩
  refine K_run hB 60 ?_
  simp [go_sem,hml]
  refine fork_dec (fun hi=>?_) (fun hi=>?_)
  ·have hii:IntKind.i64.wrap ((i:Int)+1)=((i+1:Nat):Int):=by rw [w64 ((i:Int)+1) (by omega)];rfl
   have hgeti:∀h:i<Y.length,Y[i]'h=[.i M[i]]:=fun h=>hmg i hi
   rw [List.drop_eq_getElem_cons hi,List.map_cons,List.filter_cons] at f2
   generalize M[i]=j at *
   have hmj:=hmv j
   have hcj:=hcok j
   have hch:x.child n j=⟨(x.move n.s j).1,sumI [n.cost,(x.move n.s j).2.1],n.path++[j]⟩:=rfl
   generalize x.child n j=c at *
   have hof:=rof_pure x c hl hcj
   generalize x.move n.s j=V at *
   obtain ⟨t,d,is⟩:=V
   simp only at hch
   have hsum:=rsum_pure [n.cost,d] (by simp)
   simp [go_sem]
   refine K_drawnF [12,13] [0,1,2,3,4,5,6,7,8,9,10,11] rfl (by rw [hB];kernel_rfl) (by kernel_rfl) fun ht hf'=>?_
   refine K_run hB 100 ?_
   simp [go_sem,ht,hf',hml,hi,hgeti,f3,f6,Inst.cs,Node.cs]
   refine K_dCallP rfl rfl rfl (args:=[x.a,n.s.a,.i j]) (f:=204) (by simp [go_sem,Inst.a,State.a,State.cs]) (hmj) ?_
   refine K_run hB 100 ?_
   simp [go_sem,ht,hf',mv,State.a,State.cs,f3,f6,show ¬nx=ny by omega,show ¬0=ny by omega,Node.cs,Inst.cs,hpl,hml,hi,hgeti,hcap0,hcap1,if_pos hone,show ¬ny+2=ny+1 by omega]
   have hcp:c.path=n.path++[j]:=by rw [hch]
   have hci:ints c.path=ints n.path++[[.i j]]:=by rw [hcp];simp [ints]
   obtain ⟨σ4,hσ4⟩:∃σ4:Nat→AObj,σ4=oput (oput (oput (oput (oput σ ny (.box [.i 0,.i 0,.i 0,.i 0,.i 0,.u 0,.u 0,.u 0])) ny (.box [.i t.spot,.i t.car,.i t.time,.i t.load,.i t.first,.u t.must,.u t.can,.u t.on])) (ny+1) (.arr 1 (ints n.path))) (ny+1) .dead) (ny+2) (.arr 1 (ints c.path)):=⟨_,rfl⟩
   obtain ⟨σ5,hσ5⟩:∃σ5:Nat→AObj,σ5=fun j=>if j=ny+2 then AObj.dead else frzO (ny+2) (ints c.path) (σ4 j):=⟨_,rfl⟩
   have e0:σ5 0= .box x.cs:=by simp [hσ5,hσ4,oput,show ¬0=ny by omega,f3,frzO,frz1,frz1.frzL,Inst.cs]
   have e1:σ5 1= .box Node.zero.cs:=by simp [hσ5,hσ4,oput,show ¬1=ny by omega,show ¬1=ny+1 by omega,show ¬ny=0 by omega,show ¬1=ny+2 by omega,f4,frzO,frz1,frz1.frzL,Node.cs]
   have e2:σ5 2= .box b'.1.cs:=by simp [hσ5,hσ4,oput,show ¬2=ny by omega,show ¬2=ny+1 by omega,show ¬ny=0 by omega,show ¬ny=1 by omega,f5,frzO,frz1,frz1.frzL,Node.cs]
   have e3:σ5 nx= .box n.cs:=by simp [hσ5,hσ4,oput,show ¬nx=ny by omega,show ¬nx=ny+1 by omega,show ¬nx=ny+2 by omega,f6,frzO,frz1,frz1.frzL,Node.cs]
   have e4:σ5 a= .arr 10 (nodesT acc):=by simp [hσ5,hσ4,oput,show ¬a=ny by omega,show ¬a=ny+1 by omega,show ¬a=ny+2 by omega,f7,frzO]
   have e5:σ5 ny= .box t.cs:=by simp [hσ5,hσ4,oput,frzO,frz1,frz1.frzL,State.cs]
   refine K_less ((Imp.freeze (q:=ny+2) (sz:=1) (es:=ints c.path) (by simp [oput,hci])).trans (Imp.slots (l:=[(1,.t (.sl X)),(2,.i up),(3,.ptr 0 0),(7,.ptr 1 0),(9,.ref a),(10,.ptr 2 0),(11,.b b'.2),(12,.i k),(13,.ptr nx 0),(17,.t (.sl Y)),(18,.i i),(19,.ptr ny 0),(20,.i d),(22,.t (.sl (ints c.path)))]) (by simp [go_sem,frz1,frz1.frzL,show ¬a=ny+2 by omega]) (hσ5.trans (by rw [hσ4,hci])) rfl)) ?_
   refine K_drawnF [8,9] [0,1,2,3,4,5,6,7] rfl (by rw [hB];kernel_rfl) (by kernel_rfl) fun ht hf'=>?_
   refine K_run hB 100 ?_
   simp [go_sem,ht,hf',e3,e5,Node.cs,State.cs]
   refine K_dCallP rfl rfl rfl (args:=[.fsl (ints [n.cost,d])]) (f:=160) (by simp [go_sem,ints]) (Pure.loose hsum (by simp [bnd])) ?_
   have hcs:c.s=t:=by rw [hch]
   have hcc:c.cost=sumI [n.cost,d]:=by rw [hch]
   have hlen:(nodesT acc).length+1≤mostLen:=by rw [nodesT,List.length_map];omega
   refine K_run hB 100 ?_
   simp [go_sem,ht,hf',e0,e3,e5,Inst.cs,Node.cs,State.cs,show ¬0=ny+1+1+1 by omega,show ¬nx=ny+1+1+1 by omega,show ¬ny=ny+1+1+1 by omega]
   refine K_call rfl rfl rfl (args:=[x.a,c.a]) (f:=136) (by simp [go_sem,Inst.a,Node.a,Node.cs,hcs,hcc]) (by simp [go_sem,hB]) ((hof).spec _ _) ?_
   have v0:∀j,j≤2→¬j=ny+3∧¬j=a∧¬j=ny+4:=by intros;omega
   have w0:=v0 0 (by omega)
   have w1:=v0 1 (by omega)
   have w2:=v0 2 (by omega)
   have w3:¬nx=ny+3:=by omega
   have w4:¬a=ny+3:=by omega
   have w5:¬nx=a:=fun e=>fb e.symm
   have w6:¬nx=ny+4:=by omega
   by_cases hlt:x.of c<up
   ·rw [if_pos (by simpa using hlt),List.map_drop] at f2
    refine K_run hB 100 ?_
    simp [go_sem,hlt,e4,hlen,w4]
    refine Next.mk (i+1,acc++[c],ny+4,_,ny+5) ?_ (Imp.slots (by simp [go_sem,hii]) rfl rfl) (by simp only;omega)
    refine ⟨by simp only;omega,⟨by rw [List.append_assoc];exact f2,by simp only [List.length_append,List.length_cons,List.length_nil];omega⟩,?_,?_,?_,?_,?_,by simp only;omega,by simp only;omega,by simp only;omega,by simp only;omega⟩
    ·simp [oput,e0,w0,Inst.cs]
    ·simp [oput,e1,w1,Node.cs]
    ·simp [oput,e2,w2,Node.cs]
    ·simp [oput,e3,w3,w5,w6,Node.cs]
    ·simp [oput,nodesT,Node.t,hcs,hcc]
   ·rw [if_neg (by simpa using hlt),List.map_drop] at f2
    refine K_run hB 100 ?_
    simp [go_sem,hlt]
    refine Next.mk (i+1,acc,a,_,ny+4) ?_ (Imp.slots (by simp [go_sem,hii]) rfl rfl) (by simp only;omega)
    refine ⟨by simp only;omega,⟨f2,by simp only;omega⟩,?_,?_,?_,?_,?_,by simp only;omega,by simp only;omega,by simp only;omega,by simp only;omega⟩
    ·simp [oput,e0,w0,Inst.cs]
    ·simp [oput,e1,w1,Node.cs]
    ·simp [oput,e2,w2,Node.cs]
    ·simp [oput,e3,w3,Node.cs]
    ·simp [oput,e4,w4]
  ·have:i=M.length:=by omega
   subst this
   rw [List.drop_length,List.map_nil,List.filter_nil,List.append_nil] at f2
   simp [go_sem,hkk]
   refine Next.mk (k+1,acc,b',a,σ,ny) ?_ (Imp.slots (by simp [go_sem]) rfl rfl) (by simp only;omega)
   refine ⟨by simp only;omega,⟨by rw [f2,List.append_assoc];exact g2,by rw [f2];simp only [List.length_append];omega⟩,g3,f3,f4,f5,f7,by simp only;omega,by simp only;omega⟩
 ·have:k=l.length:=by omega
  subst this
  rw [List.drop_length,List.flatMap_nil,List.append_nil] at g2
  rw [List.drop_length,List.foldl_nil] at g3
  subst g3
  rw [←g2] at hR
  have hon:=ronce_pure all (by omega)
  rw [hR] at hon
  refine K_run hB 60 ?_
  simp [go_sem]
  obtain ⟨σ5,hσ5⟩:∃σ5:Nat→AObj,σ5=fun j=>if j=a then AObj.dead else frzO a (nodesT all) (σ j):=⟨_,rfl⟩
  have f1:σ5 1= .box Node.zero.cs:=by simp [hσ5,show ¬1=a by omega,h1,frzO,frz1,frz1.frzL,Node.cs]
  have f2:σ5 2= .box b.1.cs:=by simp [hσ5,show ¬2=a by omega,h2,frzO,frz1,frz1.frzL,Node.cs]
  refine K_less ((Imp.freeze (q:=a) (sz:=10) (es:=nodesT all) h3).trans (Imp.slots (l:=[(7,.ptr 1 0),(9,.t (.sl (nodesT all))),(10,.ptr 2 0),(11,.b b.2)]) (by simp [go_sem,frz1,frz1.frzL]) hσ5 rfl)) ?_
  refine K_drawnF [5] [3] rfl (by rw [hB];kernel_rfl) (by kernel_rfl) fun ht hf'=>?_
  refine K_run hB 100 ?_
  simp [go_sem,ht,hf']
  refine K_dCallP rfl rfl rfl (args:=[.t (.sl (nodesT all))]) (f:=229) (by simp [go_sem]) (hon) ?_
  refine K_run hB 100 ?_
  simp [go_sem,ht,hf',f1,f2,Node.cs]
  rfl
end Go.Proofs.YtackfabapangdaaGreat
