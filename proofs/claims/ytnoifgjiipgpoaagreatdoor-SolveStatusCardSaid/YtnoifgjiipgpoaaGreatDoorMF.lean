/- Parts of the proof: Bound2, StateR, StateR2, StateR3, Bound3, Bound4, Late, Ends, Seen, LowP, Law12, Law12b, Once, PSort, Prnt2, LineP, Sched, Sched2, Sched3, PlanC, Split, Once2, OnceR, Expand, Expand2, Law14, OnceP, FrontP, KeepsP, ExactP, ExactQ. -/
import Derived.Test.YtnoifgjiipgpoaaGreatDoorME
set_option linter.all false
set_option maxHeartbeats 4000000
set_option maxRecDepth 4000
namespace Go.Proofs.YtnoifgjiipgpoaaGreatDoor
open Go Go.Proofs.YtnoifgjiipgpoaaGreatDoor.R
def atLeast (near:List Int) (may:Nat):Int:=match near with
 |a :: b :: l=>leftSum may 0 (a :: b :: l) a
 |_=>0
def Inst.low (x:Inst) (s:State):Int:=atLeast x.near s.can
theorem near_len (x:Inst):x.near.length≤x.stops.length:=by
 unfold Inst.near
 split
 ·rw [nears_len];exact Nat.le_refl _
 ·exact Nat.zero_le _
theorem at_pure (x:Inst) (s:State) (hl:x.stops.length<2^31) (ho:s.ok):Pure P 135 [x.a,s.a] (.i (x.low s)):=by
 generalize hR:x.low s=R
 refine pure_ofR Tryz.func135 rfl rfl (by simp [Tryz.f135]) (by simp [bnd,bnd.bndL,Inst.a,State.a,State.cs]) (by simp [bnd,bnd.bndL]) fun B hB hnx hro=>?_
 simp only [Tryz.f135] at hB ⊢
 rw [Inst.low] at hR
 have hnl:=near_len x
 have hne:=near_pure x hl
 generalize x.near=near at *
 refine K_run hB 100 ?_
 simp [go_sem,Inst.a,State.a,State.cs]
 refine K_call rfl rfl rfl (args:=[x.a]) (f:=181) (by simp [go_sem,Inst.a]) (by simp [go_sem,hB]) ((hne).spec _ _) ?_
 match near,hR,hnl with
 |[],hR,_=>
  simp only [atLeast] at hR
  subst hR
  refine K_run hB 100 ?_
  simp [go_sem,ints]
 |[_],hR,_=>
  simp only [atLeast] at hR
  subst hR
  refine K_run hB 100 ?_
  simp [go_sem,ints]
 |d0 :: d1 :: l,hR,hnl=>
  simp only [atLeast] at hR
  have hil:(ints (d0 :: d1 :: l)).length=l.length+2:=by simp [ints]
  have hgt:¬(l.length:Int)+2<2:=by omega
  have hgt':¬((l.length+2:Nat):Int)<2:=by omega
  have hget:∀h:0<(ints (d0 :: d1 :: l)).length,(ints (d0 :: d1 :: l))[0]'h=[.i d0]:=fun h=>by simp [ints]
  have hll:l.length+2<2^63:=by simp only [List.length_cons] at hnl;omega
  have hle:=left_pure (d0 :: d1 :: l) s.can
  have hl1:=left1_spec (d0 :: d1 :: l) s.can ho.can (by simpa using hll) 5 3 4 6
  have hpos:(0:Int)<l.length+2:=by omega
  generalize hX:ints (d0 :: d1 :: l)=X at *
  generalize hN:leftSum s.can 0 (d0 :: d1 :: l)=N at *
  refine K_run hB 100 ?_
  simp [go_sem,hil,hgt,hgt',hget,hpos]
  refine K_callQ rfl rfl rfl (args:=[.t (.sl X),.u s.can]) (f:=182) (by simp [go_sem]) (by simp [go_sem,hB]) (hle _ _) ?_
  rintro r σ' nx' ⟨rfl,rfl,rfl⟩
  refine K_run hB 100 ?_
  simp [go_sem]
  refine K_less (Sub.of (l:=[(6,.ptr 2 0),(20,.fn (.func 222) [] [.ptr 3 0,.ptr 4 0])]) (o:=[(2,.box [.i d0]),(3,.box [.t (.sl X)]),(4,.box [.u s.can])]) (n:=5) (by omega) (by simp) (by simp [go_sem]) (by simp [go_sem])) ?_
  refine K_range hro (f:=222) (args:=[.yld 5,.ptr 3 0,.ptr 4 0]) (by simp [go_sem]) fun L hL=>?_
  obtain ⟨st,hst⟩:∃st:Int→Nat→AObj,st=fun n=>oput (oput (ob [(3,.box [.t (.sl X)]),(4,.box [.u s.can])]) 5 L) 2 (.box [.i n]):=⟨_,rfl⟩
  have e':oput (ob [(2,.box [.i d0]),(3,.box [.t (.sl X)]),(4,.box [.u s.can])]) 5 L=st d0:=funext fun i=>by
   by_cases e2:i=2
   ·subst e2;simp [hst,oput,ob]
   ·simp [hst,oput,ob,e2]
  have s2:∀n,st n 2= .box [.i n]:=fun n=>by simp [hst,oput]
  have s5:∀n,st n 5=L:=fun n=>by simp [hst,oput]
  have su:∀n m L',oput (oput (oput (st n) 5 L') 2 (.box [.i m])) 5 L=st m:=fun n m L'=>funext fun i=>by
   by_cases e2:i=2
   ·subst e2;simp [hst,oput]
   ·by_cases e5:i=5
    ·subst e5;simp [hst,oput]
    ·simp [hst,oput,e2,e5]
  have hsp:=hl1 st (fun n=>by simp [hst,oput,ob]) (fun n=>by simp [hst,oput,ob]) (fun j d n=>by
   refine yield_of ((s5 n).trans hL) rfl (by rw [hB];rfl) fun B' hB' hnx' _=>?_
   replace hB':=hB'.trans hB
   refine K_run hB' 60 ?_
   simp [go_sem,roundM,putL,(s5 n).trans hL]
   refine K_run hB' 60 ?_
   simp [go_sem,roundM,putL,hB,oput,s2,←hL]
   rw [hB] at hL
   subst hL
   exact su _ _ _) d0
  refine ⟨_,by rw [e'];exact hsp,?_⟩
  rintro r σ' nx' ⟨rfl,rfl⟩
  refine ⟨s5 _,?_⟩
  refine K_run hB 100 ?_
  simp [go_sem,oput,s2,hR]
end Go.Proofs.YtnoifgjiipgpoaaGreatDoor

set_option maxRecDepth 4000
namespace Go.Proofs.YtnoifgjiipgpoaaGreatDoor
open Go Go.Proofs.YtnoifgjiipgpoaaGreatDoor.R
def Inst.rvisit (x:Inst) (s:State) (j b:Int):State:=
 {spot:=j,car:=s.car,time:=b+(x.stop j).service,load:=max (s.load+(x.stop j).demand) 0,first:=if s.spot=0 then j else s.first,must:=withN s.must j,can:=withN s.can j,on:=if j≤x.pairs then withN s.on j else withoutN s.on (j-x.pairs)}
end Go.Proofs.YtnoifgjiipgpoaaGreatDoor

set_option maxRecDepth 4000
namespace Go.Proofs.YtnoifgjiipgpoaaGreatDoor
open Go Go.Proofs.YtnoifgjiipgpoaaGreatDoor.R
theorem to_visit {x:Inst} {s:State} {j:Int} (h0:j≠0) (hl:x.lateB s j=false) (hf:j≤x.pairs→x.fullB s j=false) (he:x.pairs<j→x.emptyB s j=false):x.to s j=(x.rvisit s j (x.begins s j),true):=by
 unfold Inst.to
 rw [if_neg h0]
 by_cases c:j≤x.pairs
 ·rw [if_pos c]
  simp [Inst.take,hf c,Inst.visit,hl,Inst.seen,Inst.rvisit,c]
 ·rw [if_neg c]
  simp [Inst.bring,he (by omega),Inst.visit,hl,Inst.seen,Inst.rvisit,c]
theorem to_not {x:Inst} {s:State} {j:Int} (h0:j≠0) (h:x.lateB s j=true∨(j≤x.pairs∧x.fullB s j=true)∨(x.pairs<j∧x.emptyB s j=true)):(x.to s j).2=false:=by
 unfold Inst.to
 rw [if_neg h0]
 rcases h with h | ⟨h1,h2⟩ | ⟨h1,h2⟩
 ·split
  ·unfold Inst.take Inst.visit
   split
   ·rfl
   ·simp [h]
  ·unfold Inst.bring Inst.visit
   split
   ·rfl
   ·simp [h]
 ·rw [if_pos h1]
  simp [Inst.take,h2]
 ·rw [if_neg (by omega)]
  simp [Inst.bring,h2]
end Go.Proofs.YtnoifgjiipgpoaaGreatDoor

set_option maxRecDepth 4000
namespace Go.Proofs.YtnoifgjiipgpoaaGreatDoor
open Go Go.Proofs.YtnoifgjiipgpoaaGreatDoor.R
theorem canB_no:∀k,canB (fun _=>false) k=[]
 |0=>rfl
 |k+1=>by rw [canB,canB_no k];rfl
theorem moves_can (x:Inst) (s:State):x.moves s=canB (fun k=>(x.move s k).2.2) x.stops.length:=by
 unfold Inst.moves
 split
 ·rename_i h
  congr 1
  funext k
  rw [Inst.move,if_pos h]
 ·rename_i h
  have:(fun k:Nat=>(x.move s (k:Int)).2.2)=fun _=>false:=by
   funext k
   rw [Inst.move,if_neg h]
  rw [this,canB_no]
end Go.Proofs.YtnoifgjiipgpoaaGreatDoor

set_option maxRecDepth 4000
namespace Go.Proofs.YtnoifgjiipgpoaaGreatDoor
open Go Go.Proofs.YtnoifgjiipgpoaaGreatDoor.R
def Inst.of (x:Inst) (n:Node):Int:=sumI [n.cost,x.low n.s]
theorem of_pure (x:Inst) (n:Node) (hl:x.stops.length<2^31) (ho:n.s.ok):Pure P 84 [x.a,n.a] (.i (x.of n)):=by
 have ha:=at_pure x n.s hl ho
 have hs:=sum_pure [n.cost,x.low n.s] (by simp)
 rw [Inst.of]
 generalize x.low n.s=d at *
 refine pure_of Tryz.func84 rfl rfl (by simp [Tryz.f84]) (by simp [bnd,bnd.bndL,Inst.a,Node.a,Node.cs]) (by simp [bnd,bnd.bndL]) fun B hB hnx=>?_
 simp only [Tryz.f84] at hB ⊢
 refine K_run hB 100 ?_
 simp [go_sem,Inst.a,Node.a,Node.cs]
 refine K_drawn [] rfl (by rw [hB];kernel_rfl) ?_
 refine K_run hB 100 ?_
 simp [go_sem]
 refine K_dCallP rfl rfl rfl (args:=[x.a,n.s.a]) (f:=135) (by simp [go_sem,Inst.a,State.a,State.cs]) (ha) ?_
 refine K_run hB 100 ?_
 simp [go_sem]
 refine K_dCallP rfl rfl rfl (args:=[.fsl (ints [n.cost,d])]) (f:=134) (by simp [go_sem,ints]) (Pure.loose hs (by simp [bnd])) ?_
 refine K_run hB 100 ?_
 simp [go_sem]
end Go.Proofs.YtnoifgjiipgpoaaGreatDoor

set_option maxRecDepth 4000
namespace Go.Proofs.YtnoifgjiipgpoaaGreatDoor
open Go Go.Proofs.YtnoifgjiipgpoaaGreatDoor.R
theorem far_le (a b:Stop):0≤far a b∧far a b≤14143:=by
 obtain ⟨h1,h2⟩:=sq_in a b
 refine ⟨(far_in a b).1,?_⟩
 unfold far rootI
 split
 ·omega
 ·rename_i hp
  have e:(min (sq a b) 1152921504606846976).toNat=(sq a b).toNat:=by omega
  rw [e]
  obtain ⟨g1,_⟩:=rootL_spec (sq a b).toNat 31 0 (by omega) (by simp;omega)
  generalize rootL (sq a b).toNat 31 0=r at *
  have:r≤14142:=by
   rcases Nat.lt_or_ge 14142 r with h | h
   ·have:=Nat.mul_le_mul (show 14143≤r from h) (show 14143≤r from h)
    omega
   ·exact h
  omega
theorem nearF_le (k:Nat) (b:Stop):∀(i:Nat) (l:List Stop) (v:Int),(0≤v∧v≤14143)∨v=inf→(0≤nearF k b i l v∧nearF k b i l v≤14143)∨nearF k b i l v=inf
 |_,[],v,h=>h
 |i,a :: l,v,h=>by
  rw [nearF]
  refine nearF_le k b (i+1) l _ ?_
  have:=far_le a b
  have hinf:inf=1152921504606846976:=rfl
  split
  ·exact h
  ·omega
theorem nearK_le (x:Inst) (k:Nat) (b:Stop):0≤x.nearK k b∧x.nearK k b≤14143:=by
 unfold Inst.nearK
 have hinf:inf=1152921504606846976:=rfl
 rcases nearF_le k b 0 x.stops inf (.inr rfl) with h | h
 ·rw [Int.tmod_eq_of_lt h.1 (by omega)];exact h
 ·rw [h,hinf];decide
theorem nears_le (x:Inst):∀(k:Nat) (l:List Stop),∀d∈nears x k l,0≤d∧d≤14143
 |_,[],d,h=>by cases h
 |k,b :: l,d,h=>by
  rw [nears] at h
  rcases List.mem_cons.1 h with e | e
  ·rw [e];exact nearK_le x k b
  ·exact nears_le x (k+1) l d e
theorem near_le (x:Inst):∀d∈x.near,0≤d∧d≤14143:=by
 unfold Inst.near
 split
 ·exact nears_le x 0 x.stops
 ·intro d h;cases h
def lefts (may:Nat):Nat→List Int→Int
 |_,[]=>0
 |j,d :: l=>(if 0<j∧hasB may j=false then d else 0)+lefts may (j+1) l
theorem lefts_in (may:Nat):∀(j:Nat) (l:List Int),(∀d∈l,0≤d∧d≤14143)→0≤lefts may j l∧lefts may j l≤14143*l.length
 |_,[],_=>by simp [lefts]
 |j,d :: l,h=>by
  have h1:=h d List.mem_cons_self
  have h2:=lefts_in may (j+1) l fun e he=>h e (List.mem_cons_of_mem _ he)
  rw [lefts,List.length_cons]
  split<;>omega
theorem leftSum_eq (may:Nat):∀(j:Nat) (l:List Int) (n:Int),(∀d∈l,0≤d∧d≤14143)→0≤n→n+14143*l.length<9223372036854775808→leftSum may j l n=n+lefts may j l
 |_,[],n,_,_,_=>by simp [leftSum,lefts]
 |j,d :: l,n,h,h0,hn=>by
  have h1:=h d List.mem_cons_self
  rw [List.length_cons] at hn
  rw [leftSum,lefts]
  split
  ·rw [w64 (n+d) (by omega),leftSum_eq may (j+1) l (n+d) (fun e he=>h e (List.mem_cons_of_mem _ he)) (by omega) (by omega)]
   omega
  ·rw [leftSum_eq may (j+1) l n (fun e he=>h e (List.mem_cons_of_mem _ he)) h0 (by omega)]
   omega
def lowP (near:List Int) (may:Nat):Int:=match near with
 |a :: b :: l=>a+lefts may 0 (a :: b :: l)
 |_=>0
theorem low_eq (x:Inst) (s:State) (hl:x.stops.length<2^31):x.low s=lowP x.near s.can:=by
 unfold Inst.low
 have h1:=near_le x
 have h2:=near_len x
 generalize x.near=near at *
 match near with
 |[]=>rfl
 |[_]=>rfl
 |a :: b :: l=>
  simp only [atLeast,lowP]
  have ha:=h1 a List.mem_cons_self
  refine leftSum_eq _ _ _ _ h1 ha.1 ?_
  simp only [List.length_cons] at h2 ⊢
  omega
theorem within_has {a b:Nat} (h:withinB b a=true) (j:Int):hasB b j=true→hasB a j=true:=by
 unfold hasB
 simp only [Bool.and_eq_true,decide_eq_true_eq]
 rintro ⟨h1,h2⟩
 refine ⟨h1,?_⟩
 have:=List.all_eq_true.1 h j.toNat (List.mem_range.2 (by omega))
 rw [h2] at this
 simpa using this
def coversB (a b:State):Bool:=
 decide (a.spot=b.spot)&&withinB a.must b.must&&withinB a.on b.on&&withinB b.can a.can&&decide (a.car≤b.car)&&decide (a.time≤b.time)&&decide (a.load≤b.load)&&decide (a.first≤b.first)
theorem covers_pure (a b:State):Pure P 207 [a.a,b.a] (.b (coversB a b)):=by
 generalize hR:coversB a b=R
 refine pure_of Tryz.func207 rfl rfl (by simp [Tryz.f207]) (by simp [bnd,bnd.bndL,State.a,State.cs]) (by simp [bnd,bnd.bndL]) fun B hB hnx=>?_
 simp only [Tryz.f207] at hB ⊢
 rw [coversB] at hR
 have hw1:=within_pure a.must b.must
 have hw2:=within_pure a.on b.on
 have hw3:=within_pure b.can a.can
 by_cases c1:a.spot=b.spot
 rotate_left
 ·refine K_run hB 100 ?_
  simp [go_sem,State.a,State.cs,c1]
  simp [←hR,c1]
 refine K_run hB 100 ?_
 simp [go_sem,State.a,State.cs,c1]
 refine K_call rfl rfl rfl (args:=[.u a.must,.u b.must]) (f:=235) (by simp [go_sem]) (by simp [go_sem,hB]) ((hw1).spec _ _) ?_
 cases c2:withinB a.must b.must with
 |false=>
  refine K_run hB 100 ?_
  simp [go_sem]
  simp [←hR,c2]
 |true=>
  refine K_run hB 100 ?_
  simp [go_sem]
  refine K_call rfl rfl rfl (args:=[.u a.on,.u b.on]) (f:=235) (by simp [go_sem]) (by simp [go_sem,hB]) ((hw2).spec _ _) ?_
  cases c3:withinB a.on b.on with
  |false=>
   refine K_run hB 100 ?_
   simp [go_sem]
   simp [←hR,c3]
  |true=>
   refine K_run hB 100 ?_
   simp [go_sem]
   refine K_call rfl rfl rfl (args:=[.u b.can,.u a.can]) (f:=235) (by simp [go_sem]) (by simp [go_sem,hB]) ((hw3).spec _ _) ?_
   cases c4:withinB b.can a.can with
   |false=>
    refine K_run hB 100 ?_
    simp [go_sem]
    simp [←hR,c4]
   |true=>
    rw [c2,c3,c4] at hR
    simp only [c1,decide_true,Bool.and_true,Bool.true_and] at hR
    refine K_run hB 100 ?_
    simp [go_sem]
    refine atVal_decT (fun h1=>?_) (fun h1=>by simp [go_sem,h1,←hR])
    simp [go_sem,h1]
    refine atVal_decT (fun h2=>?_) (fun h2=>by simp [go_sem,h2,←hR])
    simp [go_sem,h2]
    refine atVal_decT (fun h3=>?_) (fun h3=>by simp [go_sem,h3,←hR])
    simp [go_sem,h3]
    simp [←hR,h1,h2,h3]
end Go.Proofs.YtnoifgjiipgpoaaGreatDoor

set_option maxRecDepth 4000
namespace Go.Proofs.YtnoifgjiipgpoaaGreatDoor
open Go Go.Proofs.YtnoifgjiipgpoaaGreatDoor.R
theorem move_is {x:Inst} {s:State} {j:Int} (hv:(x.move s j).2.2=true):x.may=true∧s.mayB x=true∧(0≤j∧j≤2*x.pairs)∧(x.to s j).2=true∧x.move s j=((x.to s j).1,far (x.stop s.spot) (x.stop j),true):=by
 unfold Inst.move at hv ⊢
 split at hv
 ·rename_i h
  rw [if_pos h]
  unfold Inst.step at hv ⊢
  split at hv
  ·simp at hv
  ·rename_i h1
   rw [if_neg h1]
   split at hv
   ·rename_i h2
    rw [if_pos h2]
    exact ⟨h.1,h.2,by omega,h2,rfl⟩
   ·simp at hv
 ·simp at hv
theorem move_mk {x:Inst} {s:State} {j:Int} (h1:x.may=true) (h2:s.mayB x=true) (h3:0≤j∧j≤2*x.pairs) (h4:(x.to s j).2=true):x.move s j=((x.to s j).1,far (x.stop s.spot) (x.stop j),true):=by
 unfold Inst.move Inst.step
 rw [if_pos ⟨h1,h2⟩,if_neg (by omega),if_pos h4]
end Go.Proofs.YtnoifgjiipgpoaaGreatDoor

set_option maxRecDepth 4000
namespace Go.Proofs.YtnoifgjiipgpoaaGreatDoor
open Go Go.Proofs.YtnoifgjiipgpoaaGreatDoor.R
theorem upto_bit:∀{k i:Nat},1≤i→i≤k→(uptoL k).testBit i=true
 |0,i,h1,h2=>by omega
 |k+1,i,h1,h2=>by
  rw [uptoL,Nat.testBit_or]
  by_cases h:i≤k
  ·rw [upto_bit h1 h];rfl
  ·have:i=k+1:=by omega
   subst this
   rw [Nat.testBit_two_pow_self,Bool.or_true]
theorem Inst.all_bit {x:Inst} {t p:Nat} (hx:x.Fit p) (h:x.allB t=true) {i:Nat} (h1:1≤i) (h2:i≤2*p):t.testBit i=true:=by
 have hf:=hx.few
 have hp:=hx.pairs
 unfold Inst.allB withinB at h
 rw [List.all_eq_true] at h
 have:=h i (List.mem_range.2 (by omega))
 have hu:(uptoN (2*x.pairs)).testBit i=true:=by
  unfold uptoN
  exact upto_bit h1 (by omega)
 rw [hu] at this
 simpa using this
end Go.Proofs.YtnoifgjiipgpoaaGreatDoor

set_option maxRecDepth 4000
namespace Go.Proofs.YtnoifgjiipgpoaaGreatDoor
open Go Go.Proofs.YtnoifgjiipgpoaaGreatDoor.R
theorem with_bit {t k:Nat} (hk:k≤63) (i:Nat):(withN t k).testBit i=(t.testBit i||decide (k=i)):=by
 rw [withN,bitN_nat hk,Nat.testBit_or,Nat.testBit_two_pow]
theorem without_bit {t k:Nat} (hk:k≤63) {i:Nat} (hi:i<64):(withoutN t k).testBit i=(t.testBit i&& !decide (k=i)):=by
 rw [withoutN,bitN_nat hk,andN_bit,Nat.testBit_two_pow]
 simp [hi]
def sumOn (x:Inst):Nat→Nat→Int
 |0,_=>0
 |k+1,t=>sumOn x k t+if t.testBit (k+1)=true then (x.stop (k+1:Nat)).demand else 0
theorem sumOn_zero (x:Inst):∀k,sumOn x k 0=0
 |0=>rfl
 |k+1=>by rw [sumOn,sumOn_zero x k];simp
theorem sumOn_pos {x:Inst} {p:Nat} (hx:x.Fit p) (t:Nat):∀k,k≤p→0≤sumOn x k t
 |0,_=>Int.le_refl _
 |k+1,h=>by
  have:=sumOn_pos hx t k (by omega)
  have:=hx.take (k:=k+1) (by omega) h
  rw [sumOn]
  split<;>omega
theorem sumOn_with (x:Inst) {t j:Nat} (hj:j≤63) (hn:t.testBit j=false) (h1:1≤j):∀k,k≤63→sumOn x k (withN t j)=sumOn x k t+if j≤k then (x.stop j).demand else 0
 |0,_=>by rw [if_neg (by omega)];rfl
 |k+1,hk=>by
  rw [sumOn,sumOn_with x hj hn h1 k (by omega),with_bit hj,sumOn]
  by_cases e:j=k+1
  ·subst e
   rw [if_neg (by omega),hn]
   simp
  ·have:(decide (j=k+1))=false:=by simpa using e
   rw [this,Bool.or_false]
   by_cases e2:j≤k
   ·rw [if_pos e2,if_pos (show j≤k+1 by omega)];omega
   ·rw [if_neg e2,if_neg (show ¬j≤k+1 by omega)];omega
theorem sumOn_without (x:Inst) {t j:Nat} (hj:j≤63) (hn:t.testBit j=true) (h1:1≤j):∀k,k≤63→sumOn x k (withoutN t j)=sumOn x k t-if j≤k then (x.stop j).demand else 0
 |0,_=>by rw [if_neg (by omega)];rfl
 |k+1,hk=>by
  rw [sumOn,sumOn_without x hj hn h1 k (by omega),without_bit hj (by omega),sumOn]
  by_cases e:j=k+1
  ·subst e
   rw [if_neg (by omega),hn]
   simp
  ·have:(decide (j=k+1))=false:=by simpa using e
   rw [this,Bool.not_false,Bool.and_true]
   by_cases e2:j≤k
   ·rw [if_pos e2,if_pos (show j≤k+1 by omega)];omega
   ·rw [if_neg e2,if_neg (show ¬j≤k+1 by omega)];omega
structure Good (x:Inst) (p:Nat) (s:State):Prop where
 eq:s.can=s.must
 on:∀k,1≤k→k≤p→s.on.testBit k=(s.must.testBit k&& !s.must.testBit (k+p))
 order:∀k,1≤k→k≤p→s.must.testBit (k+p)=true→s.must.testBit k=true
 load:s.load=sumOn x p s.on
 room:s.load≤x.room
theorem good_root {x:Inst} {p:Nat} (hx:x.Fit p) (hm:x.may=true):Good x p x.rootS:=by
 rw [Inst.rootS,if_pos hm]
 refine ⟨rfl,fun k _ _=>by simp [State.zero],fun k _ _ h=>by simp [State.zero] at h,?_,?_⟩
 ·exact (sumOn_zero x p).symm
 ·have:=hx.room
  show (0:Int)≤x.room
  omega
theorem has_testN {t k:Nat} (hk:k≤63):hasB t (k:Int)=t.testBit k:=has_nat (by omega)
theorem good_step {x:Inst} {p:Nat} {s:State} {j:Int} (hx:x.Fit p) (hg:Good x p s) (h:(x.move s j).2.2=true):
  Good x p (x.move s j).1∧0≤j∧j≤2*p∧(x.move s j).1.must=(if 0<j then withN s.must j else s.must)∧
  (x.move s j).1.on=(if x.pairs<j then withoutN s.on (j-x.pairs) else if 0<j then withN s.on j else s.on)∧
  (x.move s j).1.load=(if 0<j then s.load+(x.stop j).demand else s.load):=by
 obtain ⟨h1,h2,h3,h4,h5⟩:=move_is h
 have hp:=hx.pairs
 have hfew:=hx.few
 obtain ⟨k,rfl⟩:∃k:Nat,j=k:=⟨j.toNat,by omega⟩
 rw [h5]
 have h3':(k:Int)≤2*p:=by omega
 have hvis:(x.visit s k).2=true→(x.visit s k).1=x.seen s k∧hasB s.must k=false:=by
  unfold Inst.visit Inst.lateB
  split
  ·intro h;simp at h
  ·rename_i hh
   intro _
   simp only [Bool.or_eq_true,not_or] at hh
   exact ⟨rfl,by simpa using hh.1⟩
 by_cases hk0:k=0
 ·subst hk0
  have e:x.to s ((0:Nat):Int)=x.home s:=by simp [Inst.to]
  rw [e] at h4 ⊢
  unfold Inst.home at h4 ⊢
  split at h4
  ·simp at h4
  ·rename_i hh
   rw [if_neg hh]
   have hon:s.on=0:=by
    simp only [Inst.stayB,Bool.or_eq_true,decide_eq_true_eq,not_or] at hh
    have:=hh.1.1.1.2
    omega
   have hl:s.load=0:=by rw [hg.load,hon,sumOn_zero]
   refine ⟨⟨hg.eq,hg.on,hg.order,by show (0:Int)=sumOn x p s.on;rw [hon,sumOn_zero],by show (0:Int)≤x.room;have:=hx.room;omega⟩,by omega,by omega,by simp [Inst.homeS],by rw [if_neg (by omega),if_neg (by omega)];rfl,by rw [if_neg (by omega),hl];rfl⟩
 have hk63:k≤63:=by omega
 by_cases hkp:k≤p
 ·have e:x.to s (k:Int)=x.take s k:=by rw [Inst.to,if_neg (by omega),if_pos (by omega)]
  rw [e] at h4 ⊢
  have hd:=hx.take (k:=k) (by omega) hkp
  unfold Inst.take at h4 ⊢
  split at h4
  ·simp at h4
  rename_i hh
  rw [if_neg hh]
  split at h4
  rotate_left
  ·rename_i h8;exact absurd h4 h8
  rename_i h8
  rw [if_pos h8]
  obtain ⟨e1,e2⟩:=hvis h8
  rw [e1]
  rw [has_testN hk63] at e2
  have hroom:s.load+(x.stop k).demand≤x.room:=by
   simp only [Inst.fullB,Bool.or_eq_true,decide_eq_true_eq,not_or] at hh
   omega
  have hnon:s.on.testBit k=false:=by rw [hg.on k (by omega) hkp,e2,Bool.false_and]
  have hpos:=sumOn_pos hx s.on p (Nat.le_refl _)
  have hload:=hg.load
  have hmax:max (s.load+(x.stop k).demand) 0=s.load+(x.stop k).demand:=by omega
  refine ⟨⟨by show withN s.can k=withN s.must k;rw [hg.eq],fun i i1 i2=>?_,fun i i1 i2 i3=>?_,?_,?_⟩,by omega,by omega,?_,?_,?_⟩
  ·show (withN s.on k).testBit i=((withN s.must k).testBit i&& !(withN s.must k).testBit (i+p))
   rw [with_bit hk63,with_bit hk63,with_bit hk63,hg.on i i1 i2]
   have:decide (k=i+p)=false:=by simp;omega
   rw [this,Bool.or_false]
   by_cases hki:k=i
   ·subst hki
    have hb:s.must.testBit (k+p)=false:=by
     cases hq:s.must.testBit (k+p) with
     |false=>rfl
     |true=>rw [hg.order k i1 i2 hq] at e2;cases e2
    simp [hb]
   ·simp [hki]
  ·have i3':(withN s.must k).testBit (i+p)=true:=i3
   show (withN s.must k).testBit i=true
   rw [with_bit hk63] at i3' ⊢
   have:decide (k=i+p)=false:=by simp;omega
   rw [this,Bool.or_false] at i3'
   rw [hg.order i i1 i2 i3',Bool.true_or]
  ·show max (s.load+(x.stop k).demand) 0=sumOn x p (withN s.on k)
   rw [sumOn_with x hk63 hnon (by omega) p (by omega),if_pos hkp,hmax,hload]
  ·show max (s.load+(x.stop k).demand) 0≤x.room
   omega
  ·rw [if_pos (by omega)];rfl
  ·rw [if_neg (by omega),if_pos (by omega)]
  ·rw [if_pos (by omega)];exact hmax
 ·obtain ⟨q,rfl⟩:∃q,k=q+p:=⟨k-p,by omega⟩
  have hq1:1≤q:=by omega
  have hq2:q≤p:=by omega
  have hq63:q≤63:=by omega
  have ej:((q+p:Nat):Int)-x.pairs=(q:Int):=by omega
  have e:x.to s ((q+p:Nat):Int)=x.bring s (q+p:Nat):=by rw [Inst.to,if_neg (by omega),if_neg (by omega)]
  rw [e] at h4 ⊢
  have hd:=hx.take (k:=q) hq1 hq2
  have hb:=hx.bring (k:=q) hq1 hq2
  unfold Inst.bring at h4 ⊢
  split at h4
  ·simp at h4
  rename_i hh
  rw [if_neg hh]
  split at h4
  rotate_left
  ·rename_i h8;exact absurd h4 h8
  rename_i h8
  rw [if_pos h8]
  obtain ⟨e1,e2⟩:=hvis h8
  rw [e1,ej]
  rw [has_testN hk63] at e2
  have hcan:s.must.testBit q=true:=by
   simp only [Inst.emptyB,Bool.or_eq_true,decide_eq_true_eq,not_or,ej] at hh
   have:=hh.2
   rw [has_testN hq63,hg.eq] at this
   simpa using this
  have hon:s.on.testBit q=true:=by rw [hg.on q hq1 hq2,hcan,e2];rfl
  have hpos:=sumOn_pos hx (withoutN s.on q) p (Nat.le_refl _)
  have hload:=hg.load
  have hsum:=sumOn_without x hq63 hon hq1 p (by omega)
  rw [if_pos hq2] at hsum
  have hmax:max (s.load+(x.stop (q+p:Nat)).demand) 0=s.load+(x.stop (q+p:Nat)).demand:=by omega
  refine ⟨⟨by show withN s.can (q+p:Nat)=withN s.must (q+p:Nat);rw [hg.eq],fun i i1 i2=>?_,fun i i1 i2 i3=>?_,?_,?_⟩,by omega,by omega,?_,?_,?_⟩
  ·show (withoutN s.on q).testBit i=((withN s.must (q+p:Nat)).testBit i&& !(withN s.must (q+p:Nat)).testBit (i+p))
   rw [without_bit hq63 (by omega),with_bit hk63,with_bit hk63,hg.on i i1 i2]
   have:decide (q+p=i)=false:=by simp;omega
   rw [this,Bool.or_false]
   have e5:decide (q+p=i+p)=decide (q=i):=by simp
   rw [e5]
   by_cases hki:q=i
   ·simp [hki]
   ·simp [hki]
  ·have i3':(withN s.must (q+p:Nat)).testBit (i+p)=true:=i3
   show (withN s.must (q+p:Nat)).testBit i=true
   rw [with_bit hk63] at i3' ⊢
   by_cases hki:q=i
   ·subst hki
    rw [hcan,Bool.true_or]
   ·have:decide (q+p=i+p)=false:=by simp;omega
    rw [this,Bool.or_false] at i3'
    rw [hg.order i i1 i2 i3',Bool.true_or]
  ·show max (s.load+(x.stop (q+p:Nat)).demand) 0=sumOn x p (withoutN s.on q)
   omega
  ·show max (s.load+(x.stop (q+p:Nat)).demand) 0≤x.room
   have:=hg.room
   omega
  ·rw [if_pos (by omega)];rfl
  ·rw [if_pos (by omega)]
  ·rw [if_pos (by omega)];exact hmax
end Go.Proofs.YtnoifgjiipgpoaaGreatDoor

set_option maxRecDepth 4000
namespace Go.Proofs.YtnoifgjiipgpoaaGreatDoor
open Go Go.Proofs.YtnoifgjiipgpoaaGreatDoor.R
theorem move_pos {x:Inst} {s:State} {j:Int} (h:(x.move s j).2.2=true) (hj:j≠0):x.may=true∧s.mayB x=true∧0<j∧j≤2*x.pairs∧x.lateB s j=false∧(j≤x.pairs→x.fullB s j=false)∧(x.pairs<j→x.emptyB s j=false)∧
  x.move s j=(x.rvisit s j (x.begins s j),far (x.stop s.spot) (x.stop j),true):=by
 obtain ⟨h1,h2,h3,h4,h5⟩:=move_is h
 have k1:x.lateB s j=false:=by
  cases e:x.lateB s j with
  |false=>rfl
  |true=>rw [to_not hj (.inl e)] at h4;cases h4
 have k2:j≤x.pairs→x.fullB s j=false:=fun hp=>by
  cases e:x.fullB s j with
  |false=>rfl
  |true=>rw [to_not hj (.inr (.inl ⟨hp,e⟩))] at h4;cases h4
 have k3:x.pairs<j→x.emptyB s j=false:=fun hp=>by
  cases e:x.emptyB s j with
  |false=>rfl
  |true=>rw [to_not hj (.inr (.inr ⟨hp,e⟩))] at h4;cases h4
 refine ⟨h1,h2,by omega,h3.2,k1,k2,k3,?_⟩
 rw [h5,to_visit hj k1 k2 k3]
theorem move_home {x:Inst} {s:State} (h:(x.move s 0).2.2=true):x.may=true∧s.mayB x=true∧x.stayB s=false∧x.move s 0=(x.homeS s,far (x.stop s.spot) (x.stop 0),true):=by
 obtain ⟨h1,h2,h3,h4,h5⟩:=move_is h
 have e:x.to s 0=x.home s:=by simp [Inst.to]
 rw [e] at h4 h5
 have k1:x.stayB s=false:=by
  cases c:x.stayB s with
  |false=>rfl
  |true=>rw [Inst.home,if_pos c] at h4;cases h4
 refine ⟨h1,h2,k1,?_⟩
 rw [h5,Inst.home,if_neg (by simp [k1])]
theorem has_withN {t k:Nat} (hk:k≤63) (i:Nat):hasB (withN t k) i=(hasB t i||decide (i=k)):=by
 by_cases hi:i≤63
 ·rw [has_testN hi,has_testN hi,with_bit hk]
  by_cases e:i=k
  ·subst e;simp
  ·have:¬k=i:=fun h=>e h.symm
   simp [e,this]
 ·have e1:∀u,hasB u (i:Int)=false:=fun u=>by simp [hasB];omega
  have:¬i=k:=by omega
  simp [e1,this]
theorem lefts_past {may j:Nat} (hj:j≤63):∀(i:Nat) (l:List Int),j<i→lefts (withN may j) i l=lefts may i l
 |_,[],_=>rfl
 |i,d :: l,h=>by
  rw [lefts,lefts,lefts_past hj (i+1) l (by omega),has_withN hj]
  have:¬i=j:=by omega
  simp [this]
theorem lefts_with {may j:Nat} (hj:j≤63) (h1:1≤j):∀(i:Nat) (l:List Int),i≤j→(∀d∈l,0≤d∧d≤14143)→lefts may i l≤lefts (withN may j) i l+l.getD (j-i) 0
 |_,[],_,_=>by simp [lefts]
 |i,d :: l,h,hd=>by
  have h0:=hd d List.mem_cons_self
  have hd':∀e∈l,0≤e∧e≤14143:=fun e he=>hd e (List.mem_cons_of_mem _ he)
  rw [lefts,lefts,has_withN hj]
  by_cases e:i=j
  ·subst e
   rw [lefts_past hj (i+1) l (by omega)]
   simp only [Nat.sub_self,List.getD_cons_zero,decide_true,Bool.or_true]
   split<;>simp<;>omega
  ·have:=lefts_with (may:=may) hj h1 (i+1) l (by omega) hd'
   have e2:j-i=(j-(i+1))+1:=by omega
   rw [e2,List.getD_cons_succ]
   have e3:decide (i=j)=false:=decide_eq_false e
   rw [e3,Bool.or_false]
   omega
theorem nearF_lower {k:Nat} {b:Stop}:∀(l:List Stop) (i:Nat) (v:Int),nearF k b i l v≤v
 |[],_,v=>Int.le_refl _
 |a :: l,i,v=>by
  rw [nearF]
  have:=nearF_lower (k:=k) (b:=b) l (i+1) (if i=k then v else min v (far a b))
  split at this<;>split<;>omega
theorem nearF_far {k:Nat} {b:Stop}:∀(l:List Stop) (i m:Nat) (v:Int) (hm:m<l.length),i+m≠k→nearF k b i l v≤far l[m] b
 |[],_,m,_,hm,_=>by simp at hm
 |a :: l,i,0,v,_,hne=>by
  rw [nearF,if_neg (by omega)]
  have:=nearF_lower (k:=k) (b:=b) l (i+1) (min v (far a b))
  simp only [List.getElem_cons_zero]
  omega
 |a :: l,i,m+1,v,hm,hne=>by
  rw [nearF]
  simpa using nearF_far l (i+1) m _ (by simpa using hm) (by omega)
theorem nearK_far (x:Inst) {k m:Nat} (b:Stop) (hm:m<x.stops.length) (hne:m≠k):x.nearK k b≤far x.stops[m] b:=by
 have h1:=nearF_far (k:=k) (b:=b) x.stops 0 m inf hm (by omega)
 have h2:=far_le x.stops[m] b
 have hinf:inf=1152921504606846976:=rfl
 unfold Inst.nearK
 rcases nearF_le k b 0 x.stops inf (.inr rfl) with h | h
 ·rw [Int.tmod_eq_of_lt h.1 (by omega)];exact h1
 ·omega
theorem near_may {x:Inst} (h:x.may=true):x.near=nears x 0 x.stops:=by rw [Inst.near,if_pos h]
theorem near_getD {x:Inst} {p:Nat} (hx:x.Fit p) (h:x.may=true) {k:Nat} (hk:k≤2*p):x.near.getD k 0=x.nearK k (x.stop k):=by
 have hl:=hx.len
 rw [near_may h,List.getD_eq_getElem?_getD,List.getElem?_eq_getElem (by rw [nears_len];omega),nears_get x 0 x.stops k (by omega),Inst.stop_at (by omega)]
 simp
theorem near_far {x:Inst} {p:Nat} (hx:x.Fit p) (h:x.may=true) {k m:Nat} (hk:k≤2*p) (hm:m≤2*p) (hne:m≠k):x.near.getD k 0≤far (x.stop m) (x.stop k):=by
 have hl:=hx.len
 rw [near_getD hx h hk,Inst.stop_at (k:=m) (by omega)]
 exact nearK_far x _ _ hne
theorem near_length {x:Inst} {p:Nat} (hx:x.Fit p) (h:x.may=true):x.near.length=2*p+1:=by rw [near_may h,nears_len,hx.len]
theorem lowP_cons {near:List Int} {may:Nat} (h:2≤near.length):lowP near may=near.getD 0 0+lefts may 0 near:=by
 match near,h with
 |a :: b :: l,_=>rfl
 |[],h=>simp at h
 |[_],h=>simp at h
theorem lowP_in {near:List Int} (hn:∀d∈near,0≤d∧d≤14143) (may:Nat):0≤lowP near may∧lowP near may≤14143*(near.length+1):=by
 by_cases h:2≤near.length
 ·rw [lowP_cons h]
  have h1:=lefts_in may 0 near hn
  have h2:0≤near.getD 0 0∧near.getD 0 0≤14143:=by
   rw [List.getD_eq_getElem?_getD,List.getElem?_eq_getElem (by omega)]
   exact hn _ (List.getElem_mem _)
  omega
 ·match near,h with
  |[],_=>simp [lowP]
  |[_],_=>simp [lowP]
  |a :: b :: l,h=>simp at h
def State.seenAt (s:State):Prop:=s.spot=0∨hasB s.must s.spot=true
theorem low_step {x:Inst} {s:State} {j:Int} (hs:s.seenAt) (h:(x.move s j).2.2=true):lowP x.near s.can≤(x.move s j).2.1+lowP x.near (x.move s j).1.can:=by
 by_cases hj:j=0
 ·subst hj
  obtain ⟨_,_,_,e⟩:=move_home h
  rw [e]
  have:=(far_le (x.stop s.spot) (x.stop 0)).1
  show _≤far (x.stop s.spot) (x.stop 0)+lowP x.near s.can
  omega
 ·obtain ⟨hm,hmay,h1,h2,h3,_,_,e⟩:=move_pos h hj
  obtain ⟨p,hx⟩:=x.fit hm
  have hp:=hx.pairs
  have hfew:=hx.few
  have hst:=s.fit hx hmay
  rw [e]
  show _≤far (x.stop s.spot) (x.stop j)+lowP x.near (withN s.can j)
  obtain ⟨k,rfl⟩:∃k:Nat,j=k:=⟨j.toNat,by omega⟩
  obtain ⟨m,hmm⟩:∃m:Nat,s.spot=m:=⟨s.spot.toNat,by have:=hst.spot;omega⟩
  have hne:m≠k:=by
   rintro rfl
   rcases hs with hs | hs
   ·omega
   ·rw [Inst.lateB,←hmm,hs] at h3;simp at h3
  have hlen:=near_length hx hm
  have hf:=near_far hx hm (k:=k) (m:=m) (by omega) (by have:=hst.spot;omega) hne
  rw [lowP_cons (by omega),lowP_cons (by omega),hmm]
  have:=lefts_with (may:=s.can) (j:=k) (by omega) (by omega) 0 x.near (by omega) (near_le x)
  rw [Nat.sub_zero] at this
  omega
theorem lefts_all {may:Nat}:∀(i:Nat) (l:List Int),(∀j:Nat,i≤j→j<i+l.length→0<j→hasB may j=true)→lefts may i l=0
 |_,[],_=>rfl
 |i,d :: l,h=>by
  rw [lefts,lefts_all (i+1) l fun j h1 h2 h3=>h j (by omega) (by simp only [List.length_cons];omega) h3]
  have:¬(0<i∧hasB may i=false):=fun ⟨h1,h2⟩=>by
   rw [h i (Nat.le_refl _) (by simp) h1] at h2
   cases h2
  rw [if_neg this]
  rfl
theorem end_is {x:Inst} {s:State} (h:(x.endS s).2=true):x.may=true∧((x.pairs=0∧s=x.rootS∧x.endS s=(0,true))∨
  (s.mayB x=true∧s.spot≠0∧s.on=0∧x.allB s.can=true∧s.time+far (x.stop s.spot) (x.stop 0)≤(x.stop 0).due∧x.endS s=(far (x.stop s.spot) (x.stop 0),true))):=by
 unfold Inst.endS at h ⊢
 split at h
 ·cases h
 ·rename_i h1
  have hm:x.may=true:=by simpa using h1
  refine ⟨hm,?_⟩
  rw [if_neg h1]
  split at h
  ·rename_i h2
   rw [if_pos h2]
   exact .inl ⟨h2.1,h2.2,rfl⟩
  ·rename_i h2
   rw [if_neg h2]
   split at h
   ·rename_i h3
    rw [if_pos h3]
    exact .inr ⟨h3.1,h3.2.1,h3.2.2.1,h3.2.2.2.1,h3.2.2.2.2,rfl⟩
   ·cases h
theorem low_end {x:Inst} {s:State} (h:(x.endS s).2=true):lowP x.near s.can≤(x.endS s).1:=by
 obtain ⟨hm,h⟩:=end_is h
 obtain ⟨p,hx⟩:=x.fit hm
 have hp:=hx.pairs
 have hlen:=near_length hx hm
 rcases h with ⟨h1,h2,e⟩ | ⟨h1,h2,h3,h4,h5,e⟩
 ·rw [e]
  have:x.near.length=1:=by omega
  match hn:x.near,this with
  |[a],_=>simp [lowP]
 ·have hst:=s.fit hx h1
  have hp1:1≤p:=by have:=hst.spot;omega
  rw [e,lowP_cons (by omega),lefts_all 0 x.near fun j _ hj h0=>by
   have:=hx.few
   rw [has_testN (by omega)]
   exact Inst.all_bit hx h4 (by omega) (by omega)]
  obtain ⟨m,hmm⟩:∃m:Nat,s.spot=m:=⟨s.spot.toNat,by have:=hst.spot;omega⟩
  have hf:=near_far hx hm (k:=0) (m:=m) (by omega) (by have:=hst.spot;omega) (by omega)
  rw [hmm]
  show _≤far (x.stop m) (x.stop 0)
  have e0:x.stop ((0:Nat):Int)=x.stop 0:=rfl
  rw [e0] at hf
  omega
theorem seen_step {x:Inst} {s:State} {j:Int} (h:(x.move s j).2.2=true):(x.move s j).1.seenAt:=by
 by_cases hj:j=0
 ·subst hj
  obtain ⟨_,_,_,e⟩:=move_home h
  rw [e]
  exact .inl rfl
 ·obtain ⟨hm,_,h1,h2,_,_,_,e⟩:=move_pos h hj
  obtain ⟨p,hx⟩:=x.fit hm
  have hp:=hx.pairs
  have hfew:=hx.few
  rw [e]
  refine .inr ?_
  show hasB (withN s.must j) j=true
  obtain ⟨k,rfl⟩:∃k:Nat,j=k:=⟨j.toNat,by omega⟩
  rw [has_withN (by omega)]
  simp
end Go.Proofs.YtnoifgjiipgpoaaGreatDoor

set_option maxRecDepth 4000
namespace Go.Proofs.YtnoifgjiipgpoaaGreatDoor
open Go Go.Proofs.YtnoifgjiipgpoaaGreatDoor.R
theorem canB_mem {f:Nat→Bool}:∀{n:Nat} {j:Int},j∈canB f n→∃k:Nat,j=k∧k<n∧f k=true
 |0,j,h=>by cases h
 |n+1,j,h=>by
  rw [canB,List.mem_append] at h
  rcases h with h | h
  ·obtain ⟨k,h1,h2,h3⟩:=canB_mem h
   exact ⟨k,h1,by omega,h3⟩
  ·split at h
   ·rename_i hf
    rw [List.mem_singleton] at h
    exact ⟨n,h,by omega,hf⟩
   ·cases h
theorem moves_mem {x:Inst} {s:State} {j:Int} (h:j∈x.moves s):(x.move s j).2.2=true:=by
 rw [moves_can] at h
 obtain ⟨k,rfl,_,h3⟩:=canB_mem h
 exact h3
theorem moves_len (x:Inst) (s:State):(x.moves s).length≤x.stops.length:=by
 rw [moves_can]
 exact canB_len _ _
theorem move_cost {x:Inst} {s:State} {j:Int} (h:(x.move s j).2.2=true):0≤(x.move s j).2.1∧(x.move s j).2.1≤14143:=by
 obtain ⟨_,_,_,_,e⟩:=move_is h
 rw [e]
 exact far_le _ _
end Go.Proofs.YtnoifgjiipgpoaaGreatDoor

set_option maxRecDepth 4000
namespace Go.Proofs.YtnoifgjiipgpoaaGreatDoor
open Go Go.Proofs.YtnoifgjiipgpoaaGreatDoor.R
theorem sumI_two {a b:Int} (ha:0≤a) (hb:0≤b) (h:a+b≤1152921504606846976):sumI [a,b]=a+b:=by
 simp only [sumI,List.foldl_cons,List.foldl_nil,sum1]
 omega
theorem goes_app (x:Inst):∀(l m:List Int) (s:State) (c:Int),x.goes (l++m) s c=(x.goes l s c).bind fun r=>x.goes m r.1 r.2
 |[],m,s,c=>rfl
 |j :: l,m,s,c=>by
  rw [List.cons_append,Inst.goes,Inst.goes]
  split
  ·exact goes_app x l m _ _
  ·rfl
theorem seen_root (x:Inst):x.rootS.seenAt:=by
 unfold Inst.rootS
 split<;>exact .inl rfl
theorem end_cost {x:Inst} {s:State} (h:(x.endS s).2=true):0≤(x.endS s).1∧(x.endS s).1≤14143:=by
 obtain ⟨_,h | h⟩:=end_is h
 ·rw [h.2.2];omega
 ·rw [h.2.2.2.2.2];exact far_le _ _
theorem ints_one (l:List Int):∀y∈ints l,y.length=1:=by
 intro y hy
 simp only [ints,List.mem_map] at hy
 obtain ⟨n,_,rfl⟩:=hy
 rfl
end Go.Proofs.YtnoifgjiipgpoaaGreatDoor

set_option maxRecDepth 4000
namespace Go.Proofs.YtnoifgjiipgpoaaGreatDoor
open Go Go.Proofs.YtnoifgjiipgpoaaGreatDoor.R
theorem clone_spec (l:List Int) (hl:l.length<4294967296) (σ:Nat→AObj) (nx:Nat):CallSpec P 93 [.t (.sl (ints l))] σ nx (.ref nx) (oput σ nx (.arr 1 (ints l))) (nx+1):=by
 refine CallQ.spec (spec_of Tryz.func93 rfl rfl (by simp [Tryz.f93]) fun B hB hnx hσ=>K_after ?_)
 simp only [Tryz.f93] at hB ⊢
 have hil:(ints l).length=l.length:=List.length_map _
 have hne:ints l=[]↔l=[]:=by simp [ints]
 have h1:=ints_one l
 have hmost:l.length≤mostLen:=by show l.length≤4294967296;omega
 refine K_run hB 100 ?_
 simp [go_sem]
 refine K_nilEq (es:=ints l) rfl rfl (by simp [go_sem,hB]) tt77 rfl (by simp [go_sem]) fun b hb=>?_
 cases b with
 |true=>
  have e:l=[]:=Decidable.byContradiction fun h=>by have:=hb (fun h'=>h (hne.1 h'));cases this
  have e2:ints l=[]:=hne.2 e
  refine K_run hB 100 ?_
  simp [go_sem]
  refine ⟨_,fun a w hr=>rel_own (t:=2) (sz:=1) (by simp [go_sem]) hr,?_⟩
  simp [go_sem,e2]
 |false=>
  refine K_run hB 100 ?_
  simp [go_sem,hil,hne,hmost,if_pos h1]
  refine ⟨_,Imp.self,?_⟩
  simp [go_sem]
theorem own_pure (n:Node) (hl:n.path.length<4294967296):Pure P 185 [n.a] (n.a):=by
 refine pure_of Tryz.func185 rfl rfl (by simp [Tryz.f185]) (by simp [bnd,bnd.bndL,Node.a,Node.cs]) (by simp [bnd,bnd.bndL,Node.a,Node.cs]) fun B hB hnx=>?_
 simp only [Tryz.f185] at hB ⊢
 refine K_run hB 100 ?_
 simp [go_sem,Node.a,Node.cs]
 refine K_call rfl rfl rfl (args:=[.t (.sl (ints n.path))]) (f:=93) (by simp [go_sem]) (by simp [go_sem,hB]) (clone_spec n.path hl _ _) ?_
 refine K_run hB 100 ?_
 simp [go_sem]
end Go.Proofs.YtnoifgjiipgpoaaGreatDoor

set_option maxRecDepth 4000
set_option maxHeartbeats 1000000
namespace Go.Proofs.YtnoifgjiipgpoaaGreatDoor
open Go Go.Proofs.YtnoifgjiipgpoaaGreatDoor.R
def firstI (r:List Int):Int:=r.getD 0 0
def KP (e:List T):Prop:=∃r:List Int,r≠[]∧e=rowT r
def κp (e:List T):Int:=match e with
 |[.sl ([.v (.int _ k)] :: _)]=>k
 |_=>0
theorem κp_at (r:List Int):κp (rowT r)=firstI r:=by
 cases r<;>rfl
theorem KP.len {e:List T} (h:KP e):e.length=1:=by
 obtain ⟨r,_,rfl⟩:=h
 rfl
theorem pcmp_pure (a b:List Int) (ha:a≠[]) (hb:b≠[]):Pure P 95 [.t (.sl (ints a)),.t (.sl (ints b))] (.i (cmpI (firstI a) (firstI b))):=by
 cases a with
 |nil=>exact absurd rfl ha
 |cons u a=>
  cases b with
  |nil=>exact absurd rfl hb
  |cons v b=>
   have hc:=cmp_pure u v
   show R.Pure P _ _ (.i (cmpI u v))
   refine pure_of Tryz.func95 rfl rfl (by simp [Tryz.f95]) (by simp [bnd,bnd.bndL]) (by simp [bnd,bnd.bndL]) fun B hB hnx=>?_
   simp only [Tryz.f95] at hB ⊢
   refine K_run hB 100 ?_
   simp [go_sem]
   refine K_drawn [] rfl (by rw [hB];kernel_rfl) ?_
   refine K_run hB 100 ?_
   simp [go_sem,ints]
   refine K_dCallP rfl rfl rfl (args:=[.i u,.i v]) (f:=96) (by simp [go_sem]) (hc) ?_
   refine K_run hB 100 ?_
   simp [go_sem]
abbrev cmpP:AV:=.fn (.func 95) [] []
structure TwoP (S:List (List T)) (u v:Nat) (x y:List T):Prop where
 hu:u<S.length
 hv:v<S.length
 gu:∀h:u<S.length,S[u]'h=x
 gv:∀h:v<S.length,S[v]'h=y
 lx:x.length=1
 ly:y.length=1
theorem two_farP {X Y Z:List (List T)} {x y:List T} (hx:x.length=1) (hy:y.length=1):TwoP (X++x :: (Y++y :: Z)) X.length (X.length+1+Y.length) x y:=by
 have h1:=far_get1 X Y Z x y
 have h2:=far_get2 X Y Z x y
 have l1:X.length<(X++x :: (Y++y :: Z)).length:=by simp
 have l2:X.length+1+Y.length<(X++x :: (Y++y :: Z)).length:=by simp;omega
 refine ⟨l1,l2,fun h=>?_,fun h=>?_,hx,hy⟩
 ·rw [List.getElem?_eq_getElem h] at h1
  exact Option.some.inj h1
 ·rw [List.getElem?_eq_getElem h] at h2
  exact Option.some.inj h2
theorem pinsert_spec (pre mid post:List (List T)) (hK:∀e∈mid,KP e) (hL:∀e∈pre++(mid++post),e.length=1) (hbig:(pre++(mid++post)).length<2^31) {σ:Nat→AObj} {nx q:Nat} (hq:q<nx) (hσq:σ q= .arr 1 (pre++(mid++post))):
  CallSpec P 195 [.ref q,.i pre.length,.i (pre.length+mid.length:Nat),cmpP] σ nx (.tup []) (oput σ q (.arr 1 (pre++(isort κp mid++post)))) nx:=by
 refine spec_down Tryz.func195 rfl rfl (by simp [Tryz.f195]) hq (by simp [bndO]) (by simp [bnd,bnd.bndL]) fun hk B hB hnx hσ=>?_
 simp only [Tryz.f195] at hB ⊢
 simp only [List.length_append] at hbig
 have w1:IntKind.i64.wrap ((pre.length:Int)+1)=((pre.length+1:Nat):Int):=by rw [w64 _ (by omega)];omega
 have h1s:isort κp (mid.take 1)=mid.take 1:=by
  cases mid with
  |nil=>rfl
  |cons x l=>exact isort_self (List.pairwise_singleton _ _)
 have hσ0:oput σ q (.arr 1 (pre++(isort κp (mid.take 1)++(mid.drop 1++post))))=σ:=by
  rw [h1s,←List.append_assoc (mid.take 1),List.take_append_drop,←hσq]
  exact oput_self rfl
 refine K_run hB 100 ?_
 simp [go_sem,w1]
 refine K_loopP (α:=Nat) (fun k=>1≤k∧k≤mid.length+1)
  (fun k=>⟨sl [(0,.ref q),(1,.i pre.length),(2,.i (pre.length+mid.length:Nat)),(3,cmpP),(8,.i (pre.length+k:Nat))],oput σ q (.arr 1 (pre++(isort κp (mid.take k)++(mid.drop k++post)))),nx⟩) (fun k=>mid.length+1-k) 1 ⟨by omega,by omega⟩ (Imp.slots (by simp [go_sem]) hσ0 rfl) ?_
 rintro k ⟨g1,g2⟩
 by_cases hk:k<mid.length
 rotate_left
 ·have hk':¬((pre.length:Int)+k<pre.length+mid.length):=by omega
  refine K_run hB 60 ?_
  simp [go_sem,hk']
  rw [List.take_of_length_le (by omega),List.drop_eq_nil_of_le (by omega)]
  simp only [List.nil_append]
  exact ⟨trivial,fun j h1 h2 h3=>absurd h3 h2⟩
 have hk':(pre.length:Int)+k<pre.length+mid.length:=by omega
 refine K_run hB 60 ?_
 simp [go_sem,hk']
 have hKx:=hK mid[k] (List.getElem_mem hk)
 have htk:isort κp (mid.take (k+1))=insK κp mid[k] (isort κp (mid.take k)):=by rw [List.take_succ_eq_append_getElem hk,isort_snoc]
 have hdk:=List.drop_eq_getElem_cons hk
 have hsl:(isort κp (mid.take k)).length=k:=by rw [isort_len,List.length_take];omega
 have hsK:∀e∈isort κp (mid.take k),KP e:=fun e he=>hK e (List.mem_of_mem_take (isort_mem.1 he))
 have hss:=(isort_sort (κ:=κp) (mid.take k)).srt
 have hii:IntKind.i64.wrap ((pre.length:Int)+k+1)=(pre.length:Int)+(k+1:Nat):=by rw [w64 _ (by omega)];omega
 rw [hdk]
 generalize mid[k]=x at *
 have hLx:=hKx.len
 generalize isort κp (mid.take k)=s at *
 obtain ⟨Fl,hFl⟩:∃Fl:List (List T)→List (List T)→List (List T),∀u v,Fl u v=pre++(u++x :: (v++(mid.drop (k+1)++post))):=⟨_,fun _ _=>rfl⟩
 refine K_loopP (α:=List (List T)×List (List T)) (fun (u,v)=>u++v=s∧∀e∈v,κp x<κp e)
  (fun (u,v)=>⟨sl [(0,.ref q),(1,.i pre.length),(2,.i (pre.length+mid.length:Nat)),(3,cmpP),(8,.i (pre.length+k:Nat)),(9,.i (pre.length+u.length:Nat))],oput σ q (.arr 1 (Fl u v)),nx⟩) (fun (u,v)=>u.length) (s,[]) ⟨List.append_nil _,fun e he=>by cases he⟩ (Imp.slots (by simp [go_sem,hsl]) (by simp [hFl]) rfl) ?_
 rintro ⟨u,v⟩ ⟨i1,i2⟩
 have leave:(∀e∈u,κp e≤κp x)→isort κp (mid.take (k+1))=u++x :: v:=fun hu=>by rw [htk,←i1,insK_split hu i2]
 have hul:u.length≤k:=by rw [←hsl,←i1,List.length_append];omega
 rcases List.eq_nil_or_concat u with rfl | ⟨u',y,rfl⟩
 ·have hlv:=leave (fun e he=>by cases he)
  refine K_run hB 100 ?_
  simp [go_sem]
  refine K_drawn [] rfl (by rw [hB];kernel_rfl) ?_
  refine K_run hB 100 ?_
  simp [go_sem,hii]
  exact Next.mk (k+1) ⟨by omega,by omega⟩ (Imp.slots (by simp [go_sem]) (by rw [hlv];simp [hFl]) rfl) (by omega)
 ·rw [List.concat_eq_append] at *
  have hyK:KP y:=hsK y (by rw [←i1];simp)
  have hLy:=hyK.len
  have hul':u'.length+1≤k:=by simpa using hul
  have hS:Fl (u'++[y]) v=(pre++u')++y :: x :: (v++(mid.drop (k+1)++post)):=by simp [hFl]
  have hS':Fl u' (y :: v)=(pre++u')++x :: y :: (v++(mid.drop (k+1)++post)):=by simp [hFl]
  have htwo:=two_farP (X:=pre++u') (Y:=[]) (Z:=v++(mid.drop (k+1)++post)) hLy hLx
  have hset:=near_set2 (pre++u') (v++(mid.drop (k+1)++post)) y x
  simp only [List.nil_append,List.length_nil,Nat.add_zero] at htwo
  rw [←hS] at htwo hset
  rw [←hS'] at hset
  obtain ⟨a,ha⟩:∃a,a=(pre++u').length:=⟨_,rfl⟩
  have ha2:a=pre.length+u'.length:=by rw [ha,List.length_append]
  rw [←ha] at htwo hset
  obtain ⟨b,hb⟩:∃b,b=a+1:=⟨_,rfl⟩
  rw [←hb] at htwo hset
  obtain ⟨t1,t2,t3,t4,t5,t6⟩:=htwo
  have hne:¬a=b:=by omega
  have hne':¬b=a:=by omega
  obtain ⟨rx,hrx,rfl⟩:=hKx
  obtain ⟨ry,hry,rfl⟩:=hyK
  have w3:IntKind.i64.wrap ((b:Int)-1)=(a:Int):=by rw [w64 _ (by omega)];omega
  have w4:(pre.length:Int)+(u'.length+1)=(b:Int):=by omega
  have hcm:=pcmp_pure rx ry hrx hry
  have hneg:=cmpI_neg (firstI rx) (firstI ry)
  refine K_run hB 100 ?_
  simp [go_sem]
  generalize hSS:Fl (u'++[rowT ry]) v=S at *
  refine K_drawn [] rfl (by rw [hB];kernel_rfl) ?_
  refine K_run hB 100 ?_
  simp [go_sem,t1,t2,t3,t4,w3,w4,rowT,Nat.mod_one,show pre.length<b by omega,show (pre.length:Int)<(b:Int) by omega]
  refine K_dCallP rfl rfl rfl (args:=[.t (.sl (ints rx)),.t (.sl (ints ry))]) (f:=95) (by simp [go_sem]) (hcm) ?_
  by_cases c1:firstI rx<firstI ry
  ·refine K_run hB 100 ?_
   simp [go_sem,hneg,c1]
   refine K_drawnF [15,17] [2,3,4] rfl (by rw [hB];kernel_rfl) (by kernel_rfl) fun ht hf'=>?_
   refine K_run hB 100 ?_
   simp [go_sem,ht,hf',t1,t2,t3,t4,rowT,Nat.mod_one,setCells,hne,hne',w3,w4]
   refine Next.mk (u',rowT ry :: v) ⟨by rw [←i1];simp,fun e he=>?_⟩ (Imp.slots (by simp [go_sem,ha2]) ?_ rfl) (by simp)
   ·rcases List.mem_cons.1 he with rfl | he
    ·show κp (rowT rx)<κp (rowT ry)
     rw [κp_at,κp_at];exact c1
    ·exact i2 e he
   ·rw [←hset]
    funext j
    by_cases e:j=q<;>simp [oput,e,rowT]
  ·have hlv:=leave fun e he=>by
    have hyx:κp (rowT ry)≤κp (rowT rx):=by rw [κp_at,κp_at];omega
    rcases List.mem_append.1 he with he | he
    ·rw [←i1,Srt,List.pairwise_append,List.pairwise_append] at hss
     have:=hss.1.2.2 e he (rowT ry) (by simp)
     omega
    ·rw [List.mem_singleton.1 he];exact hyx
   refine K_run hB 100 ?_
   simp [go_sem,hneg,c1,hii]
   refine Next.mk (k+1) ⟨by omega,by omega⟩ (Imp.slots (by simp [go_sem]) ?_ rfl) (by omega)
   rw [←hSS,hFl,hlv]
   simp
theorem pstable_spec (l:List (List T)) (hK:∀e∈l,KP e) (hbig:l.length<20) {σ:Nat→AObj} {nx q:Nat} (hq:q<nx) (hσq:σ q= .arr 1 l):
  CallSpec P 142 [.ref q,.i l.length,cmpP] σ nx (.tup []) (oput σ q (.arr 1 (isort κp l))) nx:=by
 have hs:=pinsert_spec [] l [] hK (fun e he=>(hK e (by simpa using he)).len) (by simp;omega) (σ:=σ) (nx:=nx) (q:=q) hq (by simpa using hσq)
 simp only [List.length_nil,List.nil_append,List.append_nil,Nat.zero_add] at hs
 refine CallQ.spec (spec_of Tryz.func142 rfl rfl (by simp [Tryz.f142]) fun B hB hnx hσ=>?_)
 simp only [Tryz.f142] at hB ⊢
 have c1:¬(20:Int)≤l.length:=by omega
 have c2:¬(20:Int)<l.length:=by omega
 generalize l.length=n at *
 refine K_run hB 100 ?_
 simp [go_sem]
 refine K_loopP (α:=Unit) (fun _=>True) (fun _=>⟨sl [(0,.ref q),(1,.i n),(2,cmpP),(6,.i 20),(7,.i 0),(8,.i 20)],σ,nx⟩) (fun _=>0) () trivial (Imp.slots (by simp [go_sem]) rfl rfl) ?_
 intro _ _
 refine K_run hB 60 ?_
 simp [go_sem,c1]
 refine K_call rfl rfl rfl (args:=[.ref q,.i 0,.i n,cmpP]) (f:=195) (by simp [go_sem]) (by simp [go_sem,hB]) hs ?_
 refine K_run hB 100 ?_
 simp [go_sem]
 refine K_loopP (α:=Unit) (fun _=>True) (fun _=>⟨sl [(0,.ref q),(1,.i n),(2,cmpP),(6,.i 20)],oput σ q (.arr 1 (isort κp l)),nx⟩) (fun _=>0) () trivial (Imp.slots (by simp [go_sem]) rfl rfl) ?_
 intro _ _
 refine K_run hB 60 ?_
 simp [go_sem,c2]
theorem psort_spec (l:List (List T)) (hK:∀e∈l,KP e) (hbig:l.length<20) {σ:Nat→AObj} {nx q:Nat} (hq:q<nx) (hσq:σ q= .arr 1 l):
  CallSpec P 94 [.ref q,cmpP] σ nx (.tup []) (oput σ q (.arr 1 (isort κp l))) nx:=by
 have hs:=pstable_spec l hK hbig hq hσq
 refine CallQ.spec (spec_of Tryz.func94 rfl rfl (by simp [Tryz.f94]) fun B hB hnx hσ=>?_)
 simp only [Tryz.f94] at hB ⊢
 refine K_run hB 100 ?_
 simp [go_sem,hσq]
 refine K_call rfl rfl rfl (args:=[.ref q,.i l.length,cmpP]) (f:=142) (by simp [go_sem]) (by simp [go_sem,hB]) hs ?_
 refine K_run hB 100 ?_
 simp [go_sem]
def usedR (l:List (List Int)):List (List Int):=l.filter fun r=>decide (r≠[])
def sortR (l:List (List Int)):List (List Int):=isort firstI (usedR l)
theorem sortR_rows (l:List (List Int)):isort κp ((usedR l).map rowT)=(sortR l).map rowT:=by
 rw [sortR,show firstI=fun r=>κp (rowT r) from funext fun r=>(κp_at r).symm]
 exact (isort_map (κ:=κp) rowT (usedR l)).symm
theorem usedR_snoc (l:List (List Int)) {k:Nat} (h:k<l.length):usedR (l.take (k+1))=usedR (l.take k)++(if l[k]=[] then [] else [l[k]]):=by
 rw [List.take_succ_eq_append_getElem h,usedR,usedR,List.filter_append]
 congr 1
 by_cases c:l[k]=[]
 ·rw [if_pos c];simp [c]
 ·rw [if_neg c];simp [c]
theorem usedR_len (l:List (List Int)) (k:Nat):(usedR (l.take k)).length≤(usedR l).length:=
 ((List.take_sublist k l).filter _).length_le
theorem psorted_pure (l:List (List Int)) (hl:l.length<2^31) (hr:∀r∈l,r.length<4294967296) (hu:(usedR l).length<20):Pure P 54 [.agg [.t (.sl (l.map rowT))]] (.agg [.t (.sl ((sortR l).map rowT))]):=by
 rw [←sortR_rows]
 refine pure_of Tryz.func54 rfl rfl (by simp [Tryz.f54]) (by simp [bnd,bnd.bndL]) (by simp [bnd,bnd.bndL]) fun B hB hnx=>?_
 simp only [Tryz.f54] at hB ⊢
 have hll:(l.map rowT).length=l.length:=List.length_map _
 refine K_run hB 100 ?_
 simp [go_sem]
 refine K_own 3 1 (by simp [go_sem]) ?_
 refine K_loopP (α:=Nat×Nat×(Nat→AObj)×Nat) (fun (k,a,τ,m)=>k≤l.length∧τ 1= .box [.fsl []]∧τ a= .arr 1 ((usedR (l.take k)).map rowT)∧1<a∧a<m) (fun (k,a,τ,m)=>⟨sl [(2,.ptr 1 0),(3,.ref a),(7,.t (.sl (l.map rowT))),(8,.i l.length),(9,.i k)],τ,m⟩) (fun a=>l.length-a.1) (0,2,_,3) ⟨Nat.zero_le _,by simp [oput],by simp [oput,usedR],by decide,by decide⟩ (Imp.slots (by simp [go_sem]) rfl rfl) ?_
 rintro ⟨k,a,τ,m⟩ ⟨g1,g2,g3,g4,g5⟩
 have n1:¬1=m:=by omega
 have n2:¬a=m:=by omega
 have n3:¬1=a:=by omega
 have n4:¬1=m+1:=by omega
 have n5:¬a=1:=by omega
 by_cases hk:k<l.length
 ·have hkk:IntKind.i64.wrap ((k:Int)+1)=((k+1:Nat):Int):=by rw [w64 ((k:Int)+1) (by omega)];rfl
  have hget:∀h,(l.map rowT)[k]'h=rowT l[k]:=fun h=>by simp
  have hrs:=usedR_snoc l hk
  have hrl:=hr l[k] (List.getElem_mem _)
  have hcl:=clone_spec l[k] hrl
  have hul:=usedR_len l k
  have h1:∀y∈(usedR (l.take k)).map rowT,y.length=1:=by
   intro y hy
   obtain ⟨_,_,rfl⟩:=List.mem_map.1 hy
   rfl
  have hlen:((usedR (l.take k)).map rowT).length=(usedR (l.take k)).length:=List.length_map _
  have hcap:(usedR (l.take k)).length+1≤mostLen:=by show _≤4294967296;omega
  generalize l[k]=r at *
  generalize usedR (l.take k)=U at *
  by_cases c:r=[]
  ·rw [if_pos c,List.append_nil] at hrs
   subst c
   refine K_run hB 60 ?_
   simp [go_sem,hll,hk,hget,rowT,ints,hkk]
   exact Next.mk (k+1,a,τ,m) ⟨by omega,g2,by simp only;rw [hrs];exact g3,g4,g5⟩ (Imp.slots (by simp [go_sem]) rfl rfl) (by simp only;omega)
  ·rw [if_neg c] at hrs
   have hp:0<r.length:=List.length_pos_iff.2 c
   have hil:(ints r).length=r.length:=List.length_map _
   refine K_run hB 60 ?_
   simp [go_sem,hll,hk,hget,rowT,hil,hp]
   refine K_call rfl rfl rfl (args:=[.t (.sl (ints r))]) (f:=93) (by simp [go_sem]) (by simp [go_sem,hB]) (hcl _ _) ?_
   refine K_run hB 60 ?_
   simp [go_sem]
   refine K_imp ((Imp.freeze (q:=m) (sz:=1) (es:=ints r) (by simp [oput])).trans (Imp.slots (l:=[(2,.ptr 1 0),(3,.ref a),(7,.t (.sl (l.map rowT))),(8,.i l.length),(9,.i k),(16,.ref a),(18,.t (.sl (ints r)))]) (by simp [go_sem,frz1,n2]) rfl rfl)) ?_
   generalize (usedR l).length=UL at *
   refine K_run hB 60 ?_
   simp [go_sem,frzO,g3,n2,hlen,h1,hcap,hkk]
   refine Next.mk (k+1,m+1,_,m+2) ⟨by omega,?_,?_,by simp only;omega,by simp only;omega⟩ (Imp.slots (by simp [go_sem]) rfl rfl) (by simp only;omega)
   ·simp [oput,frzO,frz1.frzL,frz1,g2,n1,n3,n4,show ¬m=0 by omega]
   ·simp [oput,hrs,rowT]
 ·have:k=l.length:=by omega
  subst this
  rw [List.take_length] at g3
  have hsp:=psort_spec ((usedR l).map rowT) (fun e he=>by
   obtain ⟨r,hr,rfl⟩:=List.mem_map.1 he
   refine ⟨r,?_,rfl⟩
   have:=(List.mem_filter.1 hr).2
   exact of_decide_eq_true this) (by rw [List.length_map];exact hu) (σ:=τ) (nx:=m) (q:=a) (by omega) g3
  refine K_run hB 60 ?_
  simp [go_sem,hll]
  refine K_call rfl rfl rfl (args:=[.ref a,cmpP]) (f:=94) (by simp [go_sem]) (by simp [go_sem,hB]) hsp ?_
  refine K_run hB 100 ?_
  simp [go_sem,g2,n3,n5]
end Go.Proofs.YtnoifgjiipgpoaaGreatDoor

set_option maxRecDepth 4000
set_option maxHeartbeats 1000000
namespace Go.Proofs.YtnoifgjiipgpoaaGreatDoor
open Go Go.Proofs.YtnoifgjiipgpoaaGreatDoor.R
structure Digits (l:List (List Int)):Prop where
 len:l.length≤20
 row:∀r∈l,r.length≤100∧∀n∈r,0≤n∧n<10
theorem print_pure (l:List (List Int)) (hD:Digits l):Pure P 63 [.t (.sl (l.map rowT))] (.t (.sl (byt (printB l)))):=by
 have hlen:=hD.len
 have hpl:=fun k=>printB_len (K:=100) (l.take k) fun r hr=>(hD.row r (List.mem_of_mem_take hr)).1
 refine pure_of Tryz.func63 rfl rfl (by simp [Tryz.f63]) (by simp [bnd,bnd.bndL]) (by simp [bnd,bnd.bndL]) fun B hB hnx=>?_
 simp only [Tryz.f63] at hB ⊢
 have hll:(l.map rowT).length=l.length:=List.length_map _
 refine K_run hB 100 ?_
 simp [go_sem,hll]
 refine K_own 3 1 (by simp [go_sem]) ?_
 refine K_loopP (α:=Nat×Nat×(Nat→AObj)×Nat) (fun (k,a,τ,m)=>k≤l.length∧τ a= .arr 1 (byt (printB (l.take k)))∧a<m) (fun (k,a,τ,m)=>⟨sl [(3,.ref a),(8,.t (.sl (l.map rowT))),(9,.i l.length),(10,.i k)],τ,m⟩) (fun a=>l.length-a.1) (0,0,_,1) ⟨Nat.zero_le _,by simp [oput,printB,byt],by decide⟩ (Imp.slots (by simp [go_sem]) rfl rfl) ?_
 rintro ⟨k,a,τ,m⟩ ⟨g1,g2,g3⟩
 by_cases hk:k<l.length
 rotate_left
 ·have:k=l.length:=by omega
  subst this
  rw [List.take_length] at g2
  generalize byt (printB l)=rows at *
  refine K_run hB 100 ?_
  simp [go_sem,hll,g2]
 have hkk:IntKind.i64.wrap ((k:Int)+1)=((k+1:Nat):Int):=by rw [w64 ((k:Int)+1) (by omega)];rfl
 have hget:∀h,(l.map rowT)[k]'h=rowT l[k]:=fun h=>by simp
 have hps:=printB_snoc l hk
 have hp:=hpl k
 obtain ⟨hrl,hrn⟩:=hD.row l[k] (List.getElem_mem _)
 have htl:(l.take k).length≤20:=by rw [List.length_take];omega
 have hP:(printB (l.take k)).length≤5000:=by
  have:(2*100+1)*(l.take k).length≤(2*100+1)*20:=Nat.mul_le_mul_left _ htl
  omega
 clear hp htl
 generalize l[k]=r at *
 generalize printB (l.take k)=P at *
 have hil:(ints r).length=r.length:=List.length_map _
 refine K_run hB 60 ?_
 simp [go_sem,hll,hk,hget,rowT,hil]
 refine K_loopP (α:=Nat×Nat×(Nat→AObj)×Nat) (fun (i,b,τ',m')=>i≤r.length∧τ' b= .arr 1 (byt (P++partB (r.take i)))∧b<m') (fun (i,b,τ',m')=>⟨sl [(3,.ref b),(5,.t (.sl (ints r))),(8,.t (.sl (l.map rowT))),(9,.i l.length),(10,.i k),(14,.t (.sl (ints r))),(15,.i r.length),(16,.i i)],τ',m'⟩) (fun a=>r.length-a.1) (0,a,τ,m) ⟨Nat.zero_le _,by simp [partB,g2],g3⟩ (Imp.slots (by simp [go_sem]) rfl rfl) ?_
 clear g2 g3
 rintro ⟨i,b,τ',m'⟩ ⟨i1,i2,i3⟩
 have hpb:=partB_len (r.take i)
 rw [List.length_take] at hpb
 by_cases hi:i<r.length
 ·have hii:IntKind.i64.wrap ((i:Int)+1)=((i+1:Nat):Int):=by rw [w64 ((i:Int)+1) (by omega)];rfl
  have hgi:=ints_getS r hi
  have hsn:=partB_snoc (r.take i) r[i]
  rw [←List.take_succ_eq_append_getElem hi] at hsn
  obtain ⟨n0,n1⟩:=hrn r[i] (List.getElem_mem _)
  generalize r[i]=n at *
  obtain ⟨c,rfl⟩:∃c:Nat,n=c:=⟨n.toNat,by omega⟩
  rw [Int.toNat_natCast] at hsn
  have hln:(P++partB (r.take i)).length≤5300:=by rw [List.length_append];omega
  generalize partB (r.take i)=Q at *
  have hbl:(byt (P++Q)).length=(P++Q).length:=List.length_map _
  have hone:=byt_one (P++Q)
  by_cases h0:i=0
  ·subst h0
   rw [List.take_zero,if_pos rfl,List.append_nil] at hsn
   have hsp:=aint_spec c (by omega) (P++Q) (by omega) (σ:=τ') (nx:=m') i3 i2
   refine K_run hB 60 ?_
   simp [go_sem,hil,hi,hgi]
   refine K_call rfl rfl rfl (args:=[.ref b,.i c,.i 10]) (f:=110) (by simp [go_sem]) (by simp [go_sem,hB]) hsp ?_
   refine K_run hB 60 ?_
   simp [go_sem,w64 1 (by omega)]
   refine Next.mk (1,m',_,m'+1) ⟨by omega,?_,by simp only;omega⟩ (Imp.slots (by simp [go_sem]) rfl rfl) (by simp only;omega)
   simp only
   rw [hsn]
   simp [oput]
  ·have hi0:0<i:=by omega
   have hne:¬r.take i=[]:=fun e=>by
    have:=congrArg List.length e
    rw [List.length_take,List.length_nil] at this
    omega
   rw [if_neg hne] at hsn
   have hcap:(P++Q).length+1≤mostLen:=by show _≤4294967296;omega
   have hsp:=aint_spec c (by omega) (P++Q++[32]) (by simp only [List.length_append,List.length_cons,List.length_nil] at *;omega) (σ:=oput (oput τ' b .dead) m' (.arr 1 (byt (P++Q++[32])))) (nx:=m'+1) (q:=m') (by omega) (by simp [oput])
   rw [byt_snoc (P++Q)] at hsp
   generalize hPQ:P++Q=U at *
   generalize byt U=rows at *
   generalize U.length=N at *
   refine K_run hB 60 ?_
   simp [go_sem,hil,hi,hgi,hi0,i2,hbl,hone,hcap]
   refine K_call rfl rfl rfl (args:=[.ref m',.i c,.i 10]) (f:=110) (by simp [go_sem]) (by simp [go_sem,hB]) hsp ?_
   refine K_run hB 60 ?_
   simp [go_sem,hii]
   refine Next.mk (i+1,m'+1,_,m'+1+1) ⟨by omega,?_,by simp only;omega⟩ (Imp.slots (by simp [go_sem]) rfl rfl) (by simp only;omega)
   simp only
   rw [hsn,←List.append_assoc,←List.append_assoc,hPQ]
   simp [oput]
 ·have:i=r.length:=by omega
  subst this
  rw [List.take_length] at i2 hpb
  by_cases h0:r=[]
  ·have hz:¬0<r.length:=by rw [h0];simp
   have hlb:lineB r=[]:=if_pos h0
   have hpn:partB r=[]:=by rw [h0];rfl
   rw [hpn,List.append_nil] at i2
   rw [hlb,List.append_nil] at hps
   refine K_run hB 60 ?_
   simp [go_sem,hil,hz,hkk]
   exact Next.mk (k+1,b,τ',m') ⟨by omega,by simp only;rw [hps];exact i2,i3⟩ (Imp.slots (by simp [go_sem]) rfl rfl) (by simp only;omega)
  ·have hz:0<r.length:=List.length_pos_iff.2 h0
   have hlb:lineB r=partB r++[10]:=if_neg h0
   rw [hlb,←List.append_assoc] at hps
   have hln:(P++partB r).length≤5300:=by rw [List.length_append];omega
   have hbl:(byt (P++partB r)).length=(P++partB r).length:=List.length_map _
   have hone:=byt_one (P++partB r)
   have hcap:(P++partB r).length+1≤mostLen:=by show _≤4294967296;omega
   have hsn:=byt_snoc (P++partB r) 10
   generalize P++partB r=U at *
   rw [←hps] at hsn
   generalize byt U=rows at *
   generalize U.length=N at *
   refine K_run hB 60 ?_
   simp [go_sem,hil,hz,i2,hbl,hone,hcap,hkk]
   refine Next.mk (k+1,m',_,m'+1) ⟨by omega,?_,by simp only;omega⟩ (Imp.slots (by simp [go_sem]) rfl rfl) (by simp only;omega)
   simp [oput,hsn]
theorem sortR_mem {l:List (List Int)} {r:List Int}:r∈sortR l↔r∈l∧r≠[]:=by
 rw [sortR,isort_mem,usedR,List.mem_filter,decide_eq_true_eq]
theorem sortR_len (l:List (List Int)):(sortR l).length≤l.length:=by
 rw [sortR,isort_len]
 exact List.length_filter_le _ _
theorem Digits.sort {l:List (List Int)} (h:Digits l):Digits (sortR l):=
 ⟨by have:=sortR_len l;have:=h.len;omega,fun r hr=>h.row r (sortR_mem.1 hr).1⟩
theorem pprint_pure (l:List (List Int)) (hD:Digits l) (hu:l.length<20):Pure P 64 [.agg [.t (.sl (l.map rowT))]] (.t (.sl (byt (printB (sortR l))))):=by
 have hs:=psorted_pure l (by omega) (fun r hr=>by have:=(hD.row r hr).1;omega) (by have:=List.length_filter_le (fun r:List Int=>decide (r≠[])) l;unfold usedR;omega)
 have hp:=print_pure (sortR l) hD.sort
 refine pure_of Tryz.func64 rfl rfl (by simp [Tryz.f64]) (by simp [bnd,bnd.bndL]) (by simp [bnd,bnd.bndL]) fun B hB hnx=>?_
 simp only [Tryz.f64] at hB ⊢
 refine K_run hB 100 ?_
 simp [go_sem]
 refine K_call rfl rfl rfl (args:=[.agg [.t (.sl (l.map rowT))]]) (f:=54) (by simp [go_sem]) (by simp [go_sem,hB]) ((hs).spec _ _) ?_
 refine K_run hB 100 ?_
 simp [go_sem]
 refine K_call rfl rfl rfl (args:=[.t (.sl ((sortR l).map rowT))]) (f:=63) (by simp [go_sem]) (by simp [go_sem,hB]) ((hp).spec _ _) ?_
 refine K_run hB 100 ?_
 simp [go_sem]
end Go.Proofs.YtnoifgjiipgpoaaGreatDoor

set_option maxRecDepth 4000
namespace Go.Proofs.YtnoifgjiipgpoaaGreatDoor
open Go Go.Proofs.YtnoifgjiipgpoaaGreatDoor.R
def digsV:List Nat→Nat→Option Nat
 |[],n=>some n
 |c :: l,n=>if digB c=true then digsV l (10*n+(c-48)) else none
def isNeg (w:List Nat):Bool:=decide (w.head? =some 45)
def unsign (w:List Nat):List Nat:=if isNeg w=true then w.drop 1 else w
def wordV (w:List Nat):Option Int:=
 if (unsign w).length<1∨12<(unsign w).length then none else (digsV (unsign w) 0).map fun (n:Nat)=>if isNeg w=true then -(n:Int) else (n:Int)
def wordE (out:List Int) (w:List Nat):Option (List Int):=if w=[] then some out else (wordV w).map fun n=>out++[n]
def rowD:List Nat→List Int→List Nat→Option (List Int)
 |[],out,w=>wordE out w
 |c :: s,out,w=>if c=35 then wordE out w else if c=32 then (wordE out w).bind fun o=>rowD s o [] else rowD s out (w++[c])
def rowE (out:List (List Int)) (b:List Nat):Option (List (List Int)):=(rowD b [] []).map fun l=>if l=[] then out else out++[l]
def segsD:List Nat→List (List Int)→List Nat→Option (List (List Int))
 |[],out,b=>rowE out b
 |c :: s,out,b=>if c=10 then (rowE out b).bind fun o=>segsD s o [] else segsD s out (b++[c])
def linesD (b:List Nat):List (List Int)×Int:=if 4096<b.length then ([],6) else match segsD b [] [] with
 |none=>([],2)
 |some a=>(a,0)
def sepB (c:Nat):Prop:=c=32∨c=35∨c=10
theorem drop_now {b:List Nat} {i c:Nat} {s:List Nat} (h:b.drop i=c :: s):nowN b i=c∧b.drop (i+1)=s∧i<b.length:=by
 have hi:i<b.length:=by
  by_cases hi:i<b.length
  ·exact hi
  ·rw [List.drop_eq_nil_of_le (by omega)] at h;cases h
 rw [List.drop_eq_getElem_cons hi] at h
 obtain ⟨h1,h2⟩:=List.cons.inj h
 exact ⟨by rw [nowN,List.getD_eq_getElem?_getD,List.getElem?_eq_getElem hi];exact h1,h2,hi⟩
theorem drop_nil {b:List Nat} {i:Nat} (h:b.drop i=[]):nowN b i=10:=nowN_out (List.drop_eq_nil_iff.1 h)
def Ends10 (t:List Nat):Prop:=t=[]∨∃s,t=10 :: s
theorem ends_now {b:List Nat} {i:Nat} {t:List Nat} (h:b.drop i=t) (ht:Ends10 t):nowN b i=10:=by
 rcases ht with rfl | ⟨s,rfl⟩
 ·exact drop_nil h
 ·exact (drop_now h).1
theorem drop_add' {b:List Nat} {i:Nat}:∀{w t:List Nat},b.drop i=w++t→b.drop (i+w.length)=t:=by
 intro w t h
 rw [←List.drop_drop,h,List.drop_left]
theorem digR_word {b:List Nat} {t:List Nat}:∀(w:List Nat) (fuel i n d:Nat),(∀c∈w,¬sepB c)→b.drop i=w++t→sepB (nowN b (i+w.length))→
  (∃v,digsV w n=some v∧w.length≤fuel∧digR b fuel i n d=(v,d+w.length,i+w.length))∨((digsV w n=none∨fuel<w.length)∧¬sepB (nowN b (digR b fuel i n d).2.2))
 |[],fuel,i,n,d,_,h,hs=>by
  refine .inl ⟨n,rfl,Nat.zero_le _,?_⟩
  cases fuel with
  |zero=>rfl
  |succ fuel=>
   rw [digR,if_neg]
   ·rfl
   ·rw [List.length_nil,Nat.add_zero] at hs
    unfold sepB at hs
    intro hd
    simp only [digB,Bool.and_eq_true,decide_eq_true_eq] at hd
    omega
 |c :: w,fuel,i,n,d,hw,h,hs=>by
  obtain ⟨h1,h2,h3⟩:=drop_now (s:=w++t) h
  have hc:=hw c List.mem_cons_self
  cases fuel with
  |zero=>exact .inr ⟨.inr (by simp),by rw [digR,h1];exact hc⟩
  |succ fuel=>
   rw [digR,digsV,h1]
   by_cases hd:digB c=true
   ·rw [if_pos hd,if_pos hd]
    have e:i+1+w.length=i+(c :: w).length:=by rw [List.length_cons];omega
    rcases digR_word w fuel (i+1) (10*n+(c-48)) (d+1) (fun a ha=>hw a (List.mem_cons_of_mem _ ha)) h2 (by rw [e];exact hs) with ⟨v,g1,g2,g3⟩ | ⟨g1,g2⟩
    ·refine .inl ⟨v,g1,by rw [List.length_cons];omega,?_⟩
     rw [g3,e,List.length_cons]
     congr 2
     omega
    ·refine .inr ⟨?_,g2⟩
     rcases g1 with g1 | g1
     ·exact .inl g1
     ·exact .inr (by rw [List.length_cons];omega)
   ·rw [if_neg hd,if_neg hd]
    exact .inr ⟨.inl rfl,by rw [h1];exact hc⟩
theorem restR_seg {b t:List Nat} (ht:Ends10 t):∀(s:List Nat) (i:Nat),(∀c∈s,c≠10)→b.drop i=s++t→restR b i=i+s.length
 |[],i,_,h=>by
  have:=ends_now h ht
  rw [restR,dif_neg (by rw [this];simp)]
  rfl
 |c :: s,i,hs,h=>by
  obtain ⟨h1,h2,h3⟩:=drop_now (s:=s++t) h
  rw [restR,dif_pos ⟨h3,by rw [h1];exact hs c List.mem_cons_self⟩,restR_seg ht s (i+1) (fun a ha=>hs a (List.mem_cons_of_mem _ ha)) h2,List.length_cons]
  omega
theorem rowD_word:∀(w:List Nat) (s:List Nat) (l:List Int) (v:List Nat),(∀c∈w,¬sepB c)→rowD (w++s) l v=rowD s l (v++w)
 |[],s,l,v,_=>by rw [List.nil_append,List.append_nil]
 |c :: w,s,l,v,hw=>by
  have hc:=hw c List.mem_cons_self
  unfold sepB at hc
  rw [List.cons_append,rowD,if_neg (by omega),if_neg (by omega),rowD_word w s l (v++[c]) fun a ha=>hw a (List.mem_cons_of_mem _ ha),List.append_assoc]
  rfl
theorem rowD_sep {s:List Nat} (hs:s=[]∨∃c t,s=c :: t∧sepB c∧c≠10) (l:List Int) (w:List Nat) (hw:w≠[]):rowD s l w=(wordV w).bind fun n=>rowD s (l++[n]) []:=by
 rcases hs with rfl | ⟨c,t,rfl,hc,hc10⟩
 ·rw [rowD,wordE,if_neg hw]
  cases wordV w<;>rfl
 ·rw [rowD,wordE,if_neg hw]
  rcases hc with rfl | rfl | rfl
  ·rw [if_neg (by decide),if_pos rfl]
   cases wordV w<;>rfl
  ·rw [if_pos rfl]
   cases wordV w<;>rfl
  ·exact absurd rfl hc10
theorem split_word:∀(s:List Nat),∃w t,s=w++t∧(∀c∈w,¬(c=32∨c=35))∧(t=[]∨∃c u,t=c :: u∧(c=32∨c=35))
 |[]=>⟨[],[],rfl,fun c h=>(by cases h),.inl rfl⟩
 |c :: s=>by
  by_cases h:c=32∨c=35
  ·exact ⟨[],c :: s,rfl,fun c h=>(by cases h),.inr ⟨c,s,rfl,h⟩⟩
  ·obtain ⟨w,t,h1,h2,h3⟩:=split_word s
   exact ⟨c :: w,t,by rw [h1];rfl,fun a ha=>(List.mem_cons.1 ha).elim (fun e=>by rw [e];exact h) (h2 a),h3⟩
theorem lineF_row {b t:List Nat} (ht:Ends10 t):∀(f:Nat) (s:List Nat) (i:Nat) (l:List Int),s.length<f→(∀c∈s,c≠10)→b.drop i=s++t→
  (∃r,rowD s l []=some r∧lineF b f i l=(r,true,i+s.length+1))∨(rowD s l []=none∧(lineF b f i l).2.1=false)
 |0,s,i,l,hf,_,_=>absurd hf (Nat.not_lt_zero _)
 |f+1,[],i,l,hf,hs,h=>by
  have:=ends_now h ht
  rw [lineF,this,if_neg (by decide),if_neg (by decide),if_pos rfl]
  exact .inl ⟨l,rfl,rfl⟩
 |f+1,c :: s,i,l,hf,hs,h=>by
  obtain ⟨h1,h2,h3⟩:=drop_now (s:=s++t) h
  have hc:=hs c List.mem_cons_self
  have hs':∀a∈s,a≠10:=fun a ha=>hs a (List.mem_cons_of_mem _ ha)
  have hlen:(c :: s).length=s.length+1:=rfl
  rw [lineF,h1]
  by_cases c32:c=32
  ·rw [if_pos c32,rowD,if_neg (by omega),if_pos c32,hlen]
   have:=lineF_row ht f s (i+1) l (by omega) hs' h2
   rw [show i+1+s.length=i+(s.length+1) by omega] at this
   exact this
  rw [if_neg c32]
  by_cases c35:c=35
  ·rw [if_pos c35,rowD,if_pos c35]
   refine .inl ⟨l,rfl,?_⟩
   rw [restR_seg ht (c :: s) i hs h]
  rw [if_neg c35,if_neg hc]
  obtain ⟨w,u,e1,e2,e3⟩:=split_word (c :: s)
  have hw:w≠[]:=by
   rintro rfl
   rw [List.nil_append] at e1
   rcases e3 with e3 | ⟨a,v,e3,e4⟩
   ·rw [e3] at e1;cases e1
   ·rw [e3] at e1
    obtain ⟨rfl,_⟩:=List.cons.inj e1
    omega
  obtain ⟨w',rfl⟩:∃w',w=c :: w':=by
   cases w with
   |nil=>exact absurd rfl hw
   |cons a w'=>rw [List.cons_append] at e1;exact ⟨w',by rw [(List.cons.inj e1).1]⟩
  have hsepw:∀a∈c :: w',¬sepB a:=fun a ha=>by
   have g1:=e2 a ha
   have g2:=hs a (by rw [e1];exact List.mem_append_left _ ha)
   unfold sepB
   omega
  have hu:u=[]∨∃a v,u=a :: v∧sepB a∧a≠10:=by
   rcases e3 with e3 | ⟨a,v,e3,e4⟩
   ·exact .inl e3
   ·exact .inr ⟨a,v,e3,by unfold sepB;omega,by omega⟩
  have hd:b.drop i=(c :: w')++(u++t):=by rw [h,e1,List.append_assoc]
  have hdu:b.drop (i+(c :: w').length)=u++t:=drop_add' hd
  have hsu:sepB (nowN b (i+(c :: w').length)):=by
   rcases hu with rfl | ⟨a,v,rfl,g1,_⟩
   ·exact .inr (.inr (ends_now hdu ht))
   ·rw [(drop_now (s:=v++t) hdu).1];exact g1
  have hlen2:(c :: s).length=(c :: w').length+u.length:=by rw [e1,List.length_append]
  have huf:u.length<f:=by
   rw [hlen2,List.length_cons] at hf
   omega
  have hus:∀a∈u,a≠10:=fun a ha=>hs a (by rw [e1];exact List.mem_append_right _ ha)
  have hrow:rowD (c :: s) l []=(wordV (c :: w')).bind fun n=>rowD u (l++[n]) []:=by
   rw [e1,rowD_word _ _ _ _ hsepw,List.nil_append,rowD_sep hu l _ hw]
  rw [hrow]
  have key:∃p ds,(if c=45 then i+1 else i)=p∧unsign (c :: w')=ds∧b.drop p=ds++(u++t)∧p+ds.length=i+(c :: w').length∧(∀a∈ds,¬sepB a):=by
   by_cases c45:c=45
   ·refine ⟨i+1,w',if_pos c45,?_,(drop_now (s:=w'++(u++t)) hd).2.1,by rw [List.length_cons];omega,fun a ha=>hsepw a (List.mem_cons_of_mem _ ha)⟩
    rw [unsign,isNeg,List.head?_cons,if_pos (decide_eq_true (by rw [c45]))]
    rfl
   ·refine ⟨i,c :: w',if_neg c45,?_,hd,rfl,hsepw⟩
    rw [unsign,isNeg,List.head?_cons,if_neg]
    simpa using c45
  obtain ⟨p,ds,k1,k2,k3,k4,k5⟩:=key
  have hneg:isNeg (c :: w')=decide (c=45):=by rw [isNeg,List.head?_cons];simp
  rw [k1,wordV,k2,hneg]
  have hdig:=digR_word ds 12 p 0 0 k5 k3 (by rw [k4];exact hsu)
  rw [numR]
  rcases hdig with ⟨v,g1,g2,g3⟩ | ⟨g1,g2⟩
  ·rw [g3,k4,g1]
   simp only [Nat.zero_add]
   by_cases h0:ds.length=0
   ·rw [if_pos (.inl (show ds.length<1 by omega)),if_pos (.inl h0)]
    exact .inr ⟨rfl,rfl⟩
   ·have hns:¬(ds.length=0∨nowN b (i+(c :: w').length)≠32∧nowN b (i+(c :: w').length)≠35∧nowN b (i+(c :: w').length)≠10):=by
     unfold sepB at hsu
     omega
    rw [if_neg (show ¬(ds.length<1∨12<ds.length) by omega),if_neg hns,Option.map_some,Option.bind_some]
    have:=lineF_row ht f u (i+(c :: w').length) (l++[if decide (c=45)=true then -(v:Int) else (v:Int)]) huf hus hdu
    rw [show i+(c :: w').length+u.length=i+(c :: s).length by omega] at this
    exact this
  ·unfold sepB at g2
   generalize digR b 12 p 0 0=r at *
   have hbad:r.2.1=0∨(nowN b r.2.2≠32∧nowN b r.2.2≠35∧nowN b r.2.2≠10):=.inr (by omega)
   refine .inr ⟨?_,by rw [if_pos hbad]⟩
   rcases g1 with g1 | g1
   ·split
    ·rfl
    ·rw [g1];rfl
   ·rw [if_pos (.inr g1)];rfl
theorem split_line:∀(s:List Nat),∃w t,s=w++t∧(∀c∈w,c≠10)∧Ends10 t
 |[]=>⟨[],[],rfl,fun c h=>(by cases h),.inl rfl⟩
 |c :: s=>by
  by_cases h:c=10
  ·exact ⟨[],c :: s,rfl,fun c h=>(by cases h),.inr ⟨s,by rw [h]⟩⟩
  ·obtain ⟨w,t,h1,h2,h3⟩:=split_line s
   exact ⟨c :: w,t,by rw [h1];rfl,fun a ha=>(List.mem_cons.1 ha).elim (fun e=>by rw [e];exact h) (h2 a),h3⟩
theorem segsD_line:∀(w s:List Nat) (o:List (List Int)) (v:List Nat),(∀c∈w,c≠10)→segsD (w++s) o v=segsD s o (v++w)
 |[],s,o,v,_=>by rw [List.nil_append,List.append_nil]
 |c :: w,s,o,v,hw=>by
  rw [List.cons_append,segsD,if_neg (hw c List.mem_cons_self),segsD_line w s o (v++[c]) fun a ha=>hw a (List.mem_cons_of_mem _ ha),List.append_assoc]
  rfl
theorem linesF_seg (b:List Nat):∀(f i:Nat) (a:List (List Int)),b.length<i+f→linesF b f i a=segsD (b.drop i) a []
 |0,i,a,hf=>by
  rw [List.drop_eq_nil_of_le (by omega)]
  rfl
 |f+1,i,a,hf=>by
  rw [linesF]
  split
  ·rename_i hi
   obtain ⟨s,t,e1,e2,e3⟩:=split_line (b.drop i)
   have hlen:s.length≤b.length:=by
    have:=congrArg List.length e1
    rw [List.length_drop,List.length_append] at this
    omega
   have hrow:=lineF_row e3 (b.length+1) s i [] (by omega) e2 e1
   rw [←lineR] at hrow
   have hd:=drop_add' e1
   rw [e1,segsD_line _ _ _ _ e2,List.nil_append]
   rcases hrow with ⟨r,h1,h2⟩ | ⟨h1,h2⟩
   ·rw [h2]
    simp only [if_true]
    have hE:rowE a s=some (if r=[] then a else a++[r]):=by rw [rowE,h1];rfl
    rw [linesF_seg b f _ _ (by omega)]
    rcases e3 with rfl | ⟨u,rfl⟩
    ·have:=List.drop_eq_nil_iff.1 hd
     rw [segsD,hE,List.drop_eq_nil_of_le (by omega)]
     rfl
    ·rw [segsD,if_pos rfl,hE,Option.bind_some,(drop_now hd).2.1]
   ·rw [if_neg (by rw [h2];decide)]
    have hE:rowE a s=none:=by rw [rowE,h1];rfl
    rcases e3 with rfl | ⟨u,rfl⟩
    ·rw [segsD,hE]
    ·rw [segsD,if_pos rfl,hE];rfl
  ·rw [List.drop_eq_nil_of_le (by omega)]
   rfl
theorem linesD_is (b:List Nat):linesD b=linesR b:=by
 rw [linesD,linesR,linesF_seg b (b.length+1) 0 [] (by omega),List.drop_zero]
 rfl
end Go.Proofs.YtnoifgjiipgpoaaGreatDoor

set_option maxRecDepth 4000
namespace Go.Proofs.YtnoifgjiipgpoaaGreatDoor
open Go Go.Proofs.YtnoifgjiipgpoaaGreatDoor.R
structure Car where
 spot:Int
 now:Int
 gone:Int
 load:Int
 seen:Nat
 on:Nat
 times:List (List T)
 loads:List Int
structure Car.Fit (c:Car) (p k:Nat):Prop where
 spot:0≤c.spot∧c.spot≤2*p
 now:0≤c.now∧c.now≤1049576
 gone:0≤c.gone∧c.gone≤14143*k
 load: -1000*(k:Int)≤c.load∧c.load≤1000
 seen:c.seen<2^64
 on:c.on<2^64
 times:c.times.length=k
 loads:c.loads.length=k
 three:∀y∈c.times,y.length=3
 few:k+((List.range (2*p+1)).filter fun j:Nat=>decide (1≤j)&& !hasB c.seen (j:Int)).length≤2*p
theorem Car.Fit.le {c:Car} {p k:Nat} (h:c.Fit p k):k≤2*p:=by have:=h.few;omega
def Inst.visitsE (x:Inst) (c:Car) (i:Int):Int:=
 if i<1∨2*x.pairs<i then 1 else if hasB c.seen i=true then 5 else if x.pairs<i∧hasB c.seen (i-x.pairs)=false then 8 else if x.room<c.load+(x.stop i).demand then 6 else 0
def Inst.drive (x:Inst) (c:Car) (i:Int):Car:={c with spot:=i,gone:=c.gone+far (x.stop c.spot) (x.stop i)}
end Go.Proofs.YtnoifgjiipgpoaaGreatDoor

set_option maxRecDepth 4000
namespace Go.Proofs.YtnoifgjiipgpoaaGreatDoor
open Go Go.Proofs.YtnoifgjiipgpoaaGreatDoor.R
def Inst.visitC (x:Inst) (c:Car) (i:Int):Car×Int:=
 if x.visitsE c i≠0 then (c,x.visitsE c i)
 else if (x.stop i).due<max (c.now+far (x.stop c.spot) (x.stop i)) (x.stop i).ready then (x.drive c i,7)
 else ({spot:=i,now:=max (c.now+far (x.stop c.spot) (x.stop i)) (x.stop i).ready+(x.stop i).service,gone:=c.gone+far (x.stop c.spot) (x.stop i),load:=c.load+(x.stop i).demand,seen:=withN c.seen i,
        on:=if i≤x.pairs then withN c.on i else withoutN c.on (i-x.pairs),times:=c.times++[[.i (c.now+far (x.stop c.spot) (x.stop i)),.i (max (c.now+far (x.stop c.spot) (x.stop i)) (x.stop i).ready),.i (max (c.now+far (x.stop c.spot) (x.stop i)) (x.stop i).ready+(x.stop i).service)]],loads:=c.loads++[c.load+(x.stop i).demand]},0)
theorem visits_ok {x:Inst} {c:Car} {i:Int} (h:x.visitsE c i=0):1≤i∧i≤2*x.pairs∧hasB c.seen i=false∧(x.pairs<i→hasB c.seen (i-x.pairs)=true)∧c.load+(x.stop i).demand≤x.room:=by
 rw [Inst.visitsE] at h
 split at h
 ·cases h
 split at h
 ·cases h
 split at h
 ·cases h
 split at h
 ·cases h
 rename_i h1 h2 h3 h4
 refine ⟨by omega,by omega,by simpa using h2,fun h=>?_,by omega⟩
 cases hq:hasB c.seen (i-x.pairs) with
 |true=>rfl
 |false=>exact absurd ⟨h,hq⟩ h3
end Go.Proofs.YtnoifgjiipgpoaaGreatDoor

set_option maxRecDepth 4000
namespace Go.Proofs.YtnoifgjiipgpoaaGreatDoor
open Go Go.Proofs.YtnoifgjiipgpoaaGreatDoor.R
theorem visitC_fit {x:Inst} {c:Car} {i:Int} {p k:Nat} (hx:x.Fit p) (hc:c.Fit p k) (h:(x.visitC c i).2=0):(x.visitC c i).1.Fit p (k+1):=by
 have hok:=visits_ok (x:=x) (c:=c) (i:=i)
 rw [Inst.visitC] at h ⊢
 by_cases c0:x.visitsE c i=0
 rotate_left
 ·rw [if_pos c0] at h;exact absurd h c0
 rw [if_neg (by simp [c0])] at h ⊢
 by_cases c1:(x.stop i).due<max (c.now+far (x.stop c.spot) (x.stop i)) (x.stop i).ready
 ·rw [if_pos c1] at h;cases h
 rw [if_neg c1]
 obtain ⟨k1,k2,k3,k4,k5⟩:=hok c0
 have hp:=hx.pairs
 have hfi:=hx.at (j:=i) (by omega) (by omega)
 have hfar:=far_le (x.stop c.spot) (x.stop i)
 have h1:=hc.now
 have h2:=hc.gone
 have h3:=hc.load
 have h4:=hfi.ready
 have h5:=hfi.due
 have h6:=hfi.service
 have h7:=hfi.demand
 have h8:=hx.room
 have h9:=hx.few
 constructor
 ·simp only;omega
 ·simp only;omega
 ·simp only;omega
 ·simp only;omega
 ·exact withN_lt hc.seen _
 ·simp only
  split
  ·exact withN_lt hc.on _
  ·exact withoutN_lt _ _
 ·simp [hc.times]
 ·simp [hc.loads]
 ·intro y hy
  simp only [List.mem_append,List.mem_singleton] at hy
  rcases hy with hy | rfl
  ·exact hc.three y hy
  ·rfl
 ·have h10:=hc.few
  obtain ⟨j,rfl⟩:∃j:Nat,i=j:=⟨i.toNat,by omega⟩
  have:=filter_lt (p:=fun j:Nat=>decide (1≤j)&& !hasB c.seen (j:Int)) (q:=fun m:Nat=>decide (1≤m)&& !hasB (withN c.seen (j:Int)) (m:Int)) (List.range (2*p+1)) (a:=j) (List.mem_range.2 (by omega)) (by rw [k3];simp;omega) (by rw [has_withN (by omega)];simp) (fun m=>by
   rw [has_withN (by omega)]
   simp only [Bool.and_eq_true,Bool.not_eq_true',Bool.or_eq_false_iff]
   exact fun h=>⟨h.1,h.2.1⟩)
  simp only
  omega
def Inst.homeC (x:Inst) (c:Car):Car×Int:=
 if c.on≠0 then (c,8) else if (x.stop 0).due<c.now+far (x.stop c.spot) (x.stop 0) then (x.drive c 0,7) else (x.drive c 0,0)
def Inst.car0 (x:Inst):Car:=⟨0,(x.stop 0).ready,0,0,0,0,[],[]⟩
theorem car0_fit {x:Inst} {p:Nat} (hx:x.Fit p):x.car0.Fit p 0:=by
 have h1:=(hx.at (j:=0) (by omega) (by omega)).ready
 refine ⟨by simp only [Inst.car0];omega,by simp only [Inst.car0];omega,by simp only [Inst.car0];omega,by simp only [Inst.car0];omega,by simp [Inst.car0],by simp [Inst.car0],rfl,rfl,(fun y hy=>by cases hy),?_⟩
 have:=filter_lt (p:=fun _:Nat=>true) (q:=fun j:Nat=>decide (1≤j)&& !hasB x.car0.seen (j:Int)) (List.range (2*p+1)) (a:=0) (List.mem_range.2 (by omega)) rfl (by simp) (fun _ _=>rfl)
 rw [List.filter_eq_self.2 (fun _ _=>rfl),List.length_range] at this
 omega
def Inst.runC (x:Inst):List Int→Car→Car×Int
 |[],c=>x.homeC c
 |i :: r,c=>if (x.visitC c i).2≠0 then x.visitC c i else x.runC r (x.visitC c i).1
def Inst.times (x:Inst) (route:List Int):List (List T)×Int×Int:=
 if x.may=false then ([],0,1) else if (x.runC route x.car0).2≠0 then ([],0,(x.runC route x.car0).2) else ((x.runC route x.car0).1.times,(x.runC route x.car0).1.gone,0)
end Go.Proofs.YtnoifgjiipgpoaaGreatDoor

set_option maxRecDepth 4000
namespace Go.Proofs.YtnoifgjiipgpoaaGreatDoor
open Go Go.Proofs.YtnoifgjiipgpoaaGreatDoor.R
def idxI (p:Int→Bool):Nat→List Int→Int
 |_,[]=>-1
 |i,n :: l=>if p n=true then (i:Int) else idxI p (i+1) l
theorem indexI_pure (l:List Int) (p:Int→Bool) (f:FuncId) (hl:l.length<2^62) (hf:∀n,Pure P f [.i n] (.b (p n))):Pure P 183 [.t (.sl (ints l)),.fn (.func f) [] []] (.i (idxI p 0 l)):=by
 have hil:(ints l).length=l.length:=List.length_map _
 refine pure_of Tryz.func183 rfl rfl (by simp [Tryz.f183]) (by simp [bnd,bnd.bndL]) (by simp [bnd,bnd.bndL]) fun B hB hnx=>?_
 simp only [Tryz.f183] at hB ⊢
 refine K_run hB 100 ?_
 simp [go_sem,hil]
 refine K_loopP (α:=Nat) (fun k=>k≤l.length∧idxI p k (l.drop k)=idxI p 0 l) (fun k=>⟨sl [(0,.t (.sl (ints l))),(1,.fn (.func f) [] []),(7,.i l.length),(8,.i k)],noObj,0⟩) (fun k=>l.length-k) 0 ⟨Nat.zero_le _,rfl⟩ (Imp.slots (by simp [go_sem]) rfl rfl) ?_
 rintro k ⟨h1,h2⟩
 refine K_run hB 60 ?_
 simp [go_sem]
 refine fork_dec (fun h=>?_) (fun h=>?_)
 ·rw [List.drop_eq_getElem_cons h,idxI] at h2
  have hkk:IntKind.i64.wrap ((k:Int)+1)=((k+1:Nat):Int):=by rw [w64 ((k:Int)+1) (by omega)];rfl
  have hget:=ints_getS l h
  generalize l[k]=n at *
  have hp:=hf n
  simp [go_sem,h,hil,hget]
  refine K_call rfl rfl rfl (args:=[.i n]) (f:=f) (by simp [go_sem]) (by simp [go_sem,hB]) (hp.spec _ _) ?_
  cases ho:p n with
  |true=>
   rw [ho,if_pos rfl] at h2
   refine K_run hB 100 ?_
   simp [go_sem,←h2]
  |false=>
   rw [ho,if_neg (by simp)] at h2
   refine K_run hB 100 ?_
   simp [go_sem,hkk]
   exact Next.mk (k+1) ⟨by omega,h2⟩ (Imp.slots (by simp [go_sem]) rfl rfl) (by omega)
 ·have:k=l.length:=by omega
  subst this
  rw [List.drop_length] at h2
  simp [go_sem,←h2,idxI]
def bump (s:List Int) (i:Int):List Int:=s.set i.toNat (s.getD i.toNat 0+1)
def Inst.costGo (x:Inst):List (List Int)→Int→List Int→Int×Int
 |[],all,seen=>if (seen.any fun n=>decide (1<n))=true then (0,5) else if ((seen.drop 1).any fun n=>decide (n=0))=true then (0,4) else (all,0)
 |r :: rs,all,seen=>if r.length=0 then (0,1) else if (x.times r).2.2≠0 then (0,(x.times r).2.2) else x.costGo rs (all+(x.times r).2.1) (r.foldl bump seen)
def Inst.cost (x:Inst) (p:List (List Int)):Int×Int:=
 if x.may=false then (0,1) else if x.cars<p.length then (0,6) else x.costGo p 0 (List.replicate (2*x.pairs+1).toNat 0)
theorem runC_ok {x:Inst} {p:Nat} (hx:x.Fit p):∀(r:List Int) (c:Car) (k:Nat),c.Fit p k→(x.runC r c).2=0→(∀i∈r,1≤i∧i≤2*p)∧k+r.length≤2*p∧0≤(x.runC r c).1.gone∧(x.runC r c).1.gone≤14143*(k+r.length+1)
 |[],c,k,hc,h=>by
  have hg:=hc.gone
  have hf:=far_le (x.stop c.spot) (x.stop 0)
  have:=hc.le
  refine ⟨fun i hi=>(by cases hi),by simpa using this,?_⟩
  rw [Inst.runC,Inst.homeC]
  simp only [List.length_nil]
  split
  ·simp only;omega
  ·split<;>simp only [Inst.drive]<;>omega
 |i :: r,c,k,hc,h=>by
  rw [Inst.runC] at h ⊢
  by_cases c1:(x.visitC c i).2=0
  ·rw [if_neg (by simp [c1])] at h ⊢
   obtain ⟨h1,h2,h3,h4⟩:=runC_ok hx r _ _ (visitC_fit hx hc c1) h
   have hv:x.visitsE c i=0:=by
    rw [Inst.visitC] at c1
    split at c1
    ·rename_i hh;exact absurd c1 hh
    ·rename_i hh;simpa using hh
   obtain ⟨k1,k2,_⟩:=visits_ok hv
   have hp:=hx.pairs
   rw [List.length_cons]
   refine ⟨fun j hj=>?_,by omega,h3,by omega⟩
   rcases List.mem_cons.1 hj with rfl | hj
   ·omega
   ·exact h1 j hj
  ·rw [if_pos c1] at h
   exact absurd h c1
theorem times_ok {x:Inst} {p:Nat} (hx:x.Fit p) (hm:x.may=true) {r:List Int} (h:(x.times r).2.2=0):(∀i∈r,1≤i∧i≤2*p)∧r.length≤2*p∧0≤(x.times r).2.1∧(x.times r).2.1≤14143*33:=by
 rw [Inst.times,if_neg (by simp [hm])] at h ⊢
 by_cases c1:(x.runC r x.car0).2=0
 ·rw [if_neg (by simp [c1])]
  obtain ⟨h1,h2,h3,h4⟩:=runC_ok hx r _ 0 (car0_fit hx) c1
  have:=hx.few
  exact ⟨h1,by omega,h3,by simp only;omega⟩
 ·rw [if_pos c1] at h
  exact absurd h c1
theorem bump_len (s:List Int) (i:Int):(bump s i).length=s.length:=List.length_set
theorem bumps_len:∀(r:List Int) (s:List Int),(r.foldl bump s).length=s.length
 |[],s=>rfl
 |i :: r,s=>by rw [List.foldl_cons,bumps_len,bump_len]
end Go.Proofs.YtnoifgjiipgpoaaGreatDoor

set_option maxRecDepth 4000
namespace Go.Proofs.YtnoifgjiipgpoaaGreatDoor
open Go Go.Proofs.YtnoifgjiipgpoaaGreatDoor.R
def lowI (n:Int):Bool:=decide (n≤0)
theorem idxI_at (p:Int→Bool):∀(i:Nat) (l:List Int),idxI p i l<0∨∃j,j<l.length∧idxI p i l=((i+j:Nat):Int)∧p (l.getD j 0)=true∧∀n∈l.take j,p n=false
 |_,[]=>.inl (by simp [idxI])
 |i,n :: l=>by
  rw [idxI]
  cases h:p n with
  |true=>exact .inr ⟨0,by simp,by simp,by simpa using h,by simp⟩
  |false=>
   rcases idxI_at p (i+1) l with h1 | ⟨j,hj,h1,h2,h3⟩
   ·exact .inl (by simpa using h1)
   ·refine .inr ⟨j+1,by simpa using hj,?_,by simpa using h2,?_⟩
    ·rw [if_neg (by simp),h1]
     omega
    ·intro m hm
     rw [List.take_succ_cons] at hm
     rcases List.mem_cons.1 hm with rfl | hm
     ·exact h
     ·exact h3 m hm
def splitF:Nat→List Int→Int→Bool→List (List Int)→List (List Int)×Int
 |0,_,_,_,_=>([],2)
 |f+1,t,last,order,acc=>
  if idxI lowI 0 t<0 then (if (order||decide (t.getD 0 0≤last))=true then ([],8) else (acc++[t],0))
  else if idxI lowI 0 t=0∨t.getD (idxI lowI 0 t).toNat 0<0∨idxI lowI 0 t=(t.length:Int)-1 then ([],2)
  else splitF f (t.drop ((idxI lowI 0 t).toNat+1)) (t.getD 0 0) (order||decide (t.getD 0 0≤last)) (acc++[t.take (idxI lowI 0 t).toNat])
def splitR (t:List Int):List (List Int)×Int:=if t.length=0 then ([],0) else splitF (t.length+1) t 0 false []
theorem low1_pure (n:Int):Pure P 184 [.i n] (.b (lowI n)):=by
 refine pure_of Tryz.func184 rfl rfl (by simp [Tryz.f184]) (by simp [bnd,bnd.bndL]) (by simp [bnd,bnd.bndL]) fun B hB hnx=>?_
 simp only [Tryz.f184] at hB ⊢
 refine K_run hB 100 ?_
 simp [go_sem,lowI]
theorem split_pure (t:List Int) (ht:t.length<2^31):Pure P 137 [.t (.sl (ints t))] (.tup [.agg [.t (.sl ((splitR t).1.map rowT))],.i (splitR t).2]):=by
 generalize hR:splitR t=R
 have hil:(ints t).length=t.length:=List.length_map _
 refine pure_of Tryz.func137 rfl rfl (by simp [Tryz.f137]) (by simp [bnd,bnd.bndL]) (by simp [bnd,bnd.bndL]) fun B hB hnx=>?_
 simp only [Tryz.f137] at hB ⊢
 rw [splitR] at hR
 refine K_run hB 100 ?_
 simp [go_sem]
 refine K_scopeL (α:=Unit) (fun _=>0) (fun _=>False) (fun _=>⟨fun _=>.any,noObj,0⟩) (fun _=>0) (fun _ h=>h.elim) ?_ (fun _ h=>h.elim)
 by_cases c0:t.length=0
 ·rw [if_pos c0] at hR
  subst hR
  refine K_run hB 100 ?_
  simp [go_sem,hil,c0]
 rw [if_neg c0] at hR
 refine K_run hB 100 ?_
 simp [go_sem,hil,c0]
 refine K_call rfl rfl rfl (args:=[.t (.sl (ints t))]) (f:=93) (by simp [go_sem]) (by simp [go_sem,hB]) (clone_spec t (by omega) _ _) ?_
 refine K_run hB 100 ?_
 simp [go_sem]
 refine K_loopP (α:=Nat×List Int×Int×Bool×List (List Int)×(Nat→AObj)×Nat×Nat) (fun (f,t',last,order,acc,σ,nx,q)=>t'.length≠0∧t'.length<f∧acc.length+t'.length≤t.length∧splitF f t' last order acc=R∧σ 0= .box [.fsl []]∧σ 1= .box [.ref q]∧σ q= .arr 1 (acc.map rowT)∧1<q∧q<nx)
  (fun (f,t',last,order,acc,σ,nx,q)=>⟨sl [(0,.t (.sl (ints t'))),(2,.ptr 0 0),(4,.ptr 1 0),(5,.b order),(6,.i last)],σ,nx⟩) (fun a=>a.1) (t.length+1,t,0,false,[],_,4,3) ?_
  ((Imp.freeze (q:=2) (sz:=1) (es:=ints t) (by simp [go_sem])).trans ((Imp.ownB (b:=1) (off:=0) (sz:=1) (cs:=[.fsl []]) (by simp [go_sem,frzO,frz1,frz1.frzL]) rfl).trans (Imp.slots (by simp [go_sem,frz1]) rfl rfl))) ?_
 ·exact ⟨c0,by omega,by simp,hR,by simp [oput,frzO,frz1,frz1.frzL],by simp [oput],by simp [oput],by omega,by omega⟩
 rintro ⟨f,t',last,order,acc,σ,nx,q⟩ ⟨g1,g2,g3,g4,g5,g6,g7,g8,g9⟩
 obtain ⟨f,rfl⟩:∃f',f=f'+1:=⟨f-1,by omega⟩
 have hil2:(ints t').length=t'.length:=List.length_map _
 have hlt0:0<t'.length:=by omega
 have hix:=indexI_pure t' lowI 184 (by omega) low1_pure
 have hat:=idxI_at lowI 0 t'
 rw [splitF] at g4
 have hhd:t'.getD 0 0=t'[0]'hlt0:=by rw [List.getD_eq_getElem?_getD,List.getElem?_eq_getElem hlt0];rfl
 have hget0:=ints_getS t' (i:=0) hlt0
 rw [hhd] at g4
 generalize idxI lowI 0 t'=e at *
 refine K_run hB 100 ?_
 simp [go_sem,hil2]
 refine K_call rfl rfl rfl (args:=[.t (.sl (ints t')),.fn (.func 184) [] []]) (f:=183) (by simp [go_sem]) (by simp [go_sem,hB]) ((hix).spec _ _) ?_
 have hm1:(acc.map rowT).length+1≤mostLen:=by rw [List.length_map];show _≤4294967296;omega
 have hm2:acc.length+1≤mostLen:=by show _≤4294967296;omega
 have hone:∀y∈ints t',y.length=1:=by
  intro y hy
  simp only [ints,List.mem_map] at hy
  obtain ⟨n,_,rfl⟩:=hy
  rfl
 have htl:List.take t'.length (ints t')=ints t':=by rw [←hil2,List.take_length]
 by_cases c1:e<0
 ·rw [if_pos c1] at g4
  cases order<;>by_cases c2:t'[0]≤last
  all_goals
   simp only [c2,Bool.false_or,Bool.true_or,decide_true,decide_false,if_true,Bool.false_eq_true,if_false] at g4
   subst g4
   refine K_run hB 100 ?_
   simp [go_sem,c1,hil2,hlt0,hget0,c2]
   refine K_drawnT [7,9] rfl (by rw [hB];kernel_rfl) (by kernel_rfl) fun ht=>?_
   refine K_run hB 100 ?_
   simp [go_sem,ht,hil2,g5,g6,g7,hm1,hm2,if_pos hone,hone,htl,show ¬1=nx by omega,show ¬1=q by omega,show ¬0=nx by omega,show ¬0=q by omega,show ¬nx=0 by omega,show ¬nx=1 by omega,rowT]
 ·rw [if_neg c1] at g4
  obtain ⟨j,hj,rfl,k2,k3⟩:=hat.resolve_left c1
  have hgetj:=ints_getS t' hj
  have hge:t'.getD j 0=t'[j]:=by rw [List.getD_eq_getElem?_getD,List.getElem?_eq_getElem hj];rfl
  simp only [Nat.zero_add,Int.toNat_natCast] at g4 c1 ⊢
  rw [hge] at g4
  have hjI:(j:Int)<t'.length:=by omega
  have hjle:j≤t'.length:=by omega
  have htj:List.take j (ints t')=ints (t'.take j):=by simp [ints,List.map_take]
  have hdj:List.drop (j+1) (ints t')=ints (t'.drop (j+1)):=by simp [ints,List.map_drop]
  have wj:IntKind.i64.wrap ((j:Int)+1)=((j+1:Nat):Int):=by rw [w64 _ (by omega)];rfl
  have w1:=w64 ((t'.length:Int)-1) (by omega)
  by_cases d1:j=0
  ·rw [if_pos (.inl (by omega))] at g4
   subst g4
   refine K_run hB 100 ?_
   simp [go_sem,c1,hil2,d1,g5]
  by_cases d2:t'[j]<0
  ·rw [if_pos (.inr (.inl d2))] at g4
   subst g4
   refine K_run hB 100 ?_
   simp [go_sem,c1,hil2,d1,hj,hgetj,d2,g5]
  by_cases d3:(j:Int)=(t'.length:Int)-1
  ·rw [if_pos (.inr (.inr d3))] at g4
   subst g4
   have hv:IntKind.i64.wrap ((t'.length:Int)-1)=j:=by rw [w1];omega
   refine K_run hB 100 ?_
   simp [go_sem,c1,hil2,d1,hj,hgetj,d2,hv,g5]
  rw [if_neg (by omega)] at g4
  refine K_run hB 100 ?_
  simp [go_sem,c1,hil2,d1,hj,hgetj,d2,w1,d3]
  cases order<;>by_cases c2:t'[0]≤last
  all_goals
   simp only [c2,Bool.false_or,Bool.true_or,decide_true,decide_false] at g4
   simp [go_sem,c1,hil2,hlt0,hget0,c2]
   refine K_drawnT [7,9] rfl (by rw [hB];kernel_rfl) (by kernel_rfl) fun ht=>?_
   refine K_run hB 100 ?_
   simp [go_sem,ht,hil2,g5,g6,g7,hm1,hm2,if_pos hone,hone,hjle,htj,hdj,show ¬1=nx by omega,show ¬1=q by omega,show ¬0=nx by omega,show ¬0=q by omega,show ¬j=t'.length by omega,wj,show 0≤(j:Int)+1 by omega,show (j:Int)+1≤t'.length by omega]
   refine Next.mk (f,t'.drop (j+1),t'[0],_,acc++[t'.take j],_,nx+1,nx) ⟨?_,?_,?_,g4,?_,?_,?_,?_,?_⟩ (Imp.slots (by simp [go_sem,hdj,c2]) rfl rfl) (by simp only;omega)
   ·simp only [List.drop_eq_nil_iff];omega
   ·simp only [List.length_drop];omega
   ·simp only [List.length_drop,List.length_append,List.length_cons,List.length_nil];omega
   ·simp [oput,show ¬0=nx by omega,show ¬0=q by omega,g5]
   ·simp [oput]
   ·simp [oput,show ¬nx=1 by omega,rowT]
   ·simp only;omega
   ·simp only;omega
end Go.Proofs.YtnoifgjiipgpoaaGreatDoor

set_option maxRecDepth 4000
namespace Go.Proofs.YtnoifgjiipgpoaaGreatDoor
open Go Go.Proofs.YtnoifgjiipgpoaaGreatDoor.R
def sIdx (s:State):List Node→Option Nat
 |[]=>none
 |m :: l=>if m.s=s then some 0 else (sIdx s l).map (·+1)
def once1 (out:List Node) (n:Node):List Node:=match sIdx n.s out with
 |none=>out++[n]
 |some i=>if n.cost<(out.getD i n).cost then out.set i n else out
def onceL (l:List Node):List Node:=l.foldl once1 []
def State.v (s:State):Value:=.agg #[.int .i64 s.spot,.int .i64 s.car,.int .i64 s.time,.int .i64 s.load,.int .i64 s.first,.int .u64 s.must,.int .u64 s.can,.int .u64 s.on]
theorem State.v_inj {a b:State} (h:a.v=b.v):a=b:=by
 simp only [State.v,Value.agg.injEq,Array.mk.injEq,List.cons.injEq,Value.int.injEq,and_true,true_and] at h
 cases a;cases b
 simp only [State.mk.injEq]
 simp only at h
 omega
theorem State.plain (s:State):plainA s.a=some s.v:=rfl
def keysM:Nat→List Node→List (Value×AV)
 |_,[]=>[]
 |k,m :: l=>(m.s.v,.i k) :: keysM (k+1) l
theorem findM_keys (s:State):∀(k:Nat) (out:List Node),findM s.v (keysM k out)=(sIdx s out).map fun i=>(i,.i ((k+i:Nat):Int))
 |_,[]=>rfl
 |k,m :: l=>by
  rw [keysM,findM,sIdx,findM_keys s (k+1) l]
  by_cases h:m.s=s
  ·rw [if_pos (by rw [h]),if_pos h];rfl
  ·rw [if_neg (fun e=>h (State.v_inj e)),if_neg h,Option.map_map,Option.map_map]
   congr 1
   funext i
   simp only [Function.comp]
   rw [show k+1+i=k+(i+1) by omega]
theorem keysM_app (n:Node):∀(k:Nat) (out:List Node),keysM k (out++[n])=keysM k out++[(n.s.v,.i ((k+out.length:Nat):Int))]
 |_,[]=>rfl
 |k,m :: l=>by
  rw [List.cons_append,keysM,keysM,keysM_app n (k+1) l,List.cons_append,List.length_cons,show k+1+l.length=k+(l.length+1) by omega]
theorem keysM_set {n:Node}:∀(k i:Nat) (out:List Node) (h:i<out.length),out[i].s=n.s→keysM k (out.set i n)=keysM k out
 |_,_,[],h,_=>by simp at h
 |k,0,m :: l,_,e=>by simp only [List.set_cons_zero,keysM];rw [show m.s=n.s from e]
 |k,i+1,m :: l,h,e=>by
  rw [List.set_cons_succ,keysM,keysM,keysM_set (k+1) i l (by simpa using h) (by simpa using e)]
theorem sIdx_some {s:State}:∀{out:List Node} {i:Nat},sIdx s out=some i→∃h:i<out.length,out[i].s=s
 |[],i,h=>by simp [sIdx] at h
 |m :: l,i,h=>by
  rw [sIdx] at h
  split at h
  ·rename_i e
   cases h
   exact ⟨by simp,e⟩
  ·obtain ⟨j,h1,rfl⟩:=Option.map_eq_some_iff.1 h
   obtain ⟨h2,h3⟩:=sIdx_some h1
   exact ⟨by simpa using h2,by simpa using h3⟩
theorem keys_tell (s:State) (k:Nat) (out:List Node):TellM P 91 s.a s.v (keysM k out):=by
 induction out generalizing k with
 |nil=>intro e h;cases h
 |cons m l ih=>
  intro e h
  rw [keysM] at h
  rcases List.mem_cons.1 h with rfl | h
  ·refine ⟨m.s.a,m.s.plain,?_⟩
   rw [state_eq]
   congr 1
   rw [decide_eq_decide]
   exact ⟨fun h=>by rw [h],fun h=>(State.v_inj h).symm⟩
  ·exact ih (k+1) e h
theorem state_key (s:State):ckA P 10000 91 s.a=true:=by kernel_rfl
theorem once1_len (out:List Node) (n:Node):(once1 out n).length≤out.length+1:=by
 unfold once1
 split
 ·simp
 ·split<;>simp
def nodesT (l:List Node):List (List T):=l.map Node.t
theorem nodesT_get (l:List Node) {k:Nat} (h:k<l.length):(nodesT l)[k]'(by rw [nodesT,List.length_map];exact h)=l[k].t:=by simp [nodesT]
theorem nodesT_len (l:List Node):∀y∈nodesT l,y.length=10:=by
 intro y hy
 simp only [nodesT,List.mem_map] at hy
 obtain ⟨n,_,rfl⟩:=hy
 rfl
structure Node.Fine (n:Node):Prop where
 ok:n.s.ok
 len:n.path.length<2^31
theorem once_pure (l:List Node) (hl:l.length<2^31) (hn:∀n∈l,n.Fine):Pure P 187 [.t (.sl (nodesT l))] (.t (.sl (nodesT (onceL l)))):=by
 generalize hR:onceL l=R
 refine pure_of Tryz.func187 rfl rfl (by simp [Tryz.f187]) (by simp [bnd,bnd.bndL]) (by simp [bnd,bnd.bndL]) fun B hB hnx=>?_
 simp only [Tryz.f187] at hB ⊢
 have hil:(nodesT l).length=l.length:=List.length_map _
 have hgt:∀(k:Nat) (h:k<l.length),(nodesT l)[k]'(by rw [hil];exact h)=l[k].t:=fun k h=>nodesT_get l h
 generalize hX:nodesT l=X at *
 have hmost:mostLen=4294967296:=rfl
 refine K_run hB 100 ?_
 simp [go_sem,hil]
 refine K_own 4 10 (by simp [go_sem]) ?_
 refine K_loopP (α:=Nat×List Node×Nat×(Nat→AObj)×Nat) (fun (k,out,j,σ,nx)=>k≤l.length∧(l.drop k).foldl once1 out=R∧out.length≤k∧σ 0= .map (keysM 0 out)∧σ j= .arr 10 (nodesT out)∧0<j∧j<nx)
  (fun (k,out,j,σ,nx)=>⟨sl [(3,.mapr 0),(4,.ref j),(10,.t (.sl X)),(11,.i l.length),(12,.i k)],σ,nx⟩) (fun a=>l.length-a.1) (0,[],1,_,2) ?_ (Imp.slots (by simp [go_sem,hil]) rfl rfl) ?_
 ·exact ⟨Nat.zero_le _,hR,Nat.le_refl _,by simp [oput,keysM],by simp [oput,nodesT],by omega,by omega⟩
 rintro ⟨k,out,j,σ,nx⟩ ⟨g1,g2,g3,g4,g5,g6,g7⟩
 refine K_run hB 60 ?_
 simp [go_sem]
 refine fork_dec (fun hk=>?_) (fun hk=>?_)
 ·have hkk:IntKind.i64.wrap ((k:Int)+1)=((k+1:Nat):Int):=by rw [w64 ((k:Int)+1) (by omega)];rfl
  have hget:∀h:k<X.length,X[k]'h=l[k].t:=fun h=>hgt k hk
  rw [List.drop_eq_getElem_cons hk,List.foldl_cons] at g2
  have hfine:=hn l[k] (List.getElem_mem _)
  generalize l[k]=n at *
  have hown:=own_pure n (by have:=hfine.len;omega)
  simp [go_sem,hil,hk,hget,Node.t,g5]
  refine K_lookup (kt:=91) (et:=3) (es:=keysM 0 out) (u:=n.s.v) (m:=0) (r:=match sIdx n.s out with | some i=>.tup [.i i,.b true] | none=>.tup [.i 0,.b false]) rfl rfl (by simp [go_sem,hB]) tt293 rfl tt3 (by kernel_rfl) (by simp [go_sem]) (by simp [go_sem,g4,show ¬0=nx by omega]) (by simp [go_sem];exact n.s.plain) (by simp [go_sem];exact state_key n.s) (by simp [go_sem];exact keys_tell n.s 0 out) ?_ ?_
  ·rw [lookA,findM_keys]
   cases sIdx n.s out with
   |none=>simp [go_sem]
   |some i=>simp
  have ho:once1 out n=match sIdx n.s out with
   |none=>out++[n]
   |some i=>if n.cost<(out.getD i n).cost then out.set i n else out:=rfl
  have hlen:(nodesT out).length=out.length:=List.length_map _
  have hnj:¬j=nx:=by omega
  have hn0:¬0=nx:=by omega
  have h0j:¬0=j:=by omega
  cases hi:sIdx n.s out with
  |none=>
   rw [hi] at ho
   simp only at ho
   rw [ho] at g2
   have hcap:out.length+1≤mostLen:=by omega
   refine K_run hB 100 ?_
   simp [go_sem,g5,hlen,hnj]
   refine K_mapSet (kt:=91) (et:=3) (es:=keysM 0 out) (u:=n.s.v) (m:=0) rfl rfl (by simp [go_sem,hB]) tt293 rfl (by kernel_rfl) (by simp [go_sem]) (by simp [go_sem,g4,hn0]) (by simp [go_sem];exact n.s.plain) (by simp [go_sem];exact state_key n.s) (by simp [go_sem];exact keys_tell n.s 0 out) (.inl (by rw [findM_keys,hi];rfl)) ?_
   refine K_run hB 100 ?_
   simp [go_sem,show ¬nx=0 by omega]
   refine K_call rfl rfl rfl (args:=[n.a]) (f:=185) (by simp [go_sem,Node.a,Node.cs]) (by simp [go_sem,hB]) ((hown).spec _ _) ?_
   refine K_run hB 100 ?_
   simp [go_sem,Node.a,Node.cs,g5,hlen,hcap,hnj,hkk,h0j,show ¬j=0 by omega]
   refine Next.mk (k+1,out++[n],nx+1,_,nx+2) ?_ (Imp.slots (by simp [go_sem]) rfl rfl) (by simp only;omega)
   refine ⟨by simp only;omega,g2,by simp only [List.length_append,List.length_cons,List.length_nil];omega,?_,?_,by simp only;omega,by simp only;omega⟩
   ·simp [oput,hn0,h0j,setM,findM_keys,hi,keysM_app]
   ·simp [oput,nodesT,Node.t]
  |some i=>
   obtain ⟨hil2,his⟩:=sIdx_some hi
   rw [hi] at ho
   simp only at ho
   have hgi:∀h:i<(nodesT out).length,(nodesT out)[i]'h=out[i].t:=fun h=>nodesT_get out hil2
   have hgd:out.getD i n=out[i]:=by rw [List.getD_eq_getElem?_getD,List.getElem?_eq_getElem hil2];rfl
   rw [hgd] at ho
   have q1:i*10 / 10=i:=by omega
   have q2:(i*10+8) / 10=i:=by omega
   have q3:(i*10+8) % 10=8:=by omega
   have q4:i*10 % 10=0:=by omega
   have q5:(i:Int)<out.length:=by omega
   refine K_run hB 100 ?_
   simp [go_sem]
   refine K_drawn [] rfl (by rw [hB];kernel_rfl) ?_
   by_cases c1:n.cost<out[i].cost
   ·rw [if_pos c1] at ho
    rw [ho] at g2
    refine K_run hB 100 ?_
    simp [go_sem,g5,hlen,hnj,hgi,q2,q3,q5,hil2,Node.t,c1]
    refine K_call rfl rfl rfl (args:=[n.a]) (f:=185) (by simp [go_sem,Node.a,Node.cs]) (by simp [go_sem,hB]) ((hown).spec _ _) ?_
    refine K_run hB 100 ?_
    simp [go_sem,Node.a,Node.cs,g5,hlen,hnj,hgi,q1,q4,q5,hil2,Node.t,hkk]
    refine Next.mk (k+1,out.set i n,j,_,nx+1) ?_ (Imp.slots (by simp [go_sem]) rfl rfl) (by simp only;omega)
    refine ⟨by simp only;omega,g2,by simp only [List.length_set];omega,?_,?_,by simp only;omega,by simp only;omega⟩
    ·rw [keysM_set 0 i out hil2 his]
     simp [oput,hn0,h0j,g4]
    ·simp [oput,nodesT,Node.t,List.map_set]
   ·rw [if_neg c1] at ho
    rw [ho] at g2
    refine K_run hB 100 ?_
    simp [go_sem,g5,hlen,hnj,hgi,q2,q3,q5,hil2,Node.t,c1,hkk]
    refine Next.mk (k+1,out,j,_,nx+1) ?_ (Imp.slots (by simp [go_sem]) rfl rfl) (by simp only;omega)
    refine ⟨by simp only;omega,g2,by simp only;omega,?_,?_,by simp only;omega,by simp only;omega⟩
    ·simp [oput,hn0,g4]
    ·simp [oput,hnj,g5]
 ·have:k=l.length:=by omega
  subst this
  rw [List.drop_length,List.foldl_nil] at g2
  subst g2
  simp [go_sem,g5]
end Go.Proofs.YtnoifgjiipgpoaaGreatDoor

set_option maxRecDepth 4000
namespace Go.Proofs.YtnoifgjiipgpoaaGreatDoor
open Go Go.Proofs.YtnoifgjiipgpoaaGreatDoor.R
theorem sIdx_none {s:State}:∀{l:List Node},sIdx s l=none→∀m∈l,m.s≠s
 |[],_,m,h=>by cases h
 |a :: l,h,m,hm=>by
  rw [sIdx] at h
  split at h
  ·cases h
  ·rename_i e
   rcases List.mem_cons.1 hm with rfl | hm
   ·exact e
   ·exact sIdx_none (by simpa using h) m hm
theorem set_states {out:List Node} {n:Node} {i:Nat} (h:i<out.length) (e:out[i].s=n.s):(out.set i n).map Node.s=out.map Node.s:=by
 rw [List.map_set,←e]
 apply List.ext_getElem?
 intro j
 by_cases hj:i=j
 ·subst hj
  rw [List.getElem?_set_self (by simpa using h),List.getElem?_map,List.getElem?_eq_getElem h];rfl
 ·rw [List.getElem?_set_ne hj]
theorem once1_nodup {out:List Node} (h:(out.map Node.s).Nodup) (n:Node):((once1 out n).map Node.s).Nodup:=by
 unfold once1
 split
 ·rename_i e
  rw [List.map_append,List.nodup_append]
  refine ⟨h,by simp,?_⟩
  intro a ha b hb
  simp only [List.map_cons,List.map_nil,List.mem_singleton] at hb
  obtain ⟨m,hm,rfl⟩:=List.mem_map.1 ha
  rw [hb]
  exact sIdx_none e m hm
 ·rename_i i e
  obtain ⟨h1,h2⟩:=sIdx_some e
  split
  ·rw [set_states h1 h2];exact h
  ·exact h
end Go.Proofs.YtnoifgjiipgpoaaGreatDoor

set_option maxRecDepth 4000
namespace Go.Proofs.YtnoifgjiipgpoaaGreatDoor
open Go Go.Proofs.YtnoifgjiipgpoaaGreatDoor.R
def Inst.child (x:Inst) (n:Node) (j:Int):Node:=⟨(x.move n.s j).1,sumI [n.cost,(x.move n.s j).2.1],n.path++[j]⟩
def Node.ra (n:Node) (r:Nat):AV:=.agg [.i n.s.spot,.i n.s.car,.i n.s.time,.i n.s.load,.i n.s.first,.u n.s.must,.u n.s.can,.u n.s.on,.i n.cost,.ref r]
theorem children_pure (x:Inst) (n:Node) (σ:Nat→AObj) (nx:Nat):CallQ P 186 [x.a,n.a] σ nx fun r σ' nx'=>r= .fn (.func 224) [] [.ptr nx 0,.ptr (nx+1) 0]∧nx'=nx+2∧
  σ'=oput (oput σ nx (.box x.cs)) (nx+1) (.box n.cs):=by
 refine spec_of Tryz.func186 rfl rfl (by simp [Tryz.f186]) fun B hB hnx hσ=>?_
 simp only [Tryz.f186] at hB ⊢
 refine K_run hB 100 ?_
 simp [go_sem,Inst.a,Node.a,Node.cs,Inst.cs]
 omega
theorem children1_spec (x:Inst) (n:Node) (hl:x.stops.length<2^63) (ho:n.s.ok) (hp:n.path.length<2^31) (q b1 b2:Nat) (J:Nat→(Nat→AObj)→Nat→Prop) (σ0:Nat→AObj) (nx0:Nat) (h0:J 0 σ0 nx0)
  (hb:∀k σ nx,J k σ nx→nx0≤nx∧b1<nx∧b2<nx∧σ b1= .box x.cs∧σ b2= .box n.cs)
  (hy:∀k (hk:k<(x.moves n.s).length) σ nx σ1 nx1 r,J k σ nx→(∀i,i<nx→σ1 i=σ i)→nx≤r→r<nx1→σ1 r= .arr 1 (ints (n.path++[(x.moves n.s)[k]]))→
   ∃σ' nx',YieldQ P q [(x.child n (x.moves n.s)[k]).ra r] σ1 nx1 (fun a b=>a=σ'∧b=nx')∧J (k+1) σ' nx'):
  CallQ P 224 [.yld q,.ptr b1 0,.ptr b2 0] σ0 nx0 fun _ σ' nx'=>J (x.moves n.s).length σ' nx':=by
 refine spec_of Tryz.func224 rfl rfl (by simp [Tryz.f224]) fun B hB hnx hσ=>?_
 simp only [Tryz.f224] at hB ⊢
 obtain ⟨_,_,_,a1,a2⟩:=hb 0 σ0 nx0 h0
 have hms:=moves_pure x n.s hl ho
 have hmv:=fun j=>move_pure x n.s j hl ho
 have hil:(ints (x.moves n.s)).length=(x.moves n.s).length:=List.length_map _
 have hpl:(ints n.path).length=n.path.length:=List.length_map _
 have hgt:∀(k:Nat) (h:k<(x.moves n.s).length),(ints (x.moves n.s))[k]'(by rw [hil];exact h)=[.i ((x.moves n.s)[k])]:=fun k h=>ints_getS _ h
 have hml:(x.moves n.s).length<2^63:=by
  rw [moves_can]
  have:=canB_len (fun k=>(x.move n.s k).2.2) x.stops.length
  omega
 have hmost:mostLen=4294967296:=rfl
 have hcl:=clone_spec n.path (by omega)
 generalize hX:ints (x.moves n.s)=X at *
 generalize hL:x.moves n.s=L at *
 refine K_run hB 100 ?_
 simp [go_sem,a1,a2,Inst.cs,Node.cs]
 refine K_call rfl rfl rfl (args:=[x.a,n.s.a]) (f:=204) (by simp [go_sem,Inst.a,State.a,State.cs]) (by simp [go_sem,hB]) ((hms).spec _ _) ?_
 refine K_run hB 100 ?_
 simp [go_sem,hil]
 refine K_loopP (α:=Nat×(Nat→AObj)×Nat) (fun (k,σ,nx)=>k≤L.length∧J k σ nx) (fun (k,σ,nx)=>⟨sl [(0,.yld q),(1,.ptr b1 0),(2,.ptr b2 0),(12,.t (.sl X)),(13,.i L.length),(14,.i k)],σ,nx⟩) (fun a=>L.length-a.1) (0,σ0,nx0) ⟨Nat.zero_le _,h0⟩ (Imp.slots (by simp [go_sem]) rfl rfl) ?_
 rintro ⟨k,σ,nx⟩ ⟨g1,g2⟩
 obtain ⟨gn,l1,l2,d1,d2⟩:=hb k σ nx g2
 refine K_run hB 60 ?_
 simp [go_sem]
 refine fork_dec (fun hk=>?_) (fun hk=>?_)
 ·have hkk:IntKind.i64.wrap ((k:Int)+1)=((k+1:Nat):Int):=by rw [w64 ((k:Int)+1) (by omega)];rfl
  have hget:∀h:k<X.length,X[k]'h=[.i L[k]]:=fun h=>hgt k hk
  have hyk:=hy k hk σ nx
  generalize L[k]=j at *
  have hm:=hmv j
  have hch:x.child n j=⟨(x.move n.s j).1,sumI [n.cost,(x.move n.s j).2.1],n.path++[j]⟩:=rfl
  generalize x.child n j=c at *
  generalize x.move n.s j=V at *
  obtain ⟨t,d,is⟩:=V
  simp only at hch
  have hsum:=sum_pure [n.cost,d] (by simp)
  have n1:¬b1=nx:=by omega
  have n2:¬b2=nx:=by omega
  have n3:¬b2=nx+1:=by omega
  have hcap:n.path.length+1≤mostLen:=by omega
  simp [go_sem,hil,hk,hget,d1,d2,Inst.cs,Node.cs]
  refine K_call rfl rfl rfl (args:=[x.a,n.s.a,.i j]) (f:=205) (by simp [go_sem,Inst.a,State.a,State.cs]) (by simp [go_sem,hB]) ((hm).spec _ _) ?_
  refine K_run hB 100 ?_
  simp [go_sem,mv,State.a,State.cs]
  refine K_drawnG [9,12,14] [0,1,10,11] [1] rfl (by rw [hB];kernel_rfl) (by kernel_rfl) fun ht hf'=>?_
  refine K_run hB 100 ?_
  simp [go_sem,ht,hf',d2,n2,Node.cs]
  refine K_dCallP rfl rfl rfl (args:=[.fsl (ints [n.cost,d])]) (f:=134) (by simp [go_sem,ints]) (Pure.loose hsum (by simp [bnd])) ?_
  refine K_run hB 100 ?_
  simp [go_sem,ht,hf',d2,n2,Node.cs]
  refine K_dCall rfl rfl rfl (args:=[.t (.sl (ints n.path))]) (f:=93) (by simp [go_sem]) (hcl _ _) (by decide) (okPends_does (by simp [go_sem])) ?_
  refine K_run hB 100 ?_
  simp [go_sem,ht,hf',hpl,hcap,show ¬nx=nx+1+1 by omega,show ¬nx=nx+1 by omega]
  obtain ⟨σ',nx',h1,h2⟩:=hyk (oput (oput (oput (oput (oput σ nx (.box [.i 0,.i 0,.i 0,.i 0,.i 0,.u 0,.u 0,.u 0])) nx (.box [.i t.spot,.i t.car,.i t.time,.i t.load,.i t.first,.u t.must,.u t.can,.u t.on])) (nx+1) (.arr 1 (ints n.path))) (nx+1) .dead) (nx+2) (.arr 1 (ints n.path++[[.i j]]))) (nx+3) (nx+2) g2 (fun i hi=>by simp [oput,show ¬i=nx by omega,show ¬i=nx+1 by omega,show ¬i=nx+2 by omega]) (by omega) (by omega) (by simp [oput,ints])
  refine K_dYield rfl rfl rfl (q:=q) (args:=[c.ra (nx+2)]) (σ':=σ') (nx':=nx') (by simp [go_sem]) (by simp [go_sem,Node.ra,hch]) h1 (by decide) (okPends_does ⟨.inl (by kernel_rfl),trivial⟩) ?_
  refine K_run hB 100 ?_
  simp [go_sem,hkk]
  exact Next.mk (k+1,σ',nx') ⟨by simp only;omega,h2⟩ (Imp.slots (by simp [go_sem]) rfl rfl) (by simp only;omega)
 ·have:k=L.length:=by omega
  subst this
  simp [go_sem,hnx,g2]
  exact gn
end Go.Proofs.YtnoifgjiipgpoaaGreatDoor

set_option maxRecDepth 4000
namespace Go.Proofs.YtnoifgjiipgpoaaGreatDoor
open Go Go.Proofs.YtnoifgjiipgpoaaGreatDoor.R
def Inst.kids (x:Inst) (up:Int) (n:Node):List Node:=((x.moves n.s).map (x.child n)).filter fun c=>decide (x.of c<up)
def Node.zero:Node:=⟨State.zero,0,[]⟩
def Inst.best1 (x:Inst) (b:Node×Bool) (n:Node):Node×Bool:=
 if (x.endS n.s).2=true∧(b.2=false∨sumI [n.cost,(x.endS n.s).1]<b.1.cost) then ({n with cost:=sumI [n.cost,(x.endS n.s).1]},true) else b
def Inst.bests (x:Inst) (l:List Node):Node×Bool:=l.foldl x.best1 (Node.zero,false)
def Inst.next (x:Inst) (l:List Node) (up:Int):List Node:=onceL (l.flatMap (x.kids up))
theorem moves_33 (x:Inst) (s:State):(x.moves s).length≤33:=by
 cases hm:x.may with
 |false=>
  rw [Inst.moves,if_neg (by simp [hm])];simp
 |true=>
  obtain ⟨p,hx⟩:=x.fit hm
  have:=hx.len
  have:=hx.few
  have:=moves_len x s
  omega
theorem kids_33 (x:Inst) (up:Int) (n:Node):(x.kids up n).length≤33:=by
 unfold Inst.kids
 refine Nat.le_trans (List.length_filter_le _ _) ?_
 rw [List.length_map]
 exact moves_33 x n.s
def expRes (l:List Node) (b:Node×Bool):AV:=.tup [.t (.sl (nodesT l)),b.1.a,.b b.2]
theorem take_kids (x:Inst) (up:Int) (n:Node) {k:Nat} (hk:k<(x.moves n.s).length):
  (((x.moves n.s).take (k+1)).map (x.child n)).filter (fun c=>decide (x.of c<up))=(((x.moves n.s).take k).map (x.child n)).filter (fun c=>decide (x.of c<up))++(if x.of (x.child n (x.moves n.s)[k])<up then [x.child n (x.moves n.s)[k]] else []):=by
 rw [List.take_succ_eq_append_getElem hk,List.map_append,List.filter_append]
 congr 1
 simp only [List.map_cons,List.map_nil,List.filter_cons,List.filter_nil,decide_eq_true_eq]
structure Loop14 (x:Inst) (up:Int) (n:Node) (all:List Node) (b:Node) (L:AObj) (nx0 b1:Nat) (k:Nat) (σ:Nat→AObj) (nx:Nat):Prop where
 o0:σ 0= .box x.cs
 o1:σ 1= .box [.i up]
 o2:σ 2= .box Node.zero.cs
 o4:σ 4= .box b.cs
 p1:σ b1= .box x.cs
 p2:σ (b1+1)= .box n.cs
 q:σ (b1+2)=L
 le:nx0≤nx∧b1+2<nx∧4<b1
 row:∃a,σ 3= .box [.ref a]∧σ a= .arr 10 (nodesT (all++(((x.moves n.s).take k).map (x.child n)).filter fun c=>decide (x.of c<up)))∧4<a∧a<nx∧a≠b1∧a≠b1+1∧a≠b1+2
theorem expand_pure (x:Inst) (l:List Node) (up:Int) (hl:x.stops.length<2^31) (hll:l.length<2^20) (hn:∀n∈l,n.Fine) (hn2:∀n∈l,n.path.length<2^30):Pure P 138 [x.a,.t (.sl (nodesT l)),.i up] (expRes (x.next l up) (x.bests l)):=by
 generalize hR:x.next l up=R
 generalize hRb:x.bests l=Rb
 refine pure_ofR Tryz.func138 rfl rfl (by simp [Tryz.f138]) (by simp [bnd,bnd.bndL,Inst.a]) (by simp [bnd,bnd.bndL,expRes,Node.a,Node.cs]) fun B hB hnx hro=>?_
 simp only [Tryz.f138] at hB ⊢
 have hil:(nodesT l).length=l.length:=List.length_map _
 have hgt:∀(k:Nat) (h:k<l.length),(nodesT l)[k]'(by rw [hil];exact h)=l[k].t:=fun k h=>nodesT_get l h
 generalize hX:nodesT l=X at *
 have hmost:mostLen=4294967296:=rfl
 rw [Inst.next] at hR
 rw [Inst.bests] at hRb
 refine K_run hB 100 ?_
 simp [go_sem,Inst.a,hil]
 refine K_less (((Imp.ownB (b:=3) (off:=0) (sz:=10) (cs:=[.fsl []]) (by simp [go_sem]) rfl).trans (Imp.looseB (b:=2) (cs:=[.i 0,.i 0,.i 0,.i 0,.i 0,.u 0,.u 0,.u 0,.i 0,.fsl []]) (by simp [oput]))).trans (Imp.looseB (b:=4) (cs:=[.i 0,.i 0,.i 0,.i 0,.i 0,.u 0,.u 0,.u 0,.i 0,.fsl []]) (by simp [oput]))) ?_
 refine K_loopP (α:=Nat×List Node×(Node×Bool)×Nat×(Nat→AObj)×Nat) (fun (k,all,b,a,σ,nx)=>k≤l.length∧(all++(l.drop k).flatMap (x.kids up)=l.flatMap (x.kids up)∧all.length≤33*k)∧(l.drop k).foldl x.best1 b=Rb∧σ 0= .box x.cs∧σ 1= .box [.i up]∧σ 2= .box Node.zero.cs∧σ 3= .box [.ref a]∧σ 4= .box b.1.cs∧σ a= .arr 10 (nodesT all)∧4<a∧a<nx)
  (fun (k,all,b,a,σ,nx)=>⟨sl [(3,.ptr 0 0),(5,.ptr 1 0),(7,.ptr 2 0),(9,.ptr 3 0),(10,.ptr 4 0),(11,.b b.2),(18,.t (.sl X)),(19,.i l.length),(20,.i k)],σ,nx⟩) (fun a=>l.length-a.1) (0,[],(Node.zero,false),5,_,6) ?_ (Imp.slots (by simp [go_sem]) rfl rfl) ?_
 ·exact ⟨Nat.zero_le _,⟨rfl,Nat.le_refl _⟩,hRb,by simp [oput,Inst.cs],by simp [oput],by simp [oput,Node.zero,State.zero,Node.cs,ints,loosen],by simp [oput],by simp [oput,Node.zero,State.zero,Node.cs,ints,loosen],by simp [oput,nodesT],by omega,by omega⟩
 rintro ⟨k,all,b,a,σ,nx⟩ ⟨g1,⟨g2,g2'⟩,g3,h0,h1,h2,h3,h4,h5,h6,h7⟩
 refine K_run hB 60 ?_
 simp [go_sem]
 refine fork_dec (fun hk=>?_) (fun hk=>?_)
 ·have hkk:IntKind.i64.wrap ((k:Int)+1)=((k+1:Nat):Int):=by rw [w64 ((k:Int)+1) (by omega)];rfl
  have hget:∀h:k<X.length,X[k]'h=l[k].t:=fun h=>hgt k hk
  rw [List.drop_eq_getElem_cons hk,List.flatMap_cons] at g2
  rw [List.drop_eq_getElem_cons hk,List.foldl_cons] at g3
  have hfine:=hn l[k] (List.getElem_mem _)
  have hpath:=hn2 l[k] (List.getElem_mem _)
  generalize l[k]=n at *
  have hen:=end_pure x n.s (by omega) hfine.ok
  have hown:=own_pure n (by omega)
  have hbe:x.best1 b n=if (x.endS n.s).2=true∧(b.2=false∨sumI [n.cost,(x.endS n.s).1]<b.1.cost) then ({n with cost:=sumI [n.cost,(x.endS n.s).1]},true) else b:=rfl
  have m0:¬0=nx:=by omega
  have m1:¬1=nx:=by omega
  have m2:¬2=nx:=by omega
  have m3:¬3=nx:=by omega
  have m4:¬4=nx:=by omega
  have ma:¬a=nx:=by omega
  have ma4:¬a=4:=by omega
  have mn4:¬nx=4:=by omega
  simp [go_sem,hil,hk,hget,Node.t,h0,m0,Inst.cs]
  refine K_call rfl rfl rfl (args:=[x.a,n.s.a]) (f:=158) (by simp [go_sem,Inst.a,State.a,State.cs]) (by simp [go_sem,hB]) ((hen).spec _ _) ?_
  refine K_run hB 10 ?_
  simp [go_sem]
  refine K_cut (α:=Nat→AObj) (fun σ'=>σ' 0= .box x.cs∧σ' 1= .box [.i up]∧σ' 2= .box Node.zero.cs∧σ' 3= .box [.ref a]∧σ' 4= .box (x.best1 b n).1.cs∧σ' a= .arr 10 (nodesT all)∧σ' nx= .box n.cs)
   (fun σ'=>⟨sl [(3,.ptr 0 0),(5,.ptr 1 0),(7,.ptr 2 0),(9,.ptr 3 0),(10,.ptr 4 0),(11,.b (x.best1 b n).2),(13,.ptr nx 0),(18,.t (.sl X)),(19,.i l.length),(20,.i k)],σ',nx+1⟩) ?_ ?_
  ·have hsum:=sum_pure [n.cost,(x.endS n.s).1] (by simp)
   generalize x.best1 b n=b' at *
   generalize x.endS n.s=E at *
   obtain ⟨c,is⟩:=E
   cases is with
   |false=>
    rw [if_neg (by simp)] at hbe
    subst hbe
    refine K_run hB 100 ?_
    simp [go_sem]
    refine ⟨_,⟨?_,?_,?_,?_,?_,?_,?_⟩,Imp.slots (by simp [go_sem]) rfl rfl⟩
    all_goals simp [oput,m0,m1,m2,m3,m4,ma,h0,h1,h2,h3,h4,h5,Inst.cs,Node.cs]
   |true=>
    simp only [true_and] at hbe
    refine K_run hB 100 ?_
    simp [go_sem]
    refine K_call rfl rfl rfl (args:=[.fsl (ints [n.cost,c])]) (f:=134) (by simp [go_sem,ints]) (by simp [go_sem,hB]) ((Pure.loose hsum (by simp [bnd])).spec _ _) ?_
    generalize sumI [n.cost,c]=e at *
    by_cases c1:b.2=false∨e<b.1.cost
    ·rw [if_pos c1] at hbe
     subst hbe
     cases c2:b.2 with
     |false=>
      refine K_run hB 100 ?_
      simp [go_sem,c2]
      refine K_call rfl rfl rfl (args:=[n.a]) (f:=185) (by simp [go_sem,Node.a,Node.cs]) (by simp [go_sem,hB]) ((hown).spec _ _) ?_
      refine K_run hB 100 ?_
      simp [go_sem,Node.a,Node.cs,h4,m4,mn4]
      refine ⟨_,⟨?_,?_,?_,?_,?_,?_,?_⟩,Imp.slots (by simp [go_sem]) rfl rfl⟩
      all_goals simp [oput,m0,m1,m2,m3,m4,ma,ma4,mn4,h0,h1,h2,h3,h4,h5,Inst.cs,Node.cs]
     |true=>
      have c3:e<b.1.cost:=c1.resolve_left (by simp [c2])
      refine K_run hB 100 ?_
      simp [go_sem,c2,h4,m4,Node.cs,c3]
      refine K_call rfl rfl rfl (args:=[n.a]) (f:=185) (by simp [go_sem,Node.a,Node.cs]) (by simp [go_sem,hB]) ((hown).spec _ _) ?_
      refine K_run hB 100 ?_
      simp [go_sem,Node.a,Node.cs,h4,m4,mn4]
      refine ⟨_,⟨?_,?_,?_,?_,?_,?_,?_⟩,Imp.slots (by simp [go_sem]) rfl rfl⟩
      all_goals simp [oput,m0,m1,m2,m3,m4,ma,ma4,mn4,h0,h1,h2,h3,h4,h5,Inst.cs,Node.cs]
    ·rw [if_neg c1] at hbe
     subst hbe
     have c2:b'.2=true:=by
      cases h:b'.2 with
      |true=>rfl
      |false=>exact absurd (.inl h) c1
     have c3:¬e<b'.1.cost:=fun h=>c1 (.inr h)
     refine K_run hB 100 ?_
     simp [go_sem,c2,h4,m4,Node.cs,c3]
     refine ⟨_,⟨?_,?_,?_,?_,?_,?_,?_⟩,Imp.slots (by simp [go_sem,c2]) rfl rfl⟩
     all_goals simp [oput,m0,m1,m2,m3,m4,ma,h0,h1,h2,h3,h4,h5,Inst.cs,Node.cs]
  rintro σ' ⟨k0,k1,k2,k3,k4,k5,k6⟩
  have hch:=children_pure x n
  refine K_run hB 100 ?_
  simp [go_sem,k0,k6,Inst.cs,Node.cs]
  refine K_callQ rfl rfl rfl (args:=[x.a,n.a]) (f:=186) (by simp [go_sem,Inst.a,Node.a,Node.cs]) (by simp [go_sem,hB]) (hch _ _) ?_
  rintro r σ2 nx2 ⟨rfl,rfl,rfl⟩
  refine K_run hB 100 ?_
  simp [go_sem]
  generalize hb':x.best1 b n=b' at *
  have hsp:=children1_spec x n (by omega) hfine.ok (by omega)
  have hk33:=moves_33 x n.s
  refine K_less (Imp.slots (l:=[(3,.ptr 0 0),(5,.ptr 1 0),(7,.ptr 2 0),(9,.ptr 3 0),(10,.ptr 4 0),(11,.b b'.2),(18,.t (.sl X)),(19,.i l.length),(20,.i k),(51,.fn (.func 224) [] [.ptr (nx+1) 0,.ptr (nx+2) 0])]) (by simp [go_sem]) rfl rfl) ?_
  refine K_range hro (f:=224) (args:=[.yld (nx+3),.ptr (nx+1) 0,.ptr (nx+2) 0]) (by simp [go_sem]) fun L hL=>⟨fun _ σ3 nx3=>Loop14 x up n all b'.1 L (nx+4) (nx+1) (x.moves n.s).length σ3 nx3,?_,?_⟩
  ·refine hsp (nx+3) (nx+1) (nx+2) (Loop14 x up n all b'.1 L (nx+4) (nx+1)) _ (nx+4) ?_ ?_ ?_
   ·refine ⟨?_,?_,?_,?_,?_,?_,?_,by omega,⟨a,?_,?_,by omega,by omega,by omega,by omega,by omega⟩⟩
    all_goals simp [oput,k0,k1,k2,k3,k4,k5,show ¬nx=0 by omega,show ¬nx=1 by omega,show ¬nx=2 by omega,show ¬nx=3 by omega,show ¬0=nx+3 by omega,show ¬1=nx+3 by omega,show ¬2=nx+3 by omega,show ¬3=nx+3 by omega,show ¬4=nx+3 by omega,show ¬a=nx+3 by omega,
     show ¬0=nx+2 by omega,show ¬1=nx+2 by omega,show ¬2=nx+2 by omega,show ¬3=nx+2 by omega,show ¬4=nx+2 by omega,show ¬a=nx+2 by omega,show ¬0=nx+1 by omega,show ¬1=nx+1 by omega,show ¬2=nx+1 by omega,show ¬3=nx+1 by omega,show ¬4=nx+1 by omega,show ¬a=nx+1 by omega,Inst.cs,Node.cs]
   ·rintro k' σ3 nx3 hJ
    have:=hJ.le
    exact ⟨this.1,by omega,by omega,hJ.p1,hJ.p2⟩
   ·intro k' hk' σ3 nx3 σ4 nx4 r hJ hag hr1 hr2 hr3
    have hle:=hJ.le
    obtain ⟨a',r1,r2,r3,r4,r5,r6,r7⟩:=hJ.row
    have htk:=take_kids x up n hk'
    have hcok:(x.child n (x.moves n.s)[k']).s.ok:=move_ok x _ hfine.ok
    have hcp:(x.child n (x.moves n.s)[k']).path=n.path++[(x.moves n.s)[k']]:=rfl
    rw [←hcp] at hr3
    generalize x.child n (x.moves n.s)[k']=c at *
    have hof:=of_pure x c hl hcok
    have hlen:(nodesT (all++(((x.moves n.s).take k').map (x.child n)).filter fun c=>decide (x.of c<up))).length+1≤mostLen:=by
     rw [nodesT,List.length_map,List.length_append]
     have:=List.length_filter_le (fun c=>decide (x.of c<up)) (((x.moves n.s).take k').map (x.child n))
     rw [List.length_map,List.length_take] at this
     omega
    generalize (((x.moves n.s).take k').map (x.child n)).filter (fun c=>decide (x.of c<up))=F at *
    have s0:σ4 0= .box x.cs:=(hag 0 (by omega)).trans hJ.o0
    have s1:σ4 1= .box [.i up]:=(hag 1 (by omega)).trans hJ.o1
    have s2:σ4 2= .box Node.zero.cs:=(hag 2 (by omega)).trans hJ.o2
    have s3:σ4 3= .box [.ref a']:=(hag 3 (by omega)).trans r1
    have s4:σ4 4= .box b'.1.cs:=(hag 4 (by omega)).trans hJ.o4
    have s5:σ4 a'= .arr 10 (nodesT (all++F)):=(hag a' (by omega)).trans r2
    have s6:σ4 (nx+1)= .box x.cs:=(hag (nx+1) (by omega)).trans hJ.p1
    have s7:σ4 (nx+2)= .box n.cs:=(hag (nx+2) (by omega)).trans hJ.p2
    have s8:σ4 (nx+3)=L:=(hag (nx+3) (by omega)).trans hJ.q
    obtain ⟨σ5,hσ5⟩:∃σ5:Nat→AObj,σ5=fun j=>if j=r then AObj.dead else frzO r (ints c.path) (σ4 j):=⟨_,rfl⟩
    have f0:σ5 0= .box x.cs:=by simp [hσ5,show ¬0=r by omega,s0,frzO,frz1,frz1.frzL,Inst.cs]
    have f1:σ5 1= .box [.i up]:=by simp [hσ5,show ¬1=r by omega,s1,frzO,frz1,frz1.frzL]
    have f2:σ5 2= .box Node.zero.cs:=by simp [hσ5,show ¬2=r by omega,s2,frzO,frz1,frz1.frzL,Node.cs]
    have f3:σ5 3= .box [.ref a']:=by simp [hσ5,show ¬3=r by omega,s3,frzO,frz1,frz1.frzL,show ¬a'=r by omega]
    have f4:σ5 4= .box b'.1.cs:=by simp [hσ5,show ¬4=r by omega,s4,frzO,frz1,frz1.frzL,Node.cs]
    have f5:σ5 a'= .arr 10 (nodesT (all++F)):=by simp [hσ5,show ¬a'=r by omega,s5,frzO]
    have f6:σ5 (nx+1)= .box x.cs:=by simp [hσ5,show ¬nx+1=r by omega,s6,frzO,frz1,frz1.frzL,Inst.cs]
    have f7:σ5 (nx+2)= .box n.cs:=by simp [hσ5,show ¬nx+2=r by omega,s7,frzO,frz1,frz1.frzL,Node.cs]
    have f8:σ5 (nx+3)=L:=by simp [hσ5,show ¬nx+3=r by omega,s8,hL,frzO]
    have d0:¬0=nx4:=by omega
    have d1:¬1=nx4:=by omega
    have d2:¬2=nx4:=by omega
    have d3:¬3=nx4:=by omega
    have d4:¬4=nx4:=by omega
    have d5:¬a'=nx4:=by omega
    have d6:¬nx+1=nx4:=by omega
    have d7:¬nx+2=nx4:=by omega
    have d8:¬nx+3=nx4:=by omega
    have hB0:=hB
    by_cases hlt:x.of c<up
    ·refine ⟨oput (oput (oput (oput (oput σ5 nx4 (.box c.cs)) a' .dead) (nx4+1) (.arr 10 (nodesT (all++F)++[c.t]))) 3 (.box [.ref (nx4+1)])) (nx+3) L,nx4+2,?y,?j⟩
     case y=>
      refine yield_of (s8.trans hL) rfl (by rw [hB];rfl) fun B' hB' hnx' hσ'=>?_
      have hL':=hL
      rw [hB] at hL'
      have hB:=hB'.trans hB
      refine K_less ((Imp.freeze (q:=r) (sz:=1) (es:=ints c.path) hr3).trans (Imp.slots (l:=[(3,.ptr 0 0),(5,.ptr 1 0),(9,.ptr 3 0),(52,c.a)]) (by simp [go_sem,roundM,putL,frz1,frz1.frzL,hB0,Node.ra,Node.a,Node.cs]) hσ5 rfl)) ?_
      refine K_run hB 100 ?_
      simp [go_sem,f8,d8,hL,Node.a,Node.cs]
      refine K_run hB 100 ?_
      simp [go_sem]
      refine K_drawn [] rfl (by rw [hB];kernel_rfl) ?_
      refine K_run hB 100 ?_
      simp [go_sem,f0,d0,d8,show ¬nx4=nx+3 by omega,Inst.cs]
      refine K_dCallP rfl rfl rfl (args:=[x.a,c.a]) (f:=84) (by simp [go_sem,Inst.a,Node.a,Node.cs]) (hof) ?_
      refine K_run hB 100 ?_
      simp [go_sem,f1,f3,f5,d1,d3,d5,d8,hlt,hlen,Node.cs,show ¬nx4=nx+3 by omega,show ¬a'=nx+3 by omega,show ¬nx=0 by omega,show ¬nx+3=a' by omega,show ¬nx+3=nx4 by omega,show ¬nx+3=nx4+1 by omega,show ¬nx4=2 by omega,show ¬3=a' by omega,show ¬nx4=nx+2 by omega,f8]
      funext i
      have w1:¬nx=0:=by omega
      have w2:¬a'=nx+3:=by omega
      have w3:¬nx4=nx+3:=by omega
      have w4:¬nx4+1=nx+3:=by omega
      have w6:¬nx4=nx+2:=by omega
      have w7:¬a'=3:=by omega
      have w8:¬a'=nx4+1:=by omega
      by_cases e1:i=nx+3
      ·simp [oput,e1,hL,hB,hB0]
      by_cases e2:i=3
      ·simp [oput,e2,w1]
      by_cases e3:i=nx4+1
      ·simp [oput,e3,w4,w6,Node.t,nodesT]
      by_cases e4:i=a'
      ·simp [oput,e4,w2,w7,w8]
      by_cases e5:i=nx4
      ·simp [oput,e1,e2,e3,e4,e5,w3,Node.cs]
      simp [oput,e1,e2,e3,e4,e5]
     case j=>
      rw [if_pos hlt] at htk
      have v0:∀j,j≤4→j≠3→¬j=a'∧¬j=nx4+1:=by intros;omega
      have w0:¬nx4=0:=by omega
      have w1:¬nx4=1:=by omega
      have w2:¬nx=2:=by omega
      have w3:¬nx=1:=by omega
      have w4:¬nx=nx4:=by omega
      have w5:¬nx=0:=by omega
      have w6:¬nx4=nx+2:=by omega
      have w7:¬nx4=nx+3:=by omega
      have w8:¬nx4=2:=by omega
      have w9:¬nx4=3:=by omega
      have wa:=v0 0 (by omega) (by omega)
      have wb:=v0 1 (by omega) (by omega)
      have wc:=v0 2 (by omega) (by omega)
      have wd:=v0 4 (by omega) (by omega)
      have we:¬nx+1=a':=by omega
      have wf:¬nx+2=a':=by omega
      refine ⟨?_,?_,?_,?_,?_,?_,?_,by omega,⟨nx4+1,?_,?_,by omega,by omega,by omega,by omega,by omega⟩⟩
      ·simp [oput,d0,f0,w0,Inst.cs,wa.1,wa.2,w0,show ¬0=nx4+1 by omega]
      ·simp [oput,d1,f1,wb.1,wb.2,w1,w0]
      ·simp [oput,d2,f2,wc.1,wc.2,w8,Node.cs]
      ·simp [oput,f4,wd.1,wd.2,show ¬4=nx4 by omega,show ¬4=nx4+1 by omega,show ¬4=nx+3 by omega,Node.cs]
      ·simp [oput,d6,f6,we,w2,w4,show ¬nx+1=nx4 by omega,Inst.cs]
      ·simp [oput,d7,f7,wf,show ¬nx+1=nx4 by omega,show ¬nx+2=3 by omega,show ¬nx+2=nx4+1 by omega,Node.cs]
      ·simp [oput]
      ·simp [oput,w5]
      ·rw [htk]
       simp [oput,w6,w8,nodesT]
    ·refine ⟨oput (oput σ5 nx4 (.box c.cs)) (nx+3) L,nx4+1,?y,?j⟩
     case y=>
      refine yield_of (s8.trans hL) rfl (by rw [hB];rfl) fun B' hB' hnx' hσ'=>?_
      have hL':=hL
      rw [hB] at hL'
      have hB:=hB'.trans hB
      refine K_less ((Imp.freeze (q:=r) (sz:=1) (es:=ints c.path) hr3).trans (Imp.slots (l:=[(3,.ptr 0 0),(5,.ptr 1 0),(9,.ptr 3 0),(52,c.a)]) (by simp [go_sem,roundM,putL,frz1,frz1.frzL,hB0,Node.ra,Node.a,Node.cs]) hσ5 rfl)) ?_
      refine K_run hB 100 ?_
      simp [go_sem,f8,d8,hL,Node.a,Node.cs]
      refine K_run hB 100 ?_
      simp [go_sem]
      refine K_drawn [] rfl (by rw [hB];kernel_rfl) ?_
      refine K_run hB 100 ?_
      simp [go_sem,f0,d0,d8,show ¬nx4=nx+3 by omega,Inst.cs]
      refine K_dCallP rfl rfl rfl (args:=[x.a,c.a]) (f:=84) (by simp [go_sem,Inst.a,Node.a,Node.cs]) (hof) ?_
      refine K_run hB 100 ?_
      simp [go_sem,f1,f3,f5,d1,d3,d5,d8,hlt,hlen,Node.cs,show ¬nx4=nx+3 by omega,show ¬a'=nx+3 by omega,show ¬nx=0 by omega,show ¬nx+3=a' by omega,show ¬nx+3=nx4 by omega,show ¬nx+3=nx4+1 by omega,show ¬nx4=2 by omega,show ¬3=a' by omega,show ¬nx4=nx+2 by omega,f8]
      funext i
      have w3:¬nx4=nx+3:=by omega
      by_cases e1:i=nx+3
      ·simp [oput,e1,hL,hB,hB0]
      by_cases e5:i=nx4
      ·simp [oput,e5,w3,Node.cs]
      simp [oput,e1,e5]
     case j=>
      rw [if_neg hlt,List.append_nil] at htk
      have v0:∀j,j≤4→¬j=nx4∧¬j=nx+3:=by intros;omega
      have w0:=v0 0 (by omega)
      have w1:=v0 1 (by omega)
      have w2:=v0 2 (by omega)
      have w3:=v0 3 (by omega)
      have w4:=v0 4 (by omega)
      have we:¬nx+1=nx4:=by omega
      have wf:¬nx+2=nx4:=by omega
      have wg:¬nx=0:=by omega
      have wh:¬a'=nx4:=by omega
      have wi:¬a'=nx+3:=by omega
      refine ⟨?_,?_,?_,?_,?_,?_,?_,by omega,⟨a',?_,?_,by omega,by omega,by omega,by omega,by omega⟩⟩
      ·simp [oput,f0,w0,Inst.cs]
      ·simp [oput,f1,w1,w1.2]
      ·simp [oput,f2,w2,Node.cs]
      ·simp [oput,f4,w4,Node.cs]
      ·simp [oput,f6,we,Inst.cs]
      ·simp [oput,f7,wf,Node.cs]
      ·simp [oput]
      ·simp [oput,f3,w3,wg]
      ·rw [htk]
       simp [oput,f5,wh,wi]
  ·rintro r σ3 nx3 hJ
   refine ⟨hJ.q,?_⟩
   have hle:=hJ.le
   obtain ⟨a',r1,r2,r3,r4,r5,r6,r7⟩:=hJ.row
   rw [List.take_length] at r2
   have hkl:(((x.moves n.s).map (x.child n)).filter fun c=>decide (x.of c<up))=x.kids up n:=rfl
   rw [hkl] at r2
   have hkl2:=kids_33 x up n
   refine K_run hB 100 ?_
   simp [go_sem,hkk]
   refine Next.mk (k+1,all++x.kids up n,b',a',oput σ3 (nx+3) .dead,nx3) ?_ (Imp.slots (by simp [go_sem]) rfl rfl) (by simp only;omega)
   have v0:∀j,j≤4→¬j=nx+3:=by intros;omega
   have w0:=v0 0 (by omega)
   have w1:=v0 1 (by omega)
   have w2:=v0 2 (by omega)
   have w3:¬nx=0:=by omega
   have w4:=v0 4 (by omega)
   have w5:¬a'=nx+3:=by omega
   refine ⟨by simp only;omega,⟨by rw [List.append_assoc];exact g2,by simp only [List.length_append];omega⟩,g3,?_,?_,?_,?_,?_,?_,by simp only;omega,by simp only;omega⟩
   ·simp [oput,w0,hJ.o0]
   ·simp [oput,w1,hJ.o1]
   ·simp [oput,w2,hJ.o2,Node.cs]
   ·simp [oput,w3,r1]
   ·simp [oput,w4,hJ.o4,Node.cs]
   ·simp [oput,w5,r2]
 ·have:k=l.length:=by omega
  subst this
  rw [List.drop_length,List.flatMap_nil,List.append_nil] at g2
  rw [List.drop_length,List.foldl_nil] at g3
  subst g3
  rw [←g2] at hR
  have hfa:∀n∈all,n.Fine:=by
   intro c hc
   rw [g2] at hc
   obtain ⟨n,hn3,hc⟩:=List.mem_flatMap.1 hc
   obtain ⟨hc,-⟩:=List.mem_filter.1 hc
   obtain ⟨j,hj,rfl⟩:=List.mem_map.1 hc
   refine ⟨move_ok x _ (hn n hn3).ok,?_⟩
   have:=hn2 n hn3
   show (n.path++[j]).length<2^31
   rw [List.length_append]
   simp only [List.length_cons,List.length_nil]
   omega
  have hon:=once_pure all (by omega) hfa
  rw [hR] at hon
  refine K_run hB 60 ?_
  simp [go_sem]
  obtain ⟨σ5,hσ5⟩:∃σ5:Nat→AObj,σ5=fun j=>if j=a then AObj.dead else frzO a (nodesT all) (σ j):=⟨_,rfl⟩
  have f0:σ5 0= .box x.cs:=by simp [hσ5,show ¬0=a by omega,h0,frzO,frz1,frz1.frzL,Inst.cs]
  have f2:σ5 2= .box Node.zero.cs:=by simp [hσ5,show ¬2=a by omega,h2,frzO,frz1,frz1.frzL,Node.cs]
  have f3:σ5 3= .box [.t (.sl (nodesT all))]:=by simp [hσ5,show ¬3=a by omega,h3,frzO,frz1,frz1.frzL]
  have f4:σ5 4= .box b.1.cs:=by simp [hσ5,show ¬4=a by omega,h4,frzO,frz1,frz1.frzL,Node.cs]
  refine K_less ((Imp.freeze (q:=a) (sz:=10) (es:=nodesT all) h5).trans (Imp.slots (l:=[(7,.ptr 2 0),(9,.ptr 3 0),(10,.ptr 4 0),(11,.b b.2)]) (by simp [go_sem,frz1,frz1.frzL]) hσ5 rfl)) ?_
  refine K_drawnF [5] [3] rfl (by rw [hB];kernel_rfl) (by kernel_rfl) fun ht hf'=>?_
  refine K_run hB 100 ?_
  simp [go_sem,ht,hf',f3]
  refine K_dCallP rfl rfl rfl (args:=[.t (.sl (nodesT all))]) (f:=187) (by simp [go_sem]) (hon) ?_
  refine K_run hB 100 ?_
  simp [go_sem,ht,hf',f4,f2,Node.cs]
  rfl
end Go.Proofs.YtnoifgjiipgpoaaGreatDoor

set_option maxRecDepth 4000
namespace Go.Proofs.YtnoifgjiipgpoaaGreatDoor
open Go Go.Proofs.YtnoifgjiipgpoaaGreatDoor.R
theorem once1_mem {out:List Node} {n m:Node} (h:m∈once1 out n):m∈out∨m=n:=by
 unfold once1 at h
 split at h
 ·rcases List.mem_append.1 h with h | h
  ·exact .inl h
  ·exact .inr (List.mem_singleton.1 h)
 ·split at h
  ·exact List.mem_or_eq_of_mem_set h
  ·exact .inl h
theorem fold_mem:∀(l out:List Node) {m:Node},m∈l.foldl once1 out→m∈out∨m∈l
 |[],out,m,h=>.inl h
 |n :: l,out,m,h=>by
  rcases fold_mem l (once1 out n) h with h | h
  ·rcases once1_mem h with h | rfl
   ·exact .inl h
   ·exact .inr List.mem_cons_self
  ·exact .inr (List.mem_cons_of_mem _ h)
theorem onceL_mem {l:List Node} {m:Node} (h:m∈onceL l):m∈l:=(fold_mem l [] h).resolve_left (by simp)
theorem fold_len:∀(l out:List Node),(l.foldl once1 out).length≤out.length+l.length
 |[],out=>Nat.le_refl _
 |n :: l,out=>by
  have h1:=fold_len l (once1 out n)
  have h2:=once1_len out n
  simp only [List.foldl_cons,List.length_cons]
  omega
theorem onceL_len (l:List Node):(onceL l).length≤l.length:=by
 have:=fold_len l []
 simpa [onceL] using this
theorem flat_len {α β:Type} (f:α→List β) (k:Nat) (h:∀a,(f a).length≤k):∀l:List α,(l.flatMap f).length≤k*l.length
 |[]=>by simp
 |a :: l=>by
  have h1:=h a
  have h2:=flat_len f k h l
  rw [List.flatMap_cons,List.length_append,List.length_cons,Nat.mul_add]
  omega
theorem next_len (x:Inst) (l:List Node) (up:Int):(x.next l up).length≤33*l.length:=
 Nat.le_trans (onceL_len _) (flat_len _ 33 (kids_33 x up) l)
theorem next_mem {x:Inst} {l:List Node} {up:Int} {m:Node} (h:m∈x.next l up):∃n∈l,∃j∈x.moves n.s,m=x.child n j∧x.of m<up:=by
 obtain ⟨n,hn,hc⟩:=List.mem_flatMap.1 (onceL_mem h)
 obtain ⟨hc,hu⟩:=List.mem_filter.1 hc
 obtain ⟨j,hj,rfl⟩:=List.mem_map.1 hc
 exact ⟨n,hn,j,hj,rfl,by simpa using hu⟩
theorem best_path (x:Inst) (k:Nat):∀(l:List Node) (b:Node×Bool),(∀n∈l,n.path.length≤k)→b.1.path.length≤k→(l.foldl x.best1 b).1.path.length≤k
 |[],b,h,hb=>hb
 |n :: l,b,h,hb=>by
  refine best_path x k l _ (fun m hm=>h m (List.mem_cons_of_mem _ hm)) ?_
  unfold Inst.best1
  split
  ·exact h n List.mem_cons_self
  ·exact hb
theorem bests_path {x:Inst} {k:Nat} {l:List Node} (h:∀n∈l,n.path.length≤k):(x.bests l).1.path.length≤k:=best_path x k l _ h (Nat.zero_le _)
end Go.Proofs.YtnoifgjiipgpoaaGreatDoor

set_option maxRecDepth 4000
namespace Go.Proofs.YtnoifgjiipgpoaaGreatDoor
open Go Go.Proofs.YtnoifgjiipgpoaaGreatDoor.R
theorem fold_nodup:∀(l out:List Node),(out.map Node.s).Nodup→((l.foldl once1 out).map Node.s).Nodup
 |[],_,h=>h
 |n :: l,out,h=>fold_nodup l _ (once1_nodup h n)
theorem onceL_nodup (l:List Node):((onceL l).map Node.s).Nodup:=fold_nodup l [] (by simp)
theorem once1_self (out:List Node) (n:Node):∃m∈once1 out n,m.s=n.s∧m.cost≤n.cost:=by
 unfold once1
 split
 ·exact ⟨n,by simp,rfl,Int.le_refl _⟩
 ·rename_i i e
  obtain ⟨h1,h2⟩:=sIdx_some e
  have hgd:out.getD i n=out[i]:=by rw [List.getD_eq_getElem?_getD,List.getElem?_eq_getElem h1];rfl
  rw [hgd]
  split
  ·exact ⟨n,List.mem_set h1 n,rfl,Int.le_refl _⟩
  ·exact ⟨out[i],List.getElem_mem h1,h2,by omega⟩
theorem once1_has (out:List Node) (n k:Node) (h:∃m∈out,m.s=k.s∧m.cost≤k.cost):∃m∈once1 out n,m.s=k.s∧m.cost≤k.cost:=by
 obtain ⟨m,hm,h1,h2⟩:=h
 unfold once1
 split
 ·exact ⟨m,List.mem_append_left _ hm,h1,h2⟩
 ·rename_i i e
  obtain ⟨h3,h4⟩:=sIdx_some e
  have hgd:out.getD i n=out[i]:=by rw [List.getD_eq_getElem?_getD,List.getElem?_eq_getElem h3];rfl
  rw [hgd]
  split
  ·rename_i hc
   obtain ⟨j,hj,rfl⟩:=List.mem_iff_getElem.1 hm
   by_cases e2:i=j
   ·subst e2
    exact ⟨n,List.mem_set h3 n,by rw [←h4,h1],by omega⟩
   ·refine ⟨out[j],?_,h1,h2⟩
    rw [List.mem_iff_getElem]
    exact ⟨j,by simpa using hj,by rw [List.getElem_set_ne e2]⟩
  ·exact ⟨m,hm,h1,h2⟩
theorem fold_has:∀(l out:List Node) (k:Node),(k∈l∨∃m∈out,m.s=k.s∧m.cost≤k.cost)→∃m∈l.foldl once1 out,m.s=k.s∧m.cost≤k.cost
 |[],out,k,h=>h.resolve_left (by simp)
 |n :: l,out,k,h=>by
  refine fold_has l (once1 out n) k ?_
  rcases h with h | h
  ·rcases List.mem_cons.1 h with rfl | h
   ·exact .inr (once1_self out k)
   ·exact .inl h
  ·exact .inr (once1_has out n k h)
theorem onceL_has {l:List Node} {k:Node} (h:k∈l):∃m∈onceL l,m.s=k.s∧m.cost≤k.cost:=fold_has l [] k (.inl h)
theorem nodup_len {α:Type} [DecidableEq α]:∀(l m:List α),l.Nodup→(∀a∈l,a∈m)→l.length≤m.length
 |[],m,_,_=>Nat.zero_le _
 |a :: l,m,h,hs=>by
  rw [List.nodup_cons] at h
  have ha:=hs a List.mem_cons_self
  have:=nodup_len l (m.erase a) h.2 fun b hb=>by
   have:b≠a:=fun e=>h.1 (e ▸ hb)
   exact (List.mem_erase_of_ne this).2 (hs b (List.mem_cons_of_mem _ hb))
  rw [List.length_erase_of_mem ha] at this
  have:=List.length_pos_of_mem ha
  rw [List.length_cons]
  omega
end Go.Proofs.YtnoifgjiipgpoaaGreatDoor

set_option maxRecDepth 4000
namespace Go.Proofs.YtnoifgjiipgpoaaGreatDoor
open Go Go.Proofs.YtnoifgjiipgpoaaGreatDoor.R
theorem within_refl (s:Nat):withinB s s=true:=by
 rw [withinB,List.all_eq_true]
 intro i _
 cases s.testBit i<;>rfl
theorem within_trans {s t u:Nat} (h1:withinB s t=true) (h2:withinB t u=true):withinB s u=true:=by
 rw [withinB,List.all_eq_true] at *
 intro i hi
 have a:=h1 i hi
 have b:=h2 i hi
 revert a b
 cases s.testBit i<;>cases t.testBit i<;>cases u.testBit i<;>simp
def Node.than (a b:Node):Bool:=decide (a.cost≤b.cost)&&(decide (a.s.must=b.s.must)&&decide (a.s.can=b.s.can)&&decide (a.s.on=b.s.on))&&coversB a.s b.s
theorem covers_refl (s:State):coversB s s=true:=by
 simp [coversB,within_refl]
theorem covers_trans {a b c:State} (h1:coversB a b=true) (h2:coversB b c=true):coversB a c=true:=by
 simp only [coversB,Bool.and_eq_true,decide_eq_true_eq] at *
 obtain ⟨⟨⟨⟨⟨⟨⟨a1,a2⟩,a3⟩,a4⟩,a5⟩,a6⟩,a7⟩,a8⟩:=h1
 obtain ⟨⟨⟨⟨⟨⟨⟨b1,b2⟩,b3⟩,b4⟩,b5⟩,b6⟩,b7⟩,b8⟩:=h2
 exact ⟨⟨⟨⟨⟨⟨⟨a1.trans b1,within_trans a2 b2⟩,within_trans a3 b3⟩,within_trans b4 a4⟩,by omega⟩,by omega⟩,by omega⟩,by omega⟩
theorem than_refl (a:Node):a.than a=true:=by simp [Node.than,covers_refl]
theorem than_trans {a b c:Node} (h1:a.than b=true) (h2:b.than c=true):a.than c=true:=by
 simp only [Node.than,Bool.and_eq_true,decide_eq_true_eq] at *
 obtain ⟨⟨a1,⟨a2,a3⟩,a4⟩,a5⟩:=h1
 obtain ⟨⟨b1,⟨b2,b3⟩,b4⟩,b5⟩:=h2
 exact ⟨⟨by omega,⟨by omega,by omega⟩,by omega⟩,covers_trans a5 b5⟩
def front1 (out:List Node) (b:Node):List Node:=if out.any (fun a=>a.than b)=true then out else (out.filter fun a=>!b.than a)++[b]
def frontL (l:List Node):List Node:=l.foldl front1 []
def blk (pre:List Node) (b:Node) (post:List Node):Bool:=pre.any (fun a=>a.than b)||post.any fun c=>c.than b&& !b.than c
def frR (pre:List Node):List Node→List Node→List Node
 |[],_=>[]
 |b :: l,post=>(if blk pre b (l++post)=true then [] else [b])++frR (pre++[b]) l post
theorem frR_post (c:Node):∀(l pre:List Node),frR pre l [c]=(frR pre l []).filter fun b=>!(c.than b&& !b.than c)
 |[],pre=>rfl
 |b :: l,pre=>by
  rw [frR,frR,List.filter_append,frR_post c l]
  congr 1
  have:blk pre b (l++[c])=(blk pre b (l++[])||(c.than b&& !b.than c)):=by
   simp [blk,Bool.or_assoc]
  rw [this]
  generalize hq:(c.than b&& !b.than c)=q
  cases blk pre b (l++[])<;>cases q<;>simp only [Bool.or_true,Bool.or_false,Bool.false_eq_true,if_true,if_false,List.filter_cons,List.filter_nil,hq,Bool.not_true,Bool.not_false]
theorem frR_app (c:Node):∀(l pre:List Node),frR pre (l++[c]) []=frR pre l [c]++(if (pre++l).any (fun a=>a.than c)=true then [] else [c])
 |[],pre=>by simp [frR,blk]
 |b :: l,pre=>by
  rw [List.cons_append,frR,frR,frR_app c l,List.append_nil,List.append_assoc,List.append_assoc]
  simp
structure FrInv (pre F:List Node):Prop where
 up:∀a∈pre,∃f∈F,f.than a=true
 sub:∀f∈F,f∈pre
 one:∀f∈F,∀b∈F,f.than b=true→f=b
 eq:F=frR [] pre []
theorem FrInv.step {pre F:List Node} (h:FrInv pre F) (c:Node):FrInv (pre++[c]) (front1 F c):=by
 have hany:pre.any (fun a=>a.than c)=F.any fun a=>a.than c:=by
  rw [Bool.eq_iff_iff,List.any_eq_true,List.any_eq_true]
  constructor
  ·rintro ⟨a,ha,hc⟩
   obtain ⟨f,hf,hfa⟩:=h.up a ha
   exact ⟨f,hf,than_trans hfa hc⟩
  ·rintro ⟨f,hf,hc⟩
   exact ⟨f,h.sub f hf,hc⟩
 have he:frR [] (pre++[c]) []=front1 F c:=by
  rw [frR_app,frR_post,←h.eq,List.nil_append,hany]
  unfold front1
  by_cases hc:F.any (fun a=>a.than c)=true
  ·rw [if_pos hc,if_pos hc,List.append_nil]
   rw [List.filter_eq_self]
   intro b hb
   rw [List.any_eq_true] at hc
   obtain ⟨f,hf,hfc⟩:=hc
   cases h1:c.than b with
   |false=>rfl
   |true=>
    have:=h.one f hf b hb (than_trans hfc h1)
    subst this
    simp [hfc]
  ·rw [if_neg hc,if_neg hc]
   congr 1
   refine List.filter_congr fun b hb=>?_
   have:b.than c=false:=by
    cases h1:b.than c with
    |false=>rfl
    |true=>exact absurd (List.any_eq_true.2 ⟨b,hb,h1⟩) hc
   simp [this]
 refine ⟨?_,?_,?_,he.symm⟩
 ·intro a ha
  unfold front1
  split
  ·rename_i hc
   rcases List.mem_append.1 ha with ha | ha
   ·exact h.up a ha
   ·rw [List.mem_singleton.1 ha]
    obtain ⟨f,hf,hfc⟩:=List.any_eq_true.1 hc
    exact ⟨f,hf,hfc⟩
  ·rcases List.mem_append.1 ha with ha | ha
   ·obtain ⟨f,hf,hfa⟩:=h.up a ha
    cases h1:c.than f with
    |true=>exact ⟨c,by simp,than_trans h1 hfa⟩
    |false=>exact ⟨f,List.mem_append_left _ (List.mem_filter.2 ⟨hf,by simp [h1]⟩),hfa⟩
   ·rw [List.mem_singleton.1 ha]
    exact ⟨c,by simp,than_refl c⟩
 ·intro f hf
  unfold front1 at hf
  split at hf
  ·exact List.mem_append_left _ (h.sub f hf)
  ·rcases List.mem_append.1 hf with hf | hf
   ·exact List.mem_append_left _ (h.sub f (List.mem_filter.1 hf).1)
   ·exact List.mem_append_right _ hf
 ·intro f hf b hb hfb
  unfold front1 at hf hb
  split at hf
  ·rename_i hc
   rw [if_pos hc] at hb
   exact h.one f hf b hb hfb
  ·rename_i hc
   rw [if_neg hc] at hb
   rcases List.mem_append.1 hf with hf | hf<;>rcases List.mem_append.1 hb with hb | hb
   ·exact h.one f (List.mem_filter.1 hf).1 b (List.mem_filter.1 hb).1 hfb
   ·rw [List.mem_singleton.1 hb] at hfb
    exact absurd (List.any_eq_true.2 ⟨f,(List.mem_filter.1 hf).1,hfb⟩) hc
   ·rw [List.mem_singleton.1 hf] at hfb
    have:=(List.mem_filter.1 hb).2
    rw [hfb] at this
    cases this
   ·rw [List.mem_singleton.1 hf,List.mem_singleton.1 hb]
theorem FrInv.fold:∀{l pre F:List Node},FrInv pre F→FrInv (pre++l) (l.foldl front1 F)
 |[],pre,F,h=>by rw [List.append_nil];exact h
 |c :: l,pre,F,h=>by
  have:=(h.step c).fold (l:=l)
  rw [List.append_assoc] at this
  exact this
theorem front_inv (l:List Node):FrInv l (frontL l):=by
 have:FrInv [] []:=⟨by simp,by simp,by simp,rfl⟩
 exact this.fold (l:=l)
end Go.Proofs.YtnoifgjiipgpoaaGreatDoor

set_option maxRecDepth 4000
namespace Go.Proofs.YtnoifgjiipgpoaaGreatDoor
open Go Go.Proofs.YtnoifgjiipgpoaaGreatDoor.R
theorem canB_of {f:Nat→Bool}:∀{n k:Nat},k<n→f k=true→(k:Int)∈canB f n
 |n+1,k,h,hf=>by
  rw [canB,List.mem_append]
  by_cases e:k=n
  ·subst e
   exact .inr (by rw [if_pos hf];simp)
  ·exact .inl (canB_of (by omega) hf)
theorem mem_moves {x:Inst} {s:State} {j:Int} (h:(x.move s j).2.2=true):j∈x.moves s:=by
 have hm:x.may=true:=by
  by_cases e:j=0
  ·subst e;exact (move_home h).1
  ·exact (move_pos h e).1
 obtain ⟨p,hx⟩:=x.fit hm
 have h1:=hx.len
 have h2:=hx.pairs
 have hj:0≤j∧j<x.stops.length:=by
  by_cases e:j=0
  ·omega
  ·have:=move_pos h e
   omega
 rw [moves_can]
 have:((j.toNat:Nat):Int)=j:=by omega
 rw [←this]
 exact canB_of (by omega) (by rw [this];exact h)
theorem move_seen_low {x:Inst} (hl:x.stops.length<2^31) (m:Node) (k:Int) (h0:0≤m.cost) (h1:m.cost+lowP x.near m.s.can≤k) (hk:k≤1152921504606846976):x.of m≤k:=by
 have hin:=lowP_in (near_le x) m.s.can
 rw [Inst.of,low_eq x m.s (by omega),sumI_two h0 hin.1 (by omega)]
 exact h1
theorem bests_fold (x:Inst) (v:Int):∀(l:List Node) (b:Node×Bool),((∃n∈l,(x.endS n.s).2=true∧sumI [n.cost,(x.endS n.s).1]=v)∨(b.2=true∧b.1.cost≤v))→(l.foldl x.best1 b).2=true∧(l.foldl x.best1 b).1.cost≤v
 |[],b,h=>by
  rcases h with ⟨n,h,_⟩ | h
  ·cases h
  ·exact h
 |n :: l,b,h=>by
  refine bests_fold x v l (x.best1 b n) ?_
  have key:b.2=true∧b.1.cost≤v→(x.best1 b n).2=true∧(x.best1 b n).1.cost≤v:=by
   rintro ⟨h1,h2⟩
   unfold Inst.best1
   split
   ·rename_i hc
    refine ⟨rfl,?_⟩
    rcases hc.2 with hc | hc
    ·rw [h1] at hc;cases hc
    ·simp only;omega
   ·exact ⟨h1,h2⟩
  rcases h with ⟨m,hm,h1,h2⟩ | h
  ·rcases List.mem_cons.1 hm with rfl | hm
   ·refine .inr ?_
    unfold Inst.best1
    split
    ·exact ⟨rfl,by simp only;omega⟩
    ·rename_i hc
     have hb:b.2=true:=by
      cases e:b.2 with
      |true=>rfl
      |false=>exact absurd ⟨h1,.inl e⟩ hc
     refine ⟨hb,?_⟩
     have:¬sumI [m.cost,(x.endS m.s).1]<b.1.cost:=fun e=>hc ⟨h1,.inr e⟩
     omega
   ·exact .inl ⟨m,hm,h1,h2⟩
  ·exact .inr (key h)
theorem bests_has {x:Inst} {l:List Node} {n:Node} (hn:n∈l) (he:(x.endS n.s).2=true):(x.bests l).2=true∧(x.bests l).1.cost≤sumI [n.cost,(x.endS n.s).1]:=bests_fold x _ l _ (.inl ⟨n,hn,he,rfl⟩)
end Go.Proofs.YtnoifgjiipgpoaaGreatDoor

set_option maxRecDepth 4000
namespace Go.Proofs.YtnoifgjiipgpoaaGreatDoor
open Go Go.Proofs.YtnoifgjiipgpoaaGreatDoor.R
def Inst.base (x:Inst) (s:State):Nat:=((List.range (2*x.pairs.toNat+1)).filter fun j:Nat=>decide (1≤j)&& !hasB s.must (j:Int)).length+(x.cars-s.car).toNat
theorem base_move {x:Inst} {s:State} {j:Int} (h:(x.move s j).2.2=true):x.base (x.move s j).1<x.base s:=by
 by_cases e:j=0
 ·subst e
  obtain ⟨_,_,h3,h4⟩:=move_home h
  rw [h4]
  simp only [Inst.stayB,Bool.or_eq_false_iff,decide_eq_false_iff_not] at h3
  simp only [Inst.base,Inst.homeS]
  have:=h3.1.1.2
  omega
 ·obtain ⟨h1,h2,h3,h4,h5,_,_,h6⟩:=move_pos h e
  obtain ⟨p,hx⟩:=x.fit h1
  have:=hx.few
  have:=hx.pairs
  rw [h6]
  simp only [Inst.lateB,Bool.or_eq_false_iff] at h5
  simp only [Inst.base,Inst.rvisit]
  obtain ⟨k,rfl⟩:∃k:Nat,j=k:=⟨j.toNat,by omega⟩
  refine Nat.add_lt_add_right (filter_lt _ (a:=k) (List.mem_range.2 (by omega)) ?_ ?_ ?_) _
  ·rw [h5.1]
   simp only [Bool.not_false,Bool.and_true,decide_eq_true_eq]
   omega
  ·rw [has_withN (by omega)]
   simp
  ·intro b
   rw [has_withN (by omega)]
   simp only [Bool.and_eq_true,Bool.not_eq_true',Bool.or_eq_false_iff]
   exact fun h=>⟨h.1,h.2.1⟩
def Inst.meas (x:Inst) (s:State):Nat:=if x.may=true∧s.mayB x=true then x.base s else 0
theorem move_may {x:Inst} {s:State} {j:Int} (h:(x.move s j).2.2=true):x.may=true∧s.mayB x=true:=by
 by_cases e:j=0
 ·subst e
  exact ⟨(move_home h).1,(move_home h).2.1⟩
 ·exact ⟨(move_pos h e).1,(move_pos h e).2.1⟩
theorem meas_move {x:Inst} {s:State} {j:Int} (h:(x.move s j).2.2=true):x.meas (x.move s j).1<x.meas s:=by
 have h1:=base_move h
 have h2:=move_may h
 have:x.meas (x.move s j).1≤x.base (x.move s j).1:=by
  unfold Inst.meas
  split<;>omega
 have:x.meas s=x.base s:=by rw [Inst.meas,if_pos h2]
 omega
theorem meas_le (x:Inst) (s:State):x.meas s≤40:=by
 unfold Inst.meas
 split
 ·rename_i h
  obtain ⟨p,hx⟩:=x.fit h.1
  have h1:=hx.few
  have h2:=hx.pairs
  have h3:=hx.cars
  have h4:=h.2
  simp only [State.mayB,Bool.and_eq_true,decide_eq_true_eq] at h4
  have h5:=h4.1.1.1.1.1.2
  have h6:((List.range (2*x.pairs.toNat+1)).filter fun j:Nat=>decide (1≤j)&& !hasB s.must (j:Int)).length≤2*x.pairs.toNat+1:=by
   refine Nat.le_trans (List.length_filter_le _ _) ?_
   rw [List.length_range];exact Nat.le_refl _
  unfold Inst.base
  omega
 ·omega
def Inst.look (x:Inst) (st:Node×Bool×Int) (l:List Node):Node×Bool×Int:=
 if (x.bests l).2=true∧(x.bests l).1.cost<st.2.2 then ((x.bests l).1,true,(x.bests l).1.cost) else st
def Inst.exGo (x:Inst) (most:Int):Nat→Node×Bool×Int→List Node→Int→Node×Bool×Bool×Int
 |0,st,_,n=>(st.1,st.2.1,true,n)
 |d+1,st,l,n=>if l.length=0 then (st.1,st.2.1,true,n) else if most<l.length then (st.1,st.2.1,false,n) else
  x.exGo most d (x.look st l) (frontL (x.next l st.2.2)) (IntKind.i64.wrap (n+l.length))
def Inst.exact (x:Inst) (n:Node) (up most:Int):Node×Bool×Bool×Int:=x.exGo most (x.meas n.s+1) (Node.zero,false,up) [n] 0
def exRes4 (r:Node×Bool×Bool×Int):AV:=.tup [r.1.a,.b r.2.1,.b r.2.2.1,.i r.2.2.2]
structure Level (x:Inst) (l:List Node) (d K:Nat):Prop where
 ok:∀n∈l,n.s.ok
 deep:∀n∈l,x.meas n.s<d
 path:∀n∈l,n.path.length+d≤K
theorem Level.next {x:Inst} {l:List Node} {d K:Nat} (h:Level x l (d+1) K) (up:Int):Level x (frontL (x.next l up)) d K:=by
 have key:∀m∈frontL (x.next l up),∃n∈l,∃j,(x.move n.s j).2.2=true∧m=x.child n j:=by
  intro m hm
  obtain ⟨n,hn,j,hj,e,_⟩:=next_mem ((front_inv _).sub m hm)
  exact ⟨n,hn,j,moves_mem hj,e⟩
 refine ⟨?_,?_,?_⟩
 ·intro m hm
  obtain ⟨n,hn,j,hj,rfl⟩:=key m hm
  exact move_ok x j (h.ok n hn)
 ·intro m hm
  obtain ⟨n,hn,j,hj,rfl⟩:=key m hm
  have:=meas_move hj
  have:=h.deep n hn
  show x.meas (x.move n.s j).1<d
  omega
 ·intro m hm
  obtain ⟨n,hn,j,hj,rfl⟩:=key m hm
  have:=h.path n hn
  show (n.path++[j]).length+d≤K
  rw [List.length_append]
  simp only [List.length_cons,List.length_nil]
  omega
theorem Level.empty {x:Inst} {l:List Node} {K:Nat} (h:Level x l 0 K):l=[]:=by
 cases l with
 |nil=>rfl
 |cons n l=>exact absurd (h.deep n List.mem_cons_self) (by omega)
theorem Level.root (x:Inst) (n:Node) (h:n.s.ok):Level x [n] (x.meas n.s+1) (n.path.length+x.meas n.s+1):=by
 refine ⟨?_,?_,?_⟩<;>(intro m hm;rw [List.mem_singleton.1 hm])
 ·exact h
 ·omega
 ·omega
end Go.Proofs.YtnoifgjiipgpoaaGreatDoor

set_option maxRecDepth 4000
namespace Go.Proofs.YtnoifgjiipgpoaaGreatDoor
open Go Go.Proofs.YtnoifgjiipgpoaaGreatDoor.R
def stOk (st:Node×Bool×Int):Prop:=st.2.1=true→st.1.cost=st.2.2
theorem look_ok {x:Inst} {st:Node×Bool×Int} {l:List Node} (h:stOk st):stOk (x.look st l)∧(x.look st l).2.2≤st.2.2∧(st.2.1=true→(x.look st l).2.1=true):=by
 unfold Inst.look
 split
 ·rename_i hc
  exact ⟨fun _=>rfl,by simp only;omega,fun _=>rfl⟩
 ·exact ⟨h,Int.le_refl _,fun h=>h⟩
end Go.Proofs.YtnoifgjiipgpoaaGreatDoor
