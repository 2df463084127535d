/- Parts of the proof: State, State2, State3, State4, State5, Arg, PlanR, Mat, Near, Bound, Bound2, StateR, StateR2, StateR3, Node, Bound4, Lists, Late, Ends, Seen, LowP, Sched, Sched2, Sched3, PlanC, C1, C2. -/
import Derived.Test.YtackfabapangdaaGreatMD
set_option linter.all false
set_option maxHeartbeats 4000000
set_option maxRecDepth 4000
namespace Go.Proofs.YtackfabapangdaaGreat
open Go Go.Proofs.YtackfabapangdaaGreat.R
structure State where
 spot:Int
 car:Int
 time:Int
 load:Int
 first:Int
 must:Nat
 can:Nat
 on:Nat
 deriving DecidableEq
def State.cs (s:State):List AV:=[.i s.spot,.i s.car,.i s.time,.i s.load,.i s.first,.u s.must,.u s.can,.u s.on]
def State.a (s:State):AV:=.agg s.cs
structure State.ok (s:State):Prop where
 must:s.must<2^64
 can:s.can<2^64
 on:s.on<2^64
def State.zero:State:=⟨0,0,0,0,0,0,0,0⟩
def stop0:Stop:=⟨0,0,0,0,0,0⟩
def Inst.stop (x:Inst) (j:Int):Stop:=x.stops.getD j.toNat stop0
def State.mayB (x:Inst) (s:State):Bool:=
 decide (s.spot≥0)&&decide (s.spot≤2*x.pairs)&&decide (s.car≥1)&&decide (s.car≤x.cars)&&decide (s.time≥0)&&decide (s.time≤1073741824)&&decide (s.load≥0)&&decide (s.load≤1000)
def hereC (x:Inst) (s:State):List AV:=[.t (.i x.pairs),.t (.i x.cars),.t (.i x.room),.t (.sl (x.stops.map Stop.t)),.i s.spot,.i s.car,.i s.time,.i s.load,.i s.first,.u s.must,.u s.can,.u s.on]
def Inst.rootS (x:Inst):State:=if x.may then {State.zero with car:=1,time:=(x.stop 0).ready} else State.zero
structure Inst.Fit (x:Inst) (p:Nat):Prop where
 pairs:x.pairs=p
 few:p≤16
 cars:1≤x.cars∧x.cars≤8
 room:1≤x.room∧x.room≤1000
 len:x.stops.length=2*p+1
 stop:∀k (h:k<x.stops.length),x.stopB k x.stops[k]=true
theorem allFrom_get {α:Type} {f:Nat→α→Bool}:∀{l:List α} {k:Nat},allFrom f k l=true→∀i (h:i<l.length),f (k+i) l[i]=true
 |a :: l,k,h,0,_=>by simp [allFrom] at h;exact h.1
 |a :: l,k,h,i+1,hi=>by
  simp only [allFrom,Bool.and_eq_true] at h
  have:=allFrom_get h.2 i (by simpa using hi)
  rw [show k+(i+1)=k+1+i by omega]
  exact this
theorem Inst.fit {x:Inst} (h:x.may=true):∃p:Nat,x.Fit p:=by
 simp only [Inst.may,inB,Bool.and_eq_true,decide_eq_true_eq] at h
 obtain ⟨⟨⟨⟨h1,h2⟩,h3⟩,h4⟩,h5⟩:=h
 refine ⟨x.pairs.toNat,by omega,by omega,h2,h3,by omega,fun k hk=>?_⟩
 have:=allFrom_get h5 k hk
 rwa [Nat.zero_add] at this
structure Stop.Fit (s:Stop):Prop where
 ready:0≤s.ready∧s.ready≤1048576
 due:0≤s.due∧s.due≤1048576
 service:0≤s.service∧s.service≤1000
 order:s.ready≤s.due
 demand: -1000≤s.demand∧s.demand≤1000
theorem Inst.stop_at {x:Inst} {k:Nat} (h:k<x.stops.length):x.stop k=x.stops[k]:=by
 rw [Inst.stop,List.getD_eq_getElem?_getD,Int.toNat_natCast,List.getElem?_eq_getElem h];rfl
theorem Inst.Fit.B {x:Inst} {p:Nat} (h:x.Fit p) {k:Nat} (hk:k≤2*p):x.stopB k (x.stop k)=true:=by
 have hl:=h.len
 rw [Inst.stop_at (by omega)]
 exact h.stop k (by omega)
theorem Inst.Fit.take {x:Inst} {p:Nat} (h:x.Fit p) {k:Nat} (h1:1≤k) (h2:k≤p):1≤(x.stop k).demand∧(x.stop k).demand≤1000:=by
 have:=h.B (k:=k) (by omega)
 have e1:¬k=0:=by omega
 have e2:(k:Int)≤x.pairs:=by rw [h.pairs];omega
 simp only [Inst.stopB,Bool.and_eq_true,if_neg e1,if_pos e2,inB,decide_eq_true_eq] at this
 exact this.2
theorem Inst.Fit.bring {x:Inst} {p:Nat} (h:x.Fit p) {k:Nat} (h1:1≤k) (h2:k≤p):(x.stop (k+p:Nat)).demand= -(x.stop k).demand:=by
 have:=h.B (k:=k+p) (by omega)
 have e1:¬k+p=0:=by omega
 have e2:¬((k+p:Nat):Int)≤x.pairs:=by rw [h.pairs];omega
 simp only [Inst.stopB,Bool.and_eq_true,if_neg e1,if_neg e2,inB,decide_eq_true_eq] at this
 rw [this.2,show k+p-x.pairs.toNat=k by rw [h.pairs];omega]
 have ht:=h.take h1 h2
 have hl:=h.len
 have e:x.stops.getD k ⟨0,0,0,0,0,0⟩=x.stop k:=by rw [Inst.stop_at (by omega),List.getD_eq_getElem?_getD,List.getElem?_eq_getElem (by omega)];rfl
 rw [e,w64 _ (by omega)]
theorem Inst.Fit.yard {x:Inst} {p:Nat} (h:x.Fit p):(x.stop 0).demand=0:=by
 have:=h.B (k:=0) (by omega)
 simp only [Inst.stopB,Bool.and_eq_true,if_true,decide_eq_true_eq] at this
 exact this.2.1
theorem Inst.Fit.at {x:Inst} {p:Nat} (h:x.Fit p) {j:Int} (h0:0≤j) (h1:j≤2*p):(x.stop j).Fit:=by
 have hl:=h.len
 have hj:j.toNat<x.stops.length:=by omega
 have e:x.stop j=x.stops[j.toNat]:=by rw [Inst.stop,List.getD_eq_getElem?_getD,List.getElem?_eq_getElem hj];rfl
 have:=h.stop j.toNat hj
 rw [←e] at this
 simp only [Inst.stopB,inB,Bool.and_eq_true,decide_eq_true_eq] at this
 obtain ⟨⟨⟨⟨⟨⟨a1,a2⟩,⟨a3,a4⟩⟩,⟨a5,a6⟩,⟨a7,a8⟩⟩,a9⟩,⟨a10,a11⟩⟩,_⟩:=this
 refine ⟨⟨a5,a6⟩,⟨a7,a8⟩,⟨a10,a11⟩,a9,?_⟩
 obtain ⟨k,rfl⟩:∃k:Nat,j=k:=⟨j.toNat,by omega⟩
 by_cases e1:k=0
 ·subst e1
  have:=h.yard
  rw [show ((0:Nat):Int)=0 from rfl,this];omega
 by_cases e2:k≤p
 ·have:=h.take (k:=k) (by omega) e2
  omega
 ·have:=h.take (k:=k-p) (by omega) (by omega)
  have e:=h.bring (k:=k-p) (by omega) (by omega)
  rw [show k-p+p=k by omega] at e
  omega
theorem hmay_pure (x:Inst) (s:State) (h:x.may=true):Pure P 148 [.agg (hereC x s)] (.b (s.mayB x)):=by
 obtain ⟨p,hx⟩:=x.fit h
 have hf:=hx.few
 refine pure_of Tryz.func148 rfl rfl (by simp [Tryz.f148]) (by simp [bnd,bnd.bndL,hereC]) (by simp [bnd]) fun B hB hnx=>?_
 simp only [Tryz.f148] at hB ⊢
 have w1:=w64 (2*x.pairs) (by rw [hx.pairs];omega)
 generalize hR:s.mayB x=R
 rw [State.mayB] at hR
 refine K_run hB 100 ?_
 simp [go_sem,hereC]
 refine atVal_decT (fun h1=>?_) (fun h1=>by simp [go_sem,h1,w1,←hR])
 simp [go_sem,h1,w1]
 refine atVal_decT (fun h2=>?_) (fun h2=>by simp [go_sem,h2,w1,←hR])
 simp [go_sem,h2,w1]
 refine atVal_decT (fun h3=>?_) (fun h3=>by simp [go_sem,h3,w1,←hR])
 simp [go_sem,h3,w1]
 refine atVal_decT (fun h4=>?_) (fun h4=>by simp [go_sem,h4,w1,←hR])
 simp [go_sem,h4,w1]
 refine atVal_decT (fun h5=>?_) (fun h5=>by simp [go_sem,h5,w1,←hR])
 simp [go_sem,h5,w1]
 refine atVal_decT (fun h6=>?_) (fun h6=>by simp [go_sem,h6,w1,←hR])
 simp [go_sem,h6,w1]
 refine atVal_decT (fun h7=>?_) (fun h7=>by simp [go_sem,h7,w1,←hR])
 simp [go_sem,h7,w1]
 simp [←hR,h1,h2,h3,h4,h5,h6,h7]
theorem Inst.Fit.ltN {x:Inst} {p:Nat} (h:x.Fit p) {j:Int} (h1:j≤2*p):j.toNat<x.stops.length:=by
 have hl:=h.len
 omega
theorem Inst.Fit.get {x:Inst} {p:Nat} (h:x.Fit p) {j:Int} (h1:j≤2*p):x.stops[j.toNat]'(h.ltN h1)=x.stop j:=by
 rw [Inst.stop,List.getD_eq_getElem?_getD,List.getElem?_eq_getElem (h.ltN h1)];rfl
theorem Inst.Fit.get0 {x:Inst} {p:Nat} (h:x.Fit p):x.stops[0]'(by rw [h.len];omega)=x.stop 0:=h.get (j:=0) (by omega)
theorem Inst.Fit.lt {x:Inst} {p:Nat} (h:x.Fit p) {j:Int} (h1:j≤2*p):j<(x.stops.length:Int):=by
 have hl:=h.len
 omega
theorem hfar_pure (x:Inst) (s:State) (j:Int) {p:Nat} (hx:x.Fit p) (h0:0≤s.spot) (h1:s.spot≤2*p) (h2:0≤j) (h3:j≤2*p):Pure P 171 [.agg (hereC x s),.i j] (.i (far (x.stop s.spot) (x.stop j))):=by
 refine pure_of Tryz.func171 rfl rfl (by simp [Tryz.f171]) (by simp [bnd,bnd.bndL,hereC]) (by simp [bnd]) fun B hB hnx=>?_
 simp only [Tryz.f171] at hB ⊢
 have g1:=hx.lt h1
 have g2:=hx.lt h3
 have g3:=hx.get h1
 have g4:=hx.get h3
 generalize x.stop s.spot=a at *
 generalize x.stop j=b at *
 refine K_run hB 60 ?_
 simp [go_sem]
 refine K_drawn [] rfl (by rw [hB];kernel_rfl) ?_
 refine K_run hB 60 ?_
 simp [go_sem,hereC,h0,g1,h2,g2,g3,g4,Stop.t]
 refine K_dCallP rfl rfl rfl (args:=[.agg (a.t.map .t),.agg (b.t.map .t)]) (f:=214) (by simp [go_sem,Stop.t]) (far_pure a b) ?_
 refine K_run hB 60 ?_
 simp [go_sem]
def Inst.allB (x:Inst) (t:Nat):Bool:=withinB (uptoN (2*x.pairs)) t
theorem hall_pure (x:Inst) (s:State) (t:Nat) {p:Nat} (hx:x.Fit p):Pure P 170 [.agg (hereC x s),.u t] (.b (x.allB t)):=by
 refine pure_of Tryz.func170 rfl rfl (by simp [Tryz.f170]) (by simp [bnd,bnd.bndL,hereC]) (by simp [bnd]) fun B hB hnx=>?_
 simp only [Tryz.f170] at hB ⊢
 have hf:=hx.few
 have w1:=w64 (2*x.pairs) (by rw [hx.pairs];omega)
 refine K_run hB 60 ?_
 simp [go_sem,hereC,w1]
 refine K_call rfl rfl rfl (args:=[.i (2*x.pairs)]) (f:=213) (by simp [go_sem]) (by simp [go_sem,hB]) ((upto_pure _).spec _ _) ?_
 refine K_run hB 60 ?_
 simp [go_sem]
 refine K_call rfl rfl rfl (args:=[.u (uptoN (2*x.pairs)),.u t]) (f:=212) (by simp [go_sem]) (by simp [go_sem,hB]) ((within_pure _ _).spec _ _) ?_
 refine K_run hB 60 ?_
 simp [go_sem,Inst.allB]
theorem root_pureS (x:Inst) (hl:x.stops.length<2^63):Pure P 57 [x.a] x.rootS.a:=by
 generalize hR:x.rootS=R
 refine pure_of Tryz.func57 rfl rfl (by simp [Tryz.f57]) (by simp [bnd,bnd.bndL,Inst.a]) (by simp [bnd,bnd.bndL,State.a,State.cs]) fun B hB hnx=>?_
 simp only [Tryz.f57] at hB ⊢
 rw [Inst.rootS] at hR
 refine K_run hB 60 ?_
 simp [go_sem,Inst.a]
 refine K_call rfl rfl rfl (args:=[x.a]) (f:=33) (by simp [go_sem,Inst.a]) (by simp [go_sem,hB]) ((may_pure x hl).spec _ _) ?_
 cases hm:x.may with
 |false=>
  rw [hm,if_neg (by simp)] at hR
  subst hR
  refine K_run hB 60 ?_
  simp [go_sem,State.a,State.cs,State.zero]
 |true=>
  obtain ⟨p,hx⟩:=x.fit hm
  have hl:=hx.len
  rw [hm,if_pos rfl] at hR
  subst hR
  have g1:=hx.lt (j:=0) (by omega)
  have g2:=hx.get0
  generalize x.stop 0=a at *
  have g3:(0:Int)<x.stops.length:=g1
  have g4:0<x.stops.length:=by omega
  refine K_run hB 60 ?_
  simp [go_sem,State.a,State.cs,State.zero,g2,g3,g4,Stop.t]
theorem state_stood:P.stoodInHeld 67=false:=by kernel_rfl
theorem state_guard:P.eqGuardType P.depth 67=false:=by kernel_rfl
theorem state_eq (a b:State):eqA P 10000 67 a.a b.a=some (decide (a=b)):=by
 simp [go_sem,State.a,State.cs,state_stood]
 cases a;cases b
 rw [Bool.eq_iff_iff]
 simp only [Bool.and_eq_true,decide_eq_true_eq,State.mk.injEq]
end Go.Proofs.YtackfabapangdaaGreat

set_option maxRecDepth 4000
namespace Go.Proofs.YtackfabapangdaaGreat
open Go Go.Proofs.YtackfabapangdaaGreat.R
def Inst.begins (x:Inst) (s:State) (j:Int):Int:=max (s.time+far (x.stop s.spot) (x.stop j)) (x.stop j).ready
def Inst.lateB (x:Inst) (s:State) (j:Int):Bool:=hasB s.must j||decide (x.begins s j>(x.stop j).due)
def Inst.seen (x:Inst) (s:State) (j:Int):State:=
 {spot:=j,car:=s.car,time:=x.begins s j+(x.stop j).service,load:=max (s.load+(x.stop j).demand) 0,first:=if s.spot=0 then j else s.first,must:=withN s.must j,can:=withN s.can j,on:=s.on}
def Inst.visit (x:Inst) (s:State) (j:Int):State×Bool:=if x.lateB s j=true then (s,false) else (x.seen s j,true)
structure State.Fit (x:Inst) (s:State) (p:Nat):Prop where
 spot:0≤s.spot∧s.spot≤2*p
 car:1≤s.car∧s.car≤x.cars
 time:0≤s.time∧s.time≤1073741824
 load:0≤s.load∧s.load≤1000
theorem State.fit {x:Inst} {s:State} {p:Nat} (hx:x.Fit p) (h:s.mayB x=true):s.Fit x p:=by
 simp only [State.mayB,Bool.and_eq_true,decide_eq_true_eq,hx.pairs] at h
 obtain ⟨⟨⟨⟨⟨⟨⟨h1,h2⟩,h3⟩,h4⟩,h5⟩,h6⟩,h7⟩,h8⟩:=h
 exact ⟨⟨h1,h2⟩,⟨h3,h4⟩,⟨h5,h6⟩,⟨h7,h8⟩⟩
theorem far_in' (a b:Stop):0≤far a b∧far a b<1152921504606846976:=by
 have h:=sq_in a b
 unfold far rootI
 split
 ·omega
 ·have:=rootL_lt (min (sq a b) 1152921504606846976).toNat 31 0
  omega
theorem visit_pure (x:Inst) (s:State) (j:Int) {p:Nat} (hx:x.Fit p) (hs:s.Fit x p) (ho:s.ok) (h2:0≤j) (h3:j≤2*p):Pure P 233 [.agg (hereC x s),.i j] (.tup [(x.visit s j).1.a,.b (x.visit s j).2]):=by
 generalize hR:x.visit s j=R
 refine pure_of Tryz.func233 rfl rfl (by simp [Tryz.f233]) (by simp [bnd,bnd.bndL,hereC]) (by simp [bnd,bnd.bndL,State.a,State.cs]) fun B hB hnx=>?_
 simp only [Tryz.f233] at hB ⊢
 have g2:=hx.lt h3
 have g4:=hx.get h3
 have hfar:=hfar_pure x s j hx hs.spot.1 hs.spot.2 h2 h3
 have hf:=hx.at h2 h3
 have hfi:=far_in' (x.stop s.spot) (x.stop j)
 rw [Inst.visit,Inst.lateB,Inst.seen,Inst.begins] at hR
 generalize far (x.stop s.spot) (x.stop j)=d at *
 generalize x.stop j=a at *
 have w1:=w64 (s.time+d) (by have:=hs.time;omega)
 refine K_run hB 60 ?_
 simp [go_sem]
 refine K_drawnP [8,9,10,11] [0,1,2,3,4,5,6,7,8,9] 8 9 (by decide) rfl (by rw [hB];kernel_rfl) (by kernel_rfl) fun ht hf'=>?_
 refine K_run hB 60 ?_
 simp [go_sem,ht,hf',hereC,h2,g2,g4,Stop.t]
 refine K_dPair (by kernel_rfl) ?_ ?_
 all_goals
  refine K_run hB 60 ?_
  simp [go_sem,ht,hf',hereC,h2,g2,g4,Stop.t,State.cs]
  refine K_drawn [] rfl (by rw [hB];kernel_rfl) ?_
  refine K_run hB 60 ?_
  simp [go_sem]
  refine K_dCallP rfl rfl rfl (args:=[.agg (hereC x s),.i j]) (f:=171) (by simp [go_sem,hereC]) hfar ?_
  refine K_run hB 60 ?_
  simp [go_sem,w1]
  refine K_call rfl rfl rfl (args:=[.u s.must,.i j]) (f:=193) (by simp [go_sem]) (by simp [go_sem,hB]) ((has_pure s.must j ho.must).spec _ _) ?_
  generalize hM:max (s.time+d) a.ready=M at *
  by_cases c1:hasB s.must j=true∨a.due<M
  ·have:R=(s,false):=by
    rw [←hR,if_pos]
    rcases c1 with c1 | c1<;>simp [c1]
   subst this
   cases c2:hasB s.must j with
   |true=>
    refine K_run hB 60 ?_
    simp [go_sem,State.a,State.cs]
   |false=>
    have c3:a.due<M:=c1.resolve_left (by simp [c2])
    refine K_run hB 60 ?_
    simp [go_sem,State.a,State.cs,hM,c3]
  have c2:hasB s.must j=false:=by simpa using fun h=>c1 (.inl h)
  have c3:¬a.due<M:=fun h=>c1 (.inr h)
  rw [if_neg (by simp [c2,c3])] at hR
  have w2:=w64 (M+a.service) (by have:=hf.service;have:=hf.due;have:=hs.time;omega)
  have w3:=w64 (s.load+a.demand) (by have:=hf.demand;have:=hs.load;omega)
  rw [c2]
  by_cases c4:s.spot=0
  all_goals
   refine K_run hB 60 ?_
   simp [go_sem,State.a,State.cs,hM,c3,c4]
   refine K_drawnF [12,14,16] [1,2,3,4,7,8,9,10] rfl (by rw [hB];kernel_rfl) (by kernel_rfl) fun ht hf'=>?_
   refine K_run hB 60 ?_
   simp [go_sem,ht,hf',w2,w3]
   refine K_drawnT [9,11] rfl (by rw [hB];kernel_rfl) (by kernel_rfl) fun ht=>?_
   refine K_run hB 60 ?_
   simp [go_sem,ht]
   refine K_dCallP rfl rfl rfl (args:=[.u s.must,.i j]) (f:=210) (by simp [go_sem]) (with_pure s.must j ho.must) ?_
   refine K_run hB 60 ?_
   simp [go_sem,ht]
   refine K_dCallP rfl rfl rfl (args:=[.u s.can,.i j]) (f:=210) (by simp [go_sem]) (with_pure s.can j ho.can) ?_
   refine K_run hB 60 ?_
   simp [go_sem,ht,←hR,c4]
def Inst.stayB (x:Inst) (s:State):Bool:=decide (s.spot=0)||decide (s.on≠0)||decide (s.car≥x.cars)||x.allB s.must||decide (s.time+far (x.stop s.spot) (x.stop 0)>(x.stop 0).due)
def Inst.homeS (x:Inst) (s:State):State:={s with spot:=0,car:=s.car+1,time:=(x.stop 0).ready,load:=0}
def Inst.home (x:Inst) (s:State):State×Bool:=if x.stayB s=true then (s,false) else (x.homeS s,true)
theorem home_pure (x:Inst) (s:State) (j:Int) {p:Nat} (hx:x.Fit p) (hs:s.Fit x p) (ho:s.ok):Pure P 195 [.agg (hereC x s),.i j] (.tup [(x.home s).1.a,.b (x.home s).2]):=by
 generalize hR:x.home s=R
 refine pure_of Tryz.func195 rfl rfl (by simp [Tryz.f195]) (by simp [bnd,bnd.bndL,hereC]) (by simp [bnd,bnd.bndL,State.a,State.cs]) fun B hB hnx=>?_
 simp only [Tryz.f195] at hB ⊢
 have g2:(0:Int)<x.stops.length:=hx.lt (j:=0) (by omega)
 have g3:0<x.stops.length:=by omega
 have g4:=hx.get0
 have hfar:=hfar_pure x s 0 hx hs.spot.1 hs.spot.2 (by omega) (by omega)
 have hf:=hx.at (j:=0) (by omega) (by omega)
 have hfi:=far_in' (x.stop s.spot) (x.stop 0)
 rw [Inst.home,Inst.stayB,Inst.homeS] at hR
 generalize far (x.stop s.spot) (x.stop 0)=d at *
 generalize x.stop 0=a at *
 have w1:=w64 (s.time+d) (by have:=hs.time;omega)
 have w2:=w64 (s.car+1) (by have:=hs.car;have:=hx.cars;omega)
 refine K_run hB 60 ?_
 simp [go_sem,hereC]
 refine K_drawn [] rfl (by rw [hB];kernel_rfl) ?_
 by_cases c1:s.spot=0
 ·have:R=(s,false):=by rw [←hR,if_pos (by simp [c1])]
  subst this
  refine K_run hB 100 ?_
  simp [go_sem,c1,State.a,State.cs]
 by_cases c2:s.on=0
 rotate_left
 ·have:R=(s,false):=by rw [←hR,if_pos (by simp [c2])]
  subst this
  refine K_run hB 100 ?_
  simp [go_sem,c1,c2,State.a,State.cs]
 by_cases c3:x.cars≤s.car
 ·have:R=(s,false):=by rw [←hR,if_pos (by simp [c3])]
  subst this
  refine K_run hB 100 ?_
  simp [go_sem,c1,c2,c3,State.a,State.cs]
 refine K_run hB 100 ?_
 simp [go_sem,c1,c2,c3]
 refine K_dCallP rfl rfl rfl (args:=[.agg (hereC x s),.u s.must]) (f:=170) (by simp [go_sem,hereC,c2]) (hall_pure x s s.must hx) ?_
 cases c4:x.allB s.must with
 |true=>
  have:R=(s,false):=by rw [←hR,if_pos (by simp [c4])]
  subst this
  refine K_run hB 100 ?_
  simp [go_sem,c1,c2,c3,State.a,State.cs]
 |false=>
  refine K_run hB 100 ?_
  simp [go_sem,c1,c2,c3]
  refine K_dCallP rfl rfl rfl (args:=[.agg (hereC x s),.i 0]) (f:=171) (by simp [go_sem,hereC,c2]) hfar ?_
  by_cases c5:a.due<s.time+d
  ·have:R=(s,false):=by rw [←hR,if_pos (by simp [c5])]
   subst this
   refine K_run hB 100 ?_
   simp [go_sem,c1,c2,c3,c5,w1,g2,g3,g4,Stop.t,State.a,State.cs]
  ·rw [if_neg (by simp [c1,c2,c3,c4,c5])] at hR
   refine K_run hB 100 ?_
   simp [go_sem,c1,c2,c3,c5,w1,g2,g3,g4,Stop.t]
   refine K_drawnF [10,12,14,16] [2,3,4,5,6,7,8] rfl (by rw [hB];kernel_rfl) (by kernel_rfl) fun ht hf'=>?_
   refine K_run hB 100 ?_
   simp [go_sem,ht,hf',w2,g2,g3,g4,Stop.t,←hR,State.a,State.cs,c2]
theorem visit_on (x:Inst) (s:State) (j:Int):(x.visit s j).1.on=s.on:=by
 unfold Inst.visit
 split<;>rfl
def Inst.fullB (x:Inst) (s:State) (j:Int):Bool:=decide (s.load+(x.stop j).demand>x.room)||(decide (s.spot=0)&&decide (j≤s.first))
def Inst.take (x:Inst) (s:State) (j:Int):State×Bool:=if x.fullB s j=true then (s,false) else if (x.visit s j).2=true then ({(x.visit s j).1 with on:=withN s.on j},true) else (x.visit s j)
theorem take_pure (x:Inst) (s:State) (j:Int) {p:Nat} (hx:x.Fit p) (hs:s.Fit x p) (ho:s.ok) (h2:0≤j) (h3:j≤2*p):Pure P 196 [.agg (hereC x s),.i j] (.tup [(x.take s j).1.a,.b (x.take s j).2]):=by
 generalize hR:x.take s j=R
 refine pure_of Tryz.func196 rfl rfl (by simp [Tryz.f196]) (by simp [bnd,bnd.bndL,hereC]) (by simp [bnd,bnd.bndL,State.a,State.cs]) fun B hB hnx=>?_
 simp only [Tryz.f196] at hB ⊢
 have g2:=hx.lt h3
 have g4:=hx.get h3
 have hf:=hx.at h2 h3
 have hv:=visit_pure x s j hx hs ho h2 h3
 have hon:=visit_on x s j
 rw [Inst.take,Inst.fullB] at hR
 generalize x.visit s j=V at *
 generalize x.stop j=a at *
 obtain ⟨t,is⟩:=V
 simp only at hon hR hv
 have w3:=w64 (s.load+a.demand) (by have:=hf.demand;have:=hs.load;omega)
 refine K_run hB 60 ?_
 simp [go_sem,hereC]
 refine K_drawn [] rfl (by rw [hB];kernel_rfl) ?_
 by_cases c1:x.room<s.load+a.demand
 ·have:R=(s,false):=by rw [←hR,if_pos (by simp [c1])]
  subst this
  refine K_run hB 100 ?_
  simp [go_sem,c1,h2,g2,g4,w3,Stop.t,State.a,State.cs]
 by_cases c2:s.spot=0∧j≤s.first
 ·have:R=(s,false):=by rw [←hR,if_pos (by simp [c2])]
  subst this
  refine K_run hB 100 ?_
  simp [go_sem,c1,c2,h2,g2,g4,w3,Stop.t,State.a,State.cs]
 rw [if_neg (by simp;exact ⟨by omega,by omega⟩)] at hR
 have key:∀{A:Prop},(s.spot=0→¬j≤s.first→A)→(¬s.spot=0→A)→A:=fun {A} h1 h2=>by
  by_cases c3:s.spot=0
  ·exact h1 c3 (fun h=>c2 ⟨c3,h⟩)
  ·exact h2 c3
 refine key (fun c3 c4=>?_) (fun c3=>?_)
 ·refine K_run hB 100 ?_
  simp [go_sem,c1,c3,c4,h2,g2,g4,w3,Stop.t]
  refine K_call rfl rfl rfl (args:=[.agg (hereC x s),.i j]) (f:=233) (by simp [go_sem,hereC,c3]) (by simp [go_sem,hB]) (hv.spec _ _) ?_
  cases is with
  |false=>
   rw [if_neg (by simp)] at hR
   subst hR
   refine K_run hB 100 ?_
   simp [go_sem,State.a,State.cs]
  |true=>
   rw [if_pos rfl] at hR
   subst hR
   refine K_run hB 100 ?_
   simp [go_sem,State.a,State.cs]
   refine K_call rfl rfl rfl (args:=[.u t.on,.i j]) (f:=210) (by simp [go_sem]) (by simp [go_sem,hB]) ((with_pure t.on j (by rw [hon];exact ho.on)).spec _ _) ?_
   refine K_run hB 100 ?_
   simp [go_sem,State.a,State.cs,hon]
 ·refine K_run hB 100 ?_
  simp [go_sem,c1,c3,h2,g2,g4,w3,Stop.t]
  refine K_call rfl rfl rfl (args:=[.agg (hereC x s),.i j]) (f:=233) (by simp [go_sem,hereC]) (by simp [go_sem,hB]) (hv.spec _ _) ?_
  cases is with
  |false=>
   rw [if_neg (by simp)] at hR
   subst hR
   refine K_run hB 100 ?_
   simp [go_sem,State.a,State.cs]
  |true=>
   rw [if_pos rfl] at hR
   subst hR
   refine K_run hB 100 ?_
   simp [go_sem,State.a,State.cs]
   refine K_call rfl rfl rfl (args:=[.u t.on,.i j]) (f:=210) (by simp [go_sem]) (by simp [go_sem,hB]) ((with_pure t.on j (by rw [hon];exact ho.on)).spec _ _) ?_
   refine K_run hB 100 ?_
   simp [go_sem,State.a,State.cs,hon]
def Inst.emptyB (x:Inst) (s:State) (j:Int):Bool:=decide (s.spot=0)|| !hasB s.can (j-x.pairs)
def Inst.bring (x:Inst) (s:State) (j:Int):State×Bool:=if x.emptyB s j=true then (s,false) else if (x.visit s j).2=true then ({(x.visit s j).1 with on:=withoutN s.on (j-x.pairs)},true) else (x.visit s j)
theorem bring_pure (x:Inst) (s:State) (j:Int) {p:Nat} (hx:x.Fit p) (hs:s.Fit x p) (ho:s.ok) (h2:0≤j) (h3:j≤2*p):Pure P 194 [.agg (hereC x s),.i j] (.tup [(x.bring s j).1.a,.b (x.bring s j).2]):=by
 generalize hR:x.bring s j=R
 refine pure_of Tryz.func194 rfl rfl (by simp [Tryz.f194]) (by simp [bnd,bnd.bndL,hereC]) (by simp [bnd,bnd.bndL,State.a,State.cs]) fun B hB hnx=>?_
 simp only [Tryz.f194] at hB ⊢
 have hv:=visit_pure x s j hx hs ho h2 h3
 have hon:=visit_on x s j
 rw [Inst.bring,Inst.emptyB] at hR
 generalize x.visit s j=V at *
 obtain ⟨t,is⟩:=V
 simp only at hon hR hv
 have hp:=hx.pairs
 have hfew:=hx.few
 have w3:=w64 (j-x.pairs) (by omega)
 by_cases c1:s.spot=0
 ·have:R=(s,false):=by rw [←hR,if_pos (by simp [c1])]
  subst this
  refine K_run hB 100 ?_
  simp [go_sem,hereC,c1,State.a,State.cs]
 refine K_run hB 60 ?_
 simp [go_sem,hereC,c1,w3]
 refine K_call rfl rfl rfl (args:=[.u s.can,.i (j-x.pairs)]) (f:=193) (by simp [go_sem]) (by simp [go_sem,hB]) ((has_pure s.can (j-x.pairs) ho.can).spec _ _) ?_
 cases c2:hasB s.can (j-x.pairs) with
 |false=>
  have:R=(s,false):=by rw [←hR,if_pos (by simp [c2])]
  subst this
  refine K_run hB 100 ?_
  simp [go_sem,State.a,State.cs]
 |true=>
  rw [if_neg (by simp [c1,c2])] at hR
  refine K_run hB 100 ?_
  simp [go_sem]
  refine K_call rfl rfl rfl (args:=[.agg (hereC x s),.i j]) (f:=233) (by simp [go_sem,hereC]) (by simp [go_sem,hB]) (hv.spec _ _) ?_
  cases is with
  |false=>
   rw [if_neg (by simp)] at hR
   subst hR
   refine K_run hB 100 ?_
   simp [go_sem,State.a,State.cs]
  |true=>
   rw [if_pos rfl] at hR
   subst hR
   refine K_run hB 100 ?_
   simp [go_sem,State.a,State.cs,w3]
   refine K_call rfl rfl rfl (args:=[.u t.on,.i (j-x.pairs)]) (f:=211) (by simp [go_sem]) (by simp [go_sem,hB]) ((without_pure t.on (j-x.pairs)).spec _ _) ?_
   refine K_run hB 100 ?_
   simp [go_sem,State.a,State.cs,hon]
end Go.Proofs.YtackfabapangdaaGreat

set_option maxRecDepth 4000
namespace Go.Proofs.YtackfabapangdaaGreat
open Go Go.Proofs.YtackfabapangdaaGreat.R
def Inst.to (x:Inst) (s:State) (j:Int):State×Bool:=if j=0 then x.home s else if j≤x.pairs then x.take s j else x.bring s j
def Inst.step (x:Inst) (s:State) (j:Int):State×Int×Bool:=
 if j<0∨2*x.pairs<j then (s,0,false) else if (x.to s j).2=true then ((x.to s j).1,far (x.stop s.spot) (x.stop j),true) else (s,0,false)
def mv (r:State×Int×Bool):AV:=.tup [r.1.a,.i r.2.1,.b r.2.2]
theorem bnd_mv (r:State×Int×Bool):bnd 0 (mv r)=true:=by simp [bnd,bnd.bndL,mv,State.a,State.cs]
theorem step_pure (x:Inst) (s:State) (j:Int) {p:Nat} (hx:x.Fit p) (hs:s.Fit x p) (ho:s.ok):Pure P 149 [.agg (hereC x s),.i j] (mv (x.step s j)):=by
 generalize hR:x.step s j=R
 refine pure_of Tryz.func149 rfl rfl (by simp [Tryz.f149]) (by simp [bnd,bnd.bndL,hereC]) (bnd_mv R) fun B hB hnx=>?_
 simp only [Tryz.f149] at hB ⊢
 have hp:=hx.pairs
 have hfew:=hx.few
 have w1:=w64 (2*x.pairs) (by omega)
 rw [Inst.step] at hR
 by_cases c1:j<0
 ·rw [if_pos (.inl c1)] at hR
  subst hR
  refine K_run hB 100 ?_
  simp [go_sem,hereC,c1,mv,State.a,State.cs]
 by_cases c2:2*x.pairs<j
 ·rw [if_pos (.inr c2)] at hR
  subst hR
  refine K_run hB 100 ?_
  simp [go_sem,hereC,c1,c2,w1,mv,State.a,State.cs]
 rw [if_neg (by omega)] at hR
 have h2:0≤j:=by omega
 have h3:j≤2*p:=by omega
 have hfar:=hfar_pure x s j hx hs.spot.1 hs.spot.2 h2 h3
 generalize far (x.stop s.spot) (x.stop j)=d at *
 by_cases c3:j=0
 ·have hv:=home_pure x s j hx hs ho
  have e:x.to s j=x.home s:=by simp [Inst.to,c3]
  rw [e] at hR
  generalize x.home s=V at *
  obtain ⟨t,is⟩:=V
  subst c3
  refine K_run hB 100 ?_
  simp [go_sem,hereC,c2,w1]
  refine K_call rfl rfl rfl (args:=[.agg (hereC x s),.i 0]) (f:=195) (by simp [go_sem,hereC]) (by simp [go_sem,hB]) (hv.spec _ _) ?_
  cases is with
  |false=>
   rw [if_neg (by simp)] at hR
   subst hR
   refine K_run hB 100 ?_
   simp [go_sem,mv,State.a,State.cs]
  |true=>
   rw [if_pos rfl] at hR
   subst hR
   refine K_run hB 100 ?_
   simp [go_sem,State.a,State.cs]
   refine K_drawnT [4] rfl (by rw [hB];kernel_rfl) (by kernel_rfl) fun ht=>?_
   refine K_run hB 100 ?_
   simp [go_sem,ht]
   refine K_dCallP rfl rfl rfl (args:=[.agg (hereC x s),.i 0]) (f:=171) (by simp [go_sem,hereC]) hfar ?_
   refine K_run hB 100 ?_
   simp [go_sem,ht,mv,State.a,State.cs]
 by_cases c4:j≤x.pairs
 ·have hv:=take_pure x s j hx hs ho h2 h3
  have e:x.to s j=x.take s j:=by simp [Inst.to,c3,c4]
  rw [e] at hR
  generalize x.take s j=V at *
  obtain ⟨t,is⟩:=V
  refine K_run hB 100 ?_
  simp [go_sem,hereC,c1,c2,c3,c4,w1]
  refine K_call rfl rfl rfl (args:=[.agg (hereC x s),.i j]) (f:=196) (by simp [go_sem,hereC]) (by simp [go_sem,hB]) (hv.spec _ _) ?_
  cases is with
  |false=>
   rw [if_neg (by simp)] at hR
   subst hR
   refine K_run hB 100 ?_
   simp [go_sem,mv,State.a,State.cs]
  |true=>
   rw [if_pos rfl] at hR
   subst hR
   refine K_run hB 100 ?_
   simp [go_sem,State.a,State.cs]
   refine K_drawnT [4] rfl (by rw [hB];kernel_rfl) (by kernel_rfl) fun ht=>?_
   refine K_run hB 100 ?_
   simp [go_sem,ht]
   refine K_dCallP rfl rfl rfl (args:=[.agg (hereC x s),.i j]) (f:=171) (by simp [go_sem,hereC]) hfar ?_
   refine K_run hB 100 ?_
   simp [go_sem,ht,mv,State.a,State.cs]
 ·have hv:=bring_pure x s j hx hs ho h2 h3
  have e:x.to s j=x.bring s j:=by simp [Inst.to,c3,c4]
  rw [e] at hR
  generalize x.bring s j=V at *
  obtain ⟨t,is⟩:=V
  refine K_run hB 100 ?_
  simp [go_sem,hereC,c1,c2,c3,c4,w1]
  refine K_call rfl rfl rfl (args:=[.agg (hereC x s),.i j]) (f:=194) (by simp [go_sem,hereC]) (by simp [go_sem,hB]) (hv.spec _ _) ?_
  cases is with
  |false=>
   rw [if_neg (by simp)] at hR
   subst hR
   refine K_run hB 100 ?_
   simp [go_sem,mv,State.a,State.cs]
  |true=>
   rw [if_pos rfl] at hR
   subst hR
   refine K_run hB 100 ?_
   simp [go_sem,State.a,State.cs]
   refine K_drawnT [4] rfl (by rw [hB];kernel_rfl) (by kernel_rfl) fun ht=>?_
   refine K_run hB 100 ?_
   simp [go_sem,ht]
   refine K_dCallP rfl rfl rfl (args:=[.agg (hereC x s),.i j]) (f:=171) (by simp [go_sem,hereC]) hfar ?_
   refine K_run hB 100 ?_
   simp [go_sem,ht,mv,State.a,State.cs]
def Inst.move (x:Inst) (s:State) (j:Int):State×Int×Bool:=if x.may=true∧s.mayB x=true then x.step s j else (s,0,false)
theorem move_pure (x:Inst) (s:State) (j:Int) (hl:x.stops.length<2^63) (ho:s.ok):Pure P 89 [x.a,s.a,.i j] (mv (x.move s j)):=by
 generalize hR:x.move s j=R
 refine pure_of Tryz.func89 rfl rfl (by simp [Tryz.f89]) (by simp [bnd,bnd.bndL,Inst.a,State.a,State.cs]) (bnd_mv R) fun B hB hnx=>?_
 simp only [Tryz.f89] at hB ⊢
 rw [Inst.move] at hR
 refine K_run hB 100 ?_
 simp [go_sem,Inst.a,State.a,State.cs]
 refine K_call rfl rfl rfl (args:=[x.a]) (f:=33) (by simp [go_sem,Inst.a]) (by simp [go_sem,hB]) ((may_pure x hl).spec _ _) ?_
 cases hm:x.may with
 |false=>
  rw [if_neg (by simp [hm])] at hR
  subst hR
  refine K_run hB 100 ?_
  simp [go_sem,mv,State.a,State.cs]
 |true=>
  obtain ⟨p,hx⟩:=x.fit hm
  refine K_run hB 100 ?_
  simp [go_sem]
  refine K_call rfl rfl rfl (args:=[.agg (hereC x s)]) (f:=148) (by simp [go_sem,hereC]) (by simp [go_sem,hB]) ((hmay_pure x s hm).spec _ _) ?_
  cases hs:s.mayB x with
  |false=>
   rw [if_neg (by simp [hs])] at hR
   subst hR
   refine K_run hB 100 ?_
   simp [go_sem,mv,State.a,State.cs]
  |true=>
   rw [if_pos ⟨hm,hs⟩] at hR
   have hst:=step_pure x s j hx (s.fit hx hs) ho
   rw [hR] at hst
   refine K_run hB 100 ?_
   simp [go_sem]
   refine K_call rfl rfl rfl (args:=[.agg (hereC x s),.i j]) (f:=149) (by simp [go_sem,hereC]) (by simp [go_sem,hB]) (hst.spec _ _) ?_
   refine K_run hB 100 ?_
   simp [go_sem,mv,State.a,State.cs]
end Go.Proofs.YtackfabapangdaaGreat

set_option maxRecDepth 4000
namespace Go.Proofs.YtackfabapangdaaGreat
open Go Go.Proofs.YtackfabapangdaaGreat.R
def canB (f:Nat→Bool):Nat→List Int
 |0=>[]
 |k+1=>canB f k++(if f k=true then [(k:Int)] else [])
theorem canB_len (f:Nat→Bool):∀k,(canB f k).length≤k
 |0=>Nat.le_refl _
 |k+1=>by
  have:=canB_len f k
  rw [canB,List.length_append]
  split<;>simp only [List.length_cons,List.length_nil]<;>omega
def Inst.moves (x:Inst) (s:State):List Int:=if x.may=true∧s.mayB x=true then canB (fun k=>(x.step s k).2.2) x.stops.length else []
theorem moves_pure (x:Inst) (s:State) (hl:x.stops.length<2^63) (ho:s.ok):Pure P 109 [x.a,s.a] (.t (.sl (ints (x.moves s)))):=by
 generalize hR:x.moves s=R
 refine pure_of Tryz.func109 rfl rfl (by simp [Tryz.f109]) (by simp [bnd,bnd.bndL,Inst.a,State.a,State.cs]) (by simp [bnd]) fun B hB hnx=>?_
 simp only [Tryz.f109] at hB ⊢
 rw [Inst.moves] at hR
 refine K_run hB 100 ?_
 simp [go_sem,Inst.a,State.a,State.cs]
 refine K_call rfl rfl rfl (args:=[x.a]) (f:=33) (by simp [go_sem,Inst.a]) (by simp [go_sem,hB]) ((may_pure x hl).spec _ _) ?_
 cases hm:x.may with
 |false=>
  rw [if_neg (by simp [hm])] at hR
  subst hR
  refine K_run hB 100 ?_
  simp [go_sem,ints]
 |true=>
  obtain ⟨p,hx⟩:=x.fit hm
  refine K_run hB 100 ?_
  simp [go_sem]
  refine K_call rfl rfl rfl (args:=[.agg (hereC x s)]) (f:=148) (by simp [go_sem,hereC]) (by simp [go_sem,hB]) ((hmay_pure x s hm).spec _ _) ?_
  cases hs:s.mayB x with
  |false=>
   rw [if_neg (by simp [hs])] at hR
   subst hR
   refine K_run hB 100 ?_
   simp [go_sem,ints]
  |true=>
   rw [if_pos ⟨hm,hs⟩] at hR
   have hst:=fun j=>step_pure x s j hx (s.fit hx hs) ho
   have hlen:=hx.len
   have hfew:=hx.few
   have hmost:mostLen=4294967296:=rfl
   refine K_run hB 100 ?_
   simp [go_sem]
   refine K_own 6 1 (by simp [go_sem]) ?_
   refine K_loopP (α:=Nat×Nat×(Nat→AObj)×Nat) (fun (k,j,σ,nx)=>k≤x.stops.length∧σ 2= .box (hereC x s)∧σ j= .arr 1 (ints (canB (fun k=>(x.step s k).2.2) k))∧2<j∧j<nx)
    (fun (k,j,σ,nx)=>⟨sl [(5,.ptr 2 0),(6,.ref j),(24,.i x.stops.length),(25,.i k)],σ,nx⟩) (fun a=>x.stops.length-a.1) (0,3,_,4) ?_ (Imp.slots (by simp [go_sem]) rfl rfl) ?_
   ·exact ⟨Nat.zero_le _,by simp [oput,hereC],by simp [oput,canB,ints],by omega,by omega⟩
   rintro ⟨k,j,σ,nx⟩ ⟨g1,g2,g3,g5,g6⟩
   refine K_run hB 60 ?_
   simp [go_sem]
   refine fork_dec (fun hk=>?_) (fun hk=>?_)
   ·have hkk:IntKind.i64.wrap ((k:Int)+1)=((k+1:Nat):Int):=by rw [w64 ((k:Int)+1) (by omega)];rfl
    have hn:canB (fun k=>(x.step s k).2.2) (k+1)=canB (fun k=>(x.step s k).2.2) k++(if (x.step s k).2.2=true then [(k:Int)] else []):=rfl
    have hcl:=canB_len (fun k=>(x.step s k).2.2) k
    have h1:=hst k
    generalize canB (fun k=>(x.step s k).2.2) k=L at g3 hn hcl
    generalize x.step s k=V at hn h1
    obtain ⟨t,c,is⟩:=V
    simp only at hn
    simp [go_sem,g2,hereC]
    refine K_call rfl rfl rfl (args:=[.agg (hereC x s),.i k]) (f:=149) (by simp [go_sem,hereC]) (by simp [go_sem,hB]) (h1.spec _ _) ?_
    cases is with
    |false=>
     refine K_run hB 60 ?_
     simp [go_sem,mv,State.a,State.cs,hkk]
     refine Next.mk (k+1,j,_,nx+1) ?_ (Imp.slots (by simp [go_sem]) rfl rfl) (by simp only;omega)
     refine ⟨by simp only;omega,?_,?_,by simp only;omega,by simp only;omega⟩
     ·simp [oput,show ¬2=nx by omega,g2,hereC]
     ·simp only [hn]
      simp [oput,show ¬j=nx by omega,g3]
    |true=>
     have hlen':(ints L).length=L.length:=List.length_map _
     have hcap:L.length+1≤mostLen:=by omega
     refine K_run hB 60 ?_
     simp [go_sem,mv,State.a,State.cs,hkk,g3,hlen',hcap,show ¬j=nx by omega]
     refine Next.mk (k+1,nx+1,_,nx+2) ?_ (Imp.slots (by simp [go_sem]) rfl rfl) (by simp only;omega)
     refine ⟨by simp only;omega,?_,?_,by simp only;omega,by simp only;omega⟩
     ·simp [oput,show ¬2=nx by omega,show ¬2=nx+1 by omega,show ¬2=j by omega,g2,hereC]
     ·simp only [hn]
      simp [oput,ints]
   ·have:k=x.stops.length:=by omega
    subst this
    rw [hR] at g3
    simp [go_sem,g3]
def Inst.endS (x:Inst) (s:State):Int×Bool:=
 if x.may=false then (0,false)
 else if x.pairs=0∧s=x.rootS then (0,true)
 else if s.mayB x=true∧s.spot≠0∧s.on=0∧x.allB s.can=true∧s.time+far (x.stop s.spot) (x.stop 0)≤(x.stop 0).due then (far (x.stop s.spot) (x.stop 0),true) else (0,false)
theorem end_pure (x:Inst) (s:State) (hl:x.stops.length<2^63) (ho:s.ok):Pure P 108 [x.a,s.a] (.tup [.i (x.endS s).1,.b (x.endS s).2]):=by
 generalize hR:x.endS s=R
 refine pure_of Tryz.func108 rfl rfl (by simp [Tryz.f108]) (by simp [bnd,bnd.bndL,Inst.a,State.a,State.cs]) (by simp [bnd,bnd.bndL]) fun B hB hnx=>?_
 simp only [Tryz.f108] at hB ⊢
 rw [Inst.endS] at hR
 refine K_run hB 100 ?_
 simp [go_sem,Inst.a,State.a,State.cs]
 refine K_call rfl rfl rfl (args:=[x.a]) (f:=33) (by simp [go_sem,Inst.a]) (by simp [go_sem,hB]) ((may_pure x hl).spec _ _) ?_
 cases hm:x.may with
 |false=>
  rw [if_pos hm] at hR
  subst hR
  refine K_run hB 100 ?_
  simp [go_sem]
 |true=>
  obtain ⟨p,hx⟩:=x.fit hm
  rw [if_neg (by simp [hm])] at hR
  refine K_run hB 100 ?_
  simp [go_sem]
  refine K_drawn [] rfl (by rw [hB];kernel_rfl) ?_
  have hp:=hx.pairs
  have hr:=root_pureS x hl
  generalize x.rootS=r at *
  by_cases c0:x.pairs=0∧s=r
  ·rw [if_pos c0] at hR
   obtain ⟨c1,c2⟩:=c0
   subst hR
   refine K_run hB 100 ?_
   simp [go_sem,c1]
   refine K_dCallP rfl rfl rfl (args:=[x.a]) (f:=57) (by simp [go_sem,Inst.a,c1]) hr ?_
   refine K_dEq (op:=.eql) (t:=67) (t':=67) (x:=.tmp 18) (y:=.tmp 20) (xs:=s.cs) (ys:=r.cs) (by simp [go_sem,c1]) rfl (by simp [go_sem,State.cs]) (by simp [go_sem,State.a]) state_guard (state_eq s r) rfl ?_
   refine K_run hB 100 ?_
   simp [go_sem,c1,c2]
  rw [if_neg c0] at hR
  have g2:(0:Int)<x.stops.length:=hx.lt (j:=0) (by omega)
  have g3:0<x.stops.length:=by omega
  have g4:=hx.get0
  have hfi:=far_in' (x.stop s.spot) (x.stop 0)
  by_cases c1:x.pairs=0
  all_goals
   first
   |have c2:¬s=r:=fun h=>c0 ⟨c1,h⟩
    refine K_run hB 100 ?_
    simp [go_sem,c1]
    refine K_dCallP rfl rfl rfl (args:=[x.a]) (f:=57) (by simp [go_sem,Inst.a,c1]) hr ?_
    refine K_dEq (op:=.eql) (t:=67) (t':=67) (x:=.tmp 18) (y:=.tmp 20) (xs:=s.cs) (ys:=r.cs) (by simp [go_sem,c1]) rfl (by simp [go_sem,State.cs]) (by simp [go_sem,State.a]) state_guard (state_eq s r) rfl ?_
    refine K_run hB 100 ?_
    simp [go_sem,c1,c2]
    refine K_drawn [] rfl (by rw [hB];kernel_rfl) ?_
    refine K_run hB 100 ?_
    simp [go_sem]
   |refine K_run hB 100 ?_
    simp [go_sem,c1]
    refine K_drawn [] rfl (by rw [hB];kernel_rfl) ?_
    refine K_run hB 100 ?_
    simp [go_sem]
  all_goals
   refine K_dCallP rfl rfl rfl (args:=[.agg (hereC x s)]) (f:=148) (by simp [go_sem,hereC,c1]) (hmay_pure x s hm) ?_
   cases hs:s.mayB x with
   |false=>
    rw [if_neg (by simp [hs])] at hR
    subst hR
    refine K_run hB 100 ?_
    simp [go_sem]
   |true=>
    have hs':=s.fit hx hs
    have w1:=w64 (s.time+far (x.stop s.spot) (x.stop 0)) (by have:=hs'.time;omega)
    have hfar:=hfar_pure x s 0 hx hs'.spot.1 hs'.spot.2 (by omega) (by omega)
    generalize far (x.stop s.spot) (x.stop 0)=d at *
    generalize x.stop 0=a at *
    by_cases c3:s.spot=0
    ·rw [if_neg (by simp [c3])] at hR
     subst hR
     refine K_run hB 100 ?_
     simp [go_sem,c3]
    by_cases c4:s.on=0
    rotate_left
    ·rw [if_neg (by simp [c4])] at hR
     subst hR
     refine K_run hB 100 ?_
     simp [go_sem,c3,c4]
    refine K_run hB 100 ?_
    simp [go_sem,c3,c4]
    refine K_dCallP rfl rfl rfl (args:=[.agg (hereC x s),.u s.can]) (f:=170) (by simp [go_sem,hereC,c1,c4]) (hall_pure x s s.can hx) ?_
    cases c5:x.allB s.can with
    |false=>
     rw [if_neg (by simp [c5])] at hR
     subst hR
     refine K_run hB 100 ?_
     simp [go_sem,c3]
    |true=>
     refine K_run hB 100 ?_
     simp [go_sem,c3]
     refine K_dCallP rfl rfl rfl (args:=[.agg (hereC x s),.i 0]) (f:=171) (by simp [go_sem,hereC,c1,c4]) hfar ?_
     by_cases c6:a.due<s.time+d
     ·rw [if_neg (by simp [c6])] at hR
      subst hR
      refine K_run hB 100 ?_
      simp [go_sem,c3,c6,w1,g2,g3,g4,Stop.t]
     ·rw [if_pos ⟨hs,c3,c4,c5,by omega⟩] at hR
      subst hR
      refine K_run hB 100 ?_
      simp [go_sem,c3,c6,w1,g2,g3,g4,Stop.t]
      refine K_call rfl rfl rfl (args:=[.agg (hereC x s),.i 0]) (f:=171) (by simp [go_sem,hereC,c1,c4]) (by simp [go_sem,hB]) (hfar.spec _ _) ?_
      refine K_run hB 100 ?_
      simp [go_sem]
end Go.Proofs.YtackfabapangdaaGreat

set_option maxRecDepth 4000
namespace Go.Proofs.YtackfabapangdaaGreat
open Go Go.Proofs.YtackfabapangdaaGreat.R
theorem State.zero_ok:State.zero.ok:=⟨by decide,by decide,by decide⟩
theorem rootS_ok (x:Inst):x.rootS.ok:=by
 unfold Inst.rootS
 split
 ·exact ⟨State.zero_ok.must,State.zero_ok.can,State.zero_ok.on⟩
 ·exact State.zero_ok
theorem seen_ok (x:Inst) {s:State} (j:Int) (h:s.ok):(x.seen s j).ok:=⟨withN_lt h.must j,withN_lt h.can j,h.on⟩
theorem visit_ok (x:Inst) {s:State} (j:Int) (h:s.ok):(x.visit s j).1.ok:=by
 unfold Inst.visit
 split
 ·exact h
 ·exact seen_ok x j h
theorem to_ok (x:Inst) {s:State} (j:Int) (h:s.ok):(x.to s j).1.ok:=by
 unfold Inst.to
 split
 ·unfold Inst.home
  split
  ·exact h
  ·exact ⟨h.must,h.can,h.on⟩
 ·have hv:=visit_ok x j h
  split
  ·unfold Inst.take
   split
   ·exact h
   ·split
    ·exact ⟨hv.must,hv.can,withN_lt h.on j⟩
    ·exact hv
  ·unfold Inst.bring
   split
   ·exact h
   ·split
    ·exact ⟨hv.must,hv.can,withoutN_lt _ _⟩
    ·exact hv
theorem move_ok (x:Inst) {s:State} (j:Int) (h:s.ok):(x.move s j).1.ok:=by
 unfold Inst.move
 split
 ·unfold Inst.step
  split
  ·exact h
  ·split
   ·exact to_ok x j h
   ·exact h
 ·exact h
theorem ints_getS (l:List Int) {i:Nat} (h:i<l.length):(ints l)[i]'(by rw [ints,List.length_map];exact h)=[.i l[i]]:=by simp [ints]
def Inst.goes (x:Inst):List Int→State→Int→Option (State×Int)
 |[],s,c=>some (s,c)
 |j :: l,s,c=>if (x.move s j).2.2=true then x.goes l (x.move s j).1 (IntKind.i64.wrap (c+(x.move s j).2.1)) else none
end Go.Proofs.YtackfabapangdaaGreat

set_option maxRecDepth 100000
namespace Go.Proofs.YtackfabapangdaaGreat
open Go Go.ChangeShapes Go.WideShapes Go.ChangeAt Go.RowKit Go.Proofs.YtackfabapangdaaGreat.R
theorem own0:ownKnob Tryz.prog.godebug=Option.none:=by kernel_rfl
theorem has_i {f:Nat} {ts:List T} (h:HasT P f 3 ts):∃n:Int,ts=[.i n]:=by
 obtain ⟨n,rfl,_⟩:=has_int (tt_some tt3).1 h
 exact ⟨n,rfl⟩
theorem has_ints {f:Nat} {ts:List T} (h:HasT P f 68 ts):∃l:List Int,ts=[.sl (ints l)]∧l.length≤maxLen:=by
 obtain ⟨l,rfl,h1,_⟩:=has_slice (g:=fun n=>[T.i n]) (Q:=fun _=>True) (tt_some tt68).1 (fun f x h=>by
  obtain ⟨n,rfl⟩:=has_i h
  exact ⟨n,rfl,trivial⟩) h
 exact ⟨l,rfl,h1⟩
section
variable {H:Type} {enc:TypeId×Value→H} {W:World} {base:Nat} {sp:Nat→Bool} {held:Bool} {v:Value} {d:DataW H} {ps:List MemPlace}
end
end Go.Proofs.YtackfabapangdaaGreat

set_option maxRecDepth 4000
set_option maxHeartbeats 1000000
namespace Go.Proofs.YtackfabapangdaaGreat
open Go Go.Proofs.YtackfabapangdaaGreat.R
def leastL (l:List Int) (k:Nat):Int:=((l.take k).drop 1).foldl min (l.getD 0 0)
theorem leastL_one (l:List Int):leastL l 1=l.getD 0 0:=by
 cases l<;>rfl
theorem leastL_succ (l:List Int) {k:Nat} (h1:1≤k) (h:k<l.length):leastL l (k+1)=min (leastL l k) l[k]:=by
 have e:(l.take (k+1)).drop 1=(l.take k).drop 1++[l[k]]:=by
  rw [List.take_succ_eq_append_getElem h,List.drop_append,show 1-(l.take k).length=0 by rw [List.length_take];omega]
  rfl
 rw [leastL,e,List.foldl_append]
 rfl
theorem smin_pure (l:List Int) (h0:0<l.length) (hl:l.length<2^62):Pure P 55 [.t (.sl (ints l))] (.i (leastL l l.length)):=by
 generalize hR:leastL l l.length=R
 refine pure_of Tryz.func55 rfl rfl (by simp [Tryz.f55]) (by simp [bnd,bnd.bndL]) (by simp [bnd,bnd.bndL]) fun B hB hnx=>?_
 simp only [Tryz.f55] at hB ⊢
 have hil:(ints l).length=l.length:=List.length_map _
 have hg0:=ints_getS l h0
 have c0:¬l.length=0:=by omega
 have e0:l[0]=leastL l 1:=by rw [leastL_one,List.getD_eq_getElem?_getD,List.getElem?_eq_getElem h0];rfl
 have c1:¬(l.length:Int)<1:=by omega
 refine K_run hB 100 ?_
 simp [go_sem,hil,c0,c1,h0,hg0,e0]
 refine K_loopP (α:=Nat) (fun k=>1≤k∧k≤l.length) (fun k=>⟨sl [(0,.t (.sl (ints l))),(3,.i (leastL l k)),(4,.i k)],_,_⟩) (fun k=>l.length-k) 1 ⟨Nat.le_refl _,h0⟩ (Imp.slots (by simp [go_sem]) rfl rfl) ?_
 rintro k ⟨g0,g1⟩
 by_cases hk:k<l.length
 ·have hkk:IntKind.i64.wrap ((k:Int)+1)=((k+1:Nat):Int):=by rw [w64 _ (by omega)];rfl
  have hgk:=ints_getS l hk
  have hs:=leastL_succ l g0 hk
  generalize l[k]=v at *
  generalize leastL l k=u at *
  refine K_run hB 100 ?_
  simp [go_sem,hil,hk,hgk,hkk]
  exact Next.mk (k+1) ⟨by omega,by omega⟩ (Imp.slots (by simp [go_sem,hs]) rfl rfl) (by omega)
 ·have:k=l.length:=by omega
  subst this
  rw [hR]
  refine K_run hB 100 ?_
  simp [go_sem,hil]
theorem linesF_row (b:List Nat):∀f i a l,(∀r∈a,r≠[]∧r.length≤b.length+1)→linesF b f i a=some l→∀r∈l,r≠[]∧r.length≤b.length+1
 |0,i,a,l,ha,h=>by simp [linesF] at h;subst h;exact ha
 |f+1,i,a,l,ha,h=>by
  rw [linesF] at h
  split at h
  ·split at h
   ·refine linesF_row b f _ _ _ ?_ h
    split
    ·exact ha
    ·rename_i hne
     intro r hr
     rcases List.mem_append.1 hr with hr | hr
     ·exact ha r hr
     ·rw [List.mem_singleton.1 hr]
      refine ⟨hne,?_⟩
      have:=lineF_len b (b.length+1) i []
      simpa [lineR] using this
   ·cases h
  ·cases h;exact ha
theorem linesR_row (b:List Nat):∀r∈(linesR b).1,r≠[]∧r.length≤4097:=by
 unfold linesR
 split
 ·intro r hr;cases hr
 ·rename_i hl
  split
  ·intro r hr;cases hr
  ·rename_i a h
   intro r hr
   have:=linesF_row b _ _ _ _ (fun r hr=>by cases hr) h r hr
   exact ⟨this.1,by omega⟩
def badRow (l:List Int):Bool:=decide (leastL l l.length<1)
def planL (l:List (List Int)):List (List Int)×Int:=if l.any badRow=true then ([],2) else (l,0)
def planR (b:List Nat):List (List Int)×Int:=if (linesR b).2≠0 then ([],(linesR b).2) else planL (linesR b).1
theorem linesB_pure (b:List Nat) (hb:b.length<2^63) (hb8:∀c∈b,c<256):Pure P 47 [.t (.sl (byt b))] (.tup [.t (.sl ((linesR b).1.map rowT)),.i (linesR b).2]):=by
 by_cases h:b.length<2^62
 ·exact lines_pure b h hb8
 have e:linesR b=([],6):=if_pos (by omega)
 rw [e]
 refine pure_of Tryz.func47 rfl rfl (by simp [Tryz.f47]) (by simp [bnd,bnd.bndL]) (by simp [bnd,bnd.bndL]) fun B hB hnx=>?_
 simp only [Tryz.f47] at hB ⊢
 have c:4096<(b.length:Int):=by omega
 refine K_run hB 100 ?_
 simp [go_sem,byt_len,c]
theorem parseB_pure (b:List Nat) (hb:b.length<2^63) (hb8:∀c∈b,c<256):Pure P 21 [.t (.sl (byt b))] (.tup [(parseR b).1.a,.i (parseR b).2]):=by
 by_cases h:b.length<2^62
 ·exact parse_pure b h hb8
 have e:linesR b=([],6):=if_pos (by omega)
 have e2:parseR b=(Inst.zero,6):=by rw [parseR,e];rfl
 have hp:=linesB_pure b hb hb8
 rw [e] at hp
 rw [e2]
 refine pure_of Tryz.func21 rfl rfl (by simp [Tryz.f21]) (by simp [bnd,bnd.bndL]) (by simp [bnd,bnd.bndL,Inst.a,Inst.zero]) fun B hB hnx=>?_
 simp only [Tryz.f21] at hB ⊢
 refine K_run hB 100 ?_
 simp [go_sem]
 refine K_call rfl rfl rfl (args:=[.t (.sl (byt b))]) (f:=47) (by simp [go_sem]) (by simp [go_sem,hB]) ((hp).spec _ _) ?_
 refine K_run hB 100 ?_
 simp [go_sem,Inst.a,Inst.zero]
theorem pparse_pure (b:List Nat) (hb:b.length<2^63) (hb8:∀c∈b,c<256):Pure P 23 [.t (.sl (byt b))] (.tup [.agg [.t (.sl ((planR b).1.map rowT))],.i (planR b).2]):=by
 generalize hR:planR b=R
 refine pure_of Tryz.func23 rfl rfl (by simp [Tryz.f23]) (by simp [bnd,bnd.bndL]) (by simp [bnd,bnd.bndL]) fun B hB hnx=>?_
 simp only [Tryz.f23] at hB ⊢
 rw [planR] at hR
 have hrow:=linesR_row b
 have hlen:=linesR_len b
 have hp:=linesB_pure b hb hb8
 refine K_run hB 100 ?_
 simp [go_sem]
 refine K_call rfl rfl rfl (args:=[.t (.sl (byt b))]) (f:=47) (by simp [go_sem]) (by simp [go_sem,hB]) ((hp).spec _ _) ?_
 generalize (linesR b).1=l at *
 generalize (linesR b).2=e at *
 by_cases ce:e=0
 rotate_left
 ·rw [if_pos ce] at hR
  subst hR
  refine K_run hB 100 ?_
  simp [go_sem,ce]
 ·subst ce
  rw [if_neg (by simp),planL] at hR
  have hll:(l.map rowT).length=l.length:=List.length_map _
  refine K_run hB 100 ?_
  simp [go_sem,hll]
  refine K_loopP (α:=Nat) (fun k=>k≤l.length∧∀r∈l.take k,badRow r=false) (fun k=>⟨sl [(2,.ptr 0 0),(3,.i 0),(4,.t (.sl (l.map rowT))),(17,.t (.sl (l.map rowT))),(18,.i l.length),(19,.i k)],_,_⟩) (fun k=>l.length-k) 0 ⟨Nat.zero_le _,fun r hr=>by simp at hr⟩ (Imp.slots (by simp [go_sem]) rfl rfl) ?_
  rintro k ⟨g0,g1⟩
  by_cases hk:k<l.length
  ·have hkk:IntKind.i64.wrap ((k:Int)+1)=((k+1:Nat):Int):=by rw [w64 _ (by omega)];rfl
   have hgk:∀h,(l.map rowT)[k]'h=[.sl (ints l[k])]:=fun h=>by simp [rowT]
   have hr:=hrow l[k] (List.getElem_mem _)
   have hm:=smin_pure l[k] (List.length_pos_iff.2 hr.1) (by omega)
   have htk:l.take (k+1)=l.take k++[l[k]]:=List.take_succ_eq_append_getElem hk
   have hmem:l[k]∈l:=List.getElem_mem _
   generalize l[k]=r at *
   refine K_run hB 100 ?_
   simp [go_sem,hll,hk,hgk]
   refine K_call rfl rfl rfl (args:=[.t (.sl (ints r))]) (f:=55) (by simp [go_sem]) (by simp [go_sem,hB]) ((hm).spec _ _) ?_
   by_cases c:leastL r r.length<1
   ·have hany:l.any badRow=true:=List.any_eq_true.2 ⟨r,hmem,decide_eq_true c⟩
    rw [if_pos hany] at hR
    subst hR
    refine K_run hB 100 ?_
    simp [go_sem,c]
   ·refine K_run hB 100 ?_
    simp [go_sem,c,hkk]
    refine Next.mk (k+1) ⟨by omega,fun r' hr'=>?_⟩ (Imp.slots (by simp [go_sem]) rfl rfl) (by omega)
    rw [htk] at hr'
    rcases List.mem_append.1 hr' with h | h
    ·exact g1 r' h
    ·rw [List.mem_singleton.1 h];exact decide_eq_false c
  ·have:k=l.length:=by omega
   subst this
   rw [List.take_length] at g1
   have hany:¬l.any badRow=true:=by rw [List.any_eq_true];rintro ⟨r,h1,h2⟩;rw [g1 r h1] at h2;cases h2
   rw [if_neg hany] at hR
   subst hR
   refine K_run hB 100 ?_
   simp [go_sem,hll]
end Go.Proofs.YtackfabapangdaaGreat

set_option maxRecDepth 4000
namespace Go.Proofs.YtackfabapangdaaGreat
open Go Go.Proofs.YtackfabapangdaaGreat.R
def Inst.row (x:Inst) (a:Stop):List Int:=x.stops.map (far a)
def Inst.mat (x:Inst):List (List Int):=if x.may then x.stops.map x.row else []
abbrev Inst.cs (x:Inst):List AV:=[.t (.i x.pairs),.t (.i x.cars),.t (.i x.room),.t (.sl (x.stops.map Stop.t))]
theorem ints_snoc (l:List Int) (n:Int):ints l++[[.i n]]=ints (l++[n]):=by simp [ints]
def Inst.rows (x:Inst):List (List T):=x.stops.map fun a=>rowT (x.row a)
theorem Inst.rows_len (x:Inst):x.rows.length=x.stops.length:=List.length_map _
theorem Inst.row_len (x:Inst) (a:Stop):(x.row a).length=x.stops.length:=List.length_map _
theorem Inst.rows_snoc (x:Inst) {k:Nat} (h:k<x.stops.length):x.rows.take (k+1)=x.rows.take k++[rowT (x.row x.stops[k])]:=by
 rw [List.take_succ_eq_append_getElem (by rw [x.rows_len];exact h)]
 simp [Inst.rows]
theorem Inst.row_snoc (x:Inst) (a:Stop) {i:Nat} (h:i<x.stops.length):(x.row a).take (i+1)=(x.row a).take i++[far a x.stops[i]]:=by
 rw [List.take_succ_eq_append_getElem (by rw [x.row_len];exact h)]
 simp [Inst.row]
theorem Inst.mat_rows (x:Inst):x.mat.map rowT=if x.may then x.rows else []:=by
 unfold Inst.mat
 split
 ·simp [Inst.rows]
 ·rfl
theorem matrix_pure (x:Inst) (hl:x.stops.length<2^31):Pure P 191 [x.a] (.t (.sl (x.mat.map rowT))):=by
 rw [x.mat_rows]
 refine pure_of Tryz.func191 rfl rfl (by simp [Tryz.f191]) (by simp [bnd,bnd.bndL,Inst.a]) (by split<;>simp [bnd]) fun B hB hnx=>?_
 simp only [Tryz.f191] at hB ⊢
 have hm:mostLen=4294967296:=rfl
 refine K_run hB 60 ?_
 simp [go_sem,Inst.a]
 refine K_call rfl rfl rfl (args:=[x.a]) (f:=33) (by simp [go_sem,Inst.a]) (by simp [go_sem,hB]) ((may_pure x (by omega)).spec _ _) ?_
 by_cases h0:x.may=true
 rotate_left
 ·have h0':x.may=false:=by simpa using h0
  rw [h0']
  refine K_run hB 60 ?_
  simp [go_sem,h0']
 rw [h0]
 refine K_run hB 60 ?_
 simp [go_sem]
 refine K_own 3 1 (by simp [go_sem]) ?_
 refine K_loopP (α:=Nat×Nat×(Nat→AObj)×Nat) (fun (k,j,σ,nx)=>k≤x.stops.length∧σ 0= .box x.cs∧σ j= .arr 1 (x.rows.take k)∧0<j∧j<nx)
  (fun (k,j,σ,nx)=>⟨sl [(1,.ptr 0 0),(3,.ref j),(13,.t (.sl (x.stops.map Stop.t))),(14,.i x.stops.length),(15,.i k)],σ,nx⟩) (fun y=>x.stops.length-y.1) (0,1,_,2)
  ?_ (Imp.slots (by simp [go_sem]) rfl rfl) ?_
 ·exact ⟨Nat.zero_le _,by simp [oput],by simp [oput],by omega,by omega⟩
 rintro ⟨k,j,σ,nx⟩ ⟨g1,c0,cj,gj,gn⟩
 refine K_run hB 60 ?_
 simp [go_sem]
 refine fork_dec (fun h=>?_) (fun h=>?_)
 rotate_left
 ·have:k=x.stops.length:=by omega
  subst this
  rw [←x.rows_len,List.take_length] at cj
  simp [go_sem,cj,h0]
 have htk:=x.rows_snoc h
 have hrl:=x.rows_len
 have hkk:IntKind.i64.wrap ((k:Int)+1)=((k+1:Nat):Int):=by rw [w64 ((k:Int)+1) (by omega)];rfl
 generalize ha:x.stops[k]=a at *
 have hn0:¬0=nx:=by omega
 simp [go_sem,h,ha,Stop.t,c0,hn0]
 refine K_own 6 1 (by simp [go_sem]) ?_
 refine K_loopP (α:=Nat×Nat×(Nat→AObj)×Nat) (fun (i,q,σ',nx')=>i≤x.stops.length∧σ' 0= .box x.cs∧σ' j= .arr 1 (x.rows.take k)∧σ' nx= .box (a.t.map .t)∧σ' q= .arr 1 (ints ((x.row a).take i))∧nx<q∧q<nx')
  (fun (i,q,σ',nx')=>⟨sl [(1,.ptr 0 0),(3,.ref j),(13,.t (.sl (x.stops.map Stop.t))),(14,.i x.stops.length),(15,.i k),(5,.ptr nx 0),(6,.ref q),(20,.t (.sl (x.stops.map Stop.t))),(21,.i x.stops.length),(22,.i i)],σ',nx'⟩) (fun y=>x.stops.length-y.1) (0,nx+1,_,nx+2)
  ?_ (Imp.slots (by simp [go_sem]) rfl rfl) ?_
 ·exact ⟨Nat.zero_le _,by simp [oput,c0,hn0],by simp [oput,cj,show j≠nx by omega,show j≠nx+1 by omega],by simp [oput,Stop.t],by simp [oput,ints],by omega,by omega⟩
 rintro ⟨i,q,σ',nx'⟩ ⟨i1,d0,dj,da,dq,i2,i3⟩
 refine K_run hB 60 ?_
 simp [go_sem]
 refine fork_dec (fun hi=>?_) (fun hi=>?_)
 ·have hti:=x.row_snoc a hi
  have hrl2:=x.row_len a
  have hii:IntKind.i64.wrap ((i:Int)+1)=((i+1:Nat):Int):=by rw [w64 ((i:Int)+1) (by omega)];rfl
  have hlen:(ints ((x.row a).take i)).length=i:=by simp only [ints,List.length_map,List.length_take];omega
  generalize hb:x.stops[i]=b at *
  generalize (x.row a).take i=L at dq hlen hti
  simp [go_sem,hi,hb,Stop.t,da,show ¬nx=nx' by omega]
  refine K_call rfl rfl rfl (args:=[.agg (a.t.map .t),.agg (b.t.map .t)]) (f:=214) (by simp [go_sem,Stop.t]) (by simp [go_sem,hB]) ((far_pure a b).spec _ _) ?_
  have hcap:i+1≤mostLen:=by omega
  refine K_run hB 60 ?_
  simp [go_sem,dq,show ¬q=nx' by omega,hlen,hcap,hii]
  refine Next.mk (i+1,nx'+1,_,nx'+2) ?_ (Imp.slots (by simp [go_sem]) rfl rfl) (by simp only;omega)
  refine ⟨by simp only;omega,?_,?_,?_,?_,by simp only;omega,by simp only;omega⟩
  ·simp [oput,d0,show ¬0=nx' by omega,show ¬0=q by omega]
  ·simp [oput,dj,show ¬j=nx' by omega,show ¬j=q by omega,show ¬j=nx'+1 by omega]
  ·simp [oput,da,show ¬nx=nx' by omega,show ¬nx=q by omega,show ¬nx=nx'+1 by omega,Stop.t]
  ·simp [oput,hti,ints_snoc]
 ·have:i=x.stops.length:=by omega
  subst this
  rw [←x.row_len a,List.take_length] at dq
  simp [go_sem]
  refine K_imp (Imp.freeze (q:=q) (sz:=1) (es:=ints (x.row a)) (by simp [go_sem,dq])) ?_
  have hj0:¬j=q:=by omega
  have hlen:(x.rows.take k).length=k:=by rw [List.length_take];omega
  generalize x.rows.take k=R at dj hlen htk
  have hcap:k+1≤mostLen:=by omega
  refine K_run hB 60 ?_
  simp [go_sem,frz1,frzO,hj0,dj,hkk,hlen,hcap]
  refine Next.mk (k+1,nx',_,nx'+1) ?_ (Imp.slots (by simp [go_sem,frz1]) rfl rfl) (by simp only;omega)
  refine ⟨by simp only;omega,?_,?_,by simp only;omega,by simp only;omega⟩
  ·simp [oput,d0,frzO,frz1.frzL,frz1,show ¬0=nx' by omega,show ¬0=j by omega,show ¬0=q by omega]
  ·simp [oput,htk,rowT]
end Go.Proofs.YtackfabapangdaaGreat

set_option maxRecDepth 4000
namespace Go.Proofs.YtackfabapangdaaGreat
open Go Go.Proofs.YtackfabapangdaaGreat.R
def inf:Int:=1152921504606846976
theorem far_in (a b:Stop):0≤far a b∧far a b<inf:=by
 have h:=sq_in a b
 unfold far rootI inf
 split
 ·omega
 ·have:=rootL_lt (min (sq a b) 1152921504606846976).toNat 31 0
  simp only [Nat.reducePow,Nat.zero_add] at this
  omega
def nearF (k:Nat) (b:Stop):Nat→List Stop→Int→Int
 |_,[],v=>v
 |i,a :: l,v=>nearF k b (i+1) l (if i=k then v else min v (far a b))
def Inst.nearK (x:Inst) (k:Nat) (b:Stop):Int:=(nearF k b 0 x.stops inf).tmod inf
def nears (x:Inst):Nat→List Stop→List Int
 |_,[]=>[]
 |k,b :: l=>x.nearK k b :: nears x (k+1) l
def Inst.near (x:Inst):List Int:=if x.may then nears x 0 x.stops else []
theorem nears_len (x:Inst):∀k l,(nears x k l).length=l.length
 |_,[]=>rfl
 |k,b :: l=>by rw [nears,List.length_cons,nears_len x (k+1) l,List.length_cons]
theorem nears_get (x:Inst):∀(k:Nat) (l:List Stop) (i:Nat) (h:i<l.length),(nears x k l)[i]'(by rw [nears_len];exact h)=x.nearK (k+i) l[i]
 |k,b :: l,0,h=>rfl
 |k,b :: l,i+1,h=>by
  have:=nears_get x (k+1) l i (by simpa using h)
  simp only [nears,List.getElem_cons_succ]
  rw [this,show k+1+i=k+(i+1) by omega]
theorem nears_snoc (x:Inst) {k:Nat} (h:k<x.stops.length):(nears x 0 x.stops).take (k+1)=(nears x 0 x.stops).take k++[x.nearK k x.stops[k]]:=by
 rw [List.take_succ_eq_append_getElem (by rw [nears_len];exact h),nears_get x 0 x.stops k h,Nat.zero_add]
theorem nearF_drop {k:Nat} {b:Stop} {l:List Stop} {i:Nat} {v:Int} (h:i<l.length):nearF k b i (l.drop i) v=nearF k b (i+1) (l.drop (i+1)) (if i=k then v else min v (far l[i] b)):=by rw [List.drop_eq_getElem_cons h];rfl
theorem rows_get (x:Inst) {i:Nat} (h:i<x.rows.length):x.rows[i]=rowT (x.row (x.stops[i]'(by rw [x.rows_len] at h;exact h))):=by simp [Inst.rows]
theorem row_get (x:Inst) (a:Stop) {i:Nat} (h:i<(x.row a).length):(x.row a)[i]=far a (x.stops[i]'(by rw [x.row_len] at h;exact h)):=by simp [Inst.row]
theorem ints_get (l:List Int) {i:Nat} (h:i<(ints l).length):(ints l)[i]=[.i (l[i]'(by simpa [ints] using h))]:=by simp [ints]
theorem ints_len (l:List Int):(ints l).length=l.length:=List.length_map _
theorem near_pure (x:Inst) (hl:x.stops.length<2^31):Pure P 146 [x.a] (.t (.sl (ints x.near))):=by
 have hinf:inf=1152921504606846976:=rfl
 refine pure_of Tryz.func146 rfl rfl (by simp [Tryz.f146]) (by simp [bnd,bnd.bndL,Inst.a]) (by simp [bnd]) fun B hB hnx=>?_
 simp only [Tryz.f146] at hB ⊢
 have hm:mostLen=4294967296:=rfl
 refine K_run hB 60 ?_
 simp [go_sem,Inst.a]
 refine K_call rfl rfl rfl (args:=[x.a]) (f:=191) (by simp [go_sem,Inst.a]) (by simp [go_sem,hB]) ((matrix_pure x hl).spec _ _) ?_
 rw [x.mat_rows]
 by_cases h0:x.may=true
 rotate_left
 ·have h0':x.may=false:=by simpa using h0
  simp only [h0',Bool.false_eq_true,if_false]
  refine K_run hB 60 ?_
  simp [go_sem]
  refine K_own 4 1 (by simp [go_sem]) ?_
  refine K_loopP (α:=Unit) (fun _=>True) (fun _=>⟨sl [(4,.ref 1),(11,.i 0),(12,.i 0)],ob [(1,.arr 1 [])],2⟩) (fun _=>0) () trivial (Sub.of (by omega) (by simp) (by simp [go_sem]) (by simp [go_sem])) ?_
  rintro ⟨⟩ _
  refine K_run hB 60 ?_
  simp [go_sem,Inst.near,h0',ints]
 simp only [h0,if_true]
 have hrl:=x.rows_len
 refine K_run hB 60 ?_
 simp [go_sem,hrl]
 refine K_own 4 1 (by simp [go_sem]) ?_
 refine K_loopP (α:=Nat×Nat×(Nat→AObj)×Nat) (fun (k,j,σ,nx)=>k≤x.stops.length∧σ j= .arr 1 (ints ((nears x 0 x.stops).take k))∧j<nx)
  (fun (k,j,σ,nx)=>⟨sl [(3,.t (.sl x.rows)),(4,.ref j),(11,.i x.stops.length),(12,.i k)],σ,nx⟩) (fun y=>x.stops.length-y.1) (0,1,_,2)
  ?_ (Imp.slots (by simp [go_sem]) rfl rfl) ?_
 ·exact ⟨Nat.zero_le _,by simp [oput,ints],by omega⟩
 rintro ⟨k,j,σ,nx⟩ ⟨g1,cj,gn⟩
 refine K_run hB 60 ?_
 simp [go_sem]
 refine fork_dec (fun h=>?_) (fun h=>?_)
 rotate_left
 ·have:k=x.stops.length:=by omega
  subst this
  rw [←nears_len x 0 x.stops,List.take_length] at cj
  simp [go_sem,cj,Inst.near,h0]
 have htk:=nears_snoc x h
 have hlen:(ints ((nears x 0 x.stops).take k)).length=k:=by rw [ints_len,List.length_take,nears_len];omega
 have hkk:IntKind.i64.wrap ((k:Int)+1)=((k+1:Nat):Int):=by rw [w64 ((k:Int)+1) (by omega)];rfl
 generalize (nears x 0 x.stops).take k=R at cj hlen htk
 generalize hb:x.stops[k]=b at *
 simp [go_sem,hrl]
 refine K_loopP (α:=Nat×Int) (fun (i,v)=>i≤x.stops.length∧(0≤v∧v≤inf)∧(nearF k b i (x.stops.drop i) v).tmod inf=x.nearK k b)
  (fun (i,v)=>⟨sl [(3,.t (.sl x.rows)),(4,.ref j),(11,.i x.stops.length),(12,.i k),(5,.i k),(6,.i v),(16,.i x.stops.length),(17,.i i)],σ,nx⟩) (fun y=>x.stops.length-y.1) (0,inf)
  ⟨Nat.zero_le _,by omega,rfl⟩ (Imp.slots (by simp [go_sem,hinf]) rfl rfl) ?_
 rintro ⟨i,v⟩ ⟨i1,i2,i3⟩
 refine K_run hB 60 ?_
 simp [go_sem]
 refine fork_dec (fun hi=>?_) (fun hi=>?_)
 ·have hii:IntKind.i64.wrap ((i:Int)+1)=((i+1:Nat):Int):=by rw [w64 ((i:Int)+1) (by omega)];rfl
  have hfa:=far_in x.stops[i] b
  have hrow:=x.row_len x.stops[i]
  rw [nearF_drop hi] at i3
  by_cases hik:i=k
  ·rw [if_pos hik] at i3
   simp [go_sem,hik,w64 ((k:Int)+1) (by omega)]
   exact Next.mk (k+1,v) ⟨by simp only;omega,i2,by rw [hik] at i3;exact i3⟩ (Imp.slots (by simp [go_sem]) rfl rfl) (by simp only;omega)
  ·rw [if_neg hik] at i3
   simp [go_sem,hik,hi,h,hrl,rows_get,rowT,ints_get,ints_len,hrow,row_get,hb,hii]
   exact Next.mk (i+1,min v (far x.stops[i] b)) ⟨by simp only;omega,by omega,i3⟩ (Imp.slots (by simp [go_sem]) rfl rfl) (by simp only;omega)
 ·have:i=x.stops.length:=by omega
  subst this
  rw [List.drop_length] at i3
  have i4:v.tmod inf=x.nearK k b:=i3
  have hcap:k+1≤mostLen:=by omega
  rw [hinf] at i4
  have hw:IntKind.i64.wrap (x.nearK k b)=x.nearK k b:=by
   refine w64 _ ?_
   rw [←i4,Int.tmod_eq_emod_of_nonneg i2.1]
   omega
  simp [go_sem,i4,hw,cj,hlen,hcap,hkk]
  refine Next.mk (k+1,nx,_,nx+1) ?_ (Imp.slots (by simp [go_sem]) rfl rfl) (by simp only;omega)
  exact ⟨by simp only;omega,by simp [oput,htk,ints_snoc],by simp only;omega⟩
end Go.Proofs.YtackfabapangdaaGreat

set_option maxRecDepth 4000
namespace Go.Proofs.YtackfabapangdaaGreat
open Go Go.Proofs.YtackfabapangdaaGreat.R
def leftSum (may:Nat):Nat→List Int→Int→Int
 |_,[],n=>n
 |j,d :: l,n=>leftSum may (j+1) l (if 0<j∧hasB may j=false then IntKind.i64.wrap (n+d) else n)
theorem left_pure (near:List Int) (may:Nat) (σ:Nat→AObj) (nx:Nat):CallQ P 147 [.t (.sl (ints near)),.u may] σ nx fun r σ' nx'=>r= .fn (.func 192) [] [.ptr nx 0,.ptr (nx+1) 0]∧nx'=nx+2∧
  σ'=oput (oput σ nx (.box [.t (.sl (ints near))])) (nx+1) (.box [.u may]):=by
 refine spec_of Tryz.func147 rfl rfl (by simp [Tryz.f147]) fun B hB hnx hσ=>?_
 simp only [Tryz.f147] at hB ⊢
 refine K_run hB 100 ?_
 simp [go_sem]
 omega
theorem left1_spec (near:List Int) (may:Nat) (hm:may<2^64) (hl:near.length<2^63) (q b1 b2 nx:Nat) (st:Int→Nat→AObj) (h1:∀n,st n b1= .box [.t (.sl (ints near))]) (h2:∀n,st n b2= .box [.u may])
  (hy:∀(j d n:Int),YieldQ P q [.i j,.i d] (st n) nx fun σ' nx'=>σ'=st (IntKind.i64.wrap (n+d))∧nx'=nx) (n0:Int):
  CallQ P 192 [.yld q,.ptr b1 0,.ptr b2 0] (st n0) nx fun r σ' nx'=>σ'=st (leftSum may 0 near n0)∧nx'=nx:=by
 refine spec_of Tryz.func192 rfl rfl (by simp [Tryz.f192]) fun B hB hnx hσ=>?_
 simp only [Tryz.f192] at hB ⊢
 have hil:(ints near).length=near.length:=List.length_map _
 refine K_run hB 100 ?_
 simp [go_sem,h1,hil]
 refine K_loopP (α:=Nat×Int) (fun (k,n)=>k≤near.length∧leftSum may k (near.drop k) n=leftSum may 0 near n0) (fun (k,n)=>⟨sl [(0,.yld q),(1,.ptr b1 0),(2,.ptr b2 0),(6,.t (.sl (ints near))),(7,.i near.length),(8,.i k)],st n,nx⟩) (fun a=>near.length-a.1) (0,n0) ⟨Nat.zero_le _,rfl⟩ (Imp.slots (by simp [go_sem]) rfl rfl) ?_
 rintro ⟨k,n⟩ ⟨g1,g2⟩
 refine K_run hB 60 ?_
 simp [go_sem]
 refine fork_dec (fun hk=>?_) (fun hk=>?_)
 ·have hkk:IntKind.i64.wrap ((k:Int)+1)=((k+1:Nat):Int):=by rw [w64 ((k:Int)+1) (by omega)];rfl
  rw [List.drop_eq_getElem_cons hk,leftSum] at g2
  have hget:=ints_getS near hk
  generalize near[k]=d at *
  by_cases c1:0<k
  ·simp [go_sem,hil,hk,hget,c1,h2]
   refine K_call rfl rfl rfl (args:=[.u may,.i k]) (f:=193) (by simp [go_sem]) (by simp [go_sem,hB]) ((has_pure may k hm).spec _ _) ?_
   cases c2:hasB may k with
   |true=>
    rw [if_neg (by simp [c2])] at g2
    refine K_run hB 100 ?_
    simp [go_sem,hkk]
    exact Next.mk (k+1,n) ⟨by simp only;omega,g2⟩ (Imp.slots (by simp [go_sem]) rfl rfl) (by simp only;omega)
   |false=>
    rw [if_pos ⟨c1,c2⟩] at g2
    refine K_run hB 100 ?_
    simp [go_sem]
    refine K_yield rfl rfl rfl (q:=q) (args:=[.i k,.i d]) (by simp [go_sem]) (by simp [go_sem]) (by simp [go_sem,hB]) (hy k d n) ?_
    rintro σ' nx' ⟨rfl,rfl⟩
    refine K_run hB 100 ?_
    simp [go_sem,hkk]
    exact Next.mk (k+1,IntKind.i64.wrap (n+d)) ⟨by simp only;omega,g2⟩ (Imp.slots (by simp [go_sem]) rfl rfl) (by simp only;omega)
  ·rw [if_neg (by simp [c1])] at g2
   simp [go_sem,hil,hk,hget,c1,h2,hkk]
   exact Next.mk (k+1,n) ⟨by simp only;omega,g2⟩ (Imp.slots (by simp [go_sem]) rfl rfl) (by simp only;omega)
 ·have:k=near.length:=by omega
  subst this
  rw [List.drop_length,leftSum] at g2
  simp [go_sem,g2,hnx]
end Go.Proofs.YtackfabapangdaaGreat

set_option maxRecDepth 4000
namespace Go.Proofs.YtackfabapangdaaGreat
open Go Go.Proofs.YtackfabapangdaaGreat.R
def atLeast (near:List Int) (may:Nat):Int:=match near with
 |a :: b :: l=>leftSum may 0 (a :: b :: l) a
 |_=>0
def Inst.low (x:Inst) (s:State):Int:=atLeast x.near s.can
theorem near_len (x:Inst):x.near.length≤x.stops.length:=by
 unfold Inst.near
 split
 ·rw [nears_len];exact Nat.le_refl _
 ·exact Nat.zero_le _
theorem at_pure (x:Inst) (s:State) (hl:x.stops.length<2^31) (ho:s.ok):Pure P 88 [x.a,s.a] (.i (x.low s)):=by
 generalize hR:x.low s=R
 refine pure_ofR Tryz.func88 rfl rfl (by simp [Tryz.f88]) (by simp [bnd,bnd.bndL,Inst.a,State.a,State.cs]) (by simp [bnd,bnd.bndL]) fun B hB hnx hro=>?_
 simp only [Tryz.f88] at hB ⊢
 rw [Inst.low] at hR
 have hnl:=near_len x
 have hne:=near_pure x hl
 generalize x.near=near at *
 refine K_run hB 100 ?_
 simp [go_sem,Inst.a,State.a,State.cs]
 refine K_call rfl rfl rfl (args:=[x.a]) (f:=146) (by simp [go_sem,Inst.a]) (by simp [go_sem,hB]) ((hne).spec _ _) ?_
 match near,hR,hnl with
 |[],hR,_=>
  simp only [atLeast] at hR
  subst hR
  refine K_run hB 100 ?_
  simp [go_sem,ints]
 |[_],hR,_=>
  simp only [atLeast] at hR
  subst hR
  refine K_run hB 100 ?_
  simp [go_sem,ints]
 |d0 :: d1 :: l,hR,hnl=>
  simp only [atLeast] at hR
  have hil:(ints (d0 :: d1 :: l)).length=l.length+2:=by simp [ints]
  have hgt:¬(l.length:Int)+2<2:=by omega
  have hgt':¬((l.length+2:Nat):Int)<2:=by omega
  have hget:∀h:0<(ints (d0 :: d1 :: l)).length,(ints (d0 :: d1 :: l))[0]'h=[.i d0]:=fun h=>by simp [ints]
  have hll:l.length+2<2^63:=by simp only [List.length_cons] at hnl;omega
  have hle:=left_pure (d0 :: d1 :: l) s.can
  have hl1:=left1_spec (d0 :: d1 :: l) s.can ho.can (by simpa using hll) 5 3 4 6
  have hpos:(0:Int)<l.length+2:=by omega
  generalize hX:ints (d0 :: d1 :: l)=X at *
  generalize hN:leftSum s.can 0 (d0 :: d1 :: l)=N at *
  refine K_run hB 100 ?_
  simp [go_sem,hil,hgt,hgt',hget,hpos]
  refine K_callQ rfl rfl rfl (args:=[.t (.sl X),.u s.can]) (f:=147) (by simp [go_sem]) (by simp [go_sem,hB]) (hle _ _) ?_
  rintro r σ' nx' ⟨rfl,rfl,rfl⟩
  refine K_run hB 100 ?_
  simp [go_sem]
  refine K_less (Sub.of (l:=[(6,.ptr 2 0),(20,.fn (.func 192) [] [.ptr 3 0,.ptr 4 0])]) (o:=[(2,.box [.i d0]),(3,.box [.t (.sl X)]),(4,.box [.u s.can])]) (n:=5) (by omega) (by simp) (by simp [go_sem]) (by simp [go_sem])) ?_
  refine K_range hro (f:=192) (args:=[.yld 5,.ptr 3 0,.ptr 4 0]) (by simp [go_sem]) fun L hL=>?_
  obtain ⟨st,hst⟩:∃st:Int→Nat→AObj,st=fun n=>oput (oput (ob [(3,.box [.t (.sl X)]),(4,.box [.u s.can])]) 5 L) 2 (.box [.i n]):=⟨_,rfl⟩
  have e':oput (ob [(2,.box [.i d0]),(3,.box [.t (.sl X)]),(4,.box [.u s.can])]) 5 L=st d0:=funext fun i=>by
   by_cases e2:i=2
   ·subst e2;simp [hst,oput,ob]
   ·simp [hst,oput,ob,e2]
  have s2:∀n,st n 2= .box [.i n]:=fun n=>by simp [hst,oput]
  have s5:∀n,st n 5=L:=fun n=>by simp [hst,oput]
  have su:∀n m L',oput (oput (oput (st n) 5 L') 2 (.box [.i m])) 5 L=st m:=fun n m L'=>funext fun i=>by
   by_cases e2:i=2
   ·subst e2;simp [hst,oput]
   ·by_cases e5:i=5
    ·subst e5;simp [hst,oput]
    ·simp [hst,oput,e2,e5]
  have hsp:=hl1 st (fun n=>by simp [hst,oput,ob]) (fun n=>by simp [hst,oput,ob]) (fun j d n=>by
   refine yield_of ((s5 n).trans hL) rfl (by rw [hB];rfl) fun B' hB' hnx' _=>?_
   replace hB':=hB'.trans hB
   refine K_run hB' 60 ?_
   simp [go_sem,roundM,putL,(s5 n).trans hL]
   refine K_run hB' 60 ?_
   simp [go_sem,roundM,putL,hB,oput,s2,←hL]
   rw [hB] at hL
   subst hL
   exact su _ _ _) d0
  refine ⟨_,by rw [e'];exact hsp,?_⟩
  rintro r σ' nx' ⟨rfl,rfl⟩
  refine ⟨s5 _,?_⟩
  refine K_run hB 100 ?_
  simp [go_sem,oput,s2,hR]
end Go.Proofs.YtackfabapangdaaGreat

set_option maxRecDepth 4000
namespace Go.Proofs.YtackfabapangdaaGreat
open Go Go.Proofs.YtackfabapangdaaGreat.R
def Inst.rvisit (x:Inst) (s:State) (j b:Int):State:=
 {spot:=j,car:=s.car,time:=b+(x.stop j).service,load:=max (s.load+(x.stop j).demand) 0,first:=if s.spot=0 then j else s.first,must:=withN s.must j,can:=withN s.can j,on:=if j≤x.pairs then withN s.on j else withoutN s.on (j-x.pairs)}
end Go.Proofs.YtackfabapangdaaGreat

set_option maxRecDepth 4000
namespace Go.Proofs.YtackfabapangdaaGreat
open Go Go.Proofs.YtackfabapangdaaGreat.R
theorem to_visit {x:Inst} {s:State} {j:Int} (h0:j≠0) (hl:x.lateB s j=false) (hf:j≤x.pairs→x.fullB s j=false) (he:x.pairs<j→x.emptyB s j=false):x.to s j=(x.rvisit s j (x.begins s j),true):=by
 unfold Inst.to
 rw [if_neg h0]
 by_cases c:j≤x.pairs
 ·rw [if_pos c]
  simp [Inst.take,hf c,Inst.visit,hl,Inst.seen,Inst.rvisit,c]
 ·rw [if_neg c]
  simp [Inst.bring,he (by omega),Inst.visit,hl,Inst.seen,Inst.rvisit,c]
theorem to_not {x:Inst} {s:State} {j:Int} (h0:j≠0) (h:x.lateB s j=true∨(j≤x.pairs∧x.fullB s j=true)∨(x.pairs<j∧x.emptyB s j=true)):(x.to s j).2=false:=by
 unfold Inst.to
 rw [if_neg h0]
 rcases h with h | ⟨h1,h2⟩ | ⟨h1,h2⟩
 ·split
  ·unfold Inst.take Inst.visit
   split
   ·rfl
   ·simp [h]
  ·unfold Inst.bring Inst.visit
   split
   ·rfl
   ·simp [h]
 ·rw [if_pos h1]
  simp [Inst.take,h2]
 ·rw [if_neg (by omega)]
  simp [Inst.bring,h2]
end Go.Proofs.YtackfabapangdaaGreat

set_option maxRecDepth 4000
namespace Go.Proofs.YtackfabapangdaaGreat
open Go Go.Proofs.YtackfabapangdaaGreat.R
theorem canB_no:∀k,canB (fun _=>false) k=[]
 |0=>rfl
 |k+1=>by rw [canB,canB_no k];rfl
theorem moves_can (x:Inst) (s:State):x.moves s=canB (fun k=>(x.move s k).2.2) x.stops.length:=by
 unfold Inst.moves
 split
 ·rename_i h
  congr 1
  funext k
  rw [Inst.move,if_pos h]
 ·rename_i h
  have:(fun k:Nat=>(x.move s (k:Int)).2.2)=fun _=>false:=by
   funext k
   rw [Inst.move,if_neg h]
  rw [this,canB_no]
end Go.Proofs.YtackfabapangdaaGreat

set_option maxRecDepth 4000
namespace Go.Proofs.YtackfabapangdaaGreat
open Go Go.Proofs.YtackfabapangdaaGreat.R
structure Node where
 s:State
 cost:Int
 path:List Int
 deriving DecidableEq
end Go.Proofs.YtackfabapangdaaGreat

set_option maxRecDepth 4000
namespace Go.Proofs.YtackfabapangdaaGreat
open Go Go.Proofs.YtackfabapangdaaGreat.R
theorem far_le (a b:Stop):0≤far a b∧far a b≤14143:=by
 obtain ⟨h1,h2⟩:=sq_in a b
 refine ⟨(far_in a b).1,?_⟩
 unfold far rootI
 split
 ·omega
 ·rename_i hp
  have e:(min (sq a b) 1152921504606846976).toNat=(sq a b).toNat:=by omega
  rw [e]
  obtain ⟨g1,_⟩:=rootL_spec (sq a b).toNat 31 0 (by omega) (by simp;omega)
  generalize rootL (sq a b).toNat 31 0=r at *
  have:r≤14142:=by
   rcases Nat.lt_or_ge 14142 r with h | h
   ·have:=Nat.mul_le_mul (show 14143≤r from h) (show 14143≤r from h)
    omega
   ·exact h
  omega
theorem nearF_le (k:Nat) (b:Stop):∀(i:Nat) (l:List Stop) (v:Int),(0≤v∧v≤14143)∨v=inf→(0≤nearF k b i l v∧nearF k b i l v≤14143)∨nearF k b i l v=inf
 |_,[],v,h=>h
 |i,a :: l,v,h=>by
  rw [nearF]
  refine nearF_le k b (i+1) l _ ?_
  have:=far_le a b
  have hinf:inf=1152921504606846976:=rfl
  split
  ·exact h
  ·omega
theorem nearK_le (x:Inst) (k:Nat) (b:Stop):0≤x.nearK k b∧x.nearK k b≤14143:=by
 unfold Inst.nearK
 have hinf:inf=1152921504606846976:=rfl
 rcases nearF_le k b 0 x.stops inf (.inr rfl) with h | h
 ·rw [Int.tmod_eq_of_lt h.1 (by omega)];exact h
 ·rw [h,hinf];decide
theorem nears_le (x:Inst):∀(k:Nat) (l:List Stop),∀d∈nears x k l,0≤d∧d≤14143
 |_,[],d,h=>by cases h
 |k,b :: l,d,h=>by
  rw [nears] at h
  rcases List.mem_cons.1 h with e | e
  ·rw [e];exact nearK_le x k b
  ·exact nears_le x (k+1) l d e
theorem near_le (x:Inst):∀d∈x.near,0≤d∧d≤14143:=by
 unfold Inst.near
 split
 ·exact nears_le x 0 x.stops
 ·intro d h;cases h
def lefts (may:Nat):Nat→List Int→Int
 |_,[]=>0
 |j,d :: l=>(if 0<j∧hasB may j=false then d else 0)+lefts may (j+1) l
theorem lefts_in (may:Nat):∀(j:Nat) (l:List Int),(∀d∈l,0≤d∧d≤14143)→0≤lefts may j l∧lefts may j l≤14143*l.length
 |_,[],_=>by simp [lefts]
 |j,d :: l,h=>by
  have h1:=h d List.mem_cons_self
  have h2:=lefts_in may (j+1) l fun e he=>h e (List.mem_cons_of_mem _ he)
  rw [lefts,List.length_cons]
  split<;>omega
theorem leftSum_eq (may:Nat):∀(j:Nat) (l:List Int) (n:Int),(∀d∈l,0≤d∧d≤14143)→0≤n→n+14143*l.length<9223372036854775808→leftSum may j l n=n+lefts may j l
 |_,[],n,_,_,_=>by simp [leftSum,lefts]
 |j,d :: l,n,h,h0,hn=>by
  have h1:=h d List.mem_cons_self
  rw [List.length_cons] at hn
  rw [leftSum,lefts]
  split
  ·rw [w64 (n+d) (by omega),leftSum_eq may (j+1) l (n+d) (fun e he=>h e (List.mem_cons_of_mem _ he)) (by omega) (by omega)]
   omega
  ·rw [leftSum_eq may (j+1) l n (fun e he=>h e (List.mem_cons_of_mem _ he)) h0 (by omega)]
   omega
theorem lefts_mono {a b:Nat} (hab:∀j:Nat,hasB b j=true→hasB a j=true):∀(j:Nat) (l:List Int),(∀d∈l,0≤d∧d≤14143)→lefts a j l≤lefts b j l
 |_,[],_=>Int.le_refl _
 |j,d :: l,h=>by
  have h1:=h d List.mem_cons_self
  have h2:=lefts_mono hab (j+1) l fun e he=>h e (List.mem_cons_of_mem _ he)
  rw [lefts,lefts]
  by_cases c:0<j∧hasB b j=false
  ·rw [if_pos c]
   split<;>omega
  ·rw [if_neg c]
   have:¬(0<j∧hasB a j=false):=fun ⟨e1,e2⟩=>by
    cases hb:hasB b j with
    |true=>rw [hab j hb] at e2;cases e2
    |false=>exact c ⟨e1,hb⟩
   rw [if_neg this]
   omega
def lowP (near:List Int) (may:Nat):Int:=match near with
 |a :: b :: l=>a+lefts may 0 (a :: b :: l)
 |_=>0
theorem low_eq (x:Inst) (s:State) (hl:x.stops.length<2^31):x.low s=lowP x.near s.can:=by
 unfold Inst.low
 have h1:=near_le x
 have h2:=near_len x
 generalize x.near=near at *
 match near with
 |[]=>rfl
 |[_]=>rfl
 |a :: b :: l=>
  simp only [atLeast,lowP]
  have ha:=h1 a List.mem_cons_self
  refine leftSum_eq _ _ _ _ h1 ha.1 ?_
  simp only [List.length_cons] at h2 ⊢
  omega
theorem lowP_mono {near:List Int} {a b:Nat} (hn:∀d∈near,0≤d∧d≤14143) (hab:∀j:Nat,hasB b j=true→hasB a j=true):lowP near a≤lowP near b:=by
 match near with
 |[]=>exact Int.le_refl _
 |[_]=>exact Int.le_refl _
 |x :: y :: l=>
  simp only [lowP]
  have:=lefts_mono hab 0 (x :: y :: l) hn
  omega
theorem within_has {a b:Nat} (h:withinB b a=true) (j:Int):hasB b j=true→hasB a j=true:=by
 unfold hasB
 simp only [Bool.and_eq_true,decide_eq_true_eq]
 rintro ⟨h1,h2⟩
 refine ⟨h1,?_⟩
 have:=List.all_eq_true.1 h j.toNat (List.mem_range.2 (by omega))
 rw [h2] at this
 simpa using this
def coversB (a b:State):Bool:=
 decide (a.spot=b.spot)&&withinB a.must b.must&&withinB a.on b.on&&withinB b.can a.can&&decide (a.car≤b.car)&&decide (a.time≤b.time)&&decide (a.load≤b.load)&&decide (a.first≤b.first)
theorem covers_pure (a b:State):Pure P 177 [a.a,b.a] (.b (coversB a b)):=by
 generalize hR:coversB a b=R
 refine pure_of Tryz.func177 rfl rfl (by simp [Tryz.f177]) (by simp [bnd,bnd.bndL,State.a,State.cs]) (by simp [bnd,bnd.bndL]) fun B hB hnx=>?_
 simp only [Tryz.f177] at hB ⊢
 rw [coversB] at hR
 have hw1:=within_pure a.must b.must
 have hw2:=within_pure a.on b.on
 have hw3:=within_pure b.can a.can
 by_cases c1:a.spot=b.spot
 rotate_left
 ·refine K_run hB 100 ?_
  simp [go_sem,State.a,State.cs,c1]
  simp [←hR,c1]
 refine K_run hB 100 ?_
 simp [go_sem,State.a,State.cs,c1]
 refine K_call rfl rfl rfl (args:=[.u a.must,.u b.must]) (f:=212) (by simp [go_sem]) (by simp [go_sem,hB]) ((hw1).spec _ _) ?_
 cases c2:withinB a.must b.must with
 |false=>
  refine K_run hB 100 ?_
  simp [go_sem]
  simp [←hR,c2]
 |true=>
  refine K_run hB 100 ?_
  simp [go_sem]
  refine K_call rfl rfl rfl (args:=[.u a.on,.u b.on]) (f:=212) (by simp [go_sem]) (by simp [go_sem,hB]) ((hw2).spec _ _) ?_
  cases c3:withinB a.on b.on with
  |false=>
   refine K_run hB 100 ?_
   simp [go_sem]
   simp [←hR,c3]
  |true=>
   refine K_run hB 100 ?_
   simp [go_sem]
   refine K_call rfl rfl rfl (args:=[.u b.can,.u a.can]) (f:=212) (by simp [go_sem]) (by simp [go_sem,hB]) ((hw3).spec _ _) ?_
   cases c4:withinB b.can a.can with
   |false=>
    refine K_run hB 100 ?_
    simp [go_sem]
    simp [←hR,c4]
   |true=>
    rw [c2,c3,c4] at hR
    simp only [c1,decide_true,Bool.and_true,Bool.true_and] at hR
    refine K_run hB 100 ?_
    simp [go_sem]
    refine atVal_decT (fun h1=>?_) (fun h1=>by simp [go_sem,h1,←hR])
    simp [go_sem,h1]
    refine atVal_decT (fun h2=>?_) (fun h2=>by simp [go_sem,h2,←hR])
    simp [go_sem,h2]
    refine atVal_decT (fun h3=>?_) (fun h3=>by simp [go_sem,h3,←hR])
    simp [go_sem,h3]
    simp [←hR,h1,h2,h3]
end Go.Proofs.YtackfabapangdaaGreat

set_option maxRecDepth 4000
namespace Go.Proofs.YtackfabapangdaaGreat
open Go Go.Proofs.YtackfabapangdaaGreat.R
theorem filter_lt {α:Type} {p q:α→Bool}:∀(l:List α) {a:α},a∈l→p a=true→q a=false→(∀b,q b=true→p b=true)→(l.filter q).length<(l.filter p).length
 |b :: l,a,ha,hp,hq,h=>by
  have hle:(l.filter q).length≤(l.filter p).length:=by
   rw [←List.countP_eq_length_filter,←List.countP_eq_length_filter]
   exact List.countP_mono_left fun b _=>h b
  rw [List.filter_cons,List.filter_cons]
  rcases List.mem_cons.1 ha with rfl | ha
  ·rw [hp,hq]
   simp only [if_true,Bool.false_eq_true,if_false,List.length_cons]
   omega
  ·have:=filter_lt l ha hp hq h
   have hb:=h b
   cases e1:q b<;>cases e2:p b<;>simp only [if_true,Bool.false_eq_true,if_false,List.length_cons]<;>first | omega | skip
   rw [e1] at hb
   rw [e2] at hb
   exact absurd (hb rfl) (by simp)
end Go.Proofs.YtackfabapangdaaGreat

set_option maxRecDepth 4000
namespace Go.Proofs.YtackfabapangdaaGreat
open Go Go.Proofs.YtackfabapangdaaGreat.R
theorem move_is {x:Inst} {s:State} {j:Int} (hv:(x.move s j).2.2=true):x.may=true∧s.mayB x=true∧(0≤j∧j≤2*x.pairs)∧(x.to s j).2=true∧x.move s j=((x.to s j).1,far (x.stop s.spot) (x.stop j),true):=by
 unfold Inst.move at hv ⊢
 split at hv
 ·rename_i h
  rw [if_pos h]
  unfold Inst.step at hv ⊢
  split at hv
  ·simp at hv
  ·rename_i h1
   rw [if_neg h1]
   split at hv
   ·rename_i h2
    rw [if_pos h2]
    exact ⟨h.1,h.2,by omega,h2,rfl⟩
   ·simp at hv
 ·simp at hv
theorem move_mk {x:Inst} {s:State} {j:Int} (h1:x.may=true) (h2:s.mayB x=true) (h3:0≤j∧j≤2*x.pairs) (h4:(x.to s j).2=true):x.move s j=((x.to s j).1,far (x.stop s.spot) (x.stop j),true):=by
 unfold Inst.move Inst.step
 rw [if_pos ⟨h1,h2⟩,if_neg (by omega),if_pos h4]
end Go.Proofs.YtackfabapangdaaGreat

set_option maxRecDepth 4000
namespace Go.Proofs.YtackfabapangdaaGreat
open Go Go.Proofs.YtackfabapangdaaGreat.R
theorem upto_bit:∀{k i:Nat},1≤i→i≤k→(uptoL k).testBit i=true
 |0,i,h1,h2=>by omega
 |k+1,i,h1,h2=>by
  rw [uptoL,Nat.testBit_or]
  by_cases h:i≤k
  ·rw [upto_bit h1 h];rfl
  ·have:i=k+1:=by omega
   subst this
   rw [Nat.testBit_two_pow_self,Bool.or_true]
theorem Inst.all_bit {x:Inst} {t p:Nat} (hx:x.Fit p) (h:x.allB t=true) {i:Nat} (h1:1≤i) (h2:i≤2*p):t.testBit i=true:=by
 have hf:=hx.few
 have hp:=hx.pairs
 unfold Inst.allB withinB at h
 rw [List.all_eq_true] at h
 have:=h i (List.mem_range.2 (by omega))
 have hu:(uptoN (2*x.pairs)).testBit i=true:=by
  unfold uptoN
  exact upto_bit h1 (by omega)
 rw [hu] at this
 simpa using this
end Go.Proofs.YtackfabapangdaaGreat

set_option maxRecDepth 4000
namespace Go.Proofs.YtackfabapangdaaGreat
open Go Go.Proofs.YtackfabapangdaaGreat.R
theorem with_bit {t k:Nat} (hk:k≤63) (i:Nat):(withN t k).testBit i=(t.testBit i||decide (k=i)):=by
 rw [withN,bitN_nat hk,Nat.testBit_or,Nat.testBit_two_pow]
theorem without_bit {t k:Nat} (hk:k≤63) {i:Nat} (hi:i<64):(withoutN t k).testBit i=(t.testBit i&& !decide (k=i)):=by
 rw [withoutN,bitN_nat hk,andN_bit,Nat.testBit_two_pow]
 simp [hi]
def sumOn (x:Inst):Nat→Nat→Int
 |0,_=>0
 |k+1,t=>sumOn x k t+if t.testBit (k+1)=true then (x.stop (k+1:Nat)).demand else 0
theorem sumOn_zero (x:Inst):∀k,sumOn x k 0=0
 |0=>rfl
 |k+1=>by rw [sumOn,sumOn_zero x k];simp
theorem sumOn_pos {x:Inst} {p:Nat} (hx:x.Fit p) (t:Nat):∀k,k≤p→0≤sumOn x k t
 |0,_=>Int.le_refl _
 |k+1,h=>by
  have:=sumOn_pos hx t k (by omega)
  have:=hx.take (k:=k+1) (by omega) h
  rw [sumOn]
  split<;>omega
theorem sumOn_with (x:Inst) {t j:Nat} (hj:j≤63) (hn:t.testBit j=false) (h1:1≤j):∀k,k≤63→sumOn x k (withN t j)=sumOn x k t+if j≤k then (x.stop j).demand else 0
 |0,_=>by rw [if_neg (by omega)];rfl
 |k+1,hk=>by
  rw [sumOn,sumOn_with x hj hn h1 k (by omega),with_bit hj,sumOn]
  by_cases e:j=k+1
  ·subst e
   rw [if_neg (by omega),hn]
   simp
  ·have:(decide (j=k+1))=false:=by simpa using e
   rw [this,Bool.or_false]
   by_cases e2:j≤k
   ·rw [if_pos e2,if_pos (show j≤k+1 by omega)];omega
   ·rw [if_neg e2,if_neg (show ¬j≤k+1 by omega)];omega
theorem sumOn_without (x:Inst) {t j:Nat} (hj:j≤63) (hn:t.testBit j=true) (h1:1≤j):∀k,k≤63→sumOn x k (withoutN t j)=sumOn x k t-if j≤k then (x.stop j).demand else 0
 |0,_=>by rw [if_neg (by omega)];rfl
 |k+1,hk=>by
  rw [sumOn,sumOn_without x hj hn h1 k (by omega),without_bit hj (by omega),sumOn]
  by_cases e:j=k+1
  ·subst e
   rw [if_neg (by omega),hn]
   simp
  ·have:(decide (j=k+1))=false:=by simpa using e
   rw [this,Bool.not_false,Bool.and_true]
   by_cases e2:j≤k
   ·rw [if_pos e2,if_pos (show j≤k+1 by omega)];omega
   ·rw [if_neg e2,if_neg (show ¬j≤k+1 by omega)];omega
structure Good (x:Inst) (p:Nat) (s:State):Prop where
 eq:s.can=s.must
 on:∀k,1≤k→k≤p→s.on.testBit k=(s.must.testBit k&& !s.must.testBit (k+p))
 order:∀k,1≤k→k≤p→s.must.testBit (k+p)=true→s.must.testBit k=true
 load:s.load=sumOn x p s.on
 room:s.load≤x.room
theorem good_root {x:Inst} {p:Nat} (hx:x.Fit p) (hm:x.may=true):Good x p x.rootS:=by
 rw [Inst.rootS,if_pos hm]
 refine ⟨rfl,fun k _ _=>by simp [State.zero],fun k _ _ h=>by simp [State.zero] at h,?_,?_⟩
 ·exact (sumOn_zero x p).symm
 ·have:=hx.room
  show (0:Int)≤x.room
  omega
theorem has_testN {t k:Nat} (hk:k≤63):hasB t (k:Int)=t.testBit k:=has_nat (by omega)
theorem good_step {x:Inst} {p:Nat} {s:State} {j:Int} (hx:x.Fit p) (hg:Good x p s) (h:(x.move s j).2.2=true):
  Good x p (x.move s j).1∧0≤j∧j≤2*p∧(x.move s j).1.must=(if 0<j then withN s.must j else s.must)∧
  (x.move s j).1.on=(if x.pairs<j then withoutN s.on (j-x.pairs) else if 0<j then withN s.on j else s.on)∧
  (x.move s j).1.load=(if 0<j then s.load+(x.stop j).demand else s.load):=by
 obtain ⟨h1,h2,h3,h4,h5⟩:=move_is h
 have hp:=hx.pairs
 have hfew:=hx.few
 obtain ⟨k,rfl⟩:∃k:Nat,j=k:=⟨j.toNat,by omega⟩
 rw [h5]
 have h3':(k:Int)≤2*p:=by omega
 have hvis:(x.visit s k).2=true→(x.visit s k).1=x.seen s k∧hasB s.must k=false:=by
  unfold Inst.visit Inst.lateB
  split
  ·intro h;simp at h
  ·rename_i hh
   intro _
   simp only [Bool.or_eq_true,not_or] at hh
   exact ⟨rfl,by simpa using hh.1⟩
 by_cases hk0:k=0
 ·subst hk0
  have e:x.to s ((0:Nat):Int)=x.home s:=by simp [Inst.to]
  rw [e] at h4 ⊢
  unfold Inst.home at h4 ⊢
  split at h4
  ·simp at h4
  ·rename_i hh
   rw [if_neg hh]
   have hon:s.on=0:=by
    simp only [Inst.stayB,Bool.or_eq_true,decide_eq_true_eq,not_or] at hh
    have:=hh.1.1.1.2
    omega
   have hl:s.load=0:=by rw [hg.load,hon,sumOn_zero]
   refine ⟨⟨hg.eq,hg.on,hg.order,by show (0:Int)=sumOn x p s.on;rw [hon,sumOn_zero],by show (0:Int)≤x.room;have:=hx.room;omega⟩,by omega,by omega,by simp [Inst.homeS],by rw [if_neg (by omega),if_neg (by omega)];rfl,by rw [if_neg (by omega),hl];rfl⟩
 have hk63:k≤63:=by omega
 by_cases hkp:k≤p
 ·have e:x.to s (k:Int)=x.take s k:=by rw [Inst.to,if_neg (by omega),if_pos (by omega)]
  rw [e] at h4 ⊢
  have hd:=hx.take (k:=k) (by omega) hkp
  unfold Inst.take at h4 ⊢
  split at h4
  ·simp at h4
  rename_i hh
  rw [if_neg hh]
  split at h4
  rotate_left
  ·rename_i h8;exact absurd h4 h8
  rename_i h8
  rw [if_pos h8]
  obtain ⟨e1,e2⟩:=hvis h8
  rw [e1]
  rw [has_testN hk63] at e2
  have hroom:s.load+(x.stop k).demand≤x.room:=by
   simp only [Inst.fullB,Bool.or_eq_true,decide_eq_true_eq,not_or] at hh
   omega
  have hnon:s.on.testBit k=false:=by rw [hg.on k (by omega) hkp,e2,Bool.false_and]
  have hpos:=sumOn_pos hx s.on p (Nat.le_refl _)
  have hload:=hg.load
  have hmax:max (s.load+(x.stop k).demand) 0=s.load+(x.stop k).demand:=by omega
  refine ⟨⟨by show withN s.can k=withN s.must k;rw [hg.eq],fun i i1 i2=>?_,fun i i1 i2 i3=>?_,?_,?_⟩,by omega,by omega,?_,?_,?_⟩
  ·show (withN s.on k).testBit i=((withN s.must k).testBit i&& !(withN s.must k).testBit (i+p))
   rw [with_bit hk63,with_bit hk63,with_bit hk63,hg.on i i1 i2]
   have:decide (k=i+p)=false:=by simp;omega
   rw [this,Bool.or_false]
   by_cases hki:k=i
   ·subst hki
    have hb:s.must.testBit (k+p)=false:=by
     cases hq:s.must.testBit (k+p) with
     |false=>rfl
     |true=>rw [hg.order k i1 i2 hq] at e2;cases e2
    simp [hb]
   ·simp [hki]
  ·have i3':(withN s.must k).testBit (i+p)=true:=i3
   show (withN s.must k).testBit i=true
   rw [with_bit hk63] at i3' ⊢
   have:decide (k=i+p)=false:=by simp;omega
   rw [this,Bool.or_false] at i3'
   rw [hg.order i i1 i2 i3',Bool.true_or]
  ·show max (s.load+(x.stop k).demand) 0=sumOn x p (withN s.on k)
   rw [sumOn_with x hk63 hnon (by omega) p (by omega),if_pos hkp,hmax,hload]
  ·show max (s.load+(x.stop k).demand) 0≤x.room
   omega
  ·rw [if_pos (by omega)];rfl
  ·rw [if_neg (by omega),if_pos (by omega)]
  ·rw [if_pos (by omega)];exact hmax
 ·obtain ⟨q,rfl⟩:∃q,k=q+p:=⟨k-p,by omega⟩
  have hq1:1≤q:=by omega
  have hq2:q≤p:=by omega
  have hq63:q≤63:=by omega
  have ej:((q+p:Nat):Int)-x.pairs=(q:Int):=by omega
  have e:x.to s ((q+p:Nat):Int)=x.bring s (q+p:Nat):=by rw [Inst.to,if_neg (by omega),if_neg (by omega)]
  rw [e] at h4 ⊢
  have hd:=hx.take (k:=q) hq1 hq2
  have hb:=hx.bring (k:=q) hq1 hq2
  unfold Inst.bring at h4 ⊢
  split at h4
  ·simp at h4
  rename_i hh
  rw [if_neg hh]
  split at h4
  rotate_left
  ·rename_i h8;exact absurd h4 h8
  rename_i h8
  rw [if_pos h8]
  obtain ⟨e1,e2⟩:=hvis h8
  rw [e1,ej]
  rw [has_testN hk63] at e2
  have hcan:s.must.testBit q=true:=by
   simp only [Inst.emptyB,Bool.or_eq_true,decide_eq_true_eq,not_or,ej] at hh
   have:=hh.2
   rw [has_testN hq63,hg.eq] at this
   simpa using this
  have hon:s.on.testBit q=true:=by rw [hg.on q hq1 hq2,hcan,e2];rfl
  have hpos:=sumOn_pos hx (withoutN s.on q) p (Nat.le_refl _)
  have hload:=hg.load
  have hsum:=sumOn_without x hq63 hon hq1 p (by omega)
  rw [if_pos hq2] at hsum
  have hmax:max (s.load+(x.stop (q+p:Nat)).demand) 0=s.load+(x.stop (q+p:Nat)).demand:=by omega
  refine ⟨⟨by show withN s.can (q+p:Nat)=withN s.must (q+p:Nat);rw [hg.eq],fun i i1 i2=>?_,fun i i1 i2 i3=>?_,?_,?_⟩,by omega,by omega,?_,?_,?_⟩
  ·show (withoutN s.on q).testBit i=((withN s.must (q+p:Nat)).testBit i&& !(withN s.must (q+p:Nat)).testBit (i+p))
   rw [without_bit hq63 (by omega),with_bit hk63,with_bit hk63,hg.on i i1 i2]
   have:decide (q+p=i)=false:=by simp;omega
   rw [this,Bool.or_false]
   have e5:decide (q+p=i+p)=decide (q=i):=by simp
   rw [e5]
   by_cases hki:q=i
   ·simp [hki]
   ·simp [hki]
  ·have i3':(withN s.must (q+p:Nat)).testBit (i+p)=true:=i3
   show (withN s.must (q+p:Nat)).testBit i=true
   rw [with_bit hk63] at i3' ⊢
   by_cases hki:q=i
   ·subst hki
    rw [hcan,Bool.true_or]
   ·have:decide (q+p=i+p)=false:=by simp;omega
    rw [this,Bool.or_false] at i3'
    rw [hg.order i i1 i2 i3',Bool.true_or]
  ·show max (s.load+(x.stop (q+p:Nat)).demand) 0=sumOn x p (withoutN s.on q)
   omega
  ·show max (s.load+(x.stop (q+p:Nat)).demand) 0≤x.room
   have:=hg.room
   omega
  ·rw [if_pos (by omega)];rfl
  ·rw [if_pos (by omega)]
  ·rw [if_pos (by omega)];exact hmax
end Go.Proofs.YtackfabapangdaaGreat

set_option maxRecDepth 4000
namespace Go.Proofs.YtackfabapangdaaGreat
open Go Go.Proofs.YtackfabapangdaaGreat.R
theorem move_pos {x:Inst} {s:State} {j:Int} (h:(x.move s j).2.2=true) (hj:j≠0):x.may=true∧s.mayB x=true∧0<j∧j≤2*x.pairs∧x.lateB s j=false∧(j≤x.pairs→x.fullB s j=false)∧(x.pairs<j→x.emptyB s j=false)∧
  x.move s j=(x.rvisit s j (x.begins s j),far (x.stop s.spot) (x.stop j),true):=by
 obtain ⟨h1,h2,h3,h4,h5⟩:=move_is h
 have k1:x.lateB s j=false:=by
  cases e:x.lateB s j with
  |false=>rfl
  |true=>rw [to_not hj (.inl e)] at h4;cases h4
 have k2:j≤x.pairs→x.fullB s j=false:=fun hp=>by
  cases e:x.fullB s j with
  |false=>rfl
  |true=>rw [to_not hj (.inr (.inl ⟨hp,e⟩))] at h4;cases h4
 have k3:x.pairs<j→x.emptyB s j=false:=fun hp=>by
  cases e:x.emptyB s j with
  |false=>rfl
  |true=>rw [to_not hj (.inr (.inr ⟨hp,e⟩))] at h4;cases h4
 refine ⟨h1,h2,by omega,h3.2,k1,k2,k3,?_⟩
 rw [h5,to_visit hj k1 k2 k3]
theorem move_home {x:Inst} {s:State} (h:(x.move s 0).2.2=true):x.may=true∧s.mayB x=true∧x.stayB s=false∧x.move s 0=(x.homeS s,far (x.stop s.spot) (x.stop 0),true):=by
 obtain ⟨h1,h2,h3,h4,h5⟩:=move_is h
 have e:x.to s 0=x.home s:=by simp [Inst.to]
 rw [e] at h4 h5
 have k1:x.stayB s=false:=by
  cases c:x.stayB s with
  |false=>rfl
  |true=>rw [Inst.home,if_pos c] at h4;cases h4
 refine ⟨h1,h2,k1,?_⟩
 rw [h5,Inst.home,if_neg (by simp [k1])]
theorem has_withN {t k:Nat} (hk:k≤63) (i:Nat):hasB (withN t k) i=(hasB t i||decide (i=k)):=by
 by_cases hi:i≤63
 ·rw [has_testN hi,has_testN hi,with_bit hk]
  by_cases e:i=k
  ·subst e;simp
  ·have:¬k=i:=fun h=>e h.symm
   simp [e,this]
 ·have e1:∀u,hasB u (i:Int)=false:=fun u=>by simp [hasB];omega
  have:¬i=k:=by omega
  simp [e1,this]
theorem lefts_past {may j:Nat} (hj:j≤63):∀(i:Nat) (l:List Int),j<i→lefts (withN may j) i l=lefts may i l
 |_,[],_=>rfl
 |i,d :: l,h=>by
  rw [lefts,lefts,lefts_past hj (i+1) l (by omega),has_withN hj]
  have:¬i=j:=by omega
  simp [this]
theorem lefts_with {may j:Nat} (hj:j≤63) (h1:1≤j):∀(i:Nat) (l:List Int),i≤j→(∀d∈l,0≤d∧d≤14143)→lefts may i l≤lefts (withN may j) i l+l.getD (j-i) 0
 |_,[],_,_=>by simp [lefts]
 |i,d :: l,h,hd=>by
  have h0:=hd d List.mem_cons_self
  have hd':∀e∈l,0≤e∧e≤14143:=fun e he=>hd e (List.mem_cons_of_mem _ he)
  rw [lefts,lefts,has_withN hj]
  by_cases e:i=j
  ·subst e
   rw [lefts_past hj (i+1) l (by omega)]
   simp only [Nat.sub_self,List.getD_cons_zero,decide_true,Bool.or_true]
   split<;>simp<;>omega
  ·have:=lefts_with (may:=may) hj h1 (i+1) l (by omega) hd'
   have e2:j-i=(j-(i+1))+1:=by omega
   rw [e2,List.getD_cons_succ]
   have e3:decide (i=j)=false:=decide_eq_false e
   rw [e3,Bool.or_false]
   omega
theorem nearF_lower {k:Nat} {b:Stop}:∀(l:List Stop) (i:Nat) (v:Int),nearF k b i l v≤v
 |[],_,v=>Int.le_refl _
 |a :: l,i,v=>by
  rw [nearF]
  have:=nearF_lower (k:=k) (b:=b) l (i+1) (if i=k then v else min v (far a b))
  split at this<;>split<;>omega
theorem nearF_far {k:Nat} {b:Stop}:∀(l:List Stop) (i m:Nat) (v:Int) (hm:m<l.length),i+m≠k→nearF k b i l v≤far l[m] b
 |[],_,m,_,hm,_=>by simp at hm
 |a :: l,i,0,v,_,hne=>by
  rw [nearF,if_neg (by omega)]
  have:=nearF_lower (k:=k) (b:=b) l (i+1) (min v (far a b))
  simp only [List.getElem_cons_zero]
  omega
 |a :: l,i,m+1,v,hm,hne=>by
  rw [nearF]
  simpa using nearF_far l (i+1) m _ (by simpa using hm) (by omega)
theorem nearK_far (x:Inst) {k m:Nat} (b:Stop) (hm:m<x.stops.length) (hne:m≠k):x.nearK k b≤far x.stops[m] b:=by
 have h1:=nearF_far (k:=k) (b:=b) x.stops 0 m inf hm (by omega)
 have h2:=far_le x.stops[m] b
 have hinf:inf=1152921504606846976:=rfl
 unfold Inst.nearK
 rcases nearF_le k b 0 x.stops inf (.inr rfl) with h | h
 ·rw [Int.tmod_eq_of_lt h.1 (by omega)];exact h1
 ·omega
theorem near_may {x:Inst} (h:x.may=true):x.near=nears x 0 x.stops:=by rw [Inst.near,if_pos h]
theorem near_getD {x:Inst} {p:Nat} (hx:x.Fit p) (h:x.may=true) {k:Nat} (hk:k≤2*p):x.near.getD k 0=x.nearK k (x.stop k):=by
 have hl:=hx.len
 rw [near_may h,List.getD_eq_getElem?_getD,List.getElem?_eq_getElem (by rw [nears_len];omega),nears_get x 0 x.stops k (by omega),Inst.stop_at (by omega)]
 simp
theorem near_far {x:Inst} {p:Nat} (hx:x.Fit p) (h:x.may=true) {k m:Nat} (hk:k≤2*p) (hm:m≤2*p) (hne:m≠k):x.near.getD k 0≤far (x.stop m) (x.stop k):=by
 have hl:=hx.len
 rw [near_getD hx h hk,Inst.stop_at (k:=m) (by omega)]
 exact nearK_far x _ _ hne
theorem near_length {x:Inst} {p:Nat} (hx:x.Fit p) (h:x.may=true):x.near.length=2*p+1:=by rw [near_may h,nears_len,hx.len]
theorem lowP_cons {near:List Int} {may:Nat} (h:2≤near.length):lowP near may=near.getD 0 0+lefts may 0 near:=by
 match near,h with
 |a :: b :: l,_=>rfl
 |[],h=>simp at h
 |[_],h=>simp at h
theorem lowP_in {near:List Int} (hn:∀d∈near,0≤d∧d≤14143) (may:Nat):0≤lowP near may∧lowP near may≤14143*(near.length+1):=by
 by_cases h:2≤near.length
 ·rw [lowP_cons h]
  have h1:=lefts_in may 0 near hn
  have h2:0≤near.getD 0 0∧near.getD 0 0≤14143:=by
   rw [List.getD_eq_getElem?_getD,List.getElem?_eq_getElem (by omega)]
   exact hn _ (List.getElem_mem _)
  omega
 ·match near,h with
  |[],_=>simp [lowP]
  |[_],_=>simp [lowP]
  |a :: b :: l,h=>simp at h
def State.seenAt (s:State):Prop:=s.spot=0∨hasB s.must s.spot=true
theorem low_step {x:Inst} {s:State} {j:Int} (hs:s.seenAt) (h:(x.move s j).2.2=true):lowP x.near s.can≤(x.move s j).2.1+lowP x.near (x.move s j).1.can:=by
 by_cases hj:j=0
 ·subst hj
  obtain ⟨_,_,_,e⟩:=move_home h
  rw [e]
  have:=(far_le (x.stop s.spot) (x.stop 0)).1
  show _≤far (x.stop s.spot) (x.stop 0)+lowP x.near s.can
  omega
 ·obtain ⟨hm,hmay,h1,h2,h3,_,_,e⟩:=move_pos h hj
  obtain ⟨p,hx⟩:=x.fit hm
  have hp:=hx.pairs
  have hfew:=hx.few
  have hst:=s.fit hx hmay
  rw [e]
  show _≤far (x.stop s.spot) (x.stop j)+lowP x.near (withN s.can j)
  obtain ⟨k,rfl⟩:∃k:Nat,j=k:=⟨j.toNat,by omega⟩
  obtain ⟨m,hmm⟩:∃m:Nat,s.spot=m:=⟨s.spot.toNat,by have:=hst.spot;omega⟩
  have hne:m≠k:=by
   rintro rfl
   rcases hs with hs | hs
   ·omega
   ·rw [Inst.lateB,←hmm,hs] at h3;simp at h3
  have hlen:=near_length hx hm
  have hf:=near_far hx hm (k:=k) (m:=m) (by omega) (by have:=hst.spot;omega) hne
  rw [lowP_cons (by omega),lowP_cons (by omega),hmm]
  have:=lefts_with (may:=s.can) (j:=k) (by omega) (by omega) 0 x.near (by omega) (near_le x)
  rw [Nat.sub_zero] at this
  omega
theorem lefts_all {may:Nat}:∀(i:Nat) (l:List Int),(∀j:Nat,i≤j→j<i+l.length→0<j→hasB may j=true)→lefts may i l=0
 |_,[],_=>rfl
 |i,d :: l,h=>by
  rw [lefts,lefts_all (i+1) l fun j h1 h2 h3=>h j (by omega) (by simp only [List.length_cons];omega) h3]
  have:¬(0<i∧hasB may i=false):=fun ⟨h1,h2⟩=>by
   rw [h i (Nat.le_refl _) (by simp) h1] at h2
   cases h2
  rw [if_neg this]
  rfl
theorem end_is {x:Inst} {s:State} (h:(x.endS s).2=true):x.may=true∧((x.pairs=0∧s=x.rootS∧x.endS s=(0,true))∨
  (s.mayB x=true∧s.spot≠0∧s.on=0∧x.allB s.can=true∧s.time+far (x.stop s.spot) (x.stop 0)≤(x.stop 0).due∧x.endS s=(far (x.stop s.spot) (x.stop 0),true))):=by
 unfold Inst.endS at h ⊢
 split at h
 ·cases h
 ·rename_i h1
  have hm:x.may=true:=by simpa using h1
  refine ⟨hm,?_⟩
  rw [if_neg h1]
  split at h
  ·rename_i h2
   rw [if_pos h2]
   exact .inl ⟨h2.1,h2.2,rfl⟩
  ·rename_i h2
   rw [if_neg h2]
   split at h
   ·rename_i h3
    rw [if_pos h3]
    exact .inr ⟨h3.1,h3.2.1,h3.2.2.1,h3.2.2.2.1,h3.2.2.2.2,rfl⟩
   ·cases h
theorem low_end {x:Inst} {s:State} (h:(x.endS s).2=true):lowP x.near s.can≤(x.endS s).1:=by
 obtain ⟨hm,h⟩:=end_is h
 obtain ⟨p,hx⟩:=x.fit hm
 have hp:=hx.pairs
 have hlen:=near_length hx hm
 rcases h with ⟨h1,h2,e⟩ | ⟨h1,h2,h3,h4,h5,e⟩
 ·rw [e]
  have:x.near.length=1:=by omega
  match hn:x.near,this with
  |[a],_=>simp [lowP]
 ·have hst:=s.fit hx h1
  have hp1:1≤p:=by have:=hst.spot;omega
  rw [e,lowP_cons (by omega),lefts_all 0 x.near fun j _ hj h0=>by
   have:=hx.few
   rw [has_testN (by omega)]
   exact Inst.all_bit hx h4 (by omega) (by omega)]
  obtain ⟨m,hmm⟩:∃m:Nat,s.spot=m:=⟨s.spot.toNat,by have:=hst.spot;omega⟩
  have hf:=near_far hx hm (k:=0) (m:=m) (by omega) (by have:=hst.spot;omega) (by omega)
  rw [hmm]
  show _≤far (x.stop m) (x.stop 0)
  have e0:x.stop ((0:Nat):Int)=x.stop 0:=rfl
  rw [e0] at hf
  omega
theorem seen_step {x:Inst} {s:State} {j:Int} (h:(x.move s j).2.2=true):(x.move s j).1.seenAt:=by
 by_cases hj:j=0
 ·subst hj
  obtain ⟨_,_,_,e⟩:=move_home h
  rw [e]
  exact .inl rfl
 ·obtain ⟨hm,_,h1,h2,_,_,_,e⟩:=move_pos h hj
  obtain ⟨p,hx⟩:=x.fit hm
  have hp:=hx.pairs
  have hfew:=hx.few
  rw [e]
  refine .inr ?_
  show hasB (withN s.must j) j=true
  obtain ⟨k,rfl⟩:∃k:Nat,j=k:=⟨j.toNat,by omega⟩
  rw [has_withN (by omega)]
  simp
end Go.Proofs.YtackfabapangdaaGreat

set_option maxRecDepth 4000
namespace Go.Proofs.YtackfabapangdaaGreat
open Go Go.Proofs.YtackfabapangdaaGreat.R
structure Car where
 spot:Int
 now:Int
 gone:Int
 load:Int
 seen:Nat
 on:Nat
 times:List (List T)
 loads:List Int
def carC (x:Inst) (c:Car) (qt ql:Nat):List AV:=[.t (.i x.pairs),.t (.i x.cars),.t (.i x.room),.t (.sl (x.stops.map Stop.t)),.i c.spot,.i c.now,.i c.gone,.i c.load,.u c.seen,.u c.on,.ref qt,.ref ql]
structure Car.Fit (c:Car) (p k:Nat):Prop where
 spot:0≤c.spot∧c.spot≤2*p
 now:0≤c.now∧c.now≤1049576
 gone:0≤c.gone∧c.gone≤14143*k
 load: -1000*(k:Int)≤c.load∧c.load≤1000
 seen:c.seen<2^64
 on:c.on<2^64
 times:c.times.length=k
 loads:c.loads.length=k
 three:∀y∈c.times,y.length=3
 few:k+((List.range (2*p+1)).filter fun j:Nat=>decide (1≤j)&& !hasB c.seen (j:Int)).length≤2*p
theorem Car.Fit.le {c:Car} {p k:Nat} (h:c.Fit p k):k≤2*p:=by have:=h.few;omega
def Inst.visitsE (x:Inst) (c:Car) (i:Int):Int:=
 if i<1∨2*x.pairs<i then 1 else if hasB c.seen i=true then 5 else if x.pairs<i∧hasB c.seen (i-x.pairs)=false then 8 else if x.room<c.load+(x.stop i).demand then 6 else 0
theorem oput_back (σ:Nat→AObj) (q:Nat):oput σ q (σ q)=σ:=by funext i;by_cases h:i=q<;>simp [oput,h]
theorem visits_spec (x:Inst) (c:Car) (i:Int) {p k:Nat} (hx:x.Fit p) (hc:c.Fit p k) {σ:Nat→AObj} {nx b qt ql:Nat} (hb:b<nx) (hσb:σ b= .box (carC x c qt ql)) (hqt:qt<nx) (hql:ql<nx):
  CallSpec P 208 [.ptr b 0,.i i] σ nx (.i (x.visitsE c i)) σ nx:=by
 generalize hR:x.visitsE c i=R
 have h:CallSpec P 208 [.ptr b 0,.i i] σ nx (.i R) (oput σ b (σ b)) nx:=by
  refine spec_down Tryz.func208 rfl rfl (by simp [Tryz.f208]) hb (by rw [hσb];simp [bndO,bnd,bnd.bndL,carC,hqt,hql]) (by simp [bnd]) fun hkn B hB hnx hσ=>?_
  simp only [Tryz.f208] at hB ⊢
  rw [Inst.visitsE] at hR
  have hp:=hx.pairs
  have hfew:=hx.few
  have w1:=w64 (2*x.pairs) (by omega)
  by_cases c1:i<1
  ·rw [if_pos (.inl c1)] at hR
   subst hR
   refine K_run hB 100 ?_
   simp [go_sem,hσb,carC,c1,w1]
  by_cases c2:2*x.pairs<i
  ·rw [if_pos (.inr c2)] at hR
   subst hR
   refine K_run hB 100 ?_
   simp [go_sem,hσb,carC,c1,c2,w1]
  rw [if_neg (by omega)] at hR
  have hh1:=has_pure c.seen i hc.seen
  refine K_run hB 100 ?_
  simp [go_sem,hσb,carC,c1,c2,w1]
  refine K_call rfl rfl rfl (args:=[.u c.seen,.i i]) (f:=193) (by simp [go_sem]) (by simp [go_sem,hB]) ((hh1).spec _ _) ?_
  by_cases c3:hasB c.seen i=true
  ·rw [if_pos c3] at hR
   subst hR
   refine K_run hB 100 ?_
   simp [go_sem,c3,hσb,carC]
  rw [if_neg c3] at hR
  have c3':hasB c.seen i=false:=by simpa using c3
  have w2:=w64 (i-x.pairs) (by omega)
  have hh2:=has_pure c.seen (i-x.pairs) hc.seen
  have h0:0≤i:=by omega
  have g1:=hx.lt (j:=i) (by omega)
  have g3:=hx.get (j:=i) (by omega)
  have hd:=(hx.at (j:=i) (by omega) (by omega)).demand
  have hload:=hc.load
  have hkle:=hc.le
  have w3:=w64 (c.load+(x.stop i).demand) (by omega)
  generalize x.stop i=a at *
  by_cases c4:x.pairs<i
  ·refine K_run hB 100 ?_
   simp [go_sem,c3',c4,hσb,carC,w2]
   refine K_call rfl rfl rfl (args:=[.u c.seen,.i (i-x.pairs)]) (f:=193) (by simp [go_sem]) (by simp [go_sem,hB]) ((hh2).spec _ _) ?_
   by_cases c5:hasB c.seen (i-x.pairs)=true
   ·rw [if_neg (by simp [c5])] at hR
    refine K_run hB 100 ?_
    simp [go_sem,c5]
    refine K_drawn [] rfl (by rw [hB];kernel_rfl) ?_
    by_cases c6:x.room<c.load+a.demand
    ·rw [if_pos c6] at hR
     subst hR
     refine K_run hB 100 ?_
     simp [go_sem,hσb,carC,h0,g1,g3,Stop.t,w3,c6]
    ·rw [if_neg c6] at hR
     subst hR
     refine K_run hB 100 ?_
     simp [go_sem,hσb,carC,h0,g1,g3,Stop.t,w3,c6]
   ·have c5':hasB c.seen (i-x.pairs)=false:=by simpa using c5
    rw [if_pos ⟨c4,c5'⟩] at hR
    subst hR
    refine K_run hB 100 ?_
    simp [go_sem,c5',hσb,carC]
  ·rw [if_neg (by simp [c4])] at hR
   refine K_run hB 100 ?_
   simp [go_sem,c3',c4,hσb,carC]
   refine K_drawn [] rfl (by rw [hB];kernel_rfl) ?_
   by_cases c6:x.room<c.load+a.demand
   ·rw [if_pos c6] at hR
    subst hR
    refine K_run hB 100 ?_
    simp [go_sem,hσb,carC,h0,g1,g3,Stop.t,w3,c6]
   ·rw [if_neg c6] at hR
    subst hR
    refine K_run hB 100 ?_
    simp [go_sem,hσb,carC,h0,g1,g3,Stop.t,w3,c6]
 rw [oput_back] at h
 exact h
def Inst.drive (x:Inst) (c:Car) (i:Int):Car:={c with spot:=i,gone:=c.gone+far (x.stop c.spot) (x.stop i)}
theorem drive_spec (x:Inst) (c:Car) (i:Int) {p k:Nat} (hx:x.Fit p) (hc:c.Fit p k) (h1:0≤i) (h2:i≤2*p) {σ:Nat→AObj} {nx b qt ql:Nat} (hb:b<nx) (hσb:σ b= .box (carC x c qt ql)) (hqt:qt<nx) (hql:ql<nx):
  CallSpec P 209 [.ptr b 0,.i i] σ nx (.i (c.now+far (x.stop c.spot) (x.stop i))) (oput σ b (.box (carC x (x.drive c i) qt ql))) nx:=by
 refine spec_down Tryz.func209 rfl rfl (by simp [Tryz.f209]) hb (by simp [bndO,bnd,bnd.bndL,carC,hqt,hql]) (by simp [bnd]) fun hkn B hB hnx hσ=>?_
 simp only [Tryz.f209] at hB ⊢
 have f1:=hc.spot
 have g1:=hx.lt (j:=c.spot) (by omega)
 have g2:=hx.get (j:=c.spot) (by omega)
 have g3:=hx.lt (j:=i) (by omega)
 have g4:=hx.get (j:=i) (by omega)
 have hf:=far_pure (x.stop c.spot) (x.stop i)
 have hle:=far_le (x.stop c.spot) (x.stop i)
 have hn:=hc.now
 have hg:=hc.gone
 have hkle:=hc.le
 have hfew:=hx.few
 rw [Inst.drive]
 generalize x.stop i=z at *
 generalize x.stop c.spot=y at *
 have w1:=w64 (c.gone+far y z) (by omega)
 have w2:=w64 (c.now+far y z) (by omega)
 refine K_run hB 100 ?_
 simp [go_sem]
 refine K_drawn [] rfl (by rw [hB];kernel_rfl) ?_
 refine K_run hB 100 ?_
 simp [go_sem,hσb,carC,f1.1,g1,g2,h1,g3,g4,Stop.t]
 refine K_dCallP rfl rfl rfl (args:=[.agg (y.t.map .t),.agg (z.t.map .t)]) (f:=214) (by simp [go_sem,Stop.t]) (hf) ?_
 refine K_run hB 100 ?_
 simp [go_sem,hσb,carC,w1,w2]
 exact fun j h1 h2=>by simp [h2]
end Go.Proofs.YtackfabapangdaaGreat

set_option maxRecDepth 4000
namespace Go.Proofs.YtackfabapangdaaGreat
open Go Go.Proofs.YtackfabapangdaaGreat.R
structure Rows3 (c:Car) (σ:Nat→AObj) (nx b qt ql:Nat):Prop where
 tm:σ qt= .arr 3 c.times
 ld:σ ql= .arr 1 (ints c.loads)
 ltT:qt<nx
 ltL:ql<nx
 neT:qt≠b
 neL:ql≠b
 ne:qt≠ql
def Inst.visitC (x:Inst) (c:Car) (i:Int):Car×Int:=
 if x.visitsE c i≠0 then (c,x.visitsE c i)
 else if (x.stop i).due<max (c.now+far (x.stop c.spot) (x.stop i)) (x.stop i).ready then (x.drive c i,7)
 else ({spot:=i,now:=max (c.now+far (x.stop c.spot) (x.stop i)) (x.stop i).ready+(x.stop i).service,gone:=c.gone+far (x.stop c.spot) (x.stop i),load:=c.load+(x.stop i).demand,seen:=withN c.seen i,
        on:=if i≤x.pairs then withN c.on i else withoutN c.on (i-x.pairs),times:=c.times++[[.i (c.now+far (x.stop c.spot) (x.stop i)),.i (max (c.now+far (x.stop c.spot) (x.stop i)) (x.stop i).ready),.i (max (c.now+far (x.stop c.spot) (x.stop i)) (x.stop i).ready+(x.stop i).service)]],loads:=c.loads++[c.load+(x.stop i).demand]},0)
theorem visits_ok {x:Inst} {c:Car} {i:Int} (h:x.visitsE c i=0):1≤i∧i≤2*x.pairs∧hasB c.seen i=false∧(x.pairs<i→hasB c.seen (i-x.pairs)=true)∧c.load+(x.stop i).demand≤x.room:=by
 rw [Inst.visitsE] at h
 split at h
 ·cases h
 split at h
 ·cases h
 split at h
 ·cases h
 split at h
 ·cases h
 rename_i h1 h2 h3 h4
 refine ⟨by omega,by omega,by simpa using h2,fun h=>?_,by omega⟩
 cases hq:hasB c.seen (i-x.pairs) with
 |true=>rfl
 |false=>exact absurd ⟨h,hq⟩ h3
def VisitQ (x:Inst) (c':Car) (e:Int) (σ:Nat→AObj) (nx b qt ql:Nat) (r:AV) (σ':Nat→AObj) (nx':Nat):Prop:=
 r= .i e∧nx≤nx'∧∃qt' ql',σ' b= .box (carC x c' qt' ql')∧Rows3 c' σ' nx' b qt' ql'∧(∀j,j<nx→j≠b→j≠qt→j≠ql→σ' j=σ j)∧(qt'=qt∨nx≤qt')∧(ql'=ql∨nx≤ql')
theorem visit_spec (x:Inst) (c:Car) (i:Int) {p k:Nat} (hx:x.Fit p) (hc:c.Fit p k) {σ:Nat→AObj} {nx b qt ql:Nat} (hb:b<nx) (hσb:σ b= .box (carC x c qt ql)) (hr3:Rows3 c σ nx b qt ql):
  CallQ P 168 [.ptr b 0,.i i] σ nx (VisitQ x (x.visitC c i).1 (x.visitC c i).2 σ nx b qt ql):=by
 generalize hR:x.visitC c i=R
 refine spec_of Tryz.func168 rfl rfl (by simp [Tryz.f168]) fun B hB hnx hσ=>?_
 simp only [Tryz.f168] at hB ⊢
 have hvs:=visits_spec x c i hx hc hb hσb hr3.ltT hr3.ltL
 rw [Inst.visitC] at hR
 have hok:=visits_ok (x:=x) (c:=c) (i:=i)
 generalize x.visitsE c i=e at *
 refine K_run hB 100 ?_
 simp [go_sem]
 refine K_call rfl rfl rfl (args:=[.ptr b 0,.i i]) (f:=208) (by simp [go_sem]) (by simp [go_sem,hB]) hvs ?_
 by_cases c0:e=0
 rotate_left
 ·rw [if_pos c0] at hR
  subst hR
  refine K_run hB 100 ?_
  simp [go_sem,c0]
  exact ⟨rfl,Nat.le_refl _,qt,ql,hσb,hr3,fun j _ _ _ _=>rfl,.inl rfl,.inl rfl⟩
 rw [if_neg (by simp [c0])] at hR
 obtain ⟨k1,k2,k3,k4,k5⟩:=hok c0
 have hp:=hx.pairs
 have hfew:=hx.few
 have g3:=hx.lt (j:=i) (by omega)
 have g4:=hx.get (j:=i) (by omega)
 have hds:∀{σ:Nat→AObj} {nx:Nat},b<nx→σ b= .box (carC x c qt ql)→qt<nx→ql<nx→_:=fun {σ nx}=>drive_spec x c i hx hc (by omega) (by omega) (σ:=σ) (nx:=nx) (b:=b) (qt:=qt) (ql:=ql)
 have hfi:=hx.at (j:=i) (by omega) (by omega)
 have hfar:=far_le (x.stop c.spot) (x.stop i)
 generalize hzz:x.stop i=z at *
 generalize hdd:far (x.stop c.spot) z=d at *
 have hn:=hc.now
 have hg:=hc.gone
 have hkle:=hc.le
 have hne:¬b=nx:=by omega
 have hne2:¬nx=b:=by omega
 have h0:0≤i:=by omega
 refine K_run hB 100 ?_
 simp [go_sem,c0,hσb,carC,h0,g3,g4,Stop.t]
 refine K_call rfl rfl rfl (args:=[.ptr b 0,.i i]) (f:=209) (by simp [go_sem]) (by simp [go_sem,hB]) (hds (by simp only;omega) (by simp [oput,hne,hσb]) (by have:=hr3.ltT;simp only;omega) (by have:=hr3.ltL;simp only;omega)) ?_
 have hcd:x.drive c i={c with spot:=i,gone:=c.gone+d}:=by rw [Inst.drive,hzz,hdd]
 have hdc:carC x (x.drive c i) qt ql=[.t (.i x.pairs),.t (.i x.cars),.t (.i x.room),.t (.sl (x.stops.map Stop.t)),.i i,.i c.now,.i (c.gone+d),.i c.load,.u c.seen,.u c.on,.ref qt,.ref ql]:=by rw [hcd];rfl
 have f1:=hfi.ready
 have f2:=hfi.service
 have f3:=hfi.due
 have f4:=hfi.demand
 have f5:=hc.load
 generalize hbe:max (c.now+d) z.ready=be at *
 have w1:=w64 (be+z.service) (by omega)
 have w2:=w64 (c.load+z.demand) (by omega)
 by_cases c1:z.due<be
 ·rw [if_pos c1] at hR
  subst hR
  refine K_run hB 100 ?_
  simp [go_sem,hne,hne2,hbe,c1]
  rw [hdc]
  exact ⟨by omega,rfl,by omega,qt,ql,by simp [oput,hne,show ¬b=nx+1 by omega,hcd,carC],⟨by simp [oput,show ¬qt=nx by have:=hr3.ltT;omega,show ¬qt=nx+1 by have:=hr3.ltT;omega,hr3.neT,hr3.tm,hcd],by simp [oput,show ¬ql=nx by have:=hr3.ltL;omega,show ¬ql=nx+1 by have:=hr3.ltL;omega,hr3.neL,hr3.ld,hcd],by have:=hr3.ltT;omega,by have:=hr3.ltL;omega,hr3.neT,hr3.neL,hr3.ne⟩,fun j h1 h2 h3 h4=>by simp [oput,h2,show ¬j=nx by omega,show ¬j=nx+1 by omega],.inl rfl,.inl rfl⟩
 rw [if_neg c1] at hR
 refine K_run hB 100 ?_
 simp [go_sem,hne,hne2,hbe,c1,w1,show ¬b=nx+1 by omega,show ¬nx=nx+1 by omega]
 have ht1:=hr3.ltT
 have ht2:=hr3.ltL
 have ht3:=hr3.neT
 have ht4:=hr3.neL
 have ht5:=hr3.ne
 have ht6:=hr3.tm
 have ht7:=hr3.ld
 obtain ⟨σ1,hσ1⟩:∃σ1:Nat→AObj,σ1=oput (oput (oput σ nx (.box [.i z.x,.i z.y,.i z.demand,.i z.ready,.i z.due,.i z.service])) (nx+1) (.box [.i (c.now+d),.i be,.i (be+z.service)])) b (.box [.t (.i x.pairs),.t (.i x.cars),.t (.i x.room),.t (.sl (x.stops.map Stop.t)),.i i,.i c.now,.i (c.gone+d),.i c.load,.u c.seen,.u c.on,.ref qt,.ref ql]):=⟨_,rfl⟩
 have s1:σ1 b= .box [.t (.i x.pairs),.t (.i x.cars),.t (.i x.room),.t (.sl (x.stops.map Stop.t)),.i i,.i c.now,.i (c.gone+d),.i c.load,.u c.seen,.u c.on,.ref qt,.ref ql]:=by rw [hσ1];simp [oput]
 have s2:σ1 (nx+1)= .box [.i (c.now+d),.i be,.i (be+z.service)]:=by rw [hσ1];simp [oput,show ¬nx+1=b by omega]
 have s3:σ1 nx= .box [.i z.x,.i z.y,.i z.demand,.i z.ready,.i z.due,.i z.service]:=by rw [hσ1];simp [oput,hne2]
 have s4:∀j,j<nx→j≠b→σ1 j=σ j:=fun j h1 h2=>by rw [hσ1];simp [oput,h2,show ¬j=nx by omega,show ¬j=nx+1 by omega]
 refine K_impC (t:=⟨sl [(0,.ptr b 0),(1,.i i),(6,.ptr nx 0),(8,.ptr (nx+1) 0)],σ1,nx+1+1⟩) (Imp.slots (by simp [go_sem]) ?_ rfl) ?_
 ·rw [hσ1]
  funext j
  simp only [oput,hdc]
  by_cases e1:j=b
  ·simp [e1,hne,show ¬b=nx+1 by omega]
  ·by_cases e2:j=nx+1
   ·simp [e2,show ¬nx+1=b by omega]
   ·by_cases e3:j=nx<;>simp [e1,e2,e3]
 have hw1:=with_pure c.seen i hc.seen
 have hw2:=with_pure c.on i hc.on
 have hw3:=without_pure c.on (i-x.pairs)
 have w3:=w64 (i-x.pairs) (by omega)
 obtain ⟨on2,hon⟩:∃on2,on2=(if i≤x.pairs then withN c.on i else withoutN c.on (i-x.pairs)):=⟨_,rfl⟩
 rw [←hon] at hR
 obtain ⟨σ2,hσ2⟩:∃σ2:Nat→AObj,σ2=oput σ1 b (.box [.t (.i x.pairs),.t (.i x.cars),.t (.i x.room),.t (.sl (x.stops.map Stop.t)),.i i,.i (be+z.service),.i (c.gone+d),.i (c.load+z.demand),.u (withN c.seen i),.u on2,.ref qt,.ref ql]):=⟨_,rfl⟩
 refine K_drawnF [20,23,26] [1,2,9,10,11] rfl (by rw [hB];kernel_rfl) (by kernel_rfl) fun ht hf'=>?_
 refine K_run hB 100 ?_
 simp [go_sem,ht,hf',s1,s2,s3,w2]
 refine K_dCallP rfl rfl rfl (args:=[.u c.seen,.i i]) (f:=210) (by simp [go_sem]) (hw1) ?_
 refine K_run hB 100 ?_
 simp [go_sem,ht,hf',s1,s2,s3,w2,hne,hne2,show ¬nx+1=b by omega]
 by_cases c2:i≤x.pairs
 case' pos=>
  rw [if_pos c2] at hon
  simp [go_sem,c2,s1]
  refine K_call rfl rfl rfl (args:=[.u c.on,.i i]) (f:=210) (by simp [go_sem]) (by simp [go_sem,hB]) ((hw2).spec _ _) ?_
  refine K_run hB 100 ?_
  simp [go_sem,s1]
 case' neg=>
  rw [if_neg c2] at hon
  simp [go_sem,c2,s1]
  refine K_drawnT [15] rfl (by rw [hB];kernel_rfl) (by kernel_rfl) fun ht=>?_
  refine K_run hB 100 ?_
  simp [go_sem,ht,s1,w3]
  refine K_dCallP rfl rfl rfl (args:=[.u c.on,.i (i-x.pairs)]) (f:=211) (by simp [go_sem]) (hw3) ?_
  refine K_run hB 100 ?_
  simp [go_sem,ht,s1]
 all_goals
  have u1:σ2 b= .box [.t (.i x.pairs),.t (.i x.cars),.t (.i x.room),.t (.sl (x.stops.map Stop.t)),.i i,.i (be+z.service),.i (c.gone+d),.i (c.load+z.demand),.u (withN c.seen i),.u on2,.ref qt,.ref ql]:=by rw [hσ2];simp [oput]
  have u2:σ2 (nx+1)= .box [.i (c.now+d),.i be,.i (be+z.service)]:=by rw [hσ2];simp [oput,s2,show ¬nx+1=b by omega]
  have u3:σ2 qt= .arr 3 c.times:=by rw [hσ2];simp [oput,ht3,s4 qt ht1 ht3,ht6]
  have u4:σ2 ql= .arr 1 (ints c.loads):=by rw [hσ2];simp [oput,ht4,s4 ql ht2 ht4,ht7]
  have u5:∀j,j<nx→j≠b→σ2 j=σ j:=fun j h1 h2=>by rw [hσ2];simp [oput,h2,s4 j h1 h2]
  refine K_impC (t:=⟨sl [(0,.ptr b 0),(8,.ptr (nx+1) 0)],σ2,nx+1+1⟩) (Imp.slots (by simp [go_sem]) ?_ rfl) ?_
  ·rw [hσ2]
   funext j
   by_cases e1:j=b<;>simp [oput,e1,hon]
  refine K_drawnGM [8,18,21,24] [0,1,9,10,11,12,13,14,15,16,17] [] [⟨12,fun t=>if t=109 then .ptr b 11 else .any,.ref ql,some (noObj,0)⟩,⟨16,fun t=>if t=113 then .ptr b 7 else .any,.i (c.load+z.demand),some (noObj,0)⟩] rfl (by rw [hB];kernel_rfl) (by kernel_rfl) (fun q hq=>?_) fun ht hf'=>?_
  ·simp only [List.mem_cons,List.not_mem_nil,or_false] at hq
   rcases hq with rfl | rfl
   ·exact ⟨_,rfl,by simp [go_sem],by simp [go_sem,u1]⟩
   ·exact ⟨_,rfl,by simp [go_sem],by simp [go_sem,u1]⟩
  have hm1:c.times.length+1≤mostLen:=by rw [hc.times];show k+1≤4294967296;omega
  have hm2:(ints c.loads).length+1≤mostLen:=by rw [ints,List.length_map,hc.loads];show k+1≤4294967296;omega
  have hb1:¬b=qt:=fun e=>ht3 e.symm
  have hb2:¬b=ql:=fun e=>ht4 e.symm
  have hb3:¬ql=qt:=fun e=>ht5 e.symm
  have hb4:¬b=nx+1+1:=by omega
  have hb5:¬ql=nx+1+1:=by omega
  refine K_run hB 12 ?_
  simp [go_sem,ht,hf',u1,u2,u3,u4,hm1,hb1,hb2,hb3,hb4,hb5]
  refine K_dMark (v:=.ref ql) (by simp [go_sem]) (by simp [go_sem,u1,hb1,hb4]) ⟨rfl,⟨12,fun t=>if t=109 then .ptr b 11 else .any,.ref ql,some (noObj,0)⟩,by simp,by simp,rfl,rfl,fun t h=>?_⟩ ?_
  ·have:t=109:=by simpa [looksOf,Oper.looksAt,Op.operands] using h
   subst this
   simp [go_sem]
  refine K_run hB 3 ?_
  simp [go_sem]
  refine K_dMark (v:=.i (c.load+z.demand)) (by simp [go_sem]) (by simp [go_sem,u1,hb1,hb4]) ⟨rfl,⟨16,fun t=>if t=113 then .ptr b 7 else .any,.i (c.load+z.demand),some (noObj,0)⟩,by simp,by simp,rfl,rfl,fun t h=>?_⟩ ?_
  ·have:t=113:=by simpa [looksOf,Oper.looksAt,Op.operands] using h
   subst this
   simp [go_sem]
  refine K_run hB 100 ?_
  simp [go_sem,ht,hf',u1,u2,u3,u4,hm2,hb1,hb2,hb3,hb4,hb5,show ¬b=nx+1+1+1 by omega]
  refine ⟨.inl (by kernel_rfl),by omega,?_⟩
  rw [←hR]
  exact ⟨rfl,by omega,nx+1+1,nx+1+1+1,by simp [oput,hb5,show ¬b=nx+1+1+1 by omega,carC],⟨by simp [oput,show ¬nx+1+1=b by omega,show ¬nx+1+1=ql by omega],by simp [oput,show ¬nx+1+1+1=b by omega,ints],by omega,by omega,by omega,by omega,by omega⟩,
   fun j h1 h2 h3 h4=>by simp [oput,h2,h3,h4,show ¬j=nx+1+1 by omega,show ¬j=nx+1+1+1 by omega,u5 j h1 h2],.inr (by omega),.inr (by omega)⟩
end Go.Proofs.YtackfabapangdaaGreat

set_option maxRecDepth 4000
namespace Go.Proofs.YtackfabapangdaaGreat
open Go Go.Proofs.YtackfabapangdaaGreat.R
theorem visitC_fit {x:Inst} {c:Car} {i:Int} {p k:Nat} (hx:x.Fit p) (hc:c.Fit p k) (h:(x.visitC c i).2=0):(x.visitC c i).1.Fit p (k+1):=by
 have hok:=visits_ok (x:=x) (c:=c) (i:=i)
 rw [Inst.visitC] at h ⊢
 by_cases c0:x.visitsE c i=0
 rotate_left
 ·rw [if_pos c0] at h;exact absurd h c0
 rw [if_neg (by simp [c0])] at h ⊢
 by_cases c1:(x.stop i).due<max (c.now+far (x.stop c.spot) (x.stop i)) (x.stop i).ready
 ·rw [if_pos c1] at h;cases h
 rw [if_neg c1]
 obtain ⟨k1,k2,k3,k4,k5⟩:=hok c0
 have hp:=hx.pairs
 have hfi:=hx.at (j:=i) (by omega) (by omega)
 have hfar:=far_le (x.stop c.spot) (x.stop i)
 have h1:=hc.now
 have h2:=hc.gone
 have h3:=hc.load
 have h4:=hfi.ready
 have h5:=hfi.due
 have h6:=hfi.service
 have h7:=hfi.demand
 have h8:=hx.room
 have h9:=hx.few
 constructor
 ·simp only;omega
 ·simp only;omega
 ·simp only;omega
 ·simp only;omega
 ·exact withN_lt hc.seen _
 ·simp only
  split
  ·exact withN_lt hc.on _
  ·exact withoutN_lt _ _
 ·simp [hc.times]
 ·simp [hc.loads]
 ·intro y hy
  simp only [List.mem_append,List.mem_singleton] at hy
  rcases hy with hy | rfl
  ·exact hc.three y hy
  ·rfl
 ·have h10:=hc.few
  obtain ⟨j,rfl⟩:∃j:Nat,i=j:=⟨i.toNat,by omega⟩
  have:=filter_lt (p:=fun j:Nat=>decide (1≤j)&& !hasB c.seen (j:Int)) (q:=fun m:Nat=>decide (1≤m)&& !hasB (withN c.seen (j:Int)) (m:Int)) (List.range (2*p+1)) (a:=j) (List.mem_range.2 (by omega)) (by rw [k3];simp;omega) (by rw [has_withN (by omega)];simp) (fun m=>by
   rw [has_withN (by omega)]
   simp only [Bool.and_eq_true,Bool.not_eq_true',Bool.or_eq_false_iff]
   exact fun h=>⟨h.1,h.2.1⟩)
  simp only
  omega
def Inst.homeC (x:Inst) (c:Car):Car×Int:=
 if c.on≠0 then (c,8) else if (x.stop 0).due<c.now+far (x.stop c.spot) (x.stop 0) then (x.drive c 0,7) else (x.drive c 0,0)
theorem homeC_times (x:Inst) (c:Car):(x.homeC c).1.times=c.times∧(x.homeC c).1.loads=c.loads:=by
 rw [Inst.homeC]
 split
 ·exact ⟨rfl,rfl⟩
 ·split<;>exact ⟨rfl,rfl⟩
theorem homeC_spec (x:Inst) (c:Car) {p k:Nat} (hx:x.Fit p) (hc:c.Fit p k) {σ:Nat→AObj} {nx b qt ql:Nat} (hb:b<nx) (hσb:σ b= .box (carC x c qt ql)) (hqt:qt<nx) (hql:ql<nx):
  CallSpec P 169 [.ptr b 0] σ nx (.i (x.homeC c).2) (oput σ b (.box (carC x (x.homeC c).1 qt ql))) nx:=by
 generalize hR:x.homeC c=R
 refine spec_down Tryz.func169 rfl rfl (by simp [Tryz.f169]) hb (by simp [bndO,bnd,bnd.bndL,carC,hqt,hql]) (by simp [bnd]) fun hkn B hB hnx hσ=>?_
 simp only [Tryz.f169] at hB ⊢
 have hds:=drive_spec x c 0 hx hc (by omega) (by omega) hb hσb hqt hql
 rw [Inst.homeC] at hR
 by_cases c0:c.on=0
 rotate_left
 ·rw [if_pos c0] at hR
  subst hR
  have c0':¬(c.on:Int)=0:=by omega
  refine K_run hB 100 ?_
  simp [go_sem,hσb,carC,c0,c0']
 rw [if_neg (by simp [c0])] at hR
 have g1:=hx.lt (j:=0) (by omega)
 have g3:=hx.get0
 have hdr:x.drive c 0={c with spot:=0,gone:=c.gone+far (x.stop c.spot) (x.stop 0)}:=rfl
 generalize x.stop 0=z at *
 generalize far (x.stop c.spot) z=d at *
 have g4:(0:Int)<x.stops.length:=g1
 have g5:0<x.stops.length:=by omega
 refine K_run hB 100 ?_
 simp [go_sem,hσb,carC,c0]
 refine K_drawnGM [1] [2,3,4,5,6,7,8,9] [] [⟨6,fun t=>if t=13 then .ptr b 3 else .any,.t (.sl (x.stops.map Stop.t)),some (noObj,0)⟩] rfl (by rw [hB];kernel_rfl) (by kernel_rfl) (fun q hq=>?_) fun ht hf'=>?_
 ·simp only [List.mem_cons,List.not_mem_nil,or_false] at hq
  subst hq
  exact ⟨_,rfl,by simp [go_sem],by simp [go_sem,hσb,carC]⟩
 refine K_run hB 1 ?_
 simp [go_sem,hσb,carC]
 refine K_dCall rfl rfl rfl (args:=[.ptr b 0,.i 0]) (f:=209) (by simp [go_sem]) hds (by decide) (okPends_does (by simp [go_sem,carC])) ?_
 refine K_run hB 4 ?_
 simp [go_sem,carC]
 refine K_dMark (v:=.t (.sl (x.stops.map Stop.t))) (by simp [go_sem]) (by simp [go_sem,carC]) ⟨rfl,⟨6,fun t=>if t=13 then .ptr b 3 else .any,.t (.sl (x.stops.map Stop.t)),some (noObj,0)⟩,by simp,by simp,rfl,rfl,fun t h=>?_⟩ ?_
 ·have:t=13:=by simpa [looksOf,Oper.looksAt,Op.operands] using h
  subst this
  simp [go_sem]
 refine K_run hB 2 ?_
 simp [go_sem,g4,g5,g3,Stop.t]
 refine K_dAny (v:=.i z.due) (by simp [go_sem]) (fun σ nx=>by simp [go_sem,Stop.t,g3,g5]) ?_
 by_cases c1:z.due<c.now+d
 ·rw [if_pos c1] at hR
  subst hR
  refine K_run hB 100 ?_
  simp [go_sem,c1,hdr,carC]
  exact fun j h1 h2 h3=>absurd h3 h2
 ·rw [if_neg c1] at hR
  subst hR
  refine K_run hB 100 ?_
  simp [go_sem,c1,hdr,carC]
  exact fun j h1 h2 h3=>absurd h3 h2
def Inst.car0 (x:Inst):Car:=⟨0,(x.stop 0).ready,0,0,0,0,[],[]⟩
theorem car0_fit {x:Inst} {p:Nat} (hx:x.Fit p):x.car0.Fit p 0:=by
 have h1:=(hx.at (j:=0) (by omega) (by omega)).ready
 refine ⟨by simp only [Inst.car0];omega,by simp only [Inst.car0];omega,by simp only [Inst.car0];omega,by simp only [Inst.car0];omega,by simp [Inst.car0],by simp [Inst.car0],rfl,rfl,(fun y hy=>by cases hy),?_⟩
 have:=filter_lt (p:=fun _:Nat=>true) (q:=fun j:Nat=>decide (1≤j)&& !hasB x.car0.seen (j:Int)) (List.range (2*p+1)) (a:=0) (List.mem_range.2 (by omega)) rfl (by simp) (fun _ _=>rfl)
 rw [List.filter_eq_self.2 (fun _ _=>rfl),List.length_range] at this
 omega
theorem begin_spec (x:Inst) {p:Nat} (hx:x.Fit p) (σ:Nat→AObj) (nx:Nat):
  CallQ P 167 [x.a] σ nx fun r σ' nx'=>∃b,r= .ptr b 0∧nx≤b∧b<nx'∧σ' b= .box [.t (.i x.pairs),.t (.i x.cars),.t (.i x.room),.t (.sl (x.stops.map Stop.t)),.i 0,.i (x.stop 0).ready,.i 0,.i 0,.u 0,.u 0,.fsl [],.fsl []]∧∀j,j<nx→σ' j=σ j:=by
 refine spec_of Tryz.func167 rfl rfl (by simp [Tryz.f167]) fun B hB hnx hσ=>?_
 simp only [Tryz.f167] at hB ⊢
 have g1:=hx.lt (j:=0) (by omega)
 have g3:=hx.get0
 generalize x.stop 0=z at *
 have g4:(0:Int)<x.stops.length:=g1
 have g5:0<x.stops.length:=by omega
 refine K_run hB 100 ?_
 simp [go_sem,Inst.a]
 refine K_drawnT [7] rfl (by rw [hB];kernel_rfl) (by kernel_rfl) fun ht=>?_
 refine K_run hB 100 ?_
 simp [go_sem,ht,g4,g5,g3,Stop.t]
 exact ⟨by omega,fun j h1=>by simp [show ¬j=nx by omega,show ¬j=nx+1 by omega]⟩
def Inst.runC (x:Inst):List Int→Car→Car×Int
 |[],c=>x.homeC c
 |i :: r,c=>if (x.visitC c i).2≠0 then x.visitC c i else x.runC r (x.visitC c i).1
def RunQ (x:Inst) (R:Car×Int) (σ:Nat→AObj) (nx:Nat) (r:AV) (σ':Nat→AObj) (nx':Nat):Prop:=
 nx≤nx'∧(∀j,j<nx→σ' j=σ j)∧((R.2≠0∧r= .tup [.t (.v (.pointer none)),.i R.2])∨(R.2=0∧∃b qt ql,r= .tup [.ptr b 0,.i 0]∧b<nx'∧σ' b= .box (carC x R.1 qt ql)∧Rows3 R.1 σ' nx' b qt ql))
structure RX where
 lb:Nat
 k:Nat
 c:Car
 e:Int
 b:Nat
 qt:Nat
 ql:Nat
 σ:Nat→AObj
 nx:Nat
structure RX.I (x:Inst) (p:Nat) (route:List Int) (R:Car×Int) (σ0:Nat→AObj) (nx0:Nat) (a:RX):Prop where
 go:(a.lb=1∧a.k≤route.length∧a.c.Fit p a.k∧a.b<a.nx∧nx0<a.b∧nx0<a.qt∧nx0<a.ql∧a.σ a.b= .box (carC x a.c a.qt a.ql)∧Rows3 a.c a.σ a.nx a.b a.qt a.ql∧x.runC (route.drop a.k) a.c=R)∨(a.lb=0∧a.e=R.2∧R.2≠0)
 old:∀j,j≤nx0→a.σ j=σ0 j
 nx:nx0<a.nx
def RX.st (route:List Int) (a:RX):St:=⟨sl (if a.lb=1 then [(1,.t (.sl (ints route))),(6,.ptr a.b 0),(7,.i a.k)] else [(8,.i a.e)]),a.σ,a.nx⟩
def RX.m (route:List Int) (a:RX):Nat:=if a.lb=1 then route.length+1-a.k else 0
theorem run_spec (x:Inst) (route:List Int) (hm:x.may=true) (hr:route.length<2^63) (σ:Nat→AObj) (nx:Nat):
  CallQ P 105 [x.a,.t (.sl (ints route))] σ nx (RunQ x (x.runC route x.car0) σ nx):=by
 generalize hR:x.runC route x.car0=R
 obtain ⟨p,hx⟩:=x.fit hm
 have hlen:=hx.len
 have hfew:=hx.few
 have hil:(ints route).length=route.length:=List.length_map _
 refine spec_of Tryz.func105 rfl rfl (by simp [Tryz.f105]) fun B hB hnx hσ=>?_
 simp only [Tryz.f105] at hB ⊢
 refine K_run hB 100 ?_
 simp [go_sem,Inst.a]
 obtain ⟨σ1,hσ1⟩:∃σ1:Nat→AObj,σ1=oput σ nx (.box x.cs):=⟨_,rfl⟩
 refine K_scopeF RX.lb (RX.I x p route R σ1 nx) (RX.st route) (RX.m route) (fun a ha=>?_) ?_ ?_
 ·rcases ha.go with ⟨h,_⟩ | ⟨h,_⟩<;>rw [h]<;>rfl
 ·rintro ⟨lb,k,c,e,b,qt,ql,σ',nx'⟩ ⟨hgo,hold,hnx'⟩ fall
  simp only at hgo hold hnx'
  rcases hgo with ⟨rfl,g1,g2,g3,g4,g5,g6,g7,g8,g9⟩ | ⟨rfl,rfl,g2⟩
  ·show Kp P B (.code (tailC _ 1) :: _) _ _ _
   simp [tailC,findLabel]
   refine K_run hB 100 ?_
   simp [go_sem,RX.st,hil]
   refine fork_dec (fun hk=>?_) (fun hk=>?_)
   ·have hget:=ints_getS route hk
    rw [List.drop_eq_getElem_cons hk,Inst.runC] at g9
    have hfit:=visitC_fit (i:=route[k]) hx g2
    have hvs:=visit_spec x c route[k] hx g2 g3 g7 g8
    have hkk:IntKind.i64.wrap ((k:Int)+1)=((k+1:Nat):Int):=by rw [w64 ((k:Int)+1) (by omega)];rfl
    generalize route[k]=i at *
    generalize x.visitC c i=V at *
    simp [go_sem,hil,hk,hget]
    refine K_callQ rfl rfl rfl (args:=[.ptr b 0,.i i]) (f:=168) (by simp [go_sem]) (by simp [go_sem,hB]) hvs ?_
    rintro r σ2 nx2 ⟨rfl,v1,qt2,ql2,v2,v3,v4,v5,v6⟩
    have hold2:∀j,j≤nx→σ2 j=σ1 j:=fun j hj=>by
     rw [v4 j (by omega) (by omega) (by omega) (by omega)]
     exact hold j hj
    by_cases c1:V.2=0
    ·rw [if_neg (by simp [c1])] at g9
     refine K_run hB 100 ?_
     simp [go_sem,c1,hkk]
     refine ⟨⟨1,k+1,V.1,0,b,qt2,ql2,σ2,nx2⟩,⟨.inl ⟨rfl,by simp only;omega,hfit c1,by simp only;omega,g4,by simp only;omega,by simp only;omega,v2,v3,g9⟩,hold2,by simp only;omega⟩,rfl,Imp.slots (by simp [go_sem,RX.st]) rfl rfl,by simp only [RX.m,if_true];omega⟩
    ·rw [if_pos c1] at g9
     subst g9
     refine K_run hB 100 ?_
     simp [go_sem,c1]
     refine ⟨⟨0,0,c,V.2,b,qt2,ql2,σ2,nx2⟩,⟨.inr ⟨rfl,rfl,c1⟩,hold2,by simp only;omega⟩,rfl,Imp.slots (by simp [go_sem,RX.st]) rfl rfl,by simp [RX.m];omega⟩
   ·have:k=route.length:=by omega
    subst this
    rw [List.drop_length,Inst.runC] at g9
    have hhs:=homeC_spec x c hx g2 g3 g7 g8.ltT g8.ltL
    have hht:=homeC_times x c
    rw [g9] at hhs hht
    simp [go_sem]
    refine K_call rfl rfl rfl (args:=[.ptr b 0]) (f:=169) (by simp [go_sem]) (by simp [go_sem,hB]) hhs ?_
    by_cases c1:R.2=0
    ·refine K_run hB 100 ?_
     simp [go_sem,c1]
     have hne:∀j,j<nx→j≠b:=fun j hj=>by omega
     refine ⟨by omega,by omega,fun j hj=>?_,.inr ⟨c1,b,qt,ql,rfl,g3,by simp [oput],⟨?_,?_,g8.ltT,g8.ltL,g8.neT,g8.neL,g8.ne⟩⟩⟩
     ·have:=hold j (by omega)
      simp [oput,hne j hj,this,hσ1,show ¬j=nx by omega]
     ·simp [oput,g8.neT,g8.tm,hht.1]
     ·simp [oput,g8.neL,g8.ld,hht.2]
    ·refine K_run hB 9 ?_
     simp [go_sem,c1]
     refine fall 0 _ ?_
     refine ⟨⟨0,0,c,R.2,b,qt,ql,_,nx'⟩,⟨.inr ⟨rfl,rfl,c1⟩,fun j hj=>?_,by simp only;omega⟩,rfl,Imp.slots (by simp [go_sem,RX.st]) rfl rfl,by simp [RX.m]⟩
     simp only at hj ⊢
     have:=hold j hj
     simp [oput,show ¬j=b by omega,this]
  ·show Kp P B (.code (tailC _ 0) :: _) _ _ _
   simp [tailC,findLabel]
   refine K_run hB 100 ?_
   simp [go_sem,RX.st]
   exact ⟨by omega,by omega,fun j hj=>by rw [hold j (by omega),hσ1];simp [oput,show ¬j=nx by omega],.inl ⟨g2,rfl⟩⟩
 ·intro J hJ
  refine K_run hB 100 ?_
  simp [go_sem]
  refine K_call rfl rfl rfl (args:=[x.a]) (f:=33) (by simp [go_sem,Inst.a]) (by simp [go_sem,hB]) ((may_pure x (by omega)).spec _ _) ?_
  refine K_run hB 100 ?_
  simp [go_sem,hm]
  refine K_callQ rfl rfl rfl (args:=[x.a]) (f:=167) (by simp [go_sem,Inst.a]) (by simp [go_sem,hB]) (begin_spec x hx _ _) ?_
  rintro r σ2 nx2 ⟨b,rfl,b1,b2,b3,b4⟩
  simp only at b1 b2 b3 b4
  refine K_run hB 4 ?_
  simp [go_sem]
  obtain ⟨σ3,hσ3⟩:∃σ3:Nat→AObj,σ3=oput (oput (oput (oput σ2 b (.box [.t (.i x.pairs),.t (.i x.cars),.t (.i x.room),.t (.sl (x.stops.map Stop.t)),.i 0,.i (x.stop 0).ready,.i 0,.i 0,.u 0,.u 0,.ref nx2,.fsl []])) nx2 (.arr 3 [])) b (.box (carC x x.car0 nx2 (nx2+1)))) (nx2+1) (.arr 1 []):=⟨_,rfl⟩
  refine hJ 1 _ ⟨⟨1,0,x.car0,0,b,nx2,nx2+1,σ3,nx2+2⟩,⟨.inl ⟨rfl,Nat.zero_le _,car0_fit hx,by simp only;omega,by simp only;omega,by simp only;omega,by simp only;omega,?_,⟨?_,?_,by simp only;omega,by simp only;omega,by simp only;omega,by simp only;omega,by simp only;omega⟩,hR⟩,?_,by simp only;omega⟩,rfl,?_⟩
  ·simp [hσ3,oput,show ¬b=nx2+1 by omega]
  ·simp [hσ3,oput,show ¬nx2=b by omega,Inst.car0]
  ·simp [hσ3,oput,Inst.car0,ints]
  ·intro j hj
   simp only at hj ⊢
   simp only [hσ3,oput]
   rw [if_neg (by omega),if_neg (by omega),if_neg (by omega),if_neg (by omega),hσ1]
   exact b4 j (by omega)
  ·refine (Imp.ownB (b:=b) (off:=10) (sz:=3) (by simpa using b3) rfl).trans ((Imp.ownB (b:=b) (off:=11) (sz:=1) (cs:=[.t (.i x.pairs),.t (.i x.cars),.t (.i x.room),.t (.sl (x.stops.map Stop.t)),.i 0,.i (x.stop 0).ready,.i 0,.i 0,.u 0,.u 0,.ref nx2,.fsl []]) (by simp [oput,show ¬b=nx2 by omega]) rfl).trans (Imp.slots (by simp [go_sem,RX.st]) ?_ rfl))
   rw [hσ3];rfl
theorem run_no_spec (x:Inst) (route:List Int) (hm:x.may=false) (hl:x.stops.length<2^63) (σ:Nat→AObj) (nx:Nat):
  CallQ P 105 [x.a,.t (.sl (ints route))] σ nx fun r σ' nx'=>r= .tup [.t (.v (.pointer none)),.i 1]:=by
 refine spec_of Tryz.func105 rfl rfl (by simp [Tryz.f105]) fun B hB hnx hσ=>?_
 simp only [Tryz.f105] at hB ⊢
 refine K_run hB 100 ?_
 simp [go_sem,Inst.a]
 refine K_scopeL (α:=Unit) (fun _=>0) (fun _=>False) (fun _=>⟨fun _=>.any,σ,nx⟩) (fun _=>0) (fun _ h=>h.elim) ?_ (fun _ h=>h.elim)
 refine K_run hB 100 ?_
 simp [go_sem]
 refine K_call rfl rfl rfl (args:=[x.a]) (f:=33) (by simp [go_sem,Inst.a]) (by simp [go_sem,hB]) ((may_pure x hl).spec _ _) ?_
 refine K_run hB 100 ?_
 simp [go_sem,hm]
def Inst.times (x:Inst) (route:List Int):List (List T)×Int×Int:=
 if x.may=false then ([],0,1) else if (x.runC route x.car0).2≠0 then ([],0,(x.runC route x.car0).2) else ((x.runC route x.car0).1.times,(x.runC route x.car0).1.gone,0)
def timesA (r:List (List T)×Int×Int):AV:=.tup [.t (.sl r.1),.i r.2.1,.i r.2.2]
theorem times_pure (x:Inst) (route:List Int) (hl:x.stops.length<2^63) (hr:route.length<2^63):Pure P 51 [x.a,.t (.sl (ints route))] (timesA (x.times route)):=by
 generalize hR:x.times route=R
 refine pure_of Tryz.func51 rfl rfl (by simp [Tryz.f51]) (by simp [bnd,bnd.bndL,Inst.a]) (by simp [bnd,bnd.bndL,timesA]) fun B hB hnx=>?_
 simp only [Tryz.f51] at hB ⊢
 rw [Inst.times] at hR
 refine K_run hB 100 ?_
 simp [go_sem,Inst.a]
 cases hm:x.may with
 |false=>
  rw [if_pos hm] at hR
  refine K_callQ rfl rfl rfl (args:=[x.a,.t (.sl (ints route))]) (f:=105) (by simp [go_sem,Inst.a]) (by simp [go_sem,hB]) (run_no_spec x route hm hl _ _) ?_
  rintro r σ' nx' rfl
  subst hR
  refine K_run hB 100 ?_
  simp [go_sem,timesA]
 |true=>
  rw [if_neg (by simp [hm])] at hR
  have hrs:=run_spec x route hm hr
  generalize x.runC route x.car0=V at *
  refine K_callQ rfl rfl rfl (args:=[x.a,.t (.sl (ints route))]) (f:=105) (by simp [go_sem,Inst.a]) (by simp [go_sem,hB]) (hrs _ _) ?_
  rintro r σ' nx' ⟨h1,h2,⟨h3,rfl⟩ | ⟨h3,b,qt,ql,rfl,h4,h5,h6⟩⟩
  ·rw [if_pos h3] at hR
   subst hR
   refine K_run hB 100 ?_
   simp [go_sem,h3,timesA]
  ·rw [if_neg (by simp [h3])] at hR
   subst hR
   refine K_run hB 100 ?_
   simp [go_sem]
   refine K_drawn [] rfl (by rw [hB];kernel_rfl) ?_
   refine K_run hB 100 ?_
   simp [go_sem,h5,carC,h6.tm,timesA]
end Go.Proofs.YtackfabapangdaaGreat

set_option maxRecDepth 4000
namespace Go.Proofs.YtackfabapangdaaGreat
open Go Go.Proofs.YtackfabapangdaaGreat.R
def idxI (p:Int→Bool):Nat→List Int→Int
 |_,[]=>-1
 |i,n :: l=>if p n=true then (i:Int) else idxI p (i+1) l
theorem idxI_any (p:Int→Bool):∀(i:Nat) (l:List Int),(0≤idxI p i l)↔l.any p=true
 |_,[]=>by simp [idxI]
 |i,n :: l=>by
  rw [idxI,List.any_cons]
  cases h:p n with
  |true=>simp
  |false=>simp [idxI_any p (i+1) l]
theorem indexI_pure (l:List Int) (p:Int→Bool) (f:FuncId) (hl:l.length<2^62) (hf:∀n,Pure P f [.i n] (.b (p n))):Pure P 106 [.t (.sl (ints l)),.fn (.func f) [] []] (.i (idxI p 0 l)):=by
 have hil:(ints l).length=l.length:=List.length_map _
 refine pure_of Tryz.func106 rfl rfl (by simp [Tryz.f106]) (by simp [bnd,bnd.bndL]) (by simp [bnd,bnd.bndL]) fun B hB hnx=>?_
 simp only [Tryz.f106] at hB ⊢
 refine K_run hB 100 ?_
 simp [go_sem,hil]
 refine K_loopP (α:=Nat) (fun k=>k≤l.length∧idxI p k (l.drop k)=idxI p 0 l) (fun k=>⟨sl [(0,.t (.sl (ints l))),(1,.fn (.func f) [] []),(7,.i l.length),(8,.i k)],noObj,0⟩) (fun k=>l.length-k) 0 ⟨Nat.zero_le _,rfl⟩ (Imp.slots (by simp [go_sem]) rfl rfl) ?_
 rintro k ⟨h1,h2⟩
 refine K_run hB 60 ?_
 simp [go_sem]
 refine fork_dec (fun h=>?_) (fun h=>?_)
 ·rw [List.drop_eq_getElem_cons h,idxI] at h2
  have hkk:IntKind.i64.wrap ((k:Int)+1)=((k+1:Nat):Int):=by rw [w64 ((k:Int)+1) (by omega)];rfl
  have hget:=ints_getS l h
  generalize l[k]=n at *
  have hp:=hf n
  simp [go_sem,h,hil,hget]
  refine K_call rfl rfl rfl (args:=[.i n]) (f:=f) (by simp [go_sem]) (by simp [go_sem,hB]) (hp.spec _ _) ?_
  cases ho:p n with
  |true=>
   rw [ho,if_pos rfl] at h2
   refine K_run hB 100 ?_
   simp [go_sem,←h2]
  |false=>
   rw [ho,if_neg (by simp)] at h2
   refine K_run hB 100 ?_
   simp [go_sem,hkk]
   exact Next.mk (k+1) ⟨by omega,h2⟩ (Imp.slots (by simp [go_sem]) rfl rfl) (by omega)
 ·have:k=l.length:=by omega
  subst this
  rw [List.drop_length] at h2
  simp [go_sem,←h2,idxI]
theorem containsI_pure (l:List Int) (p:Int→Bool) (f:FuncId) (hl:l.length<2^62) (hf:∀n,Pure P f [.i n] (.b (p n))):Pure P 53 [.t (.sl (ints l)),.fn (.func f) [] []] (.b (l.any p)):=by
 have hi:=indexI_pure l p f hl hf
 have ha:=idxI_any p 0 l
 refine pure_of Tryz.func53 rfl rfl (by simp [Tryz.f53]) (by simp [bnd,bnd.bndL]) (by simp [bnd,bnd.bndL]) fun B hB hnx=>?_
 simp only [Tryz.f53] at hB ⊢
 generalize idxI p 0 l=i at *
 refine K_run hB 100 ?_
 simp [go_sem]
 refine K_call rfl rfl rfl (args:=[.t (.sl (ints l)),.fn (.func f) [] []]) (f:=106) (by simp [go_sem]) (by simp [go_sem,hB]) ((hi).spec _ _) ?_
 refine K_run hB 100 ?_
 simp [go_sem]
 rw [Bool.eq_iff_iff,decide_eq_true_eq]
 exact ha
theorem index1_pure (l:List Int) (v:Int) (hl:l.length<2^62):Pure P 107 [.t (.sl (ints l)),.i v] (.i (idxI (fun n=>decide (n=v)) 0 l)):=by
 have hil:(ints l).length=l.length:=List.length_map _
 refine pure_of Tryz.func107 rfl rfl (by simp [Tryz.f107]) (by simp [bnd,bnd.bndL]) (by simp [bnd,bnd.bndL]) fun B hB hnx=>?_
 simp only [Tryz.f107] at hB ⊢
 refine K_run hB 100 ?_
 simp [go_sem,hil]
 refine K_loopP (α:=Nat) (fun k=>k≤l.length∧idxI (fun n=>decide (n=v)) k (l.drop k)=idxI (fun n=>decide (n=v)) 0 l) (fun k=>⟨sl [(0,.t (.sl (ints l))),(1,.i v),(7,.i l.length),(8,.i k)],noObj,0⟩) (fun k=>l.length-k) 0 ⟨Nat.zero_le _,rfl⟩ (Imp.slots (by simp [go_sem]) rfl rfl) ?_
 rintro k ⟨h1,h2⟩
 refine K_run hB 60 ?_
 simp [go_sem]
 refine fork_dec (fun h=>?_) (fun h=>?_)
 ·rw [List.drop_eq_getElem_cons h,idxI] at h2
  have hkk:IntKind.i64.wrap ((k:Int)+1)=((k+1:Nat):Int):=by rw [w64 ((k:Int)+1) (by omega)];rfl
  have hget:=ints_getS l h
  generalize l[k]=n at *
  by_cases ho:v=n
  ·subst ho
   rw [if_pos (by simp)] at h2
   simp [go_sem,h,hil,hget,←h2]
  ·have ho':¬n=v:=fun e=>ho e.symm
   rw [if_neg (by simp [ho'])] at h2
   simp [go_sem,h,hil,hget,ho,hkk]
   exact Next.mk (k+1) ⟨by omega,h2⟩ (Imp.slots (by simp [go_sem]) rfl rfl) (by omega)
 ·have:k=l.length:=by omega
  subst this
  rw [List.drop_length] at h2
  simp [go_sem,←h2,idxI]
theorem contains1_pure (l:List Int) (v:Int) (hl:l.length<2^62):Pure P 54 [.t (.sl (ints l)),.i v] (.b (l.any fun n=>decide (n=v))):=by
 have hi:=index1_pure l v hl
 have ha:=idxI_any (fun n=>decide (n=v)) 0 l
 refine pure_of Tryz.func54 rfl rfl (by simp [Tryz.f54]) (by simp [bnd,bnd.bndL]) (by simp [bnd,bnd.bndL]) fun B hB hnx=>?_
 simp only [Tryz.f54] at hB ⊢
 generalize idxI (fun n=>decide (n=v)) 0 l=i at *
 refine K_run hB 100 ?_
 simp [go_sem]
 refine K_call rfl rfl rfl (args:=[.t (.sl (ints l)),.i v]) (f:=107) (by simp [go_sem]) (by simp [go_sem,hB]) ((hi).spec _ _) ?_
 refine K_run hB 100 ?_
 simp [go_sem]
 rw [Bool.eq_iff_iff,decide_eq_true_eq]
 exact ha
theorem twice_pure (n:Int):Pure P 52 [.i n] (.b (decide (1<n))):=by
 refine pure_of Tryz.func52 rfl rfl (by simp [Tryz.f52]) (by simp [bnd,bnd.bndL]) (by simp [bnd,bnd.bndL]) fun B hB hnx=>?_
 simp only [Tryz.f52] at hB ⊢
 refine K_run hB 100 ?_
 simp [go_sem]
def bump (s:List Int) (i:Int):List Int:=s.set i.toNat (s.getD i.toNat 0+1)
def Inst.costGo (x:Inst):List (List Int)→Int→List Int→Int×Int
 |[],all,seen=>if (seen.any fun n=>decide (1<n))=true then (0,5) else if ((seen.drop 1).any fun n=>decide (n=0))=true then (0,4) else (all,0)
 |r :: rs,all,seen=>if r.length=0 then (0,1) else if (x.times r).2.2≠0 then (0,(x.times r).2.2) else x.costGo rs (all+(x.times r).2.1) (r.foldl bump seen)
def Inst.cost (x:Inst) (p:List (List Int)):Int×Int:=
 if x.may=false then (0,1) else if x.cars<p.length then (0,6) else x.costGo p 0 (List.replicate (2*x.pairs+1).toNat 0)
theorem runC_ok {x:Inst} {p:Nat} (hx:x.Fit p):∀(r:List Int) (c:Car) (k:Nat),c.Fit p k→(x.runC r c).2=0→(∀i∈r,1≤i∧i≤2*p)∧k+r.length≤2*p∧0≤(x.runC r c).1.gone∧(x.runC r c).1.gone≤14143*(k+r.length+1)
 |[],c,k,hc,h=>by
  have hg:=hc.gone
  have hf:=far_le (x.stop c.spot) (x.stop 0)
  have:=hc.le
  refine ⟨fun i hi=>(by cases hi),by simpa using this,?_⟩
  rw [Inst.runC,Inst.homeC]
  simp only [List.length_nil]
  split
  ·simp only;omega
  ·split<;>simp only [Inst.drive]<;>omega
 |i :: r,c,k,hc,h=>by
  rw [Inst.runC] at h ⊢
  by_cases c1:(x.visitC c i).2=0
  ·rw [if_neg (by simp [c1])] at h ⊢
   obtain ⟨h1,h2,h3,h4⟩:=runC_ok hx r _ _ (visitC_fit hx hc c1) h
   have hv:x.visitsE c i=0:=by
    rw [Inst.visitC] at c1
    split at c1
    ·rename_i hh;exact absurd c1 hh
    ·rename_i hh;simpa using hh
   obtain ⟨k1,k2,_⟩:=visits_ok hv
   have hp:=hx.pairs
   rw [List.length_cons]
   refine ⟨fun j hj=>?_,by omega,h3,by omega⟩
   rcases List.mem_cons.1 hj with rfl | hj
   ·omega
   ·exact h1 j hj
  ·rw [if_pos c1] at h
   exact absurd h c1
theorem times_ok {x:Inst} {p:Nat} (hx:x.Fit p) (hm:x.may=true) {r:List Int} (h:(x.times r).2.2=0):(∀i∈r,1≤i∧i≤2*p)∧r.length≤2*p∧0≤(x.times r).2.1∧(x.times r).2.1≤14143*33:=by
 rw [Inst.times,if_neg (by simp [hm])] at h ⊢
 by_cases c1:(x.runC r x.car0).2=0
 ·rw [if_neg (by simp [c1])]
  obtain ⟨h1,h2,h3,h4⟩:=runC_ok hx r _ 0 (car0_fit hx) c1
  have:=hx.few
  exact ⟨h1,by omega,h3,by simp only;omega⟩
 ·rw [if_pos c1] at h
  exact absurd h c1
theorem bump_len (s:List Int) (i:Int):(bump s i).length=s.length:=List.length_set
theorem bumps_len:∀(r:List Int) (s:List Int),(r.foldl bump s).length=s.length
 |[],s=>rfl
 |i :: r,s=>by rw [List.foldl_cons,bumps_len,bump_len]
theorem bump_le {s:List Int} {m:Int} (h:∀n∈s,0≤n∧n≤m) (i:Int):∀n∈bump s i,0≤n∧n≤m+1:=by
 intro n hn
 by_cases hi:i.toNat<s.length
 ·rcases List.mem_or_eq_of_mem_set hn with h1 | h1
  ·have:=h n h1;omega
  ·have e:s.getD i.toNat 0=s[i.toNat]:=by rw [List.getD_eq_getElem?_getD,List.getElem?_eq_getElem hi];rfl
   rw [e] at h1
   have:=h _ (List.getElem_mem hi)
   omega
 ·rw [bump,List.set_eq_of_length_le (by omega)] at hn
  have:=h _ hn
  omega
theorem cost_pure (x:Inst) (p:List (List Int)) (hl:x.stops.length<2^63) (hp:p.length<2^63) (hr:∀r∈p,r.length<2^63):Pure P 22 [x.a,.agg [.t (.sl (p.map rowT))]] (.tup [.i (x.cost p).1,.i (x.cost p).2]):=by
 generalize hR:x.cost p=R
 have hpl:(p.map rowT).length=p.length:=List.length_map _
 refine pure_of Tryz.func22 rfl rfl (by simp [Tryz.f22]) (by simp [bnd,bnd.bndL,Inst.a]) (by simp [bnd,bnd.bndL]) fun B hB hnx=>?_
 simp only [Tryz.f22] at hB ⊢
 rw [Inst.cost] at hR
 refine K_run hB 100 ?_
 simp [go_sem,Inst.a]
 refine K_call rfl rfl rfl (args:=[x.a]) (f:=33) (by simp [go_sem,Inst.a]) (by simp [go_sem,hB]) ((may_pure x hl).spec _ _) ?_
 cases hm:x.may with
 |false=>
  rw [if_pos hm] at hR
  subst hR
  refine K_run hB 100 ?_
  simp [go_sem]
 |true=>
  rw [if_neg (by simp [hm])] at hR
  obtain ⟨q,hx⟩:=x.fit hm
  have hpq:=hx.pairs
  have hfew:=hx.few
  have hcars:=hx.cars
  by_cases c1:x.cars<p.length
  ·rw [if_pos c1] at hR
   subst hR
   refine K_run hB 100 ?_
   simp [go_sem,hpl,c1]
  rw [if_neg c1] at hR
  have w1:=w64 (2*x.pairs) (by omega)
  have w2:=w64 (2*x.pairs+1) (by omega)
  refine K_run hB 100 ?_
  simp [go_sem,hpl,c1]
  refine K_drawnG [4] [5] [] rfl (by rw [hB];kernel_rfl) (by kernel_rfl) fun ht hf'=>?_
  have hml:2*x.pairs+1≤(mostLen:Int):=by show _≤(4294967296:Int);omega
  refine K_run hB 100 ?_
  simp [go_sem,ht,hf',w1,w2,hml,show 0≤2*x.pairs+1 by omega,hpl]
  have hrep:List.replicate (2*x.pairs+1).toNat [(.i 0:T)]=ints (List.replicate (2*x.pairs+1).toNat 0):=by simp [ints]
  refine K_loopP (α:=Nat×Int×List Int) (fun (k,all,seen)=>k≤p.length∧seen.length=2*q+1∧x.costGo (p.drop k) all seen=R∧(0≤all∧all≤466719*k)∧∀n∈seen,0≤n∧n≤33*k)
   (fun (k,all,seen)=>⟨sl [(2,.ptr 0 0),(6,.i all),(7,.ref 2),(33,.t (.sl (p.map rowT))),(34,.i p.length),(35,.i k)],ob [(0,.box x.cs),(2,.arr 1 (ints seen))],3⟩) (fun a=>p.length-a.1) (0,0,List.replicate (2*x.pairs+1).toNat 0) ?_
   (Sub.of (by omega) (by simp) (by simp [go_sem]) (by simp [go_sem,hrep])) ?_
  ·refine ⟨Nat.zero_le _,by rw [List.length_replicate];omega,hR,by omega,fun n hn=>?_⟩
   rw [(List.mem_replicate.1 hn).2];omega
  rintro ⟨k,all,seen⟩ ⟨h1,h2,h3,h4,h5⟩
  refine K_run hB 60 ?_
  simp [go_sem,hpl]
  refine fork_dec (fun hk=>?_) (fun hk=>?_)
  ·rw [List.drop_eq_getElem_cons hk,Inst.costGo] at h3
   have hkk:IntKind.i64.wrap ((k:Int)+1)=((k+1:Nat):Int):=by rw [w64 ((k:Int)+1) (by omega)];rfl
   have hrl:=hr p[k] (List.getElem_mem hk)
   have hget:(p.map rowT)[k]'(by rw [hpl];exact hk)=[.sl (ints p[k])]:=by simp [rowT]
   generalize p[k]=r at *
   have hil:(ints r).length=r.length:=List.length_map _
   have hte:=times_pure x r hl hrl
   have hok:=times_ok hx hm (r:=r)
   by_cases c2:r.length=0
   ·rw [if_pos c2] at h3
    subst h3
    simp [go_sem,hk,hpl,hget,hil,c2]
   rw [if_neg c2] at h3
   generalize x.times r=V at *
   simp [go_sem,hk,hpl,hget,hil,c2]
   refine K_call rfl rfl rfl (args:=[x.a,.t (.sl (ints r))]) (f:=51) (by simp [go_sem,Inst.a]) (by simp [go_sem,hB]) ((hte).spec _ _) ?_
   by_cases c3:V.2.2=0
   rotate_left
   ·rw [if_pos c3] at h3
    subst h3
    refine K_run hB 100 ?_
    simp [go_sem,timesA,c3]
   rw [if_neg (by simp [c3])] at h3
   obtain ⟨o1,o2,o3,o4⟩:=hok c3
   have w3:=w64 (all+V.2.1) (by omega)
   have hbl:=bumps_len r seen
   refine K_run hB 100 ?_
   simp [go_sem,timesA,c3,w3,hil]
   refine K_loopP (α:=Nat×List Int) (fun (j,s)=>j≤r.length∧s.length=2*q+1∧(r.drop j).foldl bump s=r.foldl bump seen∧∀n∈s,0≤n∧n≤33*k+j)
    (fun (j,s)=>⟨sl [(2,.ptr 0 0),(6,.i (all+V.2.1)),(7,.ref 2),(33,.t (.sl (p.map rowT))),(34,.i p.length),(35,.i k),(55,.t (.sl (ints r))),(56,.i r.length),(57,.i j)],ob [(0,.box x.cs),(2,.arr 1 (ints s))],3⟩) (fun a=>r.length-a.1) (0,seen) ⟨Nat.zero_le _,h2,rfl,fun n hn=>by have:=h5 n hn;omega⟩
    (Sub.of (by omega) (by simp) (by simp [go_sem]) (by simp [go_sem])) ?_
   rintro ⟨j,s⟩ ⟨i1,i2,i3,i4⟩
   refine K_run hB 60 ?_
   simp [go_sem,hil]
   refine fork_dec (fun hj=>?_) (fun hj=>?_)
   ·rw [List.drop_eq_getElem_cons hj,List.foldl_cons] at i3
    have hjj:IntKind.i64.wrap ((j:Int)+1)=((j+1:Nat):Int):=by rw [w64 ((j:Int)+1) (by omega)];rfl
    have hgetj:=ints_getS r hj
    have hin:=o1 r[j] (List.getElem_mem hj)
    generalize r[j]=i at *
    have hisl:(ints s).length=s.length:=List.length_map _
    have hlt:i.toNat<s.length:=by omega
    have hltI:i<(s.length:Int):=by omega
    have hgets:=ints_getS s hlt
    have hsi:=i4 _ (List.getElem_mem hlt)
    have w4:=w64 (s[i.toNat]+1) (by omega)
    have hb:bump s i=s.set i.toNat (s[i.toNat]+1):=by rw [bump,List.getD_eq_getElem?_getD,List.getElem?_eq_getElem hlt];rfl
    have hbi:ints (bump s i)=(ints s).set i.toNat [.i (s[i.toNat]+1)]:=by rw [hb,ints,ints,List.map_set]
    have hbl1:=bump_len s i
    have hble:=bump_le (m:=33*k+j) i4 i
    generalize s[i.toNat]=m at *
    simp [go_sem,hj,hil,hgetj,show 0≤i by omega,hltI,hisl,hgets,w4,hjj,hlt,Nat.mod_one]
    refine Next.mk (j+1,bump s i) ⟨by simp only;omega,by simp only;omega,i3,fun n hn=>by have:=hble n hn;simp only;omega⟩ (Sub.of (by omega) (by simp) (by simp [go_sem]) (by simp [go_sem,hbi])) (by simp only;omega)
   ·have:j=r.length:=by omega
    subst this
    rw [List.drop_length,List.foldl_nil] at i3
    subst i3
    simp [go_sem,hkk]
    exact Next.mk (k+1,all+V.2.1,r.foldl bump seen) ⟨by simp only;omega,by simp only;omega,h3,by simp only;omega,fun n hn=>by have:=i4 n hn;simp only;omega⟩ (Sub.of (by omega) (by simp) (by simp [go_sem]) (by simp [go_sem])) (by simp only;omega)
  ·have:k=p.length:=by omega
   subst this
   rw [List.drop_length,Inst.costGo] at h3
   have hsl:seen.length<2^62:=by omega
   have hc1:=containsI_pure seen (fun n=>decide (1<n)) 52 hsl twice_pure
   have hc2:=contains1_pure (seen.drop 1) 0 (by rw [List.length_drop];omega)
   have hdr:ints (seen.drop 1)=(ints seen).drop 1:=by simp [ints,List.map_drop]
   have hisl:(ints seen).length=seen.length:=List.length_map _
   have hone:∀y∈ints seen,y.length=1:=by
    intro y hy
    simp only [ints,List.mem_map] at hy
    obtain ⟨n,_,rfl⟩:=hy
    rfl
   simp [go_sem]
   refine K_imp (t:=⟨sl [(6,.i all),(7,.t (.sl (ints seen))),(70,.t (.sl (ints seen))),(71,.fn (.func 52) [] [])],noObj,3⟩) ((Imp.freeze (q:=2) (sz:=1) (es:=ints seen) (by simp [go_sem])).trans (Imp.of (by simp [go_sem,frz1]) (fun i=>.inl rfl) rfl)) ?_
   refine K_call rfl rfl rfl (args:=[.t (.sl (ints seen)),.fn (.func 52) [] []]) (f:=53) (by simp [go_sem]) (by simp [go_sem,hB]) (hc1.spec _ _) ?_
   cases e1:seen.any fun n=>decide (1<n) with
   |true=>
    rw [if_pos e1] at h3
    subst h3
    refine K_run hB 100 ?_
    simp [go_sem]
   |false=>
    rw [if_neg (by simp [e1])] at h3
    refine K_run hB 100 ?_
    simp [go_sem,hisl,h2,if_pos hone,hone,show (1:Int)≤2*(q:Int)+1 by omega]
    have hdr2:(ints seen).tail=ints seen.tail:=by simp [ints]
    cases e2:(seen.drop 1).any fun n=>decide (n=0) with
    |true=>
     rw [if_pos e2] at h3
     rw [e2] at hc2
     subst h3
     refine K_call rfl rfl rfl (args:=[.t (.sl (ints (seen.drop 1))),.i 0]) (f:=54) (by simp [go_sem,hdr2]) (by simp [go_sem,hB]) (hc2.spec _ _) ?_
     refine K_run hB 100 ?_
     simp [go_sem]
    |false=>
     rw [if_neg (by rw [e2];simp)] at h3
     rw [e2] at hc2
     subst h3
     refine K_call rfl rfl rfl (args:=[.t (.sl (ints (seen.drop 1))),.i 0]) (f:=54) (by simp [go_sem,hdr2]) (by simp [go_sem,hB]) (hc2.spec _ _) ?_
     refine K_run hB 100 ?_
     simp [go_sem]
end Go.Proofs.YtackfabapangdaaGreat

set_option maxRecDepth 4000
namespace Go.Proofs.YtackfabapangdaaGreat
open Go Go.Proofs.YtackfabapangdaaGreat.R
def enc (n:Nat):List Nat:=if h:128≤n then (n % 128+128) :: enc (n / 128) else [n]
  decreasing_by omega
def cbyt (l:List Nat):List (List T):=l.map fun (n:Nat)=>[T.v (.int .u8 n)]
theorem enc_ge {n:Nat} (h:128≤n):enc n=(n % 128+128) :: enc (n / 128):=by rw [enc,dif_pos h]
theorem enc_lt {n:Nat} (h:¬128≤n):enc n=[n]:=by rw [enc,dif_neg h]
theorem cbyt_len (l:List Nat):(cbyt l).length=l.length:=List.length_map _
theorem byt_all (l:List Nat):∀y∈cbyt l,y.length=1:=by
 intro y hy
 obtain ⟨n,_,rfl⟩:=List.mem_map.1 hy
 rfl
theorem enc_len (k:Nat):∀n,n<128^(k+1)→(enc n).length≤k+1:=by
 induction k with
 |zero=>intro n hn;rw [enc_lt (by omega)];simp
 |succ k ih=>
  intro n hn
  by_cases h:128≤n
  ·rw [enc_ge h]
   have:=ih (n / 128) (by rw [Nat.div_lt_iff_lt_mul (by omega)];rw [Nat.pow_succ] at hn;omega)
   simp;omega
  ·rw [enc_lt h];simp
theorem enc_len64 {n:Nat} (h:n<2^64):(enc n).length≤10:=enc_len 9 n (by omega)
theorem enc_pos (n:Nat):1≤(enc n).length:=by
 by_cases h:128≤n
 ·rw [enc_ge h];simp
 ·rw [enc_lt h];simp
end Go.Proofs.YtackfabapangdaaGreat

set_option maxRecDepth 4000
namespace Go.Proofs.YtackfabapangdaaGreat
open Go Go.Proofs.YtackfabapangdaaGreat.R
structure Wr (σ:Nat→AObj) (nx q j:Nat) (e:Int) (l:List Nat):Prop where
 box:σ q= .box [.ref j,.i e]
 arr:σ j= .arr 1 (cbyt l)
 ne:j≠q
 ql:q<nx
 jl:j<nx
structure Wrote (σ:Nat→AObj) (nx q j:Nat) (σ':Nat→AObj) (nx':Nat) (e:Int) (l:List Nat):Prop where
 le:nx≤nx'
 wr:∃j',Wr σ' nx' q j' e l∧(j'=j∨nx≤j')
 old:∀i,i<nx→i≠q→i≠j→σ' i=σ i
theorem or128 (m:Nat):bor .u8 (IntKind.u8.wrap m) 128=((m % 128+128:Nat):Int):=by
 have h:∀x:BitVec 8,(x|||128#8).toNat=x.toNat % 128+128:=by decide
 have e:IntKind.u8.wrap (m:Int)=((m % 256:Nat):Int):=by
  simp only [IntKind.wrap,IntKind.bits,IntKind.signed];simp
 have h2:=h (BitVec.ofInt 8 (IntKind.u8.wrap m))
 show IntKind.u8.wrap ((BitVec.ofInt 8 (IntKind.u8.wrap m)|||128#8).toNat:Int)=_
 rw [h2,e,BitVec.ofInt_natCast,BitVec.toNat_ofNat,u8w _ (by omega)]
 omega
theorem Wrote.trans {σ σ' σ'':Nat→AObj} {nx nx' nx'' q j j':Nat} {e e':Int} {l l':List Nat} (h:Wrote σ nx q j σ' nx' e l) (hw:Wr σ' nx' q j' e l) (hj:j'=j∨nx≤j') (k:Wrote σ' nx' q j' σ'' nx'' e' l'):Wrote σ nx q j σ'' nx'' e' l':=by
 refine ⟨Nat.le_trans h.le k.le,?_,fun i h1 h2 h3=>?_⟩
 ·obtain ⟨x,h1,h2⟩:=k.wr
  refine ⟨x,h1,?_⟩
  have:=h.le
  rcases h2 with rfl | h2
  ·exact hj
  ·exact .inr (by omega)
 ·have:=h.le
  rw [k.old i (by omega) h2 (by omega),h.old i h1 h2 h3]
theorem Wr.app {σ:Nat→AObj} {nx q j:Nat} {e:Int} {l:List Nat} (h:Wr σ nx q j e l) (y:Nat):
  Wr (oput (oput (oput σ j .dead) nx (.arr 1 (cbyt l++[[.v (.int .u8 y)]]))) q (.box [.ref nx,.i e])) (nx+1) q nx e (l++[y])∧
  Wrote σ nx q j (oput (oput (oput σ j .dead) nx (.arr 1 (cbyt l++[[.v (.int .u8 y)]]))) q (.box [.ref nx,.i e])) (nx+1) e (l++[y]):=by
 obtain ⟨b1,b2,b3,b4,b5⟩:=h
 have hnq:nx≠q:=by omega
 have hw:Wr (oput (oput (oput σ j .dead) nx (.arr 1 (cbyt l++[[.v (.int .u8 y)]]))) q (.box [.ref nx,.i e])) (nx+1) q nx e (l++[y]):=
  ⟨by simp [oput],by simp [oput,hnq,cbyt],by omega,by omega,by omega⟩
 refine ⟨hw,by omega,⟨nx,hw,.inr (Nat.le_refl _)⟩,fun i h1 h2 h3=>?_⟩
 simp [oput,h2,h3,Nat.ne_of_lt h1]
theorem wide_spec {σ:Nat→AObj} {nx q j:Nat} {e:Int} {l:List Nat} (h:Wr σ nx q j e l) (n:Nat) (hn:n<2^64) (hl:l.length+10≤mostLen):
  CallQ P 150 [.ptr q 0,.u n] σ nx fun r σ' nx'=>Wrote σ nx q j σ' nx' e (l++enc n):=by
 have hlen:=enc_len64 hn
 refine spec_of Tryz.func150 rfl rfl (by simp [Tryz.f150]) fun B hn hnx hσ=>?_
 simp only [Tryz.f150] at hn ⊢
 refine K_scopeH (α:=Nat×List Nat×Nat×(Nat→AObj)×Nat) (fun x=>x.2.1++enc x.1=l++enc n∧x.1≤n∧(x.2.2.1=j∨nx≤x.2.2.1)∧Wrote σ nx q j x.2.2.2.1 x.2.2.2.2 e x.2.1∧Wr x.2.2.2.1 x.2.2.2.2 q x.2.2.1 e x.2.1)
  (fun x=>⟨sl [(0,.ptr q 0),(1,.u x.1)],x.2.2.2.1,x.2.2.2.2⟩) (fun x=>x.1) (n,l,j,σ,nx) ⟨rfl,Nat.le_refl _,.inl rfl,⟨Nat.le_refl _,⟨j,h,.inl rfl⟩,fun _ _ _ _=>rfl⟩,h⟩ (Imp.keep (by simp [go_sem])) ?_
 rintro ⟨m,l',j',σ',nx'⟩ ⟨h1,h2,h0,h3,h4⟩
 simp only at h1 h2 h3 h4 h0
 have hl:l'.length+1≤mostLen:=by
  have h3:=congrArg List.length h1
  have h4:=enc_pos m
  simp at h3
  omega
 have b:=h4
 obtain ⟨b1,b2,b3,b4,b5⟩:=b
 have n1:q≠nx':=Nat.ne_of_lt b4
 have n2:=b3.symm
 refine K_run hn 60 ?_
 simp [go_sem]
 refine fork_dec (fun h=>?_) (fun h=>?_)
 ·simp [go_sem,b1,b2,n1,n2,byt_all,cbyt_len,hl]
  rw [or128,Int.fdiv_eq_ediv_of_nonneg _ (by omega)]
  obtain ⟨g1,g2⟩:=h4.app (m % 128+128)
  refine Next.mk (m / 128,l'++[m % 128+128],nx',_,nx'+1) ⟨?_,?_,?_,h3.trans h4 h0 g2,g1⟩ (Imp.same ?_ ?_ rfl) ?_
  ·rw [←h1,enc_ge (n:=m) (by omega)];simp
  ·simp only;omega
  ·exact .inr h3.le
  ·intro i
   simp only [sl_cons,sl_nil]
   split
   ·subst_vars;exact .inr (by simp [go_sem])
   ·split
    ·subst_vars;exact .inr (by simp [go_sem])
    ·exact .inl rfl
  ·exact fun i=>.inr rfl
  ·simp only;omega
 ·simp [go_sem,b1,b2,n1,n2,byt_all,cbyt_len,hl]
  simp (disch:=omega) only [u8w]
  obtain ⟨g1,g2⟩:=h4.app m
  refine ⟨by have:=h3.le;omega,?_⟩
  rw [←h1,enc_lt (by omega)]
  exact h3.trans h4 h0 g2
end Go.Proofs.YtackfabapangdaaGreat
