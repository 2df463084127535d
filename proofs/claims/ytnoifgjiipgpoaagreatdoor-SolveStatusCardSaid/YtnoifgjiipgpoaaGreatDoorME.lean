/- Parts of the proof: Inst, Plane, Scan, Parse, Parse2, Small, State, State2, State3, State4, State5, Arg, Prnt, Lists, SortP, SortL, Node, SortW, SortW2, Mat, Near, Bound. -/
import Derived.Test.YtnoifgjiipgpoaaGreatDoorMD
set_option linter.all false
set_option maxHeartbeats 4000000
set_option maxRecDepth 4000
namespace Go.Proofs.YtnoifgjiipgpoaaGreatDoor
open Go Go.Proofs.YtnoifgjiipgpoaaGreatDoor.R
structure Stop where
 x:Int
 y:Int
 demand:Int
 ready:Int
 due:Int
 service:Int
structure Inst where
 pairs:Int
 cars:Int
 room:Int
 stops:List Stop
def Stop.t (s:Stop):List T:=[.i s.x,.i s.y,.i s.demand,.i s.ready,.i s.due,.i s.service]
def Inst.a (x:Inst):AV:=.agg [.t (.i x.pairs),.t (.i x.cars),.t (.i x.room),.t (.sl (x.stops.map Stop.t))]
def inB (lo hi n:Int):Bool:=decide (lo≤n)&&decide (n≤hi)
def Inst.stopB (x:Inst) (k:Nat) (s:Stop):Bool:=
 ((inB 0 10000 s.x&&inB 0 10000 s.y)&&(inB 0 1048576 s.ready&&inB 0 1048576 s.due)&&decide (s.ready≤s.due)&&inB 0 1000 s.service)&&
 (if k=0 then decide (s.demand=0)&&decide (s.service=0)
  else if (k:Int)≤x.pairs then inB 1 1000 s.demand
  else decide (s.demand=IntKind.i64.wrap (-(x.stops.getD (k-x.pairs.toNat) ⟨0,0,0,0,0,0⟩).demand)))
def allFrom {α:Type} (f:Nat→α→Bool):Nat→List α→Bool
 |_,[]=>true
 |k,a :: l=>f k a&&allFrom f (k+1) l
def Inst.may (x:Inst):Bool:=inB 0 16 x.pairs&&inB 1 8 x.cars&&inB 1 1000 x.room&&decide ((x.stops.length:Int)=2*x.pairs+1)&&allFrom x.stopB 0 x.stops
theorem allFrom_drop {α:Type} {f:Nat→α→Bool} {l:List α} {k:Nat} (h:k<l.length):allFrom f k (l.drop k)=(f k l[k]&&allFrom f (k+1) (l.drop (k+1))):=by rw [List.drop_eq_getElem_cons h];rfl
theorem between_pure (lo hi:Int) (l:List Int) (hl:l.length<2^63):Pure P 83 [.i lo,.i hi,.t (.sl (ints l))] (.b (l.all (inB lo hi))):=by
 refine pure_of Tryz.func83 rfl rfl (by simp [Tryz.f83]) (by simp [bnd,bnd.bndL]) (by simp [bnd]) fun B hB hnx=>?_
 simp only [Tryz.f83] at hB ⊢
 generalize hR:l.all (inB lo hi)=r
 refine K_run hB 60 ?_
 simp [go_sem]
 refine K_loopP (α:=Nat) (fun k=>k≤l.length∧(l.drop k).all (inB lo hi)=r) (fun k=>⟨sl [(0,.i lo),(1,.i hi),(9,.t (.sl (ints l))),(10,.i l.length),(11,.i k)],noObj,0⟩) (fun k=>l.length-k) 0 ⟨Nat.zero_le _,hR⟩ (Imp.slots (by simp [go_sem,ints]) rfl rfl) ?_
 rintro k ⟨h1,h3⟩
 refine K_run hB 60 ?_
 simp [go_sem]
 refine fork_dec (fun h=>?_) (fun h=>?_)
 ·rw [List.drop_eq_getElem_cons h,List.all_cons] at h3
  have hk:IntKind.i64.wrap ((k:Int)+1)=((k+1:Nat):Int):=by rw [w64 ((k:Int)+1) (by omega)];rfl
  generalize hn:l[k]=n at *
  by_cases g1:n<lo
  ·have:r=false:=by rw [←h3];simp [inB];omega
   simp [go_sem,ints,h,hn,g1,this]
  ·by_cases g2:hi<n
   ·have:r=false:=by rw [←h3];simp [inB];omega
    simp [go_sem,ints,h,hn,g1,g2,this]
   ·have e:inB lo hi n=true:=by simp [inB];omega
    rw [e,Bool.true_and] at h3
    simp [go_sem,ints,h,hn,g1,g2,hk]
    exact Next.mk (k+1) ⟨by omega,h3⟩ (Imp.slots (by simp [go_sem,ints]) rfl rfl) (by omega)
 ·have:k=l.length:=by omega
  subst this
  simp at h3
  simp [go_sem,h3]
theorem may_pure (x:Inst) (hl:x.stops.length<2^63):Pure P 44 [x.a] (.b x.may):=by
 refine pure_of Tryz.func44 rfl rfl (by simp [Tryz.f44]) (by simp [bnd,bnd.bndL,Inst.a]) (by simp [bnd]) fun B hB hnx=>?_
 simp only [Tryz.f44] at hB ⊢
 generalize hR:x.may=r
 refine K_run hB 60 ?_
 simp [go_sem,Inst.a]
 refine K_call rfl rfl rfl (args:=[.i 0,.i 16,.fsl (ints [x.pairs])]) (f:=83) (by simp [go_sem,ints]) (by simp [go_sem,hB]) (CallSpec.loose ((between_pure 0 16 [x.pairs] (by simp)).spec _ _)) ?_
 simp only [List.all_cons,List.all_nil,Bool.and_true]
 by_cases h1:inB 0 16 x.pairs=true
 rotate_left
 ·have h1':inB 0 16 x.pairs=false:=by simpa using h1
  have:r=false:=by rw [←hR,Inst.may,h1'];rfl
  refine K_run hB 60 ?_
  simp [go_sem,h1',this]
 refine K_run hB 60 ?_
 simp [go_sem,h1]
 refine K_call rfl rfl rfl (args:=[.i 1,.i 8,.fsl (ints [x.cars])]) (f:=83) (by simp [go_sem,ints]) (by simp [go_sem,hB]) (CallSpec.loose ((between_pure 1 8 [x.cars] (by simp)).spec _ _)) ?_
 simp only [List.all_cons,List.all_nil,Bool.and_true]
 by_cases h2:inB 1 8 x.cars=true
 rotate_left
 ·have h1':inB 1 8 x.cars=false:=by simpa using h2
  have:r=false:=by rw [←hR,Inst.may,h1'];simp
  refine K_run hB 60 ?_
  simp [go_sem,h1',this]
 refine K_run hB 60 ?_
 simp [go_sem,h2]
 refine K_call rfl rfl rfl (args:=[.i 1,.i 1000,.fsl (ints [x.room])]) (f:=83) (by simp [go_sem,ints]) (by simp [go_sem,hB]) (CallSpec.loose ((between_pure 1 1000 [x.room] (by simp)).spec _ _)) ?_
 simp only [List.all_cons,List.all_nil,Bool.and_true]
 by_cases h3:inB 1 1000 x.room=true
 rotate_left
 ·have h1':inB 1 1000 x.room=false:=by simpa using h3
  have:r=false:=by rw [←hR,Inst.may,h1'];simp
  refine K_run hB 60 ?_
  simp [go_sem,h1',this]
 have hp1:0≤x.pairs∧x.pairs≤16:=by simpa [inB] using h1
 obtain ⟨p,hp⟩:∃p:Nat,x.pairs=p:=⟨x.pairs.toNat,by omega⟩
 have w1:=w64 (2*(p:Int)) (by omega)
 have w2:=w64 (2*(p:Int)+1) (by omega)
 by_cases h4:(x.stops.length:Int)=2*p+1
 rotate_left
 ·have:r=false:=by rw [←hR,Inst.may,hp];simp [h4]
  refine K_run hB 60 ?_
  simp [go_sem,h3,hp,w1,w2,h4,this]
 refine K_run hB 60 ?_
 simp [go_sem,h3,hp,w1,w2,h4]
 have hsum:allFrom x.stopB 0 x.stops=r:=by rw [←hR,Inst.may,hp,h2,h3,←hp,h1,hp];simp [h4]
 have lenp:x.stops.length=2*p+1:=by omega
 refine K_loopP (α:=Nat) (fun k=>k≤x.stops.length∧allFrom x.stopB k (x.stops.drop k)=r) (fun k=>⟨sl [(1,.ptr 0 0),(35,.t (.sl (x.stops.map Stop.t))),(36,.i x.stops.length),(37,.i k)],ob [(0,.box [.t (.i p),.t (.i x.cars),.t (.i x.room),.t (.sl (x.stops.map Stop.t))])],1⟩) (fun k=>x.stops.length-k) 0 ⟨Nat.zero_le _,hsum⟩ (Sub.of (by omega) (by simp) (by simp [go_sem,h4]) (by simp [go_sem,hp])) ?_
 rintro k ⟨g1,g3⟩
 refine K_run hB 60 ?_
 simp [go_sem]
 refine fork_dec (fun h=>?_) (fun h=>?_)
 rotate_left
 ·have:k=x.stops.length:=by omega
  subst this
  simp [allFrom] at g3
  simp [go_sem,g3]
 rw [allFrom_drop h] at g3
 have hkk:IntKind.i64.wrap ((k:Int)+1)=((k+1:Nat):Int):=by rw [w64 ((k:Int)+1) (by omega)];rfl
 generalize hs:x.stops[k]=s at *
 simp [go_sem,h,hs,Stop.t]
 refine K_call rfl rfl rfl (args:=[.i 0,.i 10000,.fsl (ints [s.x,s.y])]) (f:=83) (by simp [go_sem,ints]) (by simp [go_sem,hB]) (CallSpec.loose ((between_pure 0 10000 [s.x,s.y] (by simp)).spec _ _)) ?_
 simp only [List.all_cons,List.all_nil,Bool.and_true]
 by_cases c1:(inB 0 10000 s.x&&inB 0 10000 s.y)=true
 rotate_left
 ·have c1':(inB 0 10000 s.x&&inB 0 10000 s.y)=false:=by simpa using c1
  have:r=false:=by rw [←g3,Inst.stopB,c1'];simp
  rw [c1']
  refine K_run hB 60 ?_
  simp [go_sem,this]
 rw [c1]
 refine K_run hB 60 ?_
 simp [go_sem]
 refine K_call rfl rfl rfl (args:=[.i 0,.i 1048576,.fsl (ints [s.ready,s.due])]) (f:=83) (by simp [go_sem,ints]) (by simp [go_sem,hB]) (CallSpec.loose ((between_pure 0 1048576 [s.ready,s.due] (by simp)).spec _ _)) ?_
 simp only [List.all_cons,List.all_nil,Bool.and_true]
 by_cases c2:(inB 0 1048576 s.ready&&inB 0 1048576 s.due)=true
 rotate_left
 ·have c1':(inB 0 1048576 s.ready&&inB 0 1048576 s.due)=false:=by simpa using c2
  have:r=false:=by rw [←g3,Inst.stopB,c1,c1'];simp
  rw [c1']
  refine K_run hB 60 ?_
  simp [go_sem,this]
 rw [c2]
 by_cases c3:s.due<s.ready
 ·have c3':¬s.ready≤s.due:=by omega
  have:r=false:=by rw [←g3,Inst.stopB,c1,c2];simp [c3']
  refine K_run hB 60 ?_
  simp [go_sem,this,c3]
 have c3':s.ready≤s.due:=by omega
 refine K_run hB 60 ?_
 simp [go_sem,c3]
 refine K_call rfl rfl rfl (args:=[.i 0,.i 1000,.fsl (ints [s.service])]) (f:=83) (by simp [go_sem,ints]) (by simp [go_sem,hB]) (CallSpec.loose ((between_pure 0 1000 [s.service] (by simp)).spec _ _)) ?_
 simp only [List.all_cons,List.all_nil,Bool.and_true]
 by_cases c4:inB 0 1000 s.service=true
 rotate_left
 ·have c1':inB 0 1000 s.service=false:=by simpa using c4
  have:r=false:=by rw [←g3,Inst.stopB,c1'];simp
  rw [c1']
  refine K_run hB 60 ?_
  simp [go_sem,this]
 rw [c4]
 rw [Inst.stopB,c1,c2,c4,hp] at g3
 simp only [c3',decide_true,Bool.true_and,Bool.and_true] at g3
 by_cases k0:k=0
 ·subst k0
  rw [if_pos rfl] at g3
  by_cases d1:s.demand=0
  ·by_cases d2:s.service=0
   ·simp only [d1,d2,decide_true,Bool.true_and] at g3
    refine K_run hB 100 ?_
    simp [go_sem,d1,d2]
    exact Next.mk 1 ⟨by omega,g3⟩ (Sub.of (by omega) (by simp) (by simp [go_sem,h4,w64 1 (by omega)]) (by simp [go_sem])) (by omega)
   ·have:r=false:=by rw [←g3];simp [d2]
    refine K_run hB 100 ?_
    simp [go_sem,d1,d2,this]
  ·have:r=false:=by rw [←g3];simp [d1]
   refine K_run hB 100 ?_
   simp [go_sem,d1,this]
 rw [if_neg k0] at g3
 have k0':¬(k:Int)=0:=by omega
 by_cases kp:(k:Int)≤p
 ·rw [if_pos kp] at g3
  refine K_run hB 100 ?_
  simp [go_sem,k0,k0',kp]
  refine K_call rfl rfl rfl (args:=[.i 1,.i 1000,.fsl (ints [s.demand])]) (f:=83) (by simp [go_sem,ints]) (by simp [go_sem,hB]) (CallSpec.loose ((between_pure 1 1000 [s.demand] (by simp)).spec _ _)) ?_
  simp only [List.all_cons,List.all_nil,Bool.and_true]
  by_cases c5:inB 1 1000 s.demand=true
  ·rw [c5,Bool.true_and] at g3
   rw [c5]
   refine K_run hB 100 ?_
   simp [go_sem,hkk]
   exact Next.mk (k+1) ⟨by omega,g3⟩ (Sub.of (by omega) (by simp) (by simp [go_sem,h4]) (by simp [go_sem])) (by omega)
  ·have c1':inB 1 1000 s.demand=false:=by simpa using c5
   have:r=false:=by rw [←g3,c1'];rfl
   rw [c1']
   refine K_run hB 60 ?_
   simp [go_sem,this]
 ·rw [if_neg kp] at g3
  have hi:k-p<x.stops.length:=by omega
  have e1:(p:Int).toNat=p:=Int.toNat_natCast p
  have e2:x.stops.getD (k-p) ⟨0,0,0,0,0,0⟩=x.stops[k-p]:=by simp [List.getD_eq_getElem?_getD,List.getElem?_eq_getElem hi]
  rw [e1,e2] at g3
  have w3:IntKind.i64.wrap ((k:Int)-p)=((k-p:Nat):Int):=by rw [w64 ((k:Int)-p) (by omega)];omega
  refine K_run hB 100 ?_
  simp [go_sem,k0,k0',kp]
  refine K_drawn [] rfl (by rw [hB];kernel_rfl) ?_
  by_cases c5:s.demand=IntKind.i64.wrap (-x.stops[k-p].demand)
  ·simp only [c5,decide_true,Bool.true_and] at g3
   refine K_run hB 100 ?_
   simp [go_sem,w3,hi,Stop.t,c5,hkk]
   exact Next.mk (k+1) ⟨by omega,g3⟩ (Sub.of (by omega) (by simp) (by simp [go_sem,h4]) (by simp [go_sem])) (by omega)
  ·have:r=false:=by rw [←g3];simp [c5]
   refine K_run hB 100 ?_
   simp [go_sem,w3,hi,Stop.t,this,c5]
end Go.Proofs.YtnoifgjiipgpoaaGreatDoor

set_option maxRecDepth 4000
namespace Go.Proofs.YtnoifgjiipgpoaaGreatDoor
open Go Go.Proofs.YtnoifgjiipgpoaaGreatDoor.R
def clip (n:Int):Int:=min (max n 0) 10000
theorem clip_in (n:Int):0≤clip n∧clip n≤10000:=by unfold clip;omega
def fl (n:Int):Nat:=FloatKind.nearest .f64 (clip n)
theorem fl_holds (n:Int):Holds (fl n) (clip n):=nearest_holds _ (by have:=clip_in n;omega)
def sq (a b:Stop):Int:=(clip a.x-clip b.x)*(clip a.x-clip b.x)+(clip a.y-clip b.y)*(clip a.y-clip b.y)
def far (a b:Stop):Int:=rootI (sq a b)
theorem sq_in (a b:Stop):0≤sq a b∧sq a b≤200000000:=by
 have h:∀p:Int,-10000≤p∧p≤10000→0≤p*p∧p*p≤100000000:=fun p hp=>by
  have e:p*p=((p.natAbs*p.natAbs:Nat):Int):=by rw [Int.natCast_mul,←Int.natAbs_mul_self']
  have:=Nat.mul_le_mul (show p.natAbs≤10000 by omega) (show p.natAbs≤10000 by omega)
  rw [e];omega
 have h1:=h (clip a.x-clip b.x) (by have:=clip_in a.x;have:=clip_in b.x;omega)
 have h2:=h (clip a.y-clip b.y) (by have:=clip_in a.y;have:=clip_in b.y;omega)
 unfold sq;omega
theorem clip_pure (n:Int):Pure P 288 [.i n] (.t (.v (.float .f64 (fl n)))):=by
 refine pure_of Tryz.func288 rfl rfl (by simp [Tryz.f288]) (by simp [bnd,bnd.bndL]) (by simp [bnd]) fun B hB hnx=>?_
 simp only [Tryz.f288] at hB ⊢
 refine K_run hB 60 ?_
 simp [go_sem]
 refine K_val rfl (by simp [go_sem,hB]) (gives_toFloat (q:=.i64) (n:=clip n) rfl (by simp [go_sem,clip]) tt3 tt327 rfl) ?_
 refine K_run hB 60 ?_
 simp [go_sem,fl]
theorem place_pure (s:Stop):Pure P 261 [.agg (s.t.map .t)] (.t (.v (.complex .f64 (fl s.x) (fl s.y)))):=by
 refine pure_of Tryz.func261 rfl rfl (by simp [Tryz.f261]) (by simp [bnd,bnd.bndL,Stop.t]) (by simp [bnd]) fun B hB hnx=>?_
 simp only [Tryz.f261] at hB ⊢
 refine K_run hB 60 ?_
 simp [go_sem,Stop.t]
 refine K_drawn [] rfl (by rw [hB];kernel_rfl) ?_
 refine K_run hB 60 ?_
 simp [go_sem]
 refine K_dCallP rfl rfl rfl (args:=[.i s.x]) (f:=288) (by simp [go_sem]) (clip_pure s.x) ?_
 refine K_run hB 60 ?_
 simp [go_sem]
 refine K_dCallP rfl rfl rfl (args:=[.i s.y]) (f:=288) (by simp [go_sem]) (clip_pure s.y) ?_
 refine K_run hB 60 ?_
 simp [go_sem]
 refine K_dVal rfl (gives_complex (a:=fl s.x) (b:=fl s.y) rfl rfl rfl (by simp [go_sem]) (by simp [go_sem])) ?_
 refine K_run hB 60 ?_
 simp [go_sem]
theorem far_pure (a b:Stop):Pure P 237 [.agg (a.t.map .t),.agg (b.t.map .t)] (.i (far a b)):=by
 obtain ⟨re,im,re2,im2,e1,e2,e3⟩:=far_holds (fl_holds a.x) (fl_holds a.y) (fl_holds b.x) (fl_holds b.y) (clip_in _) (clip_in _) (clip_in _) (clip_in _)
 have e4:=toInt_holds e3 (by have:=sq_in a b;unfold sq at this;omega)
 refine pure_of Tryz.func237 rfl rfl (by simp [Tryz.f237]) (by simp [bnd,bnd.bndL,Stop.t]) (by simp [bnd]) fun B hB hnx=>?_
 simp only [Tryz.f237] at hB ⊢
 refine K_run hB 60 ?_
 simp [go_sem,Stop.t]
 refine K_drawn [] rfl (by rw [hB];kernel_rfl) ?_
 refine K_run hB 60 ?_
 simp [go_sem]
 refine K_dCallP rfl rfl rfl (args:=[.agg (a.t.map .t)]) (f:=261) (by simp [go_sem,Stop.t]) (place_pure a) ?_
 refine K_run hB 60 ?_
 simp [go_sem]
 refine K_dCallP rfl rfl rfl (args:=[.agg (b.t.map .t)]) (f:=261) (by simp [go_sem,Stop.t]) (place_pure b) ?_
 refine K_run hB 60 ?_
 simp [go_sem]
 refine K_dVal rfl (gives_csub rfl (by simp [go_sem]) (by simp [go_sem]) e1) ?_
 refine K_run hB 60 ?_
 simp [go_sem]
 refine K_val rfl (by simp [go_sem,hB]) (gives_real (a:=re) (b:=im) rfl rfl rfl (by simp [go_sem])) ?_
 refine K_run hB 60 ?_
 simp [go_sem]
 refine K_val rfl (by simp [go_sem,hB]) (gives_imag (a:=re) (b:=im) rfl rfl rfl (by simp [go_sem])) ?_
 refine K_run hB 60 ?_
 simp [go_sem]
 refine K_val rfl (by simp [go_sem,hB]) (gives_neg (b:=im) rfl (by simp [go_sem])) ?_
 refine K_run hB 60 ?_
 simp [go_sem]
 refine K_val rfl (by simp [go_sem,hB]) (gives_complex (a:=re) (b:=Op.negFloat .f64 im) rfl rfl rfl (by simp [go_sem]) (by simp [go_sem])) ?_
 refine K_run hB 60 ?_
 simp [go_sem]
 refine K_val rfl (by simp [go_sem,hB]) (gives_cmul rfl (by simp [go_sem]) (by simp [go_sem]) e2) ?_
 refine K_run hB 60 ?_
 simp [go_sem]
 refine K_val rfl (by simp [go_sem,hB]) (gives_real (a:=re2) (b:=im2) rfl rfl rfl (by simp [go_sem])) ?_
 refine K_run hB 60 ?_
 simp [go_sem]
 refine K_val rfl (by simp [go_sem,hB]) (gives_toInt (b:=re2) rfl (by simp [go_sem]) tt327 tt3 rfl e4) ?_
 refine K_run hB 60 ?_
 simp [go_sem]
 refine K_call rfl rfl rfl (args:=[.i (sq a b)]) (f:=262) (by simp [go_sem,sq]) (by simp [go_sem,hB]) ((root_pure (sq a b)).spec _ _) ?_
 refine K_run hB 60 ?_
 simp [go_sem,far]
end Go.Proofs.YtnoifgjiipgpoaaGreatDoor

set_option maxRecDepth 4000
namespace Go.Proofs.YtnoifgjiipgpoaaGreatDoor
open Go Go.Proofs.YtnoifgjiipgpoaaGreatDoor.R
def byt (l:List Nat):List (List T):=l.map fun (n:Nat)=>[T.v (.int .u8 n)]
theorem byt_len (l:List Nat):(byt l).length=l.length:=List.length_map _
theorem byt_get (l:List Nat) (i:Nat) (h:i<(byt l).length):(byt l)[i]=[.v (.int .u8 (l[i]'(by rwa [byt_len] at h):Nat))]:=by simp [byt]
theorem oput_oput {σ:Nat→AObj} {q:Nat} {a b:AObj}:oput (oput σ q a) q b=oput σ q b:=by
 funext i;simp only [oput];split<;>rfl
theorem oput_self {σ:Nat→AObj} {q:Nat} {a:AObj} (h:σ q=a):oput σ q a=σ:=by
 funext i;simp only [oput];split
 ·subst_vars;rfl
 ·rfl
abbrev rdr (b:List Nat) (i:Nat):AObj:=.box [.t (.sl (byt b)),.i i]
def nowN (b:List Nat) (i:Nat):Nat:=b.getD i 10
theorem nowN_lt {b:List Nat} (h:∀c∈b,c<256) (i:Nat):nowN b i<256:=by
 unfold nowN
 rw [List.getD_eq_getElem?_getD]
 cases hb:b[i]? with
 |none=>decide
 |some c=>exact h c (List.mem_of_getElem? hb)
theorem nowN_out {b:List Nat} {i:Nat} (h:b.length≤i):nowN b i=10:=by simp [nowN,h]
theorem now_spec {σ:Nat→AObj} {nx q:Nat} {b:List Nat} {i:Nat} (h:σ q=rdr b i):CallSpec P 132 [.ptr q 0] σ nx (.t (.v (.int .u8 (nowN b i)))) σ nx:=by
 refine (spec_of (P:=P) Tryz.func132 rfl rfl (by simp [Tryz.f132]) fun B hB hnx hσ=>?_).spec
 simp only [Tryz.f132] at hB ⊢
 by_cases hi:(b.length:Int)≤i
 ·have e:=nowN_out (b:=b) (i:=i) (by omega)
  refine K_run hB 60 ?_
  simp [go_sem]
  refine K_drawn [] rfl (by rw [hB];kernel_rfl) ?_
  refine K_run hB 60 ?_
  simp [go_sem,h,byt_len,hi,e]
 ·have hi':i<b.length:=by omega
  have e:nowN b i=b[i]:=by simp [nowN,hi']
  refine K_run hB 60 ?_
  simp [go_sem]
  refine K_drawn [] rfl (by rw [hB];kernel_rfl) ?_
  refine K_run hB 60 ?_
  simp [go_sem,h,byt_len,hi]
  refine K_drawn [] rfl (by rw [hB];kernel_rfl) ?_
  refine K_run hB 60 ?_
  simp [go_sem,h,byt_len,hi',byt_get,e]
def digB (c:Nat):Bool:=decide (48≤c)&&decide (c≤57)
theorem digit_pure (c:Nat):Pure P 133 [.t (.v (.int .u8 c))] (.b (digB c)):=by
 refine pure_of Tryz.func133 rfl rfl (by simp [Tryz.f133]) (by simp [bnd,bnd.bndL]) (by simp [bnd]) fun B hB hnx=>?_
 simp only [Tryz.f133] at hB ⊢
 by_cases h:(48:Int)≤c
 ·have h':48≤c:=by omega
  refine K_run hB 60 ?_
  simp [go_sem,h,h',digB]
  omega
 ·have h':¬48≤c:=by omega
  refine K_run hB 60 ?_
  simp [go_sem,h,h',digB]
def digR (b:List Nat):Nat→Nat→Nat→Nat→Nat×Nat×Nat
 |0,i,n,d=>(n,d,i)
 |f+1,i,n,d=>if digB (nowN b i)=true then digR b f (i+1) (10*n+(nowN b i-48)) (d+1) else (n,d,i)
theorem digR_i (b:List Nat):∀f i n d,i≤(digR b f i n d).2.2∧(digR b f i n d).2.2≤i+f∧d≤(digR b f i n d).2.1∧(digR b f i n d).2.1+i=(digR b f i n d).2.2+d∧(i≤b.length→(digR b f i n d).2.2≤b.length)
 |0,i,n,d=>by simp [digR];omega
 |f+1,i,n,d=>by
  rw [digR]
  split
  ·rename_i h
   have ih:=digR_i b f (i+1) (10*n+(nowN b i-48)) (d+1)
   have hb:i<b.length:=by
    by_cases hi:i<b.length
    ·exact hi
    ·rw [nowN_out (by omega)] at h;exact absurd h (by decide)
   omega
  ·simp;omega
def restR (b:List Nat) (i:Nat):Nat:=if h:i<b.length∧nowN b i≠10 then restR b (i+1) else i
  termination_by b.length-i
theorem restR_ge (b:List Nat) (i:Nat):i≤restR b i:=by
 fun_induction restR b i with
 |case1 i h ih=>omega
 |case2 i h=>omega
def numR (b:List Nat) (next:Nat→List Int→List Int×Bool×Nat) (neg:Bool) (l:List Int) (r:Nat×Nat×Nat):List Int×Bool×Nat:=
 if r.2.1=0∨(nowN b r.2.2≠32∧nowN b r.2.2≠35∧nowN b r.2.2≠10) then ([],false,r.2.2)
 else next r.2.2 (l++[if neg then -(r.1:Int) else r.1])
def lineF (b:List Nat):Nat→Nat→List Int→List Int×Bool×Nat
 |0,i,_=>([],false,i)
 |f+1,i,l=>
  if nowN b i=32 then lineF b f (i+1) l
  else if nowN b i=35 then (l,true,restR b i+1)
  else if nowN b i=10 then (l,true,i+1)
  else numR b (lineF b f) (decide (nowN b i=45)) l (digR b 12 (if nowN b i=45 then i+1 else i) 0 0)
theorem now_hit {b:List Nat} {i:Nat} (h:nowN b i≠10):i<b.length:=by
 by_cases hi:i<b.length
 ·exact hi
 ·exact absurd (nowN_out (by omega)) h
theorem numR_len {b:List Nat} {next:Nat→List Int→List Int×Bool×Nat} {neg:Bool} {l:List Int} {r:Nat×Nat×Nat} {L:Nat} (h1:∀j l',(next j l').1.length≤l'.length+L) (h:1≤l.length+L+1):(numR b next neg l r).1.length≤l.length+1+L:=by
 unfold numR
 split
 ·simp
 ·have:=h1 r.2.2 (l++[if neg then -(r.1:Int) else r.1])
  rw [List.length_append] at this
  simpa using this
theorem lineF_len (b:List Nat):∀f i l,(lineF b f i l).1.length≤l.length+f
 |0,i,l=>by simp [lineF]
 |f+1,i,l=>by
  rw [lineF]
  split
  ·have:=lineF_len b f (i+1) l;omega
  ·split
   ·simp
   ·split
    ·simp
    ·have:=numR_len (b:=b) (next:=lineF b f) (neg:=decide (nowN b i=45)) (l:=l) (r:=digR b 12 (if nowN b i=45 then i+1 else i) 0 0) (L:=f) (fun j l'=>lineF_len b f j l') (by omega)
     omega
def lineR (b:List Nat) (i:Nat):List Int×Bool×Nat:=lineF b (b.length+1) i []
def lineV (r:List Int×Bool×Nat):AV:=.tup [.t (.sl (ints r.1)),.b r.2.1]
structure LX where
 lb:Nat
 f:Nat
 i:Nat
 n:Nat
 d:Nat
 neg:Bool
 j:Nat
 l:List Int
 σ:Nat→AObj
 nx:Nat
structure LX.I (σ0:Nat→AObj) (nx0 q:Nat) (b:List Nat) (R:List Int×Bool×Nat) (x:LX):Prop where
 go:(x.lb=0∧b.length<x.f+x.i∧lineF b x.f x.i x.l=R)∨(x.lb=3∧x.d≤12∧b.length+x.d≤x.f+x.i∧x.d≤x.i∧x.l.length+x.d≤x.i∧x.n<10^x.d∧numR b (lineF b x.f) x.neg x.l (digR b (12-x.d) x.i x.n x.d)=R)∨(x.lb=1∧(x.l,true,restR b x.i+1)=R)∨(x.lb=2∧(x.l,true,x.i+1)=R)
 le:x.i≤b.length
 len:x.l.length≤x.i
 rd:x.σ q=rdr b x.i
 arr:x.σ x.j= .arr 1 (ints x.l)
 ne:x.j≠q
 jl:nx0≤x.j
 jn:x.j<x.nx
 old:∀y,y<nx0→y≠q→x.σ y=σ0 y
def LX.st (q:Nat) (x:LX):St:=⟨sl ([(0,.ptr q 0),(2,.fsl []),(3,.b false),(4,.ref x.j)]++(if x.lb=3 then [(5,.i x.n),(6,.i x.d),(7,.b x.neg)] else [])),x.σ,x.nx⟩
def LX.m (b:List Nat) (x:LX):Nat:=20*(b.length+1-(if x.lb=3 then x.i-x.d else x.i))+(if x.lb=3 then 12-x.d else if x.lb=0 then 15 else if x.lb=1 then 2 else 1)
theorem pow10 {d n:Nat} (h:n<10^d) (hd:d≤12):n<1000000000000:=Nat.lt_of_lt_of_le h (Nat.pow_le_pow_right (by decide) hd)
theorem line_spec {σ:Nat→AObj} {nx q:Nat} {b:List Nat} {i:Nat} (h:σ q=rdr b i) (hq:q<nx) (hb:b.length≤4096) (hb8:∀c∈b,c<256) (hi:i≤b.length):
  CallSpec P 81 [.ptr q 0] σ nx (lineV (lineR b i)) (oput σ q (rdr b (lineR b i).2.2)) nx:=by
 refine spec_down (P:=P) Tryz.func81 rfl rfl (by simp [Tryz.f81]) hq (by simp [go_sem]) (by simp [go_sem,lineV]) fun hk B hB hnx hσ=>?_
 simp only [Tryz.f81] at hB ⊢
 generalize hR:lineR b i=R
 refine K_after ?_
 have hm:mostLen=4294967296:=rfl
 generalize hpost:(fun (e:Exit) (s:St)=>∃t,Imp B s t∧_)=post
 refine K_run hB 60 ?_
 simp [go_sem]
 refine K_scopeF LX.lb (LX.I σ nx q b R) (LX.st q) (LX.m b) (fun x hx=>?_) ?_ ?_
 ·rcases hx.go with ⟨h,_⟩ | ⟨h,_⟩ | ⟨h,_⟩ | ⟨h,_⟩<;>rw [h]<;>rfl
 ·rintro ⟨lb,f,i,n,d,neg,j,l,σ',nx'⟩ ⟨h1,h2,h3,h4,h5,h6,h7,h8,h9⟩ fall
  have hj0:q≠j:=fun e=>h6 e.symm
  have hii:IntKind.i64.wrap ((i:Int)+1)=((i+1:Nat):Int):=by
   simp only at h2
   rw [w64 ((i:Int)+1) (by omega)];rfl
  simp only at h1 h2 h3 h4 h5 h6 h7 h8 h9
  rcases h1 with ⟨rfl,g1,g2⟩ | ⟨rfl,g1,g2,g3,g4,g5,g6⟩ | ⟨rfl,g1⟩ | ⟨rfl,g1⟩
  ·show Kp P B (.code (tailC _ 0) :: _) _ _ _
   simp [tailC,findLabel]
   obtain ⟨f,rfl⟩:∃f',f=f'+1:=⟨f-1,by omega⟩
   rw [lineF] at g2
   refine K_run hB 100 ?_
   simp [go_sem,LX.st]
   refine K_call rfl rfl rfl (args:=[.ptr q 0]) (f:=132) (by simp [go_sem]) (by simp [go_sem,hB]) (now_spec h4) ?_
   by_cases c1:nowN b i=32
   ·rw [if_pos c1] at g2
    have hlt:=now_hit (b:=b) (i:=i) (by omega)
    rw [c1]
    refine K_run hB 100 ?_
    simp [go_sem,h4,hii]
    refine ⟨⟨0,f,i+1,0,0,false,j,l,_,nx'⟩,⟨.inl ⟨rfl,by simp only;omega,g2⟩,hlt,by simp only;omega,by simp [oput],by simp [oput,h6,h5],h6,h7,h8,?_⟩,rfl,Imp.slots (by simp [go_sem]) rfl rfl,by simp [LX.m];omega⟩
    intro y hy hyq
    simp [oput,hyq,h9 y hy hyq]
   rw [if_neg c1] at g2
   by_cases c2:nowN b i=35
   ·rw [if_pos c2] at g2
    rw [c2]
    refine K_run hB 100 ?_
    simp [go_sem]
    exact ⟨⟨1,f,i,0,0,false,j,l,σ',nx'⟩,⟨.inr (.inr (.inl ⟨rfl,g2⟩)),h2,h3,h4,h5,h6,h7,h8,h9⟩,rfl,Imp.slots (by simp [go_sem]) rfl rfl,by simp [LX.m]⟩
   rw [if_neg c2] at g2
   by_cases c3:nowN b i=10
   ·rw [if_pos c3] at g2
    rw [c3]
    refine K_run hB 100 ?_
    simp [go_sem]
    exact ⟨⟨2,f,i,0,0,false,j,l,σ',nx'⟩,⟨.inr (.inr (.inr ⟨rfl,g2⟩)),h2,h3,h4,h5,h6,h7,h8,h9⟩,rfl,Imp.slots (by simp [go_sem]) rfl rfl,by simp [LX.m]⟩
   rw [if_neg c3] at g2
   have hlt:=now_hit (b:=b) (i:=i) c3
   have d1:¬(nowN b i:Int)=32:=by omega
   have d2:¬(nowN b i:Int)=35:=by omega
   have d3:¬(nowN b i:Int)=10:=by omega
   refine K_run hB 100 ?_
   simp [go_sem,d1,d2,d3,c1,c2,c3]
   refine K_call rfl rfl rfl (args:=[.ptr q 0]) (f:=132) (by simp [go_sem]) (by simp [go_sem,hB]) (now_spec h4) ?_
   by_cases c4:nowN b i=45
   ·rw [if_pos c4,decide_eq_true c4] at g2
    rw [c4]
    refine K_run hB 21 ?_
    simp [go_sem,h4,hii]
    refine fall 3 _ ⟨⟨3,f,i+1,0,0,true,j,l,oput σ' q (rdr b (i+1)),nx'⟩,⟨.inr (.inl ⟨rfl,by simp,by simp only;omega,by simp,by simp only;omega,by simp,g2⟩),hlt,by simp only;omega,by simp [oput],by simp [oput,h6,h5],h6,h7,h8,?_⟩,rfl,Imp.slots (by simp [go_sem]) rfl rfl,by simp [LX.m];omega⟩
    intro y hy hyq
    simp [oput,hyq,h9 y hy hyq]
   ·rw [if_neg c4,decide_eq_false c4] at g2
    have d4:¬(nowN b i:Int)=45:=by omega
    refine K_run hB 12 ?_
    simp [go_sem,c4,d4]
    exact fall 3 _ ⟨⟨3,f,i,0,0,false,j,l,σ',nx'⟩,⟨.inr (.inl ⟨rfl,by simp,by simp only;omega,by simp,by simp only;omega,by simp,g2⟩),h2,h3,h4,h5,h6,h7,h8,h9⟩,rfl,Imp.slots (by simp [go_sem]) rfl rfl,by simp [LX.m]⟩
  ·show Kp P B (.code (tailC _ 3) :: _) _ _ _
   simp [tailC,findLabel]
   refine K_run hB 100 ?_
   simp [go_sem,LX.st]
   refine K_call rfl rfl rfl (args:=[.ptr q 0]) (f:=132) (by simp [go_sem]) (by simp [go_sem,hB]) (now_spec h4) ?_
   have hc8:=nowN_lt hb8 i
   refine K_run hB 100 ?_
   simp [go_sem]
   refine K_call rfl rfl rfl (args:=[.t (.v (.int .u8 (nowN b i)))]) (f:=133) (by simp [go_sem]) (by simp [go_sem,hB]) ((digit_pure (nowN b i)).spec _ _) ?_
   by_cases hgo:digB (nowN b i)=true∧d<12
   ·obtain ⟨hdig,hd12⟩:=hgo
    have hd12':(d:Int)<12:=by omega
    have hlt:i<b.length:=now_hit (fun e=>by rw [e] at hdig;exact absurd hdig (by decide))
    have hdg:48≤nowN b i∧nowN b i≤57:=by simpa [digB] using hdig
    rw [show 12-d=(12-(d+1))+1 by omega,digR,if_pos hdig] at g6
    rw [hdig]
    have hn:=pow10 g5 g1
    have w1:IntKind.i64.wrap (10*(n:Int))=10*n:=w64 _ (by omega)
    have w2:IntKind.u8.wrap ((nowN b i:Int)-48)=((nowN b i-48:Nat):Int):=by rw [u8w _ (by omega)];omega
    have w3:IntKind.i64.wrap ((nowN b i-48:Nat):Int)=((nowN b i-48:Nat):Int):=w64n _ (by omega)
    have w4:IntKind.i64.wrap (10*(n:Int)+((nowN b i-48:Nat):Int))=((10*n+(nowN b i-48):Nat):Int):=by rw [w64 _ (by omega)];omega
    have w5:IntKind.i64.wrap ((d:Int)+1)=((d+1:Nat):Int):=by rw [w64 _ (by omega)];rfl
    refine K_run hB 100 ?_
    simp [go_sem,hd12',hd12,w1,w2,w3,w4,w5,h4,hii]
    refine ⟨⟨3,f,i+1,10*n+(nowN b i-48),d+1,neg,j,l,_,nx'⟩,⟨.inr (.inl ⟨rfl,(show d+1≤12 by omega),(show b.length+(d+1)≤f+(i+1) by omega),(show d+1≤i+1 by omega),(show l.length+(d+1)≤i+1 by omega),(show 10*n+(nowN b i-48)<10^(d+1) by rw [Nat.pow_succ];omega),g6⟩),hlt,by simp only;omega,by simp [oput],by simp [oput,h6,h5],h6,h7,h8,?_⟩,rfl,Imp.slots (by simp [go_sem]) rfl rfl,by simp [LX.m];omega⟩
    intro y hy hyq
    simp [oput,hyq,h9 y hy hyq]
   have hstop:digR b (12-d) i n d=(n,d,i):=by
    by_cases hd:d<12
    ·have hdig:¬digB (nowN b i)=true:=fun e=>hgo ⟨e,hd⟩
     rw [show 12-d=(12-(d+1))+1 by omega,digR,if_neg hdig]
    ·rw [show 12-d=0 by omega,digR]
   rw [hstop] at g6
   have hgo2:(digB (nowN b i)&&decide ((d:Int)<12))=false:=by
    cases hdig:digB (nowN b i)
    ·rfl
    ·have:¬(d:Int)<12:=fun e=>hgo ⟨hdig,by omega⟩
     simp [this]
   have hskip:∃bb cc:Bool,digB (nowN b i)=bb∧decide ((d:Int)<12)=cc∧(bb&&cc)=false:=⟨_,_,rfl,rfl,hgo2⟩
   obtain ⟨bb,cc,hbb,hcc,hbc⟩:=hskip
   rw [hbb]
   cases bb
   ·refine K_run hB 100 ?_
    simp [go_sem]
    refine K_call rfl rfl rfl (args:=[.ptr q 0]) (f:=132) (by simp [go_sem]) (by simp [go_sem,hB]) (now_spec h4) ?_
    by_cases hd0:d=0
    ·have hRf:R=([],false,i):=by rw [←g6,numR,if_pos (.inl hd0)]
     refine K_run hB 100 ?_
     simp [go_sem,hd0]
     rw [←hpost]
     refine ⟨_,Imp.loose,.inl rfl,?_⟩
     simp [go_sem,hRf,lineV,h4,ints,loosen]
     exact ⟨by omega,fun y hy hyq=>h9 y hy hyq⟩
    by_cases hbad:nowN b i≠32∧nowN b i≠35∧nowN b i≠10
    ·have hRf:R=([],false,i):=by rw [←g6,numR,if_pos (.inr hbad)]
     obtain ⟨e1,e2,e3⟩:=hbad
     have d1:¬(nowN b i:Int)=32:=by omega
     have d2:¬(nowN b i:Int)=35:=by omega
     have d3:¬(nowN b i:Int)=10:=by omega
     refine K_run hB 100 ?_
     simp [go_sem,hd0,d1,d2,d3,e1,e2,e3]
     rw [←hpost]
     refine ⟨_,Imp.loose,.inl rfl,?_⟩
     simp [go_sem,hRf,lineV,h4,ints,loosen]
     exact ⟨by omega,fun y hy hyq=>h9 y hy hyq⟩
    rw [numR,if_neg (by rintro (e | e);exact hd0 e;exact hbad e)] at g6
    have hlen:(ints l).length=l.length:=List.length_map _
    have hcap:l.length+1≤mostLen:=by omega
    have hn:=pow10 g5 g1
    have w6:IntKind.i64.wrap (-(n:Int))= -(n:Int):=w64 _ (by omega)
    have hso:∀z:Int,ints l++[[.i z]]=ints (l++[z]):=fun z=>by simp [ints]
    rcases (by omega:nowN b i=32∨nowN b i=35∨nowN b i=10) with e1 | e1 | e1
    all_goals
     rw [e1]
     cases neg
     all_goals
      refine K_run hB 100 ?_
      simp [go_sem,hd0,h5,hlen,hcap,w6]
    all_goals first
     |refine ⟨⟨0,f,i,0,0,false,nx',l++[(n:Int)],_,nx'+1⟩,⟨.inl ⟨rfl,(show b.length<f+i by omega),g6⟩,h2,(show (l++[(n:Int)]).length≤i by rw [List.length_append];simp only [List.length_cons,List.length_nil];omega),?_,(by simp only [oput,if_true];rw [hso]),(show nx'≠q by omega),(show nx≤nx' by omega),(show nx'<nx'+1 by omega),?_⟩,rfl,Imp.slots (by simp [go_sem]) rfl rfl,by simp [LX.m];omega⟩
     |refine ⟨⟨0,f,i,0,0,false,nx',l++[-(n:Int)],_,nx'+1⟩,⟨.inl ⟨rfl,(show b.length<f+i by omega),g6⟩,h2,(show (l++[-(n:Int)]).length≤i by rw [List.length_append];simp only [List.length_cons,List.length_nil];omega),?_,(by simp only [oput,if_true];rw [hso]),(show nx'≠q by omega),(show nx≤nx' by omega),(show nx'<nx'+1 by omega),?_⟩,rfl,Imp.slots (by simp [go_sem]) rfl rfl,by simp [LX.m];omega⟩
    all_goals first
     |(simp [oput,hj0,h4,show q≠nx' by omega];done)
     |(intro y hy hyq
       simp [oput,show y≠nx' by omega,show y≠j by omega]
       exact h9 y hy hyq)
   ·have hd:¬(d:Int)<12:=by cases cc<;>simp_all
    refine K_run hB 100 ?_
    simp [go_sem,hd]
    refine K_call rfl rfl rfl (args:=[.ptr q 0]) (f:=132) (by simp [go_sem]) (by simp [go_sem,hB]) (now_spec h4) ?_
    by_cases hd0:d=0
    ·have hRf:R=([],false,i):=by rw [←g6,numR,if_pos (.inl hd0)]
     refine K_run hB 100 ?_
     simp [go_sem,hd0]
     rw [←hpost]
     refine ⟨_,Imp.loose,.inl rfl,?_⟩
     simp [go_sem,hRf,lineV,h4,ints,loosen]
     exact ⟨by omega,fun y hy hyq=>h9 y hy hyq⟩
    by_cases hbad:nowN b i≠32∧nowN b i≠35∧nowN b i≠10
    ·have hRf:R=([],false,i):=by rw [←g6,numR,if_pos (.inr hbad)]
     obtain ⟨e1,e2,e3⟩:=hbad
     have d1:¬(nowN b i:Int)=32:=by omega
     have d2:¬(nowN b i:Int)=35:=by omega
     have d3:¬(nowN b i:Int)=10:=by omega
     refine K_run hB 100 ?_
     simp [go_sem,hd0,d1,d2,d3,e1,e2,e3]
     rw [←hpost]
     refine ⟨_,Imp.loose,.inl rfl,?_⟩
     simp [go_sem,hRf,lineV,h4,ints,loosen]
     exact ⟨by omega,fun y hy hyq=>h9 y hy hyq⟩
    rw [numR,if_neg (by rintro (e | e);exact hd0 e;exact hbad e)] at g6
    have hlen:(ints l).length=l.length:=List.length_map _
    have hcap:l.length+1≤mostLen:=by omega
    have hn:=pow10 g5 g1
    have w6:IntKind.i64.wrap (-(n:Int))= -(n:Int):=w64 _ (by omega)
    have hso:∀z:Int,ints l++[[.i z]]=ints (l++[z]):=fun z=>by simp [ints]
    rcases (by omega:nowN b i=32∨nowN b i=35∨nowN b i=10) with e1 | e1 | e1
    all_goals
     rw [e1]
     cases neg
     all_goals
      refine K_run hB 100 ?_
      simp [go_sem,hd0,h5,hlen,hcap,w6]
    all_goals first
     |refine ⟨⟨0,f,i,0,0,false,nx',l++[(n:Int)],_,nx'+1⟩,⟨.inl ⟨rfl,(show b.length<f+i by omega),g6⟩,h2,(show (l++[(n:Int)]).length≤i by rw [List.length_append];simp only [List.length_cons,List.length_nil];omega),?_,(by simp only [oput,if_true];rw [hso]),(show nx'≠q by omega),(show nx≤nx' by omega),(show nx'<nx'+1 by omega),?_⟩,rfl,Imp.slots (by simp [go_sem]) rfl rfl,by simp [LX.m];omega⟩
     |refine ⟨⟨0,f,i,0,0,false,nx',l++[-(n:Int)],_,nx'+1⟩,⟨.inl ⟨rfl,(show b.length<f+i by omega),g6⟩,h2,(show (l++[-(n:Int)]).length≤i by rw [List.length_append];simp only [List.length_cons,List.length_nil];omega),?_,(by simp only [oput,if_true];rw [hso]),(show nx'≠q by omega),(show nx≤nx' by omega),(show nx'<nx'+1 by omega),?_⟩,rfl,Imp.slots (by simp [go_sem]) rfl rfl,by simp [LX.m];omega⟩
    all_goals first
     |(simp [oput,hj0,h4,show q≠nx' by omega];done)
     |(intro y hy hyq
       simp [oput,show y≠nx' by omega,show y≠j by omega]
       exact h9 y hy hyq)
  ·show Kp P B (.code (tailC _ 1) :: _) _ _ _
   simp [tailC,findLabel]
   refine K_run hB 100 ?_
   simp [go_sem,LX.st]
   refine K_call rfl rfl rfl (args:=[.ptr q 0]) (f:=132) (by simp [go_sem]) (by simp [go_sem,hB]) (now_spec h4) ?_
   by_cases c1:nowN b i=10
   ·have hr:restR b i=i:=by rw [restR,dif_neg (by rintro ⟨_,e⟩;exact e c1)]
    rw [hr] at g1
    rw [c1]
    refine K_run hB 4 ?_
    simp [go_sem]
    exact fall 2 _ ⟨⟨2,f,i,0,0,false,j,l,σ',nx'⟩,⟨.inr (.inr (.inr ⟨rfl,g1⟩)),h2,h3,h4,h5,h6,h7,h8,h9⟩,rfl,Imp.slots (by simp [go_sem]) rfl rfl,by simp [LX.m]⟩
   ·have hlt:=now_hit c1
    have hr:restR b i=restR b (i+1):=by rw [restR,dif_pos ⟨hlt,c1⟩]
    rw [hr] at g1
    have d1:¬(nowN b i:Int)=10:=by omega
    refine K_run hB 100 ?_
    simp [go_sem,c1,d1,h4,hii]
    refine ⟨⟨1,f,i+1,0,0,false,j,l,_,nx'⟩,⟨.inr (.inr (.inl ⟨rfl,g1⟩)),hlt,by simp only;omega,by simp [oput],by simp [oput,h6,h5],h6,h7,h8,?_⟩,rfl,Imp.slots (by simp [go_sem]) rfl rfl,by simp [LX.m];omega⟩
    intro y hy hyq
    simp [oput,hyq,h9 y hy hyq]
  ·show Kp P B (.code (tailC _ 2) :: _) _ _ _
   simp [tailC,findLabel]
   refine K_run hB 100 ?_
   simp [go_sem,LX.st,h4,hii]
   rw [←hpost]
   refine ⟨_,Imp.freeze (q:=j) (sz:=1) (es:=ints l) (by simp [go_sem,h6,h5]),.inl rfl,?_⟩
   simp [go_sem,frz1,frzO,←g1,lineV,hj0]
   refine ⟨by omega,by simp [frz1.frzL,frz1],fun y hy hyq=>?_⟩
   have hyj:y≠j:=by omega
   rw [if_neg hyj,if_neg hyq,h9 y hy hyq]
   rcases hk y with e | ⟨e,_⟩
   ·rw [e]
   ·exact frzO_id (q:=j) (es:=ints l) (by omega) (σ y) e
 ·intro J hJ
  refine K_run hB 13 ?_
  simp [go_sem]
  refine K_own 4 1 (by simp [go_sem]) ?_
  refine hJ 0 _ ⟨⟨0,b.length+1,i,0,0,false,nx,[],_,nx+1⟩,⟨.inl ⟨rfl,by simp only;omega,hR⟩,hi,by simp,?_,by simp [oput,ints],by simp only;omega,Nat.le_refl _,by simp,?_⟩,rfl,Imp.slots (by simp [go_sem]) rfl rfl⟩
  ·simp [oput,h];omega
  ·intro y hy _;simp [oput];omega
end Go.Proofs.YtnoifgjiipgpoaaGreatDoor

set_option maxRecDepth 4000
namespace Go.Proofs.YtnoifgjiipgpoaaGreatDoor
open Go Go.Proofs.YtnoifgjiipgpoaaGreatDoor.R
theorem restR_le (b:List Nat) (i:Nat) (h:i≤b.length):restR b i≤b.length:=by
 fun_induction restR b i with
 |case1 i h ih=>exact ih (by omega)
 |case2 i h2=>exact h
theorem lineF_in (b:List Nat):∀f i l,i≤b.length→(lineF b f i l).2.1=true→i<(lineF b f i l).2.2∧(lineF b f i l).2.2≤b.length+1
 |0,i,l,_,h=>by simp [lineF] at h
 |f+1,i,l,hi,h=>by
  rw [lineF] at h ⊢
  split at h
  ·rename_i c1
   rw [if_pos c1]
   have:=lineF_in b f (i+1) l (now_hit (by omega)) h
   omega
  ·rename_i c1
   rw [if_neg c1]
   split at h
   ·rename_i c2
    rw [if_pos c2]
    have h1:=restR_ge b i
    have h2:=restR_le b i hi
    simp only;omega
   ·rename_i c2
    rw [if_neg c2]
    split at h
    ·rename_i c3
     rw [if_pos c3]
     simp only;omega
    ·rename_i c3
     rw [if_neg c3]
     have hlt:=now_hit c3
     have hr:=digR_i b 12 (if nowN b i=45 then i+1 else i) 0 0
     generalize digR b 12 (if nowN b i=45 then i+1 else i) 0 0=r at *
     unfold numR at h ⊢
     split at h
     ·simp at h
     ·rename_i c4
      rw [if_neg c4]
      have hr5:r.2.2≤b.length:=hr.2.2.2.2 (by split<;>omega)
      have hr6:i≤r.2.2:=by have:=hr.1;split at this<;>omega
      have:=lineF_in b f _ _ hr5 h
      omega
theorem lineR_in (b:List Nat) (i:Nat) (hi:i≤b.length) (h:(lineR b i).2.1=true):i<(lineR b i).2.2∧(lineR b i).2.2≤b.length+1:=lineF_in b _ i [] hi h
def linesF (b:List Nat):Nat→Nat→List (List Int)→Option (List (List Int))
 |0,_,a=>some a
 |f+1,i,a=>if i<b.length then (if (lineR b i).2.1=true then linesF b f (lineR b i).2.2 (if (lineR b i).1=[] then a else a++[(lineR b i).1]) else none) else some a
def linesR (b:List Nat):List (List Int)×Int:=if 4096<b.length then ([],6) else match linesF b (b.length+1) 0 [] with
 |none=>([],2)
 |some a=>(a,0)
theorem lines_pure (b:List Nat) (hb:b.length<2^62) (hb8:∀c∈b,c<256):Pure P 40 [.t (.sl (byt b))] (.tup [.t (.sl ((linesR b).1.map rowT)),.i (linesR b).2]):=by
 refine pure_of Tryz.func40 rfl rfl (by simp [Tryz.f40]) (by simp [bnd,bnd.bndL]) (by simp [bnd,bnd.bndL]) fun B hB hnx=>?_
 simp only [Tryz.f40] at hB ⊢
 generalize hR:linesR b=R
 rw [linesR] at hR
 by_cases hbig:(4096:Int)<b.length
 ·rw [if_pos (by omega)] at hR
  subst hR
  refine K_run hB 60 ?_
  simp [go_sem,byt_len,hbig]
 rw [if_neg (by omega)] at hR
 have hm:mostLen=4294967296:=rfl
 refine K_run hB 60 ?_
 simp [go_sem,byt_len,hbig]
 refine K_own 4 1 (by simp [go_sem]) ?_
 refine K_loopP (α:=Nat×Nat×List (List Int)×Nat×(Nat→AObj)×Nat) (fun (f,i,a,j,σ,nx)=>b.length<f+i∧a.length≤i∧i≤b.length+1∧linesF b f i a=linesF b (b.length+1) 0 []∧σ 0=rdr b i∧σ j= .arr 1 (a.map rowT)∧0<j∧j<nx)
  (fun (f,i,a,j,σ,nx)=>⟨sl [(0,.t (.sl (byt b))),(4,.ref j),(5,.ptr 0 0)],σ,nx⟩) (fun x=>b.length+1-x.2.1) (b.length+1,0,[],1,_,2) ?_ (Imp.slots (by simp [go_sem]) rfl rfl) ?_
 ·exact ⟨by omega,by simp,by omega,rfl,by simp [oput],by simp [oput],by omega,by omega⟩
 rintro ⟨f,i,a,j,σ,nx⟩ ⟨g1,g2,g3,g4,g5,g6,g7,g8⟩
 rw [←g4] at hR
 by_cases hi:(i:Int)<b.length
 rotate_left
 ·have hRf:R=(a,0):=by
   rw [←hR]
   cases f with
   |zero=>rfl
   |succ f=>rw [linesF,if_neg (by omega)]
  refine K_run hB 60 ?_
  simp [go_sem,g5,byt_len,hi,g6,hRf]
 have hi':i<b.length:=by omega
 obtain ⟨f,rfl⟩:∃f',f=f'+1:=⟨f-1,by omega⟩
 rw [linesF,if_pos hi'] at hR g4
 have hin:=lineR_in b i (by omega)
 have hsp:=line_spec (σ:=σ) (nx:=nx) (q:=0) (b:=b) (i:=i) g5 (by omega) (by omega) hb8 (by omega)
 generalize lineR b i=r at *
 refine K_run hB 60 ?_
 simp [go_sem,g5,byt_len,hi]
 refine K_call rfl rfl rfl (args:=[.ptr 0 0]) (f:=81) (by simp [go_sem]) (by simp [go_sem,hB]) hsp ?_
 by_cases hok:r.2.1=true
 rotate_left
 ·have hok':r.2.1=false:=by simpa using hok
  rw [if_neg hok] at hR
  have hRf:R=([],2):=hR.symm
  refine K_run hB 60 ?_
  simp [go_sem,lineV,hok',hRf]
 rw [if_pos hok] at hR g4
 have hin:=hin hok
 by_cases hnil:r.1=[]
 ·rw [if_pos hnil] at hR g4
  refine K_run hB 60 ?_
  simp [go_sem,lineV,hok,hnil,ints]
  refine Next.mk (f,r.2.2,a,j,_,nx) ?_ (Imp.slots (by simp [go_sem]) rfl rfl) (by simp only;omega)
  exact ⟨by simp only;omega,by simp only;omega,by simp only;omega,g4,by simp [oput],by simp [oput,show ¬j=0 by omega,g6],g7,g8⟩
 ·rw [if_neg hnil] at hR g4
  have hpos:0<r.1.length:=List.length_pos_iff.2 hnil
  have hcap:a.length+1≤mostLen:=by omega
  refine K_run hB 60 ?_
  simp [go_sem,lineV,hok,ints,hpos,show ¬j=0 by omega,g6,hcap]
  refine Next.mk (f,r.2.2,a++[r.1],nx,_,nx+1) ?_ (Imp.slots (by simp [go_sem]) rfl rfl) (by simp only;omega)
  refine ⟨by simp only;omega,(show (a++[r.1]).length≤r.2.2 by rw [List.length_append];simp only [List.length_cons,List.length_nil];omega),by simp only;omega,g4,?_,?_,by simp only;omega,by simp only;omega⟩
  ·simp [oput,show ¬0=nx by omega,show ¬0=j by omega]
  ·simp [oput,rowT,ints]
end Go.Proofs.YtnoifgjiipgpoaaGreatDoor

set_option maxRecDepth 4000
namespace Go.Proofs.YtnoifgjiipgpoaaGreatDoor
open Go Go.Proofs.YtnoifgjiipgpoaaGreatDoor.R
def stopOf (l:List Int):Stop:=⟨l.getD 0 0,l.getD 1 0,l.getD 2 0,l.getD 3 0,l.getD 4 0,l.getD 5 0⟩
theorem stop_pure (l:List Int) (h:l.length=6):Pure P 43 [.t (.sl (ints l))] (.agg ((stopOf l).t.map .t)):=by
 obtain ⟨a,b,c,d,e,f,rfl⟩:∃a b c d e f,l=[a,b,c,d,e,f]:=by
  match l,h with
  |[a,b,c,d,e,f],_=>exact ⟨a,b,c,d,e,f,rfl⟩
 refine pure_of Tryz.func43 rfl rfl (by simp [Tryz.f43]) (by simp [bnd,bnd.bndL]) (by simp [bnd,bnd.bndL,Stop.t]) fun B hB hnx=>?_
 simp only [Tryz.f43] at hB ⊢
 refine K_run hB 60 ?_
 simp [go_sem]
 refine K_arrp (es:=ints [a,b,c,d,e,f]) rfl (by simp [go_sem,hB]) rfl tt146 rfl (by simp [go_sem]) (by simp [ints]) (by simp [ints]) ?_
 refine K_run hB 100 ?_
 simp [go_sem,ints,stopOf,Stop.t]
def oddB (l:List Int):Bool:=decide (l.length≠6)
theorem odd_pure (l:List Int):Pure P 41 [.t (.sl (ints l))] (.b (oddB l)):=by
 refine pure_of Tryz.func41 rfl rfl (by simp [Tryz.f41]) (by simp [bnd,bnd.bndL]) (by simp [bnd]) fun B hB hnx=>?_
 simp only [Tryz.f41] at hB ⊢
 have hlen:(ints l).length=l.length:=List.length_map _
 refine K_run hB 60 ?_
 simp [go_sem,hlen,oddB]
 omega
def oddAt:Nat→List (List Int)→Int
 |_,[]=>-1
 |k,l :: r=>if oddB l=true then k else oddAt (k+1) r
theorem oddAt_any:∀k (r:List (List Int)),decide (0≤oddAt k r)=r.any oddB
 |k,[]=>by simp [oddAt]
 |k,l :: r=>by
  rw [oddAt,List.any_cons]
  split
  ·rename_i h;rw [h];simp
  ·rename_i h
   have h':oddB l=false:=by simpa using h
   rw [h',Bool.false_or]
   exact oddAt_any (k+1) r
theorem index_pure (r:List (List Int)) (hr:r.length<2^62):Pure P 82 [.t (.sl (r.map rowT)),.fn (.func 41) [] []] (.i (oddAt 0 r)):=by
 refine pure_of Tryz.func82 rfl rfl (by simp [Tryz.f82]) (by simp [bnd,bnd.bndL]) (by simp [bnd]) fun B hB hnx=>?_
 simp only [Tryz.f82] at hB ⊢
 refine K_run hB 60 ?_
 simp [go_sem]
 refine K_loopP (α:=Nat) (fun k=>k≤r.length∧oddAt k (r.drop k)=oddAt 0 r) (fun k=>⟨sl [(0,.t (.sl (r.map rowT))),(1,.fn (.func 41) [] []),(7,.i r.length),(8,.i k)],noObj,0⟩) (fun k=>r.length-k) 0 ⟨Nat.zero_le _,rfl⟩ (Imp.slots (by simp [go_sem]) rfl rfl) ?_
 rintro k ⟨h1,h2⟩
 refine K_run hB 60 ?_
 simp [go_sem]
 refine fork_dec (fun h=>?_) (fun h=>?_)
 ·rw [List.drop_eq_getElem_cons h,oddAt] at h2
  have hkk:IntKind.i64.wrap ((k:Int)+1)=((k+1:Nat):Int):=by rw [w64 ((k:Int)+1) (by omega)];rfl
  generalize hl:r[k]=l at *
  simp [go_sem,h,hl,rowT]
  refine K_call rfl rfl rfl (args:=[.t (.sl (ints l))]) (f:=41) (by simp [go_sem]) (by simp [go_sem,hB]) ((odd_pure l).spec _ _) ?_
  by_cases ho:oddB l=true
  ·rw [if_pos ho] at h2
   rw [ho]
   refine K_run hB 60 ?_
   simp [go_sem,←h2]
  ·rw [if_neg ho] at h2
   have ho':oddB l=false:=by simpa using ho
   rw [ho']
   refine K_run hB 60 ?_
   simp [go_sem,hkk]
   exact Next.mk (k+1) ⟨by omega,h2⟩ (Imp.slots (by simp [go_sem,rowT]) rfl rfl) (by omega)
 ·have:k=r.length:=by omega
  subst this
  rw [List.drop_length] at h2
  simp [go_sem,←h2,oddAt]
theorem contains_pure (r:List (List Int)) (hr:r.length<2^62):Pure P 42 [.t (.sl (r.map rowT)),.fn (.func 41) [] []] (.b (r.any oddB)):=by
 rw [←oddAt_any 0]
 refine pure_of Tryz.func42 rfl rfl (by simp [Tryz.f42]) (by simp [bnd,bnd.bndL]) (by simp [bnd]) fun B hB hnx=>?_
 simp only [Tryz.f42] at hB ⊢
 refine K_run hB 60 ?_
 simp [go_sem]
 refine K_call rfl rfl rfl (args:=[.t (.sl (r.map rowT)),.fn (.func 41) [] []]) (f:=82) (by simp [go_sem]) (by simp [go_sem,hB]) ((index_pure r hr).spec _ _) ?_
 refine K_run hB 60 ?_
 simp [go_sem]
def Inst.zero:Inst:=⟨0,0,0,[]⟩
def instOf:List (List Int)→Inst
 |r :: l=>⟨r.getD 0 0,r.getD 1 0,r.getD 2 0,l.map stopOf⟩
 |[]=>Inst.zero
def parseL (l:List (List Int)):Inst×Int:=
 if l=[]∨(l.headD []).length≠3∨(l.drop 1).any oddB=true then (Inst.zero,2)
 else if (instOf l).may=true then (instOf l,0) else (Inst.zero,1)
def parseR (b:List Nat):Inst×Int:=if (linesR b).2≠0 then (Inst.zero,(linesR b).2) else parseL (linesR b).1
theorem linesF_len (b:List Nat):∀f i a l,linesF b f i a=some l→l.length≤a.length+f
 |0,i,a,l,h=>by simp [linesF] at h;subst h;simp
 |f+1,i,a,l,h=>by
  rw [linesF] at h
  split at h
  ·split at h
   ·have:=linesF_len b f _ _ _ h
    split at this
    ·omega
    ·rw [List.length_append] at this;simp only [List.length_cons,List.length_nil] at this;omega
   ·cases h
  ·cases h;omega
theorem linesR_len (b:List Nat):(linesR b).1.length≤4097:=by
 unfold linesR
 split
 ·simp
 ·split
  ·simp
  ·rename_i h1 _ a h
   have:=linesF_len b _ _ _ _ h
   simp only [List.length_nil] at this
   show a.length≤4097
   omega
def stopsT (l:List (List Int)) (k:Nat):List (List T):=((l.take k).map stopOf).map Stop.t
theorem stopsT_len {l:List (List Int)} {k:Nat} (h:k≤l.length):(stopsT l k).length=k:=by simp only [stopsT,List.length_map,List.length_take];omega
theorem stopsT_snoc {l:List (List Int)} {k:Nat} (h:k<l.length):stopsT l k++[(stopOf l[k]).t]=stopsT l (k+1):=by simp only [stopsT];rw [List.take_add_one,List.getElem?_eq_getElem h,List.map_append,List.map_append];rfl
theorem parse_pure (b:List Nat) (hb:b.length<2^62) (hb8:∀c∈b,c<256):Pure P 16 [.t (.sl (byt b))] (.tup [(parseR b).1.a,.i (parseR b).2]):=by
 refine pure_of Tryz.func16 rfl rfl (by simp [Tryz.f16]) (by simp [bnd,bnd.bndL]) (by simp [bnd,bnd.bndL,Inst.a]) fun B hB hnx=>?_
 simp only [Tryz.f16] at hB ⊢
 generalize hR:parseR b=R
 rw [parseR] at hR
 have hm:mostLen=4294967296:=rfl
 refine K_run hB 60 ?_
 simp [go_sem]
 refine K_call rfl rfl rfl (args:=[.t (.sl (byt b))]) (f:=40) (by simp [go_sem]) (by simp [go_sem,hB]) ((lines_pure b hb hb8).spec _ _) ?_
 have hlen:=linesR_len b
 rcases hle:linesR b with ⟨l,e⟩
 rw [hle] at hR hlen
 simp only at hR hlen
 by_cases he:e=0
 rotate_left
 ·rw [if_pos he] at hR
  subst hR
  refine K_run hB 60 ?_
  simp [go_sem,he,Inst.zero,Inst.a]
 subst he
 rw [if_neg (by simp),parseL] at hR
 cases l with
 |nil=>
  rw [if_pos (.inl rfl)] at hR
  subst hR
  refine K_run hB 60 ?_
  simp [go_sem,Inst.zero,Inst.a]
 |cons r l=>
  simp only [List.headD_cons,List.drop_succ_cons,List.drop_zero] at hR
  have hri:(ints r).length=r.length:=List.length_map _
  have h10:¬(l.length:Int)+1=0:=by omega
  by_cases h3:(r.length:Int)=3
  rotate_left
  ·rw [if_pos (.inr (.inl (by omega)))] at hR
   subst hR
   refine K_run hB 60 ?_
   simp [go_sem,rowT,hri,h3,h10,Inst.zero,Inst.a]
  have hall:∀y∈l.map rowT,y.length=1:=by
   intro y hy
   obtain ⟨n,_,rfl⟩:=List.mem_map.1 hy
   rfl
  have h11:(1:Int)≤l.length+1:=by omega
  refine K_run hB 60 ?_
  simp [go_sem,rowT,hri,h3,h10,h11]
  have hll:l.length<2^62:=by simp only [List.length_cons] at hlen;omega
  refine K_call rfl rfl rfl (args:=[.t (.sl (l.map rowT)),.fn (.func 41) [] []]) (f:=42) (by simp [go_sem,rowT]) (by simp [go_sem,hB]) ((contains_pure l hll).spec _ _) ?_
  by_cases ha:l.any oddB=true
  ·rw [if_pos (.inr (.inr ha))] at hR
   subst hR
   rw [ha]
   refine K_run hB 60 ?_
   simp [go_sem,Inst.zero,Inst.a]
  have ha':l.any oddB=false:=by simpa using ha
  rw [if_neg (by simp;exact ⟨by omega,by simpa using ha'⟩)] at hR
  rw [ha']
  refine K_run hB 60 ?_
  simp [go_sem]
  obtain ⟨x,y,z,rfl⟩:∃x y z,r=[x,y,z]:=by
   match r,h3 with
   |[x,y,z],_=>exact ⟨x,y,z,rfl⟩
  refine K_drawnF [16,17] [0,1,2,3,4,5,6,7,8,9,10,11,12,13,14,15] rfl (by rw [hB];kernel_rfl) (by kernel_rfl) fun ht hf=>?_
  refine K_run hB 150 ?_
  simp [go_sem,ints,rowT,h11,ht,hf]
  have hodd:∀a∈l,a.length=6:=by
   intro a h
   have:=List.any_eq_false.1 ha' a h
   simpa [oddB] using this
  refine K_loopP (α:=Nat×Nat×(Nat→AObj)×Nat) (fun (k,j,σ,nx)=>k≤l.length∧σ 0= .box [.i 0,.i 0,.i 0,.fsl []]∧σ 1= .box [.i x,.i y,.i z,.ref j]∧σ j= .arr 6 (stopsT l k)∧1<j∧j<nx)
   (fun (k,j,σ,nx)=>⟨sl [(2,.ptr 0 0),(3,.i 0),(7,.ptr 1 0),(53,.t (.sl (l.map rowT))),(54,.i l.length),(55,.i k)],σ,nx⟩) (fun x=>l.length-x.1) (0,2,_,3) ?_
   ((Imp.ownB (b:=1) (off:=3) (sz:=6) (cs:=[.i x,.i y,.i z,.fsl []]) (by simp [oput]) rfl).trans (Imp.slots (by simp [go_sem,rowT]) rfl rfl)) ?_
  ·exact ⟨Nat.zero_le _,by simp [oput],by simp [oput],by simp [oput,stopsT],by omega,by omega⟩
  rintro ⟨k,j,σ,nx⟩ ⟨g1,g2,g3,g4,g5,g6⟩
  refine K_run hB 8 ?_
  simp [go_sem]
  refine fork_dec (fun hk=>?_) (fun hk=>?_)
  ·have hti:=stopsT_snoc hk
   have hkk:IntKind.i64.wrap ((k:Int)+1)=((k+1:Nat):Int):=by rw [w64 ((k:Int)+1) (by omega)];rfl
   have ho6:=hodd l[k] (List.getElem_mem hk)
   have hlt:=stopsT_len g1
   generalize stopsT l k=L at g4 hti hlt
   generalize ha:l[k]=a at *
   have hcap:k+1≤mostLen:=by simp only [List.length_cons] at hlen;omega
   have hst:=stop_pure a ho6
   generalize stopOf a=d at *
   simp [go_sem]
   refine K_run hB 60 ?_
   simp [go_sem,rowT,hk,ha]
   refine K_drawnT [5,7] rfl (by rw [hB];kernel_rfl) (by kernel_rfl) fun ht=>?_
   refine K_run hB 60 ?_
   simp [go_sem,ht,g3]
   refine K_dCallP rfl rfl rfl (args:=[.t (.sl (ints a))]) (f:=43) (by simp [go_sem]) hst ?_
   refine K_run hB 60 ?_
   simp [go_sem,ht,g3,g4,hlt,hcap,hkk,Stop.t,show ¬1=j by omega,show ¬1=nx by omega]
   refine Next.mk (k+1,nx,_,nx+1) ?_ (Imp.slots (by simp [go_sem,rowT]) rfl rfl) (by simp only;omega)
   refine ⟨by simp only;omega,?_,?_,?_,by simp only;omega,by simp only;omega⟩
   ·simp [oput,show ¬0=nx by omega,show ¬0=j by omega,g2]
   ·simp [oput]
   ·simp only [←hti]
    simp [oput,show ¬nx=1 by omega,Stop.t]
  ·have:k=l.length:=by omega
   subst this
   simp [go_sem]
   have e:stopsT l l.length=(instOf ([x,y,z] :: l)).stops.map Stop.t:=by simp only [stopsT,List.take_length,instOf]
   rw [e] at g4
   have hm:=may_pure (instOf ([x,y,z] :: l)) (by simp only [instOf,List.length_map];omega)
   have ex:(instOf ([x,y,z] :: l)).pairs=x:=rfl
   have ey:(instOf ([x,y,z] :: l)).cars=y:=rfl
   have ez:(instOf ([x,y,z] :: l)).room=z:=rfl
   generalize instOf ([x,y,z] :: l)=J at *
   subst ex ey ez
   have h0j:¬0=j:=by omega
   have h1j:¬1=j:=by omega
   refine K_impK ((Imp.freeze (q:=j) g4).trans (Sub.of (n:=2) (l:=[(2,.ptr 0 0),(7,.ptr 1 0)]) (o:=[(0,.box [.i 0,.i 0,.i 0,.fsl []]),(1,.box [.i J.pairs,.i J.cars,.i J.room,.t (.sl (J.stops.map Stop.t))])]) (by omega) (by simp only;omega) (by simp [go_sem,frz1]) (by simp [go_sem,frzO,frz1,frz1.frzL,g2,g3,h0j,h1j]))) rfl ?_
   refine K_run hB 60 ?_
   simp [go_sem]
   refine K_call rfl rfl rfl (args:=[J.a]) (f:=44) (by simp [go_sem,Inst.a]) (by simp [go_sem,hB]) (hm.spec _ _) ?_
   cases hmay:J.may with
   |true=>
    rw [hmay,if_pos rfl] at hR
    subst hR
    refine K_run hB 60 ?_
    simp [go_sem,Inst.a]
   |false=>
    rw [hmay,if_neg (by simp)] at hR
    subst hR
    refine K_run hB 60 ?_
    simp [go_sem,Inst.a,Inst.zero]
end Go.Proofs.YtnoifgjiipgpoaaGreatDoor

set_option maxRecDepth 4000
namespace Go.Proofs.YtnoifgjiipgpoaaGreatDoor
open Go Go.Proofs.YtnoifgjiipgpoaaGreatDoor.R
def smallB:List Nat:=[49,32,49,32,53,10,48,32,48,32,48,32,48,32,49,48,48,32,48,10,51,32,48,32,50,32,48,32,53,48,32,49,10,48,32,52,32,45,50,32,48,32,57,48,32,49,10]
def smallS:ByteArray:=⟨(smallB.map UInt8.ofNat).toArray⟩
def small:Inst:=⟨1,1,5,[⟨0,0,0,0,100,0⟩,⟨3,0,2,0,50,1⟩,⟨0,4,-2,0,90,1⟩]⟩
theorem small_parse:parseR smallB=(small,0):=by
 have h:linesR smallB=([[1,1,5],[0,0,0,0,100,0],[3,0,2,0,50,1],[0,4,-2,0,90,1]],0):=by decide+kernel
 rw [parseR,h]
 rfl
theorem small_bytes:bytesT smallS=byt smallB:=by
 simp [bytesT,smallS,byt,smallB]
theorem small_pure:Pure P 29 [] (.t (.v (.string smallS))):=by
 refine pure_of Tryz.func29 rfl rfl (by simp [Tryz.f29]) (by simp) (by simp [bnd]) fun B hB hnx=>?_
 simp only [Tryz.f29] at hB ⊢
 refine K_run hB 60 ?_
 simp [go_sem,smallS,smallB]
end Go.Proofs.YtnoifgjiipgpoaaGreatDoor

set_option maxRecDepth 4000
namespace Go.Proofs.YtnoifgjiipgpoaaGreatDoor
open Go Go.Proofs.YtnoifgjiipgpoaaGreatDoor.R
structure State where
 spot:Int
 car:Int
 time:Int
 load:Int
 first:Int
 must:Nat
 can:Nat
 on:Nat
 deriving DecidableEq
def State.cs (s:State):List AV:=[.i s.spot,.i s.car,.i s.time,.i s.load,.i s.first,.u s.must,.u s.can,.u s.on]
def State.a (s:State):AV:=.agg s.cs
structure State.ok (s:State):Prop where
 must:s.must<2^64
 can:s.can<2^64
 on:s.on<2^64
def State.zero:State:=⟨0,0,0,0,0,0,0,0⟩
def stop0:Stop:=⟨0,0,0,0,0,0⟩
def Inst.stop (x:Inst) (j:Int):Stop:=x.stops.getD j.toNat stop0
def State.mayB (x:Inst) (s:State):Bool:=
 decide (s.spot≥0)&&decide (s.spot≤2*x.pairs)&&decide (s.car≥1)&&decide (s.car≤x.cars)&&decide (s.time≥0)&&decide (s.time≤1073741824)&&decide (s.load≥0)&&decide (s.load≤1000)
def hereC (x:Inst) (s:State):List AV:=[.t (.i x.pairs),.t (.i x.cars),.t (.i x.room),.t (.sl (x.stops.map Stop.t)),.i s.spot,.i s.car,.i s.time,.i s.load,.i s.first,.u s.must,.u s.can,.u s.on]
def Inst.rootS (x:Inst):State:=if x.may then {State.zero with car:=1,time:=(x.stop 0).ready} else State.zero
structure Inst.Fit (x:Inst) (p:Nat):Prop where
 pairs:x.pairs=p
 few:p≤16
 cars:1≤x.cars∧x.cars≤8
 room:1≤x.room∧x.room≤1000
 len:x.stops.length=2*p+1
 stop:∀k (h:k<x.stops.length),x.stopB k x.stops[k]=true
theorem allFrom_get {α:Type} {f:Nat→α→Bool}:∀{l:List α} {k:Nat},allFrom f k l=true→∀i (h:i<l.length),f (k+i) l[i]=true
 |a :: l,k,h,0,_=>by simp [allFrom] at h;exact h.1
 |a :: l,k,h,i+1,hi=>by
  simp only [allFrom,Bool.and_eq_true] at h
  have:=allFrom_get h.2 i (by simpa using hi)
  rw [show k+(i+1)=k+1+i by omega]
  exact this
theorem Inst.fit {x:Inst} (h:x.may=true):∃p:Nat,x.Fit p:=by
 simp only [Inst.may,inB,Bool.and_eq_true,decide_eq_true_eq] at h
 obtain ⟨⟨⟨⟨h1,h2⟩,h3⟩,h4⟩,h5⟩:=h
 refine ⟨x.pairs.toNat,by omega,by omega,h2,h3,by omega,fun k hk=>?_⟩
 have:=allFrom_get h5 k hk
 rwa [Nat.zero_add] at this
structure Stop.Fit (s:Stop):Prop where
 ready:0≤s.ready∧s.ready≤1048576
 due:0≤s.due∧s.due≤1048576
 service:0≤s.service∧s.service≤1000
 order:s.ready≤s.due
 demand: -1000≤s.demand∧s.demand≤1000
theorem Inst.stop_at {x:Inst} {k:Nat} (h:k<x.stops.length):x.stop k=x.stops[k]:=by
 rw [Inst.stop,List.getD_eq_getElem?_getD,Int.toNat_natCast,List.getElem?_eq_getElem h];rfl
theorem Inst.Fit.B {x:Inst} {p:Nat} (h:x.Fit p) {k:Nat} (hk:k≤2*p):x.stopB k (x.stop k)=true:=by
 have hl:=h.len
 rw [Inst.stop_at (by omega)]
 exact h.stop k (by omega)
theorem Inst.Fit.take {x:Inst} {p:Nat} (h:x.Fit p) {k:Nat} (h1:1≤k) (h2:k≤p):1≤(x.stop k).demand∧(x.stop k).demand≤1000:=by
 have:=h.B (k:=k) (by omega)
 have e1:¬k=0:=by omega
 have e2:(k:Int)≤x.pairs:=by rw [h.pairs];omega
 simp only [Inst.stopB,Bool.and_eq_true,if_neg e1,if_pos e2,inB,decide_eq_true_eq] at this
 exact this.2
theorem Inst.Fit.bring {x:Inst} {p:Nat} (h:x.Fit p) {k:Nat} (h1:1≤k) (h2:k≤p):(x.stop (k+p:Nat)).demand= -(x.stop k).demand:=by
 have:=h.B (k:=k+p) (by omega)
 have e1:¬k+p=0:=by omega
 have e2:¬((k+p:Nat):Int)≤x.pairs:=by rw [h.pairs];omega
 simp only [Inst.stopB,Bool.and_eq_true,if_neg e1,if_neg e2,inB,decide_eq_true_eq] at this
 rw [this.2,show k+p-x.pairs.toNat=k by rw [h.pairs];omega]
 have ht:=h.take h1 h2
 have hl:=h.len
 have e:x.stops.getD k ⟨0,0,0,0,0,0⟩=x.stop k:=by rw [Inst.stop_at (by omega),List.getD_eq_getElem?_getD,List.getElem?_eq_getElem (by omega)];rfl
 rw [e,w64 _ (by omega)]
theorem Inst.Fit.yard {x:Inst} {p:Nat} (h:x.Fit p):(x.stop 0).demand=0:=by
 have:=h.B (k:=0) (by omega)
 simp only [Inst.stopB,Bool.and_eq_true,if_true,decide_eq_true_eq] at this
 exact this.2.1
theorem Inst.Fit.at {x:Inst} {p:Nat} (h:x.Fit p) {j:Int} (h0:0≤j) (h1:j≤2*p):(x.stop j).Fit:=by
 have hl:=h.len
 have hj:j.toNat<x.stops.length:=by omega
 have e:x.stop j=x.stops[j.toNat]:=by rw [Inst.stop,List.getD_eq_getElem?_getD,List.getElem?_eq_getElem hj];rfl
 have:=h.stop j.toNat hj
 rw [←e] at this
 simp only [Inst.stopB,inB,Bool.and_eq_true,decide_eq_true_eq] at this
 obtain ⟨⟨⟨⟨⟨⟨a1,a2⟩,⟨a3,a4⟩⟩,⟨a5,a6⟩,⟨a7,a8⟩⟩,a9⟩,⟨a10,a11⟩⟩,_⟩:=this
 refine ⟨⟨a5,a6⟩,⟨a7,a8⟩,⟨a10,a11⟩,a9,?_⟩
 obtain ⟨k,rfl⟩:∃k:Nat,j=k:=⟨j.toNat,by omega⟩
 by_cases e1:k=0
 ·subst e1
  have:=h.yard
  rw [show ((0:Nat):Int)=0 from rfl,this];omega
 by_cases e2:k≤p
 ·have:=h.take (k:=k) (by omega) e2
  omega
 ·have:=h.take (k:=k-p) (by omega) (by omega)
  have e:=h.bring (k:=k-p) (by omega) (by omega)
  rw [show k-p+p=k by omega] at e
  omega
theorem hmay_pure (x:Inst) (s:State) (h:x.may=true):Pure P 201 [.agg (hereC x s)] (.b (s.mayB x)):=by
 obtain ⟨p,hx⟩:=x.fit h
 have hf:=hx.few
 refine pure_of Tryz.func201 rfl rfl (by simp [Tryz.f201]) (by simp [bnd,bnd.bndL,hereC]) (by simp [bnd]) fun B hB hnx=>?_
 simp only [Tryz.f201] at hB ⊢
 have w1:=w64 (2*x.pairs) (by rw [hx.pairs];omega)
 generalize hR:s.mayB x=R
 rw [State.mayB] at hR
 refine K_run hB 100 ?_
 simp [go_sem,hereC]
 refine atVal_decT (fun h1=>?_) (fun h1=>by simp [go_sem,h1,w1,←hR])
 simp [go_sem,h1,w1]
 refine atVal_decT (fun h2=>?_) (fun h2=>by simp [go_sem,h2,w1,←hR])
 simp [go_sem,h2,w1]
 refine atVal_decT (fun h3=>?_) (fun h3=>by simp [go_sem,h3,w1,←hR])
 simp [go_sem,h3,w1]
 refine atVal_decT (fun h4=>?_) (fun h4=>by simp [go_sem,h4,w1,←hR])
 simp [go_sem,h4,w1]
 refine atVal_decT (fun h5=>?_) (fun h5=>by simp [go_sem,h5,w1,←hR])
 simp [go_sem,h5,w1]
 refine atVal_decT (fun h6=>?_) (fun h6=>by simp [go_sem,h6,w1,←hR])
 simp [go_sem,h6,w1]
 refine atVal_decT (fun h7=>?_) (fun h7=>by simp [go_sem,h7,w1,←hR])
 simp [go_sem,h7,w1]
 simp [←hR,h1,h2,h3,h4,h5,h6,h7]
theorem Inst.Fit.ltN {x:Inst} {p:Nat} (h:x.Fit p) {j:Int} (h1:j≤2*p):j.toNat<x.stops.length:=by
 have hl:=h.len
 omega
theorem Inst.Fit.get {x:Inst} {p:Nat} (h:x.Fit p) {j:Int} (h1:j≤2*p):x.stops[j.toNat]'(h.ltN h1)=x.stop j:=by
 rw [Inst.stop,List.getD_eq_getElem?_getD,List.getElem?_eq_getElem (h.ltN h1)];rfl
theorem Inst.Fit.get0 {x:Inst} {p:Nat} (h:x.Fit p):x.stops[0]'(by rw [h.len];omega)=x.stop 0:=h.get (j:=0) (by omega)
theorem Inst.Fit.lt {x:Inst} {p:Nat} (h:x.Fit p) {j:Int} (h1:j≤2*p):j<(x.stops.length:Int):=by
 have hl:=h.len
 omega
theorem hfar_pure (x:Inst) (s:State) (j:Int) {p:Nat} (hx:x.Fit p) (h0:0≤s.spot) (h1:s.spot≤2*p) (h2:0≤j) (h3:j≤2*p):Pure P 203 [.agg (hereC x s),.i j] (.i (far (x.stop s.spot) (x.stop j))):=by
 refine pure_of Tryz.func203 rfl rfl (by simp [Tryz.f203]) (by simp [bnd,bnd.bndL,hereC]) (by simp [bnd]) fun B hB hnx=>?_
 simp only [Tryz.f203] at hB ⊢
 have g1:=hx.lt h1
 have g2:=hx.lt h3
 have g3:=hx.get h1
 have g4:=hx.get h3
 generalize x.stop s.spot=a at *
 generalize x.stop j=b at *
 refine K_run hB 60 ?_
 simp [go_sem]
 refine K_drawn [] rfl (by rw [hB];kernel_rfl) ?_
 refine K_run hB 60 ?_
 simp [go_sem,hereC,h0,g1,h2,g2,g3,g4,Stop.t]
 refine K_dCallP rfl rfl rfl (args:=[.agg (a.t.map .t),.agg (b.t.map .t)]) (f:=237) (by simp [go_sem,Stop.t]) (far_pure a b) ?_
 refine K_run hB 60 ?_
 simp [go_sem]
def Inst.allB (x:Inst) (t:Nat):Bool:=withinB (uptoN (2*x.pairs)) t
theorem hall_pure (x:Inst) (s:State) (t:Nat) {p:Nat} (hx:x.Fit p):Pure P 202 [.agg (hereC x s),.u t] (.b (x.allB t)):=by
 refine pure_of Tryz.func202 rfl rfl (by simp [Tryz.f202]) (by simp [bnd,bnd.bndL,hereC]) (by simp [bnd]) fun B hB hnx=>?_
 simp only [Tryz.f202] at hB ⊢
 have hf:=hx.few
 have w1:=w64 (2*x.pairs) (by rw [hx.pairs];omega)
 refine K_run hB 60 ?_
 simp [go_sem,hereC,w1]
 refine K_call rfl rfl rfl (args:=[.i (2*x.pairs)]) (f:=236) (by simp [go_sem]) (by simp [go_sem,hB]) ((upto_pure _).spec _ _) ?_
 refine K_run hB 60 ?_
 simp [go_sem]
 refine K_call rfl rfl rfl (args:=[.u (uptoN (2*x.pairs)),.u t]) (f:=235) (by simp [go_sem]) (by simp [go_sem,hB]) ((within_pure _ _).spec _ _) ?_
 refine K_run hB 60 ?_
 simp [go_sem,Inst.allB]
theorem root_pureS (x:Inst) (hl:x.stops.length<2^63):Pure P 47 [x.a] x.rootS.a:=by
 generalize hR:x.rootS=R
 refine pure_of Tryz.func47 rfl rfl (by simp [Tryz.f47]) (by simp [bnd,bnd.bndL,Inst.a]) (by simp [bnd,bnd.bndL,State.a,State.cs]) fun B hB hnx=>?_
 simp only [Tryz.f47] at hB ⊢
 rw [Inst.rootS] at hR
 refine K_run hB 60 ?_
 simp [go_sem,Inst.a]
 refine K_call rfl rfl rfl (args:=[x.a]) (f:=44) (by simp [go_sem,Inst.a]) (by simp [go_sem,hB]) ((may_pure x hl).spec _ _) ?_
 cases hm:x.may with
 |false=>
  rw [hm,if_neg (by simp)] at hR
  subst hR
  refine K_run hB 60 ?_
  simp [go_sem,State.a,State.cs,State.zero]
 |true=>
  obtain ⟨p,hx⟩:=x.fit hm
  have hl:=hx.len
  rw [hm,if_pos rfl] at hR
  subst hR
  have g1:=hx.lt (j:=0) (by omega)
  have g2:=hx.get0
  generalize x.stop 0=a at *
  have g3:(0:Int)<x.stops.length:=g1
  have g4:0<x.stops.length:=by omega
  refine K_run hB 60 ?_
  simp [go_sem,State.a,State.cs,State.zero,g2,g3,g4,Stop.t]
theorem state_stood:P.stoodInHeld 91=false:=by kernel_rfl
theorem state_guard:P.eqGuardType P.depth 91=false:=by kernel_rfl
theorem state_eq (a b:State):eqA P 10000 91 a.a b.a=some (decide (a=b)):=by
 simp [go_sem,State.a,State.cs,state_stood]
 cases a;cases b
 rw [Bool.eq_iff_iff]
 simp only [Bool.and_eq_true,decide_eq_true_eq,State.mk.injEq]
end Go.Proofs.YtnoifgjiipgpoaaGreatDoor

set_option maxRecDepth 4000
namespace Go.Proofs.YtnoifgjiipgpoaaGreatDoor
open Go Go.Proofs.YtnoifgjiipgpoaaGreatDoor.R
def Inst.begins (x:Inst) (s:State) (j:Int):Int:=max (s.time+far (x.stop s.spot) (x.stop j)) (x.stop j).ready
def Inst.lateB (x:Inst) (s:State) (j:Int):Bool:=hasB s.must j||decide (x.begins s j>(x.stop j).due)
def Inst.seen (x:Inst) (s:State) (j:Int):State:=
 {spot:=j,car:=s.car,time:=x.begins s j+(x.stop j).service,load:=max (s.load+(x.stop j).demand) 0,first:=if s.spot=0 then j else s.first,must:=withN s.must j,can:=withN s.can j,on:=s.on}
def Inst.visit (x:Inst) (s:State) (j:Int):State×Bool:=if x.lateB s j=true then (s,false) else (x.seen s j,true)
structure State.Fit (x:Inst) (s:State) (p:Nat):Prop where
 spot:0≤s.spot∧s.spot≤2*p
 car:1≤s.car∧s.car≤x.cars
 time:0≤s.time∧s.time≤1073741824
 load:0≤s.load∧s.load≤1000
theorem State.fit {x:Inst} {s:State} {p:Nat} (hx:x.Fit p) (h:s.mayB x=true):s.Fit x p:=by
 simp only [State.mayB,Bool.and_eq_true,decide_eq_true_eq,hx.pairs] at h
 obtain ⟨⟨⟨⟨⟨⟨⟨h1,h2⟩,h3⟩,h4⟩,h5⟩,h6⟩,h7⟩,h8⟩:=h
 exact ⟨⟨h1,h2⟩,⟨h3,h4⟩,⟨h5,h6⟩,⟨h7,h8⟩⟩
theorem far_in' (a b:Stop):0≤far a b∧far a b<1152921504606846976:=by
 have h:=sq_in a b
 unfold far rootI
 split
 ·omega
 ·have:=rootL_lt (min (sq a b) 1152921504606846976).toNat 31 0
  omega
theorem visit_pure (x:Inst) (s:State) (j:Int) {p:Nat} (hx:x.Fit p) (hs:s.Fit x p) (ho:s.ok) (h2:0≤j) (h3:j≤2*p):Pure P 289 [.agg (hereC x s),.i j] (.tup [(x.visit s j).1.a,.b (x.visit s j).2]):=by
 generalize hR:x.visit s j=R
 refine pure_of Tryz.func289 rfl rfl (by simp [Tryz.f289]) (by simp [bnd,bnd.bndL,hereC]) (by simp [bnd,bnd.bndL,State.a,State.cs]) fun B hB hnx=>?_
 simp only [Tryz.f289] at hB ⊢
 have g2:=hx.lt h3
 have g4:=hx.get h3
 have hfar:=hfar_pure x s j hx hs.spot.1 hs.spot.2 h2 h3
 have hf:=hx.at h2 h3
 have hfi:=far_in' (x.stop s.spot) (x.stop j)
 rw [Inst.visit,Inst.lateB,Inst.seen,Inst.begins] at hR
 generalize far (x.stop s.spot) (x.stop j)=d at *
 generalize x.stop j=a at *
 have w1:=w64 (s.time+d) (by have:=hs.time;omega)
 refine K_run hB 60 ?_
 simp [go_sem]
 refine K_drawnP [8,9,10,11] [0,1,2,3,4,5,6,7,8,9] 8 9 (by decide) rfl (by rw [hB];kernel_rfl) (by kernel_rfl) fun ht hf'=>?_
 refine K_run hB 60 ?_
 simp [go_sem,ht,hf',hereC,h2,g2,g4,Stop.t]
 refine K_dPair (by kernel_rfl) ?_ ?_
 all_goals
  refine K_run hB 60 ?_
  simp [go_sem,ht,hf',hereC,h2,g2,g4,Stop.t,State.cs]
  refine K_drawn [] rfl (by rw [hB];kernel_rfl) ?_
  refine K_run hB 60 ?_
  simp [go_sem]
  refine K_dCallP rfl rfl rfl (args:=[.agg (hereC x s),.i j]) (f:=203) (by simp [go_sem,hereC]) hfar ?_
  refine K_run hB 60 ?_
  simp [go_sem,w1]
  refine K_call rfl rfl rfl (args:=[.u s.must,.i j]) (f:=223) (by simp [go_sem]) (by simp [go_sem,hB]) ((has_pure s.must j ho.must).spec _ _) ?_
  generalize hM:max (s.time+d) a.ready=M at *
  by_cases c1:hasB s.must j=true∨a.due<M
  ·have:R=(s,false):=by
    rw [←hR,if_pos]
    rcases c1 with c1 | c1<;>simp [c1]
   subst this
   cases c2:hasB s.must j with
   |true=>
    refine K_run hB 60 ?_
    simp [go_sem,State.a,State.cs]
   |false=>
    have c3:a.due<M:=c1.resolve_left (by simp [c2])
    refine K_run hB 60 ?_
    simp [go_sem,State.a,State.cs,hM,c3]
  have c2:hasB s.must j=false:=by simpa using fun h=>c1 (.inl h)
  have c3:¬a.due<M:=fun h=>c1 (.inr h)
  rw [if_neg (by simp [c2,c3])] at hR
  have w2:=w64 (M+a.service) (by have:=hf.service;have:=hf.due;have:=hs.time;omega)
  have w3:=w64 (s.load+a.demand) (by have:=hf.demand;have:=hs.load;omega)
  rw [c2]
  by_cases c4:s.spot=0
  all_goals
   refine K_run hB 60 ?_
   simp [go_sem,State.a,State.cs,hM,c3,c4]
   refine K_drawnF [12,14,16] [1,2,3,4,7,8,9,10] rfl (by rw [hB];kernel_rfl) (by kernel_rfl) fun ht hf'=>?_
   refine K_run hB 60 ?_
   simp [go_sem,ht,hf',w2,w3]
   refine K_drawnT [9,11] rfl (by rw [hB];kernel_rfl) (by kernel_rfl) fun ht=>?_
   refine K_run hB 60 ?_
   simp [go_sem,ht]
   refine K_dCallP rfl rfl rfl (args:=[.u s.must,.i j]) (f:=268) (by simp [go_sem]) (with_pure s.must j ho.must) ?_
   refine K_run hB 60 ?_
   simp [go_sem,ht]
   refine K_dCallP rfl rfl rfl (args:=[.u s.can,.i j]) (f:=268) (by simp [go_sem]) (with_pure s.can j ho.can) ?_
   refine K_run hB 60 ?_
   simp [go_sem,ht,←hR,c4]
def Inst.stayB (x:Inst) (s:State):Bool:=decide (s.spot=0)||decide (s.on≠0)||decide (s.car≥x.cars)||x.allB s.must||decide (s.time+far (x.stop s.spot) (x.stop 0)>(x.stop 0).due)
def Inst.homeS (x:Inst) (s:State):State:={s with spot:=0,car:=s.car+1,time:=(x.stop 0).ready,load:=0}
def Inst.home (x:Inst) (s:State):State×Bool:=if x.stayB s=true then (s,false) else (x.homeS s,true)
theorem home_pure (x:Inst) (s:State) (j:Int) {p:Nat} (hx:x.Fit p) (hs:s.Fit x p) (ho:s.ok):Pure P 264 [.agg (hereC x s),.i j] (.tup [(x.home s).1.a,.b (x.home s).2]):=by
 generalize hR:x.home s=R
 refine pure_of Tryz.func264 rfl rfl (by simp [Tryz.f264]) (by simp [bnd,bnd.bndL,hereC]) (by simp [bnd,bnd.bndL,State.a,State.cs]) fun B hB hnx=>?_
 simp only [Tryz.f264] at hB ⊢
 have g2:(0:Int)<x.stops.length:=hx.lt (j:=0) (by omega)
 have g3:0<x.stops.length:=by omega
 have g4:=hx.get0
 have hfar:=hfar_pure x s 0 hx hs.spot.1 hs.spot.2 (by omega) (by omega)
 have hf:=hx.at (j:=0) (by omega) (by omega)
 have hfi:=far_in' (x.stop s.spot) (x.stop 0)
 rw [Inst.home,Inst.stayB,Inst.homeS] at hR
 generalize far (x.stop s.spot) (x.stop 0)=d at *
 generalize x.stop 0=a at *
 have w1:=w64 (s.time+d) (by have:=hs.time;omega)
 have w2:=w64 (s.car+1) (by have:=hs.car;have:=hx.cars;omega)
 refine K_run hB 60 ?_
 simp [go_sem,hereC]
 refine K_drawn [] rfl (by rw [hB];kernel_rfl) ?_
 by_cases c1:s.spot=0
 ·have:R=(s,false):=by rw [←hR,if_pos (by simp [c1])]
  subst this
  refine K_run hB 100 ?_
  simp [go_sem,c1,State.a,State.cs]
 by_cases c2:s.on=0
 rotate_left
 ·have:R=(s,false):=by rw [←hR,if_pos (by simp [c2])]
  subst this
  refine K_run hB 100 ?_
  simp [go_sem,c1,c2,State.a,State.cs]
 by_cases c3:x.cars≤s.car
 ·have:R=(s,false):=by rw [←hR,if_pos (by simp [c3])]
  subst this
  refine K_run hB 100 ?_
  simp [go_sem,c1,c2,c3,State.a,State.cs]
 refine K_run hB 100 ?_
 simp [go_sem,c1,c2,c3]
 refine K_dCallP rfl rfl rfl (args:=[.agg (hereC x s),.u s.must]) (f:=202) (by simp [go_sem,hereC,c2]) (hall_pure x s s.must hx) ?_
 cases c4:x.allB s.must with
 |true=>
  have:R=(s,false):=by rw [←hR,if_pos (by simp [c4])]
  subst this
  refine K_run hB 100 ?_
  simp [go_sem,c1,c2,c3,State.a,State.cs]
 |false=>
  refine K_run hB 100 ?_
  simp [go_sem,c1,c2,c3]
  refine K_dCallP rfl rfl rfl (args:=[.agg (hereC x s),.i 0]) (f:=203) (by simp [go_sem,hereC,c2]) hfar ?_
  by_cases c5:a.due<s.time+d
  ·have:R=(s,false):=by rw [←hR,if_pos (by simp [c5])]
   subst this
   refine K_run hB 100 ?_
   simp [go_sem,c1,c2,c3,c5,w1,g2,g3,g4,Stop.t,State.a,State.cs]
  ·rw [if_neg (by simp [c1,c2,c3,c4,c5])] at hR
   refine K_run hB 100 ?_
   simp [go_sem,c1,c2,c3,c5,w1,g2,g3,g4,Stop.t]
   refine K_drawnF [10,12,14,16] [2,3,4,5,6,7,8] rfl (by rw [hB];kernel_rfl) (by kernel_rfl) fun ht hf'=>?_
   refine K_run hB 100 ?_
   simp [go_sem,ht,hf',w2,g2,g3,g4,Stop.t,←hR,State.a,State.cs,c2]
theorem visit_on (x:Inst) (s:State) (j:Int):(x.visit s j).1.on=s.on:=by
 unfold Inst.visit
 split<;>rfl
def Inst.fullB (x:Inst) (s:State) (j:Int):Bool:=decide (s.load+(x.stop j).demand>x.room)||(decide (s.spot=0)&&decide (j≤s.first))
def Inst.take (x:Inst) (s:State) (j:Int):State×Bool:=if x.fullB s j=true then (s,false) else if (x.visit s j).2=true then ({(x.visit s j).1 with on:=withN s.on j},true) else (x.visit s j)
theorem take_pure (x:Inst) (s:State) (j:Int) {p:Nat} (hx:x.Fit p) (hs:s.Fit x p) (ho:s.ok) (h2:0≤j) (h3:j≤2*p):Pure P 265 [.agg (hereC x s),.i j] (.tup [(x.take s j).1.a,.b (x.take s j).2]):=by
 generalize hR:x.take s j=R
 refine pure_of Tryz.func265 rfl rfl (by simp [Tryz.f265]) (by simp [bnd,bnd.bndL,hereC]) (by simp [bnd,bnd.bndL,State.a,State.cs]) fun B hB hnx=>?_
 simp only [Tryz.f265] at hB ⊢
 have g2:=hx.lt h3
 have g4:=hx.get h3
 have hf:=hx.at h2 h3
 have hv:=visit_pure x s j hx hs ho h2 h3
 have hon:=visit_on x s j
 rw [Inst.take,Inst.fullB] at hR
 generalize x.visit s j=V at *
 generalize x.stop j=a at *
 obtain ⟨t,is⟩:=V
 simp only at hon hR hv
 have w3:=w64 (s.load+a.demand) (by have:=hf.demand;have:=hs.load;omega)
 refine K_run hB 60 ?_
 simp [go_sem,hereC]
 refine K_drawn [] rfl (by rw [hB];kernel_rfl) ?_
 by_cases c1:x.room<s.load+a.demand
 ·have:R=(s,false):=by rw [←hR,if_pos (by simp [c1])]
  subst this
  refine K_run hB 100 ?_
  simp [go_sem,c1,h2,g2,g4,w3,Stop.t,State.a,State.cs]
 by_cases c2:s.spot=0∧j≤s.first
 ·have:R=(s,false):=by rw [←hR,if_pos (by simp [c2])]
  subst this
  refine K_run hB 100 ?_
  simp [go_sem,c1,c2,h2,g2,g4,w3,Stop.t,State.a,State.cs]
 rw [if_neg (by simp;exact ⟨by omega,by omega⟩)] at hR
 have key:∀{A:Prop},(s.spot=0→¬j≤s.first→A)→(¬s.spot=0→A)→A:=fun {A} h1 h2=>by
  by_cases c3:s.spot=0
  ·exact h1 c3 (fun h=>c2 ⟨c3,h⟩)
  ·exact h2 c3
 refine key (fun c3 c4=>?_) (fun c3=>?_)
 ·refine K_run hB 100 ?_
  simp [go_sem,c1,c3,c4,h2,g2,g4,w3,Stop.t]
  refine K_call rfl rfl rfl (args:=[.agg (hereC x s),.i j]) (f:=289) (by simp [go_sem,hereC,c3]) (by simp [go_sem,hB]) (hv.spec _ _) ?_
  cases is with
  |false=>
   rw [if_neg (by simp)] at hR
   subst hR
   refine K_run hB 100 ?_
   simp [go_sem,State.a,State.cs]
  |true=>
   rw [if_pos rfl] at hR
   subst hR
   refine K_run hB 100 ?_
   simp [go_sem,State.a,State.cs]
   refine K_call rfl rfl rfl (args:=[.u t.on,.i j]) (f:=268) (by simp [go_sem]) (by simp [go_sem,hB]) ((with_pure t.on j (by rw [hon];exact ho.on)).spec _ _) ?_
   refine K_run hB 100 ?_
   simp [go_sem,State.a,State.cs,hon]
 ·refine K_run hB 100 ?_
  simp [go_sem,c1,c3,h2,g2,g4,w3,Stop.t]
  refine K_call rfl rfl rfl (args:=[.agg (hereC x s),.i j]) (f:=289) (by simp [go_sem,hereC]) (by simp [go_sem,hB]) (hv.spec _ _) ?_
  cases is with
  |false=>
   rw [if_neg (by simp)] at hR
   subst hR
   refine K_run hB 100 ?_
   simp [go_sem,State.a,State.cs]
  |true=>
   rw [if_pos rfl] at hR
   subst hR
   refine K_run hB 100 ?_
   simp [go_sem,State.a,State.cs]
   refine K_call rfl rfl rfl (args:=[.u t.on,.i j]) (f:=268) (by simp [go_sem]) (by simp [go_sem,hB]) ((with_pure t.on j (by rw [hon];exact ho.on)).spec _ _) ?_
   refine K_run hB 100 ?_
   simp [go_sem,State.a,State.cs,hon]
def Inst.emptyB (x:Inst) (s:State) (j:Int):Bool:=decide (s.spot=0)|| !hasB s.can (j-x.pairs)
def Inst.bring (x:Inst) (s:State) (j:Int):State×Bool:=if x.emptyB s j=true then (s,false) else if (x.visit s j).2=true then ({(x.visit s j).1 with on:=withoutN s.on (j-x.pairs)},true) else (x.visit s j)
theorem bring_pure (x:Inst) (s:State) (j:Int) {p:Nat} (hx:x.Fit p) (hs:s.Fit x p) (ho:s.ok) (h2:0≤j) (h3:j≤2*p):Pure P 263 [.agg (hereC x s),.i j] (.tup [(x.bring s j).1.a,.b (x.bring s j).2]):=by
 generalize hR:x.bring s j=R
 refine pure_of Tryz.func263 rfl rfl (by simp [Tryz.f263]) (by simp [bnd,bnd.bndL,hereC]) (by simp [bnd,bnd.bndL,State.a,State.cs]) fun B hB hnx=>?_
 simp only [Tryz.f263] at hB ⊢
 have hv:=visit_pure x s j hx hs ho h2 h3
 have hon:=visit_on x s j
 rw [Inst.bring,Inst.emptyB] at hR
 generalize x.visit s j=V at *
 obtain ⟨t,is⟩:=V
 simp only at hon hR hv
 have hp:=hx.pairs
 have hfew:=hx.few
 have w3:=w64 (j-x.pairs) (by omega)
 by_cases c1:s.spot=0
 ·have:R=(s,false):=by rw [←hR,if_pos (by simp [c1])]
  subst this
  refine K_run hB 100 ?_
  simp [go_sem,hereC,c1,State.a,State.cs]
 refine K_run hB 60 ?_
 simp [go_sem,hereC,c1,w3]
 refine K_call rfl rfl rfl (args:=[.u s.can,.i (j-x.pairs)]) (f:=223) (by simp [go_sem]) (by simp [go_sem,hB]) ((has_pure s.can (j-x.pairs) ho.can).spec _ _) ?_
 cases c2:hasB s.can (j-x.pairs) with
 |false=>
  have:R=(s,false):=by rw [←hR,if_pos (by simp [c2])]
  subst this
  refine K_run hB 100 ?_
  simp [go_sem,State.a,State.cs]
 |true=>
  rw [if_neg (by simp [c1,c2])] at hR
  refine K_run hB 100 ?_
  simp [go_sem]
  refine K_call rfl rfl rfl (args:=[.agg (hereC x s),.i j]) (f:=289) (by simp [go_sem,hereC]) (by simp [go_sem,hB]) (hv.spec _ _) ?_
  cases is with
  |false=>
   rw [if_neg (by simp)] at hR
   subst hR
   refine K_run hB 100 ?_
   simp [go_sem,State.a,State.cs]
  |true=>
   rw [if_pos rfl] at hR
   subst hR
   refine K_run hB 100 ?_
   simp [go_sem,State.a,State.cs,w3]
   refine K_call rfl rfl rfl (args:=[.u t.on,.i (j-x.pairs)]) (f:=269) (by simp [go_sem]) (by simp [go_sem,hB]) ((without_pure t.on (j-x.pairs)).spec _ _) ?_
   refine K_run hB 100 ?_
   simp [go_sem,State.a,State.cs,hon]
end Go.Proofs.YtnoifgjiipgpoaaGreatDoor

set_option maxRecDepth 4000
namespace Go.Proofs.YtnoifgjiipgpoaaGreatDoor
open Go Go.Proofs.YtnoifgjiipgpoaaGreatDoor.R
def Inst.to (x:Inst) (s:State) (j:Int):State×Bool:=if j=0 then x.home s else if j≤x.pairs then x.take s j else x.bring s j
def Inst.step (x:Inst) (s:State) (j:Int):State×Int×Bool:=
 if j<0∨2*x.pairs<j then (s,0,false) else if (x.to s j).2=true then ((x.to s j).1,far (x.stop s.spot) (x.stop j),true) else (s,0,false)
def mv (r:State×Int×Bool):AV:=.tup [r.1.a,.i r.2.1,.b r.2.2]
theorem bnd_mv (r:State×Int×Bool):bnd 0 (mv r)=true:=by simp [bnd,bnd.bndL,mv,State.a,State.cs]
theorem step_pure (x:Inst) (s:State) (j:Int) {p:Nat} (hx:x.Fit p) (hs:s.Fit x p) (ho:s.ok):Pure P 238 [.agg (hereC x s),.i j] (mv (x.step s j)):=by
 generalize hR:x.step s j=R
 refine pure_of Tryz.func238 rfl rfl (by simp [Tryz.f238]) (by simp [bnd,bnd.bndL,hereC]) (bnd_mv R) fun B hB hnx=>?_
 simp only [Tryz.f238] at hB ⊢
 have hp:=hx.pairs
 have hfew:=hx.few
 have w1:=w64 (2*x.pairs) (by omega)
 rw [Inst.step] at hR
 by_cases c1:j<0
 ·rw [if_pos (.inl c1)] at hR
  subst hR
  refine K_run hB 100 ?_
  simp [go_sem,hereC,c1,mv,State.a,State.cs]
 by_cases c2:2*x.pairs<j
 ·rw [if_pos (.inr c2)] at hR
  subst hR
  refine K_run hB 100 ?_
  simp [go_sem,hereC,c1,c2,w1,mv,State.a,State.cs]
 rw [if_neg (by omega)] at hR
 have h2:0≤j:=by omega
 have h3:j≤2*p:=by omega
 have hfar:=hfar_pure x s j hx hs.spot.1 hs.spot.2 h2 h3
 generalize far (x.stop s.spot) (x.stop j)=d at *
 by_cases c3:j=0
 ·have hv:=home_pure x s j hx hs ho
  have e:x.to s j=x.home s:=by simp [Inst.to,c3]
  rw [e] at hR
  generalize x.home s=V at *
  obtain ⟨t,is⟩:=V
  subst c3
  refine K_run hB 100 ?_
  simp [go_sem,hereC,c2,w1]
  refine K_call rfl rfl rfl (args:=[.agg (hereC x s),.i 0]) (f:=264) (by simp [go_sem,hereC]) (by simp [go_sem,hB]) (hv.spec _ _) ?_
  cases is with
  |false=>
   rw [if_neg (by simp)] at hR
   subst hR
   refine K_run hB 100 ?_
   simp [go_sem,mv,State.a,State.cs]
  |true=>
   rw [if_pos rfl] at hR
   subst hR
   refine K_run hB 100 ?_
   simp [go_sem,State.a,State.cs]
   refine K_drawnT [4] rfl (by rw [hB];kernel_rfl) (by kernel_rfl) fun ht=>?_
   refine K_run hB 100 ?_
   simp [go_sem,ht]
   refine K_dCallP rfl rfl rfl (args:=[.agg (hereC x s),.i 0]) (f:=203) (by simp [go_sem,hereC]) hfar ?_
   refine K_run hB 100 ?_
   simp [go_sem,ht,mv,State.a,State.cs]
 by_cases c4:j≤x.pairs
 ·have hv:=take_pure x s j hx hs ho h2 h3
  have e:x.to s j=x.take s j:=by simp [Inst.to,c3,c4]
  rw [e] at hR
  generalize x.take s j=V at *
  obtain ⟨t,is⟩:=V
  refine K_run hB 100 ?_
  simp [go_sem,hereC,c1,c2,c3,c4,w1]
  refine K_call rfl rfl rfl (args:=[.agg (hereC x s),.i j]) (f:=265) (by simp [go_sem,hereC]) (by simp [go_sem,hB]) (hv.spec _ _) ?_
  cases is with
  |false=>
   rw [if_neg (by simp)] at hR
   subst hR
   refine K_run hB 100 ?_
   simp [go_sem,mv,State.a,State.cs]
  |true=>
   rw [if_pos rfl] at hR
   subst hR
   refine K_run hB 100 ?_
   simp [go_sem,State.a,State.cs]
   refine K_drawnT [4] rfl (by rw [hB];kernel_rfl) (by kernel_rfl) fun ht=>?_
   refine K_run hB 100 ?_
   simp [go_sem,ht]
   refine K_dCallP rfl rfl rfl (args:=[.agg (hereC x s),.i j]) (f:=203) (by simp [go_sem,hereC]) hfar ?_
   refine K_run hB 100 ?_
   simp [go_sem,ht,mv,State.a,State.cs]
 ·have hv:=bring_pure x s j hx hs ho h2 h3
  have e:x.to s j=x.bring s j:=by simp [Inst.to,c3,c4]
  rw [e] at hR
  generalize x.bring s j=V at *
  obtain ⟨t,is⟩:=V
  refine K_run hB 100 ?_
  simp [go_sem,hereC,c1,c2,c3,c4,w1]
  refine K_call rfl rfl rfl (args:=[.agg (hereC x s),.i j]) (f:=263) (by simp [go_sem,hereC]) (by simp [go_sem,hB]) (hv.spec _ _) ?_
  cases is with
  |false=>
   rw [if_neg (by simp)] at hR
   subst hR
   refine K_run hB 100 ?_
   simp [go_sem,mv,State.a,State.cs]
  |true=>
   rw [if_pos rfl] at hR
   subst hR
   refine K_run hB 100 ?_
   simp [go_sem,State.a,State.cs]
   refine K_drawnT [4] rfl (by rw [hB];kernel_rfl) (by kernel_rfl) fun ht=>?_
   refine K_run hB 100 ?_
   simp [go_sem,ht]
   refine K_dCallP rfl rfl rfl (args:=[.agg (hereC x s),.i j]) (f:=203) (by simp [go_sem,hereC]) hfar ?_
   refine K_run hB 100 ?_
   simp [go_sem,ht,mv,State.a,State.cs]
def Inst.move (x:Inst) (s:State) (j:Int):State×Int×Bool:=if x.may=true∧s.mayB x=true then x.step s j else (s,0,false)
theorem move_pure (x:Inst) (s:State) (j:Int) (hl:x.stops.length<2^63) (ho:s.ok):Pure P 205 [x.a,s.a,.i j] (mv (x.move s j)):=by
 generalize hR:x.move s j=R
 refine pure_of Tryz.func205 rfl rfl (by simp [Tryz.f205]) (by simp [bnd,bnd.bndL,Inst.a,State.a,State.cs]) (bnd_mv R) fun B hB hnx=>?_
 simp only [Tryz.f205] at hB ⊢
 rw [Inst.move] at hR
 refine K_run hB 100 ?_
 simp [go_sem,Inst.a,State.a,State.cs]
 refine K_call rfl rfl rfl (args:=[x.a]) (f:=44) (by simp [go_sem,Inst.a]) (by simp [go_sem,hB]) ((may_pure x hl).spec _ _) ?_
 cases hm:x.may with
 |false=>
  rw [if_neg (by simp [hm])] at hR
  subst hR
  refine K_run hB 100 ?_
  simp [go_sem,mv,State.a,State.cs]
 |true=>
  obtain ⟨p,hx⟩:=x.fit hm
  refine K_run hB 100 ?_
  simp [go_sem]
  refine K_call rfl rfl rfl (args:=[.agg (hereC x s)]) (f:=201) (by simp [go_sem,hereC]) (by simp [go_sem,hB]) ((hmay_pure x s hm).spec _ _) ?_
  cases hs:s.mayB x with
  |false=>
   rw [if_neg (by simp [hs])] at hR
   subst hR
   refine K_run hB 100 ?_
   simp [go_sem,mv,State.a,State.cs]
  |true=>
   rw [if_pos ⟨hm,hs⟩] at hR
   have hst:=step_pure x s j hx (s.fit hx hs) ho
   rw [hR] at hst
   refine K_run hB 100 ?_
   simp [go_sem]
   refine K_call rfl rfl rfl (args:=[.agg (hereC x s),.i j]) (f:=238) (by simp [go_sem,hereC]) (by simp [go_sem,hB]) (hst.spec _ _) ?_
   refine K_run hB 100 ?_
   simp [go_sem,mv,State.a,State.cs]
end Go.Proofs.YtnoifgjiipgpoaaGreatDoor

set_option maxRecDepth 4000
namespace Go.Proofs.YtnoifgjiipgpoaaGreatDoor
open Go Go.Proofs.YtnoifgjiipgpoaaGreatDoor.R
def canB (f:Nat→Bool):Nat→List Int
 |0=>[]
 |k+1=>canB f k++(if f k=true then [(k:Int)] else [])
theorem canB_len (f:Nat→Bool):∀k,(canB f k).length≤k
 |0=>Nat.le_refl _
 |k+1=>by
  have:=canB_len f k
  rw [canB,List.length_append]
  split<;>simp only [List.length_cons,List.length_nil]<;>omega
def Inst.moves (x:Inst) (s:State):List Int:=if x.may=true∧s.mayB x=true then canB (fun k=>(x.step s k).2.2) x.stops.length else []
theorem moves_pure (x:Inst) (s:State) (hl:x.stops.length<2^63) (ho:s.ok):Pure P 204 [x.a,s.a] (.t (.sl (ints (x.moves s)))):=by
 generalize hR:x.moves s=R
 refine pure_of Tryz.func204 rfl rfl (by simp [Tryz.f204]) (by simp [bnd,bnd.bndL,Inst.a,State.a,State.cs]) (by simp [bnd]) fun B hB hnx=>?_
 simp only [Tryz.f204] at hB ⊢
 rw [Inst.moves] at hR
 refine K_run hB 100 ?_
 simp [go_sem,Inst.a,State.a,State.cs]
 refine K_call rfl rfl rfl (args:=[x.a]) (f:=44) (by simp [go_sem,Inst.a]) (by simp [go_sem,hB]) ((may_pure x hl).spec _ _) ?_
 cases hm:x.may with
 |false=>
  rw [if_neg (by simp [hm])] at hR
  subst hR
  refine K_run hB 100 ?_
  simp [go_sem,ints]
 |true=>
  obtain ⟨p,hx⟩:=x.fit hm
  refine K_run hB 100 ?_
  simp [go_sem]
  refine K_call rfl rfl rfl (args:=[.agg (hereC x s)]) (f:=201) (by simp [go_sem,hereC]) (by simp [go_sem,hB]) ((hmay_pure x s hm).spec _ _) ?_
  cases hs:s.mayB x with
  |false=>
   rw [if_neg (by simp [hs])] at hR
   subst hR
   refine K_run hB 100 ?_
   simp [go_sem,ints]
  |true=>
   rw [if_pos ⟨hm,hs⟩] at hR
   have hst:=fun j=>step_pure x s j hx (s.fit hx hs) ho
   have hlen:=hx.len
   have hfew:=hx.few
   have hmost:mostLen=4294967296:=rfl
   refine K_run hB 100 ?_
   simp [go_sem]
   refine K_own 6 1 (by simp [go_sem]) ?_
   refine K_loopP (α:=Nat×Nat×(Nat→AObj)×Nat) (fun (k,j,σ,nx)=>k≤x.stops.length∧σ 2= .box (hereC x s)∧σ j= .arr 1 (ints (canB (fun k=>(x.step s k).2.2) k))∧2<j∧j<nx)
    (fun (k,j,σ,nx)=>⟨sl [(5,.ptr 2 0),(6,.ref j),(24,.i x.stops.length),(25,.i k)],σ,nx⟩) (fun a=>x.stops.length-a.1) (0,3,_,4) ?_ (Imp.slots (by simp [go_sem]) rfl rfl) ?_
   ·exact ⟨Nat.zero_le _,by simp [oput,hereC],by simp [oput,canB,ints],by omega,by omega⟩
   rintro ⟨k,j,σ,nx⟩ ⟨g1,g2,g3,g5,g6⟩
   refine K_run hB 60 ?_
   simp [go_sem]
   refine fork_dec (fun hk=>?_) (fun hk=>?_)
   ·have hkk:IntKind.i64.wrap ((k:Int)+1)=((k+1:Nat):Int):=by rw [w64 ((k:Int)+1) (by omega)];rfl
    have hn:canB (fun k=>(x.step s k).2.2) (k+1)=canB (fun k=>(x.step s k).2.2) k++(if (x.step s k).2.2=true then [(k:Int)] else []):=rfl
    have hcl:=canB_len (fun k=>(x.step s k).2.2) k
    have h1:=hst k
    generalize canB (fun k=>(x.step s k).2.2) k=L at g3 hn hcl
    generalize x.step s k=V at hn h1
    obtain ⟨t,c,is⟩:=V
    simp only at hn
    simp [go_sem,g2,hereC]
    refine K_call rfl rfl rfl (args:=[.agg (hereC x s),.i k]) (f:=238) (by simp [go_sem,hereC]) (by simp [go_sem,hB]) (h1.spec _ _) ?_
    cases is with
    |false=>
     refine K_run hB 60 ?_
     simp [go_sem,mv,State.a,State.cs,hkk]
     refine Next.mk (k+1,j,_,nx+1) ?_ (Imp.slots (by simp [go_sem]) rfl rfl) (by simp only;omega)
     refine ⟨by simp only;omega,?_,?_,by simp only;omega,by simp only;omega⟩
     ·simp [oput,show ¬2=nx by omega,g2,hereC]
     ·simp only [hn]
      simp [oput,show ¬j=nx by omega,g3]
    |true=>
     have hlen':(ints L).length=L.length:=List.length_map _
     have hcap:L.length+1≤mostLen:=by omega
     refine K_run hB 60 ?_
     simp [go_sem,mv,State.a,State.cs,hkk,g3,hlen',hcap,show ¬j=nx by omega]
     refine Next.mk (k+1,nx+1,_,nx+2) ?_ (Imp.slots (by simp [go_sem]) rfl rfl) (by simp only;omega)
     refine ⟨by simp only;omega,?_,?_,by simp only;omega,by simp only;omega⟩
     ·simp [oput,show ¬2=nx by omega,show ¬2=nx+1 by omega,show ¬2=j by omega,g2,hereC]
     ·simp only [hn]
      simp [oput,ints]
   ·have:k=x.stops.length:=by omega
    subst this
    rw [hR] at g3
    simp [go_sem,g3]
def Inst.endS (x:Inst) (s:State):Int×Bool:=
 if x.may=false then (0,false)
 else if x.pairs=0∧s=x.rootS then (0,true)
 else if s.mayB x=true∧s.spot≠0∧s.on=0∧x.allB s.can=true∧s.time+far (x.stop s.spot) (x.stop 0)≤(x.stop 0).due then (far (x.stop s.spot) (x.stop 0),true) else (0,false)
theorem end_pure (x:Inst) (s:State) (hl:x.stops.length<2^63) (ho:s.ok):Pure P 158 [x.a,s.a] (.tup [.i (x.endS s).1,.b (x.endS s).2]):=by
 generalize hR:x.endS s=R
 refine pure_of Tryz.func158 rfl rfl (by simp [Tryz.f158]) (by simp [bnd,bnd.bndL,Inst.a,State.a,State.cs]) (by simp [bnd,bnd.bndL]) fun B hB hnx=>?_
 simp only [Tryz.f158] at hB ⊢
 rw [Inst.endS] at hR
 refine K_run hB 100 ?_
 simp [go_sem,Inst.a,State.a,State.cs]
 refine K_call rfl rfl rfl (args:=[x.a]) (f:=44) (by simp [go_sem,Inst.a]) (by simp [go_sem,hB]) ((may_pure x hl).spec _ _) ?_
 cases hm:x.may with
 |false=>
  rw [if_pos hm] at hR
  subst hR
  refine K_run hB 100 ?_
  simp [go_sem]
 |true=>
  obtain ⟨p,hx⟩:=x.fit hm
  rw [if_neg (by simp [hm])] at hR
  refine K_run hB 100 ?_
  simp [go_sem]
  refine K_drawn [] rfl (by rw [hB];kernel_rfl) ?_
  have hp:=hx.pairs
  have hr:=root_pureS x hl
  generalize x.rootS=r at *
  by_cases c0:x.pairs=0∧s=r
  ·rw [if_pos c0] at hR
   obtain ⟨c1,c2⟩:=c0
   subst hR
   refine K_run hB 100 ?_
   simp [go_sem,c1]
   refine K_dCallP rfl rfl rfl (args:=[x.a]) (f:=47) (by simp [go_sem,Inst.a,c1]) hr ?_
   refine K_dEq (op:=.eql) (t:=91) (t':=91) (x:=.tmp 18) (y:=.tmp 20) (xs:=s.cs) (ys:=r.cs) (by simp [go_sem,c1]) rfl (by simp [go_sem,State.cs]) (by simp [go_sem,State.a]) state_guard (state_eq s r) rfl ?_
   refine K_run hB 100 ?_
   simp [go_sem,c1,c2]
  rw [if_neg c0] at hR
  have g2:(0:Int)<x.stops.length:=hx.lt (j:=0) (by omega)
  have g3:0<x.stops.length:=by omega
  have g4:=hx.get0
  have hfi:=far_in' (x.stop s.spot) (x.stop 0)
  by_cases c1:x.pairs=0
  all_goals
   first
   |have c2:¬s=r:=fun h=>c0 ⟨c1,h⟩
    refine K_run hB 100 ?_
    simp [go_sem,c1]
    refine K_dCallP rfl rfl rfl (args:=[x.a]) (f:=47) (by simp [go_sem,Inst.a,c1]) hr ?_
    refine K_dEq (op:=.eql) (t:=91) (t':=91) (x:=.tmp 18) (y:=.tmp 20) (xs:=s.cs) (ys:=r.cs) (by simp [go_sem,c1]) rfl (by simp [go_sem,State.cs]) (by simp [go_sem,State.a]) state_guard (state_eq s r) rfl ?_
    refine K_run hB 100 ?_
    simp [go_sem,c1,c2]
    refine K_drawn [] rfl (by rw [hB];kernel_rfl) ?_
    refine K_run hB 100 ?_
    simp [go_sem]
   |refine K_run hB 100 ?_
    simp [go_sem,c1]
    refine K_drawn [] rfl (by rw [hB];kernel_rfl) ?_
    refine K_run hB 100 ?_
    simp [go_sem]
  all_goals
   refine K_dCallP rfl rfl rfl (args:=[.agg (hereC x s)]) (f:=201) (by simp [go_sem,hereC,c1]) (hmay_pure x s hm) ?_
   cases hs:s.mayB x with
   |false=>
    rw [if_neg (by simp [hs])] at hR
    subst hR
    refine K_run hB 100 ?_
    simp [go_sem]
   |true=>
    have hs':=s.fit hx hs
    have w1:=w64 (s.time+far (x.stop s.spot) (x.stop 0)) (by have:=hs'.time;omega)
    have hfar:=hfar_pure x s 0 hx hs'.spot.1 hs'.spot.2 (by omega) (by omega)
    generalize far (x.stop s.spot) (x.stop 0)=d at *
    generalize x.stop 0=a at *
    by_cases c3:s.spot=0
    ·rw [if_neg (by simp [c3])] at hR
     subst hR
     refine K_run hB 100 ?_
     simp [go_sem,c3]
    by_cases c4:s.on=0
    rotate_left
    ·rw [if_neg (by simp [c4])] at hR
     subst hR
     refine K_run hB 100 ?_
     simp [go_sem,c3,c4]
    refine K_run hB 100 ?_
    simp [go_sem,c3,c4]
    refine K_dCallP rfl rfl rfl (args:=[.agg (hereC x s),.u s.can]) (f:=202) (by simp [go_sem,hereC,c1,c4]) (hall_pure x s s.can hx) ?_
    cases c5:x.allB s.can with
    |false=>
     rw [if_neg (by simp [c5])] at hR
     subst hR
     refine K_run hB 100 ?_
     simp [go_sem,c3]
    |true=>
     refine K_run hB 100 ?_
     simp [go_sem,c3]
     refine K_dCallP rfl rfl rfl (args:=[.agg (hereC x s),.i 0]) (f:=203) (by simp [go_sem,hereC,c1,c4]) hfar ?_
     by_cases c6:a.due<s.time+d
     ·rw [if_neg (by simp [c6])] at hR
      subst hR
      refine K_run hB 100 ?_
      simp [go_sem,c3,c6,w1,g2,g3,g4,Stop.t]
     ·rw [if_pos ⟨hs,c3,c4,c5,by omega⟩] at hR
      subst hR
      refine K_run hB 100 ?_
      simp [go_sem,c3,c6,w1,g2,g3,g4,Stop.t]
      refine K_call rfl rfl rfl (args:=[.agg (hereC x s),.i 0]) (f:=203) (by simp [go_sem,hereC,c1,c4]) (by simp [go_sem,hB]) (hfar.spec _ _) ?_
      refine K_run hB 100 ?_
      simp [go_sem]
end Go.Proofs.YtnoifgjiipgpoaaGreatDoor

set_option maxRecDepth 4000
namespace Go.Proofs.YtnoifgjiipgpoaaGreatDoor
open Go Go.Proofs.YtnoifgjiipgpoaaGreatDoor.R
theorem State.zero_ok:State.zero.ok:=⟨by decide,by decide,by decide⟩
theorem rootS_ok (x:Inst):x.rootS.ok:=by
 unfold Inst.rootS
 split
 ·exact ⟨State.zero_ok.must,State.zero_ok.can,State.zero_ok.on⟩
 ·exact State.zero_ok
theorem seen_ok (x:Inst) {s:State} (j:Int) (h:s.ok):(x.seen s j).ok:=⟨withN_lt h.must j,withN_lt h.can j,h.on⟩
theorem visit_ok (x:Inst) {s:State} (j:Int) (h:s.ok):(x.visit s j).1.ok:=by
 unfold Inst.visit
 split
 ·exact h
 ·exact seen_ok x j h
theorem to_ok (x:Inst) {s:State} (j:Int) (h:s.ok):(x.to s j).1.ok:=by
 unfold Inst.to
 split
 ·unfold Inst.home
  split
  ·exact h
  ·exact ⟨h.must,h.can,h.on⟩
 ·have hv:=visit_ok x j h
  split
  ·unfold Inst.take
   split
   ·exact h
   ·split
    ·exact ⟨hv.must,hv.can,withN_lt h.on j⟩
    ·exact hv
  ·unfold Inst.bring
   split
   ·exact h
   ·split
    ·exact ⟨hv.must,hv.can,withoutN_lt _ _⟩
    ·exact hv
theorem move_ok (x:Inst) {s:State} (j:Int) (h:s.ok):(x.move s j).1.ok:=by
 unfold Inst.move
 split
 ·unfold Inst.step
  split
  ·exact h
  ·split
   ·exact to_ok x j h
   ·exact h
 ·exact h
theorem ints_getS (l:List Int) {i:Nat} (h:i<l.length):(ints l)[i]'(by rw [ints,List.length_map];exact h)=[.i l[i]]:=by simp [ints]
def Inst.goes (x:Inst):List Int→State→Int→Option (State×Int)
 |[],s,c=>some (s,c)
 |j :: l,s,c=>if (x.move s j).2.2=true then x.goes l (x.move s j).1 (IntKind.i64.wrap (c+(x.move s j).2.1)) else none
end Go.Proofs.YtnoifgjiipgpoaaGreatDoor

set_option maxRecDepth 100000
namespace Go.Proofs.YtnoifgjiipgpoaaGreatDoor
open Go Go.ChangeShapes Go.WideShapes Go.ChangeAt Go.RowKit Go.Proofs.YtnoifgjiipgpoaaGreatDoor.R
theorem own0:ownKnob Tryz.prog.godebug=Option.none:=by kernel_rfl
section
variable {H:Type} {enc:TypeId×Value→H} {W:World} {base:Nat} {sp:Nat→Bool} {held:Bool} {v:Value} {d:DataW H} {ps:List MemPlace}
end
end Go.Proofs.YtnoifgjiipgpoaaGreatDoor

set_option maxRecDepth 4000
set_option maxHeartbeats 1000000
namespace Go.Proofs.YtnoifgjiipgpoaaGreatDoor
open Go Go.Proofs.YtnoifgjiipgpoaaGreatDoor.R
theorem digit_cut:∀n:Fin 10,(⟨#[48,49,50,51,52,53,54,55,56,57,97,98,99,100,101,102,103,104,105,106,107,108,109,110,111,112,113,114,115,116,117,118,119,120,121,122]⟩:ByteArray).extract n.1 (n.1+1)=⟨#[UInt8.ofNat (48+n.1)]⟩:=by decide+kernel
def digS (n:Nat):ByteArray:=⟨#[UInt8.ofNat (48+n)]⟩
theorem small10_pure (n:Nat) (h:n<10):Pure P 242 [.i n] (.t (.v (.string (digS n)))):=by
 have hd:=digit_cut ⟨n,h⟩
 simp only at hd
 rw [←digS] at hd
 refine pure_of Tryz.func242 rfl rfl (by simp [Tryz.f242]) (by simp [bnd,bnd.bndL]) (by simp [bnd,bnd.bndL]) fun B hB hnx=>?_
 simp only [Tryz.f242] at hB ⊢
 have h1:(n:Int)<10:=by omega
 have w1:IntKind.i64.wrap ((n:Int)+1)=((n+1:Nat):Int):=by rw [w64 _ (by omega)];rfl
 refine K_run hB 100 ?_
 simp [go_sem,h1,w1,show (n:Int)+1≤36 by omega,show (0:Int)≤n+1 by omega,show (n:Int)≤n+1 by omega,hd]
theorem bytes_digit {n:Nat} (h:n<10):bytesT (digS n)=[[.v (.int .u8 ((48+n:Nat):Int))]]:=by
 simp [bytesT,digS]
 omega
theorem byt_snoc (b:List Nat) (c:Nat):byt (b++[c])=byt b++[[.v (.int .u8 (c:Int))]]:=by simp [byt]
theorem byt_one (b:List Nat):∀y∈byt b,y.length=1:=by
 intro y hy
 obtain ⟨_,_,rfl⟩:=List.mem_map.1 hy
 rfl
theorem auint_spec (n:Nat) (hn:n<10) (bs:List Nat) (hb:bs.length<2^31) {σ:Nat→AObj} {nx q:Nat} (hq:q<nx) (hσ:σ q= .arr 1 (byt bs)):
  CallSpec P 210 [.ref q,.u n,.i 10] σ nx (.ref nx) (oput (oput σ q .dead) nx (.arr 1 (byt (bs++[48+n])))) (nx+1):=by
 refine CallQ.spec (spec_of Tryz.func210 rfl rfl (by simp [Tryz.f210]) fun B hB hnx hσB=>?_)
 simp only [Tryz.f210] at hB ⊢
 have hs:=small10_pure n hn
 have h1:(n:Int)<100:=by omega
 have w1:IntKind.i64.wrap (n:Int)=n:=w64 _ (by omega)
 have hl:(byt bs).length=bs.length:=List.length_map _
 have h2:=byt_one bs
 have hcap:bs.length+1≤mostLen:=by show _≤4294967296;omega
 have hbd:=bytes_digit hn
 rw [byt_snoc]
 generalize byt bs=rows at *
 generalize digS n=S at *
 generalize 48+n=d at *
 refine K_run hB 100 ?_
 simp [go_sem,h1,w1]
 refine K_call rfl rfl rfl (args:=[.i n]) (f:=242) (by simp [go_sem]) (by simp [go_sem,hB]) ((hs).spec _ _) ?_
 refine K_run hB 100 ?_
 simp [go_sem,hσ,hbd,hl,h2,hcap]
theorem iint_spec (n:Nat) (hn:n<10) (bs:List Nat) (hb:bs.length<2^31) {σ:Nat→AObj} {nx q:Nat} (hq:q<nx) (hσ:σ q= .arr 1 (byt bs)):
  CallSpec P 165 [.ref q,.i n,.i 10] σ nx (.ref nx) (oput (oput σ q .dead) nx (.arr 1 (byt (bs++[48+n])))) (nx+1):=by
 have hs:=auint_spec n hn bs hb hq hσ
 generalize 48+n=d at *
 refine CallQ.spec (spec_of Tryz.func165 rfl rfl (by simp [Tryz.f165]) fun B hB hnx hσB=>?_)
 simp only [Tryz.f165] at hB ⊢
 have h1:¬(n:Int)<0:=by omega
 have w1:IntKind.u64.wrap (n:Int)=n:=u64 _ (by omega)
 refine K_run hB 100 ?_
 simp [go_sem,h1,w1]
 refine K_call rfl rfl rfl (args:=[.ref q,.u n,.i 10]) (f:=210) (by simp [go_sem]) (by simp [go_sem,hB]) hs ?_
 refine K_run hB 100 ?_
 simp [go_sem]
theorem aint_spec (n:Nat) (hn:n<10) (bs:List Nat) (hb:bs.length<2^31) {σ:Nat→AObj} {nx q:Nat} (hq:q<nx) (hσ:σ q= .arr 1 (byt bs)):
  CallSpec P 110 [.ref q,.i n,.i 10] σ nx (.ref nx) (oput (oput σ q .dead) nx (.arr 1 (byt (bs++[48+n])))) (nx+1):=by
 have hs:=iint_spec n hn bs hb hq hσ
 generalize 48+n=d at *
 refine CallQ.spec (spec_of Tryz.func110 rfl rfl (by simp [Tryz.f110]) fun B hB hnx hσB=>?_)
 simp only [Tryz.f110] at hB ⊢
 refine K_run hB 100 ?_
 simp [go_sem]
 refine K_call rfl rfl rfl (args:=[.ref q,.i n,.i 10]) (f:=165) (by simp [go_sem]) (by simp [go_sem,hB]) hs ?_
 refine K_run hB 100 ?_
 simp [go_sem]
def partB:List Int→List Nat
 |[]=>[]
 |[n]=>[48+n.toNat]
 |n :: l=>(48+n.toNat) :: 32 :: partB l
theorem partB_snoc:∀(l:List Int) (n:Int),partB (l++[n])=partB l++(if l=[] then [] else [32])++[48+n.toNat]
 |[],n=>rfl
 |[a],n=>rfl
 |a :: b :: l,n=>by
  have ih:=partB_snoc (b :: l) n
  rw [if_neg (by simp)] at ih ⊢
  show (48+a.toNat) :: 32 :: partB ((b :: l)++[n])=(48+a.toNat) :: 32 :: partB (b :: l)++[32]++[48+n.toNat]
  rw [ih]
  simp
def lineB (l:List Int):List Nat:=if l=[] then [] else partB l++[10]
def printB (l:List (List Int)):List Nat:=l.flatMap lineB
theorem printB_snoc (l:List (List Int)) {k:Nat} (h:k<l.length):printB (l.take (k+1))=printB (l.take k)++lineB l[k]:=by
 rw [printB,List.take_succ_eq_append_getElem h,List.flatMap_append]
 simp [printB]
theorem partB_len:∀(l:List Int),(partB l).length≤2*l.length
 |[]=>by simp [partB]
 |[a]=>by simp [partB]
 |a :: b :: l=>by
  have:=partB_len (b :: l)
  simp only [partB,List.length_cons] at *
  omega
theorem lineB_len (l:List Int):(lineB l).length≤2*l.length+1:=by
 unfold lineB
 have:=partB_len l
 split
 ·simp
 ·simp;omega
theorem printB_len {K:Nat}:∀(l:List (List Int)),(∀r∈l,r.length≤K)→(printB l).length≤(2*K+1)*l.length
 |[],_=>by simp [printB]
 |r :: l,h=>by
  have h1:=printB_len l fun r hr=>h r (List.mem_cons_of_mem _ hr)
  have h2:=lineB_len r
  have h3:=h r List.mem_cons_self
  have h4:printB (r :: l)=lineB r++printB l:=rfl
  rw [h4,List.length_append,List.length_cons,Nat.mul_succ]
  omega
end Go.Proofs.YtnoifgjiipgpoaaGreatDoor

set_option maxRecDepth 4000
namespace Go.Proofs.YtnoifgjiipgpoaaGreatDoor
open Go Go.Proofs.YtnoifgjiipgpoaaGreatDoor.R
theorem filter_lt {α:Type} {p q:α→Bool}:∀(l:List α) {a:α},a∈l→p a=true→q a=false→(∀b,q b=true→p b=true)→(l.filter q).length<(l.filter p).length
 |b :: l,a,ha,hp,hq,h=>by
  have hle:(l.filter q).length≤(l.filter p).length:=by
   rw [←List.countP_eq_length_filter,←List.countP_eq_length_filter]
   exact List.countP_mono_left fun b _=>h b
  rw [List.filter_cons,List.filter_cons]
  rcases List.mem_cons.1 ha with rfl | ha
  ·rw [hp,hq]
   simp only [if_true,Bool.false_eq_true,if_false,List.length_cons]
   omega
  ·have:=filter_lt l ha hp hq h
   have hb:=h b
   cases e1:q b<;>cases e2:p b<;>simp only [if_true,Bool.false_eq_true,if_false,List.length_cons]<;>first | omega | skip
   rw [e1] at hb
   rw [e2] at hb
   exact absurd (hb rfl) (by simp)
end Go.Proofs.YtnoifgjiipgpoaaGreatDoor

set_option maxRecDepth 4000
namespace Go.Proofs.YtnoifgjiipgpoaaGreatDoor
open Go Go.Proofs.YtnoifgjiipgpoaaGreatDoor.R
section
variable {α:Type} (κ:α→Int)
def insK (x:α) (s:List α):List α:=s.filter (fun y=>decide (κ y≤κ x))++x :: s.filter (fun y=>decide (κ x<κ y))
def isort (l:List α):List α:=l.foldl (fun s x=>insK κ x s) []
def Srt (l:List α):Prop:=l.Pairwise fun a b=>κ a≤κ b
structure SortOf (l s:List α):Prop where
 srt:Srt κ s
 key:∀k,s.filter (fun y=>decide (κ y=k))=l.filter (fun y=>decide (κ y=k))
variable {κ}
theorem mem_of_key {s t:List α} (h:∀k,s.filter (fun y=>decide (κ y=k))=t.filter (fun y=>decide (κ y=k))) {x:α} (hx:x∈s):x∈t:=by
 have:x∈s.filter (fun y=>decide (κ y=κ x)):=List.mem_filter.2 ⟨hx,by simp⟩
 rw [h] at this
 exact (List.mem_filter.1 this).1
theorem sort_uniq:∀(s t:List α),Srt κ s→Srt κ t→(∀k,s.filter (fun y=>decide (κ y=k))=t.filter (fun y=>decide (κ y=k)))→s=t
 |[],[],_,_,_=>rfl
 |[],y :: t,_,_,h=>by
  have:=mem_of_key (s:=y :: t) (t:=[]) (fun k=>(h k).symm) List.mem_cons_self
  cases this
 |x :: s,[],_,_,h=>by
  have:=mem_of_key h List.mem_cons_self
  cases this
 |x :: s,y :: t,hs,ht,h=>by
  have h1:=mem_of_key h (List.mem_cons_self (a:=x) (l:=s))
  have h2:=mem_of_key (fun k=>(h k).symm) (List.mem_cons_self (a:=y) (l:=t))
  rw [Srt,List.pairwise_cons] at hs ht
  have e1:κ x≤κ y:=by
   rcases List.mem_cons.1 h2 with rfl | h2
   ·exact Int.le_refl _
   ·exact hs.1 y h2
  have e2:κ y≤κ x:=by
   rcases List.mem_cons.1 h1 with rfl | h1
   ·exact Int.le_refl _
   ·exact ht.1 x h1
  have e:κ x=κ y:=by omega
  have h3:=h (κ x)
  rw [List.filter_cons,List.filter_cons,if_pos (by simp),if_pos (by simp [e])] at h3
  obtain ⟨rfl,h4⟩:=List.cons.inj h3
  congr 1
  refine sort_uniq s t hs.2 ht.2 fun k=>?_
  have h5:=h k
  rw [List.filter_cons,List.filter_cons] at h5
  split at h5
  ·exact (List.cons.inj h5).2
  ·exact h5
theorem SortOf.uniq {l s t:List α} (hs:SortOf κ l s) (ht:SortOf κ l t):s=t:=sort_uniq s t hs.srt ht.srt fun k=>(hs.key k).trans (ht.key k).symm
theorem ins_sort {l s:List α} (h:SortOf κ l s) (x:α):SortOf κ (l++[x]) (insK κ x s):=by
 refine ⟨?_,fun k=>?_⟩
 ·rw [Srt,insK,List.pairwise_append,List.pairwise_cons]
  refine ⟨h.srt.filter _,⟨fun y hy=>?_,h.srt.filter _⟩,fun y hy z hz=>?_⟩
  ·have:=(List.mem_filter.1 hy).2
   simp only [decide_eq_true_eq] at this
   omega
  ·have h1:=(List.mem_filter.1 hy).2
   simp only [decide_eq_true_eq] at h1
   rcases List.mem_cons.1 hz with rfl | hz
   ·exact h1
   ·have h2:=(List.mem_filter.1 hz).2
    simp only [decide_eq_true_eq] at h2
    omega
 ·rw [insK,List.filter_append,List.filter_append,List.filter_cons,List.filter_cons,List.filter_nil,List.filter_filter,List.filter_filter,←h.key k]
  rcases Int.lt_trichotomy k (κ x) with hk | hk | hk
  ·have e1:s.filter (fun a=>decide (κ a=k)&&decide (κ a≤κ x))=s.filter fun y=>decide (κ y=k):=List.filter_congr fun y _=>by
    rw [Bool.eq_iff_iff];simp only [Bool.and_eq_true,decide_eq_true_eq];omega
   have e2:s.filter (fun a=>decide (κ a=k)&&decide (κ x<κ a))=[]:=List.filter_eq_nil_iff.2 fun y _=>by simp only [Bool.and_eq_true,decide_eq_true_eq];omega
   rw [e1,e2,if_neg (by simp only [decide_eq_true_eq];omega),List.append_nil]
  ·have e1:s.filter (fun a=>decide (κ a=k)&&decide (κ a≤κ x))=s.filter fun y=>decide (κ y=k):=List.filter_congr fun y _=>by
    rw [Bool.eq_iff_iff];simp only [Bool.and_eq_true,decide_eq_true_eq];omega
   have e2:s.filter (fun a=>decide (κ a=k)&&decide (κ x<κ a))=[]:=List.filter_eq_nil_iff.2 fun y _=>by simp only [Bool.and_eq_true,decide_eq_true_eq];omega
   rw [e1,e2]
  ·have e1:s.filter (fun a=>decide (κ a=k)&&decide (κ a≤κ x))=[]:=List.filter_eq_nil_iff.2 fun y _=>by simp only [Bool.and_eq_true,decide_eq_true_eq];omega
   have e2:s.filter (fun a=>decide (κ a=k)&&decide (κ x<κ a))=s.filter fun y=>decide (κ y=k):=List.filter_congr fun y _=>by
    rw [Bool.eq_iff_iff];simp only [Bool.and_eq_true,decide_eq_true_eq];omega
   have hn:¬decide (κ x=k)=true:=by simp only [decide_eq_true_eq];omega
   rw [e1,e2,if_neg hn,if_neg hn]
   simp
theorem fold_sort:∀(l pre s:List α),SortOf κ pre s→SortOf κ (pre++l) (l.foldl (fun s x=>insK κ x s) s)
 |[],pre,s,h=>by rw [List.append_nil];exact h
 |x :: l,pre,s,h=>by
  have:=fold_sort l (pre++[x]) _ (ins_sort h x)
  rw [List.append_assoc] at this
  exact this
theorem isort_sort (l:List α):SortOf κ l (isort κ l):=by
 have h:SortOf κ ([]:List α) []:=⟨List.Pairwise.nil,fun _=>rfl⟩
 exact fold_sort l [] [] h
theorem isort_eq {l s:List α} (h:SortOf κ l s):isort κ l=s:=(isort_sort l).uniq h
theorem isort_snoc (l:List α) (x:α):isort κ (l++[x])=insK κ x (isort κ l):=by
 rw [isort,List.foldl_append];rfl
theorem isort_mem {l:List α} {x:α}:x∈isort κ l↔x∈l:=⟨mem_of_key fun k=>(isort_sort l).key k,mem_of_key fun k=>((isort_sort l).key k).symm⟩
theorem filter_len:∀(s:List α) (x:α),(s.filter (fun y=>decide (κ y≤κ x))).length+(s.filter (fun y=>decide (κ x<κ y))).length=s.length
 |[],_=>rfl
 |a :: s,x=>by
  have:=filter_len s x
  rw [List.filter_cons,List.filter_cons]
  by_cases h:κ a≤κ x
  ·rw [if_pos (by simpa using h),if_neg (by simp;omega)]
   simp only [List.length_cons]
   omega
  ·rw [if_neg (by simpa using h),if_pos (by simp;omega)]
   simp only [List.length_cons]
   omega
theorem foldK_len:∀(l s:List α),(l.foldl (fun s x=>insK κ x s) s).length=s.length+l.length
 |[],s=>rfl
 |x :: l,s=>by
  have:=filter_len (κ:=κ) s x
  rw [List.foldl_cons,foldK_len l,insK,List.length_append,List.length_cons,List.length_cons]
  omega
theorem isort_len (l:List α):(isort κ l).length=l.length:=by rw [isort,foldK_len];simp
theorem isort_self {l:List α} (h:Srt κ l):isort κ l=l:=isort_eq ⟨h,fun _=>rfl⟩
theorem isort_app (a b:List α):isort κ (isort κ a++isort κ b)=isort κ (a++b):=
 isort_eq ⟨(isort_sort (a++b)).srt,fun k=>by rw [(isort_sort (a++b)).key k,List.filter_append,List.filter_append,(isort_sort a).key k,(isort_sort b).key k]⟩
theorem insK_split {u v:List α} {x:α} (hu:∀y∈u,κ y≤κ x) (hv:∀y∈v,κ x<κ y):insK κ x (u++v)=u++x :: v:=by
 rw [insK,List.filter_append,List.filter_append]
 have e1:u.filter (fun y=>decide (κ y≤κ x))=u:=List.filter_eq_self.2 fun y hy=>by simpa using hu y hy
 have e2:v.filter (fun y=>decide (κ y≤κ x))=[]:=List.filter_eq_nil_iff.2 fun y hy=>by have:=hv y hy;simp;omega
 have e3:u.filter (fun y=>decide (κ x<κ y))=[]:=List.filter_eq_nil_iff.2 fun y hy=>by have:=hu y hy;simp;omega
 have e4:v.filter (fun y=>decide (κ x<κ y))=v:=List.filter_eq_self.2 fun y hy=>by simpa using hv y hy
 rw [e1,e2,e3,e4]
 simp
theorem one_right {u v:List α} {y:α} (h:Srt κ (u++v)) (hu:∀x∈u,κ x≤κ y) (hv:∀x∈v,κ y<κ x):isort κ (u++v++[y])=u++y :: v:=by
 rw [isort_snoc,isort_self h,insK_split hu hv]
theorem one_left {u v:List α} {x:α} (h:Srt κ (u++v)) (hu:∀y∈u,κ y<κ x) (hv:∀y∈v,κ x≤κ y):isort κ (x :: (u++v))=u++x :: v:=by
 rw [Srt,List.pairwise_append] at h
 refine isort_eq ⟨?_,fun k=>?_⟩
 ·rw [Srt,List.pairwise_append,List.pairwise_cons]
  refine ⟨h.1,⟨fun y hy=>hv y hy,h.2.1⟩,fun y hy z hz=>?_⟩
  have:=hu y hy
  rcases List.mem_cons.1 hz with rfl | hz
  ·omega
  ·have:=hv z hz;omega
 ·rw [List.filter_append,List.filter_cons,List.filter_cons,List.filter_append]
  by_cases hk:κ x=k
  ·have e1:u.filter (fun y=>decide (κ y=k))=[]:=List.filter_eq_nil_iff.2 fun y hy=>by have:=hu y hy;simp;omega
   rw [e1]
   simp
  ·rw [if_neg (by simpa using hk),if_neg (by simpa using hk)]
theorem isort_cut {u1 u2 v1 v2:List α} (hu:Srt κ (u1++u2)) (hv:Srt κ (v1++v2)) (h1:∀u∈u1,∀v∈v2,κ u≤κ v) (h2:∀v∈v1,∀u∈u2,κ v<κ u):
  isort κ (u1++u2++(v1++v2))=isort κ (u1++v1)++isort κ (u2++v2):=by
 rw [Srt,List.pairwise_append] at hu hv
 refine isort_eq ⟨?_,fun k=>?_⟩
 ·rw [Srt,List.pairwise_append]
  refine ⟨(isort_sort _).srt,(isort_sort _).srt,fun a ha b hb=>?_⟩
  rcases List.mem_append.1 (isort_mem.1 ha) with ha | ha<;>rcases List.mem_append.1 (isort_mem.1 hb) with hb | hb
  ·exact hu.2.2 a ha b hb
  ·exact h1 a ha b hb
  ·have:=h2 a ha b hb;omega
  ·exact hv.2.2 a ha b hb
 ·rw [List.filter_append,(isort_sort _).key k,(isort_sort _).key k]
  simp only [List.filter_append,List.append_assoc]
  congr 1
  rw [←List.append_assoc,←List.append_assoc]
  congr 1
  by_cases hk:∃v∈v1,κ v=k
  ·obtain ⟨v,hv1,hv2⟩:=hk
   have e:u2.filter (fun y=>decide (κ y=k))=[]:=List.filter_eq_nil_iff.2 fun y hy=>by have:=h2 v hv1 y hy;simp;omega
   rw [e];simp
  ·have e:v1.filter (fun y=>decide (κ y=k))=[]:=List.filter_eq_nil_iff.2 fun y hy=>by
    simp only [decide_eq_true_eq]
    exact fun h=>hk ⟨y,hy,h⟩
   rw [e];simp
theorem isort_map {β:Type} (f:β→α) (l:List β):(isort (fun b=>κ (f b)) l).map f=isort κ (l.map f):=by
 refine (isort_eq ⟨?_,fun k=>?_⟩).symm
 ·rw [Srt,List.pairwise_map]
  exact (isort_sort l).srt
 ·have:=(isort_sort (κ:=fun b=>κ (f b)) l).key k
  rw [List.filter_map,List.filter_map]
  exact congrArg (List.map f) this
def blks (κ:α→Int) (bs:Nat):Nat→List α→List α
 |0,_=>[]
 |t+1,l=>isort κ (l.take bs)++blks κ bs t (l.drop bs)
theorem blks_snoc (bs:Nat):∀(t:Nat) (l:List α),blks κ bs (t+1) l=blks κ bs t l++isort κ ((l.drop (bs*t)).take bs)
 |0,l=>by simp [blks]
 |t+1,l=>by
  rw [blks,blks_snoc bs t (l.drop bs),blks,List.append_assoc,List.drop_drop]
  congr 3
  rw [Nat.mul_succ]
  congr 2
  omega
theorem blks_len (bs:Nat):∀(t:Nat) (l:List α),bs*t≤l.length→(blks κ bs t l).length=bs*t
 |0,l,_=>by simp [blks]
 |t+1,l,h=>by
  rw [Nat.mul_succ] at h
  rw [blks,List.length_append,isort_len,blks_len bs t (l.drop bs) (by rw [List.length_drop];omega),List.length_take,Nat.mul_succ]
  omega
def allBlks (κ:α→Int) (bs:Nat) (l:List α):List α:=blks κ bs (l.length / bs) l++isort κ (l.drop (bs*(l.length / bs)))
theorem allBlks_cons {bs:Nat} (h0:0<bs) {l:List α} (h:bs≤l.length):allBlks κ bs l=isort κ (l.take bs)++allBlks κ bs (l.drop bs):=by
 have e:l.length / bs=(l.drop bs).length / bs+1:=by rw [List.length_drop];exact Nat.div_eq_sub_div h0 h
 rw [allBlks,e,blks,List.append_assoc,allBlks,List.drop_drop]
 congr 3
 rw [Nat.mul_succ]
 congr 1
 omega
theorem allBlks_small {bs:Nat} {l:List α} (h:l.length<bs):allBlks κ bs l=isort κ l:=by
 rw [allBlks,Nat.div_eq_of_lt h]
 simp [blks]
theorem allBlks_le {bs:Nat} (h0:0<bs) {l:List α} (h:l.length≤bs):allBlks κ bs l=isort κ l:=by
 rcases Nat.lt_or_ge l.length bs with h1 | h1
 ·exact allBlks_small h1
 ·have e:l.length=bs:=by omega
  rw [allBlks_cons h0 h1,List.take_of_length_le h,allBlks_small (by rw [List.length_drop];omega),List.drop_eq_nil_of_le h]
  simp [isort]
theorem allBlks_len {bs:Nat} (l:List α):(allBlks κ bs l).length=l.length:=by
 have h:=Nat.mul_div_le l.length bs
 rw [allBlks,List.length_append,blks_len bs _ l h,isort_len,List.length_drop]
 omega
theorem srt_take {l:List α} (h:Srt κ l) (n:Nat):Srt κ (l.take n):=List.Pairwise.sublist (List.take_sublist _ _) h
theorem srt_drop {l:List α} (h:Srt κ l) (n:Nat):Srt κ (l.drop n):=List.Pairwise.sublist (List.drop_sublist _ _) h
end
end Go.Proofs.YtnoifgjiipgpoaaGreatDoor

set_option maxRecDepth 4000
namespace Go.Proofs.YtnoifgjiipgpoaaGreatDoor
open Go Go.Proofs.YtnoifgjiipgpoaaGreatDoor.R
section
variable {α:Type}
theorem far_get1 (X Y Z:List α) (x y:α):(X++x :: (Y++y :: Z))[X.length]? =some x:=by simp
theorem far_get2 (X Y Z:List α) (x y:α):(X++x :: (Y++y :: Z))[X.length+1+Y.length]? =some y:=by
 rw [List.getElem?_append_right (by omega),show X.length+1+Y.length-X.length=Y.length+1 by omega,List.getElem?_cons_succ]
 simp
theorem set_at (X Z:List α) (x y:α):(X++x :: Z).set X.length y=X++y :: Z:=by
 rw [List.set_append_right _ _ (Nat.le_refl _),Nat.sub_self,List.set_cons_zero]
theorem far_set (X Y Z:List α) (x y:α):((X++x :: (Y++y :: Z)).set X.length y).set (X.length+1+Y.length) x=X++y :: (Y++x :: Z):=by
 rw [set_at]
 have e:X++y :: (Y++y :: Z)=(X++y :: Y)++y :: Z:=by simp
 have el:X.length+1+Y.length=(X++y :: Y).length:=by simp;omega
 rw [e,el,set_at]
 simp
theorem near_set (X Z:List α) (x y:α):((X++x :: y :: Z).set X.length y).set (X.length+1) x=X++y :: x :: Z:=by
 simp
theorem near_set2 (X Z:List α) (x y:α):((X++x :: y :: Z).set (X.length+1) x).set X.length y=X++y :: x :: Z:=by
 simp
end
end Go.Proofs.YtnoifgjiipgpoaaGreatDoor

set_option maxRecDepth 4000
namespace Go.Proofs.YtnoifgjiipgpoaaGreatDoor
open Go Go.Proofs.YtnoifgjiipgpoaaGreatDoor.R
structure Node where
 s:State
 cost:Int
 path:List Int
 deriving DecidableEq
def Node.cs (n:Node):List AV:=[.i n.s.spot,.i n.s.car,.i n.s.time,.i n.s.load,.i n.s.first,.u n.s.must,.u n.s.can,.u n.s.on,.i n.cost,.t (.sl (ints n.path))]
def Node.a (n:Node):AV:=.agg n.cs
def Node.t (n:Node):List T:=[.i n.s.spot,.i n.s.car,.i n.s.time,.i n.s.load,.i n.s.first,.v (.int .u64 n.s.must),.v (.int .u64 n.s.can),.v (.int .u64 n.s.on),.i n.cost,.sl (ints n.path)]
end Go.Proofs.YtnoifgjiipgpoaaGreatDoor

set_option maxRecDepth 4000
namespace Go.Proofs.YtnoifgjiipgpoaaGreatDoor
open Go Go.Proofs.YtnoifgjiipgpoaaGreatDoor.R
def KR (e:List T):Prop:=∃(n:Node) (k:Int),e=n.t++[.i k]
def κr (e:List T):Int:=match e[10]? with
 |some (T.v (.int _ k))=>k
 |_=>0
theorem κr_at (n:Node) (k:Int):κr (n.t++[.i k])=k:=by
 rw [κr]
 simp [Node.t]
theorem KR.len {e:List T} (h:KR e):e.length=11:=by
 obtain ⟨n,k,rfl⟩:=h
 simp [Node.t]
def cmpI (a b:Int):Int:=if a<b then -1 else if b<a then 1 else 0
theorem cmpI_neg (a b:Int):cmpI a b<0↔a<b:=by
 unfold cmpI
 split
 ·omega
 ·split<;>omega
theorem nan_pure (a:Int):Pure P 143 [.i a] (.b false):=by
 refine pure_of Tryz.func143 rfl rfl (by simp [Tryz.f143]) (by simp [bnd,bnd.bndL]) (by simp [bnd,bnd.bndL]) fun B hB hnx=>?_
 simp only [Tryz.f143] at hB ⊢
 refine K_run hB 100 ?_
 simp [go_sem]
theorem cmp_pure (a b:Int):Pure P 96 [.i a,.i b] (.i (cmpI a b)):=by
 generalize hR:cmpI a b=R
 refine pure_of Tryz.func96 rfl rfl (by simp [Tryz.f96]) (by simp [bnd,bnd.bndL]) (by simp [bnd,bnd.bndL]) fun B hB hnx=>?_
 simp only [Tryz.f96] at hB ⊢
 rw [cmpI] at hR
 refine K_run hB 100 ?_
 simp [go_sem]
 refine K_call rfl rfl rfl (args:=[.i a]) (f:=143) (by simp [go_sem]) (by simp [go_sem,hB]) ((nan_pure a).spec _ _) ?_
 refine K_run hB 100 ?_
 simp [go_sem]
 refine K_call rfl rfl rfl (args:=[.i b]) (f:=143) (by simp [go_sem]) (by simp [go_sem,hB]) ((nan_pure b).spec _ _) ?_
 by_cases c1:a<b
 ·rw [if_pos c1] at hR
  subst hR
  refine K_run hB 100 ?_
  simp [go_sem,c1]
 ·rw [if_neg c1] at hR
  by_cases c2:b<a
  ·rw [if_pos c2] at hR
   subst hR
   refine K_run hB 100 ?_
   simp [go_sem,c1,c2]
  ·rw [if_neg c2] at hR
   subst hR
   refine K_run hB 100 ?_
   simp [go_sem,c1,c2]
theorem keyCmp_pure (a b:List T) (ha:KR a) (hb:KR b):Pure P 226 [.agg (a.map .t),.agg (b.map .t)] (.i (cmpI (κr a) (κr b))):=by
 obtain ⟨n,k,rfl⟩:=ha
 obtain ⟨m,j,rfl⟩:=hb
 rw [κr_at,κr_at]
 have hc:=cmp_pure k j
 refine pure_of Tryz.func226 rfl rfl (by simp [Tryz.f226]) (by simp [bnd,bnd.bndL,Node.t]) (by simp [bnd,bnd.bndL]) fun B hB hnx=>?_
 simp only [Tryz.f226] at hB ⊢
 refine K_run hB 100 ?_
 simp [go_sem,Node.t]
 refine K_call rfl rfl rfl (args:=[.i k,.i j]) (f:=96) (by simp [go_sem]) (by simp [go_sem,hB]) ((hc).spec _ _) ?_
 refine K_run hB 100 ?_
 simp [go_sem]
abbrev cmpF:AV:=.fn (.func 226) [] []
structure Two (S:List (List T)) (u v:Nat) (x y:List T):Prop where
 hu:u<S.length
 hv:v<S.length
 gu:∀h:u<S.length,S[u]'h=x
 gv:∀h:v<S.length,S[v]'h=y
 lx:x.length=11
 ly:y.length=11
theorem two_far {X Y Z:List (List T)} {x y:List T} (hx:x.length=11) (hy:y.length=11):Two (X++x :: (Y++y :: Z)) X.length (X.length+1+Y.length) x y:=by
 have h1:=far_get1 X Y Z x y
 have h2:=far_get2 X Y Z x y
 have l1:X.length<(X++x :: (Y++y :: Z)).length:=by simp
 have l2:X.length+1+Y.length<(X++x :: (Y++y :: Z)).length:=by simp;omega
 refine ⟨l1,l2,fun h=>?_,fun h=>?_,hx,hy⟩
 ·rw [List.getElem?_eq_getElem h] at h1
  exact Option.some.inj h1
 ·rw [List.getElem?_eq_getElem h] at h2
  exact Option.some.inj h2
theorem take11 {e:List T} (h:e.length=11):List.take 11 (List.map AV.t e)=List.map AV.t e:=List.take_of_length_le (by rw [List.length_map];omega)
theorem swapRange_spec (pre A M C post:List (List T)) (hAC:A.length=C.length) (hL:∀e∈pre++(A++(M++(C++post))),e.length=11) (hbig:(pre++(A++(M++(C++post)))).length<2^31) {σ:Nat→AObj} {nx q:Nat} (hq:q<nx) (hσq:σ q= .arr 11 (pre++(A++(M++(C++post))))):
  CallSpec P 294 [.ref q,.i pre.length,.i (pre.length+A.length+M.length:Nat),.i A.length,cmpF] σ nx (.tup []) (oput σ q (.arr 11 (pre++(C++(M++(A++post)))))) nx:=by
 refine spec_down Tryz.func294 rfl rfl (by simp [Tryz.f294]) hq (by simp [bndO]) (by simp [bnd,bnd.bndL]) fun hk B hB hnx hσ=>?_
 simp only [Tryz.f294] at hB ⊢
 simp only [List.length_append] at hbig
 obtain ⟨F,hF⟩:∃F:Nat→List (List T),F=fun i=>pre++((C.take i++A.drop i)++(M++((A.take i++C.drop i)++post))):=⟨_,rfl⟩
 have hF0:σ=oput σ q (.arr 11 (F 0)):=by
  have:F 0=pre++(A++(M++(C++post))):=by rw [hF];simp
  rw [this,←hσq,oput_self rfl]
 have hFn:F A.length=pre++(C++(M++(A++post))):=by
  rw [hF]
  simp only
  rw [List.take_of_length_le (by omega:C.length≤A.length),List.drop_eq_nil_of_le (Nat.le_refl A.length),List.take_length,List.drop_eq_nil_of_le (by omega:C.length≤A.length)]
  simp
 have hFlen:∀i,(F i).length=pre.length+(A.length+(M.length+(C.length+post.length))):=fun i=>by
  rw [hF]
  simp only [List.length_append,List.length_take,List.length_drop]
  omega
 refine K_run hB 100 ?_
 simp [go_sem]
 refine K_loopP (α:=Nat) (fun i=>i≤A.length) (fun i=>⟨sl [(0,.ref q),(1,.i pre.length),(2,.i (pre.length+A.length+M.length:Nat)),(3,.i A.length),(10,.i i)],oput σ q (.arr 11 (F i)),nx⟩) (fun i=>A.length-i) 0 (Nat.zero_le _) (Imp.slots (by simp [go_sem]) hF0.symm rfl) ?_
 intro i hi
 refine K_run hB 60 ?_
 simp [go_sem]
 refine fork_dec (fun h=>?_) (fun h=>?_)
 ·have hc:i<C.length:=by omega
  have hs1:F i=(pre++C.take i)++A[i] :: ((A.drop (i+1)++(M++A.take i))++C[i] :: (C.drop (i+1)++post)):=by
   rw [hF]
   simp only [List.append_assoc]
   rw [List.drop_eq_getElem_cons h,List.drop_eq_getElem_cons hc]
   simp only [List.cons_append,List.append_assoc]
  have hs2:F (i+1)=(pre++C.take i)++C[i] :: ((A.drop (i+1)++(M++A.take i))++A[i] :: (C.drop (i+1)++post)):=by
   rw [hF]
   simp only [List.append_assoc]
   rw [List.take_succ_eq_append_getElem h,List.take_succ_eq_append_getElem hc]
   simp only [List.cons_append,List.append_assoc,List.nil_append]
  have hx:(A[i]).length=11:=hL _ (by simp)
  have hy:(C[i]).length=11:=hL _ (by simp)
  generalize A[i]=x at *
  generalize C[i]=y at *
  have htwo:=two_far (X:=pre++C.take i) (Y:=A.drop (i+1)++(M++A.take i)) (Z:=C.drop (i+1)++post) hx hy
  have hset:=far_set (pre++C.take i) (A.drop (i+1)++(M++A.take i)) (C.drop (i+1)++post) x y
  rw [←hs1] at htwo hset
  rw [←hs2] at hset
  have e1:(pre++C.take i).length=pre.length+i:=by rw [List.length_append,List.length_take];omega
  have e2:(pre++C.take i).length+1+(A.drop (i+1)++(M++A.take i)).length=pre.length+A.length+M.length+i:=by
   simp only [List.length_append,List.length_take,List.length_drop]
   omega
  rw [e2,e1] at htwo hset
  obtain ⟨u,hu⟩:∃u,u=pre.length+i:=⟨_,rfl⟩
  obtain ⟨v,hv⟩:∃v,v=pre.length+A.length+M.length+i:=⟨_,rfl⟩
  rw [←hu,←hv] at htwo hset
  have hne:¬u=v:=by omega
  have hne':¬v=u:=by omega
  have w1:IntKind.i64.wrap ((pre.length:Int)+i)=(u:Int):=by rw [w64 _ (by omega)];omega
  have w2:IntKind.i64.wrap ((pre.length:Int)+A.length+M.length+i)=(v:Int):=by rw [w64 _ (by omega)];omega
  have hii:IntKind.i64.wrap ((i:Int)+1)=((i+1:Nat):Int):=by rw [w64 ((i:Int)+1) (by omega)];rfl
  obtain ⟨t1,t2,t3,t4,t5,t6⟩:=htwo
  have d1:u*11 / 11=u:=by omega
  have d2:u*11 % 11=0:=by omega
  have d3:v*11 / 11=v:=by omega
  have d4:v*11 % 11=0:=by omega
  generalize F i=S at *
  generalize hS':F (i+1)=S' at *
  simp [go_sem,h]
  refine K_drawnF [21,23] [4,5,6,7] rfl (by rw [hB];kernel_rfl) (by kernel_rfl) fun ht hf'=>?_
  have k1:=take11 t5
  have k2:=take11 t6
  have k3:setCells x 0 y=y:=setCells_all (by omega)
  have k4:setCells y 0 x=x:=setCells_all (by omega)
  refine K_run hB 100 ?_
  simp [go_sem,ht,hf',w1,w2,t1,t2,t3,t4,d1,d2,d3,d4,t5,t6,k1,k2,k3,k4,toTs_t,hne,hne',hii]
  refine Next.mk (i+1) (by omega) (Imp.slots (by simp [go_sem]) ?_ rfl) (by omega)
  rw [hS',←hset]
  funext j
  by_cases e:j=q<;>simp [oput,e]
 ·have:i=A.length:=by omega
  subst this
  rw [hFn]
  simp [go_sem]
  intro j h1 h2 h3
  exact absurd h3 h2
end Go.Proofs.YtnoifgjiipgpoaaGreatDoor

set_option maxRecDepth 4000
namespace Go.Proofs.YtnoifgjiipgpoaaGreatDoor
open Go Go.Proofs.YtnoifgjiipgpoaaGreatDoor.R
theorem oput_twice (σ:Nat→AObj) (q:Nat) (a b:AObj):oput (oput σ q a) q b=oput σ q b:=by
 funext j
 by_cases e:j=q<;>simp [oput,e]
theorem rotate_spec (pre U V post:List (List T)) (hU:0<U.length) (hV:0<V.length) (hL:∀e∈pre++(U++(V++post)),e.length=11) (hbig:(pre++(U++(V++post))).length<2^31) {σ:Nat→AObj} {nx q:Nat} (hq:q<nx) (hσq:σ q= .arr 11 (pre++(U++(V++post)))):
  CallSpec P 293 [.ref q,.i pre.length,.i (pre.length+U.length:Nat),.i (pre.length+U.length+V.length:Nat),cmpF] σ nx (.tup []) (oput σ q (.arr 11 (pre++(V++(U++post))))) nx:=by
 refine spec_down Tryz.func293 rfl rfl (by simp [Tryz.f293]) hq (by simp [bndO]) (by simp [bnd,bnd.bndL]) fun hk B hB hnx hσ=>?_
 simp only [Tryz.f293] at hB ⊢
 simp only [List.length_append] at hbig
 have w1:IntKind.i64.wrap ((pre.length:Int)+U.length-pre.length)=(U.length:Int):=by rw [w64 _ (by omega)];omega
 have w2:IntKind.i64.wrap ((pre.length:Int)+U.length+V.length-(pre.length+U.length))=(V.length:Int):=by rw [w64 _ (by omega)];omega
 have hσ0:oput σ q (.arr 11 (pre++([]++(U++(V++([]++post))))))=σ:=by
  simp only [List.nil_append]
  rw [←hσq]
  exact oput_self rfl
 refine K_run hB 100 ?_
 simp [go_sem,w1,w2]
 refine K_loopP (α:=List (List T)×List (List T)×List (List T)×List (List T)) (fun (V1,X,Y,U1)=>0<X.length∧0<Y.length∧V1.length+X.length=U.length∧Y.length+U1.length=V.length∧V1++(Y++(X++U1))=V++U∧∀e∈pre++(V1++(X++(Y++(U1++post)))),e.length=11)
  (fun (V1,X,Y,U1)=>⟨sl [(0,.ref q),(2,.i (pre.length+U.length:Nat)),(4,cmpF),(10,.i X.length),(11,.i Y.length)],oput σ q (.arr 11 (pre++(V1++(X++(Y++(U1++post)))))),nx⟩) (fun (V1,X,Y,U1)=>X.length+Y.length) ([],U,V,[]) ⟨hU,hV,by simp,by simp,by simp,by simpa using hL⟩ (Imp.slots (by simp [go_sem]) hσ0 rfl) ?_
 rintro ⟨V1,X,Y,U1⟩ ⟨g1,g2,g3,g4,g5,g6⟩
 have g7:∀e,(e∈pre∨e∈V1∨e∈X∨e∈Y∨e∈U1∨e∈post)→e.length=11:=by simpa using g6
 have hlV:(pre++V1).length=pre.length+V1.length:=List.length_append
 have w3:IntKind.i64.wrap ((pre.length:Int)+U.length-X.length)=(pre.length:Int)+V1.length:=by rw [w64 _ (by omega)];omega
 by_cases c:X.length=Y.length
 ·have hs:=swapRange_spec (pre++V1) X [] Y (U1++post) c (by simpa using g6) (by simp only [List.length_append,List.length_nil];omega) (σ:=oput σ q (.arr 11 (pre++(V1++(X++(Y++(U1++post))))))) hq (by simp [oput])
  rw [oput_twice] at hs
  refine K_run hB 100 ?_
  simp [go_sem,c]
  refine K_call rfl rfl rfl (args:=[.ref q,.i (pre++V1).length,.i ((pre++V1).length+X.length+([]:List (List T)).length:Nat),.i X.length,cmpF]) (f:=294) (by simp [go_sem,←c,w3];omega) (by simp [go_sem,hB]) hs ?_
  refine K_run hB 100 ?_
  simp [go_sem]
  refine ⟨?_,fun j h1 h2 h3=>absurd h3 h2⟩
  have:=congrArg (fun l=>l++post) g5
  simpa only [List.append_assoc] using this
 ·have c':¬(X.length:Int)=Y.length:=by omega
  by_cases c2:Y.length<X.length
  ·have l1:(X.take Y.length).length=Y.length:=by rw [List.length_take];omega
   have l2:(X.drop Y.length).length=X.length-Y.length:=List.length_drop
   have hX:X.take Y.length++X.drop Y.length=X:=List.take_append_drop _ _
   have e1:pre++(V1++(X++(Y++(U1++post))))=(pre++V1)++(X.take Y.length++(X.drop Y.length++(Y++(U1++post)))):=by
    rw [←List.append_assoc (X.take Y.length),hX];simp
   have hs:=swapRange_spec (pre++V1) (X.take Y.length) (X.drop Y.length) Y (U1++post) l1 (by rw [←e1];exact g6) (by simp only [List.length_append];omega) (σ:=oput σ q (.arr 11 (pre++(V1++(X++(Y++(U1++post))))))) hq (by simp [oput,e1])
   rw [oput_twice] at hs
   have w4:IntKind.i64.wrap ((X.length:Int)-Y.length)=((X.drop Y.length).length:Int):=by rw [w64 _ (by omega),l2];omega
   refine K_run hB 100 ?_
   simp [go_sem,c,c',c2]
   refine K_call rfl rfl rfl (args:=[.ref q,.i (pre++V1).length,.i ((pre++V1).length+(X.take Y.length).length+(X.drop Y.length).length:Nat),.i (X.take Y.length).length,cmpF]) (f:=294) (by simp [go_sem,w3];omega) (by simp [go_sem,hB]) hs ?_
   refine K_run hB 100 ?_
   simp [go_sem,w4]
   refine Next.mk (V1++Y,X.drop Y.length,X.take Y.length,U1) ⟨by simp only;omega,by simp only;omega,by simp only [List.length_append];omega,by simp only;omega,?_,fun e he=>g7 e ?_⟩ (Imp.slots (by simp [go_sem,l1]) (by simp only [List.append_assoc]) rfl) (by simp only;omega)
   ·rw [←g5]
    simp only [List.append_assoc]
    rw [←List.append_assoc (X.take _),hX]
   ·simp only [List.mem_append] at he
    rcases he with h | (h | h) | h | h | h | h
    ·exact .inl h
    ·exact .inr (.inl h)
    ·exact .inr (.inr (.inr (.inl h)))
    ·exact .inr (.inr (.inl (List.mem_of_mem_drop h)))
    ·exact .inr (.inr (.inl (List.mem_of_mem_take h)))
    ·exact .inr (.inr (.inr (.inr (.inl h))))
    ·exact .inr (.inr (.inr (.inr (.inr h))))
  ·have l1:(Y.take (Y.length-X.length)).length=Y.length-X.length:=by rw [List.length_take];omega
   have l2:(Y.drop (Y.length-X.length)).length=X.length:=by rw [List.length_drop];omega
   have hY:Y.take (Y.length-X.length)++Y.drop (Y.length-X.length)=Y:=List.take_append_drop _ _
   have e1:pre++(V1++(X++(Y++(U1++post))))=(pre++V1)++(X++(Y.take (Y.length-X.length)++(Y.drop (Y.length-X.length)++(U1++post)))):=by
    rw [←List.append_assoc (Y.take _),hY];simp
   have hs:=swapRange_spec (pre++V1) X (Y.take (Y.length-X.length)) (Y.drop (Y.length-X.length)) (U1++post) l2.symm (by rw [←e1];exact g6) (by simp only [List.length_append];omega) (σ:=oput σ q (.arr 11 (pre++(V1++(X++(Y++(U1++post))))))) hq (by simp [oput,e1])
   rw [oput_twice] at hs
   have w4:IntKind.i64.wrap ((Y.length:Int)-X.length)=((Y.take (Y.length-X.length)).length:Int):=by rw [w64 _ (by omega),l1];omega
   have w5:IntKind.i64.wrap ((pre.length:Int)+U.length+Y.length)=(pre.length:Int)+U.length+Y.length:=w64 _ (by omega)
   have w6:IntKind.i64.wrap ((pre.length:Int)+U.length+Y.length-X.length)=(pre.length:Int)+V1.length+Y.length:=by rw [w64 _ (by omega)];omega
   refine K_run hB 100 ?_
   simp [go_sem,c,c',c2]
   refine K_call rfl rfl rfl (args:=[.ref q,.i (pre++V1).length,.i ((pre++V1).length+X.length+(Y.take (Y.length-X.length)).length:Nat),.i X.length,cmpF]) (f:=294) (by simp [go_sem,w3,w5,w6];omega) (by simp [go_sem,hB]) hs ?_
   refine K_run hB 100 ?_
   simp [go_sem,w4]
   refine Next.mk (V1,Y.drop (Y.length-X.length),Y.take (Y.length-X.length),X++U1) ⟨by simp only;omega,by simp only;omega,by simp only;omega,by simp only [List.length_append];omega,?_,fun e he=>g7 e ?_⟩ (Imp.slots (by simp [go_sem,l2]) (by simp only [List.append_assoc]) rfl) (by simp only;omega)
   ·rw [←g5]
    simp only [List.append_assoc]
    rw [←List.append_assoc (Y.take _),hY]
   ·simp only [List.mem_append] at he
    rcases he with h | h | h | h | (h | h) | h
    ·exact .inl h
    ·exact .inr (.inl h)
    ·exact .inr (.inr (.inr (.inl (List.mem_of_mem_drop h))))
    ·exact .inr (.inr (.inr (.inl (List.mem_of_mem_take h))))
    ·exact .inr (.inr (.inl h))
    ·exact .inr (.inr (.inr (.inr (.inl h))))
    ·exact .inr (.inr (.inr (.inr (.inr h))))
theorem insert_spec (pre mid post:List (List T)) (hK:∀e∈mid,KR e) (hL:∀e∈pre++(mid++post),e.length=11) (hbig:(pre++(mid++post)).length<2^31) {σ:Nat→AObj} {nx q:Nat} (hq:q<nx) (hσq:σ q= .arr 11 (pre++(mid++post))):
  CallSpec P 284 [.ref q,.i pre.length,.i (pre.length+mid.length:Nat),cmpF] σ nx (.tup []) (oput σ q (.arr 11 (pre++(isort κr mid++post)))) nx:=by
 refine spec_down Tryz.func284 rfl rfl (by simp [Tryz.f284]) hq (by simp [bndO]) (by simp [bnd,bnd.bndL]) fun hk B hB hnx hσ=>?_
 simp only [Tryz.f284] at hB ⊢
 simp only [List.length_append] at hbig
 have w1:IntKind.i64.wrap ((pre.length:Int)+1)=((pre.length+1:Nat):Int):=by rw [w64 _ (by omega)];omega
 have h1s:isort κr (mid.take 1)=mid.take 1:=by
  cases mid with
  |nil=>rfl
  |cons x l=>exact isort_self (List.pairwise_singleton _ _)
 have hσ0:oput σ q (.arr 11 (pre++(isort κr (mid.take 1)++(mid.drop 1++post))))=σ:=by
  rw [h1s,←List.append_assoc (mid.take 1),List.take_append_drop,←hσq]
  exact oput_self rfl
 refine K_run hB 100 ?_
 simp [go_sem,w1]
 refine K_loopP (α:=Nat) (fun k=>1≤k∧k≤mid.length+1)
  (fun k=>⟨sl [(0,.ref q),(1,.i pre.length),(2,.i (pre.length+mid.length:Nat)),(3,cmpF),(8,.i (pre.length+k:Nat))],oput σ q (.arr 11 (pre++(isort κr (mid.take k)++(mid.drop k++post)))),nx⟩) (fun k=>mid.length+1-k) 1 ⟨by omega,by omega⟩ (Imp.slots (by simp [go_sem]) hσ0 rfl) ?_
 rintro k ⟨g1,g2⟩
 by_cases hk:k<mid.length
 rotate_left
 ·have hk':¬((pre.length:Int)+k<pre.length+mid.length):=by omega
  refine K_run hB 60 ?_
  simp [go_sem,hk']
  rw [List.take_of_length_le (by omega),List.drop_eq_nil_of_le (by omega)]
  simp only [List.nil_append]
  exact ⟨trivial,fun j h1 h2 h3=>absurd h3 h2⟩
 have hk':(pre.length:Int)+k<pre.length+mid.length:=by omega
 refine K_run hB 60 ?_
 simp [go_sem,hk']
 have hKx:=hK mid[k] (List.getElem_mem hk)
 have htk:isort κr (mid.take (k+1))=insK κr mid[k] (isort κr (mid.take k)):=by rw [List.take_succ_eq_append_getElem hk,isort_snoc]
 have hdk:=List.drop_eq_getElem_cons hk
 have hsl:(isort κr (mid.take k)).length=k:=by rw [isort_len,List.length_take];omega
 have hsK:∀e∈isort κr (mid.take k),KR e:=fun e he=>hK e (List.mem_of_mem_take (isort_mem.1 he))
 have hss:=(isort_sort (κ:=κr) (mid.take k)).srt
 have hii:IntKind.i64.wrap ((pre.length:Int)+k+1)=(pre.length:Int)+(k+1:Nat):=by rw [w64 _ (by omega)];omega
 rw [hdk]
 generalize mid[k]=x at *
 have hLx:=hKx.len
 generalize isort κr (mid.take k)=s at *
 obtain ⟨Fl,hFl⟩:∃Fl:List (List T)→List (List T)→List (List T),∀u v,Fl u v=pre++(u++x :: (v++(mid.drop (k+1)++post))):=⟨_,fun _ _=>rfl⟩
 refine K_loopP (α:=List (List T)×List (List T)) (fun (u,v)=>u++v=s∧∀e∈v,κr x<κr e)
  (fun (u,v)=>⟨sl [(0,.ref q),(1,.i pre.length),(2,.i (pre.length+mid.length:Nat)),(3,cmpF),(8,.i (pre.length+k:Nat)),(9,.i (pre.length+u.length:Nat))],oput σ q (.arr 11 (Fl u v)),nx⟩) (fun (u,v)=>u.length) (s,[]) ⟨List.append_nil _,fun e he=>by cases he⟩ (Imp.slots (by simp [go_sem,hsl]) (by simp [hFl]) rfl) ?_
 rintro ⟨u,v⟩ ⟨i1,i2⟩
 have leave:(∀e∈u,κr e≤κr x)→isort κr (mid.take (k+1))=u++x :: v:=fun hu=>by rw [htk,←i1,insK_split hu i2]
 have hul:u.length≤k:=by rw [←hsl,←i1,List.length_append];omega
 rcases List.eq_nil_or_concat u with rfl | ⟨u',y,rfl⟩
 ·have hlv:=leave (fun e he=>by cases he)
  refine K_run hB 100 ?_
  simp [go_sem]
  refine K_drawn [] rfl (by rw [hB];kernel_rfl) ?_
  refine K_run hB 100 ?_
  simp [go_sem,hii]
  exact Next.mk (k+1) ⟨by omega,by omega⟩ (Imp.slots (by simp [go_sem]) (by rw [hlv];simp [hFl]) rfl) (by omega)
 ·rw [List.concat_eq_append] at *
  have hyK:KR y:=hsK y (by rw [←i1];simp)
  have hLy:=hyK.len
  have hul':u'.length+1≤k:=by simpa using hul
  have hS:Fl (u'++[y]) v=(pre++u')++y :: x :: (v++(mid.drop (k+1)++post)):=by simp [hFl]
  have hS':Fl u' (y :: v)=(pre++u')++x :: y :: (v++(mid.drop (k+1)++post)):=by simp [hFl]
  have htwo:=two_far (X:=pre++u') (Y:=[]) (Z:=v++(mid.drop (k+1)++post)) hLy hLx
  have hset:=near_set2 (pre++u') (v++(mid.drop (k+1)++post)) y x
  simp only [List.nil_append,List.length_nil,Nat.add_zero] at htwo
  rw [←hS] at htwo hset
  rw [←hS'] at hset
  obtain ⟨a,ha⟩:∃a,a=(pre++u').length:=⟨_,rfl⟩
  have ha2:a=pre.length+u'.length:=by rw [ha,List.length_append]
  rw [←ha] at htwo hset
  obtain ⟨b,hb⟩:∃b,b=a+1:=⟨_,rfl⟩
  rw [←hb] at htwo hset
  obtain ⟨t1,t2,t3,t4,t5,t6⟩:=htwo
  have hne:¬a=b:=by omega
  have hne':¬b=a:=by omega
  have d1:a*11 / 11=a:=by omega
  have d2:a*11 % 11=0:=by omega
  have d3:b*11 / 11=b:=by omega
  have d4:b*11 % 11=0:=by omega
  have k1:=take11 t5
  have k2:=take11 t6
  have k3:setCells x 0 y=y:=setCells_all (by omega)
  have k4:setCells y 0 x=x:=setCells_all (by omega)
  have w3:IntKind.i64.wrap ((b:Int)-1)=(a:Int):=by rw [w64 _ (by omega)];omega
  have w4:(pre.length:Int)+(u'.length+1)=(b:Int):=by omega
  have hcm:=keyCmp_pure x y hKx hyK
  have hneg:=cmpI_neg (κr x) (κr y)
  refine K_run hB 100 ?_
  simp [go_sem]
  generalize hSS:Fl (u'++[y]) v=S at *
  refine K_drawn [] rfl (by rw [hB];kernel_rfl) ?_
  refine K_run hB 100 ?_
  simp [go_sem,t1,t2,t3,t4,d1,d2,d3,d4,t5,t6,k1,k2,w3,w4,show pre.length<b by omega,show (pre.length:Int)<(b:Int) by omega]
  refine K_dCallP rfl rfl rfl (args:=[.agg (x.map .t),.agg (y.map .t)]) (f:=226) (by simp [go_sem]) (hcm) ?_
  by_cases c1:κr x<κr y
  ·refine K_run hB 100 ?_
   simp [go_sem,hneg,c1]
   refine K_drawnF [15,17] [2,3,4] rfl (by rw [hB];kernel_rfl) (by kernel_rfl) fun ht hf'=>?_
   refine K_run hB 100 ?_
   simp [go_sem,ht,hf',t1,t2,t3,t4,d1,d2,d3,d4,t5,t6,k1,k2,k3,k4,toTs_t,hne,hne',w3,w4]
   refine Next.mk (u',y :: v) ⟨by rw [←i1];simp,fun e he=>?_⟩ (Imp.slots (by simp [go_sem,ha2]) ?_ rfl) (by simp)
   ·rcases List.mem_cons.1 he with rfl | he
    ·exact c1
    ·exact i2 e he
   ·rw [←hset]
    funext j
    by_cases e:j=q<;>simp [oput,e]
  ·have hlv:=leave fun e he=>by
    have hyx:κr y≤κr x:=by omega
    rcases List.mem_append.1 he with he | he
    ·rw [←i1,Srt,List.pairwise_append,List.pairwise_append] at hss
     have:=hss.1.2.2 e he y (by simp)
     omega
    ·rw [List.mem_singleton.1 he];exact hyx
   refine K_run hB 100 ?_
   simp [go_sem,hneg,c1,hii]
   refine Next.mk (k+1) ⟨by omega,by omega⟩ (Imp.slots (by simp [go_sem]) ?_ rfl) (by omega)
   rw [←hSS,hFl,hlv]
   simp
end Go.Proofs.YtnoifgjiipgpoaaGreatDoor

set_option maxRecDepth 4000
namespace Go.Proofs.YtnoifgjiipgpoaaGreatDoor
open Go Go.Proofs.YtnoifgjiipgpoaaGreatDoor.R
def Inst.row (x:Inst) (a:Stop):List Int:=x.stops.map (far a)
def Inst.mat (x:Inst):List (List Int):=if x.may then x.stops.map x.row else []
abbrev Inst.cs (x:Inst):List AV:=[.t (.i x.pairs),.t (.i x.cars),.t (.i x.room),.t (.sl (x.stops.map Stop.t))]
theorem ints_snoc (l:List Int) (n:Int):ints l++[[.i n]]=ints (l++[n]):=by simp [ints]
def Inst.rows (x:Inst):List (List T):=x.stops.map fun a=>rowT (x.row a)
theorem Inst.rows_len (x:Inst):x.rows.length=x.stops.length:=List.length_map _
theorem Inst.row_len (x:Inst) (a:Stop):(x.row a).length=x.stops.length:=List.length_map _
theorem Inst.rows_snoc (x:Inst) {k:Nat} (h:k<x.stops.length):x.rows.take (k+1)=x.rows.take k++[rowT (x.row x.stops[k])]:=by
 rw [List.take_succ_eq_append_getElem (by rw [x.rows_len];exact h)]
 simp [Inst.rows]
theorem Inst.row_snoc (x:Inst) (a:Stop) {i:Nat} (h:i<x.stops.length):(x.row a).take (i+1)=(x.row a).take i++[far a x.stops[i]]:=by
 rw [List.take_succ_eq_append_getElem (by rw [x.row_len];exact h)]
 simp [Inst.row]
theorem Inst.mat_rows (x:Inst):x.mat.map rowT=if x.may then x.rows else []:=by
 unfold Inst.mat
 split
 ·simp [Inst.rows]
 ·rfl
theorem matrix_pure (x:Inst) (hl:x.stops.length<2^31):Pure P 221 [x.a] (.t (.sl (x.mat.map rowT))):=by
 rw [x.mat_rows]
 refine pure_of Tryz.func221 rfl rfl (by simp [Tryz.f221]) (by simp [bnd,bnd.bndL,Inst.a]) (by split<;>simp [bnd]) fun B hB hnx=>?_
 simp only [Tryz.f221] at hB ⊢
 have hm:mostLen=4294967296:=rfl
 refine K_run hB 60 ?_
 simp [go_sem,Inst.a]
 refine K_call rfl rfl rfl (args:=[x.a]) (f:=44) (by simp [go_sem,Inst.a]) (by simp [go_sem,hB]) ((may_pure x (by omega)).spec _ _) ?_
 by_cases h0:x.may=true
 rotate_left
 ·have h0':x.may=false:=by simpa using h0
  rw [h0']
  refine K_run hB 60 ?_
  simp [go_sem,h0']
 rw [h0]
 refine K_run hB 60 ?_
 simp [go_sem]
 refine K_own 3 1 (by simp [go_sem]) ?_
 refine K_loopP (α:=Nat×Nat×(Nat→AObj)×Nat) (fun (k,j,σ,nx)=>k≤x.stops.length∧σ 0= .box x.cs∧σ j= .arr 1 (x.rows.take k)∧0<j∧j<nx)
  (fun (k,j,σ,nx)=>⟨sl [(1,.ptr 0 0),(3,.ref j),(13,.t (.sl (x.stops.map Stop.t))),(14,.i x.stops.length),(15,.i k)],σ,nx⟩) (fun y=>x.stops.length-y.1) (0,1,_,2)
  ?_ (Imp.slots (by simp [go_sem]) rfl rfl) ?_
 ·exact ⟨Nat.zero_le _,by simp [oput],by simp [oput],by omega,by omega⟩
 rintro ⟨k,j,σ,nx⟩ ⟨g1,c0,cj,gj,gn⟩
 refine K_run hB 60 ?_
 simp [go_sem]
 refine fork_dec (fun h=>?_) (fun h=>?_)
 rotate_left
 ·have:k=x.stops.length:=by omega
  subst this
  rw [←x.rows_len,List.take_length] at cj
  simp [go_sem,cj,h0]
 have htk:=x.rows_snoc h
 have hrl:=x.rows_len
 have hkk:IntKind.i64.wrap ((k:Int)+1)=((k+1:Nat):Int):=by rw [w64 ((k:Int)+1) (by omega)];rfl
 generalize ha:x.stops[k]=a at *
 have hn0:¬0=nx:=by omega
 simp [go_sem,h,ha,Stop.t,c0,hn0]
 refine K_own 6 1 (by simp [go_sem]) ?_
 refine K_loopP (α:=Nat×Nat×(Nat→AObj)×Nat) (fun (i,q,σ',nx')=>i≤x.stops.length∧σ' 0= .box x.cs∧σ' j= .arr 1 (x.rows.take k)∧σ' nx= .box (a.t.map .t)∧σ' q= .arr 1 (ints ((x.row a).take i))∧nx<q∧q<nx')
  (fun (i,q,σ',nx')=>⟨sl [(1,.ptr 0 0),(3,.ref j),(13,.t (.sl (x.stops.map Stop.t))),(14,.i x.stops.length),(15,.i k),(5,.ptr nx 0),(6,.ref q),(20,.t (.sl (x.stops.map Stop.t))),(21,.i x.stops.length),(22,.i i)],σ',nx'⟩) (fun y=>x.stops.length-y.1) (0,nx+1,_,nx+2)
  ?_ (Imp.slots (by simp [go_sem]) rfl rfl) ?_
 ·exact ⟨Nat.zero_le _,by simp [oput,c0,hn0],by simp [oput,cj,show j≠nx by omega,show j≠nx+1 by omega],by simp [oput,Stop.t],by simp [oput,ints],by omega,by omega⟩
 rintro ⟨i,q,σ',nx'⟩ ⟨i1,d0,dj,da,dq,i2,i3⟩
 refine K_run hB 60 ?_
 simp [go_sem]
 refine fork_dec (fun hi=>?_) (fun hi=>?_)
 ·have hti:=x.row_snoc a hi
  have hrl2:=x.row_len a
  have hii:IntKind.i64.wrap ((i:Int)+1)=((i+1:Nat):Int):=by rw [w64 ((i:Int)+1) (by omega)];rfl
  have hlen:(ints ((x.row a).take i)).length=i:=by simp only [ints,List.length_map,List.length_take];omega
  generalize hb:x.stops[i]=b at *
  generalize (x.row a).take i=L at dq hlen hti
  simp [go_sem,hi,hb,Stop.t,da,show ¬nx=nx' by omega]
  refine K_call rfl rfl rfl (args:=[.agg (a.t.map .t),.agg (b.t.map .t)]) (f:=237) (by simp [go_sem,Stop.t]) (by simp [go_sem,hB]) ((far_pure a b).spec _ _) ?_
  have hcap:i+1≤mostLen:=by omega
  refine K_run hB 60 ?_
  simp [go_sem,dq,show ¬q=nx' by omega,hlen,hcap,hii]
  refine Next.mk (i+1,nx'+1,_,nx'+2) ?_ (Imp.slots (by simp [go_sem]) rfl rfl) (by simp only;omega)
  refine ⟨by simp only;omega,?_,?_,?_,?_,by simp only;omega,by simp only;omega⟩
  ·simp [oput,d0,show ¬0=nx' by omega,show ¬0=q by omega]
  ·simp [oput,dj,show ¬j=nx' by omega,show ¬j=q by omega,show ¬j=nx'+1 by omega]
  ·simp [oput,da,show ¬nx=nx' by omega,show ¬nx=q by omega,show ¬nx=nx'+1 by omega,Stop.t]
  ·simp [oput,hti,ints_snoc]
 ·have:i=x.stops.length:=by omega
  subst this
  rw [←x.row_len a,List.take_length] at dq
  simp [go_sem]
  refine K_imp (Imp.freeze (q:=q) (sz:=1) (es:=ints (x.row a)) (by simp [go_sem,dq])) ?_
  have hj0:¬j=q:=by omega
  have hlen:(x.rows.take k).length=k:=by rw [List.length_take];omega
  generalize x.rows.take k=R at dj hlen htk
  have hcap:k+1≤mostLen:=by omega
  refine K_run hB 60 ?_
  simp [go_sem,frz1,frzO,hj0,dj,hkk,hlen,hcap]
  refine Next.mk (k+1,nx',_,nx'+1) ?_ (Imp.slots (by simp [go_sem,frz1]) rfl rfl) (by simp only;omega)
  refine ⟨by simp only;omega,?_,?_,by simp only;omega,by simp only;omega⟩
  ·simp [oput,d0,frzO,frz1.frzL,frz1,show ¬0=nx' by omega,show ¬0=j by omega,show ¬0=q by omega]
  ·simp [oput,htk,rowT]
end Go.Proofs.YtnoifgjiipgpoaaGreatDoor

set_option maxRecDepth 4000
namespace Go.Proofs.YtnoifgjiipgpoaaGreatDoor
open Go Go.Proofs.YtnoifgjiipgpoaaGreatDoor.R
def inf:Int:=1152921504606846976
theorem far_in (a b:Stop):0≤far a b∧far a b<inf:=by
 have h:=sq_in a b
 unfold far rootI inf
 split
 ·omega
 ·have:=rootL_lt (min (sq a b) 1152921504606846976).toNat 31 0
  simp only [Nat.reducePow,Nat.zero_add] at this
  omega
def nearF (k:Nat) (b:Stop):Nat→List Stop→Int→Int
 |_,[],v=>v
 |i,a :: l,v=>nearF k b (i+1) l (if i=k then v else min v (far a b))
def Inst.nearK (x:Inst) (k:Nat) (b:Stop):Int:=(nearF k b 0 x.stops inf).tmod inf
def nears (x:Inst):Nat→List Stop→List Int
 |_,[]=>[]
 |k,b :: l=>x.nearK k b :: nears x (k+1) l
def Inst.near (x:Inst):List Int:=if x.may then nears x 0 x.stops else []
theorem nears_len (x:Inst):∀k l,(nears x k l).length=l.length
 |_,[]=>rfl
 |k,b :: l=>by rw [nears,List.length_cons,nears_len x (k+1) l,List.length_cons]
theorem nears_get (x:Inst):∀(k:Nat) (l:List Stop) (i:Nat) (h:i<l.length),(nears x k l)[i]'(by rw [nears_len];exact h)=x.nearK (k+i) l[i]
 |k,b :: l,0,h=>rfl
 |k,b :: l,i+1,h=>by
  have:=nears_get x (k+1) l i (by simpa using h)
  simp only [nears,List.getElem_cons_succ]
  rw [this,show k+1+i=k+(i+1) by omega]
theorem nears_snoc (x:Inst) {k:Nat} (h:k<x.stops.length):(nears x 0 x.stops).take (k+1)=(nears x 0 x.stops).take k++[x.nearK k x.stops[k]]:=by
 rw [List.take_succ_eq_append_getElem (by rw [nears_len];exact h),nears_get x 0 x.stops k h,Nat.zero_add]
theorem nearF_drop {k:Nat} {b:Stop} {l:List Stop} {i:Nat} {v:Int} (h:i<l.length):nearF k b i (l.drop i) v=nearF k b (i+1) (l.drop (i+1)) (if i=k then v else min v (far l[i] b)):=by rw [List.drop_eq_getElem_cons h];rfl
theorem rows_get (x:Inst) {i:Nat} (h:i<x.rows.length):x.rows[i]=rowT (x.row (x.stops[i]'(by rw [x.rows_len] at h;exact h))):=by simp [Inst.rows]
theorem row_get (x:Inst) (a:Stop) {i:Nat} (h:i<(x.row a).length):(x.row a)[i]=far a (x.stops[i]'(by rw [x.row_len] at h;exact h)):=by simp [Inst.row]
theorem ints_get (l:List Int) {i:Nat} (h:i<(ints l).length):(ints l)[i]=[.i (l[i]'(by simpa [ints] using h))]:=by simp [ints]
theorem ints_len (l:List Int):(ints l).length=l.length:=List.length_map _
theorem near_pure (x:Inst) (hl:x.stops.length<2^31):Pure P 181 [x.a] (.t (.sl (ints x.near))):=by
 have hinf:inf=1152921504606846976:=rfl
 refine pure_of Tryz.func181 rfl rfl (by simp [Tryz.f181]) (by simp [bnd,bnd.bndL,Inst.a]) (by simp [bnd]) fun B hB hnx=>?_
 simp only [Tryz.f181] at hB ⊢
 have hm:mostLen=4294967296:=rfl
 refine K_run hB 60 ?_
 simp [go_sem,Inst.a]
 refine K_call rfl rfl rfl (args:=[x.a]) (f:=221) (by simp [go_sem,Inst.a]) (by simp [go_sem,hB]) ((matrix_pure x hl).spec _ _) ?_
 rw [x.mat_rows]
 by_cases h0:x.may=true
 rotate_left
 ·have h0':x.may=false:=by simpa using h0
  simp only [h0',Bool.false_eq_true,if_false]
  refine K_run hB 60 ?_
  simp [go_sem]
  refine K_own 4 1 (by simp [go_sem]) ?_
  refine K_loopP (α:=Unit) (fun _=>True) (fun _=>⟨sl [(4,.ref 1),(11,.i 0),(12,.i 0)],ob [(1,.arr 1 [])],2⟩) (fun _=>0) () trivial (Sub.of (by omega) (by simp) (by simp [go_sem]) (by simp [go_sem])) ?_
  rintro ⟨⟩ _
  refine K_run hB 60 ?_
  simp [go_sem,Inst.near,h0',ints]
 simp only [h0,if_true]
 have hrl:=x.rows_len
 refine K_run hB 60 ?_
 simp [go_sem,hrl]
 refine K_own 4 1 (by simp [go_sem]) ?_
 refine K_loopP (α:=Nat×Nat×(Nat→AObj)×Nat) (fun (k,j,σ,nx)=>k≤x.stops.length∧σ j= .arr 1 (ints ((nears x 0 x.stops).take k))∧j<nx)
  (fun (k,j,σ,nx)=>⟨sl [(3,.t (.sl x.rows)),(4,.ref j),(11,.i x.stops.length),(12,.i k)],σ,nx⟩) (fun y=>x.stops.length-y.1) (0,1,_,2)
  ?_ (Imp.slots (by simp [go_sem]) rfl rfl) ?_
 ·exact ⟨Nat.zero_le _,by simp [oput,ints],by omega⟩
 rintro ⟨k,j,σ,nx⟩ ⟨g1,cj,gn⟩
 refine K_run hB 60 ?_
 simp [go_sem]
 refine fork_dec (fun h=>?_) (fun h=>?_)
 rotate_left
 ·have:k=x.stops.length:=by omega
  subst this
  rw [←nears_len x 0 x.stops,List.take_length] at cj
  simp [go_sem,cj,Inst.near,h0]
 have htk:=nears_snoc x h
 have hlen:(ints ((nears x 0 x.stops).take k)).length=k:=by rw [ints_len,List.length_take,nears_len];omega
 have hkk:IntKind.i64.wrap ((k:Int)+1)=((k+1:Nat):Int):=by rw [w64 ((k:Int)+1) (by omega)];rfl
 generalize (nears x 0 x.stops).take k=R at cj hlen htk
 generalize hb:x.stops[k]=b at *
 simp [go_sem,hrl]
 refine K_loopP (α:=Nat×Int) (fun (i,v)=>i≤x.stops.length∧(0≤v∧v≤inf)∧(nearF k b i (x.stops.drop i) v).tmod inf=x.nearK k b)
  (fun (i,v)=>⟨sl [(3,.t (.sl x.rows)),(4,.ref j),(11,.i x.stops.length),(12,.i k),(5,.i k),(6,.i v),(16,.i x.stops.length),(17,.i i)],σ,nx⟩) (fun y=>x.stops.length-y.1) (0,inf)
  ⟨Nat.zero_le _,by omega,rfl⟩ (Imp.slots (by simp [go_sem,hinf]) rfl rfl) ?_
 rintro ⟨i,v⟩ ⟨i1,i2,i3⟩
 refine K_run hB 60 ?_
 simp [go_sem]
 refine fork_dec (fun hi=>?_) (fun hi=>?_)
 ·have hii:IntKind.i64.wrap ((i:Int)+1)=((i+1:Nat):Int):=by rw [w64 ((i:Int)+1) (by omega)];rfl
  have hfa:=far_in x.stops[i] b
  have hrow:=x.row_len x.stops[i]
  rw [nearF_drop hi] at i3
  by_cases hik:i=k
  ·rw [if_pos hik] at i3
   simp [go_sem,hik,w64 ((k:Int)+1) (by omega)]
   exact Next.mk (k+1,v) ⟨by simp only;omega,i2,by rw [hik] at i3;exact i3⟩ (Imp.slots (by simp [go_sem]) rfl rfl) (by simp only;omega)
  ·rw [if_neg hik] at i3
   simp [go_sem,hik,hi,h,hrl,rows_get,rowT,ints_get,ints_len,hrow,row_get,hb,hii]
   exact Next.mk (i+1,min v (far x.stops[i] b)) ⟨by simp only;omega,by omega,i3⟩ (Imp.slots (by simp [go_sem]) rfl rfl) (by simp only;omega)
 ·have:i=x.stops.length:=by omega
  subst this
  rw [List.drop_length] at i3
  have i4:v.tmod inf=x.nearK k b:=i3
  have hcap:k+1≤mostLen:=by omega
  rw [hinf] at i4
  have hw:IntKind.i64.wrap (x.nearK k b)=x.nearK k b:=by
   refine w64 _ ?_
   rw [←i4,Int.tmod_eq_emod_of_nonneg i2.1]
   omega
  simp [go_sem,i4,hw,cj,hlen,hcap,hkk]
  refine Next.mk (k+1,nx,_,nx+1) ?_ (Imp.slots (by simp [go_sem]) rfl rfl) (by simp only;omega)
  exact ⟨by simp only;omega,by simp [oput,htk,ints_snoc],by simp only;omega⟩
end Go.Proofs.YtnoifgjiipgpoaaGreatDoor

set_option maxRecDepth 4000
namespace Go.Proofs.YtnoifgjiipgpoaaGreatDoor
open Go Go.Proofs.YtnoifgjiipgpoaaGreatDoor.R
def leftSum (may:Nat):Nat→List Int→Int→Int
 |_,[],n=>n
 |j,d :: l,n=>leftSum may (j+1) l (if 0<j∧hasB may j=false then IntKind.i64.wrap (n+d) else n)
theorem left_pure (near:List Int) (may:Nat) (σ:Nat→AObj) (nx:Nat):CallQ P 182 [.t (.sl (ints near)),.u may] σ nx fun r σ' nx'=>r= .fn (.func 222) [] [.ptr nx 0,.ptr (nx+1) 0]∧nx'=nx+2∧
  σ'=oput (oput σ nx (.box [.t (.sl (ints near))])) (nx+1) (.box [.u may]):=by
 refine spec_of Tryz.func182 rfl rfl (by simp [Tryz.f182]) fun B hB hnx hσ=>?_
 simp only [Tryz.f182] at hB ⊢
 refine K_run hB 100 ?_
 simp [go_sem]
 omega
theorem left1_spec (near:List Int) (may:Nat) (hm:may<2^64) (hl:near.length<2^63) (q b1 b2 nx:Nat) (st:Int→Nat→AObj) (h1:∀n,st n b1= .box [.t (.sl (ints near))]) (h2:∀n,st n b2= .box [.u may])
  (hy:∀(j d n:Int),YieldQ P q [.i j,.i d] (st n) nx fun σ' nx'=>σ'=st (IntKind.i64.wrap (n+d))∧nx'=nx) (n0:Int):
  CallQ P 222 [.yld q,.ptr b1 0,.ptr b2 0] (st n0) nx fun r σ' nx'=>σ'=st (leftSum may 0 near n0)∧nx'=nx:=by
 refine spec_of Tryz.func222 rfl rfl (by simp [Tryz.f222]) fun B hB hnx hσ=>?_
 simp only [Tryz.f222] at hB ⊢
 have hil:(ints near).length=near.length:=List.length_map _
 refine K_run hB 100 ?_
 simp [go_sem,h1,hil]
 refine K_loopP (α:=Nat×Int) (fun (k,n)=>k≤near.length∧leftSum may k (near.drop k) n=leftSum may 0 near n0) (fun (k,n)=>⟨sl [(0,.yld q),(1,.ptr b1 0),(2,.ptr b2 0),(6,.t (.sl (ints near))),(7,.i near.length),(8,.i k)],st n,nx⟩) (fun a=>near.length-a.1) (0,n0) ⟨Nat.zero_le _,rfl⟩ (Imp.slots (by simp [go_sem]) rfl rfl) ?_
 rintro ⟨k,n⟩ ⟨g1,g2⟩
 refine K_run hB 60 ?_
 simp [go_sem]
 refine fork_dec (fun hk=>?_) (fun hk=>?_)
 ·have hkk:IntKind.i64.wrap ((k:Int)+1)=((k+1:Nat):Int):=by rw [w64 ((k:Int)+1) (by omega)];rfl
  rw [List.drop_eq_getElem_cons hk,leftSum] at g2
  have hget:=ints_getS near hk
  generalize near[k]=d at *
  by_cases c1:0<k
  ·simp [go_sem,hil,hk,hget,c1,h2]
   refine K_call rfl rfl rfl (args:=[.u may,.i k]) (f:=223) (by simp [go_sem]) (by simp [go_sem,hB]) ((has_pure may k hm).spec _ _) ?_
   cases c2:hasB may k with
   |true=>
    rw [if_neg (by simp [c2])] at g2
    refine K_run hB 100 ?_
    simp [go_sem,hkk]
    exact Next.mk (k+1,n) ⟨by simp only;omega,g2⟩ (Imp.slots (by simp [go_sem]) rfl rfl) (by simp only;omega)
   |false=>
    rw [if_pos ⟨c1,c2⟩] at g2
    refine K_run hB 100 ?_
    simp [go_sem]
    refine K_yield rfl rfl rfl (q:=q) (args:=[.i k,.i d]) (by simp [go_sem]) (by simp [go_sem]) (by simp [go_sem,hB]) (hy k d n) ?_
    rintro σ' nx' ⟨rfl,rfl⟩
    refine K_run hB 100 ?_
    simp [go_sem,hkk]
    exact Next.mk (k+1,IntKind.i64.wrap (n+d)) ⟨by simp only;omega,g2⟩ (Imp.slots (by simp [go_sem]) rfl rfl) (by simp only;omega)
  ·rw [if_neg (by simp [c1])] at g2
   simp [go_sem,hil,hk,hget,c1,h2,hkk]
   exact Next.mk (k+1,n) ⟨by simp only;omega,g2⟩ (Imp.slots (by simp [go_sem]) rfl rfl) (by simp only;omega)
 ·have:k=near.length:=by omega
  subst this
  rw [List.drop_length,leftSum] at g2
  simp [go_sem,g2,hnx]
end Go.Proofs.YtnoifgjiipgpoaaGreatDoor
