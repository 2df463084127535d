/- Parts of the proof: Parse2, Small, State, State2, State3, State4, State5, Arg, Lists, SortP, SortL, Node, SortW, SortW2, SortW3, SortW4, SortW5, Mat, MatR. -/
import Derived.Test.YtnoifgjiipgpoaaGreatMD
set_option linter.all false
set_option maxHeartbeats 4000000
set_option maxRecDepth 4000
namespace Go.Proofs.YtnoifgjiipgpoaaGreat
open Go Go.Proofs.YtnoifgjiipgpoaaGreat.R
def stopOf (l:List Int):Stop:=⟨l.getD 0 0,l.getD 1 0,l.getD 2 0,l.getD 3 0,l.getD 4 0,l.getD 5 0⟩
theorem stop_pure (l:List Int) (h:l.length=6):Pure P 38 [.t (.sl (ints l))] (.agg ((stopOf l).t.map .t)):=by
 obtain ⟨a,b,c,d,e,f,rfl⟩:∃a b c d e f,l=[a,b,c,d,e,f]:=by
  match l,h with
  |[a,b,c,d,e,f],_=>exact ⟨a,b,c,d,e,f,rfl⟩
 refine pure_of Tryz.func38 rfl rfl (by simp [Tryz.f38]) (by simp [bnd,bnd.bndL]) (by simp [bnd,bnd.bndL,Stop.t]) fun B hB hnx=>?_
 simp only [Tryz.f38] at hB ⊢
 refine K_run hB 60 ?_
 simp [go_sem]
 refine K_arrp (es:=ints [a,b,c,d,e,f]) rfl (by simp [go_sem,hB]) rfl tt145 rfl (by simp [go_sem]) (by simp [ints]) (by simp [ints]) ?_
 refine K_run hB 100 ?_
 simp [go_sem,ints,stopOf,Stop.t]
def oddB (l:List Int):Bool:=decide (l.length≠6)
theorem odd_pure (l:List Int):Pure P 36 [.t (.sl (ints l))] (.b (oddB l)):=by
 refine pure_of Tryz.func36 rfl rfl (by simp [Tryz.f36]) (by simp [bnd,bnd.bndL]) (by simp [bnd]) fun B hB hnx=>?_
 simp only [Tryz.f36] at hB ⊢
 have hlen:(ints l).length=l.length:=List.length_map _
 refine K_run hB 60 ?_
 simp [go_sem,hlen,oddB]
 omega
def oddAt:Nat→List (List Int)→Int
 |_,[]=>-1
 |k,l :: r=>if oddB l=true then k else oddAt (k+1) r
theorem oddAt_any:∀k (r:List (List Int)),decide (0≤oddAt k r)=r.any oddB
 |k,[]=>by simp [oddAt]
 |k,l :: r=>by
  rw [oddAt,List.any_cons]
  split
  ·rename_i h;rw [h];simp
  ·rename_i h
   have h':oddB l=false:=by simpa using h
   rw [h',Bool.false_or]
   exact oddAt_any (k+1) r
theorem index_pure (r:List (List Int)) (hr:r.length<2^62):Pure P 69 [.t (.sl (r.map rowT)),.fn (.func 36) [] []] (.i (oddAt 0 r)):=by
 refine pure_of Tryz.func69 rfl rfl (by simp [Tryz.f69]) (by simp [bnd,bnd.bndL]) (by simp [bnd]) fun B hB hnx=>?_
 simp only [Tryz.f69] at hB ⊢
 refine K_run hB 60 ?_
 simp [go_sem]
 refine K_loopP (α:=Nat) (fun k=>k≤r.length∧oddAt k (r.drop k)=oddAt 0 r) (fun k=>⟨sl [(0,.t (.sl (r.map rowT))),(1,.fn (.func 36) [] []),(7,.i r.length),(8,.i k)],noObj,0⟩) (fun k=>r.length-k) 0 ⟨Nat.zero_le _,rfl⟩ (Imp.slots (by simp [go_sem]) rfl rfl) ?_
 rintro k ⟨h1,h2⟩
 refine K_run hB 60 ?_
 simp [go_sem]
 refine fork_dec (fun h=>?_) (fun h=>?_)
 ·rw [List.drop_eq_getElem_cons h,oddAt] at h2
  have hkk:IntKind.i64.wrap ((k:Int)+1)=((k+1:Nat):Int):=by rw [w64 ((k:Int)+1) (by omega)];rfl
  generalize hl:r[k]=l at *
  simp [go_sem,h,hl,rowT]
  refine K_call rfl rfl rfl (args:=[.t (.sl (ints l))]) (f:=36) (by simp [go_sem]) (by simp [go_sem,hB]) ((odd_pure l).spec _ _) ?_
  by_cases ho:oddB l=true
  ·rw [if_pos ho] at h2
   rw [ho]
   refine K_run hB 60 ?_
   simp [go_sem,←h2]
  ·rw [if_neg ho] at h2
   have ho':oddB l=false:=by simpa using ho
   rw [ho']
   refine K_run hB 60 ?_
   simp [go_sem,hkk]
   exact Next.mk (k+1) ⟨by omega,h2⟩ (Imp.slots (by simp [go_sem,rowT]) rfl rfl) (by omega)
 ·have:k=r.length:=by omega
  subst this
  rw [List.drop_length] at h2
  simp [go_sem,←h2,oddAt]
theorem contains_pure (r:List (List Int)) (hr:r.length<2^62):Pure P 37 [.t (.sl (r.map rowT)),.fn (.func 36) [] []] (.b (r.any oddB)):=by
 rw [←oddAt_any 0]
 refine pure_of Tryz.func37 rfl rfl (by simp [Tryz.f37]) (by simp [bnd,bnd.bndL]) (by simp [bnd]) fun B hB hnx=>?_
 simp only [Tryz.f37] at hB ⊢
 refine K_run hB 60 ?_
 simp [go_sem]
 refine K_call rfl rfl rfl (args:=[.t (.sl (r.map rowT)),.fn (.func 36) [] []]) (f:=69) (by simp [go_sem]) (by simp [go_sem,hB]) ((index_pure r hr).spec _ _) ?_
 refine K_run hB 60 ?_
 simp [go_sem]
def Inst.zero:Inst:=⟨0,0,0,[]⟩
def instOf:List (List Int)→Inst
 |r :: l=>⟨r.getD 0 0,r.getD 1 0,r.getD 2 0,l.map stopOf⟩
 |[]=>Inst.zero
def parseL (l:List (List Int)):Inst×Int:=
 if l=[]∨(l.headD []).length≠3∨(l.drop 1).any oddB=true then (Inst.zero,2)
 else if (instOf l).may=true then (instOf l,0) else (Inst.zero,1)
def parseR (b:List Nat):Inst×Int:=if (linesR b).2≠0 then (Inst.zero,(linesR b).2) else parseL (linesR b).1
theorem linesF_len (b:List Nat):∀f i a l,linesF b f i a=some l→l.length≤a.length+f
 |0,i,a,l,h=>by simp [linesF] at h;subst h;simp
 |f+1,i,a,l,h=>by
  rw [linesF] at h
  split at h
  ·split at h
   ·have:=linesF_len b f _ _ _ h
    split at this
    ·omega
    ·rw [List.length_append] at this;simp only [List.length_cons,List.length_nil] at this;omega
   ·cases h
  ·cases h;omega
theorem linesR_len (b:List Nat):(linesR b).1.length≤4097:=by
 unfold linesR
 split
 ·simp
 ·split
  ·simp
  ·rename_i h1 _ a h
   have:=linesF_len b _ _ _ _ h
   simp only [List.length_nil] at this
   show a.length≤4097
   omega
def stopsT (l:List (List Int)) (k:Nat):List (List T):=((l.take k).map stopOf).map Stop.t
theorem stopsT_len {l:List (List Int)} {k:Nat} (h:k≤l.length):(stopsT l k).length=k:=by simp only [stopsT,List.length_map,List.length_take];omega
theorem stopsT_snoc {l:List (List Int)} {k:Nat} (h:k<l.length):stopsT l k++[(stopOf l[k]).t]=stopsT l (k+1):=by simp only [stopsT];rw [List.take_add_one,List.getElem?_eq_getElem h,List.map_append,List.map_append];rfl
theorem parse_pure (b:List Nat) (hb:b.length<2^62) (hb8:∀c∈b,c<256):Pure P 16 [.t (.sl (byt b))] (.tup [(parseR b).1.a,.i (parseR b).2]):=by
 refine pure_of Tryz.func16 rfl rfl (by simp [Tryz.f16]) (by simp [bnd,bnd.bndL]) (by simp [bnd,bnd.bndL,Inst.a]) fun B hB hnx=>?_
 simp only [Tryz.f16] at hB ⊢
 generalize hR:parseR b=R
 rw [parseR] at hR
 have hm:mostLen=4294967296:=rfl
 refine K_run hB 60 ?_
 simp [go_sem]
 refine K_call rfl rfl rfl (args:=[.t (.sl (byt b))]) (f:=35) (by simp [go_sem]) (by simp [go_sem,hB]) ((lines_pure b hb hb8).spec _ _) ?_
 have hlen:=linesR_len b
 rcases hle:linesR b with ⟨l,e⟩
 rw [hle] at hR hlen
 simp only at hR hlen
 by_cases he:e=0
 rotate_left
 ·rw [if_pos he] at hR
  subst hR
  refine K_run hB 60 ?_
  simp [go_sem,he,Inst.zero,Inst.a]
 subst he
 rw [if_neg (by simp),parseL] at hR
 cases l with
 |nil=>
  rw [if_pos (.inl rfl)] at hR
  subst hR
  refine K_run hB 60 ?_
  simp [go_sem,Inst.zero,Inst.a]
 |cons r l=>
  simp only [List.headD_cons,List.drop_succ_cons,List.drop_zero] at hR
  have hri:(ints r).length=r.length:=List.length_map _
  have h10:¬(l.length:Int)+1=0:=by omega
  by_cases h3:(r.length:Int)=3
  rotate_left
  ·rw [if_pos (.inr (.inl (by omega)))] at hR
   subst hR
   refine K_run hB 60 ?_
   simp [go_sem,rowT,hri,h3,h10,Inst.zero,Inst.a]
  have hall:∀y∈l.map rowT,y.length=1:=by
   intro y hy
   obtain ⟨n,_,rfl⟩:=List.mem_map.1 hy
   rfl
  have h11:(1:Int)≤l.length+1:=by omega
  refine K_run hB 60 ?_
  simp [go_sem,rowT,hri,h3,h10,h11]
  have hll:l.length<2^62:=by simp only [List.length_cons] at hlen;omega
  refine K_call rfl rfl rfl (args:=[.t (.sl (l.map rowT)),.fn (.func 36) [] []]) (f:=37) (by simp [go_sem,rowT]) (by simp [go_sem,hB]) ((contains_pure l hll).spec _ _) ?_
  by_cases ha:l.any oddB=true
  ·rw [if_pos (.inr (.inr ha))] at hR
   subst hR
   rw [ha]
   refine K_run hB 60 ?_
   simp [go_sem,Inst.zero,Inst.a]
  have ha':l.any oddB=false:=by simpa using ha
  rw [if_neg (by simp;exact ⟨by omega,by simpa using ha'⟩)] at hR
  rw [ha']
  refine K_run hB 60 ?_
  simp [go_sem]
  obtain ⟨x,y,z,rfl⟩:∃x y z,r=[x,y,z]:=by
   match r,h3 with
   |[x,y,z],_=>exact ⟨x,y,z,rfl⟩
  refine K_drawnF [16,17] [0,1,2,3,4,5,6,7,8,9,10,11,12,13,14,15] rfl (by rw [hB];kernel_rfl) (by kernel_rfl) fun ht hf=>?_
  refine K_run hB 150 ?_
  simp [go_sem,ints,rowT,h11,ht,hf]
  have hodd:∀a∈l,a.length=6:=by
   intro a h
   have:=List.any_eq_false.1 ha' a h
   simpa [oddB] using this
  refine K_loopP (α:=Nat×Nat×(Nat→AObj)×Nat) (fun (k,j,σ,nx)=>k≤l.length∧σ 0= .box [.i 0,.i 0,.i 0,.fsl []]∧σ 1= .box [.i x,.i y,.i z,.ref j]∧σ j= .arr 6 (stopsT l k)∧1<j∧j<nx)
   (fun (k,j,σ,nx)=>⟨sl [(2,.ptr 0 0),(3,.i 0),(7,.ptr 1 0),(53,.t (.sl (l.map rowT))),(54,.i l.length),(55,.i k)],σ,nx⟩) (fun x=>l.length-x.1) (0,2,_,3) ?_
   ((Imp.ownB (b:=1) (off:=3) (sz:=6) (cs:=[.i x,.i y,.i z,.fsl []]) (by simp [oput]) rfl).trans (Imp.slots (by simp [go_sem,rowT]) rfl rfl)) ?_
  ·exact ⟨Nat.zero_le _,by simp [oput],by simp [oput],by simp [oput,stopsT],by omega,by omega⟩
  rintro ⟨k,j,σ,nx⟩ ⟨g1,g2,g3,g4,g5,g6⟩
  refine K_run hB 8 ?_
  simp [go_sem]
  refine fork_dec (fun hk=>?_) (fun hk=>?_)
  ·have hti:=stopsT_snoc hk
   have hkk:IntKind.i64.wrap ((k:Int)+1)=((k+1:Nat):Int):=by rw [w64 ((k:Int)+1) (by omega)];rfl
   have ho6:=hodd l[k] (List.getElem_mem hk)
   have hlt:=stopsT_len g1
   generalize stopsT l k=L at g4 hti hlt
   generalize ha:l[k]=a at *
   have hcap:k+1≤mostLen:=by simp only [List.length_cons] at hlen;omega
   have hst:=stop_pure a ho6
   generalize stopOf a=d at *
   simp [go_sem]
   refine K_run hB 60 ?_
   simp [go_sem,rowT,hk,ha]
   refine K_drawnT [5,7] rfl (by rw [hB];kernel_rfl) (by kernel_rfl) fun ht=>?_
   refine K_run hB 60 ?_
   simp [go_sem,ht,g3]
   refine K_dCallP rfl rfl rfl (args:=[.t (.sl (ints a))]) (f:=38) (by simp [go_sem]) hst ?_
   refine K_run hB 60 ?_
   simp [go_sem,ht,g3,g4,hlt,hcap,hkk,Stop.t,show ¬1=j by omega,show ¬1=nx by omega]
   refine Next.mk (k+1,nx,_,nx+1) ?_ (Imp.slots (by simp [go_sem,rowT]) rfl rfl) (by simp only;omega)
   refine ⟨by simp only;omega,?_,?_,?_,by simp only;omega,by simp only;omega⟩
   ·simp [oput,show ¬0=nx by omega,show ¬0=j by omega,g2]
   ·simp [oput]
   ·simp only [←hti]
    simp [oput,show ¬nx=1 by omega,Stop.t]
  ·have:k=l.length:=by omega
   subst this
   simp [go_sem]
   have e:stopsT l l.length=(instOf ([x,y,z] :: l)).stops.map Stop.t:=by simp only [stopsT,List.take_length,instOf]
   rw [e] at g4
   have hm:=may_pure (instOf ([x,y,z] :: l)) (by simp only [instOf,List.length_map];omega)
   have ex:(instOf ([x,y,z] :: l)).pairs=x:=rfl
   have ey:(instOf ([x,y,z] :: l)).cars=y:=rfl
   have ez:(instOf ([x,y,z] :: l)).room=z:=rfl
   generalize instOf ([x,y,z] :: l)=J at *
   subst ex ey ez
   have h0j:¬0=j:=by omega
   have h1j:¬1=j:=by omega
   refine K_impK ((Imp.freeze (q:=j) g4).trans (Sub.of (n:=2) (l:=[(2,.ptr 0 0),(7,.ptr 1 0)]) (o:=[(0,.box [.i 0,.i 0,.i 0,.fsl []]),(1,.box [.i J.pairs,.i J.cars,.i J.room,.t (.sl (J.stops.map Stop.t))])]) (by omega) (by simp only;omega) (by simp [go_sem,frz1]) (by simp [go_sem,frzO,frz1,frz1.frzL,g2,g3,h0j,h1j]))) rfl ?_
   refine K_run hB 60 ?_
   simp [go_sem]
   refine K_call rfl rfl rfl (args:=[J.a]) (f:=13) (by simp [go_sem,Inst.a]) (by simp [go_sem,hB]) (hm.spec _ _) ?_
   cases hmay:J.may with
   |true=>
    rw [hmay,if_pos rfl] at hR
    subst hR
    refine K_run hB 60 ?_
    simp [go_sem,Inst.a]
   |false=>
    rw [hmay,if_neg (by simp)] at hR
    subst hR
    refine K_run hB 60 ?_
    simp [go_sem,Inst.a,Inst.zero]
end Go.Proofs.YtnoifgjiipgpoaaGreat

set_option maxRecDepth 4000
namespace Go.Proofs.YtnoifgjiipgpoaaGreat
open Go Go.Proofs.YtnoifgjiipgpoaaGreat.R
def smallB:List Nat:=[49,32,49,32,53,10,48,32,48,32,48,32,48,32,49,48,48,32,48,10,51,32,48,32,50,32,48,32,53,48,32,49,10,48,32,52,32,45,50,32,48,32,57,48,32,49,10]
def smallS:ByteArray:=⟨(smallB.map UInt8.ofNat).toArray⟩
def small:Inst:=⟨1,1,5,[⟨0,0,0,0,100,0⟩,⟨3,0,2,0,50,1⟩,⟨0,4,-2,0,90,1⟩]⟩
theorem small_parse:parseR smallB=(small,0):=by
 have h:linesR smallB=([[1,1,5],[0,0,0,0,100,0],[3,0,2,0,50,1],[0,4,-2,0,90,1]],0):=by decide+kernel
 rw [parseR,h]
 rfl
theorem small_bytes:bytesT smallS=byt smallB:=by
 simp [bytesT,smallS,byt,smallB]
theorem small_pure:Pure P 17 [] (.t (.v (.string smallS))):=by
 refine pure_of Tryz.func17 rfl rfl (by simp [Tryz.f17]) (by simp) (by simp [bnd]) fun B hB hnx=>?_
 simp only [Tryz.f17] at hB ⊢
 refine K_run hB 60 ?_
 simp [go_sem,smallS,smallB]
end Go.Proofs.YtnoifgjiipgpoaaGreat

set_option maxRecDepth 4000
namespace Go.Proofs.YtnoifgjiipgpoaaGreat
open Go Go.Proofs.YtnoifgjiipgpoaaGreat.R
structure State where
 spot:Int
 car:Int
 time:Int
 load:Int
 first:Int
 must:Nat
 can:Nat
 on:Nat
 deriving DecidableEq
def State.cs (s:State):List AV:=[.i s.spot,.i s.car,.i s.time,.i s.load,.i s.first,.u s.must,.u s.can,.u s.on]
def State.a (s:State):AV:=.agg s.cs
structure State.ok (s:State):Prop where
 must:s.must<2^64
 can:s.can<2^64
 on:s.on<2^64
def State.zero:State:=⟨0,0,0,0,0,0,0,0⟩
def stop0:Stop:=⟨0,0,0,0,0,0⟩
def Inst.stop (x:Inst) (j:Int):Stop:=x.stops.getD j.toNat stop0
def State.mayB (x:Inst) (s:State):Bool:=
 decide (s.spot≥0)&&decide (s.spot≤2*x.pairs)&&decide (s.car≥1)&&decide (s.car≤x.cars)&&decide (s.time≥0)&&decide (s.time≤1073741824)&&decide (s.load≥0)&&decide (s.load≤1000)
def hereC (x:Inst) (s:State):List AV:=[.t (.i x.pairs),.t (.i x.cars),.t (.i x.room),.t (.sl (x.stops.map Stop.t)),.i s.spot,.i s.car,.i s.time,.i s.load,.i s.first,.u s.must,.u s.can,.u s.on]
def Inst.rootS (x:Inst):State:=if x.may then {State.zero with car:=1,time:=(x.stop 0).ready} else State.zero
structure Inst.Fit (x:Inst) (p:Nat):Prop where
 pairs:x.pairs=p
 few:p≤16
 cars:1≤x.cars∧x.cars≤8
 room:1≤x.room∧x.room≤1000
 len:x.stops.length=2*p+1
 stop:∀k (h:k<x.stops.length),x.stopB k x.stops[k]=true
theorem allFrom_get {α:Type} {f:Nat→α→Bool}:∀{l:List α} {k:Nat},allFrom f k l=true→∀i (h:i<l.length),f (k+i) l[i]=true
 |a :: l,k,h,0,_=>by simp [allFrom] at h;exact h.1
 |a :: l,k,h,i+1,hi=>by
  simp only [allFrom,Bool.and_eq_true] at h
  have:=allFrom_get h.2 i (by simpa using hi)
  rw [show k+(i+1)=k+1+i by omega]
  exact this
theorem Inst.fit {x:Inst} (h:x.may=true):∃p:Nat,x.Fit p:=by
 simp only [Inst.may,inB,Bool.and_eq_true,decide_eq_true_eq] at h
 obtain ⟨⟨⟨⟨h1,h2⟩,h3⟩,h4⟩,h5⟩:=h
 refine ⟨x.pairs.toNat,by omega,by omega,h2,h3,by omega,fun k hk=>?_⟩
 have:=allFrom_get h5 k hk
 rwa [Nat.zero_add] at this
structure Stop.Fit (s:Stop):Prop where
 ready:0≤s.ready∧s.ready≤1048576
 due:0≤s.due∧s.due≤1048576
 service:0≤s.service∧s.service≤1000
 order:s.ready≤s.due
 demand: -1000≤s.demand∧s.demand≤1000
theorem Inst.stop_at {x:Inst} {k:Nat} (h:k<x.stops.length):x.stop k=x.stops[k]:=by
 rw [Inst.stop,List.getD_eq_getElem?_getD,Int.toNat_natCast,List.getElem?_eq_getElem h];rfl
theorem Inst.Fit.B {x:Inst} {p:Nat} (h:x.Fit p) {k:Nat} (hk:k≤2*p):x.stopB k (x.stop k)=true:=by
 have hl:=h.len
 rw [Inst.stop_at (by omega)]
 exact h.stop k (by omega)
theorem Inst.Fit.take {x:Inst} {p:Nat} (h:x.Fit p) {k:Nat} (h1:1≤k) (h2:k≤p):1≤(x.stop k).demand∧(x.stop k).demand≤1000:=by
 have:=h.B (k:=k) (by omega)
 have e1:¬k=0:=by omega
 have e2:(k:Int)≤x.pairs:=by rw [h.pairs];omega
 simp only [Inst.stopB,Bool.and_eq_true,if_neg e1,if_pos e2,inB,decide_eq_true_eq] at this
 exact this.2
theorem Inst.Fit.bring {x:Inst} {p:Nat} (h:x.Fit p) {k:Nat} (h1:1≤k) (h2:k≤p):(x.stop (k+p:Nat)).demand= -(x.stop k).demand:=by
 have:=h.B (k:=k+p) (by omega)
 have e1:¬k+p=0:=by omega
 have e2:¬((k+p:Nat):Int)≤x.pairs:=by rw [h.pairs];omega
 simp only [Inst.stopB,Bool.and_eq_true,if_neg e1,if_neg e2,inB,decide_eq_true_eq] at this
 rw [this.2,show k+p-x.pairs.toNat=k by rw [h.pairs];omega]
 have ht:=h.take h1 h2
 have hl:=h.len
 have e:x.stops.getD k ⟨0,0,0,0,0,0⟩=x.stop k:=by rw [Inst.stop_at (by omega),List.getD_eq_getElem?_getD,List.getElem?_eq_getElem (by omega)];rfl
 rw [e,w64 _ (by omega)]
theorem Inst.Fit.yard {x:Inst} {p:Nat} (h:x.Fit p):(x.stop 0).demand=0:=by
 have:=h.B (k:=0) (by omega)
 simp only [Inst.stopB,Bool.and_eq_true,if_true,decide_eq_true_eq] at this
 exact this.2.1
theorem Inst.Fit.at {x:Inst} {p:Nat} (h:x.Fit p) {j:Int} (h0:0≤j) (h1:j≤2*p):(x.stop j).Fit:=by
 have hl:=h.len
 have hj:j.toNat<x.stops.length:=by omega
 have e:x.stop j=x.stops[j.toNat]:=by rw [Inst.stop,List.getD_eq_getElem?_getD,List.getElem?_eq_getElem hj];rfl
 have:=h.stop j.toNat hj
 rw [←e] at this
 simp only [Inst.stopB,inB,Bool.and_eq_true,decide_eq_true_eq] at this
 obtain ⟨⟨⟨⟨⟨⟨a1,a2⟩,⟨a3,a4⟩⟩,⟨a5,a6⟩,⟨a7,a8⟩⟩,a9⟩,⟨a10,a11⟩⟩,_⟩:=this
 refine ⟨⟨a5,a6⟩,⟨a7,a8⟩,⟨a10,a11⟩,a9,?_⟩
 obtain ⟨k,rfl⟩:∃k:Nat,j=k:=⟨j.toNat,by omega⟩
 by_cases e1:k=0
 ·subst e1
  have:=h.yard
  rw [show ((0:Nat):Int)=0 from rfl,this];omega
 by_cases e2:k≤p
 ·have:=h.take (k:=k) (by omega) e2
  omega
 ·have:=h.take (k:=k-p) (by omega) (by omega)
  have e:=h.bring (k:=k-p) (by omega) (by omega)
  rw [show k-p+p=k by omega] at e
  omega
theorem hmay_pure (x:Inst) (s:State) (h:x.may=true):Pure P 89 [.agg (hereC x s)] (.b (s.mayB x)):=by
 obtain ⟨p,hx⟩:=x.fit h
 have hf:=hx.few
 refine pure_of Tryz.func89 rfl rfl (by simp [Tryz.f89]) (by simp [bnd,bnd.bndL,hereC]) (by simp [bnd]) fun B hB hnx=>?_
 simp only [Tryz.f89] at hB ⊢
 have w1:=w64 (2*x.pairs) (by rw [hx.pairs];omega)
 generalize hR:s.mayB x=R
 rw [State.mayB] at hR
 refine K_run hB 100 ?_
 simp [go_sem,hereC]
 refine atVal_decT (fun h1=>?_) (fun h1=>by simp [go_sem,h1,w1,←hR])
 simp [go_sem,h1,w1]
 refine atVal_decT (fun h2=>?_) (fun h2=>by simp [go_sem,h2,w1,←hR])
 simp [go_sem,h2,w1]
 refine atVal_decT (fun h3=>?_) (fun h3=>by simp [go_sem,h3,w1,←hR])
 simp [go_sem,h3,w1]
 refine atVal_decT (fun h4=>?_) (fun h4=>by simp [go_sem,h4,w1,←hR])
 simp [go_sem,h4,w1]
 refine atVal_decT (fun h5=>?_) (fun h5=>by simp [go_sem,h5,w1,←hR])
 simp [go_sem,h5,w1]
 refine atVal_decT (fun h6=>?_) (fun h6=>by simp [go_sem,h6,w1,←hR])
 simp [go_sem,h6,w1]
 refine atVal_decT (fun h7=>?_) (fun h7=>by simp [go_sem,h7,w1,←hR])
 simp [go_sem,h7,w1]
 simp [←hR,h1,h2,h3,h4,h5,h6,h7]
theorem Inst.Fit.ltN {x:Inst} {p:Nat} (h:x.Fit p) {j:Int} (h1:j≤2*p):j.toNat<x.stops.length:=by
 have hl:=h.len
 omega
theorem Inst.Fit.get {x:Inst} {p:Nat} (h:x.Fit p) {j:Int} (h1:j≤2*p):x.stops[j.toNat]'(h.ltN h1)=x.stop j:=by
 rw [Inst.stop,List.getD_eq_getElem?_getD,List.getElem?_eq_getElem (h.ltN h1)];rfl
theorem Inst.Fit.get0 {x:Inst} {p:Nat} (h:x.Fit p):x.stops[0]'(by rw [h.len];omega)=x.stop 0:=h.get (j:=0) (by omega)
theorem Inst.Fit.lt {x:Inst} {p:Nat} (h:x.Fit p) {j:Int} (h1:j≤2*p):j<(x.stops.length:Int):=by
 have hl:=h.len
 omega
theorem hfar_pure (x:Inst) (s:State) (j:Int) {p:Nat} (hx:x.Fit p) (h0:0≤s.spot) (h1:s.spot≤2*p) (h2:0≤j) (h3:j≤2*p):Pure P 91 [.agg (hereC x s),.i j] (.i (far (x.stop s.spot) (x.stop j))):=by
 refine pure_of Tryz.func91 rfl rfl (by simp [Tryz.f91]) (by simp [bnd,bnd.bndL,hereC]) (by simp [bnd]) fun B hB hnx=>?_
 simp only [Tryz.f91] at hB ⊢
 have g1:=hx.lt h1
 have g2:=hx.lt h3
 have g3:=hx.get h1
 have g4:=hx.get h3
 generalize x.stop s.spot=a at *
 generalize x.stop j=b at *
 refine K_run hB 60 ?_
 simp [go_sem]
 refine K_drawn [] rfl (by rw [hB];kernel_rfl) ?_
 refine K_run hB 60 ?_
 simp [go_sem,hereC,h0,g1,h2,g2,g3,g4,Stop.t]
 refine K_dCallP rfl rfl rfl (args:=[.agg (a.t.map .t),.agg (b.t.map .t)]) (f:=117) (by simp [go_sem,Stop.t]) (far_pure a b) ?_
 refine K_run hB 60 ?_
 simp [go_sem]
def Inst.allB (x:Inst) (t:Nat):Bool:=withinB (uptoN (2*x.pairs)) t
theorem hall_pure (x:Inst) (s:State) (t:Nat) {p:Nat} (hx:x.Fit p):Pure P 90 [.agg (hereC x s),.u t] (.b (x.allB t)):=by
 refine pure_of Tryz.func90 rfl rfl (by simp [Tryz.f90]) (by simp [bnd,bnd.bndL,hereC]) (by simp [bnd]) fun B hB hnx=>?_
 simp only [Tryz.f90] at hB ⊢
 have hf:=hx.few
 have w1:=w64 (2*x.pairs) (by rw [hx.pairs];omega)
 refine K_run hB 60 ?_
 simp [go_sem,hereC,w1]
 refine K_call rfl rfl rfl (args:=[.i (2*x.pairs)]) (f:=116) (by simp [go_sem]) (by simp [go_sem,hB]) ((upto_pure _).spec _ _) ?_
 refine K_run hB 60 ?_
 simp [go_sem]
 refine K_call rfl rfl rfl (args:=[.u (uptoN (2*x.pairs)),.u t]) (f:=115) (by simp [go_sem]) (by simp [go_sem,hB]) ((within_pure _ _).spec _ _) ?_
 refine K_run hB 60 ?_
 simp [go_sem,Inst.allB]
theorem root_pureS (x:Inst) (hl:x.stops.length<2^63):Pure P 18 [x.a] x.rootS.a:=by
 generalize hR:x.rootS=R
 refine pure_of Tryz.func18 rfl rfl (by simp [Tryz.f18]) (by simp [bnd,bnd.bndL,Inst.a]) (by simp [bnd,bnd.bndL,State.a,State.cs]) fun B hB hnx=>?_
 simp only [Tryz.f18] at hB ⊢
 rw [Inst.rootS] at hR
 refine K_run hB 60 ?_
 simp [go_sem,Inst.a]
 refine K_call rfl rfl rfl (args:=[x.a]) (f:=13) (by simp [go_sem,Inst.a]) (by simp [go_sem,hB]) ((may_pure x hl).spec _ _) ?_
 cases hm:x.may with
 |false=>
  rw [hm,if_neg (by simp)] at hR
  subst hR
  refine K_run hB 60 ?_
  simp [go_sem,State.a,State.cs,State.zero]
 |true=>
  obtain ⟨p,hx⟩:=x.fit hm
  have hl:=hx.len
  rw [hm,if_pos rfl] at hR
  subst hR
  have g1:=hx.lt (j:=0) (by omega)
  have g2:=hx.get0
  generalize x.stop 0=a at *
  have g3:(0:Int)<x.stops.length:=g1
  have g4:0<x.stops.length:=by omega
  refine K_run hB 60 ?_
  simp [go_sem,State.a,State.cs,State.zero,g2,g3,g4,Stop.t]
theorem state_stood:P.stoodInHeld 52=false:=by kernel_rfl
theorem state_guard:P.eqGuardType P.depth 52=false:=by kernel_rfl
theorem state_eq (a b:State):eqA P 10000 52 a.a b.a=some (decide (a=b)):=by
 simp [go_sem,State.a,State.cs,state_stood]
 cases a;cases b
 rw [Bool.eq_iff_iff]
 simp only [Bool.and_eq_true,decide_eq_true_eq,State.mk.injEq]
end Go.Proofs.YtnoifgjiipgpoaaGreat

set_option maxRecDepth 4000
namespace Go.Proofs.YtnoifgjiipgpoaaGreat
open Go Go.Proofs.YtnoifgjiipgpoaaGreat.R
def Inst.begins (x:Inst) (s:State) (j:Int):Int:=max (s.time+far (x.stop s.spot) (x.stop j)) (x.stop j).ready
def Inst.lateB (x:Inst) (s:State) (j:Int):Bool:=hasB s.must j||decide (x.begins s j>(x.stop j).due)
def Inst.seen (x:Inst) (s:State) (j:Int):State:=
 {spot:=j,car:=s.car,time:=x.begins s j+(x.stop j).service,load:=max (s.load+(x.stop j).demand) 0,first:=if s.spot=0 then j else s.first,must:=withN s.must j,can:=withN s.can j,on:=s.on}
def Inst.visit (x:Inst) (s:State) (j:Int):State×Bool:=if x.lateB s j=true then (s,false) else (x.seen s j,true)
structure State.Fit (x:Inst) (s:State) (p:Nat):Prop where
 spot:0≤s.spot∧s.spot≤2*p
 car:1≤s.car∧s.car≤x.cars
 time:0≤s.time∧s.time≤1073741824
 load:0≤s.load∧s.load≤1000
theorem State.fit {x:Inst} {s:State} {p:Nat} (hx:x.Fit p) (h:s.mayB x=true):s.Fit x p:=by
 simp only [State.mayB,Bool.and_eq_true,decide_eq_true_eq,hx.pairs] at h
 obtain ⟨⟨⟨⟨⟨⟨⟨h1,h2⟩,h3⟩,h4⟩,h5⟩,h6⟩,h7⟩,h8⟩:=h
 exact ⟨⟨h1,h2⟩,⟨h3,h4⟩,⟨h5,h6⟩,⟨h7,h8⟩⟩
theorem far_in' (a b:Stop):0≤far a b∧far a b<1152921504606846976:=by
 have h:=sq_in a b
 unfold far rootI
 split
 ·omega
 ·have:=rootL_lt (min (sq a b) 1152921504606846976).toNat 31 0
  omega
theorem visit_pure (x:Inst) (s:State) (j:Int) {p:Nat} (hx:x.Fit p) (hs:s.Fit x p) (ho:s.ok) (h2:0≤j) (h3:j≤2*p):Pure P 148 [.agg (hereC x s),.i j] (.tup [(x.visit s j).1.a,.b (x.visit s j).2]):=by
 generalize hR:x.visit s j=R
 refine pure_of Tryz.func148 rfl rfl (by simp [Tryz.f148]) (by simp [bnd,bnd.bndL,hereC]) (by simp [bnd,bnd.bndL,State.a,State.cs]) fun B hB hnx=>?_
 simp only [Tryz.f148] at hB ⊢
 have g2:=hx.lt h3
 have g4:=hx.get h3
 have hfar:=hfar_pure x s j hx hs.spot.1 hs.spot.2 h2 h3
 have hf:=hx.at h2 h3
 have hfi:=far_in' (x.stop s.spot) (x.stop j)
 rw [Inst.visit,Inst.lateB,Inst.seen,Inst.begins] at hR
 generalize far (x.stop s.spot) (x.stop j)=d at *
 generalize x.stop j=a at *
 have w1:=w64 (s.time+d) (by have:=hs.time;omega)
 refine K_run hB 60 ?_
 simp [go_sem]
 refine K_drawnP [8,9,10,11] [0,1,2,3,4,5,6,7,8,9] 8 9 (by decide) rfl (by rw [hB];kernel_rfl) (by kernel_rfl) fun ht hf'=>?_
 refine K_run hB 60 ?_
 simp [go_sem,ht,hf',hereC,h2,g2,g4,Stop.t]
 refine K_dPair (by kernel_rfl) ?_ ?_
 all_goals
  refine K_run hB 60 ?_
  simp [go_sem,ht,hf',hereC,h2,g2,g4,Stop.t,State.cs]
  refine K_drawn [] rfl (by rw [hB];kernel_rfl) ?_
  refine K_run hB 60 ?_
  simp [go_sem]
  refine K_dCallP rfl rfl rfl (args:=[.agg (hereC x s),.i j]) (f:=91) (by simp [go_sem,hereC]) hfar ?_
  refine K_run hB 60 ?_
  simp [go_sem,w1]
  refine K_call rfl rfl rfl (args:=[.u s.must,.i j]) (f:=121) (by simp [go_sem]) (by simp [go_sem,hB]) ((has_pure s.must j ho.must).spec _ _) ?_
  generalize hM:max (s.time+d) a.ready=M at *
  by_cases c1:hasB s.must j=true∨a.due<M
  ·have:R=(s,false):=by
    rw [←hR,if_pos]
    rcases c1 with c1 | c1<;>simp [c1]
   subst this
   cases c2:hasB s.must j with
   |true=>
    refine K_run hB 60 ?_
    simp [go_sem,State.a,State.cs]
   |false=>
    have c3:a.due<M:=c1.resolve_left (by simp [c2])
    refine K_run hB 60 ?_
    simp [go_sem,State.a,State.cs,hM,c3]
  have c2:hasB s.must j=false:=by simpa using fun h=>c1 (.inl h)
  have c3:¬a.due<M:=fun h=>c1 (.inr h)
  rw [if_neg (by simp [c2,c3])] at hR
  have w2:=w64 (M+a.service) (by have:=hf.service;have:=hf.due;have:=hs.time;omega)
  have w3:=w64 (s.load+a.demand) (by have:=hf.demand;have:=hs.load;omega)
  rw [c2]
  by_cases c4:s.spot=0
  all_goals
   refine K_run hB 60 ?_
   simp [go_sem,State.a,State.cs,hM,c3,c4]
   refine K_drawnF [12,14,16] [1,2,3,4,7,8,9,10] rfl (by rw [hB];kernel_rfl) (by kernel_rfl) fun ht hf'=>?_
   refine K_run hB 60 ?_
   simp [go_sem,ht,hf',w2,w3]
   refine K_drawnT [9,11] rfl (by rw [hB];kernel_rfl) (by kernel_rfl) fun ht=>?_
   refine K_run hB 60 ?_
   simp [go_sem,ht]
   refine K_dCallP rfl rfl rfl (args:=[.u s.must,.i j]) (f:=150) (by simp [go_sem]) (with_pure s.must j ho.must) ?_
   refine K_run hB 60 ?_
   simp [go_sem,ht]
   refine K_dCallP rfl rfl rfl (args:=[.u s.can,.i j]) (f:=150) (by simp [go_sem]) (with_pure s.can j ho.can) ?_
   refine K_run hB 60 ?_
   simp [go_sem,ht,←hR,c4]
def Inst.stayB (x:Inst) (s:State):Bool:=decide (s.spot=0)||decide (s.on≠0)||decide (s.car≥x.cars)||x.allB s.must||decide (s.time+far (x.stop s.spot) (x.stop 0)>(x.stop 0).due)
def Inst.homeS (x:Inst) (s:State):State:={s with spot:=0,car:=s.car+1,time:=(x.stop 0).ready,load:=0}
def Inst.home (x:Inst) (s:State):State×Bool:=if x.stayB s=true then (s,false) else (x.homeS s,true)
theorem home_pure (x:Inst) (s:State) (j:Int) {p:Nat} (hx:x.Fit p) (hs:s.Fit x p) (ho:s.ok):Pure P 139 [.agg (hereC x s),.i j] (.tup [(x.home s).1.a,.b (x.home s).2]):=by
 generalize hR:x.home s=R
 refine pure_of Tryz.func139 rfl rfl (by simp [Tryz.f139]) (by simp [bnd,bnd.bndL,hereC]) (by simp [bnd,bnd.bndL,State.a,State.cs]) fun B hB hnx=>?_
 simp only [Tryz.f139] at hB ⊢
 have g2:(0:Int)<x.stops.length:=hx.lt (j:=0) (by omega)
 have g3:0<x.stops.length:=by omega
 have g4:=hx.get0
 have hfar:=hfar_pure x s 0 hx hs.spot.1 hs.spot.2 (by omega) (by omega)
 have hf:=hx.at (j:=0) (by omega) (by omega)
 have hfi:=far_in' (x.stop s.spot) (x.stop 0)
 rw [Inst.home,Inst.stayB,Inst.homeS] at hR
 generalize far (x.stop s.spot) (x.stop 0)=d at *
 generalize x.stop 0=a at *
 have w1:=w64 (s.time+d) (by have:=hs.time;omega)
 have w2:=w64 (s.car+1) (by have:=hs.car;have:=hx.cars;omega)
 refine K_run hB 60 ?_
 simp [go_sem,hereC]
 refine K_drawn [] rfl (by rw [hB];kernel_rfl) ?_
 by_cases c1:s.spot=0
 ·have:R=(s,false):=by rw [←hR,if_pos (by simp [c1])]
  subst this
  refine K_run hB 100 ?_
  simp [go_sem,c1,State.a,State.cs]
 by_cases c2:s.on=0
 rotate_left
 ·have:R=(s,false):=by rw [←hR,if_pos (by simp [c2])]
  subst this
  refine K_run hB 100 ?_
  simp [go_sem,c1,c2,State.a,State.cs]
 by_cases c3:x.cars≤s.car
 ·have:R=(s,false):=by rw [←hR,if_pos (by simp [c3])]
  subst this
  refine K_run hB 100 ?_
  simp [go_sem,c1,c2,c3,State.a,State.cs]
 refine K_run hB 100 ?_
 simp [go_sem,c1,c2,c3]
 refine K_dCallP rfl rfl rfl (args:=[.agg (hereC x s),.u s.must]) (f:=90) (by simp [go_sem,hereC,c2]) (hall_pure x s s.must hx) ?_
 cases c4:x.allB s.must with
 |true=>
  have:R=(s,false):=by rw [←hR,if_pos (by simp [c4])]
  subst this
  refine K_run hB 100 ?_
  simp [go_sem,c1,c2,c3,State.a,State.cs]
 |false=>
  refine K_run hB 100 ?_
  simp [go_sem,c1,c2,c3]
  refine K_dCallP rfl rfl rfl (args:=[.agg (hereC x s),.i 0]) (f:=91) (by simp [go_sem,hereC,c2]) hfar ?_
  by_cases c5:a.due<s.time+d
  ·have:R=(s,false):=by rw [←hR,if_pos (by simp [c5])]
   subst this
   refine K_run hB 100 ?_
   simp [go_sem,c1,c2,c3,c5,w1,g2,g3,g4,Stop.t,State.a,State.cs]
  ·rw [if_neg (by simp [c1,c2,c3,c4,c5])] at hR
   refine K_run hB 100 ?_
   simp [go_sem,c1,c2,c3,c5,w1,g2,g3,g4,Stop.t]
   refine K_drawnF [10,12,14,16] [2,3,4,5,6,7,8] rfl (by rw [hB];kernel_rfl) (by kernel_rfl) fun ht hf'=>?_
   refine K_run hB 100 ?_
   simp [go_sem,ht,hf',w2,g2,g3,g4,Stop.t,←hR,State.a,State.cs,c2]
theorem visit_on (x:Inst) (s:State) (j:Int):(x.visit s j).1.on=s.on:=by
 unfold Inst.visit
 split<;>rfl
def Inst.fullB (x:Inst) (s:State) (j:Int):Bool:=decide (s.load+(x.stop j).demand>x.room)||(decide (s.spot=0)&&decide (j≤s.first))
def Inst.take (x:Inst) (s:State) (j:Int):State×Bool:=if x.fullB s j=true then (s,false) else if (x.visit s j).2=true then ({(x.visit s j).1 with on:=withN s.on j},true) else (x.visit s j)
theorem take_pure (x:Inst) (s:State) (j:Int) {p:Nat} (hx:x.Fit p) (hs:s.Fit x p) (ho:s.ok) (h2:0≤j) (h3:j≤2*p):Pure P 140 [.agg (hereC x s),.i j] (.tup [(x.take s j).1.a,.b (x.take s j).2]):=by
 generalize hR:x.take s j=R
 refine pure_of Tryz.func140 rfl rfl (by simp [Tryz.f140]) (by simp [bnd,bnd.bndL,hereC]) (by simp [bnd,bnd.bndL,State.a,State.cs]) fun B hB hnx=>?_
 simp only [Tryz.f140] at hB ⊢
 have g2:=hx.lt h3
 have g4:=hx.get h3
 have hf:=hx.at h2 h3
 have hv:=visit_pure x s j hx hs ho h2 h3
 have hon:=visit_on x s j
 rw [Inst.take,Inst.fullB] at hR
 generalize x.visit s j=V at *
 generalize x.stop j=a at *
 obtain ⟨t,is⟩:=V
 simp only at hon hR hv
 have w3:=w64 (s.load+a.demand) (by have:=hf.demand;have:=hs.load;omega)
 refine K_run hB 60 ?_
 simp [go_sem,hereC]
 refine K_drawn [] rfl (by rw [hB];kernel_rfl) ?_
 by_cases c1:x.room<s.load+a.demand
 ·have:R=(s,false):=by rw [←hR,if_pos (by simp [c1])]
  subst this
  refine K_run hB 100 ?_
  simp [go_sem,c1,h2,g2,g4,w3,Stop.t,State.a,State.cs]
 by_cases c2:s.spot=0∧j≤s.first
 ·have:R=(s,false):=by rw [←hR,if_pos (by simp [c2])]
  subst this
  refine K_run hB 100 ?_
  simp [go_sem,c1,c2,h2,g2,g4,w3,Stop.t,State.a,State.cs]
 rw [if_neg (by simp;exact ⟨by omega,by omega⟩)] at hR
 have key:∀{A:Prop},(s.spot=0→¬j≤s.first→A)→(¬s.spot=0→A)→A:=fun {A} h1 h2=>by
  by_cases c3:s.spot=0
  ·exact h1 c3 (fun h=>c2 ⟨c3,h⟩)
  ·exact h2 c3
 refine key (fun c3 c4=>?_) (fun c3=>?_)
 ·refine K_run hB 100 ?_
  simp [go_sem,c1,c3,c4,h2,g2,g4,w3,Stop.t]
  refine K_call rfl rfl rfl (args:=[.agg (hereC x s),.i j]) (f:=148) (by simp [go_sem,hereC,c3]) (by simp [go_sem,hB]) (hv.spec _ _) ?_
  cases is with
  |false=>
   rw [if_neg (by simp)] at hR
   subst hR
   refine K_run hB 100 ?_
   simp [go_sem,State.a,State.cs]
  |true=>
   rw [if_pos rfl] at hR
   subst hR
   refine K_run hB 100 ?_
   simp [go_sem,State.a,State.cs]
   refine K_call rfl rfl rfl (args:=[.u t.on,.i j]) (f:=150) (by simp [go_sem]) (by simp [go_sem,hB]) ((with_pure t.on j (by rw [hon];exact ho.on)).spec _ _) ?_
   refine K_run hB 100 ?_
   simp [go_sem,State.a,State.cs,hon]
 ·refine K_run hB 100 ?_
  simp [go_sem,c1,c3,h2,g2,g4,w3,Stop.t]
  refine K_call rfl rfl rfl (args:=[.agg (hereC x s),.i j]) (f:=148) (by simp [go_sem,hereC]) (by simp [go_sem,hB]) (hv.spec _ _) ?_
  cases is with
  |false=>
   rw [if_neg (by simp)] at hR
   subst hR
   refine K_run hB 100 ?_
   simp [go_sem,State.a,State.cs]
  |true=>
   rw [if_pos rfl] at hR
   subst hR
   refine K_run hB 100 ?_
   simp [go_sem,State.a,State.cs]
   refine K_call rfl rfl rfl (args:=[.u t.on,.i j]) (f:=150) (by simp [go_sem]) (by simp [go_sem,hB]) ((with_pure t.on j (by rw [hon];exact ho.on)).spec _ _) ?_
   refine K_run hB 100 ?_
   simp [go_sem,State.a,State.cs,hon]
def Inst.emptyB (x:Inst) (s:State) (j:Int):Bool:=decide (s.spot=0)|| !hasB s.can (j-x.pairs)
def Inst.bring (x:Inst) (s:State) (j:Int):State×Bool:=if x.emptyB s j=true then (s,false) else if (x.visit s j).2=true then ({(x.visit s j).1 with on:=withoutN s.on (j-x.pairs)},true) else (x.visit s j)
theorem bring_pure (x:Inst) (s:State) (j:Int) {p:Nat} (hx:x.Fit p) (hs:s.Fit x p) (ho:s.ok) (h2:0≤j) (h3:j≤2*p):Pure P 138 [.agg (hereC x s),.i j] (.tup [(x.bring s j).1.a,.b (x.bring s j).2]):=by
 generalize hR:x.bring s j=R
 refine pure_of Tryz.func138 rfl rfl (by simp [Tryz.f138]) (by simp [bnd,bnd.bndL,hereC]) (by simp [bnd,bnd.bndL,State.a,State.cs]) fun B hB hnx=>?_
 simp only [Tryz.f138] at hB ⊢
 have hv:=visit_pure x s j hx hs ho h2 h3
 have hon:=visit_on x s j
 rw [Inst.bring,Inst.emptyB] at hR
 generalize x.visit s j=V at *
 obtain ⟨t,is⟩:=V
 simp only at hon hR hv
 have hp:=hx.pairs
 have hfew:=hx.few
 have w3:=w64 (j-x.pairs) (by omega)
 by_cases c1:s.spot=0
 ·have:R=(s,false):=by rw [←hR,if_pos (by simp [c1])]
  subst this
  refine K_run hB 100 ?_
  simp [go_sem,hereC,c1,State.a,State.cs]
 refine K_run hB 60 ?_
 simp [go_sem,hereC,c1,w3]
 refine K_call rfl rfl rfl (args:=[.u s.can,.i (j-x.pairs)]) (f:=121) (by simp [go_sem]) (by simp [go_sem,hB]) ((has_pure s.can (j-x.pairs) ho.can).spec _ _) ?_
 cases c2:hasB s.can (j-x.pairs) with
 |false=>
  have:R=(s,false):=by rw [←hR,if_pos (by simp [c2])]
  subst this
  refine K_run hB 100 ?_
  simp [go_sem,State.a,State.cs]
 |true=>
  rw [if_neg (by simp [c1,c2])] at hR
  refine K_run hB 100 ?_
  simp [go_sem]
  refine K_call rfl rfl rfl (args:=[.agg (hereC x s),.i j]) (f:=148) (by simp [go_sem,hereC]) (by simp [go_sem,hB]) (hv.spec _ _) ?_
  cases is with
  |false=>
   rw [if_neg (by simp)] at hR
   subst hR
   refine K_run hB 100 ?_
   simp [go_sem,State.a,State.cs]
  |true=>
   rw [if_pos rfl] at hR
   subst hR
   refine K_run hB 100 ?_
   simp [go_sem,State.a,State.cs,w3]
   refine K_call rfl rfl rfl (args:=[.u t.on,.i (j-x.pairs)]) (f:=149) (by simp [go_sem]) (by simp [go_sem,hB]) ((without_pure t.on (j-x.pairs)).spec _ _) ?_
   refine K_run hB 100 ?_
   simp [go_sem,State.a,State.cs,hon]
end Go.Proofs.YtnoifgjiipgpoaaGreat

set_option maxRecDepth 4000
namespace Go.Proofs.YtnoifgjiipgpoaaGreat
open Go Go.Proofs.YtnoifgjiipgpoaaGreat.R
def Inst.to (x:Inst) (s:State) (j:Int):State×Bool:=if j=0 then x.home s else if j≤x.pairs then x.take s j else x.bring s j
def Inst.step (x:Inst) (s:State) (j:Int):State×Int×Bool:=
 if j<0∨2*x.pairs<j then (s,0,false) else if (x.to s j).2=true then ((x.to s j).1,far (x.stop s.spot) (x.stop j),true) else (s,0,false)
def mv (r:State×Int×Bool):AV:=.tup [r.1.a,.i r.2.1,.b r.2.2]
theorem bnd_mv (r:State×Int×Bool):bnd 0 (mv r)=true:=by simp [bnd,bnd.bndL,mv,State.a,State.cs]
theorem step_pure (x:Inst) (s:State) (j:Int) {p:Nat} (hx:x.Fit p) (hs:s.Fit x p) (ho:s.ok):Pure P 118 [.agg (hereC x s),.i j] (mv (x.step s j)):=by
 generalize hR:x.step s j=R
 refine pure_of Tryz.func118 rfl rfl (by simp [Tryz.f118]) (by simp [bnd,bnd.bndL,hereC]) (bnd_mv R) fun B hB hnx=>?_
 simp only [Tryz.f118] at hB ⊢
 have hp:=hx.pairs
 have hfew:=hx.few
 have w1:=w64 (2*x.pairs) (by omega)
 rw [Inst.step] at hR
 by_cases c1:j<0
 ·rw [if_pos (.inl c1)] at hR
  subst hR
  refine K_run hB 100 ?_
  simp [go_sem,hereC,c1,mv,State.a,State.cs]
 by_cases c2:2*x.pairs<j
 ·rw [if_pos (.inr c2)] at hR
  subst hR
  refine K_run hB 100 ?_
  simp [go_sem,hereC,c1,c2,w1,mv,State.a,State.cs]
 rw [if_neg (by omega)] at hR
 have h2:0≤j:=by omega
 have h3:j≤2*p:=by omega
 have hfar:=hfar_pure x s j hx hs.spot.1 hs.spot.2 h2 h3
 generalize far (x.stop s.spot) (x.stop j)=d at *
 by_cases c3:j=0
 ·have hv:=home_pure x s j hx hs ho
  have e:x.to s j=x.home s:=by simp [Inst.to,c3]
  rw [e] at hR
  generalize x.home s=V at *
  obtain ⟨t,is⟩:=V
  subst c3
  refine K_run hB 100 ?_
  simp [go_sem,hereC,c2,w1]
  refine K_call rfl rfl rfl (args:=[.agg (hereC x s),.i 0]) (f:=139) (by simp [go_sem,hereC]) (by simp [go_sem,hB]) (hv.spec _ _) ?_
  cases is with
  |false=>
   rw [if_neg (by simp)] at hR
   subst hR
   refine K_run hB 100 ?_
   simp [go_sem,mv,State.a,State.cs]
  |true=>
   rw [if_pos rfl] at hR
   subst hR
   refine K_run hB 100 ?_
   simp [go_sem,State.a,State.cs]
   refine K_drawnT [4] rfl (by rw [hB];kernel_rfl) (by kernel_rfl) fun ht=>?_
   refine K_run hB 100 ?_
   simp [go_sem,ht]
   refine K_dCallP rfl rfl rfl (args:=[.agg (hereC x s),.i 0]) (f:=91) (by simp [go_sem,hereC]) hfar ?_
   refine K_run hB 100 ?_
   simp [go_sem,ht,mv,State.a,State.cs]
 by_cases c4:j≤x.pairs
 ·have hv:=take_pure x s j hx hs ho h2 h3
  have e:x.to s j=x.take s j:=by simp [Inst.to,c3,c4]
  rw [e] at hR
  generalize x.take s j=V at *
  obtain ⟨t,is⟩:=V
  refine K_run hB 100 ?_
  simp [go_sem,hereC,c1,c2,c3,c4,w1]
  refine K_call rfl rfl rfl (args:=[.agg (hereC x s),.i j]) (f:=140) (by simp [go_sem,hereC]) (by simp [go_sem,hB]) (hv.spec _ _) ?_
  cases is with
  |false=>
   rw [if_neg (by simp)] at hR
   subst hR
   refine K_run hB 100 ?_
   simp [go_sem,mv,State.a,State.cs]
  |true=>
   rw [if_pos rfl] at hR
   subst hR
   refine K_run hB 100 ?_
   simp [go_sem,State.a,State.cs]
   refine K_drawnT [4] rfl (by rw [hB];kernel_rfl) (by kernel_rfl) fun ht=>?_
   refine K_run hB 100 ?_
   simp [go_sem,ht]
   refine K_dCallP rfl rfl rfl (args:=[.agg (hereC x s),.i j]) (f:=91) (by simp [go_sem,hereC]) hfar ?_
   refine K_run hB 100 ?_
   simp [go_sem,ht,mv,State.a,State.cs]
 ·have hv:=bring_pure x s j hx hs ho h2 h3
  have e:x.to s j=x.bring s j:=by simp [Inst.to,c3,c4]
  rw [e] at hR
  generalize x.bring s j=V at *
  obtain ⟨t,is⟩:=V
  refine K_run hB 100 ?_
  simp [go_sem,hereC,c1,c2,c3,c4,w1]
  refine K_call rfl rfl rfl (args:=[.agg (hereC x s),.i j]) (f:=138) (by simp [go_sem,hereC]) (by simp [go_sem,hB]) (hv.spec _ _) ?_
  cases is with
  |false=>
   rw [if_neg (by simp)] at hR
   subst hR
   refine K_run hB 100 ?_
   simp [go_sem,mv,State.a,State.cs]
  |true=>
   rw [if_pos rfl] at hR
   subst hR
   refine K_run hB 100 ?_
   simp [go_sem,State.a,State.cs]
   refine K_drawnT [4] rfl (by rw [hB];kernel_rfl) (by kernel_rfl) fun ht=>?_
   refine K_run hB 100 ?_
   simp [go_sem,ht]
   refine K_dCallP rfl rfl rfl (args:=[.agg (hereC x s),.i j]) (f:=91) (by simp [go_sem,hereC]) hfar ?_
   refine K_run hB 100 ?_
   simp [go_sem,ht,mv,State.a,State.cs]
def Inst.move (x:Inst) (s:State) (j:Int):State×Int×Bool:=if x.may=true∧s.mayB x=true then x.step s j else (s,0,false)
theorem move_pure (x:Inst) (s:State) (j:Int) (hl:x.stops.length<2^63) (ho:s.ok):Pure P 93 [x.a,s.a,.i j] (mv (x.move s j)):=by
 generalize hR:x.move s j=R
 refine pure_of Tryz.func93 rfl rfl (by simp [Tryz.f93]) (by simp [bnd,bnd.bndL,Inst.a,State.a,State.cs]) (bnd_mv R) fun B hB hnx=>?_
 simp only [Tryz.f93] at hB ⊢
 rw [Inst.move] at hR
 refine K_run hB 100 ?_
 simp [go_sem,Inst.a,State.a,State.cs]
 refine K_call rfl rfl rfl (args:=[x.a]) (f:=13) (by simp [go_sem,Inst.a]) (by simp [go_sem,hB]) ((may_pure x hl).spec _ _) ?_
 cases hm:x.may with
 |false=>
  rw [if_neg (by simp [hm])] at hR
  subst hR
  refine K_run hB 100 ?_
  simp [go_sem,mv,State.a,State.cs]
 |true=>
  obtain ⟨p,hx⟩:=x.fit hm
  refine K_run hB 100 ?_
  simp [go_sem]
  refine K_call rfl rfl rfl (args:=[.agg (hereC x s)]) (f:=89) (by simp [go_sem,hereC]) (by simp [go_sem,hB]) ((hmay_pure x s hm).spec _ _) ?_
  cases hs:s.mayB x with
  |false=>
   rw [if_neg (by simp [hs])] at hR
   subst hR
   refine K_run hB 100 ?_
   simp [go_sem,mv,State.a,State.cs]
  |true=>
   rw [if_pos ⟨hm,hs⟩] at hR
   have hst:=step_pure x s j hx (s.fit hx hs) ho
   rw [hR] at hst
   refine K_run hB 100 ?_
   simp [go_sem]
   refine K_call rfl rfl rfl (args:=[.agg (hereC x s),.i j]) (f:=118) (by simp [go_sem,hereC]) (by simp [go_sem,hB]) (hst.spec _ _) ?_
   refine K_run hB 100 ?_
   simp [go_sem,mv,State.a,State.cs]
end Go.Proofs.YtnoifgjiipgpoaaGreat

set_option maxRecDepth 4000
namespace Go.Proofs.YtnoifgjiipgpoaaGreat
open Go Go.Proofs.YtnoifgjiipgpoaaGreat.R
def canB (f:Nat→Bool):Nat→List Int
 |0=>[]
 |k+1=>canB f k++(if f k=true then [(k:Int)] else [])
theorem canB_len (f:Nat→Bool):∀k,(canB f k).length≤k
 |0=>Nat.le_refl _
 |k+1=>by
  have:=canB_len f k
  rw [canB,List.length_append]
  split<;>simp only [List.length_cons,List.length_nil]<;>omega
def Inst.moves (x:Inst) (s:State):List Int:=if x.may=true∧s.mayB x=true then canB (fun k=>(x.step s k).2.2) x.stops.length else []
theorem moves_pure (x:Inst) (s:State) (hl:x.stops.length<2^63) (ho:s.ok):Pure P 92 [x.a,s.a] (.t (.sl (ints (x.moves s)))):=by
 generalize hR:x.moves s=R
 refine pure_of Tryz.func92 rfl rfl (by simp [Tryz.f92]) (by simp [bnd,bnd.bndL,Inst.a,State.a,State.cs]) (by simp [bnd]) fun B hB hnx=>?_
 simp only [Tryz.f92] at hB ⊢
 rw [Inst.moves] at hR
 refine K_run hB 100 ?_
 simp [go_sem,Inst.a,State.a,State.cs]
 refine K_call rfl rfl rfl (args:=[x.a]) (f:=13) (by simp [go_sem,Inst.a]) (by simp [go_sem,hB]) ((may_pure x hl).spec _ _) ?_
 cases hm:x.may with
 |false=>
  rw [if_neg (by simp [hm])] at hR
  subst hR
  refine K_run hB 100 ?_
  simp [go_sem,ints]
 |true=>
  obtain ⟨p,hx⟩:=x.fit hm
  refine K_run hB 100 ?_
  simp [go_sem]
  refine K_call rfl rfl rfl (args:=[.agg (hereC x s)]) (f:=89) (by simp [go_sem,hereC]) (by simp [go_sem,hB]) ((hmay_pure x s hm).spec _ _) ?_
  cases hs:s.mayB x with
  |false=>
   rw [if_neg (by simp [hs])] at hR
   subst hR
   refine K_run hB 100 ?_
   simp [go_sem,ints]
  |true=>
   rw [if_pos ⟨hm,hs⟩] at hR
   have hst:=fun j=>step_pure x s j hx (s.fit hx hs) ho
   have hlen:=hx.len
   have hfew:=hx.few
   have hmost:mostLen=4294967296:=rfl
   refine K_run hB 100 ?_
   simp [go_sem]
   refine K_own 6 1 (by simp [go_sem]) ?_
   refine K_loopP (α:=Nat×Nat×(Nat→AObj)×Nat) (fun (k,j,σ,nx)=>k≤x.stops.length∧σ 2= .box (hereC x s)∧σ j= .arr 1 (ints (canB (fun k=>(x.step s k).2.2) k))∧2<j∧j<nx)
    (fun (k,j,σ,nx)=>⟨sl [(5,.ptr 2 0),(6,.ref j),(24,.i x.stops.length),(25,.i k)],σ,nx⟩) (fun a=>x.stops.length-a.1) (0,3,_,4) ?_ (Imp.slots (by simp [go_sem]) rfl rfl) ?_
   ·exact ⟨Nat.zero_le _,by simp [oput,hereC],by simp [oput,canB,ints],by omega,by omega⟩
   rintro ⟨k,j,σ,nx⟩ ⟨g1,g2,g3,g5,g6⟩
   refine K_run hB 60 ?_
   simp [go_sem]
   refine fork_dec (fun hk=>?_) (fun hk=>?_)
   ·have hkk:IntKind.i64.wrap ((k:Int)+1)=((k+1:Nat):Int):=by rw [w64 ((k:Int)+1) (by omega)];rfl
    have hn:canB (fun k=>(x.step s k).2.2) (k+1)=canB (fun k=>(x.step s k).2.2) k++(if (x.step s k).2.2=true then [(k:Int)] else []):=rfl
    have hcl:=canB_len (fun k=>(x.step s k).2.2) k
    have h1:=hst k
    generalize canB (fun k=>(x.step s k).2.2) k=L at g3 hn hcl
    generalize x.step s k=V at hn h1
    obtain ⟨t,c,is⟩:=V
    simp only at hn
    simp [go_sem,g2,hereC]
    refine K_call rfl rfl rfl (args:=[.agg (hereC x s),.i k]) (f:=118) (by simp [go_sem,hereC]) (by simp [go_sem,hB]) (h1.spec _ _) ?_
    cases is with
    |false=>
     refine K_run hB 60 ?_
     simp [go_sem,mv,State.a,State.cs,hkk]
     refine Next.mk (k+1,j,_,nx+1) ?_ (Imp.slots (by simp [go_sem]) rfl rfl) (by simp only;omega)
     refine ⟨by simp only;omega,?_,?_,by simp only;omega,by simp only;omega⟩
     ·simp [oput,show ¬2=nx by omega,g2,hereC]
     ·simp only [hn]
      simp [oput,show ¬j=nx by omega,g3]
    |true=>
     have hlen':(ints L).length=L.length:=List.length_map _
     have hcap:L.length+1≤mostLen:=by omega
     refine K_run hB 60 ?_
     simp [go_sem,mv,State.a,State.cs,hkk,g3,hlen',hcap,show ¬j=nx by omega]
     refine Next.mk (k+1,nx+1,_,nx+2) ?_ (Imp.slots (by simp [go_sem]) rfl rfl) (by simp only;omega)
     refine ⟨by simp only;omega,?_,?_,by simp only;omega,by simp only;omega⟩
     ·simp [oput,show ¬2=nx by omega,show ¬2=nx+1 by omega,show ¬2=j by omega,g2,hereC]
     ·simp only [hn]
      simp [oput,ints]
   ·have:k=x.stops.length:=by omega
    subst this
    rw [hR] at g3
    simp [go_sem,g3]
def Inst.endS (x:Inst) (s:State):Int×Bool:=
 if x.may=false then (0,false)
 else if x.pairs=0∧s=x.rootS then (0,true)
 else if s.mayB x=true∧s.spot≠0∧s.on=0∧x.allB s.can=true∧s.time+far (x.stop s.spot) (x.stop 0)≤(x.stop 0).due then (far (x.stop s.spot) (x.stop 0),true) else (0,false)
theorem end_pure (x:Inst) (s:State) (hl:x.stops.length<2^63) (ho:s.ok):Pure P 64 [x.a,s.a] (.tup [.i (x.endS s).1,.b (x.endS s).2]):=by
 generalize hR:x.endS s=R
 refine pure_of Tryz.func64 rfl rfl (by simp [Tryz.f64]) (by simp [bnd,bnd.bndL,Inst.a,State.a,State.cs]) (by simp [bnd,bnd.bndL]) fun B hB hnx=>?_
 simp only [Tryz.f64] at hB ⊢
 rw [Inst.endS] at hR
 refine K_run hB 100 ?_
 simp [go_sem,Inst.a,State.a,State.cs]
 refine K_call rfl rfl rfl (args:=[x.a]) (f:=13) (by simp [go_sem,Inst.a]) (by simp [go_sem,hB]) ((may_pure x hl).spec _ _) ?_
 cases hm:x.may with
 |false=>
  rw [if_pos hm] at hR
  subst hR
  refine K_run hB 100 ?_
  simp [go_sem]
 |true=>
  obtain ⟨p,hx⟩:=x.fit hm
  rw [if_neg (by simp [hm])] at hR
  refine K_run hB 100 ?_
  simp [go_sem]
  refine K_drawn [] rfl (by rw [hB];kernel_rfl) ?_
  have hp:=hx.pairs
  have hr:=root_pureS x hl
  generalize x.rootS=r at *
  by_cases c0:x.pairs=0∧s=r
  ·rw [if_pos c0] at hR
   obtain ⟨c1,c2⟩:=c0
   subst hR
   refine K_run hB 100 ?_
   simp [go_sem,c1]
   refine K_dCallP rfl rfl rfl (args:=[x.a]) (f:=18) (by simp [go_sem,Inst.a,c1]) hr ?_
   refine K_dEq (op:=.eql) (t:=52) (t':=52) (x:=.tmp 18) (y:=.tmp 20) (xs:=s.cs) (ys:=r.cs) (by simp [go_sem,c1]) rfl (by simp [go_sem,State.cs]) (by simp [go_sem,State.a]) state_guard (state_eq s r) rfl ?_
   refine K_run hB 100 ?_
   simp [go_sem,c1,c2]
  rw [if_neg c0] at hR
  have g2:(0:Int)<x.stops.length:=hx.lt (j:=0) (by omega)
  have g3:0<x.stops.length:=by omega
  have g4:=hx.get0
  have hfi:=far_in' (x.stop s.spot) (x.stop 0)
  by_cases c1:x.pairs=0
  all_goals
   first
   |have c2:¬s=r:=fun h=>c0 ⟨c1,h⟩
    refine K_run hB 100 ?_
    simp [go_sem,c1]
    refine K_dCallP rfl rfl rfl (args:=[x.a]) (f:=18) (by simp [go_sem,Inst.a,c1]) hr ?_
    refine K_dEq (op:=.eql) (t:=52) (t':=52) (x:=.tmp 18) (y:=.tmp 20) (xs:=s.cs) (ys:=r.cs) (by simp [go_sem,c1]) rfl (by simp [go_sem,State.cs]) (by simp [go_sem,State.a]) state_guard (state_eq s r) rfl ?_
    refine K_run hB 100 ?_
    simp [go_sem,c1,c2]
    refine K_drawn [] rfl (by rw [hB];kernel_rfl) ?_
    refine K_run hB 100 ?_
    simp [go_sem]
   |refine K_run hB 100 ?_
    simp [go_sem,c1]
    refine K_drawn [] rfl (by rw [hB];kernel_rfl) ?_
    refine K_run hB 100 ?_
    simp [go_sem]
  all_goals
   refine K_dCallP rfl rfl rfl (args:=[.agg (hereC x s)]) (f:=89) (by simp [go_sem,hereC,c1]) (hmay_pure x s hm) ?_
   cases hs:s.mayB x with
   |false=>
    rw [if_neg (by simp [hs])] at hR
    subst hR
    refine K_run hB 100 ?_
    simp [go_sem]
   |true=>
    have hs':=s.fit hx hs
    have w1:=w64 (s.time+far (x.stop s.spot) (x.stop 0)) (by have:=hs'.time;omega)
    have hfar:=hfar_pure x s 0 hx hs'.spot.1 hs'.spot.2 (by omega) (by omega)
    generalize far (x.stop s.spot) (x.stop 0)=d at *
    generalize x.stop 0=a at *
    by_cases c3:s.spot=0
    ·rw [if_neg (by simp [c3])] at hR
     subst hR
     refine K_run hB 100 ?_
     simp [go_sem,c3]
    by_cases c4:s.on=0
    rotate_left
    ·rw [if_neg (by simp [c4])] at hR
     subst hR
     refine K_run hB 100 ?_
     simp [go_sem,c3,c4]
    refine K_run hB 100 ?_
    simp [go_sem,c3,c4]
    refine K_dCallP rfl rfl rfl (args:=[.agg (hereC x s),.u s.can]) (f:=90) (by simp [go_sem,hereC,c1,c4]) (hall_pure x s s.can hx) ?_
    cases c5:x.allB s.can with
    |false=>
     rw [if_neg (by simp [c5])] at hR
     subst hR
     refine K_run hB 100 ?_
     simp [go_sem,c3]
    |true=>
     refine K_run hB 100 ?_
     simp [go_sem,c3]
     refine K_dCallP rfl rfl rfl (args:=[.agg (hereC x s),.i 0]) (f:=91) (by simp [go_sem,hereC,c1,c4]) hfar ?_
     by_cases c6:a.due<s.time+d
     ·rw [if_neg (by simp [c6])] at hR
      subst hR
      refine K_run hB 100 ?_
      simp [go_sem,c3,c6,w1,g2,g3,g4,Stop.t]
     ·rw [if_pos ⟨hs,c3,c4,c5,by omega⟩] at hR
      subst hR
      refine K_run hB 100 ?_
      simp [go_sem,c3,c6,w1,g2,g3,g4,Stop.t]
      refine K_call rfl rfl rfl (args:=[.agg (hereC x s),.i 0]) (f:=91) (by simp [go_sem,hereC,c1,c4]) (by simp [go_sem,hB]) (hfar.spec _ _) ?_
      refine K_run hB 100 ?_
      simp [go_sem]
end Go.Proofs.YtnoifgjiipgpoaaGreat

set_option maxRecDepth 4000
namespace Go.Proofs.YtnoifgjiipgpoaaGreat
open Go Go.Proofs.YtnoifgjiipgpoaaGreat.R
theorem State.zero_ok:State.zero.ok:=⟨by decide,by decide,by decide⟩
theorem rootS_ok (x:Inst):x.rootS.ok:=by
 unfold Inst.rootS
 split
 ·exact ⟨State.zero_ok.must,State.zero_ok.can,State.zero_ok.on⟩
 ·exact State.zero_ok
theorem seen_ok (x:Inst) {s:State} (j:Int) (h:s.ok):(x.seen s j).ok:=⟨withN_lt h.must j,withN_lt h.can j,h.on⟩
theorem visit_ok (x:Inst) {s:State} (j:Int) (h:s.ok):(x.visit s j).1.ok:=by
 unfold Inst.visit
 split
 ·exact h
 ·exact seen_ok x j h
theorem to_ok (x:Inst) {s:State} (j:Int) (h:s.ok):(x.to s j).1.ok:=by
 unfold Inst.to
 split
 ·unfold Inst.home
  split
  ·exact h
  ·exact ⟨h.must,h.can,h.on⟩
 ·have hv:=visit_ok x j h
  split
  ·unfold Inst.take
   split
   ·exact h
   ·split
    ·exact ⟨hv.must,hv.can,withN_lt h.on j⟩
    ·exact hv
  ·unfold Inst.bring
   split
   ·exact h
   ·split
    ·exact ⟨hv.must,hv.can,withoutN_lt _ _⟩
    ·exact hv
theorem move_ok (x:Inst) {s:State} (j:Int) (h:s.ok):(x.move s j).1.ok:=by
 unfold Inst.move
 split
 ·unfold Inst.step
  split
  ·exact h
  ·split
   ·exact to_ok x j h
   ·exact h
 ·exact h
theorem ints_getS (l:List Int) {i:Nat} (h:i<l.length):(ints l)[i]'(by rw [ints,List.length_map];exact h)=[.i l[i]]:=by simp [ints]
def Inst.goes (x:Inst):List Int→State→Int→Option (State×Int)
 |[],s,c=>some (s,c)
 |j :: l,s,c=>if (x.move s j).2.2=true then x.goes l (x.move s j).1 (IntKind.i64.wrap (c+(x.move s j).2.1)) else none
end Go.Proofs.YtnoifgjiipgpoaaGreat

set_option maxRecDepth 100000
namespace Go.Proofs.YtnoifgjiipgpoaaGreat
open Go Go.ChangeShapes Go.WideShapes Go.ChangeAt Go.RowKit Go.Proofs.YtnoifgjiipgpoaaGreat.R
theorem own0:ownKnob Tryz.prog.godebug=Option.none:=by kernel_rfl
theorem has_i {f:Nat} {ts:List T} (h:HasT P f 3 ts):∃n:Int,ts=[.i n]:=by
 obtain ⟨n,rfl,_⟩:=has_int (tt_some tt3).1 h
 exact ⟨n,rfl⟩
theorem has_stop {f:Nat} {ts:List T} (h:HasT P f 88 ts):∃s:Stop,ts=s.t:=by
 obtain ⟨f',h⟩:=has_struct (tt_some tt88).1 h
 simp only [HasF] at h
 obtain ⟨a,_,rfl,_,ha,b,_,rfl,_,hb,c,_,rfl,_,hc,d,_,rfl,_,hd,e,_,rfl,_,he,g,_,rfl,_,hg,rfl⟩:=h
 obtain ⟨a,rfl⟩:=has_i ha
 obtain ⟨b,rfl⟩:=has_i hb
 obtain ⟨c,rfl⟩:=has_i hc
 obtain ⟨d,rfl⟩:=has_i hd
 obtain ⟨e,rfl⟩:=has_i he
 obtain ⟨g,rfl⟩:=has_i hg
 exact ⟨⟨a,b,c,d,e,g⟩,rfl⟩
def Inst.ts (x:Inst):List T:=[.i x.pairs,.i x.cars,.i x.room,.sl (x.stops.map Stop.t)]
theorem has_inst {f:Nat} {ts:List T} (h:HasT P f 24 ts):∃x:Inst,ts=x.ts∧x.stops.length≤maxLen:=by
 obtain ⟨f',h⟩:=has_struct (tt_some tt24).1 h
 simp only [HasF] at h
 obtain ⟨a,_,rfl,_,ha,b,_,rfl,_,hb,c,_,rfl,_,hc,d,_,rfl,_,hd,rfl⟩:=h
 obtain ⟨a,rfl⟩:=has_i ha
 obtain ⟨b,rfl⟩:=has_i hb
 obtain ⟨c,rfl⟩:=has_i hc
 obtain ⟨l,rfl,hl,_⟩:=has_slice (g:=Stop.t) (Q:=fun _=>True) (tt_some tt22).1 (fun f x h=>by
  obtain ⟨s,rfl⟩:=has_stop h
  exact ⟨s,rfl,trivial⟩) hd
 exact ⟨⟨a,b,c,l⟩,rfl,hl⟩
section
variable {H:Type} {enc:TypeId×Value→H} {W:World} {base:Nat} {sp:Nat→Bool} {held:Bool} {v:Value} {d:DataW H} {ps:List MemPlace}
theorem arg_i (h:DataW.Trod enc P W 0 sp held 3 v d ps) (hv:Value.okWide P W .any base 3 v):∃n:Int,RepA W (C0 W) (.i n) v:=by
 obtain ⟨f,ts,h1,h2⟩:=arg_int (tt_some tt3).1 (by kernel_rfl) h hv
 obtain ⟨n,rfl⟩:=has_i h1
 exact ⟨n,h2 _ rfl⟩
theorem arg_inst (h:DataW.Trod enc P W 0 sp held 24 v d ps) (hv:Value.okWide P W .any base 24 v):∃x:Inst,x.stops.length≤maxLen∧RepA W (C0 W) x.a v:=by
 obtain ⟨f,ts,h1,h2⟩:=arg_struct (tt_some tt24).1 (by kernel_rfl) h hv
 obtain ⟨x,rfl,hl⟩:=has_inst h1
 exact ⟨x,hl,h2⟩
end
end Go.Proofs.YtnoifgjiipgpoaaGreat

set_option maxRecDepth 4000
namespace Go.Proofs.YtnoifgjiipgpoaaGreat
open Go Go.Proofs.YtnoifgjiipgpoaaGreat.R
theorem filter_lt {α:Type} {p q:α→Bool}:∀(l:List α) {a:α},a∈l→p a=true→q a=false→(∀b,q b=true→p b=true)→(l.filter q).length<(l.filter p).length
 |b :: l,a,ha,hp,hq,h=>by
  have hle:(l.filter q).length≤(l.filter p).length:=by
   rw [←List.countP_eq_length_filter,←List.countP_eq_length_filter]
   exact List.countP_mono_left fun b _=>h b
  rw [List.filter_cons,List.filter_cons]
  rcases List.mem_cons.1 ha with rfl | ha
  ·rw [hp,hq]
   simp only [if_true,Bool.false_eq_true,if_false,List.length_cons]
   omega
  ·have:=filter_lt l ha hp hq h
   have hb:=h b
   cases e1:q b<;>cases e2:p b<;>simp only [if_true,Bool.false_eq_true,if_false,List.length_cons]<;>first | omega | skip
   rw [e1] at hb
   rw [e2] at hb
   exact absurd (hb rfl) (by simp)
end Go.Proofs.YtnoifgjiipgpoaaGreat

set_option maxRecDepth 4000
namespace Go.Proofs.YtnoifgjiipgpoaaGreat
open Go Go.Proofs.YtnoifgjiipgpoaaGreat.R
section
variable {α:Type} (κ:α→Int)
def insK (x:α) (s:List α):List α:=s.filter (fun y=>decide (κ y≤κ x))++x :: s.filter (fun y=>decide (κ x<κ y))
def isort (l:List α):List α:=l.foldl (fun s x=>insK κ x s) []
def Srt (l:List α):Prop:=l.Pairwise fun a b=>κ a≤κ b
structure SortOf (l s:List α):Prop where
 srt:Srt κ s
 key:∀k,s.filter (fun y=>decide (κ y=k))=l.filter (fun y=>decide (κ y=k))
variable {κ}
theorem mem_of_key {s t:List α} (h:∀k,s.filter (fun y=>decide (κ y=k))=t.filter (fun y=>decide (κ y=k))) {x:α} (hx:x∈s):x∈t:=by
 have:x∈s.filter (fun y=>decide (κ y=κ x)):=List.mem_filter.2 ⟨hx,by simp⟩
 rw [h] at this
 exact (List.mem_filter.1 this).1
theorem sort_uniq:∀(s t:List α),Srt κ s→Srt κ t→(∀k,s.filter (fun y=>decide (κ y=k))=t.filter (fun y=>decide (κ y=k)))→s=t
 |[],[],_,_,_=>rfl
 |[],y :: t,_,_,h=>by
  have:=mem_of_key (s:=y :: t) (t:=[]) (fun k=>(h k).symm) List.mem_cons_self
  cases this
 |x :: s,[],_,_,h=>by
  have:=mem_of_key h List.mem_cons_self
  cases this
 |x :: s,y :: t,hs,ht,h=>by
  have h1:=mem_of_key h (List.mem_cons_self (a:=x) (l:=s))
  have h2:=mem_of_key (fun k=>(h k).symm) (List.mem_cons_self (a:=y) (l:=t))
  rw [Srt,List.pairwise_cons] at hs ht
  have e1:κ x≤κ y:=by
   rcases List.mem_cons.1 h2 with rfl | h2
   ·exact Int.le_refl _
   ·exact hs.1 y h2
  have e2:κ y≤κ x:=by
   rcases List.mem_cons.1 h1 with rfl | h1
   ·exact Int.le_refl _
   ·exact ht.1 x h1
  have e:κ x=κ y:=by omega
  have h3:=h (κ x)
  rw [List.filter_cons,List.filter_cons,if_pos (by simp),if_pos (by simp [e])] at h3
  obtain ⟨rfl,h4⟩:=List.cons.inj h3
  congr 1
  refine sort_uniq s t hs.2 ht.2 fun k=>?_
  have h5:=h k
  rw [List.filter_cons,List.filter_cons] at h5
  split at h5
  ·exact (List.cons.inj h5).2
  ·exact h5
theorem SortOf.uniq {l s t:List α} (hs:SortOf κ l s) (ht:SortOf κ l t):s=t:=sort_uniq s t hs.srt ht.srt fun k=>(hs.key k).trans (ht.key k).symm
theorem ins_sort {l s:List α} (h:SortOf κ l s) (x:α):SortOf κ (l++[x]) (insK κ x s):=by
 refine ⟨?_,fun k=>?_⟩
 ·rw [Srt,insK,List.pairwise_append,List.pairwise_cons]
  refine ⟨h.srt.filter _,⟨fun y hy=>?_,h.srt.filter _⟩,fun y hy z hz=>?_⟩
  ·have:=(List.mem_filter.1 hy).2
   simp only [decide_eq_true_eq] at this
   omega
  ·have h1:=(List.mem_filter.1 hy).2
   simp only [decide_eq_true_eq] at h1
   rcases List.mem_cons.1 hz with rfl | hz
   ·exact h1
   ·have h2:=(List.mem_filter.1 hz).2
    simp only [decide_eq_true_eq] at h2
    omega
 ·rw [insK,List.filter_append,List.filter_append,List.filter_cons,List.filter_cons,List.filter_nil,List.filter_filter,List.filter_filter,←h.key k]
  rcases Int.lt_trichotomy k (κ x) with hk | hk | hk
  ·have e1:s.filter (fun a=>decide (κ a=k)&&decide (κ a≤κ x))=s.filter fun y=>decide (κ y=k):=List.filter_congr fun y _=>by
    rw [Bool.eq_iff_iff];simp only [Bool.and_eq_true,decide_eq_true_eq];omega
   have e2:s.filter (fun a=>decide (κ a=k)&&decide (κ x<κ a))=[]:=List.filter_eq_nil_iff.2 fun y _=>by simp only [Bool.and_eq_true,decide_eq_true_eq];omega
   rw [e1,e2,if_neg (by simp only [decide_eq_true_eq];omega),List.append_nil]
  ·have e1:s.filter (fun a=>decide (κ a=k)&&decide (κ a≤κ x))=s.filter fun y=>decide (κ y=k):=List.filter_congr fun y _=>by
    rw [Bool.eq_iff_iff];simp only [Bool.and_eq_true,decide_eq_true_eq];omega
   have e2:s.filter (fun a=>decide (κ a=k)&&decide (κ x<κ a))=[]:=List.filter_eq_nil_iff.2 fun y _=>by simp only [Bool.and_eq_true,decide_eq_true_eq];omega
   rw [e1,e2]
  ·have e1:s.filter (fun a=>decide (κ a=k)&&decide (κ a≤κ x))=[]:=List.filter_eq_nil_iff.2 fun y _=>by simp only [Bool.and_eq_true,decide_eq_true_eq];omega
   have e2:s.filter (fun a=>decide (κ a=k)&&decide (κ x<κ a))=s.filter fun y=>decide (κ y=k):=List.filter_congr fun y _=>by
    rw [Bool.eq_iff_iff];simp only [Bool.and_eq_true,decide_eq_true_eq];omega
   have hn:¬decide (κ x=k)=true:=by simp only [decide_eq_true_eq];omega
   rw [e1,e2,if_neg hn,if_neg hn]
   simp
theorem fold_sort:∀(l pre s:List α),SortOf κ pre s→SortOf κ (pre++l) (l.foldl (fun s x=>insK κ x s) s)
 |[],pre,s,h=>by rw [List.append_nil];exact h
 |x :: l,pre,s,h=>by
  have:=fold_sort l (pre++[x]) _ (ins_sort h x)
  rw [List.append_assoc] at this
  exact this
theorem isort_sort (l:List α):SortOf κ l (isort κ l):=by
 have h:SortOf κ ([]:List α) []:=⟨List.Pairwise.nil,fun _=>rfl⟩
 exact fold_sort l [] [] h
theorem isort_eq {l s:List α} (h:SortOf κ l s):isort κ l=s:=(isort_sort l).uniq h
theorem isort_snoc (l:List α) (x:α):isort κ (l++[x])=insK κ x (isort κ l):=by
 rw [isort,List.foldl_append];rfl
theorem isort_mem {l:List α} {x:α}:x∈isort κ l↔x∈l:=⟨mem_of_key fun k=>(isort_sort l).key k,mem_of_key fun k=>((isort_sort l).key k).symm⟩
theorem filter_len:∀(s:List α) (x:α),(s.filter (fun y=>decide (κ y≤κ x))).length+(s.filter (fun y=>decide (κ x<κ y))).length=s.length
 |[],_=>rfl
 |a :: s,x=>by
  have:=filter_len s x
  rw [List.filter_cons,List.filter_cons]
  by_cases h:κ a≤κ x
  ·rw [if_pos (by simpa using h),if_neg (by simp;omega)]
   simp only [List.length_cons]
   omega
  ·rw [if_neg (by simpa using h),if_pos (by simp;omega)]
   simp only [List.length_cons]
   omega
theorem foldK_len:∀(l s:List α),(l.foldl (fun s x=>insK κ x s) s).length=s.length+l.length
 |[],s=>rfl
 |x :: l,s=>by
  have:=filter_len (κ:=κ) s x
  rw [List.foldl_cons,foldK_len l,insK,List.length_append,List.length_cons,List.length_cons]
  omega
theorem isort_len (l:List α):(isort κ l).length=l.length:=by rw [isort,foldK_len];simp
theorem isort_self {l:List α} (h:Srt κ l):isort κ l=l:=isort_eq ⟨h,fun _=>rfl⟩
theorem isort_app (a b:List α):isort κ (isort κ a++isort κ b)=isort κ (a++b):=
 isort_eq ⟨(isort_sort (a++b)).srt,fun k=>by rw [(isort_sort (a++b)).key k,List.filter_append,List.filter_append,(isort_sort a).key k,(isort_sort b).key k]⟩
theorem insK_split {u v:List α} {x:α} (hu:∀y∈u,κ y≤κ x) (hv:∀y∈v,κ x<κ y):insK κ x (u++v)=u++x :: v:=by
 rw [insK,List.filter_append,List.filter_append]
 have e1:u.filter (fun y=>decide (κ y≤κ x))=u:=List.filter_eq_self.2 fun y hy=>by simpa using hu y hy
 have e2:v.filter (fun y=>decide (κ y≤κ x))=[]:=List.filter_eq_nil_iff.2 fun y hy=>by have:=hv y hy;simp;omega
 have e3:u.filter (fun y=>decide (κ x<κ y))=[]:=List.filter_eq_nil_iff.2 fun y hy=>by have:=hu y hy;simp;omega
 have e4:v.filter (fun y=>decide (κ x<κ y))=v:=List.filter_eq_self.2 fun y hy=>by simpa using hv y hy
 rw [e1,e2,e3,e4]
 simp
theorem one_right {u v:List α} {y:α} (h:Srt κ (u++v)) (hu:∀x∈u,κ x≤κ y) (hv:∀x∈v,κ y<κ x):isort κ (u++v++[y])=u++y :: v:=by
 rw [isort_snoc,isort_self h,insK_split hu hv]
theorem one_left {u v:List α} {x:α} (h:Srt κ (u++v)) (hu:∀y∈u,κ y<κ x) (hv:∀y∈v,κ x≤κ y):isort κ (x :: (u++v))=u++x :: v:=by
 rw [Srt,List.pairwise_append] at h
 refine isort_eq ⟨?_,fun k=>?_⟩
 ·rw [Srt,List.pairwise_append,List.pairwise_cons]
  refine ⟨h.1,⟨fun y hy=>hv y hy,h.2.1⟩,fun y hy z hz=>?_⟩
  have:=hu y hy
  rcases List.mem_cons.1 hz with rfl | hz
  ·omega
  ·have:=hv z hz;omega
 ·rw [List.filter_append,List.filter_cons,List.filter_cons,List.filter_append]
  by_cases hk:κ x=k
  ·have e1:u.filter (fun y=>decide (κ y=k))=[]:=List.filter_eq_nil_iff.2 fun y hy=>by have:=hu y hy;simp;omega
   rw [e1]
   simp
  ·rw [if_neg (by simpa using hk),if_neg (by simpa using hk)]
theorem isort_cut {u1 u2 v1 v2:List α} (hu:Srt κ (u1++u2)) (hv:Srt κ (v1++v2)) (h1:∀u∈u1,∀v∈v2,κ u≤κ v) (h2:∀v∈v1,∀u∈u2,κ v<κ u):
  isort κ (u1++u2++(v1++v2))=isort κ (u1++v1)++isort κ (u2++v2):=by
 rw [Srt,List.pairwise_append] at hu hv
 refine isort_eq ⟨?_,fun k=>?_⟩
 ·rw [Srt,List.pairwise_append]
  refine ⟨(isort_sort _).srt,(isort_sort _).srt,fun a ha b hb=>?_⟩
  rcases List.mem_append.1 (isort_mem.1 ha) with ha | ha<;>rcases List.mem_append.1 (isort_mem.1 hb) with hb | hb
  ·exact hu.2.2 a ha b hb
  ·exact h1 a ha b hb
  ·have:=h2 a ha b hb;omega
  ·exact hv.2.2 a ha b hb
 ·rw [List.filter_append,(isort_sort _).key k,(isort_sort _).key k]
  simp only [List.filter_append,List.append_assoc]
  congr 1
  rw [←List.append_assoc,←List.append_assoc]
  congr 1
  by_cases hk:∃v∈v1,κ v=k
  ·obtain ⟨v,hv1,hv2⟩:=hk
   have e:u2.filter (fun y=>decide (κ y=k))=[]:=List.filter_eq_nil_iff.2 fun y hy=>by have:=h2 v hv1 y hy;simp;omega
   rw [e];simp
  ·have e:v1.filter (fun y=>decide (κ y=k))=[]:=List.filter_eq_nil_iff.2 fun y hy=>by
    simp only [decide_eq_true_eq]
    exact fun h=>hk ⟨y,hy,h⟩
   rw [e];simp
theorem isort_map {β:Type} (f:β→α) (l:List β):(isort (fun b=>κ (f b)) l).map f=isort κ (l.map f):=by
 refine (isort_eq ⟨?_,fun k=>?_⟩).symm
 ·rw [Srt,List.pairwise_map]
  exact (isort_sort l).srt
 ·have:=(isort_sort (κ:=fun b=>κ (f b)) l).key k
  rw [List.filter_map,List.filter_map]
  exact congrArg (List.map f) this
def blks (κ:α→Int) (bs:Nat):Nat→List α→List α
 |0,_=>[]
 |t+1,l=>isort κ (l.take bs)++blks κ bs t (l.drop bs)
theorem blks_snoc (bs:Nat):∀(t:Nat) (l:List α),blks κ bs (t+1) l=blks κ bs t l++isort κ ((l.drop (bs*t)).take bs)
 |0,l=>by simp [blks]
 |t+1,l=>by
  rw [blks,blks_snoc bs t (l.drop bs),blks,List.append_assoc,List.drop_drop]
  congr 3
  rw [Nat.mul_succ]
  congr 2
  omega
theorem blks_len (bs:Nat):∀(t:Nat) (l:List α),bs*t≤l.length→(blks κ bs t l).length=bs*t
 |0,l,_=>by simp [blks]
 |t+1,l,h=>by
  rw [Nat.mul_succ] at h
  rw [blks,List.length_append,isort_len,blks_len bs t (l.drop bs) (by rw [List.length_drop];omega),List.length_take,Nat.mul_succ]
  omega
def allBlks (κ:α→Int) (bs:Nat) (l:List α):List α:=blks κ bs (l.length / bs) l++isort κ (l.drop (bs*(l.length / bs)))
theorem allBlks_cons {bs:Nat} (h0:0<bs) {l:List α} (h:bs≤l.length):allBlks κ bs l=isort κ (l.take bs)++allBlks κ bs (l.drop bs):=by
 have e:l.length / bs=(l.drop bs).length / bs+1:=by rw [List.length_drop];exact Nat.div_eq_sub_div h0 h
 rw [allBlks,e,blks,List.append_assoc,allBlks,List.drop_drop]
 congr 3
 rw [Nat.mul_succ]
 congr 1
 omega
theorem allBlks_small {bs:Nat} {l:List α} (h:l.length<bs):allBlks κ bs l=isort κ l:=by
 rw [allBlks,Nat.div_eq_of_lt h]
 simp [blks]
theorem allBlks_le {bs:Nat} (h0:0<bs) {l:List α} (h:l.length≤bs):allBlks κ bs l=isort κ l:=by
 rcases Nat.lt_or_ge l.length bs with h1 | h1
 ·exact allBlks_small h1
 ·have e:l.length=bs:=by omega
  rw [allBlks_cons h0 h1,List.take_of_length_le h,allBlks_small (by rw [List.length_drop];omega),List.drop_eq_nil_of_le h]
  simp [isort]
theorem allBlks_len {bs:Nat} (l:List α):(allBlks κ bs l).length=l.length:=by
 have h:=Nat.mul_div_le l.length bs
 rw [allBlks,List.length_append,blks_len bs _ l h,isort_len,List.length_drop]
 omega
theorem srt_take {l:List α} (h:Srt κ l) (n:Nat):Srt κ (l.take n):=List.Pairwise.sublist (List.take_sublist _ _) h
theorem srt_drop {l:List α} (h:Srt κ l) (n:Nat):Srt κ (l.drop n):=List.Pairwise.sublist (List.drop_sublist _ _) h
end
end Go.Proofs.YtnoifgjiipgpoaaGreat

set_option maxRecDepth 4000
namespace Go.Proofs.YtnoifgjiipgpoaaGreat
open Go Go.Proofs.YtnoifgjiipgpoaaGreat.R
section
variable {α:Type}
theorem far_get1 (X Y Z:List α) (x y:α):(X++x :: (Y++y :: Z))[X.length]? =some x:=by simp
theorem far_get2 (X Y Z:List α) (x y:α):(X++x :: (Y++y :: Z))[X.length+1+Y.length]? =some y:=by
 rw [List.getElem?_append_right (by omega),show X.length+1+Y.length-X.length=Y.length+1 by omega,List.getElem?_cons_succ]
 simp
theorem set_at (X Z:List α) (x y:α):(X++x :: Z).set X.length y=X++y :: Z:=by
 rw [List.set_append_right _ _ (Nat.le_refl _),Nat.sub_self,List.set_cons_zero]
theorem far_set (X Y Z:List α) (x y:α):((X++x :: (Y++y :: Z)).set X.length y).set (X.length+1+Y.length) x=X++y :: (Y++x :: Z):=by
 rw [set_at]
 have e:X++y :: (Y++y :: Z)=(X++y :: Y)++y :: Z:=by simp
 have el:X.length+1+Y.length=(X++y :: Y).length:=by simp;omega
 rw [e,el,set_at]
 simp
theorem near_set (X Z:List α) (x y:α):((X++x :: y :: Z).set X.length y).set (X.length+1) x=X++y :: x :: Z:=by
 simp
theorem near_set2 (X Z:List α) (x y:α):((X++x :: y :: Z).set (X.length+1) x).set X.length y=X++y :: x :: Z:=by
 simp
end
end Go.Proofs.YtnoifgjiipgpoaaGreat

set_option maxRecDepth 4000
namespace Go.Proofs.YtnoifgjiipgpoaaGreat
open Go Go.Proofs.YtnoifgjiipgpoaaGreat.R
structure Node where
 s:State
 cost:Int
 path:List Int
 deriving DecidableEq
def Node.cs (n:Node):List AV:=[.i n.s.spot,.i n.s.car,.i n.s.time,.i n.s.load,.i n.s.first,.u n.s.must,.u n.s.can,.u n.s.on,.i n.cost,.t (.sl (ints n.path))]
def Node.a (n:Node):AV:=.agg n.cs
def Node.t (n:Node):List T:=[.i n.s.spot,.i n.s.car,.i n.s.time,.i n.s.load,.i n.s.first,.v (.int .u64 n.s.must),.v (.int .u64 n.s.can),.v (.int .u64 n.s.on),.i n.cost,.sl (ints n.path)]
end Go.Proofs.YtnoifgjiipgpoaaGreat

set_option maxRecDepth 4000
namespace Go.Proofs.YtnoifgjiipgpoaaGreat
open Go Go.Proofs.YtnoifgjiipgpoaaGreat.R
def KR (e:List T):Prop:=∃(n:Node) (k:Int),e=n.t++[.i k]
def κr (e:List T):Int:=match e[10]? with
 |some (T.v (.int _ k))=>k
 |_=>0
theorem κr_at (n:Node) (k:Int):κr (n.t++[.i k])=k:=by
 rw [κr]
 simp [Node.t]
theorem KR.len {e:List T} (h:KR e):e.length=11:=by
 obtain ⟨n,k,rfl⟩:=h
 simp [Node.t]
def cmpI (a b:Int):Int:=if a<b then -1 else if b<a then 1 else 0
theorem cmpI_neg (a b:Int):cmpI a b<0↔a<b:=by
 unfold cmpI
 split
 ·omega
 ·split<;>omega
theorem nan_pure (a:Int):Pure P 142 [.i a] (.b false):=by
 refine pure_of Tryz.func142 rfl rfl (by simp [Tryz.f142]) (by simp [bnd,bnd.bndL]) (by simp [bnd,bnd.bndL]) fun B hB hnx=>?_
 simp only [Tryz.f142] at hB ⊢
 refine K_run hB 100 ?_
 simp [go_sem]
theorem cmp_pure (a b:Int):Pure P 125 [.i a,.i b] (.i (cmpI a b)):=by
 generalize hR:cmpI a b=R
 refine pure_of Tryz.func125 rfl rfl (by simp [Tryz.f125]) (by simp [bnd,bnd.bndL]) (by simp [bnd,bnd.bndL]) fun B hB hnx=>?_
 simp only [Tryz.f125] at hB ⊢
 rw [cmpI] at hR
 refine K_run hB 100 ?_
 simp [go_sem]
 refine K_call rfl rfl rfl (args:=[.i a]) (f:=142) (by simp [go_sem]) (by simp [go_sem,hB]) ((nan_pure a).spec _ _) ?_
 refine K_run hB 100 ?_
 simp [go_sem]
 refine K_call rfl rfl rfl (args:=[.i b]) (f:=142) (by simp [go_sem]) (by simp [go_sem,hB]) ((nan_pure b).spec _ _) ?_
 by_cases c1:a<b
 ·rw [if_pos c1] at hR
  subst hR
  refine K_run hB 100 ?_
  simp [go_sem,c1]
 ·rw [if_neg c1] at hR
  by_cases c2:b<a
  ·rw [if_pos c2] at hR
   subst hR
   refine K_run hB 100 ?_
   simp [go_sem,c1,c2]
  ·rw [if_neg c2] at hR
   subst hR
   refine K_run hB 100 ?_
   simp [go_sem,c1,c2]
theorem keyCmp_pure (a b:List T) (ha:KR a) (hb:KR b):Pure P 124 [.agg (a.map .t),.agg (b.map .t)] (.i (cmpI (κr a) (κr b))):=by
 obtain ⟨n,k,rfl⟩:=ha
 obtain ⟨m,j,rfl⟩:=hb
 rw [κr_at,κr_at]
 have hc:=cmp_pure k j
 refine pure_of Tryz.func124 rfl rfl (by simp [Tryz.f124]) (by simp [bnd,bnd.bndL,Node.t]) (by simp [bnd,bnd.bndL]) fun B hB hnx=>?_
 simp only [Tryz.f124] at hB ⊢
 refine K_run hB 100 ?_
 simp [go_sem,Node.t]
 refine K_call rfl rfl rfl (args:=[.i k,.i j]) (f:=125) (by simp [go_sem]) (by simp [go_sem,hB]) ((hc).spec _ _) ?_
 refine K_run hB 100 ?_
 simp [go_sem]
abbrev cmpF:AV:=.fn (.func 124) [] []
structure Two (S:List (List T)) (u v:Nat) (x y:List T):Prop where
 hu:u<S.length
 hv:v<S.length
 gu:∀h:u<S.length,S[u]'h=x
 gv:∀h:v<S.length,S[v]'h=y
 lx:x.length=11
 ly:y.length=11
theorem two_far {X Y Z:List (List T)} {x y:List T} (hx:x.length=11) (hy:y.length=11):Two (X++x :: (Y++y :: Z)) X.length (X.length+1+Y.length) x y:=by
 have h1:=far_get1 X Y Z x y
 have h2:=far_get2 X Y Z x y
 have l1:X.length<(X++x :: (Y++y :: Z)).length:=by simp
 have l2:X.length+1+Y.length<(X++x :: (Y++y :: Z)).length:=by simp;omega
 refine ⟨l1,l2,fun h=>?_,fun h=>?_,hx,hy⟩
 ·rw [List.getElem?_eq_getElem h] at h1
  exact Option.some.inj h1
 ·rw [List.getElem?_eq_getElem h] at h2
  exact Option.some.inj h2
theorem take11 {e:List T} (h:e.length=11):List.take 11 (List.map AV.t e)=List.map AV.t e:=List.take_of_length_le (by rw [List.length_map];omega)
theorem swapRange_spec (pre A M C post:List (List T)) (hAC:A.length=C.length) (hL:∀e∈pre++(A++(M++(C++post))),e.length=11) (hbig:(pre++(A++(M++(C++post)))).length<2^31) {σ:Nat→AObj} {nx q:Nat} (hq:q<nx) (hσq:σ q= .arr 11 (pre++(A++(M++(C++post))))):
  CallSpec P 158 [.ref q,.i pre.length,.i (pre.length+A.length+M.length:Nat),.i A.length,cmpF] σ nx (.tup []) (oput σ q (.arr 11 (pre++(C++(M++(A++post)))))) nx:=by
 refine spec_down Tryz.func158 rfl rfl (by simp [Tryz.f158]) hq (by simp [bndO]) (by simp [bnd,bnd.bndL]) fun hk B hB hnx hσ=>?_
 simp only [Tryz.f158] at hB ⊢
 simp only [List.length_append] at hbig
 obtain ⟨F,hF⟩:∃F:Nat→List (List T),F=fun i=>pre++((C.take i++A.drop i)++(M++((A.take i++C.drop i)++post))):=⟨_,rfl⟩
 have hF0:σ=oput σ q (.arr 11 (F 0)):=by
  have:F 0=pre++(A++(M++(C++post))):=by rw [hF];simp
  rw [this,←hσq,oput_self rfl]
 have hFn:F A.length=pre++(C++(M++(A++post))):=by
  rw [hF]
  simp only
  rw [List.take_of_length_le (by omega:C.length≤A.length),List.drop_eq_nil_of_le (Nat.le_refl A.length),List.take_length,List.drop_eq_nil_of_le (by omega:C.length≤A.length)]
  simp
 have hFlen:∀i,(F i).length=pre.length+(A.length+(M.length+(C.length+post.length))):=fun i=>by
  rw [hF]
  simp only [List.length_append,List.length_take,List.length_drop]
  omega
 refine K_run hB 100 ?_
 simp [go_sem]
 refine K_loopP (α:=Nat) (fun i=>i≤A.length) (fun i=>⟨sl [(0,.ref q),(1,.i pre.length),(2,.i (pre.length+A.length+M.length:Nat)),(3,.i A.length),(10,.i i)],oput σ q (.arr 11 (F i)),nx⟩) (fun i=>A.length-i) 0 (Nat.zero_le _) (Imp.slots (by simp [go_sem]) hF0.symm rfl) ?_
 intro i hi
 refine K_run hB 60 ?_
 simp [go_sem]
 refine fork_dec (fun h=>?_) (fun h=>?_)
 ·have hc:i<C.length:=by omega
  have hs1:F i=(pre++C.take i)++A[i] :: ((A.drop (i+1)++(M++A.take i))++C[i] :: (C.drop (i+1)++post)):=by
   rw [hF]
   simp only [List.append_assoc]
   rw [List.drop_eq_getElem_cons h,List.drop_eq_getElem_cons hc]
   simp only [List.cons_append,List.append_assoc]
  have hs2:F (i+1)=(pre++C.take i)++C[i] :: ((A.drop (i+1)++(M++A.take i))++A[i] :: (C.drop (i+1)++post)):=by
   rw [hF]
   simp only [List.append_assoc]
   rw [List.take_succ_eq_append_getElem h,List.take_succ_eq_append_getElem hc]
   simp only [List.cons_append,List.append_assoc,List.nil_append]
  have hx:(A[i]).length=11:=hL _ (by simp)
  have hy:(C[i]).length=11:=hL _ (by simp)
  generalize A[i]=x at *
  generalize C[i]=y at *
  have htwo:=two_far (X:=pre++C.take i) (Y:=A.drop (i+1)++(M++A.take i)) (Z:=C.drop (i+1)++post) hx hy
  have hset:=far_set (pre++C.take i) (A.drop (i+1)++(M++A.take i)) (C.drop (i+1)++post) x y
  rw [←hs1] at htwo hset
  rw [←hs2] at hset
  have e1:(pre++C.take i).length=pre.length+i:=by rw [List.length_append,List.length_take];omega
  have e2:(pre++C.take i).length+1+(A.drop (i+1)++(M++A.take i)).length=pre.length+A.length+M.length+i:=by
   simp only [List.length_append,List.length_take,List.length_drop]
   omega
  rw [e2,e1] at htwo hset
  obtain ⟨u,hu⟩:∃u,u=pre.length+i:=⟨_,rfl⟩
  obtain ⟨v,hv⟩:∃v,v=pre.length+A.length+M.length+i:=⟨_,rfl⟩
  rw [←hu,←hv] at htwo hset
  have hne:¬u=v:=by omega
  have hne':¬v=u:=by omega
  have w1:IntKind.i64.wrap ((pre.length:Int)+i)=(u:Int):=by rw [w64 _ (by omega)];omega
  have w2:IntKind.i64.wrap ((pre.length:Int)+A.length+M.length+i)=(v:Int):=by rw [w64 _ (by omega)];omega
  have hii:IntKind.i64.wrap ((i:Int)+1)=((i+1:Nat):Int):=by rw [w64 ((i:Int)+1) (by omega)];rfl
  obtain ⟨t1,t2,t3,t4,t5,t6⟩:=htwo
  have d1:u*11 / 11=u:=by omega
  have d2:u*11 % 11=0:=by omega
  have d3:v*11 / 11=v:=by omega
  have d4:v*11 % 11=0:=by omega
  generalize F i=S at *
  generalize hS':F (i+1)=S' at *
  simp [go_sem,h]
  refine K_drawnF [21,23] [4,5,6,7] rfl (by rw [hB];kernel_rfl) (by kernel_rfl) fun ht hf'=>?_
  have k1:=take11 t5
  have k2:=take11 t6
  have k3:setCells x 0 y=y:=setCells_all (by omega)
  have k4:setCells y 0 x=x:=setCells_all (by omega)
  refine K_run hB 100 ?_
  simp [go_sem,ht,hf',w1,w2,t1,t2,t3,t4,d1,d2,d3,d4,t5,t6,k1,k2,k3,k4,toTs_t,hne,hne',hii]
  refine Next.mk (i+1) (by omega) (Imp.slots (by simp [go_sem]) ?_ rfl) (by omega)
  rw [hS',←hset]
  funext j
  by_cases e:j=q<;>simp [oput,e]
 ·have:i=A.length:=by omega
  subst this
  rw [hFn]
  simp [go_sem]
  intro j h1 h2 h3
  exact absurd h3 h2
end Go.Proofs.YtnoifgjiipgpoaaGreat

set_option maxRecDepth 4000
namespace Go.Proofs.YtnoifgjiipgpoaaGreat
open Go Go.Proofs.YtnoifgjiipgpoaaGreat.R
theorem oput_twice (σ:Nat→AObj) (q:Nat) (a b:AObj):oput (oput σ q a) q b=oput σ q b:=by
 funext j
 by_cases e:j=q<;>simp [oput,e]
theorem rotate_spec (pre U V post:List (List T)) (hU:0<U.length) (hV:0<V.length) (hL:∀e∈pre++(U++(V++post)),e.length=11) (hbig:(pre++(U++(V++post))).length<2^31) {σ:Nat→AObj} {nx q:Nat} (hq:q<nx) (hσq:σ q= .arr 11 (pre++(U++(V++post)))):
  CallSpec P 157 [.ref q,.i pre.length,.i (pre.length+U.length:Nat),.i (pre.length+U.length+V.length:Nat),cmpF] σ nx (.tup []) (oput σ q (.arr 11 (pre++(V++(U++post))))) nx:=by
 refine spec_down Tryz.func157 rfl rfl (by simp [Tryz.f157]) hq (by simp [bndO]) (by simp [bnd,bnd.bndL]) fun hk B hB hnx hσ=>?_
 simp only [Tryz.f157] at hB ⊢
 simp only [List.length_append] at hbig
 have w1:IntKind.i64.wrap ((pre.length:Int)+U.length-pre.length)=(U.length:Int):=by rw [w64 _ (by omega)];omega
 have w2:IntKind.i64.wrap ((pre.length:Int)+U.length+V.length-(pre.length+U.length))=(V.length:Int):=by rw [w64 _ (by omega)];omega
 have hσ0:oput σ q (.arr 11 (pre++([]++(U++(V++([]++post))))))=σ:=by
  simp only [List.nil_append]
  rw [←hσq]
  exact oput_self rfl
 refine K_run hB 100 ?_
 simp [go_sem,w1,w2]
 refine K_loopP (α:=List (List T)×List (List T)×List (List T)×List (List T)) (fun (V1,X,Y,U1)=>0<X.length∧0<Y.length∧V1.length+X.length=U.length∧Y.length+U1.length=V.length∧V1++(Y++(X++U1))=V++U∧∀e∈pre++(V1++(X++(Y++(U1++post)))),e.length=11)
  (fun (V1,X,Y,U1)=>⟨sl [(0,.ref q),(2,.i (pre.length+U.length:Nat)),(4,cmpF),(10,.i X.length),(11,.i Y.length)],oput σ q (.arr 11 (pre++(V1++(X++(Y++(U1++post)))))),nx⟩) (fun (V1,X,Y,U1)=>X.length+Y.length) ([],U,V,[]) ⟨hU,hV,by simp,by simp,by simp,by simpa using hL⟩ (Imp.slots (by simp [go_sem]) hσ0 rfl) ?_
 rintro ⟨V1,X,Y,U1⟩ ⟨g1,g2,g3,g4,g5,g6⟩
 have g7:∀e,(e∈pre∨e∈V1∨e∈X∨e∈Y∨e∈U1∨e∈post)→e.length=11:=by simpa using g6
 have hlV:(pre++V1).length=pre.length+V1.length:=List.length_append
 have w3:IntKind.i64.wrap ((pre.length:Int)+U.length-X.length)=(pre.length:Int)+V1.length:=by rw [w64 _ (by omega)];omega
 by_cases c:X.length=Y.length
 ·have hs:=swapRange_spec (pre++V1) X [] Y (U1++post) c (by simpa using g6) (by simp only [List.length_append,List.length_nil];omega) (σ:=oput σ q (.arr 11 (pre++(V1++(X++(Y++(U1++post))))))) hq (by simp [oput])
  rw [oput_twice] at hs
  refine K_run hB 100 ?_
  simp [go_sem,c]
  refine K_call rfl rfl rfl (args:=[.ref q,.i (pre++V1).length,.i ((pre++V1).length+X.length+([]:List (List T)).length:Nat),.i X.length,cmpF]) (f:=158) (by simp [go_sem,←c,w3];omega) (by simp [go_sem,hB]) hs ?_
  refine K_run hB 100 ?_
  simp [go_sem]
  refine ⟨?_,fun j h1 h2 h3=>absurd h3 h2⟩
  have:=congrArg (fun l=>l++post) g5
  simpa only [List.append_assoc] using this
 ·have c':¬(X.length:Int)=Y.length:=by omega
  by_cases c2:Y.length<X.length
  ·have l1:(X.take Y.length).length=Y.length:=by rw [List.length_take];omega
   have l2:(X.drop Y.length).length=X.length-Y.length:=List.length_drop
   have hX:X.take Y.length++X.drop Y.length=X:=List.take_append_drop _ _
   have e1:pre++(V1++(X++(Y++(U1++post))))=(pre++V1)++(X.take Y.length++(X.drop Y.length++(Y++(U1++post)))):=by
    rw [←List.append_assoc (X.take Y.length),hX];simp
   have hs:=swapRange_spec (pre++V1) (X.take Y.length) (X.drop Y.length) Y (U1++post) l1 (by rw [←e1];exact g6) (by simp only [List.length_append];omega) (σ:=oput σ q (.arr 11 (pre++(V1++(X++(Y++(U1++post))))))) hq (by simp [oput,e1])
   rw [oput_twice] at hs
   have w4:IntKind.i64.wrap ((X.length:Int)-Y.length)=((X.drop Y.length).length:Int):=by rw [w64 _ (by omega),l2];omega
   refine K_run hB 100 ?_
   simp [go_sem,c,c',c2]
   refine K_call rfl rfl rfl (args:=[.ref q,.i (pre++V1).length,.i ((pre++V1).length+(X.take Y.length).length+(X.drop Y.length).length:Nat),.i (X.take Y.length).length,cmpF]) (f:=158) (by simp [go_sem,w3];omega) (by simp [go_sem,hB]) hs ?_
   refine K_run hB 100 ?_
   simp [go_sem,w4]
   refine Next.mk (V1++Y,X.drop Y.length,X.take Y.length,U1) ⟨by simp only;omega,by simp only;omega,by simp only [List.length_append];omega,by simp only;omega,?_,fun e he=>g7 e ?_⟩ (Imp.slots (by simp [go_sem,l1]) (by simp only [List.append_assoc]) rfl) (by simp only;omega)
   ·rw [←g5]
    simp only [List.append_assoc]
    rw [←List.append_assoc (X.take _),hX]
   ·simp only [List.mem_append] at he
    rcases he with h | (h | h) | h | h | h | h
    ·exact .inl h
    ·exact .inr (.inl h)
    ·exact .inr (.inr (.inr (.inl h)))
    ·exact .inr (.inr (.inl (List.mem_of_mem_drop h)))
    ·exact .inr (.inr (.inl (List.mem_of_mem_take h)))
    ·exact .inr (.inr (.inr (.inr (.inl h))))
    ·exact .inr (.inr (.inr (.inr (.inr h))))
  ·have l1:(Y.take (Y.length-X.length)).length=Y.length-X.length:=by rw [List.length_take];omega
   have l2:(Y.drop (Y.length-X.length)).length=X.length:=by rw [List.length_drop];omega
   have hY:Y.take (Y.length-X.length)++Y.drop (Y.length-X.length)=Y:=List.take_append_drop _ _
   have e1:pre++(V1++(X++(Y++(U1++post))))=(pre++V1)++(X++(Y.take (Y.length-X.length)++(Y.drop (Y.length-X.length)++(U1++post)))):=by
    rw [←List.append_assoc (Y.take _),hY];simp
   have hs:=swapRange_spec (pre++V1) X (Y.take (Y.length-X.length)) (Y.drop (Y.length-X.length)) (U1++post) l2.symm (by rw [←e1];exact g6) (by simp only [List.length_append];omega) (σ:=oput σ q (.arr 11 (pre++(V1++(X++(Y++(U1++post))))))) hq (by simp [oput,e1])
   rw [oput_twice] at hs
   have w4:IntKind.i64.wrap ((Y.length:Int)-X.length)=((Y.take (Y.length-X.length)).length:Int):=by rw [w64 _ (by omega),l1];omega
   have w5:IntKind.i64.wrap ((pre.length:Int)+U.length+Y.length)=(pre.length:Int)+U.length+Y.length:=w64 _ (by omega)
   have w6:IntKind.i64.wrap ((pre.length:Int)+U.length+Y.length-X.length)=(pre.length:Int)+V1.length+Y.length:=by rw [w64 _ (by omega)];omega
   refine K_run hB 100 ?_
   simp [go_sem,c,c',c2]
   refine K_call rfl rfl rfl (args:=[.ref q,.i (pre++V1).length,.i ((pre++V1).length+X.length+(Y.take (Y.length-X.length)).length:Nat),.i X.length,cmpF]) (f:=158) (by simp [go_sem,w3,w5,w6];omega) (by simp [go_sem,hB]) hs ?_
   refine K_run hB 100 ?_
   simp [go_sem,w4]
   refine Next.mk (V1,Y.drop (Y.length-X.length),Y.take (Y.length-X.length),X++U1) ⟨by simp only;omega,by simp only;omega,by simp only;omega,by simp only [List.length_append];omega,?_,fun e he=>g7 e ?_⟩ (Imp.slots (by simp [go_sem,l2]) (by simp only [List.append_assoc]) rfl) (by simp only;omega)
   ·rw [←g5]
    simp only [List.append_assoc]
    rw [←List.append_assoc (Y.take _),hY]
   ·simp only [List.mem_append] at he
    rcases he with h | h | h | h | (h | h) | h
    ·exact .inl h
    ·exact .inr (.inl h)
    ·exact .inr (.inr (.inr (.inl (List.mem_of_mem_drop h))))
    ·exact .inr (.inr (.inr (.inl (List.mem_of_mem_take h))))
    ·exact .inr (.inr (.inl h))
    ·exact .inr (.inr (.inr (.inr (.inl h))))
    ·exact .inr (.inr (.inr (.inr (.inr h))))
theorem insert_spec (pre mid post:List (List T)) (hK:∀e∈mid,KR e) (hL:∀e∈pre++(mid++post),e.length=11) (hbig:(pre++(mid++post)).length<2^31) {σ:Nat→AObj} {nx q:Nat} (hq:q<nx) (hσq:σ q= .arr 11 (pre++(mid++post))):
  CallSpec P 151 [.ref q,.i pre.length,.i (pre.length+mid.length:Nat),cmpF] σ nx (.tup []) (oput σ q (.arr 11 (pre++(isort κr mid++post)))) nx:=by
 refine spec_down Tryz.func151 rfl rfl (by simp [Tryz.f151]) hq (by simp [bndO]) (by simp [bnd,bnd.bndL]) fun hk B hB hnx hσ=>?_
 simp only [Tryz.f151] at hB ⊢
 simp only [List.length_append] at hbig
 have w1:IntKind.i64.wrap ((pre.length:Int)+1)=((pre.length+1:Nat):Int):=by rw [w64 _ (by omega)];omega
 have h1s:isort κr (mid.take 1)=mid.take 1:=by
  cases mid with
  |nil=>rfl
  |cons x l=>exact isort_self (List.pairwise_singleton _ _)
 have hσ0:oput σ q (.arr 11 (pre++(isort κr (mid.take 1)++(mid.drop 1++post))))=σ:=by
  rw [h1s,←List.append_assoc (mid.take 1),List.take_append_drop,←hσq]
  exact oput_self rfl
 refine K_run hB 100 ?_
 simp [go_sem,w1]
 refine K_loopP (α:=Nat) (fun k=>1≤k∧k≤mid.length+1)
  (fun k=>⟨sl [(0,.ref q),(1,.i pre.length),(2,.i (pre.length+mid.length:Nat)),(3,cmpF),(8,.i (pre.length+k:Nat))],oput σ q (.arr 11 (pre++(isort κr (mid.take k)++(mid.drop k++post)))),nx⟩) (fun k=>mid.length+1-k) 1 ⟨by omega,by omega⟩ (Imp.slots (by simp [go_sem]) hσ0 rfl) ?_
 rintro k ⟨g1,g2⟩
 by_cases hk:k<mid.length
 rotate_left
 ·have hk':¬((pre.length:Int)+k<pre.length+mid.length):=by omega
  refine K_run hB 60 ?_
  simp [go_sem,hk']
  rw [List.take_of_length_le (by omega),List.drop_eq_nil_of_le (by omega)]
  simp only [List.nil_append]
  exact ⟨trivial,fun j h1 h2 h3=>absurd h3 h2⟩
 have hk':(pre.length:Int)+k<pre.length+mid.length:=by omega
 refine K_run hB 60 ?_
 simp [go_sem,hk']
 have hKx:=hK mid[k] (List.getElem_mem hk)
 have htk:isort κr (mid.take (k+1))=insK κr mid[k] (isort κr (mid.take k)):=by rw [List.take_succ_eq_append_getElem hk,isort_snoc]
 have hdk:=List.drop_eq_getElem_cons hk
 have hsl:(isort κr (mid.take k)).length=k:=by rw [isort_len,List.length_take];omega
 have hsK:∀e∈isort κr (mid.take k),KR e:=fun e he=>hK e (List.mem_of_mem_take (isort_mem.1 he))
 have hss:=(isort_sort (κ:=κr) (mid.take k)).srt
 have hii:IntKind.i64.wrap ((pre.length:Int)+k+1)=(pre.length:Int)+(k+1:Nat):=by rw [w64 _ (by omega)];omega
 rw [hdk]
 generalize mid[k]=x at *
 have hLx:=hKx.len
 generalize isort κr (mid.take k)=s at *
 obtain ⟨Fl,hFl⟩:∃Fl:List (List T)→List (List T)→List (List T),∀u v,Fl u v=pre++(u++x :: (v++(mid.drop (k+1)++post))):=⟨_,fun _ _=>rfl⟩
 refine K_loopP (α:=List (List T)×List (List T)) (fun (u,v)=>u++v=s∧∀e∈v,κr x<κr e)
  (fun (u,v)=>⟨sl [(0,.ref q),(1,.i pre.length),(2,.i (pre.length+mid.length:Nat)),(3,cmpF),(8,.i (pre.length+k:Nat)),(9,.i (pre.length+u.length:Nat))],oput σ q (.arr 11 (Fl u v)),nx⟩) (fun (u,v)=>u.length) (s,[]) ⟨List.append_nil _,fun e he=>by cases he⟩ (Imp.slots (by simp [go_sem,hsl]) (by simp [hFl]) rfl) ?_
 rintro ⟨u,v⟩ ⟨i1,i2⟩
 have leave:(∀e∈u,κr e≤κr x)→isort κr (mid.take (k+1))=u++x :: v:=fun hu=>by rw [htk,←i1,insK_split hu i2]
 have hul:u.length≤k:=by rw [←hsl,←i1,List.length_append];omega
 rcases List.eq_nil_or_concat u with rfl | ⟨u',y,rfl⟩
 ·have hlv:=leave (fun e he=>by cases he)
  refine K_run hB 100 ?_
  simp [go_sem]
  refine K_drawn [] rfl (by rw [hB];kernel_rfl) ?_
  refine K_run hB 100 ?_
  simp [go_sem,hii]
  exact Next.mk (k+1) ⟨by omega,by omega⟩ (Imp.slots (by simp [go_sem]) (by rw [hlv];simp [hFl]) rfl) (by omega)
 ·rw [List.concat_eq_append] at *
  have hyK:KR y:=hsK y (by rw [←i1];simp)
  have hLy:=hyK.len
  have hul':u'.length+1≤k:=by simpa using hul
  have hS:Fl (u'++[y]) v=(pre++u')++y :: x :: (v++(mid.drop (k+1)++post)):=by simp [hFl]
  have hS':Fl u' (y :: v)=(pre++u')++x :: y :: (v++(mid.drop (k+1)++post)):=by simp [hFl]
  have htwo:=two_far (X:=pre++u') (Y:=[]) (Z:=v++(mid.drop (k+1)++post)) hLy hLx
  have hset:=near_set2 (pre++u') (v++(mid.drop (k+1)++post)) y x
  simp only [List.nil_append,List.length_nil,Nat.add_zero] at htwo
  rw [←hS] at htwo hset
  rw [←hS'] at hset
  obtain ⟨a,ha⟩:∃a,a=(pre++u').length:=⟨_,rfl⟩
  have ha2:a=pre.length+u'.length:=by rw [ha,List.length_append]
  rw [←ha] at htwo hset
  obtain ⟨b,hb⟩:∃b,b=a+1:=⟨_,rfl⟩
  rw [←hb] at htwo hset
  obtain ⟨t1,t2,t3,t4,t5,t6⟩:=htwo
  have hne:¬a=b:=by omega
  have hne':¬b=a:=by omega
  have d1:a*11 / 11=a:=by omega
  have d2:a*11 % 11=0:=by omega
  have d3:b*11 / 11=b:=by omega
  have d4:b*11 % 11=0:=by omega
  have k1:=take11 t5
  have k2:=take11 t6
  have k3:setCells x 0 y=y:=setCells_all (by omega)
  have k4:setCells y 0 x=x:=setCells_all (by omega)
  have w3:IntKind.i64.wrap ((b:Int)-1)=(a:Int):=by rw [w64 _ (by omega)];omega
  have w4:(pre.length:Int)+(u'.length+1)=(b:Int):=by omega
  have hcm:=keyCmp_pure x y hKx hyK
  have hneg:=cmpI_neg (κr x) (κr y)
  refine K_run hB 100 ?_
  simp [go_sem]
  generalize hSS:Fl (u'++[y]) v=S at *
  refine K_drawn [] rfl (by rw [hB];kernel_rfl) ?_
  refine K_run hB 100 ?_
  simp [go_sem,t1,t2,t3,t4,d1,d2,d3,d4,t5,t6,k1,k2,w3,w4,show pre.length<b by omega,show (pre.length:Int)<(b:Int) by omega]
  refine K_dCallP rfl rfl rfl (args:=[.agg (x.map .t),.agg (y.map .t)]) (f:=124) (by simp [go_sem]) (hcm) ?_
  by_cases c1:κr x<κr y
  ·refine K_run hB 100 ?_
   simp [go_sem,hneg,c1]
   refine K_drawnF [15,17] [2,3,4] rfl (by rw [hB];kernel_rfl) (by kernel_rfl) fun ht hf'=>?_
   refine K_run hB 100 ?_
   simp [go_sem,ht,hf',t1,t2,t3,t4,d1,d2,d3,d4,t5,t6,k1,k2,k3,k4,toTs_t,hne,hne',w3,w4]
   refine Next.mk (u',y :: v) ⟨by rw [←i1];simp,fun e he=>?_⟩ (Imp.slots (by simp [go_sem,ha2]) ?_ rfl) (by simp)
   ·rcases List.mem_cons.1 he with rfl | he
    ·exact c1
    ·exact i2 e he
   ·rw [←hset]
    funext j
    by_cases e:j=q<;>simp [oput,e]
  ·have hlv:=leave fun e he=>by
    have hyx:κr y≤κr x:=by omega
    rcases List.mem_append.1 he with he | he
    ·rw [←i1,Srt,List.pairwise_append,List.pairwise_append] at hss
     have:=hss.1.2.2 e he y (by simp)
     omega
    ·rw [List.mem_singleton.1 he];exact hyx
   refine K_run hB 100 ?_
   simp [go_sem,hneg,c1,hii]
   refine Next.mk (k+1) ⟨by omega,by omega⟩ (Imp.slots (by simp [go_sem]) ?_ rfl) (by omega)
   rw [←hSS,hFl,hlv]
   simp
end Go.Proofs.YtnoifgjiipgpoaaGreat

set_option maxRecDepth 4000
namespace Go.Proofs.YtnoifgjiipgpoaaGreat
open Go Go.Proofs.YtnoifgjiipgpoaaGreat.R
theorem fdiv2 (t:Nat):Int.fdiv (t:Int) 2=((t / 2:Nat):Int):=by
 rw [Int.fdiv_eq_ediv_of_nonneg _ (by omega)]
 omega
theorem get_row {S:List (List T)} {k:Nat} {y:List T} (h:S[k]? =some y):k<S.length∧∀h:k<S.length,S[k]'h=y:=by
 obtain ⟨h1,h2⟩:=List.getElem?_eq_some_iff.1 h
 exact ⟨h1,fun _=>h2⟩
theorem two_near {X Z:List (List T)} {x y:List T} (hx:x.length=11) (hy:y.length=11):Two (X++x :: y :: Z) X.length (X.length+1) x y:=by
 have:=two_far (X:=X) (Y:=[]) (Z:=Z) hx hy
 simpa using this
structure Halves (pre U V post:List (List T)) (a m b:Nat):Prop where
 ha:a=pre.length
 hm:m=a+U.length
 hb:b=m+V.length
 u0:0<U.length
 v0:0<V.length
 su:Srt κr U
 sv:Srt κr V
 kr:∀e∈U++V,KR e
 len:∀e∈pre++(U++(V++post)),e.length=11
 big:(pre++(U++(V++post))).length<2^31
abbrev symF:FuncId:=152
theorem symLeft_spec (pre U V post:List (List T)) (a m b:Nat) (hH:Halves pre U V post a m b) (hU1:U.length=1):∀{σ:Nat→AObj} {nx q:Nat},q<nx→σ q= .arr 11 (pre++(U++(V++post)))→
  CallSpec P symF [.ref q,.i a,.i m,.i b,cmpF] σ nx (.tup []) (oput σ q (.arr 11 (pre++(isort κr (U++V)++post)))) nx:=by
 intro σ nx q hq hσq
 obtain ⟨ha,hm,hb,u0,v0,su,sv,kr,len,big⟩:=hH
 simp only [List.length_append] at big
 refine spec_down Tryz.func152 rfl rfl (by simp [Tryz.f152]) hq (by simp [bndO]) (by simp [bnd,bnd.bndL]) fun hk B hB hnx hσ=>?_
 simp only [Tryz.f152] at hB ⊢
 obtain ⟨S,hS⟩:∃S,S=pre++(U++(V++post)):=⟨_,rfl⟩
 have hSl:S.length=a+(U.length+(V.length+post.length)):=by rw [hS];simp only [List.length_append];omega
 have hσS:oput σ q (.arr 11 S)=σ:=by rw [hS,←hσq];exact oput_self rfl
 have hSU:∀i (h:i<U.length),S[a+i]? =some U[i]:=fun i h=>by
  rw [hS,ha,List.getElem?_append_right (by omega),show pre.length+i-pre.length=i by omega,List.getElem?_append_left h,List.getElem?_eq_getElem h]
 have hSV:∀i (h:i<V.length),S[m+i]? =some V[i]:=fun i h=>by
  rw [hS,hm,ha,List.getElem?_append_right (by omega),show pre.length+U.length+i-pre.length=U.length+i by omega,List.getElem?_append_right (by omega),show U.length+i-U.length=i by omega,List.getElem?_append_left h,List.getElem?_eq_getElem h]
 have hlU:∀i (h:i<U.length),(U[i]).length=11:=fun i h=>len _ (by simp)
 have hlV:∀i (h:i<V.length),(V[i]).length=11:=fun i h=>len _ (by simp)
 obtain ⟨x,rfl⟩:∃x,U=[x]:=by
  match U,hU1 with
  |[x],_=>exact ⟨x,rfl⟩
 have w1:IntKind.i64.wrap ((m:Int)-a)=1:=by rw [w64 _ (by omega)];omega
 have hSx:=hSU 0 (by simp)
 simp only [Nat.add_zero,List.getElem_cons_zero] at hSx
 have hKx:KR x:=kr x (by simp)
 have hxl:=hKx.len
 refine K_run hB 100 ?_
 simp [go_sem,w1]
 refine K_loopP (α:=Nat×Nat) (fun (i,j)=>i≤j∧j≤V.length∧(∀e∈V.take i,κr e<κr x)∧∀e∈V.drop j,κr x≤κr e) (fun (i,j)=>⟨sl [(0,.ref q),(1,.i a),(2,.i m),(3,.i b),(4,cmpF),(10,.i (m+i:Nat)),(11,.i (m+j:Nat))],oput σ q (.arr 11 S),nx⟩) (fun (i,j)=>j-i) (0,V.length)
  ⟨Nat.zero_le _,Nat.le_refl _,by simp,by simp⟩ (Imp.slots (by simp [go_sem,hb]) hσS rfl) ?_
 rintro ⟨i,j⟩ ⟨i1,i2,i3,i4⟩
 by_cases c:i<j
 ·obtain ⟨t,ht⟩:∃t,t=m+i+(m+j):=⟨_,rfl⟩
  obtain ⟨h',hh'⟩:∃h',h'=(i+j) / 2:=⟨_,rfl⟩
  obtain ⟨hh,hhh⟩:∃hh,hh=m+h':=⟨_,rfl⟩
  have wA:IntKind.i64.wrap ((m:Int)+i+(m+j))=(t:Int):=by rw [w64 _ (by omega)];omega
  have wB:IntKind.u64.wrap (t:Int)=t:=u64 _ (by omega)
  have fd:Int.fdiv (t:Int) 2=(hh:Int):=by rw [fdiv2];omega
  have wC:IntKind.i64.wrap (hh:Int)=hh:=w64 _ (by omega)
  have hV':h'<V.length:=by omega
  have hgh:=hSV h' hV'
  rw [←hhh] at hgh
  have hKy:KR V[h']:=kr _ (by simp)
  have htk:∀e∈V.take (h'+1),κr e≤κr V[h']:=fun e he=>by
   rw [List.take_succ_eq_append_getElem hV'] at he
   have h2:=srt_take sv (h'+1)
   rw [List.take_succ_eq_append_getElem hV',Srt,List.pairwise_append] at h2
   rcases List.mem_append.1 he with he | he
   ·exact h2.2.2 e he _ (by simp)
   ·rw [List.mem_singleton.1 he];exact Int.le_refl _
  have hdk:∀e∈V.drop h',κr V[h']≤κr e:=fun e he=>by
   rw [List.drop_eq_getElem_cons hV'] at he
   have h2:=srt_drop sv h'
   rw [List.drop_eq_getElem_cons hV',Srt,List.pairwise_cons] at h2
   rcases List.mem_cons.1 he with rfl | he
   ·exact Int.le_refl _
   ·exact h2.1 e he
  generalize V[h']=y at *
  obtain ⟨y1,y2⟩:=get_row hgh
  obtain ⟨x1,x2⟩:=get_row hSx
  have hyl:=hKy.len
  have k1:=take11 hyl
  have k2:=take11 hxl
  have d1:hh*11 / 11=hh:=by omega
  have d2:hh*11 % 11=0:=by omega
  have d3:a*11 / 11=a:=by omega
  have d4:a*11 % 11=0:=by omega
  have hcm:=keyCmp_pure y x hKy hKx
  have hneg:=cmpI_neg (κr y) (κr x)
  have wD:IntKind.i64.wrap ((hh:Int)+1)=(m:Int)+(h'+1:Nat):=by rw [w64 _ (by omega)];omega
  refine K_run hB 60 ?_
  simp [go_sem,c,wA,wB,fd,wC]
  refine K_drawn [] rfl (by rw [hB];kernel_rfl) ?_
  refine K_run hB 100 ?_
  simp [go_sem,y1,y2,x1,x2,hyl,hxl,k1,k2,d1,d2,d3,d4]
  refine K_dCallP rfl rfl rfl (args:=[.agg (y.map .t),.agg (x.map .t)]) (f:=124) (by simp [go_sem]) (hcm) ?_
  by_cases c2:κr y<κr x
  ·refine K_run hB 100 ?_
   simp [go_sem,hneg,c2,wD]
   exact Next.mk (h'+1,j) ⟨by simp only;omega,i2,fun e he=>by have:=htk e he;omega,i4⟩ (Imp.slots (by simp [go_sem]) rfl rfl) (by simp only;omega)
  ·refine K_run hB 100 ?_
   simp [go_sem,hneg,c2]
   exact Next.mk (i,h') ⟨by simp only;omega,by simp only;omega,i3,fun e he=>by have:=hdk e he;omega⟩ (Imp.slots (by simp [go_sem,hhh]) rfl rfl) (by simp only;omega)
 ·have hij:i=j:=by omega
  subst hij
  have hres:isort κr ([x]++V)=V.take i++x :: V.drop i:=by
   have h2:V=V.take i++V.drop i:=(List.take_append_drop _ _).symm
   have:=one_left (κ:=κr) (u:=V.take i) (v:=V.drop i) (x:=x) (by rw [←h2];exact sv) i3 i4
   rw [←h2] at this
   exact this
  obtain ⟨Fl,hFl⟩:∃Fl:Nat→List (List T),∀k,Fl k=pre++(V.take k++x :: (V.drop k++post)):=⟨_,fun _=>rfl⟩
  have wE:IntKind.i64.wrap ((m:Int)+i-1)=(a:Int)+i:=by rw [w64 _ (by simp only [List.length_cons,List.length_nil] at hm;omega)];simp only [List.length_cons,List.length_nil] at hm;omega
  refine K_run hB 60 ?_
  simp [go_sem,c]
  refine K_loopP (α:=Nat) (fun k=>k≤i) (fun k=>⟨sl [(0,.ref q),(1,.i a),(2,.i m),(3,.i b),(4,cmpF),(10,.i (m+i:Nat)),(13,.i (a+k:Nat))],oput σ q (.arr 11 (Fl k)),nx⟩) (fun k=>i-k) 0 (Nat.zero_le _) (Imp.slots (by simp [go_sem]) (by rw [hFl,hS];simp) rfl) ?_
  intro k hki
  by_cases c3:k<i
  ·have hkV:k<V.length:=by omega
   have hs1:Fl k=(pre++V.take k)++x :: V[k] :: (V.drop (k+1)++post):=by
    rw [hFl,List.drop_eq_getElem_cons hkV]
    simp only [List.append_assoc,List.cons_append]
   have hs2:Fl (k+1)=(pre++V.take k)++V[k] :: x :: (V.drop (k+1)++post):=by
    rw [hFl,List.take_succ_eq_append_getElem hkV]
    simp only [List.append_assoc,List.cons_append,List.nil_append]
   have hyl:=hlV k hkV
   generalize V[k]=y at *
   have htwo:=two_near (X:=pre++V.take k) (Z:=V.drop (k+1)++post) hxl hyl
   have hset:=near_set (pre++V.take k) (V.drop (k+1)++post) x y
   rw [←hs1] at htwo hset
   rw [←hs2] at hset
   have e1:(pre++V.take k).length=a+k:=by rw [List.length_append,List.length_take];omega
   rw [e1] at htwo hset
   obtain ⟨u,hu⟩:∃u,u=a+k:=⟨_,rfl⟩
   obtain ⟨v,hv⟩:∃v,v=u+1:=⟨_,rfl⟩
   rw [←hu,←hv] at htwo hset
   obtain ⟨t1,t2,t3,t4,t5,t6⟩:=htwo
   have hne:¬u=v:=by omega
   have hne':¬v=u:=by omega
   have d1:u*11 / 11=u:=by omega
   have d2:u*11 % 11=0:=by omega
   have d3:v*11 / 11=v:=by omega
   have d4:v*11 % 11=0:=by omega
   have k1:=take11 t5
   have k2:=take11 t6
   have k3:setCells x 0 y=y:=setCells_all (by omega)
   have k4:setCells y 0 x=x:=setCells_all (by omega)
   have w3:(a:Int)+k=(u:Int):=by omega
   have w4:IntKind.i64.wrap ((u:Int)+1)=(v:Int):=by rw [w64 _ (by omega)];omega
   have c3':(u:Int)<(a:Int)+i:=by omega
   generalize Fl k=S1 at *
   generalize hS':Fl (k+1)=S2 at *
   refine K_run hB 60 ?_
   simp [go_sem,w3,wE,c3']
   refine K_drawnF [15,17] [2,3,4] rfl (by rw [hB];kernel_rfl) (by kernel_rfl) fun ht hf'=>?_
   refine K_run hB 100 ?_
   simp [go_sem,ht,hf',w3,w4,t1,t2,t3,t4,d1,d2,d3,d4,t5,t6,k1,k2,k3,k4,toTs_t,hne,hne']
   refine Next.mk (k+1) (by omega) (Imp.slots (by simp [go_sem,hv,hu];omega) ?_ rfl) (by omega)
   rw [hS',←hset]
   funext j
   by_cases e:j=q<;>simp [oput,e]
  ·have hki':k=i:=by omega
   subst hki'
   refine K_run hB 60 ?_
   simp [go_sem,wE]
   rw [hFl]
   simp only [List.append_assoc,List.cons_append] at hres ⊢
   exact ⟨by rw [show isort κr (x :: V)=V.take k++x :: V.drop k from hres];simp,fun j h1 h2 h3=>absurd h3 h2⟩
theorem symRight_spec (pre U V post:List (List T)) (a m b:Nat) (hH:Halves pre U V post a m b) (hU1:¬U.length=1) (hV1:V.length=1):∀{σ:Nat→AObj} {nx q:Nat},q<nx→σ q= .arr 11 (pre++(U++(V++post)))→
  CallSpec P symF [.ref q,.i a,.i m,.i b,cmpF] σ nx (.tup []) (oput σ q (.arr 11 (pre++(isort κr (U++V)++post)))) nx:=by
 intro σ nx q hq hσq
 obtain ⟨ha,hm,hb,u0,v0,su,sv,kr,len,big⟩:=hH
 simp only [List.length_append] at big
 refine spec_down Tryz.func152 rfl rfl (by simp [Tryz.f152]) hq (by simp [bndO]) (by simp [bnd,bnd.bndL]) fun hk B hB hnx hσ=>?_
 simp only [Tryz.f152] at hB ⊢
 obtain ⟨S,hS⟩:∃S,S=pre++(U++(V++post)):=⟨_,rfl⟩
 have hSl:S.length=a+(U.length+(V.length+post.length)):=by rw [hS];simp only [List.length_append];omega
 have hσS:oput σ q (.arr 11 S)=σ:=by rw [hS,←hσq];exact oput_self rfl
 have hSU:∀i (h:i<U.length),S[a+i]? =some U[i]:=fun i h=>by
  rw [hS,ha,List.getElem?_append_right (by omega),show pre.length+i-pre.length=i by omega,List.getElem?_append_left h,List.getElem?_eq_getElem h]
 have hSV:∀i (h:i<V.length),S[m+i]? =some V[i]:=fun i h=>by
  rw [hS,hm,ha,List.getElem?_append_right (by omega),show pre.length+U.length+i-pre.length=U.length+i by omega,List.getElem?_append_right (by omega),show U.length+i-U.length=i by omega,List.getElem?_append_left h,List.getElem?_eq_getElem h]
 have hlU:∀i (h:i<U.length),(U[i]).length=11:=fun i h=>len _ (by simp)
 have hlV:∀i (h:i<V.length),(V[i]).length=11:=fun i h=>len _ (by simp)
 have w1:IntKind.i64.wrap ((m:Int)-a)=(U.length:Int):=by rw [w64 _ (by omega)];omega
 have hU1':¬(U.length:Int)=1:=by omega
 obtain ⟨y,rfl⟩:∃y,V=[y]:=by
  match V,hV1 with
  |[y],_=>exact ⟨y,rfl⟩
 have w2:IntKind.i64.wrap ((b:Int)-m)=1:=by rw [w64 _ (by simp only [List.length_cons,List.length_nil] at hb;omega)];simp only [List.length_cons,List.length_nil] at hb;omega
 have hSy:=hSV 0 (by simp)
 simp only [Nat.add_zero,List.getElem_cons_zero] at hSy
 have hKy:KR y:=kr y (by simp)
 have hyl:=hKy.len
 refine K_run hB 100 ?_
 simp [go_sem,w1,hU1',hU1,w2]
 refine K_loopP (α:=Nat×Nat) (fun (i,j)=>i≤j∧j≤U.length∧(∀e∈U.take i,κr e≤κr y)∧∀e∈U.drop j,κr y<κr e) (fun (i,j)=>⟨sl [(0,.ref q),(1,.i a),(2,.i m),(3,.i b),(4,cmpF),(14,.i (a+i:Nat)),(15,.i (a+j:Nat))],oput σ q (.arr 11 S),nx⟩) (fun (i,j)=>j-i) (0,U.length)
  ⟨Nat.zero_le _,Nat.le_refl _,by simp,by simp⟩ (Imp.slots (by simp [go_sem,hm]) hσS rfl) ?_
 rintro ⟨i,j⟩ ⟨i1,i2,i3,i4⟩
 by_cases c:i<j
 ·obtain ⟨t,ht⟩:∃t,t=a+i+(a+j):=⟨_,rfl⟩
  obtain ⟨h',hh'⟩:∃h',h'=(i+j) / 2:=⟨_,rfl⟩
  obtain ⟨hh,hhh⟩:∃hh,hh=a+h':=⟨_,rfl⟩
  have wA:IntKind.i64.wrap ((a:Int)+i+(a+j))=(t:Int):=by rw [w64 _ (by omega)];omega
  have wB:IntKind.u64.wrap (t:Int)=t:=u64 _ (by omega)
  have fd:Int.fdiv (t:Int) 2=(hh:Int):=by rw [fdiv2];omega
  have wC:IntKind.i64.wrap (hh:Int)=hh:=w64 _ (by omega)
  have hU':h'<U.length:=by omega
  have hgh:=hSU h' hU'
  rw [←hhh] at hgh
  have hKx:KR U[h']:=kr _ (by simp)
  have htk:∀e∈U.take (h'+1),κr e≤κr U[h']:=fun e he=>by
   rw [List.take_succ_eq_append_getElem hU'] at he
   have h2:=srt_take su (h'+1)
   rw [List.take_succ_eq_append_getElem hU',Srt,List.pairwise_append] at h2
   rcases List.mem_append.1 he with he | he
   ·exact h2.2.2 e he _ (by simp)
   ·rw [List.mem_singleton.1 he];exact Int.le_refl _
  have hdk:∀e∈U.drop h',κr U[h']≤κr e:=fun e he=>by
   rw [List.drop_eq_getElem_cons hU'] at he
   have h2:=srt_drop su h'
   rw [List.drop_eq_getElem_cons hU',Srt,List.pairwise_cons] at h2
   rcases List.mem_cons.1 he with rfl | he
   ·exact Int.le_refl _
   ·exact h2.1 e he
  generalize U[h']=x at *
  obtain ⟨x1,x2⟩:=get_row hgh
  obtain ⟨y1,y2⟩:=get_row hSy
  have hxl:=hKx.len
  have k1:=take11 hyl
  have k2:=take11 hxl
  have d1:hh*11 / 11=hh:=by omega
  have d2:hh*11 % 11=0:=by omega
  have d3:m*11 / 11=m:=by omega
  have d4:m*11 % 11=0:=by omega
  have hcm:=keyCmp_pure y x hKy hKx
  have hneg:=cmpI_neg (κr y) (κr x)
  have wD:IntKind.i64.wrap ((hh:Int)+1)=(a:Int)+(h'+1:Nat):=by rw [w64 _ (by omega)];omega
  refine K_run hB 60 ?_
  simp [go_sem,c,wA,wB,fd,wC]
  refine K_drawn [] rfl (by rw [hB];kernel_rfl) ?_
  refine K_run hB 100 ?_
  simp [go_sem,y1,y2,x1,x2,hyl,hxl,k1,k2,d1,d2,d3,d4]
  refine K_dCallP rfl rfl rfl (args:=[.agg (y.map .t),.agg (x.map .t)]) (f:=124) (by simp [go_sem]) (hcm) ?_
  by_cases c2:κr y<κr x
  ·refine K_run hB 100 ?_
   simp [go_sem,hneg,c2]
   exact Next.mk (i,h') ⟨by simp only;omega,by simp only;omega,i3,fun e he=>by have:=hdk e he;omega⟩ (Imp.slots (by simp [go_sem,hhh]) rfl rfl) (by simp only;omega)
  ·refine K_run hB 100 ?_
   simp [go_sem,hneg,c2,wD]
   exact Next.mk (h'+1,j) ⟨by simp only;omega,i2,fun e he=>by have:=htk e he;omega,i4⟩ (Imp.slots (by simp [go_sem]) rfl rfl) (by simp only;omega)
 ·have hij:i=j:=by omega
  subst hij
  have hres:isort κr (U++[y])=U.take i++y :: U.drop i:=by
   have h2:U=U.take i++U.drop i:=(List.take_append_drop _ _).symm
   have:=one_right (κ:=κr) (u:=U.take i) (v:=U.drop i) (y:=y) (by rw [←h2];exact su) i3 i4
   rw [←h2] at this
   exact this
  obtain ⟨Fl,hFl⟩:∃Fl:Nat→List (List T),∀k,Fl k=pre++(U.take k++y :: (U.drop k++post)):=⟨_,fun _=>rfl⟩
  refine K_run hB 60 ?_
  simp [go_sem,c]
  refine K_loopP (α:=Nat) (fun k=>i≤k∧k≤U.length) (fun k=>⟨sl [(0,.ref q),(1,.i a),(2,.i m),(3,.i b),(4,cmpF),(14,.i (a+i:Nat)),(17,.i (a+k:Nat))],oput σ q (.arr 11 (Fl k)),nx⟩) (fun k=>k) U.length ⟨i2,Nat.le_refl _⟩ (Imp.slots (by simp [go_sem,hm]) (by rw [hFl,hS];simp) rfl) ?_
  rintro k ⟨hki,hkU⟩
  by_cases c3:i<k
  ·obtain ⟨k,rfl⟩:∃k',k=k'+1:=⟨k-1,by omega⟩
   have hkU':k<U.length:=by omega
   have hs1:Fl (k+1)=(pre++U.take k)++U[k] :: y :: (U.drop (k+1)++post):=by
    rw [hFl,List.take_succ_eq_append_getElem hkU']
    simp only [List.append_assoc,List.cons_append,List.nil_append]
   have hs2:Fl k=(pre++U.take k)++y :: U[k] :: (U.drop (k+1)++post):=by
    rw [hFl,List.drop_eq_getElem_cons hkU']
    simp only [List.append_assoc,List.cons_append]
   have hzl:=hlU k hkU'
   generalize U[k]=z at *
   have htwo:=two_near (X:=pre++U.take k) (Z:=U.drop (k+1)++post) hzl hyl
   have hset:=near_set2 (pre++U.take k) (U.drop (k+1)++post) z y
   rw [←hs1] at htwo hset
   rw [←hs2] at hset
   have e1:(pre++U.take k).length=a+k:=by rw [List.length_append,List.length_take];omega
   rw [e1] at htwo hset
   obtain ⟨u,hu⟩:∃u,u=a+k:=⟨_,rfl⟩
   obtain ⟨v,hv⟩:∃v,v=u+1:=⟨_,rfl⟩
   rw [←hu,←hv] at htwo hset
   obtain ⟨t1,t2,t3,t4,t5,t6⟩:=htwo
   have hne:¬u=v:=by omega
   have hne':¬v=u:=by omega
   have d1:u*11 / 11=u:=by omega
   have d2:u*11 % 11=0:=by omega
   have d3:v*11 / 11=v:=by omega
   have d4:v*11 % 11=0:=by omega
   have k1:=take11 t5
   have k2:=take11 t6
   have k3:setCells z 0 y=y:=setCells_all (by omega)
   have k4:setCells y 0 z=z:=setCells_all (by omega)
   have w3:(a:Int)+(k+1)=(v:Int):=by omega
   have w4:IntKind.i64.wrap ((v:Int)-1)=(u:Int):=by rw [w64 _ (by omega)];omega
   have c3':(a:Int)+i<(v:Int):=by omega
   generalize Fl (k+1)=S1 at *
   generalize hS':Fl k=S2 at *
   refine K_run hB 60 ?_
   simp [go_sem,w3,c3']
   refine K_drawnF [15,17] [2,3,4] rfl (by rw [hB];kernel_rfl) (by kernel_rfl) fun ht hf'=>?_
   refine K_run hB 100 ?_
   simp [go_sem,ht,hf',w3,w4,t1,t2,t3,t4,d1,d2,d3,d4,t5,t6,k1,k2,k3,k4,toTs_t,hne,hne']
   refine Next.mk k ⟨by omega,by omega⟩ (Imp.slots (by simp [go_sem,hu]) ?_ rfl) (by omega)
   rw [hS',←hset]
   funext j
   by_cases e:j=q<;>simp [oput,e]
  ·have hki':k=i:=by omega
   subst hki'
   refine K_run hB 60 ?_
   simp [go_sem]
   rw [hFl]
   exact ⟨by rw [hres];simp,fun j h1 h2 h3=>absurd h3 h2⟩
end Go.Proofs.YtnoifgjiipgpoaaGreat

set_option maxRecDepth 4000
set_option maxHeartbeats 1000000
namespace Go.Proofs.YtnoifgjiipgpoaaGreat
open Go Go.Proofs.YtnoifgjiipgpoaaGreat.R
theorem merge2 {p X G:Prop} (h1:p→X→G) (h2:¬p→X→G) (h3:X):G:=(Classical.em p).elim (fun h=>h1 h h3) (fun h=>h2 h h3)
theorem wr_add {x y z:Nat} (h:z=x+y) (hz:z<9223372036854775808):IntKind.i64.wrap ((x:Int)+y)=(z:Int):=by rw [w64 _ (by omega)];omega
theorem wr_sub {x y z:Nat} (h:z+y=x) (hx:x<9223372036854775808):IntKind.i64.wrap ((x:Int)-y)=(z:Int):=by rw [w64 _ (by omega)];omega
theorem wr_sub1 {x z:Nat} (h:z+1=x) (hx:x<9223372036854775808):IntKind.i64.wrap ((x:Int)-1)=(z:Int):=by rw [w64 _ (by omega)];omega
theorem wr_add1 {x:Nat} (hx:x+1<9223372036854775808):IntKind.i64.wrap ((x:Int)+1)=((x+1:Nat):Int):=by rw [w64 _ (by omega)];omega
theorem wr_u {x:Nat} (hx:x<9223372036854775808):IntKind.u64.wrap (x:Int)=(x:Int):=u64 _ (by omega)
theorem half_in {s r:Nat} (h:s<r):s≤(s+r) / 2∧(s+r) / 2<r:=by omega
theorem sym_ix {a m b n p lo0 r0 s r c ul vl:Nat} (ha1:a≤lo0) (hr:r0≤m) (h3:m+r0≤n) (h4:n≤b+lo0) (hp:p+1=n) (hm:m=a+ul) (hb:b=m+vl) (i1:lo0≤s) (i3:r≤r0) (h5:s≤c) (h6:c<r):
  c-a<ul∧a+(c-a)=c∧p-c-m<vl∧m+(p-c-m)=p-c∧p-c+c=p∧c+1-1-a=c-a∧n-(c+1)-m=p-c-m:=by omega
theorem sym_cut {U V:List (List T)} {i e:Nat} (su:Srt κr U) (sv:Srt κr V)
  (h1:i=0∨V.length≤e∨∃x y,0<i∧U[i-1]? =some x∧V[e]? =some y∧κr x≤κr y)
  (h2:e=0∨U.length≤i∨∃x y,0<e∧U[i]? =some x∧V[e-1]? =some y∧κr y<κr x):
  isort κr (U++V)=isort κr (U.take i++V.take e)++isort κr (U.drop i++V.drop e):=by
 have hlast:∀{L:List (List T)} {k:Nat} {x:List T},Srt κr L→0<k→L[k-1]? =some x→∀u∈L.take k,κr u≤κr x:=fun {L k x} hs hk hx u hu=>by
  obtain ⟨k,rfl⟩:∃k',k=k'+1:=⟨k-1,by omega⟩
  obtain ⟨g1,g2⟩:=List.getElem?_eq_some_iff.1 hx
  simp only [Nat.add_sub_cancel] at g1 g2
  have h5:=srt_take hs (k+1)
  rw [List.take_succ_eq_append_getElem g1,g2] at hu h5
  rw [Srt,List.pairwise_append] at h5
  rcases List.mem_append.1 hu with hu | hu
  ·exact h5.2.2 u hu x (by simp)
  ·rw [List.mem_singleton.1 hu];exact Int.le_refl _
 have hfirst:∀{L:List (List T)} {k:Nat} {x:List T},Srt κr L→L[k]? =some x→∀u∈L.drop k,κr x≤κr u:=fun {L k x} hs hx u hu=>by
  obtain ⟨g1,g2⟩:=List.getElem?_eq_some_iff.1 hx
  have h5:=srt_drop hs k
  rw [List.drop_eq_getElem_cons g1,g2] at hu h5
  rw [Srt,List.pairwise_cons] at h5
  rcases List.mem_cons.1 hu with rfl | hu
  ·exact Int.le_refl _
  ·exact h5.1 u hu
 have:=isort_cut (κ:=κr) (u1:=U.take i) (u2:=U.drop i) (v1:=V.take e) (v2:=V.drop e) (by rw [List.take_append_drop];exact su) (by rw [List.take_append_drop];exact sv) ?_ ?_
 ·rw [List.take_append_drop,List.take_append_drop] at this
  exact this
 ·intro u hu v hv
  rcases h1 with rfl | h1 | ⟨x,y,h3,h4,h5,h6⟩
  ·simp at hu
  ·rw [List.drop_eq_nil_of_le h1] at hv;cases hv
  ·have:=hlast su h3 h4 u hu
   have:=hfirst sv h5 v hv
   omega
 ·intro v hv u hu
  rcases h2 with rfl | h2 | ⟨x,y,h3,h4,h5,h6⟩
  ·simp at hv
  ·rw [List.drop_eq_nil_of_le h2] at hu;cases hu
  ·have:=hlast sv h3 h5 v hv
   have:=hfirst su h4 u hu
   omega
theorem symMerge_spec:∀(N:Nat) (pre U V post:List (List T)) (a m b:Nat),U.length+V.length≤N→Halves pre U V post a m b→∀{σ:Nat→AObj} {nx q:Nat},q<nx→σ q= .arr 11 (pre++(U++(V++post)))→
  CallSpec P symF [.ref q,.i a,.i m,.i b,cmpF] σ nx (.tup []) (oput σ q (.arr 11 (pre++(isort κr (U++V)++post)))) nx:=by
 intro N
 induction N with
 |zero=>
  intro pre U V post a m b hN hH
  have:=hH.u0
  omega
 |succ N ih=>
 intro pre U V post a m b hN hH σ nx q hq hσq
 by_cases hU1:U.length=1
 ·exact symLeft_spec pre U V post a m b hH hU1 hq hσq
 by_cases hV1:V.length=1
 ·exact symRight_spec pre U V post a m b hH hU1 hV1 hq hσq
 have hH0:=hH
 obtain ⟨ha,hm,hb,u0,v0,su,sv,kr,len,big⟩:=hH
 simp only [List.length_append] at big
 refine spec_down Tryz.func152 rfl rfl (by simp [Tryz.f152]) hq (by simp [bndO]) (by simp [bnd,bnd.bndL]) fun hk B hB hnx hσ=>?_
 simp only [Tryz.f152] at hB ⊢
 obtain ⟨S,hS⟩:∃S,S=pre++(U++(V++post)):=⟨_,rfl⟩
 have hSl:S.length=a+(U.length+(V.length+post.length)):=by rw [hS];simp only [List.length_append];omega
 have hσS:oput σ q (.arr 11 S)=σ:=by rw [hS,←hσq];exact oput_self rfl
 have hSU:∀i (h:i<U.length),S[a+i]? =some U[i]:=fun i h=>by
  rw [hS,ha,List.getElem?_append_right (by omega),show pre.length+i-pre.length=i by omega,List.getElem?_append_left h,List.getElem?_eq_getElem h]
 have hSV:∀i (h:i<V.length),S[m+i]? =some V[i]:=fun i h=>by
  rw [hS,hm,ha,List.getElem?_append_right (by omega),show pre.length+U.length+i-pre.length=U.length+i by omega,List.getElem?_append_right (by omega),show U.length+i-U.length=i by omega,List.getElem?_append_left h,List.getElem?_eq_getElem h]
 have hlU:∀i (h:i<U.length),(U[i]).length=11:=fun i h=>len _ (by simp)
 have hlV:∀i (h:i<V.length),(V[i]).length=11:=fun i h=>len _ (by simp)
 have hb31:b<2147483648:=by omega
 have u2:2≤U.length:=by omega
 have v2:2≤V.length:=by omega
 have hpost:post.length<2147483648:=by omega
 have htot:a+(U.length+(V.length+post.length))<2147483648:=by omega
 clear big hk hnx hσ
 obtain ⟨t,ht⟩:∃t,t=a+b:=⟨_,rfl⟩
 obtain ⟨mid,hmid⟩:∃mid,mid=t / 2:=⟨_,rfl⟩
 obtain ⟨n,hn⟩:∃n,n=mid+m:=⟨_,rfl⟩
 obtain ⟨p,hp⟩:∃p,p+1=n:=⟨n-1,by omega⟩
 have w1:IntKind.i64.wrap ((m:Int)-a)=(U.length:Int):=wr_sub (by omega) (by omega)
 have w2:IntKind.i64.wrap ((b:Int)-m)=(V.length:Int):=wr_sub (by omega) (by omega)
 have wA:IntKind.i64.wrap ((a:Int)+b)=(t:Int):=wr_add ht (by omega)
 have wB:IntKind.u64.wrap (t:Int)=t:=wr_u (by omega)
 have fd:Int.fdiv (t:Int) 2=(mid:Int):=by rw [fdiv2,hmid]
 have wC:IntKind.i64.wrap (mid:Int)=mid:=w64n _ (by omega)
 have wN:IntKind.i64.wrap ((mid:Int)+m)=(n:Int):=wr_add hn (by omega)
 have wP:IntKind.i64.wrap ((n:Int)-1)=(p:Int):=wr_sub1 hp (by omega)
 have hU1':¬(U.length:Int)=1:=by omega
 have hV1':¬(V.length:Int)=1:=by omega
 have ham:a<mid:=by omega
 have hmb:mid<b:=by omega
 have hN2:mid-a≤N∧b-mid≤N:=by omega
 obtain ⟨lo0,r0,hlo,hbnd,hcs⟩:∃lo0 r0:Nat,lo0≤r0∧(a≤lo0∧r0≤m∧m+r0≤n∧n≤b+lo0)∧((mid<m∧lo0+b=n∧r0=mid)∨(¬mid<m∧lo0=a∧r0=m)):=by
  by_cases cm:mid<m
  ·exact ⟨n-b,mid,by omega,by omega,.inl ⟨cm,by omega,rfl⟩⟩
  ·exact ⟨a,m,by omega,by omega,.inr ⟨cm,rfl,rfl⟩⟩
 obtain ⟨b1,b2,b3,b4⟩:=hbnd
 have w5:mid<m→IntKind.i64.wrap ((n:Int)-b)=(lo0:Int):=fun cm=>wr_sub (by omega) (by omega)
 have hc1:mid<m→r0=mid:=fun cm=>by omega
 have hc2:¬mid<m→lo0=a∧r0=m:=fun cm=>by omega
 have hS0:lo0=a∨n-lo0=b:=by omega
 have hR0:r0=m∨n-r0=m:=by omega
 apply merge2 (p:=mid<m)
 ·intro cm key
  have w5:=w5 cm
  refine K_run hB 100 ?_
  simp [go_sem,w1,hU1',w2,hV1',wA,wB,fd,wC,wN,cm,w5,wP]
  exact K_loopP (α:=Nat×Nat) (fun (s,r)=>lo0≤s∧s≤r∧r≤r0∧(s=lo0∨(a<s∧∃x,U[s-1-a]? =some x∧∃y,V[n-s-m]? =some y∧κr x≤κr y))∧(r=r0∨(m<n-r∧∃x,U[r-a]? =some x∧∃y,V[p-r-m]? =some y∧κr y<κr x)))
   (fun (s,r)=>⟨sl [(0,.ref q),(1,.i a),(2,.i m),(3,.i b),(4,cmpF),(18,.i mid),(19,.i n),(20,.i s),(21,.i r),(22,.i p)],oput σ q (.arr 11 S),nx⟩) (fun (s,r)=>r-s) (lo0,r0) ⟨Nat.le_refl _,hlo,Nat.le_refl _,.inl rfl,.inl rfl⟩ (Imp.slots (by simp [go_sem,hc1 cm]) hσS rfl) key
 ·intro cm key
  refine K_run hB 100 ?_
  simp [go_sem,w1,hU1',w2,hV1',wA,wB,fd,wC,wN,cm,wP]
  exact K_loopP (α:=Nat×Nat) (fun (s,r)=>lo0≤s∧s≤r∧r≤r0∧(s=lo0∨(a<s∧∃x,U[s-1-a]? =some x∧∃y,V[n-s-m]? =some y∧κr x≤κr y))∧(r=r0∨(m<n-r∧∃x,U[r-a]? =some x∧∃y,V[p-r-m]? =some y∧κr y<κr x)))
   (fun (s,r)=>⟨sl [(0,.ref q),(1,.i a),(2,.i m),(3,.i b),(4,cmpF),(18,.i mid),(19,.i n),(20,.i s),(21,.i r),(22,.i p)],oput σ q (.arr 11 S),nx⟩) (fun (s,r)=>r-s) (lo0,r0) ⟨Nat.le_refl _,hlo,Nat.le_refl _,.inl rfl,.inl rfl⟩ (Imp.slots (by simp [go_sem,hc2 cm]) hσS rfl) key
 clear w1 w2 wA wB fd wC wN wP w5 hc1 hc2 hU1' hV1' hcs
 rintro ⟨s,r⟩ ⟨i1,i2,i3,i4,i5⟩
 by_cases c:s<r
 ·obtain ⟨t2,ht2⟩:∃t,t=s+r:=⟨_,rfl⟩
  obtain ⟨c',hc'⟩:∃c',c'=t2 / 2:=⟨_,rfl⟩
  obtain ⟨c1,c2⟩:=half_in c
  rw [←ht2,←hc'] at c1 c2
  obtain ⟨j1,j2,j3,j4,j5,j6,j7⟩:=sym_ix b1 b2 b3 b4 hp hm hb i1 i3 c1 c2
  have hcb:c'<2147483648:=by omega
  have hrb:t2<4294967296:=by omega
  have hpb:p<4294967296:=by omega
  have wA2:IntKind.i64.wrap ((s:Int)+r)=(t2:Int):=wr_add ht2 (by omega)
  have wB2:IntKind.u64.wrap (t2:Int)=t2:=wr_u (by omega)
  have fd2:Int.fdiv (t2:Int) 2=(c':Int):=by rw [fdiv2,hc']
  have wC2:IntKind.i64.wrap (c':Int)=c':=w64n _ (by omega)
  have wE2:IntKind.i64.wrap ((c':Int)+1)=((c'+1:Nat):Int):=wr_add1 (by omega)
  obtain ⟨d',hd'⟩:∃d',d'=p-c':=⟨_,rfl⟩
  have wD2:IntKind.i64.wrap ((p:Int)-c')=(d':Int):=wr_sub (by rw [hd'];exact j5) (by omega)
  have gx:=hSU (c'-a) j1
  have gy:S[d']? =some (V[p-c'-m]'j3):=by
   have:=hSV (p-c'-m) j3
   rw [j4] at this
   rw [hd']
   exact this
  have ux:U[c'-a]? =some U[c'-a]:=List.getElem?_eq_getElem j1
  have vy:V[p-c'-m]? =some V[p-c'-m]:=List.getElem?_eq_getElem j3
  rw [j2] at gx
  have hKx:KR U[c'-a]:=kr _ (by simp)
  have hKy:KR V[p-c'-m]:=kr _ (by simp)
  generalize U[c'-a]'j1=x at *
  generalize V[p-c'-m]'j3=y at *
  obtain ⟨x1,x2⟩:=get_row gx
  obtain ⟨y1,y2⟩:=get_row gy
  have hxl:=hKx.len
  have hyl:=hKy.len
  have k1:=take11 hyl
  have k2:=take11 hxl
  have d1:c'*11 / 11=c':=by omega
  have d2:c'*11 % 11=0:=by omega
  have d3:d'*11 / 11=d':=by omega
  have d4:d'*11 % 11=0:=by omega
  have hcm:=keyCmp_pure y x hKy hKx
  have hneg:=cmpI_neg (κr y) (κr x)
  have n1:lo0≤c'+1:=by omega
  have n2:c'≤r0:=by omega
  have n3:a<c'+1:=by omega
  have n4:m<n-c':=by omega
  have n5:r-(c'+1)<r-s:=by omega
  have n6:c'-s<r-s:=by omega
  refine K_run hB 60 ?_
  simp [go_sem,c,wA2,wB2,fd2,wC2]
  refine K_drawn [] rfl (by rw [hB];kernel_rfl) ?_
  refine K_run hB 100 ?_
  simp [go_sem,wD2,x1,x2,y1,y2,hxl,hyl,k1,k2,d1,d2,d3,d4]
  refine K_dCallP rfl rfl rfl (args:=[.agg (y.map .t),.agg (x.map .t)]) (f:=124) (by simp [go_sem]) (hcm) ?_
  by_cases c3:κr y<κr x
  ·refine K_run hB 100 ?_
   simp [go_sem,hneg,c3]
   exact Next.mk (s,c') ⟨i1,c1,n2,i4,.inr ⟨n4,x,ux,y,vy,c3⟩⟩ (Imp.slots (by simp [go_sem]) rfl rfl) n6
  ·refine K_run hB 100 ?_
   simp [go_sem,hneg,c3,wE2]
   exact Next.mk (c'+1,r) ⟨n1,c2,i3,.inr ⟨n3,x,by simp only [j6];exact ux,y,by simp only [j7];exact vy,Int.not_lt.1 c3⟩,i5⟩ (Imp.slots (by simp [go_sem]) rfl rfl) n5
 have hsr:s=r:=by omega
 subst hsr
 clear c i2
 obtain ⟨e,he⟩:∃e,e+s=n:=⟨n-s,by omega⟩
 have hme:m≤e∧e≤b:=by omega
 have hsm:a≤s∧s≤m:=by omega
 have hnb:n<4294967296:=by omega
 have wS:IntKind.i64.wrap ((n:Int)-s)=(e:Int):=wr_sub he (by omega)
 have hmid2:mid=s+(e-m):=by omega
 have hre:n-s-m=e-m:=by omega
 have hrp:p-s-m=e-m-1:=by omega
 have hcut:isort κr (U++V)=isort κr (U.take (s-a)++V.take (e-m))++isort κr (U.drop (s-a)++V.drop (e-m)):=by
  refine sym_cut su sv ?_ ?_
  ·rcases i4 with i4 | ⟨h1,x,h2,y,h3,h4⟩
   ·rcases hS0 with h | h
    ·exact .inl (by omega)
    ·exact .inr (.inl (by omega))
   ·rw [hre] at h3
    refine .inr (.inr ⟨x,y,by omega,?_,h3,h4⟩)
    have:s-a-1=s-1-a:=by omega
    rw [this];exact h2
  ·rcases i5 with i5 | ⟨h1,x,h2,y,h3,h4⟩
   ·rcases hR0 with h | h
    ·exact .inr (.inl (by omega))
    ·exact .inl (by omega)
   ·rw [hrp] at h3
    exact .inr (.inr ⟨x,y,by omega,h2,h3,h4⟩)
 clear i4 i5 hS0 hR0 hSU hSV hlU hlV hre hrp
 obtain ⟨U1,hU1d⟩:∃U1,U1=U.take (s-a):=⟨_,rfl⟩
 obtain ⟨U2,hU2d⟩:∃U2,U2=U.drop (s-a):=⟨_,rfl⟩
 obtain ⟨V1,hV1d⟩:∃V1,V1=V.take (e-m):=⟨_,rfl⟩
 obtain ⟨V2,hV2d⟩:∃V2,V2=V.drop (e-m):=⟨_,rfl⟩
 rw [←hU1d,←hU2d,←hV1d,←hV2d] at hcut
 have lU1:U1.length=s-a:=by rw [hU1d,List.length_take];omega
 have lU2:U2.length=m-s:=by rw [hU2d,List.length_drop];omega
 have lV1:V1.length=e-m:=by rw [hV1d,List.length_take];omega
 have lV2:V2.length=b-e:=by rw [hV2d,List.length_drop];omega
 have hUU:U1++U2=U:=by rw [hU1d,hU2d];exact List.take_append_drop _ _
 have hVV:V1++V2=V:=by rw [hV1d,hV2d];exact List.take_append_drop _ _
 have sU1:Srt κr U1:=by rw [hU1d];exact srt_take su _
 have sU2:Srt κr U2:=by rw [hU2d];exact srt_drop su _
 have sV1:Srt κr V1:=by rw [hV1d];exact srt_take sv _
 have sV2:Srt κr V2:=by rw [hV2d];exact srt_drop sv _
 have hkr:∀x∈U1++V1++(U2++V2),KR x:=fun x hx=>kr x (by
  rw [←hUU,←hVV]
  simp only [List.mem_append] at hx ⊢
  rcases hx with (h | h) | h | h
  ·exact .inl (.inl h)
  ·exact .inr (.inl h)
  ·exact .inl (.inr h)
  ·exact .inr (.inr h))
 have hlen:∀x∈pre++(U1++(U2++(V1++(V2++post)))),x.length=11:=fun x hx=>len x (by
  rw [←hUU,←hVV]
  simpa using hx)
 have hSS:S=pre++(U1++(U2++(V1++(V2++post)))):=by rw [hS,←hUU,←hVV];simp
 obtain ⟨L1,hL1⟩:∃L1,L1=pre++(U1++(V1++(U2++(V2++post)))):=⟨_,rfl⟩
 obtain ⟨L2,hL2⟩:∃L2,L2=pre++(isort κr (U1++V1)++(U2++(V2++post))):=⟨_,rfl⟩
 have hL3:pre++(isort κr (U++V)++post)=pre++(isort κr (U1++V1)++(isort κr (U2++V2)++post)):=by rw [hcut,List.append_assoc]
 rw [hL3]
 have lpU:(pre++U1).length=s:=by rw [List.length_append,lU1,←ha];omega
 have hrot:=rotate_spec (pre++U1) U2 V1 (V2++post)
 have hsk:¬(s<m∧m<e)→S=L1:=fun h=>by
  rw [hSS,hL1]
  by_cases h1:s<m
  ·have:V1=[]:=List.eq_nil_of_length_eq_zero (by omega)
   rw [this];simp
  ·have:U2=[]:=List.eq_nil_of_length_eq_zero (by omega)
   rw [this];simp
 apply merge2 (p:=s<m∧m<e)
 ·rintro ⟨c1,c2⟩
  have hrot:=hrot (by rw [lU2];omega) (by rw [lV1];omega) (by simpa using hlen) (by simp only [List.length_append,lU1,lU2,lV1,lV2,←ha];omega) (σ:=oput σ q (.arr 11 S)) hq (by simp [oput,hSS])
  rw [oput_twice,lpU,lU2,lV1,show s+(m-s)=m by omega,show m+(e-m)=e by omega] at hrot
  intro key
  refine K_run hB 60 ?_
  simp [go_sem,wS,c1,c2]
  refine K_call rfl rfl rfl (args:=[.ref q,.i s,.i m,.i e,cmpF]) (f:=157) (by simp [go_sem]) (by simp [go_sem,hB]) hrot ?_
  refine K_run hB 1 ?_
  simp [go_sem]
  refine K_impC (t:=⟨sl [(0,.ref q),(1,.i a),(2,.i m),(3,.i b),(4,cmpF),(18,.i mid),(20,.i s),(24,.i e)],oput σ q (.arr 11 L1),nx⟩) (Imp.slots (by simp [go_sem]) (by rw [hL1]) rfl) ?_
  exact key
 ·intro c1
  have hsk:=hsk c1
  by_cases c2:s<m
  ·have c3:¬m<e:=fun h=>c1 ⟨c2,h⟩
   intro key
   refine K_run hB 33 ?_
   simp [go_sem,wS,c2,c3]
   refine K_impC (t:=⟨sl [(0,.ref q),(1,.i a),(2,.i m),(3,.i b),(4,cmpF),(18,.i mid),(20,.i s),(24,.i e)],oput σ q (.arr 11 L1),nx⟩) (Imp.slots (by simp [go_sem]) (by rw [hsk]) rfl) ?_
   exact key
  ·intro key
   refine K_run hB 30 ?_
   simp [go_sem,wS,c2]
   refine K_impC (t:=⟨sl [(0,.ref q),(1,.i a),(2,.i m),(3,.i b),(4,cmpF),(18,.i mid),(20,.i s),(24,.i e)],oput σ q (.arr 11 L1),nx⟩) (Imp.slots (by simp [go_sem]) (by rw [hsk]) rfl) ?_
   exact key
 clear hrot hsk
 have hleft:a<s→s<mid→CallSpec P symF [.ref q,.i a,.i s,.i mid,cmpF] (oput σ q (.arr 11 L1)) nx (.tup []) (oput σ q (.arr 11 L2)) nx:=fun c1 c2=>by
  have:=ih pre U1 V1 (U2++(V2++post)) a s mid (by omega) ⟨ha,by omega,by omega,by omega,by omega,sU1,sV1,fun x hx=>hkr x (List.mem_append_left _ hx),fun x hx=>hlen x (by
   simp only [List.mem_append] at hx ⊢
   rcases hx with h | h | h | h | h | h
   ·exact .inl h
   ·exact .inr (.inl h)
   ·exact .inr (.inr (.inr (.inl h)))
   ·exact .inr (.inr (.inl h))
   ·exact .inr (.inr (.inr (.inr (.inl h))))
   ·exact .inr (.inr (.inr (.inr (.inr h))))),by simp only [List.length_append,lU1,lU2,lV1,lV2,←ha];omega⟩ (σ:=oput σ q (.arr 11 L1)) (nx:=nx) hq (by simp [oput,hL1])
  rw [oput_twice,←hL2] at this
  exact this
 have hleft0:¬(a<s∧s<mid)→L1=L2:=fun h=>by
  have:isort κr (U1++V1)=U1++V1:=by
   by_cases h1:a<s
   ·have:V1=[]:=List.eq_nil_of_length_eq_zero (by omega)
    rw [this,List.append_nil]
    exact isort_self sU1
   ·have:U1=[]:=List.eq_nil_of_length_eq_zero (by omega)
    rw [this,List.nil_append]
    exact isort_self sV1
  rw [hL1,hL2,this,List.append_assoc]
 have lp2:(pre++isort κr (U1++V1)).length=mid:=by rw [List.length_append,isort_len,List.length_append,lU1,lV1,←ha];omega
 have hright:mid<e→e<b→CallSpec P symF [.ref q,.i mid,.i e,.i b,cmpF] (oput σ q (.arr 11 L2)) nx (.tup []) (oput σ q (.arr 11 (pre++(isort κr (U1++V1)++(isort κr (U2++V2)++post))))) nx:=fun c1 c2=>by
  have:=ih (pre++isort κr (U1++V1)) U2 V2 post mid e b (by omega) ⟨lp2.symm,by omega,by omega,by omega,by omega,sU2,sV2,fun x hx=>hkr x (List.mem_append_right _ hx),fun x hx=>hlen x (by
   simp only [List.mem_append,isort_mem] at hx ⊢
   rcases hx with (h | h | h) | h | h | h
   ·exact .inl h
   ·exact .inr (.inl h)
   ·exact .inr (.inr (.inr (.inl h)))
   ·exact .inr (.inr (.inl h))
   ·exact .inr (.inr (.inr (.inr (.inl h))))
   ·exact .inr (.inr (.inr (.inr (.inr h))))),by rw [List.length_append,lp2];simp only [List.length_append,lU2,lV2];omega⟩ (σ:=oput σ q (.arr 11 L2)) (nx:=nx) hq (by simp [oput,hL2])
  rw [oput_twice,List.append_assoc] at this
  exact this
 have hright0:¬(mid<e∧e<b)→L2=pre++(isort κr (U1++V1)++(isort κr (U2++V2)++post)):=fun h=>by
  have:isort κr (U2++V2)=U2++V2:=by
   by_cases h1:mid<e
   ·have:V2=[]:=List.eq_nil_of_length_eq_zero (by omega)
    rw [this,List.append_nil]
    exact isort_self sU2
   ·have:U2=[]:=List.eq_nil_of_length_eq_zero (by omega)
    rw [this,List.nil_append]
    exact isort_self sV2
  rw [hL2,this,List.append_assoc]
 clear ih
 apply merge2 (p:=a<s∧s<mid)
 ·rintro ⟨c1,c2⟩
  have hleft:=hleft c1 c2
  intro key
  refine K_run hB 60 ?_
  simp [go_sem,c1,c2]
  refine K_call rfl rfl rfl (args:=[.ref q,.i a,.i s,.i mid,cmpF]) (f:=152) (by simp [go_sem]) (by simp [go_sem,hB]) hleft ?_
  refine K_run hB 1 ?_
  simp [go_sem]
  refine K_impC (t:=⟨sl [(0,.ref q),(3,.i b),(4,cmpF),(18,.i mid),(24,.i e)],oput σ q (.arr 11 L2),nx⟩) (Imp.slots (by simp [go_sem]) rfl rfl) ?_
  exact key
 ·intro c1
  have hleft0:=hleft0 c1
  by_cases c2:a<s
  ·have c3:¬s<mid:=fun h=>c1 ⟨c2,h⟩
   intro key
   refine K_run hB 17 ?_
   simp [go_sem,c2,c3]
   refine K_impC (t:=⟨sl [(0,.ref q),(3,.i b),(4,cmpF),(18,.i mid),(24,.i e)],oput σ q (.arr 11 L2),nx⟩) (Imp.slots (by simp [go_sem]) (by rw [hleft0]) rfl) ?_
   exact key
  ·intro key
   refine K_run hB 14 ?_
   simp [go_sem,c2]
   refine K_impC (t:=⟨sl [(0,.ref q),(3,.i b),(4,cmpF),(18,.i mid),(24,.i e)],oput σ q (.arr 11 L2),nx⟩) (Imp.slots (by simp [go_sem]) (by rw [hleft0]) rfl) ?_
   exact key
 by_cases c1:mid<e
 ·by_cases c2:e<b
  ·have hright:=hright c1 c2
   refine K_run hB 60 ?_
   simp [go_sem,c1,c2]
   refine K_call rfl rfl rfl (args:=[.ref q,.i mid,.i e,.i b,cmpF]) (f:=152) (by simp [go_sem]) (by simp [go_sem,hB]) hright ?_
   refine K_run hB 100 ?_
   simp [go_sem]
   exact fun j h1 h2 h3=>absurd h3 h2
  ·have hright0:=hright0 fun h=>c2 h.2
   refine K_run hB 60 ?_
   simp [go_sem,c1,c2]
   rw [hright0]
   exact ⟨rfl,fun j h1 h2 h3=>absurd h3 h2⟩
 ·have hright0:=hright0 fun h=>c1 h.1
  refine K_run hB 60 ?_
  simp [go_sem,c1]
  rw [hright0]
  exact ⟨rfl,fun j h1 h2 h3=>absurd h3 h2⟩
end Go.Proofs.YtnoifgjiipgpoaaGreat

set_option maxRecDepth 4000
set_option maxHeartbeats 1000000
namespace Go.Proofs.YtnoifgjiipgpoaaGreat
open Go Go.Proofs.YtnoifgjiipgpoaaGreat.R
theorem allBlks_at {α:Type} {κ:α→Int} {bs t:Nat} {l:List α} (h1:bs*t≤l.length) (h2:l.length<bs*t+bs):allBlks κ bs l=blks κ bs t l++isort κ (l.drop (bs*t)):=by
 have:l.length / bs=t:=Nat.div_eq_of_lt_le (by rw [Nat.mul_comm];exact h1) (by rw [Nat.succ_mul,Nat.mul_comm];exact h2)
 rw [allBlks,this]
theorem stable_spec (l:List (List T)) (hK:∀e∈l,KR e) (hbig:l.length<2^31) {σ:Nat→AObj} {nx q:Nat} (hq:q<nx) (hσq:σ q= .arr 11 l):
  CallSpec P 141 [.ref q,.i l.length,cmpF] σ nx (.tup []) (oput σ q (.arr 11 (isort κr l))) nx:=by
 refine spec_down Tryz.func141 rfl rfl (by simp [Tryz.f141]) hq (by simp [bndO]) (by simp [bnd,bnd.bndL]) fun hk B hB hnx hσ=>?_
 simp only [Tryz.f141] at hB ⊢
 obtain ⟨n,hn⟩:∃n,n=l.length:=⟨_,rfl⟩
 rw [←hn] at hbig ⊢
 have hL:∀e∈l,e.length=11:=fun e he=>(hK e he).len
 have hKi:∀(m:List (List T)),(∀e∈m,e∈l)→∀e∈isort κr m,KR e:=fun m hm e he=>hK e (hm e (isort_mem.1 he))
 have hKb:∀(bs t:Nat) (m:List (List T)),(∀e∈m,e∈l)→∀e∈blks κr bs t m,KR e:=fun bs t=>by
  induction t with
  |zero=>intro m _ e he;cases he
  |succ t ih=>
   intro m hm e he
   rcases List.mem_append.1 he with he | he
   ·exact hKi _ (fun x hx=>hm x (List.mem_of_mem_take hx)) e he
   ·exact ih _ (fun x hx=>hm x (List.mem_of_mem_drop hx)) e he
 have hKa:∀(bs:Nat) (m:List (List T)),(∀e∈m,e∈l)→∀e∈allBlks κr bs m,KR e:=fun bs m hm e he=>by
  rcases List.mem_append.1 he with he | he
  ·exact hKb _ _ m hm e he
  ·exact hKi _ (fun x hx=>hm x (List.mem_of_mem_drop hx)) e he
 have hσ0:oput σ q (.arr 11 (blks κr 20 0 l++l.drop (20*0)))=σ:=by
  rw [show blks κr 20 0 l++l.drop (20*0)=l by simp [blks],←hσq]
  exact oput_self rfl
 refine K_run hB 100 ?_
 simp [go_sem]
 refine K_loopP (α:=Nat) (fun t=>20*t≤n) (fun t=>⟨sl [(0,.ref q),(1,.i n),(2,cmpF),(6,.i 20),(7,.i (20*t:Nat)),(8,.i (20*t+20:Nat))],oput σ q (.arr 11 (blks κr 20 t l++l.drop (20*t))),nx⟩) (fun t=>n-t) 0 (Nat.zero_le _) (Imp.slots (by simp [go_sem]) hσ0 rfl) ?_
 intro t ht
 have hbl:(blks κr 20 t l).length=20*t:=blks_len 20 t l (by omega)
 by_cases c1:20*t+20≤n
 ·have c1':20*(t:Int)+20≤n:=by omega
  have hml:((l.drop (20*t)).take 20).length=20:=by rw [List.length_take,List.length_drop];omega
  have hd:l.drop (20*t)=(l.drop (20*t)).take 20++l.drop (20*t+20):=by
   rw [←List.drop_drop,List.take_append_drop]
  have hsp:=insert_spec (blks κr 20 t l) ((l.drop (20*t)).take 20) (l.drop (20*t+20)) (fun e he=>hK e (List.mem_of_mem_drop (List.mem_of_mem_take he))) (fun e he=>by
   rcases List.mem_append.1 he with he | he
   ·exact (hKb 20 t l (fun _ h=>h) e he).len
   ·rw [←hd] at he
    exact hL e (List.mem_of_mem_drop he)) (by rw [←hd,List.length_append,hbl,List.length_drop];omega) (σ:=oput σ q (.arr 11 (blks κr 20 t l++l.drop (20*t)))) (nx:=nx) (q:=q) hq (by simp only [oput,if_true];rw [←hd])
  rw [hml,hbl,oput_twice,←List.append_assoc,←blks_snoc] at hsp
  have w1:IntKind.i64.wrap (20*(t:Int)+20+20)=20*(t+1:Nat)+20:=by rw [w64 _ (by omega)];omega
  refine K_run hB 60 ?_
  simp [go_sem,c1']
  refine K_call rfl rfl rfl (args:=[.ref q,.i (20*t:Nat),.i (20*t+20:Nat),cmpF]) (f:=151) (by simp [go_sem]) (by simp [go_sem,hB]) hsp ?_
  refine K_run hB 100 ?_
  simp [go_sem,w1]
  exact Next.mk (t+1) (by omega) (Imp.slots (by simp [go_sem];omega) rfl rfl) (by omega)
 have c1':¬20*(t:Int)+20≤n:=by omega
 have hsp:=insert_spec (blks κr 20 t l) (l.drop (20*t)) [] (fun e he=>hK e (List.mem_of_mem_drop he)) (fun e he=>by
  rw [List.append_nil] at he
  rcases List.mem_append.1 he with he | he
  ·exact (hKb 20 t l (fun _ h=>h) e he).len
  ·exact hL e (List.mem_of_mem_drop he)) (by rw [List.append_nil,List.length_append,hbl,List.length_drop];omega) (σ:=oput σ q (.arr 11 (blks κr 20 t l++l.drop (20*t)))) (nx:=nx) (q:=q) hq (by simp [oput])
 have hnn:20*t+(l.drop (20*t)).length=n:=by rw [List.length_drop];omega
 rw [hbl,hnn,oput_twice,List.append_nil,←allBlks_at (by omega) (by omega)] at hsp
 refine K_run hB 60 ?_
 simp [go_sem,c1']
 refine K_call rfl rfl rfl (args:=[.ref q,.i (20*t:Nat),.i n,cmpF]) (f:=151) (by simp [go_sem]) (by simp [go_sem,hB]) hsp ?_
 clear hsp hnn hbl c1 c1' ht
 refine K_run hB 100 ?_
 simp [go_sem]
 refine K_loopP (α:=Nat) (fun bs=>20≤bs∧bs<2^32) (fun bs=>⟨sl [(0,.ref q),(1,.i n),(2,cmpF),(6,.i bs)],oput σ q (.arr 11 (allBlks κr bs l)),nx⟩) (fun bs=>n-bs) 20 ⟨by omega,by omega⟩ (Imp.slots (by simp [go_sem]) rfl rfl) ?_
 rintro bs ⟨g1,g2⟩
 by_cases c2:bs<n
 rotate_left
 ·have e:allBlks κr bs l=isort κr l:=allBlks_le (by omega) (by omega)
  refine K_run hB 60 ?_
  simp [go_sem,c2]
  rw [e]
  exact ⟨rfl,fun j h1 h2 h3=>absurd h3 h2⟩
 obtain ⟨b2,hb2⟩:∃b2,b2=2*bs:=⟨_,rfl⟩
 have w1:IntKind.i64.wrap (2*(bs:Int))=b2:=by rw [w64 _ (by omega)];omega
 have w1':IntKind.i64.wrap ((bs:Int)*2)=b2:=by rw [w64 _ (by omega)];omega
 refine K_run hB 60 ?_
 simp [go_sem,c2,w1]
 refine K_loopP (α:=Nat×Nat) (fun (s,a)=>a=b2*s∧a≤n) (fun (s,a)=>⟨sl [(0,.ref q),(1,.i n),(2,cmpF),(6,.i bs),(7,.i a),(8,.i (a+b2:Nat))],oput σ q (.arr 11 (blks κr b2 s l++allBlks κr bs (l.drop a))),nx⟩) (fun (s,a)=>n-a) (0,0) ⟨by simp,Nat.zero_le _⟩ (Imp.slots (by simp [go_sem]) (by simp [blks]) rfl) ?_
 rintro ⟨s,a⟩ ⟨ha,han⟩
 have hbl:(blks κr b2 s l).length=a:=by rw [blks_len b2 s l (by omega),ha]
 have hpart:∀e∈blks κr b2 s l,KR e:=hKb b2 s l fun _ h=>h
 have hdl:(l.drop a).length=n-a:=by rw [List.length_drop];omega
 have w2:IntKind.i64.wrap ((a:Int)+bs)=((a+bs:Nat):Int):=by rw [w64 _ (by omega)];omega
 by_cases c3:a+b2≤n
 ·have c3':(a:Int)+b2≤n:=by omega
  have e1:allBlks κr bs (l.drop a)=isort κr ((l.drop a).take bs)++(isort κr (((l.drop a).drop bs).take bs)++allBlks κr bs (l.drop (a+b2))):=by
   rw [allBlks_cons (by omega) (by omega),allBlks_cons (by omega) (by rw [List.length_drop];omega)]
   simp only [List.drop_drop]
   rw [show a+bs+bs=a+b2 by omega]
  have lu:(isort κr ((l.drop a).take bs)).length=bs:=by rw [isort_len,List.length_take];omega
  have lv:(isort κr (((l.drop a).drop bs).take bs)).length=bs:=by rw [isort_len,List.length_take,List.length_drop];omega
  have e2:isort κr (isort κr ((l.drop a).take bs)++isort κr (((l.drop a).drop bs).take bs))=isort κr ((l.drop a).take b2):=by
   rw [isort_app]
   congr 1
   rw [show b2=bs+bs by omega,List.take_add]
  have hsp:=symMerge_spec (bs+bs) (blks κr b2 s l) (isort κr ((l.drop a).take bs)) (isort κr (((l.drop a).drop bs).take bs)) (allBlks κr bs (l.drop (a+b2))) a (a+bs) (a+b2) (by omega)
   ⟨hbl.symm,by omega,by omega,by omega,by omega,(isort_sort _).srt,(isort_sort _).srt,fun e he=>by
    rcases List.mem_append.1 he with he | he
    ·exact hKi _ (fun x hx=>List.mem_of_mem_drop (List.mem_of_mem_take hx)) e he
    ·exact hKi _ (fun x hx=>List.mem_of_mem_drop (List.mem_of_mem_drop (List.mem_of_mem_take hx))) e he,fun e he=>by
    rw [←e1] at he
    rcases List.mem_append.1 he with he | he
    ·exact (hpart e he).len
    ·exact (hKa bs _ (fun x hx=>List.mem_of_mem_drop hx) e he).len,by rw [←e1,List.length_append,hbl,allBlks_len,hdl];omega⟩ (σ:=oput σ q (.arr 11 (blks κr b2 s l++allBlks κr bs (l.drop a)))) (nx:=nx) (q:=q) hq (by simp only [oput,if_true];rw [e1])
  rw [oput_twice,e2,←List.append_assoc] at hsp
  have e3:blks κr b2 s l++isort κr ((l.drop a).take b2)=blks κr b2 (s+1) l:=by rw [blks_snoc,ha]
  rw [e3] at hsp
  have w3:IntKind.i64.wrap ((a:Int)+b2+b2)=(a:Int)+b2+b2:=w64 _ (by omega)
  refine K_run hB 60 ?_
  simp [go_sem,c3',w2]
  refine K_call rfl rfl rfl (args:=[.ref q,.i a,.i (a+bs:Nat),.i (a+b2:Nat),cmpF]) (f:=152) (by simp [go_sem]) (by simp [go_sem,hB]) hsp ?_
  refine K_run hB 100 ?_
  simp [go_sem,w1,w3]
  exact Next.mk (s+1,a+b2) ⟨by simp only [ha,Nat.mul_succ],by simp only;omega⟩ (Imp.slots (by simp [go_sem]) rfl rfl) (by simp only;omega)
 have c3':¬(a:Int)+b2≤n:=by omega
 have hfin:allBlks κr b2 l=blks κr b2 s l++isort κr (l.drop a):=by rw [allBlks_at (t:=s) (by omega) (by omega),ha]
 by_cases c4:a+bs<n
 ·have c4':(a:Int)+bs<n:=by omega
  have e1:allBlks κr bs (l.drop a)=isort κr ((l.drop a).take bs)++(isort κr ((l.drop a).drop bs)++[]):=by
   rw [allBlks_cons (by omega) (by omega),allBlks_small (by rw [List.length_drop];omega),List.append_nil]
  have lu:(isort κr ((l.drop a).take bs)).length=bs:=by rw [isort_len,List.length_take];omega
  have lv:(isort κr ((l.drop a).drop bs)).length=n-a-bs:=by rw [isort_len,List.length_drop];omega
  have e2:isort κr (isort κr ((l.drop a).take bs)++isort κr ((l.drop a).drop bs))=isort κr (l.drop a):=by rw [isort_app,List.take_append_drop]
  have hsp:=symMerge_spec (bs+(n-a-bs)) (blks κr b2 s l) (isort κr ((l.drop a).take bs)) (isort κr ((l.drop a).drop bs)) [] a (a+bs) n (by omega)
   ⟨hbl.symm,by omega,by omega,by omega,by omega,(isort_sort _).srt,(isort_sort _).srt,fun e he=>by
    rcases List.mem_append.1 he with he | he
    ·exact hKi _ (fun x hx=>List.mem_of_mem_drop (List.mem_of_mem_take hx)) e he
    ·exact hKi _ (fun x hx=>List.mem_of_mem_drop (List.mem_of_mem_drop hx)) e he,fun e he=>by
    rw [←e1] at he
    rcases List.mem_append.1 he with he | he
    ·exact (hpart e he).len
    ·exact (hKa bs _ (fun x hx=>List.mem_of_mem_drop hx) e he).len,by rw [←e1,List.length_append,hbl,allBlks_len,hdl];omega⟩ (σ:=oput σ q (.arr 11 (blks κr b2 s l++allBlks κr bs (l.drop a)))) (nx:=nx) (q:=q) hq (by simp only [oput,if_true];rw [e1])
  rw [oput_twice,e2,List.append_nil,←hfin] at hsp
  refine K_run hB 60 ?_
  simp [go_sem,c3',w2,c4']
  refine K_call rfl rfl rfl (args:=[.ref q,.i a,.i (a+bs:Nat),.i n,cmpF]) (f:=152) (by simp [go_sem]) (by simp [go_sem,hB]) hsp ?_
  refine K_run hB 100 ?_
  simp [go_sem,w1']
  exact Next.mk b2 ⟨by omega,by omega⟩ (Imp.slots (by simp [go_sem]) rfl rfl) (by omega)
 ·have c4':¬(a:Int)+bs<n:=by omega
  have e1:blks κr b2 s l++allBlks κr bs (l.drop a)=allBlks κr b2 l:=by rw [hfin,allBlks_le (bs:=bs) (by omega) (by omega)]
  refine K_run hB 60 ?_
  simp [go_sem,c3',w2,c4',w1']
  exact Next.mk b2 ⟨by omega,by omega⟩ (Imp.slots (by simp [go_sem]) (by rw [e1]) rfl) (by omega)
theorem sortStable_spec (l:List (List T)) (hK:∀e∈l,KR e) (hbig:l.length<2^31) {σ:Nat→AObj} {nx q:Nat} (hq:q<nx) (hσq:σ q= .arr 11 l):
  CallSpec P 123 [.ref q,cmpF] σ nx (.tup []) (oput σ q (.arr 11 (isort κr l))) nx:=by
 have hs:=stable_spec l hK hbig hq hσq
 refine CallQ.spec (spec_of Tryz.func123 rfl rfl (by simp [Tryz.f123]) fun B hB hnx hσ=>?_)
 simp only [Tryz.f123] at hB ⊢
 refine K_run hB 100 ?_
 simp [go_sem,hσq]
 refine K_call rfl rfl rfl (args:=[.ref q,.i l.length,cmpF]) (f:=141) (by simp [go_sem]) (by simp [go_sem,hB]) hs ?_
 refine K_run hB 100 ?_
 simp [go_sem]
end Go.Proofs.YtnoifgjiipgpoaaGreat

set_option maxRecDepth 4000
namespace Go.Proofs.YtnoifgjiipgpoaaGreat
open Go Go.Proofs.YtnoifgjiipgpoaaGreat.R
def Inst.row (x:Inst) (a:Stop):List Int:=x.stops.map (far a)
def Inst.mat (x:Inst):List (List Int):=if x.may then x.stops.map x.row else []
abbrev Inst.cs (x:Inst):List AV:=[.t (.i x.pairs),.t (.i x.cars),.t (.i x.room),.t (.sl (x.stops.map Stop.t))]
theorem ints_snoc (l:List Int) (n:Int):ints l++[[.i n]]=ints (l++[n]):=by simp [ints]
def Inst.rows (x:Inst):List (List T):=x.stops.map fun a=>rowT (x.row a)
theorem Inst.rows_len (x:Inst):x.rows.length=x.stops.length:=List.length_map _
theorem Inst.row_len (x:Inst) (a:Stop):(x.row a).length=x.stops.length:=List.length_map _
theorem Inst.rows_snoc (x:Inst) {k:Nat} (h:k<x.stops.length):x.rows.take (k+1)=x.rows.take k++[rowT (x.row x.stops[k])]:=by
 rw [List.take_succ_eq_append_getElem (by rw [x.rows_len];exact h)]
 simp [Inst.rows]
theorem Inst.row_snoc (x:Inst) (a:Stop) {i:Nat} (h:i<x.stops.length):(x.row a).take (i+1)=(x.row a).take i++[far a x.stops[i]]:=by
 rw [List.take_succ_eq_append_getElem (by rw [x.row_len];exact h)]
 simp [Inst.row]
theorem Inst.mat_rows (x:Inst):x.mat.map rowT=if x.may then x.rows else []:=by
 unfold Inst.mat
 split
 ·simp [Inst.rows]
 ·rfl
theorem matrix_pure (x:Inst) (hl:x.stops.length<2^31):Pure P 119 [x.a] (.t (.sl (x.mat.map rowT))):=by
 rw [x.mat_rows]
 refine pure_of Tryz.func119 rfl rfl (by simp [Tryz.f119]) (by simp [bnd,bnd.bndL,Inst.a]) (by split<;>simp [bnd]) fun B hB hnx=>?_
 simp only [Tryz.f119] at hB ⊢
 have hm:mostLen=4294967296:=rfl
 refine K_run hB 60 ?_
 simp [go_sem,Inst.a]
 refine K_call rfl rfl rfl (args:=[x.a]) (f:=13) (by simp [go_sem,Inst.a]) (by simp [go_sem,hB]) ((may_pure x (by omega)).spec _ _) ?_
 by_cases h0:x.may=true
 rotate_left
 ·have h0':x.may=false:=by simpa using h0
  rw [h0']
  refine K_run hB 60 ?_
  simp [go_sem,h0']
 rw [h0]
 refine K_run hB 60 ?_
 simp [go_sem]
 refine K_own 3 1 (by simp [go_sem]) ?_
 refine K_loopP (α:=Nat×Nat×(Nat→AObj)×Nat) (fun (k,j,σ,nx)=>k≤x.stops.length∧σ 0= .box x.cs∧σ j= .arr 1 (x.rows.take k)∧0<j∧j<nx)
  (fun (k,j,σ,nx)=>⟨sl [(1,.ptr 0 0),(3,.ref j),(13,.t (.sl (x.stops.map Stop.t))),(14,.i x.stops.length),(15,.i k)],σ,nx⟩) (fun y=>x.stops.length-y.1) (0,1,_,2)
  ?_ (Imp.slots (by simp [go_sem]) rfl rfl) ?_
 ·exact ⟨Nat.zero_le _,by simp [oput],by simp [oput],by omega,by omega⟩
 rintro ⟨k,j,σ,nx⟩ ⟨g1,c0,cj,gj,gn⟩
 refine K_run hB 60 ?_
 simp [go_sem]
 refine fork_dec (fun h=>?_) (fun h=>?_)
 rotate_left
 ·have:k=x.stops.length:=by omega
  subst this
  rw [←x.rows_len,List.take_length] at cj
  simp [go_sem,cj,h0]
 have htk:=x.rows_snoc h
 have hrl:=x.rows_len
 have hkk:IntKind.i64.wrap ((k:Int)+1)=((k+1:Nat):Int):=by rw [w64 ((k:Int)+1) (by omega)];rfl
 generalize ha:x.stops[k]=a at *
 have hn0:¬0=nx:=by omega
 simp [go_sem,h,ha,Stop.t,c0,hn0]
 refine K_own 6 1 (by simp [go_sem]) ?_
 refine K_loopP (α:=Nat×Nat×(Nat→AObj)×Nat) (fun (i,q,σ',nx')=>i≤x.stops.length∧σ' 0= .box x.cs∧σ' j= .arr 1 (x.rows.take k)∧σ' nx= .box (a.t.map .t)∧σ' q= .arr 1 (ints ((x.row a).take i))∧nx<q∧q<nx')
  (fun (i,q,σ',nx')=>⟨sl [(1,.ptr 0 0),(3,.ref j),(13,.t (.sl (x.stops.map Stop.t))),(14,.i x.stops.length),(15,.i k),(5,.ptr nx 0),(6,.ref q),(20,.t (.sl (x.stops.map Stop.t))),(21,.i x.stops.length),(22,.i i)],σ',nx'⟩) (fun y=>x.stops.length-y.1) (0,nx+1,_,nx+2)
  ?_ (Imp.slots (by simp [go_sem]) rfl rfl) ?_
 ·exact ⟨Nat.zero_le _,by simp [oput,c0,hn0],by simp [oput,cj,show j≠nx by omega,show j≠nx+1 by omega],by simp [oput,Stop.t],by simp [oput,ints],by omega,by omega⟩
 rintro ⟨i,q,σ',nx'⟩ ⟨i1,d0,dj,da,dq,i2,i3⟩
 refine K_run hB 60 ?_
 simp [go_sem]
 refine fork_dec (fun hi=>?_) (fun hi=>?_)
 ·have hti:=x.row_snoc a hi
  have hrl2:=x.row_len a
  have hii:IntKind.i64.wrap ((i:Int)+1)=((i+1:Nat):Int):=by rw [w64 ((i:Int)+1) (by omega)];rfl
  have hlen:(ints ((x.row a).take i)).length=i:=by simp only [ints,List.length_map,List.length_take];omega
  generalize hb:x.stops[i]=b at *
  generalize (x.row a).take i=L at dq hlen hti
  simp [go_sem,hi,hb,Stop.t,da,show ¬nx=nx' by omega]
  refine K_call rfl rfl rfl (args:=[.agg (a.t.map .t),.agg (b.t.map .t)]) (f:=117) (by simp [go_sem,Stop.t]) (by simp [go_sem,hB]) ((far_pure a b).spec _ _) ?_
  have hcap:i+1≤mostLen:=by omega
  refine K_run hB 60 ?_
  simp [go_sem,dq,show ¬q=nx' by omega,hlen,hcap,hii]
  refine Next.mk (i+1,nx'+1,_,nx'+2) ?_ (Imp.slots (by simp [go_sem]) rfl rfl) (by simp only;omega)
  refine ⟨by simp only;omega,?_,?_,?_,?_,by simp only;omega,by simp only;omega⟩
  ·simp [oput,d0,show ¬0=nx' by omega,show ¬0=q by omega]
  ·simp [oput,dj,show ¬j=nx' by omega,show ¬j=q by omega,show ¬j=nx'+1 by omega]
  ·simp [oput,da,show ¬nx=nx' by omega,show ¬nx=q by omega,show ¬nx=nx'+1 by omega,Stop.t]
  ·simp [oput,hti,ints_snoc]
 ·have:i=x.stops.length:=by omega
  subst this
  rw [←x.row_len a,List.take_length] at dq
  simp [go_sem]
  refine K_imp (Imp.freeze (q:=q) (sz:=1) (es:=ints (x.row a)) (by simp [go_sem,dq])) ?_
  have hj0:¬j=q:=by omega
  have hlen:(x.rows.take k).length=k:=by rw [List.length_take];omega
  generalize x.rows.take k=R at dj hlen htk
  have hcap:k+1≤mostLen:=by omega
  refine K_run hB 60 ?_
  simp [go_sem,frz1,frzO,hj0,dj,hkk,hlen,hcap]
  refine Next.mk (k+1,nx',_,nx'+1) ?_ (Imp.slots (by simp [go_sem,frz1]) rfl rfl) (by simp only;omega)
  refine ⟨by simp only;omega,?_,?_,by simp only;omega,by simp only;omega⟩
  ·simp [oput,d0,frzO,frz1.frzL,frz1,show ¬0=nx' by omega,show ¬0=j by omega,show ¬0=q by omega]
  ·simp [oput,htk,rowT]
end Go.Proofs.YtnoifgjiipgpoaaGreat

set_option maxRecDepth 4000
namespace Go.Proofs.YtnoifgjiipgpoaaGreat
open Go Go.Proofs.YtnoifgjiipgpoaaGreat.R
theorem rmatrix_pure (x:Inst) (hl:x.stops.length<2^31):Pure P 133 [x.a] (.t (.sl (x.mat.map rowT))):=by
 rw [x.mat_rows]
 refine pure_of Tryz.func133 rfl rfl (by simp [Tryz.f133]) (by simp [bnd,bnd.bndL,Inst.a]) (by split<;>simp [bnd]) fun B hB hnx=>?_
 simp only [Tryz.f133] at hB ⊢
 have hm:mostLen=4294967296:=rfl
 refine K_run hB 60 ?_
 simp [go_sem,Inst.a]
 refine K_call rfl rfl rfl (args:=[x.a]) (f:=54) (by simp [go_sem,Inst.a]) (by simp [go_sem,hB]) ((rmay_pure x (by omega)).spec _ _) ?_
 by_cases h0:x.may=true
 rotate_left
 ·have h0':x.may=false:=by simpa using h0
  rw [h0']
  refine K_run hB 60 ?_
  simp [go_sem,h0']
 rw [h0]
 refine K_run hB 60 ?_
 simp [go_sem]
 refine K_own 4 1 (by simp [go_sem]) ?_
 refine K_loopP (α:=Nat×Nat×(Nat→AObj)×Nat) (fun (k,j,σ,nx)=>k≤x.stops.length∧σ 0= .box x.cs∧σ j= .arr 1 (x.rows.take k)∧0<j∧j<nx)
  (fun (k,j,σ,nx)=>⟨sl [(1,.ptr 0 0),(4,.ref j),(5,.i k)],σ,nx⟩) (fun y=>x.stops.length-y.1) (0,1,_,2)
  ?_ (Imp.slots (by simp [go_sem]) rfl rfl) ?_
 ·exact ⟨Nat.zero_le _,by simp [oput],by simp [oput],by omega,by omega⟩
 rintro ⟨k,j,σ,nx⟩ ⟨g1,c0,cj,gj,gn⟩
 refine K_run hB 60 ?_
 simp [go_sem,c0]
 refine fork_dec (fun h=>?_) (fun h=>?_)
 rotate_left
 ·have:k=x.stops.length:=by omega
  subst this
  rw [←x.rows_len,List.take_length] at cj
  simp [go_sem,cj,h0]
 have htk:=x.rows_snoc h
 have hrl:=x.rows_len
 have hkk:IntKind.i64.wrap ((k:Int)+1)=((k+1:Nat):Int):=by rw [w64 ((k:Int)+1) (by omega)];rfl
 generalize ha:x.stops[k]=a at *
 simp [go_sem]
 refine K_own 6 1 (by simp [go_sem]) ?_
 refine K_loopP (α:=Nat×Nat×(Nat→AObj)×Nat) (fun (i,q,σ',nx')=>i≤x.stops.length∧σ' 0= .box x.cs∧σ' j= .arr 1 (x.rows.take k)∧σ' q= .arr 1 (ints ((x.row a).take i))∧nx≤q∧q<nx')
  (fun (i,q,σ',nx')=>⟨sl [(1,.ptr 0 0),(4,.ref j),(5,.i k),(6,.ref q),(7,.i i)],σ',nx'⟩) (fun y=>x.stops.length-y.1) (0,nx,_,nx+1)
  ?_ (Imp.slots (by simp [go_sem]) rfl rfl) ?_
 ·exact ⟨Nat.zero_le _,by simp [oput,c0,show ¬0=nx by omega],by simp [oput,cj,show j≠nx by omega],by simp [oput,ints],by omega,by omega⟩
 rintro ⟨i,q,σ',nx'⟩ ⟨i1,d0,dj,dq,i2,i3⟩
 refine K_run hB 60 ?_
 simp [go_sem,d0]
 refine fork_dec (fun hi=>?_) (fun hi=>?_)
 ·have hti:=x.row_snoc a hi
  have hrl2:=x.row_len a
  have hii:IntKind.i64.wrap ((i:Int)+1)=((i+1:Nat):Int):=by rw [w64 ((i:Int)+1) (by omega)];rfl
  have hlen:(ints ((x.row a).take i)).length=i:=by simp only [ints,List.length_map,List.length_take];omega
  generalize hb:x.stops[i]=b at *
  generalize (x.row a).take i=L at dq hlen hti
  have hcap:i+1≤mostLen:=by omega
  simp [go_sem]
  refine K_drawnT [13] rfl (by rw [hB];kernel_rfl) (by kernel_rfl) fun ht=>?_
  refine K_run hB 60 ?_
  simp [go_sem,ht,d0,h,hi,ha,hb,Stop.t]
  refine K_dCallP rfl rfl rfl (args:=[.agg (a.t.map .t),.agg (b.t.map .t)]) (f:=146) (by simp [go_sem,Stop.t]) (rfar_pure a b) ?_
  refine K_run hB 60 ?_
  simp [go_sem,ht,dq,hlen,hcap,hii]
  refine Next.mk (i+1,nx',_,nx'+1) ?_ (Imp.slots (by simp [go_sem]) rfl rfl) (by simp only;omega)
  refine ⟨by simp only;omega,?_,?_,?_,by simp only;omega,by simp only;omega⟩
  ·simp [oput,d0,show ¬0=nx' by omega,show ¬0=q by omega]
  ·simp [oput,dj,show ¬j=nx' by omega,show ¬j=q by omega]
  ·simp [oput,hti,ints_snoc]
 ·have:i=x.stops.length:=by omega
  subst this
  rw [←x.row_len a,List.take_length] at dq
  simp [go_sem]
  refine K_imp (Imp.freeze (q:=q) (sz:=1) (es:=ints (x.row a)) (by simp [go_sem,dq])) ?_
  have hj0:¬j=q:=by omega
  have hlen:(x.rows.take k).length=k:=by rw [List.length_take];omega
  generalize x.rows.take k=R at dj hlen htk
  have hcap:k+1≤mostLen:=by omega
  refine K_run hB 60 ?_
  simp [go_sem,frz1,frzO,hj0,dj,hkk,hlen,hcap]
  refine Next.mk (k+1,nx',_,nx'+1) ?_ (Imp.slots (by simp [go_sem,frz1]) rfl rfl) (by simp only;omega)
  refine ⟨by simp only;omega,?_,?_,by simp only;omega,by simp only;omega⟩
  ·simp [oput,d0,frzO,frz1.frzL,frz1,show ¬0=nx' by omega,show ¬0=j by omega,show ¬0=q by omega]
  ·simp [oput,htk,rowT]
end Go.Proofs.YtnoifgjiipgpoaaGreat
