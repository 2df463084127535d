/- Parts of the proof. -/
import Derived.Test.YtnoifgjiipgpoaaGreatDoorMD
set_option linter.all false
set_option maxHeartbeats 4000000
namespace Go.Proofs.YtnoifgjiipgpoaaGreatDoor
open Go Go.Proofs.YtnoifgjiipgpoaaGreatDoor.R
set_option maxRecDepth 4000
def iE (f:Nat→Bool):Nat→List Int
 |0=>[]
 |k+1=>iE f k++(if f k=true then [(k:Int)] else [])
theorem sD (f:Nat→Bool):∀k,(iE f k).length≤k
 |0=>Nat.le_refl _
 |k+1=>by have:=sD f k;rw [iE,List.length_append];split<;>simp only [List.length_cons,List.length_nil]<;>omega
def aA.moves (x:aA) (s:aF):List Int:=if x.may=true∧s.mayB x=true then iE (fun k=>(x.step s k).2.2) x.stops.length else []
theorem aLM (x:aA) (s:aF) (hl:x.stops.length<2^63) (ho:s.ok):Pure P 204 [x.a,s.a] (.t (.sl (aJ (x.moves s)))):=by
 generalize hR:x.moves s=R;refine aW Tryz.func204 rfl rfl (by simp [Tryz.f204]) (by simp [aE,aE.bndL,aA.a,aF.a,aF.cs]) (by simp [aE]) fun B hB hnx=>?_
 simp only [Tryz.f204] at hB ⊢;rw [aA.moves] at hR;refine aD ?_;simp [go_sem,aA.a,aF.a,aF.cs];refine aL rfl rfl rfl (args:=[x.a]) (f:=44) (by simp [go_sem,aA.a]) (by simp [go_sem,hB]) ((lP x hl).spec _ _) ?_;cases hm:x.may with
 |false=>rw [if_neg (by simp [hm])] at hR;subst hR;refine aD ?_;simp [go_sem,aJ]
 |true=>
  obtain ⟨p,hx⟩:=x.fit hm;refine aD ?_;simp [go_sem];refine aL rfl rfl rfl (args:=[.agg (bJ x s)]) (f:=201) (by simp [go_sem,bJ]) (by simp [go_sem,hB]) ((aCL x s hm).spec _ _) ?_;cases hs:s.mayB x with
  |false=>rw [if_neg (by simp [hs])] at hR;subst hR;refine aD ?_;simp [go_sem,aJ]
  |true=>
   rw [if_pos ⟨hm,hs⟩] at hR;have hst:=fun j=>aOR x s j hx (s.fit hx hs) ho
   have hlen:=hx.len;have hfew:=hx.few;have hmost:bH=4294967296:=rfl;refine aD ?_;simp [go_sem];refine jC 6 1 (by simp [go_sem]) ?_
   refine bA (α:=Nat×Nat×(Nat→aG)×Nat) (fun (k,j,σ,nx)=>k≤x.stops.length∧σ 2= .box (bJ x s)∧σ j= .arr 1 (aJ (iE (fun k=>(x.step s k).2.2) k))∧2<j∧j<nx)
    (fun (k,j,σ,nx)=>⟨sl [(5,.ptr 2 0),(6,.ref j),(24,.i x.stops.length),(25,.i k)],σ,nx⟩) (fun a=>x.stops.length-a.1) (0,3,_,4) ?_ (aH.slots (by simp [go_sem]) rfl rfl) ?_
   ·exact ⟨Nat.zero_le _,by simp [aB,bJ],by simp [aB,iE,aJ],by omega,by omega⟩
   rintro ⟨k,j,σ,nx⟩ ⟨g1,g2,g3,g5,g6⟩;refine aI ?_;simp [go_sem];refine bU (fun hk=>?_) (fun hk=>?_)
   ·have hkk:IntKind.i64.wrap ((k:Int)+1)=((k+1:Nat):Int):=by rw [aO ((k:Int)+1) (by omega)];rfl
    have hn:iE (fun k=>(x.step s k).2.2) (k+1)=iE (fun k=>(x.step s k).2.2) k++(if (x.step s k).2.2=true then [(k:Int)] else []):=rfl;have hcl:=sD (fun k=>(x.step s k).2.2) k;have h1:=hst k;generalize iE (fun k=>(x.step s k).2.2) k=L at g3 hn hcl;generalize x.step s k=V at hn h1;obtain ⟨t,c,is⟩:=V;simp only at hn;simp [go_sem,g2,bJ];refine aL rfl rfl rfl (args:=[.agg (bJ x s),.i k]) (f:=238) (by simp [go_sem,bJ]) (by simp [go_sem,hB]) (h1.spec _ _) ?_;cases is with
    |false=>
     refine aI ?_;simp [go_sem,mv,aF.a,aF.cs,hkk];refine Next.mk (k+1,j,_,nx+1) ?_ (aH.slots (by simp [go_sem]) rfl rfl) (by simp only;omega);refine ⟨by simp only;omega,?_,?_,by simp only;omega,by simp only;omega⟩
     ·simp [aB,show ¬2=nx by omega,g2,bJ]
     ·simp only [hn];simp [aB,show ¬j=nx by omega,g3]
    |true=>
     have hlen':(aJ L).length=L.length:=List.length_map _;have hcap:L.length+1≤bH:=by omega
     refine aI ?_;simp [go_sem,mv,aF.a,aF.cs,hkk,g3,hlen',hcap,show ¬j=nx by omega];refine Next.mk (k+1,nx+1,_,nx+2) ?_ (aH.slots (by simp [go_sem]) rfl rfl) (by simp only;omega);refine ⟨by simp only;omega,?_,?_,by simp only;omega,by simp only;omega⟩
     ·simp [aB,show ¬2=nx by omega,show ¬2=nx+1 by omega,show ¬2=j by omega,g2,bJ]
     ·simp only [hn];simp [aB,aJ]
   ·have:k=x.stops.length:=by omega
    subst this;rw [hR] at g3;simp [go_sem,g3]
def aA.endS (x:aA) (s:aF):Int×Bool:=
 if x.may=false then (0,false)
 else if x.pairs=0∧s=x.rootS then (0,true)
 else if s.mayB x=true∧s.spot≠0∧s.on=0∧x.allB s.can=true∧s.time+bL (x.stop s.spot) (x.stop 0)≤(x.stop 0).due then (bL (x.stop s.spot) (x.stop 0),true) else (0,false)
theorem aH7 (x:aA) (s:aF) (hl:x.stops.length<2^63) (ho:s.ok):Pure P 158 [x.a,s.a] (.tup [.i (x.endS s).1,.b (x.endS s).2]):=by
 generalize hR:x.endS s=R;refine aW Tryz.func158 rfl rfl (by simp [Tryz.f158]) (by simp [aE,aE.bndL,aA.a,aF.a,aF.cs]) (by simp [aE,aE.bndL]) fun B hB hnx=>?_
 simp only [Tryz.f158] at hB ⊢;rw [aA.endS] at hR;refine aD ?_;simp [go_sem,aA.a,aF.a,aF.cs];refine aL rfl rfl rfl (args:=[x.a]) (f:=44) (by simp [go_sem,aA.a]) (by simp [go_sem,hB]) ((lP x hl).spec _ _) ?_;cases hm:x.may with
 |false=>rw [if_pos hm] at hR;subst hR;refine aD ?_;simp [go_sem]
 |true=>
  obtain ⟨p,hx⟩:=x.fit hm;rw [if_neg (by simp [hm])] at hR;refine aD ?_;simp [go_sem];refine bK [] rfl (by rw [hB];kernel_rfl) ?_;have hp:=hx.pairs;have hr:=zP x hl;generalize x.rootS=r at *;by_cases c0:x.pairs=0∧s=r
  ·rw [if_pos c0] at hR;obtain ⟨c1,c2⟩:=c0;subst hR;refine aD ?_;simp [go_sem,c1];refine bQ rfl rfl rfl (args:=[x.a]) (f:=47) (by simp [go_sem,aA.a,c1]) hr ?_;refine tX (op:=.eql) (t:=91) (t':=91) (x:=.tmp 18) (y:=.tmp 20) (xs:=s.cs) (ys:=r.cs) (by simp [go_sem,c1]) rfl (by simp [go_sem,aF.cs]) (by simp [go_sem,aF.a]) z7 (vW s r) rfl ?_;refine aD ?_;simp [go_sem,c1,c2]
  rw [if_neg c0] at hR;have g2:(0:Int)<x.stops.length:=hx.lt (j:=0) (by omega);have g3:0<x.stops.length:=by omega
  have g4:=hx.get0;have hfi:=aB8 (x.stop s.spot) (x.stop 0);by_cases c1:x.pairs=0
  all_goals
   first
   |have c2:¬s=r:=fun h=>c0 ⟨c1,h⟩
    refine aD ?_;simp [go_sem,c1];refine bQ rfl rfl rfl (args:=[x.a]) (f:=47) (by simp [go_sem,aA.a,c1]) hr ?_;refine tX (op:=.eql) (t:=91) (t':=91) (x:=.tmp 18) (y:=.tmp 20) (xs:=s.cs) (ys:=r.cs) (by simp [go_sem,c1]) rfl (by simp [go_sem,aF.cs]) (by simp [go_sem,aF.a]) z7 (vW s r) rfl ?_;refine aD ?_;simp [go_sem,c1,c2];refine bK [] rfl (by rw [hB];kernel_rfl) ?_;refine aD ?_;simp [go_sem]
   |refine aD ?_
    simp [go_sem,c1];refine bK [] rfl (by rw [hB];kernel_rfl) ?_;refine aD ?_;simp [go_sem]
  all_goals
   refine bQ rfl rfl rfl (args:=[.agg (bJ x s)]) (f:=201) (by simp [go_sem,bJ,c1]) (aCL x s hm) ?_;cases hs:s.mayB x with
   |false=>rw [if_neg (by simp [hs])] at hR;subst hR;refine aD ?_;simp [go_sem]
   |true=>
    have hs':=s.fit hx hs;have w1:=aO (s.time+bL (x.stop s.spot) (x.stop 0)) (by have:=hs'.time;omega);have hfar:=yF x s 0 hx hs'.spot.1 hs'.spot.2 (by omega) (by omega);generalize bL (x.stop s.spot) (x.stop 0)=d at *;generalize x.stop 0=a at *;by_cases c3:s.spot=0
    ·rw [if_neg (by simp [c3])] at hR;subst hR;refine aD ?_;simp [go_sem,c3]
    by_cases c4:s.on=0
    rotate_left
    ·rw [if_neg (by simp [c4])] at hR;subst hR;refine aD ?_;simp [go_sem,c3,c4]
    refine aD ?_;simp [go_sem,c3,c4];refine bQ rfl rfl rfl (args:=[.agg (bJ x s),.u s.can]) (f:=202) (by simp [go_sem,bJ,c1,c4]) (aJS x s s.can hx) ?_;cases c5:x.allB s.can with
    |false=>rw [if_neg (by simp [c5])] at hR;subst hR;refine aD ?_;simp [go_sem,c3]
    |true=>
     refine aD ?_;simp [go_sem,c3];refine bQ rfl rfl rfl (args:=[.agg (bJ x s),.i 0]) (f:=203) (by simp [go_sem,bJ,c1,c4]) hfar ?_;by_cases c6:a.due<s.time+d
     ·rw [if_neg (by simp [c6])] at hR;subst hR;refine aD ?_;simp [go_sem,c3,c6,w1,g2,g3,g4,aR.t]
     ·rw [if_pos ⟨hs,c3,c4,c5,by omega⟩] at hR;subst hR;refine aD ?_;simp [go_sem,c3,c6,w1,g2,g3,g4,aR.t];refine aL rfl rfl rfl (args:=[.agg (bJ x s),.i 0]) (f:=203) (by simp [go_sem,bJ,c1,c4]) (by simp [go_sem,hB]) (hfar.spec _ _) ?_;refine aD ?_;simp [go_sem]
theorem aF.zero_ok:aF.zero.ok:=⟨by decide,by decide,by decide⟩
theorem zO (x:aA):x.rootS.ok:=by
 unfold aA.rootS;split
 ·exact ⟨aF.zero_ok.must,aF.zero_ok.can,aF.zero_ok.on⟩
 ·exact aF.zero_ok
theorem bCP (x:aA) {s:aF} (j:Int) (h:s.ok):(x.seen s j).ok:=⟨wM h.must j,wM h.can j,h.on⟩
theorem bG8 (x:aA) {s:aF} (j:Int) (h:s.ok):(x.visit s j).1.ok:=by
 unfold aA.visit;split
 ·exact h
 ·exact bCP x j h
theorem bE2 (x:aA) {s:aF} (j:Int) (h:s.ok):(x.to s j).1.ok:=by
 unfold aA.to;split
 ·unfold aA.home;split
  ·exact h
  ·exact ⟨h.must,h.can,h.on⟩
 ·have hv:=bG8 x j h;split
  ·unfold aA.take;split
   ·exact h
   ·split
    ·exact ⟨hv.must,hv.can,wM h.on j⟩
    ·exact hv
  ·unfold aA.bring;split
   ·exact h
   ·split
    ·exact ⟨hv.must,hv.can,aPR _ _⟩
    ·exact hv
theorem nM (x:aA) {s:aF} (j:Int) (h:s.ok):(x.move s j).1.ok:=by
 unfold aA.move;split
 ·unfold aA.step;split
  ·exact h
  ·split
   ·exact bE2 x j h
   ·exact h
 ·exact h
theorem gH (l:List Int) {i:Nat} (h:i<l.length):(aJ l)[i]'(by rw [aJ,List.length_map];exact h)=[.i l[i]]:=by simp [aJ]
def aA.goes (x:aA):List Int→aF→Int→Option (aF×Int)
 |[],s,c=>some (s,c)
 |j :: l,s,c=>if (x.move s j).2.2=true then x.goes l (x.move s j).1 (IntKind.i64.wrap (c+(x.move s j).2.1)) else none
end Go.Proofs.YtnoifgjiipgpoaaGreatDoor
namespace Go.Proofs.YtnoifgjiipgpoaaGreatDoor
open Go Go.ChangeShapes Go.WideShapes Go.ChangeAt Go.RowKit Go.Proofs.YtnoifgjiipgpoaaGreatDoor.R
set_option maxRecDepth 100000
theorem aZS:ownKnob Tryz.prog.godebug=Option.none:=by kernel_rfl
section
variable {H:Type} {enc:TypeId×Value→H} {W:World} {base:Nat} {sp:Nat→Bool} {held:Bool} {v:Value} {d:DataW H} {ps:List MemPlace}
end
end Go.Proofs.YtnoifgjiipgpoaaGreatDoor
namespace Go.Proofs.YtnoifgjiipgpoaaGreatDoor
open Go Go.Proofs.YtnoifgjiipgpoaaGreatDoor.R
set_option maxRecDepth 4000
set_option maxHeartbeats 1000000
theorem aT6:∀n:Fin 10,(⟨#[48,49,50,51,52,53,54,55,56,57,97,98,99,100,101,102,103,104,105,106,107,108,109,110,111,112,113,114,115,116,117,118,119,120,121,122]⟩:ByteArray).extract n.1 (n.1+1)=⟨#[UInt8.ofNat (48+n.1)]⟩:=by decide+kernel
def uW (n:Nat):ByteArray:=⟨#[UInt8.ofNat (48+n)]⟩
theorem bC6 (n:Nat) (h:n<10):Pure P 242 [.i n] (.t (.v (.string (uW n)))):=by
 have hd:=aT6 ⟨n,h⟩;simp only at hd;rw [←uW] at hd;refine aW Tryz.func242 rfl rfl (by simp [Tryz.f242]) (by simp [aE,aE.bndL]) (by simp [aE,aE.bndL]) fun B hB hnx=>?_
 simp only [Tryz.f242] at hB ⊢;have h1:(n:Int)<10:=by omega
 have w1:IntKind.i64.wrap ((n:Int)+1)=((n+1:Nat):Int):=by rw [aO _ (by omega)];rfl
 refine aD ?_;simp [go_sem,h1,w1,show (n:Int)+1≤36 by omega,show (0:Int)≤n+1 by omega,show (n:Int)≤n+1 by omega,hd]
theorem aSP {n:Nat} (h:n<10):eB (uW n)=[[.v (.int .u8 ((48+n:Nat):Int))]]:=by simp [eB,uW];omega
theorem aBK (b:List Nat) (c:Nat):aS (b++[c])=aS b++[[.v (.int .u8 (c:Int))]]:=by simp [aS]
theorem aBJ (b:List Nat):∀y∈aS b,y.length=1:=by intro y hy;obtain ⟨_,_,rfl⟩:=List.mem_map.1 hy;rfl
theorem aR2 (n:Nat) (hn:n<10) (bs:List Nat) (hb:bs.length<2^31) {σ:Nat→aG} {nx q:Nat} (hq:q<nx) (hσ:σ q= .arr 1 (aS bs)):
  aT P 210 [.ref q,.u n,.i 10] σ nx (.ref nx) (aB (aB σ q .dead) nx (.arr 1 (aS (bs++[48+n])))) (nx+1):=by
 refine bN.spec (cA Tryz.func210 rfl rfl (by simp [Tryz.f210]) fun B hB hnx hσB=>?_);simp only [Tryz.f210] at hB ⊢;have hs:=bC6 n hn;have h1:(n:Int)<100:=by omega
 have w1:IntKind.i64.wrap (n:Int)=n:=aO _ (by omega);have hl:(aS bs).length=bs.length:=List.length_map _;have h2:=aBJ bs;have hcap:bs.length+1≤bH:=by show _≤4294967296;omega
 have hbd:=aSP hn;rw [aBK];generalize aS bs=rows at *;generalize uW n=S at *;generalize 48+n=d at *;refine aD ?_;simp [go_sem,h1,w1];refine aL rfl rfl rfl (args:=[.i n]) (f:=242) (by simp [go_sem]) (by simp [go_sem,hB]) ((hs).spec _ _) ?_;refine aD ?_;simp [go_sem,hσ,hbd,hl,h2,hcap]
theorem aV7 (n:Nat) (hn:n<10) (bs:List Nat) (hb:bs.length<2^31) {σ:Nat→aG} {nx q:Nat} (hq:q<nx) (hσ:σ q= .arr 1 (aS bs)):
  aT P 165 [.ref q,.i n,.i 10] σ nx (.ref nx) (aB (aB σ q .dead) nx (.arr 1 (aS (bs++[48+n])))) (nx+1):=by
 have hs:=aR2 n hn bs hb hq hσ;generalize 48+n=d at *;refine bN.spec (cA Tryz.func165 rfl rfl (by simp [Tryz.f165]) fun B hB hnx hσB=>?_);simp only [Tryz.f165] at hB ⊢;have h1:¬(n:Int)<0:=by omega
 have w1:IntKind.u64.wrap (n:Int)=n:=u64 _ (by omega);refine aD ?_;simp [go_sem,h1,w1];refine aL rfl rfl rfl (args:=[.ref q,.u n,.i 10]) (f:=210) (by simp [go_sem]) (by simp [go_sem,hB]) hs ?_;refine aD ?_;simp [go_sem]
theorem aGM (n:Nat) (hn:n<10) (bs:List Nat) (hb:bs.length<2^31) {σ:Nat→aG} {nx q:Nat} (hq:q<nx) (hσ:σ q= .arr 1 (aS bs)):
  aT P 110 [.ref q,.i n,.i 10] σ nx (.ref nx) (aB (aB σ q .dead) nx (.arr 1 (aS (bs++[48+n])))) (nx+1):=by
 have hs:=aV7 n hn bs hb hq hσ;generalize 48+n=d at *;refine bN.spec (cA Tryz.func110 rfl rfl (by simp [Tryz.f110]) fun B hB hnx hσB=>?_);simp only [Tryz.f110] at hB ⊢;refine aD ?_;simp [go_sem];refine aL rfl rfl rfl (args:=[.ref q,.i n,.i 10]) (f:=165) (by simp [go_sem]) (by simp [go_sem,hB]) hs ?_;refine aD ?_;simp [go_sem]
def dS:List Int→List Nat
 |[]=>[]
 |[n]=>[48+n.toNat]
 |n :: l=>(48+n.toNat) :: 32 :: dS l
theorem aMG:∀(l:List Int) (n:Int),dS (l++[n])=dS l++(if l=[] then [] else [32])++[48+n.toNat]
 |[],n=>rfl
 |[a],n=>rfl
 |a :: b :: l,n=>by have ih:=aMG (b :: l) n;rw [if_neg (by simp)] at ih ⊢;show (48+a.toNat) :: 32 :: dS ((b :: l)++[n])=(48+a.toNat) :: 32 :: dS (b :: l)++[32]++[48+n.toNat];rw [ih];simp
def nK (l:List Int):List Nat:=if l=[] then [] else dS l++[10]
def eK (l:List (List Int)):List Nat:=l.flatMap nK
theorem bAM (l:List (List Int)) {k:Nat} (h:k<l.length):eK (l.take (k+1))=eK (l.take k)++nK l[k]:=by rw [eK,List.take_succ_eq_append_getElem h,List.flatMap_append];simp [eK]
theorem aD0:∀(l:List Int),(dS l).length≤2*l.length
 |[]=>by simp [dS]
 |[a]=>by simp [dS]
 |a :: b :: l=>by have:=aD0 (b :: l);simp only [dS,List.length_cons] at *;omega
theorem aW7 (l:List Int):(nK l).length≤2*l.length+1:=by
 unfold nK;have:=aD0 l;split
 ·simp
 ·simp;omega
theorem zG {K:Nat}:∀(l:List (List Int)),(∀r∈l,r.length≤K)→(eK l).length≤(2*K+1)*l.length
 |[],_=>by simp [eK]
 |r :: l,h=>by
  have h1:=zG l fun r hr=>h r (List.mem_cons_of_mem _ hr)
  have h2:=aW7 r;have h3:=h r List.mem_cons_self;have h4:eK (r :: l)=nK r++eK l:=rfl;rw [h4,List.length_append,List.length_cons,Nat.mul_succ];omega
theorem sN {α:Type} {p q:α→Bool}:∀(l:List α) {a:α},a∈l→p a=true→q a=false→(∀b,q b=true→p b=true)→(l.filter q).length<(l.filter p).length
 |b :: l,a,ha,hp,hq,h=>by
  have hle:(l.filter q).length≤(l.filter p).length:=by rw [←List.countP_eq_length_filter,←List.countP_eq_length_filter];exact List.countP_mono_left fun b _=>h b
  rw [List.filter_cons,List.filter_cons];rcases List.mem_cons.1 ha with rfl | ha
  ·rw [hp,hq];simp only [if_true,Bool.false_eq_true,if_false,List.length_cons];omega
  ·have:=sN l ha hp hq h;have hb:=h b;cases e1:q b<;>cases e2:p b<;>simp only [if_true,Bool.false_eq_true,if_false,List.length_cons]<;>first | omega | skip
   rw [e1] at hb;rw [e2] at hb;exact absurd (hb rfl) (by simp)
section
variable {α:Type} (κ:α→Int)
def jF (x:α) (s:List α):List α:=s.filter (fun y=>decide (κ y≤κ x))++x :: s.filter (fun y=>decide (κ x<κ y))
def aU (l:List α):List α:=l.foldl (fun s x=>jF κ x s) []
def dF (l:List α):Prop:=l.Pairwise fun a b=>κ a≤κ b
structure nA (l s:List α):Prop where
 srt:dF κ s
 key:∀k,s.filter (fun y=>decide (κ y=k))=l.filter (fun y=>decide (κ y=k))
variable {κ}
theorem sU {s t:List α} (h:∀k,s.filter (fun y=>decide (κ y=k))=t.filter (fun y=>decide (κ y=k))) {x:α} (hx:x∈s):x∈t:=by have:x∈s.filter (fun y=>decide (κ y=κ x)):=List.mem_filter.2 ⟨hx,by simp⟩;rw [h] at this;exact (List.mem_filter.1 this).1
theorem aOJ:∀(s t:List α),dF κ s→dF κ t→(∀k,s.filter (fun y=>decide (κ y=k))=t.filter (fun y=>decide (κ y=k)))→s=t
 |[],[],_,_,_=>rfl
 |[],y :: t,_,_,h=>by have:=sU (s:=y :: t) (t:=[]) (fun k=>(h k).symm) List.mem_cons_self;cases this
 |x :: s,[],_,_,h=>by have:=sU h List.mem_cons_self;cases this
 |x :: s,y :: t,hs,ht,h=>by
  have h1:=sU h (List.mem_cons_self (a:=x) (l:=s));have h2:=sU (fun k=>(h k).symm) (List.mem_cons_self (a:=y) (l:=t));rw [dF,List.pairwise_cons] at hs ht
  have e1:κ x≤κ y:=by
   rcases List.mem_cons.1 h2 with rfl | h2
   ·exact Int.le_refl _
   ·exact hs.1 y h2
  have e2:κ y≤κ x:=by
   rcases List.mem_cons.1 h1 with rfl | h1
   ·exact Int.le_refl _
   ·exact ht.1 x h1
  have e:κ x=κ y:=by omega
  have h3:=h (κ x);rw [List.filter_cons,List.filter_cons,if_pos (by simp),if_pos (by simp [e])] at h3;obtain ⟨rfl,h4⟩:=List.cons.inj h3;congr 1;refine aOJ s t hs.2 ht.2 fun k=>?_
  have h5:=h k;rw [List.filter_cons,List.filter_cons] at h5;split at h5
  ·exact (List.cons.inj h5).2
  ·exact h5
theorem nA.uniq {l s t:List α} (hs:nA κ l s) (ht:nA κ l t):s=t:=aOJ s t hs.srt ht.srt fun k=>(hs.key k).trans (ht.key k).symm
theorem aWE {l s:List α} (h:nA κ l s) (x:α):nA κ (l++[x]) (jF κ x s):=by
 refine ⟨?_,fun k=>?_⟩
 ·rw [dF,jF,List.pairwise_append,List.pairwise_cons];refine ⟨h.srt.filter _,⟨fun y hy=>?_,h.srt.filter _⟩,fun y hy z hz=>?_⟩
  ·have:=(List.mem_filter.1 hy).2;simp only [decide_eq_true_eq] at this;omega
  ·have h1:=(List.mem_filter.1 hy).2;simp only [decide_eq_true_eq] at h1;rcases List.mem_cons.1 hz with rfl | hz
   ·exact h1
   ·have h2:=(List.mem_filter.1 hz).2;simp only [decide_eq_true_eq] at h2;omega
 ·rw [jF,List.filter_append,List.filter_append,List.filter_cons,List.filter_cons,List.filter_nil,List.filter_filter,List.filter_filter,←h.key k];rcases Int.lt_trichotomy k (κ x) with hk | hk | hk
  ·have e1:s.filter (fun a=>decide (κ a=k)&&decide (κ a≤κ x))=s.filter fun y=>decide (κ y=k):=List.filter_congr fun y _=>by rw [Bool.eq_iff_iff];simp only [Bool.and_eq_true,decide_eq_true_eq];omega
   have e2:s.filter (fun a=>decide (κ a=k)&&decide (κ x<κ a))=[]:=List.filter_eq_nil_iff.2 fun y _=>by simp only [Bool.and_eq_true,decide_eq_true_eq];omega
   rw [e1,e2,if_neg (by simp only [decide_eq_true_eq];omega),List.append_nil]
  ·have e1:s.filter (fun a=>decide (κ a=k)&&decide (κ a≤κ x))=s.filter fun y=>decide (κ y=k):=List.filter_congr fun y _=>by rw [Bool.eq_iff_iff];simp only [Bool.and_eq_true,decide_eq_true_eq];omega
   have e2:s.filter (fun a=>decide (κ a=k)&&decide (κ x<κ a))=[]:=List.filter_eq_nil_iff.2 fun y _=>by simp only [Bool.and_eq_true,decide_eq_true_eq];omega
   rw [e1,e2]
  ·have e1:s.filter (fun a=>decide (κ a=k)&&decide (κ a≤κ x))=[]:=List.filter_eq_nil_iff.2 fun y _=>by simp only [Bool.and_eq_true,decide_eq_true_eq];omega
   have e2:s.filter (fun a=>decide (κ a=k)&&decide (κ x<κ a))=s.filter fun y=>decide (κ y=k):=List.filter_congr fun y _=>by rw [Bool.eq_iff_iff];simp only [Bool.and_eq_true,decide_eq_true_eq];omega
   have hn:¬decide (κ x=k)=true:=by simp only [decide_eq_true_eq];omega
   rw [e1,e2,if_neg hn,if_neg hn];simp
theorem aJE:∀(l pre s:List α),nA κ pre s→nA κ (pre++l) (l.foldl (fun s x=>jF κ x s) s)
 |[],pre,s,h=>by rw [List.append_nil];exact h
 |x :: l,pre,s,h=>by have:=aJE l (pre++[x]) _ (aWE h x);rw [List.append_assoc] at this;exact this
theorem gI (l:List α):nA κ l (aU κ l):=by have h:nA κ ([]:List α) []:=⟨List.Pairwise.nil,fun _=>rfl⟩;exact aJE l [] [] h
theorem vA {l s:List α} (h:nA κ l s):aU κ l=s:=(gI l).uniq h
theorem aCO (l:List α) (x:α):aU κ (l++[x])=jF κ x (aU κ l):=by rw [aU,List.foldl_append];rfl
theorem pM {l:List α} {x:α}:x∈aU κ l↔x∈l:=⟨sU fun k=>(gI l).key k,sU fun k=>((gI l).key k).symm⟩
theorem aIQ:∀(s:List α) (x:α),(s.filter (fun y=>decide (κ y≤κ x))).length+(s.filter (fun y=>decide (κ x<κ y))).length=s.length
 |[],_=>rfl
 |a :: s,x=>by
  have:=aIQ s x;rw [List.filter_cons,List.filter_cons];by_cases h:κ a≤κ x
  ·rw [if_pos (by simpa using h),if_neg (by simp;omega)];simp only [List.length_cons];omega
  ·rw [if_neg (by simpa using h),if_pos (by simp;omega)];simp only [List.length_cons];omega
theorem aI2:∀(l s:List α),(l.foldl (fun s x=>jF κ x s) s).length=s.length+l.length
 |[],s=>rfl
 |x :: l,s=>by have:=aIQ (κ:=κ) s x;rw [List.foldl_cons,aI2 l,jF,List.length_append,List.length_cons,List.length_cons];omega
theorem mO (l:List α):(aU κ l).length=l.length:=by rw [aU,aI2];simp
theorem pN {l:List α} (h:dF κ l):aU κ l=l:=vA ⟨h,fun _=>rfl⟩
theorem aJ7 (a b:List α):aU κ (aU κ a++aU κ b)=aU κ (a++b):=
 vA ⟨(gI (a++b)).srt,fun k=>by rw [(gI (a++b)).key k,List.filter_append,List.filter_append,(gI a).key k,(gI b).key k]⟩
theorem aCN {u v:List α} {x:α} (hu:∀y∈u,κ y≤κ x) (hv:∀y∈v,κ x<κ y):jF κ x (u++v)=u++x :: v:=by
 rw [jF,List.filter_append,List.filter_append];have e1:u.filter (fun y=>decide (κ y≤κ x))=u:=List.filter_eq_self.2 fun y hy=>by simpa using hu y hy
 have e2:v.filter (fun y=>decide (κ y≤κ x))=[]:=List.filter_eq_nil_iff.2 fun y hy=>by have:=hv y hy;simp;omega
 have e3:u.filter (fun y=>decide (κ x<κ y))=[]:=List.filter_eq_nil_iff.2 fun y hy=>by have:=hu y hy;simp;omega
 have e4:v.filter (fun y=>decide (κ x<κ y))=v:=List.filter_eq_self.2 fun y hy=>by simpa using hv y hy
 rw [e1,e2,e3,e4];simp
theorem aZK {u v:List α} {y:α} (h:dF κ (u++v)) (hu:∀x∈u,κ x≤κ y) (hv:∀x∈v,κ y<κ x):aU κ (u++v++[y])=u++y :: v:=by rw [aCO,pN h,aCN hu hv]
theorem aZJ {u v:List α} {x:α} (h:dF κ (u++v)) (hu:∀y∈u,κ y<κ x) (hv:∀y∈v,κ x≤κ y):aU κ (x :: (u++v))=u++x :: v:=by
 rw [dF,List.pairwise_append] at h;refine vA ⟨?_,fun k=>?_⟩
 ·rw [dF,List.pairwise_append,List.pairwise_cons];refine ⟨h.1,⟨fun y hy=>hv y hy,h.2.1⟩,fun y hy z hz=>?_⟩;have:=hu y hy;rcases List.mem_cons.1 hz with rfl | hz
  ·omega
  ·have:=hv z hz;omega
 ·rw [List.filter_append,List.filter_cons,List.filter_cons,List.filter_append];by_cases hk:κ x=k
  ·have e1:u.filter (fun y=>decide (κ y=k))=[]:=List.filter_eq_nil_iff.2 fun y hy=>by have:=hu y hy;simp;omega
   rw [e1];simp
  ·rw [if_neg (by simpa using hk),if_neg (by simpa using hk)]
theorem aWH {u1 u2 v1 v2:List α} (hu:dF κ (u1++u2)) (hv:dF κ (v1++v2)) (h1:∀u∈u1,∀v∈v2,κ u≤κ v) (h2:∀v∈v1,∀u∈u2,κ v<κ u):
  aU κ (u1++u2++(v1++v2))=aU κ (u1++v1)++aU κ (u2++v2):=by
 rw [dF,List.pairwise_append] at hu hv;refine vA ⟨?_,fun k=>?_⟩
 ·rw [dF,List.pairwise_append];refine ⟨(gI _).srt,(gI _).srt,fun a ha b hb=>?_⟩;rcases List.mem_append.1 (pM.1 ha) with ha | ha<;>rcases List.mem_append.1 (pM.1 hb) with hb | hb
  ·exact hu.2.2 a ha b hb
  ·exact h1 a ha b hb
  ·have:=h2 a ha b hb;omega
  ·exact hv.2.2 a ha b hb
 ·rw [List.filter_append,(gI _).key k,(gI _).key k];simp only [List.filter_append,List.append_assoc];congr 1;rw [←List.append_assoc,←List.append_assoc];congr 1;by_cases hk:∃v∈v1,κ v=k
  ·obtain ⟨v,hv1,hv2⟩:=hk;have e:u2.filter (fun y=>decide (κ y=k))=[]:=List.filter_eq_nil_iff.2 fun y hy=>by have:=h2 v hv1 y hy;simp;omega
   rw [e];simp
  ·have e:v1.filter (fun y=>decide (κ y=k))=[]:=List.filter_eq_nil_iff.2 fun y hy=>by simp only [decide_eq_true_eq];exact fun h=>hk ⟨y,hy,h⟩
   rw [e];simp
theorem aJ8 {β:Type} (f:β→α) (l:List β):(aU (fun b=>κ (f b)) l).map f=aU κ (l.map f):=by
 refine (vA ⟨?_,fun k=>?_⟩).symm
 ·rw [dF,List.pairwise_map];exact (gI l).srt
 ·have:=(gI (κ:=fun b=>κ (f b)) l).key k;rw [List.filter_map,List.filter_map];exact congrArg (List.map f) this
def dM (κ:α→Int) (bs:Nat):Nat→List α→List α
 |0,_=>[]
 |t+1,l=>aU κ (l.take bs)++dM κ bs t (l.drop bs)
theorem aA5 (bs:Nat):∀(t:Nat) (l:List α),dM κ bs (t+1) l=dM κ bs t l++aU κ ((l.drop (bs*t)).take bs)
 |0,l=>by simp [dM]
 |t+1,l=>by rw [dM,aA5 bs t (l.drop bs),dM,List.append_assoc,List.drop_drop];congr 3;rw [Nat.mul_succ];congr 2;omega
theorem xO (bs:Nat):∀(t:Nat) (l:List α),bs*t≤l.length→(dM κ bs t l).length=bs*t
 |0,l,_=>by simp [dM]
 |t+1,l,h=>by rw [Nat.mul_succ] at h;rw [dM,List.length_append,mO,xO bs t (l.drop bs) (by rw [List.length_drop];omega),List.length_take,Nat.mul_succ];omega
def eY (κ:α→Int) (bs:Nat) (l:List α):List α:=dM κ bs (l.length / bs) l++aU κ (l.drop (bs*(l.length / bs)))
theorem xD {bs:Nat} (h0:0<bs) {l:List α} (h:bs≤l.length):eY κ bs l=aU κ (l.take bs)++eY κ bs (l.drop bs):=by
 have e:l.length / bs=(l.drop bs).length / bs+1:=by rw [List.length_drop];exact Nat.div_eq_sub_div h0 h
 rw [eY,e,dM,List.append_assoc,eY,List.drop_drop];congr 3;rw [Nat.mul_succ];congr 1;omega
theorem aAU {bs:Nat} {l:List α} (h:l.length<bs):eY κ bs l=aU κ l:=by rw [eY,Nat.div_eq_of_lt h];simp [dM]
theorem aGO {bs:Nat} (h0:0<bs) {l:List α} (h:l.length≤bs):eY κ bs l=aU κ l:=by
 rcases Nat.lt_or_ge l.length bs with h1 | h1
 ·exact aAU h1
 ·have e:l.length=bs:=by omega
  rw [xD h0 h1,List.take_of_length_le h,aAU (by rw [List.length_drop];omega),List.drop_eq_nil_of_le h];simp [aU]
theorem aGP {bs:Nat} (l:List α):(eY κ bs l).length=l.length:=by have h:=Nat.mul_div_le l.length bs;rw [eY,List.length_append,xO bs _ l h,mO,List.length_drop];omega
theorem vV {l:List α} (h:dF κ l) (n:Nat):dF κ (l.take n):=List.Pairwise.sublist (List.take_sublist _ _) h
theorem vU {l:List α} (h:dF κ l) (n:Nat):dF κ (l.drop n):=List.Pairwise.sublist (List.drop_sublist _ _) h
end
end Go.Proofs.YtnoifgjiipgpoaaGreatDoor
namespace Go.Proofs.YtnoifgjiipgpoaaGreatDoor
open Go Go.Proofs.YtnoifgjiipgpoaaGreatDoor.R
set_option maxRecDepth 4000
section
variable {α:Type}
theorem aIK (X Y Z:List α) (x y:α):(X++x :: (Y++y :: Z))[X.length]? =some x:=by simp
theorem aIL (X Y Z:List α) (x y:α):(X++x :: (Y++y :: Z))[X.length+1+Y.length]? =some y:=by rw [List.getElem?_append_right (by omega),show X.length+1+Y.length-X.length=Y.length+1 by omega,List.getElem?_cons_succ];simp
theorem aOA (X Z:List α) (x y:α):(X++x :: Z).set X.length y=X++y :: Z:=by rw [List.set_append_right _ _ (Nat.le_refl _),Nat.sub_self,List.set_cons_zero]
theorem aU0 (X Y Z:List α) (x y:α):((X++x :: (Y++y :: Z)).set X.length y).set (X.length+1+Y.length) x=X++y :: (Y++x :: Z):=by
 rw [aOA];have e:X++y :: (Y++y :: Z)=(X++y :: Y)++y :: Z:=by simp
 have el:X.length+1+Y.length=(X++y :: Y).length:=by simp;omega
 rw [e,el,aOA];simp
theorem aYL (X Z:List α) (x y:α):((X++x :: y :: Z).set X.length y).set (X.length+1) x=X++y :: x :: Z:=by simp
theorem aDE (X Z:List α) (x y:α):((X++x :: y :: Z).set (X.length+1) x).set X.length y=X++y :: x :: Z:=by simp
end
end Go.Proofs.YtnoifgjiipgpoaaGreatDoor
namespace Go.Proofs.YtnoifgjiipgpoaaGreatDoor
open Go Go.Proofs.YtnoifgjiipgpoaaGreatDoor.R
set_option maxRecDepth 4000
structure aC where
 s:aF
 cost:Int
 path:List Int
 deriving DecidableEq
def aC.cs (n:aC):List AV:=[.i n.s.spot,.i n.s.car,.i n.s.time,.i n.s.load,.i n.s.first,.u n.s.must,.u n.s.can,.u n.s.on,.i n.cost,.t (.sl (aJ n.path))]
def aC.a (n:aC):AV:=.agg n.cs
def aC.t (n:aC):List T:=[.i n.s.spot,.i n.s.car,.i n.s.time,.i n.s.load,.i n.s.first,.v (.int .u64 n.s.must),.v (.int .u64 n.s.can),.v (.int .u64 n.s.on),.i n.cost,.sl (aJ n.path)]
def KR (e:List T):Prop:=∃(n:aC) (k:Int),e=n.t++[.i k]
def aP (e:List T):Int:=match e[10]? with
 |some (T.v (.int _ k))=>k
 |_=>0
theorem aP1 (n:aC) (k:Int):aP (n.t++[.i k])=k:=by rw [aP];simp [aC.t]
theorem KR.len {e:List T} (h:KR e):e.length=11:=by obtain ⟨n,k,rfl⟩:=h;simp [aC.t]
def dN (a b:Int):Int:=if a<b then -1 else if b<a then 1 else 0
theorem uQ (a b:Int):dN a b<0↔a<b:=by
 unfold dN;split
 ·omega
 ·split<;>omega
theorem aLQ (a:Int):Pure P 143 [.i a] (.b false):=by
 refine aW Tryz.func143 rfl rfl (by simp [Tryz.f143]) (by simp [aE,aE.bndL]) (by simp [aE,aE.bndL]) fun B hB hnx=>?_
 simp only [Tryz.f143] at hB ⊢;refine aD ?_;simp [go_sem]
theorem uR (a b:Int):Pure P 96 [.i a,.i b] (.i (dN a b)):=by
 generalize hR:dN a b=R;refine aW Tryz.func96 rfl rfl (by simp [Tryz.f96]) (by simp [aE,aE.bndL]) (by simp [aE,aE.bndL]) fun B hB hnx=>?_
 simp only [Tryz.f96] at hB ⊢;rw [dN] at hR;refine aD ?_;simp [go_sem];refine aL rfl rfl rfl (args:=[.i a]) (f:=143) (by simp [go_sem]) (by simp [go_sem,hB]) ((aLQ a).spec _ _) ?_;refine aD ?_;simp [go_sem];refine aL rfl rfl rfl (args:=[.i b]) (f:=143) (by simp [go_sem]) (by simp [go_sem,hB]) ((aLQ b).spec _ _) ?_;by_cases c1:a<b
 ·rw [if_pos c1] at hR;subst hR;refine aD ?_;simp [go_sem,c1]
 ·rw [if_neg c1] at hR;by_cases c2:b<a
  ·rw [if_pos c2] at hR;subst hR;refine aD ?_;simp [go_sem,c1,c2]
  ·rw [if_neg c2] at hR;subst hR;refine aD ?_;simp [go_sem,c1,c2]
theorem yI (a b:List T) (ha:KR a) (hb:KR b):Pure P 226 [.agg (a.map .t),.agg (b.map .t)] (.i (dN (aP a) (aP b))):=by
 obtain ⟨n,k,rfl⟩:=ha;obtain ⟨m,j,rfl⟩:=hb;rw [aP1,aP1];have hc:=uR k j;refine aW Tryz.func226 rfl rfl (by simp [Tryz.f226]) (by simp [aE,aE.bndL,aC.t]) (by simp [aE,aE.bndL]) fun B hB hnx=>?_
 simp only [Tryz.f226] at hB ⊢;refine aD ?_;simp [go_sem,aC.t];refine aL rfl rfl rfl (args:=[.i k,.i j]) (f:=96) (by simp [go_sem]) (by simp [go_sem,hB]) ((hc).spec _ _) ?_;refine aD ?_;simp [go_sem]
abbrev cU:AV:=.fn (.func 226) [] []
structure Two (S:List (List T)) (u v:Nat) (x y:List T):Prop where
 hu:u<S.length
 hv:v<S.length
 gu:∀h:u<S.length,S[u]'h=x
 gv:∀h:v<S.length,S[v]'h=y
 lx:x.length=11
 ly:y.length=11
theorem aFH {X Y Z:List (List T)} {x y:List T} (hx:x.length=11) (hy:y.length=11):Two (X++x :: (Y++y :: Z)) X.length (X.length+1+Y.length) x y:=by
 have h1:=aIK X Y Z x y;have h2:=aIL X Y Z x y;have l1:X.length<(X++x :: (Y++y :: Z)).length:=by simp
 have l2:X.length+1+Y.length<(X++x :: (Y++y :: Z)).length:=by simp;omega
 refine ⟨l1,l2,fun h=>?_,fun h=>?_,hx,hy⟩
 ·rw [List.getElem?_eq_getElem h] at h1;exact Option.some.inj h1
 ·rw [List.getElem?_eq_getElem h] at h2;exact Option.some.inj h2
theorem kO {e:List T} (h:e.length=11):List.take 11 (List.map AV.t e)=List.map AV.t e:=List.take_of_length_le (by rw [List.length_map];omega)
theorem aE8 (pre A M C post:List (List T)) (hAC:A.length=C.length) (hL:∀e∈pre++(A++(M++(C++post))),e.length=11) (hbig:(pre++(A++(M++(C++post)))).length<2^31) {σ:Nat→aG} {nx q:Nat} (hq:q<nx) (hσq:σ q= .arr 11 (pre++(A++(M++(C++post))))):
  aT P 294 [.ref q,.i pre.length,.i (pre.length+A.length+M.length:Nat),.i A.length,cU] σ nx (.tup []) (aB σ q (.arr 11 (pre++(C++(M++(A++post)))))) nx:=by
 refine fO Tryz.func294 rfl rfl (by simp [Tryz.f294]) hq (by simp [dG]) (by simp [aE,aE.bndL]) fun hk B hB hnx hσ=>?_
 simp only [Tryz.f294] at hB ⊢;simp only [List.length_append] at hbig;obtain ⟨F,hF⟩:∃F:Nat→List (List T),F=fun i=>pre++((C.take i++A.drop i)++(M++((A.take i++C.drop i)++post))):=⟨_,rfl⟩
 have hF0:σ=aB σ q (.arr 11 (F 0)):=by
  have:F 0=pre++(A++(M++(C++post))):=by rw [hF];simp
  rw [this,←hσq,pU rfl]
 have hFn:F A.length=pre++(C++(M++(A++post))):=by rw [hF];simp only;rw [List.take_of_length_le (by omega:C.length≤A.length),List.drop_eq_nil_of_le (Nat.le_refl A.length),List.take_length,List.drop_eq_nil_of_le (by omega:C.length≤A.length)];simp
 have hFlen:∀i,(F i).length=pre.length+(A.length+(M.length+(C.length+post.length))):=fun i=>by rw [hF];simp only [List.length_append,List.length_take,List.length_drop];omega
 refine aD ?_;simp [go_sem];refine bA (α:=Nat) (fun i=>i≤A.length) (fun i=>⟨sl [(0,.ref q),(1,.i pre.length),(2,.i (pre.length+A.length+M.length:Nat)),(3,.i A.length),(10,.i i)],aB σ q (.arr 11 (F i)),nx⟩) (fun i=>A.length-i) 0 (Nat.zero_le _) (aH.slots (by simp [go_sem]) hF0.symm rfl) ?_;intro i hi;refine aI ?_;simp [go_sem];refine bU (fun h=>?_) (fun h=>?_)
 ·have hc:i<C.length:=by omega
  have hs1:F i=(pre++C.take i)++A[i] :: ((A.drop (i+1)++(M++A.take i))++C[i] :: (C.drop (i+1)++post)):=by rw [hF];simp only [List.append_assoc];rw [List.drop_eq_getElem_cons h,List.drop_eq_getElem_cons hc];simp only [List.cons_append,List.append_assoc]
  have hs2:F (i+1)=(pre++C.take i)++C[i] :: ((A.drop (i+1)++(M++A.take i))++A[i] :: (C.drop (i+1)++post)):=by rw [hF];simp only [List.append_assoc];rw [List.take_succ_eq_append_getElem h,List.take_succ_eq_append_getElem hc];simp only [List.cons_append,List.append_assoc,List.nil_append]
  have hx:(A[i]).length=11:=hL _ (by simp);have hy:(C[i]).length=11:=hL _ (by simp);generalize A[i]=x at *;generalize C[i]=y at *;have htwo:=aFH (X:=pre++C.take i) (Y:=A.drop (i+1)++(M++A.take i)) (Z:=C.drop (i+1)++post) hx hy;have hset:=aU0 (pre++C.take i) (A.drop (i+1)++(M++A.take i)) (C.drop (i+1)++post) x y;rw [←hs1] at htwo hset;rw [←hs2] at hset;have e1:(pre++C.take i).length=pre.length+i:=by rw [List.length_append,List.length_take];omega
  have e2:(pre++C.take i).length+1+(A.drop (i+1)++(M++A.take i)).length=pre.length+A.length+M.length+i:=by simp only [List.length_append,List.length_take,List.length_drop];omega
  rw [e2,e1] at htwo hset;obtain ⟨u,hu⟩:∃u,u=pre.length+i:=⟨_,rfl⟩;obtain ⟨v,hv⟩:∃v,v=pre.length+A.length+M.length+i:=⟨_,rfl⟩;rw [←hu,←hv] at htwo hset;have hne:¬u=v:=by omega
  have hne':¬v=u:=by omega
  have w1:IntKind.i64.wrap ((pre.length:Int)+i)=(u:Int):=by rw [aO _ (by omega)];omega
  have w2:IntKind.i64.wrap ((pre.length:Int)+A.length+M.length+i)=(v:Int):=by rw [aO _ (by omega)];omega
  have hii:IntKind.i64.wrap ((i:Int)+1)=((i+1:Nat):Int):=by rw [aO ((i:Int)+1) (by omega)];rfl
  obtain ⟨t1,t2,t3,t4,t5,t6⟩:=htwo;have d1:u*11 / 11=u:=by omega
  have d2:u*11 % 11=0:=by omega
  have d3:v*11 / 11=v:=by omega
  have d4:v*11 % 11=0:=by omega
  generalize F i=S at *;generalize hS':F (i+1)=S' at *;simp [go_sem,h];refine cT [21,23] [4,5,6,7] rfl (by rw [hB];kernel_rfl) (by kernel_rfl) fun ht hf'=>?_
  have k1:=kO t5;have k2:=kO t6;have k3:cW x 0 y=y:=qC (by omega);have k4:cW y 0 x=x:=qC (by omega);refine aD ?_;simp [go_sem,ht,hf',w1,w2,t1,t2,t3,t4,d1,d2,d3,d4,t5,t6,k1,k2,k3,k4,wG,hne,hne',hii];refine Next.mk (i+1) (by omega) (aH.slots (by simp [go_sem]) ?_ rfl) (by omega);rw [hS',←hset];funext j;by_cases e:j=q<;>simp [aB,e]
 ·have:i=A.length:=by omega
  subst this;rw [hFn];simp [go_sem];intro j h1 h2 h3;exact absurd h3 h2
theorem nP (σ:Nat→aG) (q:Nat) (a b:aG):aB (aB σ q a) q b=aB σ q b:=by funext j;by_cases e:j=q<;>simp [aB,e]
theorem bBQ (pre U V post:List (List T)) (hU:0<U.length) (hV:0<V.length) (hL:∀e∈pre++(U++(V++post)),e.length=11) (hbig:(pre++(U++(V++post))).length<2^31) {σ:Nat→aG} {nx q:Nat} (hq:q<nx) (hσq:σ q= .arr 11 (pre++(U++(V++post)))):
  aT P 293 [.ref q,.i pre.length,.i (pre.length+U.length:Nat),.i (pre.length+U.length+V.length:Nat),cU] σ nx (.tup []) (aB σ q (.arr 11 (pre++(V++(U++post))))) nx:=by
 refine fO Tryz.func293 rfl rfl (by simp [Tryz.f293]) hq (by simp [dG]) (by simp [aE,aE.bndL]) fun hk B hB hnx hσ=>?_
 simp only [Tryz.f293] at hB ⊢;simp only [List.length_append] at hbig;have w1:IntKind.i64.wrap ((pre.length:Int)+U.length-pre.length)=(U.length:Int):=by rw [aO _ (by omega)];omega
 have w2:IntKind.i64.wrap ((pre.length:Int)+U.length+V.length-(pre.length+U.length))=(V.length:Int):=by rw [aO _ (by omega)];omega
 have hσ0:aB σ q (.arr 11 (pre++([]++(U++(V++([]++post))))))=σ:=by simp only [List.nil_append];rw [←hσq];exact pU rfl
 refine aD ?_;simp [go_sem,w1,w2]
 refine bA (α:=List (List T)×List (List T)×List (List T)×List (List T)) (fun (V1,X,Y,U1)=>0<X.length∧0<Y.length∧V1.length+X.length=U.length∧Y.length+U1.length=V.length∧V1++(Y++(X++U1))=V++U∧∀e∈pre++(V1++(X++(Y++(U1++post)))),e.length=11)
  (fun (V1,X,Y,U1)=>⟨sl [(0,.ref q),(2,.i (pre.length+U.length:Nat)),(4,cU),(10,.i X.length),(11,.i Y.length)],aB σ q (.arr 11 (pre++(V1++(X++(Y++(U1++post)))))),nx⟩) (fun (V1,X,Y,U1)=>X.length+Y.length) ([],U,V,[]) ⟨hU,hV,by simp,by simp,by simp,by simpa using hL⟩ (aH.slots (by simp [go_sem]) hσ0 rfl) ?_
 rintro ⟨V1,X,Y,U1⟩ ⟨g1,g2,g3,g4,g5,g6⟩;have g7:∀e,(e∈pre∨e∈V1∨e∈X∨e∈Y∨e∈U1∨e∈post)→e.length=11:=by simpa using g6
 have hlV:(pre++V1).length=pre.length+V1.length:=List.length_append;have w3:IntKind.i64.wrap ((pre.length:Int)+U.length-X.length)=(pre.length:Int)+V1.length:=by rw [aO _ (by omega)];omega
 by_cases c:X.length=Y.length
 ·have hs:=aE8 (pre++V1) X [] Y (U1++post) c (by simpa using g6) (by simp only [List.length_append,List.length_nil];omega) (σ:=aB σ q (.arr 11 (pre++(V1++(X++(Y++(U1++post))))))) hq (by simp [aB]);rw [nP] at hs;refine aD ?_;simp [go_sem,c];refine aL rfl rfl rfl (args:=[.ref q,.i (pre++V1).length,.i ((pre++V1).length+X.length+([]:List (List T)).length:Nat),.i X.length,cU]) (f:=294) (by simp [go_sem,←c,w3];omega) (by simp [go_sem,hB]) hs ?_;refine aD ?_;simp [go_sem];refine ⟨?_,fun j h1 h2 h3=>absurd h3 h2⟩;have:=congrArg (fun l=>l++post) g5;simpa only [List.append_assoc] using this
 ·have c':¬(X.length:Int)=Y.length:=by omega
  by_cases c2:Y.length<X.length
  ·have l1:(X.take Y.length).length=Y.length:=by rw [List.length_take];omega
   have l2:(X.drop Y.length).length=X.length-Y.length:=List.length_drop;have hX:X.take Y.length++X.drop Y.length=X:=List.take_append_drop _ _;have e1:pre++(V1++(X++(Y++(U1++post))))=(pre++V1)++(X.take Y.length++(X.drop Y.length++(Y++(U1++post)))):=by rw [←List.append_assoc (X.take Y.length),hX];simp
   have hs:=aE8 (pre++V1) (X.take Y.length) (X.drop Y.length) Y (U1++post) l1 (by rw [←e1];exact g6) (by simp only [List.length_append];omega) (σ:=aB σ q (.arr 11 (pre++(V1++(X++(Y++(U1++post))))))) hq (by simp [aB,e1]);rw [nP] at hs;have w4:IntKind.i64.wrap ((X.length:Int)-Y.length)=((X.drop Y.length).length:Int):=by rw [aO _ (by omega),l2];omega
   refine aD ?_;simp [go_sem,c,c',c2];refine aL rfl rfl rfl (args:=[.ref q,.i (pre++V1).length,.i ((pre++V1).length+(X.take Y.length).length+(X.drop Y.length).length:Nat),.i (X.take Y.length).length,cU]) (f:=294) (by simp [go_sem,w3];omega) (by simp [go_sem,hB]) hs ?_;refine aD ?_;simp [go_sem,w4];refine Next.mk (V1++Y,X.drop Y.length,X.take Y.length,U1) ⟨by simp only;omega,by simp only;omega,by simp only [List.length_append];omega,by simp only;omega,?_,fun e he=>g7 e ?_⟩ (aH.slots (by simp [go_sem,l1]) (by simp only [List.append_assoc]) rfl) (by simp only;omega)
   ·rw [←g5];simp only [List.append_assoc];rw [←List.append_assoc (X.take _),hX]
   ·simp only [List.mem_append] at he;rcases he with h | (h | h) | h | h | h | h
    ·exact .inl h
    ·exact .inr (.inl h)
    ·exact .inr (.inr (.inr (.inl h)))
    ·exact .inr (.inr (.inl (List.mem_of_mem_drop h)))
    ·exact .inr (.inr (.inl (List.mem_of_mem_take h)))
    ·exact .inr (.inr (.inr (.inr (.inl h))))
    ·exact .inr (.inr (.inr (.inr (.inr h))))
  ·have l1:(Y.take (Y.length-X.length)).length=Y.length-X.length:=by rw [List.length_take];omega
   have l2:(Y.drop (Y.length-X.length)).length=X.length:=by rw [List.length_drop];omega
   have hY:Y.take (Y.length-X.length)++Y.drop (Y.length-X.length)=Y:=List.take_append_drop _ _;have e1:pre++(V1++(X++(Y++(U1++post))))=(pre++V1)++(X++(Y.take (Y.length-X.length)++(Y.drop (Y.length-X.length)++(U1++post)))):=by rw [←List.append_assoc (Y.take _),hY];simp
   have hs:=aE8 (pre++V1) X (Y.take (Y.length-X.length)) (Y.drop (Y.length-X.length)) (U1++post) l2.symm (by rw [←e1];exact g6) (by simp only [List.length_append];omega) (σ:=aB σ q (.arr 11 (pre++(V1++(X++(Y++(U1++post))))))) hq (by simp [aB,e1]);rw [nP] at hs;have w4:IntKind.i64.wrap ((Y.length:Int)-X.length)=((Y.take (Y.length-X.length)).length:Int):=by rw [aO _ (by omega),l1];omega
   have w5:IntKind.i64.wrap ((pre.length:Int)+U.length+Y.length)=(pre.length:Int)+U.length+Y.length:=aO _ (by omega);have w6:IntKind.i64.wrap ((pre.length:Int)+U.length+Y.length-X.length)=(pre.length:Int)+V1.length+Y.length:=by rw [aO _ (by omega)];omega
   refine aD ?_;simp [go_sem,c,c',c2];refine aL rfl rfl rfl (args:=[.ref q,.i (pre++V1).length,.i ((pre++V1).length+X.length+(Y.take (Y.length-X.length)).length:Nat),.i X.length,cU]) (f:=294) (by simp [go_sem,w3,w5,w6];omega) (by simp [go_sem,hB]) hs ?_;refine aD ?_;simp [go_sem,w4];refine Next.mk (V1,Y.drop (Y.length-X.length),Y.take (Y.length-X.length),X++U1) ⟨by simp only;omega,by simp only;omega,by simp only;omega,by simp only [List.length_append];omega,?_,fun e he=>g7 e ?_⟩ (aH.slots (by simp [go_sem,l2]) (by simp only [List.append_assoc]) rfl) (by simp only;omega)
   ·rw [←g5];simp only [List.append_assoc];rw [←List.append_assoc (Y.take _),hY]
   ·simp only [List.mem_append] at he;rcases he with h | h | h | h | (h | h) | h
    ·exact .inl h
    ·exact .inr (.inl h)
    ·exact .inr (.inr (.inr (.inl (List.mem_of_mem_drop h))))
    ·exact .inr (.inr (.inr (.inl (List.mem_of_mem_take h))))
    ·exact .inr (.inr (.inl h))
    ·exact .inr (.inr (.inr (.inr (.inl h))))
    ·exact .inr (.inr (.inr (.inr (.inr h))))
theorem aJ4 (pre mid post:List (List T)) (hK:∀e∈mid,KR e) (hL:∀e∈pre++(mid++post),e.length=11) (hbig:(pre++(mid++post)).length<2^31) {σ:Nat→aG} {nx q:Nat} (hq:q<nx) (hσq:σ q= .arr 11 (pre++(mid++post))):
  aT P 284 [.ref q,.i pre.length,.i (pre.length+mid.length:Nat),cU] σ nx (.tup []) (aB σ q (.arr 11 (pre++(aU aP mid++post)))) nx:=by
 refine fO Tryz.func284 rfl rfl (by simp [Tryz.f284]) hq (by simp [dG]) (by simp [aE,aE.bndL]) fun hk B hB hnx hσ=>?_
 simp only [Tryz.f284] at hB ⊢;simp only [List.length_append] at hbig;have w1:IntKind.i64.wrap ((pre.length:Int)+1)=((pre.length+1:Nat):Int):=by rw [aO _ (by omega)];omega
 have h1s:aU aP (mid.take 1)=mid.take 1:=by
  cases mid with
  |nil=>rfl
  |cons x l=>exact pN (List.pairwise_singleton _ _)
 have hσ0:aB σ q (.arr 11 (pre++(aU aP (mid.take 1)++(mid.drop 1++post))))=σ:=by rw [h1s,←List.append_assoc (mid.take 1),List.take_append_drop,←hσq];exact pU rfl
 refine aD ?_;simp [go_sem,w1]
 refine bA (α:=Nat) (fun k=>1≤k∧k≤mid.length+1)
  (fun k=>⟨sl [(0,.ref q),(1,.i pre.length),(2,.i (pre.length+mid.length:Nat)),(3,cU),(8,.i (pre.length+k:Nat))],aB σ q (.arr 11 (pre++(aU aP (mid.take k)++(mid.drop k++post)))),nx⟩) (fun k=>mid.length+1-k) 1 ⟨by omega,by omega⟩ (aH.slots (by simp [go_sem]) hσ0 rfl) ?_
 rintro k ⟨g1,g2⟩;by_cases hk:k<mid.length
 rotate_left
 ·have hk':¬((pre.length:Int)+k<pre.length+mid.length):=by omega
  refine aI ?_;simp [go_sem,hk'];rw [List.take_of_length_le (by omega),List.drop_eq_nil_of_le (by omega)];simp only [List.nil_append];exact ⟨trivial,fun j h1 h2 h3=>absurd h3 h2⟩
 have hk':(pre.length:Int)+k<pre.length+mid.length:=by omega
 refine aI ?_;simp [go_sem,hk'];have hKx:=hK mid[k] (List.getElem_mem hk);have htk:aU aP (mid.take (k+1))=jF aP mid[k] (aU aP (mid.take k)):=by rw [List.take_succ_eq_append_getElem hk,aCO]
 have hdk:=List.drop_eq_getElem_cons hk;have hsl:(aU aP (mid.take k)).length=k:=by rw [mO,List.length_take];omega
 have hsK:∀e∈aU aP (mid.take k),KR e:=fun e he=>hK e (List.mem_of_mem_take (pM.1 he))
 have hss:=(gI (κ:=aP) (mid.take k)).srt;have hii:IntKind.i64.wrap ((pre.length:Int)+k+1)=(pre.length:Int)+(k+1:Nat):=by rw [aO _ (by omega)];omega
 rw [hdk];generalize mid[k]=x at *;have hLx:=hKx.len;generalize aU aP (mid.take k)=s at *;obtain ⟨Fl,hFl⟩:∃Fl:List (List T)→List (List T)→List (List T),∀u v,Fl u v=pre++(u++x :: (v++(mid.drop (k+1)++post))):=⟨_,fun _ _=>rfl⟩
 refine bA (α:=List (List T)×List (List T)) (fun (u,v)=>u++v=s∧∀e∈v,aP x<aP e)
  (fun (u,v)=>⟨sl [(0,.ref q),(1,.i pre.length),(2,.i (pre.length+mid.length:Nat)),(3,cU),(8,.i (pre.length+k:Nat)),(9,.i (pre.length+u.length:Nat))],aB σ q (.arr 11 (Fl u v)),nx⟩) (fun (u,v)=>u.length) (s,[]) ⟨List.append_nil _,fun e he=>by cases he⟩ (aH.slots (by simp [go_sem,hsl]) (by simp [hFl]) rfl) ?_
 rintro ⟨u,v⟩ ⟨i1,i2⟩;have leave:(∀e∈u,aP e≤aP x)→aU aP (mid.take (k+1))=u++x :: v:=fun hu=>by rw [htk,←i1,aCN hu i2]
 have hul:u.length≤k:=by rw [←hsl,←i1,List.length_append];omega
 rcases List.eq_nil_or_concat u with rfl | ⟨u',y,rfl⟩
 ·have hlv:=leave (fun e he=>by cases he);refine aD ?_;simp [go_sem];refine bK [] rfl (by rw [hB];kernel_rfl) ?_;refine aD ?_;simp [go_sem,hii];exact Next.mk (k+1) ⟨by omega,by omega⟩ (aH.slots (by simp [go_sem]) (by rw [hlv];simp [hFl]) rfl) (by omega)
 ·rw [List.concat_eq_append] at *;have hyK:KR y:=hsK y (by rw [←i1];simp);have hLy:=hyK.len;have hul':u'.length+1≤k:=by simpa using hul
  have hS:Fl (u'++[y]) v=(pre++u')++y :: x :: (v++(mid.drop (k+1)++post)):=by simp [hFl]
  have hS':Fl u' (y :: v)=(pre++u')++x :: y :: (v++(mid.drop (k+1)++post)):=by simp [hFl]
  have htwo:=aFH (X:=pre++u') (Y:=[]) (Z:=v++(mid.drop (k+1)++post)) hLy hLx;have hset:=aDE (pre++u') (v++(mid.drop (k+1)++post)) y x;simp only [List.nil_append,List.length_nil,Nat.add_zero] at htwo;rw [←hS] at htwo hset;rw [←hS'] at hset;obtain ⟨a,ha⟩:∃a,a=(pre++u').length:=⟨_,rfl⟩;have ha2:a=pre.length+u'.length:=by rw [ha,List.length_append]
  rw [←ha] at htwo hset;obtain ⟨b,hb⟩:∃b,b=a+1:=⟨_,rfl⟩;rw [←hb] at htwo hset;obtain ⟨t1,t2,t3,t4,t5,t6⟩:=htwo;have hne:¬a=b:=by omega
  have hne':¬b=a:=by omega
  have d1:a*11 / 11=a:=by omega
  have d2:a*11 % 11=0:=by omega
  have d3:b*11 / 11=b:=by omega
  have d4:b*11 % 11=0:=by omega
  have k1:=kO t5;have k2:=kO t6;have k3:cW x 0 y=y:=qC (by omega);have k4:cW y 0 x=x:=qC (by omega);have w3:IntKind.i64.wrap ((b:Int)-1)=(a:Int):=by rw [aO _ (by omega)];omega
  have w4:(pre.length:Int)+(u'.length+1)=(b:Int):=by omega
  have hcm:=yI x y hKx hyK;have hneg:=uQ (aP x) (aP y);refine aD ?_;simp [go_sem];generalize hSS:Fl (u'++[y]) v=S at *;refine bK [] rfl (by rw [hB];kernel_rfl) ?_;refine aD ?_;simp [go_sem,t1,t2,t3,t4,d1,d2,d3,d4,t5,t6,k1,k2,w3,w4,show pre.length<b by omega,show (pre.length:Int)<(b:Int) by omega];refine bQ rfl rfl rfl (args:=[.agg (x.map .t),.agg (y.map .t)]) (f:=226) (by simp [go_sem]) (hcm) ?_;by_cases c1:aP x<aP y
  ·refine aD ?_;simp [go_sem,hneg,c1];refine cT [15,17] [2,3,4] rfl (by rw [hB];kernel_rfl) (by kernel_rfl) fun ht hf'=>?_
   refine aD ?_;simp [go_sem,ht,hf',t1,t2,t3,t4,d1,d2,d3,d4,t5,t6,k1,k2,k3,k4,wG,hne,hne',w3,w4];refine Next.mk (u',y :: v) ⟨by rw [←i1];simp,fun e he=>?_⟩ (aH.slots (by simp [go_sem,ha2]) ?_ rfl) (by simp)
   ·rcases List.mem_cons.1 he with rfl | he
    ·exact c1
    ·exact i2 e he
   ·rw [←hset];funext j;by_cases e:j=q<;>simp [aB,e]
  ·have hlv:=leave fun e he=>by
    have hyx:aP y≤aP x:=by omega
    rcases List.mem_append.1 he with he | he
    ·rw [←i1,dF,List.pairwise_append,List.pairwise_append] at hss;have:=hss.1.2.2 e he y (by simp);omega
    ·rw [List.mem_singleton.1 he];exact hyx
   refine aD ?_;simp [go_sem,hneg,c1,hii];refine Next.mk (k+1) ⟨by omega,by omega⟩ (aH.slots (by simp [go_sem]) ?_ rfl) (by omega);rw [←hSS,hFl,hlv];simp
def aA.row (x:aA) (a:aR):List Int:=x.stops.map (bL a)
def aA.mat (x:aA):List (List Int):=if x.may then x.stops.map x.row else []
abbrev aA.cs (x:aA):List AV:=[.t (.i x.pairs),.t (.i x.cars),.t (.i x.room),.t (.sl (x.stops.map aR.t))]
theorem aJ6 (l:List Int) (n:Int):aJ l++[[.i n]]=aJ (l++[n]):=by simp [aJ]
def aA.rows (x:aA):List (List T):=x.stops.map fun a=>aY (x.row a)
theorem aA.rows_len (x:aA):x.rows.length=x.stops.length:=List.length_map _
theorem aA.row_len (x:aA) (a:aR):(x.row a).length=x.stops.length:=List.length_map _
theorem aA.rows_snoc (x:aA) {k:Nat} (h:k<x.stops.length):x.rows.take (k+1)=x.rows.take k++[aY (x.row x.stops[k])]:=by rw [List.take_succ_eq_append_getElem (by rw [x.rows_len];exact h)];simp [aA.rows]
theorem aA.row_snoc (x:aA) (a:aR) {i:Nat} (h:i<x.stops.length):(x.row a).take (i+1)=(x.row a).take i++[bL a x.stops[i]]:=by rw [List.take_succ_eq_append_getElem (by rw [x.row_len];exact h)];simp [aA.row]
theorem aA.mat_rows (x:aA):x.mat.map aY=if x.may then x.rows else []:=by
 unfold aA.mat;split
 ·simp [aA.rows]
 ·rfl
theorem aX0 (x:aA) (hl:x.stops.length<2^31):Pure P 221 [x.a] (.t (.sl (x.mat.map aY))):=by
 rw [x.mat_rows];refine aW Tryz.func221 rfl rfl (by simp [Tryz.f221]) (by simp [aE,aE.bndL,aA.a]) (by split<;>simp [aE]) fun B hB hnx=>?_
 simp only [Tryz.f221] at hB ⊢;have hm:bH=4294967296:=rfl;refine aI ?_;simp [go_sem,aA.a];refine aL rfl rfl rfl (args:=[x.a]) (f:=44) (by simp [go_sem,aA.a]) (by simp [go_sem,hB]) ((lP x (by omega)).spec _ _) ?_;by_cases h0:x.may=true
 rotate_left
 ·have h0':x.may=false:=by simpa using h0
  rw [h0'];refine aI ?_;simp [go_sem,h0']
 rw [h0];refine aI ?_;simp [go_sem];refine jC 3 1 (by simp [go_sem]) ?_
 refine bA (α:=Nat×Nat×(Nat→aG)×Nat) (fun (k,j,σ,nx)=>k≤x.stops.length∧σ 0= .box x.cs∧σ j= .arr 1 (x.rows.take k)∧0<j∧j<nx)
  (fun (k,j,σ,nx)=>⟨sl [(1,.ptr 0 0),(3,.ref j),(13,.t (.sl (x.stops.map aR.t))),(14,.i x.stops.length),(15,.i k)],σ,nx⟩) (fun y=>x.stops.length-y.1) (0,1,_,2)
  ?_ (aH.slots (by simp [go_sem]) rfl rfl) ?_
 ·exact ⟨Nat.zero_le _,by simp [aB],by simp [aB],by omega,by omega⟩
 rintro ⟨k,j,σ,nx⟩ ⟨g1,c0,cj,gj,gn⟩;refine aI ?_;simp [go_sem];refine bU (fun h=>?_) (fun h=>?_)
 rotate_left
 ·have:k=x.stops.length:=by omega
  subst this;rw [←x.rows_len,List.take_length] at cj;simp [go_sem,cj,h0]
 have htk:=x.rows_snoc h;have hrl:=x.rows_len;have hkk:IntKind.i64.wrap ((k:Int)+1)=((k+1:Nat):Int):=by rw [aO ((k:Int)+1) (by omega)];rfl
 generalize ha:x.stops[k]=a at *;have hn0:¬0=nx:=by omega
 simp [go_sem,h,ha,aR.t,c0,hn0];refine jC 6 1 (by simp [go_sem]) ?_
 refine bA (α:=Nat×Nat×(Nat→aG)×Nat) (fun (i,q,σ',nx')=>i≤x.stops.length∧σ' 0= .box x.cs∧σ' j= .arr 1 (x.rows.take k)∧σ' nx= .box (a.t.map .t)∧σ' q= .arr 1 (aJ ((x.row a).take i))∧nx<q∧q<nx')
  (fun (i,q,σ',nx')=>⟨sl [(1,.ptr 0 0),(3,.ref j),(13,.t (.sl (x.stops.map aR.t))),(14,.i x.stops.length),(15,.i k),(5,.ptr nx 0),(6,.ref q),(20,.t (.sl (x.stops.map aR.t))),(21,.i x.stops.length),(22,.i i)],σ',nx'⟩) (fun y=>x.stops.length-y.1) (0,nx+1,_,nx+2)
  ?_ (aH.slots (by simp [go_sem]) rfl rfl) ?_
 ·exact ⟨Nat.zero_le _,by simp [aB,c0,hn0],by simp [aB,cj,show j≠nx by omega,show j≠nx+1 by omega],by simp [aB,aR.t],by simp [aB,aJ],by omega,by omega⟩
 rintro ⟨i,q,σ',nx'⟩ ⟨i1,d0,dj,da,dq,i2,i3⟩;refine aI ?_;simp [go_sem];refine bU (fun hi=>?_) (fun hi=>?_)
 ·have hti:=x.row_snoc a hi;have hrl2:=x.row_len a;have hii:IntKind.i64.wrap ((i:Int)+1)=((i+1:Nat):Int):=by rw [aO ((i:Int)+1) (by omega)];rfl
  have hlen:(aJ ((x.row a).take i)).length=i:=by simp only [aJ,List.length_map,List.length_take];omega
  generalize hb:x.stops[i]=b at *;generalize (x.row a).take i=L at dq hlen hti;simp [go_sem,hi,hb,aR.t,da,show ¬nx=nx' by omega];refine aL rfl rfl rfl (args:=[.agg (a.t.map .t),.agg (b.t.map .t)]) (f:=237) (by simp [go_sem,aR.t]) (by simp [go_sem,hB]) ((aB9 a b).spec _ _) ?_;have hcap:i+1≤bH:=by omega
  refine aI ?_;simp [go_sem,dq,show ¬q=nx' by omega,hlen,hcap,hii];refine Next.mk (i+1,nx'+1,_,nx'+2) ?_ (aH.slots (by simp [go_sem]) rfl rfl) (by simp only;omega);refine ⟨by simp only;omega,?_,?_,?_,?_,by simp only;omega,by simp only;omega⟩
  ·simp [aB,d0,show ¬0=nx' by omega,show ¬0=q by omega]
  ·simp [aB,dj,show ¬j=nx' by omega,show ¬j=q by omega,show ¬j=nx'+1 by omega]
  ·simp [aB,da,show ¬nx=nx' by omega,show ¬nx=q by omega,show ¬nx=nx'+1 by omega,aR.t]
  ·simp [aB,hti,aJ6]
 ·have:i=x.stops.length:=by omega
  subst this;rw [←x.row_len a,List.take_length] at dq;simp [go_sem];refine iB (aH.freeze (q:=q) (sz:=1) (es:=aJ (x.row a)) (by simp [go_sem,dq])) ?_;have hj0:¬j=q:=by omega
  have hlen:(x.rows.take k).length=k:=by rw [List.length_take];omega
  generalize x.rows.take k=R at dj hlen htk;have hcap:k+1≤bH:=by omega
  refine aI ?_;simp [go_sem,bB,dC,hj0,dj,hkk,hlen,hcap];refine Next.mk (k+1,nx',_,nx'+1) ?_ (aH.slots (by simp [go_sem,bB]) rfl rfl) (by simp only;omega);refine ⟨by simp only;omega,?_,?_,by simp only;omega,by simp only;omega⟩
  ·simp [aB,d0,dC,bB.frzL,bB,show ¬0=nx' by omega,show ¬0=j by omega,show ¬0=q by omega]
  ·simp [aB,htk,aY]
def bF:Int:=1152921504606846976
theorem aIM (a b:aR):0≤bL a b∧bL a b<bF:=by
 have h:=zZ a b;unfold bL qB bF;split
 ·omega
 ·have:=zN (min (sq a b) 1152921504606846976).toNat 31 0;simp only [Nat.reducePow,Nat.zero_add] at this;omega
def kI (k:Nat) (b:aR):Nat→List aR→Int→Int
 |_,[],v=>v
 |i,a :: l,v=>kI k b (i+1) l (if i=k then v else min v (bL a b))
def aA.nearK (x:aA) (k:Nat) (b:aR):Int:=(kI k b 0 x.stops bF).tmod bF
def kJ (x:aA):Nat→List aR→List Int
 |_,[]=>[]
 |k,b :: l=>x.nearK k b :: kJ x (k+1) l
def aA.near (x:aA):List Int:=if x.may then kJ x 0 x.stops else []
theorem pR (x:aA):∀k l,(kJ x k l).length=l.length
 |_,[]=>rfl
 |k,b :: l=>by rw [kJ,List.length_cons,pR x (k+1) l,List.length_cons]
theorem aDF (x:aA):∀(k:Nat) (l:List aR) (i:Nat) (h:i<l.length),(kJ x k l)[i]'(by rw [pR];exact h)=x.nearK (k+i) l[i]
 |k,b :: l,0,h=>rfl
 |k,b :: l,i+1,h=>by have:=aDF x (k+1) l i (by simpa using h);simp only [kJ,List.getElem_cons_succ];rw [this,show k+1+i=k+(i+1) by omega]
theorem aYN (x:aA) {k:Nat} (h:k<x.stops.length):(kJ x 0 x.stops).take (k+1)=(kJ x 0 x.stops).take k++[x.nearK k x.stops[k]]:=by rw [List.take_succ_eq_append_getElem (by rw [pR];exact h),aDF x 0 x.stops k h,Nat.zero_add]
theorem aYF {k:Nat} {b:aR} {l:List aR} {i:Nat} {v:Int} (h:i<l.length):kI k b i (l.drop i) v=kI k b (i+1) (l.drop (i+1)) (if i=k then v else min v (bL l[i] b)):=by rw [List.drop_eq_getElem_cons h];rfl
theorem bBW (x:aA) {i:Nat} (h:i<x.rows.length):x.rows[i]=aY (x.row (x.stops[i]'(by rw [x.rows_len] at h;exact h))):=by simp [aA.rows]
theorem bBS (x:aA) (a:aR) {i:Nat} (h:i<(x.row a).length):(x.row a)[i]=bL a (x.stops[i]'(by rw [x.row_len] at h;exact h)):=by simp [aA.row]
theorem aWF (l:List Int) {i:Nat} (h:i<(aJ l).length):(aJ l)[i]=[.i (l[i]'(by simpa [aJ] using h))]:=by simp [aJ]
theorem aJ5 (l:List Int):(aJ l).length=l.length:=List.length_map _
theorem aYJ (x:aA) (hl:x.stops.length<2^31):Pure P 181 [x.a] (.t (.sl (aJ x.near))):=by
 have hinf:bF=1152921504606846976:=rfl;refine aW Tryz.func181 rfl rfl (by simp [Tryz.f181]) (by simp [aE,aE.bndL,aA.a]) (by simp [aE]) fun B hB hnx=>?_
 simp only [Tryz.f181] at hB ⊢;have hm:bH=4294967296:=rfl;refine aI ?_;simp [go_sem,aA.a];refine aL rfl rfl rfl (args:=[x.a]) (f:=221) (by simp [go_sem,aA.a]) (by simp [go_sem,hB]) ((aX0 x hl).spec _ _) ?_;rw [x.mat_rows];by_cases h0:x.may=true
 rotate_left
 ·have h0':x.may=false:=by simpa using h0
  simp only [h0',Bool.false_eq_true,if_false];refine aI ?_;simp [go_sem];refine jC 4 1 (by simp [go_sem]) ?_;refine bA (α:=Unit) (fun _=>True) (fun _=>⟨sl [(4,.ref 1),(11,.i 0),(12,.i 0)],ob [(1,.arr 1 [])],2⟩) (fun _=>0) () trivial (eT.of (by omega) (by simp) (by simp [go_sem]) (by simp [go_sem])) ?_;rintro ⟨⟩ _;refine aI ?_;simp [go_sem,aA.near,h0',aJ]
 simp only [h0,if_true];have hrl:=x.rows_len;refine aI ?_;simp [go_sem,hrl];refine jC 4 1 (by simp [go_sem]) ?_
 refine bA (α:=Nat×Nat×(Nat→aG)×Nat) (fun (k,j,σ,nx)=>k≤x.stops.length∧σ j= .arr 1 (aJ ((kJ x 0 x.stops).take k))∧j<nx)
  (fun (k,j,σ,nx)=>⟨sl [(3,.t (.sl x.rows)),(4,.ref j),(11,.i x.stops.length),(12,.i k)],σ,nx⟩) (fun y=>x.stops.length-y.1) (0,1,_,2)
  ?_ (aH.slots (by simp [go_sem]) rfl rfl) ?_
 ·exact ⟨Nat.zero_le _,by simp [aB,aJ],by omega⟩
 rintro ⟨k,j,σ,nx⟩ ⟨g1,cj,gn⟩;refine aI ?_;simp [go_sem];refine bU (fun h=>?_) (fun h=>?_)
 rotate_left
 ·have:k=x.stops.length:=by omega
  subst this;rw [←pR x 0 x.stops,List.take_length] at cj;simp [go_sem,cj,aA.near,h0]
 have htk:=aYN x h;have hlen:(aJ ((kJ x 0 x.stops).take k)).length=k:=by rw [aJ5,List.length_take,pR];omega
 have hkk:IntKind.i64.wrap ((k:Int)+1)=((k+1:Nat):Int):=by rw [aO ((k:Int)+1) (by omega)];rfl
 generalize (kJ x 0 x.stops).take k=R at cj hlen htk;generalize hb:x.stops[k]=b at *;simp [go_sem,hrl]
 refine bA (α:=Nat×Int) (fun (i,v)=>i≤x.stops.length∧(0≤v∧v≤bF)∧(kI k b i (x.stops.drop i) v).tmod bF=x.nearK k b)
  (fun (i,v)=>⟨sl [(3,.t (.sl x.rows)),(4,.ref j),(11,.i x.stops.length),(12,.i k),(5,.i k),(6,.i v),(16,.i x.stops.length),(17,.i i)],σ,nx⟩) (fun y=>x.stops.length-y.1) (0,bF)
  ⟨Nat.zero_le _,by omega,rfl⟩ (aH.slots (by simp [go_sem,hinf]) rfl rfl) ?_
 rintro ⟨i,v⟩ ⟨i1,i2,i3⟩;refine aI ?_;simp [go_sem];refine bU (fun hi=>?_) (fun hi=>?_)
 ·have hii:IntKind.i64.wrap ((i:Int)+1)=((i+1:Nat):Int):=by rw [aO ((i:Int)+1) (by omega)];rfl
  have hfa:=aIM x.stops[i] b;have hrow:=x.row_len x.stops[i];rw [aYF hi] at i3;by_cases hik:i=k
  ·rw [if_pos hik] at i3;simp [go_sem,hik,aO ((k:Int)+1) (by omega)];exact Next.mk (k+1,v) ⟨by simp only;omega,i2,by rw [hik] at i3;exact i3⟩ (aH.slots (by simp [go_sem]) rfl rfl) (by simp only;omega)
  ·rw [if_neg hik] at i3;simp [go_sem,hik,hi,h,hrl,bBW,aY,aWF,aJ5,hrow,bBS,hb,hii];exact Next.mk (i+1,min v (bL x.stops[i] b)) ⟨by simp only;omega,by omega,i3⟩ (aH.slots (by simp [go_sem]) rfl rfl) (by simp only;omega)
 ·have:i=x.stops.length:=by omega
  subst this;rw [List.drop_length] at i3;have i4:v.tmod bF=x.nearK k b:=i3;have hcap:k+1≤bH:=by omega
  rw [hinf] at i4;have hw:IntKind.i64.wrap (x.nearK k b)=x.nearK k b:=by refine aO _ ?_;rw [←i4,Int.tmod_eq_emod_of_nonneg i2.1];omega
  simp [go_sem,i4,hw,cj,hlen,hcap,hkk];refine Next.mk (k+1,nx,_,nx+1) ?_ (aH.slots (by simp [go_sem]) rfl rfl) (by simp only;omega);exact ⟨by simp only;omega,by simp [aB,htk,aJ6],by simp only;omega⟩
def mR (may:Nat):Nat→List Int→Int→Int
 |_,[],n=>n
 |j,d :: l,n=>mR may (j+1) l (if 0<j∧cI may j=false then IntKind.i64.wrap (n+d) else n)
theorem aW3 (near:List Int) (may:Nat) (σ:Nat→aG) (nx:Nat):bN P 182 [.t (.sl (aJ near)),.u may] σ nx fun r σ' nx'=>r= .fn (.func 222) [] [.ptr nx 0,.ptr (nx+1) 0]∧nx'=nx+2∧
  σ'=aB (aB σ nx (.box [.t (.sl (aJ near))])) (nx+1) (.box [.u may]):=by
 refine cA Tryz.func182 rfl rfl (by simp [Tryz.f182]) fun B hB hnx hσ=>?_
 simp only [Tryz.f182] at hB ⊢;refine aD ?_;simp [go_sem];omega
theorem aW2 (near:List Int) (may:Nat) (hm:may<2^64) (hl:near.length<2^63) (q b1 b2 nx:Nat) (st:Int→Nat→aG) (h1:∀n,st n b1= .box [.t (.sl (aJ near))]) (h2:∀n,st n b2= .box [.u may])
  (hy:∀(j d n:Int),rZ P q [.i j,.i d] (st n) nx fun σ' nx'=>σ'=st (IntKind.i64.wrap (n+d))∧nx'=nx) (n0:Int):
  bN P 222 [.yld q,.ptr b1 0,.ptr b2 0] (st n0) nx fun r σ' nx'=>σ'=st (mR may 0 near n0)∧nx'=nx:=by
 refine cA Tryz.func222 rfl rfl (by simp [Tryz.f222]) fun B hB hnx hσ=>?_
 simp only [Tryz.f222] at hB ⊢;have hil:(aJ near).length=near.length:=List.length_map _;refine aD ?_;simp [go_sem,h1,hil];refine bA (α:=Nat×Int) (fun (k,n)=>k≤near.length∧mR may k (near.drop k) n=mR may 0 near n0) (fun (k,n)=>⟨sl [(0,.yld q),(1,.ptr b1 0),(2,.ptr b2 0),(6,.t (.sl (aJ near))),(7,.i near.length),(8,.i k)],st n,nx⟩) (fun a=>near.length-a.1) (0,n0) ⟨Nat.zero_le _,rfl⟩ (aH.slots (by simp [go_sem]) rfl rfl) ?_;rintro ⟨k,n⟩ ⟨g1,g2⟩;refine aI ?_;simp [go_sem];refine bU (fun hk=>?_) (fun hk=>?_)
 ·have hkk:IntKind.i64.wrap ((k:Int)+1)=((k+1:Nat):Int):=by rw [aO ((k:Int)+1) (by omega)];rfl
  rw [List.drop_eq_getElem_cons hk,mR] at g2;have hget:=gH near hk;generalize near[k]=d at *;by_cases c1:0<k
  ·simp [go_sem,hil,hk,hget,c1,h2];refine aL rfl rfl rfl (args:=[.u may,.i k]) (f:=223) (by simp [go_sem]) (by simp [go_sem,hB]) ((u9 may k hm).spec _ _) ?_;cases c2:cI may k with
   |true=>rw [if_neg (by simp [c2])] at g2;refine aD ?_;simp [go_sem,hkk];exact Next.mk (k+1,n) ⟨by simp only;omega,g2⟩ (aH.slots (by simp [go_sem]) rfl rfl) (by simp only;omega)
   |false=>rw [if_pos ⟨c1,c2⟩] at g2;refine aD ?_;simp [go_sem];refine aQV rfl rfl rfl (q:=q) (args:=[.i k,.i d]) (by simp [go_sem]) (by simp [go_sem]) (by simp [go_sem,hB]) (hy k d n) ?_;rintro σ' nx' ⟨rfl,rfl⟩;refine aD ?_;simp [go_sem,hkk];exact Next.mk (k+1,IntKind.i64.wrap (n+d)) ⟨by simp only;omega,g2⟩ (aH.slots (by simp [go_sem]) rfl rfl) (by simp only;omega)
  ·rw [if_neg (by simp [c1])] at g2;simp [go_sem,hil,hk,hget,c1,h2,hkk];exact Next.mk (k+1,n) ⟨by simp only;omega,g2⟩ (aH.slots (by simp [go_sem]) rfl rfl) (by simp only;omega)
 ·have:k=near.length:=by omega
  subst this;rw [List.drop_length,mR] at g2;simp [go_sem,g2,hnx]
def uJ (near:List Int) (may:Nat):Int:=match near with
 |a :: b :: l=>mR may 0 (a :: b :: l) a
 |_=>0
def aA.low (x:aA) (s:aF):Int:=uJ x.near s.can
theorem aLV (x:aA):x.near.length≤x.stops.length:=by
 unfold aA.near;split
 ·rw [pR];exact Nat.le_refl _
 ·exact Nat.zero_le _
theorem aGV (x:aA) (s:aF) (hl:x.stops.length<2^31) (ho:s.ok):Pure P 135 [x.a,s.a] (.i (x.low s)):=by
 generalize hR:x.low s=R;refine aM2 Tryz.func135 rfl rfl (by simp [Tryz.f135]) (by simp [aE,aE.bndL,aA.a,aF.a,aF.cs]) (by simp [aE,aE.bndL]) fun B hB hnx hro=>?_
 simp only [Tryz.f135] at hB ⊢;rw [aA.low] at hR;have hnl:=aLV x;have hne:=aYJ x hl;generalize x.near=near at *;refine aD ?_;simp [go_sem,aA.a,aF.a,aF.cs];refine aL rfl rfl rfl (args:=[x.a]) (f:=181) (by simp [go_sem,aA.a]) (by simp [go_sem,hB]) ((hne).spec _ _) ?_
 match near,hR,hnl with
 |[],hR,_=>simp only [uJ] at hR;subst hR;refine aD ?_;simp [go_sem,aJ]
 |[_],hR,_=>simp only [uJ] at hR;subst hR;refine aD ?_;simp [go_sem,aJ]
 |d0 :: d1 :: l,hR,hnl=>
  simp only [uJ] at hR;have hil:(aJ (d0 :: d1 :: l)).length=l.length+2:=by simp [aJ]
  have hgt:¬(l.length:Int)+2<2:=by omega
  have hgt':¬((l.length+2:Nat):Int)<2:=by omega
  have hget:∀h:0<(aJ (d0 :: d1 :: l)).length,(aJ (d0 :: d1 :: l))[0]'h=[.i d0]:=fun h=>by simp [aJ]
  have hll:l.length+2<2^63:=by simp only [List.length_cons] at hnl;omega
  have hle:=aW3 (d0 :: d1 :: l) s.can;have hl1:=aW2 (d0 :: d1 :: l) s.can ho.can (by simpa using hll) 5 3 4 6;have hpos:(0:Int)<l.length+2:=by omega
  generalize hX:aJ (d0 :: d1 :: l)=X at *;generalize hN:mR s.can 0 (d0 :: d1 :: l)=N at *;refine aD ?_;simp [go_sem,hil,hgt,hgt',hget,hpos];refine dX rfl rfl rfl (args:=[.t (.sl X),.u s.can]) (f:=182) (by simp [go_sem]) (by simp [go_sem,hB]) (hle _ _) ?_;rintro r σ' nx' ⟨rfl,rfl,rfl⟩;refine aD ?_;simp [go_sem];refine jB (eT.of (l:=[(6,.ptr 2 0),(20,.fn (.func 222) [] [.ptr 3 0,.ptr 4 0])]) (o:=[(2,.box [.i d0]),(3,.box [.t (.sl X)]),(4,.box [.u s.can])]) (n:=5) (by omega) (by simp) (by simp [go_sem]) (by simp [go_sem])) ?_;refine aGC hro (f:=222) (args:=[.yld 5,.ptr 3 0,.ptr 4 0]) (by simp [go_sem]) fun L hL=>?_
  obtain ⟨st,hst⟩:∃st:Int→Nat→aG,st=fun n=>aB (aB (ob [(3,.box [.t (.sl X)]),(4,.box [.u s.can])]) 5 L) 2 (.box [.i n]):=⟨_,rfl⟩
  have e':aB (ob [(2,.box [.i d0]),(3,.box [.t (.sl X)]),(4,.box [.u s.can])]) 5 L=st d0:=funext fun i=>by
   by_cases e2:i=2
   ·subst e2;simp [hst,aB,ob]
   ·simp [hst,aB,ob,e2]
  have s2:∀n,st n 2= .box [.i n]:=fun n=>by simp [hst,aB]
  have s5:∀n,st n 5=L:=fun n=>by simp [hst,aB]
  have su:∀n m L',aB (aB (aB (st n) 5 L') 2 (.box [.i m])) 5 L=st m:=fun n m L'=>funext fun i=>by
   by_cases e2:i=2
   ·subst e2;simp [hst,aB]
   ·by_cases e5:i=5
    ·subst e5;simp [hst,aB]
    ·simp [hst,aB,e2,e5]
  have hsp:=hl1 st (fun n=>by simp [hst,aB,ob]) (fun n=>by simp [hst,aB,ob]) (fun j d n=>by
   refine aFU ((s5 n).trans hL) rfl (by rw [hB];rfl) fun B' hB' hnx' _=>?_
   replace hB':=hB'.trans hB
   refine bG hB' 60 ?_
   simp [go_sem,tM,oO,(s5 n).trans hL]
   refine bG hB' 60 ?_
   simp [go_sem,tM,oO,hB,aB,s2,←hL]
   rw [hB] at hL
   subst hL
   exact su _ _ _) d0
  refine ⟨_,by rw [e'];exact hsp,?_⟩;rintro r σ' nx' ⟨rfl,rfl⟩;refine ⟨s5 _,?_⟩;refine aD ?_;simp [go_sem,aB,s2,hR]
def aA.rvisit (x:aA) (s:aF) (j b:Int):aF:=
 {spot:=j,car:=s.car,time:=b+(x.stop j).service,load:=max (s.load+(x.stop j).demand) 0,first:=if s.spot=0 then j else s.first,must:=cL s.must j,can:=cL s.can j,on:=if j≤x.pairs then cL s.on j else i9 s.on (j-x.pairs)}
theorem aFD {x:aA} {s:aF} {j:Int} (h0:j≠0) (hl:x.lateB s j=false) (hf:j≤x.pairs→x.fullB s j=false) (he:x.pairs<j→x.emptyB s j=false):x.to s j=(x.rvisit s j (x.begins s j),true):=by
 unfold aA.to;rw [if_neg h0];by_cases c:j≤x.pairs
 ·rw [if_pos c];simp [aA.take,hf c,aA.visit,hl,aA.seen,aA.rvisit,c]
 ·rw [if_neg c];simp [aA.bring,he (by omega),aA.visit,hl,aA.seen,aA.rvisit,c]
theorem aFC {x:aA} {s:aF} {j:Int} (h0:j≠0) (h:x.lateB s j=true∨(j≤x.pairs∧x.fullB s j=true)∨(x.pairs<j∧x.emptyB s j=true)):(x.to s j).2=false:=by
 unfold aA.to;rw [if_neg h0];rcases h with h | ⟨h1,h2⟩ | ⟨h1,h2⟩
 ·split
  ·unfold aA.take aA.visit;split
   ·rfl
   ·simp [h]
  ·unfold aA.bring aA.visit;split
   ·rfl
   ·simp [h]
 ·rw [if_pos h1];simp [aA.take,h2]
 ·rw [if_neg (by omega)];simp [aA.bring,h2]
theorem aHF:∀k,iE (fun _=>false) k=[]
 |0=>rfl
 |k+1=>by rw [iE,aHF k];rfl
theorem rE (x:aA) (s:aF):x.moves s=iE (fun k=>(x.move s k).2.2) x.stops.length:=by
 unfold aA.moves;split
 ·rename_i h;congr 1;funext k;rw [aA.move,if_pos h]
 ·rename_i h;have:(fun k:Nat=>(x.move s (k:Int)).2.2)=fun _=>false:=by funext k;rw [aA.move,if_neg h]
  rw [this,aHF]
def aA.of (x:aA) (n:aC):Int:=dL [n.cost,x.low n.s]
theorem aDM (x:aA) (n:aC) (hl:x.stops.length<2^31) (ho:n.s.ok):Pure P 84 [x.a,n.a] (.i (x.of n)):=by
 have ha:=aGV x n.s hl ho;have hs:=tQ [n.cost,x.low n.s] (by simp);rw [aA.of];generalize x.low n.s=d at *;refine aW Tryz.func84 rfl rfl (by simp [Tryz.f84]) (by simp [aE,aE.bndL,aA.a,aC.a,aC.cs]) (by simp [aE,aE.bndL]) fun B hB hnx=>?_
 simp only [Tryz.f84] at hB ⊢;refine aD ?_;simp [go_sem,aA.a,aC.a,aC.cs];refine bK [] rfl (by rw [hB];kernel_rfl) ?_;refine aD ?_;simp [go_sem];refine bQ rfl rfl rfl (args:=[x.a,n.s.a]) (f:=135) (by simp [go_sem,aA.a,aF.a,aF.cs]) (ha) ?_;refine aD ?_;simp [go_sem];refine bQ rfl rfl rfl (args:=[.fsl (aJ [n.cost,d])]) (f:=134) (by simp [go_sem,aJ]) (Pure.loose hs (by simp [aE])) ?_;refine aD ?_;simp [go_sem]
theorem nI (a b:aR):0≤bL a b∧bL a b≤14143:=by
 obtain ⟨h1,h2⟩:=zZ a b;refine ⟨(aIM a b).1,?_⟩;unfold bL qB;split
 ·omega
 ·rename_i hp;have e:(min (sq a b) 1152921504606846976).toNat=(sq a b).toNat:=by omega
  rw [e];obtain ⟨g1,_⟩:=aEI (sq a b).toNat 31 0 (by omega) (by simp;omega);generalize hT (sq a b).toNat 31 0=r at *
  have:r≤14142:=by
   rcases Nat.lt_or_ge 14142 r with h | h
   ·have:=Nat.mul_le_mul (show 14143≤r from h) (show 14143≤r from h);omega
   ·exact h
  omega
theorem aDC (k:Nat) (b:aR):∀(i:Nat) (l:List aR) (v:Int),(0≤v∧v≤14143)∨v=bF→(0≤kI k b i l v∧kI k b i l v≤14143)∨kI k b i l v=bF
 |_,[],v,h=>h
 |i,a :: l,v,h=>by
  rw [kI];refine aDC k b (i+1) l _ ?_;have:=nI a b;have hinf:bF=1152921504606846976:=rfl;split
  ·exact h
  ·omega
theorem aYH (x:aA) (k:Nat) (b:aR):0≤x.nearK k b∧x.nearK k b≤14143:=by
 unfold aA.nearK;have hinf:bF=1152921504606846976:=rfl;rcases aDC k b 0 x.stops bF (.inr rfl) with h | h
 ·rw [Int.tmod_eq_of_lt h.1 (by omega)];exact h
 ·rw [h,hinf];decide
theorem aLY (x:aA):∀(k:Nat) (l:List aR),∀d∈kJ x k l,0≤d∧d≤14143
 |_,[],d,h=>by cases h
 |k,b :: l,d,h=>by
  rw [kJ] at h;rcases List.mem_cons.1 h with e | e
  ·rw [e];exact aYH x k b
  ·exact aLY x (k+1) l d e
theorem aDD (x:aA):∀d∈x.near,0≤d∧d≤14143:=by
 unfold aA.near;split
 ·exact aLY x 0 x.stops
 ·intro d h;cases h
def fX (may:Nat):Nat→List Int→Int
 |_,[]=>0
 |j,d :: l=>(if 0<j∧cI may j=false then d else 0)+fX may (j+1) l
theorem aKT (may:Nat):∀(j:Nat) (l:List Int),(∀d∈l,0≤d∧d≤14143)→0≤fX may j l∧fX may j l≤14143*l.length
 |_,[],_=>by simp [fX]
 |j,d :: l,h=>by
  have h1:=h d List.mem_cons_self;have h2:=aKT may (j+1) l fun e he=>h e (List.mem_cons_of_mem _ he)
  rw [fX,List.length_cons];split<;>omega
theorem aCT (may:Nat):∀(j:Nat) (l:List Int) (n:Int),(∀d∈l,0≤d∧d≤14143)→0≤n→n+14143*l.length<9223372036854775808→mR may j l n=n+fX may j l
 |_,[],n,_,_,_=>by simp [mR,fX]
 |j,d :: l,n,h,h0,hn=>by
  have h1:=h d List.mem_cons_self;rw [List.length_cons] at hn;rw [mR,fX];split
  ·rw [aO (n+d) (by omega),aCT may (j+1) l (n+d) (fun e he=>h e (List.mem_cons_of_mem _ he)) (by omega) (by omega)];omega
  ·rw [aCT may (j+1) l n (fun e he=>h e (List.mem_cons_of_mem _ he)) h0 (by omega)];omega
def jI (near:List Int) (may:Nat):Int:=match near with
 |a :: b :: l=>a+fX may 0 (a :: b :: l)
 |_=>0
theorem aXR (x:aA) (s:aF) (hl:x.stops.length<2^31):x.low s=jI x.near s.can:=by
 unfold aA.low;have h1:=aDD x;have h2:=aLV x;generalize x.near=near at *
 match near with
 |[]=>rfl
 |[_]=>rfl
 |a :: b :: l=>simp only [uJ,jI];have ha:=h1 a List.mem_cons_self;refine aCT _ _ _ _ h1 ha.1 ?_;simp only [List.length_cons] at h2 ⊢;omega
theorem aPN {a b:Nat} (h:dE b a=true) (j:Int):cI b j=true→cI a j=true:=by unfold cI;simp only [Bool.and_eq_true,decide_eq_true_eq];rintro ⟨h1,h2⟩;refine ⟨h1,?_⟩;have:=List.all_eq_true.1 h j.toNat (List.mem_range.2 (by omega));rw [h2] at this;simpa using this
def dB (a b:aF):Bool:=
 decide (a.spot=b.spot)&&dE a.must b.must&&dE a.on b.on&&dE b.can a.can&&decide (a.car≤b.car)&&decide (a.time≤b.time)&&decide (a.load≤b.load)&&decide (a.first≤b.first)
theorem aHN (a b:aF):Pure P 207 [a.a,b.a] (.b (dB a b)):=by
 generalize hR:dB a b=R;refine aW Tryz.func207 rfl rfl (by simp [Tryz.f207]) (by simp [aE,aE.bndL,aF.a,aF.cs]) (by simp [aE,aE.bndL]) fun B hB hnx=>?_
 simp only [Tryz.f207] at hB ⊢;rw [dB] at hR;have hw1:=aAG a.must b.must;have hw2:=aAG a.on b.on;have hw3:=aAG b.can a.can;by_cases c1:a.spot=b.spot
 rotate_left
 ·refine aD ?_;simp [go_sem,aF.a,aF.cs,c1];simp [←hR,c1]
 refine aD ?_;simp [go_sem,aF.a,aF.cs,c1];refine aL rfl rfl rfl (args:=[.u a.must,.u b.must]) (f:=235) (by simp [go_sem]) (by simp [go_sem,hB]) ((hw1).spec _ _) ?_;cases c2:dE a.must b.must with
 |false=>refine aD ?_;simp [go_sem];simp [←hR,c2]
 |true=>
  refine aD ?_;simp [go_sem];refine aL rfl rfl rfl (args:=[.u a.on,.u b.on]) (f:=235) (by simp [go_sem]) (by simp [go_sem,hB]) ((hw2).spec _ _) ?_;cases c3:dE a.on b.on with
  |false=>refine aD ?_;simp [go_sem];simp [←hR,c3]
  |true=>
   refine aD ?_;simp [go_sem];refine aL rfl rfl rfl (args:=[.u b.can,.u a.can]) (f:=235) (by simp [go_sem]) (by simp [go_sem,hB]) ((hw3).spec _ _) ?_;cases c4:dE b.can a.can with
   |false=>refine aD ?_;simp [go_sem];simp [←hR,c4]
   |true=>rw [c2,c3,c4] at hR;simp only [c1,decide_true,Bool.and_true,Bool.true_and] at hR;refine aD ?_;simp [go_sem];refine nC (fun h1=>?_) (fun h1=>by simp [go_sem,h1,←hR]);simp [go_sem,h1];refine nC (fun h2=>?_) (fun h2=>by simp [go_sem,h2,←hR]);simp [go_sem,h2];refine nC (fun h3=>?_) (fun h3=>by simp [go_sem,h3,←hR]);simp [go_sem,h3];simp [←hR,h1,h2,h3]
theorem sV {x:aA} {s:aF} {j:Int} (hv:(x.move s j).2.2=true):x.may=true∧s.mayB x=true∧(0≤j∧j≤2*x.pairs)∧(x.to s j).2=true∧x.move s j=((x.to s j).1,bL (x.stop s.spot) (x.stop j),true):=by
 unfold aA.move at hv ⊢;split at hv
 ·rename_i h;rw [if_pos h];unfold aA.step at hv ⊢;split at hv
  ·simp at hv
  ·rename_i h1;rw [if_neg h1];split at hv
   ·rename_i h2;rw [if_pos h2];exact ⟨h.1,h.2,by omega,h2,rfl⟩
   ·simp at hv
 ·simp at hv
theorem yZ {x:aA} {s:aF} {j:Int} (h1:x.may=true) (h2:s.mayB x=true) (h3:0≤j∧j≤2*x.pairs) (h4:(x.to s j).2=true):x.move s j=((x.to s j).1,bL (x.stop s.spot) (x.stop j),true):=by unfold aA.move aA.step;rw [if_pos ⟨h1,h2⟩,if_neg (by omega),if_pos h4]
theorem aPC:∀{k i:Nat},1≤i→i≤k→(lH k).testBit i=true
 |0,i,h1,h2=>by omega
 |k+1,i,h1,h2=>by
  rw [lH,Nat.testBit_or];by_cases h:i≤k
  ·rw [aPC h1 h];rfl
  ·have:i=k+1:=by omega
   subst this;rw [Nat.testBit_two_pow_self,Bool.or_true]
theorem aA.all_bit {x:aA} {t p:Nat} (hx:x.Fit p) (h:x.allB t=true) {i:Nat} (h1:1≤i) (h2:i≤2*p):t.testBit i=true:=by
 have hf:=hx.few;have hp:=hx.pairs;unfold aA.allB dE at h;rw [List.all_eq_true] at h;have:=h i (List.mem_range.2 (by omega));have hu:(nS (2*x.pairs)).testBit i=true:=by unfold nS;exact aPC h1 (by omega)
 rw [hu] at this;simpa using this
theorem i8 {t k:Nat} (hk:k≤63) (i:Nat):(cL t k).testBit i=(t.testBit i||decide (k=i)):=by rw [cL,uK hk,Nat.testBit_or,Nat.testBit_two_pow]
theorem aAH {t k:Nat} (hk:k≤63) {i:Nat} (hi:i<64):(i9 t k).testBit i=(t.testBit i&& !decide (k=i)):=by rw [i9,uK hk,aAW,Nat.testBit_two_pow];simp [hi]
def i6 (x:aA):Nat→Nat→Int
 |0,_=>0
 |k+1,t=>i6 x k t+if t.testBit (k+1)=true then (x.stop (k+1:Nat)).demand else 0
theorem z8 (x:aA):∀k,i6 x k 0=0
 |0=>rfl
 |k+1=>by rw [i6,z8 x k];simp
theorem vY {x:aA} {p:Nat} (hx:x.Fit p) (t:Nat):∀k,k≤p→0≤i6 x k t
 |0,_=>Int.le_refl _
 |k+1,h=>by have:=vY hx t k (by omega);have:=hx.take (k:=k+1) (by omega) h;rw [i6];split<;>omega
theorem aOU (x:aA) {t j:Nat} (hj:j≤63) (hn:t.testBit j=false) (h1:1≤j):∀k,k≤63→i6 x k (cL t j)=i6 x k t+if j≤k then (x.stop j).demand else 0
 |0,_=>by rw [if_neg (by omega)];rfl
 |k+1,hk=>by
  rw [i6,aOU x hj hn h1 k (by omega),i8 hj,i6];by_cases e:j=k+1
  ·subst e;rw [if_neg (by omega),hn];simp
  ·have:(decide (j=k+1))=false:=by simpa using e
   rw [this,Bool.or_false];by_cases e2:j≤k
   ·rw [if_pos e2,if_pos (show j≤k+1 by omega)];omega
   ·rw [if_neg e2,if_neg (show ¬j≤k+1 by omega)];omega
theorem aOV (x:aA) {t j:Nat} (hj:j≤63) (hn:t.testBit j=true) (h1:1≤j):∀k,k≤63→i6 x k (i9 t j)=i6 x k t-if j≤k then (x.stop j).demand else 0
 |0,_=>by rw [if_neg (by omega)];rfl
 |k+1,hk=>by
  rw [i6,aOV x hj hn h1 k (by omega),aAH hj (by omega),i6];by_cases e:j=k+1
  ·subst e;rw [if_neg (by omega),hn];simp
  ·have:(decide (j=k+1))=false:=by simpa using e
   rw [this,Bool.not_false,Bool.and_true];by_cases e2:j≤k
   ·rw [if_pos e2,if_pos (show j≤k+1 by omega)];omega
   ·rw [if_neg e2,if_neg (show ¬j≤k+1 by omega)];omega
structure kA (x:aA) (p:Nat) (s:aF):Prop where
 eq:s.can=s.must
 on:∀k,1≤k→k≤p→s.on.testBit k=(s.must.testBit k&& !s.must.testBit (k+p))
 order:∀k,1≤k→k≤p→s.must.testBit (k+p)=true→s.must.testBit k=true
 load:s.load=i6 x p s.on
 room:s.load≤x.room
theorem aCH {x:aA} {p:Nat} (hx:x.Fit p) (hm:x.may=true):kA x p x.rootS:=by
 rw [aA.rootS,if_pos hm];refine ⟨rfl,fun k _ _=>by simp [aF.zero],fun k _ _ h=>by simp [aF.zero] at h,?_,?_⟩
 ·exact (z8 x p).symm
 ·have:=hx.room;show (0:Int)≤x.room;omega
theorem iT {t k:Nat} (hk:k≤63):cI t (k:Int)=t.testBit k:=aVR (by omega)
theorem pJ {x:aA} {p:Nat} {s:aF} {j:Int} (hx:x.Fit p) (hg:kA x p s) (h:(x.move s j).2.2=true):
  kA x p (x.move s j).1∧0≤j∧j≤2*p∧(x.move s j).1.must=(if 0<j then cL s.must j else s.must)∧
  (x.move s j).1.on=(if x.pairs<j then i9 s.on (j-x.pairs) else if 0<j then cL s.on j else s.on)∧
  (x.move s j).1.load=(if 0<j then s.load+(x.stop j).demand else s.load):=by
 obtain ⟨h1,h2,h3,h4,h5⟩:=sV h;have hp:=hx.pairs;have hfew:=hx.few;obtain ⟨k,rfl⟩:∃k:Nat,j=k:=⟨j.toNat,by omega⟩;rw [h5];have h3':(k:Int)≤2*p:=by omega
 have hvis:(x.visit s k).2=true→(x.visit s k).1=x.seen s k∧cI s.must k=false:=by
  unfold aA.visit aA.lateB;split
  ·intro h;simp at h
  ·rename_i hh;intro _;simp only [Bool.or_eq_true,not_or] at hh;exact ⟨rfl,by simpa using hh.1⟩
 by_cases hk0:k=0
 ·subst hk0;have e:x.to s ((0:Nat):Int)=x.home s:=by simp [aA.to]
  rw [e] at h4 ⊢;unfold aA.home at h4 ⊢;split at h4
  ·simp at h4
  ·rename_i hh;rw [if_neg hh];have hon:s.on=0:=by simp only [aA.stayB,Bool.or_eq_true,decide_eq_true_eq,not_or] at hh;have:=hh.1.1.1.2;omega
   have hl:s.load=0:=by rw [hg.load,hon,z8]
   refine ⟨⟨hg.eq,hg.on,hg.order,by show (0:Int)=i6 x p s.on;rw [hon,z8],by show (0:Int)≤x.room;have:=hx.room;omega⟩,by omega,by omega,by simp [aA.homeS],by rw [if_neg (by omega),if_neg (by omega)];rfl,by rw [if_neg (by omega),hl];rfl⟩
 have hk63:k≤63:=by omega
 by_cases hkp:k≤p
 ·have e:x.to s (k:Int)=x.take s k:=by rw [aA.to,if_neg (by omega),if_pos (by omega)]
  rw [e] at h4 ⊢;have hd:=hx.take (k:=k) (by omega) hkp;unfold aA.take at h4 ⊢;split at h4
  ·simp at h4
  rename_i hh;rw [if_neg hh];split at h4
  rotate_left
  ·rename_i h8;exact absurd h4 h8
  rename_i h8;rw [if_pos h8];obtain ⟨e1,e2⟩:=hvis h8;rw [e1];rw [iT hk63] at e2;have hroom:s.load+(x.stop k).demand≤x.room:=by simp only [aA.fullB,Bool.or_eq_true,decide_eq_true_eq,not_or] at hh;omega
  have hnon:s.on.testBit k=false:=by rw [hg.on k (by omega) hkp,e2,Bool.false_and]
  have hpos:=vY hx s.on p (Nat.le_refl _);have hload:=hg.load;have hmax:max (s.load+(x.stop k).demand) 0=s.load+(x.stop k).demand:=by omega
  refine ⟨⟨by show cL s.can k=cL s.must k;rw [hg.eq],fun i i1 i2=>?_,fun i i1 i2 i3=>?_,?_,?_⟩,by omega,by omega,?_,?_,?_⟩
  ·show (cL s.on k).testBit i=((cL s.must k).testBit i&& !(cL s.must k).testBit (i+p));rw [i8 hk63,i8 hk63,i8 hk63,hg.on i i1 i2];have:decide (k=i+p)=false:=by simp;omega
   rw [this,Bool.or_false];by_cases hki:k=i
   ·subst hki
    have hb:s.must.testBit (k+p)=false:=by
     cases hq:s.must.testBit (k+p) with
     |false=>rfl
     |true=>rw [hg.order k i1 i2 hq] at e2;cases e2
    simp [hb]
   ·simp [hki]
  ·have i3':(cL s.must k).testBit (i+p)=true:=i3;show (cL s.must k).testBit i=true;rw [i8 hk63] at i3' ⊢;have:decide (k=i+p)=false:=by simp;omega
   rw [this,Bool.or_false] at i3';rw [hg.order i i1 i2 i3',Bool.true_or]
  ·show max (s.load+(x.stop k).demand) 0=i6 x p (cL s.on k);rw [aOU x hk63 hnon (by omega) p (by omega),if_pos hkp,hmax,hload]
  ·show max (s.load+(x.stop k).demand) 0≤x.room;omega
  ·rw [if_pos (by omega)];rfl
  ·rw [if_neg (by omega),if_pos (by omega)]
  ·rw [if_pos (by omega)];exact hmax
 ·obtain ⟨q,rfl⟩:∃q,k=q+p:=⟨k-p,by omega⟩;have hq1:1≤q:=by omega
  have hq2:q≤p:=by omega
  have hq63:q≤63:=by omega
  have ej:((q+p:Nat):Int)-x.pairs=(q:Int):=by omega
  have e:x.to s ((q+p:Nat):Int)=x.bring s (q+p:Nat):=by rw [aA.to,if_neg (by omega),if_neg (by omega)]
  rw [e] at h4 ⊢;have hd:=hx.take (k:=q) hq1 hq2;have hb:=hx.bring (k:=q) hq1 hq2;unfold aA.bring at h4 ⊢;split at h4
  ·simp at h4
  rename_i hh;rw [if_neg hh];split at h4
  rotate_left
  ·rename_i h8;exact absurd h4 h8
  rename_i h8;rw [if_pos h8];obtain ⟨e1,e2⟩:=hvis h8;rw [e1,ej];rw [iT hk63] at e2;have hcan:s.must.testBit q=true:=by simp only [aA.emptyB,Bool.or_eq_true,decide_eq_true_eq,not_or,ej] at hh;have:=hh.2;rw [iT hq63,hg.eq] at this;simpa using this
  have hon:s.on.testBit q=true:=by rw [hg.on q hq1 hq2,hcan,e2];rfl
  have hpos:=vY hx (i9 s.on q) p (Nat.le_refl _);have hload:=hg.load;have hsum:=aOV x hq63 hon hq1 p (by omega);rw [if_pos hq2] at hsum;have hmax:max (s.load+(x.stop (q+p:Nat)).demand) 0=s.load+(x.stop (q+p:Nat)).demand:=by omega
  refine ⟨⟨by show cL s.can (q+p:Nat)=cL s.must (q+p:Nat);rw [hg.eq],fun i i1 i2=>?_,fun i i1 i2 i3=>?_,?_,?_⟩,by omega,by omega,?_,?_,?_⟩
  ·show (i9 s.on q).testBit i=((cL s.must (q+p:Nat)).testBit i&& !(cL s.must (q+p:Nat)).testBit (i+p));rw [aAH hq63 (by omega),i8 hk63,i8 hk63,hg.on i i1 i2];have:decide (q+p=i)=false:=by simp;omega
   rw [this,Bool.or_false];have e5:decide (q+p=i+p)=decide (q=i):=by simp
   rw [e5];by_cases hki:q=i
   ·simp [hki]
   ·simp [hki]
  ·have i3':(cL s.must (q+p:Nat)).testBit (i+p)=true:=i3;show (cL s.must (q+p:Nat)).testBit i=true;rw [i8 hk63] at i3' ⊢;by_cases hki:q=i
   ·subst hki;rw [hcan,Bool.true_or]
   ·have:decide (q+p=i+p)=false:=by simp;omega
    rw [this,Bool.or_false] at i3';rw [hg.order i i1 i2 i3',Bool.true_or]
  ·show max (s.load+(x.stop (q+p:Nat)).demand) 0=i6 x p (i9 s.on q);omega
  ·show max (s.load+(x.stop (q+p:Nat)).demand) 0≤x.room;have:=hg.room;omega
  ·rw [if_pos (by omega)];rfl
  ·rw [if_pos (by omega)]
  ·rw [if_pos (by omega)];exact hmax
theorem iY {x:aA} {s:aF} {j:Int} (h:(x.move s j).2.2=true) (hj:j≠0):x.may=true∧s.mayB x=true∧0<j∧j≤2*x.pairs∧x.lateB s j=false∧(j≤x.pairs→x.fullB s j=false)∧(x.pairs<j→x.emptyB s j=false)∧
  x.move s j=(x.rvisit s j (x.begins s j),bL (x.stop s.spot) (x.stop j),true):=by
 obtain ⟨h1,h2,h3,h4,h5⟩:=sV h
 have k1:x.lateB s j=false:=by
  cases e:x.lateB s j with
  |false=>rfl
  |true=>rw [aFC hj (.inl e)] at h4;cases h4
 have k2:j≤x.pairs→x.fullB s j=false:=fun hp=>by
  cases e:x.fullB s j with
  |false=>rfl
  |true=>rw [aFC hj (.inr (.inl ⟨hp,e⟩))] at h4;cases h4
 have k3:x.pairs<j→x.emptyB s j=false:=fun hp=>by
  cases e:x.emptyB s j with
  |false=>rfl
  |true=>rw [aFC hj (.inr (.inr ⟨hp,e⟩))] at h4;cases h4
 refine ⟨h1,h2,by omega,h3.2,k1,k2,k3,?_⟩;rw [h5,aFD hj k1 k2 k3]
theorem lD {x:aA} {s:aF} (h:(x.move s 0).2.2=true):x.may=true∧s.mayB x=true∧x.stayB s=false∧x.move s 0=(x.homeS s,bL (x.stop s.spot) (x.stop 0),true):=by
 obtain ⟨h1,h2,h3,h4,h5⟩:=sV h;have e:x.to s 0=x.home s:=by simp [aA.to]
 rw [e] at h4 h5
 have k1:x.stayB s=false:=by
  cases c:x.stayB s with
  |false=>rfl
  |true=>rw [aA.home,if_pos c] at h4;cases h4
 refine ⟨h1,h2,k1,?_⟩;rw [h5,aA.home,if_neg (by simp [k1])]
theorem rD {t k:Nat} (hk:k≤63) (i:Nat):cI (cL t k) i=(cI t i||decide (i=k)):=by
 by_cases hi:i≤63
 ·rw [iT hi,iT hi,i8 hk];by_cases e:i=k
  ·subst e;simp
  ·have:¬k=i:=fun h=>e h.symm
   simp [e,this]
 ·have e1:∀u,cI u (i:Int)=false:=fun u=>by simp [cI];omega
  have:¬i=k:=by omega
  simp [e1,this]
theorem aKU {may j:Nat} (hj:j≤63):∀(i:Nat) (l:List Int),j<i→fX (cL may j) i l=fX may i l
 |_,[],_=>rfl
 |i,d :: l,h=>by
  rw [fX,fX,aKU hj (i+1) l (by omega),rD hj];have:¬i=j:=by omega
  simp [this]
theorem aKV {may j:Nat} (hj:j≤63) (h1:1≤j):∀(i:Nat) (l:List Int),i≤j→(∀d∈l,0≤d∧d≤14143)→fX may i l≤fX (cL may j) i l+l.getD (j-i) 0
 |_,[],_,_=>by simp [fX]
 |i,d :: l,h,hd=>by
  have h0:=hd d List.mem_cons_self;have hd':∀e∈l,0≤e∧e≤14143:=fun e he=>hd e (List.mem_cons_of_mem _ he)
  rw [fX,fX,rD hj];by_cases e:i=j
  ·subst e;rw [aKU hj (i+1) l (by omega)];simp only [Nat.sub_self,List.getD_cons_zero,decide_true,Bool.or_true];split<;>simp<;>omega
  ·have:=aKV (may:=may) hj h1 (i+1) l (by omega) hd';have e2:j-i=(j-(i+1))+1:=by omega
   rw [e2,List.getD_cons_succ];have e3:decide (i=j)=false:=decide_eq_false e;rw [e3,Bool.or_false];omega
theorem aLT {k:Nat} {b:aR}:∀(l:List aR) (i:Nat) (v:Int),kI k b i l v≤v
 |[],_,v=>Int.le_refl _
 |a :: l,i,v=>by rw [kI];have:=aLT (k:=k) (b:=b) l (i+1) (if i=k then v else min v (bL a b));split at this<;>split<;>omega
theorem aLS {k:Nat} {b:aR}:∀(l:List aR) (i m:Nat) (v:Int) (hm:m<l.length),i+m≠k→kI k b i l v≤bL l[m] b
 |[],_,m,_,hm,_=>by simp at hm
 |a :: l,i,0,v,_,hne=>by rw [kI,if_neg (by omega)];have:=aLT (k:=k) (b:=b) l (i+1) (min v (bL a b));simp only [List.getElem_cons_zero];omega
 |a :: l,i,m+1,v,hm,hne=>by rw [kI];simpa using aLS l (i+1) m _ (by simpa using hm) (by omega)
theorem aYG (x:aA) {k m:Nat} (b:aR) (hm:m<x.stops.length) (hne:m≠k):x.nearK k b≤bL x.stops[m] b:=by
 have h1:=aLS (k:=k) (b:=b) x.stops 0 m bF hm (by omega);have h2:=nI x.stops[m] b;have hinf:bF=1152921504606846976:=rfl;unfold aA.nearK;rcases aDC k b 0 x.stops bF (.inr rfl) with h | h
 ·rw [Int.tmod_eq_of_lt h.1 (by omega)];exact h1
 ·omega
theorem aLX {x:aA} (h:x.may=true):x.near=kJ x 0 x.stops:=by rw [aA.near,if_pos h]
theorem aYI {x:aA} {p:Nat} (hx:x.Fit p) (h:x.may=true) {k:Nat} (hk:k≤2*p):x.near.getD k 0=x.nearK k (x.stop k):=by have hl:=hx.len;rw [aLX h,List.getD_eq_getElem?_getD,List.getElem?_eq_getElem (by rw [pR];omega),aDF x 0 x.stops k (by omega),aA.stop_at (by omega)];simp
theorem aLU {x:aA} {p:Nat} (hx:x.Fit p) (h:x.may=true) {k m:Nat} (hk:k≤2*p) (hm:m≤2*p) (hne:m≠k):x.near.getD k 0≤bL (x.stop m) (x.stop k):=by have hl:=hx.len;rw [aYI hx h hk,aA.stop_at (k:=m) (by omega)];exact aYG x _ _ hne
theorem aLW {x:aA} {p:Nat} (hx:x.Fit p) (h:x.may=true):x.near.length=2*p+1:=by rw [aLX h,pR,hx.len]
theorem yU {near:List Int} {may:Nat} (h:2≤near.length):jI near may=near.getD 0 0+fX may 0 near:=by
 match near,h with
 |a :: b :: l,_=>rfl
 |[],h=>simp at h
 |[_],h=>simp at h
theorem aXP {near:List Int} (hn:∀d∈near,0≤d∧d≤14143) (may:Nat):0≤jI near may∧jI near may≤14143*(near.length+1):=by
 by_cases h:2≤near.length
 ·rw [yU h];have h1:=aKT may 0 near hn;have h2:0≤near.getD 0 0∧near.getD 0 0≤14143:=by rw [List.getD_eq_getElem?_getD,List.getElem?_eq_getElem (by omega)];exact hn _ (List.getElem_mem _)
  omega
 ·match near,h with
  |[],_=>simp [jI]
  |[_],_=>simp [jI]
  |a :: b :: l,h=>simp at h
def aF.seenAt (s:aF):Prop:=s.spot=0∨cI s.must s.spot=true
theorem aXS {x:aA} {s:aF} {j:Int} (hs:s.seenAt) (h:(x.move s j).2.2=true):jI x.near s.can≤(x.move s j).2.1+jI x.near (x.move s j).1.can:=by
 by_cases hj:j=0
 ·subst hj;obtain ⟨_,_,_,e⟩:=lD h;rw [e];have:=(nI (x.stop s.spot) (x.stop 0)).1;show _≤bL (x.stop s.spot) (x.stop 0)+jI x.near s.can;omega
 ·obtain ⟨hm,hmay,h1,h2,h3,_,_,e⟩:=iY h hj;obtain ⟨p,hx⟩:=x.fit hm;have hp:=hx.pairs;have hfew:=hx.few;have hst:=s.fit hx hmay;rw [e];show _≤bL (x.stop s.spot) (x.stop j)+jI x.near (cL s.can j);obtain ⟨k,rfl⟩:∃k:Nat,j=k:=⟨j.toNat,by omega⟩;obtain ⟨m,hmm⟩:∃m:Nat,s.spot=m:=⟨s.spot.toNat,by have:=hst.spot;omega⟩
  have hne:m≠k:=by
   rintro rfl;rcases hs with hs | hs
   ·omega
   ·rw [aA.lateB,←hmm,hs] at h3;simp at h3
  have hlen:=aLW hx hm;have hf:=aLU hx hm (k:=k) (m:=m) (by omega) (by have:=hst.spot;omega) hne;rw [yU (by omega),yU (by omega),hmm];have:=aKV (may:=s.can) (j:=k) (by omega) (by omega) 0 x.near (by omega) (aDD x);rw [Nat.sub_zero] at this;omega
theorem aKS {may:Nat}:∀(i:Nat) (l:List Int),(∀j:Nat,i≤j→j<i+l.length→0<j→cI may j=true)→fX may i l=0
 |_,[],_=>rfl
 |i,d :: l,h=>by
  rw [fX,aKS (i+1) l fun j h1 h2 h3=>h j (by omega) (by simp only [List.length_cons];omega) h3];have:¬(0<i∧cI may i=false):=fun ⟨h1,h2⟩=>by rw [h i (Nat.le_refl _) (by simp) h1] at h2;cases h2
  rw [if_neg this];rfl
theorem sH {x:aA} {s:aF} (h:(x.endS s).2=true):x.may=true∧((x.pairs=0∧s=x.rootS∧x.endS s=(0,true))∨
  (s.mayB x=true∧s.spot≠0∧s.on=0∧x.allB s.can=true∧s.time+bL (x.stop s.spot) (x.stop 0)≤(x.stop 0).due∧x.endS s=(bL (x.stop s.spot) (x.stop 0),true))):=by
 unfold aA.endS at h ⊢;split at h
 ·cases h
 ·rename_i h1;have hm:x.may=true:=by simpa using h1
  refine ⟨hm,?_⟩;rw [if_neg h1];split at h
  ·rename_i h2;rw [if_pos h2];exact .inl ⟨h2.1,h2.2,rfl⟩
  ·rename_i h2;rw [if_neg h2];split at h
   ·rename_i h3;rw [if_pos h3];exact .inr ⟨h3.1,h3.2.1,h3.2.2.1,h3.2.2.2.1,h3.2.2.2.2,rfl⟩
   ·cases h
theorem aXQ {x:aA} {s:aF} (h:(x.endS s).2=true):jI x.near s.can≤(x.endS s).1:=by
 obtain ⟨hm,h⟩:=sH h;obtain ⟨p,hx⟩:=x.fit hm;have hp:=hx.pairs;have hlen:=aLW hx hm;rcases h with ⟨h1,h2,e⟩ | ⟨h1,h2,h3,h4,h5,e⟩
 ·rw [e];have:x.near.length=1:=by omega
  match hn:x.near,this with
  |[a],_=>simp [jI]
 ·have hst:=s.fit hx h1;have hp1:1≤p:=by have:=hst.spot;omega
  rw [e,yU (by omega),aKS 0 x.near fun j _ hj h0=>by
   have:=hx.few
   rw [iT (by omega)]
   exact aA.all_bit hx h4 (by omega) (by omega)]
  obtain ⟨m,hmm⟩:∃m:Nat,s.spot=m:=⟨s.spot.toNat,by have:=hst.spot;omega⟩;have hf:=aLU hx hm (k:=0) (m:=m) (by omega) (by have:=hst.spot;omega) (by omega);rw [hmm];show _≤bL (x.stop m) (x.stop 0);have e0:x.stop ((0:Nat):Int)=x.stop 0:=rfl;rw [e0] at hf;omega
theorem zS {x:aA} {s:aF} {j:Int} (h:(x.move s j).2.2=true):(x.move s j).1.seenAt:=by
 by_cases hj:j=0
 ·subst hj;obtain ⟨_,_,_,e⟩:=lD h;rw [e];exact .inl rfl
 ·obtain ⟨hm,_,h1,h2,_,_,_,e⟩:=iY h hj;obtain ⟨p,hx⟩:=x.fit hm;have hp:=hx.pairs;have hfew:=hx.few;rw [e];refine .inr ?_;show cI (cL s.must j) j=true;obtain ⟨k,rfl⟩:∃k:Nat,j=k:=⟨j.toNat,by omega⟩;rw [rD (by omega)];simp
theorem aHE {f:Nat→Bool}:∀{n:Nat} {j:Int},j∈iE f n→∃k:Nat,j=k∧k<n∧f k=true
 |0,j,h=>by cases h
 |n+1,j,h=>by
  rw [iE,List.mem_append] at h;rcases h with h | h
  ·obtain ⟨k,h1,h2,h3⟩:=aHE h;exact ⟨k,h1,by omega,h3⟩
  ·split at h
   ·rename_i hf;rw [List.mem_singleton] at h;exact ⟨n,h,by omega,hf⟩
   ·cases h
theorem jW {x:aA} {s:aF} {j:Int} (h:j∈x.moves s):(x.move s j).2.2=true:=by rw [rE] at h;obtain ⟨k,rfl,_,h3⟩:=aHE h;exact h3
theorem aX7 (x:aA) (s:aF):(x.moves s).length≤x.stops.length:=by rw [rE];exact sD _ _
theorem oH {x:aA} {s:aF} {j:Int} (h:(x.move s j).2.2=true):0≤(x.move s j).2.1∧(x.move s j).2.1≤14143:=by obtain ⟨_,_,_,_,e⟩:=sV h;rw [e];exact nI _ _
theorem rS {a b:Int} (ha:0≤a) (hb:0≤b) (h:a+b≤1152921504606846976):dL [a,b]=a+b:=by simp only [dL,List.foldl_cons,List.foldl_nil,mY];omega
theorem oF (x:aA):∀(l m:List Int) (s:aF) (c:Int),x.goes (l++m) s c=(x.goes l s c).bind fun r=>x.goes m r.1 r.2
 |[],m,s,c=>rfl
 |j :: l,m,s,c=>by
  rw [List.cons_append,aA.goes,aA.goes];split
  ·exact oF x l m _ _
  ·rfl
theorem bCQ (x:aA):x.rootS.seenAt:=by unfold aA.rootS;split<;>exact .inl rfl
theorem xY {x:aA} {s:aF} (h:(x.endS s).2=true):0≤(x.endS s).1∧(x.endS s).1≤14143:=by
 obtain ⟨_,h | h⟩:=sH h
 ·rw [h.2.2];omega
 ·rw [h.2.2.2.2.2];exact nI _ _
theorem aWG (l:List Int):∀y∈aJ l,y.length=1:=by intro y hy;simp only [aJ,List.mem_map] at hy;obtain ⟨n,_,rfl⟩:=hy;rfl
theorem sF (l:List Int) (hl:l.length<4294967296) (σ:Nat→aG) (nx:Nat):aT P 93 [.t (.sl (aJ l))] σ nx (.ref nx) (aB σ nx (.arr 1 (aJ l))) (nx+1):=by
 refine bN.spec (cA Tryz.func93 rfl rfl (by simp [Tryz.f93]) fun B hB hnx hσ=>tW ?_);simp only [Tryz.f93] at hB ⊢;have hil:(aJ l).length=l.length:=List.length_map _;have hne:aJ l=[]↔l=[]:=by simp [aJ]
 have h1:=aWG l;have hmost:l.length≤bH:=by show l.length≤4294967296;omega
 refine aD ?_;simp [go_sem];refine aGA (es:=aJ l) rfl rfl (by simp [go_sem,hB]) tS rfl (by simp [go_sem]) fun b hb=>?_
 cases b with
 |true=>
  have e:l=[]:=Decidable.byContradiction fun h=>by have:=hb (fun h'=>h (hne.1 h'));cases this
  have e2:aJ l=[]:=hne.2 e;refine aD ?_;simp [go_sem];refine ⟨_,fun a w hr=>zI (t:=2) (sz:=1) (by simp [go_sem]) hr,?_⟩;simp [go_sem,e2]
 |false=>refine aD ?_;simp [go_sem,hil,hne,hmost,if_pos h1];refine ⟨_,aH.self,?_⟩;simp [go_sem]
theorem aDX (n:aC) (hl:n.path.length<4294967296):Pure P 185 [n.a] (n.a):=by
 refine aW Tryz.func185 rfl rfl (by simp [Tryz.f185]) (by simp [aE,aE.bndL,aC.a,aC.cs]) (by simp [aE,aE.bndL,aC.a,aC.cs]) fun B hB hnx=>?_
 simp only [Tryz.f185] at hB ⊢;refine aD ?_;simp [go_sem,aC.a,aC.cs];refine aL rfl rfl rfl (args:=[.t (.sl (aJ n.path))]) (f:=93) (by simp [go_sem]) (by simp [go_sem,hB]) (sF n.path hl _ _) ?_;refine aD ?_;simp [go_sem]
set_option maxHeartbeats 1000000
def mK (r:List Int):Int:=r.getD 0 0
def KP (e:List T):Prop:=∃r:List Int,r≠[]∧e=aY r
def eP (e:List T):Int:=match e with
 |[.sl ([.v (.int _ k)] :: _)]=>k
 |_=>0
theorem wR (r:List Int):eP (aY r)=mK r:=by cases r<;>rfl
theorem KP.len {e:List T} (h:KP e):e.length=1:=by obtain ⟨r,_,rfl⟩:=h;rfl
theorem aZ5 (a b:List Int) (ha:a≠[]) (hb:b≠[]):Pure P 95 [.t (.sl (aJ a)),.t (.sl (aJ b))] (.i (dN (mK a) (mK b))):=by
 cases a with
 |nil=>exact absurd rfl ha
 |cons u a=>
  cases b with
  |nil=>exact absurd rfl hb
  |cons v b=>
   have hc:=uR u v;show R.Pure P _ _ (.i (dN u v));refine aW Tryz.func95 rfl rfl (by simp [Tryz.f95]) (by simp [aE,aE.bndL]) (by simp [aE,aE.bndL]) fun B hB hnx=>?_
   simp only [Tryz.f95] at hB ⊢;refine aD ?_;simp [go_sem];refine bK [] rfl (by rw [hB];kernel_rfl) ?_;refine aD ?_;simp [go_sem,aJ];refine bQ rfl rfl rfl (args:=[.i u,.i v]) (f:=96) (by simp [go_sem]) (hc) ?_;refine aD ?_;simp [go_sem]
abbrev nF:AV:=.fn (.func 95) [] []
structure aQY (S:List (List T)) (u v:Nat) (x y:List T):Prop where
 hu:u<S.length
 hv:v<S.length
 gu:∀h:u<S.length,S[u]'h=x
 gv:∀h:v<S.length,S[v]'h=y
 lx:x.length=1
 ly:y.length=1
theorem bGU {X Y Z:List (List T)} {x y:List T} (hx:x.length=1) (hy:y.length=1):aQY (X++x :: (Y++y :: Z)) X.length (X.length+1+Y.length) x y:=by
 have h1:=aIK X Y Z x y;have h2:=aIL X Y Z x y;have l1:X.length<(X++x :: (Y++y :: Z)).length:=by simp
 have l2:X.length+1+Y.length<(X++x :: (Y++y :: Z)).length:=by simp;omega
 refine ⟨l1,l2,fun h=>?_,fun h=>?_,hx,hy⟩
 ·rw [List.getElem?_eq_getElem h] at h1;exact Option.some.inj h1
 ·rw [List.getElem?_eq_getElem h] at h2;exact Option.some.inj h2
theorem aZ8 (pre mid post:List (List T)) (hK:∀e∈mid,KP e) (hL:∀e∈pre++(mid++post),e.length=1) (hbig:(pre++(mid++post)).length<2^31) {σ:Nat→aG} {nx q:Nat} (hq:q<nx) (hσq:σ q= .arr 1 (pre++(mid++post))):
  aT P 195 [.ref q,.i pre.length,.i (pre.length+mid.length:Nat),nF] σ nx (.tup []) (aB σ q (.arr 1 (pre++(aU eP mid++post)))) nx:=by
 refine fO Tryz.func195 rfl rfl (by simp [Tryz.f195]) hq (by simp [dG]) (by simp [aE,aE.bndL]) fun hk B hB hnx hσ=>?_
 simp only [Tryz.f195] at hB ⊢;simp only [List.length_append] at hbig;have w1:IntKind.i64.wrap ((pre.length:Int)+1)=((pre.length+1:Nat):Int):=by rw [aO _ (by omega)];omega
 have h1s:aU eP (mid.take 1)=mid.take 1:=by
  cases mid with
  |nil=>rfl
  |cons x l=>exact pN (List.pairwise_singleton _ _)
 have hσ0:aB σ q (.arr 1 (pre++(aU eP (mid.take 1)++(mid.drop 1++post))))=σ:=by rw [h1s,←List.append_assoc (mid.take 1),List.take_append_drop,←hσq];exact pU rfl
 refine aD ?_;simp [go_sem,w1]
 refine bA (α:=Nat) (fun k=>1≤k∧k≤mid.length+1)
  (fun k=>⟨sl [(0,.ref q),(1,.i pre.length),(2,.i (pre.length+mid.length:Nat)),(3,nF),(8,.i (pre.length+k:Nat))],aB σ q (.arr 1 (pre++(aU eP (mid.take k)++(mid.drop k++post)))),nx⟩) (fun k=>mid.length+1-k) 1 ⟨by omega,by omega⟩ (aH.slots (by simp [go_sem]) hσ0 rfl) ?_
 rintro k ⟨g1,g2⟩;by_cases hk:k<mid.length
 rotate_left
 ·have hk':¬((pre.length:Int)+k<pre.length+mid.length):=by omega
  refine aI ?_;simp [go_sem,hk'];rw [List.take_of_length_le (by omega),List.drop_eq_nil_of_le (by omega)];simp only [List.nil_append];exact ⟨trivial,fun j h1 h2 h3=>absurd h3 h2⟩
 have hk':(pre.length:Int)+k<pre.length+mid.length:=by omega
 refine aI ?_;simp [go_sem,hk'];have hKx:=hK mid[k] (List.getElem_mem hk);have htk:aU eP (mid.take (k+1))=jF eP mid[k] (aU eP (mid.take k)):=by rw [List.take_succ_eq_append_getElem hk,aCO]
 have hdk:=List.drop_eq_getElem_cons hk;have hsl:(aU eP (mid.take k)).length=k:=by rw [mO,List.length_take];omega
 have hsK:∀e∈aU eP (mid.take k),KP e:=fun e he=>hK e (List.mem_of_mem_take (pM.1 he))
 have hss:=(gI (κ:=eP) (mid.take k)).srt;have hii:IntKind.i64.wrap ((pre.length:Int)+k+1)=(pre.length:Int)+(k+1:Nat):=by rw [aO _ (by omega)];omega
 rw [hdk];generalize mid[k]=x at *;have hLx:=hKx.len;generalize aU eP (mid.take k)=s at *;obtain ⟨Fl,hFl⟩:∃Fl:List (List T)→List (List T)→List (List T),∀u v,Fl u v=pre++(u++x :: (v++(mid.drop (k+1)++post))):=⟨_,fun _ _=>rfl⟩
 refine bA (α:=List (List T)×List (List T)) (fun (u,v)=>u++v=s∧∀e∈v,eP x<eP e)
  (fun (u,v)=>⟨sl [(0,.ref q),(1,.i pre.length),(2,.i (pre.length+mid.length:Nat)),(3,nF),(8,.i (pre.length+k:Nat)),(9,.i (pre.length+u.length:Nat))],aB σ q (.arr 1 (Fl u v)),nx⟩) (fun (u,v)=>u.length) (s,[]) ⟨List.append_nil _,fun e he=>by cases he⟩ (aH.slots (by simp [go_sem,hsl]) (by simp [hFl]) rfl) ?_
 rintro ⟨u,v⟩ ⟨i1,i2⟩;have leave:(∀e∈u,eP e≤eP x)→aU eP (mid.take (k+1))=u++x :: v:=fun hu=>by rw [htk,←i1,aCN hu i2]
 have hul:u.length≤k:=by rw [←hsl,←i1,List.length_append];omega
 rcases List.eq_nil_or_concat u with rfl | ⟨u',y,rfl⟩
 ·have hlv:=leave (fun e he=>by cases he);refine aD ?_;simp [go_sem];refine bK [] rfl (by rw [hB];kernel_rfl) ?_;refine aD ?_;simp [go_sem,hii];exact Next.mk (k+1) ⟨by omega,by omega⟩ (aH.slots (by simp [go_sem]) (by rw [hlv];simp [hFl]) rfl) (by omega)
 ·rw [List.concat_eq_append] at *;have hyK:KP y:=hsK y (by rw [←i1];simp);have hLy:=hyK.len;have hul':u'.length+1≤k:=by simpa using hul
  have hS:Fl (u'++[y]) v=(pre++u')++y :: x :: (v++(mid.drop (k+1)++post)):=by simp [hFl]
  have hS':Fl u' (y :: v)=(pre++u')++x :: y :: (v++(mid.drop (k+1)++post)):=by simp [hFl]
  have htwo:=bGU (X:=pre++u') (Y:=[]) (Z:=v++(mid.drop (k+1)++post)) hLy hLx;have hset:=aDE (pre++u') (v++(mid.drop (k+1)++post)) y x;simp only [List.nil_append,List.length_nil,Nat.add_zero] at htwo;rw [←hS] at htwo hset;rw [←hS'] at hset;obtain ⟨a,ha⟩:∃a,a=(pre++u').length:=⟨_,rfl⟩;have ha2:a=pre.length+u'.length:=by rw [ha,List.length_append]
  rw [←ha] at htwo hset;obtain ⟨b,hb⟩:∃b,b=a+1:=⟨_,rfl⟩;rw [←hb] at htwo hset;obtain ⟨t1,t2,t3,t4,t5,t6⟩:=htwo;have hne:¬a=b:=by omega
  have hne':¬b=a:=by omega
  obtain ⟨rx,hrx,rfl⟩:=hKx;obtain ⟨ry,hry,rfl⟩:=hyK;have w3:IntKind.i64.wrap ((b:Int)-1)=(a:Int):=by rw [aO _ (by omega)];omega
  have w4:(pre.length:Int)+(u'.length+1)=(b:Int):=by omega
  have hcm:=aZ5 rx ry hrx hry;have hneg:=uQ (mK rx) (mK ry);refine aD ?_;simp [go_sem];generalize hSS:Fl (u'++[aY ry]) v=S at *;refine bK [] rfl (by rw [hB];kernel_rfl) ?_;refine aD ?_;simp [go_sem,t1,t2,t3,t4,w3,w4,aY,Nat.mod_one,show pre.length<b by omega,show (pre.length:Int)<(b:Int) by omega];refine bQ rfl rfl rfl (args:=[.t (.sl (aJ rx)),.t (.sl (aJ ry))]) (f:=95) (by simp [go_sem]) (hcm) ?_;by_cases c1:mK rx<mK ry
  ·refine aD ?_;simp [go_sem,hneg,c1];refine cT [15,17] [2,3,4] rfl (by rw [hB];kernel_rfl) (by kernel_rfl) fun ht hf'=>?_
   refine aD ?_;simp [go_sem,ht,hf',t1,t2,t3,t4,aY,Nat.mod_one,cW,hne,hne',w3,w4];refine Next.mk (u',aY ry :: v) ⟨by rw [←i1];simp,fun e he=>?_⟩ (aH.slots (by simp [go_sem,ha2]) ?_ rfl) (by simp)
   ·rcases List.mem_cons.1 he with rfl | he
    ·show eP (aY rx)<eP (aY ry);rw [wR,wR];exact c1
    ·exact i2 e he
   ·rw [←hset];funext j;by_cases e:j=q<;>simp [aB,e,aY]
  ·have hlv:=leave fun e he=>by
    have hyx:eP (aY ry)≤eP (aY rx):=by rw [wR,wR];omega
    rcases List.mem_append.1 he with he | he
    ·rw [←i1,dF,List.pairwise_append,List.pairwise_append] at hss;have:=hss.1.2.2 e he (aY ry) (by simp);omega
    ·rw [List.mem_singleton.1 he];exact hyx
   refine aD ?_;simp [go_sem,hneg,c1,hii];refine Next.mk (k+1) ⟨by omega,by omega⟩ (aH.slots (by simp [go_sem]) ?_ rfl) (by omega);rw [←hSS,hFl,hlv];simp
theorem bAV (l:List (List T)) (hK:∀e∈l,KP e) (hbig:l.length<20) {σ:Nat→aG} {nx q:Nat} (hq:q<nx) (hσq:σ q= .arr 1 l):
  aT P 142 [.ref q,.i l.length,nF] σ nx (.tup []) (aB σ q (.arr 1 (aU eP l))) nx:=by
 have hs:=aZ8 [] l [] hK (fun e he=>(hK e (by simpa using he)).len) (by simp;omega) (σ:=σ) (nx:=nx) (q:=q) hq (by simpa using hσq);simp only [List.length_nil,List.nil_append,List.append_nil,Nat.zero_add] at hs;refine bN.spec (cA Tryz.func142 rfl rfl (by simp [Tryz.f142]) fun B hB hnx hσ=>?_);simp only [Tryz.f142] at hB ⊢;have c1:¬(20:Int)≤l.length:=by omega
 have c2:¬(20:Int)<l.length:=by omega
 generalize l.length=n at *;refine aD ?_;simp [go_sem];refine bA (α:=Unit) (fun _=>True) (fun _=>⟨sl [(0,.ref q),(1,.i n),(2,nF),(6,.i 20),(7,.i 0),(8,.i 20)],σ,nx⟩) (fun _=>0) () trivial (aH.slots (by simp [go_sem]) rfl rfl) ?_;intro _ _;refine aI ?_;simp [go_sem,c1];refine aL rfl rfl rfl (args:=[.ref q,.i 0,.i n,nF]) (f:=195) (by simp [go_sem]) (by simp [go_sem,hB]) hs ?_;refine aD ?_;simp [go_sem];refine bA (α:=Unit) (fun _=>True) (fun _=>⟨sl [(0,.ref q),(1,.i n),(2,nF),(6,.i 20)],aB σ q (.arr 1 (aU eP l)),nx⟩) (fun _=>0) () trivial (aH.slots (by simp [go_sem]) rfl rfl) ?_;intro _ _;refine aI ?_;simp [go_sem,c2]
theorem bAT (l:List (List T)) (hK:∀e∈l,KP e) (hbig:l.length<20) {σ:Nat→aG} {nx q:Nat} (hq:q<nx) (hσq:σ q= .arr 1 l):
  aT P 94 [.ref q,nF] σ nx (.tup []) (aB σ q (.arr 1 (aU eP l))) nx:=by
 have hs:=bAV l hK hbig hq hσq;refine bN.spec (cA Tryz.func94 rfl rfl (by simp [Tryz.f94]) fun B hB hnx hσ=>?_);simp only [Tryz.f94] at hB ⊢;refine aD ?_;simp [go_sem,hσq];refine aL rfl rfl rfl (args:=[.ref q,.i l.length,nF]) (f:=142) (by simp [go_sem]) (by simp [go_sem,hB]) hs ?_;refine aD ?_;simp [go_sem]
def fH (l:List (List Int)):List (List Int):=l.filter fun r=>decide (r≠[])
def dW (l:List (List Int)):List (List Int):=aU mK (fH l)
theorem bDN (l:List (List Int)):aU eP ((fH l).map aY)=(dW l).map aY:=by rw [dW,show mK=fun r=>eP (aY r) from funext fun r=>(wR r).symm];exact (aJ8 (κ:=eP) aY (fH l)).symm
theorem bG7 (l:List (List Int)) {k:Nat} (h:k<l.length):fH (l.take (k+1))=fH (l.take k)++(if l[k]=[] then [] else [l[k]]):=by
 rw [List.take_succ_eq_append_getElem h,fH,fH,List.filter_append];congr 1;by_cases c:l[k]=[]
 ·rw [if_pos c];simp [c]
 ·rw [if_neg c];simp [c]
theorem bG6 (l:List (List Int)) (k:Nat):(fH (l.take k)).length≤(fH l).length:=
 ((List.take_sublist k l).filter _).length_le
theorem bAU (l:List (List Int)) (hl:l.length<2^31) (hr:∀r∈l,r.length<4294967296) (hu:(fH l).length<20):Pure P 54 [.agg [.t (.sl (l.map aY))]] (.agg [.t (.sl ((dW l).map aY))]):=by
 rw [←bDN];refine aW Tryz.func54 rfl rfl (by simp [Tryz.f54]) (by simp [aE,aE.bndL]) (by simp [aE,aE.bndL]) fun B hB hnx=>?_
 simp only [Tryz.f54] at hB ⊢;have hll:(l.map aY).length=l.length:=List.length_map _;refine aD ?_;simp [go_sem];refine jC 3 1 (by simp [go_sem]) ?_;refine bA (α:=Nat×Nat×(Nat→aG)×Nat) (fun (k,a,τ,m)=>k≤l.length∧τ 1= .box [.fsl []]∧τ a= .arr 1 ((fH (l.take k)).map aY)∧1<a∧a<m) (fun (k,a,τ,m)=>⟨sl [(2,.ptr 1 0),(3,.ref a),(7,.t (.sl (l.map aY))),(8,.i l.length),(9,.i k)],τ,m⟩) (fun a=>l.length-a.1) (0,2,_,3) ⟨Nat.zero_le _,by simp [aB],by simp [aB,fH],by decide,by decide⟩ (aH.slots (by simp [go_sem]) rfl rfl) ?_;rintro ⟨k,a,τ,m⟩ ⟨g1,g2,g3,g4,g5⟩;have n1:¬1=m:=by omega
 have n2:¬a=m:=by omega
 have n3:¬1=a:=by omega
 have n4:¬1=m+1:=by omega
 have n5:¬a=1:=by omega
 by_cases hk:k<l.length
 ·have hkk:IntKind.i64.wrap ((k:Int)+1)=((k+1:Nat):Int):=by rw [aO ((k:Int)+1) (by omega)];rfl
  have hget:∀h,(l.map aY)[k]'h=aY l[k]:=fun h=>by simp
  have hrs:=bG7 l hk;have hrl:=hr l[k] (List.getElem_mem _);have hcl:=sF l[k] hrl;have hul:=bG6 l k;have h1:∀y∈(fH (l.take k)).map aY,y.length=1:=by intro y hy;obtain ⟨_,_,rfl⟩:=List.mem_map.1 hy;rfl
  have hlen:((fH (l.take k)).map aY).length=(fH (l.take k)).length:=List.length_map _;have hcap:(fH (l.take k)).length+1≤bH:=by show _≤4294967296;omega
  generalize l[k]=r at *;generalize fH (l.take k)=U at *;by_cases c:r=[]
  ·rw [if_pos c,List.append_nil] at hrs;subst c;refine aI ?_;simp [go_sem,hll,hk,hget,aY,aJ,hkk];exact Next.mk (k+1,a,τ,m) ⟨by omega,g2,by simp only;rw [hrs];exact g3,g4,g5⟩ (aH.slots (by simp [go_sem]) rfl rfl) (by simp only;omega)
  ·rw [if_neg c] at hrs;have hp:0<r.length:=List.length_pos_iff.2 c;have hil:(aJ r).length=r.length:=List.length_map _;refine aI ?_;simp [go_sem,hll,hk,hget,aY,hil,hp];refine aL rfl rfl rfl (args:=[.t (.sl (aJ r))]) (f:=93) (by simp [go_sem]) (by simp [go_sem,hB]) (hcl _ _) ?_;refine aI ?_;simp [go_sem];refine iB ((aH.freeze (q:=m) (sz:=1) (es:=aJ r) (by simp [aB])).trans (aH.slots (l:=[(2,.ptr 1 0),(3,.ref a),(7,.t (.sl (l.map aY))),(8,.i l.length),(9,.i k),(16,.ref a),(18,.t (.sl (aJ r)))]) (by simp [go_sem,bB,n2]) rfl rfl)) ?_;generalize (fH l).length=UL at *;refine aI ?_;simp [go_sem,dC,g3,n2,hlen,h1,hcap,hkk];refine Next.mk (k+1,m+1,_,m+2) ⟨by omega,?_,?_,by simp only;omega,by simp only;omega⟩ (aH.slots (by simp [go_sem]) rfl rfl) (by simp only;omega)
   ·simp [aB,dC,bB.frzL,bB,g2,n1,n3,n4,show ¬m=0 by omega]
   ·simp [aB,hrs,aY]
 ·have:k=l.length:=by omega
  subst this;rw [List.take_length] at g3
  have hsp:=bAT ((fH l).map aY) (fun e he=>by
   obtain ⟨r,hr,rfl⟩:=List.mem_map.1 he
   refine ⟨r,?_,rfl⟩
   have:=(List.mem_filter.1 hr).2
   exact of_decide_eq_true this) (by rw [List.length_map];exact hu) (σ:=τ) (nx:=m) (q:=a) (by omega) g3
  refine aI ?_;simp [go_sem,hll];refine aL rfl rfl rfl (args:=[.ref a,nF]) (f:=94) (by simp [go_sem]) (by simp [go_sem,hB]) hsp ?_;refine aD ?_;simp [go_sem,g2,n3,n5]
structure oY (l:List (List Int)):Prop where
 len:l.length≤20
 row:∀r∈l,r.length≤100∧∀n∈r,0≤n∧n<10
theorem bAO (l:List (List Int)) (hD:oY l):Pure P 63 [.t (.sl (l.map aY))] (.t (.sl (aS (eK l)))):=by
 have hlen:=hD.len;have hpl:=fun k=>zG (K:=100) (l.take k) fun r hr=>(hD.row r (List.mem_of_mem_take hr)).1
 refine aW Tryz.func63 rfl rfl (by simp [Tryz.f63]) (by simp [aE,aE.bndL]) (by simp [aE,aE.bndL]) fun B hB hnx=>?_
 simp only [Tryz.f63] at hB ⊢;have hll:(l.map aY).length=l.length:=List.length_map _;refine aD ?_;simp [go_sem,hll];refine jC 3 1 (by simp [go_sem]) ?_;refine bA (α:=Nat×Nat×(Nat→aG)×Nat) (fun (k,a,τ,m)=>k≤l.length∧τ a= .arr 1 (aS (eK (l.take k)))∧a<m) (fun (k,a,τ,m)=>⟨sl [(3,.ref a),(8,.t (.sl (l.map aY))),(9,.i l.length),(10,.i k)],τ,m⟩) (fun a=>l.length-a.1) (0,0,_,1) ⟨Nat.zero_le _,by simp [aB,eK,aS],by decide⟩ (aH.slots (by simp [go_sem]) rfl rfl) ?_;rintro ⟨k,a,τ,m⟩ ⟨g1,g2,g3⟩;by_cases hk:k<l.length
 rotate_left
 ·have:k=l.length:=by omega
  subst this;rw [List.take_length] at g2;generalize aS (eK l)=rows at *;refine aD ?_;simp [go_sem,hll,g2]
 have hkk:IntKind.i64.wrap ((k:Int)+1)=((k+1:Nat):Int):=by rw [aO ((k:Int)+1) (by omega)];rfl
 have hget:∀h,(l.map aY)[k]'h=aY l[k]:=fun h=>by simp
 have hps:=bAM l hk;have hp:=hpl k;obtain ⟨hrl,hrn⟩:=hD.row l[k] (List.getElem_mem _);have htl:(l.take k).length≤20:=by rw [List.length_take];omega
 have hP:(eK (l.take k)).length≤5000:=by have:(2*100+1)*(l.take k).length≤(2*100+1)*20:=Nat.mul_le_mul_left _ htl;omega
 clear hp htl;generalize l[k]=r at *;generalize eK (l.take k)=P at *;have hil:(aJ r).length=r.length:=List.length_map _;refine aI ?_;simp [go_sem,hll,hk,hget,aY,hil];refine bA (α:=Nat×Nat×(Nat→aG)×Nat) (fun (i,b,τ',m')=>i≤r.length∧τ' b= .arr 1 (aS (P++dS (r.take i)))∧b<m') (fun (i,b,τ',m')=>⟨sl [(3,.ref b),(5,.t (.sl (aJ r))),(8,.t (.sl (l.map aY))),(9,.i l.length),(10,.i k),(14,.t (.sl (aJ r))),(15,.i r.length),(16,.i i)],τ',m'⟩) (fun a=>r.length-a.1) (0,a,τ,m) ⟨Nat.zero_le _,by simp [dS,g2],g3⟩ (aH.slots (by simp [go_sem]) rfl rfl) ?_;clear g2 g3;rintro ⟨i,b,τ',m'⟩ ⟨i1,i2,i3⟩;have hpb:=aD0 (r.take i);rw [List.length_take] at hpb;by_cases hi:i<r.length
 ·have hii:IntKind.i64.wrap ((i:Int)+1)=((i+1:Nat):Int):=by rw [aO ((i:Int)+1) (by omega)];rfl
  have hgi:=gH r hi;have hsn:=aMG (r.take i) r[i];rw [←List.take_succ_eq_append_getElem hi] at hsn;obtain ⟨n0,n1⟩:=hrn r[i] (List.getElem_mem _);generalize r[i]=n at *;obtain ⟨c,rfl⟩:∃c:Nat,n=c:=⟨n.toNat,by omega⟩;rw [Int.toNat_natCast] at hsn;have hln:(P++dS (r.take i)).length≤5300:=by rw [List.length_append];omega
  generalize dS (r.take i)=Q at *;have hbl:(aS (P++Q)).length=(P++Q).length:=List.length_map _;have hone:=aBJ (P++Q);by_cases h0:i=0
  ·subst h0;rw [List.take_zero,if_pos rfl,List.append_nil] at hsn;have hsp:=aGM c (by omega) (P++Q) (by omega) (σ:=τ') (nx:=m') i3 i2;refine aI ?_;simp [go_sem,hil,hi,hgi];refine aL rfl rfl rfl (args:=[.ref b,.i c,.i 10]) (f:=110) (by simp [go_sem]) (by simp [go_sem,hB]) hsp ?_;refine aI ?_;simp [go_sem,aO 1 (by omega)];refine Next.mk (1,m',_,m'+1) ⟨by omega,?_,by simp only;omega⟩ (aH.slots (by simp [go_sem]) rfl rfl) (by simp only;omega);simp only;rw [hsn];simp [aB]
  ·have hi0:0<i:=by omega
   have hne:¬r.take i=[]:=fun e=>by have:=congrArg List.length e;rw [List.length_take,List.length_nil] at this;omega
   rw [if_neg hne] at hsn;have hcap:(P++Q).length+1≤bH:=by show _≤4294967296;omega
   have hsp:=aGM c (by omega) (P++Q++[32]) (by simp only [List.length_append,List.length_cons,List.length_nil] at *;omega) (σ:=aB (aB τ' b .dead) m' (.arr 1 (aS (P++Q++[32])))) (nx:=m'+1) (q:=m') (by omega) (by simp [aB]);rw [aBK (P++Q)] at hsp;generalize hPQ:P++Q=U at *;generalize aS U=rows at *;generalize U.length=N at *;refine aI ?_;simp [go_sem,hil,hi,hgi,hi0,i2,hbl,hone,hcap];refine aL rfl rfl rfl (args:=[.ref m',.i c,.i 10]) (f:=110) (by simp [go_sem]) (by simp [go_sem,hB]) hsp ?_;refine aI ?_;simp [go_sem,hii];refine Next.mk (i+1,m'+1,_,m'+1+1) ⟨by omega,?_,by simp only;omega⟩ (aH.slots (by simp [go_sem]) rfl rfl) (by simp only;omega);simp only;rw [hsn,←List.append_assoc,←List.append_assoc,hPQ];simp [aB]
 ·have:i=r.length:=by omega
  subst this;rw [List.take_length] at i2 hpb;by_cases h0:r=[]
  ·have hz:¬0<r.length:=by rw [h0];simp
   have hlb:nK r=[]:=if_pos h0;have hpn:dS r=[]:=by rw [h0];rfl
   rw [hpn,List.append_nil] at i2;rw [hlb,List.append_nil] at hps;refine aI ?_;simp [go_sem,hil,hz,hkk];exact Next.mk (k+1,b,τ',m') ⟨by omega,by simp only;rw [hps];exact i2,i3⟩ (aH.slots (by simp [go_sem]) rfl rfl) (by simp only;omega)
  ·have hz:0<r.length:=List.length_pos_iff.2 h0;have hlb:nK r=dS r++[10]:=if_neg h0;rw [hlb,←List.append_assoc] at hps;have hln:(P++dS r).length≤5300:=by rw [List.length_append];omega
   have hbl:(aS (P++dS r)).length=(P++dS r).length:=List.length_map _;have hone:=aBJ (P++dS r);have hcap:(P++dS r).length+1≤bH:=by show _≤4294967296;omega
   have hsn:=aBK (P++dS r) 10;generalize P++dS r=U at *;rw [←hps] at hsn;generalize aS U=rows at *;generalize U.length=N at *;refine aI ?_;simp [go_sem,hil,hz,i2,hbl,hone,hcap,hkk];refine Next.mk (k+1,m',_,m'+1) ⟨by omega,?_,by simp only;omega⟩ (aH.slots (by simp [go_sem]) rfl rfl) (by simp only;omega);simp [aB,hsn]
theorem zY {l:List (List Int)} {r:List Int}:r∈dW l↔r∈l∧r≠[]:=by rw [dW,pM,fH,List.mem_filter,decide_eq_true_eq]
theorem bDL (l:List (List Int)):(dW l).length≤l.length:=by rw [dW,mO];exact List.length_filter_le _ _
theorem oY.sort {l:List (List Int)} (h:oY l):oY (dW l):=
 ⟨by have:=bDL l;have:=h.len;omega,fun r hr=>h.row r (zY.1 hr).1⟩
theorem bAL (l:List (List Int)) (hD:oY l) (hu:l.length<20):Pure P 64 [.agg [.t (.sl (l.map aY))]] (.t (.sl (aS (eK (dW l))))):=by
 have hs:=bAU l (by omega) (fun r hr=>by have:=(hD.row r hr).1;omega) (by have:=List.length_filter_le (fun r:List Int=>decide (r≠[])) l;unfold fH;omega);have hp:=bAO (dW l) hD.sort;refine aW Tryz.func64 rfl rfl (by simp [Tryz.f64]) (by simp [aE,aE.bndL]) (by simp [aE,aE.bndL]) fun B hB hnx=>?_
 simp only [Tryz.f64] at hB ⊢;refine aD ?_;simp [go_sem];refine aL rfl rfl rfl (args:=[.agg [.t (.sl (l.map aY))]]) (f:=54) (by simp [go_sem]) (by simp [go_sem,hB]) ((hs).spec _ _) ?_;refine aD ?_;simp [go_sem];refine aL rfl rfl rfl (args:=[.t (.sl ((dW l).map aY))]) (f:=63) (by simp [go_sem]) (by simp [go_sem,hB]) ((hp).spec _ _) ?_;refine aD ?_;simp [go_sem]
def lB (l:List Int) (k:Nat):Int:=((l.take k).drop 1).foldl min (l.getD 0 0)
theorem aWX (l:List Int):lB l 1=l.getD 0 0:=by cases l<;>rfl
theorem aWY (l:List Int) {k:Nat} (h1:1≤k) (h:k<l.length):lB l (k+1)=min (lB l k) l[k]:=by
 have e:(l.take (k+1)).drop 1=(l.take k).drop 1++[l[k]]:=by rw [List.take_succ_eq_append_getElem h,List.drop_append,show 1-(l.take k).length=0 by rw [List.length_take];omega];rfl
 rw [lB,e,List.foldl_append];rfl
theorem bDD (l:List Int) (h0:0<l.length) (hl:l.length<2^62):Pure P 52 [.t (.sl (aJ l))] (.i (lB l l.length)):=by
 generalize hR:lB l l.length=R;refine aW Tryz.func52 rfl rfl (by simp [Tryz.f52]) (by simp [aE,aE.bndL]) (by simp [aE,aE.bndL]) fun B hB hnx=>?_
 simp only [Tryz.f52] at hB ⊢;have hil:(aJ l).length=l.length:=List.length_map _;have hg0:=gH l h0;have c0:¬l.length=0:=by omega
 have e0:l[0]=lB l 1:=by rw [aWX,List.getD_eq_getElem?_getD,List.getElem?_eq_getElem h0];rfl
 have c1:¬(l.length:Int)<1:=by omega
 refine aD ?_;simp [go_sem,hil,c0,c1,h0,hg0,e0];refine bA (α:=Nat) (fun k=>1≤k∧k≤l.length) (fun k=>⟨sl [(0,.t (.sl (aJ l))),(3,.i (lB l k)),(4,.i k)],_,_⟩) (fun k=>l.length-k) 1 ⟨Nat.le_refl _,h0⟩ (aH.slots (by simp [go_sem]) rfl rfl) ?_;rintro k ⟨g0,g1⟩;by_cases hk:k<l.length
 ·have hkk:IntKind.i64.wrap ((k:Int)+1)=((k+1:Nat):Int):=by rw [aO _ (by omega)];rfl
  have hgk:=gH l hk;have hs:=aWY l g0 hk;generalize l[k]=v at *;generalize lB l k=u at *;refine aD ?_;simp [go_sem,hil,hk,hgk,hkk];exact Next.mk (k+1) ⟨by omega,by omega⟩ (aH.slots (by simp [go_sem,hs]) rfl rfl) (by omega)
 ·have:k=l.length:=by omega
  subst this;rw [hR];refine aD ?_;simp [go_sem,hil]
theorem aKZ (b:List Nat):∀f i a l,(∀r∈a,r≠[]∧r.length≤b.length+1)→kH b f i a=some l→∀r∈l,r≠[]∧r.length≤b.length+1
 |0,i,a,l,ha,h=>by simp [kH] at h;subst h;exact ha
 |f+1,i,a,l,ha,h=>by
  rw [kH] at h;split at h
  ·split at h
   ·refine aKZ b f _ _ _ ?_ h;split
    ·exact ha
    ·rename_i hne;intro r hr;rcases List.mem_append.1 hr with hr | hr
     ·exact ha r hr
     ·rw [List.mem_singleton.1 hr];refine ⟨hne,?_⟩;have:=aCX b (b.length+1) i [];simpa [lC] using this
   ·cases h
  ·cases h;exact ha
theorem aC1 (b:List Nat):∀r∈(eA b).1,r≠[]∧r.length≤4097:=by
 unfold eA;split
 ·intro r hr;cases hr
 ·rename_i hl;split
  ·intro r hr;cases hr
  ·rename_i a h;intro r hr;have:=aKZ b _ _ _ _ (fun r hr=>by cases hr) h r hr;exact ⟨this.1,by omega⟩
def xJ (l:List Int):Bool:=decide (lB l l.length<1)
def zE (l:List (List Int)):List (List Int)×Int:=if l.any xJ=true then ([],2) else (l,0)
def jY (b:List Nat):List (List Int)×Int:=if (eA b).2≠0 then ([],(eA b).2) else zE (eA b).1
theorem aCZ (b:List Nat) (hb:b.length<2^63) (hb8:∀c∈b,c<256):Pure P 40 [.t (.sl (aS b))] (.tup [.t (.sl ((eA b).1.map aY)),.i (eA b).2]):=by
 by_cases h:b.length<2^62
 ·exact aK1 b h hb8
 have e:eA b=([],6):=if_pos (by omega);rw [e];refine aW Tryz.func40 rfl rfl (by simp [Tryz.f40]) (by simp [aE,aE.bndL]) (by simp [aE,aE.bndL]) fun B hB hnx=>?_
 simp only [Tryz.f40] at hB ⊢;have c:4096<(b.length:Int):=by omega
 refine aD ?_;simp [go_sem,kZ,c]
theorem y9 (b:List Nat) (hb:b.length<2^63) (hb8:∀c∈b,c<256):Pure P 16 [.t (.sl (aS b))] (.tup [(bI b).1.a,.i (bI b).2]):=by
 by_cases h:b.length<2^62
 ·exact aZV b h hb8
 have e:eA b=([],6):=if_pos (by omega);have e2:bI b=(aA.zero,6):=by rw [bI,e];rfl
 have hp:=aCZ b hb hb8;rw [e] at hp;rw [e2];refine aW Tryz.func16 rfl rfl (by simp [Tryz.f16]) (by simp [aE,aE.bndL]) (by simp [aE,aE.bndL,aA.a,aA.zero]) fun B hB hnx=>?_
 simp only [Tryz.f16] at hB ⊢;refine aD ?_;simp [go_sem];refine aL rfl rfl rfl (args:=[.t (.sl (aS b))]) (f:=40) (by simp [go_sem]) (by simp [go_sem,hB]) ((hp).spec _ _) ?_;refine aD ?_;simp [go_sem,aA.a,aA.zero]
theorem bAK (b:List Nat) (hb:b.length<2^63) (hb8:∀c∈b,c<256):Pure P 20 [.t (.sl (aS b))] (.tup [.agg [.t (.sl ((jY b).1.map aY))],.i (jY b).2]):=by
 generalize hR:jY b=R;refine aW Tryz.func20 rfl rfl (by simp [Tryz.f20]) (by simp [aE,aE.bndL]) (by simp [aE,aE.bndL]) fun B hB hnx=>?_
 simp only [Tryz.f20] at hB ⊢;rw [jY] at hR;have hrow:=aC1 b;have hlen:=yR b;have hp:=aCZ b hb hb8;refine aD ?_;simp [go_sem];refine aL rfl rfl rfl (args:=[.t (.sl (aS b))]) (f:=40) (by simp [go_sem]) (by simp [go_sem,hB]) ((hp).spec _ _) ?_;generalize (eA b).1=l at *;generalize (eA b).2=e at *;by_cases ce:e=0
 rotate_left
 ·rw [if_pos ce] at hR;subst hR;refine aD ?_;simp [go_sem,ce]
 ·subst ce;rw [if_neg (by simp),zE] at hR;have hll:(l.map aY).length=l.length:=List.length_map _;refine aD ?_;simp [go_sem,hll];refine bA (α:=Nat) (fun k=>k≤l.length∧∀r∈l.take k,xJ r=false) (fun k=>⟨sl [(2,.ptr 0 0),(3,.i 0),(4,.t (.sl (l.map aY))),(17,.t (.sl (l.map aY))),(18,.i l.length),(19,.i k)],_,_⟩) (fun k=>l.length-k) 0 ⟨Nat.zero_le _,fun r hr=>by simp at hr⟩ (aH.slots (by simp [go_sem]) rfl rfl) ?_;rintro k ⟨g0,g1⟩;by_cases hk:k<l.length
  ·have hkk:IntKind.i64.wrap ((k:Int)+1)=((k+1:Nat):Int):=by rw [aO _ (by omega)];rfl
   have hgk:∀h,(l.map aY)[k]'h=[.sl (aJ l[k])]:=fun h=>by simp [aY]
   have hr:=hrow l[k] (List.getElem_mem _);have hm:=bDD l[k] (List.length_pos_iff.2 hr.1) (by omega);have htk:l.take (k+1)=l.take k++[l[k]]:=List.take_succ_eq_append_getElem hk;have hmem:l[k]∈l:=List.getElem_mem _;generalize l[k]=r at *;refine aD ?_;simp [go_sem,hll,hk,hgk];refine aL rfl rfl rfl (args:=[.t (.sl (aJ r))]) (f:=52) (by simp [go_sem]) (by simp [go_sem,hB]) ((hm).spec _ _) ?_;by_cases c:lB r r.length<1
   ·have hany:l.any xJ=true:=List.any_eq_true.2 ⟨r,hmem,decide_eq_true c⟩;rw [if_pos hany] at hR;subst hR;refine aD ?_;simp [go_sem,c]
   ·refine aD ?_;simp [go_sem,c,hkk];refine Next.mk (k+1) ⟨by omega,fun r' hr'=>?_⟩ (aH.slots (by simp [go_sem]) rfl rfl) (by omega);rw [htk] at hr';rcases List.mem_append.1 hr' with h | h
    ·exact g1 r' h
    ·rw [List.mem_singleton.1 h];exact decide_eq_false c
  ·have:k=l.length:=by omega
   subst this;rw [List.take_length] at g1;have hany:¬l.any xJ=true:=by rw [List.any_eq_true];rintro ⟨r,h1,h2⟩;rw [g1 r h1] at h2;cases h2
   rw [if_neg hany] at hR;subst hR;refine aD ?_;simp [go_sem,hll]
theorem x5 (t:Nat):Int.fdiv (t:Int) 2=((t / 2:Nat):Int):=by rw [Int.fdiv_eq_ediv_of_nonneg _ (by omega)];omega
theorem sO {S:List (List T)} {k:Nat} {y:List T} (h:S[k]? =some y):k<S.length∧∀h:k<S.length,S[k]'h=y:=by obtain ⟨h1,h2⟩:=List.getElem?_eq_some_iff.1 h;exact ⟨h1,fun _=>h2⟩
theorem aO4 {X Z:List (List T)} {x y:List T} (hx:x.length=11) (hy:y.length=11):Two (X++x :: y :: Z) X.length (X.length+1) x y:=by have:=aFH (X:=X) (Y:=[]) (Z:=Z) hx hy;simpa using this
structure aAL (pre U V post:List (List T)) (a m b:Nat):Prop where
 ha:a=pre.length
 hm:m=a+U.length
 hb:b=m+V.length
 u0:0<U.length
 v0:0<V.length
 su:dF aP U
 sv:dF aP V
 kr:∀e∈U++V,KR e
 len:∀e∈pre++(U++(V++post)),e.length=11
 big:(pre++(U++(V++post))).length<2^31
abbrev vZ:FuncId:=285
theorem bEL (pre U V post:List (List T)) (a m b:Nat) (hH:aAL pre U V post a m b) (hU1:U.length=1):∀{σ:Nat→aG} {nx q:Nat},q<nx→σ q= .arr 11 (pre++(U++(V++post)))→
  aT P vZ [.ref q,.i a,.i m,.i b,cU] σ nx (.tup []) (aB σ q (.arr 11 (pre++(aU aP (U++V)++post)))) nx:=by
 intro σ nx q hq hσq;obtain ⟨ha,hm,hb,u0,v0,su,sv,kr,len,big⟩:=hH;simp only [List.length_append] at big;refine fO Tryz.func285 rfl rfl (by simp [Tryz.f285]) hq (by simp [dG]) (by simp [aE,aE.bndL]) fun hk B hB hnx hσ=>?_
 simp only [Tryz.f285] at hB ⊢;obtain ⟨S,hS⟩:∃S,S=pre++(U++(V++post)):=⟨_,rfl⟩;have hSl:S.length=a+(U.length+(V.length+post.length)):=by rw [hS];simp only [List.length_append];omega
 have hσS:aB σ q (.arr 11 S)=σ:=by rw [hS,←hσq];exact pU rfl
 have hSU:∀i (h:i<U.length),S[a+i]? =some U[i]:=fun i h=>by rw [hS,ha,List.getElem?_append_right (by omega),show pre.length+i-pre.length=i by omega,List.getElem?_append_left h,List.getElem?_eq_getElem h]
 have hSV:∀i (h:i<V.length),S[m+i]? =some V[i]:=fun i h=>by rw [hS,hm,ha,List.getElem?_append_right (by omega),show pre.length+U.length+i-pre.length=U.length+i by omega,List.getElem?_append_right (by omega),show U.length+i-U.length=i by omega,List.getElem?_append_left h,List.getElem?_eq_getElem h]
 have hlU:∀i (h:i<U.length),(U[i]).length=11:=fun i h=>len _ (by simp)
 have hlV:∀i (h:i<V.length),(V[i]).length=11:=fun i h=>len _ (by simp)
 obtain ⟨x,rfl⟩:∃x,U=[x]:=by
  match U,hU1 with
  |[x],_=>exact ⟨x,rfl⟩
 have w1:IntKind.i64.wrap ((m:Int)-a)=1:=by rw [aO _ (by omega)];omega
 have hSx:=hSU 0 (by simp);simp only [Nat.add_zero,List.getElem_cons_zero] at hSx;have hKx:KR x:=kr x (by simp);have hxl:=hKx.len;refine aD ?_;simp [go_sem,w1]
 refine bA (α:=Nat×Nat) (fun (i,j)=>i≤j∧j≤V.length∧(∀e∈V.take i,aP e<aP x)∧∀e∈V.drop j,aP x≤aP e) (fun (i,j)=>⟨sl [(0,.ref q),(1,.i a),(2,.i m),(3,.i b),(4,cU),(10,.i (m+i:Nat)),(11,.i (m+j:Nat))],aB σ q (.arr 11 S),nx⟩) (fun (i,j)=>j-i) (0,V.length)
  ⟨Nat.zero_le _,Nat.le_refl _,by simp,by simp⟩ (aH.slots (by simp [go_sem,hb]) hσS rfl) ?_
 rintro ⟨i,j⟩ ⟨i1,i2,i3,i4⟩;by_cases c:i<j
 ·obtain ⟨t,ht⟩:∃t,t=m+i+(m+j):=⟨_,rfl⟩;obtain ⟨h',hh'⟩:∃h',h'=(i+j) / 2:=⟨_,rfl⟩;obtain ⟨hh,hhh⟩:∃hh,hh=m+h':=⟨_,rfl⟩;have wA:IntKind.i64.wrap ((m:Int)+i+(m+j))=(t:Int):=by rw [aO _ (by omega)];omega
  have wB:IntKind.u64.wrap (t:Int)=t:=u64 _ (by omega);have fd:Int.fdiv (t:Int) 2=(hh:Int):=by rw [x5];omega
  have wC:IntKind.i64.wrap (hh:Int)=hh:=aO _ (by omega);have hV':h'<V.length:=by omega
  have hgh:=hSV h' hV';rw [←hhh] at hgh;have hKy:KR V[h']:=kr _ (by simp)
  have htk:∀e∈V.take (h'+1),aP e≤aP V[h']:=fun e he=>by
   rw [List.take_succ_eq_append_getElem hV'] at he;have h2:=vV sv (h'+1);rw [List.take_succ_eq_append_getElem hV',dF,List.pairwise_append] at h2;rcases List.mem_append.1 he with he | he
   ·exact h2.2.2 e he _ (by simp)
   ·rw [List.mem_singleton.1 he];exact Int.le_refl _
  have hdk:∀e∈V.drop h',aP V[h']≤aP e:=fun e he=>by
   rw [List.drop_eq_getElem_cons hV'] at he;have h2:=vU sv h';rw [List.drop_eq_getElem_cons hV',dF,List.pairwise_cons] at h2;rcases List.mem_cons.1 he with rfl | he
   ·exact Int.le_refl _
   ·exact h2.1 e he
  generalize V[h']=y at *;obtain ⟨y1,y2⟩:=sO hgh;obtain ⟨x1,x2⟩:=sO hSx;have hyl:=hKy.len;have k1:=kO hyl;have k2:=kO hxl;have d1:hh*11 / 11=hh:=by omega
  have d2:hh*11 % 11=0:=by omega
  have d3:a*11 / 11=a:=by omega
  have d4:a*11 % 11=0:=by omega
  have hcm:=yI y x hKy hKx;have hneg:=uQ (aP y) (aP x);have wD:IntKind.i64.wrap ((hh:Int)+1)=(m:Int)+(h'+1:Nat):=by rw [aO _ (by omega)];omega
  refine aI ?_;simp [go_sem,c,wA,wB,fd,wC];refine bK [] rfl (by rw [hB];kernel_rfl) ?_;refine aD ?_;simp [go_sem,y1,y2,x1,x2,hyl,hxl,k1,k2,d1,d2,d3,d4];refine bQ rfl rfl rfl (args:=[.agg (y.map .t),.agg (x.map .t)]) (f:=226) (by simp [go_sem]) (hcm) ?_;by_cases c2:aP y<aP x
  ·refine aD ?_;simp [go_sem,hneg,c2,wD];exact Next.mk (h'+1,j) ⟨by simp only;omega,i2,fun e he=>by have:=htk e he;omega,i4⟩ (aH.slots (by simp [go_sem]) rfl rfl) (by simp only;omega)
  ·refine aD ?_;simp [go_sem,hneg,c2];exact Next.mk (i,h') ⟨by simp only;omega,by simp only;omega,i3,fun e he=>by have:=hdk e he;omega⟩ (aH.slots (by simp [go_sem,hhh]) rfl rfl) (by simp only;omega)
 ·have hij:i=j:=by omega
  subst hij;have hres:aU aP ([x]++V)=V.take i++x :: V.drop i:=by have h2:V=V.take i++V.drop i:=(List.take_append_drop _ _).symm;have:=aZJ (κ:=aP) (u:=V.take i) (v:=V.drop i) (x:=x) (by rw [←h2];exact sv) i3 i4;rw [←h2] at this;exact this
  obtain ⟨Fl,hFl⟩:∃Fl:Nat→List (List T),∀k,Fl k=pre++(V.take k++x :: (V.drop k++post)):=⟨_,fun _=>rfl⟩;have wE:IntKind.i64.wrap ((m:Int)+i-1)=(a:Int)+i:=by rw [aO _ (by simp only [List.length_cons,List.length_nil] at hm;omega)];simp only [List.length_cons,List.length_nil] at hm;omega
  refine aI ?_;simp [go_sem,c];refine bA (α:=Nat) (fun k=>k≤i) (fun k=>⟨sl [(0,.ref q),(1,.i a),(2,.i m),(3,.i b),(4,cU),(10,.i (m+i:Nat)),(13,.i (a+k:Nat))],aB σ q (.arr 11 (Fl k)),nx⟩) (fun k=>i-k) 0 (Nat.zero_le _) (aH.slots (by simp [go_sem]) (by rw [hFl,hS];simp) rfl) ?_;intro k hki;by_cases c3:k<i
  ·have hkV:k<V.length:=by omega
   have hs1:Fl k=(pre++V.take k)++x :: V[k] :: (V.drop (k+1)++post):=by rw [hFl,List.drop_eq_getElem_cons hkV];simp only [List.append_assoc,List.cons_append]
   have hs2:Fl (k+1)=(pre++V.take k)++V[k] :: x :: (V.drop (k+1)++post):=by rw [hFl,List.take_succ_eq_append_getElem hkV];simp only [List.append_assoc,List.cons_append,List.nil_append]
   have hyl:=hlV k hkV;generalize V[k]=y at *;have htwo:=aO4 (X:=pre++V.take k) (Z:=V.drop (k+1)++post) hxl hyl;have hset:=aYL (pre++V.take k) (V.drop (k+1)++post) x y;rw [←hs1] at htwo hset;rw [←hs2] at hset;have e1:(pre++V.take k).length=a+k:=by rw [List.length_append,List.length_take];omega
   rw [e1] at htwo hset;obtain ⟨u,hu⟩:∃u,u=a+k:=⟨_,rfl⟩;obtain ⟨v,hv⟩:∃v,v=u+1:=⟨_,rfl⟩;rw [←hu,←hv] at htwo hset;obtain ⟨t1,t2,t3,t4,t5,t6⟩:=htwo;have hne:¬u=v:=by omega
   have hne':¬v=u:=by omega
   have d1:u*11 / 11=u:=by omega
   have d2:u*11 % 11=0:=by omega
   have d3:v*11 / 11=v:=by omega
   have d4:v*11 % 11=0:=by omega
   have k1:=kO t5;have k2:=kO t6;have k3:cW x 0 y=y:=qC (by omega);have k4:cW y 0 x=x:=qC (by omega);have w3:(a:Int)+k=(u:Int):=by omega
   have w4:IntKind.i64.wrap ((u:Int)+1)=(v:Int):=by rw [aO _ (by omega)];omega
   have c3':(u:Int)<(a:Int)+i:=by omega
   generalize Fl k=S1 at *;generalize hS':Fl (k+1)=S2 at *;refine aI ?_;simp [go_sem,w3,wE,c3'];refine cT [15,17] [2,3,4] rfl (by rw [hB];kernel_rfl) (by kernel_rfl) fun ht hf'=>?_
   refine aD ?_;simp [go_sem,ht,hf',w3,w4,t1,t2,t3,t4,d1,d2,d3,d4,t5,t6,k1,k2,k3,k4,wG,hne,hne'];refine Next.mk (k+1) (by omega) (aH.slots (by simp [go_sem,hv,hu];omega) ?_ rfl) (by omega);rw [hS',←hset];funext j;by_cases e:j=q<;>simp [aB,e]
  ·have hki':k=i:=by omega
   subst hki';refine aI ?_;simp [go_sem,wE];rw [hFl];simp only [List.append_assoc,List.cons_append] at hres ⊢;exact ⟨by rw [show aU aP (x :: V)=V.take k++x :: V.drop k from hres];simp,fun j h1 h2 h3=>absurd h3 h2⟩
theorem bEM (pre U V post:List (List T)) (a m b:Nat) (hH:aAL pre U V post a m b) (hU1:¬U.length=1) (hV1:V.length=1):∀{σ:Nat→aG} {nx q:Nat},q<nx→σ q= .arr 11 (pre++(U++(V++post)))→
  aT P vZ [.ref q,.i a,.i m,.i b,cU] σ nx (.tup []) (aB σ q (.arr 11 (pre++(aU aP (U++V)++post)))) nx:=by
 intro σ nx q hq hσq;obtain ⟨ha,hm,hb,u0,v0,su,sv,kr,len,big⟩:=hH;simp only [List.length_append] at big;refine fO Tryz.func285 rfl rfl (by simp [Tryz.f285]) hq (by simp [dG]) (by simp [aE,aE.bndL]) fun hk B hB hnx hσ=>?_
 simp only [Tryz.f285] at hB ⊢;obtain ⟨S,hS⟩:∃S,S=pre++(U++(V++post)):=⟨_,rfl⟩;have hSl:S.length=a+(U.length+(V.length+post.length)):=by rw [hS];simp only [List.length_append];omega
 have hσS:aB σ q (.arr 11 S)=σ:=by rw [hS,←hσq];exact pU rfl
 have hSU:∀i (h:i<U.length),S[a+i]? =some U[i]:=fun i h=>by rw [hS,ha,List.getElem?_append_right (by omega),show pre.length+i-pre.length=i by omega,List.getElem?_append_left h,List.getElem?_eq_getElem h]
 have hSV:∀i (h:i<V.length),S[m+i]? =some V[i]:=fun i h=>by rw [hS,hm,ha,List.getElem?_append_right (by omega),show pre.length+U.length+i-pre.length=U.length+i by omega,List.getElem?_append_right (by omega),show U.length+i-U.length=i by omega,List.getElem?_append_left h,List.getElem?_eq_getElem h]
 have hlU:∀i (h:i<U.length),(U[i]).length=11:=fun i h=>len _ (by simp)
 have hlV:∀i (h:i<V.length),(V[i]).length=11:=fun i h=>len _ (by simp)
 have w1:IntKind.i64.wrap ((m:Int)-a)=(U.length:Int):=by rw [aO _ (by omega)];omega
 have hU1':¬(U.length:Int)=1:=by omega
 obtain ⟨y,rfl⟩:∃y,V=[y]:=by
  match V,hV1 with
  |[y],_=>exact ⟨y,rfl⟩
 have w2:IntKind.i64.wrap ((b:Int)-m)=1:=by rw [aO _ (by simp only [List.length_cons,List.length_nil] at hb;omega)];simp only [List.length_cons,List.length_nil] at hb;omega
 have hSy:=hSV 0 (by simp);simp only [Nat.add_zero,List.getElem_cons_zero] at hSy;have hKy:KR y:=kr y (by simp);have hyl:=hKy.len;refine aD ?_;simp [go_sem,w1,hU1',hU1,w2]
 refine bA (α:=Nat×Nat) (fun (i,j)=>i≤j∧j≤U.length∧(∀e∈U.take i,aP e≤aP y)∧∀e∈U.drop j,aP y<aP e) (fun (i,j)=>⟨sl [(0,.ref q),(1,.i a),(2,.i m),(3,.i b),(4,cU),(14,.i (a+i:Nat)),(15,.i (a+j:Nat))],aB σ q (.arr 11 S),nx⟩) (fun (i,j)=>j-i) (0,U.length)
  ⟨Nat.zero_le _,Nat.le_refl _,by simp,by simp⟩ (aH.slots (by simp [go_sem,hm]) hσS rfl) ?_
 rintro ⟨i,j⟩ ⟨i1,i2,i3,i4⟩;by_cases c:i<j
 ·obtain ⟨t,ht⟩:∃t,t=a+i+(a+j):=⟨_,rfl⟩;obtain ⟨h',hh'⟩:∃h',h'=(i+j) / 2:=⟨_,rfl⟩;obtain ⟨hh,hhh⟩:∃hh,hh=a+h':=⟨_,rfl⟩;have wA:IntKind.i64.wrap ((a:Int)+i+(a+j))=(t:Int):=by rw [aO _ (by omega)];omega
  have wB:IntKind.u64.wrap (t:Int)=t:=u64 _ (by omega);have fd:Int.fdiv (t:Int) 2=(hh:Int):=by rw [x5];omega
  have wC:IntKind.i64.wrap (hh:Int)=hh:=aO _ (by omega);have hU':h'<U.length:=by omega
  have hgh:=hSU h' hU';rw [←hhh] at hgh;have hKx:KR U[h']:=kr _ (by simp)
  have htk:∀e∈U.take (h'+1),aP e≤aP U[h']:=fun e he=>by
   rw [List.take_succ_eq_append_getElem hU'] at he;have h2:=vV su (h'+1);rw [List.take_succ_eq_append_getElem hU',dF,List.pairwise_append] at h2;rcases List.mem_append.1 he with he | he
   ·exact h2.2.2 e he _ (by simp)
   ·rw [List.mem_singleton.1 he];exact Int.le_refl _
  have hdk:∀e∈U.drop h',aP U[h']≤aP e:=fun e he=>by
   rw [List.drop_eq_getElem_cons hU'] at he;have h2:=vU su h';rw [List.drop_eq_getElem_cons hU',dF,List.pairwise_cons] at h2;rcases List.mem_cons.1 he with rfl | he
   ·exact Int.le_refl _
   ·exact h2.1 e he
  generalize U[h']=x at *;obtain ⟨x1,x2⟩:=sO hgh;obtain ⟨y1,y2⟩:=sO hSy;have hxl:=hKx.len;have k1:=kO hyl;have k2:=kO hxl;have d1:hh*11 / 11=hh:=by omega
  have d2:hh*11 % 11=0:=by omega
  have d3:m*11 / 11=m:=by omega
  have d4:m*11 % 11=0:=by omega
  have hcm:=yI y x hKy hKx;have hneg:=uQ (aP y) (aP x);have wD:IntKind.i64.wrap ((hh:Int)+1)=(a:Int)+(h'+1:Nat):=by rw [aO _ (by omega)];omega
  refine aI ?_;simp [go_sem,c,wA,wB,fd,wC];refine bK [] rfl (by rw [hB];kernel_rfl) ?_;refine aD ?_;simp [go_sem,y1,y2,x1,x2,hyl,hxl,k1,k2,d1,d2,d3,d4];refine bQ rfl rfl rfl (args:=[.agg (y.map .t),.agg (x.map .t)]) (f:=226) (by simp [go_sem]) (hcm) ?_;by_cases c2:aP y<aP x
  ·refine aD ?_;simp [go_sem,hneg,c2];exact Next.mk (i,h') ⟨by simp only;omega,by simp only;omega,i3,fun e he=>by have:=hdk e he;omega⟩ (aH.slots (by simp [go_sem,hhh]) rfl rfl) (by simp only;omega)
  ·refine aD ?_;simp [go_sem,hneg,c2,wD];exact Next.mk (h'+1,j) ⟨by simp only;omega,i2,fun e he=>by have:=htk e he;omega,i4⟩ (aH.slots (by simp [go_sem]) rfl rfl) (by simp only;omega)
 ·have hij:i=j:=by omega
  subst hij;have hres:aU aP (U++[y])=U.take i++y :: U.drop i:=by have h2:U=U.take i++U.drop i:=(List.take_append_drop _ _).symm;have:=aZK (κ:=aP) (u:=U.take i) (v:=U.drop i) (y:=y) (by rw [←h2];exact su) i3 i4;rw [←h2] at this;exact this
  obtain ⟨Fl,hFl⟩:∃Fl:Nat→List (List T),∀k,Fl k=pre++(U.take k++y :: (U.drop k++post)):=⟨_,fun _=>rfl⟩;refine aI ?_;simp [go_sem,c];refine bA (α:=Nat) (fun k=>i≤k∧k≤U.length) (fun k=>⟨sl [(0,.ref q),(1,.i a),(2,.i m),(3,.i b),(4,cU),(14,.i (a+i:Nat)),(17,.i (a+k:Nat))],aB σ q (.arr 11 (Fl k)),nx⟩) (fun k=>k) U.length ⟨i2,Nat.le_refl _⟩ (aH.slots (by simp [go_sem,hm]) (by rw [hFl,hS];simp) rfl) ?_;rintro k ⟨hki,hkU⟩;by_cases c3:i<k
  ·obtain ⟨k,rfl⟩:∃k',k=k'+1:=⟨k-1,by omega⟩;have hkU':k<U.length:=by omega
   have hs1:Fl (k+1)=(pre++U.take k)++U[k] :: y :: (U.drop (k+1)++post):=by rw [hFl,List.take_succ_eq_append_getElem hkU'];simp only [List.append_assoc,List.cons_append,List.nil_append]
   have hs2:Fl k=(pre++U.take k)++y :: U[k] :: (U.drop (k+1)++post):=by rw [hFl,List.drop_eq_getElem_cons hkU'];simp only [List.append_assoc,List.cons_append]
   have hzl:=hlU k hkU';generalize U[k]=z at *;have htwo:=aO4 (X:=pre++U.take k) (Z:=U.drop (k+1)++post) hzl hyl;have hset:=aDE (pre++U.take k) (U.drop (k+1)++post) z y;rw [←hs1] at htwo hset;rw [←hs2] at hset;have e1:(pre++U.take k).length=a+k:=by rw [List.length_append,List.length_take];omega
   rw [e1] at htwo hset;obtain ⟨u,hu⟩:∃u,u=a+k:=⟨_,rfl⟩;obtain ⟨v,hv⟩:∃v,v=u+1:=⟨_,rfl⟩;rw [←hu,←hv] at htwo hset;obtain ⟨t1,t2,t3,t4,t5,t6⟩:=htwo;have hne:¬u=v:=by omega
   have hne':¬v=u:=by omega
   have d1:u*11 / 11=u:=by omega
   have d2:u*11 % 11=0:=by omega
   have d3:v*11 / 11=v:=by omega
   have d4:v*11 % 11=0:=by omega
   have k1:=kO t5;have k2:=kO t6;have k3:cW z 0 y=y:=qC (by omega);have k4:cW y 0 z=z:=qC (by omega);have w3:(a:Int)+(k+1)=(v:Int):=by omega
   have w4:IntKind.i64.wrap ((v:Int)-1)=(u:Int):=by rw [aO _ (by omega)];omega
   have c3':(a:Int)+i<(v:Int):=by omega
   generalize Fl (k+1)=S1 at *;generalize hS':Fl k=S2 at *;refine aI ?_;simp [go_sem,w3,c3'];refine cT [15,17] [2,3,4] rfl (by rw [hB];kernel_rfl) (by kernel_rfl) fun ht hf'=>?_
   refine aD ?_;simp [go_sem,ht,hf',w3,w4,t1,t2,t3,t4,d1,d2,d3,d4,t5,t6,k1,k2,k3,k4,wG,hne,hne'];refine Next.mk k ⟨by omega,by omega⟩ (aH.slots (by simp [go_sem,hu]) ?_ rfl) (by omega);rw [hS',←hset];funext j;by_cases e:j=q<;>simp [aB,e]
  ·have hki':k=i:=by omega
   subst hki';refine aI ?_;simp [go_sem];rw [hFl];exact ⟨by rw [hres];simp,fun j h1 h2 h3=>absurd h3 h2⟩
end Go.Proofs.YtnoifgjiipgpoaaGreatDoor
