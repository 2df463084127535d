/- Parts of the proof. -/
import Derived.Test.YtnoifgjiipgpoaaGreatDoorMJ
import Derived.Test.YtnoifgjiipgpoaaGreatDoorRows
import Derived.KernelRfl
import Derived.LaidLaws
import Derived.Handed
import Derived.SevenTiedAt
set_option linter.all false
set_option maxHeartbeats 4000000
namespace Go.Proofs.YtnoifgjiipgpoaaGreatDoor
open Go Go.Proofs.YtnoifgjiipgpoaaGreatDoor.R
set_option maxRecDepth 4000
set_option maxHeartbeats 1000000
def lT:List Nat:=[49,32,48,32,49,48,48]
theorem aMD:cF lT=(⟨1,0,100⟩,0):=by
 have h:eA lT=([[1,0,100]],0):=by decide+kernel
 rw [cF,h,if_neg (by decide),rJ,if_pos (by decide),if_pos (by decide)];rfl
theorem bC8:(small.search ⟨1,0,100⟩).plan=[[1,2]]:=by decide+kernel
theorem bDC:eK (dW [[1,2]])=[49,32,50,10]:=by decide+kernel
theorem bDB:(dD kL lT).status=2∧(dD kL lT).text=[49,32,50,10]∧(dD kL lT).low=12∧(dD kL lT).up=12:=by
 obtain ⟨e1,e2,e3,e4,e5⟩:=bDA;have e6:=bC8;have hs:dD kL lT=small.ans (small.search ⟨1,0,100⟩) (eS 1):=by rw [dD,aOG,aMD,if_neg (by decide),if_neg (by decide)]
 rw [hs,aA.ans];generalize small.search ⟨1,0,100⟩=r at *;refine ⟨e1,?_,e3,e2⟩;simp only;rw [if_pos (by rw [e2];decide),e6];exact bDC
theorem aGW:Pure P 11 [] (.b true):=by
 refine aW Tryz.func11 rfl rfl (by simp [Tryz.f11]) (by simp [aE,aE.bndL]) (by simp [aE,aE.bndL]) fun B hB hnx=>?_
 simp only [Tryz.f11] at hB ⊢;have hs:=aEZ kL lT (by decide) (by decide) (by decide) (by decide) (by rw [aOG];decide) (by rw [aMD];decide);obtain ⟨e1,e2,e3,e4⟩:=bDB;rw [dA.a,dA.cs,e1,e2,e3,e4] at hs;generalize aS (dD kL lT).cert=C at *;refine aD ?_;simp [go_sem];refine aL rfl rfl rfl (args:=[]) (f:=29) (by simp [go_sem]) (by simp [go_sem,hB]) ((bC9).spec _ _) ?_;refine bG hB 1 ?_;simp [go_sem,bC7];refine aF1 (es:=aS lT) rfl rfl rfl rfl rfl tR rfl wI rfl (by simp [go_sem,aS,lT]) (by simp [go_sem,hB]) (by simp [go_sem,hB]) ?_;refine aD ?_;simp [go_sem];refine aL rfl rfl rfl (args:=[.t (.sl (aS kL)),.t (.sl (aS lT))]) (f:=14) (by simp [go_sem]) (by simp [go_sem,hB]) ((hs).spec _ _) ?_;refine aD ?_;simp [go_sem,aFI]
def rA (i o:List Nat):Bool:=decide (i.length≤6000)&&decide (o.length≤6000)&&decide ((bI i).1.stops.length≤7)&&decide ((cF o).1.width≤40)
theorem aIO (i o:List Nat) (hi:i.length<2^63) (hi8:∀c∈i,c<256) (ho:o.length<2^63) (ho8:∀c∈o,c<256):Pure P 12 [.t (.sl (aS i)),.t (.sl (aS o))] (.b (rA i o)):=by
 generalize hR:rA i o=R;refine aW Tryz.func12 rfl rfl (by simp [Tryz.f12]) (by simp [aE,aE.bndL]) (by simp [aE,aE.bndL]) fun B hB hnx=>?_
 simp only [Tryz.f12] at hB ⊢;rw [rA] at hR;have h1:=y9 i hi hi8;have h2:=aDU o ho ho8;generalize (bI i).1=x at *;generalize (bI i).2=e at *;generalize (cF o).1=p at *;generalize (cF o).2=f at *;have hsl:(x.stops.map aR.t).length=x.stops.length:=List.length_map _;refine aD ?_;simp [go_sem];refine aL rfl rfl rfl (args:=[.t (.sl (aS i))]) (f:=16) (by simp [go_sem]) (by simp [go_sem,hB]) ((h1).spec _ _) ?_;refine aD ?_;simp [go_sem,aA.a];refine aL rfl rfl rfl (args:=[.t (.sl (aS o))]) (f:=17) (by simp [go_sem]) (by simp [go_sem,hB]) ((h2).spec _ _) ?_;by_cases c1:(i.length:Int)≤6000
 rotate_left
 ·have d1:¬i.length≤6000:=by omega
  have:R=false:=by rw [←hR];simp [d1]
  refine aD ?_;simp [go_sem,aV.a,aV.cs,kZ,hsl,c1,this]
 have d1:i.length≤6000:=by omega
 by_cases c2:(o.length:Int)≤6000
 rotate_left
 ·have d2:¬o.length≤6000:=by omega
  have:R=false:=by rw [←hR];simp [d2]
  refine aD ?_;simp [go_sem,aV.a,aV.cs,kZ,hsl,c1,c2,this]
 have d2:o.length≤6000:=by omega
 by_cases c3:(x.stops.length:Int)≤7
 rotate_left
 ·have d3:¬x.stops.length≤7:=by omega
  have:R=false:=by rw [←hR];simp [d3]
  refine aD ?_;simp [go_sem,aV.a,aV.cs,kZ,hsl,c1,c2,c3,this]
 have d3:x.stops.length≤7:=by omega
 have:R=decide (p.width≤40):=by rw [←hR];simp [d1,d2,d3]
 refine aD ?_;simp [go_sem,aV.a,aV.cs,kZ,hsl,c1,c2,c3,this]
theorem aIN {i o:List Nat} (h:rA i o=true):(bI i).1.stops.length≤7∧(cF o).1.width≤40:=by simp only [rA,Bool.and_eq_true,decide_eq_true_eq] at h;exact ⟨h.1.2,h.2⟩
theorem aOH {i o:List Nat} (e:(bI i).2≠0):dD i o=eS 0:=by rw [dD,if_pos e]
theorem aOI {i o:List Nat} (e:(bI i).2=0) (f:(cF o).2≠0):dD i o=eS 1:=by rw [dD,if_neg (by simp [e]),if_pos f]
theorem aEY {i o:List Nat} (e:(bI i).2=0) (f:(cF o).2=0):dD i o=(bI i).1.ans ((bI i).1.search (cF o).1) (eS 1):=by rw [dD,if_neg (by simp [e]),if_neg (by simp [f])]
theorem bH1 (i o:List Nat) (hi:i.length<2^63) (hi8:∀c∈i,c<256) (ho:o.length<2^63) (ho8:∀c∈o,c<256):Pure P 4 [.t (.sl (aS i)),.t (.sl (aS o))] (.b true):=by
 refine aW Tryz.func4 rfl rfl (by simp [Tryz.f4]) (by simp [aE,aE.bndL]) (by simp [aE,aE.bndL]) fun B hB hnx=>?_
 simp only [Tryz.f4] at hB ⊢;have hf:=aIO i o hi hi8 ho ho8;have h1:=y9 i hi hi8;have h2:=aDU o ho ho8;have hinf:bF=1152921504606846976:=rfl;refine aD ?_;simp [go_sem];refine aL rfl rfl rfl (args:=[]) (f:=11) (by simp [go_sem]) (by simp [go_sem,hB]) ((aGW).spec _ _) ?_;refine aD ?_;simp [go_sem];refine aL rfl rfl rfl (args:=[.t (.sl (aS i)),.t (.sl (aS o))]) (f:=12) (by simp [go_sem]) (by simp [go_sem,hB]) ((hf).spec _ _) ?_;cases cf:rA i o with
 |false=>refine aD ?_;simp [go_sem]
 |true=>
  obtain ⟨c1,c2⟩:=aIN cf;have hs:=aEZ i o hi hi8 ho ho8 c1 c2;refine aD ?_;simp [go_sem];refine aL rfl rfl rfl (args:=[.t (.sl (aS i))]) (f:=16) (by simp [go_sem]) (by simp [go_sem,hB]) ((h1).spec _ _) ?_;refine aD ?_;simp [go_sem,aA.a];refine aL rfl rfl rfl (args:=[.t (.sl (aS o))]) (f:=17) (by simp [go_sem]) (by simp [go_sem,hB]) ((h2).spec _ _) ?_;refine aD ?_;simp [go_sem,aV.a,aV.cs];refine aL rfl rfl rfl (args:=[.t (.sl (aS i)),.t (.sl (aS o))]) (f:=14) (by simp [go_sem]) (by simp [go_sem,hB]) ((hs).spec _ _) ?_;by_cases e:(bI i).2=0
  ·by_cases f:(cF o).2=0
   ·have hst:=(vR c1 (vL i e) (vJ o f) c2).status
    have hst2:(dD i o).status=2∨(dD i o).status=3∨(dD i o).status=4:=by
     rw [aEY e f,aA.ans];rcases hst with ⟨h,_⟩ | ⟨h,_⟩ | ⟨h,_⟩
     ·exact .inl h
     ·exact .inr (.inl h)
     ·exact .inr (.inr h)
    generalize dD i o=A at *;rcases hst2 with h | h | h
    all_goals
     refine aD ?_;simp [go_sem,dA.a,dA.cs,e,f,h]
   ·rw [aOI e f];refine aD ?_;simp [go_sem,dA.a,dA.cs,e,f,eS,hinf,aS]
  ·rw [aOH e];refine aD ?_;simp [go_sem,dA.a,dA.cs,e,eS,hinf,aS]
end Go.Proofs.YtnoifgjiipgpoaaGreatDoor
namespace Go.Proofs.YtnoifgjiipgpoaaGreatDoor
open Go Go.ChangeShapes Go.WideShapes Go.ChangeAt Go.RowKit Go.Proofs.YtnoifgjiipgpoaaGreatDoor.R
set_option maxRecDepth 100000
theorem aVT {f:Nat} {ts:List T} (h:gO P f 5 ts):∃n:Nat,ts=[.v (.int .u8 n)]∧n<256:=by
 cases f with
 |zero=>exact h.elim
 |succ f=>
  simp only [gO,(cG wI).1] at h;obtain ⟨n,rfl,hw⟩:=h;have hr:0≤n∧n<256:=by simp [Lit.wf,IntKind.min,IntKind.max,IntKind.wrap,IntKind.bits,IntKind.signed] at hw;omega
  refine ⟨n.toNat,by rw [Int.toNat_of_nonneg hr.1],by omega⟩
theorem aVQ {f:Nat} {ts:List T} (h:gO P f 22 ts):∃l:List Nat,ts=[.sl (aS l)]∧l.length≤maxLen∧∀c∈l,c<256:=by obtain ⟨l,rfl,h1,h2⟩:=aVS (g:=fun n:Nat=>[T.v (.int .u8 n)]) (Q:=fun n=>n<256) (cG tR).1 (fun f x h=>aVT h) h;exact ⟨l,rfl,h1,h2⟩
section
variable {H:Type} {enc:TypeId×Value→H} {W:World} {base:Nat} {sp:Nat→Bool} {held:Bool} {v:Value} {d:DataW H} {ps:List MemPlace}
theorem aGT (h:DataW.Trod enc P W 0 sp held 22 v d ps) (hv:Value.okWide P W .any base 22 v):∃l:List Nat,(l.length≤maxLen∧∀c∈l,c<256)∧aN W (C0 W) (.t (.sl (aS l))) v:=by obtain ⟨f,ts,h1,h2⟩:=aRF (cG tR).1 (by kernel_rfl) h hv;obtain ⟨l,rfl,hl⟩:=aVQ h1;exact ⟨l,hl,h2 _ rfl⟩
end
end Go.Proofs.YtnoifgjiipgpoaaGreatDoor
namespace Go.Proofs.YtnoifgjiipgpoaaGreatDoor
open Go
set_option maxRecDepth 100000
theorem bHB:Tryz.prog.mayEnter=true:=by kernel_rfl
theorem bHC:((false:Bool)==Tryz.prog.liftsFinal)=true:=by kernel_rfl
theorem bHD:(Tryz.prog.make==some Make.cut)=true:=by kernel_rfl
end Go.Proofs.YtnoifgjiipgpoaaGreatDoor
namespace Go.Proofs.YtnoifgjiipgpoaaGreatDoor
open Go Go.Proofs.YtnoifgjiipgpoaaGreatDoor.R
set_option maxRecDepth 100000
def aCR (cs:Array Value):Obj→Obj
 | .cells _ t frozen=>.cells cs t frozen
 |o=>o
noncomputable def aWS (os:Os):World:=
 {World.holding Tryz.prog os ⟨#[],#[],[]⟩ with heap:=(((World.holding Tryz.prog os ⟨#[],#[],[]⟩).heap.modify 0 (aCR #[.int .u64 1,.int .u64 10,.int .u64 100,.int .u64 1000,.int .u64 10000,.int .u64 100000,.int .u64 1000000,.int .u64 10000000,.int .u64 100000000,.int .u64 1000000000,.int .u64 10000000000,.int .u64 100000000000,.int .u64 1000000000000,.int .u64 10000000000000,.int .u64 100000000000000,.int .u64 1000000000000000,.int .u64 10000000000000000,.int .u64 100000000000000000,.int .u64 1000000000000000000,.int .u64 10000000000000000000])).modify 1 (aCR #[.int .u8 0,.int .u8 1,.int .u8 28,.int .u8 2,.int .u8 29,.int .u8 14,.int .u8 24,.int .u8 3,.int .u8 30,.int .u8 22,.int .u8 20,.int .u8 15,.int .u8 25,.int .u8 17,.int .u8 4,.int .u8 8,.int .u8 31,.int .u8 27,.int .u8 13,.int .u8 23,.int .u8 21,.int .u8 19,.int .u8 16,.int .u8 7,.int .u8 26,.int .u8 12,.int .u8 18,.int .u8 6,.int .u8 11,.int .u8 5,.int .u8 10,.int .u8 9])).modify 2 (aCR #[.int .u8 0,.int .u8 1,.int .u8 56,.int .u8 2,.int .u8 57,.int .u8 49,.int .u8 28,.int .u8 3,.int .u8 61,.int .u8 58,.int .u8 42,.int .u8 50,.int .u8 38,.int .u8 29,.int .u8 17,.int .u8 4,.int .u8 62,.int .u8 47,.int .u8 59,.int .u8 36,.int .u8 45,.int .u8 43,.int .u8 51,.int .u8 22,.int .u8 53,.int .u8 39,.int .u8 33,.int .u8 30,.int .u8 24,.int .u8 18,.int .u8 12,.int .u8 5,.int .u8 63,.int .u8 55,.int .u8 48,.int .u8 27,.int .u8 60,.int .u8 41,.int .u8 37,.int .u8 16,.int .u8 46,.int .u8 35,.int .u8 44,.int .u8 21,.int .u8 52,.int .u8 32,.int .u8 23,.int .u8 11,.int .u8 54,.int .u8 26,.int .u8 40,.int .u8 15,.int .u8 34,.int .u8 20,.int .u8 31,.int .u8 10,.int .u8 25,.int .u8 14,.int .u8 19,.int .u8 9,.int .u8 13,.int .u8 8,.int .u8 7,.int .u8 6])}
end Go.Proofs.YtnoifgjiipgpoaaGreatDoor
