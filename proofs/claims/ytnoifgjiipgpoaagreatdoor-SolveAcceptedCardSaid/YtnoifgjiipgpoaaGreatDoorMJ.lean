/- Parts of the proof. -/
import Derived.Test.YtnoifgjiipgpoaaGreatDoorMI
set_option linter.all false
set_option maxHeartbeats 4000000
namespace Go.Proofs.YtnoifgjiipgpoaaGreatDoor
open Go Go.Proofs.YtnoifgjiipgpoaaGreatDoor.R
set_option maxRecDepth 4000
set_option maxHeartbeats 1000000
structure fS where
 s:Nat
 h:Nat
 q:Nat
 sb:Nat
 lg:Nat
def pW (p:List (List Int)):List (List T):=p.map aY
def iP.t (d:aC×aX):List T:=d.1.t++[.sl (dQ d.2.layers),.i d.2.low,.v (.bool d.2.exact),.i d.2.sure]
def gY (l:List (aC×aX)):List (List T):=l.map iP.t
def SS.cs (x:aA) (o:aV) (st low:Int) (k:fS) (s:SS):List AV:=
 [.i x.pairs,.i x.cars,.i x.room,.t (.sl (x.stops.map aR.t)),.i o.width,.i o.order,.i o.budget,.i st,.t (.sl (pW s.plan)),.i s.up,.i low,.i s.steps,.ref k.lg,.ref k.sb,.ptr k.h 0]
structure uD (x:aA) (o:aV) (st low:Int) (k:fS) (s:SS) (σ:Nat→aG) (nx:Nat):Prop where
 box:σ k.s= .box (s.cs x o st low k)
 subs:σ k.sb= .arr 10 (aM s.subs)
 log:σ k.lg= .arr 14 (gY s.log)
 sh:k.s≠k.h
 qs:k.q≠k.s∧k.q≠k.h∧k.q≠k.sb∧k.q≠k.lg
 hs:k.h≠k.sb∧k.h≠k.lg
 lt:k.s<nx∧k.h<nx∧k.q<nx∧k.sb<nx∧k.lg<nx
structure gS (k:fS) (σ:Nat→aG) (nx:Nat) (k':fS) (σ':Nat→aG) (nx':Nat):Prop where
 le:nx≤nx'
 s:k'.s=k.s
 h:k'.h=k.h
 q:k'.q=k.q∨nx≤k'.q
 sb:k'.sb=k.sb∨nx≤k'.sb
 lg:k'.lg=k.lg∨nx≤k'.lg
 keep:∀i,i<nx→i≠k.s→i≠k.h→i≠k.q→i≠k.sb→i≠k.lg→σ' i=σ i
theorem gS.refl (k:fS) (σ:Nat→aG) (nx:Nat):gS k σ nx k σ nx:=⟨Nat.le_refl _,rfl,rfl,.inl rfl,.inl rfl,.inl rfl,fun _ _ _ _ _ _ _=>rfl⟩
theorem gS.trans {k k1 k2:fS} {σ σ1 σ2:Nat→aG} {nx nx1 nx2:Nat} (h:gS k σ nx k1 σ1 nx1) (g:gS k1 σ1 nx1 k2 σ2 nx2):gS k σ nx k2 σ2 nx2:=by have:=h.le;have:=h.q;have:=h.sb;have:=h.lg;have:=g.q;have:=g.sb;have:=g.lg;have h1:=h.s;have h2:=h.h;refine ⟨Nat.le_trans h.le g.le,g.s.trans h.s,g.h.trans h.h,by omega,by omega,by omega,fun i hi a b c d e=>?_⟩;rw [g.keep i (by omega) (by omega) (by omega) (by omega) (by omega) (by omega),h.keep i hi a b c d e]
def m9 (b:Nat) (σ:Nat→aG) (nx:Nat) (σ':Nat→aG) (nx':Nat):Prop:=nx≤nx'∧∀i,i<nx→i≠b→σ' i=σ i
theorem m9.runs {k:fS} {σ σ':Nat→aG} {nx nx':Nat} (h:m9 k.s σ nx σ' nx'):gS k σ nx k σ' nx':=⟨h.1,rfl,rfl,.inl rfl,.inl rfl,.inl rfl,fun i a b _ _ _ _=>h.2 i a b⟩
structure eQ (x:aA) (o:aV) (k:fS) (s:SS) (σ:Nat→aG) (nx:Nat):Prop where
 b:uD x o 0 0 k s σ nx
 q:∃l,σ k.h= .box [.ref k.q,.i o.order]∧σ k.q= .arr 4 (bV o.order l)∧l.Perm s.q∧nV o.order l
theorem eQ.only {x:aA} {o:aV} {k:fS} {s t:SS} {σ σ':Nat→aG} {nx nx':Nat} (h:eQ x o k s σ nx) (hb:uD x o 0 0 k t σ' nx') (hq:t.q=s.q) (ho:m9 k.s σ nx σ' nx'):eQ x o k t σ' nx':=by obtain ⟨l,h1,h2,h3,h4⟩:=h.q;have:=h.b.lt;have:=h.b.sh;have:=h.b.qs;exact ⟨hb,l,by rw [ho.2 _ (by omega) (by omega)];exact h1,by rw [ho.2 _ (by omega) (by omega)];exact h2,by rw [hq];exact h3,h4⟩
theorem eQ.stay {x:aA} {o:aV} {k:fS} {s:SS} {σ σ':Nat→aG} {nx nx':Nat} (h:eQ x o k s σ nx) (h1:nx≤nx') (h2:∀i,i<nx→σ' i=σ i):eQ x o k s σ' nx'∧gS k σ nx k σ' nx':=by
 obtain ⟨⟨b1,b2,b3,b4,b5,b6,b7⟩,l,q1,q2,q3,q4⟩:=h;refine ⟨⟨⟨?_,?_,?_,b4,b5,b6,by omega⟩,l,?_,?_,q3,q4⟩,h1,rfl,rfl,.inl rfl,.inl rfl,.inl rfl,fun i hi _ _ _ _ _=>h2 i hi⟩
 all_goals rw [h2 _ (by omega)];assumption
theorem aDP (x:aA) (o:aV) (st low:Int) (k:fS) (s:SS) (n:aC) (is:Bool) (hp:n.path.length<2^31) {σ:Nat→aG} {nx:Nat} (hb:uD x o st low k s σ nx):
  bN P 88 [.ptr k.s 0,n.a,.b is] σ nx fun r σ' nx'=>r= .tup []∧uD x o st low k (s.offer (n,is)) σ' nx'∧m9 k.s σ nx σ' nx':=by
 refine cA Tryz.func88 rfl rfl (by simp [Tryz.f88]) fun B hB hnx hσB=>?_
 simp only [Tryz.f88] at hB ⊢;obtain ⟨b1,b2,b3,b4,b5,b6,b7⟩:=hb;rw [SS.cs] at b1;have hne:¬k.s=nx:=by omega
 have hne':¬nx=k.s:=by omega
 have hsp:=bDS n.path hp
 have fin:∀(τ:Nat→aG) (nx':Nat) (t:SS),nx≤nx'→τ k.s= .box (t.cs x o st low k)→t.subs=s.subs→t.log=s.log→(∀i,i<nx→i≠k.s→τ i=σ i)→uD x o st low k t τ nx'∧m9 k.s σ nx τ nx':=fun τ nx' t h1 h2 h3 h4 h5=>by
  have e1:k.sb≠k.s:=fun e=>by rw [e,b1] at b2;cases b2
  have e2:k.lg≠k.s:=fun e=>by rw [e,b1] at b3;cases b3
  exact ⟨⟨h2,by rw [h3,h5 _ (by omega) e1];exact b2,by rw [h4,h5 _ (by omega) e2];exact b3,b4,b5,b6,by omega⟩,h1,h5⟩
 cases is with
 |false=>
  have e0:s.offer (n,false)=s:=by simp [SS.offer]
  rw [e0];refine aD ?_;simp [go_sem,aC.a,aC.cs,b1,hne];refine bK [] rfl (by rw [hB];kernel_rfl) ?_;refine aD ?_;simp [go_sem,b1,hne];exact fin _ _ _ (by omega) (by simp [aB,hne,b1,SS.cs]) rfl rfl fun i h1 h2=>by simp [aB,show ¬i=nx by omega]
 |true=>
  refine aD ?_;simp [go_sem,aC.a,aC.cs,b1,hne];refine bK [] rfl (by rw [hB];kernel_rfl) ?_;by_cases c:n.cost<s.up
  ·have e0:s.offer (n,true)={s with up:=n.cost,plan:=(mW n.path).1}:=by rw [SS.offer,if_pos ⟨rfl,c⟩]
   rw [e0];refine aD ?_;simp [go_sem,b1,hne,hne',c];refine aL rfl rfl rfl (args:=[.t (.sl (aJ n.path))]) (f:=137) (by simp [go_sem]) (by simp [go_sem,hB]) ((hsp).spec _ _) ?_;refine aD ?_;simp [go_sem,b1,hne,hne',c];exact fin _ _ {s with up:=n.cost,plan:=(mW n.path).1} (by omega) (by simp [aB,hne,SS.cs,pW]) rfl rfl fun i h1 h2=>by simp [aB,show ¬i=nx by omega,h2]
  ·have e0:s.offer (n,true)=s:=by rw [SS.offer,if_neg (fun h=>c h.2)]
   rw [e0];refine aD ?_;simp [go_sem,b1,hne,c];exact fin _ _ _ (by omega) (by simp [aB,hne,b1,SS.cs]) rfl rfl fun i h1 h2=>by simp [aB,show ¬i=nx by omega]
theorem aM5 (x:aA) (o:aV) (k:fS) (s:SS) (n:aC) (low:Int) (hx:x.stops.length<2^31) (ho:n.s.ok) (hp:n.path.length<2^31) (hs1:s.subs.length<2^30) (hs2:s.q.length<2^30) {σ:Nat→aG} {nx:Nat} (hb:eQ x o k s σ nx):
  bN P 46 [.ptr k.s 0,n.a,.i low] σ nx fun r σ' nx'=>r= .tup []∧∃k',eQ x o k' (x.push low s n) σ' nx'∧gS k σ nx k' σ' nx':=by
 refine cA Tryz.func46 rfl rfl (by simp [Tryz.f46]) fun B hB hnx hσB=>?_
 simp only [Tryz.f46] at hB ⊢;have hb0:=hb;obtain ⟨⟨b1,b2,b3,b4,b5,b6,b7⟩,l,q1,q2,q3,q4⟩:=hb;rw [SS.cs] at b1;have hne:¬k.s=nx:=by omega
 have hne':¬nx=k.s:=by omega
 have hne2:¬k.sb=nx:=by omega
 have hof:=aDM x n hx ho;have hll:=q3.length_eq;have hil:(aJ n.path).length=n.path.length:=List.length_map _;have hnl:(aM s.subs).length=s.subs.length:=List.length_map _;obtain ⟨b,hbv⟩:∃b,b=max low (x.of n):=⟨_,rfl⟩;have hsk:=lZ x low s n;rw [←hbv] at hsk;have hpu:=fun (τ:Nat→aG) (m:Nat)=>aV2 o.order l ⟨b,n.path.length,s.subs.length⟩ (by omega) (σ:=τ) (nx:=m) (h:=k.h) (q:=k.q)
 have hne3:¬k.h=nx:=by omega
 have hne4:¬k.q=nx:=by omega
 refine aD ?_;simp [go_sem,aC.a,aC.cs,b1,hne];refine bK [] rfl (by rw [hB];kernel_rfl) ?_;refine aD ?_;simp [go_sem,aA.a,b1,hne];refine bQ rfl rfl rfl (args:=[x.a,n.a]) (f:=84) (by simp [go_sem,aA.a,aC.a,aC.cs]) (hof) ?_;by_cases c:s.up≤b
 ·have e0:x.push low s n=s:=by rcases hsk with ⟨h1,_⟩ | ⟨h1,_⟩<;>first | exact h1 | omega
  rw [e0];refine aD ?_;simp [go_sem,b1,hne,←hbv,c];exact ⟨k,hb0.stay (by omega) fun i hi=>by simp [aB,show ¬i=nx by omega]⟩
 ·have e0:x.push low s n={s with q:=s.q++[⟨b,n.path.length,s.subs.length⟩],subs:=s.subs++[n]}:=by rcases hsk with ⟨h1,h2⟩ | ⟨_,h1⟩<;>first | exact h1 | omega
  rw [e0];refine aD ?_;simp [go_sem,b1,hne,←hbv,c];refine aAP [] 14 _ rfl (by rw [hB];kernel_rfl) (by kernel_rfl) rfl ?_;refine aD ?_;simp [go_sem,b1,b2,hne,hne2,hil,hnl];refine dX rfl rfl rfl (args:=[.ptr k.h 0,.agg [.i b,.i n.path.length,.i s.subs.length]]) (f:=85) (by simp [go_sem]) (by simp [go_sem,hB]) (hpu _ (nx+1) (by omega) (by simp [aB,hne3,q1]) (by omega) (by simp [aB,hne4,q2])) fun r σ' nx' hq=>?_
  obtain ⟨rfl,g1,q',g2,g3,g4,g5,g6⟩:=hq;have f0:=g6 nx (by omega) (by omega) (by omega);have f1:=g6 k.s (by omega) (by omega) (by omega);have f2:=g6 k.sb (by omega) (by omega) (by omega);simp only [aB,hne,hne2,if_true,if_false,b1,b2] at f0 f1 f2;have hcap:s.subs.length+1≤bH:=by show _≤4294967296;omega
  have happ:aM s.subs++[n.t]=aM (s.subs++[n]):=by simp [aM]
  have hnl2:=vG s.subs;have hne5:¬k.s=k.sb:=fun e=>by rw [e,b2] at b1;cases b1
  have hne6:¬k.s=nx':=by omega
  have hne7:¬nx'=k.s:=by omega
  refine aD ?_;simp [go_sem];refine cT [7,10] [0] rfl (by rw [hB];kernel_rfl) (by kernel_rfl) fun ht hf'=>?_
  refine bG hB 22 ?_;simp [go_sem,ht,hf',f0,f1,f2,hne5,hne6,hne7,hcap,hnl,hnl2,aC.t];have hls:k.lg≠k.sb:=fun e=>by rw [e,b2] at b3;cases b3
  have hls2:k.lg≠k.s:=fun e=>by rw [e,b1] at b3;cases b3
  have hg:∀(y z:aG) (i:Nat),i<nx'→i≠k.s→i≠k.sb→aB (aB (aB σ' k.sb .dead) nx' y) k.s z i=σ' i:=fun y z i h1 h2 h3=>by simp [aB,h2,h3,show ¬i=nx' by omega]
  have hk:∀i,i<nx→i≠k.h→i≠k.q→σ' i=σ i:=fun i h1 h2 h3=>by rw [g6 i (by omega) h2 h3];simp [aB,show ¬i=nx by omega]
  refine ⟨by omega,{k with q:=q',sb:=nx'},⟨⟨?_,?_,?_,b4,?_,?_,?_⟩,rM o.order l ⟨b,n.path.length,s.subs.length⟩,?_,?_,(bA0 _ _ _).trans (q3.append_right _),bAZ q4 _⟩,?_⟩
  ·simp [aB,SS.cs]
  ·simp [aB,hne7,←happ,aC.t]
  ·exact (hg _ _ _ (by omega) hls2 hls).trans ((hk _ (by omega) (by omega) (by omega)).trans b3)
  ·simp only;omega
  ·simp only;omega
  ·simp only;omega
  ·exact (hg _ _ k.h (by omega) (by omega) (by omega)).trans g4
  ·exact (hg _ _ q' (by omega) (by omega) (by omega)).trans g5
  ·exact ⟨by omega,rfl,rfl,.inr (by simp only;omega),.inr (by simp only;omega),.inl rfl,fun i h1 h2 h3 h4 h5 _=>(hg _ _ i (by omega) h2 h5).trans (hk i h1 h3 h4)⟩
set_option maxHeartbeats 2000000
theorem aXD (l:List (aC×aX)):∀y∈gY l,y.length=14:=by intro y hy;simp only [gY,List.mem_map] at hy;obtain ⟨n,_,rfl⟩:=hy;rfl
theorem aC6 (l:List (List aC)) {k:Nat} (h:k<l.length) (h':k<(dQ l).length):(dQ l)[k]'h'=[.sl (aM l[k])]:=by simp [dQ]
theorem bC1 (ls:List (List aC)) {k:Nat} (h:k<ls.length):eG (ls.take (k+1))=eG (ls.take k)+ls[k].length:=by rw [eG,eG,List.take_succ_eq_append_getElem h,List.map_append,List.sum_append];simp
theorem bC0 (ls:List (List aC)) (k:Nat):eG (ls.take k)≤eG ls:=by
 conv=>rhs;rw [←List.take_append_drop k ls]
 rw [eG,eG,List.map_append,List.sum_append];omega
theorem aT4 (x:aA) (o:aV) (k:fS) (s:SS) (n:aC) (hx:x.stops.length<2^31) (hw:o.width≤3000) (ho:n.s.ok) (hp:n.path.length<2^29) (hl:s.log.length<2^30) (hd:(x.build n o.width s.up).layers.length<2^30) (hst:0≤s.steps∧s.steps+eG (x.build n o.width s.up).layers<2^62) {σ:Nat→aG} {nx:Nat} (hb:eQ x o k s σ nx):
  bN P 90 [.ptr k.s 0,n.a] σ nx fun r σ' nx'=>r=(x.build n o.width s.up).a∧∃k',eQ x o k' (s.dia n (x.build n o.width s.up)) σ' nx'∧gS k σ nx k' σ' nx':=by
 refine cA Tryz.func90 rfl rfl (by simp [Tryz.f90]) fun B hB hnx hσB=>?_
 simp only [Tryz.f90] at hB ⊢;have hb0:=hb;obtain ⟨⟨b1,b2,b3,b4,b5,b6,b7⟩,l,q1,q2,q3,q4⟩:=hb;rw [SS.cs] at b1;have hbd:=aSK x n o.width s.up hx hw ho hp;generalize x.build n o.width s.up=D at *;have hlen:(dQ D.layers).length=D.layers.length:=List.length_map _;have ne1:¬k.s=nx:=by omega
 have ne2:¬k.s=nx+1:=by omega
 have ne3:¬k.s=nx+1+1:=by omega
 refine aD ?_;simp [go_sem,aC.a,aC.cs,b1,ne1,ne2];refine cT [16,17] [0,1,2,3,4,5,6,7,8,9,10,11,12,13,14,15] rfl (by rw [hB];kernel_rfl) (by kernel_rfl) fun ht hf'=>?_
 refine aD ?_;simp [go_sem,ht,hf',aA.a,b1,ne1,ne2];refine bQ rfl rfl rfl (args:=[x.a,n.a,.i o.width,.i s.up]) (f:=140) (by simp [go_sem,aA.a,aC.a,aC.cs]) (hbd) ?_;refine aD ?_;simp [go_sem,ht,hf',aX.a,aX.cs,b1,ne1,ne2,ne3,hlen]
 refine bA (α:=Nat×(Nat→aG)) (fun (j,τ)=>j≤D.layers.length∧τ k.s= .box (SS.cs x o 0 0 k {s with steps:=s.steps+eG (D.layers.take j)})∧τ nx= .box n.cs∧τ (nx+1)= .box [.fsl [],.i 0,.b false,.i 0]∧τ (nx+1+1)= .box D.cs∧∀i,i<nx→i≠k.s→τ i=σ i)
  (fun (j,τ)=>⟨sl [(0,.ptr k.s 0),(3,.ptr nx 0),(4,.ptr (nx+1) 0),(5,.ptr (nx+1+1) 0),(25,.t (.sl (dQ D.layers))),(26,.i D.layers.length),(27,.i j)],τ,nx+1+1+1⟩) (fun a=>D.layers.length-a.1) (0,_)
  ⟨Nat.zero_le _,?_,?_,?_,?_,?_⟩ (aH.slots (by simp [go_sem]) rfl rfl) ?_
 ·simp [aB,b1,ne1,ne2,ne3,SS.cs,eG]
 ·simp [go_sem,aB,aC.cs]
 ·simp [go_sem,aB]
 ·simp [go_sem,aB,aX.cs]
 ·exact fun i h1 h2=>by simp [aB,show ¬i=nx by omega,show ¬i=nx+1 by omega,show ¬i=nx+1+1 by omega]
 rintro ⟨j,τ⟩ ⟨g1,g2,g3,g4,g5,g6⟩;rw [SS.cs] at g2;simp only at g2;refine aI ?_;simp [go_sem];refine bU (fun hj=>?_) (fun hj=>?_)
 ·have hgj:∀h,(dQ D.layers)[j]'h=[.sl (aM D.layers[j])]:=fun h=>aC6 D.layers hj h
  have hsz:=bC1 D.layers hj;have hmo:=bC0 D.layers (j+1);have hnl:(aM D.layers[j]).length=D.layers[j].length:=List.length_map _;have wj:IntKind.i64.wrap ((j:Int)+1)=((j+1:Nat):Int):=by rw [aO _ (by omega)];omega
  have ws:IntKind.i64.wrap (s.steps+(eG (D.layers.take j):Int)+(D.layers[j].length:Int))=s.steps+(eG (D.layers.take (j+1)):Int):=by rw [aO _ (by omega)];omega
  generalize D.layers[j]=L at *;generalize eG (D.layers.take j)=A at *;generalize hA':eG (D.layers.take (j+1))=A' at *;simp [go_sem,hlen,hj,hgj,hnl,g2,wj,ws];refine Next.mk (j+1,_) ⟨by omega,?_,?_,?_,?_,?_⟩ (aH.slots (by simp [go_sem]) rfl rfl) (by simp only;omega)
  ·simp [aB,SS.cs,hA']
  ·simp [aB,ne1,g3,show ¬nx=k.s by omega]
  ·simp [aB,g4,show ¬nx+1=k.s by omega]
  ·simp [aB,g5,show ¬nx+1+1=k.s by omega]
  ·exact fun i h1 h2=>by simp [aB,h2,g6 i h1 h2]
 ·have:j=D.layers.length:=by omega
  subst this;rw [List.take_length] at g2;obtain ⟨A,hA⟩:∃A,A=eG D.layers:=⟨_,rfl⟩;rw [←hA] at g2;have hcap:s.log.length+1≤bH:=by show _≤4294967296;omega
  have hll:(gY s.log).length=s.log.length:=List.length_map _;have hl14:=aXD s.log;have f1:=(g6 k.lg (by omega) (fun e=>by rw [e,b1] at b3;cases b3)).trans b3;have ne4:¬k.s=k.lg:=fun e=>by rw [←e,b1] at b3;cases b3
  have ne5:¬k.s=nx+1+1+1:=by omega
  have ne6:¬nx+1+1+1=k.s:=by omega
  have ne7:¬k.lg=nx:=by omega
  have ne8:¬nx=k.lg:=by omega
  have ne9:¬nx+1=k.lg:=by omega
  have nea:¬nx+1+1=k.lg:=by omega
  have neb:¬nx=k.s:=by omega
  have nec:¬nx+1=k.s:=by omega
  have ned:¬nx+1+1=k.s:=by omega
  have e1:=g3;rw [aC.cs] at e1;have e2:=g5;rw [aX.cs] at e2;simp [go_sem];refine cT [10,14] [0] rfl (by rw [hB];kernel_rfl) (by kernel_rfl) fun ht hf'=>?_
  refine bG hB 22 ?_;simp [go_sem,ht,hf',g2,f1,e1,e2,g4,ne1,ne2,ne3,ne4,ne5,ne6,ne7,ne8,ne9,nea,neb,nec,ned,hcap,hll,hl14];have hls:k.sb≠k.lg:=fun e=>by rw [e,b3] at b2;cases b2
  have hls2:k.sb≠k.s:=fun e=>by rw [e,b1] at b2;cases b2
  have hg:∀(y z u:aG) (i:Nat),i<nx→i≠k.s→i≠k.lg→aB (aB (aB (aB τ k.lg .dead) (nx+1+1+1) y) k.s z) (nx+1) u i=σ i:=fun y z u i h1 h2 h3=>by simp [aB,h2,h3,show ¬i=nx+1 by omega,show ¬i=nx+1+1+1 by omega,g6 i h1 h2]
  refine ⟨by omega,{k with lg:=nx+1+1+1},⟨⟨?_,?_,?_,b4,?_,?_,?_⟩,l,?_,?_,q3,q4⟩,?_⟩
  ·simp [aB,SS.cs,SS.dia,hA,ne2]
  ·exact (hg _ _ _ k.sb (by omega) hls2 hls).trans b2
  ·simp [aB,SS.dia,gY,iP.t,aC.t,show ¬nx+1+1=nx by omega,ne6]
  ·simp only;omega
  ·simp only;omega
  ·simp only;omega
  ·exact (hg _ _ _ k.h (by omega) (by omega) (by omega)).trans q1
  ·exact (hg _ _ _ k.q (by omega) (by omega) (by omega)).trans q2
  ·exact ⟨by omega,rfl,rfl,.inl rfl,.inl rfl,.inr (by simp only;omega),fun i h1 h2 h3 h4 h5 h6=>hg _ _ _ i h1 h2 h6⟩
structure aGE (ls:List (List aC)):Prop where
 len:ls.length<2^30
 few:∀l∈ls,l.length<2^20
 ok:∀l∈ls,∀n∈l,n.s.ok∧n.path.length<2^29
theorem aY5 (x:aA) (s:SS) (ls:List (List aC)) {j:Nat} (h:j<ls.length):x.offers s (ls.take (j+1))=(x.offers s (ls.take j)).offer (x.bests ls[j]):=by rw [aA.offers,List.take_succ_eq_append_getElem h,List.foldl_append,List.foldl_cons,List.foldl_nil];rfl
theorem bAY (x:aA) (low:Int) (s:SS) (l:List aC) {j:Nat} (h:j<l.length):(l.take (j+1)).foldl (x.push low) s=x.push low ((l.take j).foldl (x.push low) s) l[j]:=by rw [List.take_succ_eq_append_getElem h,List.foldl_append,List.foldl_cons,List.foldl_nil]
theorem aM8 (x:aA) (low:Int):∀(l:List aC) (s:SS),(l.foldl (x.push low) s).subs.length≤s.subs.length+l.length∧(l.foldl (x.push low) s).q.length≤s.q.length+l.length
 |[],s=>⟨Nat.le_refl _,Nat.le_refl _⟩
 |n :: l,s=>by
  obtain ⟨h1,h2⟩:=aM8 x low l (x.push low s n);have:(x.push low s n).subs.length≤s.subs.length+1∧(x.push low s n).q.length≤s.q.length+1:=by rcases lZ x low s n with ⟨e,_⟩ | ⟨_,e⟩<;>rw [e]<;>simp
  rw [List.foldl_cons,List.length_cons];omega
theorem aSF (x:aA) (o:aV) (k:fS) (s:SS) (D:aX) (hx:x.stops.length<2^31) (hd:aGE D.layers) (hs0:1≤D.sure) (hs1:D.sure≤D.layers.length) (hn1:s.subs.length<2^29) (hn2:s.q.length<2^29) {σ:Nat→aG} {nx:Nat} (hb:eQ x o k s σ nx):
  bN P 92 [.ptr k.s 0,D.a] σ nx fun r σ' nx'=>r= .tup []∧∃k',eQ x o k' (x.branch D s) σ' nx'∧gS k σ nx k' σ' nx':=by
 generalize hR:x.branch D s=R;refine cA Tryz.func92 rfl rfl (by simp [Tryz.f92]) fun B hB hnx hσB=>?_
 simp only [Tryz.f92] at hB ⊢;have hlt:=hb.b.lt;have hlen:(dQ D.layers).length=D.layers.length:=List.length_map _;obtain ⟨last,hlast⟩:∃n,n=D.sure-1:=⟨_,rfl⟩;have w0:IntKind.i64.wrap ((D.sure:Int)-1)=(last:Int):=by have:=hd.len;rw [aO _ (by omega)];omega
 have hll:last<D.layers.length:=by omega
 have hrow:∀y∈dQ D.layers,y.length=1:=fun y hy=>by simp only [dQ,List.mem_map] at hy;obtain ⟨_,_,rfl⟩:=hy;rfl
 have htk:((dQ D.layers).take last).length=last:=by rw [List.length_take];omega
 have hle:last≤D.layers.length:=by omega
 refine aD ?_;simp [go_sem,aX.a,aX.cs,w0,hlen,if_pos hrow,htk,hle]
 refine bA (α:=Nat×(Nat→aG)×Nat) (fun (j,τ,m)=>j≤last∧eQ x o k (x.offers s (D.layers.take j)) τ m∧nx<m∧τ nx= .box D.cs∧gS k σ nx k τ m)
  (fun (j,τ,m)=>⟨sl [(0,.ptr k.s 0),(3,.ptr nx 0),(4,.i last),(18,.t (.sl ((dQ D.layers).take last))),(19,.i last),(20,.i j)],τ,m⟩) (fun a=>last-a.1) (0,_,_)
  ⟨Nat.zero_le _,?_,Nat.lt_succ_self _,?_,?_⟩ (aH.slots (by simp [go_sem]) rfl rfl) ?_
 ·exact (hb.stay (by omega) fun i hi=>by simp [aB,show ¬i=nx by omega]).1
 ·simp [go_sem,aB,aX.cs]
 ·exact (hb.stay (by omega) fun i hi=>by simp [aB,show ¬i=nx by omega]).2
 rintro ⟨j,τ,m⟩ ⟨g1,g2,g3,g4,g5⟩;refine aI ?_;simp [go_sem];refine bU (fun hj=>?_) (fun hj=>?_)
 ·have hgj:∀h,((dQ D.layers).take last)[j]'h=[.sl (aM D.layers[j])]:=fun h=>by rw [List.getElem_take];exact aC6 D.layers (by omega) _
  have wj:IntKind.i64.wrap ((j:Int)+1)=((j+1:Nat):Int):=by have:=hd.len;rw [aO _ (by omega)];omega
  have hof:=aY5 x s D.layers (show j<D.layers.length by omega);have hmem:D.layers[j]∈D.layers:=List.getElem_mem _;have hbp:=aA2 (x:=x) (k:=2^29) fun n hn=>Nat.le_of_lt (hd.ok _ hmem n hn).2
  have hex:=xZ x D.layers[j] (x.offers s (D.layers.take j)).up hx (hd.few _ hmem) (fun n hn=>⟨(hd.ok _ hmem n hn).1,by have:=(hd.ok _ hmem n hn).2;omega⟩) (fun n hn=>by have:=(hd.ok _ hmem n hn).2;omega);generalize D.layers[j]=L at *;generalize hS:x.offers s (D.layers.take j)=S at *;generalize hS2:x.offers s (D.layers.take (j+1))=S2 at *;have b1:=g2.b.box;rw [SS.cs] at b1;have hlt2:=g2.b.lt;have ne1:¬k.s=m:=by omega
  have ne2:¬m=k.s:=by omega
  obtain ⟨bn,bi,hbk⟩:∃bn bi,x.bests L=(bn,bi):=⟨_,_,rfl⟩;rw [hbk] at hof hbp hex;simp only at hbp;simp [go_sem,htk,hj,hgj];refine cT [15,17] [0,1,2,3,4,5,6,7,8,9,10,11,12,13,14] rfl (by rw [hB];kernel_rfl) (by kernel_rfl) fun ht hf'=>?_
  refine aD ?_;simp [go_sem,ht,hf',b1,ne1,ne2,aA.a];refine bQ rfl rfl rfl (args:=[x.a,.t (.sl (aM L)),.i S.up]) (f:=138) (by simp [go_sem,aA.a]) (hex) ?_;refine aD ?_;simp [go_sem,ht,hf',b1,ne1,ne2,fW,aC.a,aC.cs];have hb':=fun τ' (h:∀i,i<m→τ' i=τ i)=>g2.stay (σ':=τ') (nx':=m+1) (by omega) h
  refine dX rfl rfl rfl (args:=[.ptr k.s 0,bn.a,.b bi]) (f:=88) (by simp [go_sem,aC.a,aC.cs]) (by simp [go_sem,hB]) (aDP x o 0 0 k S bn bi (Nat.lt_of_le_of_lt hbp (by decide)) (nx:=m+1) (hb' _ fun i hi=>by simp [aB,show ¬i=m by omega]).1.b) fun r σ' nx' hq=>?_
  obtain ⟨rfl,c1,c2⟩:=hq;have hτ:∀i,i<m→i≠k.s→σ' i=τ i:=fun i h1 h2=>by rw [c2.2 i (by omega) h2];simp [aB,show ¬i=m by omega]
  have c4:=c2.1;refine aD ?_;simp [go_sem,wj];refine Next.mk (j+1,σ',nx') ⟨by omega,?_,?_,?_,?_⟩ (aH.slots (by simp [go_sem]) rfl rfl) (by simp only;omega)
  ·show eQ x o k (x.offers s (D.layers.take (j+1))) σ' nx';rw [hS2,hof];exact g2.only c1 (hO S (bn,bi)).2.2.1 ⟨by omega,hτ⟩
  ·simp only;omega
  ·exact (hτ _ g3 (by omega)).trans g4
  ·show gS k σ nx k σ' nx';exact g5.trans (m9.runs ⟨by omega,hτ⟩)
 ·have:j=last:=by omega
  subst this;have e4:=g4;rw [aX.cs] at e4;generalize hS:x.offers s (D.layers.take j)=S at *;have hgl:∀h,(dQ D.layers)[j]'h=[.sl (aM D.layers[j])]:=fun h=>aC6 D.layers hll h
  have hR2:(D.layers[j]).foldl (x.push D.low) S=R:=by rw [←hR,aA.branch,←hlast,hS,List.getD_eq_getElem?_getD,List.getElem?_eq_getElem hll];rfl
  have hmem:D.layers[j]∈D.layers:=List.getElem_mem _;have hL1:=hd.few _ hmem;have hL2:=hd.ok _ hmem;generalize D.layers[j]=L at *;have hnl:(aM L).length=L.length:=List.length_map _;simp [go_sem,e4,hlen,hll,hgl,hnl]
  refine bA (α:=Nat×fS×(Nat→aG)×Nat) (fun (i,k',τ1,m1)=>i≤L.length∧eQ x o k' ((L.take i).foldl (x.push D.low) S) τ1 m1∧nx<m1∧τ1 nx= .box D.cs∧gS k τ m k' τ1 m1)
   (fun (i,k',τ,m)=>⟨sl [(0,.ptr k.s 0),(3,.ptr nx 0),(48,.t (.sl (aM L))),(49,.i L.length),(50,.i i)],τ,m⟩) (fun a=>L.length-a.1) (0,k,τ,m)
   ⟨Nat.zero_le _,g2,g3,g4,gS.refl _ _ _⟩ (aH.slots (by simp [go_sem]) rfl rfl) ?_
  rintro ⟨i,k',τ',m'⟩ ⟨i1,i2,i3,i4,i5⟩;refine aI ?_;simp [go_sem];refine bU (fun hi=>?_) (fun hi=>?_)
  ·have hgi:∀h,(aM L)[i]'h=L[i].t:=fun h=>jX L hi
   have wi:IntKind.i64.wrap ((i:Int)+1)=((i+1:Nat):Int):=by rw [aO _ (by omega)];omega
   have hpt:=bAY x D.low S L hi;obtain ⟨hp1,hp2⟩:=aM8 x D.low (L.take i) S;obtain ⟨ho1,ho2⟩:=hL2 L[i] (List.getElem_mem _);have htl:(L.take i).length≤2^20:=by rw [List.length_take];omega
   generalize L[i]=n at *;generalize (L.take i).foldl (x.push D.low) S=S1 at *;generalize hS2:(L.take (i+1)).foldl (x.push D.low) S=S2 at *;rw [aX.cs] at i4;have hss:S.subs=s.subs∧S.q=s.q:=by have:=oJ x (D.layers.take j) s;rw [hS] at this;exact ⟨this.2.1,this.2.2.1⟩
   rw [hss.1] at hp1;rw [hss.2] at hp2;have ne1:¬nx=m':=by omega
   have es:k'.s=k.s:=i5.s;have hb':=fun τ1 (h:∀i,i<m'→τ1 i=τ' i)=>i2.stay (σ':=τ1) (nx':=m'+1) (by omega) h
   simp [go_sem,hnl,hi,hgi,aC.t,i4,ne1];refine dX rfl rfl rfl (args:=[.ptr k'.s 0,n.a,.i D.low]) (f:=46) (by simp [go_sem,aC.a,aC.cs,es]) (by simp [go_sem,hB]) (aM5 x o k' S1 n D.low hx ho1 (by omega) (by omega) (by omega) (nx:=m'+1) (hb' _ fun i hi=>by simp [aB,show ¬i=m' by omega]).1) fun r σ' nx' hq=>?_
   obtain ⟨rfl,k2,c1,c2⟩:=hq;have hr:=(hb' _ fun i hi=>by simp only [aB];rw [if_neg (show ¬i=m' by omega),if_neg (show ¬i=m' by omega)]).2.trans c2;have h0:=i2.b.lt;have h1:=i5.q;have h2:=i5.sb;have h3:=i5.lg;have h4:=i5.h;have h5:=hb.b.lt;have hkn:σ' nx=τ' nx:=by rw [hr.keep nx i3 (by omega) (by omega) (by omega) (by omega) (by omega)]
   have hle:=hr.le;refine aD ?_;simp [go_sem,wi];refine Next.mk (i+1,k2,σ',nx') ⟨by omega,?_,?_,?_,?_⟩ (aH.slots (by simp [go_sem]) rfl rfl) (by simp only;omega)
   ·show eQ x o k2 ((L.take (i+1)).foldl (x.push D.low) S) σ' nx';rw [hS2,hpt];exact c1
   ·simp only;omega
   ·exact hkn.trans (i4.trans (by rw [aX.cs]))
   ·exact i5.trans hr
  ·have:i=L.length:=by omega
   subst this;rw [List.take_length,hR2] at i2;simp [go_sem];exact ⟨by omega,k',i2,g5.trans i5⟩
set_option maxHeartbeats 4000000
structure aGF (x:aA) (w:Int) (n:aC):Prop where
 st:x.stops.length<2^31
 wi:w≤3000
 ok:n.s.ok
 path:n.path.length<2^28
 nar:∀up,0≤(x.narrow n w up).2.2∧(x.narrow n w up).2.2<2^40∧(x.narrow n w up).1.path.length<2^31
 lay:∀up,aGE (x.build n w up).layers∧eG (x.build n w up).layers<2^40
 most:x.mostN w<2^20
 exa:∀up,0≤(x.exact n up (x.mostN w)).2.2.2∧(x.exact n up (x.mostN w)).2.2.2<2^40∧(x.exact n up (x.mostN w)).1.path.length<2^31
structure aGK (s:SS):Prop where
 steps:0≤s.steps∧s.steps<2^60
 subs:s.subs.length<2^29
 q:s.q.length<2^29
 log:s.log.length<2^29
theorem eQ.turn {x:aA} {o:aV} {k:fS} {s:SS} {σ:Nat→aG} {nx:Nat} (h:eQ x o k s σ nx) {t:SS} {τ:Nat→aG} {nx':Nat} (h1:τ k.s= .box (t.cs x o 0 0 k)) (h2:t.subs=s.subs) (h3:t.q=s.q) (h4:t.log=s.log) (ho:m9 k.s σ nx τ nx'):eQ x o k t τ nx':=by
 obtain ⟨b1,b2,b3,b4,b5,b6,b7⟩:=h.b;rw [SS.cs] at b1;have e1:k.sb≠k.s:=fun e=>by rw [e,b1] at b2;cases b2
 have e2:k.lg≠k.s:=fun e=>by rw [e,b1] at b3;cases b3
 have:=ho.1;exact h.only ⟨h1,by rw [h2,ho.2 _ (by omega) e1];exact b2,by rw [h4,ho.2 _ (by omega) e2];exact b3,b4,b5,b6,by omega⟩ h3 ho
theorem bC5 (x:aA) (o:aV) (k:fS) (s:SS) (n:aC) (hp:aGF x o.width n) (hs:aGK s) {σ:Nat→aG} {nx:Nat} (hb:eQ x o k s σ nx):
  bN P 51 [.ptr k.s 0,n.a] σ nx fun r σ' nx'=>r= .tup []∧∃k',eQ x o k' (x.lookS o.width s n) σ' nx'∧gS k σ nx k' σ' nx':=by
 generalize hR:x.lookS o.width s n=R;refine cA Tryz.func51 rfl rfl (by simp [Tryz.f51]) fun B hB hnx hσB=>?_
 simp only [Tryz.f51] at hB ⊢;have hlt:=hb.b.lt;have b1:=hb.b.box;rw [SS.cs] at b1;have hn:=aYE x n o.width s.up hp.st hp.wi hp.ok (by have:=hp.path;omega);obtain ⟨p1,p2,p3⟩:=hp.nar s.up;have hst:=hs.steps;rw [aA.lookS,SS.nar] at hR;rw [aDB] at hn;generalize (x.narrow n o.width s.up).2.2=v at *;generalize (x.narrow n o.width s.up).2.1=bi at *;generalize (x.narrow n o.width s.up).1=bn at *;have ne1:¬k.s=nx:=by omega
 have ne2:¬k.s=nx+1:=by omega
 have ne3:¬nx=k.s:=by omega
 have ne4:¬nx+1=k.s:=by omega
 have w1:IntKind.i64.wrap (s.steps+v)=s.steps+v:=aO _ (by omega);refine aD ?_;simp [go_sem,aC.a,aC.cs,b1,ne1];refine cT [20,21] [0,1,2,3,4,5,6,7,8,9,10,11,12,13,14,15,16,17,18,19] rfl (by rw [hB];kernel_rfl) (by kernel_rfl) fun ht hf'=>?_
 refine aD ?_;simp [go_sem,ht,hf',aA.a,b1,ne1];refine bQ rfl rfl rfl (args:=[x.a,n.a,.i o.width,.i s.up]) (f:=89) (by simp [go_sem,aA.a,aC.a,aC.cs]) (hn) ?_;refine aD ?_;simp [go_sem,ht,hf',aA.a,b1,ne1,ne2,ne3,ne4,w1,aC.a,aC.cs];have hs1:=fun (τ:Nat→aG) (h1:τ k.s= .box ((s.plus v).cs x o 0 0 k)) (h2:∀i,i<nx→i≠k.s→τ i=σ i)=>hb.turn (t:=s.plus v) (nx':=nx+1+1) h1 rfl rfl rfl ⟨by omega,h2⟩
 refine dX rfl rfl rfl (args:=[.ptr k.s 0,bn.a,.b bi]) (f:=88) (by simp [go_sem,aC.a,aC.cs]) (by simp [go_sem,hB]) (aDP x o 0 0 k (s.plus v) bn bi p3 (nx:=nx+1+1) (hs1 _ (by simp [aB,SS.cs,SS.plus]) fun i h1 h2=>by simp [aB,h2,show ¬i=nx by omega,show ¬i=nx+1 by omega]).b) fun r σ2 nx2 hq=>?_
 obtain ⟨rfl,c1,c2⟩:=hq;have c3:=(hs1 _ (by simp [aB,SS.cs,SS.plus]) fun i h1 h2=>by simp only [aB];rw [if_neg h2,if_neg (show ¬i=nx+1 by omega),if_neg (show ¬i=nx+1 by omega),if_neg (show ¬i=nx by omega)]).only c1 (hO (s.plus v) (bn,bi)).2.2.1 c2;have hle2:=c2.1;have n2:σ2 nx= .box n.cs:=by rw [c2.2 nx (by omega) ne3];simp [aB,ne3,aC.cs]
 have r2:gS k σ nx k σ2 nx2:=m9.runs ⟨by omega,fun i h1 h2=>by rw [c2.2 i (by omega) h2];simp [aB,h2,show ¬i=nx by omega,show ¬i=nx+1 by omega]⟩;have hpre:((s.plus v).offer (bn,bi)).subs=s.subs∧((s.plus v).offer (bn,bi)).q=s.q∧((s.plus v).offer (bn,bi)).log=s.log∧((s.plus v).offer (bn,bi)).steps=s.steps+v:=(hO (s.plus v) (bn,bi)).2;generalize (s.plus v).offer (bn,bi)=t at *;obtain ⟨y1,y2,y3,y4⟩:=hpre;have:=hs.subs;have:=hs.q;have:=hs.log;obtain ⟨l1,l2⟩:=hp.lay t.up;have hdok:=mI x n o.width t.up;have hds:=hdok.pos;have hds2:=hdok.le;rw [aC.cs] at n2;refine aD ?_;simp [go_sem,n2];refine dX rfl rfl rfl (args:=[.ptr k.s 0,n.a]) (f:=90) (by simp [go_sem,aC.a,aC.cs]) (by simp [go_sem,hB]) (aT4 x o k t n hp.st hp.wi hp.ok (by have:=hp.path;omega) (by rw [y3];omega) l1.len (by omega) (σ:=σ2) (nx:=nx2) c3) fun r σ3 nx3 hq=>?_
 obtain ⟨rfl,k3,d1,d2⟩:=hq;have hle3:=d2.le;have n3:σ3 nx=σ2 nx:=d2.keep nx (by omega) (by omega) (by omega) (by omega) (by omega) (by omega);rw [n2] at n3;rw [aA.lookD] at hR;generalize hD:x.build n o.width t.up=D at *;have r3:=r2.trans d2;have z1:=r3.s;have z2:=d2.q;have z3:=d2.sb;have z4:=d2.lg;have z5:=d2.h;have hlt3:=d1.b.lt;have b3:=d1.b.box;rw [SS.cs,z1] at b3;have hup:(t.dia n D).up=t.up:=rfl;have hts:(t.dia n D).steps=t.steps+eG D.layers:=rfl;have htu:(t.dia n D).subs=t.subs∧(t.dia n D).q=t.q:=⟨rfl,rfl⟩;rw [hup,hts] at b3;have m1:¬k.s=nx3:=by omega
 have m2:¬nx=nx3:=by omega
 have m3:¬nx3=k.s:=by omega
 refine aD ?_;simp [go_sem,aX.a,aX.cs];refine bK [] rfl (by rw [hB];kernel_rfl) ?_;by_cases ca:t.up≤D.low
 ·rw [if_pos ca] at hR;subst hR;refine aD ?_;simp [go_sem,b3,m1,ca];have hfin:=d1.stay (σ':=aB (aB σ3 nx3 (.box [.fsl [],.i 0,.b false,.i 0])) nx3 (.box D.cs)) (nx':=nx3+1) (by omega) fun i hi=>by simp [aB,show ¬i=nx3 by omega]
  rw [aX.cs] at hfin;exact ⟨by omega,k3,hfin.1,r3.trans hfin.2⟩
 rw [if_neg ca] at hR;by_cases cb:D.exact=true
 ·rw [if_pos cb] at hR;have he:=aR6 x n t.up (x.mostN o.width) hp.st (by have:=hp.most;omega) hp.ok (by have:=hp.path;omega);obtain ⟨u1,u2,u3⟩:=hp.exa t.up;have hmx:max o.width (x.stops.length:Int)=(x.mostN o.width:Int):=by unfold aA.mostN;omega
  rw [SS.exa,hup] at hR;rw [aB7] at he;generalize (x.exact n t.up (x.mostN o.width)).2.2.2=ve at *;generalize (x.exact n t.up (x.mostN o.width)).2.2.1=vw at *;generalize (x.exact n t.up (x.mostN o.width)).2.1=ei at *;generalize (x.exact n t.up (x.mostN o.width)).1=en at *;have g1:¬k.s=nx3+1:=by omega
  have g2:¬nx=nx3+1:=by omega
  have g3:¬nx3+1=k.s:=by omega
  have g4:¬nx=k.s:=by omega
  have w2:IntKind.i64.wrap (t.steps+(eG D.layers:Int)+ve)=t.steps+(eG D.layers:Int)+ve:=aO _ (by omega);refine aD ?_;simp [go_sem,b3,m1,ca,cb];refine cT [28,29] [0,1,2,3,4,5,6,7,8,9,10,11,12,13,14,15,16,17,18,19,20,21,22,23,24,25,26,27] rfl (by rw [hB];kernel_rfl) (by kernel_rfl) fun ht hf'=>?_
  refine aD ?_;simp [go_sem,ht,hf',aA.a,b3,n3,m1,m2,hmx];refine bQ rfl rfl rfl (args:=[x.a,n.a,.i t.up,.i (x.mostN o.width)]) (f:=91) (by simp [go_sem,aA.a,aC.a,aC.cs]) (he) ?_;refine aD ?_;simp [go_sem,ht,hf',aA.a,b3,n3,m1,m2,m3,g1,g2,g3,g4,hmx,w2,aC.a,aC.cs];have hs4:=fun (τ:Nat→aG) (h1:τ k.s= .box (((t.dia n D).plus ve).cs x o 0 0 k3)) (h2:∀i,i<nx3→i≠k.s→τ i=σ3 i)=>d1.turn (t:=(t.dia n D).plus ve) (τ:=τ) (nx':=nx3+1+1) (by rw [z1];exact h1) rfl rfl rfl ⟨by omega,by rw [z1];exact h2⟩
  refine dX rfl rfl rfl (args:=[.ptr k.s 0,en.a,.b ei]) (f:=88) (by simp [go_sem,aC.a,aC.cs]) (by simp [go_sem,hB]) (z1 ▸ aDP x o 0 0 k3 ((t.dia n D).plus ve) en ei u3 (nx:=nx3+1+1) (hs4 _ (by simp [aB,SS.cs,SS.plus,hup,hts]) fun i h1 h2=>by simp [aB,h2,show ¬i=nx3 by omega,show ¬i=nx3+1 by omega]).b) fun r σ4 nx4 hq=>?_
  obtain ⟨rfl,e1,e2⟩:=hq;have e3:=fun (τ:Nat→aG) (hτ:m9 k.s τ (nx3+1+1) σ4 nx4) h1 h2=>(hs4 τ h1 h2).only e1 (hO ((t.dia n D).plus ve) (en,ei)).2.2.1 (by rw [z1];exact hτ)
  have e4:=e3 _ e2 (by simp [aB,SS.cs,SS.plus,hup,hts]) fun i h1 h2=>by simp only [aB];rw [if_neg h2,if_neg (show ¬i=nx3+1 by omega),if_neg (show ¬i=nx3+1 by omega),if_neg (show ¬i=nx3 by omega),if_neg (show ¬i=nx3 by omega)]
  have e5:=e2.1;have e6:m9 k3.s σ3 nx3 σ4 nx4:=⟨by omega,fun i h1 h2=>by rw [z1] at h2;rw [e2.2 i (by omega) h2];simp [aB,h2,show ¬i=nx3 by omega,show ¬i=nx3+1 by omega]⟩;rw [hR] at e4;refine aD ?_;simp [go_sem];exact ⟨by omega,k3,e4,r3.trans e6.runs⟩
 ·rw [if_neg cb] at hR;have hcb:D.exact=false:=by simpa using cb
  refine aD ?_;simp [go_sem,b3,m1,ca,hcb];have hfin:=d1.stay (σ':=aB (aB σ3 nx3 (.box [.fsl [],.i 0,.b false,.i 0])) nx3 (.box D.cs)) (nx':=nx3+1) (by omega) fun i hi=>by simp [aB,show ¬i=nx3 by omega]
  rw [aX.cs,hcb] at hfin;refine dX rfl rfl rfl (args:=[.ptr k.s 0,D.a]) (f:=92) (by simp [go_sem,aX.a,aX.cs,hcb]) (by simp [go_sem,hB]) (z1 ▸ aSF x o k3 (t.dia n D) D hp.st l1 (by omega) (by omega) (by rw [htu.1,y1];omega) (by rw [htu.2,y2];omega) hfin.1) fun r σ4 nx4 hq=>?_
  obtain ⟨rfl,k4,e1,e2⟩:=hq;have e3:=(r3.trans hfin.2).trans e2;rw [hR] at e1;refine aD ?_;simp [go_sem];exact ⟨e3.le,k4,e1,e3⟩
set_option maxHeartbeats 1000000
theorem aBC {x:aA} (w up dp:Int):∀(f:Nat) (ls:List (List aC)) (low:Int) (sq:Option Nat) (l:List aC) (K:Nat),kX l K→
  ∀k∈(x.buildGo w up dp f ls low sq l).layers,k∈ls∨(kX k (K+f)∧(k=l∨k.length≤x.mostN w))
 |0,ls,low,sq,l,K,_,k,hk=>.inl hk
 |f+1,ls,low,sq,l,K,h,k,hk=>by
  have push:k∈ls++[l]→k∈ls∨(kX k (K+(f+1))∧(k=l∨k.length≤x.mostN w)):=fun hk=>by
   rcases List.mem_append.1 hk with hk | hk
   ·exact .inl hk
   ·rw [List.mem_singleton.1 hk];exact .inr ⟨⟨h.ok,fun n hn=>by have:=h.path n hn;omega⟩,.inl rfl⟩
  rw [aA.buildGo] at hk;split at hk
  ·exact .inl hk
  split at hk
  ·exact push hk
  split at hk
  ·rcases aBC w up dp f _ _ _ _ (K+1) (h.next up |>.squeeze w) k hk with h1 | ⟨h1,h2⟩
   ·exact push h1
   ·refine .inr ⟨⟨h1.ok,fun n hn=>by have:=h1.path n hn;omega⟩,.inr ?_⟩;rcases h2 with rfl | h2
    ·exact aE1 x _ w
    ·exact h2
  ·rename_i hno;rcases aBC w up dp f _ _ _ _ (K+1) (h.next up) k hk with h1 | ⟨h1,h2⟩
   ·exact push h1
   ·refine .inr ⟨⟨h1.ok,fun n hn=>by have:=h1.path n hn;omega⟩,.inr ?_⟩;rcases h2 with rfl | h2
    ·omega
    ·exact h2
theorem aG3 {x:aA} {n:aC} (ho:n.s.ok) (w up:Int):∀k∈(x.build n w up).layers,kX k (n.path.length+41)∧(k=[n]∨k.length≤x.mostN w):=by
 intro k hk;have hd:=aHR x;rcases aBC w up _ _ _ _ _ _ n.path.length ⟨fun m hm=>by rw [List.mem_singleton.1 hm];exact ho,fun m hm=>by rw [List.mem_singleton.1 hm];exact Nat.le_refl _⟩ k hk with h1 | ⟨h1,h2⟩
 ·cases h1
 ·exact ⟨⟨h1.ok,fun m hm=>by have:=h1.path m hm;omega⟩,h2⟩
theorem aIG (x:aA) (most:Int) (k:Nat):∀(d:Nat) (st:aC×Bool×Int) (l:List aC) (n:Int) {K:Nat},iC x l d K→K≤k→st.1.path.length≤k→(x.exGo most d st l n).1.path.length≤k
 |0,st,l,n,K,_,_,h=>h
 |d+1,st,l,n,K,h1,h2,h3=>by
  rw [aA.exGo];split
  ·exact h3
  ·split
   ·exact h3
   ·refine aIG x most k d _ _ _ (h1.next st.2.2) h2 ?_;unfold aA.look;split
    ·exact aA2 fun m hm=>by have:=h1.path m hm;omega
    ·exact h3
set_option maxHeartbeats 4000000
theorem aXH {x:aA} {p:Nat} (hx:x.Fit p) (hm:x.may=true) (hp:p≤3) {n:aC} (ht:bY x n) {w:Int} (hw:w≤40):aGF x w n:=by
 have hlen:=hx.len;have hfew:=ht.few;have hml:=lQ x n.s;have hmost:x.mostN w≤40:=by unfold aA.mostN;omega
 have hlay:=fun up=>aG3 (x:=x) ht.is.ok w up
 have hdp:=(qY hm).2;have hcnt:∀up,(x.build n w up).layers.length≤41:=fun up=>by have:=uL x n w up;omega
 refine ⟨by omega,by omega,ht.is.ok,by omega,fun up=>?_,fun up=>⟨⟨by have:=hcnt up;omega,fun l hl=>?_,fun l hl m hm=>?_⟩,?_⟩,by omega,fun up=>?_⟩
 ·obtain ⟨n1,n2⟩:=aLR x n w up (by omega);have hmu:iA w*x.meas n.s≤3000*40:=Nat.mul_le_mul (by unfold iA;split<;>omega) hml;have:=aYD x n w up ht.is.ok;omega
 ·rcases (hlay up l hl).2 with rfl | h
  ·simp
  ·omega
 ·have h:=(hlay up l hl).1;exact ⟨h.ok m hm,by have:=h.path m hm;omega⟩
 ·have h:=aEW 41 (x.build n w up).layers fun l hl=>by
   rcases (hlay up l hl).2 with rfl | h
   ·simp
   ·omega
  have:41*(x.build n w up).layers.length≤41*41:=Nat.mul_le_mul_left _ (hcnt up);omega
 ·have h1:0≤(x.exact n up (x.mostN w)).2.2.2∧(x.exact n up (x.mostN w)).2.2.2≤0+3000*((x.meas n.s+1:Nat):Int):=aB5 x _ (by omega) (by omega) _ _ _ _ (Int.le_refl _) (by omega);have h2:(x.exact n up (x.mostN w)).1.path.length≤n.path.length+41:=aIG x _ (n.path.length+41) _ _ _ _ (iC.root x n ht.is.ok) (by omega) (Nat.zero_le _);omega
theorem aKW {α:Type} (f:α→Nat):∀(l:List α),(∀e∈l,1≤f e)→l.length≤(l.map f).sum
 |[],_=>Nat.zero_le _
 |e :: l,h=>by
  have h1:=aKW f l fun a ha=>h a (List.mem_cons_of_mem _ ha)
  have h2:=h e List.mem_cons_self;rw [List.length_cons,List.map_cons,List.sum_cons];omega
theorem kS.pre {x:aA} {p:Nat} (hx:x.Fit p) (hm:x.may=true) (hp:p≤3) {s:SS} (h:kS x p s):aGK s:=by
 have h1:=h.small.subs;have h2:=h.small.log;have h3:=h.small.steps;have h4:s.q.length≤s.mass p:=aKW _ _ fun e he=>by obtain ⟨n,hn⟩:=h.inv.nos e he;rw [oE hn];exact aFT hx hm hp (h.inv.track n (List.mem_of_getElem? hn))
 exact ⟨by omega,by omega,by omega,by omega⟩
def bR.a (r:bR):AV:=.agg [.i r.status,.t (.sl (pW r.plan)),.i r.up,.i r.low,.i r.steps,.t (.sl (gY r.log))]
def aA.search (x:aA) (o:aV):bR:=
 if x.may=true then if o.mayB=true then (x.runGo o 1850 x.start).getD ⟨0,[],bF,0,0,[]⟩ else ⟨1,[],bF,0,0,[]⟩ else ⟨0,[],bF,0,0,[]⟩
theorem aEP {x:aA} {p:Nat} (hx:x.Fit p) (hm:x.may=true) (hp:p≤3) {o:aV} (ho:o.mayB=true) (hw:o.width≤40):x.runGo o 1850 x.start=some (x.search o):=by have hg:=z6 hx hm hp;have:=hg.small.subs;obtain ⟨r,hr⟩:=aEL hx hm hp o hw 1850 x.start hg (by omega);rw [aA.search,if_pos hm,if_pos ho,hr];rfl
theorem aYP (o:Int) {σ:Nat→aG} {nx:Nat}:aT P 45 [.i o] σ nx (.ptr nx 0) (aB σ nx (.box [.fsl [],.i o])) (nx+1):=by refine bN.spec (cA Tryz.func45 rfl rfl (by simp [Tryz.f45]) fun B hB hnx hσB=>?_);simp only [Tryz.f45] at hB ⊢;refine aD ?_;simp [go_sem]
theorem aUM (x:aA) (o:aV) (k:fS) (s:SS) {σ:Nat→aG} {nx:Nat} (hb:eQ x o k s σ nx):
  bN P 49 [.ptr k.s 0] σ nx fun r σ' nx'=>r= .agg [.i s.ends.status,.t (.sl (pW s.plan)),.i s.up,.i s.up,.i s.steps,.ref k.lg]∧nx≤nx'∧∀i,i<nx→i≠k.s→σ' i=σ i:=by
 refine cA Tryz.func49 rfl rfl (by simp [Tryz.f49]) fun B hB hnx hσB=>?_
 simp only [Tryz.f49] at hB ⊢;have b1:=hb.b.box;rw [SS.cs] at b1;have hlt:=hb.b.lt;have ne1:¬k.s=nx:=by omega
 have ne2:¬nx=k.s:=by omega
 by_cases c:s.up<bF
 ·have e:s.ends.status=2:=if_pos c;have c':¬(1152921504606846976≤s.up):=by have:bF=1152921504606846976:=rfl;omega
  refine aD ?_;simp [go_sem,b1,ne1,ne2,c',e];exact fun i h1 h2=>by simp [aB,h2,show ¬i=nx by omega]
 ·have e:s.ends.status=3:=if_neg c;have c':1152921504606846976≤s.up:=by have:bF=1152921504606846976:=rfl;omega
  refine aD ?_;simp [go_sem,b1,ne1,ne2,c',e];exact fun i h1 h2=>by simp [aB,h2,show ¬i=nx by omega]
structure RI (x:aA) (o:aV) (p:Nat) (R:bR) (f:Nat) (s:SS) (k:fS) (τ:Nat→aG) (m:Nat):Prop where
 run:x.runGo o f s=some R
 go:kS x p s
 ok:eQ x o k s τ m
 ids:k.s=4∧3≤k.h∧3≤k.q∧3≤k.sb∧3≤k.lg
 b0:τ 0= .box [.i x.pairs,.i x.cars,.i x.room,.t (.sl (x.stops.map aR.t))]
 b1:τ 1= .box [.i o.width,.i o.order,.i o.budget]
 b2:τ 2= .box [.i 0,.fsl [],.i 0,.i 0,.i 0,.fsl []]
theorem RI.next {x:aA} {o:aV} {p:Nat} {R:bR} {f g:Nat} {s t:SS} {k k':fS} {τ τ':Nat→aG} {m m':Nat} (h:RI x o p R f s k τ m) (h1:x.runGo o g t=some R) (h2:kS x p t) (h3:eQ x o k' t τ' m') (h4:gS k τ m k' τ' m'):RI x o p R g t k' τ' m':=by
 have:=h.ids;have:=h.ok.b.lt;have h5:=h4.s;have h6:=h4.h;have:=h4.q;have:=h4.sb;have:=h4.lg;refine ⟨h1,h2,h3,by omega,?_,?_,?_⟩
 ·rw [h4.keep 0 (by omega) (by omega) (by omega) (by omega) (by omega) (by omega)];exact h.b0
 ·rw [h4.keep 1 (by omega) (by omega) (by omega) (by omega) (by omega) (by omega)];exact h.b1
 ·rw [h4.keep 2 (by omega) (by omega) (by omega) (by omega) (by omega) (by omega)];exact h.b2
theorem bD1 (x:aA) (o:aV) (hl:x.stops.length≤7) (hw:o.width≤40):Pure P 18 [x.a,o.a] ((x.search o).a):=by
 generalize hR:x.search o=R;refine aW Tryz.func18 rfl rfl (by simp [Tryz.f18]) (by simp [aE,aE.bndL,aA.a,aV.a,aV.cs]) (by simp [aE,aE.bndL,bR.a]) fun B hB hnx=>?_
 simp only [Tryz.f18] at hB ⊢;have hmy:=lP x (by omega);have hom:=aMB o;refine aD ?_;simp [go_sem,aA.a,aV.a,aV.cs];refine qP (α:=Unit) 0 (fun _=>False) (fun _=>⟨sl [],dR,0⟩) (fun _=>0) rfl (fun _ h=>h.elim) ?_;intro J hJ;refine aD ?_;simp [go_sem];refine aL rfl rfl rfl (args:=[x.a]) (f:=44) (by simp [go_sem,aA.a]) (by simp [go_sem,hB]) ((hmy).spec _ _) ?_;cases cm:x.may with
 |false=>rw [aA.search,if_neg (by simp [cm])] at hR;subst hR;refine aD ?_;simp [go_sem];rfl
 |true=>
  refine aD ?_;simp [go_sem];refine aL rfl rfl rfl (args:=[o.a]) (f:=25) (by simp [go_sem,aV.a,aV.cs]) (by simp [go_sem,hB]) ((hom).spec _ _) ?_;cases co:o.mayB with
  |false=>rw [aA.search,if_pos cm,if_neg (by simp [co])] at hR;subst hR;refine aD ?_;simp [go_sem];rfl
  |true=>
   refine aD ?_;simp [go_sem];refine cT [5,7] [0,1,2] rfl (by rw [hB];kernel_rfl) (by kernel_rfl) fun ht hf'=>?_
   refine aD ?_;simp [go_sem,ht,hf'];refine o8 rfl rfl rfl (args:=[.i o.order]) (f:=45) (by simp [go_sem]) (aYP o.order) (by decide) (oK (by simp [go_sem])) ?_;refine aD ?_;simp [go_sem,ht,hf'];obtain ⟨τ0,hτ0⟩:∃τ0:Nat→aG,τ0=ob [(0,.box [.i x.pairs,.i x.cars,.i x.room,.t (.sl (x.stops.map aR.t))]),(1,.box [.i o.width,.i o.order,.i o.budget]),(2,.box [.i 0,.fsl [],.i 0,.i 0,.i 0,.fsl []]),(3,.box [.ref 5,.i o.order]),(4,.box (SS.cs x o 0 0 ⟨4,3,5,7,6⟩ ⟨[],[],bF,[],0,[]⟩)),(5,.arr 4 []),(6,.arr 14 []),(7,.arr 10 [])]:=⟨_,rfl⟩
   refine iB (t:=⟨sl [(2,.ptr 0 0),(3,.ptr 1 0),(4,.ptr 2 0),(5,.ptr 4 0),(26,.ptr 4 0),(27,.agg [.i x.pairs,.i x.cars,.i x.room,.t (.sl (x.stops.map aR.t))])],τ0,8⟩)
    ((aH.ownB (b:=3) (off:=0) (sz:=4) (cs:=[.fsl [],.i o.order]) (by simp [aB]) rfl).trans
    ((aH.ownB (b:=4) (off:=12) (sz:=14) (cs:=[.i x.pairs,.i x.cars,.i x.room,.t (.sl (x.stops.map aR.t)),.i o.width,.i o.order,.i o.budget,.i 0,.fsl [],.i bF,.i 0,.i 0,.fsl [],.fsl [],.ptr 3 0]) (by simp [aB];rfl) rfl).trans
    ((aH.ownB (b:=4) (off:=13) (sz:=10) (cs:=[.i x.pairs,.i x.cars,.i x.room,.t (.sl (x.stops.map aR.t)),.i o.width,.i o.order,.i o.budget,.i 0,.fsl [],.i bF,.i 0,.i 0,.ref 6,.fsl [],.ptr 3 0]) (by simp [aB]) rfl).trans
    ((aH.looseB (b:=4) (cs:=[.i x.pairs,.i x.cars,.i x.room,.t (.sl (x.stops.map aR.t)),.i o.width,.i o.order,.i o.budget,.i 0,.fsl [],.i bF,.i 0,.i 0,.ref 6,.ref 7,.ptr 3 0]) (by simp [aB])).trans
    (aH.slots (by simp [go_sem]) ?_ rfl))))) ?_
   ·funext i;rw [hτ0]
    match i with
    |0=>simp [aB,ob]
    |1=>simp [aB,ob]
    |2=>simp [aB,ob]
    |3=>simp [aB,ob]
    |4=>simp [aB,ob,cQ,SS.cs,pW]
    |5=>simp [aB,ob]
    |6=>simp [aB,ob]
    |7=>simp [aB,ob]
    |i+8=>simp [aB,ob,dR]
   obtain ⟨p,hx⟩:=x.fit cm;have hp3:p≤3:=by have:=hx.len;omega
   have hrun:=aEP hx cm hp3 co hw;rw [hR] at hrun;have hgo:=z6 hx cm hp3;have hroot:=zP x (by omega);have hrok:=zO x;have hsok:eQ x o ⟨4,3,5,7,6⟩ ⟨[],[],bF,[],0,[]⟩ τ0 8:=by rw [hτ0];exact ⟨⟨rfl,rfl,rfl,by decide,by decide,by decide,by decide⟩,[],rfl,rfl,List.Perm.refl _,fun i h1 h2=>by simp at h2⟩
   have y0:τ0 0= .box [.i x.pairs,.i x.cars,.i x.room,.t (.sl (x.stops.map aR.t))]:=by rw [hτ0];rfl
   have y1:τ0 1= .box [.i o.width,.i o.order,.i o.budget]:=by rw [hτ0];rfl
   have y2:τ0 2= .box [.i 0,.fsl [],.i 0,.i 0,.i 0,.fsl []]:=by rw [hτ0];rfl
   clear hτ0;refine aL rfl rfl rfl (args:=[x.a]) (f:=47) (by simp [go_sem,aA.a]) (by simp [go_sem,hB]) ((hroot).spec _ _) ?_;refine aD ?_;simp [go_sem,aF.a,aF.cs];refine iB aH.loose ?_;refine dX rfl rfl rfl (args:=[.ptr 4 0,x.rootN.a,.i 0]) (f:=46) (by simp [go_sem,aC.a,aC.cs,aA.rootN,cQ,cQ.loosenL,aJ]) (by simp [go_sem,hB]) (aM5 x o ⟨4,3,5,7,6⟩ ⟨[],[],bF,[],0,[]⟩ x.rootN 0 (by omega) hrok (by simp [aA.rootN]) (by simp) (by simp) (σ:=τ0) (nx:=8) hsok) fun r σ1 nx1 hq=>?_
   obtain ⟨rfl,k1,c1,c2⟩:=hq;rw [←aA.start] at c1;have z:=c2.q;have z2:=c2.sb;have z3:=c2.lg;have z4:=c2.s;have z5:=c2.h;simp only at z z2 z3 z4 z5
   have hri:RI x o p R 1850 x.start k1 σ1 nx1:=by
    refine ⟨hrun,hgo,c1,by omega,?_,?_,?_⟩
    ·rw [c2.keep 0 (by decide) (by decide) (by decide) (by decide) (by decide) (by decide)];exact y0
    ·rw [c2.keep 1 (by decide) (by decide) (by decide) (by decide) (by decide) (by decide)];exact y1
    ·rw [c2.keep 2 (by decide) (by decide) (by decide) (by decide) (by decide) (by decide)];exact y2
   clear z z2 z3 z4 z5 c1 c2 y0 y1 y2 hsok hrun hgo hroot hrok hR hmy hom;refine aD ?_;simp [go_sem];refine bA (α:=Nat×SS×fS×(Nat→aG)×Nat) (fun (f,s,k,τ,m)=>RI x o p R f s k τ m) (fun (f,s,k,τ,m)=>⟨sl [(2,.ptr 0 0),(3,.ptr 1 0),(4,.ptr 2 0),(5,.ptr 4 0)],τ,m⟩) (fun a=>a.1) (1850,x.start,k1,σ1,nx1) hri (aH.slots (by simp [go_sem,cQ]) rfl rfl) ?_;rintro ⟨f,s,k,τ,m⟩ h;simp only at h
   obtain ⟨f,rfl⟩:∃f',f=f'+1:=by
    cases f with
    |zero=>have:=h.run;cases this
    |succ f=>exact ⟨f,rfl⟩
   have hrun:=h.run;rw [aA.runGo] at hrun;obtain ⟨hi1,hi2,hi3,hi4,hi5⟩:=h.ids;have hlt:=h.ok.b.lt;have a1:=h.ok.b.box;rw [SS.cs,hi1] at a1;obtain ⟨l,q1,q2,q3,q4⟩:=h.ok.q;have hll:=q3.length_eq;have hpre:=h.go.pre hx cm hp3;have:=hpre.q;by_cases cq:l=[]
   ·subst cq;have hq0:s.q=[]:=List.eq_nil_of_length_eq_zero (by rw [←hll];rfl);have hend:R=s.ends:=by rw [hq0] at hrun;exact (Option.some.inj hrun).symm
    refine aD ?_;simp [go_sem,a1];refine aL rfl rfl rfl (args:=[.ptr k.h 0]) (f:=48) (by simp [go_sem]) (by simp [go_sem,hB]) (aV3 o.order hlt.2.1 q1 hlt.2.2.1 q2) ?_;refine aD ?_;simp [go_sem,aK.a,aK.cs];have hst:=h.ok.stay (σ':=aB (aB τ m (.box [.i 0,.i 0,.i 0])) m (.box [.i aK.zero.bound,.i aK.zero.depth,.i aK.zero.no])) (nx':=m+1) (by omega) fun i hi=>by simp [aB,show ¬i=m by omega]
    refine dX rfl rfl rfl (args:=[.ptr k.s 0]) (f:=49) (by simp [go_sem,hi1]) (by simp [go_sem,hB]) (aUM x o k s (nx:=m+1) hst.1) fun r σ2 nx2 hq=>?_
    obtain ⟨rfl,e1,e2⟩:=hq;have e3:σ2 2= .box [.i 0,.fsl [],.i 0,.i 0,.i 0,.fsl []]:=by rw [e2 2 (by omega) (by omega)];simp [aB,show ¬2=m by omega,h.b2]
    have e4:σ2 k.lg= .arr 14 (gY s.log):=by rw [e2 k.lg (by omega) (fun e=>by have h1:=h.ok.b.log;rw [e,h.ok.b.box] at h1;cases h1)];simp [aB,show ¬k.lg=m by omega,h.ok.b.log]
    have e5:¬k.lg=2:=by omega
    refine aD ?_;simp [go_sem,e3,e4,e5];rw [hend];rfl
   ·have hpos:0<l.length:=List.length_pos_iff.2 cq;obtain ⟨q',t1,t2⟩:=bEP q3 q4 hpos;have hok:=bBK q4 hpos;have htk:=aV4 o.order l (by omega) hpos hlt.2.1 q1 hlt.2.2.1 q2;rw [t1] at hrun;simp only at hrun;obtain ⟨n,hn,hg,htn,k1,k2,k3⟩:=h.go.look hx cm hp3 hw t1;have hskip:=fun c=>h.go.skip t1 c
    generalize l.getD 0 aK.zero=e at *;generalize mU o.order l=l' at *;refine aD ?_;simp [go_sem,a1];refine dX rfl rfl rfl (args:=[.ptr k.h 0]) (f:=48) (by simp [go_sem]) (by simp [go_sem,hB]) htk fun r σ2 nx2 hq=>?_
    obtain ⟨rfl,g1,qn,g2,g3,g4,g5,g6⟩:=hq;have hsb:=h.ok.b;have d1:k.sb≠k.h∧k.sb≠k.q∧k.lg≠k.h∧k.lg≠k.q:=⟨fun e=>hsb.hs.1 e.symm,fun e=>hsb.qs.2.2.1 e.symm,fun e=>hsb.hs.2 e.symm,fun e=>hsb.qs.2.2.2 e.symm⟩;have dsh:=hsb.sh;have dqs:=hsb.qs;have dhs:=hsb.hs
    have hsok2:eQ x o {k with q:=qn} (s.left q') σ2 nx2:=by
     refine ⟨⟨?_,?_,?_,dsh,?_,dhs,?_⟩,l',g4,g5,t2,hok⟩
     ·rw [g6 k.s (by omega) dsh (by omega)];exact hsb.box
     ·rw [g6 k.sb (by omega) d1.1 d1.2.1];exact hsb.subs
     ·rw [g6 k.lg (by omega) d1.2.2.1 d1.2.2.2];exact hsb.log
     ·simp only;omega
     ·simp only;omega
    have hruns2:gS k τ m {k with q:=qn} σ2 nx2:=⟨g1,rfl,rfl,.inr g2,.inl rfl,.inl rfl,fun i h1 h2 h3 h4 h5 h6=>g6 i h1 h3 h4⟩;clear htk;have b3:=(hruns2.keep 1 (by omega) (by omega) (by omega) (by omega) (by omega) (by omega)).trans h.b1;have b4:=(hruns2.keep 2 (by omega) (by omega) (by omega) (by omega) (by omega) (by omega)).trans h.b2;have b5:=hsok2.b.box;rw [SS.cs] at b5;simp only [hi1,SS.left] at b5;have hm4:4<nx2:=by omega
    have j1:¬4=nx2:=by omega
    have j2:¬nx2=4:=by omega
    have j3:¬1=nx2:=by omega
    have j4:¬2=nx2:=by omega
    have j5:¬nx2=2:=by omega
    refine aD ?_;simp [go_sem,aK.a,aK.cs];refine bK [] rfl (by rw [hB];kernel_rfl) ?_;have hst2:=hsok2.stay (σ':=aB (aB σ2 nx2 (.box [.i 0,.i 0,.i 0])) nx2 (.box [.i e.bound,.i e.depth,.i e.no])) (nx':=nx2+1) (by omega) fun i hi=>by simp [aB,show ¬i=nx2 by omega]
    have hold:∀i,i<nx2→aB (aB σ2 nx2 (.box [.i 0,.i 0,.i 0])) nx2 (.box [.i e.bound,.i e.depth,.i e.no]) i=σ2 i:=fun i hi=>by simp [aB,show ¬i=nx2 by omega]
    have hnew:aB (aB σ2 nx2 (.box [.i 0,.i 0,.i 0])) nx2 (.box [.i e.bound,.i e.depth,.i e.no]) nx2= .box [.i e.bound,.i e.depth,.i e.no]:=by simp [aB]
    by_cases c1:s.up≤e.bound
    ·rw [if_pos c1] at hrun;refine aD ?_;simp [go_sem,b5,j1,c1];exact Next.mk (f,s.left q',{k with q:=qn},_,nx2+1) (h.next hrun (hskip c1) hst2.1 (hruns2.trans hst2.2)) (aH.slots (by simp [go_sem]) rfl rfl) (by simp only;omega)
    rw [if_neg c1] at hrun;refine aD ?_;simp [go_sem,b5,j1,c1];refine bK [] rfl (by rw [hB];kernel_rfl) ?_;by_cases c2:o.budget≤s.steps
    ·rw [if_pos c2] at hrun;refine aD ?_;simp [go_sem,b5,b3,j1,j3,c2];have hl1:=aVV o.order l' (by have:=t2.length_eq;have:=(qG t1).2.2.2;omega) (σ:=aB (aB σ2 nx2 (.box [.i 0,.i 0,.i 0])) nx2 (.box [.i e.bound,.i e.depth,.i e.no])) (nx:=nx2+1) (h:=k.h) (q:=qn) (by omega) ((hold k.h (by omega)).trans g4) (by omega) ((hold qn g3).trans g5);rw [aWZ t2] at hl1;have hmin:min (min s.up e.bound) (jU q')=min s.up (min e.bound (jU q')):=by omega
     refine cT [18,22] [1,7,8,14] rfl (by rw [hB];kernel_rfl) (by kernel_rfl) fun ht hf'=>?_
     refine aD ?_;simp [go_sem,ht,hf',b5,j1,j2];refine nW (v:=.i (jU q')) (fun ho=>?_) (by simp [go_sem,ht]) ?_
     ·exact xV ho (by simp [go_sem]) rfl rfl (args:=[.ptr k.h 0]) (f:=50) (by simp [go_sem]) hl1
     have e4:σ2 k.lg= .arr 14 (gY s.log):=hsok2.b.log;have e5:¬k.lg=2:=by omega
     have e6:¬k.lg=4:=fun e=>by have h1:=h.ok.b.log;rw [e,←hi1,h.ok.b.box] at h1;cases h1
     have e7:¬k.lg=nx2:=by omega
     refine aD ?_;simp [go_sem,ht,hf',b5,b4,j1,j2,j4,j5,hmin,e4,e5,e6,e7];rw [←Option.some.inj hrun];rfl
    ·rw [if_neg c2,hg] at hrun;have hno:=List.getElem?_eq_some_iff.1 hn;obtain ⟨hno1,hno2⟩:=hno;have hnl:(aM s.subs).length=s.subs.length:=List.length_map _;have hgn:∀h,(aM s.subs)[e.no]'h=n.t:=fun h=>by rw [jX _ hno1,hno2]
     have hsb2:σ2 k.sb= .arr 10 (aM s.subs):=hsok2.b.subs;have j6:¬k.sb=nx2:=by have:=hsok2.b.lt;simp only at this;omega
     refine aD ?_;simp [go_sem,b5,b3,j1,j3,c2];refine aAP [] 9 _ rfl (by rw [hB];kernel_rfl) (by kernel_rfl) rfl ?_;refine aD ?_;simp [go_sem,b5,j1,hsb2,j6,hnl,hno1,hgn,aC.t];refine dX rfl rfl rfl (args:=[.ptr k.s 0,n.a]) (f:=51) (by simp [go_sem,aC.a,aC.cs,hi1]) (by simp [go_sem,hB]) (bC5 x o {k with q:=qn} (s.left q') n (aXH hx cm hp3 htn hw) ⟨hpre.steps,hpre.subs,by have h1:=t2.length_eq;have h2:=(qG t1).2.2.2;show q'.length<_;omega,hpre.log⟩ (nx:=nx2+1) hst2.1) fun r σ4 nx4 hq=>?_
     obtain ⟨rfl,k4,e1,e2⟩:=hq;refine aD ?_;simp [go_sem];exact Next.mk (f,x.lookS o.width (s.left q') n,k4,_,nx4) (h.next hrun k1 e1 ((hruns2.trans hst2.2).trans e2)) (aH.slots (by simp [go_sem]) rfl rfl) (by simp only;omega)
set_option maxHeartbeats 1000000
theorem bDA:(small.search ⟨1,0,100⟩).status=2∧(small.search ⟨1,0,100⟩).up=12∧(small.search ⟨1,0,100⟩).low=12∧(small.search ⟨1,0,100⟩).plan.length=1∧(small.search ⟨1,0,100⟩).log.length=1:=by decide+kernel
theorem vR {x:aA} {o:aV} (hl:x.stops.length≤7) (hm:x.may=true) (ho:o.mayB=true) (hw:o.width≤40):aGL x (x.search o):=by
 obtain ⟨p,hx⟩:=x.fit hm;have hp:p≤3:=by have:=hx.len;omega
 have hg:=z6 hx hm hp;exact aEN (by omega) hm o 1850 x.start _ hg.inv hg.cov (aEP hx hm hp ho hw)
structure Whole (x:aA) (r:bR):Prop where
 low:r.low=r.up
 least:∀v c,x.way v x.rootS c→r.up≤c
 some:r.up<bF→r.status=2∧∃v,x.way v x.rootS r.up
 none:¬r.up<bF→r.status=3∧r.up=bF
theorem aK4 (x:aA) (w:Int) (s:SS) (n:aC):(x.lookS w s n).log=s.log++[(n,x.build n w (s.nar x w n).up)]:=by
 have h1:(s.nar x w n).log=s.log:=(hO (s.plus (x.narrow n w s.up).2.2) ((x.narrow n w s.up).1,(x.narrow n w s.up).2.1)).2.2.2.1;rw [aA.lookS,←h1];generalize s.nar x w n=t;unfold aA.lookD;split
 ·rfl
 split
 ·exact (hO _ _).2.2.2.1
 ·rw [aA.branch,(rL x _ _ _).2.1,(oJ x _ _).2.2.2.1];rfl
def aAS (a b:List Int):Prop:=¬a <+:b∧¬b <+:a
def SS.pathsQ (s:SS):List (List Int):=s.q.map fun e=>(s.subs.getD e.no aC.zero).path
structure nY (s:SS):Prop where
 apart:s.pathsQ.Pairwise aAS
 new:∀q∈s.pathsQ,∀d∈s.log,¬q <+:d.1.path
 nodup:(s.log.map fun d=>d.1.path).Nodup
 first:s.log=[]→∀q∈s.pathsQ,q=[]
 head:∀d l,s.log=d :: l→d.1.path=[]∧∀e∈l,e.1.path≠[]
theorem aKL {x:aA} {n:aC} (up:Int):∀(k:Nat),∀m∈x.layN up n k,n.path <+:m.path
 |0,m,hm=>by rw [List.mem_singleton.1 hm];exact List.prefix_refl _
 |k+1,m,hm=>by obtain ⟨q,hq,j,hj,rfl,_⟩:=gZ hm;exact (aKL up k q hq).trans (List.prefix_append _ _)
theorem aEC {x:aA} {low:Int}:∀(l:List aC) (s:SS),(∀e∈s.q,∃m,s.subs[e.no]? =some m)→∃k:List aC,k.Sublist l∧(l.foldl (x.push low) s).pathsQ=s.pathsQ++k.map aC.path
 |[],s,_=>⟨[],List.Sublist.refl _,by simp⟩
 |n :: l,s,hn=>by
  obtain ⟨k,h1,h2⟩:=aEC (x:=x) (low:=low) l (x.push low s n) (aM4 hn);rw [List.foldl_cons,h2];rcases lZ x low s n with ⟨e,_⟩ | ⟨_,e⟩
  ·rw [e];exact ⟨k,h1.cons _,rfl⟩
  ·refine ⟨n :: k,h1.cons_cons _,?_⟩
   have:(x.push low s n).pathsQ=s.pathsQ++[n.path]:=by
    rw [e,SS.pathsQ,SS.pathsQ];simp only;rw [List.map_append,List.map_cons,List.map_nil];have h2:(s.subs++[n])[s.subs.length]? =some n:=by simp
    rw [oE h2];congr 1;refine List.map_congr_left fun e he=>?_
    obtain ⟨m,hm⟩:=hn e he;rw [oE hm,oE (pI hm)]
   rw [this,List.append_assoc];rfl
theorem bEU {o:Int} {q:List aK} {e:aK} {q':List aK} (h:gB o q=some (e,q')):∃a b,q=a++e :: b∧q'=a++b:=by
 unfold gB at h;split at h
 ·cases h
 rename_i hq;have hk:=yX o hq;obtain ⟨h1,h2⟩:=Prod.mk.inj (Option.some.inj h);refine ⟨q.take (dV o q),q.drop (dV o q+1),?_,h2.symm⟩;have hg:q.getD (dV o q) aK.zero=q[dV o q]:=by rw [List.getD_eq_getElem?_getD,List.getElem?_eq_getElem hk];rfl
 rw [←h1,hg,←List.drop_eq_getElem_cons hk,List.take_append_drop]
theorem nY.left {s:SS} (h:nY s) {o:Int} {e:aK} {q:List aK} (ht:gB o s.q=some (e,q)):nY (s.left q)∧(∀p∈(s.left q).pathsQ,aAS (s.subs.getD e.no aC.zero).path p)∧(s.subs.getD e.no aC.zero).path∈s.pathsQ:=by
 obtain ⟨a,b,h1,h2⟩:=bEU ht;have e1:s.pathsQ=(a.map fun e=>(s.subs.getD e.no aC.zero).path)++(s.subs.getD e.no aC.zero).path :: (b.map fun e=>(s.subs.getD e.no aC.zero).path):=by rw [SS.pathsQ,h1,List.map_append,List.map_cons]
 have e2:(s.left q).pathsQ=(a.map fun e=>(s.subs.getD e.no aC.zero).path)++(b.map fun e=>(s.subs.getD e.no aC.zero).path):=by rw [SS.pathsQ,←List.map_append,←h2];rfl
 have hap:=h.apart;rw [e1,List.pairwise_append,List.pairwise_cons] at hap;obtain ⟨p1,⟨p2,p3⟩,p4⟩:=hap
 have hsub:∀p∈(s.left q).pathsQ,p∈s.pathsQ:=fun p hp=>by
  rw [e2] at hp;rw [e1];rcases List.mem_append.1 hp with hp | hp
  ·exact List.mem_append_left _ hp
  ·exact List.mem_append_right _ (List.mem_cons_of_mem _ hp)
 refine ⟨⟨?_,fun p hp=>h.new p (hsub p hp),h.nodup,fun hl p hp=>h.first hl p (hsub p hp),h.head⟩,fun p hp=>?_,by rw [e1];simp⟩
 ·rw [e2,List.pairwise_append];exact ⟨p1,p3,fun u hu v hv=>p4 u hu v (List.mem_cons_of_mem _ hv)⟩
 ·rw [e2] at hp;rcases List.mem_append.1 hp with hp | hp
  ·obtain ⟨g1,g2⟩:=p4 p hp _ List.mem_cons_self;exact ⟨g2,g1⟩
  ·exact p2 p hp
theorem aXG {x:aA} (hm:x.may=true) {n:aC} (ht:bY x n) (w:Int) {s:SS} (hs:∀e∈s.q,∃m,s.subs[e.no]? =some m):∃l:List aC,(x.lookS w s n).pathsQ=s.pathsQ++l.map aC.path∧(∀m∈l,n.path <+:m.path∧m.path≠n.path)∧(l.map aC.path).Pairwise aAS:=by
 have q1:(s.nar x w n).subs=s.subs∧(s.nar x w n).q=s.q:=⟨(hO _ _).2.1,(hO _ _).2.2.1⟩;rw [aA.lookS];generalize s.nar x w n=t at *;have hlike:∀u:SS,u.subs=s.subs→u.q=s.q→u.pathsQ=s.pathsQ:=fun u h1 h2=>by rw [SS.pathsQ,SS.pathsQ,h1,h2]
 rw [aA.lookD];split
 ·exact ⟨[],by rw [hlike (t.dia n (x.build n w t.up)) q1.1 q1.2];simp,fun m hm=>(by cases hm),List.Pairwise.nil⟩
 split
 ·have h3:=hO ((t.dia n (x.build n w t.up)).plus (x.exact n (t.dia n (x.build n w t.up)).up (x.mostN w)).2.2.2) ((x.exact n (t.dia n (x.build n w t.up)).up (x.mostN w)).1,(x.exact n (t.dia n (x.build n w t.up)).up (x.mostN w)).2.1);exact ⟨[],(hlike _ (h3.2.1.trans q1.1) (h3.2.2.1.trans q1.2)).trans (by simp),fun m hm=>(by cases hm),List.Pairwise.nil⟩
 ·rename_i c1 c2;have htwo:=aG7 x n w t.up (by simpa using c2);have hok:=mI x n w t.up;obtain ⟨k,hk⟩:∃k,(x.build n w t.up).sure-1=k+1:=⟨(x.build n w t.up).sure-2,by omega⟩;rw [aA.branch];obtain ⟨hl,hlast⟩:=qE hok (i:=(x.build n w t.up).sure-1) (by omega);rw [List.getD_eq_getElem?_getD,List.getElem?_eq_getElem hl,Option.getD_some,hlast,hk];have ho:=oJ x ((x.build n w t.up).layers.take ((x.build n w t.up).sure-1)) (t.dia n (x.build n w t.up));rw [hk] at ho;generalize x.offers (t.dia n (x.build n w t.up)) ((x.build n w t.up).layers.take (k+1))=S at *;have g1:S.subs=s.subs:=ho.2.1.trans q1.1;have g2:S.q=s.q:=ho.2.2.1.trans q1.2;obtain ⟨l,h1,h2⟩:=aEC (x:=x) (low:=(x.build n w t.up).low) (x.layN t.up n (k+1)) S (by rw [g1,g2];exact hs);have hmem:∀m∈l,m∈x.layN t.up n (k+1):=fun m hm=>h1.subset hm
  have htr:=fun m hm=>lO ht t.up (k+1) m (hmem m hm)
  refine ⟨l,by rw [h2,hlike _ g1 g2],fun m hm=>⟨aKL t.up _ m (hmem m hm),fun e=>?_⟩,?_⟩
  ·have:=(htr m hm).2;rw [e] at this;omega
  ·have hnd:(l.map aC.s).Nodup:=((h1.map aC.s).nodup (aL0 x (x.layN t.up n k) t.up));rw [List.Nodup,List.pairwise_map] at hnd;rw [List.pairwise_map];refine hnd.imp_of_mem fun {a b} ha hb hne=>?_
   have h3:=htr a ha;have h4:=htr b hb
   have key:a.path≠b.path:=fun e=>hne (by
    have g3:=h3.1.goes
    rw [e,h4.1.goes] at g3
    exact (congrArg Prod.fst (Option.some.inj g3)).symm)
   exact ⟨fun hp=>key (hp.eq_of_length (by rw [h3.2,h4.2])),fun hp=>key (hp.eq_of_length (by rw [h3.2,h4.2])).symm⟩
theorem nY.look {x:aA} (hm:x.may=true) {s:SS} (h:nY s) {n:aC} (ht:bY x n) {w:Int} {o:Int} {e:aK} {q:List aK} (htk:gB o s.q=some (e,q)) (hn:s.subs.getD e.no aC.zero=n) (hs:∀f∈q,∃m,s.subs[f.no]? =some m):nY (x.lookS w (s.left q) n):=by
 obtain ⟨h1,h2,h3⟩:=h.left htk;rw [hn] at h2 h3;obtain ⟨l,l1,l2,l3⟩:=aXG hm ht w (s:=s.left q) hs;have hlog:(x.lookS w (s.left q) n).log=s.log++[(n,x.build n w ((s.left q).nar x w n).up)]:=aK4 x w (s.left q) n;have hnew:=h.new _ h3;refine ⟨?_,fun p hp d hd=>?_,?_,fun hl=>?_,fun d t hdt=>?_⟩
 ·rw [l1,List.pairwise_append];refine ⟨h1.apart,l3,fun a ha b hb=>?_⟩;obtain ⟨m,hm',rfl⟩:=List.mem_map.1 hb;obtain ⟨g1,g2⟩:=l2 m hm';obtain ⟨k1,k2⟩:=h2 a ha;refine ⟨fun hp=>?_,fun hp=>k1 (g1.trans hp)⟩;rcases List.prefix_or_prefix_of_prefix g1 hp with h | h
  ·exact k1 h
  ·exact k2 h
 ·rw [l1] at hp;rw [hlog] at hd;rcases List.mem_append.1 hp with hp | hp
  ·rcases List.mem_append.1 hd with hd | hd
   ·exact h1.new p hp d hd
   ·rw [List.mem_singleton.1 hd];exact (h2 p hp).2
  ·obtain ⟨m,hm',rfl⟩:=List.mem_map.1 hp;obtain ⟨g1,g2⟩:=l2 m hm';rcases List.mem_append.1 hd with hd | hd
   ·exact fun hp=>hnew d hd (g1.trans hp)
   ·rw [List.mem_singleton.1 hd];intro hp;have a1:=g1.length_le;have a2:=hp.length_le;exact g2 (g1.eq_of_length (by simp only at a2;omega)).symm
 ·rw [hlog,List.map_append,List.nodup_append];refine ⟨h.nodup,by simp,fun a ha b hb e=>?_⟩;rw [List.map_cons,List.map_nil,List.mem_singleton] at hb;subst e;obtain ⟨d,hd,hde⟩:=List.mem_map.1 ha;refine hnew d hd ?_;rw [hde,hb];exact List.prefix_refl _
 ·rw [hlog] at hl;exact absurd hl (by simp)
 ·rw [hlog] at hdt;cases hsl:s.log with
  |nil=>rw [hsl] at hdt;simp only [List.nil_append,List.cons.injEq] at hdt;obtain ⟨rfl,rfl⟩:=hdt;exact ⟨h.first hsl _ h3,fun e he=>(by cases he)⟩
  |cons a l=>
   rw [hsl] at hdt;simp only [List.cons_append,List.cons.injEq] at hdt;obtain ⟨rfl,rfl⟩:=hdt;obtain ⟨g1,g2⟩:=h.head a l hsl;refine ⟨g1,fun e he=>?_⟩;rcases List.mem_append.1 he with he | he
   ·exact g2 e he
   ·rw [List.mem_singleton.1 he];intro hnil;refine hnew a (by rw [hsl];simp) ?_;have hnil':n.path=[]:=hnil;rw [hnil'];exact List.nil_prefix
theorem bD4 (x:aA):nY x.start:=by
 have h0:nY ⟨[],[],bF,[],0,[]⟩:=⟨List.Pairwise.nil,fun q hq=>(by cases hq),List.nodup_nil,fun _ q hq=>(by cases hq),fun d l h=>(by cases h)⟩;have hlog:x.start.log=[]:=(p9 x 0 ⟨[],[],bF,[],0,[]⟩ x.rootN).2.1;obtain ⟨k,h1,h2⟩:=aEC (x:=x) (low:=0) [x.rootN] ⟨[],[],bF,[],0,[]⟩ fun e he=>by cases he
 have hq:x.start.pathsQ=k.map aC.path:=by have:x.start.pathsQ=([x.rootN].foldl (x.push 0) ⟨[],[],bF,[],0,[]⟩).pathsQ:=rfl;rw [this,h2];rfl
 have hk:∀q∈x.start.pathsQ,q=[]:=fun q h=>by rw [hq] at h;obtain ⟨m,hm,rfl⟩:=List.mem_map.1 h;rw [List.mem_singleton.1 (h1.subset hm)];rfl
 refine ⟨?_,fun q _ d hd=>(by rw [hlog] at hd;cases hd),(by rw [hlog];exact List.nodup_nil),fun _=>hk,fun d l h=>(by rw [hlog] at h;cases h)⟩;rw [hq];have hlen:=h1.length_le
 match k,hlen with
 |[],_=>exact List.Pairwise.nil
 |[a],_=>exact List.pairwise_singleton _ _
structure aC.Fits (x:aA) (n:aC):Prop where
 may:n.s.mayB x=true
 cost:0≤n.cost∧n.cost≤1152921504606846976
theorem yV {x:aA} {s:aF} (h1:0≤s.spot∧s.spot≤2*x.pairs) (h2:1≤s.car∧s.car≤x.cars) (h3:0≤s.time∧s.time≤1073741824) (h4:0≤s.load∧s.load≤1000):s.mayB x=true:=by simp only [aF.mayB,Bool.and_eq_true,decide_eq_true_eq];exact ⟨⟨⟨⟨⟨⟨⟨h1.1,h1.2⟩,h2.1⟩,h2.2⟩,h3.1⟩,h3.2⟩,h4.1⟩,h4.2⟩
theorem aLB {x:aA} {p:Nat} (hx:x.Fit p) {s:aF} (hs:s.Fit x p) {j:Int} (h0:0≤j) (h1:j≤2*p) (hl:x.lateB s j=false) (hd:s.load+(x.stop j).demand≤1000) {o:Nat}:({x.seen s j with on:=o}:aF).mayB x=true:=by
 have hj:=hx.at h0 h1;have hp:=hx.pairs;have hr:=hj.ready;have hdu:=hj.due;have hsv:=hj.service;simp only [aA.lateB,Bool.or_eq_false_iff,decide_eq_false_iff_not] at hl;have hb:(x.stop j).ready≤x.begins s j:=by unfold aA.begins;omega
 have hc:=hs.car;refine yV ⟨h0,by rw [hp];exact h1⟩ hc ⟨?_,?_⟩ ⟨?_,?_⟩
 ·show 0≤x.begins s j+(x.stop j).service;omega
 ·show x.begins s j+(x.stop j).service≤1073741824;omega
 ·show 0≤max (s.load+(x.stop j).demand) 0;omega
 ·show max (s.load+(x.stop j).demand) 0≤1000;omega
theorem aLI {x:aA} {s:aF} {j:Int} (h:(x.move s j).2.2=true):(x.move s j).1.mayB x=true:=by
 obtain ⟨h1,h2,h3,h4,h5⟩:=sV h;obtain ⟨p,hx⟩:=x.fit h1;have hs:=aF.fit hx h2;have hp:=hx.pairs;have hroom:=hx.room;rw [h5];show (x.to s j).1.mayB x=true;unfold aA.to at h4 ⊢;split at h4
 ·rename_i e;rw [if_pos e];unfold aA.home at h4 ⊢;split at h4
  ·simp at h4
  ·rename_i hst;rw [if_neg hst];simp only [aA.stayB,Bool.or_eq_true,decide_eq_true_eq,not_or] at hst;have hy:=(hx.at (j:=0) (by omega) (by omega)).ready;have hc:=hs.car;exact yV ⟨by show (0:Int)≤0;omega,by show (0:Int)≤2*x.pairs;omega⟩ ⟨by show 1≤s.car+1;omega,by show s.car+1≤x.cars;omega⟩ ⟨hy.1,by show (x.stop 0).ready≤_;omega⟩ ⟨by show (0:Int)≤0;omega,by show (0:Int)≤1000;omega⟩
 ·rename_i e;rw [if_neg e];split at h4
  ·rename_i e2;rw [if_pos e2];unfold aA.take at h4 ⊢;split at h4
   ·simp at h4
   ·rename_i hf;rw [if_neg hf];simp only [aA.fullB,Bool.or_eq_true,decide_eq_true_eq,not_or] at hf;split at h4
    ·rename_i hv;rw [if_pos hv];unfold aA.visit at hv ⊢;split at hv
     ·simp at hv
     ·rename_i hla;rw [if_neg hla];exact aLB hx hs h3.1 (by omega) (by simpa using hla) (by omega)
    ·rename_i hv;exact absurd h4 hv
  ·rename_i e2;rw [if_neg e2];unfold aA.bring at h4 ⊢;split at h4
   ·simp at h4
   ·rename_i hf;rw [if_neg hf];split at h4
    ·rename_i hv;rw [if_pos hv];unfold aA.visit at hv ⊢;split at hv
     ·simp at hv
     ·rename_i hla;rw [if_neg hla];refine aLB hx hs h3.1 (by omega) (by simpa using hla) ?_;obtain ⟨k,rfl⟩:∃k:Nat,j=((k+p:Nat):Int):=⟨(j-p).toNat,by omega⟩;have hk:=hx.bring (k:=k) (by omega) (by omega);have ht:=hx.take (k:=k) (by omega) (by omega);have:=hs.load;omega
    ·rename_i hv;exact absurd h4 hv
theorem aNV {x:aA} (hm:x.may=true):x.rootS.mayB x=true:=by obtain ⟨p,hx⟩:=x.fit hm;have hy:=(hx.at (j:=0) (by omega) (by omega)).ready;have hp:=hx.pairs;have hc:=hx.cars;rw [aA.rootS,if_pos hm];exact yV ⟨by show (0:Int)≤0;omega,by show (0:Int)≤2*x.pairs;omega⟩ ⟨by show (1:Int)≤1;omega,hc.1⟩ ⟨hy.1,by show (x.stop 0).ready≤_;omega⟩ ⟨by show (0:Int)≤0;omega,by show (0:Int)≤1000;omega⟩
theorem bEJ (a b:Int):0≤dL [a,b]∧dL [a,b]≤1152921504606846976:=by simp only [dL,List.foldl_cons,List.foldl_nil,mY];omega
theorem aLZ {x:aA} {l:List aC} {up:Int}:∀m∈x.next l up,m.Fits x:=by intro m hm;obtain ⟨n,hn,j,hj,rfl,_⟩:=gZ hm;exact ⟨aLI (jW hj),bEJ _ _⟩
theorem aWO {x:aA} {s t:aF} (h:s.mayB x=true) (k:t.mayB x=true):(s.join t).mayB x=true:=by simp only [aF.mayB,Bool.and_eq_true,decide_eq_true_eq] at h k;refine yV ⟨?_,?_⟩ ⟨?_,?_⟩ ⟨?_,?_⟩ ⟨?_,?_⟩<;>simp only [aF.join]<;>omega
theorem aJA {x:aA}:∀(l:List aF) (s:aF),s.mayB x=true→(∀t∈l,t.mayB x=true)→(l.foldl aF.join s).mayB x=true
 |[],s,h,_=>h
 |t :: l,s,h,hl=>aJA l (s.join t) (aWO h (hl t List.mem_cons_self)) fun u hu=>hl u (List.mem_cons_of_mem _ hu)
theorem bDX {x:aA} {l:List aC} (h:∀m∈l,m.Fits x) (w:Int):∀m∈x.squeeze l w,m.Fits x:=by
 intro m hm;rcases vT hm with hm | ⟨i,g,h0,_,hg,rfl⟩
 ·exact h m hm
 ·obtain ⟨c1,n,hn,c2⟩:=aBT h0;refine ⟨?_,?_⟩
  ·match g,h0 with
   |a :: g,_=>
    have ha:=(hg a List.mem_cons_self);show (eU ((a :: g).map aC.s)).1.mayB x=true;have hall:∀t∈(a :: g).map aC.s,t.spot=(i:Int):=fun t ht=>by obtain ⟨b,hb,rfl⟩:=List.mem_map.1 ht;exact (hg b hb).2
    have hj:(eU ((a :: g).map aC.s)).1=(g.map aC.s).foldl aF.join a.s:=by rw [List.map_cons,eU,if_neg];rw [List.any_eq_true];rintro ⟨t,ht,h2⟩;simp only [decide_eq_true_eq] at h2;exact h2 ((hall t (List.mem_cons_of_mem _ ht)).trans ha.2.symm)
    rw [hj];exact aJA _ _ (h a ha.1).may fun t ht=>by obtain ⟨b,hb,rfl⟩:=List.mem_map.1 ht;exact (h b (hg b (List.mem_cons_of_mem _ hb)).1).may
  ·show 0≤iR g∧iR g≤_;rw [c2];exact (h n (hg n hn).1).cost
def qL (x:aA) (l' l:List aC) (up:Int):Prop:=∀c∈x.next l up,∃m∈l',dB m.s c.s=true∧m.cost≤c.cost
theorem aBA {x:aA} (w up dp:Int):∀(f:Nat) (ls:List (List aC)) (low:Int) (sq:Option Nat) (l:List aC),dp+2≤(f:Int)+ls.length→1≤f→(∀k∈ls++[l],∀n∈k,n.Fits x)→(∀(i:Nat) k,ls[i]? =some k→qL x (((ls++[l])[i+1]?).getD []) k up)→
  (∀k∈(x.buildGo w up dp f ls low sq l).layers,∀n∈k,n.Fits x)∧∀(i:Nat) k,(x.buildGo w up dp f ls low sq l).layers[i]? =some k→qL x (((x.buildGo w up dp f ls low sq l).layers[i+1]?).getD []) k up∨dp≤i
 |0,ls,low,sq,l,_,h1,_,_=>absurd h1 (by omega)
 |f+1,ls,low,sq,l,hf,h1,hfit,hc=>by
  rw [aA.buildGo];split
  ·rename_i c0;refine ⟨fun k hk=>hfit k (List.mem_append_left _ hk),fun i k hk=>.inl ?_⟩;have hk':ls[i]? =some k:=hk;have:=hc i k hk';have hlt:=(List.getElem?_eq_some_iff.1 hk').1;show qL x ((ls[i+1]?).getD []) k up;by_cases e:i+1<ls.length
   ·rwa [List.getElem?_append_left e] at this
   ·rw [show i+1=ls.length by omega] at this ⊢;rw [List.getElem?_eq_none (Nat.le_refl _)];rw [List.getElem?_append_right (Nat.le_refl _),Nat.sub_self,c0] at this;exact this
  rename_i c0
  have hsnoc:∀(i:Nat) k,(ls++[l])[i]? =some k→(i<ls.length∧ls[i]? =some k)∨(i=ls.length∧k=l):=by
   intro i k hk;have hlt:=(List.getElem?_eq_some_iff.1 hk).1;rw [List.length_append,List.length_singleton] at hlt;by_cases e:i<ls.length
   ·rw [List.getElem?_append_left e] at hk;exact .inl ⟨e,hk⟩
   ·have:i=ls.length:=by omega
    subst this;rw [List.getElem?_append_right (Nat.le_refl _),Nat.sub_self] at hk;exact .inr ⟨rfl,(Option.some.inj hk).symm⟩
  split
  ·rename_i c1;refine ⟨hfit,fun i k hk=>?_⟩;rcases hsnoc i k hk with ⟨_,h⟩ | ⟨h,_⟩
   ·exact .inl (hc i k h)
   ·exact .inr (by omega)
  rename_i c1;have hlen:(ls++[l]).length=ls.length+1:=by simp
  have step:∀l',qL x l' l up→∀(i:Nat) k,(ls++[l])[i]? =some k→qL x (((ls++[l]++[l'])[i+1]?).getD []) k up:=by
   intro l' hl' i k hk;rcases hsnoc i k hk with ⟨e,h⟩ | ⟨rfl,rfl⟩
   ·rw [List.getElem?_append_left (by omega)];exact hc i k h
   ·rw [List.getElem?_append_right (by omega),hlen,Nat.sub_self];exact hl'
  split
  ·refine aBA w up dp f _ _ _ _ (by rw [hlen];omega) (by omega) (fun k hk=>?_) (step _ fun c hcm=>?_)
   ·rcases List.mem_append.1 hk with hk | hk
    ·exact hfit k hk
    ·rw [List.mem_singleton.1 hk];exact bDX aLZ w
   ·obtain ⟨n,hn,j,hj,rfl,_⟩:=gZ hcm;have hsp:=aBP (jW hj);exact aE0 w hcm hsp.1 hsp.2
  ·refine aBA w up dp f _ _ _ _ (by rw [hlen];omega) (by omega) (fun k hk=>?_) (step _ fun c hcm=>⟨c,hcm,qX _,Int.le_refl _⟩);rcases List.mem_append.1 hk with hk | hk
   ·exact hfit k hk
   ·rw [List.mem_singleton.1 hk];exact aLZ
theorem aG2 {x:aA} {n:aC} (hn:n.Fits x) (w up:Int):(∀k∈(x.build n w up).layers,∀m∈k,m.Fits x)∧∀(i:Nat) k,(x.build n w up).layers[i]? =some k→qL x (((x.build n w up).layers[i+1]?).getD []) k up∨x.deep≤n.path.length+i:=by
 obtain ⟨h1,h2⟩:=aBA (x:=x) w up (x.deep-n.path.length) ((x.deep-n.path.length).toNat+2) [] up none [n] (by simp only [List.length_nil];omega) (by omega) (fun k hk m hm=>by rw [List.mem_singleton.1 hk] at hm;rw [List.mem_singleton.1 hm];exact hn) fun i k h=>by simp at h
 refine ⟨h1,fun i k hk=>?_⟩;rcases h2 i k hk with h | h
 ·exact .inl h
 ·exact .inr (by omega)
theorem aXO {low:Int} {b:aC×Bool} (h:b.2=true):jH low b≤b.1.cost:=by unfold jH;rw [if_pos h];omega
theorem aA8 {x:aA} (w up dp:Int):∀(f:Nat) (ls:List (List aC)) (low:Int) (sq:Option Nat) (l:List aC),(∀k∈ls,(x.bests k).2=true→low≤(x.bests k).1.cost)→
  ∀k∈(x.buildGo w up dp f ls low sq l).layers,(x.bests k).2=true→(x.buildGo w up dp f ls low sq l).low≤(x.bests k).1.cost
 |0,ls,low,sq,l,h=>h
 |f+1,ls,low,sq,l,h=>by
  rw [aA.buildGo]
  have h2:∀k∈ls++[l],(x.bests k).2=true→jH low (x.bests l)≤(x.bests k).1.cost:=by
   intro k hk hb;rcases List.mem_append.1 hk with hk | hk
   ·have:=h k hk hb;have:=aK9 low (x.bests l);omega
   ·rw [List.mem_singleton.1 hk] at hb ⊢;exact aXO hb
  split
  ·exact h
  split
  ·exact h2
  split
  ·exact aA8 w up dp f _ _ _ _ h2
  ·exact aA8 w up dp f _ _ _ _ h2
theorem aSJ (x:aA) (n:aC) (w up:Int):∀k∈(x.build n w up).layers,(x.bests k).2=true→(x.build n w up).low≤(x.bests k).1.cost:=
 aA8 w up _ _ _ _ _ _ fun k hk=>by simp at hk
def jQ (x:aA) (s:SS) (k0:Nat) (low:Int) (m:aC):Prop:=
 s.up≤max low (x.of m)∨(∃e∈s.q,s.subs[e.no]? =some m∧e.bound=max low (x.of m))∨∃j:Nat,k0≤j∧∃D,s.log[j]? =some (m,D)
def uA (x:aA) (w:Int) (s:SS) (k:Nat) (n:aC) (d:aX):Prop:=
 bY x n∧∃u,d=x.build n w u∧s.up≤u∧
  (s.up≤d.low∨(d.exact=true∧∀v c,x.way v n.s c→s.up≤n.cost+c)∨
   (d.exact=false∧(∀i,i<d.sure-1→(x.bests (x.layN u n i)).2=true→s.up≤(x.bests (x.layN u n i)).1.cost)∧∀m∈x.layN u n (d.sure-1),jQ x s (k+1) d.low m))
structure mZ (x:aA) (w:Int) (s:SS):Prop where
 all:∀(k:Nat) n d,s.log[k]? =some (n,d)→uA x w s k n d
 root:jQ x s 0 0 x.rootN
 pos:∀e∈s.q,0≤e.bound
theorem jQ.step {x:aA} {s t:SS} {k0:Nat} {low:Int} {m:aC} (h:jQ x s k0 low m) (hup:t.up≤s.up) (hlog:∀(j:Nat) a,s.log[j]? =some a→t.log[j]? =some a) (hq:∀e∈s.q,s.subs[e.no]? =some m→e.bound=max low (x.of m)→jQ x t k0 low m):jQ x t k0 low m:=by
 rcases h with h | ⟨e,he,h1,h2⟩ | ⟨j,hj,D,hD⟩
 ·exact .inl (by omega)
 ·exact hq e he h1 h2
 ·exact .inr (.inr ⟨j,hj,D,hlog j _ hD⟩)
theorem uA.step {x:aA} {w:Int} {s t:SS} {k:Nat} {n:aC} {d:aX} (h:uA x w s k n d) (hup:t.up≤s.up) (hs:∀low m,jQ x s (k+1) low m→jQ x t (k+1) low m):uA x w t k n d:=by
 obtain ⟨h1,u,h2,h3,h4⟩:=h;refine ⟨h1,u,h2,by omega,?_⟩;rcases h4 with h4 | ⟨h4,h5⟩ | ⟨h4,h5,h6⟩
 ·exact .inl (by omega)
 ·exact .inr (.inl ⟨h4,fun v c hv=>by have:=h5 v c hv;omega⟩)
 ·exact .inr (.inr ⟨h4,fun i hi hb=>by have:=h5 i hi hb;omega,fun m hm=>hs _ m (h6 m hm)⟩)
structure jL (s t:SS):Prop where
 q:∀e∈s.q,e∈t.q
 subs:∀(i:Nat) m,s.subs[i]? =some m→t.subs[i]? =some m
theorem jL.trans {s t u:SS} (h:jL s t) (k:jL t u):jL s u:=⟨fun e he=>k.q e (h.q e he),fun i m hm=>k.subs i m (h.subs i m hm)⟩
theorem jL.like {s t:SS} (h1:t.subs=s.subs) (h2:t.q=s.q):jL s t:=⟨fun e he=>by rw [h2];exact he,fun i m hm=>by rw [h1];exact hm⟩
theorem bAW (x:aA) (low:Int) (s:SS) (n:aC):jL s (x.push low s n):=by
 rcases lZ x low s n with ⟨e,_⟩ | ⟨_,e⟩
 ·rw [e];exact jL.like rfl rfl
 ·rw [e];exact ⟨fun f hf=>List.mem_append_left _ hf,fun i m hm=>pI hm⟩
theorem aD9 (x:aA) (low:Int):∀(l:List aC) (s:SS),jL s (l.foldl (x.push low) s)
 |[],s=>jL.like rfl rfl
 |n :: l,s=>(bAW x low s n).trans (aD9 x low l (x.push low s n))
theorem aEA (x:aA) (low:Int):∀(l:List aC) (s:SS),∀m∈l,s.up≤max low (x.of m)∨∃e∈(l.foldl (x.push low) s).q,(l.foldl (x.push low) s).subs[e.no]? =some m∧e.bound=max low (x.of m)
 |[],s,m,hm=>by cases hm
 |n :: l,s,m,hm=>by
  rcases List.mem_cons.1 hm with rfl | hm
  ·rcases lZ x low s m with ⟨_,e⟩ | ⟨_,e⟩
   ·exact .inl e
   ·have hx:=aD9 x low l (x.push low s m);refine .inr ⟨⟨max low (x.of m),m.path.length,s.subs.length⟩,hx.q _ ?_,hx.subs _ _ ?_,rfl⟩
    ·rw [e];exact List.mem_append_right _ (List.mem_singleton.2 rfl)
    ·rw [e];simp
  ·rcases aEA x low l (x.push low s n) m hm with h | h
   ·rw [(p9 x low s n).1] at h;exact .inl h
   ·exact .inr h
theorem aED (x:aA) (low:Int):∀(l:List aC) (s:SS),(∀e∈s.q,0≤e.bound)→∀e∈(l.foldl (x.push low) s).q,0≤e.bound
 |[],s,h=>h
 |n :: l,s,h=>by
  refine aED x low l (x.push low s n) fun e he=>?_
  rcases lZ x low s n with ⟨e1,_⟩ | ⟨_,e1⟩
  ·rw [e1] at he;exact h e he
  ·rw [e1] at he;rcases List.mem_append.1 he with he | he
   ·exact h e he
   ·rw [List.mem_singleton.1 he];have:=aOT n.cost (x.low n.s);show 0≤max low (x.of n);rw [aA.of];omega
theorem aXK {x:aA} (hst:x.stops.length<2^31) (hm:x.may=true) {n:aC} (ht:bY x n) (w:Int) (s:SS) (hp:∀e∈s.q,0≤e.bound):jL s (x.lookS w s n)∧(∀e∈(x.lookS w s n).q,0≤e.bound)∧uA x w (x.lookS w s n) s.log.length n (x.build n w (s.nar x w n).up):=by
 have q0:=hO (s.plus (x.narrow n w s.up).2.2) ((x.narrow n w s.up).1,(x.narrow n w s.up).2.1);have q1:(s.nar x w n).subs=s.subs∧(s.nar x w n).q=s.q∧(s.nar x w n).log=s.log:=⟨q0.2.1,q0.2.2.1,q0.2.2.2.1⟩;rw [aA.lookS];generalize s.nar x w n=t at *;rw [←q1.2.2];have hok:=mI x n w t.up;have hex:=aIJ hm ht w (up:=t.up) (u:=t.up) (Int.le_refl _);have hd:∃d,x.build n w t.up=d:=⟨_,rfl⟩;obtain ⟨d,hd⟩:=hd;rw [hd] at hok hex ⊢;have e0:jL s (t.dia n d):=jL.like q1.1 q1.2.1;rw [aA.lookD];split
 ·rename_i c1;exact ⟨e0,fun e he=>hp e (by rw [←q1.2.1];exact he),ht,t.up,hd.symm,Int.le_refl _,.inl c1⟩
 split
 ·rename_i c1 c2;have hall:=hex c2;rw [SS.exa];have hdu:(t.dia n d).up=t.up:=rfl;rw [hdu];have ho:=hO ((t.dia n d).plus (x.exact n t.up (x.mostN w)).2.2.2) ((x.exact n t.up (x.mostN w)).1,(x.exact n t.up (x.mostN w)).2.1);have hg:=aDO ((t.dia n d).plus (x.exact n t.up (x.mostN w)).2.2.2) ((x.exact n t.up (x.mostN w)).1,(x.exact n t.up (x.mostN w)).2.1);have hu3:((t.dia n d).plus (x.exact n t.up (x.mostN w)).2.2.2).up=t.up:=rfl;have hs3:((t.dia n d).plus (x.exact n t.up (x.mostN w)).2.2.2).subs=t.subs:=rfl;have hq3:((t.dia n d).plus (x.exact n t.up (x.mostN w)).2.2.2).q=t.q:=rfl;generalize (t.dia n d).plus (x.exact n t.up (x.mostN w)).2.2.2=z at *;have ho1:=ho.1;refine ⟨jL.like (ho.2.1.trans (hs3.trans q1.1)) (ho.2.2.1.trans (hq3.trans q1.2.1)),fun e he=>hp e ?_,ht,t.up,hd.symm,by omega,.inr (.inl ⟨c2,fun v c hv=>?_⟩)⟩
  ·rw [ho.2.2.1,hq3,q1.2.1] at he;exact he
  ·by_cases hlt:n.cost+c<t.up
   ·obtain ⟨e1,e2⟩:=aII hst ht.is.ok ht.is.pos ht.is.seen ht.fit hall hv hlt;have:=hg e1;simp only at this;omega
   ·omega
 ·rename_i c1 c2;rw [aA.branch];have hpos:=hok.pos;obtain ⟨hl,hlast⟩:=qE hok (i:=d.sure-1) (by omega);rw [List.getD_eq_getElem?_getD,List.getElem?_eq_getElem hl,Option.getD_some,hlast];have ho:=oJ x (d.layers.take (d.sure-1)) (t.dia n d);have hget:∀i,i<d.sure-1→(x.bests (x.layN t.up n i)).2=true→(x.offers (t.dia n d) (d.layers.take (d.sure-1))).up≤(x.bests (x.layN t.up n i)).1.cost:=fun i hi=>by obtain ⟨hl2,e2⟩:=qE hok (i:=i) (by omega);exact aDQ x _ _ _ (by rw [←e2];exact List.mem_take_iff_getElem.2 ⟨i,by omega,rfl⟩)
  have hdu:(t.dia n d).up=t.up:=rfl;have hds:(t.dia n d).subs=t.subs:=rfl;have hdq:(t.dia n d).q=t.q:=rfl;generalize x.offers (t.dia n d) (d.layers.take (d.sure-1))=S at *;have hpu:=rL x d.low (x.layN t.up n (d.sure-1)) S;have hgot:=aEA x d.low (x.layN t.up n (d.sure-1)) S;have hext:=aD9 x d.low (x.layN t.up n (d.sure-1)) S;have hpp:=aED x d.low (x.layN t.up n (d.sure-1)) S fun e he=>hp e (by rw [ho.2.2.1,hdq,q1.2.1] at he;exact he)
  generalize (x.layN t.up n (d.sure-1)).foldl (x.push d.low) S=U at *;have ho1:=ho.1;refine ⟨(jL.like (ho.2.1.trans (hds.trans q1.1)) (ho.2.2.1.trans (hdq.trans q1.2.1))).trans hext,hpp,ht,t.up,hd.symm,by omega,.inr (.inr ⟨by simpa using c2,fun i hi hb=>?_,fun m hmm=>?_⟩)⟩
  ·have:=hget i hi hb;omega
  ·rcases hgot m hmm with h | h
   ·exact .inl (by omega)
   ·exact .inr (.inl h)
theorem mZ.skip {x:aA} {w:Int} {s:SS} (h:mZ x w s) {o:Int} {e:aK} {q:List aK} (ht:gB o s.q=some (e,q)) (c:s.up≤e.bound):mZ x w (s.left q):=by
 obtain ⟨t1,t2,t3,t4⟩:=qG ht
 have hs:∀k0 low m,jQ x s k0 low m→jQ x (s.left q) k0 low m:=fun k0 low m hset=>jQ.step hset (Int.le_refl _) (fun j a h=>h) fun f hf h1 h2=>by
  rcases t2 f hf with rfl | hf
  ·exact .inl (by show s.up≤_;omega)
  ·exact .inr (.inl ⟨f,hf,h1,h2⟩)
 exact ⟨fun k n d hk=>(h.all k n d hk).step (Int.le_refl _) fun low m=>hs _ low m,hs _ _ _ h.root,fun f hf=>h.pos f (t3 f hf)⟩
theorem mZ.look {x:aA} (hst:x.stops.length<2^31) (hm:x.may=true) {w:Int} {s:SS} (h:mZ x w s) {o:Int} {e:aK} {q:List aK} (htk:gB o s.q=some (e,q)) {n:aC} (hn:s.subs[e.no]? =some n) (ht:bY x n):mZ x w (x.lookS w (s.left q) n):=by
 obtain ⟨t1,t2,t3,t4⟩:=qG htk;obtain ⟨g1,g2,g3⟩:=aXK hst hm ht w (s.left q) fun f hf=>h.pos f (t3 f hf)
 have hlog:(x.lookS w (s.left q) n).log=s.log++[(n,x.build n w ((s.left q).nar x w n).up)]:=aK4 x w (s.left q) n;have hup:(x.lookS w (s.left q) n).up≤s.up:=aXJ x w (s.left q) n;have e1:(s.left q).log=s.log:=rfl;have e2:(s.left q).subs=s.subs:=rfl;have e3:(s.left q).q=q:=rfl;rw [e1] at g3;generalize x.build n w ((s.left q).nar x w n).up=D at *;generalize x.lookS w (s.left q) n=t at *;have hold:∀(j:Nat) a,s.log[j]? =some a→t.log[j]? =some a:=fun j a ha=>by rw [hlog];exact pI ha
 have hnew:t.log[s.log.length]? =some (n,D):=by rw [hlog];simp
 have hs:∀k0 low m,k0≤s.log.length→jQ x s k0 low m→jQ x t k0 low m:=fun k0 low m hk0 hset=>jQ.step hset hup hold fun f hf h1 h2=>by
  rcases t2 f hf with rfl | hf
  ·rw [hn] at h1;cases h1;exact .inr (.inr ⟨s.log.length,hk0,D,hnew⟩)
  ·exact .inr (.inl ⟨f,g1.q f (by rw [e3];exact hf),g1.subs _ _ (by rw [e2];exact h1),h2⟩)
 refine ⟨fun k m d hk=>?_,hs _ _ _ (Nat.zero_le _) h.root,g2⟩;by_cases hlt:k<s.log.length
 ·have hk':s.log[k]? =some (m,d):=by rw [hlog,List.getElem?_append_left hlt] at hk;exact hk
  exact (h.all k m d hk').step hup fun low m=>hs _ low m (by omega)
 ·have hk2:=(List.getElem?_eq_some_iff.1 hk).1;rw [hlog,List.length_append,List.length_singleton] at hk2;have:k=s.log.length:=by omega
  subst this;rw [hnew] at hk;cases hk;exact g3
def aFX (x:aA) (w:Int) (r:bR) (k:Nat) (n:aC) (d:aX):Prop:=
 bY x n∧∃u,d=x.build n w u∧r.low≤u∧
  (r.low≤d.low∨(d.exact=true∧∀v c,x.way v n.s c→r.low≤n.cost+c)∨
   (d.exact=false∧(∀i,i<d.sure-1→(x.bests (x.layN u n i)).2=true→r.low≤(x.bests (x.layN u n i)).1.cost)∧∀m∈x.layN u n (d.sure-1),r.low≤max d.low (x.of m)∨∃j:Nat,k+1≤j∧∃D,r.log[j]? =some (m,D)))
structure j8 (x:aA) (w:Int) (r:bR):Prop where
 all:∀(k:Nat) n d,r.log[k]? =some (n,d)→aFX x w r k n d
 root:r.low≤max 0 (x.of x.rootN)∨∃D,∃j:Nat,r.log[j]? =some (x.rootN,D)
 low:0≤r.low∧r.low≤bF
 nodup:(r.log.map fun d=>d.1.path).Nodup
 head:∀d l,r.log=d :: l→d.1.path=[]
 few:r.log.length≤1848
theorem mZ.done {x:aA} {w:Int} {s:SS} (h:mZ x w s) {r:bR} (hlog:r.log=s.log) (h1:r.low≤s.up) (h2:∀e∈s.q,r.low≤e.bound):(∀(k:Nat) n d,r.log[k]? =some (n,d)→aFX x w r k n d)∧(r.low≤max 0 (x.of x.rootN)∨∃D,∃j:Nat,r.log[j]? =some (x.rootN,D)):=by
 have hs:∀k0 low m,jQ x s k0 low m→r.low≤max low (x.of m)∨∃j:Nat,k0≤j∧∃D,r.log[j]? =some (m,D):=fun k0 low m hset=>by
  rcases hset with h | ⟨e,he,_,h4⟩ | ⟨j,hj,D,hD⟩
  ·exact .inl (by omega)
  ·exact .inl (by have:=h2 e he;omega)
  ·exact .inr ⟨j,hj,D,by rw [hlog];exact hD⟩
 refine ⟨fun k n d hk=>?_,?_⟩
 ·rw [hlog] at hk;obtain ⟨g1,u,g2,g3,g4⟩:=h.all k n d hk;refine ⟨g1,u,g2,by omega,?_⟩;rcases g4 with g4 | ⟨g4,g5⟩ | ⟨g4,g5,g6⟩
  ·exact .inl (by omega)
  ·exact .inr (.inl ⟨g4,fun v c hv=>by have:=g5 v c hv;omega⟩)
  ·exact .inr (.inr ⟨g4,fun i hi hb=>by have:=g5 i hi hb;omega,fun m hm=>hs _ _ m (g6 m hm)⟩)
 ·rcases hs _ _ _ h.root with h | ⟨j,_,D,hD⟩
  ·exact .inl h
  ·exact .inr ⟨D,j,hD⟩
theorem bG4 {x:aA} (hm:x.may=true) {s:SS} (h:tV x s):0≤s.up:=by
 by_cases c:s.up<bF
 ·obtain ⟨v,hv⟩:=bAE hm (h.plan c);exact (aPI hv).1
 ·have:bF=1152921504606846976:=rfl;omega
theorem aW0 {q:List aK} (h:∀e∈q,0≤e.bound):0≤jU q:=by
 cases q with
 |nil=>show (0:Int)≤bF;decide
 |cons e l=>
  have:∀(l:List aK) (n:Int),0≤n→(∀e∈l,0≤e.bound)→0≤l.foldl (fun n f=>min n f.bound) n:=by
   intro l
   induction l with
   |nil=>exact fun n h _=>h
   |cons a l ih=>exact fun n h hl=>ih _ (by have:=hl a List.mem_cons_self;show 0≤min n a.bound;omega) fun e he=>hl e (List.mem_cons_of_mem _ he)
  exact this l _ (h e List.mem_cons_self) fun f hf=>h f (List.mem_cons_of_mem _ hf)
theorem aEK {x:aA} {p:Nat} (hx:x.Fit p) (hm:x.may=true) (hp:p≤3) (o:aV) (hw:o.width≤40):∀(N:Nat) (s:SS) (r:bR),kS x p s→nY s→mZ x o.width s→x.runGo o N s=some r→j8 x o.width r
 |0,s,r,_,_,_,h=>by cases h
 |N+1,s,r,hs,hl,hX,h=>by
  have hst:x.stops.length<2^31:=by have:=hx.len;omega
  rw [aA.runGo] at h;have hup:=bG4 hm hs.inv.found;have hle:=hs.inv.found.le;have hfew:s.log.length≤1848:=by have:=hs.small.log;omega
  cases ht:gB o.order s.q with
  |none=>
   rw [ht] at h;cases h;obtain ⟨g1,g2⟩:=hX.done (r:=s.ends) rfl (Int.le_refl _) fun e he=>by rw [aOZ ht] at he;cases he
   exact ⟨g1,g2,⟨hup,hle⟩,hl.nodup,fun d l h=>(hl.head d l h).1,hfew⟩
  |some r'=>
   obtain ⟨e,q⟩:=r';rw [ht] at h;simp only at h;obtain ⟨n,hn,hg,htn,k1,k2,k3⟩:=hs.look hx hm hp hw ht;obtain ⟨t1,t2,t3,t4⟩:=qG ht;rw [hg] at h;by_cases c1:s.up≤e.bound
   ·rw [if_pos c1] at h;exact aEK hx hm hp o hw N (s.left q) r (hs.skip ht c1) (hl.left ht).1 (hX.skip ht c1) h
   rw [if_neg c1] at h;by_cases c2:o.budget≤s.steps
   ·rw [if_pos c2] at h;cases h;have hlow:((s.left q).stop e).low=min s.up (min e.bound (jU q)):=rfl;have hb:=hX.pos e t1;have hlp:=aW0 fun f hf=>hX.pos f (t3 f hf)
    obtain ⟨g1,g2⟩:=hX.done (r:=(s.left q).stop e) rfl (by rw [hlow];omega) fun f hf=>by
     rw [hlow];rcases t2 f hf with rfl | hf
     ·omega
     ·have:=yM hf;omega
    exact ⟨g1,g2,by rw [hlow];omega,hl.nodup,fun d l h=>(hl.head d l h).1,hfew⟩
   rw [if_neg c2] at h;exact aEK hx hm hp o hw N _ r k1 (hl.look hm htn ht hg fun f hf=>hs.inv.nos f (t3 f hf)) (hX.look hst hm ht hn htn) h
theorem bD5 (x:aA) (w:Int):mZ x w x.start:=by
 have hlog:x.start.log=[]:=(p9 x 0 ⟨[],[],bF,[],0,[]⟩ x.rootN).2.1;have hgot:=aEA x 0 [x.rootN] ⟨[],[],bF,[],0,[]⟩ x.rootN List.mem_cons_self;have hup:=rL x 0 [x.rootN] ⟨[],[],bF,[],0,[]⟩;have hpp:=aED x 0 [x.rootN] ⟨[],[],bF,[],0,[]⟩ fun e he=>by cases he
 refine ⟨fun k n d h=>(by rw [hlog] at h;simp at h),?_,hpp⟩;rcases hgot with h | h
 ·exact .inl (by show x.start.up≤_;rw [show x.start.up=bF from hup.1];exact h)
 ·exact .inr (.inl h)
theorem aEO {x:aA} {o:aV} (hl:x.stops.length≤7) (hm:x.may=true) (ho:o.mayB=true) (hw:o.width≤40):j8 x o.width (x.search o):=by
 obtain ⟨p,hx⟩:=x.fit hm;have hp:p≤3:=by have:=hx.len;omega
 exact aEK hx hm hp o hw 1850 x.start _ (z6 hx hm hp) (bD4 x) (bD5 x o.width) (aEP hx hm hp ho hw)
theorem aUQ (a b:List Int) (ha:a.length<2^62) (hb:b.length<2^62):Pure P 56 [.t (.sl (aJ a)),.t (.sl (aJ b))] (.b (decide (a=b))):=by
 generalize hR:decide (a=b)=R;refine aW Tryz.func56 rfl rfl (by simp [Tryz.f56]) (by simp [aE,aE.bndL]) (by simp [aE,aE.bndL]) fun B hB hnx=>?_
 simp only [Tryz.f56] at hB ⊢;have h1:(aJ a).length=a.length:=List.length_map _;have h2:(aJ b).length=b.length:=List.length_map _;by_cases c0:a.length=b.length
 rotate_left
 ·have:R=false:=by rw [←hR];exact decide_eq_false (fun e=>c0 (by rw [e]))
  refine aD ?_;simp [go_sem,h1,h2,c0,this]
 refine aD ?_;simp [go_sem,h1,h2,c0];refine bA (α:=Nat) (fun k=>k≤a.length∧a.take k=b.take k) (fun k=>⟨sl [(0,.t (.sl (aJ a))),(1,.t (.sl (aJ b))),(12,.i b.length),(13,.i k)],_,_⟩) (fun k=>a.length-k) 0 ⟨Nat.zero_le _,rfl⟩ (aH.slots (by simp [go_sem]) rfl rfl) ?_;rintro k ⟨g0,g1⟩;by_cases hk:k<a.length
 ·have hkb:k<b.length:=by omega
  have hkk:IntKind.i64.wrap ((k:Int)+1)=((k+1:Nat):Int):=by rw [aO _ (by omega)];rfl
  have hga:=gH a hk;have hgb:=gH b hkb;have ta:a.take (k+1)=a.take k++[a[k]]:=List.take_succ_eq_append_getElem hk;have tb:b.take (k+1)=b.take k++[b[k]]:=List.take_succ_eq_append_getElem hkb;have hne:a[k]≠b[k]→a≠b:=fun h e=>h (by subst e;rfl)
  generalize a[k]=u at *;generalize b[k]=v at *;refine aI ?_;simp [go_sem,hkb];refine bK [] rfl (by rw [hB];kernel_rfl) ?_;by_cases c1:u=v
  ·refine aD ?_;simp [go_sem,h1,h2,hk,hkb,hga,hgb,c1,hkk];exact Next.mk (k+1) ⟨by omega,by rw [ta,tb,g1,c1]⟩ (aH.slots (by simp [go_sem]) rfl rfl) (by omega)
  ·have:R=false:=by rw [←hR];exact decide_eq_false (hne c1)
   refine aD ?_;simp [go_sem,h1,h2,hk,hkb,hga,hgb,c1,this]
 ·have e1:k=a.length:=by omega
  have e2:k=b.length:=by omega
  rw [e1,List.take_length,c0,List.take_length] at g1;have:R=true:=by rw [←hR];exact decide_eq_true g1
  have hkb:¬k<b.length:=by omega
  refine aD ?_;simp [go_sem,hkb,this]
def iP.a (d:aC×aX):AV:=.agg (d.1.cs++d.2.cs)
theorem bE4 (n:aC) (d:aC×aX) (hd:d.1.path.length<2^62) (hn:n.path.length<2^62) {σ:Nat→aG} {nx q:Nat} (hq:q<nx) (hσ:σ q= .box n.cs):
  aT P 212 [iP.a d,.ptr q 0] σ nx (.b (decide (d.1.path=n.path))) σ nx:=by
 have he:=aUQ d.1.path n.path hd hn;generalize decide (d.1.path=n.path)=R at *;refine iM Tryz.func212 rfl rfl (by simp [Tryz.f212]) (by simp [aE]) fun hk B hB hnx hσB=>?_
 simp only [Tryz.f212] at hB ⊢;rw [aC.cs] at hσ;have ne1:¬q=nx:=by omega
 refine aD ?_;simp [go_sem,iP.a,aC.cs,aX.cs,hσ,ne1];refine aL rfl rfl rfl (args:=[.t (.sl (aJ d.1.path)),.t (.sl (aJ n.path))]) (f:=56) (by simp [go_sem]) (by simp [go_sem,hB]) ((he).spec _ _) ?_;refine aD ?_;simp [go_sem];exact fun i hi=>by simp [aB,show ¬i=nx by omega]
def gW (v:List Int):Nat→List (aC×aX)→Int
 |_,[]=>-1
 |i,d :: l=>if d.1.path=v then i else gW v (i+1) l
theorem aT5 (n:aC) (L:List (aC×aX)) (hL:L.length<2^31) (hd:∀d∈L,d.1.path.length<2^62) (hn:n.path.length<2^62) {σ:Nat→aG} {nx q:Nat} (hq:q<nx) (hσ:σ q= .box n.cs):
  aT P 211 [.t (.sl (gY L)),.fn (.func 212) [] [.ptr q 0]] σ nx (.i (gW n.path 0 L)) σ nx:=by
 generalize hR:gW n.path 0 L=R;refine iM Tryz.func211 rfl rfl (by simp [Tryz.f211]) (by simp [aE]) fun hk B hB hnx hσB=>?_
 simp only [Tryz.f211] at hB ⊢;have hil:(gY L).length=L.length:=List.length_map _;refine aD ?_;simp [go_sem,hil];refine bA (α:=Nat) (fun k=>k≤L.length∧gW n.path k (L.drop k)=R) (fun k=>⟨sl [(0,.t (.sl (gY L))),(1,.fn (.func 212) [] [.ptr q 0]),(7,.i L.length),(8,.i k)],σ,nx⟩) (fun k=>L.length-k) 0 ⟨Nat.zero_le _,hR⟩ (aH.slots (by simp [go_sem]) rfl rfl) ?_;rintro k ⟨g1,g2⟩;by_cases hk:k<L.length
 ·have hkk:IntKind.i64.wrap ((k:Int)+1)=((k+1:Nat):Int):=by rw [aO ((k:Int)+1) (by omega)];rfl
  have hget:∀h,(gY L)[k]'h=iP.t L[k]:=fun h=>by simp [gY]
  have hs:=bE4 n L[k] (hd _ (List.getElem_mem _)) hn hq hσ;rw [List.drop_eq_getElem_cons hk,gW] at g2;generalize L[k]=d at *;refine aD ?_;simp [go_sem,hil,hk,hget,iP.t,aC.t];refine aL rfl rfl rfl (args:=[iP.a d,.ptr q 0]) (f:=212) (by simp [go_sem,iP.a,aC.cs,aX.cs]) (by simp [go_sem,hB]) hs ?_;by_cases c:d.1.path=n.path
  ·rw [if_pos c] at g2;subst g2;refine aD ?_;simp [go_sem,c]
  ·rw [if_neg c] at g2;refine aD ?_;simp [go_sem,c,hkk];exact Next.mk (k+1) ⟨by omega,g2⟩ (aH.slots (by simp [go_sem]) rfl rfl) (by omega)
 ·have:k=L.length:=by omega
  subst this;rw [List.drop_length,gW] at g2;subst g2;refine aD ?_;simp [go_sem,hil]
def aA.toN (x:aA) (r:bR) (n:aC):Int:=if x.deadB n.s n.cost r.low=true then 0 else gW n.path 0 r.log+1
def fD (x:aA) (r:bR):List AV:=[.i x.pairs,.i x.cars,.i x.room,.t (.sl (x.stops.map aR.t)),.i r.status,.t (.sl (pW r.plan)),.i r.up,.i r.low,.i r.steps,.t (.sl (gY r.log))]
theorem aJZ (v:List Int):∀(i:Nat) (L:List (aC×aX)),-1≤gW v i L∧gW v i L≤i+L.length
 |i,[]=>by simp only [gW,List.length_nil];omega
 |i,d :: L=>by
  rw [gW,List.length_cons];split
  ·omega
  ·have:=aJZ v (i+1) L;omega
theorem bE3 (x:aA) (r:bR) (n:aC) (hl:x.stops.length<2^31) (ho:n.s.ok) (hL:r.log.length<2^31) (hd:∀d∈r.log,d.1.path.length<2^62) (hn:n.path.length<2^62):Pure P 168 [.agg (fD x r),n.a] (.i (x.toN r n)):=by
 generalize hR:x.toN r n=R;refine aW Tryz.func168 rfl rfl (by simp [Tryz.f168]) (by simp [aE,aE.bndL,fD,aC.a,aC.cs]) (by simp [aE,aE.bndL]) fun B hB hnx=>?_
 simp only [Tryz.f168] at hB ⊢;rw [aA.toN] at hR;have hdead:=aB0 x n.s n.cost r.low hl ho;have hid:=aJZ n.path 0 r.log;have hix:=fun (σ:Nat→aG) (h:σ 1= .box n.cs)=>aT5 n r.log hL hd hn (nx:=2) (by omega) h
 rw [aC.cs] at hix;refine aD ?_;simp [go_sem,fD,aC.a,aC.cs];refine aL rfl rfl rfl (args:=[x.a,n.s.a,.i n.cost,.i r.low]) (f:=156) (by simp [go_sem,aA.a,aF.a,aF.cs]) (by simp [go_sem,hB]) ((hdead).spec _ _) ?_;cases c:x.deadB n.s n.cost r.low with
 |true=>rw [c,if_pos rfl] at hR;subst hR;refine aD ?_;simp [go_sem]
 |false=>rw [c,if_neg (by decide)] at hR;generalize gW n.path 0 r.log=i at *;have w:IntKind.i64.wrap (i+1)=i+1:=aO _ (by omega);refine aD ?_;simp [go_sem];refine aL rfl rfl rfl (args:=[.t (.sl (gY r.log)),.fn (.func 212) [] [.ptr 1 0]]) (f:=211) (by simp [go_sem]) (by simp [go_sem,hB]) (hix _ (by simp [aB])) ?_;rw [hR] at w;refine aD ?_;simp [go_sem,w,hR]
theorem aYX (n:aC):Pure P 167 [n.a] (.i 0):=by
 refine aW Tryz.func167 rfl rfl (by simp [Tryz.f167]) (by simp [aE,aE.bndL,aC.a,aC.cs]) (by simp [aE,aE.bndL]) fun B hB hnx=>?_
 simp only [Tryz.f167] at hB ⊢;refine aD ?_;simp [go_sem,aC.a,aC.cs]
def kM (f:aC→Int) (n:aC):List T:=(⟨n.s,n.cost,f n⟩:aQ).t
theorem bDW (f:aC→Int) (l:List aC):∀y∈l.map (kM f),y.length=10:=by intro y hy;obtain ⟨_,_,rfl⟩:=List.mem_map.1 hy;rfl
theorem aOP (l:List aC) (f:aC→Int) (fid:FuncId) (pre:List AV) (hl:l.length<2^31) (hpre:aE.bndL 0 pre=true) (hf:∀n∈l,R.Pure P fid (pre++[n.a]) (.i (f n))):Pure P 169 [.t (.sl (aM l)),.fn (.func fid) pre []] (.t (.sl (l.map (kM f)))):=by
 generalize hR:l.map (kM f)=R;refine aW Tryz.func169 rfl rfl (by simp [Tryz.f169]) (by simp [aE,aE.bndL,hpre]) (by simp [aE,aE.bndL]) fun B hB hnx=>?_
 simp only [Tryz.f169] at hB ⊢;have hil:(aM l).length=l.length:=List.length_map _;refine aD ?_;simp [go_sem,hil];refine jC 5 10 (by simp [go_sem]) ?_;refine bA (α:=Nat×Nat×(Nat→aG)×Nat) (fun (k,a,τ,m)=>k≤l.length∧τ a= .arr 10 ((l.take k).map (kM f))∧a<m) (fun (k,a,τ,m)=>⟨sl [(1,.fn (.func fid) pre []),(5,.ref a),(8,.t (.sl (aM l))),(9,.i l.length),(10,.i k)],τ,m⟩) (fun a=>l.length-a.1) (0,0,_,1) ⟨Nat.zero_le _,?_,by decide⟩ (aH.slots (by simp [go_sem]) rfl rfl) ?_
 ·simp [aB]
 rintro ⟨k,a,τ,m⟩ ⟨g1,g2,g3⟩;by_cases hk:k<l.length
 ·have hkk:IntKind.i64.wrap ((k:Int)+1)=((k+1:Nat):Int):=by rw [aO ((k:Int)+1) (by omega)];rfl
  have hget:∀h,(aM l)[k]'h=l[k].t:=fun h=>jX l hk
  have hp:=hf l[k] (List.getElem_mem _);have tk:(l.take (k+1)).map (kM f)=(l.take k).map (kM f)++[kM f l[k]]:=by rw [List.take_succ_eq_append_getElem hk,List.map_append];rfl
  have tk2:(l.map (kM f)).take (k+1)=(l.take k).map (kM f)++[kM f l[k]]:=by rw [←List.map_take];exact tk
  have h10:=bDW f (l.take k);have hln:((l.take k).map (kM f)).length=k:=by rw [List.length_map,List.length_take];omega
  have hcap:k+1≤bH:=by show _≤4294967296;omega
  generalize l[k]=n at *;generalize (l.take k).map (kM f)=rows at *;have ne1:¬a=m:=by omega
  refine aI ?_;simp [go_sem,hil,hk,hget,aC.t];refine gQ [10] rfl (by rw [hB];kernel_rfl) (by kernel_rfl) fun ht=>?_
  refine aD ?_;simp [go_sem,ht,aC.cs];refine bQ rfl rfl rfl (args:=pre++[n.a]) (f:=fid) (by simp [go_sem,aC.a,aC.cs]) hp ?_;refine aD ?_;simp [go_sem,ht,ne1,g2,h10,hln,hcap,hkk];refine Next.mk (k+1,m+1,_,m+2) ⟨by omega,?_,by simp only;omega⟩ (aH.slots (by simp [go_sem]) rfl rfl) (by simp only;omega);simp only
  first | rw [tk] | rw [tk2]
  simp [aB,kM,aQ.t]
 ·have:k=l.length:=by omega
  subst this;rw [List.take_length,hR] at g2;refine aD ?_;simp [go_sem,hil,g2]
def jD (r:bR) (d:aX):Bool:=!d.exact&&decide (d.low<r.low)
def dH (r:bR) (d:aX):List (List aC):=if jD r d=true then d.layers.take d.sure else d.layers
def dK (r:bR) (d:aX):Int:=if jD r d=true then (d.sure:Int)-1 else -1
def dP (x:aA) (r:bR) (last:Int) (k:Nat):aC→Int:=if (k:Int)=last then x.toN r else fun _=>0
def yJ (x:aA) (r:bR) (last:Int) (k:Nat) (l:List aC):List T:=[.sl (l.map (kM (dP x r last k)))]
def lF (x:aA) (r:bR) (last:Int) (ls:List (List aC)) (k:Nat):List (List T):=(List.range k).map fun j=>yJ x r last j (ls.getD j [])
theorem aCS (r:bR) (d:aX):(dH r d).length≤d.layers.length:=by
 unfold dH;split
 ·rw [List.length_take];omega
 ·exact Nat.le_refl _
theorem bBU (x:aA) (r:bR) (last:Int) (ls:List (List aC)) (k:Nat):∀y∈lF x r last ls k,y.length=1:=by intro y hy;obtain ⟨_,_,rfl⟩:=List.mem_map.1 hy;rfl
theorem bBT (x:aA) (r:bR) (last:Int) (ls:List (List aC)) (k:Nat):(lF x r last ls k).length=k:=by rw [lF,List.length_map,List.length_range]
theorem bBV (x:aA) (r:bR) (last:Int) (ls:List (List aC)) {k:Nat} (h:k<ls.length):lF x r last ls (k+1)=lF x r last ls k++[yJ x r last k ls[k]]:=by rw [lF,List.range_succ,List.map_append,List.map_singleton,List.getD_eq_getElem?_getD,List.getElem?_eq_getElem h];rfl
theorem aZZ (x:aA) (r:bR) (d:aX) (hl:x.stops.length<2^31) (hL:r.log.length<2^31) (hd:∀d∈r.log,d.1.path.length<2^62) (hds:d.sure≤d.layers.length) (hdl:d.layers.length<2^31) (hok:∀l∈d.layers,l.length<2^31∧∀n∈l,n.s.ok∧n.path.length<2^62):Pure P 114 [.agg (fD x r),d.a] (.agg [.t (.sl (lF x r (dK r d) (dH r d) (dH r d).length))]):=by
 generalize hR:lF x r (dK r d) (dH r d) (dH r d).length=R;refine aW Tryz.func114 rfl rfl (by simp [Tryz.f114]) (by simp [aE,aE.bndL,fD,aX.a,aX.cs]) (by simp [aE,aE.bndL]) fun B hB hnx=>?_
 simp only [Tryz.f114] at hB ⊢;have hlen:(dQ d.layers).length=d.layers.length:=List.length_map _
 have hsub:∀l∈dH r d,l∈d.layers:=fun l h=>by
  unfold dH at h;split at h
  ·exact List.mem_of_mem_take h
  ·exact h
 obtain ⟨ls,hls⟩:∃ls,ls=dH r d:=⟨_,rfl⟩;obtain ⟨last,hlast⟩:∃v,v=dK r d:=⟨_,rfl⟩;rw [←hls,←hlast] at hR;rw [←hls] at hsub;by_cases c1:d.exact=true
 case' pos=>
  have e1:ls=d.layers:=by rw [hls,dH,jD,if_neg (by simp [c1])]
  have e2:last= -1:=by rw [hlast,dK,jD,if_neg (by simp [c1])]
  rw [←e1] at hlen;refine bG hB 34 ?_;simp [go_sem,fD,aX.a,aX.cs,c1,←e1]
 case' neg=>
  have c1':d.exact=false:=by simpa using c1
  by_cases c2:d.low<r.low
  case' pos=>
   have e1:ls=d.layers.take d.sure:=by rw [hls,dH,jD,if_pos (by simp [c1',c2])]
   have e2:last=(d.sure:Int)-1:=by rw [hlast,dK,jD,if_pos (by simp [c1',c2])]
   have htk:(dQ d.layers).take d.sure=dQ ls:=by rw [e1];simp [dQ]
   have w1:IntKind.i64.wrap ((d.sure:Int)-1)=last:=by rw [e2];exact aO _ (by omega)
   have hmx:max (d.sure:Int) 0=d.sure:=by omega
   have hmn:min (d.sure:Int) (d.layers.length:Int)=d.sure:=by omega
   refine aD ?_;simp [go_sem,fD,aX.a,aX.cs,c1',c2];refine bK [] rfl (by rw [hB];kernel_rfl) ?_;have h1o:∀y∈dQ d.layers,y.length=1:=by intro y hy;obtain ⟨_,_,rfl⟩:=List.mem_map.1 hy;rfl
   refine bG hB 16 ?_;simp [go_sem,hlen,hmx,hmn,w1,htk,hds,if_pos h1o]
  case' neg=>
   have e1:ls=d.layers:=by rw [hls,dH,jD,if_neg (by simp [c2])]
   have e2:last= -1:=by rw [hlast,dK,jD,if_neg (by simp [c2])]
   refine bG hB 40 ?_;simp [go_sem,fD,aX.a,aX.cs,c1',c2,←e1]
 all_goals
  refine nX (t:=⟨sl [(2,.ptr 0 0),(4,.ptr 2 0),(5,.fn (.func 167) [] []),(6,.t (.sl (dQ ls))),(7,.i last)],ob [(0,.box (fD x r)),(2,.box [.fsl []])],3⟩) (aH.of (by simp [go_sem,e2]) (fun i=>?_) rfl) ?_
  ·match i with
   |0=>exact .inr (by simp [aB,ob,fD])
   |1=>exact .inl (by simp [ob,dR])
   |2=>exact .inr (by simp [aB,ob])
   |i+3=>exact .inl (by simp [ob,dR])
  clear e1 e2
 all_goals
  refine aD ?_;simp [go_sem];refine jB (aH.ownB (b:=3) (off:=0) (sz:=1) (cs:=[.fsl []]) (by simp [aB]) rfl) ?_;refine bA (α:=Nat×Nat×(Nat→aG)×Nat) (fun (k,a,τ,m)=>k≤ls.length∧τ 0= .box (fD x r)∧τ 2= .box [.fsl []]∧τ 3= .box [.ref a]∧τ a= .arr 1 (lF x r last ls k)∧a<m∧4≤a) (fun (k,a,τ,m)=>⟨sl [(2,.ptr 0 0),(4,.ptr 2 0),(5,.fn (.func 167) [] []),(7,.i last),(8,.ptr 3 0),(38,.t (.sl (dQ ls))),(39,.i ls.length),(40,.i k)],τ,m⟩) (fun a=>ls.length-a.1) (0,4,_,5) ⟨Nat.zero_le _,by simp [aB,ob],by simp [aB,ob],by simp [aB,ob],by simp [aB,ob,lF],by decide,by decide⟩ (aH.slots (by simp [go_sem,dQ]) rfl rfl) ?_;rintro ⟨k,a,τ,m⟩ ⟨g1,g2,g3,g4,g5,g6,g7⟩;have hll:(dQ ls).length=ls.length:=List.length_map _;have hls31:ls.length<2^31:=by rw [hls];have:=aCS r d;omega
  have n0:¬0=m:=by omega
  have n2:¬2=m:=by omega
  have n3:¬3=m:=by omega
  have n4:¬a=3:=by omega
  have n5:¬3=a:=by omega
  have n6:¬m=3:=by omega
  have n7:¬0=a:=by omega
  have n8:¬2=a:=by omega
  have n9:¬2=3:=by decide
  have na:¬a=2:=by omega
  by_cases hk:k<ls.length
  ·have hkk:IntKind.i64.wrap ((k:Int)+1)=((k+1:Nat):Int):=by rw [aO ((k:Int)+1) (by omega)];rfl
   have hget:∀h,(dQ ls)[k]'h=[.sl (aM ls[k])]:=fun h=>by simp [dQ]
   have hrs:=bBV x r last ls hk;obtain ⟨hln,hlo⟩:=hok ls[k] (hsub _ (List.getElem_mem _));have h1:=bBU x r last ls k;have hrl:=bBT x r last ls k;have hcap:k+1≤bH:=by show _≤4294967296;omega
   rw [yJ] at hrs;generalize ls[k]=l at *;generalize lF x r last ls k=rows at *;by_cases ck:(k:Int)=last
   ·have hF:dP x r last k=x.toN r:=if_pos ck;rw [hF] at hrs;have hsp:=aOP l (x.toN r) 168 [.agg (fD x r)] hln (by simp [aE,aE.bndL,fD]) fun n hn=>bE3 x r n hl (hlo n hn).1 hL hd (hlo n hn).2
    subst ck;refine aI ?_;simp [go_sem,hk,hll,hget,g2,fD];refine gQ [6,8] rfl (by rw [hB];kernel_rfl) (by kernel_rfl) fun ht=>?_
    refine aD ?_;simp [go_sem,ht,g4];refine bQ rfl rfl rfl (args:=[.t (.sl (aM l)),.fn (.func 168) [.agg (fD x r)] []]) (f:=169) (by simp [go_sem,fD]) hsp ?_;refine aD ?_;simp [go_sem,ht,g4,g5,hrl,h1,hcap,n0,n2,n3,n4,n5,n6,hkk];refine Next.mk (k+1,m,_,m+1) ⟨by omega,?_,?_,?_,?_,by simp only;omega,by simp only;omega⟩ (aH.slots (by simp [go_sem]) rfl rfl) (by simp only;omega)
    all_goals simp [aB,n0,n2,n3,n4,n5,n6,n7,n8,g2,g3,g4,g5,hrs,cW,fD]
   ·have hF:dP x r last k=fun _=>0:=if_neg ck
    rw [hF] at hrs;have hsp:=aOP l (fun _=>0) 167 [] hln rfl fun n hn=>aYX n
    refine aI ?_;simp [go_sem,hk,hll,hget,ck];refine gQ [6,8] rfl (by rw [hB];kernel_rfl) (by kernel_rfl) fun ht=>?_
    refine aD ?_;simp [go_sem,ht,g4];refine bQ rfl rfl rfl (args:=[.t (.sl (aM l)),.fn (.func 167) [] []]) (f:=169) (by simp [go_sem]) hsp ?_;refine aD ?_;simp [go_sem,ht,g4,g5,hrl,h1,hcap,n0,n2,n3,n4,n5,n6,hkk];refine Next.mk (k+1,m,_,m+1) ⟨by omega,?_,?_,?_,?_,by simp only;omega,by simp only;omega⟩ (aH.slots (by simp [go_sem]) rfl rfl) (by simp only;omega)
    all_goals simp [aB,n0,n2,n3,n4,n5,n6,n7,n8,g2,g3,g4,g5,hrs,cW]
  ·have:k=ls.length:=by omega
   subst this;rw [hR] at g5;refine aD ?_;simp [go_sem,hll,g4,g3,g5,n5,n8,n9,na]
def fP (f:aC→Int) (n:aC):aQ:=⟨n.s,n.cost,f n⟩
def aA.partM (x:aA) (r:bR) (d:aX):List (List aQ):=(List.range (dH r d).length).map fun j=>((dH r d).getD j []).map (fP (dP x r (dK r d) j))
def aA.proofOf (x:aA) (r:bR):bE:=⟨r.low,if r.log.length=0 then [[[⟨x.rootS,0,0⟩]]] else r.log.map fun d=>x.partM r d.2⟩
theorem aZX (x:aA) (r:bR) (d:aX):(x.partM r d).map cE=lF x r (dK r d) (dH r d) (dH r d).length:=by
 rw [aA.partM,List.map_map,lF];refine List.map_congr_left fun j _=>?_
 simp only [Function.comp,cE,yJ,List.map_map];rfl
theorem aJO {x:aA}:∀(l:List Int) (s:aF) (c:Int) (t:aF) (e:Int),s.mayB x=true→x.goes l s c=some (t,e)→t.mayB x=true
 |[],s,c,t,e,h,hg=>by obtain ⟨rfl,_⟩:=Prod.mk.inj (Option.some.inj hg);exact h
 |j :: l,s,c,t,e,h,hg=>by
  rw [aA.goes] at hg;split at hg
  ·rename_i hj;exact aJO l _ _ t e (aLI hj) hg
  ·cases hg
theorem bY.fits {x:aA} (hm:x.may=true) {n:aC} (h:bY x n):n.Fits x:=
 ⟨aJO _ _ _ _ _ (aNV hm) h.goes,by have:=h.fit;omega⟩
theorem aJY (v:List Int):∀(i:Nat) (L:List (aC×aX)),gW v i L= -1∨((i:Int)≤gW v i L∧gW v i L<i+L.length)
 |i,[]=>.inl rfl
 |i,d :: L=>by
  rw [gW,List.length_cons];split
  ·exact .inr ⟨Int.le_refl _,by omega⟩
  ·rcases aJY v (i+1) L with h | h
   ·exact .inl h
   ·exact .inr (by omega)
theorem aJX (v:List Int):∀(i:Nat) (L:List (aC×aX)) (j:Nat) (d:aC×aX),(L.map fun d=>d.1.path).Nodup→L[j]? =some d→d.1.path=v→gW v i L=((i+j:Nat):Int)
 |i,[],j,d,_,h,_=>by simp at h
 |i,a :: L,0,d,hn,h,hv=>by simp only [List.getElem?_cons_zero,Option.some.injEq] at h;subst h;rw [gW,if_pos hv];rfl
 |i,a :: L,j+1,d,hn,h,hv=>by
  rw [List.map_cons,List.nodup_cons] at hn;rw [List.getElem?_cons_succ] at h;rw [gW,if_neg,aJX v (i+1) L j d hn.2 h hv]
  ·omega
  ·intro e;refine hn.1 ?_;rw [e,←hv];exact List.mem_map.2 ⟨d,List.mem_of_getElem? h,rfl⟩
theorem aHQ (x:aA) (n:aC) (low:Int):x.deadB n.s n.cost low=decide (low≤x.of n):=rfl
theorem bE0 (x:aA) (r:bR) (n:aC):0≤x.toN r n∧x.toN r n≤r.log.length:=by unfold aA.toN;have:=aJY n.path 0 r.log;split<;>omega
theorem aWT (x:aA) (r:bR) (last:Int) (k:Nat) (n:aC):0≤dP x r last k n∧dP x r last k n≤r.log.length:=by
 unfold dP;split
 ·exact bE0 x r n
 ·show (0:Int)≤0∧(0:Int)≤_;omega
theorem tE {x:aA} {r:bR} {d:aX} (i:Nat):(x.partM r d)[i]? =((dH r d)[i]?).map fun l=>l.map (fP (dP x r (dK r d) i)):=by
 rw [aA.partM,List.getElem?_map];by_cases h:i<(dH r d).length
 ·rw [List.getElem?_range h,List.getElem?_eq_getElem h,Option.map_some,Option.map_some,List.getD_eq_getElem?_getD,List.getElem?_eq_getElem h];rfl
 ·rw [List.getElem?_eq_none (by rw [List.length_range];omega),List.getElem?_eq_none (by omega)];rfl
theorem aWV {x:aA} (r:bR) (n:aC) (w u:Int):∃t,dH r (x.build n w u)=[n] :: t:=by
 obtain ⟨ls,h⟩:=aG5 x n w u;have hp:=(mI x n w u).pos;unfold dH;split
 ·rw [h];obtain ⟨k,hk⟩:∃k,(x.build n w u).sure=k+1:=⟨(x.build n w u).sure-1,by omega⟩;rw [hk,List.take_succ_cons];exact ⟨_,rfl⟩
 ·exact ⟨ls,h⟩
theorem aD1 {x:aA} {r:bR} {n:aC} {w u:Int}:∃t,x.partM r (x.build n w u)=[fP (dP x r (dK r (x.build n w u)) 0) n] :: t:=by
 obtain ⟨t,ht⟩:=aWV (x:=x) r n w u;have:=tE (x:=x) (r:=r) (d:=x.build n w u) 0;rw [ht] at this;cases hp:x.partM r (x.build n w u) with
 |nil=>rw [hp] at this;simp at this
 |cons a t=>rw [hp] at this;simp at this;exact ⟨t,by rw [this]⟩
theorem yL {r:bR} {d:aX} {l:List aC} (h:l∈dH r d):l∈d.layers:=by
 unfold dH at h;split at h
 ·exact List.mem_of_mem_take h
 ·exact h
theorem aVK {x:aA} {low u:Int} {m:aC} {f g:aC→Int} {l l':List aC} (hm:m∈l) (hc:qL x l' l u) (hu:low≤u):x.goesB low (fP f m) (l'.map (fP g))=true:=by
 rw [aA.goesB,List.all_eq_true];intro j hj;have hj:j∈x.moves m.s:=hj;rw [aA.goB,Bool.or_eq_true];by_cases c:x.of (x.child m j)<u
 ·refine .inr ?_
  obtain ⟨q,q1,q2,q3⟩:=aDT (l:=l.flatMap (x.kids u)) (k:=x.child m j) (by
   refine List.mem_flatMap.2 ⟨m,hm,?_⟩
   rw [aA.kids,List.mem_filter]
   exact ⟨List.mem_map.2 ⟨j,hj,rfl⟩,by simpa using c⟩)
  obtain ⟨z,z1,z2,z3⟩:=hc q q1;rw [List.any_eq_true];refine ⟨fP g z,List.mem_map.2 ⟨z,z1,rfl⟩,?_⟩;rw [Bool.and_eq_true];refine ⟨decide_eq_true ?_,?_⟩
  ·show z.cost≤(x.child m j).cost;omega
  ·rw [q2] at z2;exact z2
 ·refine .inl ?_;show decide (low≤x.of (x.child m j))=true;exact decide_eq_true (by omega)
theorem aVX {x:aA} (hm:x.may=true) {w:Int} {r:bR} (hD:j8 x w r) {p:bE} (hp:p=⟨r.low,r.log.map fun d=>x.partM r d.2⟩) {k:Nat} {n:aC} {d:aX} (hk:r.log[k]? =some (n,d)) {i:Nat} {lay:List aC} (hi:(dH r d)[i]? =some lay) {m:aC} (hmm:m∈lay):
  x.holdsB p k i (fP (dP x r (dK r d) i) m) (n.path.length:Int)=true∧(0<dP x r (dK r d) i m→(∃(j:Nat) (D:aX),k<j∧r.log[j]? =some (m,D)∧dP x r (dK r d) i m=j+1)∧m.path.length=n.path.length+i):=by
 obtain ⟨ht,u,hd,hu,h4⟩:=hD.all k n d hk;have hok:=mI x n w u;obtain ⟨hfit,hcov⟩:=aG2 (ht.fits hm) w u;have hcnt:=uL x n w u;have hbest:=aSJ x n w u;have hdeep:=(qY hm).2;rw [←hd] at hok hfit hcov hcnt hbest;have hlm:=List.mem_of_getElem? hi;have hlm2:=yL hlm
 have hsub:∀(i:Nat) lay,(dH r d)[i]? =some lay→d.layers[i]? =some lay∧(jD r d=true→i<d.sure):=fun i lay hi=>by
  unfold dH at hi;split at hi
  ·have:=(List.getElem?_eq_some_iff.1 hi).1;rw [List.length_take] at this;rw [List.getElem?_take_of_lt (by omega)] at hi;exact ⟨hi,fun _=>by omega⟩
  ·rename_i hc;exact ⟨hi,fun h=>absurd h hc⟩
 obtain ⟨hi2,hi3⟩:=hsub i lay hi;have hil:=(List.getElem?_eq_some_iff.1 hi2).1;have hpl:p.least=r.low:=by rw [hp]
 have hpk:p.parts[k]? =some (x.partM r d):=by rw [hp,List.getElem?_map,hk];rfl
 have hnext:((p.parts[k]?).getD []).getD (i+1) []=(((dH r d)[i+1]?).getD []).map (fP (dP x r (dK r d) (i+1))):=by rw [hpk,Option.getD_some,List.getD_eq_getElem?_getD,tE];cases (dH r d)[i+1]?<;>rfl
 have hw:IntKind.i64.wrap ((n.path.length:Int)+i)=(n.path.length:Int)+i:=aO _ (by have:=ht.few;omega)
 have hEnd:jD r d=false∨i<d.sure-1→(x.endS m.s).2=true→r.low≤dL [m.cost,(x.endS m.s).1]:=by
  intro hc he;obtain ⟨b1,b2⟩:=xM hmm he;by_cases c1:r.low≤d.low
  ·have:=hbest lay hlm2 b1;omega
  rcases h4 with h4 | ⟨h4,h5⟩ | ⟨h4,h5,_⟩
  ·exact absurd h4 c1
  ·have hs:d.sure=d.layers.length:=of_decide_eq_true (by rw [←hok.whole];exact h4);have hl:=hok.lay i (by omega);rw [hi2] at hl;have hl:=Option.some.inj hl;rw [hl] at hmm;have htm:=(lO ht u i m hmm).1;have hec:=xY he;have hf:=htm.fit;obtain ⟨v,hv⟩:=yK ht u i m hmm [] (x.endS m.s).1 ⟨he,rfl⟩;have:=h5 _ _ hv;rw [rS hf.1 hec.1 (by omega)];omega
  ·have hci:i<d.sure-1:=by
    rcases hc with hc | hc
    ·rw [jD,h4] at hc;simp at hc;omega
    ·exact hc
   have hl:=hok.lay i (by omega);rw [hi2] at hl;have hl:=Option.some.inj hl;rw [hl] at b1 b2;have:=h5 i hci b1;omega
 have hGoes:jD r d=false∨i<d.sure-1→(n.path.length:Int)+i<x.deep→x.goesB r.low (fP (dP x r (dK r d) i) m) ((((dH r d)[i+1]?).getD []).map (fP (dP x r (dK r d) (i+1))))=true:=by
  intro hc hdp;refine aVK hmm ?_ hu;cases hcut:jD r d with
  |false=>
   have:dH r d=d.layers:=by rw [dH,hcut,if_neg (by decide)]
   rw [this];rcases hcov i lay hi2 with h | h
   ·exact h
   ·omega
  |true=>
   rw [hcut] at hc;have hci:i<d.sure-1:=hc.resolve_left (by decide);have hl:=hok.lay i (by omega);rw [hi2] at hl;have hl2:=hok.lay (i+1) (by omega);have:(dH r d)[i+1]? =some (x.layN u n (i+1)):=by rw [dH,hcut,if_pos rfl,List.getElem?_take_of_lt (by omega)];exact hl2
   rw [this,Option.some.inj hl];exact fun c hcm=>⟨c,hcm,qX _,Int.le_refl _⟩
 have rest:jD r d=false∨i<d.sure-1→¬r.low≤x.of m→dP x r (dK r d) i m=0→x.holdsB p k i (fP (dP x r (dK r d) i) m) (n.path.length:Int)=true:=by
  intro hc c0 hz;rw [aA.holdsB,hpl,hw,hnext];rw [if_neg (by show ¬decide (r.low≤x.of m)=true;simpa using c0)];rw [if_neg (by show ¬0<dP x r (dK r d) i m;omega)]
  rw [if_neg (by
   rintro ⟨e1,e2⟩
   have e2:dL [m.cost,(x.endS m.s).1]<r.low:=e2
   have:=hEnd hc e1
   omega)]
  split
  ·rfl
  ·rename_i c3;exact hGoes hc (by omega)
 cases hcut:jD r d with
 |false=>
  have hlast:dK r d= -1:=by rw [dK,hcut,if_neg (by decide)]
  have hz:dP x r (dK r d) i m=0:=by rw [hlast,dP,if_neg (by omega)]
  refine ⟨?_,fun h=>absurd h (by omega)⟩;by_cases c0:r.low≤x.of m
  ·rw [aA.holdsB,hpl,if_pos (by show decide (r.low≤x.of m)=true;exact decide_eq_true c0)]
  ·exact rest (.inl hcut) c0 hz
 |true=>
  have his:=hi3 hcut;have hlast:dK r d=(d.sure:Int)-1:=by rw [dK,hcut,if_pos rfl]
  have hl:=hok.lay i his;rw [hi2] at hl;have hl:=Option.some.inj hl;have hlen:=(lO ht u i m (by rw [←hl];exact hmm)).2;by_cases c0:r.low≤x.of m
  ·have hz:dP x r (dK r d) i m=0:=by
    rw [dP];split
    ·rw [aA.toN,aHQ,if_pos (decide_eq_true c0)]
    ·rfl
   refine ⟨?_,fun h=>absurd h (by omega)⟩;rw [aA.holdsB,hpl,if_pos (by show decide (r.low≤x.of m)=true;exact decide_eq_true c0)]
  by_cases ci:i<d.sure-1
  ·have hz:dP x r (dK r d) i m=0:=by rw [hlast,dP,if_neg (by omega)]
   exact ⟨rest (.inr ci) c0 hz,fun h=>absurd h (by omega)⟩
  have ei:i=d.sure-1:=by omega
  have hto:dP x r (dK r d) i m=x.toN r m:=by rw [hlast,dP,if_pos (by omega)]
  rw [jD,Bool.and_eq_true,decide_eq_true_eq] at hcut;have hex:d.exact=false:=by simpa using hcut.1
  obtain ⟨j,hj,D,hjD⟩:∃j,k+1≤j∧∃D,r.log[j]? =some (m,D):=by
   rcases h4 with h4 | ⟨h4,_⟩ | ⟨_,_,h6⟩
   ·omega
   ·rw [hex] at h4;cases h4
   ·rcases h6 m (by rw [←ei,←hl];exact hmm) with h | h
    ·omega
    ·exact h
  have hidx:x.toN r m=(j:Int)+1:=by rw [aA.toN,aHQ,if_neg (by simpa using c0),aJX m.path 0 r.log j (m,D) hD.nodup hjD rfl,Nat.zero_add]
  refine ⟨?_,fun _=>⟨⟨j,D,by omega,hjD,by rw [hto,hidx]⟩,hlen⟩⟩;rw [aA.holdsB,hpl,if_neg (by show ¬decide (r.low≤x.of m)=true;simpa using c0)];have hpart:(fP (dP x r (dK r d) i) m).part=(j:Int)+1:=by show dP x r (dK r d) i m=_;rw [hto,hidx]
  rw [if_pos (by rw [hpart];omega),bE.leadsB,hpart];obtain ⟨_,u',hd',_⟩:=hD.all j m D hjD;obtain ⟨t,hh⟩:=aD1 (x:=x) (r:=r) (n:=m) (w:=w) (u:=u');rw [←hd'] at hh;have hf:p.first j=some (fP (dP x r (dK r D) 0) m):=by rw [bE.first,hp];simp only;rw [List.getElem?_map,hjD,Option.map_some,hh]
  rw [show ((j:Int)+1-1).toNat=j by omega,hf];simp only;rw [Bool.and_eq_true,Bool.and_eq_true];exact ⟨decide_eq_true (by omega),decide_eq_true rfl,decide_eq_true (Int.le_refl _)⟩
structure nU (r:bR) (dl:List Int):Prop where
 len:dl.length=r.log.length
 deep:∀(j:Nat) n D,r.log[j]? =some (n,D)→dl.getD j 0=iG∨dl.getD j 0=(n.path.length:Int)
theorem nU.step {x:aA} {w:Int} {r:bR} (hD:j8 x w r) {dl:List Int} (h:nU r dl) {k i:Nat} {n:aC} {d:aX} (hk:r.log[k]? =some (n,d)) (hdk:dl.getD k 0=(n.path.length:Int)) (hi:i<2^31) {m:aC} {f:aC→Int} (hf:0<f m→(∃(j:Nat) (D:aX),k<j∧r.log[j]? =some (m,D)∧f m=j+1)∧m.path.length=n.path.length+i):
  nU r (qD k i (fP f m) dl)∧(qD k i (fP f m) dl).getD k 0=(n.path.length:Int):=by
 unfold qD;split
 ·rename_i c;have c:(k:Int)<f m-1:=c;obtain ⟨⟨j,D,hj,hjD,hfm⟩,hlen⟩:=hf (by omega);have e:((fP f m).part-1).toNat=j:=by show (f m-1).toNat=j;omega
  have hjl:=(List.getElem?_eq_some_iff.1 hjD).1;rw [e,hdk];have htk:=(hD.all k n d hk).1.few;have hw:IntKind.i64.wrap ((n.path.length:Int)+i)=(m.path.length:Int):=by rw [aO _ (by omega)];omega
  have htm:=(hD.all j m D hjD).1.few;have hmin:min (dl.getD j 0) (IntKind.i64.wrap ((n.path.length:Int)+i))=(m.path.length:Int):=by rw [hw];have:iG=1152921504606846976:=rfl;rcases h.deep j m D hjD with h | h<;>omega
  rw [hmin];have hl:=h.len;refine ⟨⟨by rw [List.length_set];exact h.len,fun a n' D' ha=>?_⟩,?_⟩
  ·rw [aCG (by omega)];split
   ·rename_i e2;subst e2;rw [hjD] at ha;cases ha;exact .inr rfl
   ·exact h.deep a n' D' ha
  ·rw [aCG (by omega),if_neg (by omega)];exact hdk
 ·exact ⟨h,hdk⟩
theorem aKJ {x:aA} {w:Int} {r:bR} (hD:j8 x w r) {p:bE} {k i:Nat} {n:aC} {d:aX} (hk:r.log[k]? =some (n,d)) (hi:i<2^31) {f:aC→Int}:∀(l:List aC) (dl:List Int),nU r dl→dl.getD k 0=(n.path.length:Int)→
  (∀m∈l,x.holdsB p k i (fP f m) (n.path.length:Int)=true∧(0<f m→(∃(j:Nat) (D:aX),k<j∧r.log[j]? =some (m,D)∧f m=j+1)∧m.path.length=n.path.length+i))→
  ∃dl',x.layGo p k i (l.map (fP f)) dl=some dl'∧nU r dl'∧dl'.getD k 0=(n.path.length:Int)
 |[],dl,h,hdk,_=>⟨dl,rfl,h,hdk⟩
 |m :: l,dl,h,hdk,hl=>by obtain ⟨h1,h2⟩:=hl m List.mem_cons_self;rw [List.map_cons,aA.layGo,hdk,if_pos h1];obtain ⟨g1,g2⟩:=h.step hD hk hdk hi h2;exact aKJ hD hk hi l _ g1 g2 fun q hq=>hl q (List.mem_cons_of_mem _ hq)
theorem aMH {x:aA} (hm:x.may=true) {w:Int} {r:bR} (hD:j8 x w r) {p:bE} (hp:p=⟨r.low,r.log.map fun d=>x.partM r d.2⟩) {k:Nat} {n:aC} {d:aX} (hk:r.log[k]? =some (n,d)) (hlen:(x.partM r d).length<2^31):∀(f i:Nat) (dl:List Int),(x.partM r d).length-i=f→nU r dl→dl.getD k 0=(n.path.length:Int)→
  ∃dl',x.partGo p k i ((x.partM r d).drop i) dl=some dl'∧nU r dl'
 |0,i,dl,hf,h,hdk=>by rw [List.drop_eq_nil_of_le (by omega)];exact ⟨dl,rfl,h⟩
 |f+1,i,dl,hf,h,hdk=>by
  have hi:i<(x.partM r d).length:=by omega
  have hg:=tE (x:=x) (r:=r) (d:=d) i;rw [List.getElem?_eq_getElem hi] at hg;cases hl:(dH r d)[i]? with
  |none=>rw [hl] at hg;cases hg
  |some lay=>
   rw [hl] at hg;have hg:=Option.some.inj hg;rw [List.drop_eq_getElem_cons hi,hg,aA.partGo];obtain ⟨dl',g1,g2,g3⟩:=aKJ hD (p:=p) hk (by omega) lay dl h hdk fun m hmm=>aVX hm hD hp hk hl hmm
   rw [g1];exact aMH hm hD hp hk hlen f (i+1) dl' (by omega) g2 g3
theorem aD2 {x:aA} (hm:x.may=true) {w:Int} {r:bR} (hD:j8 x w r) {p:bE} (hp:p=⟨r.low,r.log.map fun d=>x.partM r d.2⟩) (hlen:∀(k:Nat) n d,r.log[k]? =some (n,d)→(x.partM r d).length<2^31):∀(f k:Nat) (dl:List Int),r.log.length-k=f→nU r dl→∃dl',x.partsGo p k (p.parts.drop k) dl=some dl'
 |0,k,dl,hf,h=>by
  have:p.parts.length=r.log.length:=by rw [hp];exact List.length_map _
  rw [List.drop_eq_nil_of_le (by omega)];exact ⟨dl,rfl⟩
 |f+1,k,dl,hf,h=>by
  have hl:p.parts.length=r.log.length:=by rw [hp];exact List.length_map _
  have hk:k<r.log.length:=by omega
  have hk2:k<p.parts.length:=by omega
  have hget:r.log[k]? =some (r.log[k].1,r.log[k].2):=List.getElem?_eq_getElem hk;have hpk:p.parts[k]=x.partM r r.log[k].2:=by subst hp;exact List.getElem_map _
  rw [List.drop_eq_getElem_cons hk2,hpk,aA.partsGo];generalize r.log[k].1=n at *;generalize r.log[k].2=d at *;split
  ·exact aD2 hm hD hp hlen f (k+1) dl (by omega) h
  ·rename_i c;have hdk:=(h.deep k n d hget).resolve_left c;obtain ⟨dl',g1,g2⟩:=aMH hm hD hp hget (hlen k n d hget) _ 0 dl rfl h hdk;rw [List.drop_zero] at g1;rw [g1];exact aD2 hm hD hp hlen f (k+1) dl' (by omega) g2
theorem aMI {x:aA} {r:bR} {d:aX}:(x.partM r d).length=(dH r d).length:=by rw [aA.partM,List.length_map,List.length_range]
theorem aZY {x:aA} (hm:x.may=true) {w:Int} {r:bR} (hD:j8 x w r) {p:bE} (hl:p.parts.length=r.log.length) {k:Nat} {n:aC} {d:aX} (hk:r.log[k]? =some (n,d)):x.wholeB p (x.partM r d)=true:=by
 obtain ⟨ht,u,hd,_,_⟩:=hD.all k n d hk;obtain ⟨t,hh⟩:=aD1 (x:=x) (r:=r) (n:=n) (w:=w) (u:=u);have hfit:=(aG2 (ht.fits hm) w u).1;rw [←hd] at hh hfit
 have hall:∀l∈x.partM r d,∀s∈l,x.spotB p s=true:=by
  intro l hl2 s hs;obtain ⟨i,hi,e⟩:=List.getElem_of_mem hl2;have hg:=tE (x:=x) (r:=r) (d:=d) i;rw [List.getElem?_eq_getElem hi,e] at hg;cases hla:(dH r d)[i]? with
  |none=>rw [hla] at hg;cases hg
  |some lay=>rw [hla] at hg;have hg:=Option.some.inj hg;rw [hg] at hs;obtain ⟨m,hmm,rfl⟩:=List.mem_map.1 hs;have hf:=hfit lay (yL (List.mem_of_getElem? hla)) m hmm;have hb:=aWT x r (dK r d) i m;have hc:=hf.cost;have e1:(fP (dP x r (dK r d) i) m).s=m.s:=rfl;have e2:(fP (dP x r (dK r d) i) m).cost=m.cost:=rfl;have e3:(fP (dP x r (dK r d) i) m).part=dP x r (dK r d) i m:=rfl;simp only [aA.spotB,Bool.and_eq_true,decide_eq_true_eq];rw [e1,e2,e3,hl];exact ⟨⟨⟨⟨hf.may,hc.1⟩,hc.2⟩,hb.1⟩,hb.2⟩
 rw [hh] at hall ⊢;rw [aA.wholeB,Bool.and_eq_true];refine ⟨rfl,?_⟩;rw [Bool.not_eq_true',List.any_eq_false];intro l hl2;rw [Bool.not_eq_true,List.any_eq_false];intro s hs;rw [hall l hl2 s hs];decide
theorem bBP {x:aA} (hm:x.may=true) (p:bE):x.wholeB p [[⟨x.rootS,0,0⟩]]=true:=by
 have h:x.spotB p ⟨x.rootS,0,0⟩=true:=by simp only [aA.spotB,Bool.and_eq_true,decide_eq_true_eq];exact ⟨⟨⟨⟨aNV hm,Int.le_refl _⟩,by decide⟩,Int.le_refl _⟩,by omega⟩
 simp [aA.wholeB,h]
theorem aM1 {x:aA} (hm:x.may=true) {w:Int} {r:bR} (hD:j8 x w r):x.mayP (x.proofOf r)=true:=by
 have hlow:=hD.low;simp only [aA.mayP,Bool.and_eq_true,decide_eq_true_eq];refine ⟨hm,hlow.1,hlow.2,?_,?_⟩
 ·show (x.proofOf r).parts≠[];unfold aA.proofOf;split
  ·simp
  ·rename_i h;intro e;have:=congrArg List.length e;rw [List.length_map] at this;exact h this
 ·rw [List.all_eq_true];intro q hq;by_cases h:r.log.length=0
  ·have e:x.proofOf r=⟨r.low,[[[⟨x.rootS,0,0⟩]]]⟩:=by rw [aA.proofOf,if_pos h]
   rw [e] at hq ⊢;rw [List.mem_singleton.1 hq];exact bBP hm _
  ·have e:x.proofOf r=⟨r.low,r.log.map fun d=>x.partM r d.2⟩:=by rw [aA.proofOf,if_neg h]
   rw [e] at hq ⊢;obtain ⟨d,hd,rfl⟩:=List.mem_map.1 hq;obtain ⟨k,hk,hkd⟩:=List.getElem_of_mem hd;exact aZY hm hD (n:=d.1) (d:=d.2) (k:=k) (List.length_map _) (by rw [List.getElem?_eq_getElem hk,hkd])
theorem bAS {x:aA} (hm:x.may=true) {w:Int} {r:bR} (hD:j8 x w r):x.checkE (x.proofOf r)=0:=by
 have hmp:=aM1 hm hD;rw [aA.checkE,if_pos hmp];by_cases h:r.log.length=0
 ·have e:x.proofOf r=⟨r.low,[[[⟨x.rootS,0,0⟩]]]⟩:=by rw [aA.proofOf,if_pos h]
  rw [e];have hf:bE.first ⟨r.low,[[[⟨x.rootS,0,0⟩]]]⟩ 0=some ⟨x.rootS,0,0⟩:=rfl;rw [hf];simp only [and_self,if_true]
  have hdead:r.low≤x.of x.rootN:=by
   have hnil:r.log=[]:=List.eq_nil_of_length_eq_zero h;have:=aOT x.rootN.cost (x.low x.rootN.s);have e:x.of x.rootN=dL [x.rootN.cost,x.low x.rootN.s]:=rfl;rcases hD.root with h | ⟨D,j,hj⟩
   ·omega
   ·rw [hnil] at hj;simp at hj
  have hh:∀dk,x.holdsB ⟨r.low,[[[⟨x.rootS,0,0⟩]]]⟩ 0 0 ⟨x.rootS,0,0⟩ dk=true:=fun dk=>by rw [aA.holdsB,if_pos (by show decide (r.low≤x.of x.rootN)=true;exact decide_eq_true hdead)]
  simp only [List.length_cons,List.length_nil,List.replicate_succ,List.replicate_zero,List.set_cons_zero,aA.partsGo,aA.partGo,aA.layGo,hh];simp [iG]
 ·have e:x.proofOf r=⟨r.low,r.log.map fun d=>x.partM r d.2⟩:=by rw [aA.proofOf,if_neg h]
  obtain ⟨p,hp⟩:∃p:bE,p=⟨r.low,r.log.map fun d=>x.partM r d.2⟩:=⟨_,rfl⟩;rw [e,←hp];cases hlog:r.log with
  |nil=>rw [hlog] at h;exact absurd rfl h
  |cons d L=>
   have h0:r.log[0]? =some (d.1,d.2):=by rw [hlog];rfl
   have hpath:=hD.head d L hlog;obtain ⟨ht,u,hd,_,_⟩:=hD.all 0 d.1 d.2 h0;obtain ⟨t,hh⟩:=aD1 (x:=x) (r:=r) (n:=d.1) (w:=w) (u:=u);rw [←hd] at hh;have hf:p.first 0=some (fP (dP x r (dK r d.2) 0) d.1):=by rw [bE.first,hp];simp only;rw [List.getElem?_map,h0,Option.map_some,hh]
   have hgo:=ht.goes;rw [hpath] at hgo;obtain ⟨e1,e2⟩:=Prod.mk.inj (Option.some.inj hgo);rw [hf];simp only;have hl:p.parts.length=r.log.length:=by rw [hp];exact List.length_map _
   have hpos:0<r.log.length:=by omega
   rw [if_pos ⟨e1.symm,e2.symm⟩]
   have hds:nU r ((List.replicate p.parts.length iG).set 0 0):=by
    refine ⟨by rw [List.length_set,List.length_replicate,hl],fun j n D hj=>?_⟩;have hjl:=(List.getElem?_eq_some_iff.1 hj).1;rw [aCG (by rw [List.length_replicate];omega)];split
    ·rename_i e3;subst e3;rw [h0] at hj;cases hj;refine .inr ?_;rw [hpath];rfl
    ·refine .inl ?_;rw [List.getD_eq_getElem?_getD,List.getElem?_replicate,if_pos (by omega)];rfl
   obtain ⟨dl',hdl⟩:=aD2 hm hD hp (fun k n d hk=>by
    obtain ⟨ht,u,hd,_,_⟩:=hD.all k n d hk
    have h1:=uL x n w u
    have h2:=(qY hm).2
    rw [←hd] at h1
    have h3:=aCS r d
    rw [aMI]
    omega) _ 0 _ rfl hds
   rw [List.drop_zero] at hdl;rw [hdl]
structure bR.Fine (r:bR):Prop where
 log:r.log.length<2^31
 path:∀d∈r.log,d.1.path.length<2^62
 each:∀d∈r.log,d.2.sure≤d.2.layers.length∧d.2.layers.length<2^31∧∀l∈d.2.layers,l.length<2^31∧∀n∈l,n.s.ok∧n.path.length<2^62
def aA.partsK (x:aA) (r:bR) (k:Nat):List (List T):=(r.log.take k).map fun d=>cB (x.partM r d.2)
theorem aZ3 (x:aA) (r:bR) (k:Nat):∀y∈x.partsK r k,y.length=1:=by intro y hy;obtain ⟨_,_,rfl⟩:=List.mem_map.1 hy;rfl
theorem aMK (x:aA) (r:bR) {k:Nat} (h:k≤r.log.length):(x.partsK r k).length=k:=by rw [aA.partsK,List.length_map,List.length_take];omega
theorem aZ4 (x:aA) (r:bR) {k:Nat} (h:k<r.log.length):x.partsK r (k+1)=x.partsK r k++[cB (x.partM r r.log[k].2)]:=by rw [aA.partsK,List.take_succ_eq_append_getElem h,List.map_append];rfl
theorem bAP (x:aA) (r:bR):(x.proofOf r).a= .agg [.i r.low,.t (.sl (if r.log.length=0 then [[.sl [[.sl [(⟨x.rootS,0,0⟩:aQ).t]]]]] else x.partsK r r.log.length))]:=by
 rw [bE.a,bE.cs,aA.proofOf];split
 ·rfl
 ·rw [aA.partsK,List.take_length,List.map_map];rfl
theorem aXU (x:aA) (r:bR) (hl:x.stops.length<2^31) (hr:r.Fine):Pure P 66 [x.a,r.a] ((x.proofOf r).a):=by
 rw [bAP];generalize hR:(if r.log.length=0 then [[.sl [[.sl [(⟨x.rootS,0,0⟩:aQ).t]]]]] else x.partsK r r.log.length:List (List T))=R;refine aW Tryz.func66 rfl rfl (by simp [Tryz.f66]) (by simp [aE,aE.bndL,aA.a,bR.a]) (by simp [aE,aE.bndL]) fun B hB hnx=>?_
 simp only [Tryz.f66] at hB ⊢;have hro:=zP x (by omega);have hL:=hr.log;have hll:(gY r.log).length=r.log.length:=List.length_map _;refine aD ?_;simp [go_sem,aA.a,bR.a];refine jB (aH.ownB (b:=4) (off:=1) (sz:=1) (cs:=[.i r.low,.fsl []]) (by simp [aB,cW]) rfl) ?_;refine bA (α:=Nat×Nat×(Nat→aG)×Nat) (fun (k,a,τ,m)=>k≤r.log.length∧τ 0= .box [.i x.pairs,.i x.cars,.i x.room,.t (.sl (x.stops.map aR.t))]∧τ 2= .box [.i 0,.fsl []]∧τ 3= .box (fD x r)∧τ 4= .box [.i r.low,.ref a]∧τ a= .arr 1 (x.partsK r k)∧a<m∧5≤a) (fun (k,a,τ,m)=>⟨sl [(2,.ptr 0 0),(4,.ptr 2 0),(5,.ptr 3 0),(6,.ptr 4 0),(16,.t (.sl (gY r.log))),(17,.i r.log.length),(18,.i k)],τ,m⟩) (fun a=>r.log.length-a.1) (0,5,_,6) ⟨Nat.zero_le _,by simp [aB],by simp [aB],by simp [aB,cW,fD],by simp [aB,cW],by simp [aB,aA.partsK],by decide,by decide⟩ (aH.slots (by simp [go_sem,hll]) rfl rfl) ?_;rintro ⟨k,a,τ,m⟩ ⟨g1,h0,g2,g3,g4,g5,g6,g7⟩;have n0:¬0=m:=by omega
 have n2:¬2=m:=by omega
 have n3:¬3=m:=by omega
 have n4:¬4=m:=by omega
 have n5:¬a=4:=by omega
 have n6:¬4=a:=by omega
 have n7:¬0=a:=by omega
 have n8:¬2=a:=by omega
 have n9:¬3=a:=by omega
 have na:¬a=m:=by omega
 have nh:¬a=2:=by omega
 have nb:¬m=a:=by omega
 have nc:¬0=m+1:=by omega
 have nd:¬2=m+1:=by omega
 have ne:¬3=m+1:=by omega
 have nf:¬4=m+1:=by omega
 have ng:¬m+1=4:=by omega
 by_cases hk:k<r.log.length
 ·have hkk:IntKind.i64.wrap ((k:Int)+1)=((k+1:Nat):Int):=by rw [aO ((k:Int)+1) (by omega)];rfl
  have hget:∀h,(gY r.log)[k]'h=iP.t r.log[k]:=fun h=>by simp [gY]
  have hrs:=aZ4 x r hk;have hmem:r.log[k]∈r.log:=List.getElem_mem _;obtain ⟨e1,e2,e3⟩:=hr.each _ hmem;have hpt:=aZZ x r r.log[k].2 hl hL hr.path e1 e2 e3;rw [←aZX] at hpt;have hone:=aZ3 x r k;have hlen:=aMK x r g1;have hcap:k+1≤bH:=by show _≤4294967296;omega
  rw [cB] at hrs;generalize (x.partM r r.log[k].2).map cE=pt at *;generalize r.log[k]=d at *;generalize x.partsK r k=rows at *;refine aI ?_;simp [go_sem,hk,hll,hget,iP.t,aC.t];refine gQ [7,9] rfl (by rw [hB];kernel_rfl) (by kernel_rfl) fun ht=>?_
  refine aD ?_;simp [go_sem,ht,g3,n3,n4,g4,fD];refine bQ rfl rfl rfl (args:=[.agg (fD x r),d.2.a]) (f:=114) (by simp [go_sem,fD,aX.a,aX.cs]) hpt ?_;refine aD ?_;simp [go_sem,ht,g4,g5,hlen,hone,hcap,n0,n2,n3,n4,n5,n6,na,nb,nf,ng,hkk];refine Next.mk (k+1,m+1,_,m+2) ⟨by omega,?_,?_,?_,?_,?_,by simp only;omega,by simp only;omega⟩ (aH.slots (by simp [go_sem]) rfl rfl) (by simp only;omega)
  all_goals simp [aB,n0,n2,n3,n4,n5,n6,n7,n8,n9,na,nb,nc,nd,ne,nf,ng,h0,g2,g3,g4,g5,hrs,cW,fD]
 ·have:k=r.log.length:=by omega
  subst this;have hlen:=aMK x r (Nat.le_refl _);by_cases c:r.log.length=0
  ·rw [if_pos c] at hR;rw [c] at hlen;subst hR;generalize x.rootS=s at *;refine aI ?_;simp [go_sem,c,hll,g4,g5,hlen,h0];refine aL rfl rfl rfl (args:=[x.a]) (f:=47) (by simp [go_sem,aA.a]) (by simp [go_sem,hB]) ((hro).spec _ _) ?_;refine aD ?_;simp [go_sem,aF.a,aF.cs,g4,g2,g5,hlen,n5,n6,n8,nh];rfl
  ·rw [if_neg c] at hR;rw [hR] at g5 hlen;refine aD ?_;simp [go_sem,hll,g4,g5,hlen,c,g2,n5,n6,n8,nh]
theorem aG4 {x:aA} {n:aC} (ht:bY x n) {w u:Int} (hl:x.stops.length≤7) (hw:w≤40):(x.build n w u).sure≤(x.build n w u).layers.length∧(x.build n w u).layers.length≤41∧∀l∈(x.build n w u).layers,l.length≤40∧∀n∈l,n.s.ok∧n.path.length≤81:=by
 have h1:=uL x n w u;have h2:=ht.few
 have h3:x.deep≤40:=by
  by_cases hm:x.may=true
  ·have:=(qY hm).2;omega
  ·rw [aA.deep,if_neg hm];omega
 refine ⟨(mI x n w u).le,by omega,fun l hl2=>?_⟩;obtain ⟨h4,h5⟩:=aG3 ht.is.ok w u l hl2;refine ⟨?_,fun m hm=>⟨h4.ok m hm,by have:=h4.path m hm;omega⟩⟩;rcases h5 with h5 | h5
 ·rw [h5];simp
 ·unfold aA.mostN at h5;omega
theorem aUD {x:aA} {w:Int} {r:bR} (hD:j8 x w r) (hl:x.stops.length≤7) (hw:w≤40):r.Fine:=by
 have hfew:=hD.few;refine ⟨by omega,fun d hd=>?_,fun d hd=>?_⟩
 ·obtain ⟨k,hk,e⟩:=List.getElem_of_mem hd;have:=(hD.all k d.1 d.2 (by rw [List.getElem?_eq_getElem hk,e])).1.few;omega
 ·obtain ⟨k,hk,e⟩:=List.getElem_of_mem hd;obtain ⟨ht,u,hd2,_⟩:=hD.all k d.1 d.2 (by rw [List.getElem?_eq_getElem hk,e]);obtain ⟨h1,h2,h3⟩:=aG4 ht (w:=w) (u:=u) hl hw;rw [←hd2] at h1 h2 h3;exact ⟨h1,by omega,fun l hl2=>⟨by have:=(h3 l hl2).1;omega,fun n hn=>⟨((h3 l hl2).2 n hn).1,by have:=((h3 l hl2).2 n hn).2;omega⟩⟩⟩
theorem bCO {x:aA} {o:aV} (hl:x.stops.length≤7) (hw:o.width≤40):(x.search o).Fine:=by
 by_cases hm:x.may=true
 ·by_cases ho:o.mayB=true
  ·exact aUD (aEO hl hm ho hw) hl hw
  ·rw [aA.search,if_pos hm,if_neg ho];exact ⟨by decide,fun d h=>(by cases h),fun d h=>(by cases h)⟩
 ·rw [aA.search,if_neg hm];exact ⟨by decide,fun d h=>(by cases h),fun d h=>(by cases h)⟩
structure bE.Lesser (p:bE):Prop where
 parts:p.parts.length≤1848
 lays:∀q∈p.parts,q.length≤41∧∀l∈q,l.length≤40∧∀n∈l,n.s.ok
theorem aH1 {x:aA} {w:Int} {r:bR} (hD:j8 x w r) (hl:x.stops.length≤7) (hw:w≤40):(x.proofOf r).Lesser:=by
 have hfew:=hD.few;rw [aA.proofOf];split
 ·refine ⟨by simp,fun q hq=>?_⟩;simp only [List.mem_singleton] at hq;subst hq;refine ⟨by simp,fun l hl2=>?_⟩;simp only [List.mem_singleton] at hl2;subst hl2;refine ⟨by simp,fun n hn=>?_⟩;simp only [List.mem_singleton] at hn;subst hn;exact zO x
 ·refine ⟨by simp only [List.length_map];exact hfew,fun q hq=>?_⟩;obtain ⟨d,hd,rfl⟩:=List.mem_map.1 hq;obtain ⟨k,hk,e⟩:=List.getElem_of_mem hd;obtain ⟨ht,u,hd2,_⟩:=hD.all k d.1 d.2 (by rw [List.getElem?_eq_getElem hk,e]);obtain ⟨h1,h2,h3⟩:=aG4 ht (w:=w) (u:=u) hl hw;rw [←hd2] at h1 h2 h3;have h4:=aCS r d.2;refine ⟨by rw [aMI];omega,fun l hl2=>?_⟩;obtain ⟨i,hi,e2⟩:=List.getElem_of_mem hl2;have hg:=tE (x:=x) (r:=r) (d:=d.2) i;rw [List.getElem?_eq_getElem hi,e2] at hg;cases hla:(dH r d.2)[i]? with
  |none=>rw [hla] at hg;cases hg
  |some lay=>rw [hla] at hg;have hg:=Option.some.inj hg;subst hg;obtain ⟨g1,g2⟩:=h3 lay (yL (List.mem_of_getElem? hla));refine ⟨by rw [List.length_map];exact g1,fun n hn=>?_⟩;obtain ⟨m,hm,rfl⟩:=List.mem_map.1 hn;exact (g2 m hm).1
def aQ.c (s:aQ):bP:=⟨s.s.spot,s.s.car,s.s.time,s.s.load,s.s.first,s.s.must,s.s.can,s.s.on,s.cost,s.part⟩
def bE.c (p:bE):cM:=⟨p.least,p.parts.map fun q=>q.map fun l=>l.map aQ.c⟩
theorem aHC (p:bE):p.c.pf=p:=by
 have h1:∀l:List aQ,(l.map aQ.c).map bP.sp=l:=fun l=>by rw [List.map_map];exact List.map_id l
 have h2:∀q:List (List aQ),(q.map fun l=>l.map aQ.c).map (fun l=>l.map bP.sp)=q:=fun q=>by rw [List.map_map];exact (List.map_congr_left fun l _=>h1 l).trans (List.map_id q)
 have h3:(p.parts.map fun q=>q.map fun l=>l.map aQ.c).map (fun q=>q.map fun l=>l.map bP.sp)=p.parts:=by rw [List.map_map];exact (List.map_congr_left fun q _=>h2 q).trans (List.map_id _)
 rw [cM.pf,bE.c];simp only;rw [h3]
theorem c_a (p:bE):p.c.a=p.a:=by rw [aMM,aHC]
theorem x9 {α:Type} {f:α→List Nat} {K:Nat}:∀(l:List α),(∀a∈l,(f a).length≤K)→(l.flatMap f).length≤K*l.length
 |[],_=>by simp
 |a :: l,h=>by
  have h1:=x9 l fun b hb=>h b (List.mem_cons_of_mem _ hb)
  have h2:=h a List.mem_cons_self;rw [List.flatMap_cons,List.length_append,List.length_cons,Nat.mul_succ];omega
theorem aKX {p:bE} (h:p.Lesser):p.c.ok∧p.c.enc.length+1000≤bH:=by
 have hp:=h.parts;have hin:∀q∈p.c.parts,q.length≤41∧∀l∈q,l.length≤40∧∀s∈l,s.ok:=by intro q hq;obtain ⟨q',hq',rfl⟩:=List.mem_map.1 hq;obtain ⟨g1,g2⟩:=h.lays q' hq';refine ⟨by rw [List.length_map];exact g1,fun l hl=>?_⟩;obtain ⟨l',hl',rfl⟩:=List.mem_map.1 hl;obtain ⟨g3,g4⟩:=g2 l' hl';refine ⟨by rw [List.length_map];exact g3,fun s hs=>?_⟩;obtain ⟨n,hn,rfl⟩:=List.mem_map.1 hs;exact ⟨(g4 n hn).must,(g4 n hn).can,(g4 n hn).on⟩
 have hlen:p.c.parts.length≤1848:=by rw [bE.c,List.length_map];exact hp
 refine ⟨⟨by omega,fun q hq=>by have:=(hin q hq).1;omega,fun q hq l hl=>by have:=((hin q hq).2 l hl).1;omega,fun q hq l hl s hs=>((hin q hq).2 l hl).2 s hs⟩,?_⟩;have e1:∀s:bP,s.ok→s.enc.length≤100:=fun s hs=>by have a1:=oD [s.at_,s.car,s.time,s.load,s.first];have a2:=oD [s.cost,s.part];have a3:=sG hs.1;have a4:=sG hs.2.1;have a5:=sG hs.2.2;simp only [bP.enc,List.length_append,List.length_cons,List.length_nil] at *;omega
 have e2:∀l:lI,l.length≤40→(∀s∈l,s.ok)→(oG l).length≤4010:=fun l hl hs=>by
  have a1:=oD [(l.length:Int)];have a2:=x9 (f:=bP.enc) (K:=100) l fun s h=>e1 s (hs s h)
  have a3:100*l.length≤100*40:=Nat.mul_le_mul_left _ hl;simp only [oG,List.length_append,List.length_cons,List.length_nil] at *;omega
 have e3:∀q∈p.c.parts,(mS q).length≤164420:=fun q hq=>by
  obtain ⟨g1,g2⟩:=hin q hq;have a1:=oD [(q.length:Int)];have a2:=x9 (f:=oG) (K:=4010) q fun l hl=>e2 l (g2 l hl).1 (g2 l hl).2
  have a3:4010*q.length≤4010*41:=Nat.mul_le_mul_left _ g1;simp only [mS,List.length_append,List.length_cons,List.length_nil] at *;omega
 have a1:=oD [p.c.least];have a2:=oD [(p.c.parts.length:Int)];have a3:=x9 (f:=mS) (K:=164420) p.c.parts e3;have a4:164420*p.c.parts.length≤164420*1848:=Nat.mul_le_mul_left _ hlen;have a5:bH=4294967296:=rfl;simp only [cM.enc,List.length_append,List.length_cons,List.length_nil] at *;omega
def nE (p:bE):List Nat:=if p.c.err=0 then p.c.enc else []
theorem xW (n:Nat):∀c∈enc n,c<256:=by
 induction n using Nat.strongRecOn with
 |_ n ih=>
  rw [enc];split
  ·intro c hc;rcases List.mem_cons.1 hc with rfl | hc
   ·omega
   ·exact ih (n / 128) (by omega) c hc
  ·intro c hc;rw [List.mem_singleton.1 hc];omega
theorem aUK (p:bE) (h:p.Lesser):Pure P 65 [p.a] (.tup [.t (.sl (aS (nE p))),.i p.c.err]):=by
 obtain ⟨h1,h2⟩:=aKX h;have:=aUL p.c h1 h2;rw [c_a] at this;rw [nE];split
 ·rename_i e;rw [if_pos e] at this;rw [e];exact this
 ·rename_i e;rw [if_neg e] at this;exact this
structure dA where
 status:Int
 text:List Nat
 low:Int
 up:Int
 cert:List Nat
 deriving DecidableEq
def dA.cs (a:dA):List AV:=[.i a.status,.t (.sl (aS a.text)),.i a.low,.i a.up,.t (.sl (aS a.cert))]
def dA.a (a:dA):AV:=.agg a.cs
def rG:List Nat:=[48,10]
def iL (i o:List Nat) (x:aA) (p:aV) (a:dA):List AV:=[.t (.sl (aS i)),.t (.sl (aS o)),.i x.pairs,.i x.cars,.i x.room,.t (.sl (x.stops.map aR.t)),.i p.width,.i p.order,.i p.budget,.i a.status,.t (.sl (aS a.text)),.i a.low,.i a.up,.t (.sl (aS a.cert))]
theorem bA9 (i o:List Nat) (x:aA) (p:aV) (a:dA) (hi:i.length<2^63) (hi8:∀c∈i,c<256) {σ:Nat→aG} {nx q:Nat} (hq:q<nx) (hσ:σ q= .box (iL i o x p a)):
  aT P 30 [.ptr q 0] σ nx (.b (decide ((bI i).2=0))) (aB σ q (.box (iL i o (bI i).1 p {a with status:=0}))) nx:=by
 have hp:=y9 i hi hi8;generalize (bI i).1=y at *;generalize (bI i).2=e at *;refine bN.spec (cA Tryz.func30 rfl rfl (by simp [Tryz.f30]) fun B hB hnx hσB=>?_);simp only [Tryz.f30] at hB ⊢;rw [iL] at hσ;refine aD ?_;simp [go_sem,hσ];refine aL rfl rfl rfl (args:=[.t (.sl (aS i))]) (f:=16) (by simp [go_sem]) (by simp [go_sem,hB]) ((hp).spec _ _) ?_;refine aD ?_;simp [go_sem,hσ,aA.a,cW,aME,iL]
theorem aS2 (i o:List Nat) (x:aA) (p:aV) (a:dA) (hi:o.length<2^63) (hi8:∀c∈o,c<256) {σ:Nat→aG} {nx q:Nat} (hq:q<nx) (hσ:σ q= .box (iL i o x p a)):
  aT P 31 [.ptr q 0] σ nx (.b (decide ((cF o).2=0))) (aB σ q (.box (iL i o x (cF o).1 {a with status:=1}))) nx:=by
 have hp:=aDU o hi hi8;generalize (cF o).1=y at *;generalize (cF o).2=e at *;refine bN.spec (cA Tryz.func31 rfl rfl (by simp [Tryz.f31]) fun B hB hnx hσB=>?_);simp only [Tryz.f31] at hB ⊢;rw [iL] at hσ;refine aD ?_;simp [go_sem,hσ];refine aL rfl rfl rfl (args:=[.t (.sl (aS o))]) (f:=17) (by simp [go_sem]) (by simp [go_sem,hB]) ((hp).spec _ _) ?_;refine aD ?_;simp [go_sem,hσ,aV.a,aV.cs,cW,aME,iL]
theorem aN7 {x:aA} {o:aV} (hl:x.stops.length≤7) (hw:o.width≤40):(x.proofOf (x.search o)).Lesser:=by
 by_cases hm:x.may=true∧o.mayB=true
 ·exact aH1 (aEO hl hm.1 hm.2 hw) hl hw
 ·have hlog:(x.search o).log=[]:=by
   rw [aA.search];split
   ·split
    ·exact absurd ⟨‹_›,‹_›⟩ hm
    ·rfl
   ·rfl
  rw [aA.proofOf,hlog];refine ⟨by simp,fun q hq=>?_⟩;simp only [List.length_nil,if_true,List.mem_singleton] at hq;subst hq;refine ⟨by simp,fun l hl2=>?_⟩;simp only [List.mem_singleton] at hl2;subst hl2;refine ⟨by simp,fun n hn=>?_⟩;simp only [List.mem_singleton] at hn;subst hn;exact zO x
def aA.ans (x:aA) (r:bR) (a:dA):dA:=⟨r.status,if r.up<bF then eK (dW r.plan) else a.text,r.low,r.up,nE (x.proofOf r)⟩
theorem bDK (i o:List Nat) (x:aA) (p:aV) (a:dA) (hl:x.stops.length≤7) (hw:p.width≤40) (hD:(x.search p).up<bF→oY (x.search p).plan∧(x.search p).plan.length<20) (hle:(x.proofOf (x.search p)).Lesser) {σ:Nat→aG} {nx q:Nat} (hq:q<nx) (hσ:σ q= .box (iL i o x p a)):
  aT P 32 [.ptr q 0] σ nx (.b true) (aB σ q (.box (iL i o x p (x.ans (x.search p) a)))) nx:=by
 have hs:=bD1 x p hl hw;have hfi:=bCO (x:=x) (o:=p) hl hw;have hmk:=aXU x (x.search p) (by omega) hfi;have hen:=aUK _ hle;have hinf:bF=1152921504606846976:=rfl;generalize hA:x.ans (x.search p) a=A;rw [aA.ans] at hA;generalize nE (x.proofOf (x.search p))=C at *;generalize x.proofOf (x.search p)=pr at *;generalize x.search p=r at *;refine fO Tryz.func32 rfl rfl (by simp [Tryz.f32]) hq (by simp [dG,aE,iL]) (by simp [aE]) fun hk B hB hnx hσB=>?_
 simp only [Tryz.f32] at hB ⊢;rw [iL] at hσ;have n1:¬q=nx:=by omega
 have n2:¬nx=q:=by omega
 refine aD ?_;simp [go_sem];refine cT [9,10] [0,1,2,3,4,5,6,7,8] rfl (by rw [hB];kernel_rfl) (by kernel_rfl) fun ht hf'=>?_
 refine aD ?_;simp [go_sem,ht,hf',hσ];refine bQ rfl rfl rfl (args:=[x.a,p.a]) (f:=18) (by simp [go_sem,aA.a,aV.a,aV.cs]) (hs) ?_;refine aD ?_;simp [go_sem,ht,hf',hσ,n1,bR.a];refine cT [12,16,20] [1,2,5,6,7,8] rfl (by rw [hB];kernel_rfl) (by kernel_rfl) fun ht hf'=>?_
 by_cases c:r.up<1152921504606846976
 case' pos=>
  have hc:r.up<bF:=by rw [hinf];exact c
  have hpp:=bAL _ (hD hc).1 (hD hc).2;rw [if_pos hc] at hA;refine aD ?_;simp [go_sem,ht,hf',hσ,n1,n2,cW,c,pW];refine aL rfl rfl rfl (args:=[.agg [.t (.sl (r.plan.map aY))]]) (f:=64) (by simp [go_sem]) (by simp [go_sem,hB]) ((hpp).spec _ _) ?_;refine aD ?_;simp [go_sem,hσ,n1,n2,cW]
 case' neg=>rw [if_neg (by rw [hinf];exact c)] at hA;refine aD ?_;simp [go_sem,ht,hf',hσ,n1,n2,cW,c]
 all_goals
  subst hA;refine cT [14] [10] rfl (by rw [hB];kernel_rfl) (by kernel_rfl) fun ht hf'=>?_
  refine aD ?_;simp [go_sem,ht,hf',hσ,n1,n2];refine bQ rfl rfl rfl (args:=[x.a,r.a]) (f:=66) (by simp [go_sem,aA.a,bR.a,pW]) (hmk) ?_;refine aD ?_;simp [go_sem,ht,hf'];refine bQ rfl rfl rfl (args:=[pr.a]) (f:=65) (by simp [go_sem,bE.a,bE.cs]) (hen) ?_;refine aD ?_;simp [go_sem,ht,hf',hσ,n1,n2,cW,iL];exact fun j h1 h2=>by simp [aB,h2,show ¬j=nx by omega]
theorem aD5 {x:aA} (hl:x.stops.length≤7) (hm:x.may=true) {rs:List (List Int)} {c:Int} (h:x.cost rs=(c,0)):oY rs∧rs.length<20:=by obtain ⟨p,hx⟩:=x.fit hm;obtain ⟨hok,_⟩:=xT hx hm h;have h1:=hok.cars;have h2:=hx.cars;have h3:=hx.len;refine ⟨⟨by omega,fun r hr=>?_⟩,by omega⟩;obtain ⟨t1,t2,_⟩:=oT hx hm (hok.each r hr).2;exact ⟨by omega,fun n hn=>by have:=t1 n hn;omega⟩
def eS (s:Int):dA:=⟨s,rG,0,bF,[]⟩
def dD (i o:List Nat):dA:=if (bI i).2≠0 then eS 0 else if (cF o).2≠0 then eS 1 else (bI i).1.ans ((bI i).1.search (cF o).1) (eS 1)
theorem vJ (o:List Nat) (h:(cF o).2=0):(cF o).1.mayB=true:=by
 unfold cF at h ⊢;split
 ·rename_i e;rw [if_pos e] at h;exact absurd h e
 ·rename_i e;rw [if_neg e] at h;unfold rJ at h ⊢;split
  ·rename_i c;rw [if_pos c] at h;split
   ·assumption
   ·rename_i c2;rw [if_neg c2] at h;cases h
  ·rename_i c;rw [if_neg c] at h;cases h
theorem vL (i:List Nat) (h:(bI i).2=0):(bI i).1.may=true:=by
 unfold bI at h ⊢;split
 ·rename_i e;rw [if_pos e] at h;exact absurd h e
 ·rename_i e;rw [if_neg e] at h;unfold zA at h ⊢;split
  ·rename_i c;rw [if_pos c] at h;cases h
  ·rename_i c;rw [if_neg c] at h;split
   ·assumption
   ·rename_i c2;rw [if_neg c2] at h;cases h
def bD3 (i o:List Nat) (k:Nat) (x:aA) (p:aV) (a:dA):Prop:=
 (k=0∧a=eS 0)∨(k=1∧(bI i).2=0∧x=(bI i).1∧a=eS 0)∨
 (k=2∧(bI i).2=0∧(cF o).2=0∧x=(bI i).1∧p=(cF o).1∧a=eS 1)∨(k=3∧a=dD i o)
theorem aEZ (i o:List Nat) (hi:i.length<2^63) (hi8:∀c∈i,c<256) (ho:o.length<2^63) (ho8:∀c∈o,c<256) (hl:(bI i).1.stops.length≤7) (hw:(cF o).1.width≤40):Pure P 14 [.t (.sl (aS i)),.t (.sl (aS o))] ((dD i o).a):=by
 generalize hR:dD i o=R;refine aW Tryz.func14 rfl rfl (by simp [Tryz.f14]) (by simp [aE,aE.bndL]) (by simp [aE,aE.bndL,dA.a,dA.cs]) fun B hB hnx=>?_
 simp only [Tryz.f14] at hB ⊢;have hinf:bF=1152921504606846976:=rfl;refine aD ?_;simp [go_sem];refine aL rfl rfl rfl (args:=[]) (f:=19) (by simp [go_sem]) (by simp [go_sem,hB]) ((aL3).spec _ _) ?_;have hnp:aS [48,10]=aS rG:=rfl;rw [hnp];refine aI ?_;simp [go_sem];refine jB (aH.looseB (b:=1) (cs:=[.t (.sl (aS i)),.t (.sl (aS o)),.i 0,.i 0,.i 0,.fsl [],.i 0,.i 0,.i 0,.i 0,.t (.sl (aS rG)),.i 0,.i 1152921504606846976,.fsl []]) (by simp [aB])) ?_;refine bA (α:=Nat×aA×aV×dA×(Nat→aG)) (fun (k,x,p,a,τ)=>bD3 i o k x p a∧τ 0= .box [.i 0,.fsl [],.i 0,.i 0,.fsl []]∧τ 1= .box (iL i o x p a)∧τ 2= .box [.fn (.func 30) [.ptr 1 0] [],.fn (.func 31) [.ptr 1 0] [],.fn (.func 32) [.ptr 1 0] []]) (fun (k,x,p,a,τ)=>⟨sl [(4,.ptr 0 0),(5,.ptr 1 0),(6,.ptr 2 0),(21,.i k)],τ,3⟩) (fun a=>3-a.1) (0,aA.zero,nT,eS 0,_) ⟨.inl ⟨rfl,rfl⟩,by simp [aB],by simp [aB,cQ,iL,eS,aA.zero,nT,hinf,aS],by simp [aB]⟩ (aH.slots (by simp [go_sem]) rfl rfl) ?_;rintro ⟨k,x,p,a,τ⟩ ⟨g1,g2,g3,g4⟩;have last:∀a,R=a→a.cs=[.i a.status,.t (.sl (aS a.text)),.i a.low,.i a.up,.t (.sl (aS a.cert))]:=fun a _=>rfl
 rcases g1 with ⟨rfl,rfl⟩ | ⟨rfl,e1,rfl,rfl⟩ | ⟨rfl,e1,e2,rfl,rfl,rfl⟩ | ⟨rfl,rfl⟩
 ·have hsp:=bA9 i o x p (eS 0) hi hi8 (σ:=τ) (nx:=3) (q:=1) (by decide) g3;by_cases e:(bI i).2=0
  ·rw [decide_eq_true e] at hsp;refine aI ?_;simp [go_sem,g4];refine aL rfl rfl rfl (args:=[.ptr 1 0]) (f:=30) (by simp [go_sem]) (by simp [go_sem,hB]) hsp ?_;refine aI ?_;simp [go_sem,aO 1 (by omega)];exact Next.mk (1,(bI i).1,p,eS 0,_) ⟨.inr (.inl ⟨rfl,e,rfl,rfl⟩),by simp [aB,g2],by simp [aB];rfl,by simp [aB,g4]⟩ (aH.slots (by simp [go_sem]) rfl rfl) (by simp only;omega)
  ·rw [decide_eq_false e] at hsp;rw [dD,if_pos e] at hR;subst hR;refine aI ?_;simp [go_sem,g4];refine aL rfl rfl rfl (args:=[.ptr 1 0]) (f:=30) (by simp [go_sem]) (by simp [go_sem,hB]) hsp ?_;refine aI ?_;simp [go_sem,g2,iL,eS,dA.a,dA.cs]
 ·have hsp:=aS2 i o (bI i).1 p (eS 0) ho ho8 (σ:=τ) (nx:=3) (q:=1) (by decide) g3;by_cases e:(cF o).2=0
  ·rw [decide_eq_true e] at hsp;refine aI ?_;simp [go_sem,g4];refine aL rfl rfl rfl (args:=[.ptr 1 0]) (f:=31) (by simp [go_sem]) (by simp [go_sem,hB]) hsp ?_;refine aI ?_;simp [go_sem,aO 2 (by omega)];exact Next.mk (2,(bI i).1,(cF o).1,eS 1,_) ⟨.inr (.inr (.inl ⟨rfl,e1,e,rfl,rfl,rfl⟩)),by simp [aB,g2],by simp [aB];rfl,by simp [aB,g4]⟩ (aH.slots (by simp [go_sem]) rfl rfl) (by simp only;omega)
  ·rw [decide_eq_false e] at hsp;rw [dD,if_neg (by simp [e1]),if_pos e] at hR;subst hR;refine aI ?_;simp [go_sem,g4];refine aL rfl rfl rfl (args:=[.ptr 1 0]) (f:=31) (by simp [go_sem]) (by simp [go_sem,hB]) hsp ?_;refine aI ?_;simp [go_sem,g2,iL,eS,dA.a,dA.cs]
 ·have hm:=vL i e1;have hop:=vJ o e2;have htd:=vR hl hm hop hw;have hsp:=bDK i o (bI i).1 (cF o).1 (eS 1) hl hw (fun h=>aD5 hl hm (htd.plan h)) (aN7 hl hw) (σ:=τ) (nx:=3) (q:=1) (by decide) g3;have hsol:(bI i).1.ans ((bI i).1.search (cF o).1) (eS 1)=dD i o:=by rw [dD,if_neg (by simp [e1]),if_neg (by simp [e2])]
  rw [hsol] at hsp;refine aI ?_;simp [go_sem,g4];refine aL rfl rfl rfl (args:=[.ptr 1 0]) (f:=32) (by simp [go_sem]) (by simp [go_sem,hB]) hsp ?_;refine aI ?_;simp [go_sem,aO 3 (by omega)];exact Next.mk (3,(bI i).1,(cF o).1,dD i o,_) ⟨.inr (.inr (.inr ⟨rfl,rfl⟩)),by simp [aB,g2],by simp [aB],by simp [aB,g4]⟩ (aH.slots (by simp [go_sem]) rfl rfl) (by simp only;omega)
 ·rw [hR] at g3;refine aI ?_;simp [go_sem,g2,g3,iL,dA.a,dA.cs]
end Go.Proofs.YtnoifgjiipgpoaaGreatDoor
