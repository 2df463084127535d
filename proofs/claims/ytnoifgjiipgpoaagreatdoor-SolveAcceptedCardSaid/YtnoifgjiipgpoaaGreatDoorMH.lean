/- Parts of the proof. -/
import Derived.Test.YtnoifgjiipgpoaaGreatDoorMG
set_option linter.all false
set_option maxHeartbeats 4000000
namespace Go.Proofs.YtnoifgjiipgpoaaGreatDoor
open Go Go.Proofs.YtnoifgjiipgpoaaGreatDoor.R
set_option maxRecDepth 4000
structure Wr (σ:Nat→aG) (nx q j:Nat) (e:Int) (l:List Nat):Prop where
 box:σ q= .box [.ref j,.i e]
 arr:σ j= .arr 1 (gF l)
 ne:j≠q
 ql:q<nx
 jl:j<nx
structure fT (σ:Nat→aG) (nx q j:Nat) (σ':Nat→aG) (nx':Nat) (e:Int) (l:List Nat):Prop where
 le:nx≤nx'
 wr:∃j',Wr σ' nx' q j' e l∧(j'=j∨nx≤j')
 old:∀i,i<nx→i≠q→i≠j→σ' i=σ i
theorem aZQ (m:Nat):sC .u8 (IntKind.u8.wrap m) 128=((m % 128+128:Nat):Int):=by
 have h:∀x:BitVec 8,(x|||128#8).toNat=x.toNat % 128+128:=by decide
 have e:IntKind.u8.wrap (m:Int)=((m % 256:Nat):Int):=by simp only [IntKind.wrap,IntKind.bits,IntKind.signed];simp
 have h2:=h (BitVec.ofInt 8 (IntKind.u8.wrap m));show IntKind.u8.wrap ((BitVec.ofInt 8 (IntKind.u8.wrap m)|||128#8).toNat:Int)=_;rw [h2,e,BitVec.ofInt_natCast,BitVec.toNat_ofNat,u8w _ (by omega)];omega
theorem fT.trans {σ σ' σ'':Nat→aG} {nx nx' nx'' q j j':Nat} {e e':Int} {l l':List Nat} (h:fT σ nx q j σ' nx' e l) (hw:Wr σ' nx' q j' e l) (hj:j'=j∨nx≤j') (k:fT σ' nx' q j' σ'' nx'' e' l'):fT σ nx q j σ'' nx'' e' l':=by
 refine ⟨Nat.le_trans h.le k.le,?_,fun i h1 h2 h3=>?_⟩
 ·obtain ⟨x,h1,h2⟩:=k.wr;refine ⟨x,h1,?_⟩;have:=h.le;rcases h2 with rfl | h2
  ·exact hj
  ·exact .inr (by omega)
 ·have:=h.le;rw [k.old i (by omega) h2 (by omega),h.old i h1 h2 h3]
theorem Wr.app {σ:Nat→aG} {nx q j:Nat} {e:Int} {l:List Nat} (h:Wr σ nx q j e l) (y:Nat):
  Wr (aB (aB (aB σ j .dead) nx (.arr 1 (gF l++[[.v (.int .u8 y)]]))) q (.box [.ref nx,.i e])) (nx+1) q nx e (l++[y])∧
  fT σ nx q j (aB (aB (aB σ j .dead) nx (.arr 1 (gF l++[[.v (.int .u8 y)]]))) q (.box [.ref nx,.i e])) (nx+1) e (l++[y]):=by
 obtain ⟨b1,b2,b3,b4,b5⟩:=h;have hnq:nx≠q:=by omega
 have hw:Wr (aB (aB (aB σ j .dead) nx (.arr 1 (gF l++[[.v (.int .u8 y)]]))) q (.box [.ref nx,.i e])) (nx+1) q nx e (l++[y]):=
  ⟨by simp [aB],by simp [aB,hnq,gF],by omega,by omega,by omega⟩
 refine ⟨hw,by omega,⟨nx,hw,.inr (Nat.le_refl _)⟩,fun i h1 h2 h3=>?_⟩;simp [aB,h2,h3,Nat.ne_of_lt h1]
theorem aPL {σ:Nat→aG} {nx q j:Nat} {e:Int} {l:List Nat} (h:Wr σ nx q j e l) (n:Nat) (hn:n<2^64) (hl:l.length+10≤bH):
  bN P 166 [.ptr q 0,.u n] σ nx fun r σ' nx'=>fT σ nx q j σ' nx' e (l++enc n):=by
 have hlen:=sG hn;refine cA Tryz.func166 rfl rfl (by simp [Tryz.f166]) fun B hn hnx hσ=>?_
 simp only [Tryz.f166] at hn ⊢
 refine aQS (α:=Nat×List Nat×Nat×(Nat→aG)×Nat) (fun x=>x.2.1++enc x.1=l++enc n∧x.1≤n∧(x.2.2.1=j∨nx≤x.2.2.1)∧fT σ nx q j x.2.2.2.1 x.2.2.2.2 e x.2.1∧Wr x.2.2.2.1 x.2.2.2.2 q x.2.2.1 e x.2.1)
  (fun x=>⟨sl [(0,.ptr q 0),(1,.u x.1)],x.2.2.2.1,x.2.2.2.2⟩) (fun x=>x.1) (n,l,j,σ,nx) ⟨rfl,Nat.le_refl _,.inl rfl,⟨Nat.le_refl _,⟨j,h,.inl rfl⟩,fun _ _ _ _=>rfl⟩,h⟩ (aH.keep (by simp [go_sem])) ?_
 rintro ⟨m,l',j',σ',nx'⟩ ⟨h1,h2,h0,h3,h4⟩;simp only at h1 h2 h3 h4 h0;have hl:l'.length+1≤bH:=by have h3:=congrArg List.length h1;have h4:=aUJ m;simp at h3;omega
 have b:=h4;obtain ⟨b1,b2,b3,b4,b5⟩:=b;have n1:q≠nx':=Nat.ne_of_lt b4;have n2:=b3.symm;refine bG hn 60 ?_;simp [go_sem];refine bU (fun h=>?_) (fun h=>?_)
 ·simp [go_sem,b1,b2,n1,n2,aHA,aBN,hl];rw [aZQ,Int.fdiv_eq_ediv_of_nonneg _ (by omega)];obtain ⟨g1,g2⟩:=h4.app (m % 128+128);refine Next.mk (m / 128,l'++[m % 128+128],nx',_,nx'+1) ⟨?_,?_,?_,h3.trans h4 h0 g2,g1⟩ (aH.same ?_ ?_ rfl) ?_
  ·rw [←h1,q9 (n:=m) (by omega)];simp
  ·simp only;omega
  ·exact .inr h3.le
  ·intro i;simp only [bC3,bC4];split
   ·subst_vars;exact .inr (by simp [go_sem])
   ·split
    ·subst_vars;exact .inr (by simp [go_sem])
    ·exact .inl rfl
  ·exact fun i=>.inr rfl
  ·simp only;omega
 ·simp [go_sem,b1,b2,n1,n2,aHA,aBN,hl];simp (disch:=omega) only [u8w];obtain ⟨g1,g2⟩:=h4.app m;refine ⟨by have:=h3.le;omega,?_⟩;rw [←h1,pF (by omega)];exact h3.trans h4 h0 g2
def un (n:Int):Nat:=(n % 18446744073709551616).toNat
theorem bG0 (n:Int):IntKind.u64.wrap n=(un n:Nat):=by simp only [IntKind.wrap,IntKind.bits,IntKind.signed,un];simp;omega
theorem aO7 (n:Int):un n<2^64:=by unfold un;omega
def gU (e n:Int):Int:=if n<0∧e=0 then 1 else e
def d9 (ns:List Int):List Nat:=ns.flatMap fun n=>enc (un n)
theorem aUH (a b:List Int):d9 (a++b)=d9 a++d9 b:=by simp [d9]
theorem oD (ns:List Int):(d9 ns).length≤10*ns.length:=by
 induction ns with
 |nil=>simp [d9]
 |cons n ns ih=>
  have h:=sG (aO7 n);have e:d9 (n :: ns)=enc (un n)++d9 ns:=by simp [d9]
  rw [e,List.length_append,List.length_cons];omega
theorem fT.refl {σ:Nat→aG} {nx q j:Nat} {e:Int} {l:List Nat} (h:Wr σ nx q j e l):fT σ nx q j σ nx e l:=⟨Nat.le_refl _,⟨j,h,.inl rfl⟩,fun _ _ _ _=>rfl⟩
theorem Wr.err {σ:Nat→aG} {nx q j:Nat} {e:Int} {l:List Nat} (h:Wr σ nx q j e l) (e':Int):
  Wr (aB σ q (.box [.ref j,.i e'])) nx q j e' l∧fT σ nx q j (aB σ q (.box [.ref j,.i e'])) nx e' l:=by
 obtain ⟨b1,b2,b3,b4,b5⟩:=h;have hw:Wr (aB σ q (.box [.ref j,.i e'])) nx q j e' l:=⟨by simp [aB],by simp [aB,b3,b2],b3,b4,b5⟩;exact ⟨hw,Nat.le_refl _,⟨j,hw,.inl rfl⟩,fun i _ h2 _=>by simp [aB,h2]⟩
theorem zD {σ:Nat→aG} {nx q j:Nat} {e:Int} {l:List Nat} (h:Wr σ nx q j e l) (ns:List Int) (hl:l.length+10*ns.length+10≤bH):
  bN P 111 [.ptr q 0,.fsl (aJ ns)] σ nx fun r σ' nx'=>fT σ nx q j σ' nx' (ns.foldl gU e) (l++d9 ns):=by
 refine cA Tryz.func111 rfl rfl (by simp [Tryz.f111]) fun B hn hnx hσ=>?_
 simp only [Tryz.f111] at hn ⊢;refine bG hn 60 ?_;simp [go_sem]
 refine bA (α:=Nat×Nat×(Nat→aG)×Nat×List Nat) (fun x=>x.1≤ns.length∧x.2.2.2.2=l++d9 (ns.take x.1)∧(x.2.1=j∨nx≤x.2.1)∧fT σ nx q j x.2.2.1 x.2.2.2.1 ((ns.take x.1).foldl gU e) x.2.2.2.2∧Wr x.2.2.1 x.2.2.2.1 q x.2.1 ((ns.take x.1).foldl gU e) x.2.2.2.2)
  (fun x=>⟨sl [(0,.ptr q 0),(6,.fsl (aJ ns)),(7,.i ns.length),(8,.i x.1)],x.2.2.1,x.2.2.2.1⟩) (fun x=>ns.length-x.1) (0,j,σ,nx,l) ⟨Nat.zero_le _,by simp [d9],.inl rfl,fT.refl h,h⟩ (aH.keep (by simp [go_sem,aJ])) ?_
 rintro ⟨k,j',σ',nx',l'⟩ ⟨h1,h2,h0,h3,h4⟩;simp only at h1 h2 h3 h4 h0;generalize he':(ns.take k).foldl gU e=e' at h3 h4;have b:=h4;obtain ⟨b1,b2,b3,b4,b5⟩:=b;refine bG hn 60 ?_;simp [go_sem];refine bU (fun h=>?_) (fun h=>?_)
 ·have hcase:∃σ1,Wr σ1 nx' q j' (gU e' ns[k]) l'∧fT σ' nx' q j' σ1 nx' (gU e' ns[k]) l'∧σ1=(if ns[k]<0∧e'=0 then aB σ' q (.box [.ref j',.i 1]) else σ'):=by
   by_cases hc:ns[k]<0∧e'=0
   ·exact ⟨_,by simp only [gU,if_pos hc];exact (h4.err 1).1,by simp only [gU,if_pos hc];exact (h4.err 1).2,by rw [if_pos hc]⟩
   ·exact ⟨_,by simp only [gU,if_neg hc];exact h4,by simp only [gU,if_neg hc];exact fT.refl h4,by rw [if_neg hc]⟩
  obtain ⟨σ1,g1,g2,g3⟩:=hcase;by_cases hneg:ns[k]<0<;>by_cases he0:e'=0<;>simp [hneg,he0] at g3<;>subst g3<;>simp [go_sem,b1,aJ,h,hneg,he0]
  all_goals
   have hlen:l'.length+10≤bH:=by have h5:=oD (ns.take k);have h6:=congrArg List.length h2;simp only [List.length_append,List.length_take] at h5 h6;omega
   refine dX rfl rfl rfl (args:=[.ptr q 0,.u (un ns[k])]) (f:=166) (by simp [go_sem,bG0]) (by simp [go_sem,hn]) (aPL g1 _ (aO7 _) hlen) ?_;intro r σ2 nx2 g;obtain ⟨j2,w2,hj2⟩:=g.wr;refine bG hn 20 ?_;simp [go_sem];have e1:(ns.take (k+1)).foldl gU e=gU e' ns[k]:=by rw [List.take_succ_eq_append_getElem h,List.foldl_append,he'];rfl
   refine Next.mk (k+1,j2,σ2,nx2,l'++enc (un ns[k])) ⟨by simp only;omega,?_,?_,?_,by simp only [e1];exact w2⟩ (aH.slots ?_ rfl rfl) (by simp only;omega)
   ·simp only [h2];rw [List.take_succ_eq_append_getElem h,aUH];simp [d9]
   ·have:=h3.le;rcases hj2 with rfl | hj2
    ·exact h0
    ·exact .inr (by simp only;omega)
   ·simp only [e1];have g5:=h3.trans h4 h0 (g2.trans g1 (.inl rfl) g);exact g5
   ·have hm:bH=4294967296:=rfl;simp [go_sem];rw [aO _ (by omega)]
 ·simp [go_sem];refine ⟨h3.le,?_⟩;have hk:k=ns.length:=by omega
  subst hk;rw [List.take_length] at he' h2;rw [he',←h2];exact h3
theorem Wr.pre {σ σ1:Nat→aG} {nx nx1 q j:Nat} {e:Int} {l:List Nat} (h:Wr σ nx q j e l) (hle:nx≤nx1) (hf:∀i,i<nx→σ1 i=σ i):Wr σ1 nx1 q j e l:=by obtain ⟨b1,b2,b3,b4,b5⟩:=h;exact ⟨by rw [hf _ b4];exact b1,by rw [hf _ b5];exact b2,b3,by omega,by omega⟩
theorem fT.pre {σ σ1 σ2:Nat→aG} {nx nx1 nx2 q j:Nat} {e:Int} {l:List Nat} (h:fT σ1 nx1 q j σ2 nx2 e l) (hle:nx≤nx1) (hf:∀i,i<nx→σ1 i=σ i):fT σ nx q j σ2 nx2 e l:=by obtain ⟨h1,⟨j',h2,h3⟩,h4⟩:=h;exact ⟨by omega,⟨j',h2,h3.imp id fun h=>by omega⟩,fun i a b c=>by rw [h4 i (by omega) b c,hf i a]⟩
theorem aBU {σ:Nat→aG} {nx q j:Nat} {e:Int} {l:List Nat} (h:Wr σ nx q j e l) (n:Nat) (hn:n≤1048576) (hl:l.length+20≤bH):
  bN P 112 [.ptr q 0,.i n] σ nx fun r σ' nx'=>fT σ nx q j σ' nx' e (l++d9 [(n:Int)]):=by
 refine cA Tryz.func112 rfl rfl (by simp [Tryz.f112]) fun B hB hnx hσ=>?_
 simp only [Tryz.f112] at hB ⊢;have h0:¬(1048576:Int)<n:=by omega
 refine aI ?_;simp [go_sem,h0];refine dX rfl rfl rfl (args:=[.ptr q 0,.fsl (aJ [(n:Int)])]) (f:=111) (by simp [go_sem,aJ]) (by simp [go_sem,hB]) (zD h [(n:Int)] (by simp;omega)) ?_;intro r σ2 nx2 g;refine bG hB 20 ?_;simp [go_sem];have e1:[(n:Int)].foldl gU e=e:=by simp [gU];omega
 rw [e1] at g;exact ⟨g.le,g⟩
structure bP where
 at_:Int
 car:Int
 time:Int
 load:Int
 first:Int
 must:Nat
 may:Nat
 on:Nat
 cost:Int
 part:Int
def bP.t (s:bP):List T:=[.i s.at_,.i s.car,.i s.time,.i s.load,.i s.first,.v (.int .u64 s.must),.v (.int .u64 s.may),.v (.int .u64 s.on),.i s.cost,.i s.part]
def bP.ok (s:bP):Prop:=s.must<2^64∧s.may<2^64∧s.on<2^64
def bP.enc (s:bP):List Nat:=d9 [s.at_,s.car,s.time,s.load,s.first]++Go.Proofs.YtnoifgjiipgpoaaGreatDoor.enc s.must++Go.Proofs.YtnoifgjiipgpoaaGreatDoor.enc s.may++Go.Proofs.YtnoifgjiipgpoaaGreatDoor.enc s.on++d9 [s.cost,s.part]
def bP.err (e:Int) (s:bP):Int:=[s.at_,s.car,s.time,s.load,s.first,s.cost,s.part].foldl gU e
theorem kE {σ:Nat→aG} {i j:Nat} {o:aG} (h:i≠j):aB σ j o i=σ i:=by simp [aB,h]
theorem qW {σ:Nat→aG} {j:Nat} {o:aG}:aB σ j o j=o:=by simp [aB]
theorem Wr.not {σ:Nat→aG} {nx q j k:Nat} {e:Int} {l:List Nat} {cs:List AV} (h:Wr σ nx q j e l) (hk:σ k= .box cs):k≠j:=by rintro rfl;rw [h.arr] at hk;cases hk
theorem bDV {σ:Nat→aG} {nx q j:Nat} {e:Int} {l:List Nat} (h:Wr σ nx q j e l) (s:bP) (hs:s.ok) (hl:l.length+200≤bH):
  bN P 113 [.ptr q 0,.agg (s.t.map .t)] σ nx fun r σ' nx'=>fT σ nx q j σ' nx' (s.err e) (l++s.enc):=by
 have hql:=h.ql;have hjl:=h.jl;refine cA Tryz.func113 rfl rfl (by simp [Tryz.f113]) fun B hB hnx hσ=>?_
 simp only [Tryz.f113] at hB ⊢;refine aI ?_;simp [go_sem,bP.t]
 refine dX rfl rfl rfl (args:=[.ptr q 0,.fsl (aJ [s.at_,s.car,s.time,s.load,s.first])]) (f:=111) (by simp [go_sem,aJ]) (by simp [go_sem,hB]) (zD (h.pre (by simp only;omega) (fun i hi=>by
  dsimp only
  rw [kE (by omega),kE (by omega),kE (by omega)])) [s.at_,s.car,s.time,s.load,s.first] (by simp;omega)) ?_
 intro r σ2 nx2 g;dsimp only at g;have hnx2:=g.le;have c1:=g.old nx (by omega) (by omega) (by omega);have c2:=g.old (nx+1) (by omega) (by omega) (by omega);rw [kE (by omega),kE (by omega),qW] at c1;rw [qW] at c2;have g0:=g.pre (σ:=σ) (nx:=nx) (by omega) (fun i hi=>by rw [kE (by omega),kE (by omega),kE (by omega)]);have hl1:=oD [s.at_,s.car,s.time,s.load,s.first];simp only [List.length_cons,List.length_nil] at hl1;generalize hl':l++d9 [s.at_,s.car,s.time,s.load,s.first]=l1 at g g0;have hl1':l1.length≤l.length+50:=by rw [←hl',List.length_append];omega
 generalize he':[s.at_,s.car,s.time,s.load,s.first].foldl gU e=e1 at g g0;obtain ⟨j2,w2,hj2⟩:=g0.wr;clear g;refine aI ?_;simp [go_sem,c2]
 refine bA (α:=Nat×Nat×(Nat→aG)×Nat×List Nat) (fun x=>x.1≤3∧x.2.2.2.2=l1++([s.must,s.may,s.on].take x.1).flatMap enc∧(x.2.1=j∨nx≤x.2.1)∧fT σ nx q j x.2.2.1 x.2.2.2.1 e1 x.2.2.2.2∧Wr x.2.2.1 x.2.2.2.1 q x.2.1 e1 x.2.2.2.2∧x.2.2.1 nx= .box (s.t.map .t)∧nx<x.2.2.2.1∧x.2.2.2.2.length≤l1.length+10*x.1)
  (fun x=>⟨sl [(0,.ptr q 0),(3,.ptr nx 0),(28,.agg [.t (.v (.int .u64 s.must)),.t (.v (.int .u64 s.may)),.t (.v (.int .u64 s.on))]),(29,.i x.1)],x.2.2.1,x.2.2.2.1⟩) (fun x=>3-x.1) (0,j2,σ2,nx2,l1) ⟨Nat.zero_le _,by simp,hj2,g0,w2,by show σ2 nx=_;rw [c1];rfl,by show nx<nx2;omega,by simp⟩ (aH.slots (by simp [go_sem]) rfl rfl) ?_
 rintro ⟨k,j',σ',nx',l'⟩ ⟨h1,h2,h0,h3,h4,h5,h6,h7⟩;simp only at h1 h2 h3 h4 h0 h5 h6 h7;refine aI ?_;simp [go_sem];refine bU (fun hk=>?_) (fun hk=>?_)
 ·obtain ⟨u,hu,hu1,hu2⟩:∃u:Nat,([AV.t (T.v (Value.int .u64 s.must)),AV.t (.v (.int .u64 s.may)),AV.t (.v (.int .u64 s.on))]:List AV)[k]? =some (.u u)∧[s.must,s.may,s.on].take (k+1)=[s.must,s.may,s.on].take k++[u]∧u<2^64:=by
   rcases (by omega:k=0∨k=1∨k=2) with rfl | rfl | rfl
   ·exact ⟨_,rfl,rfl,hs.1⟩
   ·exact ⟨_,rfl,rfl,hs.2.1⟩
   ·exact ⟨_,rfl,rfl,hs.2.2⟩
  have hk3:k<3:=by omega
  simp [go_sem,hk,hu];refine dX rfl rfl rfl (args:=[.ptr q 0,.u u]) (f:=166) (by simp [go_sem]) (by simp [go_sem,hB]) (aPL h4 u hu2 (by omega)) ?_;intro r σ3 nx3 g;have hn3:=g.le;obtain ⟨j3,w3,hj3⟩:=g.wr;have o3:=g.old nx h6 (by omega) (h4.not h5);have he:=sG hu2;refine bG hB 20 ?_;simp [go_sem];refine Next.mk (k+1,j3,σ3,nx3,l'++enc u) ⟨by simp only;omega,?_,?_,h3.trans h4 h0 g,w3,by simp only;rw [o3,h5],by simp only;omega,by simp only [List.length_append];omega⟩ (aH.slots ?_ rfl rfl) (by simp only;omega)
  ·simp only [h2,hu1];simp
  ·have:=h3.le;rcases hj3 with rfl | hj3
   ·exact h0
   ·exact .inr (by simp only;omega)
  ·simp [go_sem];rw [aO _ (by omega)]
 ·have hk3:k=3:=by omega
  subst hk3;have hl2:l'=l1++(enc s.must++enc s.may++enc s.on):=by rw [h2];simp
  simp [go_sem,h5,bP.t];refine dX rfl rfl rfl (args:=[.ptr q 0,.fsl (aJ [s.cost,s.part])]) (f:=111) (by simp [go_sem,aJ]) (by simp [go_sem,hB]) (zD h4 [s.cost,s.part] (by simp;omega)) ?_;intro r σ3 nx3 g;refine bG hB 20 ?_;simp [go_sem];have g5:=h3.trans h4 h0 g;refine ⟨g5.le,?_⟩;have e1:s.err e=[s.cost,s.part].foldl gU e1:=by rw [←he'];rfl
  have e2:l++s.enc=l'++d9 [s.cost,s.part]:=by rw [hl2,←hl'];simp [bP.enc]
  rw [e1,e2];exact g5
abbrev lI:=List bP
abbrev jP:=List lI
structure cM where
 least:Int
 parts:List jP
def iQ (l:lI):T:=.sl (l.map bP.t)
def fA (p:jP):List T:=[.sl (p.map fun l=>[iQ l])]
def cM.a (p:cM):AV:=.agg [.t (.i p.least),.t (.sl (p.parts.map fA))]
def oG (l:lI):List Nat:=d9 [(l.length:Int)]++l.flatMap bP.enc
def mS (p:jP):List Nat:=d9 [(p.length:Int)]++p.flatMap oG
def cM.enc (p:cM):List Nat:=[72,76,82,49]++d9 [p.least]++d9 [(p.parts.length:Int)]++p.parts.flatMap mS
def cM.spots (p:cM):List bP:=p.parts.flatten.flatten
def cM.err (p:cM):Int:=p.spots.foldl bP.err (gU 0 p.least)
structure cM.ok (p:cM):Prop where
 parts:p.parts.length≤1048576
 layers:∀q∈p.parts,q.length≤1048576
 spots:∀q∈p.parts,∀l∈q,l.length≤1048576
 num:∀q∈p.parts,∀l∈q,∀s∈l,s.ok
theorem aUL (p:cM) (hp:p.ok) (hl:p.enc.length+1000≤bH):Pure P 65 [p.a] (.tup (if p.err=0 then [.t (.sl (gF p.enc)),.i 0] else [.t (.sl []),.i p.err])):=by
 refine aW Tryz.func65 rfl rfl (by simp [Tryz.f65]) (by simp [aE,aE.bndL,cM.a]) (by split<;>simp [aE,aE.bndL]) fun B hB hnx=>?_
 simp only [Tryz.f65] at hB ⊢;refine bG hB 8 ?_;simp [go_sem,cM.a];refine aP4 (es:=gF [72,76,82,49]) rfl rfl rfl rfl rfl tR rfl wI rfl (by simp [go_sem,gF]) (by simp [go_sem,hB]) (by simp [go_sem,hB]) ?_;refine aI ?_;simp [go_sem]
 have w0:Wr (aB (aB (aB dR 0 (.box [.t (.i p.least),.t (.sl (p.parts.map fA))])) 1 (.arr 1 (gF [72,76,82,49]))) 2 (.box [.ref 1,.i 0])) 3 2 1 0 [72,76,82,49]:=
  ⟨by simp [aB],by simp [aB],by omega,by omega,by omega⟩
 have hm:bH=4294967296:=rfl;refine dX rfl rfl rfl (args:=[.ptr 2 0,.fsl (aJ [p.least])]) (f:=111) (by simp [go_sem,aJ]) (by simp [go_sem,hB]) (zD w0 [p.least] (by simp;omega)) ?_;intro r1 σ1 nx1 g1;have c1:=g1.old 0 (by omega) (by omega) (by omega);rw [kE (by omega),kE (by omega),qW] at c1;obtain ⟨j1,w1,hj1⟩:=g1.wr;have hn1:=g1.le;have hl1:=oD [p.least];simp only [List.length_cons,List.length_nil] at hl1;refine aI ?_;simp [go_sem,c1];refine dX rfl rfl rfl (args:=[.ptr 2 0,.i (p.parts.length:Nat)]) (f:=112) (by simp [go_sem]) (by simp [go_sem,hB]) (aBU w1 p.parts.length hp.parts (by simp;omega)) ?_;intro r2 σ2 nx2 g2;have c2:=g2.old 0 (by omega) (by omega) (w1.not c1);rw [c1] at c2;obtain ⟨j2,w2,hj2⟩:=g2.wr;have hn2:=g2.le;refine aI ?_;simp [go_sem,c2]
 refine bA (α:=Nat×Nat×(Nat→aG)×Nat×List Nat×Int) (fun (k,j,σ,nx,l,e)=>k≤p.parts.length∧l++(p.parts.drop k).flatMap mS=p.enc∧((p.parts.drop k).flatten.flatten).foldl bP.err e=p.err∧Wr σ nx 2 j e l)
  (fun (k,j,σ,nx,l,e)=>⟨sl [(4,.ptr 2 0),(26,.t (.sl (p.parts.map fA))),(27,.i p.parts.length),(28,.i k)],σ,nx⟩) (fun x=>p.parts.length-x.1) (0,j2,σ2,nx2,_,_) ⟨Nat.zero_le _,by simp [cM.enc],by simp [cM.err,cM.spots],w2⟩ (aH.slots (by simp [go_sem]) rfl rfl) ?_
 rintro ⟨k,j,σ,nx,l,e⟩ ⟨h1,h2,h3,h4⟩;have hk64:p.parts.length≤1048576:=hp.parts;refine aI ?_;simp [go_sem];refine bU (fun hk=>?_) (fun hk=>?_)
 ·have hd:p.parts.drop k=p.parts[k] :: p.parts.drop (k+1):=by rw [List.drop_eq_getElem_cons hk]
  have hq:=hp.layers _ (List.getElem_mem hk);have hpl:(fA p.parts[k]).length=1:=rfl;simp [go_sem,hk,hpl];simp [go_sem,fA]
  refine dX rfl rfl rfl (args:=[.ptr 2 0,.i (p.parts[k].length:Nat)]) (f:=112) (by simp [go_sem]) (by simp [go_sem,hB]) (aBU (h4.pre (nx1:=nx+1) (by omega) (fun i hi=>by
   dsimp only
   rw [kE (by omega),kE (by omega)])) p.parts[k].length hq ?_) ?_
  ·have:=congrArg List.length h2;simp at this;omega
  intro r3 σ3 nx3 g3;dsimp only at g3;have c3:=g3.old nx (by omega) (by have:=h4.ql;omega) (by have:=h4.jl;omega);rw [qW] at c3;obtain ⟨j3,w3,_⟩:=g3.wr;generalize hq':p.parts[k]=q at *;generalize hrest:p.parts.drop (k+1)=rest at *;refine aI ?_;simp [go_sem,c3]
  refine bA (α:=Nat×Nat×(Nat→aG)×Nat×List Nat×Int) (fun (i,j,σ,nx,l,e)=>i≤q.length∧l++(q.drop i).flatMap oG++rest.flatMap mS=p.enc∧((q.drop i).flatten++rest.flatten.flatten).foldl bP.err e=p.err∧Wr σ nx 2 j e l)
   (fun (i,j,σ,nx,l,e)=>⟨sl [(4,.ptr 2 0),(26,.t (.sl (p.parts.map fA))),(27,.i p.parts.length),(28,.i k),(38,.t (.sl (q.map fun l=>[iQ l]))),(39,.i q.length),(40,.i i)],σ,nx⟩) (fun x=>q.length-x.1) (0,j3,σ3,nx3,_,_)
   ⟨Nat.zero_le _,by rw [←h2,hd];simp [mS],by rw [←h3,hd];simp,w3⟩ (aH.slots (by simp [go_sem]) rfl rfl) ?_
  rintro ⟨i,j,σ,nx,l,e⟩ ⟨i1,i2,i3,i4⟩;refine aI ?_;simp [go_sem];refine bU (fun hi=>?_) (fun hi=>?_)
  ·have hdi:q.drop i=q[i] :: q.drop (i+1):=by rw [List.drop_eq_getElem_cons hi]
   have hmq:q∈p.parts:=by rw [←hq'];exact List.getElem_mem _
   have hly:=hp.spots _ hmq _ (List.getElem_mem hi);simp [go_sem,hi,iQ];refine dX rfl rfl rfl (args:=[.ptr 2 0,.i (q[i].length:Nat)]) (f:=112) (by simp [go_sem]) (by simp [go_sem,hB]) (aBU i4 q[i].length hly ?_) ?_
   ·have:=congrArg List.length i2;simp at this;omega
   intro r5 σ5 nx5 g5;obtain ⟨j5,w5,_⟩:=g5.wr;generalize hy':q[i]=y at *;generalize hrest2:q.drop (i+1)=rest2 at *;refine aI ?_;simp [go_sem]
   refine bA (α:=Nat×Nat×(Nat→aG)×Nat×List Nat×Int) (fun (m,j,σ,nx,l,e)=>m≤y.length∧l++(y.drop m).flatMap bP.enc++rest2.flatMap oG++rest.flatMap mS=p.enc∧(y.drop m++rest2.flatten++rest.flatten.flatten).foldl bP.err e=p.err∧Wr σ nx 2 j e l)
    (fun (m,j,σ,nx,l,e)=>⟨sl [(4,.ptr 2 0),(26,.t (.sl (p.parts.map fA))),(27,.i p.parts.length),(28,.i k),(38,.t (.sl (q.map fun l=>[iQ l]))),(39,.i q.length),(40,.i i),(48,.t (.sl (y.map bP.t))),(49,.i y.length),(50,.i m)],σ,nx⟩) (fun x=>y.length-x.1) (0,j5,σ5,nx5,_,_)
    ⟨Nat.zero_le _,by rw [←i2,hdi];simp [oG],by rw [←i3,hdi];simp,w5⟩ (aH.slots (by simp [go_sem,iQ]) rfl rfl) ?_
   rintro ⟨m,j,σ,nx,l,e⟩ ⟨m1,m2,m3,m4⟩;refine aI ?_;simp [go_sem];refine bU (fun hm'=>?_) (fun hm'=>?_)
   ·have hdm:y.drop m=y[m] :: y.drop (m+1):=by rw [List.drop_eq_getElem_cons hm']
    have hmy:y∈q:=by rw [←hy'];exact List.getElem_mem _
    have hsp:=hp.num _ hmq _ hmy _ (List.getElem_mem hm');simp [go_sem,hm',bP.t];have hm64:m+1≤1048576:=by omega
    generalize hs':y[m]=s at *
    refine dX rfl rfl rfl (args:=[.ptr 2 0,.agg (s.t.map .t)]) (f:=113) (by simp [go_sem,aB,bP.t]) (by simp [go_sem,hB]) (bDV (m4.pre (nx1:=nx+1) (by omega) (fun i hi=>by
     dsimp only
     rw [kE (by omega),kE (by omega)])) s hsp ?_) ?_
    ·have:=congrArg List.length m2;simp at this;omega
    intro r7 σ7 nx7 g7;obtain ⟨j7,w7,_⟩:=g7.wr;refine bG hB 20 ?_;simp [go_sem]
    refine Next.mk (m+1,j7,σ7,nx7,l++s.enc,s.err e) ⟨by omega,?_,?_,w7⟩ (aH.slots (by
     simp [go_sem]
     rw [aO _ (by omega)]) rfl rfl) (by simp only;omega)
    ·rw [←m2,hdm];simp
    ·rw [←m3,hdm];simp
   ·have:m=y.length:=by omega
    subst this;simp [go_sem]
    refine Next.mk (i+1,j,σ,nx,l,e) ⟨by omega,?_,?_,m4⟩ (aH.slots (by
     simp [go_sem,iQ]
     rw [aO _ (by omega)]) rfl rfl) (by simp only;omega)
    ·rw [←m2,hrest2];simp
    ·rw [←m3,hrest2];simp
  ·have:i=q.length:=by omega
   subst this;simp [go_sem]
   refine Next.mk (k+1,j,σ,nx,l,e) ⟨by omega,?_,?_,i4⟩ (aH.slots (by
     simp [go_sem]
     rw [aO _ (by omega)]) rfl rfl) (by simp only;omega)
   ·rw [←i2,hrest];simp
   ·rw [←i3,hrest];simp
 ·have:k=p.parts.length:=by omega
  subst this;have b:=h4;obtain ⟨b1,b2,b3,b4,b5⟩:=b;have e1:e=p.err:=by rw [←h3];simp
  have e2:l=p.enc:=by rw [←h2];simp
  simp [go_sem,b1];refine bU (fun he=>?_) (fun he=>?_)
  ·simp [go_sem,b1,b2,←e1,he,e2]
  ·simp [go_sem];refine bK [] rfl (by rw [hB];kernel_rfl) ?_;refine bG hB 40 ?_;simp [go_sem,b1,←e1,he]
abbrev cJ (l:List Nat) (e:Int):aG:=.box [.t (.sl (gF l)),.i e]
theorem uU {σ:Nat→aG} {q:Nat} {a b:aG}:aB (aB σ q a) q b=aB σ q b:=by funext i;simp only [aB];split<;>rfl
theorem aHJ {σ:Nat→aG} {q:Nat} {a:aG} (h:σ q=a):aB σ q a=σ:=by
 funext i;simp only [aB];split
 ·subst_vars;rfl
 ·rfl
def eR (e x:Int):Int:=if e=0 then x else e
theorem nH {σ:Nat→aG} {nx q:Nat} {l:List Nat} {e:Int} (h:σ q=cJ l e) (x:Int):aT P 98 [.ptr q 0,.i x] σ nx (.tup []) (aB σ q (cJ l (eR e x))) nx:=by
 refine (cA Tryz.func98 rfl rfl (by simp [Tryz.f98]) fun B hB hnx hσ=>?_).spec;simp only [Tryz.f98] at hB ⊢;by_cases he:e=0
 ·refine aI ?_;simp [go_sem,h,he,eR]
 ·refine aI ?_;simp [go_sem,h,he,eR];exact (aHJ h).symm
def bM (l:List Nat) (e:Int):Nat×List Nat×Int:=match l with
 |[]=>(0,[],eR e 3)
 |c :: r=>if e=0 then (c,r,0) else (0,c :: r,e)
theorem sX {σ:Nat→aG} {nx q:Nat} {l:List Nat} {e:Int} (h:σ q=cJ l e) (hl:l.length<2^63):aT P 97 [.ptr q 0] σ nx (.t (.v (.int .u8 (bM l e).1))) (aB σ q (cJ (bM l e).2.1 (bM l e).2.2)) nx:=by
 refine (cA Tryz.func97 rfl rfl (by simp [Tryz.f97]) fun B hB hnx hσ=>?_).spec;simp only [Tryz.f97] at hB ⊢;cases l with
 |nil=>
  refine aI ?_;simp [go_sem,h,gF];refine aL rfl rfl rfl (args:=[.ptr q 0,.i 3]) (f:=98) (by simp [go_sem]) (by simp [go_sem,hB]) (nH (l:=[]) h 3) ?_;have hne:eR e 3≠0:=by unfold eR;split<;>omega
  refine aI ?_;simp [go_sem,hne,bM,gF]
 |cons c r=>
  have hn:¬((r.length:Int)+1=0):=by omega
  have hn1:(1:Int)≤(r.length:Int)+1:=by omega
  by_cases he:e=0
  ·refine aI ?_;simp [go_sem,h,gF,he,hn,hn1,bM];rfl
  ·refine aI ?_;simp [go_sem,h,gF,he,hn,bM];exact (aHJ h).symm
theorem vH (l:List Nat) (e:Int):(bM l e).2.1.length≤l.length:=by
 unfold bM;split
 ·simp
 ·split<;>simp
theorem pS {l:List Nat} (h:∀c∈l,c<256) (e:Int):(bM l e).1<256∧∀c∈(bM l e).2.1,c<256:=by
 unfold bM;split
 ·simp
 ·rename_i c r;split
  ·exact ⟨h c List.mem_cons_self,fun x hx=>h x (List.mem_cons_of_mem _ hx)⟩
  ·exact ⟨by omega,h⟩
def iN (n shift c:Nat) (l:List Nat) (e:Int):Nat×List Nat×Int:=
 if e≠0 then (0,l,e)
 else if (0<shift∧c=0)∨(shift=63∧1<c) then (0,l,2)
 else if 128≤c∧shift<63 then
  iN (n|||(c % 128*2^shift % 2^64)) (shift+7) (bM l e).1 (bM l e).2.1 (bM l e).2.2
 else (n|||(c % 128*2^shift % 2^64),l,e)
  termination_by 70-shift
  decreasing_by omega
def wide (l:List Nat) (e:Int):Nat×List Nat×Int:=iN 0 0 (bM l e).1 (bM l e).2.1 (bM l e).2.2
theorem bA8 (n c sh:Nat) (hn:n<2^64):sC .u64 n (IntKind.u64.wrap (IntKind.u64.wrap ((c:Int).tmod 128)*2^sh))=((n|||c % 128*2^sh % 2^64:Nat):Int):=by
 have e1:IntKind.u64.wrap ((c:Int).tmod 128)=((c % 128:Nat):Int):=by rw [Int.tmod_eq_emod_of_nonneg (by omega),u64 _ (by omega)];omega
 have e2:IntKind.u64.wrap (((c % 128:Nat):Int)*2^sh)=((c % 128*2^sh % 2^64:Nat):Int):=by
  have e0:∀x:Int,IntKind.u64.wrap x=x % 18446744073709551616:=fun x=>by simp only [IntKind.wrap,IntKind.bits,IntKind.signed];simp
  have e5:((c % 128*2^sh % 2^64:Nat):Int)=((c % 128:Nat):Int)*2^sh % 18446744073709551616:=by rw [Int.natCast_emod,Int.natCast_mul,Int.natCast_pow];rfl
  rw [e0,e5]
 rw [e1,e2];have h2:c % 128*2^sh % 2^64<2^64:=Nat.mod_lt _ (by omega);generalize c % 128*2^sh % 2^64=m at h2;show IntKind.u64.wrap ((BitVec.ofInt 64 n|||BitVec.ofInt 64 m).toNat:Int)=_;rw [BitVec.ofInt_natCast,BitVec.ofInt_natCast,BitVec.toNat_or,BitVec.toNat_ofNat,BitVec.toNat_ofNat,Nat.mod_eq_of_lt hn,Nat.mod_eq_of_lt h2];have h3:n|||m<2^64:=Nat.or_lt_two_pow hn h2
 exact u64 _ (by omega)
theorem aAF {σ:Nat→aG} {nx q:Nat} {l:List Nat} {e:Int} (h:σ q=cJ l e) (hq:q<nx) (hl:l.length<2^63) (h8:∀c∈l,c<256):aT P 144 [.ptr q 0] σ nx (.u (wide l e).1) (aB σ q (cJ (wide l e).2.1 (wide l e).2.2)) nx:=by
 refine (cA Tryz.func144 rfl rfl (by simp [Tryz.f144]) fun B hB hnx hσ=>?_).spec;simp only [Tryz.f144] at hB ⊢;refine bG hB 150 ?_;simp [go_sem]
 refine qP (α:=Nat×Nat×Nat×List Nat×Int) 0 (fun (n,sh,c,l',e')=>n<2^64∧c<256∧(sh≤63∧sh % 7=0)∧l'.length<2^63∧(∀c∈l',c<256)∧iN n sh c l' e'=wide l e)
  (fun (n,sh,c,l',e')=>⟨sl [(0,.ptr q 0),(2,.u 0),(3,.u n),(4,.i sh),(5,.t (.v (.int .u8 c)))],aB σ q (cJ l' e'),nx⟩) (fun x=>70-x.2.1) rfl ?_ ?_
 ·rintro ⟨n,sh,c,l',e'⟩ ⟨h1,h2,⟨h3,h37⟩,h4,h5,h6⟩;by_cases he:e'=0
  ·subst he;have hq':(aB σ q (cJ l' 0)) q=cJ l' 0:=qW;rw [iN,if_neg (by simp)] at h6;by_cases hbad:(0<sh∧c=0)∨(sh=63∧1<c)
   ·rw [if_pos hbad] at h6;rcases hbad with ⟨g1,g2⟩ | ⟨g1,g2⟩
    ·subst g2;refine bG hB 150 ?_;simp [go_sem,g1];refine aL rfl rfl rfl (args:=[.ptr q 0,.i 2]) (f:=98) (by simp [go_sem]) (by simp [go_sem,hB]) (nH hq' 2) ?_;refine bG hB 20 ?_;simp [go_sem,←h6,eR,uU]
    ·have g3:¬c=0:=by omega
     have g4:(1:Int)<c:=by omega
     refine bG hB 150 ?_;simp [go_sem,g1,g4,g3];refine aL rfl rfl rfl (args:=[.ptr q 0,.i 2]) (f:=98) (by simp [go_sem]) (by simp [go_sem,hB]) (nH hq' 2) ?_;refine bG hB 20 ?_;simp [go_sem,←h6,eR,uU]
   ·rw [if_neg hbad] at h6;have hlen:=vH l' 0;have hs0:¬((sh:Int)<0):=by omega
    have hmin:min sh 64=sh:=by omega
    have hor:=bA8 n c sh h1;have hor2:n|||c % 128*2^sh % 2^64<2^64:=Nat.or_lt_two_pow h1 (Nat.mod_lt _ (by omega))
    have hnu:=pS h5 0;by_cases h128:(128:Int)≤c
    ·have hsh:sh<63:=by omega
     rw [if_pos ⟨by omega,hsh⟩] at h6;have g3:¬c=0:=by omega
     have g2:¬(sh:Int)=63:=by omega
     by_cases g1:0<sh
     all_goals
      refine bG hB 150 ?_;simp [go_sem,g1,g2,g3,h128,hs0,hmin,hor];refine aL rfl rfl rfl (args:=[.ptr q 0]) (f:=97) (by simp [go_sem]) (by simp [go_sem,hB]) (sX hq' h4) ?_;refine bG hB 20 ?_;simp [go_sem,uU]
      refine Next.mk (n|||c % 128*2^sh % 2^64,sh+7,(bM l' 0).1,(bM l' 0).2.1,(bM l' 0).2.2) ⟨hor2,hnu.1,⟨by show sh+7≤63;omega,by show (sh+7) % 7=0;omega⟩,Nat.lt_of_le_of_lt hlen h4,hnu.2,h6⟩ (aH.slots (by
       simp [go_sem]
       rw [aO _ (by omega)]) rfl rfl) (by show 70-(sh+7)<70-sh;omega)
    ·rw [if_neg (by omega)] at h6;by_cases g1:0<sh<;>by_cases g3:c=0<;>by_cases g2:(sh:Int)=63<;>by_cases g4:(1:Int)<c
     all_goals first
      |(exfalso;omega)
      |refine bG hB 150 ?_
       simp [go_sem,g1,g2,g3,g4,h128,hs0,hmin]
     all_goals first
      |exact ⟨by rw [←h6];exact hor,by rw [←h6]⟩
      |(subst g3
        exact ⟨by rw [←h6];exact hor,by rw [←h6]⟩)
      |(obtain rfl:sh=63:=by omega
        have e63:(2:Int)^63=9223372036854775808:=by decide
        rw [e63] at hor
        exact ⟨by rw [←h6];exact hor,by rw [←h6]⟩)
  ·rw [iN,if_pos he] at h6;refine bG hB 150 ?_;simp [go_sem,he,←h6]
 ·intro J hJ;refine bG hB 20 ?_;simp [go_sem];refine aL rfl rfl rfl (args:=[.ptr q 0]) (f:=97) (by simp [go_sem]) (by simp [go_sem,hB]) (sX h hl) ?_;refine bG hB 2 ?_;simp [go_sem];refine hJ (0,0,(bM l e).1,(bM l e).2.1,(bM l e).2.2) _ ⟨by omega,(pS h8 e).1,⟨by omega,by omega⟩,Nat.lt_of_le_of_lt (vH l e) hl,(pS h8 e).2,rfl⟩ (aH.slots (by simp [go_sem]) rfl rfl)
theorem bHJ (n sh c:Nat) (l:List Nat) (e:Int) (hn:n<2^64) (h8:∀c∈l,c<256):(iN n sh c l e).1<2^64∧(iN n sh c l e).2.1.length≤l.length∧∀x∈(iN n sh c l e).2.1,x<256:=by
 fun_induction iN n sh c l e with
 |case1=>exact ⟨Nat.two_pow_pos _,Nat.le_refl _,h8⟩
 |case2=>exact ⟨Nat.two_pow_pos _,Nat.le_refl _,h8⟩
 |case3 n sh c l e _ _ _ ih=>have h1:=pS h8 e;have h2:=vH l e;obtain ⟨g1,g2,g3⟩:=ih (Nat.or_lt_two_pow hn (Nat.mod_lt _ (by decide))) h1.2;exact ⟨g1,by omega,g3⟩
 |case4 n sh c l e=>exact ⟨Nat.or_lt_two_pow hn (Nat.mod_lt _ (by decide)),Nat.le_refl _,h8⟩
theorem rW {l:List Nat} (h8:∀c∈l,c<256) (e:Int):(wide l e).1<2^64∧(wide l e).2.1.length≤l.length∧∀c∈(wide l e).2.1,c<256:=by have h1:=pS h8 e;have h2:=vH l e;obtain ⟨g1,g2,g3⟩:=bHJ 0 0 (bM l e).1 (bM l e).2.1 (bM l e).2.2 (by decide) h1.2;exact ⟨g1,Nat.le_trans g2 h2,g3⟩
def eC (l:List Nat) (e:Int):Nat×List Nat×Int:=if 9223372036854775807<(wide l e).1 then (0,(wide l e).2.1,eR (wide l e).2.2 2) else wide l e
def dT (l:List Nat) (e:Int):Nat×List Nat×Int:=if 1048576<(eC l e).1 then (0,(eC l e).2.1,eR (eC l e).2.2 6) else eC l e
theorem tH {l:List Nat} (h8:∀c∈l,c<256) (e:Int):(eC l e).1<2^63∧(eC l e).2.1.length≤l.length∧∀c∈(eC l e).2.1,c<256:=by
 obtain ⟨g1,g2,g3⟩:=rW h8 e;unfold eC;split
 ·exact ⟨by simp only;omega,g2,g3⟩
 ·exact ⟨by omega,g2,g3⟩
theorem aBS {l:List Nat} (h8:∀c∈l,c<256) (e:Int):(dT l e).1≤1048576∧(dT l e).2.1.length≤l.length∧∀c∈(dT l e).2.1,c<256:=by
 obtain ⟨g1,g2,g3⟩:=tH h8 e;unfold dT;split
 ·exact ⟨by simp only;omega,g2,g3⟩
 ·exact ⟨by omega,g2,g3⟩
theorem oM {σ:Nat→aG} {nx q:Nat} {l:List Nat} {e:Int} (h:σ q=cJ l e) (hq:q<nx) (hl:l.length<2^63) (h8:∀c∈l,c<256):aT P 99 [.ptr q 0] σ nx (.i (eC l e).1) (aB σ q (cJ (eC l e).2.1 (eC l e).2.2)) nx:=by
 obtain ⟨w1,w2,w3⟩:=rW h8 e;refine (cA Tryz.func99 rfl rfl (by simp [Tryz.f99]) fun B hB hnx hσ=>?_).spec;simp only [Tryz.f99] at hB ⊢;refine aI ?_;simp [go_sem];refine aL rfl rfl rfl (args:=[.ptr q 0]) (f:=144) (by simp [go_sem]) (by simp [go_sem,hB]) (aAF h hq hl h8) ?_;by_cases hb:(9223372036854775807:Int)<(wide l e).1
 ·have hb':9223372036854775807<(wide l e).1:=by omega
  refine aI ?_;simp [go_sem,hb];refine aL rfl rfl rfl (args:=[.ptr q 0,.i 2]) (f:=98) (by simp [go_sem]) (by simp [go_sem,hB]) (nH (qW (σ:=σ)) 2) ?_;refine aI ?_;simp [go_sem,eC,if_pos hb',uU]
 ·have hb':¬9223372036854775807<(wide l e).1:=by omega
  refine aI ?_;simp [go_sem,hb,eC,if_neg hb'];rw [aO _ (by omega)]
theorem aTO {σ:Nat→aG} {nx q:Nat} {l:List Nat} {e:Int} (h:σ q=cJ l e) (hq:q<nx) (hl:l.length<2^63) (h8:∀c∈l,c<256):aT P 145 [.ptr q 0] σ nx (.i (dT l e).1) (aB σ q (cJ (dT l e).2.1 (dT l e).2.2)) nx:=by
 refine (cA Tryz.func145 rfl rfl (by simp [Tryz.f145]) fun B hB hnx hσ=>?_).spec;simp only [Tryz.f145] at hB ⊢;refine aI ?_;simp [go_sem];refine aL rfl rfl rfl (args:=[.ptr q 0]) (f:=99) (by simp [go_sem]) (by simp [go_sem,hB]) (oM h hq hl h8) ?_;by_cases hb:(1048576:Int)<(eC l e).1
 ·have hb':1048576<(eC l e).1:=by omega
  refine aI ?_;simp [go_sem,hb];refine aL rfl rfl rfl (args:=[.ptr q 0,.i 6]) (f:=98) (by simp [go_sem]) (by simp [go_sem,hB]) (nH (qW (σ:=σ)) 6) ?_;refine aI ?_;simp [go_sem,dT,if_pos hb',uU]
 ·have hb':¬1048576<(eC l e).1:=by omega
  refine aI ?_;simp [go_sem,hb,dT,if_neg hb']
theorem aUF {σ:Nat→aG} {nx q:Nat} {l:List Nat} {e:Int} (h:σ q=cJ l e) (hq:q<nx) (hl:l.length<2^63) (h8:∀c∈l,c<256) (g:FuncId) (caps:List AV)
  (J:Nat→(Nat→aG)→Nat→Prop) (hJ0:J 0 (aB σ q (cJ (dT l e).2.1 (dT l e).2.2)) nx) (hJr:∀k σ' nx',J k σ' nx'→nx≤nx'∧∃l' e',σ' q=cJ l' e')
  (hstep:∀k σ' nx' l',J k σ' nx'→σ' q=cJ l' 0→k<(dT l e).1→bN P g caps σ' nx' fun _ σ'' nx''=>J (k+1) σ'' nx''):
  bN P 100 [.ptr q 0,.fn (.func g) [] caps] σ nx fun _ σ' nx'=>∃k,J k σ' nx'∧(k=(dT l e).1∨(k<(dT l e).1∧∃l' e',σ' q=cJ l' e'∧e'≠0)):=by
 obtain ⟨c1,c2,c3⟩:=aBS h8 e;refine cA Tryz.func100 rfl rfl (by simp [Tryz.f100]) fun B hB hnx hσ=>?_
 simp only [Tryz.f100] at hB ⊢;refine aI ?_;simp [go_sem];refine aL rfl rfl rfl (args:=[.ptr q 0]) (f:=145) (by simp [go_sem]) (by simp [go_sem,hB]) (aTO h hq hl h8) ?_;generalize dT l e=c at *;refine aI ?_;simp [go_sem]
 refine bA (α:=Nat×(Nat→aG)×Nat) (fun (k,σ',nx')=>k≤c.1∧J k σ' nx') (fun (k,σ',nx')=>⟨sl [(0,.ptr q 0),(1,.fn (.func g) [] caps),(4,.i ((c.1:Int)-k))],σ',nx'⟩) (fun x=>c.1-x.1) (0,_,nx) ⟨Nat.zero_le _,hJ0⟩
  (aH.slots (by simp [go_sem]) rfl rfl) ?_
 rintro ⟨k,σ',nx'⟩ ⟨h1,h2⟩;obtain ⟨hn,l',e',hr⟩:=hJr _ _ _ h2;by_cases hk:k=c.1
 ·refine aI ?_;simp [go_sem,hk];exact ⟨hn,k,h2,.inl hk⟩
 ·have hk':k<c.1:=by omega
  have hk2:(0:Int)<(c.1:Int)-k:=by omega
  by_cases he:e'=0
  ·subst he;refine aI ?_;simp [go_sem,hk2,hk',hr];refine dX rfl rfl rfl (args:=caps) (f:=g) (by simp [go_sem]) (by simp [go_sem,hB]) (hstep k σ' nx' l' h2 hr hk') ?_;intro r σ2 nx2 h3;refine aI ?_;simp [go_sem]
   refine Next.mk (k+1,σ2,nx2) ⟨by omega,h3⟩ (aH.slots (by
    simp [go_sem]
    rw [aO _ (by omega)]
    omega) rfl rfl) (by simp only;omega)
  ·refine aI ?_;simp [go_sem,hk2,hk',hr,he];exact ⟨hn,k,h2,.inr ⟨hk',l',e',⟨rfl,rfl⟩,he⟩⟩
abbrev eM (l:List Nat):Prop:=∀c∈l,c<256
abbrev Rd (α:Type):=List Nat→Int→α×List Nat×Int
theorem eM.app {a b:List Nat} (h:eM (a++b)):eM b:=fun c hc=>h c (List.mem_append_right _ hc)
theorem x4 (e x:Int) (hx:x≠0):eR e x≠0:=by unfold eR;split<;>omega
theorem uZ {e:Int} (he:e≠0) (x:Int):eR e x=e:=by unfold eR;rw [if_neg he]
structure eN {α:Type} (rd:Rd α) (en:α→List Nat) (V:α→Prop):Prop where
 rt:∀a r,V a→rd (en a++r) 0=(a,r,0)
 cut:∀a c,V a→c<(en a).length→(rd ((en a).take c) 0).2=([],3)
 stick:∀l e,e≠0→(rd l e).2=(l,e)
 back:∀l a l',eM l→rd l 0=(a,l',0)→l=en a++l'∧V a
def gK {α β:Type} (f:Rd α) (g:Rd β):Rd (α×β):=fun l e=>(((f l e).1,(g (f l e).2.1 (f l e).2.2).1),(g (f l e).2.1 (f l e).2.2).2)
theorem eN.pair {α β:Type} {f:Rd α} {g:Rd β} {en:α→List Nat} {en':β→List Nat} {V:α→Prop} {V':β→Prop} (h:eN f en V) (h':eN g en' V'):
  eN (gK f g) (fun x=>en x.1++en' x.2) (fun x=>V x.1∧V' x.2):=by
 refine ⟨fun ⟨a,b⟩ r ⟨ha,hb⟩=>?_,fun ⟨a,b⟩ c ⟨ha,hb⟩ hc=>?_,fun l e he=>?_,fun l ⟨a,b⟩ l' hl hr=>?_⟩
 ·show gK f g (en a++en' b++r) 0=_;have e1:=h.rt a (en' b++r) ha;have e2:=h'.rt b r hb;simp only [gK,List.append_assoc,e1,e2]
 ·show (g _ _).2=_;simp only at hc ⊢;by_cases hlt:c<(en a).length
  ·rw [List.take_append_of_le_length (Nat.le_of_lt hlt)];have e1:=h.cut a c ha hlt;have e2:(f ((en a).take c) 0).2.1=[]:=by rw [e1]
   have e3:(f ((en a).take c) 0).2.2=3:=by rw [e1]
   rw [e2,e3,h'.stick _ _ (by omega)]
  ·rw [List.take_append,List.take_of_length_le (by omega),h.rt a _ ha];refine h'.cut b _ hb ?_;rw [List.length_append] at hc;omega
 ·show (g _ _).2=_;rw [h.stick l e he];exact h'.stick _ _ he
 ·have e1:(f l 0).1=a:=by have:=congrArg (fun x=>x.1.1) hr;exact this
  have e2:(g (f l 0).2.1 (f l 0).2.2).1=b:=by have:=congrArg (fun x=>x.1.2) hr;exact this
  have e3:(g (f l 0).2.1 (f l 0).2.2).2=(l',0):=by have:=congrArg (fun x=>x.2) hr;exact this
  have e4:(f l 0).2.2=0:=by
   by_cases hx:(f l 0).2.2=0
   ·exact hx
   ·rw [h'.stick _ _ hx] at e3;exact congrArg Prod.snd e3
  obtain ⟨h1,h2⟩:=h.back l a (f l 0).2.1 hl (Prod.ext e1 (Prod.ext rfl e4));have hl2:eM (f l 0).2.1:=by rw [h1] at hl;exact hl.app
  rw [e4] at e2 e3;obtain ⟨h3,h4⟩:=h'.back _ b l' hl2 (Prod.ext e2 e3);refine ⟨?_,h2,h4⟩;show l=en a++en' b++l';rw [List.append_assoc,←h3];exact h1
theorem eN.map {α β:Type} {rd:Rd α} {en:α→List Nat} {V:α→Prop} (h:eN rd en V) (f:α→β) (g:β→α) {en':β→List Nat} {V':β→Prop} (h1:∀b,V' b→f (g b)=b∧V (g b)∧en' b=en (g b)) (h2:∀a,V a→V' (f a)∧en' (f a)=en a):
  eN (fun l e=>(f (rd l e).1,(rd l e).2)) en' V':=by
 refine ⟨fun b r hb=>?_,fun b c hb hc=>?_,fun l e he=>h.stick l e he,fun l b l' hl hr=>?_⟩
 ·obtain ⟨a1,a2,a3⟩:=h1 b hb;simp only [a3,h.rt _ r a2,a1]
 ·obtain ⟨a1,a2,a3⟩:=h1 b hb;rw [a3] at hc ⊢;exact h.cut _ c a2 hc
 ·have e1:f (rd l 0).1=b:=congrArg Prod.fst hr;have e2:(rd l 0).2=(l',0):=congrArg Prod.snd hr;obtain ⟨h3,h4⟩:=h.back l (rd l 0).1 l' hl (Prod.ext rfl e2);obtain ⟨h5,h6⟩:=h2 _ h4;rw [←e1,h6];exact ⟨h3,h5⟩
theorem xX (n:Nat):∃c t,enc n=c :: t:=by
 by_cases h:128≤n
 ·exact ⟨_,_,q9 h⟩
 ·exact ⟨_,_,pF h⟩
theorem aL7 (l:List Nat) {e:Int} (he:e≠0):bM l e=(0,l,e):=by
 cases l with
 |nil=>simp [bM,uZ he]
 |cons c r=>simp [bM,he]
theorem aFL (n s c:Nat) (l:List Nat) {e:Int} (he:e≠0):iN n s c l e=(0,l,e):=by rw [iN,if_pos he]
theorem tD {acc s x:Nat} (h:acc<2^s):acc|||x*2^s=acc+x*2^s:=by rw [Nat.or_comm,Nat.mul_comm,←Nat.two_pow_add_eq_or_of_lt h,Nat.add_comm]
theorem aPK {acc m k:Nat} (hk:k≤9) (hm:acc+m*2^(7*k)<2^64) (h:128≤m):
  k<9∧m % 128*2^(7*k)<2^64∧acc+m*2^(7*k)=acc+m % 128*2^(7*k)+m / 128*2^(7*(k+1)):=by
 have e1:2^(7*(k+1))=128*2^(7*k):=by rw [Nat.mul_add,Nat.pow_add];omega
 have e2:m*2^(7*k)=m % 128*2^(7*k)+m / 128*(128*2^(7*k)):=by rw [←Nat.mul_assoc,←Nat.add_mul];congr 1;omega
 have e3:k≠9:=by
  rintro rfl;have:2^(7*9)=9223372036854775808:=by decide
  rw [this] at hm;omega
 refine ⟨by omega,?_,by rw [e1];omega⟩;have:m % 128*2^(7*k)≤m*2^(7*k):=Nat.mul_le_mul_right _ (Nat.mod_le _ _);omega
theorem bHK:∀(m k acc c:Nat) (t r:List Nat),k≤9→acc<2^(7*k)→acc+m*2^(7*k)<2^64→(0<k→m≠0)→enc m=c :: t→
  iN acc (7*k) c (t++r) 0=(acc+m*2^(7*k),r,0):=by
 intro m
 induction m using Nat.strongRecOn with
 |_ m ih=>
 intro k acc c t r hk hacc hm hz he;by_cases h:128≤m
 ·rw [q9 h] at he;simp only [List.cons.injEq] at he;obtain ⟨rfl,rfl⟩:=he;obtain ⟨hk9,g1,g2⟩:=aPK hk hm h;obtain ⟨c',t',hc'⟩:=xX (m / 128);have e5:(m % 128+128) % 128=m % 128:=by omega
  have e1:2^(7*(k+1))=128*2^(7*k):=by rw [Nat.mul_add,Nat.pow_add];omega
  have e6:m % 128*2^(7*k)≤127*2^(7*k):=Nat.mul_le_mul_right _ (by omega);rw [iN,if_neg (by simp),if_neg (by omega),if_pos (by omega),e5,Nat.mod_eq_of_lt g1,tD hacc,hc'];have e4:bM (c' :: t'++r) 0=(c',t'++r,0):=by simp [bM]
  rw [e4,show 7*k+7=7*(k+1) by omega];simp only;rw [ih (m / 128) (by omega) (k+1) _ c' t' r (by omega) (by omega) (by omega) (fun _=>by omega) hc',g2]
 ·rw [pF h] at he;simp only [List.cons.injEq] at he;obtain ⟨rfl,rfl⟩:=he;have e0:m*2^(7*k)<2^64:=by omega
  have e9:¬(7*k=63∧1<m):=by rintro ⟨h1,h2⟩;rw [h1] at e0;omega
  rw [iN,if_neg (by simp),if_neg (by omega),if_neg (by omega),Nat.mod_eq_of_lt (show m<128 by omega),Nat.mod_eq_of_lt e0,tD hacc];rfl
theorem bHI:∀(m k acc c:Nat) (t:List Nat) (j:Nat),k≤9→acc<2^(7*k)→acc+m*2^(7*k)<2^64→enc m=c :: t→j<t.length→
  (iN acc (7*k) c (t.take j) 0).2=([],3):=by
 intro m
 induction m using Nat.strongRecOn with
 |_ m ih=>
 intro k acc c t j hk hacc hm he hj;by_cases h:128≤m
 ·rw [q9 h] at he;simp only [List.cons.injEq] at he;obtain ⟨rfl,rfl⟩:=he;obtain ⟨hk9,g1,g2⟩:=aPK hk hm h;obtain ⟨c',t',hc'⟩:=xX (m / 128);have e5:(m % 128+128) % 128=m % 128:=by omega
  have e1:2^(7*(k+1))=128*2^(7*k):=by rw [Nat.mul_add,Nat.pow_add];omega
  have e6:m % 128*2^(7*k)≤127*2^(7*k):=Nat.mul_le_mul_right _ (by omega);rw [iN,if_neg (by simp),if_neg (by omega),if_pos (by omega),e5,Nat.mod_eq_of_lt g1,tD hacc];rw [hc'] at hj ⊢;cases j with
  |zero=>have e4:bM (List.take 0 (c' :: t')) 0=(0,[],3):=rfl;rw [e4,aFL _ _ _ _ (by decide)]
  |succ j=>
   have e4:bM (List.take (j+1) (c' :: t')) 0=(c',t'.take j,0):=by simp [bM]
   rw [e4,show 7*k+7=7*(k+1) by omega];exact ih (m / 128) (by omega) (k+1) _ c' t' j (by omega) (by omega) (by omega) hc' (by simpa using hj)
 ·rw [pF h] at he;simp only [List.cons.injEq] at he;obtain ⟨rfl,rfl⟩:=he;simp at hj
theorem bHH (acc s c:Nat) (l:List Nat) (e:Int) (hacc:acc<2^s) (h7:s % 7=0) (hs:s≤63) (hc:c<256) (hl:eM l):∀N l',iN acc s c l e=(N,l',0)→
  e=0∧∃m,N=acc+m*2^s∧c :: l=enc m++l'∧(0<s→m≠0)∧N<2^64:=by
 fun_induction iN acc s c l e with
 |case1 n s c l e he=>intro N l' h;simp at h;exact absurd h.2.2 he
 |case2 n s c l e he hb=>intro N l' h;simp at h
 |case3 n s c l e he hb hgo ih=>
  intro N l' h;have he':e=0:=by omega
  subst he';have hs63:s<63:=hgo.2;have hc128:c % 128*2^s<2^64:=by have:2^s≤2^56:=Nat.pow_le_pow_right (by decide) (by omega);have h2:c % 128*2^s≤127*2^56:=Nat.mul_le_mul (by omega) this;omega
  have e1:2^(s+7)=128*2^s:=by rw [Nat.pow_add];omega
  have e6:c % 128*2^s≤127*2^s:=Nat.mul_le_mul_right _ (by omega);rw [Nat.mod_eq_of_lt hc128,tD hacc] at ih;rw [Nat.mod_eq_of_lt hc128,tD hacc] at h;have hn:=pS hl 0;obtain ⟨h1,m,h2,h3,h4,h5⟩:=ih (by omega) (by omega) (by omega) hn.1 hn.2 N l' h;have h4':=h4 (by omega);cases l with
  |nil=>simp [bM,eR] at h1
  |cons c1 r=>
   simp only [bM,if_true] at h3;refine ⟨rfl,c % 128+128*m,?_,?_,fun _=>by omega,h5⟩
   ·rw [h2,e1,Nat.add_mul,Nat.mul_comm 128 m,Nat.mul_assoc];omega
   ·rw [q9 (by omega),List.cons_append];have e7:(c % 128+128*m) / 128=m:=by omega
    have e8:(c % 128+128*m) % 128+128=c:=by omega
    rw [e7,e8,h3]
 |case4 n s c l e he hb hgo=>
  intro N l' h;have he':e=0:=by omega
  subst he';simp only [Prod.mk.injEq] at h;obtain ⟨rfl,rfl,_⟩:=h;have hcl:c<128:=by omega
  have hc128:c*2^s<2^64:=by
   by_cases h63:s=63
   ·subst h63;have:c*2^63≤1*2^63:=Nat.mul_le_mul_right _ (by omega);omega
   ·have:2^s≤2^56:=Nat.pow_le_pow_right (by decide) (by omega);have h2:c*2^s≤127*2^56:=Nat.mul_le_mul (by omega) this;omega
  rw [Nat.mod_eq_of_lt hcl,Nat.mod_eq_of_lt hc128,tD hacc];refine ⟨rfl,c,rfl,by rw [pF (by omega)];rfl,fun h0=>by omega,?_⟩;by_cases h63:s=63
  ·subst h63;have:c*2^63≤1*2^63:=Nat.mul_le_mul_right _ (by omega);omega
  ·have:2^s≤2^56:=Nat.pow_le_pow_right (by decide) (by omega);have h2:c*2^s≤127*2^56:=Nat.mul_le_mul (by omega) this;omega
theorem aAE:eN wide enc (fun n=>n<2^64):=by
 refine ⟨fun n r hn=>?_,fun n c hn hc=>?_,fun l e he=>?_,fun l n l' hl hr=>?_⟩
 ·obtain ⟨c,t,hc⟩:=xX n;have e1:bM (enc n++r) 0=(c,t++r,0):=by rw [hc];simp [bM]
  have:=bHK n 0 0 c t r (by omega) (by simp) (by simpa using hn) (fun h=>by omega) hc;simp only [wide,e1];simpa using this
 ·obtain ⟨x,t,hx⟩:=xX n;rw [hx] at hc ⊢;cases c with
  |zero=>have e1:bM (List.take 0 (x :: t)) 0=(0,[],3):=rfl;simp only [wide,e1,aFL _ _ _ _ (show (3:Int)≠0 by decide)]
  |succ c=>
   have e1:bM (List.take (c+1) (x :: t)) 0=(x,t.take c,0):=by simp [bM]
   have:=bHI n 0 0 x t c (by omega) (by simp) (by simpa using hn) hx (by simpa using hc);simp only [wide,e1];simpa using this
 ·simp only [wide,aL7 l he,aFL _ _ _ _ he]
 ·have hn:=pS hl 0;obtain ⟨h1,m,h2,h3,h4,h5⟩:=bHH 0 0 _ _ _ (by simp) (by omega) (by omega) hn.1 hn.2 n l' hr;simp at h2;subst h2;refine ⟨?_,h5⟩;cases l with
  |nil=>simp [bM,eR] at h1
  |cons c1 r=>simpa [bM] using h3
def u7 (rd:Rd Nat) (b:Nat) (x:Int):Rd Nat:=fun l e=>if b<(rd l e).1 then (0,(rd l e).2.1,eR (rd l e).2.2 x) else rd l e
theorem eN.guard {rd:Rd Nat} {en:Nat→List Nat} {V:Nat→Prop} (h:eN rd en V) (b:Nat) {x:Int} (hx:x≠0):eN (u7 rd b x) en (fun n=>V n∧n≤b):=by
 refine ⟨fun n r ⟨h1,h2⟩=>?_,fun n c ⟨h1,h2⟩ hc=>?_,fun l e he=>?_,fun l n l' hl hr=>?_⟩
 ·simp only [u7,h.rt n r h1,if_neg (show ¬b<n by omega)]
 ·have e1:=h.cut n c h1 hc;simp only [u7];split
  ·simp only [e1,uZ (show (3:Int)≠0 by decide)]
  ·exact e1
 ·have e1:=h.stick l e he;simp only [u7];split
  ·simp only [e1,uZ he]
  ·exact e1
 ·simp only [u7] at hr;split at hr
  ·simp only [Prod.mk.injEq] at hr;exact absurd hr.2.2 (x4 _ _ hx)
  ·rename_i hb;obtain ⟨h1,h2⟩:=h.back l n l' hl hr;rw [hr] at hb;exact ⟨h1,h2,by simp only at hb;omega⟩
theorem aMS:eN eC enc (fun n=>n<2^64∧n≤9223372036854775807):=aAE.guard 9223372036854775807 (x:=2) (by decide)
theorem uS:eN dT enc (fun n=>(n<2^64∧n≤9223372036854775807)∧n≤1048576):=aMS.guard 1048576 (x:=6) (by decide)
def Nn (n:Int):Prop:=0≤n∧n<9223372036854775808
def lV:Rd Int:=fun l e=>(((eC l e).1:Nat),(eC l e).2)
theorem aO8 (n:Nat) (h:n<2^64):un n=n:=by unfold un;omega
theorem pX:eN lV (fun n=>enc (un n)) Nn:=by
 refine aMS.map (fun (n:Nat)=>(n:Int)) (fun n=>n.toNat) (fun n hn=>?_) (fun n hn=>?_)
 ·obtain ⟨h1,h2⟩:=hn;have e1:un n=n.toNat:=by unfold un;omega
  exact ⟨by omega,by omega,by rw [e1]⟩
 ·exact ⟨⟨by omega,by omega⟩,by rw [aO8 n (by omega)]⟩
def eL {α:Type} (rd:Rd α):Nat→Rd (List α)
 |0,l,e=>([],l,e)
 |n+1,l,e=>if e≠0 then ([],l,e) else ((rd l e).1 :: (eL rd n (rd l e).2.1 (rd l e).2.2).1,(eL rd n (rd l e).2.1 (rd l e).2.2).2)
def kG {α:Type} (rd:Rd α):Rd (List α):=fun l e=>eL rd (dT l e).1 (dT l e).2.1 (dT l e).2.2
theorem tL {α:Type} (rd:Rd α) (n:Nat) (l:List Nat) {e:Int} (he:e≠0):eL rd n l e=([],l,e):=by
 cases n with
 |zero=>rfl
 |succ n=>rw [eL,if_pos he]
theorem vO {α:Type} (rd:Rd α) (n:Nat) (l:List Nat):eL rd (n+1) l 0=((rd l 0).1 :: (eL rd n (rd l 0).2.1 (rd l 0).2.2).1,(eL rd n (rd l 0).2.1 (rd l 0).2.2).2):=by rw [eL,if_neg (by simp)]
theorem aNP {α:Type} {rd:Rd α}:∀{k:Nat} {l:List Nat} {e:Int} {zs:List α} {l':List Nat},eL rd k l e=(zs,l',0)→zs.length=k→
  eL rd (k+1) l e=(zs++[(rd l' 0).1],(rd l' 0).2)
 |0,l,e,zs,l',h,hk=>by simp only [eL,Prod.mk.injEq] at h;obtain ⟨rfl,rfl,rfl⟩:=h;rw [vO];rfl
 |k+1,l,e,zs,l',h,hk=>by
  rw [eL] at h;split at h
  ·rename_i he;simp only [Prod.mk.injEq] at h;exact absurd h.2.2 he
  ·rename_i he;have he':e=0:=by omega
   subst he';cases zs with
   |nil=>simp at hk
   |cons a zs=>simp only [Prod.mk.injEq,List.cons.injEq] at h;obtain ⟨⟨h1,h2⟩,h3⟩:=h;have:=aNP (rd:=rd) (k:=k) (l:=(rd l 0).2.1) (e:=(rd l 0).2.2) (zs:=zs) (l':=l') (Prod.ext h2 h3) (by simpa using hk);rw [vO,this,h1];rfl
theorem aNQ {α:Type} {rd:Rd α}:∀{k n:Nat} {l:List Nat} {e:Int} {zs:List α} {l':List Nat} {e':Int},eL rd k l e=(zs,l',e')→zs.length=k→k≤n→(k=n∨e'≠0)→
  eL rd n l e=(zs,l',e')
 |0,n,l,e,zs,l',e',h,hk,hn,hor=>by
  simp only [eL,Prod.mk.injEq] at h;obtain ⟨rfl,rfl,rfl⟩:=h;rcases hor with rfl | he
  ·rfl
  ·rw [tL _ _ _ he]
 |k+1,n,l,e,zs,l',e',h,hk,hn,hor=>by
  cases n with
  |zero=>omega
  |succ n=>
   rw [eL] at h ⊢;split at h
   ·rename_i he;rw [if_pos he];exact h
   ·rename_i he;rw [if_neg he];cases zs with
    |nil=>simp at hk
    |cons a zs=>simp only [Prod.mk.injEq,List.cons.injEq] at h;obtain ⟨⟨h1,h2⟩,h3⟩:=h;rw [aNQ (rd:=rd) (k:=k) (n:=n) (zs:=zs) (l':=l') (e':=e') (Prod.ext h2 h3) (by simpa using hk) (by omega) (hor.imp (by omega) id),h1]
theorem aNO {α:Type} {rd:Rd α} {en:α→List Nat} {V:α→Prop} (h:eN rd en V):∀(zs:List α) (r:List Nat),(∀a∈zs,V a)→eL rd zs.length (zs.flatMap en++r) 0=(zs,r,0)
 |[],r,_=>rfl
 |a :: zs,r,ha=>by
  have e1:=h.rt a (zs.flatMap en++r) (ha a List.mem_cons_self);have e2:=aNO h zs r fun x hx=>ha x (List.mem_cons_of_mem _ hx)
  rw [List.length_cons,vO,List.flatMap_cons,List.append_assoc,e1];simp only [e2]
theorem aNK {α:Type} {rd:Rd α} {en:α→List Nat} {V:α→Prop} (h:eN rd en V):∀(zs:List α) (c:Nat),(∀a∈zs,V a)→c<(zs.flatMap en).length→(eL rd zs.length ((zs.flatMap en).take c) 0).2=([],3)
 |[],c,_,hc=>by simp at hc
 |a :: zs,c,ha,hc=>by
  have hVa:=ha a List.mem_cons_self;rw [List.length_cons,vO];rw [List.flatMap_cons] at hc ⊢;by_cases hlt:c<(en a).length
  ·rw [List.take_append_of_le_length (Nat.le_of_lt hlt)];have e1:=h.cut a c hVa hlt;have e2:(rd ((en a).take c) 0).2.1=[]:=by rw [e1]
   have e3:(rd ((en a).take c) 0).2.2=3:=by rw [e1]
   rw [e2,e3,tL _ _ _ (by decide)]
  ·rw [List.take_append,List.take_of_length_le (by omega),h.rt a _ hVa];refine aNK h zs _ (fun x hx=>ha x (List.mem_cons_of_mem _ hx)) ?_;rw [List.length_append] at hc;omega
theorem aNJ {α:Type} {rd:Rd α} {en:α→List Nat} {V:α→Prop} (h:eN rd en V):∀(n:Nat) (l:List Nat) (zs:List α) (l':List Nat),eM l→eL rd n l 0=(zs,l',0)→zs.length=n∧l=zs.flatMap en++l'∧∀a∈zs,V a
 |0,l,zs,l',hl,hr=>by simp only [eL,Prod.mk.injEq] at hr;obtain ⟨rfl,rfl,_⟩:=hr;exact ⟨rfl,rfl,fun a ha=>by cases ha⟩
 |n+1,l,zs,l',hl,hr=>by
  rw [vO] at hr;simp only [Prod.mk.injEq] at hr;obtain ⟨rfl,h3⟩:=hr
  have e4:(rd l 0).2.2=0:=by
   by_cases hx:(rd l 0).2.2=0
   ·exact hx
   ·rw [tL _ _ _ hx] at h3;exact congrArg Prod.snd h3
  obtain ⟨h1,h2⟩:=h.back l (rd l 0).1 (rd l 0).2.1 hl (Prod.ext rfl (Prod.ext rfl e4));have hl2:eM (rd l 0).2.1:=by rw [h1] at hl;exact hl.app
  rw [e4] at h3 ⊢;obtain ⟨g1,g2,g3⟩:=aNJ h n _ _ l' hl2 (Prod.ext rfl h3);refine ⟨by simp [g1],?_,fun a ha=>?_⟩
  ·rw [List.flatMap_cons,List.append_assoc,←g2];exact h1
  ·rcases List.mem_cons.1 ha with rfl | ha
   ·exact h2
   ·exact g3 a ha
theorem eN.each {α:Type} {rd:Rd α} {en:α→List Nat} {V:α→Prop} (h:eN rd en V):eN (kG rd) (fun zs=>d9 [(zs.length:Int)]++zs.flatMap en) (fun zs=>zs.length≤1048576∧∀a∈zs,V a):=by
 have hen:∀n:Nat,n≤1048576→d9 [(n:Int)]=enc n:=fun n hn=>by simp [d9,aO8 n (by omega)]
 refine ⟨fun zs r ⟨h1,h2⟩=>?_,fun zs c ⟨h1,h2⟩ hc=>?_,fun l e he=>?_,fun l zs l' hl hr=>?_⟩
 ·have e1:=uS.rt zs.length (zs.flatMap en++r) ⟨⟨by omega,by omega⟩,h1⟩;simp only [kG,hen _ h1,List.append_assoc,e1];exact aNO h zs r h2
 ·simp only [kG,hen _ h1] at hc ⊢;by_cases hlt:c<(enc zs.length).length
  ·rw [List.take_append_of_le_length (Nat.le_of_lt hlt)];have e1:=uS.cut zs.length c ⟨⟨by omega,by omega⟩,h1⟩ hlt;have e2:(dT ((enc zs.length).take c) 0).2.1=[]:=by rw [e1]
   have e3:(dT ((enc zs.length).take c) 0).2.2=3:=by rw [e1]
   rw [e2,e3,tL _ _ _ (by decide)]
  ·rw [List.take_append,List.take_of_length_le (by omega),uS.rt _ _ ⟨⟨by omega,by omega⟩,h1⟩];refine aNK h zs _ h2 ?_;rw [List.length_append] at hc;omega
 ·simp only [kG,uS.stick l e he,tL _ _ _ he]
 ·have e4:(dT l 0).2.2=0:=by
   by_cases hx:(dT l 0).2.2=0
   ·exact hx
   ·simp only [kG,tL _ _ _ hx,Prod.mk.injEq] at hr;exact hr.2.2
  obtain ⟨h1,_,h2⟩:=uS.back l (dT l 0).1 (dT l 0).2.1 hl (Prod.ext rfl (Prod.ext rfl e4));have hl2:eM (dT l 0).2.1:=by rw [h1] at hl;exact hl.app
  simp only [kG,e4] at hr;obtain ⟨g1,g2,g3⟩:=aNJ h _ _ zs l' hl2 hr;refine ⟨?_,by omega,g3⟩;show l=d9 _++_++l';rw [hen _ (by omega),g1,List.append_assoc,←g2];exact h1
def aEF:Rd (Int×Int×Int×Int×Int×Nat×Nat×Nat×Int×Int):=gK lV (gK lV (gK lV (gK lV (gK lV (gK wide (gK wide (gK wide (gK lV lV))))))))
def bP.of (x:Int×Int×Int×Int×Int×Nat×Nat×Nat×Int×Int):bP:=⟨x.1,x.2.1,x.2.2.1,x.2.2.2.1,x.2.2.2.2.1,x.2.2.2.2.2.1,x.2.2.2.2.2.2.1,x.2.2.2.2.2.2.2.1,x.2.2.2.2.2.2.2.2.1,x.2.2.2.2.2.2.2.2.2⟩
def gN:Rd bP:=fun l e=>(bP.of (aEF l e).1,(aEF l e).2)
structure bP.good (s:bP):Prop where
 at_:Nn s.at_
 car:Nn s.car
 time:Nn s.time
 load:Nn s.load
 first:Nn s.first
 ok:s.ok
 cost:Nn s.cost
 part:Nn s.part
theorem bA7:eN gN bP.enc bP.good:=by
 have h:=pX.pair (pX.pair (pX.pair (pX.pair (pX.pair (aAE.pair (aAE.pair (aAE.pair (pX.pair pX))))))));refine h.map bP.of (fun s=>(s.at_,s.car,s.time,s.load,s.first,s.must,s.may,s.on,s.cost,s.part)) (fun s hs=>⟨rfl,⟨hs.at_,hs.car,hs.time,hs.load,hs.first,hs.ok.1,hs.ok.2.1,hs.ok.2.2,hs.cost,hs.part⟩,?_⟩) (fun x hx=>?_)
 ·simp [bP.enc,d9]
 ·obtain ⟨a,b,c,d,e,f,g,i,j,k⟩:=hx;exact ⟨⟨a,b,c,d,e,⟨f,g,i⟩,j,k⟩,by simp [bP.of,bP.enc,d9]⟩
def fZ:Rd lI:=kG gN
def eX:Rd jP:=kG fZ
def lI.good (l:lI):Prop:=l.length≤1048576∧∀s∈l,bP.good s
def jP.good (q:jP):Prop:=q.length≤1048576∧∀l∈q,lI.good l
theorem bA5:eN fZ oG lI.good:=bA7.each
theorem bA6:eN eX mS jP.good:=bA5.each
def iJ (x:Nat):Rd Unit:=fun l e=>((),(bM l e).2.1,if (bM l e).1=x then (bM l e).2.2 else eR (bM l e).2.2 2)
theorem yN (x:Nat):eN (iJ x) (fun _=>[x]) (fun _=>True):=by
 refine ⟨fun a r _=>?_,fun a c _ hc=>?_,fun l e he=>?_,fun l a l' hl hr=>?_⟩
 ·simp [iJ,bM]
 ·have:c=0:=by simpa using hc
  subst this;have e1:bM (List.take 0 [x]) 0=(0,[],3):=rfl;simp only [iJ,e1];split
  ·rfl
  ·rw [uZ (by decide)]
 ·simp only [iJ,aL7 l he];split
  ·rfl
  ·rw [uZ he]
 ·simp only [iJ,Prod.mk.injEq] at hr;obtain ⟨_,h1,h2⟩:=hr;split at h2
  ·rename_i h3;refine ⟨?_,trivial⟩;cases l with
   |nil=>simp [bM,eR] at h2
   |cons c r=>simp only [bM,if_true] at h1 h3;rw [h1,h3];rfl
  ·exact absurd h2 (x4 _ _ (by decide))
def aEE:Rd (Int×List jP):=gK lV (kG eX)
def aCV:Rd (Unit×Unit×Unit×Unit):=gK (iJ 72) (gK (iJ 76) (gK (iJ 82) (iJ 49)))
def zH:Rd ((Unit×Unit×Unit×Unit)×Int×List jP):=gK aCV aEE
def mT:Rd cM:=fun l e=>(⟨(zH l e).1.2.1,(zH l e).1.2.2⟩,(zH l e).2)
structure cM.good (p:cM):Prop where
 least:Nn p.least
 parts:p.parts.length≤1048576
 part:∀q∈p.parts,jP.good q
theorem bA4:eN aEE (fun x=>enc (un x.1)++(d9 [(x.2.length:Int)]++x.2.flatMap mS)) (fun x=>Nn x.1∧x.2.length≤1048576∧∀q∈x.2,jP.good q):=pX.pair bA6.each
theorem aW6:eN aCV (fun _=>[72,76,82,49]) (fun _=>True):=by have h:=(yN 72).pair ((yN 76).pair ((yN 82).pair (yN 49)));have h2:=h.map id id (en':=fun _=>[72,76,82,49]) (V':=fun _=>True) (fun b _=>⟨rfl,⟨trivial,trivial,trivial,trivial⟩,rfl⟩) (fun a _=>⟨trivial,rfl⟩);exact h2
theorem aNC:eN mT cM.enc cM.good:=by
 have h:=aW6.pair bA4;refine h.map (fun x=>(⟨x.2.1,x.2.2⟩:cM)) (fun p=>(((),(),(),()),p.least,p.parts)) (fun p hp=>⟨rfl,⟨trivial,hp.least,hp.parts,hp.part⟩,?_⟩) (fun x hx=>⟨⟨hx.2.1,hx.2.2.1,hx.2.2.2⟩,?_⟩)
 ·simp [cM.enc,d9]
 ·simp [cM.enc,d9]
def mJ (l:List Nat):Int:=if (mT l 0).2.1=[] then (mT l 0).2.2 else eR (mT l 0).2.2 2
def fV (l:List Nat):cM×Int:=if mJ l=0 then ((mT l 0).1,0) else (⟨0,[]⟩,mJ l)
theorem aTZ {p:cM} (h:p.good):fV p.enc=(p,0):=by
 have e1:=aNC.rt p [] h;rw [List.append_nil] at e1;have e2:mJ p.enc=0:=by simp [mJ,e1]
 simp [fV,e1,e2]
theorem aT0 {b:List Nat} (hb:eM b) (h:(fV b).2=0):b=(fV b).1.enc∧(fV b).1.good:=by
 have e0:mJ b=0:=by
  by_cases hx:mJ b=0
  ·exact hx
  ·rw [fV,if_neg hx] at h;exact absurd h hx
 have e1:(mT b 0).2.1=[]∧(mT b 0).2.2=0:=by
  rw [mJ] at e0;split at e0
  ·rename_i h1;exact ⟨h1,e0⟩
  ·exact absurd e0 (x4 _ _ (by decide))
 obtain ⟨h1,h2⟩:=aNC.back b (mT b 0).1 [] hb (Prod.ext rfl (Prod.ext e1.1 e1.2));rw [List.append_nil] at h1;have e2:(fV b).1=(mT b 0).1:=by rw [fV,if_pos e0]
 rw [e2];exact ⟨h1,h2⟩
theorem rK {l:List Nat} (h8:eM l) (e:Int):eM (eC l e).2.1∧(eC l e).2.1.length≤l.length∧(eC l e).1<2^63:=⟨(tH h8 e).2.2,(tH h8 e).2.1,(tH h8 e).1⟩
theorem aFN {l:List Nat} (h8:eM l) (e:Int):eM (wide l e).2.1∧(wide l e).2.1.length≤l.length∧(wide l e).1<2^64:=⟨(rW h8 e).2.2,(rW h8 e).2.1,(rW h8 e).1⟩
abbrev At (σ':Nat→aG) (σ:Nat→aG) (nx q:Nat) (a:List Nat×Int) (cs:List AV):Prop:=σ' q=cJ a.1 a.2∧σ' (nx+1)= .box cs∧(∀i,i<nx→i≠q→σ' i=σ i)∧σ' nx= .box [.i 0,.i 0,.i 0,.i 0,.i 0,.u 0,.u 0,.u 0,.i 0,.i 0]
theorem bDU {σ:Nat→aG} {nx q:Nat} {l:List Nat} {e:Int} (h:σ q=cJ l e) (hq:q<nx) (hl:l.length<2^63) (h8:eM l):
  aT P 148 [.ptr q 0] σ nx (.agg ((gN l e).1.t.map .t)) (aB σ q (cJ (gN l e).2.1 (gN l e).2.2)) nx:=by
 refine fO (P:=P) Tryz.func148 rfl rfl (by simp [Tryz.f148]) hq (by simp [go_sem]) (by simp [go_sem,bP.t]) fun hdead B hB hnx hσ=>?_
 simp only [Tryz.f148] at hB ⊢;generalize ha1:eC l e=a1;generalize ha2:eC a1.2.1 a1.2.2=a2;generalize ha3:eC a2.2.1 a2.2.2=a3;generalize ha4:eC a3.2.1 a3.2.2=a4;generalize ha5:eC a4.2.1 a4.2.2=a5;generalize ha6:wide a5.2.1 a5.2.2=a6;generalize ha7:wide a6.2.1 a6.2.2=a7;generalize ha8:wide a7.2.1 a7.2.2=a8;generalize ha9:eC a8.2.1 a8.2.2=a9;generalize ha10:eC a9.2.1 a9.2.2=a10;have hrd:gN l e=(⟨a1.1,a2.1,a3.1,a4.1,a5.1,a6.1,a7.1,a8.1,a9.1,a10.1⟩,a10.2):=by simp only [gN,bP.of,aEF,gK,lV,ha1,ha2,ha3,ha4,ha5,ha6,ha7,ha8,ha9,ha10]
 rw [hrd];obtain ⟨b1,l1,v1⟩:=rK h8 e;rw [ha1] at b1 l1 v1;obtain ⟨b2,l2,v2⟩:=rK b1 a1.2.2;rw [ha2] at b2 l2 v2;obtain ⟨b3,l3,v3⟩:=rK b2 a2.2.2;rw [ha3] at b3 l3 v3;obtain ⟨b4,l4,v4⟩:=rK b3 a3.2.2;rw [ha4] at b4 l4 v4;obtain ⟨b5,l5,v5⟩:=rK b4 a4.2.2;rw [ha5] at b5 l5 v5;obtain ⟨b6,l6,v6⟩:=aFN b5 a5.2.2;rw [ha6] at b6 l6 v6;obtain ⟨b7,l7,v7⟩:=aFN b6 a6.2.2;rw [ha7] at b7 l7 v7;obtain ⟨b8,l8,v8⟩:=aFN b7 a7.2.2;rw [ha8] at b8 l8 v8;obtain ⟨b9,l9,v9⟩:=rK b8 a8.2.2;rw [ha9] at b9 l9 v9;obtain ⟨b10,l10,v10⟩:=rK b9 a9.2.2;rw [ha10] at b10 l10 v10;have hqn:q≠nx:=by omega
 have hqn1:q≠nx+1:=by omega
 refine aD ?_;simp [go_sem]
 refine bA (α:=Nat×(Nat→aG)) (fun (k,σ')=>k≤5∧At σ' σ nx q (match k with | 0=>(l,e) | 1=>a1.2 | 2=>a2.2 | 3=>a3.2 | 4=>a4.2 | _=>a5.2)
   [if 0<k then .i a1.1 else .i 0,if 1<k then .i a2.1 else .i 0,if 2<k then .i a3.1 else .i 0,if 3<k then .i a4.1 else .i 0,if 4<k then .i a5.1 else .i 0,.u 0,.u 0,.u 0,.i 0,.i 0])
  (fun (k,σ')=>⟨sl [(0,.ptr q 0),(2,.ptr nx 0),(3,.ptr (nx+1) 0),(4,.fn (.func 99) [.ptr q 0] []),(5,.fn (.func 144) [.ptr q 0] []),(24,.agg [.ptr (nx+1) 0,.ptr (nx+1) 1,.ptr (nx+1) 2,.ptr (nx+1) 3,.ptr (nx+1) 4]),(25,.i k)],σ',nx+2⟩) (fun x=>5-x.1) (0,_)
  ?_ (aH.slots (by simp [go_sem]) rfl rfl) ?_
 ·exact ⟨Nat.zero_le _,by simp [aB,hqn,hqn1,h],by simp [aB],fun i hi hiq=>(by simp [aB,show i≠nx by omega,show i≠nx+1 by omega]),by simp [aB]⟩
 rintro ⟨k,σ'⟩ ⟨h1,h2⟩;rcases (by omega:k=0∨k=1∨k=2∨k=3∨k=4∨k=5) with rfl | rfl | rfl | rfl | rfl | rfl
 ·obtain ⟨c1,c2,c3,c4⟩:=h2
  replace c1:σ' q=cJ l e:=c1
  simp at c2;refine aI ?_;simp [go_sem];refine aL rfl rfl rfl (args:=[.ptr q 0]) (f:=99) (by simp [go_sem]) (by simp [go_sem,hB]) (oM c1 (by show q<nx+2;omega) hl h8) ?_;rw [ha1];refine aI ?_;simp [go_sem,c2,Ne.symm hqn1];refine Next.mk (1,_) ?_ (aH.slots (by simp [go_sem];try decide) rfl rfl) (by simp);exact ⟨by omega,by simp [aB,hqn1],by simp [aB],fun i hi hiq=>(by simp [aB,hiq,show i≠nx+1 by omega];exact c3 i hi hiq),by simp [aB,Ne.symm hqn,c4]⟩
 ·obtain ⟨c1,c2,c3,c4⟩:=h2
  replace c1:σ' q=cJ a1.2.1 a1.2.2:=c1
  simp at c2;refine aI ?_;simp [go_sem];refine aL rfl rfl rfl (args:=[.ptr q 0]) (f:=99) (by simp [go_sem]) (by simp [go_sem,hB]) (oM c1 (by show q<nx+2;omega) (by omega) b1) ?_;rw [ha2];refine aI ?_;simp [go_sem,c2,Ne.symm hqn1];refine Next.mk (2,_) ?_ (aH.slots (by simp [go_sem];try decide) rfl rfl) (by simp);exact ⟨by omega,by simp [aB,hqn1],by simp [aB],fun i hi hiq=>(by simp [aB,hiq,show i≠nx+1 by omega];exact c3 i hi hiq),by simp [aB,Ne.symm hqn,c4]⟩
 ·obtain ⟨c1,c2,c3,c4⟩:=h2
  replace c1:σ' q=cJ a2.2.1 a2.2.2:=c1
  simp at c2;refine aI ?_;simp [go_sem];refine aL rfl rfl rfl (args:=[.ptr q 0]) (f:=99) (by simp [go_sem]) (by simp [go_sem,hB]) (oM c1 (by show q<nx+2;omega) (by omega) b2) ?_;rw [ha3];refine aI ?_;simp [go_sem,c2,Ne.symm hqn1];refine Next.mk (3,_) ?_ (aH.slots (by simp [go_sem];try decide) rfl rfl) (by simp);exact ⟨by omega,by simp [aB,hqn1],by simp [aB],fun i hi hiq=>(by simp [aB,hiq,show i≠nx+1 by omega];exact c3 i hi hiq),by simp [aB,Ne.symm hqn,c4]⟩
 ·obtain ⟨c1,c2,c3,c4⟩:=h2
  replace c1:σ' q=cJ a3.2.1 a3.2.2:=c1
  simp at c2;refine aI ?_;simp [go_sem];refine aL rfl rfl rfl (args:=[.ptr q 0]) (f:=99) (by simp [go_sem]) (by simp [go_sem,hB]) (oM c1 (by show q<nx+2;omega) (by omega) b3) ?_;rw [ha4];refine aI ?_;simp [go_sem,c2,Ne.symm hqn1];refine Next.mk (4,_) ?_ (aH.slots (by simp [go_sem];try decide) rfl rfl) (by simp);exact ⟨by omega,by simp [aB,hqn1],by simp [aB],fun i hi hiq=>(by simp [aB,hiq,show i≠nx+1 by omega];exact c3 i hi hiq),by simp [aB,Ne.symm hqn,c4]⟩
 ·obtain ⟨c1,c2,c3,c4⟩:=h2
  replace c1:σ' q=cJ a4.2.1 a4.2.2:=c1
  simp at c2;refine aI ?_;simp [go_sem];refine aL rfl rfl rfl (args:=[.ptr q 0]) (f:=99) (by simp [go_sem]) (by simp [go_sem,hB]) (oM c1 (by show q<nx+2;omega) (by omega) b4) ?_;rw [ha5];refine aI ?_;simp [go_sem,c2,Ne.symm hqn1];refine Next.mk (5,_) ?_ (aH.slots (by simp [go_sem];try decide) rfl rfl) (by simp);exact ⟨by omega,by simp [aB,hqn1],by simp [aB],fun i hi hiq=>(by simp [aB,hiq,show i≠nx+1 by omega];exact c3 i hi hiq),by simp [aB,Ne.symm hqn,c4]⟩
 obtain ⟨c1,c2,c3,c4⟩:=h2
 replace c1:σ' q=cJ a5.2.1 a5.2.2:=c1
 simp at c2;refine aD ?_;simp [go_sem]
 refine bA (α:=Nat×(Nat→aG)) (fun (k,σ')=>k≤3∧At σ' σ nx q (match k with | 0=>a5.2 | 1=>a6.2 | 2=>a7.2 | _=>a8.2)
   [.i a1.1,.i a2.1,.i a3.1,.i a4.1,.i a5.1,if 0<k then .u a6.1 else .u 0,if 1<k then .u a7.1 else .u 0,if 2<k then .u a8.1 else .u 0,.i 0,.i 0])
  (fun (k,σ')=>⟨sl [(0,.ptr q 0),(2,.ptr nx 0),(3,.ptr (nx+1) 0),(4,.fn (.func 99) [.ptr q 0] []),(5,.fn (.func 144) [.ptr q 0] []),(39,.agg [.ptr (nx+1) 5,.ptr (nx+1) 6,.ptr (nx+1) 7]),(40,.i k)],σ',nx+2⟩) (fun x=>3-x.1) (0,_)
  ?_ (aH.slots (by simp [go_sem]) rfl rfl) ?_
 ·exact ⟨Nat.zero_le _,c1,by simp [c2],c3,c4⟩
 clear c1 c2 c3 c4 σ';rintro ⟨k,σ'⟩ ⟨h1,h2⟩;rcases (by omega:k=0∨k=1∨k=2∨k=3) with rfl | rfl | rfl | rfl
 ·obtain ⟨c1,c2,c3,c4⟩:=h2
  replace c1:σ' q=cJ a5.2.1 a5.2.2:=c1
  simp at c2;refine aI ?_;simp [go_sem];refine aL rfl rfl rfl (args:=[.ptr q 0]) (f:=144) (by simp [go_sem]) (by simp [go_sem,hB]) (aAF c1 (by show q<nx+2;omega) (by omega) b5) ?_;rw [ha6];refine aI ?_;simp [go_sem,c2,Ne.symm hqn1];refine Next.mk (1,_) ?_ (aH.slots (by simp [go_sem];try decide) rfl rfl) (by simp);exact ⟨by omega,by simp [aB,hqn1],by simp [aB],fun i hi hiq=>(by simp [aB,hiq,show i≠nx+1 by omega];exact c3 i hi hiq),by simp [aB,Ne.symm hqn,c4]⟩
 ·obtain ⟨c1,c2,c3,c4⟩:=h2
  replace c1:σ' q=cJ a6.2.1 a6.2.2:=c1
  simp at c2;refine aI ?_;simp [go_sem];refine aL rfl rfl rfl (args:=[.ptr q 0]) (f:=144) (by simp [go_sem]) (by simp [go_sem,hB]) (aAF c1 (by show q<nx+2;omega) (by omega) b6) ?_;rw [ha7];refine aI ?_;simp [go_sem,c2,Ne.symm hqn1];refine Next.mk (2,_) ?_ (aH.slots (by simp [go_sem];try decide) rfl rfl) (by simp);exact ⟨by omega,by simp [aB,hqn1],by simp [aB],fun i hi hiq=>(by simp [aB,hiq,show i≠nx+1 by omega];exact c3 i hi hiq),by simp [aB,Ne.symm hqn,c4]⟩
 ·obtain ⟨c1,c2,c3,c4⟩:=h2
  replace c1:σ' q=cJ a7.2.1 a7.2.2:=c1
  simp at c2;refine aI ?_;simp [go_sem];refine aL rfl rfl rfl (args:=[.ptr q 0]) (f:=144) (by simp [go_sem]) (by simp [go_sem,hB]) (aAF c1 (by show q<nx+2;omega) (by omega) b7) ?_;rw [ha8];refine aI ?_;simp [go_sem,c2,Ne.symm hqn1];refine Next.mk (3,_) ?_ (aH.slots (by simp [go_sem];try decide) rfl rfl) (by simp);exact ⟨by omega,by simp [aB,hqn1],by simp [aB],fun i hi hiq=>(by simp [aB,hiq,show i≠nx+1 by omega];exact c3 i hi hiq),by simp [aB,Ne.symm hqn,c4]⟩
 obtain ⟨c1,c2,c3,c4⟩:=h2
 replace c1:σ' q=cJ a8.2.1 a8.2.2:=c1
 simp at c2;refine aI ?_;simp [go_sem];refine aL rfl rfl rfl (args:=[.ptr q 0]) (f:=99) (by simp [go_sem]) (by simp [go_sem,hB]) (oM c1 (by show q<nx+2;omega) (by omega) b8) ?_;rw [ha9];refine aI ?_;simp [go_sem,c2,Ne.symm hqn1];refine aL rfl rfl rfl (args:=[.ptr q 0]) (f:=99) (by simp [go_sem]) (by simp [go_sem,hB]) (oM (l:=a9.2.1) (e:=a9.2.2) (by simp [aB,hqn1]) (by show q<nx+2;omega) (by omega) b9) ?_;rw [ha10];refine aI ?_;simp [go_sem,c2,c4,Ne.symm hqn1,hqn1,Ne.symm hqn,hqn,bP.t];intro i hi hiq;rw [if_neg (by omega),if_neg (by omega),if_neg hiq,if_neg (by omega),if_neg hiq];exact c3 i hi hiq
structure eJ (q x rr:Nat) (pre:List AV) (sz:Nat) (σ:Nat→aG) (nx j:Nat) (l:List Nat) (e:Int) (rows:List (List T)):Prop where
 fq:σ q=cJ l e
 fx:σ x= .box (pre++[.ref j])
 fj:σ j= .arr sz rows
 fr:σ rr= .box [.ptr q 0]
 ql:q<nx
 xl:x<nx
 jl:j<nx
 rl:rr<nx
structure gD (q x rr:Nat) (pre:List AV) (sz:Nat) (σ:Nat→aG) (nx j:Nat) (l:List Nat) (e:Int) (rows:List (List T)) (σ':Nat→aG) (nx':Nat):Prop where
 le:nx≤nx'
 row:∃j',eJ q x rr pre sz σ' nx' j' l e rows∧(j'=j∨nx≤j')
 old:∀i,i<nx→i≠q→i≠x→i≠j→σ' i=σ i
section
variable {q x rr:Nat} {pre:List AV} {sz:Nat} {σ:Nat→aG} {nx j:Nat} {l:List Nat} {e:Int} {rows:List (List T)}
theorem eJ.qx (h:eJ q x rr pre sz σ nx j l e rows):q≠x:=by rintro rfl;have h1:=h.fq.symm.trans h.fx;simp only [aG.box.injEq] at h1;have h2:=congrArg List.reverse h1;simp at h2
theorem eJ.qj (h:eJ q x rr pre sz σ nx j l e rows):q≠j:=by rintro rfl;have h1:=h.fq.symm.trans h.fj;cases h1
theorem eJ.qr (h:eJ q x rr pre sz σ nx j l e rows):q≠rr:=by rintro rfl;have h1:=h.fq.symm.trans h.fr;simp at h1
theorem eJ.xj (h:eJ q x rr pre sz σ nx j l e rows):x≠j:=by rintro rfl;have h1:=h.fx.symm.trans h.fj;cases h1
theorem eJ.xr (h:eJ q x rr pre sz σ nx j l e rows):x≠rr:=by rintro rfl;have h1:=h.fx.symm.trans h.fr;simp only [aG.box.injEq] at h1;have h2:=congrArg List.reverse h1;simp at h2
theorem eJ.rj (h:eJ q x rr pre sz σ nx j l e rows):rr≠j:=by rintro rfl;have h1:=h.fr.symm.trans h.fj;cases h1
theorem eJ.rd (h:eJ q x rr pre sz σ nx j l e rows) (l':List Nat) (e':Int):eJ q x rr pre sz (aB σ q (cJ l' e')) nx j l' e' rows:=
 ⟨by simp [aB],by simp [aB,Ne.symm h.qx,h.fx],by simp [aB,Ne.symm h.qj,h.fj],by simp [aB,Ne.symm h.qr,h.fr],h.ql,h.xl,h.jl,h.rl⟩
theorem eJ.read (h:eJ q x rr pre sz σ nx j l e rows) (l':List Nat) (e':Int):gD q x rr pre sz σ nx j l' e' rows (aB σ q (cJ l' e')) nx:=
 ⟨Nat.le_refl _,⟨j,h.rd l' e',.inl rfl⟩,fun i _ hq _ _=>by simp [aB,hq]⟩
theorem gD.trans {σ' σ'':Nat→aG} {nx' nx'' j':Nat} {l' l'':List Nat} {e' e'':Int} {rows' rows'':List (List T)} (h:gD q x rr pre sz σ nx j l' e' rows' σ' nx') (hr:j'=j∨nx≤j') (g:gD q x rr pre sz σ' nx' j' l'' e'' rows'' σ'' nx''):
  gD q x rr pre sz σ nx j l'' e'' rows'' σ'' nx'':=by
 have h1:=h.le;have h2:=g.le;obtain ⟨j2,g1,g2⟩:=g.row;refine ⟨by omega,⟨j2,g1,?_⟩,fun i a b c d=>by rw [g.old i (by omega) b c (by omega),h.old i a b c d]⟩;rcases g2 with rfl | g2
 ·exact hr
 ·exact .inr (by omega)
theorem eJ.app (h:eJ q x rr pre sz σ nx j l e rows) (y:List T):
  gD q x rr pre sz σ nx j l e (rows++[y]) (aB (aB (aB σ j .dead) nx (.arr sz (rows++[y]))) x (.box (pre++[.ref nx]))) (nx+1):=by
 have h1:=h.ql;have h2:=h.xl;have h3:=h.jl;have h4:=h.rl;refine ⟨by omega,⟨nx,⟨?_,by simp [aB],?_,?_,by omega,by omega,by omega,by omega⟩,.inr (Nat.le_refl _)⟩,fun i a b c d=>by simp [aB,c,d,Nat.ne_of_lt a]⟩
 ·simp [aB,h.qx,h.qj,Nat.ne_of_lt h1,h.fq]
 ·simp [aB,Ne.symm (Nat.ne_of_lt h2)]
 ·simp [aB,Ne.symm h.xr,h.rj,Nat.ne_of_lt h4,h.fr]
end
theorem aB3 {α:Type} (rd:Rd α) (f:α→List T) {g:FuncId} {caps:List AV} {q x rr:Nat} {pre:List AV} {sz:Nat} {σ:Nat→aG} {nx j:Nat} {l:List Nat} {e:Int}
  (h:eJ q x rr pre sz σ nx j l e []) (hl:l.length<2^63) (h8:eM l)
  (hrd:∀l',eM l'→eM (rd l' 0).2.1∧(rd l' 0).2.1.length≤l'.length)
  (hstep:∀(σ':Nat→aG) (nx' j':Nat) (l':List Nat) (rows:List (List T)),eJ q x rr pre sz σ' nx' j' l' 0 rows→rows.length<1048576→l'.length<2^63→eM l'→(∀y∈rows,∃a,y=f a)→
   bN P g caps σ' nx' fun _ σ'' nx''=>gD q x rr pre sz σ' nx' j' (rd l' 0).2.1 (rd l' 0).2.2 (rows++[f (rd l' 0).1]) σ'' nx''):
  bN P 100 [.ptr q 0,.fn (.func g) [] caps] σ nx fun _ σ' nx'=>gD q x rr pre sz σ nx j (kG rd l e).2.1 (kG rd l e).2.2 ((kG rd l e).1.map f) σ' nx':=by
 obtain ⟨c1,c2,c3⟩:=aBS h8 e
 have key:=aUF h.fq h.ql hl h8 g caps (fun k σ' nx'=>∃zs l' e',eL rd k (dT l e).2.1 (dT l e).2.2=(zs,l',e')∧zs.length=k∧eM l'∧l'.length≤l.length∧gD q x rr pre sz σ nx j l' e' (zs.map f) σ' nx')
  ⟨[],_,_,rfl,rfl,c3,c2,h.read _ _⟩ (fun k σ' nx' ⟨zs,l',e',_,_,_,_,g5⟩=>⟨g5.le,by
   obtain ⟨j',r,_⟩:=g5.row
   exact ⟨l',e',r.fq⟩⟩) (fun k σ' nx' l0 ⟨zs,l',e',g1,g2,g3,g4,g5⟩ hq hk=>by
   obtain ⟨j',r,hj⟩:=g5.row
   have e1:=r.fq.symm.trans hq
   simp only [cJ,aG.box.injEq,List.cons.injEq,AV.t.injEq,T.v.injEq,Value.int.injEq,true_and,and_true] at e1
   obtain ⟨_,rfl⟩:=e1
   have hlen:(zs.map f).length<1048576:=by rw [List.length_map];omega
   refine (hstep σ' nx' j' l' (zs.map f) r hlen (by omega) g3 (fun y hy=>?_)).mono fun _ σ'' nx'' F=>?_
   ·obtain ⟨a,_,rfl⟩:=List.mem_map.1 hy
    exact ⟨a,rfl⟩
   ·obtain ⟨b1,b2⟩:=hrd l' g3
    refine ⟨zs++[(rd l' 0).1],_,_,aNP g1 g2,by simp [g2],b1,Nat.le_trans b2 g4,?_⟩
    have:=g5.trans hj F
    rw [List.map_append]
    exact this)
 refine key.mono fun _ σ' nx' ⟨k,⟨zs,l',e',g1,g2,g3,g4,g5⟩,hor⟩=>?_
 have hk:eL rd (dT l e).1 (dT l e).2.1 (dT l e).2.2=(zs,l',e'):=by
  rcases hor with rfl | ⟨hk,l2,e2,hq,he⟩
  ·exact g1
  ·obtain ⟨j',r,hj⟩:=g5.row;have e1:=r.fq.symm.trans hq;simp only [cJ,aG.box.injEq,List.cons.injEq,AV.t.injEq,T.v.injEq,Value.int.injEq,true_and,and_true] at e1;refine aNQ g1 g2 (by omega) (.inr (by rw [e1.2];exact he))
 show gD q x rr pre sz σ nx j (eL rd _ _ _).2.1 (eL rd _ _ _).2.2 ((eL rd _ _ _).1.map f) σ' nx';rw [hk];exact g5
end Go.Proofs.YtnoifgjiipgpoaaGreatDoor
namespace Go.Proofs.YtnoifgjiipgpoaaGreatDoor
open Go Go.Proofs.YtnoifgjiipgpoaaGreatDoor.R
set_option maxRecDepth 4000
def jM {α:Type} (rd:Rd α):Prop:=∀l e,eM l→eM (rd l e).2.1∧(rd l e).2.1.length≤l.length
theorem jM.pair {α β:Type} {f:Rd α} {g:Rd β} (h:jM f) (h':jM g):jM (gK f g):=fun l e hl=>by obtain ⟨a1,a2⟩:=h l e hl;obtain ⟨b1,b2⟩:=h' _ (f l e).2.2 a1;exact ⟨b1,Nat.le_trans b2 a2⟩
theorem pY:jM lV:=fun l e h=>⟨(tH h e).2.2,(tH h e).2.1⟩
theorem aFM:jM wide:=fun l e h=>⟨(rW h e).2.2,(rW h e).2.1⟩
theorem aNF:jM gN:=fun l e h=>(pY.pair (pY.pair (pY.pair (pY.pair (pY.pair (aFM.pair (aFM.pair (aFM.pair (pY.pair pY))))))))) l e h
theorem aNM {α:Type} {rd:Rd α} (h:jM rd):∀n,jM (eL rd n)
 |0=>fun l e hl=>⟨hl,Nat.le_refl _⟩
 |n+1=>fun l e hl=>by
  rw [eL];split
  ·exact ⟨hl,Nat.le_refl _⟩
  ·obtain ⟨a1,a2⟩:=h l e hl;obtain ⟨b1,b2⟩:=aNM h n _ (rd l e).2.2 a1;exact ⟨b1,Nat.le_trans b2 a2⟩
theorem jM.each {α:Type} {rd:Rd α} (h:jM rd):jM (kG rd):=fun l e hl=>by obtain ⟨_,a2,a1⟩:=aBS hl e;obtain ⟨b1,b2⟩:=aNM h (dT l e).1 _ (dT l e).2.2 a1;exact ⟨b1,Nat.le_trans b2 a2⟩
theorem aND:jM fZ:=aNF.each
theorem aNE:jM eX:=aND.each
theorem aWU {q x rr:Nat} {σ:Nat→aG} {nx j:Nat} {l:List Nat} {rows:List (List T)} (h:eJ q x rr [] 10 σ nx j l 0 rows) (hn:rows.length<1048576) (hl:l.length<2^63) (h8:eM l) (hr:∀y∈rows,∃a:bP,y=a.t):
  bN P 147 [.ptr x 0,.ptr rr 0] σ nx fun _ σ'' nx''=>gD q x rr [] 10 σ nx j (gN l 0).2.1 (gN l 0).2.2 (rows++[(gN l 0).1.t]) σ'' nx'':=by
 have hx:=h.fx;rw [List.nil_append] at hx;have hy:∀y∈rows,y.length=10:=fun y hy=>by obtain ⟨a,rfl⟩:=hr y hy;rfl
 refine cA Tryz.func147 rfl rfl (by simp [Tryz.f147]) fun B hB hnx hσ=>?_
 simp only [Tryz.f147] at hB ⊢;refine bK [2,4,5] rfl (by rw [hB];kernel_rfl) ?_;refine qN rfl (v:=.ref j) (by simp [go_sem,hx]) (by decide) ?_;refine aAO rfl (v:=.ptr q 0) (by simp [go_sem,h.fr]) (by kernel_rfl) ?_;refine o8 rfl rfl rfl (args:=[.ptr q 0]) (f:=148) (by simp [go_sem]) (bDU h.fq h.ql hl h8) (by decide) ?_ ?_
 ·intro p hp;rw [List.mem_singleton] at hp;subst hp;refine .inr (kF (e:=.none) rfl rfl ?_);have:=(h.rd (gN l 0).2.1 (gN l 0).2.2).fx;simp [go_sem,aB,Ne.symm h.qx,hx]
 have h':=h.rd (gN l 0).2.1 (gN l 0).2.2;have hrd:=h.read (gN l 0).2.1 (gN l 0).2.2;generalize (gN l 0).1=s at *;generalize (gN l 0).2=a at *;have hxq:=Ne.symm h.qx;have hjq:=Ne.symm h.qj;have hxj:=h.xj;have hm:bH=4294967296:=rfl;have hm1:rows.length+1≤bH:=by omega
 refine kT rfl (v:=.fsl [s.t]) (by simp [go_sem,bP.t]) ?_;refine qO (v:=.ref nx) (e:=.next j (.arr 10 (rows++[s.t]))) rfl (by simp [go_sem,hjq,h.fj,hm1,hy,bP.t]) (by decide) ?_ ?_
 ·intro p hp;rw [List.mem_singleton] at hp;subst hp;exact .inl (by kernel_rfl)
 refine qO (v:=.tup []) (e:=.set x (.box [.ref nx])) rfl (by simp [go_sem,hxq,hxj,hx,Nat.ne_of_lt h.xl]) (by decide) ?_ ?_
 ·intro p hp;rw [List.mem_singleton] at hp;subst hp;exact .inl (by kernel_rfl)
 refine tY rfl ?_;refine bG hB 10 ?_;simp [go_sem];exact hrd.trans (.inl rfl) (h'.app s.t)
theorem gD.pre {q x rr:Nat} {pre:List AV} {sz:Nat} {σ σ1 σ':Nat→aG} {nx nx1 nx' j:Nat} {l:List Nat} {e:Int} {rows:List (List T)} (h:gD q x rr pre sz σ1 nx1 j l e rows σ' nx') (hle:nx≤nx1) (ho:∀i,i<nx→i≠q→σ1 i=σ i):
  gD q x rr pre sz σ nx j l e rows σ' nx':=by
 have h1:=h.le;obtain ⟨j',g1,g2⟩:=h.row;exact ⟨by omega,⟨j',g1,g2.imp id fun g=>by omega⟩,fun i a b c d=>by rw [h.old i (by omega) b c d,ho i a b]⟩
theorem aZ1 {q x rr:Nat} {σ:Nat→aG} {nx j:Nat} {l:List Nat} {rows:List (List T)} (h:eJ q x rr [] 1 σ nx j l 0 rows) (hn:rows.length<1048576) (hl:l.length<2^63) (h8:eM l) (hr:∀y∈rows,∃a:lI,y=[iQ a]):
  bN P 146 [.ptr rr 0,.ptr x 0] σ nx fun _ σ'' nx''=>gD q x rr [] 1 σ nx j (fZ l 0).2.1 (fZ l 0).2.2 (rows++[[iQ (fZ l 0).1]]) σ'' nx'':=by
 refine bN.known (by simp [mN,Tryz.func146,Tryz.f146]) fun hk=>?_
 have hx:=h.fx;rw [List.nil_append] at hx;have hy:∀y∈rows,y.length=1:=fun y hy=>by obtain ⟨a,rfl⟩:=hr y hy;rfl
 have hxq:=Ne.symm h.qx;have hjq:=Ne.symm h.qj;have hxj:=h.xj;have hm:bH=4294967296:=rfl;have hm1:rows.length+1≤bH:=by omega
 have q1:=h.ql;have x1:=h.xl;have j1:=h.jl;have r1:=h.rl;refine cA Tryz.func146 rfl rfl (by simp [Tryz.f146]) fun B hB hnx hσ=>?_
 simp only [Tryz.f146] at hB ⊢;refine bG hB 20 ?_;simp [go_sem,h.fr,Nat.ne_of_lt r1];refine iB (aH.ownB (b:=nx) (off:=0) (sz:=10) (cs:=[.fsl []]) (by simp [aB]) rfl) ?_
 have row:eJ q nx rr [] 10 (aB (aB (aB σ nx (.box [.fsl []])) nx (.box [.ref (nx+1)])) (nx+1) (.arr 10 [])) (nx+2) (nx+1) l 0 []:=by
  refine ⟨?_,by simp [aB],by simp [aB],?_,by omega,by omega,by omega,by omega⟩
  ·simp [aB,show q≠nx by omega,show q≠nx+1 by omega,h.fq]
  ·simp [aB,show rr≠nx by omega,show rr≠nx+1 by omega,h.fr]
 refine dX rfl rfl rfl (args:=[.ptr q 0,.fn (.func 147) [] [.ptr nx 0,.ptr rr 0]]) (f:=100) (by simp [go_sem]) (by simp [go_sem,hB]) (aB3 gN bP.t row hl h8 (fun l' h=>aNF l' 0 h) (fun σ' nx' j' l' rows R a b c d=>aWU R a b c d)) ?_;intro r σ' nx' F
 replace F:gD q nx rr [] 10 (aB (aB (aB σ nx (.box [.fsl []])) nx (.box [.ref (nx+1)])) (nx+1) (.arr 10 [])) (nx+2) (nx+1) (fZ l 0).2.1 (fZ l 0).2.2 ((fZ l 0).1.map bP.t) σ' nx':=F
 have hle:=F.le;obtain ⟨j',R,hj⟩:=F.row;have hj':nx≤j':=by omega
 have hold:∀i,i<nx→i≠q→σ' i=σ i:=fun i hi hiq=>by rw [F.old i (by omega) hiq (by omega) (by omega)];simp [aB,show i≠nx by omega,show i≠nx+1 by omega]
 have hRx:=R.fx;rw [List.nil_append] at hRx;refine iB (aH.freeze (q:=j') R.fj) ?_;refine iB (t:=⟨sl [(1,.ptr x 0),(2,.ptr nx 0)],fun i=>if i=q then cJ (fZ l 0).2.1 (fZ l 0).2.2 else if i<nx then σ i else if i=nx then .box [.t (iQ (fZ l 0).1)] else .dead,nx'⟩) (aH.of (by simp [go_sem,bB]) (fun i=>?_) rfl) ?_
 ·dsimp only;have hqj:=R.qj;have hxj':=R.xj;by_cases hi:i=q
  ·subst hi;right;rw [if_pos rfl,if_neg hqj,R.fq];rfl
  ·rw [if_neg hi];by_cases hi2:i<nx
   ·right;rw [if_pos hi2,if_neg (by omega),hold i hi2 hi];rcases hk i with e | ⟨e,_⟩
    ·rw [e];rfl
    ·exact (yC hj' _ e).symm
   ·rw [if_neg hi2];by_cases hi3:i=nx
    ·subst hi3;right;rw [if_pos rfl,if_neg hxj',hRx];simp [dC,bB.frzL,bB,iQ,fZ]
    ·exact .inl (by rw [if_neg hi3])
 obtain ⟨σ3,h3⟩:∃σ3:Nat→aG,σ3=fun i=>if i=q then cJ (fZ l 0).2.1 (fZ l 0).2.2 else if i<nx then σ i else if i=nx then .box [.t (iQ (fZ l 0).1)] else .dead:=⟨_,rfl⟩
 rw [←h3];have g0:σ3 nx= .box [.t (iQ (fZ l 0).1)]:=by rw [h3];simp [show nx≠q by omega]
 have R3:eJ q x rr [] 1 σ3 nx' j (fZ l 0).2.1 (fZ l 0).2.2 rows:=by
  refine ⟨by rw [h3];simp,?_,?_,?_,by omega,by omega,by omega,by omega⟩
  ·rw [h3];simp only [if_neg hxq,if_pos x1];exact h.fx
  ·rw [h3];simp only [if_neg hjq,if_pos j1];exact h.fj
  ·rw [h3];simp only [if_neg (Ne.symm h.qr),if_pos r1];exact h.fr
 have hR3x:=R3.fx;rw [List.nil_append] at hR3x;generalize iQ (fZ l 0).1=y at *;refine aI ?_;simp [go_sem,g0,hR3x,R3.fj,hm1,hy,hxj,show x≠nx' by omega];refine (?_:∀S,gD q x rr [] 1 σ nx j _ _ _ S (nx'+1)→nx≤nx'+1∧gD q x rr [] 1 σ nx j _ _ _ S (nx'+1)) _ ?_
 ·exact fun S hS=>⟨by omega,hS⟩
 ·exact (R3.app [y]).pre (by omega) fun i hi hiq=>by rw [h3];simp only [if_neg hiq,if_pos hi]
theorem aZ0 {σ:Nat→aG} {nx q:Nat} {l:List Nat} {e:Int} (h:σ q=cJ l e) (hq:q<nx) (hl:l.length<2^63) (h8:eM l):
  aT P 102 [.ptr q 0] σ nx (.agg ((fA (eX l e).1).map .t)) (aB σ q (cJ (eX l e).2.1 (eX l e).2.2)) nx:=by
 refine fO (P:=P) Tryz.func102 rfl rfl (by simp [Tryz.f102]) hq (by simp [go_sem]) (by simp [go_sem,fA]) fun hk B hB hnx hσ=>?_
 simp only [Tryz.f102] at hB ⊢;refine bG hB 40 ?_;simp [go_sem,Nat.add_assoc];refine iB (aH.ownB (b:=nx+2) (off:=0) (sz:=1) (cs:=[.fsl []]) (by simp [aB]) rfl) ?_;have row:eJ q (nx+2) nx [] 1 (aB (aB (aB (aB (aB σ nx (.box [.ptr q 0])) (nx+1) (.box [.fsl []])) (nx+2) (.box [.fsl []])) (nx+2) (.box [.ref (nx+3)])) (nx+3) (.arr 1 [])) (nx+4) (nx+3) l e []:=by refine ⟨?_,by simp [aB],by simp [aB],by simp [aB],by omega,by omega,by omega,by omega⟩;simp [aB,show q≠nx by omega,show q≠nx+1 by omega,show q≠nx+2 by omega,show q≠nx+3 by omega,h]
 refine dX rfl rfl rfl (args:=[.ptr q 0,.fn (.func 146) [] [.ptr nx 0,.ptr (nx+2) 0]]) (f:=100) (by simp [go_sem]) (by simp [go_sem,hB]) (aB3 fZ (fun l=>[iQ l]) row hl h8 (fun l' h=>aND l' 0 h) (fun σ' nx' j' l' rows R a b c d=>aZ1 R a b c d)) ?_;intro r σ' nx' F
 replace F:gD q (nx+2) nx [] 1 (aB (aB (aB (aB (aB σ nx (.box [.ptr q 0])) (nx+1) (.box [.fsl []])) (nx+2) (.box [.fsl []])) (nx+2) (.box [.ref (nx+3)])) (nx+3) (.arr 1 [])) (nx+4) (nx+3) (eX l e).2.1 (eX l e).2.2 ((eX l e).1.map fun l=>[iQ l]) σ' nx':=F
 have hle:=F.le;obtain ⟨j',R,hj⟩:=F.row;have hj':nx+3≤j':=by omega
 have hold:∀i,i<nx→i≠q→σ' i=σ i:=fun i hi hiq=>by rw [F.old i (by omega) hiq (by omega) (by omega)];simp [aB,show i≠nx by omega,show i≠nx+1 by omega,show i≠nx+2 by omega,show i≠nx+3 by omega]
 have hres:σ' (nx+1)= .box [.fsl []]:=by rw [F.old (nx+1) (by omega) (by omega) (by omega) (by omega)];simp [aB]
 have hRx:=R.fx;rw [List.nil_append] at hRx;refine iB (aH.freeze (q:=j') R.fj) ?_;refine iB (t:=⟨sl [(2,.ptr (nx+1) 0),(3,.ptr (nx+2) 0)],fun i=>if i=q then cJ (eX l e).2.1 (eX l e).2.2 else if i<nx then σ i else if i=nx+1 then .box [.fsl []] else if i=nx+2 then .box ((fA (eX l e).1).map .t) else .dead,nx'⟩) (aH.of (by simp [go_sem,bB]) (fun i=>?_) rfl) ?_
 ·dsimp only;have hqj:=R.qj;have hxj':=R.xj;by_cases hi:i=q
  ·subst hi;right;rw [if_pos rfl,if_neg hqj,R.fq];rfl
  ·rw [if_neg hi];by_cases hi2:i<nx
   ·right;rw [if_pos hi2,if_neg (by omega),hold i hi2 hi];rcases hk i with e | ⟨e,_⟩
    ·rw [e];rfl
    ·exact (yC (by omega) _ e).symm
   ·rw [if_neg hi2];by_cases hi3:i=nx+1
    ·subst hi3;right;rw [if_pos rfl,if_neg (by omega),hres];rfl
    ·rw [if_neg hi3];by_cases hi4:i=nx+2
     ·subst hi4;right;rw [if_pos rfl,if_neg hxj',hRx];simp [dC,bB.frzL,bB,fA,eX]
     ·exact .inl (by rw [if_neg hi4])
 have e1:nx+1≠q:=by omega
 have e2:nx+2≠q:=by omega
 generalize (eX l e).1=y at *;refine bG hB 40 ?_;simp [go_sem,e1,e2,Ne.symm e1,Ne.symm e2,fA,show ¬nx+2<nx by omega,show ¬nx+1<nx by omega];refine ⟨by omega,fun i hi hiq=>?_⟩;rw [if_neg (by omega),if_neg hiq,if_pos hi]
theorem aSB {n:Int} {q x rr:Nat} {σ:Nat→aG} {nx j:Nat} {l:List Nat} {rows:List (List T)} (h:eJ q x rr [.i n] 1 σ nx j l 0 rows) (hn:rows.length<1048576) (hl:l.length<2^63) (h8:eM l) (hr:∀y∈rows,∃a:jP,y=fA a):
  bN P 101 [.ptr x 0,.ptr rr 0] σ nx fun _ σ'' nx''=>gD q x rr [.i n] 1 σ nx j (eX l 0).2.1 (eX l 0).2.2 (rows++[fA (eX l 0).1]) σ'' nx'':=by
 have hx:=h.fx;rw [List.singleton_append] at hx;have hy:∀y∈rows,y.length=1:=fun y hy=>by obtain ⟨a,rfl⟩:=hr y hy;rfl
 refine cA Tryz.func101 rfl rfl (by simp [Tryz.f101]) fun B hB hnx hσ=>?_
 simp only [Tryz.f101] at hB ⊢;refine bK [3,5,7] rfl (by rw [hB];kernel_rfl) ?_;refine kT rfl (v:=.ptr x 1) (by simp [go_sem]) ?_;refine qN rfl (v:=.ref j) (by simp [go_sem,hx]) (by decide) ?_;refine aAO rfl (v:=.ptr q 0) (by simp [go_sem,h.fr]) (by kernel_rfl) ?_;refine o8 rfl rfl rfl (args:=[.ptr q 0]) (f:=102) (by simp [go_sem]) (aZ0 h.fq h.ql hl h8) (by decide) ?_ ?_
 ·intro p hp;rw [List.mem_singleton] at hp;subst hp;refine .inr (kF (e:=.none) rfl rfl ?_);simp [go_sem,aB,Ne.symm h.qx,hx]
 have h':=h.rd (eX l 0).2.1 (eX l 0).2.2;have hrd:=h.read (eX l 0).2.1 (eX l 0).2.2;generalize (eX l 0).1=s at *;generalize (eX l 0).2=a at *;have hxq:=Ne.symm h.qx;have hjq:=Ne.symm h.qj;have hxj:=h.xj;have hm:bH=4294967296:=rfl;have hm1:rows.length+1≤bH:=by omega
 refine kT rfl (v:=.fsl [fA s]) (by simp [go_sem,fA]) ?_;refine qO (v:=.ref nx) (e:=.next j (.arr 1 (rows++[fA s]))) rfl (by simp [go_sem,hjq,h.fj,hm1,hy,fA]) (by decide) ?_ ?_
 ·intro p hp;rw [List.mem_singleton] at hp;subst hp;exact .inl (by kernel_rfl)
 refine kT rfl (v:=.ptr x 1) (by simp [go_sem]) ?_;refine qO (v:=.tup []) (e:=.set x (.box [.i n,.ref nx])) rfl (by simp [go_sem,hxq,hxj,hx,Nat.ne_of_lt h.xl]) (by decide) ?_ ?_
 ·intro p hp;rw [List.mem_singleton] at hp;subst hp;exact .inl (by kernel_rfl)
 refine tY rfl ?_;refine bG hB 10 ?_;simp [go_sem];exact hrd.trans (.inl rfl) (h'.app (fA s))
theorem bGW:IntKind.u8.wrap 72=72:=by decide
theorem bGX:IntKind.u8.wrap 76=76:=by decide
theorem bGY:IntKind.u8.wrap 82=82:=by decide
theorem bGV:IntKind.u8.wrap 49=49:=by decide
theorem aTV:Utf8.decode ⟨#[72,76,82,49]⟩ 0=(72,1):=by kernel_rfl
theorem aTW:Utf8.decode ⟨#[72,76,82,49]⟩ 1=(76,1):=by kernel_rfl
theorem aTX:Utf8.decode ⟨#[72,76,82,49]⟩ 2=(82,1):=by kernel_rfl
theorem aTY:Utf8.decode ⟨#[72,76,82,49]⟩ 3=(49,1):=by kernel_rfl
theorem aSH:(⟨#[72,76,82,49]⟩:ByteArray).size=4:=rfl
attribute [local go_sem] aTV aTW aTX aTY aSH bGW bGX bGY bGV
theorem yO (x:Nat):jM (iJ x):=fun l e h=>⟨(pS h e).2,vH l e⟩
theorem yQ {x:Nat} {l:List Nat} {e:Int} (h:(bM l e).1=x):(iJ x l e).2=(bM l e).2:=by simp only [iJ,if_pos h]
theorem yP {x:Nat} {l:List Nat} {e:Int} (h:¬(bM l e).1=x):(iJ x l e).2=((bM l e).2.1,eR (bM l e).2.2 2):=by simp only [iJ,if_neg h]
theorem aT1 (l:List Nat) (hl:l.length<2^63) (h8:eM l):Pure P 57 [.t (.sl (gF l))] (.tup [(fV l).1.a,.i (fV l).2]):=by
 refine aW Tryz.func57 rfl rfl (by simp [Tryz.f57]) (by simp [aE]) (by simp [aE,aE.bndL,cM.a]) fun B hB hnx=>?_
 simp only [Tryz.f57] at hB ⊢;generalize hpost:(fun (e:Exit) (s:St)=>(e= .ret∨e= .normal)∧∃rs,kK P s _=some rs∧gV s.σ (iK rs)=_)=post;have b1:=yO 72 l 0 h8;generalize ha1:iJ 72 l 0=a1 at b1;have b2:=yO 76 _ a1.2.2 b1.1;generalize ha2:iJ 76 a1.2.1 a1.2.2=a2 at b2;have b3:=yO 82 _ a2.2.2 b2.1;generalize ha3:iJ 82 a2.2.1 a2.2.2=a3 at b3;have b4:=yO 49 _ a3.2.2 b3.1;generalize ha4:iJ 49 a3.2.1 a3.2.2=a4 at b4;have b5:=pY _ a4.2.2 b4.1;generalize ha5:lV a4.2.1 a4.2.2=a5 at b5;have b6:=aNE.each _ a5.2.2 b5.1;generalize ha6:kG eX a5.2.1 a5.2.2=a6 at b6;have hall:mT l 0=(⟨a5.1,a6.1⟩,a6.2):=by simp only [mT,zH,aCV,aEE,gK,ha1,ha2,ha3,ha4,ha5,ha6]
 refine aI ?_;simp [go_sem]
 refine bA (α:=Nat) (fun k=>k≤4) (fun k=>⟨sl [(2,.ptr 0 0),(3,.i 0),(4,.ptr 2 0),(11,.ptr 3 0)],ob [(0,.box [.i 0,.fsl []]),(1,match k with | 0=>cJ l 0 | 1=>cJ a1.2.1 a1.2.2 | 2=>cJ a2.2.1 a2.2.2 | 3=>cJ a3.2.1 a3.2.2 | _=>cJ a4.2.1 a4.2.2),(2,.box [.ptr 1 0]),(3,.iter ⟨#[72,76,82,49]⟩ k)],4⟩) (fun k=>4-k) 0 (Nat.zero_le _)
  (eT.of (by omega) (by simp) (by simp [go_sem]) (by simp [go_sem])) ?_
 intro k hk;rcases (by omega:k=0∨k=1∨k=2∨k=3∨k=4) with rfl | rfl | rfl | rfl | rfl
 ·have hlen:List.length l<2^63:=by omega
  refine aI ?_;simp [go_sem];refine aL rfl rfl rfl (args:=[.ptr 1 0]) (f:=97) (by simp [go_sem]) (by simp [go_sem,hB]) (sX (l:=l) (e:=0) (by simp [go_sem]) hlen) ?_;by_cases hc:(bM l 0).1=72
  ·have ho:=yQ hc;rw [ha1] at ho;refine aI ?_;simp [go_sem,hc];refine Next.mk 1 (by omega) (eT.of (by omega) (by simp) (by simp [go_sem]) (by simp [go_sem,ho])) (by omega)
  ·have ho:=yP hc;rw [ha1] at ho;have hc':¬((bM l 0).1:Int)=72:=by omega
   refine aI ?_;simp [go_sem,hc,hc'];refine aL rfl rfl rfl (args:=[.ptr 1 0,.i 2]) (f:=98) (by simp [go_sem]) (by simp [go_sem,hB]) (nH (l:=(bM l 0).2.1) (e:=(bM l 0).2.2) (by simp [go_sem]) 2) ?_;refine aI ?_;simp [go_sem];refine Next.mk 1 (by omega) (eT.of (by omega) (by simp) (by simp [go_sem]) (by simp [go_sem,ho])) (by omega)
 ·have hlen:List.length a1.2.1<2^63:=by omega
  refine aI ?_;simp [go_sem];refine aL rfl rfl rfl (args:=[.ptr 1 0]) (f:=97) (by simp [go_sem]) (by simp [go_sem,hB]) (sX (l:=a1.2.1) (e:=a1.2.2) (by simp [go_sem]) hlen) ?_;by_cases hc:(bM a1.2.1 a1.2.2).1=76
  ·have ho:=yQ hc;rw [ha2] at ho;refine aI ?_;simp [go_sem,hc];refine Next.mk 2 (by omega) (eT.of (by omega) (by simp) (by simp [go_sem]) (by simp [go_sem,ho])) (by omega)
  ·have ho:=yP hc;rw [ha2] at ho;have hc':¬((bM a1.2.1 a1.2.2).1:Int)=76:=by omega
   refine aI ?_;simp [go_sem,hc,hc'];refine aL rfl rfl rfl (args:=[.ptr 1 0,.i 2]) (f:=98) (by simp [go_sem]) (by simp [go_sem,hB]) (nH (l:=(bM a1.2.1 a1.2.2).2.1) (e:=(bM a1.2.1 a1.2.2).2.2) (by simp [go_sem]) 2) ?_;refine aI ?_;simp [go_sem];refine Next.mk 2 (by omega) (eT.of (by omega) (by simp) (by simp [go_sem]) (by simp [go_sem,ho])) (by omega)
 ·have hlen:List.length a2.2.1<2^63:=by omega
  refine aI ?_;simp [go_sem];refine aL rfl rfl rfl (args:=[.ptr 1 0]) (f:=97) (by simp [go_sem]) (by simp [go_sem,hB]) (sX (l:=a2.2.1) (e:=a2.2.2) (by simp [go_sem]) hlen) ?_;by_cases hc:(bM a2.2.1 a2.2.2).1=82
  ·have ho:=yQ hc;rw [ha3] at ho;refine aI ?_;simp [go_sem,hc];refine Next.mk 3 (by omega) (eT.of (by omega) (by simp) (by simp [go_sem]) (by simp [go_sem,ho])) (by omega)
  ·have ho:=yP hc;rw [ha3] at ho;have hc':¬((bM a2.2.1 a2.2.2).1:Int)=82:=by omega
   refine aI ?_;simp [go_sem,hc,hc'];refine aL rfl rfl rfl (args:=[.ptr 1 0,.i 2]) (f:=98) (by simp [go_sem]) (by simp [go_sem,hB]) (nH (l:=(bM a2.2.1 a2.2.2).2.1) (e:=(bM a2.2.1 a2.2.2).2.2) (by simp [go_sem]) 2) ?_;refine aI ?_;simp [go_sem];refine Next.mk 3 (by omega) (eT.of (by omega) (by simp) (by simp [go_sem]) (by simp [go_sem,ho])) (by omega)
 ·have hlen:List.length a3.2.1<2^63:=by omega
  refine aI ?_;simp [go_sem];refine aL rfl rfl rfl (args:=[.ptr 1 0]) (f:=97) (by simp [go_sem]) (by simp [go_sem,hB]) (sX (l:=a3.2.1) (e:=a3.2.2) (by simp [go_sem]) hlen) ?_;by_cases hc:(bM a3.2.1 a3.2.2).1=49
  ·have ho:=yQ hc;rw [ha4] at ho;refine aI ?_;simp [go_sem,hc];refine Next.mk 4 (by omega) (eT.of (by omega) (by simp) (by simp [go_sem]) (by simp [go_sem,ho])) (by omega)
  ·have ho:=yP hc;rw [ha4] at ho;have hc':¬((bM a3.2.1 a3.2.2).1:Int)=49:=by omega
   refine aI ?_;simp [go_sem,hc,hc'];refine aL rfl rfl rfl (args:=[.ptr 1 0,.i 2]) (f:=98) (by simp [go_sem]) (by simp [go_sem,hB]) (nH (l:=(bM a3.2.1 a3.2.2).2.1) (e:=(bM a3.2.1 a3.2.2).2.2) (by simp [go_sem]) 2) ?_;refine aI ?_;simp [go_sem];refine Next.mk 4 (by omega) (eT.of (by omega) (by simp) (by simp [go_sem]) (by simp [go_sem,ho])) (by omega)
 ·refine aI ?_;simp [go_sem];refine aL rfl rfl rfl (args:=[.ptr 1 0]) (f:=99) (by simp [go_sem]) (by simp [go_sem,hB]) (oM (l:=a4.2.1) (e:=a4.2.2) (by simp [go_sem]) (by simp) (by omega) b4.1) ?_;have e5:(((eC a4.2.1 a4.2.2).1:Nat):Int)=a5.1:=by rw [←ha5];rfl
  have e6:(eC a4.2.1 a4.2.2).2=a5.2:=by rw [←ha5];rfl
  rw [e5,e6];refine aI ?_;simp [go_sem];refine iB (aH.ownB (b:=4) (off:=1) (sz:=1) (cs:=[.i a5.1,.fsl []]) (by simp [go_sem]) rfl) ?_
  refine dX rfl rfl rfl (args:=[.ptr 1 0,.fn (.func 101) [] [.ptr 4 0,.ptr 2 0]]) (f:=100) (by simp [go_sem]) (by simp [go_sem,hB]) (aB3 eX fA (q:=1) (x:=4) (rr:=2) (pre:=[.i a5.1]) (sz:=1) (j:=5) (l:=a5.2.1) (e:=a5.2.2)
   ⟨by simp [go_sem],by simp [go_sem],by simp [go_sem],by simp [go_sem],by simp,by simp,by simp,by simp⟩ (by omega) b5.1 (fun l' h=>aNE l' 0 h) (fun σ' nx' j' l' rows R a b c d=>aSB R a b c d)) ?_
  intro r σ' nx' F;have hle:6≤nx':=F.le;obtain ⟨j',R,hj⟩:=F.row
  replace hj:j'=5∨6≤j':=hj
  have c0:σ' 0= .box [.i 0,.fsl []]:=(F.old 0 (by show 0<6;omega) (by omega) (by omega) (by omega)).trans (by simp [go_sem]);rw [ha6] at R;have c1:=R.fq;have c4:=R.fx;have c2:=R.fr;have cj:=R.fj;rw [List.singleton_append] at c4;have hj0:j'≠0:=by omega
  have hj1:j'≠1:=by omega
  clear F R;by_cases hL:a6.2.1=[]
  ·have hE:mJ l=a6.2.2:=by rw [mJ,hall];simp [hL]
   by_cases he:a6.2.2=0
   ·have hd:fV l=(⟨a5.1,a6.1⟩,0):=by rw [fV,hE,if_pos he,hall]
    refine bG hB 80 ?_;simp [go_sem,c0,c1,c2,c4,hL,he,gF];rw [←hpost];simp [go_sem,c0,c1,c2,c4,cj,hd,cM.a,hj0]
   ·have hd:fV l=(⟨0,[]⟩,a6.2.2):=by rw [fV,hE,if_neg he]
    refine bG hB 80 ?_;simp [go_sem,c0,c1,c2,c4,hL,he,gF];refine bK [5] rfl (by rw [hB];kernel_rfl) ?_;refine kT rfl (v:=.agg [.i 0,.fsl []]) (by simp [go_sem]) ?_;refine qN rfl (v:=.ptr 1 0) (by simp [go_sem,c2]) (by decide) ?_;refine kT rfl (v:=.ptr 1 0) (by simp [go_sem]) ?_;refine kT rfl (v:=.ptr 1 1) (by simp [go_sem]) ?_;refine qN rfl (v:=.i a6.2.2) (by simp [go_sem,c1]) (by decide) ?_;refine qO (v:=.tup []) (e:=.set 0 (.box [.i 0,.fsl []])) rfl (by simp [go_sem,c0]) (by decide) ?_ ?_
    ·intro p hp;simp only [List.mem_cons,List.not_mem_nil,or_false] at hp;rcases hp with rfl | rfl
     ·exact .inr (kF (e:=.none) rfl rfl (by simp [go_sem,c1]))
     ·exact .inr (kF (e:=.none) rfl rfl (by simp [go_sem,c2]))
    refine kT rfl (v:=.i a6.2.2) (by simp [go_sem]) ?_;refine tY rfl ?_;refine bG hB 10 ?_;simp [go_sem];rw [←hpost];simp [go_sem,hd,cM.a]
  ·have hE:mJ l=eR a6.2.2 2:=by rw [mJ,hall];simp [hL]
   have he:eR a6.2.2 2≠0:=x4 _ _ (by decide);have hd:fV l=(⟨0,[]⟩,eR a6.2.2 2):=by rw [fV,hE,if_neg he]
   have hpos:0<a6.2.1.length:=List.length_pos_iff.2 hL;refine bG hB 80 ?_;simp [go_sem,c0,c1,c2,c4,aBN,hpos];refine aL rfl rfl rfl (args:=[.ptr 1 0,.i 2]) (f:=98) (by simp [go_sem]) (by simp [go_sem,hB]) (nH (l:=a6.2.1) (e:=a6.2.2) c1 2) ?_;refine bG hB 80 ?_;simp [go_sem,c0,c1,c2,c4,he];refine bK [5] rfl (by rw [hB];kernel_rfl) ?_;refine kT rfl (v:=.agg [.i 0,.fsl []]) (by simp [go_sem]) ?_;refine qN rfl (v:=.ptr 1 0) (by simp [go_sem,c2]) (by decide) ?_;refine kT rfl (v:=.ptr 1 0) (by simp [go_sem]) ?_;refine kT rfl (v:=.ptr 1 1) (by simp [go_sem]) ?_;refine qN rfl (v:=.i (eR a6.2.2 2)) (by simp [go_sem,c1]) (by decide) ?_;refine qO (v:=.tup []) (e:=.set 0 (.box [.i 0,.fsl []])) rfl (by simp [go_sem,c0]) (by decide) ?_ ?_
   ·intro p hp;simp only [List.mem_cons,List.not_mem_nil,or_false] at hp;rcases hp with rfl | rfl
    ·exact .inr (kF (e:=.none) rfl rfl (by simp [go_sem,c1]))
    ·exact .inr (kF (e:=.none) rfl rfl (by simp [go_sem,c2]))
   refine kT rfl (v:=.i (eR a6.2.2 2)) (by simp [go_sem]) ?_;refine tY rfl ?_;refine bG hB 10 ?_;simp [go_sem];rw [←hpost];simp [go_sem,hd,cM.a]
end Go.Proofs.YtnoifgjiipgpoaaGreatDoor
namespace Go.Proofs.YtnoifgjiipgpoaaGreatDoor
open Go Go.Proofs.YtnoifgjiipgpoaaGreatDoor.R
set_option maxRecDepth 4000
set_option maxHeartbeats 1000000
theorem aSS (l:List Nat):gF l=aS l:=rfl
theorem aFI (l:List Nat):oV (aS l)=some (l.map UInt8.ofNat):=by
 induction l with
 |nil=>rfl
 |cons n l ih=>show (oV (aS l)).map _=_;rw [ih];simp
theorem aO6:∀{a b:List Nat},(∀c∈a,c<256)→(∀c∈b,c<256)→(a.map UInt8.ofNat=b.map UInt8.ofNat↔a=b)
 |[],[],_,_=>by simp
 |[],b :: bs,_,_=>by simp
 |a :: zs,[],_,_=>by simp
 |a :: zs,b :: bs,ha,hb=>by have ih:=aO6 (a:=zs) (b:=bs) (fun c h=>ha c (List.mem_cons_of_mem _ h)) (fun c h=>hb c (List.mem_cons_of_mem _ h));have h1:=ha a List.mem_cons_self;have h2:=hb b List.mem_cons_self;simp only [List.map_cons,List.cons.injEq,ih];refine and_congr_left' ⟨fun h=>?_,fun h=>by rw [h]⟩;have:=congrArg UInt8.toNat h;simp at this;omega
theorem aL3:Pure P 19 [] (.t (.sl (aS [48,10]))):=by
 refine aW Tryz.func19 rfl rfl (by simp [Tryz.f19]) (by simp [aE,aE.bndL]) (by simp [aE,aE.bndL]) fun B hB hnx=>?_
 simp only [Tryz.f19] at hB ⊢;refine bG hB 6 ?_;simp [go_sem];refine aF1 (es:=aS [48,10]) rfl rfl rfl rfl rfl tR rfl wI rfl (by simp [go_sem,aS]) (by simp [go_sem,hB]) (by simp [go_sem,hB]) ?_;refine aD ?_;simp [go_sem]
theorem aR5 (a b:List Nat) (ha:∀c∈a,c<256) (hb:∀c∈b,c<256):Pure P 108 [.t (.sl (aS a)),.t (.sl (aS b))] (.b (decide (a=b))):=by
 generalize hR:decide (a=b)=R;refine aW Tryz.func108 rfl rfl (by simp [Tryz.f108]) (by simp [aE,aE.bndL]) (by simp [aE,aE.bndL]) fun B hB hnx=>?_
 simp only [Tryz.f108] at hB ⊢;by_cases c:a=b
 ·have:R=true:=by rw [←hR];exact decide_eq_true c
  subst c;refine aD ?_;simp [go_sem,aFI,this]
 ·have:R=false:=by rw [←hR];exact decide_eq_false c
  have c':¬a.map UInt8.ofNat=b.map UInt8.ofNat:=fun h=>c ((aO6 ha hb).1 h)
  refine aD ?_;simp [go_sem,aFI,this,c']
def aA.costT (x:aA) (b:List Nat):Int×Int:=if b=[48,10] then (bF,0) else if (jY b).2≠0 then (0,(jY b).2) else x.cost (jY b).1
theorem bAC (b:List Nat):(jY b).1.length≤4097∧∀r∈(jY b).1,r.length≤4097:=by
 have h1:=yR b;have h2:=aC1 b;unfold jY zE;split
 ·exact ⟨by simp,fun r hr=>by cases hr⟩
 ·split
  ·exact ⟨by simp,fun r hr=>by cases hr⟩
  ·exact ⟨h1,fun r hr=>(h2 r hr).2⟩
theorem aSU (x:aA) (b:List Nat) (hl:x.stops.length<2^63) (hb:b.length<2^63) (hb8:∀c∈b,c<256):Pure P 59 [x.a,.t (.sl (aS b))] (.tup [.i (x.costT b).1,.i (x.costT b).2]):=by
 generalize hR:x.costT b=R;refine aW Tryz.func59 rfl rfl (by simp [Tryz.f59]) (by simp [aE,aE.bndL,aA.a]) (by simp [aE,aE.bndL]) fun B hB hnx=>?_
 simp only [Tryz.f59] at hB ⊢;rw [aA.costT] at hR;have h1:=aR5 b [48,10] hb8 (by decide);have h2:=bAK b hb hb8;obtain ⟨h3,h4⟩:=bAC b;have h5:=aTM x (jY b).1 hl (by omega) fun r hr=>by have:=h4 r hr;omega
 clear h3 h4;generalize (jY b).1=p at *;generalize (jY b).2=e at *;refine aD ?_;simp [go_sem,aA.a];refine aL rfl rfl rfl (args:=[]) (f:=19) (by simp [go_sem]) (by simp [go_sem,hB]) ((aL3).spec _ _) ?_;refine aD ?_;simp [go_sem];refine aL rfl rfl rfl (args:=[.t (.sl (aS b)),.t (.sl (aS [48,10]))]) (f:=108) (by simp [go_sem]) (by simp [go_sem,hB]) ((h1).spec _ _) ?_;by_cases c1:b=[48,10]
 ·rw [if_pos c1] at hR;subst hR;refine aD ?_;simp [go_sem,c1];rfl
 rw [if_neg c1] at hR;refine aD ?_;simp [go_sem,c1];refine aL rfl rfl rfl (args:=[.t (.sl (aS b))]) (f:=20) (by simp [go_sem]) (by simp [go_sem,hB]) ((h2).spec _ _) ?_;by_cases c2:e=0
 rotate_left
 ·rw [if_pos c2] at hR;subst hR;refine aD ?_;simp [go_sem,c2]
 rw [if_neg (fun h=>h c2)] at hR;rw [hR] at h5;refine aD ?_;simp [go_sem,c2];refine aL rfl rfl rfl (args:=[x.a,.agg [.t (.sl (p.map aY))]]) (f:=109) (by simp [go_sem,aA.a]) (by simp [go_sem,hB]) ((h5).spec _ _) ?_;refine aD ?_;simp [go_sem]
structure eH where
 status:Int
 low:Int
 up:Int
deriving DecidableEq
def eH.cs (c:eH):List AV:=[.i c.status,.i c.low,.i c.up]
def eH.a (c:eH):AV:=.agg c.cs
def uP (up least:Int):eH:=if up<bF∧up≤least then ⟨2,up,up⟩ else if least=up then ⟨3,least,up⟩ else ⟨4,least,up⟩
theorem aBR:P.eqGuardType P.depth 51=false:=by kernel_rfl
theorem aS5:P.stoodInHeld 51=false:=by kernel_rfl
theorem aBQ (a b:eH):iS P 10000 51 a.a b.a=some (decide (a.status=b.status∧a.low=b.low∧a.up=b.up)):=by simp [go_sem,eH.a,eH.cs,aS5]
theorem aS4 (up least:Int):Pure P 60 [.i up,.i least] ((uP up least).a):=by
 generalize hR:uP up least=R;refine aW Tryz.func60 rfl rfl (by simp [Tryz.f60]) (by simp [aE,aE.bndL]) (by simp [aE,aE.bndL,eH.a,eH.cs]) fun B hB hnx=>?_
 simp only [Tryz.f60] at hB ⊢;rw [uP] at hR;have hi:bF=1152921504606846976:=rfl;rw [hi] at hR;by_cases c1:up<1152921504606846976
 ·by_cases c2:up≤least
  ·rw [if_pos ⟨c1,c2⟩] at hR;subst hR;refine aD ?_;simp [go_sem,c1,c2];rfl
  ·rw [if_neg (fun h=>c2 h.2)] at hR;refine aD ?_;simp [go_sem,c1,c2];refine aAQ (op:=.eql) (t:=51) (t':=51) (x:=.tmp 24) (y:=.tmp 25) (xs:=(⟨4,least,up⟩:eH).cs) (ys:=(⟨4,up,up⟩:eH).cs) rfl rfl (by simp [go_sem,hB]) (by simp [go_sem,eH.cs]) (by simp [go_sem,eH.cs]) aBR (aBQ ⟨4,least,up⟩ ⟨4,up,up⟩) rfl ?_;by_cases c3:least=up
   ·rw [if_pos c3] at hR;subst hR;refine aD ?_;simp [go_sem,c3];rfl
   ·rw [if_neg c3] at hR;subst hR;refine aD ?_;simp [go_sem,c3];rfl
 ·rw [if_neg (fun h=>c1 h.1)] at hR;refine aD ?_;simp [go_sem,c1];refine aAQ (op:=.eql) (t:=51) (t':=51) (x:=.tmp 24) (y:=.tmp 25) (xs:=(⟨4,least,up⟩:eH).cs) (ys:=(⟨4,up,up⟩:eH).cs) rfl rfl (by simp [go_sem,hB]) (by simp [go_sem,eH.cs]) (by simp [go_sem,eH.cs]) aBR (aBQ ⟨4,least,up⟩ ⟨4,up,up⟩) rfl ?_;by_cases c3:least=up
  ·rw [if_pos c3] at hR;subst hR;refine aD ?_;simp [go_sem,c3];rfl
  ·rw [if_neg c3] at hR;subst hR;refine aD ?_;simp [go_sem,c3];rfl
structure aQ where
 s:aF
 cost:Int
 part:Int
def aQ.t (n:aQ):List T:=[.i n.s.spot,.i n.s.car,.i n.s.time,.i n.s.load,.i n.s.first,.v (.int .u64 n.s.must),.v (.int .u64 n.s.can),.v (.int .u64 n.s.on),.i n.cost,.i n.part]
def aQ.cs (n:aQ):List AV:=[.i n.s.spot,.i n.s.car,.i n.s.time,.i n.s.load,.i n.s.first,.u n.s.must,.u n.s.can,.u n.s.on,.i n.cost,.i n.part]
def aQ.a (n:aQ):AV:=.agg n.cs
def cE (l:List aQ):List T:=[.sl (l.map aQ.t)]
def cB (p:List (List aQ)):List T:=[.sl (p.map cE)]
structure bE where
 least:Int
 parts:List (List (List aQ))
def bE.cs (p:bE):List AV:=[.i p.least,.t (.sl (p.parts.map cB))]
def bE.a (p:bE):AV:=.agg p.cs
def cX (x:aA) (p:bE) (D:AV):List AV:=[.t (.i x.pairs),.t (.i x.cars),.t (.i x.room),.t (.sl (x.stops.map aR.t)),.i p.least,.t (.sl (p.parts.map cB)),D]
def aA.spotB (x:aA) (p:bE) (n:aQ):Bool:=
 n.s.mayB x&&decide (n.cost≥0)&&decide (n.cost≤1152921504606846976)&&decide (n.part≥0)&&decide (n.part≤p.parts.length)
theorem aS3 (x:aA) (p:bE) (n:aQ) (D:AV) (hx:0≤x.pairs∧x.pairs≤16) {σ:Nat→aG} {nx c:Nat} (hc:c<nx) (hσ:σ c= .box (cX x p D)):
  aT P 150 [.ptr c 0,n.a] σ nx (.b (x.spotB p n)) σ nx:=by
 generalize hR:x.spotB p n=R;refine iM Tryz.func150 rfl rfl (by simp [Tryz.f150]) (by simp [aE]) fun hk B hB hnx hσB=>?_
 simp only [Tryz.f150] at hB ⊢;have hc1:¬c=nx:=by omega
 have hc2:¬c=nx+1:=by omega
 have w1:=aO (2*x.pairs) (by omega);have hpl:(p.parts.map cB).length=p.parts.length:=List.length_map _;rw [aA.spotB,aF.mayB] at hR;refine aD ?_;simp [go_sem,aQ.a,aQ.cs];refine bK [] rfl (by rw [hB];kernel_rfl) ?_;have fin:∀(a b:aG) (i:Nat),i<nx→aB (aB σ nx a) (nx+1) b i=σ i:=fun a b i h=>by simp [aB,show ¬i=nx by omega,show ¬i=nx+1 by omega]
 by_cases c1:0≤n.s.spot
 rotate_left
 ·simp [c1] at hR;subst hR;refine aD ?_;simp [go_sem,c1,hσ,hc1,hc2,cX,w1,hpl];refine bK [] rfl (by rw [hB];kernel_rfl) ?_;refine aD ?_;simp [go_sem];exact ⟨by omega,fun i h=>by simp [aB,show ¬i=nx by omega,show ¬i=nx+1 by omega]⟩
 by_cases c2:n.s.spot≤2*x.pairs
 rotate_left
 ·simp [c1,c2] at hR;subst hR;refine aD ?_;simp [go_sem,c1,c2,hσ,hc1,hc2,cX,w1,hpl];refine bK [] rfl (by rw [hB];kernel_rfl) ?_;refine aD ?_;simp [go_sem];exact ⟨by omega,fun i h=>by simp [aB,show ¬i=nx by omega,show ¬i=nx+1 by omega]⟩
 by_cases c3:1≤n.s.car
 rotate_left
 ·simp [c1,c2,c3] at hR;subst hR;refine aD ?_;simp [go_sem,c1,c2,c3,hσ,hc1,hc2,cX,w1,hpl];refine bK [] rfl (by rw [hB];kernel_rfl) ?_;refine aD ?_;simp [go_sem];exact ⟨by omega,fun i h=>by simp [aB,show ¬i=nx by omega,show ¬i=nx+1 by omega]⟩
 by_cases c4:n.s.car≤x.cars
 rotate_left
 ·simp [c1,c2,c3,c4] at hR;subst hR;refine aD ?_;simp [go_sem,c1,c2,c3,c4,hσ,hc1,hc2,cX,w1,hpl];refine bK [] rfl (by rw [hB];kernel_rfl) ?_;refine aD ?_;simp [go_sem];exact ⟨by omega,fun i h=>by simp [aB,show ¬i=nx by omega,show ¬i=nx+1 by omega]⟩
 refine aD ?_;simp [go_sem,c1,c2,c3,c4,hσ,hc1,hc2,cX,w1,hpl];refine bK [] rfl (by rw [hB];kernel_rfl) ?_;by_cases c5:0≤n.s.time
 rotate_left
 ·simp [c1,c2,c3,c4,c5] at hR;subst hR;refine aD ?_;simp [go_sem,c1,c2,c3,c4,c5,hσ,hc1,hc2,cX,w1,hpl];exact ⟨by omega,fun i h=>by simp [aB,show ¬i=nx by omega,show ¬i=nx+1 by omega]⟩
 by_cases c6:n.s.time≤1073741824
 rotate_left
 ·simp [c1,c2,c3,c4,c5,c6] at hR;subst hR;refine aD ?_;simp [go_sem,c1,c2,c3,c4,c5,c6,hσ,hc1,hc2,cX,w1,hpl];exact ⟨by omega,fun i h=>by simp [aB,show ¬i=nx by omega,show ¬i=nx+1 by omega]⟩
 by_cases c7:0≤n.s.load
 rotate_left
 ·simp [c1,c2,c3,c4,c5,c6,c7] at hR;subst hR;refine aD ?_;simp [go_sem,c1,c2,c3,c4,c5,c6,c7,hσ,hc1,hc2,cX,w1,hpl];exact ⟨by omega,fun i h=>by simp [aB,show ¬i=nx by omega,show ¬i=nx+1 by omega]⟩
 by_cases c8:n.s.load≤1000
 rotate_left
 ·simp [c1,c2,c3,c4,c5,c6,c7,c8] at hR;subst hR;refine aD ?_;simp [go_sem,c1,c2,c3,c4,c5,c6,c7,c8,hσ,hc1,hc2,cX,w1,hpl];exact ⟨by omega,fun i h=>by simp [aB,show ¬i=nx by omega,show ¬i=nx+1 by omega]⟩
 by_cases c9:0≤n.cost
 rotate_left
 ·simp [c1,c2,c3,c4,c5,c6,c7,c8,c9] at hR;subst hR;refine aD ?_;simp [go_sem,c1,c2,c3,c4,c5,c6,c7,c8,c9,hσ,hc1,hc2,cX,w1,hpl];exact ⟨by omega,fun i h=>by simp [aB,show ¬i=nx by omega,show ¬i=nx+1 by omega]⟩
 by_cases c10:n.cost≤1152921504606846976
 rotate_left
 ·simp [c1,c2,c3,c4,c5,c6,c7,c8,c9,c10] at hR;subst hR;refine aD ?_;simp [go_sem,c1,c2,c3,c4,c5,c6,c7,c8,c9,c10,hσ,hc1,hc2,cX,w1,hpl];exact ⟨by omega,fun i h=>by simp [aB,show ¬i=nx by omega,show ¬i=nx+1 by omega]⟩
 by_cases c11:0≤n.part
 rotate_left
 ·simp [c1,c2,c3,c4,c5,c6,c7,c8,c9,c10,c11] at hR;subst hR;refine aD ?_;simp [go_sem,c1,c2,c3,c4,c5,c6,c7,c8,c9,c10,c11,hσ,hc1,hc2,cX,w1,hpl];exact ⟨by omega,fun i h=>by simp [aB,show ¬i=nx by omega,show ¬i=nx+1 by omega]⟩
 by_cases c12:n.part≤p.parts.length
 rotate_left
 ·simp [c1,c2,c3,c4,c5,c6,c7,c8,c9,c10,c11,c12] at hR;subst hR;refine aD ?_;simp [go_sem,c1,c2,c3,c4,c5,c6,c7,c8,c9,c10,c11,c12,hσ,hc1,hc2,cX,w1,hpl];exact ⟨by omega,fun i h=>by simp [aB,show ¬i=nx by omega,show ¬i=nx+1 by omega]⟩
 simp [c1,c2,c3,c4,c5,c6,c7,c8,c9,c10,c11,c12] at hR;subst hR;refine aD ?_;simp [go_sem,c1,c2,c3,c4,c5,c6,c7,c8,c9,c10,c11,c12,hσ,hc1,hc2,cX,w1,hpl];exact ⟨by omega,fun i h=>by simp [aB,show ¬i=nx by omega,show ¬i=nx+1 by omega]⟩
def fL {α:Type} (p:α→Bool):Nat→List α→Int
 |_,[]=>-1
 |i,n :: l=>if p n=true then (i:Int) else fL p (i+1) l
theorem yG {α:Type} (p:α→Bool):∀(i:Nat) (l:List α),(0≤fL p i l)↔l.any p=true
 |_,[]=>by simp [fL]
 |i,n :: l=>by
  rw [fL,List.any_cons];cases h:p n with
  |true=>simp
  |false=>simp [yG p (i+1) l]
theorem sS {α β:Type} (g:α→β) (l:List α) {k:Nat} (h:k<l.length) (h':k<(l.map g).length):(l.map g)[k]'h'=g l[k]:=List.getElem_map g
theorem aWB (l:List (aQ)) (p:aQ→Bool) {σ:Nat→aG} {nx:Nat} {f:FuncId} {caps:List AV} (hl:l.length<2^31) (hf:∀n∈l,aT P f (n.a :: caps) σ nx (.b (p n)) σ nx):
  aT P 198 [.t (.sl (l.map aQ.t)),.fn (.func f) [] caps] σ nx (.i (fL p 0 l)) σ nx:=by
 generalize hR:fL p 0 l=R;refine bN.spec (cA Tryz.func198 rfl rfl (by simp [Tryz.f198]) fun B hB hnx hσ=>?_);simp only [Tryz.f198] at hB ⊢;have hil:(l.map aQ.t).length=l.length:=List.length_map _;have hgt:∀(k:Nat) (h:k<l.length),(l.map aQ.t)[k]'(by rw [hil];exact h)=aQ.t l[k]:=fun k h=>sS aQ.t l h _
 generalize hX:l.map aQ.t=X at *;refine aD ?_;simp [go_sem,hil];refine bA (α:=Nat) (fun k=>k≤l.length∧fL p k (l.drop k)=R) (fun k=>⟨sl [(1,.fn (.func f) [] caps),(0,.t (.sl X)),(7,.i l.length),(8,.i k)],σ,nx⟩) (fun k=>l.length-k) 0 ⟨Nat.zero_le _,hR⟩ (aH.slots (by simp [go_sem]) rfl rfl) ?_;rintro k ⟨g1,g2⟩;refine aI ?_;simp [go_sem];refine bU (fun hk=>?_) (fun hk=>?_)
 ·have hkk:IntKind.i64.wrap ((k:Int)+1)=((k+1:Nat):Int):=by rw [aO ((k:Int)+1) (by omega)];rfl
  have hget:∀h:k<X.length,X[k]'h=aQ.t l[k]:=fun h=>hgt k hk
  have hp:=hf l[k] (List.getElem_mem _);rw [List.drop_eq_getElem_cons hk,fL] at g2;generalize l[k]=n at *;simp [go_sem,hil,hk,hget,aQ.t,aQ.a,aQ.cs];refine aL rfl rfl rfl (args:=n.a :: caps) (f:=f) (by simp [go_sem,aQ.t,aQ.a,aQ.cs]) (by simp [go_sem,hB]) hp ?_;cases h:p n with
  |true=>rw [h,if_pos rfl] at g2;subst g2;refine aD ?_;simp [go_sem]
  |false=>rw [h,if_neg (by simp)] at g2;refine aD ?_;simp [go_sem,hkk];exact Next.mk (k+1) ⟨by omega,g2⟩ (aH.slots (by simp [go_sem]) rfl rfl) (by omega)
 ·have:k=l.length:=by omega
  subst this;rw [List.drop_length,fL] at g2;subst g2;simp [go_sem]
theorem aHI (l:List (aQ)) (p:aQ→Bool) {σ:Nat→aG} {nx:Nat} {f:FuncId} {caps:List AV} (hl:l.length<2^31) (hf:∀n∈l,aT P f (n.a :: caps) σ nx (.b (p n)) σ nx):
  aT P 153 [.t (.sl (l.map aQ.t)),.fn (.func f) [] caps] σ nx (.b (l.any p)) σ nx:=by
 have hi:=aWB l p hl hf;have ha:=yG p 0 l;refine bN.spec (cA Tryz.func153 rfl rfl (by simp [Tryz.f153]) fun B hB hnx hσ=>?_);simp only [Tryz.f153] at hB ⊢;generalize fL p 0 l=i at *;refine aD ?_;simp [go_sem];refine aL rfl rfl rfl (args:=[.t (.sl (l.map aQ.t)),.fn (.func f) [] caps]) (f:=198) (by simp [go_sem]) (by simp [go_sem,hB]) hi ?_;refine aD ?_;simp [go_sem];rw [Bool.eq_iff_iff,decide_eq_true_eq];exact ha
theorem aV9 (l:List (List aQ)) (p:List aQ→Bool) {σ:Nat→aG} {nx:Nat} {f:FuncId} {caps:List AV} (hl:l.length<2^31) (hf:∀n∈l,aT P f (.t (.sl (n.map aQ.t)) :: caps) σ nx (.b (p n)) σ nx):
  aT P 197 [.t (.sl (l.map cE)),.fn (.func f) [] caps] σ nx (.i (fL p 0 l)) σ nx:=by
 generalize hR:fL p 0 l=R;refine bN.spec (cA Tryz.func197 rfl rfl (by simp [Tryz.f197]) fun B hB hnx hσ=>?_);simp only [Tryz.f197] at hB ⊢;have hil:(l.map cE).length=l.length:=List.length_map _;have hgt:∀(k:Nat) (h:k<l.length),(l.map cE)[k]'(by rw [hil];exact h)=cE l[k]:=fun k h=>sS cE l h _
 generalize hX:l.map cE=X at *;refine aD ?_;simp [go_sem,hil];refine bA (α:=Nat) (fun k=>k≤l.length∧fL p k (l.drop k)=R) (fun k=>⟨sl [(1,.fn (.func f) [] caps),(0,.t (.sl X)),(7,.i l.length),(8,.i k)],σ,nx⟩) (fun k=>l.length-k) 0 ⟨Nat.zero_le _,hR⟩ (aH.slots (by simp [go_sem]) rfl rfl) ?_;rintro k ⟨g1,g2⟩;refine aI ?_;simp [go_sem];refine bU (fun hk=>?_) (fun hk=>?_)
 ·have hkk:IntKind.i64.wrap ((k:Int)+1)=((k+1:Nat):Int):=by rw [aO ((k:Int)+1) (by omega)];rfl
  have hget:∀h:k<X.length,X[k]'h=cE l[k]:=fun h=>hgt k hk
  have hp:=hf l[k] (List.getElem_mem _);rw [List.drop_eq_getElem_cons hk,fL] at g2;generalize l[k]=n at *;simp [go_sem,hil,hk,hget,cE];refine aL rfl rfl rfl (args:=.t (.sl (n.map aQ.t)) :: caps) (f:=f) (by simp [go_sem,cE]) (by simp [go_sem,hB]) hp ?_;cases h:p n with
  |true=>rw [h,if_pos rfl] at g2;subst g2;refine aD ?_;simp [go_sem]
  |false=>rw [h,if_neg (by simp)] at g2;refine aD ?_;simp [go_sem,hkk];exact Next.mk (k+1) ⟨by omega,g2⟩ (aH.slots (by simp [go_sem]) rfl rfl) (by omega)
 ·have:k=l.length:=by omega
  subst this;rw [List.drop_length,fL] at g2;subst g2;simp [go_sem]
theorem aTE (l:List (List aQ)) (p:List aQ→Bool) {σ:Nat→aG} {nx:Nat} {f:FuncId} {caps:List AV} (hl:l.length<2^31) (hf:∀n∈l,aT P f (.t (.sl (n.map aQ.t)) :: caps) σ nx (.b (p n)) σ nx):
  aT P 151 [.t (.sl (l.map cE)),.fn (.func f) [] caps] σ nx (.b (l.any p)) σ nx:=by
 have hi:=aV9 l p hl hf;have ha:=yG p 0 l;refine bN.spec (cA Tryz.func151 rfl rfl (by simp [Tryz.f151]) fun B hB hnx hσ=>?_);simp only [Tryz.f151] at hB ⊢;generalize fL p 0 l=i at *;refine aD ?_;simp [go_sem];refine aL rfl rfl rfl (args:=[.t (.sl (l.map cE)),.fn (.func f) [] caps]) (f:=197) (by simp [go_sem]) (by simp [go_sem,hB]) hi ?_;refine aD ?_;simp [go_sem];rw [Bool.eq_iff_iff,decide_eq_true_eq];exact ha
theorem aWA (l:List (List (List aQ))) (p:List (List aQ)→Bool) {σ:Nat→aG} {nx:Nat} {f:FuncId} {caps:List AV} (hl:l.length<2^31) (hf:∀n∈l,aT P f (.agg [.t (.sl (n.map cE))] :: caps) σ nx (.b (p n)) σ nx):
  aT P 154 [.t (.sl (l.map cB)),.fn (.func f) [] caps] σ nx (.i (fL p 0 l)) σ nx:=by
 generalize hR:fL p 0 l=R;refine bN.spec (cA Tryz.func154 rfl rfl (by simp [Tryz.f154]) fun B hB hnx hσ=>?_);simp only [Tryz.f154] at hB ⊢;have hil:(l.map cB).length=l.length:=List.length_map _;have hgt:∀(k:Nat) (h:k<l.length),(l.map cB)[k]'(by rw [hil];exact h)=cB l[k]:=fun k h=>sS cB l h _
 generalize hX:l.map cB=X at *;refine aD ?_;simp [go_sem,hil];refine bA (α:=Nat) (fun k=>k≤l.length∧fL p k (l.drop k)=R) (fun k=>⟨sl [(1,.fn (.func f) [] caps),(0,.t (.sl X)),(7,.i l.length),(8,.i k)],σ,nx⟩) (fun k=>l.length-k) 0 ⟨Nat.zero_le _,hR⟩ (aH.slots (by simp [go_sem]) rfl rfl) ?_;rintro k ⟨g1,g2⟩;refine aI ?_;simp [go_sem];refine bU (fun hk=>?_) (fun hk=>?_)
 ·have hkk:IntKind.i64.wrap ((k:Int)+1)=((k+1:Nat):Int):=by rw [aO ((k:Int)+1) (by omega)];rfl
  have hget:∀h:k<X.length,X[k]'h=cB l[k]:=fun h=>hgt k hk
  have hp:=hf l[k] (List.getElem_mem _);rw [List.drop_eq_getElem_cons hk,fL] at g2;generalize l[k]=n at *;simp [go_sem,hil,hk,hget,cB];refine aL rfl rfl rfl (args:=.agg [.t (.sl (n.map cE))] :: caps) (f:=f) (by simp [go_sem,cB]) (by simp [go_sem,hB]) hp ?_;cases h:p n with
  |true=>rw [h,if_pos rfl] at g2;subst g2;refine aD ?_;simp [go_sem]
  |false=>rw [h,if_neg (by simp)] at g2;refine aD ?_;simp [go_sem,hkk];exact Next.mk (k+1) ⟨by omega,g2⟩ (aH.slots (by simp [go_sem]) rfl rfl) (by omega)
 ·have:k=l.length:=by omega
  subst this;rw [List.drop_length,fL] at g2;subst g2;simp [go_sem]
theorem aTF (l:List (List (List aQ))) (p:List (List aQ)→Bool) {σ:Nat→aG} {nx:Nat} {f:FuncId} {caps:List AV} (hl:l.length<2^31) (hf:∀n∈l,aT P f (.agg [.t (.sl (n.map cE))] :: caps) σ nx (.b (p n)) σ nx):
  aT P 105 [.t (.sl (l.map cB)),.fn (.func f) [] caps] σ nx (.b (l.any p)) σ nx:=by
 have hi:=aWA l p hl hf;have ha:=yG p 0 l;refine bN.spec (cA Tryz.func105 rfl rfl (by simp [Tryz.f105]) fun B hB hnx hσ=>?_);simp only [Tryz.f105] at hB ⊢;generalize fL p 0 l=i at *;refine aD ?_;simp [go_sem];refine aL rfl rfl rfl (args:=[.t (.sl (l.map cB)),.fn (.func f) [] caps]) (f:=154) (by simp [go_sem]) (by simp [go_sem,hB]) hi ?_;refine aD ?_;simp [go_sem];rw [Bool.eq_iff_iff,decide_eq_true_eq];exact ha
def aA.wholeB (x:aA) (p:bE) (q:List (List aQ)):Bool:=match q with
 |[]=>false
 |l :: _=>decide (l.length=1)&& !(q.any fun l=>l.any fun n=>!x.spotB p n)
theorem bHE (x:aA) (p:bE) (n:aQ) (D:AV) (hx:0≤x.pairs∧x.pairs≤16) {σ:Nat→aG} {nx c b:Nat} (hc:c<nx) (hσ:σ c= .box (cX x p D)) (hb:b<nx) (hσb:σ b= .box [.ptr c 0]):
  aT P 149 [n.a,.ptr b 0] σ nx (.b (!x.spotB p n)) σ nx:=by
 refine iM Tryz.func149 rfl rfl (by simp [Tryz.f149]) (by simp [aE]) fun hk B hB hnx hσB=>?_
 simp only [Tryz.f149] at hB ⊢;have hc1:¬c=nx:=by omega
 have hb1:¬b=nx:=by omega
 have hm:=fun σ' (h:σ' c= .box (cX x p D))=>aS3 x p n D hx (σ:=σ') (nx:=nx+1) (by omega) h
 generalize x.spotB p n=r at *;refine aD ?_;simp [go_sem,aQ.a,aQ.cs,hσb,hb1];refine aL rfl rfl rfl (args:=[.ptr c 0,n.a]) (f:=150) (by simp [go_sem,aQ.a,aQ.cs]) (by simp [go_sem,hB]) (hm _ (by simp [aB,hc1,hσ])) ?_;refine aD ?_;simp [go_sem];exact fun i h1 h2=>absurd h2 (by omega)
theorem bHF (x:aA) (p:bE) (l:List aQ) (D:AV) (hx:0≤x.pairs∧x.pairs≤16) (hl:l.length<2^31) {σ:Nat→aG} {nx c b d:Nat} (hc:c<nx) (hσ:σ c= .box (cX x p D)) (hb:b<nx) (hσb:σ b= .box [.ptr c 0]) (hd:d<nx) (hσd:σ d= .box [.fn (.func 149) [] [.ptr b 0]]):
  aT P 152 [.t (.sl (l.map aQ.t)),.ptr d 0] σ nx (.b (l.any fun n=>!x.spotB p n)) σ nx:=by
 refine iM Tryz.func152 rfl rfl (by simp [Tryz.f152]) (by simp [aE]) fun hk B hB hnx hσB=>?_
 simp only [Tryz.f152] at hB ⊢;have hm:=aHI l (fun n=>!x.spotB p n) (σ:=σ) (nx:=nx) (f:=149) (caps:=[.ptr b 0]) hl fun n _=>bHE x p n D hx hc hσ hb hσb
 generalize (l.any fun n=>!x.spotB p n)=r at *;refine aD ?_;simp [go_sem,hσd];refine aL rfl rfl rfl (args:=[.t (.sl (l.map aQ.t)),.fn (.func 149) [] [.ptr b 0]]) (f:=153) (by simp [go_sem]) (by simp [go_sem,hB]) hm ?_;refine aD ?_;simp [go_sem]
theorem bHG (x:aA) (p:bE) (q:List (List aQ)) (D:AV) (hx:0≤x.pairs∧x.pairs≤16) (hl:q.length<2^31) (hl2:∀l∈q,l.length<2^31) {σ:Nat→aG} {nx c:Nat} (hc:c<nx) (hσ:σ c= .box (cX x p D)):
  aT P 104 [.ptr c 0,.agg [.t (.sl (q.map cE))]] σ nx (.b (x.wholeB p q)) σ nx:=by
 refine iM Tryz.func104 rfl rfl (by simp [Tryz.f104]) (by simp [aE]) fun hk B hB hnx hσB=>?_
 simp only [Tryz.f104] at hB ⊢;generalize hR:x.wholeB p q=R;have hc1:¬c=nx:=by omega
 have hc2:¬c=nx+1:=by omega
 have hc3:¬c=nx+2:=by omega
 have hil:(q.map cE).length=q.length:=List.length_map _;have fin:∀(a b d:aG) (i:Nat),i<nx→aB (aB (aB σ nx a) (nx+1) b) (nx+2) d i=σ i:=fun a b d i h=>by simp [aB,show ¬i=nx by omega,show ¬i=nx+1 by omega,show ¬i=nx+2 by omega]
 cases q with
 |nil=>rw [aA.wholeB] at hR;subst hR;refine aD ?_;simp [go_sem];exact ⟨by omega,fun i h=>by simp [aB,show ¬i=nx by omega,show ¬i=nx+1 by omega]⟩
 |cons l0 q0=>
  have hl0:(l0.map aQ.t).length=l0.length:=List.length_map _;have hq0:¬(q0.length:Int)+1=0:=by omega
  have c1':¬l0.length=1→¬(l0.length:Int)=1:=fun h=>by omega
  simp only [aA.wholeB] at hR;by_cases c1:l0.length=1
  ·rw [decide_eq_true c1,Bool.true_and] at hR;have hm:=fun σ' (h1:σ' c= .box (cX x p D)) (h2:σ' nx= .box [.ptr c 0]) (h3:σ' (nx+2)= .box [.fn (.func 149) [] [.ptr nx 0]])=>aTE (l0 :: q0) (fun l=>l.any fun n=>!x.spotB p n) (σ:=σ') (nx:=nx+3) (f:=152) (caps:=[.ptr (nx+2) 0]) hl fun l h=>bHF x p l D hx (hl2 l h) (by omega) h1 (by omega) h2 (by omega) h3
   generalize ((l0 :: q0).any fun l=>l.any fun n=>!x.spotB p n)=r at *;generalize hY:(l0 :: q0).map cE=Y at *;have hY0:∀h:0<Y.length,Y[0]'h=cE l0:=fun h=>by simp only [←hY];rfl
   have hYl:Y.length=q0.length+1:=by rw [←hY];simp
   refine aD ?_;simp [go_sem,c1,hl0,hYl,hY0,cE,hq0];refine aL rfl rfl rfl (args:=[.t (.sl Y),.fn (.func 152) [] [.ptr (nx+2) 0]]) (f:=151) (by simp [go_sem]) (by simp [go_sem,hB]) (hm _ (by simp [aB,hc1,hc2,hc3,hσ]) (by simp [aB,show ¬nx=nx+2 by omega]) (by simp [aB])) ?_;refine aD ?_;simp [go_sem];refine ⟨fun i h=>?_,by rw [←hR];simp⟩;rw [if_neg (by omega),if_neg (by omega),if_neg (by omega),if_neg (by omega)]
  ·rw [decide_eq_false c1,Bool.false_and] at hR;subst hR;refine aD ?_;simp [go_sem,c1,c1' c1,hl0,cE,hq0];exact ⟨by omega,fun i h=>by simp [aB,show ¬i=nx by omega,show ¬i=nx+1 by omega]⟩
theorem aSY (x:aA) (p:bE) (q:List (List aQ)) (D:AV) (hx:0≤x.pairs∧x.pairs≤16) (hl:q.length<2^31) (hl2:∀l∈q,l.length<2^31) {σ:Nat→aG} {nx c b:Nat} (hc:c<nx) (hσ:σ c= .box (cX x p D)) (hb:b<nx) (hσb:σ b= .box [.ptr c 0]):
  aT P 103 [.agg [.t (.sl (q.map cE))],.ptr b 0] σ nx (.b (!x.wholeB p q)) σ nx:=by
 refine iM Tryz.func103 rfl rfl (by simp [Tryz.f103]) (by simp [aE]) fun hk B hB hnx hσB=>?_
 simp only [Tryz.f103] at hB ⊢;have hc1:¬c=nx:=by omega
 have hb1:¬b=nx:=by omega
 have hm:=fun σ' (h:σ' c= .box (cX x p D))=>bHG x p q D hx hl hl2 (σ:=σ') (nx:=nx+1) (by omega) h
 generalize x.wholeB p q=r at *;refine aD ?_;simp [go_sem,hσb,hb1];refine aL rfl rfl rfl (args:=[.ptr c 0,.agg [.t (.sl (q.map cE))]]) (f:=104) (by simp [go_sem]) (by simp [go_sem,hB]) (hm _ (by simp [aB,hc1,hσ])) ?_;refine aD ?_;simp [go_sem];exact fun i h1 h2=>absurd h2 (by omega)
def aA.deadB (x:aA) (s:aF) (c least:Int):Bool:=decide (least≤dL [c,x.low s])
theorem aB0 (x:aA) (s:aF) (c least:Int) (hl:x.stops.length<2^31) (ho:s.ok):Pure P 156 [x.a,s.a,.i c,.i least] (.b (x.deadB s c least)):=by
 have ha:=aGV x s hl ho;have hs:=tQ [c,x.low s] (by simp);rw [aA.deadB];generalize x.low s=d at *;refine aW Tryz.func156 rfl rfl (by simp [Tryz.f156]) (by simp [aE,aE.bndL,aA.a,aF.a,aF.cs]) (by simp [aE,aE.bndL]) fun B hB hnx=>?_
 simp only [Tryz.f156] at hB ⊢;refine aD ?_;simp [go_sem,aA.a,aF.a,aF.cs];refine aL rfl rfl rfl (args:=[x.a,s.a]) (f:=135) (by simp [go_sem,aA.a,aF.a,aF.cs]) (by simp [go_sem,hB]) ((ha).spec _ _) ?_;refine aD ?_;simp [go_sem];refine aL rfl rfl rfl (args:=[.fsl (aJ [c,d])]) (f:=134) (by simp [go_sem,aJ]) (by simp [go_sem,hB]) ((Pure.loose hs (by simp [aE])).spec _ _) ?_;refine aD ?_;simp [go_sem]
def bE.first (p:bE) (k:Nat):Option aQ:=match p.parts[k]? with
 |some ((n :: _) :: _)=>some n
 |_=>none
def bE.leadsB (p:bE) (k:Nat) (n:aQ):Bool:=match p.first (n.part-1).toNat with
 |some f=>decide ((k:Int)<n.part-1)&&(decide (f.s=n.s)&&decide (f.cost≤n.cost))
 |none=>false
theorem aIY {p:bE} {j:Nat} {f:aQ} (h:p.first j=some f):∃(hj:j<p.parts.length) (l0:List aQ) (q0:List (List aQ)),p.parts[j]=(f :: l0) :: q0:=by
 unfold bE.first at h;split at h
 ·rename_i n l0 q0 e;cases h;obtain ⟨h1,h2⟩:=List.getElem?_eq_some_iff.1 e;exact ⟨h1,l0,q0,h2⟩
 ·cases h
theorem aWW (x:aA) (p:bE) (n:aQ) (D:AV) (k j:Nat) {f:aQ} (hj:n.part=j+1) (hf:p.first j=some f) (hpl:p.parts.length<2^31) {σ:Nat→aG} {nx c:Nat} (hc:c<nx) (hσ:σ c= .box (cX x p D)):
  aT P 157 [.ptr c 0,.i k,n.a] σ nx (.b (p.leadsB k n)) σ nx:=by
 generalize hR:p.leadsB k n=R;refine iM Tryz.func157 rfl rfl (by simp [Tryz.f157]) (by simp [aE]) fun hk B hB hnx hσB=>?_
 simp only [Tryz.f157] at hB ⊢;rw [bE.leadsB,hj,show ((j:Int)+1-1).toNat=j by omega,hf] at hR;simp only at hR;obtain ⟨hjl,l0,q0,hpj⟩:=aIY hf;have hc1:¬c=nx:=by omega
 have hc2:¬c=nx+1:=by omega
 have w1:=aO ((j:Int)+1-1) (by omega);have w1':IntKind.i64.wrap (j:Int)=j:=aO _ (by omega);have e1:(j:Int)+1-1=j:=by omega
 rw [e1] at w1 hR;have hYl:(p.parts.map cB).length=p.parts.length:=List.length_map _;have hY:∀h:j<(p.parts.map cB).length,(p.parts.map cB)[j]'h=[.sl ([.sl (f.t :: l0.map aQ.t)] :: q0.map cE)]:=fun h=>by rw [List.getElem_map,hpj];rfl
 have hck:cX x p D=[.t (.i x.pairs),.t (.i x.cars),.t (.i x.room),.t (.sl (x.stops.map aR.t)),.i p.least,.t (.sl (p.parts.map cB)),D]:=rfl;generalize p.parts.map cB=Y at *;have fin:∀(a b:aG) (i:Nat),i<nx→aB (aB σ nx a) (nx+1) b i=σ i:=fun a b i h=>by simp [aB,show ¬i=nx by omega,show ¬i=nx+1 by omega]
 refine aD ?_;simp [go_sem,aQ.a,aQ.cs];refine cT [15,16] [0,1,2,3,4,5,6,7,8,9,10,11,12,13,14] rfl (by rw [hB];kernel_rfl) (by kernel_rfl) fun ht hf'=>?_
 by_cases c3:k<j
 rotate_left
 ·rw [decide_eq_false (by omega),Bool.false_and] at hR;subst hR;refine aD ?_;simp [go_sem,ht,hf',hσ,hc1,hc2,hck,hj,w1,w1',hYl,hjl,hY,aQ.t,c3];exact ⟨by omega,fun i h=>by simp [aB,show ¬i=nx by omega,show ¬i=nx+1 by omega]⟩
 rw [decide_eq_true (by omega),Bool.true_and] at hR;refine aD ?_;simp [go_sem,ht,hf',hσ,hc1,hc2,hck,hj,w1,w1',hYl,hjl,hY,aQ.t,c3];refine aAQ (op:=.eql) (t:=91) (t':=91) (x:=.tmp 30) (y:=.tmp 32) (xs:=f.s.cs) (ys:=n.s.cs) rfl rfl (by simp [go_sem,hB]) (by simp [go_sem,aF.cs]) (by simp [go_sem,aF.cs]) z7 (vW f.s n.s) rfl ?_;by_cases c4:f.s=n.s
 ·rw [decide_eq_true c4,Bool.true_and] at hR;refine aD ?_;simp [go_sem,c4];refine ⟨by omega,fun i h=>?_,hR⟩;rw [if_neg (by omega),if_neg (by omega),if_neg (by omega)]
 ·rw [decide_eq_false c4,Bool.false_and] at hR;subst hR;refine aD ?_;simp [go_sem,c4];exact ⟨by omega,fun i h=>by simp [aB,show ¬i=nx by omega,show ¬i=nx+1 by omega]⟩
theorem aVJ (t:aF) (cost:Int) (n:aQ) {σ:Nat→aG} {nx b1 b2:Nat} (hb1:b1<nx) (hb2:b2<nx) (h1:σ b1= .box [.i cost]) (h2:σ b2= .box t.cs):
  aT P 206 [n.a,.ptr b1 0,.ptr b2 0] σ nx (.b (decide (n.cost≤cost)&&dB n.s t)) σ nx:=by
 refine iM Tryz.func206 rfl rfl (by simp [Tryz.f206]) (by simp [aE]) fun hk B hB hnx hσB=>?_
 simp only [Tryz.f206] at hB ⊢;have hcv:=aHN n.s t;have n1:¬b1=nx:=by omega
 have n2:¬b2=nx:=by omega
 by_cases c1:n.cost≤cost
 ·rw [decide_eq_true c1,Bool.true_and];refine aD ?_;simp [go_sem,aQ.a,aQ.cs,n1,h1,c1,n2,h2,aF.cs];refine aL rfl rfl rfl (args:=[n.s.a,t.a]) (f:=207) (by simp [go_sem,aF.a,aF.cs]) (by simp [go_sem,hB]) ((hcv).spec _ _) ?_;refine aD ?_;simp [go_sem];exact fun i h1 h2=>absurd h2 (by omega)
 ·rw [decide_eq_false c1,Bool.false_and];refine aD ?_;simp [go_sem,aQ.a,aQ.cs,n1,h1,c1];exact fun i h1 h2=>absurd h2 (by omega)
def aA.goB (x:aA) (least:Int) (n:aQ) (next:List aQ) (j:Int):Bool:=
 x.deadB (x.move n.s j).1 (dL [n.cost,(x.move n.s j).2.1]) least||next.any fun m=>decide (m.cost≤dL [n.cost,(x.move n.s j).2.1])&&dB m.s (x.move n.s j).1
def aA.goesB (x:aA) (least:Int) (n:aQ) (next:List aQ):Bool:=(x.moves n.s).all (x.goB least n next)
theorem aVM (x:aA) (p:bE) (n:aQ) (next:List aQ) (D:AV) (hl:x.stops.length<2^31) (ho:n.s.ok) (hnl:next.length<2^31) {σ:Nat→aG} {nx c:Nat} (hc:c<nx) (hσ:σ c= .box (cX x p D)):
  aT P 160 [.ptr c 0,n.a,.t (.sl (next.map aQ.t))] σ nx (.b (x.goesB p.least n next)) σ nx:=by
 generalize hR:x.goesB p.least n next=R
 refine iM Tryz.func160 rfl rfl (by simp [Tryz.f160]) (by simp [aE]) fun hk B hB hnx hσB=>?_
 simp only [Tryz.f160] at hB ⊢;have hms:=aLM x n.s (by omega) ho;have hmv:=fun j=>aLJ x n.s j (by omega) ho
 have hmok:=fun j=>nM x j ho
 have hck:cX x p D=[.t (.i x.pairs),.t (.i x.cars),.t (.i x.room),.t (.sl (x.stops.map aR.t)),.i p.least,.t (.sl (p.parts.map cB)),D]:=rfl;have hgo:∀j,x.goB p.least n next j=(x.deadB (x.move n.s j).1 (dL [n.cost,(x.move n.s j).2.1]) p.least||next.any fun m=>decide (m.cost≤dL [n.cost,(x.move n.s j).2.1])&&dB m.s (x.move n.s j).1):=fun j=>rfl
 have hk33:(x.moves n.s).length<2^63:=by rw [rE];have:=sD (fun k=>(x.move n.s k).2.2) x.stops.length;omega
 have hml:(aJ (x.moves n.s)).length=(x.moves n.s).length:=List.length_map _;have hmg:∀(i:Nat) (h:i<(x.moves n.s).length),(aJ (x.moves n.s))[i]'(by rw [hml];exact h)=[.i ((x.moves n.s)[i])]:=fun i h=>gH _ h
 have hc1:¬c=nx:=by omega
 rw [aA.goesB] at hR;refine aD ?_;simp [go_sem,aQ.a,aQ.cs];refine bK [] rfl (by rw [hB];kernel_rfl) ?_;refine aD ?_;simp [go_sem,hσ,hc1,hck];refine bQ rfl rfl rfl (args:=[x.a,n.s.a]) (f:=204) (by simp [go_sem,aA.a,aF.a,aF.cs]) (hms) ?_;generalize hY:aJ (x.moves n.s)=Y at *;generalize x.moves n.s=M at *;refine aD ?_;simp [go_sem,hml];refine bA (α:=Nat×(Nat→aG)×Nat) (fun (k,τ,ny)=>k≤M.length∧(M.drop k).all (x.goB p.least n next)=R∧(∀i,i<nx→τ i=σ i)∧τ nx= .box n.cs∧nx<ny) (fun (k,τ,ny)=>⟨sl [(0,.ptr c 0),(2,.t (.sl (next.map aQ.t))),(4,.ptr nx 0),(20,.t (.sl Y)),(21,.i M.length),(22,.i k)],τ,ny⟩) (fun a=>M.length-a.1) (0,_,nx+1) ?_ (aH.slots (by simp [go_sem]) rfl rfl) ?_
 ·exact ⟨Nat.zero_le _,hR,fun i h=>by simp [aB,show ¬i=nx by omega],by simp [aB,aQ.cs],by omega⟩
 rintro ⟨k,τ,ny⟩ ⟨g1,g2,g3,g4,g5⟩;refine aI ?_;simp [go_sem];refine bU (fun hi=>?_) (fun hi=>?_)
 ·have hii:IntKind.i64.wrap ((k:Int)+1)=((k+1:Nat):Int):=by rw [aO ((k:Int)+1) (by omega)];rfl
  have hgeti:∀h:k<Y.length,Y[k]'h=[.i M[k]]:=fun h=>hmg k hi
  rw [List.drop_eq_getElem_cons hi,List.all_cons] at g2;generalize M[k]=j at *;have hmj:=hmv j;have hoj:=hmok j;have hgj:=hgo j;generalize x.goB p.least n next j=G at *
  have hτc:τ c= .box (cX x p D):=by rw [g3 c hc,hσ]
  have n1:¬c=ny:=by omega
  have n2:¬nx=ny:=by omega
  have n3:¬c=ny+1:=by omega
  generalize x.move n.s j=V at *;obtain ⟨t,d,is⟩:=V;simp only at hgj hoj;have hsum:=tQ [n.cost,d] (by simp);generalize hcost:dL [n.cost,d]=cost at *;have hdead:=aB0 x t cost p.least hl hoj;have hany:=fun τ' (h1:τ' (ny+1)= .box [.i cost]) (h2:τ' ny= .box t.cs)=>aHI next (fun m=>decide (m.cost≤cost)&&dB m.s t) (σ:=τ') (nx:=ny+2) (f:=206) (caps:=[.ptr (ny+1) 0,.ptr ny 0]) hnl fun m _=>aVJ t cost m (by omega) (by omega) h1 h2
  simp [go_sem,hml,hi,hgeti];refine cT [12,13] [0,1,2,3,4,5,6,7,8,9,10,11] rfl (by rw [hB];kernel_rfl) (by kernel_rfl) fun ht hf'=>?_
  refine aD ?_;simp [go_sem,ht,hf',hτc,hck,g4,aQ.cs];refine bQ rfl rfl rfl (args:=[x.a,n.s.a,.i j]) (f:=205) (by simp [go_sem,aA.a,aF.a,aF.cs]) (hmj) ?_;refine aD ?_;simp [go_sem,ht,hf',mv,aF.a,aF.cs,g4,n1,n2,hτc,hck,aQ.cs];refine aL rfl rfl rfl (args:=[.fsl (aJ [n.cost,d])]) (f:=134) (by simp [go_sem,aJ]) (by simp [go_sem,hB]) ((Pure.loose hsum (by simp [aE])).spec _ _) ?_;have n4:¬ny=ny+1:=by omega
  refine aD ?_;simp [go_sem];refine gQ [16] rfl (by rw [hB];kernel_rfl) (by kernel_rfl) fun ht=>?_
  refine aD ?_;simp [go_sem,ht,hτc,hck,n1,n2,n3,n4];refine bQ rfl rfl rfl (args:=[x.a,t.a,.i cost,.i p.least]) (f:=156) (by simp [go_sem,aA.a,aF.a,aF.cs]) (hdead) ?_;cases hd:x.deadB t cost p.least with
  |true=>rw [hd,Bool.true_or] at hgj;subst hgj;rw [Bool.true_and] at g2;refine aD ?_;simp [go_sem,ht,hii];refine Next.mk (k+1,_,ny+2) ?_ (aH.slots (by simp [go_sem]) rfl rfl) (by simp only;omega);exact ⟨by simp only;omega,g2,fun i h=>by simp [aB,show ¬i=ny by omega,show ¬i=ny+1 by omega,g3 i h],by simp [aB,n2,show ¬nx=ny+1 by omega,g4,aQ.cs],by simp only;omega⟩
  |false=>
   rw [hd,Bool.false_or] at hgj;refine aD ?_;simp [go_sem,ht];refine o8 rfl rfl rfl (args:=[.t (.sl (next.map aQ.t)),.fn (.func 206) [] [.ptr (ny+1) 0,.ptr ny 0]]) (f:=153) (by simp [go_sem]) (hany _ (by simp [aB]) (by simp [aB,n4,aF.cs])) (by decide) (oK (by simp [go_sem])) ?_;rw [hgj] at g2;cases hn:next.any fun m=>decide (m.cost≤cost)&&dB m.s t with
   |true=>rw [hn,Bool.true_and] at g2;refine aD ?_;simp [go_sem,ht,hii];refine Next.mk (k+1,_,ny+2) ?_ (aH.slots (by simp [go_sem]) rfl rfl) (by simp only;omega);exact ⟨by simp only;omega,g2,fun i h=>by simp [aB,show ¬i=ny by omega,show ¬i=ny+1 by omega,g3 i h],by simp [aB,n2,show ¬nx=ny+1 by omega,g4,aQ.cs],by simp only;omega⟩
   |false=>rw [hn,Bool.false_and] at g2;subst g2;refine aD ?_;simp [go_sem,ht];exact ⟨by omega,fun i h=>by simp [aB,show ¬i=ny by omega,show ¬i=ny+1 by omega,g3 i h]⟩
 ·have:k=M.length:=by omega
  subst this;rw [List.drop_length,List.all_nil] at g2;simp [go_sem];exact ⟨by omega,g3,g2.symm⟩
def aA.holdsB (x:aA) (p:bE) (k i:Nat) (n:aQ) (dk:Int):Bool:=
 if x.deadB n.s n.cost p.least=true then true
 else if 0<n.part then p.leadsB k n
 else if (x.endS n.s).2=true∧dL [n.cost,(x.endS n.s).1]<p.least then false
 else if x.deep≤IntKind.i64.wrap (dk+i) then true
 else x.goesB p.least n (((p.parts[k]?).getD []).getD (i+1) [])
theorem aVY (x:aA) (p:bE) (n:aQ) (k i d:Nat) (dl:List Int) (q:List (List aQ)) (hl:x.stops.length<2^31) (ho:n.s.ok) (hpl:p.parts.length<2^31) (hq:p.parts[k]? =some q) (hql:q.length<2^31) (hqn:∀l∈q,l.length<2^31) (hi:i<2^31) (hkd:k<dl.length)
  (hlead:0<n.part→∃j f,n.part=((j:Nat):Int)+1∧p.first j=some f) {σ:Nat→aG} {nx c:Nat} (hc:c<nx) (hσ:σ c= .box (cX x p (.ref d))) (hd:d<nx) (hσd:σ d= .arr 1 (aJ dl)):
  aT P 107 [.ptr c 0,.i k,.i i,n.a] σ nx (.b (x.holdsB p k i n dl[k])) σ nx:=by
 generalize hR:x.holdsB p k i n dl[k]=R;refine iM Tryz.func107 rfl rfl (by simp [Tryz.f107]) (by simp [aE]) fun hk B hB hnx hσB=>?_
 simp only [Tryz.f107] at hB ⊢;have hdead:=aB0 x n.s n.cost p.least hl ho;have hen:=aH7 x n.s (by omega) ho;have hdeep:=aHS x (by omega)
 have hleads:=fun (τ:Nat→aG) (h:0<n.part) (h1:τ c= .box (cX x p (.ref d)))=>match hlead h with
  |⟨j,f,e1,e2⟩=>aWW x p n (.ref d) k j e1 e2 hpl (σ:=τ) (nx:=nx+1) (by omega) h1
 have hck:cX x p (.ref d)=[.t (.i x.pairs),.t (.i x.cars),.t (.i x.room),.t (.sl (x.stops.map aR.t)),.i p.least,.t (.sl (p.parts.map cB)),.ref d]:=rfl;have hc1:¬c=nx:=by omega
 have hd1:¬d=nx:=by omega
 rw [aA.holdsB,hq,Option.getD_some] at hR;obtain ⟨hkp,hqk⟩:=List.getElem?_eq_some_iff.1 hq;have hYl:(p.parts.map cB).length=p.parts.length:=List.length_map _;have hY:∀h:k<(p.parts.map cB).length,(p.parts.map cB)[k]'h=[.sl (q.map cE)]:=fun h=>by rw [List.getElem_map,hqk];rfl
 have hdl:(aJ dl).length=dl.length:=List.length_map _;have hdg:∀h:k<(aJ dl).length,(aJ dl)[k]'h=[.i dl[k]]:=fun h=>gH _ hkd
 have hQl:(q.map cE).length=q.length:=List.length_map _;have hgoes:=fun (τ:Nat→aG) (next:List aQ) (hn:next.length<2^31) (h1:τ c= .box (cX x p (.ref d)))=>aVM x p n next (.ref d) hl ho hn (σ:=τ) (nx:=nx+1) (by omega) h1
 generalize dl[k]=dk at *;have fin:∀(a:aG) (i:Nat),i<nx→aB σ nx a i=σ i:=fun a i h=>by simp [aB,show ¬i=nx by omega]
 refine aD ?_;simp [go_sem,aQ.a,aQ.cs];refine bK [] rfl (by rw [hB];kernel_rfl) ?_;refine aD ?_;simp [go_sem,hσ,hc1,hck];refine bQ rfl rfl rfl (args:=[x.a,n.s.a,.i n.cost,.i p.least]) (f:=156) (by simp [go_sem,aA.a,aF.a,aF.cs]) (hdead) ?_;by_cases c1:x.deadB n.s n.cost p.least=true
 ·rw [if_pos c1] at hR;subst hR;refine aD ?_;simp [go_sem,c1];exact fun i h1 h2=>absurd h2 (by omega)
 rw [if_neg c1] at hR;by_cases c2:0<n.part
 ·rw [if_pos c2] at hR;refine aD ?_;simp [go_sem,c1,c2];refine aL rfl rfl rfl (args:=[.ptr c 0,.i k,n.a]) (f:=157) (by simp [go_sem,aQ.a,aQ.cs]) (by simp [go_sem,hB]) (hleads _ c2 (by simp [aB,hc1,hσ])) ?_;refine aD ?_;simp [go_sem];exact ⟨fun i h1 h2=>absurd h2 (by omega),hR⟩
 rw [if_neg c2] at hR;refine aD ?_;simp [go_sem,c1,c2];refine bK [] rfl (by rw [hB];kernel_rfl) ?_;refine aD ?_;simp [go_sem,hσ,hc1,hck];refine bQ rfl rfl rfl (args:=[x.a,n.s.a]) (f:=158) (by simp [go_sem,aA.a,aF.a,aF.cs]) (hen) ?_;generalize x.endS n.s=E at *;obtain ⟨ec,eb⟩:=E;simp only at hR;have hsum:=tQ [n.cost,ec] (by simp);generalize dL [n.cost,ec]=sm at *;refine aD ?_;simp [go_sem];have w1:IntKind.i64.wrap ((i:Int)+1)=(i:Int)+1:=aO _ (by omega);have c5':i+1<q.length→(i:Int)+1<q.length:=fun h=>by omega
 have c8':¬i+1<q.length→¬(i:Int)+1<q.length:=fun h=>by omega
 have c6':(0:Int)≤(i:Int)+1:=by omega
 cases eb with
 |false=>
  rw [if_neg (by simp)] at hR;refine bK [] rfl (by rw [hB];kernel_rfl) ?_;refine aD ?_;simp [go_sem];refine bK [] rfl (by rw [hB];kernel_rfl) ?_;refine aD ?_;simp [go_sem,hσ,hc1,hck,hσd,hd1,hdl,hkd,hdg,Nat.mod_one];refine bQ rfl rfl rfl (args:=[x.a]) (f:=159) (by simp [go_sem,aA.a]) (hdeep) ?_;by_cases c4:x.deep≤IntKind.i64.wrap (dk+i)
  ·rw [if_pos c4] at hR;subst hR;refine aD ?_;simp [go_sem,c4];exact fun i h1 h2=>absurd h2 (by omega)
  rw [if_neg c4] at hR;by_cases c5:i+1<q.length
  ·have hnl:(q[i+1]).length<2^31:=hqn _ (List.getElem_mem _);have hQg:∀h:i+1<(q.map cE).length,(q.map cE)[i+1]'h=[.sl ((q[i+1]).map aQ.t)]:=fun h=>by rw [List.getElem_map];rfl
   have hgd:q.getD (i+1) []=q[i+1]:=by rw [List.getD_eq_getElem?_getD,List.getElem?_eq_getElem c5];rfl
   rw [hgd] at hR;generalize q[i+1]=next at *
   generalize q.map cE=Q at *;generalize p.parts.map cB=Y at *;have hg:=fun τ h=>hgoes τ next hnl h
   generalize x.goesB p.least n next=G at *
   refine aD ?_;simp [go_sem,c4,hσ,hc1,hck,hYl,hkp,hY,w1,c5,hQl,hQg,c5' c5,c6'];refine aL rfl rfl rfl (args:=[.ptr c 0,n.a,.t (.sl (next.map aQ.t))]) (f:=160) (by simp [go_sem,aQ.a,aQ.cs]) (by simp [go_sem,hB]) (hg _ (by simp [aB,hc1,hσ])) ?_;refine aD ?_;simp [go_sem];exact ⟨fun i h1 h2=>absurd h2 (by omega),hR⟩
  ·have hgd:q.getD (i+1) []=[]:=by rw [List.getD_eq_getElem?_getD,List.getElem?_eq_none (by omega)];rfl
   rw [hgd] at hR;have hg:=fun τ h=>hgoes τ [] (by simp) h
   generalize x.goesB p.least n []=G at *;generalize q.map cE=Q at *;generalize p.parts.map cB=Y at *;refine aD ?_;simp [go_sem,c4,hσ,hc1,hck,hYl,hkp,hY,w1,hQl,c5,c8' c5];refine iB aH.loose ?_;refine aL rfl rfl rfl (args:=[.ptr c 0,n.a,.t (.sl (([]:List aQ).map aQ.t))]) (f:=160) (by simp [go_sem,cQ,cQ.loosenL,aQ.a,aQ.cs]) (by simp [go_sem,hB]) (hg _ (by simp [aB,hc1,hσ])) ?_;refine aD ?_;simp [go_sem];exact ⟨fun i h1 h2=>absurd h2 (by omega),hR⟩
 |true=>
  by_cases c3:sm<p.least
  ·rw [if_pos ⟨rfl,c3⟩] at hR;subst hR;refine bK [] rfl (by rw [hB];kernel_rfl) ?_;refine aD ?_;simp [go_sem,hσ,hc1,hck];refine bQ rfl rfl rfl (args:=[.fsl (aJ [n.cost,ec])]) (f:=134) (by simp [go_sem,aJ]) (Pure.loose hsum (by simp [aE])) ?_;refine aD ?_;simp [go_sem,hσ,hc1,hck,c3];exact fun i h1 h2=>absurd h2 (by omega)
  rw [if_neg (fun h=>c3 h.2)] at hR;refine bK [] rfl (by rw [hB];kernel_rfl) ?_;refine aD ?_;simp [go_sem,hσ,hc1,hck];refine bQ rfl rfl rfl (args:=[.fsl (aJ [n.cost,ec])]) (f:=134) (by simp [go_sem,aJ]) (Pure.loose hsum (by simp [aE])) ?_;refine aD ?_;simp [go_sem,hσ,hc1,hck,c3];refine bK [] rfl (by rw [hB];kernel_rfl) ?_;refine aD ?_;simp [go_sem,hσ,hc1,hck,hσd,hd1,hdl,hkd,hdg,Nat.mod_one];refine bQ rfl rfl rfl (args:=[x.a]) (f:=159) (by simp [go_sem,aA.a]) (hdeep) ?_;by_cases c4:x.deep≤IntKind.i64.wrap (dk+i)
  ·rw [if_pos c4] at hR;subst hR;refine aD ?_;simp [go_sem,c4];exact fun i h1 h2=>absurd h2 (by omega)
  rw [if_neg c4] at hR;by_cases c5:i+1<q.length
  ·have hnl:(q[i+1]).length<2^31:=hqn _ (List.getElem_mem _);have hQg:∀h:i+1<(q.map cE).length,(q.map cE)[i+1]'h=[.sl ((q[i+1]).map aQ.t)]:=fun h=>by rw [List.getElem_map];rfl
   have hgd:q.getD (i+1) []=q[i+1]:=by rw [List.getD_eq_getElem?_getD,List.getElem?_eq_getElem c5];rfl
   rw [hgd] at hR;generalize q[i+1]=next at *
   generalize q.map cE=Q at *;generalize p.parts.map cB=Y at *;have hg:=fun τ h=>hgoes τ next hnl h
   generalize x.goesB p.least n next=G at *
   refine aD ?_;simp [go_sem,c4,hσ,hc1,hck,hYl,hkp,hY,w1,c5,hQl,hQg,c5' c5,c6'];refine aL rfl rfl rfl (args:=[.ptr c 0,n.a,.t (.sl (next.map aQ.t))]) (f:=160) (by simp [go_sem,aQ.a,aQ.cs]) (by simp [go_sem,hB]) (hg _ (by simp [aB,hc1,hσ])) ?_;refine aD ?_;simp [go_sem];exact ⟨fun i h1 h2=>absurd h2 (by omega),hR⟩
  ·have hgd:q.getD (i+1) []=[]:=by rw [List.getD_eq_getElem?_getD,List.getElem?_eq_none (by omega)];rfl
   rw [hgd] at hR;have hg:=fun τ h=>hgoes τ [] (by simp) h
   generalize x.goesB p.least n []=G at *;generalize q.map cE=Q at *;generalize p.parts.map cB=Y at *;refine aD ?_;simp [go_sem,c4,hσ,hc1,hck,hYl,hkp,hY,w1,hQl,c5,c8' c5];refine iB aH.loose ?_;refine aL rfl rfl rfl (args:=[.ptr c 0,n.a,.t (.sl (([]:List aQ).map aQ.t))]) (f:=160) (by simp [go_sem,cQ,cQ.loosenL,aQ.a,aQ.cs]) (by simp [go_sem,hB]) (hg _ (by simp [aB,hc1,hσ])) ?_;refine aD ?_;simp [go_sem];exact ⟨fun i h1 h2=>absurd h2 (by omega),hR⟩
def iG:Int:=1152921504606846976
def qD (k i:Nat) (n:aQ) (dl:List Int):List Int:=
 if (k:Int)<n.part-1 then dl.set (n.part-1).toNat (min (dl.getD (n.part-1).toNat 0) (IntKind.i64.wrap (dl.getD k 0+i))) else dl
def aA.layGo (x:aA) (p:bE) (k i:Nat):List aQ→List Int→Option (List Int)
 |[],dl=>some dl
 |n :: l,dl=>if x.holdsB p k i n (dl.getD k 0)=true then x.layGo p k i l (qD k i n dl) else none
def aA.partGo (x:aA) (p:bE) (k:Nat):Nat→List (List aQ)→List Int→Option (List Int)
 |_,[],dl=>some dl
 |i,l :: q,dl=>match x.layGo p k i l dl with
  |none=>none
  |some dl'=>x.partGo p k (i+1) q dl'
def aA.partsGo (x:aA) (p:bE):Nat→List (List (List aQ))→List Int→Option (List Int)
 |_,[],dl=>some dl
 |k,q :: ps,dl=>if dl.getD k 0=iG then x.partsGo p (k+1) ps dl else match x.partGo p k 0 q dl with
  |none=>none
  |some dl'=>x.partsGo p (k+1) ps dl'
def aA.mayP (x:aA) (p:bE):Bool:=x.may&&(decide (0≤p.least)&&(decide (p.least≤iG)&&(decide (p.parts≠[])&&p.parts.all (x.wholeB p))))
def aA.checkE (x:aA) (p:bE):Int:=
 if x.mayP p=true then match p.first 0 with
  |none=>10
  |some f=>if f.s=x.rootS∧f.cost=0 then match x.partsGo p 0 p.parts ((List.replicate p.parts.length iG).set 0 0) with
   |none=>10
   |some _=>0
  else 10
 else 1
theorem aCG {l:List Int} {i j:Nat} {v:Int} (hi:i<l.length):(l.set i v).getD j 0=if i=j then v else l.getD j 0:=by
 rw [List.getD_eq_getElem?_getD,List.getElem?_set,List.getD_eq_getElem?_getD];by_cases h:i=j
 ·subst h;simp [hi]
 ·simp [h]
def aQX (x:aA) (p:bE) (k i:Nat) (dk:Int) (F:List Int) (n:aQ):Prop:=
 x.holdsB p k i n dk=true∧((k:Int)<n.part-1→(n.part-1).toNat<F.length→F.getD (n.part-1).toNat 0≤dk+i)
theorem aOT (a b:Int):0≤dL [a,b]:=by simp only [dL,List.foldl_cons,List.foldl_nil,mY];omega
theorem bDT {x:aA} {p:bE} {n:aQ} (h:x.spotB p n=true):n.s.Pos∧0≤n.cost∧0≤n.part∧n.part≤p.parts.length:=by simp only [aA.spotB,aF.mayB,Bool.and_eq_true,decide_eq_true_eq] at h;obtain ⟨⟨⟨⟨h1,h2⟩,h3⟩,h4⟩,h5⟩:=h;exact ⟨⟨h1.1.1.1.1.1.2,h1.1.1.1.2,h1.1.2⟩,h2,h4,h5⟩
theorem aPJ {x:aA} {p:bE} {q:List (List aQ)} (h:x.wholeB p q=true) {l:List aQ} (hl:l∈q) {n:aQ} (hn:n∈l):x.spotB p n=true:=by
 unfold aA.wholeB at h;split at h
 ·cases h
 ·simp only [Bool.and_eq_true,Bool.not_eq_true',decide_eq_true_eq,List.any_eq_false] at h;have:=h.2 l hl;simp only [Bool.not_eq_true,List.any_eq_false] at this;have:=this n hn;simpa using this
structure fK (x:aA) (p:bE) (F:List Int):Prop where
 len:F.length=p.parts.length
 whole:∀q∈p.parts,x.wholeB p q=true
 ok:∀q∈p.parts,∀l∈q,∀n∈l,n.s.ok
 small:∀q∈p.parts,q.length<2^30
 rng:∀j,0≤F.getD j 0∧F.getD j 0≤iG
 tells:∀k q,p.parts[k]? =some q→F.getD k 0≠iG→∀i l,q[i]? =some l→∀n∈l,aQX x p k i (F.getD k 0) F n
theorem aAV {n:Nat} (h:n<4294967296):sB .u64 n 4294967295=n:=by have:=xK (a:=n) (b:=4294967295) (by omega) (by decide);rw [show ((4294967295:Nat):Int)=4294967295 from rfl] at this;rw [this,show 4294967295=2^32-1 from rfl,Nat.and_two_pow_sub_one_eq_mod,Nat.mod_eq_of_lt h]
theorem aX9 (n:Nat) (hn:n<2^31):Pure P 200 [.u 1,.u n] (.tup [.u 0,.u n]):=by
 refine aW Tryz.func200 rfl rfl (by simp [Tryz.f200]) (by simp [aE,aE.bndL]) (by simp [aE,aE.bndL]) fun B hB hnx=>?_
 simp only [Tryz.f200] at hB ⊢;have e1:sB .u64 1 4294967295=1:=aAV (n:=1) (by omega);have e2:=aAV (n:=n) (by omega);have e3:Int.fdiv 1 4294967296=0:=by decide
 have e4:Int.fdiv (n:Int) 4294967296=0:=by rw [Int.fdiv_eq_ediv_of_nonneg _ (by omega)];omega
 have e5:sB .u64 0 4294967295=0:=aAV (n:=0) (by omega);have e6:IntKind.u64.wrap (n:Int)=n:=u64 _ (by omega);have e7:IntKind.u64.wrap 0=0:=u64 _ (by omega);refine aD ?_;simp [go_sem,e1,e2,e3,e4,e5,e6,e7]
theorem aYA (n:Nat) (hn:n<2^31):Pure P 155 [.u 1,.u n] (.tup [.u 0,.u n]):=by
 refine aW Tryz.func155 rfl rfl (by simp [Tryz.f155]) (by simp [aE,aE.bndL]) (by simp [aE,aE.bndL]) fun B hB hnx=>?_
 simp only [Tryz.f155] at hB ⊢;refine aD ?_;simp [go_sem];refine aL rfl rfl rfl (args:=[.u 1,.u n]) (f:=200) (by simp [go_sem]) (by simp [go_sem,hB]) ((aX9 n hn).spec _ _) ?_;refine aD ?_;simp [go_sem]
theorem bBI (v:Int) (n:Nat) (h0:0<n) (hn:n<2^31) (σ:Nat→aG) (nx:Nat):aT P 106 [.fsl [[.i v]],.i n] σ nx (.ref nx) (aB σ nx (.arr 1 (List.replicate n [.i v]))) (nx+1):=by
 refine bN.spec (cA Tryz.func106 rfl rfl (by simp [Tryz.f106]) fun B hB hnx hσ=>tW ?_);simp only [Tryz.f106] at hB ⊢;have hmost:n≤bH:=by show n≤4294967296;omega
 have hu:IntKind.u64.wrap (n:Int)=n:=u64 _ (by omega);have hi:IntKind.i64.wrap (n:Int)=n:=aO _ (by omega);have hu1:IntKind.u64.wrap 1=1:=u64 _ (by omega);have hneg:¬(n:Int)<0:=by omega
 refine aD ?_;simp [go_sem,hneg,hu,hi,hu1];refine aL rfl rfl rfl (args:=[.u 1,.u n]) (f:=155) (by simp [go_sem,hneg,hu,hi,hu1]) (by simp [go_sem,hB]) ((aYA n hn).spec _ _) ?_;have hbig:¬9223372036854775807<(n:Int):=by omega
 refine aD ?_;simp [go_sem,hneg,hu,hi,hu1,hbig,hmost];refine aP7 rfl rfl rfl rfl rfl (by simp [go_sem,hB]) tS rfl oU rfl (q:=nx) (es:=List.replicate n [.i 0]) (ys:=[[.i v]]) (by simp [go_sem]) (by simp [go_sem]) (by simp [go_sem]) (by simp) (by simp) (by simp;omega) ?_;have hrow:[[T.i v]]++(List.replicate n [T.i 0]).drop 1=List.replicate 1 [T.i v]++List.replicate (n-1) [T.i 0]:=by simp
 refine aD ?_;simp [go_sem];refine bA (α:=Nat) (fun j=>1≤j∧j≤n) (fun j=>⟨sl [(7,.ref nx),(8,.i j)],aB σ nx (.arr 1 (List.replicate j [.i v]++List.replicate (n-j) [.i 0])),nx+1⟩) (fun j=>n-j) 1 ⟨Nat.le_refl _,h0⟩ (aH.slots (by simp [go_sem]) ?_ rfl) ?_
 ·have hoo:∀(o o':aG),aB (aB σ nx o) nx o'=aB σ nx o':=fun o o'=>funext fun i=>by simp only [aB];split<;>rfl
  rw [←hrow,hoo];simp
 rintro j ⟨g1,g2⟩;have hlen:(List.replicate j [T.i v]++List.replicate (n-j) [T.i 0]).length=n:=by simp;omega
 refine aI ?_;simp [go_sem,hlen];refine bU (fun hj=>?_) (fun hj=>?_)
 ·have hj:j<n:=by omega
  refine aI ?_;simp [go_sem];refine cT [7] [0] rfl (by rw [hB];kernel_rfl) (by kernel_rfl) fun ht hf'=>?_
  refine aI ?_;simp [go_sem,ht,hf'];refine nW (v:=.cut nx 1 j (List.replicate j [T.i v]++List.replicate (n-j) [T.i 0]).length) (fun ho=>?_) (by simp [ht]) ?_
  ·exact aT9 (P:=P) (n:=B.n) (es:=(List.replicate j [T.i v]++List.replicate (n-j) [T.i 0])) ho (by simp [go_sem]) rfl tS rfl oU (q:=nx) (by simp [go_sem]) (by simp [go_sem]) (ik:=.i64) (lo:=j) (by simp [go_sem]) (by rw [hlen];exact hj)
  refine aI ?_;simp [go_sem,ht,hf'];refine nW (v:=.cut nx 1 0 j) (fun ho=>?_) (by simp [ht]) ?_
  ·exact aUA (P:=P) (n:=B.n) (es:=List.replicate j [.i v]++List.replicate (n-j) [.i 0]) ho (by simp [go_sem]) rfl tS rfl oU (q:=nx) (by simp [go_sem]) (by simp [go_sem]) (ik:=.i64) (up:=j) (by simp [go_sem]) (by rw [hlen];omega) (by rw [hlen];omega)
  obtain ⟨k,hk⟩:∃k,k=Nat.min j (n-j):=⟨_,rfl⟩;have hk1:k≤j∧k≤n-j∧1≤k:=by rw [hk];refine ⟨Nat.min_le_left _ _,Nat.min_le_right _ _,Nat.le_min.2 ⟨g1,by omega⟩⟩
  simp only [hlen];refine wU (v:=.i k) (σ':=aB (aB σ nx (.arr 1 (List.replicate j [T.i v]++List.replicate (n-j) [T.i 0]))) nx (.arr 1 ((List.replicate j [T.i v]++List.replicate (n-j) [T.i 0]).take j++((List.replicate j [T.i v]++List.replicate (n-j) [T.i 0]).take k++(List.replicate j [T.i v]++List.replicate (n-j) [T.i 0]).drop (j+k))))) (nx':=nx+1) (fun ho=>?_) (by simp) (by simp) ?_
  ·exact aT8 (P:=P) (n:=B.n) ho (by simp [go_sem]) rfl rfl rfl rfl tS rfl oU rfl (q:=nx) (lo:=j) (up:=j) (by simp [go_sem]<;>omega) (by simp [go_sem]) (by simp [go_sem]) (by rw [hlen];omega) (by rw [hlen];exact hk) (by rw [hlen];omega)
  have hw:IntKind.i64.wrap ((j:Int)+(k:Int))=((j+k:Nat):Int):=by rw [aO _ (by omega)];omega
  have hrow:(List.replicate j [T.i v]++List.replicate (n-j) [T.i 0]).take j++((List.replicate j [T.i v]++List.replicate (n-j) [T.i 0]).take k++(List.replicate j [T.i v]++List.replicate (n-j) [T.i 0]).drop (j+k))=List.replicate (j+k) [T.i v]++List.replicate (n-(j+k)) [T.i 0]:=by rw [List.take_left' (by simp),List.take_append_of_le_length (by simp;omega),List.take_replicate,show min k j=k by omega,←List.drop_drop,List.drop_left' (by simp),List.drop_replicate,←List.append_assoc,List.replicate_append_replicate,Nat.sub_sub]
  rw [hrow];have hoo:∀(o o':aG),aB (aB σ nx o) nx o'=aB σ nx o':=fun o o'=>funext fun i=>by simp only [aB];split<;>rfl
  rw [hoo];refine aI ?_;simp [go_sem,ht,hf',hw];refine Next.mk (j+k) ⟨by omega,by omega⟩ (aH.slots (by simp [go_sem]) rfl rfl) (by omega)
 ·have hj:j=n:=by omega
  subst hj;simp [go_sem];refine ⟨_,aH.self,?_⟩;simp [go_sem]
end Go.Proofs.YtnoifgjiipgpoaaGreatDoor
