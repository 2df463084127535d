/- Parts of the proof: HoldB, MkP, MkP2, HoldC, MkP3, Rep, PfK, Law20, Law20c, ArgO, Whole. -/
import Derived.Test.YtnoifgjiipgpoaaGreatMI
import Derived.Test.YtnoifgjiipgpoaaGreatRows
import Derived.KernelRfl
set_option linter.all false
set_option maxHeartbeats 4000000
set_option maxRecDepth 4000
namespace Go.Proofs.YtnoifgjiipgpoaaGreat
open Go Go.Proofs.YtnoifgjiipgpoaaGreat.R
def Settled (x:Inst) (s:SS) (k0:Nat) (low:Int) (m:Node):Prop:=
 s.up≤max low (x.of m)∨(∃e∈s.q,s.subs[e.no]? =some m∧e.bound=max low (x.of m))∨∃j:Nat,k0≤j∧∃D,s.log[j]? =some (m,D)
def LogE (x:Inst) (w:Int) (s:SS) (k:Nat) (n:Node) (d:Diag):Prop:=
 Track x n∧∃u,d=x.build n w u∧s.up≤u∧
  (s.up≤d.low∨(d.exact=true∧∀v c,x.way v n.s c→s.up≤n.cost+c)∨
   (d.exact=false∧(∀i,i<d.sure-1→(x.bests (x.layN u n i)).2=true→s.up≤(x.bests (x.layN u n i)).1.cost)∧∀m∈x.layN u n (d.sure-1),Settled x s (k+1) d.low m))
structure LogX (x:Inst) (w:Int) (s:SS):Prop where
 all:∀(k:Nat) n d,s.log[k]? =some (n,d)→LogE x w s k n d
 root:Settled x s 0 0 x.rootN
 pos:∀e∈s.q,0≤e.bound
theorem Settled.step {x:Inst} {s t:SS} {k0:Nat} {low:Int} {m:Node} (h:Settled x s k0 low m) (hup:t.up≤s.up) (hlog:∀(j:Nat) a,s.log[j]? =some a→t.log[j]? =some a) (hq:∀e∈s.q,s.subs[e.no]? =some m→e.bound=max low (x.of m)→Settled x t k0 low m):Settled x t k0 low m:=by
 rcases h with h | ⟨e,he,h1,h2⟩ | ⟨j,hj,D,hD⟩
 ·exact .inl (by omega)
 ·exact hq e he h1 h2
 ·exact .inr (.inr ⟨j,hj,D,hlog j _ hD⟩)
theorem LogE.step {x:Inst} {w:Int} {s t:SS} {k:Nat} {n:Node} {d:Diag} (h:LogE x w s k n d) (hup:t.up≤s.up) (hs:∀low m,Settled x s (k+1) low m→Settled x t (k+1) low m):LogE x w t k n d:=by
 obtain ⟨h1,u,h2,h3,h4⟩:=h
 refine ⟨h1,u,h2,by omega,?_⟩
 rcases h4 with h4 | ⟨h4,h5⟩ | ⟨h4,h5,h6⟩
 ·exact .inl (by omega)
 ·exact .inr (.inl ⟨h4,fun v c hv=>by have:=h5 v c hv;omega⟩)
 ·exact .inr (.inr ⟨h4,fun i hi hb=>by have:=h5 i hi hb;omega,fun m hm=>hs _ m (h6 m hm)⟩)
structure Ext (s t:SS):Prop where
 q:∀e∈s.q,e∈t.q
 subs:∀(i:Nat) m,s.subs[i]? =some m→t.subs[i]? =some m
theorem Ext.trans {s t u:SS} (h:Ext s t) (k:Ext t u):Ext s u:=⟨fun e he=>k.q e (h.q e he),fun i m hm=>k.subs i m (h.subs i m hm)⟩
theorem Ext.like {s t:SS} (h1:t.subs=s.subs) (h2:t.q=s.q):Ext s t:=⟨fun e he=>by rw [h2];exact he,fun i m hm=>by rw [h1];exact hm⟩
theorem push_ext (x:Inst) (low:Int) (s:SS) (n:Node):Ext s (x.push low s n):=by
 rcases push_or x low s n with ⟨e,_⟩ | ⟨_,e⟩
 ·rw [e];exact Ext.like rfl rfl
 ·rw [e];exact ⟨fun f hf=>List.mem_append_left _ hf,fun i m hm=>get_old hm⟩
theorem pushes_ext (x:Inst) (low:Int):∀(l:List Node) (s:SS),Ext s (l.foldl (x.push low) s)
 |[],s=>Ext.like rfl rfl
 |n :: l,s=>(push_ext x low s n).trans (pushes_ext x low l (x.push low s n))
theorem pushes_got (x:Inst) (low:Int):∀(l:List Node) (s:SS),∀m∈l,s.up≤max low (x.of m)∨∃e∈(l.foldl (x.push low) s).q,(l.foldl (x.push low) s).subs[e.no]? =some m∧e.bound=max low (x.of m)
 |[],s,m,hm=>by cases hm
 |n :: l,s,m,hm=>by
  rcases List.mem_cons.1 hm with rfl | hm
  ·rcases push_or x low s m with ⟨_,e⟩ | ⟨_,e⟩
   ·exact .inl e
   ·have hx:=pushes_ext x low l (x.push low s m)
    refine .inr ⟨⟨max low (x.of m),m.path.length,s.subs.length⟩,hx.q _ ?_,hx.subs _ _ ?_,rfl⟩
    ·rw [e];exact List.mem_append_right _ (List.mem_singleton.2 rfl)
    ·rw [e];simp
  ·rcases pushes_got x low l (x.push low s n) m hm with h | h
   ·rw [(push_up x low s n).1] at h
    exact .inl h
   ·exact .inr h
theorem pushes_pos (x:Inst) (low:Int):∀(l:List Node) (s:SS),(∀e∈s.q,0≤e.bound)→∀e∈(l.foldl (x.push low) s).q,0≤e.bound
 |[],s,h=>h
 |n :: l,s,h=>by
  refine pushes_pos x low l (x.push low s n) fun e he=>?_
  rcases push_or x low s n with ⟨e1,_⟩ | ⟨_,e1⟩
  ·rw [e1] at he;exact h e he
  ·rw [e1] at he
   rcases List.mem_append.1 he with he | he
   ·exact h e he
   ·rw [List.mem_singleton.1 he]
    have:=sumI_nn n.cost (x.low n.s)
    show 0≤max low (x.of n)
    rw [Inst.of]
    omega
theorem look_x {x:Inst} (hst:x.stops.length<2^31) (hm:x.may=true) {n:Node} (ht:Track x n) (w:Int) (s:SS) (hp:∀e∈s.q,0≤e.bound):Ext s (x.lookS w s n)∧(∀e∈(x.lookS w s n).q,0≤e.bound)∧LogE x w (x.lookS w s n) s.log.length n (x.build n w (s.nar x w n).up):=by
 have q0:=offer_up (s.plus (x.narrow n w s.up).2.2) ((x.narrow n w s.up).1,(x.narrow n w s.up).2.1)
 have q1:(s.nar x w n).subs=s.subs∧(s.nar x w n).q=s.q∧(s.nar x w n).log=s.log:=⟨q0.2.1,q0.2.2.1,q0.2.2.2.1⟩
 rw [Inst.lookS]
 generalize s.nar x w n=t at *
 rw [←q1.2.2]
 have hok:=build_ok x n w t.up
 have hex:=exact_whole hm ht w (up:=t.up) (u:=t.up) (Int.le_refl _)
 have hd:∃d,x.build n w t.up=d:=⟨_,rfl⟩
 obtain ⟨d,hd⟩:=hd
 rw [hd] at hok hex ⊢
 have e0:Ext s (t.dia n d):=Ext.like q1.1 q1.2.1
 rw [Inst.lookD]
 split
 ·rename_i c1
  exact ⟨e0,fun e he=>hp e (by rw [←q1.2.1];exact he),ht,t.up,hd.symm,Int.le_refl _,.inl c1⟩
 split
 ·rename_i c1 c2
  have hall:=hex c2
  rw [SS.exa]
  have hdu:(t.dia n d).up=t.up:=rfl
  rw [hdu]
  have ho:=offer_up ((t.dia n d).plus (x.exact n t.up (x.mostN w)).2.2.2) ((x.exact n t.up (x.mostN w)).1,(x.exact n t.up (x.mostN w)).2.1)
  have hg:=offer_gets ((t.dia n d).plus (x.exact n t.up (x.mostN w)).2.2.2) ((x.exact n t.up (x.mostN w)).1,(x.exact n t.up (x.mostN w)).2.1)
  have hu3:((t.dia n d).plus (x.exact n t.up (x.mostN w)).2.2.2).up=t.up:=rfl
  have hs3:((t.dia n d).plus (x.exact n t.up (x.mostN w)).2.2.2).subs=t.subs:=rfl
  have hq3:((t.dia n d).plus (x.exact n t.up (x.mostN w)).2.2.2).q=t.q:=rfl
  generalize (t.dia n d).plus (x.exact n t.up (x.mostN w)).2.2.2=z at *
  have ho1:=ho.1
  refine ⟨Ext.like (ho.2.1.trans (hs3.trans q1.1)) (ho.2.2.1.trans (hq3.trans q1.2.1)),fun e he=>hp e ?_,ht,t.up,hd.symm,by omega,.inr (.inl ⟨c2,fun v c hv=>?_⟩)⟩
  ·rw [ho.2.2.1,hq3,q1.2.1] at he
   exact he
  ·by_cases hlt:n.cost+c<t.up
   ·obtain ⟨e1,e2⟩:=exact_has hst ht.is.ok ht.is.pos ht.is.seen ht.fit hall hv hlt
    have:=hg e1
    simp only at this
    omega
   ·omega
 ·rename_i c1 c2
  rw [Inst.branch]
  have hpos:=hok.pos
  obtain ⟨hl,hlast⟩:=sure_get hok (i:=d.sure-1) (by omega)
  rw [List.getD_eq_getElem?_getD,List.getElem?_eq_getElem hl,Option.getD_some,hlast]
  have ho:=offers_up x (d.layers.take (d.sure-1)) (t.dia n d)
  have hget:∀i,i<d.sure-1→(x.bests (x.layN t.up n i)).2=true→(x.offers (t.dia n d) (d.layers.take (d.sure-1))).up≤(x.bests (x.layN t.up n i)).1.cost:=fun i hi=>by
   obtain ⟨hl2,e2⟩:=sure_get hok (i:=i) (by omega)
   exact offers_gets x _ _ _ (by rw [←e2];exact List.mem_take_iff_getElem.2 ⟨i,by omega,rfl⟩)
  have hdu:(t.dia n d).up=t.up:=rfl
  have hds:(t.dia n d).subs=t.subs:=rfl
  have hdq:(t.dia n d).q=t.q:=rfl
  generalize x.offers (t.dia n d) (d.layers.take (d.sure-1))=S at *
  have hpu:=pushes_up x d.low (x.layN t.up n (d.sure-1)) S
  have hgot:=pushes_got x d.low (x.layN t.up n (d.sure-1)) S
  have hext:=pushes_ext x d.low (x.layN t.up n (d.sure-1)) S
  have hpp:=pushes_pos x d.low (x.layN t.up n (d.sure-1)) S fun e he=>hp e (by rw [ho.2.2.1,hdq,q1.2.1] at he;exact he)
  generalize (x.layN t.up n (d.sure-1)).foldl (x.push d.low) S=U at *
  have ho1:=ho.1
  refine ⟨(Ext.like (ho.2.1.trans (hds.trans q1.1)) (ho.2.2.1.trans (hdq.trans q1.2.1))).trans hext,hpp,ht,t.up,hd.symm,by omega,.inr (.inr ⟨by simpa using c2,fun i hi hb=>?_,fun m hmm=>?_⟩)⟩
  ·have:=hget i hi hb
   omega
  ·rcases hgot m hmm with h | h
   ·exact .inl (by omega)
   ·exact .inr (.inl h)
theorem LogX.skip {x:Inst} {w:Int} {s:SS} (h:LogX x w s) {o:Int} {e:Ent} {q:List Ent} (ht:takeQ o s.q=some (e,q)) (c:s.up≤e.bound):LogX x w (s.left q):=by
 obtain ⟨t1,t2,t3,t4⟩:=take_some ht
 have hs:∀k0 low m,Settled x s k0 low m→Settled x (s.left q) k0 low m:=fun k0 low m hset=>Settled.step hset (Int.le_refl _) (fun j a h=>h) fun f hf h1 h2=>by
  rcases t2 f hf with rfl | hf
  ·exact .inl (by show s.up≤_;omega)
  ·exact .inr (.inl ⟨f,hf,h1,h2⟩)
 exact ⟨fun k n d hk=>(h.all k n d hk).step (Int.le_refl _) fun low m=>hs _ low m,hs _ _ _ h.root,fun f hf=>h.pos f (t3 f hf)⟩
theorem LogX.look {x:Inst} (hst:x.stops.length<2^31) (hm:x.may=true) {w:Int} {s:SS} (h:LogX x w s) {o:Int} {e:Ent} {q:List Ent} (htk:takeQ o s.q=some (e,q)) {n:Node} (hn:s.subs[e.no]? =some n) (ht:Track x n):LogX x w (x.lookS w (s.left q) n):=by
 obtain ⟨t1,t2,t3,t4⟩:=take_some htk
 obtain ⟨g1,g2,g3⟩:=look_x hst hm ht w (s.left q) fun f hf=>h.pos f (t3 f hf)
 have hlog:(x.lookS w (s.left q) n).log=s.log++[(n,x.build n w ((s.left q).nar x w n).up)]:=look_log x w (s.left q) n
 have hup:(x.lookS w (s.left q) n).up≤s.up:=look_up x w (s.left q) n
 have e1:(s.left q).log=s.log:=rfl
 have e2:(s.left q).subs=s.subs:=rfl
 have e3:(s.left q).q=q:=rfl
 rw [e1] at g3
 generalize x.build n w ((s.left q).nar x w n).up=D at *
 generalize x.lookS w (s.left q) n=t at *
 have hold:∀(j:Nat) a,s.log[j]? =some a→t.log[j]? =some a:=fun j a ha=>by rw [hlog];exact get_old ha
 have hnew:t.log[s.log.length]? =some (n,D):=by rw [hlog];simp
 have hs:∀k0 low m,k0≤s.log.length→Settled x s k0 low m→Settled x t k0 low m:=fun k0 low m hk0 hset=>Settled.step hset hup hold fun f hf h1 h2=>by
  rcases t2 f hf with rfl | hf
  ·rw [hn] at h1
   cases h1
   exact .inr (.inr ⟨s.log.length,hk0,D,hnew⟩)
  ·exact .inr (.inl ⟨f,g1.q f (by rw [e3];exact hf),g1.subs _ _ (by rw [e2];exact h1),h2⟩)
 refine ⟨fun k m d hk=>?_,hs _ _ _ (Nat.zero_le _) h.root,g2⟩
 by_cases hlt:k<s.log.length
 ·have hk':s.log[k]? =some (m,d):=by rw [hlog,List.getElem?_append_left hlt] at hk;exact hk
  exact (h.all k m d hk').step hup fun low m=>hs _ low m (by omega)
 ·have hk2:=(List.getElem?_eq_some_iff.1 hk).1
  rw [hlog,List.length_append,List.length_singleton] at hk2
  have:k=s.log.length:=by omega
  subst this
  rw [hnew] at hk
  cases hk
  exact g3
def DoneE (x:Inst) (w:Int) (r:SRes) (k:Nat) (n:Node) (d:Diag):Prop:=
 Track x n∧∃u,d=x.build n w u∧r.low≤u∧
  (r.low≤d.low∨(d.exact=true∧∀v c,x.way v n.s c→r.low≤n.cost+c)∨
   (d.exact=false∧(∀i,i<d.sure-1→(x.bests (x.layN u n i)).2=true→r.low≤(x.bests (x.layN u n i)).1.cost)∧∀m∈x.layN u n (d.sure-1),r.low≤max d.low (x.of m)∨∃j:Nat,k+1≤j∧∃D,r.log[j]? =some (m,D)))
structure DoneX (x:Inst) (w:Int) (r:SRes):Prop where
 all:∀(k:Nat) n d,r.log[k]? =some (n,d)→DoneE x w r k n d
 root:r.low≤max 0 (x.of x.rootN)∨∃D,∃j:Nat,r.log[j]? =some (x.rootN,D)
 low:0≤r.low∧r.low≤inf
 nodup:(r.log.map fun d=>d.1.path).Nodup
 head:∀d l,r.log=d :: l→d.1.path=[]
 few:r.log.length≤1848
theorem LogX.done {x:Inst} {w:Int} {s:SS} (h:LogX x w s) {r:SRes} (hlog:r.log=s.log) (h1:r.low≤s.up) (h2:∀e∈s.q,r.low≤e.bound):(∀(k:Nat) n d,r.log[k]? =some (n,d)→DoneE x w r k n d)∧(r.low≤max 0 (x.of x.rootN)∨∃D,∃j:Nat,r.log[j]? =some (x.rootN,D)):=by
 have hs:∀k0 low m,Settled x s k0 low m→r.low≤max low (x.of m)∨∃j:Nat,k0≤j∧∃D,r.log[j]? =some (m,D):=fun k0 low m hset=>by
  rcases hset with h | ⟨e,he,_,h4⟩ | ⟨j,hj,D,hD⟩
  ·exact .inl (by omega)
  ·exact .inl (by have:=h2 e he;omega)
  ·exact .inr ⟨j,hj,D,by rw [hlog];exact hD⟩
 refine ⟨fun k n d hk=>?_,?_⟩
 ·rw [hlog] at hk
  obtain ⟨g1,u,g2,g3,g4⟩:=h.all k n d hk
  refine ⟨g1,u,g2,by omega,?_⟩
  rcases g4 with g4 | ⟨g4,g5⟩ | ⟨g4,g5,g6⟩
  ·exact .inl (by omega)
  ·exact .inr (.inl ⟨g4,fun v c hv=>by have:=g5 v c hv;omega⟩)
  ·exact .inr (.inr ⟨g4,fun i hi hb=>by have:=g5 i hi hb;omega,fun m hm=>hs _ _ m (g6 m hm)⟩)
 ·rcases hs _ _ _ h.root with h | ⟨j,_,D,hD⟩
  ·exact .inl h
  ·exact .inr ⟨D,j,hD⟩
theorem up_pos {x:Inst} (hm:x.may=true) {s:SS} (h:Found x s):0≤s.up:=by
 by_cases c:s.up<inf
 ·obtain ⟨v,hv⟩:=plan_way hm (h.plan c)
  exact (way_few hv).1
 ·have:inf=1152921504606846976:=rfl
  omega
theorem least_pos {q:List Ent} (h:∀e∈q,0≤e.bound):0≤leastQ q:=by
 cases q with
 |nil=>show (0:Int)≤inf;decide
 |cons e l=>
  have:∀(l:List Ent) (n:Int),0≤n→(∀e∈l,0≤e.bound)→0≤l.foldl (fun n f=>min n f.bound) n:=by
   intro l
   induction l with
   |nil=>exact fun n h _=>h
   |cons a l ih=>exact fun n h hl=>ih _ (by have:=hl a List.mem_cons_self;show 0≤min n a.bound;omega) fun e he=>hl e (List.mem_cons_of_mem _ he)
  exact this l _ (h e List.mem_cons_self) fun f hf=>h f (List.mem_cons_of_mem _ hf)
theorem run_doneX {x:Inst} {p:Nat} (hx:x.Fit p) (hm:x.may=true) (hp:p≤3) (o:Opt) (hw:o.width≤40):∀(N:Nat) (s:SS) (r:SRes),Going x p s→LogI s→LogX x o.width s→x.runGo o N s=some r→DoneX x o.width r
 |0,s,r,_,_,_,h=>by cases h
 |N+1,s,r,hs,hl,hX,h=>by
  have hst:x.stops.length<2^31:=by have:=hx.len;omega
  rw [Inst.runGo] at h
  have hup:=up_pos hm hs.inv.found
  have hle:=hs.inv.found.le
  have hfew:s.log.length≤1848:=by have:=hs.small.log;omega
  cases ht:takeQ o.order s.q with
  |none=>
   rw [ht] at h
   cases h
   obtain ⟨g1,g2⟩:=hX.done (r:=s.ends) rfl (Int.le_refl _) fun e he=>by rw [take_none ht] at he;cases he
   exact ⟨g1,g2,⟨hup,hle⟩,hl.nodup,fun d l h=>(hl.head d l h).1,hfew⟩
  |some r'=>
   obtain ⟨e,q⟩:=r'
   rw [ht] at h
   simp only at h
   obtain ⟨n,hn,hg,htn,k1,k2,k3⟩:=hs.look hx hm hp hw ht
   obtain ⟨t1,t2,t3,t4⟩:=take_some ht
   rw [hg] at h
   by_cases c1:s.up≤e.bound
   ·rw [if_pos c1] at h
    exact run_doneX hx hm hp o hw N (s.left q) r (hs.skip ht c1) (hl.left ht).1 (hX.skip ht c1) h
   rw [if_neg c1] at h
   by_cases c2:o.budget≤s.steps
   ·rw [if_pos c2] at h
    cases h
    have hlow:((s.left q).stop e).low=min s.up (min e.bound (leastQ q)):=rfl
    have hb:=hX.pos e t1
    have hlp:=least_pos fun f hf=>hX.pos f (t3 f hf)
    obtain ⟨g1,g2⟩:=hX.done (r:=(s.left q).stop e) rfl (by rw [hlow];omega) fun f hf=>by
     rw [hlow]
     rcases t2 f hf with rfl | hf
     ·omega
     ·have:=least_le hf
      omega
    exact ⟨g1,g2,by rw [hlow];omega,hl.nodup,fun d l h=>(hl.head d l h).1,hfew⟩
   rw [if_neg c2] at h
   exact run_doneX hx hm hp o hw N _ r k1 (hl.look hm htn ht hg fun f hf=>hs.inv.nos f (t3 f hf)) (hX.look hst hm ht hn htn) h
theorem start_logX (x:Inst) (w:Int):LogX x w x.start:=by
 have hlog:x.start.log=[]:=(push_up x 0 ⟨[],[],inf,[],0,[]⟩ x.rootN).2.1
 have hgot:=pushes_got x 0 [x.rootN] ⟨[],[],inf,[],0,[]⟩ x.rootN List.mem_cons_self
 have hup:=pushes_up x 0 [x.rootN] ⟨[],[],inf,[],0,[]⟩
 have hpp:=pushes_pos x 0 [x.rootN] ⟨[],[],inf,[],0,[]⟩ fun e he=>by cases he
 refine ⟨fun k n d h=>(by rw [hlog] at h;simp at h),?_,hpp⟩
 rcases hgot with h | h
 ·exact .inl (by show x.start.up≤_;rw [show x.start.up=inf from hup.1];exact h)
 ·exact .inr (.inl h)
theorem search_done {x:Inst} {o:Opt} (hl:x.stops.length≤7) (hm:x.may=true) (ho:o.mayB=true) (hw:o.width≤40):DoneX x o.width (x.search o):=by
 obtain ⟨p,hx⟩:=x.fit hm
 have hp:p≤3:=by have:=hx.len;omega
 exact run_doneX hx hm hp o hw 1850 x.start _ (start_going hx hm hp) (start_logI x) (start_logX x o.width) (search_is hx hm hp ho hw)
end Go.Proofs.YtnoifgjiipgpoaaGreat

set_option maxRecDepth 4000
set_option maxHeartbeats 1000000
namespace Go.Proofs.YtnoifgjiipgpoaaGreat
open Go Go.Proofs.YtnoifgjiipgpoaaGreat.R
theorem eqints_pure (a b:List Int) (ha:a.length<2^62) (hb:b.length<2^62):Pure P 79 [.t (.sl (ints a)),.t (.sl (ints b))] (.b (decide (a=b))):=by
 generalize hR:decide (a=b)=R
 refine pure_of Tryz.func79 rfl rfl (by simp [Tryz.f79]) (by simp [bnd,bnd.bndL]) (by simp [bnd,bnd.bndL]) fun B hB hnx=>?_
 simp only [Tryz.f79] at hB ⊢
 have h1:(ints a).length=a.length:=List.length_map _
 have h2:(ints b).length=b.length:=List.length_map _
 by_cases c0:a.length=b.length
 rotate_left
 ·have:R=false:=by rw [←hR];exact decide_eq_false (fun e=>c0 (by rw [e]))
  refine K_run hB 100 ?_
  simp [go_sem,h1,h2,c0,this]
 refine K_run hB 100 ?_
 simp [go_sem,h1,h2,c0]
 refine K_loopP (α:=Nat) (fun k=>k≤a.length∧a.take k=b.take k) (fun k=>⟨sl [(0,.t (.sl (ints a))),(1,.t (.sl (ints b))),(12,.i b.length),(13,.i k)],_,_⟩) (fun k=>a.length-k) 0 ⟨Nat.zero_le _,rfl⟩ (Imp.slots (by simp [go_sem]) rfl rfl) ?_
 rintro k ⟨g0,g1⟩
 by_cases hk:k<a.length
 ·have hkb:k<b.length:=by omega
  have hkk:IntKind.i64.wrap ((k:Int)+1)=((k+1:Nat):Int):=by rw [w64 _ (by omega)];rfl
  have hga:=ints_getS a hk
  have hgb:=ints_getS b hkb
  have ta:a.take (k+1)=a.take k++[a[k]]:=List.take_succ_eq_append_getElem hk
  have tb:b.take (k+1)=b.take k++[b[k]]:=List.take_succ_eq_append_getElem hkb
  have hne:a[k]≠b[k]→a≠b:=fun h e=>h (by subst e;rfl)
  generalize a[k]=u at *
  generalize b[k]=v at *
  refine K_run hB 60 ?_
  simp [go_sem,hkb]
  refine K_drawn [] rfl (by rw [hB];kernel_rfl) ?_
  by_cases c1:u=v
  ·refine K_run hB 100 ?_
   simp [go_sem,h1,h2,hk,hkb,hga,hgb,c1,hkk]
   exact Next.mk (k+1) ⟨by omega,by rw [ta,tb,g1,c1]⟩ (Imp.slots (by simp [go_sem]) rfl rfl) (by omega)
  ·have:R=false:=by rw [←hR];exact decide_eq_false (hne c1)
   refine K_run hB 100 ?_
   simp [go_sem,h1,h2,hk,hkb,hga,hgb,c1,this]
 ·have e1:k=a.length:=by omega
  have e2:k=b.length:=by omega
  rw [e1,List.take_length,c0,List.take_length] at g1
  have:R=true:=by rw [←hR];exact decide_eq_true g1
  have hkb:¬k<b.length:=by omega
  refine K_run hB 100 ?_
  simp [go_sem,hkb,this]
def Done.a (d:Node×Diag):AV:=.agg (d.1.cs++d.2.cs)
theorem toeq_spec (n:Node) (d:Node×Diag) (hd:d.1.path.length<2^62) (hn:n.path.length<2^62) {σ:Nat→AObj} {nx q:Nat} (hq:q<nx) (hσ:σ q= .box n.cs):
  CallSpec P 78 [Done.a d,.ptr q 0] σ nx (.b (decide (d.1.path=n.path))) σ nx:=by
 have he:=eqints_pure d.1.path n.path hd hn
 generalize decide (d.1.path=n.path)=R at *
 refine spec_keep Tryz.func78 rfl rfl (by simp [Tryz.f78]) (by simp [bnd]) fun hk B hB hnx hσB=>?_
 simp only [Tryz.f78] at hB ⊢
 rw [Node.cs] at hσ
 have ne1:¬q=nx:=by omega
 refine K_run hB 100 ?_
 simp [go_sem,Done.a,Node.cs,Diag.cs,hσ,ne1]
 refine K_call rfl rfl rfl (args:=[.t (.sl (ints d.1.path)),.t (.sl (ints n.path))]) (f:=79) (by simp [go_sem]) (by simp [go_sem,hB]) ((he).spec _ _) ?_
 refine K_run hB 100 ?_
 simp [go_sem]
 exact fun i hi=>by simp [oput,show ¬i=nx by omega]
def idxP (v:List Int):Nat→List (Node×Diag)→Int
 |_,[]=>-1
 |i,d :: l=>if d.1.path=v then i else idxP v (i+1) l
theorem didx_spec (n:Node) (L:List (Node×Diag)) (hL:L.length<2^31) (hd:∀d∈L,d.1.path.length<2^62) (hn:n.path.length<2^62) {σ:Nat→AObj} {nx q:Nat} (hq:q<nx) (hσ:σ q= .box n.cs):
  CallSpec P 77 [.t (.sl (logT L)),.fn (.func 78) [] [.ptr q 0]] σ nx (.i (idxP n.path 0 L)) σ nx:=by
 generalize hR:idxP n.path 0 L=R
 refine spec_keep Tryz.func77 rfl rfl (by simp [Tryz.f77]) (by simp [bnd]) fun hk B hB hnx hσB=>?_
 simp only [Tryz.f77] at hB ⊢
 have hil:(logT L).length=L.length:=List.length_map _
 refine K_run hB 100 ?_
 simp [go_sem,hil]
 refine K_loopP (α:=Nat) (fun k=>k≤L.length∧idxP n.path k (L.drop k)=R) (fun k=>⟨sl [(0,.t (.sl (logT L))),(1,.fn (.func 78) [] [.ptr q 0]),(7,.i L.length),(8,.i k)],σ,nx⟩) (fun k=>L.length-k) 0 ⟨Nat.zero_le _,hR⟩ (Imp.slots (by simp [go_sem]) rfl rfl) ?_
 rintro k ⟨g1,g2⟩
 by_cases hk:k<L.length
 ·have hkk:IntKind.i64.wrap ((k:Int)+1)=((k+1:Nat):Int):=by rw [w64 ((k:Int)+1) (by omega)];rfl
  have hget:∀h,(logT L)[k]'h=Done.t L[k]:=fun h=>by simp [logT]
  have hs:=toeq_spec n L[k] (hd _ (List.getElem_mem _)) hn hq hσ
  rw [List.drop_eq_getElem_cons hk,idxP] at g2
  generalize L[k]=d at *
  refine K_run hB 100 ?_
  simp [go_sem,hil,hk,hget,Done.t,Node.t]
  refine K_call rfl rfl rfl (args:=[Done.a d,.ptr q 0]) (f:=78) (by simp [go_sem,Done.a,Node.cs,Diag.cs]) (by simp [go_sem,hB]) hs ?_
  by_cases c:d.1.path=n.path
  ·rw [if_pos c] at g2
   subst g2
   refine K_run hB 100 ?_
   simp [go_sem,c]
  ·rw [if_neg c] at g2
   refine K_run hB 100 ?_
   simp [go_sem,c,hkk]
   exact Next.mk (k+1) ⟨by omega,g2⟩ (Imp.slots (by simp [go_sem]) rfl rfl) (by omega)
 ·have:k=L.length:=by omega
  subst this
  rw [List.drop_length,idxP] at g2
  subst g2
  refine K_run hB 100 ?_
  simp [go_sem,hil]
def Inst.toN (x:Inst) (r:SRes) (n:Node):Int:=if x.deadB n.s n.cost r.low=true then 0 else idxP n.path 0 r.log+1
def mkC (x:Inst) (r:SRes):List AV:=[.i x.pairs,.i x.cars,.i x.room,.t (.sl (x.stops.map Stop.t)),.i r.status,.t (.sl (planT r.plan)),.i r.up,.i r.low,.i r.steps,.t (.sl (logT r.log))]
theorem idxP_le (v:List Int):∀(i:Nat) (L:List (Node×Diag)),-1≤idxP v i L∧idxP v i L≤i+L.length
 |i,[]=>by simp only [idxP,List.length_nil];omega
 |i,d :: L=>by
  rw [idxP,List.length_cons]
  split
  ·omega
  ·have:=idxP_le v (i+1) L
   omega
theorem to_pure (x:Inst) (r:SRes) (n:Node) (hl:x.stops.length<2^31) (ho:n.s.ok) (hL:r.log.length<2^31) (hd:∀d∈r.log,d.1.path.length<2^62) (hn:n.path.length<2^62):Pure P 49 [.agg (mkC x r),n.a] (.i (x.toN r n)):=by
 generalize hR:x.toN r n=R
 refine pure_of Tryz.func49 rfl rfl (by simp [Tryz.f49]) (by simp [bnd,bnd.bndL,mkC,Node.a,Node.cs]) (by simp [bnd,bnd.bndL]) fun B hB hnx=>?_
 simp only [Tryz.f49] at hB ⊢
 rw [Inst.toN] at hR
 have hdead:=dead_pure x n.s n.cost r.low hl ho
 have hid:=idxP_le n.path 0 r.log
 have hix:=fun (σ:Nat→AObj) (h:σ 1= .box n.cs)=>didx_spec n r.log hL hd hn (nx:=2) (by omega) h
 rw [Node.cs] at hix
 refine K_run hB 100 ?_
 simp [go_sem,mkC,Node.a,Node.cs]
 refine K_call rfl rfl rfl (args:=[x.a,n.s.a,.i n.cost,.i r.low]) (f:=62) (by simp [go_sem,Inst.a,State.a,State.cs]) (by simp [go_sem,hB]) ((hdead).spec _ _) ?_
 cases c:x.deadB n.s n.cost r.low with
 |true=>
  rw [c,if_pos rfl] at hR
  subst hR
  refine K_run hB 100 ?_
  simp [go_sem]
 |false=>
  rw [c,if_neg (by decide)] at hR
  generalize idxP n.path 0 r.log=i at *
  have w:IntKind.i64.wrap (i+1)=i+1:=w64 _ (by omega)
  refine K_run hB 100 ?_
  simp [go_sem]
  refine K_call rfl rfl rfl (args:=[.t (.sl (logT r.log)),.fn (.func 78) [] [.ptr 1 0]]) (f:=77) (by simp [go_sem]) (by simp [go_sem,hB]) (hix _ (by simp [oput])) ?_
  rw [hR] at w
  refine K_run hB 100 ?_
  simp [go_sem,w,hR]
theorem noto_pure (n:Node):Pure P 48 [n.a] (.i 0):=by
 refine pure_of Tryz.func48 rfl rfl (by simp [Tryz.f48]) (by simp [bnd,bnd.bndL,Node.a,Node.cs]) (by simp [bnd,bnd.bndL]) fun B hB hnx=>?_
 simp only [Tryz.f48] at hB ⊢
 refine K_run hB 100 ?_
 simp [go_sem,Node.a,Node.cs]
def spotOf (f:Node→Int) (n:Node):List T:=(⟨n.s,n.cost,f n⟩:Spot).t
theorem spots_one (f:Node→Int) (l:List Node):∀y∈l.map (spotOf f),y.length=10:=by
 intro y hy
 obtain ⟨_,_,rfl⟩:=List.mem_map.1 hy
 rfl
theorem spots_pure (l:List Node) (f:Node→Int) (fid:FuncId) (pre:List AV) (hl:l.length<2^31) (hpre:bnd.bndL 0 pre=true) (hf:∀n∈l,R.Pure P fid (pre++[n.a]) (.i (f n))):Pure P 50 [.t (.sl (nodesT l)),.fn (.func fid) pre []] (.t (.sl (l.map (spotOf f)))):=by
 generalize hR:l.map (spotOf f)=R
 refine pure_of Tryz.func50 rfl rfl (by simp [Tryz.f50]) (by simp [bnd,bnd.bndL,hpre]) (by simp [bnd,bnd.bndL]) fun B hB hnx=>?_
 simp only [Tryz.f50] at hB ⊢
 have hil:(nodesT l).length=l.length:=List.length_map _
 refine K_run hB 100 ?_
 simp [go_sem,hil]
 refine K_own 5 10 (by simp [go_sem]) ?_
 refine K_loopP (α:=Nat×Nat×(Nat→AObj)×Nat) (fun (k,a,τ,m)=>k≤l.length∧τ a= .arr 10 ((l.take k).map (spotOf f))∧a<m) (fun (k,a,τ,m)=>⟨sl [(1,.fn (.func fid) pre []),(5,.ref a),(8,.t (.sl (nodesT l))),(9,.i l.length),(10,.i k)],τ,m⟩) (fun a=>l.length-a.1) (0,0,_,1) ⟨Nat.zero_le _,?_,by decide⟩ (Imp.slots (by simp [go_sem]) rfl rfl) ?_
 ·simp [oput]
 rintro ⟨k,a,τ,m⟩ ⟨g1,g2,g3⟩
 by_cases hk:k<l.length
 ·have hkk:IntKind.i64.wrap ((k:Int)+1)=((k+1:Nat):Int):=by rw [w64 ((k:Int)+1) (by omega)];rfl
  have hget:∀h,(nodesT l)[k]'h=l[k].t:=fun h=>nodesT_get l hk
  have hp:=hf l[k] (List.getElem_mem _)
  have tk:(l.take (k+1)).map (spotOf f)=(l.take k).map (spotOf f)++[spotOf f l[k]]:=by rw [List.take_succ_eq_append_getElem hk,List.map_append];rfl
  have tk2:(l.map (spotOf f)).take (k+1)=(l.take k).map (spotOf f)++[spotOf f l[k]]:=by rw [←List.map_take];exact tk
  have h10:=spots_one f (l.take k)
  have hln:((l.take k).map (spotOf f)).length=k:=by rw [List.length_map,List.length_take];omega
  have hcap:k+1≤mostLen:=by show _≤4294967296;omega
  generalize l[k]=n at *
  generalize (l.take k).map (spotOf f)=rows at *
  have ne1:¬a=m:=by omega
  refine K_run hB 60 ?_
  simp [go_sem,hil,hk,hget,Node.t]
  refine K_drawnT [10] rfl (by rw [hB];kernel_rfl) (by kernel_rfl) fun ht=>?_
  refine K_run hB 100 ?_
  simp [go_sem,ht,Node.cs]
  refine K_dCallP rfl rfl rfl (args:=pre++[n.a]) (f:=fid) (by simp [go_sem,Node.a,Node.cs]) hp ?_
  refine K_run hB 100 ?_
  simp [go_sem,ht,ne1,g2,h10,hln,hcap,hkk]
  refine Next.mk (k+1,m+1,_,m+2) ⟨by omega,?_,by simp only;omega⟩ (Imp.slots (by simp [go_sem]) rfl rfl) (by simp only;omega)
  simp only
  first | rw [tk] | rw [tk2]
  simp [oput,spotOf,Spot.t]
 ·have:k=l.length:=by omega
  subst this
  rw [List.take_length,hR] at g2
  refine K_run hB 100 ?_
  simp [go_sem,hil,g2]
end Go.Proofs.YtnoifgjiipgpoaaGreat

set_option maxRecDepth 4000
set_option maxHeartbeats 1000000
namespace Go.Proofs.YtnoifgjiipgpoaaGreat
open Go Go.Proofs.YtnoifgjiipgpoaaGreat.R
def cutB (r:SRes) (d:Diag):Bool:=!d.exact&&decide (d.low<r.low)
def laysP (r:SRes) (d:Diag):List (List Node):=if cutB r d=true then d.layers.take d.sure else d.layers
def lastP (r:SRes) (d:Diag):Int:=if cutB r d=true then (d.sure:Int)-1 else -1
def layF (x:Inst) (r:SRes) (last:Int) (k:Nat):Node→Int:=if (k:Int)=last then x.toN r else fun _=>0
def layG (x:Inst) (r:SRes) (last:Int) (k:Nat) (l:List Node):List T:=[.sl (l.map (spotOf (layF x r last k)))]
def rowsP (x:Inst) (r:SRes) (last:Int) (ls:List (List Node)) (k:Nat):List (List T):=(List.range k).map fun j=>layG x r last j (ls.getD j [])
theorem lays_len (r:SRes) (d:Diag):(laysP r d).length≤d.layers.length:=by
 unfold laysP
 split
 ·rw [List.length_take];omega
 ·exact Nat.le_refl _
theorem rowsP_one (x:Inst) (r:SRes) (last:Int) (ls:List (List Node)) (k:Nat):∀y∈rowsP x r last ls k,y.length=1:=by
 intro y hy
 obtain ⟨_,_,rfl⟩:=List.mem_map.1 hy
 rfl
theorem rowsP_len (x:Inst) (r:SRes) (last:Int) (ls:List (List Node)) (k:Nat):(rowsP x r last ls k).length=k:=by rw [rowsP,List.length_map,List.length_range]
theorem rowsP_succ (x:Inst) (r:SRes) (last:Int) (ls:List (List Node)) {k:Nat} (h:k<ls.length):rowsP x r last ls (k+1)=rowsP x r last ls k++[layG x r last k ls[k]]:=by
 rw [rowsP,List.range_succ,List.map_append,List.map_singleton,List.getD_eq_getElem?_getD,List.getElem?_eq_getElem h]
 rfl
theorem part_pure (x:Inst) (r:SRes) (d:Diag) (hl:x.stops.length<2^31) (hL:r.log.length<2^31) (hd:∀d∈r.log,d.1.path.length<2^62) (hds:d.sure≤d.layers.length) (hdl:d.layers.length<2^31) (hok:∀l∈d.layers,l.length<2^31∧∀n∈l,n.s.ok∧n.path.length<2^62):Pure P 25 [.agg (mkC x r),d.a] (.agg [.t (.sl (rowsP x r (lastP r d) (laysP r d) (laysP r d).length))]):=by
 generalize hR:rowsP x r (lastP r d) (laysP r d) (laysP r d).length=R
 refine pure_of Tryz.func25 rfl rfl (by simp [Tryz.f25]) (by simp [bnd,bnd.bndL,mkC,Diag.a,Diag.cs]) (by simp [bnd,bnd.bndL]) fun B hB hnx=>?_
 simp only [Tryz.f25] at hB ⊢
 have hlen:(lysT d.layers).length=d.layers.length:=List.length_map _
 have hsub:∀l∈laysP r d,l∈d.layers:=fun l h=>by
  unfold laysP at h
  split at h
  ·exact List.mem_of_mem_take h
  ·exact h
 obtain ⟨ls,hls⟩:∃ls,ls=laysP r d:=⟨_,rfl⟩
 obtain ⟨last,hlast⟩:∃v,v=lastP r d:=⟨_,rfl⟩
 rw [←hls,←hlast] at hR
 rw [←hls] at hsub
 by_cases c1:d.exact=true
 case' pos=>
  have e1:ls=d.layers:=by rw [hls,laysP,cutB,if_neg (by simp [c1])]
  have e2:last= -1:=by rw [hlast,lastP,cutB,if_neg (by simp [c1])]
  rw [←e1] at hlen
  refine K_run hB 34 ?_
  simp [go_sem,mkC,Diag.a,Diag.cs,c1,←e1]
 case' neg=>
  have c1':d.exact=false:=by simpa using c1
  by_cases c2:d.low<r.low
  case' pos=>
   have e1:ls=d.layers.take d.sure:=by rw [hls,laysP,cutB,if_pos (by simp [c1',c2])]
   have e2:last=(d.sure:Int)-1:=by rw [hlast,lastP,cutB,if_pos (by simp [c1',c2])]
   have htk:(lysT d.layers).take d.sure=lysT ls:=by rw [e1];simp [lysT]
   have w1:IntKind.i64.wrap ((d.sure:Int)-1)=last:=by rw [e2];exact w64 _ (by omega)
   have hmx:max (d.sure:Int) 0=d.sure:=by omega
   have hmn:min (d.sure:Int) (d.layers.length:Int)=d.sure:=by omega
   refine K_run hB 100 ?_
   simp [go_sem,mkC,Diag.a,Diag.cs,c1',c2]
   refine K_drawn [] rfl (by rw [hB];kernel_rfl) ?_
   have h1o:∀y∈lysT d.layers,y.length=1:=by
    intro y hy
    obtain ⟨_,_,rfl⟩:=List.mem_map.1 hy
    rfl
   refine K_run hB 16 ?_
   simp [go_sem,hlen,hmx,hmn,w1,htk,hds,if_pos h1o]
  case' neg=>
   have e1:ls=d.layers:=by rw [hls,laysP,cutB,if_neg (by simp [c2])]
   have e2:last= -1:=by rw [hlast,lastP,cutB,if_neg (by simp [c2])]
   refine K_run hB 40 ?_
   simp [go_sem,mkC,Diag.a,Diag.cs,c1',c2,←e1]
 all_goals
  refine K_impC (t:=⟨sl [(2,.ptr 0 0),(4,.ptr 2 0),(5,.fn (.func 48) [] []),(6,.t (.sl (lysT ls))),(7,.i last)],ob [(0,.box (mkC x r)),(2,.box [.fsl []])],3⟩) (Imp.of (by simp [go_sem,e2]) (fun i=>?_) rfl) ?_
  ·match i with
   |0=>exact .inr (by simp [oput,ob,mkC])
   |1=>exact .inl (by simp [ob,noObj])
   |2=>exact .inr (by simp [oput,ob])
   |i+3=>exact .inl (by simp [ob,noObj])
  clear e1 e2
 all_goals
  refine K_run hB 100 ?_
  simp [go_sem]
  refine K_less (Imp.ownB (b:=3) (off:=0) (sz:=1) (cs:=[.fsl []]) (by simp [oput]) rfl) ?_
  refine K_loopP (α:=Nat×Nat×(Nat→AObj)×Nat) (fun (k,a,τ,m)=>k≤ls.length∧τ 0= .box (mkC x r)∧τ 2= .box [.fsl []]∧τ 3= .box [.ref a]∧τ a= .arr 1 (rowsP x r last ls k)∧a<m∧4≤a) (fun (k,a,τ,m)=>⟨sl [(2,.ptr 0 0),(4,.ptr 2 0),(5,.fn (.func 48) [] []),(7,.i last),(8,.ptr 3 0),(38,.t (.sl (lysT ls))),(39,.i ls.length),(40,.i k)],τ,m⟩) (fun a=>ls.length-a.1) (0,4,_,5) ⟨Nat.zero_le _,by simp [oput,ob],by simp [oput,ob],by simp [oput,ob],by simp [oput,ob,rowsP],by decide,by decide⟩ (Imp.slots (by simp [go_sem,lysT]) rfl rfl) ?_
  rintro ⟨k,a,τ,m⟩ ⟨g1,g2,g3,g4,g5,g6,g7⟩
  have hll:(lysT ls).length=ls.length:=List.length_map _
  have hls31:ls.length<2^31:=by
   rw [hls]
   have:=lays_len r d
   omega
  have n0:¬0=m:=by omega
  have n2:¬2=m:=by omega
  have n3:¬3=m:=by omega
  have n4:¬a=3:=by omega
  have n5:¬3=a:=by omega
  have n6:¬m=3:=by omega
  have n7:¬0=a:=by omega
  have n8:¬2=a:=by omega
  have n9:¬2=3:=by decide
  have na:¬a=2:=by omega
  by_cases hk:k<ls.length
  ·have hkk:IntKind.i64.wrap ((k:Int)+1)=((k+1:Nat):Int):=by rw [w64 ((k:Int)+1) (by omega)];rfl
   have hget:∀h,(lysT ls)[k]'h=[.sl (nodesT ls[k])]:=fun h=>by simp [lysT]
   have hrs:=rowsP_succ x r last ls hk
   obtain ⟨hln,hlo⟩:=hok ls[k] (hsub _ (List.getElem_mem _))
   have h1:=rowsP_one x r last ls k
   have hrl:=rowsP_len x r last ls k
   have hcap:k+1≤mostLen:=by show _≤4294967296;omega
   rw [layG] at hrs
   generalize ls[k]=l at *
   generalize rowsP x r last ls k=rows at *
   by_cases ck:(k:Int)=last
   ·have hF:layF x r last k=x.toN r:=if_pos ck
    rw [hF] at hrs
    have hsp:=spots_pure l (x.toN r) 49 [.agg (mkC x r)] hln (by simp [bnd,bnd.bndL,mkC]) fun n hn=>to_pure x r n hl (hlo n hn).1 hL hd (hlo n hn).2
    subst ck
    refine K_run hB 60 ?_
    simp [go_sem,hk,hll,hget,g2,mkC]
    refine K_drawnT [6,8] rfl (by rw [hB];kernel_rfl) (by kernel_rfl) fun ht=>?_
    refine K_run hB 100 ?_
    simp [go_sem,ht,g4]
    refine K_dCallP rfl rfl rfl (args:=[.t (.sl (nodesT l)),.fn (.func 49) [.agg (mkC x r)] []]) (f:=50) (by simp [go_sem,mkC]) hsp ?_
    refine K_run hB 100 ?_
    simp [go_sem,ht,g4,g5,hrl,h1,hcap,n0,n2,n3,n4,n5,n6,hkk]
    refine Next.mk (k+1,m,_,m+1) ⟨by omega,?_,?_,?_,?_,by simp only;omega,by simp only;omega⟩ (Imp.slots (by simp [go_sem]) rfl rfl) (by simp only;omega)
    all_goals simp [oput,n0,n2,n3,n4,n5,n6,n7,n8,g2,g3,g4,g5,hrs,setCells,mkC]
   ·have hF:layF x r last k=fun _=>0:=if_neg ck
    rw [hF] at hrs
    have hsp:=spots_pure l (fun _=>0) 48 [] hln rfl fun n hn=>noto_pure n
    refine K_run hB 60 ?_
    simp [go_sem,hk,hll,hget,ck]
    refine K_drawnT [6,8] rfl (by rw [hB];kernel_rfl) (by kernel_rfl) fun ht=>?_
    refine K_run hB 100 ?_
    simp [go_sem,ht,g4]
    refine K_dCallP rfl rfl rfl (args:=[.t (.sl (nodesT l)),.fn (.func 48) [] []]) (f:=50) (by simp [go_sem]) hsp ?_
    refine K_run hB 100 ?_
    simp [go_sem,ht,g4,g5,hrl,h1,hcap,n0,n2,n3,n4,n5,n6,hkk]
    refine Next.mk (k+1,m,_,m+1) ⟨by omega,?_,?_,?_,?_,by simp only;omega,by simp only;omega⟩ (Imp.slots (by simp [go_sem]) rfl rfl) (by simp only;omega)
    all_goals simp [oput,n0,n2,n3,n4,n5,n6,n7,n8,g2,g3,g4,g5,hrs,setCells]
  ·have:k=ls.length:=by omega
   subst this
   rw [hR] at g5
   refine K_run hB 100 ?_
   simp [go_sem,hll,g4,g3,g5,n5,n8,n9,na]
def spotN (f:Node→Int) (n:Node):Spot:=⟨n.s,n.cost,f n⟩
def Inst.partM (x:Inst) (r:SRes) (d:Diag):List (List Spot):=(List.range (laysP r d).length).map fun j=>((laysP r d).getD j []).map (spotN (layF x r (lastP r d) j))
def Inst.proofOf (x:Inst) (r:SRes):Prf:=⟨r.low,if r.log.length=0 then [[[⟨x.rootS,0,0⟩]]] else r.log.map fun d=>x.partM r d.2⟩
theorem partM_rows (x:Inst) (r:SRes) (d:Diag):(x.partM r d).map layT=rowsP x r (lastP r d) (laysP r d) (laysP r d).length:=by
 rw [Inst.partM,List.map_map,rowsP]
 refine List.map_congr_left fun j _=>?_
 simp only [Function.comp,layT,layG,List.map_map]
 rfl
end Go.Proofs.YtnoifgjiipgpoaaGreat

set_option maxRecDepth 4000
namespace Go.Proofs.YtnoifgjiipgpoaaGreat
open Go Go.Proofs.YtnoifgjiipgpoaaGreat.R
theorem goes_mayB {x:Inst}:∀(l:List Int) (s:State) (c:Int) (t:State) (e:Int),s.mayB x=true→x.goes l s c=some (t,e)→t.mayB x=true
 |[],s,c,t,e,h,hg=>by
  obtain ⟨rfl,_⟩:=Prod.mk.inj (Option.some.inj hg)
  exact h
 |j :: l,s,c,t,e,h,hg=>by
  rw [Inst.goes] at hg
  split at hg
  ·rename_i hj
   exact goes_mayB l _ _ t e (move_mayB hj) hg
  ·cases hg
theorem Track.fits {x:Inst} (hm:x.may=true) {n:Node} (h:Track x n):n.Fits x:=
 ⟨goes_mayB _ _ _ _ _ (root_mayB hm) h.goes,by have:=h.fit;omega⟩
theorem idxP_in (v:List Int):∀(i:Nat) (L:List (Node×Diag)),idxP v i L= -1∨((i:Int)≤idxP v i L∧idxP v i L<i+L.length)
 |i,[]=>.inl rfl
 |i,d :: L=>by
  rw [idxP,List.length_cons]
  split
  ·exact .inr ⟨Int.le_refl _,by omega⟩
  ·rcases idxP_in v (i+1) L with h | h
   ·exact .inl h
   ·exact .inr (by omega)
theorem idxP_at (v:List Int):∀(i:Nat) (L:List (Node×Diag)) (j:Nat) (d:Node×Diag),(L.map fun d=>d.1.path).Nodup→L[j]? =some d→d.1.path=v→idxP v i L=((i+j:Nat):Int)
 |i,[],j,d,_,h,_=>by simp at h
 |i,a :: L,0,d,hn,h,hv=>by
  simp only [List.getElem?_cons_zero,Option.some.injEq] at h
  subst h
  rw [idxP,if_pos hv]
  rfl
 |i,a :: L,j+1,d,hn,h,hv=>by
  rw [List.map_cons,List.nodup_cons] at hn
  rw [List.getElem?_cons_succ] at h
  rw [idxP,if_neg,idxP_at v (i+1) L j d hn.2 h hv]
  ·omega
  ·intro e
   refine hn.1 ?_
   rw [e,←hv]
   exact List.mem_map.2 ⟨d,List.mem_of_getElem? h,rfl⟩
theorem dead_of (x:Inst) (n:Node) (low:Int):x.deadB n.s n.cost low=decide (low≤x.of n):=rfl
theorem toN_in (x:Inst) (r:SRes) (n:Node):0≤x.toN r n∧x.toN r n≤r.log.length:=by
 unfold Inst.toN
 have:=idxP_in n.path 0 r.log
 split<;>omega
theorem layF_in (x:Inst) (r:SRes) (last:Int) (k:Nat) (n:Node):0≤layF x r last k n∧layF x r last k n≤r.log.length:=by
 unfold layF
 split
 ·exact toN_in x r n
 ·show (0:Int)≤0∧(0:Int)≤_
  omega
theorem partM_get {x:Inst} {r:SRes} {d:Diag} (i:Nat):(x.partM r d)[i]? =((laysP r d)[i]?).map fun l=>l.map (spotN (layF x r (lastP r d) i)):=by
 rw [Inst.partM,List.getElem?_map]
 by_cases h:i<(laysP r d).length
 ·rw [List.getElem?_range h,List.getElem?_eq_getElem h,Option.map_some,Option.map_some,List.getD_eq_getElem?_getD,List.getElem?_eq_getElem h]
  rfl
 ·rw [List.getElem?_eq_none (by rw [List.length_range];omega),List.getElem?_eq_none (by omega)]
  rfl
theorem lays_head {x:Inst} (r:SRes) (n:Node) (w u:Int):∃t,laysP r (x.build n w u)=[n] :: t:=by
 obtain ⟨ls,h⟩:=build_head x n w u
 have hp:=(build_ok x n w u).pos
 unfold laysP
 split
 ·rw [h]
  obtain ⟨k,hk⟩:∃k,(x.build n w u).sure=k+1:=⟨(x.build n w u).sure-1,by omega⟩
  rw [hk,List.take_succ_cons]
  exact ⟨_,rfl⟩
 ·exact ⟨ls,h⟩
theorem partM_head {x:Inst} {r:SRes} {n:Node} {w u:Int}:∃t,x.partM r (x.build n w u)=[spotN (layF x r (lastP r (x.build n w u)) 0) n] :: t:=by
 obtain ⟨t,ht⟩:=lays_head (x:=x) r n w u
 have:=partM_get (x:=x) (r:=r) (d:=x.build n w u) 0
 rw [ht] at this
 cases hp:x.partM r (x.build n w u) with
 |nil=>rw [hp] at this;simp at this
 |cons a t=>rw [hp] at this;simp at this;exact ⟨t,by rw [this]⟩
theorem lays_mem {r:SRes} {d:Diag} {l:List Node} (h:l∈laysP r d):l∈d.layers:=by
 unfold laysP at h
 split at h
 ·exact List.mem_of_mem_take h
 ·exact h
theorem goes_of {x:Inst} {low u:Int} {m:Node} {f g:Node→Int} {l l':List Node} (hm:m∈l) (hc:Cov x l' l u) (hu:low≤u):x.goesB low (spotN f m) (l'.map (spotN g))=true:=by
 rw [Inst.goesB,List.all_eq_true]
 intro j hj
 have hj:j∈x.moves m.s:=hj
 rw [Inst.goB,Bool.or_eq_true]
 by_cases c:x.of (x.child m j)<u
 ·refine .inr ?_
  obtain ⟨q,q1,q2,q3⟩:=onceL_has (l:=l.flatMap (x.kids u)) (k:=x.child m j) (by
   refine List.mem_flatMap.2 ⟨m,hm,?_⟩
   rw [Inst.kids,List.mem_filter]
   exact ⟨List.mem_map.2 ⟨j,hj,rfl⟩,by simpa using c⟩)
  obtain ⟨z,z1,z2,z3⟩:=hc q q1
  rw [List.any_eq_true]
  refine ⟨spotN g z,List.mem_map.2 ⟨z,z1,rfl⟩,?_⟩
  rw [Bool.and_eq_true]
  refine ⟨decide_eq_true ?_,?_⟩
  ·show z.cost≤(x.child m j).cost
   omega
  ·rw [q2] at z2
   exact z2
 ·refine .inl ?_
  show decide (low≤x.of (x.child m j))=true
  exact decide_eq_true (by omega)
theorem holds_node {x:Inst} (hm:x.may=true) {w:Int} {r:SRes} (hD:DoneX x w r) {p:Prf} (hp:p=⟨r.low,r.log.map fun d=>x.partM r d.2⟩) {k:Nat} {n:Node} {d:Diag} (hk:r.log[k]? =some (n,d)) {i:Nat} {lay:List Node} (hi:(laysP r d)[i]? =some lay) {m:Node} (hmm:m∈lay):
  x.holdsB p k i (spotN (layF x r (lastP r d) i) m) (n.path.length:Int)=true∧(0<layF x r (lastP r d) i m→(∃(j:Nat) (D:Diag),k<j∧r.log[j]? =some (m,D)∧layF x r (lastP r d) i m=j+1)∧m.path.length=n.path.length+i):=by
 obtain ⟨ht,u,hd,hu,h4⟩:=hD.all k n d hk
 have hok:=build_ok x n w u
 obtain ⟨hfit,hcov⟩:=build_cov (ht.fits hm) w u
 have hcnt:=build_count x n w u
 have hbest:=build_best x n w u
 have hdeep:=(deep_meas hm).2
 rw [←hd] at hok hfit hcov hcnt hbest
 have hlm:=List.mem_of_getElem? hi
 have hlm2:=lays_mem hlm
 have hsub:∀(i:Nat) lay,(laysP r d)[i]? =some lay→d.layers[i]? =some lay∧(cutB r d=true→i<d.sure):=fun i lay hi=>by
  unfold laysP at hi
  split at hi
  ·have:=(List.getElem?_eq_some_iff.1 hi).1
   rw [List.length_take] at this
   rw [List.getElem?_take_of_lt (by omega)] at hi
   exact ⟨hi,fun _=>by omega⟩
  ·rename_i hc
   exact ⟨hi,fun h=>absurd h hc⟩
 obtain ⟨hi2,hi3⟩:=hsub i lay hi
 have hil:=(List.getElem?_eq_some_iff.1 hi2).1
 have hpl:p.least=r.low:=by rw [hp]
 have hpk:p.parts[k]? =some (x.partM r d):=by rw [hp,List.getElem?_map,hk];rfl
 have hnext:((p.parts[k]?).getD []).getD (i+1) []=(((laysP r d)[i+1]?).getD []).map (spotN (layF x r (lastP r d) (i+1))):=by
  rw [hpk,Option.getD_some,List.getD_eq_getElem?_getD,partM_get]
  cases (laysP r d)[i+1]?<;>rfl
 have hw:IntKind.i64.wrap ((n.path.length:Int)+i)=(n.path.length:Int)+i:=w64 _ (by have:=ht.few;omega)
 have hEnd:cutB r d=false∨i<d.sure-1→(x.endS m.s).2=true→r.low≤sumI [m.cost,(x.endS m.s).1]:=by
  intro hc he
  obtain ⟨b1,b2⟩:=bests_has hmm he
  by_cases c1:r.low≤d.low
  ·have:=hbest lay hlm2 b1
   omega
  rcases h4 with h4 | ⟨h4,h5⟩ | ⟨h4,h5,_⟩
  ·exact absurd h4 c1
  ·have hs:d.sure=d.layers.length:=of_decide_eq_true (by rw [←hok.whole];exact h4)
   have hl:=hok.lay i (by omega)
   rw [hi2] at hl
   have hl:=Option.some.inj hl
   rw [hl] at hmm
   have htm:=(layN_track ht u i m hmm).1
   have hec:=end_cost he
   have hf:=htm.fit
   obtain ⟨v,hv⟩:=layN_way ht u i m hmm [] (x.endS m.s).1 ⟨he,rfl⟩
   have:=h5 _ _ hv
   rw [sumI_two hf.1 hec.1 (by omega)]
   omega
  ·have hci:i<d.sure-1:=by
    rcases hc with hc | hc
    ·rw [cutB,h4] at hc
     simp at hc
     omega
    ·exact hc
   have hl:=hok.lay i (by omega)
   rw [hi2] at hl
   have hl:=Option.some.inj hl
   rw [hl] at b1 b2
   have:=h5 i hci b1
   omega
 have hGoes:cutB r d=false∨i<d.sure-1→(n.path.length:Int)+i<x.deep→x.goesB r.low (spotN (layF x r (lastP r d) i) m) ((((laysP r d)[i+1]?).getD []).map (spotN (layF x r (lastP r d) (i+1))))=true:=by
  intro hc hdp
  refine goes_of hmm ?_ hu
  cases hcut:cutB r d with
  |false=>
   have:laysP r d=d.layers:=by rw [laysP,hcut,if_neg (by decide)]
   rw [this]
   rcases hcov i lay hi2 with h | h
   ·exact h
   ·omega
  |true=>
   rw [hcut] at hc
   have hci:i<d.sure-1:=hc.resolve_left (by decide)
   have hl:=hok.lay i (by omega)
   rw [hi2] at hl
   have hl2:=hok.lay (i+1) (by omega)
   have:(laysP r d)[i+1]? =some (x.layN u n (i+1)):=by
    rw [laysP,hcut,if_pos rfl,List.getElem?_take_of_lt (by omega)]
    exact hl2
   rw [this,Option.some.inj hl]
   exact fun c hcm=>⟨c,hcm,covers_refl _,Int.le_refl _⟩
 have rest:cutB r d=false∨i<d.sure-1→¬r.low≤x.of m→layF x r (lastP r d) i m=0→x.holdsB p k i (spotN (layF x r (lastP r d) i) m) (n.path.length:Int)=true:=by
  intro hc c0 hz
  rw [Inst.holdsB,hpl,hw,hnext]
  rw [if_neg (by show ¬decide (r.low≤x.of m)=true;simpa using c0)]
  rw [if_neg (by show ¬0<layF x r (lastP r d) i m;omega)]
  rw [if_neg (by
   rintro ⟨e1,e2⟩
   have e2:sumI [m.cost,(x.endS m.s).1]<r.low:=e2
   have:=hEnd hc e1
   omega)]
  split
  ·rfl
  ·rename_i c3
   exact hGoes hc (by omega)
 cases hcut:cutB r d with
 |false=>
  have hlast:lastP r d= -1:=by rw [lastP,hcut,if_neg (by decide)]
  have hz:layF x r (lastP r d) i m=0:=by rw [hlast,layF,if_neg (by omega)]
  refine ⟨?_,fun h=>absurd h (by omega)⟩
  by_cases c0:r.low≤x.of m
  ·rw [Inst.holdsB,hpl,if_pos (by show decide (r.low≤x.of m)=true;exact decide_eq_true c0)]
  ·exact rest (.inl hcut) c0 hz
 |true=>
  have his:=hi3 hcut
  have hlast:lastP r d=(d.sure:Int)-1:=by rw [lastP,hcut,if_pos rfl]
  have hl:=hok.lay i his
  rw [hi2] at hl
  have hl:=Option.some.inj hl
  have hlen:=(layN_track ht u i m (by rw [←hl];exact hmm)).2
  by_cases c0:r.low≤x.of m
  ·have hz:layF x r (lastP r d) i m=0:=by
    rw [layF]
    split
    ·rw [Inst.toN,dead_of,if_pos (decide_eq_true c0)]
    ·rfl
   refine ⟨?_,fun h=>absurd h (by omega)⟩
   rw [Inst.holdsB,hpl,if_pos (by show decide (r.low≤x.of m)=true;exact decide_eq_true c0)]
  by_cases ci:i<d.sure-1
  ·have hz:layF x r (lastP r d) i m=0:=by rw [hlast,layF,if_neg (by omega)]
   exact ⟨rest (.inr ci) c0 hz,fun h=>absurd h (by omega)⟩
  have ei:i=d.sure-1:=by omega
  have hto:layF x r (lastP r d) i m=x.toN r m:=by rw [hlast,layF,if_pos (by omega)]
  rw [cutB,Bool.and_eq_true,decide_eq_true_eq] at hcut
  have hex:d.exact=false:=by simpa using hcut.1
  obtain ⟨j,hj,D,hjD⟩:∃j,k+1≤j∧∃D,r.log[j]? =some (m,D):=by
   rcases h4 with h4 | ⟨h4,_⟩ | ⟨_,_,h6⟩
   ·omega
   ·rw [hex] at h4;cases h4
   ·rcases h6 m (by rw [←ei,←hl];exact hmm) with h | h
    ·omega
    ·exact h
  have hidx:x.toN r m=(j:Int)+1:=by
   rw [Inst.toN,dead_of,if_neg (by simpa using c0),idxP_at m.path 0 r.log j (m,D) hD.nodup hjD rfl,Nat.zero_add]
  refine ⟨?_,fun _=>⟨⟨j,D,by omega,hjD,by rw [hto,hidx]⟩,hlen⟩⟩
  rw [Inst.holdsB,hpl,if_neg (by show ¬decide (r.low≤x.of m)=true;simpa using c0)]
  have hpart:(spotN (layF x r (lastP r d) i) m).part=(j:Int)+1:=by show layF x r (lastP r d) i m=_;rw [hto,hidx]
  rw [if_pos (by rw [hpart];omega),Prf.leadsB,hpart]
  obtain ⟨_,u',hd',_⟩:=hD.all j m D hjD
  obtain ⟨t,hh⟩:=partM_head (x:=x) (r:=r) (n:=m) (w:=w) (u:=u')
  rw [←hd'] at hh
  have hf:p.first j=some (spotN (layF x r (lastP r D) 0) m):=by
   rw [Prf.first,hp]
   simp only
   rw [List.getElem?_map,hjD,Option.map_some,hh]
  rw [show ((j:Int)+1-1).toNat=j by omega,hf]
  simp only
  rw [Bool.and_eq_true,Bool.and_eq_true]
  exact ⟨decide_eq_true (by omega),decide_eq_true rfl,decide_eq_true (Int.le_refl _)⟩
structure Deeps (r:SRes) (dl:List Int):Prop where
 len:dl.length=r.log.length
 deep:∀(j:Nat) n D,r.log[j]? =some (n,D)→dl.getD j 0=infI∨dl.getD j 0=(n.path.length:Int)
theorem Deeps.step {x:Inst} {w:Int} {r:SRes} (hD:DoneX x w r) {dl:List Int} (h:Deeps r dl) {k i:Nat} {n:Node} {d:Diag} (hk:r.log[k]? =some (n,d)) (hdk:dl.getD k 0=(n.path.length:Int)) (hi:i<2^31) {m:Node} {f:Node→Int} (hf:0<f m→(∃(j:Nat) (D:Diag),k<j∧r.log[j]? =some (m,D)∧f m=j+1)∧m.path.length=n.path.length+i):
  Deeps r (stepD k i (spotN f m) dl)∧(stepD k i (spotN f m) dl).getD k 0=(n.path.length:Int):=by
 unfold stepD
 split
 ·rename_i c
  have c:(k:Int)<f m-1:=c
  obtain ⟨⟨j,D,hj,hjD,hfm⟩,hlen⟩:=hf (by omega)
  have e:((spotN f m).part-1).toNat=j:=by show (f m-1).toNat=j;omega
  have hjl:=(List.getElem?_eq_some_iff.1 hjD).1
  rw [e,hdk]
  have htk:=(hD.all k n d hk).1.few
  have hw:IntKind.i64.wrap ((n.path.length:Int)+i)=(m.path.length:Int):=by rw [w64 _ (by omega)];omega
  have htm:=(hD.all j m D hjD).1.few
  have hmin:min (dl.getD j 0) (IntKind.i64.wrap ((n.path.length:Int)+i))=(m.path.length:Int):=by
   rw [hw]
   have:infI=1152921504606846976:=rfl
   rcases h.deep j m D hjD with h | h<;>omega
  rw [hmin]
  have hl:=h.len
  refine ⟨⟨by rw [List.length_set];exact h.len,fun a n' D' ha=>?_⟩,?_⟩
  ·rw [getD_set (by omega)]
   split
   ·rename_i e2
    subst e2
    rw [hjD] at ha
    cases ha
    exact .inr rfl
   ·exact h.deep a n' D' ha
  ·rw [getD_set (by omega),if_neg (by omega)]
   exact hdk
 ·exact ⟨h,hdk⟩
theorem layGo_ok {x:Inst} {w:Int} {r:SRes} (hD:DoneX x w r) {p:Prf} {k i:Nat} {n:Node} {d:Diag} (hk:r.log[k]? =some (n,d)) (hi:i<2^31) {f:Node→Int}:∀(l:List Node) (dl:List Int),Deeps r dl→dl.getD k 0=(n.path.length:Int)→
  (∀m∈l,x.holdsB p k i (spotN f m) (n.path.length:Int)=true∧(0<f m→(∃(j:Nat) (D:Diag),k<j∧r.log[j]? =some (m,D)∧f m=j+1)∧m.path.length=n.path.length+i))→
  ∃dl',x.layGo p k i (l.map (spotN f)) dl=some dl'∧Deeps r dl'∧dl'.getD k 0=(n.path.length:Int)
 |[],dl,h,hdk,_=>⟨dl,rfl,h,hdk⟩
 |m :: l,dl,h,hdk,hl=>by
  obtain ⟨h1,h2⟩:=hl m List.mem_cons_self
  rw [List.map_cons,Inst.layGo,hdk,if_pos h1]
  obtain ⟨g1,g2⟩:=h.step hD hk hdk hi h2
  exact layGo_ok hD hk hi l _ g1 g2 fun q hq=>hl q (List.mem_cons_of_mem _ hq)
theorem partGo_ok {x:Inst} (hm:x.may=true) {w:Int} {r:SRes} (hD:DoneX x w r) {p:Prf} (hp:p=⟨r.low,r.log.map fun d=>x.partM r d.2⟩) {k:Nat} {n:Node} {d:Diag} (hk:r.log[k]? =some (n,d)) (hlen:(x.partM r d).length<2^31):∀(f i:Nat) (dl:List Int),(x.partM r d).length-i=f→Deeps r dl→dl.getD k 0=(n.path.length:Int)→
  ∃dl',x.partGo p k i ((x.partM r d).drop i) dl=some dl'∧Deeps r dl'
 |0,i,dl,hf,h,hdk=>by
  rw [List.drop_eq_nil_of_le (by omega)]
  exact ⟨dl,rfl,h⟩
 |f+1,i,dl,hf,h,hdk=>by
  have hi:i<(x.partM r d).length:=by omega
  have hg:=partM_get (x:=x) (r:=r) (d:=d) i
  rw [List.getElem?_eq_getElem hi] at hg
  cases hl:(laysP r d)[i]? with
  |none=>rw [hl] at hg;cases hg
  |some lay=>
   rw [hl] at hg
   have hg:=Option.some.inj hg
   rw [List.drop_eq_getElem_cons hi,hg,Inst.partGo]
   obtain ⟨dl',g1,g2,g3⟩:=layGo_ok hD (p:=p) hk (by omega) lay dl h hdk fun m hmm=>holds_node hm hD hp hk hl hmm
   rw [g1]
   exact partGo_ok hm hD hp hk hlen f (i+1) dl' (by omega) g2 g3
theorem partsGo_ok {x:Inst} (hm:x.may=true) {w:Int} {r:SRes} (hD:DoneX x w r) {p:Prf} (hp:p=⟨r.low,r.log.map fun d=>x.partM r d.2⟩) (hlen:∀(k:Nat) n d,r.log[k]? =some (n,d)→(x.partM r d).length<2^31):∀(f k:Nat) (dl:List Int),r.log.length-k=f→Deeps r dl→∃dl',x.partsGo p k (p.parts.drop k) dl=some dl'
 |0,k,dl,hf,h=>by
  have:p.parts.length=r.log.length:=by rw [hp];exact List.length_map _
  rw [List.drop_eq_nil_of_le (by omega)]
  exact ⟨dl,rfl⟩
 |f+1,k,dl,hf,h=>by
  have hl:p.parts.length=r.log.length:=by rw [hp];exact List.length_map _
  have hk:k<r.log.length:=by omega
  have hk2:k<p.parts.length:=by omega
  have hget:r.log[k]? =some (r.log[k].1,r.log[k].2):=List.getElem?_eq_getElem hk
  have hpk:p.parts[k]=x.partM r r.log[k].2:=by subst hp;exact List.getElem_map _
  rw [List.drop_eq_getElem_cons hk2,hpk,Inst.partsGo]
  generalize r.log[k].1=n at *
  generalize r.log[k].2=d at *
  split
  ·exact partsGo_ok hm hD hp hlen f (k+1) dl (by omega) h
  ·rename_i c
   have hdk:=(h.deep k n d hget).resolve_left c
   obtain ⟨dl',g1,g2⟩:=partGo_ok hm hD hp hget (hlen k n d hget) _ 0 dl rfl h hdk
   rw [List.drop_zero] at g1
   rw [g1]
   exact partsGo_ok hm hD hp hlen f (k+1) dl' (by omega) g2
theorem partM_len {x:Inst} {r:SRes} {d:Diag}:(x.partM r d).length=(laysP r d).length:=by rw [Inst.partM,List.length_map,List.length_range]
theorem partM_whole {x:Inst} (hm:x.may=true) {w:Int} {r:SRes} (hD:DoneX x w r) {p:Prf} (hl:p.parts.length=r.log.length) {k:Nat} {n:Node} {d:Diag} (hk:r.log[k]? =some (n,d)):x.wholeB p (x.partM r d)=true:=by
 obtain ⟨ht,u,hd,_,_⟩:=hD.all k n d hk
 obtain ⟨t,hh⟩:=partM_head (x:=x) (r:=r) (n:=n) (w:=w) (u:=u)
 have hfit:=(build_cov (ht.fits hm) w u).1
 rw [←hd] at hh hfit
 have hall:∀l∈x.partM r d,∀s∈l,x.spotB p s=true:=by
  intro l hl2 s hs
  obtain ⟨i,hi,e⟩:=List.getElem_of_mem hl2
  have hg:=partM_get (x:=x) (r:=r) (d:=d) i
  rw [List.getElem?_eq_getElem hi,e] at hg
  cases hla:(laysP r d)[i]? with
  |none=>rw [hla] at hg;cases hg
  |some lay=>
   rw [hla] at hg
   have hg:=Option.some.inj hg
   rw [hg] at hs
   obtain ⟨m,hmm,rfl⟩:=List.mem_map.1 hs
   have hf:=hfit lay (lays_mem (List.mem_of_getElem? hla)) m hmm
   have hb:=layF_in x r (lastP r d) i m
   have hc:=hf.cost
   have e1:(spotN (layF x r (lastP r d) i) m).s=m.s:=rfl
   have e2:(spotN (layF x r (lastP r d) i) m).cost=m.cost:=rfl
   have e3:(spotN (layF x r (lastP r d) i) m).part=layF x r (lastP r d) i m:=rfl
   simp only [Inst.spotB,Bool.and_eq_true,decide_eq_true_eq]
   rw [e1,e2,e3,hl]
   exact ⟨⟨⟨⟨hf.may,hc.1⟩,hc.2⟩,hb.1⟩,hb.2⟩
 rw [hh] at hall ⊢
 rw [Inst.wholeB,Bool.and_eq_true]
 refine ⟨rfl,?_⟩
 rw [Bool.not_eq_true',List.any_eq_false]
 intro l hl2
 rw [Bool.not_eq_true,List.any_eq_false]
 intro s hs
 rw [hall l hl2 s hs]
 decide
theorem root_whole {x:Inst} (hm:x.may=true) (p:Prf):x.wholeB p [[⟨x.rootS,0,0⟩]]=true:=by
 have h:x.spotB p ⟨x.rootS,0,0⟩=true:=by
  simp only [Inst.spotB,Bool.and_eq_true,decide_eq_true_eq]
  exact ⟨⟨⟨⟨root_mayB hm,Int.le_refl _⟩,by decide⟩,Int.le_refl _⟩,by omega⟩
 simp [Inst.wholeB,h]
theorem proof_may {x:Inst} (hm:x.may=true) {w:Int} {r:SRes} (hD:DoneX x w r):x.mayP (x.proofOf r)=true:=by
 have hlow:=hD.low
 simp only [Inst.mayP,Bool.and_eq_true,decide_eq_true_eq]
 refine ⟨hm,hlow.1,hlow.2,?_,?_⟩
 ·show (x.proofOf r).parts≠[]
  unfold Inst.proofOf
  split
  ·simp
  ·rename_i h
   intro e
   have:=congrArg List.length e
   rw [List.length_map] at this
   exact h this
 ·rw [List.all_eq_true]
  intro q hq
  by_cases h:r.log.length=0
  ·have e:x.proofOf r=⟨r.low,[[[⟨x.rootS,0,0⟩]]]⟩:=by rw [Inst.proofOf,if_pos h]
   rw [e] at hq ⊢
   rw [List.mem_singleton.1 hq]
   exact root_whole hm _
  ·have e:x.proofOf r=⟨r.low,r.log.map fun d=>x.partM r d.2⟩:=by rw [Inst.proofOf,if_neg h]
   rw [e] at hq ⊢
   obtain ⟨d,hd,rfl⟩:=List.mem_map.1 hq
   obtain ⟨k,hk,hkd⟩:=List.getElem_of_mem hd
   exact partM_whole hm hD (n:=d.1) (d:=d.2) (k:=k) (List.length_map _) (by rw [List.getElem?_eq_getElem hk,hkd])
theorem proof_holds {x:Inst} (hm:x.may=true) {w:Int} {r:SRes} (hD:DoneX x w r):x.checkE (x.proofOf r)=0:=by
 have hmp:=proof_may hm hD
 rw [Inst.checkE,if_pos hmp]
 by_cases h:r.log.length=0
 ·have e:x.proofOf r=⟨r.low,[[[⟨x.rootS,0,0⟩]]]⟩:=by rw [Inst.proofOf,if_pos h]
  rw [e]
  have hf:Prf.first ⟨r.low,[[[⟨x.rootS,0,0⟩]]]⟩ 0=some ⟨x.rootS,0,0⟩:=rfl
  rw [hf]
  simp only [and_self,if_true]
  have hdead:r.low≤x.of x.rootN:=by
   have hnil:r.log=[]:=List.eq_nil_of_length_eq_zero h
   have:=sumI_nn x.rootN.cost (x.low x.rootN.s)
   have e:x.of x.rootN=sumI [x.rootN.cost,x.low x.rootN.s]:=rfl
   rcases hD.root with h | ⟨D,j,hj⟩
   ·omega
   ·rw [hnil] at hj;simp at hj
  have hh:∀dk,x.holdsB ⟨r.low,[[[⟨x.rootS,0,0⟩]]]⟩ 0 0 ⟨x.rootS,0,0⟩ dk=true:=fun dk=>by
   rw [Inst.holdsB,if_pos (by show decide (r.low≤x.of x.rootN)=true;exact decide_eq_true hdead)]
  simp only [List.length_cons,List.length_nil,List.replicate_succ,List.replicate_zero,List.set_cons_zero,Inst.partsGo,Inst.partGo,Inst.layGo,hh]
  simp [infI]
 ·have e:x.proofOf r=⟨r.low,r.log.map fun d=>x.partM r d.2⟩:=by rw [Inst.proofOf,if_neg h]
  obtain ⟨p,hp⟩:∃p:Prf,p=⟨r.low,r.log.map fun d=>x.partM r d.2⟩:=⟨_,rfl⟩
  rw [e,←hp]
  cases hlog:r.log with
  |nil=>rw [hlog] at h;exact absurd rfl h
  |cons d L=>
   have h0:r.log[0]? =some (d.1,d.2):=by rw [hlog];rfl
   have hpath:=hD.head d L hlog
   obtain ⟨ht,u,hd,_,_⟩:=hD.all 0 d.1 d.2 h0
   obtain ⟨t,hh⟩:=partM_head (x:=x) (r:=r) (n:=d.1) (w:=w) (u:=u)
   rw [←hd] at hh
   have hf:p.first 0=some (spotN (layF x r (lastP r d.2) 0) d.1):=by
    rw [Prf.first,hp]
    simp only
    rw [List.getElem?_map,h0,Option.map_some,hh]
   have hgo:=ht.goes
   rw [hpath] at hgo
   obtain ⟨e1,e2⟩:=Prod.mk.inj (Option.some.inj hgo)
   rw [hf]
   simp only
   have hl:p.parts.length=r.log.length:=by rw [hp];exact List.length_map _
   have hpos:0<r.log.length:=by omega
   rw [if_pos ⟨e1.symm,e2.symm⟩]
   have hds:Deeps r ((List.replicate p.parts.length infI).set 0 0):=by
    refine ⟨by rw [List.length_set,List.length_replicate,hl],fun j n D hj=>?_⟩
    have hjl:=(List.getElem?_eq_some_iff.1 hj).1
    rw [getD_set (by rw [List.length_replicate];omega)]
    split
    ·rename_i e3
     subst e3
     rw [h0] at hj
     cases hj
     refine .inr ?_
     rw [hpath]
     rfl
    ·refine .inl ?_
     rw [List.getD_eq_getElem?_getD,List.getElem?_replicate,if_pos (by omega)]
     rfl
   obtain ⟨dl',hdl⟩:=partsGo_ok hm hD hp (fun k n d hk=>by
    obtain ⟨ht,u,hd,_,_⟩:=hD.all k n d hk
    have h1:=build_count x n w u
    have h2:=(deep_meas hm).2
    rw [←hd] at h1
    have h3:=lays_len r d
    rw [partM_len]
    omega) _ 0 _ rfl hds
   rw [List.drop_zero] at hdl
   rw [hdl]
theorem proof_tops {x:Inst} (hm:x.may=true) {w:Int} {r:SRes} (hD:DoneX x w r) {k:Int} (h0:0≤k) (h1:k≤infI) (hno:x.checkE ⟨k,(x.proofOf r).parts⟩≠0):x.checkE ⟨k,(x.proofOf r).parts⟩=10:=by
 have hmp:=proof_may hm hD
 have hmp2:x.mayP ⟨k,(x.proofOf r).parts⟩=true:=by
  simp only [Inst.mayP,Bool.and_eq_true,decide_eq_true_eq] at hmp ⊢
  exact ⟨hmp.1,h0,h1,hmp.2.2.2.1,hmp.2.2.2.2⟩
 unfold Inst.checkE at hno ⊢
 rw [if_pos hmp2] at hno ⊢
 split
 ·rfl
 ·rename_i f hf
  rw [hf] at hno
  simp only at hno
  split
  ·rename_i c
   rw [if_pos c] at hno
   split
   ·rfl
   ·rename_i F hF
    rw [hF] at hno
    exact absurd rfl hno
  ·rfl
end Go.Proofs.YtnoifgjiipgpoaaGreat

set_option maxRecDepth 4000
set_option maxHeartbeats 1000000
namespace Go.Proofs.YtnoifgjiipgpoaaGreat
open Go Go.Proofs.YtnoifgjiipgpoaaGreat.R
structure SRes.Fine (r:SRes):Prop where
 log:r.log.length<2^31
 path:∀d∈r.log,d.1.path.length<2^62
 each:∀d∈r.log,d.2.sure≤d.2.layers.length∧d.2.layers.length<2^31∧∀l∈d.2.layers,l.length<2^31∧∀n∈l,n.s.ok∧n.path.length<2^62
def Inst.partsK (x:Inst) (r:SRes) (k:Nat):List (List T):=(r.log.take k).map fun d=>partT (x.partM r d.2)
theorem partsK_one (x:Inst) (r:SRes) (k:Nat):∀y∈x.partsK r k,y.length=1:=by
 intro y hy
 obtain ⟨_,_,rfl⟩:=List.mem_map.1 hy
 rfl
theorem partsK_len (x:Inst) (r:SRes) {k:Nat} (h:k≤r.log.length):(x.partsK r k).length=k:=by
 rw [Inst.partsK,List.length_map,List.length_take]
 omega
theorem partsK_succ (x:Inst) (r:SRes) {k:Nat} (h:k<r.log.length):x.partsK r (k+1)=x.partsK r k++[partT (x.partM r r.log[k].2)]:=by
 rw [Inst.partsK,List.take_succ_eq_append_getElem h,List.map_append]
 rfl
theorem proofOf_a (x:Inst) (r:SRes):(x.proofOf r).a= .agg [.i r.low,.t (.sl (if r.log.length=0 then [[.sl [[.sl [(⟨x.rootS,0,0⟩:Spot).t]]]]] else x.partsK r r.log.length))]:=by
 rw [Prf.a,Prf.cs,Inst.proofOf]
 split
 ·rfl
 ·rw [Inst.partsK,List.take_length,List.map_map]
  rfl
theorem make2_pure (x:Inst) (r:SRes) (hl:x.stops.length<2^31) (hr:r.Fine):Pure P 11 [x.a,r.a] ((x.proofOf r).a):=by
 rw [proofOf_a]
 generalize hR:(if r.log.length=0 then [[.sl [[.sl [(⟨x.rootS,0,0⟩:Spot).t]]]]] else x.partsK r r.log.length:List (List T))=R
 refine pure_of Tryz.func11 rfl rfl (by simp [Tryz.f11]) (by simp [bnd,bnd.bndL,Inst.a,SRes.a]) (by simp [bnd,bnd.bndL]) fun B hB hnx=>?_
 simp only [Tryz.f11] at hB ⊢
 have hro:=root_pureS x (by omega)
 have hL:=hr.log
 have hll:(logT r.log).length=r.log.length:=List.length_map _
 refine K_run hB 100 ?_
 simp [go_sem,Inst.a,SRes.a]
 refine K_less (Imp.ownB (b:=4) (off:=1) (sz:=1) (cs:=[.i r.low,.fsl []]) (by simp [oput,setCells]) rfl) ?_
 refine K_loopP (α:=Nat×Nat×(Nat→AObj)×Nat) (fun (k,a,τ,m)=>k≤r.log.length∧τ 0= .box [.i x.pairs,.i x.cars,.i x.room,.t (.sl (x.stops.map Stop.t))]∧τ 2= .box [.i 0,.fsl []]∧τ 3= .box (mkC x r)∧τ 4= .box [.i r.low,.ref a]∧τ a= .arr 1 (x.partsK r k)∧a<m∧5≤a) (fun (k,a,τ,m)=>⟨sl [(2,.ptr 0 0),(4,.ptr 2 0),(5,.ptr 3 0),(6,.ptr 4 0),(16,.t (.sl (logT r.log))),(17,.i r.log.length),(18,.i k)],τ,m⟩) (fun a=>r.log.length-a.1) (0,5,_,6) ⟨Nat.zero_le _,by simp [oput],by simp [oput],by simp [oput,setCells,mkC],by simp [oput,setCells],by simp [oput,Inst.partsK],by decide,by decide⟩ (Imp.slots (by simp [go_sem,hll]) rfl rfl) ?_
 rintro ⟨k,a,τ,m⟩ ⟨g1,h0,g2,g3,g4,g5,g6,g7⟩
 have n0:¬0=m:=by omega
 have n2:¬2=m:=by omega
 have n3:¬3=m:=by omega
 have n4:¬4=m:=by omega
 have n5:¬a=4:=by omega
 have n6:¬4=a:=by omega
 have n7:¬0=a:=by omega
 have n8:¬2=a:=by omega
 have n9:¬3=a:=by omega
 have na:¬a=m:=by omega
 have nh:¬a=2:=by omega
 have nb:¬m=a:=by omega
 have nc:¬0=m+1:=by omega
 have nd:¬2=m+1:=by omega
 have ne:¬3=m+1:=by omega
 have nf:¬4=m+1:=by omega
 have ng:¬m+1=4:=by omega
 by_cases hk:k<r.log.length
 ·have hkk:IntKind.i64.wrap ((k:Int)+1)=((k+1:Nat):Int):=by rw [w64 ((k:Int)+1) (by omega)];rfl
  have hget:∀h,(logT r.log)[k]'h=Done.t r.log[k]:=fun h=>by simp [logT]
  have hrs:=partsK_succ x r hk
  have hmem:r.log[k]∈r.log:=List.getElem_mem _
  obtain ⟨e1,e2,e3⟩:=hr.each _ hmem
  have hpt:=part_pure x r r.log[k].2 hl hL hr.path e1 e2 e3
  rw [←partM_rows] at hpt
  have hone:=partsK_one x r k
  have hlen:=partsK_len x r g1
  have hcap:k+1≤mostLen:=by show _≤4294967296;omega
  rw [partT] at hrs
  generalize (x.partM r r.log[k].2).map layT=pt at *
  generalize r.log[k]=d at *
  generalize x.partsK r k=rows at *
  refine K_run hB 60 ?_
  simp [go_sem,hk,hll,hget,Done.t,Node.t]
  refine K_drawnT [7,9] rfl (by rw [hB];kernel_rfl) (by kernel_rfl) fun ht=>?_
  refine K_run hB 100 ?_
  simp [go_sem,ht,g3,n3,n4,g4,mkC]
  refine K_dCallP rfl rfl rfl (args:=[.agg (mkC x r),d.2.a]) (f:=25) (by simp [go_sem,mkC,Diag.a,Diag.cs]) hpt ?_
  refine K_run hB 100 ?_
  simp [go_sem,ht,g4,g5,hlen,hone,hcap,n0,n2,n3,n4,n5,n6,na,nb,nf,ng,hkk]
  refine Next.mk (k+1,m+1,_,m+2) ⟨by omega,?_,?_,?_,?_,?_,by simp only;omega,by simp only;omega⟩ (Imp.slots (by simp [go_sem]) rfl rfl) (by simp only;omega)
  all_goals simp [oput,n0,n2,n3,n4,n5,n6,n7,n8,n9,na,nb,nc,nd,ne,nf,ng,h0,g2,g3,g4,g5,hrs,setCells,mkC]
 ·have:k=r.log.length:=by omega
  subst this
  have hlen:=partsK_len x r (Nat.le_refl _)
  by_cases c:r.log.length=0
  ·rw [if_pos c] at hR
   rw [c] at hlen
   subst hR
   generalize x.rootS=s at *
   refine K_run hB 60 ?_
   simp [go_sem,c,hll,g4,g5,hlen,h0]
   refine K_call rfl rfl rfl (args:=[x.a]) (f:=18) (by simp [go_sem,Inst.a]) (by simp [go_sem,hB]) ((hro).spec _ _) ?_
   refine K_run hB 100 ?_
   simp [go_sem,State.a,State.cs,g4,g2,g5,hlen,n5,n6,n8,nh]
   rfl
  ·rw [if_neg c] at hR
   rw [hR] at g5 hlen
   refine K_run hB 100 ?_
   simp [go_sem,hll,g4,g5,hlen,c,g2,n5,n6,n8,nh]
end Go.Proofs.YtnoifgjiipgpoaaGreat

set_option maxRecDepth 4000
namespace Go.Proofs.YtnoifgjiipgpoaaGreat
open Go Go.Proofs.YtnoifgjiipgpoaaGreat.R
theorem and32 {n:Nat} (h:n<4294967296):band .u64 n 4294967295=n:=by
 have:=bandN (a:=n) (b:=4294967295) (by omega) (by decide)
 rw [show ((4294967295:Nat):Int)=4294967295 from rfl] at this
 rw [this,show 4294967295=2^32-1 from rfl,Nat.and_two_pow_sub_one_eq_mod,Nat.mod_eq_of_lt h]
theorem mul64_pure (n:Nat) (hn:n<2^31):Pure P 88 [.u 1,.u n] (.tup [.u 0,.u n]):=by
 refine pure_of Tryz.func88 rfl rfl (by simp [Tryz.f88]) (by simp [bnd,bnd.bndL]) (by simp [bnd,bnd.bndL]) fun B hB hnx=>?_
 simp only [Tryz.f88] at hB ⊢
 have e1:band .u64 1 4294967295=1:=and32 (n:=1) (by omega)
 have e2:=and32 (n:=n) (by omega)
 have e3:Int.fdiv 1 4294967296=0:=by decide
 have e4:Int.fdiv (n:Int) 4294967296=0:=by rw [Int.fdiv_eq_ediv_of_nonneg _ (by omega)];omega
 have e5:band .u64 0 4294967295=0:=and32 (n:=0) (by omega)
 have e6:IntKind.u64.wrap (n:Int)=n:=u64 _ (by omega)
 have e7:IntKind.u64.wrap 0=0:=u64 _ (by omega)
 refine K_run hB 100 ?_
 simp [go_sem,e1,e2,e3,e4,e5,e6,e7]
theorem mul_pure (n:Nat) (hn:n<2^31):Pure P 61 [.u 1,.u n] (.tup [.u 0,.u n]):=by
 refine pure_of Tryz.func61 rfl rfl (by simp [Tryz.f61]) (by simp [bnd,bnd.bndL]) (by simp [bnd,bnd.bndL]) fun B hB hnx=>?_
 simp only [Tryz.f61] at hB ⊢
 refine K_run hB 100 ?_
 simp [go_sem]
 refine K_call rfl rfl rfl (args:=[.u 1,.u n]) (f:=88) (by simp [go_sem]) (by simp [go_sem,hB]) ((mul64_pure n hn).spec _ _) ?_
 refine K_run hB 100 ?_
 simp [go_sem]
theorem repeat_spec (v:Int) (n:Nat) (h0:0<n) (hn:n<2^31) (σ:Nat→AObj) (nx:Nat):CallSpec P 33 [.fsl [[.i v]],.i n] σ nx (.ref nx) (oput σ nx (.arr 1 (List.replicate n [.i v]))) (nx+1):=by
 refine CallQ.spec (spec_of Tryz.func33 rfl rfl (by simp [Tryz.f33]) fun B hB hnx hσ=>K_after ?_)
 simp only [Tryz.f33] at hB ⊢
 have hmost:n≤mostLen:=by show n≤4294967296;omega
 have hu:IntKind.u64.wrap (n:Int)=n:=u64 _ (by omega)
 have hi:IntKind.i64.wrap (n:Int)=n:=w64 _ (by omega)
 have hu1:IntKind.u64.wrap 1=1:=u64 _ (by omega)
 have hneg:¬(n:Int)<0:=by omega
 refine K_run hB 100 ?_
 simp [go_sem,hneg,hu,hi,hu1]
 refine K_call rfl rfl rfl (args:=[.u 1,.u n]) (f:=61) (by simp [go_sem,hneg,hu,hi,hu1]) (by simp [go_sem,hB]) ((mul_pure n hn).spec _ _) ?_
 have hbig:¬9223372036854775807<(n:Int):=by omega
 refine K_run hB 100 ?_
 simp [go_sem,hneg,hu,hi,hu1,hbig,hmost]
 refine K_copyT rfl rfl rfl rfl rfl (by simp [go_sem,hB]) tt67 rfl tt3 rfl (q:=nx) (es:=List.replicate n [.i 0]) (ys:=[[.i v]]) (by simp [go_sem]) (by simp [go_sem]) (by simp [go_sem]) (by simp) (by simp) (by simp;omega) ?_
 have hrow:[[T.i v]]++(List.replicate n [T.i 0]).drop 1=List.replicate 1 [T.i v]++List.replicate (n-1) [T.i 0]:=by simp
 refine K_run hB 100 ?_
 simp [go_sem]
 refine K_loopP (α:=Nat) (fun j=>1≤j∧j≤n) (fun j=>⟨sl [(7,.ref nx),(8,.i j)],oput σ nx (.arr 1 (List.replicate j [.i v]++List.replicate (n-j) [.i 0])),nx+1⟩) (fun j=>n-j) 1 ⟨Nat.le_refl _,h0⟩ (Imp.slots (by simp [go_sem]) ?_ rfl) ?_
 ·have hoo:∀(o o':AObj),oput (oput σ nx o) nx o'=oput σ nx o':=fun o o'=>funext fun i=>by simp only [oput];split<;>rfl
  rw [←hrow,hoo]
  simp
 rintro j ⟨g1,g2⟩
 have hlen:(List.replicate j [T.i v]++List.replicate (n-j) [T.i 0]).length=n:=by simp;omega
 refine K_run hB 60 ?_
 simp [go_sem,hlen]
 refine fork_dec (fun hj=>?_) (fun hj=>?_)
 ·have hj:j<n:=by omega
  refine K_run hB 60 ?_
  simp [go_sem]
  refine K_drawnF [7] [0] rfl (by rw [hB];kernel_rfl) (by kernel_rfl) fun ht hf'=>?_
  refine K_run hB 60 ?_
  simp [go_sem,ht,hf']
  refine K_dLook (v:=.cut nx 1 j (List.replicate j [T.i v]++List.replicate (n-j) [T.i 0]).length) (fun ho=>?_) (by simp [ht]) ?_
  ·exact does_cutFrom (P:=P) (n:=B.n) (es:=(List.replicate j [T.i v]++List.replicate (n-j) [T.i 0])) ho (by simp [go_sem]) rfl tt67 rfl tt3 (q:=nx) (by simp [go_sem]) (by simp [go_sem]) (ik:=.i64) (lo:=j) (by simp [go_sem]) (by rw [hlen];exact hj)
  refine K_run hB 60 ?_
  simp [go_sem,ht,hf']
  refine K_dLook (v:=.cut nx 1 0 j) (fun ho=>?_) (by simp [ht]) ?_
  ·exact does_cutTo (P:=P) (n:=B.n) (es:=List.replicate j [.i v]++List.replicate (n-j) [.i 0]) ho (by simp [go_sem]) rfl tt67 rfl tt3 (q:=nx) (by simp [go_sem]) (by simp [go_sem]) (ik:=.i64) (up:=j) (by simp [go_sem]) (by rw [hlen];omega) (by rw [hlen];omega)
  obtain ⟨k,hk⟩:∃k,k=Nat.min j (n-j):=⟨_,rfl⟩
  have hk1:k≤j∧k≤n-j∧1≤k:=by rw [hk];refine ⟨Nat.min_le_left _ _,Nat.min_le_right _ _,Nat.le_min.2 ⟨g1,by omega⟩⟩
  simp only [hlen]
  refine K_dTold (v:=.i k) (σ':=oput (oput σ nx (.arr 1 (List.replicate j [T.i v]++List.replicate (n-j) [T.i 0]))) nx (.arr 1 ((List.replicate j [T.i v]++List.replicate (n-j) [T.i 0]).take j++((List.replicate j [T.i v]++List.replicate (n-j) [T.i 0]).take k++(List.replicate j [T.i v]++List.replicate (n-j) [T.i 0]).drop (j+k))))) (nx':=nx+1) (fun ho=>?_) (by simp) (by simp) ?_
  ·exact does_copyPart (P:=P) (n:=B.n) ho (by simp [go_sem]) rfl rfl rfl rfl tt67 rfl tt3 rfl (q:=nx) (lo:=j) (up:=j) (by simp [go_sem]<;>omega) (by simp [go_sem]) (by simp [go_sem]) (by rw [hlen];omega) (by rw [hlen];exact hk) (by rw [hlen];omega)
  have hw:IntKind.i64.wrap ((j:Int)+(k:Int))=((j+k:Nat):Int):=by rw [w64 _ (by omega)];omega
  have hrow:(List.replicate j [T.i v]++List.replicate (n-j) [T.i 0]).take j++((List.replicate j [T.i v]++List.replicate (n-j) [T.i 0]).take k++(List.replicate j [T.i v]++List.replicate (n-j) [T.i 0]).drop (j+k))=List.replicate (j+k) [T.i v]++List.replicate (n-(j+k)) [T.i 0]:=by
   rw [List.take_left' (by simp),List.take_append_of_le_length (by simp;omega),List.take_replicate,show min k j=k by omega,←List.drop_drop,List.drop_left' (by simp),List.drop_replicate,←List.append_assoc,List.replicate_append_replicate,Nat.sub_sub]
  rw [hrow]
  have hoo:∀(o o':AObj),oput (oput σ nx o) nx o'=oput σ nx o':=fun o o'=>funext fun i=>by simp only [oput];split<;>rfl
  rw [hoo]
  refine K_run hB 60 ?_
  simp [go_sem,ht,hf',hw]
  refine Next.mk (j+k) ⟨by omega,by omega⟩ (Imp.slots (by simp [go_sem]) rfl rfl) (by omega)
 ·have hj:j=n:=by omega
  subst hj
  simp [go_sem]
  refine ⟨_,Imp.self,?_⟩
  simp [go_sem]
end Go.Proofs.YtnoifgjiipgpoaaGreat

set_option maxRecDepth 4000
set_option maxHeartbeats 1000000
namespace Go.Proofs.YtnoifgjiipgpoaaGreat
open Go Go.Proofs.YtnoifgjiipgpoaaGreat.R
def resP:Option (List Int)→Int
 |none=>10
 |some _=>0
theorem partsGo_cons {x:Inst} {p:Prf} {k:Nat} {q:List (List Spot)} {ps:List (List (List Spot))} {dl:List Int} (h:dl.getD k 0≠infI):x.partsGo p k (q :: ps) dl=(x.partGo p k 0 q dl).bind (x.partsGo p (k+1) ps):=by
 rw [Inst.partsGo,if_neg h]
 cases x.partGo p k 0 q dl<;>rfl
theorem partGo_cons {x:Inst} {p:Prf} {k i:Nat} {l:List Spot} {q:List (List Spot)} {dl:List Int}:x.partGo p k i (l :: q) dl=(x.layGo p k i l dl).bind (x.partGo p k (i+1) q):=by
 rw [Inst.partGo]
 cases x.layGo p k i l dl<;>rfl
structure Prf.Fine (p:Prf):Prop where
 len:p.parts.length<2^31
 parts:∀q∈p.parts,q.length<2^30
 lays:∀q∈p.parts,∀l∈q,l.length<2^31
 ok:∀q∈p.parts,∀l∈q,∀n∈l,n.s.ok
theorem first_of {x:Inst} {p:Prf} (hw:∀q∈p.parts,x.wholeB p q=true) {j:Nat} (hj:j<p.parts.length):∃f,p.first j=some f:=by
 have h:=hw p.parts[j] (List.getElem_mem _)
 rw [Prf.first,List.getElem?_eq_getElem hj]
 generalize p.parts[j]=q at *
 unfold Inst.wholeB at h
 split at h
 ·cases h
 ·rename_i l q0
  simp only [Bool.and_eq_true,decide_eq_true_eq] at h
  cases l with
  |nil=>simp at h
  |cons n l=>exact ⟨n,rfl⟩
theorem check_pure (x:Inst) (p:Prf) (hl:x.stops.length<2^31) (hp:p.Fine):Pure P 15 [x.a,p.a] (.i (x.checkE p)):=by
 generalize hR:x.checkE p=R
 refine pure_of Tryz.func15 rfl rfl (by simp [Tryz.f15]) (by simp [bnd,bnd.bndL,Inst.a,Prf.a,Prf.cs]) (by simp [bnd,bnd.bndL]) fun B hB hnx=>?_
 simp only [Tryz.f15] at hB ⊢
 have hplen:=hp.len
 rw [Inst.checkE] at hR
 refine K_run hB 100 ?_
 simp [go_sem,Inst.a,Prf.a,Prf.cs]
 refine K_scopeN (α:=Unit) 0 (fun _=>False) (fun _=>⟨sl [],noObj,0⟩) (fun _=>0) rfl (fun _ h=>h.elim) ?_
 intro J hJ
 refine K_run hB 100 ?_
 simp [go_sem]
 refine K_call rfl rfl rfl (args:=[x.a]) (f:=13) (by simp [go_sem,Inst.a]) (by simp [go_sem,hB]) ((may_pure x (by omega)).spec _ _) ?_
 cases hmay:x.may with
 |false=>
  rw [if_neg (by simp [Inst.mayP,hmay])] at hR
  subst hR
  refine K_run hB 100 ?_
  simp [go_sem]
 |true=>
  have hYl:(p.parts.map partT).length=p.parts.length:=List.length_map _
  have hYg:∀(k:Nat) (h:k<p.parts.length),(p.parts.map partT)[k]'(by rw [hYl];exact h)=partT p.parts[k]:=fun k h=>map_get partT p.parts h _
  by_cases c1:p.least<0
  ·rw [if_neg (by simp [Inst.mayP];omega)] at hR
   subst hR
   refine K_run hB 100 ?_
   simp [go_sem,c1]
  by_cases c2:infI<p.least
  ·rw [if_neg (by simp [Inst.mayP];omega)] at hR
   subst hR
   have c2':1152921504606846976<p.least:=c2
   refine K_run hB 100 ?_
   simp [go_sem,c1,c2']
  have c2':¬1152921504606846976<p.least:=c2
  by_cases c3:p.parts=[]
  ·rw [if_neg (by simp [Inst.mayP,c3])] at hR
   subst hR
   refine K_run hB 100 ?_
   simp [go_sem,c1,c2',c3]
  have hpos:0<p.parts.length:=List.length_pos_iff.2 c3
  have c3':¬p.parts.length=0:=by omega
  obtain ⟨pp,hx⟩:=x.fit hmay
  have hxp:=hx.pairs
  have hxf:=hx.few
  have hcont:=fun (τ:Nat→AObj) (h1:τ 2= .box (ckC x p (.fsl []))) (h2:τ 3= .box [.ptr 2 0])=>containsPart_spec p.parts (fun q=>!x.wholeB p q) (σ:=τ) (nx:=4) (f:=30) (caps:=[.ptr 3 0]) hplen fun q hq=>check1_spec x p q (.fsl []) (by omega) (by have:=hp.parts q hq;omega) (hp.lays q hq) (by omega) h1 (by omega) h2
  refine K_run hB 100 ?_
  simp [go_sem,c1,c2',c3,hYl,c3']
  refine K_call rfl rfl rfl (args:=[.t (.sl (p.parts.map partT)),.fn (.func 30) [] [.ptr 3 0]]) (f:=32) (by simp [go_sem]) (by simp [go_sem,hB]) (hcont _ (by simp [oput,ckC,Inst.cs]) (by simp [oput])) ?_
  cases c4:p.parts.any fun q=>!x.wholeB p q with
  |true=>
   have:p.parts.all (x.wholeB p)=false:=by
    rw [List.any_eq_true] at c4
    obtain ⟨q,h1,h2⟩:=c4
    rw [List.all_eq_false]
    exact ⟨q,h1,by simpa using h2⟩
   rw [if_neg (by simp [Inst.mayP,this])] at hR
   subst hR
   refine K_run hB 100 ?_
   simp [go_sem]
  |false=>
   have hw:∀q∈p.parts,x.wholeB p q=true:=by
    rw [List.any_eq_false] at c4
    intro q hq
    have:=c4 q hq
    simpa using this
   have hmp:x.mayP p=true:=by
    simp only [Inst.mayP,Bool.and_eq_true,decide_eq_true_eq]
    exact ⟨hmay,by omega,by omega,c3,List.all_eq_true.2 hw⟩
   rw [if_pos hmp] at hR
   obtain ⟨f,hf⟩:=first_of hw hpos
   rw [hf] at hR
   simp only at hR
   obtain ⟨hj0,l0,q0,hp0⟩:=first_some hf
   have hY0:∀h:0<(p.parts.map partT).length,(p.parts.map partT)[0]'h=[.sl ([.sl (f.t :: l0.map Spot.t)] :: q0.map layT)]:=fun h=>by rw [List.getElem_map,hp0];rfl
   generalize hY:p.parts.map partT=Y at *
   have hck:∀D,ckC x p D=[.t (.i x.pairs),.t (.i x.cars),.t (.i x.room),.t (.sl (x.stops.map Stop.t)),.i p.least,.t (.sl Y),D]:=fun D=>by rw [ckC,hY]
   have hr:=root_pureS x (by omega)
   refine K_run hB 100 ?_
   simp [go_sem,hYl,hpos,hY0,Spot.t]
   refine K_drawn [] rfl (by rw [hB];kernel_rfl) ?_
   refine K_run hB 100 ?_
   simp [go_sem]
   refine K_dCallP rfl rfl rfl (args:=[x.a]) (f:=18) (by simp [go_sem,Inst.a]) (hr) ?_
   generalize x.rootS=rt at *
   refine K_dEq (op:=.neq) (t:=52) (t':=52) (x:=.tmp 55) (y:=.tmp 57) (xs:=f.s.cs) (ys:=rt.cs) (by simp [go_sem]) rfl (by simp [go_sem,State.cs]) (by simp [go_sem,State.a,State.cs]) state_guard (state_eq f.s rt) rfl ?_
   by_cases c5:f.s=rt
   rotate_left
   ·rw [if_neg (fun h=>c5 h.1)] at hR
    subst hR
    refine K_run hB 100 ?_
    simp [go_sem,c5]
   by_cases c6:f.cost=0
   rotate_left
   ·rw [if_neg (fun h=>c6 h.2)] at hR
    subst hR
    refine K_run hB 100 ?_
    simp [go_sem,c5,c6]
   rw [if_pos ⟨c5,c6⟩] at hR
   refine K_run hB 100 ?_
   simp [go_sem,c5,c6]
   refine K_drawnF [5,8] [0] rfl (by rw [hB];kernel_rfl) (by kernel_rfl) fun ht hf'=>?_
   refine K_run hB 100 ?_
   simp [go_sem,ht,hf',hYl]
   refine K_dCall rfl rfl rfl (args:=[.fsl [[.i 1152921504606846976]],.i p.parts.length]) (f:=33) (by simp [go_sem]) (repeat_spec 1152921504606846976 p.parts.length hpos hplen _ _) (by decide) (okPends_does (by simp [go_sem])) ?_
   refine K_run hB 100 ?_
   simp [go_sem,ht,hf',hpos,hYl]
   have hR':resP (x.partsGo p 0 (p.parts.drop 0) ((List.replicate p.parts.length infI).set 0 0))=R:=by
    rw [←hR,List.drop_zero]
    cases x.partsGo p 0 p.parts ((List.replicate p.parts.length infI).set 0 0)<;>rfl
   have hdl0:((List.replicate p.parts.length infI).set 0 0).length=p.parts.length:=by rw [List.length_set,List.length_replicate]
   have hlead:∀q∈p.parts,∀l∈q,∀n∈l,0≤n.part∧n.part≤p.parts.length∧(0<n.part→∃j f,n.part=((j:Nat):Int)+1∧p.first j=some f):=fun q hq l hl' n hn=>by
    obtain ⟨_,_,b1,b2⟩:=spot_pos (whole_spot (hw q hq) hl' hn)
    refine ⟨b1,b2,fun h0=>?_⟩
    obtain ⟨j,hj⟩:∃j:Nat,n.part=(j:Int)+1:=⟨(n.part-1).toNat,by omega⟩
    obtain ⟨f,hf⟩:=first_of hw (j:=j) (by omega)
    exact ⟨j,f,hj,hf⟩
   have hhold:=fun (τ:Nat→AObj) (ny:Nat) (k i:Nat) (q:List (List Spot)) (n:Spot) (dl:List Int) (h1:p.parts[k]? =some q) (h2:i<2^31) (h3:k<dl.length) (h4:0<n.part→∃j f,n.part=((j:Nat):Int)+1∧p.first j=some f) (h5:n.s.ok) (h6:5<ny) (h7:τ 2= .box (ckC x p (.ref 5))) (h8:τ 5= .arr 1 (ints dl))=>holds_spec x p n k i 5 dl q hl h5 hplen h1 (by have:=hp.parts q (List.mem_of_getElem? h1);omega) (hp.lays q (List.mem_of_getElem? h1)) h2 h3 h4 (σ:=τ) (nx:=ny) (c:=2) (by omega) h7 (by omega) h8
   have hparts:=hp.parts
   have hlays:=hp.lays
   have hoks:=hp.ok
   have hck5:=hck (.ref 5)
   clear hcont hR hY0 hr hp
   generalize hps:p.parts=ps at *
   refine K_loopP (α:=Nat×List Int×(Nat→AObj)×Nat) (fun (k,dl,τ,ny)=>k≤ps.length∧dl.length=ps.length∧resP (x.partsGo p k (ps.drop k) dl)=R∧τ 2= .box (ckC x p (.ref 5))∧τ 3= .box [.ptr 2 0]∧τ 5= .arr 1 (ints dl)∧5<ny)
    (fun (k,dl,τ,ny)=>⟨sl [(5,.ptr 3 0),(78,.t (.sl Y)),(79,.i ps.length),(80,.i k)],τ,ny⟩) (fun a=>ps.length-a.1) (0,(List.replicate ps.length infI).set 0 0,_,6) ?_ (Imp.slots (by simp [go_sem]) rfl rfl) ?_
   ·refine ⟨Nat.zero_le _,hdl0,hR',?_,?_,?_,?_⟩
    ·simp [oput,hck5]
    ·simp [oput]
    ·simp [oput,ints,List.map_set,infI]
    ·simp
   rintro ⟨k,dl,τ,ny⟩ ⟨g1,g2,g3,g4,g5,g6,g7⟩
   refine K_run hB 60 ?_
   simp [go_sem]
   refine fork_dec (fun hk=>?_) (fun hk=>?_)
   ·have hkk:IntKind.i64.wrap ((k:Int)+1)=((k+1:Nat):Int):=by rw [w64 ((k:Int)+1) (by omega)];rfl
    have hgk:∀h:k<Y.length,Y[k]'h=partT ps[k]:=fun h=>hYg k hk
    have hqk:ps[k]? =some ps[k]:=List.getElem?_eq_getElem hk
    have hqm:ps[k]∈ps:=List.getElem_mem _
    have hql:=hparts _ hqm
    have hdl:(ints dl).length=dl.length:=List.length_map _
    have hdg:∀h:k<(ints dl).length,(ints dl)[k]'h=[.i dl[k]]:=fun h=>ints_getS _ (by omega)
    have hgd:dl.getD k 0=dl[k]:=by rw [List.getD_eq_getElem?_getD,List.getElem?_eq_getElem (by omega)];rfl
    have hdk:k<dl.length:=by omega
    rw [List.drop_eq_getElem_cons hk] at g3
    have hlq:=fun l (hl':l∈ps[k]) n hn=>hlead _ hqm l hl' n hn
    have hoq:=hoks _ hqm
    generalize ps[k]=q at *
    have hpt:partT q=[.sl (q.map layT)]:=rfl
    have n2:¬2=ny:=by omega
    have n3:¬3=ny:=by omega
    have n5:¬5=ny:=by omega
    by_cases d1:dl[k]=infI
    ·rw [Inst.partsGo,hgd,if_pos d1] at g3
     have d1':dl[k]=1152921504606846976:=d1
     simp [go_sem,hYl,hk,hgk,hpt,g4,g5,g6,n2,n3,n5,hck5,hdl,hdk,hdg,Nat.mod_one,d1',hkk]
     refine Next.mk (k+1,dl,_,ny+1) ?_ (Imp.slots (by simp [go_sem]) rfl rfl) (by simp only;omega)
     exact ⟨by simp only;omega,g2,g3,by simp [oput,n2,g4,hck5],by simp [oput,n3,g5],by simp [oput,n5,g6],by simp only;omega⟩
    ·rw [partsGo_cons (by rw [hgd];exact d1)] at g3
     have d1':¬dl[k]=1152921504606846976:=d1
     simp [go_sem,hYl,hk,hgk,hpt,g4,g5,g6,n2,n3,n5,hck5,hdl,hdk,hdg,Nat.mod_one,d1']
     generalize hG:x.partsGo p (k+1) (ps.drop (k+1))=G at *
     have hZl:(q.map layT).length=q.length:=List.length_map _
     have hZg:∀(k:Nat) (h:k<q.length),(q.map layT)[k]'(by rw [hZl];exact h)=layT q[k]:=fun k h=>map_get layT q h _
     have hlq2:=hlays _ hqm
     generalize q.map layT=Z at *
     refine K_loopP (α:=Nat×List Int×(Nat→AObj)×Nat) (fun (i,d,τ,ny)=>i≤q.length∧d.length=ps.length∧resP ((x.partGo p k i (q.drop i) d).bind G)=R∧τ 2= .box (ckC x p (.ref 5))∧τ 3= .box [.ptr 2 0]∧τ 5= .arr 1 (ints d)∧5<ny)
      (fun (i,d,τ,ny)=>⟨sl [(5,.ptr 3 0),(8,.i k),(78,.t (.sl Y)),(79,.i ps.length),(80,.i k),(94,.t (.sl Z)),(95,.i q.length),(96,.i i)],τ,ny⟩) (fun a=>q.length-a.1) (0,dl,_,ny+1) ?_ (Imp.slots (by simp [go_sem,hZl]) rfl rfl) ?_
     ·exact ⟨Nat.zero_le _,g2,g3,by simp [oput,n2,g4,hck5],by simp [oput,n3,g5],by simp [oput,n5,g6],by omega⟩
     clear g2 g3 g4 g5 g6 g7 n2 n3 n5 hdl hdg hgd hdk d1 d1'
     rintro ⟨i,d,τ,ny⟩ ⟨g1,g2,g3,g4,g5,g6,g7⟩
     refine K_run hB 60 ?_
     simp [go_sem]
     refine fork_dec (fun hi=>?_) (fun hi=>?_)
     ·have hii:IntKind.i64.wrap ((i:Int)+1)=((i+1:Nat):Int):=by rw [w64 ((i:Int)+1) (by omega)];rfl
      have hgi:∀h:i<Z.length,Z[i]'h=layT q[i]:=fun h=>hZg i hi
      rw [List.drop_eq_getElem_cons hi,partGo_cons,Option.bind_assoc] at g3
      have hln:=fun n (hn:n∈q[i])=>hlq _ (List.getElem_mem hi) n hn
      have hon:=hoq _ (List.getElem_mem hi)
      have hll:=hlq2 _ (List.getElem_mem hi)
      generalize q[i]=l at *
      generalize hG2:(fun d=>(x.partGo p k (i+1) (q.drop (i+1)) d).bind G)=G2 at *
      have hly:layT l=[.sl (l.map Spot.t)]:=rfl
      have hVl:(l.map Spot.t).length=l.length:=List.length_map _
      have hVg:∀(k:Nat) (h:k<l.length),(l.map Spot.t)[k]'(by rw [hVl];exact h)=l[k].t:=fun k h=>map_get Spot.t l h _
      simp [go_sem,hZl,hi,hgi,hly]
      refine K_loopP (α:=Nat×List Int×(Nat→AObj)×Nat) (fun (j,d,τ,ny)=>j≤l.length∧d.length=ps.length∧resP ((x.layGo p k i (l.drop j) d).bind G2)=R∧τ 2= .box (ckC x p (.ref 5))∧τ 3= .box [.ptr 2 0]∧τ 5= .arr 1 (ints d)∧5<ny)
       (fun (j,d,τ,ny)=>⟨sl [(5,.ptr 3 0),(8,.i k),(10,.i i),(78,.t (.sl Y)),(79,.i ps.length),(80,.i k),(94,.t (.sl Z)),(95,.i q.length),(96,.i i),(101,.t (.sl (l.map Spot.t))),(102,.i l.length),(103,.i j)],τ,ny⟩) (fun a=>l.length-a.1) (0,d,τ,ny) ?_ (Imp.slots (by simp [go_sem,hVl]) rfl rfl) ?_
      ·exact ⟨Nat.zero_le _,g2,g3,g4,g5,g6,g7⟩
      clear g2 g3 g4 g5 g6 g7
      rintro ⟨j,d,τ,ny⟩ ⟨g1,g2,g3,g4,g5,g6,g7⟩
      refine K_run hB 60 ?_
      simp [go_sem]
      refine fork_dec (fun hj=>?_) (fun hj=>?_)
      ·have hjj:IntKind.i64.wrap ((j:Int)+1)=((j+1:Nat):Int):=by rw [w64 ((j:Int)+1) (by omega)];rfl
       have hgj:∀h:j<(l.map Spot.t).length,(l.map Spot.t)[j]'h=l[j].t:=fun h=>hVg j hj
       have hgd:d.getD k 0=d[k]:=by rw [List.getD_eq_getElem?_getD,List.getElem?_eq_getElem (by omega)];rfl
       rw [List.drop_eq_getElem_cons hj,Inst.layGo,hgd] at g3
       obtain ⟨hn0,hn1,hn2⟩:=hln _ (List.getElem_mem hj)
       have hn3:=hon _ (List.getElem_mem hj)
       generalize l[j]=n at *
       have n2:¬2=ny:=by omega
       have n3:¬3=ny:=by omega
       have n5:¬5=ny:=by omega
       have hh:=fun τ' h1 h2=>hhold τ' (ny+1) k i q n d hqk (by omega) (by omega) hn2 hn3 (by omega) h1 h2
       simp [go_sem,hVl,hj,hgj,Spot.t,g5,n3]
       refine K_call rfl rfl rfl (args:=[.ptr 2 0,.i k,.i i,n.a]) (f:=34) (by simp [go_sem,Spot.a,Spot.cs]) (by simp [go_sem,hB]) (hh _ (by simp [oput,n2,g4]) (by simp [oput,n5,g6])) ?_
       cases hhb:x.holdsB p k i n d[k] with
       |false=>
        rw [hhb,if_neg (by simp)] at g3
        subst g3
        refine K_run hB 100 ?_
        simp [go_sem]
        rfl
       |true=>
        rw [hhb,if_pos rfl] at g3
        have hw1:IntKind.i64.wrap (n.part-1)=n.part-1:=w64 _ (by omega)
        by_cases e1:(k:Int)<n.part-1
        ·obtain ⟨o,ho⟩:∃o:Nat,n.part-1=(o:Int):=⟨(n.part-1).toNat,by omega⟩
         have hst:stepD k i n d=d.set o (min (d.getD o 0) (IntKind.i64.wrap (d.getD k 0+i))):=by
          rw [stepD,if_pos e1,show (n.part-1).toNat=o by omega]
         have hod:o<d.length:=by omega
         have hgo:d.getD o 0=d[o]:=by rw [List.getD_eq_getElem?_getD,List.getElem?_eq_getElem hod];rfl
         rw [hst,hgo,hgd] at g3
         have hdl:(ints d).length=d.length:=List.length_map _
         have hdk:k<d.length:=by omega
         have hdg:∀h:k<(ints d).length,(ints d)[k]'h=[.i d[k]]:=fun h=>ints_getS _ hdk
         have hdo:∀h:o<(ints d).length,(ints d)[o]'h=[.i d[o]]:=fun h=>ints_getS _ hod
         have e1':k<o:=by omega
         rw [ho] at hw1
         generalize d[k]=dk at *
         generalize d[o]=dO at *
         refine K_run hB 100 ?_
         simp [go_sem,ho,hw1,e1']
         refine K_drawnT [23] rfl (by rw [hB];kernel_rfl) (by kernel_rfl) fun ht=>?_
         refine K_run hB 100 ?_
         simp [go_sem,ht,n2,n3,n5,g4,g5,g6,hck5,hdl,hdk,hod,hdg,hdo,Nat.mod_one,hjj]
         refine Next.mk (j+1,d.set o (min dO (IntKind.i64.wrap (dk+i))),_,ny+1) ?_ (Imp.slots (by simp [go_sem]) rfl rfl) (by simp only;omega)
         exact ⟨by simp only;omega,by simp only [List.length_set];exact g2,g3,by simp [oput,n2,g4,hck5],by simp [oput,n3,g5],by simp [oput,n5,g6,ints,List.map_set],by simp only;omega⟩
        ·have hst:stepD k i n d=d:=by rw [stepD,if_neg e1]
         rw [hst] at g3
         refine K_run hB 100 ?_
         simp [go_sem,hw1,e1,hjj]
         refine Next.mk (j+1,d,_,ny+1) ?_ (Imp.slots (by simp [go_sem]) rfl rfl) (by simp only;omega)
         exact ⟨by simp only;omega,g2,g3,by simp [oput,n2,g4],by simp [oput,n3,g5],by simp [oput,n5,g6],by simp only;omega⟩
      ·have:j=l.length:=by omega
       subst this
       rw [List.drop_length,Inst.layGo,Option.bind_some,←hG2] at g3
       simp [go_sem,hii]
       refine Next.mk (i+1,d,τ,ny) ?_ (Imp.slots (by simp [go_sem]) rfl rfl) (by simp only;omega)
       exact ⟨by simp only;omega,g2,g3,g4,g5,g6,g7⟩
     ·have:i=q.length:=by omega
      subst this
      rw [List.drop_length,Inst.partGo,Option.bind_some,←hG] at g3
      simp [go_sem,hkk]
      refine Next.mk (k+1,d,τ,ny) ?_ (Imp.slots (by simp [go_sem]) rfl rfl) (by simp only;omega)
      exact ⟨by simp only;omega,g2,g3,g4.trans (by rw [hck5]),g5,g6,g7⟩
   ·have:k=ps.length:=by omega
    subst this
    rw [List.drop_length,Inst.partsGo,resP] at g3
    subst g3
    simp [go_sem]
end Go.Proofs.YtnoifgjiipgpoaaGreat

set_option maxRecDepth 4000
set_option maxHeartbeats 1000000
namespace Go.Proofs.YtnoifgjiipgpoaaGreat
open Go Go.Proofs.YtnoifgjiipgpoaaGreat.R
def Inst.rootP (x:Inst) (m:Int):Prf:=⟨m,[[[⟨x.rootS,0,0⟩]]]⟩
theorem make_pure (x:Inst) (hl:x.stops.length<2^31):Pure P 11 [x.a,.agg [.i 4,.t (.sl []),.i 1152921504606846976,.i 0,.i 0,.t (.sl [])]] ((x.rootP 0).a):=by
 refine pure_of Tryz.func11 rfl rfl (by simp [Tryz.f11]) (by simp [bnd,bnd.bndL,Inst.a]) (by simp [bnd,bnd.bndL,Prf.a,Prf.cs]) fun B hB hnx=>?_
 simp only [Tryz.f11] at hB ⊢
 have hr:=root_pureS x (by omega)
 rw [Inst.rootP]
 generalize x.rootS=r at *
 refine K_run hB 100 ?_
 simp [go_sem,Inst.a]
 refine K_loopP (α:=Unit) (fun _=>True) (fun _=>⟨sl [(2,.ptr 0 0),(3,.ptr 1 0),(4,.ptr 2 0),(6,.ptr 4 0),(17,.i 0),(18,.i 0)],_,_⟩) (fun _=>0) () trivial (Imp.slots (by simp [go_sem]) rfl rfl) ?_
 intro _ _
 refine K_run hB 60 ?_
 simp [go_sem]
 refine K_call rfl rfl rfl (args:=[x.a]) (f:=18) (by simp [go_sem,Inst.a]) (by simp [go_sem,hB]) ((hr).spec _ _) ?_
 refine K_run hB 100 ?_
 simp [go_sem,State.a,State.cs]
 rfl
theorem small_check:small.checkE (small.rootP 0)=0∧small.checkE ((small.rootP 0).less 13)=10:=by decide+kernel
theorem awake20_pure:Pure P 7 [] (.b true):=by
 refine pure_of Tryz.func7 rfl rfl (by simp [Tryz.f7]) (by simp [bnd,bnd.bndL]) (by simp [bnd,bnd.bndL]) fun B hB hnx=>?_
 simp only [Tryz.f7] at hB ⊢
 refine K_run hB 100 ?_
 simp [go_sem]
 refine K_call rfl rfl rfl (args:=[]) (f:=17) (by simp [go_sem]) (by simp [go_sem,hB]) ((small_pure).spec _ _) ?_
 have hp:=parse_pure smallB (by decide) (by decide)
 rw [small_parse] at hp
 refine K_run hB 100 ?_
 simp [go_sem,small_bytes]
 refine K_call rfl rfl rfl (args:=[.t (.sl (byt smallB))]) (f:=16) (by simp [go_sem]) (by simp [go_sem,hB]) ((hp).spec _ _) ?_
 have hl:small.stops.length<2^31:=by decide
 have hr:=root_pureS small (by omega)
 have hmk:=make_pure small hl
 have hfine:∀m,((small.rootP 0).less m).Fine:=fun m=>⟨by simp [Prf.less,Inst.rootP],by simp [Prf.less,Inst.rootP],by simp [Prf.less,Inst.rootP],by simp [Prf.less,Inst.rootP];exact rootS_ok small⟩
 have h1:=check_pure small ((small.rootP 0).less 0) hl (hfine 0)
 have h2:=check_pure small ((small.rootP 0).less 13) hl (hfine 13)
 have e1:small.checkE ((small.rootP 0).less 0)=0:=small_check.1
 rw [e1] at h1
 rw [small_check.2] at h2
 have hpa:(small.rootP 0).a= .agg [.i 0,.t (.sl ([[[(⟨small.rootS,0,0⟩:Spot)]]].map partT))]:=rfl
 have hpb:∀m,((small.rootP 0).less m).a= .agg [.i m,.t (.sl ([[[(⟨small.rootS,0,0⟩:Spot)]]].map partT))]:=fun m=>rfl
 have hpt:([[[(⟨small.rootS,0,0⟩:Spot)]]].map partT)=[[.sl [[.sl [(⟨small.rootS,0,0⟩:Spot).t]]]]]:=rfl
 rw [hpt] at hpa hpb
 rw [hpa] at hmk
 rw [hpb] at h1 h2
 generalize small.rootS=r at *
 generalize small=x at *
 refine K_run hB 100 ?_
 simp [go_sem,Inst.a]
 refine K_call rfl rfl rfl (args:=[x.a,.agg [.i 4,.fsl [],.i 1152921504606846976,.i 0,.i 0,.fsl []]]) (f:=11) (by simp [go_sem,Inst.a]) (by simp [go_sem,hB]) ((Pure.loose hmk (by simp [bnd,bnd.bndL,Inst.a])).spec _ _) ?_
 refine K_run hB 100 ?_
 simp [go_sem]
 refine K_call rfl rfl rfl (args:=[x.a,.agg [.i 0,.t (.sl [[.sl [[.sl [(⟨r,0,0⟩:Spot).t]]]]])]]) (f:=15) (by simp [go_sem,Inst.a]) (by simp [go_sem,hB]) ((h1).spec _ _) ?_
 refine K_run hB 100 ?_
 simp [go_sem]
 refine K_call rfl rfl rfl (args:=[x.a,.agg [.i 13,.t (.sl [[.sl [[.sl [(⟨r,0,0⟩:Spot).t]]]]])]]) (f:=15) (by simp [go_sem,Inst.a]) (by simp [go_sem,hB]) ((h2).spec _ _) ?_
 refine K_run hB 100 ?_
 simp [go_sem]
 refine K_drawn [] rfl (by rw [hB];kernel_rfl) ?_
 refine K_run hB 100 ?_
 simp [go_sem,Spot.t]
 refine K_dCallP rfl rfl rfl (args:=[x.a]) (f:=18) (by simp [go_sem,Inst.a]) (hr) ?_
 refine K_dEq (op:=.eql) (t:=52) (t':=52) (x:=.tmp 53) (y:=.tmp 55) (xs:=r.cs) (ys:=r.cs) (by simp [go_sem]) rfl (by simp [go_sem,State.cs]) (by simp [go_sem,State.a,State.cs]) state_guard (state_eq r r) rfl ?_
 refine K_run hB 100 ?_
 simp [go_sem]
end Go.Proofs.YtnoifgjiipgpoaaGreat

set_option maxRecDepth 4000
set_option maxHeartbeats 1000000
namespace Go.Proofs.YtnoifgjiipgpoaaGreat
open Go Go.Proofs.YtnoifgjiipgpoaaGreat.R
theorem build_fine2 {x:Inst} {n:Node} (ht:Track x n) {w u:Int} (hl:x.stops.length≤7) (hw:w≤40):(x.build n w u).sure≤(x.build n w u).layers.length∧(x.build n w u).layers.length≤41∧∀l∈(x.build n w u).layers,l.length≤40∧∀n∈l,n.s.ok∧n.path.length≤81:=by
 have h1:=build_count x n w u
 have h2:=ht.few
 have h3:x.deep≤40:=by
  by_cases hm:x.may=true
  ·have:=(deep_meas hm).2;omega
  ·rw [Inst.deep,if_neg hm];omega
 refine ⟨(build_ok x n w u).le,by omega,fun l hl2=>?_⟩
 obtain ⟨h4,h5⟩:=build_fine ht.is.ok w u l hl2
 refine ⟨?_,fun m hm=>⟨h4.ok m hm,by have:=h4.path m hm;omega⟩⟩
 rcases h5 with h5 | h5
 ·rw [h5];simp
 ·unfold Inst.mostN at h5
  omega
theorem done_fine {x:Inst} {w:Int} {r:SRes} (hD:DoneX x w r) (hl:x.stops.length≤7) (hw:w≤40):r.Fine:=by
 have hfew:=hD.few
 refine ⟨by omega,fun d hd=>?_,fun d hd=>?_⟩
 ·obtain ⟨k,hk,e⟩:=List.getElem_of_mem hd
  have:=(hD.all k d.1 d.2 (by rw [List.getElem?_eq_getElem hk,e])).1.few
  omega
 ·obtain ⟨k,hk,e⟩:=List.getElem_of_mem hd
  obtain ⟨ht,u,hd2,_⟩:=hD.all k d.1 d.2 (by rw [List.getElem?_eq_getElem hk,e])
  obtain ⟨h1,h2,h3⟩:=build_fine2 ht (w:=w) (u:=u) hl hw
  rw [←hd2] at h1 h2 h3
  exact ⟨h1,by omega,fun l hl2=>⟨by have:=(h3 l hl2).1;omega,fun n hn=>⟨((h3 l hl2).2 n hn).1,by have:=((h3 l hl2).2 n hn).2;omega⟩⟩⟩
theorem search_fine3 {x:Inst} {o:Opt} (hl:x.stops.length≤7) (hw:o.width≤40):(x.search o).Fine:=by
 by_cases hm:x.may=true
 ·by_cases ho:o.mayB=true
  ·exact done_fine (search_done hl hm ho hw) hl hw
  ·rw [Inst.search,if_pos hm,if_neg ho]
   exact ⟨by decide,fun d h=>(by cases h),fun d h=>(by cases h)⟩
 ·rw [Inst.search,if_neg hm]
  exact ⟨by decide,fun d h=>(by cases h),fun d h=>(by cases h)⟩
structure Prf.Lesser (p:Prf):Prop where
 parts:p.parts.length≤1848
 lays:∀q∈p.parts,q.length≤41∧∀l∈q,l.length≤40∧∀n∈l,n.s.ok
theorem Prf.Lesser.fine {p:Prf} (h:p.Lesser):p.Fine:=
 ⟨by have:=h.parts;omega,fun q hq=>by have:=(h.lays q hq).1;omega,fun q hq l hl=>by have:=((h.lays q hq).2 l hl).1;omega,fun q hq l hl=>((h.lays q hq).2 l hl).2⟩
theorem done_lesser {x:Inst} {w:Int} {r:SRes} (hD:DoneX x w r) (hl:x.stops.length≤7) (hw:w≤40):(x.proofOf r).Lesser:=by
 have hfew:=hD.few
 rw [Inst.proofOf]
 split
 ·refine ⟨by simp,fun q hq=>?_⟩
  simp only [List.mem_singleton] at hq
  subst hq
  refine ⟨by simp,fun l hl2=>?_⟩
  simp only [List.mem_singleton] at hl2
  subst hl2
  refine ⟨by simp,fun n hn=>?_⟩
  simp only [List.mem_singleton] at hn
  subst hn
  exact rootS_ok x
 ·refine ⟨by simp only [List.length_map];exact hfew,fun q hq=>?_⟩
  obtain ⟨d,hd,rfl⟩:=List.mem_map.1 hq
  obtain ⟨k,hk,e⟩:=List.getElem_of_mem hd
  obtain ⟨ht,u,hd2,_⟩:=hD.all k d.1 d.2 (by rw [List.getElem?_eq_getElem hk,e])
  obtain ⟨h1,h2,h3⟩:=build_fine2 ht (w:=w) (u:=u) hl hw
  rw [←hd2] at h1 h2 h3
  have h4:=lays_len r d.2
  refine ⟨by rw [partM_len];omega,fun l hl2=>?_⟩
  obtain ⟨i,hi,e2⟩:=List.getElem_of_mem hl2
  have hg:=partM_get (x:=x) (r:=r) (d:=d.2) i
  rw [List.getElem?_eq_getElem hi,e2] at hg
  cases hla:(laysP r d.2)[i]? with
  |none=>rw [hla] at hg;cases hg
  |some lay=>
   rw [hla] at hg
   have hg:=Option.some.inj hg
   subst hg
   obtain ⟨g1,g2⟩:=h3 lay (lays_mem (List.mem_of_getElem? hla))
   refine ⟨by rw [List.length_map];exact g1,fun n hn=>?_⟩
   obtain ⟨m,hm,rfl⟩:=List.mem_map.1 hn
   exact (g2 m hm).1
theorem lpholds_pure (x:Inst) (o:Opt) (hl:x.stops.length<2^63):Pure P 4 [x.a,o.a] (.b true):=by
 refine pure_of Tryz.func4 rfl rfl (by simp [Tryz.f4]) (by simp [bnd,bnd.bndL,Inst.a,Opt.a,Opt.cs]) (by simp [bnd,bnd.bndL]) fun B hB hnx=>?_
 simp only [Tryz.f4] at hB ⊢
 have hf:=few19_pure x o hl
 have hm:=may_pure x hl
 have ho:=omay_pure o
 refine K_run hB 100 ?_
 simp [go_sem,Inst.a,Opt.a,Opt.cs]
 refine K_call rfl rfl rfl (args:=[]) (f:=7) (by simp [go_sem]) (by simp [go_sem,hB]) ((awake20_pure).spec _ _) ?_
 refine K_run hB 100 ?_
 simp [go_sem]
 refine K_call rfl rfl rfl (args:=[x.a,o.a]) (f:=8) (by simp [go_sem,Inst.a,Opt.a,Opt.cs]) (by simp [go_sem,hB]) ((hf).spec _ _) ?_
 cases cf:fewO x o with
 |false=>
  refine K_run hB 100 ?_
  simp [go_sem]
 |true=>
  simp only [fewO,Bool.and_eq_true,decide_eq_true_eq] at cf
  refine K_run hB 100 ?_
  simp [go_sem]
  refine K_call rfl rfl rfl (args:=[x.a]) (f:=13) (by simp [go_sem,Inst.a]) (by simp [go_sem,hB]) ((hm).spec _ _) ?_
  cases cm:x.may with
  |false=>
   refine K_run hB 100 ?_
   simp [go_sem]
  |true=>
   refine K_run hB 100 ?_
   simp [go_sem]
   refine K_call rfl rfl rfl (args:=[o.a]) (f:=14) (by simp [go_sem,Opt.a,Opt.cs]) (by simp [go_sem,hB]) ((ho).spec _ _) ?_
   cases co:o.mayB with
   |false=>
    refine K_run hB 100 ?_
    simp [go_sem]
   |true=>
    have hs:=srun_pure x o cf.1 cf.2
    have hfi:=search_fine3 (x:=x) (o:=o) cf.1 cf.2
    have hD:=search_done cf.1 cm co cf.2
    have hmk:=make2_pure x (x.search o) (by omega) hfi
    have hck:=check_pure x (x.proofOf (x.search o)) (by omega) (done_lesser hD cf.1 cf.2).fine
    rw [proof_holds cm hD] at hck
    have hlow:(x.proofOf (x.search o)).least=(x.search o).low:=rfl
    generalize x.proofOf (x.search o)=p at *
    generalize x.search o=r at *
    refine K_run hB 100 ?_
    simp [go_sem]
    refine K_call rfl rfl rfl (args:=[x.a,o.a]) (f:=9) (by simp [go_sem,Inst.a,Opt.a,Opt.cs]) (by simp [go_sem,hB]) ((hs).spec _ _) ?_
    refine K_run hB 100 ?_
    simp [go_sem,SRes.a]
    refine K_call rfl rfl rfl (args:=[x.a,r.a]) (f:=11) (by simp [go_sem,Inst.a,SRes.a]) (by simp [go_sem,hB]) ((hmk).spec _ _) ?_
    refine K_run hB 100 ?_
    simp [go_sem,Prf.a,Prf.cs]
    refine K_call rfl rfl rfl (args:=[x.a,p.a]) (f:=15) (by simp [go_sem,Inst.a,Prf.a,Prf.cs]) (by simp [go_sem,hB]) ((hck).spec _ _) ?_
    refine K_run hB 100 ?_
    simp [go_sem,hlow]
end Go.Proofs.YtnoifgjiipgpoaaGreat

set_option maxRecDepth 100000
namespace Go.Proofs.YtnoifgjiipgpoaaGreat
open Go Go.ChangeShapes Go.WideShapes Go.ChangeAt Go.RowKit Go.Proofs.YtnoifgjiipgpoaaGreat.R
theorem has_opt {f:Nat} {ts:List T} (h:HasT P f 26 ts):∃o:Opt,ts=[.i o.width,.i o.order,.i o.budget]:=by
 obtain ⟨f',h⟩:=has_struct (tt_some tt26).1 h
 simp only [HasF] at h
 obtain ⟨a,_,rfl,_,ha,b,_,rfl,_,hb,c,_,rfl,_,hc,rfl⟩:=h
 obtain ⟨a,rfl⟩:=has_i ha
 obtain ⟨b,rfl⟩:=has_i hb
 obtain ⟨c,rfl⟩:=has_i hc
 exact ⟨⟨a,b,c⟩,rfl⟩
section
variable {H:Type} {enc:TypeId×Value→H} {W:World} {base:Nat} {sp:Nat→Bool} {held:Bool} {v:Value} {d:DataW H} {ps:List MemPlace}
theorem arg_opt (h:DataW.Trod enc P W 0 sp held 26 v d ps) (hv:Value.okWide P W .any base 26 v):∃o:Opt,RepA W (C0 W) o.a v:=by
 obtain ⟨f,ts,h1,h2⟩:=arg_struct (tt_some tt26).1 (by kernel_rfl) h hv
 obtain ⟨o,rfl⟩:=has_opt h1
 exact ⟨o,h2⟩
end
end Go.Proofs.YtnoifgjiipgpoaaGreat

set_option maxRecDepth 100000
namespace Go.Proofs.YtnoifgjiipgpoaaGreat
open Go
theorem w_enter:Tryz.prog.mayEnter=true:=by kernel_rfl
theorem w_lift:((false:Bool)==Tryz.prog.liftsFinal)=true:=by kernel_rfl
theorem w_make:(Tryz.prog.make==some Make.cut)=true:=by kernel_rfl
end Go.Proofs.YtnoifgjiipgpoaaGreat
