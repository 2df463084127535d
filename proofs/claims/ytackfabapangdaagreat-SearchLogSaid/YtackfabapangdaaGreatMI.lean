/- Parts of the proof: Law19b, Law19d, LogP, Law19f. -/
import Derived.Test.YtackfabapangdaaGreatMH
set_option linter.all false
set_option maxHeartbeats 4000000
set_option maxRecDepth 4000
set_option maxHeartbeats 1000000
namespace Go.Proofs.YtackfabapangdaaGreat
open Go Go.Proofs.YtackfabapangdaaGreat.R
structure Whole (x:Inst) (r:SRes):Prop where
 low:r.low=r.up
 least:∀v c,x.way v x.rootS c→r.up≤c
 some:r.up<inf→r.status=2∧∃v,x.way v x.rootS r.up
 none:¬r.up<inf→r.status=3∧r.up=inf
end Go.Proofs.YtackfabapangdaaGreat

set_option maxRecDepth 4000
set_option maxHeartbeats 1000000
namespace Go.Proofs.YtackfabapangdaaGreat
open Go Go.Proofs.YtackfabapangdaaGreat.R
theorem look_log (x:Inst) (w:Int) (s:SS) (n:Node):(x.lookS w s n).log=s.log++[(n,x.build n w (s.nar x w n).up)]:=by
 have h1:(s.nar x w n).log=s.log:=(offer_up (s.plus (x.narrow n w s.up).2.2) ((x.narrow n w s.up).1,(x.narrow n w s.up).2.1)).2.2.2.1
 rw [Inst.lookS,←h1]
 generalize s.nar x w n=t
 unfold Inst.lookD
 split
 ·rfl
 split
 ·exact (offer_up _ _).2.2.2.1
 ·rw [Inst.branch,(pushes_up x _ _ _).2.1,(offers_up x _ _).2.2.2.1]
  rfl
structure LogOK (x:Inst) (w:Int) (d:Node×Diag):Prop where
 track:Track x d.1
 built:∃up,d.2=x.build d.1 w up
theorem run_log {x:Inst} {p:Nat} (hx:x.Fit p) (hm:x.may=true) (hp:p≤3) (o:Opt) (hw:o.width≤40):∀(N:Nat) (s:SS) (r:SRes),Going x p s→(∀d∈s.log,LogOK x o.width d)→x.runGo o N s=some r→(∀d∈r.log,LogOK x o.width d)∧s.log <+:r.log∧r.log.length≤1848
 |0,s,r,_,_,h=>by cases h
 |N+1,s,r,hs,hl,h=>by
  have hlen:s.log.length≤1848:=by have:=hs.small.log;omega
  rw [Inst.runGo] at h
  cases ht:takeQ o.order s.q with
  |none=>
   rw [ht] at h
   cases h
   exact ⟨hl,List.prefix_refl _,hlen⟩
  |some r'=>
   obtain ⟨e,q⟩:=r'
   rw [ht] at h
   simp only at h
   obtain ⟨n,hn,hg,htn,k1,k2,k3⟩:=hs.look hx hm hp hw ht
   rw [hg] at h
   by_cases c1:s.up≤e.bound
   ·rw [if_pos c1] at h
    exact run_log hx hm hp o hw N (s.left q) r (hs.skip ht c1) hl h
   rw [if_neg c1] at h
   by_cases c2:o.budget≤s.steps
   ·rw [if_pos c2] at h
    cases h
    exact ⟨hl,List.prefix_refl _,hlen⟩
   rw [if_neg c2] at h
   have hlog:=look_log x o.width (s.left q) n
   have e2:(s.left q).log=s.log:=rfl
   rw [e2] at hlog
   obtain ⟨i1,i2,i3⟩:=run_log hx hm hp o hw N _ r k1 (fun d hd=>by
    rw [hlog] at hd
    rcases List.mem_append.1 hd with hd | hd
    ·exact hl d hd
    ·rw [List.mem_singleton.1 hd]
     exact ⟨htn,_,rfl⟩) h
   rw [hlog] at i2
   exact ⟨i1,(List.prefix_append _ _).trans i2,i3⟩
theorem logT_get (l:List (Node×Diag)) {k:Nat} (h:k<l.length) (h':k<(logT l).length):(logT l)[k]'h'=Done.t l[k]:=by simp [logT]
end Go.Proofs.YtackfabapangdaaGreat

set_option maxRecDepth 4000
namespace Go.Proofs.YtackfabapangdaaGreat
open Go Go.Proofs.YtackfabapangdaaGreat.R
def Off (a b:List Int):Prop:=¬a <+:b∧¬b <+:a
def SS.pathsQ (s:SS):List (List Int):=s.q.map fun e=>(s.subs.getD e.no Node.zero).path
structure LogI (s:SS):Prop where
 apart:s.pathsQ.Pairwise Off
 new:∀q∈s.pathsQ,∀d∈s.log,¬q <+:d.1.path
 nodup:(s.log.map fun d=>d.1.path).Nodup
 first:s.log=[]→∀q∈s.pathsQ,q=[]
 head:∀d l,s.log=d :: l→d.1.path=[]∧∀e∈l,e.1.path≠[]
theorem layN_lead {x:Inst} {n:Node} (up:Int):∀(k:Nat),∀m∈x.layN up n k,n.path <+:m.path
 |0,m,hm=>by rw [List.mem_singleton.1 hm];exact List.prefix_refl _
 |k+1,m,hm=>by
  obtain ⟨q,hq,j,hj,rfl,_⟩:=next_mem hm
  exact (layN_lead up k q hq).trans (List.prefix_append _ _)
theorem pushes_paths {x:Inst} {low:Int}:∀(l:List Node) (s:SS),(∀e∈s.q,∃m,s.subs[e.no]? =some m)→∃k:List Node,k.Sublist l∧(l.foldl (x.push low) s).pathsQ=s.pathsQ++k.map Node.path
 |[],s,_=>⟨[],List.Sublist.refl _,by simp⟩
 |n :: l,s,hn=>by
  obtain ⟨k,h1,h2⟩:=pushes_paths (x:=x) (low:=low) l (x.push low s n) (push_nos hn)
  rw [List.foldl_cons,h2]
  rcases push_or x low s n with ⟨e,_⟩ | ⟨_,e⟩
  ·rw [e];exact ⟨k,h1.cons _,rfl⟩
  ·refine ⟨n :: k,h1.cons_cons _,?_⟩
   have:(x.push low s n).pathsQ=s.pathsQ++[n.path]:=by
    rw [e,SS.pathsQ,SS.pathsQ]
    simp only
    rw [List.map_append,List.map_cons,List.map_nil]
    have h2:(s.subs++[n])[s.subs.length]? =some n:=by simp
    rw [getD_of h2]
    congr 1
    refine List.map_congr_left fun e he=>?_
    obtain ⟨m,hm⟩:=hn e he
    rw [getD_of hm,getD_of (get_old hm)]
   rw [this,List.append_assoc]
   rfl
theorem take_split {o:Int} {q:List Ent} {e:Ent} {q':List Ent} (h:takeQ o q=some (e,q')):∃a b,q=a++e :: b∧q'=a++b:=by
 unfold takeQ at h
 split at h
 ·cases h
 rename_i hq
 have hk:=minI_lt o hq
 obtain ⟨h1,h2⟩:=Prod.mk.inj (Option.some.inj h)
 refine ⟨q.take (minI o q),q.drop (minI o q+1),?_,h2.symm⟩
 have hg:q.getD (minI o q) Ent.zero=q[minI o q]:=by rw [List.getD_eq_getElem?_getD,List.getElem?_eq_getElem hk];rfl
 rw [←h1,hg,←List.drop_eq_getElem_cons hk,List.take_append_drop]
theorem LogI.left {s:SS} (h:LogI s) {o:Int} {e:Ent} {q:List Ent} (ht:takeQ o s.q=some (e,q)):LogI (s.left q)∧(∀p∈(s.left q).pathsQ,Off (s.subs.getD e.no Node.zero).path p)∧(s.subs.getD e.no Node.zero).path∈s.pathsQ:=by
 obtain ⟨a,b,h1,h2⟩:=take_split ht
 have e1:s.pathsQ=(a.map fun e=>(s.subs.getD e.no Node.zero).path)++(s.subs.getD e.no Node.zero).path :: (b.map fun e=>(s.subs.getD e.no Node.zero).path):=by rw [SS.pathsQ,h1,List.map_append,List.map_cons]
 have e2:(s.left q).pathsQ=(a.map fun e=>(s.subs.getD e.no Node.zero).path)++(b.map fun e=>(s.subs.getD e.no Node.zero).path):=by rw [SS.pathsQ,←List.map_append,←h2];rfl
 have hap:=h.apart
 rw [e1,List.pairwise_append,List.pairwise_cons] at hap
 obtain ⟨p1,⟨p2,p3⟩,p4⟩:=hap
 have hsub:∀p∈(s.left q).pathsQ,p∈s.pathsQ:=fun p hp=>by
  rw [e2] at hp
  rw [e1]
  rcases List.mem_append.1 hp with hp | hp
  ·exact List.mem_append_left _ hp
  ·exact List.mem_append_right _ (List.mem_cons_of_mem _ hp)
 refine ⟨⟨?_,fun p hp=>h.new p (hsub p hp),h.nodup,fun hl p hp=>h.first hl p (hsub p hp),h.head⟩,fun p hp=>?_,by rw [e1];simp⟩
 ·rw [e2,List.pairwise_append]
  exact ⟨p1,p3,fun u hu v hv=>p4 u hu v (List.mem_cons_of_mem _ hv)⟩
 ·rw [e2] at hp
  rcases List.mem_append.1 hp with hp | hp
  ·obtain ⟨g1,g2⟩:=p4 p hp _ List.mem_cons_self
   exact ⟨g2,g1⟩
  ·exact p2 p hp
theorem look_paths {x:Inst} (hm:x.may=true) {n:Node} (ht:Track x n) (w:Int) {s:SS} (hs:∀e∈s.q,∃m,s.subs[e.no]? =some m):∃l:List Node,(x.lookS w s n).pathsQ=s.pathsQ++l.map Node.path∧(∀m∈l,n.path <+:m.path∧m.path≠n.path)∧(l.map Node.path).Pairwise Off:=by
 have q1:(s.nar x w n).subs=s.subs∧(s.nar x w n).q=s.q:=⟨(offer_up _ _).2.1,(offer_up _ _).2.2.1⟩
 rw [Inst.lookS]
 generalize s.nar x w n=t at *
 have hlike:∀u:SS,u.subs=s.subs→u.q=s.q→u.pathsQ=s.pathsQ:=fun u h1 h2=>by rw [SS.pathsQ,SS.pathsQ,h1,h2]
 rw [Inst.lookD]
 split
 ·exact ⟨[],by rw [hlike (t.dia n (x.build n w t.up)) q1.1 q1.2];simp,fun m hm=>(by cases hm),List.Pairwise.nil⟩
 split
 ·have h3:=offer_up ((t.dia n (x.build n w t.up)).plus (x.exact n (t.dia n (x.build n w t.up)).up (x.mostN w)).2.2.2) ((x.exact n (t.dia n (x.build n w t.up)).up (x.mostN w)).1,(x.exact n (t.dia n (x.build n w t.up)).up (x.mostN w)).2.1)
  exact ⟨[],(hlike _ (h3.2.1.trans q1.1) (h3.2.2.1.trans q1.2)).trans (by simp),fun m hm=>(by cases hm),List.Pairwise.nil⟩
 ·rename_i c1 c2
  have htwo:=build_two x n w t.up (by simpa using c2)
  have hok:=build_ok x n w t.up
  obtain ⟨k,hk⟩:∃k,(x.build n w t.up).sure-1=k+1:=⟨(x.build n w t.up).sure-2,by omega⟩
  rw [Inst.branch]
  obtain ⟨hl,hlast⟩:=sure_get hok (i:=(x.build n w t.up).sure-1) (by omega)
  rw [List.getD_eq_getElem?_getD,List.getElem?_eq_getElem hl,Option.getD_some,hlast,hk]
  have ho:=offers_up x ((x.build n w t.up).layers.take ((x.build n w t.up).sure-1)) (t.dia n (x.build n w t.up))
  rw [hk] at ho
  generalize x.offers (t.dia n (x.build n w t.up)) ((x.build n w t.up).layers.take (k+1))=S at *
  have g1:S.subs=s.subs:=ho.2.1.trans q1.1
  have g2:S.q=s.q:=ho.2.2.1.trans q1.2
  obtain ⟨l,h1,h2⟩:=pushes_paths (x:=x) (low:=(x.build n w t.up).low) (x.layN t.up n (k+1)) S (by rw [g1,g2];exact hs)
  have hmem:∀m∈l,m∈x.layN t.up n (k+1):=fun m hm=>h1.subset hm
  have htr:=fun m hm=>layN_track ht t.up (k+1) m (hmem m hm)
  refine ⟨l,by rw [h2,hlike _ g1 g2],fun m hm=>⟨layN_lead t.up _ m (hmem m hm),fun e=>?_⟩,?_⟩
  ·have:=(htr m hm).2
   rw [e] at this
   omega
  ·have hnd:(l.map Node.s).Nodup:=((h1.map Node.s).nodup (next_nodup x (x.layN t.up n k) t.up))
   rw [List.Nodup,List.pairwise_map] at hnd
   rw [List.pairwise_map]
   refine hnd.imp_of_mem fun {a b} ha hb hne=>?_
   have h3:=htr a ha
   have h4:=htr b hb
   have key:a.path≠b.path:=fun e=>hne (by
    have g3:=h3.1.goes
    rw [e,h4.1.goes] at g3
    exact (congrArg Prod.fst (Option.some.inj g3)).symm)
   exact ⟨fun hp=>key (hp.eq_of_length (by rw [h3.2,h4.2])),fun hp=>key (hp.eq_of_length (by rw [h3.2,h4.2])).symm⟩
theorem LogI.look {x:Inst} (hm:x.may=true) {s:SS} (h:LogI s) {n:Node} (ht:Track x n) {w:Int} {o:Int} {e:Ent} {q:List Ent} (htk:takeQ o s.q=some (e,q)) (hn:s.subs.getD e.no Node.zero=n) (hs:∀f∈q,∃m,s.subs[f.no]? =some m):LogI (x.lookS w (s.left q) n):=by
 obtain ⟨h1,h2,h3⟩:=h.left htk
 rw [hn] at h2 h3
 obtain ⟨l,l1,l2,l3⟩:=look_paths hm ht w (s:=s.left q) hs
 have hlog:(x.lookS w (s.left q) n).log=s.log++[(n,x.build n w ((s.left q).nar x w n).up)]:=look_log x w (s.left q) n
 have hnew:=h.new _ h3
 refine ⟨?_,fun p hp d hd=>?_,?_,fun hl=>?_,fun d t hdt=>?_⟩
 ·rw [l1,List.pairwise_append]
  refine ⟨h1.apart,l3,fun a ha b hb=>?_⟩
  obtain ⟨m,hm',rfl⟩:=List.mem_map.1 hb
  obtain ⟨g1,g2⟩:=l2 m hm'
  obtain ⟨k1,k2⟩:=h2 a ha
  refine ⟨fun hp=>?_,fun hp=>k1 (g1.trans hp)⟩
  rcases List.prefix_or_prefix_of_prefix g1 hp with h | h
  ·exact k1 h
  ·exact k2 h
 ·rw [l1] at hp
  rw [hlog] at hd
  rcases List.mem_append.1 hp with hp | hp
  ·rcases List.mem_append.1 hd with hd | hd
   ·exact h1.new p hp d hd
   ·rw [List.mem_singleton.1 hd]
    exact (h2 p hp).2
  ·obtain ⟨m,hm',rfl⟩:=List.mem_map.1 hp
   obtain ⟨g1,g2⟩:=l2 m hm'
   rcases List.mem_append.1 hd with hd | hd
   ·exact fun hp=>hnew d hd (g1.trans hp)
   ·rw [List.mem_singleton.1 hd]
    intro hp
    have a1:=g1.length_le
    have a2:=hp.length_le
    exact g2 (g1.eq_of_length (by simp only at a2;omega)).symm
 ·rw [hlog,List.map_append,List.nodup_append]
  refine ⟨h.nodup,by simp,fun a ha b hb e=>?_⟩
  rw [List.map_cons,List.map_nil,List.mem_singleton] at hb
  subst e
  obtain ⟨d,hd,hde⟩:=List.mem_map.1 ha
  refine hnew d hd ?_
  rw [hde,hb]
  exact List.prefix_refl _
 ·rw [hlog] at hl
  exact absurd hl (by simp)
 ·rw [hlog] at hdt
  cases hsl:s.log with
  |nil=>
   rw [hsl] at hdt
   simp only [List.nil_append,List.cons.injEq] at hdt
   obtain ⟨rfl,rfl⟩:=hdt
   exact ⟨h.first hsl _ h3,fun e he=>(by cases he)⟩
  |cons a l=>
   rw [hsl] at hdt
   simp only [List.cons_append,List.cons.injEq] at hdt
   obtain ⟨rfl,rfl⟩:=hdt
   obtain ⟨g1,g2⟩:=h.head a l hsl
   refine ⟨g1,fun e he=>?_⟩
   rcases List.mem_append.1 he with he | he
   ·exact g2 e he
   ·rw [List.mem_singleton.1 he]
    intro hnil
    refine hnew a (by rw [hsl];simp) ?_
    have hnil':n.path=[]:=hnil
    rw [hnil']
    exact List.nil_prefix
theorem run_logI {x:Inst} {p:Nat} (hx:x.Fit p) (hm:x.may=true) (hp:p≤3) (o:Opt) (hw:o.width≤40):∀(N:Nat) (s:SS) (r:SRes),Going x p s→LogI s→x.runGo o N s=some r→(r.log.map fun d=>d.1.path).Nodup∧∀d l,r.log=d :: l→d.1.path=[]∧∀e∈l,e.1.path≠[]
 |0,s,r,_,_,h=>by cases h
 |N+1,s,r,hs,hl,h=>by
  rw [Inst.runGo] at h
  cases ht:takeQ o.order s.q with
  |none=>
   rw [ht] at h
   cases h
   exact ⟨hl.nodup,hl.head⟩
  |some r'=>
   obtain ⟨e,q⟩:=r'
   rw [ht] at h
   simp only at h
   obtain ⟨n,hn,hg,htn,k1,k2,k3⟩:=hs.look hx hm hp hw ht
   have hq:=(take_some ht).2.2.1
   rw [hg] at h
   by_cases c1:s.up≤e.bound
   ·rw [if_pos c1] at h
    exact run_logI hx hm hp o hw N (s.left q) r (hs.skip ht c1) (hl.left ht).1 h
   rw [if_neg c1] at h
   by_cases c2:o.budget≤s.steps
   ·rw [if_pos c2] at h
    cases h
    exact ⟨hl.nodup,hl.head⟩
   rw [if_neg c2] at h
   exact run_logI hx hm hp o hw N _ r k1 (hl.look hm htn ht hg fun f hf=>hs.inv.nos f (hq f hf)) h
theorem start_logI (x:Inst):LogI x.start:=by
 have h0:LogI ⟨[],[],inf,[],0,[]⟩:=⟨List.Pairwise.nil,fun q hq=>(by cases hq),List.nodup_nil,fun _ q hq=>(by cases hq),fun d l h=>(by cases h)⟩
 have hlog:x.start.log=[]:=(push_up x 0 ⟨[],[],inf,[],0,[]⟩ x.rootN).2.1
 obtain ⟨k,h1,h2⟩:=pushes_paths (x:=x) (low:=0) [x.rootN] ⟨[],[],inf,[],0,[]⟩ fun e he=>by cases he
 have hq:x.start.pathsQ=k.map Node.path:=by
  have:x.start.pathsQ=([x.rootN].foldl (x.push 0) ⟨[],[],inf,[],0,[]⟩).pathsQ:=rfl
  rw [this,h2];rfl
 have hk:∀q∈x.start.pathsQ,q=[]:=fun q h=>by
  rw [hq] at h
  obtain ⟨m,hm,rfl⟩:=List.mem_map.1 h
  rw [List.mem_singleton.1 (h1.subset hm)]
  rfl
 refine ⟨?_,fun q _ d hd=>(by rw [hlog] at hd;cases hd),(by rw [hlog];exact List.nodup_nil),fun _=>hk,fun d l h=>(by rw [hlog] at h;cases h)⟩
 rw [hq]
 have hlen:=h1.length_le
 match k,hlen with
 |[],_=>exact List.Pairwise.nil
 |[a],_=>exact List.pairwise_singleton _ _
end Go.Proofs.YtackfabapangdaaGreat

set_option maxRecDepth 4000
set_option maxHeartbeats 2000000
namespace Go.Proofs.YtackfabapangdaaGreat
open Go Go.Proofs.YtackfabapangdaaGreat.R
structure LogFacts (x:Inst) (r:SRes):Prop where
 follow:∀k (h:k<r.log.length),x.follow r.log[k].1.path=(r.log[k].1.s,r.log[k].1.cost,0)∧r.log[k].1.path.length<2^31
 root:∀k (h:k<r.log.length),decide (k=0)=decide (r.log[k].1.path.length=0)
 differ:∀i k (hk:k<r.log.length) (h:i<k),r.log[i].1.path≠r.log[k].1.path
 steps:2*(r.log.length:Int)≤r.steps
 len:r.log.length<2^30
theorem search_log {x:Inst} {o:Opt} (hl:x.stops.length≤7) (hm:x.may=true) (ho:o.mayB=true) (hw:o.width≤40):LogFacts x (x.search o):=by
 obtain ⟨p,hx⟩:=x.fit hm
 have hp:p≤3:=by have:=hx.len;omega
 have hrun:=search_is hx hm hp ho hw
 have hg:=start_going hx hm hp
 have hlog0:x.start.log=[]:=(push_up x 0 ⟨[],[],inf,[],0,[]⟩ x.rootN).2.1
 obtain ⟨i1,_,i3⟩:=run_log hx hm hp o hw 1850 x.start _ hg (fun d hd=>by rw [hlog0] at hd;cases hd) hrun
 obtain ⟨j1,j2⟩:=run_logI hx hm hp o hw 1850 x.start _ hg (start_logI x) hrun
 have hst:=(run_mono hx hm hp o hw 1850 x.start _ hg hrun).2.2.2
 generalize x.search o=r at *
 refine ⟨fun k hk=>?_,fun k hk=>?_,fun i k hk h he=>?_,hst,by omega⟩
 ·have ht:=(i1 _ (List.getElem_mem hk)).track
  refine ⟨?_,by have:=ht.few;omega⟩
  rw [Inst.follow,if_pos hm,ht.goes]
  rfl
 ·obtain ⟨d,l,hlog⟩:=List.exists_cons_of_ne_nil (List.ne_nil_of_length_pos (by omega:0<r.log.length))
  obtain ⟨g1,g2⟩:=j2 d l hlog
  have he:=List.getElem_of_eq hlog hk
  rw [he]
  cases k with
  |zero=>simp [g1]
  |succ k=>
   have hk':k<l.length:=by rw [hlog] at hk;simpa using hk
   have:=g2 _ (List.getElem_mem hk')
   simp [this]
 ·rw [List.nodup_iff_pairwise_ne,List.pairwise_iff_getElem] at j1
  have:=j1 i k (by rw [List.length_map];omega) (by rw [List.length_map];omega) h
  simp only [List.getElem_map] at this
  exact this he
theorem lslog_pure (x:Inst) (o:Opt) (hl:x.stops.length<2^63):Pure P 13 [x.a,o.a] (.b true):=by
 refine pure_of Tryz.func13 rfl rfl (by simp [Tryz.f13]) (by simp [bnd,bnd.bndL,Inst.a,Opt.a,Opt.cs]) (by simp [bnd,bnd.bndL]) fun B hB hnx=>?_
 simp only [Tryz.f13] at hB ⊢
 have hf:=few19_pure x o hl
 have hm:=may_pure x hl
 have ho:=omay_pure o
 refine K_run hB 100 ?_
 simp [go_sem,Inst.a,Opt.a,Opt.cs]
 refine K_call rfl rfl rfl (args:=[]) (f:=28) (by simp [go_sem]) (by simp [go_sem,hB]) ((awake19_pure).spec _ _) ?_
 refine K_run hB 100 ?_
 simp [go_sem]
 refine K_call rfl rfl rfl (args:=[x.a,o.a]) (f:=29) (by simp [go_sem,Inst.a,Opt.a,Opt.cs]) (by simp [go_sem,hB]) ((hf).spec _ _) ?_
 cases cf:fewO x o with
 |false=>
  refine K_run hB 100 ?_
  simp [go_sem]
 |true=>
  simp only [fewO,Bool.and_eq_true,decide_eq_true_eq] at cf
  refine K_run hB 100 ?_
  simp [go_sem]
  refine K_call rfl rfl rfl (args:=[x.a]) (f:=33) (by simp [go_sem,Inst.a]) (by simp [go_sem,hB]) ((hm).spec _ _) ?_
  cases cm:x.may with
  |false=>
   refine K_run hB 100 ?_
   simp [go_sem]
  |true=>
   refine K_run hB 100 ?_
   simp [go_sem]
   refine K_call rfl rfl rfl (args:=[o.a]) (f:=34) (by simp [go_sem,Opt.a,Opt.cs]) (by simp [go_sem,hB]) ((ho).spec _ _) ?_
   cases co:o.mayB with
   |false=>
    refine K_run hB 100 ?_
    simp [go_sem]
   |true=>
    have hs:=srun_pure x o cf.1 cf.2
    obtain ⟨k1,k2,k3,k4,k5⟩:=search_log cf.1 cm co cf.2
    generalize x.search o=r at *
    obtain ⟨st,pl,up,low,steps,Lg⟩:=r
    simp only at k1 k2 k3 k4 k5
    have l1:(logT Lg).length=Lg.length:=List.length_map _
    have w2:IntKind.i64.wrap (2*(Lg.length:Int))=2*(Lg.length:Int):=w64 _ (by omega)
    refine K_run hB 100 ?_
    simp [go_sem]
    refine K_call rfl rfl rfl (args:=[x.a,o.a]) (f:=31) (by simp [go_sem,Inst.a,Opt.a,Opt.cs]) (by simp [go_sem,hB]) ((hs).spec _ _) ?_
    refine K_run hB 100 ?_
    simp [go_sem,SRes.a]
    refine K_loopP (α:=Nat×(Nat→AObj)×Nat) (fun (k,τ,m)=>k≤Lg.length∧3≤m∧τ 0= .box [.i x.pairs,.i x.cars,.i x.room,.t (.sl (x.stops.map Stop.t))]∧τ 2= .box [.i st,.t (.sl (planT pl)),.i up,.i low,.i steps,.t (.sl (logT Lg))]) (fun (k,τ,m)=>⟨sl [(2,.ptr 0 0),(7,.ptr 2 0),(8,.i k)],τ,m⟩) (fun a=>Lg.length-a.1) (0,_,3) ⟨Nat.zero_le _,by decide,by simp [oput],by simp [oput]⟩ (Imp.slots (by simp [go_sem]) rfl rfl) ?_
    rintro ⟨k,τ,m⟩ ⟨g1,g2,g3,g4⟩
    refine K_run hB 60 ?_
    simp [go_sem,g4,l1]
    refine fork_dec (fun hk=>?_) (fun hk=>?_)
    ·have hkk:IntKind.i64.wrap ((k:Int)+1)=((k+1:Nat):Int):=by rw [w64 ((k:Int)+1) (by omega)];rfl
     have hgk:=fun h=>logT_get Lg hk h
     obtain ⟨f1,f2⟩:=k1 k hk
     have f3:=k2 k hk
     have f4:=fun i h=>k3 i k hk h
     obtain ⟨d,hd⟩:∃d,d=Lg[k]:=⟨_,rfl⟩
     rw [←hd] at hgk f1 f2 f3 f4
     obtain ⟨n,D⟩:=d
     simp only at f1 f2 f3 f4
     have hfo:=follow_pure x n.path hl (by omega)
     rw [f1] at hfo
     have hpl:(ints n.path).length=n.path.length:=List.length_map _
     have m0:¬0=m:=by omega
     have m1:¬2=m:=by omega
     simp [go_sem,g3,g4,l1,hk,hgk,Done.t,Node.t,m0,m1]
     refine K_call rfl rfl rfl (args:=[x.a,.t (.sl (ints n.path))]) (f:=37) (by simp [go_sem,Inst.a]) (by simp [go_sem,hB]) ((hfo).spec _ _) ?_
     have m2:¬m=2:=by omega
     have m3:¬m+1=2:=by omega
     have m4:¬2=m+1:=by omega
     have m5:¬0=m+1:=by omega
     refine K_run hB 100 ?_
     simp [go_sem,fol,State.a,State.cs]
     refine K_eq (op:=.neq) (t:=67) (t':=67) (x:=.tmp 63) (y:=.tmp 65) (xs:=n.s.cs) (ys:=n.s.cs) rfl rfl (by simp [go_sem,hB]) (by simp [go_sem,State.cs]) (by simp [go_sem,State.a,State.cs]) state_guard (state_eq n.s n.s) rfl ?_
     have f6:(k=0)=(n.path.length=0):=propext (decide_eq_decide.1 f3)
     refine K_run hB 100 ?_
     simp [go_sem,hpl,f6]
     refine K_loopP (α:=Nat) (fun i=>i≤k) (fun i=>⟨sl [(2,.ptr 0 0),(7,.ptr 2 0),(8,.i k),(9,.ptr m 0),(13,.i i)],_,_⟩) (fun i=>k-i) 0 (Nat.zero_le _) (Imp.slots (by simp [go_sem]) rfl rfl) ?_
     intro i hi0
     refine K_run hB 60 ?_
     simp [go_sem]
     refine fork_dec (fun hi=>?_) (fun hi=>?_)
     ·have hii:IntKind.i64.wrap ((i:Int)+1)=((i+1:Nat):Int):=by rw [w64 ((i:Int)+1) (by omega)];rfl
      have hil:i<Lg.length:=by omega
      have hgi:=fun h=>logT_get Lg hil h
      have hne:=f4 i hi
      have f7:=(k1 i hil).2
      obtain ⟨e,he⟩:∃e,e=Lg[i]:=⟨_,rfl⟩
      rw [←he] at hgi hne f7
      obtain ⟨n2,D2⟩:=e
      simp only at hne f7
      have hsa:=rsame_pure n2.path n.path (by omega) (by omega)
      rw [decide_eq_false hne] at hsa
      simp [go_sem]
      refine K_drawn [] rfl (by rw [hB];kernel_rfl) ?_
      refine K_run hB 100 ?_
      simp [go_sem,g4,m1,m4,l1,hil,hgi,Done.t,Node.t]
      refine K_dCallP rfl rfl rfl (args:=[.t (.sl (ints n2.path)),.t (.sl (ints n.path))]) (f:=38) (by simp [go_sem]) (hsa) ?_
      refine K_run hB 100 ?_
      simp [go_sem,hii]
      exact Next.mk (i+1) (by omega) (Imp.slots (by simp [go_sem]) rfl rfl) (by omega)
     ·have:i=k:=by omega
      subst this
      simp [go_sem,hkk]
      exact Next.mk (i+1,_,m+1+1) ⟨by omega,by simp only;omega,by simp [oput,m0,m5,g3],by simp [oput,m1,m4,g4]⟩ (Imp.slots (by simp [go_sem]) rfl rfl) (by simp only;omega)
    ·simp [go_sem,g4,l1,w2,k4]
end Go.Proofs.YtackfabapangdaaGreat
