/- Parts of the proof: Srch, Srch2, Srch3, Srch4, Law17e, Law15b, Srch5, Srch6, Law19, Law19b, Law19d, LogP, Pf, PfC, PfW, PfL, PfH, PfP, PfS, PfT, HoldA. -/
import Derived.Test.YtnoifgjiipgpoaaGreatMH
set_option linter.all false
set_option maxHeartbeats 4000000
set_option maxRecDepth 4000
set_option maxHeartbeats 1000000
namespace Go.Proofs.YtnoifgjiipgpoaaGreat
open Go Go.Proofs.YtnoifgjiipgpoaaGreat.R
structure Ids where
 s:Nat
 h:Nat
 q:Nat
 sb:Nat
 lg:Nat
def planT (p:List (List Int)):List (List T):=p.map rowT
def Done.t (d:Node×Diag):List T:=d.1.t++[.sl (lysT d.2.layers),.i d.2.low,.v (.bool d.2.exact),.i d.2.sure]
def logT (l:List (Node×Diag)):List (List T):=l.map Done.t
def SS.cs (x:Inst) (o:Opt) (st low:Int) (k:Ids) (s:SS):List AV:=
 [.i x.pairs,.i x.cars,.i x.room,.t (.sl (x.stops.map Stop.t)),.i o.width,.i o.order,.i o.budget,.i st,.t (.sl (planT s.plan)),.i s.up,.i low,.i s.steps,.ref k.lg,.ref k.sb,.ptr k.h 0]
structure SBox (x:Inst) (o:Opt) (st low:Int) (k:Ids) (s:SS) (σ:Nat→AObj) (nx:Nat):Prop where
 box:σ k.s= .box (s.cs x o st low k)
 subs:σ k.sb= .arr 10 (nodesT s.subs)
 log:σ k.lg= .arr 14 (logT s.log)
 sh:k.s≠k.h
 qs:k.q≠k.s∧k.q≠k.h∧k.q≠k.sb∧k.q≠k.lg
 hs:k.h≠k.sb∧k.h≠k.lg
 lt:k.s<nx∧k.h<nx∧k.q<nx∧k.sb<nx∧k.lg<nx
structure Runs (k:Ids) (σ:Nat→AObj) (nx:Nat) (k':Ids) (σ':Nat→AObj) (nx':Nat):Prop where
 le:nx≤nx'
 s:k'.s=k.s
 h:k'.h=k.h
 q:k'.q=k.q∨nx≤k'.q
 sb:k'.sb=k.sb∨nx≤k'.sb
 lg:k'.lg=k.lg∨nx≤k'.lg
 keep:∀i,i<nx→i≠k.s→i≠k.h→i≠k.q→i≠k.sb→i≠k.lg→σ' i=σ i
theorem Runs.refl (k:Ids) (σ:Nat→AObj) (nx:Nat):Runs k σ nx k σ nx:=⟨Nat.le_refl _,rfl,rfl,.inl rfl,.inl rfl,.inl rfl,fun _ _ _ _ _ _ _=>rfl⟩
theorem Runs.trans {k k1 k2:Ids} {σ σ1 σ2:Nat→AObj} {nx nx1 nx2:Nat} (h:Runs k σ nx k1 σ1 nx1) (g:Runs k1 σ1 nx1 k2 σ2 nx2):Runs k σ nx k2 σ2 nx2:=by
 have:=h.le
 have:=h.q
 have:=h.sb
 have:=h.lg
 have:=g.q
 have:=g.sb
 have:=g.lg
 have h1:=h.s
 have h2:=h.h
 refine ⟨Nat.le_trans h.le g.le,g.s.trans h.s,g.h.trans h.h,by omega,by omega,by omega,fun i hi a b c d e=>?_⟩
 rw [g.keep i (by omega) (by omega) (by omega) (by omega) (by omega) (by omega),h.keep i hi a b c d e]
def Only (b:Nat) (σ:Nat→AObj) (nx:Nat) (σ':Nat→AObj) (nx':Nat):Prop:=nx≤nx'∧∀i,i<nx→i≠b→σ' i=σ i
theorem Only.runs {k:Ids} {σ σ':Nat→AObj} {nx nx':Nat} (h:Only k.s σ nx σ' nx'):Runs k σ nx k σ' nx':=⟨h.1,rfl,rfl,.inl rfl,.inl rfl,.inl rfl,fun i a b _ _ _ _=>h.2 i a b⟩
structure SOk (x:Inst) (o:Opt) (k:Ids) (s:SS) (σ:Nat→AObj) (nx:Nat):Prop where
 b:SBox x o 0 0 k s σ nx
 q:∃l,σ k.h= .box [.ref k.q,.i o.order]∧σ k.q= .arr 4 (itemsT o.order l)∧l.Perm s.q∧HeapOK o.order l
theorem SOk.only {x:Inst} {o:Opt} {k:Ids} {s t:SS} {σ σ':Nat→AObj} {nx nx':Nat} (h:SOk x o k s σ nx) (hb:SBox x o 0 0 k t σ' nx') (hq:t.q=s.q) (ho:Only k.s σ nx σ' nx'):SOk x o k t σ' nx':=by
 obtain ⟨l,h1,h2,h3,h4⟩:=h.q
 have:=h.b.lt
 have:=h.b.sh
 have:=h.b.qs
 exact ⟨hb,l,by rw [ho.2 _ (by omega) (by omega)];exact h1,by rw [ho.2 _ (by omega) (by omega)];exact h2,by rw [hq];exact h3,h4⟩
theorem SOk.stay {x:Inst} {o:Opt} {k:Ids} {s:SS} {σ σ':Nat→AObj} {nx nx':Nat} (h:SOk x o k s σ nx) (h1:nx≤nx') (h2:∀i,i<nx→σ' i=σ i):SOk x o k s σ' nx'∧Runs k σ nx k σ' nx':=by
 obtain ⟨⟨b1,b2,b3,b4,b5,b6,b7⟩,l,q1,q2,q3,q4⟩:=h
 refine ⟨⟨⟨?_,?_,?_,b4,b5,b6,by omega⟩,l,?_,?_,q3,q4⟩,h1,rfl,rfl,.inl rfl,.inl rfl,.inl rfl,fun i hi _ _ _ _ _=>h2 i hi⟩
 all_goals rw [h2 _ (by omega)];assumption
theorem offer_spec (x:Inst) (o:Opt) (st low:Int) (k:Ids) (s:SS) (n:Node) (is:Bool) (hp:n.path.length<2^31) {σ:Nat→AObj} {nx:Nat} (hb:SBox x o st low k s σ nx):
  CallQ P 43 [.ptr k.s 0,n.a,.b is] σ nx fun r σ' nx'=>r= .tup []∧SBox x o st low k (s.offer (n,is)) σ' nx'∧Only k.s σ nx σ' nx':=by
 refine spec_of Tryz.func43 rfl rfl (by simp [Tryz.f43]) fun B hB hnx hσB=>?_
 simp only [Tryz.f43] at hB ⊢
 obtain ⟨b1,b2,b3,b4,b5,b6,b7⟩:=hb
 rw [SS.cs] at b1
 have hne:¬k.s=nx:=by omega
 have hne':¬nx=k.s:=by omega
 have hsp:=split_pure n.path hp
 have fin:∀(τ:Nat→AObj) (nx':Nat) (t:SS),nx≤nx'→τ k.s= .box (t.cs x o st low k)→t.subs=s.subs→t.log=s.log→(∀i,i<nx→i≠k.s→τ i=σ i)→SBox x o st low k t τ nx'∧Only k.s σ nx τ nx':=fun τ nx' t h1 h2 h3 h4 h5=>by
  have e1:k.sb≠k.s:=fun e=>by rw [e,b1] at b2;cases b2
  have e2:k.lg≠k.s:=fun e=>by rw [e,b1] at b3;cases b3
  exact ⟨⟨h2,by rw [h3,h5 _ (by omega) e1];exact b2,by rw [h4,h5 _ (by omega) e2];exact b3,b4,b5,b6,by omega⟩,h1,h5⟩
 cases is with
 |false=>
  have e0:s.offer (n,false)=s:=by simp [SS.offer]
  rw [e0]
  refine K_run hB 100 ?_
  simp [go_sem,Node.a,Node.cs,b1,hne]
  refine K_drawn [] rfl (by rw [hB];kernel_rfl) ?_
  refine K_run hB 100 ?_
  simp [go_sem,b1,hne]
  exact fin _ _ _ (by omega) (by simp [oput,hne,b1,SS.cs]) rfl rfl fun i h1 h2=>by simp [oput,show ¬i=nx by omega]
 |true=>
  refine K_run hB 100 ?_
  simp [go_sem,Node.a,Node.cs,b1,hne]
  refine K_drawn [] rfl (by rw [hB];kernel_rfl) ?_
  by_cases c:n.cost<s.up
  ·have e0:s.offer (n,true)={s with up:=n.cost,plan:=(splitR n.path).1}:=by rw [SS.offer,if_pos ⟨rfl,c⟩]
   rw [e0]
   refine K_run hB 100 ?_
   simp [go_sem,b1,hne,hne',c]
   refine K_call rfl rfl rfl (args:=[.t (.sl (ints n.path))]) (f:=72) (by simp [go_sem]) (by simp [go_sem,hB]) ((hsp).spec _ _) ?_
   refine K_run hB 100 ?_
   simp [go_sem,b1,hne,hne',c]
   exact fin _ _ {s with up:=n.cost,plan:=(splitR n.path).1} (by omega) (by simp [oput,hne,SS.cs,planT]) rfl rfl fun i h1 h2=>by simp [oput,show ¬i=nx by omega,h2]
  ·have e0:s.offer (n,true)=s:=by rw [SS.offer,if_neg (fun h=>c h.2)]
   rw [e0]
   refine K_run hB 100 ?_
   simp [go_sem,b1,hne,c]
   exact fin _ _ _ (by omega) (by simp [oput,hne,b1,SS.cs]) rfl rfl fun i h1 h2=>by simp [oput,show ¬i=nx by omega]
theorem push_spec (x:Inst) (o:Opt) (k:Ids) (s:SS) (n:Node) (low:Int) (hx:x.stops.length<2^31) (ho:n.s.ok) (hp:n.path.length<2^31) (hs1:s.subs.length<2^30) (hs2:s.q.length<2^30) {σ:Nat→AObj} {nx:Nat} (hb:SOk x o k s σ nx):
  CallQ P 20 [.ptr k.s 0,n.a,.i low] σ nx fun r σ' nx'=>r= .tup []∧∃k',SOk x o k' (x.push low s n) σ' nx'∧Runs k σ nx k' σ' nx':=by
 refine spec_of Tryz.func20 rfl rfl (by simp [Tryz.f20]) fun B hB hnx hσB=>?_
 simp only [Tryz.f20] at hB ⊢
 have hb0:=hb
 obtain ⟨⟨b1,b2,b3,b4,b5,b6,b7⟩,l,q1,q2,q3,q4⟩:=hb
 rw [SS.cs] at b1
 have hne:¬k.s=nx:=by omega
 have hne':¬nx=k.s:=by omega
 have hne2:¬k.sb=nx:=by omega
 have hof:=of_pure x n hx ho
 have hll:=q3.length_eq
 have hil:(ints n.path).length=n.path.length:=List.length_map _
 have hnl:(nodesT s.subs).length=s.subs.length:=List.length_map _
 obtain ⟨b,hbv⟩:∃b,b=max low (x.of n):=⟨_,rfl⟩
 have hsk:=push_or x low s n
 rw [←hbv] at hsk
 have hpu:=fun (τ:Nat→AObj) (m:Nat)=>hput_spec o.order l ⟨b,n.path.length,s.subs.length⟩ (by omega) (σ:=τ) (nx:=m) (h:=k.h) (q:=k.q)
 have hne3:¬k.h=nx:=by omega
 have hne4:¬k.q=nx:=by omega
 refine K_run hB 100 ?_
 simp [go_sem,Node.a,Node.cs,b1,hne]
 refine K_drawn [] rfl (by rw [hB];kernel_rfl) ?_
 refine K_run hB 100 ?_
 simp [go_sem,Inst.a,b1,hne]
 refine K_dCallP rfl rfl rfl (args:=[x.a,n.a]) (f:=39) (by simp [go_sem,Inst.a,Node.a,Node.cs]) (hof) ?_
 by_cases c:s.up≤b
 ·have e0:x.push low s n=s:=by rcases hsk with ⟨h1,_⟩ | ⟨h1,_⟩<;>first | exact h1 | omega
  rw [e0]
  refine K_run hB 100 ?_
  simp [go_sem,b1,hne,←hbv,c]
  exact ⟨k,hb0.stay (by omega) fun i hi=>by simp [oput,show ¬i=nx by omega]⟩
 ·have e0:x.push low s n={s with q:=s.q++[⟨b,n.path.length,s.subs.length⟩],subs:=s.subs++[n]}:=by rcases hsk with ⟨h1,h2⟩ | ⟨_,h1⟩<;>first | exact h1 | omega
  rw [e0]
  refine K_run hB 100 ?_
  simp [go_sem,b1,hne,←hbv,c]
  refine K_drawnZ [] 14 _ rfl (by rw [hB];kernel_rfl) (by kernel_rfl) rfl ?_
  refine K_run hB 100 ?_
  simp [go_sem,b1,b2,hne,hne2,hil,hnl]
  refine K_callQ rfl rfl rfl (args:=[.ptr k.h 0,.agg [.i b,.i n.path.length,.i s.subs.length]]) (f:=40) (by simp [go_sem]) (by simp [go_sem,hB]) (hpu _ (nx+1) (by omega) (by simp [oput,hne3,q1]) (by omega) (by simp [oput,hne4,q2])) fun r σ' nx' hq=>?_
  obtain ⟨rfl,g1,q',g2,g3,g4,g5,g6⟩:=hq
  have f0:=g6 nx (by omega) (by omega) (by omega)
  have f1:=g6 k.s (by omega) (by omega) (by omega)
  have f2:=g6 k.sb (by omega) (by omega) (by omega)
  simp only [oput,hne,hne2,if_true,if_false,b1,b2] at f0 f1 f2
  have hcap:s.subs.length+1≤mostLen:=by show _≤4294967296;omega
  have happ:nodesT s.subs++[n.t]=nodesT (s.subs++[n]):=by simp [nodesT]
  have hnl2:=nodesT_len s.subs
  have hne5:¬k.s=k.sb:=fun e=>by rw [e,b2] at b1;cases b1
  have hne6:¬k.s=nx':=by omega
  have hne7:¬nx'=k.s:=by omega
  refine K_run hB 100 ?_
  simp [go_sem]
  refine K_drawnF [7,10] [0] rfl (by rw [hB];kernel_rfl) (by kernel_rfl) fun ht hf'=>?_
  refine K_run hB 22 ?_
  simp [go_sem,ht,hf',f0,f1,f2,hne5,hne6,hne7,hcap,hnl,hnl2,Node.t]
  have hls:k.lg≠k.sb:=fun e=>by rw [e,b2] at b3;cases b3
  have hls2:k.lg≠k.s:=fun e=>by rw [e,b1] at b3;cases b3
  have hg:∀(y z:AObj) (i:Nat),i<nx'→i≠k.s→i≠k.sb→oput (oput (oput σ' k.sb .dead) nx' y) k.s z i=σ' i:=fun y z i h1 h2 h3=>by simp [oput,h2,h3,show ¬i=nx' by omega]
  have hk:∀i,i<nx→i≠k.h→i≠k.q→σ' i=σ i:=fun i h1 h2 h3=>by rw [g6 i (by omega) h2 h3];simp [oput,show ¬i=nx by omega]
  refine ⟨by omega,{k with q:=q',sb:=nx'},⟨⟨?_,?_,?_,b4,?_,?_,?_⟩,putH o.order l ⟨b,n.path.length,s.subs.length⟩,?_,?_,(putH_perm _ _ _).trans (q3.append_right _),putH_ok q4 _⟩,?_⟩
  ·simp [oput,SS.cs]
  ·simp [oput,hne7,←happ,Node.t]
  ·exact (hg _ _ _ (by omega) hls2 hls).trans ((hk _ (by omega) (by omega) (by omega)).trans b3)
  ·simp only;omega
  ·simp only;omega
  ·simp only;omega
  ·exact (hg _ _ k.h (by omega) (by omega) (by omega)).trans g4
  ·exact (hg _ _ q' (by omega) (by omega) (by omega)).trans g5
  ·exact ⟨by omega,rfl,rfl,.inr (by simp only;omega),.inr (by simp only;omega),.inl rfl,fun i h1 h2 h3 h4 h5 _=>(hg _ _ i (by omega) h2 h5).trans (hk i h1 h3 h4)⟩
end Go.Proofs.YtnoifgjiipgpoaaGreat

set_option maxRecDepth 4000
set_option maxHeartbeats 2000000
namespace Go.Proofs.YtnoifgjiipgpoaaGreat
open Go Go.Proofs.YtnoifgjiipgpoaaGreat.R
theorem logT_len (l:List (Node×Diag)):∀y∈logT l,y.length=14:=by
 intro y hy
 simp only [logT,List.mem_map] at hy
 obtain ⟨n,_,rfl⟩:=hy
 rfl
theorem lysT_get (l:List (List Node)) {k:Nat} (h:k<l.length) (h':k<(lysT l).length):(lysT l)[k]'h'=[.sl (nodesT l[k])]:=by simp [lysT]
theorem sizes_take (ls:List (List Node)) {k:Nat} (h:k<ls.length):sizes (ls.take (k+1))=sizes (ls.take k)+ls[k].length:=by
 rw [sizes,sizes,List.take_succ_eq_append_getElem h,List.map_append,List.sum_append]
 simp
theorem sizes_mono (ls:List (List Node)) (k:Nat):sizes (ls.take k)≤sizes ls:=by
 conv=>rhs;rw [←List.take_append_drop k ls]
 rw [sizes,sizes,List.map_append,List.sum_append]
 omega
theorem diagram_spec (x:Inst) (o:Opt) (k:Ids) (s:SS) (n:Node) (hx:x.stops.length<2^31) (hw:o.width≤3000) (ho:n.s.ok) (hp:n.path.length<2^29) (hl:s.log.length<2^30) (hd:(x.build n o.width s.up).layers.length<2^30) (hst:0≤s.steps∧s.steps+sizes (x.build n o.width s.up).layers<2^62) {σ:Nat→AObj} {nx:Nat} (hb:SOk x o k s σ nx):
  CallQ P 45 [.ptr k.s 0,n.a] σ nx fun r σ' nx'=>r=(x.build n o.width s.up).a∧∃k',SOk x o k' (s.dia n (x.build n o.width s.up)) σ' nx'∧Runs k σ nx k' σ' nx':=by
 refine spec_of Tryz.func45 rfl rfl (by simp [Tryz.f45]) fun B hB hnx hσB=>?_
 simp only [Tryz.f45] at hB ⊢
 have hb0:=hb
 obtain ⟨⟨b1,b2,b3,b4,b5,b6,b7⟩,l,q1,q2,q3,q4⟩:=hb
 rw [SS.cs] at b1
 have hbd:=build_pure x n o.width s.up hx hw ho hp
 generalize x.build n o.width s.up=D at *
 have hlen:(lysT D.layers).length=D.layers.length:=List.length_map _
 have ne1:¬k.s=nx:=by omega
 have ne2:¬k.s=nx+1:=by omega
 have ne3:¬k.s=nx+1+1:=by omega
 refine K_run hB 100 ?_
 simp [go_sem,Node.a,Node.cs,b1,ne1,ne2]
 refine K_drawnF [16,17] [0,1,2,3,4,5,6,7,8,9,10,11,12,13,14,15] rfl (by rw [hB];kernel_rfl) (by kernel_rfl) fun ht hf'=>?_
 refine K_run hB 100 ?_
 simp [go_sem,ht,hf',Inst.a,b1,ne1,ne2]
 refine K_dCallP rfl rfl rfl (args:=[x.a,n.a,.i o.width,.i s.up]) (f:=75) (by simp [go_sem,Inst.a,Node.a,Node.cs]) (hbd) ?_
 refine K_run hB 100 ?_
 simp [go_sem,ht,hf',Diag.a,Diag.cs,b1,ne1,ne2,ne3,hlen]
 refine K_loopP (α:=Nat×(Nat→AObj)) (fun (j,τ)=>j≤D.layers.length∧τ k.s= .box (SS.cs x o 0 0 k {s with steps:=s.steps+sizes (D.layers.take j)})∧τ nx= .box n.cs∧τ (nx+1)= .box [.fsl [],.i 0,.b false,.i 0]∧τ (nx+1+1)= .box D.cs∧∀i,i<nx→i≠k.s→τ i=σ i)
  (fun (j,τ)=>⟨sl [(0,.ptr k.s 0),(3,.ptr nx 0),(4,.ptr (nx+1) 0),(5,.ptr (nx+1+1) 0),(25,.t (.sl (lysT D.layers))),(26,.i D.layers.length),(27,.i j)],τ,nx+1+1+1⟩) (fun a=>D.layers.length-a.1) (0,_)
  ⟨Nat.zero_le _,?_,?_,?_,?_,?_⟩ (Imp.slots (by simp [go_sem]) rfl rfl) ?_
 ·simp [oput,b1,ne1,ne2,ne3,SS.cs,sizes]
 ·simp [go_sem,oput,Node.cs]
 ·simp [go_sem,oput]
 ·simp [go_sem,oput,Diag.cs]
 ·exact fun i h1 h2=>by simp [oput,show ¬i=nx by omega,show ¬i=nx+1 by omega,show ¬i=nx+1+1 by omega]
 rintro ⟨j,τ⟩ ⟨g1,g2,g3,g4,g5,g6⟩
 rw [SS.cs] at g2
 simp only at g2
 refine K_run hB 60 ?_
 simp [go_sem]
 refine fork_dec (fun hj=>?_) (fun hj=>?_)
 ·have hgj:∀h,(lysT D.layers)[j]'h=[.sl (nodesT D.layers[j])]:=fun h=>lysT_get D.layers hj h
  have hsz:=sizes_take D.layers hj
  have hmo:=sizes_mono D.layers (j+1)
  have hnl:(nodesT D.layers[j]).length=D.layers[j].length:=List.length_map _
  have wj:IntKind.i64.wrap ((j:Int)+1)=((j+1:Nat):Int):=by rw [w64 _ (by omega)];omega
  have ws:IntKind.i64.wrap (s.steps+(sizes (D.layers.take j):Int)+(D.layers[j].length:Int))=s.steps+(sizes (D.layers.take (j+1)):Int):=by rw [w64 _ (by omega)];omega
  generalize D.layers[j]=L at *
  generalize sizes (D.layers.take j)=A at *
  generalize hA':sizes (D.layers.take (j+1))=A' at *
  simp [go_sem,hlen,hj,hgj,hnl,g2,wj,ws]
  refine Next.mk (j+1,_) ⟨by omega,?_,?_,?_,?_,?_⟩ (Imp.slots (by simp [go_sem]) rfl rfl) (by simp only;omega)
  ·simp [oput,SS.cs,hA']
  ·simp [oput,ne1,g3,show ¬nx=k.s by omega]
  ·simp [oput,g4,show ¬nx+1=k.s by omega]
  ·simp [oput,g5,show ¬nx+1+1=k.s by omega]
  ·exact fun i h1 h2=>by simp [oput,h2,g6 i h1 h2]
 ·have:j=D.layers.length:=by omega
  subst this
  rw [List.take_length] at g2
  obtain ⟨A,hA⟩:∃A,A=sizes D.layers:=⟨_,rfl⟩
  rw [←hA] at g2
  have hcap:s.log.length+1≤mostLen:=by show _≤4294967296;omega
  have hll:(logT s.log).length=s.log.length:=List.length_map _
  have hl14:=logT_len s.log
  have f1:=(g6 k.lg (by omega) (fun e=>by rw [e,b1] at b3;cases b3)).trans b3
  have ne4:¬k.s=k.lg:=fun e=>by rw [←e,b1] at b3;cases b3
  have ne5:¬k.s=nx+1+1+1:=by omega
  have ne6:¬nx+1+1+1=k.s:=by omega
  have ne7:¬k.lg=nx:=by omega
  have ne8:¬nx=k.lg:=by omega
  have ne9:¬nx+1=k.lg:=by omega
  have nea:¬nx+1+1=k.lg:=by omega
  have neb:¬nx=k.s:=by omega
  have nec:¬nx+1=k.s:=by omega
  have ned:¬nx+1+1=k.s:=by omega
  have e1:=g3
  rw [Node.cs] at e1
  have e2:=g5
  rw [Diag.cs] at e2
  simp [go_sem]
  refine K_drawnF [10,14] [0] rfl (by rw [hB];kernel_rfl) (by kernel_rfl) fun ht hf'=>?_
  refine K_run hB 22 ?_
  simp [go_sem,ht,hf',g2,f1,e1,e2,g4,ne1,ne2,ne3,ne4,ne5,ne6,ne7,ne8,ne9,nea,neb,nec,ned,hcap,hll,hl14]
  have hls:k.sb≠k.lg:=fun e=>by rw [e,b3] at b2;cases b2
  have hls2:k.sb≠k.s:=fun e=>by rw [e,b1] at b2;cases b2
  have hg:∀(y z u:AObj) (i:Nat),i<nx→i≠k.s→i≠k.lg→oput (oput (oput (oput τ k.lg .dead) (nx+1+1+1) y) k.s z) (nx+1) u i=σ i:=fun y z u i h1 h2 h3=>by simp [oput,h2,h3,show ¬i=nx+1 by omega,show ¬i=nx+1+1+1 by omega,g6 i h1 h2]
  refine ⟨by omega,{k with lg:=nx+1+1+1},⟨⟨?_,?_,?_,b4,?_,?_,?_⟩,l,?_,?_,q3,q4⟩,?_⟩
  ·simp [oput,SS.cs,SS.dia,hA,ne2]
  ·exact (hg _ _ _ k.sb (by omega) hls2 hls).trans b2
  ·simp [oput,SS.dia,logT,Done.t,Node.t,show ¬nx+1+1=nx by omega,ne6]
  ·simp only;omega
  ·simp only;omega
  ·simp only;omega
  ·exact (hg _ _ _ k.h (by omega) (by omega) (by omega)).trans q1
  ·exact (hg _ _ _ k.q (by omega) (by omega) (by omega)).trans q2
  ·exact ⟨by omega,rfl,rfl,.inl rfl,.inl rfl,.inr (by simp only;omega),fun i h1 h2 h3 h4 h5 h6=>hg _ _ _ i h1 h2 h6⟩
end Go.Proofs.YtnoifgjiipgpoaaGreat

set_option maxRecDepth 4000
set_option maxHeartbeats 2000000
namespace Go.Proofs.YtnoifgjiipgpoaaGreat
open Go Go.Proofs.YtnoifgjiipgpoaaGreat.R
structure LFine (ls:List (List Node)):Prop where
 len:ls.length<2^30
 few:∀l∈ls,l.length<2^20
 ok:∀l∈ls,∀n∈l,n.s.ok∧n.path.length<2^29
theorem offers_take (x:Inst) (s:SS) (ls:List (List Node)) {j:Nat} (h:j<ls.length):x.offers s (ls.take (j+1))=(x.offers s (ls.take j)).offer (x.bests ls[j]):=by
 rw [Inst.offers,List.take_succ_eq_append_getElem h,List.foldl_append,List.foldl_cons,List.foldl_nil]
 rfl
theorem pushes_take (x:Inst) (low:Int) (s:SS) (l:List Node) {j:Nat} (h:j<l.length):(l.take (j+1)).foldl (x.push low) s=x.push low ((l.take j).foldl (x.push low) s) l[j]:=by
 rw [List.take_succ_eq_append_getElem h,List.foldl_append,List.foldl_cons,List.foldl_nil]
theorem pushes_len (x:Inst) (low:Int):∀(l:List Node) (s:SS),(l.foldl (x.push low) s).subs.length≤s.subs.length+l.length∧(l.foldl (x.push low) s).q.length≤s.q.length+l.length
 |[],s=>⟨Nat.le_refl _,Nat.le_refl _⟩
 |n :: l,s=>by
  obtain ⟨h1,h2⟩:=pushes_len x low l (x.push low s n)
  have:(x.push low s n).subs.length≤s.subs.length+1∧(x.push low s n).q.length≤s.q.length+1:=by
   rcases push_or x low s n with ⟨e,_⟩ | ⟨_,e⟩<;>rw [e]<;>simp
  rw [List.foldl_cons,List.length_cons]
  omega
theorem branch_spec (x:Inst) (o:Opt) (k:Ids) (s:SS) (D:Diag) (hx:x.stops.length<2^31) (hd:LFine D.layers) (hs0:1≤D.sure) (hs1:D.sure≤D.layers.length) (hn1:s.subs.length<2^29) (hn2:s.q.length<2^29) {σ:Nat→AObj} {nx:Nat} (hb:SOk x o k s σ nx):
  CallQ P 47 [.ptr k.s 0,D.a] σ nx fun r σ' nx'=>r= .tup []∧∃k',SOk x o k' (x.branch D s) σ' nx'∧Runs k σ nx k' σ' nx':=by
 generalize hR:x.branch D s=R
 refine spec_of Tryz.func47 rfl rfl (by simp [Tryz.f47]) fun B hB hnx hσB=>?_
 simp only [Tryz.f47] at hB ⊢
 have hlt:=hb.b.lt
 have hlen:(lysT D.layers).length=D.layers.length:=List.length_map _
 obtain ⟨last,hlast⟩:∃n,n=D.sure-1:=⟨_,rfl⟩
 have w0:IntKind.i64.wrap ((D.sure:Int)-1)=(last:Int):=by have:=hd.len;rw [w64 _ (by omega)];omega
 have hll:last<D.layers.length:=by omega
 have hrow:∀y∈lysT D.layers,y.length=1:=fun y hy=>by
  simp only [lysT,List.mem_map] at hy
  obtain ⟨_,_,rfl⟩:=hy
  rfl
 have htk:((lysT D.layers).take last).length=last:=by rw [List.length_take];omega
 have hle:last≤D.layers.length:=by omega
 refine K_run hB 100 ?_
 simp [go_sem,Diag.a,Diag.cs,w0,hlen,if_pos hrow,htk,hle]
 refine K_loopP (α:=Nat×(Nat→AObj)×Nat) (fun (j,τ,m)=>j≤last∧SOk x o k (x.offers s (D.layers.take j)) τ m∧nx<m∧τ nx= .box D.cs∧Runs k σ nx k τ m)
  (fun (j,τ,m)=>⟨sl [(0,.ptr k.s 0),(3,.ptr nx 0),(4,.i last),(18,.t (.sl ((lysT D.layers).take last))),(19,.i last),(20,.i j)],τ,m⟩) (fun a=>last-a.1) (0,_,_)
  ⟨Nat.zero_le _,?_,Nat.lt_succ_self _,?_,?_⟩ (Imp.slots (by simp [go_sem]) rfl rfl) ?_
 ·exact (hb.stay (by omega) fun i hi=>by simp [oput,show ¬i=nx by omega]).1
 ·simp [go_sem,oput,Diag.cs]
 ·exact (hb.stay (by omega) fun i hi=>by simp [oput,show ¬i=nx by omega]).2
 rintro ⟨j,τ,m⟩ ⟨g1,g2,g3,g4,g5⟩
 refine K_run hB 60 ?_
 simp [go_sem]
 refine fork_dec (fun hj=>?_) (fun hj=>?_)
 ·have hgj:∀h,((lysT D.layers).take last)[j]'h=[.sl (nodesT D.layers[j])]:=fun h=>by rw [List.getElem_take];exact lysT_get D.layers (by omega) _
  have wj:IntKind.i64.wrap ((j:Int)+1)=((j+1:Nat):Int):=by have:=hd.len;rw [w64 _ (by omega)];omega
  have hof:=offers_take x s D.layers (show j<D.layers.length by omega)
  have hmem:D.layers[j]∈D.layers:=List.getElem_mem _
  have hbp:=bests_path (x:=x) (k:=2^29) fun n hn=>Nat.le_of_lt (hd.ok _ hmem n hn).2
  have hex:=expand_pure x D.layers[j] (x.offers s (D.layers.take j)).up hx (hd.few _ hmem) (fun n hn=>⟨(hd.ok _ hmem n hn).1,by have:=(hd.ok _ hmem n hn).2;omega⟩) (fun n hn=>by have:=(hd.ok _ hmem n hn).2;omega)
  generalize D.layers[j]=L at *
  generalize hS:x.offers s (D.layers.take j)=S at *
  generalize hS2:x.offers s (D.layers.take (j+1))=S2 at *
  have b1:=g2.b.box
  rw [SS.cs] at b1
  have hlt2:=g2.b.lt
  have ne1:¬k.s=m:=by omega
  have ne2:¬m=k.s:=by omega
  obtain ⟨bn,bi,hbk⟩:∃bn bi,x.bests L=(bn,bi):=⟨_,_,rfl⟩
  rw [hbk] at hof hbp hex
  simp only at hbp
  simp [go_sem,htk,hj,hgj]
  refine K_drawnF [15,17] [0,1,2,3,4,5,6,7,8,9,10,11,12,13,14] rfl (by rw [hB];kernel_rfl) (by kernel_rfl) fun ht hf'=>?_
  refine K_run hB 100 ?_
  simp [go_sem,ht,hf',b1,ne1,ne2,Inst.a]
  refine K_dCallP rfl rfl rfl (args:=[x.a,.t (.sl (nodesT L)),.i S.up]) (f:=73) (by simp [go_sem,Inst.a]) (hex) ?_
  refine K_run hB 100 ?_
  simp [go_sem,ht,hf',b1,ne1,ne2,expRes,Node.a,Node.cs]
  have hb':=fun τ' (h:∀i,i<m→τ' i=τ i)=>g2.stay (σ':=τ') (nx':=m+1) (by omega) h
  refine K_callQ rfl rfl rfl (args:=[.ptr k.s 0,bn.a,.b bi]) (f:=43) (by simp [go_sem,Node.a,Node.cs]) (by simp [go_sem,hB]) (offer_spec x o 0 0 k S bn bi (Nat.lt_of_le_of_lt hbp (by decide)) (nx:=m+1) (hb' _ fun i hi=>by simp [oput,show ¬i=m by omega]).1.b) fun r σ' nx' hq=>?_
  obtain ⟨rfl,c1,c2⟩:=hq
  have hτ:∀i,i<m→i≠k.s→σ' i=τ i:=fun i h1 h2=>by rw [c2.2 i (by omega) h2];simp [oput,show ¬i=m by omega]
  have c4:=c2.1
  refine K_run hB 100 ?_
  simp [go_sem,wj]
  refine Next.mk (j+1,σ',nx') ⟨by omega,?_,?_,?_,?_⟩ (Imp.slots (by simp [go_sem]) rfl rfl) (by simp only;omega)
  ·show SOk x o k (x.offers s (D.layers.take (j+1))) σ' nx'
   rw [hS2,hof]
   exact g2.only c1 (offer_up S (bn,bi)).2.2.1 ⟨by omega,hτ⟩
  ·simp only;omega
  ·exact (hτ _ g3 (by omega)).trans g4
  ·show Runs k σ nx k σ' nx'
   exact g5.trans (Only.runs ⟨by omega,hτ⟩)
 ·have:j=last:=by omega
  subst this
  have e4:=g4
  rw [Diag.cs] at e4
  generalize hS:x.offers s (D.layers.take j)=S at *
  have hgl:∀h,(lysT D.layers)[j]'h=[.sl (nodesT D.layers[j])]:=fun h=>lysT_get D.layers hll h
  have hR2:(D.layers[j]).foldl (x.push D.low) S=R:=by
   rw [←hR,Inst.branch,←hlast,hS,List.getD_eq_getElem?_getD,List.getElem?_eq_getElem hll]
   rfl
  have hmem:D.layers[j]∈D.layers:=List.getElem_mem _
  have hL1:=hd.few _ hmem
  have hL2:=hd.ok _ hmem
  generalize D.layers[j]=L at *
  have hnl:(nodesT L).length=L.length:=List.length_map _
  simp [go_sem,e4,hlen,hll,hgl,hnl]
  refine K_loopP (α:=Nat×Ids×(Nat→AObj)×Nat) (fun (i,k',τ1,m1)=>i≤L.length∧SOk x o k' ((L.take i).foldl (x.push D.low) S) τ1 m1∧nx<m1∧τ1 nx= .box D.cs∧Runs k τ m k' τ1 m1)
   (fun (i,k',τ,m)=>⟨sl [(0,.ptr k.s 0),(3,.ptr nx 0),(48,.t (.sl (nodesT L))),(49,.i L.length),(50,.i i)],τ,m⟩) (fun a=>L.length-a.1) (0,k,τ,m)
   ⟨Nat.zero_le _,g2,g3,g4,Runs.refl _ _ _⟩ (Imp.slots (by simp [go_sem]) rfl rfl) ?_
  rintro ⟨i,k',τ',m'⟩ ⟨i1,i2,i3,i4,i5⟩
  refine K_run hB 60 ?_
  simp [go_sem]
  refine fork_dec (fun hi=>?_) (fun hi=>?_)
  ·have hgi:∀h,(nodesT L)[i]'h=L[i].t:=fun h=>nodesT_get L hi
   have wi:IntKind.i64.wrap ((i:Int)+1)=((i+1:Nat):Int):=by rw [w64 _ (by omega)];omega
   have hpt:=pushes_take x D.low S L hi
   obtain ⟨hp1,hp2⟩:=pushes_len x D.low (L.take i) S
   obtain ⟨ho1,ho2⟩:=hL2 L[i] (List.getElem_mem _)
   have htl:(L.take i).length≤2^20:=by rw [List.length_take];omega
   generalize L[i]=n at *
   generalize (L.take i).foldl (x.push D.low) S=S1 at *
   generalize hS2:(L.take (i+1)).foldl (x.push D.low) S=S2 at *
   rw [Diag.cs] at i4
   have hss:S.subs=s.subs∧S.q=s.q:=by
    have:=offers_up x (D.layers.take j) s
    rw [hS] at this
    exact ⟨this.2.1,this.2.2.1⟩
   rw [hss.1] at hp1
   rw [hss.2] at hp2
   have ne1:¬nx=m':=by omega
   have es:k'.s=k.s:=i5.s
   have hb':=fun τ1 (h:∀i,i<m'→τ1 i=τ' i)=>i2.stay (σ':=τ1) (nx':=m'+1) (by omega) h
   simp [go_sem,hnl,hi,hgi,Node.t,i4,ne1]
   refine K_callQ rfl rfl rfl (args:=[.ptr k'.s 0,n.a,.i D.low]) (f:=20) (by simp [go_sem,Node.a,Node.cs,es]) (by simp [go_sem,hB]) (push_spec x o k' S1 n D.low hx ho1 (by omega) (by omega) (by omega) (nx:=m'+1) (hb' _ fun i hi=>by simp [oput,show ¬i=m' by omega]).1) fun r σ' nx' hq=>?_
   obtain ⟨rfl,k2,c1,c2⟩:=hq
   have hr:=(hb' _ fun i hi=>by simp only [oput];rw [if_neg (show ¬i=m' by omega),if_neg (show ¬i=m' by omega)]).2.trans c2
   have h0:=i2.b.lt
   have h1:=i5.q
   have h2:=i5.sb
   have h3:=i5.lg
   have h4:=i5.h
   have h5:=hb.b.lt
   have hkn:σ' nx=τ' nx:=by rw [hr.keep nx i3 (by omega) (by omega) (by omega) (by omega) (by omega)]
   have hle:=hr.le
   refine K_run hB 100 ?_
   simp [go_sem,wi]
   refine Next.mk (i+1,k2,σ',nx') ⟨by omega,?_,?_,?_,?_⟩ (Imp.slots (by simp [go_sem]) rfl rfl) (by simp only;omega)
   ·show SOk x o k2 ((L.take (i+1)).foldl (x.push D.low) S) σ' nx'
    rw [hS2,hpt]
    exact c1
   ·simp only;omega
   ·exact hkn.trans (i4.trans (by rw [Diag.cs]))
   ·exact i5.trans hr
  ·have:i=L.length:=by omega
   subst this
   rw [List.take_length,hR2] at i2
   simp [go_sem]
   exact ⟨by omega,k',i2,g5.trans i5⟩
end Go.Proofs.YtnoifgjiipgpoaaGreat

set_option maxRecDepth 4000
set_option maxHeartbeats 4000000
namespace Go.Proofs.YtnoifgjiipgpoaaGreat
open Go Go.Proofs.YtnoifgjiipgpoaaGreat.R
structure LookPre (x:Inst) (w:Int) (n:Node):Prop where
 st:x.stops.length<2^31
 wi:w≤3000
 ok:n.s.ok
 path:n.path.length<2^28
 nar:∀up,0≤(x.narrow n w up).2.2∧(x.narrow n w up).2.2<2^40∧(x.narrow n w up).1.path.length<2^31
 lay:∀up,LFine (x.build n w up).layers∧sizes (x.build n w up).layers<2^40
 most:x.mostN w<2^20
 exa:∀up,0≤(x.exact n up (x.mostN w)).2.2.2∧(x.exact n up (x.mostN w)).2.2.2<2^40∧(x.exact n up (x.mostN w)).1.path.length<2^31
structure SPre (s:SS):Prop where
 steps:0≤s.steps∧s.steps<2^60
 subs:s.subs.length<2^29
 q:s.q.length<2^29
 log:s.log.length<2^29
theorem SOk.turn {x:Inst} {o:Opt} {k:Ids} {s:SS} {σ:Nat→AObj} {nx:Nat} (h:SOk x o k s σ nx) {t:SS} {τ:Nat→AObj} {nx':Nat} (h1:τ k.s= .box (t.cs x o 0 0 k)) (h2:t.subs=s.subs) (h3:t.q=s.q) (h4:t.log=s.log) (ho:Only k.s σ nx τ nx'):SOk x o k t τ nx':=by
 obtain ⟨b1,b2,b3,b4,b5,b6,b7⟩:=h.b
 rw [SS.cs] at b1
 have e1:k.sb≠k.s:=fun e=>by rw [e,b1] at b2;cases b2
 have e2:k.lg≠k.s:=fun e=>by rw [e,b1] at b3;cases b3
 have:=ho.1
 exact h.only ⟨h1,by rw [h2,ho.2 _ (by omega) e1];exact b2,by rw [h4,ho.2 _ (by omega) e2];exact b3,b4,b5,b6,by omega⟩ h3 ho
theorem slook_spec (x:Inst) (o:Opt) (k:Ids) (s:SS) (n:Node) (hp:LookPre x o.width n) (hs:SPre s) {σ:Nat→AObj} {nx:Nat} (hb:SOk x o k s σ nx):
  CallQ P 24 [.ptr k.s 0,n.a] σ nx fun r σ' nx'=>r= .tup []∧∃k',SOk x o k' (x.lookS o.width s n) σ' nx'∧Runs k σ nx k' σ' nx':=by
 generalize hR:x.lookS o.width s n=R
 refine spec_of Tryz.func24 rfl rfl (by simp [Tryz.f24]) fun B hB hnx hσB=>?_
 simp only [Tryz.f24] at hB ⊢
 have hlt:=hb.b.lt
 have b1:=hb.b.box
 rw [SS.cs] at b1
 have hn:=nbest_pure x n o.width s.up hp.st hp.wi hp.ok (by have:=hp.path;omega)
 obtain ⟨p1,p2,p3⟩:=hp.nar s.up
 have hst:=hs.steps
 rw [Inst.lookS,SS.nar] at hR
 rw [naRes] at hn
 generalize (x.narrow n o.width s.up).2.2=v at *
 generalize (x.narrow n o.width s.up).2.1=bi at *
 generalize (x.narrow n o.width s.up).1=bn at *
 have ne1:¬k.s=nx:=by omega
 have ne2:¬k.s=nx+1:=by omega
 have ne3:¬nx=k.s:=by omega
 have ne4:¬nx+1=k.s:=by omega
 have w1:IntKind.i64.wrap (s.steps+v)=s.steps+v:=w64 _ (by omega)
 refine K_run hB 100 ?_
 simp [go_sem,Node.a,Node.cs,b1,ne1]
 refine K_drawnF [20,21] [0,1,2,3,4,5,6,7,8,9,10,11,12,13,14,15,16,17,18,19] rfl (by rw [hB];kernel_rfl) (by kernel_rfl) fun ht hf'=>?_
 refine K_run hB 100 ?_
 simp [go_sem,ht,hf',Inst.a,b1,ne1]
 refine K_dCallP rfl rfl rfl (args:=[x.a,n.a,.i o.width,.i s.up]) (f:=44) (by simp [go_sem,Inst.a,Node.a,Node.cs]) (hn) ?_
 refine K_run hB 100 ?_
 simp [go_sem,ht,hf',Inst.a,b1,ne1,ne2,ne3,ne4,w1,Node.a,Node.cs]
 have hs1:=fun (τ:Nat→AObj) (h1:τ k.s= .box ((s.plus v).cs x o 0 0 k)) (h2:∀i,i<nx→i≠k.s→τ i=σ i)=>hb.turn (t:=s.plus v) (nx':=nx+1+1) h1 rfl rfl rfl ⟨by omega,h2⟩
 refine K_callQ rfl rfl rfl (args:=[.ptr k.s 0,bn.a,.b bi]) (f:=43) (by simp [go_sem,Node.a,Node.cs]) (by simp [go_sem,hB]) (offer_spec x o 0 0 k (s.plus v) bn bi p3 (nx:=nx+1+1) (hs1 _ (by simp [oput,SS.cs,SS.plus]) fun i h1 h2=>by simp [oput,h2,show ¬i=nx by omega,show ¬i=nx+1 by omega]).b) fun r σ2 nx2 hq=>?_
 obtain ⟨rfl,c1,c2⟩:=hq
 have c3:=(hs1 _ (by simp [oput,SS.cs,SS.plus]) fun i h1 h2=>by simp only [oput];rw [if_neg h2,if_neg (show ¬i=nx+1 by omega),if_neg (show ¬i=nx+1 by omega),if_neg (show ¬i=nx by omega)]).only c1 (offer_up (s.plus v) (bn,bi)).2.2.1 c2
 have hle2:=c2.1
 have n2:σ2 nx= .box n.cs:=by rw [c2.2 nx (by omega) ne3];simp [oput,ne3,Node.cs]
 have r2:Runs k σ nx k σ2 nx2:=Only.runs ⟨by omega,fun i h1 h2=>by rw [c2.2 i (by omega) h2];simp [oput,h2,show ¬i=nx by omega,show ¬i=nx+1 by omega]⟩
 have hpre:((s.plus v).offer (bn,bi)).subs=s.subs∧((s.plus v).offer (bn,bi)).q=s.q∧((s.plus v).offer (bn,bi)).log=s.log∧((s.plus v).offer (bn,bi)).steps=s.steps+v:=(offer_up (s.plus v) (bn,bi)).2
 generalize (s.plus v).offer (bn,bi)=t at *
 obtain ⟨y1,y2,y3,y4⟩:=hpre
 have:=hs.subs
 have:=hs.q
 have:=hs.log
 obtain ⟨l1,l2⟩:=hp.lay t.up
 have hdok:=build_ok x n o.width t.up
 have hds:=hdok.pos
 have hds2:=hdok.le
 rw [Node.cs] at n2
 refine K_run hB 100 ?_
 simp [go_sem,n2]
 refine K_callQ rfl rfl rfl (args:=[.ptr k.s 0,n.a]) (f:=45) (by simp [go_sem,Node.a,Node.cs]) (by simp [go_sem,hB]) (diagram_spec x o k t n hp.st hp.wi hp.ok (by have:=hp.path;omega) (by rw [y3];omega) l1.len (by omega) (σ:=σ2) (nx:=nx2) c3) fun r σ3 nx3 hq=>?_
 obtain ⟨rfl,k3,d1,d2⟩:=hq
 have hle3:=d2.le
 have n3:σ3 nx=σ2 nx:=d2.keep nx (by omega) (by omega) (by omega) (by omega) (by omega) (by omega)
 rw [n2] at n3
 rw [Inst.lookD] at hR
 generalize hD:x.build n o.width t.up=D at *
 have r3:=r2.trans d2
 have z1:=r3.s
 have z2:=d2.q
 have z3:=d2.sb
 have z4:=d2.lg
 have z5:=d2.h
 have hlt3:=d1.b.lt
 have b3:=d1.b.box
 rw [SS.cs,z1] at b3
 have hup:(t.dia n D).up=t.up:=rfl
 have hts:(t.dia n D).steps=t.steps+sizes D.layers:=rfl
 have htu:(t.dia n D).subs=t.subs∧(t.dia n D).q=t.q:=⟨rfl,rfl⟩
 rw [hup,hts] at b3
 have m1:¬k.s=nx3:=by omega
 have m2:¬nx=nx3:=by omega
 have m3:¬nx3=k.s:=by omega
 refine K_run hB 100 ?_
 simp [go_sem,Diag.a,Diag.cs]
 refine K_drawn [] rfl (by rw [hB];kernel_rfl) ?_
 by_cases ca:t.up≤D.low
 ·rw [if_pos ca] at hR
  subst hR
  refine K_run hB 100 ?_
  simp [go_sem,b3,m1,ca]
  have hfin:=d1.stay (σ':=oput (oput σ3 nx3 (.box [.fsl [],.i 0,.b false,.i 0])) nx3 (.box D.cs)) (nx':=nx3+1) (by omega) fun i hi=>by simp [oput,show ¬i=nx3 by omega]
  rw [Diag.cs] at hfin
  exact ⟨by omega,k3,hfin.1,r3.trans hfin.2⟩
 rw [if_neg ca] at hR
 by_cases cb:D.exact=true
 ·rw [if_pos cb] at hR
  have he:=best_pure x n t.up (x.mostN o.width) hp.st (by have:=hp.most;omega) hp.ok (by have:=hp.path;omega)
  obtain ⟨u1,u2,u3⟩:=hp.exa t.up
  have hmx:max o.width (x.stops.length:Int)=(x.mostN o.width:Int):=by unfold Inst.mostN;omega
  rw [SS.exa,hup] at hR
  rw [exRes4] at he
  generalize (x.exact n t.up (x.mostN o.width)).2.2.2=ve at *
  generalize (x.exact n t.up (x.mostN o.width)).2.2.1=vw at *
  generalize (x.exact n t.up (x.mostN o.width)).2.1=ei at *
  generalize (x.exact n t.up (x.mostN o.width)).1=en at *
  have g1:¬k.s=nx3+1:=by omega
  have g2:¬nx=nx3+1:=by omega
  have g3:¬nx3+1=k.s:=by omega
  have g4:¬nx=k.s:=by omega
  have w2:IntKind.i64.wrap (t.steps+(sizes D.layers:Int)+ve)=t.steps+(sizes D.layers:Int)+ve:=w64 _ (by omega)
  refine K_run hB 100 ?_
  simp [go_sem,b3,m1,ca,cb]
  refine K_drawnF [28,29] [0,1,2,3,4,5,6,7,8,9,10,11,12,13,14,15,16,17,18,19,20,21,22,23,24,25,26,27] rfl (by rw [hB];kernel_rfl) (by kernel_rfl) fun ht hf'=>?_
  refine K_run hB 100 ?_
  simp [go_sem,ht,hf',Inst.a,b3,n3,m1,m2,hmx]
  refine K_dCallP rfl rfl rfl (args:=[x.a,n.a,.i t.up,.i (x.mostN o.width)]) (f:=46) (by simp [go_sem,Inst.a,Node.a,Node.cs]) (he) ?_
  refine K_run hB 100 ?_
  simp [go_sem,ht,hf',Inst.a,b3,n3,m1,m2,m3,g1,g2,g3,g4,hmx,w2,Node.a,Node.cs]
  have hs4:=fun (τ:Nat→AObj) (h1:τ k.s= .box (((t.dia n D).plus ve).cs x o 0 0 k3)) (h2:∀i,i<nx3→i≠k.s→τ i=σ3 i)=>d1.turn (t:=(t.dia n D).plus ve) (τ:=τ) (nx':=nx3+1+1) (by rw [z1];exact h1) rfl rfl rfl ⟨by omega,by rw [z1];exact h2⟩
  refine K_callQ rfl rfl rfl (args:=[.ptr k.s 0,en.a,.b ei]) (f:=43) (by simp [go_sem,Node.a,Node.cs]) (by simp [go_sem,hB]) (z1 ▸ offer_spec x o 0 0 k3 ((t.dia n D).plus ve) en ei u3 (nx:=nx3+1+1) (hs4 _ (by simp [oput,SS.cs,SS.plus,hup,hts]) fun i h1 h2=>by simp [oput,h2,show ¬i=nx3 by omega,show ¬i=nx3+1 by omega]).b) fun r σ4 nx4 hq=>?_
  obtain ⟨rfl,e1,e2⟩:=hq
  have e3:=fun (τ:Nat→AObj) (hτ:Only k.s τ (nx3+1+1) σ4 nx4) h1 h2=>(hs4 τ h1 h2).only e1 (offer_up ((t.dia n D).plus ve) (en,ei)).2.2.1 (by rw [z1];exact hτ)
  have e4:=e3 _ e2 (by simp [oput,SS.cs,SS.plus,hup,hts]) fun i h1 h2=>by simp only [oput];rw [if_neg h2,if_neg (show ¬i=nx3+1 by omega),if_neg (show ¬i=nx3+1 by omega),if_neg (show ¬i=nx3 by omega),if_neg (show ¬i=nx3 by omega)]
  have e5:=e2.1
  have e6:Only k3.s σ3 nx3 σ4 nx4:=⟨by omega,fun i h1 h2=>by rw [z1] at h2;rw [e2.2 i (by omega) h2];simp [oput,h2,show ¬i=nx3 by omega,show ¬i=nx3+1 by omega]⟩
  rw [hR] at e4
  refine K_run hB 100 ?_
  simp [go_sem]
  exact ⟨by omega,k3,e4,r3.trans e6.runs⟩
 ·rw [if_neg cb] at hR
  have hcb:D.exact=false:=by simpa using cb
  refine K_run hB 100 ?_
  simp [go_sem,b3,m1,ca,hcb]
  have hfin:=d1.stay (σ':=oput (oput σ3 nx3 (.box [.fsl [],.i 0,.b false,.i 0])) nx3 (.box D.cs)) (nx':=nx3+1) (by omega) fun i hi=>by simp [oput,show ¬i=nx3 by omega]
  rw [Diag.cs,hcb] at hfin
  refine K_callQ rfl rfl rfl (args:=[.ptr k.s 0,D.a]) (f:=47) (by simp [go_sem,Diag.a,Diag.cs,hcb]) (by simp [go_sem,hB]) (z1 ▸ branch_spec x o k3 (t.dia n D) D hp.st l1 (by omega) (by omega) (by rw [htu.1,y1];omega) (by rw [htu.2,y2];omega) hfin.1) fun r σ4 nx4 hq=>?_
  obtain ⟨rfl,k4,e1,e2⟩:=hq
  have e3:=(r3.trans hfin.2).trans e2
  rw [hR] at e1
  refine K_run hB 100 ?_
  simp [go_sem]
  exact ⟨e3.le,k4,e1,e3⟩
end Go.Proofs.YtnoifgjiipgpoaaGreat

set_option maxRecDepth 4000
set_option maxHeartbeats 1000000
namespace Go.Proofs.YtnoifgjiipgpoaaGreat
open Go Go.Proofs.YtnoifgjiipgpoaaGreat.R
theorem buildGo_fine {x:Inst} (w up dp:Int):∀(f:Nat) (ls:List (List Node)) (low:Int) (sq:Option Nat) (l:List Node) (K:Nat),WFine l K→
  ∀k∈(x.buildGo w up dp f ls low sq l).layers,k∈ls∨(WFine k (K+f)∧(k=l∨k.length≤x.mostN w))
 |0,ls,low,sq,l,K,_,k,hk=>.inl hk
 |f+1,ls,low,sq,l,K,h,k,hk=>by
  have push:k∈ls++[l]→k∈ls∨(WFine k (K+(f+1))∧(k=l∨k.length≤x.mostN w)):=fun hk=>by
   rcases List.mem_append.1 hk with hk | hk
   ·exact .inl hk
   ·rw [List.mem_singleton.1 hk]
    exact .inr ⟨⟨h.ok,fun n hn=>by have:=h.path n hn;omega⟩,.inl rfl⟩
  rw [Inst.buildGo] at hk
  split at hk
  ·exact .inl hk
  split at hk
  ·exact push hk
  split at hk
  ·rcases buildGo_fine w up dp f _ _ _ _ (K+1) (h.next up |>.squeeze w) k hk with h1 | ⟨h1,h2⟩
   ·exact push h1
   ·refine .inr ⟨⟨h1.ok,fun n hn=>by have:=h1.path n hn;omega⟩,.inr ?_⟩
    rcases h2 with rfl | h2
    ·exact squeeze_len x _ w
    ·exact h2
  ·rename_i hno
   rcases buildGo_fine w up dp f _ _ _ _ (K+1) (h.next up) k hk with h1 | ⟨h1,h2⟩
   ·exact push h1
   ·refine .inr ⟨⟨h1.ok,fun n hn=>by have:=h1.path n hn;omega⟩,.inr ?_⟩
    rcases h2 with rfl | h2
    ·omega
    ·exact h2
theorem build_fine {x:Inst} {n:Node} (ho:n.s.ok) (w up:Int):∀k∈(x.build n w up).layers,WFine k (n.path.length+41)∧(k=[n]∨k.length≤x.mostN w):=by
 intro k hk
 have hd:=deep_le x
 rcases buildGo_fine w up _ _ _ _ _ _ n.path.length ⟨fun m hm=>by rw [List.mem_singleton.1 hm];exact ho,fun m hm=>by rw [List.mem_singleton.1 hm];exact Nat.le_refl _⟩ k hk with h1 | ⟨h1,h2⟩
 ·cases h1
 ·exact ⟨⟨h1.ok,fun m hm=>by have:=h1.path m hm;omega⟩,h2⟩
end Go.Proofs.YtnoifgjiipgpoaaGreat

set_option maxRecDepth 4000
namespace Go.Proofs.YtnoifgjiipgpoaaGreat
open Go Go.Proofs.YtnoifgjiipgpoaaGreat.R
theorem exGo_path (x:Inst) (most:Int) (k:Nat):∀(d:Nat) (st:Node×Bool×Int) (l:List Node) (n:Int) {K:Nat},Level x l d K→K≤k→st.1.path.length≤k→(x.exGo most d st l n).1.path.length≤k
 |0,st,l,n,K,_,_,h=>h
 |d+1,st,l,n,K,h1,h2,h3=>by
  rw [Inst.exGo]
  split
  ·exact h3
  ·split
   ·exact h3
   ·refine exGo_path x most k d _ _ _ (h1.next st.2.2) h2 ?_
    unfold Inst.look
    split
    ·exact bests_path fun m hm=>by have:=h1.path m hm;omega
    ·exact h3
end Go.Proofs.YtnoifgjiipgpoaaGreat

set_option maxRecDepth 4000
set_option maxHeartbeats 4000000
namespace Go.Proofs.YtnoifgjiipgpoaaGreat
open Go Go.Proofs.YtnoifgjiipgpoaaGreat.R
theorem look_pre {x:Inst} {p:Nat} (hx:x.Fit p) (hm:x.may=true) (hp:p≤3) {n:Node} (ht:Track x n) {w:Int} (hw:w≤40):LookPre x w n:=by
 have hlen:=hx.len
 have hfew:=ht.few
 have hml:=meas_le x n.s
 have hmost:x.mostN w≤40:=by unfold Inst.mostN;omega
 have hlay:=fun up=>build_fine (x:=x) ht.is.ok w up
 have hdp:=(deep_meas hm).2
 have hcnt:∀up,(x.build n w up).layers.length≤41:=fun up=>by
  have:=build_count x n w up
  omega
 refine ⟨by omega,by omega,ht.is.ok,by omega,fun up=>?_,fun up=>⟨⟨by have:=hcnt up;omega,fun l hl=>?_,fun l hl m hm=>?_⟩,?_⟩,by omega,fun up=>?_⟩
 ·obtain ⟨n1,n2⟩:=narrow_steps x n w up (by omega)
  have hmu:widthN w*x.meas n.s≤3000*40:=Nat.mul_le_mul (by unfold widthN;split<;>omega) hml
  have:=narrow_path x n w up ht.is.ok
  omega
 ·rcases (hlay up l hl).2 with rfl | h
  ·simp
  ·omega
 ·have h:=(hlay up l hl).1
  exact ⟨h.ok m hm,by have:=h.path m hm;omega⟩
 ·have h:=sizes_le 41 (x.build n w up).layers fun l hl=>by
   rcases (hlay up l hl).2 with rfl | h
   ·simp
   ·omega
  have:41*(x.build n w up).layers.length≤41*41:=Nat.mul_le_mul_left _ (hcnt up)
  omega
 ·have h1:0≤(x.exact n up (x.mostN w)).2.2.2∧(x.exact n up (x.mostN w)).2.2.2≤0+3000*((x.meas n.s+1:Nat):Int):=exGo_cnt x _ (by omega) (by omega) _ _ _ _ (Int.le_refl _) (by omega)
  have h2:(x.exact n up (x.mostN w)).1.path.length≤n.path.length+41:=exGo_path x _ (n.path.length+41) _ _ _ _ (Level.root x n ht.is.ok) (by omega) (Nat.zero_le _)
  omega
theorem len_sum {α:Type} (f:α→Nat):∀(l:List α),(∀e∈l,1≤f e)→l.length≤(l.map f).sum
 |[],_=>Nat.zero_le _
 |e :: l,h=>by
  have h1:=len_sum f l fun a ha=>h a (List.mem_cons_of_mem _ ha)
  have h2:=h e List.mem_cons_self
  rw [List.length_cons,List.map_cons,List.sum_cons]
  omega
theorem Going.pre {x:Inst} {p:Nat} (hx:x.Fit p) (hm:x.may=true) (hp:p≤3) {s:SS} (h:Going x p s):SPre s:=by
 have h1:=h.small.subs
 have h2:=h.small.log
 have h3:=h.small.steps
 have h4:s.q.length≤s.mass p:=len_sum _ _ fun e he=>by
  obtain ⟨n,hn⟩:=h.inv.nos e he
  rw [getD_of hn]
  exact wt_pos hx hm hp (h.inv.track n (List.mem_of_getElem? hn))
 exact ⟨by omega,by omega,by omega,by omega⟩
def SRes.a (r:SRes):AV:=.agg [.i r.status,.t (.sl (planT r.plan)),.i r.up,.i r.low,.i r.steps,.t (.sl (logT r.log))]
def Inst.search (x:Inst) (o:Opt):SRes:=
 if x.may=true then if o.mayB=true then (x.runGo o 1850 x.start).getD ⟨0,[],inf,0,0,[]⟩ else ⟨1,[],inf,0,0,[]⟩ else ⟨0,[],inf,0,0,[]⟩
theorem search_is {x:Inst} {p:Nat} (hx:x.Fit p) (hm:x.may=true) (hp:p≤3) {o:Opt} (ho:o.mayB=true) (hw:o.width≤40):x.runGo o 1850 x.start=some (x.search o):=by
 have hg:=start_going hx hm hp
 have:=hg.small.subs
 obtain ⟨r,hr⟩:=run_ends hx hm hp o hw 1850 x.start hg (by omega)
 rw [Inst.search,if_pos hm,if_pos ho,hr]
 rfl
theorem new_spec (o:Int) {σ:Nat→AObj} {nx:Nat}:CallSpec P 19 [.i o] σ nx (.ptr nx 0) (oput σ nx (.box [.fsl [],.i o])) (nx+1):=by
 refine CallQ.spec (spec_of Tryz.func19 rfl rfl (by simp [Tryz.f19]) fun B hB hnx hσB=>?_)
 simp only [Tryz.f19] at hB ⊢
 refine K_run hB 100 ?_
 simp [go_sem]
theorem ends_spec (x:Inst) (o:Opt) (k:Ids) (s:SS) {σ:Nat→AObj} {nx:Nat} (hb:SOk x o k s σ nx):
  CallQ P 22 [.ptr k.s 0] σ nx fun r σ' nx'=>r= .agg [.i s.ends.status,.t (.sl (planT s.plan)),.i s.up,.i s.up,.i s.steps,.ref k.lg]∧nx≤nx'∧∀i,i<nx→i≠k.s→σ' i=σ i:=by
 refine spec_of Tryz.func22 rfl rfl (by simp [Tryz.f22]) fun B hB hnx hσB=>?_
 simp only [Tryz.f22] at hB ⊢
 have b1:=hb.b.box
 rw [SS.cs] at b1
 have hlt:=hb.b.lt
 have ne1:¬k.s=nx:=by omega
 have ne2:¬nx=k.s:=by omega
 by_cases c:s.up<inf
 ·have e:s.ends.status=2:=if_pos c
  have c':¬(1152921504606846976≤s.up):=by
   have:inf=1152921504606846976:=rfl
   omega
  refine K_run hB 100 ?_
  simp [go_sem,b1,ne1,ne2,c',e]
  exact fun i h1 h2=>by simp [oput,h2,show ¬i=nx by omega]
 ·have e:s.ends.status=3:=if_neg c
  have c':1152921504606846976≤s.up:=by
   have:inf=1152921504606846976:=rfl
   omega
  refine K_run hB 100 ?_
  simp [go_sem,b1,ne1,ne2,c',e]
  exact fun i h1 h2=>by simp [oput,h2,show ¬i=nx by omega]
end Go.Proofs.YtnoifgjiipgpoaaGreat

set_option maxRecDepth 4000
set_option maxHeartbeats 4000000
namespace Go.Proofs.YtnoifgjiipgpoaaGreat
open Go Go.Proofs.YtnoifgjiipgpoaaGreat.R
structure RI (x:Inst) (o:Opt) (p:Nat) (R:SRes) (f:Nat) (s:SS) (k:Ids) (τ:Nat→AObj) (m:Nat):Prop where
 run:x.runGo o f s=some R
 go:Going x p s
 ok:SOk x o k s τ m
 ids:k.s=4∧3≤k.h∧3≤k.q∧3≤k.sb∧3≤k.lg
 b0:τ 0= .box [.i x.pairs,.i x.cars,.i x.room,.t (.sl (x.stops.map Stop.t))]
 b1:τ 1= .box [.i o.width,.i o.order,.i o.budget]
 b2:τ 2= .box [.i 0,.fsl [],.i 0,.i 0,.i 0,.fsl []]
theorem RI.next {x:Inst} {o:Opt} {p:Nat} {R:SRes} {f g:Nat} {s t:SS} {k k':Ids} {τ τ':Nat→AObj} {m m':Nat} (h:RI x o p R f s k τ m) (h1:x.runGo o g t=some R) (h2:Going x p t) (h3:SOk x o k' t τ' m') (h4:Runs k τ m k' τ' m'):RI x o p R g t k' τ' m':=by
 have:=h.ids
 have:=h.ok.b.lt
 have h5:=h4.s
 have h6:=h4.h
 have:=h4.q
 have:=h4.sb
 have:=h4.lg
 refine ⟨h1,h2,h3,by omega,?_,?_,?_⟩
 ·rw [h4.keep 0 (by omega) (by omega) (by omega) (by omega) (by omega) (by omega)];exact h.b0
 ·rw [h4.keep 1 (by omega) (by omega) (by omega) (by omega) (by omega) (by omega)];exact h.b1
 ·rw [h4.keep 2 (by omega) (by omega) (by omega) (by omega) (by omega) (by omega)];exact h.b2
theorem srun_pure (x:Inst) (o:Opt) (hl:x.stops.length≤7) (hw:o.width≤40):Pure P 9 [x.a,o.a] ((x.search o).a):=by
 generalize hR:x.search o=R
 refine pure_of Tryz.func9 rfl rfl (by simp [Tryz.f9]) (by simp [bnd,bnd.bndL,Inst.a,Opt.a,Opt.cs]) (by simp [bnd,bnd.bndL,SRes.a]) fun B hB hnx=>?_
 simp only [Tryz.f9] at hB ⊢
 have hmy:=may_pure x (by omega)
 have hom:=omay_pure o
 refine K_run hB 100 ?_
 simp [go_sem,Inst.a,Opt.a,Opt.cs]
 refine K_scopeN (α:=Unit) 0 (fun _=>False) (fun _=>⟨sl [],noObj,0⟩) (fun _=>0) rfl (fun _ h=>h.elim) ?_
 intro J hJ
 refine K_run hB 100 ?_
 simp [go_sem]
 refine K_call rfl rfl rfl (args:=[x.a]) (f:=13) (by simp [go_sem,Inst.a]) (by simp [go_sem,hB]) ((hmy).spec _ _) ?_
 cases cm:x.may with
 |false=>
  rw [Inst.search,if_neg (by simp [cm])] at hR
  subst hR
  refine K_run hB 100 ?_
  simp [go_sem]
  rfl
 |true=>
  refine K_run hB 100 ?_
  simp [go_sem]
  refine K_call rfl rfl rfl (args:=[o.a]) (f:=14) (by simp [go_sem,Opt.a,Opt.cs]) (by simp [go_sem,hB]) ((hom).spec _ _) ?_
  cases co:o.mayB with
  |false=>
   rw [Inst.search,if_pos cm,if_neg (by simp [co])] at hR
   subst hR
   refine K_run hB 100 ?_
   simp [go_sem]
   rfl
  |true=>
   refine K_run hB 100 ?_
   simp [go_sem]
   refine K_drawnF [5,7] [0,1,2] rfl (by rw [hB];kernel_rfl) (by kernel_rfl) fun ht hf'=>?_
   refine K_run hB 100 ?_
   simp [go_sem,ht,hf']
   refine K_dCall rfl rfl rfl (args:=[.i o.order]) (f:=19) (by simp [go_sem]) (new_spec o.order) (by decide) (okPends_does (by simp [go_sem])) ?_
   refine K_run hB 100 ?_
   simp [go_sem,ht,hf']
   obtain ⟨τ0,hτ0⟩:∃τ0:Nat→AObj,τ0=ob [(0,.box [.i x.pairs,.i x.cars,.i x.room,.t (.sl (x.stops.map Stop.t))]),(1,.box [.i o.width,.i o.order,.i o.budget]),(2,.box [.i 0,.fsl [],.i 0,.i 0,.i 0,.fsl []]),(3,.box [.ref 5,.i o.order]),(4,.box (SS.cs x o 0 0 ⟨4,3,5,7,6⟩ ⟨[],[],inf,[],0,[]⟩)),(5,.arr 4 []),(6,.arr 14 []),(7,.arr 10 [])]:=⟨_,rfl⟩
   refine K_imp (t:=⟨sl [(2,.ptr 0 0),(3,.ptr 1 0),(4,.ptr 2 0),(5,.ptr 4 0),(26,.ptr 4 0),(27,.agg [.i x.pairs,.i x.cars,.i x.room,.t (.sl (x.stops.map Stop.t))])],τ0,8⟩)
    ((Imp.ownB (b:=3) (off:=0) (sz:=4) (cs:=[.fsl [],.i o.order]) (by simp [oput]) rfl).trans
    ((Imp.ownB (b:=4) (off:=12) (sz:=14) (cs:=[.i x.pairs,.i x.cars,.i x.room,.t (.sl (x.stops.map Stop.t)),.i o.width,.i o.order,.i o.budget,.i 0,.fsl [],.i inf,.i 0,.i 0,.fsl [],.fsl [],.ptr 3 0]) (by simp [oput];rfl) rfl).trans
    ((Imp.ownB (b:=4) (off:=13) (sz:=10) (cs:=[.i x.pairs,.i x.cars,.i x.room,.t (.sl (x.stops.map Stop.t)),.i o.width,.i o.order,.i o.budget,.i 0,.fsl [],.i inf,.i 0,.i 0,.ref 6,.fsl [],.ptr 3 0]) (by simp [oput]) rfl).trans
    ((Imp.looseB (b:=4) (cs:=[.i x.pairs,.i x.cars,.i x.room,.t (.sl (x.stops.map Stop.t)),.i o.width,.i o.order,.i o.budget,.i 0,.fsl [],.i inf,.i 0,.i 0,.ref 6,.ref 7,.ptr 3 0]) (by simp [oput])).trans
    (Imp.slots (by simp [go_sem]) ?_ rfl))))) ?_
   ·funext i
    rw [hτ0]
    match i with
    |0=>simp [oput,ob]
    |1=>simp [oput,ob]
    |2=>simp [oput,ob]
    |3=>simp [oput,ob]
    |4=>simp [oput,ob,loosen,SS.cs,planT]
    |5=>simp [oput,ob]
    |6=>simp [oput,ob]
    |7=>simp [oput,ob]
    |i+8=>simp [oput,ob,noObj]
   obtain ⟨p,hx⟩:=x.fit cm
   have hp3:p≤3:=by have:=hx.len;omega
   have hrun:=search_is hx cm hp3 co hw
   rw [hR] at hrun
   have hgo:=start_going hx cm hp3
   have hroot:=root_pureS x (by omega)
   have hrok:=rootS_ok x
   have hsok:SOk x o ⟨4,3,5,7,6⟩ ⟨[],[],inf,[],0,[]⟩ τ0 8:=by
    rw [hτ0]
    exact ⟨⟨rfl,rfl,rfl,by decide,by decide,by decide,by decide⟩,[],rfl,rfl,List.Perm.refl _,fun i h1 h2=>by simp at h2⟩
   have y0:τ0 0= .box [.i x.pairs,.i x.cars,.i x.room,.t (.sl (x.stops.map Stop.t))]:=by rw [hτ0];rfl
   have y1:τ0 1= .box [.i o.width,.i o.order,.i o.budget]:=by rw [hτ0];rfl
   have y2:τ0 2= .box [.i 0,.fsl [],.i 0,.i 0,.i 0,.fsl []]:=by rw [hτ0];rfl
   clear hτ0
   refine K_call rfl rfl rfl (args:=[x.a]) (f:=18) (by simp [go_sem,Inst.a]) (by simp [go_sem,hB]) ((hroot).spec _ _) ?_
   refine K_run hB 100 ?_
   simp [go_sem,State.a,State.cs]
   refine K_imp Imp.loose ?_
   refine K_callQ rfl rfl rfl (args:=[.ptr 4 0,x.rootN.a,.i 0]) (f:=20) (by simp [go_sem,Node.a,Node.cs,Inst.rootN,loosen,loosen.loosenL,ints]) (by simp [go_sem,hB]) (push_spec x o ⟨4,3,5,7,6⟩ ⟨[],[],inf,[],0,[]⟩ x.rootN 0 (by omega) hrok (by simp [Inst.rootN]) (by simp) (by simp) (σ:=τ0) (nx:=8) hsok) fun r σ1 nx1 hq=>?_
   obtain ⟨rfl,k1,c1,c2⟩:=hq
   rw [←Inst.start] at c1
   have z:=c2.q
   have z2:=c2.sb
   have z3:=c2.lg
   have z4:=c2.s
   have z5:=c2.h
   simp only at z z2 z3 z4 z5
   have hri:RI x o p R 1850 x.start k1 σ1 nx1:=by
    refine ⟨hrun,hgo,c1,by omega,?_,?_,?_⟩
    ·rw [c2.keep 0 (by decide) (by decide) (by decide) (by decide) (by decide) (by decide)];exact y0
    ·rw [c2.keep 1 (by decide) (by decide) (by decide) (by decide) (by decide) (by decide)];exact y1
    ·rw [c2.keep 2 (by decide) (by decide) (by decide) (by decide) (by decide) (by decide)];exact y2
   clear z z2 z3 z4 z5 c1 c2 y0 y1 y2 hsok hrun hgo hroot hrok hR hmy hom
   refine K_run hB 100 ?_
   simp [go_sem]
   refine K_loopP (α:=Nat×SS×Ids×(Nat→AObj)×Nat) (fun (f,s,k,τ,m)=>RI x o p R f s k τ m) (fun (f,s,k,τ,m)=>⟨sl [(2,.ptr 0 0),(3,.ptr 1 0),(4,.ptr 2 0),(5,.ptr 4 0)],τ,m⟩) (fun a=>a.1) (1850,x.start,k1,σ1,nx1) hri (Imp.slots (by simp [go_sem,loosen]) rfl rfl) ?_
   rintro ⟨f,s,k,τ,m⟩ h
   simp only at h
   obtain ⟨f,rfl⟩:∃f',f=f'+1:=by
    cases f with
    |zero=>have:=h.run;cases this
    |succ f=>exact ⟨f,rfl⟩
   have hrun:=h.run
   rw [Inst.runGo] at hrun
   obtain ⟨hi1,hi2,hi3,hi4,hi5⟩:=h.ids
   have hlt:=h.ok.b.lt
   have a1:=h.ok.b.box
   rw [SS.cs,hi1] at a1
   obtain ⟨l,q1,q2,q3,q4⟩:=h.ok.q
   have hll:=q3.length_eq
   have hpre:=h.go.pre hx cm hp3
   have:=hpre.q
   by_cases cq:l=[]
   ·subst cq
    have hq0:s.q=[]:=List.eq_nil_of_length_eq_zero (by rw [←hll];rfl)
    have hend:R=s.ends:=by
     rw [hq0] at hrun
     exact (Option.some.inj hrun).symm
    refine K_run hB 100 ?_
    simp [go_sem,a1]
    refine K_call rfl rfl rfl (args:=[.ptr k.h 0]) (f:=21) (by simp [go_sem]) (by simp [go_sem,hB]) (htake_nil o.order hlt.2.1 q1 hlt.2.2.1 q2) ?_
    refine K_run hB 100 ?_
    simp [go_sem,Ent.a,Ent.cs]
    have hst:=h.ok.stay (σ':=oput (oput τ m (.box [.i 0,.i 0,.i 0])) m (.box [.i Ent.zero.bound,.i Ent.zero.depth,.i Ent.zero.no])) (nx':=m+1) (by omega) fun i hi=>by simp [oput,show ¬i=m by omega]
    refine K_callQ rfl rfl rfl (args:=[.ptr k.s 0]) (f:=22) (by simp [go_sem,hi1]) (by simp [go_sem,hB]) (ends_spec x o k s (nx:=m+1) hst.1) fun r σ2 nx2 hq=>?_
    obtain ⟨rfl,e1,e2⟩:=hq
    have e3:σ2 2= .box [.i 0,.fsl [],.i 0,.i 0,.i 0,.fsl []]:=by rw [e2 2 (by omega) (by omega)];simp [oput,show ¬2=m by omega,h.b2]
    have e4:σ2 k.lg= .arr 14 (logT s.log):=by rw [e2 k.lg (by omega) (fun e=>by have h1:=h.ok.b.log;rw [e,h.ok.b.box] at h1;cases h1)];simp [oput,show ¬k.lg=m by omega,h.ok.b.log]
    have e5:¬k.lg=2:=by omega
    refine K_run hB 100 ?_
    simp [go_sem,e3,e4,e5]
    rw [hend]
    rfl
   ·have hpos:0<l.length:=List.length_pos_iff.2 cq
    obtain ⟨q',t1,t2⟩:=take_heap q3 q4 hpos
    have hok:=restH_ok q4 hpos
    have htk:=htake_spec o.order l (by omega) hpos hlt.2.1 q1 hlt.2.2.1 q2
    rw [t1] at hrun
    simp only at hrun
    obtain ⟨n,hn,hg,htn,k1,k2,k3⟩:=h.go.look hx cm hp3 hw t1
    have hskip:=fun c=>h.go.skip t1 c
    generalize l.getD 0 Ent.zero=e at *
    generalize restH o.order l=l' at *
    refine K_run hB 100 ?_
    simp [go_sem,a1]
    refine K_callQ rfl rfl rfl (args:=[.ptr k.h 0]) (f:=21) (by simp [go_sem]) (by simp [go_sem,hB]) htk fun r σ2 nx2 hq=>?_
    obtain ⟨rfl,g1,qn,g2,g3,g4,g5,g6⟩:=hq
    have hsb:=h.ok.b
    have d1:k.sb≠k.h∧k.sb≠k.q∧k.lg≠k.h∧k.lg≠k.q:=⟨fun e=>hsb.hs.1 e.symm,fun e=>hsb.qs.2.2.1 e.symm,fun e=>hsb.hs.2 e.symm,fun e=>hsb.qs.2.2.2 e.symm⟩
    have dsh:=hsb.sh
    have dqs:=hsb.qs
    have dhs:=hsb.hs
    have hsok2:SOk x o {k with q:=qn} (s.left q') σ2 nx2:=by
     refine ⟨⟨?_,?_,?_,dsh,?_,dhs,?_⟩,l',g4,g5,t2,hok⟩
     ·rw [g6 k.s (by omega) dsh (by omega)];exact hsb.box
     ·rw [g6 k.sb (by omega) d1.1 d1.2.1];exact hsb.subs
     ·rw [g6 k.lg (by omega) d1.2.2.1 d1.2.2.2];exact hsb.log
     ·simp only;omega
     ·simp only;omega
    have hruns2:Runs k τ m {k with q:=qn} σ2 nx2:=⟨g1,rfl,rfl,.inr g2,.inl rfl,.inl rfl,fun i h1 h2 h3 h4 h5 h6=>g6 i h1 h3 h4⟩
    clear htk
    have b3:=(hruns2.keep 1 (by omega) (by omega) (by omega) (by omega) (by omega) (by omega)).trans h.b1
    have b4:=(hruns2.keep 2 (by omega) (by omega) (by omega) (by omega) (by omega) (by omega)).trans h.b2
    have b5:=hsok2.b.box
    rw [SS.cs] at b5
    simp only [hi1,SS.left] at b5
    have hm4:4<nx2:=by omega
    have j1:¬4=nx2:=by omega
    have j2:¬nx2=4:=by omega
    have j3:¬1=nx2:=by omega
    have j4:¬2=nx2:=by omega
    have j5:¬nx2=2:=by omega
    refine K_run hB 100 ?_
    simp [go_sem,Ent.a,Ent.cs]
    refine K_drawn [] rfl (by rw [hB];kernel_rfl) ?_
    have hst2:=hsok2.stay (σ':=oput (oput σ2 nx2 (.box [.i 0,.i 0,.i 0])) nx2 (.box [.i e.bound,.i e.depth,.i e.no])) (nx':=nx2+1) (by omega) fun i hi=>by simp [oput,show ¬i=nx2 by omega]
    have hold:∀i,i<nx2→oput (oput σ2 nx2 (.box [.i 0,.i 0,.i 0])) nx2 (.box [.i e.bound,.i e.depth,.i e.no]) i=σ2 i:=fun i hi=>by simp [oput,show ¬i=nx2 by omega]
    have hnew:oput (oput σ2 nx2 (.box [.i 0,.i 0,.i 0])) nx2 (.box [.i e.bound,.i e.depth,.i e.no]) nx2= .box [.i e.bound,.i e.depth,.i e.no]:=by simp [oput]
    by_cases c1:s.up≤e.bound
    ·rw [if_pos c1] at hrun
     refine K_run hB 100 ?_
     simp [go_sem,b5,j1,c1]
     exact Next.mk (f,s.left q',{k with q:=qn},_,nx2+1) (h.next hrun (hskip c1) hst2.1 (hruns2.trans hst2.2)) (Imp.slots (by simp [go_sem]) rfl rfl) (by simp only;omega)
    rw [if_neg c1] at hrun
    refine K_run hB 100 ?_
    simp [go_sem,b5,j1,c1]
    refine K_drawn [] rfl (by rw [hB];kernel_rfl) ?_
    by_cases c2:o.budget≤s.steps
    ·rw [if_pos c2] at hrun
     refine K_run hB 100 ?_
     simp [go_sem,b5,b3,j1,j3,c2]
     have hl1:=hleast_spec o.order l' (by have:=t2.length_eq;have:=(take_some t1).2.2.2;omega) (σ:=oput (oput σ2 nx2 (.box [.i 0,.i 0,.i 0])) nx2 (.box [.i e.bound,.i e.depth,.i e.no])) (nx:=nx2+1) (h:=k.h) (q:=qn) (by omega) ((hold k.h (by omega)).trans g4) (by omega) ((hold qn g3).trans g5)
     rw [least_perm t2] at hl1
     have hmin:min (min s.up e.bound) (leastQ q')=min s.up (min e.bound (leastQ q')):=by omega
     refine K_drawnF [18,22] [1,7,8,14] rfl (by rw [hB];kernel_rfl) (by kernel_rfl) fun ht hf'=>?_
     refine K_run hB 100 ?_
     simp [go_sem,ht,hf',b5,j1,j2]
     refine K_dLook (v:=.i (leastQ q')) (fun ho=>?_) (by simp [go_sem,ht]) ?_
     ·exact does_call ho (by simp [go_sem]) rfl rfl (args:=[.ptr k.h 0]) (f:=23) (by simp [go_sem]) hl1
     have e4:σ2 k.lg= .arr 14 (logT s.log):=hsok2.b.log
     have e5:¬k.lg=2:=by omega
     have e6:¬k.lg=4:=fun e=>by have h1:=h.ok.b.log;rw [e,←hi1,h.ok.b.box] at h1;cases h1
     have e7:¬k.lg=nx2:=by omega
     refine K_run hB 100 ?_
     simp [go_sem,ht,hf',b5,b4,j1,j2,j4,j5,hmin,e4,e5,e6,e7]
     rw [←Option.some.inj hrun]
     rfl
    ·rw [if_neg c2,hg] at hrun
     have hno:=List.getElem?_eq_some_iff.1 hn
     obtain ⟨hno1,hno2⟩:=hno
     have hnl:(nodesT s.subs).length=s.subs.length:=List.length_map _
     have hgn:∀h,(nodesT s.subs)[e.no]'h=n.t:=fun h=>by rw [nodesT_get _ hno1,hno2]
     have hsb2:σ2 k.sb= .arr 10 (nodesT s.subs):=hsok2.b.subs
     have j6:¬k.sb=nx2:=by have:=hsok2.b.lt;simp only at this;omega
     refine K_run hB 100 ?_
     simp [go_sem,b5,b3,j1,j3,c2]
     refine K_drawnZ [] 9 _ rfl (by rw [hB];kernel_rfl) (by kernel_rfl) rfl ?_
     refine K_run hB 100 ?_
     simp [go_sem,b5,j1,hsb2,j6,hnl,hno1,hgn,Node.t]
     refine K_callQ rfl rfl rfl (args:=[.ptr k.s 0,n.a]) (f:=24) (by simp [go_sem,Node.a,Node.cs,hi1]) (by simp [go_sem,hB]) (slook_spec x o {k with q:=qn} (s.left q') n (look_pre hx cm hp3 htn hw) ⟨hpre.steps,hpre.subs,by have h1:=t2.length_eq;have h2:=(take_some t1).2.2.2;show q'.length<_;omega,hpre.log⟩ (nx:=nx2+1) hst2.1) fun r σ4 nx4 hq=>?_
     obtain ⟨rfl,k4,e1,e2⟩:=hq
     refine K_run hB 100 ?_
     simp [go_sem]
     exact Next.mk (f,x.lookS o.width (s.left q') n,k4,_,nx4) (h.next hrun k1 e1 ((hruns2.trans hst2.2).trans e2)) (Imp.slots (by simp [go_sem]) rfl rfl) (by simp only;omega)
end Go.Proofs.YtnoifgjiipgpoaaGreat

set_option maxRecDepth 4000
set_option maxHeartbeats 1000000
namespace Go.Proofs.YtnoifgjiipgpoaaGreat
open Go Go.Proofs.YtnoifgjiipgpoaaGreat.R
def fewO (x:Inst) (o:Opt):Bool:=decide (x.stops.length≤7)&&decide (o.width≤40)
theorem few19_pure (x:Inst) (o:Opt) (hl:x.stops.length<2^63):Pure P 8 [x.a,o.a] (.b (fewO x o)):=by
 refine pure_of Tryz.func8 rfl rfl (by simp [Tryz.f8]) (by simp [bnd,bnd.bndL,Inst.a,Opt.a,Opt.cs]) (by simp [bnd,bnd.bndL]) fun B hB hnx=>?_
 simp only [Tryz.f8] at hB ⊢
 by_cases c1:x.stops.length≤7
 ·have c2:(x.stops.length:Int)≤7:=by omega
  refine K_run hB 100 ?_
  simp [go_sem,Inst.a,Opt.a,Opt.cs,c1,c2,fewO]
 ·have c2:¬(x.stops.length:Int)≤7:=by omega
  refine K_run hB 100 ?_
  simp [go_sem,Inst.a,Opt.a,Opt.cs,c1,c2,fewO]
theorem search_told {x:Inst} {o:Opt} (hl:x.stops.length≤7) (hm:x.may=true) (ho:o.mayB=true) (hw:o.width≤40):Told x (x.search o):=by
 obtain ⟨p,hx⟩:=x.fit hm
 have hp:p≤3:=by have:=hx.len;omega
 have hg:=start_going hx hm hp
 exact run_told (by omega) hm o 1850 x.start _ hg.inv hg.cov (search_is hx hm hp ho hw)
end Go.Proofs.YtnoifgjiipgpoaaGreat

set_option maxRecDepth 4000
set_option maxHeartbeats 1000000
namespace Go.Proofs.YtnoifgjiipgpoaaGreat
open Go Go.Proofs.YtnoifgjiipgpoaaGreat.R
structure Whole (x:Inst) (r:SRes):Prop where
 low:r.low=r.up
 least:∀v c,x.way v x.rootS c→r.up≤c
 some:r.up<inf→r.status=2∧∃v,x.way v x.rootS r.up
 none:¬r.up<inf→r.status=3∧r.up=inf
end Go.Proofs.YtnoifgjiipgpoaaGreat

set_option maxRecDepth 4000
set_option maxHeartbeats 1000000
namespace Go.Proofs.YtnoifgjiipgpoaaGreat
open Go Go.Proofs.YtnoifgjiipgpoaaGreat.R
theorem look_log (x:Inst) (w:Int) (s:SS) (n:Node):(x.lookS w s n).log=s.log++[(n,x.build n w (s.nar x w n).up)]:=by
 have h1:(s.nar x w n).log=s.log:=(offer_up (s.plus (x.narrow n w s.up).2.2) ((x.narrow n w s.up).1,(x.narrow n w s.up).2.1)).2.2.2.1
 rw [Inst.lookS,←h1]
 generalize s.nar x w n=t
 unfold Inst.lookD
 split
 ·rfl
 split
 ·exact (offer_up _ _).2.2.2.1
 ·rw [Inst.branch,(pushes_up x _ _ _).2.1,(offers_up x _ _).2.2.2.1]
  rfl
end Go.Proofs.YtnoifgjiipgpoaaGreat

set_option maxRecDepth 4000
namespace Go.Proofs.YtnoifgjiipgpoaaGreat
open Go Go.Proofs.YtnoifgjiipgpoaaGreat.R
def Off (a b:List Int):Prop:=¬a <+:b∧¬b <+:a
def SS.pathsQ (s:SS):List (List Int):=s.q.map fun e=>(s.subs.getD e.no Node.zero).path
structure LogI (s:SS):Prop where
 apart:s.pathsQ.Pairwise Off
 new:∀q∈s.pathsQ,∀d∈s.log,¬q <+:d.1.path
 nodup:(s.log.map fun d=>d.1.path).Nodup
 first:s.log=[]→∀q∈s.pathsQ,q=[]
 head:∀d l,s.log=d :: l→d.1.path=[]∧∀e∈l,e.1.path≠[]
theorem layN_lead {x:Inst} {n:Node} (up:Int):∀(k:Nat),∀m∈x.layN up n k,n.path <+:m.path
 |0,m,hm=>by rw [List.mem_singleton.1 hm];exact List.prefix_refl _
 |k+1,m,hm=>by
  obtain ⟨q,hq,j,hj,rfl,_⟩:=next_mem hm
  exact (layN_lead up k q hq).trans (List.prefix_append _ _)
theorem pushes_paths {x:Inst} {low:Int}:∀(l:List Node) (s:SS),(∀e∈s.q,∃m,s.subs[e.no]? =some m)→∃k:List Node,k.Sublist l∧(l.foldl (x.push low) s).pathsQ=s.pathsQ++k.map Node.path
 |[],s,_=>⟨[],List.Sublist.refl _,by simp⟩
 |n :: l,s,hn=>by
  obtain ⟨k,h1,h2⟩:=pushes_paths (x:=x) (low:=low) l (x.push low s n) (push_nos hn)
  rw [List.foldl_cons,h2]
  rcases push_or x low s n with ⟨e,_⟩ | ⟨_,e⟩
  ·rw [e];exact ⟨k,h1.cons _,rfl⟩
  ·refine ⟨n :: k,h1.cons_cons _,?_⟩
   have:(x.push low s n).pathsQ=s.pathsQ++[n.path]:=by
    rw [e,SS.pathsQ,SS.pathsQ]
    simp only
    rw [List.map_append,List.map_cons,List.map_nil]
    have h2:(s.subs++[n])[s.subs.length]? =some n:=by simp
    rw [getD_of h2]
    congr 1
    refine List.map_congr_left fun e he=>?_
    obtain ⟨m,hm⟩:=hn e he
    rw [getD_of hm,getD_of (get_old hm)]
   rw [this,List.append_assoc]
   rfl
theorem take_split {o:Int} {q:List Ent} {e:Ent} {q':List Ent} (h:takeQ o q=some (e,q')):∃a b,q=a++e :: b∧q'=a++b:=by
 unfold takeQ at h
 split at h
 ·cases h
 rename_i hq
 have hk:=minI_lt o hq
 obtain ⟨h1,h2⟩:=Prod.mk.inj (Option.some.inj h)
 refine ⟨q.take (minI o q),q.drop (minI o q+1),?_,h2.symm⟩
 have hg:q.getD (minI o q) Ent.zero=q[minI o q]:=by rw [List.getD_eq_getElem?_getD,List.getElem?_eq_getElem hk];rfl
 rw [←h1,hg,←List.drop_eq_getElem_cons hk,List.take_append_drop]
theorem LogI.left {s:SS} (h:LogI s) {o:Int} {e:Ent} {q:List Ent} (ht:takeQ o s.q=some (e,q)):LogI (s.left q)∧(∀p∈(s.left q).pathsQ,Off (s.subs.getD e.no Node.zero).path p)∧(s.subs.getD e.no Node.zero).path∈s.pathsQ:=by
 obtain ⟨a,b,h1,h2⟩:=take_split ht
 have e1:s.pathsQ=(a.map fun e=>(s.subs.getD e.no Node.zero).path)++(s.subs.getD e.no Node.zero).path :: (b.map fun e=>(s.subs.getD e.no Node.zero).path):=by rw [SS.pathsQ,h1,List.map_append,List.map_cons]
 have e2:(s.left q).pathsQ=(a.map fun e=>(s.subs.getD e.no Node.zero).path)++(b.map fun e=>(s.subs.getD e.no Node.zero).path):=by rw [SS.pathsQ,←List.map_append,←h2];rfl
 have hap:=h.apart
 rw [e1,List.pairwise_append,List.pairwise_cons] at hap
 obtain ⟨p1,⟨p2,p3⟩,p4⟩:=hap
 have hsub:∀p∈(s.left q).pathsQ,p∈s.pathsQ:=fun p hp=>by
  rw [e2] at hp
  rw [e1]
  rcases List.mem_append.1 hp with hp | hp
  ·exact List.mem_append_left _ hp
  ·exact List.mem_append_right _ (List.mem_cons_of_mem _ hp)
 refine ⟨⟨?_,fun p hp=>h.new p (hsub p hp),h.nodup,fun hl p hp=>h.first hl p (hsub p hp),h.head⟩,fun p hp=>?_,by rw [e1];simp⟩
 ·rw [e2,List.pairwise_append]
  exact ⟨p1,p3,fun u hu v hv=>p4 u hu v (List.mem_cons_of_mem _ hv)⟩
 ·rw [e2] at hp
  rcases List.mem_append.1 hp with hp | hp
  ·obtain ⟨g1,g2⟩:=p4 p hp _ List.mem_cons_self
   exact ⟨g2,g1⟩
  ·exact p2 p hp
theorem look_paths {x:Inst} (hm:x.may=true) {n:Node} (ht:Track x n) (w:Int) {s:SS} (hs:∀e∈s.q,∃m,s.subs[e.no]? =some m):∃l:List Node,(x.lookS w s n).pathsQ=s.pathsQ++l.map Node.path∧(∀m∈l,n.path <+:m.path∧m.path≠n.path)∧(l.map Node.path).Pairwise Off:=by
 have q1:(s.nar x w n).subs=s.subs∧(s.nar x w n).q=s.q:=⟨(offer_up _ _).2.1,(offer_up _ _).2.2.1⟩
 rw [Inst.lookS]
 generalize s.nar x w n=t at *
 have hlike:∀u:SS,u.subs=s.subs→u.q=s.q→u.pathsQ=s.pathsQ:=fun u h1 h2=>by rw [SS.pathsQ,SS.pathsQ,h1,h2]
 rw [Inst.lookD]
 split
 ·exact ⟨[],by rw [hlike (t.dia n (x.build n w t.up)) q1.1 q1.2];simp,fun m hm=>(by cases hm),List.Pairwise.nil⟩
 split
 ·have h3:=offer_up ((t.dia n (x.build n w t.up)).plus (x.exact n (t.dia n (x.build n w t.up)).up (x.mostN w)).2.2.2) ((x.exact n (t.dia n (x.build n w t.up)).up (x.mostN w)).1,(x.exact n (t.dia n (x.build n w t.up)).up (x.mostN w)).2.1)
  exact ⟨[],(hlike _ (h3.2.1.trans q1.1) (h3.2.2.1.trans q1.2)).trans (by simp),fun m hm=>(by cases hm),List.Pairwise.nil⟩
 ·rename_i c1 c2
  have htwo:=build_two x n w t.up (by simpa using c2)
  have hok:=build_ok x n w t.up
  obtain ⟨k,hk⟩:∃k,(x.build n w t.up).sure-1=k+1:=⟨(x.build n w t.up).sure-2,by omega⟩
  rw [Inst.branch]
  obtain ⟨hl,hlast⟩:=sure_get hok (i:=(x.build n w t.up).sure-1) (by omega)
  rw [List.getD_eq_getElem?_getD,List.getElem?_eq_getElem hl,Option.getD_some,hlast,hk]
  have ho:=offers_up x ((x.build n w t.up).layers.take ((x.build n w t.up).sure-1)) (t.dia n (x.build n w t.up))
  rw [hk] at ho
  generalize x.offers (t.dia n (x.build n w t.up)) ((x.build n w t.up).layers.take (k+1))=S at *
  have g1:S.subs=s.subs:=ho.2.1.trans q1.1
  have g2:S.q=s.q:=ho.2.2.1.trans q1.2
  obtain ⟨l,h1,h2⟩:=pushes_paths (x:=x) (low:=(x.build n w t.up).low) (x.layN t.up n (k+1)) S (by rw [g1,g2];exact hs)
  have hmem:∀m∈l,m∈x.layN t.up n (k+1):=fun m hm=>h1.subset hm
  have htr:=fun m hm=>layN_track ht t.up (k+1) m (hmem m hm)
  refine ⟨l,by rw [h2,hlike _ g1 g2],fun m hm=>⟨layN_lead t.up _ m (hmem m hm),fun e=>?_⟩,?_⟩
  ·have:=(htr m hm).2
   rw [e] at this
   omega
  ·have hnd:(l.map Node.s).Nodup:=((h1.map Node.s).nodup (next_nodup x (x.layN t.up n k) t.up))
   rw [List.Nodup,List.pairwise_map] at hnd
   rw [List.pairwise_map]
   refine hnd.imp_of_mem fun {a b} ha hb hne=>?_
   have h3:=htr a ha
   have h4:=htr b hb
   have key:a.path≠b.path:=fun e=>hne (by
    have g3:=h3.1.goes
    rw [e,h4.1.goes] at g3
    exact (congrArg Prod.fst (Option.some.inj g3)).symm)
   exact ⟨fun hp=>key (hp.eq_of_length (by rw [h3.2,h4.2])),fun hp=>key (hp.eq_of_length (by rw [h3.2,h4.2])).symm⟩
theorem LogI.look {x:Inst} (hm:x.may=true) {s:SS} (h:LogI s) {n:Node} (ht:Track x n) {w:Int} {o:Int} {e:Ent} {q:List Ent} (htk:takeQ o s.q=some (e,q)) (hn:s.subs.getD e.no Node.zero=n) (hs:∀f∈q,∃m,s.subs[f.no]? =some m):LogI (x.lookS w (s.left q) n):=by
 obtain ⟨h1,h2,h3⟩:=h.left htk
 rw [hn] at h2 h3
 obtain ⟨l,l1,l2,l3⟩:=look_paths hm ht w (s:=s.left q) hs
 have hlog:(x.lookS w (s.left q) n).log=s.log++[(n,x.build n w ((s.left q).nar x w n).up)]:=look_log x w (s.left q) n
 have hnew:=h.new _ h3
 refine ⟨?_,fun p hp d hd=>?_,?_,fun hl=>?_,fun d t hdt=>?_⟩
 ·rw [l1,List.pairwise_append]
  refine ⟨h1.apart,l3,fun a ha b hb=>?_⟩
  obtain ⟨m,hm',rfl⟩:=List.mem_map.1 hb
  obtain ⟨g1,g2⟩:=l2 m hm'
  obtain ⟨k1,k2⟩:=h2 a ha
  refine ⟨fun hp=>?_,fun hp=>k1 (g1.trans hp)⟩
  rcases List.prefix_or_prefix_of_prefix g1 hp with h | h
  ·exact k1 h
  ·exact k2 h
 ·rw [l1] at hp
  rw [hlog] at hd
  rcases List.mem_append.1 hp with hp | hp
  ·rcases List.mem_append.1 hd with hd | hd
   ·exact h1.new p hp d hd
   ·rw [List.mem_singleton.1 hd]
    exact (h2 p hp).2
  ·obtain ⟨m,hm',rfl⟩:=List.mem_map.1 hp
   obtain ⟨g1,g2⟩:=l2 m hm'
   rcases List.mem_append.1 hd with hd | hd
   ·exact fun hp=>hnew d hd (g1.trans hp)
   ·rw [List.mem_singleton.1 hd]
    intro hp
    have a1:=g1.length_le
    have a2:=hp.length_le
    exact g2 (g1.eq_of_length (by simp only at a2;omega)).symm
 ·rw [hlog,List.map_append,List.nodup_append]
  refine ⟨h.nodup,by simp,fun a ha b hb e=>?_⟩
  rw [List.map_cons,List.map_nil,List.mem_singleton] at hb
  subst e
  obtain ⟨d,hd,hde⟩:=List.mem_map.1 ha
  refine hnew d hd ?_
  rw [hde,hb]
  exact List.prefix_refl _
 ·rw [hlog] at hl
  exact absurd hl (by simp)
 ·rw [hlog] at hdt
  cases hsl:s.log with
  |nil=>
   rw [hsl] at hdt
   simp only [List.nil_append,List.cons.injEq] at hdt
   obtain ⟨rfl,rfl⟩:=hdt
   exact ⟨h.first hsl _ h3,fun e he=>(by cases he)⟩
  |cons a l=>
   rw [hsl] at hdt
   simp only [List.cons_append,List.cons.injEq] at hdt
   obtain ⟨rfl,rfl⟩:=hdt
   obtain ⟨g1,g2⟩:=h.head a l hsl
   refine ⟨g1,fun e he=>?_⟩
   rcases List.mem_append.1 he with he | he
   ·exact g2 e he
   ·rw [List.mem_singleton.1 he]
    intro hnil
    refine hnew a (by rw [hsl];simp) ?_
    have hnil':n.path=[]:=hnil
    rw [hnil']
    exact List.nil_prefix
theorem start_logI (x:Inst):LogI x.start:=by
 have h0:LogI ⟨[],[],inf,[],0,[]⟩:=⟨List.Pairwise.nil,fun q hq=>(by cases hq),List.nodup_nil,fun _ q hq=>(by cases hq),fun d l h=>(by cases h)⟩
 have hlog:x.start.log=[]:=(push_up x 0 ⟨[],[],inf,[],0,[]⟩ x.rootN).2.1
 obtain ⟨k,h1,h2⟩:=pushes_paths (x:=x) (low:=0) [x.rootN] ⟨[],[],inf,[],0,[]⟩ fun e he=>by cases he
 have hq:x.start.pathsQ=k.map Node.path:=by
  have:x.start.pathsQ=([x.rootN].foldl (x.push 0) ⟨[],[],inf,[],0,[]⟩).pathsQ:=rfl
  rw [this,h2];rfl
 have hk:∀q∈x.start.pathsQ,q=[]:=fun q h=>by
  rw [hq] at h
  obtain ⟨m,hm,rfl⟩:=List.mem_map.1 h
  rw [List.mem_singleton.1 (h1.subset hm)]
  rfl
 refine ⟨?_,fun q _ d hd=>(by rw [hlog] at hd;cases hd),(by rw [hlog];exact List.nodup_nil),fun _=>hk,fun d l h=>(by rw [hlog] at h;cases h)⟩
 rw [hq]
 have hlen:=h1.length_le
 match k,hlen with
 |[],_=>exact List.Pairwise.nil
 |[a],_=>exact List.pairwise_singleton _ _
end Go.Proofs.YtnoifgjiipgpoaaGreat

set_option maxRecDepth 4000
namespace Go.Proofs.YtnoifgjiipgpoaaGreat
open Go Go.Proofs.YtnoifgjiipgpoaaGreat.R
structure Spot where
 s:State
 cost:Int
 part:Int
def Spot.t (n:Spot):List T:=[.i n.s.spot,.i n.s.car,.i n.s.time,.i n.s.load,.i n.s.first,.v (.int .u64 n.s.must),.v (.int .u64 n.s.can),.v (.int .u64 n.s.on),.i n.cost,.i n.part]
def Spot.cs (n:Spot):List AV:=[.i n.s.spot,.i n.s.car,.i n.s.time,.i n.s.load,.i n.s.first,.u n.s.must,.u n.s.can,.u n.s.on,.i n.cost,.i n.part]
def Spot.a (n:Spot):AV:=.agg n.cs
def layT (l:List Spot):List T:=[.sl (l.map Spot.t)]
def partT (p:List (List Spot)):List T:=[.sl (p.map layT)]
structure Prf where
 least:Int
 parts:List (List (List Spot))
def Prf.cs (p:Prf):List AV:=[.i p.least,.t (.sl (p.parts.map partT))]
def Prf.a (p:Prf):AV:=.agg p.cs
def ckC (x:Inst) (p:Prf) (D:AV):List AV:=[.t (.i x.pairs),.t (.i x.cars),.t (.i x.room),.t (.sl (x.stops.map Stop.t)),.i p.least,.t (.sl (p.parts.map partT)),D]
def Inst.spotB (x:Inst) (p:Prf) (n:Spot):Bool:=
 n.s.mayB x&&decide (n.cost≥0)&&decide (n.cost≤1152921504606846976)&&decide (n.part≥0)&&decide (n.part≤p.parts.length)
theorem ckmay_spec (x:Inst) (p:Prf) (n:Spot) (D:AV) (hx:0≤x.pairs∧x.pairs≤16) {σ:Nat→AObj} {nx c:Nat} (hc:c<nx) (hσ:σ c= .box (ckC x p D)):
  CallSpec P 56 [.ptr c 0,n.a] σ nx (.b (x.spotB p n)) σ nx:=by
 generalize hR:x.spotB p n=R
 refine spec_keep Tryz.func56 rfl rfl (by simp [Tryz.f56]) (by simp [bnd]) fun hk B hB hnx hσB=>?_
 simp only [Tryz.f56] at hB ⊢
 have hc1:¬c=nx:=by omega
 have hc2:¬c=nx+1:=by omega
 have w1:=w64 (2*x.pairs) (by omega)
 have hpl:(p.parts.map partT).length=p.parts.length:=List.length_map _
 rw [Inst.spotB,State.mayB] at hR
 refine K_run hB 100 ?_
 simp [go_sem,Spot.a,Spot.cs]
 refine K_drawn [] rfl (by rw [hB];kernel_rfl) ?_
 have fin:∀(a b:AObj) (i:Nat),i<nx→oput (oput σ nx a) (nx+1) b i=σ i:=fun a b i h=>by simp [oput,show ¬i=nx by omega,show ¬i=nx+1 by omega]
 by_cases c1:0≤n.s.spot
 rotate_left
 ·simp [c1] at hR
  subst hR
  refine K_run hB 100 ?_
  simp [go_sem,c1,hσ,hc1,hc2,ckC,w1,hpl]
  refine K_drawn [] rfl (by rw [hB];kernel_rfl) ?_
  refine K_run hB 100 ?_
  simp [go_sem]
  exact ⟨by omega,fun i h=>by simp [oput,show ¬i=nx by omega,show ¬i=nx+1 by omega]⟩
 by_cases c2:n.s.spot≤2*x.pairs
 rotate_left
 ·simp [c1,c2] at hR
  subst hR
  refine K_run hB 100 ?_
  simp [go_sem,c1,c2,hσ,hc1,hc2,ckC,w1,hpl]
  refine K_drawn [] rfl (by rw [hB];kernel_rfl) ?_
  refine K_run hB 100 ?_
  simp [go_sem]
  exact ⟨by omega,fun i h=>by simp [oput,show ¬i=nx by omega,show ¬i=nx+1 by omega]⟩
 by_cases c3:1≤n.s.car
 rotate_left
 ·simp [c1,c2,c3] at hR
  subst hR
  refine K_run hB 100 ?_
  simp [go_sem,c1,c2,c3,hσ,hc1,hc2,ckC,w1,hpl]
  refine K_drawn [] rfl (by rw [hB];kernel_rfl) ?_
  refine K_run hB 100 ?_
  simp [go_sem]
  exact ⟨by omega,fun i h=>by simp [oput,show ¬i=nx by omega,show ¬i=nx+1 by omega]⟩
 by_cases c4:n.s.car≤x.cars
 rotate_left
 ·simp [c1,c2,c3,c4] at hR
  subst hR
  refine K_run hB 100 ?_
  simp [go_sem,c1,c2,c3,c4,hσ,hc1,hc2,ckC,w1,hpl]
  refine K_drawn [] rfl (by rw [hB];kernel_rfl) ?_
  refine K_run hB 100 ?_
  simp [go_sem]
  exact ⟨by omega,fun i h=>by simp [oput,show ¬i=nx by omega,show ¬i=nx+1 by omega]⟩
 refine K_run hB 100 ?_
 simp [go_sem,c1,c2,c3,c4,hσ,hc1,hc2,ckC,w1,hpl]
 refine K_drawn [] rfl (by rw [hB];kernel_rfl) ?_
 by_cases c5:0≤n.s.time
 rotate_left
 ·simp [c1,c2,c3,c4,c5] at hR
  subst hR
  refine K_run hB 100 ?_
  simp [go_sem,c1,c2,c3,c4,c5,hσ,hc1,hc2,ckC,w1,hpl]
  exact ⟨by omega,fun i h=>by simp [oput,show ¬i=nx by omega,show ¬i=nx+1 by omega]⟩
 by_cases c6:n.s.time≤1073741824
 rotate_left
 ·simp [c1,c2,c3,c4,c5,c6] at hR
  subst hR
  refine K_run hB 100 ?_
  simp [go_sem,c1,c2,c3,c4,c5,c6,hσ,hc1,hc2,ckC,w1,hpl]
  exact ⟨by omega,fun i h=>by simp [oput,show ¬i=nx by omega,show ¬i=nx+1 by omega]⟩
 by_cases c7:0≤n.s.load
 rotate_left
 ·simp [c1,c2,c3,c4,c5,c6,c7] at hR
  subst hR
  refine K_run hB 100 ?_
  simp [go_sem,c1,c2,c3,c4,c5,c6,c7,hσ,hc1,hc2,ckC,w1,hpl]
  exact ⟨by omega,fun i h=>by simp [oput,show ¬i=nx by omega,show ¬i=nx+1 by omega]⟩
 by_cases c8:n.s.load≤1000
 rotate_left
 ·simp [c1,c2,c3,c4,c5,c6,c7,c8] at hR
  subst hR
  refine K_run hB 100 ?_
  simp [go_sem,c1,c2,c3,c4,c5,c6,c7,c8,hσ,hc1,hc2,ckC,w1,hpl]
  exact ⟨by omega,fun i h=>by simp [oput,show ¬i=nx by omega,show ¬i=nx+1 by omega]⟩
 by_cases c9:0≤n.cost
 rotate_left
 ·simp [c1,c2,c3,c4,c5,c6,c7,c8,c9] at hR
  subst hR
  refine K_run hB 100 ?_
  simp [go_sem,c1,c2,c3,c4,c5,c6,c7,c8,c9,hσ,hc1,hc2,ckC,w1,hpl]
  exact ⟨by omega,fun i h=>by simp [oput,show ¬i=nx by omega,show ¬i=nx+1 by omega]⟩
 by_cases c10:n.cost≤1152921504606846976
 rotate_left
 ·simp [c1,c2,c3,c4,c5,c6,c7,c8,c9,c10] at hR
  subst hR
  refine K_run hB 100 ?_
  simp [go_sem,c1,c2,c3,c4,c5,c6,c7,c8,c9,c10,hσ,hc1,hc2,ckC,w1,hpl]
  exact ⟨by omega,fun i h=>by simp [oput,show ¬i=nx by omega,show ¬i=nx+1 by omega]⟩
 by_cases c11:0≤n.part
 rotate_left
 ·simp [c1,c2,c3,c4,c5,c6,c7,c8,c9,c10,c11] at hR
  subst hR
  refine K_run hB 100 ?_
  simp [go_sem,c1,c2,c3,c4,c5,c6,c7,c8,c9,c10,c11,hσ,hc1,hc2,ckC,w1,hpl]
  exact ⟨by omega,fun i h=>by simp [oput,show ¬i=nx by omega,show ¬i=nx+1 by omega]⟩
 by_cases c12:n.part≤p.parts.length
 rotate_left
 ·simp [c1,c2,c3,c4,c5,c6,c7,c8,c9,c10,c11,c12] at hR
  subst hR
  refine K_run hB 100 ?_
  simp [go_sem,c1,c2,c3,c4,c5,c6,c7,c8,c9,c10,c11,c12,hσ,hc1,hc2,ckC,w1,hpl]
  exact ⟨by omega,fun i h=>by simp [oput,show ¬i=nx by omega,show ¬i=nx+1 by omega]⟩
 simp [c1,c2,c3,c4,c5,c6,c7,c8,c9,c10,c11,c12] at hR
 subst hR
 refine K_run hB 100 ?_
 simp [go_sem,c1,c2,c3,c4,c5,c6,c7,c8,c9,c10,c11,c12,hσ,hc1,hc2,ckC,w1,hpl]
 exact ⟨by omega,fun i h=>by simp [oput,show ¬i=nx by omega,show ¬i=nx+1 by omega]⟩
end Go.Proofs.YtnoifgjiipgpoaaGreat

set_option maxRecDepth 4000
namespace Go.Proofs.YtnoifgjiipgpoaaGreat
open Go Go.Proofs.YtnoifgjiipgpoaaGreat.R
def idxG {α:Type} (p:α→Bool):Nat→List α→Int
 |_,[]=>-1
 |i,n :: l=>if p n=true then (i:Int) else idxG p (i+1) l
theorem idxG_any {α:Type} (p:α→Bool):∀(i:Nat) (l:List α),(0≤idxG p i l)↔l.any p=true
 |_,[]=>by simp [idxG]
 |i,n :: l=>by
  rw [idxG,List.any_cons]
  cases h:p n with
  |true=>simp
  |false=>simp [idxG_any p (i+1) l]
theorem map_get {α β:Type} (g:α→β) (l:List α) {k:Nat} (h:k<l.length) (h':k<(l.map g).length):(l.map g)[k]'h'=g l[k]:=List.getElem_map g
theorem indexSpot_spec (l:List (Spot)) (p:Spot→Bool) {σ:Nat→AObj} {nx:Nat} {f:FuncId} {caps:List AV} (hl:l.length<2^31) (hf:∀n∈l,CallSpec P f (n.a :: caps) σ nx (.b (p n)) σ nx):
  CallSpec P 86 [.t (.sl (l.map Spot.t)),.fn (.func f) [] caps] σ nx (.i (idxG p 0 l)) σ nx:=by
 generalize hR:idxG p 0 l=R
 refine CallQ.spec (spec_of Tryz.func86 rfl rfl (by simp [Tryz.f86]) fun B hB hnx hσ=>?_)
 simp only [Tryz.f86] at hB ⊢
 have hil:(l.map Spot.t).length=l.length:=List.length_map _
 have hgt:∀(k:Nat) (h:k<l.length),(l.map Spot.t)[k]'(by rw [hil];exact h)=Spot.t l[k]:=fun k h=>map_get Spot.t l h _
 generalize hX:l.map Spot.t=X at *
 refine K_run hB 100 ?_
 simp [go_sem,hil]
 refine K_loopP (α:=Nat) (fun k=>k≤l.length∧idxG p k (l.drop k)=R) (fun k=>⟨sl [(1,.fn (.func f) [] caps),(0,.t (.sl X)),(7,.i l.length),(8,.i k)],σ,nx⟩) (fun k=>l.length-k) 0 ⟨Nat.zero_le _,hR⟩ (Imp.slots (by simp [go_sem]) rfl rfl) ?_
 rintro k ⟨g1,g2⟩
 refine K_run hB 60 ?_
 simp [go_sem]
 refine fork_dec (fun hk=>?_) (fun hk=>?_)
 ·have hkk:IntKind.i64.wrap ((k:Int)+1)=((k+1:Nat):Int):=by rw [w64 ((k:Int)+1) (by omega)];rfl
  have hget:∀h:k<X.length,X[k]'h=Spot.t l[k]:=fun h=>hgt k hk
  have hp:=hf l[k] (List.getElem_mem _)
  rw [List.drop_eq_getElem_cons hk,idxG] at g2
  generalize l[k]=n at *
  simp [go_sem,hil,hk,hget,Spot.t,Spot.a,Spot.cs]
  refine K_call rfl rfl rfl (args:=n.a :: caps) (f:=f) (by simp [go_sem,Spot.t,Spot.a,Spot.cs]) (by simp [go_sem,hB]) hp ?_
  cases h:p n with
  |true=>
   rw [h,if_pos rfl] at g2
   subst g2
   refine K_run hB 100 ?_
   simp [go_sem]
  |false=>
   rw [h,if_neg (by simp)] at g2
   refine K_run hB 100 ?_
   simp [go_sem,hkk]
   exact Next.mk (k+1) ⟨by omega,g2⟩ (Imp.slots (by simp [go_sem]) rfl rfl) (by omega)
 ·have:k=l.length:=by omega
  subst this
  rw [List.drop_length,idxG] at g2
  subst g2
  simp [go_sem]
theorem containsSpot_spec (l:List (Spot)) (p:Spot→Bool) {σ:Nat→AObj} {nx:Nat} {f:FuncId} {caps:List AV} (hl:l.length<2^31) (hf:∀n∈l,CallSpec P f (n.a :: caps) σ nx (.b (p n)) σ nx):
  CallSpec P 59 [.t (.sl (l.map Spot.t)),.fn (.func f) [] caps] σ nx (.b (l.any p)) σ nx:=by
 have hi:=indexSpot_spec l p hl hf
 have ha:=idxG_any p 0 l
 refine CallQ.spec (spec_of Tryz.func59 rfl rfl (by simp [Tryz.f59]) fun B hB hnx hσ=>?_)
 simp only [Tryz.f59] at hB ⊢
 generalize idxG p 0 l=i at *
 refine K_run hB 100 ?_
 simp [go_sem]
 refine K_call rfl rfl rfl (args:=[.t (.sl (l.map Spot.t)),.fn (.func f) [] caps]) (f:=86) (by simp [go_sem]) (by simp [go_sem,hB]) hi ?_
 refine K_run hB 100 ?_
 simp [go_sem]
 rw [Bool.eq_iff_iff,decide_eq_true_eq]
 exact ha
theorem indexLay_spec (l:List (List Spot)) (p:List Spot→Bool) {σ:Nat→AObj} {nx:Nat} {f:FuncId} {caps:List AV} (hl:l.length<2^31) (hf:∀n∈l,CallSpec P f (.t (.sl (n.map Spot.t)) :: caps) σ nx (.b (p n)) σ nx):
  CallSpec P 85 [.t (.sl (l.map layT)),.fn (.func f) [] caps] σ nx (.i (idxG p 0 l)) σ nx:=by
 generalize hR:idxG p 0 l=R
 refine CallQ.spec (spec_of Tryz.func85 rfl rfl (by simp [Tryz.f85]) fun B hB hnx hσ=>?_)
 simp only [Tryz.f85] at hB ⊢
 have hil:(l.map layT).length=l.length:=List.length_map _
 have hgt:∀(k:Nat) (h:k<l.length),(l.map layT)[k]'(by rw [hil];exact h)=layT l[k]:=fun k h=>map_get layT l h _
 generalize hX:l.map layT=X at *
 refine K_run hB 100 ?_
 simp [go_sem,hil]
 refine K_loopP (α:=Nat) (fun k=>k≤l.length∧idxG p k (l.drop k)=R) (fun k=>⟨sl [(1,.fn (.func f) [] caps),(0,.t (.sl X)),(7,.i l.length),(8,.i k)],σ,nx⟩) (fun k=>l.length-k) 0 ⟨Nat.zero_le _,hR⟩ (Imp.slots (by simp [go_sem]) rfl rfl) ?_
 rintro k ⟨g1,g2⟩
 refine K_run hB 60 ?_
 simp [go_sem]
 refine fork_dec (fun hk=>?_) (fun hk=>?_)
 ·have hkk:IntKind.i64.wrap ((k:Int)+1)=((k+1:Nat):Int):=by rw [w64 ((k:Int)+1) (by omega)];rfl
  have hget:∀h:k<X.length,X[k]'h=layT l[k]:=fun h=>hgt k hk
  have hp:=hf l[k] (List.getElem_mem _)
  rw [List.drop_eq_getElem_cons hk,idxG] at g2
  generalize l[k]=n at *
  simp [go_sem,hil,hk,hget,layT]
  refine K_call rfl rfl rfl (args:=.t (.sl (n.map Spot.t)) :: caps) (f:=f) (by simp [go_sem,layT]) (by simp [go_sem,hB]) hp ?_
  cases h:p n with
  |true=>
   rw [h,if_pos rfl] at g2
   subst g2
   refine K_run hB 100 ?_
   simp [go_sem]
  |false=>
   rw [h,if_neg (by simp)] at g2
   refine K_run hB 100 ?_
   simp [go_sem,hkk]
   exact Next.mk (k+1) ⟨by omega,g2⟩ (Imp.slots (by simp [go_sem]) rfl rfl) (by omega)
 ·have:k=l.length:=by omega
  subst this
  rw [List.drop_length,idxG] at g2
  subst g2
  simp [go_sem]
theorem containsLay_spec (l:List (List Spot)) (p:List Spot→Bool) {σ:Nat→AObj} {nx:Nat} {f:FuncId} {caps:List AV} (hl:l.length<2^31) (hf:∀n∈l,CallSpec P f (.t (.sl (n.map Spot.t)) :: caps) σ nx (.b (p n)) σ nx):
  CallSpec P 57 [.t (.sl (l.map layT)),.fn (.func f) [] caps] σ nx (.b (l.any p)) σ nx:=by
 have hi:=indexLay_spec l p hl hf
 have ha:=idxG_any p 0 l
 refine CallQ.spec (spec_of Tryz.func57 rfl rfl (by simp [Tryz.f57]) fun B hB hnx hσ=>?_)
 simp only [Tryz.f57] at hB ⊢
 generalize idxG p 0 l=i at *
 refine K_run hB 100 ?_
 simp [go_sem]
 refine K_call rfl rfl rfl (args:=[.t (.sl (l.map layT)),.fn (.func f) [] caps]) (f:=85) (by simp [go_sem]) (by simp [go_sem,hB]) hi ?_
 refine K_run hB 100 ?_
 simp [go_sem]
 rw [Bool.eq_iff_iff,decide_eq_true_eq]
 exact ha
theorem indexPart_spec (l:List (List (List Spot))) (p:List (List Spot)→Bool) {σ:Nat→AObj} {nx:Nat} {f:FuncId} {caps:List AV} (hl:l.length<2^31) (hf:∀n∈l,CallSpec P f (.agg [.t (.sl (n.map layT))] :: caps) σ nx (.b (p n)) σ nx):
  CallSpec P 60 [.t (.sl (l.map partT)),.fn (.func f) [] caps] σ nx (.i (idxG p 0 l)) σ nx:=by
 generalize hR:idxG p 0 l=R
 refine CallQ.spec (spec_of Tryz.func60 rfl rfl (by simp [Tryz.f60]) fun B hB hnx hσ=>?_)
 simp only [Tryz.f60] at hB ⊢
 have hil:(l.map partT).length=l.length:=List.length_map _
 have hgt:∀(k:Nat) (h:k<l.length),(l.map partT)[k]'(by rw [hil];exact h)=partT l[k]:=fun k h=>map_get partT l h _
 generalize hX:l.map partT=X at *
 refine K_run hB 100 ?_
 simp [go_sem,hil]
 refine K_loopP (α:=Nat) (fun k=>k≤l.length∧idxG p k (l.drop k)=R) (fun k=>⟨sl [(1,.fn (.func f) [] caps),(0,.t (.sl X)),(7,.i l.length),(8,.i k)],σ,nx⟩) (fun k=>l.length-k) 0 ⟨Nat.zero_le _,hR⟩ (Imp.slots (by simp [go_sem]) rfl rfl) ?_
 rintro k ⟨g1,g2⟩
 refine K_run hB 60 ?_
 simp [go_sem]
 refine fork_dec (fun hk=>?_) (fun hk=>?_)
 ·have hkk:IntKind.i64.wrap ((k:Int)+1)=((k+1:Nat):Int):=by rw [w64 ((k:Int)+1) (by omega)];rfl
  have hget:∀h:k<X.length,X[k]'h=partT l[k]:=fun h=>hgt k hk
  have hp:=hf l[k] (List.getElem_mem _)
  rw [List.drop_eq_getElem_cons hk,idxG] at g2
  generalize l[k]=n at *
  simp [go_sem,hil,hk,hget,partT]
  refine K_call rfl rfl rfl (args:=.agg [.t (.sl (n.map layT))] :: caps) (f:=f) (by simp [go_sem,partT]) (by simp [go_sem,hB]) hp ?_
  cases h:p n with
  |true=>
   rw [h,if_pos rfl] at g2
   subst g2
   refine K_run hB 100 ?_
   simp [go_sem]
  |false=>
   rw [h,if_neg (by simp)] at g2
   refine K_run hB 100 ?_
   simp [go_sem,hkk]
   exact Next.mk (k+1) ⟨by omega,g2⟩ (Imp.slots (by simp [go_sem]) rfl rfl) (by omega)
 ·have:k=l.length:=by omega
  subst this
  rw [List.drop_length,idxG] at g2
  subst g2
  simp [go_sem]
theorem containsPart_spec (l:List (List (List Spot))) (p:List (List Spot)→Bool) {σ:Nat→AObj} {nx:Nat} {f:FuncId} {caps:List AV} (hl:l.length<2^31) (hf:∀n∈l,CallSpec P f (.agg [.t (.sl (n.map layT))] :: caps) σ nx (.b (p n)) σ nx):
  CallSpec P 32 [.t (.sl (l.map partT)),.fn (.func f) [] caps] σ nx (.b (l.any p)) σ nx:=by
 have hi:=indexPart_spec l p hl hf
 have ha:=idxG_any p 0 l
 refine CallQ.spec (spec_of Tryz.func32 rfl rfl (by simp [Tryz.f32]) fun B hB hnx hσ=>?_)
 simp only [Tryz.f32] at hB ⊢
 generalize idxG p 0 l=i at *
 refine K_run hB 100 ?_
 simp [go_sem]
 refine K_call rfl rfl rfl (args:=[.t (.sl (l.map partT)),.fn (.func f) [] caps]) (f:=60) (by simp [go_sem]) (by simp [go_sem,hB]) hi ?_
 refine K_run hB 100 ?_
 simp [go_sem]
 rw [Bool.eq_iff_iff,decide_eq_true_eq]
 exact ha
end Go.Proofs.YtnoifgjiipgpoaaGreat

set_option maxRecDepth 4000
namespace Go.Proofs.YtnoifgjiipgpoaaGreat
open Go Go.Proofs.YtnoifgjiipgpoaaGreat.R
def Inst.wholeB (x:Inst) (p:Prf) (q:List (List Spot)):Bool:=match q with
 |[]=>false
 |l :: _=>decide (l.length=1)&& !(q.any fun l=>l.any fun n=>!x.spotB p n)
theorem whole1_spec (x:Inst) (p:Prf) (n:Spot) (D:AV) (hx:0≤x.pairs∧x.pairs≤16) {σ:Nat→AObj} {nx c b:Nat} (hc:c<nx) (hσ:σ c= .box (ckC x p D)) (hb:b<nx) (hσb:σ b= .box [.ptr c 0]):
  CallSpec P 55 [n.a,.ptr b 0] σ nx (.b (!x.spotB p n)) σ nx:=by
 refine spec_keep Tryz.func55 rfl rfl (by simp [Tryz.f55]) (by simp [bnd]) fun hk B hB hnx hσB=>?_
 simp only [Tryz.f55] at hB ⊢
 have hc1:¬c=nx:=by omega
 have hb1:¬b=nx:=by omega
 have hm:=fun σ' (h:σ' c= .box (ckC x p D))=>ckmay_spec x p n D hx (σ:=σ') (nx:=nx+1) (by omega) h
 generalize x.spotB p n=r at *
 refine K_run hB 100 ?_
 simp [go_sem,Spot.a,Spot.cs,hσb,hb1]
 refine K_call rfl rfl rfl (args:=[.ptr c 0,n.a]) (f:=56) (by simp [go_sem,Spot.a,Spot.cs]) (by simp [go_sem,hB]) (hm _ (by simp [oput,hc1,hσ])) ?_
 refine K_run hB 100 ?_
 simp [go_sem]
 exact fun i h1 h2=>absurd h2 (by omega)
theorem whole2_spec (x:Inst) (p:Prf) (l:List Spot) (D:AV) (hx:0≤x.pairs∧x.pairs≤16) (hl:l.length<2^31) {σ:Nat→AObj} {nx c b d:Nat} (hc:c<nx) (hσ:σ c= .box (ckC x p D)) (hb:b<nx) (hσb:σ b= .box [.ptr c 0]) (hd:d<nx) (hσd:σ d= .box [.fn (.func 55) [] [.ptr b 0]]):
  CallSpec P 58 [.t (.sl (l.map Spot.t)),.ptr d 0] σ nx (.b (l.any fun n=>!x.spotB p n)) σ nx:=by
 refine spec_keep Tryz.func58 rfl rfl (by simp [Tryz.f58]) (by simp [bnd]) fun hk B hB hnx hσB=>?_
 simp only [Tryz.f58] at hB ⊢
 have hm:=containsSpot_spec l (fun n=>!x.spotB p n) (σ:=σ) (nx:=nx) (f:=55) (caps:=[.ptr b 0]) hl fun n _=>whole1_spec x p n D hx hc hσ hb hσb
 generalize (l.any fun n=>!x.spotB p n)=r at *
 refine K_run hB 100 ?_
 simp [go_sem,hσd]
 refine K_call rfl rfl rfl (args:=[.t (.sl (l.map Spot.t)),.fn (.func 55) [] [.ptr b 0]]) (f:=59) (by simp [go_sem]) (by simp [go_sem,hB]) hm ?_
 refine K_run hB 100 ?_
 simp [go_sem]
theorem whole_spec (x:Inst) (p:Prf) (q:List (List Spot)) (D:AV) (hx:0≤x.pairs∧x.pairs≤16) (hl:q.length<2^31) (hl2:∀l∈q,l.length<2^31) {σ:Nat→AObj} {nx c:Nat} (hc:c<nx) (hσ:σ c= .box (ckC x p D)):
  CallSpec P 31 [.ptr c 0,.agg [.t (.sl (q.map layT))]] σ nx (.b (x.wholeB p q)) σ nx:=by
 refine spec_keep Tryz.func31 rfl rfl (by simp [Tryz.f31]) (by simp [bnd]) fun hk B hB hnx hσB=>?_
 simp only [Tryz.f31] at hB ⊢
 generalize hR:x.wholeB p q=R
 have hc1:¬c=nx:=by omega
 have hc2:¬c=nx+1:=by omega
 have hc3:¬c=nx+2:=by omega
 have hil:(q.map layT).length=q.length:=List.length_map _
 have fin:∀(a b d:AObj) (i:Nat),i<nx→oput (oput (oput σ nx a) (nx+1) b) (nx+2) d i=σ i:=fun a b d i h=>by simp [oput,show ¬i=nx by omega,show ¬i=nx+1 by omega,show ¬i=nx+2 by omega]
 cases q with
 |nil=>
  rw [Inst.wholeB] at hR
  subst hR
  refine K_run hB 100 ?_
  simp [go_sem]
  exact ⟨by omega,fun i h=>by simp [oput,show ¬i=nx by omega,show ¬i=nx+1 by omega]⟩
 |cons l0 q0=>
  have hl0:(l0.map Spot.t).length=l0.length:=List.length_map _
  have hq0:¬(q0.length:Int)+1=0:=by omega
  have c1':¬l0.length=1→¬(l0.length:Int)=1:=fun h=>by omega
  simp only [Inst.wholeB] at hR
  by_cases c1:l0.length=1
  ·rw [decide_eq_true c1,Bool.true_and] at hR
   have hm:=fun σ' (h1:σ' c= .box (ckC x p D)) (h2:σ' nx= .box [.ptr c 0]) (h3:σ' (nx+2)= .box [.fn (.func 55) [] [.ptr nx 0]])=>containsLay_spec (l0 :: q0) (fun l=>l.any fun n=>!x.spotB p n) (σ:=σ') (nx:=nx+3) (f:=58) (caps:=[.ptr (nx+2) 0]) hl fun l h=>whole2_spec x p l D hx (hl2 l h) (by omega) h1 (by omega) h2 (by omega) h3
   generalize ((l0 :: q0).any fun l=>l.any fun n=>!x.spotB p n)=r at *
   generalize hY:(l0 :: q0).map layT=Y at *
   have hY0:∀h:0<Y.length,Y[0]'h=layT l0:=fun h=>by simp only [←hY];rfl
   have hYl:Y.length=q0.length+1:=by rw [←hY];simp
   refine K_run hB 100 ?_
   simp [go_sem,c1,hl0,hYl,hY0,layT,hq0]
   refine K_call rfl rfl rfl (args:=[.t (.sl Y),.fn (.func 58) [] [.ptr (nx+2) 0]]) (f:=57) (by simp [go_sem]) (by simp [go_sem,hB]) (hm _ (by simp [oput,hc1,hc2,hc3,hσ]) (by simp [oput,show ¬nx=nx+2 by omega]) (by simp [oput])) ?_
   refine K_run hB 100 ?_
   simp [go_sem]
   refine ⟨fun i h=>?_,by rw [←hR];simp⟩
   rw [if_neg (by omega),if_neg (by omega),if_neg (by omega),if_neg (by omega)]
  ·rw [decide_eq_false c1,Bool.false_and] at hR
   subst hR
   refine K_run hB 100 ?_
   simp [go_sem,c1,c1' c1,hl0,layT,hq0]
   exact ⟨by omega,fun i h=>by simp [oput,show ¬i=nx by omega,show ¬i=nx+1 by omega]⟩
theorem check1_spec (x:Inst) (p:Prf) (q:List (List Spot)) (D:AV) (hx:0≤x.pairs∧x.pairs≤16) (hl:q.length<2^31) (hl2:∀l∈q,l.length<2^31) {σ:Nat→AObj} {nx c b:Nat} (hc:c<nx) (hσ:σ c= .box (ckC x p D)) (hb:b<nx) (hσb:σ b= .box [.ptr c 0]):
  CallSpec P 30 [.agg [.t (.sl (q.map layT))],.ptr b 0] σ nx (.b (!x.wholeB p q)) σ nx:=by
 refine spec_keep Tryz.func30 rfl rfl (by simp [Tryz.f30]) (by simp [bnd]) fun hk B hB hnx hσB=>?_
 simp only [Tryz.f30] at hB ⊢
 have hc1:¬c=nx:=by omega
 have hb1:¬b=nx:=by omega
 have hm:=fun σ' (h:σ' c= .box (ckC x p D))=>whole_spec x p q D hx hl hl2 (σ:=σ') (nx:=nx+1) (by omega) h
 generalize x.wholeB p q=r at *
 refine K_run hB 100 ?_
 simp [go_sem,hσb,hb1]
 refine K_call rfl rfl rfl (args:=[.ptr c 0,.agg [.t (.sl (q.map layT))]]) (f:=31) (by simp [go_sem]) (by simp [go_sem,hB]) (hm _ (by simp [oput,hc1,hσ])) ?_
 refine K_run hB 100 ?_
 simp [go_sem]
 exact fun i h1 h2=>absurd h2 (by omega)
end Go.Proofs.YtnoifgjiipgpoaaGreat

set_option maxRecDepth 4000
namespace Go.Proofs.YtnoifgjiipgpoaaGreat
open Go Go.Proofs.YtnoifgjiipgpoaaGreat.R
def Inst.deadB (x:Inst) (s:State) (c least:Int):Bool:=decide (least≤sumI [c,x.low s])
theorem dead_pure (x:Inst) (s:State) (c least:Int) (hl:x.stops.length<2^31) (ho:s.ok):Pure P 62 [x.a,s.a,.i c,.i least] (.b (x.deadB s c least)):=by
 have ha:=at_pure x s hl ho
 have hs:=sum_pure [c,x.low s] (by simp)
 rw [Inst.deadB]
 generalize x.low s=d at *
 refine pure_of Tryz.func62 rfl rfl (by simp [Tryz.f62]) (by simp [bnd,bnd.bndL,Inst.a,State.a,State.cs]) (by simp [bnd,bnd.bndL]) fun B hB hnx=>?_
 simp only [Tryz.f62] at hB ⊢
 refine K_run hB 100 ?_
 simp [go_sem,Inst.a,State.a,State.cs]
 refine K_call rfl rfl rfl (args:=[x.a,s.a]) (f:=70) (by simp [go_sem,Inst.a,State.a,State.cs]) (by simp [go_sem,hB]) ((ha).spec _ _) ?_
 refine K_run hB 100 ?_
 simp [go_sem]
 refine K_call rfl rfl rfl (args:=[.fsl (ints [c,d])]) (f:=65) (by simp [go_sem,ints]) (by simp [go_sem,hB]) ((Pure.loose hs (by simp [bnd])).spec _ _) ?_
 refine K_run hB 100 ?_
 simp [go_sem]
def Prf.first (p:Prf) (k:Nat):Option Spot:=match p.parts[k]? with
 |some ((n :: _) :: _)=>some n
 |_=>none
def Prf.leadsB (p:Prf) (k:Nat) (n:Spot):Bool:=match p.first (n.part-1).toNat with
 |some f=>decide ((k:Int)<n.part-1)&&(decide (f.s=n.s)&&decide (f.cost≤n.cost))
 |none=>false
theorem first_some {p:Prf} {j:Nat} {f:Spot} (h:p.first j=some f):∃(hj:j<p.parts.length) (l0:List Spot) (q0:List (List Spot)),p.parts[j]=(f :: l0) :: q0:=by
 unfold Prf.first at h
 split at h
 ·rename_i n l0 q0 e
  cases h
  obtain ⟨h1,h2⟩:=List.getElem?_eq_some_iff.1 e
  exact ⟨h1,l0,q0,h2⟩
 ·cases h
theorem leads_spec (x:Inst) (p:Prf) (n:Spot) (D:AV) (k j:Nat) {f:Spot} (hj:n.part=j+1) (hf:p.first j=some f) (hpl:p.parts.length<2^31) {σ:Nat→AObj} {nx c:Nat} (hc:c<nx) (hσ:σ c= .box (ckC x p D)):
  CallSpec P 63 [.ptr c 0,.i k,n.a] σ nx (.b (p.leadsB k n)) σ nx:=by
 generalize hR:p.leadsB k n=R
 refine spec_keep Tryz.func63 rfl rfl (by simp [Tryz.f63]) (by simp [bnd]) fun hk B hB hnx hσB=>?_
 simp only [Tryz.f63] at hB ⊢
 rw [Prf.leadsB,hj,show ((j:Int)+1-1).toNat=j by omega,hf] at hR
 simp only at hR
 obtain ⟨hjl,l0,q0,hpj⟩:=first_some hf
 have hc1:¬c=nx:=by omega
 have hc2:¬c=nx+1:=by omega
 have w1:=w64 ((j:Int)+1-1) (by omega)
 have w1':IntKind.i64.wrap (j:Int)=j:=w64 _ (by omega)
 have e1:(j:Int)+1-1=j:=by omega
 rw [e1] at w1 hR
 have hYl:(p.parts.map partT).length=p.parts.length:=List.length_map _
 have hY:∀h:j<(p.parts.map partT).length,(p.parts.map partT)[j]'h=[.sl ([.sl (f.t :: l0.map Spot.t)] :: q0.map layT)]:=fun h=>by rw [List.getElem_map,hpj];rfl
 have hck:ckC x p D=[.t (.i x.pairs),.t (.i x.cars),.t (.i x.room),.t (.sl (x.stops.map Stop.t)),.i p.least,.t (.sl (p.parts.map partT)),D]:=rfl
 generalize p.parts.map partT=Y at *
 have fin:∀(a b:AObj) (i:Nat),i<nx→oput (oput σ nx a) (nx+1) b i=σ i:=fun a b i h=>by simp [oput,show ¬i=nx by omega,show ¬i=nx+1 by omega]
 refine K_run hB 100 ?_
 simp [go_sem,Spot.a,Spot.cs]
 refine K_drawnF [15,16] [0,1,2,3,4,5,6,7,8,9,10,11,12,13,14] rfl (by rw [hB];kernel_rfl) (by kernel_rfl) fun ht hf'=>?_
 by_cases c3:k<j
 rotate_left
 ·rw [decide_eq_false (by omega),Bool.false_and] at hR
  subst hR
  refine K_run hB 100 ?_
  simp [go_sem,ht,hf',hσ,hc1,hc2,hck,hj,w1,w1',hYl,hjl,hY,Spot.t,c3]
  exact ⟨by omega,fun i h=>by simp [oput,show ¬i=nx by omega,show ¬i=nx+1 by omega]⟩
 rw [decide_eq_true (by omega),Bool.true_and] at hR
 refine K_run hB 100 ?_
 simp [go_sem,ht,hf',hσ,hc1,hc2,hck,hj,w1,w1',hYl,hjl,hY,Spot.t,c3]
 refine K_eq (op:=.eql) (t:=52) (t':=52) (x:=.tmp 30) (y:=.tmp 32) (xs:=f.s.cs) (ys:=n.s.cs) rfl rfl (by simp [go_sem,hB]) (by simp [go_sem,State.cs]) (by simp [go_sem,State.cs]) state_guard (state_eq f.s n.s) rfl ?_
 by_cases c4:f.s=n.s
 ·rw [decide_eq_true c4,Bool.true_and] at hR
  refine K_run hB 100 ?_
  simp [go_sem,c4]
  refine ⟨by omega,fun i h=>?_,hR⟩
  rw [if_neg (by omega),if_neg (by omega),if_neg (by omega)]
 ·rw [decide_eq_false c4,Bool.false_and] at hR
  subst hR
  refine K_run hB 100 ?_
  simp [go_sem,c4]
  exact ⟨by omega,fun i h=>by simp [oput,show ¬i=nx by omega,show ¬i=nx+1 by omega]⟩
theorem goes1_spec (t:State) (cost:Int) (n:Spot) {σ:Nat→AObj} {nx b1 b2:Nat} (hb1:b1<nx) (hb2:b2<nx) (h1:σ b1= .box [.i cost]) (h2:σ b2= .box t.cs):
  CallSpec P 94 [n.a,.ptr b1 0,.ptr b2 0] σ nx (.b (decide (n.cost≤cost)&&coversB n.s t)) σ nx:=by
 refine spec_keep Tryz.func94 rfl rfl (by simp [Tryz.f94]) (by simp [bnd]) fun hk B hB hnx hσB=>?_
 simp only [Tryz.f94] at hB ⊢
 have hcv:=covers_pure n.s t
 have n1:¬b1=nx:=by omega
 have n2:¬b2=nx:=by omega
 by_cases c1:n.cost≤cost
 ·rw [decide_eq_true c1,Bool.true_and]
  refine K_run hB 100 ?_
  simp [go_sem,Spot.a,Spot.cs,n1,h1,c1,n2,h2,State.cs]
  refine K_call rfl rfl rfl (args:=[n.s.a,t.a]) (f:=95) (by simp [go_sem,State.a,State.cs]) (by simp [go_sem,hB]) ((hcv).spec _ _) ?_
  refine K_run hB 100 ?_
  simp [go_sem]
  exact fun i h1 h2=>absurd h2 (by omega)
 ·rw [decide_eq_false c1,Bool.false_and]
  refine K_run hB 100 ?_
  simp [go_sem,Spot.a,Spot.cs,n1,h1,c1]
  exact fun i h1 h2=>absurd h2 (by omega)
def Inst.goB (x:Inst) (least:Int) (n:Spot) (next:List Spot) (j:Int):Bool:=
 x.deadB (x.move n.s j).1 (sumI [n.cost,(x.move n.s j).2.1]) least||next.any fun m=>decide (m.cost≤sumI [n.cost,(x.move n.s j).2.1])&&coversB m.s (x.move n.s j).1
def Inst.goesB (x:Inst) (least:Int) (n:Spot) (next:List Spot):Bool:=(x.moves n.s).all (x.goB least n next)
theorem goes_spec (x:Inst) (p:Prf) (n:Spot) (next:List Spot) (D:AV) (hl:x.stops.length<2^31) (ho:n.s.ok) (hnl:next.length<2^31) {σ:Nat→AObj} {nx c:Nat} (hc:c<nx) (hσ:σ c= .box (ckC x p D)):
  CallSpec P 67 [.ptr c 0,n.a,.t (.sl (next.map Spot.t))] σ nx (.b (x.goesB p.least n next)) σ nx:=by
 generalize hR:x.goesB p.least n next=R
 refine spec_keep Tryz.func67 rfl rfl (by simp [Tryz.f67]) (by simp [bnd]) fun hk B hB hnx hσB=>?_
 simp only [Tryz.f67] at hB ⊢
 have hms:=moves_pure x n.s (by omega) ho
 have hmv:=fun j=>move_pure x n.s j (by omega) ho
 have hmok:=fun j=>move_ok x j ho
 have hck:ckC x p D=[.t (.i x.pairs),.t (.i x.cars),.t (.i x.room),.t (.sl (x.stops.map Stop.t)),.i p.least,.t (.sl (p.parts.map partT)),D]:=rfl
 have hgo:∀j,x.goB p.least n next j=(x.deadB (x.move n.s j).1 (sumI [n.cost,(x.move n.s j).2.1]) p.least||next.any fun m=>decide (m.cost≤sumI [n.cost,(x.move n.s j).2.1])&&coversB m.s (x.move n.s j).1):=fun j=>rfl
 have hk33:(x.moves n.s).length<2^63:=by
  rw [moves_can]
  have:=canB_len (fun k=>(x.move n.s k).2.2) x.stops.length
  omega
 have hml:(ints (x.moves n.s)).length=(x.moves n.s).length:=List.length_map _
 have hmg:∀(i:Nat) (h:i<(x.moves n.s).length),(ints (x.moves n.s))[i]'(by rw [hml];exact h)=[.i ((x.moves n.s)[i])]:=fun i h=>ints_getS _ h
 have hc1:¬c=nx:=by omega
 rw [Inst.goesB] at hR
 refine K_run hB 100 ?_
 simp [go_sem,Spot.a,Spot.cs]
 refine K_drawn [] rfl (by rw [hB];kernel_rfl) ?_
 refine K_run hB 100 ?_
 simp [go_sem,hσ,hc1,hck]
 refine K_dCallP rfl rfl rfl (args:=[x.a,n.s.a]) (f:=92) (by simp [go_sem,Inst.a,State.a,State.cs]) (hms) ?_
 generalize hY:ints (x.moves n.s)=Y at *
 generalize x.moves n.s=M at *
 refine K_run hB 100 ?_
 simp [go_sem,hml]
 refine K_loopP (α:=Nat×(Nat→AObj)×Nat) (fun (k,τ,ny)=>k≤M.length∧(M.drop k).all (x.goB p.least n next)=R∧(∀i,i<nx→τ i=σ i)∧τ nx= .box n.cs∧nx<ny) (fun (k,τ,ny)=>⟨sl [(0,.ptr c 0),(2,.t (.sl (next.map Spot.t))),(4,.ptr nx 0),(20,.t (.sl Y)),(21,.i M.length),(22,.i k)],τ,ny⟩) (fun a=>M.length-a.1) (0,_,nx+1) ?_ (Imp.slots (by simp [go_sem]) rfl rfl) ?_
 ·exact ⟨Nat.zero_le _,hR,fun i h=>by simp [oput,show ¬i=nx by omega],by simp [oput,Spot.cs],by omega⟩
 rintro ⟨k,τ,ny⟩ ⟨g1,g2,g3,g4,g5⟩
 refine K_run hB 60 ?_
 simp [go_sem]
 refine fork_dec (fun hi=>?_) (fun hi=>?_)
 ·have hii:IntKind.i64.wrap ((k:Int)+1)=((k+1:Nat):Int):=by rw [w64 ((k:Int)+1) (by omega)];rfl
  have hgeti:∀h:k<Y.length,Y[k]'h=[.i M[k]]:=fun h=>hmg k hi
  rw [List.drop_eq_getElem_cons hi,List.all_cons] at g2
  generalize M[k]=j at *
  have hmj:=hmv j
  have hoj:=hmok j
  have hgj:=hgo j
  generalize x.goB p.least n next j=G at *
  have hτc:τ c= .box (ckC x p D):=by rw [g3 c hc,hσ]
  have n1:¬c=ny:=by omega
  have n2:¬nx=ny:=by omega
  have n3:¬c=ny+1:=by omega
  generalize x.move n.s j=V at *
  obtain ⟨t,d,is⟩:=V
  simp only at hgj hoj
  have hsum:=sum_pure [n.cost,d] (by simp)
  generalize hcost:sumI [n.cost,d]=cost at *
  have hdead:=dead_pure x t cost p.least hl hoj
  have hany:=fun τ' (h1:τ' (ny+1)= .box [.i cost]) (h2:τ' ny= .box t.cs)=>containsSpot_spec next (fun m=>decide (m.cost≤cost)&&coversB m.s t) (σ:=τ') (nx:=ny+2) (f:=94) (caps:=[.ptr (ny+1) 0,.ptr ny 0]) hnl fun m _=>goes1_spec t cost m (by omega) (by omega) h1 h2
  simp [go_sem,hml,hi,hgeti]
  refine K_drawnF [12,13] [0,1,2,3,4,5,6,7,8,9,10,11] rfl (by rw [hB];kernel_rfl) (by kernel_rfl) fun ht hf'=>?_
  refine K_run hB 100 ?_
  simp [go_sem,ht,hf',hτc,hck,g4,Spot.cs]
  refine K_dCallP rfl rfl rfl (args:=[x.a,n.s.a,.i j]) (f:=93) (by simp [go_sem,Inst.a,State.a,State.cs]) (hmj) ?_
  refine K_run hB 100 ?_
  simp [go_sem,ht,hf',mv,State.a,State.cs,g4,n1,n2,hτc,hck,Spot.cs]
  refine K_call rfl rfl rfl (args:=[.fsl (ints [n.cost,d])]) (f:=65) (by simp [go_sem,ints]) (by simp [go_sem,hB]) ((Pure.loose hsum (by simp [bnd])).spec _ _) ?_
  have n4:¬ny=ny+1:=by omega
  refine K_run hB 100 ?_
  simp [go_sem]
  refine K_drawnT [16] rfl (by rw [hB];kernel_rfl) (by kernel_rfl) fun ht=>?_
  refine K_run hB 100 ?_
  simp [go_sem,ht,hτc,hck,n1,n2,n3,n4]
  refine K_dCallP rfl rfl rfl (args:=[x.a,t.a,.i cost,.i p.least]) (f:=62) (by simp [go_sem,Inst.a,State.a,State.cs]) (hdead) ?_
  cases hd:x.deadB t cost p.least with
  |true=>
   rw [hd,Bool.true_or] at hgj
   subst hgj
   rw [Bool.true_and] at g2
   refine K_run hB 100 ?_
   simp [go_sem,ht,hii]
   refine Next.mk (k+1,_,ny+2) ?_ (Imp.slots (by simp [go_sem]) rfl rfl) (by simp only;omega)
   exact ⟨by simp only;omega,g2,fun i h=>by simp [oput,show ¬i=ny by omega,show ¬i=ny+1 by omega,g3 i h],by simp [oput,n2,show ¬nx=ny+1 by omega,g4,Spot.cs],by simp only;omega⟩
  |false=>
   rw [hd,Bool.false_or] at hgj
   refine K_run hB 100 ?_
   simp [go_sem,ht]
   refine K_dCall rfl rfl rfl (args:=[.t (.sl (next.map Spot.t)),.fn (.func 94) [] [.ptr (ny+1) 0,.ptr ny 0]]) (f:=59) (by simp [go_sem]) (hany _ (by simp [oput]) (by simp [oput,n4,State.cs])) (by decide) (okPends_does (by simp [go_sem])) ?_
   rw [hgj] at g2
   cases hn:next.any fun m=>decide (m.cost≤cost)&&coversB m.s t with
   |true=>
    rw [hn,Bool.true_and] at g2
    refine K_run hB 100 ?_
    simp [go_sem,ht,hii]
    refine Next.mk (k+1,_,ny+2) ?_ (Imp.slots (by simp [go_sem]) rfl rfl) (by simp only;omega)
    exact ⟨by simp only;omega,g2,fun i h=>by simp [oput,show ¬i=ny by omega,show ¬i=ny+1 by omega,g3 i h],by simp [oput,n2,show ¬nx=ny+1 by omega,g4,Spot.cs],by simp only;omega⟩
   |false=>
    rw [hn,Bool.false_and] at g2
    subst g2
    refine K_run hB 100 ?_
    simp [go_sem,ht]
    exact ⟨by omega,fun i h=>by simp [oput,show ¬i=ny by omega,show ¬i=ny+1 by omega,g3 i h]⟩
 ·have:k=M.length:=by omega
  subst this
  rw [List.drop_length,List.all_nil] at g2
  simp [go_sem]
  exact ⟨by omega,g3,g2.symm⟩
end Go.Proofs.YtnoifgjiipgpoaaGreat

set_option maxRecDepth 4000
namespace Go.Proofs.YtnoifgjiipgpoaaGreat
open Go Go.Proofs.YtnoifgjiipgpoaaGreat.R
def Inst.holdsB (x:Inst) (p:Prf) (k i:Nat) (n:Spot) (dk:Int):Bool:=
 if x.deadB n.s n.cost p.least=true then true
 else if 0<n.part then p.leadsB k n
 else if (x.endS n.s).2=true∧sumI [n.cost,(x.endS n.s).1]<p.least then false
 else if x.deep≤IntKind.i64.wrap (dk+i) then true
 else x.goesB p.least n (((p.parts[k]?).getD []).getD (i+1) [])
theorem holds_spec (x:Inst) (p:Prf) (n:Spot) (k i d:Nat) (dl:List Int) (q:List (List Spot)) (hl:x.stops.length<2^31) (ho:n.s.ok) (hpl:p.parts.length<2^31) (hq:p.parts[k]? =some q) (hql:q.length<2^31) (hqn:∀l∈q,l.length<2^31) (hi:i<2^31) (hkd:k<dl.length)
  (hlead:0<n.part→∃j f,n.part=((j:Nat):Int)+1∧p.first j=some f) {σ:Nat→AObj} {nx c:Nat} (hc:c<nx) (hσ:σ c= .box (ckC x p (.ref d))) (hd:d<nx) (hσd:σ d= .arr 1 (ints dl)):
  CallSpec P 34 [.ptr c 0,.i k,.i i,n.a] σ nx (.b (x.holdsB p k i n dl[k])) σ nx:=by
 generalize hR:x.holdsB p k i n dl[k]=R
 refine spec_keep Tryz.func34 rfl rfl (by simp [Tryz.f34]) (by simp [bnd]) fun hk B hB hnx hσB=>?_
 simp only [Tryz.f34] at hB ⊢
 have hdead:=dead_pure x n.s n.cost p.least hl ho
 have hen:=end_pure x n.s (by omega) ho
 have hdeep:=deep_pure x (by omega)
 have hleads:=fun (τ:Nat→AObj) (h:0<n.part) (h1:τ c= .box (ckC x p (.ref d)))=>match hlead h with
  |⟨j,f,e1,e2⟩=>leads_spec x p n (.ref d) k j e1 e2 hpl (σ:=τ) (nx:=nx+1) (by omega) h1
 have hck:ckC x p (.ref d)=[.t (.i x.pairs),.t (.i x.cars),.t (.i x.room),.t (.sl (x.stops.map Stop.t)),.i p.least,.t (.sl (p.parts.map partT)),.ref d]:=rfl
 have hc1:¬c=nx:=by omega
 have hd1:¬d=nx:=by omega
 rw [Inst.holdsB,hq,Option.getD_some] at hR
 obtain ⟨hkp,hqk⟩:=List.getElem?_eq_some_iff.1 hq
 have hYl:(p.parts.map partT).length=p.parts.length:=List.length_map _
 have hY:∀h:k<(p.parts.map partT).length,(p.parts.map partT)[k]'h=[.sl (q.map layT)]:=fun h=>by rw [List.getElem_map,hqk];rfl
 have hdl:(ints dl).length=dl.length:=List.length_map _
 have hdg:∀h:k<(ints dl).length,(ints dl)[k]'h=[.i dl[k]]:=fun h=>ints_getS _ hkd
 have hQl:(q.map layT).length=q.length:=List.length_map _
 have hgoes:=fun (τ:Nat→AObj) (next:List Spot) (hn:next.length<2^31) (h1:τ c= .box (ckC x p (.ref d)))=>goes_spec x p n next (.ref d) hl ho hn (σ:=τ) (nx:=nx+1) (by omega) h1
 generalize dl[k]=dk at *
 have fin:∀(a:AObj) (i:Nat),i<nx→oput σ nx a i=σ i:=fun a i h=>by simp [oput,show ¬i=nx by omega]
 refine K_run hB 100 ?_
 simp [go_sem,Spot.a,Spot.cs]
 refine K_drawn [] rfl (by rw [hB];kernel_rfl) ?_
 refine K_run hB 100 ?_
 simp [go_sem,hσ,hc1,hck]
 refine K_dCallP rfl rfl rfl (args:=[x.a,n.s.a,.i n.cost,.i p.least]) (f:=62) (by simp [go_sem,Inst.a,State.a,State.cs]) (hdead) ?_
 by_cases c1:x.deadB n.s n.cost p.least=true
 ·rw [if_pos c1] at hR
  subst hR
  refine K_run hB 100 ?_
  simp [go_sem,c1]
  exact fun i h1 h2=>absurd h2 (by omega)
 rw [if_neg c1] at hR
 by_cases c2:0<n.part
 ·rw [if_pos c2] at hR
  refine K_run hB 100 ?_
  simp [go_sem,c1,c2]
  refine K_call rfl rfl rfl (args:=[.ptr c 0,.i k,n.a]) (f:=63) (by simp [go_sem,Spot.a,Spot.cs]) (by simp [go_sem,hB]) (hleads _ c2 (by simp [oput,hc1,hσ])) ?_
  refine K_run hB 100 ?_
  simp [go_sem]
  exact ⟨fun i h1 h2=>absurd h2 (by omega),hR⟩
 rw [if_neg c2] at hR
 refine K_run hB 100 ?_
 simp [go_sem,c1,c2]
 refine K_drawn [] rfl (by rw [hB];kernel_rfl) ?_
 refine K_run hB 100 ?_
 simp [go_sem,hσ,hc1,hck]
 refine K_dCallP rfl rfl rfl (args:=[x.a,n.s.a]) (f:=64) (by simp [go_sem,Inst.a,State.a,State.cs]) (hen) ?_
 generalize x.endS n.s=E at *
 obtain ⟨ec,eb⟩:=E
 simp only at hR
 have hsum:=sum_pure [n.cost,ec] (by simp)
 generalize sumI [n.cost,ec]=sm at *
 refine K_run hB 100 ?_
 simp [go_sem]
 have w1:IntKind.i64.wrap ((i:Int)+1)=(i:Int)+1:=w64 _ (by omega)
 have c5':i+1<q.length→(i:Int)+1<q.length:=fun h=>by omega
 have c8':¬i+1<q.length→¬(i:Int)+1<q.length:=fun h=>by omega
 have c6':(0:Int)≤(i:Int)+1:=by omega
 cases eb with
 |false=>
  rw [if_neg (by simp)] at hR
  refine K_drawn [] rfl (by rw [hB];kernel_rfl) ?_
  refine K_run hB 100 ?_
  simp [go_sem]
  refine K_drawn [] rfl (by rw [hB];kernel_rfl) ?_
  refine K_run hB 100 ?_
  simp [go_sem,hσ,hc1,hck,hσd,hd1,hdl,hkd,hdg,Nat.mod_one]
  refine K_dCallP rfl rfl rfl (args:=[x.a]) (f:=66) (by simp [go_sem,Inst.a]) (hdeep) ?_
  by_cases c4:x.deep≤IntKind.i64.wrap (dk+i)
  ·rw [if_pos c4] at hR
   subst hR
   refine K_run hB 100 ?_
   simp [go_sem,c4]
   exact fun i h1 h2=>absurd h2 (by omega)
  rw [if_neg c4] at hR
  by_cases c5:i+1<q.length
  ·have hnl:(q[i+1]).length<2^31:=hqn _ (List.getElem_mem _)
   have hQg:∀h:i+1<(q.map layT).length,(q.map layT)[i+1]'h=[.sl ((q[i+1]).map Spot.t)]:=fun h=>by rw [List.getElem_map];rfl
   have hgd:q.getD (i+1) []=q[i+1]:=by rw [List.getD_eq_getElem?_getD,List.getElem?_eq_getElem c5];rfl
   rw [hgd] at hR
   generalize q[i+1]=next at *
   generalize q.map layT=Q at *
   generalize p.parts.map partT=Y at *
   have hg:=fun τ h=>hgoes τ next hnl h
   generalize x.goesB p.least n next=G at *
   refine K_run hB 100 ?_
   simp [go_sem,c4,hσ,hc1,hck,hYl,hkp,hY,w1,c5,hQl,hQg,c5' c5,c6']
   refine K_call rfl rfl rfl (args:=[.ptr c 0,n.a,.t (.sl (next.map Spot.t))]) (f:=67) (by simp [go_sem,Spot.a,Spot.cs]) (by simp [go_sem,hB]) (hg _ (by simp [oput,hc1,hσ])) ?_
   refine K_run hB 100 ?_
   simp [go_sem]
   exact ⟨fun i h1 h2=>absurd h2 (by omega),hR⟩
  ·have hgd:q.getD (i+1) []=[]:=by rw [List.getD_eq_getElem?_getD,List.getElem?_eq_none (by omega)];rfl
   rw [hgd] at hR
   have hg:=fun τ h=>hgoes τ [] (by simp) h
   generalize x.goesB p.least n []=G at *
   generalize q.map layT=Q at *
   generalize p.parts.map partT=Y at *
   refine K_run hB 100 ?_
   simp [go_sem,c4,hσ,hc1,hck,hYl,hkp,hY,w1,hQl,c5,c8' c5]
   refine K_imp Imp.loose ?_
   refine K_call rfl rfl rfl (args:=[.ptr c 0,n.a,.t (.sl (([]:List Spot).map Spot.t))]) (f:=67) (by simp [go_sem,loosen,loosen.loosenL,Spot.a,Spot.cs]) (by simp [go_sem,hB]) (hg _ (by simp [oput,hc1,hσ])) ?_
   refine K_run hB 100 ?_
   simp [go_sem]
   exact ⟨fun i h1 h2=>absurd h2 (by omega),hR⟩
 |true=>
  by_cases c3:sm<p.least
  ·rw [if_pos ⟨rfl,c3⟩] at hR
   subst hR
   refine K_drawn [] rfl (by rw [hB];kernel_rfl) ?_
   refine K_run hB 100 ?_
   simp [go_sem,hσ,hc1,hck]
   refine K_dCallP rfl rfl rfl (args:=[.fsl (ints [n.cost,ec])]) (f:=65) (by simp [go_sem,ints]) (Pure.loose hsum (by simp [bnd])) ?_
   refine K_run hB 100 ?_
   simp [go_sem,hσ,hc1,hck,c3]
   exact fun i h1 h2=>absurd h2 (by omega)
  rw [if_neg (fun h=>c3 h.2)] at hR
  refine K_drawn [] rfl (by rw [hB];kernel_rfl) ?_
  refine K_run hB 100 ?_
  simp [go_sem,hσ,hc1,hck]
  refine K_dCallP rfl rfl rfl (args:=[.fsl (ints [n.cost,ec])]) (f:=65) (by simp [go_sem,ints]) (Pure.loose hsum (by simp [bnd])) ?_
  refine K_run hB 100 ?_
  simp [go_sem,hσ,hc1,hck,c3]
  refine K_drawn [] rfl (by rw [hB];kernel_rfl) ?_
  refine K_run hB 100 ?_
  simp [go_sem,hσ,hc1,hck,hσd,hd1,hdl,hkd,hdg,Nat.mod_one]
  refine K_dCallP rfl rfl rfl (args:=[x.a]) (f:=66) (by simp [go_sem,Inst.a]) (hdeep) ?_
  by_cases c4:x.deep≤IntKind.i64.wrap (dk+i)
  ·rw [if_pos c4] at hR
   subst hR
   refine K_run hB 100 ?_
   simp [go_sem,c4]
   exact fun i h1 h2=>absurd h2 (by omega)
  rw [if_neg c4] at hR
  by_cases c5:i+1<q.length
  ·have hnl:(q[i+1]).length<2^31:=hqn _ (List.getElem_mem _)
   have hQg:∀h:i+1<(q.map layT).length,(q.map layT)[i+1]'h=[.sl ((q[i+1]).map Spot.t)]:=fun h=>by rw [List.getElem_map];rfl
   have hgd:q.getD (i+1) []=q[i+1]:=by rw [List.getD_eq_getElem?_getD,List.getElem?_eq_getElem c5];rfl
   rw [hgd] at hR
   generalize q[i+1]=next at *
   generalize q.map layT=Q at *
   generalize p.parts.map partT=Y at *
   have hg:=fun τ h=>hgoes τ next hnl h
   generalize x.goesB p.least n next=G at *
   refine K_run hB 100 ?_
   simp [go_sem,c4,hσ,hc1,hck,hYl,hkp,hY,w1,c5,hQl,hQg,c5' c5,c6']
   refine K_call rfl rfl rfl (args:=[.ptr c 0,n.a,.t (.sl (next.map Spot.t))]) (f:=67) (by simp [go_sem,Spot.a,Spot.cs]) (by simp [go_sem,hB]) (hg _ (by simp [oput,hc1,hσ])) ?_
   refine K_run hB 100 ?_
   simp [go_sem]
   exact ⟨fun i h1 h2=>absurd h2 (by omega),hR⟩
  ·have hgd:q.getD (i+1) []=[]:=by rw [List.getD_eq_getElem?_getD,List.getElem?_eq_none (by omega)];rfl
   rw [hgd] at hR
   have hg:=fun τ h=>hgoes τ [] (by simp) h
   generalize x.goesB p.least n []=G at *
   generalize q.map layT=Q at *
   generalize p.parts.map partT=Y at *
   refine K_run hB 100 ?_
   simp [go_sem,c4,hσ,hc1,hck,hYl,hkp,hY,w1,hQl,c5,c8' c5]
   refine K_imp Imp.loose ?_
   refine K_call rfl rfl rfl (args:=[.ptr c 0,n.a,.t (.sl (([]:List Spot).map Spot.t))]) (f:=67) (by simp [go_sem,loosen,loosen.loosenL,Spot.a,Spot.cs]) (by simp [go_sem,hB]) (hg _ (by simp [oput,hc1,hσ])) ?_
   refine K_run hB 100 ?_
   simp [go_sem]
   exact ⟨fun i h1 h2=>absurd h2 (by omega),hR⟩
end Go.Proofs.YtnoifgjiipgpoaaGreat

set_option maxRecDepth 4000
namespace Go.Proofs.YtnoifgjiipgpoaaGreat
open Go Go.Proofs.YtnoifgjiipgpoaaGreat.R
def infI:Int:=1152921504606846976
def stepD (k i:Nat) (n:Spot) (dl:List Int):List Int:=
 if (k:Int)<n.part-1 then dl.set (n.part-1).toNat (min (dl.getD (n.part-1).toNat 0) (IntKind.i64.wrap (dl.getD k 0+i))) else dl
def Inst.layGo (x:Inst) (p:Prf) (k i:Nat):List Spot→List Int→Option (List Int)
 |[],dl=>some dl
 |n :: l,dl=>if x.holdsB p k i n (dl.getD k 0)=true then x.layGo p k i l (stepD k i n dl) else none
def Inst.partGo (x:Inst) (p:Prf) (k:Nat):Nat→List (List Spot)→List Int→Option (List Int)
 |_,[],dl=>some dl
 |i,l :: q,dl=>match x.layGo p k i l dl with
  |none=>none
  |some dl'=>x.partGo p k (i+1) q dl'
def Inst.partsGo (x:Inst) (p:Prf):Nat→List (List (List Spot))→List Int→Option (List Int)
 |_,[],dl=>some dl
 |k,q :: ps,dl=>if dl.getD k 0=infI then x.partsGo p (k+1) ps dl else match x.partGo p k 0 q dl with
  |none=>none
  |some dl'=>x.partsGo p (k+1) ps dl'
def Inst.mayP (x:Inst) (p:Prf):Bool:=x.may&&(decide (0≤p.least)&&(decide (p.least≤infI)&&(decide (p.parts≠[])&&p.parts.all (x.wholeB p))))
def Inst.checkE (x:Inst) (p:Prf):Int:=
 if x.mayP p=true then match p.first 0 with
  |none=>10
  |some f=>if f.s=x.rootS∧f.cost=0 then match x.partsGo p 0 p.parts ((List.replicate p.parts.length infI).set 0 0) with
   |none=>10
   |some _=>0
  else 10
 else 1
def Prf.less (p:Prf) (m:Int):Prf:=⟨m,p.parts⟩
theorem check_zero {x:Inst} {p:Prf} (h:x.checkE p=0):x.mayP p=true∧∃f F,p.first 0=some f∧f.s=x.rootS∧f.cost=0∧x.partsGo p 0 p.parts ((List.replicate p.parts.length infI).set 0 0)=some F:=by
 unfold Inst.checkE at h
 split at h
 ·rename_i c1
  split at h
  ·cases h
  ·rename_i f hf
   split at h
   ·rename_i c2
    split at h
    ·cases h
    ·rename_i F hF
     exact ⟨c1,f,F,hf,c2.1,c2.2,hF⟩
   ·cases h
 ·cases h
end Go.Proofs.YtnoifgjiipgpoaaGreat

set_option maxRecDepth 4000
namespace Go.Proofs.YtnoifgjiipgpoaaGreat
open Go Go.Proofs.YtnoifgjiipgpoaaGreat.R
structure Kept (k:Nat) (a b:List Int):Prop where
 len:b.length=a.length
 same:∀j,j≤k→b.getD j 0=a.getD j 0
 less:∀j,b.getD j 0≤a.getD j 0
 pos:(∀j,0≤a.getD j 0∧a.getD j 0≤infI)→∀j,0≤b.getD j 0∧b.getD j 0≤infI
theorem Kept.refl (k:Nat) (a:List Int):Kept k a a:=⟨rfl,fun _ _=>rfl,fun _=>Int.le_refl _,fun h=>h⟩
theorem Kept.trans {k:Nat} {a b c:List Int} (h1:Kept k a b) (h2:Kept k b c):Kept k a c:=
 ⟨h2.len.trans h1.len,fun j h=>(h2.same j h).trans (h1.same j h),fun j=>Int.le_trans (h2.less j) (h1.less j),fun h=>h2.pos (h1.pos h)⟩
theorem getD_set {l:List Int} {i j:Nat} {v:Int} (hi:i<l.length):(l.set i v).getD j 0=if i=j then v else l.getD j 0:=by
 rw [List.getD_eq_getElem?_getD,List.getElem?_set,List.getD_eq_getElem?_getD]
 by_cases h:i=j
 ·subst h;simp [hi]
 ·simp [h]
theorem wrap_dk {a:List Int} {k i:Nat} (hr:∀j,0≤a.getD j 0∧a.getD j 0≤infI) (hi:i<2^31):IntKind.i64.wrap (a.getD k 0+i)=a.getD k 0+i:=by
 have:=hr k
 rw [infI] at this
 exact w64 _ (by omega)
theorem step_kept {k i:Nat} {n:Spot} {a:List Int} (hr:∀j,0≤a.getD j 0∧a.getD j 0≤infI) (hi:i<2^31):Kept k a (stepD k i n a)∧((k:Int)<n.part-1→(n.part-1).toNat<a.length→(stepD k i n a).getD (n.part-1).toNat 0≤a.getD k 0+i):=by
 have hw:=wrap_dk (k:=k) hr hi
 unfold stepD
 rw [hw]
 split
 ·rename_i c
  by_cases hl:(n.part-1).toNat<a.length
  ·have hg:=fun j=>getD_set (l:=a) (j:=j) (v:=min (a.getD (n.part-1).toNat 0) (a.getD k 0+i)) hl
   have hk:=hr k
   have hp:=hr (n.part-1).toNat
   refine ⟨⟨List.length_set,fun j hj=>?_,fun j=>?_,fun _ j=>?_⟩,fun _ _=>?_⟩
   ·rw [hg,if_neg (by omega)]
   ·rw [hg]
    split
    ·rename_i e;rw [←e];omega
    ·exact Int.le_refl _
   ·rw [hg]
    split
    ·omega
    ·exact hr j
   ·rw [hg,if_pos rfl];omega
  ·rw [List.set_eq_of_length_le (by omega)]
   exact ⟨Kept.refl k a,fun _ h=>absurd h hl⟩
 ·rename_i c
  exact ⟨Kept.refl k a,fun h=>absurd h c⟩
def Tells (x:Inst) (p:Prf) (k i:Nat) (dk:Int) (F:List Int) (n:Spot):Prop:=
 x.holdsB p k i n dk=true∧((k:Int)<n.part-1→(n.part-1).toNat<F.length→F.getD (n.part-1).toNat 0≤dk+i)
theorem Tells.kept {x:Inst} {p:Prf} {k i m:Nat} {dk:Int} {a b:List Int} {n:Spot} (h:Tells x p k i dk a n) (hk:Kept m a b):Tells x p k i dk b n:=
 ⟨h.1,fun h1 h2=>Int.le_trans (hk.less _) (h.2 h1 (by rw [←hk.len];exact h2))⟩
theorem lay_tells {x:Inst} {p:Prf} {k i:Nat} (hi:i<2^31):∀(l:List Spot) (a b:List Int),(∀j,0≤a.getD j 0∧a.getD j 0≤infI)→x.layGo p k i l a=some b→Kept k a b∧∀n∈l,Tells x p k i (a.getD k 0) b n
 |[],a,b,hr,h=>by
  cases h
  exact ⟨Kept.refl k a,fun n hn=>by cases hn⟩
 |n :: l,a,b,hr,h=>by
  rw [Inst.layGo] at h
  split at h
  ·rename_i hh
   obtain ⟨s1,s2⟩:=step_kept (k:=k) (n:=n) hr hi
   obtain ⟨i1,i2⟩:=lay_tells hi l _ b (s1.pos hr) h
   have e:=s1.same k (Nat.le_refl k)
   refine ⟨s1.trans i1,fun m hm=>?_⟩
   rcases List.mem_cons.1 hm with rfl | hm
   ·exact Tells.kept (a:=stepD k i m a) ⟨hh,fun h1 h2=>s2 h1 (by rw [←s1.len];exact h2)⟩ i1
   ·rw [←e];exact i2 m hm
  ·cases h
theorem part_tells {x:Inst} {p:Prf} {k:Nat}:∀(i:Nat) (q:List (List Spot)) (a b:List Int),i+q.length<2^31→(∀j,0≤a.getD j 0∧a.getD j 0≤infI)→x.partGo p k i q a=some b→Kept k a b∧∀j l,q[j]? =some l→∀n∈l,Tells x p k (i+j) (a.getD k 0) b n
 |i,[],a,b,_,hr,h=>by
  cases h
  exact ⟨Kept.refl k a,fun j l hj=>by simp at hj⟩
 |i,l :: q,a,b,hq,hr,h=>by
  rw [Inst.partGo] at h
  split at h
  ·cases h
  ·rename_i d hd
   rw [List.length_cons] at hq
   obtain ⟨s1,s2⟩:=lay_tells (by omega) l a d hr hd
   obtain ⟨i1,i2⟩:=part_tells (i+1) q d b (by omega) (s1.pos hr) h
   refine ⟨s1.trans i1,fun j m hj n hn=>?_⟩
   cases j with
   |zero=>
    simp only [List.getElem?_cons_zero,Option.some.injEq] at hj
    subst hj
    exact (s2 n hn).kept i1
   |succ j=>
    rw [List.getElem?_cons_succ] at hj
    have:=i2 j m hj n hn
    rw [s1.same k (Nat.le_refl k),show i+1+j=i+(j+1) by omega] at this
    exact this
theorem parts_tells {x:Inst} {p:Prf}:∀(k:Nat) (ps:List (List (List Spot))) (a F:List Int),(∀q∈ps,q.length<2^30)→(∀j,0≤a.getD j 0∧a.getD j 0≤infI)→x.partsGo p k ps a=some F→
  (∀j,0≤F.getD j 0∧F.getD j 0≤infI)∧F.length=a.length∧(∀j,j≤k→F.getD j 0=a.getD j 0)∧(∀j,F.getD j 0≤a.getD j 0)∧∀j q,ps[j]? =some q→F.getD (k+j) 0≠infI→∀i l,q[i]? =some l→∀n∈l,Tells x p (k+j) i (F.getD (k+j) 0) F n
 |k,[],a,F,_,hr,h=>by
  cases h
  exact ⟨hr,rfl,fun _ _=>rfl,fun _=>Int.le_refl _,fun j q hj=>by simp at hj⟩
 |k,q :: ps,a,F,hq,hr,h=>by
  rw [Inst.partsGo] at h
  split at h
  ·rename_i c
   obtain ⟨i0,i1,i2,i3,i4⟩:=parts_tells (k+1) ps a F (fun q h=>hq q (List.mem_cons_of_mem _ h)) hr h
   refine ⟨i0,i1,fun j hj=>i2 j (by omega),i3,fun j r hj hF=>?_⟩
   cases j with
   |zero=>
    rw [Nat.add_zero,i2 k (by omega)] at hF
    exact absurd c hF
   |succ j=>
    rw [List.getElem?_cons_succ] at hj
    rw [show k+(j+1)=k+1+j by omega] at hF ⊢
    exact i4 j r hj hF
  ·split at h
   ·cases h
   ·rename_i d hd
    have hq0:=hq q List.mem_cons_self
    obtain ⟨s1,s2⟩:=part_tells 0 q a d (by omega) hr hd
    obtain ⟨i0,i1,i2,i3,i4⟩:=parts_tells (k+1) ps d F (fun q h=>hq q (List.mem_cons_of_mem _ h)) (s1.pos hr) h
    have hk:∀j,j≤k→F.getD j 0=a.getD j 0:=fun j hj=>(i2 j (by omega)).trans (s1.same j hj)
    refine ⟨i0,i1.trans s1.len,hk,fun j=>Int.le_trans (i3 j) (s1.less j),fun j r hj hF=>?_⟩
    cases j with
    |zero=>
     simp only [List.getElem?_cons_zero,Option.some.injEq] at hj
     subst hj
     intro i l hil n hn
     have:=s2 i l hil n hn
     rw [Nat.zero_add] at this
     rw [Nat.add_zero,hk k (Nat.le_refl k)]
     exact ⟨this.1,fun h1 h2=>Int.le_trans (i3 _) (this.2 h1 (by rw [←i1];exact h2))⟩
    |succ j=>
     rw [List.getElem?_cons_succ] at hj
     rw [show k+(j+1)=k+1+j by omega] at hF ⊢
     exact i4 j r hj hF
end Go.Proofs.YtnoifgjiipgpoaaGreat

set_option maxRecDepth 4000
namespace Go.Proofs.YtnoifgjiipgpoaaGreat
open Go Go.Proofs.YtnoifgjiipgpoaaGreat.R
theorem sumI_le {a b:Int} (ha:0≤a) (hb:0≤b):sumI [a,b]≤a+b:=by
 simp only [sumI,List.foldl_cons,List.foldl_nil,sum1]
 omega
theorem sumI_nn (a b:Int):0≤sumI [a,b]:=by
 simp only [sumI,List.foldl_cons,List.foldl_nil,sum1]
 omega
theorem spot_pos {x:Inst} {p:Prf} {n:Spot} (h:x.spotB p n=true):n.s.Pos∧0≤n.cost∧0≤n.part∧n.part≤p.parts.length:=by
 simp only [Inst.spotB,State.mayB,Bool.and_eq_true,decide_eq_true_eq] at h
 obtain ⟨⟨⟨⟨h1,h2⟩,h3⟩,h4⟩,h5⟩:=h
 exact ⟨⟨h1.1.1.1.1.1.2,h1.1.1.1.2,h1.1.2⟩,h2,h4,h5⟩
theorem whole_spot {x:Inst} {p:Prf} {q:List (List Spot)} (h:x.wholeB p q=true) {l:List Spot} (hl:l∈q) {n:Spot} (hn:n∈l):x.spotB p n=true:=by
 unfold Inst.wholeB at h
 split at h
 ·cases h
 ·simp only [Bool.and_eq_true,Bool.not_eq_true',decide_eq_true_eq,List.any_eq_false] at h
  have:=h.2 l hl
  simp only [Bool.not_eq_true,List.any_eq_false] at this
  have:=this n hn
  simpa using this
structure Holds (x:Inst) (p:Prf) (F:List Int):Prop where
 len:F.length=p.parts.length
 whole:∀q∈p.parts,x.wholeB p q=true
 ok:∀q∈p.parts,∀l∈q,∀n∈l,n.s.ok
 small:∀q∈p.parts,q.length<2^30
 rng:∀j,0≤F.getD j 0∧F.getD j 0≤infI
 tells:∀k q,p.parts[k]? =some q→F.getD k 0≠infI→∀i l,q[i]? =some l→∀n∈l,Tells x p k i (F.getD k 0) F n
theorem deep_small {x:Inst} (hm:x.may=true):x.deep≤1000:=by
 obtain ⟨p,hx⟩:=x.fit hm
 have:=hx.pairs
 have:=hx.few
 have:=hx.cars
 rw [Inst.deep,if_pos hm]
 omega
theorem low_cov {x:Inst} (hl:x.stops.length<2^31) {a t:State} (hc:coversB a t=true) (hs:t.seenAt) {w:List Int} {c:Int} (hw:x.way w t c):0≤x.low a∧x.low a≤c:=by
 have h1:=lowP_in (near_le x) a.can
 rw [low_eq x a hl]
 simp only [coversB,Bool.and_eq_true,decide_eq_true_eq] at hc
 have h2:lowP x.near a.can≤lowP x.near t.can:=lowP_mono (near_le x) fun j=>within_has hc.1.1.1.1.2 j
 have h3:=way_low hs hw
 omega
theorem sound_go {x:Inst} {p:Prf} {F:List Int} (hx:x.may=true) (hl:x.stops.length<2^31) (H:Holds x p F):∀(w:List Int) (r k:Nat),p.parts.length-k≤r→∀(q:List (List Spot)) (i:Nat) (l:List Spot) (n:Spot) (t:State) (e c m:Int),p.parts[k]? =some q→q[i]? =some l→n∈l→
  F.getD k 0≠infI→coversB n.s t=true→(x.pairs=0→n.s=t)→t.ok→t.seenAt→n.cost≤e→F.getD k 0+i≤m→(x.meas t:Int)+m≤x.deep→x.way w t c→p.least≤e+c:=by
 intro w
 induction w with
 |nil=>
  intro r
  induction r with
  |zero=>
   intro k hk q i l n t e c m hq
   have:=(List.getElem?_eq_some_iff.1 hq).1
   omega
  |succ r ih=>
   intro k hk q i l n t e c m hq hl2 hn hF hc h0 hto hts he hm hd hw
   have hqm:=List.mem_of_getElem? hq
   have hlm:=List.mem_of_getElem? hl2
   obtain ⟨hpos,hn0,hp0,hp1⟩:=spot_pos (whole_spot (H.whole q hqm) hlm hn)
   have hnok:=H.ok q hqm l hlm n hn
   obtain ⟨t1,t2⟩:=H.tells k q hq hF i l hl2 n hn
   obtain ⟨lo1,lo2⟩:=low_cov hl hc hts hw
   have hwi:=way_in hw
   unfold Inst.holdsB at t1
   split at t1
   ·rename_i c1
    simp only [Inst.deadB,decide_eq_true_eq] at c1
    have:=sumI_le hn0 lo1
    omega
   split at t1
   ·rename_i c2
    unfold Prf.leadsB at t1
    split at t1
    ·rename_i f hf
     simp only [Bool.and_eq_true,decide_eq_true_eq] at t1
     obtain ⟨u1,u2,u3⟩:=t1
     obtain ⟨hj,l0,q0,hpj⟩:=first_some hf
     have hFj:=t2 u1 (by rw [H.len];exact hj)
     have hds:=deep_small hx
     refine ih (n.part-1).toNat (by omega) ((f :: l0) :: q0) 0 (f :: l0) f t e c m (by rw [List.getElem?_eq_getElem hj,hpj]) rfl List.mem_cons_self ?_ (by rw [u2];exact hc) (fun h=>by rw [u2];exact h0 h) hto hts (by omega) (by omega) hd hw
     rw [infI];omega
    ·cases t1
   ·rename_i c2
    have hend:(x.endS n.s).2=true∧(x.endS n.s).1=c:=by
     by_cases hp:x.pairs=0
     ·rw [h0 hp];exact ⟨hw.1,hw.2.symm⟩
     ·obtain ⟨e1,e2⟩:=cov_end hp hc hpos hnok hw.1
      exact ⟨e1,by rw [e2];exact hw.2.symm⟩
    split at t1
    ·cases t1
    ·rename_i c3
     rw [hend.2] at c3
     have:=sumI_le hn0 hwi.1
     have:¬sumI [n.cost,c]<p.least:=fun h=>c3 ⟨hend.1,h⟩
     omega
 |cons j w ihw=>
  intro r
  induction r with
  |zero=>
   intro k hk q i l n t e c m hq
   have:=(List.getElem?_eq_some_iff.1 hq).1
   omega
  |succ r ih=>
   intro k hk q i l n t e c m hq hl2 hn hF hc h0 hto hts he hm hd hw
   have hqm:=List.mem_of_getElem? hq
   have hlm:=List.mem_of_getElem? hl2
   obtain ⟨hpos,hn0,hp0,hp1⟩:=spot_pos (whole_spot (H.whole q hqm) hlm hn)
   have hnok:=H.ok q hqm l hlm n hn
   obtain ⟨t1,t2⟩:=H.tells k q hq hF i l hl2 n hn
   obtain ⟨lo1,lo2⟩:=low_cov hl hc hts hw
   have hwi:=way_in hw
   have hds:=deep_small hx
   unfold Inst.holdsB at t1
   split at t1
   ·rename_i c1
    simp only [Inst.deadB,decide_eq_true_eq] at c1
    have:=sumI_le hn0 lo1
    omega
   split at t1
   ·rename_i c2
    unfold Prf.leadsB at t1
    split at t1
    ·rename_i f hf
     simp only [Bool.and_eq_true,decide_eq_true_eq] at t1
     obtain ⟨u1,u2,u3⟩:=t1
     obtain ⟨hj,l0,q0,hpj⟩:=first_some hf
     have hFj:=t2 u1 (by rw [H.len];exact hj)
     refine ih (n.part-1).toNat (by omega) ((f :: l0) :: q0) 0 (f :: l0) f t e c m (by rw [List.getElem?_eq_getElem hj,hpj]) rfl List.mem_cons_self ?_ (by rw [u2];exact hc) (fun h=>by rw [u2];exact h0 h) hto hts (by omega) (by omega) hd hw
     rw [infI];omega
    ·cases t1
   ·rename_i c2
    split at t1
    ·cases t1
    ·rename_i c3
     obtain ⟨g1,d,g2,g3⟩:=hw
     have hmm:=meas_move g1
     have hmc:=move_cost g1
     have hil:=(List.getElem?_eq_some_iff.1 hl2).1
     have hqs:=H.small q hqm
     rw [wrap_dk H.rng (by omega),if_neg (by omega)] at t1
     obtain ⟨v1,v2,v3,v4⟩:=cov_move hc hpos hnok g1
     rw [Inst.goesB,List.all_eq_true] at t1
     have hgo:=t1 j (mem_moves v1)
     rw [Inst.goB,Bool.or_eq_true] at hgo
     have hs1:=sumI_le hn0 (b:=(x.move n.s j).2.1) (by rw [v2];exact hmc.1)
     have hs2:=sumI_nn n.cost (x.move n.s j).2.1
     rw [v2] at hs1 hs2 hgo
     rcases hgo with hgo | hgo
     ·simp only [Inst.deadB,decide_eq_true_eq] at hgo
      obtain ⟨lo3,lo4⟩:=low_cov hl v3 (seen_step g1) g2
      have:=sumI_le hs2 lo3
      omega
     ·rw [hq,Option.getD_some] at hgo
      obtain ⟨n',hn',hb⟩:=List.any_eq_true.1 hgo
      simp only [Bool.and_eq_true,decide_eq_true_eq] at hb
      have hi1:i+1<q.length:=by
       by_cases h:i+1<q.length
       ·exact h
       ·rw [List.getD_eq_getElem?_getD,List.getElem?_eq_none (by omega)] at hn'
        cases hn'
      have hgd:q.getD (i+1) []=q[i+1]:=by rw [List.getD_eq_getElem?_getD,List.getElem?_eq_getElem hi1];rfl
      rw [hgd] at hn'
      have:=ihw (p.parts.length) k (by omega) q (i+1) q[i+1] n' (x.move t j).1 (e+(x.move t j).2.1) d (m+1) hq (List.getElem?_eq_getElem hi1) hn' hF (covers_trans hb.2 v3) (fun h=>absurd h (move_pairs g1)) (move_ok x j hto) (seen_step g1) (by omega) (by omega) (by omega) g2
      omega
theorem check_sound {x:Inst} {p:Prf} (hl:x.stops.length<2^31) (hs:∀q∈p.parts,q.length<2^30) (ho:∀q∈p.parts,∀l∈q,∀n∈l,n.s.ok) (h:x.checkE p=0):x.may=true∧p.least≤infI∧∀(w:List Int) (c:Int),x.way w x.rootS c→p.least≤c:=by
 obtain ⟨c1,f,F,hf,c2,c3,hF⟩:=check_zero h
 simp only [Inst.mayP,Bool.and_eq_true,decide_eq_true_eq] at c1
 obtain ⟨m1,m2,m3,m4,m5⟩:=c1
 refine ⟨m1,m3,fun w c hw=>?_⟩
 have hlen0:0<p.parts.length:=List.length_pos_iff.2 m4
 have hr0:∀j,0≤((List.replicate p.parts.length infI).set 0 0).getD j 0∧((List.replicate p.parts.length infI).set 0 0).getD j 0≤infI:=by
  intro j
  rw [getD_set (by rw [List.length_replicate];exact hlen0)]
  split
  ·exact ⟨Int.le_refl _,by decide⟩
  ·rw [List.getD_eq_getElem?_getD,List.getElem?_replicate]
   split
   ·exact ⟨by decide,Int.le_refl _⟩
   ·exact ⟨Int.le_refl _,by decide⟩
 obtain ⟨i0,i1,i2,i3,i4⟩:=parts_tells 0 p.parts _ F hs hr0 hF
 have hF0:F.getD 0 0=0:=by
  rw [i2 0 (Nat.le_refl 0),getD_set (by rw [List.length_replicate];exact hlen0),if_pos rfl]
 have H:Holds x p F:=⟨by rw [i1,List.length_set,List.length_replicate],List.all_eq_true.1 m5,ho,hs,i0,fun k q hq hk i l hil n hn=>by
  have:=i4 k q hq (by rw [Nat.zero_add];exact hk) i l hil n hn
  rw [Nat.zero_add] at this
  exact this⟩
 obtain ⟨hj,l0,q0,hpj⟩:=first_some hf
 obtain ⟨pp,hx⟩:=x.fit m1
 have hdp:x.deep=2*x.pairs+x.cars-1:=by rw [Inst.deep,if_pos m1]
 have hme:=meas_rootC hx m1
 have:=sound_go m1 hl H w p.parts.length 0 (by omega) ((f :: l0) :: q0) 0 (f :: l0) f x.rootS 0 c 0 (by rw [List.getElem?_eq_getElem hj,hpj]) rfl List.mem_cons_self (by rw [hF0];decide) (by rw [c2];exact covers_refl _) (fun _=>c2) (rootS_ok x) (seen_root x) (by omega) (by rw [hF0];omega) (by omega) hw
 omega
end Go.Proofs.YtnoifgjiipgpoaaGreat

set_option maxRecDepth 4000
namespace Go.Proofs.YtnoifgjiipgpoaaGreat
open Go Go.Proofs.YtnoifgjiipgpoaaGreat.R
structure Node.Fits (x:Inst) (n:Node):Prop where
 may:n.s.mayB x=true
 cost:0≤n.cost∧n.cost≤1152921504606846976
theorem may_mk {x:Inst} {s:State} (h1:0≤s.spot∧s.spot≤2*x.pairs) (h2:1≤s.car∧s.car≤x.cars) (h3:0≤s.time∧s.time≤1073741824) (h4:0≤s.load∧s.load≤1000):s.mayB x=true:=by
 simp only [State.mayB,Bool.and_eq_true,decide_eq_true_eq]
 exact ⟨⟨⟨⟨⟨⟨⟨h1.1,h1.2⟩,h2.1⟩,h2.2⟩,h3.1⟩,h3.2⟩,h4.1⟩,h4.2⟩
theorem may_seen {x:Inst} {p:Nat} (hx:x.Fit p) {s:State} (hs:s.Fit x p) {j:Int} (h0:0≤j) (h1:j≤2*p) (hl:x.lateB s j=false) (hd:s.load+(x.stop j).demand≤1000) {o:Nat}:({x.seen s j with on:=o}:State).mayB x=true:=by
 have hj:=hx.at h0 h1
 have hp:=hx.pairs
 have hr:=hj.ready
 have hdu:=hj.due
 have hsv:=hj.service
 simp only [Inst.lateB,Bool.or_eq_false_iff,decide_eq_false_iff_not] at hl
 have hb:(x.stop j).ready≤x.begins s j:=by unfold Inst.begins;omega
 have hc:=hs.car
 refine may_mk ⟨h0,by rw [hp];exact h1⟩ hc ⟨?_,?_⟩ ⟨?_,?_⟩
 ·show 0≤x.begins s j+(x.stop j).service;omega
 ·show x.begins s j+(x.stop j).service≤1073741824;omega
 ·show 0≤max (s.load+(x.stop j).demand) 0;omega
 ·show max (s.load+(x.stop j).demand) 0≤1000;omega
theorem move_mayB {x:Inst} {s:State} {j:Int} (h:(x.move s j).2.2=true):(x.move s j).1.mayB x=true:=by
 obtain ⟨h1,h2,h3,h4,h5⟩:=move_is h
 obtain ⟨p,hx⟩:=x.fit h1
 have hs:=State.fit hx h2
 have hp:=hx.pairs
 have hroom:=hx.room
 rw [h5]
 show (x.to s j).1.mayB x=true
 unfold Inst.to at h4 ⊢
 split at h4
 ·rename_i e
  rw [if_pos e]
  unfold Inst.home at h4 ⊢
  split at h4
  ·simp at h4
  ·rename_i hst
   rw [if_neg hst]
   simp only [Inst.stayB,Bool.or_eq_true,decide_eq_true_eq,not_or] at hst
   have hy:=(hx.at (j:=0) (by omega) (by omega)).ready
   have hc:=hs.car
   exact may_mk ⟨by show (0:Int)≤0;omega,by show (0:Int)≤2*x.pairs;omega⟩ ⟨by show 1≤s.car+1;omega,by show s.car+1≤x.cars;omega⟩ ⟨hy.1,by show (x.stop 0).ready≤_;omega⟩ ⟨by show (0:Int)≤0;omega,by show (0:Int)≤1000;omega⟩
 ·rename_i e
  rw [if_neg e]
  split at h4
  ·rename_i e2
   rw [if_pos e2]
   unfold Inst.take at h4 ⊢
   split at h4
   ·simp at h4
   ·rename_i hf
    rw [if_neg hf]
    simp only [Inst.fullB,Bool.or_eq_true,decide_eq_true_eq,not_or] at hf
    split at h4
    ·rename_i hv
     rw [if_pos hv]
     unfold Inst.visit at hv ⊢
     split at hv
     ·simp at hv
     ·rename_i hla
      rw [if_neg hla]
      exact may_seen hx hs h3.1 (by omega) (by simpa using hla) (by omega)
    ·rename_i hv
     exact absurd h4 hv
  ·rename_i e2
   rw [if_neg e2]
   unfold Inst.bring at h4 ⊢
   split at h4
   ·simp at h4
   ·rename_i hf
    rw [if_neg hf]
    split at h4
    ·rename_i hv
     rw [if_pos hv]
     unfold Inst.visit at hv ⊢
     split at hv
     ·simp at hv
     ·rename_i hla
      rw [if_neg hla]
      refine may_seen hx hs h3.1 (by omega) (by simpa using hla) ?_
      obtain ⟨k,rfl⟩:∃k:Nat,j=((k+p:Nat):Int):=⟨(j-p).toNat,by omega⟩
      have hk:=hx.bring (k:=k) (by omega) (by omega)
      have ht:=hx.take (k:=k) (by omega) (by omega)
      have:=hs.load
      omega
    ·rename_i hv
     exact absurd h4 hv
theorem root_mayB {x:Inst} (hm:x.may=true):x.rootS.mayB x=true:=by
 obtain ⟨p,hx⟩:=x.fit hm
 have hy:=(hx.at (j:=0) (by omega) (by omega)).ready
 have hp:=hx.pairs
 have hc:=hx.cars
 rw [Inst.rootS,if_pos hm]
 exact may_mk ⟨by show (0:Int)≤0;omega,by show (0:Int)≤2*x.pairs;omega⟩ ⟨by show (1:Int)≤1;omega,hc.1⟩ ⟨hy.1,by show (x.stop 0).ready≤_;omega⟩ ⟨by show (0:Int)≤0;omega,by show (0:Int)≤1000;omega⟩
theorem sumI_in (a b:Int):0≤sumI [a,b]∧sumI [a,b]≤1152921504606846976:=by
 simp only [sumI,List.foldl_cons,List.foldl_nil,sum1]
 omega
theorem next_fits {x:Inst} {l:List Node} {up:Int}:∀m∈x.next l up,m.Fits x:=by
 intro m hm
 obtain ⟨n,hn,j,hj,rfl,_⟩:=next_mem hm
 exact ⟨move_mayB (moves_mem hj),sumI_in _ _⟩
theorem join_mayB {x:Inst} {s t:State} (h:s.mayB x=true) (k:t.mayB x=true):(s.join t).mayB x=true:=by
 simp only [State.mayB,Bool.and_eq_true,decide_eq_true_eq] at h k
 refine may_mk ⟨?_,?_⟩ ⟨?_,?_⟩ ⟨?_,?_⟩ ⟨?_,?_⟩<;>simp only [State.join]<;>omega
theorem fold_mayB {x:Inst}:∀(l:List State) (s:State),s.mayB x=true→(∀t∈l,t.mayB x=true)→(l.foldl State.join s).mayB x=true
 |[],s,h,_=>h
 |t :: l,s,h,hl=>fold_mayB l (s.join t) (join_mayB h (hl t List.mem_cons_self)) fun u hu=>hl u (List.mem_cons_of_mem _ hu)
theorem squeeze_fits {x:Inst} {l:List Node} (h:∀m∈l,m.Fits x) (w:Int):∀m∈x.squeeze l w,m.Fits x:=by
 intro m hm
 rcases squeeze_mem hm with hm | ⟨i,g,h0,_,hg,rfl⟩
 ·exact h m hm
 ·obtain ⟨c1,n,hn,c2⟩:=costL_is h0
  refine ⟨?_,?_⟩
  ·match g,h0 with
   |a :: g,_=>
    have ha:=(hg a List.mem_cons_self)
    show (joinL ((a :: g).map Node.s)).1.mayB x=true
    have hall:∀t∈(a :: g).map Node.s,t.spot=(i:Int):=fun t ht=>by
     obtain ⟨b,hb,rfl⟩:=List.mem_map.1 ht
     exact (hg b hb).2
    have hj:(joinL ((a :: g).map Node.s)).1=(g.map Node.s).foldl State.join a.s:=by
     rw [List.map_cons,joinL,if_neg]
     rw [List.any_eq_true]
     rintro ⟨t,ht,h2⟩
     simp only [decide_eq_true_eq] at h2
     exact h2 ((hall t (List.mem_cons_of_mem _ ht)).trans ha.2.symm)
    rw [hj]
    exact fold_mayB _ _ (h a ha.1).may fun t ht=>by
     obtain ⟨b,hb,rfl⟩:=List.mem_map.1 ht
     exact (h b (hg b (List.mem_cons_of_mem _ hb)).1).may
  ·show 0≤costL g∧costL g≤_
   rw [c2]
   exact (h n (hg n hn).1).cost
def Cov (x:Inst) (l' l:List Node) (up:Int):Prop:=∀c∈x.next l up,∃m∈l',coversB m.s c.s=true∧m.cost≤c.cost
theorem buildGo_cov {x:Inst} (w up dp:Int):∀(f:Nat) (ls:List (List Node)) (low:Int) (sq:Option Nat) (l:List Node),dp+2≤(f:Int)+ls.length→1≤f→(∀k∈ls++[l],∀n∈k,n.Fits x)→(∀(i:Nat) k,ls[i]? =some k→Cov x (((ls++[l])[i+1]?).getD []) k up)→
  (∀k∈(x.buildGo w up dp f ls low sq l).layers,∀n∈k,n.Fits x)∧∀(i:Nat) k,(x.buildGo w up dp f ls low sq l).layers[i]? =some k→Cov x (((x.buildGo w up dp f ls low sq l).layers[i+1]?).getD []) k up∨dp≤i
 |0,ls,low,sq,l,_,h1,_,_=>absurd h1 (by omega)
 |f+1,ls,low,sq,l,hf,h1,hfit,hc=>by
  rw [Inst.buildGo]
  split
  ·rename_i c0
   refine ⟨fun k hk=>hfit k (List.mem_append_left _ hk),fun i k hk=>.inl ?_⟩
   have hk':ls[i]? =some k:=hk
   have:=hc i k hk'
   have hlt:=(List.getElem?_eq_some_iff.1 hk').1
   show Cov x ((ls[i+1]?).getD []) k up
   by_cases e:i+1<ls.length
   ·rwa [List.getElem?_append_left e] at this
   ·rw [show i+1=ls.length by omega] at this ⊢
    rw [List.getElem?_eq_none (Nat.le_refl _)]
    rw [List.getElem?_append_right (Nat.le_refl _),Nat.sub_self,c0] at this
    exact this
  rename_i c0
  have hsnoc:∀(i:Nat) k,(ls++[l])[i]? =some k→(i<ls.length∧ls[i]? =some k)∨(i=ls.length∧k=l):=by
   intro i k hk
   have hlt:=(List.getElem?_eq_some_iff.1 hk).1
   rw [List.length_append,List.length_singleton] at hlt
   by_cases e:i<ls.length
   ·rw [List.getElem?_append_left e] at hk
    exact .inl ⟨e,hk⟩
   ·have:i=ls.length:=by omega
    subst this
    rw [List.getElem?_append_right (Nat.le_refl _),Nat.sub_self] at hk
    exact .inr ⟨rfl,(Option.some.inj hk).symm⟩
  split
  ·rename_i c1
   refine ⟨hfit,fun i k hk=>?_⟩
   rcases hsnoc i k hk with ⟨_,h⟩ | ⟨h,_⟩
   ·exact .inl (hc i k h)
   ·exact .inr (by omega)
  rename_i c1
  have hlen:(ls++[l]).length=ls.length+1:=by simp
  have step:∀l',Cov x l' l up→∀(i:Nat) k,(ls++[l])[i]? =some k→Cov x (((ls++[l]++[l'])[i+1]?).getD []) k up:=by
   intro l' hl' i k hk
   rcases hsnoc i k hk with ⟨e,h⟩ | ⟨rfl,rfl⟩
   ·rw [List.getElem?_append_left (by omega)]
    exact hc i k h
   ·rw [List.getElem?_append_right (by omega),hlen,Nat.sub_self]
    exact hl'
  split
  ·refine buildGo_cov w up dp f _ _ _ _ (by rw [hlen];omega) (by omega) (fun k hk=>?_) (step _ fun c hcm=>?_)
   ·rcases List.mem_append.1 hk with hk | hk
    ·exact hfit k hk
    ·rw [List.mem_singleton.1 hk]
     exact squeeze_fits next_fits w
   ·obtain ⟨n,hn,j,hj,rfl,_⟩:=next_mem hcm
    have hsp:=child_spot (moves_mem hj)
    exact squeeze_cov w hcm hsp.1 hsp.2
  ·refine buildGo_cov w up dp f _ _ _ _ (by rw [hlen];omega) (by omega) (fun k hk=>?_) (step _ fun c hcm=>⟨c,hcm,covers_refl _,Int.le_refl _⟩)
   rcases List.mem_append.1 hk with hk | hk
   ·exact hfit k hk
   ·rw [List.mem_singleton.1 hk]
    exact next_fits
theorem build_cov {x:Inst} {n:Node} (hn:n.Fits x) (w up:Int):(∀k∈(x.build n w up).layers,∀m∈k,m.Fits x)∧∀(i:Nat) k,(x.build n w up).layers[i]? =some k→Cov x (((x.build n w up).layers[i+1]?).getD []) k up∨x.deep≤n.path.length+i:=by
 obtain ⟨h1,h2⟩:=buildGo_cov (x:=x) w up (x.deep-n.path.length) ((x.deep-n.path.length).toNat+2) [] up none [n] (by simp only [List.length_nil];omega) (by omega) (fun k hk m hm=>by rw [List.mem_singleton.1 hk] at hm;rw [List.mem_singleton.1 hm];exact hn) fun i k h=>by simp at h
 refine ⟨h1,fun i k hk=>?_⟩
 rcases h2 i k hk with h | h
 ·exact .inl h
 ·exact .inr (by omega)
theorem lowB_best {low:Int} {b:Node×Bool} (h:b.2=true):lowB low b≤b.1.cost:=by unfold lowB;rw [if_pos h];omega
theorem buildGo_best {x:Inst} (w up dp:Int):∀(f:Nat) (ls:List (List Node)) (low:Int) (sq:Option Nat) (l:List Node),(∀k∈ls,(x.bests k).2=true→low≤(x.bests k).1.cost)→
  ∀k∈(x.buildGo w up dp f ls low sq l).layers,(x.bests k).2=true→(x.buildGo w up dp f ls low sq l).low≤(x.bests k).1.cost
 |0,ls,low,sq,l,h=>h
 |f+1,ls,low,sq,l,h=>by
  rw [Inst.buildGo]
  have h2:∀k∈ls++[l],(x.bests k).2=true→lowB low (x.bests l)≤(x.bests k).1.cost:=by
   intro k hk hb
   rcases List.mem_append.1 hk with hk | hk
   ·have:=h k hk hb
    have:=lowB_le low (x.bests l)
    omega
   ·rw [List.mem_singleton.1 hk] at hb ⊢
    exact lowB_best hb
  split
  ·exact h
  split
  ·exact h2
  split
  ·exact buildGo_best w up dp f _ _ _ _ h2
  ·exact buildGo_best w up dp f _ _ _ _ h2
theorem build_best (x:Inst) (n:Node) (w up:Int):∀k∈(x.build n w up).layers,(x.bests k).2=true→(x.build n w up).low≤(x.bests k).1.cost:=
 buildGo_best w up _ _ _ _ _ _ fun k hk=>by simp at hk
end Go.Proofs.YtnoifgjiipgpoaaGreat
