/- Parts of the proof: SearchG, Heap, HeapP, HeapT, HeapL, HeapO, HeapO2, HeapR, HeapW, Opts, SearchT, Join, Tog, Sqz, SqzW, Own, Build. -/
import Derived.Test.YtnoifgjiipgpoaaGreatMG
set_option linter.all false
set_option maxHeartbeats 4000000
set_option maxRecDepth 4000
namespace Go.Proofs.YtnoifgjiipgpoaaGreat
open Go Go.Proofs.YtnoifgjiipgpoaaGreat.R
structure Opt where
 width:Int
 order:Int
 budget:Int
structure SRes where
 status:Int
 plan:List (List Int)
 up:Int
 low:Int
 steps:Int
 log:List (Node×Diag)
def Ent.zero:Ent:=⟨0,0,0⟩
def lessE (o:Int) (a b:Ent):Bool:=
 if o=0 then decide (a.bound<b.bound∨a.bound=b.bound∧(b.depth<a.depth∨a.depth=b.depth∧a.no<b.no))
 else if o=1 then decide (b.depth<a.depth∨a.depth=b.depth∧(a.bound<b.bound∨a.bound=b.bound∧a.no<b.no))
 else decide (a.no<b.no∨a.no=b.no∧(a.bound<b.bound∨a.bound=b.bound∧a.depth<b.depth))
def minI (o:Int) (q:List Ent):Nat:=(List.range q.length).foldl (fun k i=>if lessE o (q.getD i Ent.zero) (q.getD k Ent.zero)=true then i else k) 0
def takeQ (o:Int) (q:List Ent):Option (Ent×List Ent):=if q=[] then none else some (q.getD (minI o q) Ent.zero,q.take (minI o q)++q.drop (minI o q+1))
def leastQ:List Ent→Int
 |[]=>inf
 |e :: l=>l.foldl (fun n f=>min n f.bound) e.bound
def SS.ends (s:SS):SRes:=⟨if s.up<inf then 2 else 3,s.plan,s.up,s.up,s.steps,s.log⟩
def SS.stop (s:SS) (e:Ent):SRes:=⟨4,s.plan,s.up,min s.up (min e.bound (leastQ s.q)),s.steps,s.log⟩
def SS.left (s:SS) (q:List Ent):SS:={s with q:=q}
def Inst.runGo (x:Inst) (o:Opt):Nat→SS→Option SRes
 |0,_=>none
 |f+1,s=>match takeQ o.order s.q with
  |none=>some s.ends
  |some (e,q)=>if s.up≤e.bound then x.runGo o f (s.left q) else if o.budget≤s.steps then some ((s.left q).stop e) else x.runGo o f (x.lookS o.width (s.left q) (s.subs.getD e.no Node.zero))
def Inst.start (x:Inst):SS:=x.push 0 ⟨[],[],inf,[],0,[]⟩ x.rootN
theorem minI_go (o:Int) (q:List Ent):∀(l:List Nat) (k:Nat),k<q.length→(∀i∈l,i<q.length)→l.foldl (fun k i=>if lessE o (q.getD i Ent.zero) (q.getD k Ent.zero)=true then i else k) k<q.length
 |[],k,h,_=>h
 |i :: l,k,h,hl=>by
  rw [List.foldl_cons]
  refine minI_go o q l _ ?_ fun j hj=>hl j (List.mem_cons_of_mem _ hj)
  split
  ·exact hl i List.mem_cons_self
  ·exact h
theorem minI_lt (o:Int) {q:List Ent} (h:q≠[]):minI o q<q.length:=
 minI_go o q _ 0 (List.length_pos_iff.2 h) fun i hi=>List.mem_range.1 hi
theorem take_none {o:Int} {q:List Ent} (h:takeQ o q=none):q=[]:=by
 unfold takeQ at h
 split at h
 ·assumption
 ·cases h
theorem take_some {o:Int} {q:List Ent} {e:Ent} {q':List Ent} (h:takeQ o q=some (e,q')):e∈q∧(∀f∈q,f=e∨f∈q')∧(∀f∈q',f∈q)∧q.length=q'.length+1:=by
 unfold takeQ at h
 split at h
 ·cases h
 rename_i hq
 have hk:=minI_lt o hq
 generalize minI o q=k at *
 obtain ⟨rfl,rfl⟩:=Prod.mk.inj (Option.some.inj h)
 have hd:q=q.take k++q[k] :: q.drop (k+1):=by rw [←List.drop_eq_getElem_cons hk,List.take_append_drop]
 have hg:q.getD k Ent.zero=q[k]:=by rw [List.getD_eq_getElem?_getD,List.getElem?_eq_getElem hk];rfl
 rw [hg]
 refine ⟨List.getElem_mem _,fun f hf=>?_,fun f hf=>?_,?_⟩
 ·rw [hd] at hf
  rcases List.mem_append.1 hf with hf | hf
  ·exact .inr (List.mem_append_left _ hf)
  ·rcases List.mem_cons.1 hf with hf | hf
   ·exact .inl hf
   ·exact .inr (List.mem_append_right _ hf)
 ·rcases List.mem_append.1 hf with hf | hf
  ·exact List.mem_of_mem_take hf
  ·exact List.mem_of_mem_drop hf
 ·rw [List.length_append,List.length_take,List.length_drop]
  omega
theorem least_fold:∀(l:List Ent) (n:Int),l.foldl (fun n f=>min n f.bound) n≤n∧∀f∈l,l.foldl (fun n f=>min n f.bound) n≤f.bound
 |[],n=>⟨Int.le_refl _,fun f hf=>by cases hf⟩
 |e :: l,n=>by
  obtain ⟨h1,h2⟩:=least_fold l (min n e.bound)
  rw [List.foldl_cons]
  refine ⟨by omega,fun f hf=>?_⟩
  rcases List.mem_cons.1 hf with rfl | hf
  ·omega
  ·exact h2 f hf
theorem least_le {q:List Ent} {f:Ent} (h:f∈q):leastQ q≤f.bound:=by
 cases q with
 |nil=>cases h
 |cons e l=>
  obtain ⟨h1,h2⟩:=least_fold l e.bound
  rcases List.mem_cons.1 h with rfl | h
  ·exact h1
  ·exact h2 f h
structure Told (x:Inst) (r:SRes):Prop where
 le:r.up≤inf
 plan:r.up<inf→x.cost r.plan=(r.up,0)
 low:∀v c,x.way v x.rootS c→r.low≤c
 less:r.low≤r.up
 status:(r.status=2∧r.low=r.up∧r.up<inf)∨(r.status=3∧r.low=inf∧r.up=inf)∨(r.status=4∧r.low<r.up)
theorem SInv.left {x:Inst} {s:SS} (h:SInv x s) {q:List Ent} (hq:∀f∈q,f∈s.q):SInv x (s.left q):=
 ⟨h.track,fun e he=>h.nos e (hq e he),fun e he=>h.bound e (hq e he),⟨h.found.le,h.found.plan⟩⟩
theorem Covers.left {x:Inst} {s:SS} (hs:SInv x s) (h:s.Covers x fun _=>False) {q:List Ent} {e:Ent} (hq:∀f∈s.q,f=e∨f∈q) {n:Node} (hn:s.subs[e.no]? =some n):(s.left q).Covers x (x.goesOn n):=by
 intro v c hv hc
 rcases h v c hv hc with hf | ⟨f,hf,m,hm,hg⟩
 ·exact hf.elim
 ·rcases hq f hf with rfl | hf
  ·rw [hn] at hm
   cases hm
   exact .inl hg
  ·exact .inr ⟨f,hf,m,hm,hg⟩
theorem run_told {x:Inst} (hst:x.stops.length<2^31) (hm:x.may=true) (o:Opt):∀(f:Nat) (s:SS) (r:SRes),SInv x s→s.Covers x (fun _=>False)→x.runGo o f s=some r→Told x r
 |0,s,r,_,_,h=>by cases h
 |f+1,s,r,hs,hc,h=>by
  rw [Inst.runGo] at h
  cases ht:takeQ o.order s.q with
  |none=>
   rw [ht] at h
   have hq:=take_none ht
   have:r=s.ends:=(Option.some.inj h).symm
   subst this
   have hno:∀v c,x.way v x.rootS c→s.up≤c:=fun v c hv=>by
    by_cases hlt:c<s.up
    ·rcases hc v c hv hlt with hf | ⟨e,he,_⟩
     ·exact hf.elim
     ·rw [hq] at he;cases he
    ·omega
   refine ⟨hs.found.le,hs.found.plan,hno,Int.le_refl _,?_⟩
   have hle:=hs.found.le
   by_cases hu:s.up<inf
   ·exact .inl ⟨if_pos hu,rfl,hu⟩
   ·exact .inr (.inl ⟨if_neg hu,by show s.up=inf;omega,by show s.up=inf;omega⟩)
  |some p=>
   obtain ⟨e,q⟩:=p
   rw [ht] at h
   simp only at h
   obtain ⟨t1,t2,t3,t4⟩:=take_some ht
   obtain ⟨n,hn⟩:=hs.nos e t1
   have hb:=hs.bound e t1 n hn
   have hcl:=Covers.left hs hc t2 hn
   have hsl:=hs.left t3
   by_cases c1:s.up≤e.bound
   ·rw [if_pos c1] at h
    refine run_told hst hm o f _ r hsl (fun v c hv hlt=>?_) h
    rcases hcl v c hv hlt with ⟨v',d',hv',hd'⟩ | hq
    ·have hlt':c<s.up:=hlt
     have:=hb v' d' hv' (by omega)
     omega
    ·exact .inr hq
   rw [if_neg c1] at h
   by_cases c2:o.budget≤s.steps
   ·rw [if_pos c2] at h
    have:r=(s.left q).stop e:=(Option.some.inj h).symm
    subst this
    have hlow:((s.left q).stop e).low=min s.up (min e.bound (leastQ q)):=rfl
    refine ⟨hs.found.le,hs.found.plan,fun v c hv=>?_,?_,.inr (.inr ⟨rfl,?_⟩)⟩
    ·rw [hlow]
     by_cases hlt:c<s.up
     ·rcases hcl v c hv hlt with ⟨v',d',hv',hd'⟩ | ⟨g,hg,m,hm',v',d',hv',hd'⟩
      ·have:=hb v' d' hv' (by omega)
       omega
      ·have:=hs.bound g (t3 g hg) m hm' v' d' hv' (by omega)
       have:leastQ q≤g.bound:=least_le hg
       omega
     ·omega
    ·rw [hlow];show _≤s.up;omega
    ·rw [hlow];show _<s.up;omega
   ·rw [if_neg c2] at h
    have hgd:s.subs.getD e.no Node.zero=n:=by rw [List.getD_eq_getElem?_getD,hn];rfl
    rw [hgd] at h
    obtain ⟨k1,k2⟩:=look_ok2 hst hm (hs.track n (List.mem_of_getElem? hn)) o.width hsl hcl
    exact run_told hst hm o f _ r k1 k2 h
theorem start_ok {x:Inst} (hst:x.stops.length<2^31) (hm:x.may=true):SInv x x.start∧x.start.Covers x fun _=>False:=by
 have ht:=track_root hm
 have h0:SInv x ⟨[],[],inf,[],0,[]⟩:=⟨fun n hn=>by simp at hn,fun e he=>by simp at he,fun e he=>by simp at he,⟨Int.le_refl _,fun h=>absurd h (Int.lt_irrefl _)⟩⟩
 have hof:∀v c,x.way v x.rootN.s c→max 0 (x.of x.rootN)≤x.rootN.cost+c:=fun v c hv=>by
  have h1:=of_way hst ht hv
  have h2:=way_in hv
  have h3:=ht.cost
  omega
 refine ⟨h0.push 0 ht fun v c hv _=>hof v c hv,fun v c hv hlt=>?_⟩
 rw [Inst.start,(push_up x 0 _ x.rootN).1] at hlt
 refine .inr (push_has ⟨v,c,hv,?_⟩ ?_)
 ·show (0:Int)+c≤c;omega
 ·have:=hof v c hv
  have h0:x.rootN.cost=0:=rfl
  have:c<inf:=hlt
  show _<inf
  omega
end Go.Proofs.YtnoifgjiipgpoaaGreat

set_option maxRecDepth 4000
namespace Go.Proofs.YtnoifgjiipgpoaaGreat
open Go Go.Proofs.YtnoifgjiipgpoaaGreat.R
def Ent.cs (e:Ent):List AV:=[.i e.bound,.i e.depth,.i e.no]
def Ent.a (e:Ent):AV:=.agg e.cs
def Ent.t (o:Int) (e:Ent):List T:=[.i e.bound,.i e.depth,.i e.no,.i o]
def orL:List Int→Int
 |[]=>0
 |a :: l=>if a=0 then orL l else a
theorem or_pure (l:List Int) (hl:l.length<2^31):Pure P 177 [.t (.sl (ints l))] (.i (orL l)):=by
 generalize hR:orL l=R
 refine pure_of Tryz.func177 rfl rfl (by simp [Tryz.f177]) (by simp [bnd,bnd.bndL]) (by simp [bnd,bnd.bndL]) fun B hB hnx=>?_
 simp only [Tryz.f177] at hB ⊢
 have hil:(ints l).length=l.length:=List.length_map _
 have hig:∀(k:Nat) (h:k<l.length),(ints l)[k]'(by rw [hil];exact h)=[.i l[k]]:=fun k h=>ints_getS _ h
 generalize ints l=Y at *
 refine K_run hB 100 ?_
 simp [go_sem,hil]
 refine K_loopP (α:=Nat) (fun k=>k≤l.length∧orL (l.drop k)=R) (fun k=>⟨sl [(3,.i 0),(6,.t (.sl Y)),(7,.i l.length),(8,.i k)],_,_⟩) (fun k=>l.length-k) 0 ⟨Nat.zero_le _,hR⟩ (Imp.slots (by simp [go_sem]) rfl rfl) ?_
 rintro k ⟨g1,g2⟩
 refine K_run hB 60 ?_
 simp [go_sem]
 refine fork_dec (fun hk=>?_) (fun hk=>?_)
 ·have hkk:IntKind.i64.wrap ((k:Int)+1)=((k+1:Nat):Int):=by rw [w64 ((k:Int)+1) (by omega)];rfl
  have hgk:∀h:k<Y.length,Y[k]'h=[.i l[k]]:=fun h=>hig k hk
  rw [List.drop_eq_getElem_cons hk,orL] at g2
  generalize l[k]=a at *
  by_cases c1:a=0
  ·rw [if_pos c1] at g2
   simp [go_sem,hil,hk,hgk,c1,hkk]
   exact Next.mk (k+1) ⟨by omega,g2⟩ (Imp.slots (by simp [go_sem]) rfl rfl) (by omega)
  ·rw [if_neg c1] at g2
   subst g2
   simp [go_sem,hil,hk,hgk,c1]
 ·have:k=l.length:=by omega
  subst this
  rw [List.drop_length,orL] at g2
  subst g2
  simp [go_sem]
def compE (o:Int) (a b:Ent):Int:=
 if o=0 then orL [cmpI a.bound b.bound,-cmpI a.depth b.depth,cmpI a.no b.no]
 else if o=1 then orL [-cmpI a.depth b.depth,cmpI a.bound b.bound,cmpI a.no b.no]
 else orL [cmpI a.no b.no,cmpI a.bound b.bound,cmpI a.depth b.depth]
theorem compE_less (o:Int) (a b:Ent):decide (compE o a b<0)=lessE o a b:=by
 unfold compE lessE
 by_cases c1:o=0
 ·rw [if_pos c1,if_pos c1]
  refine decide_eq_decide.2 ?_
  simp only [orL,cmpI]
  repeat' split
  all_goals omega
 ·rw [if_neg c1,if_neg c1]
  by_cases c2:o=1
  ·rw [if_pos c2,if_pos c2]
   refine decide_eq_decide.2 ?_
   simp only [orL,cmpI]
   repeat' split
   all_goals omega
  ·rw [if_neg c2,if_neg c2]
   refine decide_eq_decide.2 ?_
   simp only [orL,cmpI]
   repeat' split
   all_goals omega
theorem cmpI_in (a b:Int): -1≤cmpI a b∧cmpI a b≤1:=by
 unfold cmpI
 repeat' split
 all_goals omega
theorem compare_pure (o:Int) (a b:Ent):Pure P 176 [.i o,a.a,b.a] (.i (compE o a b)):=by
 generalize hR:compE o a b=R
 refine pure_of Tryz.func176 rfl rfl (by simp [Tryz.f176]) (by simp [bnd,bnd.bndL,Ent.a,Ent.cs]) (by simp [bnd,bnd.bndL]) fun B hB hnx=>?_
 simp only [Tryz.f176] at hB ⊢
 have h1:=cmp_pure a.bound b.bound
 have h2:=cmp_pure a.depth b.depth
 have h3:=cmp_pure a.no b.no
 have w2:=cmpI_in a.depth b.depth
 rw [compE] at hR
 have o1:=or_pure [cmpI a.bound b.bound,-cmpI a.depth b.depth,cmpI a.no b.no] (by simp)
 have o2:=or_pure [-cmpI a.depth b.depth,cmpI a.bound b.bound,cmpI a.no b.no] (by simp)
 have o3:=or_pure [cmpI a.no b.no,cmpI a.bound b.bound,cmpI a.depth b.depth] (by simp)
 generalize cmpI a.bound b.bound=cb at *
 generalize cmpI a.depth b.depth=cd at *
 generalize cmpI a.no b.no=cn at *
 have wd:IntKind.i64.wrap (-cd)= -cd:=w64 _ (by omega)
 refine K_run hB 100 ?_
 simp [go_sem,Ent.a,Ent.cs]
 refine K_drawn [] rfl (by rw [hB];kernel_rfl) ?_
 refine K_run hB 100 ?_
 simp [go_sem]
 refine K_dCallP rfl rfl rfl (args:=[.i a.bound,.i b.bound]) (f:=125) (by simp [go_sem]) (h1) ?_
 refine K_run hB 100 ?_
 simp [go_sem]
 refine K_dCallP rfl rfl rfl (args:=[.i a.depth,.i b.depth]) (f:=125) (by simp [go_sem]) (h2) ?_
 refine K_run hB 100 ?_
 simp [go_sem]
 refine K_dCallP rfl rfl rfl (args:=[.i a.no,.i b.no]) (f:=125) (by simp [go_sem]) (h3) ?_
 by_cases c1:o=0
 ·rw [if_pos c1] at hR
  refine K_run hB 100 ?_
  simp [go_sem,c1,wd]
  refine K_call rfl rfl rfl (args:=[.fsl (ints [cb,-cd,cn])]) (f:=177) (by simp [go_sem,ints]) (by simp [go_sem,hB]) ((Pure.loose o1 (by simp [bnd])).spec _ _) ?_
  refine K_run hB 100 ?_
  simp [go_sem]
  exact hR
 rw [if_neg c1] at hR
 by_cases c2:o=1
 ·rw [if_pos c2] at hR
  refine K_run hB 100 ?_
  simp [go_sem,c1,c2,wd]
  refine K_call rfl rfl rfl (args:=[.fsl (ints [-cd,cb,cn])]) (f:=177) (by simp [go_sem,ints]) (by simp [go_sem,hB]) ((Pure.loose o2 (by simp [bnd])).spec _ _) ?_
  refine K_run hB 100 ?_
  simp [go_sem]
  exact hR
 rw [if_neg c2] at hR
 refine K_run hB 100 ?_
 simp [go_sem,c1,c2]
 refine K_call rfl rfl rfl (args:=[.fsl (ints [cn,cb,cd])]) (f:=177) (by simp [go_sem,ints]) (by simp [go_sem,hB]) ((Pure.loose o3 (by simp [bnd])).spec _ _) ?_
 refine K_run hB 100 ?_
 simp [go_sem]
 exact hR
theorem hless_pure (o:Int) (a b:Ent):Pure P 175 [.i o,a.a,b.a] (.b (lessE o a b)):=by
 refine pure_of Tryz.func175 rfl rfl (by simp [Tryz.f175]) (by simp [bnd,bnd.bndL,Ent.a,Ent.cs]) (by simp [bnd,bnd.bndL]) fun B hB hnx=>?_
 simp only [Tryz.f175] at hB ⊢
 have h:=compare_pure o a b
 rw [←compE_less]
 refine K_run hB 100 ?_
 simp [go_sem,Ent.a,Ent.cs]
 refine K_call rfl rfl rfl (args:=[.i o,a.a,b.a]) (f:=176) (by simp [go_sem,Ent.a,Ent.cs]) (by simp [go_sem,hB]) ((h).spec _ _) ?_
 refine K_run hB 100 ?_
 simp [go_sem]
theorem ahead_pure (o o2:Int) (a b:Ent):Pure P 174 [.agg ((a.t o).map .t),.agg ((b.t o2).map .t)] (.b (lessE o a b)):=by
 refine pure_of Tryz.func174 rfl rfl (by simp [Tryz.f174]) (by simp [bnd,bnd.bndL,Ent.t]) (by simp [bnd,bnd.bndL]) fun B hB hnx=>?_
 simp only [Tryz.f174] at hB ⊢
 have h:=hless_pure o a b
 refine K_run hB 100 ?_
 simp [go_sem,Ent.t]
 refine K_call rfl rfl rfl (args:=[.i o,a.a,b.a]) (f:=175) (by simp [go_sem,Ent.a,Ent.cs]) (by simp [go_sem,hB]) ((h).spec _ _) ?_
 refine K_run hB 100 ?_
 simp [go_sem]
end Go.Proofs.YtnoifgjiipgpoaaGreat

set_option maxRecDepth 4000
set_option maxHeartbeats 1000000
namespace Go.Proofs.YtnoifgjiipgpoaaGreat
open Go Go.Proofs.YtnoifgjiipgpoaaGreat.R
def itemsT (o:Int) (l:List Ent):List (List T):=l.map (Ent.t o)
def swapE (l:List Ent) (i j:Nat):List Ent:=(l.set i (l.getD j Ent.zero)).set j (l.getD i Ent.zero)
def upGo (o:Int):Nat→List Ent→Nat→List Ent
 |0,l,_=>l
 |f+1,l,i=>if 0<i∧lessE o (l.getD i Ent.zero) (l.getD ((i-1) / 2) Ent.zero)=true then upGo o f (swapE l i ((i-1) / 2)) ((i-1) / 2) else l
def putH (o:Int) (l:List Ent) (e:Ent):List Ent:=upGo o (l.length+1) (l++[e]) l.length
def putS (σ:Nat→AObj) (nx h q:Nat) (o:Int) (l:List Ent):Nat→AObj:=fun i=>if i=h then .box [.ref (nx+1),.i o] else if i=nx+1 then .arr 4 (itemsT o l) else if i<nx∧i≠q then σ i else .dead
theorem item_ahead:((P.info? 110).bind fun info=>(info.methods.find? fun m=>m.name== "haulier/heap.ahead").map fun mm=>(mm.path,mm.func))=some (#[],some (174,false)):=by kernel_rfl
theorem item_meth:∃info mm,P.info? 110=some info∧(info.methods.find? fun m=>m.name== "haulier/heap.ahead")=some mm∧mm.path= #[]∧mm.func=some (174,false):=by
 obtain ⟨info,h1,h2⟩:=Option.bind_eq_some_iff.1 item_ahead
 obtain ⟨mm,h3,h4⟩:=Option.map_eq_some_iff.1 h2
 obtain ⟨h5,h6⟩:=Prod.mk.inj h4
 exact ⟨info,mm,h1,h3,h5,h6⟩
theorem swapE_len (l:List Ent) (i j:Nat):(swapE l i j).length=l.length:=by simp [swapE]
theorem items_len (o:Int) (l:List Ent):(itemsT o l).length=l.length:=List.length_map _
theorem items_get (o:Int) (l:List Ent) {k:Nat} (h:k<l.length) (h':k<(itemsT o l).length):(itemsT o l)[k]'h'=(l.getD k Ent.zero).t o:=by
 rw [List.getD_eq_getElem?_getD,List.getElem?_eq_getElem h]
 exact List.getElem_map _
theorem items_swap (o:Int) (l:List Ent) (i j:Nat):((itemsT o l).set i ((l.getD j Ent.zero).t o)).set j ((l.getD i Ent.zero).t o)=itemsT o (swapE l i j):=by
 simp [itemsT,swapE,List.map_set]
theorem put_spec (o:Int) (l:List Ent) (e:Ent) (hl:l.length<2^30) {σ:Nat→AObj} {nx h q:Nat} (hh:h<nx) (hσ:σ h= .box [.ref q,.i o]) (hq:q<nx) (hσq:σ q= .arr 4 (itemsT o l)):
  CallSpec P 71 [.ptr h 0,.agg ((e.t o).map .t)] σ nx (.tup []) (putS σ nx h q o (putH o l e)) (nx+2):=by
 refine spec_of_K Tryz.func71 rfl rfl (by simp [Tryz.f71]) fun B hB hnx hσB=>?_
 simp only [Tryz.f71] at hB ⊢
 obtain ⟨info,mm,m1,m2,m3,m4⟩:=item_meth
 have hne:¬h=nx:=by omega
 have hne2:¬q=nx:=by omega
 have hqh:¬q=h:=fun e=>by rw [e,hσ] at hσq;cases hσq
 have hil:=items_len o l
 have hcap:l.length+1≤mostLen:=by show _≤4294967296;omega
 have happ:itemsT o l++[[.i e.bound,.i e.depth,.i e.no,.i o]]=itemsT o (l++[e]):=by simp [itemsT,Ent.t]
 have hne3:¬h=nx+1:=by omega
 have w0':IntKind.i64.wrap (l.length:Int)=(l.length:Int):=w64 _ (by omega)
 have hne5:¬nx+1=h:=by omega
 have hne4:¬h=q:=fun e=>hqh e.symm
 have hil2:(itemsT o (l++[e])).length=l.length+1:=by rw [items_len,List.length_append];rfl
 have w0:IntKind.i64.wrap ((l.length:Int)+1-1)=(l.length:Int):=by rw [w64 _ (by omega)];omega
 generalize hR:putH o l e=R
 rw [putH] at hR
 have fin:∀(τ:Nat→AObj) (m:Slots),τ h= .box [.ref (nx+1),.i o]→τ (nx+1)= .arr 4 (itemsT o R)→(∀j,j<nx→j≠h→j≠q→τ j=σ j)→Go.Proofs.YtnoifgjiipgpoaaGreat.R.Ends nx (St.mk m τ (nx+2)) (.tup []) (putS σ nx h q o R) (nx+2) (.tup []):=fun τ m k1 k2 k3=>by
  refine ⟨fun i=>?_,Nat.le_refl _,by omega,.inl rfl,.inl rfl⟩
  unfold putS
  by_cases e1:i=h
  ·rw [if_pos e1,e1];exact .inr ⟨k1.symm,.inl rfl⟩
  rw [if_neg e1]
  by_cases e2:i=nx+1
  ·rw [if_pos e2,e2];exact .inr ⟨k2.symm,.inl rfl⟩
  rw [if_neg e2]
  by_cases e3:i<nx∧i≠q
  ·rw [if_pos e3];exact .inr ⟨(k3 i e3.1 e1 e3.2).symm,.inl rfl⟩
  ·rw [if_neg e3];exact .inl rfl
 refine K_run hB 100 ?_
 simp [go_sem,Ent.t]
 refine K_scopeN (α:=Nat×List Ent×Nat×(Nat→AObj)) 0 (fun (f,m,i,τ)=>upGo o f m i=R∧i<f∧i<m.length∧m.length<2^31∧τ h= .box [.ref (nx+1),.i o]∧τ (nx+1)= .arr 4 (itemsT o m)∧∀j,j<nx→j≠h→j≠q→τ j=σ j)
  (fun (f,m,i,τ)=>⟨sl [(0,.ptr h 0),(4,.i i)],τ,nx+2⟩) (fun a=>a.1) rfl ?_ ?_
 ·rintro ⟨f,m,i,τ⟩ ⟨g1,g2,g3,g4,g5,g6,g7⟩
  have himl:=items_len o m
  have w1:IntKind.i64.wrap ((i:Int)-1)=(i:Int)-1:=w64 _ (by omega)
  obtain ⟨v,hv⟩:∃v,v=(i-1) / 2:=⟨_,rfl⟩
  have w2:IntKind.i64.wrap (Int.tdiv ((i:Int)-1) 2)=(v:Int):=by
   rw [hv]
   rcases Nat.eq_zero_or_pos i with e | e
   ·subst e;rfl
   ·obtain ⟨k,rfl⟩:∃k,i=k+1:=⟨i-1,by omega⟩
    rw [show (((k+1:Nat):Int)-1)=(k:Int) by omega,Int.tdiv_eq_ediv_of_nonneg (by omega),w64 _ (by omega)]
    simp
  refine K_run hB 100 ?_
  simp [go_sem,w1,w2]
  obtain ⟨f,rfl⟩:∃f',f=f'+1:=⟨f-1,by omega⟩
  rw [upGo,←hv] at g1
  by_cases c0:i=0
  ·rw [if_neg (by omega)] at g1
   subst g1
   subst c0
   refine K_drawn [] rfl (by rw [hB];kernel_rfl) ?_
   refine K_run hB 100 ?_
   simp [go_sem,w1]
   exact fin _ _ g5 g6 g7
  have hov:v<m.length:=by omega
  have hgi:=fun h=>items_get o m (k:=i) g3 h
  have hgo:=fun h=>items_get o m (k:=v) hov h
  have hsw:=items_swap o m i v
  have hneI:¬i=v:=by omega
  generalize m.getD i Ent.zero=a at *
  generalize m.getD v Ent.zero=b at *
  have hah:=ahead_pure o o a b
  have c1:0<i:=by omega
  refine K_drawn [] rfl (by rw [hB];kernel_rfl) ?_
  refine K_run hB 100 ?_
  simp [go_sem,c1,g5,g6,himl,g3,hov,hgi,hgo,Ent.t]
  refine K_dLook (v:=.ifc 110 (a.t o)) (fun ho=>?_) (by simp [go_sem]) ?_
  ·exact does_ifc ho (by simp [go_sem]) rfl (tt_some tt110).1 rfl (by simp [go_sem,Ent.t])
  refine K_run hB 100 ?_
  simp [go_sem,c1,g5,g6,himl,g3,hov,hgi,hgo,Ent.t]
  refine K_dLook (v:=.b (lessE o a b)) (fun ho=>?_) (by simp [go_sem]) ?_
  ·exact does_invoke ho (by simp [go_sem]) rfl rfl rfl m1 m2 m3 m4 (tt_some tt110).1 rfl (by first | (simp [go_sem];done) | (simp [go_sem];rfl)) (by first | (simp [go_sem,Ent.t];done) | (simp [go_sem,Ent.t];rfl)) (hah.spec _ _)
  cases hless:lessE o a b with
  |false=>
   rw [if_neg (by simp [hless])] at g1
   subst g1
   refine K_run hB 100 ?_
   simp [go_sem]
   exact fin _ _ g5 g6 g7
  |true=>
   rw [if_pos ⟨c1,hless⟩] at g1
   refine K_run hB 100 ?_
   simp [go_sem]
   refine K_drawnF [25,27] [9] rfl (by rw [hB];kernel_rfl) (by kernel_rfl) fun ht hf'=>?_
   have hgs:∀h:v<((itemsT o m).set i [.i b.bound,.i b.depth,.i b.no,.i o]).length,((itemsT o m).set i [.i b.bound,.i b.depth,.i b.no,.i o])[v]'h=[.i b.bound,.i b.depth,.i b.no,.i o]:=fun h=>by
    rw [List.getElem_set_ne hneI]
    exact hgo _
   have hls:((itemsT o m).set i [.i b.bound,.i b.depth,.i b.no,.i o]).length=m.length:=by rw [List.length_set];exact himl
   simp only [Ent.t] at hsw
   refine K_run hB 100 ?_
   simp [go_sem,ht,hf',g5,g6,himl,g3,hov,hgi,hgo,hgs,hls,hsw,Ent.t]
   refine Next.mk (f,swapE m i v,v,_) ⟨g1,by simp only;omega,by rw [swapE_len];exact hov,by rw [swapE_len];exact g4,?_,?_,?_⟩ (Imp.slots (by simp [go_sem]) rfl rfl) (by simp only;omega)
   ·simp [oput,g5,hne3]
   ·simp [oput]
   ·intro j h1 h2 h3
    simp [oput,show ¬j=nx+1 by omega,g7 j h1 h2 h3]
 ·intro J hJ
  refine K_run hB 100 ?_
  simp [go_sem,hσ,hne]
  refine K_drawnF [7,10] [0] rfl (by rw [hB];kernel_rfl) (by kernel_rfl) fun ht hf'=>?_
  refine K_run hB 22 ?_
  simp [go_sem,ht,hf',hσ,hne,hne2,hne3,hne4,hne5,hσq,hil,hcap,happ,hil2,w0]
  refine hJ (l.length+1,l++[e],l.length,_) _ ⟨hR,by omega,by rw [List.length_append];simp,by rw [List.length_append];simp only [List.length_cons,List.length_nil];omega,?_,?_,?_⟩ (Imp.slots (by simp [go_sem,w0']) rfl rfl)
  ·simp [oput]
  ·simp [oput,hne3]
   intro e;omega
  ·intro j h1 h2 h3
   simp [oput,h2,h3,show ¬j=nx by omega,show ¬j=nx+1 by omega]
end Go.Proofs.YtnoifgjiipgpoaaGreat

set_option maxRecDepth 4000
set_option maxHeartbeats 2000000
namespace Go.Proofs.YtnoifgjiipgpoaaGreat
open Go Go.Proofs.YtnoifgjiipgpoaaGreat.R
def pick1 (o:Int) (l:List Ent) (k s:Nat):Nat:=if k<l.length∧lessE o (l.getD k Ent.zero) (l.getD s Ent.zero)=true then k else s
def pkN (o:Int) (l:List Ent) (i:Nat):Nat→Nat
 |0=>i
 |j+1=>pick1 o l (2*i+1+j) (pkN o l i j)
def downGo (o:Int):Nat→List Ent→Nat→List Ent
 |0,l,_=>l
 |f+1,l,i=>if pkN o l i 2=i then l else downGo o f (swapE l i (pkN o l i 2)) (pkN o l i 2)
def restH (o:Int) (l:List Ent):List Ent:=
 let m:=l.take (l.length-1)
 if m.length=0 then m else downGo o (l.length+1) (m.set 0 (l.getD (l.length-1) Ent.zero)) 0
def takeS (σ:Nat→AObj) (nx h q:Nat) (o:Int) (l:List Ent):Nat→AObj:=fun i=>if i=h then .box [.ref (nx+4),.i o] else if i=nx+4 then .arr 4 (itemsT o l) else if i<nx∧i≠q then σ i else .dead
theorem pick1_lt {o:Int} {l:List Ent} {k s:Nat} (h:s<l.length):pick1 o l k s<l.length:=by
 unfold pick1;split
 ·rename_i h2;exact h2.1
 ·exact h
theorem pkN_lt {o:Int} {l:List Ent} {i:Nat} (h:i<l.length):∀j,pkN o l i j<l.length
 |0=>h
 |j+1=>pick1_lt (pkN_lt h j)
theorem pick1_ge {o:Int} {l:List Ent} {k s:Nat}:pick1 o l k s=k∨pick1 o l k s=s:=by
 unfold pick1;split
 ·exact .inl rfl
 ·exact .inr rfl
theorem pk2_gt {o:Int} {l:List Ent} {i:Nat} (h:pkN o l i 2≠i):i<pkN o l i 2:=by
 have h1:=pick1_ge (o:=o) (l:=l) (k:=2*i+1+1) (s:=pkN o l i 1)
 have h2:=pick1_ge (o:=o) (l:=l) (k:=2*i+1+0) (s:=i)
 have e1:pkN o l i 2=pick1 o l (2*i+1+1) (pkN o l i 1):=rfl
 have e2:pkN o l i 1=pick1 o l (2*i+1+0) i:=rfl
 omega
def itemC (o:Int) (e:Ent):List AV:=[.i e.bound,.i e.depth,.i e.no,.i o]
theorem take_nil_spec (o:Int) {σ:Nat→AObj} {nx h q:Nat} (hh:h<nx) (hσ:σ h= .box [.ref q,.i o]) (hq:q<nx) (hσq:σ q= .arr 4 []):
  CallSpec P 41 [.ptr h 0] σ nx (.tup [.agg [.i 0,.i 0,.i 0,.i 0],.b false]) σ nx:=by
 refine spec_keep Tryz.func41 rfl rfl (by simp [Tryz.f41]) (by simp [bnd,bnd.bndL]) fun hk B hB hnx hσB=>?_
 simp only [Tryz.f41] at hB ⊢
 have hne:¬h=nx:=by omega
 have hne1:¬h=nx+1:=by omega
 have hne2:¬q=nx:=by omega
 have hne3:¬q=nx+1:=by omega
 refine K_run hB 100 ?_
 simp [go_sem]
 refine K_scopeN (α:=Unit) 0 (fun _=>False) (fun _=>⟨sl [],noObj,0⟩) (fun _=>0) rfl (fun _ h=>h.elim) ?_
 intro J hJ
 refine K_run hB 100 ?_
 simp [go_sem,hσ,hne,hne1,hne2,hne3,hσq]
 exact ⟨by omega,fun i hi=>by simp [oput,show ¬i=nx by omega,show ¬i=nx+1 by omega]⟩
theorem take_spec (o:Int) (l:List Ent) (hl:l.length<2^30) (hpos:0<l.length) {σ:Nat→AObj} {nx h q:Nat} (hh:h<nx) (hσ:σ h= .box [.ref q,.i o]) (hq:q<nx) (hσq:σ q= .arr 4 (itemsT o l)):
  CallSpec P 41 [.ptr h 0] σ nx (.tup [.agg (itemC o (l.getD 0 Ent.zero)),.b true]) (takeS σ nx h q o (restH o l)) (nx+5):=by
 refine spec_of_K Tryz.func41 rfl rfl (by simp [Tryz.f41]) fun B hB hnx hσB=>?_
 simp only [Tryz.f41] at hB ⊢
 obtain ⟨info,mm,m1,m2,m3,m4⟩:=item_meth
 have hne:¬h=nx:=by omega
 have hne1:¬h=nx+1:=by omega
 have hne2:¬q=nx:=by omega
 have hne3:¬q=nx+1:=by omega
 have hqh:¬q=h:=fun e=>by rw [e,hσ] at hσq;cases hσq
 have hhq:¬h=q:=fun e=>hqh e.symm
 have hil:=items_len o l
 have w0:IntKind.i64.wrap ((l.length:Int)-1)=((l.length-1:Nat):Int):=by rw [w64 _ (by omega)];omega
 have hl0:¬l.length=0:=by omega
 have hg0:=fun h=>items_get o l (k:=0) hpos h
 have hg1:=fun h=>items_get o l (k:=l.length-1) (by omega) h
 have hpred:l.length-1<l.length:=by omega
 obtain ⟨n,hn⟩:∃n,n=l.length-1:=⟨_,rfl⟩
 rw [←hn] at w0 hg1 hpred
 have hle:n≤l.length:=by omega
 have htk:(itemsT o l).take n=itemsT o (l.take n):=by rw [itemsT,itemsT,List.map_take]
 generalize hR:restH o l=R
 rw [restH,←hn] at hR
 try simp only at hR
 generalize hfst:l.getD 0 Ent.zero=a0 at *
 generalize hlst:l.getD n Ent.zero=a1 at *
 have hq0:(itemsT o l)[0]? =some [.i a0.bound,.i a0.depth,.i a0.no,.i o]:=by
  rw [List.getElem?_eq_getElem (by rw [hil];exact hpos),hg0];rfl
 have hq1:(itemsT o l)[n]? =some [.i a1.bound,.i a1.depth,.i a1.no,.i o]:=by
  rw [List.getElem?_eq_getElem (by rw [hil];exact hpred),hg1];rfl
 have e1:¬h=nx+1+1:=by omega
 have e2:¬h=nx+1+1+1:=by omega
 have e3:¬q=nx+1+1:=by omega
 have e4:¬q=nx+1+1+1:=by omega
 have e5:¬h=nx+1+1+1+1:=by omega
 have f1:¬nx+1+1=h:=by omega
 have f2:¬nx+1+1=q:=by omega
 have f3:¬nx+1+1+1=h:=by omega
 have f4:¬nx+1+1+1=q:=by omega
 have f5:¬nx=h:=by omega
 have f6:¬nx=q:=by omega
 have f7:¬nx+1=h:=by omega
 have f8:¬nx+1=q:=by omega
 have fa:¬nx=nx+1+1:=by omega
 have fb:¬nx=nx+1+1+1:=by omega
 have fc:¬nx=nx+1+1+1+1:=by omega
 have fin:∀(τ:Nat→AObj) (m:Slots) (r:AV),τ h= .box [.ref (nx+4),.i o]→τ (nx+4)= .arr 4 (itemsT o R)→(∀j,j<nx→j≠h→j≠q→τ j=σ j)→Go.Proofs.YtnoifgjiipgpoaaGreat.R.Ends nx (St.mk m τ (nx+5)) r (takeS σ nx h q o R) (nx+5) r:=fun τ m r k1 k2 k3=>by
  refine ⟨fun i=>?_,Nat.le_refl _,by omega,.inl rfl,.inl rfl⟩
  unfold takeS
  by_cases e1:i=h
  ·rw [if_pos e1,e1];exact .inr ⟨k1.symm,.inl rfl⟩
  rw [if_neg e1]
  by_cases e2:i=nx+4
  ·rw [if_pos e2,e2];exact .inr ⟨k2.symm,.inl rfl⟩
  rw [if_neg e2]
  by_cases e3:i<nx∧i≠q
  ·rw [if_pos e3];exact .inr ⟨(k3 i e3.1 e1 e3.2).symm,.inl rfl⟩
  ·rw [if_neg e3];exact .inl rfl
 have e6:¬nx+1+1+1+1=h:=by omega
 have e7:¬nx+1+1+1+1=q:=by omega
 have hlt:(itemsT o (l.take n)).length=n:=by rw [items_len,List.length_take];omega
 refine K_run hB 100 ?_
 simp [go_sem]
 refine K_scopeN (α:=Nat×List Ent×Nat×Nat×(Nat→AObj)) 0 (fun (f,m,i,p,τ)=>downGo o f m i=R∧m.length<f+i∧i<m.length∧m.length<2^30∧τ h= .box [.ref (nx+4),.i o]∧τ (nx+4)= .arr 4 (itemsT o m)∧(∀j,j<nx→j≠h→j≠q→τ j=σ j)∧τ p= .box (itemC o a0)∧nx+1<p∧p<nx+4∧∃cs,τ nx= .box cs∧cs.length=4)
  (fun (f,m,i,p,τ)=>⟨sl [(0,.ptr h 0),(2,.ptr nx 0),(5,.ptr p 0),(7,.i i)],τ,nx+5⟩) (fun a=>a.1) rfl ?_ ?_
 ·rintro ⟨f,m,i,p,τ⟩ ⟨g1,g2,g3,g4,g5,g6,g7,g8,g9,g10,cs,g11,g12⟩
  obtain ⟨f,rfl⟩:∃f',f=f'+1:=⟨f-1,by omega⟩
  rw [downGo] at g1
  have himl:=items_len o m
  have x1:IntKind.i64.wrap 1=1:=w64 1 (by omega)
  have x2:IntKind.i64.wrap 2=2:=w64 2 (by omega)
  obtain ⟨k1,hk1⟩:∃k,k=2*i+1:=⟨_,rfl⟩
  obtain ⟨k2,hk2⟩:∃k,k=2*i+2:=⟨_,rfl⟩
  have w1:IntKind.i64.wrap (2*(i:Int))=2*(i:Int):=w64 _ (by omega)
  have w2:IntKind.i64.wrap (2*(i:Int)+1)=(k1:Int):=by rw [w64 _ (by omega)];omega
  have w3:IntKind.i64.wrap (2*(i:Int)+2)=(k2:Int):=by rw [w64 _ (by omega)];omega
  refine K_run hB 100 ?_
  simp [go_sem,w1,w2,w3]
  refine K_loopP (α:=Nat) (fun j=>j≤2) (fun j=>⟨sl [(0,.ptr h 0),(2,.ptr nx 0),(5,.ptr p 0),(7,.i i),(8,.i (pkN o m i j)),(70,.agg [.i k1,.i k2]),(71,.i j)],τ,nx+5⟩) (fun j=>2-j) 0 (by omega) (Imp.slots (by simp [go_sem,pkN]) rfl rfl) ?_
  intro j hj
  obtain rfl | rfl | rfl:j=0∨j=1∨j=2:=by omega
  ·have hsl:=pkN_lt (o:=o) g3 0
   have hnx:pkN o m i 1=pick1 o m k1 (pkN o m i 0):=by rw [hk1];rfl
   generalize hs8:pkN o m i 0=s at *
   refine K_run hB 60 ?_
   simp [go_sem,hs8]
   by_cases c2:k1<m.length
   ·have hgk:=fun h=>items_get o m (k:=k1) c2 h
    have hgs:=fun h=>items_get o m (k:=s) hsl h
    rw [pick1] at hnx
    generalize m.getD k1 Ent.zero=a at *
    generalize m.getD s Ent.zero=b at *
    have hah:=ahead_pure o o a b
    refine K_drawn [] rfl (by rw [hB];kernel_rfl) ?_
    refine K_run hB 60 ?_
    simp [go_sem,c2,g5,g6,himl,hsl,hgk,hgs,Ent.t]
    refine K_dLook (v:=.ifc 110 (a.t o)) (fun ho=>?_) (by simp [go_sem]) ?_
    ·exact does_ifc ho (by simp [go_sem]) rfl (tt_some tt110).1 rfl (by simp [go_sem,Ent.t])
    refine K_run hB 60 ?_
    simp [go_sem,c2,g5,g6,himl,hsl,hgk,hgs,Ent.t]
    refine K_dLook (v:=.b (lessE o a b)) (fun ho=>?_) (by simp [go_sem]) ?_
    ·exact does_invoke ho (by simp [go_sem]) rfl rfl rfl m1 m2 m3 m4 (tt_some tt110).1 rfl (by first | (simp [go_sem];done) | (simp [go_sem];rfl)) (by first | (simp [go_sem,Ent.t];done) | (simp [go_sem,Ent.t];rfl)) (hah.spec _ _)
    cases hless:lessE o a b with
    |false=>
     rw [if_neg (by simp [hless])] at hnx
     refine K_run hB 60 ?_
     simp [go_sem]
     exact Next.mk 1 (by omega) (Imp.slots (by simp [go_sem,hnx,x1,x2]) rfl rfl) (by omega)
    |true=>
     rw [if_pos ⟨c2,hless⟩] at hnx
     refine K_run hB 60 ?_
     simp [go_sem]
     exact Next.mk 1 (by omega) (Imp.slots (by simp [go_sem,hnx,x1,x2]) rfl rfl) (by omega)
   ·rw [pick1,if_neg (fun h=>c2 h.1)] at hnx
    refine K_drawn [] rfl (by rw [hB];kernel_rfl) ?_
    refine K_run hB 60 ?_
    simp [go_sem,c2,g5,g6,himl]
    exact Next.mk 1 (by omega) (Imp.slots (by simp [go_sem,hnx,x1,x2]) rfl rfl) (by omega)
  ·have hsl:=pkN_lt (o:=o) g3 1
   have hnx:pkN o m i 2=pick1 o m k2 (pkN o m i 1):=by rw [hk2];rfl
   generalize hs8:pkN o m i 1=s at *
   refine K_run hB 60 ?_
   simp [go_sem,hs8]
   by_cases c2:k2<m.length
   ·have hgk:=fun h=>items_get o m (k:=k2) c2 h
    have hgs:=fun h=>items_get o m (k:=s) hsl h
    rw [pick1] at hnx
    generalize m.getD k2 Ent.zero=a at *
    generalize m.getD s Ent.zero=b at *
    have hah:=ahead_pure o o a b
    refine K_drawn [] rfl (by rw [hB];kernel_rfl) ?_
    refine K_run hB 60 ?_
    simp [go_sem,c2,g5,g6,himl,hsl,hgk,hgs,Ent.t]
    refine K_dLook (v:=.ifc 110 (a.t o)) (fun ho=>?_) (by simp [go_sem]) ?_
    ·exact does_ifc ho (by simp [go_sem]) rfl (tt_some tt110).1 rfl (by simp [go_sem,Ent.t])
    refine K_run hB 60 ?_
    simp [go_sem,c2,g5,g6,himl,hsl,hgk,hgs,Ent.t]
    refine K_dLook (v:=.b (lessE o a b)) (fun ho=>?_) (by simp [go_sem]) ?_
    ·exact does_invoke ho (by simp [go_sem]) rfl rfl rfl m1 m2 m3 m4 (tt_some tt110).1 rfl (by first | (simp [go_sem];done) | (simp [go_sem];rfl)) (by first | (simp [go_sem,Ent.t];done) | (simp [go_sem,Ent.t];rfl)) (hah.spec _ _)
    cases hless:lessE o a b with
    |false=>
     rw [if_neg (by simp [hless])] at hnx
     refine K_run hB 60 ?_
     simp [go_sem]
     exact Next.mk 2 (by omega) (Imp.slots (by simp [go_sem,hnx,x1,x2]) rfl rfl) (by omega)
    |true=>
     rw [if_pos ⟨c2,hless⟩] at hnx
     refine K_run hB 60 ?_
     simp [go_sem]
     exact Next.mk 2 (by omega) (Imp.slots (by simp [go_sem,hnx,x1,x2]) rfl rfl) (by omega)
   ·rw [pick1,if_neg (fun h=>c2 h.1)] at hnx
    refine K_drawn [] rfl (by rw [hB];kernel_rfl) ?_
    refine K_run hB 60 ?_
    simp [go_sem,c2,g5,g6,himl]
    exact Next.mk 2 (by omega) (Imp.slots (by simp [go_sem,hnx,x1,x2]) rfl rfl) (by omega)
  ·have hsl:=pkN_lt (o:=o) g3 2
   have hgt:=pk2_gt (o:=o) (l:=m) (i:=i)
   generalize pkN o m i 2=s at *
   obtain ⟨z0,z1,z2,z3,rfl⟩:∃z0 z1 z2 z3,cs=[z0,z1,z2,z3]:=by
    match cs,g12 with
    |[z0,z1,z2,z3],_=>exact ⟨z0,z1,z2,z3,rfl⟩
   refine K_run hB 60 ?_
   simp [go_sem]
   refine fork_dec (fun c3=>?_) (fun c3=>?_)
   ·rw [if_pos c3] at g1
    subst g1
    simp [go_sem,g8,g11,itemC]
    refine fin _ _ _ ?_ ?_ fun j j1 j2 j3=>?_
    ·simp [oput,g5,hne]
    ·simp [oput,g6]
    ·simp [oput,show ¬j=nx by omega,g7 j j1 j2 j3]
   ·rw [if_neg c3] at g1
    have hgi:=fun h=>items_get o m (k:=i) g3 h
    have hgs:=fun h=>items_get o m (k:=s) hsl h
    have hsw:=items_swap o m i s
    have c4:¬i=s:=fun e=>c3 e.symm
    generalize m.getD i Ent.zero=a at *
    generalize m.getD s Ent.zero=b at *
    have hgs2:∀h:s<((itemsT o m).set i [.i b.bound,.i b.depth,.i b.no,.i o]).length,((itemsT o m).set i [.i b.bound,.i b.depth,.i b.no,.i o])[s]'h=[.i b.bound,.i b.depth,.i b.no,.i o]:=fun h=>by
     rw [List.getElem_set_ne c4]
     exact hgs _
    have hls:((itemsT o m).set i [.i b.bound,.i b.depth,.i b.no,.i o]).length=m.length:=by rw [List.length_set];exact himl
    simp only [Ent.t] at hsw
    simp [go_sem]
    refine K_drawnF [25,27] [9] rfl (by rw [hB];kernel_rfl) (by kernel_rfl) fun ht hf'=>?_
    refine K_run hB 100 ?_
    simp [go_sem,ht,hf',g5,g6,himl,g3,hsl,hgi,hgs,hgs2,hls,hsw,Ent.t]
    have hgt2:=hgt c3
    refine Next.mk (f,swapE m i s,s,p,_) ⟨g1,by rw [swapE_len];simp only;omega,by rw [swapE_len];exact hsl,by rw [swapE_len];exact g4,?_,?_,fun j j1 j2 j3=>?_,?_,g9,g10,[z0,z1,z2,z3],?_,rfl⟩ (Imp.slots (by simp [go_sem]) rfl rfl) (by simp only;omega)
    ·simp [oput,g5,show ¬h=nx+4 by omega]
    ·simp [oput]
    ·simp [oput,show ¬j=nx+4 by omega,g7 j j1 j2 j3]
    ·simp [oput,show ¬p=nx+4 by omega,g8]
    ·simp [oput,g11]
 ·intro J hJ
  refine K_run hB 100 ?_
  simp [go_sem,hσ,hne,hne1,hne2,hne3,hσq,hil,hl0]
  refine K_drawnP [18,19,20,21] [0,1,2,3,4,5,6,7,8,9,10,11,12,13,14,15,16,17,18,19] 18 19 (by decide) rfl (by rw [hB];kernel_rfl) (by kernel_rfl) fun ht hf'=>?_
  refine K_run hB 60 ?_
  simp [go_sem,ht,hf',hσ,hne,hne1,hne2,hne3,hσq,hil,hl0,hpos,hg0,hg1,hpred,w0,hq0,hq1,e1,e2,e3,e4,Ent.t]
  refine K_dPair (by kernel_rfl) ?_ ?_
  all_goals
   refine K_run hB 60 ?_
   simp [go_sem,ht,hf',hσ,hne,hne1,hne2,hne3,hσq,hil,hl0,hpos,hg0,hg1,hpred,w0,hq0,hq1,e1,e2,e3,e4,Ent.t]
   refine K_drawnF [11,14] [0] rfl (by rw [hB];kernel_rfl) (by kernel_rfl) fun ht hf'=>?_
   refine K_run hB 60 ?_
   simp [go_sem,ht,hf',hσ,hne,hne1,hne2,hne3,hσq,hil,hl0,hpos,hg0,hg1,hpred,w0,hq0,hq1,e1,e2,e3,e4,Ent.t]
   apply K_dTold
   ·intro ho
    exact does_front (q:=q) (es:=itemsT o l) (sz:=4) (n:=n) (ik:=.i64) ho (by simp [go_sem]) rfl tt102 rfl tt110 (by simp [go_sem]) (by simp [oput,hne2,hne3,e3,e4,hσq]) (by simp [go_sem]) (by omega) (by omega)
   ·simp
   ·simp
   rw [htk]
   refine K_run hB 60 ?_
   simp [go_sem,ht,hf',hσ,hne,hne1,hne2,hne3,hhq,hqh,hσq,hlt,e1,e2,e3,e4,e5,e6,e7]
   refine fork_dec (fun c1=>?_) (fun c1=>?_)
  ·rw [if_pos (by rw [←items_len o,hlt];exact c1)] at hR
   subst hR
   simp [go_sem,hne,hne1,e1,e2,e3,e4,e5,e6,e7,f1,f2,f3,f4,f5,f6,f7,f8,fa,fb,fc]
   refine fin _ _ _ ?_ ?_ fun j j1 j2 j3=>?_
   ·simp [oput,hne,hne1,e1,e2,e3,e4,e5,e6,e7,f1,f2,f3,f4,f5,f6,f7,f8,fa,fb,fc]
   ·simp [oput,hne,hne1,e1,e2,e3,e4,e5,e6,e7,f1,f2,f3,f4,f5,f6,f7,f8,fa,fb,fc]
   ·simp [oput,j2,j3,show ¬j=nx by omega,show ¬j=nx+1 by omega,show ¬j=nx+1+1 by omega,show ¬j=nx+1+1+1 by omega,show ¬j=nx+1+1+1+1 by omega]
  ·rw [if_neg (by rw [←items_len o,hlt];exact c1)] at hR
   have c2:0<n:=by omega
   have hset:(itemsT o (l.take n)).set 0 [.i a1.bound,.i a1.depth,.i a1.no,.i o]=itemsT o ((l.take n).set 0 a1):=by simp [itemsT,List.map_set,Ent.t]
   have hgf0:(itemsT o (l.take n))[0]? =some [.i a0.bound,.i a0.depth,.i a0.no,.i o]:=by rw [←htk,List.getElem?_take,if_pos c2,hq0]
   have hgf:∀h:0<(itemsT o (l.take n)).length,(itemsT o (l.take n))[0]'h=[.i a0.bound,.i a0.depth,.i a0.no,.i o]:=fun h=>(List.getElem?_eq_some_iff.1 hgf0).2
   simp [go_sem,hne,hne1,e1,e2,e3,e4,e5,e6,e7,f1,f2,f3,f4,f5,f6,f7,f8,fa,fb,fc]
   refine K_drawnT [6] rfl (by rw [hB];kernel_rfl) (by kernel_rfl) fun ht=>?_
   refine K_run hB 12 ?_
   simp [go_sem,ht,hhq,hqh,hlt,c2,hset,hgf,hne,hne1,e1,e2,e3,e4,e5,e6,e7,f1,f2,f3,f4,f5,f6,f7,f8,fa,fb,fc]
   refine hJ (l.length+1,(l.take n).set 0 a1,0,nx+2,_) _ ⟨hR,?_,?_,?_,?_,?_,fun j j1 j2 j3=>?_,?_,?_,?_,[.i 0,.i 0,.i 0,.i 0],?_,rfl⟩ (Imp.slots (by simp [go_sem]) rfl rfl)
   ·simp only [List.length_set,List.length_take];omega
   ·simp only [List.length_set,List.length_take];omega
   ·simp only [List.length_set,List.length_take];omega
   ·simp [oput,hne,hne1,e1,e2,e3,e4,e5,e6,e7,f1,f2,f3,f4,f5,f6,f7,f8,fa,fb,fc]
   ·simp [oput,hne,hne1,e1,e2,e3,e4,e5,e6,e7,f1,f2,f3,f4,f5,f6,f7,f8,fa,fb,fc]
   ·simp [oput,j2,j3,show ¬j=nx by omega,show ¬j=nx+1 by omega,show ¬j=nx+1+1 by omega,show ¬j=nx+1+1+1 by omega,show ¬j=nx+1+1+1+1 by omega]
   ·simp [oput,itemC,hne,hne1,e1,e2,e3,e4,e5,e6,e7,f1,f2,f3,f4,f5,f6,f7,f8,fa,fb,fc]
   ·omega
   ·omega
   ·simp [oput,hne,hne1,e1,e2,e3,e4,e5,e6,e7,f1,f2,f3,f4,f5,f6,f7,f8,fa,fb,fc]
  ·rw [if_pos (by rw [←items_len o,hlt];exact c1)] at hR
   subst hR
   simp [go_sem,hne,hne1,e1,e2,e3,e4,e5,e6,e7,f1,f2,f3,f4,f5,f6,f7,f8,fa,fb,fc]
   refine fin _ _ _ ?_ ?_ fun j j1 j2 j3=>?_
   ·simp [oput,hne,hne1,e1,e2,e3,e4,e5,e6,e7,f1,f2,f3,f4,f5,f6,f7,f8,fa,fb,fc]
   ·simp [oput,hne,hne1,e1,e2,e3,e4,e5,e6,e7,f1,f2,f3,f4,f5,f6,f7,f8,fa,fb,fc]
   ·simp [oput,j2,j3,show ¬j=nx by omega,show ¬j=nx+1 by omega,show ¬j=nx+1+1 by omega,show ¬j=nx+1+1+1 by omega,show ¬j=nx+1+1+1+1 by omega]
  ·rw [if_neg (by rw [←items_len o,hlt];exact c1)] at hR
   have c2:0<n:=by omega
   have hset:(itemsT o (l.take n)).set 0 [.i a1.bound,.i a1.depth,.i a1.no,.i o]=itemsT o ((l.take n).set 0 a1):=by simp [itemsT,List.map_set,Ent.t]
   have hgf0:(itemsT o (l.take n))[0]? =some [.i a0.bound,.i a0.depth,.i a0.no,.i o]:=by rw [←htk,List.getElem?_take,if_pos c2,hq0]
   have hgf:∀h:0<(itemsT o (l.take n)).length,(itemsT o (l.take n))[0]'h=[.i a0.bound,.i a0.depth,.i a0.no,.i o]:=fun h=>(List.getElem?_eq_some_iff.1 hgf0).2
   simp [go_sem,hne,hne1,e1,e2,e3,e4,e5,e6,e7,f1,f2,f3,f4,f5,f6,f7,f8,fa,fb,fc]
   refine K_drawnT [6] rfl (by rw [hB];kernel_rfl) (by kernel_rfl) fun ht=>?_
   refine K_run hB 12 ?_
   simp [go_sem,ht,hhq,hqh,hlt,c2,hset,hgf,hne,hne1,e1,e2,e3,e4,e5,e6,e7,f1,f2,f3,f4,f5,f6,f7,f8,fa,fb,fc]
   refine hJ (l.length+1,(l.take n).set 0 a1,0,nx+3,_) _ ⟨hR,?_,?_,?_,?_,?_,fun j j1 j2 j3=>?_,?_,?_,?_,[.i 0,.i 0,.i 0,.i 0],?_,rfl⟩ (Imp.slots (by simp [go_sem]) rfl rfl)
   ·simp only [List.length_set,List.length_take];omega
   ·simp only [List.length_set,List.length_take];omega
   ·simp only [List.length_set,List.length_take];omega
   ·simp [oput,hne,hne1,e1,e2,e3,e4,e5,e6,e7,f1,f2,f3,f4,f5,f6,f7,f8,fa,fb,fc]
   ·simp [oput,hne,hne1,e1,e2,e3,e4,e5,e6,e7,f1,f2,f3,f4,f5,f6,f7,f8,fa,fb,fc]
   ·simp [oput,j2,j3,show ¬j=nx by omega,show ¬j=nx+1 by omega,show ¬j=nx+1+1 by omega,show ¬j=nx+1+1+1 by omega,show ¬j=nx+1+1+1+1 by omega]
   ·simp [oput,itemC,hne,hne1,e1,e2,e3,e4,e5,e6,e7,f1,f2,f3,f4,f5,f6,f7,f8,fa,fb,fc]
   ·omega
   ·omega
   ·simp [oput,hne,hne1,e1,e2,e3,e4,e5,e6,e7,f1,f2,f3,f4,f5,f6,f7,f8,fa,fb,fc]
end Go.Proofs.YtnoifgjiipgpoaaGreat

set_option maxRecDepth 4000
namespace Go.Proofs.YtnoifgjiipgpoaaGreat
open Go Go.Proofs.YtnoifgjiipgpoaaGreat.R
theorem getD_at {l:List Ent} {i:Nat} (h:i<l.length):l.getD i Ent.zero=l[i]:=by
 rw [List.getD_eq_getElem?_getD,List.getElem?_eq_getElem h];rfl
theorem swapE_perm {l:List Ent} {i j:Nat} (hi:i<l.length) (hj:j<l.length):(swapE l i j).Perm l:=by
 rw [swapE,getD_at hi,getD_at hj]
 exact List.set_set_perm hi hj
theorem upGo_perm (o:Int):∀(f:Nat) (l:List Ent) (i:Nat),i<l.length→(upGo o f l i).Perm l
 |0,l,i,_=>List.Perm.refl _
 |f+1,l,i,h=>by
  rw [upGo]
  split
  ·have hv:(i-1) / 2<l.length:=by omega
   exact (upGo_perm o f _ _ (by rw [swapE_len];exact hv)).trans (swapE_perm h hv)
  ·exact List.Perm.refl _
theorem putH_perm (o:Int) (l:List Ent) (e:Ent):(putH o l e).Perm (l++[e]):=upGo_perm o _ _ _ (by simp)
theorem downGo_perm (o:Int):∀(f:Nat) (l:List Ent) (i:Nat),i<l.length→(downGo o f l i).Perm l
 |0,l,i,_=>List.Perm.refl _
 |f+1,l,i,h=>by
  rw [downGo]
  split
  ·exact List.Perm.refl _
  ·have hv:=pkN_lt (o:=o) h 2
   exact (downGo_perm o f _ _ (by rw [swapE_len];exact hv)).trans (swapE_perm h hv)
theorem restH_perm (o:Int) {l:List Ent} (hpos:0<l.length):(l.getD 0 Ent.zero :: restH o l).Perm l:=by
 rw [restH]
 try simp only
 have hd:l=l.take (l.length-1)++[l[l.length-1]'(by omega)]:=by
  have h1:=List.drop_eq_getElem_cons (l:=l) (i:=l.length-1) (by omega)
  rw [List.drop_eq_nil_of_le (by omega:l.length≤l.length-1+1)] at h1
  rw [←h1,List.take_append_drop]
 rw [getD_at hpos,getD_at (i:=l.length-1) (by omega)]
 generalize hx:l[l.length-1]'(by omega)=x at *
 generalize hm:l.take (l.length-1)=m at *
 split
 ·rename_i h0
  have hm0:m=[]:=List.eq_nil_of_length_eq_zero h0
  subst hm0
  rw [List.nil_append] at hd
  have:l[0]=x:=by simp [hd]
  rw [this,hd]
 ·rename_i h0
  have hp:=downGo_perm o (l.length+1) (m.set 0 x) 0 (by rw [List.length_set];omega)
  cases m with
  |nil=>exact absurd rfl h0
  |cons y m=>
   have:l[0]=y:=by simp [hd]
   rw [this]
   rw [List.set_cons_zero] at hp
   refine (hp.cons y).trans ?_
   conv=>rhs;rw [hd]
   rw [List.cons_append]
   refine List.Perm.cons y ?_
   exact (List.perm_append_comm (l₁:=[x]) (l₂:=m))
end Go.Proofs.YtnoifgjiipgpoaaGreat

set_option maxRecDepth 4000
namespace Go.Proofs.YtnoifgjiipgpoaaGreat
open Go Go.Proofs.YtnoifgjiipgpoaaGreat.R
theorem notless_trans (o:Int) {a b c:Ent} (h1:lessE o b a=false) (h2:lessE o c b=false):lessE o c a=false:=by
 unfold lessE at *
 split at h1
 ·rename_i h
  rw [if_pos h] at h2 ⊢
  simp only [decide_eq_false_iff_not] at *
  omega
 ·rename_i h
  rw [if_neg h] at h2 ⊢
  split at h1
  ·rename_i h'
   rw [if_pos h'] at h2 ⊢
   simp only [decide_eq_false_iff_not] at *
   omega
  ·rename_i h'
   rw [if_neg h'] at h2 ⊢
   simp only [decide_eq_false_iff_not] at *
   omega
theorem less_asym (o:Int) {a b:Ent} (h:lessE o a b=true):lessE o b a=false:=by
 unfold lessE at *
 split at h
 ·rename_i h'
  rw [if_pos h']
  simp only [decide_eq_true_eq,decide_eq_false_iff_not] at *
  omega
 ·rename_i h'
  rw [if_neg h']
  split at h
  ·rename_i h''
   rw [if_pos h'']
   simp only [decide_eq_true_eq,decide_eq_false_iff_not] at *
   omega
  ·rename_i h''
   rw [if_neg h'']
   simp only [decide_eq_true_eq,decide_eq_false_iff_not] at *
   omega
def HeapOK (o:Int) (l:List Ent):Prop:=∀i,0<i→i<l.length→lessE o (l.getD i Ent.zero) (l.getD ((i-1) / 2) Ent.zero)=false
theorem heap_first {o:Int} {l:List Ent} (h:HeapOK o l):∀i,i<l.length→lessE o (l.getD i Ent.zero) (l.getD 0 Ent.zero)=false:=by
 intro i
 induction i using Nat.strongRecOn with
 |_ i ih=>
  intro hi
  by_cases h0:i=0
  ·subst h0
   cases hl:lessE o (l.getD 0 Ent.zero) (l.getD 0 Ent.zero) with
   |false=>rfl
   |true=>
    have:=less_asym o hl
    rw [hl] at this
    exact this
  ·exact notless_trans o (ih ((i-1) / 2) (by omega) (by omega)) (h i (by omega) hi)
theorem swapE_get {l:List Ent} {i j k:Nat} (hi:i<l.length) (hj:j<l.length):(swapE l i j).getD k Ent.zero=if k=j then l.getD i Ent.zero else if k=i then l.getD j Ent.zero else l.getD k Ent.zero:=by
 simp only [swapE,List.getD_eq_getElem?_getD,List.getElem?_set,List.length_set]
 by_cases h1:k=j
 ·subst h1
  simp [hj]
 ·rw [if_neg (fun e=>h1 e.symm),if_neg h1]
  by_cases h2:k=i
  ·subst h2
   simp [hi]
  ·rw [if_neg (fun e=>h2 e.symm),if_neg h2]
structure UpI (o:Int) (l:List Ent) (i:Nat):Prop where
 lt:i<l.length
 ok:∀k,0<k→k<l.length→k≠i→lessE o (l.getD k Ent.zero) (l.getD ((k-1) / 2) Ent.zero)=false
 kid:∀k,0<k→k<l.length→(k-1) / 2=i→0<i→lessE o (l.getD k Ent.zero) (l.getD ((i-1) / 2) Ent.zero)=false
theorem upGo_ok (o:Int):∀(f:Nat) (l:List Ent) (i:Nat),UpI o l i→i<f→HeapOK o (upGo o f l i)
 |0,l,i,_,h=>absurd h (Nat.not_lt_zero _)
 |f+1,l,i,h,hf=>by
  rw [upGo]
  split
  ·rename_i hc
   have hi:=h.lt
   obtain ⟨v,hv⟩:∃v,v=(i-1) / 2:=⟨_,rfl⟩
   rw [←hv] at hc ⊢
   have hvl:v<l.length:=by omega
   have hless:=less_asym o hc.2
   refine upGo_ok o f _ _ ⟨by rw [swapE_len];exact hvl,fun k k0 kl kv=>?_,fun k k0 kl kv v0=>?_⟩ (by omega)
   ·rw [swapE_len] at kl
    rw [swapE_get hi hvl,swapE_get hi hvl,if_neg kv]
    by_cases k1:k=i
    ·subst k1
     rw [if_pos rfl,if_pos hv.symm]
     exact hless
    ·rw [if_neg k1]
     by_cases k2:(k-1) / 2=v
     ·rw [if_pos k2]
      have:=h.ok k k0 kl k1
      rw [k2] at this
      exact notless_trans o hless this
     ·rw [if_neg k2]
      by_cases k3:(k-1) / 2=i
      ·rw [if_pos k3]
       have:=h.kid k k0 kl k3 hc.1
       rw [←hv] at this
       exact this
      ·rw [if_neg k3]
       exact h.ok k k0 kl k1
   ·rw [swapE_len] at kl
    rw [swapE_get hi hvl,swapE_get hi hvl,if_neg (by omega),if_neg (show ¬(v-1) / 2=v by omega),if_neg (show ¬(v-1) / 2=i by omega)]
    have hvo:=h.ok v v0 hvl (by omega)
    by_cases k1:k=i
    ·rw [if_pos k1];exact hvo
    ·rw [if_neg k1]
     have:=h.ok k k0 kl k1
     rw [kv] at this
     exact notless_trans o hvo this
  ·rename_i hc
   intro k k0 kl
   by_cases k1:k=i
   ·subst k1
    cases hl:lessE o (l.getD k Ent.zero) (l.getD ((k-1) / 2) Ent.zero) with
    |false=>rfl
    |true=>exact absurd ⟨k0,hl⟩ hc
   ·exact h.ok k k0 kl k1
theorem putH_ok {o:Int} {l:List Ent} (h:HeapOK o l) (e:Ent):HeapOK o (putH o l e):=by
 refine upGo_ok o _ _ _ ⟨by simp,fun k k0 kl kv=>?_,fun k k0 kl kv _=>?_⟩ (by omega)
 ·rw [List.length_append] at kl
  simp only [List.length_cons,List.length_nil] at kl
  have:=h k k0 (by omega)
  simp only [List.getD_eq_getElem?_getD] at this ⊢
  rw [List.getElem?_append_left (by omega),List.getElem?_append_left (by omega)]
  exact this
 ·rw [List.length_append] at kl
  simp only [List.length_cons,List.length_nil] at kl
  omega
end Go.Proofs.YtnoifgjiipgpoaaGreat

set_option maxRecDepth 4000
namespace Go.Proofs.YtnoifgjiipgpoaaGreat
open Go Go.Proofs.YtnoifgjiipgpoaaGreat.R
theorem less_irrefl (o:Int) (a:Ent):lessE o a a=false:=by
 cases h:lessE o a a with
 |false=>rfl
 |true=>
  have:=less_asym o h
  rw [h] at this
  exact this
theorem pick1_min (o:Int) (l:List Ent) (k s:Nat):lessE o (l.getD s Ent.zero) (l.getD (pick1 o l k s) Ent.zero)=false∧(k<l.length→lessE o (l.getD k Ent.zero) (l.getD (pick1 o l k s) Ent.zero)=false):=by
 unfold pick1
 split
 ·rename_i h
  exact ⟨less_asym o h.2,fun _=>less_irrefl o _⟩
 ·rename_i h
  refine ⟨less_irrefl o _,fun hk=>?_⟩
  cases hl:lessE o (l.getD k Ent.zero) (l.getD s Ent.zero) with
  |false=>rfl
  |true=>exact absurd ⟨hk,hl⟩ h
theorem pk2_min (o:Int) (l:List Ent) (i:Nat):lessE o (l.getD i Ent.zero) (l.getD (pkN o l i 2) Ent.zero)=false∧∀k,(k-1) / 2=i→0<k→k<l.length→lessE o (l.getD k Ent.zero) (l.getD (pkN o l i 2) Ent.zero)=false:=by
 have e2:pkN o l i 2=pick1 o l (2*i+1+1) (pick1 o l (2*i+1+0) i):=rfl
 obtain ⟨a1,a2⟩:=pick1_min o l (2*i+1+0) i
 obtain ⟨b1,b2⟩:=pick1_min o l (2*i+1+1) (pick1 o l (2*i+1+0) i)
 rw [←e2] at b1 b2
 refine ⟨notless_trans o b1 a1,fun k hk k0 kl=>?_⟩
 by_cases h:k=2*i+1+1
 ·subst h;exact b2 kl
 ·have:k=2*i+1+0:=by omega
  subst this
  exact notless_trans o b1 (a2 kl)
theorem pk2_par {o:Int} {l:List Ent} {i:Nat} (h:pkN o l i 2≠i):(pkN o l i 2-1) / 2=i:=by
 have h1:=pick1_ge (o:=o) (l:=l) (k:=2*i+1+1) (s:=pkN o l i 1)
 have h2:=pick1_ge (o:=o) (l:=l) (k:=2*i+1+0) (s:=i)
 have e1:pkN o l i 2=pick1 o l (2*i+1+1) (pkN o l i 1):=rfl
 have e2:pkN o l i 1=pick1 o l (2*i+1+0) i:=rfl
 omega
structure DownI (o:Int) (l:List Ent) (i:Nat):Prop where
 lt:i<l.length
 ok:∀k,0<k→k<l.length→(k-1) / 2≠i→lessE o (l.getD k Ent.zero) (l.getD ((k-1) / 2) Ent.zero)=false
 kid:∀k,0<k→k<l.length→(k-1) / 2=i→0<i→lessE o (l.getD k Ent.zero) (l.getD ((i-1) / 2) Ent.zero)=false
theorem downGo_ok (o:Int):∀(f:Nat) (l:List Ent) (i:Nat),DownI o l i→l.length<f+i→HeapOK o (downGo o f l i)
 |0,l,i,h,hf=>absurd h.lt (by omega)
 |f+1,l,i,h,hf=>by
  rw [downGo]
  obtain ⟨m1,m2⟩:=pk2_min o l i
  have hi:=h.lt
  have hsl:=pkN_lt (o:=o) hi 2
  have hgt:=pk2_gt (o:=o) (l:=l) (i:=i)
  have hpar:=pk2_par (o:=o) (l:=l) (i:=i)
  generalize pkN o l i 2=s at *
  split
  ·rename_i hs
   subst hs
   intro k k0 kl
   by_cases k1:(k-1) / 2=s
   ·rw [k1];exact m2 k k1 k0 kl
   ·exact h.ok k k0 kl k1
  ·rename_i hs
   have hgt:=hgt hs
   have hpar:=hpar hs
   refine downGo_ok o f _ _ ⟨by rw [swapE_len];exact hsl,fun k k0 kl kv=>?_,fun k k0 kl kv _=>?_⟩ (by rw [swapE_len];omega)
   ·rw [swapE_len] at kl
    rw [swapE_get hi hsl,swapE_get hi hsl,if_neg kv]
    by_cases k1:k=s
    ·subst k1
     rw [if_pos rfl,if_pos hpar]
     exact m1
    ·rw [if_neg k1]
     by_cases k2:k=i
     ·subst k2
      rw [if_pos rfl,if_neg (by omega)]
      exact h.kid s (by omega) hsl hpar k0
     ·rw [if_neg k2]
      by_cases k3:(k-1) / 2=i
      ·rw [if_pos k3];exact m2 k k3 k0 kl
      ·rw [if_neg k3];exact h.ok k k0 kl k3
   ·rw [swapE_len] at kl
    rw [swapE_get hi hsl,swapE_get hi hsl,if_neg (by omega),if_neg (by omega),hpar,if_neg (by omega),if_pos rfl]
    have:=h.ok k k0 kl (by omega)
    rw [kv] at this
    exact this
theorem restH_ok {o:Int} {l:List Ent} (h:HeapOK o l) (hpos:0<l.length):HeapOK o (restH o l):=by
 rw [restH]
 try simp only
 have ht:∀k,k<l.length-1→(l.take (l.length-1)).getD k Ent.zero=l.getD k Ent.zero:=fun k hk=>by
  simp only [List.getD_eq_getElem?_getD,List.getElem?_take,if_pos hk]
 have hlen:(l.take (l.length-1)).length=l.length-1:=by rw [List.length_take];omega
 generalize l.getD (l.length-1) Ent.zero=x
 generalize l.take (l.length-1)=m at *
 have hs:∀k,0<k→(m.set 0 x).getD k Ent.zero=m.getD k Ent.zero:=fun k hk=>by
  simp only [List.getD_eq_getElem?_getD,List.getElem?_set_ne (show 0≠k by omega)]
 split
 ·rename_i h0
  intro k _ kl
  omega
 ·rename_i h0
  refine downGo_ok o _ _ _ ⟨by rw [List.length_set];omega,fun k k0 kl kv=>?_,fun k k0 kl kv k1=>absurd k1 (Nat.lt_irrefl 0)⟩ (by rw [List.length_set];omega)
  rw [List.length_set] at kl
  rw [hs k k0,hs _ (by omega),ht k (by omega),ht _ (by omega)]
  exact h k k0 (by omega)
end Go.Proofs.YtnoifgjiipgpoaaGreat

set_option maxRecDepth 4000
namespace Go.Proofs.YtnoifgjiipgpoaaGreat
open Go Go.Proofs.YtnoifgjiipgpoaaGreat.R
theorem less_total (o:Int) {a b:Ent} (h1:lessE o a b=false) (h2:lessE o b a=false):a=b:=by
 have key:a.bound=b.bound∧a.depth=b.depth∧a.no=b.no:=by
  unfold lessE at *
  split at h1
  ·rename_i h
   rw [if_pos h] at h2
   simp only [decide_eq_false_iff_not] at *
   omega
  ·rename_i h
   rw [if_neg h] at h2
   split at h1
   ·rename_i h'
    rw [if_pos h'] at h2
    simp only [decide_eq_false_iff_not] at *
    omega
   ·rename_i h'
    rw [if_neg h'] at h2
    simp only [decide_eq_false_iff_not] at *
    omega
 obtain ⟨a1,a2,a3⟩:=a
 obtain ⟨b1,b2,b3⟩:=b
 simp only at key
 obtain ⟨rfl,rfl,rfl⟩:=key
 rfl
theorem minI_least (o:Int) (q:List Ent):∀(l:List Nat) (k r:Nat),l.foldl (fun k i=>if lessE o (q.getD i Ent.zero) (q.getD k Ent.zero)=true then i else k) k=r→lessE o (q.getD k Ent.zero) (q.getD r Ent.zero)=false∧∀i∈l,lessE o (q.getD i Ent.zero) (q.getD r Ent.zero)=false
 |[],k,r,h=>by
  rw [List.foldl_nil] at h
  subst h
  exact ⟨less_irrefl o _,fun i hi=>by cases hi⟩
 |i :: l,k,r,h=>by
  rw [List.foldl_cons] at h
  obtain ⟨h1,h2⟩:=minI_least o q l _ r h
  by_cases hl:lessE o (q.getD i Ent.zero) (q.getD k Ent.zero)=true
  ·rw [if_pos hl] at h1
   refine ⟨notless_trans o h1 (less_asym o hl),fun j hj=>?_⟩
   rcases List.mem_cons.1 hj with rfl | hj
   ·exact h1
   ·exact h2 j hj
  ·rw [if_neg hl] at h1
   have hl':lessE o (q.getD i Ent.zero) (q.getD k Ent.zero)=false:=by simpa using hl
   refine ⟨h1,fun j hj=>?_⟩
   rcases List.mem_cons.1 hj with rfl | hj
   ·exact notless_trans o h1 hl'
   ·exact h2 j hj
theorem take_heap {o:Int} {l q:List Ent} (hp:l.Perm q) (hok:HeapOK o l) (hpos:0<l.length):∃q',takeQ o q=some (l.getD 0 Ent.zero,q')∧(restH o l).Perm q':=by
 have hlen:=hp.length_eq
 have hq:q≠[]:=fun e=>by
  rw [e,List.length_nil] at hlen
  omega
 have hk:=minI_lt o hq
 have hmin:=fun i hi=>(minI_least o q (List.range q.length) 0 (minI o q) rfl).2 i (List.mem_range.2 hi)
 have hd:q=q.take (minI o q)++q[minI o q] :: q.drop (minI o q+1):=by rw [←List.drop_eq_getElem_cons hk,List.take_append_drop]
 have hmem:l.getD 0 Ent.zero∈q:=by
  rw [getD_at hpos]
  exact hp.subset (List.getElem_mem _)
 have hmem2:q.getD (minI o q) Ent.zero∈l:=by
  rw [getD_at hk]
  exact hp.symm.subset (List.getElem_mem _)
 have he:q.getD (minI o q) Ent.zero=l.getD 0 Ent.zero:=by
  obtain ⟨i,hi,e1⟩:=List.getElem_of_mem hmem
  obtain ⟨j,hj,e2⟩:=List.getElem_of_mem hmem2
  have h1:=hmin i hi
  have h2:=heap_first hok j hj
  rw [getD_at hi,e1] at h1
  rw [getD_at hj,e2] at h2
  exact less_total o h2 h1
 refine ⟨q.take (minI o q)++q.drop (minI o q+1),by rw [takeQ,if_neg hq,he],?_⟩
 have h3:=(restH_perm o hpos).trans hp
 have h4:(l.getD 0 Ent.zero :: (q.take (minI o q)++q.drop (minI o q+1))).Perm q:=by
  rw [←he,getD_at hk]
  refine List.perm_middle.symm.trans ?_
  rw [←hd]
 exact (h3.trans h4.symm).cons_inv
theorem least_fold_in:∀(l:List Ent) (n:Int),l.foldl (fun n f=>min n f.bound) n=n∨∃f∈l,l.foldl (fun n f=>min n f.bound) n=f.bound
 |[],n=>.inl rfl
 |e :: l,n=>by
  rw [List.foldl_cons]
  rcases least_fold_in l (min n e.bound) with h | ⟨f,hf,h⟩
  ·rw [h]
   by_cases c:n≤e.bound
   ·exact .inl (by omega)
   ·exact .inr ⟨e,List.mem_cons_self,by omega⟩
  ·exact .inr ⟨f,List.mem_cons_of_mem _ hf,h⟩
theorem least_in {q:List Ent} (h:q≠[]):∃f∈q,leastQ q=f.bound:=by
 cases q with
 |nil=>exact absurd rfl h
 |cons e l=>
  rcases least_fold_in l e.bound with h1 | ⟨f,hf,h1⟩
  ·exact ⟨e,List.mem_cons_self,h1⟩
  ·exact ⟨f,List.mem_cons_of_mem _ hf,h1⟩
theorem least_perm {l q:List Ent} (h:l.Perm q):leastQ l=leastQ q:=by
 by_cases hl:l=[]
 ·subst hl
  rw [h.symm.eq_nil]
 ·have hq:q≠[]:=fun e=>hl (by rw [e] at h;exact h.eq_nil)
  obtain ⟨f,hf,e1⟩:=least_in hl
  obtain ⟨g,hg,e2⟩:=least_in hq
  have h1:=least_le (h.subset hf)
  have h2:=least_le (h.symm.subset hg)
  omega
end Go.Proofs.YtnoifgjiipgpoaaGreat

set_option maxRecDepth 4000
set_option maxHeartbeats 1000000
namespace Go.Proofs.YtnoifgjiipgpoaaGreat
open Go Go.Proofs.YtnoifgjiipgpoaaGreat.R
theorem len_spec (o:Int) (l:List Ent) {σ:Nat→AObj} {nx h q:Nat} (hh:h<nx) (hσ:σ h= .box [.ref q,.i o]) (hq:q<nx) (hσq:σ q= .arr 4 (itemsT o l)):
  CallSpec P 42 [.ptr h 0] σ nx (.i l.length) σ nx:=by
 refine spec_keep Tryz.func42 rfl rfl (by simp [Tryz.f42]) (by simp [bnd]) fun hk B hB hnx hσB=>?_
 simp only [Tryz.f42] at hB ⊢
 have hil:=items_len o l
 refine K_run hB 100 ?_
 simp [go_sem,hσ,hσq,hil]
theorem hput_spec (o:Int) (l:List Ent) (e:Ent) (hl:l.length<2^30) {σ:Nat→AObj} {nx h q:Nat} (hh:h<nx) (hσ:σ h= .box [.ref q,.i o]) (hq:q<nx) (hσq:σ q= .arr 4 (itemsT o l)):
  CallQ P 40 [.ptr h 0,e.a] σ nx fun r σ' nx'=>r= .tup []∧nx≤nx'∧∃q',nx≤q'∧q'<nx'∧σ' h= .box [.ref q',.i o]∧σ' q'= .arr 4 (itemsT o (putH o l e))∧∀i,i<nx→i≠h→i≠q→σ' i=σ i:=by
 refine spec_of Tryz.func40 rfl rfl (by simp [Tryz.f40]) fun B hB hnx hσB=>?_
 simp only [Tryz.f40] at hB ⊢
 have hne:¬h=nx:=by omega
 have hne2:¬q=nx:=by omega
 have hp:=fun (τ:Nat→AObj) (h1:τ h= .box [.ref q,.i o]) (h2:τ q= .arr 4 (itemsT o l))=>put_spec o l e hl (σ:=τ) (nx:=nx+1) (h:=h) (q:=q) (by omega) h1 (by omega) h2
 refine K_run hB 100 ?_
 simp [go_sem,Ent.a,Ent.cs]
 refine K_drawnZ [] 9 _ rfl (by rw [hB];kernel_rfl) (by kernel_rfl) rfl ?_
 refine K_run hB 100 ?_
 simp [go_sem,hσ,hne]
 refine K_call rfl rfl rfl (args:=[.ptr h 0,.agg ((e.t o).map .t)]) (f:=71) (by simp [go_sem,Ent.t]) (by simp [go_sem,hB]) (hp _ (by simp [oput,hne,hσ]) (by simp [oput,hne2,hσq])) ?_
 refine K_run hB 100 ?_
 simp [go_sem]
 have e1:¬nx+1+1=h:=by omega
 have e2:¬h=nx+1+1:=by omega
 refine ⟨by omega,nx+1+1,by omega,by omega,by rw [putS,if_pos rfl],by rw [putS,if_neg e1,if_pos rfl],fun i h1 h2 h3=>?_⟩
 rw [putS,if_neg h2,if_neg (by omega),if_pos ⟨by omega,h3⟩,oput,if_neg (by omega)]
theorem htake_nil (o:Int) {σ:Nat→AObj} {nx h q:Nat} (hh:h<nx) (hσ:σ h= .box [.ref q,.i o]) (hq:q<nx) (hσq:σ q= .arr 4 []):
  CallSpec P 21 [.ptr h 0] σ nx (.tup [Ent.zero.a,.b false]) σ nx:=by
 refine spec_keep Tryz.func21 rfl rfl (by simp [Tryz.f21]) (by simp [bnd,bnd.bndL,Ent.a,Ent.cs]) fun hk B hB hnx hσB=>?_
 simp only [Tryz.f21] at hB ⊢
 have hne:¬h=nx:=by omega
 have hne2:¬q=nx:=by omega
 have hp:=fun (τ:Nat→AObj) (h1:τ h= .box [.ref q,.i o]) (h2:τ q= .arr 4 [])=>take_nil_spec o (σ:=τ) (nx:=nx+1) (h:=h) (q:=q) (by omega) h1 (by omega) h2
 refine K_run hB 100 ?_
 simp [go_sem]
 refine K_call rfl rfl rfl (args:=[.ptr h 0]) (f:=41) (by simp [go_sem]) (by simp [go_sem,hB]) (hp _ (by simp [oput,hne,hσ]) (by simp [oput,hne2,hσq])) ?_
 refine K_run hB 100 ?_
 simp [go_sem,Ent.a,Ent.cs,Ent.zero]
 exact ⟨by omega,fun i hi=>by simp [oput,show ¬i=nx by omega,show ¬i=nx+1 by omega]⟩
theorem htake_spec (o:Int) (l:List Ent) (hl:l.length<2^30) (hpos:0<l.length) {σ:Nat→AObj} {nx h q:Nat} (hh:h<nx) (hσ:σ h= .box [.ref q,.i o]) (hq:q<nx) (hσq:σ q= .arr 4 (itemsT o l)):
  CallQ P 21 [.ptr h 0] σ nx fun r σ' nx'=>r= .tup [(l.getD 0 Ent.zero).a,.b true]∧nx≤nx'∧∃q',nx≤q'∧q'<nx'∧σ' h= .box [.ref q',.i o]∧σ' q'= .arr 4 (itemsT o (restH o l))∧∀i,i<nx→i≠h→i≠q→σ' i=σ i:=by
 refine spec_of Tryz.func21 rfl rfl (by simp [Tryz.f21]) fun B hB hnx hσB=>?_
 simp only [Tryz.f21] at hB ⊢
 have hne:¬h=nx:=by omega
 have hne2:¬q=nx:=by omega
 have e1:¬nx+1+4=h:=by omega
 have e2:¬h=nx+1+4:=by omega
 have e3:¬nx=h:=by omega
 have e4:¬nx=q:=by omega
 have hp:=fun (τ:Nat→AObj) (h1:τ h= .box [.ref q,.i o]) (h2:τ q= .arr 4 (itemsT o l))=>take_spec o l hl hpos (σ:=τ) (nx:=nx+1) (h:=h) (q:=q) (by omega) h1 (by omega) h2
 generalize restH o l=R at *
 generalize l.getD 0 Ent.zero=e at *
 refine K_run hB 100 ?_
 simp [go_sem]
 refine K_call rfl rfl rfl (args:=[.ptr h 0]) (f:=41) (by simp [go_sem]) (by simp [go_sem,hB]) (hp _ (by simp [oput,hne,hσ]) (by simp [oput,hne2,hσq])) ?_
 have e5:takeS (oput σ nx (.box [.i 0,.i 0,.i 0])) (nx+1) h q o R nx= .box [.i 0,.i 0,.i 0]:=by
  rw [takeS,if_neg e3,if_neg (by omega),if_pos ⟨by omega,e4⟩,oput,if_pos rfl]
 have hst:∀i,takeS (oput σ nx (.box [.i 0,.i 0,.i 0])) (nx+1) h q o R i=if i=h then .box [.ref (nx+1+4),.i o] else if i=nx+1+4 then .arr 4 (itemsT o R) else if i<nx+1∧i≠q then oput σ nx (.box [.i 0,.i 0,.i 0]) i else .dead:=fun i=>rfl
 generalize takeS (oput σ nx (.box [.i 0,.i 0,.i 0])) (nx+1) h q o R=τ at *
 have e6:¬nx=nx+1+5:=by omega
 refine K_run hB 100 ?_
 simp [go_sem,Ent.a,Ent.cs,itemC,e5,e6]
 refine ⟨by omega,nx+1+4,by omega,by omega,?_,?_,fun i h1 h2 h3=>?_⟩
 ·simp [oput,show ¬h=nx by omega,show ¬h=nx+1+5 by omega,hst h]
 ·simp [oput,show ¬nx+1+4=nx by omega,hst (nx+1+4),e1]
 ·simp [oput,show ¬i=nx by omega,show ¬i=nx+1+5 by omega,hst i,h2,h3,show ¬i=nx+1+4 by omega,show i<nx+1 by omega]
theorem hleast_spec (o:Int) (l:List Ent) (hl:l.length<2^30) {σ:Nat→AObj} {nx h q:Nat} (hh:h<nx) (hσ:σ h= .box [.ref q,.i o]) (hq:q<nx) (hσq:σ q= .arr 4 (itemsT o l)):
  CallSpec P 23 [.ptr h 0] σ nx (.i (leastQ l)) σ nx:=by
 generalize hR:leastQ l=R
 refine spec_keep Tryz.func23 rfl rfl (by simp [Tryz.f23]) (by simp [bnd]) fun hk B hB hnx hσB=>?_
 simp only [Tryz.f23] at hB ⊢
 have hil:=items_len o l
 have hlen:=len_spec o l hh hσ hq hσq
 refine K_run hB 100 ?_
 simp [go_sem]
 refine K_call rfl rfl rfl (args:=[.ptr h 0]) (f:=42) (by simp [go_sem]) (by simp [go_sem,hB]) hlen ?_
 by_cases c0:l.length=0
 ·have:l=[]:=List.eq_nil_of_length_eq_zero c0
  subst this
  have:R=1152921504606846976:=hR.symm
  refine K_run hB 100 ?_
  simp [go_sem,this]
 ·have hpos:0<l.length:=by omega
  have hg0:=fun h=>items_get o l (k:=0) hpos h
  have hR0:l.foldl (fun n f=>min n f.bound) (l.getD 0 Ent.zero).bound=R:=by
   cases l with
   |nil=>simp at hpos
   |cons e l=>rw [←hR];simp [leastQ]
  have w1:∀k:Nat,k<l.length→IntKind.i64.wrap ((k:Int)+1)=((k+1:Nat):Int):=fun k hk=>by rw [w64 _ (by omega)];omega
  generalize l.getD 0 Ent.zero=e0 at *
  refine K_run hB 100 ?_
  simp [go_sem,c0,hσ,hσq,hil,hpos,hg0,Ent.t]
  refine K_loopP (α:=Nat×Int×(Nat→AObj)×Nat) (fun (k,n,τ,m)=>k≤l.length∧(l.drop k).foldl (fun n f=>min n f.bound) n=R∧nx≤m∧∀i,i<nx→τ i=σ i) (fun (k,n,τ,m)=>⟨sl [(3,.i n),(22,.ref q),(23,.i l.length),(24,.i k)],τ,m⟩) (fun a=>l.length-a.1) (0,e0.bound,_,_) ⟨Nat.zero_le _,hR0,Nat.le_refl _,fun i _=>rfl⟩ (Imp.slots (by simp [go_sem]) rfl rfl) ?_
  rintro ⟨k,n,τ,m⟩ ⟨g1,g2,g3,g4⟩
  have hτ:=g4 q hq
  rw [hσq] at hτ
  have hqm:¬q=m:=by omega
  refine K_run hB 60 ?_
  simp [go_sem]
  refine fork_dec (fun hk=>?_) (fun hk=>?_)
  ·have hgk:=fun h=>items_get o l (k:=k) hk h
   rw [List.drop_eq_getElem_cons hk,List.foldl_cons] at g2
   have hgd:l.getD k Ent.zero=l[k]:=getD_at hk
   rw [hgd] at hgk
   have w1:=w1 k hk
   generalize l[k]=e at *
   simp [go_sem,hτ,hil,hk,hgk,Ent.t,w1]
   exact Next.mk (k+1,min n e.bound,_,_) ⟨by omega,g2,by simp only;omega,fun i hi=>by simp [oput,show ¬i=m by omega,g4 i hi]⟩ (Imp.slots (by simp [go_sem]) rfl rfl) (by simp only;omega)
  ·have:k=l.length:=by omega
   subst this
   rw [List.drop_length,List.foldl_nil] at g2
   subst g2
   simp [go_sem]
   exact ⟨by omega,g4⟩
end Go.Proofs.YtnoifgjiipgpoaaGreat

set_option maxRecDepth 4000
namespace Go.Proofs.YtnoifgjiipgpoaaGreat
open Go Go.Proofs.YtnoifgjiipgpoaaGreat.R
def Opt.cs (o:Opt):List AV:=[.i o.width,.i o.order,.i o.budget]
def Opt.a (o:Opt):AV:=.agg o.cs
def Opt.mayB (o:Opt):Bool:=decide ((1≤o.width∧o.width≤1048576)∧(0≤o.order∧o.order≤2)∧(0≤o.budget∧o.budget≤549755813888))
def Opt.near (o:Opt):Opt:=⟨min (max o.width 1) 1048576,min (max o.order 0) 2,min (max o.budget 0) 549755813888⟩
theorem near_self (o:Opt):decide (o.width=o.near.width∧o.order=o.near.order∧o.budget=o.near.budget)=o.mayB:=by
 refine decide_eq_decide.2 ?_
 simp only [Opt.near]
 omega
theorem bounded_pure (o:Opt):Pure P 29 [o.a] (o.near.a):=by
 refine pure_of Tryz.func29 rfl rfl (by simp [Tryz.f29]) (by simp [bnd,bnd.bndL,Opt.a,Opt.cs]) (by simp [bnd,bnd.bndL,Opt.a,Opt.cs]) fun B hB hnx=>?_
 simp only [Tryz.f29] at hB ⊢
 refine K_run hB 100 ?_
 simp [go_sem,Opt.a,Opt.cs]
 exact ⟨rfl,rfl,rfl⟩
theorem opt_guard:P.eqGuardType P.depth 26=false:=by kernel_rfl
theorem opt_stood:P.stoodInHeld 26=false:=by kernel_rfl
theorem opt_eq (a b:Opt):eqA P 10000 26 a.a b.a=some (decide (a.width=b.width∧a.order=b.order∧a.budget=b.budget)):=by
 simp [go_sem,Opt.a,Opt.cs,opt_stood]
theorem omay_pure (o:Opt):Pure P 14 [o.a] (.b o.mayB):=by
 refine pure_of Tryz.func14 rfl rfl (by simp [Tryz.f14]) (by simp [bnd,bnd.bndL,Opt.a,Opt.cs]) (by simp [bnd,bnd.bndL]) fun B hB hnx=>?_
 simp only [Tryz.f14] at hB ⊢
 have h:=bounded_pure o
 have hn:=near_self o
 generalize o.near=p at *
 refine K_run hB 100 ?_
 simp [go_sem,Opt.a,Opt.cs]
 refine K_drawn [] rfl (by rw [hB];kernel_rfl) ?_
 refine K_run hB 100 ?_
 simp [go_sem]
 refine K_dCallP rfl rfl rfl (args:=[o.a]) (f:=29) (by simp [go_sem,Opt.a,Opt.cs]) (h) ?_
 refine K_dEq (op:=.eql) (t:=26) (t':=26) (x:=.tmp 3) (y:=.tmp 5) (xs:=o.cs) (ys:=p.cs) (by simp [go_sem]) rfl (by simp [go_sem,Opt.cs]) (by simp [go_sem,Opt.a,Opt.cs]) opt_guard (opt_eq o p) rfl ?_
 rw [hn]
 refine K_run hB 100 ?_
 simp [go_sem]
end Go.Proofs.YtnoifgjiipgpoaaGreat

set_option maxRecDepth 4000
namespace Go.Proofs.YtnoifgjiipgpoaaGreat
open Go Go.Proofs.YtnoifgjiipgpoaaGreat.R
theorem moves_stops (x:Inst) (s:State):(x.moves s).length≤x.stops.length:=by
 rw [moves_can];exact canB_len _ _
theorem next_one (x:Inst) (n:Node) (up:Int):(x.next [n] up).length≤x.stops.length:=by
 have h1:=onceL_len ([n].flatMap (x.kids up))
 have h2:([n].flatMap (x.kids up)).length≤(x.moves n.s).length:=by
  rw [List.flatMap_cons,List.flatMap_nil,List.append_nil,Inst.kids]
  refine Nat.le_trans (List.length_filter_le _ _) ?_
  rw [List.length_map]
  exact Nat.le_refl _
 have h3:=moves_stops x n.s
 rw [Inst.next]
 omega
theorem buildGo_two {x:Inst} (w up dp:Int):∀(f:Nat) (ls:List (List Node)) (low:Int) (sq:Option Nat) (l:List Node),1≤ls.length→(∀k,sq=some k→2≤k)→(x.buildGo w up dp f ls low sq l).exact=true∨2≤(x.buildGo w up dp f ls low sq l).sure
 |0,ls,low,sq,l,_,h=>by
  cases sq with
  |none=>exact .inl rfl
  |some k=>exact .inr (h k rfl)
 |f+1,ls,low,sq,l,hl,h=>by
  have hlen:(ls++[l]).length=ls.length+1:=by simp
  rw [Inst.buildGo]
  split
  ·cases sq with
   |none=>exact .inl rfl
   |some k=>exact .inr (h k rfl)
  split
  ·cases sq with
   |none=>exact .inl rfl
   |some k=>exact .inr (h k rfl)
  split
  ·refine buildGo_two w up dp f _ _ _ _ (by omega) fun k hk=>?_
   cases sq with
   |none=>simp only [Option.getD_none,Option.some.injEq] at hk;omega
   |some i=>have:=h i rfl;simp only [Option.getD_some,Option.some.injEq] at hk;omega
  ·exact buildGo_two w up dp f _ _ _ _ (by omega) h
theorem build_two (x:Inst) (n:Node) (w up:Int) (he:(x.build n w up).exact=false):2≤(x.build n w up).sure:=by
 have key:(x.build n w up).exact=true∨2≤(x.build n w up).sure:=by
  rw [Inst.build,Inst.buildGo,if_neg (by simp)]
  split
  ·exact .inl rfl
  have h1:=next_one x n up
  rw [if_neg (by unfold Inst.mostN;omega)]
  exact buildGo_two w up _ _ _ _ _ _ (by simp) fun k hk=>by cases hk
 rcases key with h | h
 ·rw [he] at h;cases h
 ·exact h
theorem getD_of {α:Type} {l:List α} {i:Nat} {a d:α} (h:l[i]? =some a):l.getD i d=a:=by
 rw [List.getD_eq_getElem?_getD,h];rfl
theorem push_nos {x:Inst} {low:Int} {s:SS} {n:Node} (hn:∀e∈s.q,∃m,s.subs[e.no]? =some m):∀e∈(x.push low s n).q,∃m,(x.push low s n).subs[e.no]? =some m:=by
 rcases push_or x low s n with ⟨e,_⟩ | ⟨_,e⟩
 ·rw [e];exact hn
 rw [e]
 intro f hf
 rcases List.mem_append.1 hf with hf | hf
 ·obtain ⟨m,hm⟩:=hn f hf
  exact ⟨m,get_old hm⟩
 ·rw [List.mem_singleton.1 hf]
  exact ⟨n,by simp⟩
theorem goes_good {x:Inst} {p:Nat} (hx:x.Fit p):∀{v:List Int} {s:State} {c:Int} {t:State} {d:Int},Good x p s→x.goes v s c=some (t,d)→Good x p t
 |[],s,c,t,d,hg,h=>by
  rw [Inst.goes] at h
  cases h
  exact hg
 |j :: v,s,c,t,d,hg,h=>by
  rw [Inst.goes] at h
  split at h
  ·rename_i hm
   exact goes_good hx (good_step hx hg hm).1 h
  ·cases h
theorem Track.good {x:Inst} {p:Nat} (hx:x.Fit p) (hm:x.may=true) {n:Node} (h:Track x n):Good x p n.s:=goes_good hx (good_root hx hm) h.goes
theorem Track.len13 {x:Inst} {p:Nat} (hx:x.Fit p) (hm:x.may=true) (hp:p≤3) {n:Node} (h:Track x n):n.path.length≤13:=by
 have:=h.len
 have:=meas_root hx hm
 omega
theorem pot_lay {x:Inst} {p:Nat} (hx:x.Fit p) (hm:x.may=true) (hp:p≤3) {n:Node} (h:Track x n) (up:Int) (D:Nat):∀k,k≤D→potL p (D-k) (x.layN up n k)≤potS p D n.s
 |0,_=>by simp only [Inst.layN,potL];exact Nat.le_refl _
 |k+1,hk=>by
  have h1:=pot_lay hx hm hp h up D k (by omega)
  have h2:=potL_once p (D-(k+1)) ((x.layN up n k).flatMap (x.kids up)) []
  have h3:=pot_flat hx hp (D-(k+1)) up (x.layN up n k) fun m hmm=>(layN_track h up k m hmm).1.good hx hm
  rw [show D-(k+1)+1=D-k by omega] at h3
  simp only [potL] at h2
  rw [Inst.layN,Inst.next,onceL]
  omega
def wt (p:Nat) (n:Node):Nat:=potS p (13-n.path.length) n.s*(14-n.path.length)
def SS.mass (p:Nat) (s:SS):Nat:=(s.q.map fun e=>wt p (s.subs.getD e.no Node.zero)).sum
theorem wts_lay (p K:Nat):∀(l:List Node),(∀n∈l,n.path.length=K)→(l.map (wt p)).sum=potL p (13-K) l*(14-K)
 |[],_=>by simp [potL]
 |n :: l,h=>by
  rw [List.map_cons,List.sum_cons,wts_lay p K l fun m hm=>h m (List.mem_cons_of_mem _ hm),potL,wt,h n List.mem_cons_self,Nat.add_mul]
structure Grows (p:Nat) (s t:SS) (l:List Node):Prop where
 subs:t.subs.length≤s.subs.length+l.length
 mass:t.mass p≤s.mass p+(l.map (wt p)).sum
 nos:∀e∈t.q,∃m,t.subs[e.no]? =some m
theorem grows_push {x:Inst} (p:Nat) (low:Int) {s:SS} (n:Node) (hn:∀e∈s.q,∃m,s.subs[e.no]? =some m):Grows p s (x.push low s n) [n]:=by
 refine ⟨?_,?_,push_nos hn⟩
 ·rcases push_or x low s n with ⟨e,_⟩ | ⟨_,e⟩<;>rw [e]<;>simp
 rcases push_or x low s n with ⟨e,_⟩ | ⟨_,e⟩
 ·rw [e];omega
 rw [e,SS.mass,SS.mass]
 simp only
 rw [List.map_append,List.sum_append]
 have h1:(s.q.map fun e=>wt p ((s.subs++[n]).getD e.no Node.zero))=s.q.map fun e=>wt p (s.subs.getD e.no Node.zero):=by
  refine List.map_congr_left fun e he=>?_
  obtain ⟨m,hm⟩:=hn e he
  rw [getD_of hm,getD_of (get_old hm)]
 have h2:(s.subs++[n])[s.subs.length]? =some n:=by simp
 rw [h1,List.map_cons,List.map_nil,List.sum_cons,List.sum_nil,getD_of h2,List.map_cons,List.map_nil,List.sum_cons,List.sum_nil]
 omega
theorem grows_pushes {x:Inst} (p:Nat) (low:Int):∀(l:List Node) (s:SS),(∀e∈s.q,∃m,s.subs[e.no]? =some m)→Grows p s (l.foldl (x.push low) s) l
 |[],s,hn=>⟨by simp,by simp,hn⟩
 |n :: l,s,hn=>by
  obtain ⟨h1,h2,h3⟩:=grows_push (x:=x) p low n hn
  obtain ⟨k1,k2,k3⟩:=grows_pushes (x:=x) p low l (x.push low s n) h3
  refine ⟨?_,?_,k3⟩
  ·simp only [List.length_cons,List.length_nil,List.foldl_cons] at *;omega
  ·simp only [List.map_cons,List.map_nil,List.sum_cons,List.sum_nil,List.foldl_cons] at *;omega
theorem mass_like {p:Nat} {s t:SS} (h1:t.subs=s.subs) (h2:t.q=s.q):t.mass p=s.mass p:=by rw [SS.mass,SS.mass,h1,h2]
theorem wt_pos {x:Inst} {p:Nat} (hx:x.Fit p) (hm:x.may=true) (hp:p≤3) {n:Node} (h:Track x n):1≤wt p n:=by
 have h1:=h.len13 hx hm hp
 have h2:=pot_pos p (13-n.path.length) (keyM n.s) n.s.yard
 rw [wt]
 exact Nat.mul_pos h2 (by omega)
theorem exGo_cnt (x:Inst) (most:Int) (h0:0≤most) (hm:most≤3000):∀(d:Nat) (st:Node×Bool×Int) (l:List Node) (n:Int),0≤n→n+3000*d<9223372036854775808→
  n≤(x.exGo most d st l n).2.2.2∧(x.exGo most d st l n).2.2.2≤n+3000*d
 |0,st,l,n,_,_=>by rw [Inst.exGo];exact ⟨Int.le_refl _,by simp⟩
 |d+1,st,l,n,h1,hn=>by
  rw [Inst.exGo]
  split
  ·exact ⟨Int.le_refl _,by simp only;omega⟩
  split
  ·exact ⟨Int.le_refl _,by simp only;omega⟩
  rename_i c1 c2
  have hw:=w64 (n+l.length) (by omega)
  have:=exGo_cnt x most h0 hm d (x.look st l) (frontL (x.next l st.2.2)) (IntKind.i64.wrap (n+l.length)) (by omega) (by omega)
  omega
theorem sizes_le (K:Nat):∀(ls:List (List Node)),(∀l∈ls,l.length≤K)→sizes ls≤K*ls.length
 |[],_=>by simp [sizes]
 |l :: ls,h=>by
  have h1:=sizes_le K ls fun m hm=>h m (List.mem_cons_of_mem _ hm)
  have h2:=h l List.mem_cons_self
  rw [sizes] at h1 ⊢
  rw [List.map_cons,List.sum_cons,List.length_cons,Nat.mul_add]
  omega
theorem build_head (x:Inst) (n:Node) (w up:Int):∃ls,(x.build n w up).layers=[n] :: ls:=by
 obtain ⟨h,e⟩:=sure_get (build_ok x n w up) (i:=0) (by have:=(build_ok x n w up).pos;omega)
 cases hl:(x.build n w up).layers with
 |nil=>rw [hl] at h;simp at h
 |cons a ls=>
  refine ⟨ls,?_⟩
  have:(x.build n w up).layers[0]=[n]:=e
  simp only [hl,List.getElem_cons_zero] at this
  rw [this]
structure Cost (x:Inst) (p:Nat) (n:Node) (s t:SS):Prop where
 subs:t.subs.length+t.mass p≤s.subs.length+s.mass p+wt p n
 mass:t.mass p+1≤s.mass p+wt p n
 log:t.log.length=s.log.length+1
 least:s.steps+2≤t.steps
 most:t.steps≤s.steps+400000
theorem look_cost {x:Inst} {p:Nat} (hx:x.Fit p) (hm:x.may=true) (hp:p≤3) {n:Node} (ht:Track x n) {w:Int} (hw:w≤40) {s:SS} (hs:∀e∈s.q,∃m,s.subs[e.no]? =some m):Cost x p n s (x.lookS w s n):=by
 have hwp:=wt_pos hx hm hp ht
 obtain ⟨n1,n2⟩:=narrow_steps x n w s.up (by omega)
 have hml:=meas_le x n.s
 have hml0:=meas_le x x.rootS
 have hmu:widthN w*x.meas n.s≤3000*40:=Nat.mul_le_mul (by unfold widthN;split<;>omega) hml
 have hmst:x.mostN w≤40:=by
  have:=hx.len
  unfold Inst.mostN
  omega
 have h1:1≤x.mostN w:=by
  have:=hx.len
  unfold Inst.mostN
  omega
 rw [Inst.lookS]
 have hn1:=offer_up (s.plus (x.narrow n w s.up).2.2) ((x.narrow n w s.up).1,(x.narrow n w s.up).2.1)
 have q1:(s.nar x w n).subs=s.subs:=hn1.2.1
 have q2:(s.nar x w n).q=s.q:=hn1.2.2.1
 have q3:(s.nar x w n).log=s.log:=hn1.2.2.2.1
 have q4:(s.nar x w n).steps=s.steps+(x.narrow n w s.up).2.2:=hn1.2.2.2.2
 generalize s.nar x w n=t at *
 have hsz:1≤sizes (x.build n w t.up).layers∧sizes (x.build n w t.up).layers≤40*41:=by
  obtain ⟨ls,hls⟩:=build_head x n w t.up
  have hlay:=build_lay n w t.up h1
  have hc:=build_count x n w t.up
  have hd:=(deep_meas hm).2
  rw [hls] at hlay hc ⊢
  rw [List.length_cons] at hc
  have h3:=sizes_le 40 ls fun l hl=>by have:=(hlay l hl).2;omega
  have h4:sizes ([n] :: ls)=1+sizes ls:=by simp [sizes]
  rw [h4]
  have:40*ls.length≤40*40:=Nat.mul_le_mul_left _ (by omega)
  omega
 have hdt:∀d,(t.dia n d).subs=s.subs∧(t.dia n d).q=s.q∧(t.dia n d).log.length=s.log.length+1∧(t.dia n d).steps=t.steps+sizes d.layers:=fun d=>⟨q1,q2,by show (t.log++_).length=_;rw [q3,List.length_append];rfl,rfl⟩
 have e0:=hdt (x.build n w t.up)
 rw [Inst.lookD]
 split
 ·exact ⟨by rw [mass_like e0.1 e0.2.1,e0.1];omega,by rw [mass_like e0.1 e0.2.1];omega,e0.2.2.1,by rw [e0.2.2.2];omega,by rw [e0.2.2.2];omega⟩
 split
 ·have h3:=offer_up ((t.dia n (x.build n w t.up)).plus (x.exact n (t.dia n (x.build n w t.up)).up (x.mostN w)).2.2.2) ((x.exact n (t.dia n (x.build n w t.up)).up (x.mostN w)).1,(x.exact n (t.dia n (x.build n w t.up)).up (x.mostN w)).2.1)
  have hcnt:0≤(x.exact n (t.dia n (x.build n w t.up)).up (x.mostN w)).2.2.2∧(x.exact n (t.dia n (x.build n w t.up)).up (x.mostN w)).2.2.2≤0+3000*((x.meas n.s+1:Nat):Int):=exGo_cnt x _ (by omega) (by omega) _ _ _ _ (Int.le_refl _) (by omega)
  have f1:=h3.2.1.trans e0.1
  have f2:=h3.2.2.1.trans e0.2.1
  have f3:((t.dia n (x.build n w t.up)).exa x w n).log=(t.dia n (x.build n w t.up)).log:=h3.2.2.2.1
  have f4:((t.dia n (x.build n w t.up)).exa x w n).steps=(t.dia n (x.build n w t.up)).steps+(x.exact n (t.dia n (x.build n w t.up)).up (x.mostN w)).2.2.2:=h3.2.2.2.2
  refine ⟨by rw [SS.exa,mass_like f1 f2,f1];omega,by rw [SS.exa,mass_like f1 f2];omega,by rw [f3];exact e0.2.2.1,by rw [f4,e0.2.2.2];omega,by rw [f4,e0.2.2.2];omega⟩
 ·rename_i c1 c2
  have htwo:=build_two x n w t.up (by simpa using c2)
  have hok:=build_ok x n w t.up
  rw [Inst.branch]
  obtain ⟨hl,hlast⟩:=sure_get hok (i:=(x.build n w t.up).sure-1) (by omega)
  rw [List.getD_eq_getElem?_getD,List.getElem?_eq_getElem hl,Option.getD_some]
  have hpath:∀m∈(x.build n w t.up).layers[(x.build n w t.up).sure-1],Track x m∧m.path.length=n.path.length+((x.build n w t.up).sure-1):=by
   rw [hlast]
   exact fun m hmm=>layN_track ht t.up _ m hmm
  have ho:=offers_up x ((x.build n w t.up).layers.take ((x.build n w t.up).sure-1)) (t.dia n (x.build n w t.up))
  generalize hS:x.offers (t.dia n (x.build n w t.up)) ((x.build n w t.up).layers.take ((x.build n w t.up).sure-1))=S at *
  have g1:=ho.2.1.trans e0.1
  have g2:=ho.2.2.1.trans e0.2.1
  obtain ⟨k1,k2,k3⟩:=grows_pushes (x:=x) p (x.build n w t.up).low ((x.build n w t.up).layers[(x.build n w t.up).sure-1]) S (by rw [g1,g2];exact hs)
  have hup:=pushes_up x (x.build n w t.up).low ((x.build n w t.up).layers[(x.build n w t.up).sure-1]) S
  have hlen:=ht.len13 hx hm hp
  rw [mass_like g1 g2,wts_lay p _ _ fun m hmm=>(hpath m hmm).2] at k2
  rw [g1] at k1
  have key:potL p (13-(n.path.length+((x.build n w t.up).sure-1))) ((x.build n w t.up).layers[(x.build n w t.up).sure-1])*(14-(n.path.length+((x.build n w t.up).sure-1)))+((x.build n w t.up).layers[(x.build n w t.up).sure-1]).length≤wt p n∧
    potL p (13-(n.path.length+((x.build n w t.up).sure-1))) ((x.build n w t.up).layers[(x.build n w t.up).sure-1])*(14-(n.path.length+((x.build n w t.up).sure-1)))+1≤wt p n:=by
   by_cases hD:(x.build n w t.up).sure-1≤13-n.path.length
   ·have hpl:=pot_lay hx hm hp ht t.up (13-n.path.length) _ hD
    rw [←hlast,Nat.sub_sub] at hpl
    have hll:=potL_len p (13-(n.path.length+((x.build n w t.up).sure-1))) ((x.build n w t.up).layers[(x.build n w t.up).sure-1])
    generalize potL p (13-(n.path.length+((x.build n w t.up).sure-1))) ((x.build n w t.up).layers[(x.build n w t.up).sure-1])=A at *
    have hpos:=pot_pos p (13-n.path.length) (keyM n.s) n.s.yard
    rw [←potS] at hpos
    rw [wt]
    generalize potS p (13-n.path.length) n.s=G at *
    have m1:A*(14-(n.path.length+((x.build n w t.up).sure-1)))≤G*(13-n.path.length):=Nat.mul_le_mul hpl (by omega)
    have m2:G*(14-n.path.length)=G*(13-n.path.length)+G:=by
     rw [show 14-n.path.length=(13-n.path.length)+1 by omega,Nat.mul_add,Nat.mul_one]
    omega
   ·have:(x.build n w t.up).layers[(x.build n w t.up).sure-1]=[]:=by
     refine List.eq_nil_iff_forall_not_mem.2 fun m hmm=>?_
     obtain ⟨a,b⟩:=hpath m hmm
     have:=a.len13 hx hm hp
     omega
    rw [this]
    simp only [potL,List.length_nil]
    omega
  generalize potL p (13-(n.path.length+((x.build n w t.up).sure-1))) ((x.build n w t.up).layers[(x.build n w t.up).sure-1])*(14-(n.path.length+((x.build n w t.up).sure-1)))=A at *
  refine ⟨by omega,by omega,by rw [hup.2.1,ho.2.2.2.1];exact e0.2.2.1,by rw [hup.2.2,ho.2.2.2.2,e0.2.2.2];omega,by rw [hup.2.2,ho.2.2.2.2,e0.2.2.2];omega⟩
theorem sum_split {q q':List Ent} {k:Nat} (hk:k<q.length) (h:q'=q.take k++q.drop (k+1)) (g:Ent→Nat):(q.map g).sum=g q[k]+(q'.map g).sum:=by
 have hd:q=q.take k++q[k] :: q.drop (k+1):=by rw [←List.drop_eq_getElem_cons hk,List.take_append_drop]
 rw [h,List.map_append,List.sum_append]
 conv=>lhs;rw [hd]
 rw [List.map_append,List.sum_append,List.map_cons,List.sum_cons]
 omega
theorem take_sum {o:Int} {q:List Ent} {e:Ent} {q':List Ent} (h:takeQ o q=some (e,q')) (g:Ent→Nat):(q.map g).sum=g e+(q'.map g).sum:=by
 unfold takeQ at h
 split at h
 ·cases h
 rename_i hq
 have hk:=minI_lt o hq
 obtain ⟨h1,h2⟩:=Prod.mk.inj (Option.some.inj h)
 rw [sum_split hk h2.symm g,←h1]
 congr 2
 rw [List.getD_eq_getElem?_getD,List.getElem?_eq_getElem hk];rfl
structure Small (x:Inst) (p:Nat) (s:SS):Prop where
 subs:s.subs.length+s.mass p≤1849
 log:s.log.length+s.mass p≤1848
 steps:2*(s.log.length:Int)≤s.steps∧s.steps≤400000*s.log.length
theorem Small.left {x:Inst} {p:Nat} {s:SS} (h:Small x p s) {o:Int} {e:Ent} {q:List Ent} (ht:takeQ o s.q=some (e,q)):Small x p (s.left q)∧(s.left q).mass p+wt p (s.subs.getD e.no Node.zero)=s.mass p:=by
 have hsum:=take_sum ht fun e=>wt p (s.subs.getD e.no Node.zero)
 have hmass:s.mass p=wt p (s.subs.getD e.no Node.zero)+(s.left q).mass p:=hsum
 refine ⟨⟨?_,?_,h.steps⟩,by omega⟩
 ·have:=h.subs
  show s.subs.length+_≤_
  omega
 ·have:=h.log
  show s.log.length+_≤_
  omega
structure Going (x:Inst) (p:Nat) (s:SS):Prop where
 inv:SInv x s
 cov:s.Covers x fun _=>False
 small:Small x p s
theorem Going.skip {x:Inst} {p:Nat} {s:SS} (h:Going x p s) {o:Int} {e:Ent} {q:List Ent} (ht:takeQ o s.q=some (e,q)) (c:s.up≤e.bound):Going x p (s.left q):=by
 obtain ⟨t1,t2,t3,t4⟩:=take_some ht
 obtain ⟨n,hn⟩:=h.inv.nos e t1
 have hcl:=Covers.left h.inv h.cov t2 hn
 have hb:=h.inv.bound e t1 n hn
 refine ⟨h.inv.left t3,fun v c hv hlt=>?_,(h.small.left ht).1⟩
 rcases hcl v c hv hlt with ⟨v',d',hv',hd'⟩ | hq
 ·have hlt':c<s.up:=hlt
  have:=hb v' d' hv' (by omega)
  omega
 ·exact .inr hq
theorem Going.look {x:Inst} {p:Nat} (hx:x.Fit p) (hm:x.may=true) (hp:p≤3) {s:SS} (h:Going x p s) {w:Int} (hw:w≤40) {o:Int} {e:Ent} {q:List Ent} (htk:takeQ o s.q=some (e,q)):
  ∃n,s.subs[e.no]? =some n∧s.subs.getD e.no Node.zero=n∧Track x n∧Going x p (x.lookS w (s.left q) n)∧Cost x p n (s.left q) (x.lookS w (s.left q) n)∧(x.lookS w (s.left q) n).mass p<s.mass p:=by
 have hst:x.stops.length<2^31:=by have:=hx.len;omega
 obtain ⟨t1,t2,t3,t4⟩:=take_some htk
 obtain ⟨n,hn⟩:=h.inv.nos e t1
 have ht:=h.inv.track n (List.mem_of_getElem? hn)
 have hsl:=h.inv.left t3
 obtain ⟨k1,k2⟩:=look_ok2 hst hm ht w hsl (Covers.left h.inv h.cov t2 hn)
 obtain ⟨h1,h2⟩:=h.small.left htk
 rw [getD_of hn] at h2
 have hc:=look_cost hx hm hp ht hw (s:=s.left q) hsl.nos
 obtain ⟨c1,c2,c3,c4,c5⟩:=hc
 have:=h.small.subs
 have:=h.small.log
 have:=h.small.steps
 have e1:(s.left q).subs.length=s.subs.length:=rfl
 have e2:(s.left q).log.length=s.log.length:=rfl
 have e3:(s.left q).steps=s.steps:=rfl
 exact ⟨n,hn,getD_of hn,ht,⟨k1,k2,⟨by omega,by omega,by omega,by omega⟩⟩,⟨c1,c2,c3,c4,c5⟩,by omega⟩
theorem run_ends {x:Inst} {p:Nat} (hx:x.Fit p) (hm:x.may=true) (hp:p≤3) (o:Opt) (hw:o.width≤40):∀(N:Nat) (s:SS),Going x p s→s.mass p<N→∃r,x.runGo o N s=some r
 |0,s,_,h=>absurd h (Nat.not_lt_zero _)
 |N+1,s,hs,h=>by
  rw [Inst.runGo]
  cases ht:takeQ o.order s.q with
  |none=>exact ⟨_,rfl⟩
  |some r=>
   obtain ⟨e,q⟩:=r
   simp only
   obtain ⟨n,hn,hg,htn,k1,k2,k3⟩:=hs.look hx hm hp hw ht
   have hpos:=wt_pos hx hm hp htn
   obtain ⟨m1,m2⟩:=hs.small.left ht
   rw [hg] at m2 ⊢
   by_cases c1:s.up≤e.bound
   ·rw [if_pos c1]
    exact run_ends hx hm hp o hw N _ (hs.skip ht c1) (by omega)
   rw [if_neg c1]
   by_cases c2:o.budget≤s.steps
   ·rw [if_pos c2];exact ⟨_,rfl⟩
   rw [if_neg c2]
   exact run_ends hx hm hp o hw N _ k1 (by omega)
theorem lookD_up (x:Inst) (w:Int) (s:SS) (n:Node) (d:Diag):(x.lookD w s n d).up≤s.up:=by
 have e0:(s.dia n d).up=s.up:=rfl
 unfold Inst.lookD
 split
 ·rw [e0];exact Int.le_refl _
 split
 ·exact (offer_up _ _).1
 ·rw [Inst.branch,(pushes_up x d.low _ _).1]
  have:=(offers_up x (d.layers.take (d.sure-1)) (s.dia n d)).1
  omega
theorem look_up (x:Inst) (w:Int) (s:SS) (n:Node):(x.lookS w s n).up≤s.up:=by
 have h1:=lookD_up x w (s.nar x w n) n (x.build n w (s.nar x w n).up)
 have h2:(s.nar x w n).up≤s.up:=(offer_up _ _).1
 rw [Inst.lookS]
 omega
theorem start_small {x:Inst} {p:Nat} (hx:x.Fit p) (hm:x.may=true) (hp:p≤3):Small x p x.start:=by
 obtain ⟨h1,h2,h3⟩:=grows_push (x:=x) p 0 (s:=⟨[],[],inf,[],0,[]⟩) x.rootN fun e he=>by simp at he
 have hup:=push_up x 0 ⟨[],[],inf,[],0,[]⟩ x.rootN
 have hpot:=pot_root p (by omega) 13 (by omega)
 have e3:keyM x.rootS=0:=by rw [Inst.rootS,if_pos hm];simp [keyM,State.zero]
 have e4:x.rootS.yard=true:=by rw [Inst.rootS,if_pos hm];simp [State.yard,State.zero]
 have hw:wt p x.rootN≤132*14:=by
  show pot p 13 (keyM x.rootS) x.rootS.yard*14≤_
  rw [e3,e4]
  exact Nat.mul_le_mul_right _ hpot
 have e5:(SS.mk [] [] inf [] 0 []).mass p=0:=rfl
 rw [Inst.start]
 simp only [List.map_cons,List.map_nil,List.sum_cons,List.sum_nil,List.length_cons,List.length_nil] at h1 h2
 refine ⟨by omega,?_,?_⟩
 ·rw [hup.2.1];simp only [List.length_nil];omega
 ·rw [hup.2.1,hup.2.2];simp
theorem start_going {x:Inst} {p:Nat} (hx:x.Fit p) (hm:x.may=true) (hp:p≤3):Going x p x.start:=by
 obtain ⟨h1,h2⟩:=start_ok (x:=x) (by have:=hx.len;omega) hm
 exact ⟨h1,h2,start_small hx hm hp⟩
end Go.Proofs.YtnoifgjiipgpoaaGreat

set_option maxRecDepth 4000
set_option maxHeartbeats 1000000
namespace Go.Proofs.YtnoifgjiipgpoaaGreat
open Go Go.Proofs.YtnoifgjiipgpoaaGreat.R
def hC (h:State×Nat×Bool):List AV:=[.i h.1.spot,.i h.1.car,.i h.1.time,.i h.1.load,.i h.1.first,.u h.1.must,.u h.1.can,.u h.1.on,.i h.2.1,.b h.2.2]
def addH (h:State×Nat×Bool) (t:State):State×Nat×Bool:=if h.2.1=0 then (t,1,h.2.2) else (h.1.join t,h.2.1+1,h.2.2||decide (t.spot≠h.1.spot))
theorem join_ok {s t:State} (h:s.ok) (k:t.ok):(s.join t).ok:=⟨Nat.and_lt_two_pow _ k.must,Nat.or_lt_two_pow h.can k.can,Nat.and_lt_two_pow _ k.on⟩
theorem addH_ok {h:State×Nat×Bool} {t:State} (h1:h.1.ok) (h2:t.ok):(addH h t).1.ok:=by
 unfold addH
 split
 ·exact h2
 ·exact join_ok h1 h2
theorem addH_many (h:State×Nat×Bool) (t:State):(addH h t).2.1=h.2.1+1:=by unfold addH;split<;>simp_all
theorem add_spec (h:State×Nat×Bool) (t:State) (hk:h.2.1<2^62) (ho:h.1.ok) (htk:t.ok) {σ:Nat→AObj} {nx b:Nat} (hb:b<nx) (hσ:σ b= .box (hC h)):
  CallSpec P 154 [.ptr b 0,t.a] σ nx (.tup []) (oput σ b (.box (hC (addH h t)))) nx:=by
 refine spec_down Tryz.func154 rfl rfl (by simp [Tryz.f154]) hb (by simp [bndO,bnd,bnd.bndL,hC]) (by simp [bnd,bnd.bndL]) fun hkn B hB hnx hσB=>?_
 simp only [Tryz.f154] at hB ⊢
 have hne:¬b=nx:=by omega
 have hne2:¬nx=b:=by omega
 obtain ⟨s,k,o⟩:=h
 simp only at hk ho
 by_cases c0:k=0
 ·subst c0
  have e:addH (s,0,o) t=(t,1,o):=rfl
  have w1:IntKind.i64.wrap 1=1:=w64 _ (by omega)
  rw [e]
  refine K_run hB 100 ?_
  simp [go_sem,State.a,State.cs,hσ,hC,hne,hne2,w1]
  exact fun i h1 h2=>by simp [h2,show ¬i=nx by omega]
 ·have e:addH (s,k,o) t=(s.join t,k+1,o||decide (t.spot≠s.spot)):=if_neg c0
  have hw:IntKind.i64.wrap ((k:Int)+1)=(k:Int)+1:=w64 _ (by omega)
  have c1:¬(k:Int)+1=1:=by omega
  rw [e]
  refine K_run hB 100 ?_
  simp [go_sem,State.a,State.cs,hσ,hC,hne,hne2,hw,c1]
  have hm1:=bandN ho.must htk.must
  have hm2:=bandN ho.on htk.on
  have hm3:=borN ho.can htk.can
  refine K_cut (α:=Unit) (fun _=>True) (fun _=>⟨sl [(0,.ptr b 0),(3,.ptr nx 0),(4,.ptr b 0)],oput (oput σ nx (.box t.cs)) b (.box (hC (s,k+1,o||decide (t.spot≠s.spot)))),nx+1⟩) ?_ fun _ _=>?_
  ·refine K_drawnT [16] rfl (by rw [hB];kernel_rfl) (by kernel_rfl) fun ht=>?_
   cases o with
   |true=>
    refine K_run hB 100 ?_
    simp [go_sem,ht,hσ,hC,hne,hne2,hw,c1]
    refine Imp.slots (by simp [go_sem]) ?_ rfl
    funext i
    by_cases e1:i=b
    ·simp [oput,e1,hC]
    ·simp [oput,e1,State.cs]
   |false=>
    refine K_run hB 100 ?_
    simp [go_sem,ht,hσ,hC,hne,hne2,hw,c1]
    refine Imp.slots (by simp [go_sem]) ?_ rfl
    funext i
    by_cases e1:i=b
    ·simp [oput,e1,hC]
    ·simp [oput,e1,State.cs]
  refine K_run hB 100 ?_
  simp [go_sem]
  refine K_drawnF [18,21] [1,13,14,15] rfl (by rw [hB];kernel_rfl) (by kernel_rfl) fun ht hf'=>?_
  refine K_run hB 100 ?_
  simp [go_sem,ht,hf',hC,hne,hne2,State.cs]
  refine K_drawnF [18,21] [1,13,14,15] rfl (by rw [hB];kernel_rfl) (by kernel_rfl) fun ht hf'=>?_
  refine K_run hB 100 ?_
  simp [go_sem,ht,hf',hC,hne,hne2,State.cs]
  refine K_drawnF [18,21] [1,13,14,15] rfl (by rw [hB];kernel_rfl) (by kernel_rfl) fun ht hf'=>?_
  refine K_run hB 100 ?_
  simp [go_sem,ht,hf',hC,hne,hne2,State.cs,hm1,hm2]
  refine K_drawnT [9] rfl (by rw [hB];kernel_rfl) (by kernel_rfl) fun ht=>?_
  refine K_run hB 100 ?_
  simp [go_sem,ht,hC,hne,hne2,State.cs,hm3]
  exact ⟨⟨rfl,rfl,rfl,rfl,rfl,rfl,rfl,rfl⟩,fun i h1 h2=>by simp [h2,show ¬i=nx by omega]⟩
def State.row (s:State):List T:=[.i s.spot,.i s.car,.i s.time,.i s.load,.i s.first,.v (.int .u64 s.must),.v (.int .u64 s.can),.v (.int .u64 s.on)]
theorem each_spec (l:List State) (h:State×Nat×Bool) (hl:l.length<2^31) (h0:h.2.1=0) (ho:h.1.ok) (hlo:∀t∈l,t.ok) {σ:Nat→AObj} {nx b r:Nat} (hb:b<nx) (hσ:σ b= .box (hC h)) (hr:r<nx) (hrb:r≠b) (hσr:σ r= .arr 8 (l.map State.row)):
  CallSpec P 153 [.fn (.func 154) [.ptr b 0] [],.ref r] σ nx (.tup []) (oput σ b (.box (hC (l.foldl addH h)))) nx:=by
 refine spec_down Tryz.func153 rfl rfl (by simp [Tryz.f153]) hb (by simp [bndO,bnd,bnd.bndL,hC]) (by simp [bnd,bnd.bndL]) fun hkn B hB hnx hσB=>?_
 simp only [Tryz.f153] at hB ⊢
 have hil:(l.map State.row).length=l.length:=List.length_map _
 have hgt:∀(k:Nat) (h:k<l.length),(l.map State.row)[k]'(by rw [hil];exact h)=l[k].row:=fun k h=>by rw [List.getElem_map]
 generalize l.map State.row=X at *
 generalize hR:l.foldl addH h=R
 refine K_run hB 100 ?_
 simp [go_sem,hσr,hil]
 refine K_loopP (α:=Nat×(State×Nat×Bool)×(Nat→AObj)×Nat) (fun (k,h,τ,ny)=>k≤l.length∧(l.drop k).foldl addH h=R∧h.2.1=k∧h.1.ok∧τ b= .box (hC h)∧nx≤ny∧∀i,i<nx→i≠b→τ i=σ i)
  (fun (k,h,τ,ny)=>⟨sl [(0,.fn (.func 154) [.ptr b 0] []),(6,.ref r),(7,.i l.length),(8,.i k)],τ,ny⟩) (fun a=>l.length-a.1) (0,h,σ,nx) ⟨Nat.zero_le _,hR,h0,ho,hσ,Nat.le_refl _,fun i _ _=>rfl⟩ (Imp.slots (by simp [go_sem]) rfl rfl) ?_
 rintro ⟨k,h,τ,ny⟩ ⟨g1,g2,g3,g4,g5,g6,g7⟩
 have hτr:τ r= .arr 8 X:=(g7 r hr hrb).trans hσr
 refine K_run hB 60 ?_
 simp [go_sem]
 refine fork_dec (fun hk=>?_) (fun hk=>?_)
 ·have hkk:IntKind.i64.wrap ((k:Int)+1)=((k+1:Nat):Int):=by rw [w64 ((k:Int)+1) (by omega)];rfl
  have hget:∀h:k<X.length,X[k]'h=l[k].row:=fun h=>hgt k hk
  rw [List.drop_eq_getElem_cons hk,List.foldl_cons] at g2
  have hto:=hlo l[k] (List.getElem_mem _)
  generalize l[k]=t at *
  have hadd:=fun (τ':Nat→AObj) (h1:τ' b= .box (hC h))=>add_spec h t (by omega) g4 hto (σ:=τ') (nx:=ny+1) (b:=b) (by omega) h1
  have hok:=addH_ok g4 hto
  have hmn:=addH_many h t
  generalize addH h t=h' at *
  have m1:¬b=ny:=by omega
  have m2:¬r=ny:=by omega
  simp [go_sem,hil,hk,hget,State.row,hτr,m2]
  refine K_call rfl rfl rfl (args:=[.ptr b 0,t.a]) (f:=154) (by simp [go_sem,State.a,State.cs]) (by simp [go_sem,hB]) (hadd _ (by simp [oput,m1,g5])) ?_
  refine K_run hB 100 ?_
  simp [go_sem,hkk]
  refine Next.mk (k+1,h',_,ny+1) ?_ (Imp.slots (by simp [go_sem]) rfl rfl) (by simp only;omega)
  refine ⟨by simp only;omega,g2,by simp only;omega,hok,by simp [oput],by simp only;omega,fun i h1 h2=>?_⟩
  simp [oput,h2,show ¬i=ny by omega,g7 i h1 h2]
 ·have:k=l.length:=by omega
  subst this
  rw [List.drop_length,List.foldl_nil] at g2
  subst g2
  simp [go_sem,g5]
  exact ⟨g6,g7⟩
theorem fold_addH:∀(l:List State) (s:State) (k:Nat) (o:Bool),l.foldl addH (s,k+1,o)=(l.foldl State.join s,k+1+l.length,o||l.any fun t=>decide (t.spot≠s.spot))
 |[],s,k,o=>by simp
 |t :: l,s,k,o=>by
  have e:addH (s,k+1,o) t=(s.join t,k+1+1,o||decide (t.spot≠s.spot)):=if_neg (by simp)
  rw [List.foldl_cons,e,fold_addH l (s.join t) (k+1),List.foldl_cons,List.any_cons,List.length_cons,←Bool.or_assoc,show k+1+1+l.length=k+1+(l.length+1) by omega]
  rfl
theorem join_fold (l:List State):joinL l=if (l.foldl addH (State.zero,0,false)).2.1=0∨(l.foldl addH (State.zero,0,false)).2.2=true then (State.zero,false) else ((l.foldl addH (State.zero,0,false)).1,true):=by
 cases l with
 |nil=>rfl
 |cons s l=>
  have e:addH (State.zero,0,false) s=(s,0+1,false):=rfl
  rw [List.foldl_cons,e,fold_addH,joinL,Bool.false_or]
  simp only [show ¬(0+1+l.length=0) by omega,false_or]
theorem join_spec (l:List State) (hl:l.length<2^31) (hlo:∀t∈l,t.ok) {σ:Nat→AObj} {nx r:Nat} (hr:r<nx) (hσr:σ r= .arr 8 (l.map State.row)):
  CallSpec P 143 [.ref r] σ nx (.tup [(joinL l).1.a,.b (joinL l).2]) σ nx:=by
 refine spec_keep Tryz.func143 rfl rfl (by simp [Tryz.f143]) (by simp [bnd,bnd.bndL,State.a,State.cs]) fun hk B hB hnx hσB=>?_
 simp only [Tryz.f143] at hB ⊢
 have hes:=fun (τ:Nat→AObj) (h1:τ (nx+1)= .box (hC (State.zero,0,false))) (h2:τ r= .arr 8 (l.map State.row))=>each_spec l (State.zero,0,false) hl rfl State.zero_ok hlo (σ:=τ) (nx:=nx+2) (b:=nx+1) (r:=r) (by omega) h1 (by omega) (by omega) h2
 have hj:=join_fold l
 generalize joinL l=J at *
 generalize l.foldl addH (State.zero,0,false)=H at *
 obtain ⟨s,k,o⟩:=H
 simp only at hj
 have m1:¬r=nx:=by omega
 have m2:¬r=nx+1:=by omega
 have fin:∀(a b c:AObj) (i:Nat),i<nx→oput (oput (oput σ nx a) (nx+1) b) (nx+1) c i=σ i:=fun a b c i h=>by simp [oput,show ¬i=nx by omega,show ¬i=nx+1 by omega]
 refine K_run hB 100 ?_
 simp [go_sem]
 refine K_call rfl rfl rfl (args:=[.fn (.func 154) [.ptr (nx+1) 0] [],.ref r]) (f:=153) (by simp [go_sem]) (by simp [go_sem,hB]) (hes _ (by simp [oput,hC,State.zero]) (by simp [oput,m1,m2,hσr])) ?_
 by_cases c0:k=0
 ·rw [if_pos (.inl c0)] at hj
  subst hj
  refine K_run hB 100 ?_
  simp [go_sem,hC,c0]
  exact ⟨fun i h=>by simp [show ¬i=nx by omega,show ¬i=nx+1 by omega],rfl⟩
 cases o with
 |true=>
  rw [if_pos (.inr rfl)] at hj
  subst hj
  refine K_run hB 100 ?_
  simp [go_sem,hC,c0]
  exact ⟨fun i h=>by simp [show ¬i=nx by omega,show ¬i=nx+1 by omega],rfl⟩
 |false=>
  rw [if_neg (by simp [c0])] at hj
  subst hj
  refine K_run hB 100 ?_
  simp [go_sem,hC,c0]
  exact ⟨fun i h=>by simp [show ¬i=nx by omega,show ¬i=nx+1 by omega],rfl⟩
end Go.Proofs.YtnoifgjiipgpoaaGreat

set_option maxRecDepth 4000
set_option maxHeartbeats 1000000
namespace Go.Proofs.YtnoifgjiipgpoaaGreat
open Go Go.Proofs.YtnoifgjiipgpoaaGreat.R
theorem costL_snoc (l:List Node) (m:Node):costL (l++[m])=if l=[]∨m.cost<costL l then m.cost else costL l:=by
 cases l with
 |nil=>simp [costL]
 |cons n l=>
  rw [List.cons_append,costL,List.foldl_append,costL]
  simp only [List.foldl_cons,List.foldl_nil,reduceCtorEq,false_or]
  split<;>omega
abbrev nodeC (s:State) (c:Int) (p:AV):List AV:=[.i s.spot,.i s.car,.i s.time,.i s.load,.i s.first,.u s.must,.u s.can,.u s.on,.i c,p]
theorem together_spec (l:List Node) (hl:l.length<2^31) (hlo:∀n∈l,n.s.ok) {σ:Nat→AObj} {nx r:Nat} (hr:r<nx) (hσr:σ r= .arr 10 (nodesT l)):
  CallSpec P 127 [.ref r] σ nx (.tup [(together l).1.a,.b (together l).2]) σ nx:=by
 refine spec_keep Tryz.func127 rfl rfl (by simp [Tryz.f127]) (by simp [bnd,bnd.bndL,Node.a,Node.cs]) fun hk B hB hnx hσB=>?_
 simp only [Tryz.f127] at hB ⊢
 have hil:(nodesT l).length=l.length:=List.length_map _
 have hgt:∀(k:Nat) (h:k<l.length),(nodesT l)[k]'(by rw [hil];exact h)=l[k].t:=fun k h=>nodesT_get l h
 have hmost:mostLen=4294967296:=rfl
 generalize hX:nodesT l=X at *
 have m1:¬r=nx:=by omega
 have m2:¬r=nx+1:=by omega
 have m3:¬r=nx+2:=by omega
 refine K_run hB 100 ?_
 simp [go_sem,hσr,hil,m1,m2]
 refine K_own 5 8 (by simp [go_sem]) ?_
 refine K_less (Imp.looseB (b:=nx+1) (cs:=[.i 0,.i 0,.i 0,.i 0,.i 0,.u 0,.u 0,.u 0,.i 0,.fsl []]) (by simp [oput])) ?_
 refine K_loopP (α:=Nat×Nat×(Nat→AObj)×Nat) (fun (k,q,τ,ny)=>k≤l.length∧τ (nx+1)= .box (nodeC State.zero (costL (l.take k)) (.t (.sl [])))∧τ q= .arr 8 ((l.map fun n=>n.s.row).take k)∧nx+2≤q∧q<ny∧τ nx= .box (nodeC State.zero 0 (.fsl []))∧∀i,i<nx→τ i=σ i)
  (fun (k,q,τ,ny)=>⟨sl [(2,.ptr nx 0),(3,.b false),(4,.ptr (nx+1) 0),(5,.ref q),(9,.ref r),(10,.i l.length),(11,.i k)],τ,ny⟩) (fun a=>l.length-a.1) (0,nx+2,_,nx+3) ?_ (Imp.slots (by simp [go_sem]) rfl rfl) ?_
 ·refine ⟨Nat.zero_le _,by simp [oput,loosen,State.zero,costL],by simp [oput],by omega,by omega,by simp [oput,State.zero,show ¬nx=nx+1+1 by omega],fun i h=>by simp [oput,show ¬i=nx by omega,show ¬i=nx+1 by omega,show ¬i=nx+2 by omega]⟩
 rintro ⟨k,q,τ,ny⟩ ⟨g1,g2,g3,g4,g5,g6,g7⟩
 have hτr:τ r= .arr 10 X:=(g7 r hr).trans hσr
 have n1:¬r=ny:=by omega
 have n2:¬nx+1=ny:=by omega
 have n3:¬q=ny:=by omega
 have n4:¬nx=ny:=by omega
 have n5:¬nx+1=q:=by omega
 have n6:¬ny=nx+1:=by omega
 have n7:¬q=nx+1:=by omega
 refine K_run hB 60 ?_
 simp [go_sem]
 refine fork_dec (fun hk=>?_) (fun hk=>?_)
 ·have hkk:IntKind.i64.wrap ((k:Int)+1)=((k+1:Nat):Int):=by rw [w64 ((k:Int)+1) (by omega)];rfl
  have hget:∀h:k<X.length,X[k]'h=l[k].t:=fun h=>hgt k hk
  have htk:l.take (k+1)=l.take k++[l[k]]:=List.take_succ_eq_append_getElem hk
  have hcs:=costL_snoc (l.take k) l[k]
  rw [←htk] at hcs
  have hnil:l.take k=[]↔k=0:=by
   rw [List.take_eq_nil_iff]
   constructor
   ·rintro (h | h)
    ·exact h
    ·rw [h] at hk;simp at hk
   ·exact fun h=>.inl h
  simp only [hnil] at hcs
  have hrow:(l.map fun n=>n.s.row).take k++[l[k].s.row]=(l.map fun n=>n.s.row).take (k+1):=by
   rw [List.take_succ_eq_append_getElem (by rw [List.length_map];exact hk),List.getElem_map]
  have hlen:((l.map fun n=>n.s.row).take k).length=k:=by rw [List.length_take,List.length_map];omega
  generalize (l.map fun n=>n.s.row).take k=rows at *
  generalize costL (l.take k)=c at *
  generalize l[k]=m at *
  have hcap:k+1≤mostLen:=by omega
  by_cases c0:k=0
  ·rw [if_pos (.inl c0)] at hcs
   have hd:decide (k=0)=true:=decide_eq_true c0
   simp [go_sem,hil,hk,hget,Node.t,hτr,n1,n2,n3,n4,n5,n6,n7,g2,g3,hd,hlen,hcap,hkk]
   refine Next.mk (k+1,ny+1,_,ny+2) ?_ (Imp.slots (by simp [go_sem]) rfl rfl) (by simp only;omega)
   refine ⟨by simp only;omega,by simp [oput,n4,n2,n3,n5,hcs,State.zero],by simp only [oput,if_true];rw [←hrow];rfl,by simp only;omega,by simp only;omega,by simp [oput,n4,g6,State.zero,show ¬nx=q by omega,show ¬nx=ny+1 by omega],fun i h=>by simp [oput,show ¬i=ny by omega,show ¬i=nx+1 by omega,show ¬i=q by omega,show ¬i=ny+1 by omega,g7 i h]⟩
  by_cases c1:m.cost<c
  ·rw [if_pos (.inr c1)] at hcs
   simp [go_sem,hil,hk,hget,Node.t,hτr,n1,n2,n3,n4,n5,n6,n7,g2,g3,c0,c1,hlen,hcap,hkk]
   refine Next.mk (k+1,ny+1,_,ny+2) ?_ (Imp.slots (by simp [go_sem]) rfl rfl) (by simp only;omega)
   refine ⟨by simp only;omega,by simp [oput,n4,n2,n3,n5,hcs,State.zero],by simp only [oput,if_true];rw [←hrow];rfl,by simp only;omega,by simp only;omega,by simp [oput,n4,g6,State.zero,show ¬nx=q by omega,show ¬nx=ny+1 by omega],fun i h=>by simp [oput,show ¬i=ny by omega,show ¬i=nx+1 by omega,show ¬i=q by omega,show ¬i=ny+1 by omega,g7 i h]⟩
  ·rw [if_neg (by rintro (h | h);exact c0 h;exact c1 h)] at hcs
   simp [go_sem,hil,hk,hget,Node.t,hτr,n1,n2,n3,n4,n5,n6,n7,g2,g3,c0,c1,hlen,hcap,hkk]
   refine Next.mk (k+1,ny+1,_,ny+2) ?_ (Imp.slots (by simp [go_sem]) rfl rfl) (by simp only;omega)
   refine ⟨by simp only;omega,by simp [oput,n4,n2,n3,n5,hcs,State.zero,g2],by simp only [oput,if_true];rw [←hrow];rfl,by simp only;omega,by simp only;omega,by simp [oput,n4,g6,State.zero,show ¬nx=q by omega,show ¬nx=ny+1 by omega],fun i h=>by simp [oput,show ¬i=ny by omega,show ¬i=nx+1 by omega,show ¬i=q by omega,show ¬i=ny+1 by omega,g7 i h]⟩
 ·have:k=l.length:=by omega
  subst this
  rw [List.take_length] at g2
  rw [List.take_of_length_le (by simp)] at g3
  have hjs:=fun (τ':Nat→AObj) (h1:τ' q= .arr 8 ((l.map fun n=>n.s).map State.row))=>join_spec (l.map fun n=>n.s) (by rw [List.length_map];exact hl) (fun t ht=>by
   obtain ⟨n,hn,rfl⟩:=List.mem_map.1 ht
   exact hlo n hn) (σ:=τ') (nx:=ny) (r:=q) g5 h1
  have htg:together l=(⟨(joinL (l.map fun n=>n.s)).1,costL l,[]⟩,(joinL (l.map fun n=>n.s)).2):=rfl
  generalize together l=TG at *
  generalize joinL (l.map fun n=>n.s)=J at *
  generalize costL l=c at *
  subst htg
  simp [go_sem]
  refine K_call rfl rfl rfl (args:=[.ref q]) (f:=143) (by simp [go_sem]) (by simp [go_sem,hB]) (hjs _ (by rw [List.map_map];exact g3)) ?_
  refine K_run hB 100 ?_
  simp [go_sem,State.a,State.cs,g2,g6,nodeC]
  exact ⟨by omega,fun i h=>by simp [show ¬i=nx by omega,show ¬i=nx+1 by omega,g7 i h],rfl⟩
end Go.Proofs.YtnoifgjiipgpoaaGreat

set_option maxRecDepth 4000
set_option maxHeartbeats 1000000
namespace Go.Proofs.YtnoifgjiipgpoaaGreat
open Go Go.Proofs.YtnoifgjiipgpoaaGreat.R
theorem nodup_inj {α:Type} {l:List α} (h:l.Nodup) {i j:Nat} (hi:i<l.length) (hj:j<l.length) (e:l[i]=l[j]):i=j:=by
 rcases Nat.lt_trichotomy i j with h1 | h1 | h1
 ·exact absurd e (List.pairwise_iff_getElem.1 h i j hi hj h1)
 ·exact h1
 ·exact absurd e.symm (List.pairwise_iff_getElem.1 h j i hj hi h1)
theorem nodup_set {α:Type} {l:List α} (h:l.Nodup) {a:α} (hm:a∉l) (i:Nat):(l.set i a).Nodup:=by
 refine List.pairwise_iff_getElem.2 fun j k hj hk hjk=>?_
 rw [List.length_set] at hj hk
 rw [List.getElem_set,List.getElem_set]
 split
 ·split
  ·omega
  ·exact fun e=>hm (e ▸ List.getElem_mem _)
 ·split
  ·exact fun e=>hm (e ▸ List.getElem_mem _)
  ·exact List.pairwise_iff_getElem.1 h j k hj hk hjk
abbrev kv (i:Int):Value:=.int .i64 i
noncomputable def kmap (K:List (Int×Nat)):List (Value×AV):=K.map fun p=>(kv p.1,.ref p.2)
def kfind (i:Int):List (Int×Nat)→Option (Nat×Nat)
 |[]=>none
 |p :: K=>if p.1=i then some (0,p.2) else (kfind i K).map fun r=>(r.1+1,r.2)
def kset (i:Int) (q:Nat) (K:List (Int×Nat)):List (Int×Nat):=match kfind i K with
 |some (j,_)=>K.set j (i,q)
 |none=>K++[(i,q)]
theorem kv_inj {i j:Int}:kv i=kv j↔i=j:=⟨fun h=>by injection h,fun h=>by rw [h]⟩
theorem findM_k (i:Int):∀(K:List (Int×Nat)),findM (kv i) (kmap K)=(kfind i K).map fun r=>(r.1,.ref r.2)
 |[]=>rfl
 |p :: K=>by
  have e:kmap (p :: K)=(kv p.1,.ref p.2) :: kmap K:=rfl
  rw [e,findM,kfind,findM_k i K]
  by_cases h:p.1=i
  ·rw [if_pos (by rw [h]),if_pos h];rfl
  ·rw [if_neg (fun e=>h (kv_inj.1 e)),if_neg h,Option.map_map,Option.map_map]
   rfl
theorem kfind_some {i:Int}:∀{K:List (Int×Nat)} {j q:Nat},kfind i K=some (j,q)→∃h:j<K.length,K[j]=(i,q)
 |[],j,q,h=>by cases h
 |p :: K,j,q,h=>by
  rw [kfind] at h
  split at h
  ·rename_i e
   cases h
   exact ⟨by simp,by rw [←e];rfl⟩
  ·obtain ⟨r,h1,h2⟩:=Option.map_eq_some_iff.1 h
   cases h2
   obtain ⟨h3,h4⟩:=kfind_some h1
   exact ⟨by simp;omega,by simpa using h4⟩
theorem kfind_none {i:Int}:∀{K:List (Int×Nat)},kfind i K=none→i∉K.map Prod.fst
 |[],_=>by simp
 |p :: K,h=>by
  rw [kfind] at h
  split at h
  ·cases h
  ·rename_i e
   have:=kfind_none (Option.map_eq_none_iff.1 h)
   simp only [List.map_cons,List.mem_cons,not_or]
   exact ⟨fun h=>e h.symm,this⟩
theorem setM_k (i:Int) (q:Nat) (K:List (Int×Nat)):setM (kv i) (.ref q) (kmap K)=kmap (kset i q K):=by
 rw [setM,findM_k,kset]
 cases h:kfind i K with
 |none=>simp [kmap]
 |some r=>simp [kmap,List.map_set]
theorem k_tell (i:Int) (K:List (Int×Nat)):TellM P 3 (.i i) (kv i) (kmap K):=by
 intro e he
 obtain ⟨p,hp,rfl⟩:=List.mem_map.1 he
 refine ⟨.i p.1,rfl,?_⟩
 have:eqA P 10000 3 (.i i) (.i p.1)=some (decide (i=p.1)):=by
  simp [eqA,tt3]
 rw [this]
 congr 1
 rw [decide_eq_decide]
 exact ⟨fun h=>by rw [h],fun h=>(kv_inj.1 h).symm⟩
def grp (L:List Node) (i:Int):List Node:=L.filter fun n=>decide (n.s.spot=i)
structure KI (K:List (Int×Nat)) (L:List Node) (σ:Nat→AObj) (base nx:Nat):Prop where
 keys:(K.map Prod.fst).Nodup
 objs:(K.map Prod.snd).Nodup
 rows:∀p∈K,σ p.2= .arr 10 (nodesT (grp L p.1))∧base≤p.2∧p.2<nx
 none:∀i,i∉K.map Prod.fst→grp L i=[]
theorem grp_snoc (L:List Node) (n:Node) (i:Int):grp (L++[n]) i=grp L i++if n.s.spot=i then [n] else []:=by
 rw [grp,List.filter_append,grp]
 congr 1
 by_cases h:n.s.spot=i<;>simp [h]
theorem kset_map {i:Int} {q:Nat} {K:List (Int×Nat)}:((kset i q K).map Prod.fst=K.map Prod.fst∧i∈K.map Prod.fst)∨((kset i q K).map Prod.fst=K.map Prod.fst++[i]∧i∉K.map Prod.fst):=by
 unfold kset
 cases h:kfind i K with
 |none=>exact .inr ⟨by simp,kfind_none h⟩
 |some r=>
  obtain ⟨j,q0⟩:=r
  obtain ⟨h1,h2⟩:=kfind_some h
  refine .inl ⟨?_,List.mem_map.2 ⟨_,List.getElem_mem h1,by rw [h2]⟩⟩
  simp only [List.map_set]
  refine List.ext_getElem (by simp) fun k hk1 hk2=>?_
  rw [List.getElem_set]
  split
  ·rename_i e
   subst e
   rw [List.getElem_map,h2]
  ·rfl
theorem kset_mem {i:Int} {q:Nat} {K:List (Int×Nat)} (hk:(K.map Prod.fst).Nodup) {p:Int×Nat} (hp:p∈kset i q K):p=(i,q)∨(p∈K∧p.1≠i):=by
 unfold kset at hp
 cases h:kfind i K with
 |none=>
  rw [h] at hp
  rcases List.mem_append.1 hp with hp | hp
  ·refine .inr ⟨hp,fun e=>kfind_none h (List.mem_map.2 ⟨p,hp,e⟩)⟩
  ·exact .inl (List.mem_singleton.1 hp)
 |some r=>
  obtain ⟨j,q0⟩:=r
  rw [h] at hp
  obtain ⟨h1,h2⟩:=kfind_some h
  obtain ⟨k,hk1,hk2⟩:=List.getElem_of_mem hp
  simp only [List.length_set] at hk1
  rw [List.getElem_set] at hk2
  split at hk2
  ·exact .inl hk2.symm
  ·rename_i e
   refine .inr ⟨by rw [←hk2];exact List.getElem_mem _,fun e2=>e ?_⟩
   have e3:(K.map Prod.fst)[j]'(by simpa using h1)=(K.map Prod.fst)[k]'(by simpa using hk1):=by
    rw [List.getElem_map,List.getElem_map,h2,hk2,e2]
   exact nodup_inj hk _ _ e3
theorem KI.ne {K:List (Int×Nat)} {L:List Node} {σ:Nat→AObj} {base nx:Nat} (h:KI K L σ base nx) {a b:Int×Nat} (ha:a∈K) (hb:b∈K) (hne:a.1≠b.1):a.2≠b.2:=by
 intro e
 obtain ⟨j,hj1,hj2⟩:=List.getElem_of_mem ha
 obtain ⟨k,hk1,hk2⟩:=List.getElem_of_mem hb
 have e3:(K.map Prod.snd)[j]'(by simpa using hj1)=(K.map Prod.snd)[k]'(by simpa using hk1):=by
  rw [List.getElem_map,List.getElem_map,hj2,hk2,e]
 have:=nodup_inj h.objs _ _ e3
 subst this
 rw [hj2] at hk2
 exact hne (by rw [hk2])
theorem KI.add {K:List (Int×Nat)} {L:List Node} {σ σ':Nat→AObj} {base nx nx' q:Nat} {n:Node} (h:KI K L σ base nx) (hq:nx≤q∧q<nx') (hb:base≤nx) (hs:∀p∈K,p.1≠n.s.spot→σ' p.2=σ p.2) (hσq:σ' q= .arr 10 (nodesT (grp L n.s.spot++[n]))):
  KI (kset n.s.spot q K) (L++[n]) σ' base nx':=by
 refine ⟨?_,?_,fun p hp=>?_,fun i hi=>?_⟩
 ·rcases kset_map (i:=n.s.spot) (q:=q) (K:=K) with ⟨e,_⟩ | ⟨e,e2⟩
  ·rw [e];exact h.keys
  ·rw [e,List.nodup_append]
   exact ⟨h.keys,by simp,fun a ha b hb=>by rw [List.mem_singleton.1 hb];exact fun e=>e2 (e ▸ ha)⟩
 ·have hlt:∀a∈K.map Prod.snd,a<nx:=fun a ha=>by
   obtain ⟨p,hp,rfl⟩:=List.mem_map.1 ha
   exact (h.rows p hp).2.2
  unfold kset
  cases hf:kfind n.s.spot K with
  |none=>
   simp only [List.map_append,List.map_cons,List.map_nil]
   rw [List.nodup_append]
   exact ⟨h.objs,by simp,fun a ha b hb=>by rw [List.mem_singleton.1 hb];have:=hlt a ha;omega⟩
  |some r=>
   simp only [List.map_set]
   exact nodup_set h.objs (fun hm=>by have:=hlt q hm;omega) _
 ·rcases kset_mem h.keys hp with rfl | ⟨h1,h2⟩
  ·refine ⟨?_,by simp only;omega,hq.2⟩
   rw [grp_snoc,if_pos rfl];exact hσq
  ·obtain ⟨r1,r2,r3⟩:=h.rows p h1
   refine ⟨?_,r2,by omega⟩
   rw [grp_snoc,if_neg (fun e=>h2 e.symm),List.append_nil,hs p h1 h2,r1]
 ·have:i∉K.map Prod.fst∧i≠n.s.spot:=by
   rcases kset_map (i:=n.s.spot) (q:=q) (K:=K) with ⟨e,e2⟩ | ⟨e,e2⟩
   ·rw [e] at hi;exact ⟨hi,fun e3=>hi (e3 ▸ e2)⟩
   ·rw [e] at hi
    simp only [List.mem_append,List.mem_singleton,not_or] at hi
    exact hi
  rw [grp_snoc,if_neg (fun e=>this.2 e.symm),h.none i this.1,List.append_nil]
end Go.Proofs.YtnoifgjiipgpoaaGreat

set_option maxRecDepth 4000
set_option maxHeartbeats 1000000
namespace Go.Proofs.YtnoifgjiipgpoaaGreat
open Go Go.Proofs.YtnoifgjiipgpoaaGreat.R
theorem mostN_eq (x:Inst) (w:Int):max w x.stops.length=(x.mostN w:Int):=by unfold Inst.mostN;omega
theorem most_pure (x:Inst) (w:Int):Pure P 109 [x.a,.i w] (.i (x.mostN w)):=by
 rw [←mostN_eq]
 refine pure_of Tryz.func109 rfl rfl (by simp [Tryz.f109]) (by simp [bnd,bnd.bndL,Inst.a]) (by simp [bnd,bnd.bndL]) fun B hB hnx=>?_
 simp only [Tryz.f109] at hB ⊢
 refine K_run hB 100 ?_
 simp [go_sem,Inst.a]
theorem squeeze_pure (x:Inst) (l:List Node) (w:Int) (hx:x.stops.length<2^31) (hl:l.length<2^31) (hn:∀n∈l,n.Fine):Pure P 111 [x.a,.t (.sl (nodesT l)),.i w] (.t (.sl (nodesT (x.squeeze l w)))):=by
 generalize hR:x.squeeze l w=R
 refine pure_of Tryz.func111 rfl rfl (by simp [Tryz.f111]) (by simp [bnd,bnd.bndL,Inst.a]) (by simp [bnd,bnd.bndL]) fun B hB hnx=>?_
 simp only [Tryz.f111] at hB ⊢
 have hso:=sorted_pure x l hx hl hn
 have hmo:=most_pure x w
 have hfS:∀n∈x.sortN l,n.Fine:=fun n h=>hn n (Inst.sortN_mem.1 h)
 have hSl:=x.sortN_len l
 rw [Inst.squeeze] at hR
 generalize x.sortN l=S at *
 have hM1:x.stops.length≤x.mostN w:=Nat.le_max_right _ _
 generalize x.mostN w=M at *
 have hNl:(nodesT S).length=S.length:=List.length_map _
 refine K_run hB 100 ?_
 simp [go_sem,Inst.a]
 refine K_call rfl rfl rfl (args:=[x.a,.t (.sl (nodesT l))]) (f:=74) (by simp [go_sem,Inst.a]) (by simp [go_sem,hB]) ((hso).spec _ _) ?_
 refine K_run hB 100 ?_
 simp [go_sem]
 refine K_call rfl rfl rfl (args:=[x.a,.i w]) (f:=109) (by simp [go_sem,Inst.a]) (by simp [go_sem,hB]) ((hmo).spec _ _) ?_
 by_cases c1:S.length≤M
 ·rw [if_pos c1] at hR
  subst hR
  refine K_run hB 100 ?_
  simp [go_sem,hNl,c1]
 rw [if_neg c1] at hR
 have hM2:M<2^31:=by omega
 obtain ⟨kp,hkp⟩:∃kp,kp=M-x.stops.length:=⟨_,rfl⟩
 have hkp2:(M:Int)-x.stops.length=kp:=by omega
 have hw1:IntKind.i64.wrap ((M:Int)-x.stops.length)=kp:=by rw [hkp2];exact w64 _ (by omega)
 have hkl:kp<S.length:=by omega
 have hS1:=nodesT_len S
 rw [←hkp] at hR
 have hXd:(nodesT S).drop kp=nodesT (S.drop kp):=by rw [nodesT,nodesT,List.map_drop]
 have hXt:(nodesT S).take kp=nodesT (S.take kp):=by rw [nodesT,nodesT,List.map_take]
 have hrl:(S.drop kp).length=S.length-kp:=List.length_drop
 have hrf:∀n∈S.drop kp,n.Fine:=fun n h=>hfS n (List.mem_of_mem_drop h)
 have hfl:(S.take kp).length≤kp:=by rw [List.length_take];omega
 refine K_run hB 100 ?_
 simp [go_sem,hNl,c1,hw1,if_pos hS1,hkl,Nat.le_of_lt hkl,hXd,hXt]
 generalize S.drop kp=rest at *
 generalize S.take kp=front at *
 have hQl:(nodesT rest).length=rest.length:=List.length_map _
 have hgt:∀(k:Nat) (h:k<rest.length),(nodesT rest)[k]'(by rw [hQl];exact h)=rest[k].t:=fun k h=>nodesT_get rest h
 generalize hX:nodesT rest=X at *
 have hmost:mostLen=4294967296:=rfl
 refine K_loopP (α:=Nat×List (Int×Nat)×(Nat→AObj)×Nat) (fun (k,K,τ,ny)=>k≤rest.length∧KI K (rest.take k) τ 2 ny∧τ 0= .box x.cs∧τ 1= .map (kmap K)∧2≤ny)
  (fun (k,K,τ,ny)=>⟨sl [(3,.ptr 0 0),(9,.fsl (nodesT front)),(10,.mapr 1),(39,.t (.sl X)),(40,.i rest.length),(41,.i k)],τ,ny⟩) (fun a=>rest.length-a.1) (0,[],_,2) ?_ (Imp.slots (by simp [go_sem,hQl]) rfl rfl) ?_
 ·exact ⟨Nat.zero_le _,⟨by simp,by simp,fun p h=>(by cases h),fun i _=>by simp [grp]⟩,by simp [oput,Inst.cs],by simp [oput,kmap],by omega⟩
 rintro ⟨k,K,τ,ny⟩ ⟨g1,g2,g3,g4,g5⟩
 refine K_run hB 60 ?_
 simp [go_sem]
 refine fork_dec (fun hk=>?_) (fun hk=>?_)
 ·have hkk:IntKind.i64.wrap ((k:Int)+1)=((k+1:Nat):Int):=by rw [w64 ((k:Int)+1) (by omega)];rfl
  have hget:∀h:k<X.length,X[k]'h=rest[k].t:=fun h=>hgt k hk
  have htk:rest.take (k+1)=rest.take k++[rest[k]]:=List.take_succ_eq_append_getElem hk
  have hgl:(grp (rest.take k) rest[k].s.spot).length≤k:=by
   refine Nat.le_trans (List.length_filter_le _ _) ?_
   rw [List.length_take];omega
  have hadd:=fun (τ':Nat→AObj) (ny' q:Nat)=>g2.add (n:=rest[k]) (σ':=τ') (nx':=ny') (q:=q)
  rw [←htk] at hadd
  generalize rest[k]=n at *
  have n0:¬0=ny:=by omega
  have n1:¬1=ny:=by omega
  simp [go_sem,hQl,hk,hget,Node.t,n0,n1]
  refine K_drawnF [11,12] [0,1,2,3] rfl (by rw [hB];kernel_rfl) (by kernel_rfl) fun ht hf'=>?_
  refine K_run hB 100 ?_
  simp [go_sem,ht,hf']
  refine K_dLookup (kt:=3) (et:=63) (es:=kmap K) (u:=kv n.s.spot) (m:=1) (r:=match kfind n.s.spot K with | some r=>.ref r.2 | none=>.fsl []) (by simp [go_sem]) rfl tt214 rfl tt63 (by kernel_rfl) (by simp [go_sem]) (by simp [go_sem,g4,n1,show ¬ny=0 by omega]) (by simp [go_sem];rfl) (by simp [go_sem];kernel_rfl) (by simp [go_sem];exact k_tell _ _) ?_ (by simp [ht]) ?_
  ·rw [lookA,findM_k]
   cases kfind n.s.spot K with
   |none=>simp [go_sem]
   |some r=>simp
  have hcap1:1≤mostLen:=by decide
  cases hf:kfind n.s.spot K with
  |none=>
   have hgr:grp (rest.take k) n.s.spot=[]:=g2.none _ (kfind_none hf)
   refine K_run hB 100 ?_
   simp [go_sem,ht,hf',n0,n1,hcap1]
   refine K_dTold (fun ho=>does_mapSet (P:=P) (n:=B.n) (kt:=3) (et:=63) (es:=kmap K) (u:=kv n.s.spot) (q:=1) ho (by simp [go_sem]) rfl tt214 rfl (by kernel_rfl) (by simp [go_sem]) (by simp [go_sem,g4,n1,show ¬ny=0 by omega]) (by simp [go_sem];rfl) (by simp [go_sem];kernel_rfl) (by simp [go_sem];exact k_tell _ _) (.inr (by simp [Instr.sameBits]))) (by simp) (fun q hq=>by rw [List.mem_singleton.1 hq];exact .inl (by kernel_rfl)) ?_
   refine K_run hB 100 ?_
   simp [go_sem,ht,hf',hkk,setM_k]
   refine Next.mk (k+1,kset n.s.spot (ny+1) K,_,ny+2) ?_ (Imp.slots (by simp [go_sem]) rfl rfl) (by simp only;omega)
   refine ⟨by simp only;omega,?_,by simp [oput,g3,n0],by simp [oput],by simp only;omega⟩
   refine hadd _ (ny+2) (ny+1) ⟨by omega,by omega⟩ g5 (fun p hp hne=>?_) ?_
   ·obtain ⟨_,s2,s3⟩:=g2.rows p hp
    simp [oput,show ¬p.2=ny by omega,show ¬p.2=1 by omega,show ¬p.2=ny+1 by omega]
   ·rw [hgr]
    simp [oput,nodesT,Node.t,show ¬ny=0 by omega]
  |some r=>
   obtain ⟨j,q⟩:=r
   obtain ⟨hj1,hj2⟩:=kfind_some hf
   have hmem:(n.s.spot,q)∈K:=hj2 ▸ List.getElem_mem hj1
   obtain ⟨r1,r2,r3⟩:=g2.rows (n.s.spot,q) hmem
   simp only at r1 r2 r3
   have n2:¬q=ny:=by omega
   have n3:¬1=q:=by omega
   have n4:¬0=q:=by omega
   have n5:¬ny=q:=by omega
   have hcap2:(nodesT (grp (rest.take k) n.s.spot)).length+1≤mostLen:=by rw [nodesT,List.length_map];omega
   refine K_run hB 100 ?_
   simp [go_sem,ht,hf',n0,n1,n2,n5,r1,hcap2]
   refine K_dTold (fun ho=>does_mapSet (P:=P) (n:=B.n) (kt:=3) (et:=63) (es:=kmap K) (u:=kv n.s.spot) (q:=1) ho (by simp [go_sem]) rfl tt214 rfl (by kernel_rfl) (by simp [go_sem]) (by simp [go_sem,g4,n1,n3,n4,show ¬ny=0 by omega]) (by simp [go_sem];rfl) (by simp [go_sem];kernel_rfl) (by simp [go_sem];exact k_tell _ _) (.inr (by simp [Instr.sameBits]))) (by simp) (fun q hq=>by rw [List.mem_singleton.1 hq];exact .inl (by kernel_rfl)) ?_
   refine K_run hB 100 ?_
   simp [go_sem,ht,hf',hkk,setM_k]
   refine Next.mk (k+1,kset n.s.spot (ny+1) K,_,ny+2) ?_ (Imp.slots (by simp [go_sem]) rfl rfl) (by simp only;omega)
   refine ⟨by simp only;omega,?_,by simp [oput,g3,n0,n4],by simp [oput],by simp only;omega⟩
   refine hadd _ (ny+2) (ny+1) ⟨by omega,by omega⟩ g5 (fun p hp hne=>?_) ?_
   ·obtain ⟨_,s2,s3⟩:=g2.rows p hp
    have:=g2.ne hp hmem hne
    simp only at this
    simp [oput,show ¬p.2=ny by omega,show ¬p.2=1 by omega,show ¬p.2=ny+1 by omega,this]
   ·simp [oput,nodesT,Node.t,show ¬ny=0 by omega]
 ·have:k=rest.length:=by omega
  subst this
  rw [List.take_length] at g2
  simp [go_sem,g3]
  have hok:∀(L:List Node),(∀n∈L,n∈rest)→∀n∈L,n.s.ok:=fun L h n hn=>(hrf n (h n hn)).ok
  refine K_loopP (α:=Nat×AV×List Node×(Nat→AObj)×Nat) (fun (i,A,out,τ',my)=>i≤x.stops.length∧(A= .fsl (nodesT out)∨∃q,A= .ref q∧τ' q= .arr 10 (nodesT out)∧ny≤q∧q<my)∧(out++((List.range x.stops.length).drop i).flatMap (oneAt rest)=R∧out.length≤kp+i)∧τ' 1= .map (kmap K)∧ny≤my∧∀p∈K,τ' p.2=τ p.2)
   (fun (i,A,out,τ',my)=>⟨sl [(9,A),(10,.mapr 1),(60,.i x.stops.length),(61,.i i)],τ',my⟩) (fun a=>x.stops.length-a.1) (0,.fsl (nodesT front),front,τ,ny) ?_ (Imp.slots (by simp [go_sem]) rfl rfl) ?_
  ·exact ⟨Nat.zero_le _,.inl rfl,⟨hR,hfl⟩,g4,Nat.le_refl _,fun p _=>rfl⟩
  rintro ⟨i,A,out,τ',my⟩ ⟨f1,f2,⟨f3,f3'⟩,f4,f5,f6⟩
  refine K_run hB 60 ?_
  simp [go_sem]
  refine fork_dec (fun hi=>?_) (fun hi=>?_)
  ·have hii:IntKind.i64.wrap ((i:Int)+1)=((i+1:Nat):Int):=by rw [w64 ((i:Int)+1) (by omega)];rfl
   rw [List.drop_eq_getElem_cons (by rw [List.length_range];exact hi),List.getElem_range,List.flatMap_cons,←List.append_assoc] at f3
   have hone:oneAt rest i=if (together (grp rest i)).2=true then [(together (grp rest i)).1] else []:=rfl
   have htg:=fun (τ2:Nat→AObj) (m2 q:Nat) (h1:q<m2) (h2:τ2 q= .arr 10 (nodesT (grp rest i)))=>together_spec (grp rest i) (Nat.lt_of_le_of_lt (List.length_filter_le _ _) (by omega)) (hok _ fun n hn=>(List.mem_filter.1 hn).1) (σ:=τ2) (nx:=m2) (r:=q) h1 h2
   simp [go_sem]
   refine K_lookup (kt:=3) (et:=63) (es:=kmap K) (u:=kv i) (m:=1) (r:=match kfind i K with | some r=>.ref r.2 | none=>.fsl []) rfl rfl (by simp [go_sem,hB]) tt214 rfl tt63 (by kernel_rfl) (by simp [go_sem]) (by simp [go_sem,f4]) (by simp [go_sem];rfl) (by simp [go_sem];kernel_rfl) (by simp [go_sem];exact k_tell _ _) ?_ ?_
   ·rw [lookA,findM_k]
    cases kfind i K with
    |none=>simp [go_sem]
    |some r=>simp
   refine K_impE (α:=Nat×(Nat→AObj)×Nat) (fun (q,τ2,m2)=>my≤m2∧q<m2∧τ2 q= .arr 10 (nodesT (grp rest i))∧∀j,j<my→τ2 j=τ' j) (fun (q,τ2,m2)=>⟨sl [(9,A),(10,.mapr 1),(60,.i x.stops.length),(61,.i i),(67,.ref q)],τ2,m2⟩) ?_ ?_
   ·cases hf:kfind i K with
    |none=>
     have hgr:grp rest i=[]:=g2.none _ (kfind_none hf)
     refine ⟨(my,_,my+1),⟨by omega,by omega,?_,?_⟩,(Imp.own (t:=67) (sz:=10) (by simp [go_sem])).trans (Imp.slots (by simp [go_sem]) rfl rfl)⟩
     ·rw [hgr];simp [oput,nodesT]
     ·intro j hj;simp [oput,show ¬j=my by omega]
    |some r=>
     obtain ⟨j,q⟩:=r
     obtain ⟨hj1,hj2⟩:=kfind_some hf
     have hmem:((i:Int),q)∈K:=hj2 ▸ List.getElem_mem hj1
     obtain ⟨r1,r2,r3⟩:=g2.rows _ hmem
     refine ⟨(q,_,my),⟨Nat.le_refl _,by simp only at r3 ⊢;omega,?_,fun _ _=>rfl⟩,Imp.slots (by simp [go_sem]) rfl rfl⟩
     exact (f6 _ hmem).trans r1
   rintro ⟨q,τ2,m2⟩ ⟨e1,e2,e3,e4⟩
   refine K_call rfl rfl rfl (args:=[.ref q]) (f:=127) (by simp [go_sem]) (by simp [go_sem,hB]) (htg _ _ _ e2 e3) ?_
   generalize together (grp rest i)=TG at *
   obtain ⟨tn,tb⟩:=TG
   have hcap1:1≤mostLen:=by decide
   have hcap2:(nodesT out).length+1≤mostLen:=by rw [nodesT,List.length_map];omega
   have m1:¬1=m2:=by omega
   have m0:¬1=m2+1:=by omega
   have hlow:∀j,ny≤j→j≠1:=fun j h=>by omega
   cases tb with
   |false=>
    rw [hone,if_neg (by simp),List.append_nil] at f3
    refine K_run hB 100 ?_
    simp [go_sem,Node.a,Node.cs,hii]
    refine Next.mk (i+1,A,out,_,m2+1) ?_ (Imp.slots (by simp [go_sem]) rfl rfl) (by simp only;omega)
    refine ⟨by simp only;omega,?_,⟨f3,by simp only;omega⟩,by simp [oput,m1,e4 1 (by omega),f4],by simp only;omega,?_⟩
    ·rcases f2 with f2 | ⟨q',f2,f7,f8,f9⟩
     ·exact .inl f2
     ·exact .inr ⟨q',f2,by simp [oput,show ¬q'=m2 by omega,e4 q' f9,f7],f8,by simp only;omega⟩
    ·intro a b hab
     have h1:=(g2.rows _ hab).2.2
     have h2:=f6 _ hab
     simp only at h1 h2
     simp [oput,show ¬b=m2 by omega,e4 b (by omega),h2]
   |true=>
    rw [hone,if_pos (by simp)] at f3
    simp only at f3
    have hsn:nodesT (out++[tn])=nodesT out++[tn.t]:=by simp [nodesT]
    rcases f2 with f2 | ⟨q',f2,f7,f8,f9⟩
    ·subst f2
     refine K_run hB 100 ?_
     simp [go_sem,Node.a,Node.cs,hcap1,hcap2,hii,if_pos (nodesT_len out)]
     refine Next.mk (i+1,.ref (m2+1),out++[tn],_,m2+2) ?_ (Imp.slots (by simp [go_sem]) rfl rfl) (by simp only;omega)
     refine ⟨by simp only;omega,.inr ⟨m2+1,rfl,?_,by omega,by simp only;omega⟩,⟨f3,by simp only [List.length_append,List.length_cons,List.length_nil];omega⟩,by simp [oput,m1,m0,e4 1 (by omega),f4,show ¬m2=0 by omega],by simp only;omega,?_⟩
     ·rw [hsn];simp [oput,Node.t]
     ·intro a b hab
      have h1:=(g2.rows _ hab).2.2
      have h2:=f6 _ hab
      simp only at h1 h2
      simp [oput,show ¬b=m2 by omega,show ¬b=m2+1 by omega,e4 b (by omega),h2]
    ·subst f2
     have hq1:¬q'=m2:=by omega
     have hq2:¬m2=q':=by omega
     have hq3:¬1=q':=by omega
     refine K_run hB 100 ?_
     simp [go_sem,Node.a,Node.cs,hcap1,hcap2,hii,hq1,e4 q' f9,f7]
     refine Next.mk (i+1,.ref (m2+1),out++[tn],_,m2+2) ?_ (Imp.slots (by simp [go_sem]) rfl rfl) (by simp only;omega)
     refine ⟨by simp only;omega,.inr ⟨m2+1,rfl,?_,by omega,by simp only;omega⟩,⟨f3,by simp only [List.length_append,List.length_cons,List.length_nil];omega⟩,by simp [oput,m1,m0,hq3,e4 1 (by omega),f4,show ¬m2=0 by omega],by simp only;omega,?_⟩
     ·rw [hsn];simp [oput,Node.t]
     ·intro a b hab
      have h1:=(g2.rows _ hab).2.2
      have h2:=f6 _ hab
      simp only at h1 h2
      simp [oput,show ¬b=m2 by omega,show ¬b=m2+1 by omega,show ¬b=q' by omega,e4 b (by omega),h2]
  ·have:i=x.stops.length:=by omega
   subst this
   rw [List.drop_of_length_le (by simp),List.flatMap_nil,List.append_nil] at f3
   subst f3
   rcases f2 with f2 | ⟨q',f2,f7,f8,f9⟩
   ·subst f2
    simp [go_sem]
   ·subst f2
    simp [go_sem,f7]
end Go.Proofs.YtnoifgjiipgpoaaGreat

set_option maxRecDepth 4000
set_option maxHeartbeats 1000000
namespace Go.Proofs.YtnoifgjiipgpoaaGreat
open Go Go.Proofs.YtnoifgjiipgpoaaGreat.R
theorem cloneN_spec (l:List Node) (hl:l.length<4294967296) (σ:Nat→AObj) (nx:Nat):CallSpec P 126 [.t (.sl (nodesT l))] σ nx (.ref nx) (oput σ nx (.arr 10 (nodesT l))) (nx+1):=by
 refine CallQ.spec (spec_of Tryz.func126 rfl rfl (by simp [Tryz.f126]) fun B hB hnx hσ=>K_after ?_)
 simp only [Tryz.f126] at hB ⊢
 have hil:(nodesT l).length=l.length:=List.length_map _
 have hne:nodesT l=[]↔l=[]:=by simp [nodesT]
 have h1:=nodesT_len l
 have hmost:l.length≤mostLen:=by show l.length≤4294967296;omega
 refine K_run hB 100 ?_
 simp [go_sem]
 refine K_nilEq (es:=nodesT l) rfl rfl (by simp [go_sem,hB]) tt63 rfl (by simp [go_sem]) fun b hb=>?_
 cases b with
 |true=>
  have e:l=[]:=Decidable.byContradiction fun h=>by have:=hb (fun h'=>h (hne.1 h'));cases this
  have e2:nodesT l=[]:=hne.2 e
  refine K_run hB 100 ?_
  simp [go_sem]
  refine ⟨_,fun a w hr=>rel_own (t:=2) (sz:=10) (by simp [go_sem]) hr,?_⟩
  simp [go_sem,e2]
 |false=>
  refine K_run hB 100 ?_
  simp [go_sem,hil,hne,hmost,if_pos h1]
  refine ⟨_,Imp.self,?_⟩
  simp [go_sem]
theorem ownN_pure (l:List Node) (hl:l.length<2^31) (hp:∀n∈l,n.path.length<2^31):Pure P 110 [.t (.sl (nodesT l))] (.t (.sl (nodesT l))):=by
 refine pure_of Tryz.func110 rfl rfl (by simp [Tryz.f110]) (by simp [bnd,bnd.bndL]) (by simp [bnd,bnd.bndL]) fun B hB hnx=>?_
 simp only [Tryz.f110] at hB ⊢
 have hil:(nodesT l).length=l.length:=List.length_map _
 have hgt:∀(k:Nat) (h:k<l.length),(nodesT l)[k]'(by rw [hil];exact h)=l[k].t:=fun k h=>nodesT_get l h
 refine K_run hB 100 ?_
 simp [go_sem]
 refine K_call rfl rfl rfl (args:=[.t (.sl (nodesT l))]) (f:=126) (by simp [go_sem]) (by simp [go_sem,hB]) (cloneN_spec l (by omega) _ _) ?_
 refine K_run hB 100 ?_
 simp [go_sem,hil]
 refine K_loopP (α:=Nat×(Nat→AObj)×Nat) (fun (k,τ,ny)=>k≤l.length∧τ 0= .arr 10 (nodesT l)∧0<ny) (fun (k,τ,ny)=>⟨sl [(0,.ref 0),(7,.ref 0),(8,.i l.length),(9,.i k)],τ,ny⟩) (fun a=>l.length-a.1) (0,_,1) ⟨Nat.zero_le _,by simp [oput],by omega⟩ (Imp.slots (by simp [go_sem]) rfl rfl) ?_
 rintro ⟨k,τ,ny⟩ ⟨g1,g2,g3⟩
 refine K_run hB 60 ?_
 simp [go_sem]
 refine fork_dec (fun hk=>?_) (fun hk=>?_)
 ·have hkk:IntKind.i64.wrap ((k:Int)+1)=((k+1:Nat):Int):=by rw [w64 ((k:Int)+1) (by omega)];rfl
  have hget:∀h:k<(nodesT l).length,(nodesT l)[k]'h=l[k].t:=fun h=>hgt k hk
  have hpk:=hp l[k] (List.getElem_mem _)
  have hset:∀y,y=l[k].t→(nodesT l).set k y=nodesT l:=fun y hy=>by
   subst hy
   refine List.ext_getElem (by simp) fun i h1 h2=>?_
   rw [List.getElem_set]
   split
   ·rename_i e;subst e;exact (hget h2).symm
   ·rfl
  generalize hm:l[k]=m at *
  have n0:¬0=ny:=by omega
  have q1:(k*10+9) / 10=k:=by omega
  have q2:(k*10+9) % 10=9:=by omega
  simp [go_sem,hil,hk,hget,Node.t,g2,n0]
  refine K_call rfl rfl rfl (args:=[.t (.sl (ints m.path))]) (f:=100) (by simp [go_sem]) (by simp [go_sem,hB]) (clone_spec m.path (by omega) _ _) ?_
  refine K_imp ((Imp.freeze (q:=ny+1) (sz:=1) (es:=ints m.path) (by simp [oput])).trans (Imp.slots (l:=[(0,.ref 0),(7,.ref 0),(8,.i l.length),(9,.i k),(14,.ref 0),(15,.i k),(18,.t (.sl (ints m.path)))]) (by simp [go_sem,frz1]) rfl rfl)) ?_
  have hfz:frzO (ny+1) (ints m.path) (.arr 10 (nodesT l))= .arr 10 (nodesT l):=rfl
  refine K_run hB 100 ?_
  simp [go_sem,g2,n0,hil,hk,hget,Node.t,q1,q2,hfz,hkk,show ¬ny=0 by omega]
  refine Next.mk (k+1,_,ny+2) ⟨by simp only;omega,?_,by simp only;omega⟩ (Imp.slots (by simp [go_sem]) rfl rfl) (by simp only;omega)
  simp only [oput,if_true]
  exact congrArg (AObj.arr 10) (hset _ rfl)
 ·have:k=l.length:=by omega
  subst this
  simp [go_sem,g2]
theorem over_spec (x:Inst) (w:Int) (l:List Node) {σ:Nat→AObj} {nx a b:Nat} (ha:a<nx) (hb:b<nx) (h1:σ a= .box x.cs) (h2:σ b= .box [.i w]):
  CallSpec P 108 [.t (.sl (nodesT l)),.ptr a 0,.ptr b 0] σ nx (.b (decide (x.mostN w<l.length))) σ nx:=by
 refine spec_keep Tryz.func108 rfl rfl (by simp [Tryz.f108]) (by simp [bnd]) fun hk B hB hnx hσB=>?_
 simp only [Tryz.f108] at hB ⊢
 have hm:=most_pure x w
 have hil:(nodesT l).length=l.length:=List.length_map _
 generalize x.mostN w=M at *
 refine K_run hB 100 ?_
 simp [go_sem,h1,h2,hil,Inst.cs]
 refine K_call rfl rfl rfl (args:=[x.a,.i w]) (f:=109) (by simp [go_sem,Inst.a]) (by simp [go_sem,hB]) ((hm).spec _ _) ?_
 refine K_run hB 100 ?_
 simp [go_sem]
end Go.Proofs.YtnoifgjiipgpoaaGreat

set_option maxRecDepth 4000
set_option maxHeartbeats 2000000
namespace Go.Proofs.YtnoifgjiipgpoaaGreat
open Go Go.Proofs.YtnoifgjiipgpoaaGreat.R
def lysT (ls:List (List Node)):List (List T):=ls.map fun l=>[.sl (nodesT l)]
def Diag.cs (d:Diag):List AV:=[.t (.sl (lysT d.layers)),.i d.low,.b d.exact,.i d.sure]
def Diag.a (d:Diag):AV:=.agg d.cs
structure WFine (l:List Node) (K:Nat):Prop where
 ok:∀n∈l,n.s.ok
 path:∀n∈l,n.path.length≤K
theorem WFine.next {x:Inst} {l:List Node} {K:Nat} (h:WFine l K) (up:Int):WFine (x.next l up) (K+1):=by
 refine ⟨?_,?_⟩<;>(intro m hm;obtain ⟨n,hn,j,hj,rfl,_⟩:=next_mem hm)
 ·exact move_ok x j (h.ok n hn)
 ·have:=h.path n hn
  show (n.path++[j]).length≤K+1
  rw [List.length_append]
  simp only [List.length_cons,List.length_nil]
  omega
theorem fold_ok:∀(l:List State) (s:State),s.ok→(∀t∈l,t.ok)→(l.foldl State.join s).ok
 |[],s,h,_=>h
 |t :: l,s,h,k=>fold_ok l (s.join t) (join_ok h (k t List.mem_cons_self)) fun u hu=>k u (List.mem_cons_of_mem _ hu)
theorem joinL_ok {l:List State} (h:∀t∈l,t.ok):(joinL l).1.ok:=by
 cases l with
 |nil=>exact State.zero_ok
 |cons s l=>
  rw [joinL]
  split
  ·exact State.zero_ok
  ·exact fold_ok l s (h s List.mem_cons_self) fun t ht=>h t (List.mem_cons_of_mem _ ht)
theorem WFine.squeeze {x:Inst} {l:List Node} {K:Nat} (h:WFine l K) (w:Int):WFine (x.squeeze l w) K:=by
 refine ⟨fun m hm=>?_,fun m hm=>?_⟩
 ·rcases squeeze_mem hm with hm | ⟨i,g,h1,h2,h3,rfl⟩
  ·exact h.ok m hm
  ·exact joinL_ok fun t ht=>by
    obtain ⟨q,hq,rfl⟩:=List.mem_map.1 ht
    exact h.ok q (h3 q hq).1
 ·rcases squeeze_mem hm with hm | ⟨i,g,h1,h2,h3,rfl⟩
  ·exact h.path m hm
  ·exact Nat.zero_le _
theorem deep_le (x:Inst):0≤x.deep∧x.deep≤39:=by
 unfold Inst.deep
 split
 ·rename_i hm
  obtain ⟨p,hx⟩:=x.fit hm
  have:=hx.pairs
  have:=hx.few
  have:=hx.cars
  omega
 ·omega
theorem next_few {x:Inst} {l:List Node} {up w:Int} (hw:w≤3000) (h:(x.next l up).length≤x.mostN w):(x.next l up).length≤3000:=by
 cases hm:x.may with
 |true=>
  obtain ⟨p,hx⟩:=x.fit hm
  have:=hx.len
  have:=hx.few
  unfold Inst.mostN at h
  omega
 |false=>
  have:x.next l up=[]:=by
   refine List.eq_nil_iff_forall_not_mem.2 fun m hm2=>?_
   obtain ⟨n,hn,j,hj,_⟩:=next_mem hm2
   have:=(move_may (moves_mem hj)).1
   rw [hm] at this;cases this
  rw [this];simp
theorem most_few {x:Inst} {l:List Node} {up w:Int} (hw:w≤3000) (h:x.mostN w<(x.next l up).length):x.mostN w≤3000:=by
 cases hm:x.may with
 |true=>
  obtain ⟨p,hx⟩:=x.fit hm
  have:=hx.len
  have:=hx.few
  unfold Inst.mostN
  omega
 |false=>
  have:x.next l up=[]:=by
   refine List.eq_nil_iff_forall_not_mem.2 fun m hm2=>?_
   obtain ⟨n,hn,j,hj,_⟩:=next_mem hm2
   have:=(move_may (moves_mem hj)).1
   rw [hm] at this;cases this
  rw [this] at h;simp at h
theorem build_pure (x:Inst) (n:Node) (w up:Int) (hl:x.stops.length<2^31) (hw:w≤3000) (ho:n.s.ok) (hp:n.path.length<2^29):Pure P 75 [x.a,n.a,.i w,.i up] ((x.build n w up).a):=by
 generalize hR:x.build n w up=R
 refine pure_of Tryz.func75 rfl rfl (by simp [Tryz.f75]) (by simp [bnd,bnd.bndL,Inst.a,Node.a,Node.cs]) (by simp [bnd,bnd.bndL,Diag.a,Diag.cs]) fun B hB hnx=>?_
 simp only [Tryz.f75] at hB ⊢
 have hdeep:=deep_pure x (by omega)
 have hdl:=deep_le x
 have hown:=ownN_pure [n] (by simp) (fun m hm=>by rw [List.mem_singleton.1 hm];omega)
 rw [Inst.build] at hR
 have hwd:IntKind.i64.wrap (x.deep-n.path.length)=x.deep-n.path.length:=w64 _ (by omega)
 generalize hdp:x.deep-(n.path.length:Int)=dp at *
 have hnl:(ints n.path).length=n.path.length:=List.length_map _
 refine K_run hB 100 ?_
 simp [go_sem,Inst.a,Node.a,Node.cs]
 refine K_scope ?_
 refine K_run hB 100 ?_
 simp [go_sem]
 refine K_drawn [] rfl (by rw [hB];kernel_rfl) ?_
 refine K_run hB 100 ?_
 simp [go_sem]
 refine K_dCallP rfl rfl rfl (args:=[x.a]) (f:=66) (by simp [go_sem,Inst.a]) (hdeep) ?_
 refine K_run hB 100 ?_
 simp [go_sem,hnl,hdp,hwd]
 refine K_call rfl rfl rfl (args:=[.fsl [n.t]]) (f:=110) (by simp [go_sem,Node.t]) (by simp [go_sem,hB]) ((Pure.loose hown (by simp [bnd])).spec _ _) ?_
 refine K_run hB 100 ?_
 simp [go_sem]
 refine K_less (Imp.ownB (b:=4) (off:=0) (sz:=1) (cs:=[.fsl [],.i up,.b true,.i 0]) (by simp [oput]) rfl) ?_
 refine K_loopP (α:=Nat×List (List Node)×Int×Option Nat×List Node×Nat×(Nat→AObj)×Nat) (fun (f,ls,low,sq,l,q,τ,ny)=>x.buildGo w up dp f ls low sq l=R∧(f:Int)+ls.length≥dp+2∧((ls.length:Int)≤dp∨ls=[])∧1≤f∧WFine l (n.path.length+ls.length)∧l.length≤3000∧τ 0= .box x.cs∧τ 2= .box [.i w]∧τ 3= .box [.fsl [],.i 0,.b false,.i 0]∧τ 4= .box [.ref q,.i low,.b sq.isNone,.i (sq.getD 0:Nat)]∧τ q= .arr 1 (lysT ls)∧4<q∧q<ny)
  (fun (f,ls,low,sq,l,q,τ,ny)=>⟨sl [(3,.i up),(4,.ptr 0 0),(6,.ptr 2 0),(8,.ptr 3 0),(9,.ptr 4 0),(10,.fn (.func 108) [] [.ptr 0 0,.ptr 2 0]),(11,.i dp),(12,.t (.sl (nodesT l)))],τ,ny⟩) (fun a=>a.1) (dp.toNat+2,[],up,none,[n],5,_,6) ?_ (Imp.slots (by simp [go_sem]) rfl rfl) ?_
 ·refine ⟨hR,by simp only [List.length_nil];omega,.inr rfl,by omega,⟨fun m hm=>by rw [List.mem_singleton.1 hm];exact ho,fun m hm=>by rw [List.mem_singleton.1 hm];omega⟩,by simp,by simp [oput,Inst.cs],by simp [oput],by simp [oput],by simp [oput,setCells],by simp [oput,lysT],by omega,by omega⟩
 clear hR
 rintro ⟨f,ls,low,sq,l,q,τ,ny⟩ ⟨hR,g1,g2,g3,g4,g5,h0,h2,h3,h4,h5,h6,h7⟩
 obtain ⟨f,rfl⟩:∃f',f=f'+1:=⟨f-1,by omega⟩
 have hil:(nodesT l).length=l.length:=List.length_map _
 have hyl:(lysT ls).length=ls.length:=List.length_map _
 have hls:ls.length≤40:=by
  rcases g2 with g2 | g2
  ·omega
  ·rw [g2];simp
 have n0:¬0=ny:=by omega
 have n2:¬2=ny:=by omega
 have n3:¬3=ny:=by omega
 have n4:¬4=ny:=by omega
 have n5:¬q=3:=by omega
 have n6:¬q=4:=by omega
 rw [Inst.buildGo] at hR
 by_cases c0:l=[]
 ·rw [if_pos c0] at hR
  subst hR
  have c0':l.length=0:=by rw [c0];rfl
  cases sq with
  |none=>
   refine K_run hB 60 ?_
   simp [go_sem,hil,c0',h4,h5,hyl,n5,n6,h3]
   rfl
  |some k=>
   refine K_run hB 60 ?_
   simp [go_sem,hil,c0',h4,h5,hyl,n5,n6,h3]
   rfl
 rw [if_neg c0] at hR
 have c0':0<l.length:=List.length_pos_iff.2 c0
 have hx:=expand_pure x l up hl (by omega) (fun m h=>⟨g4.ok m h,by have:=g4.path m h;omega⟩) (fun m h=>by have:=g4.path m h;omega)
 have hnw:=g4.next (x:=x) up
 have hsn:lysT ls++[[.sl (nodesT l)]]=lysT (ls++[l]):=by simp [lysT]
 have hcap:ls.length+1≤mostLen:=by show _≤4294967296;omega
 have hsl:(lysT (ls++[l])).length=ls.length+1:=by rw [lysT,List.length_map];simp
 have n7:¬4=q:=by omega
 have n8:¬0=q:=by omega
 have n9:¬2=q:=by omega
 have na:¬3=q:=by omega
 generalize x.bests l=Bs at *
 obtain ⟨b,is⟩:=Bs
 have hqs:=squeeze_pure x (x.next l up) w hl (by have:=next_len x l up;omega) (fun m h=>⟨hnw.ok m h,by have:=hnw.path m h;omega⟩)
 have hnf:=next_few (x:=x) (l:=l) (up:=up) hw
 have hmf:=most_few (x:=x) (l:=l) (up:=up) hw
 have hsq:=squeeze_len x (x.next l up) w
 have hsw:=hnw.squeeze (x:=x) w
 generalize x.squeeze (x.next l up) w=Q at *
 generalize x.next l up=M at *
 refine K_run hB 60 ?_
 simp [go_sem,hil,c0',h4,h5,hyl,hsn,hcap,n0,n2,n3,n4,n6,n7,n8,n9,na,h0,Inst.cs]
 refine K_run hB 100 ?_
 simp [go_sem,hil,c0',h4,h5,hyl,hsn,hcap,n0,n2,n3,n4,n6,n7,n8,n9,na,h0,Inst.cs]
 refine K_call rfl rfl rfl (args:=[x.a,.t (.sl (nodesT l)),.i up]) (f:=73) (by simp [go_sem,Inst.a]) (by simp [go_sem,hB]) ((hx).spec _ _) ?_
 have b0:¬ny=0:=by omega
 have b1:¬ny+1=0:=by omega
 have b2:¬ny=1:=by omega
 have b3:¬ny=2:=by omega
 have b4:¬ny=3:=by omega
 have b5:¬ny=4:=by omega
 have b6:¬4=ny+1:=by omega
 have hov:=fun (τ':Nat→AObj) (e1:τ' 0= .box x.cs) (e2:τ' 2= .box [.i w])=>over_spec x w M (σ:=τ') (nx:=ny+2) (a:=0) (b:=2) (by omega) (by omega) e1 e2
 have hwQ:WFine Q (n.path.length+(ls++[l]).length):=by rw [List.length_append];exact hsw
 have hwM:WFine M (n.path.length+(ls++[l]).length):=by rw [List.length_append];exact hnw
 cases is with
 |false=>
  have hlw:lowB low (b,false)=low:=rfl
  rw [hlw] at hR
  by_cases c1:dp<(ls.length:Int)+1
  ·rw [if_pos (by omega)] at hR
   subst hR
   cases sq with
   |none=>
    refine K_run hB 100 ?_
    simp [go_sem,expRes,Node.a,Node.cs,h0,h2,h3,h4,h5,n0,n2,n3,n4,n5,n6,n7,n8,n9,na,b0,b1,b2,b3,b4,b5,b6,hsl,Inst.cs,c1]
    simp [Diag.of,Diag.a,Diag.cs]
   |some k=>
    refine K_run hB 100 ?_
    simp [go_sem,expRes,Node.a,Node.cs,h0,h2,h3,h4,h5,n0,n2,n3,n4,n5,n6,n7,n8,n9,na,b0,b1,b2,b3,b4,b5,b6,hsl,Inst.cs,c1]
    rfl
  rw [if_neg (by omega)] at hR
  refine K_run hB 100 ?_
  simp [go_sem,expRes,Node.a,Node.cs,h0,h2,h3,h4,h5,n0,n2,n3,n4,n5,n6,n7,n8,n9,na,b0,b1,b2,b3,b4,b5,b6,hsl,Inst.cs,c1]
  refine K_call rfl rfl rfl (args:=[.t (.sl (nodesT M)),.ptr 0 0,.ptr 2 0]) (f:=108) (by simp [go_sem]) (by simp [go_sem,hB]) (hov _ (by simp [oput,h0,n0,n8,b0,b1,Inst.cs]) (by simp [oput,h2,n2,n9,b1,b2,b3])) ?_
  by_cases c2:x.mostN w<M.length
  ·rw [if_pos c2] at hR
   refine K_run hB 100 ?_
   simp [go_sem,expRes,Node.a,Node.cs,h0,h2,h3,h4,h5,n0,n2,n3,n4,n5,n6,n7,n8,n9,na,b0,b1,b2,b3,b4,b5,b6,hsl,Inst.cs,c2]
   refine K_call rfl rfl rfl (args:=[x.a,.t (.sl (nodesT M)),.i w]) (f:=111) (by simp [go_sem,Inst.a]) (by simp [go_sem,hB]) ((hqs).spec _ _) ?_
   cases sq with
   |none=>
    refine K_run hB 100 ?_
    simp [go_sem,expRes,Node.a,Node.cs,h0,h2,h3,h4,h5,n0,n2,n3,n4,n5,n6,n7,n8,n9,na,b0,b1,b2,b3,b4,b5,b6,hsl,Inst.cs]
    refine Next.mk (f,ls++[l],low,some (ls.length+1),Q,ny,_,ny+2) ?_ (Imp.slots (by simp [go_sem]) rfl rfl) (by simp only;omega)
    exact ⟨hR,by simp only [List.length_append,List.length_cons,List.length_nil];omega,.inl (by simp only [List.length_append,List.length_cons,List.length_nil];omega),by simp only;omega,hwQ,(by have:=hmf c2;simp only;omega),by simp [oput,h0,h2,h3,h4,n0,n2,n3,n4,n7,n8,n9,na,b0,b1,b2,b3,b4,b5,b6,Inst.cs],by simp [oput,h0,h2,h3,h4,n0,n2,n3,n4,n7,n8,n9,na,b0,b1,b2,b3,b4,b5,b6,Inst.cs],by simp [oput,h0,h2,h3,h4,n0,n2,n3,n4,n7,n8,n9,na,b0,b1,b2,b3,b4,b5,b6,Inst.cs],by simp [oput,h0,h2,h3,h4,n0,n2,n3,n4,n7,n8,n9,na,b0,b1,b2,b3,b4,b5,b6,Inst.cs],by simp [oput,h0,h2,h3,h4,n0,n2,n3,n4,n7,n8,n9,na,b0,b1,b2,b3,b4,b5,b6,Inst.cs],by simp only;omega,by simp only;omega⟩
   |some k=>
    refine K_run hB 100 ?_
    simp [go_sem,expRes,Node.a,Node.cs,h0,h2,h3,h4,h5,n0,n2,n3,n4,n5,n6,n7,n8,n9,na,b0,b1,b2,b3,b4,b5,b6,hsl,Inst.cs]
    refine Next.mk (f,ls++[l],low,some k,Q,ny,_,ny+2) ?_ (Imp.slots (by simp [go_sem]) rfl rfl) (by simp only;omega)
    exact ⟨hR,by simp only [List.length_append,List.length_cons,List.length_nil];omega,.inl (by simp only [List.length_append,List.length_cons,List.length_nil];omega),by simp only;omega,hwQ,(by have:=hmf c2;simp only;omega),by simp [oput,h0,h2,h3,h4,n0,n2,n3,n4,n7,n8,n9,na,b0,b1,b2,b3,b4,b5,b6,Inst.cs],by simp [oput,h0,h2,h3,h4,n0,n2,n3,n4,n7,n8,n9,na,b0,b1,b2,b3,b4,b5,b6,Inst.cs],by simp [oput,h0,h2,h3,h4,n0,n2,n3,n4,n7,n8,n9,na,b0,b1,b2,b3,b4,b5,b6,Inst.cs],by simp [oput,h0,h2,h3,h4,n0,n2,n3,n4,n7,n8,n9,na,b0,b1,b2,b3,b4,b5,b6,Inst.cs],by simp [oput,h0,h2,h3,h4,n0,n2,n3,n4,n7,n8,n9,na,b0,b1,b2,b3,b4,b5,b6,Inst.cs],by simp only;omega,by simp only;omega⟩
  ·rw [if_neg c2] at hR
   refine K_run hB 100 ?_
   simp [go_sem,expRes,Node.a,Node.cs,h0,h2,h3,h4,h5,n0,n2,n3,n4,n5,n6,n7,n8,n9,na,b0,b1,b2,b3,b4,b5,b6,hsl,Inst.cs,c2]
   refine Next.mk (f,ls++[l],low,sq,M,ny,_,ny+2) ?_ (Imp.slots (by simp [go_sem]) rfl rfl) (by simp only;omega)
   exact ⟨hR,by simp only [List.length_append,List.length_cons,List.length_nil];omega,.inl (by simp only [List.length_append,List.length_cons,List.length_nil];omega),by simp only;omega,hwM,(hnf (by omega)),by simp [oput,h0,h2,h3,h4,n0,n2,n3,n4,n7,n8,n9,na,b0,b1,b2,b3,b4,b5,b6,Inst.cs],by simp [oput,h0,h2,h3,h4,n0,n2,n3,n4,n7,n8,n9,na,b0,b1,b2,b3,b4,b5,b6,Inst.cs],by simp [oput,h0,h2,h3,h4,n0,n2,n3,n4,n7,n8,n9,na,b0,b1,b2,b3,b4,b5,b6,Inst.cs],by simp [oput,h0,h2,h3,h4,n0,n2,n3,n4,n7,n8,n9,na,b0,b1,b2,b3,b4,b5,b6,Inst.cs],by simp [oput,h0,h2,h3,h4,n0,n2,n3,n4,n7,n8,n9,na,b0,b1,b2,b3,b4,b5,b6,Inst.cs],by simp only;omega,by simp only;omega⟩
 |true=>
  have hlw:lowB low (b,true)=min low b.cost:=rfl
  rw [hlw] at hR
  by_cases c1:dp<(ls.length:Int)+1
  ·rw [if_pos (by omega)] at hR
   subst hR
   cases sq with
   |none=>
    refine K_run hB 100 ?_
    simp [go_sem,expRes,Node.a,Node.cs,h0,h2,h3,h4,h5,n0,n2,n3,n4,n5,n6,n7,n8,n9,na,b0,b1,b2,b3,b4,b5,b6,hsl,Inst.cs,c1]
    simp [Diag.of,Diag.a,Diag.cs]
   |some k=>
    refine K_run hB 100 ?_
    simp [go_sem,expRes,Node.a,Node.cs,h0,h2,h3,h4,h5,n0,n2,n3,n4,n5,n6,n7,n8,n9,na,b0,b1,b2,b3,b4,b5,b6,hsl,Inst.cs,c1]
    rfl
  rw [if_neg (by omega)] at hR
  refine K_run hB 100 ?_
  simp [go_sem,expRes,Node.a,Node.cs,h0,h2,h3,h4,h5,n0,n2,n3,n4,n5,n6,n7,n8,n9,na,b0,b1,b2,b3,b4,b5,b6,hsl,Inst.cs,c1]
  refine K_call rfl rfl rfl (args:=[.t (.sl (nodesT M)),.ptr 0 0,.ptr 2 0]) (f:=108) (by simp [go_sem]) (by simp [go_sem,hB]) (hov _ (by simp [oput,h0,n0,n8,b0,b1,Inst.cs]) (by simp [oput,h2,n2,n9,b1,b2,b3])) ?_
  by_cases c2:x.mostN w<M.length
  ·rw [if_pos c2] at hR
   refine K_run hB 100 ?_
   simp [go_sem,expRes,Node.a,Node.cs,h0,h2,h3,h4,h5,n0,n2,n3,n4,n5,n6,n7,n8,n9,na,b0,b1,b2,b3,b4,b5,b6,hsl,Inst.cs,c2]
   refine K_call rfl rfl rfl (args:=[x.a,.t (.sl (nodesT M)),.i w]) (f:=111) (by simp [go_sem,Inst.a]) (by simp [go_sem,hB]) ((hqs).spec _ _) ?_
   cases sq with
   |none=>
    refine K_run hB 100 ?_
    simp [go_sem,expRes,Node.a,Node.cs,h0,h2,h3,h4,h5,n0,n2,n3,n4,n5,n6,n7,n8,n9,na,b0,b1,b2,b3,b4,b5,b6,hsl,Inst.cs]
    refine Next.mk (f,ls++[l],min low b.cost,some (ls.length+1),Q,ny,_,ny+2) ?_ (Imp.slots (by simp [go_sem]) rfl rfl) (by simp only;omega)
    exact ⟨hR,by simp only [List.length_append,List.length_cons,List.length_nil];omega,.inl (by simp only [List.length_append,List.length_cons,List.length_nil];omega),by simp only;omega,hwQ,(by have:=hmf c2;simp only;omega),by simp [oput,h0,h2,h3,h4,n0,n2,n3,n4,n7,n8,n9,na,b0,b1,b2,b3,b4,b5,b6,Inst.cs],by simp [oput,h0,h2,h3,h4,n0,n2,n3,n4,n7,n8,n9,na,b0,b1,b2,b3,b4,b5,b6,Inst.cs],by simp [oput,h0,h2,h3,h4,n0,n2,n3,n4,n7,n8,n9,na,b0,b1,b2,b3,b4,b5,b6,Inst.cs],by simp [oput,h0,h2,h3,h4,n0,n2,n3,n4,n7,n8,n9,na,b0,b1,b2,b3,b4,b5,b6,Inst.cs],by simp [oput,h0,h2,h3,h4,n0,n2,n3,n4,n7,n8,n9,na,b0,b1,b2,b3,b4,b5,b6,Inst.cs],by simp only;omega,by simp only;omega⟩
   |some k=>
    refine K_run hB 100 ?_
    simp [go_sem,expRes,Node.a,Node.cs,h0,h2,h3,h4,h5,n0,n2,n3,n4,n5,n6,n7,n8,n9,na,b0,b1,b2,b3,b4,b5,b6,hsl,Inst.cs]
    refine Next.mk (f,ls++[l],min low b.cost,some k,Q,ny,_,ny+2) ?_ (Imp.slots (by simp [go_sem]) rfl rfl) (by simp only;omega)
    exact ⟨hR,by simp only [List.length_append,List.length_cons,List.length_nil];omega,.inl (by simp only [List.length_append,List.length_cons,List.length_nil];omega),by simp only;omega,hwQ,(by have:=hmf c2;simp only;omega),by simp [oput,h0,h2,h3,h4,n0,n2,n3,n4,n7,n8,n9,na,b0,b1,b2,b3,b4,b5,b6,Inst.cs],by simp [oput,h0,h2,h3,h4,n0,n2,n3,n4,n7,n8,n9,na,b0,b1,b2,b3,b4,b5,b6,Inst.cs],by simp [oput,h0,h2,h3,h4,n0,n2,n3,n4,n7,n8,n9,na,b0,b1,b2,b3,b4,b5,b6,Inst.cs],by simp [oput,h0,h2,h3,h4,n0,n2,n3,n4,n7,n8,n9,na,b0,b1,b2,b3,b4,b5,b6,Inst.cs],by simp [oput,h0,h2,h3,h4,n0,n2,n3,n4,n7,n8,n9,na,b0,b1,b2,b3,b4,b5,b6,Inst.cs],by simp only;omega,by simp only;omega⟩
  ·rw [if_neg c2] at hR
   refine K_run hB 100 ?_
   simp [go_sem,expRes,Node.a,Node.cs,h0,h2,h3,h4,h5,n0,n2,n3,n4,n5,n6,n7,n8,n9,na,b0,b1,b2,b3,b4,b5,b6,hsl,Inst.cs,c2]
   refine Next.mk (f,ls++[l],min low b.cost,sq,M,ny,_,ny+2) ?_ (Imp.slots (by simp [go_sem]) rfl rfl) (by simp only;omega)
   exact ⟨hR,by simp only [List.length_append,List.length_cons,List.length_nil];omega,.inl (by simp only [List.length_append,List.length_cons,List.length_nil];omega),by simp only;omega,hwM,(hnf (by omega)),by simp [oput,h0,h2,h3,h4,n0,n2,n3,n4,n7,n8,n9,na,b0,b1,b2,b3,b4,b5,b6,Inst.cs],by simp [oput,h0,h2,h3,h4,n0,n2,n3,n4,n7,n8,n9,na,b0,b1,b2,b3,b4,b5,b6,Inst.cs],by simp [oput,h0,h2,h3,h4,n0,n2,n3,n4,n7,n8,n9,na,b0,b1,b2,b3,b4,b5,b6,Inst.cs],by simp [oput,h0,h2,h3,h4,n0,n2,n3,n4,n7,n8,n9,na,b0,b1,b2,b3,b4,b5,b6,Inst.cs],by simp [oput,h0,h2,h3,h4,n0,n2,n3,n4,n7,n8,n9,na,b0,b1,b2,b3,b4,b5,b6,Inst.cs],by simp only;omega,by simp only;omega⟩
end Go.Proofs.YtnoifgjiipgpoaaGreat
