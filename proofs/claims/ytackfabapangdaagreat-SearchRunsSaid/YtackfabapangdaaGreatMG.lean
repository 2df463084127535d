/- Parts of the proof: Law14, OnceP, FrontP, Front, Front2, Front3, Sorted, SortedR, KeepsP, ExactP, Narrow, ExactQ, Ways, Find, Pot, Look, Best, Law15, NarrowP, Deep, WideP, WideQ, Sched, Sched2, Sched3, PlanC, Split. -/
import Derived.Test.YtackfabapangdaaGreatMF
set_option linter.all false
set_option maxHeartbeats 4000000
set_option maxRecDepth 4000
namespace Go.Proofs.YtackfabapangdaaGreat
open Go Go.Proofs.YtackfabapangdaaGreat.R
theorem once1_mem {out:List Node} {n m:Node} (h:m∈once1 out n):m∈out∨m=n:=by
 unfold once1 at h
 split at h
 ·rcases List.mem_append.1 h with h | h
  ·exact .inl h
  ·exact .inr (List.mem_singleton.1 h)
 ·split at h
  ·exact List.mem_or_eq_of_mem_set h
  ·exact .inl h
theorem fold_mem:∀(l out:List Node) {m:Node},m∈l.foldl once1 out→m∈out∨m∈l
 |[],out,m,h=>.inl h
 |n :: l,out,m,h=>by
  rcases fold_mem l (once1 out n) h with h | h
  ·rcases once1_mem h with h | rfl
   ·exact .inl h
   ·exact .inr List.mem_cons_self
  ·exact .inr (List.mem_cons_of_mem _ h)
theorem onceL_mem {l:List Node} {m:Node} (h:m∈onceL l):m∈l:=(fold_mem l [] h).resolve_left (by simp)
theorem fold_len:∀(l out:List Node),(l.foldl once1 out).length≤out.length+l.length
 |[],out=>Nat.le_refl _
 |n :: l,out=>by
  have h1:=fold_len l (once1 out n)
  have h2:=once1_len out n
  simp only [List.foldl_cons,List.length_cons]
  omega
theorem onceL_len (l:List Node):(onceL l).length≤l.length:=by
 have:=fold_len l []
 simpa [onceL] using this
theorem flat_len {α β:Type} (f:α→List β) (k:Nat) (h:∀a,(f a).length≤k):∀l:List α,(l.flatMap f).length≤k*l.length
 |[]=>by simp
 |a :: l=>by
  have h1:=h a
  have h2:=flat_len f k h l
  rw [List.flatMap_cons,List.length_append,List.length_cons,Nat.mul_add]
  omega
theorem next_len (x:Inst) (l:List Node) (up:Int):(x.next l up).length≤33*l.length:=
 Nat.le_trans (onceL_len _) (flat_len _ 33 (kids_33 x up) l)
theorem next_mem {x:Inst} {l:List Node} {up:Int} {m:Node} (h:m∈x.next l up):∃n∈l,∃j∈x.moves n.s,m=x.child n j∧x.of m<up:=by
 obtain ⟨n,hn,hc⟩:=List.mem_flatMap.1 (onceL_mem h)
 obtain ⟨hc,hu⟩:=List.mem_filter.1 hc
 obtain ⟨j,hj,rfl⟩:=List.mem_map.1 hc
 exact ⟨n,hn,j,hj,rfl,by simpa using hu⟩
theorem best_path (x:Inst) (k:Nat):∀(l:List Node) (b:Node×Bool),(∀n∈l,n.path.length≤k)→b.1.path.length≤k→(l.foldl x.best1 b).1.path.length≤k
 |[],b,h,hb=>hb
 |n :: l,b,h,hb=>by
  refine best_path x k l _ (fun m hm=>h m (List.mem_cons_of_mem _ hm)) ?_
  unfold Inst.best1
  split
  ·exact h n List.mem_cons_self
  ·exact hb
theorem bests_path {x:Inst} {k:Nat} {l:List Node} (h:∀n∈l,n.path.length≤k):(x.bests l).1.path.length≤k:=best_path x k l _ h (Nat.zero_le _)
end Go.Proofs.YtackfabapangdaaGreat

set_option maxRecDepth 4000
namespace Go.Proofs.YtackfabapangdaaGreat
open Go Go.Proofs.YtackfabapangdaaGreat.R
theorem fold_nodup:∀(l out:List Node),(out.map Node.s).Nodup→((l.foldl once1 out).map Node.s).Nodup
 |[],_,h=>h
 |n :: l,out,h=>fold_nodup l _ (once1_nodup h n)
theorem onceL_nodup (l:List Node):((onceL l).map Node.s).Nodup:=fold_nodup l [] (by simp)
theorem once1_self (out:List Node) (n:Node):∃m∈once1 out n,m.s=n.s∧m.cost≤n.cost:=by
 unfold once1
 split
 ·exact ⟨n,by simp,rfl,Int.le_refl _⟩
 ·rename_i i e
  obtain ⟨h1,h2⟩:=sIdx_some e
  have hgd:out.getD i n=out[i]:=by rw [List.getD_eq_getElem?_getD,List.getElem?_eq_getElem h1];rfl
  rw [hgd]
  split
  ·exact ⟨n,List.mem_set h1 n,rfl,Int.le_refl _⟩
  ·exact ⟨out[i],List.getElem_mem h1,h2,by omega⟩
theorem once1_has (out:List Node) (n k:Node) (h:∃m∈out,m.s=k.s∧m.cost≤k.cost):∃m∈once1 out n,m.s=k.s∧m.cost≤k.cost:=by
 obtain ⟨m,hm,h1,h2⟩:=h
 unfold once1
 split
 ·exact ⟨m,List.mem_append_left _ hm,h1,h2⟩
 ·rename_i i e
  obtain ⟨h3,h4⟩:=sIdx_some e
  have hgd:out.getD i n=out[i]:=by rw [List.getD_eq_getElem?_getD,List.getElem?_eq_getElem h3];rfl
  rw [hgd]
  split
  ·rename_i hc
   obtain ⟨j,hj,rfl⟩:=List.mem_iff_getElem.1 hm
   by_cases e2:i=j
   ·subst e2
    exact ⟨n,List.mem_set h3 n,by rw [←h4,h1],by omega⟩
   ·refine ⟨out[j],?_,h1,h2⟩
    rw [List.mem_iff_getElem]
    exact ⟨j,by simpa using hj,by rw [List.getElem_set_ne e2]⟩
  ·exact ⟨m,hm,h1,h2⟩
theorem fold_has:∀(l out:List Node) (k:Node),(k∈l∨∃m∈out,m.s=k.s∧m.cost≤k.cost)→∃m∈l.foldl once1 out,m.s=k.s∧m.cost≤k.cost
 |[],out,k,h=>h.resolve_left (by simp)
 |n :: l,out,k,h=>by
  refine fold_has l (once1 out n) k ?_
  rcases h with h | h
  ·rcases List.mem_cons.1 h with rfl | h
   ·exact .inr (once1_self out k)
   ·exact .inl h
  ·exact .inr (once1_has out n k h)
theorem onceL_has {l:List Node} {k:Node} (h:k∈l):∃m∈onceL l,m.s=k.s∧m.cost≤k.cost:=fold_has l [] k (.inl h)
theorem nodup_len {α:Type} [DecidableEq α]:∀(l m:List α),l.Nodup→(∀a∈l,a∈m)→l.length≤m.length
 |[],m,_,_=>Nat.zero_le _
 |a :: l,m,h,hs=>by
  rw [List.nodup_cons] at h
  have ha:=hs a List.mem_cons_self
  have:=nodup_len l (m.erase a) h.2 fun b hb=>by
   have:b≠a:=fun e=>h.1 (e ▸ hb)
   exact (List.mem_erase_of_ne this).2 (hs b (List.mem_cons_of_mem _ hb))
  rw [List.length_erase_of_mem ha] at this
  have:=List.length_pos_of_mem ha
  rw [List.length_cons]
  omega
end Go.Proofs.YtackfabapangdaaGreat

set_option maxRecDepth 4000
namespace Go.Proofs.YtackfabapangdaaGreat
open Go Go.Proofs.YtackfabapangdaaGreat.R
theorem within_refl (s:Nat):withinB s s=true:=by
 rw [withinB,List.all_eq_true]
 intro i _
 cases s.testBit i<;>rfl
theorem within_trans {s t u:Nat} (h1:withinB s t=true) (h2:withinB t u=true):withinB s u=true:=by
 rw [withinB,List.all_eq_true] at *
 intro i hi
 have a:=h1 i hi
 have b:=h2 i hi
 revert a b
 cases s.testBit i<;>cases t.testBit i<;>cases u.testBit i<;>simp
def Node.than (a b:Node):Bool:=decide (a.cost≤b.cost)&&(decide (a.s.must=b.s.must)&&decide (a.s.can=b.s.can)&&decide (a.s.on=b.s.on))&&coversB a.s b.s
theorem covers_refl (s:State):coversB s s=true:=by
 simp [coversB,within_refl]
theorem covers_trans {a b c:State} (h1:coversB a b=true) (h2:coversB b c=true):coversB a c=true:=by
 simp only [coversB,Bool.and_eq_true,decide_eq_true_eq] at *
 obtain ⟨⟨⟨⟨⟨⟨⟨a1,a2⟩,a3⟩,a4⟩,a5⟩,a6⟩,a7⟩,a8⟩:=h1
 obtain ⟨⟨⟨⟨⟨⟨⟨b1,b2⟩,b3⟩,b4⟩,b5⟩,b6⟩,b7⟩,b8⟩:=h2
 exact ⟨⟨⟨⟨⟨⟨⟨a1.trans b1,within_trans a2 b2⟩,within_trans a3 b3⟩,within_trans b4 a4⟩,by omega⟩,by omega⟩,by omega⟩,by omega⟩
theorem than_refl (a:Node):a.than a=true:=by simp [Node.than,covers_refl]
theorem than_trans {a b c:Node} (h1:a.than b=true) (h2:b.than c=true):a.than c=true:=by
 simp only [Node.than,Bool.and_eq_true,decide_eq_true_eq] at *
 obtain ⟨⟨a1,⟨a2,a3⟩,a4⟩,a5⟩:=h1
 obtain ⟨⟨b1,⟨b2,b3⟩,b4⟩,b5⟩:=h2
 exact ⟨⟨by omega,⟨by omega,by omega⟩,by omega⟩,covers_trans a5 b5⟩
def front1 (out:List Node) (b:Node):List Node:=if out.any (fun a=>a.than b)=true then out else (out.filter fun a=>!b.than a)++[b]
def frontL (l:List Node):List Node:=l.foldl front1 []
def blk (pre:List Node) (b:Node) (post:List Node):Bool:=pre.any (fun a=>a.than b)||post.any fun c=>c.than b&& !b.than c
def frR (pre:List Node):List Node→List Node→List Node
 |[],_=>[]
 |b :: l,post=>(if blk pre b (l++post)=true then [] else [b])++frR (pre++[b]) l post
theorem frR_post (c:Node):∀(l pre:List Node),frR pre l [c]=(frR pre l []).filter fun b=>!(c.than b&& !b.than c)
 |[],pre=>rfl
 |b :: l,pre=>by
  rw [frR,frR,List.filter_append,frR_post c l]
  congr 1
  have:blk pre b (l++[c])=(blk pre b (l++[])||(c.than b&& !b.than c)):=by
   simp [blk,Bool.or_assoc]
  rw [this]
  generalize hq:(c.than b&& !b.than c)=q
  cases blk pre b (l++[])<;>cases q<;>simp only [Bool.or_true,Bool.or_false,Bool.false_eq_true,if_true,if_false,List.filter_cons,List.filter_nil,hq,Bool.not_true,Bool.not_false]
theorem frR_app (c:Node):∀(l pre:List Node),frR pre (l++[c]) []=frR pre l [c]++(if (pre++l).any (fun a=>a.than c)=true then [] else [c])
 |[],pre=>by simp [frR,blk]
 |b :: l,pre=>by
  rw [List.cons_append,frR,frR,frR_app c l,List.append_nil,List.append_assoc,List.append_assoc]
  simp
structure FrInv (pre F:List Node):Prop where
 up:∀a∈pre,∃f∈F,f.than a=true
 sub:∀f∈F,f∈pre
 one:∀f∈F,∀b∈F,f.than b=true→f=b
 eq:F=frR [] pre []
theorem FrInv.step {pre F:List Node} (h:FrInv pre F) (c:Node):FrInv (pre++[c]) (front1 F c):=by
 have hany:pre.any (fun a=>a.than c)=F.any fun a=>a.than c:=by
  rw [Bool.eq_iff_iff,List.any_eq_true,List.any_eq_true]
  constructor
  ·rintro ⟨a,ha,hc⟩
   obtain ⟨f,hf,hfa⟩:=h.up a ha
   exact ⟨f,hf,than_trans hfa hc⟩
  ·rintro ⟨f,hf,hc⟩
   exact ⟨f,h.sub f hf,hc⟩
 have he:frR [] (pre++[c]) []=front1 F c:=by
  rw [frR_app,frR_post,←h.eq,List.nil_append,hany]
  unfold front1
  by_cases hc:F.any (fun a=>a.than c)=true
  ·rw [if_pos hc,if_pos hc,List.append_nil]
   rw [List.filter_eq_self]
   intro b hb
   rw [List.any_eq_true] at hc
   obtain ⟨f,hf,hfc⟩:=hc
   cases h1:c.than b with
   |false=>rfl
   |true=>
    have:=h.one f hf b hb (than_trans hfc h1)
    subst this
    simp [hfc]
  ·rw [if_neg hc,if_neg hc]
   congr 1
   refine List.filter_congr fun b hb=>?_
   have:b.than c=false:=by
    cases h1:b.than c with
    |false=>rfl
    |true=>exact absurd (List.any_eq_true.2 ⟨b,hb,h1⟩) hc
   simp [this]
 refine ⟨?_,?_,?_,he.symm⟩
 ·intro a ha
  unfold front1
  split
  ·rename_i hc
   rcases List.mem_append.1 ha with ha | ha
   ·exact h.up a ha
   ·rw [List.mem_singleton.1 ha]
    obtain ⟨f,hf,hfc⟩:=List.any_eq_true.1 hc
    exact ⟨f,hf,hfc⟩
  ·rcases List.mem_append.1 ha with ha | ha
   ·obtain ⟨f,hf,hfa⟩:=h.up a ha
    cases h1:c.than f with
    |true=>exact ⟨c,by simp,than_trans h1 hfa⟩
    |false=>exact ⟨f,List.mem_append_left _ (List.mem_filter.2 ⟨hf,by simp [h1]⟩),hfa⟩
   ·rw [List.mem_singleton.1 ha]
    exact ⟨c,by simp,than_refl c⟩
 ·intro f hf
  unfold front1 at hf
  split at hf
  ·exact List.mem_append_left _ (h.sub f hf)
  ·rcases List.mem_append.1 hf with hf | hf
   ·exact List.mem_append_left _ (h.sub f (List.mem_filter.1 hf).1)
   ·exact List.mem_append_right _ hf
 ·intro f hf b hb hfb
  unfold front1 at hf hb
  split at hf
  ·rename_i hc
   rw [if_pos hc] at hb
   exact h.one f hf b hb hfb
  ·rename_i hc
   rw [if_neg hc] at hb
   rcases List.mem_append.1 hf with hf | hf<;>rcases List.mem_append.1 hb with hb | hb
   ·exact h.one f (List.mem_filter.1 hf).1 b (List.mem_filter.1 hb).1 hfb
   ·rw [List.mem_singleton.1 hb] at hfb
    exact absurd (List.any_eq_true.2 ⟨f,(List.mem_filter.1 hf).1,hfb⟩) hc
   ·rw [List.mem_singleton.1 hf] at hfb
    have:=(List.mem_filter.1 hb).2
    rw [hfb] at this
    cases this
   ·rw [List.mem_singleton.1 hf,List.mem_singleton.1 hb]
theorem FrInv.fold:∀{l pre F:List Node},FrInv pre F→FrInv (pre++l) (l.foldl front1 F)
 |[],pre,F,h=>by rw [List.append_nil];exact h
 |c :: l,pre,F,h=>by
  have:=(h.step c).fold (l:=l)
  rw [List.append_assoc] at this
  exact this
theorem front_inv (l:List Node):FrInv l (frontL l):=by
 have:FrInv [] []:=⟨by simp,by simp,by simp,rfl⟩
 exact this.fold (l:=l)
theorem front_eq (l:List Node):frontL l=frR [] l []:=(front_inv l).eq
end Go.Proofs.YtackfabapangdaaGreat

set_option maxRecDepth 4000
namespace Go.Proofs.YtackfabapangdaaGreat
open Go Go.Proofs.YtackfabapangdaaGreat.R
theorem sets_pure (s:State):Pure P 265 [s.a] (.agg [.u s.must,.u s.can,.u s.on]):=by
 refine pure_of Tryz.func265 rfl rfl (by simp [Tryz.f265]) (by simp [bnd,bnd.bndL,State.a,State.cs]) (by simp [bnd,bnd.bndL]) fun B hB hnx=>?_
 simp only [Tryz.f265] at hB ⊢
 refine K_run hB 100 ?_
 simp [go_sem,State.a,State.cs]
theorem sets_guard:P.eqGuardType P.depth 227=false:=by kernel_rfl
theorem than_pure (a b:Node):Pure P 252 [a.a,b.a] (.b (a.than b)):=by
 generalize hR:a.than b=R
 refine pure_of Tryz.func252 rfl rfl (by simp [Tryz.f252]) (by simp [bnd,bnd.bndL,Node.a,Node.cs]) (by simp [bnd,bnd.bndL]) fun B hB hnx=>?_
 simp only [Tryz.f252] at hB ⊢
 have hs1:=sets_pure a.s
 have hs2:=sets_pure b.s
 have hc:=covers_pure a.s b.s
 rw [Node.than] at hR
 refine K_run hB 100 ?_
 simp [go_sem,Node.a,Node.cs]
 refine K_drawn [] rfl (by rw [hB];kernel_rfl) ?_
 by_cases c1:a.cost≤b.cost
 ·rw [decide_eq_true c1,Bool.true_and] at hR
  refine K_run hB 100 ?_
  simp [go_sem,c1]
  refine K_dCallP rfl rfl rfl (args:=[a.s.a]) (f:=265) (by simp [go_sem,State.a,State.cs]) (hs1) ?_
  refine K_run hB 100 ?_
  simp [go_sem]
  refine K_dCallP rfl rfl rfl (args:=[b.s.a]) (f:=265) (by simp [go_sem,State.a,State.cs]) (hs2) ?_
  refine K_run hB 100 ?_
  simp [go_sem]
  refine K_dEq3 (x:=.tmp 13) (y:=.tmp 16) (a:=a.s.must) (b:=a.s.can) (c:=a.s.on) (a':=b.s.must) (b':=b.s.can) (c':=b.s.on) rfl rfl (by simp [go_sem]) (by simp [go_sem]) sets_guard (e:=65) (by kernel_rfl) (Option.some_get (show (P.info? 65).isSome=true by kernel_rfl)).symm (by kernel_rfl) (by kernel_rfl) (by kernel_rfl) ?_
  have he:(((a.s.must:Int)==(b.s.must:Int))&&(((a.s.can:Int)==(b.s.can:Int))&&((a.s.on:Int)==(b.s.on:Int))))=(decide (a.s.must=b.s.must)&&decide (a.s.can=b.s.can)&&decide (a.s.on=b.s.on)):=by
   rw [Bool.eq_iff_iff]
   simp only [Bool.and_eq_true,beq_iff_eq,decide_eq_true_eq,and_assoc]
   omega
  rw [he]
  cases c2:(decide (a.s.must=b.s.must)&&decide (a.s.can=b.s.can)&&decide (a.s.on=b.s.on)) with
  |false=>
   rw [c2,Bool.false_and] at hR
   subst hR
   refine K_run hB 100 ?_
   simp [go_sem]
  |true=>
   rw [c2,Bool.true_and] at hR
   rw [hR] at hc
   refine K_run hB 100 ?_
   simp [go_sem]
   refine K_dCallP rfl rfl rfl (args:=[a.s.a,b.s.a]) (f:=177) (by simp [go_sem,State.a,State.cs]) (hc) ?_
   refine K_run hB 100 ?_
   simp [go_sem]
 ·rw [decide_eq_false c1,Bool.false_and] at hR
  subst hR
  refine K_run hB 100 ?_
  simp [go_sem,c1]
theorem front1_spec (a b:Node) {σ:Nat→AObj} {nx q:Nat} (hq:q<nx) (hb:σ q= .box b.cs):CallSpec P 251 [a.a,.ptr q 0] σ nx (.b (a.than b)) σ nx:=by
 have hth:=than_pure a b
 have e:σ=oput σ q (σ q):=by funext i;by_cases h:i=q<;>simp [oput,h]
 have h:CallSpec P 251 [a.a,.ptr q 0] σ nx (.b (a.than b)) (oput σ q (σ q)) nx:=by
  refine spec_down Tryz.func251 rfl rfl (by simp [Tryz.f251]) hq (by rw [hb];simp [bndO,bnd,bnd.bndL,Node.cs]) (by simp [bnd]) fun hk B hB hnx hσ=>?_
  simp only [Tryz.f251] at hB ⊢
  have hne:¬q=nx:=by omega
  refine K_run hB 100 ?_
  simp [go_sem,Node.a,Node.cs,hb,hne]
  refine K_call rfl rfl rfl (args:=[a.a,b.a]) (f:=252) (by simp [go_sem,Node.a,Node.cs]) (by simp [go_sem,hB]) ((hth).spec _ _) ?_
  refine K_run hB 100 ?_
  simp [go_sem]
  exact ⟨by simp [hne,hb,Node.cs],fun i h1 h2 h3=>by omega⟩
 rw [←e] at h
 exact h
theorem front2_spec (a b:Node) {σ:Nat→AObj} {nx q:Nat} (hq:q<nx) (hb:σ q= .box b.cs):CallSpec P 254 [a.a,.ptr q 0] σ nx (.b (b.than a)) σ nx:=by
 have hth:=than_pure b a
 have e:σ=oput σ q (σ q):=by funext i;by_cases h:i=q<;>simp [oput,h]
 have h:CallSpec P 254 [a.a,.ptr q 0] σ nx (.b (b.than a)) (oput σ q (σ q)) nx:=by
  refine spec_down Tryz.func254 rfl rfl (by simp [Tryz.f254]) hq (by rw [hb];simp [bndO,bnd,bnd.bndL,Node.cs]) (by simp [bnd]) fun hk B hB hnx hσ=>?_
  simp only [Tryz.f254] at hB ⊢
  have hne:¬q=nx:=by omega
  refine K_run hB 100 ?_
  simp [go_sem,Node.a,Node.cs,hb,hne]
  refine K_call rfl rfl rfl (args:=[b.a,a.a]) (f:=252) (by simp [go_sem,Node.a,Node.cs]) (by simp [go_sem,hB]) ((hth).spec _ _) ?_
  refine K_run hB 100 ?_
  simp [go_sem]
  exact ⟨by simp [hne,hb,Node.cs],fun i h1 h2 h3=>by omega⟩
 rw [←e] at h
 exact h
def idxF (p:Node→Bool):Nat→List Node→Int
 |_,[]=>-1
 |i,n :: l=>if p n=true then (i:Int) else idxF p (i+1) l
theorem idxF_any (p:Node→Bool):∀(i:Nat) (l:List Node),(0≤idxF p i l)↔l.any p=true
 |_,[]=>by simp [idxF]
 |i,n :: l=>by
  rw [idxF,List.any_cons]
  cases h:p n with
  |true=>simp
  |false=>simp [idxF_any p (i+1) l]
theorem indexF_spec (F:List Node) (p:Node→Bool) {σ:Nat→AObj} {nx r q:Nat} {f:FuncId} (hr:σ r= .arr 10 (nodesT F)) (hF:F.length<2^31) (hf:∀n,CallSpec P f [n.a,.ptr q 0] σ nx (.b (p n)) σ nx):
  CallSpec P 264 [.ref r,.fn (.func f) [] [.ptr q 0]] σ nx (.i (idxF p 0 F)) σ nx:=by
 generalize hR:idxF p 0 F=R
 refine CallQ.spec (spec_of Tryz.func264 rfl rfl (by simp [Tryz.f264]) fun B hB hnx hσ=>?_)
 simp only [Tryz.f264] at hB ⊢
 have hil:(nodesT F).length=F.length:=List.length_map _
 have hgt:∀(k:Nat) (h:k<F.length),(nodesT F)[k]'(by rw [hil];exact h)=F[k].t:=fun k h=>nodesT_get F h
 refine K_run hB 100 ?_
 simp [go_sem,hr,hil]
 refine K_loopP (α:=Nat) (fun k=>k≤F.length∧idxF p k (F.drop k)=R) (fun k=>⟨sl [(1,.fn (.func f) [] [.ptr q 0]),(0,.ref r),(7,.i F.length),(8,.i k)],σ,nx⟩) (fun k=>F.length-k) 0 ⟨Nat.zero_le _,hR⟩ (Imp.slots (by simp [go_sem]) rfl rfl) ?_
 rintro k ⟨g1,g2⟩
 refine K_run hB 60 ?_
 simp [go_sem]
 refine fork_dec (fun hk=>?_) (fun hk=>?_)
 ·have hkk:IntKind.i64.wrap ((k:Int)+1)=((k+1:Nat):Int):=by rw [w64 ((k:Int)+1) (by omega)];rfl
  have hget:∀h:k<(nodesT F).length,(nodesT F)[k]'h=F[k].t:=fun h=>hgt k hk
  rw [List.drop_eq_getElem_cons hk,idxF] at g2
  generalize F[k]=n at *
  have hp:=hf n
  have q1:k*10 / 10=k:=by omega
  have q4:k*10 % 10=0:=by omega
  simp [go_sem,hr,hil,hk,hget,q1,q4,Node.t]
  refine K_call rfl rfl rfl (args:=[n.a,.ptr q 0]) (f:=f) (by simp [go_sem,Node.a,Node.cs]) (by simp [go_sem,hB]) hp ?_
  cases h:p n with
  |true=>
   rw [h,if_pos rfl] at g2
   subst g2
   refine K_run hB 100 ?_
   simp [go_sem]
  |false=>
   rw [h,if_neg (by simp)] at g2
   refine K_run hB 100 ?_
   simp [go_sem,hkk]
   exact Next.mk (k+1) ⟨by omega,g2⟩ (Imp.slots (by simp [go_sem]) rfl rfl) (by omega)
 ·have:k=F.length:=by omega
  subst this
  rw [List.drop_length,idxF] at g2
  subst g2
  simp [go_sem]
theorem containsF_spec (F:List Node) (p:Node→Bool) {σ:Nat→AObj} {nx r q:Nat} {f:FuncId} (hr:σ r= .arr 10 (nodesT F)) (hF:F.length<2^31) (hf:∀n,CallSpec P f [n.a,.ptr q 0] σ nx (.b (p n)) σ nx):
  CallSpec P 250 [.ref r,.fn (.func f) [] [.ptr q 0]] σ nx (.b (F.any p)) σ nx:=by
 have hi:=indexF_spec F p hr hF hf
 have ha:=idxF_any p 0 F
 refine CallQ.spec (spec_of Tryz.func250 rfl rfl (by simp [Tryz.f250]) fun B hB hnx hσ=>?_)
 simp only [Tryz.f250] at hB ⊢
 generalize idxF p 0 F=i at *
 refine K_run hB 100 ?_
 simp [go_sem]
 refine K_call rfl rfl rfl (args:=[.ref r,.fn (.func f) [] [.ptr q 0]]) (f:=264) (by simp [go_sem]) (by simp [go_sem,hB]) hi ?_
 refine K_run hB 100 ?_
 simp [go_sem]
 rw [Bool.eq_iff_iff,decide_eq_true_eq]
 exact ha
end Go.Proofs.YtackfabapangdaaGreat

set_option maxRecDepth 4000
namespace Go.Proofs.YtackfabapangdaaGreat
open Go Go.Proofs.YtackfabapangdaaGreat.R
theorem idxF_cases (p:Node→Bool):∀(i:Nat) (l:List Node),(idxF p i l= -1∧l.filter (fun n=>!p n)=l)∨∃k,∃h:k<l.length,idxF p i l=((i+k:Nat):Int)∧p l[k]=true∧(l.take k).filter (fun n=>!p n)=l.take k
 |i,[]=>.inl ⟨rfl,rfl⟩
 |i,n :: l=>by
  rw [idxF]
  cases h:p n with
  |true=>exact .inr ⟨0,by simp,by simp,by simpa using h,by simp⟩
  |false=>
   simp only [Bool.false_eq_true,if_false]
   rcases idxF_cases p (i+1) l with ⟨h1,h2⟩ | ⟨k,hk,h1,h2,h3⟩
   ·exact .inl ⟨h1,by rw [List.filter_cons,h];simp [h2]⟩
   ·exact .inr ⟨k+1,by simpa using hk,by rw [h1];congr 1;omega,by simpa using h2,by rw [List.take_succ_cons,List.filter_cons,h];simp [h3]⟩
theorem deleteF_spec (F:List Node) (p:Node→Bool) {σ:Nat→AObj} {nx r q:Nat} {f:FuncId} (hr:σ r= .arr 10 (nodesT F)) (hrn:r<nx) (hq:q<nx) (hrq:q≠r) (hF:F.length<2^31) (hf:∀n σ' nx',σ' q=σ q→nx≤nx'→CallSpec P f [n.a,.ptr q 0] σ' nx' (.b (p n)) σ' nx'):
  CallQ P 253 [.ref r,.fn (.func f) [] [.ptr q 0]] σ nx fun v σ' nx'=>∃g,v= .ref g∧σ' g= .arr 10 (nodesT (F.filter fun n=>!p n))∧nx≤nx'∧g<nx'∧(g=r∨nx≤g)∧∀i,i<nx→i≠r→σ' i=σ i:=by
 have hi:=indexF_spec F p (q:=q) hr hF fun n=>hf n σ nx rfl (Nat.le_refl _)
 have hc:=idxF_cases p 0 F
 refine spec_of Tryz.func253 rfl rfl (by simp [Tryz.f253]) fun B hB hnx hσ=>?_
 simp only [Tryz.f253] at hB ⊢
 refine K_run hB 100 ?_
 simp [go_sem]
 refine K_call rfl rfl rfl (args:=[.ref r,.fn (.func f) [] [.ptr q 0]]) (f:=264) (by simp [go_sem]) (by simp [go_sem,hB]) hi ?_
 rcases hc with ⟨h1,h2⟩ | ⟨k,hk,h1,h2,h3⟩
 ·rw [h1,h2]
  refine K_run hB 100 ?_
  simp [go_sem]
  exact ⟨hr,hrn⟩
 ·rw [Nat.zero_add] at h1
  rw [h1]
  have hkk:IntKind.i64.wrap ((k:Int)+1)=((k+1:Nat):Int):=by rw [w64 ((k:Int)+1) (by omega)];rfl
  have hk1:¬(k:Int)= -1:=by omega
  refine K_run hB 100 ?_
  simp [go_sem,hkk,hk1]
  refine K_loopP (α:=Nat×Nat×List Node×(Nat→AObj)×Nat) (fun (j,i,X,σ1,n1)=>j≤F.length∧i<j∧X.length=F.length∧X.take i=(F.take j).filter (fun n=>!p n)∧X.drop j=F.drop j∧σ1 r= .arr 10 (nodesT X)∧nx≤n1∧∀a,a<nx→a≠r→σ1 a=σ a)
   (fun (j,i,X,σ1,n1)=>⟨sl [(0,.ref r),(1,.fn (.func f) [] [.ptr q 0]),(5,.i i),(6,.i j)],σ1,n1⟩) (fun a=>F.length-a.1) (k+1,k,F,σ,nx) ?_ (Imp.slots (by simp [go_sem]) rfl rfl) ?_
  ·refine ⟨by omega,by omega,rfl,?_,rfl,hr,Nat.le_refl _,fun a _ _=>rfl⟩
   rw [List.take_succ_eq_append_getElem hk,List.filter_append,h3]
   simp [h2]
  rintro ⟨j,i,X,σ1,n1⟩ ⟨g1,g2,g3,g4,g5,g6,g7,g8⟩
  have hil:(nodesT X).length=X.length:=List.length_map _
  refine K_run hB 60 ?_
  simp [go_sem,g6,hil,g3]
  refine fork_dec (fun hj=>?_) (fun hj=>?_)
  ·have hjj:IntKind.i64.wrap ((j:Int)+1)=((j+1:Nat):Int):=by rw [w64 ((j:Int)+1) (by omega)];rfl
   have hii:IntKind.i64.wrap ((i:Int)+1)=((i+1:Nat):Int):=by rw [w64 ((i:Int)+1) (by omega)];rfl
   have hjX:j<X.length:=by omega
   have hXj:X[j]=F[j]:=by
    have e1:=List.drop_eq_getElem_cons hjX
    have e2:=List.drop_eq_getElem_cons hj
    rw [g5,e2] at e1
    exact (List.cons.inj e1).1.symm
   have hget:∀h:j<(nodesT X).length,(nodesT X)[j]'h=F[j].t:=fun h=>by rw [nodesT_get X hjX,hXj]
   have htk:=List.take_succ_eq_append_getElem hj
   have hdr:X.drop (j+1)=F.drop (j+1):=by
    have e1:=List.drop_eq_getElem_cons hjX
    have e2:=List.drop_eq_getElem_cons hj
    rw [g5,e2] at e1
    exact (List.cons.inj e1).2.symm
   generalize F[j]=m at *
   have q1:j*10 / 10=j:=by omega
   have q4:j*10 % 10=0:=by omega
   have hrn1:¬r=n1:=by omega
   have hqn1:¬q=n1:=by omega
   have hiX:i<X.length:=by omega
   have hgi:∀h:i<(nodesT X).length,(nodesT X)[i]'h=X[i].t:=fun h=>nodesT_get X hiX
   have hiF:i<F.length:=by omega
   have q5:i*10 / 10=i:=by omega
   have q6:i*10 % 10=0:=by omega
   have hσq:(oput (oput σ1 n1 (.box [.i 0,.i 0,.i 0,.i 0,.i 0,.u 0,.u 0,.u 0,.i 0,.fsl []])) n1 (.box m.cs)) q=σ q:=by simp [oput,hqn1,g8 q hq hrq]
   have hfm:=hf m _ (n1+1) hσq (by omega)
   simp [go_sem,g6,hil,hj,hjX,hget,q1,q4,Node.t,g3]
   refine K_call rfl rfl rfl (args:=[m.a,.ptr q 0]) (f:=f) (by simp [go_sem,Node.a,Node.cs]) (by simp [go_sem,hB]) (hf m _ _ (by simp [oput,hqn1,g8 q hq hrq]) (by simp only;omega)) ?_
   cases h:p m with
   |true=>
    refine K_run hB 100 ?_
    simp [go_sem,hjj]
    refine Next.mk (j+1,i,X,_,n1+1) ?_ (Imp.slots (by simp [go_sem]) rfl rfl) (by simp only;omega)
    refine ⟨by simp only;omega,by simp only;omega,g3,?_,hdr,?_,by simp only;omega,fun a h1 h2=>?_⟩
    ·rw [htk,List.filter_append,g4];simp [h]
    ·simp [oput,hrn1,g6]
    ·simp [oput,show ¬a=n1 by omega,g8 a h1 h2]
   |false=>
    refine K_run hB 100 ?_
    simp [go_sem,hjj,hii,g6,hil,g3,hrn1,hiF,hiX,hgi,q5,q6,Node.t]
    refine Next.mk (j+1,i+1,X.set i m,_,n1+1) ?_ (Imp.slots (by simp [go_sem]) rfl rfl) (by simp only;omega)
    refine ⟨by simp only;omega,by simp only;omega,by simp only [List.length_set];exact g3,?_,?_,?_,by simp only;omega,fun a h1 h2=>?_⟩
    ·rw [htk,List.filter_append,←g4,List.take_succ_eq_append_getElem (by rw [List.length_set];exact hiX),List.take_set,List.set_eq_of_length_le (by rw [List.length_take];omega)]
     simp [h]
    ·rw [List.drop_set_of_lt (by omega)];exact hdr
    ·simp [oput,nodesT,Node.t,List.map_set]
    ·simp [oput,h2,show ¬a=n1 by omega,g8 a h1 h2]
  ·have:j=F.length:=by omega
   subst this
   rw [List.take_length] at g4
   have hz0:∀es:List (List T),∀z,((nodesT X).take i++List.replicate ((nodesT X).length-i) z).take i=(nodesT X).take i:=fun _ z=>by rw [List.take_append_of_le_length (by rw [List.length_take];omega),List.take_take,Nat.min_self]
   simp [go_sem]
   refine K_clear (ik:=.i64) (x:=.tmp 36) (ix:=.tmp 37) (d1:=38) (q:=r) (n:=i) (es:=nodesT X) (z:=[.i 0,.i 0,.i 0,.i 0,.i 0,.v (.int .u64 0),.v (.int .u64 0),.v (.int .u64 0),.i 0,.sl []]) rfl rfl rfl rfl rfl rfl rfl rfl (by simp [go_sem,hB]) rfl tt128 rfl tt70 rfl (by simp [go_sem]) g6 (by simp [go_sem]) (by omega) (by omega) ?_
   refine K_run hB 100 ?_
   simp [go_sem]
   have hlen2:((nodesT X).take i++List.replicate ((nodesT X).length-i) ([.i 0,.i 0,.i 0,.i 0,.i 0,.v (.int .u64 0),.v (.int .u64 0),.v (.int .u64 0),.i 0,.sl []]:List T)).length=F.length:=by rw [List.length_append,List.length_take,List.length_replicate];omega
   refine K_front (ik:=.i64) (x:=.tmp 39) (ix:=.tmp 40) (q:=r) (n:=i) (sz:=10) rfl rfl (by simp [go_sem,hB]) tt128 rfl tt70 (by simp [go_sem]) (by simp [oput];rfl) (by simp [go_sem]) (by rw [hlen2];omega) (by rw [hlen2];omega) ?_
   rw [hz0 [] _]
   have hti:(nodesT X).take i=nodesT (X.take i):=by simp [nodesT,List.map_take]
   rw [hti,g4]
   refine K_run hB 100 ?_
   simp [go_sem]
   refine ⟨by omega,by omega,fun a h1 h2=>?_⟩
   simp [h2,show ¬a=n1 by omega,g8 a h1 h2]
end Go.Proofs.YtackfabapangdaaGreat

set_option maxRecDepth 4000
namespace Go.Proofs.YtackfabapangdaaGreat
open Go Go.Proofs.YtackfabapangdaaGreat.R
theorem front1_len (out:List Node) (b:Node):(front1 out b).length≤out.length+1:=by
 unfold front1
 split
 ·omega
 ·have:=List.length_filter_le (fun a=>!b.than a) out
  rw [List.length_append,List.length_cons,List.length_nil]
  omega
theorem front_pure (l:List Node) (hl:l.length<2^31) (hn:∀n∈l,n.path.length<2^31):Pure P 226 [.t (.sl (nodesT l))] (.t (.sl (nodesT (frontL l)))):=by
 generalize hR:frontL l=R
 refine pure_of Tryz.func226 rfl rfl (by simp [Tryz.f226]) (by simp [bnd,bnd.bndL]) (by simp [bnd,bnd.bndL]) fun B hB hnx=>?_
 simp only [Tryz.f226] at hB ⊢
 have hil:(nodesT l).length=l.length:=List.length_map _
 have hgt:∀(k:Nat) (h:k<l.length),(nodesT l)[k]'(by rw [hil];exact h)=l[k].t:=fun k h=>nodesT_get l h
 generalize hX:nodesT l=X at *
 have hmost:mostLen=4294967296:=rfl
 rw [frontL] at hR
 refine K_run hB 100 ?_
 simp [go_sem,hil]
 refine K_own 3 10 (by simp [go_sem]) ?_
 refine K_loopP (α:=Nat×List Node×Nat×(Nat→AObj)×Nat) (fun (k,out,a,σ,nx)=>k≤l.length∧(l.drop k).foldl front1 out=R∧out.length≤k∧σ a= .arr 10 (nodesT out)∧a<nx)
  (fun (k,out,a,σ,nx)=>⟨sl [(3,.ref a),(6,.t (.sl X)),(7,.i l.length),(8,.i k)],σ,nx⟩) (fun a=>l.length-a.1) (0,[],0,_,1) ?_ (Imp.slots (by simp [go_sem,hil]) rfl rfl) ?_
 ·exact ⟨Nat.zero_le _,hR,Nat.le_refl _,by simp [oput,nodesT],by omega⟩
 rintro ⟨k,out,a,σ,nx⟩ ⟨g1,g2,g3,g4,g5⟩
 refine K_run hB 60 ?_
 simp [go_sem]
 refine fork_dec (fun hk=>?_) (fun hk=>?_)
 ·have hkk:IntKind.i64.wrap ((k:Int)+1)=((k+1:Nat):Int):=by rw [w64 ((k:Int)+1) (by omega)];rfl
  have hget:∀h:k<X.length,X[k]'h=l[k].t:=fun h=>hgt k hk
  rw [List.drop_eq_getElem_cons hk,List.foldl_cons] at g2
  have hpath:=hn l[k] (List.getElem_mem _)
  generalize l[k]=m at *
  have hcl:=clone_spec m.path (by omega)
  have hfr:front1 out m=if out.any (fun a=>a.than m)=true then out else (out.filter fun a=>!m.than a)++[m]:=rfl
  have hfl:=front1_len out m
  have ha:¬a=nx:=by omega
  simp [go_sem,hil,hk,hget,Node.t]
  refine K_call rfl rfl rfl (args:=[.ref a,.fn (.func 251) [] [.ptr nx 0]]) (f:=250) (by simp [go_sem]) (by simp [go_sem,hB]) (containsF_spec out (fun c=>c.than m) (by simp [oput,ha,g4]) (by omega) fun c=>front1_spec c m (by simp only;omega) (by simp [oput,Node.cs])) ?_
  cases hany:out.any (fun c=>c.than m) with
  |true=>
   rw [hany,if_pos rfl] at hfr
   rw [hfr] at g2
   refine K_run hB 100 ?_
   simp [go_sem,hkk]
   exact Next.mk (k+1,out,a,_,nx+1) ⟨by simp only;omega,g2,by simp only;omega,by simp [oput,ha,g4],by simp only;omega⟩ (Imp.slots (by simp [go_sem]) rfl rfl) (by simp only;omega)
  |false=>
   rw [hany,if_neg (by simp)] at hfr
   rw [hfr] at g2 hfl
   refine K_run hB 100 ?_
   simp [go_sem]
   refine K_callQ rfl rfl rfl (args:=[.ref a,.fn (.func 254) [] [.ptr nx 0]]) (f:=253) (by simp [go_sem]) (by simp [go_sem,hB]) (deleteF_spec out (fun c=>m.than c) (by simp [oput,ha,g4]) (by simp only;omega) (by simp only;omega) (by omega) (by omega) fun c σ' nx' h1 h2=>front2_spec c m (by simp only at h2;omega) (by rw [h1];simp [oput,Node.cs])) ?_
   rintro v σ2 n2 ⟨g,rfl,d1,d2,d3,d4,d5⟩
   have e1:σ2 nx= .box m.cs:=by rw [d5 nx (by simp only;omega) (by omega)];simp [oput,Node.cs]
   simp only at d2 d4
   have hgn:¬g=nx:=by omega
   generalize (out.filter fun c=>!m.than c)=O at *
   refine K_run hB 100 ?_
   simp [go_sem,e1,Node.cs]
   refine K_call rfl rfl rfl (args:=[.t (.sl (ints m.path))]) (f:=215) (by simp [go_sem]) (by simp [go_sem,hB]) (hcl _ _) ?_
   obtain ⟨σ5,hσ5⟩:∃σ5:Nat→AObj,σ5=fun j=>if j=n2 then AObj.dead else frzO n2 (ints m.path) (oput σ2 n2 (.arr 1 (ints m.path)) j):=⟨_,rfl⟩
   have f1:σ5 nx= .box m.cs:=by simp [hσ5,oput,show ¬nx=n2 by omega,e1,frzO,frz1,frz1.frzL,Node.cs]
   have f2:σ5 g= .arr 10 (nodesT O):=by simp [hσ5,oput,show ¬g=n2 by omega,d1,frzO]
   have hlO:(nodesT O).length=O.length:=List.length_map _
   have hcap:O.length+1≤mostLen:=by rw [List.length_append,List.length_cons,List.length_nil] at hfl;omega
   refine K_imp ((Imp.freeze (q:=n2) (sz:=1) (es:=ints m.path) (by simp [oput])).trans (Imp.slots (l:=[(3,.ref g),(5,.ptr nx 0),(6,.t (.sl X)),(7,.i l.length),(8,.i k),(20,.t (.sl (ints m.path)))]) (by simp [go_sem,frz1,frz1.frzL,show ¬g=n2 by omega]) hσ5 rfl)) ?_
   refine K_run hB 100 ?_
   simp [go_sem,f1,f2,Node.cs,hgn,hlO,hcap,hkk]
   refine Next.mk (k+1,O++[m],n2+1,_,n2+2) ?_ (Imp.slots (by simp [go_sem]) rfl rfl) (by simp only;omega)
   refine ⟨by simp only;omega,g2,by simp only;omega,?_,by simp only;omega⟩
   simp [oput,nodesT,Node.t]
 ·have:k=l.length:=by omega
  subst this
  rw [List.drop_length,List.foldl_nil] at g2
  subst g2
  simp [go_sem,g4]
end Go.Proofs.YtackfabapangdaaGreat

set_option maxRecDepth 4000
set_option maxHeartbeats 1000000
namespace Go.Proofs.YtackfabapangdaaGreat
open Go Go.Proofs.YtackfabapangdaaGreat.R
def Inst.sortN (x:Inst) (l:List Node):List Node:=isort x.of l
def Inst.keyT (x:Inst) (n:Node):List T:=n.t++[.i (x.of n)]
theorem Inst.keys_sort (x:Inst) (l:List Node):isort κr (l.map x.keyT)=(x.sortN l).map x.keyT:=by
 rw [←isort_map (κ:=κr) x.keyT l]
 congr 2
theorem Inst.sortN_len (x:Inst) (l:List Node):(x.sortN l).length=l.length:=isort_len l
theorem Inst.sortN_mem {x:Inst} {l:List Node} {n:Node}:n∈x.sortN l↔n∈l:=isort_mem
theorem sorted1_spec (x:Inst) (n:Node) (hl:x.stops.length<2^31) (ho:n.s.ok) {σ:Nat→AObj} {nx q:Nat} (hq:q<nx) (hb:σ q= .box x.cs):CallSpec P 221 [n.a,.ptr q 0] σ nx (.i (x.of n)) σ nx:=by
 have hth:=of_pure x n hl ho
 have e:σ=oput σ q (σ q):=by funext i;by_cases h:i=q<;>simp [oput,h]
 have h:CallSpec P 221 [n.a,.ptr q 0] σ nx (.i (x.of n)) (oput σ q (σ q)) nx:=by
  refine spec_down Tryz.func221 rfl rfl (by simp [Tryz.f221]) hq (by rw [hb];simp [bndO,bnd,bnd.bndL,Inst.cs]) (by simp [bnd]) fun hk B hB hnx hσ=>?_
  simp only [Tryz.f221] at hB ⊢
  have hne:¬q=nx:=by omega
  refine K_run hB 100 ?_
  simp [go_sem,Node.a,Node.cs,hb,hne,Inst.cs]
  refine K_call rfl rfl rfl (args:=[x.a,n.a]) (f:=35) (by simp [go_sem,Inst.a,Node.a,Node.cs]) (by simp [go_sem,hB]) ((hth).spec _ _) ?_
  refine K_run hB 100 ?_
  simp [go_sem]
  exact ⟨by simp [hne,hb,Inst.cs],fun i h1 h2 h3=>by omega⟩
 rw [←e] at h
 exact h
theorem sortedF_spec (x:Inst) (l:List Node) (hx:x.stops.length<2^31) (hl:l.length<2^31) (ho:∀n∈l,n.s.ok) {σ:Nat→AObj} {nx q:Nat} (hq:q<nx) (hb:σ q= .box x.cs):
  CallSpec P 220 [.t (.sl (nodesT l)),.fn (.func 221) [] [.ptr q 0]] σ nx (.t (.sl (nodesT (x.sortN l)))) (oput σ q (.box x.cs)) nx:=by
 refine spec_down Tryz.func220 rfl rfl (by simp [Tryz.f220]) hq (by simp [bndO,bnd,bnd.bndL,Inst.cs]) (by simp [bnd,bnd.bndL]) fun hk0 B hB hnx hσ=>?_
 simp only [Tryz.f220] at hB ⊢
 refine K_after ?_
 generalize hpost:(fun (e:Exit) (s:St)=>∃t,Imp B s t∧_)=post
 have hil:(nodesT l).length=l.length:=List.length_map _
 have hgt:∀(k:Nat) (h:k<l.length),(nodesT l)[k]'(by rw [hil];exact h)=l[k].t:=fun k h=>nodesT_get l h
 generalize hX:nodesT l=X at *
 have hmost:mostLen=4294967296:=rfl
 obtain ⟨K,hK⟩:∃K,K=l.map x.keyT:=⟨_,rfl⟩
 have hKl:K.length=l.length:=by rw [hK,List.length_map]
 refine K_run hB 100 ?_
 simp [go_sem,hil]
 refine K_own 5 11 (by simp [go_sem]) ?_
 refine K_loopP (α:=Nat×Nat×(Nat→AObj)×Nat) (fun (k,a,σ',ny)=>k≤l.length∧σ' a= .arr 11 (K.take k)∧nx≤a∧a<ny∧σ' q= .box x.cs∧∀i,i<nx→i≠q→σ' i=σ i)
  (fun (k,a,σ',ny)=>⟨sl [(1,.fn (.func 221) [] [.ptr q 0]),(5,.ref a),(11,.t (.sl X)),(12,.i l.length),(13,.i k)],σ',ny⟩) (fun a=>l.length-a.1) (0,nx,_,nx+1) ?_ (Imp.slots (by simp [go_sem,hil]) rfl rfl) ?_
 ·exact ⟨Nat.zero_le _,by simp [oput],Nat.le_refl _,by omega,by simp [oput,show ¬q=nx by omega,hb],fun i h1 h2=>by simp [oput,show ¬i=nx by omega]⟩
 rintro ⟨k,a,σ',ny⟩ ⟨g1,g2,g3,g4,g5,g6⟩
 refine K_run hB 60 ?_
 simp [go_sem]
 refine fork_dec (fun hk=>?_) (fun hk=>?_)
 ·have hkk:IntKind.i64.wrap ((k:Int)+1)=((k+1:Nat):Int):=by rw [w64 ((k:Int)+1) (by omega)];rfl
  have hget:∀h:k<X.length,X[k]'h=l[k].t:=fun h=>hgt k hk
  have hmem:=ho l[k] (List.getElem_mem _)
  have htk:K.take (k+1)=K.take k++[x.keyT l[k]]:=by rw [List.take_add_one,List.getElem?_eq_getElem (by omega)];simp [hK]
  have hkl:(K.take k).length=k:=by rw [List.length_take];omega
  generalize K.take k=Kk at *
  generalize l[k]=n at *
  have ha:¬a=ny:=by omega
  have hqn:¬q=ny:=by omega
  have hs1:=fun σ'' (h:σ'' q= .box x.cs)=>sorted1_spec x n hx hmem (σ:=σ'') (nx:=ny+1) (q:=q) (by omega) h
  have hcap:k+1≤mostLen:=by omega
  simp [go_sem,hil,hk,hget,Node.t]
  refine K_drawnF [4,7] [0,1] rfl (by rw [hB];kernel_rfl) (by kernel_rfl) fun ht hf'=>?_
  refine K_run hB 4 ?_
  simp [go_sem,ht,hf',Node.cs]
  refine K_dCall rfl rfl rfl (args:=[n.a,.ptr q 0]) (f:=221) (by simp [go_sem,Node.a,Node.cs]) (hs1 _ (by simp [oput,hqn,g5])) (by decide) (okPends_does (by simp [go_sem,Node.cs])) ?_
  refine K_run hB 100 ?_
  simp [go_sem,ht,hf',g2,ha,hkl,hcap,hkk,show ¬ny=a by omega]
  refine Next.mk (k+1,ny+1,_,ny+2) ?_ (Imp.slots (by simp [go_sem]) rfl rfl) (by simp only;omega)
  exact ⟨by simp only;omega,by simp [oput,htk,Inst.keyT,Node.t],by simp only;omega,by simp only;omega,by simp [oput,hqn,g5,show ¬q=a by omega,show ¬q=ny+1 by omega],fun i h1 h2=>by simp [oput,show ¬i=ny by omega,show ¬i=a by omega,show ¬i=ny+1 by omega,g6 i h1 h2]⟩
 ·have:k=l.length:=by omega
  subst this
  rw [←hKl,List.take_length,hK] at g2
  have hS:=sortStable_spec (l.map x.keyT) (fun e he=>by
   obtain ⟨n,_,rfl⟩:=List.mem_map.1 he
   exact ⟨n,x.of n,rfl⟩) (by rw [List.length_map];exact hl) (nx:=ny) g4 g2
  rw [x.keys_sort] at hS
  have hL:=x.sortN_len l
  generalize x.sortN l=S at *
  have hkl:(S.map x.keyT).length=l.length:=by rw [List.length_map,hL]
  have hkg:∀(k:Nat) (h:k<l.length),(S.map x.keyT)[k]'(by rw [hkl];exact h)=(S[k]'(by rw [hL];exact h)).t++[.i (x.of (S[k]'(by rw [hL];exact h)))]:=fun k h=>by rw [List.getElem_map];rfl
  simp [go_sem]
  refine K_run hB 100 ?_
  simp [go_sem]
  refine K_call rfl rfl rfl (args:=[.ref a,cmpF]) (f:=245) (by simp [go_sem]) (by simp [go_sem,hB]) hS ?_
  refine K_run hB 100 ?_
  simp [go_sem,hkl]
  refine K_own 8 10 (by simp [go_sem]) ?_
  have hqa:¬q=a:=by omega
  have hany:¬a=ny:=by omega
  refine K_loopP (α:=Nat×Nat×(Nat→AObj)×Nat) (fun (k,c,τ,nz)=>k≤l.length∧τ c= .arr 10 (nodesT (S.take k))∧τ a= .arr 11 (S.map x.keyT)∧nx≤c∧c<nz∧a<nz∧c≠a∧τ q= .box x.cs∧∀i,i<nx→i≠q→τ i=σ i)
   (fun (k,c,τ,nz)=>⟨sl [(8,.ref c),(28,.ref a),(29,.i l.length),(30,.i k)],τ,nz⟩) (fun a=>l.length-a.1) (0,ny,_,ny+1) ?_ (Imp.slots (by simp [go_sem,hkl]) rfl rfl) ?_
  ·exact ⟨Nat.zero_le _,by simp [oput,nodesT],by simp [oput,hany],by omega,by omega,by omega,by omega,by simp [oput,show ¬q=ny by omega,hqa,g5],fun i h1 h2=>by simp [oput,show ¬i=ny by omega,show ¬i=a by omega,g6 i h1 h2]⟩
  clear hS g1 g2 g5 g6
  rintro ⟨k,c,τ,nz⟩ ⟨g1,g2,g7,g8,g9,ga,gb,g5,g6⟩
  refine K_run hB 60 ?_
  simp [go_sem]
  refine fork_dec (fun hk=>?_) (fun hk=>?_)
  ·have hkk:IntKind.i64.wrap ((k:Int)+1)=((k+1:Nat):Int):=by rw [w64 ((k:Int)+1) (by omega)];rfl
   have hkS:k<S.length:=by omega
   have htk:S.take (k+1)=S.take k++[S[k]]:=by rw [List.take_add_one,List.getElem?_eq_getElem hkS];rfl
   have hget:∀h:k<(S.map x.keyT).length,(S.map x.keyT)[k]'h=S[k].t++[.i (x.of S[k])]:=fun h=>hkg k hk
   have htl:(nodesT (S.take k)).length=k:=by rw [nodesT,List.length_map,List.length_take];omega
   have hcap:k+1≤mostLen:=by omega
   have q1:k*11 / 11=k:=by omega
   have q4:k*11 % 11=0:=by omega
   have hc:¬c=nz:=by omega
   generalize S[k]=n at *
   simp [go_sem,g7,hkl,hk,hget,q1,q4,Node.t,g2,hc,htl,hcap,hkk]
   refine Next.mk (k+1,nz+1,_,nz+2) ?_ (Imp.slots (by simp [go_sem]) rfl rfl) (by simp only;omega)
   exact ⟨by simp only;omega,by simp [oput,htk,nodesT,Node.t],by simp [oput,g7,show ¬a=nz by omega,show ¬a=c by omega,show ¬a=nz+1 by omega],by simp only;omega,by simp only;omega,by simp only;omega,by simp only;omega,by simp [oput,g5,show ¬q=nz by omega,show ¬q=c by omega,show ¬q=nz+1 by omega],fun i h1 h2=>by simp [oput,show ¬i=nz by omega,show ¬i=c by omega,show ¬i=nz+1 by omega,g6 i h1 h2]⟩
  ·have:k=l.length:=by omega
   subst this
   rw [←hL,List.take_length] at g2
   simp [go_sem]
   rw [←hpost]
   refine ⟨_,Imp.freeze (q:=c) (sz:=10) (es:=nodesT S) (by simp [go_sem,g2]),.inl rfl,?_⟩
   simp [go_sem,frz1,frzO,show ¬q=c by omega,g5]
   refine ⟨by omega,by simp [frz1.frzL,frz1,Inst.cs],fun y hy hyq=>?_⟩
   rw [if_neg (by omega),g6 y hy hyq]
   rcases hk0 y with e | ⟨e,_⟩
   ·rw [e]
   ·exact frzO_id (q:=c) (es:=nodesT S) (by omega) (σ y) e
theorem sorted_pure (x:Inst) (l:List Node) (hx:x.stops.length<2^31) (hl:l.length<2^31) (hn:∀n∈l,n.Fine):Pure P 181 [x.a,.t (.sl (nodesT l))] (.t (.sl (nodesT (x.sortN l)))):=by
 refine pure_of Tryz.func181 rfl rfl (by simp [Tryz.f181]) (by simp [bnd,bnd.bndL,Inst.a]) (by simp [bnd,bnd.bndL]) fun B hB hnx=>?_
 simp only [Tryz.f181] at hB ⊢
 have hil:(nodesT l).length=l.length:=List.length_map _
 have hgt:∀(k:Nat) (h:k<l.length),(nodesT l)[k]'(by rw [hil];exact h)=l[k].t:=fun k h=>nodesT_get l h
 generalize hX:nodesT l=X at *
 have hmost:mostLen=4294967296:=rfl
 refine K_run hB 100 ?_
 simp [go_sem,hil,Inst.a]
 refine K_own 5 10 (by simp [go_sem]) ?_
 refine K_loopP (α:=Nat×Nat×(Nat→AObj)×Nat) (fun (k,a,σ',ny)=>k≤l.length∧σ' a= .arr 10 (nodesT (l.take k))∧0<a∧a<ny∧σ' 0= .box x.cs)
  (fun (k,a,σ',ny)=>⟨sl [(2,.ptr 0 0),(5,.ref a),(8,.t (.sl X)),(9,.i l.length),(10,.i k)],σ',ny⟩) (fun a=>l.length-a.1) (0,1,_,2) ?_ (Imp.slots (by simp [go_sem,hil]) rfl rfl) ?_
 ·exact ⟨Nat.zero_le _,by simp [oput,nodesT],by omega,by omega,by simp [oput,Inst.cs]⟩
 rintro ⟨k,a,σ',ny⟩ ⟨g1,g2,g3,g4,g5⟩
 refine K_run hB 60 ?_
 simp [go_sem]
 refine fork_dec (fun hk=>?_) (fun hk=>?_)
 ·have hkk:IntKind.i64.wrap ((k:Int)+1)=((k+1:Nat):Int):=by rw [w64 ((k:Int)+1) (by omega)];rfl
  have hget:∀h:k<X.length,X[k]'h=l[k].t:=fun h=>hgt k hk
  have hfine:=hn l[k] (List.getElem_mem _)
  have htk:l.take (k+1)=l.take k++[l[k]]:=by rw [List.take_add_one,List.getElem?_eq_getElem hk];rfl
  have hkl:(nodesT (l.take k)).length=k:=by rw [nodesT,List.length_map,List.length_take];omega
  generalize l[k]=n at *
  have ha:¬a=ny:=by omega
  have hown:=own_pure n (by have:=hfine.len;omega)
  have hcap:k+1≤mostLen:=by omega
  simp [go_sem,hil,hk,hget,Node.t]
  refine K_call rfl rfl rfl (args:=[n.a]) (f:=217) (by simp [go_sem,Node.a,Node.cs]) (by simp [go_sem,hB]) ((hown).spec _ _) ?_
  refine K_run hB 100 ?_
  simp [go_sem,Node.a,Node.cs,g2,ha,hkl,hcap,hkk]
  refine Next.mk (k+1,ny+1,_,ny+2) ?_ (Imp.slots (by simp [go_sem]) rfl rfl) (by simp only;omega)
  exact ⟨by simp only;omega,by simp [oput,htk,nodesT,Node.t],by simp only;omega,by simp only;omega,by simp [oput,g5,show ¬0=ny by omega,show ¬0=a by omega]⟩
 ·have:k=l.length:=by omega
  subst this
  rw [List.take_length] at g2
  have hS:∀σ nx,0<nx→σ 0= .box x.cs→CallSpec P 220 [.t (.sl (nodesT l)),.fn (.func 221) [] [.ptr 0 0]] σ nx (.t (.sl (nodesT (x.sortN l)))) (oput σ 0 (.box x.cs)) nx:=fun σ nx h1 h2=>sortedF_spec x l hx hl (fun n h=>(hn n h).ok) h1 h2
  rw [hX] at hS
  obtain ⟨σ5,hσ5⟩:∃σ5:Nat→AObj,σ5=fun j=>if j=a then AObj.dead else frzO a X (σ' j):=⟨_,rfl⟩
  have f1:σ5 0= .box x.cs:=by simp [hσ5,show ¬0=a by omega,g5,frzO,frz1,frz1.frzL,Inst.cs]
  have hSS:=hS σ5 ny (by omega) f1
  simp [go_sem]
  refine K_imp ((Imp.freeze (q:=a) (sz:=10) (es:=X) (by simp [g2,hX])).trans (Imp.slots (l:=[(2,.ptr 0 0),(20,.t (.sl X)),(21,.fn (.func 221) [] [.ptr 0 0])]) (by simp [go_sem,frz1,frz1.frzL]) hσ5 rfl)) ?_
  refine K_run hB 100 ?_
  simp [go_sem]
  refine K_call rfl rfl rfl (args:=[.t (.sl X),.fn (.func 221) [] [.ptr 0 0]]) (f:=220) (by simp [go_sem]) (by simp [go_sem,hB]) hSS ?_
  refine K_run hB 100 ?_
  simp [go_sem]
end Go.Proofs.YtackfabapangdaaGreat

set_option maxRecDepth 4000
set_option maxHeartbeats 1000000
namespace Go.Proofs.YtackfabapangdaaGreat
open Go Go.Proofs.YtackfabapangdaaGreat.R
theorem rsorted_pure (x:Inst) (l:List Node) (hx:x.stops.length<2^31) (hl:l.length<2^31) (hn:∀n∈l,n.s.ok):Pure P 186 [x.a,.t (.sl (nodesT l))] (.t (.sl (nodesT (x.sortN l)))):=by
 refine pure_of Tryz.func186 rfl rfl (by simp [Tryz.f186]) (by simp [bnd,bnd.bndL,Inst.a]) (by simp [bnd,bnd.bndL]) fun B hB hnx=>?_
 simp only [Tryz.f186] at hB ⊢
 have hil:(nodesT l).length=l.length:=List.length_map _
 have hgt:∀(k:Nat) (h:k<l.length),(nodesT l)[k]'(by rw [hil];exact h)=l[k].t:=fun k h=>nodesT_get l h
 generalize hX:nodesT l=X at *
 have hmost:mostLen=4294967296:=rfl
 refine K_run hB 100 ?_
 simp [go_sem,Inst.a]
 refine K_loopP (α:=Nat×(Nat→AObj)×Nat) (fun (k,σ,nx)=>k≤l.length∧σ 0= .box x.cs∧0<nx) (fun (k,σ,nx)=>⟨sl [(1,.t (.sl X)),(2,.ptr 0 0),(5,.t (.sl (nodesT (x.sortN (l.take k))))),(6,.i k)],σ,nx⟩) (fun a=>l.length-a.1) (0,_,1) ?_ (Imp.loose.trans (Imp.slots (by simp [go_sem,loosen,nodesT,Inst.sortN,isort]) rfl rfl)) ?_
 ·exact ⟨Nat.zero_le _,by simp [oput,Inst.cs],by omega⟩
 rintro ⟨k,σ,nx⟩ ⟨g1,g2,g3⟩
 refine K_run hB 60 ?_
 simp [go_sem,hil]
 refine fork_dec (fun hk=>?_) (fun hk=>?_)
 ·have hkk:IntKind.i64.wrap ((k:Int)+1)=((k+1:Nat):Int):=by rw [w64 ((k:Int)+1) (by omega)];rfl
  have hget:∀h:k<X.length,X[k]'h=l[k].t:=fun h=>hgt k hk
  have hok:=hn l[k] (List.getElem_mem _)
  have htk:x.sortN (l.take (k+1))=insK x.of l[k] (x.sortN (l.take k)):=by rw [List.take_add_one,List.getElem?_eq_getElem hk];exact isort_snoc _ _
  have hsrt:Srt x.of (x.sortN (l.take k)):=(isort_sort _).srt
  have hOok:∀m∈x.sortN (l.take k),m.s.ok:=fun m hm=>hn m (List.mem_of_mem_take (Inst.sortN_mem.1 hm))
  have hOl:(x.sortN (l.take k)).length=k:=by rw [Inst.sortN_len,List.length_take];omega
  generalize l[k]=n at *
  generalize x.sortN (l.take k)=O at *
  have hof:=rof_pure x n hx hok
  have hYl:(nodesT O).length=k:=by rw [nodesT,List.length_map,hOl]
  have hY1:∀y∈nodesT O,y.length=10:=nodesT_len O
  have hYg:∀(k:Nat) (h:k<O.length),(nodesT O)[k]'(by rw [hYl,←hOl];exact h)=O[k].t:=fun k h=>nodesT_get O h
  generalize hY:nodesT O=Y at *
  have hn0:¬0=nx:=by omega
  simp [go_sem]
  refine K_drawn [] rfl (by rw [hB];kernel_rfl) ?_
  refine K_run hB 100 ?_
  simp [go_sem,hil,hk,hget,g2,Inst.cs,Node.t]
  refine K_dCallP rfl rfl rfl (args:=[x.a,n.a]) (f:=136) (by simp [go_sem,Inst.a,Node.a,Node.cs]) (hof) ?_
  refine K_run hB 100 ?_
  simp [go_sem,hYl]
  refine K_loopP (α:=Nat) (fun a=>a≤k∧∀m∈O.drop a,x.of n<x.of m) (fun a=>⟨sl [(1,.t (.sl X)),(2,.ptr 0 0),(5,.t (.sl Y)),(6,.i k),(7,.i (x.of n)),(8,.i a)],σ,nx⟩) (fun a=>a) k ⟨Nat.le_refl _,by rw [←hOl,List.drop_length];intro m hm;cases hm⟩ (Imp.slots (by simp [go_sem]) rfl rfl) ?_
  rintro a ⟨f1,f2⟩
  have hfin:(∀m∈O.take a,x.of m≤x.of n)→nodesT (x.sortN (l.take (k+1)))=Y.take a++([n.t]++Y.drop a):=fun h=>by
   have e:x.sortN (l.take (k+1))=O.take a++n :: O.drop a:=by
    rw [htk]
    conv=>lhs;rw [←List.take_append_drop a O]
    exact insK_split h f2
   rw [e,←hY]
   simp [nodesT,List.map_take,List.map_drop]
  have hA1s:∀y∈Y.take a,y.length=10:=fun y h=>hY1 y (List.mem_of_mem_take h)
  have hA2s:∀y∈Y.drop a,y.length=10:=fun y h=>hY1 y (List.mem_of_mem_drop h)
  have hA1l:(Y.take a).length=a:=by rw [List.length_take];omega
  have hA2l:(Y.drop a).length=k-a:=by rw [List.length_drop];omega
  obtain ⟨A1,hA1⟩:∃A1,A1=Y.take a:=⟨_,rfl⟩
  obtain ⟨A2,hA2⟩:∃A2,A2=Y.drop a:=⟨_,rfl⟩
  rw [←hA1] at hA1s hA1l
  rw [←hA2] at hA2s hA2l
  rw [←hA1,←hA2] at hfin
  have hak:(a:Int)≤k:=by omega
  have hcap1:a≤mostLen:=by omega
  have hcap2:a+1≤mostLen:=by omega
  have hcap3:a+1+(k-a)≤mostLen:=by omega
  have hn1:¬0=nx+1:=by omega
  have hn2:¬0=nx+2:=by omega
  by_cases c0:0<a
  rotate_left
  ·have h0:a=0:=by omega
   have hfin:=hfin (by rw [h0];intro m hm;cases hm)
   refine K_run hB 60 ?_
   simp [go_sem,c0]
   refine K_drawn [] rfl (by rw [hB];kernel_rfl) ?_
   refine K_run hB 100 ?_
   simp [go_sem,c0,if_pos hY1,f1,hA1.symm,hA2.symm,hA1l,hA2l,hcap1,hcap2,hcap3,if_pos hA1s,if_pos hA2s,hil,hk,hget,Node.t,hkk,hYl,hak]
   refine Next.mk (k+1,_,nx+3) ?_ ((Imp.freeze (q:=nx+2) (sz:=10) (es:=A1++([n.t]++A2)) (by simp [oput,Node.t])).trans (Imp.slots (by simp [go_sem,frz1,frz1.frzL,hfin]) rfl rfl)) (by simp only;omega)
   exact ⟨by simp only;omega,by simp [oput,frzO,frz1,frz1.frzL,Inst.cs,g2,hn0,hn1,hn2],by simp only;omega⟩
  ·obtain ⟨b,rfl⟩:∃b,a=b+1:=⟨a-1,by omega⟩
   have hbO:b<O.length:=by omega
   have hb:b<k:=by omega
   have hdb:O.drop b=O[b] :: O.drop (b+1):=List.drop_eq_getElem_cons hbO
   have hobk:=hOok O[b] (List.getElem_mem _)
   have hgb:∀h:b<Y.length,Y[b]'h=O[b].t:=fun h=>hYg b hbO
   have hpre:∀m∈O.take (b+1),x.of m≤x.of O[b]:=fun m hm=>by
    obtain ⟨i,hi,rfl⟩:=List.mem_iff_getElem.1 hm
    rw [List.length_take] at hi
    rw [List.getElem_take]
    by_cases e:i=b
    ·subst e;exact Int.le_refl _
    ·exact List.pairwise_iff_getElem.1 hsrt i b (by omega) hbO (by omega)
   generalize O[b]=m at *
   have hofm:=rof_pure x m hx hobk
   have w1:IntKind.i64.wrap ((b:Int)+1-1)=b:=by rw [w64 _ (by omega)];omega
   have w2:IntKind.i64.wrap (b:Int)=b:=w64 _ (by omega)
   have c2':(0:Int)≤(b:Int)+1:=by omega
   have c3':(b:Int)+1≤k:=by omega
   have c0':(0:Int)<(b:Int)+1:=by omega
   refine K_run hB 60 ?_
   simp [go_sem]
   refine K_drawn [] rfl (by rw [hB];kernel_rfl) ?_
   refine K_run hB 100 ?_
   simp [go_sem,c0,c0',w1,w2,hYl,hb,hgb,g2,Inst.cs,Node.t]
   refine K_dCallP rfl rfl rfl (args:=[x.a,m.a]) (f:=136) (by simp [go_sem,Inst.a,Node.a,Node.cs]) (hofm) ?_
   by_cases c1:x.of n<x.of m
   ·refine K_run hB 100 ?_
    simp [go_sem,c1,w1,w2]
    refine Next.mk b ⟨by omega,fun y hy=>?_⟩ (Imp.slots (by simp [go_sem]) rfl rfl) (by omega)
    rw [hdb] at hy
    rcases List.mem_cons.1 hy with rfl | hy
    ·exact c1
    ·exact f2 y hy
   ·have hfin:=hfin (fun y hy=>by have:=hpre y hy;omega)
    refine K_run hB 100 ?_
    simp [go_sem,c1,c2',c3',if_pos hY1,f1,hA1.symm,hA2.symm,hA1l,hA2l,hcap1,hcap2,hcap3,if_pos hA1s,if_pos hA2s,hil,hk,hget,Node.t,hkk,hYl,hak]
    refine Next.mk (k+1,_,nx+3) ?_ ((Imp.freeze (q:=nx+2) (sz:=10) (es:=A1++([n.t]++A2)) (by simp [oput,Node.t])).trans (Imp.slots (by simp [go_sem,frz1,frz1.frzL,hfin]) rfl rfl)) (by simp only;omega)
    exact ⟨by simp only;omega,by simp [oput,frzO,frz1,frz1.frzL,Inst.cs,g2,hn0,hn1,hn2],by simp only;omega⟩
 ·have:k=l.length:=by omega
  subst this
  simp [go_sem]
end Go.Proofs.YtackfabapangdaaGreat

set_option maxRecDepth 4000
namespace Go.Proofs.YtackfabapangdaaGreat
open Go Go.Proofs.YtackfabapangdaaGreat.R
theorem canB_of {f:Nat→Bool}:∀{n k:Nat},k<n→f k=true→(k:Int)∈canB f n
 |n+1,k,h,hf=>by
  rw [canB,List.mem_append]
  by_cases e:k=n
  ·subst e
   exact .inr (by rw [if_pos hf];simp)
  ·exact .inl (canB_of (by omega) hf)
theorem mem_moves {x:Inst} {s:State} {j:Int} (h:(x.move s j).2.2=true):j∈x.moves s:=by
 have hm:x.may=true:=by
  by_cases e:j=0
  ·subst e;exact (move_home h).1
  ·exact (move_pos h e).1
 obtain ⟨p,hx⟩:=x.fit hm
 have h1:=hx.len
 have h2:=hx.pairs
 have hj:0≤j∧j<x.stops.length:=by
  by_cases e:j=0
  ·omega
  ·have:=move_pos h e
   omega
 rw [moves_can]
 have:((j.toNat:Nat):Int)=j:=by omega
 rw [←this]
 exact canB_of (by omega) (by rw [this];exact h)
theorem move_seen_low {x:Inst} (hl:x.stops.length<2^31) (m:Node) (k:Int) (h0:0≤m.cost) (h1:m.cost+lowP x.near m.s.can≤k) (hk:k≤1152921504606846976):x.of m≤k:=by
 have hin:=lowP_in (near_le x) m.s.can
 rw [Inst.of,low_eq x m.s (by omega),sumI_two h0 hin.1 (by omega)]
 exact h1
theorem bests_fold (x:Inst) (v:Int):∀(l:List Node) (b:Node×Bool),((∃n∈l,(x.endS n.s).2=true∧sumI [n.cost,(x.endS n.s).1]=v)∨(b.2=true∧b.1.cost≤v))→(l.foldl x.best1 b).2=true∧(l.foldl x.best1 b).1.cost≤v
 |[],b,h=>by
  rcases h with ⟨n,h,_⟩ | h
  ·cases h
  ·exact h
 |n :: l,b,h=>by
  refine bests_fold x v l (x.best1 b n) ?_
  have key:b.2=true∧b.1.cost≤v→(x.best1 b n).2=true∧(x.best1 b n).1.cost≤v:=by
   rintro ⟨h1,h2⟩
   unfold Inst.best1
   split
   ·rename_i hc
    refine ⟨rfl,?_⟩
    rcases hc.2 with hc | hc
    ·rw [h1] at hc;cases hc
    ·simp only;omega
   ·exact ⟨h1,h2⟩
  rcases h with ⟨m,hm,h1,h2⟩ | h
  ·rcases List.mem_cons.1 hm with rfl | hm
   ·refine .inr ?_
    unfold Inst.best1
    split
    ·exact ⟨rfl,by simp only;omega⟩
    ·rename_i hc
     have hb:b.2=true:=by
      cases e:b.2 with
      |true=>rfl
      |false=>exact absurd ⟨h1,.inl e⟩ hc
     refine ⟨hb,?_⟩
     have:¬sumI [m.cost,(x.endS m.s).1]<b.1.cost:=fun e=>hc ⟨h1,.inr e⟩
     omega
   ·exact .inl ⟨m,hm,h1,h2⟩
  ·exact .inr (key h)
theorem bests_has {x:Inst} {l:List Node} {n:Node} (hn:n∈l) (he:(x.endS n.s).2=true):(x.bests l).2=true∧(x.bests l).1.cost≤sumI [n.cost,(x.endS n.s).1]:=bests_fold x _ l _ (.inl ⟨n,hn,he,rfl⟩)
end Go.Proofs.YtackfabapangdaaGreat

set_option maxRecDepth 4000
namespace Go.Proofs.YtackfabapangdaaGreat
open Go Go.Proofs.YtackfabapangdaaGreat.R
def Inst.base (x:Inst) (s:State):Nat:=((List.range (2*x.pairs.toNat+1)).filter fun j:Nat=>decide (1≤j)&& !hasB s.must (j:Int)).length+(x.cars-s.car).toNat
theorem base_move {x:Inst} {s:State} {j:Int} (h:(x.move s j).2.2=true):x.base (x.move s j).1<x.base s:=by
 by_cases e:j=0
 ·subst e
  obtain ⟨_,_,h3,h4⟩:=move_home h
  rw [h4]
  simp only [Inst.stayB,Bool.or_eq_false_iff,decide_eq_false_iff_not] at h3
  simp only [Inst.base,Inst.homeS]
  have:=h3.1.1.2
  omega
 ·obtain ⟨h1,h2,h3,h4,h5,_,_,h6⟩:=move_pos h e
  obtain ⟨p,hx⟩:=x.fit h1
  have:=hx.few
  have:=hx.pairs
  rw [h6]
  simp only [Inst.lateB,Bool.or_eq_false_iff] at h5
  simp only [Inst.base,Inst.rvisit]
  obtain ⟨k,rfl⟩:∃k:Nat,j=k:=⟨j.toNat,by omega⟩
  refine Nat.add_lt_add_right (filter_lt _ (a:=k) (List.mem_range.2 (by omega)) ?_ ?_ ?_) _
  ·rw [h5.1]
   simp only [Bool.not_false,Bool.and_true,decide_eq_true_eq]
   omega
  ·rw [has_withN (by omega)]
   simp
  ·intro b
   rw [has_withN (by omega)]
   simp only [Bool.and_eq_true,Bool.not_eq_true',Bool.or_eq_false_iff]
   exact fun h=>⟨h.1,h.2.1⟩
def Inst.meas (x:Inst) (s:State):Nat:=if x.may=true∧s.mayB x=true then x.base s else 0
theorem move_may {x:Inst} {s:State} {j:Int} (h:(x.move s j).2.2=true):x.may=true∧s.mayB x=true:=by
 by_cases e:j=0
 ·subst e
  exact ⟨(move_home h).1,(move_home h).2.1⟩
 ·exact ⟨(move_pos h e).1,(move_pos h e).2.1⟩
theorem meas_move {x:Inst} {s:State} {j:Int} (h:(x.move s j).2.2=true):x.meas (x.move s j).1<x.meas s:=by
 have h1:=base_move h
 have h2:=move_may h
 have:x.meas (x.move s j).1≤x.base (x.move s j).1:=by
  unfold Inst.meas
  split<;>omega
 have:x.meas s=x.base s:=by rw [Inst.meas,if_pos h2]
 omega
theorem meas_le (x:Inst) (s:State):x.meas s≤40:=by
 unfold Inst.meas
 split
 ·rename_i h
  obtain ⟨p,hx⟩:=x.fit h.1
  have h1:=hx.few
  have h2:=hx.pairs
  have h3:=hx.cars
  have h4:=h.2
  simp only [State.mayB,Bool.and_eq_true,decide_eq_true_eq] at h4
  have h5:=h4.1.1.1.1.1.2
  have h6:((List.range (2*x.pairs.toNat+1)).filter fun j:Nat=>decide (1≤j)&& !hasB s.must (j:Int)).length≤2*x.pairs.toNat+1:=by
   refine Nat.le_trans (List.length_filter_le _ _) ?_
   rw [List.length_range];exact Nat.le_refl _
  unfold Inst.base
  omega
 ·omega
def Inst.look (x:Inst) (st:Node×Bool×Int) (l:List Node):Node×Bool×Int:=
 if (x.bests l).2=true∧(x.bests l).1.cost<st.2.2 then ((x.bests l).1,true,(x.bests l).1.cost) else st
def Inst.exGo (x:Inst) (most:Int):Nat→Node×Bool×Int→List Node→Int→Node×Bool×Bool×Int
 |0,st,_,n=>(st.1,st.2.1,true,n)
 |d+1,st,l,n=>if l.length=0 then (st.1,st.2.1,true,n) else if most<l.length then (st.1,st.2.1,false,n) else
  x.exGo most d (x.look st l) (frontL (x.next l st.2.2)) (IntKind.i64.wrap (n+l.length))
def Inst.exact (x:Inst) (n:Node) (up most:Int):Node×Bool×Bool×Int:=x.exGo most (x.meas n.s+1) (Node.zero,false,up) [n] 0
def exRes4 (r:Node×Bool×Bool×Int):AV:=.tup [r.1.a,.b r.2.1,.b r.2.2.1,.i r.2.2.2]
structure Level (x:Inst) (l:List Node) (d K:Nat):Prop where
 ok:∀n∈l,n.s.ok
 deep:∀n∈l,x.meas n.s<d
 path:∀n∈l,n.path.length+d≤K
theorem Level.next {x:Inst} {l:List Node} {d K:Nat} (h:Level x l (d+1) K) (up:Int):Level x (frontL (x.next l up)) d K:=by
 have key:∀m∈frontL (x.next l up),∃n∈l,∃j,(x.move n.s j).2.2=true∧m=x.child n j:=by
  intro m hm
  obtain ⟨n,hn,j,hj,e,_⟩:=next_mem ((front_inv _).sub m hm)
  exact ⟨n,hn,j,moves_mem hj,e⟩
 refine ⟨?_,?_,?_⟩
 ·intro m hm
  obtain ⟨n,hn,j,hj,rfl⟩:=key m hm
  exact move_ok x j (h.ok n hn)
 ·intro m hm
  obtain ⟨n,hn,j,hj,rfl⟩:=key m hm
  have:=meas_move hj
  have:=h.deep n hn
  show x.meas (x.move n.s j).1<d
  omega
 ·intro m hm
  obtain ⟨n,hn,j,hj,rfl⟩:=key m hm
  have:=h.path n hn
  show (n.path++[j]).length+d≤K
  rw [List.length_append]
  simp only [List.length_cons,List.length_nil]
  omega
theorem Level.empty {x:Inst} {l:List Node} {K:Nat} (h:Level x l 0 K):l=[]:=by
 cases l with
 |nil=>rfl
 |cons n l=>exact absurd (h.deep n List.mem_cons_self) (by omega)
theorem Level.root (x:Inst) (n:Node) (h:n.s.ok):Level x [n] (x.meas n.s+1) (n.path.length+x.meas n.s+1):=by
 refine ⟨?_,?_,?_⟩<;>(intro m hm;rw [List.mem_singleton.1 hm])
 ·exact h
 ·omega
 ·omega
end Go.Proofs.YtackfabapangdaaGreat

set_option maxRecDepth 4000
set_option maxHeartbeats 1000000
namespace Go.Proofs.YtackfabapangdaaGreat
open Go Go.Proofs.YtackfabapangdaaGreat.R
def Inst.few (x:Inst) (W:Nat) (l:List Node) (up:Int):List Node:=(x.sortN (x.next l up)).take W
def Inst.naGo (x:Inst) (W:Nat):Nat→Node×Bool×Int→List Node→Int→Node×Bool×Int
 |0,st,_,n=>(st.1,st.2.1,n)
 |d+1,st,l,n=>if l.length=0 then (st.1,st.2.1,n) else x.naGo W d (x.look st l) (x.few W l st.2.2) (IntKind.i64.wrap (n+l.length))
def widthN (w:Int):Nat:=if w<1 then 1 else w.toNat
def Inst.narrow (x:Inst) (n:Node) (width up:Int):Node×Bool×Int:=x.naGo (widthN width) (x.meas n.s+1) (Node.zero,false,up) [n] 0
def naRes (r:Node×Bool×Int):AV:=.tup [r.1.a,.b r.2.1,.i r.2.2]
theorem few_mem {x:Inst} {W:Nat} {l:List Node} {up:Int} {n:Node} (h:n∈x.few W l up):n∈x.next l up:=Inst.sortN_mem.1 (List.mem_of_mem_take h)
theorem few_len (x:Inst) (W:Nat) (l:List Node) (up:Int):(x.few W l up).length≤W:=by rw [Inst.few,List.length_take];omega
theorem Level.few {x:Inst} {l:List Node} {d K:Nat} (h:Level x l (d+1) K) (W:Nat) (up:Int):Level x (x.few W l up) d K:=by
 have key:∀m∈x.few W l up,∃n∈l,∃j,(x.move n.s j).2.2=true∧m=x.child n j:=by
  intro m hm
  obtain ⟨n,hn,j,hj,e,_⟩:=next_mem (few_mem hm)
  exact ⟨n,hn,j,moves_mem hj,e⟩
 refine ⟨?_,?_,?_⟩
 ·intro m hm
  obtain ⟨n,hn,j,hj,rfl⟩:=key m hm
  exact move_ok x j (h.ok n hn)
 ·intro m hm
  obtain ⟨n,hn,j,hj,rfl⟩:=key m hm
  have:=meas_move hj
  have:=h.deep n hn
  show x.meas (x.move n.s j).1<d
  omega
 ·intro m hm
  obtain ⟨n,hn,j,hj,rfl⟩:=key m hm
  have:=h.path n hn
  show (n.path++[j]).length+d≤K
  rw [List.length_append]
  simp only [List.length_cons,List.length_nil]
  omega
theorem nbest_pure (x:Inst) (n:Node) (width up:Int) (hl:x.stops.length<2^31) (hw:width≤3000) (ho:n.s.ok) (hp:n.path.length<2^29):Pure P 130 [x.a,n.a,.i width,.i up] (naRes (x.narrow n width up)):=by
 generalize hR:x.narrow n width up=R
 refine pure_of Tryz.func130 rfl rfl (by simp [Tryz.f130]) (by simp [bnd,bnd.bndL,Inst.a,Node.a,Node.cs]) (by simp [bnd,bnd.bndL,naRes,Node.a,Node.cs]) fun B hB hnx=>?_
 simp only [Tryz.f130] at hB ⊢
 have hlev:=Level.root x n ho
 have hmeas:=meas_le x n.s
 rw [Inst.narrow] at hR
 generalize hd:x.meas n.s+1=d0 at *
 generalize hK:n.path.length+x.meas n.s+1=K at *
 have hW1:max width 1=(widthN width:Nat):=by unfold widthN;split<;>omega
 have hW2:widthN width≤3000:=by unfold widthN;split<;>omega
 generalize widthN width=W at *
 refine K_run hB 100 ?_
 simp [go_sem,Inst.a,Node.a,Node.cs]
 refine K_less ((Imp.looseB (b:=2) (cs:=[.i 0,.i 0,.i 0,.i 0,.i 0,.u 0,.u 0,.u 0,.i 0,.fsl []]) (by simp [oput])).trans ((Imp.looseB (b:=3) (cs:=[.i 0,.i 0,.i 0,.i 0,.i 0,.u 0,.u 0,.u 0,.i 0,.fsl []]) (by simp [oput])).trans Imp.loose)) ?_
 refine K_loopP (α:=Nat×(Node×Bool×Int)×List Node×Int×(Nat→AObj)×Nat) (fun (d,st,l,n,σ,nx)=>Level x l d K∧x.naGo W d st l n=R∧l.length≤3000∧σ 0= .box x.cs∧σ 2= .box Node.zero.cs∧σ 3= .box st.1.cs∧3<nx)
  (fun (d,st,l,n,σ,nx)=>⟨sl [(2,.i width),(3,.i st.2.2),(4,.ptr 0 0),(8,.ptr 2 0),(11,.ptr 3 0),(12,.b st.2.1),(13,.i n),(14,.t (.sl (nodesT l)))],σ,nx⟩) (fun a=>a.1) (d0,(Node.zero,false,up),[n],0,_,4) ?_ (Imp.slots (by simp [go_sem,loosen,nodesT,Node.t]) rfl rfl) ?_
 ·exact ⟨hlev,hR,by simp,by simp [oput,Inst.cs],by simp [oput,Node.zero,State.zero,Node.cs,ints,loosen],by simp [oput,Node.zero,State.zero,Node.cs,ints,loosen],by omega⟩
 rintro ⟨d,st,l,n,σ,nx⟩ ⟨g1,g2,g0,g3,g4,g5,g6⟩
 have hil:(nodesT l).length=l.length:=List.length_map _
 have hgo:x.naGo W d st l n=match d with
  |0=>(st.1,st.2.1,n)
  |d+1=>if l.length=0 then (st.1,st.2.1,n) else x.naGo W d (x.look st l) (x.few W l st.2.2) (IntKind.i64.wrap (n+l.length)):=by cases d<;>rfl
 by_cases c1:l.length=0
 ·have hr:R=(st.1,st.2.1,n):=by
   rw [←g2,hgo]
   cases d with
   |zero=>rfl
   |succ d=>simp only;rw [if_pos c1]
  subst hr
  refine K_run hB 100 ?_
  simp [go_sem,hil,c1,g4,g5,Node.cs]
  rfl
 cases d with
 |zero=>exact absurd (by rw [g1.empty];rfl) c1
 |succ d=>
  simp only at hgo
  rw [if_neg c1] at hgo
  have c4:0<l.length:=by omega
  rw [hgo] at g2
  have hx:=expand_pure x l st.2.2 hl (by omega) (fun m h=>⟨g1.ok m h,by have:=g1.path m h;omega⟩) (fun m h=>by have:=g1.path m h;omega)
  have q1:=next_len x l st.2.2
  have q2:∀m∈x.next l st.2.2,m.Fine:=by
   intro m hm
   obtain ⟨k,h,j,_,rfl,_⟩:=next_mem hm
   refine ⟨move_ok x j (g1.ok k h),?_⟩
   have:=g1.path k h
   show (k.path++[j]).length<2^31
   rw [List.length_append]
   simp only [List.length_cons,List.length_nil]
   omega
  have hf:=sorted_pure x (x.next l st.2.2) hl (by omega) q2
  have hlv:=g1.few W st.2.2
  have hfl:=few_len x W l st.2.2
  rw [Inst.few] at hlv hfl g2
  have hsl:=x.sortN_len (x.next l st.2.2)
  have hlk:x.look st l=if (x.bests l).2=true∧(x.bests l).1.cost<st.2.2 then ((x.bests l).1,true,(x.bests l).1.cost) else st:=rfl
  generalize x.look st l=st' at *
  generalize x.next l st.2.2=M at *
  generalize x.sortN M=S at *
  generalize x.bests l=Rb at *
  obtain ⟨b,is⟩:=Rb
  simp only at hlk
  have hm:min (S.length:Int) (max width 1)=(min S.length W:Nat):=by rw [hW1];omega
  have htk:S.take W=S.take (min S.length W):=by
   by_cases h:W≤S.length
   ·rw [Nat.min_eq_right h]
   ·rw [Nat.min_eq_left (by omega),List.take_length,List.take_of_length_le (by omega)]
  rw [htk] at hlv hfl g2
  have hkl:min S.length W≤S.length:=by omega
  generalize min S.length W=k at *
  have hSl:(nodesT S).length=S.length:=List.length_map _
  have hS1:=nodesT_len S
  have hSt:(nodesT S).take k=nodesT (S.take k):=by rw [nodesT,nodesT,List.map_take]
  refine K_run hB 100 ?_
  simp [go_sem,hil,c4,g3,Inst.cs]
  refine K_call rfl rfl rfl (args:=[x.a,.t (.sl (nodesT l)),.i st.2.2]) (f:=180) (by simp [go_sem,Inst.a]) (by simp [go_sem,hB]) ((hx).spec _ _) ?_
  have m0:¬0=nx:=by omega
  have m2:¬2=nx:=by omega
  have m3:¬3=nx:=by omega
  have m4:¬nx=3:=by omega
  cases is with
  |false=>
   rw [if_neg (by simp)] at hlk
   subst hlk
   refine K_run hB 100 ?_
   simp [go_sem,expRes,Node.a,Node.cs,g3,m0,Inst.cs]
   refine K_call rfl rfl rfl (args:=[x.a,.t (.sl (nodesT M))]) (f:=181) (by simp [go_sem,Inst.a]) (by simp [go_sem,hB]) ((hf).spec _ _) ?_
   refine K_run hB 100 ?_
   simp [go_sem,hSl,hm,if_pos hS1,hSt,hkl]
   refine Next.mk (d,st',S.take k,IntKind.i64.wrap (n+l.length),_,nx+1) ?_ (Imp.loose.trans (Imp.slots (by simp [go_sem,loosen]) rfl rfl)) (by simp only;omega)
   exact ⟨hlv,g2,by simp only;omega,by simp [oput,g3,m0,Inst.cs],by simp [oput,g4,m2,Node.cs],by simp [oput,g5,m3,Node.cs],by simp only;omega⟩
  |true=>
   by_cases c5:b.cost<st.2.2
   ·rw [if_pos ⟨rfl,c5⟩] at hlk
    subst hlk
    refine K_run hB 100 ?_
    simp [go_sem,expRes,Node.a,Node.cs,c5]
    refine K_drawnF [3] [1,2] rfl (by rw [hB];kernel_rfl) (by kernel_rfl) fun ht hf'=>?_
    refine K_run hB 100 ?_
    simp [go_sem,ht,hf',c5,m3,m4,m0,g3,g5,Inst.cs,Node.cs]
    refine K_call rfl rfl rfl (args:=[x.a,.t (.sl (nodesT M))]) (f:=181) (by simp [go_sem,Inst.a]) (by simp [go_sem,hB]) ((hf).spec _ _) ?_
    refine K_run hB 100 ?_
    simp [go_sem,hSl,hm,if_pos hS1,hSt,hkl]
    refine Next.mk (d,(b,true,b.cost),S.take k,IntKind.i64.wrap (n+l.length),_,nx+1) ?_ (Imp.loose.trans (Imp.slots (by simp [go_sem,loosen]) rfl rfl)) (by simp only;omega)
    exact ⟨hlv,g2,by simp only;omega,by simp [oput,g3,m0,Inst.cs],by simp [oput,g4,m2,Node.cs],by simp [oput,g5,m3,Node.cs],by simp only;omega⟩
   ·rw [if_neg (fun h=>c5 h.2)] at hlk
    subst hlk
    refine K_run hB 100 ?_
    simp [go_sem,expRes,Node.a,Node.cs,c5,g3,m0,Inst.cs]
    refine K_call rfl rfl rfl (args:=[x.a,.t (.sl (nodesT M))]) (f:=181) (by simp [go_sem,Inst.a]) (by simp [go_sem,hB]) ((hf).spec _ _) ?_
    refine K_run hB 100 ?_
    simp [go_sem,hSl,hm,if_pos hS1,hSt,hkl]
    refine Next.mk (d,st',S.take k,IntKind.i64.wrap (n+l.length),_,nx+1) ?_ (Imp.loose.trans (Imp.slots (by simp [go_sem,loosen]) rfl rfl)) (by simp only;omega)
    exact ⟨hlv,g2,by simp only;omega,by simp [oput,g3,m0,Inst.cs],by simp [oput,g4,m2,Node.cs],by simp [oput,g5,m3,Node.cs],by simp only;omega⟩
end Go.Proofs.YtackfabapangdaaGreat

set_option maxRecDepth 4000
namespace Go.Proofs.YtackfabapangdaaGreat
open Go Go.Proofs.YtackfabapangdaaGreat.R
def stOk (st:Node×Bool×Int):Prop:=st.2.1=true→st.1.cost=st.2.2
theorem look_ok {x:Inst} {st:Node×Bool×Int} {l:List Node} (h:stOk st):stOk (x.look st l)∧(x.look st l).2.2≤st.2.2∧(st.2.1=true→(x.look st l).2.1=true):=by
 unfold Inst.look
 split
 ·rename_i hc
  exact ⟨fun _=>rfl,by simp only;omega,fun _=>rfl⟩
 ·exact ⟨h,Int.le_refl _,fun h=>h⟩
end Go.Proofs.YtackfabapangdaaGreat

set_option maxRecDepth 4000
namespace Go.Proofs.YtackfabapangdaaGreat
open Go Go.Proofs.YtackfabapangdaaGreat.R
def Inst.way (x:Inst):List Int→State→Int→Prop
 |[],s,c=>(x.endS s).2=true∧c=(x.endS s).1
 |j :: l,s,c=>(x.move s j).2.2=true∧∃d,x.way l (x.move s j).1 d∧c=(x.move s j).2.1+d
theorem way_in {x:Inst}:∀{l:List Int} {s:State} {c:Int},x.way l s c→0≤c∧c≤14143*(l.length+1)
 |[],s,c,h=>by
  have:=end_cost h.1
  have:=h.2
  simp only [List.length_nil]
  omega
 |j :: l,s,c,h=>by
  obtain ⟨h1,d,h2,h3⟩:=h
  have:=way_in h2
  have:=move_cost h1
  rw [List.length_cons]
  omega
theorem way_len {x:Inst}:∀{l:List Int} {s:State} {c:Int},x.way l s c→l.length≤x.meas s
 |[],s,c,h=>Nat.zero_le _
 |j :: l,s,c,h=>by
  obtain ⟨h1,d,h2,h3⟩:=h
  have:=way_len h2
  have:=meas_move h1
  rw [List.length_cons]
  omega
theorem way_low {x:Inst}:∀{l:List Int} {s:State} {c:Int},s.seenAt→x.way l s c→lowP x.near s.can≤c
 |[],s,c,_,h=>by rw [h.2];exact low_end h.1
 |j :: l,s,c,hs,h=>by
  obtain ⟨h1,d,h2,h3⟩:=h
  have:=way_low (seen_step h1) h2
  have:=low_step hs h1
  omega
theorem way_app {x:Inst}:∀{l:List Int} {s t:State} {c0 c1:Int} {m:List Int} {d:Int},0≤c0→c0+14143*l.length<9223372036854775808→x.goes l s c0=some (t,c1)→x.way m t d→x.way (l++m) s (c1-c0+d)
 |[],s,t,c0,c1,m,d,_,_,h,he=>by
  rw [Inst.goes] at h
  cases h
  have:c0-c0+d=d:=by omega
  rw [this]
  exact he
 |j :: l,s,t,c0,c1,m,d,h0,hl,h,he=>by
  rw [Inst.goes] at h
  split at h
  ·rename_i hm
   have hc:=move_cost hm
   rw [List.length_cons] at hl
   rw [w64 _ (by omega)] at h
   exact ⟨hm,_,way_app (by omega) (by omega) h he,by omega⟩
  ·cases h
structure State.Pos (s:State):Prop where
 car:1≤s.car
 time:0≤s.time
 load:0≤s.load
theorem within_with {a b k:Nat} (hk:k≤63) (h:withinB a b=true):withinB (withN a k) (withN b k)=true:=by
 rw [withinB,List.all_eq_true] at *
 intro i hi
 have:=h i hi
 rw [with_bit hk,with_bit hk]
 revert this
 cases a.testBit i<;>cases b.testBit i<;>cases decide (k=i)<;>simp
theorem within_without {a b k:Nat} (hk:k≤63) (h:withinB a b=true):withinB (withoutN a k) (withoutN b k)=true:=by
 rw [withinB,List.all_eq_true] at *
 intro i hi
 have:=h i hi
 have hi':=List.mem_range.1 hi
 rw [without_bit hk hi',without_bit hk hi']
 revert this
 cases a.testBit i<;>cases b.testBit i<;>cases decide (k=i)<;>simp
theorem within_zero {a:Nat} (ha:a<2^64) (h:withinB a 0=true):a=0:=by
 refine Nat.eq_of_testBit_eq fun i=>?_
 by_cases hi:i<64
 ·rw [withinB,List.all_eq_true] at h
  have:=h i (List.mem_range.2 hi)
  revert this
  cases a.testBit i<;>simp
 ·rw [Nat.zero_testBit]
  exact Nat.testBit_lt_two_pow (Nat.lt_of_lt_of_le ha (Nat.pow_le_pow_right (by omega) (by omega)))
theorem cov_mk {a b:State} (e1:a.spot=b.spot) (e2:withinB a.must b.must=true) (e3:withinB a.on b.on=true) (e4:withinB b.can a.can=true) (e5:a.car≤b.car) (e6:a.time≤b.time) (e7:a.load≤b.load) (e8:a.first≤b.first):coversB a b=true:=by
 simp only [coversB,Bool.and_eq_true,decide_eq_true_eq]
 exact ⟨⟨⟨⟨⟨⟨⟨e1,e2⟩,e3⟩,e4⟩,e5⟩,e6⟩,e7⟩,e8⟩
theorem cov_may {x:Inst} {a b:State} (h:coversB a b=true) (hp:a.Pos) (hb:b.mayB x=true):a.mayB x=true:=by
 simp only [coversB,Bool.and_eq_true,decide_eq_true_eq] at h
 simp only [State.mayB,Bool.and_eq_true,decide_eq_true_eq] at hb ⊢
 have:=hp.car
 have:=hp.time
 have:=hp.load
 omega
theorem cov_home {x:Inst} {a b:State} (hcov:coversB a b=true) (hp:a.Pos) (ho:a.ok) (h:(x.move b 0).2.2=true):
  x.move a 0=(x.homeS a,far (x.stop b.spot) (x.stop 0),true)∧coversB (x.homeS a) (x.homeS b)=true∧(x.homeS a).Pos:=by
 have hc:=hcov
 simp only [coversB,Bool.and_eq_true,decide_eq_true_eq] at hc
 obtain ⟨⟨⟨⟨⟨⟨⟨e1,e2⟩,e3⟩,e4⟩,e5⟩,e6⟩,e7⟩,e8⟩:=hc
 obtain ⟨h1,h2,h3,h4⟩:=move_home h
 obtain ⟨p,hx⟩:=x.fit h1
 have hpp:=hx.pairs
 have ha:=cov_may hcov hp h2
 have hs:x.stayB a=false:=by
  simp only [Inst.stayB,Bool.or_eq_false_iff,decide_eq_false_iff_not] at h3 ⊢
  obtain ⟨⟨⟨⟨a1,a2⟩,a3⟩,a4⟩,a5⟩:=h3
  have hon:a.on=0:=by
   have:b.on=0:=by omega
   rw [this] at e3
   exact within_zero ho.on e3
  refine ⟨⟨⟨⟨by rw [e1];exact a1,by omega⟩,by omega⟩,?_⟩,by rw [e1];omega⟩
  cases hq:x.allB a.must with
  |false=>rfl
  |true=>
   have:=within_trans hq e2
   rw [Inst.allB] at a4
   rw [a4] at this
   cases this
 have hto:x.to a 0=(x.homeS a,true):=by rw [Inst.to,if_pos rfl,Inst.home,if_neg (by rw [hs];simp)]
 have hmv:=move_mk (j:=0) h1 ha (by omega) (by rw [hto])
 rw [hto,e1] at hmv
 have h5:=(hx.at (j:=0) (by omega) (by omega)).ready
 have h6:=hp.car
 refine ⟨hmv,cov_mk (a:=x.homeS a) (b:=x.homeS b) rfl e2 e3 e4 ?_ ?_ ?_ e8,⟨?_,?_,?_⟩⟩<;>simp only [Inst.homeS]<;>omega
theorem cov_pos {x:Inst} {a b:State} {j:Int} (hj:j≠0) (hcov:coversB a b=true) (hp:a.Pos) (h:(x.move b j).2.2=true):
  x.move a j=(x.rvisit a j (x.begins a j),far (x.stop b.spot) (x.stop j),true)∧coversB (x.rvisit a j (x.begins a j)) (x.rvisit b j (x.begins b j))=true∧(x.rvisit a j (x.begins a j)).Pos:=by
 have hc:=hcov
 simp only [coversB,Bool.and_eq_true,decide_eq_true_eq] at hc
 obtain ⟨⟨⟨⟨⟨⟨⟨e1,e2⟩,e3⟩,e4⟩,e5⟩,e6⟩,e7⟩,e8⟩:=hc
 obtain ⟨h1,h2,h3,h4,h5,h6,h7,h8⟩:=move_pos h hj
 obtain ⟨p,hx⟩:=x.fit h1
 have hpp:=hx.pairs
 have hfew:=hx.few
 have ha:=cov_may hcov hp h2
 have hbe:x.begins a j≤x.begins b j:=by
  unfold Inst.begins
  rw [e1]
  omega
 have k1:x.lateB a j=false:=by
  simp only [Inst.lateB,Bool.or_eq_false_iff,decide_eq_false_iff_not] at h5 ⊢
  refine ⟨?_,by omega⟩
  cases hq:hasB a.must j with
  |false=>rfl
  |true=>
   have:=within_has e2 j hq
   rw [h5.1] at this
   cases this
 have k2:j≤x.pairs→x.fullB a j=false:=fun hh=>by
  have:=h6 hh
  simp only [Inst.fullB,Bool.or_eq_false_iff,Bool.and_eq_false_iff,decide_eq_false_iff_not] at this ⊢
  refine ⟨by omega,?_⟩
  rcases this.2 with h9 | h9
  ·exact .inl (by rw [e1];exact h9)
  ·exact .inr (by omega)
 have k3:x.pairs<j→x.emptyB a j=false:=fun hh=>by
  have:=h7 hh
  simp only [Inst.emptyB,Bool.or_eq_false_iff,Bool.not_eq_false',decide_eq_false_iff_not] at this ⊢
  exact ⟨by rw [e1];exact this.1,within_has e4 _ this.2⟩
 have hto:=to_visit (x:=x) (s:=a) hj k1 k2 k3
 have hmv:=move_mk (j:=j) h1 ha (by omega) (by rw [hto])
 rw [hto,e1] at hmv
 have h9:=(hx.at (j:=j) (by omega) (by omega)).service
 have h10:=(far_le (x.stop a.spot) (x.stop j)).1
 have h11:=hp.time
 have h12:=hp.car
 have h13:0≤x.begins a j:=by unfold Inst.begins;omega
 obtain ⟨k,hk⟩:∃k:Nat,j=k:=⟨j.toNat,by omega⟩
 refine ⟨hmv,?_,⟨?_,?_,?_⟩⟩
 ·generalize x.begins a j=ta at *
  generalize x.begins b j=tb at *
  generalize x.stop j=sj at *
  refine cov_mk ?_ ?_ ?_ ?_ ?_ ?_ ?_ ?_
  ·simp only [Inst.rvisit]
  ·simp only [Inst.rvisit]
   rw [hk]
   exact within_with (by omega) e2
  ·simp only [Inst.rvisit]
   rw [hk]
   split
   ·exact within_with (by omega) e3
   ·obtain ⟨q,hq⟩:∃q:Nat,(k:Int)-x.pairs=q:=⟨((k:Int)-x.pairs).toNat,by omega⟩
    rw [hq]
    exact within_without (by omega) e3
  ·simp only [Inst.rvisit]
   rw [hk]
   exact within_with (by omega) e4
  ·simp only [Inst.rvisit]
   exact e5
  ·simp only [Inst.rvisit]
   omega
  ·simp only [Inst.rvisit]
   omega
  ·simp only [Inst.rvisit]
   rw [e1]
   split
   ·exact Int.le_refl _
   ·exact e8
 ·simp only [Inst.rvisit];exact h12
 ·simp only [Inst.rvisit];omega
 ·simp only [Inst.rvisit];omega
theorem cov_move {x:Inst} {a b:State} {j:Int} (hc:coversB a b=true) (hp:a.Pos) (ho:a.ok) (h:(x.move b j).2.2=true):
  (x.move a j).2.2=true∧(x.move a j).2.1=(x.move b j).2.1∧coversB (x.move a j).1 (x.move b j).1=true∧(x.move a j).1.Pos:=by
 by_cases hj:j=0
 ·subst hj
  obtain ⟨g1,g2,g3⟩:=cov_home hc hp ho h
  rw [g1,(move_home h).2.2.2]
  exact ⟨rfl,rfl,g2,g3⟩
 ·obtain ⟨g1,g2,g3⟩:=cov_pos hj hc hp h
  rw [g1,(move_pos h hj).2.2.2.2.2.2.2]
  exact ⟨rfl,rfl,g2,g3⟩
theorem cov_end {x:Inst} {a b:State} (h0:x.pairs≠0) (hc:coversB a b=true) (hp:a.Pos) (ho:a.ok) (h:(x.endS b).2=true):(x.endS a).2=true∧(x.endS a).1=(x.endS b).1:=by
 have hcov:=hc
 simp only [coversB,Bool.and_eq_true,decide_eq_true_eq] at hc
 obtain ⟨⟨⟨⟨⟨⟨⟨e1,e2⟩,e3⟩,e4⟩,e5⟩,e6⟩,e7⟩,e8⟩:=hc
 obtain ⟨h1,h2 | ⟨h2,h3,h4,h5,h6,h7⟩⟩:=end_is h
 ·exact absurd h2.1 h0
 ·have hon:a.on=0:=by
   rw [h4] at e3
   exact within_zero ho.on e3
  have hend:x.endS a=(far (x.stop a.spot) (x.stop 0),true):=by
   rw [Inst.endS,if_neg (by simp [h1]),if_neg (fun h=>h0 h.1),if_pos]
   refine ⟨cov_may hcov hp h2,by rw [e1];exact h3,hon,?_,by rw [e1];omega⟩
   exact within_trans h5 e4
  rw [hend,h7,e1]
  exact ⟨rfl,rfl⟩
theorem cov_way {x:Inst} (h0:x.pairs≠0):∀{l:List Int} {a b:State} {c:Int},coversB a b=true→a.Pos→a.ok→x.way l b c→x.way l a c
 |[],a,b,c,hc,hp,ho,h=>by
  obtain ⟨h1,h2⟩:=cov_end h0 hc hp ho h.1
  exact ⟨h1,by rw [h2];exact h.2⟩
 |j :: l,a,b,c,hc,hp,ho,h=>by
  obtain ⟨h1,d,h2,h3⟩:=h
  obtain ⟨g1,g2,g3,g4⟩:=cov_move hc hp ho h1
  exact ⟨g1,d,cov_way h0 g3 g4 (move_ok x j ho) h2,by omega⟩
theorem pos_move {x:Inst} {s:State} {j:Int} (hp:s.Pos) (ho:s.ok) (h:(x.move s j).2.2=true):(x.move s j).1.Pos:=(cov_move (covers_refl s) hp ho h).2.2.2
theorem pos_root {x:Inst} (h:x.may=true):x.rootS.Pos:=by
 obtain ⟨p,hx⟩:=x.fit h
 have:=(hx.at (j:=0) (by omega) (by omega)).ready
 rw [Inst.rootS,if_pos h]
 exact ⟨Int.le_refl _,this.1,Int.le_refl _⟩
theorem move_pairs {x:Inst} {s:State} {j:Int} (h:(x.move s j).2.2=true):x.pairs≠0:=by
 by_cases hj:j=0
 ·subst hj
  obtain ⟨h1,h2,h3,h4⟩:=move_home h
  simp only [Inst.stayB,Bool.or_eq_false_iff,decide_eq_false_iff_not] at h3
  simp only [State.mayB,Bool.and_eq_true,decide_eq_true_eq] at h2
  omega
 ·have:=move_pos h hj
  omega
end Go.Proofs.YtackfabapangdaaGreat

set_option maxRecDepth 4000
namespace Go.Proofs.YtackfabapangdaaGreat
open Go Go.Proofs.YtackfabapangdaaGreat.R
structure Lev (x:Inst) (l:List Node) (d:Nat):Prop where
 ok:∀n∈l,n.s.ok
 deep:∀n∈l,x.meas n.s<d
 pos:∀n∈l,n.s.Pos
 seen:∀n∈l,n.s.seenAt
 cost:∀n∈l,0≤n.cost∧n.cost+14143*(d:Int)≤1152921504606846976
theorem child_cost {x:Inst} {l:List Node} {d:Nat} (h:Lev x l (d+1)) {n:Node} (hn:n∈l) {j:Int} (hj:(x.move n.s j).2.2=true):(x.child n j).cost=n.cost+(x.move n.s j).2.1:=by
 have h1:=h.cost n hn
 have h2:=move_cost hj
 show sumI [n.cost,(x.move n.s j).2.1]=_
 rw [sumI_two h1.1 h2.1 (by omega)]
theorem Lev.sub {x:Inst} {l m:List Node} {d:Nat} (h:Lev x l d) (hs:∀n∈m,n∈l):Lev x m d:=
 ⟨fun n hn=>h.ok n (hs n hn),fun n hn=>h.deep n (hs n hn),fun n hn=>h.pos n (hs n hn),fun n hn=>h.seen n (hs n hn),fun n hn=>h.cost n (hs n hn)⟩
theorem Lev.next {x:Inst} {l:List Node} {d:Nat} (h:Lev x l (d+1)) (up:Int):Lev x (x.next l up) d:=by
 have key:∀m∈x.next l up,∃n∈l,∃j,(x.move n.s j).2.2=true∧m=x.child n j:=by
  intro m hm
  obtain ⟨n,hn,j,hj,e,_⟩:=next_mem hm
  exact ⟨n,hn,j,moves_mem hj,e⟩
 refine ⟨?_,?_,?_,?_,?_⟩<;>(intro m hm;obtain ⟨n,hn,j,hj,rfl⟩:=key m hm)
 ·exact move_ok x j (h.ok n hn)
 ·have:=meas_move hj
  have:=h.deep n hn
  show x.meas (x.move n.s j).1<d
  omega
 ·exact pos_move (h.pos n hn) (h.ok n hn) hj
 ·exact seen_step hj
 ·rw [child_cost h hn hj]
  have:=h.cost n hn
  have:=move_cost hj
  omega
theorem Lev.front {x:Inst} {l:List Node} {d:Nat} (h:Lev x l (d+1)) (up:Int):Lev x (frontL (x.next l up)) d:=(h.next up).sub fun n hn=>(front_inv _).sub n hn
theorem Lev.empty {x:Inst} {l:List Node} (h:Lev x l 0):l=[]:=by
 cases l with
 |nil=>rfl
 |cons n l=>exact absurd (h.deep n List.mem_cons_self) (by omega)
theorem Lev.root {x:Inst} {n:Node} (h1:n.s.ok) (h2:n.s.Pos) (h3:n.s.seenAt) (h4:0≤n.cost∧n.cost≤1152921504606000000):Lev x [n] (x.meas n.s+1):=by
 have:=meas_le x n.s
 refine ⟨?_,?_,?_,?_,?_⟩<;>(intro m hm;rw [List.mem_singleton.1 hm])
 ·exact h1
 ·omega
 ·exact h2
 ·exact h3
 ·omega
theorem best_fold_from (x:Inst):∀(l:List Node) (b:Node×Bool),(l.foldl x.best1 b)=b∨((l.foldl x.best1 b).2=true∧∃n∈l,(x.endS n.s).2=true∧(l.foldl x.best1 b).1.cost=sumI [n.cost,(x.endS n.s).1]∧(l.foldl x.best1 b).1.path=n.path)
 |[],b=>.inl rfl
 |n :: l,b=>by
  rw [List.foldl_cons]
  rcases best_fold_from x l (x.best1 b n) with h | ⟨h1,m,hm,h2⟩
  ·rw [h]
   unfold Inst.best1
   split
   ·rename_i hc
    exact .inr ⟨rfl,n,List.mem_cons_self,hc.1,rfl,rfl⟩
   ·exact .inl rfl
  ·exact .inr ⟨h1,m,List.mem_cons_of_mem _ hm,h2⟩
theorem bests_from {x:Inst} {l:List Node} (h:(x.bests l).2=true):∃n∈l,(x.endS n.s).2=true∧(x.bests l).1.cost=sumI [n.cost,(x.endS n.s).1]∧(x.bests l).1.path=n.path:=by
 rcases best_fold_from x l (Node.zero,false) with h1 | ⟨_,h2⟩
 ·rw [Inst.bests,h1] at h;cases h
 ·exact h2
theorem end_sum {x:Inst} {l:List Node} {d:Nat} (h:Lev x l (d+1)) {n:Node} (hn:n∈l) (he:(x.endS n.s).2=true):sumI [n.cost,(x.endS n.s).1]=n.cost+(x.endS n.s).1:=by
 have h1:=h.cost n hn
 have h2:=end_cost he
 rw [sumI_two h1.1 h2.1 (by omega)]
theorem next_way {x:Inst} (hst:x.stops.length<2^31) {l:List Node} {d:Nat} (h:Lev x l (d+1)) {n:Node} (hn:n∈l) {j:Int} {w:List Int} {c:Int} (hj:(x.move n.s j).2.2=true) (hw:x.way w (x.move n.s j).1 c) {up:Int} (hlt:n.cost+((x.move n.s j).2.1+c)<up):
  ∃m∈x.next l up,m.s=(x.move n.s j).1∧m.cost≤n.cost+(x.move n.s j).2.1:=by
 have hc:=h.cost n hn
 have hmc:=move_cost hj
 have hcc:=child_cost h hn hj
 have hwl:=way_len hw
 have hwi:=way_in hw
 have hmm:=meas_move hj
 have hdp:=h.deep n hn
 have hlow:=way_low (seen_step hj) hw
 have hof:x.of (x.child n j)<up:=by
  have:=move_seen_low (x:=x) hst (x.child n j) (n.cost+((x.move n.s j).2.1+c)) (by omega) (by rw [hcc];show _+lowP x.near (x.move n.s j).1.can≤_;omega) (by omega)
  omega
 have hmem:x.child n j∈l.flatMap (x.kids up):=by
  refine List.mem_flatMap.2 ⟨n,hn,?_⟩
  rw [Inst.kids,List.mem_filter]
  exact ⟨List.mem_map.2 ⟨j,mem_moves hj,rfl⟩,by simpa using hof⟩
 obtain ⟨m,h1,h2,h3⟩:=onceL_has hmem
 exact ⟨m,h1,h2,by omega⟩
theorem front_way {x:Inst} {l:List Node} {d:Nat} (h:Lev x l d) (hp:x.pairs≠0) {n:Node} (hn:n∈l) {w:List Int} {c:Int} (hw:x.way w n.s c):∃m∈frontL l,x.way w m.s c∧m.cost≤n.cost:=by
 obtain ⟨f,hf,hfn⟩:=(front_inv l).up n hn
 have hfl:=(front_inv l).sub f hf
 simp only [Node.than,Bool.and_eq_true,decide_eq_true_eq] at hfn
 exact ⟨f,hf,cov_way hp hfn.2 (h.pos f hfl) (h.ok f hfl) hw,hfn.1.1⟩
theorem exGo_keep (x:Inst) (most:Int):∀(d:Nat) (st:Node×Bool×Int) (l:List Node) (n:Int),stOk st→st.2.1=true→(x.exGo most d st l n).2.1=true∧(x.exGo most d st l n).1.cost≤st.2.2
 |0,st,l,n,h,hs=>⟨hs,by rw [Inst.exGo];have:=h hs;simp only;omega⟩
 |d+1,st,l,n,h,hs=>by
  rw [Inst.exGo]
  split
  ·exact ⟨hs,by have:=h hs;simp only;omega⟩
  ·split
   ·exact ⟨hs,by have:=h hs;simp only;omega⟩
   ·obtain ⟨k1,k2,k3⟩:=look_ok (x:=x) (l:=l) h
    obtain ⟨j1,j2⟩:=exGo_keep x most d (x.look st l) (frontL (x.next l st.2.2)) (IntKind.i64.wrap (n+l.length)) k1 (k3 hs)
    exact ⟨j1,by omega⟩
theorem exGo_has {x:Inst} (hst:x.stops.length<2^31) (most:Int):∀(d:Nat) (st:Node×Bool×Int) (l:List Node) (n:Int),Lev x l d→stOk st→(x.exGo most d st l n).2.2.1=true→
  ∀m∈l,∀(w:List Int) (c:Int),x.way w m.s c→m.cost+c<st.2.2→(x.exGo most d st l n).2.1=true∧(x.exGo most d st l n).1.cost≤m.cost+c
 |0,st,l,n,hl,_,_,m,hm,w,c,_,_=>by rw [hl.empty] at hm;cases hm
 |d+1,st,l,n,hl,h,hall,m,hm,w,c,hw,hlt=>by
  have c1:¬l.length=0:=by
   have:=List.length_pos_of_mem hm
   omega
  rw [Inst.exGo,if_neg c1] at hall ⊢
  by_cases c2:most<l.length
  ·rw [if_pos c2] at hall;cases hall
  rw [if_neg c2] at hall ⊢
  obtain ⟨k1,k2,k3⟩:=look_ok (x:=x) (l:=l) h
  match w,hw with
  |[],hw=>
   obtain ⟨b1,b2⟩:=bests_has hm hw.1
   rw [end_sum hl hm hw.1,←hw.2] at b2
   have hlk:x.look st l=((x.bests l).1,true,(x.bests l).1.cost):=by rw [Inst.look,if_pos ⟨b1,by omega⟩]
   obtain ⟨j1,j2⟩:=exGo_keep x most d (x.look st l) (frontL (x.next l st.2.2)) (IntKind.i64.wrap (n+l.length)) k1 (by rw [hlk])
   refine ⟨j1,?_⟩
   have:(x.look st l).2.2=(x.bests l).1.cost:=by rw [hlk]
   omega
  |j :: w,hw=>
   obtain ⟨g1,e,g2,g3⟩:=hw
   obtain ⟨q,hq,q1,q2⟩:=next_way hst hl hm g1 g2 (up:=st.2.2) (by omega)
   obtain ⟨f,hf,f1,f2⟩:=front_way (hl.next st.2.2) (move_pairs g1) hq (w:=w) (c:=e) (by rw [q1];exact g2)
   by_cases c3:f.cost+e<(x.look st l).2.2
   ·obtain ⟨i1,i2⟩:=exGo_has hst most d (x.look st l) (frontL (x.next l st.2.2)) _ (hl.front st.2.2) k1 hall f hf w e f1 c3
    exact ⟨i1,by omega⟩
   ·have hs:(x.look st l).2.1=true:=by
     unfold Inst.look at c3 ⊢
     split
     ·rfl
     ·rename_i hh
      rw [if_neg hh] at c3
      omega
    obtain ⟨j1,j2⟩:=exGo_keep x most d (x.look st l) (frontL (x.next l st.2.2)) (IntKind.i64.wrap (n+l.length)) k1 hs
    exact ⟨j1,by omega⟩
theorem exGo_from {x:Inst} (most:Int):∀(d:Nat) (st:Node×Bool×Int) (l:List Node) (n:Int),Lev x l d→stOk st→
  ((x.exGo most d st l n).2.1=st.2.1∧(x.exGo most d st l n).1=st.1)∨
  ((x.exGo most d st l n).2.1=true∧∃m∈l,∃(w:List Int) (c:Int),x.way w m.s c∧(x.exGo most d st l n).1.cost=m.cost+c∧(x.exGo most d st l n).1.path=m.path++w∧m.cost+c<st.2.2)
 |0,st,l,n,_,_=>.inl ⟨rfl,rfl⟩
 |d+1,st,l,n,hl,h=>by
  rw [Inst.exGo]
  split
  ·exact .inl ⟨rfl,rfl⟩
  split
  ·exact .inl ⟨rfl,rfl⟩
  obtain ⟨k1,k2,k3⟩:=look_ok (x:=x) (l:=l) h
  rcases exGo_from most d (x.look st l) (frontL (x.next l st.2.2)) (IntKind.i64.wrap (n+l.length)) (hl.front st.2.2) k1 with ⟨i1,i2⟩ | ⟨i1,m,hm,w,c,i2,i3,i4,i5⟩
  ·by_cases hh:(x.bests l).2=true∧(x.bests l).1.cost<st.2.2
   ·have hlk:x.look st l=((x.bests l).1,true,(x.bests l).1.cost):=by rw [Inst.look,if_pos hh]
    rw [i1,i2,hlk]
    obtain ⟨m,hm,b1,b2,b3⟩:=bests_from hh.1
    rw [end_sum hl hm b1] at b2
    exact .inr ⟨rfl,m,hm,[],_,⟨b1,rfl⟩,b2,by rw [List.append_nil];exact b3,by omega⟩
   ·have hlk:x.look st l=st:=by rw [Inst.look,if_neg hh]
    rw [i1,i2,hlk]
    exact .inl ⟨rfl,rfl⟩
  ·obtain ⟨q,hq,j,hj,rfl,_⟩:=next_mem ((front_inv _).sub m hm)
   have hj:=moves_mem hj
   have hcc:=child_cost hl hq hj
   refine .inr ⟨i1,q,hq,j :: w,(x.move q.s j).2.1+c,⟨hj,c,i2,rfl⟩,?_,?_,?_⟩
   ·rw [i3,hcc];omega
   ·rw [i4]
    show (q.path++[j])++w=_
    rw [List.append_assoc];rfl
   ·rw [hcc] at i5;omega
theorem exact_has {x:Inst} (hst:x.stops.length<2^31) {n:Node} {up most:Int} (h1:n.s.ok) (h2:n.s.Pos) (h3:n.s.seenAt) (h4:0≤n.cost∧n.cost≤1152921504606000000) (hall:(x.exact n up most).2.2.1=true) {w:List Int} {c:Int} (hw:x.way w n.s c) (hlt:n.cost+c<up):
  (x.exact n up most).2.1=true∧(x.exact n up most).1.cost≤n.cost+c:=
 exGo_has hst most _ _ _ _ (Lev.root h1 h2 h3 h4) (fun h=>by cases h) hall n List.mem_cons_self w c hw hlt
theorem exact_from {x:Inst} {n:Node} {up most:Int} (h1:n.s.ok) (h2:n.s.Pos) (h3:n.s.seenAt) (h4:0≤n.cost∧n.cost≤1152921504606000000) (hs:(x.exact n up most).2.1=true):
  ∃(w:List Int) (c:Int),x.way w n.s c∧(x.exact n up most).1.cost=n.cost+c∧(x.exact n up most).1.path=n.path++w∧n.cost+c<up:=by
 rcases exGo_from (x:=x) most _ (Node.zero,false,up) _ 0 (Lev.root h1 h2 h3 h4) (fun h=>by cases h) with ⟨i1,_⟩ | ⟨_,m,hm,w,c,i2⟩
 ·rw [Inst.exact,i1] at hs;cases hs
 ·rw [List.mem_singleton.1 hm] at i2
  exact ⟨w,c,i2⟩
end Go.Proofs.YtackfabapangdaaGreat

set_option maxRecDepth 4000
namespace Go.Proofs.YtackfabapangdaaGreat
open Go Go.Proofs.YtackfabapangdaaGreat.R
def sumTo (f:Nat→Nat):Nat→Nat
 |0=>0
 |n+1=>sumTo f n+f n
def okJ (p M:Nat) (yard:Bool) (j:Nat):Bool:=
 if j=0 then !yard&&(List.range p).all fun k=>!M.testBit k||M.testBit (k+p)
 else if j≤p then !M.testBit (j-1) else !yard&& !M.testBit (j-1)&&M.testBit (j-1-p)
def pot (p:Nat):Nat→Nat→Bool→Nat
 |0,_,_=>1
 |d+1,M,yard=>max 1 (sumTo (fun j=>if okJ p M yard j=true then pot p d (if j=0 then M else M|||2^(j-1)) (decide (j=0)) else 0) (2*p+1))
theorem pot_pos (p:Nat):∀(d M:Nat) (yard:Bool),1≤pot p d M yard
 |0,_,_=>Nat.le_refl _
 |d+1,_,_=>Nat.le_max_left _ _
theorem pot_root:∀p<4,∀d<15,pot p d 0 true≤132:=by decide+kernel
def keyM (s:State):Nat:=s.must / 2 % 64
theorem keyM_bit (s:State) {k:Nat} (hk:k<6):(keyM s).testBit k=s.must.testBit (k+1):=by
 rw [keyM,show (64:Nat)=2^6 from rfl,Nat.testBit_mod_two_pow,Nat.testBit_succ]
 simp [hk]
def State.yard (s:State):Bool:=decide (s.spot=0)
def potS (p d:Nat) (s:State):Nat:=pot p d (keyM s) s.yard
def potL (p d:Nat):List Node→Nat
 |[]=>0
 |n :: l=>potS p d n.s+potL p d l
theorem potL_app (p d:Nat):∀(l m:List Node),potL p d (l++m)=potL p d l+potL p d m
 |[],m=>by simp [potL]
 |n :: l,m=>by rw [List.cons_append,potL,potL,potL_app p d l m];omega
theorem potL_len (p d:Nat):∀(l:List Node),l.length≤potL p d l
 |[]=>Nat.zero_le _
 |n :: l=>by
  have:=potL_len p d l
  have:=pot_pos p d (keyM n.s) n.s.yard
  rw [List.length_cons,potL,potS]
  omega
theorem potL_filter (p d:Nat) (f:Node→Bool):∀(l:List Node),potL p d (l.filter f)≤potL p d l
 |[]=>Nat.le_refl _
 |n :: l=>by
  have:=potL_filter p d f l
  rw [List.filter_cons]
  split<;>simp only [potL]<;>omega
theorem potL_set (p d:Nat) {n:Node}:∀(l:List Node) (i:Nat) (h:i<l.length),l[i].s=n.s→potL p d (l.set i n)=potL p d l
 |m :: l,0,h,e=>by
  simp only [List.getElem_cons_zero] at e
  simp only [List.set_cons_zero,potL,e]
 |m :: l,i+1,h,e=>by
  simp only [List.getElem_cons_succ] at e
  rw [List.set_cons_succ,potL,potL,potL_set p d l i (by simpa using h) e]
theorem potL_once1 (p d:Nat) (out:List Node) (n:Node):potL p d (once1 out n)≤potL p d out+potS p d n.s:=by
 unfold once1
 split
 ·rw [potL_app];simp only [potL];omega
 ·rename_i i e
  obtain ⟨h1,h2⟩:=sIdx_some e
  split
  ·rw [potL_set p d out i h1 h2];omega
  ·omega
theorem potL_once (p d:Nat):∀(l out:List Node),potL p d (l.foldl once1 out)≤potL p d out+potL p d l
 |[],out=>Nat.le_refl _
 |n :: l,out=>by
  have:=potL_once p d l (once1 out n)
  have:=potL_once1 p d out n
  rw [List.foldl_cons,potL]
  omega
theorem move_key {x:Inst} {p:Nat} {s:State} (hx:x.Fit p) (hp3:p≤3) (hg:Good x p s) {k:Nat} (h:(x.move s k).2.2=true):
  okJ p (keyM s) s.yard k=true∧potS p 0 (x.move s k).1=1∧keyM (x.move s k).1=(if k=0 then keyM s else keyM s|||2^(k-1))∧(x.move s k).1.yard=decide (k=0):=by
 have hp:=hx.pairs
 by_cases hk:k=0
 ·subst hk
  obtain ⟨h1,h2,h3,h4⟩:=move_home h
  simp only [Inst.stayB,Bool.or_eq_false_iff,decide_eq_false_iff_not] at h3
  have e0:(((0:Nat):Int))=0:=rfl
  rw [e0,h4]
  refine ⟨?_,rfl,rfl,rfl⟩
  rw [okJ,if_pos rfl,State.yard,Bool.and_eq_true,List.all_eq_true]
  refine ⟨by simp [h3.1.1.1.1],fun i hi=>?_⟩
  have hi:=List.mem_range.1 hi
  have hon:=hg.on (i+1) (by omega) (by omega)
  have:s.on=0:=by omega
  rw [this,Nat.zero_testBit] at hon
  rw [keyM_bit s (by omega),keyM_bit s (by omega),show i+p+1=i+1+p by omega]
  revert hon
  cases s.must.testBit (i+1)<;>cases s.must.testBit (i+1+p)<;>simp
 ·obtain ⟨h1,h2,h3,h4,h5,h6,h7,h8⟩:=move_pos h (by omega)
  simp only [Inst.lateB,Bool.or_eq_false_iff] at h5
  have h50:=h5.1
  rw [has_testN (by omega)] at h50
  rw [h8]
  refine ⟨?_,rfl,?_,by simp only [State.yard,Inst.rvisit];rw [Bool.eq_iff_iff];simp⟩
  ·rw [okJ,if_neg hk]
   have e1:(keyM s).testBit (k-1)=s.must.testBit k:=by rw [keyM_bit s (by omega),show k-1+1=k by omega]
   split
   ·rw [e1,h50];rfl
   ·have h9:=h7 (by omega)
    simp only [Inst.emptyB,Bool.or_eq_false_iff,Bool.not_eq_false',decide_eq_false_iff_not] at h9
    have e2:(k:Int)-x.pairs=((k-p:Nat):Int):=by omega
    have h10:=h9.2
    rw [e2,has_testN (by omega),hg.eq] at h10
    have e3:(keyM s).testBit (k-1-p)=s.must.testBit (k-p):=by rw [keyM_bit s (by omega),show k-1-p+1=k-p by omega]
    rw [e1,h50,e3,h10,State.yard]
    simp [h9.1]
  ·rw [if_neg hk]
   refine Nat.eq_of_testBit_eq fun i=>?_
   rw [Nat.testBit_or,Nat.testBit_two_pow]
   by_cases hi:i<6
   ·rw [keyM_bit _ hi,keyM_bit s hi]
    show (withN s.must k).testBit (i+1)=_
    rw [with_bit (by omega)]
    have:decide (k=i+1)=decide (k-1=i):=by rw [Bool.eq_iff_iff];simp;omega
    rw [this]
   ·have e:∀t:State,(keyM t).testBit i=false:=fun t=>by
     rw [keyM,show (64:Nat)=2^6 from rfl,Nat.testBit_mod_two_pow]
     simp [hi]
    rw [e,e]
    have:¬k-1=i:=by omega
    simp [this]
theorem potL_canB (x:Inst) (p d:Nat) (n:Node) (f:Nat→Bool) (g:Nat→Nat):∀(N:Nat),(∀k<N,f k=true→potS p d (x.child n k).s≤g k)→potL p d ((canB f N).map (x.child n))≤sumTo g N
 |0,_=>Nat.le_refl _
 |N+1,h=>by
  have ih:=potL_canB x p d n f g N fun k hk=>h k (by omega)
  rw [canB,List.map_append,potL_app,sumTo]
  by_cases hf:f N=true
  ·have:=h N (by omega) hf
   rw [if_pos hf]
   simp only [List.map_cons,List.map_nil,potL]
   omega
  ·rw [if_neg hf]
   simp only [List.map_nil,potL]
   omega
theorem pot_kids {x:Inst} {p:Nat} (hx:x.Fit p) (hp3:p≤3) (d:Nat) (up:Int) (n:Node) (hg:Good x p n.s):potL p d (x.kids up n)≤potS p (d+1) n.s:=by
 refine Nat.le_trans (potL_filter p d _ _) ?_
 rw [moves_can]
 refine Nat.le_trans (potL_canB x p d n _ (fun j=>if okJ p (keyM n.s) n.s.yard j=true then pot p d (if j=0 then keyM n.s else keyM n.s|||2^(j-1)) (decide (j=0)) else 0) _ ?_) ?_
 ·intro k hk hf
  obtain ⟨h1,_,h2,h3⟩:=move_key hx hp3 hg hf
  show potS p d (x.move n.s k).1≤_
  rw [if_pos h1,potS,h2,h3]
  exact Nat.le_refl _
 ·rw [hx.len]
  exact Nat.le_max_right _ _
theorem pot_flat {x:Inst} {p:Nat} (hx:x.Fit p) (hp3:p≤3) (d:Nat) (up:Int):∀(l:List Node),(∀n∈l,Good x p n.s)→potL p d (l.flatMap (x.kids up))≤potL p (d+1) l
 |[],_=>Nat.le_refl _
 |n :: l,h=>by
  have h1:=pot_kids hx hp3 d up n (h n List.mem_cons_self)
  have h2:=pot_flat hx hp3 d up l fun m hm=>h m (List.mem_cons_of_mem _ hm)
  rw [List.flatMap_cons,potL_app,potL]
  omega
theorem meas_root {x:Inst} {p:Nat} (hx:x.Fit p) (hm:x.may=true):x.meas x.rootS≤2*p+7:=by
 have hp:=hx.pairs
 have hc:=hx.cars
 unfold Inst.meas
 split
 ·rw [Inst.rootS,if_pos hm]
  have h6:((List.range (2*x.pairs.toNat+1)).filter fun j:Nat=>decide (1≤j)&& !hasB ({State.zero with car:=1,time:=(x.stop 0).ready}:State).must (j:Int)).length<((List.range (2*x.pairs.toNat+1)).filter fun _=>true).length:=
   filter_lt _ (a:=0) (List.mem_range.2 (by omega)) rfl (by simp) (fun _ _=>rfl)
  rw [List.filter_eq_self.2 (fun _ _=>rfl),List.length_range] at h6
  refine Nat.le_trans (Nat.add_le_add (Nat.le_of_lt_succ h6) (Nat.le_refl _)) ?_
  show 2*x.pairs.toNat+(x.cars-1).toNat≤2*p+7
  omega
 ·omega
end Go.Proofs.YtackfabapangdaaGreat

set_option maxRecDepth 4000
namespace Go.Proofs.YtackfabapangdaaGreat
open Go Go.Proofs.YtackfabapangdaaGreat.R
def sCells (st:Node×Bool×Int) (n:Int):List AV:=[.i st.1.s.spot,.i st.1.s.car,.i st.1.s.time,.i st.1.s.load,.i st.1.s.first,.u st.1.s.must,.u st.1.s.can,.u st.1.s.on,.i st.1.cost,.t (.sl (ints st.1.path)),.b st.2.1,.i st.2.2,.i n]
theorem look_spec (x:Inst) (l:List Node) (st:Node×Bool×Int) (n:Int) {σ:Nat→AObj} {nx b:Nat} (hb:b<nx) (hσb:σ b= .box (sCells st n)) (hl:x.stops.length<2^31) (hll:l.length<2^20) (hn:∀n∈l,n.Fine) (hn2:∀n∈l,n.path.length<2^30):
  CallSpec P 183 [.ptr b 0,x.a,.t (.sl (nodesT l))] σ nx (.t (.sl (nodesT (frontL (x.next l st.2.2))))) (oput σ b (.box (sCells (x.look st l) (IntKind.i64.wrap (n+l.length))))) nx:=by
 have hlk:x.look st l=if (x.bests l).2=true∧(x.bests l).1.cost<st.2.2 then ((x.bests l).1,true,(x.bests l).1.cost) else st:=rfl
 refine spec_down Tryz.func183 rfl rfl (by simp [Tryz.f183]) hb (by simp [bndO,bnd,bnd.bndL,sCells]) (by simp [bnd]) fun hk B hB hnx hσ=>?_
 simp only [Tryz.f183] at hB ⊢
 have hne:¬b=nx:=by omega
 have hil:(nodesT l).length=l.length:=List.length_map _
 have hx:=expand_pure x l st.2.2 hl hll hn hn2
 have q1:=next_len x l st.2.2
 have q2:∀m∈x.next l st.2.2,m.path.length<2^31:=by
  intro m hm
  obtain ⟨n,h,j,_,rfl,_⟩:=next_mem hm
  have:=hn2 n h
  show (n.path++[j]).length<2^31
  rw [List.length_append]
  simp only [List.length_cons,List.length_nil]
  omega
 have hf:=front_pure (x.next l st.2.2) (by omega) q2
 generalize x.look st l=st' at *
 generalize x.next l st.2.2=M at *
 generalize x.bests l=Rb at *
 generalize frontL M=R at *
 refine K_run hB 100 ?_
 simp [go_sem,Inst.a,hσb,sCells,hne,hil]
 have hne2:¬nx=b:=by omega
 have hne3:¬b=nx+1:=by omega
 have hne4:¬nx+1=b:=by omega
 refine K_drawnF [11,13] [0,1,2,3,4,5,6,7,8,9,10] rfl (by rw [hB];kernel_rfl) (by kernel_rfl) fun ht hf'=>?_
 refine K_run hB 100 ?_
 simp [go_sem,ht,hf',hne,hne2,hσb,sCells]
 refine K_dCallP rfl rfl rfl (args:=[x.a,.t (.sl (nodesT l)),.i st.2.2]) (f:=180) (by simp [go_sem,Inst.a]) (hx) ?_
 refine K_run hB 100 ?_
 simp [go_sem,ht,hf',expRes,Node.a,Node.cs,hne,hne2,hne3,hne4,hσb,sCells]
 obtain ⟨B1,is⟩:=Rb
 simp only at hlk
 cases is with
 |false=>
  rw [if_neg (by simp)] at hlk
  subst hlk
  refine K_drawn [] rfl (by rw [hB];kernel_rfl) ?_
  refine K_run hB 100 ?_
  simp [go_sem]
  refine K_call rfl rfl rfl (args:=[.t (.sl (nodesT M))]) (f:=226) (by simp [go_sem]) (by simp [go_sem,hB]) ((hf).spec _ _) ?_
  refine K_run hB 100 ?_
  simp [go_sem]
  exact ⟨by omega,by simp [hne3,hne,hne4],fun i h1 h2=>by simp [h2,show ¬i=nx+1 by omega,show ¬i=nx by omega]⟩
 |true=>
  by_cases c1:B1.cost<st.2.2
  ·rw [if_pos ⟨rfl,c1⟩] at hlk
   subst hlk
   refine K_drawn [] rfl (by rw [hB];kernel_rfl) ?_
   refine K_run hB 100 ?_
   simp [go_sem,hne,hne2,hne3,hne4,c1]
   refine K_drawnF [8,11,14] [1,2,4,5] rfl (by rw [hB];kernel_rfl) (by kernel_rfl) fun ht hf'=>?_
   refine K_run hB 100 ?_
   simp [go_sem,ht,hf',hne,hne2,hne3,hne4]
   refine K_call rfl rfl rfl (args:=[.t (.sl (nodesT M))]) (f:=226) (by simp [go_sem]) (by simp [go_sem,hB]) ((hf).spec _ _) ?_
   refine K_run hB 100 ?_
   simp [go_sem]
   exact ⟨by omega,fun i h1 h2=>by simp [h2,show ¬i=nx+1 by omega,show ¬i=nx by omega]⟩
  ·rw [if_neg (fun h=>c1 h.2)] at hlk
   subst hlk
   refine K_drawn [] rfl (by rw [hB];kernel_rfl) ?_
   refine K_run hB 100 ?_
   simp [go_sem,hne,hne2,hne3,hne4,c1]
   refine K_call rfl rfl rfl (args:=[.t (.sl (nodesT M))]) (f:=226) (by simp [go_sem]) (by simp [go_sem,hB]) ((hf).spec _ _) ?_
   refine K_run hB 100 ?_
   simp [go_sem]
   exact ⟨by omega,by simp [hne3,hne,hne4],fun i h1 h2=>by simp [h2,show ¬i=nx+1 by omega,show ¬i=nx by omega]⟩
end Go.Proofs.YtackfabapangdaaGreat

set_option maxRecDepth 4000
namespace Go.Proofs.YtackfabapangdaaGreat
open Go Go.Proofs.YtackfabapangdaaGreat.R
theorem best_pure (x:Inst) (n:Node) (up most:Int) (hl:x.stops.length<2^31) (hm:most<2^20) (ho:n.s.ok) (hp:n.path.length<2^29):Pure P 132 [x.a,n.a,.i up,.i most] (exRes4 (x.exact n up most)):=by
 generalize hR:x.exact n up most=R
 refine pure_of Tryz.func132 rfl rfl (by simp [Tryz.f132]) (by simp [bnd,bnd.bndL,Inst.a,Node.a,Node.cs]) (by simp [bnd,bnd.bndL,exRes4,Node.a,Node.cs]) fun B hB hnx=>?_
 simp only [Tryz.f132] at hB ⊢
 have hlev:=Level.root x n ho
 have hmeas:=meas_le x n.s
 rw [Inst.exact] at hR
 generalize hd:x.meas n.s+1=d0 at *
 generalize hK:n.path.length+x.meas n.s+1=K at *
 refine K_run hB 100 ?_
 simp [go_sem,Inst.a,Node.a,Node.cs]
 refine K_scopeN (α:=Nat×(Node×Bool×Int)×List Node×Int×(Nat→AObj)×Nat) 0 (fun (d,st,l,n,σ,nx)=>Level x l d K∧x.exGo most d st l n=R∧σ 0= .box x.cs∧σ 2= .box Node.zero.cs∧σ 3= .box (sCells st n)∧3<nx)
  (fun (d,st,l,n,σ,nx)=>⟨sl [(3,.i most),(4,.ptr 0 0),(8,.ptr 2 0),(12,.ptr 3 0),(13,.t (.sl (nodesT l)))],σ,nx⟩) (fun a=>a.1) rfl ?_ ?_
 ·rintro ⟨d,st,l,n,σ,nx⟩ ⟨g1,g2,g3,g4,g5,g6⟩
  have hil:(nodesT l).length=l.length:=List.length_map _
  have hgo:x.exGo most d st l n=match d with
   |0=>(st.1,st.2.1,true,n)
   |d+1=>if l.length=0 then (st.1,st.2.1,true,n) else if most<l.length then (st.1,st.2.1,false,n) else x.exGo most d (x.look st l) (frontL (x.next l st.2.2)) (IntKind.i64.wrap (n+l.length)):=by cases d<;>rfl
  by_cases c1:l.length=0
  ·have hr:R=(st.1,st.2.1,true,n):=by
    rw [←g2,hgo]
    cases d with
    |zero=>rfl
    |succ d=>simp only;rw [if_pos c1]
   subst hr
   by_cases c2:(0:Int)≤most
   ·refine K_run hB 100 ?_
    simp [go_sem,hil,c1,c2]
    refine K_drawnF [13] [4,5,6,7,8,9,10,11,12] rfl (by rw [hB];kernel_rfl) (by kernel_rfl) fun ht hf'=>?_
    refine K_run hB 100 ?_
    simp [go_sem,ht,hf',g4,g5,sCells,Node.cs]
    rfl
   ·refine K_run hB 100 ?_
    simp [go_sem,hil,c1,c2]
    refine K_drawnF [13] [4,5,6,7,8,9,10,11,12] rfl (by rw [hB];kernel_rfl) (by kernel_rfl) fun ht hf'=>?_
    refine K_run hB 100 ?_
    simp [go_sem,ht,hf',g4,g5,sCells,Node.cs]
    rfl
  cases d with
  |zero=>exact absurd (by rw [g1.empty];rfl) c1
  |succ d=>
   simp only at hgo
   rw [if_neg c1] at hgo
   by_cases c2:most<l.length
   ·rw [if_pos c2] at hgo
    rw [hgo] at g2
    subst g2
    have c3:¬(l.length:Int)≤most:=by omega
    have c4:¬(l.length:Int)=0:=by omega
    refine K_run hB 100 ?_
    simp [go_sem,hil,c1,c3,c4]
    refine K_drawnF [13] [4,5,6,7,8,9,10,11,12] rfl (by rw [hB];kernel_rfl) (by kernel_rfl) fun ht hf'=>?_
    refine K_run hB 100 ?_
    simp [go_sem,ht,hf',g4,g5,sCells,Node.cs]
    rfl
   ·rw [if_neg c2] at hgo
    rw [hgo] at g2
    have c3:(l.length:Int)≤most:=by omega
    have c4:0<l.length:=by omega
    have hlk:=look_spec x l st n (σ:=σ) (nx:=nx) (b:=3) g6 g5 hl (by omega) (fun m h=>⟨g1.ok m h,by have:=g1.path m h;omega⟩) (fun m h=>by have:=g1.path m h;omega)
    refine K_run hB 100 ?_
    simp [go_sem,hil,c1,c3,c4,g3,Inst.cs]
    refine K_call rfl rfl rfl (args:=[.ptr 3 0,x.a,.t (.sl (nodesT l))]) (f:=183) (by simp [go_sem,Inst.a]) (by simp [go_sem,hB]) hlk ?_
    refine K_run hB 100 ?_
    simp [go_sem]
    refine Next.mk (d,x.look st l,frontL (x.next l st.2.2),IntKind.i64.wrap (n+l.length),_,nx) ?_ (Imp.slots (by simp [go_sem]) rfl rfl) (by simp only;omega)
    exact ⟨g1.next st.2.2,g2,by simp [oput,g3,Inst.cs],by simp [oput,g4],by simp [oput],g6⟩
 ·intro J hJ
  refine K_run hB 14 ?_
  simp [go_sem,Node.cs]
  refine hJ (d0,(Node.zero,false,up),[n],0,_,_) _ ?_ ((Imp.looseB (b:=2) (cs:=[.i 0,.i 0,.i 0,.i 0,.i 0,.u 0,.u 0,.u 0,.i 0,.fsl []]) (by simp [oput])).trans ((Imp.looseB (b:=3) (cs:=[.i 0,.i 0,.i 0,.i 0,.i 0,.u 0,.u 0,.u 0,.i 0,.fsl [],.b false,.i up,.i 0]) (by simp [oput])).trans (Imp.loose.trans (Imp.slots (by simp [go_sem,loosen,nodesT,Node.t]) rfl rfl))))
  exact ⟨hlev,hR,by simp [oput,Inst.cs],by simp [oput,Node.zero,State.zero,Node.cs,ints,loosen],by simp [oput,sCells,Node.zero,State.zero,ints,loosen],by simp only;omega⟩
end Go.Proofs.YtackfabapangdaaGreat

set_option maxRecDepth 4000
namespace Go.Proofs.YtackfabapangdaaGreat
open Go Go.Proofs.YtackfabapangdaaGreat.R
def Inst.rootN (x:Inst):Node:=⟨x.rootS,0,[]⟩
end Go.Proofs.YtackfabapangdaaGreat

set_option maxRecDepth 4000
namespace Go.Proofs.YtackfabapangdaaGreat
open Go Go.Proofs.YtackfabapangdaaGreat.R
theorem naGo_path (x:Inst) (W:Nat) (k:Nat):∀(d:Nat) (st:Node×Bool×Int) (l:List Node) (n:Int) {K:Nat},Level x l d K→K≤k→st.1.path.length≤k→(x.naGo W d st l n).1.path.length≤k
 |0,st,l,n,K,_,_,h=>h
 |d+1,st,l,n,K,h1,h2,h3=>by
  rw [Inst.naGo]
  split
  ·exact h3
  ·refine naGo_path x W k d _ _ _ (h1.few W st.2.2) h2 ?_
   unfold Inst.look
   split
   ·exact bests_path fun m hm=>by have:=h1.path m hm;omega
   ·exact h3
theorem narrow_path (x:Inst) (n:Node) (w up:Int) (ho:n.s.ok):(x.narrow n w up).1.path.length≤n.path.length+41:=by
 have:=meas_le x n.s
 have h:=naGo_path x (widthN w) (n.path.length+x.meas n.s+1) _ (Node.zero,false,up) _ 0 (Level.root x n ho) (Nat.le_refl _) (Nat.zero_le _)
 have:(x.narrow n w up).1.path.length≤n.path.length+x.meas n.s+1:=h
 omega
theorem Lev.few {x:Inst} {l:List Node} {d:Nat} (h:Lev x l (d+1)) (W:Nat) (up:Int):Lev x (x.few W l up) d:=(h.next up).sub fun n hn=>few_mem hn
theorem naGo_from {x:Inst} (W:Nat):∀(d:Nat) (st:Node×Bool×Int) (l:List Node) (n:Int),Lev x l d→stOk st→
  ((x.naGo W d st l n).2.1=st.2.1∧(x.naGo W d st l n).1=st.1)∨
  ((x.naGo W d st l n).2.1=true∧∃m∈l,∃(w:List Int) (c:Int),x.way w m.s c∧(x.naGo W d st l n).1.cost=m.cost+c∧(x.naGo W d st l n).1.path=m.path++w∧m.cost+c<st.2.2)
 |0,st,l,n,_,_=>.inl ⟨rfl,rfl⟩
 |d+1,st,l,n,hl,h=>by
  rw [Inst.naGo]
  split
  ·exact .inl ⟨rfl,rfl⟩
  obtain ⟨k1,k2,k3⟩:=look_ok (x:=x) (l:=l) h
  rcases naGo_from W d (x.look st l) (x.few W l st.2.2) (IntKind.i64.wrap (n+l.length)) (hl.few W st.2.2) k1 with ⟨i1,i2⟩ | ⟨i1,m,hm,w,c,i2,i3,i4,i5⟩
  ·by_cases hh:(x.bests l).2=true∧(x.bests l).1.cost<st.2.2
   ·have hlk:x.look st l=((x.bests l).1,true,(x.bests l).1.cost):=by rw [Inst.look,if_pos hh]
    rw [i1,i2,hlk]
    obtain ⟨m,hm,b1,b2,b3⟩:=bests_from hh.1
    rw [end_sum hl hm b1] at b2
    exact .inr ⟨rfl,m,hm,[],_,⟨b1,rfl⟩,b2,by rw [List.append_nil];exact b3,by omega⟩
   ·have hlk:x.look st l=st:=by rw [Inst.look,if_neg hh]
    rw [i1,i2,hlk]
    exact .inl ⟨rfl,rfl⟩
  ·obtain ⟨q,hq,j,hj,rfl,_⟩:=next_mem (few_mem hm)
   have hj:=moves_mem hj
   have hcc:=child_cost hl hq hj
   refine .inr ⟨i1,q,hq,j :: w,(x.move q.s j).2.1+c,⟨hj,c,i2,rfl⟩,?_,?_,?_⟩
   ·rw [i3,hcc];omega
   ·rw [i4]
    show (q.path++[j])++w=_
    rw [List.append_assoc];rfl
   ·rw [hcc] at i5;omega
theorem narrow_from {x:Inst} {n:Node} {up wi:Int} (h1:n.s.ok) (h2:n.s.Pos) (h3:n.s.seenAt) (h4:0≤n.cost∧n.cost≤1152921504606000000) (hs:(x.narrow n wi up).2.1=true):
  ∃(w:List Int) (c:Int),x.way w n.s c∧(x.narrow n wi up).1.cost=n.cost+c∧(x.narrow n wi up).1.path=n.path++w∧n.cost+c<up:=by
 rcases naGo_from (x:=x) (widthN wi) _ (Node.zero,false,up) _ 0 (Lev.root h1 h2 h3 h4) (fun h=>by cases h) with ⟨i1,_⟩ | ⟨_,m,hm,w,c,i2⟩
 ·rw [Inst.narrow,i1] at hs;cases hs
 ·rw [List.mem_singleton.1 hm] at i2
  exact ⟨w,c,i2⟩
theorem naGo_steps (x:Inst) (W:Nat) (hW:W≤3000):∀(d:Nat) (st:Node×Bool×Int) (l:List Node) (n:Int),l.length≤W→0≤n→n+3000*d<9223372036854775808→n≤(x.naGo W d st l n).2.2∧(x.naGo W d st l n).2.2≤n+W*d
 |0,st,l,n,_,_,_=>by rw [Inst.naGo];simp
 |d+1,st,l,n,hl,h0,hn=>by
  rw [Inst.naGo]
  have e:(W:Int)*((d+1:Nat):Int)=W*d+W:=by rw [Int.natCast_add,Int.mul_add];simp
  have e2:(0:Int)≤(W:Int)*d:=Int.mul_nonneg (by omega) (by omega)
  split
  ·refine ⟨Int.le_refl _,?_⟩
   simp only
   omega
  ·have hw:=w64 (n+l.length) (by omega)
   obtain ⟨i1,i2⟩:=naGo_steps x W hW d (x.look st l) (x.few W l st.2.2) (IntKind.i64.wrap (n+l.length)) (few_len x W l st.2.2) (by omega) (by omega)
   refine ⟨by omega,?_⟩
   rw [hw] at i2 ⊢
   omega
theorem narrow_steps (x:Inst) (n:Node) (wi up:Int) (hw:wi≤3000):1≤(x.narrow n wi up).2.2∧(x.narrow n wi up).2.2≤1+widthN wi*x.meas n.s:=by
 have hm:=meas_le x n.s
 have hW2:widthN wi≤3000:=by unfold widthN;split<;>omega
 have e:x.narrow n wi up=x.naGo (widthN wi) (x.meas n.s) (x.look (Node.zero,false,up) [n]) (x.few (widthN wi) [n] up) 1:=by
  rw [Inst.narrow,Inst.naGo,if_neg (by simp)]
  rfl
 have:=naGo_steps x (widthN wi) hW2 (x.meas n.s) (x.look (Node.zero,false,up) [n]) (x.few (widthN wi) [n] up) 1 (few_len x _ _ _) (by omega) (by omega)
 rw [e]
 exact this
theorem meas_rootC {x:Inst} {p:Nat} (hx:x.Fit p) (hm:x.may=true):(x.meas x.rootS:Int)≤2*x.pairs+x.cars-1:=by
 have hp:=hx.pairs
 have hc:=hx.cars
 unfold Inst.meas
 split
 ·rw [Inst.rootS,if_pos hm]
  have h6:((List.range (2*x.pairs.toNat+1)).filter fun j:Nat=>decide (1≤j)&& !hasB ({State.zero with car:=1,time:=(x.stop 0).ready}:State).must (j:Int)).length<((List.range (2*x.pairs.toNat+1)).filter fun _=>true).length:=
   filter_lt _ (a:=0) (List.mem_range.2 (by omega)) rfl (by simp) (fun _ _=>rfl)
  rw [List.filter_eq_self.2 (fun _ _=>rfl),List.length_range] at h6
  have:x.base ({State.zero with car:=1,time:=(x.stop 0).ready}:State)≤2*x.pairs.toNat+(x.cars-1).toNat:=Nat.add_le_add (Nat.le_of_lt_succ h6) (Nat.le_refl _)
  omega
 ·omega
end Go.Proofs.YtackfabapangdaaGreat

set_option maxRecDepth 4000
namespace Go.Proofs.YtackfabapangdaaGreat
open Go Go.Proofs.YtackfabapangdaaGreat.R
def Inst.deep (x:Inst):Int:=if x.may then 2*x.pairs+x.cars-1 else 0
theorem deep_pure (x:Inst) (hl:x.stops.length<2^63):Pure P 124 [x.a] (.i x.deep):=by
 refine pure_of Tryz.func124 rfl rfl (by simp [Tryz.f124]) (by simp [bnd,bnd.bndL,Inst.a]) (by simp [bnd,bnd.bndL]) fun B hB hnx=>?_
 simp only [Tryz.f124] at hB ⊢
 refine K_run hB 100 ?_
 simp [go_sem,Inst.a]
 refine K_call rfl rfl rfl (args:=[x.a]) (f:=33) (by simp [go_sem,Inst.a]) (by simp [go_sem,hB]) ((may_pure x hl).spec _ _) ?_
 cases hmay:x.may with
 |false=>
  refine K_run hB 100 ?_
  simp [go_sem]
  rw [Inst.deep,if_neg (by simp [hmay])]
 |true=>
  obtain ⟨p,hx⟩:=x.fit hmay
  have hp:=hx.pairs
  have hf:=hx.few
  have hc:=hx.cars
  have w1:=w64 (2*x.pairs) (by omega)
  have w2:=w64 (2*x.pairs+x.cars) (by omega)
  have w3:=w64 (2*x.pairs+x.cars-1) (by omega)
  refine K_run hB 100 ?_
  simp [go_sem,w1,w2,w3]
  rw [Inst.deep,if_pos hmay]
theorem rdeep_pure (x:Inst) (hl:x.stops.length<2^63):Pure P 161 [x.a] (.i x.deep):=by
 refine pure_of Tryz.func161 rfl rfl (by simp [Tryz.f161]) (by simp [bnd,bnd.bndL,Inst.a]) (by simp [bnd,bnd.bndL]) fun B hB hnx=>?_
 simp only [Tryz.f161] at hB ⊢
 refine K_run hB 100 ?_
 simp [go_sem,Inst.a]
 refine K_call rfl rfl rfl (args:=[x.a]) (f:=78) (by simp [go_sem,Inst.a]) (by simp [go_sem,hB]) ((rmay_pure x hl).spec _ _) ?_
 cases hmay:x.may with
 |false=>
  refine K_run hB 100 ?_
  simp [go_sem]
  rw [Inst.deep,if_neg (by simp [hmay])]
 |true=>
  obtain ⟨p,hx⟩:=x.fit hmay
  have hp:=hx.pairs
  have hf:=hx.few
  have hc:=hx.cars
  have w1:=w64 (2*x.pairs) (by omega)
  have w2:=w64 (2*x.pairs+x.cars) (by omega)
  have w3:=w64 (2*x.pairs+x.cars-1) (by omega)
  refine K_run hB 100 ?_
  simp [go_sem,w1,w2,w3]
  rw [Inst.deep,if_pos hmay]
end Go.Proofs.YtackfabapangdaaGreat

set_option maxRecDepth 4000
namespace Go.Proofs.YtackfabapangdaaGreat
open Go Go.Proofs.YtackfabapangdaaGreat.R
def State.join (s t:State):State:=⟨s.spot,min s.car t.car,min s.time t.time,min s.load t.load,min s.first t.first,s.must&&&t.must,s.can|||t.can,s.on&&&t.on⟩
def joinL:List State→State×Bool
 |[]=>(State.zero,false)
 |s :: l=>if l.any (fun t=>decide (t.spot≠s.spot))=true then (State.zero,false) else (l.foldl State.join s,true)
def costL:List Node→Int
 |[]=>0
 |n :: l=>l.foldl (fun c m=>min c m.cost) n.cost
def together (l:List Node):Node×Bool:=(⟨(joinL (l.map Node.s)).1,costL l,[]⟩,(joinL (l.map Node.s)).2)
def atStop (l:List Node) (i:Nat):List Node:=l.filter fun n=>decide (n.s.spot=i)
def Inst.mostN (x:Inst) (w:Int):Nat:=max w.toNat x.stops.length
def oneAt (l:List Node) (i:Nat):List Node:=if (together (atStop l i)).2=true then [(together (atStop l i)).1] else []
def Inst.squeeze (x:Inst) (l:List Node) (w:Int):List Node:=
 if (x.sortN l).length≤x.mostN w then x.sortN l else
 (x.sortN l).take (x.mostN w-x.stops.length)++(List.range x.stops.length).flatMap (oneAt ((x.sortN l).drop (x.mostN w-x.stops.length)))
theorem within_and_l (a b:Nat):withinB (a&&&b) a=true:=by
 rw [withinB,List.all_eq_true]
 intro i _
 rw [Nat.testBit_and]
 cases a.testBit i<;>cases b.testBit i<;>rfl
theorem within_and_r (a b:Nat):withinB (a&&&b) b=true:=by rw [Nat.and_comm];exact within_and_l b a
theorem within_or_l (a b:Nat):withinB a (a|||b)=true:=by
 rw [withinB,List.all_eq_true]
 intro i _
 rw [Nat.testBit_or]
 cases a.testBit i<;>cases b.testBit i<;>rfl
theorem within_or_r (a b:Nat):withinB b (a|||b)=true:=by rw [Nat.or_comm];exact within_or_l b a
theorem join_cov1 (s t:State):coversB (s.join t) s=true:=
 cov_mk rfl (within_and_l _ _) (within_and_l _ _) (within_or_l _ _) (Int.min_le_left _ _) (Int.min_le_left _ _) (Int.min_le_left _ _) (Int.min_le_left _ _)
theorem join_cov2 {s t:State} (h:s.spot=t.spot):coversB (s.join t) t=true:=
 cov_mk h (within_and_r _ _) (within_and_r _ _) (within_or_r _ _) (Int.min_le_right _ _) (Int.min_le_right _ _) (Int.min_le_right _ _) (Int.min_le_right _ _)
structure State.Is (s:State) (i:Int):Prop where
 spot:s.spot=i
 ok:s.ok
 pos:s.Pos
 seen:s.seenAt
theorem State.Is.join {s t:State} {i:Int} (h:s.Is i) (k:t.Is i):(s.join t).Is i:=by
 refine ⟨h.spot,⟨?_,?_,?_⟩,⟨?_,?_,?_⟩,?_⟩
 ·exact Nat.and_lt_two_pow _ k.ok.must
 ·exact Nat.or_lt_two_pow h.ok.can k.ok.can
 ·exact Nat.and_lt_two_pow _ k.ok.on
 ·exact Int.le_min.2 ⟨h.pos.car,k.pos.car⟩
 ·exact Int.le_min.2 ⟨h.pos.time,k.pos.time⟩
 ·exact Int.le_min.2 ⟨h.pos.load,k.pos.load⟩
 ·rcases h.seen with e | e
  ·exact .inl e
  rcases k.seen with e2 | e2
  ·refine .inl ?_
   show s.spot=0
   rw [h.spot,←k.spot];exact e2
  ·refine .inr ?_
   show hasB (s.must&&&t.must) s.spot=true
   rw [k.spot,←h.spot] at e2
   simp only [hasB,Bool.and_eq_true,decide_eq_true_eq,Nat.testBit_and] at *
   exact ⟨e.1,e.2,e2.2⟩
theorem fold_join:∀(l:List State) (s:State),(∀t∈l,t.spot=s.spot)→(l.foldl State.join s).spot=s.spot∧coversB (l.foldl State.join s) s=true∧∀t∈l,coversB (l.foldl State.join s) t=true
 |[],s,_=>⟨rfl,covers_refl _,fun t h=>by cases h⟩
 |t :: l,s,h=>by
  obtain ⟨h1,h2,h3⟩:=fold_join l (s.join t) fun u hu=>h u (List.mem_cons_of_mem _ hu)
  rw [List.foldl_cons]
  refine ⟨h1,covers_trans h2 (join_cov1 s t),fun u hu=>?_⟩
  rcases List.mem_cons.1 hu with rfl | hu
  ·exact covers_trans h2 (join_cov2 (h u List.mem_cons_self).symm)
  ·exact h3 u hu
theorem fold_is {i:Int}:∀(l:List State) (s:State),s.Is i→(∀t∈l,t.Is i)→(l.foldl State.join s).Is i
 |[],s,h,_=>h
 |t :: l,s,h,k=>fold_is l (s.join t) (h.join (k t List.mem_cons_self)) fun u hu=>k u (List.mem_cons_of_mem _ hu)
theorem joinL_same {l:List State} (h0:l≠[]) {i:Int} (h:∀t∈l,t.spot=i):(joinL l).2=true∧(joinL l).1.spot=i∧(∀t∈l,coversB (joinL l).1 t=true)∧((∀t∈l,t.Is i)→(joinL l).1.Is i):=by
 cases l with
 |nil=>exact absurd rfl h0
 |cons s l=>
  have hs:=h s List.mem_cons_self
  have hl:∀t∈l,t.spot=s.spot:=fun t ht=>by rw [hs];exact h t (List.mem_cons_of_mem _ ht)
  have e:joinL (s :: l)=(l.foldl State.join s,true):=by
   rw [joinL,if_neg]
   rw [List.any_eq_true]
   rintro ⟨t,ht,e⟩
   exact (of_decide_eq_true e) (hl t ht)
  obtain ⟨h1,h2,h3⟩:=fold_join l s hl
  rw [e]
  refine ⟨rfl,by simp only;omega,fun t ht=>?_,fun k=>fold_is l s (k s List.mem_cons_self) fun t ht=>k t (List.mem_cons_of_mem _ ht)⟩
  rcases List.mem_cons.1 ht with rfl | ht
  ·exact h2
  ·exact h3 t ht
theorem fold_cost:∀(l:List Node) (c:Int),l.foldl (fun c m=>min c m.cost) c≤c∧(∀n∈l,l.foldl (fun c m=>min c m.cost) c≤n.cost)∧(l.foldl (fun c m=>min c m.cost) c=c∨∃n∈l,l.foldl (fun c m=>min c m.cost) c=n.cost)
 |[],c=>⟨Int.le_refl _,fun n h=>(by cases h),.inl rfl⟩
 |m :: l,c=>by
  obtain ⟨h1,h2,h3⟩:=fold_cost l (min c m.cost)
  rw [List.foldl_cons]
  refine ⟨by omega,fun n hn=>?_,?_⟩
  ·rcases List.mem_cons.1 hn with rfl | hn
   ·omega
   ·exact h2 n hn
  ·rcases h3 with h3 | ⟨n,hn,h3⟩
   ·rw [h3]
    by_cases e:c≤m.cost
    ·exact .inl (by omega)
    ·exact .inr ⟨m,List.mem_cons_self,by omega⟩
   ·exact .inr ⟨n,List.mem_cons_of_mem _ hn,h3⟩
theorem costL_is {l:List Node} (h:l≠[]):(∀n∈l,costL l≤n.cost)∧∃n∈l,costL l=n.cost:=by
 cases l with
 |nil=>exact absurd rfl h
 |cons m l=>
  obtain ⟨h1,h2,h3⟩:=fold_cost l m.cost
  rw [costL]
  refine ⟨fun n hn=>?_,?_⟩
  ·rcases List.mem_cons.1 hn with rfl | hn
   ·exact h1
   ·exact h2 n hn
  ·rcases h3 with h3 | ⟨n,hn,h3⟩
   ·exact ⟨m,List.mem_cons_self,h3⟩
   ·exact ⟨n,List.mem_cons_of_mem _ hn,h3⟩
theorem atStop_mem {l:List Node} {i:Nat} {n:Node}:n∈atStop l i↔n∈l∧n.s.spot=i:=by
 rw [atStop,List.mem_filter,decide_eq_true_eq]
theorem oneAt_mem {l:List Node} {i:Nat} {m:Node} (h:m∈oneAt l i):atStop l i≠[]∧m=(together (atStop l i)).1:=by
 unfold oneAt at h
 split at h
 ·rename_i hh
  refine ⟨fun e=>?_,List.mem_singleton.1 h⟩
  rw [e] at hh
  simp [together,joinL] at hh
 ·cases h
theorem oneAt_has {l:List Node} {i:Nat} {n:Node} (h:n∈l) (hi:n.s.spot=i):∃m∈oneAt l i,coversB m.s n.s=true∧m.cost≤n.cost:=by
 have hn:n∈atStop l i:=atStop_mem.2 ⟨h,hi⟩
 have hne:atStop l i≠[]:=fun e=>by rw [e] at hn;cases hn
 have hne2:(atStop l i).map Node.s≠[]:=by simpa using hne
 obtain ⟨h1,h2,h3,h4⟩:=joinL_same hne2 (i:=(i:Int)) fun t ht=>by
  obtain ⟨q,hq,rfl⟩:=List.mem_map.1 ht
  exact (atStop_mem.1 hq).2
 refine ⟨(together (atStop l i)).1,?_,h3 _ (List.mem_map.2 ⟨n,hn,rfl⟩),(costL_is hne).1 n hn⟩
 rw [oneAt,if_pos (show (together (atStop l i)).2=true from h1)]
 exact List.mem_singleton.2 rfl
theorem oneAt_len (l:List Node) (i:Nat):(oneAt l i).length≤1:=by unfold oneAt;split<;>simp
theorem squeeze_mem {x:Inst} {l:List Node} {w:Int} {m:Node} (h:m∈x.squeeze l w):m∈l∨∃(i:Nat) (g:List Node),g≠[]∧i<x.stops.length∧(∀n∈g,n∈l∧n.s.spot=i)∧m=(together g).1:=by
 unfold Inst.squeeze at h
 split at h
 ·exact .inl (Inst.sortN_mem.1 h)
 ·rcases List.mem_append.1 h with h | h
  ·exact .inl (Inst.sortN_mem.1 (List.mem_of_mem_take h))
  ·obtain ⟨i,hi,h⟩:=List.mem_flatMap.1 h
   obtain ⟨h1,h2⟩:=oneAt_mem h
   exact .inr ⟨i,_,h1,List.mem_range.1 hi,fun n hn=>⟨Inst.sortN_mem.1 (List.mem_of_mem_drop (atStop_mem.1 hn).1),(atStop_mem.1 hn).2⟩,h2⟩
theorem squeeze_cov {x:Inst} {l:List Node} (w:Int) {n:Node} (hn:n∈l) (h0:0≤n.s.spot) (h1:n.s.spot<x.stops.length):∃m∈x.squeeze l w,coversB m.s n.s=true∧m.cost≤n.cost:=by
 have hs:n∈x.sortN l:=Inst.sortN_mem.2 hn
 unfold Inst.squeeze
 split
 ·exact ⟨n,hs,covers_refl _,Int.le_refl _⟩
 ·generalize x.mostN w-x.stops.length=k at *
  rw [←List.take_append_drop k (x.sortN l)] at hs
  rcases List.mem_append.1 hs with hs | hs
  ·exact ⟨n,List.mem_append_left _ hs,covers_refl _,Int.le_refl _⟩
  ·obtain ⟨i,hi⟩:∃i:Nat,n.s.spot=i:=⟨n.s.spot.toNat,by omega⟩
   obtain ⟨m,h2,h3,h4⟩:=oneAt_has hs hi
   exact ⟨m,List.mem_append_right _ (List.mem_flatMap.2 ⟨i,List.mem_range.2 (by omega),h2⟩),h3,h4⟩
theorem flat_one {α β:Type} (f:α→List β) (h:∀a,(f a).length≤1):∀(l:List α),(l.flatMap f).length≤l.length
 |[]=>Nat.le_refl _
 |a :: l=>by
  rw [List.flatMap_cons,List.length_append,List.length_cons]
  have:=h a
  have:=flat_one f h l
  omega
theorem squeeze_len (x:Inst) (l:List Node) (w:Int):(x.squeeze l w).length≤x.mostN w:=by
 unfold Inst.squeeze
 split
 ·assumption
 ·have h1:=flat_one (oneAt ((x.sortN l).drop (x.mostN w-x.stops.length))) (oneAt_len _) (List.range x.stops.length)
  rw [List.length_range] at h1
  have h2:x.stops.length≤x.mostN w:=Nat.le_max_right _ _
  rw [List.length_append,List.length_take]
  omega
end Go.Proofs.YtackfabapangdaaGreat

set_option maxRecDepth 4000
namespace Go.Proofs.YtackfabapangdaaGreat
open Go Go.Proofs.YtackfabapangdaaGreat.R
structure Diag where
 layers:List (List Node)
 low:Int
 exact:Bool
 sure:Nat
 deriving DecidableEq
def Diag.of (ls:List (List Node)) (low:Int) (sq:Option Nat):Diag:=⟨ls,low,sq.isNone,sq.getD ls.length⟩
def lowB (low:Int) (b:Node×Bool):Int:=if b.2=true then min low b.1.cost else low
def Inst.buildGo (x:Inst) (w up dp:Int):Nat→List (List Node)→Int→Option Nat→List Node→Diag
 |0,ls,low,sq,_=>Diag.of ls low sq
 |f+1,ls,low,sq,l=>if l=[] then Diag.of ls low sq else
  if dp<((ls.length+1:Nat):Int) then Diag.of (ls++[l]) (lowB low (x.bests l)) sq else
  if x.mostN w<(x.next l up).length then x.buildGo w up dp f (ls++[l]) (lowB low (x.bests l)) (some (sq.getD (ls.length+1))) (x.squeeze (x.next l up) w)
  else x.buildGo w up dp f (ls++[l]) (lowB low (x.bests l)) sq (x.next l up)
def Inst.build (x:Inst) (n:Node) (w up:Int):Diag:=x.buildGo w up (x.deep-n.path.length) ((x.deep-n.path.length).toNat+2) [] up none [n]
structure WL (x:Inst) (l:List Node) (r:Nat):Prop where
 is:∀n∈l,n.s.Is n.s.spot
 cost:∀n∈l,0≤n.cost∧n.cost+14143*((r:Int)+41)≤1152921504606846976
theorem WL.lev {x:Inst} {l:List Node} {r:Nat} (h:WL x l r):Lev x l 41:=
 ⟨fun n hn=>(h.is n hn).ok,fun n _=>by have:=meas_le x n.s;omega,fun n hn=>(h.is n hn).pos,fun n hn=>(h.is n hn).seen,fun n hn=>by have:=h.cost n hn;omega⟩
theorem child_spot {x:Inst} {s:State} {j:Int} (h:(x.move s j).2.2=true):0≤(x.move s j).1.spot∧(x.move s j).1.spot<x.stops.length:=by
 by_cases hj:j=0
 ·subst hj
  obtain ⟨h1,h2,h3,h4⟩:=move_home h
  obtain ⟨p,hx⟩:=x.fit h1
  have:=hx.len
  rw [h4]
  show 0≤(0:Int)∧(0:Int)<x.stops.length
  omega
 ·obtain ⟨h1,h2,h3,h4,_,_,_,h5⟩:=move_pos h hj
  obtain ⟨p,hx⟩:=x.fit h1
  have:=hx.len
  have:=hx.pairs
  rw [h5]
  show 0≤j∧j<x.stops.length
  omega
theorem State.Is.move {x:Inst} {s:State} {j i:Int} (h:s.Is i) (hj:(x.move s j).2.2=true):(x.move s j).1.Is (x.move s j).1.spot:=⟨rfl,move_ok x j h.ok,pos_move h.pos h.ok hj,seen_step hj⟩
theorem WL.next {x:Inst} {l:List Node} {r:Nat} (h:WL x l (r+1)) (up:Int):WL x (x.next l up) r∧∀m∈x.next l up,0≤m.s.spot∧m.s.spot<x.stops.length:=by
 have key:∀m∈x.next l up,∃n∈l,∃j,(x.move n.s j).2.2=true∧m=x.child n j:=by
  intro m hm
  obtain ⟨n,hn,j,hj,e,_⟩:=next_mem hm
  exact ⟨n,hn,j,moves_mem hj,e⟩
 refine ⟨⟨?_,?_⟩,?_⟩<;>(intro m hm;obtain ⟨n,hn,j,hj,rfl⟩:=key m hm)
 ·exact (h.is n hn).move hj
 ·rw [child_cost h.lev hn hj]
  have:=h.cost n hn
  have:=move_cost hj
  omega
 ·exact child_spot hj
theorem WL.squeeze {x:Inst} {l:List Node} {r:Nat} (h:WL x l r) (w:Int):WL x (x.squeeze l w) r:=by
 have key:∀m∈x.squeeze l w,m.s.Is m.s.spot∧∃n∈l,m.cost=n.cost:=by
  intro m hm
  rcases squeeze_mem hm with hm | ⟨i,g,h1,h2,h3,rfl⟩
  ·exact ⟨h.is m hm,m,hm,rfl⟩
  ·have hne2:g.map Node.s≠[]:=by simpa using h1
   obtain ⟨j1,j2,j3,j4⟩:=joinL_same hne2 (i:=(i:Int)) fun t ht=>by
    obtain ⟨q,hq,rfl⟩:=List.mem_map.1 ht
    exact (h3 q hq).2
   have j5:=j4 fun t ht=>by
    obtain ⟨q,hq,rfl⟩:=List.mem_map.1 ht
    have:=h.is q (h3 q hq).1
    rw [(h3 q hq).2] at this
    exact this
   obtain ⟨n,hn,e⟩:=(costL_is h1).2
   exact ⟨⟨rfl,j5.ok,j5.pos,j5.seen⟩,n,(h3 n hn).1,e⟩
 refine ⟨fun m hm=>(key m hm).1,fun m hm=>?_⟩
 obtain ⟨_,n,hn,e⟩:=key m hm
 rw [e]
 exact h.cost n hn
theorem lowB_le (low:Int) (b:Node×Bool):lowB low b≤low:=by unfold lowB;split<;>omega
theorem buildGo_le (x:Inst) (w up dp:Int):∀(f:Nat) (ls:List (List Node)) (low:Int) (sq:Option Nat) (l:List Node),(x.buildGo w up dp f ls low sq l).low≤low
 |0,ls,low,sq,l=>Int.le_refl _
 |f+1,ls,low,sq,l=>by
  have hb:=lowB_le low (x.bests l)
  rw [Inst.buildGo]
  split
  ·exact Int.le_refl _
  split
  ·exact hb
  split
  ·exact Int.le_trans (buildGo_le x w up dp f _ _ _ _) hb
  ·exact Int.le_trans (buildGo_le x w up dp f _ _ _ _) hb
theorem buildGo_way {x:Inst} (hst:x.stops.length<2^31) (w up dp:Int):∀(f:Nat) (ls:List (List Node)) (low:Int) (sq:Option Nat) (l:List Node),WL x l f→
  ∀m∈l,∀(v:List Int) (c:Int),x.way v m.s c→m.cost+c<up→(ls.length:Int)+v.length≤dp→v.length<f→(x.buildGo w up dp f ls low sq l).low≤m.cost+c
 |0,ls,low,sq,l,_,m,hm,v,c,_,_,_,hf=>absurd hf (Nat.not_lt_zero _)
 |f+1,ls,low,sq,l,hl,m,hm,v,c,hv,hlt,hdp,hf=>by
  have hne:¬l=[]:=fun e=>by rw [e] at hm;cases hm
  have hend:v=[]→lowB low (x.bests l)≤m.cost+c:=by
   rintro rfl
   obtain ⟨b1,b2⟩:=bests_has hm hv.1
   rw [end_sum hl.lev hm hv.1,←hv.2] at b2
   rw [lowB,if_pos b1]
   omega
  rw [Inst.buildGo,if_neg hne]
  by_cases c1:dp<((ls.length+1:Nat):Int)
  ·rw [if_pos c1]
   exact hend (List.eq_nil_of_length_eq_zero (by omega))
  rw [if_neg c1]
  match v,hv with
  |[],hv=>
   split
   ·exact Int.le_trans (buildGo_le x w up dp f _ _ _ _) (hend rfl)
   ·exact Int.le_trans (buildGo_le x w up dp f _ _ _ _) (hend rfl)
  |j :: v,hv=>
   obtain ⟨g1,e,g2,g3⟩:=hv
   obtain ⟨q,hq,q1,q2⟩:=next_way hst hl.lev hm g1 g2 (up:=up) (by omega)
   obtain ⟨hn1,hn2⟩:=hl.next up
   have hlen:(((ls++[l]).length:Nat):Int)+v.length≤dp:=by
    rw [List.length_append]
    simp only [List.length_cons,List.length_nil] at hdp ⊢
    omega
   have hf2:v.length<f:=by simp only [List.length_cons] at hf;omega
   rw [←q1] at g2
   split
   ·obtain ⟨t,ht,t1,t2⟩:=squeeze_cov w hq (hn2 q hq).1 (hn2 q hq).2
    have ht3:=(hn1.squeeze w).is t ht
    have:=buildGo_way hst w up dp f (ls++[l]) (lowB low (x.bests l)) (some (sq.getD (ls.length+1))) _ (hn1.squeeze w) t ht v e (cov_way (move_pairs g1) t1 ht3.pos ht3.ok g2) (by omega) hlen hf2
    omega
   ·have:=buildGo_way hst w up dp f (ls++[l]) (lowB low (x.bests l)) sq _ hn1 q hq v e g2 (by omega) hlen hf2
    omega
def Inst.layN (x:Inst) (up:Int) (n:Node):Nat→List Node
 |0=>[n]
 |k+1=>x.next (x.layN up n k) up
structure SureI (x:Inst) (up:Int) (n:Node) (ls:List (List Node)) (sq:Option Nat):Prop where
 lay:∀i,i<sq.getD ls.length→ls[i]? =some (x.layN up n i)
 le:sq.getD ls.length≤ls.length
theorem SureI.push {x:Inst} {up:Int} {n:Node} {ls:List (List Node)} {sq:Option Nat} {l:List Node} (h:SureI x up n ls sq) (hl:sq=none→l=x.layN up n ls.length):SureI x up n (ls++[l]) sq:=by
 cases sq with
 |some k=>
  have h1:=h.lay
  have h2:=h.le
  simp only [Option.getD_some] at h1 h2
  refine ⟨fun i hi=>?_,?_⟩
  ·simp only [Option.getD_some] at hi
   rw [List.getElem?_append_left (by omega)]
   exact h1 i hi
  ·simp only [Option.getD_some,List.length_append,List.length_cons];omega
 |none=>
  have h1:=h.lay
  simp only [Option.getD_none] at h1
  refine ⟨fun i hi=>?_,by simp⟩
  simp only [Option.getD_none,List.length_append,List.length_cons,List.length_nil] at hi
  by_cases e:i<ls.length
  ·rw [List.getElem?_append_left e];exact h1 i e
  ·have:i=ls.length:=by omega
   subst this
   rw [List.getElem?_append_right (Nat.le_refl _),Nat.sub_self,hl rfl]
   rfl
structure Diag.Ok (x:Inst) (up:Int) (n:Node) (d:Diag):Prop where
 lay:∀i,i<d.sure→d.layers[i]? =some (x.layN up n i)
 le:d.sure≤d.layers.length
 whole:d.exact=decide (d.sure=d.layers.length)
 pos:1≤d.sure
theorem buildGo_sure {x:Inst} (w up dp:Int) (n:Node):∀(f:Nat) (ls:List (List Node)) (low:Int) (sq:Option Nat) (l:List Node),SureI x up n ls sq→(sq=none→l=x.layN up n ls.length)→(∀k,sq=some k→1≤k∧(l≠[]∨k<ls.length))→(ls=[]→l≠[])→1≤f→
  (∀k,sq=some k→ls.length+f≥1)→(f:Int)+ls.length≥dp+2→((ls.length:Int)≤dp∨ls=[])→(x.buildGo w up dp f ls low sq l).Ok x up n
 |0,ls,low,sq,l,_,_,_,_,hf,_,_,_=>absurd hf (by omega)
 |f+1,ls,low,sq,l,h,hn,hs,h0,hf,hq,hfu,hle=>by
  rw [Inst.buildGo]
  by_cases c0:l=[]
  ·rw [if_pos c0]
   refine ⟨h.lay,h.le,?_,?_⟩
   ·cases sq with
    |none=>simp [Diag.of]
    |some k=>
     have:=(hs k rfl).2
     have:k<ls.length:=this.resolve_left fun e=>e c0
     show false=decide (k=ls.length)
     exact (decide_eq_false (by omega)).symm
   ·cases sq with
    |none=>
     have:ls≠[]:=fun e=>h0 e c0
     have:=List.length_pos_iff.2 this
     simp only [Diag.of,Option.getD_none];omega
    |some k=>exact (hs k rfl).1
  rw [if_neg c0]
  have hp:=h.push hn
  by_cases c1:dp<((ls.length+1:Nat):Int)
  ·rw [if_pos c1]
   refine ⟨hp.lay,hp.le,?_,?_⟩
   ·cases sq with
    |none=>simp [Diag.of]
    |some k=>
     have:=h.le
     simp only [Option.getD_some] at this
     show false=decide (k=(ls++[l]).length)
     exact (decide_eq_false (by rw [List.length_append];simp only [List.length_cons];omega)).symm
   ·cases sq with
    |none=>simp [Diag.of]
    |some k=>exact (hs k rfl).1
  rw [if_neg c1]
  have hlen:(ls++[l]).length=ls.length+1:=by simp
  split
  ·rename_i hov
   have hne:x.next l up≠[]:=fun e=>by rw [e] at hov;simp at hov
   obtain ⟨q,hq2⟩:=List.exists_mem_of_ne_nil _ hne
   obtain ⟨m,hm,j,hj,rfl,_⟩:=next_mem hq2
   have hsp:=child_spot (moves_mem hj)
   obtain ⟨t,ht,_⟩:=squeeze_cov w hq2 hsp.1 hsp.2
   have hne2:x.squeeze (x.next l up) w≠[]:=fun e=>by rw [e] at ht;cases ht
   refine buildGo_sure w up dp n f _ _ _ _ ?_ (fun e=>by cases e) (fun k hk=>⟨?_,.inl hne2⟩) (fun _=>hne2) (by omega) (fun _ _=>by omega) (by rw [hlen];omega) (.inl (by rw [hlen];omega))
   ·cases sq with
    |none=>
     simp only [Option.getD_none]
     refine ⟨fun i hi=>hp.lay i ?_,by simp⟩
     simp only [Option.getD_some] at hi
     simp only [Option.getD_none,hlen]
     exact hi
    |some k=>exact hp
   ·cases hk
    cases sq with
    |none=>simp
    |some k=>exact (hs k rfl).1
  ·refine buildGo_sure w up dp n f _ _ _ _ hp (fun e=>?_) (fun k hk=>⟨(hs k hk).1,.inr ?_⟩) (fun e=>by simp at e) (by omega) (fun _ _=>by omega) (by rw [hlen];omega) (.inl (by rw [hlen];omega))
   ·rw [hlen,Inst.layN,←hn e]
   ·have:=h.le
    rw [hk] at this
    simp only [Option.getD_some] at this
    omega
theorem buildGo_lay {x:Inst} (w up dp:Int):∀(f:Nat) (ls:List (List Node)) (low:Int) (sq:Option Nat) (l:List Node),l.length≤x.mostN w→(∀k∈ls.drop 1,k≠[]∧k.length≤x.mostN w)→
  ∀k∈(x.buildGo w up dp f ls low sq l).layers.drop 1,k≠[]∧k.length≤x.mostN w
 |0,ls,low,sq,l,_,h=>h
 |f+1,ls,low,sq,l,hl,h=>by
  rw [Inst.buildGo]
  split
  ·exact h
  rename_i c0
  have h2:∀k∈(ls++[l]).drop 1,k≠[]∧k.length≤x.mostN w:=by
   intro k hk
   cases ls with
   |nil=>simp at hk
   |cons a ls=>
    rw [List.cons_append,List.drop_succ_cons,List.drop_zero] at hk
    rcases List.mem_append.1 hk with hk | hk
    ·exact h k (by simpa using hk)
    ·rw [List.mem_singleton.1 hk];exact ⟨c0,hl⟩
  split
  ·exact h2
  split
  ·exact buildGo_lay w up dp f _ _ _ _ (squeeze_len x _ w) h2
  ·exact buildGo_lay w up dp f _ _ _ _ (by omega) h2
theorem buildGo_count {x:Inst} (w up dp:Int):∀(f:Nat) (ls:List (List Node)) (low:Int) (sq:Option Nat) (l:List Node),((x.buildGo w up dp f ls low sq l).layers.length:Int)≤max ((ls.length:Int)+1) (dp+1)
 |0,ls,low,sq,l=>by show (ls.length:Int)≤_;omega
 |f+1,ls,low,sq,l=>by
  have hlen:(ls++[l]).length=ls.length+1:=by simp
  rw [Inst.buildGo]
  split
  ·show (ls.length:Int)≤_;omega
  split
  ·show ((ls++[l]).length:Int)≤_;omega
  split
  ·have:=buildGo_count (x:=x) w up dp f (ls++[l]) (lowB low (x.bests l)) (some (sq.getD (ls.length+1))) (x.squeeze (x.next l up) w);omega
  ·have:=buildGo_count (x:=x) w up dp f (ls++[l]) (lowB low (x.bests l)) sq (x.next l up);omega
end Go.Proofs.YtackfabapangdaaGreat

set_option maxRecDepth 4000
namespace Go.Proofs.YtackfabapangdaaGreat
open Go Go.Proofs.YtackfabapangdaaGreat.R
structure Car where
 spot:Int
 now:Int
 gone:Int
 load:Int
 seen:Nat
 on:Nat
 times:List (List T)
 loads:List Int
structure Car.Fit (c:Car) (p k:Nat):Prop where
 spot:0≤c.spot∧c.spot≤2*p
 now:0≤c.now∧c.now≤1049576
 gone:0≤c.gone∧c.gone≤14143*k
 load: -1000*(k:Int)≤c.load∧c.load≤1000
 seen:c.seen<2^64
 on:c.on<2^64
 times:c.times.length=k
 loads:c.loads.length=k
 three:∀y∈c.times,y.length=3
 few:k+((List.range (2*p+1)).filter fun j:Nat=>decide (1≤j)&& !hasB c.seen (j:Int)).length≤2*p
theorem Car.Fit.le {c:Car} {p k:Nat} (h:c.Fit p k):k≤2*p:=by have:=h.few;omega
def Inst.visitsE (x:Inst) (c:Car) (i:Int):Int:=
 if i<1∨2*x.pairs<i then 1 else if hasB c.seen i=true then 5 else if x.pairs<i∧hasB c.seen (i-x.pairs)=false then 8 else if x.room<c.load+(x.stop i).demand then 6 else 0
def Inst.drive (x:Inst) (c:Car) (i:Int):Car:={c with spot:=i,gone:=c.gone+far (x.stop c.spot) (x.stop i)}
end Go.Proofs.YtackfabapangdaaGreat

set_option maxRecDepth 4000
namespace Go.Proofs.YtackfabapangdaaGreat
open Go Go.Proofs.YtackfabapangdaaGreat.R
def Inst.visitC (x:Inst) (c:Car) (i:Int):Car×Int:=
 if x.visitsE c i≠0 then (c,x.visitsE c i)
 else if (x.stop i).due<max (c.now+far (x.stop c.spot) (x.stop i)) (x.stop i).ready then (x.drive c i,7)
 else ({spot:=i,now:=max (c.now+far (x.stop c.spot) (x.stop i)) (x.stop i).ready+(x.stop i).service,gone:=c.gone+far (x.stop c.spot) (x.stop i),load:=c.load+(x.stop i).demand,seen:=withN c.seen i,
        on:=if i≤x.pairs then withN c.on i else withoutN c.on (i-x.pairs),times:=c.times++[[.i (c.now+far (x.stop c.spot) (x.stop i)),.i (max (c.now+far (x.stop c.spot) (x.stop i)) (x.stop i).ready),.i (max (c.now+far (x.stop c.spot) (x.stop i)) (x.stop i).ready+(x.stop i).service)]],loads:=c.loads++[c.load+(x.stop i).demand]},0)
theorem visits_ok {x:Inst} {c:Car} {i:Int} (h:x.visitsE c i=0):1≤i∧i≤2*x.pairs∧hasB c.seen i=false∧(x.pairs<i→hasB c.seen (i-x.pairs)=true)∧c.load+(x.stop i).demand≤x.room:=by
 rw [Inst.visitsE] at h
 split at h
 ·cases h
 split at h
 ·cases h
 split at h
 ·cases h
 split at h
 ·cases h
 rename_i h1 h2 h3 h4
 refine ⟨by omega,by omega,by simpa using h2,fun h=>?_,by omega⟩
 cases hq:hasB c.seen (i-x.pairs) with
 |true=>rfl
 |false=>exact absurd ⟨h,hq⟩ h3
end Go.Proofs.YtackfabapangdaaGreat

set_option maxRecDepth 4000
namespace Go.Proofs.YtackfabapangdaaGreat
open Go Go.Proofs.YtackfabapangdaaGreat.R
theorem visitC_fit {x:Inst} {c:Car} {i:Int} {p k:Nat} (hx:x.Fit p) (hc:c.Fit p k) (h:(x.visitC c i).2=0):(x.visitC c i).1.Fit p (k+1):=by
 have hok:=visits_ok (x:=x) (c:=c) (i:=i)
 rw [Inst.visitC] at h ⊢
 by_cases c0:x.visitsE c i=0
 rotate_left
 ·rw [if_pos c0] at h;exact absurd h c0
 rw [if_neg (by simp [c0])] at h ⊢
 by_cases c1:(x.stop i).due<max (c.now+far (x.stop c.spot) (x.stop i)) (x.stop i).ready
 ·rw [if_pos c1] at h;cases h
 rw [if_neg c1]
 obtain ⟨k1,k2,k3,k4,k5⟩:=hok c0
 have hp:=hx.pairs
 have hfi:=hx.at (j:=i) (by omega) (by omega)
 have hfar:=far_le (x.stop c.spot) (x.stop i)
 have h1:=hc.now
 have h2:=hc.gone
 have h3:=hc.load
 have h4:=hfi.ready
 have h5:=hfi.due
 have h6:=hfi.service
 have h7:=hfi.demand
 have h8:=hx.room
 have h9:=hx.few
 constructor
 ·simp only;omega
 ·simp only;omega
 ·simp only;omega
 ·simp only;omega
 ·exact withN_lt hc.seen _
 ·simp only
  split
  ·exact withN_lt hc.on _
  ·exact withoutN_lt _ _
 ·simp [hc.times]
 ·simp [hc.loads]
 ·intro y hy
  simp only [List.mem_append,List.mem_singleton] at hy
  rcases hy with hy | rfl
  ·exact hc.three y hy
  ·rfl
 ·have h10:=hc.few
  obtain ⟨j,rfl⟩:∃j:Nat,i=j:=⟨i.toNat,by omega⟩
  have:=filter_lt (p:=fun j:Nat=>decide (1≤j)&& !hasB c.seen (j:Int)) (q:=fun m:Nat=>decide (1≤m)&& !hasB (withN c.seen (j:Int)) (m:Int)) (List.range (2*p+1)) (a:=j) (List.mem_range.2 (by omega)) (by rw [k3];simp;omega) (by rw [has_withN (by omega)];simp) (fun m=>by
   rw [has_withN (by omega)]
   simp only [Bool.and_eq_true,Bool.not_eq_true',Bool.or_eq_false_iff]
   exact fun h=>⟨h.1,h.2.1⟩)
  simp only
  omega
def Inst.homeC (x:Inst) (c:Car):Car×Int:=
 if c.on≠0 then (c,8) else if (x.stop 0).due<c.now+far (x.stop c.spot) (x.stop 0) then (x.drive c 0,7) else (x.drive c 0,0)
def Inst.car0 (x:Inst):Car:=⟨0,(x.stop 0).ready,0,0,0,0,[],[]⟩
theorem car0_fit {x:Inst} {p:Nat} (hx:x.Fit p):x.car0.Fit p 0:=by
 have h1:=(hx.at (j:=0) (by omega) (by omega)).ready
 refine ⟨by simp only [Inst.car0];omega,by simp only [Inst.car0];omega,by simp only [Inst.car0];omega,by simp only [Inst.car0];omega,by simp [Inst.car0],by simp [Inst.car0],rfl,rfl,(fun y hy=>by cases hy),?_⟩
 have:=filter_lt (p:=fun _:Nat=>true) (q:=fun j:Nat=>decide (1≤j)&& !hasB x.car0.seen (j:Int)) (List.range (2*p+1)) (a:=0) (List.mem_range.2 (by omega)) rfl (by simp) (fun _ _=>rfl)
 rw [List.filter_eq_self.2 (fun _ _=>rfl),List.length_range] at this
 omega
def Inst.runC (x:Inst):List Int→Car→Car×Int
 |[],c=>x.homeC c
 |i :: r,c=>if (x.visitC c i).2≠0 then x.visitC c i else x.runC r (x.visitC c i).1
def Inst.times (x:Inst) (route:List Int):List (List T)×Int×Int:=
 if x.may=false then ([],0,1) else if (x.runC route x.car0).2≠0 then ([],0,(x.runC route x.car0).2) else ((x.runC route x.car0).1.times,(x.runC route x.car0).1.gone,0)
end Go.Proofs.YtackfabapangdaaGreat

set_option maxRecDepth 4000
namespace Go.Proofs.YtackfabapangdaaGreat
open Go Go.Proofs.YtackfabapangdaaGreat.R
def idxI (p:Int→Bool):Nat→List Int→Int
 |_,[]=>-1
 |i,n :: l=>if p n=true then (i:Int) else idxI p (i+1) l
theorem indexI_pure (l:List Int) (p:Int→Bool) (f:FuncId) (hl:l.length<2^62) (hf:∀n,Pure P f [.i n] (.b (p n))):Pure P 106 [.t (.sl (ints l)),.fn (.func f) [] []] (.i (idxI p 0 l)):=by
 have hil:(ints l).length=l.length:=List.length_map _
 refine pure_of Tryz.func106 rfl rfl (by simp [Tryz.f106]) (by simp [bnd,bnd.bndL]) (by simp [bnd,bnd.bndL]) fun B hB hnx=>?_
 simp only [Tryz.f106] at hB ⊢
 refine K_run hB 100 ?_
 simp [go_sem,hil]
 refine K_loopP (α:=Nat) (fun k=>k≤l.length∧idxI p k (l.drop k)=idxI p 0 l) (fun k=>⟨sl [(0,.t (.sl (ints l))),(1,.fn (.func f) [] []),(7,.i l.length),(8,.i k)],noObj,0⟩) (fun k=>l.length-k) 0 ⟨Nat.zero_le _,rfl⟩ (Imp.slots (by simp [go_sem]) rfl rfl) ?_
 rintro k ⟨h1,h2⟩
 refine K_run hB 60 ?_
 simp [go_sem]
 refine fork_dec (fun h=>?_) (fun h=>?_)
 ·rw [List.drop_eq_getElem_cons h,idxI] at h2
  have hkk:IntKind.i64.wrap ((k:Int)+1)=((k+1:Nat):Int):=by rw [w64 ((k:Int)+1) (by omega)];rfl
  have hget:=ints_getS l h
  generalize l[k]=n at *
  have hp:=hf n
  simp [go_sem,h,hil,hget]
  refine K_call rfl rfl rfl (args:=[.i n]) (f:=f) (by simp [go_sem]) (by simp [go_sem,hB]) (hp.spec _ _) ?_
  cases ho:p n with
  |true=>
   rw [ho,if_pos rfl] at h2
   refine K_run hB 100 ?_
   simp [go_sem,←h2]
  |false=>
   rw [ho,if_neg (by simp)] at h2
   refine K_run hB 100 ?_
   simp [go_sem,hkk]
   exact Next.mk (k+1) ⟨by omega,h2⟩ (Imp.slots (by simp [go_sem]) rfl rfl) (by omega)
 ·have:k=l.length:=by omega
  subst this
  rw [List.drop_length] at h2
  simp [go_sem,←h2,idxI]
def bump (s:List Int) (i:Int):List Int:=s.set i.toNat (s.getD i.toNat 0+1)
def Inst.costGo (x:Inst):List (List Int)→Int→List Int→Int×Int
 |[],all,seen=>if (seen.any fun n=>decide (1<n))=true then (0,5) else if ((seen.drop 1).any fun n=>decide (n=0))=true then (0,4) else (all,0)
 |r :: rs,all,seen=>if r.length=0 then (0,1) else if (x.times r).2.2≠0 then (0,(x.times r).2.2) else x.costGo rs (all+(x.times r).2.1) (r.foldl bump seen)
def Inst.cost (x:Inst) (p:List (List Int)):Int×Int:=
 if x.may=false then (0,1) else if x.cars<p.length then (0,6) else x.costGo p 0 (List.replicate (2*x.pairs+1).toNat 0)
theorem runC_ok {x:Inst} {p:Nat} (hx:x.Fit p):∀(r:List Int) (c:Car) (k:Nat),c.Fit p k→(x.runC r c).2=0→(∀i∈r,1≤i∧i≤2*p)∧k+r.length≤2*p∧0≤(x.runC r c).1.gone∧(x.runC r c).1.gone≤14143*(k+r.length+1)
 |[],c,k,hc,h=>by
  have hg:=hc.gone
  have hf:=far_le (x.stop c.spot) (x.stop 0)
  have:=hc.le
  refine ⟨fun i hi=>(by cases hi),by simpa using this,?_⟩
  rw [Inst.runC,Inst.homeC]
  simp only [List.length_nil]
  split
  ·simp only;omega
  ·split<;>simp only [Inst.drive]<;>omega
 |i :: r,c,k,hc,h=>by
  rw [Inst.runC] at h ⊢
  by_cases c1:(x.visitC c i).2=0
  ·rw [if_neg (by simp [c1])] at h ⊢
   obtain ⟨h1,h2,h3,h4⟩:=runC_ok hx r _ _ (visitC_fit hx hc c1) h
   have hv:x.visitsE c i=0:=by
    rw [Inst.visitC] at c1
    split at c1
    ·rename_i hh;exact absurd c1 hh
    ·rename_i hh;simpa using hh
   obtain ⟨k1,k2,_⟩:=visits_ok hv
   have hp:=hx.pairs
   rw [List.length_cons]
   refine ⟨fun j hj=>?_,by omega,h3,by omega⟩
   rcases List.mem_cons.1 hj with rfl | hj
   ·omega
   ·exact h1 j hj
  ·rw [if_pos c1] at h
   exact absurd h c1
theorem times_ok {x:Inst} {p:Nat} (hx:x.Fit p) (hm:x.may=true) {r:List Int} (h:(x.times r).2.2=0):(∀i∈r,1≤i∧i≤2*p)∧r.length≤2*p∧0≤(x.times r).2.1∧(x.times r).2.1≤14143*33:=by
 rw [Inst.times,if_neg (by simp [hm])] at h ⊢
 by_cases c1:(x.runC r x.car0).2=0
 ·rw [if_neg (by simp [c1])]
  obtain ⟨h1,h2,h3,h4⟩:=runC_ok hx r _ 0 (car0_fit hx) c1
  have:=hx.few
  exact ⟨h1,by omega,h3,by simp only;omega⟩
 ·rw [if_pos c1] at h
  exact absurd h c1
theorem bump_len (s:List Int) (i:Int):(bump s i).length=s.length:=List.length_set
theorem bumps_len:∀(r:List Int) (s:List Int),(r.foldl bump s).length=s.length
 |[],s=>rfl
 |i :: r,s=>by rw [List.foldl_cons,bumps_len,bump_len]
end Go.Proofs.YtackfabapangdaaGreat

set_option maxRecDepth 4000
namespace Go.Proofs.YtackfabapangdaaGreat
open Go Go.Proofs.YtackfabapangdaaGreat.R
def lowI (n:Int):Bool:=decide (n≤0)
theorem idxI_at (p:Int→Bool):∀(i:Nat) (l:List Int),idxI p i l<0∨∃j,j<l.length∧idxI p i l=((i+j:Nat):Int)∧p (l.getD j 0)=true∧∀n∈l.take j,p n=false
 |_,[]=>.inl (by simp [idxI])
 |i,n :: l=>by
  rw [idxI]
  cases h:p n with
  |true=>exact .inr ⟨0,by simp,by simp,by simpa using h,by simp⟩
  |false=>
   rcases idxI_at p (i+1) l with h1 | ⟨j,hj,h1,h2,h3⟩
   ·exact .inl (by simpa using h1)
   ·refine .inr ⟨j+1,by simpa using hj,?_,by simpa using h2,?_⟩
    ·rw [if_neg (by simp),h1]
     omega
    ·intro m hm
     rw [List.take_succ_cons] at hm
     rcases List.mem_cons.1 hm with rfl | hm
     ·exact h
     ·exact h3 m hm
def splitF:Nat→List Int→Int→Bool→List (List Int)→List (List Int)×Int
 |0,_,_,_,_=>([],2)
 |f+1,t,last,order,acc=>
  if idxI lowI 0 t<0 then (if (order||decide (t.getD 0 0≤last))=true then ([],8) else (acc++[t],0))
  else if idxI lowI 0 t=0∨t.getD (idxI lowI 0 t).toNat 0<0∨idxI lowI 0 t=(t.length:Int)-1 then ([],2)
  else splitF f (t.drop ((idxI lowI 0 t).toNat+1)) (t.getD 0 0) (order||decide (t.getD 0 0≤last)) (acc++[t.take (idxI lowI 0 t).toNat])
def splitR (t:List Int):List (List Int)×Int:=if t.length=0 then ([],0) else splitF (t.length+1) t 0 false []
theorem low1_pure (n:Int):Pure P 216 [.i n] (.b (lowI n)):=by
 refine pure_of Tryz.func216 rfl rfl (by simp [Tryz.f216]) (by simp [bnd,bnd.bndL]) (by simp [bnd,bnd.bndL]) fun B hB hnx=>?_
 simp only [Tryz.f216] at hB ⊢
 refine K_run hB 100 ?_
 simp [go_sem,lowI]
theorem split_pure (t:List Int) (ht:t.length<2^31):Pure P 179 [.t (.sl (ints t))] (.tup [.agg [.t (.sl ((splitR t).1.map rowT))],.i (splitR t).2]):=by
 generalize hR:splitR t=R
 have hil:(ints t).length=t.length:=List.length_map _
 refine pure_of Tryz.func179 rfl rfl (by simp [Tryz.f179]) (by simp [bnd,bnd.bndL]) (by simp [bnd,bnd.bndL]) fun B hB hnx=>?_
 simp only [Tryz.f179] at hB ⊢
 rw [splitR] at hR
 refine K_run hB 100 ?_
 simp [go_sem]
 refine K_scopeL (α:=Unit) (fun _=>0) (fun _=>False) (fun _=>⟨fun _=>.any,noObj,0⟩) (fun _=>0) (fun _ h=>h.elim) ?_ (fun _ h=>h.elim)
 by_cases c0:t.length=0
 ·rw [if_pos c0] at hR
  subst hR
  refine K_run hB 100 ?_
  simp [go_sem,hil,c0]
 rw [if_neg c0] at hR
 refine K_run hB 100 ?_
 simp [go_sem,hil,c0]
 refine K_call rfl rfl rfl (args:=[.t (.sl (ints t))]) (f:=215) (by simp [go_sem]) (by simp [go_sem,hB]) (clone_spec t (by omega) _ _) ?_
 refine K_run hB 100 ?_
 simp [go_sem]
 refine K_loopP (α:=Nat×List Int×Int×Bool×List (List Int)×(Nat→AObj)×Nat×Nat) (fun (f,t',last,order,acc,σ,nx,q)=>t'.length≠0∧t'.length<f∧acc.length+t'.length≤t.length∧splitF f t' last order acc=R∧σ 0= .box [.fsl []]∧σ 1= .box [.ref q]∧σ q= .arr 1 (acc.map rowT)∧1<q∧q<nx)
  (fun (f,t',last,order,acc,σ,nx,q)=>⟨sl [(0,.t (.sl (ints t'))),(2,.ptr 0 0),(4,.ptr 1 0),(5,.b order),(6,.i last)],σ,nx⟩) (fun a=>a.1) (t.length+1,t,0,false,[],_,4,3) ?_
  ((Imp.freeze (q:=2) (sz:=1) (es:=ints t) (by simp [go_sem])).trans ((Imp.ownB (b:=1) (off:=0) (sz:=1) (cs:=[.fsl []]) (by simp [go_sem,frzO,frz1,frz1.frzL]) rfl).trans (Imp.slots (by simp [go_sem,frz1]) rfl rfl))) ?_
 ·exact ⟨c0,by omega,by simp,hR,by simp [oput,frzO,frz1,frz1.frzL],by simp [oput],by simp [oput],by omega,by omega⟩
 rintro ⟨f,t',last,order,acc,σ,nx,q⟩ ⟨g1,g2,g3,g4,g5,g6,g7,g8,g9⟩
 obtain ⟨f,rfl⟩:∃f',f=f'+1:=⟨f-1,by omega⟩
 have hil2:(ints t').length=t'.length:=List.length_map _
 have hlt0:0<t'.length:=by omega
 have hix:=indexI_pure t' lowI 216 (by omega) low1_pure
 have hat:=idxI_at lowI 0 t'
 rw [splitF] at g4
 have hhd:t'.getD 0 0=t'[0]'hlt0:=by rw [List.getD_eq_getElem?_getD,List.getElem?_eq_getElem hlt0];rfl
 have hget0:=ints_getS t' (i:=0) hlt0
 rw [hhd] at g4
 generalize idxI lowI 0 t'=e at *
 refine K_run hB 100 ?_
 simp [go_sem,hil2]
 refine K_call rfl rfl rfl (args:=[.t (.sl (ints t')),.fn (.func 216) [] []]) (f:=106) (by simp [go_sem]) (by simp [go_sem,hB]) ((hix).spec _ _) ?_
 have hm1:(acc.map rowT).length+1≤mostLen:=by rw [List.length_map];show _≤4294967296;omega
 have hm2:acc.length+1≤mostLen:=by show _≤4294967296;omega
 have hone:∀y∈ints t',y.length=1:=by
  intro y hy
  simp only [ints,List.mem_map] at hy
  obtain ⟨n,_,rfl⟩:=hy
  rfl
 have htl:List.take t'.length (ints t')=ints t':=by rw [←hil2,List.take_length]
 by_cases c1:e<0
 ·rw [if_pos c1] at g4
  cases order<;>by_cases c2:t'[0]≤last
  all_goals
   simp only [c2,Bool.false_or,Bool.true_or,decide_true,decide_false,if_true,Bool.false_eq_true,if_false] at g4
   subst g4
   refine K_run hB 100 ?_
   simp [go_sem,c1,hil2,hlt0,hget0,c2]
   refine K_drawnT [7,9] rfl (by rw [hB];kernel_rfl) (by kernel_rfl) fun ht=>?_
   refine K_run hB 100 ?_
   simp [go_sem,ht,hil2,g5,g6,g7,hm1,hm2,if_pos hone,hone,htl,show ¬1=nx by omega,show ¬1=q by omega,show ¬0=nx by omega,show ¬0=q by omega,show ¬nx=0 by omega,show ¬nx=1 by omega,rowT]
 ·rw [if_neg c1] at g4
  obtain ⟨j,hj,rfl,k2,k3⟩:=hat.resolve_left c1
  have hgetj:=ints_getS t' hj
  have hge:t'.getD j 0=t'[j]:=by rw [List.getD_eq_getElem?_getD,List.getElem?_eq_getElem hj];rfl
  simp only [Nat.zero_add,Int.toNat_natCast] at g4 c1 ⊢
  rw [hge] at g4
  have hjI:(j:Int)<t'.length:=by omega
  have hjle:j≤t'.length:=by omega
  have htj:List.take j (ints t')=ints (t'.take j):=by simp [ints,List.map_take]
  have hdj:List.drop (j+1) (ints t')=ints (t'.drop (j+1)):=by simp [ints,List.map_drop]
  have wj:IntKind.i64.wrap ((j:Int)+1)=((j+1:Nat):Int):=by rw [w64 _ (by omega)];rfl
  have w1:=w64 ((t'.length:Int)-1) (by omega)
  by_cases d1:j=0
  ·rw [if_pos (.inl (by omega))] at g4
   subst g4
   refine K_run hB 100 ?_
   simp [go_sem,c1,hil2,d1,g5]
  by_cases d2:t'[j]<0
  ·rw [if_pos (.inr (.inl d2))] at g4
   subst g4
   refine K_run hB 100 ?_
   simp [go_sem,c1,hil2,d1,hj,hgetj,d2,g5]
  by_cases d3:(j:Int)=(t'.length:Int)-1
  ·rw [if_pos (.inr (.inr d3))] at g4
   subst g4
   have hv:IntKind.i64.wrap ((t'.length:Int)-1)=j:=by rw [w1];omega
   refine K_run hB 100 ?_
   simp [go_sem,c1,hil2,d1,hj,hgetj,d2,hv,g5]
  rw [if_neg (by omega)] at g4
  refine K_run hB 100 ?_
  simp [go_sem,c1,hil2,d1,hj,hgetj,d2,w1,d3]
  cases order<;>by_cases c2:t'[0]≤last
  all_goals
   simp only [c2,Bool.false_or,Bool.true_or,decide_true,decide_false] at g4
   simp [go_sem,c1,hil2,hlt0,hget0,c2]
   refine K_drawnT [7,9] rfl (by rw [hB];kernel_rfl) (by kernel_rfl) fun ht=>?_
   refine K_run hB 100 ?_
   simp [go_sem,ht,hil2,g5,g6,g7,hm1,hm2,if_pos hone,hone,hjle,htj,hdj,show ¬1=nx by omega,show ¬1=q by omega,show ¬0=nx by omega,show ¬0=q by omega,show ¬j=t'.length by omega,wj,show 0≤(j:Int)+1 by omega,show (j:Int)+1≤t'.length by omega]
   refine Next.mk (f,t'.drop (j+1),t'[0],_,acc++[t'.take j],_,nx+1,nx) ⟨?_,?_,?_,g4,?_,?_,?_,?_,?_⟩ (Imp.slots (by simp [go_sem,hdj,c2]) rfl rfl) (by simp only;omega)
   ·simp only [List.drop_eq_nil_iff];omega
   ·simp only [List.length_drop];omega
   ·simp only [List.length_drop,List.length_append,List.length_cons,List.length_nil];omega
   ·simp [oput,show ¬0=nx by omega,show ¬0=q by omega,g5]
   ·simp [oput]
   ·simp [oput,show ¬nx=1 by omega,rowT]
   ·simp only;omega
   ·simp only;omega
end Go.Proofs.YtackfabapangdaaGreat
