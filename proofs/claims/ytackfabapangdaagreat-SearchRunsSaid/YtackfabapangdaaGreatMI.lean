/- Parts of the proof: Sqz, SqzW, Set2, JoinR, TogR, SqzR, Own, Build, Srch, Srch2, Srch3, Srch4, BuildR, Law17e, FrontR, BestR, Law15b, Srch5. -/
import Derived.Test.YtackfabapangdaaGreatMH
set_option linter.all false
set_option maxHeartbeats 4000000
set_option maxRecDepth 4000
set_option maxHeartbeats 1000000
namespace Go.Proofs.YtackfabapangdaaGreat
open Go Go.Proofs.YtackfabapangdaaGreat.R
theorem nodup_inj {α:Type} {l:List α} (h:l.Nodup) {i j:Nat} (hi:i<l.length) (hj:j<l.length) (e:l[i]=l[j]):i=j:=by
 rcases Nat.lt_trichotomy i j with h1 | h1 | h1
 ·exact absurd e (List.pairwise_iff_getElem.1 h i j hi hj h1)
 ·exact h1
 ·exact absurd e.symm (List.pairwise_iff_getElem.1 h j i hj hi h1)
theorem nodup_set {α:Type} {l:List α} (h:l.Nodup) {a:α} (hm:a∉l) (i:Nat):(l.set i a).Nodup:=by
 refine List.pairwise_iff_getElem.2 fun j k hj hk hjk=>?_
 rw [List.length_set] at hj hk
 rw [List.getElem_set,List.getElem_set]
 split
 ·split
  ·omega
  ·exact fun e=>hm (e ▸ List.getElem_mem _)
 ·split
  ·exact fun e=>hm (e ▸ List.getElem_mem _)
  ·exact List.pairwise_iff_getElem.1 h j k hj hk hjk
abbrev kv (i:Int):Value:=.int .i64 i
noncomputable def kmap (K:List (Int×Nat)):List (Value×AV):=K.map fun p=>(kv p.1,.ref p.2)
def kfind (i:Int):List (Int×Nat)→Option (Nat×Nat)
 |[]=>none
 |p :: K=>if p.1=i then some (0,p.2) else (kfind i K).map fun r=>(r.1+1,r.2)
def kset (i:Int) (q:Nat) (K:List (Int×Nat)):List (Int×Nat):=match kfind i K with
 |some (j,_)=>K.set j (i,q)
 |none=>K++[(i,q)]
theorem kv_inj {i j:Int}:kv i=kv j↔i=j:=⟨fun h=>by injection h,fun h=>by rw [h]⟩
theorem findM_k (i:Int):∀(K:List (Int×Nat)),findM (kv i) (kmap K)=(kfind i K).map fun r=>(r.1,.ref r.2)
 |[]=>rfl
 |p :: K=>by
  have e:kmap (p :: K)=(kv p.1,.ref p.2) :: kmap K:=rfl
  rw [e,findM,kfind,findM_k i K]
  by_cases h:p.1=i
  ·rw [if_pos (by rw [h]),if_pos h];rfl
  ·rw [if_neg (fun e=>h (kv_inj.1 e)),if_neg h,Option.map_map,Option.map_map]
   rfl
theorem kfind_some {i:Int}:∀{K:List (Int×Nat)} {j q:Nat},kfind i K=some (j,q)→∃h:j<K.length,K[j]=(i,q)
 |[],j,q,h=>by cases h
 |p :: K,j,q,h=>by
  rw [kfind] at h
  split at h
  ·rename_i e
   cases h
   exact ⟨by simp,by rw [←e];rfl⟩
  ·obtain ⟨r,h1,h2⟩:=Option.map_eq_some_iff.1 h
   cases h2
   obtain ⟨h3,h4⟩:=kfind_some h1
   exact ⟨by simp;omega,by simpa using h4⟩
theorem kfind_none {i:Int}:∀{K:List (Int×Nat)},kfind i K=none→i∉K.map Prod.fst
 |[],_=>by simp
 |p :: K,h=>by
  rw [kfind] at h
  split at h
  ·cases h
  ·rename_i e
   have:=kfind_none (Option.map_eq_none_iff.1 h)
   simp only [List.map_cons,List.mem_cons,not_or]
   exact ⟨fun h=>e h.symm,this⟩
theorem setM_k (i:Int) (q:Nat) (K:List (Int×Nat)):setM (kv i) (.ref q) (kmap K)=kmap (kset i q K):=by
 rw [setM,findM_k,kset]
 cases h:kfind i K with
 |none=>simp [kmap]
 |some r=>simp [kmap,List.map_set]
theorem k_tell (i:Int) (K:List (Int×Nat)):TellM P 3 (.i i) (kv i) (kmap K):=by
 intro e he
 obtain ⟨p,hp,rfl⟩:=List.mem_map.1 he
 refine ⟨.i p.1,rfl,?_⟩
 have:eqA P 10000 3 (.i i) (.i p.1)=some (decide (i=p.1)):=by
  simp [eqA,tt3]
 rw [this]
 congr 1
 rw [decide_eq_decide]
 exact ⟨fun h=>by rw [h],fun h=>(kv_inj.1 h).symm⟩
def grp (L:List Node) (i:Int):List Node:=L.filter fun n=>decide (n.s.spot=i)
structure KI (K:List (Int×Nat)) (L:List Node) (σ:Nat→AObj) (base nx:Nat):Prop where
 keys:(K.map Prod.fst).Nodup
 objs:(K.map Prod.snd).Nodup
 rows:∀p∈K,σ p.2= .arr 10 (nodesT (grp L p.1))∧base≤p.2∧p.2<nx
 none:∀i,i∉K.map Prod.fst→grp L i=[]
theorem grp_snoc (L:List Node) (n:Node) (i:Int):grp (L++[n]) i=grp L i++if n.s.spot=i then [n] else []:=by
 rw [grp,List.filter_append,grp]
 congr 1
 by_cases h:n.s.spot=i<;>simp [h]
theorem kset_map {i:Int} {q:Nat} {K:List (Int×Nat)}:((kset i q K).map Prod.fst=K.map Prod.fst∧i∈K.map Prod.fst)∨((kset i q K).map Prod.fst=K.map Prod.fst++[i]∧i∉K.map Prod.fst):=by
 unfold kset
 cases h:kfind i K with
 |none=>exact .inr ⟨by simp,kfind_none h⟩
 |some r=>
  obtain ⟨j,q0⟩:=r
  obtain ⟨h1,h2⟩:=kfind_some h
  refine .inl ⟨?_,List.mem_map.2 ⟨_,List.getElem_mem h1,by rw [h2]⟩⟩
  simp only [List.map_set]
  refine List.ext_getElem (by simp) fun k hk1 hk2=>?_
  rw [List.getElem_set]
  split
  ·rename_i e
   subst e
   rw [List.getElem_map,h2]
  ·rfl
theorem kset_mem {i:Int} {q:Nat} {K:List (Int×Nat)} (hk:(K.map Prod.fst).Nodup) {p:Int×Nat} (hp:p∈kset i q K):p=(i,q)∨(p∈K∧p.1≠i):=by
 unfold kset at hp
 cases h:kfind i K with
 |none=>
  rw [h] at hp
  rcases List.mem_append.1 hp with hp | hp
  ·refine .inr ⟨hp,fun e=>kfind_none h (List.mem_map.2 ⟨p,hp,e⟩)⟩
  ·exact .inl (List.mem_singleton.1 hp)
 |some r=>
  obtain ⟨j,q0⟩:=r
  rw [h] at hp
  obtain ⟨h1,h2⟩:=kfind_some h
  obtain ⟨k,hk1,hk2⟩:=List.getElem_of_mem hp
  simp only [List.length_set] at hk1
  rw [List.getElem_set] at hk2
  split at hk2
  ·exact .inl hk2.symm
  ·rename_i e
   refine .inr ⟨by rw [←hk2];exact List.getElem_mem _,fun e2=>e ?_⟩
   have e3:(K.map Prod.fst)[j]'(by simpa using h1)=(K.map Prod.fst)[k]'(by simpa using hk1):=by
    rw [List.getElem_map,List.getElem_map,h2,hk2,e2]
   exact nodup_inj hk _ _ e3
theorem KI.ne {K:List (Int×Nat)} {L:List Node} {σ:Nat→AObj} {base nx:Nat} (h:KI K L σ base nx) {a b:Int×Nat} (ha:a∈K) (hb:b∈K) (hne:a.1≠b.1):a.2≠b.2:=by
 intro e
 obtain ⟨j,hj1,hj2⟩:=List.getElem_of_mem ha
 obtain ⟨k,hk1,hk2⟩:=List.getElem_of_mem hb
 have e3:(K.map Prod.snd)[j]'(by simpa using hj1)=(K.map Prod.snd)[k]'(by simpa using hk1):=by
  rw [List.getElem_map,List.getElem_map,hj2,hk2,e]
 have:=nodup_inj h.objs _ _ e3
 subst this
 rw [hj2] at hk2
 exact hne (by rw [hk2])
theorem KI.add {K:List (Int×Nat)} {L:List Node} {σ σ':Nat→AObj} {base nx nx' q:Nat} {n:Node} (h:KI K L σ base nx) (hq:nx≤q∧q<nx') (hb:base≤nx) (hs:∀p∈K,p.1≠n.s.spot→σ' p.2=σ p.2) (hσq:σ' q= .arr 10 (nodesT (grp L n.s.spot++[n]))):
  KI (kset n.s.spot q K) (L++[n]) σ' base nx':=by
 refine ⟨?_,?_,fun p hp=>?_,fun i hi=>?_⟩
 ·rcases kset_map (i:=n.s.spot) (q:=q) (K:=K) with ⟨e,_⟩ | ⟨e,e2⟩
  ·rw [e];exact h.keys
  ·rw [e,List.nodup_append]
   exact ⟨h.keys,by simp,fun a ha b hb=>by rw [List.mem_singleton.1 hb];exact fun e=>e2 (e ▸ ha)⟩
 ·have hlt:∀a∈K.map Prod.snd,a<nx:=fun a ha=>by
   obtain ⟨p,hp,rfl⟩:=List.mem_map.1 ha
   exact (h.rows p hp).2.2
  unfold kset
  cases hf:kfind n.s.spot K with
  |none=>
   simp only [List.map_append,List.map_cons,List.map_nil]
   rw [List.nodup_append]
   exact ⟨h.objs,by simp,fun a ha b hb=>by rw [List.mem_singleton.1 hb];have:=hlt a ha;omega⟩
  |some r=>
   simp only [List.map_set]
   exact nodup_set h.objs (fun hm=>by have:=hlt q hm;omega) _
 ·rcases kset_mem h.keys hp with rfl | ⟨h1,h2⟩
  ·refine ⟨?_,by simp only;omega,hq.2⟩
   rw [grp_snoc,if_pos rfl];exact hσq
  ·obtain ⟨r1,r2,r3⟩:=h.rows p h1
   refine ⟨?_,r2,by omega⟩
   rw [grp_snoc,if_neg (fun e=>h2 e.symm),List.append_nil,hs p h1 h2,r1]
 ·have:i∉K.map Prod.fst∧i≠n.s.spot:=by
   rcases kset_map (i:=n.s.spot) (q:=q) (K:=K) with ⟨e,e2⟩ | ⟨e,e2⟩
   ·rw [e] at hi;exact ⟨hi,fun e3=>hi (e3 ▸ e2)⟩
   ·rw [e] at hi
    simp only [List.mem_append,List.mem_singleton,not_or] at hi
    exact hi
  rw [grp_snoc,if_neg (fun e=>this.2 e.symm),h.none i this.1,List.append_nil]
end Go.Proofs.YtackfabapangdaaGreat

set_option maxRecDepth 4000
set_option maxHeartbeats 1000000
namespace Go.Proofs.YtackfabapangdaaGreat
open Go Go.Proofs.YtackfabapangdaaGreat.R
theorem mostN_eq (x:Inst) (w:Int):max w x.stops.length=(x.mostN w:Int):=by unfold Inst.mostN;omega
theorem most_pure (x:Inst) (w:Int):Pure P 223 [x.a,.i w] (.i (x.mostN w)):=by
 rw [←mostN_eq]
 refine pure_of Tryz.func223 rfl rfl (by simp [Tryz.f223]) (by simp [bnd,bnd.bndL,Inst.a]) (by simp [bnd,bnd.bndL]) fun B hB hnx=>?_
 simp only [Tryz.f223] at hB ⊢
 refine K_run hB 100 ?_
 simp [go_sem,Inst.a]
theorem squeeze_pure (x:Inst) (l:List Node) (w:Int) (hx:x.stops.length<2^31) (hl:l.length<2^31) (hn:∀n∈l,n.Fine):Pure P 225 [x.a,.t (.sl (nodesT l)),.i w] (.t (.sl (nodesT (x.squeeze l w)))):=by
 generalize hR:x.squeeze l w=R
 refine pure_of Tryz.func225 rfl rfl (by simp [Tryz.f225]) (by simp [bnd,bnd.bndL,Inst.a]) (by simp [bnd,bnd.bndL]) fun B hB hnx=>?_
 simp only [Tryz.f225] at hB ⊢
 have hso:=sorted_pure x l hx hl hn
 have hmo:=most_pure x w
 have hfS:∀n∈x.sortN l,n.Fine:=fun n h=>hn n (Inst.sortN_mem.1 h)
 have hSl:=x.sortN_len l
 rw [Inst.squeeze] at hR
 generalize x.sortN l=S at *
 have hM1:x.stops.length≤x.mostN w:=Nat.le_max_right _ _
 generalize x.mostN w=M at *
 have hNl:(nodesT S).length=S.length:=List.length_map _
 refine K_run hB 100 ?_
 simp [go_sem,Inst.a]
 refine K_call rfl rfl rfl (args:=[x.a,.t (.sl (nodesT l))]) (f:=181) (by simp [go_sem,Inst.a]) (by simp [go_sem,hB]) ((hso).spec _ _) ?_
 refine K_run hB 100 ?_
 simp [go_sem]
 refine K_call rfl rfl rfl (args:=[x.a,.i w]) (f:=223) (by simp [go_sem,Inst.a]) (by simp [go_sem,hB]) ((hmo).spec _ _) ?_
 by_cases c1:S.length≤M
 ·rw [if_pos c1] at hR
  subst hR
  refine K_run hB 100 ?_
  simp [go_sem,hNl,c1]
 rw [if_neg c1] at hR
 have hM2:M<2^31:=by omega
 obtain ⟨kp,hkp⟩:∃kp,kp=M-x.stops.length:=⟨_,rfl⟩
 have hkp2:(M:Int)-x.stops.length=kp:=by omega
 have hw1:IntKind.i64.wrap ((M:Int)-x.stops.length)=kp:=by rw [hkp2];exact w64 _ (by omega)
 have hkl:kp<S.length:=by omega
 have hS1:=nodesT_len S
 rw [←hkp] at hR
 have hXd:(nodesT S).drop kp=nodesT (S.drop kp):=by rw [nodesT,nodesT,List.map_drop]
 have hXt:(nodesT S).take kp=nodesT (S.take kp):=by rw [nodesT,nodesT,List.map_take]
 have hrl:(S.drop kp).length=S.length-kp:=List.length_drop
 have hrf:∀n∈S.drop kp,n.Fine:=fun n h=>hfS n (List.mem_of_mem_drop h)
 have hfl:(S.take kp).length≤kp:=by rw [List.length_take];omega
 refine K_run hB 100 ?_
 simp [go_sem,hNl,c1,hw1,if_pos hS1,hkl,Nat.le_of_lt hkl,hXd,hXt]
 generalize S.drop kp=rest at *
 generalize S.take kp=front at *
 have hQl:(nodesT rest).length=rest.length:=List.length_map _
 have hgt:∀(k:Nat) (h:k<rest.length),(nodesT rest)[k]'(by rw [hQl];exact h)=rest[k].t:=fun k h=>nodesT_get rest h
 generalize hX:nodesT rest=X at *
 have hmost:mostLen=4294967296:=rfl
 refine K_loopP (α:=Nat×List (Int×Nat)×(Nat→AObj)×Nat) (fun (k,K,τ,ny)=>k≤rest.length∧KI K (rest.take k) τ 2 ny∧τ 0= .box x.cs∧τ 1= .map (kmap K)∧2≤ny)
  (fun (k,K,τ,ny)=>⟨sl [(3,.ptr 0 0),(9,.fsl (nodesT front)),(10,.mapr 1),(39,.t (.sl X)),(40,.i rest.length),(41,.i k)],τ,ny⟩) (fun a=>rest.length-a.1) (0,[],_,2) ?_ (Imp.slots (by simp [go_sem,hQl]) rfl rfl) ?_
 ·exact ⟨Nat.zero_le _,⟨by simp,by simp,fun p h=>(by cases h),fun i _=>by simp [grp]⟩,by simp [oput,Inst.cs],by simp [oput,kmap],by omega⟩
 rintro ⟨k,K,τ,ny⟩ ⟨g1,g2,g3,g4,g5⟩
 refine K_run hB 60 ?_
 simp [go_sem]
 refine fork_dec (fun hk=>?_) (fun hk=>?_)
 ·have hkk:IntKind.i64.wrap ((k:Int)+1)=((k+1:Nat):Int):=by rw [w64 ((k:Int)+1) (by omega)];rfl
  have hget:∀h:k<X.length,X[k]'h=rest[k].t:=fun h=>hgt k hk
  have htk:rest.take (k+1)=rest.take k++[rest[k]]:=List.take_succ_eq_append_getElem hk
  have hgl:(grp (rest.take k) rest[k].s.spot).length≤k:=by
   refine Nat.le_trans (List.length_filter_le _ _) ?_
   rw [List.length_take];omega
  have hadd:=fun (τ':Nat→AObj) (ny' q:Nat)=>g2.add (n:=rest[k]) (σ':=τ') (nx':=ny') (q:=q)
  rw [←htk] at hadd
  generalize rest[k]=n at *
  have n0:¬0=ny:=by omega
  have n1:¬1=ny:=by omega
  simp [go_sem,hQl,hk,hget,Node.t,n0,n1]
  refine K_drawnF [11,12] [0,1,2,3] rfl (by rw [hB];kernel_rfl) (by kernel_rfl) fun ht hf'=>?_
  refine K_run hB 100 ?_
  simp [go_sem,ht,hf']
  refine K_dLookup (kt:=3) (et:=128) (es:=kmap K) (u:=kv n.s.spot) (m:=1) (r:=match kfind n.s.spot K with | some r=>.ref r.2 | none=>.fsl []) (by simp [go_sem]) rfl tt305 rfl tt128 (by kernel_rfl) (by simp [go_sem]) (by simp [go_sem,g4,n1,show ¬ny=0 by omega]) (by simp [go_sem];rfl) (by simp [go_sem];kernel_rfl) (by simp [go_sem];exact k_tell _ _) ?_ (by simp [ht]) ?_
  ·rw [lookA,findM_k]
   cases kfind n.s.spot K with
   |none=>simp [go_sem]
   |some r=>simp
  have hcap1:1≤mostLen:=by decide
  cases hf:kfind n.s.spot K with
  |none=>
   have hgr:grp (rest.take k) n.s.spot=[]:=g2.none _ (kfind_none hf)
   refine K_run hB 100 ?_
   simp [go_sem,ht,hf',n0,n1,hcap1]
   refine K_dTold (fun ho=>does_mapSet (P:=P) (n:=B.n) (kt:=3) (et:=128) (es:=kmap K) (u:=kv n.s.spot) (q:=1) ho (by simp [go_sem]) rfl tt305 rfl (by kernel_rfl) (by simp [go_sem]) (by simp [go_sem,g4,n1,show ¬ny=0 by omega]) (by simp [go_sem];rfl) (by simp [go_sem];kernel_rfl) (by simp [go_sem];exact k_tell _ _) (.inr (by simp [Instr.sameBits]))) (by simp) (fun q hq=>by rw [List.mem_singleton.1 hq];exact .inl (by kernel_rfl)) ?_
   refine K_run hB 100 ?_
   simp [go_sem,ht,hf',hkk,setM_k]
   refine Next.mk (k+1,kset n.s.spot (ny+1) K,_,ny+2) ?_ (Imp.slots (by simp [go_sem]) rfl rfl) (by simp only;omega)
   refine ⟨by simp only;omega,?_,by simp [oput,g3,n0],by simp [oput],by simp only;omega⟩
   refine hadd _ (ny+2) (ny+1) ⟨by omega,by omega⟩ g5 (fun p hp hne=>?_) ?_
   ·obtain ⟨_,s2,s3⟩:=g2.rows p hp
    simp [oput,show ¬p.2=ny by omega,show ¬p.2=1 by omega,show ¬p.2=ny+1 by omega]
   ·rw [hgr]
    simp [oput,nodesT,Node.t,show ¬ny=0 by omega]
  |some r=>
   obtain ⟨j,q⟩:=r
   obtain ⟨hj1,hj2⟩:=kfind_some hf
   have hmem:(n.s.spot,q)∈K:=hj2 ▸ List.getElem_mem hj1
   obtain ⟨r1,r2,r3⟩:=g2.rows (n.s.spot,q) hmem
   simp only at r1 r2 r3
   have n2:¬q=ny:=by omega
   have n3:¬1=q:=by omega
   have n4:¬0=q:=by omega
   have n5:¬ny=q:=by omega
   have hcap2:(nodesT (grp (rest.take k) n.s.spot)).length+1≤mostLen:=by rw [nodesT,List.length_map];omega
   refine K_run hB 100 ?_
   simp [go_sem,ht,hf',n0,n1,n2,n5,r1,hcap2]
   refine K_dTold (fun ho=>does_mapSet (P:=P) (n:=B.n) (kt:=3) (et:=128) (es:=kmap K) (u:=kv n.s.spot) (q:=1) ho (by simp [go_sem]) rfl tt305 rfl (by kernel_rfl) (by simp [go_sem]) (by simp [go_sem,g4,n1,n3,n4,show ¬ny=0 by omega]) (by simp [go_sem];rfl) (by simp [go_sem];kernel_rfl) (by simp [go_sem];exact k_tell _ _) (.inr (by simp [Instr.sameBits]))) (by simp) (fun q hq=>by rw [List.mem_singleton.1 hq];exact .inl (by kernel_rfl)) ?_
   refine K_run hB 100 ?_
   simp [go_sem,ht,hf',hkk,setM_k]
   refine Next.mk (k+1,kset n.s.spot (ny+1) K,_,ny+2) ?_ (Imp.slots (by simp [go_sem]) rfl rfl) (by simp only;omega)
   refine ⟨by simp only;omega,?_,by simp [oput,g3,n0,n4],by simp [oput],by simp only;omega⟩
   refine hadd _ (ny+2) (ny+1) ⟨by omega,by omega⟩ g5 (fun p hp hne=>?_) ?_
   ·obtain ⟨_,s2,s3⟩:=g2.rows p hp
    have:=g2.ne hp hmem hne
    simp only at this
    simp [oput,show ¬p.2=ny by omega,show ¬p.2=1 by omega,show ¬p.2=ny+1 by omega,this]
   ·simp [oput,nodesT,Node.t,show ¬ny=0 by omega]
 ·have:k=rest.length:=by omega
  subst this
  rw [List.take_length] at g2
  simp [go_sem,g3]
  have hok:∀(L:List Node),(∀n∈L,n∈rest)→∀n∈L,n.s.ok:=fun L h n hn=>(hrf n (h n hn)).ok
  refine K_loopP (α:=Nat×AV×List Node×(Nat→AObj)×Nat) (fun (i,A,out,τ',my)=>i≤x.stops.length∧(A= .fsl (nodesT out)∨∃q,A= .ref q∧τ' q= .arr 10 (nodesT out)∧ny≤q∧q<my)∧(out++((List.range x.stops.length).drop i).flatMap (oneAt rest)=R∧out.length≤kp+i)∧τ' 1= .map (kmap K)∧ny≤my∧∀p∈K,τ' p.2=τ p.2)
   (fun (i,A,out,τ',my)=>⟨sl [(9,A),(10,.mapr 1),(60,.i x.stops.length),(61,.i i)],τ',my⟩) (fun a=>x.stops.length-a.1) (0,.fsl (nodesT front),front,τ,ny) ?_ (Imp.slots (by simp [go_sem]) rfl rfl) ?_
  ·exact ⟨Nat.zero_le _,.inl rfl,⟨hR,hfl⟩,g4,Nat.le_refl _,fun p _=>rfl⟩
  rintro ⟨i,A,out,τ',my⟩ ⟨f1,f2,⟨f3,f3'⟩,f4,f5,f6⟩
  refine K_run hB 60 ?_
  simp [go_sem]
  refine fork_dec (fun hi=>?_) (fun hi=>?_)
  ·have hii:IntKind.i64.wrap ((i:Int)+1)=((i+1:Nat):Int):=by rw [w64 ((i:Int)+1) (by omega)];rfl
   rw [List.drop_eq_getElem_cons (by rw [List.length_range];exact hi),List.getElem_range,List.flatMap_cons,←List.append_assoc] at f3
   have hone:oneAt rest i=if (together (grp rest i)).2=true then [(together (grp rest i)).1] else []:=rfl
   have htg:=fun (τ2:Nat→AObj) (m2 q:Nat) (h1:q<m2) (h2:τ2 q= .arr 10 (nodesT (grp rest i)))=>together_spec (grp rest i) (Nat.lt_of_le_of_lt (List.length_filter_le _ _) (by omega)) (hok _ fun n hn=>(List.mem_filter.1 hn).1) (σ:=τ2) (nx:=m2) (r:=q) h1 h2
   simp [go_sem]
   refine K_lookup (kt:=3) (et:=128) (es:=kmap K) (u:=kv i) (m:=1) (r:=match kfind i K with | some r=>.ref r.2 | none=>.fsl []) rfl rfl (by simp [go_sem,hB]) tt305 rfl tt128 (by kernel_rfl) (by simp [go_sem]) (by simp [go_sem,f4]) (by simp [go_sem];rfl) (by simp [go_sem];kernel_rfl) (by simp [go_sem];exact k_tell _ _) ?_ ?_
   ·rw [lookA,findM_k]
    cases kfind i K with
    |none=>simp [go_sem]
    |some r=>simp
   refine K_impE (α:=Nat×(Nat→AObj)×Nat) (fun (q,τ2,m2)=>my≤m2∧q<m2∧τ2 q= .arr 10 (nodesT (grp rest i))∧∀j,j<my→τ2 j=τ' j) (fun (q,τ2,m2)=>⟨sl [(9,A),(10,.mapr 1),(60,.i x.stops.length),(61,.i i),(67,.ref q)],τ2,m2⟩) ?_ ?_
   ·cases hf:kfind i K with
    |none=>
     have hgr:grp rest i=[]:=g2.none _ (kfind_none hf)
     refine ⟨(my,_,my+1),⟨by omega,by omega,?_,?_⟩,(Imp.own (t:=67) (sz:=10) (by simp [go_sem])).trans (Imp.slots (by simp [go_sem]) rfl rfl)⟩
     ·rw [hgr];simp [oput,nodesT]
     ·intro j hj;simp [oput,show ¬j=my by omega]
    |some r=>
     obtain ⟨j,q⟩:=r
     obtain ⟨hj1,hj2⟩:=kfind_some hf
     have hmem:((i:Int),q)∈K:=hj2 ▸ List.getElem_mem hj1
     obtain ⟨r1,r2,r3⟩:=g2.rows _ hmem
     refine ⟨(q,_,my),⟨Nat.le_refl _,by simp only at r3 ⊢;omega,?_,fun _ _=>rfl⟩,Imp.slots (by simp [go_sem]) rfl rfl⟩
     exact (f6 _ hmem).trans r1
   rintro ⟨q,τ2,m2⟩ ⟨e1,e2,e3,e4⟩
   refine K_call rfl rfl rfl (args:=[.ref q]) (f:=249) (by simp [go_sem]) (by simp [go_sem,hB]) (htg _ _ _ e2 e3) ?_
   generalize together (grp rest i)=TG at *
   obtain ⟨tn,tb⟩:=TG
   have hcap1:1≤mostLen:=by decide
   have hcap2:(nodesT out).length+1≤mostLen:=by rw [nodesT,List.length_map];omega
   have m1:¬1=m2:=by omega
   have m0:¬1=m2+1:=by omega
   have hlow:∀j,ny≤j→j≠1:=fun j h=>by omega
   cases tb with
   |false=>
    rw [hone,if_neg (by simp),List.append_nil] at f3
    refine K_run hB 100 ?_
    simp [go_sem,Node.a,Node.cs,hii]
    refine Next.mk (i+1,A,out,_,m2+1) ?_ (Imp.slots (by simp [go_sem]) rfl rfl) (by simp only;omega)
    refine ⟨by simp only;omega,?_,⟨f3,by simp only;omega⟩,by simp [oput,m1,e4 1 (by omega),f4],by simp only;omega,?_⟩
    ·rcases f2 with f2 | ⟨q',f2,f7,f8,f9⟩
     ·exact .inl f2
     ·exact .inr ⟨q',f2,by simp [oput,show ¬q'=m2 by omega,e4 q' f9,f7],f8,by simp only;omega⟩
    ·intro a b hab
     have h1:=(g2.rows _ hab).2.2
     have h2:=f6 _ hab
     simp only at h1 h2
     simp [oput,show ¬b=m2 by omega,e4 b (by omega),h2]
   |true=>
    rw [hone,if_pos (by simp)] at f3
    simp only at f3
    have hsn:nodesT (out++[tn])=nodesT out++[tn.t]:=by simp [nodesT]
    rcases f2 with f2 | ⟨q',f2,f7,f8,f9⟩
    ·subst f2
     refine K_run hB 100 ?_
     simp [go_sem,Node.a,Node.cs,hcap1,hcap2,hii,if_pos (nodesT_len out)]
     refine Next.mk (i+1,.ref (m2+1),out++[tn],_,m2+2) ?_ (Imp.slots (by simp [go_sem]) rfl rfl) (by simp only;omega)
     refine ⟨by simp only;omega,.inr ⟨m2+1,rfl,?_,by omega,by simp only;omega⟩,⟨f3,by simp only [List.length_append,List.length_cons,List.length_nil];omega⟩,by simp [oput,m1,m0,e4 1 (by omega),f4,show ¬m2=0 by omega],by simp only;omega,?_⟩
     ·rw [hsn];simp [oput,Node.t]
     ·intro a b hab
      have h1:=(g2.rows _ hab).2.2
      have h2:=f6 _ hab
      simp only at h1 h2
      simp [oput,show ¬b=m2 by omega,show ¬b=m2+1 by omega,e4 b (by omega),h2]
    ·subst f2
     have hq1:¬q'=m2:=by omega
     have hq2:¬m2=q':=by omega
     have hq3:¬1=q':=by omega
     refine K_run hB 100 ?_
     simp [go_sem,Node.a,Node.cs,hcap1,hcap2,hii,hq1,e4 q' f9,f7]
     refine Next.mk (i+1,.ref (m2+1),out++[tn],_,m2+2) ?_ (Imp.slots (by simp [go_sem]) rfl rfl) (by simp only;omega)
     refine ⟨by simp only;omega,.inr ⟨m2+1,rfl,?_,by omega,by simp only;omega⟩,⟨f3,by simp only [List.length_append,List.length_cons,List.length_nil];omega⟩,by simp [oput,m1,m0,hq3,e4 1 (by omega),f4,show ¬m2=0 by omega],by simp only;omega,?_⟩
     ·rw [hsn];simp [oput,Node.t]
     ·intro a b hab
      have h1:=(g2.rows _ hab).2.2
      have h2:=f6 _ hab
      simp only at h1 h2
      simp [oput,show ¬b=m2 by omega,show ¬b=m2+1 by omega,show ¬b=q' by omega,e4 b (by omega),h2]
  ·have:i=x.stops.length:=by omega
   subst this
   rw [List.drop_of_length_le (by simp),List.flatMap_nil,List.append_nil] at f3
   subst f3
   rcases f2 with f2 | ⟨q',f2,f7,f8,f9⟩
   ·subst f2
    simp [go_sem]
   ·subst f2
    simp [go_sem,f7]
end Go.Proofs.YtackfabapangdaaGreat

set_option maxRecDepth 4000
namespace Go.Proofs.YtackfabapangdaaGreat
open Go Go.Proofs.YtackfabapangdaaGreat.R
theorem mod_step (a i:Nat) (hi:i<64):a % 2^(i+1)=if a.testBit i=true then withN (a % 2^i) (i:Int) else a % 2^i:=by
 have hb:bitN (i:Int)=2^i:=by rw [bitN,if_pos (by omega)];rfl
 refine Nat.eq_of_testBit_eq fun k=>?_
 have h1:∀k,(withN (a % 2^i) (i:Int)).testBit k=((a % 2^i).testBit k||decide (i=k)):=fun k=>by rw [withN,hb,Nat.testBit_or,Nat.testBit_two_pow]
 rw [Nat.testBit_mod_two_pow]
 by_cases e:k=i
 ·subst e
  split
  ·rename_i h
   rw [h1,h];simp
  ·rename_i h
   rw [Nat.testBit_mod_two_pow];simp [h]
 ·split
  ·rw [h1,Nat.testBit_mod_two_pow,show decide (i=k)=false from decide_eq_false (fun h=>e h.symm),Bool.or_false]
   congr 1
   rw [decide_eq_decide];omega
  ·rw [Nat.testBit_mod_two_pow]
   congr 1
   rw [decide_eq_decide];omega
theorem mod_le (a i:Nat) (h:a<2^64):a % 2^i<2^64:=Nat.lt_of_le_of_lt (Nat.mod_le _ _) h
def modN (a i:Nat):Nat:=a % 2^i
theorem modN_step (a i:Nat) (hi:i<64):modN a (i+1)=if a.testBit i=true then withN (modN a i) (i:Int) else modN a i:=mod_step a i hi
theorem modN_full {a:Nat} (h:a<2^64):modN a 64=a:=Nat.mod_eq_of_lt h
theorem modN_zero (a:Nat):modN a 0=0:=Nat.mod_one a
theorem rand_pure (s t:Nat) (hs:s<2^64) (ht:t<2^64):Pure P 267 [.u s,.u t] (.u (s&&&t:Nat)):=by
 have hst:s&&&t<2^64:=Nat.and_lt_two_pow _ ht
 have hbit:∀i,(s&&&t).testBit i=(s.testBit i&&t.testBit i):=fun i=>Nat.testBit_and _ _ _
 have hfull:=modN_full hst
 refine pure_of Tryz.func267 rfl rfl (by simp [Tryz.f267]) (by simp [bnd,bnd.bndL]) (by simp [bnd,bnd.bndL]) fun B hB hnx=>?_
 simp only [Tryz.f267] at hB ⊢
 generalize s&&&t=a at *
 refine K_run hB 100 ?_
 simp [go_sem]
 refine K_loopP (α:=Nat) (fun i=>i≤64) (fun i=>⟨sl [(0,.u s),(1,.u t),(5,.u (modN a i)),(6,.i i)],noObj,0⟩) (fun i=>64-i) 0 (by omega) (Imp.slots (by simp [go_sem,modN_zero]) rfl rfl) ?_
 intro i g1
 by_cases hi:(i:Int)<64
 ·have hi':i<64:=by omega
  have hii:IntKind.i64.wrap ((i:Int)+1)=((i+1:Nat):Int):=by rw [w64 ((i:Int)+1) (by omega)];rfl
  have hm:=modN_step a i hi'
  rw [hbit] at hm
  have hc:=mod_le a i hst
  have h1:=rhas_pure s i hs
  have h2:=rhas_pure t i ht
  have h3:=rwith_pure (modN a i) i hc
  rw [has_nat hi'] at h1 h2
  refine K_run hB 60 ?_
  simp [go_sem,hi]
  refine K_call rfl rfl rfl (args:=[.u s,.i i]) (f:=228) (by simp [go_sem]) (by simp [go_sem,hB]) ((h1).spec _ _) ?_
  refine K_run hB 100 ?_
  simp [go_sem]
  refine K_call rfl rfl rfl (args:=[.u t,.i i]) (f:=228) (by simp [go_sem]) (by simp [go_sem,hB]) ((h2).spec _ _) ?_
  cases e1:s.testBit i<;>cases e2:t.testBit i<;>rw [e1,e2] at hm
  ·rw [if_neg (by simp)] at hm
   refine K_run hB 100 ?_
   simp [go_sem,hii]
   exact Next.mk (i+1) (by omega) (Imp.slots (by simp [go_sem,hm]) rfl rfl) (by omega)
  ·rw [if_neg (by simp)] at hm
   refine K_run hB 100 ?_
   simp [go_sem,hii]
   exact Next.mk (i+1) (by omega) (Imp.slots (by simp [go_sem,hm]) rfl rfl) (by omega)
  ·rw [if_neg (by simp)] at hm
   refine K_run hB 100 ?_
   simp [go_sem,hii]
   exact Next.mk (i+1) (by omega) (Imp.slots (by simp [go_sem,hm]) rfl rfl) (by omega)
  ·rw [if_pos (by simp)] at hm
   refine K_run hB 100 ?_
   simp [go_sem]
   refine K_call rfl rfl rfl (args:=[.u (modN a i),.i i]) (f:=258) (by simp [go_sem]) (by simp [go_sem,hB]) ((h3).spec _ _) ?_
   refine K_run hB 100 ?_
   simp [go_sem,hii]
   exact Next.mk (i+1) (by omega) (Imp.slots (by simp [go_sem,hm]) rfl rfl) (by omega)
 ·have:i=64:=by omega
  subst this
  refine K_run hB 60 ?_
  simp [go_sem,hfull]
def allU (s i:Nat):List Int:=((List.range i).filter fun i=>s.testBit i).map fun (i:Nat)=>(i:Int)
def allL (s:Nat):List Int:=allU s 64
theorem allU_len (s i:Nat):(allU s i).length≤i:=by
 rw [allU,List.length_map]
 exact Nat.le_trans (List.length_filter_le _ _) (by simp)
theorem allU_step (s i:Nat):allU s (i+1)=allU s i++if s.testBit i=true then [(i:Int)] else []:=by
 rw [allU,allU,List.range_succ,List.filter_append,List.map_append]
 congr 1
 cases h:s.testBit i<;>simp [h]
theorem rall02_pure (s:Nat) (hs:s<2^64):Pure P 273 [.u s] (.t (.sl (ints (allL s)))):=by
 generalize hR:allL s=R
 refine pure_of Tryz.func273 rfl rfl (by simp [Tryz.f273]) (by simp [bnd,bnd.bndL]) (by simp [bnd,bnd.bndL]) fun B hB hnx=>?_
 simp only [Tryz.f273] at hB ⊢
 refine K_run hB 100 ?_
 simp [go_sem]
 refine K_own 3 1 (by simp [go_sem]) ?_
 refine K_loopP (α:=Nat×Nat×(Nat→AObj)×Nat) (fun (i,q,τ,ny)=>i≤64∧τ q= .arr 1 (ints (allU s i))∧q<ny) (fun (i,q,τ,ny)=>⟨sl [(0,.u s),(3,.ref q),(4,.i i)],τ,ny⟩) (fun a=>64-a.1) (0,0,_,1) ?_ (Imp.slots (by simp [go_sem]) rfl rfl) ?_
 ·exact ⟨by omega,by simp [oput,allU,ints],by omega⟩
 rintro ⟨i,q,τ,ny⟩ ⟨g1,g2,g3⟩
 by_cases hi:(i:Int)<64
 ·have hi':i<64:=by omega
  have hii:IntKind.i64.wrap ((i:Int)+1)=((i+1:Nat):Int):=by rw [w64 ((i:Int)+1) (by omega)];rfl
  have h1:=rhas_pure s i hs
  rw [has_nat hi'] at h1
  have hsn:=allU_step s i
  have hlen:=allU_len s i
  generalize hL':allU s (i+1)=L' at *
  generalize allU s i=L at *
  have hil:(ints L).length=L.length:=List.length_map _
  have hcap:L.length+1≤mostLen:=by show _≤4294967296;omega
  refine K_run hB 60 ?_
  simp [go_sem,hi]
  refine K_call rfl rfl rfl (args:=[.u s,.i i]) (f:=228) (by simp [go_sem]) (by simp [go_sem,hB]) ((h1).spec _ _) ?_
  cases e1:s.testBit i with
  |false=>
   rw [e1,if_neg (by simp),List.append_nil] at hsn
   subst hsn
   refine K_run hB 100 ?_
   simp [go_sem,hii]
   exact Next.mk (i+1,q,τ,ny) ⟨by simp only;omega,by simp only;rw [hL'];exact g2,g3⟩ (Imp.slots (by simp [go_sem]) rfl rfl) (by simp only;omega)
  |true=>
   rw [e1,if_pos rfl] at hsn
   refine K_run hB 100 ?_
   simp [go_sem,g2,hil,hcap,hii]
   refine Next.mk (i+1,ny,_,ny+1) ⟨by simp only;omega,?_,by simp only;omega⟩ (Imp.slots (by simp [go_sem]) rfl rfl) (by simp only;omega)
   simp only
   rw [hL',hsn]
   simp [oput,ints]
 ·have:i=64:=by omega
  subst this
  refine K_run hB 60 ?_
  simp [go_sem,g2]
  rw [←hR];rfl
theorem fold_with (s t:Nat):∀n,n≤64→(allU t n).foldl withN s=s|||t % 2^n
 |0,_=>by simp [allU,Nat.mod_one]
 |n+1,h=>by
  have hb:bitN (n:Int)=2^n:=by rw [bitN,if_pos (by omega)];rfl
  rw [allU_step,List.foldl_append,fold_with s t n (by omega),mod_step t n (by omega)]
  cases e:t.testBit n with
  |false=>simp
  |true=>
   simp only [if_true,List.foldl_cons,List.foldl_nil,withN,hb]
   rw [Nat.or_assoc]
theorem ror_pure (s t:Nat) (hs:s<2^64) (ht:t<2^64):Pure P 268 [.u s,.u t] (.u (s|||t:Nat)):=by
 have hf:(allL t).foldl withN s=s|||t:=by rw [allL,fold_with s t 64 (by omega),Nat.mod_eq_of_lt ht]
 have hal:=rall02_pure t ht
 have hll:(allL t).length≤64:=allU_len t 64
 refine pure_of Tryz.func268 rfl rfl (by simp [Tryz.f268]) (by simp [bnd,bnd.bndL]) (by simp [bnd,bnd.bndL]) fun B hB hnx=>?_
 simp only [Tryz.f268] at hB ⊢
 generalize s|||t=R at *
 generalize allL t=L at *
 have hil:(ints L).length=L.length:=List.length_map _
 have hgt:∀(k:Nat) (h:k<L.length),(ints L)[k]'(by rw [hil];exact h)=[.i L[k]]:=fun k h=>by simp [ints]
 generalize hX:ints L=X at *
 refine K_run hB 100 ?_
 simp [go_sem]
 refine K_call rfl rfl rfl (args:=[.u t]) (f:=273) (by simp [go_sem]) (by simp [go_sem,hB]) ((hal).spec _ _) ?_
 refine K_run hB 100 ?_
 simp [go_sem]
 refine K_loopP (α:=Nat×Nat) (fun (k,a)=>k≤L.length∧(L.drop k).foldl withN a=R∧a<2^64) (fun (k,a)=>⟨sl [(5,.u a),(6,.t (.sl X)),(7,.i k)],noObj,0⟩) (fun a=>L.length-a.1) (0,s) ⟨Nat.zero_le _,hf,hs⟩ (Imp.slots (by simp [go_sem]) rfl rfl) ?_
 rintro ⟨k,a⟩ ⟨g1,g2,g3⟩
 refine K_run hB 60 ?_
 simp [go_sem,hil]
 refine fork_dec (fun hk=>?_) (fun hk=>?_)
 ·have hkk:IntKind.i64.wrap ((k:Int)+1)=((k+1:Nat):Int):=by rw [w64 ((k:Int)+1) (by omega)];rfl
  have hget:∀h:k<X.length,X[k]'h=[.i L[k]]:=fun h=>hgt k hk
  rw [List.drop_eq_getElem_cons hk,List.foldl_cons] at g2
  generalize L[k]=j at *
  have h3:=rwith_pure a j g3
  have h4:=withN_lt g3 j
  generalize withN a j=a' at *
  simp [go_sem,hil,hk,hget]
  refine K_call rfl rfl rfl (args:=[.u a,.i j]) (f:=258) (by simp [go_sem]) (by simp [go_sem,hB]) ((h3).spec _ _) ?_
  refine K_run hB 100 ?_
  simp [go_sem,hkk]
  exact Next.mk (k+1,a') ⟨by simp only;omega,g2,h4⟩ (Imp.slots (by simp [go_sem]) rfl rfl) (by simp only;omega)
 ·have:k=L.length:=by omega
  subst this
  rw [List.drop_length,List.foldl_nil] at g2
  subst g2
  simp [go_sem]
end Go.Proofs.YtackfabapangdaaGreat

set_option maxRecDepth 4000
set_option maxHeartbeats 1000000
namespace Go.Proofs.YtackfabapangdaaGreat
open Go Go.Proofs.YtackfabapangdaaGreat.R
def joinR:State→List State→State×Bool
 |s,[]=>(s,true)
 |s,t :: l=>if t.spot=s.spot then joinR (s.join t) l else (State.zero,false)
theorem joinL_R:∀(l:List State) (s:State),joinL (s :: l)=joinR s l
 |[],s=>rfl
 |t :: l,s=>by
  rw [joinR,←joinL_R l (s.join t),joinL,joinL]
  by_cases h:t.spot=s.spot
  ·rw [if_pos h,List.any_cons,List.foldl_cons,decide_eq_false (fun e=>e h),Bool.false_or]
   rfl
  ·rw [if_neg h,List.any_cons,decide_eq_true h,Bool.true_or,if_pos rfl]
theorem least_pure (a b:Int):Pure P 266 [.i a,.i b] (.i (min a b)):=by
 refine pure_of Tryz.func266 rfl rfl (by simp [Tryz.f266]) (by simp [bnd,bnd.bndL]) (by simp [bnd,bnd.bndL]) fun B hB hnx=>?_
 simp only [Tryz.f266] at hB ⊢
 by_cases h:a<b
 ·refine K_run hB 100 ?_
  simp [go_sem,h]
  omega
 ·refine K_run hB 100 ?_
  simp [go_sem,h]
  omega
theorem rjoin_spec (l:List State) (hl:l.length<2^31) (hlo:∀t∈l,t.ok) {σ:Nat→AObj} {nx r:Nat} (hr:r<nx) (hσr:σ r= .arr 8 (l.map State.row)):
  CallSpec P 257 [.ref r] σ nx (.tup [(joinL l).1.a,.b (joinL l).2]) σ nx:=by
 refine spec_keep Tryz.func257 rfl rfl (by simp [Tryz.f257]) (by simp [bnd,bnd.bndL,State.a,State.cs]) fun hk B hB hnx hσB=>?_
 simp only [Tryz.f257] at hB ⊢
 have m1:¬r=nx:=by omega
 have m2:¬r=nx+1:=by omega
 cases l with
 |nil=>
  have hrl:σ r= .arr 8 []:=hσr
  have e:joinL []=(State.zero,false):=rfl
  rw [e]
  refine K_run hB 100 ?_
  simp [go_sem,hrl,m1,m2]
  exact ⟨fun i h=>by simp [show ¬i=nx by omega],rfl⟩
 |cons s l=>
  generalize hR:joinL (s :: l)=R
  rw [joinL_R] at hR
  have hso:=hlo s List.mem_cons_self
  have hlo2:∀t∈l,t.ok:=fun t h=>hlo t (List.mem_cons_of_mem _ h)
  rw [List.length_cons] at hl
  obtain ⟨X,hX⟩:∃X,X=(s :: l).map State.row:=⟨_,rfl⟩
  rw [←hX] at hσr
  have hil:X.length=l.length+1:=by rw [hX];simp
  have hg0:∀h:0<X.length,X[0]'h=s.row:=fun h=>by simp only [hX];rfl
  have hgt:∀(k:Nat) (h:k<l.length) (h':k+1<X.length),X[k+1]'h'=l[k].row:=fun k h h'=>by simp [hX]
  clear hX
  have hq0:¬(l.length:Int)+1=0:=by omega
  refine K_run hB 100 ?_
  simp [go_sem,hσr,hil,hg0,m1,m2,State.row,hq0]
  refine K_loopP (α:=Nat×State×(Nat→AObj)×Nat) (fun (i,s,τ,ny)=>1≤i∧i≤l.length+1∧joinR s (l.drop (i-1))=R∧s.ok∧τ (nx+1)= .box s.cs∧τ nx= .box State.zero.cs∧nx+2≤ny∧∀i,i<nx→τ i=σ i)
   (fun (i,s,τ,ny)=>⟨sl [(0,.ref r),(2,.ptr nx 0),(3,.b false),(4,.ptr (nx+1) 0),(5,.i i)],τ,ny⟩) (fun a=>l.length+1-a.1) (1,s,_,nx+2) ?_ (Imp.slots (by simp [go_sem]) rfl rfl) ?_
  ·refine ⟨Nat.le_refl _,by omega,hR,hso,by simp [oput,State.cs],by simp [oput,State.cs,State.zero],by omega,fun i h=>by simp [oput,show ¬i=nx by omega,show ¬i=nx+1 by omega]⟩
  clear hR hso
  rintro ⟨i,s,τ,ny⟩ ⟨g0,g1,g2,g3,g4,g5,g6,g7⟩
  have hτr:τ r= .arr 8 X:=(g7 r hr).trans hσr
  have n1:¬r=ny:=by omega
  have n2:¬nx+1=ny:=by omega
  have n3:¬nx=ny:=by omega
  have n4:¬ny=nx+1:=by omega
  have n5:¬ny=nx:=by omega
  by_cases hk:i<l.length+1
  ·have hk1:(i:Int)<(l.length:Int)+1:=by omega
   have hkk:IntKind.i64.wrap ((i:Int)+1)=((i+1:Nat):Int):=by rw [w64 _ (by omega)];rfl
   obtain ⟨k,rfl⟩:∃k,i=k+1:=⟨i-1,by omega⟩
   have hkl:k<l.length:=by omega
   have hget:∀h:k+1<X.length,X[k+1]'h=l[k].row:=fun h=>hgt k hkl h
   rw [Nat.add_sub_cancel,List.drop_eq_getElem_cons hkl,joinR] at g2
   have hto:=hlo2 l[k] (List.getElem_mem _)
   generalize l[k]=t at *
   have hl1:=least_pure s.car t.car
   have hl2:=least_pure s.time t.time
   have hl3:=least_pure s.load t.load
   have hl4:=least_pure s.first t.first
   have ha1:=rand_pure s.must t.must g3.must hto.must
   have ha2:=rand_pure s.on t.on g3.on hto.on
   have ho1:=ror_pure s.can t.can g3.can hto.can
   have hdk:l.drop (k+1)=l.drop (k+1+1-1):=rfl
   rw [hdk] at g2
   generalize k+1=i at *
   by_cases c1:t.spot=s.spot
   rotate_left
   ·rw [if_neg c1] at g2
    subst g2
    refine K_run hB 60 ?_
    simp [go_sem,hτr,hil,hk,hk1,hget,n1,n2,n3,n4,State.row,g4,State.cs,c1,g5]
    exact ⟨by omega,fun i h=>by simp [show ¬i=nx by omega,show ¬i=ny by omega,g7 i h],rfl⟩
   rw [if_pos c1] at g2
   have hjo:=join_ok g3 hto
   have hj:s.join t=⟨s.spot,min s.car t.car,min s.time t.time,min s.load t.load,min s.first t.first,s.must&&&t.must,s.can|||t.can,s.on&&&t.on⟩:=rfl
   refine K_run hB 60 ?_
   simp [go_sem,hτr,hil,hk,hk1,hget,n1,n2,n3,n4,State.row,g4,State.cs,c1,g5]
   refine K_drawnT [38] rfl (by rw [hB];kernel_rfl) (by kernel_rfl) fun ht=>?_
   refine K_run hB 60 ?_
   simp [go_sem,ht,n2,n4,g4,State.cs]
   refine K_dCallP rfl rfl rfl (args:=[.i s.car,.i t.car]) (f:=266) (by simp [go_sem]) (hl1) ?_
   refine K_run hB 60 ?_
   simp [go_sem,ht,n2,n4,g4,State.cs]
   refine K_dCallP rfl rfl rfl (args:=[.i s.time,.i t.time]) (f:=266) (by simp [go_sem]) (hl2) ?_
   refine K_run hB 60 ?_
   simp [go_sem,ht,n2,n4,g4,State.cs]
   refine K_dCallP rfl rfl rfl (args:=[.i s.load,.i t.load]) (f:=266) (by simp [go_sem]) (hl3) ?_
   refine K_run hB 60 ?_
   simp [go_sem,ht,n2,n4,g4,State.cs]
   refine K_dCallP rfl rfl rfl (args:=[.i s.first,.i t.first]) (f:=266) (by simp [go_sem]) (hl4) ?_
   refine K_run hB 60 ?_
   simp [go_sem,ht,n2,n4,g4,State.cs]
   refine K_dCallP rfl rfl rfl (args:=[.u s.must,.u t.must]) (f:=267) (by simp [go_sem]) (ha1) ?_
   refine K_run hB 60 ?_
   simp [go_sem,ht,n2,n4,g4,State.cs]
   refine K_dCallP rfl rfl rfl (args:=[.u s.can,.u t.can]) (f:=268) (by simp [go_sem]) (ho1) ?_
   refine K_run hB 60 ?_
   simp [go_sem,ht,n2,n4,g4,State.cs]
   refine K_dCallP rfl rfl rfl (args:=[.u s.on,.u t.on]) (f:=267) (by simp [go_sem]) (ha2) ?_
   refine K_run hB 60 ?_
   simp [go_sem,ht,n2,n4,g4,State.cs,hkk]
   refine Next.mk (i+1,s.join t,_,ny+1) ?_ (Imp.slots (by simp [go_sem]) rfl rfl) (by simp only;omega)
   refine ⟨by simp only;omega,by simp only;omega,g2,hjo,by simp [oput,State.cs,hj],by simp [oput,g5,n3,State.cs],by simp only;omega,fun i h=>by simp [oput,show ¬i=ny by omega,show ¬i=nx+1 by omega,g7 i h]⟩
  ·have hk1:¬(i:Int)<(l.length:Int)+1:=by omega
   rw [List.drop_of_length_le (by omega),joinR] at g2
   subst g2
   refine K_run hB 60 ?_
   simp [go_sem,hτr,hil,hk1,g4,g5,State.cs]
   exact ⟨by omega,fun i h=>by simp [show ¬i=nx by omega,g7 i h],rfl⟩
end Go.Proofs.YtackfabapangdaaGreat

set_option maxRecDepth 4000
set_option maxHeartbeats 1000000
namespace Go.Proofs.YtackfabapangdaaGreat
open Go Go.Proofs.YtackfabapangdaaGreat.R
theorem rwidth_pure (x:Inst) (w:Int):Pure P 188 [x.a,.i w] (.i (x.mostN w)):=by
 have hM:=mostN_eq x w
 refine pure_of Tryz.func188 rfl rfl (by simp [Tryz.f188]) (by simp [bnd,bnd.bndL,Inst.a]) (by simp [bnd,bnd.bndL]) fun B hB hnx=>?_
 simp only [Tryz.f188] at hB ⊢
 by_cases h:w<x.stops.length
 ·refine K_run hB 100 ?_
  simp [go_sem,Inst.a,h]
  omega
 ·refine K_run hB 100 ?_
  simp [go_sem,Inst.a,h]
  omega
theorem atStop_snoc (L:List Node) (n:Node) (i:Nat):atStop (L++[n]) i=atStop L i++if n.s.spot=i then [n] else []:=grp_snoc L n i
theorem rtogether_pure (l:List Node) (i:Nat) (hl:l.length<2^31) (hlo:∀n∈l,n.s.ok):Pure P 230 [.t (.sl (nodesT l)),.i i] (.tup [(together (atStop l i)).1.a,.b (together (atStop l i)).2]):=by
 refine pure_of Tryz.func230 rfl rfl (by simp [Tryz.f230]) (by simp [bnd,bnd.bndL]) (by simp [bnd,bnd.bndL,Node.a,Node.cs]) fun B hB hnx=>?_
 simp only [Tryz.f230] at hB ⊢
 have hil:(nodesT l).length=l.length:=List.length_map _
 have hgt:∀(k:Nat) (h:k<l.length),(nodesT l)[k]'(by rw [hil];exact h)=l[k].t:=fun k h=>nodesT_get l h
 have hmost:mostLen=4294967296:=rfl
 generalize hX:nodesT l=X at *
 refine K_run hB 100 ?_
 simp [go_sem,hil]
 refine K_own 6 8 (by simp [go_sem]) ?_
 refine K_loopP (α:=Nat×Nat×List Node×(Nat→AObj)×Nat) (fun (k,q,g,τ,ny)=>k≤l.length∧g=atStop (l.take k) i∧τ q= .arr 8 (g.map fun n=>n.s.row)∧τ 0= .box (nodeC State.zero 0 (.fsl []))∧0<q∧q<ny)
  (fun (k,q,g,τ,ny)=>⟨sl [(0,.t (.sl X)),(1,.i i),(4,.ptr 0 0),(5,.b false),(6,.ref q),(7,.i (costL g)),(8,.i k)],τ,ny⟩) (fun a=>l.length-a.1) (0,1,[],_,2) ?_ (Imp.slots (by simp [go_sem,costL]) rfl rfl) ?_
 ·exact ⟨Nat.zero_le _,rfl,by simp [oput],by simp [oput,State.zero],by omega,by omega⟩
 rintro ⟨k,q,g,τ,ny⟩ ⟨g1,g2,g3,g4,g5,g6⟩
 have hgl:g.length≤k:=by
  rw [g2]
  refine Nat.le_trans (List.length_filter_le _ _) ?_
  rw [List.length_take];omega
 have hrl:(g.map fun n=>n.s.row).length=g.length:=List.length_map _
 refine K_run hB 60 ?_
 simp [go_sem,hil]
 refine fork_dec (fun hk=>?_) (fun hk=>?_)
 ·have hkk:IntKind.i64.wrap ((k:Int)+1)=((k+1:Nat):Int):=by rw [w64 ((k:Int)+1) (by omega)];rfl
  have hget:∀h:k<X.length,X[k]'h=l[k].t:=fun h=>hgt k hk
  have hsn:=atStop_snoc (l.take k) l[k] i
  rw [←List.take_succ_eq_append_getElem hk,←g2] at hsn
  have hcs:=costL_snoc g l[k]
  generalize l[k]=m at *
  have hcap:g.length+1≤mostLen:=by omega
  have n1:¬0=q:=by omega
  have n2:¬0=ny:=by omega
  by_cases c0:m.s.spot=i
  rotate_left
  ·rw [if_neg c0,List.append_nil] at hsn
   simp [go_sem,hil,hk,hget,Node.t,c0,hkk]
   exact Next.mk (k+1,q,g,τ,ny) ⟨by simp only;omega,hsn.symm,g3,g4,g5,g6⟩ (Imp.slots (by simp [go_sem]) rfl rfl) (by simp only;omega)
  rw [if_pos c0] at hsn
  have hrow:(g.map fun n=>n.s.row)++[m.s.row]=(g++[m]).map fun n=>n.s.row:=by simp
  generalize hgm:(g.map fun n=>n.s.row)=rows at *
  by_cases c1:g=[]
  ·rw [if_pos (.inl c1)] at hcs
   simp [go_sem,hil,hk,hget,Node.t,c0,hkk,g3,hrl,hcap,eq_true c1]
   refine K_run hB 100 ?_
   simp [go_sem,hil,hk,hget,Node.t,g3,hrl,hcap,hkk]
   refine Next.mk (k+1,ny,g++[m],_,ny+1) ?_ (Imp.slots (by simp [go_sem,hcs]) rfl rfl) (by simp only;omega)
   refine ⟨by simp only;omega,hsn.symm,?_,by simp [oput,n1,n2,g4],by simp only;omega,by simp only;omega⟩
   simp only
   rw [←hrow]
   simp [oput,State.row,c0]
  by_cases c2:m.cost<costL g
  ·rw [if_pos (.inr c2)] at hcs
   simp [go_sem,hil,hk,hget,Node.t,c0,hkk,g3,hrl,hcap,c1,c2]
   refine K_run hB 100 ?_
   simp [go_sem,hil,hk,hget,Node.t,g3,hrl,hcap,hkk]
   refine Next.mk (k+1,ny,g++[m],_,ny+1) ?_ (Imp.slots (by simp [go_sem,hcs]) rfl rfl) (by simp only;omega)
   refine ⟨by simp only;omega,hsn.symm,?_,by simp [oput,n1,n2,g4],by simp only;omega,by simp only;omega⟩
   simp only
   rw [←hrow]
   simp [oput,State.row,c0]
  ·rw [if_neg (by rintro (h | h);exact c1 h;exact c2 h)] at hcs
   simp [go_sem,hil,hk,hget,Node.t,c0,hkk,g3,hrl,hcap,c1,c2]
   refine K_run hB 100 ?_
   simp [go_sem,hil,hk,hget,Node.t,g3,hrl,hcap,hkk]
   refine Next.mk (k+1,ny,g++[m],_,ny+1) ?_ (Imp.slots (by simp [go_sem,hcs]) rfl rfl) (by simp only;omega)
   refine ⟨by simp only;omega,hsn.symm,?_,by simp [oput,n1,n2,g4],by simp only;omega,by simp only;omega⟩
   simp only
   rw [←hrow]
   simp [oput,State.row,c0]
 ·have:k=l.length:=by omega
  subst this
  rw [List.take_length] at g2
  have hjs:=fun (τ':Nat→AObj) (h1:τ' q= .arr 8 ((g.map fun n=>n.s).map State.row))=>rjoin_spec (g.map fun n=>n.s) (by rw [List.length_map];omega) (fun t ht=>by
   obtain ⟨n,hn,rfl⟩:=List.mem_map.1 ht
   rw [g2] at hn
   exact hlo n (atStop_mem.1 hn).1) (σ:=τ') (nx:=ny) (r:=q) g6 h1
  rw [←g2]
  have htg:together g=(⟨(joinL (g.map fun n=>n.s)).1,costL g,[]⟩,(joinL (g.map fun n=>n.s)).2):=rfl
  generalize together g=TG at *
  generalize joinL (g.map fun n=>n.s)=J at *
  generalize costL g=c at *
  subst htg
  simp [go_sem]
  refine K_call rfl rfl rfl (args:=[.ref q]) (f:=257) (by simp [go_sem]) (by simp [go_sem,hB]) (hjs _ (by rw [List.map_map];exact g3)) ?_
  have n2:¬0=ny:=by omega
  refine K_run hB 100 ?_
  simp [go_sem,State.a,State.cs,g4,n2]
  rfl
end Go.Proofs.YtackfabapangdaaGreat

set_option maxRecDepth 4000
set_option maxHeartbeats 1000000
namespace Go.Proofs.YtackfabapangdaaGreat
open Go Go.Proofs.YtackfabapangdaaGreat.R
theorem rsqueeze_pure (x:Inst) (l:List Node) (w:Int) (hx:x.stops.length<2^31) (hl:l.length<2^31) (hn:∀n∈l,n.Fine):Pure P 189 [x.a,.t (.sl (nodesT l)),.i w] (.t (.sl (nodesT (x.squeeze l w)))):=by
 generalize hR:x.squeeze l w=R
 refine pure_of Tryz.func189 rfl rfl (by simp [Tryz.f189]) (by simp [bnd,bnd.bndL,Inst.a]) (by simp [bnd,bnd.bndL]) fun B hB hnx=>?_
 simp only [Tryz.f189] at hB ⊢
 have hso:=rsorted_pure x l hx hl (fun n h=>(hn n h).ok)
 have hmo:=rwidth_pure x w
 have hfS:∀n∈x.sortN l,n.Fine:=fun n h=>hn n (Inst.sortN_mem.1 h)
 have hSl:=x.sortN_len l
 rw [Inst.squeeze] at hR
 generalize x.sortN l=S at *
 have hM1:x.stops.length≤x.mostN w:=Nat.le_max_right _ _
 generalize x.mostN w=M at *
 have hNl:(nodesT S).length=S.length:=List.length_map _
 refine K_run hB 100 ?_
 simp [go_sem,Inst.a]
 refine K_call rfl rfl rfl (args:=[x.a,.t (.sl (nodesT l))]) (f:=186) (by simp [go_sem,Inst.a]) (by simp [go_sem,hB]) ((hso).spec _ _) ?_
 refine K_run hB 100 ?_
 simp [go_sem]
 refine K_call rfl rfl rfl (args:=[x.a,.i w]) (f:=188) (by simp [go_sem,Inst.a]) (by simp [go_sem,hB]) ((hmo).spec _ _) ?_
 by_cases c1:S.length≤M
 ·rw [if_pos c1] at hR
  subst hR
  refine K_run hB 100 ?_
  simp [go_sem,hNl,c1]
 rw [if_neg c1] at hR
 have hM2:M<2^31:=by omega
 obtain ⟨kp,hkp⟩:∃kp,kp=M-x.stops.length:=⟨_,rfl⟩
 have hkp2:(M:Int)-x.stops.length=kp:=by omega
 have hw1:IntKind.i64.wrap ((M:Int)-x.stops.length)=kp:=by rw [hkp2];exact w64 _ (by omega)
 have hkl:kp<S.length:=by omega
 have hS1:=nodesT_len S
 rw [←hkp] at hR
 have hXd:(nodesT S).drop kp=nodesT (S.drop kp):=by rw [nodesT,nodesT,List.map_drop]
 have hXt:(nodesT S).take kp=nodesT (S.take kp):=by rw [nodesT,nodesT,List.map_take]
 have hrl:(S.drop kp).length=S.length-kp:=List.length_drop
 have hrf:∀n∈S.drop kp,n.s.ok:=fun n h=>(hfS n (List.mem_of_mem_drop h)).ok
 have hfl:(S.take kp).length≤kp:=by rw [List.length_take];omega
 have htg:=fun i=>rtogether_pure (S.drop kp) i (by omega) hrf
 have hone:∀i,oneAt (S.drop kp) i=if (together (atStop (S.drop kp) i)).2=true then [(together (atStop (S.drop kp) i)).1] else []:=fun i=>rfl
 have hcap0:(nodesT (S.take kp)).length≤mostLen:=by rw [nodesT,List.length_map];show _≤4294967296;omega
 have hcap1:(nodesT (S.take kp)).length≤mostLen∧∀y∈nodesT (S.take kp),y.length=10:=⟨hcap0,nodesT_len _⟩
 refine K_run hB 100 ?_
 simp [go_sem,hNl,c1,hw1,if_pos hS1,hkl,Nat.le_of_lt hkl,hXd,hXt,if_pos hcap1]
 generalize S.drop kp=rest at *
 generalize S.take kp=front at *
 have hmost:mostLen=4294967296:=rfl
 refine K_loopP (α:=Nat×Nat×List Node×(Nat→AObj)×Nat) (fun (i,q,out,τ,ny)=>i≤x.stops.length∧(out++((List.range x.stops.length).drop i).flatMap (oneAt rest)=R∧out.length≤kp+i)∧τ q= .arr 10 (nodesT out)∧τ 0= .box x.cs∧0<q∧q<ny)
  (fun (i,q,out,τ,ny)=>⟨sl [(3,.ptr 0 0),(9,.ref q),(10,.t (.sl (nodesT rest))),(11,.i i)],τ,ny⟩) (fun a=>x.stops.length-a.1) (0,1,front,_,2) ?_ (Imp.slots (by simp [go_sem]) rfl rfl) ?_
 ·exact ⟨Nat.zero_le _,⟨hR,hfl⟩,by simp [oput],by simp [oput,Inst.cs],by omega,by omega⟩
 rintro ⟨i,q,out,τ,ny⟩ ⟨f1,⟨f2,f3⟩,f4,f5,f6,f7⟩
 refine K_run hB 60 ?_
 simp [go_sem,f5,Inst.cs]
 refine fork_dec (fun hi=>?_) (fun hi=>?_)
 ·have hii:IntKind.i64.wrap ((i:Int)+1)=((i+1:Nat):Int):=by rw [w64 ((i:Int)+1) (by omega)];rfl
  rw [List.drop_eq_getElem_cons (by rw [List.length_range];exact hi),List.getElem_range,List.flatMap_cons,←List.append_assoc,hone i] at f2
  have htg:=htg i
  generalize together (atStop rest i)=TG at *
  obtain ⟨tn,tb⟩:=TG
  have hcap2:(nodesT out).length+1≤mostLen:=by rw [nodesT,List.length_map];omega
  have n1:¬q=ny:=by omega
  have n2:¬0=ny:=by omega
  have n3:¬0=q:=by omega
  have n4:¬ny=q:=by omega
  simp [go_sem]
  refine K_call rfl rfl rfl (args:=[.t (.sl (nodesT rest)),.i i]) (f:=230) (by simp [go_sem]) (by simp [go_sem,hB]) ((htg).spec _ _) ?_
  cases tb with
  |false=>
   rw [if_neg (by simp),List.append_nil] at f2
   refine K_run hB 100 ?_
   simp [go_sem,Node.a,Node.cs,hii]
   refine Next.mk (i+1,q,out,_,ny+1) ?_ (Imp.slots (by simp [go_sem]) rfl rfl) (by simp only;omega)
   exact ⟨by simp only;omega,⟨f2,by simp only;omega⟩,by simp [oput,n1,f4],by simp [oput,n2,f5,Inst.cs],f6,by simp only;omega⟩
  |true=>
   rw [if_pos rfl] at f2
   have hsn:nodesT (out++[tn])=nodesT out++[tn.t]:=by simp [nodesT]
   refine K_run hB 100 ?_
   simp [go_sem,Node.a,Node.cs,hii,f4,n1,n4,hcap2]
   refine Next.mk (i+1,ny+1,out++[tn],_,ny+2) ?_ (Imp.slots (by simp [go_sem]) rfl rfl) (by simp only;omega)
   refine ⟨by simp only;omega,⟨f2,by simp only [List.length_append,List.length_cons,List.length_nil];omega⟩,?_,by simp [oput,n2,n3,f5,Inst.cs],by simp only;omega,by simp only;omega⟩
   rw [hsn];simp [oput,Node.t]
 ·have:i=x.stops.length:=by omega
  subst this
  rw [List.drop_of_length_le (by simp),List.flatMap_nil,List.append_nil] at f2
  subst f2
  simp [go_sem,f4]
end Go.Proofs.YtackfabapangdaaGreat

set_option maxRecDepth 4000
set_option maxHeartbeats 1000000
namespace Go.Proofs.YtackfabapangdaaGreat
open Go Go.Proofs.YtackfabapangdaaGreat.R
theorem cloneN_spec (l:List Node) (hl:l.length<4294967296) (σ:Nat→AObj) (nx:Nat):CallSpec P 248 [.t (.sl (nodesT l))] σ nx (.ref nx) (oput σ nx (.arr 10 (nodesT l))) (nx+1):=by
 refine CallQ.spec (spec_of Tryz.func248 rfl rfl (by simp [Tryz.f248]) fun B hB hnx hσ=>K_after ?_)
 simp only [Tryz.f248] at hB ⊢
 have hil:(nodesT l).length=l.length:=List.length_map _
 have hne:nodesT l=[]↔l=[]:=by simp [nodesT]
 have h1:=nodesT_len l
 have hmost:l.length≤mostLen:=by show l.length≤4294967296;omega
 refine K_run hB 100 ?_
 simp [go_sem]
 refine K_nilEq (es:=nodesT l) rfl rfl (by simp [go_sem,hB]) tt128 rfl (by simp [go_sem]) fun b hb=>?_
 cases b with
 |true=>
  have e:l=[]:=Decidable.byContradiction fun h=>by have:=hb (fun h'=>h (hne.1 h'));cases this
  have e2:nodesT l=[]:=hne.2 e
  refine K_run hB 100 ?_
  simp [go_sem]
  refine ⟨_,fun a w hr=>rel_own (t:=2) (sz:=10) (by simp [go_sem]) hr,?_⟩
  simp [go_sem,e2]
 |false=>
  refine K_run hB 100 ?_
  simp [go_sem,hil,hne,hmost,if_pos h1]
  refine ⟨_,Imp.self,?_⟩
  simp [go_sem]
theorem ownN_pure (l:List Node) (hl:l.length<2^31) (hp:∀n∈l,n.path.length<2^31):Pure P 224 [.t (.sl (nodesT l))] (.t (.sl (nodesT l))):=by
 refine pure_of Tryz.func224 rfl rfl (by simp [Tryz.f224]) (by simp [bnd,bnd.bndL]) (by simp [bnd,bnd.bndL]) fun B hB hnx=>?_
 simp only [Tryz.f224] at hB ⊢
 have hil:(nodesT l).length=l.length:=List.length_map _
 have hgt:∀(k:Nat) (h:k<l.length),(nodesT l)[k]'(by rw [hil];exact h)=l[k].t:=fun k h=>nodesT_get l h
 refine K_run hB 100 ?_
 simp [go_sem]
 refine K_call rfl rfl rfl (args:=[.t (.sl (nodesT l))]) (f:=248) (by simp [go_sem]) (by simp [go_sem,hB]) (cloneN_spec l (by omega) _ _) ?_
 refine K_run hB 100 ?_
 simp [go_sem,hil]
 refine K_loopP (α:=Nat×(Nat→AObj)×Nat) (fun (k,τ,ny)=>k≤l.length∧τ 0= .arr 10 (nodesT l)∧0<ny) (fun (k,τ,ny)=>⟨sl [(0,.ref 0),(7,.ref 0),(8,.i l.length),(9,.i k)],τ,ny⟩) (fun a=>l.length-a.1) (0,_,1) ⟨Nat.zero_le _,by simp [oput],by omega⟩ (Imp.slots (by simp [go_sem]) rfl rfl) ?_
 rintro ⟨k,τ,ny⟩ ⟨g1,g2,g3⟩
 refine K_run hB 60 ?_
 simp [go_sem]
 refine fork_dec (fun hk=>?_) (fun hk=>?_)
 ·have hkk:IntKind.i64.wrap ((k:Int)+1)=((k+1:Nat):Int):=by rw [w64 ((k:Int)+1) (by omega)];rfl
  have hget:∀h:k<(nodesT l).length,(nodesT l)[k]'h=l[k].t:=fun h=>hgt k hk
  have hpk:=hp l[k] (List.getElem_mem _)
  have hset:∀y,y=l[k].t→(nodesT l).set k y=nodesT l:=fun y hy=>by
   subst hy
   refine List.ext_getElem (by simp) fun i h1 h2=>?_
   rw [List.getElem_set]
   split
   ·rename_i e;subst e;exact (hget h2).symm
   ·rfl
  generalize hm:l[k]=m at *
  have n0:¬0=ny:=by omega
  have q1:(k*10+9) / 10=k:=by omega
  have q2:(k*10+9) % 10=9:=by omega
  simp [go_sem,hil,hk,hget,Node.t,g2,n0]
  refine K_call rfl rfl rfl (args:=[.t (.sl (ints m.path))]) (f:=215) (by simp [go_sem]) (by simp [go_sem,hB]) (clone_spec m.path (by omega) _ _) ?_
  refine K_imp ((Imp.freeze (q:=ny+1) (sz:=1) (es:=ints m.path) (by simp [oput])).trans (Imp.slots (l:=[(0,.ref 0),(7,.ref 0),(8,.i l.length),(9,.i k),(14,.ref 0),(15,.i k),(18,.t (.sl (ints m.path)))]) (by simp [go_sem,frz1]) rfl rfl)) ?_
  have hfz:frzO (ny+1) (ints m.path) (.arr 10 (nodesT l))= .arr 10 (nodesT l):=rfl
  refine K_run hB 100 ?_
  simp [go_sem,g2,n0,hil,hk,hget,Node.t,q1,q2,hfz,hkk,show ¬ny=0 by omega]
  refine Next.mk (k+1,_,ny+2) ⟨by simp only;omega,?_,by simp only;omega⟩ (Imp.slots (by simp [go_sem]) rfl rfl) (by simp only;omega)
  simp only [oput,if_true]
  exact congrArg (AObj.arr 10) (hset _ rfl)
 ·have:k=l.length:=by omega
  subst this
  simp [go_sem,g2]
theorem over_spec (x:Inst) (w:Int) (l:List Node) {σ:Nat→AObj} {nx a b:Nat} (ha:a<nx) (hb:b<nx) (h1:σ a= .box x.cs) (h2:σ b= .box [.i w]):
  CallSpec P 222 [.t (.sl (nodesT l)),.ptr a 0,.ptr b 0] σ nx (.b (decide (x.mostN w<l.length))) σ nx:=by
 refine spec_keep Tryz.func222 rfl rfl (by simp [Tryz.f222]) (by simp [bnd]) fun hk B hB hnx hσB=>?_
 simp only [Tryz.f222] at hB ⊢
 have hm:=most_pure x w
 have hil:(nodesT l).length=l.length:=List.length_map _
 generalize x.mostN w=M at *
 refine K_run hB 100 ?_
 simp [go_sem,h1,h2,hil,Inst.cs]
 refine K_call rfl rfl rfl (args:=[x.a,.i w]) (f:=223) (by simp [go_sem,Inst.a]) (by simp [go_sem,hB]) ((hm).spec _ _) ?_
 refine K_run hB 100 ?_
 simp [go_sem]
end Go.Proofs.YtackfabapangdaaGreat

set_option maxRecDepth 4000
set_option maxHeartbeats 2000000
namespace Go.Proofs.YtackfabapangdaaGreat
open Go Go.Proofs.YtackfabapangdaaGreat.R
def lysT (ls:List (List Node)):List (List T):=ls.map fun l=>[.sl (nodesT l)]
def Diag.cs (d:Diag):List AV:=[.t (.sl (lysT d.layers)),.i d.low,.b d.exact,.i d.sure]
def Diag.a (d:Diag):AV:=.agg d.cs
structure WFine (l:List Node) (K:Nat):Prop where
 ok:∀n∈l,n.s.ok
 path:∀n∈l,n.path.length≤K
theorem WFine.next {x:Inst} {l:List Node} {K:Nat} (h:WFine l K) (up:Int):WFine (x.next l up) (K+1):=by
 refine ⟨?_,?_⟩<;>(intro m hm;obtain ⟨n,hn,j,hj,rfl,_⟩:=next_mem hm)
 ·exact move_ok x j (h.ok n hn)
 ·have:=h.path n hn
  show (n.path++[j]).length≤K+1
  rw [List.length_append]
  simp only [List.length_cons,List.length_nil]
  omega
theorem fold_ok:∀(l:List State) (s:State),s.ok→(∀t∈l,t.ok)→(l.foldl State.join s).ok
 |[],s,h,_=>h
 |t :: l,s,h,k=>fold_ok l (s.join t) (join_ok h (k t List.mem_cons_self)) fun u hu=>k u (List.mem_cons_of_mem _ hu)
theorem joinL_ok {l:List State} (h:∀t∈l,t.ok):(joinL l).1.ok:=by
 cases l with
 |nil=>exact State.zero_ok
 |cons s l=>
  rw [joinL]
  split
  ·exact State.zero_ok
  ·exact fold_ok l s (h s List.mem_cons_self) fun t ht=>h t (List.mem_cons_of_mem _ ht)
theorem WFine.squeeze {x:Inst} {l:List Node} {K:Nat} (h:WFine l K) (w:Int):WFine (x.squeeze l w) K:=by
 refine ⟨fun m hm=>?_,fun m hm=>?_⟩
 ·rcases squeeze_mem hm with hm | ⟨i,g,h1,h2,h3,rfl⟩
  ·exact h.ok m hm
  ·exact joinL_ok fun t ht=>by
    obtain ⟨q,hq,rfl⟩:=List.mem_map.1 ht
    exact h.ok q (h3 q hq).1
 ·rcases squeeze_mem hm with hm | ⟨i,g,h1,h2,h3,rfl⟩
  ·exact h.path m hm
  ·exact Nat.zero_le _
theorem deep_le (x:Inst):0≤x.deep∧x.deep≤39:=by
 unfold Inst.deep
 split
 ·rename_i hm
  obtain ⟨p,hx⟩:=x.fit hm
  have:=hx.pairs
  have:=hx.few
  have:=hx.cars
  omega
 ·omega
theorem next_few {x:Inst} {l:List Node} {up w:Int} (hw:w≤3000) (h:(x.next l up).length≤x.mostN w):(x.next l up).length≤3000:=by
 cases hm:x.may with
 |true=>
  obtain ⟨p,hx⟩:=x.fit hm
  have:=hx.len
  have:=hx.few
  unfold Inst.mostN at h
  omega
 |false=>
  have:x.next l up=[]:=by
   refine List.eq_nil_iff_forall_not_mem.2 fun m hm2=>?_
   obtain ⟨n,hn,j,hj,_⟩:=next_mem hm2
   have:=(move_may (moves_mem hj)).1
   rw [hm] at this;cases this
  rw [this];simp
theorem most_few {x:Inst} {l:List Node} {up w:Int} (hw:w≤3000) (h:x.mostN w<(x.next l up).length):x.mostN w≤3000:=by
 cases hm:x.may with
 |true=>
  obtain ⟨p,hx⟩:=x.fit hm
  have:=hx.len
  have:=hx.few
  unfold Inst.mostN
  omega
 |false=>
  have:x.next l up=[]:=by
   refine List.eq_nil_iff_forall_not_mem.2 fun m hm2=>?_
   obtain ⟨n,hn,j,hj,_⟩:=next_mem hm2
   have:=(move_may (moves_mem hj)).1
   rw [hm] at this;cases this
  rw [this] at h;simp at h
theorem build_pure (x:Inst) (n:Node) (w up:Int) (hl:x.stops.length<2^31) (hw:w≤3000) (ho:n.s.ok) (hp:n.path.length<2^29):Pure P 182 [x.a,n.a,.i w,.i up] ((x.build n w up).a):=by
 generalize hR:x.build n w up=R
 refine pure_of Tryz.func182 rfl rfl (by simp [Tryz.f182]) (by simp [bnd,bnd.bndL,Inst.a,Node.a,Node.cs]) (by simp [bnd,bnd.bndL,Diag.a,Diag.cs]) fun B hB hnx=>?_
 simp only [Tryz.f182] at hB ⊢
 have hdeep:=deep_pure x (by omega)
 have hdl:=deep_le x
 have hown:=ownN_pure [n] (by simp) (fun m hm=>by rw [List.mem_singleton.1 hm];omega)
 rw [Inst.build] at hR
 have hwd:IntKind.i64.wrap (x.deep-n.path.length)=x.deep-n.path.length:=w64 _ (by omega)
 generalize hdp:x.deep-(n.path.length:Int)=dp at *
 have hnl:(ints n.path).length=n.path.length:=List.length_map _
 refine K_run hB 100 ?_
 simp [go_sem,Inst.a,Node.a,Node.cs]
 refine K_scope ?_
 refine K_run hB 100 ?_
 simp [go_sem]
 refine K_drawn [] rfl (by rw [hB];kernel_rfl) ?_
 refine K_run hB 100 ?_
 simp [go_sem]
 refine K_dCallP rfl rfl rfl (args:=[x.a]) (f:=124) (by simp [go_sem,Inst.a]) (hdeep) ?_
 refine K_run hB 100 ?_
 simp [go_sem,hnl,hdp,hwd]
 refine K_call rfl rfl rfl (args:=[.fsl [n.t]]) (f:=224) (by simp [go_sem,Node.t]) (by simp [go_sem,hB]) ((Pure.loose hown (by simp [bnd])).spec _ _) ?_
 refine K_run hB 100 ?_
 simp [go_sem]
 refine K_less (Imp.ownB (b:=4) (off:=0) (sz:=1) (cs:=[.fsl [],.i up,.b true,.i 0]) (by simp [oput]) rfl) ?_
 refine K_loopP (α:=Nat×List (List Node)×Int×Option Nat×List Node×Nat×(Nat→AObj)×Nat) (fun (f,ls,low,sq,l,q,τ,ny)=>x.buildGo w up dp f ls low sq l=R∧(f:Int)+ls.length≥dp+2∧((ls.length:Int)≤dp∨ls=[])∧1≤f∧WFine l (n.path.length+ls.length)∧l.length≤3000∧τ 0= .box x.cs∧τ 2= .box [.i w]∧τ 3= .box [.fsl [],.i 0,.b false,.i 0]∧τ 4= .box [.ref q,.i low,.b sq.isNone,.i (sq.getD 0:Nat)]∧τ q= .arr 1 (lysT ls)∧4<q∧q<ny)
  (fun (f,ls,low,sq,l,q,τ,ny)=>⟨sl [(3,.i up),(4,.ptr 0 0),(6,.ptr 2 0),(8,.ptr 3 0),(9,.ptr 4 0),(10,.fn (.func 222) [] [.ptr 0 0,.ptr 2 0]),(11,.i dp),(12,.t (.sl (nodesT l)))],τ,ny⟩) (fun a=>a.1) (dp.toNat+2,[],up,none,[n],5,_,6) ?_ (Imp.slots (by simp [go_sem]) rfl rfl) ?_
 ·refine ⟨hR,by simp only [List.length_nil];omega,.inr rfl,by omega,⟨fun m hm=>by rw [List.mem_singleton.1 hm];exact ho,fun m hm=>by rw [List.mem_singleton.1 hm];omega⟩,by simp,by simp [oput,Inst.cs],by simp [oput],by simp [oput],by simp [oput,setCells],by simp [oput,lysT],by omega,by omega⟩
 clear hR
 rintro ⟨f,ls,low,sq,l,q,τ,ny⟩ ⟨hR,g1,g2,g3,g4,g5,h0,h2,h3,h4,h5,h6,h7⟩
 obtain ⟨f,rfl⟩:∃f',f=f'+1:=⟨f-1,by omega⟩
 have hil:(nodesT l).length=l.length:=List.length_map _
 have hyl:(lysT ls).length=ls.length:=List.length_map _
 have hls:ls.length≤40:=by
  rcases g2 with g2 | g2
  ·omega
  ·rw [g2];simp
 have n0:¬0=ny:=by omega
 have n2:¬2=ny:=by omega
 have n3:¬3=ny:=by omega
 have n4:¬4=ny:=by omega
 have n5:¬q=3:=by omega
 have n6:¬q=4:=by omega
 rw [Inst.buildGo] at hR
 by_cases c0:l=[]
 ·rw [if_pos c0] at hR
  subst hR
  have c0':l.length=0:=by rw [c0];rfl
  cases sq with
  |none=>
   refine K_run hB 60 ?_
   simp [go_sem,hil,c0',h4,h5,hyl,n5,n6,h3]
   rfl
  |some k=>
   refine K_run hB 60 ?_
   simp [go_sem,hil,c0',h4,h5,hyl,n5,n6,h3]
   rfl
 rw [if_neg c0] at hR
 have c0':0<l.length:=List.length_pos_iff.2 c0
 have hx:=expand_pure x l up hl (by omega) (fun m h=>⟨g4.ok m h,by have:=g4.path m h;omega⟩) (fun m h=>by have:=g4.path m h;omega)
 have hnw:=g4.next (x:=x) up
 have hsn:lysT ls++[[.sl (nodesT l)]]=lysT (ls++[l]):=by simp [lysT]
 have hcap:ls.length+1≤mostLen:=by show _≤4294967296;omega
 have hsl:(lysT (ls++[l])).length=ls.length+1:=by rw [lysT,List.length_map];simp
 have n7:¬4=q:=by omega
 have n8:¬0=q:=by omega
 have n9:¬2=q:=by omega
 have na:¬3=q:=by omega
 generalize x.bests l=Bs at *
 obtain ⟨b,is⟩:=Bs
 have hqs:=squeeze_pure x (x.next l up) w hl (by have:=next_len x l up;omega) (fun m h=>⟨hnw.ok m h,by have:=hnw.path m h;omega⟩)
 have hnf:=next_few (x:=x) (l:=l) (up:=up) hw
 have hmf:=most_few (x:=x) (l:=l) (up:=up) hw
 have hsq:=squeeze_len x (x.next l up) w
 have hsw:=hnw.squeeze (x:=x) w
 generalize x.squeeze (x.next l up) w=Q at *
 generalize x.next l up=M at *
 refine K_run hB 60 ?_
 simp [go_sem,hil,c0',h4,h5,hyl,hsn,hcap,n0,n2,n3,n4,n6,n7,n8,n9,na,h0,Inst.cs]
 refine K_run hB 100 ?_
 simp [go_sem,hil,c0',h4,h5,hyl,hsn,hcap,n0,n2,n3,n4,n6,n7,n8,n9,na,h0,Inst.cs]
 refine K_call rfl rfl rfl (args:=[x.a,.t (.sl (nodesT l)),.i up]) (f:=180) (by simp [go_sem,Inst.a]) (by simp [go_sem,hB]) ((hx).spec _ _) ?_
 have b0:¬ny=0:=by omega
 have b1:¬ny+1=0:=by omega
 have b2:¬ny=1:=by omega
 have b3:¬ny=2:=by omega
 have b4:¬ny=3:=by omega
 have b5:¬ny=4:=by omega
 have b6:¬4=ny+1:=by omega
 have hov:=fun (τ':Nat→AObj) (e1:τ' 0= .box x.cs) (e2:τ' 2= .box [.i w])=>over_spec x w M (σ:=τ') (nx:=ny+2) (a:=0) (b:=2) (by omega) (by omega) e1 e2
 have hwQ:WFine Q (n.path.length+(ls++[l]).length):=by rw [List.length_append];exact hsw
 have hwM:WFine M (n.path.length+(ls++[l]).length):=by rw [List.length_append];exact hnw
 cases is with
 |false=>
  have hlw:lowB low (b,false)=low:=rfl
  rw [hlw] at hR
  by_cases c1:dp<(ls.length:Int)+1
  ·rw [if_pos (by omega)] at hR
   subst hR
   cases sq with
   |none=>
    refine K_run hB 100 ?_
    simp [go_sem,expRes,Node.a,Node.cs,h0,h2,h3,h4,h5,n0,n2,n3,n4,n5,n6,n7,n8,n9,na,b0,b1,b2,b3,b4,b5,b6,hsl,Inst.cs,c1]
    simp [Diag.of,Diag.a,Diag.cs]
   |some k=>
    refine K_run hB 100 ?_
    simp [go_sem,expRes,Node.a,Node.cs,h0,h2,h3,h4,h5,n0,n2,n3,n4,n5,n6,n7,n8,n9,na,b0,b1,b2,b3,b4,b5,b6,hsl,Inst.cs,c1]
    rfl
  rw [if_neg (by omega)] at hR
  refine K_run hB 100 ?_
  simp [go_sem,expRes,Node.a,Node.cs,h0,h2,h3,h4,h5,n0,n2,n3,n4,n5,n6,n7,n8,n9,na,b0,b1,b2,b3,b4,b5,b6,hsl,Inst.cs,c1]
  refine K_call rfl rfl rfl (args:=[.t (.sl (nodesT M)),.ptr 0 0,.ptr 2 0]) (f:=222) (by simp [go_sem]) (by simp [go_sem,hB]) (hov _ (by simp [oput,h0,n0,n8,b0,b1,Inst.cs]) (by simp [oput,h2,n2,n9,b1,b2,b3])) ?_
  by_cases c2:x.mostN w<M.length
  ·rw [if_pos c2] at hR
   refine K_run hB 100 ?_
   simp [go_sem,expRes,Node.a,Node.cs,h0,h2,h3,h4,h5,n0,n2,n3,n4,n5,n6,n7,n8,n9,na,b0,b1,b2,b3,b4,b5,b6,hsl,Inst.cs,c2]
   refine K_call rfl rfl rfl (args:=[x.a,.t (.sl (nodesT M)),.i w]) (f:=225) (by simp [go_sem,Inst.a]) (by simp [go_sem,hB]) ((hqs).spec _ _) ?_
   cases sq with
   |none=>
    refine K_run hB 100 ?_
    simp [go_sem,expRes,Node.a,Node.cs,h0,h2,h3,h4,h5,n0,n2,n3,n4,n5,n6,n7,n8,n9,na,b0,b1,b2,b3,b4,b5,b6,hsl,Inst.cs]
    refine Next.mk (f,ls++[l],low,some (ls.length+1),Q,ny,_,ny+2) ?_ (Imp.slots (by simp [go_sem]) rfl rfl) (by simp only;omega)
    exact ⟨hR,by simp only [List.length_append,List.length_cons,List.length_nil];omega,.inl (by simp only [List.length_append,List.length_cons,List.length_nil];omega),by simp only;omega,hwQ,(by have:=hmf c2;simp only;omega),by simp [oput,h0,h2,h3,h4,n0,n2,n3,n4,n7,n8,n9,na,b0,b1,b2,b3,b4,b5,b6,Inst.cs],by simp [oput,h0,h2,h3,h4,n0,n2,n3,n4,n7,n8,n9,na,b0,b1,b2,b3,b4,b5,b6,Inst.cs],by simp [oput,h0,h2,h3,h4,n0,n2,n3,n4,n7,n8,n9,na,b0,b1,b2,b3,b4,b5,b6,Inst.cs],by simp [oput,h0,h2,h3,h4,n0,n2,n3,n4,n7,n8,n9,na,b0,b1,b2,b3,b4,b5,b6,Inst.cs],by simp [oput,h0,h2,h3,h4,n0,n2,n3,n4,n7,n8,n9,na,b0,b1,b2,b3,b4,b5,b6,Inst.cs],by simp only;omega,by simp only;omega⟩
   |some k=>
    refine K_run hB 100 ?_
    simp [go_sem,expRes,Node.a,Node.cs,h0,h2,h3,h4,h5,n0,n2,n3,n4,n5,n6,n7,n8,n9,na,b0,b1,b2,b3,b4,b5,b6,hsl,Inst.cs]
    refine Next.mk (f,ls++[l],low,some k,Q,ny,_,ny+2) ?_ (Imp.slots (by simp [go_sem]) rfl rfl) (by simp only;omega)
    exact ⟨hR,by simp only [List.length_append,List.length_cons,List.length_nil];omega,.inl (by simp only [List.length_append,List.length_cons,List.length_nil];omega),by simp only;omega,hwQ,(by have:=hmf c2;simp only;omega),by simp [oput,h0,h2,h3,h4,n0,n2,n3,n4,n7,n8,n9,na,b0,b1,b2,b3,b4,b5,b6,Inst.cs],by simp [oput,h0,h2,h3,h4,n0,n2,n3,n4,n7,n8,n9,na,b0,b1,b2,b3,b4,b5,b6,Inst.cs],by simp [oput,h0,h2,h3,h4,n0,n2,n3,n4,n7,n8,n9,na,b0,b1,b2,b3,b4,b5,b6,Inst.cs],by simp [oput,h0,h2,h3,h4,n0,n2,n3,n4,n7,n8,n9,na,b0,b1,b2,b3,b4,b5,b6,Inst.cs],by simp [oput,h0,h2,h3,h4,n0,n2,n3,n4,n7,n8,n9,na,b0,b1,b2,b3,b4,b5,b6,Inst.cs],by simp only;omega,by simp only;omega⟩
  ·rw [if_neg c2] at hR
   refine K_run hB 100 ?_
   simp [go_sem,expRes,Node.a,Node.cs,h0,h2,h3,h4,h5,n0,n2,n3,n4,n5,n6,n7,n8,n9,na,b0,b1,b2,b3,b4,b5,b6,hsl,Inst.cs,c2]
   refine Next.mk (f,ls++[l],low,sq,M,ny,_,ny+2) ?_ (Imp.slots (by simp [go_sem]) rfl rfl) (by simp only;omega)
   exact ⟨hR,by simp only [List.length_append,List.length_cons,List.length_nil];omega,.inl (by simp only [List.length_append,List.length_cons,List.length_nil];omega),by simp only;omega,hwM,(hnf (by omega)),by simp [oput,h0,h2,h3,h4,n0,n2,n3,n4,n7,n8,n9,na,b0,b1,b2,b3,b4,b5,b6,Inst.cs],by simp [oput,h0,h2,h3,h4,n0,n2,n3,n4,n7,n8,n9,na,b0,b1,b2,b3,b4,b5,b6,Inst.cs],by simp [oput,h0,h2,h3,h4,n0,n2,n3,n4,n7,n8,n9,na,b0,b1,b2,b3,b4,b5,b6,Inst.cs],by simp [oput,h0,h2,h3,h4,n0,n2,n3,n4,n7,n8,n9,na,b0,b1,b2,b3,b4,b5,b6,Inst.cs],by simp [oput,h0,h2,h3,h4,n0,n2,n3,n4,n7,n8,n9,na,b0,b1,b2,b3,b4,b5,b6,Inst.cs],by simp only;omega,by simp only;omega⟩
 |true=>
  have hlw:lowB low (b,true)=min low b.cost:=rfl
  rw [hlw] at hR
  by_cases c1:dp<(ls.length:Int)+1
  ·rw [if_pos (by omega)] at hR
   subst hR
   cases sq with
   |none=>
    refine K_run hB 100 ?_
    simp [go_sem,expRes,Node.a,Node.cs,h0,h2,h3,h4,h5,n0,n2,n3,n4,n5,n6,n7,n8,n9,na,b0,b1,b2,b3,b4,b5,b6,hsl,Inst.cs,c1]
    simp [Diag.of,Diag.a,Diag.cs]
   |some k=>
    refine K_run hB 100 ?_
    simp [go_sem,expRes,Node.a,Node.cs,h0,h2,h3,h4,h5,n0,n2,n3,n4,n5,n6,n7,n8,n9,na,b0,b1,b2,b3,b4,b5,b6,hsl,Inst.cs,c1]
    rfl
  rw [if_neg (by omega)] at hR
  refine K_run hB 100 ?_
  simp [go_sem,expRes,Node.a,Node.cs,h0,h2,h3,h4,h5,n0,n2,n3,n4,n5,n6,n7,n8,n9,na,b0,b1,b2,b3,b4,b5,b6,hsl,Inst.cs,c1]
  refine K_call rfl rfl rfl (args:=[.t (.sl (nodesT M)),.ptr 0 0,.ptr 2 0]) (f:=222) (by simp [go_sem]) (by simp [go_sem,hB]) (hov _ (by simp [oput,h0,n0,n8,b0,b1,Inst.cs]) (by simp [oput,h2,n2,n9,b1,b2,b3])) ?_
  by_cases c2:x.mostN w<M.length
  ·rw [if_pos c2] at hR
   refine K_run hB 100 ?_
   simp [go_sem,expRes,Node.a,Node.cs,h0,h2,h3,h4,h5,n0,n2,n3,n4,n5,n6,n7,n8,n9,na,b0,b1,b2,b3,b4,b5,b6,hsl,Inst.cs,c2]
   refine K_call rfl rfl rfl (args:=[x.a,.t (.sl (nodesT M)),.i w]) (f:=225) (by simp [go_sem,Inst.a]) (by simp [go_sem,hB]) ((hqs).spec _ _) ?_
   cases sq with
   |none=>
    refine K_run hB 100 ?_
    simp [go_sem,expRes,Node.a,Node.cs,h0,h2,h3,h4,h5,n0,n2,n3,n4,n5,n6,n7,n8,n9,na,b0,b1,b2,b3,b4,b5,b6,hsl,Inst.cs]
    refine Next.mk (f,ls++[l],min low b.cost,some (ls.length+1),Q,ny,_,ny+2) ?_ (Imp.slots (by simp [go_sem]) rfl rfl) (by simp only;omega)
    exact ⟨hR,by simp only [List.length_append,List.length_cons,List.length_nil];omega,.inl (by simp only [List.length_append,List.length_cons,List.length_nil];omega),by simp only;omega,hwQ,(by have:=hmf c2;simp only;omega),by simp [oput,h0,h2,h3,h4,n0,n2,n3,n4,n7,n8,n9,na,b0,b1,b2,b3,b4,b5,b6,Inst.cs],by simp [oput,h0,h2,h3,h4,n0,n2,n3,n4,n7,n8,n9,na,b0,b1,b2,b3,b4,b5,b6,Inst.cs],by simp [oput,h0,h2,h3,h4,n0,n2,n3,n4,n7,n8,n9,na,b0,b1,b2,b3,b4,b5,b6,Inst.cs],by simp [oput,h0,h2,h3,h4,n0,n2,n3,n4,n7,n8,n9,na,b0,b1,b2,b3,b4,b5,b6,Inst.cs],by simp [oput,h0,h2,h3,h4,n0,n2,n3,n4,n7,n8,n9,na,b0,b1,b2,b3,b4,b5,b6,Inst.cs],by simp only;omega,by simp only;omega⟩
   |some k=>
    refine K_run hB 100 ?_
    simp [go_sem,expRes,Node.a,Node.cs,h0,h2,h3,h4,h5,n0,n2,n3,n4,n5,n6,n7,n8,n9,na,b0,b1,b2,b3,b4,b5,b6,hsl,Inst.cs]
    refine Next.mk (f,ls++[l],min low b.cost,some k,Q,ny,_,ny+2) ?_ (Imp.slots (by simp [go_sem]) rfl rfl) (by simp only;omega)
    exact ⟨hR,by simp only [List.length_append,List.length_cons,List.length_nil];omega,.inl (by simp only [List.length_append,List.length_cons,List.length_nil];omega),by simp only;omega,hwQ,(by have:=hmf c2;simp only;omega),by simp [oput,h0,h2,h3,h4,n0,n2,n3,n4,n7,n8,n9,na,b0,b1,b2,b3,b4,b5,b6,Inst.cs],by simp [oput,h0,h2,h3,h4,n0,n2,n3,n4,n7,n8,n9,na,b0,b1,b2,b3,b4,b5,b6,Inst.cs],by simp [oput,h0,h2,h3,h4,n0,n2,n3,n4,n7,n8,n9,na,b0,b1,b2,b3,b4,b5,b6,Inst.cs],by simp [oput,h0,h2,h3,h4,n0,n2,n3,n4,n7,n8,n9,na,b0,b1,b2,b3,b4,b5,b6,Inst.cs],by simp [oput,h0,h2,h3,h4,n0,n2,n3,n4,n7,n8,n9,na,b0,b1,b2,b3,b4,b5,b6,Inst.cs],by simp only;omega,by simp only;omega⟩
  ·rw [if_neg c2] at hR
   refine K_run hB 100 ?_
   simp [go_sem,expRes,Node.a,Node.cs,h0,h2,h3,h4,h5,n0,n2,n3,n4,n5,n6,n7,n8,n9,na,b0,b1,b2,b3,b4,b5,b6,hsl,Inst.cs,c2]
   refine Next.mk (f,ls++[l],min low b.cost,sq,M,ny,_,ny+2) ?_ (Imp.slots (by simp [go_sem]) rfl rfl) (by simp only;omega)
   exact ⟨hR,by simp only [List.length_append,List.length_cons,List.length_nil];omega,.inl (by simp only [List.length_append,List.length_cons,List.length_nil];omega),by simp only;omega,hwM,(hnf (by omega)),by simp [oput,h0,h2,h3,h4,n0,n2,n3,n4,n7,n8,n9,na,b0,b1,b2,b3,b4,b5,b6,Inst.cs],by simp [oput,h0,h2,h3,h4,n0,n2,n3,n4,n7,n8,n9,na,b0,b1,b2,b3,b4,b5,b6,Inst.cs],by simp [oput,h0,h2,h3,h4,n0,n2,n3,n4,n7,n8,n9,na,b0,b1,b2,b3,b4,b5,b6,Inst.cs],by simp [oput,h0,h2,h3,h4,n0,n2,n3,n4,n7,n8,n9,na,b0,b1,b2,b3,b4,b5,b6,Inst.cs],by simp [oput,h0,h2,h3,h4,n0,n2,n3,n4,n7,n8,n9,na,b0,b1,b2,b3,b4,b5,b6,Inst.cs],by simp only;omega,by simp only;omega⟩
end Go.Proofs.YtackfabapangdaaGreat

set_option maxRecDepth 4000
set_option maxHeartbeats 1000000
namespace Go.Proofs.YtackfabapangdaaGreat
open Go Go.Proofs.YtackfabapangdaaGreat.R
structure Ids where
 s:Nat
 h:Nat
 q:Nat
 sb:Nat
 lg:Nat
def planT (p:List (List Int)):List (List T):=p.map rowT
def Done.t (d:Node×Diag):List T:=d.1.t++[.sl (lysT d.2.layers),.i d.2.low,.v (.bool d.2.exact),.i d.2.sure]
def logT (l:List (Node×Diag)):List (List T):=l.map Done.t
def SS.cs (x:Inst) (o:Opt) (st low:Int) (k:Ids) (s:SS):List AV:=
 [.i x.pairs,.i x.cars,.i x.room,.t (.sl (x.stops.map Stop.t)),.i o.width,.i o.order,.i o.budget,.i st,.t (.sl (planT s.plan)),.i s.up,.i low,.i s.steps,.ref k.lg,.ref k.sb,.ptr k.h 0]
structure SBox (x:Inst) (o:Opt) (st low:Int) (k:Ids) (s:SS) (σ:Nat→AObj) (nx:Nat):Prop where
 box:σ k.s= .box (s.cs x o st low k)
 subs:σ k.sb= .arr 10 (nodesT s.subs)
 log:σ k.lg= .arr 14 (logT s.log)
 sh:k.s≠k.h
 qs:k.q≠k.s∧k.q≠k.h∧k.q≠k.sb∧k.q≠k.lg
 hs:k.h≠k.sb∧k.h≠k.lg
 lt:k.s<nx∧k.h<nx∧k.q<nx∧k.sb<nx∧k.lg<nx
structure Runs (k:Ids) (σ:Nat→AObj) (nx:Nat) (k':Ids) (σ':Nat→AObj) (nx':Nat):Prop where
 le:nx≤nx'
 s:k'.s=k.s
 h:k'.h=k.h
 q:k'.q=k.q∨nx≤k'.q
 sb:k'.sb=k.sb∨nx≤k'.sb
 lg:k'.lg=k.lg∨nx≤k'.lg
 keep:∀i,i<nx→i≠k.s→i≠k.h→i≠k.q→i≠k.sb→i≠k.lg→σ' i=σ i
theorem Runs.refl (k:Ids) (σ:Nat→AObj) (nx:Nat):Runs k σ nx k σ nx:=⟨Nat.le_refl _,rfl,rfl,.inl rfl,.inl rfl,.inl rfl,fun _ _ _ _ _ _ _=>rfl⟩
theorem Runs.trans {k k1 k2:Ids} {σ σ1 σ2:Nat→AObj} {nx nx1 nx2:Nat} (h:Runs k σ nx k1 σ1 nx1) (g:Runs k1 σ1 nx1 k2 σ2 nx2):Runs k σ nx k2 σ2 nx2:=by
 have:=h.le
 have:=h.q
 have:=h.sb
 have:=h.lg
 have:=g.q
 have:=g.sb
 have:=g.lg
 have h1:=h.s
 have h2:=h.h
 refine ⟨Nat.le_trans h.le g.le,g.s.trans h.s,g.h.trans h.h,by omega,by omega,by omega,fun i hi a b c d e=>?_⟩
 rw [g.keep i (by omega) (by omega) (by omega) (by omega) (by omega) (by omega),h.keep i hi a b c d e]
def Only (b:Nat) (σ:Nat→AObj) (nx:Nat) (σ':Nat→AObj) (nx':Nat):Prop:=nx≤nx'∧∀i,i<nx→i≠b→σ' i=σ i
theorem Only.runs {k:Ids} {σ σ':Nat→AObj} {nx nx':Nat} (h:Only k.s σ nx σ' nx'):Runs k σ nx k σ' nx':=⟨h.1,rfl,rfl,.inl rfl,.inl rfl,.inl rfl,fun i a b _ _ _ _=>h.2 i a b⟩
structure SOk (x:Inst) (o:Opt) (k:Ids) (s:SS) (σ:Nat→AObj) (nx:Nat):Prop where
 b:SBox x o 0 0 k s σ nx
 q:∃l,σ k.h= .box [.ref k.q,.i o.order]∧σ k.q= .arr 4 (itemsT o.order l)∧l.Perm s.q∧HeapOK o.order l
theorem SOk.only {x:Inst} {o:Opt} {k:Ids} {s t:SS} {σ σ':Nat→AObj} {nx nx':Nat} (h:SOk x o k s σ nx) (hb:SBox x o 0 0 k t σ' nx') (hq:t.q=s.q) (ho:Only k.s σ nx σ' nx'):SOk x o k t σ' nx':=by
 obtain ⟨l,h1,h2,h3,h4⟩:=h.q
 have:=h.b.lt
 have:=h.b.sh
 have:=h.b.qs
 exact ⟨hb,l,by rw [ho.2 _ (by omega) (by omega)];exact h1,by rw [ho.2 _ (by omega) (by omega)];exact h2,by rw [hq];exact h3,h4⟩
theorem SOk.stay {x:Inst} {o:Opt} {k:Ids} {s:SS} {σ σ':Nat→AObj} {nx nx':Nat} (h:SOk x o k s σ nx) (h1:nx≤nx') (h2:∀i,i<nx→σ' i=σ i):SOk x o k s σ' nx'∧Runs k σ nx k σ' nx':=by
 obtain ⟨⟨b1,b2,b3,b4,b5,b6,b7⟩,l,q1,q2,q3,q4⟩:=h
 refine ⟨⟨⟨?_,?_,?_,b4,b5,b6,by omega⟩,l,?_,?_,q3,q4⟩,h1,rfl,rfl,.inl rfl,.inl rfl,.inl rfl,fun i hi _ _ _ _ _=>h2 i hi⟩
 all_goals rw [h2 _ (by omega)];assumption
theorem offer_spec (x:Inst) (o:Opt) (st low:Int) (k:Ids) (s:SS) (n:Node) (is:Bool) (hp:n.path.length<2^31) {σ:Nat→AObj} {nx:Nat} (hb:SBox x o st low k s σ nx):
  CallQ P 129 [.ptr k.s 0,n.a,.b is] σ nx fun r σ' nx'=>r= .tup []∧SBox x o st low k (s.offer (n,is)) σ' nx'∧Only k.s σ nx σ' nx':=by
 refine spec_of Tryz.func129 rfl rfl (by simp [Tryz.f129]) fun B hB hnx hσB=>?_
 simp only [Tryz.f129] at hB ⊢
 obtain ⟨b1,b2,b3,b4,b5,b6,b7⟩:=hb
 rw [SS.cs] at b1
 have hne:¬k.s=nx:=by omega
 have hne':¬nx=k.s:=by omega
 have hsp:=split_pure n.path hp
 have fin:∀(τ:Nat→AObj) (nx':Nat) (t:SS),nx≤nx'→τ k.s= .box (t.cs x o st low k)→t.subs=s.subs→t.log=s.log→(∀i,i<nx→i≠k.s→τ i=σ i)→SBox x o st low k t τ nx'∧Only k.s σ nx τ nx':=fun τ nx' t h1 h2 h3 h4 h5=>by
  have e1:k.sb≠k.s:=fun e=>by rw [e,b1] at b2;cases b2
  have e2:k.lg≠k.s:=fun e=>by rw [e,b1] at b3;cases b3
  exact ⟨⟨h2,by rw [h3,h5 _ (by omega) e1];exact b2,by rw [h4,h5 _ (by omega) e2];exact b3,b4,b5,b6,by omega⟩,h1,h5⟩
 cases is with
 |false=>
  have e0:s.offer (n,false)=s:=by simp [SS.offer]
  rw [e0]
  refine K_run hB 100 ?_
  simp [go_sem,Node.a,Node.cs,b1,hne]
  refine K_drawn [] rfl (by rw [hB];kernel_rfl) ?_
  refine K_run hB 100 ?_
  simp [go_sem,b1,hne]
  exact fin _ _ _ (by omega) (by simp [oput,hne,b1,SS.cs]) rfl rfl fun i h1 h2=>by simp [oput,show ¬i=nx by omega]
 |true=>
  refine K_run hB 100 ?_
  simp [go_sem,Node.a,Node.cs,b1,hne]
  refine K_drawn [] rfl (by rw [hB];kernel_rfl) ?_
  by_cases c:n.cost<s.up
  ·have e0:s.offer (n,true)={s with up:=n.cost,plan:=(splitR n.path).1}:=by rw [SS.offer,if_pos ⟨rfl,c⟩]
   rw [e0]
   refine K_run hB 100 ?_
   simp [go_sem,b1,hne,hne',c]
   refine K_call rfl rfl rfl (args:=[.t (.sl (ints n.path))]) (f:=179) (by simp [go_sem]) (by simp [go_sem,hB]) ((hsp).spec _ _) ?_
   refine K_run hB 100 ?_
   simp [go_sem,b1,hne,hne',c]
   exact fin _ _ {s with up:=n.cost,plan:=(splitR n.path).1} (by omega) (by simp [oput,hne,SS.cs,planT]) rfl rfl fun i h1 h2=>by simp [oput,show ¬i=nx by omega,h2]
  ·have e0:s.offer (n,true)=s:=by rw [SS.offer,if_neg (fun h=>c h.2)]
   rw [e0]
   refine K_run hB 100 ?_
   simp [go_sem,b1,hne,c]
   exact fin _ _ _ (by omega) (by simp [oput,hne,b1,SS.cs]) rfl rfl fun i h1 h2=>by simp [oput,show ¬i=nx by omega]
theorem push_spec (x:Inst) (o:Opt) (k:Ids) (s:SS) (n:Node) (low:Int) (hx:x.stops.length<2^31) (ho:n.s.ok) (hp:n.path.length<2^31) (hs1:s.subs.length<2^30) (hs2:s.q.length<2^30) {σ:Nat→AObj} {nx:Nat} (hb:SOk x o k s σ nx):
  CallQ P 73 [.ptr k.s 0,n.a,.i low] σ nx fun r σ' nx'=>r= .tup []∧∃k',SOk x o k' (x.push low s n) σ' nx'∧Runs k σ nx k' σ' nx':=by
 refine spec_of Tryz.func73 rfl rfl (by simp [Tryz.f73]) fun B hB hnx hσB=>?_
 simp only [Tryz.f73] at hB ⊢
 have hb0:=hb
 obtain ⟨⟨b1,b2,b3,b4,b5,b6,b7⟩,l,q1,q2,q3,q4⟩:=hb
 rw [SS.cs] at b1
 have hne:¬k.s=nx:=by omega
 have hne':¬nx=k.s:=by omega
 have hne2:¬k.sb=nx:=by omega
 have hof:=of_pure x n hx ho
 have hll:=q3.length_eq
 have hil:(ints n.path).length=n.path.length:=List.length_map _
 have hnl:(nodesT s.subs).length=s.subs.length:=List.length_map _
 obtain ⟨b,hbv⟩:∃b,b=max low (x.of n):=⟨_,rfl⟩
 have hsk:=push_or x low s n
 rw [←hbv] at hsk
 have hpu:=fun (τ:Nat→AObj) (m:Nat)=>hput_spec o.order l ⟨b,n.path.length,s.subs.length⟩ (by omega) (σ:=τ) (nx:=m) (h:=k.h) (q:=k.q)
 have hne3:¬k.h=nx:=by omega
 have hne4:¬k.q=nx:=by omega
 refine K_run hB 100 ?_
 simp [go_sem,Node.a,Node.cs,b1,hne]
 refine K_drawn [] rfl (by rw [hB];kernel_rfl) ?_
 refine K_run hB 100 ?_
 simp [go_sem,Inst.a,b1,hne]
 refine K_dCallP rfl rfl rfl (args:=[x.a,n.a]) (f:=35) (by simp [go_sem,Inst.a,Node.a,Node.cs]) (hof) ?_
 by_cases c:s.up≤b
 ·have e0:x.push low s n=s:=by rcases hsk with ⟨h1,_⟩ | ⟨h1,_⟩<;>first | exact h1 | omega
  rw [e0]
  refine K_run hB 100 ?_
  simp [go_sem,b1,hne,←hbv,c]
  exact ⟨k,hb0.stay (by omega) fun i hi=>by simp [oput,show ¬i=nx by omega]⟩
 ·have e0:x.push low s n={s with q:=s.q++[⟨b,n.path.length,s.subs.length⟩],subs:=s.subs++[n]}:=by rcases hsk with ⟨h1,h2⟩ | ⟨_,h1⟩<;>first | exact h1 | omega
  rw [e0]
  refine K_run hB 100 ?_
  simp [go_sem,b1,hne,←hbv,c]
  refine K_drawnZ [] 14 _ rfl (by rw [hB];kernel_rfl) (by kernel_rfl) rfl ?_
  refine K_run hB 100 ?_
  simp [go_sem,b1,b2,hne,hne2,hil,hnl]
  refine K_callQ rfl rfl rfl (args:=[.ptr k.h 0,.agg [.i b,.i n.path.length,.i s.subs.length]]) (f:=126) (by simp [go_sem]) (by simp [go_sem,hB]) (hpu _ (nx+1) (by omega) (by simp [oput,hne3,q1]) (by omega) (by simp [oput,hne4,q2])) fun r σ' nx' hq=>?_
  obtain ⟨rfl,g1,q',g2,g3,g4,g5,g6⟩:=hq
  have f0:=g6 nx (by omega) (by omega) (by omega)
  have f1:=g6 k.s (by omega) (by omega) (by omega)
  have f2:=g6 k.sb (by omega) (by omega) (by omega)
  simp only [oput,hne,hne2,if_true,if_false,b1,b2] at f0 f1 f2
  have hcap:s.subs.length+1≤mostLen:=by show _≤4294967296;omega
  have happ:nodesT s.subs++[n.t]=nodesT (s.subs++[n]):=by simp [nodesT]
  have hnl2:=nodesT_len s.subs
  have hne5:¬k.s=k.sb:=fun e=>by rw [e,b2] at b1;cases b1
  have hne6:¬k.s=nx':=by omega
  have hne7:¬nx'=k.s:=by omega
  refine K_run hB 100 ?_
  simp [go_sem]
  refine K_drawnF [7,10] [0] rfl (by rw [hB];kernel_rfl) (by kernel_rfl) fun ht hf'=>?_
  refine K_run hB 22 ?_
  simp [go_sem,ht,hf',f0,f1,f2,hne5,hne6,hne7,hcap,hnl,hnl2,Node.t]
  have hls:k.lg≠k.sb:=fun e=>by rw [e,b2] at b3;cases b3
  have hls2:k.lg≠k.s:=fun e=>by rw [e,b1] at b3;cases b3
  have hg:∀(y z:AObj) (i:Nat),i<nx'→i≠k.s→i≠k.sb→oput (oput (oput σ' k.sb .dead) nx' y) k.s z i=σ' i:=fun y z i h1 h2 h3=>by simp [oput,h2,h3,show ¬i=nx' by omega]
  have hk:∀i,i<nx→i≠k.h→i≠k.q→σ' i=σ i:=fun i h1 h2 h3=>by rw [g6 i (by omega) h2 h3];simp [oput,show ¬i=nx by omega]
  refine ⟨by omega,{k with q:=q',sb:=nx'},⟨⟨?_,?_,?_,b4,?_,?_,?_⟩,putH o.order l ⟨b,n.path.length,s.subs.length⟩,?_,?_,(putH_perm _ _ _).trans (q3.append_right _),putH_ok q4 _⟩,?_⟩
  ·simp [oput,SS.cs]
  ·simp [oput,hne7,←happ,Node.t]
  ·exact (hg _ _ _ (by omega) hls2 hls).trans ((hk _ (by omega) (by omega) (by omega)).trans b3)
  ·simp only;omega
  ·simp only;omega
  ·simp only;omega
  ·exact (hg _ _ k.h (by omega) (by omega) (by omega)).trans g4
  ·exact (hg _ _ q' (by omega) (by omega) (by omega)).trans g5
  ·exact ⟨by omega,rfl,rfl,.inr (by simp only;omega),.inr (by simp only;omega),.inl rfl,fun i h1 h2 h3 h4 h5 _=>(hg _ _ i (by omega) h2 h5).trans (hk i h1 h3 h4)⟩
end Go.Proofs.YtackfabapangdaaGreat

set_option maxRecDepth 4000
set_option maxHeartbeats 2000000
namespace Go.Proofs.YtackfabapangdaaGreat
open Go Go.Proofs.YtackfabapangdaaGreat.R
theorem logT_len (l:List (Node×Diag)):∀y∈logT l,y.length=14:=by
 intro y hy
 simp only [logT,List.mem_map] at hy
 obtain ⟨n,_,rfl⟩:=hy
 rfl
theorem lysT_get (l:List (List Node)) {k:Nat} (h:k<l.length) (h':k<(lysT l).length):(lysT l)[k]'h'=[.sl (nodesT l[k])]:=by simp [lysT]
theorem sizes_take (ls:List (List Node)) {k:Nat} (h:k<ls.length):sizes (ls.take (k+1))=sizes (ls.take k)+ls[k].length:=by
 rw [sizes,sizes,List.take_succ_eq_append_getElem h,List.map_append,List.sum_append]
 simp
theorem sizes_mono (ls:List (List Node)) (k:Nat):sizes (ls.take k)≤sizes ls:=by
 conv=>rhs;rw [←List.take_append_drop k ls]
 rw [sizes,sizes,List.map_append,List.sum_append]
 omega
theorem diagram_spec (x:Inst) (o:Opt) (k:Ids) (s:SS) (n:Node) (hx:x.stops.length<2^31) (hw:o.width≤3000) (ho:n.s.ok) (hp:n.path.length<2^29) (hl:s.log.length<2^30) (hd:(x.build n o.width s.up).layers.length<2^30) (hst:0≤s.steps∧s.steps+sizes (x.build n o.width s.up).layers<2^62) {σ:Nat→AObj} {nx:Nat} (hb:SOk x o k s σ nx):
  CallQ P 131 [.ptr k.s 0,n.a] σ nx fun r σ' nx'=>r=(x.build n o.width s.up).a∧∃k',SOk x o k' (s.dia n (x.build n o.width s.up)) σ' nx'∧Runs k σ nx k' σ' nx':=by
 refine spec_of Tryz.func131 rfl rfl (by simp [Tryz.f131]) fun B hB hnx hσB=>?_
 simp only [Tryz.f131] at hB ⊢
 have hb0:=hb
 obtain ⟨⟨b1,b2,b3,b4,b5,b6,b7⟩,l,q1,q2,q3,q4⟩:=hb
 rw [SS.cs] at b1
 have hbd:=build_pure x n o.width s.up hx hw ho hp
 generalize x.build n o.width s.up=D at *
 have hlen:(lysT D.layers).length=D.layers.length:=List.length_map _
 have ne1:¬k.s=nx:=by omega
 have ne2:¬k.s=nx+1:=by omega
 have ne3:¬k.s=nx+1+1:=by omega
 refine K_run hB 100 ?_
 simp [go_sem,Node.a,Node.cs,b1,ne1,ne2]
 refine K_drawnF [16,17] [0,1,2,3,4,5,6,7,8,9,10,11,12,13,14,15] rfl (by rw [hB];kernel_rfl) (by kernel_rfl) fun ht hf'=>?_
 refine K_run hB 100 ?_
 simp [go_sem,ht,hf',Inst.a,b1,ne1,ne2]
 refine K_dCallP rfl rfl rfl (args:=[x.a,n.a,.i o.width,.i s.up]) (f:=182) (by simp [go_sem,Inst.a,Node.a,Node.cs]) (hbd) ?_
 refine K_run hB 100 ?_
 simp [go_sem,ht,hf',Diag.a,Diag.cs,b1,ne1,ne2,ne3,hlen]
 refine K_loopP (α:=Nat×(Nat→AObj)) (fun (j,τ)=>j≤D.layers.length∧τ k.s= .box (SS.cs x o 0 0 k {s with steps:=s.steps+sizes (D.layers.take j)})∧τ nx= .box n.cs∧τ (nx+1)= .box [.fsl [],.i 0,.b false,.i 0]∧τ (nx+1+1)= .box D.cs∧∀i,i<nx→i≠k.s→τ i=σ i)
  (fun (j,τ)=>⟨sl [(0,.ptr k.s 0),(3,.ptr nx 0),(4,.ptr (nx+1) 0),(5,.ptr (nx+1+1) 0),(25,.t (.sl (lysT D.layers))),(26,.i D.layers.length),(27,.i j)],τ,nx+1+1+1⟩) (fun a=>D.layers.length-a.1) (0,_)
  ⟨Nat.zero_le _,?_,?_,?_,?_,?_⟩ (Imp.slots (by simp [go_sem]) rfl rfl) ?_
 ·simp [oput,b1,ne1,ne2,ne3,SS.cs,sizes]
 ·simp [go_sem,oput,Node.cs]
 ·simp [go_sem,oput]
 ·simp [go_sem,oput,Diag.cs]
 ·exact fun i h1 h2=>by simp [oput,show ¬i=nx by omega,show ¬i=nx+1 by omega,show ¬i=nx+1+1 by omega]
 rintro ⟨j,τ⟩ ⟨g1,g2,g3,g4,g5,g6⟩
 rw [SS.cs] at g2
 simp only at g2
 refine K_run hB 60 ?_
 simp [go_sem]
 refine fork_dec (fun hj=>?_) (fun hj=>?_)
 ·have hgj:∀h,(lysT D.layers)[j]'h=[.sl (nodesT D.layers[j])]:=fun h=>lysT_get D.layers hj h
  have hsz:=sizes_take D.layers hj
  have hmo:=sizes_mono D.layers (j+1)
  have hnl:(nodesT D.layers[j]).length=D.layers[j].length:=List.length_map _
  have wj:IntKind.i64.wrap ((j:Int)+1)=((j+1:Nat):Int):=by rw [w64 _ (by omega)];omega
  have ws:IntKind.i64.wrap (s.steps+(sizes (D.layers.take j):Int)+(D.layers[j].length:Int))=s.steps+(sizes (D.layers.take (j+1)):Int):=by rw [w64 _ (by omega)];omega
  generalize D.layers[j]=L at *
  generalize sizes (D.layers.take j)=A at *
  generalize hA':sizes (D.layers.take (j+1))=A' at *
  simp [go_sem,hlen,hj,hgj,hnl,g2,wj,ws]
  refine Next.mk (j+1,_) ⟨by omega,?_,?_,?_,?_,?_⟩ (Imp.slots (by simp [go_sem]) rfl rfl) (by simp only;omega)
  ·simp [oput,SS.cs,hA']
  ·simp [oput,ne1,g3,show ¬nx=k.s by omega]
  ·simp [oput,g4,show ¬nx+1=k.s by omega]
  ·simp [oput,g5,show ¬nx+1+1=k.s by omega]
  ·exact fun i h1 h2=>by simp [oput,h2,g6 i h1 h2]
 ·have:j=D.layers.length:=by omega
  subst this
  rw [List.take_length] at g2
  obtain ⟨A,hA⟩:∃A,A=sizes D.layers:=⟨_,rfl⟩
  rw [←hA] at g2
  have hcap:s.log.length+1≤mostLen:=by show _≤4294967296;omega
  have hll:(logT s.log).length=s.log.length:=List.length_map _
  have hl14:=logT_len s.log
  have f1:=(g6 k.lg (by omega) (fun e=>by rw [e,b1] at b3;cases b3)).trans b3
  have ne4:¬k.s=k.lg:=fun e=>by rw [←e,b1] at b3;cases b3
  have ne5:¬k.s=nx+1+1+1:=by omega
  have ne6:¬nx+1+1+1=k.s:=by omega
  have ne7:¬k.lg=nx:=by omega
  have ne8:¬nx=k.lg:=by omega
  have ne9:¬nx+1=k.lg:=by omega
  have nea:¬nx+1+1=k.lg:=by omega
  have neb:¬nx=k.s:=by omega
  have nec:¬nx+1=k.s:=by omega
  have ned:¬nx+1+1=k.s:=by omega
  have e1:=g3
  rw [Node.cs] at e1
  have e2:=g5
  rw [Diag.cs] at e2
  simp [go_sem]
  refine K_drawnF [10,14] [0] rfl (by rw [hB];kernel_rfl) (by kernel_rfl) fun ht hf'=>?_
  refine K_run hB 22 ?_
  simp [go_sem,ht,hf',g2,f1,e1,e2,g4,ne1,ne2,ne3,ne4,ne5,ne6,ne7,ne8,ne9,nea,neb,nec,ned,hcap,hll,hl14]
  have hls:k.sb≠k.lg:=fun e=>by rw [e,b3] at b2;cases b2
  have hls2:k.sb≠k.s:=fun e=>by rw [e,b1] at b2;cases b2
  have hg:∀(y z u:AObj) (i:Nat),i<nx→i≠k.s→i≠k.lg→oput (oput (oput (oput τ k.lg .dead) (nx+1+1+1) y) k.s z) (nx+1) u i=σ i:=fun y z u i h1 h2 h3=>by simp [oput,h2,h3,show ¬i=nx+1 by omega,show ¬i=nx+1+1+1 by omega,g6 i h1 h2]
  refine ⟨by omega,{k with lg:=nx+1+1+1},⟨⟨?_,?_,?_,b4,?_,?_,?_⟩,l,?_,?_,q3,q4⟩,?_⟩
  ·simp [oput,SS.cs,SS.dia,hA,ne2]
  ·exact (hg _ _ _ k.sb (by omega) hls2 hls).trans b2
  ·simp [oput,SS.dia,logT,Done.t,Node.t,show ¬nx+1+1=nx by omega,ne6]
  ·simp only;omega
  ·simp only;omega
  ·simp only;omega
  ·exact (hg _ _ _ k.h (by omega) (by omega) (by omega)).trans q1
  ·exact (hg _ _ _ k.q (by omega) (by omega) (by omega)).trans q2
  ·exact ⟨by omega,rfl,rfl,.inl rfl,.inl rfl,.inr (by simp only;omega),fun i h1 h2 h3 h4 h5 h6=>hg _ _ _ i h1 h2 h6⟩
end Go.Proofs.YtackfabapangdaaGreat

set_option maxRecDepth 4000
set_option maxHeartbeats 2000000
namespace Go.Proofs.YtackfabapangdaaGreat
open Go Go.Proofs.YtackfabapangdaaGreat.R
structure LFine (ls:List (List Node)):Prop where
 len:ls.length<2^30
 few:∀l∈ls,l.length<2^20
 ok:∀l∈ls,∀n∈l,n.s.ok∧n.path.length<2^29
theorem offers_take (x:Inst) (s:SS) (ls:List (List Node)) {j:Nat} (h:j<ls.length):x.offers s (ls.take (j+1))=(x.offers s (ls.take j)).offer (x.bests ls[j]):=by
 rw [Inst.offers,List.take_succ_eq_append_getElem h,List.foldl_append,List.foldl_cons,List.foldl_nil]
 rfl
theorem pushes_take (x:Inst) (low:Int) (s:SS) (l:List Node) {j:Nat} (h:j<l.length):(l.take (j+1)).foldl (x.push low) s=x.push low ((l.take j).foldl (x.push low) s) l[j]:=by
 rw [List.take_succ_eq_append_getElem h,List.foldl_append,List.foldl_cons,List.foldl_nil]
theorem pushes_len (x:Inst) (low:Int):∀(l:List Node) (s:SS),(l.foldl (x.push low) s).subs.length≤s.subs.length+l.length∧(l.foldl (x.push low) s).q.length≤s.q.length+l.length
 |[],s=>⟨Nat.le_refl _,Nat.le_refl _⟩
 |n :: l,s=>by
  obtain ⟨h1,h2⟩:=pushes_len x low l (x.push low s n)
  have:(x.push low s n).subs.length≤s.subs.length+1∧(x.push low s n).q.length≤s.q.length+1:=by
   rcases push_or x low s n with ⟨e,_⟩ | ⟨_,e⟩<;>rw [e]<;>simp
  rw [List.foldl_cons,List.length_cons]
  omega
theorem branch_spec (x:Inst) (o:Opt) (k:Ids) (s:SS) (D:Diag) (hx:x.stops.length<2^31) (hd:LFine D.layers) (hs0:1≤D.sure) (hs1:D.sure≤D.layers.length) (hn1:s.subs.length<2^29) (hn2:s.q.length<2^29) {σ:Nat→AObj} {nx:Nat} (hb:SOk x o k s σ nx):
  CallQ P 133 [.ptr k.s 0,D.a] σ nx fun r σ' nx'=>r= .tup []∧∃k',SOk x o k' (x.branch D s) σ' nx'∧Runs k σ nx k' σ' nx':=by
 generalize hR:x.branch D s=R
 refine spec_of Tryz.func133 rfl rfl (by simp [Tryz.f133]) fun B hB hnx hσB=>?_
 simp only [Tryz.f133] at hB ⊢
 have hlt:=hb.b.lt
 have hlen:(lysT D.layers).length=D.layers.length:=List.length_map _
 obtain ⟨last,hlast⟩:∃n,n=D.sure-1:=⟨_,rfl⟩
 have w0:IntKind.i64.wrap ((D.sure:Int)-1)=(last:Int):=by have:=hd.len;rw [w64 _ (by omega)];omega
 have hll:last<D.layers.length:=by omega
 have hrow:∀y∈lysT D.layers,y.length=1:=fun y hy=>by
  simp only [lysT,List.mem_map] at hy
  obtain ⟨_,_,rfl⟩:=hy
  rfl
 have htk:((lysT D.layers).take last).length=last:=by rw [List.length_take];omega
 have hle:last≤D.layers.length:=by omega
 refine K_run hB 100 ?_
 simp [go_sem,Diag.a,Diag.cs,w0,hlen,if_pos hrow,htk,hle]
 refine K_loopP (α:=Nat×(Nat→AObj)×Nat) (fun (j,τ,m)=>j≤last∧SOk x o k (x.offers s (D.layers.take j)) τ m∧nx<m∧τ nx= .box D.cs∧Runs k σ nx k τ m)
  (fun (j,τ,m)=>⟨sl [(0,.ptr k.s 0),(3,.ptr nx 0),(4,.i last),(18,.t (.sl ((lysT D.layers).take last))),(19,.i last),(20,.i j)],τ,m⟩) (fun a=>last-a.1) (0,_,_)
  ⟨Nat.zero_le _,?_,Nat.lt_succ_self _,?_,?_⟩ (Imp.slots (by simp [go_sem]) rfl rfl) ?_
 ·exact (hb.stay (by omega) fun i hi=>by simp [oput,show ¬i=nx by omega]).1
 ·simp [go_sem,oput,Diag.cs]
 ·exact (hb.stay (by omega) fun i hi=>by simp [oput,show ¬i=nx by omega]).2
 rintro ⟨j,τ,m⟩ ⟨g1,g2,g3,g4,g5⟩
 refine K_run hB 60 ?_
 simp [go_sem]
 refine fork_dec (fun hj=>?_) (fun hj=>?_)
 ·have hgj:∀h,((lysT D.layers).take last)[j]'h=[.sl (nodesT D.layers[j])]:=fun h=>by rw [List.getElem_take];exact lysT_get D.layers (by omega) _
  have wj:IntKind.i64.wrap ((j:Int)+1)=((j+1:Nat):Int):=by have:=hd.len;rw [w64 _ (by omega)];omega
  have hof:=offers_take x s D.layers (show j<D.layers.length by omega)
  have hmem:D.layers[j]∈D.layers:=List.getElem_mem _
  have hbp:=bests_path (x:=x) (k:=2^29) fun n hn=>Nat.le_of_lt (hd.ok _ hmem n hn).2
  have hex:=expand_pure x D.layers[j] (x.offers s (D.layers.take j)).up hx (hd.few _ hmem) (fun n hn=>⟨(hd.ok _ hmem n hn).1,by have:=(hd.ok _ hmem n hn).2;omega⟩) (fun n hn=>by have:=(hd.ok _ hmem n hn).2;omega)
  generalize D.layers[j]=L at *
  generalize hS:x.offers s (D.layers.take j)=S at *
  generalize hS2:x.offers s (D.layers.take (j+1))=S2 at *
  have b1:=g2.b.box
  rw [SS.cs] at b1
  have hlt2:=g2.b.lt
  have ne1:¬k.s=m:=by omega
  have ne2:¬m=k.s:=by omega
  obtain ⟨bn,bi,hbk⟩:∃bn bi,x.bests L=(bn,bi):=⟨_,_,rfl⟩
  rw [hbk] at hof hbp hex
  simp only at hbp
  simp [go_sem,htk,hj,hgj]
  refine K_drawnF [15,17] [0,1,2,3,4,5,6,7,8,9,10,11,12,13,14] rfl (by rw [hB];kernel_rfl) (by kernel_rfl) fun ht hf'=>?_
  refine K_run hB 100 ?_
  simp [go_sem,ht,hf',b1,ne1,ne2,Inst.a]
  refine K_dCallP rfl rfl rfl (args:=[x.a,.t (.sl (nodesT L)),.i S.up]) (f:=180) (by simp [go_sem,Inst.a]) (hex) ?_
  refine K_run hB 100 ?_
  simp [go_sem,ht,hf',b1,ne1,ne2,expRes,Node.a,Node.cs]
  have hb':=fun τ' (h:∀i,i<m→τ' i=τ i)=>g2.stay (σ':=τ') (nx':=m+1) (by omega) h
  refine K_callQ rfl rfl rfl (args:=[.ptr k.s 0,bn.a,.b bi]) (f:=129) (by simp [go_sem,Node.a,Node.cs]) (by simp [go_sem,hB]) (offer_spec x o 0 0 k S bn bi (Nat.lt_of_le_of_lt hbp (by decide)) (nx:=m+1) (hb' _ fun i hi=>by simp [oput,show ¬i=m by omega]).1.b) fun r σ' nx' hq=>?_
  obtain ⟨rfl,c1,c2⟩:=hq
  have hτ:∀i,i<m→i≠k.s→σ' i=τ i:=fun i h1 h2=>by rw [c2.2 i (by omega) h2];simp [oput,show ¬i=m by omega]
  have c4:=c2.1
  refine K_run hB 100 ?_
  simp [go_sem,wj]
  refine Next.mk (j+1,σ',nx') ⟨by omega,?_,?_,?_,?_⟩ (Imp.slots (by simp [go_sem]) rfl rfl) (by simp only;omega)
  ·show SOk x o k (x.offers s (D.layers.take (j+1))) σ' nx'
   rw [hS2,hof]
   exact g2.only c1 (offer_up S (bn,bi)).2.2.1 ⟨by omega,hτ⟩
  ·simp only;omega
  ·exact (hτ _ g3 (by omega)).trans g4
  ·show Runs k σ nx k σ' nx'
   exact g5.trans (Only.runs ⟨by omega,hτ⟩)
 ·have:j=last:=by omega
  subst this
  have e4:=g4
  rw [Diag.cs] at e4
  generalize hS:x.offers s (D.layers.take j)=S at *
  have hgl:∀h,(lysT D.layers)[j]'h=[.sl (nodesT D.layers[j])]:=fun h=>lysT_get D.layers hll h
  have hR2:(D.layers[j]).foldl (x.push D.low) S=R:=by
   rw [←hR,Inst.branch,←hlast,hS,List.getD_eq_getElem?_getD,List.getElem?_eq_getElem hll]
   rfl
  have hmem:D.layers[j]∈D.layers:=List.getElem_mem _
  have hL1:=hd.few _ hmem
  have hL2:=hd.ok _ hmem
  generalize D.layers[j]=L at *
  have hnl:(nodesT L).length=L.length:=List.length_map _
  simp [go_sem,e4,hlen,hll,hgl,hnl]
  refine K_loopP (α:=Nat×Ids×(Nat→AObj)×Nat) (fun (i,k',τ1,m1)=>i≤L.length∧SOk x o k' ((L.take i).foldl (x.push D.low) S) τ1 m1∧nx<m1∧τ1 nx= .box D.cs∧Runs k τ m k' τ1 m1)
   (fun (i,k',τ,m)=>⟨sl [(0,.ptr k.s 0),(3,.ptr nx 0),(48,.t (.sl (nodesT L))),(49,.i L.length),(50,.i i)],τ,m⟩) (fun a=>L.length-a.1) (0,k,τ,m)
   ⟨Nat.zero_le _,g2,g3,g4,Runs.refl _ _ _⟩ (Imp.slots (by simp [go_sem]) rfl rfl) ?_
  rintro ⟨i,k',τ',m'⟩ ⟨i1,i2,i3,i4,i5⟩
  refine K_run hB 60 ?_
  simp [go_sem]
  refine fork_dec (fun hi=>?_) (fun hi=>?_)
  ·have hgi:∀h,(nodesT L)[i]'h=L[i].t:=fun h=>nodesT_get L hi
   have wi:IntKind.i64.wrap ((i:Int)+1)=((i+1:Nat):Int):=by rw [w64 _ (by omega)];omega
   have hpt:=pushes_take x D.low S L hi
   obtain ⟨hp1,hp2⟩:=pushes_len x D.low (L.take i) S
   obtain ⟨ho1,ho2⟩:=hL2 L[i] (List.getElem_mem _)
   have htl:(L.take i).length≤2^20:=by rw [List.length_take];omega
   generalize L[i]=n at *
   generalize (L.take i).foldl (x.push D.low) S=S1 at *
   generalize hS2:(L.take (i+1)).foldl (x.push D.low) S=S2 at *
   rw [Diag.cs] at i4
   have hss:S.subs=s.subs∧S.q=s.q:=by
    have:=offers_up x (D.layers.take j) s
    rw [hS] at this
    exact ⟨this.2.1,this.2.2.1⟩
   rw [hss.1] at hp1
   rw [hss.2] at hp2
   have ne1:¬nx=m':=by omega
   have es:k'.s=k.s:=i5.s
   have hb':=fun τ1 (h:∀i,i<m'→τ1 i=τ' i)=>i2.stay (σ':=τ1) (nx':=m'+1) (by omega) h
   simp [go_sem,hnl,hi,hgi,Node.t,i4,ne1]
   refine K_callQ rfl rfl rfl (args:=[.ptr k'.s 0,n.a,.i D.low]) (f:=73) (by simp [go_sem,Node.a,Node.cs,es]) (by simp [go_sem,hB]) (push_spec x o k' S1 n D.low hx ho1 (by omega) (by omega) (by omega) (nx:=m'+1) (hb' _ fun i hi=>by simp [oput,show ¬i=m' by omega]).1) fun r σ' nx' hq=>?_
   obtain ⟨rfl,k2,c1,c2⟩:=hq
   have hr:=(hb' _ fun i hi=>by simp only [oput];rw [if_neg (show ¬i=m' by omega),if_neg (show ¬i=m' by omega)]).2.trans c2
   have h0:=i2.b.lt
   have h1:=i5.q
   have h2:=i5.sb
   have h3:=i5.lg
   have h4:=i5.h
   have h5:=hb.b.lt
   have hkn:σ' nx=τ' nx:=by rw [hr.keep nx i3 (by omega) (by omega) (by omega) (by omega) (by omega)]
   have hle:=hr.le
   refine K_run hB 100 ?_
   simp [go_sem,wi]
   refine Next.mk (i+1,k2,σ',nx') ⟨by omega,?_,?_,?_,?_⟩ (Imp.slots (by simp [go_sem]) rfl rfl) (by simp only;omega)
   ·show SOk x o k2 ((L.take (i+1)).foldl (x.push D.low) S) σ' nx'
    rw [hS2,hpt]
    exact c1
   ·simp only;omega
   ·exact hkn.trans (i4.trans (by rw [Diag.cs]))
   ·exact i5.trans hr
  ·have:i=L.length:=by omega
   subst this
   rw [List.take_length,hR2] at i2
   simp [go_sem]
   exact ⟨by omega,k',i2,g5.trans i5⟩
end Go.Proofs.YtackfabapangdaaGreat

set_option maxRecDepth 4000
set_option maxHeartbeats 4000000
namespace Go.Proofs.YtackfabapangdaaGreat
open Go Go.Proofs.YtackfabapangdaaGreat.R
structure LookPre (x:Inst) (w:Int) (n:Node):Prop where
 st:x.stops.length<2^31
 wi:w≤3000
 ok:n.s.ok
 path:n.path.length<2^28
 nar:∀up,0≤(x.narrow n w up).2.2∧(x.narrow n w up).2.2<2^40∧(x.narrow n w up).1.path.length<2^31
 lay:∀up,LFine (x.build n w up).layers∧sizes (x.build n w up).layers<2^40
 most:x.mostN w<2^20
 exa:∀up,0≤(x.exact n up (x.mostN w)).2.2.2∧(x.exact n up (x.mostN w)).2.2.2<2^40∧(x.exact n up (x.mostN w)).1.path.length<2^31
structure SPre (s:SS):Prop where
 steps:0≤s.steps∧s.steps<2^60
 subs:s.subs.length<2^29
 q:s.q.length<2^29
 log:s.log.length<2^29
theorem SOk.turn {x:Inst} {o:Opt} {k:Ids} {s:SS} {σ:Nat→AObj} {nx:Nat} (h:SOk x o k s σ nx) {t:SS} {τ:Nat→AObj} {nx':Nat} (h1:τ k.s= .box (t.cs x o 0 0 k)) (h2:t.subs=s.subs) (h3:t.q=s.q) (h4:t.log=s.log) (ho:Only k.s σ nx τ nx'):SOk x o k t τ nx':=by
 obtain ⟨b1,b2,b3,b4,b5,b6,b7⟩:=h.b
 rw [SS.cs] at b1
 have e1:k.sb≠k.s:=fun e=>by rw [e,b1] at b2;cases b2
 have e2:k.lg≠k.s:=fun e=>by rw [e,b1] at b3;cases b3
 have:=ho.1
 exact h.only ⟨h1,by rw [h2,ho.2 _ (by omega) e1];exact b2,by rw [h4,ho.2 _ (by omega) e2];exact b3,b4,b5,b6,by omega⟩ h3 ho
theorem slook_spec (x:Inst) (o:Opt) (k:Ids) (s:SS) (n:Node) (hp:LookPre x o.width n) (hs:SPre s) {σ:Nat→AObj} {nx:Nat} (hb:SOk x o k s σ nx):
  CallQ P 77 [.ptr k.s 0,n.a] σ nx fun r σ' nx'=>r= .tup []∧∃k',SOk x o k' (x.lookS o.width s n) σ' nx'∧Runs k σ nx k' σ' nx':=by
 generalize hR:x.lookS o.width s n=R
 refine spec_of Tryz.func77 rfl rfl (by simp [Tryz.f77]) fun B hB hnx hσB=>?_
 simp only [Tryz.f77] at hB ⊢
 have hlt:=hb.b.lt
 have b1:=hb.b.box
 rw [SS.cs] at b1
 have hn:=nbest_pure x n o.width s.up hp.st hp.wi hp.ok (by have:=hp.path;omega)
 obtain ⟨p1,p2,p3⟩:=hp.nar s.up
 have hst:=hs.steps
 rw [Inst.lookS,SS.nar] at hR
 rw [naRes] at hn
 generalize (x.narrow n o.width s.up).2.2=v at *
 generalize (x.narrow n o.width s.up).2.1=bi at *
 generalize (x.narrow n o.width s.up).1=bn at *
 have ne1:¬k.s=nx:=by omega
 have ne2:¬k.s=nx+1:=by omega
 have ne3:¬nx=k.s:=by omega
 have ne4:¬nx+1=k.s:=by omega
 have w1:IntKind.i64.wrap (s.steps+v)=s.steps+v:=w64 _ (by omega)
 refine K_run hB 100 ?_
 simp [go_sem,Node.a,Node.cs,b1,ne1]
 refine K_drawnF [20,21] [0,1,2,3,4,5,6,7,8,9,10,11,12,13,14,15,16,17,18,19] rfl (by rw [hB];kernel_rfl) (by kernel_rfl) fun ht hf'=>?_
 refine K_run hB 100 ?_
 simp [go_sem,ht,hf',Inst.a,b1,ne1]
 refine K_dCallP rfl rfl rfl (args:=[x.a,n.a,.i o.width,.i s.up]) (f:=130) (by simp [go_sem,Inst.a,Node.a,Node.cs]) (hn) ?_
 refine K_run hB 100 ?_
 simp [go_sem,ht,hf',Inst.a,b1,ne1,ne2,ne3,ne4,w1,Node.a,Node.cs]
 have hs1:=fun (τ:Nat→AObj) (h1:τ k.s= .box ((s.plus v).cs x o 0 0 k)) (h2:∀i,i<nx→i≠k.s→τ i=σ i)=>hb.turn (t:=s.plus v) (nx':=nx+1+1) h1 rfl rfl rfl ⟨by omega,h2⟩
 refine K_callQ rfl rfl rfl (args:=[.ptr k.s 0,bn.a,.b bi]) (f:=129) (by simp [go_sem,Node.a,Node.cs]) (by simp [go_sem,hB]) (offer_spec x o 0 0 k (s.plus v) bn bi p3 (nx:=nx+1+1) (hs1 _ (by simp [oput,SS.cs,SS.plus]) fun i h1 h2=>by simp [oput,h2,show ¬i=nx by omega,show ¬i=nx+1 by omega]).b) fun r σ2 nx2 hq=>?_
 obtain ⟨rfl,c1,c2⟩:=hq
 have c3:=(hs1 _ (by simp [oput,SS.cs,SS.plus]) fun i h1 h2=>by simp only [oput];rw [if_neg h2,if_neg (show ¬i=nx+1 by omega),if_neg (show ¬i=nx+1 by omega),if_neg (show ¬i=nx by omega)]).only c1 (offer_up (s.plus v) (bn,bi)).2.2.1 c2
 have hle2:=c2.1
 have n2:σ2 nx= .box n.cs:=by rw [c2.2 nx (by omega) ne3];simp [oput,ne3,Node.cs]
 have r2:Runs k σ nx k σ2 nx2:=Only.runs ⟨by omega,fun i h1 h2=>by rw [c2.2 i (by omega) h2];simp [oput,h2,show ¬i=nx by omega,show ¬i=nx+1 by omega]⟩
 have hpre:((s.plus v).offer (bn,bi)).subs=s.subs∧((s.plus v).offer (bn,bi)).q=s.q∧((s.plus v).offer (bn,bi)).log=s.log∧((s.plus v).offer (bn,bi)).steps=s.steps+v:=(offer_up (s.plus v) (bn,bi)).2
 generalize (s.plus v).offer (bn,bi)=t at *
 obtain ⟨y1,y2,y3,y4⟩:=hpre
 have:=hs.subs
 have:=hs.q
 have:=hs.log
 obtain ⟨l1,l2⟩:=hp.lay t.up
 have hdok:=build_ok x n o.width t.up
 have hds:=hdok.pos
 have hds2:=hdok.le
 rw [Node.cs] at n2
 refine K_run hB 100 ?_
 simp [go_sem,n2]
 refine K_callQ rfl rfl rfl (args:=[.ptr k.s 0,n.a]) (f:=131) (by simp [go_sem,Node.a,Node.cs]) (by simp [go_sem,hB]) (diagram_spec x o k t n hp.st hp.wi hp.ok (by have:=hp.path;omega) (by rw [y3];omega) l1.len (by omega) (σ:=σ2) (nx:=nx2) c3) fun r σ3 nx3 hq=>?_
 obtain ⟨rfl,k3,d1,d2⟩:=hq
 have hle3:=d2.le
 have n3:σ3 nx=σ2 nx:=d2.keep nx (by omega) (by omega) (by omega) (by omega) (by omega) (by omega)
 rw [n2] at n3
 rw [Inst.lookD] at hR
 generalize hD:x.build n o.width t.up=D at *
 have r3:=r2.trans d2
 have z1:=r3.s
 have z2:=d2.q
 have z3:=d2.sb
 have z4:=d2.lg
 have z5:=d2.h
 have hlt3:=d1.b.lt
 have b3:=d1.b.box
 rw [SS.cs,z1] at b3
 have hup:(t.dia n D).up=t.up:=rfl
 have hts:(t.dia n D).steps=t.steps+sizes D.layers:=rfl
 have htu:(t.dia n D).subs=t.subs∧(t.dia n D).q=t.q:=⟨rfl,rfl⟩
 rw [hup,hts] at b3
 have m1:¬k.s=nx3:=by omega
 have m2:¬nx=nx3:=by omega
 have m3:¬nx3=k.s:=by omega
 refine K_run hB 100 ?_
 simp [go_sem,Diag.a,Diag.cs]
 refine K_drawn [] rfl (by rw [hB];kernel_rfl) ?_
 by_cases ca:t.up≤D.low
 ·rw [if_pos ca] at hR
  subst hR
  refine K_run hB 100 ?_
  simp [go_sem,b3,m1,ca]
  have hfin:=d1.stay (σ':=oput (oput σ3 nx3 (.box [.fsl [],.i 0,.b false,.i 0])) nx3 (.box D.cs)) (nx':=nx3+1) (by omega) fun i hi=>by simp [oput,show ¬i=nx3 by omega]
  rw [Diag.cs] at hfin
  exact ⟨by omega,k3,hfin.1,r3.trans hfin.2⟩
 rw [if_neg ca] at hR
 by_cases cb:D.exact=true
 ·rw [if_pos cb] at hR
  have he:=best_pure x n t.up (x.mostN o.width) hp.st (by have:=hp.most;omega) hp.ok (by have:=hp.path;omega)
  obtain ⟨u1,u2,u3⟩:=hp.exa t.up
  have hmx:max o.width (x.stops.length:Int)=(x.mostN o.width:Int):=by unfold Inst.mostN;omega
  rw [SS.exa,hup] at hR
  rw [exRes4] at he
  generalize (x.exact n t.up (x.mostN o.width)).2.2.2=ve at *
  generalize (x.exact n t.up (x.mostN o.width)).2.2.1=vw at *
  generalize (x.exact n t.up (x.mostN o.width)).2.1=ei at *
  generalize (x.exact n t.up (x.mostN o.width)).1=en at *
  have g1:¬k.s=nx3+1:=by omega
  have g2:¬nx=nx3+1:=by omega
  have g3:¬nx3+1=k.s:=by omega
  have g4:¬nx=k.s:=by omega
  have w2:IntKind.i64.wrap (t.steps+(sizes D.layers:Int)+ve)=t.steps+(sizes D.layers:Int)+ve:=w64 _ (by omega)
  refine K_run hB 100 ?_
  simp [go_sem,b3,m1,ca,cb]
  refine K_drawnF [28,29] [0,1,2,3,4,5,6,7,8,9,10,11,12,13,14,15,16,17,18,19,20,21,22,23,24,25,26,27] rfl (by rw [hB];kernel_rfl) (by kernel_rfl) fun ht hf'=>?_
  refine K_run hB 100 ?_
  simp [go_sem,ht,hf',Inst.a,b3,n3,m1,m2,hmx]
  refine K_dCallP rfl rfl rfl (args:=[x.a,n.a,.i t.up,.i (x.mostN o.width)]) (f:=132) (by simp [go_sem,Inst.a,Node.a,Node.cs]) (he) ?_
  refine K_run hB 100 ?_
  simp [go_sem,ht,hf',Inst.a,b3,n3,m1,m2,m3,g1,g2,g3,g4,hmx,w2,Node.a,Node.cs]
  have hs4:=fun (τ:Nat→AObj) (h1:τ k.s= .box (((t.dia n D).plus ve).cs x o 0 0 k3)) (h2:∀i,i<nx3→i≠k.s→τ i=σ3 i)=>d1.turn (t:=(t.dia n D).plus ve) (τ:=τ) (nx':=nx3+1+1) (by rw [z1];exact h1) rfl rfl rfl ⟨by omega,by rw [z1];exact h2⟩
  refine K_callQ rfl rfl rfl (args:=[.ptr k.s 0,en.a,.b ei]) (f:=129) (by simp [go_sem,Node.a,Node.cs]) (by simp [go_sem,hB]) (z1 ▸ offer_spec x o 0 0 k3 ((t.dia n D).plus ve) en ei u3 (nx:=nx3+1+1) (hs4 _ (by simp [oput,SS.cs,SS.plus,hup,hts]) fun i h1 h2=>by simp [oput,h2,show ¬i=nx3 by omega,show ¬i=nx3+1 by omega]).b) fun r σ4 nx4 hq=>?_
  obtain ⟨rfl,e1,e2⟩:=hq
  have e3:=fun (τ:Nat→AObj) (hτ:Only k.s τ (nx3+1+1) σ4 nx4) h1 h2=>(hs4 τ h1 h2).only e1 (offer_up ((t.dia n D).plus ve) (en,ei)).2.2.1 (by rw [z1];exact hτ)
  have e4:=e3 _ e2 (by simp [oput,SS.cs,SS.plus,hup,hts]) fun i h1 h2=>by simp only [oput];rw [if_neg h2,if_neg (show ¬i=nx3+1 by omega),if_neg (show ¬i=nx3+1 by omega),if_neg (show ¬i=nx3 by omega),if_neg (show ¬i=nx3 by omega)]
  have e5:=e2.1
  have e6:Only k3.s σ3 nx3 σ4 nx4:=⟨by omega,fun i h1 h2=>by rw [z1] at h2;rw [e2.2 i (by omega) h2];simp [oput,h2,show ¬i=nx3 by omega,show ¬i=nx3+1 by omega]⟩
  rw [hR] at e4
  refine K_run hB 100 ?_
  simp [go_sem]
  exact ⟨by omega,k3,e4,r3.trans e6.runs⟩
 ·rw [if_neg cb] at hR
  have hcb:D.exact=false:=by simpa using cb
  refine K_run hB 100 ?_
  simp [go_sem,b3,m1,ca,hcb]
  have hfin:=d1.stay (σ':=oput (oput σ3 nx3 (.box [.fsl [],.i 0,.b false,.i 0])) nx3 (.box D.cs)) (nx':=nx3+1) (by omega) fun i hi=>by simp [oput,show ¬i=nx3 by omega]
  rw [Diag.cs,hcb] at hfin
  refine K_callQ rfl rfl rfl (args:=[.ptr k.s 0,D.a]) (f:=133) (by simp [go_sem,Diag.a,Diag.cs,hcb]) (by simp [go_sem,hB]) (z1 ▸ branch_spec x o k3 (t.dia n D) D hp.st l1 (by omega) (by omega) (by rw [htu.1,y1];omega) (by rw [htu.2,y2];omega) hfin.1) fun r σ4 nx4 hq=>?_
  obtain ⟨rfl,k4,e1,e2⟩:=hq
  have e3:=(r3.trans hfin.2).trans e2
  rw [hR] at e1
  refine K_run hB 100 ?_
  simp [go_sem]
  exact ⟨e3.le,k4,e1,e3⟩
end Go.Proofs.YtackfabapangdaaGreat

set_option maxRecDepth 4000
set_option maxHeartbeats 2000000
namespace Go.Proofs.YtackfabapangdaaGreat
open Go Go.Proofs.YtackfabapangdaaGreat.R
theorem rbuild_pure (x:Inst) (n:Node) (w up:Int) (hl:x.stops.length<2^31) (hw:w≤3000) (ho:n.s.ok) (hp:n.path.length<2^29):Pure P 142 [x.a,n.a,.i w,.i up] ((x.build n w up).a):=by
 generalize hR:x.build n w up=R
 refine pure_of Tryz.func142 rfl rfl (by simp [Tryz.f142]) (by simp [bnd,bnd.bndL,Inst.a,Node.a,Node.cs]) (by simp [bnd,bnd.bndL,Diag.a,Diag.cs]) fun B hB hnx=>?_
 simp only [Tryz.f142] at hB ⊢
 have hdeep:=rdeep_pure x (by omega)
 have hdl:=deep_le x
 rw [Inst.build] at hR
 generalize hdp:x.deep-(n.path.length:Int)=dp at *
 have hnl:(ints n.path).length=n.path.length:=List.length_map _
 refine K_run hB 100 ?_
 simp [go_sem,Inst.a,Node.a,Node.cs]
 refine K_less (Imp.ownB (b:=3) (off:=0) (sz:=1) (cs:=[.fsl [],.i up,.b true,.i 0]) (by simp [oput]) rfl) ?_
 refine K_loopP (α:=Nat×List (List Node)×Int×Option Nat×List Node×Nat×(Nat→AObj)×Nat) (fun (f,ls,low,sq,l,q,τ,ny)=>x.buildGo w up dp f ls low sq l=R∧(f:Int)+ls.length≥dp+2∧((ls.length:Int)≤dp∨ls=[])∧1≤f∧WFine l (n.path.length+ls.length)∧l.length≤3000∧τ 0= .box x.cs∧τ 1= .box n.cs∧τ 2= .box [.fsl [],.i 0,.b false,.i 0]∧τ 3= .box [.ref q,.i low,.b sq.isNone,.i (sq.getD 0:Nat)]∧τ q= .arr 1 (lysT ls)∧3<q∧q<ny)
  (fun (f,ls,low,sq,l,q,τ,ny)=>⟨sl [(2,.i w),(3,.i up),(4,.ptr 0 0),(5,.ptr 1 0),(8,.ptr 2 0),(9,.ptr 3 0),(10,.t (.sl (nodesT l)))],τ,ny⟩) (fun a=>a.1) (dp.toNat+2,[],up,none,[n],4,_,5) ?_ (Imp.loose.trans (Imp.slots (by simp [go_sem,loosen,nodesT,Node.t]) rfl rfl)) ?_
 ·refine ⟨hR,by simp only [List.length_nil];omega,.inr rfl,by omega,⟨fun m hm=>by rw [List.mem_singleton.1 hm];exact ho,fun m hm=>by rw [List.mem_singleton.1 hm];omega⟩,by simp,by simp [oput,Inst.cs],by simp [oput,Node.cs],by simp [oput],by simp [oput,setCells],by simp [oput,lysT],by omega,by omega⟩
 clear hR
 rintro ⟨f,ls,low,sq,l,q,τ,ny⟩ ⟨hR,g1,g2,g3,g4,g5,h0,h1,h2,h3,h5,h6,h7⟩
 obtain ⟨f,rfl⟩:∃f',f=f'+1:=⟨f-1,by omega⟩
 have hil:(nodesT l).length=l.length:=List.length_map _
 have hyl:(lysT ls).length=ls.length:=List.length_map _
 have hls:ls.length≤40:=by
  rcases g2 with g2 | g2
  ·omega
  ·rw [g2];simp
 have n0:¬0=ny:=by omega
 have n1:¬1=ny:=by omega
 have n2:¬2=ny:=by omega
 have n3:¬3=ny:=by omega
 have n5:¬q=2:=by omega
 have n6:¬q=3:=by omega
 rw [Inst.buildGo] at hR
 by_cases c0:l=[]
 ·rw [if_pos c0] at hR
  subst hR
  have c0':l.length=0:=by rw [c0];rfl
  cases sq with
  |none=>
   refine K_run hB 60 ?_
   simp [go_sem,hil,c0',h3,h5,hyl,n5,n6,h2]
   rfl
  |some k=>
   refine K_run hB 60 ?_
   simp [go_sem,hil,c0',h3,h5,hyl,n5,n6,h2]
   rfl
 rw [if_neg c0] at hR
 have c0':0<l.length:=List.length_pos_iff.2 c0
 have hx:=rexpand_pure x l up hl (by omega) (fun m h=>⟨g4.ok m h,by have:=g4.path m h;omega⟩) (fun m h=>by have:=g4.path m h;omega)
 have hnw:=g4.next (x:=x) up
 have hsn:lysT ls++[[.sl (nodesT l)]]=lysT (ls++[l]):=by simp [lysT]
 have hcap:ls.length+1≤mostLen:=by show _≤4294967296;omega
 have hsl:(lysT (ls++[l])).length=ls.length+1:=by rw [lysT,List.length_map];simp
 have n7:¬3=q:=by omega
 have n8:¬0=q:=by omega
 have n9:¬1=q:=by omega
 have na:¬2=q:=by omega
 generalize x.bests l=Bs at *
 obtain ⟨b,is⟩:=Bs
 have hqs:=rsqueeze_pure x (x.next l up) w hl (by have:=next_len x l up;omega) (fun m h=>⟨hnw.ok m h,by have:=hnw.path m h;omega⟩)
 have hnf:=next_few (x:=x) (l:=l) (up:=up) hw
 have hmf:=most_few (x:=x) (l:=l) (up:=up) hw
 have hsq:=squeeze_len x (x.next l up) w
 have hsw:=hnw.squeeze (x:=x) w
 have hmo:=rwidth_pure x w
 generalize x.squeeze (x.next l up) w=Q at *
 generalize x.next l up=M at *
 have hMl:(nodesT M).length=M.length:=List.length_map _
 have w1:IntKind.i64.wrap ((ls.length:Int)+1-1)=ls.length:=by rw [w64 _ (by omega)];omega
 have w1':IntKind.i64.wrap (ls.length:Int)=ls.length:=w64 _ (by omega)
 have w2:IntKind.i64.wrap ((ls.length:Int)+n.path.length)=(ls.length:Int)+n.path.length:=w64 _ (by omega)
 refine K_run hB 60 ?_
 simp [go_sem,hil,c0',h3,h5,hyl,hsn,hcap,n0,n1,n2,n3,n6,n7,n8,n9,na,h0,Inst.cs]
 refine K_run hB 100 ?_
 simp [go_sem,hil,c0',h3,h5,hyl,hsn,hcap,n0,n1,n2,n3,n6,n7,n8,n9,na,h0,Inst.cs]
 refine K_call rfl rfl rfl (args:=[x.a,.t (.sl (nodesT l)),.i up]) (f:=185) (by simp [go_sem,Inst.a]) (by simp [go_sem,hB]) ((hx).spec _ _) ?_
 have b0:¬ny=0:=by omega
 have b1:¬ny+1=0:=by omega
 have b2:¬ny=1:=by omega
 have b3:¬ny=2:=by omega
 have b4:¬ny=3:=by omega
 have b6:¬3=ny+1:=by omega
 have hwQ:WFine Q (n.path.length+(ls++[l]).length):=by rw [List.length_append];exact hsw
 have hwM:WFine M (n.path.length+(ls++[l]).length):=by rw [List.length_append];exact hnw
 cases is with
 |false=>
  have hlw:lowB low (b,false)=low:=rfl
  rw [hlw] at hR
  refine K_run hB 100 ?_
  simp [go_sem,expRes,Node.a,Node.cs,h0,h1,h2,h3,h5,n0,n1,n2,n3,n5,n6,n7,n8,n9,na,b0,b1,b2,b3,b4,b6,hsl,Inst.cs,hnl,w1,w1',w2]
  refine K_drawn [] rfl (by rw [hB];kernel_rfl) ?_
  refine K_run hB 100 ?_
  simp [go_sem,expRes,Node.a,Node.cs,h0,h1,h2,h3,h5,n0,n1,n2,n3,n5,n6,n7,n8,n9,na,b0,b1,b2,b3,b4,b6,hsl,Inst.cs,hnl,w1,w1',w2]
  refine K_dCallP rfl rfl rfl (args:=[x.a]) (f:=161) (by simp [go_sem,Inst.a]) (hdeep) ?_
  by_cases c1:x.deep≤(ls.length:Int)+n.path.length
  ·rw [if_pos (by omega)] at hR
   subst hR
   cases sq with
   |none=>
    refine K_run hB 100 ?_
    simp [go_sem,expRes,Node.a,Node.cs,h0,h1,h2,h3,h5,n0,n1,n2,n3,n5,n6,n7,n8,n9,na,b0,b1,b2,b3,b4,b6,hsl,Inst.cs,hnl,w1,w1',w2,c1]
    simp [Diag.of,Diag.a,Diag.cs]
   |some k=>
    refine K_run hB 100 ?_
    simp [go_sem,expRes,Node.a,Node.cs,h0,h1,h2,h3,h5,n0,n1,n2,n3,n5,n6,n7,n8,n9,na,b0,b1,b2,b3,b4,b6,hsl,Inst.cs,hnl,w1,w1',w2,c1]
    rfl
  rw [if_neg (by omega)] at hR
  refine K_run hB 100 ?_
  simp [go_sem,expRes,Node.a,Node.cs,h0,h1,h2,h3,h5,n0,n1,n2,n3,n5,n6,n7,n8,n9,na,b0,b1,b2,b3,b4,b6,hsl,Inst.cs,hnl,w1,w1',w2,c1,hMl]
  refine K_call rfl rfl rfl (args:=[x.a,.i w]) (f:=188) (by simp [go_sem,Inst.a]) (by simp [go_sem,hB]) ((hmo).spec _ _) ?_
  by_cases c2:x.mostN w<M.length
  ·rw [if_pos c2] at hR
   refine K_run hB 100 ?_
   simp [go_sem,expRes,Node.a,Node.cs,h0,h1,h2,h3,h5,n0,n1,n2,n3,n5,n6,n7,n8,n9,na,b0,b1,b2,b3,b4,b6,hsl,Inst.cs,hnl,w1,w1',w2,c2,hMl]
   refine K_call rfl rfl rfl (args:=[x.a,.t (.sl (nodesT M)),.i w]) (f:=189) (by simp [go_sem,Inst.a]) (by simp [go_sem,hB]) ((hqs).spec _ _) ?_
   cases sq with
   |none=>
    refine K_run hB 100 ?_
    simp [go_sem,expRes,Node.a,Node.cs,h0,h1,h2,h3,h5,n0,n1,n2,n3,n5,n6,n7,n8,n9,na,b0,b1,b2,b3,b4,b6,hsl,Inst.cs,hnl,w1,w1',w2]
    refine Next.mk (f,ls++[l],low,some (ls.length+1),Q,ny,_,ny+2) ?_ (Imp.slots (by simp [go_sem]) rfl rfl) (by simp only;omega)
    exact ⟨hR,by simp only [List.length_append,List.length_cons,List.length_nil];omega,.inl (by simp only [List.length_append,List.length_cons,List.length_nil];omega),by simp only;omega,hwQ,(by have:=hmf c2;simp only;omega),by simp [oput,h0,h1,h2,h3,n0,n1,n2,n3,n7,n8,n9,na,b0,b1,b2,b3,b4,b6,Inst.cs,Node.cs],by simp [oput,h0,h1,h2,h3,n0,n1,n2,n3,n7,n8,n9,na,b0,b1,b2,b3,b4,b6,Inst.cs,Node.cs],by simp [oput,h0,h1,h2,h3,n0,n1,n2,n3,n7,n8,n9,na,b0,b1,b2,b3,b4,b6,Inst.cs,Node.cs],by simp [oput,h0,h1,h2,h3,n0,n1,n2,n3,n7,n8,n9,na,b0,b1,b2,b3,b4,b6,Inst.cs,Node.cs],by simp [oput,h0,h1,h2,h3,n0,n1,n2,n3,n7,n8,n9,na,b0,b1,b2,b3,b4,b6,Inst.cs,Node.cs],by simp only;omega,by simp only;omega⟩
   |some k=>
    refine K_run hB 100 ?_
    simp [go_sem,expRes,Node.a,Node.cs,h0,h1,h2,h3,h5,n0,n1,n2,n3,n5,n6,n7,n8,n9,na,b0,b1,b2,b3,b4,b6,hsl,Inst.cs,hnl,w1,w1',w2]
    refine Next.mk (f,ls++[l],low,some k,Q,ny,_,ny+2) ?_ (Imp.slots (by simp [go_sem]) rfl rfl) (by simp only;omega)
    exact ⟨hR,by simp only [List.length_append,List.length_cons,List.length_nil];omega,.inl (by simp only [List.length_append,List.length_cons,List.length_nil];omega),by simp only;omega,hwQ,(by have:=hmf c2;simp only;omega),by simp [oput,h0,h1,h2,h3,n0,n1,n2,n3,n7,n8,n9,na,b0,b1,b2,b3,b4,b6,Inst.cs,Node.cs],by simp [oput,h0,h1,h2,h3,n0,n1,n2,n3,n7,n8,n9,na,b0,b1,b2,b3,b4,b6,Inst.cs,Node.cs],by simp [oput,h0,h1,h2,h3,n0,n1,n2,n3,n7,n8,n9,na,b0,b1,b2,b3,b4,b6,Inst.cs,Node.cs],by simp [oput,h0,h1,h2,h3,n0,n1,n2,n3,n7,n8,n9,na,b0,b1,b2,b3,b4,b6,Inst.cs,Node.cs],by simp [oput,h0,h1,h2,h3,n0,n1,n2,n3,n7,n8,n9,na,b0,b1,b2,b3,b4,b6,Inst.cs,Node.cs],by simp only;omega,by simp only;omega⟩
  ·rw [if_neg c2] at hR
   refine K_run hB 100 ?_
   simp [go_sem,expRes,Node.a,Node.cs,h0,h1,h2,h3,h5,n0,n1,n2,n3,n5,n6,n7,n8,n9,na,b0,b1,b2,b3,b4,b6,hsl,Inst.cs,hnl,w1,w1',w2,c2,hMl]
   refine Next.mk (f,ls++[l],low,sq,M,ny,_,ny+2) ?_ (Imp.slots (by simp [go_sem]) rfl rfl) (by simp only;omega)
   exact ⟨hR,by simp only [List.length_append,List.length_cons,List.length_nil];omega,.inl (by simp only [List.length_append,List.length_cons,List.length_nil];omega),by simp only;omega,hwM,(hnf (by omega)),by simp [oput,h0,h1,h2,h3,n0,n1,n2,n3,n7,n8,n9,na,b0,b1,b2,b3,b4,b6,Inst.cs,Node.cs],by simp [oput,h0,h1,h2,h3,n0,n1,n2,n3,n7,n8,n9,na,b0,b1,b2,b3,b4,b6,Inst.cs,Node.cs],by simp [oput,h0,h1,h2,h3,n0,n1,n2,n3,n7,n8,n9,na,b0,b1,b2,b3,b4,b6,Inst.cs,Node.cs],by simp [oput,h0,h1,h2,h3,n0,n1,n2,n3,n7,n8,n9,na,b0,b1,b2,b3,b4,b6,Inst.cs,Node.cs],by simp [oput,h0,h1,h2,h3,n0,n1,n2,n3,n7,n8,n9,na,b0,b1,b2,b3,b4,b6,Inst.cs,Node.cs],by simp only;omega,by simp only;omega⟩
 |true=>
  by_cases c3:b.cost<low
  ·have hlw:lowB low (b,true)=b.cost:=by rw [lowB,if_pos rfl];simp only;omega
   rw [hlw] at hR
   refine K_run hB 100 ?_
   simp [go_sem,expRes,Node.a,Node.cs,h0,h1,h2,h3,h5,n0,n1,n2,n3,n5,n6,n7,n8,n9,na,b0,b1,b2,b3,b4,b6,hsl,Inst.cs,hnl,w1,w1',w2,c3]
   refine K_drawn [] rfl (by rw [hB];kernel_rfl) ?_
   refine K_run hB 100 ?_
   simp [go_sem,expRes,Node.a,Node.cs,h0,h1,h2,h3,h5,n0,n1,n2,n3,n5,n6,n7,n8,n9,na,b0,b1,b2,b3,b4,b6,hsl,Inst.cs,hnl,w1,w1',w2]
   refine K_dCallP rfl rfl rfl (args:=[x.a]) (f:=161) (by simp [go_sem,Inst.a]) (hdeep) ?_
   by_cases c1:x.deep≤(ls.length:Int)+n.path.length
   ·rw [if_pos (by omega)] at hR
    subst hR
    cases sq with
    |none=>
     refine K_run hB 100 ?_
     simp [go_sem,expRes,Node.a,Node.cs,h0,h1,h2,h3,h5,n0,n1,n2,n3,n5,n6,n7,n8,n9,na,b0,b1,b2,b3,b4,b6,hsl,Inst.cs,hnl,w1,w1',w2,c1]
     simp [Diag.of,Diag.a,Diag.cs]
    |some k=>
     refine K_run hB 100 ?_
     simp [go_sem,expRes,Node.a,Node.cs,h0,h1,h2,h3,h5,n0,n1,n2,n3,n5,n6,n7,n8,n9,na,b0,b1,b2,b3,b4,b6,hsl,Inst.cs,hnl,w1,w1',w2,c1]
     rfl
   rw [if_neg (by omega)] at hR
   refine K_run hB 100 ?_
   simp [go_sem,expRes,Node.a,Node.cs,h0,h1,h2,h3,h5,n0,n1,n2,n3,n5,n6,n7,n8,n9,na,b0,b1,b2,b3,b4,b6,hsl,Inst.cs,hnl,w1,w1',w2,c1,hMl]
   refine K_call rfl rfl rfl (args:=[x.a,.i w]) (f:=188) (by simp [go_sem,Inst.a]) (by simp [go_sem,hB]) ((hmo).spec _ _) ?_
   by_cases c2:x.mostN w<M.length
   ·rw [if_pos c2] at hR
    refine K_run hB 100 ?_
    simp [go_sem,expRes,Node.a,Node.cs,h0,h1,h2,h3,h5,n0,n1,n2,n3,n5,n6,n7,n8,n9,na,b0,b1,b2,b3,b4,b6,hsl,Inst.cs,hnl,w1,w1',w2,c2,hMl]
    refine K_call rfl rfl rfl (args:=[x.a,.t (.sl (nodesT M)),.i w]) (f:=189) (by simp [go_sem,Inst.a]) (by simp [go_sem,hB]) ((hqs).spec _ _) ?_
    cases sq with
    |none=>
     refine K_run hB 100 ?_
     simp [go_sem,expRes,Node.a,Node.cs,h0,h1,h2,h3,h5,n0,n1,n2,n3,n5,n6,n7,n8,n9,na,b0,b1,b2,b3,b4,b6,hsl,Inst.cs,hnl,w1,w1',w2]
     refine Next.mk (f,ls++[l],b.cost,some (ls.length+1),Q,ny,_,ny+2) ?_ (Imp.slots (by simp [go_sem]) rfl rfl) (by simp only;omega)
     exact ⟨hR,by simp only [List.length_append,List.length_cons,List.length_nil];omega,.inl (by simp only [List.length_append,List.length_cons,List.length_nil];omega),by simp only;omega,hwQ,(by have:=hmf c2;simp only;omega),by simp [oput,h0,h1,h2,h3,n0,n1,n2,n3,n7,n8,n9,na,b0,b1,b2,b3,b4,b6,Inst.cs,Node.cs],by simp [oput,h0,h1,h2,h3,n0,n1,n2,n3,n7,n8,n9,na,b0,b1,b2,b3,b4,b6,Inst.cs,Node.cs],by simp [oput,h0,h1,h2,h3,n0,n1,n2,n3,n7,n8,n9,na,b0,b1,b2,b3,b4,b6,Inst.cs,Node.cs],by simp [oput,h0,h1,h2,h3,n0,n1,n2,n3,n7,n8,n9,na,b0,b1,b2,b3,b4,b6,Inst.cs,Node.cs],by simp [oput,h0,h1,h2,h3,n0,n1,n2,n3,n7,n8,n9,na,b0,b1,b2,b3,b4,b6,Inst.cs,Node.cs],by simp only;omega,by simp only;omega⟩
    |some k=>
     refine K_run hB 100 ?_
     simp [go_sem,expRes,Node.a,Node.cs,h0,h1,h2,h3,h5,n0,n1,n2,n3,n5,n6,n7,n8,n9,na,b0,b1,b2,b3,b4,b6,hsl,Inst.cs,hnl,w1,w1',w2]
     refine Next.mk (f,ls++[l],b.cost,some k,Q,ny,_,ny+2) ?_ (Imp.slots (by simp [go_sem]) rfl rfl) (by simp only;omega)
     exact ⟨hR,by simp only [List.length_append,List.length_cons,List.length_nil];omega,.inl (by simp only [List.length_append,List.length_cons,List.length_nil];omega),by simp only;omega,hwQ,(by have:=hmf c2;simp only;omega),by simp [oput,h0,h1,h2,h3,n0,n1,n2,n3,n7,n8,n9,na,b0,b1,b2,b3,b4,b6,Inst.cs,Node.cs],by simp [oput,h0,h1,h2,h3,n0,n1,n2,n3,n7,n8,n9,na,b0,b1,b2,b3,b4,b6,Inst.cs,Node.cs],by simp [oput,h0,h1,h2,h3,n0,n1,n2,n3,n7,n8,n9,na,b0,b1,b2,b3,b4,b6,Inst.cs,Node.cs],by simp [oput,h0,h1,h2,h3,n0,n1,n2,n3,n7,n8,n9,na,b0,b1,b2,b3,b4,b6,Inst.cs,Node.cs],by simp [oput,h0,h1,h2,h3,n0,n1,n2,n3,n7,n8,n9,na,b0,b1,b2,b3,b4,b6,Inst.cs,Node.cs],by simp only;omega,by simp only;omega⟩
   ·rw [if_neg c2] at hR
    refine K_run hB 100 ?_
    simp [go_sem,expRes,Node.a,Node.cs,h0,h1,h2,h3,h5,n0,n1,n2,n3,n5,n6,n7,n8,n9,na,b0,b1,b2,b3,b4,b6,hsl,Inst.cs,hnl,w1,w1',w2,c2,hMl]
    refine Next.mk (f,ls++[l],b.cost,sq,M,ny,_,ny+2) ?_ (Imp.slots (by simp [go_sem]) rfl rfl) (by simp only;omega)
    exact ⟨hR,by simp only [List.length_append,List.length_cons,List.length_nil];omega,.inl (by simp only [List.length_append,List.length_cons,List.length_nil];omega),by simp only;omega,hwM,(hnf (by omega)),by simp [oput,h0,h1,h2,h3,n0,n1,n2,n3,n7,n8,n9,na,b0,b1,b2,b3,b4,b6,Inst.cs,Node.cs],by simp [oput,h0,h1,h2,h3,n0,n1,n2,n3,n7,n8,n9,na,b0,b1,b2,b3,b4,b6,Inst.cs,Node.cs],by simp [oput,h0,h1,h2,h3,n0,n1,n2,n3,n7,n8,n9,na,b0,b1,b2,b3,b4,b6,Inst.cs,Node.cs],by simp [oput,h0,h1,h2,h3,n0,n1,n2,n3,n7,n8,n9,na,b0,b1,b2,b3,b4,b6,Inst.cs,Node.cs],by simp [oput,h0,h1,h2,h3,n0,n1,n2,n3,n7,n8,n9,na,b0,b1,b2,b3,b4,b6,Inst.cs,Node.cs],by simp only;omega,by simp only;omega⟩
  ·have hlw:lowB low (b,true)=low:=by rw [lowB,if_pos rfl];simp only;omega
   rw [hlw] at hR
   refine K_run hB 100 ?_
   simp [go_sem,expRes,Node.a,Node.cs,h0,h1,h2,h3,h5,n0,n1,n2,n3,n5,n6,n7,n8,n9,na,b0,b1,b2,b3,b4,b6,hsl,Inst.cs,hnl,w1,w1',w2,c3]
   refine K_drawn [] rfl (by rw [hB];kernel_rfl) ?_
   refine K_run hB 100 ?_
   simp [go_sem,expRes,Node.a,Node.cs,h0,h1,h2,h3,h5,n0,n1,n2,n3,n5,n6,n7,n8,n9,na,b0,b1,b2,b3,b4,b6,hsl,Inst.cs,hnl,w1,w1',w2]
   refine K_dCallP rfl rfl rfl (args:=[x.a]) (f:=161) (by simp [go_sem,Inst.a]) (hdeep) ?_
   by_cases c1:x.deep≤(ls.length:Int)+n.path.length
   ·rw [if_pos (by omega)] at hR
    subst hR
    cases sq with
    |none=>
     refine K_run hB 100 ?_
     simp [go_sem,expRes,Node.a,Node.cs,h0,h1,h2,h3,h5,n0,n1,n2,n3,n5,n6,n7,n8,n9,na,b0,b1,b2,b3,b4,b6,hsl,Inst.cs,hnl,w1,w1',w2,c1]
     simp [Diag.of,Diag.a,Diag.cs]
    |some k=>
     refine K_run hB 100 ?_
     simp [go_sem,expRes,Node.a,Node.cs,h0,h1,h2,h3,h5,n0,n1,n2,n3,n5,n6,n7,n8,n9,na,b0,b1,b2,b3,b4,b6,hsl,Inst.cs,hnl,w1,w1',w2,c1]
     rfl
   rw [if_neg (by omega)] at hR
   refine K_run hB 100 ?_
   simp [go_sem,expRes,Node.a,Node.cs,h0,h1,h2,h3,h5,n0,n1,n2,n3,n5,n6,n7,n8,n9,na,b0,b1,b2,b3,b4,b6,hsl,Inst.cs,hnl,w1,w1',w2,c1,hMl]
   refine K_call rfl rfl rfl (args:=[x.a,.i w]) (f:=188) (by simp [go_sem,Inst.a]) (by simp [go_sem,hB]) ((hmo).spec _ _) ?_
   by_cases c2:x.mostN w<M.length
   ·rw [if_pos c2] at hR
    refine K_run hB 100 ?_
    simp [go_sem,expRes,Node.a,Node.cs,h0,h1,h2,h3,h5,n0,n1,n2,n3,n5,n6,n7,n8,n9,na,b0,b1,b2,b3,b4,b6,hsl,Inst.cs,hnl,w1,w1',w2,c2,hMl]
    refine K_call rfl rfl rfl (args:=[x.a,.t (.sl (nodesT M)),.i w]) (f:=189) (by simp [go_sem,Inst.a]) (by simp [go_sem,hB]) ((hqs).spec _ _) ?_
    cases sq with
    |none=>
     refine K_run hB 100 ?_
     simp [go_sem,expRes,Node.a,Node.cs,h0,h1,h2,h3,h5,n0,n1,n2,n3,n5,n6,n7,n8,n9,na,b0,b1,b2,b3,b4,b6,hsl,Inst.cs,hnl,w1,w1',w2]
     refine Next.mk (f,ls++[l],low,some (ls.length+1),Q,ny,_,ny+2) ?_ (Imp.slots (by simp [go_sem]) rfl rfl) (by simp only;omega)
     exact ⟨hR,by simp only [List.length_append,List.length_cons,List.length_nil];omega,.inl (by simp only [List.length_append,List.length_cons,List.length_nil];omega),by simp only;omega,hwQ,(by have:=hmf c2;simp only;omega),by simp [oput,h0,h1,h2,h3,n0,n1,n2,n3,n7,n8,n9,na,b0,b1,b2,b3,b4,b6,Inst.cs,Node.cs],by simp [oput,h0,h1,h2,h3,n0,n1,n2,n3,n7,n8,n9,na,b0,b1,b2,b3,b4,b6,Inst.cs,Node.cs],by simp [oput,h0,h1,h2,h3,n0,n1,n2,n3,n7,n8,n9,na,b0,b1,b2,b3,b4,b6,Inst.cs,Node.cs],by simp [oput,h0,h1,h2,h3,n0,n1,n2,n3,n7,n8,n9,na,b0,b1,b2,b3,b4,b6,Inst.cs,Node.cs],by simp [oput,h0,h1,h2,h3,n0,n1,n2,n3,n7,n8,n9,na,b0,b1,b2,b3,b4,b6,Inst.cs,Node.cs],by simp only;omega,by simp only;omega⟩
    |some k=>
     refine K_run hB 100 ?_
     simp [go_sem,expRes,Node.a,Node.cs,h0,h1,h2,h3,h5,n0,n1,n2,n3,n5,n6,n7,n8,n9,na,b0,b1,b2,b3,b4,b6,hsl,Inst.cs,hnl,w1,w1',w2]
     refine Next.mk (f,ls++[l],low,some k,Q,ny,_,ny+2) ?_ (Imp.slots (by simp [go_sem]) rfl rfl) (by simp only;omega)
     exact ⟨hR,by simp only [List.length_append,List.length_cons,List.length_nil];omega,.inl (by simp only [List.length_append,List.length_cons,List.length_nil];omega),by simp only;omega,hwQ,(by have:=hmf c2;simp only;omega),by simp [oput,h0,h1,h2,h3,n0,n1,n2,n3,n7,n8,n9,na,b0,b1,b2,b3,b4,b6,Inst.cs,Node.cs],by simp [oput,h0,h1,h2,h3,n0,n1,n2,n3,n7,n8,n9,na,b0,b1,b2,b3,b4,b6,Inst.cs,Node.cs],by simp [oput,h0,h1,h2,h3,n0,n1,n2,n3,n7,n8,n9,na,b0,b1,b2,b3,b4,b6,Inst.cs,Node.cs],by simp [oput,h0,h1,h2,h3,n0,n1,n2,n3,n7,n8,n9,na,b0,b1,b2,b3,b4,b6,Inst.cs,Node.cs],by simp [oput,h0,h1,h2,h3,n0,n1,n2,n3,n7,n8,n9,na,b0,b1,b2,b3,b4,b6,Inst.cs,Node.cs],by simp only;omega,by simp only;omega⟩
   ·rw [if_neg c2] at hR
    refine K_run hB 100 ?_
    simp [go_sem,expRes,Node.a,Node.cs,h0,h1,h2,h3,h5,n0,n1,n2,n3,n5,n6,n7,n8,n9,na,b0,b1,b2,b3,b4,b6,hsl,Inst.cs,hnl,w1,w1',w2,c2,hMl]
    refine Next.mk (f,ls++[l],low,sq,M,ny,_,ny+2) ?_ (Imp.slots (by simp [go_sem]) rfl rfl) (by simp only;omega)
    exact ⟨hR,by simp only [List.length_append,List.length_cons,List.length_nil];omega,.inl (by simp only [List.length_append,List.length_cons,List.length_nil];omega),by simp only;omega,hwM,(hnf (by omega)),by simp [oput,h0,h1,h2,h3,n0,n1,n2,n3,n7,n8,n9,na,b0,b1,b2,b3,b4,b6,Inst.cs,Node.cs],by simp [oput,h0,h1,h2,h3,n0,n1,n2,n3,n7,n8,n9,na,b0,b1,b2,b3,b4,b6,Inst.cs,Node.cs],by simp [oput,h0,h1,h2,h3,n0,n1,n2,n3,n7,n8,n9,na,b0,b1,b2,b3,b4,b6,Inst.cs,Node.cs],by simp [oput,h0,h1,h2,h3,n0,n1,n2,n3,n7,n8,n9,na,b0,b1,b2,b3,b4,b6,Inst.cs,Node.cs],by simp [oput,h0,h1,h2,h3,n0,n1,n2,n3,n7,n8,n9,na,b0,b1,b2,b3,b4,b6,Inst.cs,Node.cs],by simp only;omega,by simp only;omega⟩
end Go.Proofs.YtackfabapangdaaGreat

set_option maxRecDepth 4000
set_option maxHeartbeats 1000000
namespace Go.Proofs.YtackfabapangdaaGreat
open Go Go.Proofs.YtackfabapangdaaGreat.R
theorem buildGo_fine {x:Inst} (w up dp:Int):∀(f:Nat) (ls:List (List Node)) (low:Int) (sq:Option Nat) (l:List Node) (K:Nat),WFine l K→
  ∀k∈(x.buildGo w up dp f ls low sq l).layers,k∈ls∨(WFine k (K+f)∧(k=l∨k.length≤x.mostN w))
 |0,ls,low,sq,l,K,_,k,hk=>.inl hk
 |f+1,ls,low,sq,l,K,h,k,hk=>by
  have push:k∈ls++[l]→k∈ls∨(WFine k (K+(f+1))∧(k=l∨k.length≤x.mostN w)):=fun hk=>by
   rcases List.mem_append.1 hk with hk | hk
   ·exact .inl hk
   ·rw [List.mem_singleton.1 hk]
    exact .inr ⟨⟨h.ok,fun n hn=>by have:=h.path n hn;omega⟩,.inl rfl⟩
  rw [Inst.buildGo] at hk
  split at hk
  ·exact .inl hk
  split at hk
  ·exact push hk
  split at hk
  ·rcases buildGo_fine w up dp f _ _ _ _ (K+1) (h.next up |>.squeeze w) k hk with h1 | ⟨h1,h2⟩
   ·exact push h1
   ·refine .inr ⟨⟨h1.ok,fun n hn=>by have:=h1.path n hn;omega⟩,.inr ?_⟩
    rcases h2 with rfl | h2
    ·exact squeeze_len x _ w
    ·exact h2
  ·rename_i hno
   rcases buildGo_fine w up dp f _ _ _ _ (K+1) (h.next up) k hk with h1 | ⟨h1,h2⟩
   ·exact push h1
   ·refine .inr ⟨⟨h1.ok,fun n hn=>by have:=h1.path n hn;omega⟩,.inr ?_⟩
    rcases h2 with rfl | h2
    ·omega
    ·exact h2
theorem build_fine {x:Inst} {n:Node} (ho:n.s.ok) (w up:Int):∀k∈(x.build n w up).layers,WFine k (n.path.length+41)∧(k=[n]∨k.length≤x.mostN w):=by
 intro k hk
 have hd:=deep_le x
 rcases buildGo_fine w up _ _ _ _ _ _ n.path.length ⟨fun m hm=>by rw [List.mem_singleton.1 hm];exact ho,fun m hm=>by rw [List.mem_singleton.1 hm];exact Nat.le_refl _⟩ k hk with h1 | ⟨h1,h2⟩
 ·cases h1
 ·exact ⟨⟨h1.ok,fun m hm=>by have:=h1.path m hm;omega⟩,h2⟩
theorem rsameD_pure (d:Diag) (h1:d.layers.length<2^31) (h2:∀l∈d.layers,l.length<2^31∧∀n∈l,n.path.length<2^31):Pure P 71 [d.a,d.a] (.b true):=by
 refine pure_of Tryz.func71 rfl rfl (by simp [Tryz.f71]) (by simp [bnd,bnd.bndL,Diag.a,Diag.cs]) (by simp [bnd,bnd.bndL]) fun B hB hnx=>?_
 simp only [Tryz.f71] at hB ⊢
 have hyl:(lysT d.layers).length=d.layers.length:=List.length_map _
 have hyg:∀(k:Nat) (h:k<d.layers.length),(lysT d.layers)[k]'(by rw [hyl];exact h)=[.sl (nodesT d.layers[k])]:=fun k h=>by simp [lysT]
 have hcs:d.cs=[.t (.sl (lysT d.layers)),.i d.low,.b d.exact,.i d.sure]:=rfl
 generalize lysT d.layers=Y at *
 generalize d.layers=L at *
 have hee:(!(d.exact==d.exact))=false:=by simp
 refine K_run hB 100 ?_
 simp [go_sem,Diag.a,hcs,hyl]
 refine K_loopP (α:=Nat) (fun k=>k≤L.length) (fun k=>⟨sl [(2,.ptr 0 0),(3,.ptr 1 0),(5,.i k)],oput (oput noObj 0 (.box [.t (.sl Y),.i d.low,.b d.exact,.i d.sure])) 1 (.box [.t (.sl Y),.i d.low,.b d.exact,.i d.sure]),2⟩) (fun k=>L.length-k) 0 (Nat.zero_le _) (Imp.slots (by simp [go_sem]) rfl rfl) ?_
 intro k g1
 refine K_run hB 60 ?_
 simp [go_sem,hyl]
 refine fork_dec (fun hk=>?_) (fun hk=>?_)
 ·have hkk:IntKind.i64.wrap ((k:Int)+1)=((k+1:Nat):Int):=by rw [w64 ((k:Int)+1) (by omega)];rfl
  have hget:∀h:k<Y.length,Y[k]'h=[.sl (nodesT L[k])]:=fun h=>hyg k hk
  obtain ⟨b1,b2⟩:=h2 L[k] (List.getElem_mem _)
  generalize L[k]=l at *
  have hs:=rsameN_pure l l (by omega) (by omega) (fun n h=>by have:=b2 n h;omega) (fun n h=>by have:=b2 n h;omega)
  rw [decide_eq_true rfl] at hs
  simp [go_sem]
  refine K_drawn [] rfl (by rw [hB];kernel_rfl) ?_
  refine K_run hB 100 ?_
  simp [go_sem,hyl,hk,hget]
  refine K_dCallP rfl rfl rfl (args:=[.t (.sl (nodesT l)),.t (.sl (nodesT l))]) (f:=70) (by simp [go_sem]) (hs) ?_
  refine K_run hB 100 ?_
  simp [go_sem,hkk]
  exact Next.mk (k+1) (by omega) (Imp.slots (by simp [go_sem]) rfl rfl) (by omega)
 ·have:k=L.length:=by omega
  subst this
  simp [go_sem]
end Go.Proofs.YtackfabapangdaaGreat

set_option maxRecDepth 4000
namespace Go.Proofs.YtackfabapangdaaGreat
open Go Go.Proofs.YtackfabapangdaaGreat.R
theorem rcovers_pure (a b:State) (ha:a.ok) (hb:b.ok):Pure P 205 [a.a,b.a] (.b (coversB a b)):=by
 generalize hR:coversB a b=R
 refine pure_of Tryz.func205 rfl rfl (by simp [Tryz.f205]) (by simp [bnd,bnd.bndL,State.a,State.cs]) (by simp [bnd,bnd.bndL]) fun B hB hnx=>?_
 simp only [Tryz.f205] at hB ⊢
 rw [coversB] at hR
 have hw1:=rwithin_pure a.must b.must ha.must hb.must
 have hw2:=rwithin_pure a.on b.on ha.on hb.on
 have hw3:=rwithin_pure b.can a.can hb.can ha.can
 generalize withinB a.must b.must=p1 at *
 generalize withinB a.on b.on=p2 at *
 generalize withinB b.can a.can=p3 at *
 refine K_run hB 100 ?_
 simp [go_sem,State.a,State.cs]
 refine K_call rfl rfl rfl (args:=[.u a.must,.u b.must]) (f:=234) (by simp [go_sem]) (by simp [go_sem,hB]) ((hw1).spec _ _) ?_
 refine K_run hB 100 ?_
 simp [go_sem]
 refine K_call rfl rfl rfl (args:=[.u a.on,.u b.on]) (f:=234) (by simp [go_sem]) (by simp [go_sem,hB]) ((hw2).spec _ _) ?_
 refine K_run hB 100 ?_
 simp [go_sem]
 refine K_call rfl rfl rfl (args:=[.u b.can,.u a.can]) (f:=234) (by simp [go_sem]) (by simp [go_sem,hB]) ((hw3).spec _ _) ?_
 by_cases c1:a.spot=b.spot<;>by_cases c2:a.car≤b.car<;>by_cases c3:a.time≤b.time<;>by_cases c4:a.load≤b.load<;>by_cases c5:a.first≤b.first<;>simp [c1,c2,c3,c4,c5] at hR<;>refine K_run hB 100 ?_<;>simp [go_sem,c1,c2,c3,c4,c5]<;>first | exact hR | (subst hR;cases p1<;>cases p2<;>cases p3<;>simp [go_sem,c1,c2,c3,c4,c5])
theorem rthan_pure (a b:Node) (ha:a.s.ok) (hb:b.s.ok):Pure P 231 [a.a,b.a] (.b (a.than b)):=by
 generalize hR:a.than b=R
 refine pure_of Tryz.func231 rfl rfl (by simp [Tryz.f231]) (by simp [bnd,bnd.bndL,Node.a,Node.cs]) (by simp [bnd,bnd.bndL]) fun B hB hnx=>?_
 simp only [Tryz.f231] at hB ⊢
 rw [Node.than] at hR
 have hc:=rcovers_pure a.s b.s ha hb
 generalize coversB a.s b.s=p at *
 refine K_run hB 100 ?_
 simp [go_sem,Node.a,Node.cs]
 refine K_call rfl rfl rfl (args:=[a.s.a,b.s.a]) (f:=205) (by simp [go_sem,State.a,State.cs]) (by simp [go_sem,hB]) ((hc).spec _ _) ?_
 by_cases c1:a.s.must=b.s.must<;>by_cases c2:a.s.can=b.s.can<;>by_cases c3:a.s.on=b.s.on<;>by_cases c4:a.cost≤b.cost<;>cases p<;>simp [c1,c2,c3,c4] at hR<;>subst hR<;>refine K_run hB 100 ?_<;>simp [go_sem,c1,c2,c3,c4]
def rst (l:List Node) (k:Nat) (b:Node) (i:Nat):Bool:=if i≤k then ((l.take k).drop i).any (fun a=>a.than b)||(l.drop (k+1)).any (fun c=>c.than b&& !b.than c) else (l.drop i).any fun c=>c.than b&& !b.than c
theorem rst_lt {l:List Node} {k i:Nat} (b:Node) (h:i<k) (hk:k<l.length):rst l k b i=(l[i].than b||rst l k b (i+1)):=by
 have hi:i<(l.take k).length:=by rw [List.length_take];omega
 rw [rst,if_pos (by omega),rst,if_pos (by omega),List.drop_eq_getElem_cons hi,List.any_cons,Bool.or_assoc,List.getElem_take]
theorem rst_eq {l:List Node} {k:Nat} (b:Node) (hk:k<l.length):rst l k b k=rst l k b (k+1):=by
 rw [rst,if_pos (Nat.le_refl _),rst,if_neg (by omega),List.drop_eq_nil_of_le (by rw [List.length_take];omega),List.any_nil,Bool.false_or]
theorem rst_gt {l:List Node} {k i:Nat} (b:Node) (h:k<i) (hi:i<l.length):rst l k b i=((l[i].than b&& !b.than l[i])||rst l k b (i+1)):=by
 rw [rst,if_neg (by omega),rst,if_neg (by omega),List.drop_eq_getElem_cons hi,List.any_cons]
theorem rst_end {l:List Node} {k:Nat} (b:Node) (hk:k<l.length):rst l k b l.length=false:=by
 rw [rst,if_neg (by omega),List.drop_length,List.any_nil]
theorem rst_all (l:List Node) (k:Nat) (b:Node):rst l k b 0=blk (l.take k) b (l.drop (k+1)):=by
 rw [rst,if_pos (Nat.zero_le _),List.drop_zero,blk]
theorem rfront_pure (l:List Node) (hl:l.length<2^31) (hn:∀n∈l,n.s.ok):Pure P 190 [.t (.sl (nodesT l))] (.t (.sl (nodesT (frontL l)))):=by
 rw [front_eq]
 generalize hR:frR [] l []=R
 refine pure_of Tryz.func190 rfl rfl (by simp [Tryz.f190]) (by simp [bnd,bnd.bndL]) (by simp [bnd,bnd.bndL]) fun B hB hnx=>?_
 simp only [Tryz.f190] at hB ⊢
 have hil:(nodesT l).length=l.length:=List.length_map _
 have hgt:∀(k:Nat) (h:k<l.length),(nodesT l)[k]'(by rw [hil];exact h)=l[k].t:=fun k h=>nodesT_get l h
 generalize hX:nodesT l=X at *
 have hmost:mostLen=4294967296:=rfl
 refine K_run hB 100 ?_
 simp [go_sem,hil]
 refine K_own 3 10 (by simp [go_sem]) ?_
 refine K_loopP (α:=Nat×List Node×Nat×(Nat→AObj)×Nat) (fun (k,out,a,σ,nx)=>k≤l.length∧out++frR (l.take k) (l.drop k) []=R∧out.length≤k∧σ a= .arr 10 (nodesT out)∧a<nx)
  (fun (k,out,a,σ,nx)=>⟨sl [(0,.t (.sl X)),(3,.ref a),(4,.i k)],σ,nx⟩) (fun a=>l.length-a.1) (0,[],0,_,1) ?_ (Imp.slots (by simp [go_sem,hil]) rfl rfl) ?_
 ·exact ⟨Nat.zero_le _,hR,Nat.le_refl _,by simp [oput,nodesT],by omega⟩
 rintro ⟨k,out,a,σ,nx⟩ ⟨g1,g2,g3,g4,g5⟩
 refine K_run hB 60 ?_
 simp [go_sem,hil]
 refine fork_dec (fun hk=>?_) (fun hk=>?_)
 ·have hkk:IntKind.i64.wrap ((k:Int)+1)=((k+1:Nat):Int):=by rw [w64 ((k:Int)+1) (by omega)];rfl
  have hget:∀h:k<X.length,X[k]'h=l[k].t:=fun h=>hgt k hk
  rw [List.drop_eq_getElem_cons hk,frR,List.append_nil,←List.take_succ_eq_append_getElem hk,←List.append_assoc] at g2
  have hbk:=rst_all l k l[k]
  have hok:=hn l[k] (List.getElem_mem _)
  have hself:∀i (h:i<l.length),i=k→l[i]=l[k]:=fun i h e=>by subst e;rfl
  have hrl:=fun i (h:i<k)=>rst_lt (l:=l) l[k] h hk
  have hre:=rst_eq (l:=l) l[k] hk
  have hrg:=fun i (h:k<i) (hi:i<l.length)=>rst_gt (l:=l) l[k] h hi
  have hrn:=rst_end (l:=l) l[k] hk
  generalize l[k]=m at *
  generalize blk (l.take k) m (l.drop (k+1))=Bk at *
  simp [go_sem]
  refine K_loopP (α:=Nat×Bool) (fun (i,c)=>i≤l.length∧(c&& !rst l k m i)= !Bk) (fun (i,c)=>⟨sl [(0,.t (.sl X)),(3,.ref a),(4,.i k),(5,.b c),(6,.i i)],σ,nx⟩) (fun a=>l.length-a.1) (0,true) ⟨Nat.zero_le _,by rw [hbk,Bool.true_and]⟩ (Imp.slots (by simp [go_sem]) rfl rfl) ?_
  rintro ⟨i,c⟩ ⟨f1,f2⟩
  refine K_run hB 60 ?_
  simp [go_sem,hil]
  refine fork_dec (fun hi=>?_) (fun hi=>?_)
  ·have hii:IntKind.i64.wrap ((i:Int)+1)=((i+1:Nat):Int):=by rw [w64 ((i:Int)+1) (by omega)];rfl
   have hgi:∀h:i<X.length,X[i]'h=l[i].t:=fun h=>hgt i hi
   have hoi:=hn l[i] (List.getElem_mem hi)
   have t1:=rthan_pure l[i] m hoi hok
   have t2:=rthan_pure m l[i] hok hoi
   have hst:rst l k m i=((decide (i≠k)&&l[i].than m&&(decide (i<k)|| !m.than l[i]))||rst l k m (i+1)):=by
    rcases Nat.lt_trichotomy i k with h | h | h
    ·rw [hrl i h];simp [h,show ¬i=k by omega]
    ·subst h;rw [hre];simp
    ·rw [hrg i h hi];simp [show ¬i=k by omega,show ¬i<k by omega]
   rw [hst] at f2
   generalize l[i]=n at *
   simp [go_sem]
   refine K_drawn [] rfl (by rw [hB];kernel_rfl) ?_
   refine K_run hB 100 ?_
   simp [go_sem,hil,hi,hk,hgi,hget,Node.t]
   refine K_dCallP rfl rfl rfl (args:=[n.a,m.a]) (f:=231) (by simp [go_sem,Node.a,Node.cs]) (t1) ?_
   refine K_run hB 100 ?_
   simp [go_sem]
   refine K_drawn [] rfl (by rw [hB];kernel_rfl) ?_
   refine K_run hB 100 ?_
   simp [go_sem,hil,hi,hk,hgi,hget,Node.t]
   refine K_dCallP rfl rfl rfl (args:=[m.a,n.a]) (f:=231) (by simp [go_sem,Node.a,Node.cs]) (t2) ?_
   generalize n.than m=b1 at *
   generalize m.than n=b2 at *
   by_cases d1:i=k
   ·subst d1
    simp only [ne_eq,not_true_eq_false,decide_false,Bool.false_and,Bool.false_or] at f2
    refine K_run hB 100 ?_
    simp [go_sem,hii]
    exact Next.mk (i+1,c) ⟨by simp only;omega,by simpa using f2⟩ (Imp.slots (by simp [go_sem]) rfl rfl) (by simp only;omega)
   ·cases b1 with
    |false=>
     simp only [Bool.and_false,Bool.false_and,Bool.false_or] at f2
     refine K_run hB 100 ?_
     simp [go_sem,d1,hii]
     exact Next.mk (i+1,c) ⟨by simp only;omega,by simpa using f2⟩ (Imp.slots (by simp [go_sem]) rfl rfl) (by simp only;omega)
    |true=>
     by_cases d2:i<k
     ·simp only [ne_eq,d1,not_false_eq_true,decide_true,d2,Bool.true_and,Bool.true_or,Bool.not_true,Bool.and_false] at f2
      refine K_run hB 100 ?_
      simp [go_sem,d1,d2,hii]
      exact Next.mk (i+1,false) ⟨by simp only;omega,by simpa using f2⟩ (Imp.slots (by simp [go_sem]) rfl rfl) (by simp only;omega)
     ·cases b2 with
      |true=>
       simp only [ne_eq,d1,not_false_eq_true,decide_true,d2,decide_false,Bool.true_and,Bool.false_or,Bool.not_true,Bool.and_false] at f2
       refine K_run hB 100 ?_
       simp [go_sem,d1,d2,hii]
       exact Next.mk (i+1,c) ⟨by simp only;omega,by simpa using f2⟩ (Imp.slots (by simp [go_sem]) rfl rfl) (by simp only;omega)
      |false=>
       simp only [ne_eq,d1,not_false_eq_true,decide_true,d2,decide_false,Bool.true_and,Bool.false_or,Bool.not_false,Bool.true_or,Bool.not_true,Bool.and_false] at f2
       refine K_run hB 100 ?_
       simp [go_sem,d1,d2,hii]
       exact Next.mk (i+1,false) ⟨by simp only;omega,by simpa using f2⟩ (Imp.slots (by simp [go_sem]) rfl rfl) (by simp only;omega)
  ·have:i=l.length:=by omega
   subst this
   rw [hrn] at f2
   simp only [Bool.not_false,Bool.and_true] at f2
   have hcap:out.length+1≤mostLen:=by omega
   have hlo:(nodesT out).length=out.length:=List.length_map _
   cases Bk with
   |true=>
    rw [Bool.not_true] at f2
    subst f2
    rw [if_pos rfl,List.append_nil] at g2
    simp [go_sem,hkk]
    exact Next.mk (k+1,out,a,σ,nx) ⟨by simp only;omega,g2,by simp only;omega,g4,g5⟩ (Imp.slots (by simp [go_sem]) rfl rfl) (by simp only;omega)
   |false=>
    rw [Bool.not_false] at f2
    subst f2
    rw [if_neg (by simp)] at g2
    simp [go_sem,hkk,g4,hlo,hcap,hil,hk,hget,Node.t]
    refine Next.mk (k+1,out++[m],nx,_,nx+1) ?_ (Imp.slots (by simp [go_sem]) rfl rfl) (by simp only;omega)
    refine ⟨by simp only;omega,g2,by simp only [List.length_append,List.length_cons,List.length_nil];omega,?_,by simp only;omega⟩
    simp [oput,nodesT,Node.t]
 ·have:k=l.length:=by omega
  subst this
  rw [List.drop_length,frR,List.append_nil] at g2
  subst g2
  simp [go_sem,g4]
end Go.Proofs.YtackfabapangdaaGreat

set_option maxRecDepth 4000
namespace Go.Proofs.YtackfabapangdaaGreat
open Go Go.Proofs.YtackfabapangdaaGreat.R
theorem rbest_pure (x:Inst) (n:Node) (up most:Int) (hl:x.stops.length<2^31) (hm:most<2^20) (ho:n.s.ok) (hp:n.path.length<2^29):Pure P 144 [x.a,n.a,.i up,.i most] (exRes4 (x.exact n up most)):=by
 generalize hR:x.exact n up most=R
 refine pure_of Tryz.func144 rfl rfl (by simp [Tryz.f144]) (by simp [bnd,bnd.bndL,Inst.a,Node.a,Node.cs]) (by simp [bnd,bnd.bndL,exRes4,Node.a,Node.cs]) fun B hB hnx=>?_
 simp only [Tryz.f144] at hB ⊢
 have hlev:=Level.root x n ho
 have hmeas:=meas_le x n.s
 rw [Inst.exact] at hR
 generalize hd:x.meas n.s+1=d0 at *
 generalize hK:n.path.length+x.meas n.s+1=K at *
 refine K_run hB 100 ?_
 simp [go_sem,Inst.a,Node.a,Node.cs]
 refine K_less ((Imp.looseB (b:=2) (cs:=[.i 0,.i 0,.i 0,.i 0,.i 0,.u 0,.u 0,.u 0,.i 0,.fsl []]) (by simp [oput])).trans ((Imp.looseB (b:=3) (cs:=[.i 0,.i 0,.i 0,.i 0,.i 0,.u 0,.u 0,.u 0,.i 0,.fsl []]) (by simp [oput])).trans Imp.loose)) ?_
 refine K_loopP (α:=Nat×(Node×Bool×Int)×List Node×Int×(Nat→AObj)×Nat) (fun (d,st,l,n,σ,nx)=>Level x l d K∧x.exGo most d st l n=R∧σ 0= .box x.cs∧σ 2= .box Node.zero.cs∧σ 3= .box st.1.cs∧3<nx)
  (fun (d,st,l,n,σ,nx)=>⟨sl [(2,.i st.2.2),(3,.i most),(4,.ptr 0 0),(8,.ptr 2 0),(12,.ptr 3 0),(13,.b st.2.1),(14,.i n),(15,.t (.sl (nodesT l)))],σ,nx⟩) (fun a=>a.1) (d0,(Node.zero,false,up),[n],0,_,4) ?_ (Imp.slots (by simp [go_sem,loosen,nodesT,Node.t]) rfl rfl) ?_
 ·exact ⟨hlev,hR,by simp [oput,Inst.cs],by simp [oput,Node.zero,State.zero,Node.cs,ints,loosen],by simp [oput,Node.zero,State.zero,Node.cs,ints,loosen],by omega⟩
 rintro ⟨d,st,l,n,σ,nx⟩ ⟨g1,g2,g3,g4,g5,g6⟩
 have hil:(nodesT l).length=l.length:=List.length_map _
 have hgo:x.exGo most d st l n=match d with
  |0=>(st.1,st.2.1,true,n)
  |d+1=>if l.length=0 then (st.1,st.2.1,true,n) else if most<l.length then (st.1,st.2.1,false,n) else x.exGo most d (x.look st l) (frontL (x.next l st.2.2)) (IntKind.i64.wrap (n+l.length)):=by cases d<;>rfl
 by_cases c1:l.length=0
 ·have hr:R=(st.1,st.2.1,true,n):=by
   rw [←g2,hgo]
   cases d with
   |zero=>rfl
   |succ d=>simp only;rw [if_pos c1]
  subst hr
  refine K_run hB 100 ?_
  simp [go_sem,hil,c1,g4,g5,Node.cs]
  rfl
 cases d with
 |zero=>exact absurd (by rw [g1.empty];rfl) c1
 |succ d=>
  simp only at hgo
  rw [if_neg c1] at hgo
  have c4:0<l.length:=by omega
  by_cases c2:most<l.length
  ·rw [if_pos c2] at hgo
   rw [hgo] at g2
   subst g2
   refine K_run hB 100 ?_
   simp [go_sem,hil,c4,c2,g4,g5,Node.cs]
   rfl
  ·rw [if_neg c2] at hgo
   rw [hgo] at g2
   have hx:=rexpand_pure x l st.2.2 hl (by omega) (fun m h=>⟨g1.ok m h,by have:=g1.path m h;omega⟩) (fun m h=>by have:=g1.path m h;omega)
   have q1:=next_len x l st.2.2
   have q2:∀m∈x.next l st.2.2,m.s.ok:=by
    intro m hm
    obtain ⟨k,h,j,_,rfl,_⟩:=next_mem hm
    exact move_ok x j (g1.ok k h)
   have hf:=rfront_pure (x.next l st.2.2) (by omega) q2
   have hlv:=g1.next st.2.2
   have hlk:x.look st l=if (x.bests l).2=true∧(x.bests l).1.cost<st.2.2 then ((x.bests l).1,true,(x.bests l).1.cost) else st:=rfl
   generalize x.look st l=st' at *
   generalize frontL (x.next l st.2.2)=l' at *
   generalize x.next l st.2.2=M at *
   generalize x.bests l=Rb at *
   obtain ⟨b,is⟩:=Rb
   simp only at hlk
   refine K_run hB 100 ?_
   simp [go_sem,hil,c4,c2,g3,Inst.cs]
   refine K_call rfl rfl rfl (args:=[x.a,.t (.sl (nodesT l)),.i st.2.2]) (f:=185) (by simp [go_sem,Inst.a]) (by simp [go_sem,hB]) ((hx).spec _ _) ?_
   have m0:¬0=nx:=by omega
   have m2:¬2=nx:=by omega
   have m3:¬3=nx:=by omega
   have m4:¬nx=3:=by omega
   cases is with
   |false=>
    rw [if_neg (by simp)] at hlk
    subst hlk
    refine K_run hB 100 ?_
    simp [go_sem,expRes,Node.a,Node.cs]
    refine K_call rfl rfl rfl (args:=[.t (.sl (nodesT M))]) (f:=190) (by simp [go_sem]) (by simp [go_sem,hB]) ((hf).spec _ _) ?_
    refine K_run hB 100 ?_
    simp [go_sem]
    refine Next.mk (d,st',l',IntKind.i64.wrap (n+l.length),_,nx+1) ?_ (Imp.slots (by simp [go_sem]) rfl rfl) (by simp only;omega)
    exact ⟨hlv,g2,by simp [oput,g3,m0,Inst.cs],by simp [oput,g4,m2,Node.cs],by simp [oput,g5,m3,Node.cs],by simp only;omega⟩
   |true=>
    by_cases c5:b.cost<st.2.2
    ·rw [if_pos ⟨rfl,c5⟩] at hlk
     subst hlk
     refine K_run hB 100 ?_
     simp [go_sem,expRes,Node.a,Node.cs,c5,g5,m3,m4]
     refine K_call rfl rfl rfl (args:=[.t (.sl (nodesT M))]) (f:=190) (by simp [go_sem]) (by simp [go_sem,hB]) ((hf).spec _ _) ?_
     refine K_run hB 100 ?_
     simp [go_sem]
     refine Next.mk (d,(b,true,b.cost),l',IntKind.i64.wrap (n+l.length),_,nx+1) ?_ (Imp.slots (by simp [go_sem]) rfl rfl) (by simp only;omega)
     exact ⟨hlv,g2,by simp [oput,g3,m0,Inst.cs],by simp [oput,g4,m2,Node.cs],by simp [oput,g5,m3,Node.cs],by simp only;omega⟩
    ·rw [if_neg (fun h=>c5 h.2)] at hlk
     subst hlk
     refine K_run hB 100 ?_
     simp [go_sem,expRes,Node.a,Node.cs,c5]
     refine K_call rfl rfl rfl (args:=[.t (.sl (nodesT M))]) (f:=190) (by simp [go_sem]) (by simp [go_sem,hB]) ((hf).spec _ _) ?_
     refine K_run hB 100 ?_
     simp [go_sem]
     refine Next.mk (d,st',l',IntKind.i64.wrap (n+l.length),_,nx+1) ?_ (Imp.slots (by simp [go_sem]) rfl rfl) (by simp only;omega)
     exact ⟨hlv,g2,by simp [oput,g3,m0,Inst.cs],by simp [oput,g4,m2,Node.cs],by simp [oput,g5,m3,Node.cs],by simp only;omega⟩
end Go.Proofs.YtackfabapangdaaGreat

set_option maxRecDepth 4000
namespace Go.Proofs.YtackfabapangdaaGreat
open Go Go.Proofs.YtackfabapangdaaGreat.R
theorem exGo_path (x:Inst) (most:Int) (k:Nat):∀(d:Nat) (st:Node×Bool×Int) (l:List Node) (n:Int) {K:Nat},Level x l d K→K≤k→st.1.path.length≤k→(x.exGo most d st l n).1.path.length≤k
 |0,st,l,n,K,_,_,h=>h
 |d+1,st,l,n,K,h1,h2,h3=>by
  rw [Inst.exGo]
  split
  ·exact h3
  ·split
   ·exact h3
   ·refine exGo_path x most k d _ _ _ (h1.next st.2.2) h2 ?_
    unfold Inst.look
    split
    ·exact bests_path fun m hm=>by have:=h1.path m hm;omega
    ·exact h3
end Go.Proofs.YtackfabapangdaaGreat

set_option maxRecDepth 4000
set_option maxHeartbeats 4000000
namespace Go.Proofs.YtackfabapangdaaGreat
open Go Go.Proofs.YtackfabapangdaaGreat.R
theorem look_pre {x:Inst} {p:Nat} (hx:x.Fit p) (hm:x.may=true) (hp:p≤3) {n:Node} (ht:Track x n) {w:Int} (hw:w≤40):LookPre x w n:=by
 have hlen:=hx.len
 have hfew:=ht.few
 have hml:=meas_le x n.s
 have hmost:x.mostN w≤40:=by unfold Inst.mostN;omega
 have hlay:=fun up=>build_fine (x:=x) ht.is.ok w up
 have hdp:=(deep_meas hm).2
 have hcnt:∀up,(x.build n w up).layers.length≤41:=fun up=>by
  have:=build_count x n w up
  omega
 refine ⟨by omega,by omega,ht.is.ok,by omega,fun up=>?_,fun up=>⟨⟨by have:=hcnt up;omega,fun l hl=>?_,fun l hl m hm=>?_⟩,?_⟩,by omega,fun up=>?_⟩
 ·obtain ⟨n1,n2⟩:=narrow_steps x n w up (by omega)
  have hmu:widthN w*x.meas n.s≤3000*40:=Nat.mul_le_mul (by unfold widthN;split<;>omega) hml
  have:=narrow_path x n w up ht.is.ok
  omega
 ·rcases (hlay up l hl).2 with rfl | h
  ·simp
  ·omega
 ·have h:=(hlay up l hl).1
  exact ⟨h.ok m hm,by have:=h.path m hm;omega⟩
 ·have h:=sizes_le 41 (x.build n w up).layers fun l hl=>by
   rcases (hlay up l hl).2 with rfl | h
   ·simp
   ·omega
  have:41*(x.build n w up).layers.length≤41*41:=Nat.mul_le_mul_left _ (hcnt up)
  omega
 ·have h1:0≤(x.exact n up (x.mostN w)).2.2.2∧(x.exact n up (x.mostN w)).2.2.2≤0+3000*((x.meas n.s+1:Nat):Int):=exGo_cnt x _ (by omega) (by omega) _ _ _ _ (Int.le_refl _) (by omega)
  have h2:(x.exact n up (x.mostN w)).1.path.length≤n.path.length+41:=exGo_path x _ (n.path.length+41) _ _ _ _ (Level.root x n ht.is.ok) (by omega) (Nat.zero_le _)
  omega
theorem len_sum {α:Type} (f:α→Nat):∀(l:List α),(∀e∈l,1≤f e)→l.length≤(l.map f).sum
 |[],_=>Nat.zero_le _
 |e :: l,h=>by
  have h1:=len_sum f l fun a ha=>h a (List.mem_cons_of_mem _ ha)
  have h2:=h e List.mem_cons_self
  rw [List.length_cons,List.map_cons,List.sum_cons]
  omega
theorem Going.pre {x:Inst} {p:Nat} (hx:x.Fit p) (hm:x.may=true) (hp:p≤3) {s:SS} (h:Going x p s):SPre s:=by
 have h1:=h.small.subs
 have h2:=h.small.log
 have h3:=h.small.steps
 have h4:s.q.length≤s.mass p:=len_sum _ _ fun e he=>by
  obtain ⟨n,hn⟩:=h.inv.nos e he
  rw [getD_of hn]
  exact wt_pos hx hm hp (h.inv.track n (List.mem_of_getElem? hn))
 exact ⟨by omega,by omega,by omega,by omega⟩
def SRes.a (r:SRes):AV:=.agg [.i r.status,.t (.sl (planT r.plan)),.i r.up,.i r.low,.i r.steps,.t (.sl (logT r.log))]
def Inst.search (x:Inst) (o:Opt):SRes:=
 if x.may=true then if o.mayB=true then (x.runGo o 1850 x.start).getD ⟨0,[],inf,0,0,[]⟩ else ⟨1,[],inf,0,0,[]⟩ else ⟨0,[],inf,0,0,[]⟩
theorem search_is {x:Inst} {p:Nat} (hx:x.Fit p) (hm:x.may=true) (hp:p≤3) {o:Opt} (ho:o.mayB=true) (hw:o.width≤40):x.runGo o 1850 x.start=some (x.search o):=by
 have hg:=start_going hx hm hp
 have:=hg.small.subs
 obtain ⟨r,hr⟩:=run_ends hx hm hp o hw 1850 x.start hg (by omega)
 rw [Inst.search,if_pos hm,if_pos ho,hr]
 rfl
theorem new_spec (o:Int) {σ:Nat→AObj} {nx:Nat}:CallSpec P 72 [.i o] σ nx (.ptr nx 0) (oput σ nx (.box [.fsl [],.i o])) (nx+1):=by
 refine CallQ.spec (spec_of Tryz.func72 rfl rfl (by simp [Tryz.f72]) fun B hB hnx hσB=>?_)
 simp only [Tryz.f72] at hB ⊢
 refine K_run hB 100 ?_
 simp [go_sem]
theorem ends_spec (x:Inst) (o:Opt) (k:Ids) (s:SS) {σ:Nat→AObj} {nx:Nat} (hb:SOk x o k s σ nx):
  CallQ P 75 [.ptr k.s 0] σ nx fun r σ' nx'=>r= .agg [.i s.ends.status,.t (.sl (planT s.plan)),.i s.up,.i s.up,.i s.steps,.ref k.lg]∧nx≤nx'∧∀i,i<nx→i≠k.s→σ' i=σ i:=by
 refine spec_of Tryz.func75 rfl rfl (by simp [Tryz.f75]) fun B hB hnx hσB=>?_
 simp only [Tryz.f75] at hB ⊢
 have b1:=hb.b.box
 rw [SS.cs] at b1
 have hlt:=hb.b.lt
 have ne1:¬k.s=nx:=by omega
 have ne2:¬nx=k.s:=by omega
 by_cases c:s.up<inf
 ·have e:s.ends.status=2:=if_pos c
  have c':¬(1152921504606846976≤s.up):=by
   have:inf=1152921504606846976:=rfl
   omega
  refine K_run hB 100 ?_
  simp [go_sem,b1,ne1,ne2,c',e]
  exact fun i h1 h2=>by simp [oput,h2,show ¬i=nx by omega]
 ·have e:s.ends.status=3:=if_neg c
  have c':1152921504606846976≤s.up:=by
   have:inf=1152921504606846976:=rfl
   omega
  refine K_run hB 100 ?_
  simp [go_sem,b1,ne1,ne2,c',e]
  exact fun i h1 h2=>by simp [oput,h2,show ¬i=nx by omega]
end Go.Proofs.YtackfabapangdaaGreat
