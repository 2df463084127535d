/- Parts of the proof: R10, R10a, R10b, R11. -/
import Derived.Test.YtnoifgjiipgpoaaGreatDoorMA
import Derived.Lib.ConvBytes
import Derived.Calls
import Derived.TacticsIn
import Derived.OrdersIn
import Derived.RangeFuncRecord
set_option linter.all false
set_option maxHeartbeats 4000000
namespace Go.Proofs.YtnoifgjiipgpoaaGreatDoor.R
open Go.RowKit
section
variable {P:Program} {w:World} {C:Ctx} {σ:Nat→AObj} {ρa:Operand→AV} {ρ:Operand→Value}
theorem newrow_run (E:TypeId) (vs:Array Value) (w:World):(newRow E vs).run P w= .ok ⟨w.heap.size,0,none⟩ {w with heap:=w.heap.push (.cells vs E)}:=by
 simp [newRow]
theorem append_sound (hs:Sim C σ w) {t t' e:TypeId} {i i0 i1:TI} (ht:TT P t=some i0) (hd:i0.desc= .slice e) (ht':TT P t'=some i1) (hd':∀k,i1.desc≠ .int k) (he:TT P e=some i)
  (hzz:i.zero.cells.size=i.size) (hb:i.bytes≤1024) {ys:List (List T)} {x:Value} (hx:Src P w C x ys i.size) {a:AV} {s:Value} (ha:RepA w C a s) (ty:TypeId) {v:AV} {ef:Eff}
  (h:appA σ C.nx i.size ys a=some (v,ef)):
  ∃C' w' u,(Builtin.append_ #[t,t'] ty #[s,x]).run P w= .ok u w'∧Step C σ w C' (ef.on σ C.nx).1 w'∧Sim C' (ef.on σ C.nx).1 w'∧C'.nx=(ef.on σ C.nx).2∧RepA w' C' v u:=by
 have fresh:∀(σ0:Nat→AObj) (es:List (List T)) (base:Option Addr) (cap:Nat),Sim C σ0 w→s= .slice base es.length cap→Elems w C.imm es i.size base→es.length+ys.length≤mostLen→cap<es.length+ys.length→
   ∃C' w' u,(Builtin.append_ #[t,t'] ty #[s,x]).run P w= .ok u w'∧Step C σ0 w C' (fun j=>if j=C.nx then .arr i.size (es++ys) else σ0 j) w'∧Sim C' (fun j=>if j=C.nx then .arr i.size (es++ys) else σ0 j) w'∧C'.nx=C.nx+1∧RepA w' C' (.ref C.nx) u:=by
  intro σ0 es base cap hs0 hv hel hlen hcap
  subst hv
  obtain ⟨nc,vs,g1,g2,g3,g4⟩:=append_new ht hd ht' hd' he hb hzz hx hel hlen hcap ty
  obtain ⟨s1,s2⟩:=sim_world hs0 (w':={w with drawn:=w.drawn+1}) rfl rfl rfl rfl
  obtain ⟨C',hC⟩:∃C':Ctx,C'=⟨C.imm,fun j=>if j=C.nx then some w.heap.size else C.own j,fun j=>if j=C.nx then .slice (some ⟨w.heap.size,0,none⟩) (es++ys).length nc else C.hdr j,C.nx+1⟩:=⟨_,rfl⟩
  have hk:Keeps w C.imm {w with drawn:=w.drawn+1,heap:=w.heap.push (.cells vs e)} C'.imm:=by
   subst hC
   exact ⟨fun b h=>h,fun b h=>push_old {w with drawn:=w.drawn+1} _ (hs0.imm_lt b h)⟩
  have ho:C'.own C.nx=some w.heap.size:=by subst hC;exact if_pos rfl
  have hh:C'.hdr C.nx= .slice (some ⟨w.heap.size,0,none⟩) (es++ys).length nc:=by subst hC;exact if_pos rfl
  obtain ⟨s3,s4⟩:=sim_new s1 (.cells vs e) (.arr i.size (es++ys)) (.slice (some ⟨w.heap.size,0,none⟩) (es++ys).length nc) C' hC
   ⟨appended_at hel.1 hx.each,.inr ⟨w.heap.size,nc,vs,e,0,0,ho,hh,by rw [List.length_append];exact g1,push_new {w with drawn:=w.drawn+1} _,g3,.inl rfl,fun j k l c u h1 h2 h3=>(g4 j k l c u h1 h2 h3).keeps hk⟩⟩
  exact ⟨C',_,_,g2,s2.trans s4,s3,by rw [hC],.ref (by rw [hC];exact Nat.lt_succ_self _) hh⟩
 unfold appA at h
 split at h
 ·rename_i _ es
  split at h
  ·rename_i hcond
   obtain ⟨h0,hlen,hse,hsy⟩:=hcond
   cases h
   obtain ⟨b,hv,hr⟩:=rep_fsl ha
   rw [hv] at hr
   rcases Nat.eq_zero_or_pos ys.length with hy | hy
   ·have hy0:ys=[]:=List.eq_nil_of_length_eq_zero hy
    subst hy0
    have he0:es=[]:=by rcases h0 with h | h;exact h;exact absurd rfl h
    subst he0
    have hrun:=append_none ht hd ht' hd' he hx b 0 0 (Nat.le_refl _) ty
    obtain ⟨C',hC⟩:∃C':Ctx,C'=⟨C.imm,fun j=>if j=C.nx then none else C.own j,fun j=>if j=C.nx then .slice b 0 0 else C.hdr j,C.nx+1⟩:=⟨_,rfl⟩
    have ho:C'.own C.nx=none:=by subst hC;exact if_pos rfl
    have hh:C'.hdr C.nx= .slice b 0 0:=by subst hC;exact if_pos rfl
    obtain ⟨s3,s4⟩:=sim_new0 hs (.arr i.size ([]++[])) (.slice b 0 0) C' hC ⟨fun e he=>by simp at he,.inl ⟨rfl,ho,b,hh⟩⟩
    refine ⟨C',w,.slice b 0 0,by rw [hv];exact hrun,s4,s3,by rw [hC];rfl,.ref (by rw [hC];exact Nat.lt_succ_self _) hh⟩
   ·exact fresh σ es b es.length hs hv (sl_elems hr hse) hlen (by omega)
  ·cases h
 ·rename_i _ q
  split at h
  ·rename_i sz es hσ
   split at h
   ·rename_i hcond
    obtain ⟨hsz,hlen,hsy⟩:=hcond
    cases h
    subst hsz
    obtain ⟨b,n,c,hv,hq,hhq⟩:=rep_ref ha
    have ho:=hs.obj q
    rw [hσ] at ho
    rw [hv] at hhq
    obtain ⟨h3,h4,h5⟩:=arr_elems ho hhq
    subst h3
    have hqd:σ q≠ .dead:=by rw [hσ];exact fun h=>by cases h
    obtain ⟨s1,s2⟩:=sim_kill hs q
    have heq:∀o,(fun j=>if j=C.nx then o else if j=q then AObj.dead else σ j)=((Eff.next q o).on σ C.nx).1:=fun o=>rfl
    rcases Nat.lt_or_ge c (es.length+ys.length) with hcap | hcap
    ·obtain ⟨C',w',u,g1,g2,g3,g4,g5⟩:=fresh _ es b c s1 hv h5 hlen hcap
     exact ⟨C',w',u,g1,s2.trans g2,g3,g4,g5⟩
    ·obtain ⟨hszz,ho⟩:=ho
     rcases ho with ⟨he0,ho1,a',ho2⟩ | ⟨bl,cap,vs,E,lo,hi,ho1,ho2,ho3,ho4,ho5,ho6,ho7⟩
     ·subst he0
      rw [hhq] at ho2
      cases ho2
      have hy0:ys=[]:=List.eq_nil_of_length_eq_zero (by have:=hcap;simp only [List.length_nil] at this;omega)
      subst hy0
      have hrun:=append_none ht hd ht' hd' he hx b 0 0 (Nat.le_refl _) ty
      obtain ⟨C',hC⟩:∃C':Ctx,C'=⟨C.imm,fun j=>if j=C.nx then none else C.own j,fun j=>if j=C.nx then .slice b 0 0 else C.hdr j,C.nx+1⟩:=⟨_,rfl⟩
      have ho:C'.own C.nx=none:=by subst hC;exact if_pos rfl
      have hh:C'.hdr C.nx= .slice b 0 0:=by subst hC;exact if_pos rfl
      obtain ⟨s3,s4⟩:=sim_new0 s1 (.arr i.size ([]++[])) (.slice b 0 0) C' hC ⟨fun e he=>by simp at he,.inl ⟨rfl,ho,b,hh⟩⟩
      refine ⟨C',w,.slice b 0 0,by rw [hv];exact hrun,s2.trans s4,s3,by rw [hC];rfl,.ref (by rw [hC];exact Nat.lt_succ_self _) hh⟩
     ·rw [hhq] at ho2
      cases ho2
      obtain ⟨w',vs',g1,g2,g3,g4,g5,g6,g7,g8,g9⟩:=append_in ht hd ht' hd' he hx (fun y _ v hv=>repT_one hv) hszz ho4 ho5 ho6 ho7 hcap ty
      obtain ⟨C',hC⟩:∃C':Ctx,C'=⟨C.imm,fun j=>if j=C.nx then some bl else C.own j,fun j=>if j=C.nx then .slice (some ⟨bl,0,none⟩) (es++ys).length c else C.hdr j,C.nx+1⟩:=⟨_,rfl⟩
      have himm:C'.imm=C.imm:=by rw [hC]
      have hnx:C'.nx=C.nx+1:=by rw [hC]
      have hown:∀j,C'.own j=if j=C.nx then some bl else C.own j:=fun j=>by rw [hC]
      have hh:C'.hdr C.nx= .slice (some ⟨bl,0,none⟩) (es++ys).length c:=by rw [hC];exact if_pos rfl
      have hk:Keeps w C.imm w' C'.imm:=by rw [himm];exact ⟨fun b h=>h,fun b h=>g4 b fun e=>hs.sep q bl hqd ho1 (e ▸ h)⟩
      have hcc:CtxLe C C':=by
       subst hC
       exact ⟨Nat.le_succ _,fun i hi=>if_neg (by omega),fun i hi=>if_neg (by omega)⟩
      have live:∀j,j≠C.nx→(if j=C.nx then AObj.arr i.size (es++ys) else if j=q then .dead else σ j)≠ .dead→j≠q∧σ j≠ .dead:=by
       intro j hj h
       rw [if_neg hj] at h
       by_cases ej:j=q
       ·rw [if_pos ej] at h;exact absurd rfl h
       ·rw [if_neg ej] at h;exact ⟨ej,h⟩
      refine ⟨C',w',_,by rw [hv];exact g1,⟨hcc,g6,g7,g8,by omega,fun b h=>by rw [himm];exact h,fun b _ hm=>g4 b fun e=>hm ⟨q,hqd,e ▸ ho1⟩,fun b h=>?_,fun b h=>.inl (by rw [himm] at h;exact h)⟩,
       ⟨fun j hj=>?_,fun j=>?_,fun j k b hj hk' e1 e2=>?_,fun j b hj hb=>?_,fun b h=>by rw [himm] at h;rw [g5];exact hs.imm_lt b h⟩,hnx,.ref (by rw [hnx];exact Nat.lt_succ_self _) hh⟩
      ·obtain ⟨j,hj,hb⟩:=h
       rw [hown] at hb
       by_cases ej:j=C.nx
       ·rw [if_pos ej] at hb;cases hb;exact .inl ⟨q,hqd,ho1⟩
       ·rw [if_neg ej] at hb;exact .inl ⟨j,(live j ej hj).2,hb⟩
      ·rw [hnx] at hj
       show (if j=C.nx then _ else if j=q then AObj.dead else σ j)=_
       rw [if_neg (by omega)]
       split
       ·rfl
       ·exact hs.dead j (by omega)
      ·show RepO w' C' j (if j=C.nx then _ else if j=q then AObj.dead else σ j)
       by_cases ej:j=C.nx
       ·rw [if_pos ej]
        subst ej
        exact ⟨appended_at hszz hx.each,.inr ⟨bl,c,vs',E,lo,hi,by rw [hown];exact if_pos rfl,hh,by rw [List.length_append];exact hcap,g2,g3,ho6,fun j k l cc u h1 h2 h3=>(g9 j k l cc u h1 h2 h3).keeps hk⟩⟩
       ·rw [if_neg ej]
        by_cases eq:j=q
        ·rw [if_pos eq];exact True.intro
        ·rw [if_neg eq]
         by_cases hdj:σ j= .dead
         ·rw [hdj];exact True.intro
         ·exact (hs.obj j).step hk hcc (live_lt hs hdj) (fun b hb=>g4 b fun e=>eq (hs.inj j q bl hdj hqd (e ▸ hb) ho1))
      ·rw [hown] at e1 e2
       by_cases ej:j=C.nx<;>by_cases ek:k=C.nx
       ·omega
       ·rw [if_pos ej] at e1;rw [if_neg ek] at e2;cases e1
        obtain ⟨f1,f2⟩:=live k ek hk'
        exact absurd (hs.inj k q bl f2 hqd e2 ho1) f1
       ·rw [if_neg ej] at e1;rw [if_pos ek] at e2;cases e2
        obtain ⟨f1,f2⟩:=live j ej hj
        exact absurd (hs.inj j q bl f2 hqd e1 ho1) f1
       ·rw [if_neg ej] at e1;rw [if_neg ek] at e2
        exact hs.inj j k b (live j ej hj).2 (live k ek hk').2 e1 e2
      ·rw [himm]
       rw [hown] at hb
       by_cases ej:j=C.nx
       ·rw [if_pos ej] at hb;cases hb;exact hs.sep q bl hqd ho1
       ·rw [if_neg ej] at hb;exact hs.sep j b (live j ej hj).2 hb
   ·cases h
  ·cases h
 ·cases h
theorem zero_flat {z:List T} {n:Nat}:∀e∈List.replicate n z,e.length=z.length:=by
 intro e he
 rw [(List.mem_replicate.1 he).2]
theorem mod_get {z:Array Value} {n m:Nat} (h:n<m*z.size):((Array.range (m*z.size)).map (z[· % z.size]!))[n]? =z[n % z.size]?:=by
 have hz:0<z.size:=by
  rcases Nat.eq_zero_or_pos z.size with h0 | h0
  ·rw [h0] at h;simp at h
  ·exact h0
 have hm:=Nat.mod_lt n hz
 rw [Array.getElem?_map,Array.getElem?_range,if_pos h]
 simp [hm]
theorem zeroT {i:TI} {z:List T} (h:toTs (zeroA i)=some z):z.length=i.zero.cells.size∧∀(k:Nat) (c:T) (u:Value),z[k]? =some c→i.zero.cells[k]? =some u→RepT w C.imm c u:=by
 obtain ⟨h1,h2⟩:=toTs_rep h
 obtain ⟨h3,h4⟩:=zero_rep (w:=w) (C:=C) i
 refine ⟨by omega,fun k c u hc hu=>?_⟩
 have hk:k<(zeroA i).length:=by rw [h1];exact (List.getElem?_eq_some_iff.1 hc).1
 exact toT_rep (h2 k _ c (List.getElem?_eq_getElem hk) hc) (h4 k _ u (List.getElem?_eq_getElem hk) hu)
theorem fillT_rep {sz:Nat} {ps:List (Nat×AV)}:∀{qs:List (Nat×Value)} {es r:List (List T)} {vs:Array Value},
  ps.length=qs.length→(∀(k:Nat) (a:Nat×AV) (q:Nat×Value),ps[k]? =some a→qs[k]? =some q→a.1=q.1∧RepA w C a.2 q.2)→
  (∀e∈es,e.length=sz)→vs.size=es.length*sz→(∀(j k:Nat) (e:List T) (c:T) (u:Value),es[j]? =some e→e[k]? =some c→vs[j*sz+k]? =some u→RepT w C.imm c u)→
  fillT sz es ps=some r→∃us,Instr.fill (fun i=>some (i*sz,sz)) vs qs=some us∧us.size=r.length*sz∧r.length=es.length∧(∀e∈r,e.length=sz)∧
   ∀(j k:Nat) (e:List T) (c:T) (u:Value),r[j]? =some e→e[k]? =some c→us[j*sz+k]? =some u→RepT w C.imm c u:=by
 induction ps with
 |nil=>
  intro qs es r vs hl _ hsz hlen hr h
  cases qs with
  |cons q qs=>simp at hl
  |nil=>simp only [fillT] at h;cases h;exact ⟨vs,rfl,hlen,rfl,hsz,hr⟩
 |cons p ps ih=>
  intro qs es r vs hl hp hsz hlen hr h
  obtain ⟨i,a⟩:=p
  cases qs with
  |nil=>simp at hl
  |cons q qs=>
   obtain ⟨h1,hra⟩:=hp 0 _ _ rfl rfl
   obtain ⟨i',v⟩:=q
   simp only at h1 hra
   subst h1
   simp only [fillT] at h
   split at h
   ·rename_i c hc
    split at h
    ·rename_i hcond
     obtain ⟨hcl,hi⟩:=hcond
     obtain ⟨cs,hcells,hts⟩:=Option.bind_eq_some_iff.1 hc
     obtain ⟨hxl,hxr⟩:=cells_rep hcells hra
     obtain ⟨htl,htr⟩:=toTs_rep hts
     have hb:(i+1)*sz≤es.length*sz:=Nat.mul_le_mul_right _ hi
     rw [Nat.add_mul,Nat.one_mul] at hb
     have hfold:=fun k=>foldSet_get v.cells.toList vs (i*sz) 0 k (by simp;omega)
     have hzip:v.cells.zipIdx.foldl (fun (cs:Array Value) (x:Value×Nat)=>cs.setIfInBounds (i*sz+x.2) x.1) vs=(v.cells.toList.zipIdx 0).foldl (fun (cs:Array Value) (x:Value×Nat)=>cs.setIfInBounds (i*sz+x.2) x.1) vs:=by
      rw [←Array.foldl_toList,Array.toList_zipIdx]
     obtain ⟨us,hus,g1,g2,g3,g4⟩:=ih (qs:=qs) (es:=es.set i c) (r:=r) (vs:=(v.cells.toList.zipIdx 0).foldl (fun (cs:Array Value) (x:Value×Nat)=>cs.setIfInBounds (i*sz+x.2) x.1) vs)
      (by simpa using hl) (fun k a q ha hq=>hp (k+1) a q ha hq)
      (fun e he=>by rcases List.mem_or_eq_of_mem_set he with h | rfl;exact hsz e h;exact hcl)
      (by rw [(hfold 0).1,List.length_set];exact hlen)
      (fun j k e cc u he hcc hu=>by
       rw [(hfold _).2] at hu
       simp only [Nat.add_zero,Array.length_toList,←hxl] at hu
       rw [List.getElem?_set] at he
       by_cases hj:i=j
       ·subst hj
        rw [if_pos rfl,if_pos hi] at he
        cases he
        have hkl:k<c.length:=(List.getElem?_eq_some_iff.1 hcc).1
        rw [if_pos (by omega),Array.getElem?_toList,show i*sz+k-i*sz=k by omega] at hu
        have hlt:k<cs.length:=by omega
        exact toT_rep (htr _ _ _ (List.getElem?_eq_getElem hlt) hcc) (hxr _ _ _ (List.getElem?_eq_getElem hlt) hu)
       ·rw [if_neg hj] at he
        have hkl:k<e.length:=(List.getElem?_eq_some_iff.1 hcc).1
        rw [hsz e (List.mem_of_getElem? he)] at hkl
        have hne:¬(i*sz≤j*sz+k∧j*sz+k<i*sz+cs.length):=by
         rcases Nat.lt_or_gt_of_ne hj with hlt | hgt
         ·have:(i+1)*sz≤j*sz:=Nat.mul_le_mul_right _ hlt
          rw [Nat.add_mul,Nat.one_mul] at this
          omega
         ·have:(j+1)*sz≤i*sz:=Nat.mul_le_mul_right _ hgt
          rw [Nat.add_mul,Nat.one_mul] at this
          omega
        rw [if_neg hne] at hu
        exact hr j k e cc u he hcc hu) h
     refine ⟨us,?_,g1,by rw [g2,List.length_set],g3,g4⟩
     simp only [Instr.fill]
     rw [if_neg (by simp;omega)]
     exact (congrArg (fun z=>Instr.fill (fun i=>some (i*sz,sz)) z qs) hzip).trans hus
    ·cases h
   ·cases h
theorem buildSlice_strong (hs:Sim C σ w) (hρ:∀x,RepA w C (ρa x) (ρ x)) {t:TypeId} {n:Nat} {parts:Array (Nat×Operand)} {v:AV} (h:evalP P ρa (.buildSlice t n parts)=some v):
  ∃us e r,(Instr.buildSlice t n (parts.map fun (i,x)=>(i,ρ x))).run P w= .ok (.slice (some ⟨w.heap.size,0,none⟩) n n) {w with heap:=w.heap.push (.cells us e)}∧v= .fsl r∧r.length=n∧(∃sz b z,TT P t=some ⟨.slice e,sz,b,z⟩)∧
   (∃i,TT P e=some i∧us.size=r.length*i.size∧(∀x∈r,x.length=i.size)∧∀(j k:Nat) (l:List T) (c:T) (u:Value),r[j]? =some l→l[k]? =some c→us[j*i.size+k]? =some u→RepT w C.imm c u)∧
   ∀fr,RepT {w with heap:=w.heap.push (.cells us e fr)} (fun b=>C.imm b∨b=w.heap.size) (.sl r) (.slice (some ⟨w.heap.size,0,none⟩) n n):=by
 simp only [evalP] at h
 split at h
 ·rename_i e sz by_ z ht
  split at h
  ·rename_i i hi
   split at h
   ·cases h
   ·rename_i hsmall
    split at h
    ·rename_i zt hz
     obtain ⟨r,hr,rfl⟩:=Option.map_eq_some_iff.1 h
     have hps:(parts.toList.map fun p=>(p.1,ρa p.2)).length=(parts.map fun (i,x)=>(i,ρ x)).toList.length:=by simp
     have hpr:∀(k:Nat) (a:Nat×AV) (q:Nat×Value),(parts.toList.map fun p=>(p.1,ρa p.2))[k]? =some a→(parts.map fun (i,x)=>(i,ρ x)).toList[k]? =some q→a.1=q.1∧RepA w C a.2 q.2:=by
      intro k a q ha hq
      simp only [List.getElem?_map,Array.toList_map,Option.map_eq_some_iff] at ha hq
      obtain ⟨p,hp,rfl⟩:=ha
      obtain ⟨p',hp',rfl⟩:=hq
      rw [hp] at hp'
      cases hp'
      exact ⟨rfl,hρ _⟩
     obtain ⟨hzl,hzr⟩:=zeroT (w:=w) (C:=C) hz
     have hzz:=tt_zero hi
     have hzs:∀e∈List.replicate n zt,e.length=i.size:=fun e he=>by rw [zero_flat e he];omega
     obtain ⟨vs0,hv0,hv1,hv2⟩:∃vs0:Array Value,(∀w:World,(if n*i.size=0 then pure #[] else (do pure (←zeroValue e).cells:Sem (Array Value))).run P w= .ok (if n*i.size=0 then #[] else i.zero.cells) w)∧
       vs0=(Array.range (n*i.size)).map ((if n*i.size=0 then #[] else i.zero.cells)[· % (if n*i.size=0 then #[] else i.zero.cells).size]!)∧vs0.size=(List.replicate n zt).length*i.size:=by
      refine ⟨_,fun w=>?_,rfl,by simp⟩
      by_cases h0:n*i.size=0
      ·rw [if_pos h0,if_pos h0];rfl
      ·rw [if_neg h0,if_neg h0]
       simp only [Sem.run_bind,run_zero hi,Result.andThen_ok,Sem.run_pure]
     have hvr:∀(j k:Nat) (l:List T) (c:T) (u:Value),(List.replicate n zt)[j]? =some l→l[k]? =some c→vs0[j*i.size+k]? =some u→RepT w C.imm c u:=by
      intro j k l c u hl hc hu
      have hj:j<n:=by simpa using (List.getElem?_eq_some_iff.1 hl).1
      have hlz:l=zt:=by
       have:=List.mem_of_getElem? hl
       exact (List.mem_replicate.1 this).2
      subst hlz
      have hk:k<i.size:=by have:=(List.getElem?_eq_some_iff.1 hc).1;omega
      have hb:(j+1)*i.size≤n*i.size:=Nat.mul_le_mul_right _ hj
      rw [Nat.add_mul,Nat.one_mul] at hb
      have hne:n*i.size≠0:=by omega
      rw [←hzz] at hb hk hne
      rw [hv1,if_neg (by rw [←hzz];exact hne),←hzz] at hu
      rw [mod_get (by omega),show (j*i.zero.cells.size+k) % i.zero.cells.size=k by rw [Nat.mul_comm,Nat.mul_add_mod,Nat.mod_eq_of_lt (by omega)]] at hu
      exact hzr k c u hc hu
     obtain ⟨us,hus,g1,g2,g3,g4⟩:=fillT_rep hps hpr hzs hv2 hvr hr
     have hrl:r.length=n:=by rw [g2];simp
     refine ⟨us,e,r,?_,rfl,hrl,⟨_,_,_,ht⟩,⟨i,hi,by rw [g1,g2],g3,g4⟩,fun fr=>?_⟩
     ·simp only [Instr.buildSlice,Sem.run_bind,run_und ht,Result.andThen_ok,run_size hi]
      rw [if_neg hsmall]
      rw [hv1] at hus
      by_cases h0:n*i.size=0
      ·rw [if_pos h0] at hus ⊢
       simp only [Sem.run_bind,Sem.run_pure,Result.andThen_ok,hus,newrow_run]
      ·rw [if_neg h0] at hus ⊢
       simp only [Sem.run_bind,Sem.run_pure,run_zero hi,Result.andThen_ok,hus,newrow_run]
     ·obtain ⟨s1,s2⟩:=sim_imm hs (.cells us e fr)
      have hk:=s2.keeps hs
      rw [←hrl]
      rcases Nat.eq_zero_or_pos r.length with h0 | h0
      ·have:r=[]:=List.eq_nil_of_length_eq_zero h0
       subst this
       exact .nil
      ·refine .sl (u:=fun k=>us.getD k undef) h0 g3 (Nat.le_refl _) (.inr rfl) (fun k hk'=>?_) (fun j k l c hl hc=>?_)
       ·rw [add_base,cell_in (push_new w _)]
        have:k<us.size:=by omega
        simp [this]
       ·have hj:j<r.length:=(List.getElem?_eq_some_iff.1 hl).1
        have hkk:k<i.size:=by have:=(List.getElem?_eq_some_iff.1 hc).1;rw [g3 l (List.mem_of_getElem? hl)] at this;exact this
        have hb:(j+1)*i.size≤r.length*i.size:=Nat.mul_le_mul_right _ hj
        rw [Nat.add_mul,Nat.one_mul] at hb
        have hlt:j*i.size+k<us.size:=by omega
        have:=g4 j k l c _ hl hc (Array.getElem?_eq_getElem hlt)
        simpa [hlt] using this.keeps hk
    ·cases h
  ·cases h
 ·cases h
theorem buildSlice_sound (hs:Sim C σ w) (hρ:∀x,RepA w C (ρa x) (ρ x)) {t:TypeId} {n:Nat} {parts:Array (Nat×Operand)} {v:AV} (h:evalP P ρa (.buildSlice t n parts)=some v):
  ∃C' w' u,(Instr.buildSlice t n (parts.map fun (i,x)=>(i,ρ x))).run P w= .ok u w'∧Step C σ w C' σ w'∧Sim C' σ w'∧C'.nx=C.nx∧RepA w' C' v u:=by
 obtain ⟨us,e,r,h1,rfl,h2,_,_,h3⟩:=buildSlice_strong hs hρ h
 obtain ⟨s1,s2⟩:=sim_imm hs (.cells us e)
 have:=h3 (0,0)
 rw [←h2] at h1 this
 exact ⟨_,_,_,by rw [h2] at h1 ⊢;exact h1,s2,s1,rfl,.fsl this⟩
theorem grown_ge (w:World) (n o:Nat) (e:TypeId):n≤grownCap w n o e:=by
 unfold grownCap
 simp [Question.cut]
theorem bytesT_rep (w:World) (e:TypeId) (s:ByteArray) (imm:Nat→Prop) (hi:imm w.heap.size):RepT (Lib.bytesWorld w e s) imm (.sl (bytesT s)) (.slice (some ⟨w.heap.size,0,none⟩) s.size (grownCap w s.size 0 e)):=by
 have hl:(bytesT s).length=s.size:=by unfold bytesT;rw [List.length_map,Array.length_toList];rfl
 have hsz:∀x∈bytesT s,x.length=1:=by
  intro x hx
  simp only [bytesT,List.mem_map] at hx
  obtain ⟨b,_,rfl⟩:=hx
  rfl
 rw [←hl]
 rcases Nat.eq_zero_or_pos (bytesT s).length with h0 | h0
 ·have:bytesT s=[]:=List.eq_nil_of_length_eq_zero h0
  rw [this]
  exact .nil
 ·refine .sl (u:=fun k=>.int .u8 (s.data.toList.getD k 0).toNat) h0 hsz (by rw [hl];exact grown_ge _ _ _ _) hi (fun k hk=>?_) (fun j k x c hx hc=>?_)
  ·rw [add_base,Lib.bytesWorld_cell w e s k (by omega)]
  ·simp only [bytesT,List.getElem?_map,Option.map_eq_some_iff] at hx
   obtain ⟨b,hb,rfl⟩:=hx
   cases k with
   |succ k=>simp at hc
   |zero=>
    simp at hc
    subst hc
    have:s.data.toList.getD j 0=b:=by simp [List.getD_eq_getElem?_getD,hb]
    simp only [Nat.mul_one,Nat.add_zero,this]
    exact .v rfl
theorem convert_sound (hs:Sim C σ w) (hρ:∀x,RepA w C (ρa x) (ρ x)) {s d:TypeId} {x:Operand} {z:ByteArray} (hx:ρa x= .t (.v (.string z))) {v:AV} (h:evalP P ρa (.convert s d x)=some v):
  ∃C' w' u,(convert s d (ρ x)).run P w= .ok u w'∧Step C σ w C' σ w'∧Sim C' σ w'∧C'.nx=C.nx∧RepA w' C' v u:=by
 have hr:=hρ x
 rw [hx] at hr
 obtain ⟨hv,_⟩:=rep_v hr
 simp only [evalP,hx] at h
 split at h
 ·rename_i heq;cases heq
 ·rename_i heq;cases heq
 ·rename_i heq;cases heq
 ·rename_i hs' hd heq
  cases heq
  split at h
  ·rename_i he
   cases h
   obtain ⟨s1,s2⟩:=sim_imm' hs (w':=Lib.bytesWorld w _ z) rfl rfl rfl (Lib.bytesWorld_size _ _ _) (fun b hb=>Lib.bytesWorld_at_old w _ z b hb)
   refine ⟨_,_,_,by rw [hv];exact Lib.run_convert_string_bytes w s d _ z (tt_some hs').1 (tt_some hd).1 (tt_some he).1,s2,s1,rfl,.t (bytesT_rep w _ z _ (.inr rfl))⟩
  ·cases h
 ·cases h
theorem evalP_sound (hs:Sim C σ w) (hρ:∀x,RepA w C (ρa x) (ρ x)) {o:Oper} {v:AV} (h:evalP P ρa o.op=some v):Meets ((execOp ρ o).run P w) C σ w v σ C.nx:=by
 obtain ⟨dst,op,type,pos,after,guard⟩:=o
 simp only at h
 by_cases h1:∃t n ps,op= .buildSlice t n ps
 ·obtain ⟨t,n,ps,rfl⟩:=h1
  obtain ⟨C',w',u,g1,g2,g3,g4,g5⟩:=buildSlice_sound hs hρ h
  exact ⟨C',w',u,.inl (by simp only [execOp,Sem.run_bind,g1,Result.andThen_ok,Sem.run_pure]),g2,g3,g4,g5⟩
 ·by_cases h2:∃s d x z,op= .convert s d x∧ρa x= .t (.v (.string z))
  ·obtain ⟨s,d,x,z,rfl,hx⟩:=h2
   obtain ⟨C',w',u,g1,g2,g3,g4,g5⟩:=convert_sound hs hρ hx h
   exact ⟨C',w',u,.inl (by simp only [execOp,Sem.run_bind,g1,Result.andThen_ok,Sem.run_pure]),g2,g3,g4,g5⟩
  ·obtain ⟨u,g1,g2⟩:=evalP_same hρ (o:=⟨dst,op,type,pos,after,guard⟩) (fun t n ps e=>h1 ⟨t,n,ps,e⟩) (fun s d x z e hx=>h2 ⟨s,d,x,z,e,hx⟩) h
   exact meets_value hs g1 g2
theorem makeSlice_sound (hs:Sim C σ w) (hρ:∀x,RepA w C (ρa x) (ρ x)) {t:TypeId} {l c:Operand} {v:AV} {e:Eff} (h:evalS P σ C.nx ρa (.makeSlice t l c)=some (v,e)):
  ∃C' w' u,(Instr.makeSlice t (ρ l) (ρ c)).run P w= .ok u w'∧Step C σ w C' (e.on σ C.nx).1 w'∧Sim C' (e.on σ C.nx).1 w'∧C'.nx=(e.on σ C.nx).2∧RepA w' C' v u:=by
 simp only [evalS] at h
 split at h
 ·rename_i el sz by_ z n m ht hn hm
  split at h
  ·rename_i i hi
   split at h
   ·rename_i zt hz
    split at h
    ·rename_i hcond
     obtain ⟨h0,rfl,hmost,hby⟩:=hcond
     cases h
     obtain ⟨kl,hl⟩:=asInt_rep hn (hρ l)
     obtain ⟨kc,hc⟩:=asInt_rep hm (hρ c)
     obtain ⟨hzl,hzr⟩:=zeroT (w:=w) (C:=C) hz
     have hzz:=tt_zero hi
     obtain ⟨j,hj,hj1,hj2,hj3⟩:=run_info hi w
     simp only [mostLen] at hmost
     have hw:IntKind.i64.wrap n=n:=by
      unfold IntKind.wrap IntKind.signed IntKind.bits
      simp only [Bool.true_and]
      rw [Int.emod_eq_of_lt h0 (by omega)]
      rw [if_neg (by simp;omega)]
     have hbig:¬((i.bytes:Int)*n>2^48):=by
      have:(i.bytes:Int)*n≤1024*n:=Int.mul_le_mul_of_nonneg_right (by omega) h0
      omega
     obtain ⟨vs,hvs⟩:∃vs:Array Value,vs=(Array.range (n.toNat*i.size)).map ((if n.toNat*i.size=0 then #[] else i.zero.cells)[· % (if n.toNat*i.size=0 then #[] else i.zero.cells).size]!):=⟨_,rfl⟩
     have hvsz:vs.size=n.toNat*i.size:=by rw [hvs];simp
     obtain ⟨C',hC⟩:∃C':Ctx,C'=⟨C.imm,fun j=>if j=C.nx then some w.heap.size else C.own j,fun j=>if j=C.nx then .slice (some ⟨w.heap.size,0,none⟩) n.toNat n.toNat else C.hdr j,C.nx+1⟩:=⟨_,rfl⟩
     have hk:Keeps w C.imm {w with heap:=w.heap.push (.cells vs el)} C'.imm:=by
      subst hC
      exact ⟨fun b h=>h,fun b h=>push_old w _ (hs.imm_lt b h)⟩
     have ho:C'.own C.nx=some w.heap.size:=by subst hC;exact if_pos rfl
     have hh:C'.hdr C.nx= .slice (some ⟨w.heap.size,0,none⟩) n.toNat n.toNat:=by subst hC;exact if_pos rfl
     obtain ⟨s3,s4⟩:=sim_new hs (.cells vs el) (.arr i.size (List.replicate n.toNat zt)) (.slice (some ⟨w.heap.size,0,none⟩) n.toNat n.toNat) C' hC
      ⟨fun e he=>by rw [zero_flat e he];omega,.inr ⟨w.heap.size,n.toNat,vs,el,0,0,ho,by rw [List.length_replicate];exact hh,by simp,push_new w _,hvsz,.inl rfl,fun j k l c u hl hc hu=>by
       have hj:j<n.toNat:=by simpa using (List.getElem?_eq_some_iff.1 hl).1
       have hlz:l=zt:=(List.mem_replicate.1 (List.mem_of_getElem? hl)).2
       subst hlz
       have hkk:k<i.size:=by have:=(List.getElem?_eq_some_iff.1 hc).1;omega
       have hb:(j+1)*i.size≤n.toNat*i.size:=Nat.mul_le_mul_right _ hj
       rw [Nat.add_mul,Nat.one_mul] at hb
       have hne:n.toNat*i.size≠0:=by omega
       rw [←hzz] at hb hkk hne
       rw [hvs,if_neg (by rw [←hzz];exact hne),←hzz] at hu
       rw [mod_get (by omega),show (j*i.zero.cells.size+k) % i.zero.cells.size=k by rw [Nat.mul_comm,Nat.mul_add_mod,Nat.mod_eq_of_lt (by omega)]] at hu
       exact (hzr k c u hc hu).keeps hk⟩⟩
     refine ⟨C',_,.slice (some ⟨w.heap.size,0,none⟩) n.toNat n.toNat,?_,s4,s3,by rw [hC];rfl,.ref (by rw [hC];exact Nat.lt_succ_self _) hh⟩
     simp only [Instr.makeSlice,Sem.run_bind,run_und ht,Result.andThen_ok,hl,hc,Go.asInt,asIntOf,Sem.run_pure,hj,hw,hj2]
     rw [if_neg (by simp;omega)]
     simp only [Sem.run_bind,run_askRoom,Result.andThen_ok,run_size hi]
     by_cases h00:n.toNat*i.size=0
     ·rw [if_pos h00] at hvs ⊢
      simp only [Sem.run_bind,Sem.run_pure,Result.andThen_ok,←hvs,newrow_run]
     ·rw [if_neg h00] at hvs ⊢
      simp only [Sem.run_bind,Sem.run_pure,run_zero hi,Result.andThen_ok,←hvs,newrow_run]
    ·cases h
   ·cases h
  ·cases h
 ·cases h
theorem evalS_sound (hs:Sim C σ w) (hρ:∀x,RepA w C (ρa x) (ρ x)) {o:Oper} {v:AV} {e:Eff} (h:evalS P σ C.nx ρa o.op=some (v,e)):Meets ((execOp ρ o).run P w) C σ w v (e.on σ C.nx).1 (e.on σ C.nx).2:=by
 obtain ⟨dst,op,type,pos,after,guard⟩:=o
 simp only at h
 cases op with
 |alloc t=>
  simp only [evalS] at h
  split at h
  ·rename_i i hi
   cases h
   obtain ⟨h1,h2⟩:=zero_rep (w:=w) (C:=C) i
   exact meets_box hs h1 h2 (E:=t) (by simp only [execOp,Instr.alloc,Sem.run_bind,run_zero hi,Result.andThen_ok,newVar,newrow_run,Sem.run_pure])
  ·cases h
 |box t x=>
  simp only [evalS] at h
  split at h
  ·rename_i cs hc
   cases h
   obtain ⟨h1,h2⟩:=cells_rep hc (hρ x)
   exact meets_box hs h1 h2 (E:=t) (by simp only [execOp,Instr.box,Sem.run_bind,newVar,newrow_run,Result.andThen_ok,Sem.run_pure])
  ·cases h
 |load t a=>
  obtain ⟨rfl,u,h1,h2⟩:=load_sound hs hρ h
  exact meets_value hs (by simp only [execOp,Sem.run_bind,h1,Result.andThen_ok,Sem.run_pure]) h2
 |store t a x=>
  obtain ⟨rfl,w',σ',h1,h2,h3,h4,h5⟩:=store_sound hs hρ h
  refine ⟨C,w',undef,.inr ⟨?_,rfl⟩,by rw [h2];exact h5,by rw [h2];exact h4,h3.symm,.tup rfl (fun k a u h=>by simp at h)⟩
  simp only [execOp,Sem.run_bind,h1,Result.andThen_ok,Sem.run_pure]
 |indexAddr t x ix=>
  simp only [evalS] at h
  split at h
  ·rename_i el sz by_ z n q ht hn hc
   split at h
   ·rename_i i szz es hi hσ
    split at h
    ·rename_i hsz
     subst hsz
     obtain ⟨j,hj,he⟩:=Option.map_eq_some_iff.1 h
     cases he
     obtain ⟨h0,h1,rfl,h2⟩:=idx_some hj
     have hx:=hρ x
     rw [hc] at hx
     obtain ⟨b,m,c,hv,hq,hhq⟩:=rep_ref hx
     obtain ⟨k,hk⟩:=asInt_rep hn (hρ ix)
     have ho:=hs.obj q
     rw [hσ] at ho
     rw [hv] at hhq
     obtain ⟨hszz,⟨he0,_,_⟩ | ⟨bl,cap,vs,E,lo,hi',ho1,ho2,ho3,ho4,_⟩⟩:=ho
     ·subst he0;simp at h2
     ·rw [hhq] at ho2
      cases ho2
      refine meets_value hs (u:=.pointer (some ⟨bl,n.toNat*i.size,none⟩)) ?_ (.el hq ho1 hhq)
      simp only [execOp,Instr.indexAt,asIntOf,Sem.run_bind,Sem.run_pure,Result.andThen_ok,run_und ht,hv,hk,Sem.run_ite,run_size hi]
      rw [if_pos ⟨h0,h1⟩,add_base]
      rfl
    ·cases h
   ·cases h
  ·cases h
 |range t x=>
  simp only [evalS] at h
  split at h
  ·rename_i s ht hx0
   cases h
   have hx:=hρ x
   rw [hx0] at hx
   obtain ⟨hx,_⟩:=rep_v hx
   obtain ⟨C',hC⟩:∃C':Ctx,C'=⟨C.imm,fun j=>if j=C.nx then some w.heap.size else C.own j,fun j=>if j=C.nx then undef else C.hdr j,C.nx+1⟩:=⟨_,rfl⟩
   have ho:C'.own C.nx=some w.heap.size:=by subst hC;exact if_pos rfl
   obtain ⟨s3,s4⟩:=sim_new hs (.stringIter s 0) (.iter s 0) undef C' hC ⟨w.heap.size,ho,push_new w _⟩
   refine ⟨C',_,.pointer (some ⟨w.heap.size,0,none⟩),.inl ?_,s4,s3,by rw [hC];rfl,.ptr (by rw [hC];exact Nat.lt_succ_self _) ho⟩
   simp [execOp,Instr.range,hx,run_und ht]
  ·cases h
 |next x st=>
  cases st with
  |false=>simp only [evalS] at h;cases h
  |true=>
   simp only [evalS] at h
   split at h
   ·rename_i b hx0
    have hx:=hρ x
    rw [hx0] at hx
    obtain ⟨bl,hv,h1,h2⟩:=rep_ptr hx
    split at h
    ·rename_i s k hσ
     have hob:=hs.obj b
     rw [hσ] at hob
     obtain ⟨bl',g1,g2⟩:=hob
     rw [h2] at g1
     cases g1
     have hget:(getObj bl).run P w= .ok (.stringIter s k) w:=by simp [getObj,Sem.run,g2]
     have hset:∀o,(setObj bl o).run P w= .ok () {w with heap:=w.heap.setIfInBounds bl o}:=fun o=>by simp [setObj,Sem.run,g2]
     split at h
     ·rename_i hk
      cases h
      have hlt:bl<w.heap.size:=(Array.getElem?_eq_some_iff.1 g2).1
      obtain ⟨s3,s4⟩:=sim_set hs (i:=b) (bl:=bl) (by rw [hσ];exact (fun h=>by cases h)) h2 (w':={w with heap:=w.heap.setIfInBounds bl (.stringIter s (k+(Utf8.decode s k).2))}) rfl rfl rfl (by simp) (fun x hx=>Array.getElem?_setIfInBounds_ne (fun e=>hx e.symm)) (obj:=.iter s (k+(Utf8.decode s k).2)) ⟨bl,h2,by simp [hlt]⟩
      refine ⟨C,_,.tuple #[.bool true,.int .i64 k,.int .i32 (Utf8.decode s k).1],.inl ?_,s4,s3,rfl,?_⟩
      ·simp only [execOp,Instr.next,hv,Sem.run_bind,hget,Result.andThen_ok,if_pos hk,hset,Sem.run_pure,goInt]
      ·refine .tup rfl fun j a u ha hu=>?_
       rcases j with _ | _ | _ | j<;>simp at ha hu<;>subst ha<;>subst hu<;>exact .t (.v rfl)
     ·rename_i hk
      cases h
      refine ⟨C,w,.tuple #[.bool false],.inl ?_,Step.refl _ _ _,hs,rfl,?_⟩
      ·simp only [execOp,Instr.next,hv,Sem.run_bind,hget,Result.andThen_ok,if_neg hk,Sem.run_pure]
      ·refine .tup rfl fun j a u ha hu=>?_
       rcases j with _ | j<;>simp at ha hu
       subst ha;subst hu;exact .t (.v rfl)
    ·cases h
   ·cases h
 |makeMap t r=>
  cases r with
  |some r=>simp only [evalS] at h;cases h
  |none=>
   simp only [evalS] at h
   cases h
   obtain ⟨C',hC⟩:∃C':Ctx,C'=⟨C.imm,fun j=>if j=C.nx then some w.heap.size else C.own j,fun j=>if j=C.nx then undef else C.hdr j,C.nx+1⟩:=⟨_,rfl⟩
   have ho:C'.own C.nx=some w.heap.size:=by subst hC;exact if_pos rfl
   obtain ⟨s3,s4⟩:=sim_new hs (.map #[] 0) (.map []) undef C' hC ⟨w.heap.size,#[],0,ho,push_new w _,rfl,fun k a u h=>by simp at h⟩
   refine ⟨C',_,.map (some w.heap.size),.inl ?_,s4,s3,by rw [hC];rfl,.mapr (by rw [hC];exact Nat.lt_succ_self _) ho⟩
   simp [execOp,Instr.makeMap]
 |makeSlice t l c=>
  obtain ⟨C',w',u,h1,h2,h3,h4,h5⟩:=makeSlice_sound hs hρ h
  exact ⟨C',w',u,.inl (by simp only [execOp,Sem.run_bind,h1,Result.andThen_ok,Sem.run_pure]),h2,h3,h4,h5⟩
 |call c=>
  simp only [evalS] at h
  have hv:execOp ρ ⟨dst,.call c,type,pos,after,guard⟩=(do let d ←resolve ρ c type;invoke d.target d.args):=rfl
  unfold evalC at h
  split at h
  ·rename_i hf
   split at h
   ·rename_i x t hargs htys
    have e1:c.args= #[x]:=by rw [←Array.toArray_toList (xs:=c.args),hargs]
    have e2:c.argTypes= #[t]:=by rw [←Array.toArray_toList (xs:=c.argTypes),htys]
    split at h
    ·rename_i q ht hc
     split at h
     ·rename_i sz es hσ
      cases h
      have hx:=hρ x
      rw [hc] at hx
      obtain ⟨b,m,cc,hvx,hq,hhq⟩:=rep_ref hx
      have ho:=hs.obj q
      rw [hσ] at ho
      rw [hvx] at hhq
      obtain ⟨h3,h4,h5⟩:=arr_elems ho hhq
      subst h3
      refine meets_value hs ?_ (.t (.v rfl))
      rw [hv]
      simp only [resolve,hf,Sem.run_bind,Sem.run_pure,Result.andThen_ok,invoke,builtin,e1,e2,List.map_toArray,List.map_cons,List.map_nil,hvx]
      simp [Builtin.len_,run_und ht,goInt]
     ·cases h
    ·cases h
   ·cases h
  ·rename_i hf
   split at h
   ·rename_i s x t t' hargs htys
    have e1:c.args= #[s,x]:=by rw [←Array.toArray_toList (xs:=c.args),hargs]
    have e2:c.argTypes= #[t,t']:=by rw [←Array.toArray_toList (xs:=c.argTypes),htys]
    split at h
    ·rename_i el sz by_ z d sz' by' z' ht ht'
     split at h
     ·rename_i i ys hi hys
      split at h
      ·rename_i hbb
       obtain ⟨hb,hpos⟩:=hbb
       have hsz:∀y∈ys,y.length=i.size:=by
        unfold appA at h
        split at h
        ·split at h
         ·rename_i hcc;exact hcc.2.2.2
         ·cases h
        ·split at h
         ·split at h
          ·rename_i hcc;exact hcc.2.2
          ·cases h
         ·cases h
        ·cases h
       have hd':∀k,(⟨d,sz',by',z'⟩:TI).desc≠ .int k:=by
        intro k hk
        have hk':d= .int k:=hk
        subst hk'
        cases hys
       have hsrc:Src P w C (ρ x) ys i.size:=by
        have hx:=hρ x
        unfold srcA at hys
        split at hys
        ·exact src_of hs hys hx hsz
        ·split at hys
         ·rename_i str hc
          cases hys
          rw [hc] at hx
          obtain ⟨hvx,_⟩:=rep_v hx
          rw [hvx]
          exact src_bytes str hsz hpos
         ·cases hys
        ·cases hys
       obtain ⟨C',w',u,g1,g2,g3,g4,g5⟩:=append_sound hs ht rfl ht' hd' hi (tt_zero hi) hb hsrc (hρ s) type h
       refine ⟨C',w',u,.inl ?_,g2,g3,g4,g5⟩
       rw [hv]
       simp only [resolve,hf,Sem.run_bind,Sem.run_pure,Result.andThen_ok,invoke,builtin,e1,e2,List.map_toArray,List.map_cons,List.map_nil,g1]
      ·cases h
     ·cases h
    ·cases h
   ·cases h
  ·cases h
 |_=>simp only [evalS] at h;cases h
end
end Go.Proofs.YtnoifgjiipgpoaaGreatDoor.R

namespace Go.Proofs.YtnoifgjiipgpoaaGreatDoor.R
open Go.RowKit
def FR (ro:Option Nat):Fence:={Fence.wide with round:=ro}
section
variable {P:Program} {ro:Option Nat} {Q:Exit→Act→World→Prop} {a:Act} {w:World}
theorem FR_in (m:Machine):Machine.fenced P (FR ro) m:=fenced_wide P m
theorem FR_depth {n:Nat}:(FR ro).depth.isSome=true→1≤n:=fun h=>by simp [FR,Fence.wide] at h
theorem callsIn_FR {n:Nat} {f:FuncId} {args:Array Value} {R:Ending→World→Prop}:CallsIn (FR ro) n P f args w R↔Calls P f args w R:=callsIn_wide (n:=n)
def cwp (ro:Option Nat) (P:Program) (c:Code) (Q:Exit→Act→World→Prop) (a:Act) (w:World):Prop:=c.wpIn (FR ro) 0 P Q a w
def owp (ro:Option Nat) (P:Program) (o:Oper) (a:Act) (w:World) (K:Act→World→Prop) (Q:Exit→Act→World→Prop):Prop:=o.wpIn (FR ro) 0 P a w K Q
def wpL (ro:Option Nat) (P:Program) (ops:Array Oper) (Q:Exit→Act→World→Prop) (l:List Oper) (a:Act) (w:World):Prop:=wpListIn (FR ro) 0 P ops Q l a w
def wpO (ro:Option Nat) (P:Program) (ops:Array Oper) (Q:Exit→Act→World→Prop) (i:Nat) (K:Act→World→Prop) (a:Act) (w:World):Prop:=wpOpIn (FR ro) 0 P ops Q i K a w
def wpA (ro:Option Nat) (P:Program) (ops:Array Oper) (Q:Exit→Act→World→Prop) (fuel:Nat) (listed:Array Bool) (a:Act) (w:World):Prop:=wpAnyIn (FR ro) 0 P .any ops Q fuel listed a w
theorem not_defer {ρ:Operand→Value} {o:Oper} {u:Next} {w':World} (hu:∀d,u≠ .defer d) (h:(execOp ρ o).run P w= .ok u w') (c:Call):o.op≠ .defer c:=by
 intro e
 simp only [execOp,e,Sem.run_bind] at h
 cases hr:(resolve ρ c o.type).run P w with
 |ok d w1=>
  rw [hr] at h
  simp only [Result.andThen_ok,Sem.run_pure] at h
  cases h
  exact hu _ rfl
 |halt x w1=>rw [hr] at h;cases h
theorem owp_value {o:Oper} {u:Value} {w':World} {K:Act→World→Prop} (h:(execOp a.eval o).run P w= .ok (.value u) w') (hK:K (a.put o.dst u) w'):owp ro P o a w K Q:=by
 refine ⟨fun _ _=>trivial,?_⟩
 rw [Oper.semAt_eq _ _ _ (not_defer (fun _ h=>by cases h) h),h]
 exact hK
theorem owp_skip {o:Oper} {w':World} {K:Act→World→Prop} (h:(execOp a.eval o).run P w= .ok .skip w') (hK:K (a.put o.dst undef) w'):owp ro P o a w K Q:=by
 refine ⟨fun _ _=>trivial,?_⟩
 rw [Oper.semAt_eq _ _ _ (not_defer (fun _ h=>by cases h) h),h]
 exact hK
theorem owp_enter {o:Oper} {w':World} {K:Act→World→Prop} {f:FuncId} {args:Array Value} (h:(execOp a.eval o).run P w= .ok (.enter f args) w')
  (hK:Calls P f args w' fun e w''=>∃v,e= .returned v∧K (a.put o.dst v) w''):owp ro P o a w K Q:=by
 refine ⟨fun _ _=>trivial,?_⟩
 rw [Oper.semAt_eq _ _ _ (not_defer (fun _ h=>by cases h) h),h]
 refine ⟨FR_depth,callsIn_FR.2 (hK.mono ?_)⟩
 rintro e w'' ⟨v,rfl,hk⟩
 exact hk
theorem owp_round {o:Oper} {w':World} {K:Act→World→Prop} {l:Nat} {f:FuncId} {tmps:Array Value} {avs bd:Code} (h:(execOp a.eval o).run P w= .ok (.round l f tmps avs bd) w')
  (hK:RoundIn (FR ro) 0 P l f tmps avs bd w' fun e w''=>∃v,e= .returned v∧K (a.put o.dst v) w''):owp ro P o a w K Q:=by
 refine ⟨fun _ _=>trivial,?_⟩
 rw [Oper.semAt_eq _ _ _ (not_defer (fun _ h=>by cases h) h),h]
 refine ⟨FR_depth,RoundIn.mono hK ?_⟩
 rintro e w'' ⟨v,rfl,hk⟩
 exact hk
theorem wpL_step {ops:Array Oper} {rest:List Oper} {o:Oper}
  (h:∀K:Act→World→Prop,(∀a w,wpL ro P ops Q rest a w→K a w)→if Region.wanted o (yielded ops a.tmps) then owp ro P o a w K Q else K (a.put o.dst undef) w):wpL ro P ops Q (o :: rest) a w:=
 wpListIn_step fun K hK=>by
  have:=h K hK
  split
  ·rename_i hw;rw [if_pos hw] at this;exact this
  ·rename_i hw;rw [if_neg hw] at this;exact ⟨fun _ _=>trivial,this⟩
theorem wpL_plain {ops:Array Oper} {rest:List Oper} {o:Oper} (hg:o.guard=none)
  (h:∀K:Act→World→Prop,(∀a w,wpL ro P ops Q rest a w→K a w)→owp ro P o a w K Q):wpL ro P ops Q (o :: rest) a w:=
 wpL_step fun K hK=>by simp only [Region.wanted,hg,if_true];exact h K hK
theorem cwp_mono {c:Code} {Q':Exit→Act→World→Prop} (h:cwp ro P c Q a w) (hq:∀e a w,Q e a w→Q' e a w):cwp ro P c Q' a w:=wpIn_mono h hq
theorem cwp_loop {α:Type} {c:Code} (I:α→Act→World→Prop) (μ:α→Nat) (x0:α) (h₀:I x0 a w)
  (round:∀x a w,I x a w→cwp ro P c (Exit.then (fun a' w'=>∃y,I y a' w'∧μ y<μ x) Q) a w):cwp ro P (Code.loop c) Q a w:=by
 intro b k cs hro hb hr
 have key:∀n x a w,μ x=n→I x a w→
   ∃e a' w',Q e a' w'∧ArrivesIn (Machine.fenced P (FR ro)) P (lone (b.atR a (.code c :: .inLoop c :: k)) cs w) b k cs e a' w':=by
  intro n
  induction n using Nat.strongRecOn with
  |_ n ih=>
   intro x a w hn hI
   obtain ⟨e,a₁,w₁,hq,harr⟩:=round x a w hI b (.inLoop c :: k) cs hro hb hr
   cases e with
   |normal=>
    obtain ⟨y,hI₁,hlt⟩:=hq
    obtain ⟨e₂,a₂,w₂,hq₂,harr₂⟩:=ih (μ y) (hn ▸ hlt) y a₁ w₁ rfl hI₁
    exact ⟨e₂,a₂,w₂,hq₂,.of_steps (StepsIn.trans harr (.one (FR_in _) stepR_inLoop)) harr₂⟩
   |exit id=>exact ⟨_,a₁,w₁,hq,.pass (x:=.inLoop c) rfl (fun _ _=>.inl (by simp)) harr⟩
   |goto l=>exact ⟨_,a₁,w₁,hq,.pass (x:=.inLoop c) rfl (fun _ _=>.inl (by simp)) harr⟩
   |ret=>exact ⟨_,a₁,w₁,hq,.pass (x:=.inLoop c) rfl (fun _ _=>.inl (by simp)) harr⟩
   |panic ch=>exact ⟨_,a₁,w₁,hq,.pass (x:=.inLoop c) rfl (fun _ _=>.inl (by simp)) harr⟩
   |outgrown=>exact ⟨_,a₁,w₁,hq,.pass (x:=.inLoop c) rfl (fun _ _=>.inl (by simp)) harr⟩
 obtain ⟨e,a',w',hq,harr⟩:=key _ x0 a w rfl h₀
 exact ⟨e,a',w',hq,.of_steps (.one (FR_in _) stepR_loop) harr⟩
theorem stepR_scope {b:Frame} {c:Code} {k:List Item} {cs:List Frame}:step P (lone (b.atR a (.code (.scope c) :: k)) cs w)= .next (lone (b.atR a (.code c :: .inScope c :: k)) cs w):=
 step_lone_go (by simp [stepG,stepG.exec,Frame.atR])
theorem stepR_inScope {b:Frame} {c:Code} {k:List Item} {cs:List Frame}:step P (lone (b.atR a (.inScope c :: k)) cs w)= .next (lone (b.atR a k) cs w):=
 step_lone_go (by simp [stepG,stepG.exec,Frame.atR])
theorem arr_scope {b:Frame} {c:Code} {k:List Item} {cs:List Frame} {m:Machine} {id:Nat} (h:ArrivesIn (Machine.fenced P (FR ro)) P m b (.inScope c :: k) cs (.exit id) a w):ArrivesIn (Machine.fenced P (FR ro)) P m b k cs (.exit id) a w:=
 ⟨fun k' hk=>h.1 k' (by simp [exitTo,hk]),fun hr hk=>h.2 hr (by simp [exitTo,hk])⟩
theorem cwp_scope_straight {c:Code} (h:cwp ro P c (Exit.noGoto Q) a w):cwp ro P (Code.scope c) Q a w:=by
 intro b k cs hro hb hr
 obtain ⟨e,a₁,w₁,hq,harr⟩:=h b (.inScope c :: k) cs hro hb hr
 cases e with
 |normal=>exact ⟨.normal,a₁,w₁,hq,.head (FR_in _) stepR_scope (StepsIn.trans harr (.one (FR_in _) stepR_inScope))⟩
 |exit id=>exact ⟨.exit id,a₁,w₁,hq,.of_steps (.one (FR_in _) stepR_scope) (arr_scope harr)⟩
 |goto l=>exact hq.elim
 |ret=>exact ⟨_,a₁,w₁,hq,.of_steps (.one (FR_in _) stepR_scope) harr⟩
 |panic ch=>exact ⟨_,a₁,w₁,hq,.of_steps (.one (FR_in _) stepR_scope) harr⟩
 |outgrown=>exact ⟨_,a₁,w₁,hq,.of_steps (.one (FR_in _) stepR_scope) harr⟩
theorem cwp_scope_many {α:Type} {c:Code} (I:α→Act→World→Prop) (lb:α→Nat) (μ:α→Nat) (rest:Nat→Code)
  (hf:∀x,findLabel c (lb x)=some (rest (lb x)))
  (first:cwp ro P c (fun e a' w'=>match e with | .goto l=>∃y,lb y=l∧I y a' w' | e=>Q e a' w') a w)
  (pass:∀x a w,I x a w→cwp ro P (rest (lb x)) (fun e a' w'=>match e with | .goto l=>∃y,lb y=l∧I y a' w'∧μ y<μ x | e=>Q e a' w') a w):cwp ro P (Code.scope c) Q a w:=by
 intro b k cs hro hb hr
 have hg:∀x,gotoIn (lb x) (.inScope c :: k)=some (.code (rest (lb x)) :: .inScope c :: k):=fun x=>by simp [gotoIn,hf]
 have key:∀n x a w,μ x=n→I x a w→∃e a' w',Q e a' w'∧ArrivesIn (Machine.fenced P (FR ro)) P (lone (b.atR a (.code (rest (lb x)) :: .inScope c :: k)) cs w) b k cs e a' w':=by
  intro n
  induction n using Nat.strongRecOn with
  |_ n ih=>
   intro x a w hn hJ
   obtain ⟨e,a₁,w₁,hq,harr⟩:=pass x a w hJ b (.inScope c :: k) cs hro hb hr
   cases e with
   |normal=>exact ⟨.normal,a₁,w₁,hq,StepsIn.trans harr (.one (FR_in _) stepR_inScope)⟩
   |exit id=>exact ⟨.exit id,a₁,w₁,hq,arr_scope harr⟩
   |goto l'=>
    obtain ⟨y,rfl,hJ',hlt⟩:=hq
    obtain ⟨e₂,a₂,w₂,hq₂,harr₂⟩:=ih _ (by omega) y a₁ w₁ rfl hJ'
    exact ⟨e₂,a₂,w₂,hq₂,.of_steps (harr.1 _ (hg y)) harr₂⟩
   |ret=>exact ⟨_,a₁,w₁,hq,harr⟩
   |panic ch=>exact ⟨_,a₁,w₁,hq,harr⟩
   |outgrown=>exact ⟨_,a₁,w₁,hq,harr⟩
 obtain ⟨e,a₁,w₁,hq,harr⟩:=first b (.inScope c :: k) cs hro hb hr
 cases e with
 |normal=>exact ⟨.normal,a₁,w₁,hq,.head (FR_in _) stepR_scope (StepsIn.trans harr (.one (FR_in _) stepR_inScope))⟩
 |exit id=>exact ⟨.exit id,a₁,w₁,hq,.of_steps (.one (FR_in _) stepR_scope) (arr_scope harr)⟩
 |goto l'=>
  obtain ⟨y,rfl,hJ'⟩:=hq
  obtain ⟨e₂,a₂,w₂,hq₂,harr₂⟩:=key _ y a₁ w₁ rfl hJ'
  exact ⟨e₂,a₂,w₂,hq₂,.of_steps (.head (FR_in _) stepR_scope (harr.1 _ (hg y))) harr₂⟩
 |ret=>exact ⟨_,a₁,w₁,hq,.of_steps (.one (FR_in _) stepR_scope) harr⟩
 |panic ch=>exact ⟨_,a₁,w₁,hq,.of_steps (.one (FR_in _) stepR_scope) harr⟩
 |outgrown=>exact ⟨_,a₁,w₁,hq,.of_steps (.one (FR_in _) stepR_scope) harr⟩
end
def MarkOf (n0:Nat) (C:Ctx) (σ:Nat→AObj) (w:World) (d:Deferred):Prop:=
 ∃r,d.target= .collected r∧n0≤r∧w.heap[r]? =some (.deferred (some []))∧¬C.imm r∧¬Mut C σ r
structure Marks (n0:Nat) (C:Ctx) (σ:Nat→AObj) (w:World) (ds:List Deferred):Prop where
 all:∀d∈ds,MarkOf n0 C σ w d
 nodup:ds.Pairwise fun d e=>d.target≠e.target
theorem Marks.nil {n0:Nat} {C:Ctx} {σ:Nat→AObj} {w:World}:Marks n0 C σ w []:=⟨(fun _ h=>by cases h),List.Pairwise.nil⟩
theorem Marks.step {n0:Nat} {C C':Ctx} {σ σ':Nat→AObj} {w w':World} {ds:List Deferred} (h:Marks n0 C σ w ds) (st:Step C σ w C' σ' w'):Marks n0 C' σ' w' ds:=by
 refine ⟨fun d hd=>?_,h.nodup⟩
 obtain ⟨r,h1,h2,h3,h4,h5⟩:=h.all d hd
 have hlt:r<w.heap.size:=(Array.getElem?_eq_some_iff.1 h3).1
 refine ⟨r,h1,h2,by rw [st.same r hlt h5];exact h3,fun hi=>?_,fun hm=>?_⟩
 ·rcases st.imm' r hi with e | e | e
  ·exact h4 e
  ·exact h5 e
  ·omega
 ·rcases st.wr r hm with e | e
  ·exact h5 e
  ·omega
theorem Marks.less {n0:Nat} {C C':Ctx} {σ σ':Nat→AObj} {w:World} {ds:List Deferred} (h:Marks n0 C σ w ds) (hi:∀b,C'.imm b→C.imm b∨Mut C σ b) (hm:∀b,Mut C' σ' b→C.imm b∨Mut C σ b):Marks n0 C' σ' w ds:=
 ⟨fun d hd=>by
  obtain ⟨r,h1,h2,h3,h4,h5⟩:=h.all d hd
  exact ⟨r,h1,h2,h3,fun e=>(hi r e).elim h4 h5,fun e=>(hm r e).elim h4 h5⟩,h.nodup⟩
end Go.Proofs.YtnoifgjiipgpoaaGreatDoor.R

namespace Go.Proofs.YtnoifgjiipgpoaaGreatDoor.R
open Go.RowKit
def dstOf (all:Array Oper) (i:Nat):Option Nat:=(all[i]?).bind (·.dst)
def looksOf (all:Array Oper) (i:Nat):List Tmp:=match all[i]? with
 |some o=>o.looksAt all
 |none=>[]
def mask (l:List Tmp) (m:Slots):Slots:=fun t=>if l.contains t then m t else .any
def Does (P:Program) (n:Nat) (all:Array Oper) (i:Nat) (m:Slots) (σ:Nat→AObj) (nx:Nat) (v:AV) (σ':Nat→AObj) (nx':Nat):Prop:=
 ∀(C:Ctx) (a:Act) (w:World),C.nx=nx→Sim C σ w→a.tmps.size=n→(∀t,RepA w C (mask (looksOf all i) m t) (a.tmps.getD t undef))→
  ∀(ro:Option Nat) (K:Act→World→Prop) (Q:Exit→Act→World→Prop),(∀u w' C',Sim C' σ' w'→C'.nx=nx'→Step C σ w C' σ' w'→RepA w' C' v u→K (a.put (dstOf all i) u) w')→wpO ro P all Q i K a w
structure Rc where
 i:Nat
 m:Slots
 v:AV
 loud:Option ((Nat→AObj)×Nat)
def goes (all:Array Oper) (m:Slots) (l:List Rc):Slots:=l.foldl (fun m r=>put m (dstOf all r.i) r.v) m
def louds (l:List Rc):List Rc:=l.filter (·.loud.isSome)
def after (c:(Nat→AObj)×Nat) (r:Rc):(Nat→AObj)×Nat:=r.loud.getD c
def goesS (c:(Nat→AObj)×Nat) (l:List Rc):(Nat→AObj)×Nat:=l.foldl after c
section
variable (P:Program) (n:Nat) (all:Array Oper) (anc:Nat→Nat→Bool)
def SilentOK (r:Rc):(Nat→AObj)×Nat→List Rc→Prop
 |c,[]=>Does P n all r.i r.m c.1 c.2 r.v c.1 c.2
 |c,k :: ks=>(anc k.i r.i=true∨Does P n all r.i r.m c.1 c.2 r.v c.1 c.2)∧(anc r.i k.i=true∨SilentOK r (after c k) ks)
def LoudsOK:(Nat→AObj)×Nat→List Rc→Prop
 |_,[]=>True
 |c,k :: ks=>Does P n all k.i k.m c.1 c.2 k.v (after c k).1 (after c k).2∧LoudsOK (after c k) ks
def apart (i j:Nat):Bool:=
 (match dstOf all i with | some d=>!(looksOf all j).contains d | none=>true)&&
 (match dstOf all j with | some d=>!(looksOf all i).contains d | none=>true)&&
 (match dstOf all i,dstOf all j with | some d,some e=>d != e | _,_=>true)
structure Ord (r q:Rc):Prop where
 ne:r.i≠q.i
 or:anc r.i q.i=true∨(apart all r.i q.i=true∧(r.loud=none∨q.loud=none))
structure Inv (l:List Rc) (s:St):Prop where
 view:∀l1 r l2,l=l1++r :: l2→∀t∈looksOf all r.i,goes all s.m l1 t=r.m t
 ord:l.Pairwise (Ord all anc)
 silent:∀r∈l,r.loud=none→SilentOK P n all anc r (s.σ,s.nx) (louds l)
 loud:LoudsOK P n all (s.σ,s.nx) (louds l)
end
section
variable {P:Program} {n:Nat} {all:Array Oper} {anc:Nat→Nat→Bool}
theorem put_comm (m:Slots) (d e:Option Nat) (v u:AV) (h:∀x y,d=some x→e=some y→x≠y):put (put m d v) e u=put (put m e u) d v:=by
 cases d with
 |none=>rfl
 |some d=>
  cases e with
  |none=>rfl
  |some e=>
   have:=h d e rfl rfl
   funext i
   simp only [put]
   split<;>split<;>simp_all
theorem apart_dst {i j:Nat} (h:apart all i j=true) {x y:Nat} (hx:dstOf all i=some x) (hy:dstOf all j=some y):x≠y:=by
 simp only [apart,hx,hy,Bool.and_eq_true] at h
 simpa using h.2
theorem apart_l {i j:Nat} (h:apart all i j=true) {x:Nat} (hx:dstOf all i=some x):x∉looksOf all j:=by
 simp only [apart,hx,Bool.and_eq_true] at h
 simpa using h.1.1
theorem apart_r {i j:Nat} (h:apart all i j=true) {x:Nat} (hx:dstOf all j=some x):x∉looksOf all i:=by
 simp only [apart,hx,Bool.and_eq_true] at h
 simpa using h.1.2
theorem goes_put {l:List Rc} {j:Nat} {v:AV} (h:∀q∈l,apart all q.i j=true):∀(m:Slots),goes all (put m (dstOf all j) v) l=put (goes all m l) (dstOf all j) v:=by
 induction l with
 |nil=>intro m;rfl
 |cons q l ih=>
  intro m
  have h1:=ih (fun q hq=>h q (List.mem_cons_of_mem _ hq))
  simp only [goes,List.foldl_cons] at h1 ⊢
  rw [put_comm m _ _ _ _ (fun x y hx hy e=>apart_dst (h q List.mem_cons_self) hy hx e.symm)]
  exact h1 _
theorem put_off {m:Slots} {d:Option Nat} {v:AV} {t:Nat} (h:∀x,d=some x→x≠t):put m d v t=m t:=by
 cases d with
 |none=>rfl
 |some d=>simp only [put];rw [if_neg (fun e=>h d rfl e.symm)]
theorem goes_off {l:List Rc} {j t:Nat} (h:∀q∈l,apart all q.i j=true) (ht:t∈looksOf all j):∀(m:Slots),goes all m l t=m t:=by
 induction l with
 |nil=>intro m;rfl
 |cons q l ih=>
  intro m
  have h1:=ih (fun q hq=>h q (List.mem_cons_of_mem _ hq))
  simp only [goes,List.foldl_cons] at h1 ⊢
  rw [h1,put_off fun x hx e=>apart_l (h q List.mem_cons_self) hx (e ▸ ht)]
theorem goes_app (m:Slots) (l1 l2:List Rc):goes all m (l1++l2)=goes all (goes all m l1) l2:=by simp [goes]
theorem louds_none {l:List Rc} (h:∀q∈l,q.loud=none):louds l=[]:=by
 simp only [louds,List.filter_eq_nil_iff]
 intro q hq
 simp [h q hq]
theorem Inv.take {l1 l2:List Rc} {r:Rc} {s:St} (h:Inv P n all anc (l1++r :: l2) s) (hr:∀q∈l1++r :: l2,anc q.i r.i=false):
  (∀t∈looksOf all r.i,s.m t=r.m t)∧
  Does P n all r.i r.m s.σ s.nx r.v (after (s.σ,s.nx) r).1 (after (s.σ,s.nx) r).2∧
  Inv P n all anc (l1++l2) ⟨put s.m (dstOf all r.i) r.v,(after (s.σ,s.nx) r).1,(after (s.σ,s.nx) r).2⟩∧
  goes all (put s.m (dstOf all r.i) r.v) (l1++l2)=goes all s.m (l1++r :: l2)∧
  goesS (after (s.σ,s.nx) r) (l1++l2)=goesS (s.σ,s.nx) (l1++r :: l2):=by
 have hord:=h.ord
 rw [List.pairwise_append] at hord
 obtain ⟨ho1,ho2,ho3⟩:=hord
 rw [List.pairwise_cons] at ho2
 have hap:∀q∈l1,apart all q.i r.i=true∧(q.loud=none∨r.loud=none):=fun q hq=>by
  rcases (ho3 q hq r List.mem_cons_self).or with e | e
  ·rw [hr q (List.mem_append_left _ hq)] at e;cases e
  ·exact e
 have hap1:∀q∈l1,apart all q.i r.i=true:=fun q hq=>(hap q hq).1
 have hl1:r.loud≠none→∀q∈l1,q.loud=none:=fun hne q hq=>((hap q hq).2).resolve_right hne
 have hview:∀t∈looksOf all r.i,s.m t=r.m t:=fun t ht=>by
  rw [←h.view l1 r l2 rfl t ht,goes_off hap1 ht]
 have hls:(r.loud=none∧louds (l1++r :: l2)=louds (l1++l2))∨(r.loud≠none∧louds (l1++r :: l2)=r :: louds (l1++l2)):=by
  cases hk:r.loud with
  |none=>exact .inl ⟨rfl,by simp [louds,hk]⟩
  |some k=>
   refine .inr ⟨by simp,?_⟩
   have h0:louds l1=[]:=louds_none (hl1 (by rw [hk];simp))
   simp only [louds] at h0
   simp [louds,hk,h0]
 have hdoes:Does P n all r.i r.m s.σ s.nx r.v (after (s.σ,s.nx) r).1 (after (s.σ,s.nx) r).2:=by
  rcases hls with ⟨hn,hl⟩ | ⟨hn,hl⟩
  ·have h1:=h.silent r (by simp) hn
   have h2:after (s.σ,s.nx) r=(s.σ,s.nx):=by simp [after,hn]
   rw [h2]
   cases hls2:louds (l1++r :: l2) with
   |nil=>rw [hls2] at h1;exact h1
   |cons k ks=>
    rw [hls2] at h1
    refine h1.1.resolve_left fun e=>?_
    have hk:k∈louds (l1++r :: l2):=by rw [hls2];exact List.mem_cons_self
    have:=hr k (List.mem_filter.1 hk).1
    rw [this] at e;cases e
  ·have h1:=h.loud
   rw [hl] at h1
   exact h1.1
 refine ⟨hview,hdoes,⟨fun a1 q a2 hq t ht=>?_,?_,fun q hq hqn=>?_,?_⟩,?_,?_⟩
 ·
  have hmem:q∈l1++l2:=by rw [hq];simp
  rcases List.append_eq_append_iff.1 hq with ⟨b,h1,h2⟩ | ⟨b,h1,h2⟩
  ·
   subst h1
   have h3:=h.view (l1++r :: b) q a2 (by rw [h2];simp) t ht
   rw [goes_app,goes_put hap1]
   rw [goes_app] at h3
   exact h3
  ·
   cases b with
   |nil=>
    simp only [List.append_nil] at h1
    simp only [List.nil_append] at h2
    subst h1
    have h3:=h.view (l1++[r]) q a2 (by rw [←h2];simp) t ht
    rw [goes_put hap1]
    rw [goes_app] at h3
    exact h3
   |cons x b=>
    simp only [List.cons_append,List.cons.injEq] at h2
    obtain ⟨rfl,h2⟩:=h2
    have h3:=h.view a1 q (b++r :: l2) (by rw [h1];simp) t ht
    rw [goes_put (fun y hy=>hap1 y (by rw [h1];exact List.mem_append_left _ hy)),←h3,put_off fun z hz e=>?_]
    have:=hap1 q (by rw [h1];simp)
    exact apart_r this hz (e ▸ ht)
 ·exact h.ord.sublist (List.append_sublist_append_left l1 |>.2 (List.sublist_cons_self r l2))
 ·have hq':q∈l1++r :: l2:=by
   rcases List.mem_append.1 hq with e | e
   ·exact List.mem_append_left _ e
   ·exact List.mem_append_right _ (List.mem_cons_of_mem _ e)
  have h1:=h.silent q hq' hqn
  rcases hls with ⟨hn,hl⟩ | ⟨hn,hl⟩
  ·rw [hl] at h1
   simpa [after,hn] using h1
  ·rw [hl] at h1
   refine h1.2.resolve_left fun e=>?_
   rw [hr q hq'] at e;cases e
 ·have h1:=h.loud
  rcases hls with ⟨hn,hl⟩ | ⟨hn,hl⟩
  ·rw [hl] at h1
   simpa [after,hn] using h1
  ·rw [hl] at h1
   exact h1.2
 ·rw [goes_app,goes_put hap1,goes_app]
  rfl
 ·rcases Option.eq_none_or_eq_some r.loud with hn | ⟨k,hk⟩
  ·simp [goesS,List.foldl_append,after,hn]
  ·have h0:=hl1 (by rw [hk];simp)
   have:∀(l:List Rc),(∀q∈l,q.loud=none)→∀c,goesS c l=c:=by
    intro l
    induction l with
    |nil=>intro _ c;rfl
    |cons q l ih=>
     intro hq c
     simp only [goesS,List.foldl_cons] at ih ⊢
     have:after c q=c:=by simp [after,hq q List.mem_cons_self]
     rw [this]
     exact ih (fun x hx=>hq x (List.mem_cons_of_mem _ hx)) c
   have e1:=this l1 h0
   simp only [goesS] at e1 ⊢
   rw [List.foldl_append,List.foldl_append,e1,e1,List.foldl_cons]
def preds (all:Array Oper) (i:Nat):List Nat:=match all[i]? with
 |some o=>(o.after.toList.filter (Region.binds .any)).map (·.on)
 |none=>[]
def tabUp (all:Array Oper):Nat→List (List Nat)
 |0=>[]
 |k+1=>let t:=tabUp all k
  t++[(preds all k).foldl (fun acc e=>((e :: t.getD e []).filter (fun x=>!acc.contains x))++acc) []]
def ancT (t:List (List Nat)) (i j:Nat):Bool:=(t.getD j []).contains i
def tabOK (all:Array Oper) (t:List (List Nat)):Bool:=
 (List.range all.size).all fun j=>(preds all j).all (·<j)&&(t.getD j []).all fun x=>(preds all j).contains x||(preds all j).any fun e=>(t.getD e []).contains x
theorem tab_spec {t:List (List Nat)} (ht:tabOK all t=true) {listed:Array Bool} (hc:∀j<all.size,listed.getD j true=true→∀e∈preds all j,listed.getD e false=true):
  ∀j,j<all.size→(∀e∈preds all j,listed.getD e false=true)→∀x,ancT t x j=true→listed.getD x false=true:=by
 intro j
 induction j using Nat.strongRecOn with
 |_ j ih=>
  intro hj hp x hx
  have h:=List.all_eq_true.1 ht j (List.mem_range.2 hj)
  simp only [Bool.and_eq_true] at h
  have hx':x∈t.getD j []:=by simpa [ancT] using hx
  have h2:=List.all_eq_true.1 h.2 x hx'
  simp only [Bool.or_eq_true,List.any_eq_true] at h2
  rcases h2 with h2 | ⟨e,he,h2⟩
  ·exact hp x (by simpa using h2)
  ·have hlt:e<j:=by simpa using List.all_eq_true.1 h.1 e he
   have hle:=hp e he
   refine ih e hlt (by omega) (fun y hy=>hc e (by omega) ?_ y hy) x h2
   rw [Array.getD_eq_getD_getElem?] at hle ⊢
   cases hz:listed[e]? with
   |none=>rw [hz] at hle;simp at hle
   |some b=>rw [hz] at hle;simpa using hle
end
abbrev SW:=Option (Nat×Nat×Bool)
def swIs (sw:SW) (i j:Nat):Bool:=match sw with | some (a,b,_)=>i==a&&j==b | none=>false
def statS (all:Array Oper) (n:Nat) (lo:List Nat) (sw:SW):Bool:=
 let t:=tabUp all all.size
 (match sw with | some (a,b,_)=>a != b&&decide (a<all.size)&&decide (b<all.size) | none=>true)&&
 (tabOK all t&&(List.range all.size).all (fun i=>(match dstOf all i with | some d=>d<n | none=>true)&&
  (List.range all.size).all fun j=>!(decide (i<j))||(ancT t i j||(apart all i j&& !(lo.contains i&&lo.contains j))||(swIs sw i j||swIs sw j i))))
def statOK (all:Array Oper) (n:Nat) (lo:List Nat):Bool:=statS all n lo none
def anc (all:Array Oper) (i j:Nat):Bool:=ancT (tabUp all all.size) i j
def anS (all:Array Oper) (sw:SW) (i j:Nat):Bool:=anc all i j||swIs sw i j
theorem anS_anc {all:Array Oper} {sw:SW} {i j:Nat} (h:anc all i j=true):anS all sw i j=true:=by simp [anS,h]
theorem anS_sw {all:Array Oper} {sw:SW} {i j:Nat} (h:swIs sw i j=true):anS all sw i j=true:=by simp [anS,h]
def num:Nat→List Oper→List (Nat×Oper)
 |_,[]=>[]
 |i,o :: r=>(i,o) :: num (i+1) r
section
variable {ρ ρ':Operand→AV}
theorem map_congr' {l:List Operand} (h:∀x∈l,ρ x=ρ' x):l.map ρ=l.map ρ':=List.map_congr_left h
theorem parts_congr {l:List (Nat×Operand)} (h:∀p∈l,ρ p.2=ρ' p.2):(l.map fun p=>(p.1,ρ p.2))=l.map fun p=>(p.1,ρ' p.2):=List.map_congr_left fun p hp=>by rw [h p hp]
theorem omap_congr {o:Option Operand} (h:∀x,o=some x→ρ x=ρ' x):o.map ρ=o.map ρ':=by
 cases o with
 |none=>rfl
 |some x=>simp [h x rfl]
theorem evalB_congr {P:Program} {f:Callee} {args:List Operand} {tys:List TypeId} (h:∀x∈args,ρ x=ρ' x):evalB P ρ f args tys=evalB P ρ' f args tys:=by
 have h1:=map_congr' h
 unfold evalB
 split
 ·split
  ·rename_i x t
   rw [h x (by simp)]
  ·rfl
 ·rw [h1]
 ·rw [h1]
 ·rfl
theorem evalP_congr {P:Program} {op:Op} (h:∀x∈op.operands.toList,ρ x=ρ' x):evalP P ρ op=evalP P ρ' op:=by
 cases op with
 |call c=>
  simp only [evalP]
  refine evalB_congr fun x hx=>h x ?_
  simp only [Op.operands,Call.operands]
  cases hc:c.callee<;>simp at hx ⊢<;>simp [hx]
 |build t ps=>
  have:=parts_congr (ρ:=ρ) (ρ':=ρ') (l:=ps.toList) fun p hp=>h p.2 (by simp [Op.operands];exact ⟨p.1,by simpa using hp⟩)
  simp only [evalP,this]
 |buildSlice t n ps=>
  have:=parts_congr (ρ:=ρ) (ρ':=ρ') (l:=ps.toList) fun p hp=>h p.2 (by simp [Op.operands];exact ⟨p.1,by simpa using hp⟩)
  simp only [evalP,this]
 |makeFunc f a b=>
  have h1:=map_congr' (ρ:=ρ) (ρ':=ρ') (l:=a.toList) fun x hx=>h x (by simp [Op.operands];exact .inl (by simpa using hx))
  have h2:=map_congr' (ρ:=ρ) (ρ':=ρ') (l:=b.toList) fun x hx=>h x (by simp [Op.operands];exact .inr (by simpa using hx))
  simp only [evalP,h1,h2]
 |slice t x lo hi mx=>
  have h0:=h x (by simp [Op.operands])
  have h1:=omap_congr (ρ:=ρ) (ρ':=ρ') (o:=lo) fun y hy=>h y (by simp [Op.operands,hy])
  have h2:=omap_congr (ρ:=ρ) (ρ':=ρ') (o:=hi) fun y hy=>h y (by simp [Op.operands,hy])
  have h3:=omap_congr (ρ:=ρ) (ρ':=ρ') (o:=mx) fun y hy=>h y (by simp [Op.operands,hy])
  simp only [evalP,h0,h1,h2,h3]
 |pick c a b=>
  have h0:=h c (by simp [Op.operands])
  have h1:=h a (by simp [Op.operands])
  have h2:=h b (by simp [Op.operands])
  simp only [evalP,h0,h1,h2]
 |move x=>simp only [evalP,h x (by simp [Op.operands])]
 |assign x=>simp only [evalP,h x (by simp [Op.operands])]
 |nilCheck x=>simp only [evalP,h x (by simp [Op.operands])]
 |unOp o t x=>simp only [evalP,h x (by simp [Op.operands])]
 |convert s d x=>simp only [evalP,h x (by simp [Op.operands])]
 |fieldAddr s x f=>simp only [evalP,h x (by simp [Op.operands])]
 |field s x f=>simp only [evalP,h x (by simp [Op.operands])]
 |extract x i=>simp only [evalP,h x (by simp [Op.operands])]
 |binOp o t x y t'=>simp only [evalP,h x (by simp [Op.operands]),h y (by simp [Op.operands])]
 |indexAddr t x y=>simp only [evalP,h x (by simp [Op.operands]),h y (by simp [Op.operands])]
 |index t x y=>simp only [evalP,h x (by simp [Op.operands]),h y (by simp [Op.operands])]
 |_=>simp only [evalP]
theorem evalC_congr {P:Program} {σ:Nat→AObj} {nx:Nat} {f:Callee} {args:List Operand} {tys:List TypeId} (h:∀x∈args,ρ x=ρ' x):evalC P σ nx ρ f args tys=evalC P σ nx ρ' f args tys:=by
 unfold evalC
 split
 ·split
  ·rename_i x t
   rw [h x (by simp)]
  ·rfl
 ·split
  ·rename_i x y t t'
   rw [h x (by simp),h y (by simp)]
  ·rfl
 ·rfl
theorem evalS_congr {P:Program} {σ:Nat→AObj} {nx:Nat} {op:Op} (h:∀x∈op.operands.toList,ρ x=ρ' x):evalS P σ nx ρ op=evalS P σ nx ρ' op:=by
 cases op with
 |call c=>
  simp only [evalS]
  refine evalC_congr fun x hx=>h x ?_
  simp only [Op.operands,Call.operands]
  cases hc:c.callee<;>simp at hx ⊢<;>simp [hx]
 |box t x=>simp only [evalS,h x (by simp [Op.operands])]
 |load t x=>simp only [evalS,h x (by simp [Op.operands])]
 |store t x y=>simp only [evalS,h x (by simp [Op.operands]),h y (by simp [Op.operands])]
 |indexAddr t x y=>simp only [evalS,h x (by simp [Op.operands]),h y (by simp [Op.operands])]
 |makeSlice t x y=>simp only [evalS,h x (by simp [Op.operands]),h y (by simp [Op.operands])]
 |makeMap t r=>cases r<;>simp only [evalS]
 |range t x=>simp only [evalS,h x (by simp [Op.operands])]
 |next x st=>cases st<;>simp only [evalS,h x (by simp [Op.operands])]
 |_=>simp only [evalS]
end
def nextTo (sw:SW) (i j:Nat):Prop:=(i<j∧swIs sw j i=false)∨swIs sw i j=true
section
variable (P:Program) (n:Nat) (all:Array Oper) (lo:List Nat) (sw:SW)
structure Pre (s0:St) (done:List Rc) (rest:List (Nat×Oper)) (pend:List Rc) (s:St):Prop where
 inv:Inv P n all (anS all sw) done s0
 here:∀p∈rest,all[p.1]? =some p.2
 order:(done.map (·.i)++rest.map (·.1)).Pairwise (nextTo sw)
 fin:s=⟨goes all s0.m done,(goesS (s0.σ,s0.nx) done).1,(goesS (s0.σ,s0.nx) done).2⟩
 hlo:∀q∈done,q.loud≠none→q.i∈lo
 hpend:∀q∈done,q.loud=none→(∀σ nx,Does P n all q.i q.m σ nx q.v σ nx)∨(∀k∈lo,q.i<k→anc all q.i k=true)∨q∈pend
 small:∀q∈done,q.i<all.size
 mark:sw=none→∀q∈pend,q.loud≠none→SilentOK P n all (anS all sw) q (s0.σ,s0.nx) (louds done)
variable (Q:St→Prop) (s0:St)
def Fin1 (done:List Rc) (ix:List Nat):Prop:=
 ∃l,Inv P n all (anS all sw) (done++l) s0∧l.map (·.i)=ix∧Q ⟨goes all s0.m (done++l),(goesS (s0.σ,s0.nx) (done++l)).1,(goesS (s0.σ,s0.nx) (done++l)).2⟩
def Fin2 (a b:Nat) (done:List Rc) (ix:List Nat):Prop:=
 ∃d x y,(Inv P n all (anS all (some (a,b,true))) (done++(d++x)) s0∧(d++x).map (·.i)=ix∧Q ⟨goes all s0.m (done++(d++x)),(goesS (s0.σ,s0.nx) (done++(d++x))).1,(goesS (s0.σ,s0.nx) (done++(d++x))).2⟩)∧
  (Inv P n all (anS all (some (b,a,true))) (done++(d++y)) s0∧Q ⟨goes all s0.m (done++(d++y)),(goesS (s0.σ,s0.nx) (done++(d++y))).1,(goesS (s0.σ,s0.nx) (done++(d++y))).2⟩)∧
  (∀i,i∈y.map (·.i)↔i∈x.map (·.i))∧x.length=y.length∧(done.map (·.i)++(d++y).map (·.i)).Pairwise (nextTo (some (b,a,true)))∧(∀r∈x,r.i=a∨r.i=b∨anc all a r.i=true∨anc all b r.i=true)
def FinC (done:List Rc) (ix:List Nat):Prop:=match sw with
 |some (a,b,false)=>Fin2 P n all Q s0 a b done ix
 |_=>Fin1 P n all sw Q s0 done ix
end
section
variable (P:Program) (n:Nat) (all:Array Oper) (lo:List Nat) (sw:SW)
def Chain (rest:List (Nat×Oper)) (pend:List Rc) (s:St) (Q:St→Prop):Prop:=
 statS all n lo sw=true→∀s0 done,Pre P n all lo sw s0 done rest pend s→FinC P n all sw Q s0 done (rest.map (·.1))
end
section
variable {P:Program} {n:Nat} {all:Array Oper} {lo:List Nat} {sw:SW} {pend:List Rc} {s:St} {Q:St→Prop} {i:Nat}
def settled:SW→Bool
 |some (_,_,false)=>false
 |_=>true
theorem Chain.nil (hs:settled sw=true) (h:Q s):Chain P n all lo sw [] pend s Q:=by
 intro _ s0 done hp
 have h1:Fin1 P n all sw Q s0 done []:=⟨[],by simpa using hp.inv,rfl,by rw [List.append_nil,←hp.fin];exact h⟩
 unfold FinC
 split
 ·simp [settled] at hs
 ·exact h1
theorem FinC.cons {s0:St} {done:List Rc} {r:Rc} {ix:List Nat} (h:FinC P n all sw Q s0 (done++[r]) ix):FinC P n all sw Q s0 done (r.i :: ix):=by
 unfold FinC at h ⊢
 split
 ·obtain ⟨d,x,y,⟨h1,h2,h3⟩,⟨h4,h5⟩,h6,h7,h8,h9⟩:=h
  refine ⟨r :: d,x,y,⟨?_,?_,?_⟩,⟨?_,?_⟩,h6,h7,?_,h9⟩
  ·simpa using h1
  ·simpa using h2
  ·simpa using h3
  ·simpa using h4
  ·simpa using h5
  ·simpa using h8
 ·rename_i hne
  have h':Fin1 P n all sw Q s0 (done++[r]) ix:=by
   split at h
   ·rename_i a b
    exact absurd rfl (hne a b)
   ·exact h
  obtain ⟨l,h1,h2,h3⟩:=h'
  refine ⟨r :: l,?_,?_,?_⟩
  ·simpa using h1
  ·simpa using h2
  ·simpa using h3
theorem stat_pair (h:statS all n lo sw=true) {i j:Nat} (hi:i<all.size) (hj:j<all.size) (hij:i<j):anc all i j=true∨(apart all i j=true∧¬(i∈lo∧j∈lo))∨swIs sw i j=true∨swIs sw j i=true:=by
 simp only [statS,Bool.and_eq_true,List.all_eq_true,List.mem_range] at h
 have:=(h.2.2 i hi).2 j hj
 simp only [Bool.or_eq_true,Bool.and_eq_true,Bool.not_eq_true',decide_eq_false_iff_not,Bool.and_eq_false_iff,List.contains_iff_mem] at this
 rcases this with h1 | ((h1 | ⟨h1,h2⟩) | h1)
 ·exact absurd hij h1
 ·exact .inl h1
 ·refine .inr (.inl ⟨h1,fun ⟨h3,h4⟩=>?_⟩)
  rcases h2 with h2 | h2
  ·simp [h3] at h2
  ·simp [h4] at h2
 ·exact .inr (.inr h1)
theorem stat_tab (h:statS all n lo sw=true):tabOK all (tabUp all all.size)=true:=by
 simp only [statS,Bool.and_eq_true] at h;exact h.2.1
theorem stat_sw {a b:Nat} {d:Bool} (h:statS all n lo (some (a,b,d))=true):a≠b∧a<all.size∧b<all.size:=by
 simp only [statS,Bool.and_eq_true,bne_iff_ne,decide_eq_true_eq] at h;exact ⟨h.1.1.1,h.1.1.2,h.1.2⟩
theorem stat_ne (h:statS all n lo sw=true) {a b:Nat} (e:swIs sw a b=true):a≠b:=by
 cases sw with
 |none=>simp [swIs] at e
 |some p=>
  obtain ⟨a',b',d⟩:=p
  simp only [swIs,Bool.and_eq_true,beq_iff_eq] at e
  obtain ⟨rfl,rfl⟩:=e
  exact (stat_sw h).1
theorem stat_dst (h:statS all n lo sw=true):∀i<all.size,(match dstOf all i with | some d=>decide (d<n) | none=>true)=true:=by
 simp only [statS,Bool.and_eq_true,List.all_eq_true,List.mem_range] at h
 exact fun i hi=>(h.2.2 i hi).1
theorem goesS_louds:∀(l:List Rc) (c:(Nat→AObj)×Nat),goesS c l=goesS c (louds l):=by
 intro l
 induction l with
 |nil=>intro c;rfl
 |cons r l ih=>
  intro c
  cases hr:r.loud with
  |none=>
   have h1:louds (r :: l)=louds l:=by simp [louds,hr]
   have h2:after c r=c:=by simp [after,hr]
   rw [h1,←ih]
   simp only [goesS,List.foldl_cons,h2]
  |some x=>
   have h1:louds (r :: l)=r :: louds l:=by simp [louds,hr]
   rw [h1]
   simp only [goesS,List.foldl_cons] at ih ⊢
   exact ih _
theorem silent_app {t:Nat→Nat→Bool} {q r:Rc}:∀(ks:List Rc) (c:(Nat→AObj)×Nat),SilentOK P n all t q c ks→(t q.i r.i=true∨Does P n all q.i q.m (after (goesS c ks) r).1 (after (goesS c ks) r).2 q.v (after (goesS c ks) r).1 (after (goesS c ks) r).2)→
  SilentOK P n all t q c (ks++[r]):=by
 intro ks
 induction ks with
 |nil=>
  intro c h1 h2
  exact ⟨.inr h1,h2⟩
 |cons k ks ih=>
  intro c h1 h2
  exact ⟨h1.1,h1.2.imp id fun h=>ih _ h h2⟩
theorem silent_at {t:Nat→Nat→Bool} {r:Rc}:∀(ks:List Rc) (c:(Nat→AObj)×Nat),(∀k∈ks,t k.i r.i=true)→Does P n all r.i r.m (goesS c ks).1 (goesS c ks).2 r.v (goesS c ks).1 (goesS c ks).2→SilentOK P n all t r c ks:=by
 intro ks
 induction ks with
 |nil=>intro c _ h;exact h
 |cons k ks ih=>intro c h1 h2;exact ⟨.inl (h1 k List.mem_cons_self),.inr (ih _ (fun q hq=>h1 q (List.mem_cons_of_mem _ hq)) h2)⟩
theorem silent_free {t:Nat→Nat→Bool} {r:Rc} (h:∀σ nx,Does P n all r.i r.m σ nx r.v σ nx):∀(ks:List Rc) (c:(Nat→AObj)×Nat),SilentOK P n all t r c ks:=by
 intro ks
 induction ks with
 |nil=>intro c;exact h _ _
 |cons k ks ih=>intro c;exact ⟨.inr (h _ _),.inr (ih _)⟩
theorem loud_app {r:Rc}:∀(ks:List Rc) (c:(Nat→AObj)×Nat),LoudsOK P n all c ks→Does P n all r.i r.m (goesS c ks).1 (goesS c ks).2 r.v (after (goesS c ks) r).1 (after (goesS c ks) r).2→LoudsOK P n all c (ks++[r]):=by
 intro ks
 induction ks with
 |nil=>intro c _ h;exact ⟨h,True.intro⟩
 |cons k ks ih=>intro c h1 h2;exact ⟨h1.1,ih _ h1.2 h2⟩
def Marked (all:Array Oper) (sw:SW) (pend:List Rc) (i:Nat) (m:Slots) (v:AV):Prop:=sw=none∧∃q∈pend,q.loud≠none∧q.i=i∧q.v=v∧∀t∈looksOf all i,q.m t=m t
theorem SilentOK.same {t:Nat→Nat→Bool} {q r:Rc} (hi:q.i=r.i) (hv:q.v=r.v) (hm:∀t∈looksOf all r.i,q.m t=r.m t):∀(ks:List Rc) (c:(Nat→AObj)×Nat),SilentOK P n all t q c ks→SilentOK P n all t r c ks:=by
 have hmask:mask (looksOf all r.i) q.m=mask (looksOf all r.i) r.m:=by
  funext t
  simp only [mask]
  split
  ·rename_i h;exact hm t (by simpa using h)
  ·rfl
 have hdoes:∀(σ:Nat→AObj) (nx:Nat),Does P n all q.i q.m σ nx q.v σ nx→Does P n all r.i r.m σ nx r.v σ nx:=by
  intro σ nx h
  rw [hi,hv] at h
  intro C a w h1 h2 h3 h4
  exact h C a w h1 h2 h3 (by rw [hmask];exact h4)
 intro ks
 induction ks with
 |nil=>intro c h;exact hdoes _ _ h
 |cons k ks ih=>
  intro c h
  exact ⟨h.1.imp (fun e=>by rw [←hi];exact e) (fun g=>hdoes _ _ g),h.2.imp (fun e=>by rw [←hi];exact e) (fun g=>ih _ g)⟩
theorem Chain.stepG {o:Oper} {rest:List (Nat×Oper)} {v:AV} {loud:Option ((Nat→AObj)×Nat)} {pend':List Rc}
  (hd:Does P n all i s.m s.σ s.nx v (loud.getD (s.σ,s.nx)).1 (loud.getD (s.σ,s.nx)).2)
  (hs:loud=none→((∀σ nx,Does P n all i s.m σ nx v σ nx)∨(((∀k∈lo,k<i→anc all k i=true)∨Marked all sw pend i s.m v)∧((∀k∈lo,i<k→anc all i k=true)∨⟨i,s.m,v,none⟩∈pend'))))
  (hl:∀c,loud=some c→i∈lo∧∀q∈pend,anc all q.i i=true∨Does P n all q.i q.m c.1 c.2 q.v c.1 c.2)
  (hp:∀q∈pend,q∈pend') (hpq:∀q∈pend',q.loud≠none→q∈pend)
  (h:Chain P n all lo sw rest pend' ⟨put s.m o.dst v,(loud.getD (s.σ,s.nx)).1,(loud.getD (s.σ,s.nx)).2⟩ Q):Chain P n all lo sw ((i,o) :: rest) pend s Q:=by
 intro hst s0 done pre
 have ho:all[i]? =some o:=pre.here (i,o) List.mem_cons_self
 have hi:i<all.size:=by
  rcases Nat.lt_or_ge i all.size with h1 | h1
  ·exact h1
  ·rw [Array.getElem?_eq_none h1] at ho;cases ho
 have hdst:dstOf all i=o.dst:=by simp [dstOf,ho]
 have hsm:goes all s0.m done=s.m:=by rw [pre.fin]
 have hsc:goesS (s0.σ,s0.nx) done=(s.σ,s.nx):=by rw [pre.fin]
 have hix:∀q∈done,nextTo sw q.i i:=fun q hq=>by
  have:=pre.order
  rw [List.pairwise_append] at this
  exact this.2.2 q.i (List.mem_map.2 ⟨q,hq,rfl⟩) i (by simp)
 obtain ⟨r,hr⟩:∃r:Rc,r=⟨i,s.m,v,loud⟩:=⟨_,rfl⟩
 have hls:louds (done++[r])=louds done++(if loud.isSome then [r] else []):=by
  subst hr
  cases loud<;>simp [louds]
 have haft:after (s.σ,s.nx) r=loud.getD (s.σ,s.nx):=by rw [hr];rfl
 have hmap:(done++[r]).map (·.i)++rest.map (·.1)=done.map (·.i)++((i,o) :: rest).map (·.1):=by rw [hr];simp
 have hri:r.i=i:=by rw [hr]
 rw [List.map_cons]
 show FinC P n all sw Q s0 done (i :: _)
 rw [←hri]
 refine FinC.cons (h hst s0 (done++[r]) ⟨⟨?_,?_,?_,?_⟩,fun p hp=>pre.here p (List.mem_cons_of_mem _ hp),by rw [hmap];exact pre.order,?_,?_,?_,?_,?_⟩)
 ·intro l1 q l2 hq t ht
  rcases List.eq_nil_or_concat l2 with h0 | ⟨l2',x,h0⟩
  ·subst h0
   obtain ⟨e1,e2⟩:=List.append_inj' hq rfl
   simp only [List.cons.injEq,and_true] at e2
   subst e1
   rw [←e2,hr,hsm]
  ·subst h0
   rw [List.concat_eq_append] at hq
   have:done++[r]=(l1++q :: l2')++[x]:=by rw [hq];simp
   obtain ⟨e1,e2⟩:=List.append_inj' this rfl
   exact pre.inv.view l1 q l2' e1 t ht
 ·rw [List.pairwise_append]
  refine ⟨pre.inv.ord,List.pairwise_singleton _ _,fun q hq r' hr'=>?_⟩
  simp only [List.mem_singleton] at hr'
  subst hr'
  have hlt:=hix q hq
  rw [hr]
  rcases hlt with ⟨hlt,hsw⟩ | hsw
  ·refine ⟨Nat.ne_of_lt hlt,?_⟩
   rcases stat_pair hst (pre.small q hq) hi hlt with h1 | ⟨h1,h2⟩ | h1 | h1
   ·exact .inl (anS_anc h1)
   ·refine .inr ⟨h1,?_⟩
    cases hql:q.loud with
    |none=>exact .inl rfl
    |some x=>
     refine .inr ?_
     cases hlo:loud with
     |none=>rfl
     |some y=>exact absurd ⟨pre.hlo q hq (by rw [hql];simp),(hl y hlo).1⟩ h2
   ·exact .inl (anS_sw h1)
   ·rw [hsw] at h1;cases h1
  ·exact ⟨stat_ne hst hsw,.inl (anS_sw hsw)⟩
 ·intro q hq hqn
  rw [hls]
  rcases List.mem_append.1 hq with hq | hq
  ·have h1:=pre.inv.silent q hq hqn
   cases hlo:loud with
   |none=>simpa using h1
   |some c=>
    simp only [Option.isSome_some,if_true]
    refine silent_app _ _ h1 ?_
    rw [←goesS_louds,hsc,haft,hlo]
    rcases pre.hpend q hq hqn with h2 | h2 | h2
    ·exact .inr (h2 _ _)
    ·refine .inl ?_
     rw [hr]
     rcases hix q hq with ⟨hlt,_⟩ | hsw
     ·exact anS_anc (h2 i (hl c hlo).1 hlt)
     ·exact anS_sw hsw
    ·have:=(hl c hlo).2 q h2
     rw [hr]
     exact this.imp anS_anc id
  ·simp only [List.mem_singleton] at hq
   subst hq
   have hln:loud=none:=by rw [hr] at hqn;exact hqn
   rw [hln]
   simp only [Option.isSome_none,Bool.false_eq_true,if_false,List.append_nil]
   rcases hs hln with h1 | ⟨h1 | ⟨hsn,q,hq1,hq2,hq3,hq4,hq5⟩,_⟩
   ·exact silent_free (by rw [hr];exact h1) _ _
   rotate_left
   ·exact (pre.mark hsn q hq1 hq2).same (by rw [hr];exact hq3) (by rw [hr];exact hq4) (by rw [hr];exact hq5) _ _
   ·refine silent_at _ _ (fun k hk=>?_) ?_
    ·have hk':=List.mem_filter.1 hk
     rw [hr]
     rcases hix k hk'.1 with ⟨hlt,_⟩ | hsw
     ·exact anS_anc (h1 k.i (pre.hlo k hk'.1 (by intro e;rw [e] at hk';simp at hk')) hlt)
     ·exact anS_sw hsw
    ·rw [←goesS_louds,hsc,hr]
     rw [hln] at hd
     exact hd
 ·rw [hls]
  have h1:=pre.inv.loud
  cases hlo:loud with
  |none=>simpa using h1
  |some c=>
   simp only [Option.isSome_some,if_true]
   refine loud_app _ _ h1 ?_
   rw [←goesS_louds,hsc,haft,hr]
   exact hd
 ·have e1:goes all s0.m (done++[r])=put s.m o.dst v:=by
   rw [goes_app,hsm,hr,←hdst];rfl
  have e2:goesS (s0.σ,s0.nx) (done++[r])=loud.getD (s.σ,s.nx):=by
   have:goesS (s0.σ,s0.nx) (done++[r])=after (goesS (s0.σ,s0.nx) done) r:=by simp [goesS]
   rw [this,hsc,haft]
  rw [e1,e2]
 ·intro q hq hqn
  rcases List.mem_append.1 hq with hq | hq
  ·exact pre.hlo q hq hqn
  ·simp only [List.mem_singleton] at hq
   subst hq
   rw [hr] at hqn ⊢
   simp only at hqn
   cases hlo:loud with
   |none=>exact absurd hlo hqn
   |some c=>exact (hl c hlo).1
 ·intro q hq hqn
  rcases List.mem_append.1 hq with hq | hq
  ·exact (pre.hpend q hq hqn).imp id fun h=>h.imp id (hp q)
  ·simp only [List.mem_singleton] at hq
   subst hq
   rw [hr] at hqn ⊢
   simp only at hqn
   subst hqn
   rcases hs rfl with h1 | ⟨_,h1⟩
   ·exact .inl h1
   ·exact .inr h1
 ·intro q hq
  rcases List.mem_append.1 hq with hq | hq
  ·exact pre.small q hq
  ·simp only [List.mem_singleton] at hq
   subst hq
   rw [hr];exact hi
 ·intro hsn q hq hqn
  have hqp:=hpq q hq hqn
  have h1:=pre.mark hsn q hqp hqn
  rw [hls]
  cases hlo:loud with
  |none=>simpa using h1
  |some c=>
   simp only [Option.isSome_some,if_true]
   refine silent_app _ _ h1 ?_
   rw [←goesS_louds,hsc,haft,hlo,hr]
   exact ((hl c hlo).2 q hqp).imp anS_anc id
theorem Chain.step {o:Oper} {rest:List (Nat×Oper)} {v:AV} {loud:Option ((Nat→AObj)×Nat)} {pend':List Rc}
  (hd:Does P n all i s.m s.σ s.nx v (loud.getD (s.σ,s.nx)).1 (loud.getD (s.σ,s.nx)).2)
  (hs:loud=none→((∀σ nx,Does P n all i s.m σ nx v σ nx)∨((∀k∈lo,k<i→anc all k i=true)∧((∀k∈lo,i<k→anc all i k=true)∨⟨i,s.m,v,none⟩∈pend'))))
  (hl:∀c,loud=some c→i∈lo∧∀q∈pend,anc all q.i i=true∨Does P n all q.i q.m c.1 c.2 q.v c.1 c.2)
  (hp:∀q∈pend,q∈pend')
  (h:Chain P n all lo sw rest pend' ⟨put s.m o.dst v,(loud.getD (s.σ,s.nx)).1,(loud.getD (s.σ,s.nx)).2⟩ Q) (hpq:∀q∈pend',q.loud≠none→q∈pend:=by first | exact fun _ h _=>h | exact fun _ h hn=>(List.mem_cons.1 h).resolve_left (fun e=>hn (by rw [e]))):Chain P n all lo sw ((i,o) :: rest) pend s Q:=
 Chain.stepG hd (fun e=>(hs e).imp id fun g=>⟨.inl g.1,g.2⟩) hl hp hpq h
theorem Chain.at {o:Oper} {rest:List (Nat×Oper)} (h:all[i]? =some o→Chain P n all lo sw ((i,o) :: rest) pend s Q):Chain P n all lo sw ((i,o) :: rest) pend s Q:=
 fun hst s0 done pre=>h (pre.here (i,o) List.mem_cons_self) hst s0 done pre
theorem SilentOK.congr {f g:Nat→Nat→Bool} {r:Rc}:∀{ks:List Rc} {c:(Nat→AObj)×Nat},(∀k∈ks,f k.i r.i=g k.i r.i∧f r.i k.i=g r.i k.i)→SilentOK P n all f r c ks→SilentOK P n all g r c ks:=by
 intro ks
 induction ks with
 |nil=>intro c _ h;exact h
 |cons k ks ih=>
  intro c h h1
  obtain ⟨e1,e2⟩:=h k List.mem_cons_self
  exact ⟨h1.1.imp (fun e=>e1 ▸ e) id,h1.2.imp (fun e=>e2 ▸ e) (ih fun q hq=>h q (List.mem_cons_of_mem _ hq))⟩
theorem Inv.congr {f g:Nat→Nat→Bool} {l:List Rc} {s:St} (h:∀r∈l,∀q∈l,f r.i q.i=g r.i q.i) (hi:Inv P n all f l s):Inv P n all g l s:=by
 refine ⟨hi.view,hi.ord.imp_of_mem fun {r q} hr hq ho=>⟨ho.ne,ho.or.imp (fun e=>(h r hr q hq) ▸ e) id⟩,fun r hr hn=>?_,hi.loud⟩
 refine (hi.silent r hr hn).congr fun k hk=>?_
 have hk':=(List.mem_filter.1 hk).1
 exact ⟨h k hk' r hr,h r hr k hk'⟩
theorem stat_flip {a b:Nat} {d e:Bool} (h:statS all n lo (some (a,b,d))=true):statS all n lo (some (b,a,e))=true:=by
 have hsw:∀i j,swIs (some (b,a,e)) i j=(i==b&&j==a):=fun _ _=>rfl
 have hsw':∀i j,swIs (some (a,b,d)) i j=(i==a&&j==b):=fun _ _=>rfl
 simp only [statS,Bool.and_eq_true,List.all_eq_true,List.mem_range,Bool.or_eq_true,hsw,hsw',bne_iff_ne] at h ⊢
 obtain ⟨⟨⟨h1,h2⟩,h3⟩,h4,h5⟩:=h
 refine ⟨⟨⟨Ne.symm h1,h3⟩,h2⟩,h4,fun i hi=>⟨(h5 i hi).1,fun j hj=>?_⟩⟩
 rcases (h5 i hi).2 j hj with g | g | ⟨g1,g2⟩ | ⟨g1,g2⟩
 ·exact .inl g
 ·exact .inr (.inl g)
 ·exact .inr (.inr (.inr ⟨g2,g1⟩))
 ·exact .inr (.inr (.inl ⟨g2,g1⟩))
theorem Chain.pair {a b:Nat} {oa ob:Oper} {rest:List (Nat×Oper)} (hr:∀p∈rest,anc all a p.1=true∨anc all b p.1=true) (h1:Chain P n all lo (some (a,b,true)) ((a,oa) :: (b,ob) :: rest) pend s Q) (h2:Chain P n all lo (some (b,a,true)) ((b,ob) :: (a,oa) :: rest) pend s Q):
  Chain P n all lo (some (a,b,false)) ((a,oa) :: (b,ob) :: rest) pend s Q:=by
 intro hst s0 done pre
 obtain ⟨hab,_,_⟩:=stat_sw hst
 have hsw:∀i j,swIs (some (b,a,true)) i j=(i==b&&j==a):=fun _ _=>rfl
 have hsw':∀i j,swIs (some (a,b,false)) i j=(i==a&&j==b):=fun _ _=>rfl
 have ho:=pre.order
 simp only [List.map_cons,List.pairwise_append,List.pairwise_cons,List.mem_cons,forall_eq_or_imp] at ho
 obtain ⟨o1,⟨⟨o2,o3⟩,o4,o5⟩,o6⟩:=ho
 have hna:∀i∈done.map (·.i),i≠a∧i≠b:=by
  intro i hi
  obtain ⟨g1,g2,_⟩:=o6 i hi
  have e1:i≠a:=by
   rintro rfl
   rcases g1 with ⟨g,_⟩ | g
   ·exact Nat.lt_irrefl _ g
   ·simp only [hsw',Bool.and_eq_true,beq_iff_eq] at g;exact hab g.2
  refine ⟨e1,?_⟩
  rintro rfl
  rcases g2 with ⟨g,_⟩ | g
  ·exact Nat.lt_irrefl _ g
  ·simp only [hsw',Bool.and_eq_true,beq_iff_eq] at g;exact e1 g.1
 have hb:∀j∈rest.map (·.1),b<j:=fun j hj=>by
  rcases o4 j hj with ⟨g,_⟩ | g
  ·exact g
  ·simp only [hsw',Bool.and_eq_true,beq_iff_eq] at g;exact absurd g.1.symm hab
 have ha:∀j∈rest.map (·.1),a<j:=fun j hj=>by
  rcases o3 j hj with ⟨g,_⟩ | g
  ·exact g
  ·simp only [hsw',Bool.and_eq_true,beq_iff_eq] at g
   have:=hb j hj
   omega
 have hlt:∀{i j:Nat},i≠a→nextTo (some (a,b,false)) i j→i<j:=fun {i j} hi h=>by
  rcases h with ⟨g,_⟩ | g
  ·exact g
  ·simp only [hsw',Bool.and_eq_true,beq_iff_eq] at g;exact absurd g.1 hi
 have hn:∀{i j:Nat},i<j→i≠a→nextTo (some (b,a,true)) i j:=fun {i j} h hi=>.inl ⟨h,by rw [hsw];simp [hi]⟩
 have hdi:∀r∈done,r.i≠a∧r.i≠b:=fun r hr=>hna r.i (List.mem_map.2 ⟨r,hr,rfl⟩)
 have p1:Pre P n all lo (some (a,b,true)) s0 done ((a,oa) :: (b,ob) :: rest) pend s:=⟨pre.inv,pre.here,pre.order,pre.fin,pre.hlo,pre.hpend,pre.small,fun e=>by cases e⟩
 have p2:Pre P n all lo (some (b,a,true)) s0 done ((b,ob) :: (a,oa) :: rest) pend s:=by
  refine ⟨pre.inv.congr fun r hr q hq=>?_,fun p hp=>pre.here p ?_,?_,pre.fin,pre.hlo,pre.hpend,pre.small,fun e=>by cases e⟩
  ·have e1:=hdi r hr
   have f1:(r.i==a)=false:=by simpa using e1.1
   have f2:(r.i==b)=false:=by simpa using e1.2
   simp only [anS,hsw,hsw',f1,f2,Bool.false_and]
  ·simp only [List.mem_cons] at hp ⊢
   rcases hp with h | h | h
   ·exact .inr (.inl h)
   ·exact .inl h
   ·exact .inr (.inr h)
  ·simp only [List.map_cons,List.pairwise_append,List.pairwise_cons,List.mem_cons,forall_eq_or_imp]
   refine ⟨o1.imp_of_mem fun {i j} hi hj h=>hn (hlt (hna i hi).1 h) (hna i hi).1,⟨⟨.inr (by rw [hsw];simp),fun j hj=>hn (hb j hj) (Ne.symm hab)⟩,fun j hj=>.inl ⟨ha j hj,?_⟩,o5.imp_of_mem fun {i j} hi hj h=>?_⟩,fun i hi=>⟨hn (hlt (hna i hi).1 (o6 i hi).2.1) (hna i hi).1,hn (hlt (hna i hi).1 (o6 i hi).1) (hna i hi).1,fun j hj=>hn (hlt (hna i hi).1 ((o6 i hi).2.2 j hj)) (hna i hi).1⟩⟩
   ·have:=hb j hj
    rw [hsw]
    simp;omega
   ·have e:=ha i hi
    exact hn (hlt (by omega) h) (by omega)
 obtain ⟨x,x1,x2,x3⟩:Fin1 P n all (some (a,b,true)) Q s0 done (a :: b :: List.map (fun (p:Nat×Oper)=>p.fst) rest):=h1 hst s0 done p1
 obtain ⟨y,y1,y2,y3⟩:Fin1 P n all (some (b,a,true)) Q s0 done (b :: a :: List.map (fun (p:Nat×Oper)=>p.fst) rest):=h2 (stat_flip hst) s0 done p2
 refine ⟨[],x,y,⟨x1,x2,x3⟩,⟨y1,y3⟩,fun i=>?_,?_,?_,fun r hr'=>?_⟩
 ·rw [x2,y2]
  simp only [List.map_cons,List.mem_cons]
  constructor
  ·rintro (h | h | h)
   ·exact .inr (.inl h)
   ·exact .inl h
   ·exact .inr (.inr h)
  ·rintro (h | h | h)
   ·exact .inr (.inl h)
   ·exact .inl h
   ·exact .inr (.inr h)
 ·have e1:=congrArg List.length x2
  have e2:=congrArg List.length y2
  simp only [List.length_map,List.length_cons] at e1 e2
  omega
 ·rw [List.nil_append,y2]
  exact p2.order
 ·have:r.i∈x.map (·.i):=List.mem_map.2 ⟨r,hr',rfl⟩
  rw [x2] at this
  simp only [List.map_cons,List.mem_cons,List.mem_map] at this
  rcases this with h | h | ⟨p,hp,h⟩
  ·exact .inl h
  ·exact .inr (.inl h)
  ·rw [←h]
   exact .inr (.inr (hr p hp))
theorem num_mem (p:Nat×Oper):∀(l:List Oper) (k:Nat),p∈num k l→k≤p.1∧l[p.1-k]? =some p.2:=by
 intro l
 induction l with
 |nil=>intro k h;cases h
 |cons o l ih=>
  intro k h
  have h':p∈(k,o) :: num (k+1) l:=h
  rcases List.mem_cons.1 h' with e | h1
  ·rw [e];exact ⟨Nat.le_refl _,by simp⟩
  ·have:=ih (k+1) h1
   refine ⟨by omega,?_⟩
   rw [show p.1-k=(p.1-(k+1))+1 by omega]
   simpa using this.2
theorem num_ix:∀(l:List Oper) (k i:Nat),i∈(num k l).map (·.1)↔k≤i∧i<k+l.length
 |[],k,i=>by simp [num]
 |o :: l,k,i=>by
  rw [num,List.map_cons,List.mem_cons,num_ix l (k+1) i,List.length_cons]
  omega
theorem num_sorted:∀(l:List Oper) (k:Nat),((num k l).map (·.1)).Pairwise (· < ·)
 |[],_=>List.Pairwise.nil
 |o :: l,k=>by
  rw [num,List.map_cons,List.pairwise_cons]
  refine ⟨fun i hi=>?_,num_sorted l (k+1)⟩
  have:=(num_ix l (k+1) i).1 hi
  show k<i
  omega
end
end Go.Proofs.YtnoifgjiipgpoaaGreatDoor.R

namespace Go.Proofs.YtnoifgjiipgpoaaGreatDoor.R
open Go.RowKit
structure Base where
 C:Ctx
 σ:Nat→AObj
 w:World
 n:Nat
 ro:Option Nat
def Rel (B:Base) (s:St) (a:Act) (w:World):Prop:=
 ∃C:Ctx,C.nx=s.nx∧(∀t,RepA w C (s.m t) (a.tmps.getD t undef))∧a.tmps.size=B.n∧Marks B.w.heap.size C s.σ w a.defers∧Sim C s.σ w∧Step B.C B.σ B.w C s.σ w
abbrev Post:=Exit→St→Prop
def post (B:Base) (Q:Post) (e:Exit) (a:Act) (w:World):Prop:=∃s,Q e s∧Rel B s a w
def AXc (P:Program) (B:Base) (c:Code) (Q:Post) (s:St):Prop:=∀a w,Rel B s a w→cwp B.ro P c (post B Q) a w
def AXo (P:Program) (B:Base) (all:Array Oper) (rest:List Oper) (Q:Post) (s:St):Prop:=∀a w,Rel B s a w→wpL B.ro P all (post B Q) rest a w
inductive KI where
 |code (c:Code)
 |blk (id:Nat)
 |scp
 |ops (all:Array Oper) (rest:List Oper)
 |opsD (all:Array Oper) (lo:List Nat) (sw:SW) (rest:List (Nat×Oper)) (pend:List Rc)
 |again (J:St→Prop)
 |lab (J:Nat→St→Prop)
 |fin (e:Exit)
def Kp (P:Program) (B:Base):List KI→Post→Post
 |[],R=>R
 | .code c :: k,R=>fun e s=>match e with
  | .normal=>AXc P B c (Kp P B k R) s
  |e=>Kp P B k R e s
 | .blk id :: k,R=>fun e s=>match e with
  | .exit i=>if i=id then Kp P B k R .normal s else Kp P B k R (.exit i) s
  |e=>Kp P B k R e s
 | .scp :: k,R=>fun e s=>match e with
  | .goto _=>False
  |e=>Kp P B k R e s
 | .ops all rest :: k,R=>fun e s=>match e with
  | .normal=>AXo P B all rest (Kp P B k R) s
  |e=>Kp P B k R e s
 | .opsD all lo sw rest pend :: k,R=>fun e s=>match e with
  | .normal=>Chain P B.n all lo sw rest pend s (Kp P B k R .normal)
  |e=>Kp P B k R e s
 | .again J :: k,R=>fun e s=>match e with
  | .normal=>J s
  |e=>Kp P B k R e s
 | .lab J :: k,R=>fun e s=>match e with
  | .goto l=>J l s
  |e=>Kp P B k R e s
 | .fin e' :: k,R=>fun e s=>match e with
  | .normal=>Kp P B k R e' s
  |e=>Kp P B k R e s
section
variable {P:Program} {B:Base} {k:List KI} {R:Post} {s:St}
theorem post_mono {Q Q':Post} (h:∀e s,Q e s→Q' e s) (e:Exit) (a:Act) (w:World) (hp:post B Q e a w):post B Q' e a w:=
 let ⟨s,h1,h2⟩:=hp;⟨s,h _ _ h1,h2⟩
theorem K_skip (h:Kp P B k R .normal s):Kp P B (.code .skip :: k) R .normal s:=fun _ _ hr=>wpIn_skip ⟨s,h,hr⟩
theorem K_label {l:Nat} (h:Kp P B k R .normal s):Kp P B (.code (.label l) :: k) R .normal s:=fun _ _ hr=>wpIn_label ⟨s,h,hr⟩
theorem K_ret (h:Kp P B k R .ret s):Kp P B (.code .ret :: k) R .normal s:=fun _ _ hr=>wpIn_ret ⟨s,h,hr⟩
theorem K_exit {id:Nat} (h:Kp P B k R (.exit id) s):Kp P B (.code (.exit id) :: k) R .normal s:=fun _ _ hr=>wpIn_exit ⟨s,h,hr⟩
theorem K_goto {l:Nat} (h:Kp P B k R (.goto l) s):Kp P B (.code (.goto l) :: k) R .normal s:=fun _ _ hr=>wpIn_goto ⟨s,h,hr⟩
theorem K_seq {a b:Code} (h:Kp P B (.code a :: .code b :: k) R .normal s):Kp P B (.code (.seq a b) :: k) R .normal s:=by
 intro ac w hr
 refine wpIn_seq (cwp_mono (h ac w hr) fun e a' w' hp=>?_)
 obtain ⟨s',h1,h2⟩:=hp
 cases e with
 |normal=>exact h1 _ _ h2
 |_=>exact ⟨s',h1,h2⟩
theorem K_block {id:Nat} {c:Code} (h:Kp P B (.code c :: .blk id :: k) R .normal s):Kp P B (.code (.block id c) :: k) R .normal s:=by
 intro ac w hr
 refine wpIn_block (cwp_mono (h ac w hr) fun e a' w' hp=>?_)
 obtain ⟨s',h1,h2⟩:=hp
 cases e with
 |exit i=>
  simp only [Kp] at h1
  simp only [Exit.inBlock]
  split<;>rename_i hi
  ·rw [if_pos hi] at h1;exact ⟨s',h1,h2⟩
  ·rw [if_neg hi] at h1;exact ⟨s',h1,h2⟩
 |_=>exact ⟨s',h1,h2⟩
theorem rel_cond {c:Operand} {t:Bool} (h:ev s.m c= .t (.v (.bool t))) {a:Act} {w:World} (hr:Rel B s a w):a.eval c= .bool t:=by
 obtain ⟨C,_,h1,_,_,_,_⟩:=hr
 cases c with
 |tmp t'=>
  have:=h1 t'
  simp only [ev] at h
  rw [h] at this
  exact (rep_v this).1
 |const v=>
  simp only [ev] at h
  have:=const_rep (w:=w) (C:=C) v
  rw [h] at this
  exact (rep_v this).1
 |global g=>simp only [ev] at h;cases h
 |func f=>simp only [ev] at h;cases h
theorem K_cond {c:Operand} {x y:Code} {t:Bool} (h:ev s.m c= .t (.v (.bool t))) (h1:t=true→Kp P B (.code x :: k) R .normal s) (h2:t=false→Kp P B (.code y :: k) R .normal s):
  Kp P B (.code (.cond c x y) :: k) R .normal s:=by
 intro a w hr
 exact wpIn_cond_split (rel_cond h hr) (fun e=>h1 e a w hr) (fun e=>h2 e a w hr)
theorem K_region {id:Nat} {ops:Array Oper} (h:Kp P B (.ops ops ops.toList :: k) R .normal s):Kp P B (.code (.region id ops false) :: k) R .normal s:=
 fun a w hr=>wpIn_region_list (h a w hr)
theorem K_opsNil {all:Array Oper} (h:Kp P B k R .normal s):Kp P B (.ops all [] :: k) R .normal s:=fun a w hr=>⟨s,h,hr⟩
def bnd (n:Nat):AV→Bool
 | .t _ | .fsl _ | .rd _ | .ifc _ _ | .any=>true
 | .ref q=>q<n
 | .ptr b _=>b<n
 | .el q _=>q<n
 | .cut q _ _ _=>q<n
 | .mapr m=>m<n
 | .yld q=>q<n
 | .agg cs=>bndL n cs
 | .tup cs=>bndL n cs
 | .fn _ a b=>bndL n a&&bndL n b
  where
 bndL (n:Nat):List AV→Bool
 |[]=>true
 |c :: cs=>bnd n c&&bndL n cs
theorem bndL_get {n:Nat}:∀{cs:List AV},bnd.bndL n cs=true→∀(k:Nat) (a:AV),cs[k]? =some a→bnd n a=true
 |[],_,k,a,h=>by simp at h
 |c :: cs,h,k,a,hk=>by
  simp only [bnd.bndL,Bool.and_eq_true] at h
  cases k with
  |zero=>simp at hk;subst hk;exact h.1
  |succ k=>exact bndL_get h.2 k a (by simpa using hk)
theorem RepA.less {w:World} {C C':Ctx} (h1:C'.imm=C.imm) (h2:C'.own=C.own) (h3:C'.hdr=C.hdr) {x:AV} {v:Value} (h:RepA w C x v) (hb:bnd C'.nx x=true):RepA w C' x v:=by
 induction h with
 |t h=>exact .t (by rw [h1];exact h)
 |agg hl _ ih=>exact .agg hl fun k a u ha hu=>ih k a u ha hu (bndL_get (by simpa [bnd] using hb) k a ha)
 |tup hl _ ih=>exact .tup hl fun k a u ha hu=>ih k a u ha hu (bndL_get (by simpa [bnd] using hb) k a ha)
 |fsl h=>exact .fsl (by rw [h1];exact h)
 |ref h hh=>exact .ref (by simpa [bnd] using hb) (by rw [h3];exact hh)
 |ptr h ho=>exact .ptr (by simpa [bnd] using hb) (by rw [h2];exact ho)
 |rd hi hcell hr=>exact .rd (by rw [h1];exact hi) hcell (fun k c h=>by rw [h1];exact hr k c h)
 |el h ho hh=>exact .el (by simpa [bnd] using hb) (by rw [h2];exact ho) (by rw [h3];exact hh)
 |cut h ho hh=>exact .cut (by simpa [bnd] using hb) (by rw [h2];exact ho) (by rw [h3];exact hh)
 |ifc hl hr=>exact .ifc hl fun k c u hc hu=>by rw [h1];exact hr k c u hc hu
 |mapr h ho=>exact .mapr (by simpa [bnd] using hb) (by rw [h2];exact ho)
 |yld h ho=>exact .yld (by simpa [bnd] using hb) (by rw [h2];exact ho)
 |fn hl _ hl' _ ih ih'=>
  simp only [bnd,Bool.and_eq_true] at hb
  exact .fn hl (fun k a u ha hu=>ih k a u ha hu (bndL_get hb.1 k a ha)) hl' (fun k a u ha hu=>ih' k a u ha hu (bndL_get hb.2 k a ha))
 |any=>exact .any
def bndO (n:Nat):AObj→Bool
 | .dead=>true
 | .box cs=>cs.all (bnd n)
 | .arr _ _=>true
 | .map es=>es.all fun e=>bnd n e.2
 | .iter _ _=>true
 | .loop _ k m _ _ _=>(List.range k).all fun t=>bnd n (m t)
theorem RepO.less {w:World} {C C':Ctx} (h1:C'.imm=C.imm) (h2:C'.own=C.own) (h3:C'.hdr=C.hdr) {i:Nat} {o:AObj} (h:RepO w C i o) (hb:bndO C'.nx o=true):RepO w C' i o:=by
 cases o with
 |dead=>exact True.intro
 |box cs=>
  obtain ⟨bl,vs,E,e1,e2,e3,e4⟩:=h
  exact ⟨bl,vs,E,by rw [h2];exact e1,e2,e3,fun k a u ha hu=>(e4 k a u ha hu).less h1 h2 h3 (List.all_eq_true.1 hb a (List.mem_of_getElem? ha))⟩
 |arr sz es=>
  obtain ⟨hsz,h⟩:=h
  refine ⟨hsz,?_⟩
  rcases h with ⟨h0,ho,a,hh⟩ | ⟨bl,cap,vs,E,lo,hi',ho,hh,hcap,hblk,hvs,hfr,hr⟩
  ·exact .inl ⟨h0,by rw [h2];exact ho,a,by rw [h3];exact hh⟩
  ·exact .inr ⟨bl,cap,vs,E,lo,hi',by rw [h2];exact ho,by rw [h3];exact hh,hcap,hblk,hvs,hfr,by rw [h1];exact hr⟩
 |map es=>
  obtain ⟨bl,ms,clock,e1,e2,e3,e4⟩:=h
  exact ⟨bl,ms,clock,by rw [h2];exact e1,e2,e3,fun k a u ha hu=>⟨(e4 k a u ha hu).1,(e4 k a u ha hu).2.less h1 h2 h3 (List.all_eq_true.1 hb a (List.mem_of_getElem? ha))⟩⟩
 |iter s k=>
  obtain ⟨bl,e1,e2⟩:=h
  exact ⟨bl,by rw [h2];exact e1,e2⟩
 |loop st n m ps avs bd=>
  obtain ⟨bl,r,e0,e1,e2,e3,e4,e5,e6,e7,e8⟩:=h
  exact ⟨bl,r,by rw [h2];exact e0,e1,e2,e3,e4,e5,e6,e7,fun t ht=>(e8 t ht).less h1 h2 h3 (List.all_eq_true.1 hb t (List.mem_range.2 ht))⟩
structure Sub (B:Base) (s t:St):Prop where
 m:∀i,t.m i= .any∨(t.m i=s.m i∧bnd t.nx (t.m i)=true)
 nx:t.nx≤s.nx
 base:B.C.nx≤t.nx
 obj:∀i,t.σ i= .dead∨(t.σ i=s.σ i∧bndO t.nx (t.σ i)=true∧i<t.nx)
theorem rel_sub {t:St} (h:Sub B s t) {a:Act} {w:World} (hr:Rel B s a w):Rel B t a w:=by
 obtain ⟨C,h1,h2,h3,h4,h5,h6⟩:=hr
 have live:∀i,t.σ i≠ .dead→s.σ i≠ .dead∧t.σ i=s.σ i∧bndO t.nx (t.σ i)=true∧i<t.nx:=fun i hi=>by
  rcases h.obj i with e | ⟨e1,e2,e3⟩
  ·exact absurd e hi
  ·exact ⟨by rw [←e1];exact hi,e1,e2,e3⟩
 refine ⟨{C with nx:=t.nx},rfl,fun i=>?_,h3,(h4.less (fun b h=>.inl h) (fun b ⟨i,hi,hb⟩=>.inr ⟨i,(live i hi).1,hb⟩)),⟨fun i hi=>?_,fun i=>?_,fun i j b hi hj=>h5.inj i j b (live i hi).1 (live j hj).1,fun i b hi=>h5.sep i b (live i hi).1,h5.imm_lt⟩,
  ⟨⟨h.base,fun i hi=>h6.le.own i hi,fun i hi=>h6.le.hdr i hi⟩,h6.os,h6.tape,h6.output,h6.size,h6.imm,h6.same,fun b ⟨i,hi,hb⟩=>h6.wr b ⟨i,(live i hi).1,hb⟩,h6.imm'⟩⟩
 ·rcases h.m i with e | ⟨e1,e2⟩
  ·rw [e];exact .any
  ·have:=h2 i
   rw [←e1] at this
   exact RepA.less (C:=C) (C':={C with nx:=t.nx}) rfl rfl rfl this e2
 ·rcases h.obj i with e | ⟨_,_,e3⟩
  ·exact e
  ·exact absurd hi (by simp;omega)
 ·by_cases hi:t.σ i= .dead
  ·rw [hi];exact True.intro
  ·obtain ⟨e1,e2,e3,e4⟩:=live i hi
   have:=h5.obj i
   rw [←e2] at this
   exact RepO.less (C:=C) (C':={C with nx:=t.nx}) rfl rfl rfl this e3
def Imp (B:Base) (s t:St):Prop:=∀a w,Rel B s a w→Rel B t a w
theorem Sub.imp {t:St} (h:Sub B s t):Imp B s t:=fun _ _ hr=>rel_sub h hr
theorem Imp.self:Imp B s s:=fun _ _ h=>h
theorem Imp.trans {t u:St} (h:Imp B s t) (k:Imp B t u):Imp B s u:=fun a w hr=>k a w (h a w hr)
theorem bndL_of {n:Nat}:∀{cs:List AV},(∀(k:Nat) (a:AV),cs[k]? =some a→bnd n a=true)→bnd.bndL n cs=true
 |[],_=>by simp [bnd.bndL]
 |c :: cs,h=>by
  simp only [bnd.bndL,Bool.and_eq_true]
  exact ⟨h 0 c rfl,bndL_of fun k a hk=>h (k+1) a (by simpa using hk)⟩
theorem RepA.bnded {w:World} {C:Ctx} {x:AV} {v:Value} (h:RepA w C x v):bnd C.nx x=true:=by
 have arr:∀{cs:List AV} {vs:Array Value},cs.length=vs.size→(∀(k:Nat) (a:AV) (u:Value),cs[k]? =some a→vs[k]? =some u→bnd C.nx a=true)→bnd.bndL C.nx cs=true:=by
  intro cs vs hl h
  refine bndL_of fun k a hk=>?_
  have hlt:=(List.getElem?_eq_some_iff.1 hk).1
  exact h k a vs[k] hk (Array.getElem?_eq_getElem (by omega))
 induction h with
 |t h=>simp [bnd]
 |agg hl _ ih=>simp only [bnd];exact arr hl ih
 |tup hl _ ih=>simp only [bnd];exact arr hl ih
 |fsl h=>simp [bnd]
 |ref h hh=>simpa [bnd] using h
 |ptr h ho=>simpa [bnd] using h
 |rd hi hcell hr=>simp [bnd]
 |el h ho hh=>simpa [bnd] using h
 |cut h ho hh=>simpa [bnd] using h
 |ifc hl hr=>simp [bnd]
 |mapr h ho=>simpa [bnd] using h
 |yld h ho=>simpa [bnd] using h
 |fn hl _ hl' _ ih ih'=>simp only [bnd,Bool.and_eq_true];exact ⟨arr hl ih,arr hl' ih'⟩
 |any=>simp [bnd]
theorem RepO.bnded {w:World} {C:Ctx} {i:Nat} {o:AObj} (h:RepO w C i o):bndO C.nx o=true:=by
 cases o with
 |dead=>rfl
 |box cs=>
  obtain ⟨bl,vs,E,e1,e2,e3,e4⟩:=h
  simp only [bndO,List.all_eq_true]
  intro a ha
  obtain ⟨k,hk⟩:=List.getElem?_of_mem ha
  have hlt:=(List.getElem?_eq_some_iff.1 hk).1
  exact (e4 k a vs[k] hk (Array.getElem?_eq_getElem (by omega))).bnded
 |arr sz es=>rfl
 |map es=>
  obtain ⟨bl,ms,clock,e1,e2,e3,e4⟩:=h
  simp only [bndO,List.all_eq_true]
  intro a ha
  obtain ⟨k,hk⟩:=List.getElem?_of_mem ha
  have hlt:=(List.getElem?_eq_some_iff.1 hk).1
  exact (e4 k a ms[k] hk (Array.getElem?_eq_getElem (by omega))).2.bnded
 |iter s k=>rfl
 |loop st n m ps avs bd=>
  obtain ⟨bl,r,e0,e1,e2,e3,e4,e5,e6,e7,e8⟩:=h
  exact List.all_eq_true.2 fun t ht=>(e8 t (List.mem_range.1 ht)).bnded
theorem rel_nx {a:Act} {w:World} (hr:Rel B s a w):B.C.nx≤s.nx:=by
 obtain ⟨C,h1,_,_,_,_,h6⟩:=hr
 rw [←h1];exact h6.le.nx
theorem Imp.same {t:St} (hm:∀i,t.m i= .any∨t.m i=s.m i) (ho:∀i,t.σ i= .dead∨t.σ i=s.σ i) (hn:t.nx=s.nx):Imp B s t:=by
 intro a w hr
 refine rel_sub ⟨fun i=>?_,by omega,by have:=rel_nx hr;omega,fun i=>?_⟩ hr
 ·obtain ⟨C,h1,h2,_⟩:=hr
  rcases hm i with e | e
  ·exact .inl e
  ·exact .inr ⟨e,by rw [e,hn,←h1];exact (h2 i).bnded⟩
 ·obtain ⟨C,h1,h2,h3,h4,h5,_⟩:=hr
  rcases ho i with e | e
  ·exact .inl e
  ·by_cases hd:t.σ i= .dead
   ·exact .inl hd
   ·have hl:i<C.nx:=Nat.lt_of_not_le fun h=>by
     have:=h5.dead i h
     rw [e] at hd
     exact hd this
    exact .inr ⟨e,by rw [e,hn,←h1];exact (h5.obj i).bnded,by omega⟩
theorem K_scope {c:Code} (h:Kp P B (.code c :: .scp :: k) R .normal s):Kp P B (.code (.scope c) :: k) R .normal s:=by
 intro ac w hr
 refine cwp_scope_straight (cwp_mono (h ac w hr) fun e a' w' hp=>?_)
 obtain ⟨s',h1,h2⟩:=hp
 cases e with
 |goto l=>exact h1.elim
 |_=>exact ⟨s',h1,h2⟩
theorem K_less {t:St} {c:Code} (h:Imp B s t) (hk:Kp P B (.code c :: k) R .normal t):Kp P B (.code c :: k) R .normal s:=
 fun a w hr=>hk a w (h _ _ hr)
end
end Go.Proofs.YtnoifgjiipgpoaaGreatDoor.R
