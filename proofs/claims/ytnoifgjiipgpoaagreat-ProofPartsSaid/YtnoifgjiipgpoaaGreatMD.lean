/- Parts of the proof: R31, R32, R33, R34, R35, R36, R37, R38, R39, R40, R41, CT, Num, Root, Set, Inst, InstR, Plane, Scan, Parse. -/
import Derived.Test.YtnoifgjiipgpoaaGreatMC
import Derived.ChangeKeysEq
import Derived.ProofKit
import Derived.Test.YtnoifgjiipgpoaaGreatProg
import Derived.KernelRfl
set_option linter.all false
set_option maxHeartbeats 4000000
namespace Go.Proofs.YtnoifgjiipgpoaaGreat.R
open Go.RowKit
section
variable {P:Program}
theorem eq3_run {t e:TypeId} {i:TypeInfo} (hu:P.underlying t=some (.array 3 e)) (hi:P.info? e=some i) (hc:P.cellsOf e=1) (hk:P.plainKey e=true) (he:P.underlying e=some (.int .u64)) (a b c a' b' c':Int) (w:World):
  (Op.equalIn 10000 t (.agg #[.int .u64 a,.int .u64 b,.int .u64 c]) (.agg #[.int .u64 a',.int .u64 b',.int .u64 c'])).run P w= .ok (a==a'&&(b==b'&&c==c')) w:=by
 rw [show (10000:Nat)=9999+1 from rfl,run_equalIn_array w 9999 _ _ hu hi,hc,show List.range 3=[0,1,2] from rfl]
 have q:∀(x y z:Int) (k:Nat) (v:Value),(#[Value.int .u64 x,.int .u64 y,.int .u64 z])[k]? =some v→(part e #[Value.int .u64 x,.int .u64 y,.int .u64 z] k).run P w= .ok v w:=fun x y z k v h=>run_part_plain w hk h
 have e1:∀x y:Int,(Op.equalIn 9999 e (.int .u64 x) (.int .u64 y)).run P w= .ok (x==y) w:=fun x y=>run_equalIn_int (P:=P) (w:=w) 9998 e .u64 .u64 x y he
 simp only [Op.eqItems,Sem.run_bind,Nat.mul_one,q a b c 0 (.int .u64 a) rfl,q a b c 1 (.int .u64 b) rfl,q a b c 2 (.int .u64 c) rfl,q a' b' c' 0 (.int .u64 a') rfl,q a' b' c' 1 (.int .u64 b') rfl,q a' b' c' 2 (.int .u64 c') rfl,Result.andThen_ok,e1]
 cases h1:a==a'<;>cases h2:b==b'<;>cases h3:c==c'<;>simp only [Bool.not_true,Bool.not_false,if_true,if_false,Bool.false_eq_true,Sem.run_bind,Sem.run_pure,Result.andThen_ok,q a b c 0 (.int .u64 a) rfl,q a b c 1 (.int .u64 b) rfl,q a b c 2 (.int .u64 c) rfl,q a' b' c' 0 (.int .u64 a') rfl,q a' b' c' 1 (.int .u64 b') rfl,q a' b' c' 2 (.int .u64 c') rfl,e1,h1,h2,h3,Bool.and_true,Bool.and_false,Bool.true_and,Bool.false_and]
theorem rep_three {w:World} {C:Ctx} {a b c:Int} {u:Value} (h:RepA w C (.agg [.t (.v (.int .u64 a)),.t (.v (.int .u64 b)),.t (.v (.int .u64 c))]) u):u= .agg #[.int .u64 a,.int .u64 b,.int .u64 c]:=by
 obtain ⟨us,rfl,hl,hr⟩:=rep_agg h
 obtain ⟨l⟩:=us
 match l,hl with
 |[x,y,z],_=>
  obtain ⟨rfl,_⟩:=rep_v (hr 0 _ x rfl rfl)
  obtain ⟨rfl,_⟩:=rep_v (hr 1 _ y rfl rfl)
  obtain ⟨rfl,_⟩:=rep_v (hr 2 _ z rfl rfl)
  rfl
theorem does_eq3 {all:Array Oper} {i n:Nat} {o:Oper} {m:Slots} {t t' e:TypeId} {ti:TypeInfo} {x y:Operand} {a b c a' b' c':Int} (ho':all[i]? =some o) (hl:lets all m o=some true) (ho:o.op= .binOp .eql t x y t')
  (hx:ev m x= .agg [.t (.v (.int .u64 a)),.t (.v (.int .u64 b)),.t (.v (.int .u64 c))]) (hy:ev m y= .agg [.t (.v (.int .u64 a')),.t (.v (.int .u64 b')),.t (.v (.int .u64 c'))]) (hg:P.eqGuardType P.depth t=false)
  (hu:P.underlying t=some (.array 3 e)) (hi:P.info? e=some ti) (hc:P.cellsOf e=1) (hk:P.plainKey e=true) (he:P.underlying e=some (.int .u64)) (σ:Nat→AObj) (nx:Nat):Does P n all i m σ nx (.b (a==a'&&(b==b'&&c==c'))) σ nx:=by
 intro C ac w hn hs hsz hrep ro K Q hK
 have hops:=mask_ev (m:=m) ho'
 have hd:dstOf all i=o.dst:=by simp [dstOf,ho']
 simp only [wpO,wpOpIn,ho',lets_wanted ho' hrep hl,if_true]
 rw [hd] at hK
 have h1:=ev_rep hrep x
 have h2:=ev_rep hrep y
 rw [hops x (by simp [ho,Op.operands]),hx] at h1
 rw [hops y (by simp [ho,Op.operands]),hy] at h2
 refine owp_value ?_ (hK _ _ C hs hn (Step.refl _ _ _) (.t (.v rfl)))
 simp only [execOp,ho,Sem.run_bind,rep_three h1,rep_three h2,run_eqGuard_agg _ _ _ _ _ _ _ hg,Result.andThen_ok,run_eql_struct,eq3_run hu hi hc hk he,Sem.run_pure]
end
section
variable {P:Program} {B:Base} {k:List KI} {R:Post} {s:St}
theorem K_dEq3 {all:Array Oper} {lo:List Nat} {sw:SW} {i:Nat} {pend:List Rc} {o:Oper} {rest:List (Nat×Oper)} {t t' e:TypeId} {ti:TypeInfo} {x y:Operand} {a b c a' b' c':Int} (hl:lets all s.m o=some true) (ho:o.op= .binOp .eql t x y t')
  (hx:ev s.m x= .agg [.t (.v (.int .u64 a)),.t (.v (.int .u64 b)),.t (.v (.int .u64 c))]) (hy:ev s.m y= .agg [.t (.v (.int .u64 a')),.t (.v (.int .u64 b')),.t (.v (.int .u64 c'))]) (hg:P.eqGuardType P.depth t=false)
  (hu:P.underlying t=some (.array 3 e)) (hi:P.info? e=some ti) (hc:P.cellsOf e=1) (hk:P.plainKey e=true) (he:P.underlying e=some (.int .u64))
  (h:Kp P B (.opsD all lo sw rest pend :: k) R .normal ⟨put s.m o.dst (.b (a==a'&&(b==b'&&c==c'))),s.σ,s.nx⟩):Kp P B (.opsD all lo sw ((i,o) :: rest) pend :: k) R .normal s:=
 Chain.at fun ho'=>Chain.step (loud:=none) (does_eq3 ho' hl ho hx hy hg hu hi hc hk he _ _) (fun _=>.inl (does_eq3 ho' hl ho hx hy hg hu hi hc hk he)) (fun c hc=>by cases hc) (fun _ h=>h) h
end
end Go.Proofs.YtnoifgjiipgpoaaGreat.R

namespace Go.Proofs.YtnoifgjiipgpoaaGreat.R
open Go.RowKit
section
variable {P:Program} {C:Ctx} {σ:Nat→AObj} {w:World}
theorem run_from {t e:TypeId} {i:TI} (ht:P.underlying t=some (.slice e)) (he:TT P e=some i) (a:Option Addr) (len cap n:Nat) (k:IntKind) (hn:n≤len) (hc:len≤cap) (w:World):
  (Instr.sliceAt t (.slice a len cap) (some (.int k n)) none none).run P w= .ok (sliced a n len cap i.size) w:=by
 have hel:P.elem t=e:=by simp [Program.elem,ht]
 rw [run_sliceAt_slice w t _ _ _ _ (by rw [hel];exact ht),run_slice_any w t a len cap (by rw [hel];exact ht),hel]
 simp [Instr.sliceBounds,Instr.sliceBound,asIntOf,hn,hc,run_size he]
theorem run_to {t e:TypeId} {i:TI} (ht:P.underlying t=some (.slice e)) (he:TT P e=some i) (a:Option Addr) (len cap n:Nat) (k:IntKind) (hn:n≤cap) (w:World):
  (Instr.sliceAt t (.slice a len cap) none (some (.int k n)) none).run P w= .ok (sliced a 0 n cap i.size) w:=by
 have hel:P.elem t=e:=by simp [Program.elem,ht]
 rw [run_sliceAt_slice w t _ _ _ _ (by rw [hel];exact ht),run_slice_any w t a len cap (by rw [hel];exact ht),hel]
 simp [Instr.sliceBounds,Instr.sliceBound,asIntOf,hn,run_size he]
theorem cut_rows {es:List (List T)} {z:List T} {n sz:Nat} (h1:∀e∈es,e.length=sz) (h2:z.length=sz):∀e∈es.take n++List.replicate (es.length-n) z,e.length=sz:=by
 intro e he
 rcases List.mem_append.1 he with he | he
 ·exact h1 e (List.mem_of_mem_take he)
 ·rw [(List.mem_replicate.1 he).2];exact h2
theorem clear_tail (hs:Sim C σ w) {t e ty:TypeId} {ie:TI} {q bl n cap n0:Nat} {es:List (List T)} {z:List T} (ht:P.underlying t=some (.slice e)) (he:TT P e=some ie) (hz:toTs (zeroA ie)=some z)
  (hσ:σ q= .arr ie.size es) (ho:C.own q=some bl) (hh:C.hdr q= .slice (some ⟨bl,0,none⟩) n0 cap) (hn:n≤es.length):
  ∃w',(Builtin.clear_ #[t] ty #[sliced (some ⟨bl,0,none⟩) n es.length cap ie.size]).run P w= .ok (.tuple #[]) w'∧
   Sim C (oput σ q (.arr ie.size (es.take n++List.replicate (es.length-n) z))) w'∧Step C σ w C (oput σ q (.arr ie.size (es.take n++List.replicate (es.length-n) z))) w':=by
 obtain ⟨h4,h5,hsz,vs,E,lo,hi,h6,h7,h8,h9⟩:=obj_arr hs hσ ho hh
 by_cases hne:n=es.length
 ·subst hne
  have e1:oput σ q (.arr ie.size (es.take es.length++List.replicate (es.length-es.length) z))=σ:=by
   funext j
   by_cases hj:j=q
   ·subst hj;simp [oput,hσ]
   ·simp [oput,hj]
  rw [e1]
  refine ⟨w,?_,hs,Step.refl _ _ _⟩
  by_cases hc:cap=es.length<;>simp [Builtin.clear_,sliced,run_underlying ht,hc]
 ·have hlt:n<es.length:=by omega
  obtain ⟨hzl,hzr⟩:=zeroT (C:=C) (w:=w) hz
  have hzs:=tt_zero he
  have hle:es.length*ie.size≤cap*ie.size:=Nat.mul_le_mul_right _ h5
  have hsub:(es.length-n)*ie.size=es.length*ie.size-n*ie.size:=Nat.sub_mul _ _ _
  have hnle:n*ie.size≤es.length*ie.size:=Nat.mul_le_mul_right _ hn
  have hcs:(Builtin.zeroCells ie.zero.cells (es.length-n)).size=(es.length-n)*ie.size:=by rw [zero_cells,hzs]
  have hone:∀v∈(Builtin.zeroCells ie.zero.cells (es.length-n)).toList,v.oneCell'=true:=by
   intro v hv
   obtain ⟨k,hk,rfl⟩:=List.getElem_of_mem hv
   have hk':k<(es.length-n)*ie.zero.cells.size:=by rw [Array.length_toList,zero_cells] at hk;exact hk
   have hg:(Builtin.zeroCells ie.zero.cells (es.length-n))[k]? =ie.zero.cells[k % ie.zero.cells.size]?:=mod_get hk'
   have hpos:0<ie.zero.cells.size:=by
    rcases Nat.eq_zero_or_pos ie.zero.cells.size with h0 | h0
    ·rw [h0] at hk';simp at hk'
    ·exact h0
   have hmod:=Nat.mod_lt k hpos
   have e1:(Builtin.zeroCells ie.zero.cells (es.length-n)).toList[k]=ie.zero.cells[k % ie.zero.cells.size]:=by
    rw [Array.getElem?_eq_getElem (by rw [zero_cells];exact hk'),Array.getElem?_eq_getElem hmod] at hg
    simpa using Option.some.inj hg
   rw [e1]
   exact repT_one (hzr _ (z[k % ie.zero.cells.size]'(by omega)) _ (List.getElem?_eq_getElem _) (Array.getElem?_eq_getElem hmod))
  obtain ⟨w',vs',e1,e2,e3,e4,e5,e6,e7,e8,e9⟩:=run_stores (P:=P) bl (n*ie.size) E lo hi (Builtin.zeroCells ie.zero.cells (es.length-n)).toList 0 vs w h6 (by rw [Array.length_toList,hcs];omega) hone (by rw [h7];exact h8)
  have hd:σ q≠ .dead:=by rw [hσ];exact fun h=>by cases h
  have hk:Keeps w C.imm w' C.imm:=⟨fun b h=>h,fun b' h=>e5 b' fun e=>hs.sep q bl hd ho (e ▸ h)⟩
  have hlen':(es.take n++List.replicate (es.length-n) z).length=es.length:=by
   rw [List.length_append,List.length_take,List.length_replicate];omega
  have hrows:=cut_rows (n:=n) hsz (z:=z) (by omega)
  obtain ⟨g1,g2⟩:=sim_set hs hd ho e7 e8 e9 e6 e5 (obj:=.arr ie.size (es.take n++List.replicate (es.length-n) z)) ⟨hrows,
   .inr ⟨bl,cap,vs',E,lo,hi,ho,by rw [hlen',hh,h4],by omega,e2,by omega,h8,fun j k y c u hy hc hu=>by
    rw [e4] at hu
    simp only [Nat.add_zero,Array.length_toList,hcs] at hu
    have hyl:=hrows y (List.mem_of_getElem? hy)
    have hkl:k<y.length:=(List.getElem?_eq_some_iff.1 hc).1
    have hj:j<es.length:=by rw [←hlen'];exact (List.getElem?_eq_some_iff.1 hy).1
    have hj1:(j+1)*ie.size≤es.length*ie.size:=Nat.mul_le_mul_right _ hj
    rw [Nat.add_mul,Nat.one_mul] at hj1
    by_cases hjn:j<n
    ·have:(j+1)*ie.size≤n*ie.size:=Nat.mul_le_mul_right _ hjn
     rw [Nat.add_mul,Nat.one_mul] at this
     rw [if_neg (by omega)] at hu
     rw [List.getElem?_append_left (by rw [List.length_take];omega),List.getElem?_take,if_pos hjn] at hy
     exact (h9 _ _ _ _ _ hy hc hu).keeps hk
    ·have:n*ie.size≤j*ie.size:=Nat.mul_le_mul_right _ (by omega)
     rw [if_pos (by omega)] at hu
     rw [List.getElem?_append_right (by rw [List.length_take];omega),List.getElem?_replicate] at hy
     split at hy
     ·cases hy
      rw [Array.getElem?_toList] at hu
      have hm:j*ie.size+k-n*ie.size=(j-n)*ie.size+k:=by rw [Nat.sub_mul];omega
      rw [hm] at hu
      have hjm:(j-n+1)*ie.size≤(es.length-n)*ie.size:=Nat.mul_le_mul_right _ (by omega)
      rw [Nat.add_mul,Nat.one_mul] at hjm
      have hg:(Builtin.zeroCells ie.zero.cells (es.length-n))[(j-n)*ie.size+k]? =ie.zero.cells[((j-n)*ie.size+k) % ie.zero.cells.size]?:=mod_get (by rw [hzs];omega)
      have hmd:((j-n)*ie.size+k) % ie.size=k:=by rw [Nat.mul_comm,Nat.mul_add_mod,Nat.mod_eq_of_lt (by omega)]
      rw [hg,hzs,hmd] at hu
      exact (hzr k c u hc hu).keeps hk
     ·cases hy⟩⟩
  refine ⟨w',?_,g1,g2⟩
  have hcap:¬cap=n:=by omega
  obtain ⟨m,hm⟩:∃m,es.length-n=m+1:=⟨es.length-n-1,by omega⟩
  simp only [sliced,if_neg hcap,Option.map_some,add_base,Nat.zero_add]
  rw [hm] at e1 ⊢
  simp [Builtin.clear_,run_underlying ht,run_zero he,e1]
theorem sim_cut (hs:Sim C σ w) {q bl sz cap n0 n:Nat} {es:List (List T)} (hσ:σ q= .arr sz es) (ho1:C.own q=some bl) (hhq:C.hdr q= .slice (some ⟨bl,0,none⟩) n0 cap) (hn:n≤es.length):
  ∃C',C'.nx=C.nx+1∧Sim C' (oput (oput σ q .dead) C.nx (.arr sz (es.take n))) w∧Step C σ w C' (oput (oput σ q .dead) C.nx (.arr sz (es.take n))) w∧RepA w C' (.ref C.nx) (.slice (some ⟨bl,0,none⟩) n cap):=by
 obtain ⟨_,h5,hsz,vs,E,lo,hi,h6,h7,h8,h9⟩:=obj_arr hs hσ ho1 hhq
 have hqd:σ q≠ .dead:=by rw [hσ];exact fun h=>by cases h
 have hlen:(es.take n).length=n:=by rw [List.length_take];omega
 obtain ⟨C',hC⟩:∃C':Ctx,C'=⟨C.imm,fun j=>if j=C.nx then some bl else C.own j,fun j=>if j=C.nx then .slice (some ⟨bl,0,none⟩) n cap else C.hdr j,C.nx+1⟩:=⟨_,rfl⟩
 have himm:C'.imm=C.imm:=by rw [hC]
 have hnx:C'.nx=C.nx+1:=by rw [hC]
 have hown:∀j,C'.own j=if j=C.nx then some bl else C.own j:=fun j=>by rw [hC]
 have hh:C'.hdr C.nx= .slice (some ⟨bl,0,none⟩) n cap:=by rw [hC];exact if_pos rfl
 have hk:Keeps w C.imm w C'.imm:=by rw [himm];exact ⟨fun b h=>h,fun b h=>rfl⟩
 have hcc:CtxLe C C':=by
  subst hC
  exact ⟨Nat.le_succ _,fun i hi=>if_neg (by omega),fun i hi=>if_neg (by omega)⟩
 have live:∀j,j≠C.nx→(if j=C.nx then AObj.arr sz (es.take n) else if j=q then .dead else σ j)≠ .dead→j≠q∧σ j≠ .dead:=by
  intro j hj h
  rw [if_neg hj] at h
  by_cases ej:j=q
  ·rw [if_pos ej] at h;exact absurd rfl h
  ·rw [if_neg ej] at h;exact ⟨ej,h⟩
 refine ⟨C',hnx,⟨fun j hj=>?_,fun j=>?_,fun j k b hj hk' e1 e2=>?_,fun j b hj hb=>?_,fun b h=>by rw [himm] at h;exact hs.imm_lt b h⟩,
  ⟨hcc,rfl,rfl,rfl,Nat.le_refl _,fun b h=>by rw [himm];exact h,fun b _ hm=>rfl,fun b h=>?_,fun b h=>.inl (by rw [himm] at h;exact h)⟩,.ref (by rw [hnx];exact Nat.lt_succ_self _) hh⟩
 ·rw [hnx] at hj
  show (if j=C.nx then _ else if j=q then AObj.dead else σ j)=_
  rw [if_neg (by omega)]
  split
  ·rfl
  ·exact hs.dead j (by omega)
 ·show RepO w C' j (if j=C.nx then _ else if j=q then AObj.dead else σ j)
  by_cases ej:j=C.nx
  ·rw [if_pos ej]
   subst ej
   exact ⟨fun e he=>hsz e (List.mem_of_mem_take he),.inr ⟨bl,cap,vs,E,lo,hi,by rw [hown];exact if_pos rfl,by rw [hlen];exact hh,by omega,h6,h7,h8,fun j k l cc u h1 h2 h3=>by
    rw [List.getElem?_take] at h1
    split at h1
    ·exact (h9 j k l cc u h1 h2 h3).keeps hk
    ·cases h1⟩⟩
  ·rw [if_neg ej]
   by_cases eq:j=q
   ·rw [if_pos eq];exact True.intro
   ·rw [if_neg eq]
    by_cases hdj:σ j= .dead
    ·rw [hdj];exact True.intro
    ·exact (hs.obj j).step hk hcc (live_lt hs hdj) (fun b hb=>rfl)
 ·rw [hown] at e1 e2
  by_cases ej:j=C.nx<;>by_cases ek:k=C.nx
  ·omega
  ·rw [if_pos ej] at e1;rw [if_neg ek] at e2;cases e1
   obtain ⟨f1,f2⟩:=live k ek hk'
   exact absurd (hs.inj k q bl f2 hqd e2 ho1) f1
  ·rw [if_neg ej] at e1;rw [if_pos ek] at e2;cases e2
   obtain ⟨f1,f2⟩:=live j ej hj
   exact absurd (hs.inj j q bl f2 hqd e1 ho1) f1
  ·rw [if_neg ej] at e1;rw [if_neg ek] at e2
   exact hs.inj j k b (live j ej hj).2 (live k ek hk').2 e1 e2
 ·rw [himm]
  rw [hown] at hb
  by_cases ej:j=C.nx
  ·rw [if_pos ej] at hb;cases hb;exact hs.sep q bl hqd ho1
  ·rw [if_neg ej] at hb;exact hs.sep j b (live j ej hj).2 hb
 ·obtain ⟨j,hj,hb⟩:=h
  rw [hown] at hb
  by_cases ej:j=C.nx
  ·rw [if_pos ej] at hb;cases hb;exact .inl ⟨q,hqd,ho1⟩
  ·rw [if_neg ej] at hb;exact .inl ⟨j,(live j ej hj).2,hb⟩
end
section
variable {P:Program} {B:Base} {k:List KI} {R:Post} {s:St}
theorem K_clear {all:Array Oper} {o1 o2:Oper} {rest:List Oper} {t e:TypeId} {x ix:Operand} {d1 q n:Nat} {c:Call} {ie i0:TI} {es:List (List T)} {z:List T} {ik:IntKind} (hg1:o1.guard=none) (hg2:o2.guard=none) (h1:o1.op= .slice t x (some ix) none none) (h2:o2.op= .call c) (hc:c.callee= .builtin .clear) (ha:c.args= #[.tmp d1]) (hy:c.argTypes= #[t]) (hd1:o1.dst=some d1)
  (hb1:dOk B.n o1.dst=true) (hb2:dOk B.n o2.dst=true) (ht:TT P t=some i0) (hdesc:i0.desc= .slice e) (he:TT P e=some ie) (hz:toTs (zeroA ie)=some z) (hx:ev s.m x= .ref q) (hσ:s.σ q= .arr ie.size es) (hi:ev s.m ix= .t (.v (.int ik n))) (hn:n≤es.length) (hpos:0<es.length)
  (h:Kp P B (.ops all rest :: k) R .normal ⟨put (put s.m (some d1) .any) o2.dst (.tup []),oput s.σ q (.arr ie.size (es.take n++List.replicate (es.length-n) z)),s.nx⟩):Kp P B (.ops all (o1 :: o2 :: rest) :: k) R .normal s:=by
 intro a w hr
 obtain ⟨C,g1,g2,g3,g4,g5,g6⟩:=hr
 have rx:=ev_rep g2 x
 rw [hx] at rx
 have hob:=g5.obj q
 rw [hσ] at hob
 obtain ⟨hsz,⟨h0,_⟩ | ⟨bl,cap,vs,E,lo,hi',q1,q2,q3,q4,q5,q6,q7⟩⟩:=hob
 ·rw [h0] at hpos;simp at hpos
 generalize hu:a.eval x=u at rx
 cases rx with
 |ref hq hh=>
  rw [q2] at hh
  cases hh
  have ri:=ev_rep g2 ix
  rw [hi] at ri
  obtain ⟨hiv,_⟩:=rep_v ri
  have hunt:P.underlying t=some (.slice e):=by rw [←hdesc];exact (tt_some ht).1
  obtain ⟨w',e1,e2,e3⟩:=clear_tail (ty:=o2.type) g5 hunt he hz hσ q1 q2 hn
  have hd1':d1<a.tmps.size:=by rw [hd1] at hb1;rw [g3];simpa [dOk] using hb1
  refine wpL_plain hg1 fun K hK=>?_
  have hx1:(execOp a.eval o1).run P w= .ok (.value (sliced (some ⟨bl,0,none⟩) n es.length cap ie.size)) w:=by
   simp only [execOp,h1,hu,hiv,Option.map_some,Option.map_none,Sem.run_bind,run_from hunt he _ _ _ _ _ hn q3,Result.andThen_ok,Sem.run_pure]
  refine owp_value hx1 (hK _ _ (wpL_plain hg2 fun K' hK'=>?_))
  have hx2:(execOp (a.put o1.dst (sliced (some ⟨bl,0,none⟩) n es.length cap ie.size)).eval o2).run P w= .ok (.value (.tuple #[])) w':=by
   have hev:(a.put o1.dst (sliced (some ⟨bl,0,none⟩) n es.length cap ie.size)).eval (.tmp d1)=sliced (some ⟨bl,0,none⟩) n es.length cap ie.size:=by
    rw [hd1]
    simp [Act.eval,Act.put,Array.getD_eq_getD_getElem?,Array.getElem?_setIfInBounds_self_of_lt hd1']
   obtain ⟨dst,op,type,pos,after,guard⟩:=o2
   simp only at h2
   subst h2
   have hv:∀ρ,execOp ρ ⟨dst,.call c,type,pos,after,guard⟩=(do let d ←resolve ρ c type;invoke d.target d.args):=fun ρ=>rfl
   rw [hv]
   simp only [resolve,hc,Sem.run_bind,Sem.run_pure,Result.andThen_ok,invoke,builtin,ha,hy,List.map_toArray,List.map_cons,List.map_nil,hev,e1]
  refine owp_value hx2 ?_
  have p1:=put_rep g5 (Step.refl C s.σ w) g2 (d:=some d1) (by rw [←hd1,g3];exact hb1) (v:=.any) (u:=sliced (some ⟨bl,0,none⟩) n es.length cap ie.size) .any
  have p2:=put_rep (a:=a.put o1.dst (sliced (some ⟨bl,0,none⟩) n es.length cap ie.size)) g5 e3 (by rw [hd1];exact p1) (d:=o2.dst) (by rw [put_size,g3];exact hb2) (v:=.tup []) (u:=.tuple #[]) (.tup rfl fun k a u h=>by simp at h)
  exact hK' _ _ (h _ _ ⟨C,g1,p2,by rw [put_size,put_size];exact g3,by rw [put_def,put_def];exact g4.step e3,e2,g6.trans e3⟩)
theorem K_front {all:Array Oper} {o:Oper} {rest:List Oper} {t e:TypeId} {x ix:Operand} {q n sz:Nat} {ie i0:TI} {es:List (List T)} {ik:IntKind} (hg:o.guard=none) (h1:o.op= .slice t x none (some ix) none)
  (hb:dOk B.n o.dst=true) (ht:TT P t=some i0) (hdesc:i0.desc= .slice e) (he:TT P e=some ie) (hx:ev s.m x= .ref q) (hσ:s.σ q= .arr sz es) (hi:ev s.m ix= .t (.v (.int ik n))) (hn:n≤es.length) (hpos:0<es.length)
  (h:Kp P B (.ops all rest :: k) R .normal ⟨put s.m o.dst (.ref s.nx),oput (oput s.σ q .dead) s.nx (.arr sz (es.take n)),s.nx+1⟩):Kp P B (.ops all (o :: rest) :: k) R .normal s:=by
 intro a w hr
 obtain ⟨C,g1,g2,g3,g4,g5,g6⟩:=hr
 have rx:=ev_rep g2 x
 rw [hx] at rx
 have hob:=g5.obj q
 rw [hσ] at hob
 obtain ⟨hsz,⟨h0,_⟩ | ⟨bl,cap,vs,E,lo,hi',q1,q2,q3,q4,q5,q6,q7⟩⟩:=hob
 ·rw [h0] at hpos;simp at hpos
 generalize hu:a.eval x=u at rx
 cases rx with
 |ref hq hh=>
  rw [q2] at hh
  cases hh
  have ri:=ev_rep g2 ix
  rw [hi] at ri
  obtain ⟨hiv,_⟩:=rep_v ri
  have hunt:P.underlying t=some (.slice e):=by rw [←hdesc];exact (tt_some ht).1
  obtain ⟨C',e1,e2,e3,e4⟩:=sim_cut g5 hσ q1 q2 hn
  have hsl:sliced (some ⟨bl,0,none⟩) 0 n cap ie.size= .slice (some ⟨bl,0,none⟩) n cap:=by
   simp [sliced,add_zero']
  refine wpL_plain hg fun K hK=>?_
  have hx1:(execOp a.eval o).run P w= .ok (.value (.slice (some ⟨bl,0,none⟩) n cap)) w:=by
   simp only [execOp,h1,hu,hiv,Option.map_some,Option.map_none,Sem.run_bind,run_to hunt he _ _ _ _ _ (show n≤cap by omega),Result.andThen_ok,Sem.run_pure,hsl]
  refine owp_value hx1 ?_
  have p1:=put_rep g5 e3 g2 (d:=o.dst) (by rw [g3];exact hb) e4
  rw [g1] at e1 e2 e3 p1
  exact hK _ _ (h _ _ ⟨C',e1,p1,by rw [put_size];exact g3,by rw [put_def];exact g4.step e3,e2,g6.trans e3⟩)
end
end Go.Proofs.YtnoifgjiipgpoaaGreat.R

namespace Go.Proofs.YtnoifgjiipgpoaaGreat.R
open Go.RowKit
@[go_sem] theorem run_none {P:Program} {n:Nat} {G:List KI→St→Prop} {k:List KI} {s:St}:run P n G 0 k s=G k s:=by rw [run]
section
variable {P:Program} {B:Base} {k:List KI} {R:Post} {s:St} {all:Array Oper}
theorem K_impC {t:St} {c:Code} (h:Imp B s t) (hk:Kp P B (.code c :: k) R .normal t):Kp P B (.code c :: k) R .normal s:=
 fun a w hr=>hk a w (h _ _ hr)
end
end Go.Proofs.YtnoifgjiipgpoaaGreat.R

namespace Go.Proofs.YtnoifgjiipgpoaaGreat.R
theorem toTs_t:∀(e:List T),toTs (e.map AV.t)=some e
 |[]=>rfl
 |x :: e=>by simp only [List.map_cons,toTs,toT,toTs_t e]
theorem setCells_eq {α:Type}:∀(xs cs:List α) (off:Nat),off+xs.length≤cs.length→setCells cs off xs=cs.take off++xs++cs.drop (off+xs.length)
 |[],cs,off,_=>by simp [setCells]
 |x :: xs,cs,off,h=>by
  rw [List.length_cons] at h
  rw [setCells,setCells_eq xs (cs.set off x) (off+1) (by rw [List.length_set];omega)]
  have e1:(cs.set off x).take (off+1)=cs.take off++[x]:=by
   rw [List.take_succ_eq_append_getElem (by rw [List.length_set];omega),List.take_set_of_le (Nat.le_refl _)]
   simp
  have e2:(cs.set off x).drop (off+1+xs.length)=cs.drop (off+(x :: xs).length):=by
   rw [List.drop_set_of_lt (by omega),List.length_cons]
   congr 1
   omega
  rw [e1,e2]
  simp
theorem setCells_all {α:Type} {xs cs:List α} (h:xs.length=cs.length):setCells cs 0 xs=xs:=by
 rw [setCells_eq xs cs 0 (by omega)]
 simp [h]
end Go.Proofs.YtnoifgjiipgpoaaGreat.R

namespace Go.Proofs.YtnoifgjiipgpoaaGreat.R
section
variable {P:Program}
theorem spec_keep {f:FuncId} {fn:Func} {c:Code} (hf:P.funcs[f]? =some fn) (hb:fn.body=some c) (hname:(fn.name== "runtime.NumGoroutine")=false) {args:List AV} {σ:Nat→AObj} {nx:Nat} {r:AV} (hn:args.length≤fn.ntmps)
  (hr:bnd nx r=true)
  (h:(∀i,σ i= .dead∨(bndO nx (σ i)=true∧i<nx))→∀B:Base,B.n=fn.ntmps→B.C.nx=nx→B.σ=σ→Kp P B [.code c] (fun e s=>(e= .ret∨e= .normal)∧nx≤s.nx∧(∀i,i<nx→s.σ i=σ i)∧∃rs,resL P s fn.results.toList=some rs∧resV rs=r) .normal ⟨slots0 args,σ,nx⟩):
  CallSpec P f args σ nx r σ nx:=by
 refine CallQ.spec (CallQ.known (by simp [goodFn,hf,hb,hname]) fun hk=>?_)
 refine CallSpec.q (spec_of_K hf hb hname hn fun B h1 h2 h3=>?_)
 refine fun a w hrel=>cwp_mono (h hk B h1 h2 h3 a w hrel) fun e a' w' hp=>?_
 obtain ⟨s',⟨he,g1,g3,rs,g4,g5⟩,h5⟩:=hp
 have hend:Ends nx s' (resV rs) σ nx r:=by
  refine ⟨fun i=>?_,g1,Nat.le_refl _,.inl g5.symm,.inr hr⟩
  rcases hk i with e | ⟨e,e2⟩
  ·exact .inl e
  ·exact .inr ⟨(g3 i e2).symm,.inr ⟨e,e2⟩⟩
 refine ⟨s',?_,h5⟩
 rcases he with rfl | rfl
 ·exact ⟨rs,g4,hend⟩
 ·exact ⟨rs,g4,hend⟩
end
end Go.Proofs.YtnoifgjiipgpoaaGreat.R

namespace Go.Proofs.YtnoifgjiipgpoaaGreat.R
open Go.RowKit
section
variable {P:Program}
theorem sliced_part {bl lo hi cap sz:Nat} (h:lo<cap):sliced (some ⟨bl,0,none⟩) lo hi cap sz= .slice (some ⟨bl,lo*sz,none⟩) (hi-lo) (cap-lo):=by
 rw [sliced,if_neg (by omega)]
 simp [add_base]
theorem does_cutFrom {all:Array Oper} {i n:Nat} {o:Oper} {m:Slots} {t e:TypeId} {x ix:Operand} {q lo:Nat} {ik:IntKind} {es:List (List T)} {ie i0:TI} {σ:Nat→AObj} {nx:Nat} (ho':all[i]? =some o) (hl:lets all m o=some true) (ho:o.op= .slice t x (some ix) none none)
  (ht:TT P t=some i0) (hdesc:i0.desc= .slice e) (he:TT P e=some ie) (hx:ev m x= .ref q) (hσ:σ q= .arr ie.size es) (hi:ev m ix= .t (.v (.int ik lo))) (hlo:lo<es.length):Does P n all i m σ nx (.cut q ie.size lo es.length) σ nx:=by
 intro C a w hn hs hsz hrep ro K Q hK
 have hops:=mask_ev (m:=m) ho'
 have hd:dstOf all i=o.dst:=by simp [dstOf,ho']
 simp only [wpO,wpOpIn,ho',lets_wanted ho' hrep hl,if_true]
 rw [hd] at hK
 have rx:=ev_rep hrep x
 rw [hops x (by simp [ho,Op.operands]),hx] at rx
 have hob:=hs.obj q
 rw [hσ] at hob
 obtain ⟨hsz',⟨h0,_⟩ | ⟨bl,cap,vs,E,l0,hi',q1,q2,q3,q4,q5,q6,q7⟩⟩:=hob
 ·rw [h0] at hlo;simp at hlo
 generalize hu:a.eval x=u at rx
 cases rx with
 |ref hq hh=>
  rw [q2] at hh
  cases hh
  have ri:=ev_rep hrep ix
  rw [hops ix (by simp [ho,Op.operands]),hi] at ri
  obtain ⟨hiv,_⟩:=rep_v ri
  have hunt:P.underlying t=some (.slice e):=by rw [←hdesc];exact (tt_some ht).1
  have hx1:(execOp a.eval o).run P w= .ok (.value (.slice (some ⟨bl,lo*ie.size,none⟩) (es.length-lo) (cap-lo))) w:=by
   simp only [execOp,ho,hu,hiv,Option.map_some,Option.map_none,Sem.run_bind,run_from hunt he _ _ _ _ _ (Nat.le_of_lt hlo) q3,Result.andThen_ok,Sem.run_pure,sliced_part (show lo<cap by omega)]
  exact owp_value hx1 (hK _ _ C hs hn (Step.refl _ _ _) (.cut hq q1 q2))
theorem does_cutTo {all:Array Oper} {i n:Nat} {o:Oper} {m:Slots} {t e:TypeId} {x ix:Operand} {q up:Nat} {ik:IntKind} {es:List (List T)} {ie i0:TI} {σ:Nat→AObj} {nx:Nat} (ho':all[i]? =some o) (hl:lets all m o=some true) (ho:o.op= .slice t x none (some ix) none)
  (ht:TT P t=some i0) (hdesc:i0.desc= .slice e) (he:TT P e=some ie) (hx:ev m x= .ref q) (hσ:σ q= .arr ie.size es) (hi:ev m ix= .t (.v (.int ik up))) (hup:up≤es.length) (hpos:0<es.length):Does P n all i m σ nx (.cut q ie.size 0 up) σ nx:=by
 intro C a w hn hs hsz hrep ro K Q hK
 have hops:=mask_ev (m:=m) ho'
 have hd:dstOf all i=o.dst:=by simp [dstOf,ho']
 simp only [wpO,wpOpIn,ho',lets_wanted ho' hrep hl,if_true]
 rw [hd] at hK
 have rx:=ev_rep hrep x
 rw [hops x (by simp [ho,Op.operands]),hx] at rx
 have hob:=hs.obj q
 rw [hσ] at hob
 obtain ⟨hsz',⟨h0,_⟩ | ⟨bl,cap,vs,E,l0,hi',q1,q2,q3,q4,q5,q6,q7⟩⟩:=hob
 ·rw [h0] at hpos;simp at hpos
 generalize hu:a.eval x=u at rx
 cases rx with
 |ref hq hh=>
  rw [q2] at hh
  cases hh
  have ri:=ev_rep hrep ix
  rw [hops ix (by simp [ho,Op.operands]),hi] at ri
  obtain ⟨hiv,_⟩:=rep_v ri
  have hunt:P.underlying t=some (.slice e):=by rw [←hdesc];exact (tt_some ht).1
  have hx1:(execOp a.eval o).run P w= .ok (.value (.slice (some ⟨bl,0*ie.size,none⟩) (up-0) (cap-0))) w:=by
   simp only [execOp,ho,hu,hiv,Option.map_some,Option.map_none,Sem.run_bind,run_to hunt he _ _ _ _ _ (show up≤cap by omega),Result.andThen_ok,Sem.run_pure,sliced_part (show 0<cap by omega)]
  exact owp_value hx1 (hK _ _ C hs hn (Step.refl _ _ _) (.cut hq q1 q2))
theorem write_rows {C:Ctx} {σ:Nat→AObj} {w:World} (hs:Sim C σ w) {q bl cap n0 lo:Nat} {es ss:List (List T)} {vs:List Value} (hσ:σ q= .arr 1 es) (ho:C.own q=some bl) (hh:C.hdr q= .slice (some ⟨bl,0,none⟩) n0 cap)
  (hlo:lo+ss.length≤es.length) (hlen:vs.length=ss.length) (hrep:∀(j:Nat) (y:List T) (v:Value),ss[j]? =some y→vs[j]? =some v→∃c,y=[c]∧RepT w C.imm c v):
  ∃w',(storeCells ⟨bl,lo,none⟩ vs 0).run P w= .ok () w'∧Sim C (oput σ q (.arr 1 (es.take lo++(ss++es.drop (lo+ss.length))))) w'∧Step C σ w C (oput σ q (.arr 1 (es.take lo++(ss++es.drop (lo+ss.length))))) w':=by
 obtain ⟨h4,h5,hsz,cur,E,l0,l1,h6,h7,h8,h9⟩:=obj_arr hs hσ ho hh
 have hone:∀v∈vs,v.oneCell'=true:=by
  intro v hv
  obtain ⟨k,hk,rfl⟩:=List.getElem_of_mem hv
  obtain ⟨c,_,hc⟩:=hrep k ss[k] vs[k] (List.getElem?_eq_getElem _) (List.getElem?_eq_getElem _)
  exact repT_one hc
 obtain ⟨w',cur',e1,e2,e3,e4,e5,e6,e7,e8,e9⟩:=run_stores (P:=P) bl lo E l0 l1 vs 0 cur w h6 (by omega) hone (by rw [h7];exact h8)
 have hd:σ q≠ .dead:=by rw [hσ];exact fun h=>by cases h
 have hk:Keeps w C.imm w' C.imm:=⟨fun b h=>h,fun b' h=>e5 b' fun e=>hs.sep q bl hd ho (e ▸ h)⟩
 have hlen':(es.take lo++(ss++es.drop (lo+ss.length))).length=es.length:=by
  rw [List.length_append,List.length_take,List.length_append,List.length_drop];omega
 have hrows:∀e∈es.take lo++(ss++es.drop (lo+ss.length)),e.length=1:=by
  intro e he
  rcases List.mem_append.1 he with he | he
  ·exact hsz e (List.mem_of_mem_take he)
  rcases List.mem_append.1 he with he | he
  ·obtain ⟨k,hk,rfl⟩:=List.getElem_of_mem he
   obtain ⟨c,hc,_⟩:=hrep k ss[k] vs[k] (List.getElem?_eq_getElem _) (List.getElem?_eq_getElem _)
   rw [hc];rfl
  ·exact hsz e (List.mem_of_mem_drop he)
 obtain ⟨g1,g2⟩:=sim_set hs hd ho e7 e8 e9 e6 e5 (obj:=.arr 1 (es.take lo++(ss++es.drop (lo+ss.length)))) ⟨hrows,
  .inr ⟨bl,cap,cur',E,l0,l1,ho,by rw [hlen',hh,h4],by omega,e2,by omega,h8,fun j k y c u hy hc hu=>by
   rw [e4] at hu
   have hyl:=hrows y (List.mem_of_getElem? hy)
   have hkl:k<y.length:=(List.getElem?_eq_some_iff.1 hc).1
   have hk0:k=0:=by omega
   subst hk0
   have hj:j<es.length:=by rw [←hlen'];exact (List.getElem?_eq_some_iff.1 hy).1
   by_cases hjn:j<lo
   ·rw [if_neg (by omega)] at hu
    rw [List.getElem?_append_left (by rw [List.length_take];omega),List.getElem?_take,if_pos hjn] at hy
    exact (h9 _ _ _ _ _ hy hc hu).keeps hk
   ·rw [List.getElem?_append_right (by rw [List.length_take];omega),List.length_take,show min lo es.length=lo by omega] at hy
    by_cases hj2:j<lo+ss.length
    ·rw [if_pos (by omega)] at hu
     rw [List.getElem?_append_left (by omega)] at hy
     rw [show j*1+0-(lo+0)=j-lo by omega] at hu
     obtain ⟨c',hc',hr⟩:=hrep (j-lo) y u hy hu
     rw [hc'] at hc
     simp only [List.getElem?_cons_zero,Option.some.injEq] at hc
     subst hc
     exact hr.keeps hk
    ·rw [if_neg (by omega)] at hu
     rw [List.getElem?_append_right (by omega),List.getElem?_drop,show lo+ss.length+(j-lo-ss.length)=j by omega] at hy
     exact (h9 _ _ _ _ _ hy hc hu).keeps hk⟩⟩
 exact ⟨w',e1,g1,g2⟩
theorem copy_rows {C:Ctx} {σ:Nat→AObj} {w:World} (hs:Sim C σ w) {t t' e ty:TypeId} {ie:TI} {q bl cap n0 lo up k:Nat} {dc sc:Nat} {es:List (List T)} (ht:P.underlying t=some (.slice e)) (he:TT P e=some ie) (h1:ie.size=1) (hσ:σ q= .arr 1 es) (ho:C.own q=some bl) (hh:C.hdr q= .slice (some ⟨bl,0,none⟩) n0 cap)
  (hlo:lo+k≤es.length) (hk:k=Nat.min up (es.length-lo)) (hup:up≤es.length):
  ∃w',(Builtin.copy_ #[t,t'] ty #[.slice (some ⟨bl,lo,none⟩) (es.length-lo) dc,.slice (some ⟨bl,0,none⟩) up sc]).run P w= .ok (goInt k) w'∧Sim C (oput σ q (.arr 1 (es.take lo++(es.take k++es.drop (lo+k))))) w'∧Step C σ w C (oput σ q (.arr 1 (es.take lo++(es.take k++es.drop (lo+k))))) w':=by
 obtain ⟨h4,h5,hsz,cur,E,l0,l1,h6,h7,h8,h9⟩:=obj_arr hs hσ ho hh
 have hku:k≤up:=by rw [hk];exact Nat.min_le_left _ _
 have hlen:(cur.toList.take k).length=(es.take k).length:=by
  rw [List.length_take,List.length_take,Array.length_toList,h7];omega
 have hkl:(es.take k).length=k:=by rw [List.length_take];omega
 obtain ⟨w',e1,e2,e3⟩:=write_rows (P:=P) (lo:=lo) (ss:=es.take k) (vs:=cur.toList.take k) hs hσ ho hh (by rw [hkl];exact hlo) hlen fun j y v hy hv=>by
  have hj:j<k:=by
   have:=(List.getElem?_eq_some_iff.1 hy).1
   omega
  rw [List.getElem?_take,if_pos hj] at hy hv
  have hyl:=hsz y (List.mem_of_getElem? hy)
  obtain ⟨c,rfl⟩:∃c,y=[c]:=by
   match y,hyl with
   |[c],_=>exact ⟨c,rfl⟩
  rw [Array.getElem?_toList] at hv
  exact ⟨c,rfl,h9 j 0 [c] c v hy rfl (by simpa using hv)⟩
 rw [hkl] at e2 e3
 refine ⟨w',?_,e2,e3⟩
 have hsrc:∀(j:Nat) (v:Value),(cur.toList.take k)[j]? =some v→w.cell? ((⟨bl,0,none⟩:Addr).add j)=some v:=by
  intro j v hv
  rw [add_base]
  have hj:j<k:=by
   have:=(List.getElem?_eq_some_iff.1 hv).1
   omega
  rw [List.getElem?_take,if_pos hj,Array.getElem?_toList] at hv
  simp [World.cell?,h6,hv]
 have hl:=run_loadCells_list (P:=P) w ⟨bl,0,none⟩ (cur.toList.take k) hsrc
 have hkl2:(cur.toList.take k).length=k:=by rw [hlen,hkl]
 rw [hkl2] at hl
 have hsize:=run_size he (w:=w)
 rw [h1] at hsize
 simp [Builtin.copy_,run_underlying ht,Builtin.lenOf,Builtin.firstCells,hsize,←hk,hl,e1]
theorem does_copyPart {all:Array Oper} {i n:Nat} {o:Oper} {m:Slots} {c:Call} {x y:Operand} {t t' e:TypeId} {i0 ie:TI} {q lo up k:Nat} {es:List (List T)} {σ:Nat→AObj} {nx:Nat} (ho':all[i]? =some o) (hl:lets all m o=some true) (ho:o.op= .call c) (hc:c.callee= .builtin .copy) (ha:c.args= #[x,y]) (hy:c.argTypes= #[t,t'])
  (ht:TT P t=some i0) (hdesc:i0.desc= .slice e) (he:TT P e=some ie) (h1:ie.size=1) (hx:ev m x= .cut q 1 lo es.length) (hyv:ev m y= .cut q 1 0 up) (hσ:σ q= .arr 1 es) (hlo:lo+k≤es.length) (hk:k=Nat.min up (es.length-lo)) (hup:up≤es.length):
  Does P n all i m σ nx (.t (.v (.int .i64 k))) (oput σ q (.arr 1 (es.take lo++(es.take k++es.drop (lo+k))))) nx:=by
 intro C a w hn hs hsz hrep ro K Q hK
 have hops:=mask_ev (m:=m) ho'
 have hd:dstOf all i=o.dst:=by simp [dstOf,ho']
 simp only [wpO,wpOpIn,ho',lets_wanted ho' hrep hl,if_true]
 rw [hd] at hK
 have rx:=ev_rep hrep x
 have ry:=ev_rep hrep y
 rw [hops x (by simp [ho,Op.operands,Call.operands,ha,hc]),hx] at rx
 rw [hops y (by simp [ho,Op.operands,Call.operands,ha,hc]),hyv] at ry
 have hunt:P.underlying t=some (.slice e):=by rw [←hdesc];exact (tt_some ht).1
 generalize hu:a.eval x=u at rx
 generalize hv:a.eval y=v at ry
 cases rx with
 |@cut _ _ _ _ bl n0 cap b1 b2 b3=>
  cases ry with
  |cut d1 d2 d3=>
   rw [b2] at d2
   cases d2
   rw [b3] at d3
   cases d3
   obtain ⟨w',e1,e2,e3⟩:=copy_rows (P:=P) (t:=t) (t':=t') (ty:=o.type) (dc:=cap-lo) (sc:=cap) hs hunt he h1 hσ b2 b3 hlo hk hup
   have hx2:(execOp a.eval o).run P w= .ok (.value (goInt k)) w':=by
    obtain ⟨dst,op,type,pos,after,guard⟩:=o
    simp only at ho
    subst ho
    simp only at e1
    have hv':∀ρ,execOp ρ ⟨dst,.call c,type,pos,after,guard⟩=(do let d ←resolve ρ c type;invoke d.target d.args):=fun ρ=>rfl
    rw [hv']
    simp only [resolve,hc,Sem.run_bind,Sem.run_pure,Result.andThen_ok,invoke,builtin,ha,hy,List.map_toArray,List.map_cons,List.map_nil,hu,hv,Nat.mul_one,Nat.sub_zero,Nat.zero_mul,e1]
   exact owp_value hx2 (hK _ _ C e2 hn e3 (.t (.v rfl)))
theorem copy_tree {C:Ctx} {σ:Nat→AObj} {w:World} (hs:Sim C σ w) {t t' e ty:TypeId} {ie:TI} {q bl cap n0 dc:Nat} {es ys:List (List T)} {u:Value} (ht:P.underlying t=some (.slice e)) (he:TT P e=some ie) (h1:ie.size=1) (hσ:σ q= .arr 1 es) (ho:C.own q=some bl) (hh:C.hdr q= .slice (some ⟨bl,0,none⟩) n0 cap)
  (hu:RepT w C.imm (.sl ys) u) (hy:∀y∈ys,y.length=1) (hpos:0<ys.length) (hle:ys.length≤es.length):
  ∃w',(Builtin.copy_ #[t,t'] ty #[.slice (some ⟨bl,0,none⟩) es.length dc,u]).run P w= .ok (goInt ys.length) w'∧Sim C (oput σ q (.arr 1 (ys++es.drop ys.length))) w'∧Step C σ w C (oput σ q (.arr 1 (ys++es.drop ys.length))) w':=by
 cases hu with
 |nil=>simp at hpos
 |@sl _ ad cap2 sz un h0 hsz hc himm hcell hr=>
  have hsz1:sz=1:=by
   have a1:=hsz ys[0] (List.getElem_mem _)
   have a2:=hy ys[0] (List.getElem_mem _)
   omega
  subst hsz1
  obtain ⟨w',e1,e2,e3⟩:=write_rows (P:=P) (lo:=0) (ss:=ys) (vs:=(List.range ys.length).map un) hs hσ ho hh (by omega) (by simp) fun j y v hj hv=>by
   have hjl:=(List.getElem?_eq_some_iff.1 hj).1
   rw [List.getElem?_map,List.getElem?_range hjl] at hv
   cases hv
   have hyl:=hy y (List.mem_of_getElem? hj)
   obtain ⟨c,rfl⟩:∃c,y=[c]:=by
    match y,hyl with
    |[c],_=>exact ⟨c,rfl⟩
   have:=hr j 0 [c] c hj rfl
   rw [Nat.mul_one,Nat.add_zero] at this
   exact ⟨c,rfl,this⟩
  rw [List.take_zero,List.nil_append,Nat.zero_add] at e2 e3
  refine ⟨w',?_,e2,e3⟩
  have hsrc:∀(j:Nat) (v:Value),((List.range ys.length).map un)[j]? =some v→w.cell? (ad.add j)=some v:=by
   intro j v hv
   have hjl:j<ys.length:=by
    have:=(List.getElem?_eq_some_iff.1 hv).1
    simpa using this
   rw [List.getElem?_map,List.getElem?_range hjl] at hv
   cases hv
   exact hcell j (by omega)
  have hl:=run_loadCells_list (P:=P) w ad _ hsrc
  have hll:((List.range ys.length).map un).length=ys.length:=by simp
  rw [hll] at hl
  have hsize:=run_size he (w:=w)
  rw [h1] at hsize
  have hmin:Nat.min ys.length es.length=ys.length:=Nat.min_eq_left hle
  simp [Builtin.copy_,run_underlying ht,Builtin.lenOf,Builtin.firstCells,hsize,hmin,hl,e1]
end
section
variable {P:Program} {B:Base} {k:List KI} {R:Post} {s:St} {all:Array Oper} {o:Oper} {lo:List Nat} {sw:SW} {rest:List (Nat×Oper)} {i:Nat} {pend:List Rc} {v:AV}
theorem K_dLook (hd:all[i]? =some o→Does P B.n all i s.m s.σ s.nx v s.σ s.nx) (ht:tied all lo i=true) (h:Kp P B (.opsD all lo sw rest pend :: k) R .normal ⟨put s.m o.dst v,s.σ,s.nx⟩):Kp P B (.opsD all lo sw ((i,o) :: rest) pend :: k) R .normal s:=
 Chain.at fun ho=>Chain.step (loud:=none) (hd ho) (fun _=>.inr (by
  simp only [tied,List.all_eq_true,Bool.and_eq_true,Bool.or_eq_true,Bool.not_eq_true',decide_eq_false_iff_not] at ht
  exact ⟨fun k hk h=>((ht k hk).1).resolve_left (fun e=>e h),.inl fun k hk h=>((ht k hk).2).resolve_left (fun e=>e h)⟩)) (fun c hc=>by cases hc) (fun _ h=>h) h
theorem K_dTold {σ':Nat→AObj} {nx':Nat} (hd:all[i]? =some o→Does P B.n all i s.m s.σ s.nx v σ' nx') (hi:i∈lo) (hp:∀q∈pend,anc all q.i i=true∨Does P B.n all q.i q.m σ' nx' q.v σ' nx')
  (h:Kp P B (.opsD all lo sw rest pend :: k) R .normal ⟨put s.m o.dst v,σ',nx'⟩):Kp P B (.opsD all lo sw ((i,o) :: rest) pend :: k) R .normal s:=
 Chain.at fun ho=>Chain.step (loud:=some (σ',nx')) (hd ho) (fun hc=>by cases hc) (fun c hc=>by cases hc;exact ⟨hi,hp⟩) (fun _ h=>h) h
theorem K_copyT {t t' e:TypeId} {x y:Operand} {c:Call} {i0 ie:TI} {q:Nat} {es ys:List (List T)} {ops:List Oper} (hg:o.guard=none) (ho:o.op= .call c) (hc:c.callee= .builtin .copy) (ha:c.args= #[x,y]) (hy:c.argTypes= #[t,t']) (hb:dOk B.n o.dst=true)
  (ht:TT P t=some i0) (hdesc:i0.desc= .slice e) (he:TT P e=some ie) (h1:ie.size=1) (hx:ev s.m x= .ref q) (hyv:ev s.m y= .fsl ys) (hσ:s.σ q= .arr 1 es) (hyl:∀y∈ys,y.length=1) (hpos:0<ys.length) (hle:ys.length≤es.length)
  (h:Kp P B (.ops all ops :: k) R .normal ⟨put s.m o.dst (.t (.v (.int .i64 ys.length))),oput s.σ q (.arr 1 (ys++es.drop ys.length)),s.nx⟩):Kp P B (.ops all (o :: ops) :: k) R .normal s:=by
 intro a w hr
 obtain ⟨C,g1,g2,g3,g4,g5,g6⟩:=hr
 have rx:=ev_rep g2 x
 have ry:=ev_rep g2 y
 rw [hx] at rx
 rw [hyv] at ry
 have hob:=g5.obj q
 rw [hσ] at hob
 obtain ⟨hsz,⟨h0,_⟩ | ⟨bl,cap,vs,E,lo,hi',q1,q2,q3,q4,q5,q6,q7⟩⟩:=hob
 ·rw [h0] at hle;simp at hle;rw [hle] at hpos;simp at hpos
 have hunt:P.underlying t=some (.slice e):=by rw [←hdesc];exact (tt_some ht).1
 generalize hu:a.eval x=u at rx
 generalize hv:a.eval y=v at ry
 cases rx with
 |ref hq hh=>
  rw [q2] at hh
  cases hh
  cases ry with
  |@fsl _ ad hrt=>
   obtain ⟨w',e1,e2,e3⟩:=copy_tree (P:=P) (t:=t) (t':=t') (ty:=o.type) (dc:=cap) g5 hunt he h1 hσ q1 q2 hrt hyl hpos hle
   refine wpL_plain hg fun K hK=>?_
   have hx2:(execOp a.eval o).run P w= .ok (.value (goInt ys.length)) w':=by
    obtain ⟨dst,op,type,pos,after,guard⟩:=o
    simp only at ho
    subst ho
    simp only at e1
    have hv':∀ρ,execOp ρ ⟨dst,.call c,type,pos,after,guard⟩=(do let d ←resolve ρ c type;invoke d.target d.args):=fun ρ=>rfl
    rw [hv']
    simp only [resolve,hc,Sem.run_bind,Sem.run_pure,Result.andThen_ok,invoke,builtin,ha,hy,List.map_toArray,List.map_cons,List.map_nil,hu,hv,e1]
   refine owp_value hx2 ?_
   have p2:=put_rep (a:=a) g5 e3 g2 (d:=o.dst) (by rw [g3];exact hb) (v:=.t (.v (.int .i64 ys.length))) (u:=goInt ys.length) (.t (.v rfl))
   exact hK _ _ (h _ _ ⟨C,g1,p2,by rw [put_size];exact g3,by rw [put_def];exact g4.step e3,e2,g6.trans e3⟩)
end
end Go.Proofs.YtnoifgjiipgpoaaGreat.R

namespace Go.Proofs.YtnoifgjiipgpoaaGreat.R
open Go.RowKit
section
variable {P:Program}
theorem mapSet_run {C:Ctx} {σ:Nat→AObj} {w:World} {ρ:Operand→Value} {e:Operand→AV} {o:Oper} (hs:Sim C σ w) (hρ:∀z,RepA w C (e z) (ρ z)) {t kt et:TypeId} {x ix y:Operand} {it:TI} {m:Nat} {es:List (Value×AV)} {u:Value} (ho:o.op= .mapUpdate t x ix y)
  (ht:TT P t=some it) (hdesc:it.desc= .map kt et) (hk:keyKind P kt=true) (hx:e x= .mapr m) (hσ:σ m= .map es) (hu:plainA (e ix)=some u) (hc:ckA P 10000 kt (e ix)=true) (htell:TellM P kt (e ix) u es) (hsame:findM u es=none∨Instr.sameBits 10000 u u=true):
  ∃w',(execOp ρ o).run P w= .ok .skip w'∧Sim C (oput σ m (.map (setM u (e y) es))) w'∧Step C σ w C (oput σ m (.map (setM u (e y) es))) w':=by
 have hmx:=hρ x
 rw [hx] at hmx
 obtain ⟨bl,ms,clock,e0,ow,e2,e3,e4⟩:=obj_map hs hσ hmx
 have hix:=rep_plain hu (hρ ix)
 have hy:=hρ y
 have hund:P.underlying t=some (.map kt et):=by rw [(tt_some ht).1,hdesc]
 have hck:(Instr.checkKey false 10000 kt u).run P w= .ok () w:=by
  have:=ckA_run (w:=w) (C:=C) false 10000 kt (e ix) (ρ ix) hc (hρ ix)
  rwa [hix] at this
 obtain ⟨f1,f2⟩:=find_run (w:=w) (C:=C) hk hc hu es ms htell e3 e4
 have hlt:bl<w.heap.size:=(Array.getElem?_eq_some_iff.1 e2).1
 have hdead:σ m≠ .dead:=by rw [hσ];exact (fun h=>by cases h)
 have fin:∀(ms':Array MapEntry) (clock':Nat),(execOp ρ o).run P w= .ok .skip {w with heap:=w.heap.setIfInBounds bl (.map ms' clock')}→
   ((setM u (e y) es).length=ms'.size∧∀(k:Nat) (b:Value×AV) (v:MapEntry),(setM u (e y) es)[k]? =some b→ms'[k]? =some v→v.key=b.1∧RepA w C b.2 v.val)→
   ∃w',(execOp ρ o).run P w= .ok .skip w'∧Sim C (oput σ m (.map (setM u (e y) es))) w'∧Step C σ w C (oput σ m (.map (setM u (e y) es))) w':=by
  intro ms' clock' hrun ⟨l1,l2⟩
  have hne:∀b,b≠bl→(w.heap.setIfInBounds bl (.map ms' clock'))[b]? =w.heap[b]?:=fun b hb=>by simp [Array.getElem?_setIfInBounds_ne (Ne.symm hb)]
  have hk0:Keeps w C.imm {w with heap:=w.heap.setIfInBounds bl (.map ms' clock')} C.imm:=⟨fun _ h=>h,fun b hb=>hne b fun e=>hs.sep m bl hdead ow (e ▸ hb)⟩
  obtain ⟨g1,g2⟩:=sim_set (w':={w with heap:=w.heap.setIfInBounds bl (.map ms' clock')}) (obj:=.map (setM u (e y) es)) hs hdead ow rfl rfl rfl (by simp) hne ⟨bl,ms',clock',ow,by simp [hlt],l1,fun k b v hb hv=>by
   obtain ⟨p1,p2⟩:=l2 k b v hb hv
   exact ⟨p1,p2.keeps hk0 ⟨Nat.le_refl _,fun _ _=>rfl,fun _ _=>rfl⟩⟩⟩
  exact ⟨_,hrun,g1,g2⟩
 cases hf:findM u es with
 |none=>
  refine fin (ms.push {key:=u,val:=ρ y,born:=clock}) (clock+1) ?_ ?_
  ·simp only [execOp,ho,Instr.mapUpdate,Sem.run_bind,run_underlying hund,Result.andThen_ok,e0,hix,MapKept.run_getObj_map e2,Sem.run_pure,hck,f1 hf,MapKept.run_setObj_map _ e2]
  ·rw [setM,hf]
   refine ⟨by simp [e3],fun k b v hb hv=>?_⟩
   simp only at hb
   by_cases hk':k<es.length
   ·rw [List.getElem?_append_left hk'] at hb
    rw [Array.getElem?_push_lt (by omega)] at hv
    exact e4 k b v hb (by rw [Array.getElem?_eq_getElem (by omega)];exact hv)
   ·rw [List.getElem?_append_right (by omega)] at hb
    have hk0:k-es.length=0:=by
     have:=(List.getElem?_eq_some_iff.1 hb).1
     simp at this;omega
    have hke:k=ms.size:=by omega
    subst hke
    rw [hk0] at hb
    simp at hb hv
    subst hb;subst hv
    exact ⟨rfl,hy⟩
 |some p=>
  obtain ⟨j,b0⟩:=p
  obtain ⟨me,g1,g2,g3,g4⟩:=f2 j b0 hf
  have hst:=run_stays (P:=P) (w:=w) (hsame.resolve_left (by rw [hf];simp))
  have hjlt:j<ms.size:=(Array.getElem?_eq_some_iff.1 g1).1
  refine fin (ms.modify j fun e=>{e with key:=u,val:=ρ y}) clock ?_ ?_
  ·simp only [execOp,ho,Instr.mapUpdate,Sem.run_bind,run_underlying hund,Result.andThen_ok,e0,hix,MapKept.run_getObj_map e2,Sem.run_pure,hck,g4,g1,Option.map_some,Option.getD_some,g2,hst,MapKept.run_setObj_map _ e2]
  ·rw [setM,hf]
   refine ⟨by simp [e3],fun k b v hb hv=>?_⟩
   simp only at hb
   by_cases hkj:k=j
   ·subst hkj
    rw [List.getElem?_set_self (by omega)] at hb
    cases hb
    rw [Array.getElem?_modify,if_pos rfl,g1] at hv
    cases hv
    exact ⟨rfl,hy⟩
   ·rw [List.getElem?_set_ne (fun e=>hkj e.symm)] at hb
    rw [Array.getElem?_modify,if_neg (fun e=>hkj e.symm)] at hv
    exact e4 k b v hb hv
theorem does_mapSet {all:Array Oper} {i n:Nat} {o:Oper} {m:Slots} {t kt et:TypeId} {x ix y:Operand} {it:TI} {q:Nat} {es:List (Value×AV)} {u:Value} {σ:Nat→AObj} {nx:Nat} (ho':all[i]? =some o) (hl:lets all m o=some true) (ho:o.op= .mapUpdate t x ix y)
  (ht:TT P t=some it) (hdesc:it.desc= .map kt et) (hk:keyKind P kt=true) (hx:ev m x= .mapr q) (hσ:σ q= .map es) (hu:plainA (ev m ix)=some u) (hc:ckA P 10000 kt (ev m ix)=true) (htell:TellM P kt (ev m ix) u es) (hsame:findM u es=none∨Instr.sameBits 10000 u u=true):
  Does P n all i m σ nx (.tup []) (oput σ q (.map (setM u (ev m y) es))) nx:=by
 intro C a w hn hs hsz hrep ro K Q hK
 have hops:=mask_ev (m:=m) ho'
 have hd:dstOf all i=o.dst:=by simp [dstOf,ho']
 simp only [wpO,wpOpIn,ho',lets_wanted ho' hrep hl,if_true]
 rw [hd] at hK
 have ex:=hops x (by simp [ho,Op.operands])
 have eix:=hops ix (by simp [ho,Op.operands])
 have ey:=hops y (by simp [ho,Op.operands])
 obtain ⟨w',g1,g2,g3⟩:=mapSet_run hs (ev_rep hrep) ho ht hdesc hk (by rw [ex];exact hx) hσ (by rw [eix];exact hu) (by rw [eix];exact hc) (by rw [eix];exact htell) hsame
 rw [ey] at g2 g3
 exact owp_skip g1 (hK _ _ C g2 hn g3 (.tup rfl (fun k a u h=>by simp at h)))
end
section
variable {P:Program} {B:Base} {s:St}
theorem K_impE {α:Type} (I:α→Prop) (st:α→St) {all:Array Oper} {rest:List Oper} {k:List KI} {R:Post} (h:∃y,I y∧Imp B s (st y)) (hk:∀y,I y→Kp P B (.ops all rest :: k) R .normal (st y)):Kp P B (.ops all rest :: k) R .normal s:=by
 obtain ⟨y,h1,h2⟩:=h
 exact K_imp h2 (hk y h1)
theorem Imp.own {t sz:Nat} (h:s.m t= .fsl []):Imp B s ⟨put s.m (some t) (.ref s.nx),oput s.σ s.nx (.arr sz []),s.nx+1⟩:=fun _ _ hr=>rel_own h hr
end
end Go.Proofs.YtnoifgjiipgpoaaGreat.R

namespace Go.Proofs.YtnoifgjiipgpoaaGreat.R
open Go.RowKit
section
variable {P:Program}
def notIfc:TypeDesc→Bool
 | .interface _=>false
 |_=>true
def notPtr:TypeDesc→Bool
 | .pointer _=>false
 |_=>true
theorem does_ifc {all:Array Oper} {i n:Nat} {o:Oper} {m:Slots} {t:TypeId} {d:TypeDesc} {x:Operand} {cs:List T} {σ:Nat→AObj} {nx:Nat} (ho':all[i]? =some o) (hl:lets all m o=some true) (ho:o.op= .makeInterface t x) (hu:P.underlying t=some d) (hd:notIfc d=true) (hx:ev m x= .agg (cs.map .t)):Does P n all i m σ nx (.ifc t cs) σ nx:=by
 intro C a w hn hs hsz hrep ro K Q hK
 have hops:=mask_ev (m:=m) ho'
 have hdd:dstOf all i=o.dst:=by simp [dstOf,ho']
 simp only [wpO,wpOpIn,ho',lets_wanted ho' hrep hl,if_true]
 rw [hdd] at hK
 have rx:=ev_rep hrep x
 rw [hops x (by simp [ho,Op.operands]),hx] at rx
 generalize hv:a.eval x=v at rx
 cases rx with
 |@agg _ vs hlen hr=>
  have hx1:(execOp a.eval o).run P w= .ok (.value (.iface t (.agg vs))) w:=by
   simp only [execOp,ho,Instr.makeInterface,Sem.run_bind,run_underlying hu,Result.andThen_ok,hv]
   cases d<;>first | (simp [notIfc] at hd;done) | simp [Sem.run_pure]
  refine owp_value hx1 (hK _ _ C hs hn (Step.refl _ _ _) (.ifc (by simpa using hlen) fun k c u hc hu=>?_))
  have:=hr k (.t c) u (by rw [List.getElem?_map,hc];rfl) hu
  cases this with
  |t h=>exact h
theorem method_run {fuel:Nat} {t:TypeId} {vs:Array Value} {name:String} {info:TypeInfo} {mm:Method} {f:FuncId} {d:TypeDesc} {w:World} (hi:P.info? t=some info) (hf:(info.methods.find? fun m=>m.name==name)=some mm) (hp:mm.path= #[]) (hm:mm.func=some (f,false)) (hu:P.underlying t=some d) (hd:notPtr d=true):
  (method (fuel+1) t (.agg vs) name).run P w= .ok (f,.agg vs) w:=by
 have hti:(typeInfo t).run P w= .ok info w:=by simp [typeInfo,hi]
 simp only [method,Sem.run_bind,hti,Result.andThen_ok,hf,hp,List.toList_toArray,follow,Sem.run_pure,hm,receiverAt,run_underlying hu]
 cases d<;>first | (simp [notPtr] at hd;done) | simp [Sem.run_pure,Place.get]
theorem does_invoke {all:Array Oper} {i n:Nat} {o:Oper} {m:Slots} {c:Call} {r y:Operand} {name:String} {t:TypeId} {d:TypeDesc} {cs:List T} {info:TypeInfo} {mm:Method} {f:FuncId} {av res:AV} {σ:Nat→AObj} {nx:Nat} (ho':all[i]? =some o) (hl:lets all m o=some true) (ho:o.op= .call c) (hc:c.callee= .invoke r name) (ha:c.args= #[y])
  (hi:P.info? t=some info) (hf:(info.methods.find? fun m=>m.name==name)=some mm) (hp:mm.path= #[]) (hm:mm.func=some (f,false)) (hu:P.underlying t=some d) (hd:notPtr d=true) (hr:ev m r= .ifc t cs) (hy:ev m y=av) (spec:CallSpec P f [.agg (cs.map .t),av] σ nx res σ nx):
  Does P n all i m σ nx res σ nx:=by
 intro C a w hn hs hsz hrep ro K Q hK
 obtain ⟨hg,spec⟩:=spec
 have hops:=mask_ev (m:=m) ho'
 have hdd:dstOf all i=o.dst:=by simp [dstOf,ho']
 simp only [wpO,wpOpIn,ho',lets_wanted ho' hrep hl,if_true]
 rw [hdd] at hK
 have rr:=ev_rep hrep r
 have ry:=ev_rep hrep y
 rw [hops r (by simp [ho,Op.operands,Call.operands,hc]),hr] at rr
 rw [hops y (by simp [ho,Op.operands,Call.operands,hc,ha]),hy] at ry
 generalize hv:a.eval r=v at rr
 generalize hw:a.eval y=u at ry
 cases rr with
 |@ifc _ _ vs hlen hcs=>
  have hrl:RepL w C [.agg (cs.map .t),av] [.agg vs,u]:=by
   refine ⟨rfl,fun k x z hx hz=>?_⟩
   match k with
   |0=>
    simp at hx hz
    subst hx;subst hz
    refine .agg (by simpa using hlen) fun k a u ha hu=>?_
    rw [List.getElem?_map] at ha
    obtain ⟨b,hb,rfl⟩:=Option.map_eq_some_iff.1 ha
    exact .t (hcs k b u hb hu)
   |1=>
    simp at hx hz
    subst hx;subst hz
    exact ry
   |k+2=>simp at hx
  have hcall:=spec C w _ hs hn hrl
  have hrun:(execOp a.eval o).run P w= .ok (.enter f #[.agg vs,u]) w:=by
   unfold goodFn at hg
   cases hfn:P.funcs[f]? with
   |none=>rw [hfn] at hg;cases hg
   |some fn=>
    rw [hfn] at hg
    simp only [Bool.and_eq_true,Bool.not_eq_true'] at hg
    have e1:fn.body.isNone=false:=by rw [←Option.not_isSome,hg.2];rfl
    have hmr:=fun fuel=>method_run (P:=P) (w:=w) (vs:=vs) (fuel:=fuel) hi hf hp hm hu hd
    have hdep:P.types.size+Made.depth=(P.types.size+99)+1:=rfl
    simp only [execOp,ho,resolve,hc,Sem.run_bind,Sem.run_pure,Result.andThen_ok,invoke,ha,hv,hw,callMethod,run_program,callFunc]
    have e2:(#[Value.iface t (.agg vs)]++Array.map a.eval #[y])[0]? =some (.iface t (.agg vs)):=by simp
    rw [e2]
    simp only [Sem.run_bind,run_program,Result.andThen_ok,hdep,hmr,hfn,hg.1,e1,Bool.false_eq_true,if_false,Sem.run_pure]
    simp [hw]
  refine owp_enter hrun ?_
  refine hcall.mono ?_
  rintro e w' ⟨C',v,rfl,g1,g2,g3,g4⟩
  exact ⟨v,rfl,hK _ _ C' g1 g2 g4 g3⟩
end
end Go.Proofs.YtnoifgjiipgpoaaGreat.R

namespace Go.Proofs.YtnoifgjiipgpoaaGreat.R
open Go.RowKit
section
variable {P:Program}
theorem does_front {all:Array Oper} {i n0:Nat} {o:Oper} {m:Slots} {t e:TypeId} {x ix:Operand} {q n sz:Nat} {ie i0:TI} {es:List (List T)} {ik:IntKind} {σ:Nat→AObj} {nx:Nat} (ho':all[i]? =some o) (hl:lets all m o=some true) (h1:o.op= .slice t x none (some ix) none)
  (ht:TT P t=some i0) (hdesc:i0.desc= .slice e) (he:TT P e=some ie) (hx:ev m x= .ref q) (hσ:σ q= .arr sz es) (hi:ev m ix= .t (.v (.int ik n))) (hn:n≤es.length) (hpos:0<es.length):
  Does P n0 all i m σ nx (.ref nx) (oput (oput σ q .dead) nx (.arr sz (es.take n))) (nx+1):=by
 intro C a w hnx hs hsz hrep ro K Q hK
 have hops:=mask_ev (m:=m) ho'
 have hdd:dstOf all i=o.dst:=by simp [dstOf,ho']
 simp only [wpO,wpOpIn,ho',lets_wanted ho' hrep hl,if_true]
 rw [hdd] at hK
 have rx:=ev_rep hrep x
 rw [hops x (by simp [h1,Op.operands]),hx] at rx
 have ri:=ev_rep hrep ix
 rw [hops ix (by simp [h1,Op.operands]),hi] at ri
 have hob:=hs.obj q
 rw [hσ] at hob
 obtain ⟨hsz,⟨h0,_⟩ | ⟨bl,cap,vs,E,lo,hi',q1,q2,q3,q4,q5,q6,q7⟩⟩:=hob
 ·rw [h0] at hpos;simp at hpos
 generalize hu:a.eval x=u at rx
 cases rx with
 |ref hq hh=>
  rw [q2] at hh
  cases hh
  obtain ⟨hiv,_⟩:=rep_v ri
  have hunt:P.underlying t=some (.slice e):=by rw [←hdesc];exact (tt_some ht).1
  obtain ⟨C',e1,e2,e3,e4⟩:=sim_cut hs hσ q1 q2 hn
  have hsl:sliced (some ⟨bl,0,none⟩) 0 n cap ie.size= .slice (some ⟨bl,0,none⟩) n cap:=by
   simp [sliced,add_zero']
  have hx1:(execOp a.eval o).run P w= .ok (.value (.slice (some ⟨bl,0,none⟩) n cap)) w:=by
   simp only [execOp,h1,hu,hiv,Option.map_some,Option.map_none,Sem.run_bind,run_to hunt he _ _ _ _ _ (show n≤cap by omega),Result.andThen_ok,Sem.run_pure,hsl]
  refine owp_value hx1 ?_
  rw [hnx] at e1 e2 e3 e4
  exact hK _ _ C' e2 e1 e3 e4
end
end Go.Proofs.YtnoifgjiipgpoaaGreat.R

namespace Go.Proofs.YtnoifgjiipgpoaaGreat.R
open Go.RowKit
section
variable {P:Program} {n:Nat} {all:Array Oper}
theorem wpO_mono {ro:Option Nat} {Q:Exit→Act→World→Prop} {i:Nat} {K K':Act→World→Prop} {a:Act} {w:World} (h:∀a w,K a w→K' a w) (hh:wpO ro P all Q i K a w):wpO ro P all Q i K' a w:=by
 simp only [wpO,wpOpIn] at hh ⊢
 cases ho:all[i]? with
 |none=>rw [ho] at hh;exact h _ _ hh
 |some o=>
  rw [ho] at hh
  simp only at hh ⊢
  split
  ·rename_i hw
   rw [if_pos hw] at hh
   exact Oper.wpIn_mono h hh
  ·rename_i hw
   rw [if_neg hw] at hh
   exact ⟨hh.1,h _ _ hh.2⟩
theorem LS.none {listed:Array Bool} (h:LS all listed []):Region.ready .any all listed=[]:=by
 refine List.eq_nil_iff_forall_not_mem.2 fun i hi=>?_
 obtain ⟨_,⟨r,hr,_⟩,_⟩:=h.ready hi
 cases hr
theorem wpAny_z {B:Base} {Q:Exit→Act→World→Prop} {t:List (List Nat)} (ht:tabOK all t=true) {an:Nat→Nat→Bool} (han:∀x i,an x i=true→ancT t x i=true) {z:Nat} (hz:∀j,j<z→ancT t j z=true) (hzs:all.size=z+1) {R:St→Prop} (hn:B.n=n)
  (hQ:∀s a w,R s→Rel B s a w→wpO B.ro P all Q z (fun a w=>Q .normal a w) a w) (hd:∀i<all.size,dOk n (dstOf all i)=true) (rz:Rc) (hrz:rz.i=z):
  ∀(fuel:Nat) (l:List Rc) (s:St) (listed:Array Bool) (a:Act) (w:World),l.length=fuel→LS all listed (l++[rz])→(∀r∈l,r.i<z)→
   l.Pairwise (fun r q=>r.i<q.i)→Inv P n all an l s→R ⟨goes all s.m l,(goesS (s.σ,s.nx) l).1,(goesS (s.σ,s.nx) l).2⟩→Rel B s a w→wpA B.ro P all Q (fuel+1) listed a w:=by
 intro fuel
 induction fuel with
 |zero=>
  intro l s listed a w hl hls hlt _ hinv hR hr
  have:l=[]:=List.eq_nil_of_length_eq_zero hl
  subst this
  refine ⟨fun hnil=>(hls.some ht (by simp) hnil).elim,fun i hi=>?_⟩
  obtain ⟨hi1,⟨r,hr1,hri⟩,hpre⟩:=hls.ready hi
  simp only [List.nil_append,List.mem_singleton] at hr1
  subst hr1
  have hiz:i=z:=by omega
  subst hiz
  have hls':LS all (listed.setIfInBounds i true) []:=by
   have:=LS.step (l1:=[]) (l2:=[]) (r:=r) (by simpa using hls) (by simp) (by rw [hri];exact hpre)
   rw [hri] at this
   exact this
  exact wpO_mono (fun a w hq=>⟨hls'.none,hq⟩) (hQ s a w hR hr)
 |succ fuel ih=>
  intro l s listed a w hl hls hlt hsort hinv hR hr
  have hsort':(l++[rz]).Pairwise (fun r q=>r.i<q.i):=by
   rw [List.pairwise_append]
   exact ⟨hsort,by simp,fun r hr q hq=>by rw [List.mem_singleton.1 hq,hrz];exact hlt r hr⟩
  refine ⟨fun hnil=>?_,fun i hi=>?_⟩
  ·exfalso
   cases l with
   |nil=>simp at hl
   |cons r l=>exact hls.some ht hsort' hnil
  ·obtain ⟨hi1,⟨r,hr1,hri⟩,hpre⟩:=hls.ready hi
   subst hri
   rcases List.mem_append.1 hr1 with hr1 | hr1
   ·obtain ⟨l1,l2,hsplit⟩:=List.append_of_mem hr1
    subst hsplit
    have hanc:∀q∈l1++r :: l2,an q.i r.i=false:=fun q hq=>by
     cases hq2:an q.i r.i with
     |false=>rfl
     |true=>
      have h1:listed.getD q.i false=true:=tab_spec ht hls.closed r.i hi1 hpre q.i (han _ _ hq2)
      have h2:=(hls.list q.i (hls.lt q (List.mem_append_left _ hq))).2 ⟨q,List.mem_append_left _ hq,rfl⟩
      rw [Array.getD_eq_getD_getElem?] at h1 h2
      cases hz:listed[q.i]? with
      |none=>rw [hz] at h1;simp at h1
      |some b=>rw [hz] at h1 h2;simp at h1 h2;rw [h1] at h2;cases h2
    refine hinv.wp hn (hd r.i hi1) hanc hr fun s' a' w' g1 g2 g3 g4=>?_
    have e1:l1++r :: l2++[rz]=l1++r :: (l2++[rz]):=by simp
    rw [e1] at hls
    have hne:∀q∈l1++(l2++[rz]),q.i≠r.i:=fun q hq=>by
     rw [←List.append_assoc] at hq
     rcases List.mem_append.1 hq with hq | hq
     ·exact hinv.ne q hq
     ·rw [List.mem_singleton.1 hq,hrz]
      have:=hlt r hr1
      omega
    refine ih (l1++l2) s' _ a' w' (by simp at hl ⊢;omega) ?_ (fun q hq=>hlt q ?_) (sorted_drop hsort) g1 ?_ g4
    ·rw [List.append_assoc];exact hls.step hne hpre
    ·rcases List.mem_append.1 hq with e | e
     ·exact List.mem_append_left _ e
     ·exact List.mem_append_right _ (List.mem_cons_of_mem _ e)
    ·rw [g2,g3]
     exact hR
   ·exfalso
    rw [List.mem_singleton.1 hr1,hrz] at hpre hi1
    cases l with
    |nil=>simp at hl
    |cons q l=>
     have hq:=hlt q List.mem_cons_self
     have h1:listed.getD q.i false=true:=tab_spec ht hls.closed z hi1 hpre q.i (hz q.i hq)
     have h2:=(hls.list q.i (by omega)).2 ⟨q,by simp,rfl⟩
     rw [Array.getD_eq_getD_getElem?] at h1 h2
     cases hz:listed[q.i]? with
     |none=>rw [hz] at h1;simp at h1
     |some b=>rw [hz] at h1 h2;simp at h1 h2;rw [h1] at h2;cases h2
end
section
variable {P:Program} {B:Base} {k:List KI} {R:Post} {s:St} {all:Array Oper}
theorem Pre.initZ {lo:List Nat} {z:Nat}:Pre P B.n all lo none s [] (num 0 (all.toList.take z)) [] s:=by
 refine ⟨⟨fun l1 r l2 h=>(by simp at h),List.Pairwise.nil,fun r hr=>(by cases hr),True.intro⟩,fun p hp=>?_,?_,rfl,fun q hq=>(by cases hq),fun q hq=>(by cases hq),fun q hq=>(by cases hq),fun _ q hq _=>(by cases hq)⟩
 ·have:=(num_mem p (all.toList.take z) 0 hp).2
  rw [Nat.sub_zero,List.getElem?_take] at this
  split at this
  ·simpa using this
  ·cases this
 ·rw [List.map_nil,List.nil_append]
  exact (num_sorted (all.toList.take z) 0).imp fun {i j} h=>.inl ⟨h,rfl⟩
theorem K_drawnZ {id:Nat} (lo:List Nat) (z:Nat) (o:Oper) (hm:P.follows .mixedOrders=true) (hst:statOK all B.n lo=true) (hz:(all.size==z+1&&(List.range z).all (fun j=>anc all j z))=true) (ho:all[z]? =some o)
  (h:Kp P B (.opsD all lo none (num 0 (all.toList.take z)) [] :: .ops all [o] :: k) R .normal s):Kp P B (.code (.region id all true) :: k) R .normal s:=by
 intro a w hr
 refine wpIn_region_any hm ?_
 rw [Bool.and_eq_true,beq_iff_eq,List.all_eq_true] at hz
 obtain ⟨hz1,hz2⟩:=hz
 obtain ⟨l,hinv,hl,hk⟩:Fin1 P B.n all none (Kp P B (.ops all [o] :: k) R .normal) s [] (List.map (fun (p:Nat×Oper)=>p.fst) (num 0 (all.toList.take z))):=h hst s [] Pre.initZ
 rw [List.nil_append] at hinv hk
 have hix:∀i,(∃r∈l,r.i=i)↔i<z:=fun i=>by
  have:i∈l.map (·.i)↔i∈(num 0 (all.toList.take z)).map (·.1):=by rw [hl]
  rw [num_ix] at this
  simp only [List.mem_map,List.length_take,Array.length_toList,hz1,Nat.zero_le,true_and,Nat.zero_add] at this
  rw [this]
  omega
 have hlen:l.length=z:=by
  have:=congrArg List.length hl
  simp only [List.length_map] at this
  have e:∀(l:List Oper) k,(num k l).length=l.length:=by
   intro l
   induction l with
   |nil=>intro k;rfl
   |cons o l ih=>intro k;simp [num,ih]
  have h8:all.toList.length=z+1:=by rw [Array.length_toList];exact hz1
  rw [e,List.length_take] at this
  omega
 have hs:l.Pairwise (fun r q=>r.i<q.i):=by
  have:=num_sorted (all.toList.take z) 0
  rw [←hl] at this
  exact List.pairwise_map.1 this
 obtain ⟨C,h1,h2,h3,h4,h5,h6⟩:=hr
 obtain ⟨g1,g2⟩:=sim_world h5 (w':={w with drawn:=w.drawn+1}) rfl rfl rfl rfl
 rw [hz1]
 refine wpAny_z (stat_tab hst) (an:=anS all none) (fun x i h=>(by simpa [anS,swIs,anc] using h)) (fun j hj=>hz2 j (List.mem_range.2 hj)) hz1 (R:=fun s=>Kp P B (.ops all [o] :: k) R .normal s) rfl (fun s a w hk hr=>?_) (stat_dok hst) ⟨z,s.m,.any,none⟩ rfl z l s _ a _ hlen ?_ (fun r hr=>(hix r.i).1 ⟨r,hr,rfl⟩) hs hinv hk
  ⟨C,h1,fun t=>(h2 t).step h5 g2,h3,⟨h4.all,h4.nodup⟩,g1,h6.trans g2⟩
 ·have:=hk a w hr
  simp only [wpL,wpListIn] at this
  simp only [wpO,wpOpIn,ho]
  exact this
 ·rw [←hz1]
  refine LS.init fun i=>?_
  rw [hz1]
  constructor
  ·rintro ⟨r,hr,rfl⟩
   rcases List.mem_append.1 hr with hr | hr
   ·have:=(hix r.i).1 ⟨r,hr,rfl⟩;omega
   ·rw [List.mem_singleton.1 hr];exact Nat.lt_succ_self z
  ·intro hi
   by_cases e:i=z
   ·exact ⟨_,List.mem_append_right _ (List.mem_singleton.2 rfl),e.symm⟩
   ·obtain ⟨r,hr,hri⟩:=(hix i).2 (by omega)
    exact ⟨r,List.mem_append_left _ hr,hri⟩
end
@[go_sem] theorem up2 (n:Nat):(n=n+1+1)=False:=by simp only [eq_iff_iff,iff_false];omega
@[go_sem] theorem dn2 (n:Nat):(n+1+1=n)=False:=by simp only [eq_iff_iff,iff_false];omega
@[go_sem] theorem up3 (n:Nat):(n=n+1+1+1)=False:=by simp only [eq_iff_iff,iff_false];omega
@[go_sem] theorem dn3 (n:Nat):(n+1+1+1=n)=False:=by simp only [eq_iff_iff,iff_false];omega
@[go_sem] theorem up4 (n:Nat):(n=n+1+1+1+1)=False:=by simp only [eq_iff_iff,iff_false];omega
@[go_sem] theorem dn4 (n:Nat):(n+1+1+1+1=n)=False:=by simp only [eq_iff_iff,iff_false];omega
@[go_sem] theorem up5 (n:Nat):(n=n+1+1+1+1+1)=False:=by simp only [eq_iff_iff,iff_false];omega
@[go_sem] theorem dn5 (n:Nat):(n+1+1+1+1+1=n)=False:=by simp only [eq_iff_iff,iff_false];omega
@[go_sem] theorem up6 (n:Nat):(n=n+1+1+1+1+1+1)=False:=by simp only [eq_iff_iff,iff_false];omega
@[go_sem] theorem dn6 (n:Nat):(n+1+1+1+1+1+1=n)=False:=by simp only [eq_iff_iff,iff_false];omega
@[go_sem] theorem up7 (n:Nat):(n=n+1+1+1+1+1+1+1)=False:=by simp only [eq_iff_iff,iff_false];omega
@[go_sem] theorem dn7 (n:Nat):(n+1+1+1+1+1+1+1=n)=False:=by simp only [eq_iff_iff,iff_false];omega
@[go_sem] theorem up8 (n:Nat):(n=n+1+1+1+1+1+1+1+1)=False:=by simp only [eq_iff_iff,iff_false];omega
@[go_sem] theorem dn8 (n:Nat):(n+1+1+1+1+1+1+1+1=n)=False:=by simp only [eq_iff_iff,iff_false];omega
end Go.Proofs.YtnoifgjiipgpoaaGreat.R

namespace Go.Proofs.YtnoifgjiipgpoaaGreat.R
open Go Go.ChangeShapes Go.WideShapes Go.ChangeAt Go.RowKit
def jRest (P:Program) (f:FuncId) (fn:Func) (s:ChangeSpec) (c:OpenClaim):Bool:=
 c.wf (OpenSpec.ofChange s)&&laidOutB P&&mapsRowed P&&fn.params.all (P.readableRec ·)&&namedTie P c.named s.vars&&(c.stops==[])&&(P.stops==[])&&(c.knobs==[])&&(P.stopKnobs==[])&&(c.inPlace==P.inPlace f)&&(c.maps==(fn.params.toList++s.plain.varTypes P).any (P.mapsRec ·))&&(c.ifaces==(fn.params.toList++s.plain.varTypes P).any (P.ifacesRec ·))&&(c.mapsOut==P.mapsAmong fn.resultTypes.toList)&&(c.loops==(fn.params.toList++s.plain.varTypes P).any (P.loopsFrom ·))&&(c.wideKeys==(fn.params.toList++s.plain.varTypes P++fn.resultTypes.toList).any (P.wideKeysFrom ·))&&s.vars.all (P.varReadable ·)&&fn.resultTypes.all (fun t=>P.readableRec t&&decide (t<P.types.size))&&(c.ifacesOut==fn.resultTypes.toList.any (P.ifacesRec ·))&&(c.loopsOut==fn.resultTypes.toList.any (P.loopsFrom ·))&&(c.plainKeys==P.plainKeys)&&c.shortTexts.isNone&&P.stopsHeard&&(c.kinds==(if c.domain.isEmpty then [] else fn.params.toList.map fun t=>match P.underlying t with | some (.int k)=>some k | _=>none))&&(c.pinned==c.pinnedBy)&&(c.veiled==(fn.params.toList++s.plain.varTypes P++fn.resultTypes.toList).any (P.veiledRec ·))&&c.veiledFits P fn.params.toList (fn.params.toList++s.plain.varTypes P++fn.resultTypes.toList)
theorem joined_of {P:Program} {f:FuncId} {fn:Func} {s:ChangeSpec} {c:OpenClaim} (h:jRest P f fn s c=true) (h10:(c.unfollowed==P.unfollowed f)=true) (h11:(c.recurses==P.recurses f)=true) (h12:(c.named==P.varsNamed f)=true) (h25:P.mayEnter=true) (h26:(c.lifted==P.liftsFinal)=true) (h27:(P.make==some c.make)=true):joinedFacts P f fn s c=true:=by
 simp only [jRest,Bool.and_eq_true] at h
 obtain ⟨⟨⟨⟨⟨⟨⟨⟨⟨⟨⟨⟨⟨⟨⟨⟨⟨⟨⟨⟨⟨⟨⟨⟨⟨k0,k1⟩,k2⟩,k3⟩,k4⟩,k5⟩,k6⟩,k7⟩,k8⟩,k9⟩,k13⟩,k14⟩,k15⟩,k16⟩,k17⟩,k18⟩,k19⟩,k20⟩,k21⟩,k22⟩,k23⟩,k24⟩,k28⟩,k29⟩,k30⟩,k31⟩:=h
 simp only [joinedFacts,Bool.and_eq_true]
 exact ⟨⟨⟨⟨⟨⟨⟨⟨⟨⟨⟨⟨⟨⟨⟨⟨⟨⟨⟨⟨⟨⟨⟨⟨⟨⟨⟨⟨⟨⟨⟨k0,k1⟩,k2⟩,k3⟩,k4⟩,k5⟩,k6⟩,k7⟩,k8⟩,k9⟩,h10⟩,h11⟩,h12⟩,k13⟩,k14⟩,k15⟩,k16⟩,k17⟩,k18⟩,k19⟩,k20⟩,k21⟩,k22⟩,k23⟩,k24⟩,h25⟩,h26⟩,h27⟩,k28⟩,k29⟩,k30⟩,k31⟩
end Go.Proofs.YtnoifgjiipgpoaaGreat.R

set_option maxRecDepth 20000
namespace Go.Proofs.YtnoifgjiipgpoaaGreat
open Go Go.Proofs.YtnoifgjiipgpoaaGreat.R
noncomputable abbrev P:Program:=Tryz.prog
theorem tt3:TT P 3=some ⟨Go.TypeDesc.int Go.IntKind.i64,1,8,(Go.Value.int Go.IntKind.i64 0)⟩:=by kernel_rfl
theorem tt4:TT P 4=some ⟨Go.TypeDesc.bool,1,1,(Go.Value.bool Bool.false)⟩:=by kernel_rfl
theorem tt5:TT P 5=some ⟨Go.TypeDesc.int Go.IntKind.u8,1,1,(Go.Value.int Go.IntKind.u8 0)⟩:=by kernel_rfl
theorem tt9:TT P 9=some ⟨Go.TypeDesc.string,1,16,(Go.Value.string {data:=#[]})⟩:=by kernel_rfl
theorem tt22:TT P 22=some ⟨Go.TypeDesc.slice 88,1,24,(Go.Value.slice Option.none 0 0)⟩:=by kernel_rfl
theorem tt24:TT P 24=some ⟨Go.TypeDesc.struct #[{name:= "Pairs",type:=3,offset:=0,embedded:=Bool.false,tag:= "",pkgPath:= "",byteOffset:=0},{name:= "Cars",type:=3,offset:=1,embedded:=Bool.false,tag:= "",pkgPath:= "",byteOffset:=8},{name:= "Room",type:=3,offset:=2,embedded:=Bool.false,tag:= "",pkgPath:= "",byteOffset:=16},{name:= "Stops",type:=22,offset:=3,embedded:=Bool.false,tag:= "",pkgPath:= "",byteOffset:=24}],4,48,(Go.Value.agg #[Go.Value.int Go.IntKind.i64 0,Go.Value.int Go.IntKind.i64 0,Go.Value.int Go.IntKind.i64 0,Go.Value.slice Option.none 0 0])⟩:=by kernel_rfl
theorem tt26:TT P 26=some ⟨Go.TypeDesc.struct #[{name:= "Width",type:=3,offset:=0,embedded:=Bool.false,tag:= "",pkgPath:= "",byteOffset:=0},{name:= "Order",type:=3,offset:=1,embedded:=Bool.false,tag:= "",pkgPath:= "",byteOffset:=8},{name:= "Budget",type:=3,offset:=2,embedded:=Bool.false,tag:= "",pkgPath:= "",byteOffset:=16}],3,24,(Go.Value.agg #[Go.Value.int Go.IntKind.i64 0,Go.Value.int Go.IntKind.i64 0,Go.Value.int Go.IntKind.i64 0])⟩:=by kernel_rfl
theorem tt29:TT P 29=some ⟨Go.TypeDesc.slice 67,1,24,(Go.Value.slice Option.none 0 0)⟩:=by kernel_rfl
theorem tt31:TT P 31=some ⟨Go.TypeDesc.struct #[{name:= "Routes",type:=29,offset:=0,embedded:=Bool.false,tag:= "",pkgPath:= "",byteOffset:=0}],1,24,(Go.Value.agg #[Go.Value.slice Option.none 0 0])⟩:=by kernel_rfl
theorem tt32:TT P 32=some ⟨Go.TypeDesc.slice 83,1,24,(Go.Value.slice Option.none 0 0)⟩:=by kernel_rfl
theorem tt34:TT P 34=some ⟨Go.TypeDesc.struct #[{name:= "Status",type:=3,offset:=0,embedded:=Bool.false,tag:= "",pkgPath:= "",byteOffset:=0},{name:= "P",type:=31,offset:=1,embedded:=Bool.false,tag:= "",pkgPath:= "",byteOffset:=8},{name:= "Up",type:=3,offset:=2,embedded:=Bool.false,tag:= "",pkgPath:= "",byteOffset:=32},{name:= "Low",type:=3,offset:=3,embedded:=Bool.false,tag:= "",pkgPath:= "",byteOffset:=40},{name:= "Steps",type:=3,offset:=4,embedded:=Bool.false,tag:= "",pkgPath:= "",byteOffset:=48},{name:= "Log",type:=32,offset:=5,embedded:=Bool.false,tag:= "",pkgPath:= "",byteOffset:=56}],6,80,(Go.Value.agg #[Go.Value.int Go.IntKind.i64 0,Go.Value.slice Option.none 0 0,Go.Value.int Go.IntKind.i64 0,Go.Value.int Go.IntKind.i64 0,Go.Value.int Go.IntKind.i64 0,Go.Value.slice Option.none 0 0])⟩:=by kernel_rfl
theorem tt37:TT P 37=some ⟨Go.TypeDesc.slice 48,1,24,(Go.Value.slice Option.none 0 0)⟩:=by kernel_rfl
theorem tt39:TT P 39=some ⟨Go.TypeDesc.struct #[{name:= "Least",type:=3,offset:=0,embedded:=Bool.false,tag:= "",pkgPath:= "",byteOffset:=0},{name:= "Parts",type:=37,offset:=1,embedded:=Bool.false,tag:= "",pkgPath:= "",byteOffset:=8}],2,32,(Go.Value.agg #[Go.Value.int Go.IntKind.i64 0,Go.Value.slice Option.none 0 0])⟩:=by kernel_rfl
theorem tt46:TT P 46=some ⟨Go.TypeDesc.slice 49,1,24,(Go.Value.slice Option.none 0 0)⟩:=by kernel_rfl
theorem tt48:TT P 48=some ⟨Go.TypeDesc.struct #[{name:= "Layers",type:=46,offset:=0,embedded:=Bool.false,tag:= "",pkgPath:= "",byteOffset:=0}],1,24,(Go.Value.agg #[Go.Value.slice Option.none 0 0])⟩:=by kernel_rfl
theorem tt49:TT P 49=some ⟨Go.TypeDesc.slice 54,1,24,(Go.Value.slice Option.none 0 0)⟩:=by kernel_rfl
theorem tt50:TT P 50=some ⟨Go.TypeDesc.int Go.IntKind.u64,1,8,(Go.Value.int Go.IntKind.u64 0)⟩:=by kernel_rfl
theorem tt52:TT P 52=some ⟨Go.TypeDesc.struct #[{name:= "At",type:=3,offset:=0,embedded:=Bool.false,tag:= "",pkgPath:= "",byteOffset:=0},{name:= "Car",type:=3,offset:=1,embedded:=Bool.false,tag:= "",pkgPath:= "",byteOffset:=8},{name:= "Time",type:=3,offset:=2,embedded:=Bool.false,tag:= "",pkgPath:= "",byteOffset:=16},{name:= "Load",type:=3,offset:=3,embedded:=Bool.false,tag:= "",pkgPath:= "",byteOffset:=24},{name:= "First",type:=3,offset:=4,embedded:=Bool.false,tag:= "",pkgPath:= "",byteOffset:=32},{name:= "Must",type:=50,offset:=5,embedded:=Bool.false,tag:= "",pkgPath:= "",byteOffset:=40},{name:= "May",type:=50,offset:=6,embedded:=Bool.false,tag:= "",pkgPath:= "",byteOffset:=48},{name:= "On",type:=50,offset:=7,embedded:=Bool.false,tag:= "",pkgPath:= "",byteOffset:=56}],8,64,(Go.Value.agg #[Go.Value.int Go.IntKind.i64 0,Go.Value.int Go.IntKind.i64 0,Go.Value.int Go.IntKind.i64 0,Go.Value.int Go.IntKind.i64 0,Go.Value.int Go.IntKind.i64 0,Go.Value.int Go.IntKind.u64 0,Go.Value.int Go.IntKind.u64 0,Go.Value.int Go.IntKind.u64 0])⟩:=by kernel_rfl
theorem tt54:TT P 54=some ⟨Go.TypeDesc.struct #[{name:= "S",type:=52,offset:=0,embedded:=Bool.false,tag:= "",pkgPath:= "",byteOffset:=0},{name:= "Cost",type:=3,offset:=8,embedded:=Bool.false,tag:= "",pkgPath:= "",byteOffset:=64},{name:= "Part",type:=3,offset:=9,embedded:=Bool.false,tag:= "",pkgPath:= "",byteOffset:=72}],10,80,(Go.Value.agg #[Go.Value.int Go.IntKind.i64 0,Go.Value.int Go.IntKind.i64 0,Go.Value.int Go.IntKind.i64 0,Go.Value.int Go.IntKind.i64 0,Go.Value.int Go.IntKind.i64 0,Go.Value.int Go.IntKind.u64 0,Go.Value.int Go.IntKind.u64 0,Go.Value.int Go.IntKind.u64 0,Go.Value.int Go.IntKind.i64 0,Go.Value.int Go.IntKind.i64 0])⟩:=by kernel_rfl
theorem tt57:TT P 57=some ⟨Go.TypeDesc.slice 5,1,24,(Go.Value.slice Option.none 0 0)⟩:=by kernel_rfl
theorem tt61:TT P 61=some ⟨Go.TypeDesc.pointer 106,1,8,(Go.Value.pointer Option.none)⟩:=by kernel_rfl
theorem tt63:TT P 63=some ⟨Go.TypeDesc.slice 69,1,24,(Go.Value.slice Option.none 0 0)⟩:=by kernel_rfl
theorem tt65:TT P 65=some ⟨Go.TypeDesc.struct #[{name:= "x",type:=24,offset:=0,embedded:=Bool.false,tag:= "",pkgPath:= "haulier/search",byteOffset:=0},{name:= "o",type:=26,offset:=4,embedded:=Bool.false,tag:= "",pkgPath:= "haulier/search",byteOffset:=48},{name:= "r",type:=34,offset:=7,embedded:=Bool.false,tag:= "",pkgPath:= "haulier/search",byteOffset:=72},{name:= "subs",type:=63,offset:=13,embedded:=Bool.false,tag:= "",pkgPath:= "haulier/search",byteOffset:=152},{name:= "q",type:=61,offset:=14,embedded:=Bool.false,tag:= "",pkgPath:= "haulier/search",byteOffset:=176}],15,184,(Go.Value.agg #[Go.Value.int Go.IntKind.i64 0,Go.Value.int Go.IntKind.i64 0,Go.Value.int Go.IntKind.i64 0,Go.Value.slice Option.none 0 0,Go.Value.int Go.IntKind.i64 0,Go.Value.int Go.IntKind.i64 0,Go.Value.int Go.IntKind.i64 0,Go.Value.int Go.IntKind.i64 0,Go.Value.slice Option.none 0 0,Go.Value.int Go.IntKind.i64 0,Go.Value.int Go.IntKind.i64 0,Go.Value.int Go.IntKind.i64 0,Go.Value.slice Option.none 0 0,Go.Value.slice Option.none 0 0,Go.Value.pointer Option.none])⟩:=by kernel_rfl
theorem tt67:TT P 67=some ⟨Go.TypeDesc.slice 3,1,24,(Go.Value.slice Option.none 0 0)⟩:=by kernel_rfl
theorem tt69:TT P 69=some ⟨Go.TypeDesc.struct #[{name:= "S",type:=52,offset:=0,embedded:=Bool.false,tag:= "",pkgPath:= "",byteOffset:=0},{name:= "Cost",type:=3,offset:=8,embedded:=Bool.false,tag:= "",pkgPath:= "",byteOffset:=64},{name:= "Path",type:=67,offset:=9,embedded:=Bool.false,tag:= "",pkgPath:= "",byteOffset:=72}],10,96,(Go.Value.agg #[Go.Value.int Go.IntKind.i64 0,Go.Value.int Go.IntKind.i64 0,Go.Value.int Go.IntKind.i64 0,Go.Value.int Go.IntKind.i64 0,Go.Value.int Go.IntKind.i64 0,Go.Value.int Go.IntKind.u64 0,Go.Value.int Go.IntKind.u64 0,Go.Value.int Go.IntKind.u64 0,Go.Value.int Go.IntKind.i64 0,Go.Value.slice Option.none 0 0])⟩:=by kernel_rfl
theorem tt71:TT P 71=some ⟨Go.TypeDesc.struct #[{name:= "Bound",type:=3,offset:=0,embedded:=Bool.false,tag:= "",pkgPath:= "",byteOffset:=0},{name:= "Depth",type:=3,offset:=1,embedded:=Bool.false,tag:= "",pkgPath:= "",byteOffset:=8},{name:= "No",type:=3,offset:=2,embedded:=Bool.false,tag:= "",pkgPath:= "",byteOffset:=16}],3,24,(Go.Value.agg #[Go.Value.int Go.IntKind.i64 0,Go.Value.int Go.IntKind.i64 0,Go.Value.int Go.IntKind.i64 0])⟩:=by kernel_rfl
theorem tt78:TT P 78=some ⟨Go.TypeDesc.struct #[{name:= "x",type:=24,offset:=0,embedded:=Bool.false,tag:= "",pkgPath:= "haulier/proof",byteOffset:=0},{name:= "r",type:=34,offset:=4,embedded:=Bool.false,tag:= "",pkgPath:= "haulier/proof",byteOffset:=48}],10,128,(Go.Value.agg #[Go.Value.int Go.IntKind.i64 0,Go.Value.int Go.IntKind.i64 0,Go.Value.int Go.IntKind.i64 0,Go.Value.slice Option.none 0 0,Go.Value.int Go.IntKind.i64 0,Go.Value.slice Option.none 0 0,Go.Value.int Go.IntKind.i64 0,Go.Value.int Go.IntKind.i64 0,Go.Value.int Go.IntKind.i64 0,Go.Value.slice Option.none 0 0])⟩:=by kernel_rfl
theorem tt79:TT P 79=some ⟨Go.TypeDesc.slice 63,1,24,(Go.Value.slice Option.none 0 0)⟩:=by kernel_rfl
theorem tt81:TT P 81=some ⟨Go.TypeDesc.struct #[{name:= "Layers",type:=79,offset:=0,embedded:=Bool.false,tag:= "",pkgPath:= "",byteOffset:=0},{name:= "Low",type:=3,offset:=1,embedded:=Bool.false,tag:= "",pkgPath:= "",byteOffset:=24},{name:= "Exact",type:=4,offset:=2,embedded:=Bool.false,tag:= "",pkgPath:= "",byteOffset:=32},{name:= "Sure",type:=3,offset:=3,embedded:=Bool.false,tag:= "",pkgPath:= "",byteOffset:=40}],4,48,(Go.Value.agg #[Go.Value.slice Option.none 0 0,Go.Value.int Go.IntKind.i64 0,Go.Value.bool Bool.false,Go.Value.int Go.IntKind.i64 0])⟩:=by kernel_rfl
theorem tt83:TT P 83=some ⟨Go.TypeDesc.struct #[{name:= "N",type:=69,offset:=0,embedded:=Bool.false,tag:= "",pkgPath:= "",byteOffset:=0},{name:= "D",type:=81,offset:=10,embedded:=Bool.false,tag:= "",pkgPath:= "",byteOffset:=96}],14,144,(Go.Value.agg #[Go.Value.int Go.IntKind.i64 0,Go.Value.int Go.IntKind.i64 0,Go.Value.int Go.IntKind.i64 0,Go.Value.int Go.IntKind.i64 0,Go.Value.int Go.IntKind.i64 0,Go.Value.int Go.IntKind.u64 0,Go.Value.int Go.IntKind.u64 0,Go.Value.int Go.IntKind.u64 0,Go.Value.int Go.IntKind.i64 0,Go.Value.slice Option.none 0 0,Go.Value.slice Option.none 0 0,Go.Value.int Go.IntKind.i64 0,Go.Value.bool Bool.false,Go.Value.int Go.IntKind.i64 0])⟩:=by kernel_rfl
theorem tt88:TT P 88=some ⟨Go.TypeDesc.struct #[{name:= "X",type:=3,offset:=0,embedded:=Bool.false,tag:= "",pkgPath:= "",byteOffset:=0},{name:= "Y",type:=3,offset:=1,embedded:=Bool.false,tag:= "",pkgPath:= "",byteOffset:=8},{name:= "Demand",type:=3,offset:=2,embedded:=Bool.false,tag:= "",pkgPath:= "",byteOffset:=16},{name:= "Ready",type:=3,offset:=3,embedded:=Bool.false,tag:= "",pkgPath:= "",byteOffset:=24},{name:= "Due",type:=3,offset:=4,embedded:=Bool.false,tag:= "",pkgPath:= "",byteOffset:=32},{name:= "Service",type:=3,offset:=5,embedded:=Bool.false,tag:= "",pkgPath:= "",byteOffset:=40}],6,48,(Go.Value.agg #[Go.Value.int Go.IntKind.i64 0,Go.Value.int Go.IntKind.i64 0,Go.Value.int Go.IntKind.i64 0,Go.Value.int Go.IntKind.i64 0,Go.Value.int Go.IntKind.i64 0,Go.Value.int Go.IntKind.i64 0])⟩:=by kernel_rfl
theorem tt90:TT P 90=some ⟨Go.TypeDesc.pointer 92,1,8,(Go.Value.pointer Option.none)⟩:=by kernel_rfl
theorem tt92:TT P 92=some ⟨Go.TypeDesc.struct #[{name:= "x",type:=24,offset:=0,embedded:=Bool.false,tag:= "",pkgPath:= "haulier/proof",byteOffset:=0},{name:= "p",type:=39,offset:=4,embedded:=Bool.false,tag:= "",pkgPath:= "haulier/proof",byteOffset:=48},{name:= "deep",type:=67,offset:=6,embedded:=Bool.false,tag:= "",pkgPath:= "haulier/proof",byteOffset:=80}],7,104,(Go.Value.agg #[Go.Value.int Go.IntKind.i64 0,Go.Value.int Go.IntKind.i64 0,Go.Value.int Go.IntKind.i64 0,Go.Value.slice Option.none 0 0,Go.Value.int Go.IntKind.i64 0,Go.Value.slice Option.none 0 0,Go.Value.slice Option.none 0 0])⟩:=by kernel_rfl
theorem tt102:TT P 102=some ⟨Go.TypeDesc.slice 110,1,24,(Go.Value.slice Option.none 0 0)⟩:=by kernel_rfl
theorem tt104:TT P 104=some ⟨Go.TypeDesc.struct #[{name:= "l",type:=102,offset:=0,embedded:=Bool.false,tag:= "",pkgPath:= "haulier/heap",byteOffset:=0}],1,24,(Go.Value.agg #[Go.Value.slice Option.none 0 0])⟩:=by kernel_rfl
theorem tt106:TT P 106=some ⟨Go.TypeDesc.struct #[{name:= "t",type:=104,offset:=0,embedded:=Bool.false,tag:= "",pkgPath:= "haulier/heap",byteOffset:=0},{name:= "order",type:=3,offset:=1,embedded:=Bool.false,tag:= "",pkgPath:= "haulier/heap",byteOffset:=24}],2,32,(Go.Value.agg #[Go.Value.slice Option.none 0 0,Go.Value.int Go.IntKind.i64 0])⟩:=by kernel_rfl
theorem tt110:TT P 110=some ⟨Go.TypeDesc.struct #[{name:= "Entry",type:=71,offset:=0,embedded:=Bool.true,tag:= "",pkgPath:= "",byteOffset:=0},{name:= "order",type:=3,offset:=3,embedded:=Bool.false,tag:= "",pkgPath:= "haulier/heap",byteOffset:=24}],4,32,(Go.Value.agg #[Go.Value.int Go.IntKind.i64 0,Go.Value.int Go.IntKind.i64 0,Go.Value.int Go.IntKind.i64 0,Go.Value.int Go.IntKind.i64 0])⟩:=by kernel_rfl
theorem tt125:TT P 125=some ⟨Go.TypeDesc.func #[54] #[4] Bool.false,1,8,Go.Value.nilFunc⟩:=by kernel_rfl
theorem tt130:TT P 130=some ⟨Go.TypeDesc.int Go.IntKind.u64,1,8,(Go.Value.int Go.IntKind.u64 0)⟩:=by kernel_rfl
theorem tt141:TT P 141=some ⟨Go.TypeDesc.struct #[{name:= "b",type:=57,offset:=0,embedded:=Bool.false,tag:= "",pkgPath:= "haulier/scan",byteOffset:=0},{name:= "at",type:=3,offset:=1,embedded:=Bool.false,tag:= "",pkgPath:= "haulier/scan",byteOffset:=24}],2,32,(Go.Value.agg #[Go.Value.slice Option.none 0 0,Go.Value.int Go.IntKind.i64 0])⟩:=by kernel_rfl
theorem tt145:TT P 145=some ⟨Go.TypeDesc.array 6 3,6,48,(Go.Value.agg #[Go.Value.int Go.IntKind.i64 0,Go.Value.int Go.IntKind.i64 0,Go.Value.int Go.IntKind.i64 0,Go.Value.int Go.IntKind.i64 0,Go.Value.int Go.IntKind.i64 0,Go.Value.int Go.IntKind.i64 0])⟩:=by kernel_rfl
theorem tt149:TT P 149=some ⟨Go.TypeDesc.array 2 3,2,16,(Go.Value.agg #[Go.Value.int Go.IntKind.i64 0,Go.Value.int Go.IntKind.i64 0])⟩:=by kernel_rfl
theorem tt159:TT P 159=some ⟨Go.TypeDesc.struct #[{name:= "best",type:=69,offset:=0,embedded:=Bool.false,tag:= "",pkgPath:= "haulier/exact",byteOffset:=0},{name:= "some",type:=4,offset:=10,embedded:=Bool.false,tag:= "",pkgPath:= "haulier/exact",byteOffset:=96},{name:= "up",type:=3,offset:=11,embedded:=Bool.false,tag:= "",pkgPath:= "haulier/exact",byteOffset:=104},{name:= "steps",type:=3,offset:=12,embedded:=Bool.false,tag:= "",pkgPath:= "haulier/exact",byteOffset:=112}],13,120,(Go.Value.agg #[Go.Value.int Go.IntKind.i64 0,Go.Value.int Go.IntKind.i64 0,Go.Value.int Go.IntKind.i64 0,Go.Value.int Go.IntKind.i64 0,Go.Value.int Go.IntKind.i64 0,Go.Value.int Go.IntKind.u64 0,Go.Value.int Go.IntKind.u64 0,Go.Value.int Go.IntKind.u64 0,Go.Value.int Go.IntKind.i64 0,Go.Value.slice Option.none 0 0,Go.Value.bool Bool.false,Go.Value.int Go.IntKind.i64 0,Go.Value.int Go.IntKind.i64 0])⟩:=by kernel_rfl
theorem tt174:TT P 174=some ⟨Go.TypeDesc.struct #[{name:= "Instance",type:=24,offset:=0,embedded:=Bool.true,tag:= "",pkgPath:= "",byteOffset:=0},{name:= "s",type:=52,offset:=4,embedded:=Bool.false,tag:= "",pkgPath:= "haulier/state",byteOffset:=48}],12,112,(Go.Value.agg #[Go.Value.int Go.IntKind.i64 0,Go.Value.int Go.IntKind.i64 0,Go.Value.int Go.IntKind.i64 0,Go.Value.slice Option.none 0 0,Go.Value.int Go.IntKind.i64 0,Go.Value.int Go.IntKind.i64 0,Go.Value.int Go.IntKind.i64 0,Go.Value.int Go.IntKind.i64 0,Go.Value.int Go.IntKind.i64 0,Go.Value.int Go.IntKind.u64 0,Go.Value.int Go.IntKind.u64 0,Go.Value.int Go.IntKind.u64 0])⟩:=by kernel_rfl
theorem tt207:TT P 207=some ⟨Go.TypeDesc.map 52 3,1,8,(Go.Value.map Option.none)⟩:=by kernel_rfl
theorem tt208:TT P 208=some ⟨Go.TypeDesc.slice 210,1,24,(Go.Value.slice Option.none 0 0)⟩:=by kernel_rfl
theorem tt210:TT P 210=some ⟨Go.TypeDesc.struct #[{name:= "x",type:=69,offset:=0,embedded:=Bool.false,tag:= "",pkgPath:= "haulier/level",byteOffset:=0},{name:= "of",type:=3,offset:=10,embedded:=Bool.false,tag:= "",pkgPath:= "haulier/level",byteOffset:=96}],11,104,(Go.Value.agg #[Go.Value.int Go.IntKind.i64 0,Go.Value.int Go.IntKind.i64 0,Go.Value.int Go.IntKind.i64 0,Go.Value.int Go.IntKind.i64 0,Go.Value.int Go.IntKind.i64 0,Go.Value.int Go.IntKind.u64 0,Go.Value.int Go.IntKind.u64 0,Go.Value.int Go.IntKind.u64 0,Go.Value.int Go.IntKind.i64 0,Go.Value.slice Option.none 0 0,Go.Value.int Go.IntKind.i64 0])⟩:=by kernel_rfl
theorem tt214:TT P 214=some ⟨Go.TypeDesc.map 3 63,1,8,(Go.Value.map Option.none)⟩:=by kernel_rfl
theorem tt222:TT P 222=some ⟨Go.TypeDesc.float Go.FloatKind.f64,1,8,(Go.Value.float Go.FloatKind.f64 0)⟩:=by kernel_rfl
theorem tt226:TT P 226=some ⟨Go.TypeDesc.slice 52,1,24,(Go.Value.slice Option.none 0 0)⟩:=by kernel_rfl
theorem tt229:TT P 229=some ⟨Go.TypeDesc.array 3 50,3,24,(Go.Value.agg #[Go.Value.int Go.IntKind.u64 0,Go.Value.int Go.IntKind.u64 0,Go.Value.int Go.IntKind.u64 0])⟩:=by kernel_rfl
theorem tt236:TT P 236=some ⟨Go.TypeDesc.struct #[{name:= "s",type:=52,offset:=0,embedded:=Bool.false,tag:= "",pkgPath:= "haulier/relax",byteOffset:=0},{name:= "many",type:=3,offset:=8,embedded:=Bool.false,tag:= "",pkgPath:= "haulier/relax",byteOffset:=64},{name:= "odd",type:=4,offset:=9,embedded:=Bool.false,tag:= "",pkgPath:= "haulier/relax",byteOffset:=72}],10,80,(Go.Value.agg #[Go.Value.int Go.IntKind.i64 0,Go.Value.int Go.IntKind.i64 0,Go.Value.int Go.IntKind.i64 0,Go.Value.int Go.IntKind.i64 0,Go.Value.int Go.IntKind.i64 0,Go.Value.int Go.IntKind.u64 0,Go.Value.int Go.IntKind.u64 0,Go.Value.int Go.IntKind.u64 0,Go.Value.int Go.IntKind.i64 0,Go.Value.bool Bool.false])⟩:=by kernel_rfl
attribute [go_sem] tt3 tt4 tt5 tt9 tt22 tt24 tt26 tt29 tt31 tt32 tt34 tt37 tt39 tt46 tt48 tt49 tt50 tt52 tt54 tt57 tt61 tt63 tt65 tt67 tt69 tt71 tt78 tt79 tt81 tt83 tt88 tt90 tt92 tt102 tt104 tt106 tt110 tt125 tt130 tt141 tt145 tt149 tt159 tt174 tt207 tt208 tt210 tt214 tt222 tt226 tt229 tt236
end Go.Proofs.YtnoifgjiipgpoaaGreat

set_option maxRecDepth 4000
namespace Go.Proofs.YtnoifgjiipgpoaaGreat
open Go Go.Proofs.YtnoifgjiipgpoaaGreat.R
def rowT (l:List Int):List T:=[.sl (ints l)]
theorem u64n (n:Nat) (h:n<18446744073709551616):IntKind.u64.wrap (n:Int)=n:=u64 _ (by omega)
theorem w64n (n:Nat) (h:n<9223372036854775808):IntKind.i64.wrap (n:Int)=n:=w64 _ (by omega)
def bitN (j:Int):Nat:=if 0≤j∧j≤63 then 2^j.toNat else 0
def hasB (s:Nat) (j:Int):Bool:=decide (0≤j∧j≤63)&&s.testBit j.toNat
theorem bitN_lt (j:Int):bitN j<2^64:=by
 unfold bitN;split
 ·exact Nat.pow_lt_pow_right (by decide) (by omega)
 ·decide
theorem bitN_nat {k:Nat} (h:k≤63):bitN k=2^k:=by rw [bitN,if_pos (by omega)];rfl
theorem bitN_out {j:Int} (h:j<0∨63<j):bitN j=0:=by rw [bitN,if_neg (by omega)]
theorem bandN {a b:Nat} (ha:a<2^64) (hb:b<2^64):band .u64 a b=((a&&&b:Nat):Int):=by
 show IntKind.u64.wrap ((BitVec.ofInt 64 a&&&BitVec.ofInt 64 b).toNat:Int)=_
 rw [BitVec.ofInt_natCast,BitVec.ofInt_natCast,BitVec.toNat_and,BitVec.toNat_ofNat,BitVec.toNat_ofNat,Nat.mod_eq_of_lt ha,Nat.mod_eq_of_lt hb]
 have h3:a&&&b<2^64:=Nat.and_lt_two_pow a hb
 exact u64 _ (by omega)
theorem borN {a b:Nat} (ha:a<2^64) (hb:b<2^64):bor .u64 a b=((a|||b:Nat):Int):=by
 show IntKind.u64.wrap ((BitVec.ofInt 64 a|||BitVec.ofInt 64 b).toNat:Int)=_
 rw [BitVec.ofInt_natCast,BitVec.ofInt_natCast,BitVec.toNat_or,BitVec.toNat_ofNat,BitVec.toNat_ofNat,Nat.mod_eq_of_lt ha,Nat.mod_eq_of_lt hb]
 have h3:a|||b<2^64:=Nat.or_lt_two_pow ha hb
 exact u64 _ (by omega)
theorem and_two (s k:Nat):(s&&&2^k=0)↔s.testBit k=false:=by
 constructor
 ·intro h
  have:=congrArg (fun x=>x.testBit k) h
  simpa [Nat.testBit_and,Nat.testBit_two_pow_self] using this
 ·intro h
  refine Nat.eq_of_testBit_eq fun i=>?_
  rw [Nat.testBit_and,Nat.zero_testBit,Nat.testBit_two_pow]
  by_cases e:k=i
  ·subst e;simp [h]
  ·simp [e]
theorem bit_pure (j:Int):Pure P 135 [.i j] (.u (bitN j)):=by
 refine pure_of Tryz.func135 rfl rfl (by simp [Tryz.f135]) (by simp [bnd,bnd.bndL]) (by simp [bnd]) fun B hB hnx=>?_
 simp only [Tryz.f135] at hB ⊢
 by_cases h1:j<0
 ·rw [bitN_out (.inl h1)]
  refine K_run hB 60 ?_
  simp [go_sem,h1]
 by_cases h2:63<j
 ·rw [bitN_out (.inr h2)]
  refine K_run hB 60 ?_
  simp [go_sem,h1,h2]
 obtain ⟨k,rfl⟩:∃k:Nat,j=k:=⟨j.toNat,by omega⟩
 have hk:k≤63:=by omega
 have hmin:min k 64=k:=by omega
 rw [bitN_nat hk]
 refine K_run hB 60 ?_
 simp [go_sem,h1,h2,hmin]
 have:2^k<2^64:=Nat.pow_lt_pow_right (by decide) (by omega)
 have h3:((2^k:Nat):Int)=(2:Int)^k:=by rw [Int.natCast_pow];rfl
 rw [←h3]
 exact u64n _ this
theorem has_pure (s:Nat) (j:Int) (hs:s<2^64):Pure P 121 [.u s,.i j] (.b (hasB s j)):=by
 refine pure_of Tryz.func121 rfl rfl (by simp [Tryz.f121]) (by simp [bnd,bnd.bndL]) (by simp [bnd]) fun B hB hnx=>?_
 simp only [Tryz.f121] at hB ⊢
 refine K_run hB 60 ?_
 simp [go_sem]
 refine K_call rfl rfl rfl (args:=[.i j]) (f:=135) (by simp [go_sem]) (by simp [go_sem,hB]) ((bit_pure j).spec _ _) ?_
 refine K_run hB 60 ?_
 simp [go_sem,bandN hs (bitN_lt j)]
 rw [hasB]
 by_cases h:0≤j∧j≤63
 ·obtain ⟨k,rfl⟩:∃k:Nat,j=k:=⟨j.toNat,by omega⟩
  have e0:s&&&bitN (k:Int)=0↔s.testBit k=false:=by
   rw [bitN_nat (by omega)]
   exact and_two s k
  simp only [h,and_self,decide_true,Bool.true_and,Int.toNat_natCast]
  cases hb:s.testBit k
  ·simp [e0.2 hb]
  ·have:¬s&&&bitN (k:Int)=0:=fun h=>by rw [e0.1 h] at hb;cases hb
   simp [this]
 ·rw [bitN_out (by omega)]
  simp [h]
end Go.Proofs.YtnoifgjiipgpoaaGreat

set_option maxRecDepth 4000
namespace Go.Proofs.YtnoifgjiipgpoaaGreat
open Go Go.Proofs.YtnoifgjiipgpoaaGreat.R
def sum1 (a n:Int):Int:=min (a+min (max n 0) 1152921504606846976) 1152921504606846976
def sumI (l:List Int):Int:=l.foldl sum1 0
theorem sum1_in {a:Int} (h:0≤a∧a≤1152921504606846976) (n:Int):0≤sum1 a n∧sum1 a n≤1152921504606846976:=by unfold sum1;omega
theorem sum_pure (l:List Int) (hl:l.length<2^63):Pure P 65 [.t (.sl (ints l))] (.i (sumI l)):=by
 refine pure_of Tryz.func65 rfl rfl (by simp [Tryz.f65]) (by simp [bnd,bnd.bndL]) (by simp [bnd]) fun B hB hnx=>?_
 simp only [Tryz.f65] at hB ⊢
 refine K_run hB 60 ?_
 simp [go_sem]
 refine K_loopP (α:=Nat×Int) (fun (k,a)=>k≤l.length∧(0≤a∧a≤1152921504606846976)∧(l.drop k).foldl sum1 a=sumI l) (fun (k,a)=>⟨sl [(6,.t (.sl (ints l))),(7,.i l.length),(8,.i k),(3,.i a)],noObj,0⟩) (fun x=>l.length-x.1) (0,0) ⟨Nat.zero_le _,by omega,rfl⟩ (Imp.slots (by simp [go_sem,ints]) rfl rfl) ?_
 rintro ⟨k,a⟩ ⟨h1,h2,h3⟩
 refine K_run hB 60 ?_
 simp [go_sem]
 refine fork_dec (fun h=>?_) (fun h=>?_)
 ·rw [List.drop_eq_getElem_cons h,List.foldl_cons] at h3
  have hs:=sum1_in h2 l[k]
  simp [go_sem,ints,h]
  refine Next.mk (k+1,sum1 a l[k]) ⟨by omega,hs,h3⟩ (Imp.slots (by
   simp [go_sem,ints,sum1]
   rw [w64 ((k:Int)+1) (by omega),w64 (a+min (max l[k] 0) 1152921504606846976) (by omega)]
   simp) rfl rfl) (by simp only;omega)
 ·have:k=l.length:=by omega
  subst this
  simp [go_sem]
  simpa using h3
def rootL (m:Nat):Nat→Nat→Nat
 |0,r=>r
 |k+1,r=>rootL m k (if (r+2^k)*(r+2^k)<m then r+2^k else r)
theorem rootL_spec (m:Nat):∀k r,r*r<m→m≤(r+2^k)*(r+2^k)→rootL m k r*rootL m k r<m∧m≤(rootL m k r+1)*(rootL m k r+1)
 |0,r,h1,h2=>⟨h1,h2⟩
 |k+1,r,h1,h2=>by
  rw [rootL]
  by_cases h:(r+2^k)*(r+2^k)<m
  ·rw [if_pos h]
   refine rootL_spec m k _ h ?_
   have e:r+2^k+2^k=r+2^(k+1):=by rw [Nat.pow_succ];omega
   rw [e];exact h2
  ·rw [if_neg h]
   exact rootL_spec m k r h1 (by omega)
theorem rootL_lt (m:Nat):∀k r,rootL m k r<r+2^k
 |0,r=>by simp [rootL]
 |k+1,r=>by
  rw [rootL]
  have e:r+2^k+2^k=r+2^(k+1):=by rw [Nat.pow_succ];omega
  have:=Nat.two_pow_pos k
  split
  ·have:=rootL_lt m k (r+2^k);omega
  ·have:=rootL_lt m k r;omega
def rootI (n:Int):Int:=if n≤0 then 0 else ((rootL (min n 1152921504606846976).toNat 31 0+1:Nat):Int)
theorem root_only {m r s:Nat} (h1:r*r<m) (h2:m≤(r+1)*(r+1)) (h3:s*s<m) (h4:m≤(s+1)*(s+1)):r=s:=by
 rcases Nat.lt_trichotomy r s with h | h | h
 ·have h':r+1≤s:=h
  have:=Nat.mul_le_mul h' h';omega
 ·exact h
 ·have h':s+1≤r:=h
  have:=Nat.mul_le_mul h' h';omega
theorem rootI_spec {m:Nat} (h0:0<m) (hm:m≤1152921504606846976) {r:Nat} (h1:r*r<m) (h2:m≤(r+1)*(r+1)):rootI m=(r+1:Nat):=by
 obtain ⟨g1,g2⟩:=rootL_spec m 31 0 (by omega) (by simp;omega)
 rw [rootI,if_neg (by omega)]
 have e:(min (m:Int) 1152921504606846976).toNat=m:=by omega
 rw [e,root_only g1 g2 h1 h2]
theorem root_pure (n:Int):Pure P 137 [.i n] (.i (rootI n)):=by
 refine pure_of Tryz.func137 rfl rfl (by simp [Tryz.f137]) (by simp [bnd,bnd.bndL]) (by simp [bnd]) fun B hB hnx=>?_
 simp only [Tryz.f137] at hB ⊢
 obtain ⟨m,hm⟩:∃m:Nat,m=(min (max n 0) 1152921504606846976).toNat:=⟨_,rfl⟩
 have hmi:min (max n 0) 1152921504606846976=(m:Int):=by omega
 have hm60:m≤1152921504606846976:=by omega
 refine K_run hB 60 ?_
 simp [go_sem]
 refine K_scopeP (α:=Nat×Nat) 0 (fun (k,r)=>k≤30∧r+2^(k+1)≤2147483648∧rootL m (k+1) r=rootL m 31 0) (fun (k,r)=>⟨sl [(0,.i m),(3,.i r),(4,.i (2^k:Nat))],noObj,0⟩) (fun x=>x.1) rfl ?_ ?_
 ·have f0:¬(1152921504606846976:Int)<m:=by omega
  have f1:=w64 1073741824 (by omega)
  have f2:=w64 1152921504606846976 (by omega)
  refine K_run hB 60 ?_
  simp [go_sem,hmi,f1,f2,f0]
  refine ⟨29,0,⟨by omega,by omega,?_⟩,Imp.slots (by simp [go_sem]) rfl rfl⟩
  have e:rootL m 31 0=rootL m 30 (if (0+2^30)*(0+2^30)<m then 0+2^30 else 0):=rfl
  rw [e,if_neg (by simp;omega)]
 ·rintro ⟨k,r⟩ ⟨h1,h2,h3⟩
  obtain ⟨x,hx⟩:∃x,x=r+2^k:=⟨_,rfl⟩
  have hp:=Nat.two_pow_pos k
  have e2:r+2^k+2^k=r+2^(k+1):=by rw [Nat.pow_succ];omega
  have hxx:x*x≤2147483648*2147483648:=Nat.mul_le_mul (by omega) (by omega)
  have hcast:(r:Int)+2^k=(x:Int):=by rw [hx,Int.natCast_add,Int.natCast_pow];rfl
  have f1:IntKind.i64.wrap (x:Int)=x:=w64n x (by omega)
  have f2:IntKind.i64.wrap ((x:Int)*x)=((x*x:Nat):Int):=by rw [←Int.natCast_mul];exact w64n _ (by omega)
  rw [rootL] at h3
  rw [←hx] at h3
  have hend:∀r',rootL m 0 r'=rootL m 31 0→(if 0<m then ((r':Int)+1) else (r':Int))=rootI n:=fun r' hr=>by
   have hr':r'=rootL m 31 0:=hr
   by_cases hm0:0<m
   ·rw [if_pos hm0,rootI,if_neg (by omega)]
    have e:(min n 1152921504606846976).toNat=m:=by omega
    rw [e,hr'];rfl
   ·have e0:m=0:=by omega
    rw [if_neg hm0,rootI,if_pos (by omega),hr',e0]
    decide
  have hrr:r<2147483648:=by omega
  have hxr:x≤2147483648:=by omega
  have fx1:=w64 ((x:Int)+1) (by omega)
  have fr1:=w64 ((r:Int)+1) (by omega)
  by_cases hlt:x*x<m
  ·rw [if_pos hlt] at h3
   have hlt':(x:Int)*x<m:=by omega
   rcases k with _ | j
   ·have he:=hend x h3
    have hc0:(r:Int)+1=x:=by rw [hx];rfl
    have hm0:0<m:=by omega
    rw [if_pos hm0] at he
    rw [←he]
    refine K_run hB 60 ?_
    simp [go_sem,hc0,f1,f2,hlt',hm0,fx1]
   ·have f3:Int.fdiv (2^(j+1)) 2=2^j:=by rw [Int.pow_succ,Int.mul_fdiv_cancel _ (by decide)]
    have f4:(0:Int)<2^j:=Int.pow_pos (by decide)
    refine K_run hB 60 ?_
    simp [go_sem,hcast,f1,f2,hlt',f3,f4]
    refine Next.mk (j,x) ⟨by omega,by simp only;omega,h3⟩ (Imp.slots (by simp [go_sem]) rfl rfl) (by simp)
  ·rw [if_neg hlt] at h3
   have hlt':¬(x:Int)*x<m:=by omega
   rcases k with _ | j
   ·have he:=hend r h3
    have hc0:(r:Int)+1=x:=by rw [hx];rfl
    by_cases hm0:0<m
    ·rw [if_pos hm0,hc0] at he
     rw [←he]
     refine K_run hB 60 ?_
     simp [go_sem,hc0,f1,f2,hlt',hm0]
    ·rw [if_neg hm0] at he
     rw [←he]
     refine K_run hB 60 ?_
     simp [go_sem,hc0,f1,f2,hlt',hm0]
   ·have f3:Int.fdiv (2^(j+1)) 2=2^j:=by rw [Int.pow_succ,Int.mul_fdiv_cancel _ (by decide)]
    have f4:(0:Int)<2^j:=Int.pow_pos (by decide)
    refine K_run hB 60 ?_
    simp [go_sem,hcast,f1,f2,hlt',f3,f4]
    refine Next.mk (j,r) ⟨by omega,by simp only;omega,h3⟩ (Imp.slots (by simp [go_sem]) rfl rfl) (by simp)
theorem rroot_pure (n:Int):Pure P 156 [.i n] (.i (rootI n)):=by
 refine pure_of Tryz.func156 rfl rfl (by simp [Tryz.f156]) (by simp [bnd,bnd.bndL]) (by simp [bnd]) fun B hB hnx=>?_
 simp only [Tryz.f156] at hB ⊢
 by_cases h0:n<1
 ·have e:rootI n=0:=by rw [rootI,if_pos (by omega)]
  rw [e]
  refine K_run hB 60 ?_
  simp [go_sem,h0]
 obtain ⟨m,hm⟩:∃m:Nat,m=(min n 1152921504606846976).toNat:=⟨_,rfl⟩
 have hm0:0<m:=by omega
 have hm60:m≤1152921504606846976:=by omega
 have he:rootI n=rootI m:=by
  rw [rootI,rootI,if_neg (by omega),if_neg (by omega)]
  have e:(min (m:Int) 1152921504606846976).toNat=(min n 1152921504606846976).toNat:=by omega
  rw [e]
 rw [he]
 by_cases hbig:1152921504606846976<n
 ·have hm':m=1152921504606846976:=by omega
  have hm2:(m:Int)=1152921504606846976:=by omega
  refine K_run hB 60 ?_
  simp [go_sem,h0,hbig]
  refine K_loopP (α:=Nat×Nat) (fun (lo,hi)=>(lo<hi∧hi≤1073741824)∧lo*lo<m∧m≤hi*hi) (fun (lo,hi)=>⟨sl [(0,.i m),(3,.i lo),(4,.i hi)],noObj,0⟩) (fun x=>x.2-x.1) (0,1073741824) ⟨⟨by omega,by omega⟩,by omega,by omega⟩ (Imp.slots (by simp [go_sem,hm2]) rfl rfl) ?_
  rintro ⟨lo,hi⟩ ⟨⟨g1,g2⟩,g3,g4⟩
  have f1:IntKind.i64.wrap ((hi:Int)-lo)=(hi:Int)-lo:=w64 _ (by omega)
  by_cases hgo:(1:Int)<(hi:Int)-lo
  ·obtain ⟨mid,hmid⟩:∃mid,mid=(lo+hi) / 2:=⟨_,rfl⟩
   have f2:IntKind.i64.wrap ((lo:Int)+hi)=((lo+hi:Nat):Int):=by rw [←Int.natCast_add];exact w64n _ (by omega)
   have f3:IntKind.i64.wrap (((lo+hi:Nat):Int).tdiv 2)=(mid:Int):=by rw [hmid,show ((lo+hi:Nat):Int).tdiv 2=(((lo+hi) / 2:Nat):Int) from (Int.ofNat_tdiv _ 2).symm];exact w64n _ (by omega)
   have f3':IntKind.i64.wrap (((lo:Int)+hi) / 2)=(mid:Int):=by
    have:((lo:Int)+hi) / 2=(mid:Int):=by omega
    rw [this];exact w64n _ (by omega)
   have f3'':IntKind.i64.wrap (((lo:Int)+hi).tdiv 2)=(mid:Int):=by rw [←Int.natCast_add];exact f3
   have hmm:mid*mid≤1073741824*1073741824:=Nat.mul_le_mul (by omega) (by omega)
   have f4:IntKind.i64.wrap ((mid:Int)*mid)=((mid*mid:Nat):Int):=by rw [←Int.natCast_mul];exact w64n _ (by omega)
   by_cases hge:m≤mid*mid
   ·have hge':(m:Int)≤mid*mid:=by omega
    refine K_run hB 60 ?_
    simp [go_sem,f1,hgo,f2,f3,f3',f3'',f4,hge']
    refine Next.mk (lo,mid) ⟨⟨by omega,by omega⟩,g3,hge⟩ (Imp.slots (by simp [go_sem]) rfl rfl) (by simp only;omega)
   ·have hge':¬(m:Int)≤mid*mid:=by omega
    refine K_run hB 60 ?_
    simp [go_sem,f1,hgo,f2,f3,f3',f3'',f4,hge']
    refine Next.mk (mid,hi) ⟨⟨by omega,g2⟩,Nat.lt_of_not_le hge,g4⟩ (Imp.slots (by simp [go_sem]) rfl rfl) (by simp only;omega)
  ·obtain rfl:hi=lo+1:=by omega
   have hf:=rootI_spec hm0 hm60 g3 g4
   refine K_run hB 60 ?_
   have f5:(lo:Int)+1-lo=1:=by omega
   have f6:=w64 1 (by omega)
   simp [go_sem,f5,f6,hf]
 ·obtain rfl:n=m:=by omega
  refine K_run hB 60 ?_
  simp [go_sem,h0,hbig]
  refine K_loopP (α:=Nat×Nat) (fun (lo,hi)=>(lo<hi∧hi≤1073741824)∧lo*lo<m∧m≤hi*hi) (fun (lo,hi)=>⟨sl [(0,.i m),(3,.i lo),(4,.i hi)],noObj,0⟩) (fun x=>x.2-x.1) (0,1073741824) ⟨⟨by omega,by omega⟩,by omega,by omega⟩ (Imp.slots (by simp [go_sem]) rfl rfl) ?_
  rintro ⟨lo,hi⟩ ⟨⟨g1,g2⟩,g3,g4⟩
  have f1:IntKind.i64.wrap ((hi:Int)-lo)=(hi:Int)-lo:=w64 _ (by omega)
  by_cases hgo:(1:Int)<(hi:Int)-lo
  ·obtain ⟨mid,hmid⟩:∃mid,mid=(lo+hi) / 2:=⟨_,rfl⟩
   have f2:IntKind.i64.wrap ((lo:Int)+hi)=((lo+hi:Nat):Int):=by rw [←Int.natCast_add];exact w64n _ (by omega)
   have f3:IntKind.i64.wrap (((lo+hi:Nat):Int).tdiv 2)=(mid:Int):=by rw [hmid,show ((lo+hi:Nat):Int).tdiv 2=(((lo+hi) / 2:Nat):Int) from (Int.ofNat_tdiv _ 2).symm];exact w64n _ (by omega)
   have f3':IntKind.i64.wrap (((lo:Int)+hi) / 2)=(mid:Int):=by
    have:((lo:Int)+hi) / 2=(mid:Int):=by omega
    rw [this];exact w64n _ (by omega)
   have f3'':IntKind.i64.wrap (((lo:Int)+hi).tdiv 2)=(mid:Int):=by rw [←Int.natCast_add];exact f3
   have hmm:mid*mid≤1073741824*1073741824:=Nat.mul_le_mul (by omega) (by omega)
   have f4:IntKind.i64.wrap ((mid:Int)*mid)=((mid*mid:Nat):Int):=by rw [←Int.natCast_mul];exact w64n _ (by omega)
   by_cases hge:m≤mid*mid
   ·have hge':(m:Int)≤mid*mid:=by omega
    refine K_run hB 60 ?_
    simp [go_sem,f1,hgo,f2,f3,f3',f3'',f4,hge']
    refine Next.mk (lo,mid) ⟨⟨by omega,by omega⟩,g3,hge⟩ (Imp.slots (by simp [go_sem]) rfl rfl) (by simp only;omega)
   ·have hge':¬(m:Int)≤mid*mid:=by omega
    refine K_run hB 60 ?_
    simp [go_sem,f1,hgo,f2,f3,f3',f3'',f4,hge']
    refine Next.mk (mid,hi) ⟨⟨by omega,g2⟩,Nat.lt_of_not_le hge,g4⟩ (Imp.slots (by simp [go_sem]) rfl rfl) (by simp only;omega)
  ·obtain rfl:hi=lo+1:=by omega
   have hf:=rootI_spec hm0 hm60 g3 g4
   refine K_run hB 60 ?_
   have f5:(lo:Int)+1-lo=1:=by omega
   have f6:=w64 1 (by omega)
   simp [go_sem,f5,f6,hf]
end Go.Proofs.YtnoifgjiipgpoaaGreat

set_option maxRecDepth 4000
namespace Go.Proofs.YtnoifgjiipgpoaaGreat
open Go Go.Proofs.YtnoifgjiipgpoaaGreat.R
def andN (a b:Nat):Nat:=(BitVec.ofNat 64 a&&&~~~ BitVec.ofNat 64 b).toNat
theorem andN_lt (a b:Nat):andN a b<2^64:=BitVec.isLt _
theorem bandnN {a b:Nat}:bandn .u64 a b=((andN a b:Nat):Int):=by
 show IntKind.u64.wrap ((BitVec.ofInt 64 a&&&~~~ BitVec.ofInt 64 b).toNat:Int)=_
 rw [BitVec.ofInt_natCast,BitVec.ofInt_natCast]
 exact u64n _ (andN_lt a b)
theorem andN_bit (a b i:Nat):(andN a b).testBit i=(decide (i<64)&&(a.testBit i&& !b.testBit i)):=by
 unfold andN
 rw [BitVec.testBit_toNat,BitVec.getLsbD_and,BitVec.getLsbD_not,BitVec.getLsbD_ofNat,BitVec.getLsbD_ofNat]
 cases decide (i<64)<;>cases a.testBit i<;>cases b.testBit i<;>rfl
def withN (s:Nat) (j:Int):Nat:=s|||bitN j
def withoutN (s:Nat) (j:Int):Nat:=andN s (bitN j)
def withinB (s t:Nat):Bool:=(List.range 64).all fun i=>!s.testBit i||t.testBit i
theorem withN_lt {s:Nat} (h:s<2^64) (j:Int):withN s j<2^64:=Nat.or_lt_two_pow h (bitN_lt j)
theorem withoutN_lt (s:Nat) (j:Int):withoutN s j<2^64:=andN_lt _ _
theorem within_iff {s t:Nat}:andN s t=0↔withinB s t=true:=by
 unfold withinB
 rw [List.all_eq_true]
 constructor
 ·intro h i hi
  have h1:=andN_bit s t i
  rw [h,Nat.zero_testBit,decide_eq_true (List.mem_range.1 hi)] at h1
  revert h1
  cases s.testBit i<;>cases t.testBit i<;>simp
 ·intro h
  refine Nat.eq_of_testBit_eq fun i=>?_
  rw [andN_bit,Nat.zero_testBit]
  by_cases hi:i<64
  ·have:=h i (List.mem_range.2 hi)
   revert this
   cases s.testBit i<;>cases t.testBit i<;>simp
  ·simp [hi]
theorem with_pure (s:Nat) (j:Int) (hs:s<2^64):Pure P 150 [.u s,.i j] (.u (withN s j)):=by
 refine pure_of Tryz.func150 rfl rfl (by simp [Tryz.f150]) (by simp [bnd,bnd.bndL]) (by simp [bnd]) fun B hB hnx=>?_
 simp only [Tryz.f150] at hB ⊢
 refine K_run hB 60 ?_
 simp [go_sem]
 refine K_call rfl rfl rfl (args:=[.i j]) (f:=135) (by simp [go_sem]) (by simp [go_sem,hB]) ((bit_pure j).spec _ _) ?_
 refine K_run hB 60 ?_
 simp [go_sem,borN hs (bitN_lt j),withN]
theorem without_pure (s:Nat) (j:Int):Pure P 149 [.u s,.i j] (.u (withoutN s j)):=by
 refine pure_of Tryz.func149 rfl rfl (by simp [Tryz.f149]) (by simp [bnd,bnd.bndL]) (by simp [bnd]) fun B hB hnx=>?_
 simp only [Tryz.f149] at hB ⊢
 refine K_run hB 60 ?_
 simp [go_sem]
 refine K_call rfl rfl rfl (args:=[.i j]) (f:=135) (by simp [go_sem]) (by simp [go_sem,hB]) ((bit_pure j).spec _ _) ?_
 refine K_run hB 60 ?_
 simp [go_sem,bandnN,withoutN]
theorem within_pure (s t:Nat):Pure P 115 [.u s,.u t] (.b (withinB s t)):=by
 refine pure_of Tryz.func115 rfl rfl (by simp [Tryz.f115]) (by simp [bnd,bnd.bndL]) (by simp [bnd]) fun B hB hnx=>?_
 simp only [Tryz.f115] at hB ⊢
 refine K_run hB 60 ?_
 simp [go_sem,bandnN]
 by_cases h:andN s t=0
 ·rw [within_iff.1 h];simp [h]
 ·have:withinB s t=false:=by
   cases hw:withinB s t
   ·rfl
   ·exact absurd (within_iff.2 hw) h
  simp [h,this]
theorem has_nat {s i:Nat} (h:i<64):hasB s (i:Int)=s.testBit i:=by simp [hasB];omega
def uptoL:Nat→Nat
 |0=>0
 |k+1=>uptoL k|||2^(k+1)
def uptoN (n:Int):Nat:=uptoL (min (max n 0) 63).toNat
theorem uptoL_lt:∀k,k≤63→uptoL k<2^64
 |0,_=>by decide
 |k+1,h=>Nat.or_lt_two_pow (uptoL_lt k (by omega)) (Nat.pow_lt_pow_right (by decide) (by omega))
theorem upto_pure (n:Int):Pure P 116 [.i n] (.u (uptoN n)):=by
 refine pure_of Tryz.func116 rfl rfl (by simp [Tryz.f116]) (by simp [bnd,bnd.bndL]) (by simp [bnd]) fun B hB hnx=>?_
 simp only [Tryz.f116] at hB ⊢
 obtain ⟨m,hm⟩:∃m:Nat,m=(min (max n 0) 63).toNat:=⟨_,rfl⟩
 have hmi:min (max n 0) 63=(m:Int):=by omega
 have hm63:m≤63:=by omega
 have hu:uptoN n=uptoL m:=by rw [uptoN,←hm]
 rw [hu]
 refine K_run hB 60 ?_
 simp [go_sem,hmi]
 refine K_loopP (α:=Nat) (fun i=>i≤m) (fun i=>⟨sl [(0,.i m),(8,.i m),(9,.i i),(3,.u (uptoL i))],noObj,0⟩) (fun i=>m-i) 0 (Nat.zero_le _) (Imp.slots (by simp [go_sem,uptoL]) rfl rfl) ?_
 intro i hi
 refine K_run hB 60 ?_
 simp [go_sem]
 refine fork_dec (fun h=>?_) (fun h=>?_)
 ·have hii:IntKind.i64.wrap ((i:Int)+1)=((i+1:Nat):Int):=by rw [w64 ((i:Int)+1) (by omega)];rfl
  simp [go_sem,hii]
  refine K_call rfl rfl rfl (args:=[.i ((i+1:Nat):Int)]) (f:=135) (by simp [go_sem]) (by simp [go_sem,hB]) ((bit_pure _).spec _ _) ?_
  have hb:=bitN_nat (k:=i+1) (by omega)
  rw [hb]
  have hor:bor .u64 (uptoL i) ((2^(i+1):Nat):Int)=((uptoL (i+1):Nat):Int):=borN (uptoL_lt i (by omega)) (Nat.pow_lt_pow_right (by decide) (by omega))
  generalize 2^(i+1)=b at *
  refine K_run hB 60 ?_
  simp [go_sem,hii,hor]
  exact Next.mk (i+1) (by omega) (Imp.slots (by simp [go_sem]) rfl rfl) (by omega)
 ·have:i=m:=by omega
  subst this
  simp [go_sem]
end Go.Proofs.YtnoifgjiipgpoaaGreat

set_option maxRecDepth 4000
namespace Go.Proofs.YtnoifgjiipgpoaaGreat
open Go Go.Proofs.YtnoifgjiipgpoaaGreat.R
structure Stop where
 x:Int
 y:Int
 demand:Int
 ready:Int
 due:Int
 service:Int
structure Inst where
 pairs:Int
 cars:Int
 room:Int
 stops:List Stop
def Stop.t (s:Stop):List T:=[.i s.x,.i s.y,.i s.demand,.i s.ready,.i s.due,.i s.service]
def Inst.a (x:Inst):AV:=.agg [.t (.i x.pairs),.t (.i x.cars),.t (.i x.room),.t (.sl (x.stops.map Stop.t))]
def inB (lo hi n:Int):Bool:=decide (lo≤n)&&decide (n≤hi)
def Inst.stopB (x:Inst) (k:Nat) (s:Stop):Bool:=
 ((inB 0 10000 s.x&&inB 0 10000 s.y)&&(inB 0 1048576 s.ready&&inB 0 1048576 s.due)&&decide (s.ready≤s.due)&&inB 0 1000 s.service)&&
 (if k=0 then decide (s.demand=0)&&decide (s.service=0)
  else if (k:Int)≤x.pairs then inB 1 1000 s.demand
  else decide (s.demand=IntKind.i64.wrap (-(x.stops.getD (k-x.pairs.toNat) ⟨0,0,0,0,0,0⟩).demand)))
def allFrom {α:Type} (f:Nat→α→Bool):Nat→List α→Bool
 |_,[]=>true
 |k,a :: l=>f k a&&allFrom f (k+1) l
def Inst.may (x:Inst):Bool:=inB 0 16 x.pairs&&inB 1 8 x.cars&&inB 1 1000 x.room&&decide ((x.stops.length:Int)=2*x.pairs+1)&&allFrom x.stopB 0 x.stops
theorem allFrom_drop {α:Type} {f:Nat→α→Bool} {l:List α} {k:Nat} (h:k<l.length):allFrom f k (l.drop k)=(f k l[k]&&allFrom f (k+1) (l.drop (k+1))):=by rw [List.drop_eq_getElem_cons h];rfl
theorem between_pure (lo hi:Int) (l:List Int) (hl:l.length<2^63):Pure P 28 [.i lo,.i hi,.t (.sl (ints l))] (.b (l.all (inB lo hi))):=by
 refine pure_of Tryz.func28 rfl rfl (by simp [Tryz.f28]) (by simp [bnd,bnd.bndL]) (by simp [bnd]) fun B hB hnx=>?_
 simp only [Tryz.f28] at hB ⊢
 generalize hR:l.all (inB lo hi)=r
 refine K_run hB 60 ?_
 simp [go_sem]
 refine K_loopP (α:=Nat) (fun k=>k≤l.length∧(l.drop k).all (inB lo hi)=r) (fun k=>⟨sl [(0,.i lo),(1,.i hi),(9,.t (.sl (ints l))),(10,.i l.length),(11,.i k)],noObj,0⟩) (fun k=>l.length-k) 0 ⟨Nat.zero_le _,hR⟩ (Imp.slots (by simp [go_sem,ints]) rfl rfl) ?_
 rintro k ⟨h1,h3⟩
 refine K_run hB 60 ?_
 simp [go_sem]
 refine fork_dec (fun h=>?_) (fun h=>?_)
 ·rw [List.drop_eq_getElem_cons h,List.all_cons] at h3
  have hk:IntKind.i64.wrap ((k:Int)+1)=((k+1:Nat):Int):=by rw [w64 ((k:Int)+1) (by omega)];rfl
  generalize hn:l[k]=n at *
  by_cases g1:n<lo
  ·have:r=false:=by rw [←h3];simp [inB];omega
   simp [go_sem,ints,h,hn,g1,this]
  ·by_cases g2:hi<n
   ·have:r=false:=by rw [←h3];simp [inB];omega
    simp [go_sem,ints,h,hn,g1,g2,this]
   ·have e:inB lo hi n=true:=by simp [inB];omega
    rw [e,Bool.true_and] at h3
    simp [go_sem,ints,h,hn,g1,g2,hk]
    exact Next.mk (k+1) ⟨by omega,h3⟩ (Imp.slots (by simp [go_sem,ints]) rfl rfl) (by omega)
 ·have:k=l.length:=by omega
  subst this
  simp at h3
  simp [go_sem,h3]
theorem in_pure (n lo hi:Int):Pure P 83 [.i n,.i lo,.i hi] (.b (inB lo hi n)):=by
 refine pure_of Tryz.func83 rfl rfl (by simp [Tryz.f83]) (by simp [bnd,bnd.bndL]) (by simp [bnd]) fun B hB hnx=>?_
 simp only [Tryz.f83] at hB ⊢
 by_cases h1:lo≤n
 ·refine K_run hB 60 ?_
  simp [go_sem,h1,inB]
 ·refine K_run hB 60 ?_
  simp [go_sem,h1,inB]
theorem may_pure (x:Inst) (hl:x.stops.length<2^63):Pure P 13 [x.a] (.b x.may):=by
 refine pure_of Tryz.func13 rfl rfl (by simp [Tryz.f13]) (by simp [bnd,bnd.bndL,Inst.a]) (by simp [bnd]) fun B hB hnx=>?_
 simp only [Tryz.f13] at hB ⊢
 generalize hR:x.may=r
 refine K_run hB 60 ?_
 simp [go_sem,Inst.a]
 refine K_call rfl rfl rfl (args:=[.i 0,.i 16,.fsl (ints [x.pairs])]) (f:=28) (by simp [go_sem,ints]) (by simp [go_sem,hB]) (CallSpec.loose ((between_pure 0 16 [x.pairs] (by simp)).spec _ _)) ?_
 simp only [List.all_cons,List.all_nil,Bool.and_true]
 by_cases h1:inB 0 16 x.pairs=true
 rotate_left
 ·have h1':inB 0 16 x.pairs=false:=by simpa using h1
  have:r=false:=by rw [←hR,Inst.may,h1'];rfl
  refine K_run hB 60 ?_
  simp [go_sem,h1',this]
 refine K_run hB 60 ?_
 simp [go_sem,h1]
 refine K_call rfl rfl rfl (args:=[.i 1,.i 8,.fsl (ints [x.cars])]) (f:=28) (by simp [go_sem,ints]) (by simp [go_sem,hB]) (CallSpec.loose ((between_pure 1 8 [x.cars] (by simp)).spec _ _)) ?_
 simp only [List.all_cons,List.all_nil,Bool.and_true]
 by_cases h2:inB 1 8 x.cars=true
 rotate_left
 ·have h1':inB 1 8 x.cars=false:=by simpa using h2
  have:r=false:=by rw [←hR,Inst.may,h1'];simp
  refine K_run hB 60 ?_
  simp [go_sem,h1',this]
 refine K_run hB 60 ?_
 simp [go_sem,h2]
 refine K_call rfl rfl rfl (args:=[.i 1,.i 1000,.fsl (ints [x.room])]) (f:=28) (by simp [go_sem,ints]) (by simp [go_sem,hB]) (CallSpec.loose ((between_pure 1 1000 [x.room] (by simp)).spec _ _)) ?_
 simp only [List.all_cons,List.all_nil,Bool.and_true]
 by_cases h3:inB 1 1000 x.room=true
 rotate_left
 ·have h1':inB 1 1000 x.room=false:=by simpa using h3
  have:r=false:=by rw [←hR,Inst.may,h1'];simp
  refine K_run hB 60 ?_
  simp [go_sem,h1',this]
 have hp1:0≤x.pairs∧x.pairs≤16:=by simpa [inB] using h1
 obtain ⟨p,hp⟩:∃p:Nat,x.pairs=p:=⟨x.pairs.toNat,by omega⟩
 have w1:=w64 (2*(p:Int)) (by omega)
 have w2:=w64 (2*(p:Int)+1) (by omega)
 by_cases h4:(x.stops.length:Int)=2*p+1
 rotate_left
 ·have:r=false:=by rw [←hR,Inst.may,hp];simp [h4]
  refine K_run hB 60 ?_
  simp [go_sem,h3,hp,w1,w2,h4,this]
 refine K_run hB 60 ?_
 simp [go_sem,h3,hp,w1,w2,h4]
 have hsum:allFrom x.stopB 0 x.stops=r:=by rw [←hR,Inst.may,hp,h2,h3,←hp,h1,hp];simp [h4]
 have lenp:x.stops.length=2*p+1:=by omega
 refine K_loopP (α:=Nat) (fun k=>k≤x.stops.length∧allFrom x.stopB k (x.stops.drop k)=r) (fun k=>⟨sl [(1,.ptr 0 0),(35,.t (.sl (x.stops.map Stop.t))),(36,.i x.stops.length),(37,.i k)],ob [(0,.box [.t (.i p),.t (.i x.cars),.t (.i x.room),.t (.sl (x.stops.map Stop.t))])],1⟩) (fun k=>x.stops.length-k) 0 ⟨Nat.zero_le _,hsum⟩ (Sub.of (by omega) (by simp) (by simp [go_sem,h4]) (by simp [go_sem,hp])) ?_
 rintro k ⟨g1,g3⟩
 refine K_run hB 60 ?_
 simp [go_sem]
 refine fork_dec (fun h=>?_) (fun h=>?_)
 rotate_left
 ·have:k=x.stops.length:=by omega
  subst this
  simp [allFrom] at g3
  simp [go_sem,g3]
 rw [allFrom_drop h] at g3
 have hkk:IntKind.i64.wrap ((k:Int)+1)=((k+1:Nat):Int):=by rw [w64 ((k:Int)+1) (by omega)];rfl
 generalize hs:x.stops[k]=s at *
 simp [go_sem,h,hs,Stop.t]
 refine K_call rfl rfl rfl (args:=[.i 0,.i 10000,.fsl (ints [s.x,s.y])]) (f:=28) (by simp [go_sem,ints]) (by simp [go_sem,hB]) (CallSpec.loose ((between_pure 0 10000 [s.x,s.y] (by simp)).spec _ _)) ?_
 simp only [List.all_cons,List.all_nil,Bool.and_true]
 by_cases c1:(inB 0 10000 s.x&&inB 0 10000 s.y)=true
 rotate_left
 ·have c1':(inB 0 10000 s.x&&inB 0 10000 s.y)=false:=by simpa using c1
  have:r=false:=by rw [←g3,Inst.stopB,c1'];simp
  rw [c1']
  refine K_run hB 60 ?_
  simp [go_sem,this]
 rw [c1]
 refine K_run hB 60 ?_
 simp [go_sem]
 refine K_call rfl rfl rfl (args:=[.i 0,.i 1048576,.fsl (ints [s.ready,s.due])]) (f:=28) (by simp [go_sem,ints]) (by simp [go_sem,hB]) (CallSpec.loose ((between_pure 0 1048576 [s.ready,s.due] (by simp)).spec _ _)) ?_
 simp only [List.all_cons,List.all_nil,Bool.and_true]
 by_cases c2:(inB 0 1048576 s.ready&&inB 0 1048576 s.due)=true
 rotate_left
 ·have c1':(inB 0 1048576 s.ready&&inB 0 1048576 s.due)=false:=by simpa using c2
  have:r=false:=by rw [←g3,Inst.stopB,c1,c1'];simp
  rw [c1']
  refine K_run hB 60 ?_
  simp [go_sem,this]
 rw [c2]
 by_cases c3:s.due<s.ready
 ·have c3':¬s.ready≤s.due:=by omega
  have:r=false:=by rw [←g3,Inst.stopB,c1,c2];simp [c3']
  refine K_run hB 60 ?_
  simp [go_sem,this,c3]
 have c3':s.ready≤s.due:=by omega
 refine K_run hB 60 ?_
 simp [go_sem,c3]
 refine K_call rfl rfl rfl (args:=[.i 0,.i 1000,.fsl (ints [s.service])]) (f:=28) (by simp [go_sem,ints]) (by simp [go_sem,hB]) (CallSpec.loose ((between_pure 0 1000 [s.service] (by simp)).spec _ _)) ?_
 simp only [List.all_cons,List.all_nil,Bool.and_true]
 by_cases c4:inB 0 1000 s.service=true
 rotate_left
 ·have c1':inB 0 1000 s.service=false:=by simpa using c4
  have:r=false:=by rw [←g3,Inst.stopB,c1'];simp
  rw [c1']
  refine K_run hB 60 ?_
  simp [go_sem,this]
 rw [c4]
 rw [Inst.stopB,c1,c2,c4,hp] at g3
 simp only [c3',decide_true,Bool.true_and,Bool.and_true] at g3
 by_cases k0:k=0
 ·subst k0
  rw [if_pos rfl] at g3
  by_cases d1:s.demand=0
  ·by_cases d2:s.service=0
   ·simp only [d1,d2,decide_true,Bool.true_and] at g3
    refine K_run hB 100 ?_
    simp [go_sem,d1,d2]
    exact Next.mk 1 ⟨by omega,g3⟩ (Sub.of (by omega) (by simp) (by simp [go_sem,h4,w64 1 (by omega)]) (by simp [go_sem])) (by omega)
   ·have:r=false:=by rw [←g3];simp [d2]
    refine K_run hB 100 ?_
    simp [go_sem,d1,d2,this]
  ·have:r=false:=by rw [←g3];simp [d1]
   refine K_run hB 100 ?_
   simp [go_sem,d1,this]
 rw [if_neg k0] at g3
 have k0':¬(k:Int)=0:=by omega
 by_cases kp:(k:Int)≤p
 ·rw [if_pos kp] at g3
  refine K_run hB 100 ?_
  simp [go_sem,k0,k0',kp]
  refine K_call rfl rfl rfl (args:=[.i 1,.i 1000,.fsl (ints [s.demand])]) (f:=28) (by simp [go_sem,ints]) (by simp [go_sem,hB]) (CallSpec.loose ((between_pure 1 1000 [s.demand] (by simp)).spec _ _)) ?_
  simp only [List.all_cons,List.all_nil,Bool.and_true]
  by_cases c5:inB 1 1000 s.demand=true
  ·rw [c5,Bool.true_and] at g3
   rw [c5]
   refine K_run hB 100 ?_
   simp [go_sem,hkk]
   exact Next.mk (k+1) ⟨by omega,g3⟩ (Sub.of (by omega) (by simp) (by simp [go_sem,h4]) (by simp [go_sem])) (by omega)
  ·have c1':inB 1 1000 s.demand=false:=by simpa using c5
   have:r=false:=by rw [←g3,c1'];rfl
   rw [c1']
   refine K_run hB 60 ?_
   simp [go_sem,this]
 ·rw [if_neg kp] at g3
  have hi:k-p<x.stops.length:=by omega
  have e1:(p:Int).toNat=p:=Int.toNat_natCast p
  have e2:x.stops.getD (k-p) ⟨0,0,0,0,0,0⟩=x.stops[k-p]:=by simp [List.getD_eq_getElem?_getD,List.getElem?_eq_getElem hi]
  rw [e1,e2] at g3
  have w3:IntKind.i64.wrap ((k:Int)-p)=((k-p:Nat):Int):=by rw [w64 ((k:Int)-p) (by omega)];omega
  refine K_run hB 100 ?_
  simp [go_sem,k0,k0',kp]
  refine K_drawn [] rfl (by rw [hB];kernel_rfl) ?_
  by_cases c5:s.demand=IntKind.i64.wrap (-x.stops[k-p].demand)
  ·simp only [c5,decide_true,Bool.true_and] at g3
   refine K_run hB 100 ?_
   simp [go_sem,w3,hi,Stop.t,c5,hkk]
   exact Next.mk (k+1) ⟨by omega,g3⟩ (Sub.of (by omega) (by simp) (by simp [go_sem,h4]) (by simp [go_sem])) (by omega)
  ·have:r=false:=by rw [←g3];simp [c5]
   refine K_run hB 100 ?_
   simp [go_sem,w3,hi,Stop.t,this,c5]
end Go.Proofs.YtnoifgjiipgpoaaGreat

set_option maxRecDepth 4000
namespace Go.Proofs.YtnoifgjiipgpoaaGreat
open Go Go.Proofs.YtnoifgjiipgpoaaGreat.R
def Stop.okB (s:Stop):Bool:=((inB 0 10000 s.x&&inB 0 10000 s.y)&&(inB 0 1048576 s.ready&&inB 0 1048576 s.due)&&decide (s.ready≤s.due)&&inB 0 1000 s.service)
theorem Stop.okB_eq (s:Stop):(inB 0 10000 s.x&&inB 0 10000 s.y&&inB 0 1048576 s.ready&&inB s.ready 1048576 s.due&&inB 0 1000 s.service)=s.okB:=by
 rw [Bool.eq_iff_iff]
 simp only [Stop.okB,inB,Bool.and_eq_true,decide_eq_true_eq]
 omega
theorem rstop_pure (s:Stop):Pure P 84 [.agg (s.t.map .t)] (.b s.okB):=by
 rw [←Stop.okB_eq]
 refine pure_of Tryz.func84 rfl rfl (by simp [Tryz.f84]) (by simp [bnd,bnd.bndL,Stop.t]) (by simp [bnd]) fun B hB hnx=>?_
 simp only [Tryz.f84] at hB ⊢
 refine K_run hB 60 ?_
 simp [go_sem,Stop.t]
 refine K_call rfl rfl rfl (args:=[.i s.x,.i 0,.i 10000]) (f:=83) (by simp [go_sem]) (by simp [go_sem,hB]) ((in_pure s.x 0 10000).spec _ _) ?_
 generalize inB 0 10000 s.x=b1
 refine K_run hB 60 ?_
 simp [go_sem]
 refine K_call rfl rfl rfl (args:=[.i s.y,.i 0,.i 10000]) (f:=83) (by simp [go_sem]) (by simp [go_sem,hB]) ((in_pure s.y 0 10000).spec _ _) ?_
 generalize inB 0 10000 s.y=b2
 refine K_run hB 60 ?_
 simp [go_sem]
 refine K_call rfl rfl rfl (args:=[.i s.ready,.i 0,.i 1048576]) (f:=83) (by simp [go_sem]) (by simp [go_sem,hB]) ((in_pure s.ready 0 1048576).spec _ _) ?_
 generalize inB 0 1048576 s.ready=b3
 refine K_run hB 60 ?_
 simp [go_sem]
 refine K_call rfl rfl rfl (args:=[.i s.due,.i s.ready,.i 1048576]) (f:=83) (by simp [go_sem]) (by simp [go_sem,hB]) ((in_pure s.due s.ready 1048576).spec _ _) ?_
 generalize inB s.ready 1048576 s.due=b4
 refine K_run hB 60 ?_
 simp [go_sem]
 refine K_call rfl rfl rfl (args:=[.i s.service,.i 0,.i 1000]) (f:=83) (by simp [go_sem]) (by simp [go_sem,hB]) ((in_pure s.service 0 1000).spec _ _) ?_
 generalize inB 0 1000 s.service=b5
 cases b1<;>cases b2<;>cases b3<;>cases b4<;>cases b5<;>(refine K_run hB 60 ?_;simp [go_sem])
theorem rmay_pure (x:Inst) (hl:x.stops.length<2^63):Pure P 54 [x.a] (.b x.may):=by
 refine pure_of Tryz.func54 rfl rfl (by simp [Tryz.f54]) (by simp [bnd,bnd.bndL,Inst.a]) (by simp [bnd]) fun B hB hnx=>?_
 simp only [Tryz.f54] at hB ⊢
 generalize hR:x.may=r
 refine K_run hB 60 ?_
 simp [go_sem,Inst.a]
 refine K_call rfl rfl rfl (args:=[.i x.pairs,.i 0,.i 16]) (f:=83) (by simp [go_sem]) (by simp [go_sem,hB]) ((in_pure x.pairs 0 16).spec _ _) ?_
 refine K_run hB 60 ?_
 simp [go_sem]
 refine K_call rfl rfl rfl (args:=[.i x.cars,.i 1,.i 8]) (f:=83) (by simp [go_sem]) (by simp [go_sem,hB]) ((in_pure x.cars 1 8).spec _ _) ?_
 refine K_run hB 60 ?_
 simp [go_sem]
 refine K_call rfl rfl rfl (args:=[.i x.room,.i 1,.i 1000]) (f:=83) (by simp [go_sem]) (by simp [go_sem,hB]) ((in_pure x.room 1 1000).spec _ _) ?_
 by_cases h1:inB 0 16 x.pairs=true
 rotate_left
 ·have h1':inB 0 16 x.pairs=false:=by simpa using h1
  have:r=false:=by rw [←hR,Inst.may,h1'];rfl
  rw [h1']
  refine K_run hB 60 ?_
  simp [go_sem,this]
 rw [h1]
 by_cases h2:inB 1 8 x.cars=true
 rotate_left
 ·have h1':inB 1 8 x.cars=false:=by simpa using h2
  have:r=false:=by rw [←hR,Inst.may,h1'];simp
  rw [h1']
  refine K_run hB 60 ?_
  simp [go_sem,this]
 rw [h2]
 by_cases h3:inB 1 1000 x.room=true
 rotate_left
 ·have h1':inB 1 1000 x.room=false:=by simpa using h3
  have:r=false:=by rw [←hR,Inst.may,h1'];simp
  rw [h1']
  refine K_run hB 60 ?_
  simp [go_sem,this]
 rw [h3]
 have hp1:0≤x.pairs∧x.pairs≤16:=by simpa [inB] using h1
 obtain ⟨p,hp⟩:∃p:Nat,x.pairs=p:=⟨x.pairs.toNat,by omega⟩
 have w1:=w64 (2*(p:Int)) (by omega)
 have w2:=w64 (2*(p:Int)+1) (by omega)
 by_cases h4:(x.stops.length:Int)=2*p+1
 rotate_left
 ·have:r=false:=by rw [←hR,Inst.may,hp];simp [h4]
  refine K_run hB 60 ?_
  simp [go_sem,hp,w1,w2,h4,this]
 refine K_run hB 60 ?_
 simp [go_sem,hp,w1,w2,h4]
 have hsum:allFrom x.stopB 0 x.stops=r:=by rw [←hR,Inst.may,hp,h2,h3,←hp,h1,hp];simp [h4]
 have lenp:x.stops.length=2*p+1:=by omega
 refine K_loopP (α:=Nat) (fun k=>k≤x.stops.length∧allFrom x.stopB k (x.stops.drop k)=r) (fun k=>⟨sl [(1,.ptr 0 0),(6,.i k)],ob [(0,.box [.t (.i p),.t (.i x.cars),.t (.i x.room),.t (.sl (x.stops.map Stop.t))])],1⟩) (fun k=>x.stops.length-k) 0 ⟨Nat.zero_le _,hsum⟩ (Sub.of (by omega) (by simp) (by simp [go_sem]) (by simp [go_sem,hp])) ?_
 rintro k ⟨g1,g3⟩
 refine K_run hB 60 ?_
 simp [go_sem]
 refine fork_dec (fun h=>?_) (fun h=>?_)
 rotate_left
 ·have:k=x.stops.length:=by omega
  subst this
  simp [allFrom] at g3
  simp [go_sem,g3]
 rw [allFrom_drop h] at g3
 have hkk:IntKind.i64.wrap ((k:Int)+1)=((k+1:Nat):Int):=by rw [w64 ((k:Int)+1) (by omega)];rfl
 generalize hs:x.stops[k]=s at *
 simp [go_sem,h,hs,Stop.t]
 refine K_call rfl rfl rfl (args:=[.agg (s.t.map .t)]) (f:=84) (by simp [go_sem,Stop.t]) (by simp [go_sem,hB]) ((rstop_pure s).spec _ _) ?_
 refine K_run hB 60 ?_
 simp [go_sem]
 refine K_call rfl rfl rfl (args:=[.i s.demand,.i 1,.i 1000]) (f:=83) (by simp [go_sem]) (by simp [go_sem,hB]) ((in_pure s.demand 1 1000).spec _ _) ?_
 have g3':((s.okB&&(if k=0 then decide (s.demand=0)&&decide (s.service=0)
  else if (k:Int)≤x.pairs then inB 1 1000 s.demand
  else decide (s.demand=IntKind.i64.wrap (-(x.stops.getD (k-x.pairs.toNat) ⟨0,0,0,0,0,0⟩).demand))))&&allFrom x.stopB (k+1) (x.stops.drop (k+1)))=r:=g3
 clear g3
 refine K_run hB 60 ?_
 simp [go_sem]
 refine K_drawn [] rfl (by rw [hB];kernel_rfl) ?_
 by_cases c1:s.okB=true
 rotate_left
 ·have c1':s.okB=false:=by simpa using c1
  have:r=false:=by rw [←g3',c1'];rfl
  rw [c1']
  refine K_run hB 100 ?_
  simp [go_sem,this]
 rw [c1]
 rw [c1,Bool.true_and,hp] at g3'
 by_cases k0:k=0
 ·subst k0
  rw [if_pos rfl] at g3'
  by_cases d1:s.demand=0
  ·by_cases d2:s.service=0
   ·simp only [d1,d2,decide_true,Bool.true_and] at g3'
    refine K_run hB 100 ?_
    have hp0:¬(p:Int)<0:=by omega
    simp [go_sem,d1,d2,hp0]
    exact Next.mk 1 ⟨by omega,g3'⟩ (Sub.of (by omega) (by simp) (by simp [go_sem,w64 1 (by omega)]) (by simp [go_sem])) (by omega)
   ·have:r=false:=by rw [←g3'];simp [d2]
    refine K_run hB 100 ?_
    simp [go_sem,d1,d2,this]
  ·have:r=false:=by rw [←g3'];simp [d1]
   refine K_run hB 100 ?_
   simp [go_sem,d1,this]
 rw [if_neg k0] at g3'
 have k0':¬(k:Int)=0:=by omega
 have k00:0<k:=by omega
 by_cases kp:(k:Int)≤p
 ·rw [if_pos kp] at g3'
  have kp':¬(p:Int)<k:=by omega
  have kpn:k≤p:=by omega
  have kpn':¬p<k:=by omega
  by_cases c5:inB 1 1000 s.demand=true
  ·rw [c5,Bool.true_and] at g3'
   rw [c5]
   refine K_run hB 100 ?_
   simp [go_sem,k0,k0',k00,kp,kp',kpn,kpn',hkk]
   exact Next.mk (k+1) ⟨by omega,g3'⟩ (Sub.of (by omega) (by simp) (by simp [go_sem]) (by simp [go_sem])) (by omega)
  ·have c1':inB 1 1000 s.demand=false:=by simpa using c5
   have:r=false:=by rw [←g3',c1'];rfl
   rw [c1']
   refine K_run hB 100 ?_
   simp [go_sem,k0,k0',k00,kp,kp',kpn,kpn',this]
 ·rw [if_neg kp] at g3'
  have hi:k-p<x.stops.length:=by omega
  have e1:(p:Int).toNat=p:=Int.toNat_natCast p
  have e2:x.stops.getD (k-p) ⟨0,0,0,0,0,0⟩=x.stops[k-p]:=by simp [List.getD_eq_getElem?_getD,List.getElem?_eq_getElem hi]
  rw [e1,e2] at g3'
  have w3:IntKind.i64.wrap ((k:Int)-p)=((k-p:Nat):Int):=by rw [w64 ((k:Int)-p) (by omega)];omega
  have kp':(p:Int)<k:=by omega
  have kpn:¬k≤p:=by omega
  have kpn':p<k:=by omega
  by_cases c5:s.demand=IntKind.i64.wrap (-x.stops[k-p].demand)
  ·simp only [c5,decide_true,Bool.true_and] at g3'
   refine K_run hB 100 ?_
   simp [go_sem,k0,k0',k00,kp,kp',kpn,kpn',w3,hi,Stop.t,c5,hkk]
   exact Next.mk (k+1) ⟨by omega,g3'⟩ (Sub.of (by omega) (by simp) (by simp [go_sem]) (by simp [go_sem])) (by omega)
  ·have:r=false:=by rw [←g3'];simp [c5]
   refine K_run hB 100 ?_
   simp [go_sem,k0,k0',k00,kp,kp',kpn,kpn',w3,hi,Stop.t,this,c5]
end Go.Proofs.YtnoifgjiipgpoaaGreat

set_option maxRecDepth 4000
namespace Go.Proofs.YtnoifgjiipgpoaaGreat
open Go Go.Proofs.YtnoifgjiipgpoaaGreat.R
def clip (n:Int):Int:=min (max n 0) 10000
theorem clip_in (n:Int):0≤clip n∧clip n≤10000:=by unfold clip;omega
def fl (n:Int):Nat:=FloatKind.nearest .f64 (clip n)
theorem fl_holds (n:Int):Holds (fl n) (clip n):=nearest_holds _ (by have:=clip_in n;omega)
def sq (a b:Stop):Int:=(clip a.x-clip b.x)*(clip a.x-clip b.x)+(clip a.y-clip b.y)*(clip a.y-clip b.y)
def far (a b:Stop):Int:=rootI (sq a b)
theorem sq_in (a b:Stop):0≤sq a b∧sq a b≤200000000:=by
 have h:∀p:Int,-10000≤p∧p≤10000→0≤p*p∧p*p≤100000000:=fun p hp=>by
  have e:p*p=((p.natAbs*p.natAbs:Nat):Int):=by rw [Int.natCast_mul,←Int.natAbs_mul_self']
  have:=Nat.mul_le_mul (show p.natAbs≤10000 by omega) (show p.natAbs≤10000 by omega)
  rw [e];omega
 have h1:=h (clip a.x-clip b.x) (by have:=clip_in a.x;have:=clip_in b.x;omega)
 have h2:=h (clip a.y-clip b.y) (by have:=clip_in a.y;have:=clip_in b.y;omega)
 unfold sq;omega
theorem clip_pure (n:Int):Pure P 147 [.i n] (.t (.v (.float .f64 (fl n)))):=by
 refine pure_of Tryz.func147 rfl rfl (by simp [Tryz.f147]) (by simp [bnd,bnd.bndL]) (by simp [bnd]) fun B hB hnx=>?_
 simp only [Tryz.f147] at hB ⊢
 refine K_run hB 60 ?_
 simp [go_sem]
 refine K_val rfl (by simp [go_sem,hB]) (gives_toFloat (q:=.i64) (n:=clip n) rfl (by simp [go_sem,clip]) tt3 tt222 rfl) ?_
 refine K_run hB 60 ?_
 simp [go_sem,fl]
theorem place_pure (s:Stop):Pure P 136 [.agg (s.t.map .t)] (.t (.v (.complex .f64 (fl s.x) (fl s.y)))):=by
 refine pure_of Tryz.func136 rfl rfl (by simp [Tryz.f136]) (by simp [bnd,bnd.bndL,Stop.t]) (by simp [bnd]) fun B hB hnx=>?_
 simp only [Tryz.f136] at hB ⊢
 refine K_run hB 60 ?_
 simp [go_sem,Stop.t]
 refine K_drawn [] rfl (by rw [hB];kernel_rfl) ?_
 refine K_run hB 60 ?_
 simp [go_sem]
 refine K_dCallP rfl rfl rfl (args:=[.i s.x]) (f:=147) (by simp [go_sem]) (clip_pure s.x) ?_
 refine K_run hB 60 ?_
 simp [go_sem]
 refine K_dCallP rfl rfl rfl (args:=[.i s.y]) (f:=147) (by simp [go_sem]) (clip_pure s.y) ?_
 refine K_run hB 60 ?_
 simp [go_sem]
 refine K_dVal rfl (gives_complex (a:=fl s.x) (b:=fl s.y) rfl rfl rfl (by simp [go_sem]) (by simp [go_sem])) ?_
 refine K_run hB 60 ?_
 simp [go_sem]
theorem far_pure (a b:Stop):Pure P 117 [.agg (a.t.map .t),.agg (b.t.map .t)] (.i (far a b)):=by
 obtain ⟨re,im,re2,im2,e1,e2,e3⟩:=far_holds (fl_holds a.x) (fl_holds a.y) (fl_holds b.x) (fl_holds b.y) (clip_in _) (clip_in _) (clip_in _) (clip_in _)
 have e4:=toInt_holds e3 (by have:=sq_in a b;unfold sq at this;omega)
 refine pure_of Tryz.func117 rfl rfl (by simp [Tryz.f117]) (by simp [bnd,bnd.bndL,Stop.t]) (by simp [bnd]) fun B hB hnx=>?_
 simp only [Tryz.f117] at hB ⊢
 refine K_run hB 60 ?_
 simp [go_sem,Stop.t]
 refine K_drawn [] rfl (by rw [hB];kernel_rfl) ?_
 refine K_run hB 60 ?_
 simp [go_sem]
 refine K_dCallP rfl rfl rfl (args:=[.agg (a.t.map .t)]) (f:=136) (by simp [go_sem,Stop.t]) (place_pure a) ?_
 refine K_run hB 60 ?_
 simp [go_sem]
 refine K_dCallP rfl rfl rfl (args:=[.agg (b.t.map .t)]) (f:=136) (by simp [go_sem,Stop.t]) (place_pure b) ?_
 refine K_run hB 60 ?_
 simp [go_sem]
 refine K_dVal rfl (gives_csub rfl (by simp [go_sem]) (by simp [go_sem]) e1) ?_
 refine K_run hB 60 ?_
 simp [go_sem]
 refine K_val rfl (by simp [go_sem,hB]) (gives_real (a:=re) (b:=im) rfl rfl rfl (by simp [go_sem])) ?_
 refine K_run hB 60 ?_
 simp [go_sem]
 refine K_val rfl (by simp [go_sem,hB]) (gives_imag (a:=re) (b:=im) rfl rfl rfl (by simp [go_sem])) ?_
 refine K_run hB 60 ?_
 simp [go_sem]
 refine K_val rfl (by simp [go_sem,hB]) (gives_neg (b:=im) rfl (by simp [go_sem])) ?_
 refine K_run hB 60 ?_
 simp [go_sem]
 refine K_val rfl (by simp [go_sem,hB]) (gives_complex (a:=re) (b:=Op.negFloat .f64 im) rfl rfl rfl (by simp [go_sem]) (by simp [go_sem])) ?_
 refine K_run hB 60 ?_
 simp [go_sem]
 refine K_val rfl (by simp [go_sem,hB]) (gives_cmul rfl (by simp [go_sem]) (by simp [go_sem]) e2) ?_
 refine K_run hB 60 ?_
 simp [go_sem]
 refine K_val rfl (by simp [go_sem,hB]) (gives_real (a:=re2) (b:=im2) rfl rfl rfl (by simp [go_sem])) ?_
 refine K_run hB 60 ?_
 simp [go_sem]
 refine K_val rfl (by simp [go_sem,hB]) (gives_toInt (b:=re2) rfl (by simp [go_sem]) tt222 tt3 rfl e4) ?_
 refine K_run hB 60 ?_
 simp [go_sem]
 refine K_call rfl rfl rfl (args:=[.i (sq a b)]) (f:=137) (by simp [go_sem,sq]) (by simp [go_sem,hB]) ((root_pure (sq a b)).spec _ _) ?_
 refine K_run hB 60 ?_
 simp [go_sem,far]
theorem rbound_pure (n:Int):Pure P 155 [.i n] (.i (clip n)):=by
 refine pure_of Tryz.func155 rfl rfl (by simp [Tryz.f155]) (by simp [bnd,bnd.bndL]) (by simp [bnd]) fun B hB hnx=>?_
 simp only [Tryz.f155] at hB ⊢
 by_cases h1:n<0
 ·have:clip n=0:=by unfold clip;omega
  refine K_run hB 60 ?_
  simp [go_sem,h1,this]
 ·by_cases h2:10000<n
  ·have:clip n=10000:=by unfold clip;omega
   refine K_run hB 60 ?_
   simp [go_sem,h1,h2,this]
  ·have:clip n=n:=by unfold clip;omega
   refine K_run hB 60 ?_
   simp [go_sem,h1,h2,this]
theorem rfar_pure (a b:Stop):Pure P 146 [.agg (a.t.map .t),.agg (b.t.map .t)] (.i (far a b)):=by
 refine pure_of Tryz.func146 rfl rfl (by simp [Tryz.f146]) (by simp [bnd,bnd.bndL,Stop.t]) (by simp [bnd]) fun B hB hnx=>?_
 simp only [Tryz.f146] at hB ⊢
 have cx:=clip_in a.x
 have cy:=clip_in a.y
 have dx:=clip_in b.x
 have dy:=clip_in b.y
 have hsq:=sq_in a b
 have h:∀p:Int,-10000≤p∧p≤10000→0≤p*p∧p*p≤100000000:=fun p hp=>by
  have e:p*p=((p.natAbs*p.natAbs:Nat):Int):=by rw [Int.natCast_mul,←Int.natAbs_mul_self']
  have:=Nat.mul_le_mul (show p.natAbs≤10000 by omega) (show p.natAbs≤10000 by omega)
  rw [e];omega
 have q1:=h (clip a.x-clip b.x) (by omega)
 have q2:=h (clip a.y-clip b.y) (by omega)
 have w1:=w64 (clip a.x-clip b.x) (by omega)
 have w2:=w64 (clip a.y-clip b.y) (by omega)
 have w3:=w64 ((clip a.x-clip b.x)*(clip a.x-clip b.x)) (by omega)
 have w4:=w64 ((clip a.y-clip b.y)*(clip a.y-clip b.y)) (by omega)
 have w5:=w64 (sq a b) (by omega)
 have e5:(clip a.x-clip b.x)*(clip a.x-clip b.x)+(clip a.y-clip b.y)*(clip a.y-clip b.y)=sq a b:=rfl
 refine K_run hB 60 ?_
 simp [go_sem,Stop.t]
 refine K_drawn [] rfl (by rw [hB];kernel_rfl) ?_
 refine K_run hB 60 ?_
 simp [go_sem]
 refine K_dCallP rfl rfl rfl (args:=[.i a.x]) (f:=155) (by simp [go_sem]) (rbound_pure a.x) ?_
 refine K_run hB 60 ?_
 simp [go_sem]
 refine K_dCallP rfl rfl rfl (args:=[.i b.x]) (f:=155) (by simp [go_sem]) (rbound_pure b.x) ?_
 refine K_run hB 60 ?_
 simp [go_sem]
 refine K_drawn [] rfl (by rw [hB];kernel_rfl) ?_
 refine K_run hB 60 ?_
 simp [go_sem]
 refine K_dCallP rfl rfl rfl (args:=[.i a.y]) (f:=155) (by simp [go_sem]) (rbound_pure a.y) ?_
 refine K_run hB 60 ?_
 simp [go_sem]
 refine K_dCallP rfl rfl rfl (args:=[.i b.y]) (f:=155) (by simp [go_sem]) (rbound_pure b.y) ?_
 refine K_run hB 60 ?_
 simp [go_sem,w1,w2,w3,w4,e5,w5]
 refine K_call rfl rfl rfl (args:=[.i (sq a b)]) (f:=156) (by simp [go_sem]) (by simp [go_sem,hB]) ((rroot_pure (sq a b)).spec _ _) ?_
 refine K_run hB 60 ?_
 simp [go_sem,far]
end Go.Proofs.YtnoifgjiipgpoaaGreat

set_option maxRecDepth 4000
namespace Go.Proofs.YtnoifgjiipgpoaaGreat
open Go Go.Proofs.YtnoifgjiipgpoaaGreat.R
def byt (l:List Nat):List (List T):=l.map fun (n:Nat)=>[T.v (.int .u8 n)]
theorem byt_len (l:List Nat):(byt l).length=l.length:=List.length_map _
theorem byt_get (l:List Nat) (i:Nat) (h:i<(byt l).length):(byt l)[i]=[.v (.int .u8 (l[i]'(by rwa [byt_len] at h):Nat))]:=by simp [byt]
theorem oput_self {σ:Nat→AObj} {q:Nat} {a:AObj} (h:σ q=a):oput σ q a=σ:=by
 funext i;simp only [oput];split
 ·subst_vars;rfl
 ·rfl
abbrev rdr (b:List Nat) (i:Nat):AObj:=.box [.t (.sl (byt b)),.i i]
def nowN (b:List Nat) (i:Nat):Nat:=b.getD i 10
theorem nowN_lt {b:List Nat} (h:∀c∈b,c<256) (i:Nat):nowN b i<256:=by
 unfold nowN
 rw [List.getD_eq_getElem?_getD]
 cases hb:b[i]? with
 |none=>decide
 |some c=>exact h c (List.mem_of_getElem? hb)
theorem nowN_out {b:List Nat} {i:Nat} (h:b.length≤i):nowN b i=10:=by simp [nowN,h]
theorem now_spec {σ:Nat→AObj} {nx q:Nat} {b:List Nat} {i:Nat} (h:σ q=rdr b i):CallSpec P 96 [.ptr q 0] σ nx (.t (.v (.int .u8 (nowN b i)))) σ nx:=by
 refine (spec_of (P:=P) Tryz.func96 rfl rfl (by simp [Tryz.f96]) fun B hB hnx hσ=>?_).spec
 simp only [Tryz.f96] at hB ⊢
 by_cases hi:(b.length:Int)≤i
 ·have e:=nowN_out (b:=b) (i:=i) (by omega)
  refine K_run hB 60 ?_
  simp [go_sem]
  refine K_drawn [] rfl (by rw [hB];kernel_rfl) ?_
  refine K_run hB 60 ?_
  simp [go_sem,h,byt_len,hi,e]
 ·have hi':i<b.length:=by omega
  have e:nowN b i=b[i]:=by simp [nowN,hi']
  refine K_run hB 60 ?_
  simp [go_sem]
  refine K_drawn [] rfl (by rw [hB];kernel_rfl) ?_
  refine K_run hB 60 ?_
  simp [go_sem,h,byt_len,hi]
  refine K_drawn [] rfl (by rw [hB];kernel_rfl) ?_
  refine K_run hB 60 ?_
  simp [go_sem,h,byt_len,hi',byt_get,e]
def digB (c:Nat):Bool:=decide (48≤c)&&decide (c≤57)
theorem digit_pure (c:Nat):Pure P 97 [.t (.v (.int .u8 c))] (.b (digB c)):=by
 refine pure_of Tryz.func97 rfl rfl (by simp [Tryz.f97]) (by simp [bnd,bnd.bndL]) (by simp [bnd]) fun B hB hnx=>?_
 simp only [Tryz.f97] at hB ⊢
 by_cases h:(48:Int)≤c
 ·have h':48≤c:=by omega
  refine K_run hB 60 ?_
  simp [go_sem,h,h',digB]
  omega
 ·have h':¬48≤c:=by omega
  refine K_run hB 60 ?_
  simp [go_sem,h,h',digB]
def digR (b:List Nat):Nat→Nat→Nat→Nat→Nat×Nat×Nat
 |0,i,n,d=>(n,d,i)
 |f+1,i,n,d=>if digB (nowN b i)=true then digR b f (i+1) (10*n+(nowN b i-48)) (d+1) else (n,d,i)
theorem digR_i (b:List Nat):∀f i n d,i≤(digR b f i n d).2.2∧(digR b f i n d).2.2≤i+f∧d≤(digR b f i n d).2.1∧(digR b f i n d).2.1+i=(digR b f i n d).2.2+d∧(i≤b.length→(digR b f i n d).2.2≤b.length)
 |0,i,n,d=>by simp [digR];omega
 |f+1,i,n,d=>by
  rw [digR]
  split
  ·rename_i h
   have ih:=digR_i b f (i+1) (10*n+(nowN b i-48)) (d+1)
   have hb:i<b.length:=by
    by_cases hi:i<b.length
    ·exact hi
    ·rw [nowN_out (by omega)] at h;exact absurd h (by decide)
   omega
  ·simp;omega
def restR (b:List Nat) (i:Nat):Nat:=if h:i<b.length∧nowN b i≠10 then restR b (i+1) else i
  termination_by b.length-i
theorem restR_ge (b:List Nat) (i:Nat):i≤restR b i:=by
 fun_induction restR b i with
 |case1 i h ih=>omega
 |case2 i h=>omega
def numR (b:List Nat) (next:Nat→List Int→List Int×Bool×Nat) (neg:Bool) (l:List Int) (r:Nat×Nat×Nat):List Int×Bool×Nat:=
 if r.2.1=0∨(nowN b r.2.2≠32∧nowN b r.2.2≠35∧nowN b r.2.2≠10) then ([],false,r.2.2)
 else next r.2.2 (l++[if neg then -(r.1:Int) else r.1])
def lineF (b:List Nat):Nat→Nat→List Int→List Int×Bool×Nat
 |0,i,_=>([],false,i)
 |f+1,i,l=>
  if nowN b i=32 then lineF b f (i+1) l
  else if nowN b i=35 then (l,true,restR b i+1)
  else if nowN b i=10 then (l,true,i+1)
  else numR b (lineF b f) (decide (nowN b i=45)) l (digR b 12 (if nowN b i=45 then i+1 else i) 0 0)
theorem now_hit {b:List Nat} {i:Nat} (h:nowN b i≠10):i<b.length:=by
 by_cases hi:i<b.length
 ·exact hi
 ·exact absurd (nowN_out (by omega)) h
def lineR (b:List Nat) (i:Nat):List Int×Bool×Nat:=lineF b (b.length+1) i []
def lineV (r:List Int×Bool×Nat):AV:=.tup [.t (.sl (ints r.1)),.b r.2.1]
structure LX where
 lb:Nat
 f:Nat
 i:Nat
 n:Nat
 d:Nat
 neg:Bool
 j:Nat
 l:List Int
 σ:Nat→AObj
 nx:Nat
structure LX.I (σ0:Nat→AObj) (nx0 q:Nat) (b:List Nat) (R:List Int×Bool×Nat) (x:LX):Prop where
 go:(x.lb=0∧b.length<x.f+x.i∧lineF b x.f x.i x.l=R)∨(x.lb=3∧x.d≤12∧b.length+x.d≤x.f+x.i∧x.d≤x.i∧x.l.length+x.d≤x.i∧x.n<10^x.d∧numR b (lineF b x.f) x.neg x.l (digR b (12-x.d) x.i x.n x.d)=R)∨(x.lb=1∧(x.l,true,restR b x.i+1)=R)∨(x.lb=2∧(x.l,true,x.i+1)=R)
 le:x.i≤b.length
 len:x.l.length≤x.i
 rd:x.σ q=rdr b x.i
 arr:x.σ x.j= .arr 1 (ints x.l)
 ne:x.j≠q
 jl:nx0≤x.j
 jn:x.j<x.nx
 old:∀y,y<nx0→y≠q→x.σ y=σ0 y
def LX.st (q:Nat) (x:LX):St:=⟨sl ([(0,.ptr q 0),(2,.fsl []),(3,.b false),(4,.ref x.j)]++(if x.lb=3 then [(5,.i x.n),(6,.i x.d),(7,.b x.neg)] else [])),x.σ,x.nx⟩
def LX.m (b:List Nat) (x:LX):Nat:=20*(b.length+1-(if x.lb=3 then x.i-x.d else x.i))+(if x.lb=3 then 12-x.d else if x.lb=0 then 15 else if x.lb=1 then 2 else 1)
theorem pow10 {d n:Nat} (h:n<10^d) (hd:d≤12):n<1000000000000:=Nat.lt_of_lt_of_le h (Nat.pow_le_pow_right (by decide) hd)
theorem line_spec {σ:Nat→AObj} {nx q:Nat} {b:List Nat} {i:Nat} (h:σ q=rdr b i) (hq:q<nx) (hb:b.length≤4096) (hb8:∀c∈b,c<256) (hi:i≤b.length):
  CallSpec P 68 [.ptr q 0] σ nx (lineV (lineR b i)) (oput σ q (rdr b (lineR b i).2.2)) nx:=by
 refine spec_down (P:=P) Tryz.func68 rfl rfl (by simp [Tryz.f68]) hq (by simp [go_sem]) (by simp [go_sem,lineV]) fun hk B hB hnx hσ=>?_
 simp only [Tryz.f68] at hB ⊢
 generalize hR:lineR b i=R
 refine K_after ?_
 have hm:mostLen=4294967296:=rfl
 generalize hpost:(fun (e:Exit) (s:St)=>∃t,Imp B s t∧_)=post
 refine K_run hB 60 ?_
 simp [go_sem]
 refine K_scopeF LX.lb (LX.I σ nx q b R) (LX.st q) (LX.m b) (fun x hx=>?_) ?_ ?_
 ·rcases hx.go with ⟨h,_⟩ | ⟨h,_⟩ | ⟨h,_⟩ | ⟨h,_⟩<;>rw [h]<;>rfl
 ·rintro ⟨lb,f,i,n,d,neg,j,l,σ',nx'⟩ ⟨h1,h2,h3,h4,h5,h6,h7,h8,h9⟩ fall
  have hj0:q≠j:=fun e=>h6 e.symm
  have hii:IntKind.i64.wrap ((i:Int)+1)=((i+1:Nat):Int):=by
   simp only at h2
   rw [w64 ((i:Int)+1) (by omega)];rfl
  simp only at h1 h2 h3 h4 h5 h6 h7 h8 h9
  rcases h1 with ⟨rfl,g1,g2⟩ | ⟨rfl,g1,g2,g3,g4,g5,g6⟩ | ⟨rfl,g1⟩ | ⟨rfl,g1⟩
  ·show Kp P B (.code (tailC _ 0) :: _) _ _ _
   simp [tailC,findLabel]
   obtain ⟨f,rfl⟩:∃f',f=f'+1:=⟨f-1,by omega⟩
   rw [lineF] at g2
   refine K_run hB 100 ?_
   simp [go_sem,LX.st]
   refine K_call rfl rfl rfl (args:=[.ptr q 0]) (f:=96) (by simp [go_sem]) (by simp [go_sem,hB]) (now_spec h4) ?_
   by_cases c1:nowN b i=32
   ·rw [if_pos c1] at g2
    have hlt:=now_hit (b:=b) (i:=i) (by omega)
    rw [c1]
    refine K_run hB 100 ?_
    simp [go_sem,h4,hii]
    refine ⟨⟨0,f,i+1,0,0,false,j,l,_,nx'⟩,⟨.inl ⟨rfl,by simp only;omega,g2⟩,hlt,by simp only;omega,by simp [oput],by simp [oput,h6,h5],h6,h7,h8,?_⟩,rfl,Imp.slots (by simp [go_sem]) rfl rfl,by simp [LX.m];omega⟩
    intro y hy hyq
    simp [oput,hyq,h9 y hy hyq]
   rw [if_neg c1] at g2
   by_cases c2:nowN b i=35
   ·rw [if_pos c2] at g2
    rw [c2]
    refine K_run hB 100 ?_
    simp [go_sem]
    exact ⟨⟨1,f,i,0,0,false,j,l,σ',nx'⟩,⟨.inr (.inr (.inl ⟨rfl,g2⟩)),h2,h3,h4,h5,h6,h7,h8,h9⟩,rfl,Imp.slots (by simp [go_sem]) rfl rfl,by simp [LX.m]⟩
   rw [if_neg c2] at g2
   by_cases c3:nowN b i=10
   ·rw [if_pos c3] at g2
    rw [c3]
    refine K_run hB 100 ?_
    simp [go_sem]
    exact ⟨⟨2,f,i,0,0,false,j,l,σ',nx'⟩,⟨.inr (.inr (.inr ⟨rfl,g2⟩)),h2,h3,h4,h5,h6,h7,h8,h9⟩,rfl,Imp.slots (by simp [go_sem]) rfl rfl,by simp [LX.m]⟩
   rw [if_neg c3] at g2
   have hlt:=now_hit (b:=b) (i:=i) c3
   have d1:¬(nowN b i:Int)=32:=by omega
   have d2:¬(nowN b i:Int)=35:=by omega
   have d3:¬(nowN b i:Int)=10:=by omega
   refine K_run hB 100 ?_
   simp [go_sem,d1,d2,d3,c1,c2,c3]
   refine K_call rfl rfl rfl (args:=[.ptr q 0]) (f:=96) (by simp [go_sem]) (by simp [go_sem,hB]) (now_spec h4) ?_
   by_cases c4:nowN b i=45
   ·rw [if_pos c4,decide_eq_true c4] at g2
    rw [c4]
    refine K_run hB 21 ?_
    simp [go_sem,h4,hii]
    refine fall 3 _ ⟨⟨3,f,i+1,0,0,true,j,l,oput σ' q (rdr b (i+1)),nx'⟩,⟨.inr (.inl ⟨rfl,by simp,by simp only;omega,by simp,by simp only;omega,by simp,g2⟩),hlt,by simp only;omega,by simp [oput],by simp [oput,h6,h5],h6,h7,h8,?_⟩,rfl,Imp.slots (by simp [go_sem]) rfl rfl,by simp [LX.m];omega⟩
    intro y hy hyq
    simp [oput,hyq,h9 y hy hyq]
   ·rw [if_neg c4,decide_eq_false c4] at g2
    have d4:¬(nowN b i:Int)=45:=by omega
    refine K_run hB 12 ?_
    simp [go_sem,c4,d4]
    exact fall 3 _ ⟨⟨3,f,i,0,0,false,j,l,σ',nx'⟩,⟨.inr (.inl ⟨rfl,by simp,by simp only;omega,by simp,by simp only;omega,by simp,g2⟩),h2,h3,h4,h5,h6,h7,h8,h9⟩,rfl,Imp.slots (by simp [go_sem]) rfl rfl,by simp [LX.m]⟩
  ·show Kp P B (.code (tailC _ 3) :: _) _ _ _
   simp [tailC,findLabel]
   refine K_run hB 100 ?_
   simp [go_sem,LX.st]
   refine K_call rfl rfl rfl (args:=[.ptr q 0]) (f:=96) (by simp [go_sem]) (by simp [go_sem,hB]) (now_spec h4) ?_
   have hc8:=nowN_lt hb8 i
   refine K_run hB 100 ?_
   simp [go_sem]
   refine K_call rfl rfl rfl (args:=[.t (.v (.int .u8 (nowN b i)))]) (f:=97) (by simp [go_sem]) (by simp [go_sem,hB]) ((digit_pure (nowN b i)).spec _ _) ?_
   by_cases hgo:digB (nowN b i)=true∧d<12
   ·obtain ⟨hdig,hd12⟩:=hgo
    have hd12':(d:Int)<12:=by omega
    have hlt:i<b.length:=now_hit (fun e=>by rw [e] at hdig;exact absurd hdig (by decide))
    have hdg:48≤nowN b i∧nowN b i≤57:=by simpa [digB] using hdig
    rw [show 12-d=(12-(d+1))+1 by omega,digR,if_pos hdig] at g6
    rw [hdig]
    have hn:=pow10 g5 g1
    have w1:IntKind.i64.wrap (10*(n:Int))=10*n:=w64 _ (by omega)
    have w2:IntKind.u8.wrap ((nowN b i:Int)-48)=((nowN b i-48:Nat):Int):=by rw [u8w _ (by omega)];omega
    have w3:IntKind.i64.wrap ((nowN b i-48:Nat):Int)=((nowN b i-48:Nat):Int):=w64n _ (by omega)
    have w4:IntKind.i64.wrap (10*(n:Int)+((nowN b i-48:Nat):Int))=((10*n+(nowN b i-48):Nat):Int):=by rw [w64 _ (by omega)];omega
    have w5:IntKind.i64.wrap ((d:Int)+1)=((d+1:Nat):Int):=by rw [w64 _ (by omega)];rfl
    refine K_run hB 100 ?_
    simp [go_sem,hd12',hd12,w1,w2,w3,w4,w5,h4,hii]
    refine ⟨⟨3,f,i+1,10*n+(nowN b i-48),d+1,neg,j,l,_,nx'⟩,⟨.inr (.inl ⟨rfl,(show d+1≤12 by omega),(show b.length+(d+1)≤f+(i+1) by omega),(show d+1≤i+1 by omega),(show l.length+(d+1)≤i+1 by omega),(show 10*n+(nowN b i-48)<10^(d+1) by rw [Nat.pow_succ];omega),g6⟩),hlt,by simp only;omega,by simp [oput],by simp [oput,h6,h5],h6,h7,h8,?_⟩,rfl,Imp.slots (by simp [go_sem]) rfl rfl,by simp [LX.m];omega⟩
    intro y hy hyq
    simp [oput,hyq,h9 y hy hyq]
   have hstop:digR b (12-d) i n d=(n,d,i):=by
    by_cases hd:d<12
    ·have hdig:¬digB (nowN b i)=true:=fun e=>hgo ⟨e,hd⟩
     rw [show 12-d=(12-(d+1))+1 by omega,digR,if_neg hdig]
    ·rw [show 12-d=0 by omega,digR]
   rw [hstop] at g6
   have hgo2:(digB (nowN b i)&&decide ((d:Int)<12))=false:=by
    cases hdig:digB (nowN b i)
    ·rfl
    ·have:¬(d:Int)<12:=fun e=>hgo ⟨hdig,by omega⟩
     simp [this]
   have hskip:∃bb cc:Bool,digB (nowN b i)=bb∧decide ((d:Int)<12)=cc∧(bb&&cc)=false:=⟨_,_,rfl,rfl,hgo2⟩
   obtain ⟨bb,cc,hbb,hcc,hbc⟩:=hskip
   rw [hbb]
   cases bb
   ·refine K_run hB 100 ?_
    simp [go_sem]
    refine K_call rfl rfl rfl (args:=[.ptr q 0]) (f:=96) (by simp [go_sem]) (by simp [go_sem,hB]) (now_spec h4) ?_
    by_cases hd0:d=0
    ·have hRf:R=([],false,i):=by rw [←g6,numR,if_pos (.inl hd0)]
     refine K_run hB 100 ?_
     simp [go_sem,hd0]
     rw [←hpost]
     refine ⟨_,Imp.loose,.inl rfl,?_⟩
     simp [go_sem,hRf,lineV,h4,ints,loosen]
     exact ⟨by omega,fun y hy hyq=>h9 y hy hyq⟩
    by_cases hbad:nowN b i≠32∧nowN b i≠35∧nowN b i≠10
    ·have hRf:R=([],false,i):=by rw [←g6,numR,if_pos (.inr hbad)]
     obtain ⟨e1,e2,e3⟩:=hbad
     have d1:¬(nowN b i:Int)=32:=by omega
     have d2:¬(nowN b i:Int)=35:=by omega
     have d3:¬(nowN b i:Int)=10:=by omega
     refine K_run hB 100 ?_
     simp [go_sem,hd0,d1,d2,d3,e1,e2,e3]
     rw [←hpost]
     refine ⟨_,Imp.loose,.inl rfl,?_⟩
     simp [go_sem,hRf,lineV,h4,ints,loosen]
     exact ⟨by omega,fun y hy hyq=>h9 y hy hyq⟩
    rw [numR,if_neg (by rintro (e | e);exact hd0 e;exact hbad e)] at g6
    have hlen:(ints l).length=l.length:=List.length_map _
    have hcap:l.length+1≤mostLen:=by omega
    have hn:=pow10 g5 g1
    have w6:IntKind.i64.wrap (-(n:Int))= -(n:Int):=w64 _ (by omega)
    have hso:∀z:Int,ints l++[[.i z]]=ints (l++[z]):=fun z=>by simp [ints]
    rcases (by omega:nowN b i=32∨nowN b i=35∨nowN b i=10) with e1 | e1 | e1
    all_goals
     rw [e1]
     cases neg
     all_goals
      refine K_run hB 100 ?_
      simp [go_sem,hd0,h5,hlen,hcap,w6]
    all_goals first
     |refine ⟨⟨0,f,i,0,0,false,nx',l++[(n:Int)],_,nx'+1⟩,⟨.inl ⟨rfl,(show b.length<f+i by omega),g6⟩,h2,(show (l++[(n:Int)]).length≤i by rw [List.length_append];simp only [List.length_cons,List.length_nil];omega),?_,(by simp only [oput,if_true];rw [hso]),(show nx'≠q by omega),(show nx≤nx' by omega),(show nx'<nx'+1 by omega),?_⟩,rfl,Imp.slots (by simp [go_sem]) rfl rfl,by simp [LX.m];omega⟩
     |refine ⟨⟨0,f,i,0,0,false,nx',l++[-(n:Int)],_,nx'+1⟩,⟨.inl ⟨rfl,(show b.length<f+i by omega),g6⟩,h2,(show (l++[-(n:Int)]).length≤i by rw [List.length_append];simp only [List.length_cons,List.length_nil];omega),?_,(by simp only [oput,if_true];rw [hso]),(show nx'≠q by omega),(show nx≤nx' by omega),(show nx'<nx'+1 by omega),?_⟩,rfl,Imp.slots (by simp [go_sem]) rfl rfl,by simp [LX.m];omega⟩
    all_goals first
     |(simp [oput,hj0,h4,show q≠nx' by omega];done)
     |(intro y hy hyq
       simp [oput,show y≠nx' by omega,show y≠j by omega]
       exact h9 y hy hyq)
   ·have hd:¬(d:Int)<12:=by cases cc<;>simp_all
    refine K_run hB 100 ?_
    simp [go_sem,hd]
    refine K_call rfl rfl rfl (args:=[.ptr q 0]) (f:=96) (by simp [go_sem]) (by simp [go_sem,hB]) (now_spec h4) ?_
    by_cases hd0:d=0
    ·have hRf:R=([],false,i):=by rw [←g6,numR,if_pos (.inl hd0)]
     refine K_run hB 100 ?_
     simp [go_sem,hd0]
     rw [←hpost]
     refine ⟨_,Imp.loose,.inl rfl,?_⟩
     simp [go_sem,hRf,lineV,h4,ints,loosen]
     exact ⟨by omega,fun y hy hyq=>h9 y hy hyq⟩
    by_cases hbad:nowN b i≠32∧nowN b i≠35∧nowN b i≠10
    ·have hRf:R=([],false,i):=by rw [←g6,numR,if_pos (.inr hbad)]
     obtain ⟨e1,e2,e3⟩:=hbad
     have d1:¬(nowN b i:Int)=32:=by omega
     have d2:¬(nowN b i:Int)=35:=by omega
     have d3:¬(nowN b i:Int)=10:=by omega
     refine K_run hB 100 ?_
     simp [go_sem,hd0,d1,d2,d3,e1,e2,e3]
     rw [←hpost]
     refine ⟨_,Imp.loose,.inl rfl,?_⟩
     simp [go_sem,hRf,lineV,h4,ints,loosen]
     exact ⟨by omega,fun y hy hyq=>h9 y hy hyq⟩
    rw [numR,if_neg (by rintro (e | e);exact hd0 e;exact hbad e)] at g6
    have hlen:(ints l).length=l.length:=List.length_map _
    have hcap:l.length+1≤mostLen:=by omega
    have hn:=pow10 g5 g1
    have w6:IntKind.i64.wrap (-(n:Int))= -(n:Int):=w64 _ (by omega)
    have hso:∀z:Int,ints l++[[.i z]]=ints (l++[z]):=fun z=>by simp [ints]
    rcases (by omega:nowN b i=32∨nowN b i=35∨nowN b i=10) with e1 | e1 | e1
    all_goals
     rw [e1]
     cases neg
     all_goals
      refine K_run hB 100 ?_
      simp [go_sem,hd0,h5,hlen,hcap,w6]
    all_goals first
     |refine ⟨⟨0,f,i,0,0,false,nx',l++[(n:Int)],_,nx'+1⟩,⟨.inl ⟨rfl,(show b.length<f+i by omega),g6⟩,h2,(show (l++[(n:Int)]).length≤i by rw [List.length_append];simp only [List.length_cons,List.length_nil];omega),?_,(by simp only [oput,if_true];rw [hso]),(show nx'≠q by omega),(show nx≤nx' by omega),(show nx'<nx'+1 by omega),?_⟩,rfl,Imp.slots (by simp [go_sem]) rfl rfl,by simp [LX.m];omega⟩
     |refine ⟨⟨0,f,i,0,0,false,nx',l++[-(n:Int)],_,nx'+1⟩,⟨.inl ⟨rfl,(show b.length<f+i by omega),g6⟩,h2,(show (l++[-(n:Int)]).length≤i by rw [List.length_append];simp only [List.length_cons,List.length_nil];omega),?_,(by simp only [oput,if_true];rw [hso]),(show nx'≠q by omega),(show nx≤nx' by omega),(show nx'<nx'+1 by omega),?_⟩,rfl,Imp.slots (by simp [go_sem]) rfl rfl,by simp [LX.m];omega⟩
    all_goals first
     |(simp [oput,hj0,h4,show q≠nx' by omega];done)
     |(intro y hy hyq
       simp [oput,show y≠nx' by omega,show y≠j by omega]
       exact h9 y hy hyq)
  ·show Kp P B (.code (tailC _ 1) :: _) _ _ _
   simp [tailC,findLabel]
   refine K_run hB 100 ?_
   simp [go_sem,LX.st]
   refine K_call rfl rfl rfl (args:=[.ptr q 0]) (f:=96) (by simp [go_sem]) (by simp [go_sem,hB]) (now_spec h4) ?_
   by_cases c1:nowN b i=10
   ·have hr:restR b i=i:=by rw [restR,dif_neg (by rintro ⟨_,e⟩;exact e c1)]
    rw [hr] at g1
    rw [c1]
    refine K_run hB 4 ?_
    simp [go_sem]
    exact fall 2 _ ⟨⟨2,f,i,0,0,false,j,l,σ',nx'⟩,⟨.inr (.inr (.inr ⟨rfl,g1⟩)),h2,h3,h4,h5,h6,h7,h8,h9⟩,rfl,Imp.slots (by simp [go_sem]) rfl rfl,by simp [LX.m]⟩
   ·have hlt:=now_hit c1
    have hr:restR b i=restR b (i+1):=by rw [restR,dif_pos ⟨hlt,c1⟩]
    rw [hr] at g1
    have d1:¬(nowN b i:Int)=10:=by omega
    refine K_run hB 100 ?_
    simp [go_sem,c1,d1,h4,hii]
    refine ⟨⟨1,f,i+1,0,0,false,j,l,_,nx'⟩,⟨.inr (.inr (.inl ⟨rfl,g1⟩)),hlt,by simp only;omega,by simp [oput],by simp [oput,h6,h5],h6,h7,h8,?_⟩,rfl,Imp.slots (by simp [go_sem]) rfl rfl,by simp [LX.m];omega⟩
    intro y hy hyq
    simp [oput,hyq,h9 y hy hyq]
  ·show Kp P B (.code (tailC _ 2) :: _) _ _ _
   simp [tailC,findLabel]
   refine K_run hB 100 ?_
   simp [go_sem,LX.st,h4,hii]
   rw [←hpost]
   refine ⟨_,Imp.freeze (q:=j) (sz:=1) (es:=ints l) (by simp [go_sem,h6,h5]),.inl rfl,?_⟩
   simp [go_sem,frz1,frzO,←g1,lineV,hj0]
   refine ⟨by omega,by simp [frz1.frzL,frz1],fun y hy hyq=>?_⟩
   have hyj:y≠j:=by omega
   rw [if_neg hyj,if_neg hyq,h9 y hy hyq]
   rcases hk y with e | ⟨e,_⟩
   ·rw [e]
   ·exact frzO_id (q:=j) (es:=ints l) (by omega) (σ y) e
 ·intro J hJ
  refine K_run hB 13 ?_
  simp [go_sem]
  refine K_own 4 1 (by simp [go_sem]) ?_
  refine hJ 0 _ ⟨⟨0,b.length+1,i,0,0,false,nx,[],_,nx+1⟩,⟨.inl ⟨rfl,by simp only;omega,hR⟩,hi,by simp,?_,by simp [oput,ints],by simp only;omega,Nat.le_refl _,by simp,?_⟩,rfl,Imp.slots (by simp [go_sem]) rfl rfl⟩
  ·simp [oput,h];omega
  ·intro y hy _;simp [oput];omega
end Go.Proofs.YtnoifgjiipgpoaaGreat

set_option maxRecDepth 4000
namespace Go.Proofs.YtnoifgjiipgpoaaGreat
open Go Go.Proofs.YtnoifgjiipgpoaaGreat.R
theorem restR_le (b:List Nat) (i:Nat) (h:i≤b.length):restR b i≤b.length:=by
 fun_induction restR b i with
 |case1 i h ih=>exact ih (by omega)
 |case2 i h2=>exact h
theorem lineF_in (b:List Nat):∀f i l,i≤b.length→(lineF b f i l).2.1=true→i<(lineF b f i l).2.2∧(lineF b f i l).2.2≤b.length+1
 |0,i,l,_,h=>by simp [lineF] at h
 |f+1,i,l,hi,h=>by
  rw [lineF] at h ⊢
  split at h
  ·rename_i c1
   rw [if_pos c1]
   have:=lineF_in b f (i+1) l (now_hit (by omega)) h
   omega
  ·rename_i c1
   rw [if_neg c1]
   split at h
   ·rename_i c2
    rw [if_pos c2]
    have h1:=restR_ge b i
    have h2:=restR_le b i hi
    simp only;omega
   ·rename_i c2
    rw [if_neg c2]
    split at h
    ·rename_i c3
     rw [if_pos c3]
     simp only;omega
    ·rename_i c3
     rw [if_neg c3]
     have hlt:=now_hit c3
     have hr:=digR_i b 12 (if nowN b i=45 then i+1 else i) 0 0
     generalize digR b 12 (if nowN b i=45 then i+1 else i) 0 0=r at *
     unfold numR at h ⊢
     split at h
     ·simp at h
     ·rename_i c4
      rw [if_neg c4]
      have hr5:r.2.2≤b.length:=hr.2.2.2.2 (by split<;>omega)
      have hr6:i≤r.2.2:=by have:=hr.1;split at this<;>omega
      have:=lineF_in b f _ _ hr5 h
      omega
theorem lineR_in (b:List Nat) (i:Nat) (hi:i≤b.length) (h:(lineR b i).2.1=true):i<(lineR b i).2.2∧(lineR b i).2.2≤b.length+1:=lineF_in b _ i [] hi h
def linesF (b:List Nat):Nat→Nat→List (List Int)→Option (List (List Int))
 |0,_,a=>some a
 |f+1,i,a=>if i<b.length then (if (lineR b i).2.1=true then linesF b f (lineR b i).2.2 (if (lineR b i).1=[] then a else a++[(lineR b i).1]) else none) else some a
def linesR (b:List Nat):List (List Int)×Int:=if 4096<b.length then ([],6) else match linesF b (b.length+1) 0 [] with
 |none=>([],2)
 |some a=>(a,0)
theorem lines_pure (b:List Nat) (hb:b.length<2^62) (hb8:∀c∈b,c<256):Pure P 35 [.t (.sl (byt b))] (.tup [.t (.sl ((linesR b).1.map rowT)),.i (linesR b).2]):=by
 refine pure_of Tryz.func35 rfl rfl (by simp [Tryz.f35]) (by simp [bnd,bnd.bndL]) (by simp [bnd,bnd.bndL]) fun B hB hnx=>?_
 simp only [Tryz.f35] at hB ⊢
 generalize hR:linesR b=R
 rw [linesR] at hR
 by_cases hbig:(4096:Int)<b.length
 ·rw [if_pos (by omega)] at hR
  subst hR
  refine K_run hB 60 ?_
  simp [go_sem,byt_len,hbig]
 rw [if_neg (by omega)] at hR
 have hm:mostLen=4294967296:=rfl
 refine K_run hB 60 ?_
 simp [go_sem,byt_len,hbig]
 refine K_own 4 1 (by simp [go_sem]) ?_
 refine K_loopP (α:=Nat×Nat×List (List Int)×Nat×(Nat→AObj)×Nat) (fun (f,i,a,j,σ,nx)=>b.length<f+i∧a.length≤i∧i≤b.length+1∧linesF b f i a=linesF b (b.length+1) 0 []∧σ 0=rdr b i∧σ j= .arr 1 (a.map rowT)∧0<j∧j<nx)
  (fun (f,i,a,j,σ,nx)=>⟨sl [(0,.t (.sl (byt b))),(4,.ref j),(5,.ptr 0 0)],σ,nx⟩) (fun x=>b.length+1-x.2.1) (b.length+1,0,[],1,_,2) ?_ (Imp.slots (by simp [go_sem]) rfl rfl) ?_
 ·exact ⟨by omega,by simp,by omega,rfl,by simp [oput],by simp [oput],by omega,by omega⟩
 rintro ⟨f,i,a,j,σ,nx⟩ ⟨g1,g2,g3,g4,g5,g6,g7,g8⟩
 rw [←g4] at hR
 by_cases hi:(i:Int)<b.length
 rotate_left
 ·have hRf:R=(a,0):=by
   rw [←hR]
   cases f with
   |zero=>rfl
   |succ f=>rw [linesF,if_neg (by omega)]
  refine K_run hB 60 ?_
  simp [go_sem,g5,byt_len,hi,g6,hRf]
 have hi':i<b.length:=by omega
 obtain ⟨f,rfl⟩:∃f',f=f'+1:=⟨f-1,by omega⟩
 rw [linesF,if_pos hi'] at hR g4
 have hin:=lineR_in b i (by omega)
 have hsp:=line_spec (σ:=σ) (nx:=nx) (q:=0) (b:=b) (i:=i) g5 (by omega) (by omega) hb8 (by omega)
 generalize lineR b i=r at *
 refine K_run hB 60 ?_
 simp [go_sem,g5,byt_len,hi]
 refine K_call rfl rfl rfl (args:=[.ptr 0 0]) (f:=68) (by simp [go_sem]) (by simp [go_sem,hB]) hsp ?_
 by_cases hok:r.2.1=true
 rotate_left
 ·have hok':r.2.1=false:=by simpa using hok
  rw [if_neg hok] at hR
  have hRf:R=([],2):=hR.symm
  refine K_run hB 60 ?_
  simp [go_sem,lineV,hok',hRf]
 rw [if_pos hok] at hR g4
 have hin:=hin hok
 by_cases hnil:r.1=[]
 ·rw [if_pos hnil] at hR g4
  refine K_run hB 60 ?_
  simp [go_sem,lineV,hok,hnil,ints]
  refine Next.mk (f,r.2.2,a,j,_,nx) ?_ (Imp.slots (by simp [go_sem]) rfl rfl) (by simp only;omega)
  exact ⟨by simp only;omega,by simp only;omega,by simp only;omega,g4,by simp [oput],by simp [oput,show ¬j=0 by omega,g6],g7,g8⟩
 ·rw [if_neg hnil] at hR g4
  have hpos:0<r.1.length:=List.length_pos_iff.2 hnil
  have hcap:a.length+1≤mostLen:=by omega
  refine K_run hB 60 ?_
  simp [go_sem,lineV,hok,ints,hpos,show ¬j=0 by omega,g6,hcap]
  refine Next.mk (f,r.2.2,a++[r.1],nx,_,nx+1) ?_ (Imp.slots (by simp [go_sem]) rfl rfl) (by simp only;omega)
  refine ⟨by simp only;omega,(show (a++[r.1]).length≤r.2.2 by rw [List.length_append];simp only [List.length_cons,List.length_nil];omega),by simp only;omega,g4,?_,?_,by simp only;omega,by simp only;omega⟩
  ·simp [oput,show ¬0=nx by omega,show ¬0=j by omega]
  ·simp [oput,rowT,ints]
end Go.Proofs.YtnoifgjiipgpoaaGreat
