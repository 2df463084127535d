/- Parts of the proof. -/
import Derived.Test.YtnoifgjiipgpoaaGreatDoorMC
import Derived.ProofKit
import Derived.Test.YtnoifgjiipgpoaaGreatDoorProg
import Derived.KernelRfl
set_option linter.all false
set_option maxHeartbeats 4000000
namespace Go.Proofs.YtnoifgjiipgpoaaGreatDoor.R
open Go.RowKit
section
variable {P:Program}
theorem aOF {bl lo hi cap sz:Nat} (h:lo<cap):sliced (some ⟨bl,0,none⟩) lo hi cap sz= .slice (some ⟨bl,lo*sz,none⟩) (hi-lo) (cap-lo):=by rw [sliced,if_neg (by omega)];simp [pC]
theorem aT9 {all:Array Oper} {i n:Nat} {o:Oper} {m:bX} {t e:TypeId} {x ix:Operand} {q lo:Nat} {ik:IntKind} {es:List (List T)} {ie i0:TI} {σ:Nat→aG} {nx:Nat} (ho':all[i]? =some o) (hl:cZ all m o=some true) (ho:o.op= .slice t x (some ix) none none)
  (ht:TT P t=some i0) (hdesc:i0.desc= .slice e) (he:TT P e=some ie) (hx:ev m x= .ref q) (hσ:σ q= .arr ie.size es) (hi:ev m ix= .t (.v (.int ik lo))) (hlo:lo<es.length):cO P n all i m σ nx (.cut q ie.size lo es.length) σ nx:=by
 intro C a w hn hs hsz hrep ro K Q hK;have hops:=jV (m:=m) ho';have hd:bS all i=o.dst:=by simp [bS,ho']
 simp only [fI,wpOpIn,ho',jG ho' hrep hl,if_true];rw [hd] at hK;have rx:=cV hrep x;rw [hops x (by simp [ho,Op.operands]),hx] at rx;have hob:=hs.obj q;rw [hσ] at hob;obtain ⟨hsz',⟨h0,_⟩ | ⟨bl,cap,vs,E,l0,hi',q1,q2,q3,q4,q5,q6,q7⟩⟩:=hob
 ·rw [h0] at hlo;simp at hlo
 generalize hu:a.eval x=u at rx;cases rx with
 |ref hq hh=>
  rw [q2] at hh;cases hh;have ri:=cV hrep ix;rw [hops ix (by simp [ho,Op.operands]),hi] at ri;obtain ⟨hiv,_⟩:=cK ri;have hunt:P.underlying t=some (.slice e):=by rw [←hdesc];exact (cG ht).1
  have hx1:(execOp a.eval o).run P w= .ok (.value (.slice (some ⟨bl,lo*ie.size,none⟩) (es.length-lo) (cap-lo))) w:=by simp only [execOp,ho,hu,hiv,Option.map_some,Option.map_none,Sem.run_bind,aN2 hunt he _ _ _ _ _ (Nat.le_of_lt hlo) q3,Result.andThen_ok,Sem.run_pure,aOF (show lo<cap by omega)]
  exact eW hx1 (hK _ _ C hs hn (bO.refl _ _ _) (.cut hq q1 q2))
theorem aUA {all:Array Oper} {i n:Nat} {o:Oper} {m:bX} {t e:TypeId} {x ix:Operand} {q up:Nat} {ik:IntKind} {es:List (List T)} {ie i0:TI} {σ:Nat→aG} {nx:Nat} (ho':all[i]? =some o) (hl:cZ all m o=some true) (ho:o.op= .slice t x none (some ix) none)
  (ht:TT P t=some i0) (hdesc:i0.desc= .slice e) (he:TT P e=some ie) (hx:ev m x= .ref q) (hσ:σ q= .arr ie.size es) (hi:ev m ix= .t (.v (.int ik up))) (hup:up≤es.length) (hpos:0<es.length):cO P n all i m σ nx (.cut q ie.size 0 up) σ nx:=by
 intro C a w hn hs hsz hrep ro K Q hK;have hops:=jV (m:=m) ho';have hd:bS all i=o.dst:=by simp [bS,ho']
 simp only [fI,wpOpIn,ho',jG ho' hrep hl,if_true];rw [hd] at hK;have rx:=cV hrep x;rw [hops x (by simp [ho,Op.operands]),hx] at rx;have hob:=hs.obj q;rw [hσ] at hob;obtain ⟨hsz',⟨h0,_⟩ | ⟨bl,cap,vs,E,l0,hi',q1,q2,q3,q4,q5,q6,q7⟩⟩:=hob
 ·rw [h0] at hpos;simp at hpos
 generalize hu:a.eval x=u at rx;cases rx with
 |ref hq hh=>
  rw [q2] at hh;cases hh;have ri:=cV hrep ix;rw [hops ix (by simp [ho,Op.operands]),hi] at ri;obtain ⟨hiv,_⟩:=cK ri;have hunt:P.underlying t=some (.slice e):=by rw [←hdesc];exact (cG ht).1
  have hx1:(execOp a.eval o).run P w= .ok (.value (.slice (some ⟨bl,0*ie.size,none⟩) (up-0) (cap-0))) w:=by simp only [execOp,ho,hu,hiv,Option.map_some,Option.map_none,Sem.run_bind,aEM hunt he _ _ _ _ _ (show up≤cap by omega),Result.andThen_ok,Sem.run_pure,aOF (show 0<cap by omega)]
  exact eW hx1 (hK _ _ C hs hn (bO.refl _ _ _) (.cut hq q1 q2))
theorem aPW {C:aZ} {σ:Nat→aG} {w:World} (hs:bC C σ w) {q bl cap n0 lo:Nat} {es ss:List (List T)} {vs:List Value} (hσ:σ q= .arr 1 es) (ho:C.own q=some bl) (hh:C.hdr q= .slice (some ⟨bl,0,none⟩) n0 cap)
  (hlo:lo+ss.length≤es.length) (hlen:vs.length=ss.length) (hrep:∀(j:Nat) (y:List T) (v:Value),ss[j]? =some y→vs[j]? =some v→∃c,y=[c]∧bT w C.imm c v):
  ∃w',(storeCells ⟨bl,lo,none⟩ vs 0).run P w= .ok () w'∧bC C (aB σ q (.arr 1 (es.take lo++(ss++es.drop (lo+ss.length))))) w'∧bO C σ w C (aB σ q (.arr 1 (es.take lo++(ss++es.drop (lo+ss.length))))) w':=by
 obtain ⟨h4,h5,hsz,cur,E,l0,l1,h6,h7,h8,h9⟩:=tC hs hσ ho hh;have hone:∀v∈vs,v.oneCell'=true:=by intro v hv;obtain ⟨k,hk,rfl⟩:=List.getElem_of_mem hv;obtain ⟨c,_,hc⟩:=hrep k ss[k] vs[k] (List.getElem?_eq_getElem _) (List.getElem?_eq_getElem _);exact aEG hc
 obtain ⟨w',cur',e1,e2,e3,e4,e5,e6,e7,e8,e9⟩:=vQ (P:=P) bl lo E l0 l1 vs 0 cur w h6 (by omega) hone (by rw [h7];exact h8);have hd:σ q≠ .dead:=by rw [hσ];exact fun h=>by cases h
 have hk:eD w C.imm w' C.imm:=⟨fun b h=>h,fun b' h=>e5 b' fun e=>hs.sep q bl hd ho (e ▸ h)⟩;have hlen':(es.take lo++(ss++es.drop (lo+ss.length))).length=es.length:=by rw [List.length_append,List.length_take,List.length_append,List.length_drop];omega
 have hrows:∀e∈es.take lo++(ss++es.drop (lo+ss.length)),e.length=1:=by
  intro e he;rcases List.mem_append.1 he with he | he
  ·exact hsz e (List.mem_of_mem_take he)
  rcases List.mem_append.1 he with he | he
  ·obtain ⟨k,hk,rfl⟩:=List.getElem_of_mem he;obtain ⟨c,hc,_⟩:=hrep k ss[k] vs[k] (List.getElem?_eq_getElem _) (List.getElem?_eq_getElem _);rw [hc];rfl
  ·exact hsz e (List.mem_of_mem_drop he)
 obtain ⟨g1,g2⟩:=oR hs hd ho e7 e8 e9 e6 e5 (obj:=.arr 1 (es.take lo++(ss++es.drop (lo+ss.length)))) ⟨hrows,
  .inr ⟨bl,cap,cur',E,l0,l1,ho,by rw [hlen',hh,h4],by omega,e2,by omega,h8,fun j k y c u hy hc hu=>by
   rw [e4] at hu
   have hyl:=hrows y (List.mem_of_getElem? hy)
   have hkl:k<y.length:=(List.getElem?_eq_some_iff.1 hc).1
   have hk0:k=0:=by omega
   subst hk0
   have hj:j<es.length:=by rw [←hlen'];exact (List.getElem?_eq_some_iff.1 hy).1
   by_cases hjn:j<lo
   ·rw [if_neg (by omega)] at hu
    rw [List.getElem?_append_left (by rw [List.length_take];omega),List.getElem?_take,if_pos hjn] at hy
    exact (h9 _ _ _ _ _ hy hc hu).keeps hk
   ·rw [List.getElem?_append_right (by rw [List.length_take];omega),List.length_take,show min lo es.length=lo by omega] at hy
    by_cases hj2:j<lo+ss.length
    ·rw [if_pos (by omega)] at hu
     rw [List.getElem?_append_left (by omega)] at hy
     rw [show j*1+0-(lo+0)=j-lo by omega] at hu
     obtain ⟨c',hc',hr⟩:=hrep (j-lo) y u hy hu
     rw [hc'] at hc
     simp only [List.getElem?_cons_zero,Option.some.injEq] at hc
     subst hc
     exact hr.keeps hk
    ·rw [if_neg (by omega)] at hu
     rw [List.getElem?_append_right (by omega),List.getElem?_drop,show lo+ss.length+(j-lo-ss.length)=j by omega] at hy
     exact (h9 _ _ _ _ _ hy hc hu).keeps hk⟩⟩
 exact ⟨w',e1,g1,g2⟩
theorem aTI {C:aZ} {σ:Nat→aG} {w:World} (hs:bC C σ w) {t t' e ty:TypeId} {ie:TI} {q bl cap n0 lo up k:Nat} {dc sc:Nat} {es:List (List T)} (ht:P.underlying t=some (.slice e)) (he:TT P e=some ie) (h1:ie.size=1) (hσ:σ q= .arr 1 es) (ho:C.own q=some bl) (hh:C.hdr q= .slice (some ⟨bl,0,none⟩) n0 cap)
  (hlo:lo+k≤es.length) (hk:k=Nat.min up (es.length-lo)) (hup:up≤es.length):
  ∃w',(Builtin.copy_ #[t,t'] ty #[.slice (some ⟨bl,lo,none⟩) (es.length-lo) dc,.slice (some ⟨bl,0,none⟩) up sc]).run P w= .ok (goInt k) w'∧bC C (aB σ q (.arr 1 (es.take lo++(es.take k++es.drop (lo+k))))) w'∧bO C σ w C (aB σ q (.arr 1 (es.take lo++(es.take k++es.drop (lo+k))))) w':=by
 obtain ⟨h4,h5,hsz,cur,E,l0,l1,h6,h7,h8,h9⟩:=tC hs hσ ho hh;have hku:k≤up:=by rw [hk];exact Nat.min_le_left _ _
 have hlen:(cur.toList.take k).length=(es.take k).length:=by rw [List.length_take,List.length_take,Array.length_toList,h7];omega
 have hkl:(es.take k).length=k:=by rw [List.length_take];omega
 obtain ⟨w',e1,e2,e3⟩:=aPW (P:=P) (lo:=lo) (ss:=es.take k) (vs:=cur.toList.take k) hs hσ ho hh (by rw [hkl];exact hlo) hlen fun j y v hy hv=>by
  have hj:j<k:=by have:=(List.getElem?_eq_some_iff.1 hy).1;omega
  rw [List.getElem?_take,if_pos hj] at hy hv;have hyl:=hsz y (List.mem_of_getElem? hy)
  obtain ⟨c,rfl⟩:∃c,y=[c]:=by
   match y,hyl with
   |[c],_=>exact ⟨c,rfl⟩
  rw [Array.getElem?_toList] at hv;exact ⟨c,rfl,h9 j 0 [c] c v hy rfl (by simpa using hv)⟩
 rw [hkl] at e2 e3;refine ⟨w',?_,e2,e3⟩
 have hsrc:∀(j:Nat) (v:Value),(cur.toList.take k)[j]? =some v→w.cell? ((⟨bl,0,none⟩:Addr).add j)=some v:=by
  intro j v hv;rw [pC];have hj:j<k:=by have:=(List.getElem?_eq_some_iff.1 hv).1;omega
  rw [List.getElem?_take,if_pos hj,Array.getElem?_toList] at hv;simp [World.cell?,h6,hv]
 have hl:=run_loadCells_list (P:=P) w ⟨bl,0,none⟩ (cur.toList.take k) hsrc;have hkl2:(cur.toList.take k).length=k:=by rw [hlen,hkl]
 rw [hkl2] at hl;have hsize:=gA he (w:=w);rw [h1] at hsize;simp [Builtin.copy_,run_underlying ht,Builtin.lenOf,Builtin.firstCells,hsize,←hk,hl,e1]
theorem aT8 {all:Array Oper} {i n:Nat} {o:Oper} {m:bX} {c:Call} {x y:Operand} {t t' e:TypeId} {i0 ie:TI} {q lo up k:Nat} {es:List (List T)} {σ:Nat→aG} {nx:Nat} (ho':all[i]? =some o) (hl:cZ all m o=some true) (ho:o.op= .call c) (hc:c.callee= .builtin .copy) (ha:c.args= #[x,y]) (hy:c.argTypes= #[t,t'])
  (ht:TT P t=some i0) (hdesc:i0.desc= .slice e) (he:TT P e=some ie) (h1:ie.size=1) (hx:ev m x= .cut q 1 lo es.length) (hyv:ev m y= .cut q 1 0 up) (hσ:σ q= .arr 1 es) (hlo:lo+k≤es.length) (hk:k=Nat.min up (es.length-lo)) (hup:up≤es.length):
  cO P n all i m σ nx (.t (.v (.int .i64 k))) (aB σ q (.arr 1 (es.take lo++(es.take k++es.drop (lo+k))))) nx:=by
 intro C a w hn hs hsz hrep ro K Q hK;have hops:=jV (m:=m) ho';have hd:bS all i=o.dst:=by simp [bS,ho']
 simp only [fI,wpOpIn,ho',jG ho' hrep hl,if_true];rw [hd] at hK;have rx:=cV hrep x;have ry:=cV hrep y;rw [hops x (by simp [ho,Op.operands,Call.operands,ha,hc]),hx] at rx;rw [hops y (by simp [ho,Op.operands,Call.operands,ha,hc]),hyv] at ry;have hunt:P.underlying t=some (.slice e):=by rw [←hdesc];exact (cG ht).1
 generalize hu:a.eval x=u at rx;generalize hv:a.eval y=v at ry;cases rx with
 |@cut _ _ _ _ bl n0 cap b1 b2 b3=>
  cases ry with
  |cut d1 d2 d3=>
   rw [b2] at d2;cases d2;rw [b3] at d3;cases d3;obtain ⟨w',e1,e2,e3⟩:=aTI (P:=P) (t:=t) (t':=t') (ty:=o.type) (dc:=cap-lo) (sc:=cap) hs hunt he h1 hσ b2 b3 hlo hk hup
   have hx2:(execOp a.eval o).run P w= .ok (.value (goInt k)) w':=by
    obtain ⟨dst,op,type,pos,after,guard⟩:=o;simp only at ho;subst ho;simp only at e1;have hv':∀ρ,execOp ρ ⟨dst,.call c,type,pos,after,guard⟩=(do let d ←resolve ρ c type;invoke d.target d.args):=fun ρ=>rfl
    rw [hv'];simp only [resolve,hc,Sem.run_bind,Sem.run_pure,Result.andThen_ok,invoke,builtin,ha,hy,List.map_toArray,List.map_cons,List.map_nil,hu,hv,Nat.mul_one,Nat.sub_zero,Nat.zero_mul,e1]
   exact eW hx2 (hK _ _ C e2 hn e3 (.t (.v rfl)))
theorem aTJ {C:aZ} {σ:Nat→aG} {w:World} (hs:bC C σ w) {t t' e ty:TypeId} {ie:TI} {q bl cap n0 dc:Nat} {es ys:List (List T)} {u:Value} (ht:P.underlying t=some (.slice e)) (he:TT P e=some ie) (h1:ie.size=1) (hσ:σ q= .arr 1 es) (ho:C.own q=some bl) (hh:C.hdr q= .slice (some ⟨bl,0,none⟩) n0 cap)
  (hu:bT w C.imm (.sl ys) u) (hy:∀y∈ys,y.length=1) (hpos:0<ys.length) (hle:ys.length≤es.length):
  ∃w',(Builtin.copy_ #[t,t'] ty #[.slice (some ⟨bl,0,none⟩) es.length dc,u]).run P w= .ok (goInt ys.length) w'∧bC C (aB σ q (.arr 1 (ys++es.drop ys.length))) w'∧bO C σ w C (aB σ q (.arr 1 (ys++es.drop ys.length))) w':=by
 cases hu with
 |nil=>simp at hpos
 |@sl _ ad cap2 sz un h0 hsz hc himm hcell hr=>
  have hsz1:sz=1:=by have a1:=hsz ys[0] (List.getElem_mem _);have a2:=hy ys[0] (List.getElem_mem _);omega
  subst hsz1
  obtain ⟨w',e1,e2,e3⟩:=aPW (P:=P) (lo:=0) (ss:=ys) (vs:=(List.range ys.length).map un) hs hσ ho hh (by omega) (by simp) fun j y v hj hv=>by
   have hjl:=(List.getElem?_eq_some_iff.1 hj).1;rw [List.getElem?_map,List.getElem?_range hjl] at hv;cases hv;have hyl:=hy y (List.mem_of_getElem? hj)
   obtain ⟨c,rfl⟩:∃c,y=[c]:=by
    match y,hyl with
    |[c],_=>exact ⟨c,rfl⟩
   have:=hr j 0 [c] c hj rfl;rw [Nat.mul_one,Nat.add_zero] at this;exact ⟨c,rfl,this⟩
  rw [List.take_zero,List.nil_append,Nat.zero_add] at e2 e3;refine ⟨w',?_,e2,e3⟩
  have hsrc:∀(j:Nat) (v:Value),((List.range ys.length).map un)[j]? =some v→w.cell? (ad.add j)=some v:=by
   intro j v hv;have hjl:j<ys.length:=by have:=(List.getElem?_eq_some_iff.1 hv).1;simpa using this
   rw [List.getElem?_map,List.getElem?_range hjl] at hv;cases hv;exact hcell j (by omega)
  have hl:=run_loadCells_list (P:=P) w ad _ hsrc;have hll:((List.range ys.length).map un).length=ys.length:=by simp
  rw [hll] at hl;have hsize:=gA he (w:=w);rw [h1] at hsize;have hmin:Nat.min ys.length es.length=ys.length:=Nat.min_eq_left hle;simp [Builtin.copy_,run_underlying ht,Builtin.lenOf,Builtin.firstCells,hsize,hmin,hl,e1]
end
section
variable {P:Program} {B:cD} {k:List KI} {R:dZ} {s:St} {all:Array Oper} {o:Oper} {lo:List Nat} {sw:SW} {rest:List (Nat×Oper)} {i:Nat} {pend:List Rc} {v:AV}
theorem nW (hd:all[i]? =some o→cO P B.n all i s.m s.σ s.nx v s.σ s.nx) (ht:fR all lo i=true) (h:Kp P B (.opsD all lo sw rest pend :: k) R .normal ⟨put s.m o.dst v,s.σ,s.nx⟩):Kp P B (.opsD all lo sw ((i,o) :: rest) pend :: k) R .normal s:=
 bZ.at fun ho=>bZ.step (loud:=none) (hd ho) (fun _=>.inr (by
  simp only [fR,List.all_eq_true,Bool.and_eq_true,Bool.or_eq_true,Bool.not_eq_true',decide_eq_false_iff_not] at ht
  exact ⟨fun k hk h=>((ht k hk).1).resolve_left (fun e=>e h),.inl fun k hk h=>((ht k hk).2).resolve_left (fun e=>e h)⟩)) (fun c hc=>by cases hc) (fun _ h=>h) h
theorem wU {σ':Nat→aG} {nx':Nat} (hd:all[i]? =some o→cO P B.n all i s.m s.σ s.nx v σ' nx') (hi:i∈lo) (hp:∀q∈pend,anc all q.i i=true∨cO P B.n all q.i q.m σ' nx' q.v σ' nx')
  (h:Kp P B (.opsD all lo sw rest pend :: k) R .normal ⟨put s.m o.dst v,σ',nx'⟩):Kp P B (.opsD all lo sw ((i,o) :: rest) pend :: k) R .normal s:=
 bZ.at fun ho=>bZ.step (loud:=some (σ',nx')) (hd ho) (fun hc=>by cases hc) (fun c hc=>by cases hc;exact ⟨hi,hp⟩) (fun _ h=>h) h
theorem aP7 {t t' e:TypeId} {x y:Operand} {c:Call} {i0 ie:TI} {q:Nat} {es ys:List (List T)} {ops:List Oper} (hg:o.guard=none) (ho:o.op= .call c) (hc:c.callee= .builtin .copy) (ha:c.args= #[x,y]) (hy:c.argTypes= #[t,t']) (hb:cH B.n o.dst=true)
  (ht:TT P t=some i0) (hdesc:i0.desc= .slice e) (he:TT P e=some ie) (h1:ie.size=1) (hx:ev s.m x= .ref q) (hyv:ev s.m y= .fsl ys) (hσ:s.σ q= .arr 1 es) (hyl:∀y∈ys,y.length=1) (hpos:0<ys.length) (hle:ys.length≤es.length)
  (h:Kp P B (.ops all ops :: k) R .normal ⟨put s.m o.dst (.t (.v (.int .i64 ys.length))),aB s.σ q (.arr 1 (ys++es.drop ys.length)),s.nx⟩):Kp P B (.ops all (o :: ops) :: k) R .normal s:=by
 intro a w hr;obtain ⟨C,g1,g2,g3,g4,g5,g6⟩:=hr;have rx:=cV g2 x;have ry:=cV g2 y;rw [hx] at rx;rw [hyv] at ry;have hob:=g5.obj q;rw [hσ] at hob;obtain ⟨hsz,⟨h0,_⟩ | ⟨bl,cap,vs,E,lo,hi',q1,q2,q3,q4,q5,q6,q7⟩⟩:=hob
 ·rw [h0] at hle;simp at hle;rw [hle] at hpos;simp at hpos
 have hunt:P.underlying t=some (.slice e):=by rw [←hdesc];exact (cG ht).1
 generalize hu:a.eval x=u at rx;generalize hv:a.eval y=v at ry;cases rx with
 |ref hq hh=>
  rw [q2] at hh;cases hh;cases ry with
  |@fsl _ ad hrt=>
   obtain ⟨w',e1,e2,e3⟩:=aTJ (P:=P) (t:=t) (t':=t') (ty:=o.type) (dc:=cap) g5 hunt he h1 hσ q1 q2 hrt hyl hpos hle;refine iO hg fun K hK=>?_
   have hx2:(execOp a.eval o).run P w= .ok (.value (goInt ys.length)) w':=by
    obtain ⟨dst,op,type,pos,after,guard⟩:=o;simp only at ho;subst ho;simp only at e1;have hv':∀ρ,execOp ρ ⟨dst,.call c,type,pos,after,guard⟩=(do let d ←resolve ρ c type;invoke d.target d.args):=fun ρ=>rfl
    rw [hv'];simp only [resolve,hc,Sem.run_bind,Sem.run_pure,Result.andThen_ok,invoke,builtin,ha,hy,List.map_toArray,List.map_cons,List.map_nil,hu,hv,e1]
   refine eW hx2 ?_;have p2:=gM (a:=a) g5 e3 g2 (d:=o.dst) (by rw [g3];exact hb) (v:=.t (.v (.int .i64 ys.length))) (u:=goInt ys.length) (.t (.v rfl));exact hK _ _ (h _ _ ⟨C,g1,p2,by rw [fF];exact g3,by rw [gL];exact g4.step e3,e2,g6.trans e3⟩)
end
end Go.Proofs.YtnoifgjiipgpoaaGreatDoor.R
namespace Go.Proofs.YtnoifgjiipgpoaaGreatDoor.R
open Go.RowKit
section
variable {P:Program}
theorem aXX {C:aZ} {σ:Nat→aG} {w:World} {ρ:Operand→Value} {e:Operand→AV} {o:Oper} (hs:bC C σ w) (hρ:∀z,aN w C (e z) (ρ z)) {t kt et:TypeId} {x ix y:Operand} {it:TI} {m:Nat} {es:List (Value×AV)} {u:Value} (ho:o.op= .mapUpdate t x ix y)
  (ht:TT P t=some it) (hdesc:it.desc= .map kt et) (hk:pO P kt=true) (hx:e x= .mapr m) (hσ:σ m= .map es) (hu:fY (e ix)=some u) (hc:lJ P 10000 kt (e ix)=true) (htell:mE P kt (e ix) u es) (hsame:fC u es=none∨Instr.sameBits 10000 u u=true):
  ∃w',(execOp ρ o).run P w= .ok .skip w'∧bC C (aB σ m (.map (hZ u (e y) es))) w'∧bO C σ w C (aB σ m (.map (hZ u (e y) es))) w':=by
 have hmx:=hρ x;rw [hx] at hmx;obtain ⟨bl,ms,clock,e0,ow,e2,e3,e4⟩:=aDL hs hσ hmx;have hix:=aEH hu (hρ ix);have hy:=hρ y;have hund:P.underlying t=some (.map kt et):=by rw [(cG ht).1,hdesc]
 have hck:(Instr.checkKey false 10000 kt u).run P w= .ok () w:=by
  have:=xR (w:=w) (C:=C) false 10000 kt (e ix) (ρ ix) hc (hρ ix)
  rwa [hix] at this
 obtain ⟨f1,f2⟩:=aCC (w:=w) (C:=C) hk hc hu es ms htell e3 e4;have hlt:bl<w.heap.size:=(Array.getElem?_eq_some_iff.1 e2).1;have hdead:σ m≠ .dead:=by rw [hσ];exact (fun h=>by cases h)
 have fin:∀(ms':Array MapEntry) (clock':Nat),(execOp ρ o).run P w= .ok .skip {w with heap:=w.heap.setIfInBounds bl (.map ms' clock')}→
   ((hZ u (e y) es).length=ms'.size∧∀(k:Nat) (b:Value×AV) (v:MapEntry),(hZ u (e y) es)[k]? =some b→ms'[k]? =some v→v.key=b.1∧aN w C b.2 v.val)→
   ∃w',(execOp ρ o).run P w= .ok .skip w'∧bC C (aB σ m (.map (hZ u (e y) es))) w'∧bO C σ w C (aB σ m (.map (hZ u (e y) es))) w':=by
  intro ms' clock' hrun ⟨l1,l2⟩;have hne:∀b,b≠bl→(w.heap.setIfInBounds bl (.map ms' clock'))[b]? =w.heap[b]?:=fun b hb=>by simp [Array.getElem?_setIfInBounds_ne (Ne.symm hb)]
  have hk0:eD w C.imm {w with heap:=w.heap.setIfInBounds bl (.map ms' clock')} C.imm:=⟨fun _ h=>h,fun b hb=>hne b fun e=>hs.sep m bl hdead ow (e ▸ hb)⟩
  obtain ⟨g1,g2⟩:=oR (w':={w with heap:=w.heap.setIfInBounds bl (.map ms' clock')}) (obj:=.map (hZ u (e y) es)) hs hdead ow rfl rfl rfl (by simp) hne ⟨bl,ms',clock',ow,by simp [hlt],l1,fun k b v hb hv=>by
   obtain ⟨p1,p2⟩:=l2 k b v hb hv
   exact ⟨p1,p2.keeps hk0 ⟨Nat.le_refl _,fun _ _=>rfl,fun _ _=>rfl⟩⟩⟩
  exact ⟨_,hrun,g1,g2⟩
 cases hf:fC u es with
 |none=>
  refine fin (ms.push {key:=u,val:=ρ y,born:=clock}) (clock+1) ?_ ?_
  ·simp only [execOp,ho,Instr.mapUpdate,Sem.run_bind,run_underlying hund,Result.andThen_ok,e0,hix,MapKept.run_getObj_map e2,Sem.run_pure,hck,f1 hf,MapKept.run_setObj_map _ e2]
  ·rw [hZ,hf];refine ⟨by simp [e3],fun k b v hb hv=>?_⟩;simp only at hb;by_cases hk':k<es.length
   ·rw [List.getElem?_append_left hk'] at hb;rw [Array.getElem?_push_lt (by omega)] at hv;exact e4 k b v hb (by rw [Array.getElem?_eq_getElem (by omega)];exact hv)
   ·rw [List.getElem?_append_right (by omega)] at hb;have hk0:k-es.length=0:=by have:=(List.getElem?_eq_some_iff.1 hb).1;simp at this;omega
    have hke:k=ms.size:=by omega
    subst hke;rw [hk0] at hb;simp at hb hv;subst hb;subst hv;exact ⟨rfl,hy⟩
 |some p=>
  obtain ⟨j,b0⟩:=p;obtain ⟨me,g1,g2,g3,g4⟩:=f2 j b0 hf;have hst:=aN5 (P:=P) (w:=w) (hsame.resolve_left (by rw [hf];simp));have hjlt:j<ms.size:=(Array.getElem?_eq_some_iff.1 g1).1;refine fin (ms.modify j fun e=>{e with key:=u,val:=ρ y}) clock ?_ ?_
  ·simp only [execOp,ho,Instr.mapUpdate,Sem.run_bind,run_underlying hund,Result.andThen_ok,e0,hix,MapKept.run_getObj_map e2,Sem.run_pure,hck,g4,g1,Option.map_some,Option.getD_some,g2,hst,MapKept.run_setObj_map _ e2]
  ·rw [hZ,hf];refine ⟨by simp [e3],fun k b v hb hv=>?_⟩;simp only at hb;by_cases hkj:k=j
   ·subst hkj;rw [List.getElem?_set_self (by omega)] at hb;cases hb;rw [Array.getElem?_modify,if_pos rfl,g1] at hv;cases hv;exact ⟨rfl,hy⟩
   ·rw [List.getElem?_set_ne (fun e=>hkj e.symm)] at hb;rw [Array.getElem?_modify,if_neg (fun e=>hkj e.symm)] at hv;exact e4 k b v hb hv
theorem aHX {all:Array Oper} {i n:Nat} {o:Oper} {m:bX} {t kt et:TypeId} {x ix y:Operand} {it:TI} {q:Nat} {es:List (Value×AV)} {u:Value} {σ:Nat→aG} {nx:Nat} (ho':all[i]? =some o) (hl:cZ all m o=some true) (ho:o.op= .mapUpdate t x ix y)
  (ht:TT P t=some it) (hdesc:it.desc= .map kt et) (hk:pO P kt=true) (hx:ev m x= .mapr q) (hσ:σ q= .map es) (hu:fY (ev m ix)=some u) (hc:lJ P 10000 kt (ev m ix)=true) (htell:mE P kt (ev m ix) u es) (hsame:fC u es=none∨Instr.sameBits 10000 u u=true):
  cO P n all i m σ nx (.tup []) (aB σ q (.map (hZ u (ev m y) es))) nx:=by
 intro C a w hn hs hsz hrep ro K Q hK;have hops:=jV (m:=m) ho';have hd:bS all i=o.dst:=by simp [bS,ho']
 simp only [fI,wpOpIn,ho',jG ho' hrep hl,if_true];rw [hd] at hK;have ex:=hops x (by simp [ho,Op.operands]);have eix:=hops ix (by simp [ho,Op.operands]);have ey:=hops y (by simp [ho,Op.operands]);obtain ⟨w',g1,g2,g3⟩:=aXX hs (cV hrep) ho ht hdesc hk (by rw [ex];exact hx) hσ (by rw [eix];exact hu) (by rw [eix];exact hc) (by rw [eix];exact htell) hsame;rw [ey] at g2 g3;exact vK g1 (hK _ _ C g2 hn g3 (.tup rfl (fun k a u h=>by simp at h)))
end
section
variable {P:Program} {B:cD} {s:St}
theorem aQH {α:Type} (I:α→Prop) (st:α→St) {all:Array Oper} {rest:List Oper} {k:List KI} {R:dZ} (h:∃y,I y∧aH B s (st y)) (hk:∀y,I y→Kp P B (.ops all rest :: k) R .normal (st y)):Kp P B (.ops all rest :: k) R .normal s:=by obtain ⟨y,h1,h2⟩:=h;exact iB h2 (hk y h1)
theorem aH.own {t sz:Nat} (h:s.m t= .fsl []):aH B s ⟨put s.m (some t) (.ref s.nx),aB s.σ s.nx (.arr sz []),s.nx+1⟩:=fun _ _ hr=>zI h hr
end
end Go.Proofs.YtnoifgjiipgpoaaGreatDoor.R
namespace Go.Proofs.YtnoifgjiipgpoaaGreatDoor.R
open Go.RowKit
section
variable {P:Program}
def aL4:TypeDesc→Bool
 | .interface _=>false
 |_=>true
def aDJ:TypeDesc→Bool
 | .pointer _=>false
 |_=>true
theorem aB1 {all:Array Oper} {i n:Nat} {o:Oper} {m:bX} {t:TypeId} {d:TypeDesc} {x:Operand} {cs:List T} {σ:Nat→aG} {nx:Nat} (ho':all[i]? =some o) (hl:cZ all m o=some true) (ho:o.op= .makeInterface t x) (hu:P.underlying t=some d) (hd:aL4 d=true) (hx:ev m x= .agg (cs.map .t)):cO P n all i m σ nx (.ifc t cs) σ nx:=by
 intro C a w hn hs hsz hrep ro K Q hK;have hops:=jV (m:=m) ho';have hdd:bS all i=o.dst:=by simp [bS,ho']
 simp only [fI,wpOpIn,ho',jG ho' hrep hl,if_true];rw [hdd] at hK;have rx:=cV hrep x;rw [hops x (by simp [ho,Op.operands]),hx] at rx;generalize hv:a.eval x=v at rx;cases rx with
 |@agg _ vs hlen hr=>
  have hx1:(execOp a.eval o).run P w= .ok (.value (.iface t (.agg vs))) w:=by simp only [execOp,ho,Instr.makeInterface,Sem.run_bind,run_underlying hu,Result.andThen_ok,hv];cases d<;>first | (simp [aL4] at hd;done) | simp [Sem.run_pure]
  refine eW hx1 (hK _ _ C hs hn (bO.refl _ _ _) (.ifc (by simpa using hlen) fun k c u hc hu=>?_));have:=hr k (.t c) u (by rw [List.getElem?_map,hc];rfl) hu;cases this with
  |t h=>exact h
theorem aX3 {fuel:Nat} {t:TypeId} {vs:Array Value} {name:String} {info:TypeInfo} {mm:Method} {f:FuncId} {d:TypeDesc} {w:World} (hi:P.info? t=some info) (hf:(info.methods.find? fun m=>m.name==name)=some mm) (hp:mm.path= #[]) (hm:mm.func=some (f,false)) (hu:P.underlying t=some d) (hd:aDJ d=true):
  (method (fuel+1) t (.agg vs) name).run P w= .ok (f,.agg vs) w:=by
 have hti:(typeInfo t).run P w= .ok info w:=by simp [typeInfo,hi]
 simp only [method,Sem.run_bind,hti,Result.andThen_ok,hf,hp,List.toList_toArray,follow,Sem.run_pure,hm,receiverAt,run_underlying hu];cases d<;>first | (simp [aDJ] at hd;done) | simp [Sem.run_pure,Place.get]
theorem aB2 {all:Array Oper} {i n:Nat} {o:Oper} {m:bX} {c:Call} {r y:Operand} {name:String} {t:TypeId} {d:TypeDesc} {cs:List T} {info:TypeInfo} {mm:Method} {f:FuncId} {av res:AV} {σ:Nat→aG} {nx:Nat} (ho':all[i]? =some o) (hl:cZ all m o=some true) (ho:o.op= .call c) (hc:c.callee= .invoke r name) (ha:c.args= #[y])
  (hi:P.info? t=some info) (hf:(info.methods.find? fun m=>m.name==name)=some mm) (hp:mm.path= #[]) (hm:mm.func=some (f,false)) (hu:P.underlying t=some d) (hd:aDJ d=true) (hr:ev m r= .ifc t cs) (hy:ev m y=av) (spec:aT P f [.agg (cs.map .t),av] σ nx res σ nx):
  cO P n all i m σ nx res σ nx:=by
 intro C a w hn hs hsz hrep ro K Q hK;obtain ⟨hg,spec⟩:=spec;have hops:=jV (m:=m) ho';have hdd:bS all i=o.dst:=by simp [bS,ho']
 simp only [fI,wpOpIn,ho',jG ho' hrep hl,if_true];rw [hdd] at hK;have rr:=cV hrep r;have ry:=cV hrep y;rw [hops r (by simp [ho,Op.operands,Call.operands,hc]),hr] at rr;rw [hops y (by simp [ho,Op.operands,Call.operands,hc,ha]),hy] at ry;generalize hv:a.eval r=v at rr;generalize hw:a.eval y=u at ry;cases rr with
 |@ifc _ _ vs hlen hcs=>
  have hrl:kC w C [.agg (cs.map .t),av] [.agg vs,u]:=by
   refine ⟨rfl,fun k x z hx hz=>?_⟩
   match k with
   |0=>
    simp at hx hz;subst hx;subst hz;refine .agg (by simpa using hlen) fun k a u ha hu=>?_
    rw [List.getElem?_map] at ha;obtain ⟨b,hb,rfl⟩:=Option.map_eq_some_iff.1 ha;exact .t (hcs k b u hb hu)
   |1=>simp at hx hz;subst hx;subst hz;exact ry
   |k+2=>simp at hx
  have hcall:=spec C w _ hs hn hrl
  have hrun:(execOp a.eval o).run P w= .ok (.enter f #[.agg vs,u]) w:=by
   unfold mN at hg;cases hfn:P.funcs[f]? with
   |none=>rw [hfn] at hg;cases hg
   |some fn=>
    rw [hfn] at hg;simp only [Bool.and_eq_true,Bool.not_eq_true'] at hg;have e1:fn.body.isNone=false:=by rw [←Option.not_isSome,hg.2];rfl
    have hmr:=fun fuel=>aX3 (P:=P) (w:=w) (vs:=vs) (fuel:=fuel) hi hf hp hm hu hd
    have hdep:P.types.size+Made.depth=(P.types.size+99)+1:=rfl;simp only [execOp,ho,resolve,hc,Sem.run_bind,Sem.run_pure,Result.andThen_ok,invoke,ha,hv,hw,callMethod,run_program,callFunc];have e2:(#[Value.iface t (.agg vs)]++Array.map a.eval #[y])[0]? =some (.iface t (.agg vs)):=by simp
    rw [e2];simp only [Sem.run_bind,run_program,Result.andThen_ok,hdep,hmr,hfn,hg.1,e1,Bool.false_eq_true,if_false,Sem.run_pure];simp [hw]
  refine aDY hrun ?_;refine hcall.mono ?_;rintro e w' ⟨C',v,rfl,g1,g2,g3,g4⟩;exact ⟨v,rfl,hK _ _ C' g1 g2 g4 g3⟩
end
end Go.Proofs.YtnoifgjiipgpoaaGreatDoor.R
namespace Go.Proofs.YtnoifgjiipgpoaaGreatDoor.R
open Go.RowKit
section
variable {P:Program}
theorem aUB {all:Array Oper} {i n0:Nat} {o:Oper} {m:bX} {t e:TypeId} {x ix:Operand} {q n sz:Nat} {ie i0:TI} {es:List (List T)} {ik:IntKind} {σ:Nat→aG} {nx:Nat} (ho':all[i]? =some o) (hl:cZ all m o=some true) (h1:o.op= .slice t x none (some ix) none)
  (ht:TT P t=some i0) (hdesc:i0.desc= .slice e) (he:TT P e=some ie) (hx:ev m x= .ref q) (hσ:σ q= .arr sz es) (hi:ev m ix= .t (.v (.int ik n))) (hn:n≤es.length) (hpos:0<es.length):
  cO P n0 all i m σ nx (.ref nx) (aB (aB σ q .dead) nx (.arr sz (es.take n))) (nx+1):=by
 intro C a w hnx hs hsz hrep ro K Q hK;have hops:=jV (m:=m) ho';have hdd:bS all i=o.dst:=by simp [bS,ho']
 simp only [fI,wpOpIn,ho',jG ho' hrep hl,if_true];rw [hdd] at hK;have rx:=cV hrep x;rw [hops x (by simp [h1,Op.operands]),hx] at rx;have ri:=cV hrep ix;rw [hops ix (by simp [h1,Op.operands]),hi] at ri;have hob:=hs.obj q;rw [hσ] at hob;obtain ⟨hsz,⟨h0,_⟩ | ⟨bl,cap,vs,E,lo,hi',q1,q2,q3,q4,q5,q6,q7⟩⟩:=hob
 ·rw [h0] at hpos;simp at hpos
 generalize hu:a.eval x=u at rx;cases rx with
 |ref hq hh=>
  rw [q2] at hh;cases hh;obtain ⟨hiv,_⟩:=cK ri;have hunt:P.underlying t=some (.slice e):=by rw [←hdesc];exact (cG ht).1
  obtain ⟨C',e1,e2,e3,e4⟩:=aOD hs hσ q1 q2 hn;have hsl:sliced (some ⟨bl,0,none⟩) 0 n cap ie.size= .slice (some ⟨bl,0,none⟩) n cap:=by simp [sliced,uF]
  have hx1:(execOp a.eval o).run P w= .ok (.value (.slice (some ⟨bl,0,none⟩) n cap)) w:=by simp only [execOp,h1,hu,hiv,Option.map_some,Option.map_none,Sem.run_bind,aEM hunt he _ _ _ _ _ (show n≤cap by omega),Result.andThen_ok,Sem.run_pure,hsl]
  refine eW hx1 ?_;rw [hnx] at e1 e2 e3 e4;exact hK _ _ C' e2 e1 e3 e4
end
end Go.Proofs.YtnoifgjiipgpoaaGreatDoor.R
namespace Go.Proofs.YtnoifgjiipgpoaaGreatDoor.R
open Go.RowKit
section
variable {P:Program} {n:Nat} {all:Array Oper}
theorem bHQ {ro:Option Nat} {Q:Exit→Act→World→Prop} {i:Nat} {K K':Act→World→Prop} {a:Act} {w:World} (h:∀a w,K a w→K' a w) (hh:fI ro P all Q i K a w):fI ro P all Q i K' a w:=by
 simp only [fI,wpOpIn] at hh ⊢;cases ho:all[i]? with
 |none=>rw [ho] at hh;exact h _ _ hh
 |some o=>
  rw [ho] at hh;simp only at hh ⊢;split
  ·rename_i hw;rw [if_pos hw] at hh;exact Oper.wpIn_mono h hh
  ·rename_i hw;rw [if_neg hw] at hh;exact ⟨hh.1,h _ _ hh.2⟩
theorem LS.none {listed:Array Bool} (h:LS all listed []):Region.ready .any all listed=[]:=by
 refine List.eq_nil_iff_forall_not_mem.2 fun i hi=>?_
 obtain ⟨_,⟨r,hr,_⟩,_⟩:=h.ready hi;cases hr
theorem bHP {B:cD} {Q:Exit→Act→World→Prop} {t:List (List Nat)} (ht:rT all t=true) {an:Nat→Nat→Bool} (han:∀x i,an x i=true→mF t x i=true) {z:Nat} (hz:∀j,j<z→mF t j z=true) (hzs:all.size=z+1) {R:St→Prop} (hn:B.n=n)
  (hQ:∀s a w,R s→dJ B s a w→fI B.ro P all Q z (fun a w=>Q .normal a w) a w) (hd:∀i<all.size,cH n (bS all i)=true) (rz:Rc) (hrz:rz.i=z):
  ∀(fuel:Nat) (l:List Rc) (s:St) (listed:Array Bool) (a:Act) (w:World),l.length=fuel→LS all listed (l++[rz])→(∀r∈l,r.i<z)→
   l.Pairwise (fun r q=>r.i<q.i)→gP P n all an l s→R ⟨goes all s.m l,(cC (s.σ,s.nx) l).1,(cC (s.σ,s.nx) l).2⟩→dJ B s a w→wpA B.ro P all Q (fuel+1) listed a w:=by
 intro fuel
 induction fuel with
 |zero=>
  intro l s listed a w hl hls hlt _ hinv hR hr;have:l=[]:=List.eq_nil_of_length_eq_zero hl;subst this;refine ⟨fun hnil=>(hls.some ht (by simp) hnil).elim,fun i hi=>?_⟩;obtain ⟨hi1,⟨r,hr1,hri⟩,hpre⟩:=hls.ready hi;simp only [List.nil_append,List.mem_singleton] at hr1;subst hr1;have hiz:i=z:=by omega
  subst hiz;have hls':LS all (listed.setIfInBounds i true) []:=by have:=LS.step (l1:=[]) (l2:=[]) (r:=r) (by simpa using hls) (by simp) (by rw [hri];exact hpre);rw [hri] at this;exact this
  exact bHQ (fun a w hq=>⟨hls'.none,hq⟩) (hQ s a w hR hr)
 |succ fuel ih=>
  intro l s listed a w hl hls hlt hsort hinv hR hr;have hsort':(l++[rz]).Pairwise (fun r q=>r.i<q.i):=by rw [List.pairwise_append];exact ⟨hsort,by simp,fun r hr q hq=>by rw [List.mem_singleton.1 hq,hrz];exact hlt r hr⟩
  refine ⟨fun hnil=>?_,fun i hi=>?_⟩
  ·exfalso;cases l with
   |nil=>simp at hl
   |cons r l=>exact hls.some ht hsort' hnil
  ·obtain ⟨hi1,⟨r,hr1,hri⟩,hpre⟩:=hls.ready hi;subst hri;rcases List.mem_append.1 hr1 with hr1 | hr1
   ·obtain ⟨l1,l2,hsplit⟩:=List.append_of_mem hr1;subst hsplit
    have hanc:∀q∈l1++r :: l2,an q.i r.i=false:=fun q hq=>by
     cases hq2:an q.i r.i with
     |false=>rfl
     |true=>
      have h1:listed.getD q.i false=true:=aAA ht hls.closed r.i hi1 hpre q.i (han _ _ hq2);have h2:=(hls.list q.i (hls.lt q (List.mem_append_left _ hq))).2 ⟨q,List.mem_append_left _ hq,rfl⟩;rw [Array.getD_eq_getD_getElem?] at h1 h2;cases hz:listed[q.i]? with
      |none=>rw [hz] at h1;simp at h1
      |some b=>rw [hz] at h1 h2;simp at h1 h2;rw [h1] at h2;cases h2
    refine hinv.wp hn (hd r.i hi1) hanc hr fun s' a' w' g1 g2 g3 g4=>?_
    have e1:l1++r :: l2++[rz]=l1++r :: (l2++[rz]):=by simp
    rw [e1] at hls
    have hne:∀q∈l1++(l2++[rz]),q.i≠r.i:=fun q hq=>by
     rw [←List.append_assoc] at hq;rcases List.mem_append.1 hq with hq | hq
     ·exact hinv.ne q hq
     ·rw [List.mem_singleton.1 hq,hrz];have:=hlt r hr1;omega
    refine ih (l1++l2) s' _ a' w' (by simp at hl ⊢;omega) ?_ (fun q hq=>hlt q ?_) (tO hsort) g1 ?_ g4
    ·rw [List.append_assoc];exact hls.step hne hpre
    ·rcases List.mem_append.1 hq with e | e
     ·exact List.mem_append_left _ e
     ·exact List.mem_append_right _ (List.mem_cons_of_mem _ e)
    ·rw [g2,g3];exact hR
   ·exfalso;rw [List.mem_singleton.1 hr1,hrz] at hpre hi1;cases l with
    |nil=>simp at hl
    |cons q l=>
     have hq:=hlt q List.mem_cons_self;have h1:listed.getD q.i false=true:=aAA ht hls.closed z hi1 hpre q.i (hz q.i hq);have h2:=(hls.list q.i (by omega)).2 ⟨q,by simp,rfl⟩;rw [Array.getD_eq_getD_getElem?] at h1 h2;cases hz:listed[q.i]? with
     |none=>rw [hz] at h1;simp at h1
     |some b=>rw [hz] at h1 h2;simp at h1 h2;rw [h1] at h2;cases h2
end
section
variable {P:Program} {B:cD} {k:List KI} {R:dZ} {s:St} {all:Array Oper}
theorem kU.initZ {lo:List Nat} {z:Nat}:kU P B.n all lo none s [] (num 0 (all.toList.take z)) [] s:=by
 refine ⟨⟨fun l1 r l2 h=>(by simp at h),List.Pairwise.nil,fun r hr=>(by cases hr),True.intro⟩,fun p hp=>?_,?_,rfl,fun q hq=>(by cases hq),fun q hq=>(by cases hq),fun q hq=>(by cases hq),fun _ q hq _=>(by cases hq)⟩
 ·have:=(aL5 p (all.toList.take z) 0 hp).2;rw [Nat.sub_zero,List.getElem?_take] at this;split at this
  ·simpa using this
  ·cases this
 ·rw [List.map_nil,List.nil_append];exact (tB (all.toList.take z) 0).imp fun {i j} h=>.inl ⟨h,rfl⟩
theorem aAP {id:Nat} (lo:List Nat) (z:Nat) (o:Oper) (hm:P.follows .mixedOrders=true) (hst:rR all B.n lo=true) (hz:(all.size==z+1&&(List.range z).all (fun j=>anc all j z))=true) (ho:all[z]? =some o)
  (h:Kp P B (.opsD all lo none (num 0 (all.toList.take z)) [] :: .ops all [o] :: k) R .normal s):Kp P B (.code (.region id all true) :: k) R .normal s:=by
 intro a w hr;refine wpIn_region_any hm ?_;rw [Bool.and_eq_true,beq_iff_eq,List.all_eq_true] at hz;obtain ⟨hz1,hz2⟩:=hz;obtain ⟨l,hinv,hl,hk⟩:qM P B.n all none (Kp P B (.ops all [o] :: k) R .normal) s [] (List.map (fun (p:Nat×Oper)=>p.fst) (num 0 (all.toList.take z))):=h hst s [] kU.initZ;rw [List.nil_append] at hinv hk
 have hix:∀i,(∃r∈l,r.i=i)↔i<z:=fun i=>by
  have:i∈l.map (·.i)↔i∈(num 0 (all.toList.take z)).map (·.1):=by rw [hl]
  rw [tA] at this;simp only [List.mem_map,List.length_take,Array.length_toList,hz1,Nat.zero_le,true_and,Nat.zero_add] at this;rw [this];omega
 have hlen:l.length=z:=by
  have:=congrArg List.length hl;simp only [List.length_map] at this
  have e:∀(l:List Oper) k,(num k l).length=l.length:=by
   intro l
   induction l with
   |nil=>intro k;rfl
   |cons o l ih=>intro k;simp [num,ih]
  have h8:all.toList.length=z+1:=by rw [Array.length_toList];exact hz1
  rw [e,List.length_take] at this;omega
 have hs:l.Pairwise (fun r q=>r.i<q.i):=by have:=tB (all.toList.take z) 0;rw [←hl] at this;exact List.pairwise_map.1 this
 obtain ⟨C,h1,h2,h3,h4,h5,h6⟩:=hr;obtain ⟨g1,g2⟩:=zV h5 (w':={w with drawn:=w.drawn+1}) rfl rfl rfl rfl;rw [hz1]
 refine bHP (aE5 hst) (an:=gE all none) (fun x i h=>(by simpa [gE,fQ,anc] using h)) (fun j hj=>hz2 j (List.mem_range.2 hj)) hz1 (R:=fun s=>Kp P B (.ops all [o] :: k) R .normal s) rfl (fun s a w hk hr=>?_) (aE3 hst) ⟨z,s.m,.any,none⟩ rfl z l s _ a _ hlen ?_ (fun r hr=>(hix r.i).1 ⟨r,hr,rfl⟩) hs hinv hk
  ⟨C,h1,fun t=>(h2 t).step h5 g2,h3,⟨h4.all,h4.nodup⟩,g1,h6.trans g2⟩
 ·have:=hk a w hr;simp only [rX,wpListIn] at this;simp only [fI,wpOpIn,ho];exact this
 ·rw [←hz1];refine LS.init fun i=>?_
  rw [hz1];constructor
  ·rintro ⟨r,hr,rfl⟩;rcases List.mem_append.1 hr with hr | hr
   ·have:=(hix r.i).1 ⟨r,hr,rfl⟩;omega
   ·rw [List.mem_singleton.1 hr];exact Nat.lt_succ_self z
  ·intro hi;by_cases e:i=z
   ·exact ⟨_,List.mem_append_right _ (List.mem_singleton.2 rfl),e.symm⟩
   ·obtain ⟨r,hr,hri⟩:=(hix i).2 (by omega);exact ⟨r,List.mem_append_left _ hr,hri⟩
end
@[go_sem] theorem up2 (n:Nat):(n=n+1+1)=False:=by simp only [eq_iff_iff,iff_false];omega
@[go_sem] theorem dn2 (n:Nat):(n+1+1=n)=False:=by simp only [eq_iff_iff,iff_false];omega
@[go_sem] theorem up3 (n:Nat):(n=n+1+1+1)=False:=by simp only [eq_iff_iff,iff_false];omega
@[go_sem] theorem dn3 (n:Nat):(n+1+1+1=n)=False:=by simp only [eq_iff_iff,iff_false];omega
@[go_sem] theorem up4 (n:Nat):(n=n+1+1+1+1)=False:=by simp only [eq_iff_iff,iff_false];omega
@[go_sem] theorem dn4 (n:Nat):(n+1+1+1+1=n)=False:=by simp only [eq_iff_iff,iff_false];omega
@[go_sem] theorem up5 (n:Nat):(n=n+1+1+1+1+1)=False:=by simp only [eq_iff_iff,iff_false];omega
@[go_sem] theorem dn5 (n:Nat):(n+1+1+1+1+1=n)=False:=by simp only [eq_iff_iff,iff_false];omega
@[go_sem] theorem up6 (n:Nat):(n=n+1+1+1+1+1+1)=False:=by simp only [eq_iff_iff,iff_false];omega
@[go_sem] theorem dn6 (n:Nat):(n+1+1+1+1+1+1=n)=False:=by simp only [eq_iff_iff,iff_false];omega
@[go_sem] theorem up7 (n:Nat):(n=n+1+1+1+1+1+1+1)=False:=by simp only [eq_iff_iff,iff_false];omega
@[go_sem] theorem dn7 (n:Nat):(n+1+1+1+1+1+1+1=n)=False:=by simp only [eq_iff_iff,iff_false];omega
@[go_sem] theorem up8 (n:Nat):(n=n+1+1+1+1+1+1+1+1)=False:=by simp only [eq_iff_iff,iff_false];omega
@[go_sem] theorem dn8 (n:Nat):(n+1+1+1+1+1+1+1+1=n)=False:=by simp only [eq_iff_iff,iff_false];omega
end Go.Proofs.YtnoifgjiipgpoaaGreatDoor.R
namespace Go.Proofs.YtnoifgjiipgpoaaGreatDoor.R
open Go Go.ChangeShapes Go.WideShapes Go.ChangeAt Go.RowKit
def aCQ (P:Program) (f:FuncId) (fn:Func) (s:ChangeSpec) (c:OpenClaim):Bool:=
 c.wf (OpenSpec.ofChange s)&&laidOutB P&&mapsRowed P&&fn.params.all (P.readableRec ·)&&namedTie P c.named s.vars&&(c.stops==[])&&(P.stops==[])&&(c.knobs==[])&&(P.stopKnobs==[])&&(c.inPlace==P.inPlace f)&&(c.maps==(fn.params.toList++s.plain.varTypes P).any (P.mapsRec ·))&&(c.ifaces==(fn.params.toList++s.plain.varTypes P).any (P.ifacesRec ·))&&(c.mapsOut==P.mapsAmong fn.resultTypes.toList)&&(c.loops==(fn.params.toList++s.plain.varTypes P).any (P.loopsFrom ·))&&(c.wideKeys==(fn.params.toList++s.plain.varTypes P++fn.resultTypes.toList).any (P.wideKeysFrom ·))&&s.vars.all (P.varReadable ·)&&fn.resultTypes.all (fun t=>P.readableRec t&&decide (t<P.types.size))&&(c.ifacesOut==fn.resultTypes.toList.any (P.ifacesRec ·))&&(c.loopsOut==fn.resultTypes.toList.any (P.loopsFrom ·))&&(c.plainKeys==P.plainKeys)&&c.shortTexts.isNone&&P.stopsHeard&&(c.kinds==(if c.domain.isEmpty then [] else fn.params.toList.map fun t=>match P.underlying t with | some (.int k)=>some k | _=>none))&&(c.pinned==c.pinnedBy)&&(c.veiled==(fn.params.toList++s.plain.varTypes P++fn.resultTypes.toList).any (P.veiledRec ·))&&c.veiledFits P fn.params.toList (fn.params.toList++s.plain.varTypes P++fn.resultTypes.toList)
theorem aWQ {P:Program} {f:FuncId} {fn:Func} {s:ChangeSpec} {c:OpenClaim} (h:aCQ P f fn s c=true) (h10:(c.unfollowed==P.unfollowed f)=true) (h11:(c.recurses==P.recurses f)=true) (h12:(c.named==P.varsNamed f)=true) (h25:P.mayEnter=true) (h26:(c.lifted==P.liftsFinal)=true) (h27:(P.make==some c.make)=true):joinedFacts P f fn s c=true:=by simp only [aCQ,Bool.and_eq_true] at h;obtain ⟨⟨⟨⟨⟨⟨⟨⟨⟨⟨⟨⟨⟨⟨⟨⟨⟨⟨⟨⟨⟨⟨⟨⟨⟨k0,k1⟩,k2⟩,k3⟩,k4⟩,k5⟩,k6⟩,k7⟩,k8⟩,k9⟩,k13⟩,k14⟩,k15⟩,k16⟩,k17⟩,k18⟩,k19⟩,k20⟩,k21⟩,k22⟩,k23⟩,k24⟩,k28⟩,k29⟩,k30⟩,k31⟩:=h;simp only [joinedFacts,Bool.and_eq_true];exact ⟨⟨⟨⟨⟨⟨⟨⟨⟨⟨⟨⟨⟨⟨⟨⟨⟨⟨⟨⟨⟨⟨⟨⟨⟨⟨⟨⟨⟨⟨⟨k0,k1⟩,k2⟩,k3⟩,k4⟩,k5⟩,k6⟩,k7⟩,k8⟩,k9⟩,h10⟩,h11⟩,h12⟩,k13⟩,k14⟩,k15⟩,k16⟩,k17⟩,k18⟩,k19⟩,k20⟩,k21⟩,k22⟩,k23⟩,k24⟩,h25⟩,h26⟩,h27⟩,k28⟩,k29⟩,k30⟩,k31⟩
end Go.Proofs.YtnoifgjiipgpoaaGreatDoor.R
namespace Go.Proofs.YtnoifgjiipgpoaaGreatDoor
open Go Go.Proofs.YtnoifgjiipgpoaaGreatDoor.R
set_option maxRecDepth 20000
noncomputable abbrev P:Program:=Tryz.prog
theorem tt2:TT P 2=some ⟨Go.TypeDesc.int Go.IntKind.i64,1,8,(Go.Value.int Go.IntKind.i64 0)⟩:=by kernel_rfl
theorem oU:TT P 3=some ⟨Go.TypeDesc.int Go.IntKind.i64,1,8,(Go.Value.int Go.IntKind.i64 0)⟩:=by kernel_rfl
theorem tt4:TT P 4=some ⟨Go.TypeDesc.bool,1,1,(Go.Value.bool Bool.false)⟩:=by kernel_rfl
theorem wI:TT P 5=some ⟨Go.TypeDesc.int Go.IntKind.u8,1,1,(Go.Value.int Go.IntKind.u8 0)⟩:=by kernel_rfl
theorem tt9:TT P 9=some ⟨Go.TypeDesc.string,1,16,(Go.Value.string {data:=#[]})⟩:=by kernel_rfl
theorem bFR:TT P 21=some ⟨Go.TypeDesc.int Go.IntKind.i32,1,4,(Go.Value.int Go.IntKind.i32 0)⟩:=by kernel_rfl
theorem tR:TT P 22=some ⟨Go.TypeDesc.slice 5,1,24,(Go.Value.slice Option.none 0 0)⟩:=by kernel_rfl
theorem bFV:TT P 23=some ⟨Go.TypeDesc.func #[] #[4] Bool.false,1,8,Go.Value.nilFunc⟩:=by kernel_rfl
theorem bF2:TT P 27=some ⟨Go.TypeDesc.struct #[{name:= "Status",type:=3,offset:=0,embedded:=Bool.false,tag:= "",pkgPath:= "",byteOffset:=0},{name:= "Text",type:=22,offset:=1,embedded:=Bool.false,tag:= "",pkgPath:= "",byteOffset:=8},{name:= "Low",type:=3,offset:=2,embedded:=Bool.false,tag:= "",pkgPath:= "",byteOffset:=32},{name:= "Up",type:=3,offset:=3,embedded:=Bool.false,tag:= "",pkgPath:= "",byteOffset:=40},{name:= "Certificate",type:=22,offset:=4,embedded:=Bool.false,tag:= "",pkgPath:= "",byteOffset:=48}],5,72,(Go.Value.agg #[Go.Value.int Go.IntKind.i64 0,Go.Value.slice Option.none 0 0,Go.Value.int Go.IntKind.i64 0,Go.Value.int Go.IntKind.i64 0,Go.Value.slice Option.none 0 0])⟩:=by kernel_rfl
theorem bF5:TT P 29=some ⟨Go.TypeDesc.slice 57,1,24,(Go.Value.slice Option.none 0 0)⟩:=by kernel_rfl
theorem bF8:TT P 31=some ⟨Go.TypeDesc.struct #[{name:= "Pairs",type:=3,offset:=0,embedded:=Bool.false,tag:= "",pkgPath:= "",byteOffset:=0},{name:= "Cars",type:=3,offset:=1,embedded:=Bool.false,tag:= "",pkgPath:= "",byteOffset:=8},{name:= "Room",type:=3,offset:=2,embedded:=Bool.false,tag:= "",pkgPath:= "",byteOffset:=16},{name:= "Stops",type:=29,offset:=3,embedded:=Bool.false,tag:= "",pkgPath:= "",byteOffset:=24}],4,48,(Go.Value.agg #[Go.Value.int Go.IntKind.i64 0,Go.Value.int Go.IntKind.i64 0,Go.Value.int Go.IntKind.i64 0,Go.Value.slice Option.none 0 0])⟩:=by kernel_rfl
theorem bGA:TT P 32=some ⟨Go.TypeDesc.int Go.IntKind.i64,1,8,(Go.Value.int Go.IntKind.i64 0)⟩:=by kernel_rfl
theorem bGD:TT P 36=some ⟨Go.TypeDesc.struct #[{name:= "Width",type:=3,offset:=0,embedded:=Bool.false,tag:= "",pkgPath:= "",byteOffset:=0},{name:= "Order",type:=3,offset:=1,embedded:=Bool.false,tag:= "",pkgPath:= "",byteOffset:=8},{name:= "Budget",type:=3,offset:=2,embedded:=Bool.false,tag:= "",pkgPath:= "",byteOffset:=16}],3,24,(Go.Value.agg #[Go.Value.int Go.IntKind.i64 0,Go.Value.int Go.IntKind.i64 0,Go.Value.int Go.IntKind.i64 0])⟩:=by kernel_rfl
theorem bGE:TT P 39=some ⟨Go.TypeDesc.slice 77,1,24,(Go.Value.slice Option.none 0 0)⟩:=by kernel_rfl
theorem bGF:TT P 41=some ⟨Go.TypeDesc.struct #[{name:= "Routes",type:=39,offset:=0,embedded:=Bool.false,tag:= "",pkgPath:= "",byteOffset:=0}],1,24,(Go.Value.agg #[Go.Value.slice Option.none 0 0])⟩:=by kernel_rfl
theorem bGG:TT P 42=some ⟨Go.TypeDesc.slice 139,1,24,(Go.Value.slice Option.none 0 0)⟩:=by kernel_rfl
theorem bGH:TT P 44=some ⟨Go.TypeDesc.struct #[{name:= "Status",type:=3,offset:=0,embedded:=Bool.false,tag:= "",pkgPath:= "",byteOffset:=0},{name:= "P",type:=41,offset:=1,embedded:=Bool.false,tag:= "",pkgPath:= "",byteOffset:=8},{name:= "Up",type:=3,offset:=2,embedded:=Bool.false,tag:= "",pkgPath:= "",byteOffset:=32},{name:= "Low",type:=3,offset:=3,embedded:=Bool.false,tag:= "",pkgPath:= "",byteOffset:=40},{name:= "Steps",type:=3,offset:=4,embedded:=Bool.false,tag:= "",pkgPath:= "",byteOffset:=48},{name:= "Log",type:=42,offset:=5,embedded:=Bool.false,tag:= "",pkgPath:= "",byteOffset:=56}],6,80,(Go.Value.agg #[Go.Value.int Go.IntKind.i64 0,Go.Value.slice Option.none 0 0,Go.Value.int Go.IntKind.i64 0,Go.Value.int Go.IntKind.i64 0,Go.Value.int Go.IntKind.i64 0,Go.Value.slice Option.none 0 0])⟩:=by kernel_rfl
theorem bGI:TT P 51=some ⟨Go.TypeDesc.struct #[{name:= "Status",type:=3,offset:=0,embedded:=Bool.false,tag:= "",pkgPath:= "",byteOffset:=0},{name:= "Low",type:=3,offset:=1,embedded:=Bool.false,tag:= "",pkgPath:= "",byteOffset:=8},{name:= "Up",type:=3,offset:=2,embedded:=Bool.false,tag:= "",pkgPath:= "",byteOffset:=16}],3,24,(Go.Value.agg #[Go.Value.int Go.IntKind.i64 0,Go.Value.int Go.IntKind.i64 0,Go.Value.int Go.IntKind.i64 0])⟩:=by kernel_rfl
theorem bGJ:TT P 57=some ⟨Go.TypeDesc.struct #[{name:= "X",type:=3,offset:=0,embedded:=Bool.false,tag:= "",pkgPath:= "",byteOffset:=0},{name:= "Y",type:=3,offset:=1,embedded:=Bool.false,tag:= "",pkgPath:= "",byteOffset:=8},{name:= "Demand",type:=3,offset:=2,embedded:=Bool.false,tag:= "",pkgPath:= "",byteOffset:=16},{name:= "Ready",type:=3,offset:=3,embedded:=Bool.false,tag:= "",pkgPath:= "",byteOffset:=24},{name:= "Due",type:=3,offset:=4,embedded:=Bool.false,tag:= "",pkgPath:= "",byteOffset:=32},{name:= "Service",type:=3,offset:=5,embedded:=Bool.false,tag:= "",pkgPath:= "",byteOffset:=40}],6,48,(Go.Value.agg #[Go.Value.int Go.IntKind.i64 0,Go.Value.int Go.IntKind.i64 0,Go.Value.int Go.IntKind.i64 0,Go.Value.int Go.IntKind.i64 0,Go.Value.int Go.IntKind.i64 0,Go.Value.int Go.IntKind.i64 0])⟩:=by kernel_rfl
theorem bGK:TT P 67=some ⟨Go.TypeDesc.struct #[{name:= "instance",type:=22,offset:=0,embedded:=Bool.false,tag:= "",pkgPath:= "haulier/solve",byteOffset:=0},{name:= "options",type:=22,offset:=1,embedded:=Bool.false,tag:= "",pkgPath:= "haulier/solve",byteOffset:=24},{name:= "x",type:=31,offset:=2,embedded:=Bool.false,tag:= "",pkgPath:= "haulier/solve",byteOffset:=48},{name:= "o",type:=36,offset:=6,embedded:=Bool.false,tag:= "",pkgPath:= "haulier/solve",byteOffset:=96},{name:= "a",type:=27,offset:=9,embedded:=Bool.false,tag:= "",pkgPath:= "haulier/solve",byteOffset:=120}],14,192,(Go.Value.agg #[Go.Value.slice Option.none 0 0,Go.Value.slice Option.none 0 0,Go.Value.int Go.IntKind.i64 0,Go.Value.int Go.IntKind.i64 0,Go.Value.int Go.IntKind.i64 0,Go.Value.slice Option.none 0 0,Go.Value.int Go.IntKind.i64 0,Go.Value.int Go.IntKind.i64 0,Go.Value.int Go.IntKind.i64 0,Go.Value.int Go.IntKind.i64 0,Go.Value.slice Option.none 0 0,Go.Value.int Go.IntKind.i64 0,Go.Value.int Go.IntKind.i64 0,Go.Value.slice Option.none 0 0])⟩:=by kernel_rfl
theorem bGL:TT P 68=some ⟨Go.TypeDesc.array 3 23,3,24,(Go.Value.agg #[Go.Value.nilFunc,Go.Value.nilFunc,Go.Value.nilFunc])⟩:=by kernel_rfl
theorem bGM:TT P 71=some ⟨Go.TypeDesc.slice 127,1,24,(Go.Value.slice Option.none 0 0)⟩:=by kernel_rfl
theorem bGN:TT P 73=some ⟨Go.TypeDesc.struct #[{name:= "Least",type:=3,offset:=0,embedded:=Bool.false,tag:= "",pkgPath:= "",byteOffset:=0},{name:= "Parts",type:=71,offset:=1,embedded:=Bool.false,tag:= "",pkgPath:= "",byteOffset:=8}],2,32,(Go.Value.agg #[Go.Value.int Go.IntKind.i64 0,Go.Value.slice Option.none 0 0])⟩:=by kernel_rfl
theorem tS:TT P 77=some ⟨Go.TypeDesc.slice 3,1,24,(Go.Value.slice Option.none 0 0)⟩:=by kernel_rfl
theorem aO3:TT P 81=some ⟨Go.TypeDesc.array 3 3,3,24,(Go.Value.agg #[Go.Value.int Go.IntKind.i64 0,Go.Value.int Go.IntKind.i64 0,Go.Value.int Go.IntKind.i64 0])⟩:=by kernel_rfl
theorem bGO:TT P 83=some ⟨Go.TypeDesc.pointer 152,1,8,(Go.Value.pointer Option.none)⟩:=by kernel_rfl
theorem tT:TT P 85=some ⟨Go.TypeDesc.slice 94,1,24,(Go.Value.slice Option.none 0 0)⟩:=by kernel_rfl
theorem bGP:TT P 87=some ⟨Go.TypeDesc.struct #[{name:= "x",type:=31,offset:=0,embedded:=Bool.false,tag:= "",pkgPath:= "haulier/search",byteOffset:=0},{name:= "o",type:=36,offset:=4,embedded:=Bool.false,tag:= "",pkgPath:= "haulier/search",byteOffset:=48},{name:= "r",type:=44,offset:=7,embedded:=Bool.false,tag:= "",pkgPath:= "haulier/search",byteOffset:=72},{name:= "subs",type:=85,offset:=13,embedded:=Bool.false,tag:= "",pkgPath:= "haulier/search",byteOffset:=152},{name:= "q",type:=83,offset:=14,embedded:=Bool.false,tag:= "",pkgPath:= "haulier/search",byteOffset:=176}],15,184,(Go.Value.agg #[Go.Value.int Go.IntKind.i64 0,Go.Value.int Go.IntKind.i64 0,Go.Value.int Go.IntKind.i64 0,Go.Value.slice Option.none 0 0,Go.Value.int Go.IntKind.i64 0,Go.Value.int Go.IntKind.i64 0,Go.Value.int Go.IntKind.i64 0,Go.Value.int Go.IntKind.i64 0,Go.Value.slice Option.none 0 0,Go.Value.int Go.IntKind.i64 0,Go.Value.int Go.IntKind.i64 0,Go.Value.int Go.IntKind.i64 0,Go.Value.slice Option.none 0 0,Go.Value.slice Option.none 0 0,Go.Value.pointer Option.none])⟩:=by kernel_rfl
theorem bGQ:TT P 89=some ⟨Go.TypeDesc.int Go.IntKind.u64,1,8,(Go.Value.int Go.IntKind.u64 0)⟩:=by kernel_rfl
theorem bGR:TT P 91=some ⟨Go.TypeDesc.struct #[{name:= "At",type:=3,offset:=0,embedded:=Bool.false,tag:= "",pkgPath:= "",byteOffset:=0},{name:= "Car",type:=3,offset:=1,embedded:=Bool.false,tag:= "",pkgPath:= "",byteOffset:=8},{name:= "Time",type:=3,offset:=2,embedded:=Bool.false,tag:= "",pkgPath:= "",byteOffset:=16},{name:= "Load",type:=3,offset:=3,embedded:=Bool.false,tag:= "",pkgPath:= "",byteOffset:=24},{name:= "First",type:=3,offset:=4,embedded:=Bool.false,tag:= "",pkgPath:= "",byteOffset:=32},{name:= "Must",type:=89,offset:=5,embedded:=Bool.false,tag:= "",pkgPath:= "",byteOffset:=40},{name:= "May",type:=89,offset:=6,embedded:=Bool.false,tag:= "",pkgPath:= "",byteOffset:=48},{name:= "On",type:=89,offset:=7,embedded:=Bool.false,tag:= "",pkgPath:= "",byteOffset:=56}],8,64,(Go.Value.agg #[Go.Value.int Go.IntKind.i64 0,Go.Value.int Go.IntKind.i64 0,Go.Value.int Go.IntKind.i64 0,Go.Value.int Go.IntKind.i64 0,Go.Value.int Go.IntKind.i64 0,Go.Value.int Go.IntKind.u64 0,Go.Value.int Go.IntKind.u64 0,Go.Value.int Go.IntKind.u64 0])⟩:=by kernel_rfl
theorem aFG:TT P 94=some ⟨Go.TypeDesc.struct #[{name:= "S",type:=91,offset:=0,embedded:=Bool.false,tag:= "",pkgPath:= "",byteOffset:=0},{name:= "Cost",type:=3,offset:=8,embedded:=Bool.false,tag:= "",pkgPath:= "",byteOffset:=64},{name:= "Path",type:=77,offset:=9,embedded:=Bool.false,tag:= "",pkgPath:= "",byteOffset:=72}],10,96,(Go.Value.agg #[Go.Value.int Go.IntKind.i64 0,Go.Value.int Go.IntKind.i64 0,Go.Value.int Go.IntKind.i64 0,Go.Value.int Go.IntKind.i64 0,Go.Value.int Go.IntKind.i64 0,Go.Value.int Go.IntKind.u64 0,Go.Value.int Go.IntKind.u64 0,Go.Value.int Go.IntKind.u64 0,Go.Value.int Go.IntKind.i64 0,Go.Value.slice Option.none 0 0])⟩:=by kernel_rfl
theorem bGS:TT P 96=some ⟨Go.TypeDesc.struct #[{name:= "Bound",type:=3,offset:=0,embedded:=Bool.false,tag:= "",pkgPath:= "",byteOffset:=0},{name:= "Depth",type:=3,offset:=1,embedded:=Bool.false,tag:= "",pkgPath:= "",byteOffset:=8},{name:= "No",type:=3,offset:=2,embedded:=Bool.false,tag:= "",pkgPath:= "",byteOffset:=16}],3,24,(Go.Value.agg #[Go.Value.int Go.IntKind.i64 0,Go.Value.int Go.IntKind.i64 0,Go.Value.int Go.IntKind.i64 0])⟩:=by kernel_rfl
theorem bFA:TT P 125=some ⟨Go.TypeDesc.slice 128,1,24,(Go.Value.slice Option.none 0 0)⟩:=by kernel_rfl
theorem bFB:TT P 127=some ⟨Go.TypeDesc.struct #[{name:= "Layers",type:=125,offset:=0,embedded:=Bool.false,tag:= "",pkgPath:= "",byteOffset:=0}],1,24,(Go.Value.agg #[Go.Value.slice Option.none 0 0])⟩:=by kernel_rfl
theorem bFC:TT P 128=some ⟨Go.TypeDesc.slice 133,1,24,(Go.Value.slice Option.none 0 0)⟩:=by kernel_rfl
theorem bFD:TT P 133=some ⟨Go.TypeDesc.struct #[{name:= "S",type:=91,offset:=0,embedded:=Bool.false,tag:= "",pkgPath:= "",byteOffset:=0},{name:= "Cost",type:=3,offset:=8,embedded:=Bool.false,tag:= "",pkgPath:= "",byteOffset:=64},{name:= "Part",type:=3,offset:=9,embedded:=Bool.false,tag:= "",pkgPath:= "",byteOffset:=72}],10,80,(Go.Value.agg #[Go.Value.int Go.IntKind.i64 0,Go.Value.int Go.IntKind.i64 0,Go.Value.int Go.IntKind.i64 0,Go.Value.int Go.IntKind.i64 0,Go.Value.int Go.IntKind.i64 0,Go.Value.int Go.IntKind.u64 0,Go.Value.int Go.IntKind.u64 0,Go.Value.int Go.IntKind.u64 0,Go.Value.int Go.IntKind.i64 0,Go.Value.int Go.IntKind.i64 0])⟩:=by kernel_rfl
theorem bFE:TT P 135=some ⟨Go.TypeDesc.slice 85,1,24,(Go.Value.slice Option.none 0 0)⟩:=by kernel_rfl
theorem bFF:TT P 137=some ⟨Go.TypeDesc.struct #[{name:= "Layers",type:=135,offset:=0,embedded:=Bool.false,tag:= "",pkgPath:= "",byteOffset:=0},{name:= "Low",type:=3,offset:=1,embedded:=Bool.false,tag:= "",pkgPath:= "",byteOffset:=24},{name:= "Exact",type:=4,offset:=2,embedded:=Bool.false,tag:= "",pkgPath:= "",byteOffset:=32},{name:= "Sure",type:=3,offset:=3,embedded:=Bool.false,tag:= "",pkgPath:= "",byteOffset:=40}],4,48,(Go.Value.agg #[Go.Value.slice Option.none 0 0,Go.Value.int Go.IntKind.i64 0,Go.Value.bool Bool.false,Go.Value.int Go.IntKind.i64 0])⟩:=by kernel_rfl
theorem bFG:TT P 139=some ⟨Go.TypeDesc.struct #[{name:= "N",type:=94,offset:=0,embedded:=Bool.false,tag:= "",pkgPath:= "",byteOffset:=0},{name:= "D",type:=137,offset:=10,embedded:=Bool.false,tag:= "",pkgPath:= "",byteOffset:=96}],14,144,(Go.Value.agg #[Go.Value.int Go.IntKind.i64 0,Go.Value.int Go.IntKind.i64 0,Go.Value.int Go.IntKind.i64 0,Go.Value.int Go.IntKind.i64 0,Go.Value.int Go.IntKind.i64 0,Go.Value.int Go.IntKind.u64 0,Go.Value.int Go.IntKind.u64 0,Go.Value.int Go.IntKind.u64 0,Go.Value.int Go.IntKind.i64 0,Go.Value.slice Option.none 0 0,Go.Value.slice Option.none 0 0,Go.Value.int Go.IntKind.i64 0,Go.Value.bool Bool.false,Go.Value.int Go.IntKind.i64 0])⟩:=by kernel_rfl
theorem bFH:TT P 142=some ⟨Go.TypeDesc.struct #[{name:= "b",type:=22,offset:=0,embedded:=Bool.false,tag:= "",pkgPath:= "haulier/scan",byteOffset:=0},{name:= "at",type:=3,offset:=1,embedded:=Bool.false,tag:= "",pkgPath:= "haulier/scan",byteOffset:=24}],2,32,(Go.Value.agg #[Go.Value.slice Option.none 0 0,Go.Value.int Go.IntKind.i64 0])⟩:=by kernel_rfl
theorem aO1:TT P 146=some ⟨Go.TypeDesc.array 6 3,6,48,(Go.Value.agg #[Go.Value.int Go.IntKind.i64 0,Go.Value.int Go.IntKind.i64 0,Go.Value.int Go.IntKind.i64 0,Go.Value.int Go.IntKind.i64 0,Go.Value.int Go.IntKind.i64 0,Go.Value.int Go.IntKind.i64 0])⟩:=by kernel_rfl
theorem aO2:TT P 148=some ⟨Go.TypeDesc.slice 156,1,24,(Go.Value.slice Option.none 0 0)⟩:=by kernel_rfl
theorem bFI:TT P 150=some ⟨Go.TypeDesc.struct #[{name:= "l",type:=148,offset:=0,embedded:=Bool.false,tag:= "",pkgPath:= "haulier/heap",byteOffset:=0}],1,24,(Go.Value.agg #[Go.Value.slice Option.none 0 0])⟩:=by kernel_rfl
theorem bFJ:TT P 152=some ⟨Go.TypeDesc.struct #[{name:= "t",type:=150,offset:=0,embedded:=Bool.false,tag:= "",pkgPath:= "haulier/heap",byteOffset:=0},{name:= "order",type:=3,offset:=1,embedded:=Bool.false,tag:= "",pkgPath:= "haulier/heap",byteOffset:=24}],2,32,(Go.Value.agg #[Go.Value.slice Option.none 0 0,Go.Value.int Go.IntKind.i64 0])⟩:=by kernel_rfl
theorem qI:TT P 156=some ⟨Go.TypeDesc.struct #[{name:= "Entry",type:=96,offset:=0,embedded:=Bool.true,tag:= "",pkgPath:= "",byteOffset:=0},{name:= "order",type:=3,offset:=3,embedded:=Bool.false,tag:= "",pkgPath:= "haulier/heap",byteOffset:=24}],4,32,(Go.Value.agg #[Go.Value.int Go.IntKind.i64 0,Go.Value.int Go.IntKind.i64 0,Go.Value.int Go.IntKind.i64 0,Go.Value.int Go.IntKind.i64 0])⟩:=by kernel_rfl
theorem bFK:TT P 170=some ⟨Go.TypeDesc.pointer 172,1,8,(Go.Value.pointer Option.none)⟩:=by kernel_rfl
theorem bFL:TT P 172=some ⟨Go.TypeDesc.struct #[{name:= "b",type:=22,offset:=0,embedded:=Bool.false,tag:= "",pkgPath:= "haulier/cert",byteOffset:=0},{name:= "e",type:=32,offset:=1,embedded:=Bool.false,tag:= "",pkgPath:= "haulier/cert",byteOffset:=24}],2,32,(Go.Value.agg #[Go.Value.slice Option.none 0 0,Go.Value.int Go.IntKind.i64 0])⟩:=by kernel_rfl
theorem bFM:TT P 177=some ⟨Go.TypeDesc.pointer 179,1,8,(Go.Value.pointer Option.none)⟩:=by kernel_rfl
theorem bFN:TT P 179=some ⟨Go.TypeDesc.struct #[{name:= "x",type:=31,offset:=0,embedded:=Bool.false,tag:= "",pkgPath:= "haulier/proof",byteOffset:=0},{name:= "p",type:=73,offset:=4,embedded:=Bool.false,tag:= "",pkgPath:= "haulier/proof",byteOffset:=48},{name:= "deep",type:=77,offset:=6,embedded:=Bool.false,tag:= "",pkgPath:= "haulier/proof",byteOffset:=80}],7,104,(Go.Value.agg #[Go.Value.int Go.IntKind.i64 0,Go.Value.int Go.IntKind.i64 0,Go.Value.int Go.IntKind.i64 0,Go.Value.slice Option.none 0 0,Go.Value.int Go.IntKind.i64 0,Go.Value.slice Option.none 0 0,Go.Value.slice Option.none 0 0])⟩:=by kernel_rfl
theorem bFO:TT P 187=some ⟨Go.TypeDesc.struct #[{name:= "b",type:=22,offset:=0,embedded:=Bool.false,tag:= "",pkgPath:= "haulier/cert",byteOffset:=0},{name:= "e",type:=32,offset:=1,embedded:=Bool.false,tag:= "",pkgPath:= "haulier/cert",byteOffset:=24}],2,32,(Go.Value.agg #[Go.Value.slice Option.none 0 0,Go.Value.int Go.IntKind.i64 0])⟩:=by kernel_rfl
theorem bFP:TT P 192=some ⟨Go.TypeDesc.struct #[{name:= "x",type:=31,offset:=0,embedded:=Bool.false,tag:= "",pkgPath:= "haulier/proof",byteOffset:=0},{name:= "r",type:=44,offset:=4,embedded:=Bool.false,tag:= "",pkgPath:= "haulier/proof",byteOffset:=48}],10,128,(Go.Value.agg #[Go.Value.int Go.IntKind.i64 0,Go.Value.int Go.IntKind.i64 0,Go.Value.int Go.IntKind.i64 0,Go.Value.slice Option.none 0 0,Go.Value.int Go.IntKind.i64 0,Go.Value.slice Option.none 0 0,Go.Value.int Go.IntKind.i64 0,Go.Value.int Go.IntKind.i64 0,Go.Value.int Go.IntKind.i64 0,Go.Value.slice Option.none 0 0])⟩:=by kernel_rfl
theorem bFQ:TT P 208=some ⟨Go.TypeDesc.array 2 3,2,16,(Go.Value.agg #[Go.Value.int Go.IntKind.i64 0,Go.Value.int Go.IntKind.i64 0])⟩:=by kernel_rfl
theorem bFS:TT P 216=some ⟨Go.TypeDesc.struct #[{name:= "best",type:=94,offset:=0,embedded:=Bool.false,tag:= "",pkgPath:= "haulier/exact",byteOffset:=0},{name:= "some",type:=4,offset:=10,embedded:=Bool.false,tag:= "",pkgPath:= "haulier/exact",byteOffset:=96},{name:= "up",type:=3,offset:=11,embedded:=Bool.false,tag:= "",pkgPath:= "haulier/exact",byteOffset:=104},{name:= "steps",type:=3,offset:=12,embedded:=Bool.false,tag:= "",pkgPath:= "haulier/exact",byteOffset:=112}],13,120,(Go.Value.agg #[Go.Value.int Go.IntKind.i64 0,Go.Value.int Go.IntKind.i64 0,Go.Value.int Go.IntKind.i64 0,Go.Value.int Go.IntKind.i64 0,Go.Value.int Go.IntKind.i64 0,Go.Value.int Go.IntKind.u64 0,Go.Value.int Go.IntKind.u64 0,Go.Value.int Go.IntKind.u64 0,Go.Value.int Go.IntKind.i64 0,Go.Value.slice Option.none 0 0,Go.Value.bool Bool.false,Go.Value.int Go.IntKind.i64 0,Go.Value.int Go.IntKind.i64 0])⟩:=by kernel_rfl
theorem bFT:TT P 221=some ⟨Go.TypeDesc.func #[133] #[4] Bool.false,1,8,Go.Value.nilFunc⟩:=by kernel_rfl
theorem bFU:TT P 226=some ⟨Go.TypeDesc.int Go.IntKind.u64,1,8,(Go.Value.int Go.IntKind.u64 0)⟩:=by kernel_rfl
theorem bFW:TT P 233=some ⟨Go.TypeDesc.slice 330,1,24,(Go.Value.slice Option.none 0 0)⟩:=by kernel_rfl
theorem bFX:TT P 239=some ⟨Go.TypeDesc.array 3 89,3,24,(Go.Value.agg #[Go.Value.int Go.IntKind.u64 0,Go.Value.int Go.IntKind.u64 0,Go.Value.int Go.IntKind.u64 0])⟩:=by kernel_rfl
theorem bFY:TT P 259=some ⟨Go.TypeDesc.pointer 3,1,8,(Go.Value.pointer Option.none)⟩:=by kernel_rfl
theorem bFZ:TT P 260=some ⟨Go.TypeDesc.array 5 259,5,40,(Go.Value.agg #[Go.Value.pointer Option.none,Go.Value.pointer Option.none,Go.Value.pointer Option.none,Go.Value.pointer Option.none,Go.Value.pointer Option.none])⟩:=by kernel_rfl
theorem bF0:TT P 261=some ⟨Go.TypeDesc.pointer 89,1,8,(Go.Value.pointer Option.none)⟩:=by kernel_rfl
theorem bF1:TT P 262=some ⟨Go.TypeDesc.array 3 261,3,24,(Go.Value.agg #[Go.Value.pointer Option.none,Go.Value.pointer Option.none,Go.Value.pointer Option.none])⟩:=by kernel_rfl
theorem bF3:TT P 271=some ⟨Go.TypeDesc.struct #[{name:= "Instance",type:=31,offset:=0,embedded:=Bool.true,tag:= "",pkgPath:= "",byteOffset:=0},{name:= "s",type:=91,offset:=4,embedded:=Bool.false,tag:= "",pkgPath:= "haulier/state",byteOffset:=48}],12,112,(Go.Value.agg #[Go.Value.int Go.IntKind.i64 0,Go.Value.int Go.IntKind.i64 0,Go.Value.int Go.IntKind.i64 0,Go.Value.slice Option.none 0 0,Go.Value.int Go.IntKind.i64 0,Go.Value.int Go.IntKind.i64 0,Go.Value.int Go.IntKind.i64 0,Go.Value.int Go.IntKind.i64 0,Go.Value.int Go.IntKind.i64 0,Go.Value.int Go.IntKind.u64 0,Go.Value.int Go.IntKind.u64 0,Go.Value.int Go.IntKind.u64 0])⟩:=by kernel_rfl
theorem bF4:TT P 281=some ⟨Go.TypeDesc.struct #[{name:= "Instance",type:=31,offset:=0,embedded:=Bool.true,tag:= "",pkgPath:= "",byteOffset:=0},{name:= "at",type:=3,offset:=4,embedded:=Bool.false,tag:= "",pkgPath:= "haulier/sched",byteOffset:=48},{name:= "now",type:=3,offset:=5,embedded:=Bool.false,tag:= "",pkgPath:= "haulier/sched",byteOffset:=56},{name:= "far",type:=3,offset:=6,embedded:=Bool.false,tag:= "",pkgPath:= "haulier/sched",byteOffset:=64},{name:= "load",type:=3,offset:=7,embedded:=Bool.false,tag:= "",pkgPath:= "haulier/sched",byteOffset:=72},{name:= "seen",type:=89,offset:=8,embedded:=Bool.false,tag:= "",pkgPath:= "haulier/sched",byteOffset:=80},{name:= "on",type:=89,offset:=9,embedded:=Bool.false,tag:= "",pkgPath:= "haulier/sched",byteOffset:=88},{name:= "times",type:=233,offset:=10,embedded:=Bool.false,tag:= "",pkgPath:= "haulier/sched",byteOffset:=96},{name:= "loads",type:=77,offset:=11,embedded:=Bool.false,tag:= "",pkgPath:= "haulier/sched",byteOffset:=120}],12,144,(Go.Value.agg #[Go.Value.int Go.IntKind.i64 0,Go.Value.int Go.IntKind.i64 0,Go.Value.int Go.IntKind.i64 0,Go.Value.slice Option.none 0 0,Go.Value.int Go.IntKind.i64 0,Go.Value.int Go.IntKind.i64 0,Go.Value.int Go.IntKind.i64 0,Go.Value.int Go.IntKind.i64 0,Go.Value.int Go.IntKind.u64 0,Go.Value.int Go.IntKind.u64 0,Go.Value.slice Option.none 0 0,Go.Value.slice Option.none 0 0])⟩:=by kernel_rfl
theorem aFE:TT P 293=some ⟨Go.TypeDesc.map 91 3,1,8,(Go.Value.map Option.none)⟩:=by kernel_rfl
theorem bF6:TT P 294=some ⟨Go.TypeDesc.slice 296,1,24,(Go.Value.slice Option.none 0 0)⟩:=by kernel_rfl
theorem bF7:TT P 296=some ⟨Go.TypeDesc.struct #[{name:= "x",type:=94,offset:=0,embedded:=Bool.false,tag:= "",pkgPath:= "haulier/level",byteOffset:=0},{name:= "of",type:=3,offset:=10,embedded:=Bool.false,tag:= "",pkgPath:= "haulier/level",byteOffset:=96}],11,104,(Go.Value.agg #[Go.Value.int Go.IntKind.i64 0,Go.Value.int Go.IntKind.i64 0,Go.Value.int Go.IntKind.i64 0,Go.Value.int Go.IntKind.i64 0,Go.Value.int Go.IntKind.i64 0,Go.Value.int Go.IntKind.u64 0,Go.Value.int Go.IntKind.u64 0,Go.Value.int Go.IntKind.u64 0,Go.Value.int Go.IntKind.i64 0,Go.Value.slice Option.none 0 0,Go.Value.int Go.IntKind.i64 0])⟩:=by kernel_rfl
theorem wH:TT P 299=some ⟨Go.TypeDesc.map 3 85,1,8,(Go.Value.map Option.none)⟩:=by kernel_rfl
theorem bF9:TT P 318=some ⟨Go.TypeDesc.slice 91,1,24,(Go.Value.slice Option.none 0 0)⟩:=by kernel_rfl
theorem aFF:TT P 327=some ⟨Go.TypeDesc.float Go.FloatKind.f64,1,8,(Go.Value.float Go.FloatKind.f64 0)⟩:=by kernel_rfl
theorem bGB:TT P 330=some ⟨Go.TypeDesc.struct #[{name:= "Come",type:=3,offset:=0,embedded:=Bool.false,tag:= "",pkgPath:= "",byteOffset:=0},{name:= "Begin",type:=3,offset:=1,embedded:=Bool.false,tag:= "",pkgPath:= "",byteOffset:=8},{name:= "Leave",type:=3,offset:=2,embedded:=Bool.false,tag:= "",pkgPath:= "",byteOffset:=16}],3,24,(Go.Value.agg #[Go.Value.int Go.IntKind.i64 0,Go.Value.int Go.IntKind.i64 0,Go.Value.int Go.IntKind.i64 0])⟩:=by kernel_rfl
theorem bGC:TT P 340=some ⟨Go.TypeDesc.struct #[{name:= "s",type:=91,offset:=0,embedded:=Bool.false,tag:= "",pkgPath:= "haulier/relax",byteOffset:=0},{name:= "many",type:=3,offset:=8,embedded:=Bool.false,tag:= "",pkgPath:= "haulier/relax",byteOffset:=64},{name:= "odd",type:=4,offset:=9,embedded:=Bool.false,tag:= "",pkgPath:= "haulier/relax",byteOffset:=72}],10,80,(Go.Value.agg #[Go.Value.int Go.IntKind.i64 0,Go.Value.int Go.IntKind.i64 0,Go.Value.int Go.IntKind.i64 0,Go.Value.int Go.IntKind.i64 0,Go.Value.int Go.IntKind.i64 0,Go.Value.int Go.IntKind.u64 0,Go.Value.int Go.IntKind.u64 0,Go.Value.int Go.IntKind.u64 0,Go.Value.int Go.IntKind.i64 0,Go.Value.bool Bool.false])⟩:=by kernel_rfl
attribute [go_sem] tt2 oU tt4 wI tt9 bFR tR bFV bF2 bF5 bF8 bGA bGD bGE bGF bGG bGH bGI bGJ bGK bGL bGM bGN tS aO3 bGO tT bGP bGQ bGR aFG bGS bFA bFB bFC bFD bFE bFF bFG bFH aO1 aO2 bFI bFJ qI bFK bFL bFM bFN bFO bFP bFQ bFS bFT bFU bFW bFX bFY bFZ bF0 bF1 bF3 bF4 aFE bF6 bF7 wH bF9 aFF bGB bGC
set_option maxRecDepth 4000
def aY (l:List Int):List T:=[.sl (aJ l)]
theorem aO5 (n:Nat) (h:n<18446744073709551616):IntKind.u64.wrap (n:Int)=n:=u64 _ (by omega)
theorem wJ (n:Nat) (h:n<9223372036854775808):IntKind.i64.wrap (n:Int)=n:=aO _ (by omega)
def mH (j:Int):Nat:=if 0≤j∧j≤63 then 2^j.toNat else 0
def cI (s:Nat) (j:Int):Bool:=decide (0≤j∧j≤63)&&s.testBit j.toNat
theorem aA3 (j:Int):mH j<2^64:=by
 unfold mH;split
 ·exact Nat.pow_lt_pow_right (by decide) (by omega)
 ·decide
theorem uK {k:Nat} (h:k≤63):mH k=2^k:=by rw [mH,if_pos (by omega)];rfl
theorem aA4 {j:Int} (h:j<0∨63<j):mH j=0:=by rw [mH,if_neg (by omega)]
theorem xK {a b:Nat} (ha:a<2^64) (hb:b<2^64):sB .u64 a b=((a&&&b:Nat):Int):=by show IntKind.u64.wrap ((BitVec.ofInt 64 a&&&BitVec.ofInt 64 b).toNat:Int)=_;rw [BitVec.ofInt_natCast,BitVec.ofInt_natCast,BitVec.toNat_and,BitVec.toNat_ofNat,BitVec.toNat_ofNat,Nat.mod_eq_of_lt ha,Nat.mod_eq_of_lt hb];have h3:a&&&b<2^64:=Nat.and_lt_two_pow a hb;exact u64 _ (by omega)
theorem aA7 {a b:Nat} (ha:a<2^64) (hb:b<2^64):sC .u64 a b=((a|||b:Nat):Int):=by
 show IntKind.u64.wrap ((BitVec.ofInt 64 a|||BitVec.ofInt 64 b).toNat:Int)=_;rw [BitVec.ofInt_natCast,BitVec.ofInt_natCast,BitVec.toNat_or,BitVec.toNat_ofNat,BitVec.toNat_ofNat,Nat.mod_eq_of_lt ha,Nat.mod_eq_of_lt hb];have h3:a|||b<2^64:=Nat.or_lt_two_pow ha hb
 exact u64 _ (by omega)
theorem aQ7 (s k:Nat):(s&&&2^k=0)↔s.testBit k=false:=by
 constructor
 ·intro h;have:=congrArg (fun x=>x.testBit k) h;simpa [Nat.testBit_and,Nat.testBit_two_pow_self] using this
 ·intro h;refine Nat.eq_of_testBit_eq fun i=>?_
  rw [Nat.testBit_and,Nat.zero_testBit,Nat.testBit_two_pow];by_cases e:k=i
  ·subst e;simp [h]
  ·simp [e]
theorem xN (j:Int):Pure P 255 [.i j] (.u (mH j)):=by
 refine aW Tryz.func255 rfl rfl (by simp [Tryz.f255]) (by simp [aE,aE.bndL]) (by simp [aE]) fun B hB hnx=>?_
 simp only [Tryz.f255] at hB ⊢;by_cases h1:j<0
 ·rw [aA4 (.inl h1)];refine aI ?_;simp [go_sem,h1]
 by_cases h2:63<j
 ·rw [aA4 (.inr h2)];refine aI ?_;simp [go_sem,h1,h2]
 obtain ⟨k,rfl⟩:∃k:Nat,j=k:=⟨j.toNat,by omega⟩;have hk:k≤63:=by omega
 have hmin:min k 64=k:=by omega
 rw [uK hk];refine aI ?_;simp [go_sem,h1,h2,hmin];have:2^k<2^64:=Nat.pow_lt_pow_right (by decide) (by omega);have h3:((2^k:Nat):Int)=(2:Int)^k:=by rw [Int.natCast_pow];rfl
 rw [←h3];exact aO5 _ this
theorem u9 (s:Nat) (j:Int) (hs:s<2^64):Pure P 223 [.u s,.i j] (.b (cI s j)):=by
 refine aW Tryz.func223 rfl rfl (by simp [Tryz.f223]) (by simp [aE,aE.bndL]) (by simp [aE]) fun B hB hnx=>?_
 simp only [Tryz.f223] at hB ⊢;refine aI ?_;simp [go_sem];refine aL rfl rfl rfl (args:=[.i j]) (f:=255) (by simp [go_sem]) (by simp [go_sem,hB]) ((xN j).spec _ _) ?_;refine aI ?_;simp [go_sem,xK hs (aA3 j)];rw [cI];by_cases h:0≤j∧j≤63
 ·obtain ⟨k,rfl⟩:∃k:Nat,j=k:=⟨j.toNat,by omega⟩;have e0:s&&&mH (k:Int)=0↔s.testBit k=false:=by rw [uK (by omega)];exact aQ7 s k
  simp only [h,and_self,decide_true,Bool.true_and,Int.toNat_natCast];cases hb:s.testBit k
  ·simp [e0.2 hb]
  ·have:¬s&&&mH (k:Int)=0:=fun h=>by rw [e0.1 h] at hb;cases hb
   simp [this]
 ·rw [aA4 (by omega)];simp [h]
def mY (a n:Int):Int:=min (a+min (max n 0) 1152921504606846976) 1152921504606846976
def dL (l:List Int):Int:=l.foldl mY 0
theorem bEI {a:Int} (h:0≤a∧a≤1152921504606846976) (n:Int):0≤mY a n∧mY a n≤1152921504606846976:=by unfold mY;omega
theorem tQ (l:List Int) (hl:l.length<2^63):Pure P 134 [.t (.sl (aJ l))] (.i (dL l)):=by
 refine aW Tryz.func134 rfl rfl (by simp [Tryz.f134]) (by simp [aE,aE.bndL]) (by simp [aE]) fun B hB hnx=>?_
 simp only [Tryz.f134] at hB ⊢;refine aI ?_;simp [go_sem];refine bA (α:=Nat×Int) (fun (k,a)=>k≤l.length∧(0≤a∧a≤1152921504606846976)∧(l.drop k).foldl mY a=dL l) (fun (k,a)=>⟨sl [(6,.t (.sl (aJ l))),(7,.i l.length),(8,.i k),(3,.i a)],dR,0⟩) (fun x=>l.length-x.1) (0,0) ⟨Nat.zero_le _,by omega,rfl⟩ (aH.slots (by simp [go_sem,aJ]) rfl rfl) ?_;rintro ⟨k,a⟩ ⟨h1,h2,h3⟩;refine aI ?_;simp [go_sem];refine bU (fun h=>?_) (fun h=>?_)
 ·rw [List.drop_eq_getElem_cons h,List.foldl_cons] at h3;have hs:=bEI h2 l[k];simp [go_sem,aJ,h]
  refine Next.mk (k+1,mY a l[k]) ⟨by omega,hs,h3⟩ (aH.slots (by
   simp [go_sem,aJ,mY]
   rw [aO ((k:Int)+1) (by omega),aO (a+min (max l[k] 0) 1152921504606846976) (by omega)]
   simp) rfl rfl) (by simp only;omega)
 ·have:k=l.length:=by omega
  subst this;simp [go_sem];simpa using h3
def hT (m:Nat):Nat→Nat→Nat
 |0,r=>r
 |k+1,r=>hT m k (if (r+2^k)*(r+2^k)<m then r+2^k else r)
theorem aEI (m:Nat):∀k r,r*r<m→m≤(r+2^k)*(r+2^k)→hT m k r*hT m k r<m∧m≤(hT m k r+1)*(hT m k r+1)
 |0,r,h1,h2=>⟨h1,h2⟩
 |k+1,r,h1,h2=>by
  rw [hT];by_cases h:(r+2^k)*(r+2^k)<m
  ·rw [if_pos h];refine aEI m k _ h ?_;have e:r+2^k+2^k=r+2^(k+1):=by rw [Nat.pow_succ];omega
   rw [e];exact h2
  ·rw [if_neg h];exact aEI m k r h1 (by omega)
theorem zN (m:Nat):∀k r,hT m k r<r+2^k
 |0,r=>by simp [hT]
 |k+1,r=>by
  rw [hT];have e:r+2^k+2^k=r+2^(k+1):=by rw [Nat.pow_succ];omega
  have:=Nat.two_pow_pos k;split
  ·have:=zN m k (r+2^k);omega
  ·have:=zN m k r;omega
def qB (n:Int):Int:=if n≤0 then 0 else ((hT (min n 1152921504606846976).toNat 31 0+1:Nat):Int)
theorem bBO (n:Int):Pure P 262 [.i n] (.i (qB n)):=by
 refine aW Tryz.func262 rfl rfl (by simp [Tryz.f262]) (by simp [aE,aE.bndL]) (by simp [aE]) fun B hB hnx=>?_
 simp only [Tryz.f262] at hB ⊢;obtain ⟨m,hm⟩:∃m:Nat,m=(min (max n 0) 1152921504606846976).toNat:=⟨_,rfl⟩;have hmi:min (max n 0) 1152921504606846976=(m:Int):=by omega
 have hm60:m≤1152921504606846976:=by omega
 refine aI ?_;simp [go_sem];refine wW (α:=Nat×Nat) 0 (fun (k,r)=>k≤30∧r+2^(k+1)≤2147483648∧hT m (k+1) r=hT m 31 0) (fun (k,r)=>⟨sl [(0,.i m),(3,.i r),(4,.i (2^k:Nat))],dR,0⟩) (fun x=>x.1) rfl ?_ ?_
 ·have f0:¬(1152921504606846976:Int)<m:=by omega
  have f1:=aO 1073741824 (by omega);have f2:=aO 1152921504606846976 (by omega);refine aI ?_;simp [go_sem,hmi,f1,f2,f0];refine ⟨29,0,⟨by omega,by omega,?_⟩,aH.slots (by simp [go_sem]) rfl rfl⟩;have e:hT m 31 0=hT m 30 (if (0+2^30)*(0+2^30)<m then 0+2^30 else 0):=rfl;rw [e,if_neg (by simp;omega)]
 ·rintro ⟨k,r⟩ ⟨h1,h2,h3⟩;obtain ⟨x,hx⟩:∃x,x=r+2^k:=⟨_,rfl⟩;have hp:=Nat.two_pow_pos k;have e2:r+2^k+2^k=r+2^(k+1):=by rw [Nat.pow_succ];omega
  have hxx:x*x≤2147483648*2147483648:=Nat.mul_le_mul (by omega) (by omega);have hcast:(r:Int)+2^k=(x:Int):=by rw [hx,Int.natCast_add,Int.natCast_pow];rfl
  have f1:IntKind.i64.wrap (x:Int)=x:=wJ x (by omega);have f2:IntKind.i64.wrap ((x:Int)*x)=((x*x:Nat):Int):=by rw [←Int.natCast_mul];exact wJ _ (by omega)
  rw [hT] at h3;rw [←hx] at h3
  have hend:∀r',hT m 0 r'=hT m 31 0→(if 0<m then ((r':Int)+1) else (r':Int))=qB n:=fun r' hr=>by
   have hr':r'=hT m 31 0:=hr;by_cases hm0:0<m
   ·rw [if_pos hm0,qB,if_neg (by omega)];have e:(min n 1152921504606846976).toNat=m:=by omega
    rw [e,hr'];rfl
   ·have e0:m=0:=by omega
    rw [if_neg hm0,qB,if_pos (by omega),hr',e0];decide
  have hrr:r<2147483648:=by omega
  have hxr:x≤2147483648:=by omega
  have fx1:=aO ((x:Int)+1) (by omega);have fr1:=aO ((r:Int)+1) (by omega);by_cases hlt:x*x<m
  ·rw [if_pos hlt] at h3;have hlt':(x:Int)*x<m:=by omega
   rcases k with _ | j
   ·have he:=hend x h3;have hc0:(r:Int)+1=x:=by rw [hx];rfl
    have hm0:0<m:=by omega
    rw [if_pos hm0] at he;rw [←he];refine aI ?_;simp [go_sem,hc0,f1,f2,hlt',hm0,fx1]
   ·have f3:Int.fdiv (2^(j+1)) 2=2^j:=by rw [Int.pow_succ,Int.mul_fdiv_cancel _ (by decide)]
    have f4:(0:Int)<2^j:=Int.pow_pos (by decide);refine aI ?_;simp [go_sem,hcast,f1,f2,hlt',f3,f4];refine Next.mk (j,x) ⟨by omega,by simp only;omega,h3⟩ (aH.slots (by simp [go_sem]) rfl rfl) (by simp)
  ·rw [if_neg hlt] at h3;have hlt':¬(x:Int)*x<m:=by omega
   rcases k with _ | j
   ·have he:=hend r h3;have hc0:(r:Int)+1=x:=by rw [hx];rfl
    by_cases hm0:0<m
    ·rw [if_pos hm0,hc0] at he;rw [←he];refine aI ?_;simp [go_sem,hc0,f1,f2,hlt',hm0]
    ·rw [if_neg hm0] at he;rw [←he];refine aI ?_;simp [go_sem,hc0,f1,f2,hlt',hm0]
   ·have f3:Int.fdiv (2^(j+1)) 2=2^j:=by rw [Int.pow_succ,Int.mul_fdiv_cancel _ (by decide)]
    have f4:(0:Int)<2^j:=Int.pow_pos (by decide);refine aI ?_;simp [go_sem,hcast,f1,f2,hlt',f3,f4];refine Next.mk (j,r) ⟨by omega,by simp only;omega,h3⟩ (aH.slots (by simp [go_sem]) rfl rfl) (by simp)
def qQ (a b:Nat):Nat:=(BitVec.ofNat 64 a&&&~~~ BitVec.ofNat 64 b).toNat
theorem aGR (a b:Nat):qQ a b<2^64:=BitVec.isLt _
theorem aGX {a b:Nat}:aA0 .u64 a b=((qQ a b:Nat):Int):=by show IntKind.u64.wrap ((BitVec.ofInt 64 a&&&~~~ BitVec.ofInt 64 b).toNat:Int)=_;rw [BitVec.ofInt_natCast,BitVec.ofInt_natCast];exact aO5 _ (aGR a b)
theorem aAW (a b i:Nat):(qQ a b).testBit i=(decide (i<64)&&(a.testBit i&& !b.testBit i)):=by unfold qQ;rw [BitVec.testBit_toNat,BitVec.getLsbD_and,BitVec.getLsbD_not,BitVec.getLsbD_ofNat,BitVec.getLsbD_ofNat];cases decide (i<64)<;>cases a.testBit i<;>cases b.testBit i<;>rfl
def cL (s:Nat) (j:Int):Nat:=s|||mH j
def i9 (s:Nat) (j:Int):Nat:=qQ s (mH j)
def dE (s t:Nat):Bool:=(List.range 64).all fun i=>!s.testBit i||t.testBit i
theorem wM {s:Nat} (h:s<2^64) (j:Int):cL s j<2^64:=Nat.or_lt_two_pow h (aA3 j)
theorem aPR (s:Nat) (j:Int):i9 s j<2^64:=aGR _ _
theorem aPO {s t:Nat}:qQ s t=0↔dE s t=true:=by
 unfold dE;rw [List.all_eq_true];constructor
 ·intro h i hi;have h1:=aAW s t i;rw [h,Nat.zero_testBit,decide_eq_true (List.mem_range.1 hi)] at h1;revert h1;cases s.testBit i<;>cases t.testBit i<;>simp
 ·intro h;refine Nat.eq_of_testBit_eq fun i=>?_
  rw [aAW,Nat.zero_testBit];by_cases hi:i<64
  ·have:=h i (List.mem_range.2 hi);revert this;cases s.testBit i<;>cases t.testBit i<;>simp
  ·simp [hi]
theorem tU (s:Nat) (j:Int) (hs:s<2^64):Pure P 268 [.u s,.i j] (.u (cL s j)):=by
 refine aW Tryz.func268 rfl rfl (by simp [Tryz.f268]) (by simp [aE,aE.bndL]) (by simp [aE]) fun B hB hnx=>?_
 simp only [Tryz.f268] at hB ⊢;refine aI ?_;simp [go_sem];refine aL rfl rfl rfl (args:=[.i j]) (f:=255) (by simp [go_sem]) (by simp [go_sem,hB]) ((xN j).spec _ _) ?_;refine aI ?_;simp [go_sem,aA7 hs (aA3 j),cL]
theorem aPS (s:Nat) (j:Int):Pure P 269 [.u s,.i j] (.u (i9 s j)):=by
 refine aW Tryz.func269 rfl rfl (by simp [Tryz.f269]) (by simp [aE,aE.bndL]) (by simp [aE]) fun B hB hnx=>?_
 simp only [Tryz.f269] at hB ⊢;refine aI ?_;simp [go_sem];refine aL rfl rfl rfl (args:=[.i j]) (f:=255) (by simp [go_sem]) (by simp [go_sem,hB]) ((xN j).spec _ _) ?_;refine aI ?_;simp [go_sem,aGX,i9]
theorem aAG (s t:Nat):Pure P 235 [.u s,.u t] (.b (dE s t)):=by
 refine aW Tryz.func235 rfl rfl (by simp [Tryz.f235]) (by simp [aE,aE.bndL]) (by simp [aE]) fun B hB hnx=>?_
 simp only [Tryz.f235] at hB ⊢;refine aI ?_;simp [go_sem,aGX];by_cases h:qQ s t=0
 ·rw [aPO.1 h];simp [h]
 ·have:dE s t=false:=by
   cases hw:dE s t
   ·rfl
   ·exact absurd (aPO.2 hw) h
  simp [h,this]
theorem aVR {s i:Nat} (h:i<64):cI s (i:Int)=s.testBit i:=by simp [cI];omega
def lH:Nat→Nat
 |0=>0
 |k+1=>lH k|||2^(k+1)
def nS (n:Int):Nat:=lH (min (max n 0) 63).toNat
theorem aPB:∀k,k≤63→lH k<2^64
 |0,_=>by decide
 |k+1,h=>Nat.or_lt_two_pow (aPB k (by omega)) (Nat.pow_lt_pow_right (by decide) (by omega))
theorem bG5 (n:Int):Pure P 236 [.i n] (.u (nS n)):=by
 refine aW Tryz.func236 rfl rfl (by simp [Tryz.f236]) (by simp [aE,aE.bndL]) (by simp [aE]) fun B hB hnx=>?_
 simp only [Tryz.f236] at hB ⊢;obtain ⟨m,hm⟩:∃m:Nat,m=(min (max n 0) 63).toNat:=⟨_,rfl⟩;have hmi:min (max n 0) 63=(m:Int):=by omega
 have hm63:m≤63:=by omega
 have hu:nS n=lH m:=by rw [nS,←hm]
 rw [hu];refine aI ?_;simp [go_sem,hmi];refine bA (α:=Nat) (fun i=>i≤m) (fun i=>⟨sl [(0,.i m),(8,.i m),(9,.i i),(3,.u (lH i))],dR,0⟩) (fun i=>m-i) 0 (Nat.zero_le _) (aH.slots (by simp [go_sem,lH]) rfl rfl) ?_;intro i hi;refine aI ?_;simp [go_sem];refine bU (fun h=>?_) (fun h=>?_)
 ·have hii:IntKind.i64.wrap ((i:Int)+1)=((i+1:Nat):Int):=by rw [aO ((i:Int)+1) (by omega)];rfl
  simp [go_sem,hii];refine aL rfl rfl rfl (args:=[.i ((i+1:Nat):Int)]) (f:=255) (by simp [go_sem]) (by simp [go_sem,hB]) ((xN _).spec _ _) ?_;have hb:=uK (k:=i+1) (by omega);rw [hb];have hor:sC .u64 (lH i) ((2^(i+1):Nat):Int)=((lH (i+1):Nat):Int):=aA7 (aPB i (by omega)) (Nat.pow_lt_pow_right (by decide) (by omega));generalize 2^(i+1)=b at *;refine aI ?_;simp [go_sem,hii,hor];exact Next.mk (i+1) (by omega) (aH.slots (by simp [go_sem]) rfl rfl) (by omega)
 ·have:i=m:=by omega
  subst this;simp [go_sem]
structure aR where
 x:Int
 y:Int
 demand:Int
 ready:Int
 due:Int
 service:Int
structure aA where
 pairs:Int
 cars:Int
 room:Int
 stops:List aR
def aR.t (s:aR):List T:=[.i s.x,.i s.y,.i s.demand,.i s.ready,.i s.due,.i s.service]
def aA.a (x:aA):AV:=.agg [.t (.i x.pairs),.t (.i x.cars),.t (.i x.room),.t (.sl (x.stops.map aR.t))]
def cY (lo hi n:Int):Bool:=decide (lo≤n)&&decide (n≤hi)
def aA.stopB (x:aA) (k:Nat) (s:aR):Bool:=
 ((cY 0 10000 s.x&&cY 0 10000 s.y)&&(cY 0 1048576 s.ready&&cY 0 1048576 s.due)&&decide (s.ready≤s.due)&&cY 0 1000 s.service)&&
 (if k=0 then decide (s.demand=0)&&decide (s.service=0)
  else if (k:Int)≤x.pairs then cY 1 1000 s.demand
  else decide (s.demand=IntKind.i64.wrap (-(x.stops.getD (k-x.pairs.toNat) ⟨0,0,0,0,0,0⟩).demand)))
def nB {α:Type} (f:Nat→α→Bool):Nat→List α→Bool
 |_,[]=>true
 |k,a :: l=>f k a&&nB f (k+1) l
def aA.may (x:aA):Bool:=cY 0 16 x.pairs&&cY 1 8 x.cars&&cY 1 1000 x.room&&decide ((x.stops.length:Int)=2*x.pairs+1)&&nB x.stopB 0 x.stops
theorem aQ6 {α:Type} {f:Nat→α→Bool} {l:List α} {k:Nat} (h:k<l.length):nB f k (l.drop k)=(f k l[k]&&nB f (k+1) (l.drop (k+1))):=by rw [List.drop_eq_getElem_cons h];rfl
theorem qT (lo hi:Int) (l:List Int) (hl:l.length<2^63):Pure P 83 [.i lo,.i hi,.t (.sl (aJ l))] (.b (l.all (cY lo hi))):=by
 refine aW Tryz.func83 rfl rfl (by simp [Tryz.f83]) (by simp [aE,aE.bndL]) (by simp [aE]) fun B hB hnx=>?_
 simp only [Tryz.f83] at hB ⊢;generalize hR:l.all (cY lo hi)=r;refine aI ?_;simp [go_sem];refine bA (α:=Nat) (fun k=>k≤l.length∧(l.drop k).all (cY lo hi)=r) (fun k=>⟨sl [(0,.i lo),(1,.i hi),(9,.t (.sl (aJ l))),(10,.i l.length),(11,.i k)],dR,0⟩) (fun k=>l.length-k) 0 ⟨Nat.zero_le _,hR⟩ (aH.slots (by simp [go_sem,aJ]) rfl rfl) ?_;rintro k ⟨h1,h3⟩;refine aI ?_;simp [go_sem];refine bU (fun h=>?_) (fun h=>?_)
 ·rw [List.drop_eq_getElem_cons h,List.all_cons] at h3;have hk:IntKind.i64.wrap ((k:Int)+1)=((k+1:Nat):Int):=by rw [aO ((k:Int)+1) (by omega)];rfl
  generalize hn:l[k]=n at *;by_cases g1:n<lo
  ·have:r=false:=by rw [←h3];simp [cY];omega
   simp [go_sem,aJ,h,hn,g1,this]
  ·by_cases g2:hi<n
   ·have:r=false:=by rw [←h3];simp [cY];omega
    simp [go_sem,aJ,h,hn,g1,g2,this]
   ·have e:cY lo hi n=true:=by simp [cY];omega
    rw [e,Bool.true_and] at h3;simp [go_sem,aJ,h,hn,g1,g2,hk];exact Next.mk (k+1) ⟨by omega,h3⟩ (aH.slots (by simp [go_sem,aJ]) rfl rfl) (by omega)
 ·have:k=l.length:=by omega
  subst this;simp at h3;simp [go_sem,h3]
theorem lP (x:aA) (hl:x.stops.length<2^63):Pure P 44 [x.a] (.b x.may):=by
 refine aW Tryz.func44 rfl rfl (by simp [Tryz.f44]) (by simp [aE,aE.bndL,aA.a]) (by simp [aE]) fun B hB hnx=>?_
 simp only [Tryz.f44] at hB ⊢;generalize hR:x.may=r;refine aI ?_;simp [go_sem,aA.a];refine aL rfl rfl rfl (args:=[.i 0,.i 16,.fsl (aJ [x.pairs])]) (f:=83) (by simp [go_sem,aJ]) (by simp [go_sem,hB]) (aT.loose ((qT 0 16 [x.pairs] (by simp)).spec _ _)) ?_;simp only [List.all_cons,List.all_nil,Bool.and_true];by_cases h1:cY 0 16 x.pairs=true
 rotate_left
 ·have h1':cY 0 16 x.pairs=false:=by simpa using h1
  have:r=false:=by rw [←hR,aA.may,h1'];rfl
  refine aI ?_;simp [go_sem,h1',this]
 refine aI ?_;simp [go_sem,h1];refine aL rfl rfl rfl (args:=[.i 1,.i 8,.fsl (aJ [x.cars])]) (f:=83) (by simp [go_sem,aJ]) (by simp [go_sem,hB]) (aT.loose ((qT 1 8 [x.cars] (by simp)).spec _ _)) ?_;simp only [List.all_cons,List.all_nil,Bool.and_true];by_cases h2:cY 1 8 x.cars=true
 rotate_left
 ·have h1':cY 1 8 x.cars=false:=by simpa using h2
  have:r=false:=by rw [←hR,aA.may,h1'];simp
  refine aI ?_;simp [go_sem,h1',this]
 refine aI ?_;simp [go_sem,h2];refine aL rfl rfl rfl (args:=[.i 1,.i 1000,.fsl (aJ [x.room])]) (f:=83) (by simp [go_sem,aJ]) (by simp [go_sem,hB]) (aT.loose ((qT 1 1000 [x.room] (by simp)).spec _ _)) ?_;simp only [List.all_cons,List.all_nil,Bool.and_true];by_cases h3:cY 1 1000 x.room=true
 rotate_left
 ·have h1':cY 1 1000 x.room=false:=by simpa using h3
  have:r=false:=by rw [←hR,aA.may,h1'];simp
  refine aI ?_;simp [go_sem,h1',this]
 have hp1:0≤x.pairs∧x.pairs≤16:=by simpa [cY] using h1
 obtain ⟨p,hp⟩:∃p:Nat,x.pairs=p:=⟨x.pairs.toNat,by omega⟩;have w1:=aO (2*(p:Int)) (by omega);have w2:=aO (2*(p:Int)+1) (by omega);by_cases h4:(x.stops.length:Int)=2*p+1
 rotate_left
 ·have:r=false:=by rw [←hR,aA.may,hp];simp [h4]
  refine aI ?_;simp [go_sem,h3,hp,w1,w2,h4,this]
 refine aI ?_;simp [go_sem,h3,hp,w1,w2,h4];have hsum:nB x.stopB 0 x.stops=r:=by rw [←hR,aA.may,hp,h2,h3,←hp,h1,hp];simp [h4]
 have lenp:x.stops.length=2*p+1:=by omega
 refine bA (α:=Nat) (fun k=>k≤x.stops.length∧nB x.stopB k (x.stops.drop k)=r) (fun k=>⟨sl [(1,.ptr 0 0),(35,.t (.sl (x.stops.map aR.t))),(36,.i x.stops.length),(37,.i k)],ob [(0,.box [.t (.i p),.t (.i x.cars),.t (.i x.room),.t (.sl (x.stops.map aR.t))])],1⟩) (fun k=>x.stops.length-k) 0 ⟨Nat.zero_le _,hsum⟩ (eT.of (by omega) (by simp) (by simp [go_sem,h4]) (by simp [go_sem,hp])) ?_;rintro k ⟨g1,g3⟩;refine aI ?_;simp [go_sem];refine bU (fun h=>?_) (fun h=>?_)
 rotate_left
 ·have:k=x.stops.length:=by omega
  subst this;simp [nB] at g3;simp [go_sem,g3]
 rw [aQ6 h] at g3;have hkk:IntKind.i64.wrap ((k:Int)+1)=((k+1:Nat):Int):=by rw [aO ((k:Int)+1) (by omega)];rfl
 generalize hs:x.stops[k]=s at *;simp [go_sem,h,hs,aR.t];refine aL rfl rfl rfl (args:=[.i 0,.i 10000,.fsl (aJ [s.x,s.y])]) (f:=83) (by simp [go_sem,aJ]) (by simp [go_sem,hB]) (aT.loose ((qT 0 10000 [s.x,s.y] (by simp)).spec _ _)) ?_;simp only [List.all_cons,List.all_nil,Bool.and_true];by_cases c1:(cY 0 10000 s.x&&cY 0 10000 s.y)=true
 rotate_left
 ·have c1':(cY 0 10000 s.x&&cY 0 10000 s.y)=false:=by simpa using c1
  have:r=false:=by rw [←g3,aA.stopB,c1'];simp
  rw [c1'];refine aI ?_;simp [go_sem,this]
 rw [c1];refine aI ?_;simp [go_sem];refine aL rfl rfl rfl (args:=[.i 0,.i 1048576,.fsl (aJ [s.ready,s.due])]) (f:=83) (by simp [go_sem,aJ]) (by simp [go_sem,hB]) (aT.loose ((qT 0 1048576 [s.ready,s.due] (by simp)).spec _ _)) ?_;simp only [List.all_cons,List.all_nil,Bool.and_true];by_cases c2:(cY 0 1048576 s.ready&&cY 0 1048576 s.due)=true
 rotate_left
 ·have c1':(cY 0 1048576 s.ready&&cY 0 1048576 s.due)=false:=by simpa using c2
  have:r=false:=by rw [←g3,aA.stopB,c1,c1'];simp
  rw [c1'];refine aI ?_;simp [go_sem,this]
 rw [c2];by_cases c3:s.due<s.ready
 ·have c3':¬s.ready≤s.due:=by omega
  have:r=false:=by rw [←g3,aA.stopB,c1,c2];simp [c3']
  refine aI ?_;simp [go_sem,this,c3]
 have c3':s.ready≤s.due:=by omega
 refine aI ?_;simp [go_sem,c3];refine aL rfl rfl rfl (args:=[.i 0,.i 1000,.fsl (aJ [s.service])]) (f:=83) (by simp [go_sem,aJ]) (by simp [go_sem,hB]) (aT.loose ((qT 0 1000 [s.service] (by simp)).spec _ _)) ?_;simp only [List.all_cons,List.all_nil,Bool.and_true];by_cases c4:cY 0 1000 s.service=true
 rotate_left
 ·have c1':cY 0 1000 s.service=false:=by simpa using c4
  have:r=false:=by rw [←g3,aA.stopB,c1'];simp
  rw [c1'];refine aI ?_;simp [go_sem,this]
 rw [c4];rw [aA.stopB,c1,c2,c4,hp] at g3;simp only [c3',decide_true,Bool.true_and,Bool.and_true] at g3;by_cases k0:k=0
 ·subst k0;rw [if_pos rfl] at g3;by_cases d1:s.demand=0
  ·by_cases d2:s.service=0
   ·simp only [d1,d2,decide_true,Bool.true_and] at g3;refine aD ?_;simp [go_sem,d1,d2];exact Next.mk 1 ⟨by omega,g3⟩ (eT.of (by omega) (by simp) (by simp [go_sem,h4,aO 1 (by omega)]) (by simp [go_sem])) (by omega)
   ·have:r=false:=by rw [←g3];simp [d2]
    refine aD ?_;simp [go_sem,d1,d2,this]
  ·have:r=false:=by rw [←g3];simp [d1]
   refine aD ?_;simp [go_sem,d1,this]
 rw [if_neg k0] at g3;have k0':¬(k:Int)=0:=by omega
 by_cases kp:(k:Int)≤p
 ·rw [if_pos kp] at g3;refine aD ?_;simp [go_sem,k0,k0',kp];refine aL rfl rfl rfl (args:=[.i 1,.i 1000,.fsl (aJ [s.demand])]) (f:=83) (by simp [go_sem,aJ]) (by simp [go_sem,hB]) (aT.loose ((qT 1 1000 [s.demand] (by simp)).spec _ _)) ?_;simp only [List.all_cons,List.all_nil,Bool.and_true];by_cases c5:cY 1 1000 s.demand=true
  ·rw [c5,Bool.true_and] at g3;rw [c5];refine aD ?_;simp [go_sem,hkk];exact Next.mk (k+1) ⟨by omega,g3⟩ (eT.of (by omega) (by simp) (by simp [go_sem,h4]) (by simp [go_sem])) (by omega)
  ·have c1':cY 1 1000 s.demand=false:=by simpa using c5
   have:r=false:=by rw [←g3,c1'];rfl
   rw [c1'];refine aI ?_;simp [go_sem,this]
 ·rw [if_neg kp] at g3;have hi:k-p<x.stops.length:=by omega
  have e1:(p:Int).toNat=p:=Int.toNat_natCast p;have e2:x.stops.getD (k-p) ⟨0,0,0,0,0,0⟩=x.stops[k-p]:=by simp [List.getD_eq_getElem?_getD,List.getElem?_eq_getElem hi]
  rw [e1,e2] at g3;have w3:IntKind.i64.wrap ((k:Int)-p)=((k-p:Nat):Int):=by rw [aO ((k:Int)-p) (by omega)];omega
  refine aD ?_;simp [go_sem,k0,k0',kp];refine bK [] rfl (by rw [hB];kernel_rfl) ?_;by_cases c5:s.demand=IntKind.i64.wrap (-x.stops[k-p].demand)
  ·simp only [c5,decide_true,Bool.true_and] at g3;refine aD ?_;simp [go_sem,w3,hi,aR.t,c5,hkk];exact Next.mk (k+1) ⟨by omega,g3⟩ (eT.of (by omega) (by simp) (by simp [go_sem,h4]) (by simp [go_sem])) (by omega)
  ·have:r=false:=by rw [←g3];simp [c5]
   refine aD ?_;simp [go_sem,w3,hi,aR.t,this,c5]
def gT (n:Int):Int:=min (max n 0) 10000
theorem oC (n:Int):0≤gT n∧gT n≤10000:=by unfold gT;omega
def fl (n:Int):Nat:=FloatKind.nearest .f64 (gT n)
theorem x8 (n:Int):fK (fl n) (gT n):=aYM _ (by have:=oC n;omega)
def sq (a b:aR):Int:=(gT a.x-gT b.x)*(gT a.x-gT b.x)+(gT a.y-gT b.y)*(gT a.y-gT b.y)
def bL (a b:aR):Int:=qB (sq a b)
theorem zZ (a b:aR):0≤sq a b∧sq a b≤200000000:=by
 have h:∀p:Int,-10000≤p∧p≤10000→0≤p*p∧p*p≤100000000:=fun p hp=>by
  have e:p*p=((p.natAbs*p.natAbs:Nat):Int):=by rw [Int.natCast_mul,←Int.natAbs_mul_self']
  have:=Nat.mul_le_mul (show p.natAbs≤10000 by omega) (show p.natAbs≤10000 by omega);rw [e];omega
 have h1:=h (gT a.x-gT b.x) (by have:=oC a.x;have:=oC b.x;omega);have h2:=h (gT a.y-gT b.y) (by have:=oC a.y;have:=oC b.y;omega);unfold sq;omega
theorem aHH (n:Int):Pure P 288 [.i n] (.t (.v (.float .f64 (fl n)))):=by
 refine aW Tryz.func288 rfl rfl (by simp [Tryz.f288]) (by simp [aE,aE.bndL]) (by simp [aE]) fun B hB hnx=>?_
 simp only [Tryz.f288] at hB ⊢;refine aI ?_;simp [go_sem];refine pA rfl (by simp [go_sem,hB]) (aVH (q:=.i64) (n:=gT n) rfl (by simp [go_sem,gT]) oU aFF rfl) ?_;refine aI ?_;simp [go_sem,fl]
theorem aMP (s:aR):Pure P 261 [.agg (s.t.map .t)] (.t (.v (.complex .f64 (fl s.x) (fl s.y)))):=by
 refine aW Tryz.func261 rfl rfl (by simp [Tryz.f261]) (by simp [aE,aE.bndL,aR.t]) (by simp [aE]) fun B hB hnx=>?_
 simp only [Tryz.f261] at hB ⊢;refine aI ?_;simp [go_sem,aR.t];refine bK [] rfl (by rw [hB];kernel_rfl) ?_;refine aI ?_;simp [go_sem];refine bQ rfl rfl rfl (args:=[.i s.x]) (f:=288) (by simp [go_sem]) (aHH s.x) ?_;refine aI ?_;simp [go_sem];refine bQ rfl rfl rfl (args:=[.i s.y]) (f:=288) (by simp [go_sem]) (aHH s.y) ?_;refine aI ?_;simp [go_sem];refine aF4 rfl (aJL (a:=fl s.x) (b:=fl s.y) rfl rfl rfl (by simp [go_sem]) (by simp [go_sem])) ?_;refine aI ?_;simp [go_sem]
theorem aB9 (a b:aR):Pure P 237 [.agg (a.t.map .t),.agg (b.t.map .t)] (.i (bL a b)):=by
 obtain ⟨re,im,re2,im2,e1,e2,e3⟩:=aUZ (x8 a.x) (x8 a.y) (x8 b.x) (x8 b.y) (oC _) (oC _) (oC _) (oC _);have e4:=bEZ e3 (by have:=zZ a b;unfold sq at this;omega);refine aW Tryz.func237 rfl rfl (by simp [Tryz.f237]) (by simp [aE,aE.bndL,aR.t]) (by simp [aE]) fun B hB hnx=>?_
 simp only [Tryz.f237] at hB ⊢;refine aI ?_;simp [go_sem,aR.t];refine bK [] rfl (by rw [hB];kernel_rfl) ?_;refine aI ?_;simp [go_sem];refine bQ rfl rfl rfl (args:=[.agg (a.t.map .t)]) (f:=261) (by simp [go_sem,aR.t]) (aMP a) ?_;refine aI ?_;simp [go_sem];refine bQ rfl rfl rfl (args:=[.agg (b.t.map .t)]) (f:=261) (by simp [go_sem,aR.t]) (aMP b) ?_;refine aI ?_;simp [go_sem];refine aF4 rfl (aVE rfl (by simp [go_sem]) (by simp [go_sem]) e1) ?_;refine aI ?_;simp [go_sem];refine pA rfl (by simp [go_sem,hB]) (aJM (a:=re) (b:=im) rfl rfl rfl (by simp [go_sem])) ?_;refine aI ?_;simp [go_sem];refine pA rfl (by simp [go_sem,hB]) (aVF (a:=re) (b:=im) rfl rfl rfl (by simp [go_sem])) ?_;refine aI ?_;simp [go_sem];refine pA rfl (by simp [go_sem,hB]) (aVG (b:=im) rfl (by simp [go_sem])) ?_;refine aI ?_;simp [go_sem];refine pA rfl (by simp [go_sem,hB]) (aJL (a:=re) (b:=Op.negFloat .f64 im) rfl rfl rfl (by simp [go_sem]) (by simp [go_sem])) ?_;refine aI ?_;simp [go_sem];refine pA rfl (by simp [go_sem,hB]) (aVD rfl (by simp [go_sem]) (by simp [go_sem]) e2) ?_;refine aI ?_;simp [go_sem];refine pA rfl (by simp [go_sem,hB]) (aJM (a:=re2) (b:=im2) rfl rfl rfl (by simp [go_sem])) ?_;refine aI ?_;simp [go_sem];refine pA rfl (by simp [go_sem,hB]) (aVI (b:=re2) rfl (by simp [go_sem]) aFF oU rfl e4) ?_;refine aI ?_;simp [go_sem];refine aL rfl rfl rfl (args:=[.i (sq a b)]) (f:=262) (by simp [go_sem,sq]) (by simp [go_sem,hB]) ((bBO (sq a b)).spec _ _) ?_;refine aI ?_;simp [go_sem,bL]
def aS (l:List Nat):List (List T):=l.map fun (n:Nat)=>[T.v (.int .u8 n)]
theorem kZ (l:List Nat):(aS l).length=l.length:=List.length_map _
theorem aSN (l:List Nat) (i:Nat) (h:i<(aS l).length):(aS l)[i]=[.v (.int .u8 (l[i]'(by rwa [kZ] at h):Nat))]:=by simp [aS]
theorem aME {σ:Nat→aG} {q:Nat} {a b:aG}:aB (aB σ q a) q b=aB σ q b:=by funext i;simp only [aB];split<;>rfl
theorem pU {σ:Nat→aG} {q:Nat} {a:aG} (h:σ q=a):aB σ q a=σ:=by
 funext i;simp only [aB];split
 ·subst_vars;rfl
 ·rfl
abbrev tK (b:List Nat) (i:Nat):aG:=.box [.t (.sl (aS b)),.i i]
def bD (b:List Nat) (i:Nat):Nat:=b.getD i 10
theorem aYY {b:List Nat} (h:∀c∈b,c<256) (i:Nat):bD b i<256:=by
 unfold bD;rw [List.getD_eq_getElem?_getD];cases hb:b[i]? with
 |none=>decide
 |some c=>exact h c (List.mem_of_getElem? hb)
theorem y8 {b:List Nat} {i:Nat} (h:b.length≤i):bD b i=10:=by simp [bD,h]
theorem sZ {σ:Nat→aG} {nx q:Nat} {b:List Nat} {i:Nat} (h:σ q=tK b i):aT P 132 [.ptr q 0] σ nx (.t (.v (.int .u8 (bD b i)))) σ nx:=by
 refine (cA (P:=P) Tryz.func132 rfl rfl (by simp [Tryz.f132]) fun B hB hnx hσ=>?_).spec;simp only [Tryz.f132] at hB ⊢;by_cases hi:(b.length:Int)≤i
 ·have e:=y8 (b:=b) (i:=i) (by omega);refine aI ?_;simp [go_sem];refine bK [] rfl (by rw [hB];kernel_rfl) ?_;refine aI ?_;simp [go_sem,h,kZ,hi,e]
 ·have hi':i<b.length:=by omega
  have e:bD b i=b[i]:=by simp [bD,hi']
  refine aI ?_;simp [go_sem];refine bK [] rfl (by rw [hB];kernel_rfl) ?_;refine aI ?_;simp [go_sem,h,kZ,hi];refine bK [] rfl (by rw [hB];kernel_rfl) ?_;refine aI ?_;simp [go_sem,h,kZ,hi',aSN,e]
def jR (c:Nat):Bool:=decide (48≤c)&&decide (c≤57)
theorem aT7 (c:Nat):Pure P 133 [.t (.v (.int .u8 c))] (.b (jR c)):=by
 refine aW Tryz.func133 rfl rfl (by simp [Tryz.f133]) (by simp [aE,aE.bndL]) (by simp [aE]) fun B hB hnx=>?_
 simp only [Tryz.f133] at hB ⊢;by_cases h:(48:Int)≤c
 ·have h':48≤c:=by omega
  refine aI ?_;simp [go_sem,h,h',jR];omega
 ·have h':¬48≤c:=by omega
  refine aI ?_;simp [go_sem,h,h',jR]
def fB (b:List Nat):Nat→Nat→Nat→Nat→Nat×Nat×Nat
 |0,i,n,d=>(n,d,i)
 |f+1,i,n,d=>if jR (bD b i)=true then fB b f (i+1) (10*n+(bD b i-48)) (d+1) else (n,d,i)
theorem aHT (b:List Nat):∀f i n d,i≤(fB b f i n d).2.2∧(fB b f i n d).2.2≤i+f∧d≤(fB b f i n d).2.1∧(fB b f i n d).2.1+i=(fB b f i n d).2.2+d∧(i≤b.length→(fB b f i n d).2.2≤b.length)
 |0,i,n,d=>by simp [fB];omega
 |f+1,i,n,d=>by
  rw [fB];split
  ·rename_i h;have ih:=aHT b f (i+1) (10*n+(bD b i-48)) (d+1)
   have hb:i<b.length:=by
    by_cases hi:i<b.length
    ·exact hi
    ·rw [y8 (by omega)] at h;exact absurd h (by decide)
   omega
  ·simp;omega
def jZ (b:List Nat) (i:Nat):Nat:=if h:i<b.length∧bD b i≠10 then jZ b (i+1) else i
  termination_by b.length-i
theorem bBM (b:List Nat) (i:Nat):i≤jZ b i:=by
 fun_induction jZ b i with
 |case1 i h ih=>omega
 |case2 i h=>omega
def lR (b:List Nat) (next:Nat→List Int→List Int×Bool×Nat) (neg:Bool) (l:List Int) (r:Nat×Nat×Nat):List Int×Bool×Nat:=
 if r.2.1=0∨(bD b r.2.2≠32∧bD b r.2.2≠35∧bD b r.2.2≠10) then ([],false,r.2.2)
 else next r.2.2 (l++[if neg then -(r.1:Int) else r.1])
def gX (b:List Nat):Nat→Nat→List Int→List Int×Bool×Nat
 |0,i,_=>([],false,i)
 |f+1,i,l=>
  if bD b i=32 then gX b f (i+1) l
  else if bD b i=35 then (l,true,jZ b i+1)
  else if bD b i=10 then (l,true,i+1)
  else lR b (gX b f) (decide (bD b i=45)) l (fB b 12 (if bD b i=45 then i+1 else i) 0 0)
theorem sY {b:List Nat} {i:Nat} (h:bD b i≠10):i<b.length:=by
 by_cases hi:i<b.length
 ·exact hi
 ·exact absurd (y8 (by omega)) h
theorem aYZ {b:List Nat} {next:Nat→List Int→List Int×Bool×Nat} {neg:Bool} {l:List Int} {r:Nat×Nat×Nat} {L:Nat} (h1:∀j l',(next j l').1.length≤l'.length+L) (h:1≤l.length+L+1):(lR b next neg l r).1.length≤l.length+1+L:=by
 unfold lR;split
 ·simp
 ·have:=h1 r.2.2 (l++[if neg then -(r.1:Int) else r.1]);rw [List.length_append] at this;simpa using this
theorem aCX (b:List Nat):∀f i l,(gX b f i l).1.length≤l.length+f
 |0,i,l=>by simp [gX]
 |f+1,i,l=>by
  rw [gX];split
  ·have:=aCX b f (i+1) l;omega
  ·split
   ·simp
   ·split
    ·simp
    ·have:=aYZ (b:=b) (next:=gX b f) (neg:=decide (bD b i=45)) (l:=l) (r:=fB b 12 (if bD b i=45 then i+1 else i) 0 0) (L:=f) (fun j l'=>aCX b f j l') (by omega);omega
def lC (b:List Nat) (i:Nat):List Int×Bool×Nat:=gX b (b.length+1) i []
def nL (r:List Int×Bool×Nat):AV:=.tup [.t (.sl (aJ r.1)),.b r.2.1]
structure LX where
 lb:Nat
 f:Nat
 i:Nat
 n:Nat
 d:Nat
 neg:Bool
 j:Nat
 l:List Int
 σ:Nat→aG
 nx:Nat
structure LX.I (σ0:Nat→aG) (nx0 q:Nat) (b:List Nat) (R:List Int×Bool×Nat) (x:LX):Prop where
 go:(x.lb=0∧b.length<x.f+x.i∧gX b x.f x.i x.l=R)∨(x.lb=3∧x.d≤12∧b.length+x.d≤x.f+x.i∧x.d≤x.i∧x.l.length+x.d≤x.i∧x.n<10^x.d∧lR b (gX b x.f) x.neg x.l (fB b (12-x.d) x.i x.n x.d)=R)∨(x.lb=1∧(x.l,true,jZ b x.i+1)=R)∨(x.lb=2∧(x.l,true,x.i+1)=R)
 le:x.i≤b.length
 len:x.l.length≤x.i
 rd:x.σ q=tK b x.i
 arr:x.σ x.j= .arr 1 (aJ x.l)
 ne:x.j≠q
 jl:nx0≤x.j
 jn:x.j<x.nx
 old:∀y,y<nx0→y≠q→x.σ y=σ0 y
def LX.st (q:Nat) (x:LX):St:=⟨sl ([(0,.ptr q 0),(2,.fsl []),(3,.b false),(4,.ref x.j)]++(if x.lb=3 then [(5,.i x.n),(6,.i x.d),(7,.b x.neg)] else [])),x.σ,x.nx⟩
def LX.m (b:List Nat) (x:LX):Nat:=20*(b.length+1-(if x.lb=3 then x.i-x.d else x.i))+(if x.lb=3 then 12-x.d else if x.lb=0 then 15 else if x.lb=1 then 2 else 1)
theorem aD8 {d n:Nat} (h:n<10^d) (hd:d≤12):n<1000000000000:=Nat.lt_of_lt_of_le h (Nat.pow_le_pow_right (by decide) hd)
theorem aW9 {σ:Nat→aG} {nx q:Nat} {b:List Nat} {i:Nat} (h:σ q=tK b i) (hq:q<nx) (hb:b.length≤4096) (hb8:∀c∈b,c<256) (hi:i≤b.length):
  aT P 81 [.ptr q 0] σ nx (nL (lC b i)) (aB σ q (tK b (lC b i).2.2)) nx:=by
 refine fO (P:=P) Tryz.func81 rfl rfl (by simp [Tryz.f81]) hq (by simp [go_sem]) (by simp [go_sem,nL]) fun hk B hB hnx hσ=>?_
 simp only [Tryz.f81] at hB ⊢;generalize hR:lC b i=R;refine tW ?_;have hm:bH=4294967296:=rfl;generalize hpost:(fun (e:Exit) (s:St)=>∃t,aH B s t∧_)=post;refine aI ?_;simp [go_sem];refine aGD LX.lb (LX.I σ nx q b R) (LX.st q) (LX.m b) (fun x hx=>?_) ?_ ?_
 ·rcases hx.go with ⟨h,_⟩ | ⟨h,_⟩ | ⟨h,_⟩ | ⟨h,_⟩<;>rw [h]<;>rfl
 ·rintro ⟨lb,f,i,n,d,neg,j,l,σ',nx'⟩ ⟨h1,h2,h3,h4,h5,h6,h7,h8,h9⟩ fall;have hj0:q≠j:=fun e=>h6 e.symm
  have hii:IntKind.i64.wrap ((i:Int)+1)=((i+1:Nat):Int):=by simp only at h2;rw [aO ((i:Int)+1) (by omega)];rfl
  simp only at h1 h2 h3 h4 h5 h6 h7 h8 h9;rcases h1 with ⟨rfl,g1,g2⟩ | ⟨rfl,g1,g2,g3,g4,g5,g6⟩ | ⟨rfl,g1⟩ | ⟨rfl,g1⟩
  ·show Kp P B (.code (i7 _ 0) :: _) _ _ _;simp [i7,findLabel];obtain ⟨f,rfl⟩:∃f',f=f'+1:=⟨f-1,by omega⟩;rw [gX] at g2;refine aD ?_;simp [go_sem,LX.st];refine aL rfl rfl rfl (args:=[.ptr q 0]) (f:=132) (by simp [go_sem]) (by simp [go_sem,hB]) (sZ h4) ?_;by_cases c1:bD b i=32
   ·rw [if_pos c1] at g2;have hlt:=sY (b:=b) (i:=i) (by omega);rw [c1];refine aD ?_;simp [go_sem,h4,hii];refine ⟨⟨0,f,i+1,0,0,false,j,l,_,nx'⟩,⟨.inl ⟨rfl,by simp only;omega,g2⟩,hlt,by simp only;omega,by simp [aB],by simp [aB,h6,h5],h6,h7,h8,?_⟩,rfl,aH.slots (by simp [go_sem]) rfl rfl,by simp [LX.m];omega⟩;intro y hy hyq;simp [aB,hyq,h9 y hy hyq]
   rw [if_neg c1] at g2;by_cases c2:bD b i=35
   ·rw [if_pos c2] at g2;rw [c2];refine aD ?_;simp [go_sem];exact ⟨⟨1,f,i,0,0,false,j,l,σ',nx'⟩,⟨.inr (.inr (.inl ⟨rfl,g2⟩)),h2,h3,h4,h5,h6,h7,h8,h9⟩,rfl,aH.slots (by simp [go_sem]) rfl rfl,by simp [LX.m]⟩
   rw [if_neg c2] at g2;by_cases c3:bD b i=10
   ·rw [if_pos c3] at g2;rw [c3];refine aD ?_;simp [go_sem];exact ⟨⟨2,f,i,0,0,false,j,l,σ',nx'⟩,⟨.inr (.inr (.inr ⟨rfl,g2⟩)),h2,h3,h4,h5,h6,h7,h8,h9⟩,rfl,aH.slots (by simp [go_sem]) rfl rfl,by simp [LX.m]⟩
   rw [if_neg c3] at g2;have hlt:=sY (b:=b) (i:=i) c3;have d1:¬(bD b i:Int)=32:=by omega
   have d2:¬(bD b i:Int)=35:=by omega
   have d3:¬(bD b i:Int)=10:=by omega
   refine aD ?_;simp [go_sem,d1,d2,d3,c1,c2,c3];refine aL rfl rfl rfl (args:=[.ptr q 0]) (f:=132) (by simp [go_sem]) (by simp [go_sem,hB]) (sZ h4) ?_;by_cases c4:bD b i=45
   ·rw [if_pos c4,decide_eq_true c4] at g2;rw [c4];refine bG hB 21 ?_;simp [go_sem,h4,hii];refine fall 3 _ ⟨⟨3,f,i+1,0,0,true,j,l,aB σ' q (tK b (i+1)),nx'⟩,⟨.inr (.inl ⟨rfl,by simp,by simp only;omega,by simp,by simp only;omega,by simp,g2⟩),hlt,by simp only;omega,by simp [aB],by simp [aB,h6,h5],h6,h7,h8,?_⟩,rfl,aH.slots (by simp [go_sem]) rfl rfl,by simp [LX.m];omega⟩;intro y hy hyq;simp [aB,hyq,h9 y hy hyq]
   ·rw [if_neg c4,decide_eq_false c4] at g2;have d4:¬(bD b i:Int)=45:=by omega
    refine bG hB 12 ?_;simp [go_sem,c4,d4];exact fall 3 _ ⟨⟨3,f,i,0,0,false,j,l,σ',nx'⟩,⟨.inr (.inl ⟨rfl,by simp,by simp only;omega,by simp,by simp only;omega,by simp,g2⟩),h2,h3,h4,h5,h6,h7,h8,h9⟩,rfl,aH.slots (by simp [go_sem]) rfl rfl,by simp [LX.m]⟩
  ·show Kp P B (.code (i7 _ 3) :: _) _ _ _;simp [i7,findLabel];refine aD ?_;simp [go_sem,LX.st];refine aL rfl rfl rfl (args:=[.ptr q 0]) (f:=132) (by simp [go_sem]) (by simp [go_sem,hB]) (sZ h4) ?_;have hc8:=aYY hb8 i;refine aD ?_;simp [go_sem];refine aL rfl rfl rfl (args:=[.t (.v (.int .u8 (bD b i)))]) (f:=133) (by simp [go_sem]) (by simp [go_sem,hB]) ((aT7 (bD b i)).spec _ _) ?_;by_cases hgo:jR (bD b i)=true∧d<12
   ·obtain ⟨hdig,hd12⟩:=hgo;have hd12':(d:Int)<12:=by omega
    have hlt:i<b.length:=sY (fun e=>by rw [e] at hdig;exact absurd hdig (by decide));have hdg:48≤bD b i∧bD b i≤57:=by simpa [jR] using hdig
    rw [show 12-d=(12-(d+1))+1 by omega,fB,if_pos hdig] at g6;rw [hdig];have hn:=aD8 g5 g1;have w1:IntKind.i64.wrap (10*(n:Int))=10*n:=aO _ (by omega);have w2:IntKind.u8.wrap ((bD b i:Int)-48)=((bD b i-48:Nat):Int):=by rw [u8w _ (by omega)];omega
    have w3:IntKind.i64.wrap ((bD b i-48:Nat):Int)=((bD b i-48:Nat):Int):=wJ _ (by omega);have w4:IntKind.i64.wrap (10*(n:Int)+((bD b i-48:Nat):Int))=((10*n+(bD b i-48):Nat):Int):=by rw [aO _ (by omega)];omega
    have w5:IntKind.i64.wrap ((d:Int)+1)=((d+1:Nat):Int):=by rw [aO _ (by omega)];rfl
    refine aD ?_;simp [go_sem,hd12',hd12,w1,w2,w3,w4,w5,h4,hii];refine ⟨⟨3,f,i+1,10*n+(bD b i-48),d+1,neg,j,l,_,nx'⟩,⟨.inr (.inl ⟨rfl,(show d+1≤12 by omega),(show b.length+(d+1)≤f+(i+1) by omega),(show d+1≤i+1 by omega),(show l.length+(d+1)≤i+1 by omega),(show 10*n+(bD b i-48)<10^(d+1) by rw [Nat.pow_succ];omega),g6⟩),hlt,by simp only;omega,by simp [aB],by simp [aB,h6,h5],h6,h7,h8,?_⟩,rfl,aH.slots (by simp [go_sem]) rfl rfl,by simp [LX.m];omega⟩;intro y hy hyq;simp [aB,hyq,h9 y hy hyq]
   have hstop:fB b (12-d) i n d=(n,d,i):=by
    by_cases hd:d<12
    ·have hdig:¬jR (bD b i)=true:=fun e=>hgo ⟨e,hd⟩
     rw [show 12-d=(12-(d+1))+1 by omega,fB,if_neg hdig]
    ·rw [show 12-d=0 by omega,fB]
   rw [hstop] at g6
   have hgo2:(jR (bD b i)&&decide ((d:Int)<12))=false:=by
    cases hdig:jR (bD b i)
    ·rfl
    ·have:¬(d:Int)<12:=fun e=>hgo ⟨hdig,by omega⟩
     simp [this]
   have hskip:∃bb cc:Bool,jR (bD b i)=bb∧decide ((d:Int)<12)=cc∧(bb&&cc)=false:=⟨_,_,rfl,rfl,hgo2⟩;obtain ⟨bb,cc,hbb,hcc,hbc⟩:=hskip;rw [hbb];cases bb
   ·refine aD ?_;simp [go_sem];refine aL rfl rfl rfl (args:=[.ptr q 0]) (f:=132) (by simp [go_sem]) (by simp [go_sem,hB]) (sZ h4) ?_;by_cases hd0:d=0
    ·have hRf:R=([],false,i):=by rw [←g6,lR,if_pos (.inl hd0)]
     refine aD ?_;simp [go_sem,hd0];rw [←hpost];refine ⟨_,aH.loose,.inl rfl,?_⟩;simp [go_sem,hRf,nL,h4,aJ,cQ];exact ⟨by omega,fun y hy hyq=>h9 y hy hyq⟩
    by_cases hbad:bD b i≠32∧bD b i≠35∧bD b i≠10
    ·have hRf:R=([],false,i):=by rw [←g6,lR,if_pos (.inr hbad)]
     obtain ⟨e1,e2,e3⟩:=hbad;have d1:¬(bD b i:Int)=32:=by omega
     have d2:¬(bD b i:Int)=35:=by omega
     have d3:¬(bD b i:Int)=10:=by omega
     refine aD ?_;simp [go_sem,hd0,d1,d2,d3,e1,e2,e3];rw [←hpost];refine ⟨_,aH.loose,.inl rfl,?_⟩;simp [go_sem,hRf,nL,h4,aJ,cQ];exact ⟨by omega,fun y hy hyq=>h9 y hy hyq⟩
    rw [lR,if_neg (by rintro (e | e);exact hd0 e;exact hbad e)] at g6;have hlen:(aJ l).length=l.length:=List.length_map _;have hcap:l.length+1≤bH:=by omega
    have hn:=aD8 g5 g1;have w6:IntKind.i64.wrap (-(n:Int))= -(n:Int):=aO _ (by omega);have hso:∀z:Int,aJ l++[[.i z]]=aJ (l++[z]):=fun z=>by simp [aJ]
    rcases (by omega:bD b i=32∨bD b i=35∨bD b i=10) with e1 | e1 | e1
    all_goals
     rw [e1];cases neg
     all_goals
      refine aD ?_;simp [go_sem,hd0,h5,hlen,hcap,w6]
    all_goals first
     |refine ⟨⟨0,f,i,0,0,false,nx',l++[(n:Int)],_,nx'+1⟩,⟨.inl ⟨rfl,(show b.length<f+i by omega),g6⟩,h2,(show (l++[(n:Int)]).length≤i by rw [List.length_append];simp only [List.length_cons,List.length_nil];omega),?_,(by simp only [aB,if_true];rw [hso]),(show nx'≠q by omega),(show nx≤nx' by omega),(show nx'<nx'+1 by omega),?_⟩,rfl,aH.slots (by simp [go_sem]) rfl rfl,by simp [LX.m];omega⟩
     |refine ⟨⟨0,f,i,0,0,false,nx',l++[-(n:Int)],_,nx'+1⟩,⟨.inl ⟨rfl,(show b.length<f+i by omega),g6⟩,h2,(show (l++[-(n:Int)]).length≤i by rw [List.length_append];simp only [List.length_cons,List.length_nil];omega),?_,(by simp only [aB,if_true];rw [hso]),(show nx'≠q by omega),(show nx≤nx' by omega),(show nx'<nx'+1 by omega),?_⟩,rfl,aH.slots (by simp [go_sem]) rfl rfl,by simp [LX.m];omega⟩
    all_goals first
     |(simp [aB,hj0,h4,show q≠nx' by omega];done)
     |(intro y hy hyq
       simp [aB,show y≠nx' by omega,show y≠j by omega]
       exact h9 y hy hyq)
   ·have hd:¬(d:Int)<12:=by cases cc<;>simp_all
    refine aD ?_;simp [go_sem,hd];refine aL rfl rfl rfl (args:=[.ptr q 0]) (f:=132) (by simp [go_sem]) (by simp [go_sem,hB]) (sZ h4) ?_;by_cases hd0:d=0
    ·have hRf:R=([],false,i):=by rw [←g6,lR,if_pos (.inl hd0)]
     refine aD ?_;simp [go_sem,hd0];rw [←hpost];refine ⟨_,aH.loose,.inl rfl,?_⟩;simp [go_sem,hRf,nL,h4,aJ,cQ];exact ⟨by omega,fun y hy hyq=>h9 y hy hyq⟩
    by_cases hbad:bD b i≠32∧bD b i≠35∧bD b i≠10
    ·have hRf:R=([],false,i):=by rw [←g6,lR,if_pos (.inr hbad)]
     obtain ⟨e1,e2,e3⟩:=hbad;have d1:¬(bD b i:Int)=32:=by omega
     have d2:¬(bD b i:Int)=35:=by omega
     have d3:¬(bD b i:Int)=10:=by omega
     refine aD ?_;simp [go_sem,hd0,d1,d2,d3,e1,e2,e3];rw [←hpost];refine ⟨_,aH.loose,.inl rfl,?_⟩;simp [go_sem,hRf,nL,h4,aJ,cQ];exact ⟨by omega,fun y hy hyq=>h9 y hy hyq⟩
    rw [lR,if_neg (by rintro (e | e);exact hd0 e;exact hbad e)] at g6;have hlen:(aJ l).length=l.length:=List.length_map _;have hcap:l.length+1≤bH:=by omega
    have hn:=aD8 g5 g1;have w6:IntKind.i64.wrap (-(n:Int))= -(n:Int):=aO _ (by omega);have hso:∀z:Int,aJ l++[[.i z]]=aJ (l++[z]):=fun z=>by simp [aJ]
    rcases (by omega:bD b i=32∨bD b i=35∨bD b i=10) with e1 | e1 | e1
    all_goals
     rw [e1];cases neg
     all_goals
      refine aD ?_;simp [go_sem,hd0,h5,hlen,hcap,w6]
    all_goals first
     |refine ⟨⟨0,f,i,0,0,false,nx',l++[(n:Int)],_,nx'+1⟩,⟨.inl ⟨rfl,(show b.length<f+i by omega),g6⟩,h2,(show (l++[(n:Int)]).length≤i by rw [List.length_append];simp only [List.length_cons,List.length_nil];omega),?_,(by simp only [aB,if_true];rw [hso]),(show nx'≠q by omega),(show nx≤nx' by omega),(show nx'<nx'+1 by omega),?_⟩,rfl,aH.slots (by simp [go_sem]) rfl rfl,by simp [LX.m];omega⟩
     |refine ⟨⟨0,f,i,0,0,false,nx',l++[-(n:Int)],_,nx'+1⟩,⟨.inl ⟨rfl,(show b.length<f+i by omega),g6⟩,h2,(show (l++[-(n:Int)]).length≤i by rw [List.length_append];simp only [List.length_cons,List.length_nil];omega),?_,(by simp only [aB,if_true];rw [hso]),(show nx'≠q by omega),(show nx≤nx' by omega),(show nx'<nx'+1 by omega),?_⟩,rfl,aH.slots (by simp [go_sem]) rfl rfl,by simp [LX.m];omega⟩
    all_goals first
     |(simp [aB,hj0,h4,show q≠nx' by omega];done)
     |(intro y hy hyq
       simp [aB,show y≠nx' by omega,show y≠j by omega]
       exact h9 y hy hyq)
  ·show Kp P B (.code (i7 _ 1) :: _) _ _ _;simp [i7,findLabel];refine aD ?_;simp [go_sem,LX.st];refine aL rfl rfl rfl (args:=[.ptr q 0]) (f:=132) (by simp [go_sem]) (by simp [go_sem,hB]) (sZ h4) ?_;by_cases c1:bD b i=10
   ·have hr:jZ b i=i:=by rw [jZ,dif_neg (by rintro ⟨_,e⟩;exact e c1)]
    rw [hr] at g1;rw [c1];refine bG hB 4 ?_;simp [go_sem];exact fall 2 _ ⟨⟨2,f,i,0,0,false,j,l,σ',nx'⟩,⟨.inr (.inr (.inr ⟨rfl,g1⟩)),h2,h3,h4,h5,h6,h7,h8,h9⟩,rfl,aH.slots (by simp [go_sem]) rfl rfl,by simp [LX.m]⟩
   ·have hlt:=sY c1;have hr:jZ b i=jZ b (i+1):=by rw [jZ,dif_pos ⟨hlt,c1⟩]
    rw [hr] at g1;have d1:¬(bD b i:Int)=10:=by omega
    refine aD ?_;simp [go_sem,c1,d1,h4,hii];refine ⟨⟨1,f,i+1,0,0,false,j,l,_,nx'⟩,⟨.inr (.inr (.inl ⟨rfl,g1⟩)),hlt,by simp only;omega,by simp [aB],by simp [aB,h6,h5],h6,h7,h8,?_⟩,rfl,aH.slots (by simp [go_sem]) rfl rfl,by simp [LX.m];omega⟩;intro y hy hyq;simp [aB,hyq,h9 y hy hyq]
  ·show Kp P B (.code (i7 _ 2) :: _) _ _ _;simp [i7,findLabel];refine aD ?_;simp [go_sem,LX.st,h4,hii];rw [←hpost];refine ⟨_,aH.freeze (q:=j) (sz:=1) (es:=aJ l) (by simp [go_sem,h6,h5]),.inl rfl,?_⟩;simp [go_sem,bB,dC,←g1,nL,hj0];refine ⟨by omega,by simp [bB.frzL,bB],fun y hy hyq=>?_⟩;have hyj:y≠j:=by omega
   rw [if_neg hyj,if_neg hyq,h9 y hy hyq];rcases hk y with e | ⟨e,_⟩
   ·rw [e]
   ·exact yC (q:=j) (es:=aJ l) (by omega) (σ y) e
 ·intro J hJ;refine bG hB 13 ?_;simp [go_sem];refine jC 4 1 (by simp [go_sem]) ?_;refine hJ 0 _ ⟨⟨0,b.length+1,i,0,0,false,nx,[],_,nx+1⟩,⟨.inl ⟨rfl,by simp only;omega,hR⟩,hi,by simp,?_,by simp [aB,aJ],by simp only;omega,Nat.le_refl _,by simp,?_⟩,rfl,aH.slots (by simp [go_sem]) rfl rfl⟩
  ·simp [aB,h];omega
  ·intro y hy _;simp [aB];omega
theorem bBN (b:List Nat) (i:Nat) (h:i≤b.length):jZ b i≤b.length:=by
 fun_induction jZ b i with
 |case1 i h ih=>exact ih (by omega)
 |case2 i h2=>exact h
theorem aCW (b:List Nat):∀f i l,i≤b.length→(gX b f i l).2.1=true→i<(gX b f i l).2.2∧(gX b f i l).2.2≤b.length+1
 |0,i,l,_,h=>by simp [gX] at h
 |f+1,i,l,hi,h=>by
  rw [gX] at h ⊢;split at h
  ·rename_i c1;rw [if_pos c1];have:=aCW b f (i+1) l (sY (by omega)) h;omega
  ·rename_i c1;rw [if_neg c1];split at h
   ·rename_i c2;rw [if_pos c2];have h1:=bBM b i;have h2:=bBN b i hi;simp only;omega
   ·rename_i c2;rw [if_neg c2];split at h
    ·rename_i c3;rw [if_pos c3];simp only;omega
    ·rename_i c3;rw [if_neg c3];have hlt:=sY c3;have hr:=aHT b 12 (if bD b i=45 then i+1 else i) 0 0;generalize fB b 12 (if bD b i=45 then i+1 else i) 0 0=r at *;unfold lR at h ⊢;split at h
     ·simp at h
     ·rename_i c4;rw [if_neg c4];have hr5:r.2.2≤b.length:=hr.2.2.2.2 (by split<;>omega);have hr6:i≤r.2.2:=by have:=hr.1;split at this<;>omega
      have:=aCW b f _ _ hr5 h;omega
theorem aW8 (b:List Nat) (i:Nat) (hi:i≤b.length) (h:(lC b i).2.1=true):i<(lC b i).2.2∧(lC b i).2.2≤b.length+1:=aCW b _ i [] hi h
def kH (b:List Nat):Nat→Nat→List (List Int)→Option (List (List Int))
 |0,_,a=>some a
 |f+1,i,a=>if i<b.length then (if (lC b i).2.1=true then kH b f (lC b i).2.2 (if (lC b i).1=[] then a else a++[(lC b i).1]) else none) else some a
def eA (b:List Nat):List (List Int)×Int:=if 4096<b.length then ([],6) else match kH b (b.length+1) 0 [] with
 |none=>([],2)
 |some a=>(a,0)
theorem aK1 (b:List Nat) (hb:b.length<2^62) (hb8:∀c∈b,c<256):Pure P 40 [.t (.sl (aS b))] (.tup [.t (.sl ((eA b).1.map aY)),.i (eA b).2]):=by
 refine aW Tryz.func40 rfl rfl (by simp [Tryz.f40]) (by simp [aE,aE.bndL]) (by simp [aE,aE.bndL]) fun B hB hnx=>?_
 simp only [Tryz.f40] at hB ⊢;generalize hR:eA b=R;rw [eA] at hR;by_cases hbig:(4096:Int)<b.length
 ·rw [if_pos (by omega)] at hR;subst hR;refine aI ?_;simp [go_sem,kZ,hbig]
 rw [if_neg (by omega)] at hR;have hm:bH=4294967296:=rfl;refine aI ?_;simp [go_sem,kZ,hbig];refine jC 4 1 (by simp [go_sem]) ?_
 refine bA (α:=Nat×Nat×List (List Int)×Nat×(Nat→aG)×Nat) (fun (f,i,a,j,σ,nx)=>b.length<f+i∧a.length≤i∧i≤b.length+1∧kH b f i a=kH b (b.length+1) 0 []∧σ 0=tK b i∧σ j= .arr 1 (a.map aY)∧0<j∧j<nx)
  (fun (f,i,a,j,σ,nx)=>⟨sl [(0,.t (.sl (aS b))),(4,.ref j),(5,.ptr 0 0)],σ,nx⟩) (fun x=>b.length+1-x.2.1) (b.length+1,0,[],1,_,2) ?_ (aH.slots (by simp [go_sem]) rfl rfl) ?_
 ·exact ⟨by omega,by simp,by omega,rfl,by simp [aB],by simp [aB],by omega,by omega⟩
 rintro ⟨f,i,a,j,σ,nx⟩ ⟨g1,g2,g3,g4,g5,g6,g7,g8⟩;rw [←g4] at hR;by_cases hi:(i:Int)<b.length
 rotate_left
 ·have hRf:R=(a,0):=by
   rw [←hR];cases f with
   |zero=>rfl
   |succ f=>rw [kH,if_neg (by omega)]
  refine aI ?_;simp [go_sem,g5,kZ,hi,g6,hRf]
 have hi':i<b.length:=by omega
 obtain ⟨f,rfl⟩:∃f',f=f'+1:=⟨f-1,by omega⟩;rw [kH,if_pos hi'] at hR g4;have hin:=aW8 b i (by omega);have hsp:=aW9 (σ:=σ) (nx:=nx) (q:=0) (b:=b) (i:=i) g5 (by omega) (by omega) hb8 (by omega);generalize lC b i=r at *;refine aI ?_;simp [go_sem,g5,kZ,hi];refine aL rfl rfl rfl (args:=[.ptr 0 0]) (f:=81) (by simp [go_sem]) (by simp [go_sem,hB]) hsp ?_;by_cases hok:r.2.1=true
 rotate_left
 ·have hok':r.2.1=false:=by simpa using hok
  rw [if_neg hok] at hR;have hRf:R=([],2):=hR.symm;refine aI ?_;simp [go_sem,nL,hok',hRf]
 rw [if_pos hok] at hR g4;have hin:=hin hok;by_cases hnil:r.1=[]
 ·rw [if_pos hnil] at hR g4;refine aI ?_;simp [go_sem,nL,hok,hnil,aJ];refine Next.mk (f,r.2.2,a,j,_,nx) ?_ (aH.slots (by simp [go_sem]) rfl rfl) (by simp only;omega);exact ⟨by simp only;omega,by simp only;omega,by simp only;omega,g4,by simp [aB],by simp [aB,show ¬j=0 by omega,g6],g7,g8⟩
 ·rw [if_neg hnil] at hR g4;have hpos:0<r.1.length:=List.length_pos_iff.2 hnil;have hcap:a.length+1≤bH:=by omega
  refine aI ?_;simp [go_sem,nL,hok,aJ,hpos,show ¬j=0 by omega,g6,hcap];refine Next.mk (f,r.2.2,a++[r.1],nx,_,nx+1) ?_ (aH.slots (by simp [go_sem]) rfl rfl) (by simp only;omega);refine ⟨by simp only;omega,(show (a++[r.1]).length≤r.2.2 by rw [List.length_append];simp only [List.length_cons,List.length_nil];omega),by simp only;omega,g4,?_,?_,by simp only;omega,by simp only;omega⟩
  ·simp [aB,show ¬0=nx by omega,show ¬0=j by omega]
  ·simp [aB,aY,aJ]
def tP (l:List Int):aR:=⟨l.getD 0 0,l.getD 1 0,l.getD 2 0,l.getD 3 0,l.getD 4 0,l.getD 5 0⟩
theorem bEE (l:List Int) (h:l.length=6):Pure P 43 [.t (.sl (aJ l))] (.agg ((tP l).t.map .t)):=by
 obtain ⟨a,b,c,d,e,f,rfl⟩:∃a b c d e f,l=[a,b,c,d,e,f]:=by
  match l,h with
  |[a,b,c,d,e,f],_=>exact ⟨a,b,c,d,e,f,rfl⟩
 refine aW Tryz.func43 rfl rfl (by simp [Tryz.f43]) (by simp [aE,aE.bndL]) (by simp [aE,aE.bndL,aR.t]) fun B hB hnx=>?_
 simp only [Tryz.f43] at hB ⊢;refine aI ?_;simp [go_sem];refine aF0 (es:=aJ [a,b,c,d,e,f]) rfl (by simp [go_sem,hB]) rfl aO1 rfl (by simp [go_sem]) (by simp [aJ]) (by simp [aJ]) ?_;refine aD ?_;simp [go_sem,aJ,tP,aR.t]
def lS (l:List Int):Bool:=decide (l.length≠6)
theorem aY3 (l:List Int):Pure P 41 [.t (.sl (aJ l))] (.b (lS l)):=by
 refine aW Tryz.func41 rfl rfl (by simp [Tryz.f41]) (by simp [aE,aE.bndL]) (by simp [aE]) fun B hB hnx=>?_
 simp only [Tryz.f41] at hB ⊢;have hlen:(aJ l).length=l.length:=List.length_map _;refine aI ?_;simp [go_sem,hlen,lS];omega
def oI:Nat→List (List Int)→Int
 |_,[]=>-1
 |k,l :: r=>if lS l=true then k else oI (k+1) r
theorem aL8:∀k (r:List (List Int)),decide (0≤oI k r)=r.any lS
 |k,[]=>by simp [oI]
 |k,l :: r=>by
  rw [oI,List.any_cons];split
  ·rename_i h;rw [h];simp
  ·rename_i h;have h':lS l=false:=by simpa using h
   rw [h',Bool.false_or];exact aL8 (k+1) r
theorem aWC (r:List (List Int)) (hr:r.length<2^62):Pure P 82 [.t (.sl (r.map aY)),.fn (.func 41) [] []] (.i (oI 0 r)):=by
 refine aW Tryz.func82 rfl rfl (by simp [Tryz.f82]) (by simp [aE,aE.bndL]) (by simp [aE]) fun B hB hnx=>?_
 simp only [Tryz.f82] at hB ⊢;refine aI ?_;simp [go_sem];refine bA (α:=Nat) (fun k=>k≤r.length∧oI k (r.drop k)=oI 0 r) (fun k=>⟨sl [(0,.t (.sl (r.map aY))),(1,.fn (.func 41) [] []),(7,.i r.length),(8,.i k)],dR,0⟩) (fun k=>r.length-k) 0 ⟨Nat.zero_le _,rfl⟩ (aH.slots (by simp [go_sem]) rfl rfl) ?_;rintro k ⟨h1,h2⟩;refine aI ?_;simp [go_sem];refine bU (fun h=>?_) (fun h=>?_)
 ·rw [List.drop_eq_getElem_cons h,oI] at h2;have hkk:IntKind.i64.wrap ((k:Int)+1)=((k+1:Nat):Int):=by rw [aO ((k:Int)+1) (by omega)];rfl
  generalize hl:r[k]=l at *;simp [go_sem,h,hl,aY];refine aL rfl rfl rfl (args:=[.t (.sl (aJ l))]) (f:=41) (by simp [go_sem]) (by simp [go_sem,hB]) ((aY3 l).spec _ _) ?_;by_cases ho:lS l=true
  ·rw [if_pos ho] at h2;rw [ho];refine aI ?_;simp [go_sem,←h2]
  ·rw [if_neg ho] at h2;have ho':lS l=false:=by simpa using ho
   rw [ho'];refine aI ?_;simp [go_sem,hkk];exact Next.mk (k+1) ⟨by omega,h2⟩ (aH.slots (by simp [go_sem,aY]) rfl rfl) (by omega)
 ·have:k=r.length:=by omega
  subst this;rw [List.drop_length] at h2;simp [go_sem,←h2,oI]
theorem aTG (r:List (List Int)) (hr:r.length<2^62):Pure P 42 [.t (.sl (r.map aY)),.fn (.func 41) [] []] (.b (r.any lS)):=by
 rw [←aL8 0];refine aW Tryz.func42 rfl rfl (by simp [Tryz.f42]) (by simp [aE,aE.bndL]) (by simp [aE]) fun B hB hnx=>?_
 simp only [Tryz.f42] at hB ⊢;refine aI ?_;simp [go_sem];refine aL rfl rfl rfl (args:=[.t (.sl (r.map aY)),.fn (.func 41) [] []]) (f:=82) (by simp [go_sem]) (by simp [go_sem,hB]) ((aWC r hr).spec _ _) ?_;refine aI ?_;simp [go_sem]
def aA.zero:aA:=⟨0,0,0,[]⟩
def lL:List (List Int)→aA
 |r :: l=>⟨r.getD 0 0,r.getD 1 0,r.getD 2 0,l.map tP⟩
 |[]=>aA.zero
def zA (l:List (List Int)):aA×Int:=
 if l=[]∨(l.headD []).length≠3∨(l.drop 1).any lS=true then (aA.zero,2)
 else if (lL l).may=true then (lL l,0) else (aA.zero,1)
def bI (b:List Nat):aA×Int:=if (eA b).2≠0 then (aA.zero,(eA b).2) else zA (eA b).1
theorem aKY (b:List Nat):∀f i a l,kH b f i a=some l→l.length≤a.length+f
 |0,i,a,l,h=>by simp [kH] at h;subst h;simp
 |f+1,i,a,l,h=>by
  rw [kH] at h;split at h
  ·split at h
   ·have:=aKY b f _ _ _ h;split at this
    ·omega
    ·rw [List.length_append] at this;simp only [List.length_cons,List.length_nil] at this;omega
   ·cases h
  ·cases h;omega
theorem yR (b:List Nat):(eA b).1.length≤4097:=by
 unfold eA;split
 ·simp
 ·split
  ·simp
  ·rename_i h1 _ a h;have:=aKY b _ _ _ _ h;simp only [List.length_nil] at this;show a.length≤4097;omega
def nR (l:List (List Int)) (k:Nat):List (List T):=((l.take k).map tP).map aR.t
theorem bEF {l:List (List Int)} {k:Nat} (h:k≤l.length):(nR l k).length=k:=by simp only [nR,List.length_map,List.length_take];omega
theorem bEG {l:List (List Int)} {k:Nat} (h:k<l.length):nR l k++[(tP l[k]).t]=nR l (k+1):=by simp only [nR];rw [List.take_add_one,List.getElem?_eq_getElem h,List.map_append,List.map_append];rfl
theorem aZV (b:List Nat) (hb:b.length<2^62) (hb8:∀c∈b,c<256):Pure P 16 [.t (.sl (aS b))] (.tup [(bI b).1.a,.i (bI b).2]):=by
 refine aW Tryz.func16 rfl rfl (by simp [Tryz.f16]) (by simp [aE,aE.bndL]) (by simp [aE,aE.bndL,aA.a]) fun B hB hnx=>?_
 simp only [Tryz.f16] at hB ⊢;generalize hR:bI b=R;rw [bI] at hR;have hm:bH=4294967296:=rfl;refine aI ?_;simp [go_sem];refine aL rfl rfl rfl (args:=[.t (.sl (aS b))]) (f:=40) (by simp [go_sem]) (by simp [go_sem,hB]) ((aK1 b hb hb8).spec _ _) ?_;have hlen:=yR b;rcases hle:eA b with ⟨l,e⟩
 rw [hle] at hR hlen;simp only at hR hlen;by_cases he:e=0
 rotate_left
 ·rw [if_pos he] at hR;subst hR;refine aI ?_;simp [go_sem,he,aA.zero,aA.a]
 subst he;rw [if_neg (by simp),zA] at hR;cases l with
 |nil=>rw [if_pos (.inl rfl)] at hR;subst hR;refine aI ?_;simp [go_sem,aA.zero,aA.a]
 |cons r l=>
  simp only [List.headD_cons,List.drop_succ_cons,List.drop_zero] at hR;have hri:(aJ r).length=r.length:=List.length_map _;have h10:¬(l.length:Int)+1=0:=by omega
  by_cases h3:(r.length:Int)=3
  rotate_left
  ·rw [if_pos (.inr (.inl (by omega)))] at hR;subst hR;refine aI ?_;simp [go_sem,aY,hri,h3,h10,aA.zero,aA.a]
  have hall:∀y∈l.map aY,y.length=1:=by intro y hy;obtain ⟨n,_,rfl⟩:=List.mem_map.1 hy;rfl
  have h11:(1:Int)≤l.length+1:=by omega
  refine aI ?_;simp [go_sem,aY,hri,h3,h10,h11];have hll:l.length<2^62:=by simp only [List.length_cons] at hlen;omega
  refine aL rfl rfl rfl (args:=[.t (.sl (l.map aY)),.fn (.func 41) [] []]) (f:=42) (by simp [go_sem,aY]) (by simp [go_sem,hB]) ((aTG l hll).spec _ _) ?_;by_cases ha:l.any lS=true
  ·rw [if_pos (.inr (.inr ha))] at hR;subst hR;rw [ha];refine aI ?_;simp [go_sem,aA.zero,aA.a]
  have ha':l.any lS=false:=by simpa using ha
  rw [if_neg (by simp;exact ⟨by omega,by simpa using ha'⟩)] at hR;rw [ha'];refine aI ?_;simp [go_sem]
  obtain ⟨x,y,z,rfl⟩:∃x y z,r=[x,y,z]:=by
   match r,h3 with
   |[x,y,z],_=>exact ⟨x,y,z,rfl⟩
  refine cT [16,17] [0,1,2,3,4,5,6,7,8,9,10,11,12,13,14,15] rfl (by rw [hB];kernel_rfl) (by kernel_rfl) fun ht hf=>?_
  refine bG hB 150 ?_;simp [go_sem,aJ,aY,h11,ht,hf];have hodd:∀a∈l,a.length=6:=by intro a h;have:=List.any_eq_false.1 ha' a h;simpa [lS] using this
  refine bA (α:=Nat×Nat×(Nat→aG)×Nat) (fun (k,j,σ,nx)=>k≤l.length∧σ 0= .box [.i 0,.i 0,.i 0,.fsl []]∧σ 1= .box [.i x,.i y,.i z,.ref j]∧σ j= .arr 6 (nR l k)∧1<j∧j<nx)
   (fun (k,j,σ,nx)=>⟨sl [(2,.ptr 0 0),(3,.i 0),(7,.ptr 1 0),(53,.t (.sl (l.map aY))),(54,.i l.length),(55,.i k)],σ,nx⟩) (fun x=>l.length-x.1) (0,2,_,3) ?_
   ((aH.ownB (b:=1) (off:=3) (sz:=6) (cs:=[.i x,.i y,.i z,.fsl []]) (by simp [aB]) rfl).trans (aH.slots (by simp [go_sem,aY]) rfl rfl)) ?_
  ·exact ⟨Nat.zero_le _,by simp [aB],by simp [aB],by simp [aB,nR],by omega,by omega⟩
  rintro ⟨k,j,σ,nx⟩ ⟨g1,g2,g3,g4,g5,g6⟩;refine bG hB 8 ?_;simp [go_sem];refine bU (fun hk=>?_) (fun hk=>?_)
  ·have hti:=bEG hk;have hkk:IntKind.i64.wrap ((k:Int)+1)=((k+1:Nat):Int):=by rw [aO ((k:Int)+1) (by omega)];rfl
   have ho6:=hodd l[k] (List.getElem_mem hk);have hlt:=bEF g1;generalize nR l k=L at g4 hti hlt;generalize ha:l[k]=a at *;have hcap:k+1≤bH:=by simp only [List.length_cons] at hlen;omega
   have hst:=bEE a ho6;generalize tP a=d at *;simp [go_sem];refine aI ?_;simp [go_sem,aY,hk,ha];refine gQ [5,7] rfl (by rw [hB];kernel_rfl) (by kernel_rfl) fun ht=>?_
   refine aI ?_;simp [go_sem,ht,g3];refine bQ rfl rfl rfl (args:=[.t (.sl (aJ a))]) (f:=43) (by simp [go_sem]) hst ?_;refine aI ?_;simp [go_sem,ht,g3,g4,hlt,hcap,hkk,aR.t,show ¬1=j by omega,show ¬1=nx by omega];refine Next.mk (k+1,nx,_,nx+1) ?_ (aH.slots (by simp [go_sem,aY]) rfl rfl) (by simp only;omega);refine ⟨by simp only;omega,?_,?_,?_,by simp only;omega,by simp only;omega⟩
   ·simp [aB,show ¬0=nx by omega,show ¬0=j by omega,g2]
   ·simp [aB]
   ·simp only [←hti];simp [aB,show ¬nx=1 by omega,aR.t]
  ·have:k=l.length:=by omega
   subst this;simp [go_sem];have e:nR l l.length=(lL ([x,y,z] :: l)).stops.map aR.t:=by simp only [nR,List.take_length,lL]
   rw [e] at g4;have hm:=lP (lL ([x,y,z] :: l)) (by simp only [lL,List.length_map];omega);have ex:(lL ([x,y,z] :: l)).pairs=x:=rfl;have ey:(lL ([x,y,z] :: l)).cars=y:=rfl;have ez:(lL ([x,y,z] :: l)).room=z:=rfl;generalize lL ([x,y,z] :: l)=J at *;subst ex ey ez;have h0j:¬0=j:=by omega
   have h1j:¬1=j:=by omega
   refine aQI ((aH.freeze (q:=j) g4).trans (eT.of (n:=2) (l:=[(2,.ptr 0 0),(7,.ptr 1 0)]) (o:=[(0,.box [.i 0,.i 0,.i 0,.fsl []]),(1,.box [.i J.pairs,.i J.cars,.i J.room,.t (.sl (J.stops.map aR.t))])]) (by omega) (by simp only;omega) (by simp [go_sem,bB]) (by simp [go_sem,dC,bB,bB.frzL,g2,g3,h0j,h1j]))) rfl ?_;refine aI ?_;simp [go_sem];refine aL rfl rfl rfl (args:=[J.a]) (f:=44) (by simp [go_sem,aA.a]) (by simp [go_sem,hB]) (hm.spec _ _) ?_;cases hmay:J.may with
   |true=>rw [hmay,if_pos rfl] at hR;subst hR;refine aI ?_;simp [go_sem,aA.a]
   |false=>rw [hmay,if_neg (by simp)] at hR;subst hR;refine aI ?_;simp [go_sem,aA.a,aA.zero]
def kL:List Nat:=[49,32,49,32,53,10,48,32,48,32,48,32,48,32,49,48,48,32,48,10,51,32,48,32,50,32,48,32,53,48,32,49,10,48,32,52,32,45,50,32,48,32,57,48,32,49,10]
def zX:ByteArray:=⟨(kL.map UInt8.ofNat).toArray⟩
def small:aA:=⟨1,1,5,[⟨0,0,0,0,100,0⟩,⟨3,0,2,0,50,1⟩,⟨0,4,-2,0,90,1⟩]⟩
theorem aOG:bI kL=(small,0):=by
 have h:eA kL=([[1,1,5],[0,0,0,0,100,0],[3,0,2,0,50,1],[0,4,-2,0,90,1]],0):=by decide+kernel
 rw [bI,h];rfl
theorem bC7:eB zX=aS kL:=by simp [eB,zX,aS,kL]
theorem bC9:Pure P 29 [] (.t (.v (.string zX))):=by
 refine aW Tryz.func29 rfl rfl (by simp [Tryz.f29]) (by simp) (by simp [aE]) fun B hB hnx=>?_
 simp only [Tryz.f29] at hB ⊢;refine aI ?_;simp [go_sem,zX,kL]
structure aF where
 spot:Int
 car:Int
 time:Int
 load:Int
 first:Int
 must:Nat
 can:Nat
 on:Nat
 deriving DecidableEq
def aF.cs (s:aF):List AV:=[.i s.spot,.i s.car,.i s.time,.i s.load,.i s.first,.u s.must,.u s.can,.u s.on]
def aF.a (s:aF):AV:=.agg s.cs
structure aF.ok (s:aF):Prop where
 must:s.must<2^64
 can:s.can<2^64
 on:s.on<2^64
def aF.zero:aF:=⟨0,0,0,0,0,0,0,0⟩
def bED:aR:=⟨0,0,0,0,0,0⟩
def aA.stop (x:aA) (j:Int):aR:=x.stops.getD j.toNat bED
def aF.mayB (x:aA) (s:aF):Bool:=
 decide (s.spot≥0)&&decide (s.spot≤2*x.pairs)&&decide (s.car≥1)&&decide (s.car≤x.cars)&&decide (s.time≥0)&&decide (s.time≤1073741824)&&decide (s.load≥0)&&decide (s.load≤1000)
def bJ (x:aA) (s:aF):List AV:=[.t (.i x.pairs),.t (.i x.cars),.t (.i x.room),.t (.sl (x.stops.map aR.t)),.i s.spot,.i s.car,.i s.time,.i s.load,.i s.first,.u s.must,.u s.can,.u s.on]
def aA.rootS (x:aA):aF:=if x.may then {aF.zero with car:=1,time:=(x.stop 0).ready} else aF.zero
structure aA.Fit (x:aA) (p:Nat):Prop where
 pairs:x.pairs=p
 few:p≤16
 cars:1≤x.cars∧x.cars≤8
 room:1≤x.room∧x.room≤1000
 len:x.stops.length=2*p+1
 stop:∀k (h:k<x.stops.length),x.stopB k x.stops[k]=true
theorem aGQ {α:Type} {f:Nat→α→Bool}:∀{l:List α} {k:Nat},nB f k l=true→∀i (h:i<l.length),f (k+i) l[i]=true
 |a :: l,k,h,0,_=>by simp [nB] at h;exact h.1
 |a :: l,k,h,i+1,hi=>by simp only [nB,Bool.and_eq_true] at h;have:=aGQ h.2 i (by simpa using hi);rw [show k+(i+1)=k+1+i by omega];exact this
theorem aA.fit {x:aA} (h:x.may=true):∃p:Nat,x.Fit p:=by
 simp only [aA.may,cY,Bool.and_eq_true,decide_eq_true_eq] at h;obtain ⟨⟨⟨⟨h1,h2⟩,h3⟩,h4⟩,h5⟩:=h;refine ⟨x.pairs.toNat,by omega,by omega,h2,h3,by omega,fun k hk=>?_⟩;have:=aGQ h5 k hk
 rwa [Nat.zero_add] at this
structure aR.Fit (s:aR):Prop where
 ready:0≤s.ready∧s.ready≤1048576
 due:0≤s.due∧s.due≤1048576
 service:0≤s.service∧s.service≤1000
 order:s.ready≤s.due
 demand: -1000≤s.demand∧s.demand≤1000
theorem aA.stop_at {x:aA} {k:Nat} (h:k<x.stops.length):x.stop k=x.stops[k]:=by rw [aA.stop,List.getD_eq_getElem?_getD,Int.toNat_natCast,List.getElem?_eq_getElem h];rfl
theorem aA.Fit.B {x:aA} {p:Nat} (h:x.Fit p) {k:Nat} (hk:k≤2*p):x.stopB k (x.stop k)=true:=by have hl:=h.len;rw [aA.stop_at (by omega)];exact h.stop k (by omega)
theorem aA.Fit.take {x:aA} {p:Nat} (h:x.Fit p) {k:Nat} (h1:1≤k) (h2:k≤p):1≤(x.stop k).demand∧(x.stop k).demand≤1000:=by
 have:=h.B (k:=k) (by omega);have e1:¬k=0:=by omega
 have e2:(k:Int)≤x.pairs:=by rw [h.pairs];omega
 simp only [aA.stopB,Bool.and_eq_true,if_neg e1,if_pos e2,cY,decide_eq_true_eq] at this;exact this.2
theorem aA.Fit.bring {x:aA} {p:Nat} (h:x.Fit p) {k:Nat} (h1:1≤k) (h2:k≤p):(x.stop (k+p:Nat)).demand= -(x.stop k).demand:=by
 have:=h.B (k:=k+p) (by omega);have e1:¬k+p=0:=by omega
 have e2:¬((k+p:Nat):Int)≤x.pairs:=by rw [h.pairs];omega
 simp only [aA.stopB,Bool.and_eq_true,if_neg e1,if_neg e2,cY,decide_eq_true_eq] at this;rw [this.2,show k+p-x.pairs.toNat=k by rw [h.pairs];omega];have ht:=h.take h1 h2;have hl:=h.len;have e:x.stops.getD k ⟨0,0,0,0,0,0⟩=x.stop k:=by rw [aA.stop_at (by omega),List.getD_eq_getElem?_getD,List.getElem?_eq_getElem (by omega)];rfl
 rw [e,aO _ (by omega)]
theorem aA.Fit.yard {x:aA} {p:Nat} (h:x.Fit p):(x.stop 0).demand=0:=by have:=h.B (k:=0) (by omega);simp only [aA.stopB,Bool.and_eq_true,if_true,decide_eq_true_eq] at this;exact this.2.1
theorem aA.Fit.at {x:aA} {p:Nat} (h:x.Fit p) {j:Int} (h0:0≤j) (h1:j≤2*p):(x.stop j).Fit:=by
 have hl:=h.len;have hj:j.toNat<x.stops.length:=by omega
 have e:x.stop j=x.stops[j.toNat]:=by rw [aA.stop,List.getD_eq_getElem?_getD,List.getElem?_eq_getElem hj];rfl
 have:=h.stop j.toNat hj;rw [←e] at this;simp only [aA.stopB,cY,Bool.and_eq_true,decide_eq_true_eq] at this;obtain ⟨⟨⟨⟨⟨⟨a1,a2⟩,⟨a3,a4⟩⟩,⟨a5,a6⟩,⟨a7,a8⟩⟩,a9⟩,⟨a10,a11⟩⟩,_⟩:=this;refine ⟨⟨a5,a6⟩,⟨a7,a8⟩,⟨a10,a11⟩,a9,?_⟩;obtain ⟨k,rfl⟩:∃k:Nat,j=k:=⟨j.toNat,by omega⟩;by_cases e1:k=0
 ·subst e1;have:=h.yard;rw [show ((0:Nat):Int)=0 from rfl,this];omega
 by_cases e2:k≤p
 ·have:=h.take (k:=k) (by omega) e2;omega
 ·have:=h.take (k:=k-p) (by omega) (by omega);have e:=h.bring (k:=k-p) (by omega) (by omega);rw [show k-p+p=k by omega] at e;omega
theorem aCL (x:aA) (s:aF) (h:x.may=true):Pure P 201 [.agg (bJ x s)] (.b (s.mayB x)):=by
 obtain ⟨p,hx⟩:=x.fit h;have hf:=hx.few;refine aW Tryz.func201 rfl rfl (by simp [Tryz.f201]) (by simp [aE,aE.bndL,bJ]) (by simp [aE]) fun B hB hnx=>?_
 simp only [Tryz.f201] at hB ⊢;have w1:=aO (2*x.pairs) (by rw [hx.pairs];omega);generalize hR:s.mayB x=R;rw [aF.mayB] at hR;refine aD ?_;simp [go_sem,bJ];refine nC (fun h1=>?_) (fun h1=>by simp [go_sem,h1,w1,←hR]);simp [go_sem,h1,w1];refine nC (fun h2=>?_) (fun h2=>by simp [go_sem,h2,w1,←hR]);simp [go_sem,h2,w1];refine nC (fun h3=>?_) (fun h3=>by simp [go_sem,h3,w1,←hR]);simp [go_sem,h3,w1];refine nC (fun h4=>?_) (fun h4=>by simp [go_sem,h4,w1,←hR]);simp [go_sem,h4,w1];refine nC (fun h5=>?_) (fun h5=>by simp [go_sem,h5,w1,←hR]);simp [go_sem,h5,w1];refine nC (fun h6=>?_) (fun h6=>by simp [go_sem,h6,w1,←hR]);simp [go_sem,h6,w1];refine nC (fun h7=>?_) (fun h7=>by simp [go_sem,h7,w1,←hR]);simp [go_sem,h7,w1];simp [←hR,h1,h2,h3,h4,h5,h6,h7]
theorem aA.Fit.ltN {x:aA} {p:Nat} (h:x.Fit p) {j:Int} (h1:j≤2*p):j.toNat<x.stops.length:=by have hl:=h.len;omega
theorem aA.Fit.get {x:aA} {p:Nat} (h:x.Fit p) {j:Int} (h1:j≤2*p):x.stops[j.toNat]'(h.ltN h1)=x.stop j:=by rw [aA.stop,List.getD_eq_getElem?_getD,List.getElem?_eq_getElem (h.ltN h1)];rfl
theorem aA.Fit.get0 {x:aA} {p:Nat} (h:x.Fit p):x.stops[0]'(by rw [h.len];omega)=x.stop 0:=h.get (j:=0) (by omega)
theorem aA.Fit.lt {x:aA} {p:Nat} (h:x.Fit p) {j:Int} (h1:j≤2*p):j<(x.stops.length:Int):=by have hl:=h.len;omega
theorem yF (x:aA) (s:aF) (j:Int) {p:Nat} (hx:x.Fit p) (h0:0≤s.spot) (h1:s.spot≤2*p) (h2:0≤j) (h3:j≤2*p):Pure P 203 [.agg (bJ x s),.i j] (.i (bL (x.stop s.spot) (x.stop j))):=by
 refine aW Tryz.func203 rfl rfl (by simp [Tryz.f203]) (by simp [aE,aE.bndL,bJ]) (by simp [aE]) fun B hB hnx=>?_
 simp only [Tryz.f203] at hB ⊢;have g1:=hx.lt h1;have g2:=hx.lt h3;have g3:=hx.get h1;have g4:=hx.get h3;generalize x.stop s.spot=a at *;generalize x.stop j=b at *;refine aI ?_;simp [go_sem];refine bK [] rfl (by rw [hB];kernel_rfl) ?_;refine aI ?_;simp [go_sem,bJ,h0,g1,h2,g2,g3,g4,aR.t];refine bQ rfl rfl rfl (args:=[.agg (a.t.map .t),.agg (b.t.map .t)]) (f:=237) (by simp [go_sem,aR.t]) (aB9 a b) ?_;refine aI ?_;simp [go_sem]
def aA.allB (x:aA) (t:Nat):Bool:=dE (nS (2*x.pairs)) t
theorem aJS (x:aA) (s:aF) (t:Nat) {p:Nat} (hx:x.Fit p):Pure P 202 [.agg (bJ x s),.u t] (.b (x.allB t)):=by
 refine aW Tryz.func202 rfl rfl (by simp [Tryz.f202]) (by simp [aE,aE.bndL,bJ]) (by simp [aE]) fun B hB hnx=>?_
 simp only [Tryz.f202] at hB ⊢;have hf:=hx.few;have w1:=aO (2*x.pairs) (by rw [hx.pairs];omega);refine aI ?_;simp [go_sem,bJ,w1];refine aL rfl rfl rfl (args:=[.i (2*x.pairs)]) (f:=236) (by simp [go_sem]) (by simp [go_sem,hB]) ((bG5 _).spec _ _) ?_;refine aI ?_;simp [go_sem];refine aL rfl rfl rfl (args:=[.u (nS (2*x.pairs)),.u t]) (f:=235) (by simp [go_sem]) (by simp [go_sem,hB]) ((aAG _ _).spec _ _) ?_;refine aI ?_;simp [go_sem,aA.allB]
theorem zP (x:aA) (hl:x.stops.length<2^63):Pure P 47 [x.a] x.rootS.a:=by
 generalize hR:x.rootS=R;refine aW Tryz.func47 rfl rfl (by simp [Tryz.f47]) (by simp [aE,aE.bndL,aA.a]) (by simp [aE,aE.bndL,aF.a,aF.cs]) fun B hB hnx=>?_
 simp only [Tryz.f47] at hB ⊢;rw [aA.rootS] at hR;refine aI ?_;simp [go_sem,aA.a];refine aL rfl rfl rfl (args:=[x.a]) (f:=44) (by simp [go_sem,aA.a]) (by simp [go_sem,hB]) ((lP x hl).spec _ _) ?_;cases hm:x.may with
 |false=>rw [hm,if_neg (by simp)] at hR;subst hR;refine aI ?_;simp [go_sem,aF.a,aF.cs,aF.zero]
 |true=>
  obtain ⟨p,hx⟩:=x.fit hm;have hl:=hx.len;rw [hm,if_pos rfl] at hR;subst hR;have g1:=hx.lt (j:=0) (by omega);have g2:=hx.get0;generalize x.stop 0=a at *;have g3:(0:Int)<x.stops.length:=g1;have g4:0<x.stops.length:=by omega
  refine aI ?_;simp [go_sem,aF.a,aF.cs,aF.zero,g2,g3,g4,aR.t]
theorem bEC:P.stoodInHeld 91=false:=by kernel_rfl
theorem z7:P.eqGuardType P.depth 91=false:=by kernel_rfl
theorem vW (a b:aF):iS P 10000 91 a.a b.a=some (decide (a=b)):=by simp [go_sem,aF.a,aF.cs,bEC];cases a;cases b;rw [Bool.eq_iff_iff];simp only [Bool.and_eq_true,decide_eq_true_eq,aF.mk.injEq]
def aA.begins (x:aA) (s:aF) (j:Int):Int:=max (s.time+bL (x.stop s.spot) (x.stop j)) (x.stop j).ready
def aA.lateB (x:aA) (s:aF) (j:Int):Bool:=cI s.must j||decide (x.begins s j>(x.stop j).due)
def aA.seen (x:aA) (s:aF) (j:Int):aF:=
 {spot:=j,car:=s.car,time:=x.begins s j+(x.stop j).service,load:=max (s.load+(x.stop j).demand) 0,first:=if s.spot=0 then j else s.first,must:=cL s.must j,can:=cL s.can j,on:=s.on}
def aA.visit (x:aA) (s:aF) (j:Int):aF×Bool:=if x.lateB s j=true then (s,false) else (x.seen s j,true)
structure aF.Fit (x:aA) (s:aF) (p:Nat):Prop where
 spot:0≤s.spot∧s.spot≤2*p
 car:1≤s.car∧s.car≤x.cars
 time:0≤s.time∧s.time≤1073741824
 load:0≤s.load∧s.load≤1000
theorem aF.fit {x:aA} {s:aF} {p:Nat} (hx:x.Fit p) (h:s.mayB x=true):s.Fit x p:=by simp only [aF.mayB,Bool.and_eq_true,decide_eq_true_eq,hx.pairs] at h;obtain ⟨⟨⟨⟨⟨⟨⟨h1,h2⟩,h3⟩,h4⟩,h5⟩,h6⟩,h7⟩,h8⟩:=h;exact ⟨⟨h1,h2⟩,⟨h3,h4⟩,⟨h5,h6⟩,⟨h7,h8⟩⟩
theorem aB8 (a b:aR):0≤bL a b∧bL a b<1152921504606846976:=by
 have h:=zZ a b;unfold bL qB;split
 ·omega
 ·have:=zN (min (sq a b) 1152921504606846976).toNat 31 0;omega
theorem aPG (x:aA) (s:aF) (j:Int) {p:Nat} (hx:x.Fit p) (hs:s.Fit x p) (ho:s.ok) (h2:0≤j) (h3:j≤2*p):Pure P 289 [.agg (bJ x s),.i j] (.tup [(x.visit s j).1.a,.b (x.visit s j).2]):=by
 generalize hR:x.visit s j=R;refine aW Tryz.func289 rfl rfl (by simp [Tryz.f289]) (by simp [aE,aE.bndL,bJ]) (by simp [aE,aE.bndL,aF.a,aF.cs]) fun B hB hnx=>?_
 simp only [Tryz.f289] at hB ⊢;have g2:=hx.lt h3;have g4:=hx.get h3;have hfar:=yF x s j hx hs.spot.1 hs.spot.2 h2 h3;have hf:=hx.at h2 h3;have hfi:=aB8 (x.stop s.spot) (x.stop j);rw [aA.visit,aA.lateB,aA.seen,aA.begins] at hR;generalize bL (x.stop s.spot) (x.stop j)=d at *;generalize x.stop j=a at *;have w1:=aO (s.time+d) (by have:=hs.time;omega);refine aI ?_;simp [go_sem];refine aF8 [8,9,10,11] [0,1,2,3,4,5,6,7,8,9] 8 9 (by decide) rfl (by rw [hB];kernel_rfl) (by kernel_rfl) fun ht hf'=>?_
 refine aI ?_;simp [go_sem,ht,hf',bJ,h2,g2,g4,aR.t];refine aF3 (by kernel_rfl) ?_ ?_
 all_goals
  refine aI ?_;simp [go_sem,ht,hf',bJ,h2,g2,g4,aR.t,aF.cs];refine bK [] rfl (by rw [hB];kernel_rfl) ?_;refine aI ?_;simp [go_sem];refine bQ rfl rfl rfl (args:=[.agg (bJ x s),.i j]) (f:=203) (by simp [go_sem,bJ]) hfar ?_;refine aI ?_;simp [go_sem,w1];refine aL rfl rfl rfl (args:=[.u s.must,.i j]) (f:=223) (by simp [go_sem]) (by simp [go_sem,hB]) ((u9 s.must j ho.must).spec _ _) ?_;generalize hM:max (s.time+d) a.ready=M at *;by_cases c1:cI s.must j=true∨a.due<M
  ·have:R=(s,false):=by rw [←hR,if_pos];rcases c1 with c1 | c1<;>simp [c1]
   subst this;cases c2:cI s.must j with
   |true=>refine aI ?_;simp [go_sem,aF.a,aF.cs]
   |false=>have c3:a.due<M:=c1.resolve_left (by simp [c2]);refine aI ?_;simp [go_sem,aF.a,aF.cs,hM,c3]
  have c2:cI s.must j=false:=by simpa using fun h=>c1 (.inl h)
  have c3:¬a.due<M:=fun h=>c1 (.inr h)
  rw [if_neg (by simp [c2,c3])] at hR;have w2:=aO (M+a.service) (by have:=hf.service;have:=hf.due;have:=hs.time;omega);have w3:=aO (s.load+a.demand) (by have:=hf.demand;have:=hs.load;omega);rw [c2];by_cases c4:s.spot=0
  all_goals
   refine aI ?_;simp [go_sem,aF.a,aF.cs,hM,c3,c4];refine cT [12,14,16] [1,2,3,4,7,8,9,10] rfl (by rw [hB];kernel_rfl) (by kernel_rfl) fun ht hf'=>?_
   refine aI ?_;simp [go_sem,ht,hf',w2,w3];refine gQ [9,11] rfl (by rw [hB];kernel_rfl) (by kernel_rfl) fun ht=>?_
   refine aI ?_;simp [go_sem,ht];refine bQ rfl rfl rfl (args:=[.u s.must,.i j]) (f:=268) (by simp [go_sem]) (tU s.must j ho.must) ?_;refine aI ?_;simp [go_sem,ht];refine bQ rfl rfl rfl (args:=[.u s.can,.i j]) (f:=268) (by simp [go_sem]) (tU s.can j ho.can) ?_;refine aI ?_;simp [go_sem,ht,←hR,c4]
def aA.stayB (x:aA) (s:aF):Bool:=decide (s.spot=0)||decide (s.on≠0)||decide (s.car≥x.cars)||x.allB s.must||decide (s.time+bL (x.stop s.spot) (x.stop 0)>(x.stop 0).due)
def aA.homeS (x:aA) (s:aF):aF:={s with spot:=0,car:=s.car+1,time:=(x.stop 0).ready,load:=0}
def aA.home (x:aA) (s:aF):aF×Bool:=if x.stayB s=true then (s,false) else (x.homeS s,true)
theorem aV1 (x:aA) (s:aF) (j:Int) {p:Nat} (hx:x.Fit p) (hs:s.Fit x p) (ho:s.ok):Pure P 264 [.agg (bJ x s),.i j] (.tup [(x.home s).1.a,.b (x.home s).2]):=by
 generalize hR:x.home s=R;refine aW Tryz.func264 rfl rfl (by simp [Tryz.f264]) (by simp [aE,aE.bndL,bJ]) (by simp [aE,aE.bndL,aF.a,aF.cs]) fun B hB hnx=>?_
 simp only [Tryz.f264] at hB ⊢;have g2:(0:Int)<x.stops.length:=hx.lt (j:=0) (by omega);have g3:0<x.stops.length:=by omega
 have g4:=hx.get0;have hfar:=yF x s 0 hx hs.spot.1 hs.spot.2 (by omega) (by omega);have hf:=hx.at (j:=0) (by omega) (by omega);have hfi:=aB8 (x.stop s.spot) (x.stop 0);rw [aA.home,aA.stayB,aA.homeS] at hR;generalize bL (x.stop s.spot) (x.stop 0)=d at *;generalize x.stop 0=a at *;have w1:=aO (s.time+d) (by have:=hs.time;omega);have w2:=aO (s.car+1) (by have:=hs.car;have:=hx.cars;omega);refine aI ?_;simp [go_sem,bJ];refine bK [] rfl (by rw [hB];kernel_rfl) ?_;by_cases c1:s.spot=0
 ·have:R=(s,false):=by rw [←hR,if_pos (by simp [c1])]
  subst this;refine aD ?_;simp [go_sem,c1,aF.a,aF.cs]
 by_cases c2:s.on=0
 rotate_left
 ·have:R=(s,false):=by rw [←hR,if_pos (by simp [c2])]
  subst this;refine aD ?_;simp [go_sem,c1,c2,aF.a,aF.cs]
 by_cases c3:x.cars≤s.car
 ·have:R=(s,false):=by rw [←hR,if_pos (by simp [c3])]
  subst this;refine aD ?_;simp [go_sem,c1,c2,c3,aF.a,aF.cs]
 refine aD ?_;simp [go_sem,c1,c2,c3];refine bQ rfl rfl rfl (args:=[.agg (bJ x s),.u s.must]) (f:=202) (by simp [go_sem,bJ,c2]) (aJS x s s.must hx) ?_;cases c4:x.allB s.must with
 |true=>
  have:R=(s,false):=by rw [←hR,if_pos (by simp [c4])]
  subst this;refine aD ?_;simp [go_sem,c1,c2,c3,aF.a,aF.cs]
 |false=>
  refine aD ?_;simp [go_sem,c1,c2,c3];refine bQ rfl rfl rfl (args:=[.agg (bJ x s),.i 0]) (f:=203) (by simp [go_sem,bJ,c2]) hfar ?_;by_cases c5:a.due<s.time+d
  ·have:R=(s,false):=by rw [←hR,if_pos (by simp [c5])]
   subst this;refine aD ?_;simp [go_sem,c1,c2,c3,c5,w1,g2,g3,g4,aR.t,aF.a,aF.cs]
  ·rw [if_neg (by simp [c1,c2,c3,c4,c5])] at hR;refine aD ?_;simp [go_sem,c1,c2,c3,c5,w1,g2,g3,g4,aR.t];refine cT [10,12,14,16] [2,3,4,5,6,7,8] rfl (by rw [hB];kernel_rfl) (by kernel_rfl) fun ht hf'=>?_
   refine aD ?_;simp [go_sem,ht,hf',w2,g2,g3,g4,aR.t,←hR,aF.a,aF.cs,c2]
theorem aPF (x:aA) (s:aF) (j:Int):(x.visit s j).1.on=s.on:=by unfold aA.visit;split<;>rfl
def aA.fullB (x:aA) (s:aF) (j:Int):Bool:=decide (s.load+(x.stop j).demand>x.room)||(decide (s.spot=0)&&decide (j≤s.first))
def aA.take (x:aA) (s:aF) (j:Int):aF×Bool:=if x.fullB s j=true then (s,false) else if (x.visit s j).2=true then ({(x.visit s j).1 with on:=cL s.on j},true) else (x.visit s j)
theorem bES (x:aA) (s:aF) (j:Int) {p:Nat} (hx:x.Fit p) (hs:s.Fit x p) (ho:s.ok) (h2:0≤j) (h3:j≤2*p):Pure P 265 [.agg (bJ x s),.i j] (.tup [(x.take s j).1.a,.b (x.take s j).2]):=by
 generalize hR:x.take s j=R;refine aW Tryz.func265 rfl rfl (by simp [Tryz.f265]) (by simp [aE,aE.bndL,bJ]) (by simp [aE,aE.bndL,aF.a,aF.cs]) fun B hB hnx=>?_
 simp only [Tryz.f265] at hB ⊢;have g2:=hx.lt h3;have g4:=hx.get h3;have hf:=hx.at h2 h3;have hv:=aPG x s j hx hs ho h2 h3;have hon:=aPF x s j;rw [aA.take,aA.fullB] at hR;generalize x.visit s j=V at *;generalize x.stop j=a at *;obtain ⟨t,is⟩:=V;simp only at hon hR hv;have w3:=aO (s.load+a.demand) (by have:=hf.demand;have:=hs.load;omega);refine aI ?_;simp [go_sem,bJ];refine bK [] rfl (by rw [hB];kernel_rfl) ?_;by_cases c1:x.room<s.load+a.demand
 ·have:R=(s,false):=by rw [←hR,if_pos (by simp [c1])]
  subst this;refine aD ?_;simp [go_sem,c1,h2,g2,g4,w3,aR.t,aF.a,aF.cs]
 by_cases c2:s.spot=0∧j≤s.first
 ·have:R=(s,false):=by rw [←hR,if_pos (by simp [c2])]
  subst this;refine aD ?_;simp [go_sem,c1,c2,h2,g2,g4,w3,aR.t,aF.a,aF.cs]
 rw [if_neg (by simp;exact ⟨by omega,by omega⟩)] at hR
 have key:∀{A:Prop},(s.spot=0→¬j≤s.first→A)→(¬s.spot=0→A)→A:=fun {A} h1 h2=>by
  by_cases c3:s.spot=0
  ·exact h1 c3 (fun h=>c2 ⟨c3,h⟩)
  ·exact h2 c3
 refine key (fun c3 c4=>?_) (fun c3=>?_)
 ·refine aD ?_;simp [go_sem,c1,c3,c4,h2,g2,g4,w3,aR.t];refine aL rfl rfl rfl (args:=[.agg (bJ x s),.i j]) (f:=289) (by simp [go_sem,bJ,c3]) (by simp [go_sem,hB]) (hv.spec _ _) ?_;cases is with
  |false=>rw [if_neg (by simp)] at hR;subst hR;refine aD ?_;simp [go_sem,aF.a,aF.cs]
  |true=>rw [if_pos rfl] at hR;subst hR;refine aD ?_;simp [go_sem,aF.a,aF.cs];refine aL rfl rfl rfl (args:=[.u t.on,.i j]) (f:=268) (by simp [go_sem]) (by simp [go_sem,hB]) ((tU t.on j (by rw [hon];exact ho.on)).spec _ _) ?_;refine aD ?_;simp [go_sem,aF.a,aF.cs,hon]
 ·refine aD ?_;simp [go_sem,c1,c3,h2,g2,g4,w3,aR.t];refine aL rfl rfl rfl (args:=[.agg (bJ x s),.i j]) (f:=289) (by simp [go_sem,bJ]) (by simp [go_sem,hB]) (hv.spec _ _) ?_;cases is with
  |false=>rw [if_neg (by simp)] at hR;subst hR;refine aD ?_;simp [go_sem,aF.a,aF.cs]
  |true=>rw [if_pos rfl] at hR;subst hR;refine aD ?_;simp [go_sem,aF.a,aF.cs];refine aL rfl rfl rfl (args:=[.u t.on,.i j]) (f:=268) (by simp [go_sem]) (by simp [go_sem,hB]) ((tU t.on j (by rw [hon];exact ho.on)).spec _ _) ?_;refine aD ?_;simp [go_sem,aF.a,aF.cs,hon]
def aA.emptyB (x:aA) (s:aF) (j:Int):Bool:=decide (s.spot=0)|| !cI s.can (j-x.pairs)
def aA.bring (x:aA) (s:aF) (j:Int):aF×Bool:=if x.emptyB s j=true then (s,false) else if (x.visit s j).2=true then ({(x.visit s j).1 with on:=i9 s.on (j-x.pairs)},true) else (x.visit s j)
theorem aSG (x:aA) (s:aF) (j:Int) {p:Nat} (hx:x.Fit p) (hs:s.Fit x p) (ho:s.ok) (h2:0≤j) (h3:j≤2*p):Pure P 263 [.agg (bJ x s),.i j] (.tup [(x.bring s j).1.a,.b (x.bring s j).2]):=by
 generalize hR:x.bring s j=R;refine aW Tryz.func263 rfl rfl (by simp [Tryz.f263]) (by simp [aE,aE.bndL,bJ]) (by simp [aE,aE.bndL,aF.a,aF.cs]) fun B hB hnx=>?_
 simp only [Tryz.f263] at hB ⊢;have hv:=aPG x s j hx hs ho h2 h3;have hon:=aPF x s j;rw [aA.bring,aA.emptyB] at hR;generalize x.visit s j=V at *;obtain ⟨t,is⟩:=V;simp only at hon hR hv;have hp:=hx.pairs;have hfew:=hx.few;have w3:=aO (j-x.pairs) (by omega);by_cases c1:s.spot=0
 ·have:R=(s,false):=by rw [←hR,if_pos (by simp [c1])]
  subst this;refine aD ?_;simp [go_sem,bJ,c1,aF.a,aF.cs]
 refine aI ?_;simp [go_sem,bJ,c1,w3];refine aL rfl rfl rfl (args:=[.u s.can,.i (j-x.pairs)]) (f:=223) (by simp [go_sem]) (by simp [go_sem,hB]) ((u9 s.can (j-x.pairs) ho.can).spec _ _) ?_;cases c2:cI s.can (j-x.pairs) with
 |false=>
  have:R=(s,false):=by rw [←hR,if_pos (by simp [c2])]
  subst this;refine aD ?_;simp [go_sem,aF.a,aF.cs]
 |true=>
  rw [if_neg (by simp [c1,c2])] at hR;refine aD ?_;simp [go_sem];refine aL rfl rfl rfl (args:=[.agg (bJ x s),.i j]) (f:=289) (by simp [go_sem,bJ]) (by simp [go_sem,hB]) (hv.spec _ _) ?_;cases is with
  |false=>rw [if_neg (by simp)] at hR;subst hR;refine aD ?_;simp [go_sem,aF.a,aF.cs]
  |true=>rw [if_pos rfl] at hR;subst hR;refine aD ?_;simp [go_sem,aF.a,aF.cs,w3];refine aL rfl rfl rfl (args:=[.u t.on,.i (j-x.pairs)]) (f:=269) (by simp [go_sem]) (by simp [go_sem,hB]) ((aPS t.on (j-x.pairs)).spec _ _) ?_;refine aD ?_;simp [go_sem,aF.a,aF.cs,hon]
def aA.to (x:aA) (s:aF) (j:Int):aF×Bool:=if j=0 then x.home s else if j≤x.pairs then x.take s j else x.bring s j
def aA.step (x:aA) (s:aF) (j:Int):aF×Int×Bool:=
 if j<0∨2*x.pairs<j then (s,0,false) else if (x.to s j).2=true then ((x.to s j).1,bL (x.stop s.spot) (x.stop j),true) else (s,0,false)
def mv (r:aF×Int×Bool):AV:=.tup [r.1.a,.i r.2.1,.b r.2.2]
theorem aG1 (r:aF×Int×Bool):aE 0 (mv r)=true:=by simp [aE,aE.bndL,mv,aF.a,aF.cs]
theorem aOR (x:aA) (s:aF) (j:Int) {p:Nat} (hx:x.Fit p) (hs:s.Fit x p) (ho:s.ok):Pure P 238 [.agg (bJ x s),.i j] (mv (x.step s j)):=by
 generalize hR:x.step s j=R;refine aW Tryz.func238 rfl rfl (by simp [Tryz.f238]) (by simp [aE,aE.bndL,bJ]) (aG1 R) fun B hB hnx=>?_
 simp only [Tryz.f238] at hB ⊢;have hp:=hx.pairs;have hfew:=hx.few;have w1:=aO (2*x.pairs) (by omega);rw [aA.step] at hR;by_cases c1:j<0
 ·rw [if_pos (.inl c1)] at hR;subst hR;refine aD ?_;simp [go_sem,bJ,c1,mv,aF.a,aF.cs]
 by_cases c2:2*x.pairs<j
 ·rw [if_pos (.inr c2)] at hR;subst hR;refine aD ?_;simp [go_sem,bJ,c1,c2,w1,mv,aF.a,aF.cs]
 rw [if_neg (by omega)] at hR;have h2:0≤j:=by omega
 have h3:j≤2*p:=by omega
 have hfar:=yF x s j hx hs.spot.1 hs.spot.2 h2 h3;generalize bL (x.stop s.spot) (x.stop j)=d at *;by_cases c3:j=0
 ·have hv:=aV1 x s j hx hs ho;have e:x.to s j=x.home s:=by simp [aA.to,c3]
  rw [e] at hR;generalize x.home s=V at *;obtain ⟨t,is⟩:=V;subst c3;refine aD ?_;simp [go_sem,bJ,c2,w1];refine aL rfl rfl rfl (args:=[.agg (bJ x s),.i 0]) (f:=264) (by simp [go_sem,bJ]) (by simp [go_sem,hB]) (hv.spec _ _) ?_;cases is with
  |false=>rw [if_neg (by simp)] at hR;subst hR;refine aD ?_;simp [go_sem,mv,aF.a,aF.cs]
  |true=>
   rw [if_pos rfl] at hR;subst hR;refine aD ?_;simp [go_sem,aF.a,aF.cs];refine gQ [4] rfl (by rw [hB];kernel_rfl) (by kernel_rfl) fun ht=>?_
   refine aD ?_;simp [go_sem,ht];refine bQ rfl rfl rfl (args:=[.agg (bJ x s),.i 0]) (f:=203) (by simp [go_sem,bJ]) hfar ?_;refine aD ?_;simp [go_sem,ht,mv,aF.a,aF.cs]
 by_cases c4:j≤x.pairs
 ·have hv:=bES x s j hx hs ho h2 h3;have e:x.to s j=x.take s j:=by simp [aA.to,c3,c4]
  rw [e] at hR;generalize x.take s j=V at *;obtain ⟨t,is⟩:=V;refine aD ?_;simp [go_sem,bJ,c1,c2,c3,c4,w1];refine aL rfl rfl rfl (args:=[.agg (bJ x s),.i j]) (f:=265) (by simp [go_sem,bJ]) (by simp [go_sem,hB]) (hv.spec _ _) ?_;cases is with
  |false=>rw [if_neg (by simp)] at hR;subst hR;refine aD ?_;simp [go_sem,mv,aF.a,aF.cs]
  |true=>
   rw [if_pos rfl] at hR;subst hR;refine aD ?_;simp [go_sem,aF.a,aF.cs];refine gQ [4] rfl (by rw [hB];kernel_rfl) (by kernel_rfl) fun ht=>?_
   refine aD ?_;simp [go_sem,ht];refine bQ rfl rfl rfl (args:=[.agg (bJ x s),.i j]) (f:=203) (by simp [go_sem,bJ]) hfar ?_;refine aD ?_;simp [go_sem,ht,mv,aF.a,aF.cs]
 ·have hv:=aSG x s j hx hs ho h2 h3;have e:x.to s j=x.bring s j:=by simp [aA.to,c3,c4]
  rw [e] at hR;generalize x.bring s j=V at *;obtain ⟨t,is⟩:=V;refine aD ?_;simp [go_sem,bJ,c1,c2,c3,c4,w1];refine aL rfl rfl rfl (args:=[.agg (bJ x s),.i j]) (f:=263) (by simp [go_sem,bJ]) (by simp [go_sem,hB]) (hv.spec _ _) ?_;cases is with
  |false=>rw [if_neg (by simp)] at hR;subst hR;refine aD ?_;simp [go_sem,mv,aF.a,aF.cs]
  |true=>
   rw [if_pos rfl] at hR;subst hR;refine aD ?_;simp [go_sem,aF.a,aF.cs];refine gQ [4] rfl (by rw [hB];kernel_rfl) (by kernel_rfl) fun ht=>?_
   refine aD ?_;simp [go_sem,ht];refine bQ rfl rfl rfl (args:=[.agg (bJ x s),.i j]) (f:=203) (by simp [go_sem,bJ]) hfar ?_;refine aD ?_;simp [go_sem,ht,mv,aF.a,aF.cs]
def aA.move (x:aA) (s:aF) (j:Int):aF×Int×Bool:=if x.may=true∧s.mayB x=true then x.step s j else (s,0,false)
theorem aLJ (x:aA) (s:aF) (j:Int) (hl:x.stops.length<2^63) (ho:s.ok):Pure P 205 [x.a,s.a,.i j] (mv (x.move s j)):=by
 generalize hR:x.move s j=R;refine aW Tryz.func205 rfl rfl (by simp [Tryz.f205]) (by simp [aE,aE.bndL,aA.a,aF.a,aF.cs]) (aG1 R) fun B hB hnx=>?_
 simp only [Tryz.f205] at hB ⊢;rw [aA.move] at hR;refine aD ?_;simp [go_sem,aA.a,aF.a,aF.cs];refine aL rfl rfl rfl (args:=[x.a]) (f:=44) (by simp [go_sem,aA.a]) (by simp [go_sem,hB]) ((lP x hl).spec _ _) ?_;cases hm:x.may with
 |false=>rw [if_neg (by simp [hm])] at hR;subst hR;refine aD ?_;simp [go_sem,mv,aF.a,aF.cs]
 |true=>
  obtain ⟨p,hx⟩:=x.fit hm;refine aD ?_;simp [go_sem];refine aL rfl rfl rfl (args:=[.agg (bJ x s)]) (f:=201) (by simp [go_sem,bJ]) (by simp [go_sem,hB]) ((aCL x s hm).spec _ _) ?_;cases hs:s.mayB x with
  |false=>rw [if_neg (by simp [hs])] at hR;subst hR;refine aD ?_;simp [go_sem,mv,aF.a,aF.cs]
  |true=>rw [if_pos ⟨hm,hs⟩] at hR;have hst:=aOR x s j hx (s.fit hx hs) ho;rw [hR] at hst;refine aD ?_;simp [go_sem];refine aL rfl rfl rfl (args:=[.agg (bJ x s),.i j]) (f:=238) (by simp [go_sem,bJ]) (by simp [go_sem,hB]) (hst.spec _ _) ?_;refine aD ?_;simp [go_sem,mv,aF.a,aF.cs]
end Go.Proofs.YtnoifgjiipgpoaaGreatDoor
