/- Parts of the proof: R12, R13, R14, R15, R16, R17, R18, R19. -/
import Derived.Test.YtnoifgjiipgpoaaGreatDoorMB
import Derived.Lib.SlBytesConst
import Derived.KernelRfl
import Derived.Laws.StructEq
import Derived.Laws.ComplexArith
set_option linter.all false
set_option maxHeartbeats 4000000
namespace Go.Proofs.YtnoifgjiipgpoaaGreatDoor.R
open Go.RowKit
section
variable {P:Program} {B:Base} {k:List KI} {R:Post} {s:St}
theorem ev_rep {a:Act} {w:World} {C:Ctx} {m:Slots} (h:∀t,RepA w C (m t) (a.tmps.getD t undef)) (x:Operand):RepA w C (ev m x) (a.eval x):=by
 cases x with
 |tmp t=>exact h t
 |const v=>exact const_rep v
 |global g=>exact .any
 |func f=>exact .fn rfl (fun k a u h=>by simp at h) rfl (fun k a u h=>by simp at h)
def dOk (n:Nat):Option Nat→Bool
 |some d=>d<n
 |none=>true
theorem put_rep {a:Act} {w w':World} {C C':Ctx} {m:Slots} {σ σ':Nat→AObj} (hs:Sim C σ w) (hst:Step C σ w C' σ' w') (h:∀t,RepA w C (m t) (a.tmps.getD t undef)) {d:Option Nat} (hd:dOk a.tmps.size d=true) {v:AV} {u:Value} (hv:RepA w' C' v u):
  ∀t,RepA w' C' (put m d v t) ((a.put d u).tmps.getD t undef):=by
 intro t
 cases d with
 |none=>exact (h t).step hs hst
 |some d=>
  have hd':d<a.tmps.size:=by simpa [dOk] using hd
  by_cases e:t=d
  ·subst e
   simp only [put,if_true,Act.put,Array.getD_eq_getD_getElem?,Array.getElem?_setIfInBounds_self_of_lt hd',Option.getD_some]
   exact hv
  ·simp only [put,if_neg e,Act.put,Array.getD_eq_getD_getElem?,Array.getElem?_setIfInBounds_ne (show d≠t from fun h=>e h.symm)]
   have:=(h t).step hs hst
   rwa [Array.getD_eq_getD_getElem?] at this
theorem put_size (a:Act) (d:Option Nat) (u:Value):(a.put d u).tmps.size=a.tmps.size:=by cases d<;>simp [Act.put]
theorem put_def (a:Act) (d:Option Nat) (u:Value):(a.put d u).defers=a.defers:=by cases d<;>rfl
def one (P:Program) (s:St) (o:Oper):Option St:=
 match evalP P (ev s.m) o.op with
 |some v=>some (s.upd o.dst v .none)
 |none=>match evalS P s.σ s.nx (ev s.m) o.op with
  |some (v,e)=>some (s.upd o.dst v e)
  |none=>none
theorem one_wp {o:Oper} {s':St} (h:one P s o=some s') {a:Act} {w:World} (hd:dOk B.n o.dst=true) (hr:Rel B s a w) {K:Act→World→Prop} {Q:Exit→Act→World→Prop} (hK:∀a' w',Rel B s' a' w'→K a' w'):owp B.ro P o a w K Q:=by
 obtain ⟨C,h1,h2,h3,h4,h5,h6⟩:=hr
 have hm:∃v e,s'=s.upd o.dst v e∧Meets ((execOp a.eval o).run P w) C s.σ w v (e.on s.σ C.nx).1 (e.on s.σ C.nx).2:=by
  unfold one at h
  split at h
  ·rename_i v hv
   cases h
   exact ⟨v,.none,rfl,evalP_sound h5 (ev_rep h2) hv⟩
  ·split at h
   ·rename_i v e hv
    cases h
    rw [←h1] at hv
    exact ⟨v,e,rfl,evalS_sound h5 (ev_rep h2) hv⟩
   ·cases h
 obtain ⟨v,e,rfl,C',w',u,hrun,g1,g2,g3,g4⟩:=hm
 have hrel:Rel B (s.upd o.dst v e) (a.put o.dst u) w':=by
  refine ⟨C',by rw [g3,h1];rfl,put_rep h5 g1 h2 (by rw [h3];exact hd) g4,by rw [put_size];exact h3,by rw [put_def];rw [h1] at g1;exact h4.step g1,?_,?_⟩
  ·rw [h1] at g2;exact g2
  ·rw [h1] at g1;exact h6.trans g1
 rcases hrun with hrun | ⟨hrun,rfl⟩
 ·exact owp_value hrun (hK _ _ hrel)
 ·exact owp_skip hrun (hK _ _ hrel)
theorem rel_skip {a:Act} {w:World} {d:Option Nat} (hd:dOk B.n d=true) (hr:Rel B s a w):Rel B (s.upd d (.tup []) .none) (a.put d undef) w:=by
 obtain ⟨C,h1,h2,h3,h4,h5,h6⟩:=hr
 exact ⟨C,h1,put_rep h5 (Step.refl _ _ _) h2 (by rw [h3];exact hd) (.tup rfl (fun k a u h=>by simp at h)),by rw [put_size];exact h3,by rw [put_def];exact h4,h5,h6⟩
def gval (all:Array Oper) (m:Slots) (j:Nat):Option (Option Bool):=
 match (all[j]?).bind (·.dst) with
 |some d=>match m d with
  | .t (.v (.bool b))=>some (some b)
  | .tup _=>some none
  |_=>none
 |none=>none
theorem gval_rep {all:Array Oper} {a:Act} {w:World} {C:Ctx} {m:Slots} (h:∀t,RepA w C (m t) (a.tmps.getD t undef)) {j:Nat} {r:Option Bool} (hg:gval all m j=some r):yielded all a.tmps j=r:=by
 unfold gval at hg
 split at hg
 ·rename_i d hd
  have hr:=h d
  split at hg
  ·rename_i b hb
   cases hg
   rw [hb] at hr
   have hv:=(rep_v hr).1
   have:a.tmps[d]? =some (.bool b):=by
    rw [Array.getD_eq_getD_getElem?] at hv
    cases hx:a.tmps[d]? with
    |none=>rw [hx] at hv;simp [undef] at hv
    |some x=>rw [hx] at hv;simpa using hv
   simp [yielded,hd,this]
  ·rename_i cs hb
   cases hg
   rw [hb] at hr
   obtain ⟨vs,hv,_⟩:=rep_tup hr
   have:∀b,a.tmps[d]?≠some (.bool b):=by
    intro b hx
    rw [Array.getD_eq_getD_getElem?,hx] at hv
    simp at hv
   cases hx:a.tmps[d]? with
   |none=>simp [yielded,hd,hx]
   |some x=>
    cases x<;>first | (rename_i b;exact absurd hx (this b)) | simp [yielded,hd,hx]
  ·cases hg
 ·cases hg
theorem K_op {all:Array Oper} {o:Oper} {r:List Oper} {s':St} (hg:o.guard=none) (hd:dOk B.n o.dst=true) (h1:one P s o=some s') (h:Kp P B (.ops all r :: k) R .normal s'):Kp P B (.ops all (o :: r) :: k) R .normal s:=by
 intro a w hr
 exact wpL_plain hg fun K hK=>one_wp h1 hd hr fun a' w' hr'=>hK _ _ (h a' w' hr')
theorem K_opF {all:Array Oper} {o:Oper} {r:List Oper} {j:Nat} {b:Bool} {g:Option Bool} (hg:o.guard=some (j,b)) (hv:gval all s.m j=some g) (hne:g≠some b) (hd:dOk B.n o.dst=true) (h:Kp P B (.ops all r :: k) R .normal (s.upd o.dst (.tup []) .none)):
  Kp P B (.ops all (o :: r) :: k) R .normal s:=by
 intro a w hr
 refine wpL_step fun K hK=>?_
 have hw:Region.wanted o (yielded all a.tmps)=false:=by
  obtain ⟨C,_,h2,_⟩:=hr
  simp [Region.wanted,hg,gval_rep h2 hv,hne]
 rw [hw]
 exact hK _ _ (h _ _ (rel_skip hd hr))
def popTo (id:Nat):List KI→Option (List KI)
 |[]=>none
 | .blk i :: k=>if i=id then some k else popTo id k
 |_ :: k=>popTo id k
theorem K_pop {id:Nat} {k':List KI} (h:popTo id k=some k') (hk:Kp P B k' R .normal s):Kp P B k R (.exit id) s:=by
 induction k with
 |nil=>simp [popTo] at h
 |cons x k ih=>
  cases x with
  |blk i=>
   simp only [popTo] at h
   simp only [Kp]
   split at h<;>rename_i hi
   ·cases h;rw [if_pos hi.symm];exact hk
   ·rw [if_neg (fun e=>hi e.symm)];exact ih h
  |_=>exact ih h
theorem K_toRet (h:R .ret s):∀k,Kp P B k R .ret s:=by
 intro k
 induction k with
 |nil=>exact h
 |cons x k ih=>cases x<;>exact ih
def popLab:List KI→Option (Nat→St→Prop)
 |[]=>none
 | .lab J :: _=>some J
 | .scp :: _=>none
 |_ :: k=>popLab k
theorem K_toLab {l:Nat} {J:Nat→St→Prop} (h:popLab k=some J) (hJ:J l s):Kp P B k R (.goto l) s:=by
 induction k with
 |nil=>simp [popLab] at h
 |cons x k ih=>
  cases x with
  |lab J'=>simp only [popLab] at h;cases h;exact hJ
  |scp=>simp [popLab] at h
  |_=>exact ih h
section
variable {n:Nat} {all:Array Oper}
structure LS (all:Array Oper) (listed:Array Bool) (l:List Rc):Prop where
 sz:listed.size=all.size
 list:∀i<all.size,listed.getD i true=false↔∃r∈l,r.i=i
 lt:∀r∈l,r.i<all.size
 closed:∀j<all.size,listed.getD j true=true→∀e∈preds all j,listed.getD e false=true
theorem listed_mono {listed:Array Bool} {i x:Nat} (hi:i<listed.size) (hx:listed.getD x false=true):(listed.setIfInBounds i true).getD x false=true:=by
 by_cases e:x=i
 ·subst e
  rw [Array.getD_eq_getD_getElem?,Array.getElem?_setIfInBounds_self_of_lt hi];rfl
 ·rw [Array.getD_eq_getD_getElem?,Array.getElem?_setIfInBounds_ne (fun h=>e h.symm),←Array.getD_eq_getD_getElem?];exact hx
theorem listed_self {listed:Array Bool} {i:Nat} (hi:i<listed.size) {b:Bool}:(listed.setIfInBounds i true).getD i b=true:=by
 rw [Array.getD_eq_getD_getElem?,Array.getElem?_setIfInBounds_self_of_lt hi];rfl
theorem listed_ne {listed:Array Bool} {i j:Nat} (e:j≠i) {b:Bool}:(listed.setIfInBounds i true).getD j b=listed.getD j b:=by
 rw [Array.getD_eq_getD_getElem?,Array.getElem?_setIfInBounds_ne (fun h=>e h.symm),←Array.getD_eq_getD_getElem?]
theorem LS.step {listed:Array Bool} {l1 l2:List Rc} {r:Rc} (h:LS all listed (l1++r :: l2)) (hne:∀q∈l1++l2,q.i≠r.i) (hpre:∀e∈preds all r.i,listed.getD e false=true):LS all (listed.setIfInBounds r.i true) (l1++l2):=by
 have hri:r.i<listed.size:=by rw [h.sz];exact h.lt r (by simp)
 refine ⟨by simpa using h.sz,fun j hj=>?_,fun q hq=>h.lt q ?_,fun j hj hjl e he=>?_⟩
 ·by_cases e:j=r.i
  ·subst e
   rw [listed_self hri]
   exact ⟨fun h=>(by cases h),fun ⟨q,hq,hqi⟩=>absurd hqi (hne q hq)⟩
  ·rw [listed_ne e,h.list j hj]
   refine ⟨fun ⟨q,hq,hqi⟩=>?_,fun ⟨q,hq,hqi⟩=>⟨q,?_,hqi⟩⟩
   ·rcases List.mem_append.1 hq with e1 | e1
    ·exact ⟨q,List.mem_append_left _ e1,hqi⟩
    ·rcases List.mem_cons.1 e1 with e2 | e2
     ·subst e2;exact absurd hqi.symm e
     ·exact ⟨q,List.mem_append_right _ e2,hqi⟩
   ·rcases List.mem_append.1 hq with e1 | e1
    ·exact List.mem_append_left _ e1
    ·exact List.mem_append_right _ (List.mem_cons_of_mem _ e1)
 ·rcases List.mem_append.1 hq with e1 | e1
  ·exact List.mem_append_left _ e1
  ·exact List.mem_append_right _ (List.mem_cons_of_mem _ e1)
 ·by_cases e1:j=r.i
  ·subst e1;exact listed_mono hri (hpre e he)
  ·rw [listed_ne e1] at hjl
   exact listed_mono hri (h.closed j hj hjl e he)
theorem LS.ready {listed:Array Bool} {l:List Rc} (h:LS all listed l) {i:Nat} (hi:i∈Region.ready .any all listed):i<all.size∧(∃r∈l,r.i=i)∧∀e∈preds all i,listed.getD e false=true:=by
 simp only [Region.ready,List.mem_filter,List.mem_range,Bool.and_eq_true] at hi
 obtain ⟨hi1,hi2,hi3⟩:=hi
 have hf:listed.getD i true=false:=by simpa using hi2
 refine ⟨hi1,(h.list i hi1).1 hf,fun e he=>?_⟩
 simp only [preds,Array.getElem?_eq_getElem hi1,List.mem_map,List.mem_filter] at he
 obtain ⟨x,⟨hx1,hx2⟩,rfl⟩:=he
 rw [Array.getElem?_eq_getElem hi1] at hi3
 simp only [Option.map_some,Option.getD_some,Array.all_eq_true_iff_forall_mem,Array.mem_toList_iff] at hi3
 have:=hi3 x (by simpa using hx1)
 simpa [hx2] using this
theorem LS.some {t:List (List Nat)} (ht:tabOK all t=true) {listed:Array Bool} {r:Rc} {l:List Rc} (h:LS all listed (r :: l)) (hs:(r :: l).Pairwise (fun r q=>r.i<q.i)):Region.ready .any all listed≠[]:=by
 intro hnil
 have hrlt:=h.lt r List.mem_cons_self
 have hpr:∀e∈preds all r.i,listed.getD e false=true:=by
  intro e he
  have h2:=List.all_eq_true.1 ht r.i (List.mem_range.2 hrlt)
  simp only [Bool.and_eq_true] at h2
  have hlt':e<r.i:=by simpa using List.all_eq_true.1 h2.1 e he
  have hes:e<listed.size:=by rw [h.sz];omega
  cases hz:listed.getD e true with
  |true=>rw [Array.getD_eq_getD_getElem?,Array.getElem?_eq_getElem hes] at hz ⊢;simpa using hz
  |false=>
   obtain ⟨q,hq1,hq2⟩:=(h.list e (by omega)).1 hz
   rcases List.mem_cons.1 hq1 with e1 | e1
   ·subst e1;omega
   ·have:=(List.pairwise_cons.1 hs).1 q e1
    omega
 have:r.i∈Region.ready .any all listed:=by
  simp only [Region.ready,List.mem_filter,List.mem_range,Bool.and_eq_true]
  refine ⟨hrlt,by simp [(h.list r.i hrlt).2 ⟨r,List.mem_cons_self,rfl⟩],?_⟩
  rw [Array.getElem?_eq_getElem hrlt]
  simp only [Option.map_some,Option.getD_some,Array.all_eq_true_iff_forall_mem]
  intro x hx
  cases hb:Region.binds .any x with
  |false=>simp
  |true=>
   simp only [Bool.not_true,Bool.false_or]
   refine hpr x.on ?_
   simp only [preds,Array.getElem?_eq_getElem hrlt,List.mem_map,List.mem_filter]
   exact ⟨x,⟨by simpa using hx,hb⟩,rfl⟩
 rw [hnil] at this
 cases this
theorem Inv.ne {an:Nat→Nat→Bool} {l1 l2:List Rc} {r:Rc} {s:St} (h:Inv P n all an (l1++r :: l2) s):∀q∈l1++l2,q.i≠r.i:=by
 intro q hq
 have ho:=h.ord
 rw [List.pairwise_append,List.pairwise_cons] at ho
 rcases List.mem_append.1 hq with e | e
 ·exact (ho.2.2 q e r List.mem_cons_self).ne
 ·exact fun he=>(ho.2.1.1 q e).ne he.symm
theorem Inv.wp {B:Base} {an:Nat→Nat→Bool} {l1 l2:List Rc} {r:Rc} {s:St} {a:Act} {w:World} {K:Act→World→Prop} {Q:Exit→Act→World→Prop} (hn:B.n=n) (hd:dOk n (dstOf all r.i)=true)
  (h:Inv P n all an (l1++r :: l2) s) (ha:∀q∈l1++r :: l2,an q.i r.i=false) (hr:Rel B s a w)
  (hK:∀s' a' w',Inv P n all an (l1++l2) s'→goes all s'.m (l1++l2)=goes all s.m (l1++r :: l2)→goesS (s'.σ,s'.nx) (l1++l2)=goesS (s.σ,s.nx) (l1++r :: l2)→Rel B s' a' w'→K a' w'):wpO B.ro P all Q r.i K a w:=by
 obtain ⟨hv,hdo,hinv',hg1,hg2⟩:=h.take ha
 obtain ⟨C,h1,h2,h3,h4,h5,h6⟩:=hr
 refine hdo C a w h1 h5 (by rw [h3,hn]) (fun t'=>?_) _ _ _ fun u w' C' g1 g2 g3 g4=>?_
 ·simp only [mask]
  split
  ·rename_i hm
   rw [←hv t' (by simpa using hm)]
   exact h2 t'
  ·exact .any
 ·exact hK ⟨put s.m (dstOf all r.i) r.v,(after (s.σ,s.nx) r).1,(after (s.σ,s.nx) r).2⟩ _ _ hinv' hg1 hg2 ⟨C',g2,put_rep h5 g3 h2 (by rw [h3,hn];exact hd) g4,by rw [put_size];exact h3,by rw [put_def];exact h4.step g3,g1,h6.trans g3⟩
theorem sorted_drop {R:Rc→Rc→Prop} {l1 l2:List Rc} {r:Rc} (h:(l1++r :: l2).Pairwise R):(l1++l2).Pairwise R:=h.sublist (List.append_sublist_append_left l1 |>.2 (List.sublist_cons_self r l2))
theorem wpAny_inv {B:Base} {Q:Exit→Act→World→Prop} {t:List (List Nat)} (ht:tabOK all t=true) {an:Nat→Nat→Bool} {ex:Option (Nat×Nat)} (han:∀x i,an x i=true→ancT t x i=true∨ex=some (x,i)) {R:St→Prop} (hn:B.n=n) (hQ:∀s a w,R s→Rel B s a w→Q .normal a w)
  (hd:∀i<all.size,dOk n (dstOf all i)=true):
  ∀(fuel:Nat) (l:List Rc) (s:St) (listed:Array Bool) (a:Act) (w:World),l.length=fuel→LS all listed l→
   (∀x i,ex=some (x,i)→listed.getD x false=true)→l.Pairwise (fun r q=>r.i<q.i)→Inv P n all an l s→R ⟨goes all s.m l,(goesS (s.σ,s.nx) l).1,(goesS (s.σ,s.nx) l).2⟩→Rel B s a w→wpA B.ro P all Q fuel listed a w:=by
 intro fuel
 induction fuel with
 |zero=>
  intro l s listed a w hl hls _ _ hinv hR hr
  have:l=[]:=List.eq_nil_of_length_eq_zero hl
  subst this
  refine ⟨?_,hQ _ _ _ hR hr⟩
  refine List.eq_nil_iff_forall_not_mem.2 fun i hi=>?_
  obtain ⟨_,⟨r,hr,_⟩,_⟩:=hls.ready hi
  cases hr
 |succ fuel ih=>
  intro l s listed a w hl hls hex hsort hinv hR hr
  refine ⟨fun hnil=>?_,fun i hi=>?_⟩
  ·exfalso
   cases l with
   |nil=>simp at hl
   |cons r l=>exact hls.some ht hsort hnil
  ·obtain ⟨hi1,⟨r,hr1,hri⟩,hpre⟩:=hls.ready hi
   subst hri
   obtain ⟨l1,l2,hsplit⟩:=List.append_of_mem hr1
   subst hsplit
   have hanc:∀q∈l1++r :: l2,an q.i r.i=false:=fun q hq=>by
    cases hq2:an q.i r.i with
    |false=>rfl
    |true=>
     have h1:listed.getD q.i false=true:=(han _ _ hq2).elim (fun h=>tab_spec ht hls.closed r.i hi1 hpre q.i h) (fun h=>hex _ _ h)
     have h2:=(hls.list q.i (hls.lt q hq)).2 ⟨q,hq,rfl⟩
     rw [Array.getD_eq_getD_getElem?] at h1 h2
     cases hz:listed[q.i]? with
     |none=>rw [hz] at h1;simp at h1
     |some b=>rw [hz] at h1 h2;simp at h1 h2;rw [h1] at h2;cases h2
   have hri:r.i<listed.size:=by rw [hls.sz];exact hi1
   refine hinv.wp hn (hd r.i hi1) hanc hr fun s' a' w' g1 g2 g3 g4=>?_
   refine ih (l1++l2) s' _ a' w' (by simp at hl ⊢;omega) (hls.step hinv.ne hpre) (fun x i hx=>listed_mono hri (hex x i hx)) (sorted_drop hsort) g1 ?_ g4
   rw [g2,g3]
   exact hR
theorem wpAny_pair {B:Base} {Q:Exit→Act→World→Prop} (ht:tabOK all (tabUp all all.size)=true) {a1 b1:Nat} (hab:a1≠b1) {R:St→Prop} (hn:B.n=n) (hQ:∀s a w,R s→Rel B s a w→Q .normal a w) (hd:∀i<all.size,dOk n (dstOf all i)=true) {x y:List Rc}
  (hx:∀r∈x,r.i=a1∨r.i=b1∨anc all a1 r.i=true∨anc all b1 r.i=true):
  ∀(d:List Rc) (s:St) (listed:Array Bool) (a:Act) (w:World),LS all listed (d++x)→LS all listed (d++y)→listed.getD a1 true=false→listed.getD b1 true=false→
   (d++x).Pairwise (fun r q=>r.i<q.i)→(d++y).Pairwise (fun r q=>r.i<q.i∨(r.i=b1∧q.i=a1))→Inv P n all (anS all (some (a1,b1,true))) (d++x) s→Inv P n all (anS all (some (b1,a1,true))) (d++y) s→x.length=y.length→a1<all.size→b1<all.size→
   R ⟨goes all s.m (d++x),(goesS (s.σ,s.nx) (d++x)).1,(goesS (s.σ,s.nx) (d++x)).2⟩→R ⟨goes all s.m (d++y),(goesS (s.σ,s.nx) (d++y)).1,(goesS (s.σ,s.nx) (d++y)).2⟩→
   Rel B s a w→wpA B.ro P all Q (d++x).length listed a w:=by
 have han:∀u i,anS all (some (a1,b1,true)) u i=true→ancT (tabUp all all.size) u i=true∨some (a1,b1)=some (u,i):=fun u i h=>by
  simp only [anS,swIs,Bool.or_eq_true,Bool.and_eq_true,beq_iff_eq] at h
  exact h.imp id fun ⟨h1,h2⟩=>by rw [h1,h2]
 have han':∀u i,anS all (some (b1,a1,true)) u i=true→ancT (tabUp all all.size) u i=true∨some (b1,a1)=some (u,i):=fun u i h=>by
  simp only [anS,swIs,Bool.or_eq_true,Bool.and_eq_true,beq_iff_eq] at h
  exact h.imp id fun ⟨h1,h2⟩=>by rw [h1,h2]
 intro d
 generalize hf:(d++x).length=fuel
 induction fuel generalizing d with
 |zero=>
  intro s listed a w hls _ hfa _ _ _ _ _ _ ha1 _ _ _ _
  have:d++x=[]:=List.eq_nil_of_length_eq_zero hf
  rw [this] at hls
  obtain ⟨r,hr,_⟩:=(hls.list a1 ha1).1 hfa
  cases hr
 |succ fuel ih=>
  intro s listed a w hls hls' hfa hfb hsort hsort' hinv hinv' hxy ha1 hb1 hR hR' hr
  have hf':(d++y).length=fuel+1:=by simp only [List.length_append] at hf ⊢;omega
  refine ⟨fun hnil=>?_,fun i hi=>?_⟩
  ·exfalso
   cases hl:d++x with
   |nil=>rw [hl] at hf;simp at hf
   |cons r l=>rw [hl] at hls hsort;exact hls.some ht hsort hnil
  ·obtain ⟨hi1,hex,hpre⟩:=hls.ready hi
   have hil:i<listed.size:=by rw [hls.sz];exact hi1
   have hup:∀u,ancT (tabUp all all.size) u i=true→listed.getD u false=true:=fun u h=>tab_spec ht hls.closed i hi1 hpre u h
   have hno:∀{u:Nat},u<all.size→listed.getD u false=true→listed.getD u true=false→False:=fun {u} _ h1 h2=>by
    rw [Array.getD_eq_getD_getElem?] at h1 h2
    cases hz:listed[u]? with
    |none=>rw [hz] at h1;simp at h1
    |some b=>rw [hz] at h1 h2;simp at h1 h2;rw [h1] at h2;cases h2
   have hanc:∀{L:List Rc} {f:Nat→Nat→Bool} {x0 y0:Nat},LS all listed L→(∀x i,f x i=true→ancT (tabUp all all.size) x i=true∨some (x0,y0)=some (x,i))→i≠y0→∀q∈L,f q.i i=false:=fun {L f x0 y0} hL hf hne q hq=>by
    cases hq2:f q.i i with
    |false=>rfl
    |true=>
     have h1:listed.getD q.i false=true:=(hf _ _ hq2).elim (fun h=>hup _ h) (fun h=>by cases h;exact absurd rfl hne)
     exact (hno (hL.lt q hq) h1 ((hL.list q.i (hL.lt q hq)).2 ⟨q,hq,rfl⟩)).elim
   by_cases hib:i=b1
   ·obtain ⟨r,hr1,hri⟩:=(hls'.ready hi).2.1
    subst hri
    obtain ⟨l1,l2,hsplit⟩:=List.append_of_mem hr1
    rw [hsplit] at hls' hsort' hinv' hR' hf'
    refine hinv'.wp hn (hd r.i hi1) (hanc hls' han' (fun e=>hab (e.symm.trans hib))) hr fun s' a' w' g1 g2 g3 g4=>?_
    refine wpAny_inv ht han' hn hQ hd fuel (l1++l2) s' _ a' w' (by simp only [List.length_append,List.length_cons] at hf' ⊢;omega) (hls'.step hinv'.ne hpre) (fun x i hx=>?_) ?_ g1 ?_ g4
    ·cases hx
     rw [hib] at hil ⊢
     exact listed_self hil
    ·refine (sorted_drop hsort').imp_of_mem fun {p q} hp hq h=>h.resolve_right fun ⟨h1,_⟩=>?_
     exact hinv'.ne p hp (h1.trans hib.symm)
    ·rw [g2,g3];exact hR'
   ·obtain ⟨r,hr1,hri⟩:=hex
    subst hri
    by_cases hia:r.i=a1
    ·obtain ⟨l1,l2,hsplit⟩:=List.append_of_mem hr1
     rw [hsplit] at hls hsort hinv hR hf
     refine hinv.wp hn (hd r.i hi1) (hanc hls han hib) hr fun s' a' w' g1 g2 g3 g4=>?_
     refine wpAny_inv ht han hn hQ hd fuel (l1++l2) s' _ a' w' (by simp only [List.length_append,List.length_cons] at hf ⊢;omega) (hls.step hinv.ne hpre) (fun x i hx=>?_) (sorted_drop hsort) g1 ?_ g4
     ·cases hx
      rw [hia] at hil ⊢
      exact listed_self hil
     ·rw [g2,g3];exact hR
    ·have hrd:r∈d:=by
      rcases List.mem_append.1 hr1 with h | h
      ·exact h
      ·exfalso
       rcases hx r h with e | e | e | e
       ·exact hia e
       ·exact hib e
       ·exact hno ha1 (hup a1 e) hfa
       ·exact hno hb1 (hup b1 e) hfb
     obtain ⟨d1,d2,hsplit⟩:=List.append_of_mem hrd
     subst hsplit
     have e1:∀z:List Rc,d1++r :: d2++z=d1++r :: (d2++z):=fun z=>by simp
     have e2:∀z:List Rc,d1++d2++z=d1++(d2++z):=fun z=>by simp
     rw [e1] at hls hls' hsort hsort' hinv hinv' hR hR' hf
     have k1:=hanc hls han hib
     have k2:=hanc hls' han' hia
     obtain ⟨_,_,v3,v4,v5⟩:=hinv'.take k2
     obtain ⟨_,_,u3,u4,u5⟩:=hinv.take k1
     have hinv0:=hinv
     obtain ⟨hv,hdo,_,_,_⟩:=hinv.take k1
     obtain ⟨C,h1,h2,h3,h4,h5,h6⟩:=hr
     refine hdo C a w h1 h5 (by rw [h3,hn]) (fun t'=>?_) _ _ _ fun u w' C' g1 g2 g3 g4=>?_
     ·simp only [mask]
      split
      ·rename_i hm
       rw [←hv t' (by simpa using hm)]
       exact h2 t'
      ·exact .any
     ·refine ih (d1++d2) (by rw [e2];simp only [List.length_append,List.length_cons] at hf ⊢;omega) ⟨put s.m (dstOf all r.i) r.v,(after (s.σ,s.nx) r).1,(after (s.σ,s.nx) r).2⟩ _ _ w' ?_ ?_ ?_ ?_ ?_ ?_ ?_ ?_ hxy ha1 hb1 ?_ ?_ ⟨C',g2,put_rep h5 g3 h2 (by rw [h3,hn];exact hd r.i hi1) g4,by rw [put_size];exact h3,by rw [put_def];exact h4.step g3,g1,h6.trans g3⟩
      ·rw [e2];exact hls.step hinv.ne hpre
      ·rw [e2];exact hls'.step hinv'.ne hpre
      ·rw [listed_ne (Ne.symm hia)];exact hfa
      ·rw [listed_ne (Ne.symm hib)];exact hfb
      ·rw [e2];exact sorted_drop hsort
      ·rw [e2];exact sorted_drop hsort'
      ·rw [e2];exact u3
      ·rw [e2];exact v3
      ·rw [e2]
       have:=u5
       show R ⟨goes all (put s.m (dstOf all r.i) r.v) (d1++(d2++x)),(goesS (after (s.σ,s.nx) r) (d1++(d2++x))).1,(goesS (after (s.σ,s.nx) r) (d1++(d2++x))).2⟩
       rw [u4,u5];exact hR
      ·rw [e2]
       show R ⟨goes all (put s.m (dstOf all r.i) r.v) (d1++(d2++y)),(goesS (after (s.σ,s.nx) r) (d1++(d2++y))).1,(goesS (after (s.σ,s.nx) r) (d1++(d2++y))).2⟩
       rw [v4,v5];exact hR'
theorem LS.init {l:List Rc} (hl:∀i,(∃r∈l,r.i=i)↔i<all.size):LS all (Array.replicate all.size false) l:=by
 refine ⟨by simp,fun i hi=>?_,fun r hr=>(hl r.i).1 ⟨r,hr,rfl⟩,fun j hj hjl=>?_⟩
 ·rw [hl]
  simp [Array.getD_eq_getD_getElem?,Array.getElem?_replicate,hi]
 ·simp [Array.getD_eq_getD_getElem?,Array.getElem?_replicate,hj] at hjl
theorem stat_dok {lo:List Nat} {sw:SW} (hst:statS all n lo sw=true):∀i<all.size,dOk n (dstOf all i)=true:=fun i hi=>by
 have:=stat_dst hst i hi
 cases hd:dstOf all i with
 |none=>rfl
 |some d=>rw [hd] at this;exact this
theorem Pre.initM {lo:List Nat} {sw:SW} {s:St} {pend:List Rc} (hsw:∀i j,i<j→i<all.size→j<all.size→nextTo sw i j) (hm:∀q∈pend,Does P n all q.i q.m s.σ s.nx q.v s.σ s.nx):Pre P n all lo sw s [] (num 0 all.toList) pend s:=by
 refine ⟨⟨fun l1 r l2 h=>(by simp at h),List.Pairwise.nil,fun r hr=>(by cases hr),True.intro⟩,fun p hp=>?_,?_,rfl,fun q hq=>(by cases hq),fun q hq=>(by cases hq),fun q hq=>(by cases hq),fun _ q hq _=>hm q hq⟩
 ·have:=(num_mem p all.toList 0 hp).2
  simpa using this
 ·rw [List.map_nil,List.nil_append]
  refine (num_sorted all.toList 0).imp_of_mem fun {i j} hi hj h=>?_
  have h1:=(num_ix all.toList 0 i).1 hi
  have h2:=(num_ix all.toList 0 j).1 hj
  simp only [Array.length_toList,Nat.zero_add] at h1 h2
  exact hsw i j h h1.2 h2.2
theorem Pre.init {lo:List Nat} {sw:SW} {s:St} (hsw:∀i j,i<j→i<all.size→j<all.size→nextTo sw i j):Pre P n all lo sw s [] (num 0 all.toList) [] s:=Pre.initM hsw fun q hq=>by cases hq
theorem ix_mem {l:List Rc} (h:l.map (·.i)=(num 0 all.toList).map (·.1)) (i:Nat):(∃r∈l,r.i=i)↔i<all.size:=by
 have:i∈l.map (·.i)↔i∈(num 0 all.toList).map (·.1):=by rw [h]
 rw [num_ix] at this
 simpa using this
theorem K_drawnM {id:Nat} (lo:List Nat) (pend:List Rc) (hm:P.follows .mixedOrders=true) (hst:statOK all B.n lo=true) (hpd:∀q∈pend,Does P B.n all q.i q.m s.σ s.nx q.v s.σ s.nx)
  (h:Kp P B (.opsD all lo none (num 0 all.toList) pend :: k) R .normal s):Kp P B (.code (.region id all true) :: k) R .normal s:=by
 intro a w hr
 refine wpIn_region_any hm ?_
 obtain ⟨l,hinv,hl,hk⟩:Fin1 P B.n all none (Kp P B k R .normal) s [] (List.map (fun (p:Nat×Oper)=>p.fst) (num 0 all.toList)):=h hst s [] (Pre.initM (fun i j h _ _=>.inl ⟨h,rfl⟩) hpd)
 rw [List.nil_append] at hinv hk
 have hlen:l.length=all.size:=by
  have:=congrArg List.length hl
  simp only [List.length_map] at this
  have e:∀(l:List Oper) k,(num k l).length=l.length:=by
   intro l
   induction l with
   |nil=>intro k;rfl
   |cons o l ih=>intro k;simp [num,ih]
  rw [e] at this
  simpa using this
 have hs:l.Pairwise (fun r q=>r.i<q.i):=by
  have:=num_sorted all.toList 0
  rw [←hl] at this
  exact List.pairwise_map.1 this
 obtain ⟨C,h1,h2,h3,h4,h5,h6⟩:=hr
 obtain ⟨g1,g2⟩:=sim_world h5 (w':={w with drawn:=w.drawn+1}) rfl rfl rfl rfl
 exact wpAny_inv (stat_tab hst) (an:=anS all none) (ex:=none) (fun x i h=>.inl (by simpa [anS,swIs,anc] using h)) (R:=fun s=>Kp P B k R .normal s) rfl (fun s a w hk hr=>⟨s,hk,hr⟩) (stat_dok hst) all.size l s _ a _ hlen (LS.init (ix_mem hl)) (fun x i e=>by cases e) hs hinv hk
  ⟨C,h1,fun t=>(h2 t).step h5 g2,h3,⟨h4.all,h4.nodup⟩,g1,h6.trans g2⟩
theorem K_drawn {id:Nat} (lo:List Nat) (hm:P.follows .mixedOrders=true) (hst:statOK all B.n lo=true)
  (h:Kp P B (.opsD all lo none (num 0 all.toList) [] :: k) R .normal s):Kp P B (.code (.region id all true) :: k) R .normal s:=K_drawnM lo [] hm hst (fun q hq=>by cases hq) h
theorem K_drawn2 {id:Nat} (lo:List Nat) (a1 b1:Nat) (hlt:a1<b1) (hm:P.follows .mixedOrders=true) (hst:statS all B.n lo (some (a1,b1,false))=true)
  (h:Kp P B (.opsD all lo (some (a1,b1,false)) (num 0 all.toList) [] :: k) R .normal s):Kp P B (.code (.region id all true) :: k) R .normal s:=by
 intro a w hr
 refine wpIn_region_any hm ?_
 obtain ⟨hab,ha1,hb1⟩:=stat_sw hst
 obtain ⟨d,x,y,⟨x1,x2,x3⟩,⟨y1,y3⟩,hxy,hlxy,hord,hx⟩:Fin2 P B.n all (Kp P B k R .normal) s a1 b1 [] (List.map (fun (p:Nat×Oper)=>p.fst) (num 0 all.toList)):=h hst s [] (Pre.init fun i j h hi hj=>by
  refine .inl ⟨h,?_⟩
  cases e:swIs (some (a1,b1,false)) j i with
  |false=>rfl
  |true=>
   simp only [swIs,Bool.and_eq_true,beq_iff_eq] at e
   omega)
 simp only [List.nil_append,List.map_nil] at x1 x3 y1 y3 hord
 have hmy:∀i,(∃r∈d++y,r.i=i)↔i<all.size:=fun i=>by
  rw [←ix_mem x2 i]
  have e:∀(l:List Rc),(∃r∈l,r.i=i)↔i∈l.map (·.i):=fun l=>by simp
  rw [e,e,List.map_append,List.map_append,List.mem_append,List.mem_append,hxy i]
 have hlen:(d++x).length=all.size:=by
  have:=congrArg List.length x2
  simp only [List.length_map] at this
  have e:∀(l:List Oper) k,(num k l).length=l.length:=by
   intro l
   induction l with
   |nil=>intro k;rfl
   |cons o l ih=>intro k;simp [num,ih]
  rw [e] at this
  simpa using this
 have hs:(d++x).Pairwise (fun r q=>r.i<q.i):=by
  have:=num_sorted all.toList 0
  rw [←x2] at this
  exact List.pairwise_map.1 this
 have hs':(d++y).Pairwise (fun r q=>r.i<q.i∨(r.i=b1∧q.i=a1)):=by
  refine (List.pairwise_map.1 hord).imp fun {r q} h=>h.imp (fun h=>h.1) fun h=>?_
  simpa only [swIs,Bool.and_eq_true,beq_iff_eq] using h
 obtain ⟨C,h1,h2,h3,h4,h5,h6⟩:=hr
 obtain ⟨g1,g2⟩:=sim_world h5 (w':={w with drawn:=w.drawn+1}) rfl rfl rfl rfl
 have hf:∀u,u<all.size→(Array.replicate all.size false).getD u true=false:=fun u hu=>by simp [Array.getD_eq_getD_getElem?,Array.getElem?_replicate,hu]
 have:=wpAny_pair (P:=P) (n:=B.n) (stat_tab hst) hab (B:=B) (Q:=post B (Kp P B k R)) (R:=fun s=>Kp P B k R .normal s) rfl (fun s a w hk hr=>⟨s,hk,hr⟩) (stat_dok hst) (x:=x) (y:=y) hx d s _ a {w with drawn:=w.drawn+1} (LS.init (ix_mem x2)) (LS.init hmy) (hf a1 ha1) (hf b1 hb1) hs hs' x1 y1 hlxy ha1 hb1 x3 y3
  ⟨C,h1,fun t=>(h2 t).step h5 g2,h3,⟨h4.all,h4.nodup⟩,g1,h6.trans g2⟩
 rw [hlen] at this
 exact this
theorem K_dPair {lo:List Nat} {a b:Nat} {oa ob:Oper} {rest:List (Nat×Oper)} {pend:List Rc} (hr:(rest.map (·.1)).all (fun i=>anc all a i||anc all b i)=true)
  (h1:Kp P B (.opsD all lo (some (a,b,true)) ((a,oa) :: (b,ob) :: rest) pend :: k) R .normal s) (h2:Kp P B (.opsD all lo (some (b,a,true)) ((b,ob) :: (a,oa) :: rest) pend :: k) R .normal s):
  Kp P B (.opsD all lo (some (a,b,false)) ((a,oa) :: (b,ob) :: rest) pend :: k) R .normal s:=
 Chain.pair (fun p hp=>by
  have:=List.all_eq_true.1 hr p.1 (List.mem_map.2 ⟨p,hp,rfl⟩)
  simpa using this) h1 h2
theorem K_dNil {lo:List Nat} {sw:SW} {pend:List Rc} (hs:settled sw=true) (h:Kp P B k R .normal s):Kp P B (.opsD all lo sw [] pend :: k) R .normal s:=Chain.nil hs h
theorem mask_ev {m:Slots} {i:Nat} {o:Oper} (ho:all[i]? =some o):∀x∈o.op.operands.toList,ev (mask (looksOf all i) m) x=ev m x:=by
 intro x hx
 cases x with
 |tmp t=>
  simp only [ev,mask]
  rw [if_pos]
  simp only [looksOf,ho,Oper.looksAt,List.contains_iff_mem,List.mem_append,List.mem_filterMap]
  exact .inl ⟨_,hx,rfl⟩
 |_=>rfl
theorem mask_guard {m:Slots} {i:Nat} {o:Oper} (ho:all[i]? =some o) {j:Nat} {b:Bool} (hg:o.guard=some (j,b)):gval all (mask (looksOf all i) m) j=gval all m j:=by
 unfold gval
 cases hd:(all[j]?).bind (·.dst) with
 |none=>rfl
 |some d=>
  have:mask (looksOf all i) m d=m d:=by
   simp only [mask]
   rw [if_pos]
   simp only [looksOf,ho,Oper.looksAt,hg,hd,List.contains_iff_mem,List.mem_append]
   exact .inr (by simp)
  simp only [this]
def lets (all:Array Oper) (m:Slots) (o:Oper):Option Bool:=
 match o.guard with
 |none=>some true
 |some (j,b)=>(gval all m j).map fun g=>g==some b
theorem lets_wanted {m:Slots} {i:Nat} {o:Oper} (ho:all[i]? =some o) {a:Act} {w:World} {C:Ctx} (h:∀t,RepA w C (mask (looksOf all i) m t) (a.tmps.getD t undef)) {b:Bool} (hl:lets all m o=some b):
  Region.wanted o (yielded all a.tmps)=b:=by
 unfold lets at hl
 split at hl
 ·rename_i hg
  cases hl
  simp [Region.wanted,hg]
 ·rename_i j b' hg
  rw [←mask_guard ho hg] at hl
  cases hv:gval all (mask (looksOf all i) m) j with
  |none=>rw [hv] at hl;cases hl
  |some g=>
   rw [hv] at hl
   simp only [Option.map_some,Option.some.injEq] at hl
   simp only [Region.wanted,hg,gval_rep h hv]
   exact hl
theorem does_pure {i:Nat} {o:Oper} {m:Slots} {v:AV} (ho:all[i]? =some o) (hl:lets all m o=some true) (hv:evalP P (ev m) o.op=some v) (σ:Nat→AObj) (nx:Nat):Does P n all i m σ nx v σ nx:=by
 intro C a w hn hs hsz hr ro K Q hK
 rw [←evalP_congr (mask_ev ho)] at hv
 obtain ⟨C',w',u,hrun,g1,g2,g3,g4⟩:=evalP_sound hs (ev_rep hr) hv
 have hd:dstOf all i=o.dst:=by simp [dstOf,ho]
 simp only [wpO,wpOpIn,ho,lets_wanted ho hr hl,if_true]
 rw [hd] at hK
 rcases hrun with hrun | ⟨hrun,rfl⟩
 ·exact owp_value hrun (hK _ _ C' g2 (g3.trans hn) g1 g4)
 ·exact owp_skip hrun (hK _ _ C' g2 (g3.trans hn) g1 g4)
theorem does_store {i:Nat} {o:Oper} {m:Slots} {v:AV} {e:Eff} {σ:Nat→AObj} {nx:Nat} (ho:all[i]? =some o) (hl:lets all m o=some true) (hv:evalS P σ nx (ev m) o.op=some (v,e)):
  Does P n all i m σ nx v (e.on σ nx).1 (e.on σ nx).2:=by
 intro C a w hn hs hsz hr ro K Q hK
 rw [←evalS_congr (mask_ev ho),←hn] at hv
 obtain ⟨C',w',u,hrun,g1,g2,g3,g4⟩:=evalS_sound hs (ev_rep hr) hv
 have hd:dstOf all i=o.dst:=by simp [dstOf,ho]
 simp only [wpO,wpOpIn,ho,lets_wanted ho hr hl,if_true]
 rw [hd] at hK
 rw [hn] at g1 g2 g3
 rcases hrun with hrun | ⟨hrun,rfl⟩
 ·exact owp_value hrun (hK _ _ C' g2 g3 g1 g4)
 ·exact owp_skip hrun (hK _ _ C' g2 g3 g1 g4)
theorem does_skip {i:Nat} {o:Oper} {m:Slots} (ho:all[i]? =some o) (hl:lets all m o=some false) (σ:Nat→AObj) (nx:Nat):Does P n all i m σ nx (.tup []) σ nx:=by
 intro C a w hn hs hsz hr ro K Q hK
 have hd:dstOf all i=o.dst:=by simp [dstOf,ho]
 simp only [wpO,wpOpIn,ho,lets_wanted ho hr hl]
 rw [hd] at hK
 exact ⟨fun _ _=>trivial,hK _ _ C hs hn (Step.refl _ _ _) (.tup rfl (fun k a u h=>by simp at h))⟩
section
variable {lo:List Nat} {sw:SW} {i:Nat} {o:Oper} {rest:List (Nat×Oper)} {pend:List Rc} {v:AV}
def tied (all:Array Oper) (lo:List Nat) (i:Nat):Bool:=lo.all fun k=>(!decide (k<i)||anc all k i)&&(!decide (i<k)||anc all i k)
theorem K_dPure (hl:lets all s.m o=some true) (hv:evalP P (ev s.m) o.op=some v) (h:Kp P B (.opsD all lo sw rest pend :: k) R .normal (s.upd o.dst v .none)):Kp P B (.opsD all lo sw ((i,o) :: rest) pend :: k) R .normal s:=
 Chain.at fun ho=>Chain.step (loud:=none) (does_pure ho hl hv _ _) (fun _=>.inl (does_pure ho hl hv)) (fun c hc=>by cases hc) (fun _ h=>h) h
theorem K_dSkip (hl:lets all s.m o=some false) (h:Kp P B (.opsD all lo sw rest pend :: k) R .normal (s.upd o.dst (.tup []) .none)):Kp P B (.opsD all lo sw ((i,o) :: rest) pend :: k) R .normal s:=
 Chain.at fun ho=>Chain.step (loud:=none) (does_skip ho hl _ _) (fun _=>.inl (does_skip ho hl)) (fun c hc=>by cases hc) (fun _ h=>h) h
theorem K_dRead (hl:lets all s.m o=some true) (hv:evalS P s.σ s.nx (ev s.m) o.op=some (v,.none)) (ht:tied all lo i=true) (h:Kp P B (.opsD all lo sw rest pend :: k) R .normal (s.upd o.dst v .none)):Kp P B (.opsD all lo sw ((i,o) :: rest) pend :: k) R .normal s:=
 Chain.at fun ho=>Chain.step (loud:=none) (does_store ho hl hv) (fun _=>.inr (by
  simp only [tied,List.all_eq_true,Bool.and_eq_true,Bool.or_eq_true,Bool.not_eq_true',decide_eq_false_iff_not] at ht
  exact ⟨fun k hk h=>((ht k hk).1).resolve_left (fun e=>e h),.inl fun k hk h=>((ht k hk).2).resolve_left (fun e=>e h)⟩)) (fun c hc=>by cases hc) (fun _ h=>h) h
theorem K_dFloat (hl:lets all s.m o=some true) (hv:evalS P s.σ s.nx (ev s.m) o.op=some (v,.none)) (ht:∀k∈lo,k<i→anc all k i=true) (h:Kp P B (.opsD all lo sw rest (⟨i,s.m,v,none⟩ :: pend) :: k) R .normal (s.upd o.dst v .none)):
  Kp P B (.opsD all lo sw ((i,o) :: rest) pend :: k) R .normal s:=
 Chain.at fun ho=>Chain.step (loud:=none) (does_store ho hl hv) (fun _=>.inr ⟨ht,.inr List.mem_cons_self⟩) (fun c hc=>by cases hc) (fun _ h=>List.mem_cons_of_mem _ h) h
theorem K_dLoud {e:Eff} (hl:lets all s.m o=some true) (hv:evalS P s.σ s.nx (ev s.m) o.op=some (v,e)) (hi:i∈lo) (hp:∀q∈pend,anc all q.i i=true∨Does P B.n all q.i q.m (e.on s.σ s.nx).1 (e.on s.σ s.nx).2 q.v (e.on s.σ s.nx).1 (e.on s.σ s.nx).2)
  (h:Kp P B (.opsD all lo sw rest pend :: k) R .normal (s.upd o.dst v e)):Kp P B (.opsD all lo sw ((i,o) :: rest) pend :: k) R .normal s:=
 Chain.at fun ho=>Chain.step (loud:=some (e.on s.σ s.nx)) (does_store ho hl hv) (fun hc=>by cases hc) (fun c hc=>by cases hc;exact ⟨hi,hp⟩) (fun _ h=>h) h
end
end
theorem K_bytes {all:Array Oper} {o1 o2:Oper} {rest:List Oper} {t d1 n:Nat} {parts:Array (Nat×Operand)} (hg1:o1.guard=none) (hg2:o2.guard=none) (h1:o1.op= .buildSlice t n parts) (h2:o2.op= .convert t t (.tmp d1)) (hd1:o1.dst=some d1)
  {es:List (List T)} {e:TypeId} {i1 i2:TI} (ht:TT P t=some i1) (ht':i1.desc= .slice e) (he:TT P e=some i2) (he':i2.desc= .int .u8) (hv:evalP P (ev s.m) o1.op=some (.fsl es)) (hb1:dOk B.n o1.dst=true) (hb2:dOk B.n o2.dst=true)
  (h:Kp P B (.ops all rest :: k) R .normal ⟨put (put s.m (some d1) .any) o2.dst (.t (.sl es)),s.σ,s.nx⟩):Kp P B (.ops all (o1 :: o2 :: rest) :: k) R .normal s:=by
 intro a w hr
 obtain ⟨C,g1,g2,g3,g4,g5,g6⟩:=hr
 rw [h1] at hv
 obtain ⟨us,e0,r,hrun,hr1,hr2,⟨sz,by_,z,ht0⟩,_,hrep⟩:=buildSlice_strong g5 (ev_rep g2) hv
 cases hr1
 rw [ht] at ht0
 have hee:e0=e:=by
  have:=congrArg (Option.map TI.desc) ht0
  simp only [Option.map_some,ht',Option.some.injEq,TypeDesc.slice.injEq] at this
  exact this.symm
 subst hee
 have hunt:P.underlying t=some (.slice e0):=by rw [←ht'];exact (tt_some ht).1
 have hune:P.underlying e0=some (.int .u8):=by rw [←he'];exact (tt_some he).1
 have hconv:=Lib.run_convert_bytes_const (P:=P) w t e0 us n n hunt hune
 have hd1':d1<a.tmps.size:=by rw [hd1] at hb1;rw [g3];simpa [dOk] using hb1
 refine wpL_plain hg1 fun K hK=>?_
 have hx1:(execOp a.eval o1).run P w= .ok (.value (.slice (some ⟨w.heap.size,0,none⟩) n n)) {w with heap:=w.heap.push (.cells us e0)}:=by
  simp only [execOp,h1,Sem.run_bind,hrun,Result.andThen_ok,Sem.run_pure]
 refine owp_value hx1 (hK _ _ (wpL_plain hg2 fun K' hK'=>?_))
 have hx2:(execOp (a.put o1.dst (.slice (some ⟨w.heap.size,0,none⟩) n n)).eval o2).run P {w with heap:=w.heap.push (.cells us e0)}= .ok (.value (.slice (some ⟨w.heap.size,0,none⟩) n n)) {w with heap:=w.heap.push (.cells us e0 (us.size,us.size+1))}:=by
  have hev:(a.put o1.dst (.slice (some ⟨w.heap.size,0,none⟩) n n)).eval (.tmp d1)= .slice (some ⟨w.heap.size,0,none⟩) n n:=by
   rw [hd1]
   simp [Act.eval,Act.put,Array.getD_eq_getD_getElem?,Array.getElem?_setIfInBounds_self_of_lt hd1']
  simp only [execOp,h2,Sem.run_bind,hev]
  have:(convert t t (.slice (some ⟨w.heap.size,0,none⟩) n n)).run P {w with heap:=w.heap.push (.cells us e0)}= .ok (.slice (some ⟨w.heap.size,0,none⟩) n n) {w with heap:=w.heap.push (.cells us e0 (us.size,us.size+1))}:=hconv
  rw [this]
  simp only [Result.andThen_ok,Sem.run_pure]
 refine owp_value hx2 ?_
 obtain ⟨s1,s2⟩:=sim_imm g5 (.cells us e0 (us.size,us.size+1))
 have p1:=put_rep g5 s2 g2 (d:=some d1) (by rw [←hd1,g3];exact hb1) (v:=.any) (u:=.slice (some ⟨w.heap.size,0,none⟩) n n) .any
 have p2:=put_rep (a:=a.put o1.dst (.slice (some ⟨w.heap.size,0,none⟩) n n)) s1 (Step.refl _ _ _) (by rw [hd1];exact p1) (d:=o2.dst) (by rw [put_size,g3];exact hb2) (RepA.t (hrep (us.size,us.size+1)))
 exact hK' _ _ (h _ _ ⟨{C with imm:=fun b=>C.imm b∨b=w.heap.size},g1,p2,by rw [put_size,put_size];exact g3,by rw [put_def,put_def];exact g4.step s2,s1,g6.trans s2⟩)
theorem K_bytesR {all:Array Oper} {o1 o2:Oper} {rest:List Oper} {t d1 n:Nat} {parts:Array (Nat×Operand)} (hg1:o1.guard=none) (hg2:o2.guard=none) (h1:o1.op= .buildSlice t n parts) (h2:o2.op= .convert t t (.tmp d1)) (hd1:o1.dst=some d1)
  {es:List (List T)} {e:TypeId} {i1 i2:TI} (ht:TT P t=some i1) (ht':i1.desc= .slice e) (he:TT P e=some i2) (he':i2.desc= .int .u8) (hv:evalP P (ev s.m) o1.op=some (.fsl es)) (hb1:dOk B.n o1.dst=true) (hb2:dOk B.n o2.dst=true)
  (h:Kp P B (.ops all rest :: k) R .normal ⟨put (put s.m (some d1) .any) o2.dst (.ref s.nx),oput s.σ s.nx (.arr i2.size es),s.nx+1⟩):Kp P B (.ops all (o1 :: o2 :: rest) :: k) R .normal s:=by
 intro a w hr
 obtain ⟨C,g1,g2,g3,g4,g5,g6⟩:=hr
 rw [h1] at hv
 obtain ⟨us,e0,r,hrun,hr1,hr2,⟨sz,by_,z,ht0⟩,⟨i0,hi0,u1,u2,u3⟩,hrep⟩:=buildSlice_strong g5 (ev_rep g2) hv
 cases hr1
 rw [ht] at ht0
 have hee:e0=e:=by
  have:=congrArg (Option.map TI.desc) ht0
  simp only [Option.map_some,ht',Option.some.injEq,TypeDesc.slice.injEq] at this
  exact this.symm
 subst hee
 have hunt:P.underlying t=some (.slice e0):=by rw [←ht'];exact (tt_some ht).1
 have hune:P.underlying e0=some (.int .u8):=by rw [←he'];exact (tt_some he).1
 have hconv:=Lib.run_convert_bytes_const (P:=P) w t e0 us n n hunt hune
 have hd1':d1<a.tmps.size:=by rw [hd1] at hb1;rw [g3];simpa [dOk] using hb1
 refine wpL_plain hg1 fun K hK=>?_
 have hx1:(execOp a.eval o1).run P w= .ok (.value (.slice (some ⟨w.heap.size,0,none⟩) n n)) {w with heap:=w.heap.push (.cells us e0)}:=by
  simp only [execOp,h1,Sem.run_bind,hrun,Result.andThen_ok,Sem.run_pure]
 refine owp_value hx1 (hK _ _ (wpL_plain hg2 fun K' hK'=>?_))
 have hx2:(execOp (a.put o1.dst (.slice (some ⟨w.heap.size,0,none⟩) n n)).eval o2).run P {w with heap:=w.heap.push (.cells us e0)}= .ok (.value (.slice (some ⟨w.heap.size,0,none⟩) n n)) {w with heap:=w.heap.push (.cells us e0 (us.size,us.size+1))}:=by
  have hev:(a.put o1.dst (.slice (some ⟨w.heap.size,0,none⟩) n n)).eval (.tmp d1)= .slice (some ⟨w.heap.size,0,none⟩) n n:=by
   rw [hd1]
   simp [Act.eval,Act.put,Array.getD_eq_getD_getElem?,Array.getElem?_setIfInBounds_self_of_lt hd1']
  simp only [execOp,h2,Sem.run_bind,hev]
  have:(convert t t (.slice (some ⟨w.heap.size,0,none⟩) n n)).run P {w with heap:=w.heap.push (.cells us e0)}= .ok (.slice (some ⟨w.heap.size,0,none⟩) n n) {w with heap:=w.heap.push (.cells us e0 (us.size,us.size+1))}:=hconv
  rw [this]
  simp only [Result.andThen_ok,Sem.run_pure]
 refine owp_value hx2 ?_
 rw [he] at hi0
 cases hi0
 obtain ⟨C',hC⟩:∃C':Ctx,C'=⟨C.imm,fun i=>if i=C.nx then some w.heap.size else C.own i,fun i=>if i=C.nx then .slice (some ⟨w.heap.size,0,none⟩) n n else C.hdr i,C.nx+1⟩:=⟨_,rfl⟩
 have hk0:Keeps w C.imm {w with heap:=w.heap.push (.cells us e0 (us.size,us.size+1))} C.imm:=⟨fun _ h=>h,fun b h=>push_old w _ (g5.imm_lt b h)⟩
 obtain ⟨s1,s2⟩:=sim_new g5 (.cells us e0 (us.size,us.size+1)) (.arr i2.size es) (.slice (some ⟨w.heap.size,0,none⟩) n n) C' hC
  ⟨u2,.inr ⟨w.heap.size,n,us,e0,us.size,us.size+1,by rw [hC];simp,by rw [hC,hr2];simp,by omega,push_new w _,by rw [u1,hr2],.inr (by rw [u1,hr2];exact Nat.le_refl _),fun j k e c u a b d=>by
   rw [hC];exact (u3 j k e c u a b d).keeps hk0⟩⟩
 rw [g1] at s1 s2
 have p1:=put_rep g5 s2 g2 (d:=some d1) (by rw [←hd1,g3];exact hb1) (v:=.any) (u:=.slice (some ⟨w.heap.size,0,none⟩) n n) .any
 have p2:=put_rep (a:=a.put o1.dst (.slice (some ⟨w.heap.size,0,none⟩) n n)) s1 (Step.refl _ _ _) (by rw [hd1];exact p1) (d:=o2.dst) (by rw [put_size,g3];exact hb2) (v:=.ref s.nx) (u:=.slice (some ⟨w.heap.size,0,none⟩) n n) (.ref (by rw [hC,g1];exact Nat.lt_succ_self _) (by rw [hC,g1];simp))
 exact hK' _ _ (h _ _ ⟨C',by rw [hC,g1],p2,by rw [put_size,put_size];exact g3,by rw [put_def,put_def];exact g4.step s2,s1,g6.trans s2⟩)
theorem K_opU {all:Array Oper} {o:Oper} {r:List Oper} {j:Nat} {b:Bool} (hg:o.guard=some (j,b)) (hv:gval all s.m j=some (some b)) (h:Kp P B (.ops all ({o with guard:=none} :: r) :: k) R .normal s):
  Kp P B (.ops all (o :: r) :: k) R .normal s:=by
 intro a w hr
 have h1:=h a w hr
 have hw:Region.wanted o (yielded all a.tmps)=true:=by
  obtain ⟨C,_,h2,_⟩:=hr
  simp [Region.wanted,hg,gval_rep h2 hv]
 unfold wpL wpListIn at h1 ⊢
 rw [if_pos (by simp [Region.wanted])] at h1
 rw [if_pos hw]
 exact h1
def flo (all:Array Oper) (lo:List Nat) (i:Nat):Bool:=lo.all fun k=>!decide (k<i)||anc all k i
def okPend (P:Program) (all:Array Oper) (i:Nat) (σ:Nat→AObj) (nx:Nat) (q:Rc):Prop:=
 anc all q.i i=true∨match all[q.i]? with
  |some o=>lets all q.m o=some true∧evalS P σ nx (ev q.m) o.op=some (q.v,.none)
  |none=>False
def okPends (P:Program) (all:Array Oper) (i:Nat) (σ:Nat→AObj) (nx:Nat):List Rc→Prop
 |[]=>True
 |q :: qs=>okPend P all i σ nx q∧okPends P all i σ nx qs
theorem okPends_does {P:Program} {n:Nat} {all:Array Oper} {i:Nat} {σ:Nat→AObj} {nx:Nat}:∀{l:List Rc},okPends P all i σ nx l→∀q∈l,anc all q.i i=true∨Does P n all q.i q.m σ nx q.v σ nx
 |q :: qs,h,p,hp=>by
  rcases List.mem_cons.1 hp with rfl | hp
  ·rcases h.1 with h1 | h1
   ·exact .inl h1
   ·right
    split at h1
    ·rename_i o ho
     exact does_store (e:=.none) ho h1.1 h1.2
    ·exact h1.elim
  ·exact okPends_does h.2 p hp
def stopAt (sw:SW) (i:Nat):Bool:=match sw with | some (a,_,false)=>i==a | _=>false
def run (P:Program) (n:Nat) (G:List KI→St→Prop):Nat→List KI→St→Prop
 |0,k,s=>G k s
 |f+1,.code (.seq a b) :: k,s=>run P n G f (.code a :: .code b :: k) s
 |f+1,.code .skip :: k,s=>run P n G f k s
 |f+1,.code (.label _) :: k,s=>run P n G f k s
 |f+1,.blk _ :: k,s=>run P n G f k s
 |f+1,.scp :: k,s=>run P n G f k s
 |f+1,.lab _ :: k,s=>run P n G f k s
 |f+1,.code (.block id c) :: k,s=>run P n G f (.code c :: .blk id :: k) s
 |f+1,.code (.exit id) :: k,s=>match popTo id k with
  |some k'=>run P n G f k' s
  |none=>G (.code (.exit id) :: k) s
 |_+1,.code .ret :: _,s=>G [.fin .ret] s
 |_+1,.again J :: _,s=>G [.again J] s
 |_+1,.code (.goto l) :: k,s=>match popLab k with
  |some J=>G [.fin (.goto l),.lab J] s
  |none=>G (.code (.goto l) :: k) s
 |f+1,.code (.cond c x y) :: k,s=>match ev s.m c with
  | .t (.v (.bool b))=>(b=true→run P n G f (.code x :: k) s)∧(b=false→run P n G f (.code y :: k) s)
  |_=>G (.code (.cond c x y) :: k) s
 |f+1,.code (.region id ops d) :: k,s=>match d with
  |false=>run P n G f (.ops ops ops.toList :: k) s
  |true=>G (.code (.region id ops true) :: k) s
 |f+1,.ops _ [] :: k,s=>run P n G f k s
 |f+1,.ops all (o :: r) :: k,s=>match o.guard with
  |some (j,want)=>match (all[j]?).bind (·.dst) with
   |some d=>match s.m d with
    | .t (.v (.bool b))=>(b=want→run P n G f (.ops all ({o with guard:=none} :: r) :: k) s)∧
     (b= !want→dOk n o.dst=true∧run P n G f (.ops all r :: k) (s.upd o.dst (.tup []) .none))
    | .tup _=>dOk n o.dst=true∧run P n G f (.ops all r :: k) (s.upd o.dst (.tup []) .none)
    |_=>G (.ops all (o :: r) :: k) s
   |none=>G (.ops all (o :: r) :: k) s
  |none=>match one P s o with
   |some s'=>dOk n o.dst=true∧run P n G f (.ops all r :: k) s'
   |none=>G (.ops all (o :: r) :: k) s
 |f+1,.opsD all lo sw [] pend :: k,s=>match settled sw with
  |true=>run P n G f k s
  |false=>G (.opsD all lo sw [] pend :: k) s
 |f+1,.opsD all lo sw ((i,o) :: r) pend :: k,s=>match stopAt sw i with
  |true=>G (.opsD all lo sw ((i,o) :: r) pend :: k) s
  |false=>match lets all s.m o with
   |some true=>match evalP P (ev s.m) o.op with
    |some v=>run P n G f (.opsD all lo sw r pend :: k) (s.upd o.dst v .none)
    |none=>match evalS P s.σ s.nx (ev s.m) o.op with
     |some (v,.none)=>if tied all lo i=true then run P n G f (.opsD all lo sw r pend :: k) (s.upd o.dst v .none)
      else flo all lo i=true∧run P n G f (.opsD all lo sw r (⟨i,s.m,v,none⟩ :: pend) :: k) (s.upd o.dst v .none)
     |some (v,e)=>(i∈lo∧okPends P all i (e.on s.σ s.nx).1 (e.on s.σ s.nx).2 pend)∧run P n G f (.opsD all lo sw r pend :: k) (s.upd o.dst v e)
     |none=>G (.opsD all lo sw ((i,o) :: r) pend :: k) s
   |some false=>run P n G f (.opsD all lo sw r pend :: k) (s.upd o.dst (.tup []) .none)
   |none=>G (.opsD all lo sw ((i,o) :: r) pend :: k) s
 |_+1,k,s=>G k s
theorem K_run {n:Nat} (hn:B.n=n) (f:Nat) (h:run P n (fun k s=>Kp P B k R .normal s) f k s):Kp P B k R .normal s:=by
 subst hn
 revert h
 fun_induction run P B.n (fun k s=>Kp P B k R .normal s) f k s<;>intro h
 case case1=>exact h
 case case2 ih=>exact K_seq (ih h)
 case case3 ih=>exact K_skip (ih h)
 case case4 ih=>exact K_label (ih h)
 case case5 ih=>have:=ih h;exact this
 case case6 ih=>have:=ih h;exact this
 case case7 ih=>have:=ih h;exact this
 case case8 ih=>exact K_block (ih h)
 case case9 hk ih=>exact K_exit (K_pop hk (ih h))
 case case10=>exact h
 case case11=>exact K_ret (K_toRet h _)
 case case12=>exact h
 case case13 hJ=>exact K_goto (K_toLab hJ h)
 case case14=>exact h
 case case15 hb ih2 ih1=>exact K_cond hb (fun e=>ih2 (h.1 e)) (fun e=>ih1 (h.2 e))
 case case16=>exact h
 case case17 ih=>exact K_region (ih h)
 case case18=>exact h
 case case19 ih=>exact K_opsNil (ih h)
 case case20 b hb ih2 ih1=>
  rename_i all o r k s j want hg d hd
  have hv:gval all s.m j=some (some b):=by simp only [gval,hd,hb]
  by_cases e:b=want
  ·have h':=h.1 e
   subst e
   exact K_opU hg hv (ih2 h')
  ·have h':=h.2 (by cases b<;>cases want<;>simp_all)
   exact K_opF hg hv (by simpa using e) h'.1 (ih1 h'.2)
 case case21 cs hb ih1=>
  rename_i all o r k s j want hg d hd
  have hv:gval all s.m j=some none:=by simp only [gval,hd,hb]
  exact K_opF hg hv (by simp) h.1 (ih1 h.2)
 case case22=>exact h
 case case23=>exact h
 case case24 hg _ ho ih1=>exact K_op hg h.1 ho (ih1 h.2)
 case case25=>exact h
 case case26 hs ih=>exact K_dNil hs (ih h)
 case case27=>exact h
 case case28=>exact h
 case case29 hl _ hv ih=>exact K_dPure hl hv (ih h)
 case case30 hl _ _ hv ht ih=>exact K_dRead hl hv ht (ih h)
 case case31 hl _ _ hv ht ih=>
  refine K_dFloat hl hv (fun k hk hi=>?_) (ih h.2)
  have:=List.all_eq_true.1 h.1 k hk
  simpa [hi] using this
 case case32 hl _ _ _ _ hv ih=>exact K_dLoud hl hv h.1.1 (okPends_does h.1.2) (ih h.2)
 case case33=>exact h
 case case34 hl ih=>exact K_dSkip hl (ih h)
 case case35=>exact h
 case case36=>exact h
section
variable {n:Nat} {G:List KI→St→Prop} {f:Nat}
theorem run_seq {a b:Code}:run P n G (f+1) (.code (.seq a b) :: k) s=run P n G f (.code a :: .code b :: k) s:=by rw [run]
theorem run_skip:run P n G (f+1) (.code .skip :: k) s=run P n G f k s:=by rw [run]
theorem run_label {l:Nat}:run P n G (f+1) (.code (.label l) :: k) s=run P n G f k s:=by rw [run]
theorem run_blk {i:Nat}:run P n G (f+1) (.blk i :: k) s=run P n G f k s:=by rw [run]
theorem run_scp:run P n G (f+1) (.scp :: k) s=run P n G f k s:=by rw [run]
theorem run_lab {J:Nat→St→Prop}:run P n G (f+1) (.lab J :: k) s=run P n G f k s:=by rw [run]
theorem run_block {i:Nat} {c:Code}:run P n G (f+1) (.code (.block i c) :: k) s=run P n G f (.code c :: .blk i :: k) s:=by rw [run]
theorem run_ret:run P n G (f+1) (.code .ret :: k) s=G [.fin .ret] s:=by rw [run]
theorem run_again {J:St→Prop}:run P n G (f+1) (.again J :: k) s=G [.again J] s:=by rw [run]
theorem run_end:run P n G (f+1) [] s=G [] s:=by rw [run];all_goals simp
theorem run_fin {e:Exit}:run P n G (f+1) (.fin e :: k) s=G (.fin e :: k) s:=by rw [run];all_goals simp
def atExit (P:Program) (n:Nat) (G:List KI→St→Prop) (f id:Nat) (o:Option (List KI)) (k:List KI) (s:St):Prop:=
 match o with | some k'=>run P n G f k' s | none=>G (.code (.exit id) :: k) s
theorem run_exit {i:Nat}:run P n G (f+1) (.code (.exit i) :: k) s=atExit P n G f i (popTo i k) k s:=by rw [run];rfl
theorem atExit_some {i:Nat} {k k':List KI}:atExit P n G f i (some k') k s=run P n G f k' s:=by simp only [atExit]
def atGoto (G:List KI→St→Prop) (l:Nat) (o:Option (Nat→St→Prop)) (k:List KI) (s:St):Prop:=
 match o with | some J=>G [.fin (.goto l),.lab J] s | none=>G (.code (.goto l) :: k) s
theorem run_goto {l:Nat}:run P n G (f+1) (.code (.goto l) :: k) s=atGoto G l (popLab k) k s:=by rw [run];rfl
theorem atGoto_some {l:Nat} {J:Nat→St→Prop}:atGoto G l (some J) k s=G [.fin (.goto l),.lab J] s:=by simp only [atGoto]
def fork (P:Program) (n:Nat) (G:List KI→St→Prop) (f:Nat) (b:Bool) (k1:List KI) (s1:St) (k2:List KI) (s2:St):Prop:=
 (b=true→run P n G f k1 s1)∧(b=false→run P n G f k2 s2)
theorem fork_true {k1 k2:List KI} {s1 s2:St}:fork P n G f true k1 s1 k2 s2=run P n G f k1 s1:=by simp [fork]
theorem fork_false {k1 k2:List KI} {s1 s2:St}:fork P n G f false k1 s1 k2 s2=run P n G f k2 s2:=by simp [fork]
theorem fork_dec {p:Prop} [Decidable p] {k1 k2:List KI} {s1 s2:St} (h1:p→run P n G f k1 s1) (h2:¬p→run P n G f k2 s2):fork P n G f (decide p) k1 s1 k2 s2:=
 ⟨fun h=>h1 (of_decide_eq_true h),fun h=>h2 (of_decide_eq_false h)⟩
theorem fork_not {b:Bool} {k1 k2:List KI} {s1 s2:St}:fork P n G f (!b) k1 s1 k2 s2=fork P n G f b k2 s2 k1 s1:=by cases b<;>simp [fork]
def atCond (P:Program) (n:Nat) (G:List KI→St→Prop) (f:Nat) (v:AV) (c:Operand) (x y:Code) (k:List KI) (s:St):Prop:=
 match v with
 | .t (.v (.bool b))=>fork P n G f b (.code x :: k) s (.code y :: k) s
 |_=>G (.code (.cond c x y) :: k) s
theorem run_cond {c:Operand} {x y:Code}:run P n G (f+1) (.code (.cond c x y) :: k) s=atCond P n G f (ev s.m c) c x y k s:=by rw [run];simp only [atCond,fork]
theorem atCond_bool {b:Bool} {c:Operand} {x y:Code}:atCond P n G f (.t (.v (.bool b))) c x y k s=fork P n G f b (.code x :: k) s (.code y :: k) s:=by simp only [atCond]
theorem run_region {id:Nat} {ops:Array Oper}:run P n G (f+1) (.code (.region id ops false) :: k) s=run P n G f (.ops ops ops.toList :: k) s:=by rw [run]
theorem run_drawn {id:Nat} {ops:Array Oper}:run P n G (f+1) (.code (.region id ops true) :: k) s=G (.code (.region id ops true) :: k) s:=by rw [run]
theorem run_nil {all:Array Oper}:run P n G (f+1) (.ops all [] :: k) s=run P n G f k s:=by rw [run]
def atOp (P:Program) (n:Nat) (G:List KI→St→Prop) (f:Nat) (x:Option St) (all:Array Oper) (o:Oper) (r:List Oper) (k:List KI) (s:St):Prop:=
 match x with
 |some s'=>dOk n o.dst=true∧run P n G f (.ops all r :: k) s'
 |none=>G (.ops all (o :: r) :: k) s
def atVal (P:Program) (n:Nat) (G:List KI→St→Prop) (f:Nat) (v:AV) (want:Bool) (all:Array Oper) (o:Oper) (r:List Oper) (k:List KI) (s:St):Prop:=
 match v with
 | .t (.v (.bool b))=>(b=want→run P n G f (.ops all ({o with guard:=none} :: r) :: k) s)∧(b= !want→dOk n o.dst=true∧run P n G f (.ops all r :: k) (s.upd o.dst (.tup []) .none))
 | .tup _=>dOk n o.dst=true∧run P n G f (.ops all r :: k) (s.upd o.dst (.tup []) .none)
 |_=>G (.ops all (o :: r) :: k) s
def atGuard (P:Program) (n:Nat) (G:List KI→St→Prop) (f:Nat) (d:Option Nat) (want:Bool) (all:Array Oper) (o:Oper) (r:List Oper) (k:List KI) (s:St):Prop:=
 match d with
 |some d=>atVal P n G f (s.m d) want all o r k s
 |none=>G (.ops all (o :: r) :: k) s
theorem run_op {all:Array Oper} {r:List Oper} {d:Option Nat} {op:Op} {t:TypeId} {p:String} {af:Array Edge}:
  run P n G (f+1) (.ops all (⟨d,op,t,p,af,none⟩ :: r) :: k) s=atOp P n G f (one P s ⟨d,op,t,p,af,none⟩) all ⟨d,op,t,p,af,none⟩ r k s:=by rw [run];simp only [atOp]
theorem run_guard {all:Array Oper} {r:List Oper} {d:Option Nat} {op:Op} {t:TypeId} {p:String} {af:Array Edge} {j:Nat} {want:Bool}:
  run P n G (f+1) (.ops all (⟨d,op,t,p,af,some (j,want)⟩ :: r) :: k) s=atGuard P n G f ((all[j]?).bind (·.dst)) want all ⟨d,op,t,p,af,some (j,want)⟩ r k s:=by
 rw [run]
 simp only [atGuard,atVal]
 split<;>split<;>simp_all
theorem atGuard_some {all:Array Oper} {o:Oper} {r:List Oper} {d:Nat} {want:Bool}:atGuard P n G f (some d) want all o r k s=atVal P n G f (s.m d) want all o r k s:=by simp only [atGuard]
theorem atOp_some {all:Array Oper} {o:Oper} {r:List Oper} {s':St}:atOp P n G f (some s') all o r k s=(dOk n o.dst=true∧run P n G f (.ops all r :: k) s'):=by simp only [atOp]
theorem atOp_none {all:Array Oper} {o:Oper} {r:List Oper}:atOp P n G f none all o r k s=G (.ops all (o :: r) :: k) s:=by simp only [atOp]
theorem atVal_tup {all:Array Oper} {o:Oper} {r:List Oper} {cs:List AV} {want:Bool}:atVal P n G f (.tup cs) want all o r k s=(dOk n o.dst=true∧run P n G f (.ops all r :: k) (s.upd o.dst (.tup []) .none)):=by simp only [atVal]
theorem atVal_tt {all:Array Oper} {r:List Oper} {d:Option Nat} {op:Op} {t:TypeId} {p:String} {af:Array Edge} {g:Option (Nat×Bool)} {b:Bool}:atVal P n G f (.t (.v (.bool b))) b all ⟨d,op,t,p,af,g⟩ r k s=run P n G f (.ops all (⟨d,op,t,p,af,none⟩ :: r) :: k) s:=by
 simp [atVal]
theorem atVal_tf {all:Array Oper} {o:Oper} {r:List Oper}:atVal P n G f (.t (.v (.bool true))) false all o r k s=(dOk n o.dst=true∧run P n G f (.ops all r :: k) (s.upd o.dst (.tup []) .none)):=by simp [atVal]
theorem atVal_ft {all:Array Oper} {o:Oper} {r:List Oper}:atVal P n G f (.t (.v (.bool false))) true all o r k s=(dOk n o.dst=true∧run P n G f (.ops all r :: k) (s.upd o.dst (.tup []) .none)):=by simp [atVal]
theorem run_dnil {all:Array Oper} {lo:List Nat} {pend:List Rc}:run P n G (f+1) (.opsD all lo none [] pend :: k) s=run P n G f k s:=by rw [run];rfl
theorem run_dnil2 {all:Array Oper} {lo:List Nat} {a b:Nat} {pend:List Rc}:run P n G (f+1) (.opsD all lo (some (a,b,true)) [] pend :: k) s=run P n G f k s:=by rw [run];rfl
def atRd (P:Program) (n:Nat) (G:List KI→St→Prop) (f:Nat) (b c:Bool) (v:AV) (all:Array Oper) (lo:List Nat) (sw:SW) (i:Nat) (o:Oper) (r:List (Nat×Oper)) (pend:List Rc) (k:List KI) (s:St):Prop:=
 match b with
 |true=>run P n G f (.opsD all lo sw r pend :: k) (s.upd o.dst v .none)
 |false=>c=true∧run P n G f (.opsD all lo sw r (⟨i,s.m,v,none⟩ :: pend) :: k) (s.upd o.dst v .none)
def atDS (P:Program) (n:Nat) (G:List KI→St→Prop) (f:Nat) (x:Option (AV×Eff)) (all:Array Oper) (lo:List Nat) (sw:SW) (i:Nat) (o:Oper) (r:List (Nat×Oper)) (pend:List Rc) (k:List KI) (s:St):Prop:=
 match x with
 |some (v,.none)=>atRd P n G f (tied all lo i) (flo all lo i) v all lo sw i o r pend k s
 |some (v,e)=>(i∈lo∧okPends P all i (e.on s.σ s.nx).1 (e.on s.σ s.nx).2 pend)∧run P n G f (.opsD all lo sw r pend :: k) (s.upd o.dst v e)
 |none=>G (.opsD all lo sw ((i,o) :: r) pend :: k) s
def atDP (P:Program) (n:Nat) (G:List KI→St→Prop) (f:Nat) (x:Option AV) (all:Array Oper) (lo:List Nat) (sw:SW) (i:Nat) (o:Oper) (r:List (Nat×Oper)) (pend:List Rc) (k:List KI) (s:St):Prop:=
 match x with
 |some v=>run P n G f (.opsD all lo sw r pend :: k) (s.upd o.dst v .none)
 |none=>atDS P n G f (evalS P s.σ s.nx (ev s.m) o.op) all lo sw i o r pend k s
def atD (P:Program) (n:Nat) (G:List KI→St→Prop) (f:Nat) (x:Option Bool) (all:Array Oper) (lo:List Nat) (sw:SW) (i:Nat) (o:Oper) (r:List (Nat×Oper)) (pend:List Rc) (k:List KI) (s:St):Prop:=
 match x with
 |some true=>atDP P n G f (evalP P (ev s.m) o.op) all lo sw i o r pend k s
 |some false=>run P n G f (.opsD all lo sw r pend :: k) (s.upd o.dst (.tup []) .none)
 |none=>G (.opsD all lo sw ((i,o) :: r) pend :: k) s
section
variable {all:Array Oper} {lo:List Nat} {sw:SW} {i:Nat} {o:Oper} {r:List (Nat×Oper)} {pend:List Rc}
theorem run_dX (hs:stopAt sw i=false):run P n G (f+1) (.opsD all lo sw ((i,o) :: r) pend :: k) s=atD P n G f (lets all s.m o) all lo sw i o r pend k s:=by
 rw [run,hs]
 simp only [atD,atDP,atDS,atRd]
 cases tied all lo i<;>rfl
theorem run_d:run P n G (f+1) (.opsD all lo none ((i,o) :: r) pend :: k) s=atD P n G f (lets all s.m o) all lo none i o r pend k s:=run_dX rfl
theorem run_d2 {a b:Nat}:run P n G (f+1) (.opsD all lo (some (a,b,true)) ((i,o) :: r) pend :: k) s=atD P n G f (lets all s.m o) all lo (some (a,b,true)) i o r pend k s:=run_dX rfl
theorem run_d3 {a b:Nat} (h:i≠a):run P n G (f+1) (.opsD all lo (some (a,b,false)) ((i,o) :: r) pend :: k) s=atD P n G f (lets all s.m o) all lo (some (a,b,false)) i o r pend k s:=run_dX (by simpa [stopAt] using h)
theorem run_d4 {a b:Nat}:run P n G (f+1) (.opsD all lo (some (a,b,false)) ((a,o) :: r) pend :: k) s=G (.opsD all lo (some (a,b,false)) ((a,o) :: r) pend :: k) s:=by
 have e:stopAt (some (a,b,false)) a=true:=by simp [stopAt]
 rw [run,e]
theorem num_nil (i:Nat):num i []=[]:=rfl
theorem num_cons (i:Nat) (o:Oper) (r:List Oper):num i (o :: r)=(i,o) :: num (i+1) r:=rfl
theorem atD_true:atD P n G f (some true) all lo sw i o r pend k s=atDP P n G f (evalP P (ev s.m) o.op) all lo sw i o r pend k s:=by simp only [atD]
theorem atD_false:atD P n G f (some false) all lo sw i o r pend k s=run P n G f (.opsD all lo sw r pend :: k) (s.upd o.dst (.tup []) .none):=by simp only [atD]
theorem atDP_some {v:AV}:atDP P n G f (some v) all lo sw i o r pend k s=run P n G f (.opsD all lo sw r pend :: k) (s.upd o.dst v .none):=by simp only [atDP]
theorem atDP_none:atDP P n G f none all lo sw i o r pend k s=atDS P n G f (evalS P s.σ s.nx (ev s.m) o.op) all lo sw i o r pend k s:=by simp only [atDP]
theorem atDS_read {v:AV}:atDS P n G f (some (v,.none)) all lo sw i o r pend k s=atRd P n G f (tied all lo i) (flo all lo i) v all lo sw i o r pend k s:=by simp only [atDS]
theorem atRd_true {c:Bool} {v:AV}:atRd P n G f true c v all lo sw i o r pend k s=run P n G f (.opsD all lo sw r pend :: k) (s.upd o.dst v .none):=by simp only [atRd]
theorem atRd_false {v:AV}:atRd P n G f false true v all lo sw i o r pend k s=run P n G f (.opsD all lo sw r (⟨i,s.m,v,none⟩ :: pend) :: k) (s.upd o.dst v .none):=by simp [atRd]
theorem atDS_new {v:AV} {x:AObj}:atDS P n G f (some (v,.new x)) all lo sw i o r pend k s=((i∈lo∧okPends P all i (Eff.on (.new x) s.σ s.nx).1 (Eff.on (.new x) s.σ s.nx).2 pend)∧run P n G f (.opsD all lo sw r pend :: k) (s.upd o.dst v (.new x))):=by simp only [atDS]
theorem atDS_set {v:AV} {q:Nat} {x:AObj}:atDS P n G f (some (v,.set q x)) all lo sw i o r pend k s=((i∈lo∧okPends P all i (Eff.on (.set q x) s.σ s.nx).1 (Eff.on (.set q x) s.σ s.nx).2 pend)∧run P n G f (.opsD all lo sw r pend :: k) (s.upd o.dst v (.set q x))):=by simp only [atDS]
theorem atDS_next {v:AV} {q:Nat} {x:AObj}:atDS P n G f (some (v,.next q x)) all lo sw i o r pend k s=((i∈lo∧okPends P all i (Eff.on (.next q x) s.σ s.nx).1 (Eff.on (.next q x) s.σ s.nx).2 pend)∧run P n G f (.opsD all lo sw r pend :: k) (s.upd o.dst v (.next q x))):=by simp only [atDS]
theorem okPends_nil {i:Nat} {σ:Nat→AObj} {nx:Nat}:okPends P all i σ nx []=True:=rfl
theorem okPends_cons {i:Nat} {σ:Nat→AObj} {nx:Nat} {q:Rc} {qs:List Rc}:okPends P all i σ nx (q :: qs)=(okPend P all i σ nx q∧okPends P all i σ nx qs):=rfl
theorem atDS_none:atDS P n G f none all lo sw i o r pend k s=G (.opsD all lo sw ((i,o) :: r) pend :: k) s:=by simp only [atDS]
theorem tied_nil:tied all [] i=true:=rfl
end
theorem atVal_of {all:Array Oper} {o:Oper} {r:List Oper} {b want:Bool} (h1:b=want→run P n G f (.ops all ({o with guard:=none} :: r) :: k) s) (h2:b= !want→dOk n o.dst=true∧run P n G f (.ops all r :: k) (s.upd o.dst (.tup []) .none)):
  atVal P n G f (.t (.v (.bool b))) want all o r k s:=by simp only [atVal];exact ⟨h1,h2⟩
theorem atVal_decT {all:Array Oper} {o:Oper} {r:List Oper} {p:Prop} [Decidable p] (h1:p→run P n G f (.ops all ({o with guard:=none} :: r) :: k) s) (h2:¬p→dOk n o.dst=true∧run P n G f (.ops all r :: k) (s.upd o.dst (.tup []) .none)):
  atVal P n G f (.t (.v (.bool (decide p)))) true all o r k s:=atVal_of (fun h=>h1 (of_decide_eq_true h)) (fun h=>h2 (of_decide_eq_false h))
end
attribute [go_sem] run_seq run_skip run_label run_blk run_scp run_lab run_block run_ret run_again run_end run_fin run_exit atExit_some run_goto atGoto_some fork_true fork_false fork_not run_cond atCond_bool run_region run_drawn run_nil run_op run_dnil run_dnil2 run_d4 run_d run_d2 run_d3 num_nil num_cons atD_true atD_false atDP_some atDP_none atDS_read atDS_new atDS_set atDS_next atRd_true atRd_false okPends_nil okPends_cons okPend tied_nil lets gval run_guard atGuard_some atOp_some atOp_none atDS_none atVal_tup atVal_tt atVal_tf atVal_ft
end
end Go.Proofs.YtnoifgjiipgpoaaGreatDoor.R

namespace Go.Proofs.YtnoifgjiipgpoaaGreatDoor.R
open Go.RowKit
def goodFn (P:Program) (f:FuncId):Bool:=
 match P.funcs[f]? with
 |some fn=>!(fn.name== "runtime.NumGoroutine")&&fn.body.isSome
 |none=>false
def CallSpec (P:Program) (f:FuncId) (args:List AV) (σ:Nat→AObj) (nx:Nat) (r:AV) (σ':Nat→AObj) (nx':Nat):Prop:=
 goodFn P f=true∧∀(C:Ctx) (w:World) (vs:List Value),Sim C σ w→C.nx=nx→RepL w C args vs→
  Calls P f vs.toArray w fun e w'=>∃C' v,e= .returned v∧Sim C' σ' w'∧C'.nx=nx'∧RepA w' C' r v∧Step C σ w C' σ' w'
def CallQ (P:Program) (f:FuncId) (args:List AV) (σ:Nat→AObj) (nx:Nat) (Q:AV→(Nat→AObj)→Nat→Prop):Prop:=
 goodFn P f=true∧∀(C:Ctx) (w:World) (vs:List Value),Sim C σ w→C.nx=nx→RepL w C args vs→
  Calls P f vs.toArray w fun e w'=>∃r σ' nx' C' v,Q r σ' nx'∧e= .returned v∧Sim C' σ' w'∧C'.nx=nx'∧RepA w' C' r v∧Step C σ w C' σ' w'
theorem CallQ.spec {P:Program} {f:FuncId} {args:List AV} {σ:Nat→AObj} {nx:Nat} {r:AV} {σ':Nat→AObj} {nx':Nat} (h:CallQ P f args σ nx fun a b c=>a=r∧b=σ'∧c=nx'):CallSpec P f args σ nx r σ' nx':=by
 refine ⟨h.1,fun C w vs h1 h2 h3=>(h.2 C w vs h1 h2 h3).mono ?_⟩
 rintro e w' ⟨_,_,_,C',v,⟨rfl,rfl,rfl⟩,g⟩
 exact ⟨C',v,g⟩
theorem CallSpec.q {P:Program} {f:FuncId} {args:List AV} {σ:Nat→AObj} {nx:Nat} {r:AV} {σ':Nat→AObj} {nx':Nat} (h:CallSpec P f args σ nx r σ' nx'):CallQ P f args σ nx fun a b c=>a=r∧b=σ'∧c=nx':=by
 refine ⟨h.1,fun C w vs h1 h2 h3=>(h.2 C w vs h1 h2 h3).mono ?_⟩
 rintro e w' ⟨C',v,g⟩
 exact ⟨_,_,_,C',v,⟨rfl,rfl,rfl⟩,g⟩
def noObj:Nat→AObj:=fun _=>.dead
def Pure (P:Program) (f:FuncId) (args:List AV) (r:AV):Prop:=
 (∀a∈args,bnd 0 a=true)∧bnd 0 r=true∧CallSpec P f args noObj 0 r noObj 0
section
variable {P:Program}
theorem RepA.closed {w:World} {C C':Ctx} (h1:C'.imm=C.imm) {x:AV} {v:Value} (h:RepA w C x v) (hb:bnd 0 x=true):RepA w C' x v:=by
 induction h with
 |t h=>exact .t (by rw [h1];exact h)
 |agg hl _ ih=>exact .agg hl fun k a u ha hu=>ih k a u ha hu (bndL_get (by simpa [bnd] using hb) k a ha)
 |tup hl _ ih=>exact .tup hl fun k a u ha hu=>ih k a u ha hu (bndL_get (by simpa [bnd] using hb) k a ha)
 |fsl h=>exact .fsl (by rw [h1];exact h)
 |ref h hh=>simp [bnd] at hb
 |ptr h ho=>simp [bnd] at hb
 |rd hi hcell hr=>exact .rd (by rw [h1];exact hi) hcell (fun k c h=>by rw [h1];exact hr k c h)
 |el h ho hh=>simp [bnd] at hb
 |cut h ho hh=>simp [bnd] at hb
 |ifc hl hr=>exact .ifc hl fun k c u hc hu=>by rw [h1];exact hr k c u hc hu
 |mapr h ho=>simp [bnd] at hb
 |yld h ho=>simp [bnd] at hb
 |fn hl _ hl' _ ih ih'=>
  simp only [bnd,Bool.and_eq_true] at hb
  exact .fn hl (fun k a u ha hu=>ih k a u ha hu (bndL_get hb.1 k a ha)) hl' (fun k a u ha hu=>ih' k a u ha hu (bndL_get hb.2 k a ha))
 |any=>exact .any
theorem Pure.spec {f:FuncId} {args:List AV} {r:AV} (h:Pure P f args r) (σ:Nat→AObj) (nx:Nat):CallSpec P f args σ nx r σ nx:=by
 obtain ⟨ha,hr,hg,h⟩:=h
 refine ⟨hg,fun C w vs hs hn hl=>?_⟩
 obtain ⟨C0,hC0⟩:∃C0:Ctx,C0=⟨C.imm,fun _=>none,C.hdr,0⟩:=⟨_,rfl⟩
 have h0:Sim C0 noObj w:=by
  subst hC0
  exact ⟨fun _ _=>rfl,fun _=>True.intro,fun _ _ _ hi=>absurd rfl hi,fun _ _ hi=>absurd rfl hi,hs.imm_lt⟩
 refine (h C0 w vs h0 (by rw [hC0]) ⟨hl.1,fun k a u hk hu=>RepA.closed (C:=C) (by rw [hC0]) (hl.2 k a u hk hu) (ha a (List.mem_of_getElem? hk))⟩).mono ?_
 rintro e w' ⟨C1,v,rfl,hs1,hn1,hr1,st⟩
 have nomut:∀b,¬Mut C0 noObj b:=fun b ⟨i,hi,_⟩=>hi rfl
 have himm0:C0.imm=C.imm:=by rw [hC0]
 have himm1:∀b,C1.imm b→C.imm b∨w.heap.size≤b:=fun b hb=>by
  rcases st.imm' b hb with h | h | h
  ·rw [himm0] at h;exact .inl h
  ·exact absurd h (nomut b)
  ·exact .inr h
 have hle:CtxLe C {C with imm:=C1.imm}:=⟨Nat.le_refl _,fun _ _=>rfl,fun _ _=>rfl⟩
 have hk:Keeps w C.imm w' C1.imm:=⟨fun b hb=>st.imm b (by rw [himm0];exact hb),fun b hb=>st.same b (hs.imm_lt b hb) (nomut b)⟩
 refine ⟨{C with imm:=C1.imm},v,rfl,⟨hs.dead,fun i=>?_,hs.inj,fun i b hi ho hb=>?_,hs1.imm_lt⟩,hn,RepA.closed (C:=C1) (C':={C with imm:=C1.imm}) rfl hr1 hr,
  ⟨hle,st.os,st.tape,st.output,st.size,fun b hb=>st.imm b (by rw [himm0];exact hb),fun b hb _=>st.same b hb (nomut b),fun b hb=>.inl hb,fun b hb=>(himm1 b hb).imp id .inr⟩⟩
 ·by_cases hi:σ i= .dead
  ·rw [hi];exact True.intro
  ·exact (hs.obj i).step hk hle (live_lt hs hi) (fun b ho=>st.same b (own_lt hs hi ho) (nomut b))
 ·rcases himm1 b hb with h | h
  ·exact hs.sep i b hi ho h
  ·exact absurd (own_lt hs hi ho) (by omega)
theorem RepL.app {w:World} {C:Ctx} {a b:List AV} {u v:List Value} (h1:RepL w C a u) (h2:RepL w C b v):RepL w C (a++b) (u++v):=by
 refine ⟨by rw [List.length_append,List.length_append,h1.1,h2.1],fun k x y hx hy=>?_⟩
 rw [List.getElem?_append] at hx hy
 rw [←h1.1] at hy
 split at hx
 ·rename_i hk
  rw [if_pos hk] at hy
  exact h1.2 k x y hx hy
 ·rename_i hk
  rw [if_neg hk] at hy
  exact h2.2 _ x y hx hy
def callee (a:AV) (args:List AV):Option (FuncId×List AV):=
 match a with
 | .fn (.func g) first caps=>some (g,first++args++caps)
 | .t (.v (.func (.func g) ⟨[]⟩ ⟨[]⟩))=>some (g,args)
 |_=>none
theorem callee_rep {w:World} {C:Ctx} {x:AV} {v:Value} {args:List AV} {vs:Array Value} {g:FuncId} {l:List AV} (h:callee x args=some (g,l)) (hx:RepA w C x v)
  (hl:args.length=vs.size) (hr:∀(k:Nat) (a:AV) (u:Value),args[k]? =some a→vs[k]? =some u→RepA w C a u):
  ∃first caps,v= .func (.func g) first caps∧RepL w C l (first++vs++caps).toList:=by
 unfold callee at h
 split at h
 ·cases h
  obtain ⟨vf,vc,rfl,h1,h2,h3,h4⟩:=rep_fn hx
  refine ⟨vf,vc,rfl,?_⟩
  simp only [Array.toList_append]
  refine ((RepL.app ⟨by simpa using h1,fun k a u ha hu=>h2 k a u ha (by simpa using hu)⟩ ⟨by simpa using hl,fun k a u ha hu=>hr k a u ha (by simpa using hu)⟩).app ⟨by simpa using h3,fun k a u ha hu=>h4 k a u ha (by simpa using hu)⟩)
 ·cases h
  obtain ⟨hv,_⟩:=rep_v hx
  subst hv
  exact ⟨#[],#[],rfl,by simp;omega,fun k a u ha hu=>hr k a u ha (by simpa using hu)⟩
 ·cases h
variable {B:Base} {k:List KI} {R:Post} {s:St}
theorem call_wpQ {o:Oper} {c:Call} {fo:Operand} (ho:o.op= .call c) (hc:c.callee= .value fo) {f:FuncId} {args:List AV} (hf:callee (ev s.m fo) (c.args.toList.map (ev s.m))=some (f,args))
  {S:AV→(Nat→AObj)→Nat→Prop} (spec:CallQ P f args s.σ s.nx S) {a:Act} {w:World} (hd:dOk B.n o.dst=true) (hr:Rel B s a w) {K:Act→World→Prop} {Q:Exit→Act→World→Prop}
  (hK:∀r σ' nx' a' w',S r σ' nx'→Rel B ⟨put s.m o.dst r,σ',nx'⟩ a' w'→K a' w'):owp B.ro P o a w K Q:=by
 obtain ⟨C,h1,h2,h3,h4,h5,h6⟩:=hr
 obtain ⟨hg,spec⟩:=spec
 have hρ:=ev_rep h2
 obtain ⟨hl,hlr⟩:=map_rep hρ c.args
 obtain ⟨first,caps,hv,hrl⟩:=callee_rep hf (hρ fo) hl hlr
 have hcall:=spec C w _ h5 h1 hrl
 have hrun:(execOp a.eval o).run P w= .ok (.enter f (first++c.args.map a.eval++caps)) w:=by
  unfold goodFn at hg
  cases hfn:P.funcs[f]? with
  |none=>rw [hfn] at hg;cases hg
  |some fn=>
   rw [hfn] at hg
   simp only [Bool.and_eq_true,Bool.not_eq_true'] at hg
   simp only [execOp,ho,resolve,hc,Sem.run_bind,Deferred.ofValue,hv,Sem.run_pure,Result.andThen_ok,invoke,callFunc,run_program,hfn]
   have e1:fn.body.isNone=false:=by rw [←Option.not_isSome,hg.2];rfl
   simp [hg.1,e1]
 refine owp_enter hrun ?_
 rw [←Array.toArray_toList (xs:=first++c.args.map a.eval++caps)]
 refine hcall.mono ?_
 rintro e w' ⟨r,σ',nx',C',v,g0,rfl,g1,g2,g3,g4⟩
 exact ⟨v,rfl,hK _ _ _ _ _ g0 ⟨C',g2,put_rep h5 g4 h2 (by rw [h3];exact hd) g3,by rw [put_size];exact h3,by rw [put_def];exact h4.step g4,g1,h6.trans g4⟩⟩
theorem call_wp {o:Oper} {c:Call} {fo:Operand} (ho:o.op= .call c) (hc:c.callee= .value fo) {f:FuncId} {args:List AV} (hf:callee (ev s.m fo) (c.args.toList.map (ev s.m))=some (f,args))
  {r:AV} {σ':Nat→AObj} {nx':Nat} (spec:CallSpec P f args s.σ s.nx r σ' nx') {a:Act} {w:World} (hd:dOk B.n o.dst=true) (hr:Rel B s a w) {K:Act→World→Prop} {Q:Exit→Act→World→Prop}
  (hK:∀a' w',Rel B ⟨put s.m o.dst r,σ',nx'⟩ a' w'→K a' w'):owp B.ro P o a w K Q:=
 call_wpQ ho hc hf spec.q hd hr fun r' σ'' nx'' a' w' ⟨e1,e2,e3⟩ h=>by subst e1 e2 e3;exact hK a' w' h
theorem K_callQ {all:Array Oper} {o:Oper} {rest:List Oper} {c:Call} {fo:Operand} (hg:o.guard=none) (ho:o.op= .call c) (hc:c.callee= .value fo) {f:FuncId} {args:List AV}
  (hf:callee (ev s.m fo) (c.args.toList.map (ev s.m))=some (f,args)) (hd:dOk B.n o.dst=true) {S:AV→(Nat→AObj)→Nat→Prop} (spec:CallQ P f args s.σ s.nx S)
  (h:∀r σ' nx',S r σ' nx'→Kp P B (.ops all rest :: k) R .normal ⟨put s.m o.dst r,σ',nx'⟩):Kp P B (.ops all (o :: rest) :: k) R .normal s:=by
 intro a w hr
 exact wpL_plain hg fun K hK=>call_wpQ ho hc hf spec hd hr fun r σ' nx' a' w' hs hr'=>hK _ _ (h r σ' nx' hs a' w' hr')
theorem K_call {all:Array Oper} {o:Oper} {rest:List Oper} {c:Call} {fo:Operand} (hg:o.guard=none) (ho:o.op= .call c) (hc:c.callee= .value fo) {f:FuncId} {args:List AV}
  (hf:callee (ev s.m fo) (c.args.toList.map (ev s.m))=some (f,args)) (hd:dOk B.n o.dst=true) {r:AV} {σ':Nat→AObj} {nx':Nat} (spec:CallSpec P f args s.σ s.nx r σ' nx')
  (h:Kp P B (.ops all rest :: k) R .normal ⟨put s.m o.dst r,σ',nx'⟩):Kp P B (.ops all (o :: rest) :: k) R .normal s:=by
 intro a w hr
 exact wpL_plain hg fun K hK=>call_wp ho hc hf spec hd hr fun a' w' hr'=>hK _ _ (h a' w' hr')
theorem does_call {all:Array Oper} {i:Nat} {o:Oper} {m:Slots} {c:Call} {fo:Operand} {f:FuncId} {args:List AV} {r:AV} {σ σ':Nat→AObj} {nx nx':Nat} {n:Nat} (ho':all[i]? =some o) (hl:lets all m o=some true) (ho:o.op= .call c) (hc:c.callee= .value fo)
  (hf:callee (ev m fo) (c.args.toList.map (ev m))=some (f,args)) (spec:CallSpec P f args σ nx r σ' nx'):Does P n all i m σ nx r σ' nx':=by
 intro C a w hn hs hsz hr ro K Q hK
 obtain ⟨hg,spec⟩:=spec
 have hops:∀x∈o.op.operands.toList,ev (mask (looksOf all i) m) x=ev m x:=mask_ev ho'
 have hmem:∀x,x=fo∨x∈c.args.toList→x∈o.op.operands.toList:=by
  intro x hx
  rw [ho]
  simp only [Op.operands,Call.operands,hc]
  rcases hx with rfl | hx
  ·simp
  ·simp;exact .inr (by simpa using hx)
 have e1:=hops fo (hmem _ (.inl rfl))
 have e2:c.args.toList.map (ev (mask (looksOf all i) m))=c.args.toList.map (ev m):=List.map_congr_left fun x hx=>hops x (hmem x (.inr hx))
 rw [←e1,←e2] at hf
 have hρ:=ev_rep hr
 obtain ⟨hl',hlr⟩:=map_rep hρ c.args
 obtain ⟨first,caps,hv,hrl⟩:=callee_rep hf (hρ fo) hl' hlr
 have hcall:=spec C w _ hs hn hrl
 have hrun:(execOp a.eval o).run P w= .ok (.enter f (first++c.args.map a.eval++caps)) w:=by
  unfold goodFn at hg
  cases hfn:P.funcs[f]? with
  |none=>rw [hfn] at hg;cases hg
  |some fn=>
   rw [hfn] at hg
   simp only [Bool.and_eq_true,Bool.not_eq_true'] at hg
   simp only [execOp,ho,resolve,hc,Sem.run_bind,Deferred.ofValue,hv,Sem.run_pure,Result.andThen_ok,invoke,callFunc,run_program,hfn]
   have e1:fn.body.isNone=false:=by rw [←Option.not_isSome,hg.2];rfl
   simp [hg.1,e1]
 have hd:dstOf all i=o.dst:=by simp [dstOf,ho']
 simp only [wpO,wpOpIn,ho',lets_wanted ho' hr hl,if_true]
 refine owp_enter hrun ?_
 rw [←Array.toArray_toList (xs:=first++c.args.map a.eval++caps)]
 rw [hd] at hK
 refine hcall.mono ?_
 rintro e w' ⟨C',v,rfl,g1,g2,g3,g4⟩
 exact ⟨v,rfl,hK _ _ C' g1 g2 g4 g3⟩
section
variable {all:Array Oper} {lo:List Nat} {sw:SW} {i:Nat} {o:Oper} {rest:List (Nat×Oper)} {pend:List Rc} {c:Call} {fo:Operand} {f:FuncId} {args:List AV} {r:AV}
theorem K_dCallP (hl:lets all s.m o=some true) (ho:o.op= .call c) (hc:c.callee= .value fo) (hf:callee (ev s.m fo) (c.args.toList.map (ev s.m))=some (f,args)) (spec:Pure P f args r)
  (h:Kp P B (.opsD all lo sw rest pend :: k) R .normal ⟨put s.m o.dst r,s.σ,s.nx⟩):Kp P B (.opsD all lo sw ((i,o) :: rest) pend :: k) R .normal s:=
 Chain.at fun ho'=>Chain.step (loud:=none) (does_call ho' hl ho hc hf (spec.spec _ _)) (fun _=>.inl fun _ _=>does_call ho' hl ho hc hf (spec.spec _ _)) (fun c hc=>by cases hc) (fun _ h=>h) h
theorem K_dCall {σ':Nat→AObj} {nx':Nat} (hl:lets all s.m o=some true) (ho:o.op= .call c) (hc:c.callee= .value fo) (hf:callee (ev s.m fo) (c.args.toList.map (ev s.m))=some (f,args)) (spec:CallSpec P f args s.σ s.nx r σ' nx')
  (hi:i∈lo) (hp:∀q∈pend,anc all q.i i=true∨Does P B.n all q.i q.m σ' nx' q.v σ' nx')
  (h:Kp P B (.opsD all lo sw rest pend :: k) R .normal ⟨put s.m o.dst r,σ',nx'⟩):Kp P B (.opsD all lo sw ((i,o) :: rest) pend :: k) R .normal s:=
 Chain.at fun ho'=>Chain.step (loud:=some (σ',nx')) (does_call ho' hl ho hc hf spec) (fun hc=>by cases hc) (fun c hc=>by cases hc;exact ⟨hi,hp⟩) (fun _ h=>h) h
end
def resA (P:Program) (s:St):ResultVar→Option AV
 | .tmp t=>some (s.m t)
 | .cell t ty=>match TT P ty,s.m t with
  |some i,.ptr b o=>match s.σ b with
   | .box cs=>partA i cs o
   |_=>none
  |_,_=>none
def resL (P:Program) (s:St):List ResultVar→Option (List AV)
 |[]=>some []
 |x :: xs=>match resA P s x,resL P s xs with
  |some a,some avs=>some (a :: avs)
  |_,_=>none
def resV:List AV→AV
 |[a]=>a
 |avs=>.tup avs
def frz (σ:Nat→AObj):AV→AV
 | .fsl es=>.t (.sl es)
 | .ref q=>match σ q with
  | .arr _ es=>.t (.sl es)
  |_=>.any
 | .agg cs=>.agg (frzL σ cs)
 | .tup cs=>.tup (frzL σ cs)
 |a=>a
  where
 frzL (σ:Nat→AObj):List AV→List AV
 |[]=>[]
 |c :: cs=>frz σ c :: frzL σ cs
structure Ends (n0:Nat) (s:St) (r0:AV) (σ':Nat→AObj) (nx':Nat) (r:AV):Prop where
 obj:∀i,σ' i= .dead∨(σ' i=s.σ i∧(nx'=s.nx∨(bndO nx' (σ' i)=true∧i<nx')))
 nx:nx'≤s.nx
 base:n0≤nx'
 res:(r=r0∨((∀i,σ' i= .dead)∧r=frz s.σ r0))∧(nx'=s.nx∨bnd nx' r=true)
theorem frzL_get {σ:Nat→AObj}:∀{cs:List AV} {k:Nat} {a:AV},(frz.frzL σ cs)[k]? =some a→∃b,cs[k]? =some b∧a=frz σ b
 |[],k,a,h=>by simp [frz.frzL] at h
 |c :: cs,k,a,h=>by
  cases k with
  |zero=>simp [frz.frzL] at h;exact ⟨c,rfl,h.symm⟩
  |succ k=>
   simp only [frz.frzL,List.getElem?_cons_succ] at h
   obtain ⟨b,h1,h2⟩:=frzL_get h
   exact ⟨b,by simpa using h1,h2⟩
theorem frzL_length {σ:Nat→AObj}:∀(cs:List AV),(frz.frzL σ cs).length=cs.length
 |[]=>rfl
 |c :: cs=>by simp only [frz.frzL,List.length_cons,frzL_length cs]
theorem frz_rep {w:World} {C C':Ctx} {σ:Nat→AObj} (hs:Sim C σ w) (hi:∀b,C'.imm b↔(C.imm b∨Mut C σ b)) (ho:C'.own=C.own) (hh:C'.hdr=C.hdr) (hn:C'.nx=C.nx) {x:AV} {v:Value} (h:RepA w C x v):RepA w C' (frz σ x) v:=by
 have hk:Keeps w C.imm w C'.imm:=⟨fun b hb=>(hi b).2 (.inl hb),fun _ _=>rfl⟩
 have hc:CtxLe C C':=⟨by rw [hn];exact Nat.le_refl _,fun _ _=>by rw [ho],fun _ _=>by rw [hh]⟩
 induction h with
 |t h=>exact (RepA.t h).keeps hk hc
 |agg hl _ ih=>
  simp only [frz]
  refine .agg (by rw [frzL_length];exact hl) fun k a u ha hu=>?_
  obtain ⟨b,h1,rfl⟩:=frzL_get ha
  exact ih k b u h1 hu
 |tup hl _ ih=>
  simp only [frz]
  refine .tup (by rw [frzL_length];exact hl) fun k a u ha hu=>?_
  obtain ⟨b,h1,rfl⟩:=frzL_get ha
  exact ih k b u h1 hu
 |fsl h=>exact .t (h.keeps hk)
 |@ref q n c a h1 h2=>
  simp only [frz]
  split
  ·rename_i sz es hσ
   have hob:=hs.obj q
   rw [hσ] at hob
   obtain ⟨e1,e2,e3⟩:=arr_elems hob h2
   subst e1
   refine .t ?_
   rcases Nat.eq_zero_or_pos es.length with h0 | h0
   ·have:es=[]:=List.eq_nil_of_length_eq_zero h0
    subst this
    exact .nil
   ·obtain ⟨ad,rfl,hcell⟩:=e3.2 h0
    have hown:C.own q=some ad.block:=by
     obtain ⟨_,⟨e0,_⟩ | ⟨bl,cap,vs,E,lo,hi',ho1,ho2,_⟩⟩:=hob
     ·subst e0;simp at h0
     ·rw [h2] at ho2;cases ho2;exact ho1
    have hx:∀m,m<es.length*sz→∃u,w.cell? (ad.add m)=some u:=by
     intro m hm
     obtain ⟨e,he,_,hmod,e1⟩:=flat_ix e3.1 hm
     have hel:=e3.1 e (List.mem_of_getElem? he)
     obtain ⟨u,g1,_⟩:=hcell (m / sz) (m % sz) e _ he (List.getElem?_eq_getElem (by omega))
     rw [←e1] at g1
     exact ⟨u,g1⟩
    refine .sl (u:=fun m=>(w.cell? (ad.add m)).getD undef) h0 e3.1 e2 ((hi _).2 (.inr ⟨q,by rw [hσ];exact (fun h=>by cases h),hown⟩)) (fun m hm=>?_) (fun j m e ct he hct=>?_)
    ·obtain ⟨u,hu⟩:=hx m hm
     rw [hu];rfl
    ·obtain ⟨u,g1,g2⟩:=hcell j m e ct he hct
     show RepT w C'.imm ct ((w.cell? (ad.add (j*sz+m))).getD undef)
     rw [g1]
     exact g2.keeps hk
  ·exact .any
 |ptr h1 h2=>exact (RepA.ptr h1 h2).keeps hk hc
 |rd h1 h2 h3=>exact (RepA.rd h1 h2 h3).keeps hk hc
 |el h1 h2 h3=>exact (RepA.el h1 h2 h3).keeps hk hc
 |cut h1 h2 h3=>exact (RepA.cut h1 h2 h3).keeps hk hc
 |ifc h1 h2=>exact (RepA.ifc h1 h2).keeps hk hc
 |mapr h1 h2=>exact (RepA.mapr h1 h2).keeps hk hc
 |yld h1 h2=>exact (RepA.yld h1 h2).keeps hk hc
 |fn h1 h2 h3 h4 _ _=>exact (RepA.fn h1 h2 h3 h4).keeps hk hc
 |any=>exact .any
theorem resL_rep {w:World} {C:Ctx} {a:Act} (hs:Sim C s.σ w) (h2:∀t,RepA w C (s.m t) (a.tmps.getD t undef)):∀{xs:List ResultVar} {avs:List AV},resL P s xs=some avs→
  ∃vs,(xs.mapM fun (x:ResultVar)=>(match x with | .tmp t=>pure (a.tmps.getD t undef) | .cell t ty=>do loadVar ty (←asAddr (a.tmps.getD t undef)):Sem Value)).run P w= .ok vs w∧RepL w C avs vs:=by
 intro xs
 induction xs with
 |nil=>intro avs h;simp only [resL] at h;cases h;exact ⟨[],rfl,rfl,fun k a u h=>by simp at h⟩
 |cons x xs ih=>
  intro avs h
  simp only [resL] at h
  split at h
  ·rename_i r rs hr hrs
   cases h
   obtain ⟨vs,g1,g2⟩:=ih hrs
   have hx:∃u,(match x with | .tmp t=>pure (a.tmps.getD t undef) | .cell t ty=>do loadVar ty (←asAddr (a.tmps.getD t undef)):Sem Value).run P w= .ok u w∧RepA w C r u:=by
    cases x with
    |tmp t=>simp only [resA] at hr;cases hr;exact ⟨_,rfl,h2 t⟩
    |cell t ty=>
     simp only [resA] at hr
     split at hr
     ·rename_i i b o hi hm
      have hp:=h2 t
      rw [hm] at hp
      obtain ⟨bl,hv,e1,e2⟩:=rep_ptr hp
      split at hr
      ·rename_i cs hσ
       obtain ⟨vs',E,h3,h4,h5⟩:=obj_box hs hσ e2
       obtain ⟨u,h6,h7⟩:=load_rep hi (a:=⟨bl,o,none⟩) (fun k x hk=>by
        have hlt:o+k<vs'.size:=by have:=(List.getElem?_eq_some_iff.1 hk).1;omega
        refine ⟨vs'[o+k],?_,h5 _ _ _ hk (Array.getElem?_eq_getElem hlt)⟩
        rw [add_off,cell_in h3,Array.getElem?_eq_getElem hlt]) hr
       exact ⟨u,by simp only [hv,asAddr,Sem.run_bind,Sem.run_pure,Result.andThen_ok,h6],h7⟩
      ·cases hr
     ·cases hr
   obtain ⟨u,hu,hru⟩:=hx
   refine ⟨u :: vs,?_,by simp [g2.1],fun k y z hy hz=>?_⟩
   ·rw [List.mapM_cons]
    simp only [Sem.run_bind,hu,Result.andThen_ok,g1,Sem.run_pure]
   ·cases k with
    |zero=>simp at hy hz;subst hy;subst hz;exact hru
    |succ k=>exact g2.2 k y z (by simpa using hy) (by simpa using hz)
  ·cases h
def slots0 (args:List AV):Slots:=fun i=>args.getD i (.tup [])
def Done (P:Program) (res:List ResultVar) (n0:Nat) (r:AV) (σ':Nat→AObj) (nx':Nat):Post:=fun e s=>
 match e with
 | .ret | .normal=>∃rs,resL P s res=some rs∧Ends n0 s (resV rs) σ' nx' r
 |_=>False
theorem marks_leave {C:Ctx} {σ:Nat→AObj} {n0:Nat}:∀(ds:List Deferred) (w:World),Marks n0 C σ w ds→∃w2,(∀F n fn tmps R,LeavesIn F n P fn tmps R [] .returning w2→LeavesInM F n P fn tmps R ds .returning w)∧
  w2.os=w.os∧w2.tape=w.tape∧w2.output=w.output∧w2.heap.size=w.heap.size∧∀b,C.imm b∨Mut C σ b∨b<n0→w2.heap[b]? =w.heap[b]?
 |[],w,_=>⟨w,fun _ _ _ _ _ h=>h,rfl,rfl,rfl,rfl,fun _ _=>rfl⟩
 |d :: ds,w,h=>by
  obtain ⟨r,h1,h2,h3,h4,h5⟩:=h.all d List.mem_cons_self
  have hm:Marks n0 C σ (w.putObj r (.deferred none)) ds:=by
   refine ⟨fun e he=>?_,(List.pairwise_cons.1 h.nodup).2⟩
   obtain ⟨q,g1,g2,g3,g4,g5⟩:=h.all e (List.mem_cons_of_mem _ he)
   have hne:q≠r:=fun e'=>(List.pairwise_cons.1 h.nodup).1 e he (by rw [h1,g1,e'])
   exact ⟨q,g1,g2,by rw [World.putObj_heap_other hne];exact g3,g4,g5⟩
  obtain ⟨w2,k1,k2,k3,k4,k5,k6⟩:=marks_leave ds _ hm
  refine ⟨w2,fun F n fn tmps R hl=>?_,k2,k3,k4,by rw [k5,World.putObj_size],fun b hb=>?_⟩
  ·exact ⟨by simp,.inl ⟨r,_,h1,run_takeDeferred h3,k1 F n fn tmps R hl⟩⟩
  ·rw [k6 b hb,World.putObj_heap_other]
   rintro rfl
   rcases hb with e | e | e
   ·exact h4 e
   ·exact h5 e
   ·omega
theorem rel_leave {a:Act} {w:World} (hr:Rel B s a w):∃w2,(∀F n fn tmps R,LeavesIn F n P fn tmps R [] .returning w2→LeavesInM F n P fn tmps R a.defers .returning w)∧Rel B s {a with defers:=[]} w2:=by
 obtain ⟨C,h1,h2,h3,h4,h5,h6⟩:=hr
 obtain ⟨w2,k1,k2,k3,k4,k5,k6⟩:=marks_leave (P:=P) a.defers w h4
 have hk:Keeps w C.imm w2 C.imm:=⟨fun _ h=>h,fun b hb=>k6 b (.inl hb)⟩
 have hc:CtxLe C C:=⟨Nat.le_refl _,fun _ _=>rfl,fun _ _=>rfl⟩
 refine ⟨w2,k1,C,h1,fun t=>(h2 t).keeps hk hc,h3,Marks.nil,⟨h5.dead,fun i=>?_,h5.inj,h5.sep,fun b hb=>by rw [k5];exact h5.imm_lt b hb⟩,
  ⟨h6.le,k2.trans h6.os,k3.trans h6.tape,k4.trans h6.output,by rw [k5];exact h6.size,h6.imm,fun b hb hm=>(k6 b (.inr (.inr hb))).trans (h6.same b hb hm),h6.wr,h6.imm'⟩⟩
 by_cases hi:s.σ i= .dead
 ·rw [hi];exact True.intro
 ·exact (h5.obj i).step hk hc (live_lt h5 hi) fun b ho=>k6 b (.inr (.inl ⟨i,hi,ho⟩))
theorem spec_of_KQR {f:FuncId} {fn:Func} {c:Code} (hf:P.funcs[f]? =some fn) (hb:fn.body=some c) (hname:(fn.name== "runtime.NumGoroutine")=false) {args:List AV} {σ:Nat→AObj} {nx:Nat} {S:AV→(Nat→AObj)→Nat→Prop}
  (hn:args.length≤fn.ntmps) (h:∀B:Base,B.n=fn.ntmps→B.C.nx=nx→B.σ=σ→B.ro=none→Kp P B [.code c] (fun e s=>∃r σ' nx',S r σ' nx'∧Done P fn.results.toList nx r σ' nx' e s) .normal ⟨slots0 args,σ,nx⟩):CallQ P f args σ nx S:=by
 refine ⟨by simp [goodFn,hf,hb,hname],fun C w vs hs hnx hl=>?_⟩
 refine (callsIn_FR (ro:=none) (n:=0)).1 (callsIn_of_wp_marks hf hb trivial ?_)
 have hrel:Rel ⟨C,σ,w,fn.ntmps,none⟩ ⟨slots0 args,σ,nx⟩ {tmps:=vs.toArray++Array.replicate (fn.ntmps-vs.toArray.size) undef,defers:=[]} w:=by
  refine ⟨C,hnx,fun t=>?_,by simp;have:=hl.1;omega,Marks.nil,hs,Step.refl _ _ _⟩
  simp only [slots0,Array.getD_eq_getD_getElem?,List.getD_eq_getElem?_getD]
  have hlen:=hl.1
  by_cases ht:t<vs.length
  ·rw [Array.getElem?_append_left (by simpa using ht)]
   have h1:args[t]? =some args[t]:=List.getElem?_eq_getElem (by omega)
   have h2:vs.toArray[t]? =some vs[t]:=by simp [ht]
   rw [h1,h2]
   exact hl.2 t _ _ h1 (List.getElem?_eq_getElem ht)
  ·rw [List.getElem?_eq_none (by omega)]
   have:((vs.toArray++Array.replicate (fn.ntmps-vs.toArray.size) undef)[t]?).getD undef=undef:=by
    rw [Array.getElem?_append_right (by simp;omega)]
    cases hx:(Array.replicate (fn.ntmps-vs.toArray.size) undef)[t-vs.toArray.size]? with
    |none=>rfl
    |some u=>
     rw [Array.getElem?_replicate] at hx
     split at hx
     ·cases hx;rfl
     ·cases hx
   rw [this]
   exact .tup rfl (fun k a u h=>by simp at h)
 refine cwp_mono (ro:=none) (h ⟨C,σ,w,fn.ntmps,none⟩ rfl hnx rfl rfl _ _ hrel) fun e a' w' hp=>?_
 obtain ⟨s',⟨r,σ',nx',hS,hd⟩,hr0⟩:=hp
 obtain ⟨w2,hlv,hr'⟩:=rel_leave (P:=P) hr0
 have fin0:(∃rs,resL P s' fn.results.toList=some rs∧Ends nx s' (resV rs) σ' nx' r)→∃v,(results fn a'.tmps).run P w2= .ok v w2∧∃C' v',Ending.returned v= .returned v'∧Sim C' σ' w2∧C'.nx=nx'∧RepA w2 C' r v'∧Step C σ w C' σ' w2:=by
  rintro ⟨rs,hrs,he⟩
  obtain ⟨C1,h1,h2,h3,h4,h5,h6⟩:=hr'
  obtain ⟨us,g1,g2⟩:=resL_rep (P:=P) h5 h2 hrs
  have hv:∃v,(results fn a'.tmps).run P w2= .ok v w2∧RepA w2 C1 (resV rs) v:=by
   have hm:(fn.results.mapM fun (x:ResultVar)=>(match x with | .tmp t=>pure (a'.tmps.getD t undef) | .cell t ty=>do loadVar ty (←asAddr (a'.tmps.getD t undef)):Sem Value)).run P w2= .ok us.toArray w2:=by
    rw [Array.mapM_eq_mapM_toList,Sem.run_map,g1]
    rfl
   refine ⟨if h:us.toArray.size=1 then us.toArray[0] else .tuple us.toArray,?_,?_⟩
   ·unfold results
    rw [Sem.run_bind]
    refine Eq.trans (congrArg (fun z=>Result.andThen z _) hm) ?_
    rfl
   ·obtain ⟨gl,gr⟩:=g2
    match rs,us,gl with
    |[],[],_=>exact .tup rfl (fun k a u h=>by simp at h)
    |[a],[u],_=>simpa [resV] using gr 0 a u rfl rfl
    |a :: b :: r,u :: v :: l,hl2=>
     rw [dif_neg (by simp)]
     exact .tup (by simpa using hl2) fun k a u ha hu=>gr k a u ha (by simpa using hu)
  obtain ⟨v,hv1,hv2⟩:=hv
  refine ⟨v,hv1,?_⟩
  have live:∀i,σ' i≠ .dead→s'.σ i≠ .dead∧σ' i=s'.σ i∧bndO nx' (σ' i)=true∧i<nx':=fun i hi=>by
   rcases he.obj i with e | ⟨e1,e2⟩
   ·exact absurd e hi
   ·have hi':s'.σ i≠ .dead:=by rw [←e1];exact hi
    rcases e2 with e2 | ⟨e2,e3⟩
    ·exact ⟨hi',e1,by rw [e2,←h1,e1];exact (h5.obj i).bnded,by rw [e2,←h1];exact live_lt h5 hi'⟩
    ·exact ⟨hi',e1,e2,e3⟩
  obtain ⟨hres,hbr⟩:=he.res
  rcases hres with hres | ⟨hdead,hres⟩
  ·subst hres
   have hbr:bnd nx' (resV rs)=true:=by
    rcases hbr with e | e
    ·rw [e,←h1];exact hv2.bnded
    ·exact e
   refine ⟨{C1 with nx:=nx'},v,rfl,⟨fun i hi=>?_,fun i=>?_,fun i j b hi hj=>h5.inj i j b (live i hi).1 (live j hj).1,fun i b hi=>h5.sep i b (live i hi).1,h5.imm_lt⟩,rfl,RepA.less (C:=C1) (C':={C1 with nx:=nx'}) rfl rfl rfl hv2 hbr,
    ⟨⟨by show C.nx≤nx';rw [hnx];exact he.base,fun i hi=>h6.le.own i hi,fun i hi=>h6.le.hdr i hi⟩,h6.os,h6.tape,h6.output,h6.size,h6.imm,h6.same,fun b ⟨i,hi,hb⟩=>h6.wr b ⟨i,(live i hi).1,hb⟩,h6.imm'⟩⟩
   ·by_cases hd:σ' i= .dead
    ·exact hd
    ·have:=(live i hd).2.2.2
     exact absurd hi (by simp;omega)
   ·by_cases hi:σ' i= .dead
    ·rw [hi];exact True.intro
    ·obtain ⟨e1,e2,e3,e4⟩:=live i hi
     have:=h5.obj i
     rw [←e2] at this
     exact RepO.less (C:=C1) (C':={C1 with nx:=nx'}) rfl rfl rfl this e3
  ·obtain ⟨C2,hC2⟩:∃C2:Ctx,C2={C1 with imm:=fun b=>C1.imm b∨Mut C1 s'.σ b}:=⟨_,rfl⟩
   have hfr:=frz_rep h5 (C':=C2) (fun b=>by rw [hC2]) (by rw [hC2]) (by rw [hC2]) (by rw [hC2]) hv2
   rw [←hres] at hfr
   have hbr:bnd nx' r=true:=by
    rcases hbr with e | e
    ·rw [e,←h1];have:=hfr.bnded;rw [hC2] at this;exact this
    ·exact e
   have hi2:∀b,C2.imm b↔(C1.imm b∨Mut C1 s'.σ b):=fun b=>by rw [hC2]
   refine ⟨{C2 with nx:=nx'},v,rfl,⟨fun i _=>hdead i,fun i=>by rw [hdead i];exact True.intro,fun i j b hi=>absurd (hdead i) hi,fun i b hi=>absurd (hdead i) hi,fun b hb=>?_⟩,rfl,RepA.less (C:=C2) (C':={C2 with nx:=nx'}) rfl rfl rfl hfr hbr,
    ⟨⟨by show C.nx≤nx';rw [hnx];exact he.base,fun i hi=>by subst hC2;exact h6.le.own i hi,fun i hi=>by subst hC2;exact h6.le.hdr i hi⟩,h6.os,h6.tape,h6.output,h6.size,fun b hb=>(hi2 b).2 (.inl (h6.imm b hb)),h6.same,fun b ⟨i,hi,_⟩=>absurd (hdead i) hi,fun b hb=>?_⟩⟩
   ·rcases (hi2 b).1 hb with h | ⟨i,hi,ho⟩
    ·exact h5.imm_lt b h
    ·exact own_lt h5 hi ho
   ·rcases (hi2 b).1 hb with h | h
    ·exact h6.imm' b h
    ·rcases h6.wr b h with h | h
     ·exact .inr (.inl h)
     ·exact .inr (.inr h)
 have fin:(∃rs,resL P s' fn.results.toList=some rs∧Ends nx s' (resV rs) σ' nx' r)→∃v,(results fn a'.tmps).run P w2= .ok v w2∧∃r σ' nx' C' v',S r σ' nx'∧Ending.returned v= .returned v'∧Sim C' σ' w2∧C'.nx=nx'∧RepA w2 C' r v'∧Step C σ w C' σ' w2:=fun h=>by
  obtain ⟨v,h2,C',v',h3⟩:=fin0 h
  exact ⟨v,h2,r,σ',nx',C',v',hS,h3⟩
 cases e with
 |ret=>exact hlv _ _ _ _ _ (fin hd)
 |normal=>exact hlv _ _ _ _ _ (fin hd)
 |_=>exact hd.elim
theorem spec_of_KQ {f:FuncId} {fn:Func} {c:Code} (hf:P.funcs[f]? =some fn) (hb:fn.body=some c) (hname:(fn.name== "runtime.NumGoroutine")=false) {args:List AV} {σ:Nat→AObj} {nx:Nat} {S:AV→(Nat→AObj)→Nat→Prop}
  (hn:args.length≤fn.ntmps) (h:∀B:Base,B.n=fn.ntmps→B.C.nx=nx→B.σ=σ→Kp P B [.code c] (fun e s=>∃r σ' nx',S r σ' nx'∧Done P fn.results.toList nx r σ' nx' e s) .normal ⟨slots0 args,σ,nx⟩):CallQ P f args σ nx S:=
 spec_of_KQR hf hb hname hn fun B h1 h2 h3 _=>h B h1 h2 h3
theorem spec_of_KR {f:FuncId} {fn:Func} {c:Code} (hf:P.funcs[f]? =some fn) (hb:fn.body=some c) (hname:(fn.name== "runtime.NumGoroutine")=false) {args:List AV} {σ:Nat→AObj} {nx:Nat} {r:AV} {σ':Nat→AObj} {nx':Nat}
  (hn:args.length≤fn.ntmps) (h:∀B:Base,B.n=fn.ntmps→B.C.nx=nx→B.σ=σ→B.ro=none→Kp P B [.code c] (Done P fn.results.toList nx r σ' nx') .normal ⟨slots0 args,σ,nx⟩):CallSpec P f args σ nx r σ' nx':=by
 refine (spec_of_KQR hf hb hname hn fun B h1 h2 h3 h4=>?_).spec
 exact fun a w hrel=>cwp_mono (h B h1 h2 h3 h4 a w hrel) (post_mono fun e s hp=>⟨r,σ',nx',⟨rfl,rfl,rfl⟩,hp⟩)
theorem spec_of_K {f:FuncId} {fn:Func} {c:Code} (hf:P.funcs[f]? =some fn) (hb:fn.body=some c) (hname:(fn.name== "runtime.NumGoroutine")=false) {args:List AV} {σ:Nat→AObj} {nx:Nat} {r:AV} {σ':Nat→AObj} {nx':Nat}
  (hn:args.length≤fn.ntmps) (h:∀B:Base,B.n=fn.ntmps→B.C.nx=nx→B.σ=σ→Kp P B [.code c] (Done P fn.results.toList nx r σ' nx') .normal ⟨slots0 args,σ,nx⟩):CallSpec P f args σ nx r σ' nx':=by
 refine (spec_of_KQ hf hb hname hn fun B h1 h2 h3=>?_).spec
 exact fun a w hrel=>cwp_mono (h B h1 h2 h3 a w hrel) (post_mono fun e s hp=>⟨r,σ',nx',⟨rfl,rfl,rfl⟩,hp⟩)
end
end Go.Proofs.YtnoifgjiipgpoaaGreatDoor.R

namespace Go.Proofs.YtnoifgjiipgpoaaGreatDoor.R
open Go.RowKit
attribute [go_sem] one evalP nilPtr evalB evalS evalC St.upd Eff.on ev ofConst ofLeaf plainV popTo popLab binV unV pickA cellsOf leaf toT toTs setCells partA partT TI.isAgg asInt idx elemRd bound cutT placesA fillA fillT zeroA slicesT srcA appA dOk gval callee resA resL resV frz frz.frzL bnd bnd.bndL bndO Done
abbrev AV.i (n:Int):AV:=.t (.v (.int .i64 n))
abbrev AV.u (n:Int):AV:=.t (.v (.int .u64 n))
abbrev AV.b (b:Bool):AV:=.t (.v (.bool b))
abbrev T.i (n:Int):T:=.v (.int .i64 n)
theorem w64 (n:Int) (h: -9223372036854775808≤n∧n≤9223372036854775807):IntKind.i64.wrap n=n:=by
 simp only [IntKind.wrap,IntKind.bits,IntKind.signed];simp;split<;>omega
theorem u64 (n:Int) (h:0≤n∧n≤18446744073709551615):IntKind.u64.wrap n=n:=by
 simp only [IntKind.wrap,IntKind.bits,IntKind.signed];simp;omega
theorem u8w (n:Int) (h:0≤n∧n≤255):IntKind.u8.wrap n=n:=by
 simp only [IntKind.wrap,IntKind.bits,IntKind.signed];simp;omega
theorem if_max (x y:Int):(if x<y then y else x)=max x y:=by omega
theorem if_min (x y:Int):(if y<x then y else x)=min x y:=by omega
@[go_sem] theorem minI_max {k k':IntKind} (x y:Int) (r:List AV):minI (fun y x=>decide (y>x)) k x (.t (.v (.int k' y)) :: r)=minI (fun y x=>decide (y>x)) k (max x y) r:=by
 simp only [minI,decide_eq_true_eq];rw [←if_max]
@[go_sem] theorem minI_min {k k':IntKind} (x y:Int) (r:List AV):minI (fun y x=>decide (y<x)) k x (.t (.v (.int k' y)) :: r)=minI (fun y x=>decide (y<x)) k (min x y) r:=by
 simp only [minI,decide_eq_true_eq];rw [←if_min]
@[go_sem] theorem minI_nil {k:IntKind} (f:Int→Int→Bool) (x:Int):minI f k x []=some x:=rfl
@[go_sem] theorem cast_eq (a b:Nat):((a:Int)=(b:Int))=(a=b):=by simp only [eq_iff_iff];omega
@[go_sem] theorem beq_int (a b:Int):(a==b)=decide (a=b):=by by_cases h:a=b<;>simp [h]
@[go_sem] theorem bne_int (a b:Int):(a != b)= !decide (a=b):=by by_cases h:a=b<;>simp [h]
def ints (l:List Int):List (List T):=l.map fun n=>[.i n]
section
variable {P:Program} {B:Base} {k:List KI} {R:Post} {s:St}
@[go_sem] theorem Kp_again {J:St→Prop}:Kp P B [.again J] R .normal s=J s:=rfl
@[go_sem] theorem Kp_fin {e:Exit}:Kp P B [.fin e] R .normal s=R e s:=rfl
@[go_sem] theorem Kp_lab {l:Nat} {J:Nat→St→Prop}:Kp P B [.fin (.goto l),.lab J] R .normal s=J l s:=rfl
@[go_sem] theorem Kp_nil {e:Exit}:Kp P B [] R e s=R e s:=rfl
def sl:List (Nat×AV)→Slots
 |[],_=>.any
 |(j,v) :: l,i=>if i=j then v else sl l i
def ob:List (Nat×AObj)→Nat→AObj
 |[],_=>.dead
 |(j,v) :: l,i=>if i=j then v else ob l i
@[go_sem] theorem sl_nil (i:Nat):sl [] i= .any:=rfl
@[go_sem] theorem sl_cons (j:Nat) (v:AV) (l:List (Nat×AV)) (i:Nat):sl ((j,v) :: l) i=if i=j then v else sl l i:=rfl
@[go_sem] theorem ob_nil (i:Nat):ob [] i= .dead:=rfl
@[go_sem] theorem ob_cons (j:Nat) (v:AObj) (l:List (Nat×AObj)) (i:Nat):ob ((j,v) :: l) i=if i=j then v else ob l i:=rfl
@[go_sem] theorem noObj_at (i:Nat):noObj i= .dead:=rfl
@[go_sem] theorem put_none (m:Slots) (v:AV):put m none v=m:=rfl
@[go_sem] theorem put_at (m:Slots) (d:Nat) (v:AV) (i:Nat):put m (some d) v i=if i=d then v else m i:=rfl
@[go_sem] theorem oput_at (σ:Nat→AObj) (q:Nat) (o:AObj) (i:Nat):oput σ q o i=if i=q then o else σ i:=rfl
@[go_sem] theorem slots0_at (avs:List AV) (i:Nat):slots0 avs i=avs.getD i (.tup []):=rfl
theorem sl_any {n:Nat} (l:List (Nat×AV)) (h:∀p∈l,s.m p.1=p.2∧bnd n p.2=true) (i:Nat):sl l i= .any∨(sl l i=s.m i∧bnd n (sl l i)=true):=by
 induction l with
 |nil=>exact .inl rfl
 |cons p l ih=>
  obtain ⟨j,v⟩:=p
  simp only [sl]
  split
  ·rename_i e
   subst e
   obtain ⟨h1,h2⟩:=h (i,v) (List.mem_cons_self)
   exact .inr ⟨h1.symm,h2⟩
  ·exact ih fun p hp=>h p (List.mem_cons_of_mem _ hp)
theorem ob_any {n:Nat} (l:List (Nat×AObj)) (h:∀p∈l,s.σ p.1=p.2∧bndO n p.2=true∧p.1<n) (i:Nat):ob l i= .dead∨(ob l i=s.σ i∧bndO n (ob l i)=true∧i<n):=by
 induction l with
 |nil=>exact .inl rfl
 |cons p l ih=>
  obtain ⟨j,v⟩:=p
  simp only [ob]
  split
  ·rename_i e
   subst e
   obtain ⟨h1,h2,h3⟩:=h (i,v) (List.mem_cons_self)
   exact .inr ⟨h1.symm,h2,h3⟩
  ·exact ih fun p hp=>h p (List.mem_cons_of_mem _ hp)
theorem Sub.of {l:List (Nat×AV)} {o:List (Nat×AObj)} {n:Nat} (hb:B.C.nx≤n) (hn:n≤s.nx) (hm:∀p∈l,s.m p.1=p.2∧bnd n p.2=true) (ho:∀p∈o,s.σ p.1=p.2∧bndO n p.2=true∧p.1<n):Imp B s ⟨sl l,ob o,n⟩:=Sub.imp
 ⟨sl_any l hm,hn,hb,ob_any o ho⟩
theorem Ends.pure {r0 r:AV} (hr:r=frz s.σ r0) (hb:bnd 0 r=true):Ends 0 s r0 noObj 0 r:=
 ⟨fun _=>.inl rfl,Nat.zero_le _,Nat.le_refl _,.inr ⟨fun _=>rfl,hr⟩,.inr hb⟩
theorem Imp.keep {l:List (Nat×AV)} (hm:∀p∈l,s.m p.1=p.2):Imp B s ⟨sl l,s.σ,s.nx⟩:=by
 refine Imp.same (fun i=>?_) (fun i=>.inr rfl) rfl
 induction l with
 |nil=>exact .inl rfl
 |cons p l ih=>
  obtain ⟨j,v⟩:=p
  show (if i=j then v else sl l i)= .any∨(if i=j then v else sl l i)=s.m i
  split
  ·rename_i e
   subst e
   exact .inr (hm (i,v) List.mem_cons_self).symm
  ·exact ih fun p hp=>hm p (List.mem_cons_of_mem _ hp)
theorem Imp.slots {l:List (Nat×AV)} {σ':Nat→AObj} {n:Nat} (hm:∀p∈l,s.m p.1=p.2) (hσ:σ'=s.σ) (hn:n=s.nx):Imp B s ⟨sl l,σ',n⟩:=by
 subst hσ hn
 exact Imp.keep hm
def Next {α:Type} (B:Base) (I:α→Prop) (st:α→St) (μ:α→Nat) (x:α) (s:St):Prop:=∃y,I y∧Imp B s (st y)∧μ y<μ x
theorem Next.mk {α:Type} {I:α→Prop} {st:α→St} {μ:α→Nat} {x:α} (y:α) (h1:I y) (h2:Imp B s (st y)) (h3:μ y<μ x):Next B I st μ x s:=⟨y,h1,h2,h3⟩
theorem K_loopP {α:Type} (I:α→Prop) (st:α→St) (μ:α→Nat) (a0:α) (hI:I a0) {c:Code} (h0:Imp B s (st a0))
  (round:∀a,I a→Kp P B (.code c :: .again (Next B I st μ a) :: k) R .normal (st a)):Kp P B (.code (.loop c) :: k) R .normal s:=by
 intro ac w hr
 refine cwp_loop (fun (x:{a // I a}) a w=>Rel B (st x.1) a w) (fun x=>μ x.1) ⟨a0,hI⟩ (h0 _ _ hr) fun x a w hx=>cwp_mono (round x.1 x.2 a w hx) fun e a' w' hp=>?_
 obtain ⟨s',h1,h2⟩:=hp
 cases e with
 |normal=>
  obtain ⟨y,h3,h4,h5⟩:=h1
  exact ⟨⟨y,h3⟩,h4 _ _ h2,h5⟩
 |_=>exact ⟨s',h1,h2⟩
theorem K_scopeP {α:Type} (l:Nat) (I:α→Prop) (st:α→St) (μ:α→Nat) {c rest:Code} (hf:findLabel c l=some rest)
  (first:Kp P B (.code c :: .lab (fun l' s'=>l'=l∧∃y,I y∧Imp B s' (st y)) :: k) R .normal s)
  (pass:∀x,I x→Kp P B (.code rest :: .lab (fun l' s'=>l'=l∧Next B I st μ x s') :: k) R .normal (st x)):Kp P B (.code (.scope c) :: k) R .normal s:=by
 intro ac w hr
 refine cwp_scope_many (fun (x:{a // I a}) a w=>Rel B (st x.1) a w) (fun _=>l) (fun x=>μ x.1) (fun _=>rest) (fun _=>hf) (cwp_mono (first ac w hr) fun e a' w' hp=>?_) fun x a w hx=>cwp_mono (pass x.1 x.2 a w hx) fun e a' w' hp=>?_
 ·obtain ⟨s',h1,h2⟩:=hp
  cases e with
  |goto l'=>obtain ⟨h0,y,h3,h4⟩:=h1;exact ⟨⟨y,h3⟩,h0.symm,h4 _ _ h2⟩
  |_=>exact ⟨s',h1,h2⟩
 ·obtain ⟨s',h1,h2⟩:=hp
  cases e with
  |goto l'=>obtain ⟨h0,y,h3,h4,h5⟩:=h1;exact ⟨⟨y,h3⟩,h0.symm,h4 _ _ h2,h5⟩
  |_=>exact ⟨s',h1,h2⟩
theorem K_lab_mono {J J':Nat→St→Prop} {c:Code} (hJ:∀l s,J l s→J' l s) (h:Kp P B (.code c :: .lab J :: k) R .normal s):Kp P B (.code c :: .lab J' :: k) R .normal s:=by
 intro a w hr
 refine cwp_mono (h a w hr) (post_mono fun e s' hp=>?_)
 cases e with
 |goto l=>exact hJ _ _ hp
 |_=>exact hp
theorem K_scopeH {α:Type} {l:Nat} {b:Code} (I:α→Prop) (st:α→St) (μ:α→Nat) (x0:α) (h0:I x0) (hs:Imp B s (st x0))
  (pass:∀x,I x→Kp P B (.code b :: .lab (fun l' s'=>l'=l∧Next B I st μ x s') :: k) R .normal (st x)):Kp P B (.code (.scope (.seq (.label l) b)) :: k) R .normal s:=by
 refine K_scopeP (rest:=.seq .skip b) l I st μ (by simp [findLabel]) (K_seq (K_label (K_less hs (K_lab_mono ?_ (pass x0 h0))))) fun x hx=>K_seq (K_skip (pass x hx))
 rintro l' s' ⟨h1,y,h2,h3,_⟩
 exact ⟨h1,y,h2,h3⟩
theorem K_scopeN {α:Type} (l:Nat) {c b:Code} (I:α→Prop) (st:α→St) (μ:α→Nat) (hf:findLabel c l=some (.seq .skip b))
  (pass:∀x,I x→Kp P B (.code b :: .lab (fun l' s'=>l'=l∧Next B I st μ x s') :: k) R .normal (st x))
  (first:∀J:Nat→St→Prop,(∀x s,I x→Imp B s (st x)→Kp P B (.code (.seq (.label l) b) :: .lab J :: k) R .normal s)→Kp P B (.code c :: .lab J :: k) R .normal s):
  Kp P B (.code (.scope c) :: k) R .normal s:=by
 refine K_scopeP (rest:=.seq .skip b) l I st μ hf (first _ fun x s hx hs=>K_seq (K_label (K_less hs (K_lab_mono ?_ (pass x hx))))) fun x hx=>K_seq (K_skip (pass x hx))
 rintro l' s' ⟨h1,y,h2,h3,_⟩
 exact ⟨h1,y,h2,h3⟩
theorem spec_of {f:FuncId} {fn:Func} {c:Code} (hf:P.funcs[f]? =some fn) (hb:fn.body=some c) (hname:(fn.name== "runtime.NumGoroutine")=false) {args:List AV} {σ:Nat→AObj} {nx:Nat} (hn:args.length≤fn.ntmps) {S:AV→(Nat→AObj)→Nat→Prop}
  (h:∀B:Base,B.n=fn.ntmps→B.C.nx=nx→B.σ=σ→Kp P B [.code c] (fun e s=>(e= .ret∨e= .normal)∧nx≤s.nx∧∃rs,resL P s fn.results.toList=some rs∧S (resV rs) s.σ s.nx) .normal ⟨slots0 args,σ,nx⟩):
  CallQ P f args σ nx S:=by
 refine spec_of_KQ hf hb hname hn fun B h1 h2 h3=>?_
 refine fun a w hrel=>cwp_mono (h B h1 h2 h3 a w hrel) fun e a' w' hp=>?_
 obtain ⟨s',⟨he,h0,rs,h4,h5⟩,h8⟩:=hp
 refine ⟨s',⟨resV rs,s'.σ,s'.nx,h5,?_⟩,h8⟩
 have:Ends nx s' (resV rs) s'.σ s'.nx (resV rs):=⟨fun i=>.inr ⟨rfl,.inl rfl⟩,Nat.le_refl _,h0,.inl rfl,.inl rfl⟩
 rcases he with rfl | rfl
 ·exact ⟨rs,h4,this⟩
 ·exact ⟨rs,h4,this⟩
theorem rel_own {t sz:Nat} (h:s.m t= .fsl []) {a:Act} {w:World} (hr:Rel B s a w):Rel B ⟨put s.m (some t) (.ref s.nx),oput s.σ s.nx (.arr sz []),s.nx+1⟩ a w:=by
 obtain ⟨C,h1,h2,h3,h4,h5,h6⟩:=hr
 have ht:=h2 t
 rw [h] at ht
 obtain ⟨ad,hv⟩:∃ad,a.tmps.getD t undef= .slice ad 0 0:=by
  generalize a.tmps.getD t undef=u at ht
  cases ht with
  |fsl h=>exact ⟨_,rfl⟩
 obtain ⟨C',hC⟩:∃C':Ctx,C'=⟨C.imm,fun i=>if i=C.nx then none else C.own i,fun i=>if i=C.nx then .slice ad 0 0 else C.hdr i,C.nx+1⟩:=⟨_,rfl⟩
 obtain ⟨g1,g2⟩:=sim_new0 h5 (.arr sz []) (.slice ad 0 0) C' hC ⟨fun e he=>(by cases he),.inl ⟨rfl,by rw [hC];simp,ad,by rw [hC];simp⟩⟩
 rw [h1] at g1 g2
 refine ⟨C',by rw [hC,h1],fun i=>?_,h3,h4.step g2,g1,h6.trans g2⟩
 by_cases hi:i=t
 ·subst hi
  have:put s.m (some i) (.ref s.nx) i= .ref s.nx:=if_pos rfl
  show RepA w C' (put s.m (some i) (.ref s.nx) i) _
  rw [this,hv]
  exact .ref (by rw [hC,h1];exact Nat.lt_succ_self _) (by rw [hC,h1];simp)
 ·have:put s.m (some t) (.ref s.nx) i=s.m i:=if_neg hi
  show RepA w C' (put s.m (some t) (.ref s.nx) i) _
  rw [this]
  exact (h2 i).step h5 g2
theorem K_own (t sz:Nat) {c:Code} (h:s.m t= .fsl []) (hk:Kp P B (.code c :: k) R .normal ⟨put s.m (some t) (.ref s.nx),oput s.σ s.nx (.arr sz []),s.nx+1⟩):Kp P B (.code c :: k) R .normal s:=
 fun a w hr=>hk a w (rel_own h hr)
theorem pure_of {f:FuncId} {fn:Func} {c:Code} (hf:P.funcs[f]? =some fn) (hb:fn.body=some c) (hname:(fn.name== "runtime.NumGoroutine")=false) {args:List AV} {r:AV} (hn:args.length≤fn.ntmps) (ha:args.all (bnd 0)=true) (hr:bnd 0 r=true)
  (h:∀B:Base,B.n=fn.ntmps→B.C.nx=0→Kp P B [.code c] (fun e s=>(e= .ret∨e= .normal)∧∃rs,resL P s fn.results.toList=some rs∧frz s.σ (resV rs)=r) .normal ⟨slots0 args,noObj,0⟩):Pure P f args r:=by
 refine ⟨fun a h=>List.all_eq_true.1 ha a h,hr,spec_of_K hf hb hname hn fun B h1 h2 _=>?_⟩
 refine fun a w hrel=>cwp_mono (h B h1 h2 a w hrel) fun e a' w' hp=>?_
 obtain ⟨s',⟨he,rs,h3,h4⟩,h5⟩:=hp
 refine ⟨s',?_,h5⟩
 rcases he with rfl | rfl
 ·exact ⟨rs,h3,Ends.pure h4.symm hr⟩
 ·exact ⟨rs,h3,Ends.pure h4.symm hr⟩
end
end Go.Proofs.YtnoifgjiipgpoaaGreatDoor.R

namespace Go.Proofs.YtnoifgjiipgpoaaGreatDoor.R
open Go.RowKit
def frz1 (q:Nat) (es:List (List T)):AV→AV
 | .ref i=>if i=q then .t (.sl es) else .ref i
 | .agg cs=>.agg (frzL q es cs)
 | .tup cs=>.tup (frzL q es cs)
 |a=>a
  where
 frzL (q:Nat) (es:List (List T)):List AV→List AV
 |[]=>[]
 |c :: cs=>frz1 q es c :: frzL q es cs
def frzO (q:Nat) (es:List (List T)):AObj→AObj
 | .box cs=>.box (frz1.frzL q es cs)
 |o=>o
section
variable {P:Program} {B:Base} {k:List KI} {R:Post} {s:St}
theorem frz1L_get {q:Nat} {es:List (List T)}:∀{cs:List AV} {k:Nat} {a:AV},(frz1.frzL q es cs)[k]? =some a→∃b,cs[k]? =some b∧a=frz1 q es b
 |[],k,a,h=>by simp [frz1.frzL] at h
 |c :: cs,k,a,h=>by
  cases k with
  |zero=>simp [frz1.frzL] at h;exact ⟨c,rfl,h.symm⟩
  |succ k=>
   simp only [frz1.frzL,List.getElem?_cons_succ] at h
   obtain ⟨b,h1,h2⟩:=frz1L_get h
   exact ⟨b,by simpa using h1,h2⟩
theorem frz1L_length {q:Nat} {es:List (List T)}:∀(cs:List AV),(frz1.frzL q es cs).length=cs.length
 |[]=>rfl
 |c :: cs=>by simp only [frz1.frzL,List.length_cons,frz1L_length cs]
theorem frz1_rep {w:World} {C C':Ctx} {σ:Nat→AObj} {q sz:Nat} {es:List (List T)} (hs:Sim C σ w) (hq:σ q= .arr sz es) (hC:C'={C with imm:=fun b=>C.imm b∨C.own q=some b}) {x:AV} {v:Value} (h:RepA w C x v):RepA w C' (frz1 q es x) v:=by
 have hi:∀b,C'.imm b↔(C.imm b∨C.own q=some b):=fun b=>by rw [hC]
 have hk:Keeps w C.imm w C'.imm:=⟨fun b hb=>(hi b).2 (.inl hb),fun _ _=>rfl⟩
 have hc:CtxLe C C':=by subst hC;exact ⟨Nat.le_refl _,fun _ _=>rfl,fun _ _=>rfl⟩
 induction h with
 |t h=>exact (RepA.t h).keeps hk hc
 |agg hl _ ih=>
  simp only [frz1]
  refine .agg (by rw [frz1L_length];exact hl) fun k a u ha hu=>?_
  obtain ⟨b,h1,rfl⟩:=frz1L_get ha
  exact ih k b u h1 hu
 |tup hl _ ih=>
  simp only [frz1]
  refine .tup (by rw [frz1L_length];exact hl) fun k a u ha hu=>?_
  obtain ⟨b,h1,rfl⟩:=frz1L_get ha
  exact ih k b u h1 hu
 |fsl h=>exact (RepA.fsl h).keeps hk hc
 |@ref i n c a h1 h2=>
  simp only [frz1]
  split
  ·rename_i e
   subst e
   have hob:=hs.obj i
   rw [hq] at hob
   obtain ⟨e1,e2,e3⟩:=arr_elems hob h2
   subst e1
   refine .t ?_
   rcases Nat.eq_zero_or_pos es.length with h0 | h0
   ·have:es=[]:=List.eq_nil_of_length_eq_zero h0
    subst this
    exact .nil
   ·obtain ⟨ad,rfl,hcell⟩:=e3.2 h0
    have hown:C.own i=some ad.block:=by
     obtain ⟨_,⟨e0,_⟩ | ⟨bl,cap,vs,E,lo,hi',ho1,ho2,_⟩⟩:=hob
     ·subst e0;simp at h0
     ·rw [h2] at ho2;cases ho2;exact ho1
    have hx:∀m,m<es.length*sz→∃u,w.cell? (ad.add m)=some u:=by
     intro m hm
     obtain ⟨e,he,_,hmod,e1⟩:=flat_ix e3.1 hm
     have hel:=e3.1 e (List.mem_of_getElem? he)
     obtain ⟨u,g1,_⟩:=hcell (m / sz) (m % sz) e _ he (List.getElem?_eq_getElem (by omega))
     rw [←e1] at g1
     exact ⟨u,g1⟩
    refine .sl (u:=fun m=>(w.cell? (ad.add m)).getD undef) h0 e3.1 e2 ((hi _).2 (.inr hown)) (fun m hm=>?_) (fun j m e ct he hct=>?_)
    ·obtain ⟨u,hu⟩:=hx m hm
     rw [hu];rfl
    ·obtain ⟨u,g1,g2⟩:=hcell j m e ct he hct
     show RepT w C'.imm ct ((w.cell? (ad.add (j*sz+m))).getD undef)
     rw [g1]
     exact g2.keeps hk
  ·exact (RepA.ref h1 h2).keeps hk hc
 |ptr h1 h2=>exact (RepA.ptr h1 h2).keeps hk hc
 |rd h1 h2 h3=>exact (RepA.rd h1 h2 h3).keeps hk hc
 |el h1 h2 h3=>exact (RepA.el h1 h2 h3).keeps hk hc
 |cut h1 h2 h3=>exact (RepA.cut h1 h2 h3).keeps hk hc
 |ifc h1 h2=>exact (RepA.ifc h1 h2).keeps hk hc
 |mapr h1 h2=>exact (RepA.mapr h1 h2).keeps hk hc
 |yld h1 h2=>exact (RepA.yld h1 h2).keeps hk hc
 |fn h1 h2 h3 h4 _ _=>exact (RepA.fn h1 h2 h3 h4).keeps hk hc
 |any=>exact .any
theorem Imp.freeze {q sz:Nat} {es:List (List T)} (hq:s.σ q= .arr sz es):Imp B s ⟨fun i=>frz1 q es (s.m i),fun j=>if j=q then .dead else frzO q es (s.σ j),s.nx⟩:=by
 intro a w hr
 obtain ⟨C,h1,h2,h3,h4,h5,h6⟩:=hr
 obtain ⟨C',hC⟩:∃C':Ctx,C'={C with imm:=fun b=>C.imm b∨C.own q=some b}:=⟨_,rfl⟩
 obtain ⟨g1,g2⟩:=sim_freeze h5 q (by rw [hq];exact (fun h=>by cases h)) C' hC
 have hd:∀j,(if j=q then AObj.dead else frzO q es (s.σ j))= .dead↔(if j=q then AObj.dead else s.σ j)= .dead:=by
  intro j
  by_cases e:j=q
  ·simp [e]
  ·simp only [if_neg e]
   cases s.σ j<;>simp [frzO]
 have hg:Sim C' (fun j=>if j=q then .dead else frzO q es (s.σ j)) w:=by
  refine ⟨fun i hi=>(hd i).2 (g1.dead i hi),fun i=>?_,fun i j b hi hj=>g1.inj i j b (fun e=>hi ((hd i).2 e)) (fun e=>hj ((hd j).2 e)),fun i b hi=>g1.sep i b (fun e=>hi ((hd i).2 e)),g1.imm_lt⟩
  have ho:=g1.obj i
  by_cases e:i=q
  ·simp only [if_pos e];exact True.intro
  ·simp only [if_neg e] at ho ⊢
   have ho':=h5.obj i
   cases hσ:s.σ i with
   |box cs=>
    rw [hσ] at ho ho'
    obtain ⟨bl,vs,E,e1,e2,e3,e4⟩:=ho'
    refine ⟨bl,vs,E,by rw [hC];exact e1,e2,by rw [frz1L_length];exact e3,fun k a u ha hu=>?_⟩
    obtain ⟨b,hb,rfl⟩:=frz1L_get ha
    exact frz1_rep h5 hq hC (e4 k b u hb hu)
   |_=>rw [hσ] at ho;exact ho
 refine ⟨C',by rw [hC];exact h1,fun i=>frz1_rep h5 hq hC (h2 i),h3,(h4.step g2).less (fun b hb=>.inl hb) (fun b ⟨i,hi,hb⟩=>.inr ⟨i,(fun e=>hi ((hd i).2 e)),hb⟩),hg,h6.trans ⟨g2.le,g2.os,g2.tape,g2.output,g2.size,g2.imm,g2.same,fun b ⟨i,hi,hb⟩=>g2.wr b ⟨i,fun e=>hi ((hd i).2 e),hb⟩,g2.imm'⟩⟩
theorem Imp.ownB {b off sz:Nat} {cs:List AV} (hb:s.σ b= .box cs) (hc:cs[off]? =some (.fsl [])):
  Imp B s ⟨s.m,oput (oput s.σ b (.box (cs.set off (.ref s.nx)))) s.nx (.arr sz []),s.nx+1⟩:=by
 intro a w hr
 obtain ⟨C,h1,h2,h3,h4,h5,h6⟩:=hr
 have hob:=h5.obj b
 rw [hb] at hob
 obtain ⟨bl,vs,E,e1,e2,e3,e4⟩:=hob
 have hlt:off<vs.size:=by have:=(List.getElem?_eq_some_iff.1 hc).1;omega
 have hrep:=e4 off _ vs[off] hc (Array.getElem?_eq_getElem hlt)
 obtain ⟨ad,hv⟩:∃ad,vs[off]= .slice ad 0 0:=by
  generalize vs[off]=u at hrep
  cases hrep with
  |fsl h=>exact ⟨_,rfl⟩
 have hbl:b<C.nx:=live_lt h5 (by rw [hb];exact (fun h=>by cases h))
 obtain ⟨C',hC⟩:∃C':Ctx,C'=⟨C.imm,fun i=>if i=C.nx then none else C.own i,fun i=>if i=C.nx then .slice ad 0 0 else C.hdr i,C.nx+1⟩:=⟨_,rfl⟩
 obtain ⟨g1,g2⟩:=sim_new0 h5 (.arr sz []) (.slice ad 0 0) C' hC ⟨fun e he=>(by cases he),.inl ⟨rfl,by rw [hC];simp,ad,by rw [hC];simp⟩⟩
 have hd:∀j,oput (oput s.σ b (.box (cs.set off (.ref s.nx)))) s.nx (.arr sz []) j= .dead↔(if j=C.nx then AObj.arr sz [] else s.σ j)= .dead:=by
  intro j
  simp only [oput,h1]
  split
  ·simp
  ·split
   ·rename_i e;subst e;simp [hb]
   ·rfl
 have hg:Sim C' (oput (oput s.σ b (.box (cs.set off (.ref s.nx)))) s.nx (.arr sz [])) w:=by
  refine ⟨fun i hi=>(hd i).2 (g1.dead i hi),fun i=>?_,fun i j b hi hj=>g1.inj i j b (fun e=>hi ((hd i).2 e)) (fun e=>hj ((hd j).2 e)),fun i b hi=>g1.sep i b (fun e=>hi ((hd i).2 e)),g1.imm_lt⟩
  have ho:=g1.obj i
  simp only [oput,←h1] at ho ⊢
  by_cases e:i=C.nx
  ·simp only [if_pos e] at ho ⊢;exact ho
  ·simp only [if_neg e] at ho ⊢
   by_cases eb:i=b
   ·subst eb
    simp only [if_true]
    refine ⟨bl,vs,E,by rw [hC];simp [e,e1],e2,by simpa using e3,fun k x u hx hu=>?_⟩
    by_cases ek:k=off
    ·subst ek
     rw [List.getElem?_set_self (by omega)] at hx
     cases hx
     rw [Array.getElem?_eq_getElem hlt,hv] at hu
     cases hu
     exact .ref (by rw [hC];exact Nat.lt_succ_self _) (by rw [hC];simp)
    ·rw [List.getElem?_set_ne (fun h=>ek h.symm)] at hx
     exact (e4 k x u hx hu).step h5 g2
   ·simp only [if_neg eb];exact ho
 refine ⟨C',by rw [hC,h1],fun i=>(h2 i).step h5 g2,h3,(h4.step g2).less (fun b hb=>.inl hb) (fun b ⟨i,hi,hb⟩=>.inr ⟨i,(fun e=>hi ((hd i).2 e)),hb⟩),hg,h6.trans ⟨g2.le,g2.os,g2.tape,g2.output,g2.size,g2.imm,g2.same,fun x ⟨i,hi,hx⟩=>g2.wr x ⟨i,fun e=>hi ((hd i).2 e),hx⟩,g2.imm'⟩⟩
end
end Go.Proofs.YtnoifgjiipgpoaaGreatDoor.R

namespace Go.Proofs.YtnoifgjiipgpoaaGreatDoor.R
open Go.RowKit
def eqFs (P:Program) (f:TypeId→AV→AV→Option Bool):List Field→List AV→List AV→Option Bool
 |[],_,_=>some true
 |fd :: r,xs,ys=>if fd.name= "_" then none else match TT P fd.type with
  |some i=>match partA i xs fd.offset,partA i ys fd.offset with
   |some a,some b=>match f fd.type a b,eqFs P f r xs ys with
    |some p,some q=>some (p&&q)
    |_,_=>none
   |_,_=>none
  |none=>none
def eqA (P:Program):Nat→TypeId→AV→AV→Option Bool
 |0,_,_,_=>none
 |d+1,t,x,y=>match TT P t with
  |some ⟨.int _,_,_,_⟩=>match x,y with
   | .t (.v (.int k a)),.t (.v (.int k' b))=>if k=k' then some (decide (a=b)) else none
   |_,_=>none
  |some ⟨.bool,_,_,_⟩=>match x,y with
   | .t (.v (.bool a)),.t (.v (.bool b))=>some (a==b)
   |_,_=>none
  |some ⟨.struct fs,_,_,_⟩=>match x,y with
   | .agg xs,.agg ys=>if P.stoodInHeld t=true then none else eqFs P (fun t a b=>eqA P d t a b) fs.toList xs ys
   |_,_=>none
  |_=>none
section
variable {P:Program}
theorem eqFs_run {w:World} {C:Ctx} {d:Nat} {f:TypeId→AV→AV→Option Bool}
  (hf:∀t x y b u v,f t x y=some b→RepA w C x u→RepA w C y v→(Op.equalIn d t u v).run P w= .ok b w) {xs ys:List AV} {us vs:Array Value} (hx:RepA w C (.agg xs) (.agg us)) (hy:RepA w C (.agg ys) (.agg vs)):
  ∀(fs:List Field) (b:Bool),eqFs P f fs xs ys=some b→(Op.eqFields d us vs fs).run P w= .ok b w:=by
 obtain ⟨us',hu',hxl,hxr⟩:=rep_agg hx
 obtain ⟨vs',hv',hyl,hyr⟩:=rep_agg hy
 cases hu'
 cases hv'
 intro fs
 induction fs with
 |nil=>intro b h;simp only [eqFs] at h;cases h;rfl
 |cons fd r ih=>
  intro b h
  simp only [eqFs] at h
  split at h
  ·cases h
  ·rename_i hn
   split at h
   ·rename_i i hi
    split at h
    ·rename_i a c ha hc
     split at h
     ·rename_i p q hp hq
      cases h
      obtain ⟨u,hu,hru⟩:=part_rep hi hxl hxr ha
      obtain ⟨v,hv,hrv⟩:=part_rep hi hyl hyr hc
      have h1:=hf _ _ _ _ _ _ hp hru hrv
      have h2:=ih _ hq
      simp only [Op.eqFields,if_pos hn,Sem.run_bind,hu,hv,h1,Result.andThen_ok]
      cases p
      ·simp
      ·simp only [Bool.not_true,Bool.false_eq_true,if_false,h2,Bool.true_and]
     ·cases h
    ·cases h
   ·cases h
theorem eqA_run {w:World} {C:Ctx}:∀(d:Nat) (t:TypeId) (x y:AV) (b:Bool) (u v:Value),eqA P d t x y=some b→RepA w C x u→RepA w C y v→(Op.equalIn d t u v).run P w= .ok b w:=by
 intro d
 induction d with
 |zero=>intro t x y b u v h;simp [eqA] at h
 |succ d ih=>
  intro t x y b u v h hx hy
  simp only [eqA] at h
  split at h
  ·rename_i ht
   split at h
   ·split at h
    ·rename_i hk
     subst hk
     cases h
     obtain ⟨rfl,_⟩:=rep_v hx
     obtain ⟨rfl,_⟩:=rep_v hy
     rw [run_equalIn_int _ _ _ _ _ _ _ (tt_some ht).1]
     congr 1
    ·cases h
   ·cases h
  ·rename_i ht
   split at h
   ·cases h
    obtain ⟨rfl,_⟩:=rep_v hx
    obtain ⟨rfl,_⟩:=rep_v hy
    exact run_equalIn_bool' _ _ _ _ _ (tt_some ht).1
   ·cases h
  ·rename_i fs _ _ _ ht
   split at h
   ·split at h
    ·cases h
    ·rename_i hs
     have hund:P.underlying t=some (.struct fs):=(tt_some ht).1
     have hfo:P.fieldsOf t=fs:=by simp [Program.fieldsOf,hund]
     obtain ⟨us',rfl,_,_⟩:=rep_agg hx
     obtain ⟨vs',rfl,_,_⟩:=rep_agg hy
     rw [run_equalIn_agg _ _ _ _ _ (by rw [hfo];exact hund) (by simpa using hs),hfo]
     exact eqFs_run (fun t x y b u v h1 h2 h3=>ih t x y b u v h1 h2 h3) hx hy _ _ h
   ·cases h
  ·cases h
def eqOp (op:BinOp) (b:Bool):Option Bool:=match op with | .eql=>some b | .neq=>some (!b) | _=>none
theorem eq_exec {w:World} {C:Ctx} {o:Oper} {op:BinOp} {t t':TypeId} {x y:Operand} {ρa:Operand→AV} {ρ:Operand→Value} {b r:Bool} {xs ys:List AV} (ho:o.op= .binOp op t x y t') (hρ:∀x,RepA w C (ρa x) (ρ x))
  (hx:ρa x= .agg xs) (hy:ρa y= .agg ys) (hg:P.eqGuardType P.depth t=false) (h:eqA P 10000 t (.agg xs) (.agg ys)=some b) (hr:eqOp op b=some r):(execOp ρ o).run P w= .ok (.value (.bool r)) w:=by
 have h1:=hρ x
 have h2:=hρ y
 rw [hx] at h1
 rw [hy] at h2
 have h3:=eqA_run 10000 t _ _ _ _ _ h h1 h2
 obtain ⟨us,e1,_,_⟩:=rep_agg h1
 obtain ⟨vs,e2,_,_⟩:=rep_agg h2
 rw [e1,e2] at h3
 cases op<;>simp only [eqOp,reduceCtorEq] at hr
 ·cases hr
  simp only [execOp,ho,Sem.run_bind,e1,e2,run_eqGuard_agg _ _ _ _ _ _ _ hg,Result.andThen_ok,run_eql_struct,h3,Sem.run_pure]
 ·cases hr
  simp only [execOp,ho,Sem.run_bind,e1,e2,run_eqGuard_agg _ _ _ _ _ _ _ hg,Result.andThen_ok,run_neq_struct,h3,Sem.run_pure]
variable {B:Base} {k:List KI} {R:Post} {s:St}
theorem does_eq {all:Array Oper} {i n:Nat} {o:Oper} {m:Slots} {op:BinOp} {t t':TypeId} {x y:Operand} {b r:Bool} {xs ys:List AV} (ho':all[i]? =some o) (hl:lets all m o=some true) (ho:o.op= .binOp op t x y t')
  (hx:ev m x= .agg xs) (hy:ev m y= .agg ys) (hg:P.eqGuardType P.depth t=false) (h:eqA P 10000 t (.agg xs) (.agg ys)=some b) (hr:eqOp op b=some r) (σ:Nat→AObj) (nx:Nat):Does P n all i m σ nx (.b r) σ nx:=by
 intro C a w hn hs hsz hrep ro K Q hK
 have hops:=mask_ev (m:=m) ho'
 have hd:dstOf all i=o.dst:=by simp [dstOf,ho']
 simp only [wpO,wpOpIn,ho',lets_wanted ho' hrep hl,if_true]
 rw [hd] at hK
 exact owp_value (eq_exec ho (ev_rep hrep) (by rw [hops x (by simp [ho,Op.operands])];exact hx) (by rw [hops y (by simp [ho,Op.operands])];exact hy) hg h hr) (hK _ _ C hs hn (Step.refl _ _ _) (.t (.v rfl)))
theorem K_dEq {all:Array Oper} {lo:List Nat} {sw:SW} {i:Nat} {pend:List Rc} {o:Oper} {rest:List (Nat×Oper)} {op:BinOp} {t t':TypeId} {x y:Operand} {b r:Bool} {xs ys:List AV} (hl:lets all s.m o=some true) (ho:o.op= .binOp op t x y t')
  (hx:ev s.m x= .agg xs) (hy:ev s.m y= .agg ys) (hg:P.eqGuardType P.depth t=false) (h:eqA P 10000 t (.agg xs) (.agg ys)=some b) (hr:eqOp op b=some r)
  (hk:Kp P B (.opsD all lo sw rest pend :: k) R .normal ⟨put s.m o.dst (.b r),s.σ,s.nx⟩):Kp P B (.opsD all lo sw ((i,o) :: rest) pend :: k) R .normal s:=
 Chain.at fun ho'=>Chain.step (loud:=none) (does_eq ho' hl ho hx hy hg h hr _ _) (fun _=>.inl (does_eq ho' hl ho hx hy hg h hr)) (fun c hc=>by cases hc) (fun _ h=>h) hk
attribute [go_sem] eqA eqFs eqOp
end
end Go.Proofs.YtnoifgjiipgpoaaGreatDoor.R

namespace Go.Proofs.YtnoifgjiipgpoaaGreatDoor.R
open Go.RowKit
def HasF (P:Program) (H:TypeId→List T→Prop):List Field→List T→Prop
 |[],ts=>ts=[]
 |fd :: r,ts=>∃a b,ts=a++b∧a.length=P.cellsOf fd.type∧H fd.type a∧HasF P H r b
def HasT (P:Program):Nat→TypeId→List T→Prop
 |0,_,_=>False
 |f+1,t,ts=>match P.underlying t with
  |some .bool=>∃b,ts=[.v (.bool b)]
  |some (.int k)=>∃n,ts=[.v (.int k n)]∧(Lit.int k n).wf=true
  |some .string=>∃s,ts=[.v (.string s)]
  |some (.slice e)=>∃es,ts=[.sl es]∧es.length≤maxLen∧∀x∈es,x.length=P.cellsOf e∧HasT P f e x
  |some (.struct fs)=>HasF P (fun t ts=>HasT P f t ts) fs.toList ts
  |_=>False
def tiles (P:Program):Nat→List Field→Option Nat
 |o,[]=>some o
 |o,fd :: r=>if fd.offset=o then tiles P (o+P.cellsOf fd.type) r else none
def plainT (P:Program):Nat→TypeId→Bool
 |0,_=>false
 |f+1,t=>match P.underlying t with
  |some .bool | some (.int _) | some .string=>true
  |some (.slice e)=>plainT P f e&&decide (0<P.cellsOf e)
  |some (.struct fs)=>tiles P 0 fs.toList==some (P.cellsOf t)&&fs.toList.all fun fd=>plainT P f fd.type
  |_=>false
section
variable {P:Program} {w:World} {H:Type} {enc:TypeId×Value→H} {spare:Nat→Bool} {held:Bool}
abbrev old (w:World):Nat→Prop:=fun b=>b<w.heap.size
theorem cells_get {base:Nat} {a:Addr}:∀{n:Nat} {l:List Value},w.cells? base a n=some l→l.length=n∧∀k u,l[k]? =some u→w.cell? (a.add k)=some u:=by
 intro n l h
 unfold World.cells? at h
 split at h
 ·have key:∀(ks:List Nat) (l:List Value),(ks.mapM fun i=>w.cell? (a.add i))=some l→l.length=ks.length∧∀(k:Nat) (u:Value),l[k]? =some u→∃i,ks[k]? =some i∧w.cell? (a.add i)=some u:=by
   intro ks
   induction ks with
   |nil=>intro l h;simp at h;subst h;exact ⟨rfl,fun k u h=>by simp at h⟩
   |cons i ks ih=>
    intro l h
    simp only [List.mapM_cons,Option.bind_eq_bind,Option.bind_eq_some_iff,Option.pure_def,Option.some.injEq] at h
    obtain ⟨x,hx,xs,hxs,rfl⟩:=h
    obtain ⟨g1,g2⟩:=ih xs hxs
    refine ⟨by simp [g1],fun k u hk=>?_⟩
    cases k with
    |zero=>simp at hk;subst hk;exact ⟨i,rfl,hx⟩
    |succ k=>exact g2 k u (by simpa using hk)
  obtain ⟨g1,g2⟩:=key _ _ h
  refine ⟨by simpa using g1,fun k u hk=>?_⟩
  obtain ⟨i,hi,hc⟩:=g2 k u hk
  have:i=k:=by
   obtain ⟨h1,h2⟩:=List.getElem?_eq_some_iff.1 hi
   simpa using h2.symm
  rw [←this];exact hc
 ·cases h
theorem mapM_get {α β:Type} {f:α→Option β}:∀{l:List α} {r:List β},l.mapM f=some r→r.length=l.length∧∀(k:Nat) (x:α),l[k]? =some x→∃y,r[k]? =some y∧f x=some y:=by
 intro l
 induction l with
 |nil=>intro r h;simp at h;subst h;exact ⟨rfl,fun k x h=>by simp at h⟩
 |cons a l ih=>
  intro r h
  simp only [List.mapM_cons,Option.bind_eq_bind,Option.bind_eq_some_iff,Option.pure_def,Option.some.injEq] at h
  obtain ⟨x,hx,xs,hxs,rfl⟩:=h
  obtain ⟨g1,g2⟩:=ih hxs
  refine ⟨by simp [g1],fun k u hk=>?_⟩
  cases k with
  |zero=>simp at hk;subst hk;exact ⟨x,rfl,hx⟩
  |succ k=>simpa using g2 k u (by simpa using hk)
theorem cell_old {a:Addr} {u:Value} (h:w.cell? a=some u):a.block<w.heap.size:=by
 unfold World.cell? at h
 cases hb:w.heap[a.block]? with
 |none=>rw [hb] at h;simp at h
 |some o=>exact (Array.getElem?_eq_some_iff.1 hb).1
def Reads (P:Program) (w:World) (f:Nat) (t:TypeId) (cs:List Value):Prop:=
 ∃ts,HasT P f t ts∧ts.length=cs.length∧∀(k:Nat) (a:T) (u:Value),ts[k]? =some a→cs[k]? =some u→RepT w (old w) a u
theorem trod_fields {f g:Nat} (ih:∀t cs d ps,DataW.trod enc P w 0 spare held f t cs=some (d,ps)→plainT P g t=true→Reads P w f t cs) {cs:List Value}:
  ∀(fs:List Field) (o e:Nat) (xs:List (DataW H×List MemPlace)),tiles P o fs=some e→e≤cs.length→(∀fd∈fs,plainT P g fd.type=true)→
   (fs.mapM fun fd=>DataW.trod enc P w 0 spare held f fd.type ((cs.drop fd.offset).take (P.cellsOf fd.type)))=some xs→
   o≤e∧∃ts,HasF P (fun t ts=>HasT P f t ts) fs ts∧ts.length=e-o∧∀(k:Nat) (a:T) (u:Value),ts[k]? =some a→cs[o+k]? =some u→RepT w (old w) a u:=by
 intro fs
 induction fs with
 |nil=>
  intro o e xs h1 h2 h3 h4
  simp only [tiles,Option.some.injEq] at h1
  subst h1
  exact ⟨Nat.le_refl _,[],rfl,by simp,fun k a u h=>by simp at h⟩
 |cons fd r ihr=>
  intro o e xs h1 h2 h3 h4
  simp only [tiles] at h1
  split at h1
  ·rename_i ho
   simp only [List.mapM_cons,Option.bind_eq_bind,Option.bind_eq_some_iff,Option.pure_def,Option.some.injEq] at h4
   obtain ⟨x,hx,xs',hxs,_⟩:=h4
   obtain ⟨g0,ts,g1,g2,g3⟩:=ihr _ e xs' h1 h2 (fun q hq=>h3 q (List.mem_cons_of_mem _ hq)) hxs
   obtain ⟨ta,e1,e2,e3⟩:=ih _ _ x.1 x.2 hx (h3 fd List.mem_cons_self)
   have hal:ta.length=P.cellsOf fd.type:=by rw [e2];simp;omega
   refine ⟨by omega,ta++ts,⟨ta,ts,rfl,hal,e1,g1⟩,by rw [List.length_append,hal,g2];omega,fun k a u ha hu=>?_⟩
   rw [List.getElem?_append] at ha
   split at ha
   ·rename_i hk
    refine e3 k a u ha ?_
    rw [List.getElem?_take,if_pos (by omega),List.getElem?_drop,ho]
    exact hu
   ·rename_i hk
    refine g3 _ a u ha ?_
    rw [←hu]
    congr 1
    omega
  ·cases h1
theorem list_of {α:Type} {Q:Nat→α→Prop}:∀n,(∀i,i<n→∃x,Q i x)→∃l:List α,l.length=n∧∀(i:Nat) (x:α),l[i]? =some x→Q i x
 |0,_=>⟨[],rfl,fun i x h=>by simp at h⟩
 |n+1,h=>by
  obtain ⟨l,h1,h2⟩:=list_of n fun i hi=>h i (by omega)
  obtain ⟨x,hx⟩:=h n (by omega)
  refine ⟨l++[x],by simp [h1],fun i y hy=>?_⟩
  rw [List.getElem?_append] at hy
  split at hy
  ·exact h2 i y hy
  ·rename_i hi
   have:i=n:=by
    have:=(List.getElem?_eq_some_iff.1 hy).1
    simp at this
    omega
   subst this
   simp [h1] at hy
   subst hy
   exact hx
theorem trod_rep:∀(f g:Nat) (t:TypeId) (cs:List Value) (d:DataW H) (ps:List MemPlace),DataW.trod enc P w 0 spare held f t cs=some (d,ps)→plainT P g t=true→Reads P w f t cs:=by
 intro f
 induction f with
 |zero=>intro g t cs d ps h;simp [DataW.trod] at h
 |succ f ih=>
  intro g t cs d ps h hp
  cases g with
  |zero=>simp [plainT] at hp
  |succ g=>
   have one:∀{x:T} {u:Value},RepT w (old w) x u→∀(k:Nat) (a:T) (v:Value),[x][k]? =some a→[u][k]? =some v→RepT w (old w) a v:=by
    intro x u hx k a v ha hv
    cases k with
    |zero=>simp at ha hv;subst ha;subst hv;exact hx
    |succ k=>simp at ha
   simp only [plainT] at hp
   unfold DataW.trod at h
   cases hu:P.underlying t with
   |none=>simp [hu] at hp
   |some du=>
    simp only [hu] at hp h
    cases du<;>simp only [Bool.false_eq_true] at hp
    case bool=>
     split at h<;>first | (rename_i heq;cases heq) | skip
     all_goals first | cases h | skip
     rename_i b
     exact ⟨[.v (.bool b)],by simp only [HasT,hu];exact ⟨b,rfl⟩,rfl,one (.v rfl)⟩
    case int kk=>
     split at h<;>first | (rename_i heq;cases heq) | skip
     all_goals first | (cases h;done) | skip
     rename_i k' n
     split at h
     ·rename_i hc
      obtain ⟨rfl,hw⟩:=hc
      exact ⟨[.v (.int k' n)],by simp only [HasT,hu];exact ⟨n,rfl,hw⟩,rfl,one (.v rfl)⟩
     ·cases h
    case string=>
     split at h<;>first | (rename_i heq;cases heq) | skip
     all_goals first | (cases h;done) | skip
     rename_i b
     exact ⟨[.v (.string b)],by simp only [HasT,hu];exact ⟨b,rfl⟩,rfl,one (.v rfl)⟩
    case slice e=>
     split at h<;>first | (rename_i heq;cases heq) | skip
     all_goals first | (cases h;done) | skip
     ·exact ⟨[.sl []],by simp only [HasT,hu];exact ⟨[],rfl,Nat.zero_le _,fun x hx=>by cases hx⟩,rfl,one .nil⟩
     ·rename_i a len cap
      simp only [Bool.and_eq_true,decide_eq_true_eq] at hp
      split at h
      ·rename_i hc
       obtain ⟨elems,he,_⟩:=Option.bind_eq_some_iff.1 h
       obtain ⟨g1,g2⟩:=mapM_get he
       have hel:∀i,i<len→∃x:List T,HasT P f e x∧x.length=P.cellsOf e∧∀(k:Nat) (c:T),x[k]? =some c→∃u,w.cell? (a.add (i*P.cellsOf e+k))=some u∧RepT w (old w) c u:=by
        intro i hi
        obtain ⟨y,_,hy⟩:=g2 i i (by simp [hi])
        obtain ⟨l,hl,hty⟩:=Option.bind_eq_some_iff.1 hy
        obtain ⟨q1,q2⟩:=cells_get hl
        obtain ⟨x,e1,e2,e3⟩:=ih g e l y.1 y.2 hty hp.1
        refine ⟨x,e1,by rw [e2,q1],fun k c hk=>?_⟩
        have hkl:k<l.length:=by have:=(List.getElem?_eq_some_iff.1 hk).1;omega
        refine ⟨l[k],?_,e3 k c _ hk (List.getElem?_eq_getElem hkl)⟩
        have:=q2 k l[k] (List.getElem?_eq_getElem hkl)
        rwa [add_add] at this
       obtain ⟨es,s1,s2⟩:=list_of len hel
       have hmem:∀x∈es,HasT P f e x∧x.length=P.cellsOf e:=fun x hx=>by
        obtain ⟨i,hi⟩:=List.getElem?_of_mem hx
        exact ⟨(s2 i x hi).1,(s2 i x hi).2.1⟩
       refine ⟨[.sl es],by simp only [HasT,hu];exact ⟨es,rfl,by have:=hc.2;omega,fun x hx=>⟨(hmem x hx).2,(hmem x hx).1⟩⟩,rfl,one ?_⟩
       rcases Nat.eq_zero_or_pos es.length with h0 | h0
       ·have:es=[]:=List.eq_nil_of_length_eq_zero h0
        subst this
        simp at s1
        subst s1
        exact .nil
       ·rw [←s1]
        have hcell:∀k,k<es.length*P.cellsOf e→∃u,w.cell? (a.add k)=some u:=by
         intro k hk
         obtain ⟨x,hx,_,hm,e1⟩:=flat_ix (fun x hx=>(hmem x hx).2) hk
         have hxl:=(s2 _ x hx).2.1
         obtain ⟨u,hu',_⟩:=(s2 _ x hx).2.2 (k % P.cellsOf e) _ (List.getElem?_eq_getElem (by omega))
         rw [←e1] at hu'
         exact ⟨u,hu'⟩
        have hpos:0<es.length*P.cellsOf e:=Nat.mul_pos h0 hp.2
        obtain ⟨u0,hu0⟩:=hcell 0 hpos
        refine .sl (u:=fun k=>(w.cell? (a.add k)).getD undef) h0 (fun x hx=>(hmem x hx).2) (by omega) (by have:=cell_old hu0;rwa [add_block] at this) (fun k hk=>?_) (fun j k x c hx hc'=>?_)
        ·obtain ⟨u,hu'⟩:=hcell k hk
         rw [hu'];rfl
        ·obtain ⟨u,hu',hr⟩:=(s2 j x hx).2.2 k c hc'
         show RepT w (old w) c ((w.cell? (a.add (j*P.cellsOf e+k))).getD undef)
         rw [hu'];exact hr
      ·cases h
    case struct fs=>
     simp only [Bool.and_eq_true,beq_iff_eq,List.all_eq_true] at hp
     split at h<;>first | (rename_i heq;cases heq) | skip
     all_goals first | (cases h;done) | (exfalso;rename_i hno _ _ _ _ _ _ _ _ _ _ _ _ _ _ _ _ _ _ _;exact hno fs rfl) | (exfalso;simp_all;done) | skip
     split at h
     ·rename_i hl
      obtain ⟨xs,hxs,_⟩:=Option.map_eq_some_iff.1 h
      obtain ⟨_,ts,g1,g2,g3⟩:=trod_fields (ih g) fs.toList 0 _ xs hp.1 (by omega) hp.2 hxs
      exact ⟨ts,by simp only [HasT,hu];exact g1,by omega,fun k a u ha hu'=>g3 k a u ha (by simpa using hu')⟩
     ·cases h
end
end Go.Proofs.YtnoifgjiipgpoaaGreatDoor.R

namespace Go.Proofs.YtnoifgjiipgpoaaGreatDoor.R
open Go.RowKit
section
variable {P:Program} {B:Base} {s:St}
theorem Imp.of {l:List (Nat×AV)} {σ':Nat→AObj} {n:Nat} (hm:∀p∈l,s.m p.1=p.2) (ho:∀i,σ' i= .dead∨σ' i=s.σ i) (hn:n=s.nx):Imp B s ⟨sl l,σ',n⟩:=
 (Imp.keep hm).trans (Imp.same (fun _=>.inr rfl) ho hn)
theorem K_imp {t:St} {all:Array Oper} {rest:List Oper} {k:List KI} {R:Post} (h:Imp B s t) (hk:Kp P B (.ops all rest :: k) R .normal t):Kp P B (.ops all rest :: k) R .normal s:=
 fun a w hr=>hk a w (h _ _ hr)
theorem CallQ.known {f:FuncId} {args:List AV} {σ:Nat→AObj} {nx:Nat} {S:AV→(Nat→AObj)→Nat→Prop} (hg:goodFn P f=true) (h:(∀i,σ i= .dead∨(bndO nx (σ i)=true∧i<nx))→CallQ P f args σ nx S):CallQ P f args σ nx S:=by
 refine ⟨hg,fun C w vs hs hn hl=>(h fun i=>?_).2 C w vs hs hn hl⟩
 by_cases hd:σ i= .dead
 ·exact .inl hd
 ·refine .inr ⟨?_,?_⟩
  ·rw [←hn];exact (hs.obj i).bnded
  ·rw [←hn];exact live_lt hs hd
theorem frz1_id {n q:Nat} {es:List (List T)} (hn:n≤q):∀(a:AV),bnd n a=true→frz1 q es a=a
 | .ref i,h=>by
  have:i<n:=by simpa [bnd] using h
  simp only [frz1]
  rw [if_neg (by omega)]
 | .agg cs,h=>by
  simp only [frz1]
  rw [list cs (by simpa [bnd] using h)]
 | .tup cs,h=>by
  simp only [frz1]
  rw [list cs (by simpa [bnd] using h)]
 | .t _,_=>rfl
 | .fsl _,_=>rfl
 | .rd _,_=>rfl
 | .any,_=>rfl
 | .ptr _ _,_=>rfl
 | .el _ _,_=>rfl
 | .cut _ _ _ _,_=>rfl
 | .ifc _ _,_=>rfl
 | .mapr _,_=>rfl
 | .yld _,_=>rfl
 | .fn _ _ _,_=>rfl
 where
 list:∀(cs:List AV),bnd.bndL n cs=true→frz1.frzL q es cs=cs
 |[],_=>rfl
 |c :: cs,h=>by
  simp only [bnd.bndL,Bool.and_eq_true] at h
  simp only [frz1.frzL]
  rw [frz1_id hn c h.1,list cs h.2]
theorem frzO_id {n q:Nat} {es:List (List T)} (hn:n≤q) (o:AObj) (h:bndO n o=true):frzO q es o=o:=by
 cases o with
 |box cs=>
  simp only [frzO]
  rw [frz1_id.list hn cs]
  simp only [bndO,List.all_eq_true] at h
  exact bndL_of fun k a hk=>h a (List.mem_of_getElem? hk)
 |_=>rfl
theorem spec_down {f:FuncId} {fn:Func} {c:Code} (hf:P.funcs[f]? =some fn) (hb:fn.body=some c) (hname:(fn.name== "runtime.NumGoroutine")=false) {args:List AV} {σ:Nat→AObj} {nx q:Nat} {o:AObj} {r:AV} (hn:args.length≤fn.ntmps)
  (hq:q<nx) (ho:bndO nx o=true) (hr:bnd nx r=true)
  (h:(∀i,σ i= .dead∨(bndO nx (σ i)=true∧i<nx))→∀B:Base,B.n=fn.ntmps→B.C.nx=nx→B.σ=σ→Kp P B [.code c] (fun e s=>(e= .ret∨e= .normal)∧nx≤s.nx∧s.σ q=o∧(∀i,i<nx→i≠q→s.σ i=σ i)∧∃rs,resL P s fn.results.toList=some rs∧resV rs=r) .normal ⟨slots0 args,σ,nx⟩):
  CallSpec P f args σ nx r (oput σ q o) nx:=by
 refine CallQ.spec (CallQ.known (by simp [goodFn,hf,hb,hname]) fun hk=>?_)
 refine CallSpec.q (spec_of_K hf hb hname hn fun B h1 h2 h3=>?_)
 refine fun a w hrel=>cwp_mono (h hk B h1 h2 h3 a w hrel) fun e a' w' hp=>?_
 obtain ⟨s',⟨he,g1,g2,g3,rs,g4,g5⟩,h5⟩:=hp
 have hend:Ends nx s' (resV rs) (oput σ q o) nx r:=by
  refine ⟨fun i=>?_,g1,Nat.le_refl _,.inl g5.symm,.inr hr⟩
  by_cases hi:i=q
  ·subst hi
   refine .inr ⟨by simp [oput,g2],.inr ⟨by simp [oput,ho],hq⟩⟩
  ·have e1:oput σ q o i=σ i:=by simp [oput,hi]
   rw [e1]
   rcases hk i with e | ⟨e,e2⟩
   ·exact .inl e
   ·exact .inr ⟨(g3 i e2 hi).symm,.inr ⟨e,e2⟩⟩
 refine ⟨s',?_,h5⟩
 rcases he with rfl | rfl
 ·exact ⟨rs,g4,hend⟩
 ·exact ⟨rs,g4,hend⟩
end
end Go.Proofs.YtnoifgjiipgpoaaGreatDoor.R

namespace Go.Proofs.YtnoifgjiipgpoaaGreatDoor.R
open Ieee
set_option maxRecDepth 4000
def Holds (b:Nat) (z:Int):Prop:=∃(s:Bool) (m k:Nat),double.read b= .number s m (-(k:Int))∧m=z.natAbs*2^k∧(z≠0→s=decide (z<0))
theorem log2_mul_pow {n k:Nat} (hn:n≠0):(n*2^k).log2=n.log2+k:=by
 have h1:=Nat.log2_self_le hn
 have h2:=Nat.lt_log2_self (n:=n)
 have hne:n*2^k≠0:=Nat.mul_ne_zero hn (Nat.ne_of_gt (Nat.pow_pos (by decide:0<2)))
 refine Nat.le_antisymm ?_ ?_
 ·refine Nat.le_of_lt_succ ((Nat.log2_lt hne).2 ?_)
  rw [show (n.log2+k).succ=n.log2+1+k by omega,Nat.pow_add]
  exact Nat.mul_lt_mul_of_pos_right h2 (Nat.pow_pos (by decide))
 ·refine (Nat.le_log2 hne).2 ?_
  rw [Nat.pow_add]
  exact Nat.mul_le_mul_right _ h1
theorem cut_exact (way:Toward) (neg:Bool) (n d:Nat):way.cut neg (n*2^d) d=n:=by
 rcases Nat.eq_zero_or_pos n with h0 | h0
 ·subst h0
  simp only [Toward.cut,Nat.zero_mul,Nat.zero_div,Nat.zero_mod]
  cases way<;>simp
 ·have hlog:=log2_mul_pow (n:=n) (k:=d) (by omega)
  have hmin:min d ((n*2^d).log2+2)=d:=by omega
  have hp:0<2^d:=Nat.pow_pos (by decide)
  simp only [Toward.cut,hmin,Nat.one_shiftLeft,Nat.mul_mod_left,Nat.mul_div_cancel _ hp]
  cases way
  ·have h1:¬2^d<2*0:=by omega
   have h2:¬2^d=2*0:=by omega
   simp [h1]
  ·simp
  ·simp
  ·simp
theorem read_word (s:Bool) {r:Nat} (h1:double.binade≤r) (h2:r<double.infRung):double.read (double.word s r)= .number s (double.binade+r % double.binade) (double.leastPlace+(r / double.binade-1:Nat)):=by
 have hs:r<double.signWeight:=Nat.lt_trans h2 double.infRung_lt
 have e1:double.word s r / double.signWeight % 2=s.toNat∧double.word s r % double.signWeight=r:=by
  have hp:0<double.signWeight:=by omega
  cases s
  ·simp [Format.word,Nat.div_eq_of_lt hs,Nat.mod_eq_of_lt hs]
  ·simp [Format.word,Nat.add_div_left,hp,Nat.div_eq_of_lt hs,Nat.mod_eq_of_lt hs]
 unfold Format.read
 simp only [e1.1,e1.2,if_neg (show ¬r<double.binade by omega),if_pos h2]
 cases s<;>rfl
theorem read_zero (s:Bool):double.read (double.word s 0)= .number s 0 (-(1074:Nat)):=by
 cases s<;>decide+kernel
theorem write_holds (s:Bool) (n k:Nat) (hn:n<2^53) (z:Int) (hz:z.natAbs=n) (hs:z≠0→s=decide (z<0)):Holds (double.write (.number s (n*2^k) (-(k:Int)))) z:=by
 have hb:double.binade=2^52:=rfl
 have hf:double.fractionBits=52:=rfl
 have hl:double.leastPlace= -1074:=by decide
 have hi:double.infRung=2047*2^52:=by decide
 rcases Nat.eq_zero_or_pos n with h0 | h0
 ·subst h0
  have e1:double.write (.number s (0*2^k) (-(k:Int)))=double.word s 0:=by simp [Format.write,Format.nearest]
  rw [e1]
  exact ⟨s,0,1074,read_zero s,by rw [hz];omega,hs⟩
 ·have hne:n*2^k≠0:=Nat.mul_ne_zero (by omega) (Nat.ne_of_gt (Nat.pow_pos (by decide:0<2)))
  have hlog:=log2_mul_pow (n:=n) (k:=k) (by omega)
  have hL:n.log2≤52:=by
   have:=(Nat.log2_lt (by omega:n≠0)).2 hn
   omega
  have hlo:=Nat.log2_self_le (n:=n) (by omega)
  have hhi:=Nat.lt_log2_self (n:=n)
  generalize hLL:n.log2=L at *
  have hlast:max (-(k:Int)+((L+k:Nat):Int)-((52:Nat):Int)) (-1074)=(L:Int)-52:=by omega
  have hkept:Toward.even.cut s ((n*2^k) <<< (-(k:Int)-((L:Int)-52)).toNat) (((L:Int)-52) - -(k:Int)).toNat=n*2^(52-L):=by
   by_cases hle:(L:Int)-52≤ -(k:Int)
   ·have h1:(((L:Int)-52) - -(k:Int)).toNat=0:=by omega
    rw [h1,Nat.shiftLeft_eq]
    have:=cut_exact .even s (n*2^k*2^(-(k:Int)-((L:Int)-52)).toNat) 0
    rw [Nat.pow_zero,Nat.mul_one] at this
    rw [this,Nat.mul_assoc,←Nat.pow_add]
    congr 2
    omega
   ·have h1:(-(k:Int)-((L:Int)-52)).toNat=0:=by omega
    rw [h1,Nat.shiftLeft_eq,Nat.pow_zero,Nat.mul_one]
    have h2:n*2^k=n*2^(52-L)*2^(((L:Int)-52) - -(k:Int)).toNat:=by
     rw [Nat.mul_assoc,←Nat.pow_add]
     congr 2
     omega
    rw [h2]
    exact cut_exact .even s _ _
  have e2:2^L*2^(52-L)=2^52:=by rw [←Nat.pow_add];congr 1;omega
  have g1:2^52≤n*2^(52-L):=by rw [←e2];exact Nat.mul_le_mul_right _ hlo
  have g2:n*2^(52-L)<2^53:=by
   have e3:2^(L+1)*2^(52-L)=2^53:=by rw [←Nat.pow_add];congr 1;omega
   rw [←e3]
   exact Nat.mul_lt_mul_of_pos_right hhi (Nat.pow_pos (by decide))
  have c52:2^52=4503599627370496:=by decide
  have c53:2^53=9007199254740992:=by decide
  rw [c52] at g1
  rw [c53] at g2
  generalize hM:n*2^(52-L)=M at *
  have hb':double.binade=4503599627370496:=by decide
  have hi':double.infRung=9218868437227405312:=by decide
  obtain ⟨r,hr⟩:∃r,r=(L+1022)*4503599627370496+M:=⟨_,rfl⟩
  clear c52 c53 e2 hlo hhi hb hi hn
  have r1:4503599627370496≤r:=by omega
  have r2:r<9218868437227405312:=by omega
  have r3:((L:Int)-52 - -1074).toNat=L+1022:=by omega
  have e1:double.write (.number s (n*2^k) (-(k:Int)))=double.word s r:=by
   simp only [Format.write,Format.nearest,if_neg hne,hlog,hf,hl,hlast,hkept,hb',hi',r3]
   rw [←hr,Nat.min_eq_left (Nat.le_of_lt r2)]
  have d1:4503599627370496+r % 4503599627370496=M:=by omega
  have d2:r / 4503599627370496-1=L+1022:=by omega
  have er:=read_word s (r:=r) (by rw [hb'];exact r1) (by rw [hi'];exact r2)
  rw [hb',hl,d1,d2] at er
  have e5: -1074+((L+1022:Nat):Int)= -((52-L:Nat):Int):=by omega
  rw [e5,←e1] at er
  exact ⟨s,M,52-L,er,by rw [hz,hM],hs⟩
theorem nearest_holds (z:Int) (h:z.natAbs<2^53):Holds (FloatKind.nearest .f64 z) z:=by
 have:=write_holds (decide (z<0)) z.natAbs 0 h z rfl (fun _=>rfl)
 simpa [FloatKind.nearest,FloatKind.encode,FloatKind.format] using this
theorem signed_eq {s:Bool} {z:Int} {k j:Nat} (hs:z≠0→s=decide (z<0)):signed s (z.natAbs*2^k) j=z*(2:Int)^(k+j):=by
 have hp:((2^(k+j):Nat):Int)=(2:Int)^(k+j):=by rw [Int.natCast_pow];rfl
 have e1:((z.natAbs*2^k) <<< j:Nat)=z.natAbs*2^(k+j):=by rw [Nat.shiftLeft_eq,Nat.mul_assoc,←Nat.pow_add]
 unfold signed
 rw [e1,←hp,Int.natCast_mul]
 by_cases h0:z=0
 ·subst h0;simp
 ·rw [hs h0]
  by_cases hn:z<0
  ·simp only [hn,decide_true,if_true]
   rw [←Int.neg_mul]
   congr 1
   omega
  ·simp only [hn,decide_false]
   have:(z.natAbs:Int)=z:=by omega
   rw [this];rfl
theorem sum_holds {d e:Datum} {s t:Bool} {x y:Int} {k j:Nat} (hd:d= .number s (x.natAbs*2^k) (-(k:Int))) (he:e= .number t (y.natAbs*2^j) (-(j:Int))) (hs:x≠0→s=decide (x<0)) (ht:y≠0→t=decide (y<0))
  (h:(x+y).natAbs<2^53):∃b,(d.sum e).map double.write=some b∧Holds b (x+y):=by
 subst hd he
 have hmin:min (-(k:Int)) (-(j:Int))= -((max k j:Nat):Int):=by omega
 have h1:(-(k:Int) - -((max k j:Nat):Int)).toNat=max k j-k:=by omega
 have h2:(-(j:Int) - -((max k j:Nat):Int)).toNat=max k j-j:=by omega
 have e1:signed s (x.natAbs*2^k) (max k j-k)=x*(2:Int)^(max k j):=by rw [signed_eq hs];congr 2;omega
 have e2:signed t (y.natAbs*2^j) (max k j-j)=y*(2:Int)^(max k j):=by rw [signed_eq ht];congr 2;omega
 have e3:x*(2:Int)^(max k j)+y*(2:Int)^(max k j)=(x+y)*(2:Int)^(max k j):=by rw [Int.add_mul]
 have hp:(0:Int)<(2:Int)^(max k j):=Int.pow_pos (by decide)
 have e4:((x+y)*(2:Int)^(max k j)).natAbs=(x+y).natAbs*2^(max k j):=by rw [Int.natAbs_mul,Int.natAbs_pow];rfl
 simp only [Datum.sum,hmin,h1,h2,e1,e2,e3,Option.map_some,e4]
 refine ⟨_,rfl,write_holds _ _ _ h _ rfl fun hne=>?_⟩
 have hne2:¬(x+y)*(2:Int)^(max k j)=0:=fun h0=>(Int.mul_eq_zero.1 h0).elim hne (fun h=>by omega)
 rw [if_neg hne2]
 by_cases hneg:x+y<0
 ·have:=Int.mul_neg_of_neg_of_pos hneg hp
  simp [hneg,this]
 ·have:=Int.mul_nonneg (show 0≤x+y by omega) (Int.le_of_lt hp)
  simp [hneg];omega
theorem add_holds {a b:Nat} {x y:Int} (ha:Holds a x) (hb:Holds b y) (h:(x+y).natAbs<2^53):∃r,floatBits .add .f64 a b=some r∧Holds r (x+y):=by
 obtain ⟨s,m,k,h1,rfl,h3⟩:=ha
 obtain ⟨t,n,j,g1,rfl,g3⟩:=hb
 exact sum_holds h1 g1 h3 g3 h
theorem sub_holds {a b:Nat} {x y:Int} (ha:Holds a x) (hb:Holds b y) (h:(x-y).natAbs<2^53):∃r,floatBits .sub .f64 a b=some r∧Holds r (x-y):=by
 obtain ⟨s,m,k,h1,rfl,h3⟩:=ha
 obtain ⟨t,n,j,g1,rfl,g3⟩:=hb
 have e1:(double.read b).opposite= .number (!t) ((-y).natAbs*2^j) (-(j:Int)):=by rw [g1];simp [Datum.opposite]
 have:=sum_holds (x:=x) (y:=-y) h1 e1 h3 (fun hy=>by
  have hy':y≠0:=fun h=>hy (by omega)
  rw [g3 hy']
  by_cases hn:y<0<;>simp [hn]<;>omega) (by rw [←Int.sub_eq_add_neg];exact h)
 rw [←Int.sub_eq_add_neg] at this
 exact this
theorem mul_holds {a b:Nat} {x y:Int} (ha:Holds a x) (hb:Holds b y) (h:(x*y).natAbs<2^53):∃r,floatBits .mul .f64 a b=some r∧Holds r (x*y):=by
 obtain ⟨s,m,k,h1,rfl,h3⟩:=ha
 obtain ⟨t,n,j,g1,rfl,g3⟩:=hb
 have e1:x.natAbs*2^k*(y.natAbs*2^j)=(x*y).natAbs*2^(k+j):=by rw [Int.natAbs_mul,Nat.pow_add];ac_rfl
 have e2: -(k:Int)+ -(j:Int)= -((k+j:Nat):Int):=by omega
 refine ⟨double.write (.number (s^^t) ((x*y).natAbs*2^(k+j)) (-((k+j:Nat):Int))),?_,write_holds _ _ _ h _ rfl fun hne=>?_⟩
 ·show ((double.read a).product (double.read b)).map double.write=_
  rw [h1,g1]
  simp only [Datum.product,Option.map_some,e1,e2]
 ·have hx:x≠0:=fun h0=>hne (by rw [h0,Int.zero_mul])
  have hy:y≠0:=fun h0=>hne (by rw [h0,Int.mul_zero])
  rw [h3 hx,g3 hy]
  by_cases hx1:x<0<;>by_cases hy1:y<0
  ·have:=Int.mul_pos_of_neg_of_neg hx1 hy1
   simp [hx1,hy1];omega
  ·have:=Int.mul_neg_of_neg_of_pos hx1 (show 0<y by omega)
   simp [hx1,hy1,this]
  ·have:=Int.mul_neg_of_pos_of_neg (show 0<x by omega) hy1
   simp [hx1,hy1,this]
  ·have:=Int.mul_pos (show 0<x by omega) (show 0<y by omega)
   simp [hx1,hy1];omega
theorem neg_holds {a:Nat} {x:Int} (ha:Holds a x):Holds (Op.negFloat .f64 a) (-x):=by
 obtain ⟨s,m,k,h1,h2,h3⟩:=ha
 have e0:double.read (Op.negFloat .f64 a)=(double.read a).opposite:=by
  have hsw:double.signWeight=2^63:=rfl
  have e1:Op.negFloat .f64 a=a ^^^ 2^63:=rfl
  have e2:(a ^^^ 2^63) % 2^63=a % 2^63:=by rw [Nat.xor_mod_two_pow,Nat.mod_self,Nat.xor_zero]
  have e3:(a ^^^ 2^63) / 2^63 % 2=1-a / 2^63 % 2:=by
   rw [Nat.xor_div_two_pow,Nat.div_self (Nat.pow_pos (by decide))]
   have:=Nat.xor_mod_two_pow (a:=a / 2^63) (b:=1) (n:=1)
   rw [Nat.pow_one] at this
   rw [this]
   rcases Nat.mod_two_eq_zero_or_one (a / 2^63) with h | h<;>rw [h]<;>rfl
  have e4:((1-a / 2^63 % 2)==1)= !((a / 2^63 % 2)==1):=by
   rcases Nat.mod_two_eq_zero_or_one (a / 2^63) with h | h<;>rw [h]<;>rfl
  rw [e1]
  unfold Format.read
  rw [hsw]
  simp only [e2,e3,e4]
  split
  ·rfl
  ·split
   ·rfl
   ·split<;>rfl
 refine ⟨!s,m,k,by rw [e0,h1];rfl,by rw [h2,Int.natAbs_neg],fun hne=>?_⟩
 have hx:x≠0:=fun h=>hne (by omega)
 rw [h3 hx]
 by_cases hn:x<0<;>simp [hn]<;>omega
theorem toInt_holds {a:Nat} {x:Int} (ha:Holds a x) (h: -9223372036854775808≤x∧x≤9223372036854775807):floatToIntVal .f64 a .i64=some x:=by
 obtain ⟨s,m,k,h1,rfl,h3⟩:=ha
 have e1:FloatKind.decode .f64 a= .number s (x.natAbs*2^k) (-(k:Int)):=h1
 have e2:(-(k:Int)).toNat=0:=by omega
 have e3:(-(-(k:Int))).toNat=k:=by omega
 have e4:(Datum.number s (x.natAbs*2^k) (-(k:Int))).toInt .zero=some x:=by
  simp only [Datum.toInt,Datum.integral,e2,e3,Nat.shiftLeft_eq,Nat.pow_zero,Nat.mul_one,cut_exact]
  have:=signed_eq (s:=s) (z:=x) (k:=0) (j:=0) h3
  rw [Nat.pow_zero,Nat.mul_one] at this
  rw [this]
  simp
 have hmin:IntKind.i64.min= -9223372036854775808:=by decide
 have hmax:IntKind.i64.max=9223372036854775807:=by decide
 unfold floatToIntVal
 rw [e1,e4]
 simp only [hmin,hmax,if_pos h]
theorem far_holds {a b c d:Nat} {x y u v:Int} (ha:Holds a x) (hb:Holds b y) (hc:Holds c u) (hd:Holds d v) (hx:0≤x∧x≤10000) (hy:0≤y∧y≤10000) (hu:0≤u∧u≤10000) (hv:0≤v∧v≤10000):
  ∃re im re2 im2,cSumBits .sub .f64 a b c d=some (re,im)∧cMulBits re im re (Op.negFloat .f64 im)=some (re2,im2)∧Holds re2 ((x-u)*(x-u)+(y-v)*(y-v)):=by
 obtain ⟨re,e1,g1⟩:=sub_holds ha hc (by omega)
 obtain ⟨im,e2,g2⟩:=sub_holds hb hd (by omega)
 have hp: -10000≤x-u∧x-u≤10000:=by omega
 have hq: -10000≤y-v∧y-v≤10000:=by omega
 generalize x-u=p at *
 generalize y-v=q at *
 have bd:∀m n:Int,-10000≤m∧m≤10000→ -10000≤n∧n≤10000→(m*n).natAbs≤100000000:=fun m n h1 h2=>by
  rw [Int.natAbs_mul]
  exact Nat.mul_le_mul (show m.natAbs≤10000 by omega) (show n.natAbs≤10000 by omega)
 have g3:=neg_holds g2
 have b1:=bd p p hp hp
 have b2:=bd q (-q) hq (by omega)
 have b3:=bd p (-q) hp (by omega)
 have b4:=bd q p hq hp
 obtain ⟨m1,e3,k1⟩:=mul_holds g1 g1 (by omega)
 obtain ⟨m2,e4,k2⟩:=mul_holds g2 g3 (by omega)
 obtain ⟨m3,e5,k3⟩:=sub_holds k1 k2 (by omega)
 obtain ⟨m4,e6,k4⟩:=mul_holds g1 g3 (by omega)
 obtain ⟨m5,e7,k5⟩:=mul_holds g2 g1 (by omega)
 obtain ⟨m6,e8,k6⟩:=add_holds k4 k5 (by omega)
 refine ⟨re,im,m3,m6,?_,?_,?_⟩
 ·simp only [cSumBits,e1,e2,Option.bind_some]
 ·simp only [cMulBits,e3,e4,e5,e6,e7,e8,Option.bind_some]
 ·have:p*p-q* -q=p*p+q*q:=by rw [Int.mul_neg];omega
  rw [←this]
  exact k3
end Go.Proofs.YtnoifgjiipgpoaaGreatDoor.R
