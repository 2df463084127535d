/- Parts of the proof: Pot, Look, Best, Law15, NarrowP, Deep, WideP, WideQ, WideT, SearchP, SearchQ, SearchR, SearchG, Opts, OptP, C1, C2, C3, C4, C5, C8, C17, C19, C24, Chk, Pf, PfW, PfL, PfH, PfP, PfS, PfT, Chk2, Heap, HeapP. -/
import Derived.Test.YtnoifgjiipgpoaaGreatDoorMG
set_option linter.all false
set_option maxHeartbeats 4000000
set_option maxRecDepth 4000
namespace Go.Proofs.YtnoifgjiipgpoaaGreatDoor
open Go Go.Proofs.YtnoifgjiipgpoaaGreatDoor.R
def sumTo (f:Nat→Nat):Nat→Nat
 |0=>0
 |n+1=>sumTo f n+f n
def okJ (p M:Nat) (yard:Bool) (j:Nat):Bool:=
 if j=0 then !yard&&(List.range p).all fun k=>!M.testBit k||M.testBit (k+p)
 else if j≤p then !M.testBit (j-1) else !yard&& !M.testBit (j-1)&&M.testBit (j-1-p)
def pot (p:Nat):Nat→Nat→Bool→Nat
 |0,_,_=>1
 |d+1,M,yard=>max 1 (sumTo (fun j=>if okJ p M yard j=true then pot p d (if j=0 then M else M|||2^(j-1)) (decide (j=0)) else 0) (2*p+1))
theorem pot_pos (p:Nat):∀(d M:Nat) (yard:Bool),1≤pot p d M yard
 |0,_,_=>Nat.le_refl _
 |d+1,_,_=>Nat.le_max_left _ _
theorem pot_root:∀p<4,∀d<15,pot p d 0 true≤132:=by decide+kernel
def keyM (s:State):Nat:=s.must / 2 % 64
theorem keyM_bit (s:State) {k:Nat} (hk:k<6):(keyM s).testBit k=s.must.testBit (k+1):=by
 rw [keyM,show (64:Nat)=2^6 from rfl,Nat.testBit_mod_two_pow,Nat.testBit_succ]
 simp [hk]
def State.yard (s:State):Bool:=decide (s.spot=0)
def potS (p d:Nat) (s:State):Nat:=pot p d (keyM s) s.yard
def potL (p d:Nat):List Node→Nat
 |[]=>0
 |n :: l=>potS p d n.s+potL p d l
theorem potL_app (p d:Nat):∀(l m:List Node),potL p d (l++m)=potL p d l+potL p d m
 |[],m=>by simp [potL]
 |n :: l,m=>by rw [List.cons_append,potL,potL,potL_app p d l m];omega
theorem potL_len (p d:Nat):∀(l:List Node),l.length≤potL p d l
 |[]=>Nat.zero_le _
 |n :: l=>by
  have:=potL_len p d l
  have:=pot_pos p d (keyM n.s) n.s.yard
  rw [List.length_cons,potL,potS]
  omega
theorem potL_filter (p d:Nat) (f:Node→Bool):∀(l:List Node),potL p d (l.filter f)≤potL p d l
 |[]=>Nat.le_refl _
 |n :: l=>by
  have:=potL_filter p d f l
  rw [List.filter_cons]
  split<;>simp only [potL]<;>omega
theorem potL_set (p d:Nat) {n:Node}:∀(l:List Node) (i:Nat) (h:i<l.length),l[i].s=n.s→potL p d (l.set i n)=potL p d l
 |m :: l,0,h,e=>by
  simp only [List.getElem_cons_zero] at e
  simp only [List.set_cons_zero,potL,e]
 |m :: l,i+1,h,e=>by
  simp only [List.getElem_cons_succ] at e
  rw [List.set_cons_succ,potL,potL,potL_set p d l i (by simpa using h) e]
theorem potL_once1 (p d:Nat) (out:List Node) (n:Node):potL p d (once1 out n)≤potL p d out+potS p d n.s:=by
 unfold once1
 split
 ·rw [potL_app];simp only [potL];omega
 ·rename_i i e
  obtain ⟨h1,h2⟩:=sIdx_some e
  split
  ·rw [potL_set p d out i h1 h2];omega
  ·omega
theorem potL_once (p d:Nat):∀(l out:List Node),potL p d (l.foldl once1 out)≤potL p d out+potL p d l
 |[],out=>Nat.le_refl _
 |n :: l,out=>by
  have:=potL_once p d l (once1 out n)
  have:=potL_once1 p d out n
  rw [List.foldl_cons,potL]
  omega
theorem move_key {x:Inst} {p:Nat} {s:State} (hx:x.Fit p) (hp3:p≤3) (hg:Good x p s) {k:Nat} (h:(x.move s k).2.2=true):
  okJ p (keyM s) s.yard k=true∧potS p 0 (x.move s k).1=1∧keyM (x.move s k).1=(if k=0 then keyM s else keyM s|||2^(k-1))∧(x.move s k).1.yard=decide (k=0):=by
 have hp:=hx.pairs
 by_cases hk:k=0
 ·subst hk
  obtain ⟨h1,h2,h3,h4⟩:=move_home h
  simp only [Inst.stayB,Bool.or_eq_false_iff,decide_eq_false_iff_not] at h3
  have e0:(((0:Nat):Int))=0:=rfl
  rw [e0,h4]
  refine ⟨?_,rfl,rfl,rfl⟩
  rw [okJ,if_pos rfl,State.yard,Bool.and_eq_true,List.all_eq_true]
  refine ⟨by simp [h3.1.1.1.1],fun i hi=>?_⟩
  have hi:=List.mem_range.1 hi
  have hon:=hg.on (i+1) (by omega) (by omega)
  have:s.on=0:=by omega
  rw [this,Nat.zero_testBit] at hon
  rw [keyM_bit s (by omega),keyM_bit s (by omega),show i+p+1=i+1+p by omega]
  revert hon
  cases s.must.testBit (i+1)<;>cases s.must.testBit (i+1+p)<;>simp
 ·obtain ⟨h1,h2,h3,h4,h5,h6,h7,h8⟩:=move_pos h (by omega)
  simp only [Inst.lateB,Bool.or_eq_false_iff] at h5
  have h50:=h5.1
  rw [has_testN (by omega)] at h50
  rw [h8]
  refine ⟨?_,rfl,?_,by simp only [State.yard,Inst.rvisit];rw [Bool.eq_iff_iff];simp⟩
  ·rw [okJ,if_neg hk]
   have e1:(keyM s).testBit (k-1)=s.must.testBit k:=by rw [keyM_bit s (by omega),show k-1+1=k by omega]
   split
   ·rw [e1,h50];rfl
   ·have h9:=h7 (by omega)
    simp only [Inst.emptyB,Bool.or_eq_false_iff,Bool.not_eq_false',decide_eq_false_iff_not] at h9
    have e2:(k:Int)-x.pairs=((k-p:Nat):Int):=by omega
    have h10:=h9.2
    rw [e2,has_testN (by omega),hg.eq] at h10
    have e3:(keyM s).testBit (k-1-p)=s.must.testBit (k-p):=by rw [keyM_bit s (by omega),show k-1-p+1=k-p by omega]
    rw [e1,h50,e3,h10,State.yard]
    simp [h9.1]
  ·rw [if_neg hk]
   refine Nat.eq_of_testBit_eq fun i=>?_
   rw [Nat.testBit_or,Nat.testBit_two_pow]
   by_cases hi:i<6
   ·rw [keyM_bit _ hi,keyM_bit s hi]
    show (withN s.must k).testBit (i+1)=_
    rw [with_bit (by omega)]
    have:decide (k=i+1)=decide (k-1=i):=by rw [Bool.eq_iff_iff];simp;omega
    rw [this]
   ·have e:∀t:State,(keyM t).testBit i=false:=fun t=>by
     rw [keyM,show (64:Nat)=2^6 from rfl,Nat.testBit_mod_two_pow]
     simp [hi]
    rw [e,e]
    have:¬k-1=i:=by omega
    simp [this]
theorem potL_canB (x:Inst) (p d:Nat) (n:Node) (f:Nat→Bool) (g:Nat→Nat):∀(N:Nat),(∀k<N,f k=true→potS p d (x.child n k).s≤g k)→potL p d ((canB f N).map (x.child n))≤sumTo g N
 |0,_=>Nat.le_refl _
 |N+1,h=>by
  have ih:=potL_canB x p d n f g N fun k hk=>h k (by omega)
  rw [canB,List.map_append,potL_app,sumTo]
  by_cases hf:f N=true
  ·have:=h N (by omega) hf
   rw [if_pos hf]
   simp only [List.map_cons,List.map_nil,potL]
   omega
  ·rw [if_neg hf]
   simp only [List.map_nil,potL]
   omega
theorem pot_kids {x:Inst} {p:Nat} (hx:x.Fit p) (hp3:p≤3) (d:Nat) (up:Int) (n:Node) (hg:Good x p n.s):potL p d (x.kids up n)≤potS p (d+1) n.s:=by
 refine Nat.le_trans (potL_filter p d _ _) ?_
 rw [moves_can]
 refine Nat.le_trans (potL_canB x p d n _ (fun j=>if okJ p (keyM n.s) n.s.yard j=true then pot p d (if j=0 then keyM n.s else keyM n.s|||2^(j-1)) (decide (j=0)) else 0) _ ?_) ?_
 ·intro k hk hf
  obtain ⟨h1,_,h2,h3⟩:=move_key hx hp3 hg hf
  show potS p d (x.move n.s k).1≤_
  rw [if_pos h1,potS,h2,h3]
  exact Nat.le_refl _
 ·rw [hx.len]
  exact Nat.le_max_right _ _
theorem pot_flat {x:Inst} {p:Nat} (hx:x.Fit p) (hp3:p≤3) (d:Nat) (up:Int):∀(l:List Node),(∀n∈l,Good x p n.s)→potL p d (l.flatMap (x.kids up))≤potL p (d+1) l
 |[],_=>Nat.le_refl _
 |n :: l,h=>by
  have h1:=pot_kids hx hp3 d up n (h n List.mem_cons_self)
  have h2:=pot_flat hx hp3 d up l fun m hm=>h m (List.mem_cons_of_mem _ hm)
  rw [List.flatMap_cons,potL_app,potL]
  omega
theorem meas_root {x:Inst} {p:Nat} (hx:x.Fit p) (hm:x.may=true):x.meas x.rootS≤2*p+7:=by
 have hp:=hx.pairs
 have hc:=hx.cars
 unfold Inst.meas
 split
 ·rw [Inst.rootS,if_pos hm]
  have h6:((List.range (2*x.pairs.toNat+1)).filter fun j:Nat=>decide (1≤j)&& !hasB ({State.zero with car:=1,time:=(x.stop 0).ready}:State).must (j:Int)).length<((List.range (2*x.pairs.toNat+1)).filter fun _=>true).length:=
   filter_lt _ (a:=0) (List.mem_range.2 (by omega)) rfl (by simp) (fun _ _=>rfl)
  rw [List.filter_eq_self.2 (fun _ _=>rfl),List.length_range] at h6
  refine Nat.le_trans (Nat.add_le_add (Nat.le_of_lt_succ h6) (Nat.le_refl _)) ?_
  show 2*x.pairs.toNat+(x.cars-1).toNat≤2*p+7
  omega
 ·omega
end Go.Proofs.YtnoifgjiipgpoaaGreatDoor

set_option maxRecDepth 4000
namespace Go.Proofs.YtnoifgjiipgpoaaGreatDoor
open Go Go.Proofs.YtnoifgjiipgpoaaGreatDoor.R
def sCells (st:Node×Bool×Int) (n:Int):List AV:=[.i st.1.s.spot,.i st.1.s.car,.i st.1.s.time,.i st.1.s.load,.i st.1.s.first,.u st.1.s.must,.u st.1.s.can,.u st.1.s.on,.i st.1.cost,.t (.sl (ints st.1.path)),.b st.2.1,.i st.2.2,.i n]
theorem look_spec (x:Inst) (l:List Node) (st:Node×Bool×Int) (n:Int) {σ:Nat→AObj} {nx b:Nat} (hb:b<nx) (hσb:σ b= .box (sCells st n)) (hl:x.stops.length<2^31) (hll:l.length<2^20) (hn:∀n∈l,n.Fine) (hn2:∀n∈l,n.path.length<2^30):
  CallSpec P 141 [.ptr b 0,x.a,.t (.sl (nodesT l))] σ nx (.t (.sl (nodesT (frontL (x.next l st.2.2))))) (oput σ b (.box (sCells (x.look st l) (IntKind.i64.wrap (n+l.length))))) nx:=by
 have hlk:x.look st l=if (x.bests l).2=true∧(x.bests l).1.cost<st.2.2 then ((x.bests l).1,true,(x.bests l).1.cost) else st:=rfl
 refine spec_down Tryz.func141 rfl rfl (by simp [Tryz.f141]) hb (by simp [bndO,bnd,bnd.bndL,sCells]) (by simp [bnd]) fun hk B hB hnx hσ=>?_
 simp only [Tryz.f141] at hB ⊢
 have hne:¬b=nx:=by omega
 have hil:(nodesT l).length=l.length:=List.length_map _
 have hx:=expand_pure x l st.2.2 hl hll hn hn2
 have q1:=next_len x l st.2.2
 have q2:∀m∈x.next l st.2.2,m.path.length<2^31:=by
  intro m hm
  obtain ⟨n,h,j,_,rfl,_⟩:=next_mem hm
  have:=hn2 n h
  show (n.path++[j]).length<2^31
  rw [List.length_append]
  simp only [List.length_cons,List.length_nil]
  omega
 have hf:=front_pure (x.next l st.2.2) (by omega) q2
 generalize x.look st l=st' at *
 generalize x.next l st.2.2=M at *
 generalize x.bests l=Rb at *
 generalize frontL M=R at *
 refine K_run hB 100 ?_
 simp [go_sem,Inst.a,hσb,sCells,hne,hil]
 have hne2:¬nx=b:=by omega
 have hne3:¬b=nx+1:=by omega
 have hne4:¬nx+1=b:=by omega
 refine K_drawnF [11,13] [0,1,2,3,4,5,6,7,8,9,10] rfl (by rw [hB];kernel_rfl) (by kernel_rfl) fun ht hf'=>?_
 refine K_run hB 100 ?_
 simp [go_sem,ht,hf',hne,hne2,hσb,sCells]
 refine K_dCallP rfl rfl rfl (args:=[x.a,.t (.sl (nodesT l)),.i st.2.2]) (f:=138) (by simp [go_sem,Inst.a]) (hx) ?_
 refine K_run hB 100 ?_
 simp [go_sem,ht,hf',expRes,Node.a,Node.cs,hne,hne2,hne3,hne4,hσb,sCells]
 obtain ⟨B1,is⟩:=Rb
 simp only at hlk
 cases is with
 |false=>
  rw [if_neg (by simp)] at hlk
  subst hlk
  refine K_drawn [] rfl (by rw [hB];kernel_rfl) ?_
  refine K_run hB 100 ?_
  simp [go_sem]
  refine K_call rfl rfl rfl (args:=[.t (.sl (nodesT M))]) (f:=194) (by simp [go_sem]) (by simp [go_sem,hB]) ((hf).spec _ _) ?_
  refine K_run hB 100 ?_
  simp [go_sem]
  exact ⟨by omega,by simp [hne3,hne,hne4],fun i h1 h2=>by simp [h2,show ¬i=nx+1 by omega,show ¬i=nx by omega]⟩
 |true=>
  by_cases c1:B1.cost<st.2.2
  ·rw [if_pos ⟨rfl,c1⟩] at hlk
   subst hlk
   refine K_drawn [] rfl (by rw [hB];kernel_rfl) ?_
   refine K_run hB 100 ?_
   simp [go_sem,hne,hne2,hne3,hne4,c1]
   refine K_drawnF [8,11,14] [1,2,4,5] rfl (by rw [hB];kernel_rfl) (by kernel_rfl) fun ht hf'=>?_
   refine K_run hB 100 ?_
   simp [go_sem,ht,hf',hne,hne2,hne3,hne4]
   refine K_call rfl rfl rfl (args:=[.t (.sl (nodesT M))]) (f:=194) (by simp [go_sem]) (by simp [go_sem,hB]) ((hf).spec _ _) ?_
   refine K_run hB 100 ?_
   simp [go_sem]
   exact ⟨by omega,fun i h1 h2=>by simp [h2,show ¬i=nx+1 by omega,show ¬i=nx by omega]⟩
  ·rw [if_neg (fun h=>c1 h.2)] at hlk
   subst hlk
   refine K_drawn [] rfl (by rw [hB];kernel_rfl) ?_
   refine K_run hB 100 ?_
   simp [go_sem,hne,hne2,hne3,hne4,c1]
   refine K_call rfl rfl rfl (args:=[.t (.sl (nodesT M))]) (f:=194) (by simp [go_sem]) (by simp [go_sem,hB]) ((hf).spec _ _) ?_
   refine K_run hB 100 ?_
   simp [go_sem]
   exact ⟨by omega,by simp [hne3,hne,hne4],fun i h1 h2=>by simp [h2,show ¬i=nx+1 by omega,show ¬i=nx by omega]⟩
end Go.Proofs.YtnoifgjiipgpoaaGreatDoor

set_option maxRecDepth 4000
namespace Go.Proofs.YtnoifgjiipgpoaaGreatDoor
open Go Go.Proofs.YtnoifgjiipgpoaaGreatDoor.R
theorem best_pure (x:Inst) (n:Node) (up most:Int) (hl:x.stops.length<2^31) (hm:most<2^20) (ho:n.s.ok) (hp:n.path.length<2^29):Pure P 91 [x.a,n.a,.i up,.i most] (exRes4 (x.exact n up most)):=by
 generalize hR:x.exact n up most=R
 refine pure_of Tryz.func91 rfl rfl (by simp [Tryz.f91]) (by simp [bnd,bnd.bndL,Inst.a,Node.a,Node.cs]) (by simp [bnd,bnd.bndL,exRes4,Node.a,Node.cs]) fun B hB hnx=>?_
 simp only [Tryz.f91] at hB ⊢
 have hlev:=Level.root x n ho
 have hmeas:=meas_le x n.s
 rw [Inst.exact] at hR
 generalize hd:x.meas n.s+1=d0 at *
 generalize hK:n.path.length+x.meas n.s+1=K at *
 refine K_run hB 100 ?_
 simp [go_sem,Inst.a,Node.a,Node.cs]
 refine K_scopeN (α:=Nat×(Node×Bool×Int)×List Node×Int×(Nat→AObj)×Nat) 0 (fun (d,st,l,n,σ,nx)=>Level x l d K∧x.exGo most d st l n=R∧σ 0= .box x.cs∧σ 2= .box Node.zero.cs∧σ 3= .box (sCells st n)∧3<nx)
  (fun (d,st,l,n,σ,nx)=>⟨sl [(3,.i most),(4,.ptr 0 0),(8,.ptr 2 0),(12,.ptr 3 0),(13,.t (.sl (nodesT l)))],σ,nx⟩) (fun a=>a.1) rfl ?_ ?_
 ·rintro ⟨d,st,l,n,σ,nx⟩ ⟨g1,g2,g3,g4,g5,g6⟩
  have hil:(nodesT l).length=l.length:=List.length_map _
  have hgo:x.exGo most d st l n=match d with
   |0=>(st.1,st.2.1,true,n)
   |d+1=>if l.length=0 then (st.1,st.2.1,true,n) else if most<l.length then (st.1,st.2.1,false,n) else x.exGo most d (x.look st l) (frontL (x.next l st.2.2)) (IntKind.i64.wrap (n+l.length)):=by cases d<;>rfl
  by_cases c1:l.length=0
  ·have hr:R=(st.1,st.2.1,true,n):=by
    rw [←g2,hgo]
    cases d with
    |zero=>rfl
    |succ d=>simp only;rw [if_pos c1]
   subst hr
   by_cases c2:(0:Int)≤most
   ·refine K_run hB 100 ?_
    simp [go_sem,hil,c1,c2]
    refine K_drawnF [13] [4,5,6,7,8,9,10,11,12] rfl (by rw [hB];kernel_rfl) (by kernel_rfl) fun ht hf'=>?_
    refine K_run hB 100 ?_
    simp [go_sem,ht,hf',g4,g5,sCells,Node.cs]
    rfl
   ·refine K_run hB 100 ?_
    simp [go_sem,hil,c1,c2]
    refine K_drawnF [13] [4,5,6,7,8,9,10,11,12] rfl (by rw [hB];kernel_rfl) (by kernel_rfl) fun ht hf'=>?_
    refine K_run hB 100 ?_
    simp [go_sem,ht,hf',g4,g5,sCells,Node.cs]
    rfl
  cases d with
  |zero=>exact absurd (by rw [g1.empty];rfl) c1
  |succ d=>
   simp only at hgo
   rw [if_neg c1] at hgo
   by_cases c2:most<l.length
   ·rw [if_pos c2] at hgo
    rw [hgo] at g2
    subst g2
    have c3:¬(l.length:Int)≤most:=by omega
    have c4:¬(l.length:Int)=0:=by omega
    refine K_run hB 100 ?_
    simp [go_sem,hil,c1,c3,c4]
    refine K_drawnF [13] [4,5,6,7,8,9,10,11,12] rfl (by rw [hB];kernel_rfl) (by kernel_rfl) fun ht hf'=>?_
    refine K_run hB 100 ?_
    simp [go_sem,ht,hf',g4,g5,sCells,Node.cs]
    rfl
   ·rw [if_neg c2] at hgo
    rw [hgo] at g2
    have c3:(l.length:Int)≤most:=by omega
    have c4:0<l.length:=by omega
    have hlk:=look_spec x l st n (σ:=σ) (nx:=nx) (b:=3) g6 g5 hl (by omega) (fun m h=>⟨g1.ok m h,by have:=g1.path m h;omega⟩) (fun m h=>by have:=g1.path m h;omega)
    refine K_run hB 100 ?_
    simp [go_sem,hil,c1,c3,c4,g3,Inst.cs]
    refine K_call rfl rfl rfl (args:=[.ptr 3 0,x.a,.t (.sl (nodesT l))]) (f:=141) (by simp [go_sem,Inst.a]) (by simp [go_sem,hB]) hlk ?_
    refine K_run hB 100 ?_
    simp [go_sem]
    refine Next.mk (d,x.look st l,frontL (x.next l st.2.2),IntKind.i64.wrap (n+l.length),_,nx) ?_ (Imp.slots (by simp [go_sem]) rfl rfl) (by simp only;omega)
    exact ⟨g1.next st.2.2,g2,by simp [oput,g3,Inst.cs],by simp [oput,g4],by simp [oput],g6⟩
 ·intro J hJ
  refine K_run hB 14 ?_
  simp [go_sem,Node.cs]
  refine hJ (d0,(Node.zero,false,up),[n],0,_,_) _ ?_ ((Imp.looseB (b:=2) (cs:=[.i 0,.i 0,.i 0,.i 0,.i 0,.u 0,.u 0,.u 0,.i 0,.fsl []]) (by simp [oput])).trans ((Imp.looseB (b:=3) (cs:=[.i 0,.i 0,.i 0,.i 0,.i 0,.u 0,.u 0,.u 0,.i 0,.fsl [],.b false,.i up,.i 0]) (by simp [oput])).trans (Imp.loose.trans (Imp.slots (by simp [go_sem,loosen,nodesT,Node.t]) rfl rfl))))
  exact ⟨hlev,hR,by simp [oput,Inst.cs],by simp [oput,Node.zero,State.zero,Node.cs,ints,loosen],by simp [oput,sCells,Node.zero,State.zero,ints,loosen],by simp only;omega⟩
end Go.Proofs.YtnoifgjiipgpoaaGreatDoor

set_option maxRecDepth 4000
namespace Go.Proofs.YtnoifgjiipgpoaaGreatDoor
open Go Go.Proofs.YtnoifgjiipgpoaaGreatDoor.R
def Inst.rootN (x:Inst):Node:=⟨x.rootS,0,[]⟩
end Go.Proofs.YtnoifgjiipgpoaaGreatDoor

set_option maxRecDepth 4000
namespace Go.Proofs.YtnoifgjiipgpoaaGreatDoor
open Go Go.Proofs.YtnoifgjiipgpoaaGreatDoor.R
theorem naGo_path (x:Inst) (W:Nat) (k:Nat):∀(d:Nat) (st:Node×Bool×Int) (l:List Node) (n:Int) {K:Nat},Level x l d K→K≤k→st.1.path.length≤k→(x.naGo W d st l n).1.path.length≤k
 |0,st,l,n,K,_,_,h=>h
 |d+1,st,l,n,K,h1,h2,h3=>by
  rw [Inst.naGo]
  split
  ·exact h3
  ·refine naGo_path x W k d _ _ _ (h1.few W st.2.2) h2 ?_
   unfold Inst.look
   split
   ·exact bests_path fun m hm=>by have:=h1.path m hm;omega
   ·exact h3
theorem narrow_path (x:Inst) (n:Node) (w up:Int) (ho:n.s.ok):(x.narrow n w up).1.path.length≤n.path.length+41:=by
 have:=meas_le x n.s
 have h:=naGo_path x (widthN w) (n.path.length+x.meas n.s+1) _ (Node.zero,false,up) _ 0 (Level.root x n ho) (Nat.le_refl _) (Nat.zero_le _)
 have:(x.narrow n w up).1.path.length≤n.path.length+x.meas n.s+1:=h
 omega
theorem Lev.few {x:Inst} {l:List Node} {d:Nat} (h:Lev x l (d+1)) (W:Nat) (up:Int):Lev x (x.few W l up) d:=(h.next up).sub fun n hn=>few_mem hn
theorem naGo_from {x:Inst} (W:Nat):∀(d:Nat) (st:Node×Bool×Int) (l:List Node) (n:Int),Lev x l d→stOk st→
  ((x.naGo W d st l n).2.1=st.2.1∧(x.naGo W d st l n).1=st.1)∨
  ((x.naGo W d st l n).2.1=true∧∃m∈l,∃(w:List Int) (c:Int),x.way w m.s c∧(x.naGo W d st l n).1.cost=m.cost+c∧(x.naGo W d st l n).1.path=m.path++w∧m.cost+c<st.2.2)
 |0,st,l,n,_,_=>.inl ⟨rfl,rfl⟩
 |d+1,st,l,n,hl,h=>by
  rw [Inst.naGo]
  split
  ·exact .inl ⟨rfl,rfl⟩
  obtain ⟨k1,k2,k3⟩:=look_ok (x:=x) (l:=l) h
  rcases naGo_from W d (x.look st l) (x.few W l st.2.2) (IntKind.i64.wrap (n+l.length)) (hl.few W st.2.2) k1 with ⟨i1,i2⟩ | ⟨i1,m,hm,w,c,i2,i3,i4,i5⟩
  ·by_cases hh:(x.bests l).2=true∧(x.bests l).1.cost<st.2.2
   ·have hlk:x.look st l=((x.bests l).1,true,(x.bests l).1.cost):=by rw [Inst.look,if_pos hh]
    rw [i1,i2,hlk]
    obtain ⟨m,hm,b1,b2,b3⟩:=bests_from hh.1
    rw [end_sum hl hm b1] at b2
    exact .inr ⟨rfl,m,hm,[],_,⟨b1,rfl⟩,b2,by rw [List.append_nil];exact b3,by omega⟩
   ·have hlk:x.look st l=st:=by rw [Inst.look,if_neg hh]
    rw [i1,i2,hlk]
    exact .inl ⟨rfl,rfl⟩
  ·obtain ⟨q,hq,j,hj,rfl,_⟩:=next_mem (few_mem hm)
   have hj:=moves_mem hj
   have hcc:=child_cost hl hq hj
   refine .inr ⟨i1,q,hq,j :: w,(x.move q.s j).2.1+c,⟨hj,c,i2,rfl⟩,?_,?_,?_⟩
   ·rw [i3,hcc];omega
   ·rw [i4]
    show (q.path++[j])++w=_
    rw [List.append_assoc];rfl
   ·rw [hcc] at i5;omega
theorem narrow_from {x:Inst} {n:Node} {up wi:Int} (h1:n.s.ok) (h2:n.s.Pos) (h3:n.s.seenAt) (h4:0≤n.cost∧n.cost≤1152921504606000000) (hs:(x.narrow n wi up).2.1=true):
  ∃(w:List Int) (c:Int),x.way w n.s c∧(x.narrow n wi up).1.cost=n.cost+c∧(x.narrow n wi up).1.path=n.path++w∧n.cost+c<up:=by
 rcases naGo_from (x:=x) (widthN wi) _ (Node.zero,false,up) _ 0 (Lev.root h1 h2 h3 h4) (fun h=>by cases h) with ⟨i1,_⟩ | ⟨_,m,hm,w,c,i2⟩
 ·rw [Inst.narrow,i1] at hs;cases hs
 ·rw [List.mem_singleton.1 hm] at i2
  exact ⟨w,c,i2⟩
theorem naGo_steps (x:Inst) (W:Nat) (hW:W≤3000):∀(d:Nat) (st:Node×Bool×Int) (l:List Node) (n:Int),l.length≤W→0≤n→n+3000*d<9223372036854775808→n≤(x.naGo W d st l n).2.2∧(x.naGo W d st l n).2.2≤n+W*d
 |0,st,l,n,_,_,_=>by rw [Inst.naGo];simp
 |d+1,st,l,n,hl,h0,hn=>by
  rw [Inst.naGo]
  have e:(W:Int)*((d+1:Nat):Int)=W*d+W:=by rw [Int.natCast_add,Int.mul_add];simp
  have e2:(0:Int)≤(W:Int)*d:=Int.mul_nonneg (by omega) (by omega)
  split
  ·refine ⟨Int.le_refl _,?_⟩
   simp only
   omega
  ·have hw:=w64 (n+l.length) (by omega)
   obtain ⟨i1,i2⟩:=naGo_steps x W hW d (x.look st l) (x.few W l st.2.2) (IntKind.i64.wrap (n+l.length)) (few_len x W l st.2.2) (by omega) (by omega)
   refine ⟨by omega,?_⟩
   rw [hw] at i2 ⊢
   omega
theorem narrow_steps (x:Inst) (n:Node) (wi up:Int) (hw:wi≤3000):1≤(x.narrow n wi up).2.2∧(x.narrow n wi up).2.2≤1+widthN wi*x.meas n.s:=by
 have hm:=meas_le x n.s
 have hW2:widthN wi≤3000:=by unfold widthN;split<;>omega
 have e:x.narrow n wi up=x.naGo (widthN wi) (x.meas n.s) (x.look (Node.zero,false,up) [n]) (x.few (widthN wi) [n] up) 1:=by
  rw [Inst.narrow,Inst.naGo,if_neg (by simp)]
  rfl
 have:=naGo_steps x (widthN wi) hW2 (x.meas n.s) (x.look (Node.zero,false,up) [n]) (x.few (widthN wi) [n] up) 1 (few_len x _ _ _) (by omega) (by omega)
 rw [e]
 exact this
theorem meas_rootC {x:Inst} {p:Nat} (hx:x.Fit p) (hm:x.may=true):(x.meas x.rootS:Int)≤2*x.pairs+x.cars-1:=by
 have hp:=hx.pairs
 have hc:=hx.cars
 unfold Inst.meas
 split
 ·rw [Inst.rootS,if_pos hm]
  have h6:((List.range (2*x.pairs.toNat+1)).filter fun j:Nat=>decide (1≤j)&& !hasB ({State.zero with car:=1,time:=(x.stop 0).ready}:State).must (j:Int)).length<((List.range (2*x.pairs.toNat+1)).filter fun _=>true).length:=
   filter_lt _ (a:=0) (List.mem_range.2 (by omega)) rfl (by simp) (fun _ _=>rfl)
  rw [List.filter_eq_self.2 (fun _ _=>rfl),List.length_range] at h6
  have:x.base ({State.zero with car:=1,time:=(x.stop 0).ready}:State)≤2*x.pairs.toNat+(x.cars-1).toNat:=Nat.add_le_add (Nat.le_of_lt_succ h6) (Nat.le_refl _)
  omega
 ·omega
end Go.Proofs.YtnoifgjiipgpoaaGreatDoor

set_option maxRecDepth 4000
namespace Go.Proofs.YtnoifgjiipgpoaaGreatDoor
open Go Go.Proofs.YtnoifgjiipgpoaaGreatDoor.R
def Inst.deep (x:Inst):Int:=if x.may then 2*x.pairs+x.cars-1 else 0
theorem deep_pure (x:Inst) (hl:x.stops.length<2^63):Pure P 159 [x.a] (.i x.deep):=by
 refine pure_of Tryz.func159 rfl rfl (by simp [Tryz.f159]) (by simp [bnd,bnd.bndL,Inst.a]) (by simp [bnd,bnd.bndL]) fun B hB hnx=>?_
 simp only [Tryz.f159] at hB ⊢
 refine K_run hB 100 ?_
 simp [go_sem,Inst.a]
 refine K_call rfl rfl rfl (args:=[x.a]) (f:=44) (by simp [go_sem,Inst.a]) (by simp [go_sem,hB]) ((may_pure x hl).spec _ _) ?_
 cases hmay:x.may with
 |false=>
  refine K_run hB 100 ?_
  simp [go_sem]
  rw [Inst.deep,if_neg (by simp [hmay])]
 |true=>
  obtain ⟨p,hx⟩:=x.fit hmay
  have hp:=hx.pairs
  have hf:=hx.few
  have hc:=hx.cars
  have w1:=w64 (2*x.pairs) (by omega)
  have w2:=w64 (2*x.pairs+x.cars) (by omega)
  have w3:=w64 (2*x.pairs+x.cars-1) (by omega)
  refine K_run hB 100 ?_
  simp [go_sem,w1,w2,w3]
  rw [Inst.deep,if_pos hmay]
end Go.Proofs.YtnoifgjiipgpoaaGreatDoor

set_option maxRecDepth 4000
namespace Go.Proofs.YtnoifgjiipgpoaaGreatDoor
open Go Go.Proofs.YtnoifgjiipgpoaaGreatDoor.R
def State.join (s t:State):State:=⟨s.spot,min s.car t.car,min s.time t.time,min s.load t.load,min s.first t.first,s.must&&&t.must,s.can|||t.can,s.on&&&t.on⟩
def joinL:List State→State×Bool
 |[]=>(State.zero,false)
 |s :: l=>if l.any (fun t=>decide (t.spot≠s.spot))=true then (State.zero,false) else (l.foldl State.join s,true)
def costL:List Node→Int
 |[]=>0
 |n :: l=>l.foldl (fun c m=>min c m.cost) n.cost
def together (l:List Node):Node×Bool:=(⟨(joinL (l.map Node.s)).1,costL l,[]⟩,(joinL (l.map Node.s)).2)
def atStop (l:List Node) (i:Nat):List Node:=l.filter fun n=>decide (n.s.spot=i)
def Inst.mostN (x:Inst) (w:Int):Nat:=max w.toNat x.stops.length
def oneAt (l:List Node) (i:Nat):List Node:=if (together (atStop l i)).2=true then [(together (atStop l i)).1] else []
def Inst.squeeze (x:Inst) (l:List Node) (w:Int):List Node:=
 if (x.sortN l).length≤x.mostN w then x.sortN l else
 (x.sortN l).take (x.mostN w-x.stops.length)++(List.range x.stops.length).flatMap (oneAt ((x.sortN l).drop (x.mostN w-x.stops.length)))
theorem within_and_l (a b:Nat):withinB (a&&&b) a=true:=by
 rw [withinB,List.all_eq_true]
 intro i _
 rw [Nat.testBit_and]
 cases a.testBit i<;>cases b.testBit i<;>rfl
theorem within_and_r (a b:Nat):withinB (a&&&b) b=true:=by rw [Nat.and_comm];exact within_and_l b a
theorem within_or_l (a b:Nat):withinB a (a|||b)=true:=by
 rw [withinB,List.all_eq_true]
 intro i _
 rw [Nat.testBit_or]
 cases a.testBit i<;>cases b.testBit i<;>rfl
theorem within_or_r (a b:Nat):withinB b (a|||b)=true:=by rw [Nat.or_comm];exact within_or_l b a
theorem join_cov1 (s t:State):coversB (s.join t) s=true:=
 cov_mk rfl (within_and_l _ _) (within_and_l _ _) (within_or_l _ _) (Int.min_le_left _ _) (Int.min_le_left _ _) (Int.min_le_left _ _) (Int.min_le_left _ _)
theorem join_cov2 {s t:State} (h:s.spot=t.spot):coversB (s.join t) t=true:=
 cov_mk h (within_and_r _ _) (within_and_r _ _) (within_or_r _ _) (Int.min_le_right _ _) (Int.min_le_right _ _) (Int.min_le_right _ _) (Int.min_le_right _ _)
structure State.Is (s:State) (i:Int):Prop where
 spot:s.spot=i
 ok:s.ok
 pos:s.Pos
 seen:s.seenAt
theorem State.Is.join {s t:State} {i:Int} (h:s.Is i) (k:t.Is i):(s.join t).Is i:=by
 refine ⟨h.spot,⟨?_,?_,?_⟩,⟨?_,?_,?_⟩,?_⟩
 ·exact Nat.and_lt_two_pow _ k.ok.must
 ·exact Nat.or_lt_two_pow h.ok.can k.ok.can
 ·exact Nat.and_lt_two_pow _ k.ok.on
 ·exact Int.le_min.2 ⟨h.pos.car,k.pos.car⟩
 ·exact Int.le_min.2 ⟨h.pos.time,k.pos.time⟩
 ·exact Int.le_min.2 ⟨h.pos.load,k.pos.load⟩
 ·rcases h.seen with e | e
  ·exact .inl e
  rcases k.seen with e2 | e2
  ·refine .inl ?_
   show s.spot=0
   rw [h.spot,←k.spot];exact e2
  ·refine .inr ?_
   show hasB (s.must&&&t.must) s.spot=true
   rw [k.spot,←h.spot] at e2
   simp only [hasB,Bool.and_eq_true,decide_eq_true_eq,Nat.testBit_and] at *
   exact ⟨e.1,e.2,e2.2⟩
theorem fold_join:∀(l:List State) (s:State),(∀t∈l,t.spot=s.spot)→(l.foldl State.join s).spot=s.spot∧coversB (l.foldl State.join s) s=true∧∀t∈l,coversB (l.foldl State.join s) t=true
 |[],s,_=>⟨rfl,covers_refl _,fun t h=>by cases h⟩
 |t :: l,s,h=>by
  obtain ⟨h1,h2,h3⟩:=fold_join l (s.join t) fun u hu=>h u (List.mem_cons_of_mem _ hu)
  rw [List.foldl_cons]
  refine ⟨h1,covers_trans h2 (join_cov1 s t),fun u hu=>?_⟩
  rcases List.mem_cons.1 hu with rfl | hu
  ·exact covers_trans h2 (join_cov2 (h u List.mem_cons_self).symm)
  ·exact h3 u hu
theorem fold_is {i:Int}:∀(l:List State) (s:State),s.Is i→(∀t∈l,t.Is i)→(l.foldl State.join s).Is i
 |[],s,h,_=>h
 |t :: l,s,h,k=>fold_is l (s.join t) (h.join (k t List.mem_cons_self)) fun u hu=>k u (List.mem_cons_of_mem _ hu)
theorem joinL_same {l:List State} (h0:l≠[]) {i:Int} (h:∀t∈l,t.spot=i):(joinL l).2=true∧(joinL l).1.spot=i∧(∀t∈l,coversB (joinL l).1 t=true)∧((∀t∈l,t.Is i)→(joinL l).1.Is i):=by
 cases l with
 |nil=>exact absurd rfl h0
 |cons s l=>
  have hs:=h s List.mem_cons_self
  have hl:∀t∈l,t.spot=s.spot:=fun t ht=>by rw [hs];exact h t (List.mem_cons_of_mem _ ht)
  have e:joinL (s :: l)=(l.foldl State.join s,true):=by
   rw [joinL,if_neg]
   rw [List.any_eq_true]
   rintro ⟨t,ht,e⟩
   exact (of_decide_eq_true e) (hl t ht)
  obtain ⟨h1,h2,h3⟩:=fold_join l s hl
  rw [e]
  refine ⟨rfl,by simp only;omega,fun t ht=>?_,fun k=>fold_is l s (k s List.mem_cons_self) fun t ht=>k t (List.mem_cons_of_mem _ ht)⟩
  rcases List.mem_cons.1 ht with rfl | ht
  ·exact h2
  ·exact h3 t ht
theorem fold_cost:∀(l:List Node) (c:Int),l.foldl (fun c m=>min c m.cost) c≤c∧(∀n∈l,l.foldl (fun c m=>min c m.cost) c≤n.cost)∧(l.foldl (fun c m=>min c m.cost) c=c∨∃n∈l,l.foldl (fun c m=>min c m.cost) c=n.cost)
 |[],c=>⟨Int.le_refl _,fun n h=>(by cases h),.inl rfl⟩
 |m :: l,c=>by
  obtain ⟨h1,h2,h3⟩:=fold_cost l (min c m.cost)
  rw [List.foldl_cons]
  refine ⟨by omega,fun n hn=>?_,?_⟩
  ·rcases List.mem_cons.1 hn with rfl | hn
   ·omega
   ·exact h2 n hn
  ·rcases h3 with h3 | ⟨n,hn,h3⟩
   ·rw [h3]
    by_cases e:c≤m.cost
    ·exact .inl (by omega)
    ·exact .inr ⟨m,List.mem_cons_self,by omega⟩
   ·exact .inr ⟨n,List.mem_cons_of_mem _ hn,h3⟩
theorem costL_is {l:List Node} (h:l≠[]):(∀n∈l,costL l≤n.cost)∧∃n∈l,costL l=n.cost:=by
 cases l with
 |nil=>exact absurd rfl h
 |cons m l=>
  obtain ⟨h1,h2,h3⟩:=fold_cost l m.cost
  rw [costL]
  refine ⟨fun n hn=>?_,?_⟩
  ·rcases List.mem_cons.1 hn with rfl | hn
   ·exact h1
   ·exact h2 n hn
  ·rcases h3 with h3 | ⟨n,hn,h3⟩
   ·exact ⟨m,List.mem_cons_self,h3⟩
   ·exact ⟨n,List.mem_cons_of_mem _ hn,h3⟩
theorem atStop_mem {l:List Node} {i:Nat} {n:Node}:n∈atStop l i↔n∈l∧n.s.spot=i:=by
 rw [atStop,List.mem_filter,decide_eq_true_eq]
theorem oneAt_mem {l:List Node} {i:Nat} {m:Node} (h:m∈oneAt l i):atStop l i≠[]∧m=(together (atStop l i)).1:=by
 unfold oneAt at h
 split at h
 ·rename_i hh
  refine ⟨fun e=>?_,List.mem_singleton.1 h⟩
  rw [e] at hh
  simp [together,joinL] at hh
 ·cases h
theorem oneAt_has {l:List Node} {i:Nat} {n:Node} (h:n∈l) (hi:n.s.spot=i):∃m∈oneAt l i,coversB m.s n.s=true∧m.cost≤n.cost:=by
 have hn:n∈atStop l i:=atStop_mem.2 ⟨h,hi⟩
 have hne:atStop l i≠[]:=fun e=>by rw [e] at hn;cases hn
 have hne2:(atStop l i).map Node.s≠[]:=by simpa using hne
 obtain ⟨h1,h2,h3,h4⟩:=joinL_same hne2 (i:=(i:Int)) fun t ht=>by
  obtain ⟨q,hq,rfl⟩:=List.mem_map.1 ht
  exact (atStop_mem.1 hq).2
 refine ⟨(together (atStop l i)).1,?_,h3 _ (List.mem_map.2 ⟨n,hn,rfl⟩),(costL_is hne).1 n hn⟩
 rw [oneAt,if_pos (show (together (atStop l i)).2=true from h1)]
 exact List.mem_singleton.2 rfl
theorem oneAt_len (l:List Node) (i:Nat):(oneAt l i).length≤1:=by unfold oneAt;split<;>simp
theorem squeeze_mem {x:Inst} {l:List Node} {w:Int} {m:Node} (h:m∈x.squeeze l w):m∈l∨∃(i:Nat) (g:List Node),g≠[]∧i<x.stops.length∧(∀n∈g,n∈l∧n.s.spot=i)∧m=(together g).1:=by
 unfold Inst.squeeze at h
 split at h
 ·exact .inl (Inst.sortN_mem.1 h)
 ·rcases List.mem_append.1 h with h | h
  ·exact .inl (Inst.sortN_mem.1 (List.mem_of_mem_take h))
  ·obtain ⟨i,hi,h⟩:=List.mem_flatMap.1 h
   obtain ⟨h1,h2⟩:=oneAt_mem h
   exact .inr ⟨i,_,h1,List.mem_range.1 hi,fun n hn=>⟨Inst.sortN_mem.1 (List.mem_of_mem_drop (atStop_mem.1 hn).1),(atStop_mem.1 hn).2⟩,h2⟩
theorem squeeze_cov {x:Inst} {l:List Node} (w:Int) {n:Node} (hn:n∈l) (h0:0≤n.s.spot) (h1:n.s.spot<x.stops.length):∃m∈x.squeeze l w,coversB m.s n.s=true∧m.cost≤n.cost:=by
 have hs:n∈x.sortN l:=Inst.sortN_mem.2 hn
 unfold Inst.squeeze
 split
 ·exact ⟨n,hs,covers_refl _,Int.le_refl _⟩
 ·generalize x.mostN w-x.stops.length=k at *
  rw [←List.take_append_drop k (x.sortN l)] at hs
  rcases List.mem_append.1 hs with hs | hs
  ·exact ⟨n,List.mem_append_left _ hs,covers_refl _,Int.le_refl _⟩
  ·obtain ⟨i,hi⟩:∃i:Nat,n.s.spot=i:=⟨n.s.spot.toNat,by omega⟩
   obtain ⟨m,h2,h3,h4⟩:=oneAt_has hs hi
   exact ⟨m,List.mem_append_right _ (List.mem_flatMap.2 ⟨i,List.mem_range.2 (by omega),h2⟩),h3,h4⟩
theorem flat_one {α β:Type} (f:α→List β) (h:∀a,(f a).length≤1):∀(l:List α),(l.flatMap f).length≤l.length
 |[]=>Nat.le_refl _
 |a :: l=>by
  rw [List.flatMap_cons,List.length_append,List.length_cons]
  have:=h a
  have:=flat_one f h l
  omega
theorem squeeze_len (x:Inst) (l:List Node) (w:Int):(x.squeeze l w).length≤x.mostN w:=by
 unfold Inst.squeeze
 split
 ·assumption
 ·have h1:=flat_one (oneAt ((x.sortN l).drop (x.mostN w-x.stops.length))) (oneAt_len _) (List.range x.stops.length)
  rw [List.length_range] at h1
  have h2:x.stops.length≤x.mostN w:=Nat.le_max_right _ _
  rw [List.length_append,List.length_take]
  omega
end Go.Proofs.YtnoifgjiipgpoaaGreatDoor

set_option maxRecDepth 4000
namespace Go.Proofs.YtnoifgjiipgpoaaGreatDoor
open Go Go.Proofs.YtnoifgjiipgpoaaGreatDoor.R
structure Diag where
 layers:List (List Node)
 low:Int
 exact:Bool
 sure:Nat
 deriving DecidableEq
def Diag.of (ls:List (List Node)) (low:Int) (sq:Option Nat):Diag:=⟨ls,low,sq.isNone,sq.getD ls.length⟩
def lowB (low:Int) (b:Node×Bool):Int:=if b.2=true then min low b.1.cost else low
def Inst.buildGo (x:Inst) (w up dp:Int):Nat→List (List Node)→Int→Option Nat→List Node→Diag
 |0,ls,low,sq,_=>Diag.of ls low sq
 |f+1,ls,low,sq,l=>if l=[] then Diag.of ls low sq else
  if dp<((ls.length+1:Nat):Int) then Diag.of (ls++[l]) (lowB low (x.bests l)) sq else
  if x.mostN w<(x.next l up).length then x.buildGo w up dp f (ls++[l]) (lowB low (x.bests l)) (some (sq.getD (ls.length+1))) (x.squeeze (x.next l up) w)
  else x.buildGo w up dp f (ls++[l]) (lowB low (x.bests l)) sq (x.next l up)
def Inst.build (x:Inst) (n:Node) (w up:Int):Diag:=x.buildGo w up (x.deep-n.path.length) ((x.deep-n.path.length).toNat+2) [] up none [n]
structure WL (x:Inst) (l:List Node) (r:Nat):Prop where
 is:∀n∈l,n.s.Is n.s.spot
 cost:∀n∈l,0≤n.cost∧n.cost+14143*((r:Int)+41)≤1152921504606846976
theorem WL.lev {x:Inst} {l:List Node} {r:Nat} (h:WL x l r):Lev x l 41:=
 ⟨fun n hn=>(h.is n hn).ok,fun n _=>by have:=meas_le x n.s;omega,fun n hn=>(h.is n hn).pos,fun n hn=>(h.is n hn).seen,fun n hn=>by have:=h.cost n hn;omega⟩
theorem child_spot {x:Inst} {s:State} {j:Int} (h:(x.move s j).2.2=true):0≤(x.move s j).1.spot∧(x.move s j).1.spot<x.stops.length:=by
 by_cases hj:j=0
 ·subst hj
  obtain ⟨h1,h2,h3,h4⟩:=move_home h
  obtain ⟨p,hx⟩:=x.fit h1
  have:=hx.len
  rw [h4]
  show 0≤(0:Int)∧(0:Int)<x.stops.length
  omega
 ·obtain ⟨h1,h2,h3,h4,_,_,_,h5⟩:=move_pos h hj
  obtain ⟨p,hx⟩:=x.fit h1
  have:=hx.len
  have:=hx.pairs
  rw [h5]
  show 0≤j∧j<x.stops.length
  omega
theorem State.Is.move {x:Inst} {s:State} {j i:Int} (h:s.Is i) (hj:(x.move s j).2.2=true):(x.move s j).1.Is (x.move s j).1.spot:=⟨rfl,move_ok x j h.ok,pos_move h.pos h.ok hj,seen_step hj⟩
theorem WL.next {x:Inst} {l:List Node} {r:Nat} (h:WL x l (r+1)) (up:Int):WL x (x.next l up) r∧∀m∈x.next l up,0≤m.s.spot∧m.s.spot<x.stops.length:=by
 have key:∀m∈x.next l up,∃n∈l,∃j,(x.move n.s j).2.2=true∧m=x.child n j:=by
  intro m hm
  obtain ⟨n,hn,j,hj,e,_⟩:=next_mem hm
  exact ⟨n,hn,j,moves_mem hj,e⟩
 refine ⟨⟨?_,?_⟩,?_⟩<;>(intro m hm;obtain ⟨n,hn,j,hj,rfl⟩:=key m hm)
 ·exact (h.is n hn).move hj
 ·rw [child_cost h.lev hn hj]
  have:=h.cost n hn
  have:=move_cost hj
  omega
 ·exact child_spot hj
theorem WL.squeeze {x:Inst} {l:List Node} {r:Nat} (h:WL x l r) (w:Int):WL x (x.squeeze l w) r:=by
 have key:∀m∈x.squeeze l w,m.s.Is m.s.spot∧∃n∈l,m.cost=n.cost:=by
  intro m hm
  rcases squeeze_mem hm with hm | ⟨i,g,h1,h2,h3,rfl⟩
  ·exact ⟨h.is m hm,m,hm,rfl⟩
  ·have hne2:g.map Node.s≠[]:=by simpa using h1
   obtain ⟨j1,j2,j3,j4⟩:=joinL_same hne2 (i:=(i:Int)) fun t ht=>by
    obtain ⟨q,hq,rfl⟩:=List.mem_map.1 ht
    exact (h3 q hq).2
   have j5:=j4 fun t ht=>by
    obtain ⟨q,hq,rfl⟩:=List.mem_map.1 ht
    have:=h.is q (h3 q hq).1
    rw [(h3 q hq).2] at this
    exact this
   obtain ⟨n,hn,e⟩:=(costL_is h1).2
   exact ⟨⟨rfl,j5.ok,j5.pos,j5.seen⟩,n,(h3 n hn).1,e⟩
 refine ⟨fun m hm=>(key m hm).1,fun m hm=>?_⟩
 obtain ⟨_,n,hn,e⟩:=key m hm
 rw [e]
 exact h.cost n hn
theorem lowB_le (low:Int) (b:Node×Bool):lowB low b≤low:=by unfold lowB;split<;>omega
theorem buildGo_le (x:Inst) (w up dp:Int):∀(f:Nat) (ls:List (List Node)) (low:Int) (sq:Option Nat) (l:List Node),(x.buildGo w up dp f ls low sq l).low≤low
 |0,ls,low,sq,l=>Int.le_refl _
 |f+1,ls,low,sq,l=>by
  have hb:=lowB_le low (x.bests l)
  rw [Inst.buildGo]
  split
  ·exact Int.le_refl _
  split
  ·exact hb
  split
  ·exact Int.le_trans (buildGo_le x w up dp f _ _ _ _) hb
  ·exact Int.le_trans (buildGo_le x w up dp f _ _ _ _) hb
theorem buildGo_way {x:Inst} (hst:x.stops.length<2^31) (w up dp:Int):∀(f:Nat) (ls:List (List Node)) (low:Int) (sq:Option Nat) (l:List Node),WL x l f→
  ∀m∈l,∀(v:List Int) (c:Int),x.way v m.s c→m.cost+c<up→(ls.length:Int)+v.length≤dp→v.length<f→(x.buildGo w up dp f ls low sq l).low≤m.cost+c
 |0,ls,low,sq,l,_,m,hm,v,c,_,_,_,hf=>absurd hf (Nat.not_lt_zero _)
 |f+1,ls,low,sq,l,hl,m,hm,v,c,hv,hlt,hdp,hf=>by
  have hne:¬l=[]:=fun e=>by rw [e] at hm;cases hm
  have hend:v=[]→lowB low (x.bests l)≤m.cost+c:=by
   rintro rfl
   obtain ⟨b1,b2⟩:=bests_has hm hv.1
   rw [end_sum hl.lev hm hv.1,←hv.2] at b2
   rw [lowB,if_pos b1]
   omega
  rw [Inst.buildGo,if_neg hne]
  by_cases c1:dp<((ls.length+1:Nat):Int)
  ·rw [if_pos c1]
   exact hend (List.eq_nil_of_length_eq_zero (by omega))
  rw [if_neg c1]
  match v,hv with
  |[],hv=>
   split
   ·exact Int.le_trans (buildGo_le x w up dp f _ _ _ _) (hend rfl)
   ·exact Int.le_trans (buildGo_le x w up dp f _ _ _ _) (hend rfl)
  |j :: v,hv=>
   obtain ⟨g1,e,g2,g3⟩:=hv
   obtain ⟨q,hq,q1,q2⟩:=next_way hst hl.lev hm g1 g2 (up:=up) (by omega)
   obtain ⟨hn1,hn2⟩:=hl.next up
   have hlen:(((ls++[l]).length:Nat):Int)+v.length≤dp:=by
    rw [List.length_append]
    simp only [List.length_cons,List.length_nil] at hdp ⊢
    omega
   have hf2:v.length<f:=by simp only [List.length_cons] at hf;omega
   rw [←q1] at g2
   split
   ·obtain ⟨t,ht,t1,t2⟩:=squeeze_cov w hq (hn2 q hq).1 (hn2 q hq).2
    have ht3:=(hn1.squeeze w).is t ht
    have:=buildGo_way hst w up dp f (ls++[l]) (lowB low (x.bests l)) (some (sq.getD (ls.length+1))) _ (hn1.squeeze w) t ht v e (cov_way (move_pairs g1) t1 ht3.pos ht3.ok g2) (by omega) hlen hf2
    omega
   ·have:=buildGo_way hst w up dp f (ls++[l]) (lowB low (x.bests l)) sq _ hn1 q hq v e g2 (by omega) hlen hf2
    omega
def Inst.layN (x:Inst) (up:Int) (n:Node):Nat→List Node
 |0=>[n]
 |k+1=>x.next (x.layN up n k) up
structure SureI (x:Inst) (up:Int) (n:Node) (ls:List (List Node)) (sq:Option Nat):Prop where
 lay:∀i,i<sq.getD ls.length→ls[i]? =some (x.layN up n i)
 le:sq.getD ls.length≤ls.length
theorem SureI.push {x:Inst} {up:Int} {n:Node} {ls:List (List Node)} {sq:Option Nat} {l:List Node} (h:SureI x up n ls sq) (hl:sq=none→l=x.layN up n ls.length):SureI x up n (ls++[l]) sq:=by
 cases sq with
 |some k=>
  have h1:=h.lay
  have h2:=h.le
  simp only [Option.getD_some] at h1 h2
  refine ⟨fun i hi=>?_,?_⟩
  ·simp only [Option.getD_some] at hi
   rw [List.getElem?_append_left (by omega)]
   exact h1 i hi
  ·simp only [Option.getD_some,List.length_append,List.length_cons];omega
 |none=>
  have h1:=h.lay
  simp only [Option.getD_none] at h1
  refine ⟨fun i hi=>?_,by simp⟩
  simp only [Option.getD_none,List.length_append,List.length_cons,List.length_nil] at hi
  by_cases e:i<ls.length
  ·rw [List.getElem?_append_left e];exact h1 i e
  ·have:i=ls.length:=by omega
   subst this
   rw [List.getElem?_append_right (Nat.le_refl _),Nat.sub_self,hl rfl]
   rfl
structure Diag.Ok (x:Inst) (up:Int) (n:Node) (d:Diag):Prop where
 lay:∀i,i<d.sure→d.layers[i]? =some (x.layN up n i)
 le:d.sure≤d.layers.length
 whole:d.exact=decide (d.sure=d.layers.length)
 pos:1≤d.sure
theorem buildGo_sure {x:Inst} (w up dp:Int) (n:Node):∀(f:Nat) (ls:List (List Node)) (low:Int) (sq:Option Nat) (l:List Node),SureI x up n ls sq→(sq=none→l=x.layN up n ls.length)→(∀k,sq=some k→1≤k∧(l≠[]∨k<ls.length))→(ls=[]→l≠[])→1≤f→
  (∀k,sq=some k→ls.length+f≥1)→(f:Int)+ls.length≥dp+2→((ls.length:Int)≤dp∨ls=[])→(x.buildGo w up dp f ls low sq l).Ok x up n
 |0,ls,low,sq,l,_,_,_,_,hf,_,_,_=>absurd hf (by omega)
 |f+1,ls,low,sq,l,h,hn,hs,h0,hf,hq,hfu,hle=>by
  rw [Inst.buildGo]
  by_cases c0:l=[]
  ·rw [if_pos c0]
   refine ⟨h.lay,h.le,?_,?_⟩
   ·cases sq with
    |none=>simp [Diag.of]
    |some k=>
     have:=(hs k rfl).2
     have:k<ls.length:=this.resolve_left fun e=>e c0
     show false=decide (k=ls.length)
     exact (decide_eq_false (by omega)).symm
   ·cases sq with
    |none=>
     have:ls≠[]:=fun e=>h0 e c0
     have:=List.length_pos_iff.2 this
     simp only [Diag.of,Option.getD_none];omega
    |some k=>exact (hs k rfl).1
  rw [if_neg c0]
  have hp:=h.push hn
  by_cases c1:dp<((ls.length+1:Nat):Int)
  ·rw [if_pos c1]
   refine ⟨hp.lay,hp.le,?_,?_⟩
   ·cases sq with
    |none=>simp [Diag.of]
    |some k=>
     have:=h.le
     simp only [Option.getD_some] at this
     show false=decide (k=(ls++[l]).length)
     exact (decide_eq_false (by rw [List.length_append];simp only [List.length_cons];omega)).symm
   ·cases sq with
    |none=>simp [Diag.of]
    |some k=>exact (hs k rfl).1
  rw [if_neg c1]
  have hlen:(ls++[l]).length=ls.length+1:=by simp
  split
  ·rename_i hov
   have hne:x.next l up≠[]:=fun e=>by rw [e] at hov;simp at hov
   obtain ⟨q,hq2⟩:=List.exists_mem_of_ne_nil _ hne
   obtain ⟨m,hm,j,hj,rfl,_⟩:=next_mem hq2
   have hsp:=child_spot (moves_mem hj)
   obtain ⟨t,ht,_⟩:=squeeze_cov w hq2 hsp.1 hsp.2
   have hne2:x.squeeze (x.next l up) w≠[]:=fun e=>by rw [e] at ht;cases ht
   refine buildGo_sure w up dp n f _ _ _ _ ?_ (fun e=>by cases e) (fun k hk=>⟨?_,.inl hne2⟩) (fun _=>hne2) (by omega) (fun _ _=>by omega) (by rw [hlen];omega) (.inl (by rw [hlen];omega))
   ·cases sq with
    |none=>
     simp only [Option.getD_none]
     refine ⟨fun i hi=>hp.lay i ?_,by simp⟩
     simp only [Option.getD_some] at hi
     simp only [Option.getD_none,hlen]
     exact hi
    |some k=>exact hp
   ·cases hk
    cases sq with
    |none=>simp
    |some k=>exact (hs k rfl).1
  ·refine buildGo_sure w up dp n f _ _ _ _ hp (fun e=>?_) (fun k hk=>⟨(hs k hk).1,.inr ?_⟩) (fun e=>by simp at e) (by omega) (fun _ _=>by omega) (by rw [hlen];omega) (.inl (by rw [hlen];omega))
   ·rw [hlen,Inst.layN,←hn e]
   ·have:=h.le
    rw [hk] at this
    simp only [Option.getD_some] at this
    omega
theorem buildGo_lay {x:Inst} (w up dp:Int):∀(f:Nat) (ls:List (List Node)) (low:Int) (sq:Option Nat) (l:List Node),l.length≤x.mostN w→(∀k∈ls.drop 1,k≠[]∧k.length≤x.mostN w)→
  ∀k∈(x.buildGo w up dp f ls low sq l).layers.drop 1,k≠[]∧k.length≤x.mostN w
 |0,ls,low,sq,l,_,h=>h
 |f+1,ls,low,sq,l,hl,h=>by
  rw [Inst.buildGo]
  split
  ·exact h
  rename_i c0
  have h2:∀k∈(ls++[l]).drop 1,k≠[]∧k.length≤x.mostN w:=by
   intro k hk
   cases ls with
   |nil=>simp at hk
   |cons a ls=>
    rw [List.cons_append,List.drop_succ_cons,List.drop_zero] at hk
    rcases List.mem_append.1 hk with hk | hk
    ·exact h k (by simpa using hk)
    ·rw [List.mem_singleton.1 hk];exact ⟨c0,hl⟩
  split
  ·exact h2
  split
  ·exact buildGo_lay w up dp f _ _ _ _ (squeeze_len x _ w) h2
  ·exact buildGo_lay w up dp f _ _ _ _ (by omega) h2
theorem buildGo_count {x:Inst} (w up dp:Int):∀(f:Nat) (ls:List (List Node)) (low:Int) (sq:Option Nat) (l:List Node),((x.buildGo w up dp f ls low sq l).layers.length:Int)≤max ((ls.length:Int)+1) (dp+1)
 |0,ls,low,sq,l=>by show (ls.length:Int)≤_;omega
 |f+1,ls,low,sq,l=>by
  have hlen:(ls++[l]).length=ls.length+1:=by simp
  rw [Inst.buildGo]
  split
  ·show (ls.length:Int)≤_;omega
  split
  ·show ((ls++[l]).length:Int)≤_;omega
  split
  ·have:=buildGo_count (x:=x) w up dp f (ls++[l]) (lowB low (x.bests l)) (some (sq.getD (ls.length+1))) (x.squeeze (x.next l up) w);omega
  ·have:=buildGo_count (x:=x) w up dp f (ls++[l]) (lowB low (x.bests l)) sq (x.next l up);omega
end Go.Proofs.YtnoifgjiipgpoaaGreatDoor

set_option maxRecDepth 4000
namespace Go.Proofs.YtnoifgjiipgpoaaGreatDoor
open Go Go.Proofs.YtnoifgjiipgpoaaGreatDoor.R
structure Track (x:Inst) (n:Node):Prop where
 goes:x.goes n.path x.rootS 0=some (n.s,n.cost)
 is:n.s.Is n.s.spot
 cost:0≤n.cost∧n.cost≤14143*(n.path.length:Int)
 len:n.path.length+x.meas n.s≤x.meas x.rootS
theorem track_root {x:Inst} (hm:x.may=true):Track x x.rootN:=
 ⟨rfl,⟨rfl,rootS_ok x,pos_root hm,seen_root x⟩,by simp [Inst.rootN],by simp [Inst.rootN]⟩
theorem Track.few {x:Inst} {n:Node} (h:Track x n):n.path.length≤40:=by
 have:=h.len
 have:=meas_le x x.rootS
 omega
theorem Track.child {x:Inst} {n:Node} (h:Track x n) {j:Int} (hj:(x.move n.s j).2.2=true):Track x (x.child n j):=by
 have hc:=move_cost hj
 have hl:=h.cost
 have hf:=h.few
 have e:(x.child n j).cost=n.cost+(x.move n.s j).2.1:=sumI_two hl.1 hc.1 (by omega)
 have hm:=meas_move hj
 have hlen:(n.path++[j]).length=n.path.length+1:=by simp
 refine ⟨?_,h.is.move hj,?_,?_⟩
 ·show x.goes (n.path++[j]) x.rootS 0=some ((x.move n.s j).1,(x.child n j).cost)
  rw [goes_app,h.goes,Option.bind_some]
  show x.goes [j] n.s n.cost=_
  rw [Inst.goes,if_pos hj,w64 _ (by omega),e]
  rfl
 ·rw [e]
  show _∧_≤14143*((n.path++[j]).length:Int)
  rw [hlen]
  omega
 ·show (n.path++[j]).length+x.meas (x.move n.s j).1≤_
  rw [hlen]
  have:=h.len
  omega
theorem layN_track {x:Inst} {n:Node} (h:Track x n) (up:Int):∀(k:Nat),∀m∈x.layN up n k,Track x m∧m.path.length=n.path.length+k
 |0,m,hm=>by rw [List.mem_singleton.1 hm];exact ⟨h,rfl⟩
 |k+1,m,hm=>by
  obtain ⟨q,hq,j,hj,rfl,_⟩:=next_mem hm
  obtain ⟨h1,h2⟩:=layN_track h up k q hq
  refine ⟨h1.child (moves_mem hj),?_⟩
  show (q.path++[j]).length=_
  rw [List.length_append,h2]
  simp only [List.length_cons,List.length_nil]
  omega
theorem Track.wl {x:Inst} {l:List Node} (h:∀n∈l,Track x n) {r:Nat} (hr:r≤1000):WL x l r:=
 ⟨fun n hn=>(h n hn).is,fun n hn=>by have:=(h n hn).cost;have:=(h n hn).few;omega⟩
theorem Track.way {x:Inst} {n:Node} (h:Track x n) {v:List Int} {c:Int} (hv:x.way v n.s c):x.way (n.path++v) x.rootS (n.cost+c):=by
 have hf:=h.few
 have:=way_app (c0:=0) (by omega) (by omega) h.goes hv
 rwa [show n.cost-0+c=n.cost+c by omega] at this
theorem deep_may {x:Inst} (hm:x.may=true):x.deep=2*x.pairs+x.cars-1:=by rw [Inst.deep,if_pos hm]
theorem deep_meas {x:Inst} (hm:x.may=true):(x.meas x.rootS:Int)≤x.deep∧x.deep≤39:=by
 obtain ⟨p,hx⟩:=x.fit hm
 have h1:=meas_rootC hx hm
 have:=hx.pairs
 have:=hx.few
 have:=hx.cars
 rw [deep_may hm]
 omega
theorem build_way {x:Inst} (hst:x.stops.length<2^31) (hm:x.may=true) {n:Node} (h:Track x n) (w up:Int) {v:List Int} {c:Int} (hv:x.way v n.s c) (hlt:n.cost+c<up):(x.build n w up).low≤n.cost+c:=by
 have h1:=deep_meas hm
 have h2:=way_len hv
 have h3:=h.len
 rw [Inst.build]
 exact buildGo_way hst w up _ _ _ _ _ _ (Track.wl (fun m hm=>by rw [List.mem_singleton.1 hm];exact h) (by omega)) n List.mem_cons_self v c hv hlt (by simp only [List.length_nil];omega) (by omega)
theorem build_ok (x:Inst) (n:Node) (w up:Int):(x.build n w up).Ok x up n:=by
 rw [Inst.build]
 refine buildGo_sure w up _ n _ _ _ _ _ ⟨fun i hi=>by simp at hi,by simp⟩ (fun _=>rfl) (fun k hk=>by cases hk) (fun _=>by simp) (by omega) (fun k hk=>by cases hk) ?_ (.inr rfl)
 simp only [List.length_nil]
 omega
theorem build_lay {x:Inst} (n:Node) (w up:Int) (h:1≤x.mostN w):∀k∈(x.build n w up).layers.drop 1,k≠[]∧k.length≤x.mostN w:=
 buildGo_lay w up _ _ _ _ _ _ (by simpa using h) (fun k hk=>by simp at hk)
theorem build_count (x:Inst) (n:Node) (w up:Int):((x.build n w up).layers.length:Int)≤max 1 (x.deep-n.path.length+1):=by
 have:=buildGo_count (x:=x) w up (x.deep-n.path.length) ((x.deep-n.path.length).toNat+2) [] up none [n]
 rw [Inst.build]
 simp only [List.length_nil] at this
 omega
end Go.Proofs.YtnoifgjiipgpoaaGreatDoor

set_option maxRecDepth 4000
namespace Go.Proofs.YtnoifgjiipgpoaaGreatDoor
open Go Go.Proofs.YtnoifgjiipgpoaaGreatDoor.R
structure Ent where
 bound:Int
 depth:Int
 no:Nat
 deriving DecidableEq
structure SS where
 subs:List Node
 q:List Ent
 up:Int
 plan:List (List Int)
 steps:Int
 log:List (Node×Diag)
def SS.offer (s:SS) (b:Node×Bool):SS:=if b.2=true∧b.1.cost<s.up then {s with up:=b.1.cost,plan:=(splitR b.1.path).1} else s
def Inst.push (x:Inst) (low:Int) (s:SS) (n:Node):SS:=
 if max low (x.of n)<s.up then {s with q:=s.q++[⟨max low (x.of n),n.path.length,s.subs.length⟩],subs:=s.subs++[n]} else s
def Inst.offers (x:Inst) (s:SS) (ls:List (List Node)):SS:=ls.foldl (fun s l=>s.offer (x.bests l)) s
def Inst.branch (x:Inst) (d:Diag) (s:SS):SS:=(d.layers.getD (d.sure-1) []).foldl (x.push d.low) (x.offers s (d.layers.take (d.sure-1)))
def sizes (ls:List (List Node)):Nat:=(ls.map List.length).sum
def SS.plus (s:SS) (k:Int):SS:={s with steps:=s.steps+k}
def SS.nar (x:Inst) (w:Int) (s:SS) (n:Node):SS:=(s.plus (x.narrow n w s.up).2.2).offer ((x.narrow n w s.up).1,(x.narrow n w s.up).2.1)
def SS.dia (s:SS) (n:Node) (d:Diag):SS:={s with steps:=s.steps+sizes d.layers,log:=s.log++[(n,d)]}
def SS.exa (x:Inst) (w:Int) (s:SS) (n:Node):SS:=(s.plus (x.exact n s.up (x.mostN w)).2.2.2).offer ((x.exact n s.up (x.mostN w)).1,(x.exact n s.up (x.mostN w)).2.1)
def Inst.lookD (x:Inst) (w:Int) (s:SS) (n:Node) (d:Diag):SS:=if s.up≤d.low then s.dia n d else if d.exact=true then (s.dia n d).exa x w n else x.branch d (s.dia n d)
def Inst.lookS (x:Inst) (w:Int) (s:SS) (n:Node):SS:=x.lookD w (s.nar x w n) n (x.build n w (s.nar x w n).up)
def Inst.goesOn (x:Inst) (n:Node) (c:Int):Prop:=∃v d,x.way v n.s d∧n.cost+d≤c
structure Found (x:Inst) (s:SS):Prop where
 le:s.up≤inf
 plan:s.up<inf→x.cost s.plan=(s.up,0)
structure SInv (x:Inst) (s:SS):Prop where
 track:∀n∈s.subs,Track x n
 nos:∀e∈s.q,∃n,s.subs[e.no]? =some n
 bound:∀e∈s.q,∀n,s.subs[e.no]? =some n→∀v c,x.way v n.s c→n.cost+c<s.up→e.bound≤n.cost+c
 found:Found x s
def SS.Covers (x:Inst) (s:SS) (more:Int→Prop):Prop:=∀v c,x.way v x.rootS c→c<s.up→more c∨∃e∈s.q,∃n,s.subs[e.no]? =some n∧x.goesOn n c
theorem offer_up (s:SS) (b:Node×Bool):(s.offer b).up≤s.up∧(s.offer b).subs=s.subs∧(s.offer b).q=s.q∧(s.offer b).log=s.log∧(s.offer b).steps=s.steps:=by
 unfold SS.offer
 split
 ·rename_i h
  exact ⟨Int.le_of_lt h.2,rfl,rfl,rfl,rfl⟩
 ·exact ⟨Int.le_refl _,rfl,rfl,rfl,rfl⟩
theorem offer_gets (s:SS) (b:Node×Bool) (h:b.2=true):(s.offer b).up≤b.1.cost:=by
 unfold SS.offer
 split
 ·exact Int.le_refl _
 ·rename_i hn
  simp only [h,true_and] at hn
  omega
def Inst.isWay (x:Inst) (b:Node×Bool):Prop:=b.2=true→x.way b.1.path x.rootS b.1.cost
theorem way_few {x:Inst} {v:List Int} {c:Int} (h:x.way v x.rootS c):0≤c∧c<inf:=by
 have h1:=way_in h
 have h2:=way_len h
 have h3:=meas_le x x.rootS
 have:inf=1152921504606846976:=rfl
 omega
theorem Found.offer {x:Inst} (hm:x.may=true) {s:SS} (h:Found x s) {b:Node×Bool} (hb:x.isWay b):Found x (s.offer b):=by
 unfold SS.offer
 split
 ·rename_i hc
  have hw:=hb hc.1
  exact ⟨Int.le_of_lt (way_few hw).2,fun _=>(tour_plain hm hw).2⟩
 ·exact h
theorem SInv.offer {x:Inst} (hm:x.may=true) {s:SS} (h:SInv x s) {b:Node×Bool} (hb:x.isWay b):SInv x (s.offer b):=by
 obtain ⟨h1,h2,h3,h4,h5⟩:=offer_up s b
 refine ⟨by rw [h2];exact h.track,by rw [h2,h3];exact h.nos,?_,h.found.offer hm hb⟩
 rw [h2,h3]
 exact fun e he n hn v c hv hc=>h.bound e he n hn v c hv (by omega)
theorem Covers.offer {x:Inst} {s:SS} {more:Int→Prop} (h:s.Covers x more) (b:Node×Bool):(s.offer b).Covers x more:=by
 obtain ⟨h1,h2,h3,h4,h5⟩:=offer_up s b
 intro v c hv hc
 rw [h2,h3]
 exact h v c hv (by omega)
theorem layN_way {x:Inst} {n:Node} (h:Track x n) (up:Int):∀(k:Nat),∀m∈x.layN up n k,∀v c,x.way v m.s c→∃u,x.way (u++v) n.s (m.cost-n.cost+c)
 |0,m,hm,v,c,hv=>by
  rw [List.mem_singleton.1 hm] at hv ⊢
  exact ⟨[],by rw [show n.cost-n.cost+c=c by omega];exact hv⟩
 |k+1,m,hm,v,c,hv=>by
  obtain ⟨q,hq,j,hj,rfl,_⟩:=next_mem hm
  have hj:=moves_mem hj
  have ht:=(layN_track h up k q hq).1
  have hcc:(x.child q j).cost=q.cost+(x.move q.s j).2.1:=by
   have:=ht.cost
   have:=ht.few
   have:=move_cost hj
   exact sumI_two (by omega) (by omega) (by omega)
  obtain ⟨u,hu⟩:=layN_way h up k q hq (j :: v) ((x.move q.s j).2.1+c) ⟨hj,c,hv,rfl⟩
  refine ⟨u++[j],?_⟩
  rw [List.append_assoc,hcc,show q.cost+(x.move q.s j).2.1-n.cost+c=q.cost-n.cost+((x.move q.s j).2.1+c) by omega]
  exact hu
theorem of_way {x:Inst} (hst:x.stops.length<2^31) {n:Node} (h:Track x n) {v:List Int} {c:Int} (hv:x.way v n.s c):x.of n≤n.cost+c:=by
 have h1:=way_low h.is.seen hv
 have h2:=way_in hv
 have h3:=way_len hv
 have h4:=meas_le x n.s
 have h5:=h.cost
 have h6:=h.few
 exact move_seen_low hst n (n.cost+c) h5.1 (by omega) (by omega)
theorem push_or (x:Inst) (low:Int) (s:SS) (n:Node):(x.push low s n=s∧s.up≤max low (x.of n))∨(max low (x.of n)<s.up∧x.push low s n={s with q:=s.q++[⟨max low (x.of n),n.path.length,s.subs.length⟩],subs:=s.subs++[n]}):=by
 unfold Inst.push
 split
 ·rename_i h;exact .inr ⟨h,rfl⟩
 ·rename_i h;exact .inl ⟨rfl,by omega⟩
theorem get_old {α:Type} {l m:List α} {i:Nat} {a:α} (h:l[i]? =some a):(l++m)[i]? =some a:=by
 have:=(List.getElem?_eq_some_iff.1 h).1
 rw [List.getElem?_append_left this];exact h
theorem SInv.push {x:Inst} {s:SS} (h:SInv x s) (low:Int) {n:Node} (ht:Track x n) (hb:∀v c,x.way v n.s c→n.cost+c<s.up→max low (x.of n)≤n.cost+c):SInv x (x.push low s n):=by
 rcases push_or x low s n with ⟨e,_⟩ | ⟨_,e⟩
 ·rw [e];exact h
 rw [e]
 have hlast:(s.subs++[n])[s.subs.length]? =some n:=by simp
 refine ⟨fun m hm=>?_,fun f hf=>?_,fun f hf m hm v c hv hc=>?_,⟨h.found.le,h.found.plan⟩⟩
 ·rcases List.mem_append.1 hm with hm | hm
  ·exact h.track m hm
  ·rw [List.mem_singleton.1 hm];exact ht
 ·rcases List.mem_append.1 hf with hf | hf
  ·obtain ⟨m,hm⟩:=h.nos f hf
   exact ⟨m,get_old hm⟩
  ·rw [List.mem_singleton.1 hf];exact ⟨n,hlast⟩
 ·rcases List.mem_append.1 hf with hf | hf
  ·obtain ⟨m',hm'⟩:=h.nos f hf
   have:=get_old (m:=[n]) hm'
   have he:m'=m:=Option.some.inj (this.symm.trans hm)
   rw [he] at hm'
   exact h.bound f hf m hm' v c hv hc
  ·rw [List.mem_singleton.1 hf] at hm ⊢
   simp only at hm ⊢
   rw [hlast] at hm
   cases hm
   exact hb v c hv hc
theorem push_up (x:Inst) (low:Int) (s:SS) (n:Node):(x.push low s n).up=s.up∧(x.push low s n).log=s.log∧(x.push low s n).steps=s.steps:=by
 unfold Inst.push
 split<;>exact ⟨rfl,rfl,rfl⟩
theorem push_has {x:Inst} {low:Int} {s:SS} {n:Node} {c:Int} (hg:x.goesOn n c) (hb:max low (x.of n)<s.up):∃e∈(x.push low s n).q,∃m,(x.push low s n).subs[e.no]? =some m∧x.goesOn m c:=by
 rcases push_or x low s n with ⟨_,e⟩ | ⟨_,e⟩
 ·omega
 ·rw [e]
  exact ⟨_,List.mem_append_right _ (List.mem_singleton.2 rfl),n,by simp,hg⟩
theorem push_keeps {x:Inst} {low:Int} {s:SS} {n:Node} {c:Int} (h:∃e∈s.q,∃m,s.subs[e.no]? =some m∧x.goesOn m c):∃e∈(x.push low s n).q,∃m,(x.push low s n).subs[e.no]? =some m∧x.goesOn m c:=by
 rcases push_or x low s n with ⟨e,_⟩ | ⟨_,e⟩
 ·rw [e];exact h
 ·rw [e]
  obtain ⟨f,hf,m,hm,hg⟩:=h
  exact ⟨f,List.mem_append_left _ hf,m,get_old hm,hg⟩
theorem pushes_up (x:Inst) (low:Int):∀(l:List Node) (s:SS),(l.foldl (x.push low) s).up=s.up∧(l.foldl (x.push low) s).log=s.log∧(l.foldl (x.push low) s).steps=s.steps
 |[],s=>⟨rfl,rfl,rfl⟩
 |n :: l,s=>by
  obtain ⟨h1,h2,h3⟩:=pushes_up x low l (x.push low s n)
  obtain ⟨k1,k2,k3⟩:=push_up x low s n
  exact ⟨h1.trans k1,h2.trans k2,h3.trans k3⟩
theorem pushes_inv {x:Inst} (low:Int):∀(l:List Node) (s:SS),SInv x s→(∀n∈l,Track x n∧∀v c,x.way v n.s c→n.cost+c<s.up→max low (x.of n)≤n.cost+c)→SInv x (l.foldl (x.push low) s)
 |[],s,h,_=>h
 |n :: l,s,h,hl=>by
  obtain ⟨h1,h2⟩:=hl n List.mem_cons_self
  refine pushes_inv low l (x.push low s n) (h.push low h1 h2) fun m hm=>?_
  rw [(push_up x low s n).1]
  exact hl m (List.mem_cons_of_mem _ hm)
theorem pushes_keep {x:Inst} (low:Int):∀(l:List Node) (s:SS) (c:Int),(∃e∈s.q,∃m,s.subs[e.no]? =some m∧x.goesOn m c)→∃e∈(l.foldl (x.push low) s).q,∃m,(l.foldl (x.push low) s).subs[e.no]? =some m∧x.goesOn m c
 |[],s,c,h=>h
 |n :: l,s,c,h=>pushes_keep low l (x.push low s n) c (push_keeps h)
theorem pushes_has {x:Inst} (low:Int):∀(l:List Node) (s:SS) (c:Int) (n:Node),n∈l→x.goesOn n c→max low (x.of n)<s.up→∃e∈(l.foldl (x.push low) s).q,∃m,(l.foldl (x.push low) s).subs[e.no]? =some m∧x.goesOn m c
 |m :: l,s,c,n,hn,hg,hb=>by
  rcases List.mem_cons.1 hn with rfl | hn
  ·exact pushes_keep low l _ c (push_has hg hb)
  ·exact pushes_has low l (x.push low s m) c n hn hg (by rw [(push_up x low s m).1];exact hb)
end Go.Proofs.YtnoifgjiipgpoaaGreatDoor

set_option maxRecDepth 4000
namespace Go.Proofs.YtnoifgjiipgpoaaGreatDoor
open Go Go.Proofs.YtnoifgjiipgpoaaGreatDoor.R
theorem front1_sub (F:List Node) (c:Node):(front1 F c).Sublist (F++[c]):=by
 unfold front1
 split
 ·exact List.sublist_append_left _ _
 ·exact (List.filter_sublist).append (List.Sublist.refl _)
theorem front_subl:∀(l pre F:List Node),F.Sublist pre→(l.foldl front1 F).Sublist (pre++l)
 |[],pre,F,h=>by rw [List.append_nil];exact h
 |c :: l,pre,F,h=>by
  have:=front_subl l (pre++[c]) (front1 F c) ((front1_sub F c).trans (h.append (List.Sublist.refl _)))
  rw [List.append_assoc] at this
  exact this
theorem front_sub (l:List Node):(frontL l).Sublist l:=front_subl l [] [] (List.Sublist.refl _)
theorem next_nodup (x:Inst) (l:List Node) (up:Int):((x.next l up).map Node.s).Nodup:=onceL_nodup _
def Under (l m:List Node):Prop:=∀n∈l,∃k∈m,k.s=n.s∧k.cost≤n.cost
theorem under_len {l m:List Node} (hl:(l.map Node.s).Nodup) (h:Under l m):l.length≤m.length:=by
 have:=nodup_len (l.map Node.s) (m.map Node.s) hl fun s hs=>by
  obtain ⟨n,hn,rfl⟩:=List.mem_map.1 hs
  obtain ⟨k,hk,e,_⟩:=h n hn
  exact List.mem_map.2 ⟨k,hk,e⟩
 simpa using this
theorem of_less {x:Inst} {n m:Node} {d:Nat} {l:List Node} (hs:m.s=n.s) (hc:0≤m.cost) (hle:m.cost≤n.cost) (hn:n.cost≤1152921504606846976):x.of m≤x.of n:=by
 rw [Inst.of,Inst.of,hs]
 simp only [sumI,List.foldl_cons,List.foldl_nil,sum1]
 omega
theorem under_next {x:Inst} {l m:List Node} {d e:Nat} (hl:Lev x l (d+1)) (hm:Lev x m (e+1)) (h:Under l m) {up up':Int} (hu:up≤up'):Under (x.next l up) (x.next m up'):=by
 intro c hc
 obtain ⟨n,hn,j,hj,rfl,hof⟩:=next_mem hc
 obtain ⟨k,hk,e1,e2⟩:=h n hn
 have hmv:=moves_mem hj
 have hmv':(x.move k.s j).2.2=true:=by rw [e1];exact hmv
 have c1:=child_cost hl hn hmv
 have c2:=child_cost hm hk hmv'
 have hs:(x.child k j).s=(x.child n j).s:=by show (x.move k.s j).1=(x.move n.s j).1;rw [e1]
 have h3:=hl.cost n hn
 have h4:=hm.cost k hk
 have h5:=move_cost hmv
 have hcc:(x.child k j).cost≤(x.child n j).cost:=by rw [c1,c2,e1];omega
 have hof2:x.of (x.child k j)<up':=by
  have:=of_less (x:=x) (d:=0) (l:=[]) hs (by rw [c2,e1];omega) hcc (by rw [c1];omega)
  omega
 obtain ⟨q,q1,q2,q3⟩:=onceL_has (l:=m.flatMap (x.kids up')) (k:=x.child k j) (by
  refine List.mem_flatMap.2 ⟨k,hk,?_⟩
  rw [Inst.kids,List.mem_filter]
  exact ⟨List.mem_map.2 ⟨j,mem_moves hmv',rfl⟩,by simpa using hof2⟩)
 exact ⟨q,q1,q2.trans hs,by omega⟩
theorem layN_lev {x:Inst} {n:Node} (h:Track x n) (up:Int) (k:Nat):Lev x (x.layN up n k) 41:=(Track.wl (fun m hm=>(layN_track h up k m hm).1) (r:=0) (by omega)).lev
theorem exGo_whole {x:Inst} {n:Node} (ht:Track x n) {up:Int} {most:Int} (hw:∀k,((x.layN up n k).length:Int)≤most):∀(d:Nat) (st:Node×Bool×Int) (l:List Node) (s:Int) (k:Nat),Lev x l d→stOk st→st.2.2≤up→(l.map Node.s).Nodup→Under l (x.layN up n k)→
  (x.exGo most d st l s).2.2.1=true
 |0,st,l,s,k,_,_,_,_,_=>rfl
 |d+1,st,l,s,k,hl,h,hu,hn,hun=>by
  rw [Inst.exGo]
  split
  ·rfl
  have hlen:=under_len hn hun
  have:=hw k
  rw [if_neg (by omega)]
  obtain ⟨k1,k2,k3⟩:=look_ok (x:=x) (l:=l) h
  refine exGo_whole ht hw d (x.look st l) _ _ (k+1) (hl.front st.2.2) k1 (by omega) ?_ ?_
  ·exact (next_nodup x l st.2.2).sublist ((front_sub _).map _)
  ·intro c hc
   exact under_next hl (layN_lev ht up k) hun hu c ((front_sub _).subset hc)
theorem buildGo_end {x:Inst} (w up dp:Int) (n:Node):∀(f:Nat) (ls:List (List Node)) (low:Int) (sq:Option Nat) (l:List Node),(sq=none→l=x.layN up n ls.length)→dp+2≤(f:Int)+ls.length→1≤f→(x.buildGo w up dp f ls low sq l).exact=true→
  x.layN up n (x.buildGo w up dp f ls low sq l).layers.length=[]∨dp<(x.buildGo w up dp f ls low sq l).layers.length
 |0,ls,low,sq,l,_,_,h,_=>absurd h (by omega)
 |f+1,ls,low,sq,l,hn,hf,_,he=>by
  rw [Inst.buildGo] at he ⊢
  split
  ·rename_i c0
   rw [if_pos c0] at he
   simp only [Diag.of,Option.isNone_iff_eq_none] at he
   refine .inl ?_
   show x.layN up n ls.length=[]
   rw [←hn he,c0]
  rename_i c0
  rw [if_neg c0] at he
  split
  ·rename_i c1
   refine .inr ?_
   show dp<((ls++[l]).length:Int)
   rw [List.length_append]
   exact c1
  rename_i c1
  rw [if_neg c1] at he
  have hlen:(ls++[l]).length=ls.length+1:=by simp
  split
  ·rename_i c2
   rw [if_pos c2] at he
   exact buildGo_end w up dp n f _ _ _ _ (fun h=>by cases h) (by omega) (by omega) he
  ·rename_i c2
   rw [if_neg c2] at he
   exact buildGo_end w up dp n f _ _ _ _ (fun h=>by rw [hlen,hn h];rfl) (by omega) (by omega) he
theorem layN_nil {x:Inst} {up:Int} {n:Node} {k:Nat} (h:x.layN up n k=[]):∀i,x.layN up n (k+i)=[]
 |0=>h
 |i+1=>by
  show x.next (x.layN up n (k+i)) up=[]
  rw [layN_nil h i]
  rfl
theorem build_thin {x:Inst} (hm:x.may=true) {n:Node} (h:Track x n) (w up:Int) (he:(x.build n w up).exact=true) (k:Nat):(x.layN up n k).length≤x.mostN w:=by
 have hok:=build_ok x n w up
 have hw:=hok.whole
 rw [he] at hw
 have hs:(x.build n w up).sure=(x.build n w up).layers.length:=of_decide_eq_true hw.symm
 have h1:1≤x.mostN w:=by
  have:1≤x.stops.length:=by
   obtain ⟨p,hx⟩:=x.fit hm
   have:=hx.len
   omega
  unfold Inst.mostN
  omega
 by_cases hk:k<(x.build n w up).layers.length
 ·have h2:=hok.lay k (by omega)
  cases k with
  |zero=>exact h1
  |succ k=>
   refine (build_lay n w up h1 (x.layN up n (k+1)) ?_).2
   rw [List.getElem?_eq_getElem hk] at h2
   rw [←Option.some.inj h2]
   rw [List.mem_drop_iff_getElem]
   exact ⟨k,by omega,by simp only [Nat.add_comm 1 k]⟩
 ·have hend:=buildGo_end (x:=x) w up (x.deep-n.path.length) n ((x.deep-n.path.length).toNat+2) [] up none [n] (fun _=>rfl) (by simp only [List.length_nil];omega) (by omega) he
  rw [←Inst.build] at hend
  rcases hend with h3 | h3
  ·obtain ⟨i,rfl⟩:∃i,k=(x.build n w up).layers.length+i:=⟨k-(x.build n w up).layers.length,by omega⟩
   rw [layN_nil h3 i]
   exact Nat.zero_le _
  ·cases hl:x.layN up n k with
   |nil=>exact Nat.zero_le _
   |cons m l=>
    have hmm:m∈x.layN up n k:=by rw [hl];exact List.mem_cons_self
    obtain ⟨t1,t2⟩:=layN_track h up k m hmm
    have:=t1.len
    have:=(deep_meas hm).1
    omega
theorem exact_whole {x:Inst} (hm:x.may=true) {n:Node} (h:Track x n) (w:Int) {up u:Int} (hu:u≤up) (he:(x.build n w up).exact=true):(x.exact n u (x.mostN w)).2.2.1=true:=by
 have hc:=h.cost
 have hf:=h.few
 refine exGo_whole h (up:=up) (fun k=>by have:=build_thin hm h w up he k;omega) _ (Node.zero,false,u) [n] 0 0 (Lev.root h.is.ok h.is.pos h.is.seen (by omega)) (fun h=>by cases h) hu (by simp) ?_
 intro m hm
 exact ⟨n,List.mem_cons_self,by rw [List.mem_singleton.1 hm],by rw [List.mem_singleton.1 hm];exact Int.le_refl _⟩
end Go.Proofs.YtnoifgjiipgpoaaGreatDoor

set_option maxRecDepth 4000
namespace Go.Proofs.YtnoifgjiipgpoaaGreatDoor
open Go Go.Proofs.YtnoifgjiipgpoaaGreatDoor.R
theorem SInv.like {x:Inst} {s t:SS} (h:SInv x s) (h1:t.subs=s.subs) (h2:t.q=s.q) (h3:t.up=s.up) (h4:t.plan=s.plan):SInv x t:=by
 obtain ⟨a,b,c,d,e,f⟩:=s
 obtain ⟨a',b',c',d',e',f'⟩:=t
 simp only at h1 h2 h3 h4
 subst h1;subst h2;subst h3;subst h4
 exact ⟨h.track,h.nos,h.bound,⟨h.found.le,h.found.plan⟩⟩
theorem Covers.like {x:Inst} {s t:SS} {more:Int→Prop} (h:s.Covers x more) (h1:t.subs=s.subs) (h2:t.q=s.q) (h3:t.up=s.up):t.Covers x more:=by
 intro v c hv hc
 rw [h1,h2]
 exact h v c hv (by omega)
theorem Track.fit {x:Inst} {n:Node} (h:Track x n):0≤n.cost∧n.cost≤1152921504606000000:=by
 have:=h.cost
 have:=h.few
 omega
theorem narrow_isWay {x:Inst} {n:Node} (h:Track x n) (w up:Int):x.isWay ((x.narrow n w up).1,(x.narrow n w up).2.1):=by
 intro hs
 obtain ⟨v,c,h1,h2,h3,_⟩:=narrow_from h.is.ok h.is.pos h.is.seen h.fit hs
 simp only
 rw [h2,h3]
 exact h.way h1
theorem exact_isWay {x:Inst} {n:Node} (h:Track x n) (most up:Int):x.isWay ((x.exact n up most).1,(x.exact n up most).2.1):=by
 intro hs
 obtain ⟨v,c,h1,h2,h3,_⟩:=exact_from h.is.ok h.is.pos h.is.seen h.fit hs
 simp only
 rw [h2,h3]
 exact h.way h1
theorem bests_isWay {x:Inst} {l:List Node} (h:∀m∈l,Track x m):x.isWay (x.bests l):=by
 intro hs
 obtain ⟨m,hm,b1,b2,b3⟩:=bests_from hs
 have ht:=h m hm
 have hf:=ht.fit
 have hec:=end_cost b1
 rw [sumI_two hf.1 hec.1 (by omega)] at b2
 have:=ht.way (v:=[]) (c:=(x.endS m.s).1) ⟨b1,rfl⟩
 rw [List.append_nil,←b2,←b3] at this
 exact this
theorem offers_up (x:Inst):∀(ls:List (List Node)) (s:SS),(x.offers s ls).up≤s.up∧(x.offers s ls).subs=s.subs∧(x.offers s ls).q=s.q∧(x.offers s ls).log=s.log∧(x.offers s ls).steps=s.steps
 |[],s=>⟨Int.le_refl _,rfl,rfl,rfl,rfl⟩
 |l :: ls,s=>by
  obtain ⟨h1,h2,h3,h4,h5⟩:=offers_up x ls (s.offer (x.bests l))
  obtain ⟨k1,k2,k3,k4,k5⟩:=offer_up s (x.bests l)
  exact ⟨Int.le_trans h1 k1,h2.trans k2,h3.trans k3,h4.trans k4,h5.trans k5⟩
theorem offers_gets (x:Inst):∀(ls:List (List Node)) (s:SS),∀l∈ls,(x.bests l).2=true→(x.offers s ls).up≤(x.bests l).1.cost
 |[],s,l,hl,_=>by cases hl
 |k :: ls,s,l,hl,hb=>by
  rcases List.mem_cons.1 hl with rfl | hl
  ·exact Int.le_trans (offers_up x ls _).1 (offer_gets s _ hb)
  ·exact offers_gets x ls _ l hl hb
theorem offers_inv {x:Inst} (hm:x.may=true):∀(ls:List (List Node)) (s:SS),SInv x s→(∀l∈ls,∀m∈l,Track x m)→SInv x (x.offers s ls)
 |[],s,h,_=>h
 |l :: ls,s,h,hl=>offers_inv hm ls _ (h.offer hm (bests_isWay (hl l List.mem_cons_self))) fun k hk=>hl k (List.mem_cons_of_mem _ hk)
theorem offers_cov {x:Inst} {more:Int→Prop}:∀(ls:List (List Node)) (s:SS),s.Covers x more→(x.offers s ls).Covers x more
 |[],s,h=>h
 |l :: ls,s,h=>offers_cov ls _ (Covers.offer h _)
theorem layN_goes {x:Inst} (hst:x.stops.length<2^31) {n:Node} (h:Track x n) {up c:Int} (hg:x.goesOn n c) (hc:c<up):∀(k:Nat),(∀i,i<k→(x.bests (x.layN up n i)).2=true→c<(x.bests (x.layN up n i)).1.cost)→∃m∈x.layN up n k,x.goesOn m c
 |0,_=>⟨n,List.mem_cons_self,hg⟩
 |k+1,hno=>by
  obtain ⟨m,hm,v,d,hv,hd⟩:=layN_goes hst h hg hc k fun i hi=>hno i (by omega)
  have hl:=layN_lev h up k
  match v,hv with
  |[],hv=>
   obtain ⟨b1,b2⟩:=bests_has hm hv.1
   rw [end_sum hl hm hv.1,←hv.2] at b2
   have:=hno k (by omega) b1
   omega
  |j :: v,hv=>
   obtain ⟨g1,e,g2,g3⟩:=hv
   obtain ⟨q,hq,q1,q2⟩:=next_way hst hl hm g1 g2 (up:=up) (by omega)
   exact ⟨q,hq,v,e,by rw [q1];exact g2,by omega⟩
theorem sure_get {x:Inst} {up:Int} {n:Node} {d:Diag} (h:d.Ok x up n) {i:Nat} (hi:i<d.sure):∃hl:i<d.layers.length,d.layers[i]=x.layN up n i:=by
 have:=h.lay i hi
 have hl:i<d.layers.length:=by have:=h.le;omega
 rw [List.getElem?_eq_getElem hl] at this
 exact ⟨hl,Option.some.inj this⟩
theorem branch_ok {x:Inst} (hst:x.stops.length<2^31) (hm:x.may=true) {n:Node} (ht:Track x n) (w:Int) {s:SS} (h:SInv x s) (hc:s.Covers x (x.goesOn n)):SInv x (x.branch (x.build n w s.up) s)∧(x.branch (x.build n w s.up) s).Covers x fun _=>False:=by
 have hok:=build_ok x n w s.up
 have hbw:=fun (v:List Int) (c:Int) (hv:x.way v n.s c)=>build_way hst hm ht w s.up hv
 generalize x.build n w s.up=d at *
 rw [Inst.branch]
 have hpos:=hok.pos
 obtain ⟨hl,hlast⟩:=sure_get hok (i:=d.sure-1) (by omega)
 rw [List.getD_eq_getElem?_getD,List.getElem?_eq_getElem hl,Option.getD_some,hlast]
 have hin:∀l∈d.layers.take (d.sure-1),∃i,i<d.sure-1∧l=x.layN s.up n i:=by
  intro l hl
  obtain ⟨i,hi,e⟩:=List.getElem_of_mem hl
  rw [List.length_take] at hi
  obtain ⟨hl2,e2⟩:=sure_get hok (i:=i) (by omega)
  refine ⟨i,by omega,?_⟩
  rw [←e,List.getElem_take,e2]
 have hof:∀i,i<d.sure-1→x.layN s.up n i∈d.layers.take (d.sure-1):=by
  intro i hi
  obtain ⟨hl2,e2⟩:=sure_get hok (i:=i) (by omega)
  rw [←e2]
  exact List.mem_take_iff_getElem.2 ⟨i,by omega,rfl⟩
 have h3:=offers_inv hm (d.layers.take (d.sure-1)) s h fun l hl m hmm=>by
  obtain ⟨i,_,rfl⟩:=hin l hl
  exact (layN_track ht s.up i m hmm).1
 have hc3:=offers_cov (d.layers.take (d.sure-1)) s hc
 have hup:=(offers_up x (d.layers.take (d.sure-1)) s).1
 have hget:=fun i hi=>offers_gets x (d.layers.take (d.sure-1)) s _ (hof i hi)
 generalize x.offers s (d.layers.take (d.sure-1))=t at *
 refine ⟨pushes_inv d.low _ t h3 fun m hmm=>?_,fun v c hv hcl=>?_⟩
 ·have htm:=(layN_track ht s.up _ m hmm).1
  refine ⟨htm,fun v c hv hlt=>?_⟩
  have h4:=of_way hst htm hv
  obtain ⟨u,hu⟩:=layN_way ht s.up _ m hmm v c hv
  have:=hbw _ _ hu (by omega)
  omega
 ·rw [(pushes_up x d.low _ t).1] at hcl
  refine .inr ?_
  rcases hc3 v c hv hcl with hg | hq
  ·obtain ⟨m,hmm,hgm⟩:=layN_goes hst ht hg (up:=s.up) (by omega) (d.sure-1) fun i hi hb=>by
    have:=hget i hi hb
    omega
   obtain ⟨v',d',hv',hd'⟩:=hgm
   have htm:=(layN_track ht s.up _ m hmm).1
   have h4:=of_way hst htm hv'
   obtain ⟨u,hu⟩:=layN_way ht s.up _ m hmm v' d' hv'
   have:=hbw _ _ hu (by omega)
   exact pushes_has d.low _ t c m hmm ⟨v',d',hv',hd'⟩ (by omega)
  ·exact pushes_keep d.low _ t c hq
theorem look_ok2 {x:Inst} (hst:x.stops.length<2^31) (hm:x.may=true) {n:Node} (ht:Track x n) (w:Int) {s:SS} (h:SInv x s) (hc:s.Covers x (x.goesOn n)):SInv x (x.lookS w s n)∧(x.lookS w s n).Covers x fun _=>False:=by
 rw [Inst.lookS]
 have hs1:SInv x (s.nar x w n):=by
  rw [SS.nar]
  exact SInv.offer hm (h.like (t:=s.plus _) rfl rfl rfl rfl) (narrow_isWay ht w s.up)
 have hc1:(s.nar x w n).Covers x (x.goesOn n):=by
  rw [SS.nar]
  exact Covers.offer (Covers.like (t:=s.plus _) hc rfl rfl rfl) _
 generalize s.nar x w n=t at *
 have hbw:=fun (v:List Int) (c:Int) (hv:x.way v n.s c)=>build_way hst hm ht w t.up hv
 have hbr:=branch_ok hst hm ht w (s:=t.dia n (x.build n w t.up)) (hs1.like rfl rfl rfl rfl) (Covers.like hc1 rfl rfl rfl)
 have hex:=exact_whole hm ht w (up:=t.up) (u:=t.up) (Int.le_refl _)
 have hdu:(t.dia n (x.build n w t.up)).up=t.up:=rfl
 rw [hdu] at hbr
 generalize x.build n w t.up=d at *
 have hs2:SInv x (t.dia n d):=hs1.like rfl rfl rfl rfl
 have hc2:(t.dia n d).Covers x (x.goesOn n):=Covers.like hc1 rfl rfl rfl
 rw [Inst.lookD]
 split
 ·rename_i c1
  refine ⟨hs2,fun v c hv hlt=>?_⟩
  rcases hc2 v c hv hlt with ⟨v',d',hv',hd'⟩ | hq
  ·have:=hbw v' d' hv' (by rw [hdu] at hlt;omega)
   rw [hdu] at hlt
   omega
  ·exact .inr hq
 split
 ·rename_i c2
  have hall:=hex c2
  rw [SS.exa,hdu]
  have hs3:SInv x ((t.dia n d).plus (x.exact n t.up (x.mostN w)).2.2.2):=hs2.like rfl rfl rfl rfl
  have hc3:((t.dia n d).plus (x.exact n t.up (x.mostN w)).2.2.2).Covers x (x.goesOn n):=Covers.like hc2 rfl rfl rfl
  have hu3:((t.dia n d).plus (x.exact n t.up (x.mostN w)).2.2.2).up=t.up:=rfl
  generalize (t.dia n d).plus (x.exact n t.up (x.mostN w)).2.2.2=z at *
  refine ⟨hs3.offer hm (exact_isWay ht _ _),fun v c hv hlt=>?_⟩
  have hle:=offer_up z ((x.exact n t.up (x.mostN w)).1,(x.exact n t.up (x.mostN w)).2.1)
  have hle1:=hle.1
  rcases hc3 v c hv (by omega) with ⟨v',d',hv',hd'⟩ | hq
  ·obtain ⟨e1,e2⟩:=exact_has hst ht.is.ok ht.is.pos ht.is.seen ht.fit hall hv' (by omega)
   have:=offer_gets z ((x.exact n t.up (x.mostN w)).1,(x.exact n t.up (x.mostN w)).2.1) e1
   simp only at this
   omega
  ·rw [hle.2.1,hle.2.2.1]
   exact .inr hq
 ·exact hbr
end Go.Proofs.YtnoifgjiipgpoaaGreatDoor

set_option maxRecDepth 4000
namespace Go.Proofs.YtnoifgjiipgpoaaGreatDoor
open Go Go.Proofs.YtnoifgjiipgpoaaGreatDoor.R
structure Opt where
 width:Int
 order:Int
 budget:Int
structure SRes where
 status:Int
 plan:List (List Int)
 up:Int
 low:Int
 steps:Int
 log:List (Node×Diag)
def Ent.zero:Ent:=⟨0,0,0⟩
def lessE (o:Int) (a b:Ent):Bool:=
 if o=0 then decide (a.bound<b.bound∨a.bound=b.bound∧(b.depth<a.depth∨a.depth=b.depth∧a.no<b.no))
 else if o=1 then decide (b.depth<a.depth∨a.depth=b.depth∧(a.bound<b.bound∨a.bound=b.bound∧a.no<b.no))
 else decide (a.no<b.no∨a.no=b.no∧(a.bound<b.bound∨a.bound=b.bound∧a.depth<b.depth))
def minI (o:Int) (q:List Ent):Nat:=(List.range q.length).foldl (fun k i=>if lessE o (q.getD i Ent.zero) (q.getD k Ent.zero)=true then i else k) 0
def takeQ (o:Int) (q:List Ent):Option (Ent×List Ent):=if q=[] then none else some (q.getD (minI o q) Ent.zero,q.take (minI o q)++q.drop (minI o q+1))
def leastQ:List Ent→Int
 |[]=>inf
 |e :: l=>l.foldl (fun n f=>min n f.bound) e.bound
def SS.ends (s:SS):SRes:=⟨if s.up<inf then 2 else 3,s.plan,s.up,s.up,s.steps,s.log⟩
def SS.stop (s:SS) (e:Ent):SRes:=⟨4,s.plan,s.up,min s.up (min e.bound (leastQ s.q)),s.steps,s.log⟩
def SS.left (s:SS) (q:List Ent):SS:={s with q:=q}
def Inst.runGo (x:Inst) (o:Opt):Nat→SS→Option SRes
 |0,_=>none
 |f+1,s=>match takeQ o.order s.q with
  |none=>some s.ends
  |some (e,q)=>if s.up≤e.bound then x.runGo o f (s.left q) else if o.budget≤s.steps then some ((s.left q).stop e) else x.runGo o f (x.lookS o.width (s.left q) (s.subs.getD e.no Node.zero))
def Inst.start (x:Inst):SS:=x.push 0 ⟨[],[],inf,[],0,[]⟩ x.rootN
theorem minI_go (o:Int) (q:List Ent):∀(l:List Nat) (k:Nat),k<q.length→(∀i∈l,i<q.length)→l.foldl (fun k i=>if lessE o (q.getD i Ent.zero) (q.getD k Ent.zero)=true then i else k) k<q.length
 |[],k,h,_=>h
 |i :: l,k,h,hl=>by
  rw [List.foldl_cons]
  refine minI_go o q l _ ?_ fun j hj=>hl j (List.mem_cons_of_mem _ hj)
  split
  ·exact hl i List.mem_cons_self
  ·exact h
theorem minI_lt (o:Int) {q:List Ent} (h:q≠[]):minI o q<q.length:=
 minI_go o q _ 0 (List.length_pos_iff.2 h) fun i hi=>List.mem_range.1 hi
theorem take_none {o:Int} {q:List Ent} (h:takeQ o q=none):q=[]:=by
 unfold takeQ at h
 split at h
 ·assumption
 ·cases h
theorem take_some {o:Int} {q:List Ent} {e:Ent} {q':List Ent} (h:takeQ o q=some (e,q')):e∈q∧(∀f∈q,f=e∨f∈q')∧(∀f∈q',f∈q)∧q.length=q'.length+1:=by
 unfold takeQ at h
 split at h
 ·cases h
 rename_i hq
 have hk:=minI_lt o hq
 generalize minI o q=k at *
 obtain ⟨rfl,rfl⟩:=Prod.mk.inj (Option.some.inj h)
 have hd:q=q.take k++q[k] :: q.drop (k+1):=by rw [←List.drop_eq_getElem_cons hk,List.take_append_drop]
 have hg:q.getD k Ent.zero=q[k]:=by rw [List.getD_eq_getElem?_getD,List.getElem?_eq_getElem hk];rfl
 rw [hg]
 refine ⟨List.getElem_mem _,fun f hf=>?_,fun f hf=>?_,?_⟩
 ·rw [hd] at hf
  rcases List.mem_append.1 hf with hf | hf
  ·exact .inr (List.mem_append_left _ hf)
  ·rcases List.mem_cons.1 hf with hf | hf
   ·exact .inl hf
   ·exact .inr (List.mem_append_right _ hf)
 ·rcases List.mem_append.1 hf with hf | hf
  ·exact List.mem_of_mem_take hf
  ·exact List.mem_of_mem_drop hf
 ·rw [List.length_append,List.length_take,List.length_drop]
  omega
theorem least_fold:∀(l:List Ent) (n:Int),l.foldl (fun n f=>min n f.bound) n≤n∧∀f∈l,l.foldl (fun n f=>min n f.bound) n≤f.bound
 |[],n=>⟨Int.le_refl _,fun f hf=>by cases hf⟩
 |e :: l,n=>by
  obtain ⟨h1,h2⟩:=least_fold l (min n e.bound)
  rw [List.foldl_cons]
  refine ⟨by omega,fun f hf=>?_⟩
  rcases List.mem_cons.1 hf with rfl | hf
  ·omega
  ·exact h2 f hf
theorem least_le {q:List Ent} {f:Ent} (h:f∈q):leastQ q≤f.bound:=by
 cases q with
 |nil=>cases h
 |cons e l=>
  obtain ⟨h1,h2⟩:=least_fold l e.bound
  rcases List.mem_cons.1 h with rfl | h
  ·exact h1
  ·exact h2 f h
structure Told (x:Inst) (r:SRes):Prop where
 le:r.up≤inf
 plan:r.up<inf→x.cost r.plan=(r.up,0)
 low:∀v c,x.way v x.rootS c→r.low≤c
 less:r.low≤r.up
 status:(r.status=2∧r.low=r.up∧r.up<inf)∨(r.status=3∧r.low=inf∧r.up=inf)∨(r.status=4∧r.low<r.up)
theorem SInv.left {x:Inst} {s:SS} (h:SInv x s) {q:List Ent} (hq:∀f∈q,f∈s.q):SInv x (s.left q):=
 ⟨h.track,fun e he=>h.nos e (hq e he),fun e he=>h.bound e (hq e he),⟨h.found.le,h.found.plan⟩⟩
theorem Covers.left {x:Inst} {s:SS} (hs:SInv x s) (h:s.Covers x fun _=>False) {q:List Ent} {e:Ent} (hq:∀f∈s.q,f=e∨f∈q) {n:Node} (hn:s.subs[e.no]? =some n):(s.left q).Covers x (x.goesOn n):=by
 intro v c hv hc
 rcases h v c hv hc with hf | ⟨f,hf,m,hm,hg⟩
 ·exact hf.elim
 ·rcases hq f hf with rfl | hf
  ·rw [hn] at hm
   cases hm
   exact .inl hg
  ·exact .inr ⟨f,hf,m,hm,hg⟩
theorem run_told {x:Inst} (hst:x.stops.length<2^31) (hm:x.may=true) (o:Opt):∀(f:Nat) (s:SS) (r:SRes),SInv x s→s.Covers x (fun _=>False)→x.runGo o f s=some r→Told x r
 |0,s,r,_,_,h=>by cases h
 |f+1,s,r,hs,hc,h=>by
  rw [Inst.runGo] at h
  cases ht:takeQ o.order s.q with
  |none=>
   rw [ht] at h
   have hq:=take_none ht
   have:r=s.ends:=(Option.some.inj h).symm
   subst this
   have hno:∀v c,x.way v x.rootS c→s.up≤c:=fun v c hv=>by
    by_cases hlt:c<s.up
    ·rcases hc v c hv hlt with hf | ⟨e,he,_⟩
     ·exact hf.elim
     ·rw [hq] at he;cases he
    ·omega
   refine ⟨hs.found.le,hs.found.plan,hno,Int.le_refl _,?_⟩
   have hle:=hs.found.le
   by_cases hu:s.up<inf
   ·exact .inl ⟨if_pos hu,rfl,hu⟩
   ·exact .inr (.inl ⟨if_neg hu,by show s.up=inf;omega,by show s.up=inf;omega⟩)
  |some p=>
   obtain ⟨e,q⟩:=p
   rw [ht] at h
   simp only at h
   obtain ⟨t1,t2,t3,t4⟩:=take_some ht
   obtain ⟨n,hn⟩:=hs.nos e t1
   have hb:=hs.bound e t1 n hn
   have hcl:=Covers.left hs hc t2 hn
   have hsl:=hs.left t3
   by_cases c1:s.up≤e.bound
   ·rw [if_pos c1] at h
    refine run_told hst hm o f _ r hsl (fun v c hv hlt=>?_) h
    rcases hcl v c hv hlt with ⟨v',d',hv',hd'⟩ | hq
    ·have hlt':c<s.up:=hlt
     have:=hb v' d' hv' (by omega)
     omega
    ·exact .inr hq
   rw [if_neg c1] at h
   by_cases c2:o.budget≤s.steps
   ·rw [if_pos c2] at h
    have:r=(s.left q).stop e:=(Option.some.inj h).symm
    subst this
    have hlow:((s.left q).stop e).low=min s.up (min e.bound (leastQ q)):=rfl
    refine ⟨hs.found.le,hs.found.plan,fun v c hv=>?_,?_,.inr (.inr ⟨rfl,?_⟩)⟩
    ·rw [hlow]
     by_cases hlt:c<s.up
     ·rcases hcl v c hv hlt with ⟨v',d',hv',hd'⟩ | ⟨g,hg,m,hm',v',d',hv',hd'⟩
      ·have:=hb v' d' hv' (by omega)
       omega
      ·have:=hs.bound g (t3 g hg) m hm' v' d' hv' (by omega)
       have:leastQ q≤g.bound:=least_le hg
       omega
     ·omega
    ·rw [hlow];show _≤s.up;omega
    ·rw [hlow];show _<s.up;omega
   ·rw [if_neg c2] at h
    have hgd:s.subs.getD e.no Node.zero=n:=by rw [List.getD_eq_getElem?_getD,hn];rfl
    rw [hgd] at h
    obtain ⟨k1,k2⟩:=look_ok2 hst hm (hs.track n (List.mem_of_getElem? hn)) o.width hsl hcl
    exact run_told hst hm o f _ r k1 k2 h
theorem start_ok {x:Inst} (hst:x.stops.length<2^31) (hm:x.may=true):SInv x x.start∧x.start.Covers x fun _=>False:=by
 have ht:=track_root hm
 have h0:SInv x ⟨[],[],inf,[],0,[]⟩:=⟨fun n hn=>by simp at hn,fun e he=>by simp at he,fun e he=>by simp at he,⟨Int.le_refl _,fun h=>absurd h (Int.lt_irrefl _)⟩⟩
 have hof:∀v c,x.way v x.rootN.s c→max 0 (x.of x.rootN)≤x.rootN.cost+c:=fun v c hv=>by
  have h1:=of_way hst ht hv
  have h2:=way_in hv
  have h3:=ht.cost
  omega
 refine ⟨h0.push 0 ht fun v c hv _=>hof v c hv,fun v c hv hlt=>?_⟩
 rw [Inst.start,(push_up x 0 _ x.rootN).1] at hlt
 refine .inr (push_has ⟨v,c,hv,?_⟩ ?_)
 ·show (0:Int)+c≤c;omega
 ·have:=hof v c hv
  have h0:x.rootN.cost=0:=rfl
  have:c<inf:=hlt
  show _<inf
  omega
end Go.Proofs.YtnoifgjiipgpoaaGreatDoor

set_option maxRecDepth 4000
namespace Go.Proofs.YtnoifgjiipgpoaaGreatDoor
open Go Go.Proofs.YtnoifgjiipgpoaaGreatDoor.R
def Opt.cs (o:Opt):List AV:=[.i o.width,.i o.order,.i o.budget]
def Opt.a (o:Opt):AV:=.agg o.cs
def Opt.mayB (o:Opt):Bool:=decide ((1≤o.width∧o.width≤1048576)∧(0≤o.order∧o.order≤2)∧(0≤o.budget∧o.budget≤549755813888))
def Opt.near (o:Opt):Opt:=⟨min (max o.width 1) 1048576,min (max o.order 0) 2,min (max o.budget 0) 549755813888⟩
theorem near_self (o:Opt):decide (o.width=o.near.width∧o.order=o.near.order∧o.budget=o.near.budget)=o.mayB:=by
 refine decide_eq_decide.2 ?_
 simp only [Opt.near]
 omega
theorem bounded_pure (o:Opt):Pure P 61 [o.a] (o.near.a):=by
 refine pure_of Tryz.func61 rfl rfl (by simp [Tryz.f61]) (by simp [bnd,bnd.bndL,Opt.a,Opt.cs]) (by simp [bnd,bnd.bndL,Opt.a,Opt.cs]) fun B hB hnx=>?_
 simp only [Tryz.f61] at hB ⊢
 refine K_run hB 100 ?_
 simp [go_sem,Opt.a,Opt.cs]
 exact ⟨rfl,rfl,rfl⟩
theorem opt_guard:P.eqGuardType P.depth 36=false:=by kernel_rfl
theorem opt_stood:P.stoodInHeld 36=false:=by kernel_rfl
theorem opt_eq (a b:Opt):eqA P 10000 36 a.a b.a=some (decide (a.width=b.width∧a.order=b.order∧a.budget=b.budget)):=by
 simp [go_sem,Opt.a,Opt.cs,opt_stood]
theorem omay_pure (o:Opt):Pure P 25 [o.a] (.b o.mayB):=by
 refine pure_of Tryz.func25 rfl rfl (by simp [Tryz.f25]) (by simp [bnd,bnd.bndL,Opt.a,Opt.cs]) (by simp [bnd,bnd.bndL]) fun B hB hnx=>?_
 simp only [Tryz.f25] at hB ⊢
 have h:=bounded_pure o
 have hn:=near_self o
 generalize o.near=p at *
 refine K_run hB 100 ?_
 simp [go_sem,Opt.a,Opt.cs]
 refine K_drawn [] rfl (by rw [hB];kernel_rfl) ?_
 refine K_run hB 100 ?_
 simp [go_sem]
 refine K_dCallP rfl rfl rfl (args:=[o.a]) (f:=61) (by simp [go_sem,Opt.a,Opt.cs]) (h) ?_
 refine K_dEq (op:=.eql) (t:=36) (t':=36) (x:=.tmp 3) (y:=.tmp 5) (xs:=o.cs) (ys:=p.cs) (by simp [go_sem]) rfl (by simp [go_sem,Opt.cs]) (by simp [go_sem,Opt.a,Opt.cs]) opt_guard (opt_eq o p) rfl ?_
 rw [hn]
 refine K_run hB 100 ?_
 simp [go_sem]
end Go.Proofs.YtnoifgjiipgpoaaGreatDoor

set_option maxRecDepth 4000
set_option maxHeartbeats 1000000
namespace Go.Proofs.YtnoifgjiipgpoaaGreatDoor
open Go Go.Proofs.YtnoifgjiipgpoaaGreatDoor.R
def zeroO:Opt:=⟨0,0,0⟩
def optOf (r:List Int):Opt:=⟨r.getD 0 0,r.getD 1 0,r.getD 2 0⟩
def optsL (l:List (List Int)):Opt×Int:=
 if l.length=1∧(l.headD []).length=3 then (if (optOf (l.headD [])).mayB=true then (optOf (l.headD []),0) else (zeroO,1)) else (zeroO,2)
def optsR (b:List Nat):Opt×Int:=if (linesR b).2≠0 then (zeroO,(linesR b).2) else optsL (linesR b).1
theorem oparse_pure (b:List Nat) (hb:b.length<2^63) (hb8:∀c∈b,c<256):Pure P 17 [.t (.sl (byt b))] (.tup [(optsR b).1.a,.i (optsR b).2]):=by
 generalize hR:optsR b=R
 refine pure_of Tryz.func17 rfl rfl (by simp [Tryz.f17]) (by simp [bnd,bnd.bndL]) (by simp [bnd,bnd.bndL,Opt.a,Opt.cs]) fun B hB hnx=>?_
 simp only [Tryz.f17] at hB ⊢
 rw [optsR] at hR
 have hrow:=linesR_row b
 have hp:=linesB_pure b hb hb8
 refine K_run hB 100 ?_
 simp [go_sem]
 refine K_call rfl rfl rfl (args:=[.t (.sl (byt b))]) (f:=40) (by simp [go_sem]) (by simp [go_sem,hB]) ((hp).spec _ _) ?_
 generalize (linesR b).1=l at *
 generalize (linesR b).2=e at *
 by_cases ce:e=0
 rotate_left
 ·rw [if_pos ce] at hR
  subst hR
  refine K_run hB 100 ?_
  simp [go_sem,ce,Opt.a,Opt.cs,zeroO]
 subst ce
 rw [if_neg (by simp)] at hR
 match l with
 |[]=>
  rw [optsL,if_neg (by simp)] at hR
  subst hR
  refine K_run hB 100 ?_
  simp [go_sem,Opt.a,Opt.cs,zeroO]
 |r :: s :: l=>
  rw [optsL,if_neg (by simp)] at hR
  subst hR
  have h1:¬(l.length:Int)+1+1=1:=by omega
  refine K_run hB 100 ?_
  simp [go_sem,h1,Opt.a,Opt.cs,zeroO]
 |[r]=>
  have hil:(ints r).length=r.length:=List.length_map _
  by_cases h3:(r.length:Int)=3
  rotate_left
  ·rw [optsL,if_neg (by simp;omega)] at hR
   subst hR
   refine K_run hB 100 ?_
   simp [go_sem,rowT,hil,h3,Opt.a,Opt.cs,zeroO]
  obtain ⟨u,v,w,rfl⟩:∃u v w,r=[u,v,w]:=by
   match r,h3 with
   |[u,v,w],_=>exact ⟨u,v,w,rfl⟩
  rw [optsL,if_pos (by simp)] at hR
  have ho:=omay_pure ⟨u,v,w⟩
  have e1:optOf ([[u,v,w]].headD [])=⟨u,v,w⟩:=rfl
  rw [e1] at hR
  refine K_run hB 100 ?_
  simp [go_sem,rowT,ints]
  refine K_arrp (es:=[[.i u],[.i v],[.i w]]) rfl (by simp [go_sem,hB]) rfl tt81 rfl (by simp [go_sem]) (by simp) (by simp) ?_
  refine K_run hB 100 ?_
  simp [go_sem]
  refine K_call rfl rfl rfl (args:=[(⟨u,v,w⟩:Opt).a]) (f:=25) (by simp [go_sem,Opt.a,Opt.cs]) (by simp [go_sem,hB]) ((ho).spec _ _) ?_
  cases co:Opt.mayB ⟨u,v,w⟩ with
  |true=>
   rw [co,if_pos rfl] at hR
   subst hR
   refine K_run hB 100 ?_
   simp [go_sem,Opt.a,Opt.cs]
  |false=>
   rw [co,if_neg (by decide)] at hR
   subst hR
   refine K_run hB 100 ?_
   simp [go_sem,Opt.a,Opt.cs,zeroO]
end Go.Proofs.YtnoifgjiipgpoaaGreatDoor

set_option maxRecDepth 4000
namespace Go.Proofs.YtnoifgjiipgpoaaGreatDoor
open Go Go.Proofs.YtnoifgjiipgpoaaGreatDoor.R
def enc (n:Nat):List Nat:=if h:128≤n then (n % 128+128) :: enc (n / 128) else [n]
  decreasing_by omega
def cbyt (l:List Nat):List (List T):=l.map fun (n:Nat)=>[T.v (.int .u8 n)]
theorem enc_ge {n:Nat} (h:128≤n):enc n=(n % 128+128) :: enc (n / 128):=by rw [enc,dif_pos h]
theorem enc_lt {n:Nat} (h:¬128≤n):enc n=[n]:=by rw [enc,dif_neg h]
theorem cbyt_len (l:List Nat):(cbyt l).length=l.length:=List.length_map _
theorem byt_all (l:List Nat):∀y∈cbyt l,y.length=1:=by
 intro y hy
 obtain ⟨n,_,rfl⟩:=List.mem_map.1 hy
 rfl
theorem enc_len (k:Nat):∀n,n<128^(k+1)→(enc n).length≤k+1:=by
 induction k with
 |zero=>intro n hn;rw [enc_lt (by omega)];simp
 |succ k ih=>
  intro n hn
  by_cases h:128≤n
  ·rw [enc_ge h]
   have:=ih (n / 128) (by rw [Nat.div_lt_iff_lt_mul (by omega)];rw [Nat.pow_succ] at hn;omega)
   simp;omega
  ·rw [enc_lt h];simp
theorem enc_len64 {n:Nat} (h:n<2^64):(enc n).length≤10:=enc_len 9 n (by omega)
theorem enc_pos (n:Nat):1≤(enc n).length:=by
 by_cases h:128≤n
 ·rw [enc_ge h];simp
 ·rw [enc_lt h];simp
end Go.Proofs.YtnoifgjiipgpoaaGreatDoor

set_option maxRecDepth 4000
namespace Go.Proofs.YtnoifgjiipgpoaaGreatDoor
open Go Go.Proofs.YtnoifgjiipgpoaaGreatDoor.R
structure Wr (σ:Nat→AObj) (nx q j:Nat) (e:Int) (l:List Nat):Prop where
 box:σ q= .box [.ref j,.i e]
 arr:σ j= .arr 1 (cbyt l)
 ne:j≠q
 ql:q<nx
 jl:j<nx
structure Wrote (σ:Nat→AObj) (nx q j:Nat) (σ':Nat→AObj) (nx':Nat) (e:Int) (l:List Nat):Prop where
 le:nx≤nx'
 wr:∃j',Wr σ' nx' q j' e l∧(j'=j∨nx≤j')
 old:∀i,i<nx→i≠q→i≠j→σ' i=σ i
theorem or128 (m:Nat):bor .u8 (IntKind.u8.wrap m) 128=((m % 128+128:Nat):Int):=by
 have h:∀x:BitVec 8,(x|||128#8).toNat=x.toNat % 128+128:=by decide
 have e:IntKind.u8.wrap (m:Int)=((m % 256:Nat):Int):=by
  simp only [IntKind.wrap,IntKind.bits,IntKind.signed];simp
 have h2:=h (BitVec.ofInt 8 (IntKind.u8.wrap m))
 show IntKind.u8.wrap ((BitVec.ofInt 8 (IntKind.u8.wrap m)|||128#8).toNat:Int)=_
 rw [h2,e,BitVec.ofInt_natCast,BitVec.toNat_ofNat,u8w _ (by omega)]
 omega
theorem Wrote.trans {σ σ' σ'':Nat→AObj} {nx nx' nx'' q j j':Nat} {e e':Int} {l l':List Nat} (h:Wrote σ nx q j σ' nx' e l) (hw:Wr σ' nx' q j' e l) (hj:j'=j∨nx≤j') (k:Wrote σ' nx' q j' σ'' nx'' e' l'):Wrote σ nx q j σ'' nx'' e' l':=by
 refine ⟨Nat.le_trans h.le k.le,?_,fun i h1 h2 h3=>?_⟩
 ·obtain ⟨x,h1,h2⟩:=k.wr
  refine ⟨x,h1,?_⟩
  have:=h.le
  rcases h2 with rfl | h2
  ·exact hj
  ·exact .inr (by omega)
 ·have:=h.le
  rw [k.old i (by omega) h2 (by omega),h.old i h1 h2 h3]
theorem Wr.app {σ:Nat→AObj} {nx q j:Nat} {e:Int} {l:List Nat} (h:Wr σ nx q j e l) (y:Nat):
  Wr (oput (oput (oput σ j .dead) nx (.arr 1 (cbyt l++[[.v (.int .u8 y)]]))) q (.box [.ref nx,.i e])) (nx+1) q nx e (l++[y])∧
  Wrote σ nx q j (oput (oput (oput σ j .dead) nx (.arr 1 (cbyt l++[[.v (.int .u8 y)]]))) q (.box [.ref nx,.i e])) (nx+1) e (l++[y]):=by
 obtain ⟨b1,b2,b3,b4,b5⟩:=h
 have hnq:nx≠q:=by omega
 have hw:Wr (oput (oput (oput σ j .dead) nx (.arr 1 (cbyt l++[[.v (.int .u8 y)]]))) q (.box [.ref nx,.i e])) (nx+1) q nx e (l++[y]):=
  ⟨by simp [oput],by simp [oput,hnq,cbyt],by omega,by omega,by omega⟩
 refine ⟨hw,by omega,⟨nx,hw,.inr (Nat.le_refl _)⟩,fun i h1 h2 h3=>?_⟩
 simp [oput,h2,h3,Nat.ne_of_lt h1]
theorem wide_spec {σ:Nat→AObj} {nx q j:Nat} {e:Int} {l:List Nat} (h:Wr σ nx q j e l) (n:Nat) (hn:n<2^64) (hl:l.length+10≤mostLen):
  CallQ P 166 [.ptr q 0,.u n] σ nx fun r σ' nx'=>Wrote σ nx q j σ' nx' e (l++enc n):=by
 have hlen:=enc_len64 hn
 refine spec_of Tryz.func166 rfl rfl (by simp [Tryz.f166]) fun B hn hnx hσ=>?_
 simp only [Tryz.f166] at hn ⊢
 refine K_scopeH (α:=Nat×List Nat×Nat×(Nat→AObj)×Nat) (fun x=>x.2.1++enc x.1=l++enc n∧x.1≤n∧(x.2.2.1=j∨nx≤x.2.2.1)∧Wrote σ nx q j x.2.2.2.1 x.2.2.2.2 e x.2.1∧Wr x.2.2.2.1 x.2.2.2.2 q x.2.2.1 e x.2.1)
  (fun x=>⟨sl [(0,.ptr q 0),(1,.u x.1)],x.2.2.2.1,x.2.2.2.2⟩) (fun x=>x.1) (n,l,j,σ,nx) ⟨rfl,Nat.le_refl _,.inl rfl,⟨Nat.le_refl _,⟨j,h,.inl rfl⟩,fun _ _ _ _=>rfl⟩,h⟩ (Imp.keep (by simp [go_sem])) ?_
 rintro ⟨m,l',j',σ',nx'⟩ ⟨h1,h2,h0,h3,h4⟩
 simp only at h1 h2 h3 h4 h0
 have hl:l'.length+1≤mostLen:=by
  have h3:=congrArg List.length h1
  have h4:=enc_pos m
  simp at h3
  omega
 have b:=h4
 obtain ⟨b1,b2,b3,b4,b5⟩:=b
 have n1:q≠nx':=Nat.ne_of_lt b4
 have n2:=b3.symm
 refine K_run hn 60 ?_
 simp [go_sem]
 refine fork_dec (fun h=>?_) (fun h=>?_)
 ·simp [go_sem,b1,b2,n1,n2,byt_all,cbyt_len,hl]
  rw [or128,Int.fdiv_eq_ediv_of_nonneg _ (by omega)]
  obtain ⟨g1,g2⟩:=h4.app (m % 128+128)
  refine Next.mk (m / 128,l'++[m % 128+128],nx',_,nx'+1) ⟨?_,?_,?_,h3.trans h4 h0 g2,g1⟩ (Imp.same ?_ ?_ rfl) ?_
  ·rw [←h1,enc_ge (n:=m) (by omega)];simp
  ·simp only;omega
  ·exact .inr h3.le
  ·intro i
   simp only [sl_cons,sl_nil]
   split
   ·subst_vars;exact .inr (by simp [go_sem])
   ·split
    ·subst_vars;exact .inr (by simp [go_sem])
    ·exact .inl rfl
  ·exact fun i=>.inr rfl
  ·simp only;omega
 ·simp [go_sem,b1,b2,n1,n2,byt_all,cbyt_len,hl]
  simp (disch:=omega) only [u8w]
  obtain ⟨g1,g2⟩:=h4.app m
  refine ⟨by have:=h3.le;omega,?_⟩
  rw [←h1,enc_lt (by omega)]
  exact h3.trans h4 h0 g2
end Go.Proofs.YtnoifgjiipgpoaaGreatDoor

set_option maxRecDepth 4000
namespace Go.Proofs.YtnoifgjiipgpoaaGreatDoor
open Go Go.Proofs.YtnoifgjiipgpoaaGreatDoor.R
def un (n:Int):Nat:=(n % 18446744073709551616).toNat
theorem un_wrap (n:Int):IntKind.u64.wrap n=(un n:Nat):=by
 simp only [IntKind.wrap,IntKind.bits,IntKind.signed,un];simp;omega
theorem un_lt (n:Int):un n<2^64:=by unfold un;omega
def err1 (e n:Int):Int:=if n<0∧e=0 then 1 else e
def encI (ns:List Int):List Nat:=ns.flatMap fun n=>enc (un n)
theorem encI_app (a b:List Int):encI (a++b)=encI a++encI b:=by simp [encI]
theorem encI_len (ns:List Int):(encI ns).length≤10*ns.length:=by
 induction ns with
 |nil=>simp [encI]
 |cons n ns ih=>
  have h:=enc_len64 (un_lt n)
  have e:encI (n :: ns)=enc (un n)++encI ns:=by simp [encI]
  rw [e,List.length_append,List.length_cons]
  omega
theorem Wrote.refl {σ:Nat→AObj} {nx q j:Nat} {e:Int} {l:List Nat} (h:Wr σ nx q j e l):Wrote σ nx q j σ nx e l:=⟨Nat.le_refl _,⟨j,h,.inl rfl⟩,fun _ _ _ _=>rfl⟩
theorem Wr.err {σ:Nat→AObj} {nx q j:Nat} {e:Int} {l:List Nat} (h:Wr σ nx q j e l) (e':Int):
  Wr (oput σ q (.box [.ref j,.i e'])) nx q j e' l∧Wrote σ nx q j (oput σ q (.box [.ref j,.i e'])) nx e' l:=by
 obtain ⟨b1,b2,b3,b4,b5⟩:=h
 have hw:Wr (oput σ q (.box [.ref j,.i e'])) nx q j e' l:=⟨by simp [oput],by simp [oput,b3,b2],b3,b4,b5⟩
 exact ⟨hw,Nat.le_refl _,⟨j,hw,.inl rfl⟩,fun i _ h2 _=>by simp [oput,h2]⟩
theorem plain_spec {σ:Nat→AObj} {nx q j:Nat} {e:Int} {l:List Nat} (h:Wr σ nx q j e l) (ns:List Int) (hl:l.length+10*ns.length+10≤mostLen):
  CallQ P 111 [.ptr q 0,.fsl (ints ns)] σ nx fun r σ' nx'=>Wrote σ nx q j σ' nx' (ns.foldl err1 e) (l++encI ns):=by
 refine spec_of Tryz.func111 rfl rfl (by simp [Tryz.f111]) fun B hn hnx hσ=>?_
 simp only [Tryz.f111] at hn ⊢
 refine K_run hn 60 ?_
 simp [go_sem]
 refine K_loopP (α:=Nat×Nat×(Nat→AObj)×Nat×List Nat) (fun x=>x.1≤ns.length∧x.2.2.2.2=l++encI (ns.take x.1)∧(x.2.1=j∨nx≤x.2.1)∧Wrote σ nx q j x.2.2.1 x.2.2.2.1 ((ns.take x.1).foldl err1 e) x.2.2.2.2∧Wr x.2.2.1 x.2.2.2.1 q x.2.1 ((ns.take x.1).foldl err1 e) x.2.2.2.2)
  (fun x=>⟨sl [(0,.ptr q 0),(6,.fsl (ints ns)),(7,.i ns.length),(8,.i x.1)],x.2.2.1,x.2.2.2.1⟩) (fun x=>ns.length-x.1) (0,j,σ,nx,l) ⟨Nat.zero_le _,by simp [encI],.inl rfl,Wrote.refl h,h⟩ (Imp.keep (by simp [go_sem,ints])) ?_
 rintro ⟨k,j',σ',nx',l'⟩ ⟨h1,h2,h0,h3,h4⟩
 simp only at h1 h2 h3 h4 h0
 generalize he':(ns.take k).foldl err1 e=e' at h3 h4
 have b:=h4
 obtain ⟨b1,b2,b3,b4,b5⟩:=b
 refine K_run hn 60 ?_
 simp [go_sem]
 refine fork_dec (fun h=>?_) (fun h=>?_)
 ·have hcase:∃σ1,Wr σ1 nx' q j' (err1 e' ns[k]) l'∧Wrote σ' nx' q j' σ1 nx' (err1 e' ns[k]) l'∧σ1=(if ns[k]<0∧e'=0 then oput σ' q (.box [.ref j',.i 1]) else σ'):=by
   by_cases hc:ns[k]<0∧e'=0
   ·exact ⟨_,by simp only [err1,if_pos hc];exact (h4.err 1).1,by simp only [err1,if_pos hc];exact (h4.err 1).2,by rw [if_pos hc]⟩
   ·exact ⟨_,by simp only [err1,if_neg hc];exact h4,by simp only [err1,if_neg hc];exact Wrote.refl h4,by rw [if_neg hc]⟩
  obtain ⟨σ1,g1,g2,g3⟩:=hcase
  by_cases hneg:ns[k]<0<;>by_cases he0:e'=0<;>simp [hneg,he0] at g3<;>subst g3<;>simp [go_sem,b1,ints,h,hneg,he0]
  all_goals
   have hlen:l'.length+10≤mostLen:=by
    have h5:=encI_len (ns.take k)
    have h6:=congrArg List.length h2
    simp only [List.length_append,List.length_take] at h5 h6
    omega
   refine K_callQ rfl rfl rfl (args:=[.ptr q 0,.u (un ns[k])]) (f:=166) (by simp [go_sem,un_wrap]) (by simp [go_sem,hn]) (wide_spec g1 _ (un_lt _) hlen) ?_
   intro r σ2 nx2 g
   obtain ⟨j2,w2,hj2⟩:=g.wr
   refine K_run hn 20 ?_
   simp [go_sem]
   have e1:(ns.take (k+1)).foldl err1 e=err1 e' ns[k]:=by rw [List.take_succ_eq_append_getElem h,List.foldl_append,he'];rfl
   refine Next.mk (k+1,j2,σ2,nx2,l'++enc (un ns[k])) ⟨by simp only;omega,?_,?_,?_,by simp only [e1];exact w2⟩ (Imp.slots ?_ rfl rfl) (by simp only;omega)
   ·simp only [h2]
    rw [List.take_succ_eq_append_getElem h,encI_app]
    simp [encI]
   ·have:=h3.le
    rcases hj2 with rfl | hj2
    ·exact h0
    ·exact .inr (by simp only;omega)
   ·simp only [e1]
    have g5:=h3.trans h4 h0 (g2.trans g1 (.inl rfl) g)
    exact g5
   ·have hm:mostLen=4294967296:=rfl
    simp [go_sem]
    rw [w64 _ (by omega)]
 ·simp [go_sem]
  refine ⟨h3.le,?_⟩
  have hk:k=ns.length:=by omega
  subst hk
  rw [List.take_length] at he' h2
  rw [he',←h2]
  exact h3
end Go.Proofs.YtnoifgjiipgpoaaGreatDoor

set_option maxRecDepth 4000
namespace Go.Proofs.YtnoifgjiipgpoaaGreatDoor
open Go Go.Proofs.YtnoifgjiipgpoaaGreatDoor.R
theorem Wr.pre {σ σ1:Nat→AObj} {nx nx1 q j:Nat} {e:Int} {l:List Nat} (h:Wr σ nx q j e l) (hle:nx≤nx1) (hf:∀i,i<nx→σ1 i=σ i):Wr σ1 nx1 q j e l:=by
 obtain ⟨b1,b2,b3,b4,b5⟩:=h
 exact ⟨by rw [hf _ b4];exact b1,by rw [hf _ b5];exact b2,b3,by omega,by omega⟩
theorem Wrote.pre {σ σ1 σ2:Nat→AObj} {nx nx1 nx2 q j:Nat} {e:Int} {l:List Nat} (h:Wrote σ1 nx1 q j σ2 nx2 e l) (hle:nx≤nx1) (hf:∀i,i<nx→σ1 i=σ i):Wrote σ nx q j σ2 nx2 e l:=by
 obtain ⟨h1,⟨j',h2,h3⟩,h4⟩:=h
 exact ⟨by omega,⟨j',h2,h3.imp id fun h=>by omega⟩,fun i a b c=>by rw [h4 i (by omega) b c,hf i a]⟩
theorem count_spec {σ:Nat→AObj} {nx q j:Nat} {e:Int} {l:List Nat} (h:Wr σ nx q j e l) (n:Nat) (hn:n≤1048576) (hl:l.length+20≤mostLen):
  CallQ P 112 [.ptr q 0,.i n] σ nx fun r σ' nx'=>Wrote σ nx q j σ' nx' e (l++encI [(n:Int)]):=by
 refine spec_of Tryz.func112 rfl rfl (by simp [Tryz.f112]) fun B hB hnx hσ=>?_
 simp only [Tryz.f112] at hB ⊢
 have h0:¬(1048576:Int)<n:=by omega
 refine K_run hB 60 ?_
 simp [go_sem,h0]
 refine K_callQ rfl rfl rfl (args:=[.ptr q 0,.fsl (ints [(n:Int)])]) (f:=111) (by simp [go_sem,ints]) (by simp [go_sem,hB]) (plain_spec h [(n:Int)] (by simp;omega)) ?_
 intro r σ2 nx2 g
 refine K_run hB 20 ?_
 simp [go_sem]
 have e1:[(n:Int)].foldl err1 e=e:=by simp [err1];omega
 rw [e1] at g
 exact ⟨g.le,g⟩
structure CSpot where
 at_:Int
 car:Int
 time:Int
 load:Int
 first:Int
 must:Nat
 may:Nat
 on:Nat
 cost:Int
 part:Int
def CSpot.t (s:CSpot):List T:=[.i s.at_,.i s.car,.i s.time,.i s.load,.i s.first,.v (.int .u64 s.must),.v (.int .u64 s.may),.v (.int .u64 s.on),.i s.cost,.i s.part]
def CSpot.ok (s:CSpot):Prop:=s.must<2^64∧s.may<2^64∧s.on<2^64
def CSpot.enc (s:CSpot):List Nat:=encI [s.at_,s.car,s.time,s.load,s.first]++Go.Proofs.YtnoifgjiipgpoaaGreatDoor.enc s.must++Go.Proofs.YtnoifgjiipgpoaaGreatDoor.enc s.may++Go.Proofs.YtnoifgjiipgpoaaGreatDoor.enc s.on++encI [s.cost,s.part]
def CSpot.err (e:Int) (s:CSpot):Int:=[s.at_,s.car,s.time,s.load,s.first,s.cost,s.part].foldl err1 e
theorem coput_ne {σ:Nat→AObj} {i j:Nat} {o:AObj} (h:i≠j):oput σ j o i=σ i:=by simp [oput,h]
theorem coput_eq {σ:Nat→AObj} {j:Nat} {o:AObj}:oput σ j o j=o:=by simp [oput]
theorem Wr.not {σ:Nat→AObj} {nx q j k:Nat} {e:Int} {l:List Nat} {cs:List AV} (h:Wr σ nx q j e l) (hk:σ k= .box cs):k≠j:=by
 rintro rfl
 rw [h.arr] at hk
 cases hk
theorem spot_spec {σ:Nat→AObj} {nx q j:Nat} {e:Int} {l:List Nat} (h:Wr σ nx q j e l) (s:CSpot) (hs:s.ok) (hl:l.length+200≤mostLen):
  CallQ P 113 [.ptr q 0,.agg (s.t.map .t)] σ nx fun r σ' nx'=>Wrote σ nx q j σ' nx' (s.err e) (l++s.enc):=by
 have hql:=h.ql
 have hjl:=h.jl
 refine spec_of Tryz.func113 rfl rfl (by simp [Tryz.f113]) fun B hB hnx hσ=>?_
 simp only [Tryz.f113] at hB ⊢
 refine K_run hB 60 ?_
 simp [go_sem,CSpot.t]
 refine K_callQ rfl rfl rfl (args:=[.ptr q 0,.fsl (ints [s.at_,s.car,s.time,s.load,s.first])]) (f:=111) (by simp [go_sem,ints]) (by simp [go_sem,hB]) (plain_spec (h.pre (by simp only;omega) (fun i hi=>by
  dsimp only
  rw [coput_ne (by omega),coput_ne (by omega),coput_ne (by omega)])) [s.at_,s.car,s.time,s.load,s.first] (by simp;omega)) ?_
 intro r σ2 nx2 g
 dsimp only at g
 have hnx2:=g.le
 have c1:=g.old nx (by omega) (by omega) (by omega)
 have c2:=g.old (nx+1) (by omega) (by omega) (by omega)
 rw [coput_ne (by omega),coput_ne (by omega),coput_eq] at c1
 rw [coput_eq] at c2
 have g0:=g.pre (σ:=σ) (nx:=nx) (by omega) (fun i hi=>by rw [coput_ne (by omega),coput_ne (by omega),coput_ne (by omega)])
 have hl1:=encI_len [s.at_,s.car,s.time,s.load,s.first]
 simp only [List.length_cons,List.length_nil] at hl1
 generalize hl':l++encI [s.at_,s.car,s.time,s.load,s.first]=l1 at g g0
 have hl1':l1.length≤l.length+50:=by rw [←hl',List.length_append];omega
 generalize he':[s.at_,s.car,s.time,s.load,s.first].foldl err1 e=e1 at g g0
 obtain ⟨j2,w2,hj2⟩:=g0.wr
 clear g
 refine K_run hB 60 ?_
 simp [go_sem,c2]
 refine K_loopP (α:=Nat×Nat×(Nat→AObj)×Nat×List Nat) (fun x=>x.1≤3∧x.2.2.2.2=l1++([s.must,s.may,s.on].take x.1).flatMap enc∧(x.2.1=j∨nx≤x.2.1)∧Wrote σ nx q j x.2.2.1 x.2.2.2.1 e1 x.2.2.2.2∧Wr x.2.2.1 x.2.2.2.1 q x.2.1 e1 x.2.2.2.2∧x.2.2.1 nx= .box (s.t.map .t)∧nx<x.2.2.2.1∧x.2.2.2.2.length≤l1.length+10*x.1)
  (fun x=>⟨sl [(0,.ptr q 0),(3,.ptr nx 0),(28,.agg [.t (.v (.int .u64 s.must)),.t (.v (.int .u64 s.may)),.t (.v (.int .u64 s.on))]),(29,.i x.1)],x.2.2.1,x.2.2.2.1⟩) (fun x=>3-x.1) (0,j2,σ2,nx2,l1) ⟨Nat.zero_le _,by simp,hj2,g0,w2,by show σ2 nx=_;rw [c1];rfl,by show nx<nx2;omega,by simp⟩ (Imp.slots (by simp [go_sem]) rfl rfl) ?_
 rintro ⟨k,j',σ',nx',l'⟩ ⟨h1,h2,h0,h3,h4,h5,h6,h7⟩
 simp only at h1 h2 h3 h4 h0 h5 h6 h7
 refine K_run hB 60 ?_
 simp [go_sem]
 refine fork_dec (fun hk=>?_) (fun hk=>?_)
 ·obtain ⟨u,hu,hu1,hu2⟩:∃u:Nat,([AV.t (T.v (Value.int .u64 s.must)),AV.t (.v (.int .u64 s.may)),AV.t (.v (.int .u64 s.on))]:List AV)[k]? =some (.u u)∧[s.must,s.may,s.on].take (k+1)=[s.must,s.may,s.on].take k++[u]∧u<2^64:=by
   rcases (by omega:k=0∨k=1∨k=2) with rfl | rfl | rfl
   ·exact ⟨_,rfl,rfl,hs.1⟩
   ·exact ⟨_,rfl,rfl,hs.2.1⟩
   ·exact ⟨_,rfl,rfl,hs.2.2⟩
  have hk3:k<3:=by omega
  simp [go_sem,hk,hu]
  refine K_callQ rfl rfl rfl (args:=[.ptr q 0,.u u]) (f:=166) (by simp [go_sem]) (by simp [go_sem,hB]) (wide_spec h4 u hu2 (by omega)) ?_
  intro r σ3 nx3 g
  have hn3:=g.le
  obtain ⟨j3,w3,hj3⟩:=g.wr
  have o3:=g.old nx h6 (by omega) (h4.not h5)
  have he:=enc_len64 hu2
  refine K_run hB 20 ?_
  simp [go_sem]
  refine Next.mk (k+1,j3,σ3,nx3,l'++enc u) ⟨by simp only;omega,?_,?_,h3.trans h4 h0 g,w3,by simp only;rw [o3,h5],by simp only;omega,by simp only [List.length_append];omega⟩ (Imp.slots ?_ rfl rfl) (by simp only;omega)
  ·simp only [h2,hu1]
   simp
  ·have:=h3.le
   rcases hj3 with rfl | hj3
   ·exact h0
   ·exact .inr (by simp only;omega)
  ·simp [go_sem]
   rw [w64 _ (by omega)]
 ·have hk3:k=3:=by omega
  subst hk3
  have hl2:l'=l1++(enc s.must++enc s.may++enc s.on):=by rw [h2];simp
  simp [go_sem,h5,CSpot.t]
  refine K_callQ rfl rfl rfl (args:=[.ptr q 0,.fsl (ints [s.cost,s.part])]) (f:=111) (by simp [go_sem,ints]) (by simp [go_sem,hB]) (plain_spec h4 [s.cost,s.part] (by simp;omega)) ?_
  intro r σ3 nx3 g
  refine K_run hB 20 ?_
  simp [go_sem]
  have g5:=h3.trans h4 h0 g
  refine ⟨g5.le,?_⟩
  have e1:s.err e=[s.cost,s.part].foldl err1 e1:=by rw [←he'];rfl
  have e2:l++s.enc=l'++encI [s.cost,s.part]:=by rw [hl2,←hl'];simp [CSpot.enc]
  rw [e1,e2]
  exact g5
end Go.Proofs.YtnoifgjiipgpoaaGreatDoor

set_option maxRecDepth 4000
namespace Go.Proofs.YtnoifgjiipgpoaaGreatDoor
open Go Go.Proofs.YtnoifgjiipgpoaaGreatDoor.R
abbrev Layer:=List CSpot
abbrev Part:=List Layer
structure CPrf where
 least:Int
 parts:List Part
def clayT (l:Layer):T:=.sl (l.map CSpot.t)
def cpartT (p:Part):List T:=[.sl (p.map fun l=>[clayT l])]
def CPrf.a (p:CPrf):AV:=.agg [.t (.i p.least),.t (.sl (p.parts.map cpartT))]
def layEnc (l:Layer):List Nat:=encI [(l.length:Int)]++l.flatMap CSpot.enc
def partEnc (p:Part):List Nat:=encI [(p.length:Int)]++p.flatMap layEnc
def CPrf.enc (p:CPrf):List Nat:=[72,76,82,49]++encI [p.least]++encI [(p.parts.length:Int)]++p.parts.flatMap partEnc
def CPrf.spots (p:CPrf):List CSpot:=p.parts.flatten.flatten
def CPrf.err (p:CPrf):Int:=p.spots.foldl CSpot.err (err1 0 p.least)
structure CPrf.ok (p:CPrf):Prop where
 parts:p.parts.length≤1048576
 layers:∀q∈p.parts,q.length≤1048576
 spots:∀q∈p.parts,∀l∈q,l.length≤1048576
 num:∀q∈p.parts,∀l∈q,∀s∈l,s.ok
theorem encode_pure (p:CPrf) (hp:p.ok) (hl:p.enc.length+1000≤mostLen):Pure P 65 [p.a] (.tup (if p.err=0 then [.t (.sl (cbyt p.enc)),.i 0] else [.t (.sl []),.i p.err])):=by
 refine pure_of Tryz.func65 rfl rfl (by simp [Tryz.f65]) (by simp [bnd,bnd.bndL,CPrf.a]) (by split<;>simp [bnd,bnd.bndL]) fun B hB hnx=>?_
 simp only [Tryz.f65] at hB ⊢
 refine K_run hB 8 ?_
 simp [go_sem,CPrf.a]
 refine K_bytesR (es:=cbyt [72,76,82,49]) rfl rfl rfl rfl rfl tt22 rfl tt5 rfl (by simp [go_sem,cbyt]) (by simp [go_sem,hB]) (by simp [go_sem,hB]) ?_
 refine K_run hB 60 ?_
 simp [go_sem]
 have w0:Wr (oput (oput (oput noObj 0 (.box [.t (.i p.least),.t (.sl (p.parts.map cpartT))])) 1 (.arr 1 (cbyt [72,76,82,49]))) 2 (.box [.ref 1,.i 0])) 3 2 1 0 [72,76,82,49]:=
  ⟨by simp [oput],by simp [oput],by omega,by omega,by omega⟩
 have hm:mostLen=4294967296:=rfl
 refine K_callQ rfl rfl rfl (args:=[.ptr 2 0,.fsl (ints [p.least])]) (f:=111) (by simp [go_sem,ints]) (by simp [go_sem,hB]) (plain_spec w0 [p.least] (by simp;omega)) ?_
 intro r1 σ1 nx1 g1
 have c1:=g1.old 0 (by omega) (by omega) (by omega)
 rw [coput_ne (by omega),coput_ne (by omega),coput_eq] at c1
 obtain ⟨j1,w1,hj1⟩:=g1.wr
 have hn1:=g1.le
 have hl1:=encI_len [p.least]
 simp only [List.length_cons,List.length_nil] at hl1
 refine K_run hB 60 ?_
 simp [go_sem,c1]
 refine K_callQ rfl rfl rfl (args:=[.ptr 2 0,.i (p.parts.length:Nat)]) (f:=112) (by simp [go_sem]) (by simp [go_sem,hB]) (count_spec w1 p.parts.length hp.parts (by simp;omega)) ?_
 intro r2 σ2 nx2 g2
 have c2:=g2.old 0 (by omega) (by omega) (w1.not c1)
 rw [c1] at c2
 obtain ⟨j2,w2,hj2⟩:=g2.wr
 have hn2:=g2.le
 refine K_run hB 60 ?_
 simp [go_sem,c2]
 refine K_loopP (α:=Nat×Nat×(Nat→AObj)×Nat×List Nat×Int) (fun (k,j,σ,nx,l,e)=>k≤p.parts.length∧l++(p.parts.drop k).flatMap partEnc=p.enc∧((p.parts.drop k).flatten.flatten).foldl CSpot.err e=p.err∧Wr σ nx 2 j e l)
  (fun (k,j,σ,nx,l,e)=>⟨sl [(4,.ptr 2 0),(26,.t (.sl (p.parts.map cpartT))),(27,.i p.parts.length),(28,.i k)],σ,nx⟩) (fun x=>p.parts.length-x.1) (0,j2,σ2,nx2,_,_) ⟨Nat.zero_le _,by simp [CPrf.enc],by simp [CPrf.err,CPrf.spots],w2⟩ (Imp.slots (by simp [go_sem]) rfl rfl) ?_
 rintro ⟨k,j,σ,nx,l,e⟩ ⟨h1,h2,h3,h4⟩
 have hk64:p.parts.length≤1048576:=hp.parts
 refine K_run hB 60 ?_
 simp [go_sem]
 refine fork_dec (fun hk=>?_) (fun hk=>?_)
 ·have hd:p.parts.drop k=p.parts[k] :: p.parts.drop (k+1):=by rw [List.drop_eq_getElem_cons hk]
  have hq:=hp.layers _ (List.getElem_mem hk)
  have hpl:(cpartT p.parts[k]).length=1:=rfl
  simp [go_sem,hk,hpl]
  simp [go_sem,cpartT]
  refine K_callQ rfl rfl rfl (args:=[.ptr 2 0,.i (p.parts[k].length:Nat)]) (f:=112) (by simp [go_sem]) (by simp [go_sem,hB]) (count_spec (h4.pre (nx1:=nx+1) (by omega) (fun i hi=>by
   dsimp only
   rw [coput_ne (by omega),coput_ne (by omega)])) p.parts[k].length hq ?_) ?_
  ·have:=congrArg List.length h2
   simp at this
   omega
  intro r3 σ3 nx3 g3
  dsimp only at g3
  have c3:=g3.old nx (by omega) (by have:=h4.ql;omega) (by have:=h4.jl;omega)
  rw [coput_eq] at c3
  obtain ⟨j3,w3,_⟩:=g3.wr
  generalize hq':p.parts[k]=q at *
  generalize hrest:p.parts.drop (k+1)=rest at *
  refine K_run hB 60 ?_
  simp [go_sem,c3]
  refine K_loopP (α:=Nat×Nat×(Nat→AObj)×Nat×List Nat×Int) (fun (i,j,σ,nx,l,e)=>i≤q.length∧l++(q.drop i).flatMap layEnc++rest.flatMap partEnc=p.enc∧((q.drop i).flatten++rest.flatten.flatten).foldl CSpot.err e=p.err∧Wr σ nx 2 j e l)
   (fun (i,j,σ,nx,l,e)=>⟨sl [(4,.ptr 2 0),(26,.t (.sl (p.parts.map cpartT))),(27,.i p.parts.length),(28,.i k),(38,.t (.sl (q.map fun l=>[clayT l]))),(39,.i q.length),(40,.i i)],σ,nx⟩) (fun x=>q.length-x.1) (0,j3,σ3,nx3,_,_)
   ⟨Nat.zero_le _,by rw [←h2,hd];simp [partEnc],by rw [←h3,hd];simp,w3⟩ (Imp.slots (by simp [go_sem]) rfl rfl) ?_
  rintro ⟨i,j,σ,nx,l,e⟩ ⟨i1,i2,i3,i4⟩
  refine K_run hB 60 ?_
  simp [go_sem]
  refine fork_dec (fun hi=>?_) (fun hi=>?_)
  ·have hdi:q.drop i=q[i] :: q.drop (i+1):=by rw [List.drop_eq_getElem_cons hi]
   have hmq:q∈p.parts:=by rw [←hq'];exact List.getElem_mem _
   have hly:=hp.spots _ hmq _ (List.getElem_mem hi)
   simp [go_sem,hi,clayT]
   refine K_callQ rfl rfl rfl (args:=[.ptr 2 0,.i (q[i].length:Nat)]) (f:=112) (by simp [go_sem]) (by simp [go_sem,hB]) (count_spec i4 q[i].length hly ?_) ?_
   ·have:=congrArg List.length i2
    simp at this
    omega
   intro r5 σ5 nx5 g5
   obtain ⟨j5,w5,_⟩:=g5.wr
   generalize hy':q[i]=y at *
   generalize hrest2:q.drop (i+1)=rest2 at *
   refine K_run hB 60 ?_
   simp [go_sem]
   refine K_loopP (α:=Nat×Nat×(Nat→AObj)×Nat×List Nat×Int) (fun (m,j,σ,nx,l,e)=>m≤y.length∧l++(y.drop m).flatMap CSpot.enc++rest2.flatMap layEnc++rest.flatMap partEnc=p.enc∧(y.drop m++rest2.flatten++rest.flatten.flatten).foldl CSpot.err e=p.err∧Wr σ nx 2 j e l)
    (fun (m,j,σ,nx,l,e)=>⟨sl [(4,.ptr 2 0),(26,.t (.sl (p.parts.map cpartT))),(27,.i p.parts.length),(28,.i k),(38,.t (.sl (q.map fun l=>[clayT l]))),(39,.i q.length),(40,.i i),(48,.t (.sl (y.map CSpot.t))),(49,.i y.length),(50,.i m)],σ,nx⟩) (fun x=>y.length-x.1) (0,j5,σ5,nx5,_,_)
    ⟨Nat.zero_le _,by rw [←i2,hdi];simp [layEnc],by rw [←i3,hdi];simp,w5⟩ (Imp.slots (by simp [go_sem,clayT]) rfl rfl) ?_
   rintro ⟨m,j,σ,nx,l,e⟩ ⟨m1,m2,m3,m4⟩
   refine K_run hB 60 ?_
   simp [go_sem]
   refine fork_dec (fun hm'=>?_) (fun hm'=>?_)
   ·have hdm:y.drop m=y[m] :: y.drop (m+1):=by rw [List.drop_eq_getElem_cons hm']
    have hmy:y∈q:=by rw [←hy'];exact List.getElem_mem _
    have hsp:=hp.num _ hmq _ hmy _ (List.getElem_mem hm')
    simp [go_sem,hm',CSpot.t]
    have hm64:m+1≤1048576:=by omega
    generalize hs':y[m]=s at *
    refine K_callQ rfl rfl rfl (args:=[.ptr 2 0,.agg (s.t.map .t)]) (f:=113) (by simp [go_sem,oput,CSpot.t]) (by simp [go_sem,hB]) (spot_spec (m4.pre (nx1:=nx+1) (by omega) (fun i hi=>by
     dsimp only
     rw [coput_ne (by omega),coput_ne (by omega)])) s hsp ?_) ?_
    ·have:=congrArg List.length m2
     simp at this
     omega
    intro r7 σ7 nx7 g7
    obtain ⟨j7,w7,_⟩:=g7.wr
    refine K_run hB 20 ?_
    simp [go_sem]
    refine Next.mk (m+1,j7,σ7,nx7,l++s.enc,s.err e) ⟨by omega,?_,?_,w7⟩ (Imp.slots (by
     simp [go_sem]
     rw [w64 _ (by omega)]) rfl rfl) (by simp only;omega)
    ·rw [←m2,hdm];simp
    ·rw [←m3,hdm];simp
   ·have:m=y.length:=by omega
    subst this
    simp [go_sem]
    refine Next.mk (i+1,j,σ,nx,l,e) ⟨by omega,?_,?_,m4⟩ (Imp.slots (by
     simp [go_sem,clayT]
     rw [w64 _ (by omega)]) rfl rfl) (by simp only;omega)
    ·rw [←m2,hrest2];simp
    ·rw [←m3,hrest2];simp
  ·have:i=q.length:=by omega
   subst this
   simp [go_sem]
   refine Next.mk (k+1,j,σ,nx,l,e) ⟨by omega,?_,?_,i4⟩ (Imp.slots (by
     simp [go_sem]
     rw [w64 _ (by omega)]) rfl rfl) (by simp only;omega)
   ·rw [←i2,hrest];simp
   ·rw [←i3,hrest];simp
 ·have:k=p.parts.length:=by omega
  subst this
  have b:=h4
  obtain ⟨b1,b2,b3,b4,b5⟩:=b
  have e1:e=p.err:=by rw [←h3];simp
  have e2:l=p.enc:=by rw [←h2];simp
  simp [go_sem,b1]
  refine fork_dec (fun he=>?_) (fun he=>?_)
  ·simp [go_sem,b1,b2,←e1,he,e2]
  ·simp [go_sem]
   refine K_drawn [] rfl (by rw [hB];kernel_rfl) ?_
   refine K_run hB 40 ?_
   simp [go_sem,b1,←e1,he]
end Go.Proofs.YtnoifgjiipgpoaaGreatDoor

set_option maxRecDepth 4000
namespace Go.Proofs.YtnoifgjiipgpoaaGreatDoor
open Go Go.Proofs.YtnoifgjiipgpoaaGreatDoor.R
abbrev rdB (l:List Nat) (e:Int):AObj:=.box [.t (.sl (cbyt l)),.i e]
def failE (e x:Int):Int:=if e=0 then x else e
def nxt (l:List Nat) (e:Int):Nat×List Nat×Int:=match l with
 |[]=>(0,[],failE e 3)
 |c :: r=>if e=0 then (c,r,0) else (0,c :: r,e)
def wid (n shift c:Nat) (l:List Nat) (e:Int):Nat×List Nat×Int:=
 if e≠0 then (0,l,e)
 else if (0<shift∧c=0)∨(shift=63∧1<c) then (0,l,2)
 else if 128≤c∧shift<63 then
  wid (n|||(c % 128*2^shift % 2^64)) (shift+7) (nxt l e).1 (nxt l e).2.1 (nxt l e).2.2
 else (n|||(c % 128*2^shift % 2^64),l,e)
  termination_by 70-shift
  decreasing_by omega
def wide (l:List Nat) (e:Int):Nat×List Nat×Int:=wid 0 0 (nxt l e).1 (nxt l e).2.1 (nxt l e).2.2
end Go.Proofs.YtnoifgjiipgpoaaGreatDoor

set_option maxRecDepth 4000
namespace Go.Proofs.YtnoifgjiipgpoaaGreatDoor
open Go Go.Proofs.YtnoifgjiipgpoaaGreatDoor.R
abbrev Bytes (l:List Nat):Prop:=∀c∈l,c<256
end Go.Proofs.YtnoifgjiipgpoaaGreatDoor

set_option maxRecDepth 4000
namespace Go.Proofs.YtnoifgjiipgpoaaGreatDoor
open Go Go.Proofs.YtnoifgjiipgpoaaGreatDoor.R
abbrev At (σ':Nat→AObj) (σ:Nat→AObj) (nx q:Nat) (a:List Nat×Int) (cs:List AV):Prop:=σ' q=rdB a.1 a.2∧σ' (nx+1)= .box cs∧(∀i,i<nx→i≠q→σ' i=σ i)∧σ' nx= .box [.i 0,.i 0,.i 0,.i 0,.i 0,.u 0,.u 0,.u 0,.i 0,.i 0]
end Go.Proofs.YtnoifgjiipgpoaaGreatDoor

set_option maxRecDepth 4000
namespace Go.Proofs.YtnoifgjiipgpoaaGreatDoor
open Go Go.Proofs.YtnoifgjiipgpoaaGreatDoor.R
theorem u8_72:IntKind.u8.wrap 72=72:=by decide
theorem u8_76:IntKind.u8.wrap 76=76:=by decide
theorem u8_82:IntKind.u8.wrap 82=82:=by decide
theorem u8_49:IntKind.u8.wrap 49=49:=by decide
theorem dce0:Utf8.decode ⟨#[72,76,82,49]⟩ 0=(72,1):=by kernel_rfl
theorem dce1:Utf8.decode ⟨#[72,76,82,49]⟩ 1=(76,1):=by kernel_rfl
theorem dce2:Utf8.decode ⟨#[72,76,82,49]⟩ 2=(82,1):=by kernel_rfl
theorem dce3:Utf8.decode ⟨#[72,76,82,49]⟩ 3=(49,1):=by kernel_rfl
theorem bsze:(⟨#[72,76,82,49]⟩:ByteArray).size=4:=rfl
attribute [local go_sem] dce0 dce1 dce2 dce3 bsze u8_72 u8_76 u8_82 u8_49
end Go.Proofs.YtnoifgjiipgpoaaGreatDoor

set_option maxRecDepth 4000
set_option maxHeartbeats 1000000
namespace Go.Proofs.YtnoifgjiipgpoaaGreatDoor
open Go Go.Proofs.YtnoifgjiipgpoaaGreatDoor.R
theorem unbytes_byt (l:List Nat):unbytes (byt l)=some (l.map UInt8.ofNat):=by
 induction l with
 |nil=>rfl
 |cons n l ih=>
  show (unbytes (byt l)).map _=_
  rw [ih]
  simp
theorem noplan_pure:Pure P 19 [] (.t (.sl (byt [48,10]))):=by
 refine pure_of Tryz.func19 rfl rfl (by simp [Tryz.f19]) (by simp [bnd,bnd.bndL]) (by simp [bnd,bnd.bndL]) fun B hB hnx=>?_
 simp only [Tryz.f19] at hB ⊢
 refine K_run hB 6 ?_
 simp [go_sem]
 refine K_bytes (es:=byt [48,10]) rfl rfl rfl rfl rfl tt22 rfl tt5 rfl (by simp [go_sem,byt]) (by simp [go_sem,hB]) (by simp [go_sem,hB]) ?_
 refine K_run hB 100 ?_
 simp [go_sem]
end Go.Proofs.YtnoifgjiipgpoaaGreatDoor

set_option maxRecDepth 4000
namespace Go.Proofs.YtnoifgjiipgpoaaGreatDoor
open Go Go.Proofs.YtnoifgjiipgpoaaGreatDoor.R
structure Spot where
 s:State
 cost:Int
 part:Int
def Spot.t (n:Spot):List T:=[.i n.s.spot,.i n.s.car,.i n.s.time,.i n.s.load,.i n.s.first,.v (.int .u64 n.s.must),.v (.int .u64 n.s.can),.v (.int .u64 n.s.on),.i n.cost,.i n.part]
def layT (l:List Spot):List T:=[.sl (l.map Spot.t)]
def partT (p:List (List Spot)):List T:=[.sl (p.map layT)]
structure Prf where
 least:Int
 parts:List (List (List Spot))
def Prf.cs (p:Prf):List AV:=[.i p.least,.t (.sl (p.parts.map partT))]
def Prf.a (p:Prf):AV:=.agg p.cs
def Inst.spotB (x:Inst) (p:Prf) (n:Spot):Bool:=
 n.s.mayB x&&decide (n.cost≥0)&&decide (n.cost≤1152921504606846976)&&decide (n.part≥0)&&decide (n.part≤p.parts.length)
end Go.Proofs.YtnoifgjiipgpoaaGreatDoor

set_option maxRecDepth 4000
namespace Go.Proofs.YtnoifgjiipgpoaaGreatDoor
open Go Go.Proofs.YtnoifgjiipgpoaaGreatDoor.R
def Inst.wholeB (x:Inst) (p:Prf) (q:List (List Spot)):Bool:=match q with
 |[]=>false
 |l :: _=>decide (l.length=1)&& !(q.any fun l=>l.any fun n=>!x.spotB p n)
end Go.Proofs.YtnoifgjiipgpoaaGreatDoor

set_option maxRecDepth 4000
namespace Go.Proofs.YtnoifgjiipgpoaaGreatDoor
open Go Go.Proofs.YtnoifgjiipgpoaaGreatDoor.R
def Inst.deadB (x:Inst) (s:State) (c least:Int):Bool:=decide (least≤sumI [c,x.low s])
theorem dead_pure (x:Inst) (s:State) (c least:Int) (hl:x.stops.length<2^31) (ho:s.ok):Pure P 156 [x.a,s.a,.i c,.i least] (.b (x.deadB s c least)):=by
 have ha:=at_pure x s hl ho
 have hs:=sum_pure [c,x.low s] (by simp)
 rw [Inst.deadB]
 generalize x.low s=d at *
 refine pure_of Tryz.func156 rfl rfl (by simp [Tryz.f156]) (by simp [bnd,bnd.bndL,Inst.a,State.a,State.cs]) (by simp [bnd,bnd.bndL]) fun B hB hnx=>?_
 simp only [Tryz.f156] at hB ⊢
 refine K_run hB 100 ?_
 simp [go_sem,Inst.a,State.a,State.cs]
 refine K_call rfl rfl rfl (args:=[x.a,s.a]) (f:=135) (by simp [go_sem,Inst.a,State.a,State.cs]) (by simp [go_sem,hB]) ((ha).spec _ _) ?_
 refine K_run hB 100 ?_
 simp [go_sem]
 refine K_call rfl rfl rfl (args:=[.fsl (ints [c,d])]) (f:=134) (by simp [go_sem,ints]) (by simp [go_sem,hB]) ((Pure.loose hs (by simp [bnd])).spec _ _) ?_
 refine K_run hB 100 ?_
 simp [go_sem]
def Prf.first (p:Prf) (k:Nat):Option Spot:=match p.parts[k]? with
 |some ((n :: _) :: _)=>some n
 |_=>none
def Prf.leadsB (p:Prf) (k:Nat) (n:Spot):Bool:=match p.first (n.part-1).toNat with
 |some f=>decide ((k:Int)<n.part-1)&&(decide (f.s=n.s)&&decide (f.cost≤n.cost))
 |none=>false
def Inst.goB (x:Inst) (least:Int) (n:Spot) (next:List Spot) (j:Int):Bool:=
 x.deadB (x.move n.s j).1 (sumI [n.cost,(x.move n.s j).2.1]) least||next.any fun m=>decide (m.cost≤sumI [n.cost,(x.move n.s j).2.1])&&coversB m.s (x.move n.s j).1
def Inst.goesB (x:Inst) (least:Int) (n:Spot) (next:List Spot):Bool:=(x.moves n.s).all (x.goB least n next)
end Go.Proofs.YtnoifgjiipgpoaaGreatDoor

set_option maxRecDepth 4000
namespace Go.Proofs.YtnoifgjiipgpoaaGreatDoor
open Go Go.Proofs.YtnoifgjiipgpoaaGreatDoor.R
def Inst.holdsB (x:Inst) (p:Prf) (k i:Nat) (n:Spot) (dk:Int):Bool:=
 if x.deadB n.s n.cost p.least=true then true
 else if 0<n.part then p.leadsB k n
 else if (x.endS n.s).2=true∧sumI [n.cost,(x.endS n.s).1]<p.least then false
 else if x.deep≤IntKind.i64.wrap (dk+i) then true
 else x.goesB p.least n (((p.parts[k]?).getD []).getD (i+1) [])
end Go.Proofs.YtnoifgjiipgpoaaGreatDoor

set_option maxRecDepth 4000
namespace Go.Proofs.YtnoifgjiipgpoaaGreatDoor
open Go Go.Proofs.YtnoifgjiipgpoaaGreatDoor.R
def infI:Int:=1152921504606846976
end Go.Proofs.YtnoifgjiipgpoaaGreatDoor

set_option maxRecDepth 4000
namespace Go.Proofs.YtnoifgjiipgpoaaGreatDoor
open Go Go.Proofs.YtnoifgjiipgpoaaGreatDoor.R
def Tells (x:Inst) (p:Prf) (k i:Nat) (dk:Int) (F:List Int) (n:Spot):Prop:=
 x.holdsB p k i n dk=true∧((k:Int)<n.part-1→(n.part-1).toNat<F.length→F.getD (n.part-1).toNat 0≤dk+i)
end Go.Proofs.YtnoifgjiipgpoaaGreatDoor

set_option maxRecDepth 4000
namespace Go.Proofs.YtnoifgjiipgpoaaGreatDoor
open Go Go.Proofs.YtnoifgjiipgpoaaGreatDoor.R
theorem sumI_nn (a b:Int):0≤sumI [a,b]:=by
 simp only [sumI,List.foldl_cons,List.foldl_nil,sum1]
 omega
structure Holds (x:Inst) (p:Prf) (F:List Int):Prop where
 len:F.length=p.parts.length
 whole:∀q∈p.parts,x.wholeB p q=true
 ok:∀q∈p.parts,∀l∈q,∀n∈l,n.s.ok
 small:∀q∈p.parts,q.length<2^30
 rng:∀j,0≤F.getD j 0∧F.getD j 0≤infI
 tells:∀k q,p.parts[k]? =some q→F.getD k 0≠infI→∀i l,q[i]? =some l→∀n∈l,Tells x p k i (F.getD k 0) F n
end Go.Proofs.YtnoifgjiipgpoaaGreatDoor

set_option maxRecDepth 4000
set_option maxHeartbeats 1000000
namespace Go.Proofs.YtnoifgjiipgpoaaGreatDoor
open Go Go.Proofs.YtnoifgjiipgpoaaGreatDoor.R
def CSpot.sp (s:CSpot):Spot:=⟨⟨s.at_,s.car,s.time,s.load,s.first,s.must,s.may,s.on⟩,s.cost,s.part⟩
def CPrf.pf (p:CPrf):Prf:=⟨p.least,p.parts.map fun q=>q.map fun l=>l.map CSpot.sp⟩
theorem pf_a (p:CPrf):p.a=p.pf.a:=by
 have h1:∀l:Layer,(l.map CSpot.sp).map Spot.t=l.map CSpot.t:=fun l=>by rw [List.map_map];rfl
 have h2:∀q:Part,partT (q.map fun l=>l.map CSpot.sp)=cpartT q:=fun q=>by
  unfold partT cpartT
  rw [List.map_map]
  congr 2
  refine List.map_congr_left fun l _=>?_
  show layT (l.map CSpot.sp)=[clayT l]
  rw [layT,h1,clayT]
 rw [CPrf.a,Prf.a,Prf.cs,CPrf.pf]
 simp only [List.map_map]
 have h3:(partT ∘ fun q:Part=>q.map fun l=>l.map CSpot.sp)=cpartT:=funext h2
 rw [h3]
end Go.Proofs.YtnoifgjiipgpoaaGreatDoor

set_option maxRecDepth 4000
namespace Go.Proofs.YtnoifgjiipgpoaaGreatDoor
open Go Go.Proofs.YtnoifgjiipgpoaaGreatDoor.R
def Ent.cs (e:Ent):List AV:=[.i e.bound,.i e.depth,.i e.no]
def Ent.a (e:Ent):AV:=.agg e.cs
def Ent.t (o:Int) (e:Ent):List T:=[.i e.bound,.i e.depth,.i e.no,.i o]
def orL:List Int→Int
 |[]=>0
 |a :: l=>if a=0 then orL l else a
theorem or_pure (l:List Int) (hl:l.length<2^31):Pure P 313 [.t (.sl (ints l))] (.i (orL l)):=by
 generalize hR:orL l=R
 refine pure_of Tryz.func313 rfl rfl (by simp [Tryz.f313]) (by simp [bnd,bnd.bndL]) (by simp [bnd,bnd.bndL]) fun B hB hnx=>?_
 simp only [Tryz.f313] at hB ⊢
 have hil:(ints l).length=l.length:=List.length_map _
 have hig:∀(k:Nat) (h:k<l.length),(ints l)[k]'(by rw [hil];exact h)=[.i l[k]]:=fun k h=>ints_getS _ h
 generalize ints l=Y at *
 refine K_run hB 100 ?_
 simp [go_sem,hil]
 refine K_loopP (α:=Nat) (fun k=>k≤l.length∧orL (l.drop k)=R) (fun k=>⟨sl [(3,.i 0),(6,.t (.sl Y)),(7,.i l.length),(8,.i k)],_,_⟩) (fun k=>l.length-k) 0 ⟨Nat.zero_le _,hR⟩ (Imp.slots (by simp [go_sem]) rfl rfl) ?_
 rintro k ⟨g1,g2⟩
 refine K_run hB 60 ?_
 simp [go_sem]
 refine fork_dec (fun hk=>?_) (fun hk=>?_)
 ·have hkk:IntKind.i64.wrap ((k:Int)+1)=((k+1:Nat):Int):=by rw [w64 ((k:Int)+1) (by omega)];rfl
  have hgk:∀h:k<Y.length,Y[k]'h=[.i l[k]]:=fun h=>hig k hk
  rw [List.drop_eq_getElem_cons hk,orL] at g2
  generalize l[k]=a at *
  by_cases c1:a=0
  ·rw [if_pos c1] at g2
   simp [go_sem,hil,hk,hgk,c1,hkk]
   exact Next.mk (k+1) ⟨by omega,g2⟩ (Imp.slots (by simp [go_sem]) rfl rfl) (by omega)
  ·rw [if_neg c1] at g2
   subst g2
   simp [go_sem,hil,hk,hgk,c1]
 ·have:k=l.length:=by omega
  subst this
  rw [List.drop_length,orL] at g2
  subst g2
  simp [go_sem]
def compE (o:Int) (a b:Ent):Int:=
 if o=0 then orL [cmpI a.bound b.bound,-cmpI a.depth b.depth,cmpI a.no b.no]
 else if o=1 then orL [-cmpI a.depth b.depth,cmpI a.bound b.bound,cmpI a.no b.no]
 else orL [cmpI a.no b.no,cmpI a.bound b.bound,cmpI a.depth b.depth]
theorem compE_less (o:Int) (a b:Ent):decide (compE o a b<0)=lessE o a b:=by
 unfold compE lessE
 by_cases c1:o=0
 ·rw [if_pos c1,if_pos c1]
  refine decide_eq_decide.2 ?_
  simp only [orL,cmpI]
  repeat' split
  all_goals omega
 ·rw [if_neg c1,if_neg c1]
  by_cases c2:o=1
  ·rw [if_pos c2,if_pos c2]
   refine decide_eq_decide.2 ?_
   simp only [orL,cmpI]
   repeat' split
   all_goals omega
  ·rw [if_neg c2,if_neg c2]
   refine decide_eq_decide.2 ?_
   simp only [orL,cmpI]
   repeat' split
   all_goals omega
theorem cmpI_in (a b:Int): -1≤cmpI a b∧cmpI a b≤1:=by
 unfold cmpI
 repeat' split
 all_goals omega
theorem compare_pure (o:Int) (a b:Ent):Pure P 312 [.i o,a.a,b.a] (.i (compE o a b)):=by
 generalize hR:compE o a b=R
 refine pure_of Tryz.func312 rfl rfl (by simp [Tryz.f312]) (by simp [bnd,bnd.bndL,Ent.a,Ent.cs]) (by simp [bnd,bnd.bndL]) fun B hB hnx=>?_
 simp only [Tryz.f312] at hB ⊢
 have h1:=cmp_pure a.bound b.bound
 have h2:=cmp_pure a.depth b.depth
 have h3:=cmp_pure a.no b.no
 have w2:=cmpI_in a.depth b.depth
 rw [compE] at hR
 have o1:=or_pure [cmpI a.bound b.bound,-cmpI a.depth b.depth,cmpI a.no b.no] (by simp)
 have o2:=or_pure [-cmpI a.depth b.depth,cmpI a.bound b.bound,cmpI a.no b.no] (by simp)
 have o3:=or_pure [cmpI a.no b.no,cmpI a.bound b.bound,cmpI a.depth b.depth] (by simp)
 generalize cmpI a.bound b.bound=cb at *
 generalize cmpI a.depth b.depth=cd at *
 generalize cmpI a.no b.no=cn at *
 have wd:IntKind.i64.wrap (-cd)= -cd:=w64 _ (by omega)
 refine K_run hB 100 ?_
 simp [go_sem,Ent.a,Ent.cs]
 refine K_drawn [] rfl (by rw [hB];kernel_rfl) ?_
 refine K_run hB 100 ?_
 simp [go_sem]
 refine K_dCallP rfl rfl rfl (args:=[.i a.bound,.i b.bound]) (f:=96) (by simp [go_sem]) (h1) ?_
 refine K_run hB 100 ?_
 simp [go_sem]
 refine K_dCallP rfl rfl rfl (args:=[.i a.depth,.i b.depth]) (f:=96) (by simp [go_sem]) (h2) ?_
 refine K_run hB 100 ?_
 simp [go_sem]
 refine K_dCallP rfl rfl rfl (args:=[.i a.no,.i b.no]) (f:=96) (by simp [go_sem]) (h3) ?_
 by_cases c1:o=0
 ·rw [if_pos c1] at hR
  refine K_run hB 100 ?_
  simp [go_sem,c1,wd]
  refine K_call rfl rfl rfl (args:=[.fsl (ints [cb,-cd,cn])]) (f:=313) (by simp [go_sem,ints]) (by simp [go_sem,hB]) ((Pure.loose o1 (by simp [bnd])).spec _ _) ?_
  refine K_run hB 100 ?_
  simp [go_sem]
  exact hR
 rw [if_neg c1] at hR
 by_cases c2:o=1
 ·rw [if_pos c2] at hR
  refine K_run hB 100 ?_
  simp [go_sem,c1,c2,wd]
  refine K_call rfl rfl rfl (args:=[.fsl (ints [-cd,cb,cn])]) (f:=313) (by simp [go_sem,ints]) (by simp [go_sem,hB]) ((Pure.loose o2 (by simp [bnd])).spec _ _) ?_
  refine K_run hB 100 ?_
  simp [go_sem]
  exact hR
 rw [if_neg c2] at hR
 refine K_run hB 100 ?_
 simp [go_sem,c1,c2]
 refine K_call rfl rfl rfl (args:=[.fsl (ints [cn,cb,cd])]) (f:=313) (by simp [go_sem,ints]) (by simp [go_sem,hB]) ((Pure.loose o3 (by simp [bnd])).spec _ _) ?_
 refine K_run hB 100 ?_
 simp [go_sem]
 exact hR
theorem hless_pure (o:Int) (a b:Ent):Pure P 311 [.i o,a.a,b.a] (.b (lessE o a b)):=by
 refine pure_of Tryz.func311 rfl rfl (by simp [Tryz.f311]) (by simp [bnd,bnd.bndL,Ent.a,Ent.cs]) (by simp [bnd,bnd.bndL]) fun B hB hnx=>?_
 simp only [Tryz.f311] at hB ⊢
 have h:=compare_pure o a b
 rw [←compE_less]
 refine K_run hB 100 ?_
 simp [go_sem,Ent.a,Ent.cs]
 refine K_call rfl rfl rfl (args:=[.i o,a.a,b.a]) (f:=312) (by simp [go_sem,Ent.a,Ent.cs]) (by simp [go_sem,hB]) ((h).spec _ _) ?_
 refine K_run hB 100 ?_
 simp [go_sem]
theorem ahead_pure (o o2:Int) (a b:Ent):Pure P 310 [.agg ((a.t o).map .t),.agg ((b.t o2).map .t)] (.b (lessE o a b)):=by
 refine pure_of Tryz.func310 rfl rfl (by simp [Tryz.f310]) (by simp [bnd,bnd.bndL,Ent.t]) (by simp [bnd,bnd.bndL]) fun B hB hnx=>?_
 simp only [Tryz.f310] at hB ⊢
 have h:=hless_pure o a b
 refine K_run hB 100 ?_
 simp [go_sem,Ent.t]
 refine K_call rfl rfl rfl (args:=[.i o,a.a,b.a]) (f:=311) (by simp [go_sem,Ent.a,Ent.cs]) (by simp [go_sem,hB]) ((h).spec _ _) ?_
 refine K_run hB 100 ?_
 simp [go_sem]
end Go.Proofs.YtnoifgjiipgpoaaGreatDoor

set_option maxRecDepth 4000
set_option maxHeartbeats 1000000
namespace Go.Proofs.YtnoifgjiipgpoaaGreatDoor
open Go Go.Proofs.YtnoifgjiipgpoaaGreatDoor.R
def itemsT (o:Int) (l:List Ent):List (List T):=l.map (Ent.t o)
def swapE (l:List Ent) (i j:Nat):List Ent:=(l.set i (l.getD j Ent.zero)).set j (l.getD i Ent.zero)
def upGo (o:Int):Nat→List Ent→Nat→List Ent
 |0,l,_=>l
 |f+1,l,i=>if 0<i∧lessE o (l.getD i Ent.zero) (l.getD ((i-1) / 2) Ent.zero)=true then upGo o f (swapE l i ((i-1) / 2)) ((i-1) / 2) else l
def putH (o:Int) (l:List Ent) (e:Ent):List Ent:=upGo o (l.length+1) (l++[e]) l.length
def putS (σ:Nat→AObj) (nx h q:Nat) (o:Int) (l:List Ent):Nat→AObj:=fun i=>if i=h then .box [.ref (nx+1),.i o] else if i=nx+1 then .arr 4 (itemsT o l) else if i<nx∧i≠q then σ i else .dead
theorem item_ahead:((P.info? 156).bind fun info=>(info.methods.find? fun m=>m.name== "haulier/heap.ahead").map fun mm=>(mm.path,mm.func))=some (#[],some (310,false)):=by kernel_rfl
theorem item_meth:∃info mm,P.info? 156=some info∧(info.methods.find? fun m=>m.name== "haulier/heap.ahead")=some mm∧mm.path= #[]∧mm.func=some (310,false):=by
 obtain ⟨info,h1,h2⟩:=Option.bind_eq_some_iff.1 item_ahead
 obtain ⟨mm,h3,h4⟩:=Option.map_eq_some_iff.1 h2
 obtain ⟨h5,h6⟩:=Prod.mk.inj h4
 exact ⟨info,mm,h1,h3,h5,h6⟩
theorem swapE_len (l:List Ent) (i j:Nat):(swapE l i j).length=l.length:=by simp [swapE]
theorem items_len (o:Int) (l:List Ent):(itemsT o l).length=l.length:=List.length_map _
theorem items_get (o:Int) (l:List Ent) {k:Nat} (h:k<l.length) (h':k<(itemsT o l).length):(itemsT o l)[k]'h'=(l.getD k Ent.zero).t o:=by
 rw [List.getD_eq_getElem?_getD,List.getElem?_eq_getElem h]
 exact List.getElem_map _
theorem items_swap (o:Int) (l:List Ent) (i j:Nat):((itemsT o l).set i ((l.getD j Ent.zero).t o)).set j ((l.getD i Ent.zero).t o)=itemsT o (swapE l i j):=by
 simp [itemsT,swapE,List.map_set]
theorem put_spec (o:Int) (l:List Ent) (e:Ent) (hl:l.length<2^30) {σ:Nat→AObj} {nx h q:Nat} (hh:h<nx) (hσ:σ h= .box [.ref q,.i o]) (hq:q<nx) (hσq:σ q= .arr 4 (itemsT o l)):
  CallSpec P 136 [.ptr h 0,.agg ((e.t o).map .t)] σ nx (.tup []) (putS σ nx h q o (putH o l e)) (nx+2):=by
 refine spec_of_K Tryz.func136 rfl rfl (by simp [Tryz.f136]) fun B hB hnx hσB=>?_
 simp only [Tryz.f136] at hB ⊢
 obtain ⟨info,mm,m1,m2,m3,m4⟩:=item_meth
 have hne:¬h=nx:=by omega
 have hne2:¬q=nx:=by omega
 have hqh:¬q=h:=fun e=>by rw [e,hσ] at hσq;cases hσq
 have hil:=items_len o l
 have hcap:l.length+1≤mostLen:=by show _≤4294967296;omega
 have happ:itemsT o l++[[.i e.bound,.i e.depth,.i e.no,.i o]]=itemsT o (l++[e]):=by simp [itemsT,Ent.t]
 have hne3:¬h=nx+1:=by omega
 have w0':IntKind.i64.wrap (l.length:Int)=(l.length:Int):=w64 _ (by omega)
 have hne5:¬nx+1=h:=by omega
 have hne4:¬h=q:=fun e=>hqh e.symm
 have hil2:(itemsT o (l++[e])).length=l.length+1:=by rw [items_len,List.length_append];rfl
 have w0:IntKind.i64.wrap ((l.length:Int)+1-1)=(l.length:Int):=by rw [w64 _ (by omega)];omega
 generalize hR:putH o l e=R
 rw [putH] at hR
 have fin:∀(τ:Nat→AObj) (m:Slots),τ h= .box [.ref (nx+1),.i o]→τ (nx+1)= .arr 4 (itemsT o R)→(∀j,j<nx→j≠h→j≠q→τ j=σ j)→Go.Proofs.YtnoifgjiipgpoaaGreatDoor.R.Ends nx (St.mk m τ (nx+2)) (.tup []) (putS σ nx h q o R) (nx+2) (.tup []):=fun τ m k1 k2 k3=>by
  refine ⟨fun i=>?_,Nat.le_refl _,by omega,.inl rfl,.inl rfl⟩
  unfold putS
  by_cases e1:i=h
  ·rw [if_pos e1,e1];exact .inr ⟨k1.symm,.inl rfl⟩
  rw [if_neg e1]
  by_cases e2:i=nx+1
  ·rw [if_pos e2,e2];exact .inr ⟨k2.symm,.inl rfl⟩
  rw [if_neg e2]
  by_cases e3:i<nx∧i≠q
  ·rw [if_pos e3];exact .inr ⟨(k3 i e3.1 e1 e3.2).symm,.inl rfl⟩
  ·rw [if_neg e3];exact .inl rfl
 refine K_run hB 100 ?_
 simp [go_sem,Ent.t]
 refine K_scopeN (α:=Nat×List Ent×Nat×(Nat→AObj)) 0 (fun (f,m,i,τ)=>upGo o f m i=R∧i<f∧i<m.length∧m.length<2^31∧τ h= .box [.ref (nx+1),.i o]∧τ (nx+1)= .arr 4 (itemsT o m)∧∀j,j<nx→j≠h→j≠q→τ j=σ j)
  (fun (f,m,i,τ)=>⟨sl [(0,.ptr h 0),(4,.i i)],τ,nx+2⟩) (fun a=>a.1) rfl ?_ ?_
 ·rintro ⟨f,m,i,τ⟩ ⟨g1,g2,g3,g4,g5,g6,g7⟩
  have himl:=items_len o m
  have w1:IntKind.i64.wrap ((i:Int)-1)=(i:Int)-1:=w64 _ (by omega)
  obtain ⟨v,hv⟩:∃v,v=(i-1) / 2:=⟨_,rfl⟩
  have w2:IntKind.i64.wrap (Int.tdiv ((i:Int)-1) 2)=(v:Int):=by
   rw [hv]
   rcases Nat.eq_zero_or_pos i with e | e
   ·subst e;rfl
   ·obtain ⟨k,rfl⟩:∃k,i=k+1:=⟨i-1,by omega⟩
    rw [show (((k+1:Nat):Int)-1)=(k:Int) by omega,Int.tdiv_eq_ediv_of_nonneg (by omega),w64 _ (by omega)]
    simp
  refine K_run hB 100 ?_
  simp [go_sem,w1,w2]
  obtain ⟨f,rfl⟩:∃f',f=f'+1:=⟨f-1,by omega⟩
  rw [upGo,←hv] at g1
  by_cases c0:i=0
  ·rw [if_neg (by omega)] at g1
   subst g1
   subst c0
   refine K_drawn [] rfl (by rw [hB];kernel_rfl) ?_
   refine K_run hB 100 ?_
   simp [go_sem,w1]
   exact fin _ _ g5 g6 g7
  have hov:v<m.length:=by omega
  have hgi:=fun h=>items_get o m (k:=i) g3 h
  have hgo:=fun h=>items_get o m (k:=v) hov h
  have hsw:=items_swap o m i v
  have hneI:¬i=v:=by omega
  generalize m.getD i Ent.zero=a at *
  generalize m.getD v Ent.zero=b at *
  have hah:=ahead_pure o o a b
  have c1:0<i:=by omega
  refine K_drawn [] rfl (by rw [hB];kernel_rfl) ?_
  refine K_run hB 100 ?_
  simp [go_sem,c1,g5,g6,himl,g3,hov,hgi,hgo,Ent.t]
  refine K_dLook (v:=.ifc 156 (a.t o)) (fun ho=>?_) (by simp [go_sem]) ?_
  ·exact does_ifc ho (by simp [go_sem]) rfl (tt_some tt156).1 rfl (by simp [go_sem,Ent.t])
  refine K_run hB 100 ?_
  simp [go_sem,c1,g5,g6,himl,g3,hov,hgi,hgo,Ent.t]
  refine K_dLook (v:=.b (lessE o a b)) (fun ho=>?_) (by simp [go_sem]) ?_
  ·exact does_invoke ho (by simp [go_sem]) rfl rfl rfl m1 m2 m3 m4 (tt_some tt156).1 rfl (by first | (simp [go_sem];done) | (simp [go_sem];rfl)) (by first | (simp [go_sem,Ent.t];done) | (simp [go_sem,Ent.t];rfl)) (hah.spec _ _)
  cases hless:lessE o a b with
  |false=>
   rw [if_neg (by simp [hless])] at g1
   subst g1
   refine K_run hB 100 ?_
   simp [go_sem]
   exact fin _ _ g5 g6 g7
  |true=>
   rw [if_pos ⟨c1,hless⟩] at g1
   refine K_run hB 100 ?_
   simp [go_sem]
   refine K_drawnF [25,27] [9] rfl (by rw [hB];kernel_rfl) (by kernel_rfl) fun ht hf'=>?_
   have hgs:∀h:v<((itemsT o m).set i [.i b.bound,.i b.depth,.i b.no,.i o]).length,((itemsT o m).set i [.i b.bound,.i b.depth,.i b.no,.i o])[v]'h=[.i b.bound,.i b.depth,.i b.no,.i o]:=fun h=>by
    rw [List.getElem_set_ne hneI]
    exact hgo _
   have hls:((itemsT o m).set i [.i b.bound,.i b.depth,.i b.no,.i o]).length=m.length:=by rw [List.length_set];exact himl
   simp only [Ent.t] at hsw
   refine K_run hB 100 ?_
   simp [go_sem,ht,hf',g5,g6,himl,g3,hov,hgi,hgo,hgs,hls,hsw,Ent.t]
   refine Next.mk (f,swapE m i v,v,_) ⟨g1,by simp only;omega,by rw [swapE_len];exact hov,by rw [swapE_len];exact g4,?_,?_,?_⟩ (Imp.slots (by simp [go_sem]) rfl rfl) (by simp only;omega)
   ·simp [oput,g5,hne3]
   ·simp [oput]
   ·intro j h1 h2 h3
    simp [oput,show ¬j=nx+1 by omega,g7 j h1 h2 h3]
 ·intro J hJ
  refine K_run hB 100 ?_
  simp [go_sem,hσ,hne]
  refine K_drawnF [7,10] [0] rfl (by rw [hB];kernel_rfl) (by kernel_rfl) fun ht hf'=>?_
  refine K_run hB 22 ?_
  simp [go_sem,ht,hf',hσ,hne,hne2,hne3,hne4,hne5,hσq,hil,hcap,happ,hil2,w0]
  refine hJ (l.length+1,l++[e],l.length,_) _ ⟨hR,by omega,by rw [List.length_append];simp,by rw [List.length_append];simp only [List.length_cons,List.length_nil];omega,?_,?_,?_⟩ (Imp.slots (by simp [go_sem,w0']) rfl rfl)
  ·simp [oput]
  ·simp [oput,hne3]
   intro e;omega
  ·intro j h1 h2 h3
   simp [oput,h2,h3,show ¬j=nx by omega,show ¬j=nx+1 by omega]
end Go.Proofs.YtnoifgjiipgpoaaGreatDoor
