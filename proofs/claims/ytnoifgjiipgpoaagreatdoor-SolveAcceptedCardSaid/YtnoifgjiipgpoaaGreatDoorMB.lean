/- Parts of the proof. -/
import Derived.Test.YtnoifgjiipgpoaaGreatDoorMA
import Derived.Calls
import Derived.TacticsIn
import Derived.OrdersIn
import Derived.RangeFuncRecord
import Derived.Lib.SlBytesConst
set_option linter.all false
set_option maxHeartbeats 4000000
namespace Go.Proofs.YtnoifgjiipgpoaaGreatDoor.R
open Go.RowKit
def FR (ro:Option Nat):Fence:={Fence.wide with round:=ro}
section
variable {P:Program} {ro:Option Nat} {Q:Exit→Act→World→Prop} {a:Act} {w:World}
theorem jA (m:Machine):Machine.fenced P (FR ro) m:=fenced_wide P m
theorem aAK {n:Nat}:(FR ro).depth.isSome=true→1≤n:=fun h=>by simp [FR,Fence.wide] at h
theorem aBM {n:Nat} {f:FuncId} {args:Array Value} {R:Ending→World→Prop}:CallsIn (FR ro) n P f args w R↔Calls P f args w R:=callsIn_wide (n:=n)
def nG (ro:Option Nat) (P:Program) (c:Code) (Q:Exit→Act→World→Prop) (a:Act) (w:World):Prop:=c.wpIn (FR ro) 0 P Q a w
def nQ (ro:Option Nat) (P:Program) (o:Oper) (a:Act) (w:World) (K:Act→World→Prop) (Q:Exit→Act→World→Prop):Prop:=o.wpIn (FR ro) 0 P a w K Q
def rX (ro:Option Nat) (P:Program) (ops:Array Oper) (Q:Exit→Act→World→Prop) (l:List Oper) (a:Act) (w:World):Prop:=wpListIn (FR ro) 0 P ops Q l a w
def fI (ro:Option Nat) (P:Program) (ops:Array Oper) (Q:Exit→Act→World→Prop) (i:Nat) (K:Act→World→Prop) (a:Act) (w:World):Prop:=wpOpIn (FR ro) 0 P ops Q i K a w
def wpA (ro:Option Nat) (P:Program) (ops:Array Oper) (Q:Exit→Act→World→Prop) (fuel:Nat) (listed:Array Bool) (a:Act) (w:World):Prop:=wpAnyIn (FR ro) 0 P .any ops Q fuel listed a w
theorem y7 {ρ:Operand→Value} {o:Oper} {u:Next} {w':World} (hu:∀d,u≠ .defer d) (h:(execOp ρ o).run P w= .ok u w') (c:Call):o.op≠ .defer c:=by
 intro e;simp only [execOp,e,Sem.run_bind] at h;cases hr:(resolve ρ c o.type).run P w with
 |ok d w1=>rw [hr] at h;simp only [Result.andThen_ok,Sem.run_pure] at h;cases h;exact hu _ rfl
 |halt x w1=>rw [hr] at h;cases h
theorem eW {o:Oper} {u:Value} {w':World} {K:Act→World→Prop} (h:(execOp a.eval o).run P w= .ok (.value u) w') (hK:K (a.put o.dst u) w'):nQ ro P o a w K Q:=by refine ⟨fun _ _=>trivial,?_⟩;rw [Oper.semAt_eq _ _ _ (y7 (fun _ h=>by cases h) h),h];exact hK
theorem vK {o:Oper} {w':World} {K:Act→World→Prop} (h:(execOp a.eval o).run P w= .ok .skip w') (hK:K (a.put o.dst undef) w'):nQ ro P o a w K Q:=by refine ⟨fun _ _=>trivial,?_⟩;rw [Oper.semAt_eq _ _ _ (y7 (fun _ h=>by cases h) h),h];exact hK
theorem aDY {o:Oper} {w':World} {K:Act→World→Prop} {f:FuncId} {args:Array Value} (h:(execOp a.eval o).run P w= .ok (.enter f args) w')
  (hK:Calls P f args w' fun e w''=>∃v,e= .returned v∧K (a.put o.dst v) w''):nQ ro P o a w K Q:=by
 refine ⟨fun _ _=>trivial,?_⟩;rw [Oper.semAt_eq _ _ _ (y7 (fun _ h=>by cases h) h),h];refine ⟨aAK,aBM.2 (hK.mono ?_)⟩;rintro e w'' ⟨v,rfl,hk⟩;exact hk
theorem aMF {o:Oper} {w':World} {K:Act→World→Prop} {l:Nat} {f:FuncId} {tmps:Array Value} {avs bd:Code} (h:(execOp a.eval o).run P w= .ok (.round l f tmps avs bd) w')
  (hK:RoundIn (FR ro) 0 P l f tmps avs bd w' fun e w''=>∃v,e= .returned v∧K (a.put o.dst v) w''):nQ ro P o a w K Q:=by
 refine ⟨fun _ _=>trivial,?_⟩;rw [Oper.semAt_eq _ _ _ (y7 (fun _ h=>by cases h) h),h];refine ⟨aAK,RoundIn.mono hK ?_⟩;rintro e w'' ⟨v,rfl,hk⟩;exact hk
theorem aPU {ops:Array Oper} {rest:List Oper} {o:Oper}
  (h:∀K:Act→World→Prop,(∀a w,rX ro P ops Q rest a w→K a w)→if Region.wanted o (yielded ops a.tmps) then nQ ro P o a w K Q else K (a.put o.dst undef) w):rX ro P ops Q (o :: rest) a w:=
 wpListIn_step fun K hK=>by
  have:=h K hK;split
  ·rename_i hw;rw [if_pos hw] at this;exact this
  ·rename_i hw;rw [if_neg hw] at this;exact ⟨fun _ _=>trivial,this⟩
theorem iO {ops:Array Oper} {rest:List Oper} {o:Oper} (hg:o.guard=none)
  (h:∀K:Act→World→Prop,(∀a w,rX ro P ops Q rest a w→K a w)→nQ ro P o a w K Q):rX ro P ops Q (o :: rest) a w:=
 aPU fun K hK=>by simp only [Region.wanted,hg,if_true];exact h K hK
theorem fU {c:Code} {Q':Exit→Act→World→Prop} (h:nG ro P c Q a w) (hq:∀e a w,Q e a w→Q' e a w):nG ro P c Q' a w:=wpIn_mono h hq
theorem aTT {α:Type} {c:Code} (I:α→Act→World→Prop) (μ:α→Nat) (x0:α) (h₀:I x0 a w)
  (round:∀x a w,I x a w→nG ro P c (Exit.then (fun a' w'=>∃y,I y a' w'∧μ y<μ x) Q) a w):nG ro P (Code.loop c) Q a w:=by
 intro b k cs hro hb hr
 have key:∀n x a w,μ x=n→I x a w→
   ∃e a' w',Q e a' w'∧ArrivesIn (Machine.fenced P (FR ro)) P (lone (b.atR a (.code c :: .inLoop c :: k)) cs w) b k cs e a' w':=by
  intro n
  induction n using Nat.strongRecOn with
  |_ n ih=>
   intro x a w hn hI;obtain ⟨e,a₁,w₁,hq,harr⟩:=round x a w hI b (.inLoop c :: k) cs hro hb hr;cases e with
   |normal=>obtain ⟨y,hI₁,hlt⟩:=hq;obtain ⟨e₂,a₂,w₂,hq₂,harr₂⟩:=ih (μ y) (hn ▸ hlt) y a₁ w₁ rfl hI₁;exact ⟨e₂,a₂,w₂,hq₂,.of_steps (StepsIn.trans harr (.one (jA _) stepR_inLoop)) harr₂⟩
   |exit id=>exact ⟨_,a₁,w₁,hq,.pass (x:=.inLoop c) rfl (fun _ _=>.inl (by simp)) harr⟩
   |goto l=>exact ⟨_,a₁,w₁,hq,.pass (x:=.inLoop c) rfl (fun _ _=>.inl (by simp)) harr⟩
   |ret=>exact ⟨_,a₁,w₁,hq,.pass (x:=.inLoop c) rfl (fun _ _=>.inl (by simp)) harr⟩
   |panic ch=>exact ⟨_,a₁,w₁,hq,.pass (x:=.inLoop c) rfl (fun _ _=>.inl (by simp)) harr⟩
   |outgrown=>exact ⟨_,a₁,w₁,hq,.pass (x:=.inLoop c) rfl (fun _ _=>.inl (by simp)) harr⟩
 obtain ⟨e,a',w',hq,harr⟩:=key _ x0 a w rfl h₀;exact ⟨e,a',w',hq,.of_steps (.one (jA _) stepR_loop) harr⟩
theorem mX {b:Frame} {c:Code} {k:List Item} {cs:List Frame}:step P (lone (b.atR a (.code (.scope c) :: k)) cs w)= .next (lone (b.atR a (.code c :: .inScope c :: k)) cs w):=
 step_lone_go (by simp [stepG,stepG.exec,Frame.atR])
theorem aE6 {b:Frame} {c:Code} {k:List Item} {cs:List Frame}:step P (lone (b.atR a (.inScope c :: k)) cs w)= .next (lone (b.atR a k) cs w):=
 step_lone_go (by simp [stepG,stepG.exec,Frame.atR])
theorem aAX {b:Frame} {c:Code} {k:List Item} {cs:List Frame} {m:Machine} {id:Nat} (h:ArrivesIn (Machine.fenced P (FR ro)) P m b (.inScope c :: k) cs (.exit id) a w):ArrivesIn (Machine.fenced P (FR ro)) P m b k cs (.exit id) a w:=
 ⟨fun k' hk=>h.1 k' (by simp [exitTo,hk]),fun hr hk=>h.2 hr (by simp [exitTo,hk])⟩
theorem aTU {c:Code} (h:nG ro P c (Exit.noGoto Q) a w):nG ro P (Code.scope c) Q a w:=by
 intro b k cs hro hb hr;obtain ⟨e,a₁,w₁,hq,harr⟩:=h b (.inScope c :: k) cs hro hb hr;cases e with
 |normal=>exact ⟨.normal,a₁,w₁,hq,.head (jA _) mX (StepsIn.trans harr (.one (jA _) aE6))⟩
 |exit id=>exact ⟨.exit id,a₁,w₁,hq,.of_steps (.one (jA _) mX) (aAX harr)⟩
 |goto l=>exact hq.elim
 |ret=>exact ⟨_,a₁,w₁,hq,.of_steps (.one (jA _) mX) harr⟩
 |panic ch=>exact ⟨_,a₁,w₁,hq,.of_steps (.one (jA _) mX) harr⟩
 |outgrown=>exact ⟨_,a₁,w₁,hq,.of_steps (.one (jA _) mX) harr⟩
theorem aHP {α:Type} {c:Code} (I:α→Act→World→Prop) (lb:α→Nat) (μ:α→Nat) (rest:Nat→Code)
  (hf:∀x,findLabel c (lb x)=some (rest (lb x)))
  (first:nG ro P c (fun e a' w'=>match e with | .goto l=>∃y,lb y=l∧I y a' w' | e=>Q e a' w') a w)
  (pass:∀x a w,I x a w→nG ro P (rest (lb x)) (fun e a' w'=>match e with | .goto l=>∃y,lb y=l∧I y a' w'∧μ y<μ x | e=>Q e a' w') a w):nG ro P (Code.scope c) Q a w:=by
 intro b k cs hro hb hr;have hg:∀x,gotoIn (lb x) (.inScope c :: k)=some (.code (rest (lb x)) :: .inScope c :: k):=fun x=>by simp [gotoIn,hf]
 have key:∀n x a w,μ x=n→I x a w→∃e a' w',Q e a' w'∧ArrivesIn (Machine.fenced P (FR ro)) P (lone (b.atR a (.code (rest (lb x)) :: .inScope c :: k)) cs w) b k cs e a' w':=by
  intro n
  induction n using Nat.strongRecOn with
  |_ n ih=>
   intro x a w hn hJ;obtain ⟨e,a₁,w₁,hq,harr⟩:=pass x a w hJ b (.inScope c :: k) cs hro hb hr;cases e with
   |normal=>exact ⟨.normal,a₁,w₁,hq,StepsIn.trans harr (.one (jA _) aE6)⟩
   |exit id=>exact ⟨.exit id,a₁,w₁,hq,aAX harr⟩
   |goto l'=>obtain ⟨y,rfl,hJ',hlt⟩:=hq;obtain ⟨e₂,a₂,w₂,hq₂,harr₂⟩:=ih _ (by omega) y a₁ w₁ rfl hJ';exact ⟨e₂,a₂,w₂,hq₂,.of_steps (harr.1 _ (hg y)) harr₂⟩
   |ret=>exact ⟨_,a₁,w₁,hq,harr⟩
   |panic ch=>exact ⟨_,a₁,w₁,hq,harr⟩
   |outgrown=>exact ⟨_,a₁,w₁,hq,harr⟩
 obtain ⟨e,a₁,w₁,hq,harr⟩:=first b (.inScope c :: k) cs hro hb hr
 cases e with
 |normal=>exact ⟨.normal,a₁,w₁,hq,.head (jA _) mX (StepsIn.trans harr (.one (jA _) aE6))⟩
 |exit id=>exact ⟨.exit id,a₁,w₁,hq,.of_steps (.one (jA _) mX) (aAX harr)⟩
 |goto l'=>obtain ⟨y,rfl,hJ'⟩:=hq;obtain ⟨e₂,a₂,w₂,hq₂,harr₂⟩:=key _ y a₁ w₁ rfl hJ';exact ⟨e₂,a₂,w₂,hq₂,.of_steps (.head (jA _) mX (harr.1 _ (hg y))) harr₂⟩
 |ret=>exact ⟨_,a₁,w₁,hq,.of_steps (.one (jA _) mX) harr⟩
 |panic ch=>exact ⟨_,a₁,w₁,hq,.of_steps (.one (jA _) mX) harr⟩
 |outgrown=>exact ⟨_,a₁,w₁,hq,.of_steps (.one (jA _) mX) harr⟩
end
def aGH (n0:Nat) (C:aZ) (σ:Nat→aG) (w:World) (d:Deferred):Prop:=
 ∃r,d.target= .collected r∧n0≤r∧w.heap[r]? =some (.deferred (some []))∧¬C.imm r∧¬kB C σ r
structure jN (n0:Nat) (C:aZ) (σ:Nat→aG) (w:World) (ds:List Deferred):Prop where
 all:∀d∈ds,aGH n0 C σ w d
 nodup:ds.Pairwise fun d e=>d.target≠e.target
theorem jN.nil {n0:Nat} {C:aZ} {σ:Nat→aG} {w:World}:jN n0 C σ w []:=⟨(fun _ h=>by cases h),List.Pairwise.nil⟩
theorem jN.step {n0:Nat} {C C':aZ} {σ σ':Nat→aG} {w w':World} {ds:List Deferred} (h:jN n0 C σ w ds) (st:bO C σ w C' σ' w'):jN n0 C' σ' w' ds:=by
 refine ⟨fun d hd=>?_,h.nodup⟩;obtain ⟨r,h1,h2,h3,h4,h5⟩:=h.all d hd;have hlt:r<w.heap.size:=(Array.getElem?_eq_some_iff.1 h3).1;refine ⟨r,h1,h2,by rw [st.same r hlt h5];exact h3,fun hi=>?_,fun hm=>?_⟩
 ·rcases st.imm' r hi with e | e | e
  ·exact h4 e
  ·exact h5 e
  ·omega
 ·rcases st.wr r hm with e | e
  ·exact h5 e
  ·omega
theorem jN.less {n0:Nat} {C C':aZ} {σ σ':Nat→aG} {w:World} {ds:List Deferred} (h:jN n0 C σ w ds) (hi:∀b,C'.imm b→C.imm b∨kB C σ b) (hm:∀b,kB C' σ' b→C.imm b∨kB C σ b):jN n0 C' σ' w ds:=
 ⟨fun d hd=>by
  obtain ⟨r,h1,h2,h3,h4,h5⟩:=h.all d hd
  exact ⟨r,h1,h2,h3,fun e=>(hi r e).elim h4 h5,fun e=>(hm r e).elim h4 h5⟩,h.nodup⟩
end Go.Proofs.YtnoifgjiipgpoaaGreatDoor.R
namespace Go.Proofs.YtnoifgjiipgpoaaGreatDoor.R
open Go.RowKit
def bS (all:Array Oper) (i:Nat):Option Nat:=(all[i]?).bind (·.dst)
def eO (all:Array Oper) (i:Nat):List Tmp:=match all[i]? with
 |some o=>o.looksAt all
 |none=>[]
def iX (l:List Tmp) (m:bX):bX:=fun t=>if l.contains t then m t else .any
def cO (P:Program) (n:Nat) (all:Array Oper) (i:Nat) (m:bX) (σ:Nat→aG) (nx:Nat) (v:AV) (σ':Nat→aG) (nx':Nat):Prop:=
 ∀(C:aZ) (a:Act) (w:World),C.nx=nx→bC C σ w→a.tmps.size=n→(∀t,aN w C (iX (eO all i) m t) (a.tmps.getD t undef))→
  ∀(ro:Option Nat) (K:Act→World→Prop) (Q:Exit→Act→World→Prop),(∀u w' C',bC C' σ' w'→C'.nx=nx'→bO C σ w C' σ' w'→aN w' C' v u→K (a.put (bS all i) u) w')→fI ro P all Q i K a w
structure Rc where
 i:Nat
 m:bX
 v:AV
 loud:Option ((Nat→aG)×Nat)
def goes (all:Array Oper) (m:bX) (l:List Rc):bX:=l.foldl (fun m r=>put m (bS all r.i) r.v) m
def eV (l:List Rc):List Rc:=l.filter (·.loud.isSome)
def after (c:(Nat→aG)×Nat) (r:Rc):(Nat→aG)×Nat:=r.loud.getD c
def cC (c:(Nat→aG)×Nat) (l:List Rc):(Nat→aG)×Nat:=l.foldl after c
section
variable (P:Program) (n:Nat) (all:Array Oper) (anc:Nat→Nat→Bool)
def kV (r:Rc):(Nat→aG)×Nat→List Rc→Prop
 |c,[]=>cO P n all r.i r.m c.1 c.2 r.v c.1 c.2
 |c,k :: ks=>(anc k.i r.i=true∨cO P n all r.i r.m c.1 c.2 r.v c.1 c.2)∧(anc r.i k.i=true∨kV r (after c k) ks)
def wY:(Nat→aG)×Nat→List Rc→Prop
 |_,[]=>True
 |c,k :: ks=>cO P n all k.i k.m c.1 c.2 k.v (after c k).1 (after c k).2∧wY (after c k) ks
def apart (i j:Nat):Bool:=
 (match bS all i with | some d=>!(eO all j).contains d | none=>true)&&
 (match bS all j with | some d=>!(eO all i).contains d | none=>true)&&
 (match bS all i,bS all j with | some d,some e=>d != e | _,_=>true)
structure Ord (r q:Rc):Prop where
 ne:r.i≠q.i
 or:anc r.i q.i=true∨(apart all r.i q.i=true∧(r.loud=none∨q.loud=none))
structure gP (l:List Rc) (s:St):Prop where
 view:∀l1 r l2,l=l1++r :: l2→∀t∈eO all r.i,goes all s.m l1 t=r.m t
 ord:l.Pairwise (Ord all anc)
 silent:∀r∈l,r.loud=none→kV P n all anc r (s.σ,s.nx) (eV l)
 loud:wY P n all (s.σ,s.nx) (eV l)
end
section
variable {P:Program} {n:Nat} {all:Array Oper} {anc:Nat→Nat→Bool}
theorem bA2 (m:bX) (d e:Option Nat) (v u:AV) (h:∀x y,d=some x→e=some y→x≠y):put (put m d v) e u=put (put m e u) d v:=by
 cases d with
 |none=>rfl
 |some d=>
  cases e with
  |none=>rfl
  |some e=>have:=h d e rfl rfl;funext i;simp only [put];split<;>split<;>simp_all
theorem aQ9 {i j:Nat} (h:apart all i j=true) {x y:Nat} (hx:bS all i=some x) (hy:bS all j=some y):x≠y:=by simp only [apart,hx,hy,Bool.and_eq_true] at h;simpa using h.2
theorem aRA {i j:Nat} (h:apart all i j=true) {x:Nat} (hx:bS all i=some x):x∉eO all j:=by simp only [apart,hx,Bool.and_eq_true] at h;simpa using h.1.1
theorem aRB {i j:Nat} (h:apart all i j=true) {x:Nat} (hx:bS all j=some x):x∉eO all i:=by simp only [apart,hx,Bool.and_eq_true] at h;simpa using h.1.2
theorem yE {l:List Rc} {j:Nat} {v:AV} (h:∀q∈l,apart all q.i j=true):∀(m:bX),goes all (put m (bS all j) v) l=put (goes all m l) (bS all j) v:=by
 induction l with
 |nil=>intro m;rfl
 |cons q l ih=>intro m;have h1:=ih (fun q hq=>h q (List.mem_cons_of_mem _ hq));simp only [goes,List.foldl_cons] at h1 ⊢;rw [bA2 m _ _ _ _ (fun x y hx hy e=>aQ9 (h q List.mem_cons_self) hy hx e.symm)];exact h1 _
theorem aNB {m:bX} {d:Option Nat} {v:AV} {t:Nat} (h:∀x,d=some x→x≠t):put m d v t=m t:=by
 cases d with
 |none=>rfl
 |some d=>simp only [put];rw [if_neg (fun e=>h d rfl e.symm)]
theorem aVL {l:List Rc} {j t:Nat} (h:∀q∈l,apart all q.i j=true) (ht:t∈eO all j):∀(m:bX),goes all m l t=m t:=by
 induction l with
 |nil=>intro m;rfl
 |cons q l ih=>intro m;have h1:=ih (fun q hq=>h q (List.mem_cons_of_mem _ hq));simp only [goes,List.foldl_cons] at h1 ⊢;rw [h1,aNB fun x hx e=>aRA (h q List.mem_cons_self) hx (e ▸ ht)]
theorem oF (m:bX) (l1 l2:List Rc):goes all m (l1++l2)=goes all (goes all m l1) l2:=by simp [goes]
theorem aXM {l:List Rc} (h:∀q∈l,q.loud=none):eV l=[]:=by simp only [eV,List.filter_eq_nil_iff];intro q hq;simp [h q hq]
theorem gP.take {l1 l2:List Rc} {r:Rc} {s:St} (h:gP P n all anc (l1++r :: l2) s) (hr:∀q∈l1++r :: l2,anc q.i r.i=false):
  (∀t∈eO all r.i,s.m t=r.m t)∧
  cO P n all r.i r.m s.σ s.nx r.v (after (s.σ,s.nx) r).1 (after (s.σ,s.nx) r).2∧
  gP P n all anc (l1++l2) ⟨put s.m (bS all r.i) r.v,(after (s.σ,s.nx) r).1,(after (s.σ,s.nx) r).2⟩∧
  goes all (put s.m (bS all r.i) r.v) (l1++l2)=goes all s.m (l1++r :: l2)∧
  cC (after (s.σ,s.nx) r) (l1++l2)=cC (s.σ,s.nx) (l1++r :: l2):=by
 have hord:=h.ord;rw [List.pairwise_append] at hord;obtain ⟨ho1,ho2,ho3⟩:=hord;rw [List.pairwise_cons] at ho2
 have hap:∀q∈l1,apart all q.i r.i=true∧(q.loud=none∨r.loud=none):=fun q hq=>by
  rcases (ho3 q hq r List.mem_cons_self).or with e | e
  ·rw [hr q (List.mem_append_left _ hq)] at e;cases e
  ·exact e
 have hap1:∀q∈l1,apart all q.i r.i=true:=fun q hq=>(hap q hq).1
 have hl1:r.loud≠none→∀q∈l1,q.loud=none:=fun hne q hq=>((hap q hq).2).resolve_right hne
 have hview:∀t∈eO all r.i,s.m t=r.m t:=fun t ht=>by rw [←h.view l1 r l2 rfl t ht,aVL hap1 ht]
 have hls:(r.loud=none∧eV (l1++r :: l2)=eV (l1++l2))∨(r.loud≠none∧eV (l1++r :: l2)=r :: eV (l1++l2)):=by
  cases hk:r.loud with
  |none=>exact .inl ⟨rfl,by simp [eV,hk]⟩
  |some k=>refine .inr ⟨by simp,?_⟩;have h0:eV l1=[]:=aXM (hl1 (by rw [hk];simp));simp only [eV] at h0;simp [eV,hk,h0]
 have hdoes:cO P n all r.i r.m s.σ s.nx r.v (after (s.σ,s.nx) r).1 (after (s.σ,s.nx) r).2:=by
  rcases hls with ⟨hn,hl⟩ | ⟨hn,hl⟩
  ·have h1:=h.silent r (by simp) hn;have h2:after (s.σ,s.nx) r=(s.σ,s.nx):=by simp [after,hn]
   rw [h2];cases hls2:eV (l1++r :: l2) with
   |nil=>rw [hls2] at h1;exact h1
   |cons k ks=>
    rw [hls2] at h1;refine h1.1.resolve_left fun e=>?_
    have hk:k∈eV (l1++r :: l2):=by rw [hls2];exact List.mem_cons_self
    have:=hr k (List.mem_filter.1 hk).1;rw [this] at e;cases e
  ·have h1:=h.loud;rw [hl] at h1;exact h1.1
 refine ⟨hview,hdoes,⟨fun a1 q a2 hq t ht=>?_,?_,fun q hq hqn=>?_,?_⟩,?_,?_⟩
 ·
  have hmem:q∈l1++l2:=by rw [hq];simp
  rcases List.append_eq_append_iff.1 hq with ⟨b,h1,h2⟩ | ⟨b,h1,h2⟩
  ·
   subst h1;have h3:=h.view (l1++r :: b) q a2 (by rw [h2];simp) t ht;rw [oF,yE hap1];rw [oF] at h3;exact h3
  ·
   cases b with
   |nil=>simp only [List.append_nil] at h1;simp only [List.nil_append] at h2;subst h1;have h3:=h.view (l1++[r]) q a2 (by rw [←h2];simp) t ht;rw [yE hap1];rw [oF] at h3;exact h3
   |cons x b=>simp only [List.cons_append,List.cons.injEq] at h2;obtain ⟨rfl,h2⟩:=h2;have h3:=h.view a1 q (b++r :: l2) (by rw [h1];simp) t ht;rw [yE (fun y hy=>hap1 y (by rw [h1];exact List.mem_append_left _ hy)),←h3,aNB fun z hz e=>?_];have:=hap1 q (by rw [h1];simp);exact aRB this hz (e ▸ ht)
 ·exact h.ord.sublist (List.append_sublist_append_left l1 |>.2 (List.sublist_cons_self r l2))
 ·have hq':q∈l1++r :: l2:=by
   rcases List.mem_append.1 hq with e | e
   ·exact List.mem_append_left _ e
   ·exact List.mem_append_right _ (List.mem_cons_of_mem _ e)
  have h1:=h.silent q hq' hqn;rcases hls with ⟨hn,hl⟩ | ⟨hn,hl⟩
  ·rw [hl] at h1;simpa [after,hn] using h1
  ·rw [hl] at h1;refine h1.2.resolve_left fun e=>?_
   rw [hr q hq'] at e;cases e
 ·have h1:=h.loud;rcases hls with ⟨hn,hl⟩ | ⟨hn,hl⟩
  ·rw [hl] at h1;simpa [after,hn] using h1
  ·rw [hl] at h1;exact h1.2
 ·rw [oF,yE hap1,oF];rfl
 ·rcases Option.eq_none_or_eq_some r.loud with hn | ⟨k,hk⟩
  ·simp [cC,List.foldl_append,after,hn]
  ·have h0:=hl1 (by rw [hk];simp)
   have:∀(l:List Rc),(∀q∈l,q.loud=none)→∀c,cC c l=c:=by
    intro l
    induction l with
    |nil=>intro _ c;rfl
    |cons q l ih=>
     intro hq c;simp only [cC,List.foldl_cons] at ih ⊢;have:after c q=c:=by simp [after,hq q List.mem_cons_self]
     rw [this];exact ih (fun x hx=>hq x (List.mem_cons_of_mem _ hx)) c
   have e1:=this l1 h0;simp only [cC] at e1 ⊢;rw [List.foldl_append,List.foldl_append,e1,e1,List.foldl_cons]
def lX (all:Array Oper) (i:Nat):List Nat:=match all[i]? with
 |some o=>(o.after.toList.filter (Region.binds .any)).map (·.on)
 |none=>[]
def oS (all:Array Oper):Nat→List (List Nat)
 |0=>[]
 |k+1=>let t:=oS all k
  t++[(lX all k).foldl (fun acc e=>((e :: t.getD e []).filter (fun x=>!acc.contains x))++acc) []]
def mF (t:List (List Nat)) (i j:Nat):Bool:=(t.getD j []).contains i
def rT (all:Array Oper) (t:List (List Nat)):Bool:=
 (List.range all.size).all fun j=>(lX all j).all (·<j)&&(t.getD j []).all fun x=>(lX all j).contains x||(lX all j).any fun e=>(t.getD e []).contains x
theorem aAA {t:List (List Nat)} (ht:rT all t=true) {listed:Array Bool} (hc:∀j<all.size,listed.getD j true=true→∀e∈lX all j,listed.getD e false=true):
  ∀j,j<all.size→(∀e∈lX all j,listed.getD e false=true)→∀x,mF t x j=true→listed.getD x false=true:=by
 intro j
 induction j using Nat.strongRecOn with
 |_ j ih=>
  intro hj hp x hx;have h:=List.all_eq_true.1 ht j (List.mem_range.2 hj);simp only [Bool.and_eq_true] at h;have hx':x∈t.getD j []:=by simpa [mF] using hx
  have h2:=List.all_eq_true.1 h.2 x hx';simp only [Bool.or_eq_true,List.any_eq_true] at h2;rcases h2 with h2 | ⟨e,he,h2⟩
  ·exact hp x (by simpa using h2)
  ·have hlt:e<j:=by simpa using List.all_eq_true.1 h.1 e he
   have hle:=hp e he;refine ih e hlt (by omega) (fun y hy=>hc e (by omega) ?_ y hy) x h2;rw [Array.getD_eq_getD_getElem?] at hle ⊢;cases hz:listed[e]? with
   |none=>rw [hz] at hle;simp at hle
   |some b=>rw [hz] at hle;simpa using hle
end
abbrev SW:=Option (Nat×Nat×Bool)
def fQ (sw:SW) (i j:Nat):Bool:=match sw with | some (a,b,_)=>i==a&&j==b | none=>false
def iZ (all:Array Oper) (n:Nat) (lo:List Nat) (sw:SW):Bool:=
 let t:=oS all all.size
 (match sw with | some (a,b,_)=>a != b&&decide (a<all.size)&&decide (b<all.size) | none=>true)&&
 (rT all t&&(List.range all.size).all (fun i=>(match bS all i with | some d=>d<n | none=>true)&&
  (List.range all.size).all fun j=>!(decide (i<j))||(mF t i j||(apart all i j&& !(lo.contains i&&lo.contains j))||(fQ sw i j||fQ sw j i))))
def rR (all:Array Oper) (n:Nat) (lo:List Nat):Bool:=iZ all n lo none
def anc (all:Array Oper) (i j:Nat):Bool:=mF (oS all all.size) i j
def gE (all:Array Oper) (sw:SW) (i j:Nat):Bool:=anc all i j||fQ sw i j
theorem uG {all:Array Oper} {sw:SW} {i j:Nat} (h:anc all i j=true):gE all sw i j=true:=by simp [gE,h]
theorem xE {all:Array Oper} {sw:SW} {i j:Nat} (h:fQ sw i j=true):gE all sw i j=true:=by simp [gE,h]
def num:Nat→List Oper→List (Nat×Oper)
 |_,[]=>[]
 |i,o :: r=>(i,o) :: num (i+1) r
section
variable {ρ ρ':Operand→AV}
theorem aC7 {l:List Operand} (h:∀x∈l,ρ x=ρ' x):l.map ρ=l.map ρ':=List.map_congr_left h
theorem aML {l:List (Nat×Operand)} (h:∀p∈l,ρ p.2=ρ' p.2):(l.map fun p=>(p.1,ρ p.2))=l.map fun p=>(p.1,ρ' p.2):=List.map_congr_left fun p hp=>by rw [h p hp]
theorem aDS {o:Option Operand} (h:∀x,o=some x→ρ x=ρ' x):o.map ρ=o.map ρ':=by
 cases o with
 |none=>rfl
 |some x=>simp [h x rfl]
theorem aUS {P:Program} {f:Callee} {args:List Operand} {tys:List TypeId} (h:∀x∈args,ρ x=ρ' x):sK P ρ f args tys=sK P ρ' f args tys:=by
 have h1:=aC7 h;unfold sK;split
 ·split
  ·rename_i x t;rw [h x (by simp)]
  ·rfl
 ·rw [h1]
 ·rw [h1]
 ·rfl
theorem aUU {P:Program} {op:Op} (h:∀x∈op.operands.toList,ρ x=ρ' x):bW P ρ op=bW P ρ' op:=by
 cases op with
 |call c=>
  simp only [bW];refine aUS fun x hx=>h x ?_
  simp only [Op.operands,Call.operands];cases hc:c.callee<;>simp at hx ⊢<;>simp [hx]
 |build t ps=>
  have:=aML (ρ:=ρ) (ρ':=ρ') (l:=ps.toList) fun p hp=>h p.2 (by simp [Op.operands];exact ⟨p.1,by simpa using hp⟩)
  simp only [bW,this]
 |buildSlice t n ps=>
  have:=aML (ρ:=ρ) (ρ':=ρ') (l:=ps.toList) fun p hp=>h p.2 (by simp [Op.operands];exact ⟨p.1,by simpa using hp⟩)
  simp only [bW,this]
 |makeFunc f a b=>
  have h1:=aC7 (ρ:=ρ) (ρ':=ρ') (l:=a.toList) fun x hx=>h x (by simp [Op.operands];exact .inl (by simpa using hx))
  have h2:=aC7 (ρ:=ρ) (ρ':=ρ') (l:=b.toList) fun x hx=>h x (by simp [Op.operands];exact .inr (by simpa using hx))
  simp only [bW,h1,h2]
 |slice t x lo hi mx=>
  have h0:=h x (by simp [Op.operands]);have h1:=aDS (ρ:=ρ) (ρ':=ρ') (o:=lo) fun y hy=>h y (by simp [Op.operands,hy])
  have h2:=aDS (ρ:=ρ) (ρ':=ρ') (o:=hi) fun y hy=>h y (by simp [Op.operands,hy])
  have h3:=aDS (ρ:=ρ) (ρ':=ρ') (o:=mx) fun y hy=>h y (by simp [Op.operands,hy])
  simp only [bW,h0,h1,h2,h3]
 |pick c a b=>have h0:=h c (by simp [Op.operands]);have h1:=h a (by simp [Op.operands]);have h2:=h b (by simp [Op.operands]);simp only [bW,h0,h1,h2]
 |move x=>simp only [bW,h x (by simp [Op.operands])]
 |assign x=>simp only [bW,h x (by simp [Op.operands])]
 |nilCheck x=>simp only [bW,h x (by simp [Op.operands])]
 |unOp o t x=>simp only [bW,h x (by simp [Op.operands])]
 |convert s d x=>simp only [bW,h x (by simp [Op.operands])]
 |fieldAddr s x f=>simp only [bW,h x (by simp [Op.operands])]
 |field s x f=>simp only [bW,h x (by simp [Op.operands])]
 |extract x i=>simp only [bW,h x (by simp [Op.operands])]
 |binOp o t x y t'=>simp only [bW,h x (by simp [Op.operands]),h y (by simp [Op.operands])]
 |indexAddr t x y=>simp only [bW,h x (by simp [Op.operands]),h y (by simp [Op.operands])]
 |index t x y=>simp only [bW,h x (by simp [Op.operands]),h y (by simp [Op.operands])]
 |_=>simp only [bW]
theorem aUT {P:Program} {σ:Nat→aG} {nx:Nat} {f:Callee} {args:List Operand} {tys:List TypeId} (h:∀x∈args,ρ x=ρ' x):sL P σ nx ρ f args tys=sL P σ nx ρ' f args tys:=by
 unfold sL;split
 ·split
  ·rename_i x t;rw [h x (by simp)]
  ·rfl
 ·split
  ·rename_i x y t t';rw [h x (by simp),h y (by simp)]
  ·rfl
 ·rfl
theorem aUW {P:Program} {σ:Nat→aG} {nx:Nat} {op:Op} (h:∀x∈op.operands.toList,ρ x=ρ' x):cP P σ nx ρ op=cP P σ nx ρ' op:=by
 cases op with
 |call c=>
  simp only [cP];refine aUT fun x hx=>h x ?_
  simp only [Op.operands,Call.operands];cases hc:c.callee<;>simp at hx ⊢<;>simp [hx]
 |box t x=>simp only [cP,h x (by simp [Op.operands])]
 |load t x=>simp only [cP,h x (by simp [Op.operands])]
 |store t x y=>simp only [cP,h x (by simp [Op.operands]),h y (by simp [Op.operands])]
 |indexAddr t x y=>simp only [cP,h x (by simp [Op.operands]),h y (by simp [Op.operands])]
 |makeSlice t x y=>simp only [cP,h x (by simp [Op.operands]),h y (by simp [Op.operands])]
 |makeMap t r=>cases r<;>simp only [cP]
 |range t x=>simp only [cP,h x (by simp [Op.operands])]
 |next x st=>cases st<;>simp only [cP,h x (by simp [Op.operands])]
 |_=>simp only [cP]
end
def rF (sw:SW) (i j:Nat):Prop:=(i<j∧fQ sw j i=false)∨fQ sw i j=true
section
variable (P:Program) (n:Nat) (all:Array Oper) (lo:List Nat) (sw:SW)
structure kU (s0:St) (done:List Rc) (rest:List (Nat×Oper)) (pend:List Rc) (s:St):Prop where
 inv:gP P n all (gE all sw) done s0
 here:∀p∈rest,all[p.1]? =some p.2
 order:(done.map (·.i)++rest.map (·.1)).Pairwise (rF sw)
 fin:s=⟨goes all s0.m done,(cC (s0.σ,s0.nx) done).1,(cC (s0.σ,s0.nx) done).2⟩
 hlo:∀q∈done,q.loud≠none→q.i∈lo
 hpend:∀q∈done,q.loud=none→(∀σ nx,cO P n all q.i q.m σ nx q.v σ nx)∨(∀k∈lo,q.i<k→anc all q.i k=true)∨q∈pend
 small:∀q∈done,q.i<all.size
 mark:sw=none→∀q∈pend,q.loud≠none→kV P n all (gE all sw) q (s0.σ,s0.nx) (eV done)
variable (Q:St→Prop) (s0:St)
def qM (done:List Rc) (ix:List Nat):Prop:=
 ∃l,gP P n all (gE all sw) (done++l) s0∧l.map (·.i)=ix∧Q ⟨goes all s0.m (done++l),(cC (s0.σ,s0.nx) (done++l)).1,(cC (s0.σ,s0.nx) (done++l)).2⟩
def aFY (a b:Nat) (done:List Rc) (ix:List Nat):Prop:=
 ∃d x y,(gP P n all (gE all (some (a,b,true))) (done++(d++x)) s0∧(d++x).map (·.i)=ix∧Q ⟨goes all s0.m (done++(d++x)),(cC (s0.σ,s0.nx) (done++(d++x))).1,(cC (s0.σ,s0.nx) (done++(d++x))).2⟩)∧
  (gP P n all (gE all (some (b,a,true))) (done++(d++y)) s0∧Q ⟨goes all s0.m (done++(d++y)),(cC (s0.σ,s0.nx) (done++(d++y))).1,(cC (s0.σ,s0.nx) (done++(d++y))).2⟩)∧
  (∀i,i∈y.map (·.i)↔i∈x.map (·.i))∧x.length=y.length∧(done.map (·.i)++(d++y).map (·.i)).Pairwise (rF (some (b,a,true)))∧(∀r∈x,r.i=a∨r.i=b∨anc all a r.i=true∨anc all b r.i=true)
def oZ (done:List Rc) (ix:List Nat):Prop:=match sw with
 |some (a,b,false)=>aFY P n all Q s0 a b done ix
 |_=>qM P n all sw Q s0 done ix
end
section
variable (P:Program) (n:Nat) (all:Array Oper) (lo:List Nat) (sw:SW)
def bZ (rest:List (Nat×Oper)) (pend:List Rc) (s:St) (Q:St→Prop):Prop:=
 iZ all n lo sw=true→∀s0 done,kU P n all lo sw s0 done rest pend s→oZ P n all sw Q s0 done (rest.map (·.1))
end
section
variable {P:Program} {n:Nat} {all:Array Oper} {lo:List Nat} {sw:SW} {pend:List Rc} {s:St} {Q:St→Prop} {i:Nat}
def zT:SW→Bool
 |some (_,_,false)=>false
 |_=>true
theorem bZ.nil (hs:zT sw=true) (h:Q s):bZ P n all lo sw [] pend s Q:=by
 intro _ s0 done hp;have h1:qM P n all sw Q s0 done []:=⟨[],by simpa using hp.inv,rfl,by rw [List.append_nil,←hp.fin];exact h⟩;unfold oZ;split
 ·simp [zT] at hs
 ·exact h1
theorem oZ.cons {s0:St} {done:List Rc} {r:Rc} {ix:List Nat} (h:oZ P n all sw Q s0 (done++[r]) ix):oZ P n all sw Q s0 done (r.i :: ix):=by
 unfold oZ at h ⊢;split
 ·obtain ⟨d,x,y,⟨h1,h2,h3⟩,⟨h4,h5⟩,h6,h7,h8,h9⟩:=h;refine ⟨r :: d,x,y,⟨?_,?_,?_⟩,⟨?_,?_⟩,h6,h7,?_,h9⟩
  ·simpa using h1
  ·simpa using h2
  ·simpa using h3
  ·simpa using h4
  ·simpa using h5
  ·simpa using h8
 ·rename_i hne
  have h':qM P n all sw Q s0 (done++[r]) ix:=by
   split at h
   ·rename_i a b;exact absurd rfl (hne a b)
   ·exact h
  obtain ⟨l,h1,h2,h3⟩:=h';refine ⟨r :: l,?_,?_,?_⟩
  ·simpa using h1
  ·simpa using h2
  ·simpa using h3
theorem bEB (h:iZ all n lo sw=true) {i j:Nat} (hi:i<all.size) (hj:j<all.size) (hij:i<j):anc all i j=true∨(apart all i j=true∧¬(i∈lo∧j∈lo))∨fQ sw i j=true∨fQ sw j i=true:=by
 simp only [iZ,Bool.and_eq_true,List.all_eq_true,List.mem_range] at h;have:=(h.2.2 i hi).2 j hj;simp only [Bool.or_eq_true,Bool.and_eq_true,Bool.not_eq_true',decide_eq_false_iff_not,Bool.and_eq_false_iff,List.contains_iff_mem] at this;rcases this with h1 | ((h1 | ⟨h1,h2⟩) | h1)
 ·exact absurd hij h1
 ·exact .inl h1
 ·refine .inr (.inl ⟨h1,fun ⟨h3,h4⟩=>?_⟩);rcases h2 with h2 | h2
  ·simp [h3] at h2
  ·simp [h4] at h2
 ·exact .inr (.inr h1)
theorem aE5 (h:iZ all n lo sw=true):rT all (oS all all.size)=true:=by simp only [iZ,Bool.and_eq_true] at h;exact h.2.1
theorem aE4 {a b:Nat} {d:Bool} (h:iZ all n lo (some (a,b,d))=true):a≠b∧a<all.size∧b<all.size:=by simp only [iZ,Bool.and_eq_true,bne_iff_ne,decide_eq_true_eq] at h;exact ⟨h.1.1.1,h.1.1.2,h.1.2⟩
theorem bEA (h:iZ all n lo sw=true) {a b:Nat} (e:fQ sw a b=true):a≠b:=by
 cases sw with
 |none=>simp [fQ] at e
 |some p=>obtain ⟨a',b',d⟩:=p;simp only [fQ,Bool.and_eq_true,beq_iff_eq] at e;obtain ⟨rfl,rfl⟩:=e;exact (aE4 h).1
theorem bD8 (h:iZ all n lo sw=true):∀i<all.size,(match bS all i with | some d=>decide (d<n) | none=>true)=true:=by simp only [iZ,Bool.and_eq_true,List.all_eq_true,List.mem_range] at h;exact fun i hi=>(h.2.2 i hi).1
theorem yD:∀(l:List Rc) (c:(Nat→aG)×Nat),cC c l=cC c (eV l):=by
 intro l
 induction l with
 |nil=>intro c;rfl
 |cons r l ih=>
  intro c;cases hr:r.loud with
  |none=>
   have h1:eV (r :: l)=eV l:=by simp [eV,hr]
   have h2:after c r=c:=by simp [after,hr]
   rw [h1,←ih];simp only [cC,List.foldl_cons,h2]
  |some x=>
   have h1:eV (r :: l)=r :: eV l:=by simp [eV,hr]
   rw [h1];simp only [cC,List.foldl_cons] at ih ⊢;exact ih _
theorem aOC {t:Nat→Nat→Bool} {q r:Rc}:∀(ks:List Rc) (c:(Nat→aG)×Nat),kV P n all t q c ks→(t q.i r.i=true∨cO P n all q.i q.m (after (cC c ks) r).1 (after (cC c ks) r).2 q.v (after (cC c ks) r).1 (after (cC c ks) r).2)→
  kV P n all t q c (ks++[r]):=by
 intro ks
 induction ks with
 |nil=>intro c h1 h2;exact ⟨.inr h1,h2⟩
 |cons k ks ih=>intro c h1 h2;exact ⟨h1.1,h1.2.imp id fun h=>ih _ h h2⟩
theorem bCT {t:Nat→Nat→Bool} {r:Rc}:∀(ks:List Rc) (c:(Nat→aG)×Nat),(∀k∈ks,t k.i r.i=true)→cO P n all r.i r.m (cC c ks).1 (cC c ks).2 r.v (cC c ks).1 (cC c ks).2→kV P n all t r c ks:=by
 intro ks
 induction ks with
 |nil=>intro c _ h;exact h
 |cons k ks ih=>intro c h1 h2;exact ⟨.inl (h1 k List.mem_cons_self),.inr (ih _ (fun q hq=>h1 q (List.mem_cons_of_mem _ hq)) h2)⟩
theorem bCU {t:Nat→Nat→Bool} {r:Rc} (h:∀σ nx,cO P n all r.i r.m σ nx r.v σ nx):∀(ks:List Rc) (c:(Nat→aG)×Nat),kV P n all t r c ks:=by
 intro ks
 induction ks with
 |nil=>intro c;exact h _ _
 |cons k ks ih=>intro c;exact ⟨.inr (h _ _),.inr (ih _)⟩
theorem aXL {r:Rc}:∀(ks:List Rc) (c:(Nat→aG)×Nat),wY P n all c ks→cO P n all r.i r.m (cC c ks).1 (cC c ks).2 r.v (after (cC c ks) r).1 (after (cC c ks) r).2→wY P n all c (ks++[r]):=by
 intro ks
 induction ks with
 |nil=>intro c _ h;exact ⟨h,True.intro⟩
 |cons k ks ih=>intro c h1 h2;exact ⟨h1.1,ih _ h1.2 h2⟩
def aGI (all:Array Oper) (sw:SW) (pend:List Rc) (i:Nat) (m:bX) (v:AV):Prop:=sw=none∧∃q∈pend,q.loud≠none∧q.i=i∧q.v=v∧∀t∈eO all i,q.m t=m t
theorem kV.same {t:Nat→Nat→Bool} {q r:Rc} (hi:q.i=r.i) (hv:q.v=r.v) (hm:∀t∈eO all r.i,q.m t=r.m t):∀(ks:List Rc) (c:(Nat→aG)×Nat),kV P n all t q c ks→kV P n all t r c ks:=by
 have hmask:iX (eO all r.i) q.m=iX (eO all r.i) r.m:=by
  funext t;simp only [iX];split
  ·rename_i h;exact hm t (by simpa using h)
  ·rfl
 have hdoes:∀(σ:Nat→aG) (nx:Nat),cO P n all q.i q.m σ nx q.v σ nx→cO P n all r.i r.m σ nx r.v σ nx:=by intro σ nx h;rw [hi,hv] at h;intro C a w h1 h2 h3 h4;exact h C a w h1 h2 h3 (by rw [hmask];exact h4)
 intro ks
 induction ks with
 |nil=>intro c h;exact hdoes _ _ h
 |cons k ks ih=>intro c h;exact ⟨h.1.imp (fun e=>by rw [←hi];exact e) (fun g=>hdoes _ _ g),h.2.imp (fun e=>by rw [←hi];exact e) (fun g=>ih _ g)⟩
theorem bZ.stepG {o:Oper} {rest:List (Nat×Oper)} {v:AV} {loud:Option ((Nat→aG)×Nat)} {pend':List Rc}
  (hd:cO P n all i s.m s.σ s.nx v (loud.getD (s.σ,s.nx)).1 (loud.getD (s.σ,s.nx)).2)
  (hs:loud=none→((∀σ nx,cO P n all i s.m σ nx v σ nx)∨(((∀k∈lo,k<i→anc all k i=true)∨aGI all sw pend i s.m v)∧((∀k∈lo,i<k→anc all i k=true)∨⟨i,s.m,v,none⟩∈pend'))))
  (hl:∀c,loud=some c→i∈lo∧∀q∈pend,anc all q.i i=true∨cO P n all q.i q.m c.1 c.2 q.v c.1 c.2)
  (hp:∀q∈pend,q∈pend') (hpq:∀q∈pend',q.loud≠none→q∈pend)
  (h:bZ P n all lo sw rest pend' ⟨put s.m o.dst v,(loud.getD (s.σ,s.nx)).1,(loud.getD (s.σ,s.nx)).2⟩ Q):bZ P n all lo sw ((i,o) :: rest) pend s Q:=by
 intro hst s0 done pre;have ho:all[i]? =some o:=pre.here (i,o) List.mem_cons_self
 have hi:i<all.size:=by
  rcases Nat.lt_or_ge i all.size with h1 | h1
  ·exact h1
  ·rw [Array.getElem?_eq_none h1] at ho;cases ho
 have hdst:bS all i=o.dst:=by simp [bS,ho]
 have hsm:goes all s0.m done=s.m:=by rw [pre.fin]
 have hsc:cC (s0.σ,s0.nx) done=(s.σ,s.nx):=by rw [pre.fin]
 have hix:∀q∈done,rF sw q.i i:=fun q hq=>by have:=pre.order;rw [List.pairwise_append] at this;exact this.2.2 q.i (List.mem_map.2 ⟨q,hq,rfl⟩) i (by simp)
 obtain ⟨r,hr⟩:∃r:Rc,r=⟨i,s.m,v,loud⟩:=⟨_,rfl⟩;have hls:eV (done++[r])=eV done++(if loud.isSome then [r] else []):=by subst hr;cases loud<;>simp [eV]
 have haft:after (s.σ,s.nx) r=loud.getD (s.σ,s.nx):=by rw [hr];rfl
 have hmap:(done++[r]).map (·.i)++rest.map (·.1)=done.map (·.i)++((i,o) :: rest).map (·.1):=by rw [hr];simp
 have hri:r.i=i:=by rw [hr]
 rw [List.map_cons];show oZ P n all sw Q s0 done (i :: _);rw [←hri];refine oZ.cons (h hst s0 (done++[r]) ⟨⟨?_,?_,?_,?_⟩,fun p hp=>pre.here p (List.mem_cons_of_mem _ hp),by rw [hmap];exact pre.order,?_,?_,?_,?_,?_⟩)
 ·intro l1 q l2 hq t ht;rcases List.eq_nil_or_concat l2 with h0 | ⟨l2',x,h0⟩
  ·subst h0;obtain ⟨e1,e2⟩:=List.append_inj' hq rfl;simp only [List.cons.injEq,and_true] at e2;subst e1;rw [←e2,hr,hsm]
  ·subst h0;rw [List.concat_eq_append] at hq;have:done++[r]=(l1++q :: l2')++[x]:=by rw [hq];simp
   obtain ⟨e1,e2⟩:=List.append_inj' this rfl;exact pre.inv.view l1 q l2' e1 t ht
 ·rw [List.pairwise_append];refine ⟨pre.inv.ord,List.pairwise_singleton _ _,fun q hq r' hr'=>?_⟩;simp only [List.mem_singleton] at hr';subst hr';have hlt:=hix q hq;rw [hr];rcases hlt with ⟨hlt,hsw⟩ | hsw
  ·refine ⟨Nat.ne_of_lt hlt,?_⟩;rcases bEB hst (pre.small q hq) hi hlt with h1 | ⟨h1,h2⟩ | h1 | h1
   ·exact .inl (uG h1)
   ·refine .inr ⟨h1,?_⟩;cases hql:q.loud with
    |none=>exact .inl rfl
    |some x=>
     refine .inr ?_;cases hlo:loud with
     |none=>rfl
     |some y=>exact absurd ⟨pre.hlo q hq (by rw [hql];simp),(hl y hlo).1⟩ h2
   ·exact .inl (xE h1)
   ·rw [hsw] at h1;cases h1
  ·exact ⟨bEA hst hsw,.inl (xE hsw)⟩
 ·intro q hq hqn;rw [hls];rcases List.mem_append.1 hq with hq | hq
  ·have h1:=pre.inv.silent q hq hqn;cases hlo:loud with
   |none=>simpa using h1
   |some c=>
    simp only [Option.isSome_some,if_true];refine aOC _ _ h1 ?_;rw [←yD,hsc,haft,hlo];rcases pre.hpend q hq hqn with h2 | h2 | h2
    ·exact .inr (h2 _ _)
    ·refine .inl ?_;rw [hr];rcases hix q hq with ⟨hlt,_⟩ | hsw
     ·exact uG (h2 i (hl c hlo).1 hlt)
     ·exact xE hsw
    ·have:=(hl c hlo).2 q h2;rw [hr];exact this.imp uG id
  ·simp only [List.mem_singleton] at hq;subst hq;have hln:loud=none:=by rw [hr] at hqn;exact hqn
   rw [hln];simp only [Option.isSome_none,Bool.false_eq_true,if_false,List.append_nil];rcases hs hln with h1 | ⟨h1 | ⟨hsn,q,hq1,hq2,hq3,hq4,hq5⟩,_⟩
   ·exact bCU (by rw [hr];exact h1) _ _
   rotate_left
   ·exact (pre.mark hsn q hq1 hq2).same (by rw [hr];exact hq3) (by rw [hr];exact hq4) (by rw [hr];exact hq5) _ _
   ·refine bCT _ _ (fun k hk=>?_) ?_
    ·have hk':=List.mem_filter.1 hk;rw [hr];rcases hix k hk'.1 with ⟨hlt,_⟩ | hsw
     ·exact uG (h1 k.i (pre.hlo k hk'.1 (by intro e;rw [e] at hk';simp at hk')) hlt)
     ·exact xE hsw
    ·rw [←yD,hsc,hr];rw [hln] at hd;exact hd
 ·rw [hls];have h1:=pre.inv.loud;cases hlo:loud with
  |none=>simpa using h1
  |some c=>simp only [Option.isSome_some,if_true];refine aXL _ _ h1 ?_;rw [←yD,hsc,haft,hr];exact hd
 ·have e1:goes all s0.m (done++[r])=put s.m o.dst v:=by rw [oF,hsm,hr,←hdst];rfl
  have e2:cC (s0.σ,s0.nx) (done++[r])=loud.getD (s.σ,s.nx):=by
   have:cC (s0.σ,s0.nx) (done++[r])=after (cC (s0.σ,s0.nx) done) r:=by simp [cC]
   rw [this,hsc,haft]
  rw [e1,e2]
 ·intro q hq hqn;rcases List.mem_append.1 hq with hq | hq
  ·exact pre.hlo q hq hqn
  ·simp only [List.mem_singleton] at hq;subst hq;rw [hr] at hqn ⊢;simp only at hqn;cases hlo:loud with
   |none=>exact absurd hlo hqn
   |some c=>exact (hl c hlo).1
 ·intro q hq hqn;rcases List.mem_append.1 hq with hq | hq
  ·exact (pre.hpend q hq hqn).imp id fun h=>h.imp id (hp q)
  ·simp only [List.mem_singleton] at hq;subst hq;rw [hr] at hqn ⊢;simp only at hqn;subst hqn;rcases hs rfl with h1 | ⟨_,h1⟩
   ·exact .inl h1
   ·exact .inr h1
 ·intro q hq;rcases List.mem_append.1 hq with hq | hq
  ·exact pre.small q hq
  ·simp only [List.mem_singleton] at hq;subst hq;rw [hr];exact hi
 ·intro hsn q hq hqn;have hqp:=hpq q hq hqn;have h1:=pre.mark hsn q hqp hqn;rw [hls];cases hlo:loud with
  |none=>simpa using h1
  |some c=>simp only [Option.isSome_some,if_true];refine aOC _ _ h1 ?_;rw [←yD,hsc,haft,hlo,hr];exact ((hl c hlo).2 q hqp).imp uG id
theorem bZ.step {o:Oper} {rest:List (Nat×Oper)} {v:AV} {loud:Option ((Nat→aG)×Nat)} {pend':List Rc}
  (hd:cO P n all i s.m s.σ s.nx v (loud.getD (s.σ,s.nx)).1 (loud.getD (s.σ,s.nx)).2)
  (hs:loud=none→((∀σ nx,cO P n all i s.m σ nx v σ nx)∨((∀k∈lo,k<i→anc all k i=true)∧((∀k∈lo,i<k→anc all i k=true)∨⟨i,s.m,v,none⟩∈pend'))))
  (hl:∀c,loud=some c→i∈lo∧∀q∈pend,anc all q.i i=true∨cO P n all q.i q.m c.1 c.2 q.v c.1 c.2)
  (hp:∀q∈pend,q∈pend')
  (h:bZ P n all lo sw rest pend' ⟨put s.m o.dst v,(loud.getD (s.σ,s.nx)).1,(loud.getD (s.σ,s.nx)).2⟩ Q) (hpq:∀q∈pend',q.loud≠none→q∈pend:=by first | exact fun _ h _=>h | exact fun _ h hn=>(List.mem_cons.1 h).resolve_left (fun e=>hn (by rw [e]))):bZ P n all lo sw ((i,o) :: rest) pend s Q:=
 bZ.stepG hd (fun e=>(hs e).imp id fun g=>⟨.inl g.1,g.2⟩) hl hp hpq h
theorem bZ.at {o:Oper} {rest:List (Nat×Oper)} (h:all[i]? =some o→bZ P n all lo sw ((i,o) :: rest) pend s Q):bZ P n all lo sw ((i,o) :: rest) pend s Q:=
 fun hst s0 done pre=>h (pre.here (i,o) List.mem_cons_self) hst s0 done pre
theorem kV.congr {f g:Nat→Nat→Bool} {r:Rc}:∀{ks:List Rc} {c:(Nat→aG)×Nat},(∀k∈ks,f k.i r.i=g k.i r.i∧f r.i k.i=g r.i k.i)→kV P n all f r c ks→kV P n all g r c ks:=by
 intro ks
 induction ks with
 |nil=>intro c _ h;exact h
 |cons k ks ih=>intro c h h1;obtain ⟨e1,e2⟩:=h k List.mem_cons_self;exact ⟨h1.1.imp (fun e=>e1 ▸ e) id,h1.2.imp (fun e=>e2 ▸ e) (ih fun q hq=>h q (List.mem_cons_of_mem _ hq))⟩
theorem gP.congr {f g:Nat→Nat→Bool} {l:List Rc} {s:St} (h:∀r∈l,∀q∈l,f r.i q.i=g r.i q.i) (hi:gP P n all f l s):gP P n all g l s:=by
 refine ⟨hi.view,hi.ord.imp_of_mem fun {r q} hr hq ho=>⟨ho.ne,ho.or.imp (fun e=>(h r hr q hq) ▸ e) id⟩,fun r hr hn=>?_,hi.loud⟩;refine (hi.silent r hr hn).congr fun k hk=>?_
 have hk':=(List.mem_filter.1 hk).1;exact ⟨h k hk' r hr,h r hr k hk'⟩
theorem bD9 {a b:Nat} {d e:Bool} (h:iZ all n lo (some (a,b,d))=true):iZ all n lo (some (b,a,e))=true:=by
 have hsw:∀i j,fQ (some (b,a,e)) i j=(i==b&&j==a):=fun _ _=>rfl
 have hsw':∀i j,fQ (some (a,b,d)) i j=(i==a&&j==b):=fun _ _=>rfl
 simp only [iZ,Bool.and_eq_true,List.all_eq_true,List.mem_range,Bool.or_eq_true,hsw,hsw',bne_iff_ne] at h ⊢;obtain ⟨⟨⟨h1,h2⟩,h3⟩,h4,h5⟩:=h;refine ⟨⟨⟨Ne.symm h1,h3⟩,h2⟩,h4,fun i hi=>⟨(h5 i hi).1,fun j hj=>?_⟩⟩;rcases (h5 i hi).2 j hj with g | g | ⟨g1,g2⟩ | ⟨g1,g2⟩
 ·exact .inl g
 ·exact .inr (.inl g)
 ·exact .inr (.inr (.inr ⟨g2,g1⟩))
 ·exact .inr (.inr (.inl ⟨g2,g1⟩))
theorem bZ.pair {a b:Nat} {oa ob:Oper} {rest:List (Nat×Oper)} (hr:∀p∈rest,anc all a p.1=true∨anc all b p.1=true) (h1:bZ P n all lo (some (a,b,true)) ((a,oa) :: (b,ob) :: rest) pend s Q) (h2:bZ P n all lo (some (b,a,true)) ((b,ob) :: (a,oa) :: rest) pend s Q):
  bZ P n all lo (some (a,b,false)) ((a,oa) :: (b,ob) :: rest) pend s Q:=by
 intro hst s0 done pre;obtain ⟨hab,_,_⟩:=aE4 hst;have hsw:∀i j,fQ (some (b,a,true)) i j=(i==b&&j==a):=fun _ _=>rfl
 have hsw':∀i j,fQ (some (a,b,false)) i j=(i==a&&j==b):=fun _ _=>rfl
 have ho:=pre.order;simp only [List.map_cons,List.pairwise_append,List.pairwise_cons,List.mem_cons,forall_eq_or_imp] at ho;obtain ⟨o1,⟨⟨o2,o3⟩,o4,o5⟩,o6⟩:=ho
 have hna:∀i∈done.map (·.i),i≠a∧i≠b:=by
  intro i hi;obtain ⟨g1,g2,_⟩:=o6 i hi
  have e1:i≠a:=by
   rintro rfl;rcases g1 with ⟨g,_⟩ | g
   ·exact Nat.lt_irrefl _ g
   ·simp only [hsw',Bool.and_eq_true,beq_iff_eq] at g;exact hab g.2
  refine ⟨e1,?_⟩;rintro rfl;rcases g2 with ⟨g,_⟩ | g
  ·exact Nat.lt_irrefl _ g
  ·simp only [hsw',Bool.and_eq_true,beq_iff_eq] at g;exact e1 g.1
 have hb:∀j∈rest.map (·.1),b<j:=fun j hj=>by
  rcases o4 j hj with ⟨g,_⟩ | g
  ·exact g
  ·simp only [hsw',Bool.and_eq_true,beq_iff_eq] at g;exact absurd g.1.symm hab
 have ha:∀j∈rest.map (·.1),a<j:=fun j hj=>by
  rcases o3 j hj with ⟨g,_⟩ | g
  ·exact g
  ·simp only [hsw',Bool.and_eq_true,beq_iff_eq] at g;have:=hb j hj;omega
 have hlt:∀{i j:Nat},i≠a→rF (some (a,b,false)) i j→i<j:=fun {i j} hi h=>by
  rcases h with ⟨g,_⟩ | g
  ·exact g
  ·simp only [hsw',Bool.and_eq_true,beq_iff_eq] at g;exact absurd g.1 hi
 have hn:∀{i j:Nat},i<j→i≠a→rF (some (b,a,true)) i j:=fun {i j} h hi=>.inl ⟨h,by rw [hsw];simp [hi]⟩
 have hdi:∀r∈done,r.i≠a∧r.i≠b:=fun r hr=>hna r.i (List.mem_map.2 ⟨r,hr,rfl⟩)
 have p1:kU P n all lo (some (a,b,true)) s0 done ((a,oa) :: (b,ob) :: rest) pend s:=⟨pre.inv,pre.here,pre.order,pre.fin,pre.hlo,pre.hpend,pre.small,fun e=>by cases e⟩
 have p2:kU P n all lo (some (b,a,true)) s0 done ((b,ob) :: (a,oa) :: rest) pend s:=by
  refine ⟨pre.inv.congr fun r hr q hq=>?_,fun p hp=>pre.here p ?_,?_,pre.fin,pre.hlo,pre.hpend,pre.small,fun e=>by cases e⟩
  ·have e1:=hdi r hr;have f1:(r.i==a)=false:=by simpa using e1.1
   have f2:(r.i==b)=false:=by simpa using e1.2
   simp only [gE,hsw,hsw',f1,f2,Bool.false_and]
  ·simp only [List.mem_cons] at hp ⊢;rcases hp with h | h | h
   ·exact .inr (.inl h)
   ·exact .inl h
   ·exact .inr (.inr h)
  ·simp only [List.map_cons,List.pairwise_append,List.pairwise_cons,List.mem_cons,forall_eq_or_imp];refine ⟨o1.imp_of_mem fun {i j} hi hj h=>hn (hlt (hna i hi).1 h) (hna i hi).1,⟨⟨.inr (by rw [hsw];simp),fun j hj=>hn (hb j hj) (Ne.symm hab)⟩,fun j hj=>.inl ⟨ha j hj,?_⟩,o5.imp_of_mem fun {i j} hi hj h=>?_⟩,fun i hi=>⟨hn (hlt (hna i hi).1 (o6 i hi).2.1) (hna i hi).1,hn (hlt (hna i hi).1 (o6 i hi).1) (hna i hi).1,fun j hj=>hn (hlt (hna i hi).1 ((o6 i hi).2.2 j hj)) (hna i hi).1⟩⟩
   ·have:=hb j hj;rw [hsw];simp;omega
   ·have e:=ha i hi;exact hn (hlt (by omega) h) (by omega)
 obtain ⟨x,x1,x2,x3⟩:qM P n all (some (a,b,true)) Q s0 done (a :: b :: List.map (fun (p:Nat×Oper)=>p.fst) rest):=h1 hst s0 done p1;obtain ⟨y,y1,y2,y3⟩:qM P n all (some (b,a,true)) Q s0 done (b :: a :: List.map (fun (p:Nat×Oper)=>p.fst) rest):=h2 (bD9 hst) s0 done p2;refine ⟨[],x,y,⟨x1,x2,x3⟩,⟨y1,y3⟩,fun i=>?_,?_,?_,fun r hr'=>?_⟩
 ·rw [x2,y2];simp only [List.map_cons,List.mem_cons];constructor
  ·rintro (h | h | h)
   ·exact .inr (.inl h)
   ·exact .inl h
   ·exact .inr (.inr h)
  ·rintro (h | h | h)
   ·exact .inr (.inl h)
   ·exact .inl h
   ·exact .inr (.inr h)
 ·have e1:=congrArg List.length x2;have e2:=congrArg List.length y2;simp only [List.length_map,List.length_cons] at e1 e2;omega
 ·rw [List.nil_append,y2];exact p2.order
 ·have:r.i∈x.map (·.i):=List.mem_map.2 ⟨r,hr',rfl⟩;rw [x2] at this;simp only [List.map_cons,List.mem_cons,List.mem_map] at this;rcases this with h | h | ⟨p,hp,h⟩
  ·exact .inl h
  ·exact .inr (.inl h)
  ·rw [←h];exact .inr (.inr (hr p hp))
theorem aL5 (p:Nat×Oper):∀(l:List Oper) (k:Nat),p∈num k l→k≤p.1∧l[p.1-k]? =some p.2:=by
 intro l
 induction l with
 |nil=>intro k h;cases h
 |cons o l ih=>
  intro k h;have h':p∈(k,o) :: num (k+1) l:=h;rcases List.mem_cons.1 h' with e | h1
  ·rw [e];exact ⟨Nat.le_refl _,by simp⟩
  ·have:=ih (k+1) h1;refine ⟨by omega,?_⟩;rw [show p.1-k=(p.1-(k+1))+1 by omega];simpa using this.2
theorem tA:∀(l:List Oper) (k i:Nat),i∈(num k l).map (·.1)↔k≤i∧i<k+l.length
 |[],k,i=>by simp [num]
 |o :: l,k,i=>by rw [num,List.map_cons,List.mem_cons,tA l (k+1) i,List.length_cons];omega
theorem tB:∀(l:List Oper) (k:Nat),((num k l).map (·.1)).Pairwise (· < ·)
 |[],_=>List.Pairwise.nil
 |o :: l,k=>by rw [num,List.map_cons,List.pairwise_cons];refine ⟨fun i hi=>?_,tB l (k+1)⟩;have:=(tA l (k+1) i).1 hi;show k<i;omega
end
end Go.Proofs.YtnoifgjiipgpoaaGreatDoor.R
namespace Go.Proofs.YtnoifgjiipgpoaaGreatDoor.R
open Go.RowKit
structure cD where
 C:aZ
 σ:Nat→aG
 w:World
 n:Nat
 ro:Option Nat
def dJ (B:cD) (s:St) (a:Act) (w:World):Prop:=
 ∃C:aZ,C.nx=s.nx∧(∀t,aN w C (s.m t) (a.tmps.getD t undef))∧a.tmps.size=B.n∧jN B.w.heap.size C s.σ w a.defers∧bC C s.σ w∧bO B.C B.σ B.w C s.σ w
abbrev dZ:=Exit→St→Prop
def post (B:cD) (Q:dZ) (e:Exit) (a:Act) (w:World):Prop:=∃s,Q e s∧dJ B s a w
def AXc (P:Program) (B:cD) (c:Code) (Q:dZ) (s:St):Prop:=∀a w,dJ B s a w→nG B.ro P c (post B Q) a w
def AXo (P:Program) (B:cD) (all:Array Oper) (rest:List Oper) (Q:dZ) (s:St):Prop:=∀a w,dJ B s a w→rX B.ro P all (post B Q) rest a w
inductive KI where
 |code (c:Code)
 |blk (id:Nat)
 |scp
 |ops (all:Array Oper) (rest:List Oper)
 |opsD (all:Array Oper) (lo:List Nat) (sw:SW) (rest:List (Nat×Oper)) (pend:List Rc)
 |again (J:St→Prop)
 |lab (J:Nat→St→Prop)
 |fin (e:Exit)
def Kp (P:Program) (B:cD):List KI→dZ→dZ
 |[],R=>R
 | .code c :: k,R=>fun e s=>match e with
  | .normal=>AXc P B c (Kp P B k R) s
  |e=>Kp P B k R e s
 | .blk id :: k,R=>fun e s=>match e with
  | .exit i=>if i=id then Kp P B k R .normal s else Kp P B k R (.exit i) s
  |e=>Kp P B k R e s
 | .scp :: k,R=>fun e s=>match e with
  | .goto _=>False
  |e=>Kp P B k R e s
 | .ops all rest :: k,R=>fun e s=>match e with
  | .normal=>AXo P B all rest (Kp P B k R) s
  |e=>Kp P B k R e s
 | .opsD all lo sw rest pend :: k,R=>fun e s=>match e with
  | .normal=>bZ P B.n all lo sw rest pend s (Kp P B k R .normal)
  |e=>Kp P B k R e s
 | .again J :: k,R=>fun e s=>match e with
  | .normal=>J s
  |e=>Kp P B k R e s
 | .lab J :: k,R=>fun e s=>match e with
  | .goto l=>J l s
  |e=>Kp P B k R e s
 | .fin e' :: k,R=>fun e s=>match e with
  | .normal=>Kp P B k R e' s
  |e=>Kp P B k R e s
section
variable {P:Program} {B:cD} {k:List KI} {R:dZ} {s:St}
theorem aD6 {Q Q':dZ} (h:∀e s,Q e s→Q' e s) (e:Exit) (a:Act) (w:World) (hp:post B Q e a w):post B Q' e a w:=
 let ⟨s,h1,h2⟩:=hp;⟨s,h _ _ h1,h2⟩
theorem wX (h:Kp P B k R .normal s):Kp P B (.code .skip :: k) R .normal s:=fun _ _ hr=>wpIn_skip ⟨s,h,hr⟩
theorem tZ {l:Nat} (h:Kp P B k R .normal s):Kp P B (.code (.label l) :: k) R .normal s:=fun _ _ hr=>wpIn_label ⟨s,h,hr⟩
theorem aQQ (h:Kp P B k R .ret s):Kp P B (.code .ret :: k) R .normal s:=fun _ _ hr=>wpIn_ret ⟨s,h,hr⟩
theorem aQE {id:Nat} (h:Kp P B k R (.exit id) s):Kp P B (.code (.exit id) :: k) R .normal s:=fun _ _ hr=>wpIn_exit ⟨s,h,hr⟩
theorem aQG {l:Nat} (h:Kp P B k R (.goto l) s):Kp P B (.code (.goto l) :: k) R .normal s:=fun _ _ hr=>wpIn_goto ⟨s,h,hr⟩
theorem o9 {a b:Code} (h:Kp P B (.code a :: .code b :: k) R .normal s):Kp P B (.code (.seq a b) :: k) R .normal s:=by
 intro ac w hr;refine wpIn_seq (fU (h ac w hr) fun e a' w' hp=>?_);obtain ⟨s',h1,h2⟩:=hp;cases e with
 |normal=>exact h1 _ _ h2
 |_=>exact ⟨s',h1,h2⟩
theorem aP3 {id:Nat} {c:Code} (h:Kp P B (.code c :: .blk id :: k) R .normal s):Kp P B (.code (.block id c) :: k) R .normal s:=by
 intro ac w hr;refine wpIn_block (fU (h ac w hr) fun e a' w' hp=>?_);obtain ⟨s',h1,h2⟩:=hp;cases e with
 |exit i=>
  simp only [Kp] at h1;simp only [Exit.inBlock];split<;>rename_i hi
  ·rw [if_pos hi] at h1;exact ⟨s',h1,h2⟩
  ·rw [if_neg hi] at h1;exact ⟨s',h1,h2⟩
 |_=>exact ⟨s',h1,h2⟩
theorem bBC {c:Operand} {t:Bool} (h:ev s.m c= .t (.v (.bool t))) {a:Act} {w:World} (hr:dJ B s a w):a.eval c= .bool t:=by
 obtain ⟨C,_,h1,_,_,_,_⟩:=hr;cases c with
 |tmp t'=>have:=h1 t';simp only [ev] at h;rw [h] at this;exact (cK this).1
 |const v=>simp only [ev] at h;have:=xS (w:=w) (C:=C) v;rw [h] at this;exact (cK this).1
 |global g=>simp only [ev] at h;cases h
 |func f=>simp only [ev] at h;cases h
theorem aP6 {c:Operand} {x y:Code} {t:Bool} (h:ev s.m c= .t (.v (.bool t))) (h1:t=true→Kp P B (.code x :: k) R .normal s) (h2:t=false→Kp P B (.code y :: k) R .normal s):
  Kp P B (.code (.cond c x y) :: k) R .normal s:=by
 intro a w hr;exact wpIn_cond_split (bBC h hr) (fun e=>h1 e a w hr) (fun e=>h2 e a w hr)
theorem aQP {id:Nat} {ops:Array Oper} (h:Kp P B (.ops ops ops.toList :: k) R .normal s):Kp P B (.code (.region id ops false) :: k) R .normal s:=
 fun a w hr=>wpIn_region_list (h a w hr)
theorem aQM {all:Array Oper} (h:Kp P B k R .normal s):Kp P B (.ops all [] :: k) R .normal s:=fun a w hr=>⟨s,h,hr⟩
def aE (n:Nat):AV→Bool
 | .t _ | .fsl _ | .rd _ | .ifc _ _ | .any=>true
 | .ref q=>q<n
 | .ptr b _=>b<n
 | .el q _=>q<n
 | .cut q _ _ _=>q<n
 | .mapr m=>m<n
 | .yld q=>q<n
 | .agg cs=>bndL n cs
 | .tup cs=>bndL n cs
 | .fn _ a b=>bndL n a&&bndL n b
  where
 bndL (n:Nat):List AV→Bool
 |[]=>true
 |c :: cs=>aE n c&&bndL n cs
theorem oB {n:Nat}:∀{cs:List AV},aE.bndL n cs=true→∀(k:Nat) (a:AV),cs[k]? =some a→aE n a=true
 |[],_,k,a,h=>by simp at h
 |c :: cs,h,k,a,hk=>by
  simp only [aE.bndL,Bool.and_eq_true] at h;cases k with
  |zero=>simp at hk;subst hk;exact h.1
  |succ k=>exact oB h.2 k a (by simpa using hk)
theorem aN.less {w:World} {C C':aZ} (h1:C'.imm=C.imm) (h2:C'.own=C.own) (h3:C'.hdr=C.hdr) {x:AV} {v:Value} (h:aN w C x v) (hb:aE C'.nx x=true):aN w C' x v:=by
 induction h with
 |t h=>exact .t (by rw [h1];exact h)
 |agg hl _ ih=>exact .agg hl fun k a u ha hu=>ih k a u ha hu (oB (by simpa [aE] using hb) k a ha)
 |tup hl _ ih=>exact .tup hl fun k a u ha hu=>ih k a u ha hu (oB (by simpa [aE] using hb) k a ha)
 |fsl h=>exact .fsl (by rw [h1];exact h)
 |ref h hh=>exact .ref (by simpa [aE] using hb) (by rw [h3];exact hh)
 |ptr h ho=>exact .ptr (by simpa [aE] using hb) (by rw [h2];exact ho)
 |rd hi hcell hr=>exact .rd (by rw [h1];exact hi) hcell (fun k c h=>by rw [h1];exact hr k c h)
 |el h ho hh=>exact .el (by simpa [aE] using hb) (by rw [h2];exact ho) (by rw [h3];exact hh)
 |cut h ho hh=>exact .cut (by simpa [aE] using hb) (by rw [h2];exact ho) (by rw [h3];exact hh)
 |ifc hl hr=>exact .ifc hl fun k c u hc hu=>by rw [h1];exact hr k c u hc hu
 |mapr h ho=>exact .mapr (by simpa [aE] using hb) (by rw [h2];exact ho)
 |yld h ho=>exact .yld (by simpa [aE] using hb) (by rw [h2];exact ho)
 |fn hl _ hl' _ ih ih'=>simp only [aE,Bool.and_eq_true] at hb;exact .fn hl (fun k a u ha hu=>ih k a u ha hu (oB hb.1 k a ha)) hl' (fun k a u ha hu=>ih' k a u ha hu (oB hb.2 k a ha))
 |any=>exact .any
def dG (n:Nat):aG→Bool
 | .dead=>true
 | .box cs=>cs.all (aE n)
 | .arr _ _=>true
 | .map es=>es.all fun e=>aE n e.2
 | .iter _ _=>true
 | .loop _ k m _ _ _=>(List.range k).all fun t=>aE n (m t)
theorem gR.less {w:World} {C C':aZ} (h1:C'.imm=C.imm) (h2:C'.own=C.own) (h3:C'.hdr=C.hdr) {i:Nat} {o:aG} (h:gR w C i o) (hb:dG C'.nx o=true):gR w C' i o:=by
 cases o with
 |dead=>exact True.intro
 |box cs=>obtain ⟨bl,vs,E,e1,e2,e3,e4⟩:=h;exact ⟨bl,vs,E,by rw [h2];exact e1,e2,e3,fun k a u ha hu=>(e4 k a u ha hu).less h1 h2 h3 (List.all_eq_true.1 hb a (List.mem_of_getElem? ha))⟩
 |arr sz es=>
  obtain ⟨hsz,h⟩:=h;refine ⟨hsz,?_⟩;rcases h with ⟨h0,ho,a,hh⟩ | ⟨bl,cap,vs,E,lo,hi',ho,hh,hcap,hblk,hvs,hfr,hr⟩
  ·exact .inl ⟨h0,by rw [h2];exact ho,a,by rw [h3];exact hh⟩
  ·exact .inr ⟨bl,cap,vs,E,lo,hi',by rw [h2];exact ho,by rw [h3];exact hh,hcap,hblk,hvs,hfr,by rw [h1];exact hr⟩
 |map es=>obtain ⟨bl,ms,clock,e1,e2,e3,e4⟩:=h;exact ⟨bl,ms,clock,by rw [h2];exact e1,e2,e3,fun k a u ha hu=>⟨(e4 k a u ha hu).1,(e4 k a u ha hu).2.less h1 h2 h3 (List.all_eq_true.1 hb a (List.mem_of_getElem? ha))⟩⟩
 |iter s k=>obtain ⟨bl,e1,e2⟩:=h;exact ⟨bl,by rw [h2];exact e1,e2⟩
 |loop st n m ps avs bd=>obtain ⟨bl,r,e0,e1,e2,e3,e4,e5,e6,e7,e8⟩:=h;exact ⟨bl,r,by rw [h2];exact e0,e1,e2,e3,e4,e5,e6,e7,fun t ht=>(e8 t ht).less h1 h2 h3 (List.all_eq_true.1 hb t (List.mem_range.2 ht))⟩
structure eT (B:cD) (s t:St):Prop where
 m:∀i,t.m i= .any∨(t.m i=s.m i∧aE t.nx (t.m i)=true)
 nx:t.nx≤s.nx
 base:B.C.nx≤t.nx
 obj:∀i,t.σ i= .dead∨(t.σ i=s.σ i∧dG t.nx (t.σ i)=true∧i<t.nx)
theorem aNH {t:St} (h:eT B s t) {a:Act} {w:World} (hr:dJ B s a w):dJ B t a w:=by
 obtain ⟨C,h1,h2,h3,h4,h5,h6⟩:=hr
 have live:∀i,t.σ i≠ .dead→s.σ i≠ .dead∧t.σ i=s.σ i∧dG t.nx (t.σ i)=true∧i<t.nx:=fun i hi=>by
  rcases h.obj i with e | ⟨e1,e2,e3⟩
  ·exact absurd e hi
  ·exact ⟨by rw [←e1];exact hi,e1,e2,e3⟩
 refine ⟨{C with nx:=t.nx},rfl,fun i=>?_,h3,(h4.less (fun b h=>.inl h) (fun b ⟨i,hi,hb⟩=>.inr ⟨i,(live i hi).1,hb⟩)),⟨fun i hi=>?_,fun i=>?_,fun i j b hi hj=>h5.inj i j b (live i hi).1 (live j hj).1,fun i b hi=>h5.sep i b (live i hi).1,h5.imm_lt⟩,
  ⟨⟨h.base,fun i hi=>h6.le.own i hi,fun i hi=>h6.le.hdr i hi⟩,h6.os,h6.tape,h6.output,h6.size,h6.imm,h6.same,fun b ⟨i,hi,hb⟩=>h6.wr b ⟨i,(live i hi).1,hb⟩,h6.imm'⟩⟩
 ·rcases h.m i with e | ⟨e1,e2⟩
  ·rw [e];exact .any
  ·have:=h2 i;rw [←e1] at this;exact aN.less (C:=C) (C':={C with nx:=t.nx}) rfl rfl rfl this e2
 ·rcases h.obj i with e | ⟨_,_,e3⟩
  ·exact e
  ·exact absurd hi (by simp;omega)
 ·by_cases hi:t.σ i= .dead
  ·rw [hi];exact True.intro
  ·obtain ⟨e1,e2,e3,e4⟩:=live i hi;have:=h5.obj i;rw [←e2] at this;exact gR.less (C:=C) (C':={C with nx:=t.nx}) rfl rfl rfl this e3
def aH (B:cD) (s t:St):Prop:=∀a w,dJ B s a w→dJ B t a w
theorem eT.imp {t:St} (h:eT B s t):aH B s t:=fun _ _ hr=>aNH h hr
theorem aH.self:aH B s s:=fun _ _ h=>h
theorem aH.trans {t u:St} (h:aH B s t) (k:aH B t u):aH B s u:=fun a w hr=>k a w (h a w hr)
theorem aA6 {n:Nat}:∀{cs:List AV},(∀(k:Nat) (a:AV),cs[k]? =some a→aE n a=true)→aE.bndL n cs=true
 |[],_=>by simp [aE.bndL]
 |c :: cs,h=>by simp only [aE.bndL,Bool.and_eq_true];exact ⟨h 0 c rfl,aA6 fun k a hk=>h (k+1) a (by simpa using hk)⟩
theorem aN.bnded {w:World} {C:aZ} {x:AV} {v:Value} (h:aN w C x v):aE C.nx x=true:=by
 have arr:∀{cs:List AV} {vs:Array Value},cs.length=vs.size→(∀(k:Nat) (a:AV) (u:Value),cs[k]? =some a→vs[k]? =some u→aE C.nx a=true)→aE.bndL C.nx cs=true:=by
  intro cs vs hl h;refine aA6 fun k a hk=>?_
  have hlt:=(List.getElem?_eq_some_iff.1 hk).1;exact h k a vs[k] hk (Array.getElem?_eq_getElem (by omega))
 induction h with
 |t h=>simp [aE]
 |agg hl _ ih=>simp only [aE];exact arr hl ih
 |tup hl _ ih=>simp only [aE];exact arr hl ih
 |fsl h=>simp [aE]
 |ref h hh=>simpa [aE] using h
 |ptr h ho=>simpa [aE] using h
 |rd hi hcell hr=>simp [aE]
 |el h ho hh=>simpa [aE] using h
 |cut h ho hh=>simpa [aE] using h
 |ifc hl hr=>simp [aE]
 |mapr h ho=>simpa [aE] using h
 |yld h ho=>simpa [aE] using h
 |fn hl _ hl' _ ih ih'=>simp only [aE,Bool.and_eq_true];exact ⟨arr hl ih,arr hl' ih'⟩
 |any=>simp [aE]
theorem gR.bnded {w:World} {C:aZ} {i:Nat} {o:aG} (h:gR w C i o):dG C.nx o=true:=by
 cases o with
 |dead=>rfl
 |box cs=>obtain ⟨bl,vs,E,e1,e2,e3,e4⟩:=h;simp only [dG,List.all_eq_true];intro a ha;obtain ⟨k,hk⟩:=List.getElem?_of_mem ha;have hlt:=(List.getElem?_eq_some_iff.1 hk).1;exact (e4 k a vs[k] hk (Array.getElem?_eq_getElem (by omega))).bnded
 |arr sz es=>rfl
 |map es=>obtain ⟨bl,ms,clock,e1,e2,e3,e4⟩:=h;simp only [dG,List.all_eq_true];intro a ha;obtain ⟨k,hk⟩:=List.getElem?_of_mem ha;have hlt:=(List.getElem?_eq_some_iff.1 hk).1;exact (e4 k a ms[k] hk (Array.getElem?_eq_getElem (by omega))).2.bnded
 |iter s k=>rfl
 |loop st n m ps avs bd=>obtain ⟨bl,r,e0,e1,e2,e3,e4,e5,e6,e7,e8⟩:=h;exact List.all_eq_true.2 fun t ht=>(e8 t (List.mem_range.1 ht)).bnded
theorem bBE {a:Act} {w:World} (hr:dJ B s a w):B.C.nx≤s.nx:=by obtain ⟨C,h1,_,_,_,_,h6⟩:=hr;rw [←h1];exact h6.le.nx
theorem aH.same {t:St} (hm:∀i,t.m i= .any∨t.m i=s.m i) (ho:∀i,t.σ i= .dead∨t.σ i=s.σ i) (hn:t.nx=s.nx):aH B s t:=by
 intro a w hr;refine aNH ⟨fun i=>?_,by omega,by have:=bBE hr;omega,fun i=>?_⟩ hr
 ·obtain ⟨C,h1,h2,_⟩:=hr;rcases hm i with e | e
  ·exact .inl e
  ·exact .inr ⟨e,by rw [e,hn,←h1];exact (h2 i).bnded⟩
 ·obtain ⟨C,h1,h2,h3,h4,h5,_⟩:=hr;rcases ho i with e | e
  ·exact .inl e
  ·by_cases hd:t.σ i= .dead
   ·exact .inl hd
   ·have hl:i<C.nx:=Nat.lt_of_not_le fun h=>by have:=h5.dead i h;rw [e] at hd;exact hd this
    exact .inr ⟨e,by rw [e,hn,←h1];exact (h5.obj i).bnded,by omega⟩
theorem aQR {c:Code} (h:Kp P B (.code c :: .scp :: k) R .normal s):Kp P B (.code (.scope c) :: k) R .normal s:=by
 intro ac w hr;refine aTU (fU (h ac w hr) fun e a' w' hp=>?_);obtain ⟨s',h1,h2⟩:=hp;cases e with
 |goto l=>exact h1.elim
 |_=>exact ⟨s',h1,h2⟩
theorem jB {t:St} {c:Code} (h:aH B s t) (hk:Kp P B (.code c :: k) R .normal t):Kp P B (.code c :: k) R .normal s:=
 fun a w hr=>hk a w (h _ _ hr)
end
end Go.Proofs.YtnoifgjiipgpoaaGreatDoor.R
namespace Go.Proofs.YtnoifgjiipgpoaaGreatDoor.R
open Go.RowKit
section
variable {P:Program} {B:cD} {k:List KI} {R:dZ} {s:St}
theorem cV {a:Act} {w:World} {C:aZ} {m:bX} (h:∀t,aN w C (m t) (a.tmps.getD t undef)) (x:Operand):aN w C (ev m x) (a.eval x):=by
 cases x with
 |tmp t=>exact h t
 |const v=>exact xS v
 |global g=>exact .any
 |func f=>exact .fn rfl (fun k a u h=>by simp at h) rfl (fun k a u h=>by simp at h)
def cH (n:Nat):Option Nat→Bool
 |some d=>d<n
 |none=>true
theorem gM {a:Act} {w w':World} {C C':aZ} {m:bX} {σ σ':Nat→aG} (hs:bC C σ w) (hst:bO C σ w C' σ' w') (h:∀t,aN w C (m t) (a.tmps.getD t undef)) {d:Option Nat} (hd:cH a.tmps.size d=true) {v:AV} {u:Value} (hv:aN w' C' v u):
  ∀t,aN w' C' (put m d v t) ((a.put d u).tmps.getD t undef):=by
 intro t;cases d with
 |none=>exact (h t).step hs hst
 |some d=>
  have hd':d<a.tmps.size:=by simpa [cH] using hd
  by_cases e:t=d
  ·subst e;simp only [put,if_true,Act.put,Array.getD_eq_getD_getElem?,Array.getElem?_setIfInBounds_self_of_lt hd',Option.getD_some];exact hv
  ·simp only [put,if_neg e,Act.put,Array.getD_eq_getD_getElem?,Array.getElem?_setIfInBounds_ne (show d≠t from fun h=>e h.symm)];have:=(h t).step hs hst
   rwa [Array.getD_eq_getD_getElem?] at this
theorem fF (a:Act) (d:Option Nat) (u:Value):(a.put d u).tmps.size=a.tmps.size:=by cases d<;>simp [Act.put]
theorem gL (a:Act) (d:Option Nat) (u:Value):(a.put d u).defers=a.defers:=by cases d<;>rfl
def one (P:Program) (s:St) (o:Oper):Option St:=
 match bW P (ev s.m) o.op with
 |some v=>some (s.upd o.dst v .none)
 |none=>match cP P s.σ s.nx (ev s.m) o.op with
  |some (v,e)=>some (s.upd o.dst v e)
  |none=>none
theorem aZL {o:Oper} {s':St} (h:one P s o=some s') {a:Act} {w:World} (hd:cH B.n o.dst=true) (hr:dJ B s a w) {K:Act→World→Prop} {Q:Exit→Act→World→Prop} (hK:∀a' w',dJ B s' a' w'→K a' w'):nQ B.ro P o a w K Q:=by
 obtain ⟨C,h1,h2,h3,h4,h5,h6⟩:=hr
 have hm:∃v e,s'=s.upd o.dst v e∧uB ((execOp a.eval o).run P w) C s.σ w v (e.on s.σ C.nx).1 (e.on s.σ C.nx).2:=by
  unfold one at h;split at h
  ·rename_i v hv;cases h;exact ⟨v,.none,rfl,aIC h5 (cV h2) hv⟩
  ·split at h
   ·rename_i v e hv;cases h;rw [←h1] at hv;exact ⟨v,e,rfl,aID h5 (cV h2) hv⟩
   ·cases h
 obtain ⟨v,e,rfl,C',w',u,hrun,g1,g2,g3,g4⟩:=hm
 have hrel:dJ B (s.upd o.dst v e) (a.put o.dst u) w':=by
  refine ⟨C',by rw [g3,h1];rfl,gM h5 g1 h2 (by rw [h3];exact hd) g4,by rw [fF];exact h3,by rw [gL];rw [h1] at g1;exact h4.step g1,?_,?_⟩
  ·rw [h1] at g2;exact g2
  ·rw [h1] at g1;exact h6.trans g1
 rcases hrun with hrun | ⟨hrun,rfl⟩
 ·exact eW hrun (hK _ _ hrel)
 ·exact vK hrun (hK _ _ hrel)
theorem bBF {a:Act} {w:World} {d:Option Nat} (hd:cH B.n d=true) (hr:dJ B s a w):dJ B (s.upd d (.tup []) .none) (a.put d undef) w:=by obtain ⟨C,h1,h2,h3,h4,h5,h6⟩:=hr;exact ⟨C,h1,gM h5 (bO.refl _ _ _) h2 (by rw [h3];exact hd) (.tup rfl (fun k a u h=>by simp at h)),by rw [fF];exact h3,by rw [gL];exact h4,h5,h6⟩
def jS (all:Array Oper) (m:bX) (j:Nat):Option (Option Bool):=
 match (all[j]?).bind (·.dst) with
 |some d=>match m d with
  | .t (.v (.bool b))=>some (some b)
  | .tup _=>some none
  |_=>none
 |none=>none
theorem aCK {all:Array Oper} {a:Act} {w:World} {C:aZ} {m:bX} (h:∀t,aN w C (m t) (a.tmps.getD t undef)) {j:Nat} {r:Option Bool} (hg:jS all m j=some r):yielded all a.tmps j=r:=by
 unfold jS at hg;split at hg
 ·rename_i d hd;have hr:=h d;split at hg
  ·rename_i b hb;cases hg;rw [hb] at hr;have hv:=(cK hr).1
   have:a.tmps[d]? =some (.bool b):=by
    rw [Array.getD_eq_getD_getElem?] at hv;cases hx:a.tmps[d]? with
    |none=>rw [hx] at hv;simp [undef] at hv
    |some x=>rw [hx] at hv;simpa using hv
   simp [yielded,hd,this]
  ·rename_i cs hb;cases hg;rw [hb] at hr;obtain ⟨vs,hv,_⟩:=aNS hr;have:∀b,a.tmps[d]?≠some (.bool b):=by intro b hx;rw [Array.getD_eq_getD_getElem?,hx] at hv;simp at hv
   cases hx:a.tmps[d]? with
   |none=>simp [yielded,hd,hx]
   |some x=>cases x<;>first | (rename_i b;exact absurd hx (this b)) | simp [yielded,hd,hx]
  ·cases hg
 ·cases hg
theorem aQK {all:Array Oper} {o:Oper} {r:List Oper} {s':St} (hg:o.guard=none) (hd:cH B.n o.dst=true) (h1:one P s o=some s') (h:Kp P B (.ops all r :: k) R .normal s'):Kp P B (.ops all (o :: r) :: k) R .normal s:=by intro a w hr;exact iO hg fun K hK=>aZL h1 hd hr fun a' w' hr'=>hK _ _ (h a' w' hr')
theorem aGB {all:Array Oper} {o:Oper} {r:List Oper} {j:Nat} {b:Bool} {g:Option Bool} (hg:o.guard=some (j,b)) (hv:jS all s.m j=some g) (hne:g≠some b) (hd:cH B.n o.dst=true) (h:Kp P B (.ops all r :: k) R .normal (s.upd o.dst (.tup []) .none)):
  Kp P B (.ops all (o :: r) :: k) R .normal s:=by
 intro a w hr;refine aPU fun K hK=>?_
 have hw:Region.wanted o (yielded all a.tmps)=false:=by obtain ⟨C,_,h2,_⟩:=hr;simp [Region.wanted,hg,aCK h2 hv,hne]
 rw [hw];exact hK _ _ (h _ _ (bBF hd hr))
def p8 (id:Nat):List KI→Option (List KI)
 |[]=>none
 | .blk i :: k=>if i=id then some k else p8 id k
 |_ :: k=>p8 id k
theorem aQN {id:Nat} {k':List KI} (h:p8 id k=some k') (hk:Kp P B k' R .normal s):Kp P B k R (.exit id) s:=by
 induction k with
 |nil=>simp [p8] at h
 |cons x k ih=>
  cases x with
  |blk i=>
   simp only [p8] at h;simp only [Kp];split at h<;>rename_i hi
   ·cases h;rw [if_pos hi.symm];exact hk
   ·rw [if_neg (fun e=>hi e.symm)];exact ih h
  |_=>exact ih h
theorem aQU (h:R .ret s):∀k,Kp P B k R .ret s:=by
 intro k
 induction k with
 |nil=>exact h
 |cons x k ih=>cases x<;>exact ih
def pZ:List KI→Option (Nat→St→Prop)
 |[]=>none
 | .lab J :: _=>some J
 | .scp :: _=>none
 |_ :: k=>pZ k
theorem aQT {l:Nat} {J:Nat→St→Prop} (h:pZ k=some J) (hJ:J l s):Kp P B k R (.goto l) s:=by
 induction k with
 |nil=>simp [pZ] at h
 |cons x k ih=>
  cases x with
  |lab J'=>simp only [pZ] at h;cases h;exact hJ
  |scp=>simp [pZ] at h
  |_=>exact ih h
section
variable {n:Nat} {all:Array Oper}
structure LS (all:Array Oper) (listed:Array Bool) (l:List Rc):Prop where
 sz:listed.size=all.size
 list:∀i<all.size,listed.getD i true=false↔∃r∈l,r.i=i
 lt:∀r∈l,r.i<all.size
 closed:∀j<all.size,listed.getD j true=true→∀e∈lX all j,listed.getD e false=true
theorem aC2 {listed:Array Bool} {i x:Nat} (hi:i<listed.size) (hx:listed.getD x false=true):(listed.setIfInBounds i true).getD x false=true:=by
 by_cases e:x=i
 ·subst e;rw [Array.getD_eq_getD_getElem?,Array.getElem?_setIfInBounds_self_of_lt hi];rfl
 ·rw [Array.getD_eq_getD_getElem?,Array.getElem?_setIfInBounds_ne (fun h=>e h.symm),←Array.getD_eq_getD_getElem?];exact hx
theorem aC3 {listed:Array Bool} {i:Nat} (hi:i<listed.size) {b:Bool}:(listed.setIfInBounds i true).getD i b=true:=by rw [Array.getD_eq_getD_getElem?,Array.getElem?_setIfInBounds_self_of_lt hi];rfl
theorem yS {listed:Array Bool} {i j:Nat} (e:j≠i) {b:Bool}:(listed.setIfInBounds i true).getD j b=listed.getD j b:=by rw [Array.getD_eq_getD_getElem?,Array.getElem?_setIfInBounds_ne (fun h=>e h.symm),←Array.getD_eq_getD_getElem?]
theorem LS.step {listed:Array Bool} {l1 l2:List Rc} {r:Rc} (h:LS all listed (l1++r :: l2)) (hne:∀q∈l1++l2,q.i≠r.i) (hpre:∀e∈lX all r.i,listed.getD e false=true):LS all (listed.setIfInBounds r.i true) (l1++l2):=by
 have hri:r.i<listed.size:=by rw [h.sz];exact h.lt r (by simp)
 refine ⟨by simpa using h.sz,fun j hj=>?_,fun q hq=>h.lt q ?_,fun j hj hjl e he=>?_⟩
 ·by_cases e:j=r.i
  ·subst e;rw [aC3 hri];exact ⟨fun h=>(by cases h),fun ⟨q,hq,hqi⟩=>absurd hqi (hne q hq)⟩
  ·rw [yS e,h.list j hj];refine ⟨fun ⟨q,hq,hqi⟩=>?_,fun ⟨q,hq,hqi⟩=>⟨q,?_,hqi⟩⟩
   ·rcases List.mem_append.1 hq with e1 | e1
    ·exact ⟨q,List.mem_append_left _ e1,hqi⟩
    ·rcases List.mem_cons.1 e1 with e2 | e2
     ·subst e2;exact absurd hqi.symm e
     ·exact ⟨q,List.mem_append_right _ e2,hqi⟩
   ·rcases List.mem_append.1 hq with e1 | e1
    ·exact List.mem_append_left _ e1
    ·exact List.mem_append_right _ (List.mem_cons_of_mem _ e1)
 ·rcases List.mem_append.1 hq with e1 | e1
  ·exact List.mem_append_left _ e1
  ·exact List.mem_append_right _ (List.mem_cons_of_mem _ e1)
 ·by_cases e1:j=r.i
  ·subst e1;exact aC2 hri (hpre e he)
  ·rw [yS e1] at hjl;exact aC2 hri (h.closed j hj hjl e he)
theorem LS.ready {listed:Array Bool} {l:List Rc} (h:LS all listed l) {i:Nat} (hi:i∈Region.ready .any all listed):i<all.size∧(∃r∈l,r.i=i)∧∀e∈lX all i,listed.getD e false=true:=by
 simp only [Region.ready,List.mem_filter,List.mem_range,Bool.and_eq_true] at hi;obtain ⟨hi1,hi2,hi3⟩:=hi;have hf:listed.getD i true=false:=by simpa using hi2
 refine ⟨hi1,(h.list i hi1).1 hf,fun e he=>?_⟩;simp only [lX,Array.getElem?_eq_getElem hi1,List.mem_map,List.mem_filter] at he;obtain ⟨x,⟨hx1,hx2⟩,rfl⟩:=he;rw [Array.getElem?_eq_getElem hi1] at hi3;simp only [Option.map_some,Option.getD_some,Array.all_eq_true_iff_forall_mem,Array.mem_toList_iff] at hi3;have:=hi3 x (by simpa using hx1);simpa [hx2] using this
theorem LS.some {t:List (List Nat)} (ht:rT all t=true) {listed:Array Bool} {r:Rc} {l:List Rc} (h:LS all listed (r :: l)) (hs:(r :: l).Pairwise (fun r q=>r.i<q.i)):Region.ready .any all listed≠[]:=by
 intro hnil;have hrlt:=h.lt r List.mem_cons_self
 have hpr:∀e∈lX all r.i,listed.getD e false=true:=by
  intro e he;have h2:=List.all_eq_true.1 ht r.i (List.mem_range.2 hrlt);simp only [Bool.and_eq_true] at h2;have hlt':e<r.i:=by simpa using List.all_eq_true.1 h2.1 e he
  have hes:e<listed.size:=by rw [h.sz];omega
  cases hz:listed.getD e true with
  |true=>rw [Array.getD_eq_getD_getElem?,Array.getElem?_eq_getElem hes] at hz ⊢;simpa using hz
  |false=>
   obtain ⟨q,hq1,hq2⟩:=(h.list e (by omega)).1 hz;rcases List.mem_cons.1 hq1 with e1 | e1
   ·subst e1;omega
   ·have:=(List.pairwise_cons.1 hs).1 q e1;omega
 have:r.i∈Region.ready .any all listed:=by
  simp only [Region.ready,List.mem_filter,List.mem_range,Bool.and_eq_true];refine ⟨hrlt,by simp [(h.list r.i hrlt).2 ⟨r,List.mem_cons_self,rfl⟩],?_⟩;rw [Array.getElem?_eq_getElem hrlt];simp only [Option.map_some,Option.getD_some,Array.all_eq_true_iff_forall_mem];intro x hx;cases hb:Region.binds .any x with
  |false=>simp
  |true=>simp only [Bool.not_true,Bool.false_or];refine hpr x.on ?_;simp only [lX,Array.getElem?_eq_getElem hrlt,List.mem_map,List.mem_filter];exact ⟨x,⟨by simpa using hx,hb⟩,rfl⟩
 rw [hnil] at this;cases this
theorem gP.ne {an:Nat→Nat→Bool} {l1 l2:List Rc} {r:Rc} {s:St} (h:gP P n all an (l1++r :: l2) s):∀q∈l1++l2,q.i≠r.i:=by
 intro q hq;have ho:=h.ord;rw [List.pairwise_append,List.pairwise_cons] at ho;rcases List.mem_append.1 hq with e | e
 ·exact (ho.2.2 q e r List.mem_cons_self).ne
 ·exact fun he=>(ho.2.1.1 q e).ne he.symm
theorem gP.wp {B:cD} {an:Nat→Nat→Bool} {l1 l2:List Rc} {r:Rc} {s:St} {a:Act} {w:World} {K:Act→World→Prop} {Q:Exit→Act→World→Prop} (hn:B.n=n) (hd:cH n (bS all r.i)=true)
  (h:gP P n all an (l1++r :: l2) s) (ha:∀q∈l1++r :: l2,an q.i r.i=false) (hr:dJ B s a w)
  (hK:∀s' a' w',gP P n all an (l1++l2) s'→goes all s'.m (l1++l2)=goes all s.m (l1++r :: l2)→cC (s'.σ,s'.nx) (l1++l2)=cC (s.σ,s.nx) (l1++r :: l2)→dJ B s' a' w'→K a' w'):fI B.ro P all Q r.i K a w:=by
 obtain ⟨hv,hdo,hinv',hg1,hg2⟩:=h.take ha;obtain ⟨C,h1,h2,h3,h4,h5,h6⟩:=hr;refine hdo C a w h1 h5 (by rw [h3,hn]) (fun t'=>?_) _ _ _ fun u w' C' g1 g2 g3 g4=>?_
 ·simp only [iX];split
  ·rename_i hm;rw [←hv t' (by simpa using hm)];exact h2 t'
  ·exact .any
 ·exact hK ⟨put s.m (bS all r.i) r.v,(after (s.σ,s.nx) r).1,(after (s.σ,s.nx) r).2⟩ _ _ hinv' hg1 hg2 ⟨C',g2,gM h5 g3 h2 (by rw [h3,hn];exact hd) g4,by rw [fF];exact h3,by rw [gL];exact h4.step g3,g1,h6.trans g3⟩
theorem tO {R:Rc→Rc→Prop} {l1 l2:List Rc} {r:Rc} (h:(l1++r :: l2).Pairwise R):(l1++l2).Pairwise R:=h.sublist (List.append_sublist_append_left l1 |>.2 (List.sublist_cons_self r l2))
theorem aFQ {B:cD} {Q:Exit→Act→World→Prop} {t:List (List Nat)} (ht:rT all t=true) {an:Nat→Nat→Bool} {ex:Option (Nat×Nat)} (han:∀x i,an x i=true→mF t x i=true∨ex=some (x,i)) {R:St→Prop} (hn:B.n=n) (hQ:∀s a w,R s→dJ B s a w→Q .normal a w)
  (hd:∀i<all.size,cH n (bS all i)=true):
  ∀(fuel:Nat) (l:List Rc) (s:St) (listed:Array Bool) (a:Act) (w:World),l.length=fuel→LS all listed l→
   (∀x i,ex=some (x,i)→listed.getD x false=true)→l.Pairwise (fun r q=>r.i<q.i)→gP P n all an l s→R ⟨goes all s.m l,(cC (s.σ,s.nx) l).1,(cC (s.σ,s.nx) l).2⟩→dJ B s a w→wpA B.ro P all Q fuel listed a w:=by
 intro fuel
 induction fuel with
 |zero=>
  intro l s listed a w hl hls _ _ hinv hR hr;have:l=[]:=List.eq_nil_of_length_eq_zero hl;subst this;refine ⟨?_,hQ _ _ _ hR hr⟩;refine List.eq_nil_iff_forall_not_mem.2 fun i hi=>?_
  obtain ⟨_,⟨r,hr,_⟩,_⟩:=hls.ready hi;cases hr
 |succ fuel ih=>
  intro l s listed a w hl hls hex hsort hinv hR hr;refine ⟨fun hnil=>?_,fun i hi=>?_⟩
  ·exfalso;cases l with
   |nil=>simp at hl
   |cons r l=>exact hls.some ht hsort hnil
  ·obtain ⟨hi1,⟨r,hr1,hri⟩,hpre⟩:=hls.ready hi;subst hri;obtain ⟨l1,l2,hsplit⟩:=List.append_of_mem hr1;subst hsplit
   have hanc:∀q∈l1++r :: l2,an q.i r.i=false:=fun q hq=>by
    cases hq2:an q.i r.i with
    |false=>rfl
    |true=>
     have h1:listed.getD q.i false=true:=(han _ _ hq2).elim (fun h=>aAA ht hls.closed r.i hi1 hpre q.i h) (fun h=>hex _ _ h);have h2:=(hls.list q.i (hls.lt q hq)).2 ⟨q,hq,rfl⟩;rw [Array.getD_eq_getD_getElem?] at h1 h2;cases hz:listed[q.i]? with
     |none=>rw [hz] at h1;simp at h1
     |some b=>rw [hz] at h1 h2;simp at h1 h2;rw [h1] at h2;cases h2
   have hri:r.i<listed.size:=by rw [hls.sz];exact hi1
   refine hinv.wp hn (hd r.i hi1) hanc hr fun s' a' w' g1 g2 g3 g4=>?_
   refine ih (l1++l2) s' _ a' w' (by simp at hl ⊢;omega) (hls.step hinv.ne hpre) (fun x i hx=>aC2 hri (hex x i hx)) (tO hsort) g1 ?_ g4;rw [g2,g3];exact hR
theorem bHO {B:cD} {Q:Exit→Act→World→Prop} (ht:rT all (oS all all.size)=true) {a1 b1:Nat} (hab:a1≠b1) {R:St→Prop} (hn:B.n=n) (hQ:∀s a w,R s→dJ B s a w→Q .normal a w) (hd:∀i<all.size,cH n (bS all i)=true) {x y:List Rc}
  (hx:∀r∈x,r.i=a1∨r.i=b1∨anc all a1 r.i=true∨anc all b1 r.i=true):
  ∀(d:List Rc) (s:St) (listed:Array Bool) (a:Act) (w:World),LS all listed (d++x)→LS all listed (d++y)→listed.getD a1 true=false→listed.getD b1 true=false→
   (d++x).Pairwise (fun r q=>r.i<q.i)→(d++y).Pairwise (fun r q=>r.i<q.i∨(r.i=b1∧q.i=a1))→gP P n all (gE all (some (a1,b1,true))) (d++x) s→gP P n all (gE all (some (b1,a1,true))) (d++y) s→x.length=y.length→a1<all.size→b1<all.size→
   R ⟨goes all s.m (d++x),(cC (s.σ,s.nx) (d++x)).1,(cC (s.σ,s.nx) (d++x)).2⟩→R ⟨goes all s.m (d++y),(cC (s.σ,s.nx) (d++y)).1,(cC (s.σ,s.nx) (d++y)).2⟩→
   dJ B s a w→wpA B.ro P all Q (d++x).length listed a w:=by
 have han:∀u i,gE all (some (a1,b1,true)) u i=true→mF (oS all all.size) u i=true∨some (a1,b1)=some (u,i):=fun u i h=>by simp only [gE,fQ,Bool.or_eq_true,Bool.and_eq_true,beq_iff_eq] at h;exact h.imp id fun ⟨h1,h2⟩=>by rw [h1,h2]
 have han':∀u i,gE all (some (b1,a1,true)) u i=true→mF (oS all all.size) u i=true∨some (b1,a1)=some (u,i):=fun u i h=>by simp only [gE,fQ,Bool.or_eq_true,Bool.and_eq_true,beq_iff_eq] at h;exact h.imp id fun ⟨h1,h2⟩=>by rw [h1,h2]
 intro d;generalize hf:(d++x).length=fuel
 induction fuel generalizing d with
 |zero=>intro s listed a w hls _ hfa _ _ _ _ _ _ ha1 _ _ _ _;have:d++x=[]:=List.eq_nil_of_length_eq_zero hf;rw [this] at hls;obtain ⟨r,hr,_⟩:=(hls.list a1 ha1).1 hfa;cases hr
 |succ fuel ih=>
  intro s listed a w hls hls' hfa hfb hsort hsort' hinv hinv' hxy ha1 hb1 hR hR' hr;have hf':(d++y).length=fuel+1:=by simp only [List.length_append] at hf ⊢;omega
  refine ⟨fun hnil=>?_,fun i hi=>?_⟩
  ·exfalso;cases hl:d++x with
   |nil=>rw [hl] at hf;simp at hf
   |cons r l=>rw [hl] at hls hsort;exact hls.some ht hsort hnil
  ·obtain ⟨hi1,hex,hpre⟩:=hls.ready hi;have hil:i<listed.size:=by rw [hls.sz];exact hi1
   have hup:∀u,mF (oS all all.size) u i=true→listed.getD u false=true:=fun u h=>aAA ht hls.closed i hi1 hpre u h
   have hno:∀{u:Nat},u<all.size→listed.getD u false=true→listed.getD u true=false→False:=fun {u} _ h1 h2=>by
    rw [Array.getD_eq_getD_getElem?] at h1 h2;cases hz:listed[u]? with
    |none=>rw [hz] at h1;simp at h1
    |some b=>rw [hz] at h1 h2;simp at h1 h2;rw [h1] at h2;cases h2
   have hanc:∀{L:List Rc} {f:Nat→Nat→Bool} {x0 y0:Nat},LS all listed L→(∀x i,f x i=true→mF (oS all all.size) x i=true∨some (x0,y0)=some (x,i))→i≠y0→∀q∈L,f q.i i=false:=fun {L f x0 y0} hL hf hne q hq=>by
    cases hq2:f q.i i with
    |false=>rfl
    |true=>have h1:listed.getD q.i false=true:=(hf _ _ hq2).elim (fun h=>hup _ h) (fun h=>by cases h;exact absurd rfl hne);exact (hno (hL.lt q hq) h1 ((hL.list q.i (hL.lt q hq)).2 ⟨q,hq,rfl⟩)).elim
   by_cases hib:i=b1
   ·obtain ⟨r,hr1,hri⟩:=(hls'.ready hi).2.1;subst hri;obtain ⟨l1,l2,hsplit⟩:=List.append_of_mem hr1;rw [hsplit] at hls' hsort' hinv' hR' hf';refine hinv'.wp hn (hd r.i hi1) (hanc hls' han' (fun e=>hab (e.symm.trans hib))) hr fun s' a' w' g1 g2 g3 g4=>?_
    refine aFQ ht han' hn hQ hd fuel (l1++l2) s' _ a' w' (by simp only [List.length_append,List.length_cons] at hf' ⊢;omega) (hls'.step hinv'.ne hpre) (fun x i hx=>?_) ?_ g1 ?_ g4
    ·cases hx;rw [hib] at hil ⊢;exact aC3 hil
    ·refine (tO hsort').imp_of_mem fun {p q} hp hq h=>h.resolve_right fun ⟨h1,_⟩=>?_
     exact hinv'.ne p hp (h1.trans hib.symm)
    ·rw [g2,g3];exact hR'
   ·obtain ⟨r,hr1,hri⟩:=hex;subst hri;by_cases hia:r.i=a1
    ·obtain ⟨l1,l2,hsplit⟩:=List.append_of_mem hr1;rw [hsplit] at hls hsort hinv hR hf;refine hinv.wp hn (hd r.i hi1) (hanc hls han hib) hr fun s' a' w' g1 g2 g3 g4=>?_
     refine aFQ ht han hn hQ hd fuel (l1++l2) s' _ a' w' (by simp only [List.length_append,List.length_cons] at hf ⊢;omega) (hls.step hinv.ne hpre) (fun x i hx=>?_) (tO hsort) g1 ?_ g4
     ·cases hx;rw [hia] at hil ⊢;exact aC3 hil
     ·rw [g2,g3];exact hR
    ·have hrd:r∈d:=by
      rcases List.mem_append.1 hr1 with h | h
      ·exact h
      ·exfalso;rcases hx r h with e | e | e | e
       ·exact hia e
       ·exact hib e
       ·exact hno ha1 (hup a1 e) hfa
       ·exact hno hb1 (hup b1 e) hfb
     obtain ⟨d1,d2,hsplit⟩:=List.append_of_mem hrd;subst hsplit;have e1:∀z:List Rc,d1++r :: d2++z=d1++r :: (d2++z):=fun z=>by simp
     have e2:∀z:List Rc,d1++d2++z=d1++(d2++z):=fun z=>by simp
     rw [e1] at hls hls' hsort hsort' hinv hinv' hR hR' hf;have k1:=hanc hls han hib;have k2:=hanc hls' han' hia;obtain ⟨_,_,v3,v4,v5⟩:=hinv'.take k2;obtain ⟨_,_,u3,u4,u5⟩:=hinv.take k1;have hinv0:=hinv;obtain ⟨hv,hdo,_,_,_⟩:=hinv.take k1;obtain ⟨C,h1,h2,h3,h4,h5,h6⟩:=hr;refine hdo C a w h1 h5 (by rw [h3,hn]) (fun t'=>?_) _ _ _ fun u w' C' g1 g2 g3 g4=>?_
     ·simp only [iX];split
      ·rename_i hm;rw [←hv t' (by simpa using hm)];exact h2 t'
      ·exact .any
     ·refine ih (d1++d2) (by rw [e2];simp only [List.length_append,List.length_cons] at hf ⊢;omega) ⟨put s.m (bS all r.i) r.v,(after (s.σ,s.nx) r).1,(after (s.σ,s.nx) r).2⟩ _ _ w' ?_ ?_ ?_ ?_ ?_ ?_ ?_ ?_ hxy ha1 hb1 ?_ ?_ ⟨C',g2,gM h5 g3 h2 (by rw [h3,hn];exact hd r.i hi1) g4,by rw [fF];exact h3,by rw [gL];exact h4.step g3,g1,h6.trans g3⟩
      ·rw [e2];exact hls.step hinv.ne hpre
      ·rw [e2];exact hls'.step hinv'.ne hpre
      ·rw [yS (Ne.symm hia)];exact hfa
      ·rw [yS (Ne.symm hib)];exact hfb
      ·rw [e2];exact tO hsort
      ·rw [e2];exact tO hsort'
      ·rw [e2];exact u3
      ·rw [e2];exact v3
      ·rw [e2];have:=u5;show R ⟨goes all (put s.m (bS all r.i) r.v) (d1++(d2++x)),(cC (after (s.σ,s.nx) r) (d1++(d2++x))).1,(cC (after (s.σ,s.nx) r) (d1++(d2++x))).2⟩;rw [u4,u5];exact hR
      ·rw [e2];show R ⟨goes all (put s.m (bS all r.i) r.v) (d1++(d2++y)),(cC (after (s.σ,s.nx) r) (d1++(d2++y))).1,(cC (after (s.σ,s.nx) r) (d1++(d2++y))).2⟩;rw [v4,v5];exact hR'
theorem LS.init {l:List Rc} (hl:∀i,(∃r∈l,r.i=i)↔i<all.size):LS all (Array.replicate all.size false) l:=by
 refine ⟨by simp,fun i hi=>?_,fun r hr=>(hl r.i).1 ⟨r,hr,rfl⟩,fun j hj hjl=>?_⟩
 ·rw [hl];simp [Array.getD_eq_getD_getElem?,Array.getElem?_replicate,hi]
 ·simp [Array.getD_eq_getD_getElem?,Array.getElem?_replicate,hj] at hjl
theorem aE3 {lo:List Nat} {sw:SW} (hst:iZ all n lo sw=true):∀i<all.size,cH n (bS all i)=true:=fun i hi=>by
 have:=bD8 hst i hi;cases hd:bS all i with
 |none=>rfl
 |some d=>rw [hd] at this;exact this
theorem kU.initM {lo:List Nat} {sw:SW} {s:St} {pend:List Rc} (hsw:∀i j,i<j→i<all.size→j<all.size→rF sw i j) (hm:∀q∈pend,cO P n all q.i q.m s.σ s.nx q.v s.σ s.nx):kU P n all lo sw s [] (num 0 all.toList) pend s:=by
 refine ⟨⟨fun l1 r l2 h=>(by simp at h),List.Pairwise.nil,fun r hr=>(by cases hr),True.intro⟩,fun p hp=>?_,?_,rfl,fun q hq=>(by cases hq),fun q hq=>(by cases hq),fun q hq=>(by cases hq),fun _ q hq _=>hm q hq⟩
 ·have:=(aL5 p all.toList 0 hp).2;simpa using this
 ·rw [List.map_nil,List.nil_append];refine (tB all.toList 0).imp_of_mem fun {i j} hi hj h=>?_
  have h1:=(tA all.toList 0 i).1 hi;have h2:=(tA all.toList 0 j).1 hj;simp only [Array.length_toList,Nat.zero_add] at h1 h2;exact hsw i j h h1.2 h2.2
theorem kU.init {lo:List Nat} {sw:SW} {s:St} (hsw:∀i j,i<j→i<all.size→j<all.size→rF sw i j):kU P n all lo sw s [] (num 0 all.toList) [] s:=kU.initM hsw fun q hq=>by cases hq
theorem aCP {l:List Rc} (h:l.map (·.i)=(num 0 all.toList).map (·.1)) (i:Nat):(∃r∈l,r.i=i)↔i<all.size:=by
 have:i∈l.map (·.i)↔i∈(num 0 all.toList).map (·.1):=by rw [h]
 rw [tA] at this;simpa using this
theorem aF7 {id:Nat} (lo:List Nat) (pend:List Rc) (hm:P.follows .mixedOrders=true) (hst:rR all B.n lo=true) (hpd:∀q∈pend,cO P B.n all q.i q.m s.σ s.nx q.v s.σ s.nx)
  (h:Kp P B (.opsD all lo none (num 0 all.toList) pend :: k) R .normal s):Kp P B (.code (.region id all true) :: k) R .normal s:=by
 intro a w hr;refine wpIn_region_any hm ?_;obtain ⟨l,hinv,hl,hk⟩:qM P B.n all none (Kp P B k R .normal) s [] (List.map (fun (p:Nat×Oper)=>p.fst) (num 0 all.toList)):=h hst s [] (kU.initM (fun i j h _ _=>.inl ⟨h,rfl⟩) hpd);rw [List.nil_append] at hinv hk
 have hlen:l.length=all.size:=by
  have:=congrArg List.length hl;simp only [List.length_map] at this
  have e:∀(l:List Oper) k,(num k l).length=l.length:=by
   intro l
   induction l with
   |nil=>intro k;rfl
   |cons o l ih=>intro k;simp [num,ih]
  rw [e] at this;simpa using this
 have hs:l.Pairwise (fun r q=>r.i<q.i):=by have:=tB all.toList 0;rw [←hl] at this;exact List.pairwise_map.1 this
 obtain ⟨C,h1,h2,h3,h4,h5,h6⟩:=hr;obtain ⟨g1,g2⟩:=zV h5 (w':={w with drawn:=w.drawn+1}) rfl rfl rfl rfl
 exact aFQ (aE5 hst) (an:=gE all none) (ex:=none) (fun x i h=>.inl (by simpa [gE,fQ,anc] using h)) (R:=fun s=>Kp P B k R .normal s) rfl (fun s a w hk hr=>⟨s,hk,hr⟩) (aE3 hst) all.size l s _ a _ hlen (LS.init (aCP hl)) (fun x i e=>by cases e) hs hinv hk
  ⟨C,h1,fun t=>(h2 t).step h5 g2,h3,⟨h4.all,h4.nodup⟩,g1,h6.trans g2⟩
theorem bK {id:Nat} (lo:List Nat) (hm:P.follows .mixedOrders=true) (hst:rR all B.n lo=true)
  (h:Kp P B (.opsD all lo none (num 0 all.toList) [] :: k) R .normal s):Kp P B (.code (.region id all true) :: k) R .normal s:=aF7 lo [] hm hst (fun q hq=>by cases hq) h
theorem aQD {id:Nat} (lo:List Nat) (a1 b1:Nat) (hlt:a1<b1) (hm:P.follows .mixedOrders=true) (hst:iZ all B.n lo (some (a1,b1,false))=true)
  (h:Kp P B (.opsD all lo (some (a1,b1,false)) (num 0 all.toList) [] :: k) R .normal s):Kp P B (.code (.region id all true) :: k) R .normal s:=by
 intro a w hr;refine wpIn_region_any hm ?_;obtain ⟨hab,ha1,hb1⟩:=aE4 hst
 obtain ⟨d,x,y,⟨x1,x2,x3⟩,⟨y1,y3⟩,hxy,hlxy,hord,hx⟩:aFY P B.n all (Kp P B k R .normal) s a1 b1 [] (List.map (fun (p:Nat×Oper)=>p.fst) (num 0 all.toList)):=h hst s [] (kU.init fun i j h hi hj=>by
  refine .inl ⟨h,?_⟩
  cases e:fQ (some (a1,b1,false)) j i with
  |false=>rfl
  |true=>
   simp only [fQ,Bool.and_eq_true,beq_iff_eq] at e
   omega)
 simp only [List.nil_append,List.map_nil] at x1 x3 y1 y3 hord
 have hmy:∀i,(∃r∈d++y,r.i=i)↔i<all.size:=fun i=>by
  rw [←aCP x2 i];have e:∀(l:List Rc),(∃r∈l,r.i=i)↔i∈l.map (·.i):=fun l=>by simp
  rw [e,e,List.map_append,List.map_append,List.mem_append,List.mem_append,hxy i]
 have hlen:(d++x).length=all.size:=by
  have:=congrArg List.length x2;simp only [List.length_map] at this
  have e:∀(l:List Oper) k,(num k l).length=l.length:=by
   intro l
   induction l with
   |nil=>intro k;rfl
   |cons o l ih=>intro k;simp [num,ih]
  rw [e] at this;simpa using this
 have hs:(d++x).Pairwise (fun r q=>r.i<q.i):=by have:=tB all.toList 0;rw [←x2] at this;exact List.pairwise_map.1 this
 have hs':(d++y).Pairwise (fun r q=>r.i<q.i∨(r.i=b1∧q.i=a1)):=by
  refine (List.pairwise_map.1 hord).imp fun {r q} h=>h.imp (fun h=>h.1) fun h=>?_
  simpa only [fQ,Bool.and_eq_true,beq_iff_eq] using h
 obtain ⟨C,h1,h2,h3,h4,h5,h6⟩:=hr;obtain ⟨g1,g2⟩:=zV h5 (w':={w with drawn:=w.drawn+1}) rfl rfl rfl rfl;have hf:∀u,u<all.size→(Array.replicate all.size false).getD u true=false:=fun u hu=>by simp [Array.getD_eq_getD_getElem?,Array.getElem?_replicate,hu]
 have:=bHO (P:=P) (n:=B.n) (aE5 hst) hab (B:=B) (Q:=post B (Kp P B k R)) (R:=fun s=>Kp P B k R .normal s) rfl (fun s a w hk hr=>⟨s,hk,hr⟩) (aE3 hst) (x:=x) (y:=y) hx d s _ a {w with drawn:=w.drawn+1} (LS.init (aCP x2)) (LS.init hmy) (hf a1 ha1) (hf b1 hb1) hs hs' x1 y1 hlxy ha1 hb1 x3 y3
  ⟨C,h1,fun t=>(h2 t).step h5 g2,h3,⟨h4.all,h4.nodup⟩,g1,h6.trans g2⟩
 rw [hlen] at this;exact this
theorem aF3 {lo:List Nat} {a b:Nat} {oa ob:Oper} {rest:List (Nat×Oper)} {pend:List Rc} (hr:(rest.map (·.1)).all (fun i=>anc all a i||anc all b i)=true)
  (h1:Kp P B (.opsD all lo (some (a,b,true)) ((a,oa) :: (b,ob) :: rest) pend :: k) R .normal s) (h2:Kp P B (.opsD all lo (some (b,a,true)) ((b,ob) :: (a,oa) :: rest) pend :: k) R .normal s):
  Kp P B (.opsD all lo (some (a,b,false)) ((a,oa) :: (b,ob) :: rest) pend :: k) R .normal s:=
 bZ.pair (fun p hp=>by
  have:=List.all_eq_true.1 hr p.1 (List.mem_map.2 ⟨p,hp,rfl⟩)
  simpa using this) h1 h2
theorem tY {lo:List Nat} {sw:SW} {pend:List Rc} (hs:zT sw=true) (h:Kp P B k R .normal s):Kp P B (.opsD all lo sw [] pend :: k) R .normal s:=bZ.nil hs h
theorem jV {m:bX} {i:Nat} {o:Oper} (ho:all[i]? =some o):∀x∈o.op.operands.toList,ev (iX (eO all i) m) x=ev m x:=by
 intro x hx;cases x with
 |tmp t=>simp only [ev,iX];rw [if_pos];simp only [eO,ho,Oper.looksAt,List.contains_iff_mem,List.mem_append,List.mem_filterMap];exact .inl ⟨_,hx,rfl⟩
 |_=>rfl
theorem aXZ {m:bX} {i:Nat} {o:Oper} (ho:all[i]? =some o) {j:Nat} {b:Bool} (hg:o.guard=some (j,b)):jS all (iX (eO all i) m) j=jS all m j:=by
 unfold jS;cases hd:(all[j]?).bind (·.dst) with
 |none=>rfl
 |some d=>
  have:iX (eO all i) m d=m d:=by simp only [iX];rw [if_pos];simp only [eO,ho,Oper.looksAt,hg,hd,List.contains_iff_mem,List.mem_append];exact .inr (by simp)
  simp only [this]
def cZ (all:Array Oper) (m:bX) (o:Oper):Option Bool:=
 match o.guard with
 |none=>some true
 |some (j,b)=>(jS all m j).map fun g=>g==some b
theorem jG {m:bX} {i:Nat} {o:Oper} (ho:all[i]? =some o) {a:Act} {w:World} {C:aZ} (h:∀t,aN w C (iX (eO all i) m t) (a.tmps.getD t undef)) {b:Bool} (hl:cZ all m o=some b):
  Region.wanted o (yielded all a.tmps)=b:=by
 unfold cZ at hl;split at hl
 ·rename_i hg;cases hl;simp [Region.wanted,hg]
 ·rename_i j b' hg;rw [←aXZ ho hg] at hl;cases hv:jS all (iX (eO all i) m) j with
  |none=>rw [hv] at hl;cases hl
  |some g=>rw [hv] at hl;simp only [Option.map_some,Option.some.injEq] at hl;simp only [Region.wanted,hg,aCK h hv];exact hl
theorem aHY {i:Nat} {o:Oper} {m:bX} {v:AV} (ho:all[i]? =some o) (hl:cZ all m o=some true) (hv:bW P (ev m) o.op=some v) (σ:Nat→aG) (nx:Nat):cO P n all i m σ nx v σ nx:=by
 intro C a w hn hs hsz hr ro K Q hK;rw [←aUU (jV ho)] at hv;obtain ⟨C',w',u,hrun,g1,g2,g3,g4⟩:=aIC hs (cV hr) hv;have hd:bS all i=o.dst:=by simp [bS,ho]
 simp only [fI,wpOpIn,ho,jG ho hr hl,if_true];rw [hd] at hK;rcases hrun with hrun | ⟨hrun,rfl⟩
 ·exact eW hrun (hK _ _ C' g2 (g3.trans hn) g1 g4)
 ·exact vK hrun (hK _ _ C' g2 (g3.trans hn) g1 g4)
theorem kF {i:Nat} {o:Oper} {m:bX} {v:AV} {e:fJ} {σ:Nat→aG} {nx:Nat} (ho:all[i]? =some o) (hl:cZ all m o=some true) (hv:cP P σ nx (ev m) o.op=some (v,e)):
  cO P n all i m σ nx v (e.on σ nx).1 (e.on σ nx).2:=by
 intro C a w hn hs hsz hr ro K Q hK;rw [←aUW (jV ho),←hn] at hv;obtain ⟨C',w',u,hrun,g1,g2,g3,g4⟩:=aID hs (cV hr) hv;have hd:bS all i=o.dst:=by simp [bS,ho]
 simp only [fI,wpOpIn,ho,jG ho hr hl,if_true];rw [hd] at hK;rw [hn] at g1 g2 g3;rcases hrun with hrun | ⟨hrun,rfl⟩
 ·exact eW hrun (hK _ _ C' g2 g3 g1 g4)
 ·exact vK hrun (hK _ _ C' g2 g3 g1 g4)
theorem aHZ {i:Nat} {o:Oper} {m:bX} (ho:all[i]? =some o) (hl:cZ all m o=some false) (σ:Nat→aG) (nx:Nat):cO P n all i m σ nx (.tup []) σ nx:=by
 intro C a w hn hs hsz hr ro K Q hK;have hd:bS all i=o.dst:=by simp [bS,ho]
 simp only [fI,wpOpIn,ho,jG ho hr hl];rw [hd] at hK;exact ⟨fun _ _=>trivial,hK _ _ C hs hn (bO.refl _ _ _) (.tup rfl (fun k a u h=>by simp at h))⟩
section
variable {lo:List Nat} {sw:SW} {i:Nat} {o:Oper} {rest:List (Nat×Oper)} {pend:List Rc} {v:AV}
def fR (all:Array Oper) (lo:List Nat) (i:Nat):Bool:=lo.all fun k=>(!decide (k<i)||anc all k i)&&(!decide (i<k)||anc all i k)
theorem kT (hl:cZ all s.m o=some true) (hv:bW P (ev s.m) o.op=some v) (h:Kp P B (.opsD all lo sw rest pend :: k) R .normal (s.upd o.dst v .none)):Kp P B (.opsD all lo sw ((i,o) :: rest) pend :: k) R .normal s:=
 bZ.at fun ho=>bZ.step (loud:=none) (aHY ho hl hv _ _) (fun _=>.inl (aHY ho hl hv)) (fun c hc=>by cases hc) (fun _ h=>h) h
theorem aQB (hl:cZ all s.m o=some false) (h:Kp P B (.opsD all lo sw rest pend :: k) R .normal (s.upd o.dst (.tup []) .none)):Kp P B (.opsD all lo sw ((i,o) :: rest) pend :: k) R .normal s:=
 bZ.at fun ho=>bZ.step (loud:=none) (aHZ ho hl _ _) (fun _=>.inl (aHZ ho hl)) (fun c hc=>by cases hc) (fun _ h=>h) h
theorem aAO (hl:cZ all s.m o=some true) (hv:cP P s.σ s.nx (ev s.m) o.op=some (v,.none)) (ht:fR all lo i=true) (h:Kp P B (.opsD all lo sw rest pend :: k) R .normal (s.upd o.dst v .none)):Kp P B (.opsD all lo sw ((i,o) :: rest) pend :: k) R .normal s:=
 bZ.at fun ho=>bZ.step (loud:=none) (kF ho hl hv) (fun _=>.inr (by
  simp only [fR,List.all_eq_true,Bool.and_eq_true,Bool.or_eq_true,Bool.not_eq_true',decide_eq_false_iff_not] at ht
  exact ⟨fun k hk h=>((ht k hk).1).resolve_left (fun e=>e h),.inl fun k hk h=>((ht k hk).2).resolve_left (fun e=>e h)⟩)) (fun c hc=>by cases hc) (fun _ h=>h) h
theorem aP8 (hl:cZ all s.m o=some true) (hv:∀σ nx,cP P σ nx (ev s.m) o.op=some (v,.none)) (h:Kp P B (.opsD all lo sw rest pend :: k) R .normal (s.upd o.dst v .none)):Kp P B (.opsD all lo sw ((i,o) :: rest) pend :: k) R .normal s:=
 bZ.at fun ho=>bZ.step (loud:=none) (kF ho hl (hv _ _)) (fun _=>.inl fun σ nx=>kF ho hl (hv σ nx)) (fun c hc=>by cases hc) (fun _ h=>h) h
theorem qN (hl:cZ all s.m o=some true) (hv:cP P s.σ s.nx (ev s.m) o.op=some (v,.none)) (ht:∀k∈lo,k<i→anc all k i=true) (h:Kp P B (.opsD all lo sw rest (⟨i,s.m,v,none⟩ :: pend) :: k) R .normal (s.upd o.dst v .none)):
  Kp P B (.opsD all lo sw ((i,o) :: rest) pend :: k) R .normal s:=
 bZ.at fun ho=>bZ.step (loud:=none) (kF ho hl hv) (fun _=>.inr ⟨ht,.inr List.mem_cons_self⟩) (fun c hc=>by cases hc) (fun _ h=>List.mem_cons_of_mem _ h) h
theorem aAN (hl:cZ all s.m o=some true) (hv:cP P s.σ s.nx (ev s.m) o.op=some (v,.none)) (ht:aGI all sw pend i s.m v) (h:Kp P B (.opsD all lo sw rest (⟨i,s.m,v,none⟩ :: pend) :: k) R .normal (s.upd o.dst v .none)):
  Kp P B (.opsD all lo sw ((i,o) :: rest) pend :: k) R .normal s:=
 bZ.at fun ho=>bZ.stepG (loud:=none) (kF ho hl hv) (fun _=>.inr ⟨.inr ht,.inr List.mem_cons_self⟩) (fun c hc=>by cases hc) (fun _ h=>List.mem_cons_of_mem _ h) (fun _ h hn=>(List.mem_cons.1 h).resolve_left (fun e=>hn (by rw [e]))) h
theorem qO {e:fJ} (hl:cZ all s.m o=some true) (hv:cP P s.σ s.nx (ev s.m) o.op=some (v,e)) (hi:i∈lo) (hp:∀q∈pend,anc all q.i i=true∨cO P B.n all q.i q.m (e.on s.σ s.nx).1 (e.on s.σ s.nx).2 q.v (e.on s.σ s.nx).1 (e.on s.σ s.nx).2)
  (h:Kp P B (.opsD all lo sw rest pend :: k) R .normal (s.upd o.dst v e)):Kp P B (.opsD all lo sw ((i,o) :: rest) pend :: k) R .normal s:=
 bZ.at fun ho=>bZ.step (loud:=some (e.on s.σ s.nx)) (kF ho hl hv) (fun hc=>by cases hc) (fun c hc=>by cases hc;exact ⟨hi,hp⟩) (fun _ h=>h) h
end
end
theorem aF1 {all:Array Oper} {o1 o2:Oper} {rest:List Oper} {t d1 n:Nat} {parts:Array (Nat×Operand)} (hg1:o1.guard=none) (hg2:o2.guard=none) (h1:o1.op= .buildSlice t n parts) (h2:o2.op= .convert t t (.tmp d1)) (hd1:o1.dst=some d1)
  {es:List (List T)} {e:TypeId} {i1 i2:TI} (ht:TT P t=some i1) (ht':i1.desc= .slice e) (he:TT P e=some i2) (he':i2.desc= .int .u8) (hv:bW P (ev s.m) o1.op=some (.fsl es)) (hb1:cH B.n o1.dst=true) (hb2:cH B.n o2.dst=true)
  (h:Kp P B (.ops all rest :: k) R .normal ⟨put (put s.m (some d1) .any) o2.dst (.t (.sl es)),s.σ,s.nx⟩):Kp P B (.ops all (o1 :: o2 :: rest) :: k) R .normal s:=by
 intro a w hr;obtain ⟨C,g1,g2,g3,g4,g5,g6⟩:=hr;rw [h1] at hv;obtain ⟨us,e0,r,hrun,hr1,hr2,⟨sz,by_,z,ht0⟩,_,hrep⟩:=aBH g5 (cV g2) hv;cases hr1;rw [ht] at ht0;have hee:e0=e:=by have:=congrArg (Option.map TI.desc) ht0;simp only [Option.map_some,ht',Option.some.injEq,TypeDesc.slice.injEq] at this;exact this.symm
 subst hee;have hunt:P.underlying t=some (.slice e0):=by rw [←ht'];exact (cG ht).1
 have hune:P.underlying e0=some (.int .u8):=by rw [←he'];exact (cG he).1
 have hconv:=Lib.run_convert_bytes_const (P:=P) w t e0 us n n hunt hune;have hd1':d1<a.tmps.size:=by rw [hd1] at hb1;rw [g3];simpa [cH] using hb1
 refine iO hg1 fun K hK=>?_
 have hx1:(execOp a.eval o1).run P w= .ok (.value (.slice (some ⟨w.heap.size,0,none⟩) n n)) {w with heap:=w.heap.push (.cells us e0)}:=by simp only [execOp,h1,Sem.run_bind,hrun,Result.andThen_ok,Sem.run_pure]
 refine eW hx1 (hK _ _ (iO hg2 fun K' hK'=>?_))
 have hx2:(execOp (a.put o1.dst (.slice (some ⟨w.heap.size,0,none⟩) n n)).eval o2).run P {w with heap:=w.heap.push (.cells us e0)}= .ok (.value (.slice (some ⟨w.heap.size,0,none⟩) n n)) {w with heap:=w.heap.push (.cells us e0 (us.size,us.size+1))}:=by
  have hev:(a.put o1.dst (.slice (some ⟨w.heap.size,0,none⟩) n n)).eval (.tmp d1)= .slice (some ⟨w.heap.size,0,none⟩) n n:=by rw [hd1];simp [Act.eval,Act.put,Array.getD_eq_getD_getElem?,Array.getElem?_setIfInBounds_self_of_lt hd1']
  simp only [execOp,h2,Sem.run_bind,hev];have:(convert t t (.slice (some ⟨w.heap.size,0,none⟩) n n)).run P {w with heap:=w.heap.push (.cells us e0)}= .ok (.slice (some ⟨w.heap.size,0,none⟩) n n) {w with heap:=w.heap.push (.cells us e0 (us.size,us.size+1))}:=hconv;rw [this];simp only [Result.andThen_ok,Sem.run_pure]
 refine eW hx2 ?_;obtain ⟨s1,s2⟩:=aEV g5 (.cells us e0 (us.size,us.size+1));have p1:=gM g5 s2 g2 (d:=some d1) (by rw [←hd1,g3];exact hb1) (v:=.any) (u:=.slice (some ⟨w.heap.size,0,none⟩) n n) .any;have p2:=gM (a:=a.put o1.dst (.slice (some ⟨w.heap.size,0,none⟩) n n)) s1 (bO.refl _ _ _) (by rw [hd1];exact p1) (d:=o2.dst) (by rw [fF,g3];exact hb2) (aN.t (hrep (us.size,us.size+1)));exact hK' _ _ (h _ _ ⟨{C with imm:=fun b=>C.imm b∨b=w.heap.size},g1,p2,by rw [fF,fF];exact g3,by rw [gL,gL];exact g4.step s2,s1,g6.trans s2⟩)
theorem aP4 {all:Array Oper} {o1 o2:Oper} {rest:List Oper} {t d1 n:Nat} {parts:Array (Nat×Operand)} (hg1:o1.guard=none) (hg2:o2.guard=none) (h1:o1.op= .buildSlice t n parts) (h2:o2.op= .convert t t (.tmp d1)) (hd1:o1.dst=some d1)
  {es:List (List T)} {e:TypeId} {i1 i2:TI} (ht:TT P t=some i1) (ht':i1.desc= .slice e) (he:TT P e=some i2) (he':i2.desc= .int .u8) (hv:bW P (ev s.m) o1.op=some (.fsl es)) (hb1:cH B.n o1.dst=true) (hb2:cH B.n o2.dst=true)
  (h:Kp P B (.ops all rest :: k) R .normal ⟨put (put s.m (some d1) .any) o2.dst (.ref s.nx),aB s.σ s.nx (.arr i2.size es),s.nx+1⟩):Kp P B (.ops all (o1 :: o2 :: rest) :: k) R .normal s:=by
 intro a w hr;obtain ⟨C,g1,g2,g3,g4,g5,g6⟩:=hr;rw [h1] at hv;obtain ⟨us,e0,r,hrun,hr1,hr2,⟨sz,by_,z,ht0⟩,⟨i0,hi0,u1,u2,u3⟩,hrep⟩:=aBH g5 (cV g2) hv;cases hr1;rw [ht] at ht0;have hee:e0=e:=by have:=congrArg (Option.map TI.desc) ht0;simp only [Option.map_some,ht',Option.some.injEq,TypeDesc.slice.injEq] at this;exact this.symm
 subst hee;have hunt:P.underlying t=some (.slice e0):=by rw [←ht'];exact (cG ht).1
 have hune:P.underlying e0=some (.int .u8):=by rw [←he'];exact (cG he).1
 have hconv:=Lib.run_convert_bytes_const (P:=P) w t e0 us n n hunt hune;have hd1':d1<a.tmps.size:=by rw [hd1] at hb1;rw [g3];simpa [cH] using hb1
 refine iO hg1 fun K hK=>?_
 have hx1:(execOp a.eval o1).run P w= .ok (.value (.slice (some ⟨w.heap.size,0,none⟩) n n)) {w with heap:=w.heap.push (.cells us e0)}:=by simp only [execOp,h1,Sem.run_bind,hrun,Result.andThen_ok,Sem.run_pure]
 refine eW hx1 (hK _ _ (iO hg2 fun K' hK'=>?_))
 have hx2:(execOp (a.put o1.dst (.slice (some ⟨w.heap.size,0,none⟩) n n)).eval o2).run P {w with heap:=w.heap.push (.cells us e0)}= .ok (.value (.slice (some ⟨w.heap.size,0,none⟩) n n)) {w with heap:=w.heap.push (.cells us e0 (us.size,us.size+1))}:=by
  have hev:(a.put o1.dst (.slice (some ⟨w.heap.size,0,none⟩) n n)).eval (.tmp d1)= .slice (some ⟨w.heap.size,0,none⟩) n n:=by rw [hd1];simp [Act.eval,Act.put,Array.getD_eq_getD_getElem?,Array.getElem?_setIfInBounds_self_of_lt hd1']
  simp only [execOp,h2,Sem.run_bind,hev];have:(convert t t (.slice (some ⟨w.heap.size,0,none⟩) n n)).run P {w with heap:=w.heap.push (.cells us e0)}= .ok (.slice (some ⟨w.heap.size,0,none⟩) n n) {w with heap:=w.heap.push (.cells us e0 (us.size,us.size+1))}:=hconv;rw [this];simp only [Result.andThen_ok,Sem.run_pure]
 refine eW hx2 ?_;rw [he] at hi0;cases hi0;obtain ⟨C',hC⟩:∃C':aZ,C'=⟨C.imm,fun i=>if i=C.nx then some w.heap.size else C.own i,fun i=>if i=C.nx then .slice (some ⟨w.heap.size,0,none⟩) n n else C.hdr i,C.nx+1⟩:=⟨_,rfl⟩;have hk0:eD w C.imm {w with heap:=w.heap.push (.cells us e0 (us.size,us.size+1))} C.imm:=⟨fun _ h=>h,fun b h=>lY w _ (g5.imm_lt b h)⟩
 obtain ⟨s1,s2⟩:=rO g5 (.cells us e0 (us.size,us.size+1)) (.arr i2.size es) (.slice (some ⟨w.heap.size,0,none⟩) n n) C' hC
  ⟨u2,.inr ⟨w.heap.size,n,us,e0,us.size,us.size+1,by rw [hC];simp,by rw [hC,hr2];simp,by omega,oN w _,by rw [u1,hr2],.inr (by rw [u1,hr2];exact Nat.le_refl _),fun j k e c u a b d=>by rw [hC];exact (u3 j k e c u a b d).keeps hk0⟩⟩
 rw [g1] at s1 s2;have p1:=gM g5 s2 g2 (d:=some d1) (by rw [←hd1,g3];exact hb1) (v:=.any) (u:=.slice (some ⟨w.heap.size,0,none⟩) n n) .any;have p2:=gM (a:=a.put o1.dst (.slice (some ⟨w.heap.size,0,none⟩) n n)) s1 (bO.refl _ _ _) (by rw [hd1];exact p1) (d:=o2.dst) (by rw [fF,g3];exact hb2) (v:=.ref s.nx) (u:=.slice (some ⟨w.heap.size,0,none⟩) n n) (.ref (by rw [hC,g1];exact Nat.lt_succ_self _) (by rw [hC,g1];simp));exact hK' _ _ (h _ _ ⟨C',by rw [hC,g1],p2,by rw [fF,fF];exact g3,by rw [gL,gL];exact g4.step s2,s1,g6.trans s2⟩)
theorem aQL {all:Array Oper} {o:Oper} {r:List Oper} {j:Nat} {b:Bool} (hg:o.guard=some (j,b)) (hv:jS all s.m j=some (some b)) (h:Kp P B (.ops all ({o with guard:=none} :: r) :: k) R .normal s):
  Kp P B (.ops all (o :: r) :: k) R .normal s:=by
 intro a w hr;have h1:=h a w hr;have hw:Region.wanted o (yielded all a.tmps)=true:=by obtain ⟨C,_,h2,_⟩:=hr;simp [Region.wanted,hg,aCK h2 hv]
 unfold rX wpListIn at h1 ⊢;rw [if_pos (by simp [Region.wanted])] at h1;rw [if_pos hw];exact h1
def mL (all:Array Oper) (lo:List Nat) (i:Nat):Bool:=lo.all fun k=>!decide (k<i)||anc all k i
def aDR (P:Program) (all:Array Oper) (i:Nat) (σ:Nat→aG) (nx:Nat) (q:Rc):Prop:=
 anc all q.i i=true∨match all[q.i]? with
  |some o=>cZ all q.m o=some true∧cP P σ nx (ev q.m) o.op=some (q.v,.none)
  |none=>False
def nN (P:Program) (all:Array Oper) (i:Nat) (σ:Nat→aG) (nx:Nat):List Rc→Prop
 |[]=>True
 |q :: qs=>aDR P all i σ nx q∧nN P all i σ nx qs
theorem oK {P:Program} {n:Nat} {all:Array Oper} {i:Nat} {σ:Nat→aG} {nx:Nat}:∀{l:List Rc},nN P all i σ nx l→∀q∈l,anc all q.i i=true∨cO P n all q.i q.m σ nx q.v σ nx
 |q :: qs,h,p,hp=>by
  rcases List.mem_cons.1 hp with rfl | hp
  ·rcases h.1 with h1 | h1
   ·exact .inl h1
   ·right;split at h1
    ·rename_i o ho;exact kF (e:=.none) ho h1.1 h1.2
    ·exact h1.elim
  ·exact oK h.2 p hp
def vX (sw:SW) (i:Nat):Bool:=match sw with | some (a,_,false)=>i==a | _=>false
def run (P:Program) (n:Nat) (G:List KI→St→Prop):Nat→List KI→St→Prop
 |0,k,s=>G k s
 |f+1,.code (.seq a b) :: k,s=>run P n G f (.code a :: .code b :: k) s
 |f+1,.code .skip :: k,s=>run P n G f k s
 |f+1,.code (.label _) :: k,s=>run P n G f k s
 |f+1,.blk _ :: k,s=>run P n G f k s
 |f+1,.scp :: k,s=>run P n G f k s
 |f+1,.lab _ :: k,s=>run P n G f k s
 |f+1,.code (.block id c) :: k,s=>run P n G f (.code c :: .blk id :: k) s
 |f+1,.code (.exit id) :: k,s=>match p8 id k with
  |some k'=>run P n G f k' s
  |none=>G (.code (.exit id) :: k) s
 |_+1,.code .ret :: _,s=>G [.fin .ret] s
 |_+1,.again J :: _,s=>G [.again J] s
 |_+1,.code (.goto l) :: k,s=>match pZ k with
  |some J=>G [.fin (.goto l),.lab J] s
  |none=>G (.code (.goto l) :: k) s
 |f+1,.code (.cond c x y) :: k,s=>match ev s.m c with
  | .t (.v (.bool b))=>(b=true→run P n G f (.code x :: k) s)∧(b=false→run P n G f (.code y :: k) s)
  |_=>G (.code (.cond c x y) :: k) s
 |f+1,.code (.region id ops d) :: k,s=>match d with
  |false=>run P n G f (.ops ops ops.toList :: k) s
  |true=>G (.code (.region id ops true) :: k) s
 |f+1,.ops _ [] :: k,s=>run P n G f k s
 |f+1,.ops all (o :: r) :: k,s=>match o.guard with
  |some (j,want)=>match (all[j]?).bind (·.dst) with
   |some d=>match s.m d with
    | .t (.v (.bool b))=>(b=want→run P n G f (.ops all ({o with guard:=none} :: r) :: k) s)∧
     (b= !want→cH n o.dst=true∧run P n G f (.ops all r :: k) (s.upd o.dst (.tup []) .none))
    | .tup _=>cH n o.dst=true∧run P n G f (.ops all r :: k) (s.upd o.dst (.tup []) .none)
    |_=>G (.ops all (o :: r) :: k) s
   |none=>G (.ops all (o :: r) :: k) s
  |none=>match one P s o with
   |some s'=>cH n o.dst=true∧run P n G f (.ops all r :: k) s'
   |none=>G (.ops all (o :: r) :: k) s
 |f+1,.opsD all lo sw [] pend :: k,s=>match zT sw with
  |true=>run P n G f k s
  |false=>G (.opsD all lo sw [] pend :: k) s
 |f+1,.opsD all lo sw ((i,o) :: r) pend :: k,s=>match vX sw i with
  |true=>G (.opsD all lo sw ((i,o) :: r) pend :: k) s
  |false=>match cZ all s.m o with
   |some true=>match bW P (ev s.m) o.op with
    |some v=>run P n G f (.opsD all lo sw r pend :: k) (s.upd o.dst v .none)
    |none=>match cP P s.σ s.nx (ev s.m) o.op with
     |some (v,.none)=>if fR all lo i=true then run P n G f (.opsD all lo sw r pend :: k) (s.upd o.dst v .none)
      else mL all lo i=true∧run P n G f (.opsD all lo sw r (⟨i,s.m,v,none⟩ :: pend) :: k) (s.upd o.dst v .none)
     |some (v,e)=>(i∈lo∧nN P all i (e.on s.σ s.nx).1 (e.on s.σ s.nx).2 pend)∧run P n G f (.opsD all lo sw r pend :: k) (s.upd o.dst v e)
     |none=>G (.opsD all lo sw ((i,o) :: r) pend :: k) s
   |some false=>run P n G f (.opsD all lo sw r pend :: k) (s.upd o.dst (.tup []) .none)
   |none=>G (.opsD all lo sw ((i,o) :: r) pend :: k) s
 |_+1,k,s=>G k s
theorem bG {n:Nat} (hn:B.n=n) (f:Nat) (h:run P n (fun k s=>Kp P B k R .normal s) f k s):Kp P B k R .normal s:=by
 subst hn;revert h
 fun_induction run P B.n (fun k s=>Kp P B k R .normal s) f k s<;>intro h
 case case1=>exact h
 case case2 ih=>exact o9 (ih h)
 case case3 ih=>exact wX (ih h)
 case case4 ih=>exact tZ (ih h)
 case case5 ih=>have:=ih h;exact this
 case case6 ih=>have:=ih h;exact this
 case case7 ih=>have:=ih h;exact this
 case case8 ih=>exact aP3 (ih h)
 case case9 hk ih=>exact aQE (aQN hk (ih h))
 case case10=>exact h
 case case11=>exact aQQ (aQU h _)
 case case12=>exact h
 case case13 hJ=>exact aQG (aQT hJ h)
 case case14=>exact h
 case case15 hb ih2 ih1=>exact aP6 hb (fun e=>ih2 (h.1 e)) (fun e=>ih1 (h.2 e))
 case case16=>exact h
 case case17 ih=>exact aQP (ih h)
 case case18=>exact h
 case case19 ih=>exact aQM (ih h)
 case case20 b hb ih2 ih1=>
  rename_i all o r k s j want hg d hd;have hv:jS all s.m j=some (some b):=by simp only [jS,hd,hb]
  by_cases e:b=want
  ·have h':=h.1 e;subst e;exact aQL hg hv (ih2 h')
  ·have h':=h.2 (by cases b<;>cases want<;>simp_all);exact aGB hg hv (by simpa using e) h'.1 (ih1 h'.2)
 case case21 cs hb ih1=>
  rename_i all o r k s j want hg d hd;have hv:jS all s.m j=some none:=by simp only [jS,hd,hb]
  exact aGB hg hv (by simp) h.1 (ih1 h.2)
 case case22=>exact h
 case case23=>exact h
 case case24 hg _ ho ih1=>exact aQK hg h.1 ho (ih1 h.2)
 case case25=>exact h
 case case26 hs ih=>exact tY hs (ih h)
 case case27=>exact h
 case case28=>exact h
 case case29 hl _ hv ih=>exact kT hl hv (ih h)
 case case30 hl _ _ hv ht ih=>exact aAO hl hv ht (ih h)
 case case31 hl _ _ hv ht ih=>refine qN hl hv (fun k hk hi=>?_) (ih h.2);have:=List.all_eq_true.1 h.1 k hk;simpa [hi] using this
 case case32 hl _ _ _ _ hv ih=>exact qO hl hv h.1.1 (oK h.1.2) (ih h.2)
 case case33=>exact h
 case case34 hl ih=>exact aQB hl (ih h)
 case case35=>exact h
 case case36=>exact h
theorem aD {n:Nat} (h:run P n (fun k s=>Kp P B k R .normal s) 100 k s) (hn:B.n=n:=by assumption):Kp P B k R .normal s:=bG hn 100 h
theorem aI {n:Nat} (h:run P n (fun k s=>Kp P B k R .normal s) 60 k s) (hn:B.n=n:=by assumption):Kp P B k R .normal s:=bG hn 60 h
section
variable {n:Nat} {G:List KI→St→Prop} {f:Nat}
theorem bCL {a b:Code}:run P n G (f+1) (.code (.seq a b) :: k) s=run P n G f (.code a :: .code b :: k) s:=by rw [run]
theorem bCM:run P n G (f+1) (.code .skip :: k) s=run P n G f k s:=by rw [run]
theorem bCE {l:Nat}:run P n G (f+1) (.code (.label l) :: k) s=run P n G f k s:=by rw [run]
theorem bBY {i:Nat}:run P n G (f+1) (.blk i :: k) s=run P n G f k s:=by rw [run]
theorem bCK:run P n G (f+1) (.scp :: k) s=run P n G f k s:=by rw [run]
theorem bCD {J:Nat→St→Prop}:run P n G (f+1) (.lab J :: k) s=run P n G f k s:=by rw [run]
theorem bBZ {i:Nat} {c:Code}:run P n G (f+1) (.code (.block i c) :: k) s=run P n G f (.code c :: .blk i :: k) s:=by rw [run]
theorem bCJ:run P n G (f+1) (.code .ret :: k) s=G [.fin .ret] s:=by rw [run]
theorem bBX {J:St→Prop}:run P n G (f+1) (.again J :: k) s=G [.again J] s:=by rw [run]
theorem bB8:run P n G (f+1) [] s=G [] s:=by rw [run];all_goals simp
theorem bCA {e:Exit}:run P n G (f+1) (.fin e :: k) s=G (.fin e :: k) s:=by rw [run];all_goals simp
def aAY (P:Program) (n:Nat) (G:List KI→St→Prop) (f id:Nat) (o:Option (List KI)) (k:List KI) (s:St):Prop:=
 match o with | some k'=>run P n G f k' s | none=>G (.code (.exit id) :: k) s
theorem bB9 {i:Nat}:run P n G (f+1) (.code (.exit i) :: k) s=aAY P n G f i (p8 i k) k s:=by rw [run];rfl
theorem aRQ {i:Nat} {k k':List KI}:aAY P n G f i (some k') k s=run P n G f k' s:=by simp only [aAY]
def aAZ (G:List KI→St→Prop) (l:Nat) (o:Option (Nat→St→Prop)) (k:List KI) (s:St):Prop:=
 match o with | some J=>G [.fin (.goto l),.lab J] s | none=>G (.code (.goto l) :: k) s
theorem bCB {l:Nat}:run P n G (f+1) (.code (.goto l) :: k) s=aAZ G l (pZ k) k s:=by rw [run];rfl
theorem aRR {l:Nat} {J:Nat→St→Prop}:aAZ G l (some J) k s=G [.fin (.goto l),.lab J] s:=by simp only [aAZ]
def mM (P:Program) (n:Nat) (G:List KI→St→Prop) (f:Nat) (b:Bool) (k1:List KI) (s1:St) (k2:List KI) (s2:St):Prop:=
 (b=true→run P n G f k1 s1)∧(b=false→run P n G f k2 s2)
theorem aU5 {k1 k2:List KI} {s1 s2:St}:mM P n G f true k1 s1 k2 s2=run P n G f k1 s1:=by simp [mM]
theorem aU3 {k1 k2:List KI} {s1 s2:St}:mM P n G f false k1 s1 k2 s2=run P n G f k2 s2:=by simp [mM]
theorem bU {p:Prop} [Decidable p] {k1 k2:List KI} {s1 s2:St} (h1:p→run P n G f k1 s1) (h2:¬p→run P n G f k2 s2):mM P n G f (decide p) k1 s1 k2 s2:=
 ⟨fun h=>h1 (of_decide_eq_true h),fun h=>h2 (of_decide_eq_false h)⟩
theorem aU4 {b:Bool} {k1 k2:List KI} {s1 s2:St}:mM P n G f (!b) k1 s1 k2 s2=mM P n G f b k2 s2 k1 s1:=by cases b<;>simp [mM]
def xG (P:Program) (n:Nat) (G:List KI→St→Prop) (f:Nat) (v:AV) (c:Operand) (x y:Code) (k:List KI) (s:St):Prop:=
 match v with
 | .t (.v (.bool b))=>mM P n G f b (.code x :: k) s (.code y :: k) s
 |_=>G (.code (.cond c x y) :: k) s
theorem bB0 {c:Operand} {x y:Code}:run P n G (f+1) (.code (.cond c x y) :: k) s=xG P n G f (ev s.m c) c x y k s:=by rw [run];simp only [xG,mM]
theorem aRG {b:Bool} {c:Operand} {x y:Code}:xG P n G f (.t (.v (.bool b))) c x y k s=mM P n G f b (.code x :: k) s (.code y :: k) s:=by simp only [xG]
theorem bCI {id:Nat} {ops:Array Oper}:run P n G (f+1) (.code (.region id ops false) :: k) s=run P n G f (.ops ops ops.toList :: k) s:=by rw [run]
theorem bB7 {id:Nat} {ops:Array Oper}:run P n G (f+1) (.code (.region id ops true) :: k) s=G (.code (.region id ops true) :: k) s:=by rw [run]
theorem bCF {all:Array Oper}:run P n G (f+1) (.ops all [] :: k) s=run P n G f k s:=by rw [run]
def sA (P:Program) (n:Nat) (G:List KI→St→Prop) (f:Nat) (x:Option St) (all:Array Oper) (o:Oper) (r:List Oper) (k:List KI) (s:St):Prop:=
 match x with
 |some s'=>cH n o.dst=true∧run P n G f (.ops all r :: k) s'
 |none=>G (.ops all (o :: r) :: k) s
def kD (P:Program) (n:Nat) (G:List KI→St→Prop) (f:Nat) (v:AV) (want:Bool) (all:Array Oper) (o:Oper) (r:List Oper) (k:List KI) (s:St):Prop:=
 match v with
 | .t (.v (.bool b))=>(b=want→run P n G f (.ops all ({o with guard:=none} :: r) :: k) s)∧(b= !want→cH n o.dst=true∧run P n G f (.ops all r :: k) (s.upd o.dst (.tup []) .none))
 | .tup _=>cH n o.dst=true∧run P n G f (.ops all r :: k) (s.upd o.dst (.tup []) .none)
 |_=>G (.ops all (o :: r) :: k) s
def xH (P:Program) (n:Nat) (G:List KI→St→Prop) (f:Nat) (d:Option Nat) (want:Bool) (all:Array Oper) (o:Oper) (r:List Oper) (k:List KI) (s:St):Prop:=
 match d with
 |some d=>kD P n G f (s.m d) want all o r k s
 |none=>G (.ops all (o :: r) :: k) s
theorem bCH {all:Array Oper} {r:List Oper} {d:Option Nat} {op:Op} {t:TypeId} {p:String} {af:Array Edge}:
  run P n G (f+1) (.ops all (⟨d,op,t,p,af,none⟩ :: r) :: k) s=sA P n G f (one P s ⟨d,op,t,p,af,none⟩) all ⟨d,op,t,p,af,none⟩ r k s:=by rw [run];simp only [sA]
theorem bCC {all:Array Oper} {r:List Oper} {d:Option Nat} {op:Op} {t:TypeId} {p:String} {af:Array Edge} {j:Nat} {want:Bool}:
  run P n G (f+1) (.ops all (⟨d,op,t,p,af,some (j,want)⟩ :: r) :: k) s=xH P n G f ((all[j]?).bind (·.dst)) want all ⟨d,op,t,p,af,some (j,want)⟩ r k s:=by
 rw [run];simp only [xH,kD];split<;>split<;>simp_all
theorem aRS {all:Array Oper} {o:Oper} {r:List Oper} {d:Nat} {want:Bool}:xH P n G f (some d) want all o r k s=kD P n G f (s.m d) want all o r k s:=by simp only [xH]
theorem aRU {all:Array Oper} {o:Oper} {r:List Oper} {s':St}:sA P n G f (some s') all o r k s=(cH n o.dst=true∧run P n G f (.ops all r :: k) s'):=by simp only [sA]
theorem aRT {all:Array Oper} {o:Oper} {r:List Oper}:sA P n G f none all o r k s=G (.ops all (o :: r) :: k) s:=by simp only [sA]
theorem aR1 {all:Array Oper} {o:Oper} {r:List Oper} {cs:List AV} {want:Bool}:kD P n G f (.tup cs) want all o r k s=(cH n o.dst=true∧run P n G f (.ops all r :: k) (s.upd o.dst (.tup []) .none)):=by simp only [kD]
theorem aR0 {all:Array Oper} {r:List Oper} {d:Option Nat} {op:Op} {t:TypeId} {p:String} {af:Array Edge} {g:Option (Nat×Bool)} {b:Bool}:kD P n G f (.t (.v (.bool b))) b all ⟨d,op,t,p,af,g⟩ r k s=run P n G f (.ops all (⟨d,op,t,p,af,none⟩ :: r) :: k) s:=by simp [kD]
theorem aRZ {all:Array Oper} {o:Oper} {r:List Oper}:kD P n G f (.t (.v (.bool true))) false all o r k s=(cH n o.dst=true∧run P n G f (.ops all r :: k) (s.upd o.dst (.tup []) .none)):=by simp [kD]
theorem aRX {all:Array Oper} {o:Oper} {r:List Oper}:kD P n G f (.t (.v (.bool false))) true all o r k s=(cH n o.dst=true∧run P n G f (.ops all r :: k) (s.upd o.dst (.tup []) .none)):=by simp [kD]
theorem bB5 {all:Array Oper} {lo:List Nat} {pend:List Rc}:run P n G (f+1) (.opsD all lo none [] pend :: k) s=run P n G f k s:=by rw [run];rfl
theorem bB6 {all:Array Oper} {lo:List Nat} {a b:Nat} {pend:List Rc}:run P n G (f+1) (.opsD all lo (some (a,b,true)) [] pend :: k) s=run P n G f k s:=by rw [run];rfl
def qS (P:Program) (n:Nat) (G:List KI→St→Prop) (f:Nat) (b c:Bool) (v:AV) (all:Array Oper) (lo:List Nat) (sw:SW) (i:Nat) (o:Oper) (r:List (Nat×Oper)) (pend:List Rc) (k:List KI) (s:St):Prop:=
 match b with
 |true=>run P n G f (.opsD all lo sw r pend :: k) (s.upd o.dst v .none)
 |false=>c=true∧run P n G f (.opsD all lo sw r (⟨i,s.m,v,none⟩ :: pend) :: k) (s.upd o.dst v .none)
def kY (P:Program) (n:Nat) (G:List KI→St→Prop) (f:Nat) (x:Option (AV×fJ)) (all:Array Oper) (lo:List Nat) (sw:SW) (i:Nat) (o:Oper) (r:List (Nat×Oper)) (pend:List Rc) (k:List KI) (s:St):Prop:=
 match x with
 |some (v,.none)=>qS P n G f (fR all lo i) (mL all lo i) v all lo sw i o r pend k s
 |some (v,e)=>(i∈lo∧nN P all i (e.on s.σ s.nx).1 (e.on s.σ s.nx).2 pend)∧run P n G f (.opsD all lo sw r pend :: k) (s.upd o.dst v e)
 |none=>G (.opsD all lo sw ((i,o) :: r) pend :: k) s
def qR (P:Program) (n:Nat) (G:List KI→St→Prop) (f:Nat) (x:Option AV) (all:Array Oper) (lo:List Nat) (sw:SW) (i:Nat) (o:Oper) (r:List (Nat×Oper)) (pend:List Rc) (k:List KI) (s:St):Prop:=
 match x with
 |some v=>run P n G f (.opsD all lo sw r pend :: k) (s.upd o.dst v .none)
 |none=>kY P n G f (cP P s.σ s.nx (ev s.m) o.op) all lo sw i o r pend k s
def oA (P:Program) (n:Nat) (G:List KI→St→Prop) (f:Nat) (x:Option Bool) (all:Array Oper) (lo:List Nat) (sw:SW) (i:Nat) (o:Oper) (r:List (Nat×Oper)) (pend:List Rc) (k:List KI) (s:St):Prop:=
 match x with
 |some true=>qR P n G f (bW P (ev s.m) o.op) all lo sw i o r pend k s
 |some false=>run P n G f (.opsD all lo sw r pend :: k) (s.upd o.dst (.tup []) .none)
 |none=>G (.opsD all lo sw ((i,o) :: r) pend :: k) s
section
variable {all:Array Oper} {lo:List Nat} {sw:SW} {i:Nat} {o:Oper} {r:List (Nat×Oper)} {pend:List Rc}
theorem aEJ (hs:vX sw i=false):run P n G (f+1) (.opsD all lo sw ((i,o) :: r) pend :: k) s=oA P n G f (cZ all s.m o) all lo sw i o r pend k s:=by rw [run,hs];simp only [oA,qR,kY,qS];cases fR all lo i<;>rfl
theorem bB1:run P n G (f+1) (.opsD all lo none ((i,o) :: r) pend :: k) s=oA P n G f (cZ all s.m o) all lo none i o r pend k s:=aEJ rfl
theorem bB2 {a b:Nat}:run P n G (f+1) (.opsD all lo (some (a,b,true)) ((i,o) :: r) pend :: k) s=oA P n G f (cZ all s.m o) all lo (some (a,b,true)) i o r pend k s:=aEJ rfl
theorem bB3 {a b:Nat} (h:i≠a):run P n G (f+1) (.opsD all lo (some (a,b,false)) ((i,o) :: r) pend :: k) s=oA P n G f (cZ all s.m o) all lo (some (a,b,false)) i o r pend k s:=aEJ (by simpa [vX] using h)
theorem bB4 {a b:Nat}:run P n G (f+1) (.opsD all lo (some (a,b,false)) ((a,o) :: r) pend :: k) s=G (.opsD all lo (some (a,b,false)) ((a,o) :: r) pend :: k) s:=by
 have e:vX (some (a,b,false)) a=true:=by simp [vX]
 rw [run,e]
theorem aY1 (i:Nat):num i []=[]:=rfl
theorem aY0 (i:Nat) (o:Oper) (r:List Oper):num i (o :: r)=(i,o) :: num (i+1) r:=rfl
theorem aRP:oA P n G f (some true) all lo sw i o r pend k s=qR P n G f (bW P (ev s.m) o.op) all lo sw i o r pend k s:=by simp only [oA]
theorem aRO:oA P n G f (some false) all lo sw i o r pend k s=run P n G f (.opsD all lo sw r pend :: k) (s.upd o.dst (.tup []) .none):=by simp only [oA]
theorem aRI {v:AV}:qR P n G f (some v) all lo sw i o r pend k s=run P n G f (.opsD all lo sw r pend :: k) (s.upd o.dst v .none):=by simp only [qR]
theorem aRH:qR P n G f none all lo sw i o r pend k s=kY P n G f (cP P s.σ s.nx (ev s.m) o.op) all lo sw i o r pend k s:=by simp only [qR]
theorem aRM {v:AV}:kY P n G f (some (v,.none)) all lo sw i o r pend k s=qS P n G f (fR all lo i) (mL all lo i) v all lo sw i o r pend k s:=by simp only [kY]
theorem aRW {c:Bool} {v:AV}:qS P n G f true c v all lo sw i o r pend k s=run P n G f (.opsD all lo sw r pend :: k) (s.upd o.dst v .none):=by simp only [qS]
theorem aRV {v:AV}:qS P n G f false true v all lo sw i o r pend k s=run P n G f (.opsD all lo sw r (⟨i,s.m,v,none⟩ :: pend) :: k) (s.upd o.dst v .none):=by simp [qS]
theorem aRJ {v:AV} {x:aG}:kY P n G f (some (v,.new x)) all lo sw i o r pend k s=((i∈lo∧nN P all i (fJ.on (.new x) s.σ s.nx).1 (fJ.on (.new x) s.σ s.nx).2 pend)∧run P n G f (.opsD all lo sw r pend :: k) (s.upd o.dst v (.new x))):=by simp only [kY]
theorem aRN {v:AV} {q:Nat} {x:aG}:kY P n G f (some (v,.set q x)) all lo sw i o r pend k s=((i∈lo∧nN P all i (fJ.on (.set q x) s.σ s.nx).1 (fJ.on (.set q x) s.σ s.nx).2 pend)∧run P n G f (.opsD all lo sw r pend :: k) (s.upd o.dst v (.set q x))):=by simp only [kY]
theorem aRK {v:AV} {q:Nat} {x:aG}:kY P n G f (some (v,.next q x)) all lo sw i o r pend k s=((i∈lo∧nN P all i (fJ.on (.next q x) s.σ s.nx).1 (fJ.on (.next q x) s.σ s.nx).2 pend)∧run P n G f (.opsD all lo sw r pend :: k) (s.upd o.dst v (.next q x))):=by simp only [kY]
theorem aY7 {i:Nat} {σ:Nat→aG} {nx:Nat}:nN P all i σ nx []=True:=rfl
theorem aY6 {i:Nat} {σ:Nat→aG} {nx:Nat} {q:Rc} {qs:List Rc}:nN P all i σ nx (q :: qs)=(aDR P all i σ nx q∧nN P all i σ nx qs):=rfl
theorem aRL:kY P n G f none all lo sw i o r pend k s=G (.opsD all lo sw ((i,o) :: r) pend :: k) s:=by simp only [kY]
theorem bEX:fR all [] i=true:=rfl
end
theorem aRY {all:Array Oper} {o:Oper} {r:List Oper} {b want:Bool} (h1:b=want→run P n G f (.ops all ({o with guard:=none} :: r) :: k) s) (h2:b= !want→cH n o.dst=true∧run P n G f (.ops all r :: k) (s.upd o.dst (.tup []) .none)):
  kD P n G f (.t (.v (.bool b))) want all o r k s:=by simp only [kD];exact ⟨h1,h2⟩
theorem nC {all:Array Oper} {o:Oper} {r:List Oper} {p:Prop} [Decidable p] (h1:p→run P n G f (.ops all ({o with guard:=none} :: r) :: k) s) (h2:¬p→cH n o.dst=true∧run P n G f (.ops all r :: k) (s.upd o.dst (.tup []) .none)):
  kD P n G f (.t (.v (.bool (decide p)))) true all o r k s:=aRY (fun h=>h1 (of_decide_eq_true h)) (fun h=>h2 (of_decide_eq_false h))
end
attribute [go_sem] bCL bCM bCE bBY bCK bCD bBZ bCJ bBX bB8 bCA bB9 aRQ bCB aRR aU5 aU3 aU4 bB0 aRG bCI bB7 bCF bCH bB5 bB6 bB4 bB1 bB2 bB3 aY1 aY0 aRP aRO aRI aRH aRM aRJ aRN aRK aRW aRV aY7 aY6 aDR bEX cZ jS bCC aRS aRU aRT aRL aR1 aR0 aRZ aRX
end
end Go.Proofs.YtnoifgjiipgpoaaGreatDoor.R
namespace Go.Proofs.YtnoifgjiipgpoaaGreatDoor.R
open Go.RowKit
def mN (P:Program) (f:FuncId):Bool:=
 match P.funcs[f]? with
 |some fn=>!(fn.name== "runtime.NumGoroutine")&&fn.body.isSome
 |none=>false
def aT (P:Program) (f:FuncId) (args:List AV) (σ:Nat→aG) (nx:Nat) (r:AV) (σ':Nat→aG) (nx':Nat):Prop:=
 mN P f=true∧∀(C:aZ) (w:World) (vs:List Value),bC C σ w→C.nx=nx→kC w C args vs→
  Calls P f vs.toArray w fun e w'=>∃C' v,e= .returned v∧bC C' σ' w'∧C'.nx=nx'∧aN w' C' r v∧bO C σ w C' σ' w'
def bN (P:Program) (f:FuncId) (args:List AV) (σ:Nat→aG) (nx:Nat) (Q:AV→(Nat→aG)→Nat→Prop):Prop:=
 mN P f=true∧∀(C:aZ) (w:World) (vs:List Value),bC C σ w→C.nx=nx→kC w C args vs→
  Calls P f vs.toArray w fun e w'=>∃r σ' nx' C' v,Q r σ' nx'∧e= .returned v∧bC C' σ' w'∧C'.nx=nx'∧aN w' C' r v∧bO C σ w C' σ' w'
theorem bN.spec {P:Program} {f:FuncId} {args:List AV} {σ:Nat→aG} {nx:Nat} {r:AV} {σ':Nat→aG} {nx':Nat} (h:bN P f args σ nx fun a b c=>a=r∧b=σ'∧c=nx'):aT P f args σ nx r σ' nx':=by refine ⟨h.1,fun C w vs h1 h2 h3=>(h.2 C w vs h1 h2 h3).mono ?_⟩;rintro e w' ⟨_,_,_,C',v,⟨rfl,rfl,rfl⟩,g⟩;exact ⟨C',v,g⟩
theorem aT.q {P:Program} {f:FuncId} {args:List AV} {σ:Nat→aG} {nx:Nat} {r:AV} {σ':Nat→aG} {nx':Nat} (h:aT P f args σ nx r σ' nx'):bN P f args σ nx fun a b c=>a=r∧b=σ'∧c=nx':=by refine ⟨h.1,fun C w vs h1 h2 h3=>(h.2 C w vs h1 h2 h3).mono ?_⟩;rintro e w' ⟨C',v,g⟩;exact ⟨_,_,_,C',v,⟨rfl,rfl,rfl⟩,g⟩
theorem bN.mono {P:Program} {f:FuncId} {args:List AV} {σ:Nat→aG} {nx:Nat} {Q Q':AV→(Nat→aG)→Nat→Prop} (h:bN P f args σ nx Q) (hq:∀r σ' nx',Q r σ' nx'→Q' r σ' nx'):bN P f args σ nx Q':=by refine ⟨h.1,fun C w vs h1 h2 h3=>(h.2 C w vs h1 h2 h3).mono ?_⟩;rintro e w' ⟨r,σ',nx',C',v,h0,g⟩;exact ⟨r,σ',nx',C',v,hq _ _ _ h0,g⟩
def dR:Nat→aG:=fun _=>.dead
def Pure (P:Program) (f:FuncId) (args:List AV) (r:AV):Prop:=
 (∀a∈args,aE 0 a=true)∧aE 0 r=true∧aT P f args dR 0 r dR 0
section
variable {P:Program}
theorem aN.closed {w:World} {C C':aZ} (h1:C'.imm=C.imm) {x:AV} {v:Value} (h:aN w C x v) (hb:aE 0 x=true):aN w C' x v:=by
 induction h with
 |t h=>exact .t (by rw [h1];exact h)
 |agg hl _ ih=>exact .agg hl fun k a u ha hu=>ih k a u ha hu (oB (by simpa [aE] using hb) k a ha)
 |tup hl _ ih=>exact .tup hl fun k a u ha hu=>ih k a u ha hu (oB (by simpa [aE] using hb) k a ha)
 |fsl h=>exact .fsl (by rw [h1];exact h)
 |ref h hh=>simp [aE] at hb
 |ptr h ho=>simp [aE] at hb
 |rd hi hcell hr=>exact .rd (by rw [h1];exact hi) hcell (fun k c h=>by rw [h1];exact hr k c h)
 |el h ho hh=>simp [aE] at hb
 |cut h ho hh=>simp [aE] at hb
 |ifc hl hr=>exact .ifc hl fun k c u hc hu=>by rw [h1];exact hr k c u hc hu
 |mapr h ho=>simp [aE] at hb
 |yld h ho=>simp [aE] at hb
 |fn hl _ hl' _ ih ih'=>simp only [aE,Bool.and_eq_true] at hb;exact .fn hl (fun k a u ha hu=>ih k a u ha hu (oB hb.1 k a ha)) hl' (fun k a u ha hu=>ih' k a u ha hu (oB hb.2 k a ha))
 |any=>exact .any
theorem Pure.spec {f:FuncId} {args:List AV} {r:AV} (h:Pure P f args r) (σ:Nat→aG) (nx:Nat):aT P f args σ nx r σ nx:=by
 obtain ⟨ha,hr,hg,h⟩:=h;refine ⟨hg,fun C w vs hs hn hl=>?_⟩;obtain ⟨C0,hC0⟩:∃C0:aZ,C0=⟨C.imm,fun _=>none,C.hdr,0⟩:=⟨_,rfl⟩;have h0:bC C0 dR w:=by subst hC0;exact ⟨fun _ _=>rfl,fun _=>True.intro,fun _ _ _ hi=>absurd rfl hi,fun _ _ hi=>absurd rfl hi,hs.imm_lt⟩
 refine (h C0 w vs h0 (by rw [hC0]) ⟨hl.1,fun k a u hk hu=>aN.closed (C:=C) (by rw [hC0]) (hl.2 k a u hk hu) (ha a (List.mem_of_getElem? hk))⟩).mono ?_;rintro e w' ⟨C1,v,rfl,hs1,hn1,hr1,st⟩;have nomut:∀b,¬kB C0 dR b:=fun b ⟨i,hi,_⟩=>hi rfl
 have himm0:C0.imm=C.imm:=by rw [hC0]
 have himm1:∀b,C1.imm b→C.imm b∨w.heap.size≤b:=fun b hb=>by
  rcases st.imm' b hb with h | h | h
  ·rw [himm0] at h;exact .inl h
  ·exact absurd h (nomut b)
  ·exact .inr h
 have hle:gC C {C with imm:=C1.imm}:=⟨Nat.le_refl _,fun _ _=>rfl,fun _ _=>rfl⟩;have hk:eD w C.imm w' C1.imm:=⟨fun b hb=>st.imm b (by rw [himm0];exact hb),fun b hb=>st.same b (hs.imm_lt b hb) (nomut b)⟩
 refine ⟨{C with imm:=C1.imm},v,rfl,⟨hs.dead,fun i=>?_,hs.inj,fun i b hi ho hb=>?_,hs1.imm_lt⟩,hn,aN.closed (C:=C1) (C':={C with imm:=C1.imm}) rfl hr1 hr,
  ⟨hle,st.os,st.tape,st.output,st.size,fun b hb=>st.imm b (by rw [himm0];exact hb),fun b hb _=>st.same b hb (nomut b),fun b hb=>.inl hb,fun b hb=>(himm1 b hb).imp id .inr⟩⟩
 ·by_cases hi:σ i= .dead
  ·rw [hi];exact True.intro
  ·exact (hs.obj i).step hk hle (iV hs hi) (fun b ho=>st.same b (lE hs hi ho) (nomut b))
 ·rcases himm1 b hb with h | h
  ·exact hs.sep i b hi ho h
  ·exact absurd (lE hs hi ho) (by omega)
theorem kC.app {w:World} {C:aZ} {a b:List AV} {u v:List Value} (h1:kC w C a u) (h2:kC w C b v):kC w C (a++b) (u++v):=by
 refine ⟨by rw [List.length_append,List.length_append,h1.1,h2.1],fun k x y hx hy=>?_⟩;rw [List.getElem?_append] at hx hy;rw [←h1.1] at hy;split at hx
 ·rename_i hk;rw [if_pos hk] at hy;exact h1.2 k x y hx hy
 ·rename_i hk;rw [if_neg hk] at hy;exact h2.2 _ x y hx hy
def callee (a:AV) (args:List AV):Option (FuncId×List AV):=
 match a with
 | .fn (.func g) first caps=>some (g,first++args++caps)
 | .t (.v (.func (.func g) ⟨[]⟩ ⟨[]⟩))=>some (g,args)
 |_=>none
theorem aBL {w:World} {C:aZ} {x:AV} {v:Value} {args:List AV} {vs:Array Value} {g:FuncId} {l:List AV} (h:callee x args=some (g,l)) (hx:aN w C x v)
  (hl:args.length=vs.size) (hr:∀(k:Nat) (a:AV) (u:Value),args[k]? =some a→vs[k]? =some u→aN w C a u):
  ∃first caps,v= .func (.func g) first caps∧kC w C l (first++vs++caps).toList:=by
 unfold callee at h;split at h
 ·cases h;obtain ⟨vf,vc,rfl,h1,h2,h3,h4⟩:=aNL hx;refine ⟨vf,vc,rfl,?_⟩;simp only [Array.toList_append];refine ((kC.app ⟨by simpa using h1,fun k a u ha hu=>h2 k a u ha (by simpa using hu)⟩ ⟨by simpa using hl,fun k a u ha hu=>hr k a u ha (by simpa using hu)⟩).app ⟨by simpa using h3,fun k a u ha hu=>h4 k a u ha (by simpa using hu)⟩)
 ·cases h;obtain ⟨hv,_⟩:=cK hx;subst hv;exact ⟨#[],#[],rfl,by simp;omega,fun k a u ha hu=>hr k a u ha (by simpa using hu)⟩
 ·cases h
variable {B:cD} {k:List KI} {R:dZ} {s:St}
theorem aHD {o:Oper} {c:Call} {fo:Operand} (ho:o.op= .call c) (hc:c.callee= .value fo) {f:FuncId} {args:List AV} (hf:callee (ev s.m fo) (c.args.toList.map (ev s.m))=some (f,args))
  {S:AV→(Nat→aG)→Nat→Prop} (spec:bN P f args s.σ s.nx S) {a:Act} {w:World} (hd:cH B.n o.dst=true) (hr:dJ B s a w) {K:Act→World→Prop} {Q:Exit→Act→World→Prop}
  (hK:∀r σ' nx' a' w',S r σ' nx'→dJ B ⟨put s.m o.dst r,σ',nx'⟩ a' w'→K a' w'):nQ B.ro P o a w K Q:=by
 obtain ⟨C,h1,h2,h3,h4,h5,h6⟩:=hr;obtain ⟨hg,spec⟩:=spec;have hρ:=cV h2;obtain ⟨hl,hlr⟩:=pQ hρ c.args;obtain ⟨first,caps,hv,hrl⟩:=aBL hf (hρ fo) hl hlr;have hcall:=spec C w _ h5 h1 hrl
 have hrun:(execOp a.eval o).run P w= .ok (.enter f (first++c.args.map a.eval++caps)) w:=by
  unfold mN at hg;cases hfn:P.funcs[f]? with
  |none=>rw [hfn] at hg;cases hg
  |some fn=>
   rw [hfn] at hg;simp only [Bool.and_eq_true,Bool.not_eq_true'] at hg;simp only [execOp,ho,resolve,hc,Sem.run_bind,Deferred.ofValue,hv,Sem.run_pure,Result.andThen_ok,invoke,callFunc,run_program,hfn];have e1:fn.body.isNone=false:=by rw [←Option.not_isSome,hg.2];rfl
   simp [hg.1,e1]
 refine aDY hrun ?_;rw [←Array.toArray_toList (xs:=first++c.args.map a.eval++caps)];refine hcall.mono ?_;rintro e w' ⟨r,σ',nx',C',v,g0,rfl,g1,g2,g3,g4⟩;exact ⟨v,rfl,hK _ _ _ _ _ g0 ⟨C',g2,gM h5 g4 h2 (by rw [h3];exact hd) g3,by rw [fF];exact h3,by rw [gL];exact h4.step g4,g1,h6.trans g4⟩⟩
theorem aSR {o:Oper} {c:Call} {fo:Operand} (ho:o.op= .call c) (hc:c.callee= .value fo) {f:FuncId} {args:List AV} (hf:callee (ev s.m fo) (c.args.toList.map (ev s.m))=some (f,args))
  {r:AV} {σ':Nat→aG} {nx':Nat} (spec:aT P f args s.σ s.nx r σ' nx') {a:Act} {w:World} (hd:cH B.n o.dst=true) (hr:dJ B s a w) {K:Act→World→Prop} {Q:Exit→Act→World→Prop}
  (hK:∀a' w',dJ B ⟨put s.m o.dst r,σ',nx'⟩ a' w'→K a' w'):nQ B.ro P o a w K Q:=
 aHD ho hc hf spec.q hd hr fun r' σ'' nx'' a' w' ⟨e1,e2,e3⟩ h=>by subst e1 e2 e3;exact hK a' w' h
theorem dX {all:Array Oper} {o:Oper} {rest:List Oper} {c:Call} {fo:Operand} (hg:o.guard=none) (ho:o.op= .call c) (hc:c.callee= .value fo) {f:FuncId} {args:List AV}
  (hf:callee (ev s.m fo) (c.args.toList.map (ev s.m))=some (f,args)) (hd:cH B.n o.dst=true) {S:AV→(Nat→aG)→Nat→Prop} (spec:bN P f args s.σ s.nx S)
  (h:∀r σ' nx',S r σ' nx'→Kp P B (.ops all rest :: k) R .normal ⟨put s.m o.dst r,σ',nx'⟩):Kp P B (.ops all (o :: rest) :: k) R .normal s:=by
 intro a w hr;exact iO hg fun K hK=>aHD ho hc hf spec hd hr fun r σ' nx' a' w' hs hr'=>hK _ _ (h r σ' nx' hs a' w' hr')
theorem aL {all:Array Oper} {o:Oper} {rest:List Oper} {c:Call} {fo:Operand} (hg:o.guard=none) (ho:o.op= .call c) (hc:c.callee= .value fo) {f:FuncId} {args:List AV}
  (hf:callee (ev s.m fo) (c.args.toList.map (ev s.m))=some (f,args)) (hd:cH B.n o.dst=true) {r:AV} {σ':Nat→aG} {nx':Nat} (spec:aT P f args s.σ s.nx r σ' nx')
  (h:Kp P B (.ops all rest :: k) R .normal ⟨put s.m o.dst r,σ',nx'⟩):Kp P B (.ops all (o :: rest) :: k) R .normal s:=by
 intro a w hr;exact iO hg fun K hK=>aSR ho hc hf spec hd hr fun a' w' hr'=>hK _ _ (h a' w' hr')
theorem xV {all:Array Oper} {i:Nat} {o:Oper} {m:bX} {c:Call} {fo:Operand} {f:FuncId} {args:List AV} {r:AV} {σ σ':Nat→aG} {nx nx':Nat} {n:Nat} (ho':all[i]? =some o) (hl:cZ all m o=some true) (ho:o.op= .call c) (hc:c.callee= .value fo)
  (hf:callee (ev m fo) (c.args.toList.map (ev m))=some (f,args)) (spec:aT P f args σ nx r σ' nx'):cO P n all i m σ nx r σ' nx':=by
 intro C a w hn hs hsz hr ro K Q hK;obtain ⟨hg,spec⟩:=spec;have hops:∀x∈o.op.operands.toList,ev (iX (eO all i) m) x=ev m x:=jV ho'
 have hmem:∀x,x=fo∨x∈c.args.toList→x∈o.op.operands.toList:=by
  intro x hx;rw [ho];simp only [Op.operands,Call.operands,hc];rcases hx with rfl | hx
  ·simp
  ·simp;exact .inr (by simpa using hx)
 have e1:=hops fo (hmem _ (.inl rfl));have e2:c.args.toList.map (ev (iX (eO all i) m))=c.args.toList.map (ev m):=List.map_congr_left fun x hx=>hops x (hmem x (.inr hx))
 rw [←e1,←e2] at hf;have hρ:=cV hr;obtain ⟨hl',hlr⟩:=pQ hρ c.args;obtain ⟨first,caps,hv,hrl⟩:=aBL hf (hρ fo) hl' hlr;have hcall:=spec C w _ hs hn hrl
 have hrun:(execOp a.eval o).run P w= .ok (.enter f (first++c.args.map a.eval++caps)) w:=by
  unfold mN at hg;cases hfn:P.funcs[f]? with
  |none=>rw [hfn] at hg;cases hg
  |some fn=>
   rw [hfn] at hg;simp only [Bool.and_eq_true,Bool.not_eq_true'] at hg;simp only [execOp,ho,resolve,hc,Sem.run_bind,Deferred.ofValue,hv,Sem.run_pure,Result.andThen_ok,invoke,callFunc,run_program,hfn];have e1:fn.body.isNone=false:=by rw [←Option.not_isSome,hg.2];rfl
   simp [hg.1,e1]
 have hd:bS all i=o.dst:=by simp [bS,ho']
 simp only [fI,wpOpIn,ho',jG ho' hr hl,if_true];refine aDY hrun ?_;rw [←Array.toArray_toList (xs:=first++c.args.map a.eval++caps)];rw [hd] at hK;refine hcall.mono ?_;rintro e w' ⟨C',v,rfl,g1,g2,g3,g4⟩;exact ⟨v,rfl,hK _ _ C' g1 g2 g4 g3⟩
section
variable {all:Array Oper} {lo:List Nat} {sw:SW} {i:Nat} {o:Oper} {rest:List (Nat×Oper)} {pend:List Rc} {c:Call} {fo:Operand} {f:FuncId} {args:List AV} {r:AV}
theorem bQ (hl:cZ all s.m o=some true) (ho:o.op= .call c) (hc:c.callee= .value fo) (hf:callee (ev s.m fo) (c.args.toList.map (ev s.m))=some (f,args)) (spec:Pure P f args r)
  (h:Kp P B (.opsD all lo sw rest pend :: k) R .normal ⟨put s.m o.dst r,s.σ,s.nx⟩):Kp P B (.opsD all lo sw ((i,o) :: rest) pend :: k) R .normal s:=
 bZ.at fun ho'=>bZ.step (loud:=none) (xV ho' hl ho hc hf (spec.spec _ _)) (fun _=>.inl fun _ _=>xV ho' hl ho hc hf (spec.spec _ _)) (fun c hc=>by cases hc) (fun _ h=>h) h
theorem o8 {σ':Nat→aG} {nx':Nat} (hl:cZ all s.m o=some true) (ho:o.op= .call c) (hc:c.callee= .value fo) (hf:callee (ev s.m fo) (c.args.toList.map (ev s.m))=some (f,args)) (spec:aT P f args s.σ s.nx r σ' nx')
  (hi:i∈lo) (hp:∀q∈pend,anc all q.i i=true∨cO P B.n all q.i q.m σ' nx' q.v σ' nx')
  (h:Kp P B (.opsD all lo sw rest pend :: k) R .normal ⟨put s.m o.dst r,σ',nx'⟩):Kp P B (.opsD all lo sw ((i,o) :: rest) pend :: k) R .normal s:=
 bZ.at fun ho'=>bZ.step (loud:=some (σ',nx')) (xV ho' hl ho hc hf spec) (fun hc=>by cases hc) (fun c hc=>by cases hc;exact ⟨hi,hp⟩) (fun _ h=>h) h
end
def zM (P:Program) (s:St):ResultVar→Option AV
 | .tmp t=>some (s.m t)
 | .cell t ty=>match TT P ty,s.m t with
  |some i,.ptr b o=>match s.σ b with
   | .box cs=>jJ i cs o
   |_=>none
  |_,_=>none
def kK (P:Program) (s:St):List ResultVar→Option (List AV)
 |[]=>some []
 |x :: xs=>match zM P s x,kK P s xs with
  |some a,some avs=>some (a :: avs)
  |_,_=>none
def iK:List AV→AV
 |[a]=>a
 |avs=>.tup avs
def gV (σ:Nat→aG):AV→AV
 | .fsl es=>.t (.sl es)
 | .ref q=>match σ q with
  | .arr _ es=>.t (.sl es)
  |_=>.any
 | .agg cs=>.agg (frzL σ cs)
 | .tup cs=>.tup (frzL σ cs)
 |a=>a
  where
 frzL (σ:Nat→aG):List AV→List AV
 |[]=>[]
 |c :: cs=>gV σ c :: frzL σ cs
structure j9 (n0:Nat) (s:St) (r0:AV) (σ':Nat→aG) (nx':Nat) (r:AV):Prop where
 obj:∀i,σ' i= .dead∨(σ' i=s.σ i∧(nx'=s.nx∨(dG nx' (σ' i)=true∧i<nx')))
 nx:nx'≤s.nx
 base:n0≤nx'
 res:(r=r0∨((∀i,σ' i= .dead)∧r=gV s.σ r0))∧(nx'=s.nx∨aE nx' r=true)
theorem aCE {σ:Nat→aG}:∀{cs:List AV} {k:Nat} {a:AV},(gV.frzL σ cs)[k]? =some a→∃b,cs[k]? =some b∧a=gV σ b
 |[],k,a,h=>by simp [gV.frzL] at h
 |c :: cs,k,a,h=>by
  cases k with
  |zero=>simp [gV.frzL] at h;exact ⟨c,rfl,h.symm⟩
  |succ k=>simp only [gV.frzL,List.getElem?_cons_succ] at h;obtain ⟨b,h1,h2⟩:=aCE h;exact ⟨b,by simpa using h1,h2⟩
theorem aCF {σ:Nat→aG}:∀(cs:List AV),(gV.frzL σ cs).length=cs.length
 |[]=>rfl
 |c :: cs=>by simp only [gV.frzL,List.length_cons,aCF cs]
theorem aVC {w:World} {C C':aZ} {σ:Nat→aG} (hs:bC C σ w) (hi:∀b,C'.imm b↔(C.imm b∨kB C σ b)) (ho:C'.own=C.own) (hh:C'.hdr=C.hdr) (hn:C'.nx=C.nx) {x:AV} {v:Value} (h:aN w C x v):aN w C' (gV σ x) v:=by
 have hk:eD w C.imm w C'.imm:=⟨fun b hb=>(hi b).2 (.inl hb),fun _ _=>rfl⟩;have hc:gC C C':=⟨by rw [hn];exact Nat.le_refl _,fun _ _=>by rw [ho],fun _ _=>by rw [hh]⟩
 induction h with
 |t h=>exact (aN.t h).keeps hk hc
 |agg hl _ ih=>
  simp only [gV];refine .agg (by rw [aCF];exact hl) fun k a u ha hu=>?_
  obtain ⟨b,h1,rfl⟩:=aCE ha;exact ih k b u h1 hu
 |tup hl _ ih=>
  simp only [gV];refine .tup (by rw [aCF];exact hl) fun k a u ha hu=>?_
  obtain ⟨b,h1,rfl⟩:=aCE ha;exact ih k b u h1 hu
 |fsl h=>exact .t (h.keeps hk)
 |@ref q n c a h1 h2=>
  simp only [gV];split
  ·rename_i sz es hσ;have hob:=hs.obj q;rw [hσ] at hob;obtain ⟨e1,e2,e3⟩:=uI hob h2;subst e1;refine .t ?_;rcases Nat.eq_zero_or_pos es.length with h0 | h0
   ·have:es=[]:=List.eq_nil_of_length_eq_zero h0;subst this;exact .nil
   ·obtain ⟨ad,rfl,hcell⟩:=e3.2 h0
    have hown:C.own q=some ad.block:=by
     obtain ⟨_,⟨e0,_⟩ | ⟨bl,cap,vs,E,lo,hi',ho1,ho2,_⟩⟩:=hob
     ·subst e0;simp at h0
     ·rw [h2] at ho2;cases ho2;exact ho1
    have hx:∀m,m<es.length*sz→∃u,w.cell? (ad.add m)=some u:=by intro m hm;obtain ⟨e,he,_,hmod,e1⟩:=rC e3.1 hm;have hel:=e3.1 e (List.mem_of_getElem? he);obtain ⟨u,g1,_⟩:=hcell (m / sz) (m % sz) e _ he (List.getElem?_eq_getElem (by omega));rw [←e1] at g1;exact ⟨u,g1⟩
    refine .sl (u:=fun m=>(w.cell? (ad.add m)).getD undef) h0 e3.1 e2 ((hi _).2 (.inr ⟨q,by rw [hσ];exact (fun h=>by cases h),hown⟩)) (fun m hm=>?_) (fun j m e ct he hct=>?_)
    ·obtain ⟨u,hu⟩:=hx m hm;rw [hu];rfl
    ·obtain ⟨u,g1,g2⟩:=hcell j m e ct he hct;show bT w C'.imm ct ((w.cell? (ad.add (j*sz+m))).getD undef);rw [g1];exact g2.keeps hk
  ·exact .any
 |ptr h1 h2=>exact (aN.ptr h1 h2).keeps hk hc
 |rd h1 h2 h3=>exact (aN.rd h1 h2 h3).keeps hk hc
 |el h1 h2 h3=>exact (aN.el h1 h2 h3).keeps hk hc
 |cut h1 h2 h3=>exact (aN.cut h1 h2 h3).keeps hk hc
 |ifc h1 h2=>exact (aN.ifc h1 h2).keeps hk hc
 |mapr h1 h2=>exact (aN.mapr h1 h2).keeps hk hc
 |yld h1 h2=>exact (aN.yld h1 h2).keeps hk hc
 |fn h1 h2 h3 h4 _ _=>exact (aN.fn h1 h2 h3 h4).keeps hk hc
 |any=>exact .any
theorem bBJ {w:World} {C:aZ} {a:Act} (hs:bC C s.σ w) (h2:∀t,aN w C (s.m t) (a.tmps.getD t undef)):∀{xs:List ResultVar} {avs:List AV},kK P s xs=some avs→
  ∃vs,(xs.mapM fun (x:ResultVar)=>(match x with | .tmp t=>pure (a.tmps.getD t undef) | .cell t ty=>do loadVar ty (←asAddr (a.tmps.getD t undef)):Sem Value)).run P w= .ok vs w∧kC w C avs vs:=by
 intro xs
 induction xs with
 |nil=>intro avs h;simp only [kK] at h;cases h;exact ⟨[],rfl,rfl,fun k a u h=>by simp at h⟩
 |cons x xs ih=>
  intro avs h;simp only [kK] at h;split at h
  ·rename_i r rs hr hrs;cases h;obtain ⟨vs,g1,g2⟩:=ih hrs
   have hx:∃u,(match x with | .tmp t=>pure (a.tmps.getD t undef) | .cell t ty=>do loadVar ty (←asAddr (a.tmps.getD t undef)):Sem Value).run P w= .ok u w∧aN w C r u:=by
    cases x with
    |tmp t=>simp only [zM] at hr;cases hr;exact ⟨_,rfl,h2 t⟩
    |cell t ty=>
     simp only [zM] at hr;split at hr
     ·rename_i i b o hi hm;have hp:=h2 t;rw [hm] at hp;obtain ⟨bl,hv,e1,e2⟩:=qA hp;split at hr
      ·rename_i cs hσ;obtain ⟨vs',E,h3,h4,h5⟩:=aDK hs hσ e2
       obtain ⟨u,h6,h7⟩:=yT hi (a:=⟨bl,o,none⟩) (fun k x hk=>by
        have hlt:o+k<vs'.size:=by have:=(List.getElem?_eq_some_iff.1 hk).1;omega
        refine ⟨vs'[o+k],?_,h5 _ _ _ hk (Array.getElem?_eq_getElem hlt)⟩
        rw [pD,sE h3,Array.getElem?_eq_getElem hlt]) hr
       exact ⟨u,by simp only [hv,asAddr,Sem.run_bind,Sem.run_pure,Result.andThen_ok,h6],h7⟩
      ·cases hr
     ·cases hr
   obtain ⟨u,hu,hru⟩:=hx;refine ⟨u :: vs,?_,by simp [g2.1],fun k y z hy hz=>?_⟩
   ·rw [List.mapM_cons];simp only [Sem.run_bind,hu,Result.andThen_ok,g1,Sem.run_pure]
   ·cases k with
    |zero=>simp at hy hz;subst hy;subst hz;exact hru
    |succ k=>exact g2.2 k y z (by simpa using hy) (by simpa using hz)
  ·cases h
def mB (args:List AV):bX:=fun i=>args.getD i (.tup [])
def iP (P:Program) (res:List ResultVar) (n0:Nat) (r:AV) (σ':Nat→aG) (nx':Nat):dZ:=fun e s=>
 match e with
 | .ret | .normal=>∃rs,kK P s res=some rs∧j9 n0 s (iK rs) σ' nx' r
 |_=>False
theorem aLA {C:aZ} {σ:Nat→aG} {n0:Nat}:∀(ds:List Deferred) (w:World),jN n0 C σ w ds→∃w2,(∀F n fn tmps R,LeavesIn F n P fn tmps R [] .returning w2→LeavesInM F n P fn tmps R ds .returning w)∧
  w2.os=w.os∧w2.tape=w.tape∧w2.output=w.output∧w2.heap.size=w.heap.size∧∀b,C.imm b∨kB C σ b∨b<n0→w2.heap[b]? =w.heap[b]?
 |[],w,_=>⟨w,fun _ _ _ _ _ h=>h,rfl,rfl,rfl,rfl,fun _ _=>rfl⟩
 |d :: ds,w,h=>by
  obtain ⟨r,h1,h2,h3,h4,h5⟩:=h.all d List.mem_cons_self
  have hm:jN n0 C σ (w.putObj r (.deferred none)) ds:=by
   refine ⟨fun e he=>?_,(List.pairwise_cons.1 h.nodup).2⟩;obtain ⟨q,g1,g2,g3,g4,g5⟩:=h.all e (List.mem_cons_of_mem _ he);have hne:q≠r:=fun e'=>(List.pairwise_cons.1 h.nodup).1 e he (by rw [h1,g1,e'])
   exact ⟨q,g1,g2,by rw [World.putObj_heap_other hne];exact g3,g4,g5⟩
  obtain ⟨w2,k1,k2,k3,k4,k5,k6⟩:=aLA ds _ hm;refine ⟨w2,fun F n fn tmps R hl=>?_,k2,k3,k4,by rw [k5,World.putObj_size],fun b hb=>?_⟩
  ·exact ⟨by simp,.inl ⟨r,_,h1,run_takeDeferred h3,k1 F n fn tmps R hl⟩⟩
  ·rw [k6 b hb,World.putObj_heap_other];rintro rfl;rcases hb with e | e | e
   ·exact h4 e
   ·exact h5 e
   ·omega
theorem bBD {a:Act} {w:World} (hr:dJ B s a w):∃w2,(∀F n fn tmps R,LeavesIn F n P fn tmps R [] .returning w2→LeavesInM F n P fn tmps R a.defers .returning w)∧dJ B s {a with defers:=[]} w2:=by
 obtain ⟨C,h1,h2,h3,h4,h5,h6⟩:=hr;obtain ⟨w2,k1,k2,k3,k4,k5,k6⟩:=aLA (P:=P) a.defers w h4;have hk:eD w C.imm w2 C.imm:=⟨fun _ h=>h,fun b hb=>k6 b (.inl hb)⟩;have hc:gC C C:=⟨Nat.le_refl _,fun _ _=>rfl,fun _ _=>rfl⟩
 refine ⟨w2,k1,C,h1,fun t=>(h2 t).keeps hk hc,h3,jN.nil,⟨h5.dead,fun i=>?_,h5.inj,h5.sep,fun b hb=>by rw [k5];exact h5.imm_lt b hb⟩,
  ⟨h6.le,k2.trans h6.os,k3.trans h6.tape,k4.trans h6.output,by rw [k5];exact h6.size,h6.imm,fun b hb hm=>(k6 b (.inr (.inr hb))).trans (h6.same b hb hm),h6.wr,h6.imm'⟩⟩
 by_cases hi:s.σ i= .dead
 ·rw [hi];exact True.intro
 ·exact (h5.obj i).step hk hc (iV h5 hi) fun b ho=>k6 b (.inr (.inl ⟨i,hi,ho⟩))
theorem aOM {f:FuncId} {fn:Func} {c:Code} (hf:P.funcs[f]? =some fn) (hb:fn.body=some c) (hname:(fn.name== "runtime.NumGoroutine")=false) {args:List AV} {σ:Nat→aG} {nx:Nat} {S:AV→(Nat→aG)→Nat→Prop}
  (hn:args.length≤fn.ntmps) (h:∀B:cD,B.n=fn.ntmps→B.C.nx=nx→B.σ=σ→B.ro=none→Kp P B [.code c] (fun e s=>∃r σ' nx',S r σ' nx'∧iP P fn.results.toList nx r σ' nx' e s) .normal ⟨mB args,σ,nx⟩):bN P f args σ nx S:=by
 refine ⟨by simp [mN,hf,hb,hname],fun C w vs hs hnx hl=>?_⟩;refine (aBM (ro:=none) (n:=0)).1 (callsIn_of_wp_marks hf hb trivial ?_)
 have hrel:dJ ⟨C,σ,w,fn.ntmps,none⟩ ⟨mB args,σ,nx⟩ {tmps:=vs.toArray++Array.replicate (fn.ntmps-vs.toArray.size) undef,defers:=[]} w:=by
  refine ⟨C,hnx,fun t=>?_,by simp;have:=hl.1;omega,jN.nil,hs,bO.refl _ _ _⟩;simp only [mB,Array.getD_eq_getD_getElem?,List.getD_eq_getElem?_getD];have hlen:=hl.1;by_cases ht:t<vs.length
  ·rw [Array.getElem?_append_left (by simpa using ht)];have h1:args[t]? =some args[t]:=List.getElem?_eq_getElem (by omega);have h2:vs.toArray[t]? =some vs[t]:=by simp [ht]
   rw [h1,h2];exact hl.2 t _ _ h1 (List.getElem?_eq_getElem ht)
  ·rw [List.getElem?_eq_none (by omega)]
   have:((vs.toArray++Array.replicate (fn.ntmps-vs.toArray.size) undef)[t]?).getD undef=undef:=by
    rw [Array.getElem?_append_right (by simp;omega)];cases hx:(Array.replicate (fn.ntmps-vs.toArray.size) undef)[t-vs.toArray.size]? with
    |none=>rfl
    |some u=>
     rw [Array.getElem?_replicate] at hx;split at hx
     ·cases hx;rfl
     ·cases hx
   rw [this];exact .tup rfl (fun k a u h=>by simp at h)
 refine fU (ro:=none) (h ⟨C,σ,w,fn.ntmps,none⟩ rfl hnx rfl rfl _ _ hrel) fun e a' w' hp=>?_
 obtain ⟨s',⟨r,σ',nx',hS,hd⟩,hr0⟩:=hp;obtain ⟨w2,hlv,hr'⟩:=bBD (P:=P) hr0
 have fin0:(∃rs,kK P s' fn.results.toList=some rs∧j9 nx s' (iK rs) σ' nx' r)→∃v,(results fn a'.tmps).run P w2= .ok v w2∧∃C' v',Ending.returned v= .returned v'∧bC C' σ' w2∧C'.nx=nx'∧aN w2 C' r v'∧bO C σ w C' σ' w2:=by
  rintro ⟨rs,hrs,he⟩;obtain ⟨C1,h1,h2,h3,h4,h5,h6⟩:=hr';obtain ⟨us,g1,g2⟩:=bBJ (P:=P) h5 h2 hrs
  have hv:∃v,(results fn a'.tmps).run P w2= .ok v w2∧aN w2 C1 (iK rs) v:=by
   have hm:(fn.results.mapM fun (x:ResultVar)=>(match x with | .tmp t=>pure (a'.tmps.getD t undef) | .cell t ty=>do loadVar ty (←asAddr (a'.tmps.getD t undef)):Sem Value)).run P w2= .ok us.toArray w2:=by rw [Array.mapM_eq_mapM_toList,Sem.run_map,g1];rfl
   refine ⟨if h:us.toArray.size=1 then us.toArray[0] else .tuple us.toArray,?_,?_⟩
   ·unfold results;rw [Sem.run_bind];refine Eq.trans (congrArg (fun z=>Result.andThen z _) hm) ?_;rfl
   ·obtain ⟨gl,gr⟩:=g2
    match rs,us,gl with
    |[],[],_=>exact .tup rfl (fun k a u h=>by simp at h)
    |[a],[u],_=>simpa [iK] using gr 0 a u rfl rfl
    |a :: b :: r,u :: v :: l,hl2=>rw [dif_neg (by simp)];exact .tup (by simpa using hl2) fun k a u ha hu=>gr k a u ha (by simpa using hu)
  obtain ⟨v,hv1,hv2⟩:=hv;refine ⟨v,hv1,?_⟩
  have live:∀i,σ' i≠ .dead→s'.σ i≠ .dead∧σ' i=s'.σ i∧dG nx' (σ' i)=true∧i<nx':=fun i hi=>by
   rcases he.obj i with e | ⟨e1,e2⟩
   ·exact absurd e hi
   ·have hi':s'.σ i≠ .dead:=by rw [←e1];exact hi
    rcases e2 with e2 | ⟨e2,e3⟩
    ·exact ⟨hi',e1,by rw [e2,←h1,e1];exact (h5.obj i).bnded,by rw [e2,←h1];exact iV h5 hi'⟩
    ·exact ⟨hi',e1,e2,e3⟩
  obtain ⟨hres,hbr⟩:=he.res;rcases hres with hres | ⟨hdead,hres⟩
  ·subst hres
   have hbr:aE nx' (iK rs)=true:=by
    rcases hbr with e | e
    ·rw [e,←h1];exact hv2.bnded
    ·exact e
   refine ⟨{C1 with nx:=nx'},v,rfl,⟨fun i hi=>?_,fun i=>?_,fun i j b hi hj=>h5.inj i j b (live i hi).1 (live j hj).1,fun i b hi=>h5.sep i b (live i hi).1,h5.imm_lt⟩,rfl,aN.less (C:=C1) (C':={C1 with nx:=nx'}) rfl rfl rfl hv2 hbr,
    ⟨⟨by show C.nx≤nx';rw [hnx];exact he.base,fun i hi=>h6.le.own i hi,fun i hi=>h6.le.hdr i hi⟩,h6.os,h6.tape,h6.output,h6.size,h6.imm,h6.same,fun b ⟨i,hi,hb⟩=>h6.wr b ⟨i,(live i hi).1,hb⟩,h6.imm'⟩⟩
   ·by_cases hd:σ' i= .dead
    ·exact hd
    ·have:=(live i hd).2.2.2;exact absurd hi (by simp;omega)
   ·by_cases hi:σ' i= .dead
    ·rw [hi];exact True.intro
    ·obtain ⟨e1,e2,e3,e4⟩:=live i hi;have:=h5.obj i;rw [←e2] at this;exact gR.less (C:=C1) (C':={C1 with nx:=nx'}) rfl rfl rfl this e3
  ·obtain ⟨C2,hC2⟩:∃C2:aZ,C2={C1 with imm:=fun b=>C1.imm b∨kB C1 s'.σ b}:=⟨_,rfl⟩;have hfr:=aVC h5 (C':=C2) (fun b=>by rw [hC2]) (by rw [hC2]) (by rw [hC2]) (by rw [hC2]) hv2;rw [←hres] at hfr
   have hbr:aE nx' r=true:=by
    rcases hbr with e | e
    ·rw [e,←h1];have:=hfr.bnded;rw [hC2] at this;exact this
    ·exact e
   have hi2:∀b,C2.imm b↔(C1.imm b∨kB C1 s'.σ b):=fun b=>by rw [hC2]
   refine ⟨{C2 with nx:=nx'},v,rfl,⟨fun i _=>hdead i,fun i=>by rw [hdead i];exact True.intro,fun i j b hi=>absurd (hdead i) hi,fun i b hi=>absurd (hdead i) hi,fun b hb=>?_⟩,rfl,aN.less (C:=C2) (C':={C2 with nx:=nx'}) rfl rfl rfl hfr hbr,
    ⟨⟨by show C.nx≤nx';rw [hnx];exact he.base,fun i hi=>by subst hC2;exact h6.le.own i hi,fun i hi=>by subst hC2;exact h6.le.hdr i hi⟩,h6.os,h6.tape,h6.output,h6.size,fun b hb=>(hi2 b).2 (.inl (h6.imm b hb)),h6.same,fun b ⟨i,hi,_⟩=>absurd (hdead i) hi,fun b hb=>?_⟩⟩
   ·rcases (hi2 b).1 hb with h | ⟨i,hi,ho⟩
    ·exact h5.imm_lt b h
    ·exact lE h5 hi ho
   ·rcases (hi2 b).1 hb with h | h
    ·exact h6.imm' b h
    ·rcases h6.wr b h with h | h
     ·exact .inr (.inl h)
     ·exact .inr (.inr h)
 have fin:(∃rs,kK P s' fn.results.toList=some rs∧j9 nx s' (iK rs) σ' nx' r)→∃v,(results fn a'.tmps).run P w2= .ok v w2∧∃r σ' nx' C' v',S r σ' nx'∧Ending.returned v= .returned v'∧bC C' σ' w2∧C'.nx=nx'∧aN w2 C' r v'∧bO C σ w C' σ' w2:=fun h=>by obtain ⟨v,h2,C',v',h3⟩:=fin0 h;exact ⟨v,h2,r,σ',nx',C',v',hS,h3⟩
 cases e with
 |ret=>exact hlv _ _ _ _ _ (fin hd)
 |normal=>exact hlv _ _ _ _ _ (fin hd)
 |_=>exact hd.elim
theorem aOL {f:FuncId} {fn:Func} {c:Code} (hf:P.funcs[f]? =some fn) (hb:fn.body=some c) (hname:(fn.name== "runtime.NumGoroutine")=false) {args:List AV} {σ:Nat→aG} {nx:Nat} {S:AV→(Nat→aG)→Nat→Prop}
  (hn:args.length≤fn.ntmps) (h:∀B:cD,B.n=fn.ntmps→B.C.nx=nx→B.σ=σ→Kp P B [.code c] (fun e s=>∃r σ' nx',S r σ' nx'∧iP P fn.results.toList nx r σ' nx' e s) .normal ⟨mB args,σ,nx⟩):bN P f args σ nx S:=
 aOM hf hb hname hn fun B h1 h2 h3 _=>h B h1 h2 h3
theorem bDR {f:FuncId} {fn:Func} {c:Code} (hf:P.funcs[f]? =some fn) (hb:fn.body=some c) (hname:(fn.name== "runtime.NumGoroutine")=false) {args:List AV} {σ:Nat→aG} {nx:Nat} {r:AV} {σ':Nat→aG} {nx':Nat}
  (hn:args.length≤fn.ntmps) (h:∀B:cD,B.n=fn.ntmps→B.C.nx=nx→B.σ=σ→B.ro=none→Kp P B [.code c] (iP P fn.results.toList nx r σ' nx') .normal ⟨mB args,σ,nx⟩):aT P f args σ nx r σ' nx':=by
 refine (aOM hf hb hname hn fun B h1 h2 h3 h4=>?_).spec;exact fun a w hrel=>fU (h B h1 h2 h3 h4 a w hrel) (aD6 fun e s hp=>⟨r,σ',nx',⟨rfl,rfl,rfl⟩,hp⟩)
theorem vS {f:FuncId} {fn:Func} {c:Code} (hf:P.funcs[f]? =some fn) (hb:fn.body=some c) (hname:(fn.name== "runtime.NumGoroutine")=false) {args:List AV} {σ:Nat→aG} {nx:Nat} {r:AV} {σ':Nat→aG} {nx':Nat}
  (hn:args.length≤fn.ntmps) (h:∀B:cD,B.n=fn.ntmps→B.C.nx=nx→B.σ=σ→Kp P B [.code c] (iP P fn.results.toList nx r σ' nx') .normal ⟨mB args,σ,nx⟩):aT P f args σ nx r σ' nx':=by
 refine (aOL hf hb hname hn fun B h1 h2 h3=>?_).spec;exact fun a w hrel=>fU (h B h1 h2 h3 a w hrel) (aD6 fun e s hp=>⟨r,σ',nx',⟨rfl,rfl,rfl⟩,hp⟩)
end
end Go.Proofs.YtnoifgjiipgpoaaGreatDoor.R
