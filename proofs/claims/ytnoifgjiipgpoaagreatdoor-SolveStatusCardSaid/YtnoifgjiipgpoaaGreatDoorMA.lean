/- Parts of the proof: R1, R2, R3, R4, R5, R6, R7, R8, R9. -/
import Derived.Below
import Derived.Calls
import Derived.Scope
import Derived.ScopeJumps
import Derived.Orders
import Derived.Laws.Cells
import Derived.Laws.BytesArg
set_option linter.all false
set_option maxHeartbeats 4000000
namespace Go.Proofs.YtnoifgjiipgpoaaGreatDoor.R
open Go.RowKit
inductive T where
 |v (x:Value)
 |sl (es:List (List T))
 deriving Inhabited
def plainV:Value→Bool
 | .bool _ | .int _ _ | .float _ _ | .complex _ _ _ | .string _ | .nilFunc | .nilIface | .pointer none | .map none=>true
 | .func (.func _) a b=>a.isEmpty&&b.isEmpty
 |_=>false
inductive AV where
 |t (x:T)
 |agg (cs:List AV)
 |tup (cs:List AV)
 |fsl (es:List (List T))
 |ref (q:Nat)
 |ptr (b off:Nat)
 |rd (cs:List T)
 |el (q off:Nat)
 |cut (q sz lo hi:Nat)
 |mapr (m:Nat)
 |ifc (t:TypeId) (cs:List T)
 |yld (q:Nat)
 |fn (f:Fn) (first caps:List AV)
 |any
 deriving Inhabited
inductive AObj where
 |dead
 |box (cs:List AV)
 |arr (sz:Nat) (es:List (List T))
 |map (es:List (Value×AV))
 |iter (s:ByteArray) (k:Nat)
 |loop (st:LoopState) (n:Nat) (m:Nat→AV) (ps:Array Tmp) (avs bd:Code)
 deriving Inhabited
structure Ctx where
 imm:Nat→Prop
 own:Nat→Option Nat
 hdr:Nat→Value
 nx:Nat
theorem add_block (a:Addr) (k:Nat):(a.add k).block=a.block:=by unfold Addr.add;split<;>rfl
theorem add_add (a:Addr) (i j:Nat):(a.add i).add j=a.add (i+j):=by
 unfold Addr.add
 by_cases h1:i=0<;>by_cases h2:j=0<;>simp [h1,h2,Nat.add_assoc]
theorem add_zero' (a:Addr):a.add 0=a:=by simp [Addr.add]
theorem add_base (b k:Nat):(⟨b,0,none⟩:Addr).add k=⟨b,k,none⟩:=by
 unfold Addr.add;split<;>simp_all
theorem cell_congr {w w':World} {a:Addr} (h:w'.heap[a.block]? =w.heap[a.block]?):w'.cell? a=w.cell? a:=by
 simp [World.cell?,h]
inductive RepT (w:World) (imm:Nat→Prop):T→Value→Prop
 |v {x:Value}:plainV x=true→RepT w imm (.v x) x
 |nil {a:Option Addr} {c:Nat}:RepT w imm (.sl []) (.slice a 0 c)
 |sl {es:List (List T)} {ad:Addr} {cap sz:Nat} {u:Nat→Value}:0<es.length→(∀e∈es,e.length=sz)→es.length≤cap→imm ad.block→
   (∀k,k<es.length*sz→w.cell? (ad.add k)=some (u k))→
   (∀(j k:Nat) (e:List T) (c:T),es[j]? =some e→e[k]? =some c→RepT w imm c (u (j*sz+k)))→
   RepT w imm (.sl es) (.slice (some ad) es.length cap)
structure Keeps (w:World) (imm:Nat→Prop) (w':World) (imm':Nat→Prop):Prop where
 sub:∀b,imm b→imm' b
 same:∀b,imm b→w'.heap[b]? =w.heap[b]?
theorem RepT.keeps {w w':World} {imm imm':Nat→Prop} (hk:Keeps w imm w' imm') {x:T} {v:Value} (h:RepT w imm x v):RepT w' imm' x v:=by
 induction h with
 |v h=>exact .v h
 |nil=>exact .nil
 |sl h0 hsz hc hi hcell _ ih=>
  exact .sl h0 hsz hc (hk.sub _ hi) (fun k hkk=>(cell_congr (by rw [add_block];exact hk.same _ hi)).trans (hcell k hkk)) ih
inductive RepA (w:World) (C:Ctx):AV→Value→Prop
 |t {x:T} {v:Value}:RepT w C.imm x v→RepA w C (.t x) v
 |agg {cs:List AV} {vs:Array Value}:cs.length=vs.size→(∀(k:Nat) (a:AV) (u:Value),cs[k]? =some a→vs[k]? =some u→RepA w C a u)→RepA w C (.agg cs) (.agg vs)
 |tup {cs:List AV} {vs:Array Value}:cs.length=vs.size→(∀(k:Nat) (a:AV) (u:Value),cs[k]? =some a→vs[k]? =some u→RepA w C a u)→RepA w C (.tup cs) (.tuple vs)
 |fsl {es:List (List T)} {a:Option Addr}:RepT w C.imm (.sl es) (.slice a es.length es.length)→RepA w C (.fsl es) (.slice a es.length es.length)
 |ref {q n c:Nat} {a:Option Addr}:q<C.nx→C.hdr q= .slice a n c→RepA w C (.ref q) (.slice a n c)
 |ptr {b off bl:Nat}:b<C.nx→C.own b=some bl→RepA w C (.ptr b off) (.pointer (some ⟨bl,off,none⟩))
 |rd {cs:List T} {ad:Addr} {u:Nat→Value}:C.imm ad.block→(∀k,k<cs.length→w.cell? (ad.add k)=some (u k))→
   (∀(k:Nat) (c:T),cs[k]? =some c→RepT w C.imm c (u k))→RepA w C (.rd cs) (.pointer (some ad))
 |el {q off bl n cap:Nat}:q<C.nx→C.own q=some bl→C.hdr q= .slice (some ⟨bl,0,none⟩) n cap→RepA w C (.el q off) (.pointer (some ⟨bl,off,none⟩))
 |cut {q sz lo hi bl n cap:Nat}:q<C.nx→C.own q=some bl→C.hdr q= .slice (some ⟨bl,0,none⟩) n cap→RepA w C (.cut q sz lo hi) (.slice (some ⟨bl,lo*sz,none⟩) (hi-lo) (cap-lo))
 |ifc {t:TypeId} {cs:List T} {vs:Array Value}:cs.length=vs.size→(∀(k:Nat) (c:T) (u:Value),cs[k]? =some c→vs[k]? =some u→RepT w C.imm c u)→RepA w C (.ifc t cs) (.iface t (.agg vs))
 |mapr {m bl:Nat}:m<C.nx→C.own m=some bl→RepA w C (.mapr m) (.map (some bl))
 |yld {q bl:Nat}:q<C.nx→C.own q=some bl→RepA w C (.yld q) (.func (.yield bl) #[] #[])
 |fn {f:Fn} {first caps:List AV} {vf vc:Array Value}:first.length=vf.size→(∀(k:Nat) (a:AV) (u:Value),first[k]? =some a→vf[k]? =some u→RepA w C a u)→
   caps.length=vc.size→(∀(k:Nat) (a:AV) (u:Value),caps[k]? =some a→vc[k]? =some u→RepA w C a u)→RepA w C (.fn f first caps) (.func f vf vc)
 |any {v:Value}:RepA w C .any v
structure CtxLe (C C':Ctx):Prop where
 nx:C.nx≤C'.nx
 own:∀i,i<C.nx→C'.own i=C.own i
 hdr:∀i,i<C.nx→C'.hdr i=C.hdr i
theorem RepA.keeps {w w':World} {C C':Ctx} (hk:Keeps w C.imm w' C'.imm) (hc:CtxLe C C') {x:AV} {v:Value} (h:RepA w C x v):RepA w' C' x v:=by
 induction h with
 |t h=>exact .t (h.keeps hk)
 |agg hl _ ih=>exact .agg hl ih
 |tup hl _ ih=>exact .tup hl ih
 |fsl h=>exact .fsl (h.keeps hk)
 |ref h hh=>exact .ref (Nat.lt_of_lt_of_le h hc.nx) ((hc.hdr _ h).trans hh)
 |ptr h ho=>exact .ptr (Nat.lt_of_lt_of_le h hc.nx) ((hc.own _ h).trans ho)
 |rd hi hcell hr=>exact .rd (hk.sub _ hi) (fun k hkk=>(cell_congr (by rw [add_block];exact hk.same _ hi)).trans (hcell k hkk)) (fun k c h=>(hr k c h).keeps hk)
 |el h ho hh=>exact .el (Nat.lt_of_lt_of_le h hc.nx) ((hc.own _ h).trans ho) ((hc.hdr _ h).trans hh)
 |cut h ho hh=>exact .cut (Nat.lt_of_lt_of_le h hc.nx) ((hc.own _ h).trans ho) ((hc.hdr _ h).trans hh)
 |ifc hl hr=>exact .ifc hl fun k c u hc hu=>(hr k c u hc hu).keeps hk
 |mapr h ho=>exact .mapr (Nat.lt_of_lt_of_le h hc.nx) ((hc.own _ h).trans ho)
 |yld h ho=>exact .yld (Nat.lt_of_lt_of_le h hc.nx) ((hc.own _ h).trans ho)
 |fn hl _ hl' _ ih ih'=>exact .fn hl ih hl' ih'
 |any=>exact .any
def RepL (w:World) (C:Ctx) (avs:List AV) (vs:List Value):Prop:=
 avs.length=vs.length∧∀(k:Nat) (a:AV) (u:Value),avs[k]? =some a→vs[k]? =some u→RepA w C a u
def RepO (w:World) (C:Ctx) (i:Nat):AObj→Prop
 | .dead=>True
 | .box cs=>∃bl vs E,C.own i=some bl∧w.heap[bl]? =some (.cells vs E (0,0))∧cs.length=vs.size∧∀(k:Nat) (a:AV) (u:Value),cs[k]? =some a→vs[k]? =some u→RepA w C a u
 | .arr sz es=>(∀e∈es,e.length=sz)∧
   ((es=[]∧C.own i=none∧∃a,C.hdr i= .slice a 0 0)∨
    ∃bl cap vs E lo hi,C.own i=some bl∧C.hdr i= .slice (some ⟨bl,0,none⟩) es.length cap∧es.length≤cap∧w.heap[bl]? =some (.cells vs E (lo,hi))∧vs.size=cap*sz∧(lo=hi∨cap*sz≤lo)∧
       ∀(j k:Nat) (e:List T) (c:T) (u:Value),es[j]? =some e→e[k]? =some c→vs[j*sz+k]? =some u→RepT w C.imm c u)
 | .map es=>∃bl ms clock,C.own i=some bl∧w.heap[bl]? =some (.map ms clock)∧es.length=ms.size∧
   ∀(k:Nat) (a:Value×AV) (u:MapEntry),es[k]? =some a→ms[k]? =some u→u.key=a.1∧RepA w C a.2 u.val
 | .iter s k=>∃bl,C.own i=some bl∧w.heap[bl]? =some (.stringIter s k)
 | .loop st n m ps avs bd=>∃bl r,C.own i=some bl∧w.heap[bl]? =some (.loop r)∧r.state=st∧r.pending=none∧r.tmps.size=n∧r.params=ps∧r.assign=avs∧r.body=bd∧∀t,t<n→RepA w C (m t) (r.tmps.getD t undef)
structure Sim (C:Ctx) (σ:Nat→AObj) (w:World):Prop where
 dead:∀i,C.nx≤i→σ i= .dead
 obj:∀i,RepO w C i (σ i)
 inj:∀i j b,σ i≠ .dead→σ j≠ .dead→C.own i=some b→C.own j=some b→i=j
 sep:∀i b,σ i≠ .dead→C.own i=some b→¬C.imm b
 imm_lt:∀b,C.imm b→b<w.heap.size
def Mut (C:Ctx) (σ:Nat→AObj) (b:Nat):Prop:=∃i,σ i≠ .dead∧C.own i=some b
structure Step (C:Ctx) (σ:Nat→AObj) (w:World) (C':Ctx) (σ':Nat→AObj) (w':World):Prop where
 le:CtxLe C C'
 os:w'.os=w.os
 tape:w'.tape=w.tape
 output:w'.output=w.output
 size:w.heap.size≤w'.heap.size
 imm:∀b,C.imm b→C'.imm b
 same:∀b,b<w.heap.size→¬Mut C σ b→w'.heap[b]? =w.heap[b]?
 wr:∀b,Mut C' σ' b→Mut C σ b∨w.heap.size≤b
 imm':∀b,C'.imm b→C.imm b∨Mut C σ b∨w.heap.size≤b
theorem Step.refl (C:Ctx) (σ:Nat→AObj) (w:World):Step C σ w C σ w:=
 ⟨⟨Nat.le_refl _,fun _ _=>rfl,fun _ _=>rfl⟩,rfl,rfl,rfl,Nat.le_refl _,fun _ h=>h,fun _ _ _=>rfl,fun _ h=>.inl h,fun _ h=>.inl h⟩
theorem Step.trans {C C1 C2:Ctx} {σ σ1 σ2:Nat→AObj} {w w1 w2:World} (h:Step C σ w C1 σ1 w1) (k:Step C1 σ1 w1 C2 σ2 w2):Step C σ w C2 σ2 w2 where
 le:=⟨Nat.le_trans h.le.nx k.le.nx,fun i hi=>(k.le.own i (Nat.lt_of_lt_of_le hi h.le.nx)).trans (h.le.own i hi),fun i hi=>(k.le.hdr i (Nat.lt_of_lt_of_le hi h.le.nx)).trans (h.le.hdr i hi)⟩
 os:=k.os.trans h.os
 tape:=k.tape.trans h.tape
 output:=k.output.trans h.output
 size:=Nat.le_trans h.size k.size
 imm:=fun b hb=>k.imm b (h.imm b hb)
 same:=fun b hb hm=>by
  refine (k.same b (Nat.lt_of_lt_of_le hb h.size) fun hm'=>?_).trans (h.same b hb hm)
  rcases h.wr b hm' with h1 | h1
  ·exact hm h1
  ·omega
 wr:=fun b hb=>by
  rcases k.wr b hb with h1 | h1
  ·exact h.wr b h1
  ·exact .inr (Nat.le_trans h.size h1)
 imm':=fun b hb=>by
  rcases k.imm' b hb with h1 | h1 | h1
  ·exact h.imm' b h1
  ·rcases h.wr b h1 with h2 | h2
   ·exact .inr (.inl h2)
   ·exact .inr (.inr h2)
  ·exact .inr (.inr (Nat.le_trans h.size h1))
theorem Step.keeps {C C':Ctx} {σ σ':Nat→AObj} {w w':World} (hs:Sim C σ w) (h:Step C σ w C' σ' w'):Keeps w C.imm w' C'.imm:=
 ⟨h.imm,fun b hb=>h.same b (hs.imm_lt b hb) fun ⟨i,hi,ho⟩=>hs.sep i b hi ho hb⟩
theorem RepA.step {C C':Ctx} {σ σ':Nat→AObj} {w w':World} (hs:Sim C σ w) (h:Step C σ w C' σ' w') {x:AV} {v:Value} (r:RepA w C x v):RepA w' C' x v:=
 r.keeps (h.keeps hs) h.le
theorem Step.below {C C':Ctx} {σ σ':Nat→AObj} {w w':World} (h:Step C σ w C' σ' w') (hm:∀i,σ i= .dead):Below w.heap.size w w':=
 ⟨h.os,h.tape,h.output,h.size,fun b hb=>h.same b hb fun ⟨i,hi,_⟩=>hi (hm i)⟩
theorem RepO.step {C C':Ctx} {w w':World} {i:Nat} {o:AObj} (hk:Keeps w C.imm w' C'.imm) (hc:CtxLe C C') (hi:i<C.nx) (hb:∀b,C.own i=some b→w'.heap[b]? =w.heap[b]?)
  (h:RepO w C i o):RepO w' C' i o:=by
 cases o with
 |dead=>exact True.intro
 |box cs=>
  obtain ⟨bl,vs,E,ho,hh,hl,hr⟩:=h
  exact ⟨bl,vs,E,(hc.own i hi).trans ho,(hb bl ho).trans hh,hl,fun k a u ha hu=>(hr k a u ha hu).keeps hk hc⟩
 |arr sz es=>
  obtain ⟨hsz,h⟩:=h
  refine ⟨hsz,?_⟩
  rcases h with ⟨h0,ho,a,hh⟩ | ⟨bl,cap,vs,E,lo,hi',ho,hh,hcap,hblk,hvs,hfr,hr⟩
  ·exact .inl ⟨h0,(hc.own i hi).trans ho,a,(hc.hdr i hi).trans hh⟩
  ·exact .inr ⟨bl,cap,vs,E,lo,hi',(hc.own i hi).trans ho,(hc.hdr i hi).trans hh,hcap,(hb bl ho).trans hblk,hvs,hfr,fun j k e c u he hc' hu=>(hr j k e c u he hc' hu).keeps hk⟩
 |map es=>
  obtain ⟨bl,ms,clock,ho,hh,hl,hr⟩:=h
  exact ⟨bl,ms,clock,(hc.own i hi).trans ho,(hb bl ho).trans hh,hl,fun k a u ha hu=>⟨(hr k a u ha hu).1,(hr k a u ha hu).2.keeps hk hc⟩⟩
 |iter s k=>
  obtain ⟨bl,ho,hh⟩:=h
  exact ⟨bl,(hc.own i hi).trans ho,(hb bl ho).trans hh⟩
 |loop st n m ps avs bd=>
  obtain ⟨bl,r,ho,hh,e1,e2,e3,e4,e5,e6,e7⟩:=h
  exact ⟨bl,r,(hc.own i hi).trans ho,(hb bl ho).trans hh,e1,e2,e3,e4,e5,e6,fun t ht=>(e7 t ht).keeps hk hc⟩
end Go.Proofs.YtnoifgjiipgpoaaGreatDoor.R

namespace Go.Proofs.YtnoifgjiipgpoaaGreatDoor.R
structure TI where
 desc:TypeDesc
 size:Nat
 bytes:Nat
 zero:Value
def TT (P:Program) (t:TypeId):Option TI:=
 match P.underlying t,P.info? t with
 |some d,some i=>match i.zero with
  |some z=>if z.cells.size=i.size then some ⟨d,i.size,i.bytes,z⟩ else none
  |none=>none
 |_,_=>none
def TI.isAgg (i:TI):Bool:=match i.desc with | .struct _ | .array _ _=>true | _=>false
def ofLeaf (v:Value):AV:=
 match v with
 | .slice none 0 0=>.fsl []
 | .func (.func f) ⟨[]⟩ ⟨[]⟩=>.fn (.func f) [] []
 |v=>if plainV v then .t (.v v) else .any
def ofConst (v:Value):AV:=
 match v with
 | .agg cs=>.agg (cs.toList.map ofLeaf)
 | .tuple ⟨[]⟩=>.tup []
 |v=>ofLeaf v
abbrev Slots:=Nat→AV
def put (s:Slots) (d:Option Nat) (v:AV):Slots:=
 match d with
 |some d=>fun i=>if i=d then v else s i
 |none=>s
def ev (s:Slots):Operand→AV
 | .tmp t=>s t
 | .const v=>ofConst v
 | .global _=>.any
 | .func f=>.fn (.func f) [] []
def cellsOf:AV→Option (List AV)
 | .agg cs=>some cs
 | .any | .tup _=>none
 |x=>some [x]
def leaf:AV→Bool
 | .agg _ | .any | .tup _=>false
 |_=>true
def toT:AV→Option T
 | .t x=>some x
 | .fsl es=>some (.sl es)
 | .fn (.func f) [] []=>some (.v (.func (.func f) #[] #[]))
 |_=>none
def toTs:List AV→Option (List T)
 |[]=>some []
 |a :: avs=>match toT a,toTs avs with
  |some x,some xs=>some (x :: xs)
  |_,_=>none
def setCells {α:Type} (cs:List α) (off:Nat):List α→List α
 |[]=>cs
 |x :: xs=>setCells (cs.set off x) (off+1) xs
def partA (i:TI) (cs:List AV) (off:Nat):Option AV:=
 if i.isAgg then (if off+i.size≤cs.length then some (.agg ((cs.drop off).take i.size)) else none)
 else cs[off]?
def partT (i:TI) (cs:List T) (off:Nat):Option AV:=
 if i.isAgg then (if off+i.size≤cs.length then some (.agg (((cs.drop off).take i.size).map .t)) else none)
 else (cs[off]?).map .t
def band (k:IntKind) (a b:Int):Int:=k.wrap (BitVec.ofInt k.bits a&&&BitVec.ofInt k.bits b).toNat
def bor (k:IntKind) (a b:Int):Int:=k.wrap (BitVec.ofInt k.bits a|||BitVec.ofInt k.bits b).toNat
def bxor (k:IntKind) (a b:Int):Int:=k.wrap (BitVec.ofInt k.bits a ^^^ BitVec.ofInt k.bits b).toNat
def bandn (k:IntKind) (a b:Int):Int:=k.wrap (BitVec.ofInt k.bits a&&&~~~ BitVec.ofInt k.bits b).toNat
def binV (op:BinOp) (x y:Value):Option Value:=
 match x,y with
 | .int k a,.int k' b=>
  match op with
  | .shl=>if b<0 then none else some (.int k (k.wrap (a*2^(min b.toNat k.bits))))
  | .shr=>if b<0 then none else some (.int k (a.fdiv (2^(min b.toNat k.bits))))
  |_=>if k≠k' then none else
   match op with
   | .add=>some (.int k (k.wrap (a+b)))
   | .sub=>some (.int k (k.wrap (a-b)))
   | .mul=>some (.int k (k.wrap (a*b)))
   | .quo=>if b=0 then none else some (.int k (k.wrap (a.tdiv b)))
   | .rem=>if b=0 then none else some (.int k (a.tmod b))
   | .and=>some (.int k (band k a b))
   | .or=>some (.int k (bor k a b))
   | .xor=>some (.int k (bxor k a b))
   | .andNot=>some (.int k (bandn k a b))
   | .eql=>some (.bool (a==b))
   | .neq=>some (.bool (a != b))
   | .lss=>some (.bool (decide (a<b)))
   | .leq=>some (.bool (decide (a≤b)))
   | .gtr=>some (.bool (decide (a>b)))
   | .geq=>some (.bool (decide (a≥b)))
   |_=>none
 | .bool a,.bool b=>
  match op with
  | .eql=>some (.bool (a==b))
  | .neq=>some (.bool (!(a==b)))
  |_=>none
 | .string a,.string b=>
  match op with
  | .eql=>some (.bool (a.toList==b.toList))
  | .neq=>some (.bool (!(a.toList==b.toList)))
  |_=>none
 |_,_=>none
def unV (op:UnOp) (x:Value):Option Value:=
 match op,x with
 | .neg,.int k n=>some (.int k (k.wrap (0-n)))
 | .not,.bool b=>some (.bool !b)
 |_,_=>none
def pickA (b:Bool) (x y:AV):AV:=
 match x,y with
 | .t (.v (.bool p)),.t (.v (.bool q))=>.t (.v (.bool (if b then p else q)))
 |x,y=>if b then x else y
def idx (n:Int) (len:Nat):Option Nat:=if 0≤n∧n<len then some n.toNat else none
def asInt:AV→Option Int
 | .t (.v (.int _ n))=>some n
 |_=>none
def elemRd (es:List (List T)) (sz:Nat) (n:Int):Option AV:=
 match idx n es.length with
 |some j=>match es[j]? with
  |some e=>if e.length=sz then some (.rd e) else none
  |none=>none
 |none=>none
def bound (x:Option AV) (dflt:Nat) (most:Nat):Option Nat:=
 match x with
 |none=>some dflt
 |some a=>match asInt a with
  |some n=>if 0≤n∧n≤most then some n.toNat else none
  |none=>none
def cutT (full:Bool) (es:List (List T)) (lo hi mx:Option AV):Option AV:=
 match mx with
 |some m=>match bound (some m) 0 es.length,hi with
  |some m,some h=>match bound (some h) 0 m with
   |some h=>match bound lo 0 h with
    |some l=>if h=m then some (.fsl ((es.take h).drop l)) else some (.t (.sl ((es.take h).drop l)))
    |none=>none
   |none=>none
  |_,_=>none
 |none=>match hi with
  |some h=>match bound (some h) 0 es.length with
   |some h=>match bound lo 0 h with
    |some l=>some (.t (.sl ((es.take h).drop l)))
    |none=>none
   |none=>none
  |none=>match bound lo 0 es.length with
   |some l=>if full then some (.fsl (es.drop l)) else some (.t (.sl (es.drop l)))
   |none=>none
def placesA (P:Program):List Field→Option (List (Nat×Nat))
 |[]=>some []
 |f :: r=>match TT P f.type,placesA P r with
  |some i,some l=>some ((f.offset,i.size) :: l)
  |_,_=>none
def fillA (place:Nat→Option (Nat×Nat)) (cs:List AV):List (Nat×AV)→Option (List AV)
 |[]=>some cs
 |(i,a) :: r=>match place i with
  |some (off,size)=>match cellsOf a with
   |some c=>if c.length=size∧off+size≤cs.length then fillA place (setCells cs off c) r else none
   |none=>none
  |none=>none
def fillT (sz:Nat) (es:List (List T)):List (Nat×AV)→Option (List (List T))
 |[]=>some es
 |(i,a) :: r=>match (cellsOf a).bind toTs with
  |some c=>if c.length=sz∧i<es.length then fillT sz (es.set i c) r else none
  |none=>none
def zeroA (i:TI):List AV:=i.zero.cells.toList.map ofLeaf
def minI (f:Int→Int→Bool) (k:IntKind) (x:Int):List AV→Option Int
 |[]=>some x
 | .t (.v (.int _ y)) :: r=>minI f k (if f y x then y else x) r
 |_=>none
def bytesT (s:ByteArray):List (List T):=s.data.toList.map fun b=>[.v (.int .u8 b.toNat)]
def unbytes:List (List T)→Option (List UInt8)
 |[]=>some []
 |[.v (.int .u8 n)] :: r=>(unbytes r).map fun l=>UInt8.ofNat n.toNat :: l
 |_=>none
def evalB (P:Program) (ρ:Operand→AV) (f:Callee) (args:List Operand) (tys:List TypeId):Option AV:=
 match f with
 | .builtin .len=>match args,tys with
  |[x],[t]=>match TT P t,ρ x with
   |some ⟨.string,_,_,_⟩,.t (.v (.string s))=>some (.t (.v (.int .i64 s.size)))
   |some ⟨.slice _,_,_,_⟩,.t (.sl es)=>some (.t (.v (.int .i64 es.length)))
   |some ⟨.slice _,_,_,_⟩,.fsl es=>some (.t (.v (.int .i64 es.length)))
   |some ⟨.array n _,_,_,_⟩,_=>some (.t (.v (.int .i64 n)))
   |_,_=>none
  |_,_=>none
 | .builtin .max=>match args.map ρ with
  | .t (.v (.int k n)) :: r=>(minI (fun y x=>decide (y>x)) k n r).map fun m=>.t (.v (.int k m))
  |_=>none
 | .builtin .min=>match args.map ρ with
  | .t (.v (.int k n)) :: r=>(minI (fun y x=>decide (y<x)) k n r).map fun m=>.t (.v (.int k m))
  |_=>none
 |_=>none
def nilPtr (t:Option TI) (op:BinOp):Option AV:=
 match t,op with
 |some ⟨.pointer _,_,_,_⟩,.eql=>some (.t (.v (.bool false)))
 |some ⟨.pointer _,_,_,_⟩,.neq=>some (.t (.v (.bool true)))
 |_,_=>none
def evalP (P:Program) (ρ:Operand→AV):Op→Option AV
 | .move x | .assign x=>some (ρ x)
 | .pick c a b=>match ρ c with
  | .t (.v (.bool c))=>some (pickA c (ρ a) (ρ b))
  |_=>none
 | .nilCheck x=>match ρ x with
  | .ptr b o=>some (.ptr b o)
  | .rd cs=>some (.rd cs)
  | .el q o=>some (.el q o)
  | .fn (.func f) a b=>some (.fn (.func f) a b)
  |_=>none
 | .binOp op t x y _=>match ρ x,ρ y with
  | .t (.v (.bool a)),.t (.v (.bool b))=>match TT P t with
   |some ⟨.bool,_,_,_⟩=>(binV op (.bool a) (.bool b)).map fun v=>.t (.v v)
   |_=>none
  | .t (.v (.int k a)),.t (.v (.int k' b))=>(binV op (.int k a) (.int k' b)).map fun v=>.t (.v v)
  | .t (.v (.string a)),.t (.v (.string b))=>(binV op (.string a) (.string b)).map fun v=>.t (.v v)
  | .ptr _ _,.t (.v (.pointer none))=>nilPtr (TT P t) op
  |_,_=>none
 | .unOp op _ x=>match ρ x with
  | .t (.v a)=>(unV op a).map fun v=>.t (.v v)
  |_=>none
 | .convert s d x=>match TT P s,TT P d,ρ x with
  |some _,some ⟨.int k,_,_,_⟩,.t (.v (.int _ n))=>some (.t (.v (.int k (k.wrap n))))
  |some ⟨.slice e,_,_,_⟩,some ⟨.string,_,_,_⟩,.t (.sl es)=>match TT P e with
   |some ⟨.int .u8,_,_,_⟩=>(unbytes es).map fun l=>.t (.v (.string ⟨l.toArray⟩))
   |_=>none
  |some ⟨.slice e,_,_,_⟩,some ⟨.string,_,_,_⟩,.fsl es=>match TT P e with
   |some ⟨.int .u8,_,_,_⟩=>(unbytes es).map fun l=>.t (.v (.string ⟨l.toArray⟩))
   |_=>none
  |some ⟨.string,_,_,_⟩,some ⟨.slice e,_,_,_⟩,.t (.v (.string s))=>match TT P e with
   |some ⟨.int .u8,_,_,_⟩=>some (.t (.sl (bytesT s)))
   |_=>none
  |_,_,_=>none
 | .makeFunc fn first caps=>some (.fn fn (first.toList.map ρ) (caps.toList.map ρ))
 | .fieldAddr s x f=>match TT P s with
  |some ⟨.struct fs,_,_,_⟩=>match fs[f]? with
   |some f=>match TT P f.type with
    |some i=>if i.size=0 then none else match ρ x with
     | .ptr b o=>some (.ptr b (o+f.offset))
     | .rd cs=>some (.rd (cs.drop f.offset))
     | .el q o=>some (.el q (o+f.offset))
     |_=>none
    |none=>none
   |none=>none
  |_=>none
 | .field s x f=>match TT P s,ρ x with
  |some ⟨.struct fs,_,_,_⟩,.agg cs=>match fs[f]? with
   |some f=>match TT P f.type with
    |some i=>partA i cs f.offset
    |none=>none
   |none=>none
  |_,_=>none
 | .extract x i=>match ρ x with
  | .tup cs=>cs[i]?
  |_=>none
 | .indexAddr t x ix=>match TT P t,asInt (ρ ix) with
  |some ⟨.slice e,_,_,_⟩,some n=>match TT P e,ρ x with
   |some i,.t (.sl es)=>elemRd es i.size n
   |some i,.fsl es=>elemRd es i.size n
   |_,_=>none
  |some ⟨.array len e,_,_,_⟩,some n=>match TT P e,idx n len,ρ x with
   |some i,some j,.ptr b o=>some (.ptr b (o+j*i.size))
   |some i,some j,.rd cs=>some (.rd (cs.drop (j*i.size)))
   |_,_,_=>none
  |_,_=>none
 | .index t x ix=>match TT P t,asInt (ρ ix),ρ x with
  |some ⟨.array len e,_,_,_⟩,some n,.agg cs=>match TT P e,idx n len with
   |some i,some j=>partA i cs (j*i.size)
   |_,_=>none
  |some ⟨.string,_,_,_⟩,some n,.t (.v (.string s))=>match idx n s.size with
   |some j=>match s[j]? with
    |some b=>some (.t (.v (.int .u8 b.toNat)))
    |none=>none
   |none=>none
  |_,_,_=>none
 | .slice t x lo hi mx=>match TT P t,ρ x with
  |some ⟨.slice e,_,_,_⟩,.t (.sl es)=>match TT P e with
   |some j=>if ∀x∈es,x.length=j.size then cutT false es (lo.map ρ) (hi.map ρ) (mx.map ρ) else none
   |none=>none
  |some ⟨.slice e,_,_,_⟩,.fsl es=>match TT P e with
   |some j=>if ∀x∈es,x.length=j.size then cutT true es (lo.map ρ) (hi.map ρ) (mx.map ρ) else none
   |none=>none
  |some ⟨.string,_,_,_⟩,.t (.v (.string s))=>if mx.isSome then none else
   match bound (hi.map ρ) s.size s.size with
   |some h=>match bound (lo.map ρ) 0 h with
    |some l=>some (.t (.v (.string (s.extract l h))))
    |none=>none
   |none=>none
  |_,_=>none
 | .build t parts=>match TT P t with
  |some ⟨.struct fs,sz,by_,z⟩=>match placesA P fs.toList with
   |some l=>(fillA (l[·]?) (zeroA ⟨.struct fs,sz,by_,z⟩) (parts.toList.map fun p=>(p.1,ρ p.2))).map .agg
   |none=>none
  |some ⟨.array n e,sz,by_,z⟩=>match TT P e with
   |some i=>(fillA (fun j=>some (j*i.size,i.size)) (zeroA ⟨.array n e,sz,by_,z⟩) (parts.toList.map fun p=>(p.1,ρ p.2))).map .agg
   |none=>none
  |_=>none
 | .buildSlice t len parts=>match TT P t with
  |some ⟨.slice e,_,_,_⟩=>match TT P e with
   |some i=>if len*i.size>2^24 then none else match toTs (zeroA i) with
    |some z=>(fillT i.size (List.replicate len z) (parts.toList.map fun p=>(p.1,ρ p.2))).map .fsl
    |none=>none
   |none=>none
  |_=>none
 | .call c=>evalB P ρ c.callee c.args.toList c.argTypes.toList
 |_=>none
inductive Eff where
 |none
 |new (o:AObj)
 |set (i:Nat) (o:AObj)
 |next (i:Nat) (o:AObj)
structure St where
 m:Slots
 σ:Nat→AObj
 nx:Nat
def oput (σ:Nat→AObj) (j:Nat) (o:AObj):Nat→AObj:=fun i=>if i=j then o else σ i
def Eff.on (e:Eff) (σ:Nat→AObj) (nx:Nat):(Nat→AObj)×Nat:=
 match e with
 | .none=>(σ,nx)
 | .new o=>(oput σ nx o,nx+1)
 | .set j o=>(oput σ j o,nx)
 | .next j o=>(oput (oput σ j .dead) nx o,nx+1)
def St.upd (s:St) (d:Option Nat) (v:AV) (e:Eff):St:=⟨put s.m d v,(e.on s.σ s.nx).1,(e.on s.σ s.nx).2⟩
def slicesT (σ:Nat→AObj):AV→Option (List (List T))
 | .t (.sl es)=>some es
 | .fsl es=>some es
 | .ref q=>match σ q with
  | .arr _ es=>some es
  |_=>none
 |_=>none
def mostLen:Nat:=4294967296
def srcA (σ:Nat→AObj) (d:TypeDesc) (a:AV):Option (List (List T)):=
 match d with
 | .slice _=>slicesT σ a
 | .string=>match a with
  | .t (.v (.string s))=>some (bytesT s)
  |_=>none
 |_=>none
def appA (σ:Nat→AObj) (nx sz:Nat) (ys:List (List T)) (s:AV):Option (AV×Eff):=
 match s with
 | .fsl es=>if (es=[]∨ys≠[])∧es.length+ys.length≤mostLen∧(∀y∈es,y.length=sz)∧(∀y∈ys,y.length=sz) then some (.ref nx,.new (.arr sz (es++ys))) else none
 | .ref q=>match σ q with
  | .arr sz' es=>if sz'=sz∧es.length+ys.length≤mostLen∧(∀y∈ys,y.length=sz) then some (.ref nx,.next q (.arr sz' (es++ys))) else none
  |_=>none
 |_=>none
def evalC (P:Program) (σ:Nat→AObj) (nx:Nat) (ρ:Operand→AV) (f:Callee) (args:List Operand) (tys:List TypeId):Option (AV×Eff):=
 match f with
 | .builtin .len=>match args,tys with
  |[x],[t]=>match TT P t,ρ x with
   |some ⟨.slice _,_,_,_⟩,.ref q=>match σ q with
    | .arr _ es=>some (.t (.v (.int .i64 es.length)),.none)
    |_=>none
   |_,_=>none
  |_,_=>none
 | .builtin .append=>match args,tys with
  |[s,x],[t,t']=>match TT P t,TT P t' with
   |some ⟨.slice e,_,_,_⟩,some ⟨d,_,_,_⟩=>match TT P e,srcA σ d (ρ x) with
    |some i,some ys=>if i.bytes≤1024∧0<i.size then appA σ nx i.size ys (ρ s) else none
    |_,_=>none
   |_,_=>none
  |_,_=>none
 |_=>none
def evalS (P:Program) (σ:Nat→AObj) (nx:Nat) (ρ:Operand→AV):Op→Option (AV×Eff)
 | .alloc t=>match TT P t with
  |some i=>some (.ptr nx 0,.new (.box (zeroA i)))
  |none=>none
 | .box _ x=>match cellsOf (ρ x) with
  |some cs=>some (.ptr nx 0,.new (.box cs))
  |none=>none
 | .load t a=>match TT P t,ρ a with
  |some i,.ptr b o=>match σ b with
   | .box cs=>(partA i cs o).map fun v=>(v,.none)
   |_=>none
  |some i,.rd cs=>(partT i cs 0).map fun v=>(v,.none)
  |some i,.el q o=>match σ q with
   | .arr sz es=>match es[o / sz]? with
    |some e=>if o % sz+i.size≤e.length then (partT i e (o % sz)).map fun v=>(v,.none) else none
    |none=>none
   |_=>none
  |_,_=>none
 | .store t a x=>match TT P t,ρ a with
  |some i,.ptr b o=>match σ b with
   | .box cs=>match cellsOf (ρ x) with
    |some c=>if c.length=i.size∧c.all leaf∧o+i.size≤cs.length then some (.tup [],.set b (.box (setCells cs o c))) else none
    |none=>none
   |_=>none
  |some i,.el q o=>match σ q,(cellsOf (ρ x)).bind toTs with
   | .arr sz es,some c=>match es[o / sz]? with
    |some e=>if c.length=i.size∧o % sz+i.size≤e.length then some (.tup [],.set q (.arr sz (es.set (o / sz) (setCells e (o % sz) c)))) else none
    |none=>none
   |_,_=>none
  |_,_=>none
 | .indexAddr t x ix=>match TT P t,asInt (ρ ix),ρ x with
  |some ⟨.slice e,_,_,_⟩,some n,.ref q=>match TT P e,σ q with
   |some i,.arr sz es=>if i.size=sz then (idx n es.length).map fun j=>(.el q (j*sz),.none) else none
   |_,_=>none
  |_,_,_=>none
 | .range t x=>match TT P t,ρ x with
  |some ⟨.string,_,_,_⟩,.t (.v (.string s))=>some (.ptr nx 0,.new (.iter s 0))
  |_,_=>none
 | .next x true=>match ρ x with
  | .ptr b 0=>match σ b with
   | .iter s k=>if k<s.size then some (.tup [.t (.v (.bool true)),.t (.v (.int .i64 k)),.t (.v (.int .i32 (Utf8.decode s k).1))],.set b (.iter s (k+(Utf8.decode s k).2))) else some (.tup [.t (.v (.bool false))],.none)
   |_=>none
  |_=>none
 | .makeMap _ none=>some (.mapr nx,.new (.map []))
 | .makeSlice t l c=>match TT P t,asInt (ρ l),asInt (ρ c) with
  |some ⟨.slice e,_,_,_⟩,some n,some m=>match TT P e with
   |some i=>match toTs (zeroA i) with
    |some z=>if 0≤n∧n=m∧n≤mostLen∧i.bytes≤1024 then some (.ref nx,.new (.arr i.size (List.replicate n.toNat z))) else none
    |none=>none
   |none=>none
  |_,_,_=>none
 | .call c=>evalC P σ nx ρ c.callee c.args.toList c.argTypes.toList
 |_=>none
end Go.Proofs.YtnoifgjiipgpoaaGreatDoor.R

namespace Go.Proofs.YtnoifgjiipgpoaaGreatDoor.R
open Go.RowKit
section
variable {P:Program} {w:World} {C:Ctx}
theorem tt_some {t:TypeId} {i:TI} (h:TT P t=some i):P.underlying t=some i.desc∧∃j,P.info? t=some j∧j.size=i.size∧j.bytes=i.bytes∧j.zero=some i.zero:=by
 unfold TT at h
 split at h
 ·rename_i d j hd hj
  split at h
  ·rename_i z hz
   split at h<;>cases h
   exact ⟨hd,j,hj,rfl,rfl,hz⟩
  ·cases h
 ·cases h
theorem tt_zero {t:TypeId} {i:TI} (h:TT P t=some i):i.zero.cells.size=i.size:=by
 unfold TT at h
 split at h
 ·split at h
  ·split at h<;>cases h
   assumption
  ·cases h
 ·cases h
theorem run_und {t:TypeId} {i:TI} (h:TT P t=some i) (w:World):(underlying t).run P w= .ok i.desc w:=by
 simp [underlying,(tt_some h).1]
theorem run_info {t:TypeId} {i:TI} (h:TT P t=some i) (w:World):∃j,(typeInfo t).run P w= .ok j w∧j.size=i.size∧j.bytes=i.bytes∧j.zero=some i.zero:=by
 obtain ⟨_,j,hj,h1,h2,h3⟩:=tt_some h
 exact ⟨j,by simp [typeInfo,hj],h1,h2,h3⟩
theorem run_size {t:TypeId} {i:TI} (h:TT P t=some i) (w:World):(sizeOf t).run P w= .ok i.size w:=by
 obtain ⟨j,hj,h1,_⟩:=run_info h w
 simp [sizeOf,hj,h1]
theorem run_zero {t:TypeId} {i:TI} (h:TT P t=some i) (w:World):(zeroValue t).run P w= .ok i.zero w:=by
 obtain ⟨j,hj,_,_,h1⟩:=run_info h w
 simp [zeroValue,hj,h1]
theorem run_isAgg {t:TypeId} {i:TI} (h:TT P t=some i) (w:World):(isAgg t).run P w= .ok i.isAgg w:=by
 simp only [isAgg,Sem.run_bind,run_und h w,Result.andThen_ok]
 unfold TI.isAgg
 cases i.desc<;>rfl
theorem rep_v {x:Value} {v:Value} (h:RepA w C (.t (.v x)) v):v=x∧plainV x=true:=by
 cases h with
 |t h=>cases h with
  |v h=>exact ⟨rfl,h⟩
theorem rep_sl {es:List (List T)} {v:Value} (h:RepA w C (.t (.sl es)) v):∃a c,v= .slice a es.length c∧es.length≤c∧RepT w C.imm (.sl es) v:=by
 cases h with
 |t h=>cases h with
  |nil=>exact ⟨_,_,rfl,Nat.zero_le _,.nil⟩
  |sl h0 h1 h2 h3 h4 h5=>exact ⟨_,_,rfl,h2,.sl h0 h1 h2 h3 h4 h5⟩
theorem rep_fsl {es:List (List T)} {v:Value} (h:RepA w C (.fsl es) v):∃a,v= .slice a es.length es.length∧RepT w C.imm (.sl es) v:=by
 cases h with
 |fsl h=>exact ⟨_,rfl,h⟩
theorem rep_agg {cs:List AV} {v:Value} (h:RepA w C (.agg cs) v):∃vs,v= .agg vs∧cs.length=vs.size∧∀(k:Nat) (a:AV) (u:Value),cs[k]? =some a→vs[k]? =some u→RepA w C a u:=by
 cases h with
 |agg h1 h2=>exact ⟨_,rfl,h1,h2⟩
theorem rep_tup {cs:List AV} {v:Value} (h:RepA w C (.tup cs) v):∃vs,v= .tuple vs∧cs.length=vs.size∧∀(k:Nat) (a:AV) (u:Value),cs[k]? =some a→vs[k]? =some u→RepA w C a u:=by
 cases h with
 |tup h1 h2=>exact ⟨_,rfl,h1,h2⟩
theorem plain_cells {x:Value} (h:plainV x=true):x.cells= #[x]∧x.oneCell'=true:=by
 cases x<;>first | exact ⟨rfl,rfl⟩ | simp [plainV] at h
theorem rep_leaf {a:AV} {v:Value} (h:RepA w C a v) (hl:leaf a=true):v.cells= #[v]∧v.oneCell'=true:=by
 cases h with
 |t h=>cases h with
  |v h=>exact plain_cells h
  |nil=>exact ⟨rfl,rfl⟩
  |sl=>exact ⟨rfl,rfl⟩
 |agg=>simp [leaf] at hl
 |tup=>simp [leaf] at hl
 |any=>simp [leaf] at hl
 |_=>exact ⟨rfl,rfl⟩
theorem const_rep (v:Value):RepA w C (ofConst v) v:=by
 have hleaf:∀v,RepA w C (ofLeaf v) v:=by
  intro v
  unfold ofLeaf
  split
  ·exact .fsl (es:=[]) .nil
  ·exact .fn rfl (fun k a u h=>by simp at h) rfl (fun k a u h=>by simp at h)
  ·split
   ·rename_i h
    exact .t (.v h)
   ·exact .any
 unfold ofConst
 split
 ·rename_i cs
  refine .agg (by simp) fun k a u ha hu=>?_
  simp only [List.getElem?_map,Array.getElem?_toList,hu,Option.map_some] at ha
  cases ha
  exact hleaf u
 ·exact .tup rfl (fun k a u h=>by simp at h)
 ·exact hleaf _
theorem pick_rep {b:Bool} {x y:AV} {u v:Value} (hx:RepA w C x u) (hy:RepA w C y v):RepA w C (pickA b x y) (if b then u else v):=by
 unfold pickA
 split
 ·obtain ⟨rfl,_⟩:=rep_v hx
  obtain ⟨rfl,_⟩:=rep_v hy
  cases b<;>exact .t (.v rfl)
 ·cases b<;>assumption
theorem part_rep {t:TypeId} {i:TI} (h:TT P t=some i) {cs:List AV} {vs:Array Value} (hl:cs.length=vs.size) (hr:∀(k:Nat) (a:AV) (u:Value),cs[k]? =some a→vs[k]? =some u→RepA w C a u)
  {off:Nat} {a:AV} (hp:partA i cs off=some a):∃u,(part t vs off).run P w= .ok u w∧RepA w C a u:=by
 unfold partA at hp
 simp only [part,Sem.run_bind,run_isAgg h,Result.andThen_ok]
 split at hp
 ·rename_i ha
  split at hp
  ·rename_i hle
   cases hp
   refine ⟨.agg (vs.extract off (off+i.size)),by simp [ha,run_size h],.agg (by simp;omega) fun k a u h1 h2=>?_⟩
   simp only [List.getElem?_take,List.getElem?_drop] at h1
   split at h1
   ·rw [Array.getElem?_extract] at h2
    split at h2
    ·exact hr _ _ _ h1 h2
    ·cases h2
   ·cases h1
  ·cases hp
 ·rename_i ha
  have hk:off<vs.size:=by
   have:=(List.getElem?_eq_some_iff.1 hp).1
   omega
  refine ⟨vs[off],by simp [ha,hk],hr off _ _ hp (by simp [hk])⟩
theorem binV_int {op:BinOp} {t:TypeId} {k k':IntKind} {a b:Int} {v:Value} (h:binV op (.int k a) (.int k' b)=some v) (w:World):
  (binOp op t (.int k a) (.int k' b)).run P w= .ok v w∧plainV v=true:=by
 unfold binV at h
 cases op<;>simp only [reduceCtorEq] at h<;>simp only [binOp]
 case shl=>split at h<;>cases h;rename_i hb;simp [Op.shift,hb,plainV]
 case shr=>split at h<;>cases h;rename_i hb;simp [Op.shift,hb,plainV]
 all_goals
  split at h
  ·cases h
  ·rename_i hk
   have hk':k=k':=by simpa using hk
   subst hk'
   simp only [ne_eq,not_true_eq_false,if_false]
   try (split at h; · cases h)
   first
    |(cases h;simp_all [Op.intArith,Op.intDiv,Op.intBits,Op.intCmp,plainV,band,bor,bxor,bandn])
    |cases h
theorem binV_string {op:BinOp} {t:TypeId} {a b:ByteArray} {v:Value} (h:binV op (.string a) (.string b)=some v) (w:World):
  (binOp op t (.string a) (.string b)).run P w= .ok v w∧plainV v=true:=by
 unfold binV at h
 cases op<;>simp only [reduceCtorEq] at h<;>cases h<;>simp [binOp,Op.stringOp,plainV]
theorem equal_bool {t:TypeId} {i:TI} (ht:TT P t=some i) (hd:i.desc= .bool) (a b:Bool) (w:World):(Op.equal t (.bool a) (.bool b)).run P w= .ok (a==b) w:=by
 have e:Op.maxDepth=9999+1:=rfl
 unfold Op.equal
 rw [e]
 generalize 9999=d
 simp only [Op.equalIn,Sem.run_bind,run_und ht,Result.andThen_ok,hd,Sem.run_pure]
theorem binV_bool {op:BinOp} {t:TypeId} {i:TI} (ht:TT P t=some i) (hd:i.desc= .bool) {a b:Bool} {v:Value} (h:binV op (.bool a) (.bool b)=some v) (w:World):
  (binOp op t (.bool a) (.bool b)).run P w= .ok v w∧plainV v=true:=by
 unfold binV at h
 cases op<;>simp only [reduceCtorEq] at h<;>cases h
 ·exact ⟨by simp only [binOp,Sem.run_bind,equal_bool ht hd,Result.andThen_ok,Sem.run_pure],rfl⟩
 ·exact ⟨by simp only [binOp,Sem.run_bind,equal_bool ht hd,Result.andThen_ok,Sem.run_pure],rfl⟩
theorem equal_nilPtr {t e:TypeId} {i:TI} (ht:TT P t=some i) (hd:i.desc= .pointer e) (a:Addr) (w:World):(Op.equal t (.pointer (some a)) (.pointer none)).run P w= .ok false w:=by
 have e:Op.maxDepth=9999+1:=rfl
 unfold Op.equal
 rw [e]
 generalize 9999=d
 simp only [Op.equalIn,Sem.run_bind,run_und ht,Result.andThen_ok,hd,Sem.run_pure]
theorem nilPtr_run {op:BinOp} {t:TypeId} {v:AV} (h:nilPtr (TT P t) op=some v) (a:Addr) (w:World):
  ∃b,v= .t (.v (.bool b))∧(binOp op t (.pointer (some a)) (.pointer none)).run P w= .ok (.bool b) w:=by
 unfold nilPtr at h
 split at h
 ·rename_i ht
  cases h
  exact ⟨false,rfl,by simp only [binOp,Sem.run_bind,equal_nilPtr ht rfl,Result.andThen_ok,Sem.run_pure]⟩
 ·rename_i ht
  cases h
  exact ⟨true,rfl,by simp only [binOp,Sem.run_bind,equal_nilPtr ht rfl,Result.andThen_ok,Sem.run_pure,Bool.not_false]⟩
 ·cases h
theorem unV_run {op:UnOp} {x v:Value} (h:unV op x=some v) (w:World):(Op.unary op x).run P w= .ok v w∧plainV v=true:=by
 unfold unV at h
 split at h<;>cases h<;>simp [Op.unary,Op.intArith,plainV]
theorem asInt_rep {a:AV} {n:Int} {v:Value} (h:asInt a=some n) (r:RepA w C a v):∃k,v= .int k n:=by
 unfold asInt at h
 split at h<;>cases h
 obtain ⟨rfl,_⟩:=rep_v r
 exact ⟨_,rfl⟩
theorem idx_some {n:Int} {len j:Nat} (h:idx n len=some j):0≤n∧n<len∧n.toNat=j∧j<len:=by
 unfold idx at h
 split at h<;>cases h
 omega
theorem sl_elem {es:List (List T)} {a:Option Addr} {c:Nat} (h:RepT w C.imm (.sl es) (.slice a es.length c)) {j:Nat} {e:List T} (he:es[j]? =some e):
  ∃ad,a=some ad∧RepA w C (.rd e) (.pointer (some (ad.add (j*e.length)))):=by
 have hj:j<es.length:=(List.getElem?_eq_some_iff.1 he).1
 generalize hx:T.sl es=x at h
 generalize hv:Value.slice a es.length c=v at h
 cases h with
 |v h=>cases hx
 |nil=>cases hx;simp at hj
 |@sl es' ad cap sz u h0 hsz hc hi hcell hr=>
  cases hx
  cases hv
  have hes:e.length=sz:=hsz e (List.mem_of_getElem? he)
  refine ⟨ad,rfl,.rd (u:=fun k=>u (j*sz+k)) (by rw [add_block];exact hi) (fun k hk=>?_) (fun k c hc=>hr j k e c he hc)⟩
  rw [add_add,hes]
  refine hcell _ ?_
  have:(j+1)*sz≤es.length*sz:=Nat.mul_le_mul_right _ hj
  rw [Nat.add_mul,Nat.one_mul] at this
  omega
theorem elemRd_rep {es:List (List T)} {sz:Nat} {n:Int} {a:AV} (h:elemRd es sz n=some a) {b:Option Addr} {c:Nat} (hr:RepT w C.imm (.sl es) (.slice b es.length c)):
  0≤n∧n<es.length∧∃ad,b=some ad∧RepA w C a (.pointer (some (ad.add (n.toNat*sz)))):=by
 unfold elemRd at h
 split at h
 ·rename_i j hj
  obtain ⟨h0,h1,rfl,h2⟩:=idx_some hj
  split at h
  ·rename_i e he
   split at h<;>cases h
   rename_i hes
   obtain ⟨ad,rfl,hrd⟩:=sl_elem hr he
   rw [hes] at hrd
   exact ⟨h0,h1,ad,rfl,hrd⟩
  ·cases h
 ·cases h
theorem rd_drop {cs:List T} {ad:Addr} {k:Nat} (h:RepA w C (.rd cs) (.pointer (some ad))):RepA w C (.rd (cs.drop k)) (.pointer (some (ad.add k))):=by
 cases h with
 |@rd _ _ u hi hcell hr=>
  refine .rd (u:=fun j=>u (k+j)) (by rw [add_block];exact hi) (fun j hj=>?_) (fun j c hc=>?_)
  ·rw [List.length_drop] at hj
   rw [add_add]
   exact hcell _ (by omega)
  ·rw [List.getElem?_drop] at hc
   exact hr _ c hc
theorem cut_rep {es:List (List T)} {a:Option Addr} {c l h sz m:Nat} (hr:RepT w C.imm (.sl es) (.slice a es.length c)) (hl:l≤h) (hh:h≤es.length) (hm:h≤m) (hsz:∀e∈es,e.length=sz):
  RepT w C.imm (.sl ((es.take h).drop l)) (.slice (if m=l then a else a.map (·.add (l*sz))) (h-l) (m-l)):=by
 rcases Nat.eq_or_lt_of_le hl with rfl | hlt
 ·rw [List.drop_eq_nil_of_le (by rw [List.length_take];omega),Nat.sub_self]
  exact .nil
 ·generalize hx:T.sl es=x at hr
  generalize hv:Value.slice a es.length c=v at hr
  cases hr with
  |v h=>cases hx
  |nil=>cases hx;simp at hh;omega
  |@sl es' ad cap sz' u h0 hsz' hc hi hcell hr=>
   cases hx
   cases hv
   have hszz:sz=sz':=by
    obtain ⟨e,he⟩:∃e,e∈es:=⟨es[0],List.getElem_mem _⟩
    rw [←hsz e he,hsz' e he]
   subst hszz
   rw [if_neg (by omega)]
   have hlen:((es.take h).drop l).length=h-l:=by rw [List.length_drop,List.length_take];omega
   rw [←hlen]
   refine .sl (u:=fun k=>u (l*sz+k)) (by omega) (fun e he=>hsz e (List.mem_of_mem_take (List.mem_of_mem_drop he))) (by omega) (by simpa [add_block] using hi) (fun k hk=>?_) (fun j k e c he hc=>?_)
   ·show w.cell? ((ad.add (l*sz)).add k)=_
    rw [add_add]
    refine hcell _ ?_
    rw [hlen] at hk
    have:(h-l)*sz+l*sz=h*sz:=by rw [←Nat.add_mul];congr 1;omega
    have:h*sz≤es.length*sz:=Nat.mul_le_mul_right _ hh
    omega
   ·rw [List.getElem?_drop,List.getElem?_take] at he
    split at he
    ·have:=hr (l+j) k e c he hc
     rwa [Nat.add_mul,Nat.add_assoc] at this
    ·cases he
theorem add_off (b o k:Nat):(⟨b,o,none⟩:Addr).add k=⟨b,o+k,none⟩:=by
 unfold Addr.add
 split
 ·rename_i h;subst h;rfl
 ·rfl
theorem unbytes_rep {es:List (List T)} {l:List UInt8} (h:unbytes es=some l):∃xs:List Int,es=xs.map (fun n=>[T.v (.int .u8 n)])∧l=xs.map fun n=>UInt8.ofNat n.toNat:=by
 induction es generalizing l with
 |nil=>simp only [unbytes] at h;cases h;exact ⟨[],rfl,rfl⟩
 |cons e r ih=>
  unfold unbytes at h
  split at h
  ·rename_i heq;cases heq
  ·rename_i n r' heq
   cases heq
   obtain ⟨l',hl',rfl⟩:=Option.map_eq_some_iff.1 h
   obtain ⟨xs,rfl,rfl⟩:=ih hl'
   exact ⟨n :: xs,rfl,rfl⟩
  ·cases h
theorem bytes_run {es:List (List T)} {l:List UInt8} (h:unbytes es=some l) {s d e:TypeId} (hs:P.underlying s=some (.slice e)) (he:P.underlying e=some (.int .u8)) (hd:P.underlying d=some .string)
  {a:Option Addr} {c:Nat} (hr:RepT w C.imm (.sl es) (.slice a es.length c)):(convert s d (.slice a es.length c)).run P w= .ok (.string ⟨l.toArray⟩) w:=by
 obtain ⟨xs,hx,rfl⟩:=unbytes_rep h
 cases a with
 |none=>
  generalize hy:T.sl es=y at hr
  generalize hv:Value.slice none es.length c=v at hr
  cases hr with
  |v _=>cases hy
  |nil=>
   cases hy
   have:xs=[]:=by simpa using hx.symm
   subst this
   cases hv
   exact run_convert_bytes_nil w s e hs he _ _ d hd
  |sl=>cases hv
 |some ad=>
  rcases Nat.eq_zero_or_pos xs.length with h0 | h0
  ·have:xs=[]:=List.eq_nil_of_length_eq_zero h0
   subst this
   subst hx
   have:=run_convert_bytes_arg w s e hs he ad.block ad.off 0 c [] rfl (fun i hi=>by omega) d hd
   simp [convert,underlying,hs,he,hd,Conv.bytesToString,loadCells,loadCellsFrom]
   rfl
  ·have hcell:∀i,i<xs.length→w.cell? (ad.add i)=some (.int .u8 (xs.getD i 0)):=by
    intro i hi
    have hei:es[i]? =some [T.v (.int .u8 (xs.getD i 0))]:=by
     subst hx
     simp [hi]
    obtain ⟨ad',had,hrd⟩:=sl_elem hr hei
    cases had
    cases hrd with
    |@rd _ _ u hi' hcell hr'=>
     have h1:=hcell 0 (by simp)
     have h2:=hr' 0 _ (by simp;rfl)
     rw [add_zero'] at h1
     simp only [List.length_singleton,Nat.mul_one] at h1
     rw [h1]
     generalize u 0=z at h2
     cases h2
     simp
   have hspot:ad=⟨ad.block,ad.off,none⟩:=by
    have h1:=hcell 0 h0
    rw [add_zero'] at h1
    cases ad with
    |mk b o sp=>
     cases sp with
     |none=>rfl
     |some q=>
      exfalso
      unfold World.cell? at h1
      split at h1<;>simp at h1
   have hlen:xs.length=es.length:=by rw [hx];simp
   have:=run_convert_bytes_arg w s e hs he ad.block ad.off es.length c xs hlen (fun i hi=>by
    have h1:=hcell i (by omega)
    rw [hspot,add_off] at h1
    exact h1) d hd
   rw [←hspot] at this
   exact this
end
end Go.Proofs.YtnoifgjiipgpoaaGreatDoor.R

namespace Go.Proofs.YtnoifgjiipgpoaaGreatDoor.R
open Go.RowKit
theorem setCells_length {α:Type} (xs:List α):∀(cs:List α) (off:Nat),(setCells cs off xs).length=cs.length:=by
 induction xs with
 |nil=>intro cs off;rfl
 |cons x xs ih=>intro cs off;rw [setCells,ih,List.length_set]
theorem setCells_get {α:Type} (xs:List α):∀(cs:List α) (off k:Nat),off+xs.length≤cs.length→
  (setCells cs off xs)[k]? =if off≤k∧k<off+xs.length then xs[k-off]? else cs[k]?:=by
 induction xs with
 |nil=>intro cs off k _;rw [setCells,if_neg (by simp only [List.length_nil];omega)]
 |cons x xs ih=>
  intro cs off k h
  simp only [List.length_cons] at h
  rw [setCells,ih _ _ _ (by rw [List.length_set];omega)]
  by_cases h1:off+1≤k∧k<off+1+xs.length
  ·rw [if_pos h1,if_pos (by simp;omega)]
   obtain ⟨j,rfl⟩:∃j,k=off+1+j:=⟨k-(off+1),by omega⟩
   rw [show off+1+j-(off+1)=j by omega,show off+1+j-off=j+1 by omega,List.getElem?_cons_succ]
  ·rw [if_neg h1]
   by_cases h2:k=off
   ·subst h2
    rw [if_pos (by simp),Nat.sub_self,List.getElem?_cons_zero,List.getElem?_set_self (by omega)]
   ·rw [if_neg (by simp;omega),List.getElem?_set_ne (by omega)]
theorem foldSet_get (vs:List Value):∀(cs:Array Value) (off j k:Nat),off+j+vs.length≤cs.size→
  ((vs.zipIdx j).foldl (fun (cs:Array Value) (x:Value×Nat)=>cs.setIfInBounds (off+x.2) x.1) cs).size=cs.size∧
  ((vs.zipIdx j).foldl (fun (cs:Array Value) (x:Value×Nat)=>cs.setIfInBounds (off+x.2) x.1) cs)[k]? =if off+j≤k∧k<off+j+vs.length then vs[k-(off+j)]? else cs[k]?:=by
 induction vs with
 |nil=>intro cs off j k _;simp;omega
 |cons v vs ih=>
  intro cs off j k h
  simp only [List.length_cons] at h
  rw [List.zipIdx_cons,List.foldl_cons]
  obtain ⟨h1,h2⟩:=ih (cs.setIfInBounds (off+j) v) off (j+1) k (by simp;omega)
  refine ⟨by simpa using h1,?_⟩
  rw [h2]
  by_cases h3:off+(j+1)≤k∧k<off+(j+1)+vs.length
  ·rw [if_pos h3,if_pos (by simp;omega)]
   obtain ⟨i,rfl⟩:∃i,k=off+j+1+i:=⟨k-(off+j+1),by omega⟩
   rw [show off+j+1+i-(off+(j+1))=i by omega,show off+j+1+i-(off+j)=i+1 by omega,List.getElem?_cons_succ]
  ·rw [if_neg h3]
   by_cases h4:k=off+j
   ·subst h4
    rw [if_pos (by simp),Nat.sub_self,List.getElem?_cons_zero,Array.getElem?_setIfInBounds_self_of_lt (by omega)]
   ·rw [if_neg (by simp;omega),Array.getElem?_setIfInBounds_ne (by omega)]
section
variable {P:Program} {w:World} {C:Ctx}
theorem cells_rep {a:AV} {v:Value} {cs:List AV} (h:cellsOf a=some cs) (r:RepA w C a v):
  cs.length=v.cells.size∧∀(k:Nat) (x:AV) (u:Value),cs[k]? =some x→v.cells[k]? =some u→RepA w C x u:=by
 by_cases hl:leaf a=true
 ·have hc:cs=[a]:=by cases a<;>simp [cellsOf,leaf] at h hl<;>exact h.symm
  subst hc
  obtain ⟨hv,_⟩:=rep_leaf r hl
  rw [hv]
  refine ⟨rfl,fun k x u h1 h2=>?_⟩
  cases k with
  |zero=>simp at h1 h2;subst h1;subst h2;exact r
  |succ k=>simp at h1
 ·cases a<;>simp [leaf] at hl<;>simp [cellsOf] at h
  subst h
  obtain ⟨vs,rfl,h1,h2⟩:=rep_agg r
  exact ⟨h1,h2⟩
theorem fill_rep {pl:Nat→Option (Nat×Nat)} {ps:List (Nat×AV)}:∀{qs:List (Nat×Value)} {cs:List AV} {vs:Array Value} {r:List AV},
  ps.length=qs.length→(∀(k:Nat) (a:Nat×AV) (q:Nat×Value),ps[k]? =some a→qs[k]? =some q→a.1=q.1∧RepA w C a.2 q.2)→
  cs.length=vs.size→(∀(k:Nat) (x:AV) (u:Value),cs[k]? =some x→vs[k]? =some u→RepA w C x u)→
  fillA pl cs ps=some r→∃us,Instr.fill pl vs qs=some us∧r.length=us.size∧∀(k:Nat) (x:AV) (u:Value),r[k]? =some x→us[k]? =some u→RepA w C x u:=by
 induction ps with
 |nil=>
  intro qs cs vs r hl _ hlen hr h
  cases qs with
  |cons q qs=>simp at hl
  |nil=>simp only [fillA] at h;cases h;exact ⟨vs,rfl,hlen,hr⟩
 |cons p ps ih=>
  intro qs cs vs r hl hp hlen hr h
  obtain ⟨i,a⟩:=p
  cases qs with
  |nil=>simp at hl
  |cons q qs=>
   obtain ⟨h1,hra⟩:=hp 0 _ _ rfl rfl
   obtain ⟨i',v⟩:=q
   simp only at h1 hra
   subst h1
   simp only [fillA] at h
   cases hpl:pl i with
   |none=>rw [hpl] at h;cases h
   |some os=>
    obtain ⟨off,size⟩:=os
    rw [hpl] at h
    simp only at h
    cases hc:cellsOf a with
    |none=>rw [hc] at h;cases h
    |some c=>
     rw [hc] at h
     simp only at h
     split at h
     ·rename_i hcond
      obtain ⟨hsz,hoff⟩:=hcond
      obtain ⟨hcl,hcr⟩:=cells_rep hc hra
      have hfold:=fun k=>foldSet_get v.cells.toList vs off 0 k (by simp;omega)
      have hzip:v.cells.zipIdx.foldl (fun (cs:Array Value) (x:Value×Nat)=>cs.setIfInBounds (off+x.2) x.1) vs=(v.cells.toList.zipIdx 0).foldl (fun (cs:Array Value) (x:Value×Nat)=>cs.setIfInBounds (off+x.2) x.1) vs:=by
       rw [←Array.foldl_toList,Array.toList_zipIdx]
      obtain ⟨us,hus,h2,h3⟩:=ih (qs:=qs) (cs:=setCells cs off c) (vs:=(v.cells.toList.zipIdx 0).foldl (fun (cs:Array Value) (x:Value×Nat)=>cs.setIfInBounds (off+x.2) x.1) vs) (r:=r)
       (by simpa using hl) (fun k a q ha hq=>hp (k+1) a q ha hq) (by rw [setCells_length,(hfold 0).1];exact hlen)
       (fun k x u hx hu=>by
        rw [setCells_get _ _ _ _ (by omega)] at hx
        rw [(hfold k).2] at hu
        simp only [Nat.add_zero,Array.length_toList,←hcl] at hu
        split at hx
        ·rename_i hk
         rw [if_pos hk] at hu
         exact hcr _ _ _ hx (by simpa using hu)
        ·rename_i hk
         rw [if_neg hk] at hu
         exact hr _ _ _ hx hu) h
      refine ⟨us,?_,h2,h3⟩
      simp only [Instr.fill,hpl]
      rw [if_neg (by simp;omega)]
      exact (congrArg (fun z=>Instr.fill pl z qs) hzip).trans hus
     ·cases h
theorem toTs_rep:∀{avs:List AV} {ts:List T},toTs avs=some ts→avs.length=ts.length∧∀(k:Nat) (a:AV) (t:T),avs[k]? =some a→ts[k]? =some t→toT a=some t:=by
 intro avs
 induction avs with
 |nil=>intro ts h;simp only [toTs] at h;cases h;exact ⟨rfl,fun k a t h=>by simp at h⟩
 |cons a avs ih=>
  intro ts h
  simp only [toTs] at h
  split at h
  ·rename_i x xs hx hxs
   cases h
   obtain ⟨h1,h2⟩:=ih hxs
   refine ⟨by simp [h1],fun k b t hb ht=>?_⟩
   cases k with
   |zero=>simp at hb ht;subst hb;subst ht;exact hx
   |succ k=>exact h2 k b t hb ht
  ·cases h
theorem toT_rep {a:AV} {t:T} {v:Value} (h:toT a=some t) (r:RepA w C a v):RepT w C.imm t v:=by
 unfold toT at h
 split at h<;>cases h
 ·cases r with
  |t h=>exact h
 ·obtain ⟨_,rfl,h⟩:=rep_fsl r;exact h
 ·cases r with
  |@fn _ _ _ vf vc h1 _ h2 _=>
   have e1:vf= #[]:=by apply Array.eq_empty_of_size_eq_zero;exact h1.symm
   have e2:vc= #[]:=by apply Array.eq_empty_of_size_eq_zero;exact h2.symm
   subst e1;subst e2
   exact .v rfl
theorem toT_leaf {a:AV} {t:T} (h:toT a=some t):leaf a=true:=by
 unfold toT at h
 split at h<;>cases h<;>rfl
theorem zero_rep (i:TI):(zeroA i).length=i.zero.cells.size∧∀(k:Nat) (x:AV) (u:Value),(zeroA i)[k]? =some x→i.zero.cells[k]? =some u→RepA w C x u:=by
 have hleaf:∀v,RepA w C (ofLeaf v) v:=by
  intro v
  unfold ofLeaf
  split
  ·exact .fsl (es:=[]) .nil
  ·exact .fn rfl (fun k a u h=>by simp at h) rfl (fun k a u h=>by simp at h)
  ·split
   ·rename_i h
    exact .t (.v h)
   ·exact .any
 refine ⟨by simp [zeroA],fun k x u hx hu=>?_⟩
 simp only [zeroA,List.getElem?_map,Array.getElem?_toList,hu,Option.map_some] at hx
 cases hx
 exact hleaf u
theorem places_run {fs:List Field}:∀{l:List (Nat×Nat)},placesA P fs=some l→∀w,(fs.mapM (fun (f:Field)=>(do pure (f.offset,←sizeOf f.type):Sem (Nat×Nat)))).run P w= .ok l w:=by
 induction fs with
 |nil=>intro l h w;simp only [placesA] at h;cases h;rfl
 |cons f fs ih=>
  intro l h w
  simp only [placesA] at h
  split at h
  ·rename_i i l' hi hl'
   cases h
   rw [List.mapM_cons]
   simp only [Sem.run_bind,run_size hi,Result.andThen_ok,Sem.run_pure,ih hl']
  ·cases h
theorem rep_ptr {b o:Nat} {v:Value} (h:RepA w C (.ptr b o) v):∃bl,v= .pointer (some ⟨bl,o,none⟩)∧b<C.nx∧C.own b=some bl:=by
 cases h with
 |ptr h1 h2=>exact ⟨_,rfl,h1,h2⟩
theorem rep_rd {cs:List T} {v:Value} (h:RepA w C (.rd cs) v):∃ad,v= .pointer (some ad)∧RepA w C (.rd cs) (.pointer (some ad)):=by
 cases h with
 |rd h1 h2 h3=>exact ⟨_,rfl,.rd h1 h2 h3⟩
theorem rep_el {q o:Nat} {v:Value} (h:RepA w C (.el q o) v):∃bl n c,v= .pointer (some ⟨bl,o,none⟩)∧q<C.nx∧C.own q=some bl∧C.hdr q= .slice (some ⟨bl,0,none⟩) n c:=by
 cases h with
 |el h1 h2 h3=>exact ⟨_,_,_,rfl,h1,h2,h3⟩
theorem rep_ref {q:Nat} {v:Value} (h:RepA w C (.ref q) v):∃a n c,v= .slice a n c∧q<C.nx∧C.hdr q=v:=by
 cases h with
 |ref h1 h2=>exact ⟨_,_,_,rfl,h1,h2⟩
theorem rep_fn {f:Fn} {a b:List AV} {v:Value} (h:RepA w C (.fn f a b) v):∃vf vc,v= .func f vf vc∧a.length=vf.size∧(∀(k:Nat) (x:AV) (u:Value),a[k]? =some x→vf[k]? =some u→RepA w C x u)∧
  b.length=vc.size∧(∀(k:Nat) (x:AV) (u:Value),b[k]? =some x→vc[k]? =some u→RepA w C x u):=by
 cases h with
 |fn h1 h2 h3 h4=>exact ⟨_,_,rfl,h1,h2,h3,h4⟩
theorem map_rep {ρa:Operand→AV} {ρ:Operand→Value} (hρ:∀x,RepA w C (ρa x) (ρ x)) (l:Array Operand):
  (l.toList.map ρa).length=(l.map ρ).size∧∀(k:Nat) (a:AV) (u:Value),(l.toList.map ρa)[k]? =some a→(l.map ρ)[k]? =some u→RepA w C a u:=by
 refine ⟨by simp,fun k a u ha hu=>?_⟩
 simp only [List.getElem?_map,Array.getElem?_toList,Option.map_eq_some_iff] at ha
 obtain ⟨x,hx,rfl⟩:=ha
 simp only [Array.getElem?_map,hx,Option.map_some,Option.some.injEq] at hu
 subst hu
 exact hρ x
theorem minI_run (f:Int→Int→Bool) (g:Value→Value→Sem Value) (hg:∀k x k' y,g (.int k x) (.int k' y)=pure (.int k (if f y x then y else x))) (k:IntKind):
  ∀(r:List AV) (us:List Value) (x m:Int),r.length=us.length→(∀(j:Nat) (a:AV) (u:Value),r[j]? =some a→us[j]? =some u→RepA w C a u)→minI f k x r=some m→
   (us.foldlM g (.int k x)).run P w= .ok (.int k m) w:=by
 intro r
 induction r with
 |nil=>
  intro us x m hl _ h
  cases us with
  |nil=>simp only [minI] at h;cases h;rfl
  |cons u us=>simp at hl
 |cons a r ih=>
  intro us x m hl hr h
  cases us with
  |nil=>simp at hl
  |cons u us=>
   unfold minI at h
   split at h
   ·rename_i heq;cases heq
   ·rename_i k' y r' heq
    cases heq
    obtain ⟨rfl,_⟩:=rep_v (hr 0 _ _ rfl rfl)
    rw [List.foldlM_cons,hg]
    simp only [Sem.run_bind,Sem.run_pure,Result.andThen_ok]
    exact ih us _ m (by simpa using hl) (fun j a u ha hu=>hr (j+1) a u ha hu) h
   ·cases h
theorem cutT_run {full:Bool} {es:List (List T)} {lo hi mx:Option AV} {r:AV} (h:cutT full es lo hi mx=some r) {t e:TypeId} {i j:TI} (ht:TT P t=some i) (hd:i.desc= .slice e) (he:TT P e=some j)
  {a:Option Addr} {c:Nat} (hc:es.length≤c) (hf:full=true→c=es.length) (hr:RepT w C.imm (.sl es) (.slice a es.length c)) (hsz:∀x∈es,x.length=j.size)
  {vlo vhi vmx:Option Value} (h1:∀a,lo=some a→∃u,vlo=some u∧RepA w C a u) (h1n:lo=none→vlo=none) (h2:∀a,hi=some a→∃u,vhi=some u∧RepA w C a u) (h2n:hi=none→vhi=none)
  (h3:∀a,mx=some a→∃u,vmx=some u∧RepA w C a u) (h3n:mx=none→vmx=none):
  ∃u,(Instr.sliceAt t (.slice a es.length c) vlo vhi vmx).run P w= .ok u w∧RepA w C r u:=by
 have num:∀{x:Option AV} {d most r:Nat} {v:Option Value} {y:AV},x=some y→bound x d most=some r→(∀a,x=some a→∃u,v=some u∧RepA w C a u)→
   r≤most∧∃k,v=some (.int k r):=by
  intro x d most r v y hx hb hv
  subst hx
  unfold bound at hb
  simp only at hb
  split at hb
  ·rename_i n hn
   split at hb<;>cases hb
   rename_i hb'
   obtain ⟨u,hu,hr⟩:=hv y rfl
   obtain ⟨k,rfl⟩:=asInt_rep hn hr
   exact ⟨by omega,k,by rw [hu];congr 2;omega⟩
  ·cases hb
 have low:∀{h l:Nat},bound lo 0 h=some l→l≤h∧((vlo=none∧l=0)∨∃k,vlo=some (.int k l)):=by
  intro h l hb
  cases hlo:lo with
  |none=>rw [hlo] at hb;simp only [bound] at hb;cases hb;exact ⟨Nat.zero_le _,.inl ⟨h1n hlo,rfl⟩⟩
  |some y=>obtain ⟨a1,a2⟩:=num hlo hb h1;exact ⟨a1,.inr a2⟩
 have sb:∀(k:IntKind) (n m:Nat) (code:BoundsCode),n≤m→(Instr.sliceBound (.int k (n:Int)) m code).run P w= .ok n w:=by
  intro k n m code h
  simp only [Instr.sliceBound,asIntOf,Sem.run_bind,Sem.run_pure,Result.andThen_ok]
  rw [if_pos (by omega)]
  simp
 have done:∀{l h m:Nat},(Instr.sliceBounds true es.length c vlo vhi vmx).run P w= .ok (l,h,m) w→
   (Instr.sliceAt t (.slice a es.length c) vlo vhi vmx).run P w= .ok (.slice (if m=l then a else a.map (·.add (l*j.size))) (h-l) (m-l)) w:=by
  intro l h m hb
  simp only [Instr.sliceAt,Instr.slice,Sem.run_bind,run_und ht,Result.andThen_ok,hd,hb,run_size he,Sem.run_pure]
 unfold cutT at h
 split at h
 ·rename_i mv
  split at h
  ·rename_i m hA hm
   split at h
   ·rename_i hh hhb
    split at h
    ·rename_i l hlb
     obtain ⟨m1,km,hvm⟩:=num rfl hm h3
     obtain ⟨m2,kh,hvh⟩:=num rfl hhb h2
     obtain ⟨m3,hvl⟩:=low hlb
     have hb:(Instr.sliceBounds true es.length c vlo vhi vmx).run P w= .ok (l,hh,m) w:=by
      subst hvm;subst hvh
      rcases hvl with ⟨rfl,rfl⟩ | ⟨k,rfl⟩
      ·simp only [Instr.sliceBounds,Sem.run_bind,if_true,sb _ _ _ _ (show m≤c by omega),sb _ _ _ _ m2,Result.andThen_ok,Sem.run_pure]
      ·simp only [Instr.sliceBounds,Sem.run_bind,if_true,sb _ _ _ _ (show m≤c by omega),sb _ _ _ _ m2,sb _ _ _ _ m3,Result.andThen_ok,Sem.run_pure]
     have hrep:=cut_rep (m:=m) hr m3 (by omega) m2 hsz
     split at h<;>cases h
     ·rename_i hmm
      subst hmm
      refine ⟨_,done hb,?_⟩
      have hlen:((es.take hh).drop l).length=hh-l:=by rw [List.length_drop,List.length_take];omega
      rw [←hlen] at hrep ⊢
      exact .fsl hrep
     ·exact ⟨_,done hb,.t hrep⟩
    ·cases h
   ·cases h
  ·cases h
 ·split at h
  ·rename_i hv
   split at h
   ·rename_i hh hhb
    split at h
    ·rename_i l hlb
     cases h
     obtain ⟨m2,kh,hvh⟩:=num rfl hhb h2
     obtain ⟨m3,hvl⟩:=low hlb
     have hb:(Instr.sliceBounds true es.length c vlo vhi vmx).run P w= .ok (l,hh,c) w:=by
      have e0:=h3n rfl
      subst hvh;subst e0
      rcases hvl with ⟨rfl,rfl⟩ | ⟨k,rfl⟩
      ·simp only [Instr.sliceBounds,Sem.run_bind,if_true,sb _ _ _ _ (show hh≤c by omega),Result.andThen_ok,Sem.run_pure]
      ·simp only [Instr.sliceBounds,Sem.run_bind,if_true,sb _ _ _ _ (show hh≤c by omega),sb _ _ _ _ m3,Result.andThen_ok,Sem.run_pure]
     exact ⟨_,done hb,.t (cut_rep (m:=c) hr m3 (by omega) (by omega) hsz)⟩
    ·cases h
   ·cases h
  ·split at h
   ·rename_i l hlb
    obtain ⟨m3,hvl⟩:=low hlb
    have hb:(Instr.sliceBounds true es.length c vlo vhi vmx).run P w= .ok (l,es.length,c) w:=by
     have e0:=h3n rfl
     have e1:=h2n rfl
     subst e1;subst e0
     rcases hvl with ⟨rfl,rfl⟩ | ⟨k,rfl⟩
     ·simp only [Instr.sliceBounds,Sem.run_bind,Result.andThen_ok,Sem.run_pure]
     ·simp only [Instr.sliceBounds,Sem.run_bind,sb _ _ _ _ m3,Result.andThen_ok,Sem.run_pure]
    have hrep:=cut_rep (m:=c) hr m3 (Nat.le_refl _) hc hsz
    rw [List.take_length] at hrep
    split at h<;>cases h
    ·rename_i hfull
     have:=hf hfull
     subst this
     refine ⟨_,done hb,?_⟩
     have hlen:(es.drop l).length=es.length-l:=by rw [List.length_drop]
     rw [←hlen] at hrep ⊢
     exact .fsl hrep
    ·exact ⟨_,done hb,.t hrep⟩
   ·cases h
end
end Go.Proofs.YtnoifgjiipgpoaaGreatDoor.R

namespace Go.Proofs.YtnoifgjiipgpoaaGreatDoor.R
open Go.RowKit
section
variable {P:Program} {w:World} {C:Ctx} {ρa:Operand→AV} {ρ:Operand→Value}
theorem lookups (x:Option Operand) (hρ:∀x,RepA w C (ρa x) (ρ x)):(∀a,x.map ρa=some a→∃u,x.map ρ=some u∧RepA w C a u)∧(x.map ρa=none→x.map ρ=none):=by
 cases x with
 |none=>exact ⟨fun a h=>by simp at h,fun _=>rfl⟩
 |some x=>exact ⟨fun a h=>by simp at h;subst h;exact ⟨_,rfl,hρ x⟩,fun h=>by simp at h⟩
theorem guard_run {op:BinOp} {t:TypeId} {x y:Operand} {a b:Value} (ha:plainV a=true) (hn:a≠ .nilIface):(eqGuard op t x y a b).run P w= .ok () w:=by
 unfold eqGuard
 cases op<;>first | rfl | (cases a<;>first | rfl | (simp [plainV] at ha;done) | exact absurd rfl hn)
theorem num_run {x:Option Operand} (hρ:∀x,RepA w C (ρa x) (ρ x)) {d most r:Nat} (h:bound (x.map ρa) d most=some r):(x.map ρ=none∧r=d)∨(r≤most∧∃k,x.map ρ=some (.int k r)):=by
 cases x with
 |none=>simp only [Option.map_none,bound] at h;cases h;exact .inl ⟨rfl,rfl⟩
 |some x=>
  simp only [Option.map_some,bound] at h
  split at h
  ·rename_i n hn
   split at h<;>cases h
   rename_i hb
   obtain ⟨k,hk⟩:=asInt_rep hn (hρ x)
   exact .inr ⟨by omega,k,by simp only [Option.map_some,hk];congr 2;omega⟩
  ·cases h
theorem bound_int {k:IntKind} {n m:Nat} {code:BoundsCode} (h:n≤m):(Instr.sliceBound (.int k (n:Int)) m code).run P w= .ok n w:=by
 simp only [Instr.sliceBound,asIntOf,Sem.run_bind,Sem.run_pure,Result.andThen_ok]
 rw [if_pos (by omega)]
 simp
theorem evalP_same (hρ:∀x,RepA w C (ρa x) (ρ x)) {o:Oper} {v:AV} (hb:∀t n ps,o.op≠ .buildSlice t n ps) (hb':∀s d x z,o.op= .convert s d x→ρa x≠ .t (.v (.string z))) (h:evalP P ρa o.op=some v):
  ∃u,(execOp ρ o).run P w= .ok (.value u) w∧RepA w C v u:=by
 obtain ⟨dst,op,type,pos,after,guard⟩:=o
 simp only at h hb hb'
 cases op with
 |move x=>simp only [evalP] at h;cases h;exact ⟨_,rfl,hρ x⟩
 |assign x=>simp only [evalP] at h;cases h;exact ⟨_,rfl,hρ x⟩
 |pick c a b=>
  simp only [evalP] at h
  split at h<;>cases h
  rename_i b' hc
  have hr:=hρ c
  rw [hc] at hr
  obtain ⟨hv,_⟩:=rep_v hr
  exact ⟨_,by simp [execOp,hv,asBool],pick_rep (hρ a) (hρ b)⟩
 |nilCheck x=>
  simp only [evalP] at h
  have hr:=hρ x
  split at h<;>cases h
  ·rename_i hc;rw [hc] at hr
   obtain ⟨bl,hv,h1,h2⟩:=rep_ptr hr
   exact ⟨_,by simp [execOp,hv],.ptr h1 h2⟩
  ·rename_i hc;rw [hc] at hr
   obtain ⟨ad,hv,h1⟩:=rep_rd hr
   exact ⟨_,by simp [execOp,hv],h1⟩
  ·rename_i hc;rw [hc] at hr
   obtain ⟨bl,n,c,hv,h1,h2,h3⟩:=rep_el hr
   exact ⟨_,by simp [execOp,hv],.el h1 h2 h3⟩
  ·rename_i hc;rw [hc] at hr
   obtain ⟨vf,vc,hv,h1,h2,h3,h4⟩:=rep_fn hr
   exact ⟨_,by simp [execOp,hv],.fn h1 h2 h3 h4⟩
 |binOp op t x y yt=>
  simp only [evalP] at h
  have hx:=hρ x
  have hy:=hρ y
  split at h
  ·rename_i a b ha hb'
   rw [ha] at hx;rw [hb'] at hy
   obtain ⟨hx,_⟩:=rep_v hx
   obtain ⟨hy,_⟩:=rep_v hy
   split at h
   ·rename_i ht
    obtain ⟨r,hr,rfl⟩:=Option.map_eq_some_iff.1 h
    obtain ⟨h1,h2⟩:=binV_bool ht rfl hr w
    refine ⟨r,?_,.t (.v h2)⟩
    simp only [execOp,Sem.run_bind,hx,hy,guard_run (a:=.bool a) rfl (by simp),Result.andThen_ok,h1,Sem.run_pure]
   ·cases h
  ·rename_i k a k' b ha hb'
   rw [ha] at hx;rw [hb'] at hy
   obtain ⟨hx,_⟩:=rep_v hx
   obtain ⟨hy,_⟩:=rep_v hy
   obtain ⟨r,hr,rfl⟩:=Option.map_eq_some_iff.1 h
   obtain ⟨h1,h2⟩:=binV_int (P:=P) (t:=t) hr w
   refine ⟨r,?_,.t (.v h2)⟩
   simp only [execOp,Sem.run_bind,hx,hy,guard_run (a:=.int k a) rfl (by simp),Result.andThen_ok,h1,Sem.run_pure]
  ·rename_i a b ha hb'
   rw [ha] at hx;rw [hb'] at hy
   obtain ⟨hx,_⟩:=rep_v hx
   obtain ⟨hy,_⟩:=rep_v hy
   obtain ⟨r,hr,rfl⟩:=Option.map_eq_some_iff.1 h
   obtain ⟨h1,h2⟩:=binV_string (P:=P) (t:=t) hr w
   refine ⟨r,?_,.t (.v h2)⟩
   simp only [execOp,Sem.run_bind,hx,hy,guard_run (a:=.string a) rfl (by simp),Result.andThen_ok,h1,Sem.run_pure]
  ·rename_i b0 off ha hb'
   rw [ha] at hx;rw [hb'] at hy
   obtain ⟨bl,hx,_⟩:=rep_ptr hx
   obtain ⟨hy,_⟩:=rep_v hy
   obtain ⟨b,rfl,hr⟩:=nilPtr_run h ⟨bl,off,none⟩ w
   refine ⟨.bool b,?_,.t (.v rfl)⟩
   have hg:∀a,(eqGuard op t x y (.pointer a) (.pointer none)).run P w= .ok () w:=fun a=>by
    unfold eqGuard
    split<;>simp [Sem.run_pure]
   simp only [execOp,Sem.run_bind,hx,hy,hg,Result.andThen_ok,hr,Sem.run_pure]
  ·cases h
 |unOp op t x=>
  simp only [evalP] at h
  have hx:=hρ x
  split at h
  ·rename_i a ha
   rw [ha] at hx
   obtain ⟨hx,_⟩:=rep_v hx
   obtain ⟨r,hr,rfl⟩:=Option.map_eq_some_iff.1 h
   obtain ⟨h1,h2⟩:=unV_run (P:=P) hr w
   exact ⟨r,by simp only [execOp,Sem.run_bind,hx,h1,Result.andThen_ok,Sem.run_pure],.t (.v h2)⟩
  ·cases h
 |convert s d x=>
  simp only [evalP] at h
  have hx:=hρ x
  split at h
  ·rename_i hs hd ha
   cases h
   rw [ha] at hx
   obtain ⟨hx,_⟩:=rep_v hx
   refine ⟨_,?_,.t (.v rfl)⟩
   simp only [execOp,Sem.run_bind,hx,convert,run_und hs,run_und hd,Result.andThen_ok,Conv.intToInt,Sem.run_pure]
  ·rename_i hs hd ha
   split at h
   ·rename_i he
    obtain ⟨l,hl,rfl⟩:=Option.map_eq_some_iff.1 h
    rw [ha] at hx
    obtain ⟨a,c,hv,_,hr⟩:=rep_sl hx
    rw [hv] at hr
    refine ⟨_,?_,.t (.v rfl)⟩
    simp only [execOp,Sem.run_bind,hv,bytes_run hl (tt_some hs).1 (tt_some he).1 (tt_some hd).1 hr,Result.andThen_ok,Sem.run_pure]
   ·cases h
  ·rename_i hs hd ha
   split at h
   ·rename_i he
    obtain ⟨l,hl,rfl⟩:=Option.map_eq_some_iff.1 h
    rw [ha] at hx
    obtain ⟨a,hv,hr⟩:=rep_fsl hx
    rw [hv] at hr
    refine ⟨_,?_,.t (.v rfl)⟩
    simp only [execOp,Sem.run_bind,hv,bytes_run hl (tt_some hs).1 (tt_some he).1 (tt_some hd).1 hr,Result.andThen_ok,Sem.run_pure]
   ·cases h
  ·rename_i ha
   exact absurd ha (hb' s d x _ rfl)
  ·cases h
 |makeFunc fn first caps=>
  simp only [evalP] at h
  cases h
  obtain ⟨h1,h2⟩:=map_rep hρ first
  obtain ⟨h3,h4⟩:=map_rep hρ caps
  exact ⟨_,by simp only [execOp,Instr.makeFunc,Sem.run_bind,Sem.run_pure,Result.andThen_ok],.fn h1 h2 h3 h4⟩
 |fieldAddr s x f=>
  simp only [evalP] at h
  have hx:=hρ x
  split at h
  ·rename_i fs sz by_ z hs
   split at h
   ·rename_i fd hf
    split at h
    ·rename_i i hi
     split at h
     ·cases h
     ·rename_i hsz
      have hrun:∀(a:Addr),(Instr.fieldAt s (.pointer (some a)) f).run P w= .ok (.pointer (some (a.add fd.offset))) w:=by
       intro a
       simp only [Instr.fieldAt,Sem.run_bind,run_und hs,Result.andThen_ok,hf,Instr.sureAddr,Sem.run_pure,fieldPlace,run_size hi,Sem.run_ite]
       rw [if_neg hsz]
       rfl
      split at h<;>cases h
      ·rename_i hc;rw [hc] at hx
       obtain ⟨bl,hv,h1,h2⟩:=rep_ptr hx
       exact ⟨_,by simp only [execOp,Sem.run_bind,hv,hrun,Result.andThen_ok,Sem.run_pure,add_off],.ptr h1 h2⟩
      ·rename_i hc;rw [hc] at hx
       obtain ⟨ad,hv,h1⟩:=rep_rd hx
       exact ⟨_,by simp only [execOp,Sem.run_bind,hv,hrun,Result.andThen_ok,Sem.run_pure],rd_drop h1⟩
      ·rename_i hc;rw [hc] at hx
       obtain ⟨bl,n,c,hv,h1,h2,h3⟩:=rep_el hx
       exact ⟨_,by simp only [execOp,Sem.run_bind,hv,hrun,Result.andThen_ok,Sem.run_pure,add_off],.el h1 h2 h3⟩
    ·cases h
   ·cases h
  ·cases h
 |field s x f=>
  simp only [evalP] at h
  have hx:=hρ x
  split at h
  ·rename_i fs sz by_ z cs hs hc
   rw [hc] at hx
   obtain ⟨vs,hv,h1,h2⟩:=rep_agg hx
   split at h
   ·rename_i fd hf
    split at h
    ·rename_i i hi
     obtain ⟨u,hu,hr⟩:=part_rep hi h1 h2 h
     refine ⟨u,?_,hr⟩
     simp only [execOp,Instr.field,Sem.run_bind,run_und hs,Result.andThen_ok,hf,hv,asAgg,Sem.run_pure,hu]
    ·cases h
   ·cases h
  ·cases h
 |extract x i=>
  simp only [evalP] at h
  have hx:=hρ x
  split at h
  ·rename_i cs hc
   rw [hc] at hx
   obtain ⟨vs,hv,h1,h2⟩:=rep_tup hx
   have hi:i<vs.size:=by
    have:=(List.getElem?_eq_some_iff.1 h).1
    omega
   refine ⟨vs[i],?_,h2 i _ _ h (by simp [hi])⟩
   simp [execOp,Instr.extract,hv,hi]
  ·cases h
 |indexAddr t x ix=>
  simp only [evalP] at h
  have hx:=hρ x
  have hix:=hρ ix
  split at h
  ·rename_i e sz by_ z n ht hn
   obtain ⟨k,hk⟩:=asInt_rep hn hix
   have hrun:∀(b:Option Addr) (len c:Nat) (ad:Addr) (i:TI),TT P e=some i→0≤n→n<len→b=some ad→
     (Instr.indexAt t (.slice b len c) (.int k n)).run P w= .ok (.pointer (some (ad.add (n.toNat*i.size)))) w:=by
    intro b len c ad i hi h0 h1 hb
    subst hb
    simp only [Instr.indexAt,asIntOf,Sem.run_bind,Sem.run_pure,Result.andThen_ok,run_und ht,Sem.run_ite,run_size hi]
    rw [if_pos ⟨h0,h1⟩]
   split at h
   ·rename_i i es hi hc
    rw [hc] at hx
    obtain ⟨b,c,hv,_,hr⟩:=rep_sl hx
    rw [hv] at hr
    obtain ⟨h0,h1,ad,hb,hra⟩:=elemRd_rep h hr
    exact ⟨_,by simp only [execOp,Sem.run_bind,hv,hk,hrun _ _ _ _ i hi h0 h1 hb,Result.andThen_ok,Sem.run_pure],hra⟩
   ·rename_i i es hi hc
    rw [hc] at hx
    obtain ⟨b,hv,hr⟩:=rep_fsl hx
    rw [hv] at hr
    obtain ⟨h0,h1,ad,hb,hra⟩:=elemRd_rep h hr
    exact ⟨_,by simp only [execOp,Sem.run_bind,hv,hk,hrun _ _ _ _ i hi h0 h1 hb,Result.andThen_ok,Sem.run_pure],hra⟩
   ·cases h
  ·rename_i len e sz by_ z n ht hn
   obtain ⟨k,hk⟩:=asInt_rep hn hix
   have hrun:∀(ad:Addr) (i:TI),TT P e=some i→0≤n→n<len→
     (Instr.indexAt t (.pointer (some ad)) (.int k n)).run P w= .ok (.pointer (some (ad.add (n.toNat*i.size)))) w:=by
    intro ad i hi h0 h1
    simp only [Instr.indexAt,asIntOf,Sem.run_bind,Sem.run_pure,Result.andThen_ok,run_und ht,Instr.sureAddr,Sem.run_ite,run_size hi]
    rw [if_pos ⟨h0,h1⟩]
   split at h
   ·rename_i i j b o hi hj hc
    cases h
    obtain ⟨h0,h1,rfl,_⟩:=idx_some hj
    rw [hc] at hx
    obtain ⟨bl,hv,h2,h3⟩:=rep_ptr hx
    exact ⟨_,by simp only [execOp,Sem.run_bind,hv,hk,hrun _ i hi h0 h1,Result.andThen_ok,Sem.run_pure,add_off],.ptr h2 h3⟩
   ·rename_i i j cs hi hj hc
    cases h
    obtain ⟨h0,h1,rfl,_⟩:=idx_some hj
    rw [hc] at hx
    obtain ⟨ad,hv,h2⟩:=rep_rd hx
    exact ⟨_,by simp only [execOp,Sem.run_bind,hv,hk,hrun _ i hi h0 h1,Result.andThen_ok,Sem.run_pure],rd_drop h2⟩
   ·cases h
  ·cases h
 |index t x ix=>
  simp only [evalP] at h
  have hx:=hρ x
  have hix:=hρ ix
  split at h
  ·rename_i len e sz by_ z n cs ht hn hc
   obtain ⟨k,hk⟩:=asInt_rep hn hix
   rw [hc] at hx
   obtain ⟨vs,hv,h1,h2⟩:=rep_agg hx
   split at h
   ·rename_i i j hi hj
    obtain ⟨h3,h4,rfl,_⟩:=idx_some hj
    obtain ⟨u,hu,hr⟩:=part_rep hi h1 h2 h
    refine ⟨u,?_,hr⟩
    simp only [execOp,Instr.index,Sem.run_bind,hk,asIntOf,Sem.run_pure,Result.andThen_ok,run_und ht,hv,Sem.run_ite,run_size hi,hu]
    rw [if_pos ⟨h3,h4⟩]
    rfl
   ·cases h
  ·rename_i sz by_ z n s ht hn hc
   obtain ⟨k,hk⟩:=asInt_rep hn hix
   rw [hc] at hx
   obtain ⟨hv,_⟩:=rep_v hx
   split at h
   ·rename_i j hj
    obtain ⟨h3,h4,rfl,_⟩:=idx_some hj
    split at h
    ·rename_i b hb'
     cases h
     refine ⟨_,?_,.t (.v rfl)⟩
     simp only [execOp,Instr.index,Sem.run_bind,hk,asIntOf,Sem.run_pure,Result.andThen_ok,run_und ht,hv,if_pos h3,hb']
    ·cases h
   ·cases h
  ·cases h
 |slice t x lo hi mx=>
  simp only [evalP] at h
  have hx:=hρ x
  obtain ⟨l1,l2⟩:=lookups lo hρ
  obtain ⟨l3,l4⟩:=lookups hi hρ
  obtain ⟨l5,l6⟩:=lookups mx hρ
  split at h
  ·rename_i e sz by_ z es ht hc
   split at h
   ·rename_i j hj
    split at h
    ·rename_i hsz
     rw [hc] at hx
     obtain ⟨b,c,hv,hle,hr⟩:=rep_sl hx
     rw [hv] at hr
     obtain ⟨u,hu,hra⟩:=cutT_run h ht rfl hj hle (fun e=>by cases e) hr hsz l1 l2 l3 l4 l5 l6
     exact ⟨u,by simp only [execOp,Sem.run_bind,hv,hu,Result.andThen_ok,Sem.run_pure],hra⟩
    ·cases h
   ·cases h
  ·rename_i e sz by_ z es ht hc
   split at h
   ·rename_i j hj
    split at h
    ·rename_i hsz
     rw [hc] at hx
     obtain ⟨b,hv,hr⟩:=rep_fsl hx
     rw [hv] at hr
     obtain ⟨u,hu,hra⟩:=cutT_run h ht rfl hj (Nat.le_refl _) (fun _=>rfl) hr hsz l1 l2 l3 l4 l5 l6
     exact ⟨u,by simp only [execOp,Sem.run_bind,hv,hu,Result.andThen_ok,Sem.run_pure],hra⟩
    ·cases h
   ·cases h
  ·rename_i sz by_ z s ht hc
   split at h
   ·cases h
   ·rename_i hmx
    cases mx with
    |some m=>simp at hmx
    |none=>
     rw [hc] at hx
     obtain ⟨hv,_⟩:=rep_v hx
     split at h
     ·rename_i hh hhb
      split at h
      ·rename_i l hlb
       cases h
       refine ⟨_,?_,.t (.v rfl)⟩
       have hb2:(Instr.sliceBounds false s.size s.size (lo.map ρ) (hi.map ρ) none).run P w= .ok (l,hh,s.size) w:=by
        rcases num_run hρ hhb with ⟨e1,rfl⟩ | ⟨m1,k1,e1⟩<;>rcases num_run hρ hlb with ⟨e2,rfl⟩ | ⟨m2,k2,e2⟩<;>
         simp only [Instr.sliceBounds,e1,e2,Sem.run_bind,Sem.run_pure,Result.andThen_ok,bound_int, *]
       simp only [execOp,Instr.sliceAt,Instr.slice,Sem.run_bind,run_und ht,Result.andThen_ok,hv,Option.map_none,Option.isSome_none,Bool.false_eq_true,if_false,hb2,Sem.run_pure]
      ·cases h
     ·cases h
  ·cases h
 |build t parts=>
  simp only [evalP] at h
  have hps:(parts.toList.map fun p=>(p.1,ρa p.2)).length=(parts.map fun (i,x)=>(i,ρ x)).toList.length:=by simp
  have hpr:∀(k:Nat) (a:Nat×AV) (q:Nat×Value),(parts.toList.map fun p=>(p.1,ρa p.2))[k]? =some a→(parts.map fun (i,x)=>(i,ρ x)).toList[k]? =some q→a.1=q.1∧RepA w C a.2 q.2:=by
   intro k a q ha hq
   simp only [List.getElem?_map,Array.toList_map,Option.map_eq_some_iff] at ha hq
   obtain ⟨p,hp,rfl⟩:=ha
   obtain ⟨p',hp',rfl⟩:=hq
   rw [hp] at hp'
   cases hp'
   exact ⟨rfl,hρ _⟩
  split at h
  ·rename_i fs sz by_ z ht
   split at h
   ·rename_i l hl
    obtain ⟨r,hr,rfl⟩:=Option.map_eq_some_iff.1 h
    obtain ⟨h1,h2⟩:=zero_rep (w:=w) (C:=C) ⟨.struct fs,sz,by_,z⟩
    obtain ⟨us,hus,h3,h4⟩:=fill_rep hps hpr h1 h2 hr
    refine ⟨.agg us,?_,.agg h3 h4⟩
    have hm:(fs.mapM fun (f:Field)=>(do pure (f.offset,←sizeOf f.type):Sem (Nat×Nat))).run P w= .ok l.toArray w:=by
     rw [Array.mapM_eq_mapM_toList,Sem.run_map,places_run hl w]
     rfl
    have hus':Instr.fill (fun x=>l.toArray[x]?) z.cells (parts.map fun (i,x)=>(i,ρ x)).toList=some us:=by
     rw [←hus]
     congr 1
     funext x
     simp
    simp only [execOp,Instr.build,Sem.run_bind,run_zero ht,run_und ht,Result.andThen_ok,hm,hus',Sem.run_pure]
   ·cases h
  ·rename_i n e sz by_ z ht
   split at h
   ·rename_i i hi
    obtain ⟨r,hr,rfl⟩:=Option.map_eq_some_iff.1 h
    obtain ⟨h1,h2⟩:=zero_rep (w:=w) (C:=C) ⟨.array n e,sz,by_,z⟩
    obtain ⟨us,hus,h3,h4⟩:=fill_rep hps hpr h1 h2 hr
    refine ⟨.agg us,?_,.agg h3 h4⟩
    simp only [execOp,Instr.build,Sem.run_bind,run_zero ht,run_und ht,run_size hi,Result.andThen_ok,hus,Sem.run_pure]
   ·cases h
  ·cases h
 |call c=>
  simp only [evalP] at h
  have hv:execOp ρ ⟨dst,.call c,type,pos,after,guard⟩=(do let d ←resolve ρ c type;invoke d.target d.args):=rfl
  unfold evalB at h
  split at h
  ·rename_i hf
   split at h
   ·rename_i x t hargs htys
    have e1:c.args= #[x]:=by rw [←Array.toArray_toList (xs:=c.args),hargs]
    have e2:c.argTypes= #[t]:=by rw [←Array.toArray_toList (xs:=c.argTypes),htys]
    have hx:=hρ x
    have hrun:∀(u:Value),(Builtin.len_ #[t] type #[ρ x]).run P w= .ok u w→(execOp ρ ⟨dst,.call c,type,pos,after,guard⟩).run P w= .ok (.value u) w:=by
     intro u hu
     rw [hv]
     simp only [resolve,hf,Sem.run_bind,Sem.run_pure,Result.andThen_ok,invoke,builtin,e1,e2,List.map_toArray,List.map_cons,List.map_nil,hu]
    split at h
    ·rename_i ht hc
     cases h
     rw [hc] at hx
     obtain ⟨hx,_⟩:=rep_v hx
     exact ⟨_,hrun _ (by simp [Builtin.len_,run_und ht,hx,goInt]),.t (.v rfl)⟩
    ·rename_i ht hc
     cases h
     rw [hc] at hx
     obtain ⟨a,c',hx,_⟩:=rep_sl hx
     exact ⟨_,hrun _ (by simp [Builtin.len_,run_und ht,hx,goInt]),.t (.v rfl)⟩
    ·rename_i ht hc
     cases h
     rw [hc] at hx
     obtain ⟨a,hx,_⟩:=rep_fsl hx
     exact ⟨_,hrun _ (by simp [Builtin.len_,run_und ht,hx,goInt]),.t (.v rfl)⟩
    ·rename_i ht
     cases h
     refine ⟨_,hrun _ ?_,.t (.v rfl)⟩
     simp only [Builtin.len_,run_und ht,goInt,Sem.run_bind,Result.andThen_ok,List.getElem?_toArray,List.getElem?_cons_zero]
     simp
    ·cases h
   ·cases h
  ·rename_i hf
   obtain ⟨hl,hr⟩:=map_rep hρ c.args
   split at h
   ·rename_i k n r hm
    obtain ⟨m,hmin,rfl⟩:=Option.map_eq_some_iff.1 h
    refine ⟨.int k m,?_,.t (.v rfl)⟩
    rw [hm] at hl hr
    have hargs:(c.args.map ρ).toList= .int k n :: (c.args.map ρ).toList.tail:=by
     cases hz:(c.args.map ρ).toList with
     |nil=>rw [←Array.length_toList,hz] at hl;simp at hl
     |cons z zs=>
      have h0:=hr 0 _ z rfl (by rw [←Array.getElem?_toList,hz];rfl)
      obtain ⟨rfl,_⟩:=rep_v h0
      rfl
    have hrun:=minI_run (P:=P) (w:=w) (C:=C) _ Builtin.max2 (fun k x k' y=>by simp only [Builtin.max2,decide_eq_true_eq]) k r (c.args.map ρ).toList.tail n m
     (by have:=hl;rw [←Array.length_toList,hargs] at this;simpa using this) (fun j a u ha hu=>hr (j+1) a u ha (by rw [←Array.getElem?_toList,hargs];exact hu)) hmin
    rw [hv]
    simp only [resolve,hf,Sem.run_bind,Sem.run_pure,Result.andThen_ok,invoke,builtin,Builtin.max_]
    rw [hargs]
    simp only [hrun,Result.andThen_ok,Sem.run_pure,Sem.run_bind]
   ·cases h
  ·rename_i hf
   obtain ⟨hl,hr⟩:=map_rep hρ c.args
   split at h
   ·rename_i k n r hm
    obtain ⟨m,hmin,rfl⟩:=Option.map_eq_some_iff.1 h
    refine ⟨.int k m,?_,.t (.v rfl)⟩
    rw [hm] at hl hr
    have hargs:(c.args.map ρ).toList= .int k n :: (c.args.map ρ).toList.tail:=by
     cases hz:(c.args.map ρ).toList with
     |nil=>rw [←Array.length_toList,hz] at hl;simp at hl
     |cons z zs=>
      have h0:=hr 0 _ z rfl (by rw [←Array.getElem?_toList,hz];rfl)
      obtain ⟨rfl,_⟩:=rep_v h0
      rfl
    have hrun:=minI_run (P:=P) (w:=w) (C:=C) _ Builtin.min2 (fun k x k' y=>by simp only [Builtin.min2,decide_eq_true_eq]) k r (c.args.map ρ).toList.tail n m
     (by have:=hl;rw [←Array.length_toList,hargs] at this;simpa using this) (fun j a u ha hu=>hr (j+1) a u ha (by rw [←Array.getElem?_toList,hargs];exact hu)) hmin
    rw [hv]
    simp only [resolve,hf,Sem.run_bind,Sem.run_pure,Result.andThen_ok,invoke,builtin,Builtin.min_]
    rw [hargs]
    simp only [hrun,Result.andThen_ok,Sem.run_pure,Sem.run_bind]
   ·cases h
  ·cases h
 |buildSlice t n ps=>exact absurd rfl (hb t n ps)
 |_=>simp only [evalP] at h;cases h
end
end Go.Proofs.YtnoifgjiipgpoaaGreatDoor.R

namespace Go.Proofs.YtnoifgjiipgpoaaGreatDoor.R
open Go.RowKit
section
variable {P:Program} {w:World} {C:Ctx} {σ:Nat→AObj}
theorem own_lt (hs:Sim C σ w) {i b:Nat} (hi:σ i≠ .dead) (ho:C.own i=some b):b<w.heap.size:=by
 have h:=hs.obj i
 have lt:∀{o:Obj},w.heap[b]? =some o→b<w.heap.size:=fun h=>(Array.getElem?_eq_some_iff.1 h).1
 cases hσ:σ i with
 |dead=>exact absurd hσ hi
 |box cs=>rw [hσ] at h;obtain ⟨bl,vs,E,h1,h2,_⟩:=h;rw [ho] at h1;cases h1;exact lt h2
 |arr sz es=>
  rw [hσ] at h
  obtain ⟨_,⟨_,h1,_⟩ | ⟨bl,cap,vs,E,lo,hi',h1,_,_,h2,_⟩⟩:=h
  ·rw [ho] at h1;cases h1
  ·rw [ho] at h1;cases h1;exact lt h2
 |map es=>rw [hσ] at h;obtain ⟨bl,ms,c,h1,h2,_⟩:=h;rw [ho] at h1;cases h1;exact lt h2
 |iter s k=>rw [hσ] at h;obtain ⟨bl,h1,h2⟩:=h;rw [ho] at h1;cases h1;exact lt h2
 |loop st n m ps avs bd=>rw [hσ] at h;obtain ⟨bl,r,h1,h2,_⟩:=h;rw [ho] at h1;cases h1;exact lt h2
theorem live_lt (hs:Sim C σ w) {i:Nat} (hi:σ i≠ .dead):i<C.nx:=
 Nat.lt_of_not_le fun h=>hi (hs.dead i h)
theorem push_old (w:World) (o:Obj) {b:Nat} (h:b<w.heap.size):({w with heap:=w.heap.push o}:World).heap[b]? =w.heap[b]?:=by
 show (w.heap.push o)[b]? =_
 rw [Array.getElem?_push,if_neg (by omega)]
theorem push_new (w:World) (o:Obj):({w with heap:=w.heap.push o}:World).heap[w.heap.size]? =some o:=by
 show (w.heap.push o)[w.heap.size]? =_
 rw [Array.getElem?_push,if_pos rfl]
theorem sim_imm (hs:Sim C σ w) (o:Obj):Sim {C with imm:=fun b=>C.imm b∨b=w.heap.size} σ {w with heap:=w.heap.push o}∧
  Step C σ w {C with imm:=fun b=>C.imm b∨b=w.heap.size} σ {w with heap:=w.heap.push o}:=by
 have hk:Keeps w C.imm {w with heap:=w.heap.push o} (fun b=>C.imm b∨b=w.heap.size):=⟨fun b h=>.inl h,fun b h=>push_old w o (hs.imm_lt b h)⟩
 have hc:CtxLe C {C with imm:=fun b=>C.imm b∨b=w.heap.size}:=⟨Nat.le_refl _,fun _ _=>rfl,fun _ _=>rfl⟩
 refine ⟨⟨hs.dead,fun i=>?_,hs.inj,fun i b hi ho=>?_,fun b h=>?_⟩,⟨hc,rfl,rfl,rfl,by simp,fun b h=>.inl h,fun b hb _=>push_old w o hb,fun b h=>.inl h,fun b h=>?_⟩⟩
 ·by_cases hi:σ i= .dead
  ·rw [hi];exact True.intro
  ·exact (hs.obj i).step hk hc (live_lt hs hi) (fun b ho=>push_old w o (own_lt hs hi ho))
 ·rintro (h | rfl)
  ·exact hs.sep i b hi ho h
  ·exact absurd (own_lt hs hi ho) (Nat.lt_irrefl _)
 ·rcases h with h | rfl
  ·have:=hs.imm_lt b h;simp;omega
  ·simp
 ·rcases h with h | rfl
  ·exact .inl h
  ·exact .inr (.inr (Nat.le_refl _))
theorem sim_imm' (hs:Sim C σ w) {w':World} (h1:w'.os=w.os) (h2:w'.tape=w.tape) (h3:w'.output=w.output) (hsz:w'.heap.size=w.heap.size+1) (hh:∀b,b<w.heap.size→w'.heap[b]? =w.heap[b]?):
  Sim {C with imm:=fun b=>C.imm b∨b=w.heap.size} σ w'∧Step C σ w {C with imm:=fun b=>C.imm b∨b=w.heap.size} σ w':=by
 have hk:Keeps w C.imm w' (fun b=>C.imm b∨b=w.heap.size):=⟨fun b h=>.inl h,fun b h=>hh b (hs.imm_lt b h)⟩
 have hc:CtxLe C {C with imm:=fun b=>C.imm b∨b=w.heap.size}:=⟨Nat.le_refl _,fun _ _=>rfl,fun _ _=>rfl⟩
 refine ⟨⟨hs.dead,fun i=>?_,hs.inj,fun i b hi ho=>?_,fun b h=>?_⟩,⟨hc,h1,h2,h3,by omega,fun b h=>.inl h,fun b hb _=>hh b hb,fun b h=>.inl h,fun b h=>?_⟩⟩
 ·by_cases hi:σ i= .dead
  ·rw [hi];exact True.intro
  ·exact (hs.obj i).step hk hc (live_lt hs hi) (fun b ho=>hh b (own_lt hs hi ho))
 ·rintro (h | rfl)
  ·exact hs.sep i b hi ho h
  ·exact absurd (own_lt hs hi ho) (Nat.lt_irrefl _)
 ·rcases h with h | rfl
  ·have:=hs.imm_lt b h;omega
  ·omega
 ·rcases h with h | rfl
  ·exact .inl h
  ·exact .inr (.inr (Nat.le_refl _))
theorem sim_world (hs:Sim C σ w) {w':World} (hh:w'.heap=w.heap) (h1:w'.os=w.os) (h2:w'.tape=w.tape) (h3:w'.output=w.output):Sim C σ w'∧Step C σ w C σ w':=by
 have hk:Keeps w C.imm w' C.imm:=⟨fun b h=>h,fun b h=>by rw [hh]⟩
 have hc:CtxLe C C:=⟨Nat.le_refl _,fun _ _=>rfl,fun _ _=>rfl⟩
 refine ⟨⟨hs.dead,fun i=>?_,hs.inj,hs.sep,fun b h=>by rw [hh];exact hs.imm_lt b h⟩,⟨hc,h1,h2,h3,by rw [hh];exact Nat.le_refl _,fun b h=>h,fun b _ _=>by rw [hh],fun b h=>.inl h,fun b h=>.inl h⟩⟩
 by_cases hi:σ i= .dead
 ·rw [hi];exact True.intro
 ·exact (hs.obj i).step hk hc (live_lt hs hi) (fun b ho=>by rw [hh])
theorem sim_new (hs:Sim C σ w) (o:Obj) (obj:AObj) (h:Value) (C':Ctx) (hC:C'=⟨C.imm,fun i=>if i=C.nx then some w.heap.size else C.own i,fun i=>if i=C.nx then h else C.hdr i,C.nx+1⟩)
  (hr:RepO {w with heap:=w.heap.push o} C' C.nx obj):
  Sim C' (fun i=>if i=C.nx then obj else σ i) {w with heap:=w.heap.push o}∧Step C σ w C' (fun i=>if i=C.nx then obj else σ i) {w with heap:=w.heap.push o}:=by
 have himm:C'.imm=C.imm:=by rw [hC]
 have hk:Keeps w C.imm {w with heap:=w.heap.push o} C'.imm:=⟨fun b h=>by rw [himm];exact h,fun b h=>push_old w o (hs.imm_lt b h)⟩
 have hc:CtxLe C C':=by
  subst hC
  exact ⟨Nat.le_succ _,fun i hi=>if_neg (by omega),fun i hi=>if_neg (by omega)⟩
 have hnx:C'.nx=C.nx+1:=by rw [hC]
 have hown:∀i,C'.own i=if i=C.nx then some w.heap.size else C.own i:=fun i=>by rw [hC]
 refine ⟨⟨fun i hi=>?_,fun i=>?_,fun i j b hi hj h1 h2=>?_,fun i b hi ho=>?_,fun b h=>?_⟩,⟨hc,rfl,rfl,rfl,by simp,fun b h=>by rw [himm];exact h,fun b hb _=>push_old w o hb,fun b h=>?_,fun b h=>by rw [himm] at h;exact .inl h⟩⟩
 ·rw [hnx] at hi
  show (if i=C.nx then obj else σ i)=_
  rw [if_neg (by omega)]
  exact hs.dead i (by omega)
 ·by_cases hi:i=C.nx
  ·subst hi;simp only [if_true];exact hr
  ·simp only [if_neg hi]
   by_cases hd:σ i= .dead
   ·rw [hd];exact True.intro
   ·exact (hs.obj i).step hk hc (live_lt hs hd) (fun b ho=>push_old w o (own_lt hs hd ho))
 ·rw [hown] at h1 h2
  by_cases ei:i=C.nx<;>by_cases ej:j=C.nx
  ·omega
  ·simp only [if_pos ei,if_neg ej] at h1 h2 hj
   have:=own_lt hs hj h2
   cases h1;omega
  ·simp only [if_neg ei,if_pos ej] at h1 h2 hi
   have:=own_lt hs hi h1
   cases h2;omega
  ·simp only [if_neg ei,if_neg ej] at h1 h2 hi hj
   exact hs.inj i j b hi hj h1 h2
 ·rw [himm]
  rw [hown] at ho
  by_cases ei:i=C.nx
  ·rw [if_pos ei] at ho;cases ho
   intro h;exact Nat.lt_irrefl _ (hs.imm_lt _ h)
  ·simp only [if_neg ei] at ho hi
   exact hs.sep i b hi ho
 ·rw [himm] at h
  have:=hs.imm_lt b h;simp;omega
 ·obtain ⟨i,hi,ho⟩:=h
  rw [hown] at ho
  by_cases ei:i=C.nx
  ·rw [if_pos ei] at ho;cases ho
   exact .inr (Nat.le_refl _)
  ·simp only [if_neg ei] at ho hi
   exact .inl ⟨i,hi,ho⟩
theorem sim_new0 (hs:Sim C σ w) (obj:AObj) (h:Value) (C':Ctx) (hC:C'=⟨C.imm,fun i=>if i=C.nx then none else C.own i,fun i=>if i=C.nx then h else C.hdr i,C.nx+1⟩)
  (hr:RepO w C' C.nx obj):
  Sim C' (fun i=>if i=C.nx then obj else σ i) w∧Step C σ w C' (fun i=>if i=C.nx then obj else σ i) w:=by
 have himm:C'.imm=C.imm:=by rw [hC]
 have hk:Keeps w C.imm w C'.imm:=⟨fun b h=>by rw [himm];exact h,fun b h=>rfl⟩
 have hc:CtxLe C C':=by
  subst hC
  exact ⟨Nat.le_succ _,fun i hi=>if_neg (by omega),fun i hi=>if_neg (by omega)⟩
 have hnx:C'.nx=C.nx+1:=by rw [hC]
 have hown:∀i,C'.own i=if i=C.nx then none else C.own i:=fun i=>by rw [hC]
 refine ⟨⟨fun i hi=>?_,fun i=>?_,fun i j b hi hj h1 h2=>?_,fun i b hi ho=>?_,fun b h=>?_⟩,⟨hc,rfl,rfl,rfl,Nat.le_refl _,fun b h=>by rw [himm];exact h,fun b hb _=>rfl,fun b h=>?_,fun b h=>by rw [himm] at h;exact .inl h⟩⟩
 ·rw [hnx] at hi
  show (if i=C.nx then obj else σ i)=_
  rw [if_neg (by omega)]
  exact hs.dead i (by omega)
 ·by_cases hi:i=C.nx
  ·subst hi;simp only [if_true];exact hr
  ·simp only [if_neg hi]
   by_cases hd:σ i= .dead
   ·rw [hd];exact True.intro
   ·exact (hs.obj i).step hk hc (live_lt hs hd) (fun b ho=>rfl)
 ·rw [hown] at h1 h2
  by_cases ei:i=C.nx<;>by_cases ej:j=C.nx
  ·omega
  ·simp only [if_pos ei] at h1;cases h1
  ·simp only [if_pos ej] at h2;cases h2
  ·simp only [if_neg ei,if_neg ej] at h1 h2 hi hj
   exact hs.inj i j b hi hj h1 h2
 ·rw [himm]
  rw [hown] at ho
  by_cases ei:i=C.nx
  ·rw [if_pos ei] at ho;cases ho
  ·simp only [if_neg ei] at ho hi
   exact hs.sep i b hi ho
 ·rw [himm] at h
  exact hs.imm_lt b h
 ·obtain ⟨i,hi,ho⟩:=h
  rw [hown] at ho
  by_cases ei:i=C.nx
  ·rw [if_pos ei] at ho;cases ho
  ·simp only [if_neg ei] at ho hi
   exact .inl ⟨i,hi,ho⟩
theorem sim_set (hs:Sim C σ w) {i bl:Nat} (hi:σ i≠ .dead) (ho:C.own i=some bl) {w':World} (h1:w'.os=w.os) (h2:w'.tape=w.tape) (h3:w'.output=w.output) (hsz:w'.heap.size=w.heap.size)
  (hh:∀b,b≠bl→w'.heap[b]? =w.heap[b]?) {obj:AObj} (hr:RepO w' C i obj):
  Sim C (fun j=>if j=i then obj else σ j) w'∧Step C σ w C (fun j=>if j=i then obj else σ j) w':=by
 have hk:Keeps w C.imm w' C.imm:=⟨fun b h=>h,fun b h=>hh b fun e=>hs.sep i bl hi ho (e ▸ h)⟩
 have hc:CtxLe C C:=⟨Nat.le_refl _,fun _ _=>rfl,fun _ _=>rfl⟩
 have hin:=live_lt hs hi
 refine ⟨⟨fun j hj=>?_,fun j=>?_,fun j k b hj hk' e1 e2=>?_,fun j b hj hb=>?_,fun b h=>by rw [hsz];exact hs.imm_lt b h⟩,
  ⟨hc,h1,h2,h3,by omega,fun b h=>h,fun b hb hm=>hh b fun e=>hm ⟨i,hi,e ▸ ho⟩,fun b h=>?_,fun b h=>.inl h⟩⟩
 ·show (if j=i then obj else σ j)=_
  rw [if_neg (by omega)]
  exact hs.dead j hj
 ·by_cases ej:j=i
  ·subst ej;simp only [if_true];exact hr
  ·simp only [if_neg ej]
   by_cases hd:σ j= .dead
   ·rw [hd];exact True.intro
   ·exact (hs.obj j).step hk hc (live_lt hs hd) (fun b hb=>hh b fun e=>ej (hs.inj j i bl hd hi (e ▸ hb) ho))
 ·have l1:σ j≠ .dead:=by
   by_cases ej:j=i
   ·rw [ej];exact hi
   ·simpa only [if_neg ej] using hj
  have l2:σ k≠ .dead:=by
   by_cases ek:k=i
   ·rw [ek];exact hi
   ·simpa only [if_neg ek] using hk'
  exact hs.inj j k b l1 l2 e1 e2
 ·have l1:σ j≠ .dead:=by
   by_cases ej:j=i
   ·rw [ej];exact hi
   ·simpa only [if_neg ej] using hj
  exact hs.sep j b l1 hb
 ·obtain ⟨j,hj,hb⟩:=h
  have l1:σ j≠ .dead:=by
   by_cases ej:j=i
   ·rw [ej];exact hi
   ·simpa only [if_neg ej] using hj
  exact .inl ⟨j,l1,hb⟩
theorem sim_kill (hs:Sim C σ w) (i:Nat):Sim C (fun j=>if j=i then .dead else σ j) w∧Step C σ w C (fun j=>if j=i then .dead else σ j) w:=by
 have live:∀j,(if j=i then AObj.dead else σ j)≠ .dead→j≠i∧σ j≠ .dead:=by
  intro j hj
  by_cases ej:j=i
  ·rw [if_pos ej] at hj;exact absurd rfl hj
  ·rw [if_neg ej] at hj;exact ⟨ej,hj⟩
 refine ⟨⟨fun j hj=>?_,fun j=>?_,fun j k b hj hk e1 e2=>hs.inj j k b (live j hj).2 (live k hk).2 e1 e2,fun j b hj hb=>hs.sep j b (live j hj).2 hb,hs.imm_lt⟩,
  ⟨⟨Nat.le_refl _,fun _ _=>rfl,fun _ _=>rfl⟩,rfl,rfl,rfl,Nat.le_refl _,fun b h=>h,fun b _ _=>rfl,fun b ⟨j,hj,hb⟩=>.inl ⟨j,(live j hj).2,hb⟩,fun b h=>.inl h⟩⟩
 ·split
  ·rfl
  ·exact hs.dead j hj
 ·by_cases ej:j=i
  ·simp only [if_pos ej];exact True.intro
  ·simp only [if_neg ej];exact hs.obj j
theorem sim_freeze (hs:Sim C σ w) (i:Nat) (hi:σ i≠ .dead) (C':Ctx) (hC:C'={C with imm:=fun b=>C.imm b∨C.own i=some b}):
  Sim C' (fun j=>if j=i then .dead else σ j) w∧Step C σ w C' (fun j=>if j=i then .dead else σ j) w:=by
 have live:∀j,(if j=i then AObj.dead else σ j)≠ .dead→j≠i∧σ j≠ .dead:=by
  intro j hj
  by_cases ej:j=i
  ·rw [if_pos ej] at hj;exact absurd rfl hj
  ·rw [if_neg ej] at hj;exact ⟨ej,hj⟩
 have hk:Keeps w C.imm w C'.imm:=by subst hC;exact ⟨fun b h=>.inl h,fun b h=>rfl⟩
 have hc:CtxLe C C':=by subst hC;exact ⟨Nat.le_refl _,fun _ _=>rfl,fun _ _=>rfl⟩
 have hown:C'.own=C.own:=by rw [hC]
 have himm:∀b,C'.imm b↔(C.imm b∨C.own i=some b):=fun b=>by rw [hC]
 refine ⟨⟨fun j hj=>?_,fun j=>?_,fun j k b hj hk e1 e2=>hs.inj j k b (live j hj).2 (live k hk).2 (hown ▸ e1) (hown ▸ e2),fun j b hj hb h=>?_,fun b h=>?_⟩,
  ⟨hc,rfl,rfl,rfl,Nat.le_refl _,fun b h=>(himm b).2 (.inl h),fun b _ _=>rfl,fun b ⟨j,hj,hb⟩=>.inl ⟨j,(live j hj).2,hown ▸ hb⟩,fun b h=>?_⟩⟩
 ·split
  ·rfl
  ·exact hs.dead j (by subst hC;exact hj)
 ·by_cases ej:j=i
  ·simp only [if_pos ej];exact True.intro
  ·simp only [if_neg ej]
   by_cases hd:σ j= .dead
   ·rw [hd];exact True.intro
   ·exact (hs.obj j).step hk hc (live_lt hs hd) (fun b hb=>rfl)
 ·rw [hown] at hb
  rcases (himm b).1 h with h | h
  ·exact hs.sep j b (live j hj).2 hb h
  ·exact (live j hj).1 (hs.inj j i b (live j hj).2 hi hb h)
 ·rcases (himm b).1 h with h | h
  ·exact hs.imm_lt b h
  ·exact own_lt hs hi h
 ·rcases (himm b).1 h with h | h
  ·exact .inl h
  ·exact .inr (.inl ⟨i,hi,h⟩)
end
end Go.Proofs.YtnoifgjiipgpoaaGreatDoor.R

namespace Go.Proofs.YtnoifgjiipgpoaaGreatDoor.R
open Go.RowKit
section
variable {P:Program} {w:World} {C:Ctx} {σ:Nat→AObj} {ρa:Operand→AV} {ρ:Operand→Value}
def Meets (r:Result Next) (C:Ctx) (σ:Nat→AObj) (w:World) (v:AV) (σ':Nat→AObj) (nx':Nat):Prop:=
 ∃C' w' u,(r= .ok (.value u) w'∨(r= .ok .skip w'∧u=undef))∧Step C σ w C' σ' w'∧Sim C' σ' w'∧C'.nx=nx'∧RepA w' C' v u
theorem cell_in {bl:Nat} {vs:Array Value} {E:TypeId} {fr:Nat×Nat} (h:w.heap[bl]? =some (.cells vs E fr)) (k:Nat):w.cell? ⟨bl,k,none⟩=vs[k]?:=by
 simp [World.cell?,h]
theorem run_loadVar {t:TypeId} {i:TI} (h:TT P t=some i) (a:Addr) (f:Nat→Value) (hf:∀j,j<(if i.isAgg then i.size else 1)→w.cell? (a.add j)=some (f j)):
  (loadVar t a).run P w= .ok (if i.isAgg then .agg ((List.range i.size).map f).toArray else f 0) w:=by
 simp only [loadVar,Sem.run_bind,run_isAgg h,Result.andThen_ok,run_size h]
 by_cases ha:i.isAgg=true
 ·simp only [ha,if_true] at hf ⊢
  simp only [Sem.run_bind,run_size h,Result.andThen_ok,run_loadCells w a i.size f hf,Sem.run_pure]
 ·simp only [ha,if_false] at hf ⊢
  have h0:=hf 0 (by simp)
  rw [add_zero'] at h0
  simp [h0]
theorem load_rep {t:TypeId} {i:TI} (h:TT P t=some i) {a:Addr} {cs:List AV} {o:Nat} {v:AV} (hc:∀(k:Nat) (x:AV),cs[o+k]? =some x→∃u,w.cell? (a.add k)=some u∧RepA w C x u)
  (hp:partA i cs o=some v):∃u,(loadVar t a).run P w= .ok u w∧RepA w C v u:=by
 have hx:∀k,o+k<cs.length→∃u,w.cell? (a.add k)=some u∧RepA w C (cs.getD (o+k) .any) u:=by
  intro k hk
  obtain ⟨u,h1,h2⟩:=hc k _ (List.getElem?_eq_getElem hk)
  exact ⟨u,h1,by simpa [List.getD_eq_getElem?_getD,hk] using h2⟩
 unfold partA at hp
 by_cases ha:i.isAgg=true
 ·simp only [ha,if_true] at hp
  split at hp<;>cases hp
  rename_i hle
  have hf:∀j,j<(if i.isAgg then i.size else 1)→w.cell? (a.add j)=some ((w.cell? (a.add j)).getD default):=by
   intro j hj
   rw [if_pos ha] at hj
   obtain ⟨u,h1,_⟩:=hx j (by omega)
   rw [h1];rfl
  refine ⟨_,run_loadVar h a _ hf,?_⟩
  rw [if_pos ha]
  refine .agg (by simp;omega) fun k x u hk hu=>?_
  rw [List.getElem?_take] at hk
  split at hk
  ·rename_i hlt
   rw [List.getElem?_drop] at hk
   obtain ⟨u',h1,h2⟩:=hc k x hk
   simp only [List.getElem?_toArray,List.getElem?_map,List.getElem?_range hlt,Option.map_some,h1,Option.getD_some,Option.some.injEq] at hu
   rw [←hu];exact h2
  ·cases hk
 ·simp only [ha] at hp
  obtain ⟨u,h1,h2⟩:=hc 0 v hp
  refine ⟨u,?_,h2⟩
  rw [run_loadVar h a (fun _=>u) (fun j hj=>by rw [if_neg ha] at hj;rw [show j=0 by omega];exact h1),if_neg ha]
theorem run_stores (g o:Nat) (E:TypeId) (lo hi:Nat):∀(vs:List Value) (i:Nat) (cur:Array Value) (w:World),w.heap[g]? =some (.cells cur E (lo,hi))→o+i+vs.length≤cur.size→
  (∀v∈vs,v.oneCell'=true)→(lo=hi∨cur.size≤lo)→
  ∃w' cur',(storeCells ⟨g,o,none⟩ vs i).run P w= .ok () w'∧w'.heap[g]? =some (.cells cur' E (lo,hi))∧cur'.size=cur.size∧
   (∀k,cur'[k]? =if o+i≤k∧k<o+i+vs.length then vs[k-(o+i)]? else cur[k]?)∧(∀b,b≠g→w'.heap[b]? =w.heap[b]?)∧w'.heap.size=w.heap.size∧w'.os=w.os∧w'.tape=w.tape∧w'.output=w.output:=by
 intro vs
 induction vs with
 |nil=>
  intro i cur w h _ _ _
  exact ⟨w,cur,rfl,h,rfl,fun k=>by rw [if_neg (by simp only [List.length_nil];omega)],fun _ _=>rfl,rfl,rfl,rfl,rfl⟩
 |cons v vs ih=>
  intro i cur w h hlen h1 hfr
  simp only [List.length_cons] at hlen
  have hc:w.cell? ⟨g,o+i,none⟩=some (cur[o+i]'(by omega)):=by rw [cell_in h,Array.getElem?_eq_getElem]
  have hf:w.frozen? ⟨g,o+i,none⟩=false:=by
   simp only [World.frozen?,h]
   rcases hfr with rfl | hfr
   ·simp
   ·simp;omega
  have hg:g<w.heap.size:=(Array.getElem?_eq_some_iff.1 h).1
  have hw:(w.setCell ⟨g,o+i,none⟩ v).heap[g]? =some (.cells (cur.setIfInBounds (o+i) v) E (lo,hi)):=by
   simp only [World.setCell,Array.getElem?_modify,if_true,h,Option.map_some]
   rfl
  obtain ⟨w',cur',e1,e2,e3,e4,e5,e6,e7,e8,e9⟩:=ih (i+1) (cur.setIfInBounds (o+i) v) (w.setCell ⟨g,o+i,none⟩ v) hw (by simp;omega) (fun x hx=>h1 x (List.mem_cons_of_mem _ hx)) (by simpa using hfr)
  refine ⟨w',cur',?_,e2,by simpa using e3,fun k=>?_,fun b hb=>(e5 b hb).trans (Below.heap_setCell _ _ _ _ (by simpa using hb)),by rw [e6];simp [World.setCell],e7,e8,e9⟩
  ·simp only [storeCells,Sem.run_bind,add_off,run_store P w _ v .plain (h1 v (List.mem_cons_self)),hc,hf,Result.andThen_ok]
   exact e1
  ·rw [e4 k]
   by_cases hk:o+(i+1)≤k∧k<o+(i+1)+vs.length
   ·rw [if_pos hk,if_pos (by simp only [List.length_cons];omega)]
    obtain ⟨j,rfl⟩:∃j,k=o+i+1+j:=⟨k-(o+i+1),by omega⟩
    rw [show o+i+1+j-(o+(i+1))=j by omega,show o+i+1+j-(o+i)=j+1 by omega,List.getElem?_cons_succ]
   ·rw [if_neg hk]
    by_cases hk2:k=o+i
    ·subst hk2
     rw [if_pos (by simp),Nat.sub_self,List.getElem?_cons_zero,Array.getElem?_setIfInBounds_self_of_lt (by omega)]
    ·rw [if_neg (by simp only [List.length_cons];omega),Array.getElem?_setIfInBounds_ne (by omega)]
theorem leafs_one {cs:List AV} {vs:Array Value} (hl:cs.length=vs.size) (hr:∀(k:Nat) (a:AV) (u:Value),cs[k]? =some a→vs[k]? =some u→RepA w C a u) (h:∀a∈cs,leaf a=true):∀v∈vs.toList,v.oneCell'=true:=by
 intro v hv
 obtain ⟨k,hk,rfl⟩:=List.getElem_of_mem hv
 have hk':k<cs.length:=by rw [hl];simpa using hk
 have:=hr k _ (vs.toList[k]) (List.getElem?_eq_getElem hk') (by simp at hk;simp [hk])
 exact (rep_leaf this (h _ (List.getElem_mem hk'))).2
def Elems (w:World) (imm:Nat→Prop) (es:List (List T)) (sz:Nat) (a:Option Addr):Prop:=
 (∀e∈es,e.length=sz)∧(0<es.length→∃ad,a=some ad∧∀(j k:Nat) (e:List T) (c:T),es[j]? =some e→e[k]? =some c→∃u,w.cell? (ad.add (j*sz+k))=some u∧RepT w imm c u)
theorem sl_elems {es:List (List T)} {a:Option Addr} {c sz:Nat} (h:RepT w C.imm (.sl es) (.slice a es.length c)) (hsz:∀e∈es,e.length=sz):Elems w C.imm es sz a:=by
 refine ⟨hsz,fun h0=>?_⟩
 generalize hx:T.sl es=x at h
 generalize hv:Value.slice a es.length c=v at h
 cases h with
 |v h=>cases hx
 |nil=>cases hx;simp at h0
 |@sl es' ad cap sz' u h1 hsz' hc hi hcell hr=>
  cases hx
  cases hv
  have:sz=sz':=by
   have hm:es[0]∈es:=List.getElem_mem h0
   rw [←hsz _ hm,hsz' _ hm]
  subst this
  refine ⟨ad,rfl,fun j k e c he hc'=>⟨u (j*sz+k),hcell _ ?_,hr j k e c he hc'⟩⟩
  have hj:j<es.length:=(List.getElem?_eq_some_iff.1 he).1
  have hk:k<e.length:=(List.getElem?_eq_some_iff.1 hc').1
  rw [hsz _ (List.mem_of_getElem? he)] at hk
  have:(j+1)*sz≤es.length*sz:=Nat.mul_le_mul_right _ hj
  rw [Nat.add_mul,Nat.one_mul] at this
  omega
theorem arr_elems {q sz:Nat} {es:List (List T)} (h:RepO w C q (.arr sz es)) {a:Option Addr} {n c:Nat} (hh:C.hdr q= .slice a n c):n=es.length∧es.length≤c∧Elems w C.imm es sz a:=by
 obtain ⟨hsz,⟨h0,_,a',h2⟩ | ⟨bl,cap,vs,E,lo,hi,h1,h2,h3,h4,h5,h6,h7⟩⟩:=h
 ·rw [hh] at h2;cases h2;subst h0;exact ⟨rfl,Nat.le_refl _,hsz,fun h=>by simp at h⟩
 ·rw [hh] at h2;cases h2
  refine ⟨rfl,h3,hsz,fun _=>⟨_,rfl,fun j k e ct he hc=>?_⟩⟩
  have hj:j<es.length:=(List.getElem?_eq_some_iff.1 he).1
  have hk:k<e.length:=(List.getElem?_eq_some_iff.1 hc).1
  rw [hsz _ (List.mem_of_getElem? he)] at hk
  have hlt:j*sz+k<vs.size:=by
   have e1:(j+1)*sz≤c*sz:=Nat.mul_le_mul_right _ (by omega)
   rw [Nat.add_mul,Nat.one_mul] at e1
   omega
  refine ⟨vs[j*sz+k],?_,h7 j k e ct _ he hc (Array.getElem?_eq_getElem hlt)⟩
  rw [add_base,cell_in h4,Array.getElem?_eq_getElem hlt]
theorem flat_get {es:List (List T)} {sz:Nat} (hsz:∀e∈es,e.length=sz):es.flatten.length=es.length*sz∧∀(j k:Nat) (e:List T),es[j]? =some e→k<sz→es.flatten[j*sz+k]? =e[k]?:=by
 induction es with
 |nil=>exact ⟨by simp,fun j k e h=>by simp at h⟩
 |cons x es ih=>
  obtain ⟨h1,h2⟩:=ih (fun e he=>hsz e (List.mem_cons_of_mem _ he))
  have hx:=hsz x (List.mem_cons_self)
  refine ⟨by rw [List.flatten_cons,List.length_append,h1,hx,List.length_cons,Nat.add_mul,Nat.one_mul,Nat.add_comm],fun j k e he hk=>?_⟩
  rw [List.flatten_cons]
  cases j with
  |zero=>
   rw [List.getElem?_cons_zero] at he
   cases he
   rw [Nat.zero_mul,Nat.zero_add,List.getElem?_append_left (by omega)]
  |succ j=>
   rw [List.getElem?_cons_succ] at he
   rw [List.getElem?_append_right (by rw [hx,Nat.add_mul];omega),hx,show (j+1)*sz+k-sz=j*sz+k by rw [Nat.add_mul];omega]
   exact h2 j k e he hk
theorem flat_ix {es:List (List T)} {sz n:Nat} (hsz:∀e∈es,e.length=sz) (h:n<es.length*sz):∃e,es[n / sz]? =some e∧es.flatten[n]? =e[n % sz]?∧n % sz<sz∧n=n / sz*sz+n % sz:=by
 have hpos:0<sz:=by
  rcases Nat.eq_zero_or_pos sz with rfl | h'
  ·simp at h
  ·exact h'
 have hq:n / sz<es.length:=(Nat.div_lt_iff_lt_mul hpos).2 h
 have hm:=Nat.mod_lt n hpos
 have e1:n=n / sz*sz+n % sz:=by have:=Nat.div_add_mod n sz;rw [Nat.mul_comm] at this;exact this.symm
 refine ⟨es[n / sz],List.getElem?_eq_getElem hq,?_,hm,e1⟩
 have:=(flat_get hsz).2 (n / sz) (n % sz) es[n / sz] (List.getElem?_eq_getElem hq) hm
 rwa [←e1] at this
theorem first_run {es:List (List T)} {sz:Nat} {a:Option Addr} {c:Nat} (h:Elems w C.imm es sz a):
  ∃us,(∀w':World,w'.heap=w.heap→(Builtin.firstCells sz es.length (.slice a es.length c)).run P w'= .ok us w')∧us.size=es.length*sz∧∀(n:Nat) (x:T) (u:Value),es.flatten[n]? =some x→us[n]? =some u→RepT w C.imm x u:=by
 obtain ⟨hsz,h⟩:=h
 have hlen:=(flat_get hsz).1
 rcases Nat.eq_zero_or_pos es.length with h0 | h0
 ·have:es=[]:=List.eq_nil_of_length_eq_zero h0
  subst this
  cases a with
  |none=>exact ⟨#[],fun w' _=>rfl,by simp,fun n x u h=>by simp at h⟩
  |some ad=>exact ⟨#[],fun w' _=>by simp [Builtin.firstCells,loadCells,loadCellsFrom],by simp,fun n x u h=>by simp at h⟩
 ·obtain ⟨ad,rfl,hc⟩:=h h0
  have hx:∀n,n<es.length*sz→∃u,w.cell? (ad.add n)=some u∧∀x,es.flatten[n]? =some x→RepT w C.imm x u:=by
   intro n hn
   obtain ⟨e,he,hf,hm,e1⟩:=flat_ix hsz hn
   have hel:=hsz e (List.mem_of_getElem? he)
   obtain ⟨u,h1,h2⟩:=hc (n / sz) (n % sz) e _ he (List.getElem?_eq_getElem (show n % sz<e.length by omega))
   rw [←e1] at h1
   refine ⟨u,h1,fun x hx=>?_⟩
   rw [hf,List.getElem?_eq_getElem (show n % sz<e.length by omega)] at hx
   cases hx
   exact h2
  refine ⟨((List.range (es.length*sz)).map fun j=>(w.cell? (ad.add j)).getD default).toArray,?_,by simp,fun n x u h1 h2=>?_⟩
  ·intro w' hw'
   simp only [Builtin.firstCells]
   rw [run_loadCells w' ad (es.length*sz) (fun j=>(w.cell? (ad.add j)).getD default) (fun j hj=>by obtain ⟨u,h1,_⟩:=hx j hj;rw [cell_congr (w:=w) (by rw [hw']),h1];rfl)]
  ·have hn:n<es.length*sz:=by rw [←hlen];exact (List.getElem?_eq_some_iff.1 h1).1
   obtain ⟨u',h3,h4⟩:=hx n hn
   simp only [List.getElem?_toArray,List.getElem?_map,List.getElem?_range hn,Option.map_some,h3,Option.getD_some,Option.some.injEq] at h2
   rw [←h2];exact h4 x h1
theorem bytes_first (s:ByteArray):∃us,(∀w':World,(Builtin.firstCells 1 s.size (.string s)).run P w'= .ok us w')∧us.size=(bytesT s).length*1∧∀(n:Nat) (x:T) (u:Value),(bytesT s).flatten[n]? =some x→us[n]? =some u→RepT w C.imm x u:=by
 have hsz:∀e∈bytesT s,e.length=1:=by
  intro e he
  simp only [bytesT,List.mem_map] at he
  obtain ⟨b,_,rfl⟩:=he
  rfl
 have hext:s.extract 0 s.size=s:=by
  apply ByteArray.ext
  simp [ByteArray.data_extract]
 have hl:(bytesT s).length=s.size:=by unfold bytesT;rw [List.length_map,Array.length_toList];rfl
 refine ⟨s.data.map fun b=>.int .u8 b.toNat,?_,by rw [hl,Array.size_map,Nat.mul_one];rfl,fun n x u h1 h2=>?_⟩
 ·intro w'
  simp only [Builtin.firstCells,hext]
  rfl
 ·have hn:n<(bytesT s).length*1:=by rw [←(flat_get hsz).1];exact (List.getElem?_eq_some_iff.1 h1).1
  obtain ⟨e,he,hf,hm,e1⟩:=flat_ix hsz hn
  rw [hf] at h1
  simp only [Nat.div_one,Nat.mod_one] at he h1
  simp only [bytesT,List.getElem?_map,Option.map_eq_some_iff,Array.getElem?_toList] at he
  obtain ⟨b,hb,rfl⟩:=he
  simp only [Array.getElem?_map,hb,Option.map_some,Option.some.injEq] at h2
  subst h2
  simp at h1
  subst h1
  exact .v rfl
end
end Go.Proofs.YtnoifgjiipgpoaaGreatDoor.R

namespace Go.Proofs.YtnoifgjiipgpoaaGreatDoor.R
open Go.RowKit
section
variable {P:Program} {w:World} {C:Ctx} {σ:Nat→AObj}
theorem nextcap_le {need cap:Nat} (h:cap<need):Builtin.nextslicecap need cap≤2*need+2048:=by
 have grow:∀(r c:Nat),c≤2*need+1024→Builtin.growBy need r c≤2*need+2048:=by
  intro r
  induction r with
  |zero=>intro c h;simp only [Builtin.growBy];omega
  |succ r ih=>
   intro c h
   simp only [Builtin.growBy]
   split
   ·omega
   ·exact ih _ (by omega)
 unfold Builtin.nextslicecap
 split
 ·omega
 ·split
  ·omega
  ·exact grow _ _ (by omega)
structure Src (P:Program) (w:World) (C:Ctx) (x:Value) (ys:List (List T)) (sz:Nat):Prop where
 each:∀e∈ys,e.length=sz
 len:∀w',(Builtin.lenOf x).run P w'= .ok ys.length w'
 first:∃us,(∀w':World,w'.heap=w.heap→(Builtin.firstCells sz ys.length x).run P w'= .ok us w')∧us.size=ys.length*sz∧∀(n:Nat) (t:T) (u:Value),ys.flatten[n]? =some t→us[n]? =some u→RepT w C.imm t u
theorem appended_at {es ys:List (List T)} {sz:Nat} (h1:∀e∈es,e.length=sz) (h2:∀e∈ys,e.length=sz):∀e∈es++ys,e.length=sz:=by
 intro e he
 rcases List.mem_append.1 he with h | h
 ·exact h1 e h
 ·exact h2 e h
theorem flat_rep {imm:Nat→Prop} {es:List (List T)} {sz:Nat} (hsz:∀e∈es,e.length=sz) {vs:Nat→Option Value} (h:∀(n:Nat) (t:T) (u:Value),es.flatten[n]? =some t→vs n=some u→RepT w imm t u):
  ∀(j k:Nat) (e:List T) (c:T) (u:Value),es[j]? =some e→e[k]? =some c→vs (j*sz+k)=some u→RepT w imm c u:=by
 intro j k e c u he hc hu
 have hk:k<sz:=by
  have:=(List.getElem?_eq_some_iff.1 hc).1
  rwa [hsz _ (List.mem_of_getElem? he)] at this
 exact h _ c u (by rw [(flat_get hsz).2 j k e he hk];exact hc) hu
theorem zero_cells {z:Array Value} {n:Nat}:(Builtin.zeroCells z n).size=n*z.size:=by simp [Builtin.zeroCells]
theorem append_new {t t' e:TypeId} {i i0 i1:TI} (ht:TT P t=some i0) (hd:i0.desc= .slice e) (ht':TT P t'=some i1) (hd':∀k,i1.desc≠ .int k) (he:TT P e=some i)
  (hb:i.bytes≤1024) (hzz:i.zero.cells.size=i.size) {es ys:List (List T)} {base:Option Addr} {cap:Nat} {x:Value} (hx:Src P w C x ys i.size) (hes:Elems w C.imm es i.size base) (hlen:es.length+ys.length≤mostLen)
  (hcap:cap<es.length+ys.length) (ty:TypeId):
  ∃nc vs,es.length+ys.length≤nc∧(Builtin.append_ #[t,t'] ty #[.slice base es.length cap,x]).run P w= .ok (.slice (some ⟨w.heap.size,0,none⟩) (es++ys).length nc) {w with drawn:=w.drawn+1,heap:=w.heap.push (.cells vs e)}∧
   vs.size=nc*i.size∧∀(j k:Nat) (l:List T) (c:T) (u:Value),(es++ys)[j]? =some l→l[k]? =some c→vs[j*i.size+k]? =some u→RepT w C.imm c u:=by
 obtain ⟨us,hus,husz,hur⟩:=hx.first
 obtain ⟨os,hos,hosz,hor⟩:=first_run (P:=P) (c:=cap) hes
 have hz:(match i1.desc with | .int _=>true | _=>false)=false:=by
  cases hdd:i1.desc<;>first | rfl | exact absurd hdd (hd' _)
 simp only [mostLen] at hlen
 have hnc:=nextcap_le hcap
 obtain ⟨j,hj,hj1,hj2,hj3⟩:=run_info (P:=P) he w
 refine ⟨es.length+ys.length+w.tape w.drawn (.appendCap (es.length+ys.length) cap e) % (2^63-(es.length+ys.length)),os++us++Builtin.zeroCells i.zero.cells (es.length+ys.length+w.tape w.drawn (.appendCap (es.length+ys.length) cap e) % (2^63-(es.length+ys.length))-(es.length+ys.length)),by omega,?_,?_,?_⟩
 ·have e1:¬(es.length+ys.length≤cap):=by omega
  have e2:¬(((es.length+ys.length:Nat):Int)>IntKind.i64.max∧((false:Bool)=true∨j.bytes=0)):=by
   intro ⟨h,_⟩
   have:IntKind.i64.max=9223372036854775807:=by decide
   rw [this] at h
   omega
  have e3:¬(Builtin.nextslicecap (es.length+ys.length) cap*j.bytes>2^48):=by
   rw [hj2]
   have:Builtin.nextslicecap (es.length+ys.length) cap*i.bytes≤(2*(es.length+ys.length)+2048)*1024:=Nat.mul_le_mul hnc hb
   omega
  have hinfo:∀w':World,(typeInfo e).run P w'= .ok j w':=fun w'=>by
   have:=hj
   simp only [typeInfo,Sem.run_bind,run_program,Result.andThen_ok] at this ⊢
   split at this<;>simp_all
  simp only [Builtin.append_,List.getElem?_toArray,List.getElem?_cons_zero,List.getElem?_cons_succ,Sem.run_bind,run_und ht,Result.andThen_ok,hd,run_size he,run_und ht',Sem.run_pure]
  simp only [Bool.false_eq_true,if_false,Sem.run_bind,hx.len,Result.andThen_ok,Sem.run_ite,if_neg e1,Sem.run_bind,hinfo,false_or,run_choose,Question.forced,Question.cut,if_false,run_askRoom,Bool.not_false,if_true]
  rw [if_neg (by simpa using e2),if_neg e3]
  rw [hos {w with drawn:=w.drawn+1} rfl]
  simp only [Result.andThen_ok]
  rw [hus {w with drawn:=w.drawn+1} rfl]
  simp only [Result.andThen_ok,run_zero he,newRow,Sem.run_bind,run_newObj,Sem.run_pure,List.length_append]
 ·rw [Array.size_append,Array.size_append,hosz,husz,zero_cells,hzz,←Nat.add_mul,←Nat.add_mul]
  congr 1
  omega
 ·refine flat_rep (appended_at hes.1 hx.each) (vs:=fun n=>(os++us++_)[n]?) fun n tt u h1 h2=>?_
  rw [List.flatten_append] at h1
  have l1:=(flat_get hes.1).1
  have l2:=(flat_get hx.each).1
  have hn:n<es.flatten.length+ys.flatten.length:=by
   have:=(List.getElem?_eq_some_iff.1 h1).1
   rwa [List.length_append] at this
  rw [Array.append_assoc,Array.getElem?_append] at h2
  rw [List.getElem?_append] at h1
  by_cases hlt:n<es.flatten.length
  ·rw [if_pos hlt] at h1
   rw [if_pos (by omega)] at h2
   exact hor n tt u h1 h2
  ·rw [if_neg hlt] at h1
   rw [if_neg (by omega),Array.getElem?_append,if_pos (by omega)] at h2
   rw [hosz,←l1] at h2
   exact hur _ tt u h1 h2
theorem append_in {t t' e:TypeId} {i i0 i1:TI} (ht:TT P t=some i0) (hd:i0.desc= .slice e) (ht':TT P t'=some i1) (hd':∀k,i1.desc≠ .int k) (he:TT P e=some i)
  {es ys:List (List T)} {bl cap lo hi:Nat} {vs:Array Value} {E:TypeId} {x:Value} (hx:Src P w C x ys i.size) (hone:∀y∈ys.flatten,∀v,RepT w C.imm y v→v.oneCell'=true) (hsz:∀l∈es,l.length=i.size)
  (hb:w.heap[bl]? =some (.cells vs E (lo,hi))) (hvs:vs.size=cap*i.size) (hfr:lo=hi∨cap*i.size≤lo)
  (hr:∀(j k:Nat) (l:List T) (c:T) (u:Value),es[j]? =some l→l[k]? =some c→vs[j*i.size+k]? =some u→RepT w C.imm c u)
  (hcap:es.length+ys.length≤cap) (ty:TypeId):
  ∃w' vs',(Builtin.append_ #[t,t'] ty #[.slice (some ⟨bl,0,none⟩) es.length cap,x]).run P w= .ok (.slice (some ⟨bl,0,none⟩) (es++ys).length cap) w'∧
   w'.heap[bl]? =some (.cells vs' E (lo,hi))∧vs'.size=cap*i.size∧(∀b,b≠bl→w'.heap[b]? =w.heap[b]?)∧w'.heap.size=w.heap.size∧w'.os=w.os∧w'.tape=w.tape∧w'.output=w.output∧
   ∀(j k:Nat) (l:List T) (c:T) (u:Value),(es++ys)[j]? =some l→l[k]? =some c→vs'[j*i.size+k]? =some u→RepT w C.imm c u:=by
 obtain ⟨us,hus,husz,hur⟩:=hx.first
 have hz:(match i1.desc with | .int _=>true | _=>false)=false:=by
  cases hdd:i1.desc<;>first | rfl | exact absurd hdd (hd' _)
 have hle:(es.length+ys.length)*i.size≤cap*i.size:=Nat.mul_le_mul_right _ hcap
 rw [Nat.add_mul] at hle
 have l2:=(flat_get hx.each).1
 have hone':∀v∈us.toList,v.oneCell'=true:=by
  intro v hv
  obtain ⟨n,hn,rfl⟩:=List.getElem_of_mem hv
  have hn':n<ys.flatten.length:=by rw [l2,←husz];simpa using hn
  exact hone _ (List.getElem_mem hn') _ (hur n _ _ (List.getElem?_eq_getElem hn') (by simp at hn;simp [hn]))
 obtain ⟨w',vs',e1,e2,e3,e4,e5,e6,e7,e8,e9⟩:=run_stores (P:=P) bl (es.length*i.size) E lo hi us.toList 0 vs w hb (by simp;omega) hone' (by rw [hvs];exact hfr)
 refine ⟨w',vs',?_,e2,by omega,e5,e6,e7,e8,e9,?_⟩
 ·simp only [Builtin.append_,List.getElem?_toArray,List.getElem?_cons_zero,List.getElem?_cons_succ,Sem.run_bind,run_und ht,Result.andThen_ok,hd,run_size he,run_und ht',Sem.run_pure]
  simp only [Bool.false_eq_true,if_false,Sem.run_bind,hx.len,Result.andThen_ok,Sem.run_ite,if_pos hcap,Bool.not_false,if_true,hus w rfl,add_base,e1,Sem.run_pure,List.length_append]
 ·refine flat_rep (appended_at hsz hx.each) (vs:=fun n=>vs'[n]?) fun n tt u h1 h2=>?_
  have l1:=(flat_get hsz).1
  rw [List.flatten_append,List.getElem?_append] at h1
  rw [e4 n] at h2
  simp only [Nat.add_zero,Array.length_toList] at h2
  by_cases hlt:n<es.flatten.length
  ·rw [if_pos hlt] at h1
   rw [if_neg (by omega)] at h2
   obtain ⟨l,g1,g2,g3,g4⟩:=flat_ix hsz (show n<es.length*i.size by omega)
   rw [g2] at h1
   rw [g4] at h2
   exact hr _ _ l tt u g1 h1 h2
  ·rw [if_neg hlt] at h1
   have hn:n-es.flatten.length<ys.flatten.length:=(List.getElem?_eq_some_iff.1 h1).1
   rw [if_pos (by omega),←l1,Array.getElem?_toList] at h2
   exact hur _ tt u h1 h2
theorem append_none {t t' e:TypeId} {i i0 i1:TI} (ht:TT P t=some i0) (hd:i0.desc= .slice e) (ht':TT P t'=some i1) (hd':∀k,i1.desc≠ .int k) (he:TT P e=some i)
  {x:Value} (hx:Src P w C x [] i.size) (base:Option Addr) (n cap:Nat) (hcap:n≤cap) (ty:TypeId):
  (Builtin.append_ #[t,t'] ty #[.slice base n cap,x]).run P w= .ok (.slice base n cap) w:=by
 obtain ⟨us,hus,husz,hur⟩:=hx.first
 have hz:(match i1.desc with | .int _=>true | _=>false)=false:=by
  cases hdd:i1.desc<;>first | rfl | exact absurd hdd (hd' _)
 have h0:us= #[]:=by apply Array.eq_empty_of_size_eq_zero;rw [husz];simp
 subst h0
 have hus':=hus w rfl
 have hlen:=hx.len w
 simp only [List.length_nil] at hus' hlen
 simp only [Builtin.append_,List.getElem?_toArray,List.getElem?_cons_zero,List.getElem?_cons_succ,Sem.run_bind,run_und ht,Result.andThen_ok,hd,run_size he,run_und ht',Sem.run_pure]
 simp only [Bool.false_eq_true,if_false,Sem.run_bind,hlen,Result.andThen_ok,Sem.run_ite,Nat.add_zero,if_pos hcap,Bool.not_false,if_true,hus',Sem.run_pure]
 cases base<;>simp [storeCells]
theorem repT_one {x:T} {v:Value} {imm:Nat→Prop} (h:RepT w imm x v):v.oneCell'=true:=by
 cases h with
 |v h=>exact (plain_cells h).2
 |nil=>rfl
 |sl=>rfl
end
end Go.Proofs.YtnoifgjiipgpoaaGreatDoor.R

namespace Go.Proofs.YtnoifgjiipgpoaaGreatDoor.R
open Go.RowKit
section
variable {P:Program} {w:World} {C:Ctx} {σ:Nat→AObj} {ρa:Operand→AV} {ρ:Operand→Value}
theorem obj_box (hs:Sim C σ w) {b bl:Nat} {cs:List AV} (h:σ b= .box cs) (ho:C.own b=some bl):
  ∃vs E,w.heap[bl]? =some (.cells vs E (0,0))∧cs.length=vs.size∧∀(k:Nat) (a:AV) (u:Value),cs[k]? =some a→vs[k]? =some u→RepA w C a u:=by
 have:=hs.obj b
 rw [h] at this
 obtain ⟨bl',vs,E,h1,h2,h3,h4⟩:=this
 rw [ho] at h1;cases h1
 exact ⟨vs,E,h2,h3,h4⟩
theorem obj_arr (hs:Sim C σ w) {q bl sz n cap:Nat} {es:List (List T)} (h:σ q= .arr sz es) (ho:C.own q=some bl) (hh:C.hdr q= .slice (some ⟨bl,0,none⟩) n cap):
  n=es.length∧es.length≤cap∧(∀e∈es,e.length=sz)∧∃vs E lo hi,w.heap[bl]? =some (.cells vs E (lo,hi))∧vs.size=cap*sz∧(lo=hi∨cap*sz≤lo)∧
   ∀(j k:Nat) (e:List T) (c:T) (u:Value),es[j]? =some e→e[k]? =some c→vs[j*sz+k]? =some u→RepT w C.imm c u:=by
 have:=hs.obj q
 rw [h] at this
 obtain ⟨hsz,⟨h0,h1,h2⟩ | ⟨bl',cap',vs,E,lo,hi,h1,h2,h3,h4,h5,h6,h7⟩⟩:=this
 ·rw [ho] at h1;cases h1
 ·rw [ho] at h1;cases h1
  rw [hh] at h2;cases h2
  exact ⟨rfl,h3,hsz,vs,E,lo,hi,h4,h5,h6,h7⟩
theorem meets_value {r:Result Next} {u:Value} {v:AV} (hs:Sim C σ w) (hr:r= .ok (.value u) w) (h:RepA w C v u):Meets r C σ w v σ C.nx:=
 ⟨C,w,u,.inl hr,Step.refl _ _ _,hs,rfl,h⟩
theorem meets_box (hs:Sim C σ w) {r:Result Next} {cs:List AV} {vs:Array Value} {E:TypeId} (hl:cs.length=vs.size) (hv:∀(k:Nat) (a:AV) (u:Value),cs[k]? =some a→vs[k]? =some u→RepA w C a u)
  (hr:r= .ok (.value (.pointer (some ⟨w.heap.size,0,none⟩))) {w with heap:=w.heap.push (.cells vs E)}):
  Meets r C σ w (.ptr C.nx 0) (fun i=>if i=C.nx then .box cs else σ i) (C.nx+1):=by
 obtain ⟨C',hC⟩:∃C':Ctx,C'=⟨C.imm,fun i=>if i=C.nx then some w.heap.size else C.own i,fun i=>if i=C.nx then undef else C.hdr i,C.nx+1⟩:=⟨_,rfl⟩
 have hk:Keeps w C.imm {w with heap:=w.heap.push (.cells vs E)} C'.imm:=by
  subst hC
  exact ⟨fun b h=>h,fun b h=>push_old w _ (hs.imm_lt b h)⟩
 have hc:CtxLe C C':=by
  subst hC
  exact ⟨Nat.le_succ _,fun i hi=>if_neg (by omega),fun i hi=>if_neg (by omega)⟩
 have ho:C'.own C.nx=some w.heap.size:=by subst hC;exact if_pos rfl
 obtain ⟨h1,h2⟩:=sim_new hs (.cells vs E) (.box cs) undef C' hC ⟨w.heap.size,vs,E,ho,push_new w _,hl,fun k a u ha hu=>(hv k a u ha hu).keeps hk hc⟩
 refine ⟨C',_,_,.inl hr,h2,h1,by rw [hC],.ptr (by rw [hC];exact Nat.lt_succ_self _) ho⟩
theorem src_of (hs:Sim C σ w) {a:AV} {v:Value} {ys:List (List T)} {sz:Nat} (h:slicesT σ a=some ys) (hr:RepA w C a v) (hsz:∀y∈ys,y.length=sz):Src P w C v ys sz:=by
 have of:∀{b:Option Addr} {c:Nat},v= .slice b ys.length c→Elems w C.imm ys sz b→Src P w C v ys sz:=by
  intro b c hv he
  subst hv
  obtain ⟨us,h1,h2,h3⟩:=first_run (P:=P) (c:=c) he
  exact ⟨he.1,fun w'=>rfl,us,h1,h2,h3⟩
 unfold slicesT at h
 split at h
 ·cases h
  obtain ⟨b,c,hv,_,h1⟩:=rep_sl hr
  rw [hv] at h1
  exact of hv (sl_elems h1 hsz)
 ·cases h
  obtain ⟨b,hv,h1⟩:=rep_fsl hr
  rw [hv] at h1
  exact of hv (sl_elems h1 hsz)
 ·rename_i q
  split at h
  ·rename_i sz' es hσ
   cases h
   obtain ⟨b,n,c,hv,h1,h2⟩:=rep_ref hr
   have ho:=hs.obj q
   rw [hσ] at ho
   rw [hv] at h2
   obtain ⟨h3,h4,h5⟩:=arr_elems ho h2
   subst h3
   refine of hv ⟨hsz,fun h0=>?_⟩
   have:sz'=sz:=by
    have hm:ys[0]∈ys:=List.getElem_mem h0
    rw [←hsz _ hm,h5.1 _ hm]
   subst this
   exact h5.2 h0
  ·cases h
 ·cases h
theorem src_bytes (s:ByteArray) {sz:Nat} (hsz:∀y∈bytesT s,y.length=sz) (h1:0<sz):Src P w C (.string s) (bytesT s) sz:=by
 have hl:(bytesT s).length=s.size:=by unfold bytesT;rw [List.length_map,Array.length_toList];rfl
 refine ⟨hsz,fun w'=>by rw [hl];rfl,?_⟩
 obtain ⟨us,h2,h3,h4⟩:=bytes_first (P:=P) (w:=w) (C:=C) s
 rcases Nat.eq_zero_or_pos (bytesT s).length with h0 | h0
 ·refine ⟨us,fun w' _=>?_,?_,h4⟩
  ·rw [hl];exact h2 w'
  ·rw [h3,h0];simp
 ·have:sz=1:=by
   have hm:(bytesT s)[0]∈bytesT s:=List.getElem_mem h0
   have e1:=hsz _ hm
   have e2:(bytesT s)[0].length=1:=by simp [bytesT]
   omega
  subst this
  refine ⟨us,fun w' _=>?_,h3,h4⟩
  rw [hl];exact h2 w'
theorem load_sound (hs:Sim C σ w) (hρ:∀x,RepA w C (ρa x) (ρ x)) {t:TypeId} {a:Operand} {v:AV} {e:Eff} (h:evalS P σ C.nx ρa (.load t a)=some (v,e)):
  e= .none∧∃u,(Instr.loadAt t (ρ a)).run P w= .ok u w∧RepA w C v u:=by
 simp only [evalS] at h
 have ha:=hρ a
 split at h
 ·rename_i i b o hi hc
  rw [hc] at ha
  obtain ⟨bl,hv,h1,h2⟩:=rep_ptr ha
  split at h
  ·rename_i cs hσ
   obtain ⟨v',hp,he⟩:=Option.map_eq_some_iff.1 h
   cases he
   obtain ⟨vs,E,h3,h4,h5⟩:=obj_box hs hσ h2
   obtain ⟨u,h6,h7⟩:=load_rep hi (a:=⟨bl,o,none⟩) (fun k x hk=>by
    have hlt:o+k<vs.size:=by have:=(List.getElem?_eq_some_iff.1 hk).1;omega
    refine ⟨vs[o+k],?_,h5 _ _ _ hk (Array.getElem?_eq_getElem hlt)⟩
    rw [add_off,cell_in h3,Array.getElem?_eq_getElem hlt]) hp
   exact ⟨rfl,u,by simp only [Instr.loadAt,Sem.run_bind,hv,Instr.sureAddr,Sem.run_pure,Result.andThen_ok,h6],h7⟩
  ·cases h
 ·rename_i i cs hi hc
  rw [hc] at ha
  obtain ⟨ad,hv,h1⟩:=rep_rd ha
  obtain ⟨v',hp,he⟩:=Option.map_eq_some_iff.1 h
  cases he
  have hp':partA i (cs.map .t) 0=some v:=by
   unfold partT at hp
   unfold partA
   split at hp
   ·rename_i hagg
    rw [if_pos hagg]
    simpa [List.map_take,List.map_drop] using hp
   ·rename_i hagg
    rw [if_neg hagg,List.getElem?_map]
    exact hp
  cases h1 with
  |@rd _ _ uf hi' hcell hr=>
   obtain ⟨u,h6,h7⟩:=load_rep hi (a:=ad) (fun k x hk=>by
    rw [Nat.zero_add,List.getElem?_map] at hk
    obtain ⟨c,hc',rfl⟩:=Option.map_eq_some_iff.1 hk
    exact ⟨uf k,hcell k (List.getElem?_eq_some_iff.1 hc').1,.t (hr k c hc')⟩) hp'
   exact ⟨rfl,u,by simp only [Instr.loadAt,Sem.run_bind,hv,Instr.sureAddr,Sem.run_pure,Result.andThen_ok,h6],h7⟩
 ·rename_i i q o hi hc
  rw [hc] at ha
  obtain ⟨bl,n,c,hv,h1,h2,h3⟩:=rep_el ha
  split at h
  ·rename_i sz es hσ
   split at h
   ·rename_i el he
    split at h
    ·rename_i hle
     obtain ⟨v',hp,hev⟩:=Option.map_eq_some_iff.1 h
     cases hev
     obtain ⟨h4,h5,hsz,vs,E,lo,hi',h6,h7,h8,h9⟩:=obj_arr hs hσ h2 h3
     have hel:=hsz el (List.mem_of_getElem? he)
     have hq:o / sz<es.length:=(List.getElem?_eq_some_iff.1 he).1
     have hb:(o / sz+1)*sz≤c*sz:=Nat.mul_le_mul_right _ (by omega)
     rw [Nat.add_mul,Nat.one_mul] at hb
     have hdm:o=o / sz*sz+o % sz:=by have:=Nat.div_add_mod o sz;rw [Nat.mul_comm] at this;exact this.symm
     have hp':partA i (el.map .t) (o % sz)=some v:=by
      unfold partT at hp
      unfold partA
      split at hp
      ·rename_i hagg
       rw [if_pos hagg,List.length_map,if_pos hle]
       simpa only [List.map_take,List.map_drop] using hp
      ·rename_i hagg
       rw [if_neg hagg,List.getElem?_map]
       exact hp
     obtain ⟨u,h10,h11⟩:=load_rep hi (a:=⟨bl,o,none⟩) (fun k x hk=>by
      rw [List.getElem?_map] at hk
      obtain ⟨c',hc',rfl⟩:=Option.map_eq_some_iff.1 hk
      have hlt:o % sz+k<el.length:=(List.getElem?_eq_some_iff.1 hc').1
      have hlt2:o+k<vs.size:=by omega
      refine ⟨vs[o+k],?_,.t (h9 (o / sz) (o % sz+k) el c' _ he hc' ?_)⟩
      ·rw [add_off,cell_in h6,Array.getElem?_eq_getElem hlt2]
      ·rw [show o / sz*sz+(o % sz+k)=o+k by omega,Array.getElem?_eq_getElem hlt2]) hp'
     exact ⟨rfl,u,by simp only [Instr.loadAt,Sem.run_bind,hv,Instr.sureAddr,Sem.run_pure,Result.andThen_ok,h10],h11⟩
    ·cases h
   ·cases h
  ·cases h
 ·cases h
theorem storeVar_run {t:TypeId} {i:TI} (hi:TT P t=some i) {a:Addr} {x:Value} (hx:x.cells.size=i.size) {w':World} (h:(storeCells a x.cells.toList).run P w= .ok () w'):(storeVar t a x).run P w= .ok () w':=by
 simp only [storeVar,Sem.run_bind,run_size hi,Result.andThen_ok]
 rw [if_neg (by omega)]
 exact h
theorem store_sound (hs:Sim C σ w) (hρ:∀x,RepA w C (ρa x) (ρ x)) {t:TypeId} {a x:Operand} {v:AV} {e:Eff} (h:evalS P σ C.nx ρa (.store t a x)=some (v,e)):
  v= .tup []∧∃w' σ',(Instr.storeAt t (ρ a) (ρ x)).run P w= .ok () w'∧(e.on σ C.nx).1=σ'∧(e.on σ C.nx).2=C.nx∧Sim C σ' w'∧Step C σ w C σ' w':=by
 simp only [evalS] at h
 have ha:=hρ a
 have hx:=hρ x
 split at h
 ·rename_i i b o hi hc
  rw [hc] at ha
  obtain ⟨bl,hv,h1,h2⟩:=rep_ptr ha
  split at h
  ·rename_i cs hσ
   split at h
   ·rename_i c hcells
    split at h
    ·rename_i hcond
     obtain ⟨hcl,hleaf,hle⟩:=hcond
     cases h
     obtain ⟨vs,E,h3,h4,h5⟩:=obj_box hs hσ h2
     obtain ⟨h6,h7⟩:=cells_rep hcells hx
     have hone:=leafs_one h6 h7 (fun a ha=>by simpa using List.all_eq_true.1 hleaf a ha)
     obtain ⟨w',vs',e1,e2,e3,e4,e5,e6,e7,e8,e9⟩:=run_stores (P:=P) bl o E 0 0 (ρ x).cells.toList 0 vs w h3 (by simp;omega) hone (.inl rfl)
     have hd:σ b≠ .dead:=by rw [hσ];exact fun h=>by cases h
     have hk:Keeps w C.imm w' C.imm:=⟨fun b h=>h,fun b' h=>e5 b' fun e=>hs.sep b bl hd h2 (e ▸ h)⟩
     have hcc:CtxLe C C:=⟨Nat.le_refl _,fun _ _=>rfl,fun _ _=>rfl⟩
     obtain ⟨g1,g2⟩:=sim_set hs hd h2 e7 e8 e9 e6 e5 (obj:=.box (setCells cs o c)) ⟨bl,vs',E,h2,e2,by rw [setCells_length];omega,fun k y u hy hu=>by
      rw [setCells_get _ _ _ _ (by omega)] at hy
      rw [e4 k] at hu
      simp only [Nat.add_zero,Array.length_toList,←h6] at hu
      split at hy
      ·rename_i hk'
       rw [if_pos hk',Array.getElem?_toList] at hu
       exact (h7 _ _ _ hy hu).keeps hk hcc
      ·rename_i hk'
       rw [if_neg hk'] at hu
       exact (h5 _ _ _ hy hu).keeps hk hcc⟩
     refine ⟨rfl,w',_,?_,rfl,rfl,g1,g2⟩
     simp only [Instr.storeAt,Sem.run_bind,hv,Instr.sureAddr,Sem.run_pure,Result.andThen_ok]
     exact storeVar_run hi (by omega) e1
    ·cases h
   ·cases h
  ·cases h
 ·rename_i i q o hi hc
  rw [hc] at ha
  obtain ⟨bl,n,cap,hv,h1,h2,h3⟩:=rep_el ha
  split at h
  ·rename_i sz es c hσ hcb
   split at h
   ·rename_i el he
    split at h
    ·rename_i hcond
     obtain ⟨hcl,hle⟩:=hcond
     cases h
     obtain ⟨cs,hcells,hts⟩:=Option.bind_eq_some_iff.1 hcb
     obtain ⟨h4,h5,hsz,vs,E,lo,hi',h6,h7,h8,h9⟩:=obj_arr hs hσ h2 h3
     obtain ⟨hxl,hxr⟩:=cells_rep hcells hx
     obtain ⟨htl,htr⟩:=toTs_rep hts
     have hone:=leafs_one hxl hxr (fun y hy=>by
      obtain ⟨k,hk,rfl⟩:=List.getElem_of_mem hy
      exact toT_leaf (htr k _ (c[k]'(by omega)) (List.getElem?_eq_getElem hk) (List.getElem?_eq_getElem (by omega))))
     have hel:=hsz el (List.mem_of_getElem? he)
     have hq:o / sz<es.length:=(List.getElem?_eq_some_iff.1 he).1
     have hb:(o / sz+1)*sz≤cap*sz:=Nat.mul_le_mul_right _ (by omega)
     rw [Nat.add_mul,Nat.one_mul] at hb
     have hdm:o=o / sz*sz+o % sz:=by have:=Nat.div_add_mod o sz;rw [Nat.mul_comm] at this;exact this.symm
     obtain ⟨w',vs',e1,e2,e3,e4,e5,e6,e7,e8,e9⟩:=run_stores (P:=P) bl o E lo hi' (ρ x).cells.toList 0 vs w h6 (by simp;omega) hone (by rw [h7];exact h8)
     have hd:σ q≠ .dead:=by rw [hσ];exact fun h=>by cases h
     have hk:Keeps w C.imm w' C.imm:=⟨fun b h=>h,fun b' h=>e5 b' fun e=>hs.sep q bl hd h2 (e ▸ h)⟩
     have hlen':(es.set (o / sz) (setCells el (o % sz) c)).length=es.length:=List.length_set
     obtain ⟨g1,g2⟩:=sim_set hs hd h2 e7 e8 e9 e6 e5 (obj:=.arr sz (es.set (o / sz) (setCells el (o % sz) c))) ⟨fun y hy=>by
       rcases List.mem_or_eq_of_mem_set hy with h | rfl
       ·exact hsz y h
       ·rw [setCells_length];exact hel,
      .inr ⟨bl,cap,vs',E,lo,hi',h2,by rw [hlen'];rw [h3,h4],by omega,e2,by omega,h8,fun j k y cc u hy hcc hu=>by
       rw [e4] at hu
       simp only [Nat.add_zero,Array.length_toList,←hxl] at hu
       rw [List.getElem?_set] at hy
       by_cases hj:o / sz=j
       ·subst hj
        rw [if_pos rfl,if_pos hq] at hy
        cases hy
        rw [setCells_get _ _ _ _ (by omega)] at hcc
        by_cases hin:o % sz≤k∧k<o % sz+c.length
        ·rw [if_pos hin] at hcc
         rw [if_pos (by omega),Array.getElem?_toList] at hu
         have hkk:o / sz*sz+k-o=k-o % sz:=by omega
         rw [hkk] at hu
         have hlt:k-o % sz<cs.length:=by omega
         have:=toT_rep (htr _ _ _ (List.getElem?_eq_getElem hlt) hcc) (hxr _ _ _ (List.getElem?_eq_getElem hlt) hu)
         exact this.keeps hk
        ·rw [if_neg hin] at hcc
         have hkl:k<el.length:=(List.getElem?_eq_some_iff.1 hcc).1
         rw [if_neg (by omega)] at hu
         exact (h9 _ _ _ _ _ he hcc hu).keeps hk
       ·rw [if_neg hj] at hy
        have hkl:k<y.length:=(List.getElem?_eq_some_iff.1 hcc).1
        rw [hsz y (List.mem_of_getElem? hy)] at hkl
        have hne:¬(o≤j*sz+k∧j*sz+k<o+cs.length):=by
         rcases Nat.lt_or_gt_of_ne hj with hlt | hgt
         ·have:(o / sz+1)*sz≤j*sz:=Nat.mul_le_mul_right _ hlt
          rw [Nat.add_mul,Nat.one_mul] at this
          omega
         ·have:(j+1)*sz≤o / sz*sz:=Nat.mul_le_mul_right _ hgt
          rw [Nat.add_mul,Nat.one_mul] at this
          omega
        rw [if_neg hne] at hu
        exact (h9 _ _ _ _ _ hy hcc hu).keeps hk⟩⟩
     refine ⟨rfl,w',_,?_,rfl,rfl,g1,g2⟩
     simp only [Instr.storeAt,Sem.run_bind,hv,Instr.sureAddr,Sem.run_pure,Result.andThen_ok]
     exact storeVar_run hi (by omega) e1
    ·cases h
   ·cases h
  ·cases h
 ·cases h
end
end Go.Proofs.YtnoifgjiipgpoaaGreatDoor.R
