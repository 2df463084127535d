/- R1: abstract values (slices as immutable trees), the abstract store, and how they stand for the model's values and memory. No program in sight. -/
import Derived.Below
import Derived.Calls
import Derived.Scope
import Derived.ScopeJumps
import Derived.Orders
namespace Go.Proofs.Ytibmjinfdcmbdaa.R
open Go.RowKit

/-- A closed value of one cell: no address in it. A slice is the list of its elements, each the list of its cells. -/
inductive T where
  | v (x : Value)
  | sl (es : List (List T))
  deriving Inhabited

/-- A value of one cell without an address. -/
def plainV : Value → Bool
  | .bool _ | .int _ _ | .float _ _ | .complex _ _ _ | .string _ | .nilFunc | .nilIface | .pointer none | .map none => true
  | .func (.func _) a b => a.isEmpty && b.isEmpty
  | _ => false

/-- What a slot, or a variable's cell, holds. -/
inductive AV where
  | t (x : T)
  /-- a struct's, an array's cells -/
  | agg (cs : List AV)
  | tup (cs : List AV)
  /-- a slice whose capacity is its length -/
  | fsl (es : List (List T))
  /-- a row of the call's own: the object's number -/
  | ref (q : Nat)
  /-- an address in an object that is a variable -/
  | ptr (b off : Nat)
  /-- an address in what is never written: the cells from there on -/
  | rd (cs : List T)
  /-- an address in a row of the call's own: object, cell -/
  | el (q off : Nat)
  | mapr (m : Nat)
  | fn (f : Fn) (first caps : List AV)
  | any
  deriving Inhabited

/-- An object of the abstract store. -/
inductive AObj where
  | dead
  | box (cs : List AV)
  | arr (sz : Nat) (es : List (List T))
  | map (es : List (Value × AV))
  | iter (s : ByteArray) (k : Nat)
  deriving Inhabited

/-- What the abstract side leaves open: which blocks are never written again; the block of each object; a row's header; how many objects there are. -/
structure Ctx where
  imm : Nat → Prop
  own : Nat → Option Nat
  hdr : Nat → Value
  nx : Nat

theorem add_block (a : Addr) (k : Nat) : (a.add k).block = a.block := by unfold Addr.add; split <;> rfl
theorem add_add (a : Addr) (i j : Nat) : (a.add i).add j = a.add (i + j) := by
  unfold Addr.add
  by_cases h1 : i = 0 <;> by_cases h2 : j = 0 <;> simp [h1, h2, Nat.add_assoc]
theorem add_zero' (a : Addr) : a.add 0 = a := by simp [Addr.add]
theorem add_base (b k : Nat) : (⟨b, 0, none⟩ : Addr).add k = ⟨b, k, none⟩ := by
  unfold Addr.add; split <;> simp_all

theorem cell_congr {w w' : World} {a : Addr} (h : w'.heap[a.block]? = w.heap[a.block]?) : w'.cell? a = w.cell? a := by
  simp [World.cell?, h]
theorem frozen_congr {w w' : World} {a : Addr} (h : w'.heap[a.block]? = w.heap[a.block]?) : w'.frozen? a = w.frozen? a := by
  simp [World.frozen?, h]

/-- A closed value stands for a value of the model, all memory that it reaches being of blocks that are never written. -/
inductive RepT (w : World) (imm : Nat → Prop) : T → Value → Prop
  | v {x : Value} : plainV x = true → RepT w imm (.v x) x
  | nil {a : Option Addr} {c : Nat} : RepT w imm (.sl []) (.slice a 0 c)
  | sl {es : List (List T)} {ad : Addr} {cap sz : Nat} {u : Nat → Value} : 0 < es.length → (∀ e ∈ es, e.length = sz) → es.length ≤ cap → imm ad.block →
      (∀ k, k < es.length * sz → w.cell? (ad.add k) = some (u k)) →
      (∀ (j k : Nat) (e : List T) (c : T), es[j]? = some e → e[k]? = some c → RepT w imm c (u (j * sz + k))) →
      RepT w imm (.sl es) (.slice (some ad) es.length cap)

/-- Worlds in which what is never written stays. -/
structure Keeps (w : World) (imm : Nat → Prop) (w' : World) (imm' : Nat → Prop) : Prop where
  sub : ∀ b, imm b → imm' b
  same : ∀ b, imm b → w'.heap[b]? = w.heap[b]?

theorem Keeps.refl (w : World) (imm : Nat → Prop) : Keeps w imm w imm := ⟨fun _ h => h, fun _ _ => rfl⟩
theorem Keeps.trans {w w1 w2 : World} {i i1 i2 : Nat → Prop} (h : Keeps w i w1 i1) (k : Keeps w1 i1 w2 i2) : Keeps w i w2 i2 :=
  ⟨fun b hb => k.sub b (h.sub b hb), fun b hb => (k.same b (h.sub b hb)).trans (h.same b hb)⟩

theorem RepT.keeps {w w' : World} {imm imm' : Nat → Prop} (hk : Keeps w imm w' imm') {x : T} {v : Value} (h : RepT w imm x v) : RepT w' imm' x v := by
  induction h with
  | v h => exact .v h
  | nil => exact .nil
  | sl h0 hsz hc hi hcell _ ih =>
    exact .sl h0 hsz hc (hk.sub _ hi) (fun k hkk => (cell_congr (by rw [add_block]; exact hk.same _ hi)).trans (hcell k hkk)) ih

/-- What a slot or a cell of a variable stands for. -/
inductive RepA (w : World) (C : Ctx) : AV → Value → Prop
  | t {x : T} {v : Value} : RepT w C.imm x v → RepA w C (.t x) v
  | agg {cs : List AV} {vs : Array Value} : cs.length = vs.size → (∀ (k : Nat) (a : AV) (u : Value), cs[k]? = some a → vs[k]? = some u → RepA w C a u) → RepA w C (.agg cs) (.agg vs)
  | tup {cs : List AV} {vs : Array Value} : cs.length = vs.size → (∀ (k : Nat) (a : AV) (u : Value), cs[k]? = some a → vs[k]? = some u → RepA w C a u) → RepA w C (.tup cs) (.tuple vs)
  | fsl {es : List (List T)} {a : Option Addr} : RepT w C.imm (.sl es) (.slice a es.length es.length) → RepA w C (.fsl es) (.slice a es.length es.length)
  | ref {q n c : Nat} {a : Option Addr} : q < C.nx → C.hdr q = .slice a n c → RepA w C (.ref q) (.slice a n c)
  | ptr {b off bl : Nat} : b < C.nx → C.own b = some bl → RepA w C (.ptr b off) (.pointer (some ⟨bl, off, none⟩))
  | rd {cs : List T} {ad : Addr} {u : Nat → Value} : C.imm ad.block → (∀ k, k < cs.length → w.cell? (ad.add k) = some (u k)) →
      (∀ (k : Nat) (c : T), cs[k]? = some c → RepT w C.imm c (u k)) → RepA w C (.rd cs) (.pointer (some ad))
  | el {q off bl n cap : Nat} : q < C.nx → C.own q = some bl → C.hdr q = .slice (some ⟨bl, 0, none⟩) n cap → RepA w C (.el q off) (.pointer (some ⟨bl, off, none⟩))
  | mapr {m bl : Nat} : m < C.nx → C.own m = some bl → RepA w C (.mapr m) (.map (some bl))
  | fn {f : Fn} {first caps : List AV} {vf vc : Array Value} : first.length = vf.size → (∀ (k : Nat) (a : AV) (u : Value), first[k]? = some a → vf[k]? = some u → RepA w C a u) →
      caps.length = vc.size → (∀ (k : Nat) (a : AV) (u : Value), caps[k]? = some a → vc[k]? = some u → RepA w C a u) → RepA w C (.fn f first caps) (.func f vf vc)
  | any {v : Value} : RepA w C .any v

/-- The context has grown. -/
structure CtxLe (C C' : Ctx) : Prop where
  nx : C.nx ≤ C'.nx
  own : ∀ i, i < C.nx → C'.own i = C.own i
  hdr : ∀ i, i < C.nx → C'.hdr i = C.hdr i

theorem RepA.keeps {w w' : World} {C C' : Ctx} (hk : Keeps w C.imm w' C'.imm) (hc : CtxLe C C') {x : AV} {v : Value} (h : RepA w C x v) : RepA w' C' x v := by
  induction h with
  | t h => exact .t (h.keeps hk)
  | agg hl _ ih => exact .agg hl ih
  | tup hl _ ih => exact .tup hl ih
  | fsl h => exact .fsl (h.keeps hk)
  | ref h hh => exact .ref (Nat.lt_of_lt_of_le h hc.nx) ((hc.hdr _ h).trans hh)
  | ptr h ho => exact .ptr (Nat.lt_of_lt_of_le h hc.nx) ((hc.own _ h).trans ho)
  | rd hi hcell hr => exact .rd (hk.sub _ hi) (fun k hkk => (cell_congr (by rw [add_block]; exact hk.same _ hi)).trans (hcell k hkk)) (fun k c h => (hr k c h).keeps hk)
  | el h ho hh => exact .el (Nat.lt_of_lt_of_le h hc.nx) ((hc.own _ h).trans ho) ((hc.hdr _ h).trans hh)
  | mapr h ho => exact .mapr (Nat.lt_of_lt_of_le h hc.nx) ((hc.own _ h).trans ho)
  | fn hl _ hl' _ ih ih' => exact .fn hl ih hl' ih'
  | any => exact .any

/-- Lists of values. -/
def RepL (w : World) (C : Ctx) (as : List AV) (vs : List Value) : Prop :=
  as.length = vs.length ∧ ∀ (k : Nat) (a : AV) (u : Value), as[k]? = some a → vs[k]? = some u → RepA w C a u

/-- An object stands for a block. -/
def RepO (w : World) (C : Ctx) (i : Nat) : AObj → Prop
  | .dead => True
  | .box cs => ∃ bl vs E, C.own i = some bl ∧ w.heap[bl]? = some (.cells vs E (0, 0)) ∧ cs.length = vs.size ∧ ∀ (k : Nat) (a : AV) (u : Value), cs[k]? = some a → vs[k]? = some u → RepA w C a u
  | .arr sz es => (∀ e ∈ es, e.length = sz) ∧
      ((es = [] ∧ C.own i = none ∧ ∃ a, C.hdr i = .slice a 0 0) ∨
       ∃ bl cap vs E lo hi, C.own i = some bl ∧ C.hdr i = .slice (some ⟨bl, 0, none⟩) es.length cap ∧ es.length ≤ cap ∧ w.heap[bl]? = some (.cells vs E (lo, hi)) ∧ vs.size = cap * sz ∧ (lo = hi ∨ cap * sz ≤ lo) ∧
         ∀ (j k : Nat) (e : List T) (c : T) (u : Value), es[j]? = some e → e[k]? = some c → vs[j * sz + k]? = some u → RepT w C.imm c u)
  | .map es => ∃ bl ms clock, C.own i = some bl ∧ w.heap[bl]? = some (.map ms clock) ∧ es.length = ms.size ∧
      ∀ (k : Nat) (a : Value × AV) (u : MapEntry), es[k]? = some a → ms[k]? = some u → u.key = a.1 ∧ RepA w C a.2 u.val
  | .iter s k => ∃ bl, C.own i = some bl ∧ w.heap[bl]? = some (.stringIter s k)

/-- The store stands for the memory. -/
structure Sim (C : Ctx) (σ : Nat → AObj) (w : World) : Prop where
  dead : ∀ i, C.nx ≤ i → σ i = .dead
  obj : ∀ i, RepO w C i (σ i)
  inj : ∀ i j b, σ i ≠ .dead → σ j ≠ .dead → C.own i = some b → C.own j = some b → i = j
  sep : ∀ i b, σ i ≠ .dead → C.own i = some b → ¬ C.imm b
  imm_lt : ∀ b, C.imm b → b < w.heap.size

/-- The blocks that may be written. -/
def Mut (C : Ctx) (σ : Nat → AObj) (b : Nat) : Prop := ∃ i, σ i ≠ .dead ∧ C.own i = some b

/-- One step, or many. -/
structure Step (C : Ctx) (σ : Nat → AObj) (w : World) (C' : Ctx) (σ' : Nat → AObj) (w' : World) : Prop where
  le : CtxLe C C'
  os : w'.os = w.os
  tape : w'.tape = w.tape
  output : w'.output = w.output
  size : w.heap.size ≤ w'.heap.size
  imm : ∀ b, C.imm b → C'.imm b
  same : ∀ b, b < w.heap.size → ¬ Mut C σ b → w'.heap[b]? = w.heap[b]?
  wr : ∀ b, Mut C' σ' b → Mut C σ b ∨ w.heap.size ≤ b
  imm' : ∀ b, C'.imm b → C.imm b ∨ Mut C σ b ∨ w.heap.size ≤ b

theorem Step.refl (C : Ctx) (σ : Nat → AObj) (w : World) : Step C σ w C σ w :=
  ⟨⟨Nat.le_refl _, fun _ _ => rfl, fun _ _ => rfl⟩, rfl, rfl, rfl, Nat.le_refl _, fun _ h => h, fun _ _ _ => rfl, fun _ h => .inl h, fun _ h => .inl h⟩

theorem Step.trans {C C1 C2 : Ctx} {σ σ1 σ2 : Nat → AObj} {w w1 w2 : World} (h : Step C σ w C1 σ1 w1) (k : Step C1 σ1 w1 C2 σ2 w2) : Step C σ w C2 σ2 w2 where
  le := ⟨Nat.le_trans h.le.nx k.le.nx, fun i hi => (k.le.own i (Nat.lt_of_lt_of_le hi h.le.nx)).trans (h.le.own i hi), fun i hi => (k.le.hdr i (Nat.lt_of_lt_of_le hi h.le.nx)).trans (h.le.hdr i hi)⟩
  os := k.os.trans h.os
  tape := k.tape.trans h.tape
  output := k.output.trans h.output
  size := Nat.le_trans h.size k.size
  imm := fun b hb => k.imm b (h.imm b hb)
  same := fun b hb hm => by
    refine (k.same b (Nat.lt_of_lt_of_le hb h.size) fun hm' => ?_).trans (h.same b hb hm)
    rcases h.wr b hm' with h1 | h1
    · exact hm h1
    · omega
  wr := fun b hb => by
    rcases k.wr b hb with h1 | h1
    · exact h.wr b h1
    · exact .inr (Nat.le_trans h.size h1)
  imm' := fun b hb => by
    rcases k.imm' b hb with h1 | h1 | h1
    · exact h.imm' b h1
    · rcases h.wr b h1 with h2 | h2
      · exact .inr (.inl h2)
      · exact .inr (.inr h2)
    · exact .inr (.inr (Nat.le_trans h.size h1))

theorem Step.keeps {C C' : Ctx} {σ σ' : Nat → AObj} {w w' : World} (hs : Sim C σ w) (h : Step C σ w C' σ' w') : Keeps w C.imm w' C'.imm :=
  ⟨h.imm, fun b hb => h.same b (hs.imm_lt b hb) fun ⟨i, hi, ho⟩ => hs.sep i b hi ho hb⟩

theorem RepA.step {C C' : Ctx} {σ σ' : Nat → AObj} {w w' : World} (hs : Sim C σ w) (h : Step C σ w C' σ' w') {x : AV} {v : Value} (r : RepA w C x v) : RepA w' C' x v :=
  r.keeps (h.keeps hs) h.le
theorem RepL.step {C C' : Ctx} {σ σ' : Nat → AObj} {w w' : World} (hs : Sim C σ w) (h : Step C σ w C' σ' w') {x : List AV} {v : List Value} (r : RepL w C x v) : RepL w' C' x v :=
  ⟨r.1, fun k a u ha hu => (r.2 k a u ha hu).step hs h⟩

theorem Step.below {C C' : Ctx} {σ σ' : Nat → AObj} {w w' : World} (h : Step C σ w C' σ' w') (hm : ∀ i, σ i = .dead) : Below w.heap.size w w' :=
  ⟨h.os, h.tape, h.output, h.size, fun b hb => h.same b hb fun ⟨i, hi, _⟩ => hi (hm i)⟩

/-- An object that the step left, stands as it stood. -/
theorem RepO.step {C C' : Ctx} {w w' : World} {i : Nat} {o : AObj} (hk : Keeps w C.imm w' C'.imm) (hc : CtxLe C C') (hi : i < C.nx) (hb : ∀ b, C.own i = some b → w'.heap[b]? = w.heap[b]?)
    (h : RepO w C i o) : RepO w' C' i o := by
  cases o with
  | dead => exact True.intro
  | box cs =>
    obtain ⟨bl, vs, E, ho, hh, hl, hr⟩ := h
    exact ⟨bl, vs, E, (hc.own i hi).trans ho, (hb bl ho).trans hh, hl, fun k a u ha hu => (hr k a u ha hu).keeps hk hc⟩
  | arr sz es =>
    obtain ⟨hsz, h⟩ := h
    refine ⟨hsz, ?_⟩
    rcases h with ⟨h0, ho, a, hh⟩ | ⟨bl, cap, vs, E, lo, hi', ho, hh, hcap, hblk, hvs, hfr, hr⟩
    · exact .inl ⟨h0, (hc.own i hi).trans ho, a, (hc.hdr i hi).trans hh⟩
    · exact .inr ⟨bl, cap, vs, E, lo, hi', (hc.own i hi).trans ho, (hc.hdr i hi).trans hh, hcap, (hb bl ho).trans hblk, hvs, hfr, fun j k e c u he hc' hu => (hr j k e c u he hc' hu).keeps hk⟩
  | map es =>
    obtain ⟨bl, ms, clock, ho, hh, hl, hr⟩ := h
    exact ⟨bl, ms, clock, (hc.own i hi).trans ho, (hb bl ho).trans hh, hl, fun k a u ha hu => ⟨(hr k a u ha hu).1, (hr k a u ha hu).2.keeps hk hc⟩⟩
  | iter s k =>
    obtain ⟨bl, ho, hh⟩ := h
    exact ⟨bl, (hc.own i hi).trans ho, (hb bl ho).trans hh⟩

end Go.Proofs.Ytibmjinfdcmbdaa.R
