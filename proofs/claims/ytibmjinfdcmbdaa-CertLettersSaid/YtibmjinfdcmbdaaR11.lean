/- R11: what is left to do, as a list; its rules. -/
import Derived.Test.YtibmjinfdcmbdaaR10b
namespace Go.Proofs.Ytibmjinfdcmbdaa.R
open Go.RowKit

/-- Where a function's run began: context, store, world; how many slots it has. -/
structure Base where
  C : Ctx
  σ : Nat → AObj
  w : World
  n : Nat

/-- A state of the abstract side stands for the machine's. -/
def Rel (B : Base) (s : St) (a : Act) (w : World) : Prop :=
  ∃ C : Ctx, C.nx = s.nx ∧ (∀ t, RepA w C (s.m t) (a.tmps.getD t undef)) ∧ a.tmps.size = B.n ∧ a.defers = [] ∧ Sim C s.σ w ∧ Step B.C B.σ B.w C s.σ w

abbrev Post := Exit → St → Prop

def post (B : Base) (Q : Post) (e : Exit) (a : Act) (w : World) : Prop := ∃ s, Q e s ∧ Rel B s a w

def AXc (P : Program) (B : Base) (c : Code) (Q : Post) (s : St) : Prop := ∀ a w, Rel B s a w → c.wp P (post B Q) a w
def AXo (P : Program) (B : Base) (all : Array Oper) (rest : List Oper) (Q : Post) (s : St) : Prop := ∀ a w, Rel B s a w → wpList P all (post B Q) rest a w

/-- What is left to do. -/
inductive KI where
  | code (c : Code)
  | blk (id : Nat)
  | scp
  | ops (all : Array Oper) (rest : List Oper)
  /-- a region that draws its order: what is loud; how far -/
  | opsD (all : Array Oper) (lo : List Nat) (i : Nat) (rest : List Oper) (pend : List Rc)
  /-- a loop's next round -/
  | again (J : St → Prop)
  /-- a scope, of which labels may be jumped to -/
  | lab (J : Nat → St → Prop)
  /-- left by this way -/
  | fin (e : Exit)

def Kp (P : Program) (B : Base) : List KI → Post → Post
  | [], R => R
  | .code c :: k, R => fun e s => match e with
    | .normal => AXc P B c (Kp P B k R) s
    | e => Kp P B k R e s
  | .blk id :: k, R => fun e s => match e with
    | .exit i => if i = id then Kp P B k R .normal s else Kp P B k R (.exit i) s
    | e => Kp P B k R e s
  | .scp :: k, R => fun e s => match e with
    | .goto _ => False
    | e => Kp P B k R e s
  | .ops all rest :: k, R => fun e s => match e with
    | .normal => AXo P B all rest (Kp P B k R) s
    | e => Kp P B k R e s
  | .opsD all lo i rest pend :: k, R => fun e s => match e with
    | .normal => Chain P B.n all lo i rest pend s (Kp P B k R .normal)
    | e => Kp P B k R e s
  | .again J :: k, R => fun e s => match e with
    | .normal => J s
    | e => Kp P B k R e s
  | .lab J :: k, R => fun e s => match e with
    | .goto l => J l s
    | e => Kp P B k R e s
  | .fin e' :: k, R => fun e s => match e with
    | .normal => Kp P B k R e' s
    | e => Kp P B k R e s

section
variable {P : Program} {B : Base} {k : List KI} {R : Post} {s : St}

theorem post_mono {Q Q' : Post} (h : ∀ e s, Q e s → Q' e s) (e : Exit) (a : Act) (w : World) (hp : post B Q e a w) : post B Q' e a w :=
  let ⟨s, h1, h2⟩ := hp; ⟨s, h _ _ h1, h2⟩

theorem K_skip (h : Kp P B k R .normal s) : Kp P B (.code .skip :: k) R .normal s := fun _ _ hr => wp_skip ⟨s, h, hr⟩
theorem K_label {l : Nat} (h : Kp P B k R .normal s) : Kp P B (.code (.label l) :: k) R .normal s := fun _ _ hr => wp_label ⟨s, h, hr⟩
theorem K_ret (h : Kp P B k R .ret s) : Kp P B (.code .ret :: k) R .normal s := fun _ _ hr => wp_ret ⟨s, h, hr⟩
theorem K_exit {id : Nat} (h : Kp P B k R (.exit id) s) : Kp P B (.code (.exit id) :: k) R .normal s := fun _ _ hr => wp_exit ⟨s, h, hr⟩
theorem K_goto {l : Nat} (h : Kp P B k R (.goto l) s) : Kp P B (.code (.goto l) :: k) R .normal s := fun _ _ hr => wp_goto ⟨s, h, hr⟩

theorem K_seq {a b : Code} (h : Kp P B (.code a :: .code b :: k) R .normal s) : Kp P B (.code (.seq a b) :: k) R .normal s := by
  intro ac w hr
  refine wp_seq (wp_mono (h ac w hr) fun e a' w' hp => ?_)
  obtain ⟨s', h1, h2⟩ := hp
  cases e with
  | normal => exact h1 _ _ h2
  | _ => exact ⟨s', h1, h2⟩

theorem K_block {id : Nat} {c : Code} (h : Kp P B (.code c :: .blk id :: k) R .normal s) : Kp P B (.code (.block id c) :: k) R .normal s := by
  intro ac w hr
  refine wp_block (wp_mono (h ac w hr) fun e a' w' hp => ?_)
  obtain ⟨s', h1, h2⟩ := hp
  cases e with
  | exit i =>
    simp only [Kp] at h1
    simp only [Exit.inBlock]
    split <;> rename_i hi
    · rw [if_pos hi] at h1; exact ⟨s', h1, h2⟩
    · rw [if_neg hi] at h1; exact ⟨s', h1, h2⟩
  | _ => exact ⟨s', h1, h2⟩

theorem rel_cond {c : Operand} {t : Bool} (h : ev s.m c = .t (.v (.bool t))) {a : Act} {w : World} (hr : Rel B s a w) : a.eval c = .bool t := by
  obtain ⟨C, _, h1, _, _, _, _⟩ := hr
  cases c with
  | tmp t' =>
    have := h1 t'
    simp only [ev] at h
    rw [h] at this
    exact (rep_v this).1
  | const v =>
    simp only [ev] at h
    have := const_rep (w := w) (C := C) v
    rw [h] at this
    exact (rep_v this).1
  | global g => simp only [ev] at h; cases h
  | func f => simp only [ev] at h; cases h

theorem K_cond {c : Operand} {x y : Code} {t : Bool} (h : ev s.m c = .t (.v (.bool t))) (h1 : t = true → Kp P B (.code x :: k) R .normal s) (h2 : t = false → Kp P B (.code y :: k) R .normal s) :
    Kp P B (.code (.cond c x y) :: k) R .normal s := by
  intro a w hr
  exact wp_cond_split (rel_cond h hr) (fun e => h1 e a w hr) (fun e => h2 e a w hr)
theorem K_condT {c : Operand} {x y : Code} (h : ev s.m c = .t (.v (.bool true))) (h1 : Kp P B (.code x :: k) R .normal s) : Kp P B (.code (.cond c x y) :: k) R .normal s :=
  K_cond h (fun _ => h1) (fun e => by cases e)
theorem K_condF {c : Operand} {x y : Code} (h : ev s.m c = .t (.v (.bool false))) (h1 : Kp P B (.code y :: k) R .normal s) : Kp P B (.code (.cond c x y) :: k) R .normal s :=
  K_cond h (fun e => by cases e) (fun _ => h1)

theorem K_region {id : Nat} {ops : Array Oper} (h : Kp P B (.ops ops ops.toList :: k) R .normal s) : Kp P B (.code (.region id ops false) :: k) R .normal s :=
  fun a w hr => wp_region_list (h a w hr)
theorem K_opsNil {all : Array Oper} (h : Kp P B k R .normal s) : Kp P B (.ops all [] :: k) R .normal s := fun a w hr => ⟨s, h, hr⟩

/-- A state that says less. -/
def bnd (n : Nat) : AV → Bool
  | .t _ | .fsl _ | .rd _ | .any => true
  | .ref q => q < n
  | .ptr b _ => b < n
  | .el q _ => q < n
  | .mapr m => m < n
  | .agg cs => bndL n cs
  | .tup cs => bndL n cs
  | .fn _ a b => bndL n a && bndL n b
  where
  bndL (n : Nat) : List AV → Bool
  | [] => true
  | c :: cs => bnd n c && bndL n cs

theorem bndL_get {n : Nat} : ∀ {cs : List AV}, bnd.bndL n cs = true → ∀ (k : Nat) (a : AV), cs[k]? = some a → bnd n a = true
  | [], _, k, a, h => by simp at h
  | c :: cs, h, k, a, hk => by
    simp only [bnd.bndL, Bool.and_eq_true] at h
    cases k with
    | zero => simp at hk; subst hk; exact h.1
    | succ k => exact bndL_get h.2 k a (by simpa using hk)

theorem RepA.less {w : World} {C C' : Ctx} (h1 : C'.imm = C.imm) (h2 : C'.own = C.own) (h3 : C'.hdr = C.hdr) {x : AV} {v : Value} (h : RepA w C x v) (hb : bnd C'.nx x = true) : RepA w C' x v := by
  induction h with
  | t h => exact .t (by rw [h1]; exact h)
  | agg hl _ ih => exact .agg hl fun k a u ha hu => ih k a u ha hu (bndL_get (by simpa [bnd] using hb) k a ha)
  | tup hl _ ih => exact .tup hl fun k a u ha hu => ih k a u ha hu (bndL_get (by simpa [bnd] using hb) k a ha)
  | fsl h => exact .fsl (by rw [h1]; exact h)
  | ref h hh => exact .ref (by simpa [bnd] using hb) (by rw [h3]; exact hh)
  | ptr h ho => exact .ptr (by simpa [bnd] using hb) (by rw [h2]; exact ho)
  | rd hi hcell hr => exact .rd (by rw [h1]; exact hi) hcell (fun k c h => by rw [h1]; exact hr k c h)
  | el h ho hh => exact .el (by simpa [bnd] using hb) (by rw [h2]; exact ho) (by rw [h3]; exact hh)
  | mapr h ho => exact .mapr (by simpa [bnd] using hb) (by rw [h2]; exact ho)
  | fn hl _ hl' _ ih ih' =>
    simp only [bnd, Bool.and_eq_true] at hb
    exact .fn hl (fun k a u ha hu => ih k a u ha hu (bndL_get hb.1 k a ha)) hl' (fun k a u ha hu => ih' k a u ha hu (bndL_get hb.2 k a ha))
  | any => exact .any

def bndO (n : Nat) : AObj → Bool
  | .dead => true
  | .box cs => cs.all (bnd n)
  | .arr _ _ => true
  | .map es => es.all fun e => bnd n e.2
  | .iter _ _ => true

theorem RepO.less {w : World} {C C' : Ctx} (h1 : C'.imm = C.imm) (h2 : C'.own = C.own) (h3 : C'.hdr = C.hdr) {i : Nat} {o : AObj} (h : RepO w C i o) (hb : bndO C'.nx o = true) : RepO w C' i o := by
  cases o with
  | dead => exact True.intro
  | box cs =>
    obtain ⟨bl, vs, E, e1, e2, e3, e4⟩ := h
    exact ⟨bl, vs, E, by rw [h2]; exact e1, e2, e3, fun k a u ha hu => (e4 k a u ha hu).less h1 h2 h3 (List.all_eq_true.1 hb a (List.mem_of_getElem? ha))⟩
  | arr sz es =>
    obtain ⟨hsz, h⟩ := h
    refine ⟨hsz, ?_⟩
    rcases h with ⟨h0, ho, a, hh⟩ | ⟨bl, cap, vs, E, lo, hi', ho, hh, hcap, hblk, hvs, hfr, hr⟩
    · exact .inl ⟨h0, by rw [h2]; exact ho, a, by rw [h3]; exact hh⟩
    · exact .inr ⟨bl, cap, vs, E, lo, hi', by rw [h2]; exact ho, by rw [h3]; exact hh, hcap, hblk, hvs, hfr, by rw [h1]; exact hr⟩
  | map es =>
    obtain ⟨bl, ms, clock, e1, e2, e3, e4⟩ := h
    exact ⟨bl, ms, clock, by rw [h2]; exact e1, e2, e3, fun k a u ha hu => ⟨(e4 k a u ha hu).1, (e4 k a u ha hu).2.less h1 h2 h3 (List.all_eq_true.1 hb a (List.mem_of_getElem? ha))⟩⟩
  | iter s k =>
    obtain ⟨bl, e1, e2⟩ := h
    exact ⟨bl, by rw [h2]; exact e1, e2⟩

/-- t says less than s: slots, objects fall away. -/
structure Sub (B : Base) (s t : St) : Prop where
  m : ∀ i, t.m i = .any ∨ (t.m i = s.m i ∧ bnd t.nx (t.m i) = true)
  nx : t.nx ≤ s.nx
  base : B.C.nx ≤ t.nx
  obj : ∀ i, t.σ i = .dead ∨ (t.σ i = s.σ i ∧ bndO t.nx (t.σ i) = true ∧ i < t.nx)

theorem rel_sub {t : St} (h : Sub B s t) {a : Act} {w : World} (hr : Rel B s a w) : Rel B t a w := by
  obtain ⟨C, h1, h2, h3, h4, h5, h6⟩ := hr
  have live : ∀ i, t.σ i ≠ .dead → s.σ i ≠ .dead ∧ t.σ i = s.σ i ∧ bndO t.nx (t.σ i) = true ∧ i < t.nx := fun i hi => by
    rcases h.obj i with e | ⟨e1, e2, e3⟩
    · exact absurd e hi
    · exact ⟨by rw [← e1]; exact hi, e1, e2, e3⟩
  refine ⟨{ C with nx := t.nx }, rfl, fun i => ?_, h3, h4, ⟨fun i hi => ?_, fun i => ?_, fun i j b hi hj => h5.inj i j b (live i hi).1 (live j hj).1, fun i b hi => h5.sep i b (live i hi).1, h5.imm_lt⟩,
    ⟨⟨h.base, fun i hi => h6.le.own i hi, fun i hi => h6.le.hdr i hi⟩, h6.os, h6.tape, h6.output, h6.size, h6.imm, h6.same, fun b ⟨i, hi, hb⟩ => h6.wr b ⟨i, (live i hi).1, hb⟩, h6.imm'⟩⟩
  · rcases h.m i with e | ⟨e1, e2⟩
    · rw [e]; exact .any
    · have := h2 i
      rw [← e1] at this
      exact RepA.less (C := C) (C' := { C with nx := t.nx }) rfl rfl rfl this e2
  · rcases h.obj i with e | ⟨_, _, e3⟩
    · exact e
    · exact absurd hi (by simp; omega)
  · by_cases hi : t.σ i = .dead
    · rw [hi]; exact True.intro
    · obtain ⟨e1, e2, e3, e4⟩ := live i hi
      have := h5.obj i
      rw [← e2] at this
      exact RepO.less (C := C) (C' := { C with nx := t.nx }) rfl rfl rfl this e3

/-- What the one stands for the other stands for. -/
def Imp (B : Base) (s t : St) : Prop := ∀ a w, Rel B s a w → Rel B t a w
theorem Sub.imp {t : St} (h : Sub B s t) : Imp B s t := fun _ _ hr => rel_sub h hr
theorem Imp.self : Imp B s s := fun _ _ h => h
theorem Imp.trans {t u : St} (h : Imp B s t) (k : Imp B t u) : Imp B s u := fun a w hr => k a w (h a w hr)

theorem bndL_of {n : Nat} : ∀ {cs : List AV}, (∀ (k : Nat) (a : AV), cs[k]? = some a → bnd n a = true) → bnd.bndL n cs = true
  | [], _ => by simp [bnd.bndL]
  | c :: cs, h => by
    simp only [bnd.bndL, Bool.and_eq_true]
    exact ⟨h 0 c rfl, bndL_of fun k a hk => h (k + 1) a (by simpa using hk)⟩

theorem RepA.bnded {w : World} {C : Ctx} {x : AV} {v : Value} (h : RepA w C x v) : bnd C.nx x = true := by
  have arr : ∀ {cs : List AV} {vs : Array Value}, cs.length = vs.size → (∀ (k : Nat) (a : AV) (u : Value), cs[k]? = some a → vs[k]? = some u → bnd C.nx a = true) → bnd.bndL C.nx cs = true := by
    intro cs vs hl h
    refine bndL_of fun k a hk => ?_
    have hlt := (List.getElem?_eq_some_iff.1 hk).1
    exact h k a vs[k] hk (Array.getElem?_eq_getElem (by omega))
  induction h with
  | t h => simp [bnd]
  | agg hl _ ih => simp only [bnd]; exact arr hl ih
  | tup hl _ ih => simp only [bnd]; exact arr hl ih
  | fsl h => simp [bnd]
  | ref h hh => simpa [bnd] using h
  | ptr h ho => simpa [bnd] using h
  | rd hi hcell hr => simp [bnd]
  | el h ho hh => simpa [bnd] using h
  | mapr h ho => simpa [bnd] using h
  | fn hl _ hl' _ ih ih' => simp only [bnd, Bool.and_eq_true]; exact ⟨arr hl ih, arr hl' ih'⟩
  | any => simp [bnd]

theorem RepO.bnded {w : World} {C : Ctx} {i : Nat} {o : AObj} (h : RepO w C i o) : bndO C.nx o = true := by
  cases o with
  | dead => rfl
  | box cs =>
    obtain ⟨bl, vs, E, e1, e2, e3, e4⟩ := h
    simp only [bndO, List.all_eq_true]
    intro a ha
    obtain ⟨k, hk⟩ := List.getElem?_of_mem ha
    have hlt := (List.getElem?_eq_some_iff.1 hk).1
    exact (e4 k a vs[k] hk (Array.getElem?_eq_getElem (by omega))).bnded
  | arr sz es => rfl
  | map es =>
    obtain ⟨bl, ms, clock, e1, e2, e3, e4⟩ := h
    simp only [bndO, List.all_eq_true]
    intro a ha
    obtain ⟨k, hk⟩ := List.getElem?_of_mem ha
    have hlt := (List.getElem?_eq_some_iff.1 hk).1
    exact (e4 k a ms[k] hk (Array.getElem?_eq_getElem (by omega))).2.bnded
  | iter s k => rfl

theorem rel_nx {a : Act} {w : World} (hr : Rel B s a w) : B.C.nx ≤ s.nx := by
  obtain ⟨C, h1, _, _, _, _, h6⟩ := hr
  rw [← h1]; exact h6.le.nx

/-- Slots, objects fall away; no number is free again. -/
theorem Imp.same {t : St} (hm : ∀ i, t.m i = .any ∨ t.m i = s.m i) (ho : ∀ i, t.σ i = .dead ∨ t.σ i = s.σ i) (hn : t.nx = s.nx) : Imp B s t := by
  intro a w hr
  refine rel_sub ⟨fun i => ?_, by omega, by have := rel_nx hr; omega, fun i => ?_⟩ hr
  · obtain ⟨C, h1, h2, _⟩ := hr
    rcases hm i with e | e
    · exact .inl e
    · exact .inr ⟨e, by rw [e, hn, ← h1]; exact (h2 i).bnded⟩
  · obtain ⟨C, h1, h2, h3, h4, h5, _⟩ := hr
    rcases ho i with e | e
    · exact .inl e
    · by_cases hd : t.σ i = .dead
      · exact .inl hd
      · have hl : i < C.nx := Nat.lt_of_not_le fun h => by
          have := h5.dead i h
          rw [e] at hd
          exact hd this
        exact .inr ⟨e, by rw [e, hn, ← h1]; exact (h5.obj i).bnded, by omega⟩

/-- Numbers are left out. -/
theorem Imp.raise {n : Nat} (hn : s.nx ≤ n) : Imp B s { s with nx := n } := by
  intro a w hr
  obtain ⟨C, h1, h2, h3, h4, h5, h6⟩ := hr
  have hc : CtxLe C { C with nx := n } := ⟨by show C.nx ≤ n; omega, fun _ _ => rfl, fun _ _ => rfl⟩
  have hk : Keeps w C.imm w C.imm := ⟨fun _ h => h, fun _ _ => rfl⟩
  refine ⟨{ C with nx := n }, rfl, fun t => (h2 t).keeps (C' := { C with nx := n }) hk hc, h3, h4, ⟨fun i hi => h5.dead i (by have : n ≤ i := hi; omega), fun i => ?_, h5.inj, h5.sep, h5.imm_lt⟩,
    ⟨⟨Nat.le_trans h6.le.nx hc.nx, h6.le.own, h6.le.hdr⟩, h6.os, h6.tape, h6.output, h6.size, h6.imm, h6.same, h6.wr, h6.imm'⟩⟩
  by_cases hd : s.σ i = .dead
  · show RepO w _ i (s.σ i)
    rw [hd]; exact True.intro
  · have hl : i < C.nx := Nat.lt_of_not_le fun h => hd (h5.dead i h)
    exact (h5.obj i).step (C' := { C with nx := n }) hk hc hl fun _ _ => rfl

theorem wp_loop_ix {α : Type} {P : Program} {Q : Exit → Act → World → Prop} {a : Act} {w : World} {c : Code} (I : α → Act → World → Prop) (μ : α → Nat) (x0 : α) (h₀ : I x0 a w)
    (round : ∀ x a w, I x a w → c.wp P (Exit.then (fun a' w' => ∃ y, I y a' w' ∧ μ y < μ x) Q) a w) : (Code.loop c).wp P Q a w := by
  intro b k cs
  have key : ∀ n x a w, μ x = n → I x a w →
      ∃ e a' w', Q e a' w' ∧ Arrives P (lone (b.at a (.code c :: .inLoop c :: k)) cs w) b k cs e a' w' := by
    intro n
    induction n using Nat.strongRecOn with
    | _ n ih =>
      intro x a w hn hI
      obtain ⟨e, a₁, w₁, hq, harr⟩ := round x a w hI b (.inLoop c :: k) cs
      cases e with
      | normal =>
        obtain ⟨y, hI₁, hlt⟩ := hq
        obtain ⟨e₂, a₂, w₂, hq₂, harr₂⟩ := ih (μ y) (hn ▸ hlt) y a₁ w₁ rfl hI₁
        exact ⟨e₂, a₂, w₂, hq₂, .of_steps (Steps.trans harr (.one step_inLoop)) harr₂⟩
      | exit id => exact ⟨_, a₁, w₁, hq, .pass (x := .inLoop c) rfl (fun _ _ => .inl (by simp)) harr⟩
      | goto l => exact ⟨_, a₁, w₁, hq, .pass (x := .inLoop c) rfl (fun _ _ => .inl (by simp)) harr⟩
      | ret => exact ⟨_, a₁, w₁, hq, .pass (x := .inLoop c) rfl (fun _ _ => .inl (by simp)) harr⟩
      | panic ch => exact ⟨_, a₁, w₁, hq, .pass (x := .inLoop c) rfl (fun _ _ => .inl (by simp)) harr⟩
      | outgrown => exact ⟨_, a₁, w₁, hq, .pass (x := .inLoop c) rfl (fun _ _ => .inl (by simp)) harr⟩
  obtain ⟨e, a', w', hq, harr⟩ := key _ x0 a w rfl h₀
  exact ⟨e, a', w', hq, .of_steps (.one step_loop) harr⟩

/-- A loop: states 'st a', a measure; the round. -/
theorem K_loop {α : Type} (st : α → St) (μ : α → Nat) (a0 : α) {c : Code} (h0 : Imp B s (st a0)) (round : ∀ a, Kp P B (.code c :: .again (fun s' => ∃ a', Imp B s' (st a') ∧ μ a' < μ a) :: k) R .normal (st a)) :
    Kp P B (.code (.loop c) :: k) R .normal s := by
  intro ac w hr
  refine wp_loop_ix (fun x a w => Rel B (st x) a w) μ a0 (h0 _ _ hr) fun x a w hx => wp_mono (round x a w hx) fun e a' w' hp => ?_
  obtain ⟨s', h1, h2⟩ := hp
  cases e with
  | normal =>
    obtain ⟨y, h3, h4⟩ := h1
    exact ⟨y, h3 _ _ h2, h4⟩
  | _ => exact ⟨s', h1, h2⟩

/-- A scope through which the run goes without a jump. -/
theorem K_scope {c : Code} (h : Kp P B (.code c :: .scp :: k) R .normal s) : Kp P B (.code (.scope c) :: k) R .normal s := by
  intro ac w hr
  refine wp_scope_straight (wp_mono (h ac w hr) fun e a' w' hp => ?_)
  obtain ⟨s', h1, h2⟩ := hp
  cases e with
  | goto l => exact h1.elim
  | _ => exact ⟨s', h1, h2⟩

/-- A scope whose labels are jumped to: what holds at each jump, a measure. -/
theorem wp_scope_many {α : Type} {P : Program} {a : Act} {w : World} {Q : Exit → Act → World → Prop} {c : Code} (I : α → Act → World → Prop) (lb : α → Nat) (μ : α → Nat) (rest : Nat → Code)
    (hf : ∀ x, findLabel c (lb x) = some (rest (lb x)))
    (first : c.wp P (fun e a' w' => match e with | .goto l => ∃ y, lb y = l ∧ I y a' w' | e => Q e a' w') a w)
    (pass : ∀ x a w, I x a w → (rest (lb x)).wp P (fun e a' w' => match e with | .goto l => ∃ y, lb y = l ∧ I y a' w' ∧ μ y < μ x | e => Q e a' w') a w) : (Code.scope c).wp P Q a w := by
  intro b k cs
  have hg : ∀ x, gotoIn (lb x) (.inScope c :: k) = some (.code (rest (lb x)) :: .inScope c :: k) := fun x => by simp [gotoIn, hf]
  have key : ∀ n x a w, μ x = n → I x a w → ∃ e a' w', Q e a' w' ∧ Arrives P (lone (b.at a (.code (rest (lb x)) :: .inScope c :: k)) cs w) b k cs e a' w' := by
    intro n
    induction n using Nat.strongRecOn with
    | _ n ih =>
      intro x a w hn hJ
      obtain ⟨e, a₁, w₁, hq, harr⟩ := pass x a w hJ b (.inScope c :: k) cs
      cases e with
      | normal => exact ⟨.normal, a₁, w₁, hq, Steps.trans harr (.one step_inScope)⟩
      | exit id => exact ⟨.exit id, a₁, w₁, hq, fun k' hk => harr k' (by simp [exitTo, hk])⟩
      | goto l' =>
        obtain ⟨y, rfl, hJ', hlt⟩ := hq
        obtain ⟨e₂, a₂, w₂, hq₂, harr₂⟩ := ih _ (by omega) y a₁ w₁ rfl hJ'
        exact ⟨e₂, a₂, w₂, hq₂, .of_steps (harr _ (hg y)) harr₂⟩
      | ret => exact ⟨_, a₁, w₁, hq, harr⟩
      | panic ch => exact ⟨_, a₁, w₁, hq, harr⟩
      | outgrown => exact ⟨_, a₁, w₁, hq, harr⟩
  obtain ⟨e, a₁, w₁, hq, harr⟩ := first b (.inScope c :: k) cs
  cases e with
  | normal => exact ⟨.normal, a₁, w₁, hq, .head step_scope (Steps.trans harr (.one step_inScope))⟩
  | exit id => exact ⟨.exit id, a₁, w₁, hq, fun k' hk => .head step_scope (harr k' (by simp [exitTo, hk]))⟩
  | goto l' =>
    obtain ⟨y, rfl, hJ'⟩ := hq
    obtain ⟨e₂, a₂, w₂, hq₂, harr₂⟩ := key _ y a₁ w₁ rfl hJ'
    exact ⟨e₂, a₂, w₂, hq₂, .of_steps (.head step_scope (harr _ (hg y))) harr₂⟩
  | ret => exact ⟨_, a₁, w₁, hq, .of_steps (.one step_scope) harr⟩
  | panic ch => exact ⟨_, a₁, w₁, hq, .of_steps (.one step_scope) harr⟩
  | outgrown => exact ⟨_, a₁, w₁, hq, .of_steps (.one step_scope) harr⟩

theorem K_scopes {α : Type} (st : α → St) (lb : α → Nat) (μ : α → Nat) {c : Code} (rest : Nat → Code) (hf : ∀ x, findLabel c (lb x) = some (rest (lb x)))
    (first : Kp P B (.code c :: .lab (fun l s' => ∃ y, lb y = l ∧ Imp B s' (st y)) :: k) R .normal s)
    (pass : ∀ x, Kp P B (.code (rest (lb x)) :: .lab (fun l s' => ∃ y, lb y = l ∧ Imp B s' (st y) ∧ μ y < μ x) :: k) R .normal (st x)) : Kp P B (.code (.scope c) :: k) R .normal s := by
  intro ac w hr
  refine wp_scope_many (fun x a w => Rel B (st x) a w) lb μ rest hf (wp_mono (first ac w hr) fun e a' w' hp => ?_) fun x a w hx => wp_mono (pass x a w hx) fun e a' w' hp => ?_
  · obtain ⟨s', h1, h2⟩ := hp
    cases e with
    | goto l => obtain ⟨y, h3, h4⟩ := h1; exact ⟨y, h3, h4 _ _ h2⟩
    | _ => exact ⟨s', h1, h2⟩
  · obtain ⟨s', h1, h2⟩ := hp
    cases e with
    | goto l => obtain ⟨y, h3, h4, h5⟩ := h1; exact ⟨y, h3, h4 _ _ h2, h5⟩
    | _ => exact ⟨s', h1, h2⟩

/-- Less is known from here on. -/
theorem K_less {t : St} {c : Code} (h : Imp B s t) (hk : Kp P B (.code c :: k) R .normal t) : Kp P B (.code c :: k) R .normal s :=
  fun a w hr => hk a w (h _ _ hr)

end
end Go.Proofs.Ytibmjinfdcmbdaa.R
