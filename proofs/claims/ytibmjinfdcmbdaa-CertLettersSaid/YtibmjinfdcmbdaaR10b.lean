/- R10b: regions whose operations may run in several orders: what is known of them. -/
import Derived.Test.YtibmjinfdcmbdaaR10
namespace Go.Proofs.Ytibmjinfdcmbdaa.R
open Go.RowKit

def dstOf (all : Array Oper) (i : Nat) : Option Nat := (all[i]?).bind (·.dst)
def looksOf (all : Array Oper) (i : Nat) : List Tmp := match all[i]? with
  | some o => o.looksAt all
  | none => []
/-- Just the slots that an operation looks at. -/
def mask (l : List Tmp) (m : Slots) : Slots := fun t => if l.contains t then m t else .any

/-- An operation in a region: from slots, of which it sees just what it looks at, and a store. -/
def Does (P : Program) (n : Nat) (all : Array Oper) (i : Nat) (m : Slots) (σ : Nat → AObj) (nx : Nat) (v : AV) (σ' : Nat → AObj) (nx' : Nat) : Prop :=
  ∀ (C : Ctx) (a : Act) (w : World), C.nx = nx → Sim C σ w → a.tmps.size = n → (∀ t, RepA w C (mask (looksOf all i) m t) (a.tmps.getD t undef)) →
    ∀ (K : Act → World → Prop) (Q : Exit → Act → World → Prop), (∀ u w' C', Sim C' σ' w' → C'.nx = nx' → Step C σ w C' σ' w' → RepA w' C' v u → K (a.put (dstOf all i) u) w') → wpOp P all Q i K a w

/-- One operation of a region, as the text has it: its number, the slots ahead of it, what it gives; loud: the store behind it. -/
structure Rc where
  i : Nat
  m : Slots
  v : AV
  loud : Option ((Nat → AObj) × Nat)

def goes (all : Array Oper) (m : Slots) (l : List Rc) : Slots := l.foldl (fun m r => put m (dstOf all r.i) r.v) m
def louds (l : List Rc) : List Rc := l.filter (·.loud.isSome)
def after (c : (Nat → AObj) × Nat) (r : Rc) : (Nat → AObj) × Nat := r.loud.getD c
def goesS (c : (Nat → AObj) × Nat) (l : List Rc) : (Nat → AObj) × Nat := l.foldl after c

section
variable (P : Program) (n : Nat) (all : Array Oper) (anc : Nat → Nat → Bool)

def SilentOK (r : Rc) : (Nat → AObj) × Nat → List Rc → Prop
  | c, [] => Does P n all r.i r.m c.1 c.2 r.v c.1 c.2
  | c, k :: ks => (anc k.i r.i = true ∨ Does P n all r.i r.m c.1 c.2 r.v c.1 c.2) ∧ (anc r.i k.i = true ∨ SilentOK r (after c k) ks)
def LoudsOK : (Nat → AObj) × Nat → List Rc → Prop
  | _, [] => True
  | c, k :: ks => Does P n all k.i k.m c.1 c.2 k.v (after c k).1 (after c k).2 ∧ LoudsOK (after c k) ks

/-- Two operations that may change places. -/
def apart (i j : Nat) : Bool :=
  (match dstOf all i with | some d => !(looksOf all j).contains d | none => true) &&
  (match dstOf all j with | some d => !(looksOf all i).contains d | none => true) &&
  (match dstOf all i, dstOf all j with | some d, some e => d != e | _, _ => true)

structure Ord (r q : Rc) : Prop where
  lt : r.i < q.i
  or : anc r.i q.i = true ∨ (apart all r.i q.i = true ∧ (r.loud = none ∨ q.loud = none))

structure Inv (l : List Rc) (s : St) : Prop where
  view : ∀ l1 r l2, l = l1 ++ r :: l2 → ∀ t ∈ looksOf all r.i, goes all s.m l1 t = r.m t
  ord : l.Pairwise (Ord all anc)
  silent : ∀ r ∈ l, r.loud = none → SilentOK P n all anc r (s.σ, s.nx) (louds l)
  loud : LoudsOK P n all (s.σ, s.nx) (louds l)
end

section
variable {P : Program} {n : Nat} {all : Array Oper} {anc : Nat → Nat → Bool}

theorem put_comm (m : Slots) (d e : Option Nat) (v u : AV) (h : ∀ x y, d = some x → e = some y → x ≠ y) : put (put m d v) e u = put (put m e u) d v := by
  cases d with
  | none => rfl
  | some d =>
    cases e with
    | none => rfl
    | some e =>
      have := h d e rfl rfl
      funext i
      simp only [put]
      split <;> split <;> simp_all

theorem apart_dst {i j : Nat} (h : apart all i j = true) {x y : Nat} (hx : dstOf all i = some x) (hy : dstOf all j = some y) : x ≠ y := by
  simp only [apart, hx, hy, Bool.and_eq_true] at h
  simpa using h.2
theorem apart_l {i j : Nat} (h : apart all i j = true) {x : Nat} (hx : dstOf all i = some x) : x ∉ looksOf all j := by
  simp only [apart, hx, Bool.and_eq_true] at h
  simpa using h.1.1
theorem apart_r {i j : Nat} (h : apart all i j = true) {x : Nat} (hx : dstOf all j = some x) : x ∉ looksOf all i := by
  simp only [apart, hx, Bool.and_eq_true] at h
  simpa using h.1.2

theorem goes_put {l : List Rc} {j : Nat} {v : AV} (h : ∀ q ∈ l, apart all q.i j = true) : ∀ (m : Slots), goes all (put m (dstOf all j) v) l = put (goes all m l) (dstOf all j) v := by
  induction l with
  | nil => intro m; rfl
  | cons q l ih =>
    intro m
    have h1 := ih (fun q hq => h q (List.mem_cons_of_mem _ hq))
    simp only [goes, List.foldl_cons] at h1 ⊢
    rw [put_comm m _ _ _ _ (fun x y hx hy e => apart_dst (h q List.mem_cons_self) hy hx e.symm)]
    exact h1 _

theorem put_off {m : Slots} {d : Option Nat} {v : AV} {t : Nat} (h : ∀ x, d = some x → x ≠ t) : put m d v t = m t := by
  cases d with
  | none => rfl
  | some d => simp only [put]; rw [if_neg (fun e => h d rfl e.symm)]

theorem goes_off {l : List Rc} {j t : Nat} (h : ∀ q ∈ l, apart all q.i j = true) (ht : t ∈ looksOf all j) : ∀ (m : Slots), goes all m l t = m t := by
  induction l with
  | nil => intro m; rfl
  | cons q l ih =>
    intro m
    have h1 := ih (fun q hq => h q (List.mem_cons_of_mem _ hq))
    simp only [goes, List.foldl_cons] at h1 ⊢
    rw [h1, put_off fun x hx e => apart_l (h q List.mem_cons_self) hx (e ▸ ht)]

theorem goes_app (m : Slots) (l1 l2 : List Rc) : goes all m (l1 ++ l2) = goes all (goes all m l1) l2 := by simp [goes]

theorem louds_none {l : List Rc} (h : ∀ q ∈ l, q.loud = none) : louds l = [] := by
  simp only [louds, List.filter_eq_nil_iff]
  intro q hq
  simp [h q hq]

/-- One of those that are left is done, if nothing that is left must go ahead of it. -/
theorem Inv.take {l1 l2 : List Rc} {r : Rc} {s : St} (h : Inv P n all anc (l1 ++ r :: l2) s) (hr : ∀ q ∈ l1 ++ r :: l2, anc q.i r.i = false) :
    (∀ t ∈ looksOf all r.i, s.m t = r.m t) ∧
    Does P n all r.i r.m s.σ s.nx r.v (after (s.σ, s.nx) r).1 (after (s.σ, s.nx) r).2 ∧
    Inv P n all anc (l1 ++ l2) ⟨put s.m (dstOf all r.i) r.v, (after (s.σ, s.nx) r).1, (after (s.σ, s.nx) r).2⟩ ∧
    goes all (put s.m (dstOf all r.i) r.v) (l1 ++ l2) = goes all s.m (l1 ++ r :: l2) ∧
    goesS (after (s.σ, s.nx) r) (l1 ++ l2) = goesS (s.σ, s.nx) (l1 ++ r :: l2) := by
  have hord := h.ord
  rw [List.pairwise_append] at hord
  obtain ⟨ho1, ho2, ho3⟩ := hord
  rw [List.pairwise_cons] at ho2
  have hap : ∀ q ∈ l1, apart all q.i r.i = true ∧ (q.loud = none ∨ r.loud = none) := fun q hq => by
    rcases (ho3 q hq r List.mem_cons_self).or with e | e
    · rw [hr q (List.mem_append_left _ hq)] at e; cases e
    · exact e
  have hap1 : ∀ q ∈ l1, apart all q.i r.i = true := fun q hq => (hap q hq).1
  have hl1 : r.loud ≠ none → ∀ q ∈ l1, q.loud = none := fun hne q hq => ((hap q hq).2).resolve_right hne
  have hview : ∀ t ∈ looksOf all r.i, s.m t = r.m t := fun t ht => by
    rw [← h.view l1 r l2 rfl t ht, goes_off hap1 ht]
  -- the loud ones
  have hls : (r.loud = none ∧ louds (l1 ++ r :: l2) = louds (l1 ++ l2)) ∨ (r.loud ≠ none ∧ louds (l1 ++ r :: l2) = r :: louds (l1 ++ l2)) := by
    cases hk : r.loud with
    | none => exact .inl ⟨rfl, by simp [louds, hk]⟩
    | some k =>
      refine .inr ⟨by simp, ?_⟩
      have h0 : louds l1 = [] := louds_none (hl1 (by rw [hk]; simp))
      simp only [louds] at h0
      simp [louds, hk, h0]
  have hdoes : Does P n all r.i r.m s.σ s.nx r.v (after (s.σ, s.nx) r).1 (after (s.σ, s.nx) r).2 := by
    rcases hls with ⟨hn, hl⟩ | ⟨hn, hl⟩
    · have h1 := h.silent r (by simp) hn
      have h2 : after (s.σ, s.nx) r = (s.σ, s.nx) := by simp [after, hn]
      rw [h2]
      cases hls2 : louds (l1 ++ r :: l2) with
      | nil => rw [hls2] at h1; exact h1
      | cons k ks =>
        rw [hls2] at h1
        refine h1.1.resolve_left fun e => ?_
        have hk : k ∈ louds (l1 ++ r :: l2) := by rw [hls2]; exact List.mem_cons_self
        have := hr k (List.mem_filter.1 hk).1
        rw [this] at e; cases e
    · have h1 := h.loud
      rw [hl] at h1
      exact h1.1
  refine ⟨hview, hdoes, ⟨fun a1 q a2 hq t ht => ?_, ?_, fun q hq hqn => ?_, ?_⟩, ?_, ?_⟩
  · -- view
    have hmem : q ∈ l1 ++ l2 := by rw [hq]; simp
    -- where q lies
    rcases List.append_eq_append_iff.1 hq with ⟨b, h1, h2⟩ | ⟨b, h1, h2⟩
    · -- a1 = l1 ++ b, l2 = b ++ q :: a2
      subst h1
      have h3 := h.view (l1 ++ r :: b) q a2 (by rw [h2]; simp) t ht
      rw [goes_app, goes_put hap1]
      rw [goes_app] at h3
      exact h3
    · -- l1 = a1 ++ b, q :: a2 = b ++ l2
      cases b with
      | nil =>
        simp only [List.append_nil] at h1
        simp only [List.nil_append] at h2
        subst h1
        have h3 := h.view (l1 ++ [r]) q a2 (by rw [← h2]; simp) t ht
        rw [goes_put hap1]
        rw [goes_app] at h3
        exact h3
      | cons x b =>
        simp only [List.cons_append, List.cons.injEq] at h2
        obtain ⟨rfl, h2⟩ := h2
        have h3 := h.view a1 q (b ++ r :: l2) (by rw [h1]; simp) t ht
        rw [goes_put (fun y hy => hap1 y (by rw [h1]; exact List.mem_append_left _ hy)), ← h3, put_off fun z hz e => ?_]
        have := hap1 q (by rw [h1]; simp)
        exact apart_r this hz (e ▸ ht)
  · exact h.ord.sublist (List.append_sublist_append_left l1 |>.2 (List.sublist_cons_self r l2))
  · have hq' : q ∈ l1 ++ r :: l2 := by
      rcases List.mem_append.1 hq with e | e
      · exact List.mem_append_left _ e
      · exact List.mem_append_right _ (List.mem_cons_of_mem _ e)
    have h1 := h.silent q hq' hqn
    rcases hls with ⟨hn, hl⟩ | ⟨hn, hl⟩
    · rw [hl] at h1
      simpa [after, hn] using h1
    · rw [hl] at h1
      refine h1.2.resolve_left fun e => ?_
      rw [hr q hq'] at e; cases e
  · have h1 := h.loud
    rcases hls with ⟨hn, hl⟩ | ⟨hn, hl⟩
    · rw [hl] at h1
      simpa [after, hn] using h1
    · rw [hl] at h1
      exact h1.2
  · rw [goes_app, goes_put hap1, goes_app]
    rfl
  · rcases Option.eq_none_or_eq_some r.loud with hn | ⟨k, hk⟩
    · simp [goesS, List.foldl_append, after, hn]
    · have h0 := hl1 (by rw [hk]; simp)
      have : ∀ (l : List Rc), (∀ q ∈ l, q.loud = none) → ∀ c, goesS c l = c := by
        intro l
        induction l with
        | nil => intro _ c; rfl
        | cons q l ih =>
          intro hq c
          simp only [goesS, List.foldl_cons] at ih ⊢
          have : after c q = c := by simp [after, hq q List.mem_cons_self]
          rw [this]
          exact ih (fun x hx => hq x (List.mem_cons_of_mem _ hx)) c
      have e1 := this l1 h0
      simp only [goesS] at e1 ⊢
      rw [List.foldl_append, List.foldl_append, e1, e1, List.foldl_cons]

/-! ### The edges -/

/-- The table of what must go ahead of what: from the edges. -/
def preds (all : Array Oper) (i : Nat) : List Nat := match all[i]? with
  | some o => (o.after.toList.filter (Region.binds .any)).map (·.on)
  | none => []
def tabUp (all : Array Oper) : Nat → List (List Nat)
  | 0 => []
  | k + 1 => let t := tabUp all k
    t ++ [(preds all k).foldl (fun acc e => ((e :: t.getD e []).filter (fun x => !acc.contains x)) ++ acc) []]
def ancT (t : List (List Nat)) (i j : Nat) : Bool := (t.getD j []).contains i
/-- The table holds. -/
def tabOK (all : Array Oper) (t : List (List Nat)) : Bool :=
  (List.range all.size).all fun j => (preds all j).all (· < j) && (t.getD j []).all fun x => (preds all j).contains x || (preds all j).any fun e => (t.getD e []).contains x

theorem tab_spec {t : List (List Nat)} (ht : tabOK all t = true) {listed : Array Bool} (hc : ∀ j < all.size, listed.getD j true = true → ∀ e ∈ preds all j, listed.getD e false = true) :
    ∀ j, j < all.size → (∀ e ∈ preds all j, listed.getD e false = true) → ∀ x, ancT t x j = true → listed.getD x false = true := by
  intro j
  induction j using Nat.strongRecOn with
  | _ j ih =>
    intro hj hp x hx
    have h := List.all_eq_true.1 ht j (List.mem_range.2 hj)
    simp only [Bool.and_eq_true] at h
    have hx' : x ∈ t.getD j [] := by simpa [ancT] using hx
    have h2 := List.all_eq_true.1 h.2 x hx'
    simp only [Bool.or_eq_true, List.any_eq_true] at h2
    rcases h2 with h2 | ⟨e, he, h2⟩
    · exact hp x (by simpa using h2)
    · have hlt : e < j := by simpa using List.all_eq_true.1 h.1 e he
      have hle := hp e he
      refine ih e hlt (by omega) (fun y hy => hc e (by omega) ?_ y hy) x h2
      rw [Array.getD_eq_getD_getElem?] at hle ⊢
      cases hz : listed[e]? with
      | none => rw [hz] at hle; simp at hle
      | some b => rw [hz] at hle; simpa using hle

end

/-- What must hold of a region by its text: the edges, the slots, what is loud. -/
def statOK (all : Array Oper) (n : Nat) (lo : List Nat) : Bool :=
  let t := tabUp all all.size
  tabOK all t && (List.range all.size).all (fun i => (match dstOf all i with | some d => d < n | none => true) &&
    (List.range all.size).all fun j => !(decide (i < j)) || ancT t i j || (apart all i j && !(lo.contains i && lo.contains j)))

def anc (all : Array Oper) (i j : Nat) : Bool := ancT (tabUp all all.size) i j


/-! ### What an operation gives hangs on its operands alone -/
section
variable {ρ ρ' : Operand → AV}
theorem map_congr' {l : List Operand} (h : ∀ x ∈ l, ρ x = ρ' x) : l.map ρ = l.map ρ' := List.map_congr_left h
theorem parts_congr {l : List (Nat × Operand)} (h : ∀ p ∈ l, ρ p.2 = ρ' p.2) : (l.map fun p => (p.1, ρ p.2)) = l.map fun p => (p.1, ρ' p.2) := List.map_congr_left fun p hp => by rw [h p hp]
theorem omap_congr {o : Option Operand} (h : ∀ x, o = some x → ρ x = ρ' x) : o.map ρ = o.map ρ' := by
  cases o with
  | none => rfl
  | some x => simp [h x rfl]

theorem evalB_congr {P : Program} {f : Callee} {args : List Operand} {tys : List TypeId} (h : ∀ x ∈ args, ρ x = ρ' x) : evalB P ρ f args tys = evalB P ρ' f args tys := by
  have h1 := map_congr' h
  unfold evalB
  split
  · split
    · rename_i x t
      rw [h x (by simp)]
    · rfl
  · rw [h1]
  · rw [h1]
  · rfl

theorem evalP_congr {P : Program} {op : Op} (h : ∀ x ∈ op.operands.toList, ρ x = ρ' x) : evalP P ρ op = evalP P ρ' op := by
  cases op with
  | call c =>
    simp only [evalP]
    refine evalB_congr fun x hx => h x ?_
    simp only [Op.operands, Call.operands]
    cases hc : c.callee <;> simp at hx ⊢ <;> simp [hx]
  | build t ps =>
    have := parts_congr (ρ := ρ) (ρ' := ρ') (l := ps.toList) fun p hp => h p.2 (by simp [Op.operands]; exact ⟨p.1, by simpa using hp⟩)
    simp only [evalP, this]
  | buildSlice t n ps =>
    have := parts_congr (ρ := ρ) (ρ' := ρ') (l := ps.toList) fun p hp => h p.2 (by simp [Op.operands]; exact ⟨p.1, by simpa using hp⟩)
    simp only [evalP, this]
  | makeFunc f a b =>
    have h1 := map_congr' (ρ := ρ) (ρ' := ρ') (l := a.toList) fun x hx => h x (by simp [Op.operands]; exact .inl (by simpa using hx))
    have h2 := map_congr' (ρ := ρ) (ρ' := ρ') (l := b.toList) fun x hx => h x (by simp [Op.operands]; exact .inr (by simpa using hx))
    simp only [evalP, h1, h2]
  | slice t x lo hi mx =>
    have h0 := h x (by simp [Op.operands])
    have h1 := omap_congr (ρ := ρ) (ρ' := ρ') (o := lo) fun y hy => h y (by simp [Op.operands, hy])
    have h2 := omap_congr (ρ := ρ) (ρ' := ρ') (o := hi) fun y hy => h y (by simp [Op.operands, hy])
    have h3 := omap_congr (ρ := ρ) (ρ' := ρ') (o := mx) fun y hy => h y (by simp [Op.operands, hy])
    simp only [evalP, h0, h1, h2, h3]
  | pick c a b =>
    have h0 := h c (by simp [Op.operands])
    have h1 := h a (by simp [Op.operands])
    have h2 := h b (by simp [Op.operands])
    simp only [evalP, h0, h1, h2]
  | move x => simp only [evalP, h x (by simp [Op.operands])]
  | assign x => simp only [evalP, h x (by simp [Op.operands])]
  | nilCheck x => simp only [evalP, h x (by simp [Op.operands])]
  | unOp o t x => simp only [evalP, h x (by simp [Op.operands])]
  | convert s d x => simp only [evalP, h x (by simp [Op.operands])]
  | fieldAddr s x f => simp only [evalP, h x (by simp [Op.operands])]
  | field s x f => simp only [evalP, h x (by simp [Op.operands])]
  | extract x i => simp only [evalP, h x (by simp [Op.operands])]
  | binOp o t x y t' => simp only [evalP, h x (by simp [Op.operands]), h y (by simp [Op.operands])]
  | indexAddr t x y => simp only [evalP, h x (by simp [Op.operands]), h y (by simp [Op.operands])]
  | index t x y => simp only [evalP, h x (by simp [Op.operands]), h y (by simp [Op.operands])]
  | _ => simp only [evalP]

theorem evalC_congr {P : Program} {σ : Nat → AObj} {nx : Nat} {f : Callee} {args : List Operand} {tys : List TypeId} (h : ∀ x ∈ args, ρ x = ρ' x) : evalC P σ nx ρ f args tys = evalC P σ nx ρ' f args tys := by
  unfold evalC
  split
  · split
    · rename_i x t
      rw [h x (by simp)]
    · rfl
  · split
    · rename_i x y t t'
      rw [h x (by simp), h y (by simp)]
    · rfl
  · rfl

theorem evalS_congr {P : Program} {σ : Nat → AObj} {nx : Nat} {op : Op} (h : ∀ x ∈ op.operands.toList, ρ x = ρ' x) : evalS P σ nx ρ op = evalS P σ nx ρ' op := by
  cases op with
  | call c =>
    simp only [evalS]
    refine evalC_congr fun x hx => h x ?_
    simp only [Op.operands, Call.operands]
    cases hc : c.callee <;> simp at hx ⊢ <;> simp [hx]
  | box t x => simp only [evalS, h x (by simp [Op.operands])]
  | load t x => simp only [evalS, h x (by simp [Op.operands])]
  | store t x y => simp only [evalS, h x (by simp [Op.operands]), h y (by simp [Op.operands])]
  | indexAddr t x y => simp only [evalS, h x (by simp [Op.operands]), h y (by simp [Op.operands])]
  | makeSlice t x y => simp only [evalS, h x (by simp [Op.operands]), h y (by simp [Op.operands])]
  | makeMap t r => cases r <;> simp only [evalS]
  | range t x => simp only [evalS, h x (by simp [Op.operands])]
  | next x st => cases st <;> simp only [evalS, h x (by simp [Op.operands])]
  | _ => simp only [evalS]
end

/-! ### A region in the text's order -/
section
variable (P : Program) (n : Nat) (all : Array Oper) (lo : List Nat)
structure Pre (s0 : St) (done : List Rc) (i : Nat) (rest : List Oper) (pend : List Rc) (s : St) : Prop where
  inv : Inv P n all (anc all) done s0
  ix : done.map (·.i) = List.range i
  len : i ≤ all.size
  rest : rest = all.toList.drop i
  fin : s = ⟨goes all s0.m done, (goesS (s0.σ, s0.nx) done).1, (goesS (s0.σ, s0.nx) done).2⟩
  hlo : ∀ q ∈ done, q.loud ≠ none → q.i ∈ lo
  hpend : ∀ q ∈ done, q.loud = none → (∀ σ nx, Does P n all q.i q.m σ nx q.v σ nx) ∨ (∀ k ∈ lo, q.i < k → anc all q.i k = true) ∨ q ∈ pend

def Chain (i : Nat) (rest : List Oper) (pend : List Rc) (s : St) (Q : St → Prop) : Prop :=
  statOK all n lo = true → ∀ s0 done, Pre P n all lo s0 done i rest pend s → ∃ l s2, Inv P n all (anc all) l s0 ∧ l.map (·.i) = List.range all.size ∧
    s2 = ⟨goes all s0.m l, (goesS (s0.σ, s0.nx) l).1, (goesS (s0.σ, s0.nx) l).2⟩ ∧ Q s2
end

section
variable {P : Program} {n : Nat} {all : Array Oper} {lo : List Nat} {pend : List Rc} {s : St} {Q : St → Prop} {i : Nat}

theorem Chain.nil (h : Q s) : Chain P n all lo i [] pend s Q := by
  intro _ s0 done hp
  have : i = all.size := by
    have h1 := hp.rest
    have h2 := congrArg List.length h1
    simp at h2
    have := hp.len
    omega
  exact ⟨done, s, hp.inv, by rw [hp.ix, this], hp.fin, h⟩

theorem stat_pair (h : statOK all n lo = true) {i j : Nat} (hi : i < all.size) (hj : j < all.size) (hij : i < j) : anc all i j = true ∨ (apart all i j = true ∧ ¬(i ∈ lo ∧ j ∈ lo)) := by
  simp only [statOK, Bool.and_eq_true, List.all_eq_true, List.mem_range] at h
  have := (h.2 i hi).2 j hj
  simp only [Bool.or_eq_true, Bool.and_eq_true, Bool.not_eq_true', decide_eq_false_iff_not, Bool.and_eq_false_iff, List.contains_iff_mem] at this
  rcases this with (h1 | h1) | ⟨h1, h2⟩
  · exact absurd hij h1
  · exact .inl h1
  · refine .inr ⟨h1, fun ⟨h3, h4⟩ => ?_⟩
    rcases h2 with h2 | h2
    · simp [h3] at h2
    · simp [h4] at h2
theorem stat_tab (h : statOK all n lo = true) : tabOK all (tabUp all all.size) = true := by
  simp only [statOK, Bool.and_eq_true] at h; exact h.1
theorem stat_dst (h : statOK all n lo = true) : ∀ i < all.size, (match dstOf all i with | some d => decide (d < n) | none => true) = true := by
  simp only [statOK, Bool.and_eq_true, List.all_eq_true, List.mem_range] at h
  exact fun i hi => (h.2 i hi).1

theorem goesS_louds : ∀ (l : List Rc) (c : (Nat → AObj) × Nat), goesS c l = goesS c (louds l) := by
  intro l
  induction l with
  | nil => intro c; rfl
  | cons r l ih =>
    intro c
    cases hr : r.loud with
    | none =>
      have h1 : louds (r :: l) = louds l := by simp [louds, hr]
      have h2 : after c r = c := by simp [after, hr]
      rw [h1, ← ih]
      simp only [goesS, List.foldl_cons, h2]
    | some x =>
      have h1 : louds (r :: l) = r :: louds l := by simp [louds, hr]
      rw [h1]
      simp only [goesS, List.foldl_cons] at ih ⊢
      exact ih _

theorem silent_app {t : Nat → Nat → Bool} {q r : Rc} : ∀ (ks : List Rc) (c : (Nat → AObj) × Nat), SilentOK P n all t q c ks → (t q.i r.i = true ∨ Does P n all q.i q.m (after (goesS c ks) r).1 (after (goesS c ks) r).2 q.v (after (goesS c ks) r).1 (after (goesS c ks) r).2) →
    SilentOK P n all t q c (ks ++ [r]) := by
  intro ks
  induction ks with
  | nil =>
    intro c h1 h2
    exact ⟨.inr h1, h2⟩
  | cons k ks ih =>
    intro c h1 h2
    exact ⟨h1.1, h1.2.imp id fun h => ih _ h h2⟩

theorem silent_at {t : Nat → Nat → Bool} {r : Rc} : ∀ (ks : List Rc) (c : (Nat → AObj) × Nat), (∀ k ∈ ks, t k.i r.i = true) → Does P n all r.i r.m (goesS c ks).1 (goesS c ks).2 r.v (goesS c ks).1 (goesS c ks).2 → SilentOK P n all t r c ks := by
  intro ks
  induction ks with
  | nil => intro c _ h; exact h
  | cons k ks ih => intro c h1 h2; exact ⟨.inl (h1 k List.mem_cons_self), .inr (ih _ (fun q hq => h1 q (List.mem_cons_of_mem _ hq)) h2)⟩
theorem silent_free {t : Nat → Nat → Bool} {r : Rc} (h : ∀ σ nx, Does P n all r.i r.m σ nx r.v σ nx) : ∀ (ks : List Rc) (c : (Nat → AObj) × Nat), SilentOK P n all t r c ks := by
  intro ks
  induction ks with
  | nil => intro c; exact h _ _
  | cons k ks ih => intro c; exact ⟨.inr (h _ _), .inr (ih _)⟩
theorem loud_app {r : Rc} : ∀ (ks : List Rc) (c : (Nat → AObj) × Nat), LoudsOK P n all c ks → Does P n all r.i r.m (goesS c ks).1 (goesS c ks).2 r.v (after (goesS c ks) r).1 (after (goesS c ks) r).2 → LoudsOK P n all c (ks ++ [r]) := by
  intro ks
  induction ks with
  | nil => intro c _ h; exact ⟨h, True.intro⟩
  | cons k ks ih => intro c h1 h2; exact ⟨h1.1, ih _ h1.2 h2⟩

/-- One more. -/
theorem Chain.step {o : Oper} {rest : List Oper} {v : AV} {loud : Option ((Nat → AObj) × Nat)} {pend' : List Rc}
    (hd : Does P n all i s.m s.σ s.nx v (loud.getD (s.σ, s.nx)).1 (loud.getD (s.σ, s.nx)).2)
    (hs : loud = none → ((∀ σ nx, Does P n all i s.m σ nx v σ nx) ∨ ((∀ k ∈ lo, k < i → anc all k i = true) ∧ ((∀ k ∈ lo, i < k → anc all i k = true) ∨ ⟨i, s.m, v, none⟩ ∈ pend'))))
    (hl : ∀ c, loud = some c → i ∈ lo ∧ ∀ q ∈ pend, anc all q.i i = true ∨ Does P n all q.i q.m c.1 c.2 q.v c.1 c.2)
    (hp : ∀ q ∈ pend, q ∈ pend')
    (h : Chain P n all lo (i + 1) rest pend' ⟨put s.m o.dst v, (loud.getD (s.σ, s.nx)).1, (loud.getD (s.σ, s.nx)).2⟩ Q) : Chain P n all lo i (o :: rest) pend s Q := by
  intro hst s0 done pre
  have hi : i < all.size := by
    have h2 := congrArg List.length pre.rest
    simp at h2
    omega
  have ho : all[i]? = some o ∧ rest = all.toList.drop (i + 1) := by
    have h1 := pre.rest
    rw [List.drop_eq_getElem_cons (by simpa using hi)] at h1
    simp only [List.cons.injEq] at h1
    exact ⟨by rw [Array.getElem?_eq_getElem hi, h1.1]; simp, h1.2⟩
  have hdst : dstOf all i = o.dst := by simp [dstOf, ho.1]
  have hsm : goes all s0.m done = s.m := by rw [pre.fin]
  have hsc : goesS (s0.σ, s0.nx) done = (s.σ, s.nx) := by rw [pre.fin]
  have hix : ∀ q ∈ done, q.i < i := fun q hq => by
    have : q.i ∈ done.map (·.i) := List.mem_map.2 ⟨q, hq, rfl⟩
    rw [pre.ix] at this
    simpa using this
  obtain ⟨r, hr⟩ : ∃ r : Rc, r = ⟨i, s.m, v, loud⟩ := ⟨_, rfl⟩
  have hls : louds (done ++ [r]) = louds done ++ (if loud.isSome then [r] else []) := by
    subst hr
    cases loud <;> simp [louds]
  have haft : after (s.σ, s.nx) r = loud.getD (s.σ, s.nx) := by rw [hr]; rfl
  refine h hst s0 (done ++ [r]) ⟨⟨?_, ?_, ?_, ?_⟩, ?_, hi, ho.2, ?_, ?_, ?_⟩
  · intro l1 q l2 hq t ht
    rcases List.eq_nil_or_concat l2 with h0 | ⟨l2', x, h0⟩
    · subst h0
      obtain ⟨e1, e2⟩ := List.append_inj' hq rfl
      simp only [List.cons.injEq, and_true] at e2
      subst e1
      rw [← e2, hr, hsm]
    · subst h0
      rw [List.concat_eq_append] at hq
      have : done ++ [r] = (l1 ++ q :: l2') ++ [x] := by rw [hq]; simp
      obtain ⟨e1, e2⟩ := List.append_inj' this rfl
      exact pre.inv.view l1 q l2' e1 t ht
  · rw [List.pairwise_append]
    refine ⟨pre.inv.ord, List.pairwise_singleton _ _, fun q hq r' hr' => ?_⟩
    simp only [List.mem_singleton] at hr'
    subst hr'
    have hlt := hix q hq
    refine ⟨by rw [hr]; exact hlt, ?_⟩
    rw [hr]
    refine (stat_pair hst (by omega) hi hlt).imp id fun ⟨h1, h2⟩ => ⟨h1, ?_⟩
    cases hql : q.loud with
    | none => exact .inl rfl
    | some x =>
      refine .inr ?_
      cases hlo : loud with
      | none => rfl
      | some y => exact absurd ⟨pre.hlo q hq (by rw [hql]; simp), (hl y hlo).1⟩ h2
  · intro q hq hqn
    rw [hls]
    rcases List.mem_append.1 hq with hq | hq
    · have h1 := pre.inv.silent q hq hqn
      cases hlo : loud with
      | none => simpa using h1
      | some c =>
        simp only [Option.isSome_some, if_true]
        refine silent_app _ _ h1 ?_
        rw [← goesS_louds, hsc, haft, hlo]
        rcases pre.hpend q hq hqn with h2 | h2 | h2
        · exact .inr (h2 _ _)
        · exact .inl (by rw [hr]; exact h2 i (hl c hlo).1 (hix q hq))
        · have := (hl c hlo).2 q h2
          rw [hr]
          exact this
    · simp only [List.mem_singleton] at hq
      subst hq
      have hln : loud = none := by rw [hr] at hqn; exact hqn
      rw [hln]
      simp only [Option.isSome_none, Bool.false_eq_true, if_false, List.append_nil]
      rcases hs hln with h1 | ⟨h1, _⟩
      · exact silent_free (by rw [hr]; exact h1) _ _
      · refine silent_at _ _ (fun k hk => ?_) ?_
        · have hk' := List.mem_filter.1 hk
          rw [hr]
          exact h1 k.i (pre.hlo k hk'.1 (by intro e; rw [e] at hk'; simp at hk')) (hix k hk'.1)
        · rw [← goesS_louds, hsc, hr]
          rw [hln] at hd
          exact hd
  · rw [hls]
    have h1 := pre.inv.loud
    cases hlo : loud with
    | none => simpa using h1
    | some c =>
      simp only [Option.isSome_some, if_true]
      refine loud_app _ _ h1 ?_
      rw [← goesS_louds, hsc, haft, hr]
      exact hd
  · rw [List.map_append, pre.ix, hr, List.range_succ]; rfl
  · have e1 : goes all s0.m (done ++ [r]) = put s.m o.dst v := by
      rw [goes_app, hsm, hr, ← hdst]; rfl
    have e2 : goesS (s0.σ, s0.nx) (done ++ [r]) = loud.getD (s.σ, s.nx) := by
      have : goesS (s0.σ, s0.nx) (done ++ [r]) = after (goesS (s0.σ, s0.nx) done) r := by simp [goesS]
      rw [this, hsc, haft]
    rw [e1, e2]
  · intro q hq hqn
    rcases List.mem_append.1 hq with hq | hq
    · exact pre.hlo q hq hqn
    · simp only [List.mem_singleton] at hq
      subst hq
      rw [hr] at hqn ⊢
      simp only at hqn
      cases hlo : loud with
      | none => exact absurd hlo hqn
      | some c => exact (hl c hlo).1
  · intro q hq hqn
    rcases List.mem_append.1 hq with hq | hq
    · exact (pre.hpend q hq hqn).imp id fun h => h.imp id (hp q)
    · simp only [List.mem_singleton] at hq
      subst hq
      rw [hr] at hqn ⊢
      simp only at hqn
      subst hqn
      rcases hs rfl with h1 | ⟨_, h1⟩
      · exact .inl h1
      · exact .inr h1
end

end Go.Proofs.Ytibmjinfdcmbdaa.R
