/- R12: operations one behind the other. -/
import Derived.Test.YtibmjinfdcmbdaaR11
import Derived.Lib.SlBytesConst
namespace Go.Proofs.Ytibmjinfdcmbdaa.R
open Go.RowKit

section
variable {P : Program} {B : Base} {k : List KI} {R : Post} {s : St}

theorem ev_rep {a : Act} {w : World} {C : Ctx} {m : Slots} (h : ∀ t, RepA w C (m t) (a.tmps.getD t undef)) (x : Operand) : RepA w C (ev m x) (a.eval x) := by
  cases x with
  | tmp t => exact h t
  | const v => exact const_rep v
  | global g => exact .any
  | func f => exact .fn rfl (fun k a u h => by simp at h) rfl (fun k a u h => by simp at h)

def dOk (n : Nat) : Option Nat → Bool
  | some d => d < n
  | none => true

theorem put_rep {a : Act} {w w' : World} {C C' : Ctx} {m : Slots} {σ σ' : Nat → AObj} (hs : Sim C σ w) (hst : Step C σ w C' σ' w') (h : ∀ t, RepA w C (m t) (a.tmps.getD t undef)) {d : Option Nat} (hd : dOk a.tmps.size d = true) {v : AV} {u : Value} (hv : RepA w' C' v u) :
    ∀ t, RepA w' C' (put m d v t) ((a.put d u).tmps.getD t undef) := by
  intro t
  cases d with
  | none => exact (h t).step hs hst
  | some d =>
    have hd' : d < a.tmps.size := by simpa [dOk] using hd
    by_cases e : t = d
    · subst e
      simp only [put, if_true, Act.put, Array.getD_eq_getD_getElem?, Array.getElem?_setIfInBounds_self_of_lt hd', Option.getD_some]
      exact hv
    · simp only [put, if_neg e, Act.put, Array.getD_eq_getD_getElem?, Array.getElem?_setIfInBounds_ne (show d ≠ t from fun h => e h.symm)]
      have := (h t).step hs hst
      rwa [Array.getD_eq_getD_getElem?] at this

theorem put_size (a : Act) (d : Option Nat) (u : Value) : (a.put d u).tmps.size = a.tmps.size := by cases d <;> simp [Act.put]
theorem put_def (a : Act) (d : Option Nat) (u : Value) : (a.put d u).defers = a.defers := by cases d <;> rfl

/-- One operation. -/
def one (P : Program) (s : St) (o : Oper) : Option St :=
  match evalP P (ev s.m) o.op with
  | some v => some (s.upd o.dst v .none)
  | none => match evalS P s.σ s.nx (ev s.m) o.op with
    | some (v, e) => some (s.upd o.dst v e)
    | none => none

/-- The machine's operation leads to the abstract state. -/
theorem one_wp {o : Oper} {s' : St} (h : one P s o = some s') {a : Act} {w : World} (hd : dOk B.n o.dst = true) (hr : Rel B s a w) {K : Act → World → Prop} {Q : Exit → Act → World → Prop} (hK : ∀ a' w', Rel B s' a' w' → K a' w') : o.wp P a w K Q := by
  obtain ⟨C, h1, h2, h3, h4, h5, h6⟩ := hr
  have hm : ∃ v e, s' = s.upd o.dst v e ∧ Meets ((execOp a.eval o).run P w) C s.σ w v (e.on s.σ C.nx).1 (e.on s.σ C.nx).2 := by
    unfold one at h
    split at h
    · rename_i v hv
      cases h
      exact ⟨v, .none, rfl, evalP_sound h5 (ev_rep h2) hv⟩
    · split at h
      · rename_i v e hv
        cases h
        rw [← h1] at hv
        exact ⟨v, e, rfl, evalS_sound h5 (ev_rep h2) hv⟩
      · cases h
  obtain ⟨v, e, rfl, C', w', u, hrun, g1, g2, g3, g4⟩ := hm
  have hrel : Rel B (s.upd o.dst v e) (a.put o.dst u) w' := by
    refine ⟨C', by rw [g3, h1]; rfl, put_rep h5 g1 h2 (by rw [h3]; exact hd) g4, by rw [put_size]; exact h3, by rw [put_def]; exact h4, ?_, ?_⟩
    · rw [h1] at g2; exact g2
    · rw [h1] at g1; exact h6.trans g1
  unfold Oper.wp
  rcases hrun with hrun | ⟨hrun, rfl⟩
  · rw [hrun]; exact hK _ _ hrel
  · rw [hrun]; exact hK _ _ hrel

theorem rel_skip {a : Act} {w : World} {d : Option Nat} (hd : dOk B.n d = true) (hr : Rel B s a w) : Rel B (s.upd d (.tup []) .none) (a.put d undef) w := by
  obtain ⟨C, h1, h2, h3, h4, h5, h6⟩ := hr
  exact ⟨C, h1, put_rep h5 (Step.refl _ _ _) h2 (by rw [h3]; exact hd) (.tup rfl (fun k a u h => by simp at h)), by rw [put_size]; exact h3, by rw [put_def]; exact h4, h5, h6⟩

/-- A guard's value: not known; no bool; a bool. -/
def gval (all : Array Oper) (m : Slots) (j : Nat) : Option (Option Bool) :=
  match (all[j]?).bind (·.dst) with
  | some d => match m d with
    | .t (.v (.bool b)) => some (some b)
    | .tup _ => some none
    | _ => none
  | none => none

theorem gval_rep {all : Array Oper} {a : Act} {w : World} {C : Ctx} {m : Slots} (h : ∀ t, RepA w C (m t) (a.tmps.getD t undef)) {j : Nat} {r : Option Bool} (hg : gval all m j = some r) : yielded all a.tmps j = r := by
  unfold gval at hg
  split at hg
  · rename_i d hd
    have hr := h d
    split at hg
    · rename_i b hb
      cases hg
      rw [hb] at hr
      have hv := (rep_v hr).1
      have : a.tmps[d]? = some (.bool b) := by
        rw [Array.getD_eq_getD_getElem?] at hv
        cases hx : a.tmps[d]? with
        | none => rw [hx] at hv; simp [undef] at hv
        | some x => rw [hx] at hv; simpa using hv
      simp [yielded, hd, this]
    · rename_i cs hb
      cases hg
      rw [hb] at hr
      obtain ⟨vs, hv, _⟩ := rep_tup hr
      have : ∀ b, a.tmps[d]? ≠ some (.bool b) := by
        intro b hx
        rw [Array.getD_eq_getD_getElem?, hx] at hv
        simp at hv
      cases hx : a.tmps[d]? with
      | none => simp [yielded, hd, hx]
      | some x =>
        cases x <;> first | (rename_i b; exact absurd hx (this b)) | simp [yielded, hd, hx]
    · cases hg
  · cases hg

theorem K_op {all : Array Oper} {o : Oper} {r : List Oper} {s' : St} (hg : o.guard = none) (hd : dOk B.n o.dst = true) (h1 : one P s o = some s') (h : Kp P B (.ops all r :: k) R .normal s') : Kp P B (.ops all (o :: r) :: k) R .normal s := by
  intro a w hr
  exact wpList_plain hg fun K hK => one_wp h1 hd hr fun a' w' hr' => hK _ _ (h a' w' hr')

theorem K_opT {all : Array Oper} {o : Oper} {r : List Oper} {s' : St} {j : Nat} {b : Bool} (hg : o.guard = some (j, b)) (hv : gval all s.m j = some (some b)) (hd : dOk B.n o.dst = true) (h1 : one P s o = some s') (h : Kp P B (.ops all r :: k) R .normal s') :
    Kp P B (.ops all (o :: r) :: k) R .normal s := by
  intro a w hr
  refine wpList_step fun K hK => ?_
  have hw : Region.wanted o (yielded all a.tmps) = true := by
    obtain ⟨C, _, h2, _⟩ := hr
    simp [Region.wanted, hg, gval_rep h2 hv]
  rw [if_pos hw]
  exact one_wp h1 hd hr fun a' w' hr' => hK _ _ (h a' w' hr')

theorem K_opF {all : Array Oper} {o : Oper} {r : List Oper} {j : Nat} {b : Bool} {g : Option Bool} (hg : o.guard = some (j, b)) (hv : gval all s.m j = some g) (hne : g ≠ some b) (hd : dOk B.n o.dst = true) (h : Kp P B (.ops all r :: k) R .normal (s.upd o.dst (.tup []) .none)) :
    Kp P B (.ops all (o :: r) :: k) R .normal s := by
  intro a w hr
  refine wpList_step fun K hK => ?_
  have hw : Region.wanted o (yielded all a.tmps) = false := by
    obtain ⟨C, _, h2, _⟩ := hr
    simp [Region.wanted, hg, gval_rep h2 hv, hne]
  rw [hw]
  exact hK _ _ (h _ _ (rel_skip hd hr))

/-- The list behind a block's end. -/
def popTo (id : Nat) : List KI → Option (List KI)
  | [] => none
  | .blk i :: k => if i = id then some k else popTo id k
  | _ :: k => popTo id k
theorem K_pop {id : Nat} {k' : List KI} (h : popTo id k = some k') (hk : Kp P B k' R .normal s) : Kp P B k R (.exit id) s := by
  induction k with
  | nil => simp [popTo] at h
  | cons x k ih =>
    cases x with
    | blk i =>
      simp only [popTo] at h
      simp only [Kp]
      split at h <;> rename_i hi
      · cases h; rw [if_pos hi.symm]; exact hk
      · rw [if_neg (fun e => hi e.symm)]; exact ih h
    | _ => exact ih h
theorem K_toRet (h : R .ret s) : ∀ k, Kp P B k R .ret s := by
  intro k
  induction k with
  | nil => exact h
  | cons x k ih => cases x <;> exact ih
def popLab : List KI → Option (Nat → St → Prop)
  | [] => none
  | .lab J :: _ => some J
  | .scp :: _ => none
  | _ :: k => popLab k
theorem K_toLab {l : Nat} {J : Nat → St → Prop} (h : popLab k = some J) (hJ : J l s) : Kp P B k R (.goto l) s := by
  induction k with
  | nil => simp [popLab] at h
  | cons x k ih =>
    cases x with
    | lab J' => simp only [popLab] at h; cases h; exact hJ
    | scp => simp [popLab] at h
    | _ => exact ih h

/-! ### Regions that draw their order -/
section
variable {n : Nat} {all : Array Oper}
theorem wpAny_inv {B : Base} {Q : Exit → Act → World → Prop} {t : List (List Nat)} (ht : tabOK all t = true) {R : St → Prop} (hn : B.n = n) (hQ : ∀ s a w, R s → Rel B s a w → Q .normal a w)
    (hd : ∀ i < all.size, dOk n (dstOf all i) = true) :
    ∀ (fuel : Nat) (l : List Rc) (s : St) (listed : Array Bool) (a : Act) (w : World), l.length = fuel → listed.size = all.size →
      (∀ i < all.size, listed.getD i true = false ↔ ∃ r ∈ l, r.i = i) → (∀ r ∈ l, r.i < all.size) → (∀ j < all.size, listed.getD j true = true → ∀ e ∈ preds all j, listed.getD e false = true) →
      Inv P n all (ancT t) l s → R ⟨goes all s.m l, (goesS (s.σ, s.nx) l).1, (goesS (s.σ, s.nx) l).2⟩ → Rel B s a w → wpAny P .any all Q fuel listed a w := by
  intro fuel
  induction fuel with
  | zero =>
    intro l s listed a w hl hsz hlist _ hc hinv hR hr
    have : l = [] := List.eq_nil_of_length_eq_zero hl
    subst this
    refine ⟨?_, hQ _ _ _ hR hr⟩
    simp only [Region.ready, List.filter_eq_nil_iff]
    intro i hi
    have hi' := List.mem_range.1 hi
    have : listed.getD i true ≠ false := fun e => by
      obtain ⟨r, hr, _⟩ := (hlist i hi').1 e
      cases hr
    simp [this]
  | succ fuel ih =>
    intro l s listed a w hl hsz hlist hlt hc hinv hR hr
    have hstep : ∀ i ∈ Region.ready .any all listed, ∃ l1 r l2, l = l1 ++ r :: l2 ∧ r.i = i ∧ i < all.size ∧ (∀ e ∈ preds all i, listed.getD e false = true) ∧ (∀ q ∈ l, ancT t q.i i = false) := by
      intro i hi
      simp only [Region.ready, List.mem_filter, List.mem_range, Bool.and_eq_true] at hi
      obtain ⟨hi1, hi2, hi3⟩ := hi
      have hf : listed.getD i true = false := by simpa using hi2
      obtain ⟨r, hr1, hr2⟩ := (hlist i hi1).1 hf
      obtain ⟨l1, l2, hsplit⟩ := List.append_of_mem hr1
      have hpre : ∀ e ∈ preds all i, listed.getD e false = true := by
        intro e he
        simp only [preds, Array.getElem?_eq_getElem hi1, List.mem_map, List.mem_filter] at he
        obtain ⟨x, ⟨hx1, hx2⟩, rfl⟩ := he
        rw [Array.getElem?_eq_getElem hi1] at hi3
        simp only [Option.map_some, Option.getD_some, Array.all_eq_true_iff_forall_mem, Array.mem_toList_iff] at hi3
        have := hi3 x (by simpa using hx1)
        simpa [hx2] using this
      refine ⟨l1, r, l2, hsplit, hr2, hi1, hpre, fun q hq => ?_⟩
      cases hq2 : ancT t q.i i with
      | false => rfl
      | true =>
        have h1 := tab_spec ht hc i hi1 hpre q.i hq2
        have h2 := (hlist q.i (hlt q hq)).2 ⟨q, hq, rfl⟩
        rw [Array.getD_eq_getD_getElem?] at h1 h2
        cases hz : listed[q.i]? with
        | none => rw [hz] at h1; simp at h1
        | some b => rw [hz] at h1 h2; simp at h1 h2; rw [h1] at h2; cases h2
    refine ⟨fun hnil => ?_, fun i hi => ?_⟩
    · -- nothing ready, though something is left: not so
      exfalso
      cases l with
      | nil => simp at hl
      | cons r l =>
        have hrlt := hlt r List.mem_cons_self
        have hpr : ∀ e ∈ preds all r.i, listed.getD e false = true := by
          intro e he
          have h := List.all_eq_true.1 ht r.i (List.mem_range.2 hrlt)
          simp only [Bool.and_eq_true] at h
          have hlt' : e < r.i := by simpa using List.all_eq_true.1 h.1 e he
          have hes : e < listed.size := by omega
          cases hz : listed.getD e true with
          | true => rw [Array.getD_eq_getD_getElem?, Array.getElem?_eq_getElem hes] at hz ⊢; simpa using hz
          | false =>
            obtain ⟨q, hq1, hq2⟩ := (hlist e (by omega)).1 hz
            rcases List.mem_cons.1 hq1 with e1 | e1
            · subst e1; omega
            · have := ((List.pairwise_cons.1 hinv.ord).1 q e1).lt
              omega
        have : r.i ∈ Region.ready .any all listed := by
          simp only [Region.ready, List.mem_filter, List.mem_range, Bool.and_eq_true]
          refine ⟨hrlt, by simp [(hlist r.i hrlt).2 ⟨r, List.mem_cons_self, rfl⟩], ?_⟩
          rw [Array.getElem?_eq_getElem hrlt]
          simp only [Option.map_some, Option.getD_some, Array.all_eq_true_iff_forall_mem]
          intro x hx
          cases hb : Region.binds .any x with
          | false => simp
          | true =>
            simp only [Bool.not_true, Bool.false_or]
            refine hpr x.on ?_
            simp only [preds, Array.getElem?_eq_getElem hrlt, List.mem_map, List.mem_filter]
            exact ⟨x, ⟨by simpa using hx, hb⟩, rfl⟩
        rw [hnil] at this
        cases this
    · obtain ⟨l1, r, l2, hsplit, hri, hi1, hpre, hanc⟩ := hstep i hi
      subst hri
      subst hsplit
      obtain ⟨hv, hdo, hinv', hg1, hg2⟩ := hinv.take hanc
      obtain ⟨C, h1, h2, h3, h4, h5, h6⟩ := hr
      refine hdo C a w h1 h5 (by rw [h3, hn]) (fun t' => ?_) _ _ fun u w' C' g1 g2 g3 g4 => ?_
      · simp only [mask]
        split
        · rename_i hm
          rw [← hv t' (by simpa using hm)]
          exact h2 t'
        · exact .any
      · refine ih (l1 ++ l2) ⟨put s.m (dstOf all r.i) r.v, (after (s.σ, s.nx) r).1, (after (s.σ, s.nx) r).2⟩ _ _ _ (by simp at hl ⊢; omega) (by simpa using hsz) (fun j hj => ?_) (fun q hq => hlt q (by
            rcases List.mem_append.1 hq with e | e
            · exact List.mem_append_left _ e
            · exact List.mem_append_right _ (List.mem_cons_of_mem _ e))) (fun j hj hjl e he => ?_) hinv' ?_ ?_
        · by_cases e : j = r.i
          · subst e
            have : (listed.setIfInBounds r.i true).getD r.i true = true := by
              rw [Array.getD_eq_getD_getElem?, Array.getElem?_setIfInBounds_self_of_lt (by omega)]; rfl
            rw [this]
            refine ⟨fun h => (by cases h), fun ⟨q, hq, hqi⟩ => ?_⟩
            exfalso
            have ho := hinv.ord
            rw [List.pairwise_append, List.pairwise_cons] at ho
            rcases List.mem_append.1 hq with e | e
            · have := (ho.2.2 q e r List.mem_cons_self).lt; omega
            · have := (ho.2.1.1 q e).lt; omega
          · have : (listed.setIfInBounds r.i true).getD j true = listed.getD j true := by
              rw [Array.getD_eq_getD_getElem?, Array.getElem?_setIfInBounds_ne (fun h => e h.symm), ← Array.getD_eq_getD_getElem?]
            rw [this, hlist j hj]
            refine ⟨fun ⟨q, hq, hqi⟩ => ?_, fun ⟨q, hq, hqi⟩ => ⟨q, ?_, hqi⟩⟩
            · rcases List.mem_append.1 hq with e1 | e1
              · exact ⟨q, List.mem_append_left _ e1, hqi⟩
              · rcases List.mem_cons.1 e1 with e2 | e2
                · subst e2; exact absurd hqi.symm e
                · exact ⟨q, List.mem_append_right _ e2, hqi⟩
            · rcases List.mem_append.1 hq with e1 | e1
              · exact List.mem_append_left _ e1
              · exact List.mem_append_right _ (List.mem_cons_of_mem _ e1)
        · have hmono : ∀ x, listed.getD x false = true → (listed.setIfInBounds r.i true).getD x false = true := by
            intro x hx
            by_cases e : x = r.i
            · subst e
              rw [Array.getD_eq_getD_getElem?, Array.getElem?_setIfInBounds_self_of_lt (by omega)]; rfl
            · rw [Array.getD_eq_getD_getElem?, Array.getElem?_setIfInBounds_ne (fun h => e h.symm), ← Array.getD_eq_getD_getElem?]; exact hx
          by_cases e1 : j = r.i
          · subst e1; exact hmono e (hpre e he)
          · refine hmono e (hc j hj ?_ e he)
            rw [Array.getD_eq_getD_getElem?, Array.getElem?_setIfInBounds_ne (fun h => e1 h.symm), ← Array.getD_eq_getD_getElem?] at hjl
            exact hjl
        · show R _
          have e1 : goesS ((after (s.σ, s.nx) r).1, (after (s.σ, s.nx) r).2) (l1 ++ l2) = goesS (s.σ, s.nx) (l1 ++ r :: l2) := hg2
          rw [e1]
          simp only [hg1]
          exact hR
        · have hdr := hd r.i (hlt r (by simp))
          refine ⟨C', g2, put_rep h5 g3 h2 (by rw [h3, hn]; exact hdr) g4, by rw [put_size]; exact h3, by rw [put_def]; exact h4, g1, h6.trans g3⟩


theorem K_drawn {id : Nat} (lo : List Nat) (hm : P.follows .mixedOrders = true) (hst : statOK all B.n lo = true)
    (h : Kp P B (.opsD all lo 0 all.toList [] :: k) R .normal s) : Kp P B (.code (.region id all true) :: k) R .normal s := by
  intro a w hr
  refine wp_region_any hm ?_
  obtain ⟨l, s2, hinv, hl, hfin, hk⟩ := h hst s [] ⟨⟨fun l1 r l2 h => (by simp at h), List.Pairwise.nil, fun r hr => (by cases hr), True.intro⟩, rfl, Nat.zero_le _, by simp, rfl, fun q hq => (by cases hq), fun q hq => (by cases hq)⟩
  have hlen : l.length = all.size := by simpa using congrArg List.length hl
  have hmem : ∀ i, (∃ r ∈ l, r.i = i) ↔ i < all.size := fun i => by
    have : i ∈ l.map (·.i) ↔ i ∈ List.range all.size := by rw [hl]
    simpa using this
  obtain ⟨C, h1, h2, h3, h4, h5, h6⟩ := hr
  obtain ⟨g1, g2⟩ := sim_world h5 (w' := { w with drawn := w.drawn + 1 }) rfl rfl rfl rfl
  refine wpAny_inv (stat_tab hst) (R := fun s => Kp P B k R .normal s) rfl (fun s a w hk hr => ⟨s, hk, hr⟩) (fun i hi => by
      have := stat_dst hst i hi
      cases hd : dstOf all i with
      | none => rfl
      | some d => rw [hd] at this; exact this) all.size l s _ a _ hlen (by simp) (fun i hi => ?_) (fun r hr => (hmem r.i).1 ⟨r, hr, rfl⟩) (fun j hj hjl => ?_) hinv (hfin ▸ hk)
    ⟨C, h1, fun t => (h2 t).step h5 g2, h3, h4, g1, h6.trans g2⟩
  · rw [hmem]
    simp [Array.getD_eq_getD_getElem?, Array.getElem?_replicate, hi]
  · simp [Array.getD_eq_getD_getElem?, Array.getElem?_replicate, hj] at hjl

theorem K_dNil {lo : List Nat} {i : Nat} {pend : List Rc} (h : Kp P B k R .normal s) : Kp P B (.opsD all lo i [] pend :: k) R .normal s := Chain.nil h

/-- What an operation looks at is enough. -/
theorem mask_ev {m : Slots} {i : Nat} {o : Oper} (ho : all[i]? = some o) : ∀ x ∈ o.op.operands.toList, ev (mask (looksOf all i) m) x = ev m x := by
  intro x hx
  cases x with
  | tmp t =>
    simp only [ev, mask]
    rw [if_pos]
    simp only [looksOf, ho, Oper.looksAt, List.contains_iff_mem, List.mem_append, List.mem_filterMap]
    exact .inl ⟨_, hx, rfl⟩
  | _ => rfl
theorem mask_guard {m : Slots} {i : Nat} {o : Oper} (ho : all[i]? = some o) {j : Nat} {b : Bool} (hg : o.guard = some (j, b)) : gval all (mask (looksOf all i) m) j = gval all m j := by
  unfold gval
  cases hd : (all[j]?).bind (·.dst) with
  | none => rfl
  | some d =>
    have : mask (looksOf all i) m d = m d := by
      simp only [mask]
      rw [if_pos]
      simp only [looksOf, ho, Oper.looksAt, hg, hd, List.contains_iff_mem, List.mem_append]
      exact .inr (by simp)
    simp only [this]

/-- The guard lets by. -/
def lets (all : Array Oper) (m : Slots) (o : Oper) : Option Bool :=
  match o.guard with
  | none => some true
  | some (j, b) => (gval all m j).map fun g => g == some b

theorem lets_wanted {m : Slots} {i : Nat} {o : Oper} (ho : all[i]? = some o) {a : Act} {w : World} {C : Ctx} (h : ∀ t, RepA w C (mask (looksOf all i) m t) (a.tmps.getD t undef)) {b : Bool} (hl : lets all m o = some b) :
    Region.wanted o (yielded all a.tmps) = b := by
  unfold lets at hl
  split at hl
  · rename_i hg
    cases hl
    simp [Region.wanted, hg]
  · rename_i j b' hg
    rw [← mask_guard ho hg] at hl
    cases hv : gval all (mask (looksOf all i) m) j with
    | none => rw [hv] at hl; cases hl
    | some g =>
      rw [hv] at hl
      simp only [Option.map_some, Option.some.injEq] at hl
      simp only [Region.wanted, hg, gval_rep h hv]
      exact hl

theorem does_pure {i : Nat} {o : Oper} {m : Slots} {v : AV} (ho : all[i]? = some o) (hl : lets all m o = some true) (hv : evalP P (ev m) o.op = some v) (σ : Nat → AObj) (nx : Nat) : Does P n all i m σ nx v σ nx := by
  intro C a w hn hs hsz hr K Q hK
  rw [← evalP_congr (mask_ev ho)] at hv
  obtain ⟨C', w', u, hrun, g1, g2, g3, g4⟩ := evalP_sound hs (ev_rep hr) hv
  have hd : dstOf all i = o.dst := by simp [dstOf, ho]
  simp only [wpOp, ho, lets_wanted ho hr hl, if_true]
  left
  unfold Oper.wp
  rw [hd] at hK
  rcases hrun with hrun | ⟨hrun, rfl⟩
  · rw [hrun]; exact hK _ _ C' g2 (g3.trans hn) g1 g4
  · rw [hrun]; exact hK _ _ C' g2 (g3.trans hn) g1 g4

theorem does_store {i : Nat} {o : Oper} {m : Slots} {v : AV} {e : Eff} {σ : Nat → AObj} {nx : Nat} (ho : all[i]? = some o) (hl : lets all m o = some true) (hv : evalS P σ nx (ev m) o.op = some (v, e)) :
    Does P n all i m σ nx v (e.on σ nx).1 (e.on σ nx).2 := by
  intro C a w hn hs hsz hr K Q hK
  rw [← evalS_congr (mask_ev ho), ← hn] at hv
  obtain ⟨C', w', u, hrun, g1, g2, g3, g4⟩ := evalS_sound hs (ev_rep hr) hv
  have hd : dstOf all i = o.dst := by simp [dstOf, ho]
  simp only [wpOp, ho, lets_wanted ho hr hl, if_true]
  left
  unfold Oper.wp
  rw [hd] at hK
  rw [hn] at g1 g2 g3
  rcases hrun with hrun | ⟨hrun, rfl⟩
  · rw [hrun]; exact hK _ _ C' g2 g3 g1 g4
  · rw [hrun]; exact hK _ _ C' g2 g3 g1 g4

theorem does_skip {i : Nat} {o : Oper} {m : Slots} (ho : all[i]? = some o) (hl : lets all m o = some false) (σ : Nat → AObj) (nx : Nat) : Does P n all i m σ nx (.tup []) σ nx := by
  intro C a w hn hs hsz hr K Q hK
  have hd : dstOf all i = o.dst := by simp [dstOf, ho]
  simp only [wpOp, ho, lets_wanted ho hr hl]
  rw [hd] at hK
  exact hK _ _ C hs hn (Step.refl _ _ _) (.tup rfl (fun k a u h => by simp at h))

section
variable {lo : List Nat} {i : Nat} {o : Oper} {rest : List Oper} {pend : List Rc} {v : AV}
theorem Chain.at {Q : St → Prop} (h : all[i]? = some o → Chain P n all lo i (o :: rest) pend s Q) : Chain P n all lo i (o :: rest) pend s Q := by
  intro hst s0 done pre
  refine h ?_ hst s0 done pre
  have hi : i < all.size := by
    have h2 := congrArg List.length pre.rest
    simp at h2
    omega
  have h1 := pre.rest
  rw [List.drop_eq_getElem_cons (by simpa using hi)] at h1
  simp only [List.cons.injEq] at h1
  rw [Array.getElem?_eq_getElem hi, h1.1]; simp

/-- All that is loud is tied to this by edges. -/
def tied (all : Array Oper) (lo : List Nat) (i : Nat) : Bool := lo.all fun k => (!decide (k < i) || anc all k i) && (!decide (i < k) || anc all i k)

theorem K_dPure (hl : lets all s.m o = some true) (hv : evalP P (ev s.m) o.op = some v) (h : Kp P B (.opsD all lo (i + 1) rest pend :: k) R .normal (s.upd o.dst v .none)) : Kp P B (.opsD all lo i (o :: rest) pend :: k) R .normal s :=
  Chain.at fun ho => Chain.step (loud := none) (does_pure ho hl hv _ _) (fun _ => .inl (does_pure ho hl hv)) (fun c hc => by cases hc) (fun _ h => h) h
theorem K_dSkip (hl : lets all s.m o = some false) (h : Kp P B (.opsD all lo (i + 1) rest pend :: k) R .normal (s.upd o.dst (.tup []) .none)) : Kp P B (.opsD all lo i (o :: rest) pend :: k) R .normal s :=
  Chain.at fun ho => Chain.step (loud := none) (does_skip ho hl _ _) (fun _ => .inl (does_skip ho hl)) (fun c hc => by cases hc) (fun _ h => h) h
theorem K_dRead (hl : lets all s.m o = some true) (hv : evalS P s.σ s.nx (ev s.m) o.op = some (v, .none)) (ht : tied all lo i = true) (h : Kp P B (.opsD all lo (i + 1) rest pend :: k) R .normal (s.upd o.dst v .none)) : Kp P B (.opsD all lo i (o :: rest) pend :: k) R .normal s :=
  Chain.at fun ho => Chain.step (loud := none) (does_store ho hl hv) (fun _ => .inr (by
    simp only [tied, List.all_eq_true, Bool.and_eq_true, Bool.or_eq_true, Bool.not_eq_true', decide_eq_false_iff_not] at ht
    exact ⟨fun k hk h => ((ht k hk).1).resolve_left (fun e => e h), .inl fun k hk h => ((ht k hk).2).resolve_left (fun e => e h)⟩)) (fun c hc => by cases hc) (fun _ h => h) h
/-- One that isn't tied to a later loud one: to be held against that. -/
theorem K_dFloat (hl : lets all s.m o = some true) (hv : evalS P s.σ s.nx (ev s.m) o.op = some (v, .none)) (ht : ∀ k ∈ lo, k < i → anc all k i = true) (h : Kp P B (.opsD all lo (i + 1) rest (⟨i, s.m, v, none⟩ :: pend) :: k) R .normal (s.upd o.dst v .none)) :
    Kp P B (.opsD all lo i (o :: rest) pend :: k) R .normal s :=
  Chain.at fun ho => Chain.step (loud := none) (does_store ho hl hv) (fun _ => .inr ⟨ht, .inr List.mem_cons_self⟩) (fun c hc => by cases hc) (fun _ h => List.mem_cons_of_mem _ h) h
theorem K_dLoud {e : Eff} (hl : lets all s.m o = some true) (hv : evalS P s.σ s.nx (ev s.m) o.op = some (v, e)) (hi : i ∈ lo) (hp : ∀ q ∈ pend, anc all q.i i = true ∨ Does P B.n all q.i q.m (e.on s.σ s.nx).1 (e.on s.σ s.nx).2 q.v (e.on s.σ s.nx).1 (e.on s.σ s.nx).2)
    (h : Kp P B (.opsD all lo (i + 1) rest pend :: k) R .normal (s.upd o.dst v e)) : Kp P B (.opsD all lo i (o :: rest) pend :: k) R .normal s :=
  Chain.at fun ho => Chain.step (loud := some (e.on s.σ s.nx)) (does_store ho hl hv) (fun hc => by cases hc) (fun c hc => by cases hc; exact ⟨hi, hp⟩) (fun _ h => h) h
end
end

/-- The bytes of a constant string: a row, and its turning into its own type. -/
theorem K_bytes {all : Array Oper} {o1 o2 : Oper} {rest : List Oper} {t d1 n : Nat} {parts : Array (Nat × Operand)} (hg1 : o1.guard = none) (hg2 : o2.guard = none) (h1 : o1.op = .buildSlice t n parts) (h2 : o2.op = .convert t t (.tmp d1)) (hd1 : o1.dst = some d1)
    {es : List (List T)} {e : TypeId} {i1 i2 : TI} (ht : TT P t = some i1) (ht' : i1.desc = .slice e) (he : TT P e = some i2) (he' : i2.desc = .int .u8) (hv : evalP P (ev s.m) o1.op = some (.fsl es)) (hb1 : dOk B.n o1.dst = true) (hb2 : dOk B.n o2.dst = true)
    (h : Kp P B (.ops all rest :: k) R .normal ⟨put (put s.m (some d1) .any) o2.dst (.t (.sl es)), s.σ, s.nx⟩) : Kp P B (.ops all (o1 :: o2 :: rest) :: k) R .normal s := by
  intro a w hr
  obtain ⟨C, g1, g2, g3, g4, g5, g6⟩ := hr
  rw [h1] at hv
  obtain ⟨us, e0, r, hrun, hr1, hr2, ⟨sz, by_, z, ht0⟩, _, hrep⟩ := buildSlice_strong g5 (ev_rep g2) hv
  cases hr1
  rw [ht] at ht0
  have hee : e0 = e := by
    have := congrArg (Option.map TI.desc) ht0
    simp only [Option.map_some, ht', Option.some.injEq, TypeDesc.slice.injEq] at this
    exact this.symm
  subst hee
  have hunt : P.underlying t = some (.slice e0) := by rw [← ht']; exact (tt_some ht).1
  have hune : P.underlying e0 = some (.int .u8) := by rw [← he']; exact (tt_some he).1
  have hconv := Lib.run_convert_bytes_const (P := P) w t e0 us n n hunt hune
  have hd1' : d1 < a.tmps.size := by rw [hd1] at hb1; rw [g3]; simpa [dOk] using hb1
  refine wpList_plain hg1 fun K hK => ?_
  unfold Oper.wp
  have hx1 : (execOp a.eval o1).run P w = .ok (.value (.slice (some ⟨w.heap.size, 0, none⟩) n n)) { w with heap := w.heap.push (.cells us e0) } := by
    simp only [execOp, h1, Sem.run_bind, hrun, Result.andThen_ok, Sem.run_pure]
  rw [hx1]
  refine hK _ _ (wpList_plain hg2 fun K' hK' => ?_)
  unfold Oper.wp
  have hx2 : (execOp (a.put o1.dst (.slice (some ⟨w.heap.size, 0, none⟩) n n)).eval o2).run P { w with heap := w.heap.push (.cells us e0) } = .ok (.value (.slice (some ⟨w.heap.size, 0, none⟩) n n)) { w with heap := w.heap.push (.cells us e0 (us.size, us.size + 1)) } := by
    have hev : (a.put o1.dst (.slice (some ⟨w.heap.size, 0, none⟩) n n)).eval (.tmp d1) = .slice (some ⟨w.heap.size, 0, none⟩) n n := by
      rw [hd1]
      simp [Act.eval, Act.put, Array.getD_eq_getD_getElem?, Array.getElem?_setIfInBounds_self_of_lt hd1']
    simp only [execOp, h2, Sem.run_bind, hev]
    have : (convert t t (.slice (some ⟨w.heap.size, 0, none⟩) n n)).run P { w with heap := w.heap.push (.cells us e0) } = .ok (.slice (some ⟨w.heap.size, 0, none⟩) n n) { w with heap := w.heap.push (.cells us e0 (us.size, us.size + 1)) } := hconv
    rw [this]
    simp only [Result.andThen_ok, Sem.run_pure]
  rw [hx2]
  obtain ⟨s1, s2⟩ := sim_imm g5 (.cells us e0 (us.size, us.size + 1))
  have p1 := put_rep g5 s2 g2 (d := some d1) (by rw [← hd1, g3]; exact hb1) (v := .any) (u := .slice (some ⟨w.heap.size, 0, none⟩) n n) .any
  have p2 := put_rep (a := a.put o1.dst (.slice (some ⟨w.heap.size, 0, none⟩) n n)) s1 (Step.refl _ _ _) (by rw [hd1]; exact p1) (d := o2.dst) (by rw [put_size, g3]; exact hb2) (RepA.t (hrep (us.size, us.size + 1)))
  exact hK' _ _ (h _ _ ⟨{ C with imm := fun b => C.imm b ∨ b = w.heap.size }, g1, p2, by rw [put_size, put_size]; exact g3, by rw [put_def, put_def]; exact g4, s1, g6.trans s2⟩)

/-- The same, the row owned. -/
theorem K_bytesR {all : Array Oper} {o1 o2 : Oper} {rest : List Oper} {t d1 n : Nat} {parts : Array (Nat × Operand)} (hg1 : o1.guard = none) (hg2 : o2.guard = none) (h1 : o1.op = .buildSlice t n parts) (h2 : o2.op = .convert t t (.tmp d1)) (hd1 : o1.dst = some d1)
    {es : List (List T)} {e : TypeId} {i1 i2 : TI} (ht : TT P t = some i1) (ht' : i1.desc = .slice e) (he : TT P e = some i2) (he' : i2.desc = .int .u8) (hv : evalP P (ev s.m) o1.op = some (.fsl es)) (hb1 : dOk B.n o1.dst = true) (hb2 : dOk B.n o2.dst = true)
    (h : Kp P B (.ops all rest :: k) R .normal ⟨put (put s.m (some d1) .any) o2.dst (.ref s.nx), oput s.σ s.nx (.arr i2.size es), s.nx + 1⟩) : Kp P B (.ops all (o1 :: o2 :: rest) :: k) R .normal s := by
  intro a w hr
  obtain ⟨C, g1, g2, g3, g4, g5, g6⟩ := hr
  rw [h1] at hv
  obtain ⟨us, e0, r, hrun, hr1, hr2, ⟨sz, by_, z, ht0⟩, ⟨i0, hi0, u1, u2, u3⟩, hrep⟩ := buildSlice_strong g5 (ev_rep g2) hv
  cases hr1
  rw [ht] at ht0
  have hee : e0 = e := by
    have := congrArg (Option.map TI.desc) ht0
    simp only [Option.map_some, ht', Option.some.injEq, TypeDesc.slice.injEq] at this
    exact this.symm
  subst hee
  have hunt : P.underlying t = some (.slice e0) := by rw [← ht']; exact (tt_some ht).1
  have hune : P.underlying e0 = some (.int .u8) := by rw [← he']; exact (tt_some he).1
  have hconv := Lib.run_convert_bytes_const (P := P) w t e0 us n n hunt hune
  have hd1' : d1 < a.tmps.size := by rw [hd1] at hb1; rw [g3]; simpa [dOk] using hb1
  refine wpList_plain hg1 fun K hK => ?_
  unfold Oper.wp
  have hx1 : (execOp a.eval o1).run P w = .ok (.value (.slice (some ⟨w.heap.size, 0, none⟩) n n)) { w with heap := w.heap.push (.cells us e0) } := by
    simp only [execOp, h1, Sem.run_bind, hrun, Result.andThen_ok, Sem.run_pure]
  rw [hx1]
  refine hK _ _ (wpList_plain hg2 fun K' hK' => ?_)
  unfold Oper.wp
  have hx2 : (execOp (a.put o1.dst (.slice (some ⟨w.heap.size, 0, none⟩) n n)).eval o2).run P { w with heap := w.heap.push (.cells us e0) } = .ok (.value (.slice (some ⟨w.heap.size, 0, none⟩) n n)) { w with heap := w.heap.push (.cells us e0 (us.size, us.size + 1)) } := by
    have hev : (a.put o1.dst (.slice (some ⟨w.heap.size, 0, none⟩) n n)).eval (.tmp d1) = .slice (some ⟨w.heap.size, 0, none⟩) n n := by
      rw [hd1]
      simp [Act.eval, Act.put, Array.getD_eq_getD_getElem?, Array.getElem?_setIfInBounds_self_of_lt hd1']
    simp only [execOp, h2, Sem.run_bind, hev]
    have : (convert t t (.slice (some ⟨w.heap.size, 0, none⟩) n n)).run P { w with heap := w.heap.push (.cells us e0) } = .ok (.slice (some ⟨w.heap.size, 0, none⟩) n n) { w with heap := w.heap.push (.cells us e0 (us.size, us.size + 1)) } := hconv
    rw [this]
    simp only [Result.andThen_ok, Sem.run_pure]
  rw [hx2]
  rw [he] at hi0
  cases hi0
  obtain ⟨C', hC⟩ : ∃ C' : Ctx, C' = ⟨C.imm, fun i => if i = C.nx then some w.heap.size else C.own i, fun i => if i = C.nx then .slice (some ⟨w.heap.size, 0, none⟩) n n else C.hdr i, C.nx + 1⟩ := ⟨_, rfl⟩
  have hk0 : Keeps w C.imm { w with heap := w.heap.push (.cells us e0 (us.size, us.size + 1)) } C.imm := ⟨fun _ h => h, fun b h => push_old w _ (g5.imm_lt b h)⟩
  obtain ⟨s1, s2⟩ := sim_new g5 (.cells us e0 (us.size, us.size + 1)) (.arr i2.size es) (.slice (some ⟨w.heap.size, 0, none⟩) n n) C' hC
    ⟨u2, .inr ⟨w.heap.size, n, us, e0, us.size, us.size + 1, by rw [hC]; simp, by rw [hC, hr2]; simp, by omega, push_new w _, by rw [u1, hr2], .inr (by rw [u1, hr2]; exact Nat.le_refl _), fun j k e c u a b d => by
      rw [hC]; exact (u3 j k e c u a b d).keeps hk0⟩⟩
  rw [g1] at s1 s2
  have p1 := put_rep g5 s2 g2 (d := some d1) (by rw [← hd1, g3]; exact hb1) (v := .any) (u := .slice (some ⟨w.heap.size, 0, none⟩) n n) .any
  have p2 := put_rep (a := a.put o1.dst (.slice (some ⟨w.heap.size, 0, none⟩) n n)) s1 (Step.refl _ _ _) (by rw [hd1]; exact p1) (d := o2.dst) (by rw [put_size, g3]; exact hb2) (v := .ref s.nx) (u := .slice (some ⟨w.heap.size, 0, none⟩) n n) (.ref (by rw [hC, g1]; exact Nat.lt_succ_self _) (by rw [hC, g1]; simp))
  exact hK' _ _ (h _ _ ⟨C', by rw [hC, g1], p2, by rw [put_size, put_size]; exact g3, by rw [put_def, put_def]; exact g4, s1, g6.trans s2⟩)

theorem K_opU {all : Array Oper} {o : Oper} {r : List Oper} {j : Nat} {b : Bool} (hg : o.guard = some (j, b)) (hv : gval all s.m j = some (some b)) (h : Kp P B (.ops all ({ o with guard := none } :: r) :: k) R .normal s) :
    Kp P B (.ops all (o :: r) :: k) R .normal s := by
  intro a w hr
  have h1 := h a w hr
  have hw : Region.wanted o (yielded all a.tmps) = true := by
    obtain ⟨C, _, h2, _⟩ := hr
    simp [Region.wanted, hg, gval_rep h2 hv]
  unfold wpList at h1 ⊢
  rw [if_pos (by simp [Region.wanted])] at h1
  rw [if_pos hw]
  exact h1

/-- As far as it goes; at a choice both ways. -/
def run (P : Program) (n : Nat) (G : List KI → St → Prop) : Nat → List KI → St → Prop
  | 0, k, s => G k s
  | f + 1, .code (.seq a b) :: k, s => run P n G f (.code a :: .code b :: k) s
  | f + 1, .code .skip :: k, s => run P n G f k s
  | f + 1, .code (.label _) :: k, s => run P n G f k s
  | f + 1, .blk _ :: k, s => run P n G f k s
  | f + 1, .scp :: k, s => run P n G f k s
  | f + 1, .lab _ :: k, s => run P n G f k s
  | f + 1, .code (.block id c) :: k, s => run P n G f (.code c :: .blk id :: k) s
  | f + 1, .code (.exit id) :: k, s => match popTo id k with
    | some k' => run P n G f k' s
    | none => G (.code (.exit id) :: k) s
  | _ + 1, .code .ret :: _, s => G [.fin .ret] s
  | _ + 1, .again J :: _, s => G [.again J] s
  | _ + 1, .code (.goto l) :: k, s => match popLab k with
    | some J => G [.fin (.goto l), .lab J] s
    | none => G (.code (.goto l) :: k) s
  | f + 1, .code (.cond c x y) :: k, s => match ev s.m c with
    | .t (.v (.bool b)) => (b = true → run P n G f (.code x :: k) s) ∧ (b = false → run P n G f (.code y :: k) s)
    | _ => G (.code (.cond c x y) :: k) s
  | f + 1, .code (.region id ops d) :: k, s => match d with
    | false => run P n G f (.ops ops ops.toList :: k) s
    | true => G (.code (.region id ops true) :: k) s
  | f + 1, .ops _ [] :: k, s => run P n G f k s
  | f + 1, .ops all (o :: r) :: k, s => match o.guard with
    | some (j, want) => match (all[j]?).bind (·.dst) with
      | some d => match s.m d with
        | .t (.v (.bool b)) => (b = want → run P n G f (.ops all ({ o with guard := none } :: r) :: k) s) ∧
          (b = !want → dOk n o.dst = true ∧ run P n G f (.ops all r :: k) (s.upd o.dst (.tup []) .none))
        | .tup _ => dOk n o.dst = true ∧ run P n G f (.ops all r :: k) (s.upd o.dst (.tup []) .none)
        | _ => G (.ops all (o :: r) :: k) s
      | none => G (.ops all (o :: r) :: k) s
    | none => match one P s o with
      | some s' => dOk n o.dst = true ∧ run P n G f (.ops all r :: k) s'
      | none => G (.ops all (o :: r) :: k) s
  | f + 1, .opsD _ _ _ [] _ :: k, s => run P n G f k s
  | f + 1, .opsD all lo i (o :: r) pend :: k, s => match lets all s.m o with
    | some true => match evalP P (ev s.m) o.op with
      | some v => run P n G f (.opsD all lo (i + 1) r pend :: k) (s.upd o.dst v .none)
      | none => match evalS P s.σ s.nx (ev s.m) o.op with
        | some (v, .none) => tied all lo i = true ∧ run P n G f (.opsD all lo (i + 1) r pend :: k) (s.upd o.dst v .none)
        | some (v, e) => match pend with
          | [] => i ∈ lo ∧ run P n G f (.opsD all lo (i + 1) r [] :: k) (s.upd o.dst v e)
          | q :: qs => G (.opsD all lo i (o :: r) (q :: qs) :: k) s
        | none => G (.opsD all lo i (o :: r) pend :: k) s
    | some false => run P n G f (.opsD all lo (i + 1) r pend :: k) (s.upd o.dst (.tup []) .none)
    | none => G (.opsD all lo i (o :: r) pend :: k) s
  | _ + 1, k, s => G k s

theorem K_run {n : Nat} (hn : B.n = n) (f : Nat) (h : run P n (fun k s => Kp P B k R .normal s) f k s) : Kp P B k R .normal s := by
  subst hn
  revert h
  fun_induction run P B.n (fun k s => Kp P B k R .normal s) f k s <;> intro h
  case case1 => exact h
  case case2 ih => exact K_seq (ih h)
  case case3 ih => exact K_skip (ih h)
  case case4 ih => exact K_label (ih h)
  case case5 ih => have := ih h; exact this
  case case6 ih => have := ih h; exact this
  case case7 ih => have := ih h; exact this
  case case8 ih => exact K_block (ih h)
  case case9 hk ih => exact K_exit (K_pop hk (ih h))
  case case10 => exact h
  case case11 => exact K_ret (K_toRet h _)
  case case12 => exact h
  case case13 hJ => exact K_goto (K_toLab hJ h)
  case case14 => exact h
  case case15 hb ih2 ih1 => exact K_cond hb (fun e => ih2 (h.1 e)) (fun e => ih1 (h.2 e))
  case case16 => exact h
  case case17 ih => exact K_region (ih h)
  case case18 => exact h
  case case19 ih => exact K_opsNil (ih h)
  case case20 b hb ih2 ih1 =>
    rename_i all o r k s j want hg d hd
    have hv : gval all s.m j = some (some b) := by simp only [gval, hd, hb]
    by_cases e : b = want
    · have h' := h.1 e
      subst e
      exact K_opU hg hv (ih2 h')
    · have h' := h.2 (by cases b <;> cases want <;> simp_all)
      exact K_opF hg hv (by simpa using e) h'.1 (ih1 h'.2)
  case case21 cs hb ih1 =>
    rename_i all o r k s j want hg d hd
    have hv : gval all s.m j = some none := by simp only [gval, hd, hb]
    exact K_opF hg hv (by simp) h.1 (ih1 h.2)
  case case22 => exact h
  case case23 => exact h
  case case24 hg _ ho ih1 => exact K_op hg h.1 ho (ih1 h.2)
  case case25 => exact h
  case case26 ih => exact K_dNil (ih h)
  case case27 hl _ hv ih => exact K_dPure hl hv (ih h)
  case case28 hl _ _ hv ih => exact K_dRead hl hv h.1 (ih h.2)
  case case29 hl _ _ _ _ hv ih => exact K_dLoud hl hv h.1 (fun q hq => by cases hq) (ih h.2)
  case case30 => exact h
  case case31 => exact h
  case case32 hl ih => exact K_dSkip hl (ih h)
  case case33 => exact h
  case case34 => exact h

/-! The steps as rules. -/
section
variable {n : Nat} {G : List KI → St → Prop} {f : Nat}
theorem run_seq {a b : Code} : run P n G (f + 1) (.code (.seq a b) :: k) s = run P n G f (.code a :: .code b :: k) s := by rw [run]
theorem run_skip : run P n G (f + 1) (.code .skip :: k) s = run P n G f k s := by rw [run]
theorem run_label {l : Nat} : run P n G (f + 1) (.code (.label l) :: k) s = run P n G f k s := by rw [run]
theorem run_blk {i : Nat} : run P n G (f + 1) (.blk i :: k) s = run P n G f k s := by rw [run]
theorem run_scp : run P n G (f + 1) (.scp :: k) s = run P n G f k s := by rw [run]
theorem run_lab {J : Nat → St → Prop} : run P n G (f + 1) (.lab J :: k) s = run P n G f k s := by rw [run]
theorem run_block {i : Nat} {c : Code} : run P n G (f + 1) (.code (.block i c) :: k) s = run P n G f (.code c :: .blk i :: k) s := by rw [run]
theorem run_ret : run P n G (f + 1) (.code .ret :: k) s = G [.fin .ret] s := by rw [run]
theorem run_again {J : St → Prop} : run P n G (f + 1) (.again J :: k) s = G [.again J] s := by rw [run]
theorem run_end : run P n G (f + 1) [] s = G [] s := by rw [run]; all_goals simp
theorem run_fin {e : Exit} : run P n G (f + 1) (.fin e :: k) s = G (.fin e :: k) s := by rw [run]; all_goals simp
def atExit (P : Program) (n : Nat) (G : List KI → St → Prop) (f id : Nat) (o : Option (List KI)) (k : List KI) (s : St) : Prop :=
  match o with | some k' => run P n G f k' s | none => G (.code (.exit id) :: k) s
theorem run_exit {i : Nat} : run P n G (f + 1) (.code (.exit i) :: k) s = atExit P n G f i (popTo i k) k s := by rw [run]; rfl
theorem atExit_some {i : Nat} {k k' : List KI} : atExit P n G f i (some k') k s = run P n G f k' s := by simp only [atExit]
def atGoto (G : List KI → St → Prop) (l : Nat) (o : Option (Nat → St → Prop)) (k : List KI) (s : St) : Prop :=
  match o with | some J => G [.fin (.goto l), .lab J] s | none => G (.code (.goto l) :: k) s
theorem run_goto {l : Nat} : run P n G (f + 1) (.code (.goto l) :: k) s = atGoto G l (popLab k) k s := by rw [run]; rfl
theorem atGoto_some {l : Nat} {J : Nat → St → Prop} : atGoto G l (some J) k s = G [.fin (.goto l), .lab J] s := by simp only [atGoto]
/-- One way of two. -/
def fork (P : Program) (n : Nat) (G : List KI → St → Prop) (f : Nat) (b : Bool) (k1 : List KI) (s1 : St) (k2 : List KI) (s2 : St) : Prop :=
  (b = true → run P n G f k1 s1) ∧ (b = false → run P n G f k2 s2)
theorem fork_true {k1 k2 : List KI} {s1 s2 : St} : fork P n G f true k1 s1 k2 s2 = run P n G f k1 s1 := by simp [fork]
theorem fork_false {k1 k2 : List KI} {s1 s2 : St} : fork P n G f false k1 s1 k2 s2 = run P n G f k2 s2 := by simp [fork]
theorem fork_of {b : Bool} {k1 k2 : List KI} {s1 s2 : St} (h1 : b = true → run P n G f k1 s1) (h2 : b = false → run P n G f k2 s2) : fork P n G f b k1 s1 k2 s2 := ⟨h1, h2⟩
theorem fork_dec {p : Prop} [Decidable p] {k1 k2 : List KI} {s1 s2 : St} (h1 : p → run P n G f k1 s1) (h2 : ¬p → run P n G f k2 s2) : fork P n G f (decide p) k1 s1 k2 s2 :=
  ⟨fun h => h1 (of_decide_eq_true h), fun h => h2 (of_decide_eq_false h)⟩
theorem fork_not {b : Bool} {k1 k2 : List KI} {s1 s2 : St} : fork P n G f (!b) k1 s1 k2 s2 = fork P n G f b k2 s2 k1 s1 := by cases b <;> simp [fork]
def atCond (P : Program) (n : Nat) (G : List KI → St → Prop) (f : Nat) (v : AV) (c : Operand) (x y : Code) (k : List KI) (s : St) : Prop :=
  match v with
  | .t (.v (.bool b)) => fork P n G f b (.code x :: k) s (.code y :: k) s
  | _ => G (.code (.cond c x y) :: k) s
theorem run_cond {c : Operand} {x y : Code} : run P n G (f + 1) (.code (.cond c x y) :: k) s = atCond P n G f (ev s.m c) c x y k s := by rw [run]; simp only [atCond, fork]
theorem atCond_bool {b : Bool} {c : Operand} {x y : Code} : atCond P n G f (.t (.v (.bool b))) c x y k s = fork P n G f b (.code x :: k) s (.code y :: k) s := by simp only [atCond]
theorem run_region {id : Nat} {ops : Array Oper} : run P n G (f + 1) (.code (.region id ops false) :: k) s = run P n G f (.ops ops ops.toList :: k) s := by rw [run]
theorem run_drawn {id : Nat} {ops : Array Oper} : run P n G (f + 1) (.code (.region id ops true) :: k) s = G (.code (.region id ops true) :: k) s := by rw [run]
theorem run_nil {all : Array Oper} : run P n G (f + 1) (.ops all [] :: k) s = run P n G f k s := by rw [run]
/-- An operation's outcome. -/
def atOp (P : Program) (n : Nat) (G : List KI → St → Prop) (f : Nat) (x : Option St) (all : Array Oper) (o : Oper) (r : List Oper) (k : List KI) (s : St) : Prop :=
  match x with
  | some s' => dOk n o.dst = true ∧ run P n G f (.ops all r :: k) s'
  | none => G (.ops all (o :: r) :: k) s
def atVal (P : Program) (n : Nat) (G : List KI → St → Prop) (f : Nat) (v : AV) (want : Bool) (all : Array Oper) (o : Oper) (r : List Oper) (k : List KI) (s : St) : Prop :=
  match v with
  | .t (.v (.bool b)) => (b = want → run P n G f (.ops all ({ o with guard := none } :: r) :: k) s) ∧ (b = !want → dOk n o.dst = true ∧ run P n G f (.ops all r :: k) (s.upd o.dst (.tup []) .none))
  | .tup _ => dOk n o.dst = true ∧ run P n G f (.ops all r :: k) (s.upd o.dst (.tup []) .none)
  | _ => G (.ops all (o :: r) :: k) s
def atGuard (P : Program) (n : Nat) (G : List KI → St → Prop) (f : Nat) (d : Option Nat) (want : Bool) (all : Array Oper) (o : Oper) (r : List Oper) (k : List KI) (s : St) : Prop :=
  match d with
  | some d => atVal P n G f (s.m d) want all o r k s
  | none => G (.ops all (o :: r) :: k) s
theorem run_op {all : Array Oper} {r : List Oper} {d : Option Nat} {op : Op} {t : TypeId} {p : String} {af : Array Edge} :
    run P n G (f + 1) (.ops all (⟨d, op, t, p, af, none⟩ :: r) :: k) s = atOp P n G f (one P s ⟨d, op, t, p, af, none⟩) all ⟨d, op, t, p, af, none⟩ r k s := by rw [run]; simp only [atOp]
theorem run_guard {all : Array Oper} {r : List Oper} {d : Option Nat} {op : Op} {t : TypeId} {p : String} {af : Array Edge} {j : Nat} {want : Bool} :
    run P n G (f + 1) (.ops all (⟨d, op, t, p, af, some (j, want)⟩ :: r) :: k) s = atGuard P n G f ((all[j]?).bind (·.dst)) want all ⟨d, op, t, p, af, some (j, want)⟩ r k s := by
  rw [run]
  simp only [atGuard, atVal]
  split <;> split <;> simp_all
theorem atGuard_some {all : Array Oper} {o : Oper} {r : List Oper} {d : Nat} {want : Bool} : atGuard P n G f (some d) want all o r k s = atVal P n G f (s.m d) want all o r k s := by simp only [atGuard]
theorem atOp_some {all : Array Oper} {o : Oper} {r : List Oper} {s' : St} : atOp P n G f (some s') all o r k s = (dOk n o.dst = true ∧ run P n G f (.ops all r :: k) s') := by simp only [atOp]
theorem atOp_none {all : Array Oper} {o : Oper} {r : List Oper} : atOp P n G f none all o r k s = G (.ops all (o :: r) :: k) s := by simp only [atOp]
theorem atVal_tup {all : Array Oper} {o : Oper} {r : List Oper} {cs : List AV} {want : Bool} : atVal P n G f (.tup cs) want all o r k s = (dOk n o.dst = true ∧ run P n G f (.ops all r :: k) (s.upd o.dst (.tup []) .none)) := by simp only [atVal]
theorem atVal_tt {all : Array Oper} {r : List Oper} {d : Option Nat} {op : Op} {t : TypeId} {p : String} {af : Array Edge} {g : Option (Nat × Bool)} {b : Bool} : atVal P n G f (.t (.v (.bool b))) b all ⟨d, op, t, p, af, g⟩ r k s = run P n G f (.ops all (⟨d, op, t, p, af, none⟩ :: r) :: k) s := by
  simp [atVal]
theorem atVal_tf {all : Array Oper} {o : Oper} {r : List Oper} : atVal P n G f (.t (.v (.bool true))) false all o r k s = (dOk n o.dst = true ∧ run P n G f (.ops all r :: k) (s.upd o.dst (.tup []) .none)) := by simp [atVal]
theorem atVal_ft {all : Array Oper} {o : Oper} {r : List Oper} : atVal P n G f (.t (.v (.bool false))) true all o r k s = (dOk n o.dst = true ∧ run P n G f (.ops all r :: k) (s.upd o.dst (.tup []) .none)) := by simp [atVal]
theorem run_dnil {all : Array Oper} {lo : List Nat} {i : Nat} {pend : List Rc} : run P n G (f + 1) (.opsD all lo i [] pend :: k) s = run P n G f k s := by rw [run]
def atDS (P : Program) (n : Nat) (G : List KI → St → Prop) (f : Nat) (x : Option (AV × Eff)) (all : Array Oper) (lo : List Nat) (i : Nat) (o : Oper) (r : List Oper) (pend : List Rc) (k : List KI) (s : St) : Prop :=
  match x with
  | some (v, .none) => tied all lo i = true ∧ run P n G f (.opsD all lo (i + 1) r pend :: k) (s.upd o.dst v .none)
  | some (v, e) => match pend with
    | [] => i ∈ lo ∧ run P n G f (.opsD all lo (i + 1) r [] :: k) (s.upd o.dst v e)
    | q :: qs => G (.opsD all lo i (o :: r) (q :: qs) :: k) s
  | none => G (.opsD all lo i (o :: r) pend :: k) s
def atDP (P : Program) (n : Nat) (G : List KI → St → Prop) (f : Nat) (x : Option AV) (all : Array Oper) (lo : List Nat) (i : Nat) (o : Oper) (r : List Oper) (pend : List Rc) (k : List KI) (s : St) : Prop :=
  match x with
  | some v => run P n G f (.opsD all lo (i + 1) r pend :: k) (s.upd o.dst v .none)
  | none => atDS P n G f (evalS P s.σ s.nx (ev s.m) o.op) all lo i o r pend k s
def atD (P : Program) (n : Nat) (G : List KI → St → Prop) (f : Nat) (x : Option Bool) (all : Array Oper) (lo : List Nat) (i : Nat) (o : Oper) (r : List Oper) (pend : List Rc) (k : List KI) (s : St) : Prop :=
  match x with
  | some true => atDP P n G f (evalP P (ev s.m) o.op) all lo i o r pend k s
  | some false => run P n G f (.opsD all lo (i + 1) r pend :: k) (s.upd o.dst (.tup []) .none)
  | none => G (.opsD all lo i (o :: r) pend :: k) s
section
variable {all : Array Oper} {lo : List Nat} {i : Nat} {o : Oper} {r : List Oper} {pend : List Rc}
theorem run_d : run P n G (f + 1) (.opsD all lo i (o :: r) pend :: k) s = atD P n G f (lets all s.m o) all lo i o r pend k s := by
  rw [run]
  simp only [atD, atDP, atDS]
theorem atD_true : atD P n G f (some true) all lo i o r pend k s = atDP P n G f (evalP P (ev s.m) o.op) all lo i o r pend k s := by simp only [atD]
theorem atD_false : atD P n G f (some false) all lo i o r pend k s = run P n G f (.opsD all lo (i + 1) r pend :: k) (s.upd o.dst (.tup []) .none) := by simp only [atD]
theorem atDP_some {v : AV} : atDP P n G f (some v) all lo i o r pend k s = run P n G f (.opsD all lo (i + 1) r pend :: k) (s.upd o.dst v .none) := by simp only [atDP]
theorem atDP_none : atDP P n G f none all lo i o r pend k s = atDS P n G f (evalS P s.σ s.nx (ev s.m) o.op) all lo i o r pend k s := by simp only [atDP]
theorem atDS_read {v : AV} : atDS P n G f (some (v, .none)) all lo i o r pend k s = (tied all lo i = true ∧ run P n G f (.opsD all lo (i + 1) r pend :: k) (s.upd o.dst v .none)) := by simp only [atDS]
theorem atDS_new {v : AV} {x : AObj} : atDS P n G f (some (v, .new x)) all lo i o r [] k s = (i ∈ lo ∧ run P n G f (.opsD all lo (i + 1) r [] :: k) (s.upd o.dst v (.new x))) := by simp only [atDS]
theorem atDS_set {v : AV} {q : Nat} {x : AObj} : atDS P n G f (some (v, .set q x)) all lo i o r [] k s = (i ∈ lo ∧ run P n G f (.opsD all lo (i + 1) r [] :: k) (s.upd o.dst v (.set q x))) := by simp only [atDS]
theorem atDS_next {v : AV} {q : Nat} {x : AObj} : atDS P n G f (some (v, .next q x)) all lo i o r [] k s = (i ∈ lo ∧ run P n G f (.opsD all lo (i + 1) r [] :: k) (s.upd o.dst v (.next q x))) := by simp only [atDS]
theorem atDS_none : atDS P n G f none all lo i o r pend k s = G (.opsD all lo i (o :: r) pend :: k) s := by simp only [atDS]
theorem tied_nil : tied all [] i = true := rfl
end

/-- A guard that is not known: both ways. -/
theorem atVal_of {all : Array Oper} {o : Oper} {r : List Oper} {b want : Bool} (h1 : b = want → run P n G f (.ops all ({ o with guard := none } :: r) :: k) s) (h2 : b = !want → dOk n o.dst = true ∧ run P n G f (.ops all r :: k) (s.upd o.dst (.tup []) .none)) :
    atVal P n G f (.t (.v (.bool b))) want all o r k s := by simp only [atVal]; exact ⟨h1, h2⟩
theorem atVal_decT {all : Array Oper} {o : Oper} {r : List Oper} {p : Prop} [Decidable p] (h1 : p → run P n G f (.ops all ({ o with guard := none } :: r) :: k) s) (h2 : ¬p → dOk n o.dst = true ∧ run P n G f (.ops all r :: k) (s.upd o.dst (.tup []) .none)) :
    atVal P n G f (.t (.v (.bool (decide p)))) true all o r k s := atVal_of (fun h => h1 (of_decide_eq_true h)) (fun h => h2 (of_decide_eq_false h))
theorem atVal_decF {all : Array Oper} {o : Oper} {r : List Oper} {p : Prop} [Decidable p] (h1 : ¬p → run P n G f (.ops all ({ o with guard := none } :: r) :: k) s) (h2 : p → dOk n o.dst = true ∧ run P n G f (.ops all r :: k) (s.upd o.dst (.tup []) .none)) :
    atVal P n G f (.t (.v (.bool (decide p)))) false all o r k s := atVal_of (fun h => h1 (of_decide_eq_false h)) (fun h => h2 (of_decide_eq_true h))
end

attribute [go_sem] run_seq run_skip run_label run_blk run_scp run_lab run_block run_ret run_again run_end run_fin run_exit atExit_some run_goto atGoto_some fork_true fork_false fork_not run_cond atCond_bool run_region run_drawn run_nil run_op run_dnil run_d atD_true atD_false atDP_some atDP_none atDS_read atDS_new atDS_set atDS_next tied_nil lets gval run_guard atGuard_some atOp_some atOp_none atDS_none atVal_tup atVal_tt atVal_tf atVal_ft

end
end Go.Proofs.Ytibmjinfdcmbdaa.R
