/- R14: the rules of reckoning. -/
import Derived.Test.YtibmjinfdcmbdaaR13
import Derived.KernelRfl
namespace Go.Proofs.Ytibmjinfdcmbdaa.R
open Go.RowKit

attribute [go_sem] one evalP evalB evalS evalC St.upd Eff.on ev ofConst ofLeaf plainV popTo popLab binV unV pickA cellsOf leaf toT toTs setCells partA partT TI.isAgg asInt idx elemRd bound cutT placesA fillA fillT zeroA slicesT srcA appA dOk gval callee resA resL resV frz frz.frzL bnd bnd.bndL bndO Done

abbrev AV.i (n : Int) : AV := .t (.v (.int .i64 n))
abbrev AV.u (n : Int) : AV := .t (.v (.int .u64 n))
abbrev AV.b (b : Bool) : AV := .t (.v (.bool b))
abbrev T.i (n : Int) : T := .v (.int .i64 n)

/-- A number that its kind holds. -/
theorem w64 (n : Int) (h : -9223372036854775808 ≤ n ∧ n ≤ 9223372036854775807) : IntKind.i64.wrap n = n := by
  simp only [IntKind.wrap, IntKind.bits, IntKind.signed]; simp; split <;> omega
theorem u64 (n : Int) (h : 0 ≤ n ∧ n ≤ 18446744073709551615) : IntKind.u64.wrap n = n := by
  simp only [IntKind.wrap, IntKind.bits, IntKind.signed]; simp; omega
theorem u8w (n : Int) (h : 0 ≤ n ∧ n ≤ 255) : IntKind.u8.wrap n = n := by
  simp only [IntKind.wrap, IntKind.bits, IntKind.signed]; simp; omega

theorem if_max (x y : Int) : (if x < y then y else x) = max x y := by omega
theorem if_min (x y : Int) : (if y < x then y else x) = min x y := by omega
@[go_sem] theorem minI_max {k k' : IntKind} (x y : Int) (r : List AV) : minI (fun y x => decide (y > x)) k x (.t (.v (.int k' y)) :: r) = minI (fun y x => decide (y > x)) k (max x y) r := by
  simp only [minI, decide_eq_true_eq]; rw [← if_max]
@[go_sem] theorem minI_min {k k' : IntKind} (x y : Int) (r : List AV) : minI (fun y x => decide (y < x)) k x (.t (.v (.int k' y)) :: r) = minI (fun y x => decide (y < x)) k (min x y) r := by
  simp only [minI, decide_eq_true_eq]; rw [← if_min]
@[go_sem] theorem minI_nil {k : IntKind} (f : Int → Int → Bool) (x : Int) : minI f k x [] = some x := rfl

@[go_sem] theorem cast_eq (a b : Nat) : ((a : Int) = (b : Int)) = (a = b) := by simp only [eq_iff_iff]; omega
@[go_sem] theorem beq_int (a b : Int) : (a == b) = decide (a = b) := by by_cases h : a = b <;> simp [h]
@[go_sem] theorem bne_int (a b : Int) : (a != b) = !decide (a = b) := by by_cases h : a = b <;> simp [h]

/-- A slice of whole numbers. -/
def ints (l : List Int) : List (List T) := l.map fun n => [.i n]


section
variable {P : Program} {B : Base} {k : List KI} {R : Post} {s : St}
@[go_sem] theorem Kp_again {J : St → Prop} : Kp P B [.again J] R .normal s = J s := rfl
@[go_sem] theorem Kp_fin {e : Exit} : Kp P B [.fin e] R .normal s = R e s := rfl
@[go_sem] theorem Kp_lab {l : Nat} {J : Nat → St → Prop} : Kp P B [.fin (.goto l), .lab J] R .normal s = J l s := rfl
@[go_sem] theorem Kp_nil {e : Exit} : Kp P B [] R e s = R e s := rfl

/-- Slots by a list; the others are not known. -/
def sl : List (Nat × AV) → Slots
  | [], _ => .any
  | (j, v) :: l, i => if i = j then v else sl l i
/-- Objects by a list; the others are none. -/
def ob : List (Nat × AObj) → Nat → AObj
  | [], _ => .dead
  | (j, v) :: l, i => if i = j then v else ob l i
@[go_sem] theorem sl_nil (i : Nat) : sl [] i = .any := rfl
@[go_sem] theorem sl_cons (j : Nat) (v : AV) (l : List (Nat × AV)) (i : Nat) : sl ((j, v) :: l) i = if i = j then v else sl l i := rfl
@[go_sem] theorem ob_nil (i : Nat) : ob [] i = .dead := rfl
@[go_sem] theorem ob_cons (j : Nat) (v : AObj) (l : List (Nat × AObj)) (i : Nat) : ob ((j, v) :: l) i = if i = j then v else ob l i := rfl
@[go_sem] theorem noObj_at (i : Nat) : noObj i = .dead := rfl
@[go_sem] theorem put_none (m : Slots) (v : AV) : put m none v = m := rfl
@[go_sem] theorem put_at (m : Slots) (d : Nat) (v : AV) (i : Nat) : put m (some d) v i = if i = d then v else m i := rfl
@[go_sem] theorem oput_at (σ : Nat → AObj) (q : Nat) (o : AObj) (i : Nat) : oput σ q o i = if i = q then o else σ i := rfl
@[go_sem] theorem slots0_at (as : List AV) (i : Nat) : slots0 as i = as.getD i (.tup []) := rfl

theorem sl_any {n : Nat} (l : List (Nat × AV)) (h : ∀ p ∈ l, s.m p.1 = p.2 ∧ bnd n p.2 = true) (i : Nat) : sl l i = .any ∨ (sl l i = s.m i ∧ bnd n (sl l i) = true) := by
  induction l with
  | nil => exact .inl rfl
  | cons p l ih =>
    obtain ⟨j, v⟩ := p
    simp only [sl]
    split
    · rename_i e
      subst e
      obtain ⟨h1, h2⟩ := h (i, v) (List.mem_cons_self)
      exact .inr ⟨h1.symm, h2⟩
    · exact ih fun p hp => h p (List.mem_cons_of_mem _ hp)

theorem ob_any {n : Nat} (l : List (Nat × AObj)) (h : ∀ p ∈ l, s.σ p.1 = p.2 ∧ bndO n p.2 = true ∧ p.1 < n) (i : Nat) : ob l i = .dead ∨ (ob l i = s.σ i ∧ bndO n (ob l i) = true ∧ i < n) := by
  induction l with
  | nil => exact .inl rfl
  | cons p l ih =>
    obtain ⟨j, v⟩ := p
    simp only [ob]
    split
    · rename_i e
      subst e
      obtain ⟨h1, h2, h3⟩ := h (i, v) (List.mem_cons_self)
      exact .inr ⟨h1.symm, h2, h3⟩
    · exact ih fun p hp => h p (List.mem_cons_of_mem _ hp)

/-- What falls away: named slots, named objects stay. -/
theorem Sub.of {l : List (Nat × AV)} {o : List (Nat × AObj)} {n : Nat} (hb : B.C.nx ≤ n) (hn : n ≤ s.nx) (hm : ∀ p ∈ l, s.m p.1 = p.2 ∧ bnd n p.2 = true) (ho : ∀ p ∈ o, s.σ p.1 = p.2 ∧ bndO n p.2 = true ∧ p.1 < n) : Imp B s ⟨sl l, ob o, n⟩ := Sub.imp
  ⟨sl_any l hm, hn, hb, ob_any o ho⟩

/-- A call's end, all objects falling away. -/
theorem Ends.pure {r0 r : AV} (hr : r = frz s.σ r0) (hb : bnd 0 r = true) : Ends 0 s r0 noObj 0 r :=
  ⟨fun _ => .inl rfl, Nat.zero_le _, Nat.le_refl _, .inr ⟨fun _ => rfl, hr⟩, .inr hb⟩

/-- Named slots stay, and all objects. -/
theorem Imp.keep {l : List (Nat × AV)} (hm : ∀ p ∈ l, s.m p.1 = p.2) : Imp B s ⟨sl l, s.σ, s.nx⟩ := by
  refine Imp.same (fun i => ?_) (fun i => .inr rfl) rfl
  induction l with
  | nil => exact .inl rfl
  | cons p l ih =>
    obtain ⟨j, v⟩ := p
    show (if i = j then v else sl l i) = .any ∨ (if i = j then v else sl l i) = s.m i
    split
    · rename_i e
      subst e
      exact .inr (hm (i, v) List.mem_cons_self).symm
    · exact ih fun p hp => hm p (List.mem_cons_of_mem _ hp)
theorem Imp.slots {l : List (Nat × AV)} {σ' : Nat → AObj} {n : Nat} (hm : ∀ p ∈ l, s.m p.1 = p.2) (hσ : σ' = s.σ) (hn : n = s.nx) : Imp B s ⟨sl l, σ', n⟩ := by
  subst hσ hn
  exact Imp.keep hm
/-- The next round can be made. -/
def Next {α : Type} (B : Base) (I : α → Prop) (st : α → St) (μ : α → Nat) (x : α) (s : St) : Prop := ∃ y, I y ∧ Imp B s (st y) ∧ μ y < μ x
theorem Next.mk {α : Type} {I : α → Prop} {st : α → St} {μ : α → Nat} {x : α} (y : α) (h1 : I y) (h2 : Imp B s (st y)) (h3 : μ y < μ x) : Next B I st μ x s := ⟨y, h1, h2, h3⟩
/-- A loop; what always holds. -/
theorem K_loopP {α : Type} (I : α → Prop) (st : α → St) (μ : α → Nat) (a0 : α) (hI : I a0) {c : Code} (h0 : Imp B s (st a0))
    (round : ∀ a, I a → Kp P B (.code c :: .again (Next B I st μ a) :: k) R .normal (st a)) : Kp P B (.code (.loop c) :: k) R .normal s := by
  intro ac w hr
  refine wp_loop_ix (fun (x : {a // I a}) a w => Rel B (st x.1) a w) (fun x => μ x.1) ⟨a0, hI⟩ (h0 _ _ hr) fun x a w hx => wp_mono (round x.1 x.2 a w hx) fun e a' w' hp => ?_
  obtain ⟨s', h1, h2⟩ := hp
  cases e with
  | normal =>
    obtain ⟨y, h3, h4, h5⟩ := h1
    exact ⟨⟨y, h3⟩, h4 _ _ h2, h5⟩
  | _ => exact ⟨s', h1, h2⟩

/-- A scope with one label that is jumped to. -/
theorem K_scopeP {α : Type} (l : Nat) (I : α → Prop) (st : α → St) (μ : α → Nat) {c rest : Code} (hf : findLabel c l = some rest)
    (first : Kp P B (.code c :: .lab (fun l' s' => l' = l ∧ ∃ y, I y ∧ Imp B s' (st y)) :: k) R .normal s)
    (pass : ∀ x, I x → Kp P B (.code rest :: .lab (fun l' s' => l' = l ∧ Next B I st μ x s') :: k) R .normal (st x)) : Kp P B (.code (.scope c) :: k) R .normal s := by
  intro ac w hr
  refine wp_scope_many (fun (x : {a // I a}) a w => Rel B (st x.1) a w) (fun _ => l) (fun x => μ x.1) (fun _ => rest) (fun _ => hf) (wp_mono (first ac w hr) fun e a' w' hp => ?_) fun x a w hx => wp_mono (pass x.1 x.2 a w hx) fun e a' w' hp => ?_
  · obtain ⟨s', h1, h2⟩ := hp
    cases e with
    | goto l' => obtain ⟨h0, y, h3, h4⟩ := h1; exact ⟨⟨y, h3⟩, h0.symm, h4 _ _ h2⟩
    | _ => exact ⟨s', h1, h2⟩
  · obtain ⟨s', h1, h2⟩ := hp
    cases e with
    | goto l' => obtain ⟨h0, y, h3, h4, h5⟩ := h1; exact ⟨⟨y, h3⟩, h0.symm, h4 _ _ h2, h5⟩
    | _ => exact ⟨s', h1, h2⟩

theorem K_lab_mono {J J' : Nat → St → Prop} {c : Code} (hJ : ∀ l s, J l s → J' l s) (h : Kp P B (.code c :: .lab J :: k) R .normal s) : Kp P B (.code c :: .lab J' :: k) R .normal s := by
  intro a w hr
  refine wp_mono (h a w hr) (post_mono fun e s' hp => ?_)
  cases e with
  | goto l => exact hJ _ _ hp
  | _ => exact hp

/-- A scope that begins with the label that is jumped to. -/
theorem K_scopeH {α : Type} {l : Nat} {b : Code} (I : α → Prop) (st : α → St) (μ : α → Nat) (x0 : α) (h0 : I x0) (hs : Imp B s (st x0))
    (pass : ∀ x, I x → Kp P B (.code b :: .lab (fun l' s' => l' = l ∧ Next B I st μ x s') :: k) R .normal (st x)) : Kp P B (.code (.scope (.seq (.label l) b)) :: k) R .normal s := by
  refine K_scopeP (rest := .seq .skip b) l I st μ (by simp [findLabel]) (K_seq (K_label (K_less hs (K_lab_mono ?_ (pass x0 h0))))) fun x hx => K_seq (K_skip (pass x hx))
  rintro l' s' ⟨h1, y, h2, h3, _⟩
  exact ⟨h1, y, h2, h3⟩
/-- A scope with the label in the midst. -/
theorem K_scopeM {α : Type} {l : Nat} {a b : Code} (I : α → Prop) (st : α → St) (μ : α → Nat) (ha : findLabel a l = none)
    (pass : ∀ x, I x → Kp P B (.code b :: .lab (fun l' s' => l' = l ∧ Next B I st μ x s') :: k) R .normal (st x))
    (first : ∀ J : Nat → St → Prop, (∀ x s, I x → Imp B s (st x) → Kp P B (.code b :: .lab J :: k) R .normal s) → Kp P B (.code a :: .code (.seq (.label l) b) :: .lab J :: k) R .normal s) :
    Kp P B (.code (.scope (.seq a (.seq (.label l) b))) :: k) R .normal s := by
  refine K_scopeP (rest := .seq .skip b) l I st μ (by simp [findLabel, ha]) (K_seq (first _ fun x s hx hs => K_less hs (K_lab_mono ?_ (pass x hx)))) fun x hx => K_seq (K_skip (pass x hx))
  rintro l' s' ⟨h1, y, h2, h3, _⟩
  exact ⟨h1, y, h2, h3⟩

/-- A scope with the label somewhere in it. -/
theorem K_scopeN {α : Type} (l : Nat) {c b : Code} (I : α → Prop) (st : α → St) (μ : α → Nat) (hf : findLabel c l = some (.seq .skip b))
    (pass : ∀ x, I x → Kp P B (.code b :: .lab (fun l' s' => l' = l ∧ Next B I st μ x s') :: k) R .normal (st x))
    (first : ∀ J : Nat → St → Prop, (∀ x s, I x → Imp B s (st x) → Kp P B (.code (.seq (.label l) b) :: .lab J :: k) R .normal s) → Kp P B (.code c :: .lab J :: k) R .normal s) :
    Kp P B (.code (.scope c) :: k) R .normal s := by
  refine K_scopeP (rest := .seq .skip b) l I st μ hf (first _ fun x s hx hs => K_seq (K_label (K_less hs (K_lab_mono ?_ (pass x hx))))) fun x hx => K_seq (K_skip (pass x hx))
  rintro l' s' ⟨h1, y, h2, h3, _⟩
  exact ⟨h1, y, h2, h3⟩

/-- A contract out of a body, the store told by what holds of it: all objects stay. -/
theorem spec_of {f : FuncId} {fn : Func} {c : Code} (hf : P.funcs[f]? = some fn) (hb : fn.body = some c) (hname : (fn.name == "runtime.NumGoroutine") = false) {args : List AV} {σ : Nat → AObj} {nx : Nat} (hn : args.length ≤ fn.ntmps) {S : AV → (Nat → AObj) → Nat → Prop}
    (h : ∀ B : Base, B.n = fn.ntmps → B.C.nx = nx → B.σ = σ → Kp P B [.code c] (fun e s => (e = .ret ∨ e = .normal) ∧ nx ≤ s.nx ∧ ∃ rs, resL P s fn.results.toList = some rs ∧ S (resV rs) s.σ s.nx) .normal ⟨slots0 args, σ, nx⟩) :
    CallQ P f args σ nx S := by
  refine spec_of_KQ hf hb hname hn fun B h1 h2 h3 => ?_
  refine fun a w hrel => wp_mono (h B h1 h2 h3 a w hrel) fun e a' w' hp => ?_
  obtain ⟨s', ⟨he, h0, rs, h4, h5⟩, h8⟩ := hp
  refine ⟨s', ⟨resV rs, s'.σ, s'.nx, h5, ?_⟩, h8⟩
  have : Ends nx s' (resV rs) s'.σ s'.nx (resV rs) := ⟨fun i => .inr ⟨rfl, .inl rfl⟩, Nat.le_refl _, h0, .inl rfl, .inl rfl⟩
  rcases he with rfl | rfl
  · exact ⟨rs, h4, this⟩
  · exact ⟨rs, h4, this⟩

/-- A slice that is nil begins to be owned. -/
theorem rel_own {t sz : Nat} (h : s.m t = .fsl []) {a : Act} {w : World} (hr : Rel B s a w) : Rel B ⟨put s.m (some t) (.ref s.nx), oput s.σ s.nx (.arr sz []), s.nx + 1⟩ a w := by
  obtain ⟨C, h1, h2, h3, h4, h5, h6⟩ := hr
  have ht := h2 t
  rw [h] at ht
  obtain ⟨ad, hv⟩ : ∃ ad, a.tmps.getD t undef = .slice ad 0 0 := by
    generalize a.tmps.getD t undef = u at ht
    cases ht with
    | fsl h => exact ⟨_, rfl⟩
  obtain ⟨C', hC⟩ : ∃ C' : Ctx, C' = ⟨C.imm, fun i => if i = C.nx then none else C.own i, fun i => if i = C.nx then .slice ad 0 0 else C.hdr i, C.nx + 1⟩ := ⟨_, rfl⟩
  obtain ⟨g1, g2⟩ := sim_new0 h5 (.arr sz []) (.slice ad 0 0) C' hC ⟨fun e he => (by cases he), .inl ⟨rfl, by rw [hC]; simp, ad, by rw [hC]; simp⟩⟩
  rw [h1] at g1 g2
  refine ⟨C', by rw [hC, h1], fun i => ?_, h3, h4, g1, h6.trans g2⟩
  by_cases hi : i = t
  · subst hi
    have : put s.m (some i) (.ref s.nx) i = .ref s.nx := if_pos rfl
    show RepA w C' (put s.m (some i) (.ref s.nx) i) _
    rw [this, hv]
    exact .ref (by rw [hC, h1]; exact Nat.lt_succ_self _) (by rw [hC, h1]; simp)
  · have : put s.m (some t) (.ref s.nx) i = s.m i := if_neg hi
    show RepA w C' (put s.m (some t) (.ref s.nx) i) _
    rw [this]
    exact (h2 i).step h5 g2
theorem K_own (t sz : Nat) {c : Code} (h : s.m t = .fsl []) (hk : Kp P B (.code c :: k) R .normal ⟨put s.m (some t) (.ref s.nx), oput s.σ s.nx (.arr sz []), s.nx + 1⟩) : Kp P B (.code c :: k) R .normal s :=
  fun a w hr => hk a w (rel_own h hr)

theorem pure_of {f : FuncId} {fn : Func} {c : Code} (hf : P.funcs[f]? = some fn) (hb : fn.body = some c) (hname : (fn.name == "runtime.NumGoroutine") = false) {args : List AV} {r : AV} (hn : args.length ≤ fn.ntmps) (ha : args.all (bnd 0) = true) (hr : bnd 0 r = true)
    (h : ∀ B : Base, B.n = fn.ntmps → B.C.nx = 0 → Kp P B [.code c] (fun e s => (e = .ret ∨ e = .normal) ∧ ∃ rs, resL P s fn.results.toList = some rs ∧ frz s.σ (resV rs) = r) .normal ⟨slots0 args, noObj, 0⟩) : Pure P f args r := by
  refine ⟨fun a h => List.all_eq_true.1 ha a h, hr, spec_of_K hf hb hname hn fun B h1 h2 _ => ?_⟩
  refine fun a w hrel => wp_mono (h B h1 h2 a w hrel) fun e a' w' hp => ?_
  obtain ⟨s', ⟨he, rs, h3, h4⟩, h5⟩ := hp
  refine ⟨s', ?_, h5⟩
  rcases he with rfl | rfl
  · exact ⟨rs, h3, Ends.pure h4.symm hr⟩
  · exact ⟨rs, h3, Ends.pure h4.symm hr⟩
end

end Go.Proofs.Ytibmjinfdcmbdaa.R
