/- R6: the store's turns. -/
import Derived.Test.YtibmjinfdcmbdaaR5
namespace Go.Proofs.Ytibmjinfdcmbdaa.R
open Go.RowKit

section
variable {P : Program} {w : World} {C : Ctx} {σ : Nat → AObj}

theorem own_lt (hs : Sim C σ w) {i b : Nat} (hi : σ i ≠ .dead) (ho : C.own i = some b) : b < w.heap.size := by
  have h := hs.obj i
  have lt : ∀ {o : Obj}, w.heap[b]? = some o → b < w.heap.size := fun h => (Array.getElem?_eq_some_iff.1 h).1
  cases hσ : σ i with
  | dead => exact absurd hσ hi
  | box cs => rw [hσ] at h; obtain ⟨bl, vs, E, h1, h2, _⟩ := h; rw [ho] at h1; cases h1; exact lt h2
  | arr sz es =>
    rw [hσ] at h
    obtain ⟨_, ⟨_, h1, _⟩ | ⟨bl, cap, vs, E, lo, hi', h1, _, _, h2, _⟩⟩ := h
    · rw [ho] at h1; cases h1
    · rw [ho] at h1; cases h1; exact lt h2
  | map es => rw [hσ] at h; obtain ⟨bl, ms, c, h1, h2, _⟩ := h; rw [ho] at h1; cases h1; exact lt h2
  | iter s k => rw [hσ] at h; obtain ⟨bl, h1, h2⟩ := h; rw [ho] at h1; cases h1; exact lt h2

theorem live_lt (hs : Sim C σ w) {i : Nat} (hi : σ i ≠ .dead) : i < C.nx :=
  Nat.lt_of_not_le fun h => hi (hs.dead i h)

theorem push_old (w : World) (o : Obj) {b : Nat} (h : b < w.heap.size) : ({ w with heap := w.heap.push o } : World).heap[b]? = w.heap[b]? := by
  show (w.heap.push o)[b]? = _
  rw [Array.getElem?_push, if_neg (by omega)]
theorem push_new (w : World) (o : Obj) : ({ w with heap := w.heap.push o } : World).heap[w.heap.size]? = some o := by
  show (w.heap.push o)[w.heap.size]? = _
  rw [Array.getElem?_push, if_pos rfl]

/-- A new block that is never written. -/
theorem sim_imm (hs : Sim C σ w) (o : Obj) : Sim { C with imm := fun b => C.imm b ∨ b = w.heap.size } σ { w with heap := w.heap.push o } ∧
    Step C σ w { C with imm := fun b => C.imm b ∨ b = w.heap.size } σ { w with heap := w.heap.push o } := by
  have hk : Keeps w C.imm { w with heap := w.heap.push o } (fun b => C.imm b ∨ b = w.heap.size) := ⟨fun b h => .inl h, fun b h => push_old w o (hs.imm_lt b h)⟩
  have hc : CtxLe C { C with imm := fun b => C.imm b ∨ b = w.heap.size } := ⟨Nat.le_refl _, fun _ _ => rfl, fun _ _ => rfl⟩
  refine ⟨⟨hs.dead, fun i => ?_, hs.inj, fun i b hi ho => ?_, fun b h => ?_⟩, ⟨hc, rfl, rfl, rfl, by simp, fun b h => .inl h, fun b hb _ => push_old w o hb, fun b h => .inl h, fun b h => ?_⟩⟩
  · by_cases hi : σ i = .dead
    · rw [hi]; exact True.intro
    · exact (hs.obj i).step hk hc (live_lt hs hi) (fun b ho => push_old w o (own_lt hs hi ho))
  · rintro (h | rfl)
    · exact hs.sep i b hi ho h
    · exact absurd (own_lt hs hi ho) (Nat.lt_irrefl _)
  · rcases h with h | rfl
    · have := hs.imm_lt b h; simp; omega
    · simp
  · rcases h with h | rfl
    · exact .inl h
    · exact .inr (.inr (Nat.le_refl _))

theorem sim_imm' (hs : Sim C σ w) {w' : World} (h1 : w'.os = w.os) (h2 : w'.tape = w.tape) (h3 : w'.output = w.output) (hsz : w'.heap.size = w.heap.size + 1) (hh : ∀ b, b < w.heap.size → w'.heap[b]? = w.heap[b]?) :
    Sim { C with imm := fun b => C.imm b ∨ b = w.heap.size } σ w' ∧ Step C σ w { C with imm := fun b => C.imm b ∨ b = w.heap.size } σ w' := by
  have hk : Keeps w C.imm w' (fun b => C.imm b ∨ b = w.heap.size) := ⟨fun b h => .inl h, fun b h => hh b (hs.imm_lt b h)⟩
  have hc : CtxLe C { C with imm := fun b => C.imm b ∨ b = w.heap.size } := ⟨Nat.le_refl _, fun _ _ => rfl, fun _ _ => rfl⟩
  refine ⟨⟨hs.dead, fun i => ?_, hs.inj, fun i b hi ho => ?_, fun b h => ?_⟩, ⟨hc, h1, h2, h3, by omega, fun b h => .inl h, fun b hb _ => hh b hb, fun b h => .inl h, fun b h => ?_⟩⟩
  · by_cases hi : σ i = .dead
    · rw [hi]; exact True.intro
    · exact (hs.obj i).step hk hc (live_lt hs hi) (fun b ho => hh b (own_lt hs hi ho))
  · rintro (h | rfl)
    · exact hs.sep i b hi ho h
    · exact absurd (own_lt hs hi ho) (Nat.lt_irrefl _)
  · rcases h with h | rfl
    · have := hs.imm_lt b h; omega
    · omega
  · rcases h with h | rfl
    · exact .inl h
    · exact .inr (.inr (Nat.le_refl _))

/-- A draw. -/
theorem sim_world (hs : Sim C σ w) {w' : World} (hh : w'.heap = w.heap) (h1 : w'.os = w.os) (h2 : w'.tape = w.tape) (h3 : w'.output = w.output) : Sim C σ w' ∧ Step C σ w C σ w' := by
  have hk : Keeps w C.imm w' C.imm := ⟨fun b h => h, fun b h => by rw [hh]⟩
  have hc : CtxLe C C := ⟨Nat.le_refl _, fun _ _ => rfl, fun _ _ => rfl⟩
  refine ⟨⟨hs.dead, fun i => ?_, hs.inj, hs.sep, fun b h => by rw [hh]; exact hs.imm_lt b h⟩, ⟨hc, h1, h2, h3, by rw [hh]; exact Nat.le_refl _, fun b h => h, fun b _ _ => by rw [hh], fun b h => .inl h, fun b h => .inl h⟩⟩
  by_cases hi : σ i = .dead
  · rw [hi]; exact True.intro
  · exact (hs.obj i).step hk hc (live_lt hs hi) (fun b ho => by rw [hh])

/-- A new object in a new block. -/
theorem sim_new (hs : Sim C σ w) (o : Obj) (obj : AObj) (h : Value) (C' : Ctx) (hC : C' = ⟨C.imm, fun i => if i = C.nx then some w.heap.size else C.own i, fun i => if i = C.nx then h else C.hdr i, C.nx + 1⟩)
    (hr : RepO { w with heap := w.heap.push o } C' C.nx obj) :
    Sim C' (fun i => if i = C.nx then obj else σ i) { w with heap := w.heap.push o } ∧ Step C σ w C' (fun i => if i = C.nx then obj else σ i) { w with heap := w.heap.push o } := by
  have himm : C'.imm = C.imm := by rw [hC]
  have hk : Keeps w C.imm { w with heap := w.heap.push o } C'.imm := ⟨fun b h => by rw [himm]; exact h, fun b h => push_old w o (hs.imm_lt b h)⟩
  have hc : CtxLe C C' := by
    subst hC
    exact ⟨Nat.le_succ _, fun i hi => if_neg (by omega), fun i hi => if_neg (by omega)⟩
  have hnx : C'.nx = C.nx + 1 := by rw [hC]
  have hown : ∀ i, C'.own i = if i = C.nx then some w.heap.size else C.own i := fun i => by rw [hC]
  refine ⟨⟨fun i hi => ?_, fun i => ?_, fun i j b hi hj h1 h2 => ?_, fun i b hi ho => ?_, fun b h => ?_⟩, ⟨hc, rfl, rfl, rfl, by simp, fun b h => by rw [himm]; exact h, fun b hb _ => push_old w o hb, fun b h => ?_, fun b h => by rw [himm] at h; exact .inl h⟩⟩
  · rw [hnx] at hi
    show (if i = C.nx then obj else σ i) = _
    rw [if_neg (by omega)]
    exact hs.dead i (by omega)
  · by_cases hi : i = C.nx
    · subst hi; simp only [if_true]; exact hr
    · simp only [if_neg hi]
      by_cases hd : σ i = .dead
      · rw [hd]; exact True.intro
      · exact (hs.obj i).step hk hc (live_lt hs hd) (fun b ho => push_old w o (own_lt hs hd ho))
  · rw [hown] at h1 h2
    by_cases ei : i = C.nx <;> by_cases ej : j = C.nx
    · omega
    · simp only [if_pos ei, if_neg ej] at h1 h2 hj
      have := own_lt hs hj h2
      cases h1; omega
    · simp only [if_neg ei, if_pos ej] at h1 h2 hi
      have := own_lt hs hi h1
      cases h2; omega
    · simp only [if_neg ei, if_neg ej] at h1 h2 hi hj
      exact hs.inj i j b hi hj h1 h2
  · rw [himm]
    rw [hown] at ho
    by_cases ei : i = C.nx
    · rw [if_pos ei] at ho; cases ho
      intro h; exact Nat.lt_irrefl _ (hs.imm_lt _ h)
    · simp only [if_neg ei] at ho hi
      exact hs.sep i b hi ho
  · rw [himm] at h
    have := hs.imm_lt b h; simp; omega
  · obtain ⟨i, hi, ho⟩ := h
    rw [hown] at ho
    by_cases ei : i = C.nx
    · rw [if_pos ei] at ho; cases ho
      exact .inr (Nat.le_refl _)
    · simp only [if_neg ei] at ho hi
      exact .inl ⟨i, hi, ho⟩

/-- A new object without a block. -/
theorem sim_new0 (hs : Sim C σ w) (obj : AObj) (h : Value) (C' : Ctx) (hC : C' = ⟨C.imm, fun i => if i = C.nx then none else C.own i, fun i => if i = C.nx then h else C.hdr i, C.nx + 1⟩)
    (hr : RepO w C' C.nx obj) :
    Sim C' (fun i => if i = C.nx then obj else σ i) w ∧ Step C σ w C' (fun i => if i = C.nx then obj else σ i) w := by
  have himm : C'.imm = C.imm := by rw [hC]
  have hk : Keeps w C.imm w C'.imm := ⟨fun b h => by rw [himm]; exact h, fun b h => rfl⟩
  have hc : CtxLe C C' := by
    subst hC
    exact ⟨Nat.le_succ _, fun i hi => if_neg (by omega), fun i hi => if_neg (by omega)⟩
  have hnx : C'.nx = C.nx + 1 := by rw [hC]
  have hown : ∀ i, C'.own i = if i = C.nx then none else C.own i := fun i => by rw [hC]
  refine ⟨⟨fun i hi => ?_, fun i => ?_, fun i j b hi hj h1 h2 => ?_, fun i b hi ho => ?_, fun b h => ?_⟩, ⟨hc, rfl, rfl, rfl, Nat.le_refl _, fun b h => by rw [himm]; exact h, fun b hb _ => rfl, fun b h => ?_, fun b h => by rw [himm] at h; exact .inl h⟩⟩
  · rw [hnx] at hi
    show (if i = C.nx then obj else σ i) = _
    rw [if_neg (by omega)]
    exact hs.dead i (by omega)
  · by_cases hi : i = C.nx
    · subst hi; simp only [if_true]; exact hr
    · simp only [if_neg hi]
      by_cases hd : σ i = .dead
      · rw [hd]; exact True.intro
      · exact (hs.obj i).step hk hc (live_lt hs hd) (fun b ho => rfl)
  · rw [hown] at h1 h2
    by_cases ei : i = C.nx <;> by_cases ej : j = C.nx
    · omega
    · simp only [if_pos ei] at h1; cases h1
    · simp only [if_pos ej] at h2; cases h2
    · simp only [if_neg ei, if_neg ej] at h1 h2 hi hj
      exact hs.inj i j b hi hj h1 h2
  · rw [himm]
    rw [hown] at ho
    by_cases ei : i = C.nx
    · rw [if_pos ei] at ho; cases ho
    · simp only [if_neg ei] at ho hi
      exact hs.sep i b hi ho
  · rw [himm] at h
    exact hs.imm_lt b h
  · obtain ⟨i, hi, ho⟩ := h
    rw [hown] at ho
    by_cases ei : i = C.nx
    · rw [if_pos ei] at ho; cases ho
    · simp only [if_neg ei] at ho hi
      exact .inl ⟨i, hi, ho⟩

/-- An object's block is written. -/
theorem sim_set (hs : Sim C σ w) {i bl : Nat} (hi : σ i ≠ .dead) (ho : C.own i = some bl) {w' : World} (h1 : w'.os = w.os) (h2 : w'.tape = w.tape) (h3 : w'.output = w.output) (hsz : w'.heap.size = w.heap.size)
    (hh : ∀ b, b ≠ bl → w'.heap[b]? = w.heap[b]?) {obj : AObj} (hr : RepO w' C i obj) :
    Sim C (fun j => if j = i then obj else σ j) w' ∧ Step C σ w C (fun j => if j = i then obj else σ j) w' := by
  have hk : Keeps w C.imm w' C.imm := ⟨fun b h => h, fun b h => hh b fun e => hs.sep i bl hi ho (e ▸ h)⟩
  have hc : CtxLe C C := ⟨Nat.le_refl _, fun _ _ => rfl, fun _ _ => rfl⟩
  have hin := live_lt hs hi
  refine ⟨⟨fun j hj => ?_, fun j => ?_, fun j k b hj hk' e1 e2 => ?_, fun j b hj hb => ?_, fun b h => by rw [hsz]; exact hs.imm_lt b h⟩,
    ⟨hc, h1, h2, h3, by omega, fun b h => h, fun b hb hm => hh b fun e => hm ⟨i, hi, e ▸ ho⟩, fun b h => ?_, fun b h => .inl h⟩⟩
  · show (if j = i then obj else σ j) = _
    rw [if_neg (by omega)]
    exact hs.dead j hj
  · by_cases ej : j = i
    · subst ej; simp only [if_true]; exact hr
    · simp only [if_neg ej]
      by_cases hd : σ j = .dead
      · rw [hd]; exact True.intro
      · exact (hs.obj j).step hk hc (live_lt hs hd) (fun b hb => hh b fun e => ej (hs.inj j i bl hd hi (e ▸ hb) ho))
  · have l1 : σ j ≠ .dead := by
      by_cases ej : j = i
      · rw [ej]; exact hi
      · simpa only [if_neg ej] using hj
    have l2 : σ k ≠ .dead := by
      by_cases ek : k = i
      · rw [ek]; exact hi
      · simpa only [if_neg ek] using hk'
    exact hs.inj j k b l1 l2 e1 e2
  · have l1 : σ j ≠ .dead := by
      by_cases ej : j = i
      · rw [ej]; exact hi
      · simpa only [if_neg ej] using hj
    exact hs.sep j b l1 hb
  · obtain ⟨j, hj, hb⟩ := h
    have l1 : σ j ≠ .dead := by
      by_cases ej : j = i
      · rw [ej]; exact hi
      · simpa only [if_neg ej] using hj
    exact .inl ⟨j, l1, hb⟩

/-- An object ends. -/
theorem sim_kill (hs : Sim C σ w) (i : Nat) : Sim C (fun j => if j = i then .dead else σ j) w ∧ Step C σ w C (fun j => if j = i then .dead else σ j) w := by
  have live : ∀ j, (if j = i then AObj.dead else σ j) ≠ .dead → j ≠ i ∧ σ j ≠ .dead := by
    intro j hj
    by_cases ej : j = i
    · rw [if_pos ej] at hj; exact absurd rfl hj
    · rw [if_neg ej] at hj; exact ⟨ej, hj⟩
  refine ⟨⟨fun j hj => ?_, fun j => ?_, fun j k b hj hk e1 e2 => hs.inj j k b (live j hj).2 (live k hk).2 e1 e2, fun j b hj hb => hs.sep j b (live j hj).2 hb, hs.imm_lt⟩,
    ⟨⟨Nat.le_refl _, fun _ _ => rfl, fun _ _ => rfl⟩, rfl, rfl, rfl, Nat.le_refl _, fun b h => h, fun b _ _ => rfl, fun b ⟨j, hj, hb⟩ => .inl ⟨j, (live j hj).2, hb⟩, fun b h => .inl h⟩⟩
  · split
    · rfl
    · exact hs.dead j hj
  · by_cases ej : j = i
    · simp only [if_pos ej]; exact True.intro
    · simp only [if_neg ej]; exact hs.obj j

/-- A row's block becomes one that is never written: the row ends. -/
theorem sim_freeze (hs : Sim C σ w) (i : Nat) (hi : σ i ≠ .dead) (C' : Ctx) (hC : C' = { C with imm := fun b => C.imm b ∨ C.own i = some b }) :
    Sim C' (fun j => if j = i then .dead else σ j) w ∧ Step C σ w C' (fun j => if j = i then .dead else σ j) w := by
  have live : ∀ j, (if j = i then AObj.dead else σ j) ≠ .dead → j ≠ i ∧ σ j ≠ .dead := by
    intro j hj
    by_cases ej : j = i
    · rw [if_pos ej] at hj; exact absurd rfl hj
    · rw [if_neg ej] at hj; exact ⟨ej, hj⟩
  have hk : Keeps w C.imm w C'.imm := by subst hC; exact ⟨fun b h => .inl h, fun b h => rfl⟩
  have hc : CtxLe C C' := by subst hC; exact ⟨Nat.le_refl _, fun _ _ => rfl, fun _ _ => rfl⟩
  have hown : C'.own = C.own := by rw [hC]
  have himm : ∀ b, C'.imm b ↔ (C.imm b ∨ C.own i = some b) := fun b => by rw [hC]
  refine ⟨⟨fun j hj => ?_, fun j => ?_, fun j k b hj hk e1 e2 => hs.inj j k b (live j hj).2 (live k hk).2 (hown ▸ e1) (hown ▸ e2), fun j b hj hb h => ?_, fun b h => ?_⟩,
    ⟨hc, rfl, rfl, rfl, Nat.le_refl _, fun b h => (himm b).2 (.inl h), fun b _ _ => rfl, fun b ⟨j, hj, hb⟩ => .inl ⟨j, (live j hj).2, hown ▸ hb⟩, fun b h => ?_⟩⟩
  · split
    · rfl
    · exact hs.dead j (by subst hC; exact hj)
  · by_cases ej : j = i
    · simp only [if_pos ej]; exact True.intro
    · simp only [if_neg ej]
      by_cases hd : σ j = .dead
      · rw [hd]; exact True.intro
      · exact (hs.obj j).step hk hc (live_lt hs hd) (fun b hb => rfl)
  · rw [hown] at hb
    rcases (himm b).1 h with h | h
    · exact hs.sep j b (live j hj).2 hb h
    · exact (live j hj).1 (hs.inj j i b (live j hj).2 hi hb h)
  · rcases (himm b).1 h with h | h
    · exact hs.imm_lt b h
    · exact own_lt hs hi h
  · rcases (himm b).1 h with h | h
    · exact .inl h
    · exact .inr (.inl ⟨i, hi, h⟩)

end
end Go.Proofs.Ytibmjinfdcmbdaa.R
