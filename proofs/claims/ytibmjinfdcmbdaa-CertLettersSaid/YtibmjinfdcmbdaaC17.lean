/- What reading is, and that it gives back what was written: no program in sight. -/
import Derived.Test.YtibmjinfdcmbdaaC14
set_option maxRecDepth 4000
namespace Go.Proofs.Ytibmjinfdcmbdaa
open Go Go.Proofs.Ytibmjinfdcmbdaa.R
abbrev Bytes (l : List Nat) : Prop := ∀ c ∈ l, c < 256
/-- What is read: what came of it, the bytes that are left, what went wrong. -/
abbrev Rd (α : Type) := List Nat → Int → α × List Nat × Int
theorem Bytes.app {a b : List Nat} (h : Bytes (a ++ b)) : Bytes b := fun c hc => h c (List.mem_append_right _ hc)
theorem failE_ne (e x : Int) (hx : x ≠ 0) : failE e x ≠ 0 := by unfold failE; split <;> omega
theorem failE_of {e : Int} (he : e ≠ 0) (x : Int) : failE e x = e := by unfold failE; rw [if_neg he]

/-- Reading that goes with a way to write. -/
structure Good {α : Type} (rd : Rd α) (en : α → List Nat) (V : α → Prop) : Prop where
  rt : ∀ a r, V a → rd (en a ++ r) 0 = (a, r, 0)
  cut : ∀ a c, V a → c < (en a).length → (rd ((en a).take c) 0).2 = ([], 3)
  stick : ∀ l e, e ≠ 0 → (rd l e).2 = (l, e)
  back : ∀ l a l', Bytes l → rd l 0 = (a, l', 0) → l = en a ++ l' ∧ V a

def pairR {α β : Type} (f : Rd α) (g : Rd β) : Rd (α × β) := fun l e => (((f l e).1, (g (f l e).2.1 (f l e).2.2).1), (g (f l e).2.1 (f l e).2.2).2)
theorem Good.pair {α β : Type} {f : Rd α} {g : Rd β} {en : α → List Nat} {en' : β → List Nat} {V : α → Prop} {V' : β → Prop} (h : Good f en V) (h' : Good g en' V') :
    Good (pairR f g) (fun x => en x.1 ++ en' x.2) (fun x => V x.1 ∧ V' x.2) := by
  refine ⟨fun ⟨a, b⟩ r ⟨ha, hb⟩ => ?_, fun ⟨a, b⟩ c ⟨ha, hb⟩ hc => ?_, fun l e he => ?_, fun l ⟨a, b⟩ l' hl hr => ?_⟩
  · show pairR f g (en a ++ en' b ++ r) 0 = _
    have e1 := h.rt a (en' b ++ r) ha
    have e2 := h'.rt b r hb
    simp only [pairR, List.append_assoc, e1, e2]
  · show (g _ _).2 = _
    simp only at hc ⊢
    by_cases hlt : c < (en a).length
    · rw [List.take_append_of_le_length (Nat.le_of_lt hlt)]
      have e1 := h.cut a c ha hlt
      have e2 : (f ((en a).take c) 0).2.1 = [] := by rw [e1]
      have e3 : (f ((en a).take c) 0).2.2 = 3 := by rw [e1]
      rw [e2, e3, h'.stick _ _ (by omega)]
    · rw [List.take_append, List.take_of_length_le (by omega), h.rt a _ ha]
      refine h'.cut b _ hb ?_
      rw [List.length_append] at hc
      omega
  · show (g _ _).2 = _
    rw [h.stick l e he]
    exact h'.stick _ _ he
  · have e1 : (f l 0).1 = a := by have := congrArg (fun x => x.1.1) hr; exact this
    have e2 : (g (f l 0).2.1 (f l 0).2.2).1 = b := by have := congrArg (fun x => x.1.2) hr; exact this
    have e3 : (g (f l 0).2.1 (f l 0).2.2).2 = (l', 0) := by have := congrArg (fun x => x.2) hr; exact this
    have e4 : (f l 0).2.2 = 0 := by
      by_cases hx : (f l 0).2.2 = 0
      · exact hx
      · rw [h'.stick _ _ hx] at e3
        exact congrArg Prod.snd e3
    obtain ⟨h1, h2⟩ := h.back l a (f l 0).2.1 hl (Prod.ext e1 (Prod.ext rfl e4))
    have hl2 : Bytes (f l 0).2.1 := by rw [h1] at hl; exact hl.app
    rw [e4] at e2 e3
    obtain ⟨h3, h4⟩ := h'.back _ b l' hl2 (Prod.ext e2 e3)
    refine ⟨?_, h2, h4⟩
    show l = en a ++ en' b ++ l'
    rw [List.append_assoc, ← h3]
    exact h1
theorem Good.map {α β : Type} {rd : Rd α} {en : α → List Nat} {V : α → Prop} (h : Good rd en V) (f : α → β) (g : β → α) {en' : β → List Nat} {V' : β → Prop} (h1 : ∀ b, V' b → f (g b) = b ∧ V (g b) ∧ en' b = en (g b)) (h2 : ∀ a, V a → V' (f a) ∧ en' (f a) = en a) :
    Good (fun l e => (f (rd l e).1, (rd l e).2)) en' V' := by
  refine ⟨fun b r hb => ?_, fun b c hb hc => ?_, fun l e he => h.stick l e he, fun l b l' hl hr => ?_⟩
  · obtain ⟨a1, a2, a3⟩ := h1 b hb
    simp only [a3, h.rt _ r a2, a1]
  · obtain ⟨a1, a2, a3⟩ := h1 b hb
    rw [a3] at hc ⊢
    exact h.cut _ c a2 hc
  · have e1 : f (rd l 0).1 = b := congrArg Prod.fst hr
    have e2 : (rd l 0).2 = (l', 0) := congrArg Prod.snd hr
    obtain ⟨h3, h4⟩ := h.back l (rd l 0).1 l' hl (Prod.ext rfl e2)
    obtain ⟨h5, h6⟩ := h2 _ h4
    rw [← e1, h6]
    exact ⟨h3, h5⟩

/-! ### Numbers -/
theorem enc_cons (n : Nat) : ∃ c t, enc n = c :: t := by
  by_cases h : 128 ≤ n
  · exact ⟨_, _, enc_ge h⟩
  · exact ⟨_, _, enc_lt h⟩
theorem nxt_ne (l : List Nat) {e : Int} (he : e ≠ 0) : nxt l e = (0, l, e) := by
  cases l with
  | nil => simp [nxt, failE_of he]
  | cons c r => simp [nxt, he]
theorem wid_ne (n s c : Nat) (l : List Nat) {e : Int} (he : e ≠ 0) : wid n s c l e = (0, l, e) := by rw [wid, if_pos he]
theorem or_add {acc s x : Nat} (h : acc < 2 ^ s) : acc ||| x * 2 ^ s = acc + x * 2 ^ s := by
  rw [Nat.or_comm, Nat.mul_comm, ← Nat.two_pow_add_eq_or_of_lt h, Nat.add_comm]
/-- One round's figures. -/
theorem wid_fig {acc m k : Nat} (hk : k ≤ 9) (hm : acc + m * 2 ^ (7 * k) < 2 ^ 64) (h : 128 ≤ m) :
    k < 9 ∧ m % 128 * 2 ^ (7 * k) < 2 ^ 64 ∧ acc + m * 2 ^ (7 * k) = acc + m % 128 * 2 ^ (7 * k) + m / 128 * 2 ^ (7 * (k + 1)) := by
  have e1 : 2 ^ (7 * (k + 1)) = 128 * 2 ^ (7 * k) := by rw [Nat.mul_add, Nat.pow_add]; omega
  have e2 : m * 2 ^ (7 * k) = m % 128 * 2 ^ (7 * k) + m / 128 * (128 * 2 ^ (7 * k)) := by
    rw [← Nat.mul_assoc, ← Nat.add_mul]
    congr 1
    omega
  have e3 : k ≠ 9 := by
    rintro rfl
    have : 2 ^ (7 * 9) = 9223372036854775808 := by decide
    rw [this] at hm
    omega
  refine ⟨by omega, ?_, by rw [e1]; omega⟩
  have : m % 128 * 2 ^ (7 * k) ≤ m * 2 ^ (7 * k) := Nat.mul_le_mul_right _ (Nat.mod_le _ _)
  omega
theorem wid_rt : ∀ (m k acc c : Nat) (t r : List Nat), k ≤ 9 → acc < 2 ^ (7 * k) → acc + m * 2 ^ (7 * k) < 2 ^ 64 → (0 < k → m ≠ 0) → enc m = c :: t →
    wid acc (7 * k) c (t ++ r) 0 = (acc + m * 2 ^ (7 * k), r, 0) := by
  intro m
  induction m using Nat.strongRecOn with
  | _ m ih =>
  intro k acc c t r hk hacc hm hz he
  by_cases h : 128 ≤ m
  · rw [enc_ge h] at he
    simp only [List.cons.injEq] at he
    obtain ⟨rfl, rfl⟩ := he
    obtain ⟨hk9, g1, g2⟩ := wid_fig hk hm h
    obtain ⟨c', t', hc'⟩ := enc_cons (m / 128)
    have e5 : (m % 128 + 128) % 128 = m % 128 := by omega
    have e1 : 2 ^ (7 * (k + 1)) = 128 * 2 ^ (7 * k) := by rw [Nat.mul_add, Nat.pow_add]; omega
    have e6 : m % 128 * 2 ^ (7 * k) ≤ 127 * 2 ^ (7 * k) := Nat.mul_le_mul_right _ (by omega)
    rw [wid, if_neg (by simp), if_neg (by omega), if_pos (by omega), e5, Nat.mod_eq_of_lt g1, or_add hacc, hc']
    have e4 : nxt (c' :: t' ++ r) 0 = (c', t' ++ r, 0) := by simp [nxt]
    rw [e4, show 7 * k + 7 = 7 * (k + 1) by omega]
    simp only
    rw [ih (m / 128) (by omega) (k + 1) _ c' t' r (by omega) (by omega) (by omega) (fun _ => by omega) hc', g2]
  · rw [enc_lt h] at he
    simp only [List.cons.injEq] at he
    obtain ⟨rfl, rfl⟩ := he
    have e0 : m * 2 ^ (7 * k) < 2 ^ 64 := by omega
    have e9 : ¬ (7 * k = 63 ∧ 1 < m) := by
      rintro ⟨h1, h2⟩
      rw [h1] at e0
      omega
    rw [wid, if_neg (by simp), if_neg (by omega), if_neg (by omega), Nat.mod_eq_of_lt (show m < 128 by omega), Nat.mod_eq_of_lt e0, or_add hacc]
    rfl
theorem wid_cut : ∀ (m k acc c : Nat) (t : List Nat) (j : Nat), k ≤ 9 → acc < 2 ^ (7 * k) → acc + m * 2 ^ (7 * k) < 2 ^ 64 → enc m = c :: t → j < t.length →
    (wid acc (7 * k) c (t.take j) 0).2 = ([], 3) := by
  intro m
  induction m using Nat.strongRecOn with
  | _ m ih =>
  intro k acc c t j hk hacc hm he hj
  by_cases h : 128 ≤ m
  · rw [enc_ge h] at he
    simp only [List.cons.injEq] at he
    obtain ⟨rfl, rfl⟩ := he
    obtain ⟨hk9, g1, g2⟩ := wid_fig hk hm h
    obtain ⟨c', t', hc'⟩ := enc_cons (m / 128)
    have e5 : (m % 128 + 128) % 128 = m % 128 := by omega
    have e1 : 2 ^ (7 * (k + 1)) = 128 * 2 ^ (7 * k) := by rw [Nat.mul_add, Nat.pow_add]; omega
    have e6 : m % 128 * 2 ^ (7 * k) ≤ 127 * 2 ^ (7 * k) := Nat.mul_le_mul_right _ (by omega)
    rw [wid, if_neg (by simp), if_neg (by omega), if_pos (by omega), e5, Nat.mod_eq_of_lt g1, or_add hacc]
    rw [hc'] at hj ⊢
    cases j with
    | zero =>
      have e4 : nxt (List.take 0 (c' :: t')) 0 = (0, [], 3) := rfl
      rw [e4, wid_ne _ _ _ _ (by decide)]
    | succ j =>
      have e4 : nxt (List.take (j + 1) (c' :: t')) 0 = (c', t'.take j, 0) := by simp [nxt]
      rw [e4, show 7 * k + 7 = 7 * (k + 1) by omega]
      exact ih (m / 128) (by omega) (k + 1) _ c' t' j (by omega) (by omega) (by omega) hc' (by simpa using hj)
  · rw [enc_lt h] at he
    simp only [List.cons.injEq] at he
    obtain ⟨rfl, rfl⟩ := he
    simp at hj
theorem wid_back (acc s c : Nat) (l : List Nat) (e : Int) (hacc : acc < 2 ^ s) (h7 : s % 7 = 0) (hs : s ≤ 63) (hc : c < 256) (hl : Bytes l) : ∀ N l', wid acc s c l e = (N, l', 0) →
    e = 0 ∧ ∃ m, N = acc + m * 2 ^ s ∧ c :: l = enc m ++ l' ∧ (0 < s → m ≠ 0) ∧ N < 2 ^ 64 := by
  fun_induction wid acc s c l e with
  | case1 n s c l e he => intro N l' h; simp at h; exact absurd h.2.2 he
  | case2 n s c l e he hb => intro N l' h; simp at h
  | case3 n s c l e he hb hgo ih =>
    intro N l' h
    have he' : e = 0 := by omega
    subst he'
    have hs63 : s < 63 := hgo.2
    have hc128 : c % 128 * 2 ^ s < 2 ^ 64 := by
      have : 2 ^ s ≤ 2 ^ 56 := Nat.pow_le_pow_right (by decide) (by omega)
      have h2 : c % 128 * 2 ^ s ≤ 127 * 2 ^ 56 := Nat.mul_le_mul (by omega) this
      omega
    have e1 : 2 ^ (s + 7) = 128 * 2 ^ s := by rw [Nat.pow_add]; omega
    have e6 : c % 128 * 2 ^ s ≤ 127 * 2 ^ s := Nat.mul_le_mul_right _ (by omega)
    rw [Nat.mod_eq_of_lt hc128, or_add hacc] at ih
    rw [Nat.mod_eq_of_lt hc128, or_add hacc] at h
    have hn := nxt_u8 hl 0
    obtain ⟨h1, m, h2, h3, h4, h5⟩ := ih (by omega) (by omega) (by omega) hn.1 hn.2 N l' h
    have h4' := h4 (by omega)
    cases l with
    | nil => simp [nxt, failE] at h1
    | cons c1 r =>
      simp only [nxt, if_true] at h3
      refine ⟨rfl, c % 128 + 128 * m, ?_, ?_, fun _ => by omega, h5⟩
      · rw [h2, e1, Nat.add_mul, Nat.mul_comm 128 m, Nat.mul_assoc]; omega
      · rw [enc_ge (by omega), List.cons_append]
        have e7 : (c % 128 + 128 * m) / 128 = m := by omega
        have e8 : (c % 128 + 128 * m) % 128 + 128 = c := by omega
        rw [e7, e8, h3]
  | case4 n s c l e he hb hgo =>
    intro N l' h
    have he' : e = 0 := by omega
    subst he'
    simp only [Prod.mk.injEq] at h
    obtain ⟨rfl, rfl, _⟩ := h
    have hcl : c < 128 := by omega
    have hc128 : c * 2 ^ s < 2 ^ 64 := by
      by_cases h63 : s = 63
      · subst h63
        have : c * 2 ^ 63 ≤ 1 * 2 ^ 63 := Nat.mul_le_mul_right _ (by omega)
        omega
      · have : 2 ^ s ≤ 2 ^ 56 := Nat.pow_le_pow_right (by decide) (by omega)
        have h2 : c * 2 ^ s ≤ 127 * 2 ^ 56 := Nat.mul_le_mul (by omega) this
        omega
    rw [Nat.mod_eq_of_lt hcl, Nat.mod_eq_of_lt hc128, or_add hacc]
    refine ⟨rfl, c, rfl, by rw [enc_lt (by omega)]; rfl, fun h0 => by omega, ?_⟩
    by_cases h63 : s = 63
    · subst h63
      have : c * 2 ^ 63 ≤ 1 * 2 ^ 63 := Nat.mul_le_mul_right _ (by omega)
      omega
    · have : 2 ^ s ≤ 2 ^ 56 := Nat.pow_le_pow_right (by decide) (by omega)
      have h2 : c * 2 ^ s ≤ 127 * 2 ^ 56 := Nat.mul_le_mul (by omega) this
      omega
theorem wide_good : Good wide enc (fun n => n < 2 ^ 64) := by
  refine ⟨fun n r hn => ?_, fun n c hn hc => ?_, fun l e he => ?_, fun l n l' hl hr => ?_⟩
  · obtain ⟨c, t, hc⟩ := enc_cons n
    have e1 : nxt (enc n ++ r) 0 = (c, t ++ r, 0) := by rw [hc]; simp [nxt]
    have := wid_rt n 0 0 c t r (by omega) (by simp) (by simpa using hn) (fun h => by omega) hc
    simp only [wide, e1]
    simpa using this
  · obtain ⟨x, t, hx⟩ := enc_cons n
    rw [hx] at hc ⊢
    cases c with
    | zero =>
      have e1 : nxt (List.take 0 (x :: t)) 0 = (0, [], 3) := rfl
      simp only [wide, e1, wid_ne _ _ _ _ (show (3 : Int) ≠ 0 by decide)]
    | succ c =>
      have e1 : nxt (List.take (c + 1) (x :: t)) 0 = (x, t.take c, 0) := by simp [nxt]
      have := wid_cut n 0 0 x t c (by omega) (by simp) (by simpa using hn) hx (by simpa using hc)
      simp only [wide, e1]
      simpa using this
  · simp only [wide, nxt_ne l he, wid_ne _ _ _ _ he]
  · have hn := nxt_u8 hl 0
    obtain ⟨h1, m, h2, h3, h4, h5⟩ := wid_back 0 0 _ _ _ (by simp) (by omega) (by omega) hn.1 hn.2 n l' hr
    simp at h2
    subst h2
    refine ⟨?_, h5⟩
    cases l with
    | nil => simp [nxt, failE] at h1
    | cons c1 r => simpa [nxt] using h3

/-- Numbers that are no greater. -/
def guardR (rd : Rd Nat) (b : Nat) (x : Int) : Rd Nat := fun l e => if b < (rd l e).1 then (0, (rd l e).2.1, failE (rd l e).2.2 x) else rd l e
theorem Good.guard {rd : Rd Nat} {en : Nat → List Nat} {V : Nat → Prop} (h : Good rd en V) (b : Nat) {x : Int} (hx : x ≠ 0) : Good (guardR rd b x) en (fun n => V n ∧ n ≤ b) := by
  refine ⟨fun n r ⟨h1, h2⟩ => ?_, fun n c ⟨h1, h2⟩ hc => ?_, fun l e he => ?_, fun l n l' hl hr => ?_⟩
  · simp only [guardR, h.rt n r h1, if_neg (show ¬ b < n by omega)]
  · have e1 := h.cut n c h1 hc
    simp only [guardR]
    split
    · simp only [e1, failE_of (show (3 : Int) ≠ 0 by decide)]
    · exact e1
  · have e1 := h.stick l e he
    simp only [guardR]
    split
    · simp only [e1, failE_of he]
    · exact e1
  · simp only [guardR] at hr
    split at hr
    · simp only [Prod.mk.injEq] at hr
      exact absurd hr.2.2 (failE_ne _ _ hx)
    · rename_i hb
      obtain ⟨h1, h2⟩ := h.back l n l' hl hr
      rw [hr] at hb
      exact ⟨h1, h2, by simp only at hb; omega⟩
theorem pln_good : Good pln enc (fun n => n < 2 ^ 64 ∧ n ≤ 9223372036854775807) := wide_good.guard 9223372036854775807 (x := 2) (by decide)
theorem cnt_good : Good cnt enc (fun n => (n < 2 ^ 64 ∧ n ≤ 9223372036854775807) ∧ n ≤ 1048576) := pln_good.guard 1048576 (x := 6) (by decide)
/-- A number that is not below 0. -/
def Nn (n : Int) : Prop := 0 ≤ n ∧ n < 9223372036854775808
def plnI : Rd Int := fun l e => (((pln l e).1 : Nat), (pln l e).2)
theorem un_nat (n : Nat) (h : n < 2 ^ 64) : un n = n := by unfold un; omega
theorem plnI_good : Good plnI (fun n => enc (un n)) Nn := by
  refine pln_good.map (fun (n : Nat) => (n : Int)) (fun n => n.toNat) (fun n hn => ?_) (fun n hn => ?_)
  · obtain ⟨h1, h2⟩ := hn
    have e1 : un n = n.toNat := by unfold un; omega
    exact ⟨by omega, by omega, by rw [e1]⟩
  · exact ⟨⟨by omega, by omega⟩, by rw [un_nat n (by omega)]⟩

/-! ### Rows -/
/-- So many, zs long zs nothing goes wrong. -/
def rep {α : Type} (rd : Rd α) : Nat → Rd (List α)
  | 0, l, e => ([], l, e)
  | n + 1, l, e => if e ≠ 0 then ([], l, e) else ((rd l e).1 :: (rep rd n (rd l e).2.1 (rd l e).2.2).1, (rep rd n (rd l e).2.1 (rd l e).2.2).2)
def eachR {α : Type} (rd : Rd α) : Rd (List α) := fun l e => rep rd (cnt l e).1 (cnt l e).2.1 (cnt l e).2.2
theorem rep_ne {α : Type} (rd : Rd α) (n : Nat) (l : List Nat) {e : Int} (he : e ≠ 0) : rep rd n l e = ([], l, e) := by
  cases n with
  | zero => rfl
  | succ n => rw [rep, if_pos he]
theorem rep_succ {α : Type} (rd : Rd α) (n : Nat) (l : List Nat) : rep rd (n + 1) l 0 = ((rd l 0).1 :: (rep rd n (rd l 0).2.1 (rd l 0).2.2).1, (rep rd n (rd l 0).2.1 (rd l 0).2.2).2) := by rw [rep, if_neg (by simp)]
theorem rep_len {α : Type} (rd : Rd α) : ∀ (n : Nat) (l : List Nat) (e : Int), (rep rd n l e).1.length ≤ n
  | 0, l, e => Nat.le_refl _
  | n + 1, l, e => by
    rw [rep]
    split
    · simp
    · have := rep_len rd n (rd l e).2.1 (rd l e).2.2
      simp only [List.length_cons]; omega
/-- One more behind so many. -/
theorem rep_step {α : Type} {rd : Rd α} : ∀ {k : Nat} {l : List Nat} {e : Int} {zs : List α} {l' : List Nat}, rep rd k l e = (zs, l', 0) → zs.length = k →
    rep rd (k + 1) l e = (zs ++ [(rd l' 0).1], (rd l' 0).2)
  | 0, l, e, zs, l', h, hk => by
    simp only [rep, Prod.mk.injEq] at h
    obtain ⟨rfl, rfl, rfl⟩ := h
    rw [rep_succ]
    rfl
  | k + 1, l, e, zs, l', h, hk => by
    rw [rep] at h
    split at h
    · rename_i he
      simp only [Prod.mk.injEq] at h
      exact absurd h.2.2 he
    · rename_i he
      have he' : e = 0 := by omega
      subst he'
      cases zs with
      | nil => simp at hk
      | cons a zs =>
        simp only [Prod.mk.injEq, List.cons.injEq] at h
        obtain ⟨⟨h1, h2⟩, h3⟩ := h
        have := rep_step (rd := rd) (k := k) (l := (rd l 0).2.1) (e := (rd l 0).2.2) (zs := zs) (l' := l') (Prod.ext h2 h3) (by simpa using hk)
        rw [rep_succ, this, h1]
        rfl
/-- Where something went wrong the rest is not read. -/
theorem rep_stop {α : Type} {rd : Rd α} : ∀ {k n : Nat} {l : List Nat} {e : Int} {zs : List α} {l' : List Nat} {e' : Int}, rep rd k l e = (zs, l', e') → zs.length = k → k ≤ n → (k = n ∨ e' ≠ 0) →
    rep rd n l e = (zs, l', e')
  | 0, n, l, e, zs, l', e', h, hk, hn, hor => by
    simp only [rep, Prod.mk.injEq] at h
    obtain ⟨rfl, rfl, rfl⟩ := h
    rcases hor with rfl | he
    · rfl
    · rw [rep_ne _ _ _ he]
  | k + 1, n, l, e, zs, l', e', h, hk, hn, hor => by
    cases n with
    | zero => omega
    | succ n =>
      rw [rep] at h ⊢
      split at h
      · rename_i he
        rw [if_pos he]; exact h
      · rename_i he
        rw [if_neg he]
        cases zs with
        | nil => simp at hk
        | cons a zs =>
          simp only [Prod.mk.injEq, List.cons.injEq] at h
          obtain ⟨⟨h1, h2⟩, h3⟩ := h
          rw [rep_stop (rd := rd) (k := k) (n := n) (zs := zs) (l' := l') (e' := e') (Prod.ext h2 h3) (by simpa using hk) (by omega) (hor.imp (by omega) id), h1]
theorem rep_rt {α : Type} {rd : Rd α} {en : α → List Nat} {V : α → Prop} (h : Good rd en V) : ∀ (zs : List α) (r : List Nat), (∀ a ∈ zs, V a) → rep rd zs.length (zs.flatMap en ++ r) 0 = (zs, r, 0)
  | [], r, _ => rfl
  | a :: zs, r, ha => by
    have e1 := h.rt a (zs.flatMap en ++ r) (ha a List.mem_cons_self)
    have e2 := rep_rt h zs r fun x hx => ha x (List.mem_cons_of_mem _ hx)
    rw [List.length_cons, rep_succ, List.flatMap_cons, List.append_assoc, e1]
    simp only [e2]
theorem rep_cut {α : Type} {rd : Rd α} {en : α → List Nat} {V : α → Prop} (h : Good rd en V) : ∀ (zs : List α) (c : Nat), (∀ a ∈ zs, V a) → c < (zs.flatMap en).length → (rep rd zs.length ((zs.flatMap en).take c) 0).2 = ([], 3)
  | [], c, _, hc => by simp at hc
  | a :: zs, c, ha, hc => by
    have hVa := ha a List.mem_cons_self
    rw [List.length_cons, rep_succ]
    rw [List.flatMap_cons] at hc ⊢
    by_cases hlt : c < (en a).length
    · rw [List.take_append_of_le_length (Nat.le_of_lt hlt)]
      have e1 := h.cut a c hVa hlt
      have e2 : (rd ((en a).take c) 0).2.1 = [] := by rw [e1]
      have e3 : (rd ((en a).take c) 0).2.2 = 3 := by rw [e1]
      rw [e2, e3, rep_ne _ _ _ (by decide)]
    · rw [List.take_append, List.take_of_length_le (by omega), h.rt a _ hVa]
      refine rep_cut h zs _ (fun x hx => ha x (List.mem_cons_of_mem _ hx)) ?_
      rw [List.length_append] at hc
      omega
theorem rep_back {α : Type} {rd : Rd α} {en : α → List Nat} {V : α → Prop} (h : Good rd en V) : ∀ (n : Nat) (l : List Nat) (zs : List α) (l' : List Nat), Bytes l → rep rd n l 0 = (zs, l', 0) → zs.length = n ∧ l = zs.flatMap en ++ l' ∧ ∀ a ∈ zs, V a
  | 0, l, zs, l', hl, hr => by
    simp only [rep, Prod.mk.injEq] at hr
    obtain ⟨rfl, rfl, _⟩ := hr
    exact ⟨rfl, rfl, fun a ha => by cases ha⟩
  | n + 1, l, zs, l', hl, hr => by
    rw [rep_succ] at hr
    simp only [Prod.mk.injEq] at hr
    obtain ⟨rfl, h3⟩ := hr
    have e4 : (rd l 0).2.2 = 0 := by
      by_cases hx : (rd l 0).2.2 = 0
      · exact hx
      · rw [rep_ne _ _ _ hx] at h3
        exact congrArg Prod.snd h3
    obtain ⟨h1, h2⟩ := h.back l (rd l 0).1 (rd l 0).2.1 hl (Prod.ext rfl (Prod.ext rfl e4))
    have hl2 : Bytes (rd l 0).2.1 := by rw [h1] at hl; exact hl.app
    rw [e4] at h3 ⊢
    obtain ⟨g1, g2, g3⟩ := rep_back h n _ _ l' hl2 (Prod.ext rfl h3)
    refine ⟨by simp [g1], ?_, fun a ha => ?_⟩
    · rw [List.flatMap_cons, List.append_assoc, ← g2]; exact h1
    · rcases List.mem_cons.1 ha with rfl | ha
      · exact h2
      · exact g3 a ha
theorem Good.each {α : Type} {rd : Rd α} {en : α → List Nat} {V : α → Prop} (h : Good rd en V) : Good (eachR rd) (fun zs => encI [(zs.length : Int)] ++ zs.flatMap en) (fun zs => zs.length ≤ 1048576 ∧ ∀ a ∈ zs, V a) := by
  have hen : ∀ n : Nat, n ≤ 1048576 → encI [(n : Int)] = enc n := fun n hn => by simp [encI, un_nat n (by omega)]
  refine ⟨fun zs r ⟨h1, h2⟩ => ?_, fun zs c ⟨h1, h2⟩ hc => ?_, fun l e he => ?_, fun l zs l' hl hr => ?_⟩
  · have e1 := cnt_good.rt zs.length (zs.flatMap en ++ r) ⟨⟨by omega, by omega⟩, h1⟩
    simp only [eachR, hen _ h1, List.append_assoc, e1]
    exact rep_rt h zs r h2
  · simp only [eachR, hen _ h1] at hc ⊢
    by_cases hlt : c < (enc zs.length).length
    · rw [List.take_append_of_le_length (Nat.le_of_lt hlt)]
      have e1 := cnt_good.cut zs.length c ⟨⟨by omega, by omega⟩, h1⟩ hlt
      have e2 : (cnt ((enc zs.length).take c) 0).2.1 = [] := by rw [e1]
      have e3 : (cnt ((enc zs.length).take c) 0).2.2 = 3 := by rw [e1]
      rw [e2, e3, rep_ne _ _ _ (by decide)]
    · rw [List.take_append, List.take_of_length_le (by omega), cnt_good.rt _ _ ⟨⟨by omega, by omega⟩, h1⟩]
      refine rep_cut h zs _ h2 ?_
      rw [List.length_append] at hc
      omega
  · simp only [eachR, cnt_good.stick l e he, rep_ne _ _ _ he]
  · have e4 : (cnt l 0).2.2 = 0 := by
      by_cases hx : (cnt l 0).2.2 = 0
      · exact hx
      · simp only [eachR, rep_ne _ _ _ hx, Prod.mk.injEq] at hr
        exact hr.2.2
    obtain ⟨h1, _, h2⟩ := cnt_good.back l (cnt l 0).1 (cnt l 0).2.1 hl (Prod.ext rfl (Prod.ext rfl e4))
    have hl2 : Bytes (cnt l 0).2.1 := by rw [h1] at hl; exact hl.app
    simp only [eachR, e4] at hr
    obtain ⟨g1, g2, g3⟩ := rep_back h _ _ zs l' hl2 hr
    refine ⟨?_, by omega, g3⟩
    show l = encI _ ++ _ ++ l'
    rw [hen _ (by omega), g1, List.append_assoc, ← g2]
    exact h1
end Go.Proofs.Ytibmjinfdcmbdaa
