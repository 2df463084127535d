/- A part of the proof: C8. -/
import Derived.Test.YtibmjinfdcmbdaaC7
set_option maxRecDepth 4000
namespace Go.Proofs.Ytibmjinfdcmbdaa
open Go Go.Proofs.Ytibmjinfdcmbdaa.R
/-- A reader: the bytes that are left, what went wrong. -/
abbrev rdB (l : List Nat) (e : Int) : AObj := .box [.t (.sl (byt l)), .i e]
theorem oput_oput {σ : Nat → AObj} {q : Nat} {a b : AObj} : oput (oput σ q a) q b = oput σ q b := by
  funext i; simp only [oput]; split <;> rfl
theorem oput_self {σ : Nat → AObj} {q : Nat} {a : AObj} (h : σ q = a) : oput σ q a = σ := by
  funext i; simp only [oput]; split
  · subst_vars; rfl
  · rfl

def failE (e x : Int) : Int := if e = 0 then x else e
theorem fail_spec {σ : Nat → AObj} {nx q : Nat} {l : List Nat} {e : Int} (h : σ q = rdB l e) (x : Int) : CallSpec P 27 [.ptr q 0, .i x] σ nx (.tup []) (oput σ q (rdB l (failE e x))) nx := by
  refine (spec_of Try.func27 rfl rfl (by simp [Try.f27]) fun B hB hnx hσ => ?_).spec
  simp only [Try.f27] at hB ⊢
  by_cases he : e = 0
  · refine K_run hB 60 ?_
    simp [go_sem, h, he, failE]
  · refine K_run hB 60 ?_
    simp [go_sem, h, he, failE]
    exact (oput_self h).symm

/-- The next byte. -/
def nxt (l : List Nat) (e : Int) : Nat × List Nat × Int := match l with
  | [] => (0, [], failE e 3)
  | c :: r => if e = 0 then (c, r, 0) else (0, c :: r, e)
theorem next_spec {σ : Nat → AObj} {nx q : Nat} {l : List Nat} {e : Int} (h : σ q = rdB l e) (hl : l.length < 2 ^ 62) : CallSpec P 26 [.ptr q 0] σ nx (.t (.v (.int .u8 (nxt l e).1))) (oput σ q (rdB (nxt l e).2.1 (nxt l e).2.2)) nx := by
  refine (spec_of Try.func26 rfl rfl (by simp [Try.f26]) fun B hB hnx hσ => ?_).spec
  simp only [Try.f26] at hB ⊢
  cases l with
  | nil =>
    refine K_run hB 60 ?_
    simp [go_sem, h, byt]
    refine K_call rfl rfl rfl (args := [.ptr q 0, .i 3]) (f := 27) (by simp [go_sem]) (by simp [go_sem, hB]) (fail_spec (l := []) h 3) ?_
    have hne : failE e 3 ≠ 0 := by unfold failE; split <;> omega
    refine K_run hB 60 ?_
    simp [go_sem, hne, nxt, byt]
  | cons c r =>
    have hn : ¬ ((r.length : Int) + 1 = 0) := by omega
    have hn1 : (1 : Int) ≤ (r.length : Int) + 1 := by omega
    by_cases he : e = 0
    · refine K_run hB 60 ?_
      simp [go_sem, h, byt, he, hn, hn1, nxt]
      rfl
    · refine K_run hB 60 ?_
      simp [go_sem, h, byt, he, hn, nxt]
      exact (oput_self h).symm

theorem nxt_len (l : List Nat) (e : Int) : (nxt l e).2.1.length ≤ l.length := by
  unfold nxt; split
  · simp
  · split <;> simp
theorem nxt_u8 {l : List Nat} (h : ∀ c ∈ l, c < 256) (e : Int) : (nxt l e).1 < 256 ∧ ∀ c ∈ (nxt l e).2.1, c < 256 := by
  unfold nxt; split
  · simp
  · rename_i c r
    split
    · exact ⟨h c List.mem_cons_self, fun x hx => h x (List.mem_cons_of_mem _ hx)⟩
    · exact ⟨by omega, h⟩

/-- A number: what is left, what went wrong. -/
def wid (n shift c : Nat) (l : List Nat) (e : Int) : Nat × List Nat × Int :=
  if e ≠ 0 then (0, l, e)
  else if (0 < shift ∧ c = 0) ∨ (shift = 63 ∧ 1 < c) then (0, l, 2)
  else if 128 ≤ c ∧ shift < 63 then
    wid (n ||| (c % 128 * 2 ^ shift % 2 ^ 64)) (shift + 7) (nxt l e).1 (nxt l e).2.1 (nxt l e).2.2
  else (n ||| (c % 128 * 2 ^ shift % 2 ^ 64), l, e)
  termination_by 70 - shift
  decreasing_by omega
def wide (l : List Nat) (e : Int) : Nat × List Nat × Int := wid 0 0 (nxt l e).1 (nxt l e).2.1 (nxt l e).2.2

theorem rd_or (n c sh : Nat) (hn : n < 2 ^ 64) : bor .u64 n (IntKind.u64.wrap (IntKind.u64.wrap ((c : Int).tmod 128) * 2 ^ sh)) = ((n ||| c % 128 * 2 ^ sh % 2 ^ 64 : Nat) : Int) := by
  have e1 : IntKind.u64.wrap ((c : Int).tmod 128) = ((c % 128 : Nat) : Int) := by
    rw [Int.tmod_eq_emod_of_nonneg (by omega), u64 _ (by omega)]; omega
  have e2 : IntKind.u64.wrap (((c % 128 : Nat) : Int) * 2 ^ sh) = ((c % 128 * 2 ^ sh % 2 ^ 64 : Nat) : Int) := by
    have e0 : ∀ x : Int, IntKind.u64.wrap x = x % 18446744073709551616 := fun x => by simp only [IntKind.wrap, IntKind.bits, IntKind.signed]; simp
    have e5 : ((c % 128 * 2 ^ sh % 2 ^ 64 : Nat) : Int) = ((c % 128 : Nat) : Int) * 2 ^ sh % 18446744073709551616 := by rw [Int.natCast_emod, Int.natCast_mul, Int.natCast_pow]; rfl
    rw [e0, e5]
  rw [e1, e2]
  have h2 : c % 128 * 2 ^ sh % 2 ^ 64 < 2 ^ 64 := Nat.mod_lt _ (by omega)
  generalize c % 128 * 2 ^ sh % 2 ^ 64 = m at h2
  show IntKind.u64.wrap ((BitVec.ofInt 64 n ||| BitVec.ofInt 64 m).toNat : Int) = _
  rw [BitVec.ofInt_natCast, BitVec.ofInt_natCast, BitVec.toNat_or, BitVec.toNat_ofNat, BitVec.toNat_ofNat, Nat.mod_eq_of_lt hn, Nat.mod_eq_of_lt h2]
  have h3 : n ||| m < 2 ^ 64 := Nat.or_lt_two_pow hn h2
  exact u64 _ (by omega)

theorem wide_r {σ : Nat → AObj} {nx q : Nat} {l : List Nat} {e : Int} (h : σ q = rdB l e) (hq : q < nx) (hl : l.length < 2 ^ 62) (h8 : ∀ c ∈ l, c < 256) : CallSpec P 42 [.ptr q 0] σ nx (.u (wide l e).1) (oput σ q (rdB (wide l e).2.1 (wide l e).2.2)) nx := by
  refine (spec_of Try.func42 rfl rfl (by simp [Try.f42]) fun B hB hnx hσ => ?_).spec
  simp only [Try.f42] at hB ⊢
  refine K_run hB 150 ?_
  simp [go_sem]
  refine K_scopeN (α := Nat × Nat × Nat × List Nat × Int) 0 (fun (n, sh, c, l', e') => n < 2 ^ 64 ∧ c < 256 ∧ (sh ≤ 63 ∧ sh % 7 = 0) ∧ l'.length < 2 ^ 62 ∧ (∀ c ∈ l', c < 256) ∧ wid n sh c l' e' = wide l e)
    (fun (n, sh, c, l', e') => ⟨sl [(0, .ptr q 0), (2, .u 0), (3, .u n), (4, .i sh), (5, .t (.v (.int .u8 c)))], oput σ q (rdB l' e'), nx⟩) (fun x => 70 - x.2.1) rfl ?_ ?_
  · rintro ⟨n, sh, c, l', e'⟩ ⟨h1, h2, ⟨h3, h37⟩, h4, h5, h6⟩
    by_cases he : e' = 0
    · subst he
      have hq' : (oput σ q (rdB l' 0)) q = rdB l' 0 := oput_eq
      rw [wid, if_neg (by simp)] at h6
      by_cases hbad : (0 < sh ∧ c = 0) ∨ (sh = 63 ∧ 1 < c)
      · rw [if_pos hbad] at h6
        rcases hbad with ⟨g1, g2⟩ | ⟨g1, g2⟩
        · subst g2
          refine K_run hB 150 ?_
          simp [go_sem, g1]
          refine K_call rfl rfl rfl (args := [.ptr q 0, .i 2]) (f := 27) (by simp [go_sem]) (by simp [go_sem, hB]) (fail_spec hq' 2) ?_
          refine K_run hB 20 ?_
          simp [go_sem, ← h6, failE, oput_oput]
        · have g3 : ¬ c = 0 := by omega
          have g4 : (1 : Int) < c := by omega
          refine K_run hB 150 ?_
          simp [go_sem, g1, g4, g3]
          refine K_call rfl rfl rfl (args := [.ptr q 0, .i 2]) (f := 27) (by simp [go_sem]) (by simp [go_sem, hB]) (fail_spec hq' 2) ?_
          refine K_run hB 20 ?_
          simp [go_sem, ← h6, failE, oput_oput]
      · rw [if_neg hbad] at h6
        have hlen := nxt_len l' 0
        have hs0 : ¬ ((sh : Int) < 0) := by omega
        have hmin : min sh 64 = sh := by omega
        have hor := rd_or n c sh h1
        have hor2 : n ||| c % 128 * 2 ^ sh % 2 ^ 64 < 2 ^ 64 := Nat.or_lt_two_pow h1 (Nat.mod_lt _ (by omega))
        have hnu := nxt_u8 h5 0
        by_cases h128 : (128 : Int) ≤ c
        · have hsh : sh < 63 := by omega
          rw [if_pos ⟨by omega, hsh⟩] at h6
          have g3 : ¬ c = 0 := by omega
          have g2 : ¬ (sh : Int) = 63 := by omega
          by_cases g1 : 0 < sh
          all_goals
            refine K_run hB 150 ?_
            simp [go_sem, g1, g2, g3, h128, hs0, hmin, hor]
            refine K_call rfl rfl rfl (args := [.ptr q 0]) (f := 26) (by simp [go_sem]) (by simp [go_sem, hB]) (next_spec hq' h4) ?_
            refine K_run hB 20 ?_
            simp [go_sem, oput_oput]
            refine Next.mk (n ||| c % 128 * 2 ^ sh % 2 ^ 64, sh + 7, (nxt l' 0).1, (nxt l' 0).2.1, (nxt l' 0).2.2) ⟨hor2, hnu.1, ⟨by show sh + 7 ≤ 63; omega, by show (sh + 7) % 7 = 0; omega⟩, Nat.lt_of_le_of_lt hlen h4, hnu.2, h6⟩ (Imp.slots (by
              simp [go_sem]
              rw [w64 _ (by omega)]) rfl rfl) (by show 70 - (sh + 7) < 70 - sh; omega)
        · rw [if_neg (by omega)] at h6
          by_cases g1 : 0 < sh <;> by_cases g3 : c = 0 <;> by_cases g2 : (sh : Int) = 63 <;> by_cases g4 : (1 : Int) < c
          all_goals first
            | (exfalso; omega)
            | refine K_run hB 150 ?_
              simp [go_sem, g1, g2, g3, g4, h128, hs0, hmin]
          all_goals first
            | exact ⟨by rw [← h6]; exact hor, by rw [← h6]⟩
            | (subst g3
               exact ⟨by rw [← h6]; exact hor, by rw [← h6]⟩)
            | (obtain rfl : sh = 63 := by omega
               have e63 : (2 : Int) ^ 63 = 9223372036854775808 := by decide
               rw [e63] at hor
               exact ⟨by rw [← h6]; exact hor, by rw [← h6]⟩)
    · rw [wid, if_pos he] at h6
      refine K_run hB 150 ?_
      simp [go_sem, he, ← h6]
  · intro J hJ
    refine K_run hB 20 ?_
    simp [go_sem]
    refine K_call rfl rfl rfl (args := [.ptr q 0]) (f := 26) (by simp [go_sem]) (by simp [go_sem, hB]) (next_spec h hl) ?_
    refine K_run hB 2 ?_
    simp [go_sem]
    refine hJ (0, 0, (nxt l e).1, (nxt l e).2.1, (nxt l e).2.2) _ ⟨by omega, (nxt_u8 h8 e).1, ⟨by omega, by omega⟩, Nat.lt_of_le_of_lt (nxt_len l e) hl, (nxt_u8 h8 e).2, rfl⟩ (Imp.slots (by simp [go_sem]) rfl rfl)
end Go.Proofs.Ytibmjinfdcmbdaa
