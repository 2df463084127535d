/- A part of the proof: C1. -/
import Derived.Test.YtibmjinfdcmbdaaCT
set_option maxRecDepth 4000
namespace Go.Proofs.Ytibmjinfdcmbdaa
open Go Go.Proofs.Ytibmjinfdcmbdaa.R
/-- A number's bytes. -/
def enc (n : Nat) : List Nat := if h : 128 ≤ n then (n % 128 + 128) :: enc (n / 128) else [n]
  decreasing_by omega
def byt (l : List Nat) : List (List T) := l.map fun (n : Nat) => [T.v (.int .u8 n)]
theorem enc_ge {n : Nat} (h : 128 ≤ n) : enc n = (n % 128 + 128) :: enc (n / 128) := by rw [enc, dif_pos h]
theorem enc_lt {n : Nat} (h : ¬128 ≤ n) : enc n = [n] := by rw [enc, dif_neg h]
theorem byt_app (a b : List Nat) : byt (a ++ b) = byt a ++ byt b := List.map_append
theorem byt_len (l : List Nat) : (byt l).length = l.length := List.length_map _
theorem byt_all (l : List Nat) : ∀ y ∈ byt l, y.length = 1 := by
  intro y hy
  obtain ⟨n, _, rfl⟩ := List.mem_map.1 hy
  rfl
theorem enc_len (k : Nat) : ∀ n, n < 128 ^ (k + 1) → (enc n).length ≤ k + 1 := by
  induction k with
  | zero => intro n hn; rw [enc_lt (by omega)]; simp
  | succ k ih =>
    intro n hn
    by_cases h : 128 ≤ n
    · rw [enc_ge h]
      have := ih (n / 128) (by rw [Nat.div_lt_iff_lt_mul (by omega)]; rw [Nat.pow_succ] at hn; omega)
      simp; omega
    · rw [enc_lt h]; simp
theorem enc_len64 {n : Nat} (h : n < 2 ^ 64) : (enc n).length ≤ 10 := enc_len 9 n (by omega)
theorem enc_pos (n : Nat) : 1 ≤ (enc n).length := by
  by_cases h : 128 ≤ n
  · rw [enc_ge h]; simp
  · rw [enc_lt h]; simp
theorem number_pure (n : Nat) (hn : n < 2 ^ 64) : Pure P 24 [.u n] (.t (.sl (byt (enc n)))) := by
  have hlen := enc_len64 hn
  refine pure_of Try.func24 rfl rfl (by simp [Try.f24]) (by simp [bnd]) (by simp [bnd]) fun B hn hnx => ?_
  simp only [Try.f24] at hn ⊢
  refine K_run hn 40 ?_
  simp [go_sem]
  refine K_own 3 1 (by simp [go_sem]) ?_
  refine K_loopP (α := Nat × List Nat × Nat) (fun x => x.2.1 ++ enc x.1 = enc n ∧ x.1 ≤ n) (fun x => ⟨sl [(0, .u x.1), (3, .ref x.2.2)], ob [(x.2.2, .arr 1 (byt x.2.1))], x.2.2 + 1⟩) (fun x => x.1) (n, [], 0)
    (by simp) (Sub.of (by omega) (by simp) (by simp [go_sem, byt]) (by simp [go_sem, byt])) ?_
  rintro ⟨m, l, j⟩ ⟨h1, h2⟩
  simp only at h1 h2
  have hl : l.length + 1 ≤ mostLen := by
    have h3 := congrArg List.length h1
    have h4 := enc_pos m
    simp at h3
    unfold mostLen
    omega
  refine K_run hn 40 ?_
  simp [go_sem]
  refine fork_dec (fun h => ?_) (fun h => ?_)
  · simp [go_sem, byt_all, byt_len, hl]
    refine Next.mk (m / 128, l ++ [m % 128 + 128], j + 1) ⟨?_, ?_⟩ (Sub.of (by omega) (by simp) ?_ ?_) ?_
    · rw [← h1, enc_ge (n := m) (by omega)]; simp
    · simp only; omega
    · simp [go_sem]
      simp (disch := omega) only [Int.tdiv_eq_ediv_of_nonneg, u64]
    · simp [go_sem]
      simp (disch := omega) only [Int.tmod_eq_emod_of_nonneg, u8w]
      simp [byt]
    · simp only; omega
  · simp [go_sem, byt_all, byt_len, hl]
    simp (disch := omega) only [u8w]
    rw [← h1, enc_lt (by omega)]
    simp [byt]
end Go.Proofs.Ytibmjinfdcmbdaa
