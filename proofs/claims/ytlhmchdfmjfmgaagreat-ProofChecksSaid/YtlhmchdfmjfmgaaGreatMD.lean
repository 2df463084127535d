/- Parts of the proof: R19, R20, R21, R22, R23, R24, R25, R26, R29, R32, R33, R35, R36, R37, CT, Num, Root. -/
import Derived.Test.YtlhmchdfmjfmgaaGreatMC
import Derived.Laws.ComplexArith
import Derived.WalkKit
import Derived.ProofKit
import Derived.OpenShut
import Derived.Carry
import Derived.RangeFuncIn
import Derived.Test.YtlhmchdfmjfmgaaGreatProg
import Derived.KernelRfl
set_option linter.unusedVariables false
/- R19: whole numbers as floats: sums, products and conversions of them are exact. No program in sight. -/
namespace Go.Proofs.YtlhmchdfmjfmgaaGreat.R
open Ieee
set_option maxRecDepth 4000

/-- A word that stands for a whole number. -/
def Holds (b : Nat) (z : Int) : Prop := ∃ (s : Bool) (m k : Nat), double.read b = .number s m (-(k : Int)) ∧ m = z.natAbs * 2 ^ k ∧ (z ≠ 0 → s = decide (z < 0))

theorem log2_mul_pow {n k : Nat} (hn : n ≠ 0) : (n * 2 ^ k).log2 = n.log2 + k := by
  have h1 := Nat.log2_self_le hn
  have h2 := Nat.lt_log2_self (n := n)
  have hne : n * 2 ^ k ≠ 0 := Nat.mul_ne_zero hn (Nat.ne_of_gt (Nat.pow_pos (by decide : 0 < 2)))
  refine Nat.le_antisymm ?_ ?_
  · refine Nat.le_of_lt_succ ((Nat.log2_lt hne).2 ?_)
    rw [show (n.log2 + k).succ = n.log2 + 1 + k by omega, Nat.pow_add]
    exact Nat.mul_lt_mul_of_pos_right h2 (Nat.pow_pos (by decide))
  · refine (Nat.le_log2 hne).2 ?_
    rw [Nat.pow_add]
    exact Nat.mul_le_mul_right _ h1

/-- Nothing is cut off. -/
theorem cut_exact (way : Toward) (neg : Bool) (n d : Nat) : way.cut neg (n * 2 ^ d) d = n := by
  rcases Nat.eq_zero_or_pos n with h0 | h0
  · subst h0
    simp only [Toward.cut, Nat.zero_mul, Nat.zero_div, Nat.zero_mod]
    cases way <;> simp
  · have hlog := log2_mul_pow (n := n) (k := d) (by omega)
    have hmin : min d ((n * 2 ^ d).log2 + 2) = d := by omega
    have hp : 0 < 2 ^ d := Nat.pow_pos (by decide)
    simp only [Toward.cut, hmin, Nat.one_shiftLeft, Nat.mul_mod_left, Nat.mul_div_cancel _ hp]
    cases way
    · have h1 : ¬ 2 ^ d < 2 * 0 := by omega
      have h2 : ¬ 2 ^ d = 2 * 0 := by omega
      simp [h1]
    · simp
    · simp
    · simp

theorem read_word (s : Bool) {r : Nat} (h1 : double.binade ≤ r) (h2 : r < double.infRung) : double.read (double.word s r) = .number s (double.binade + r % double.binade) (double.leastPlace + (r / double.binade - 1 : Nat)) := by
  have hs : r < double.signWeight := Nat.lt_trans h2 double.infRung_lt
  have e1 : double.word s r / double.signWeight % 2 = s.toNat ∧ double.word s r % double.signWeight = r := by
    have hp : 0 < double.signWeight := by omega
    cases s
    · simp [Format.word, Nat.div_eq_of_lt hs, Nat.mod_eq_of_lt hs]
    · simp [Format.word, Nat.add_div_left, hp, Nat.div_eq_of_lt hs, Nat.mod_eq_of_lt hs]
  unfold Format.read
  simp only [e1.1, e1.2, if_neg (show ¬ r < double.binade by omega), if_pos h2]
  cases s <;> rfl
theorem read_zero (s : Bool) : double.read (double.word s 0) = .number s 0 (-(1074 : Nat)) := by
  cases s <;> decide +kernel

/-- Writing a whole number is exact. -/
theorem write_holds (s : Bool) (n k : Nat) (hn : n < 2 ^ 53) (z : Int) (hz : z.natAbs = n) (hs : z ≠ 0 → s = decide (z < 0)) : Holds (double.write (.number s (n * 2 ^ k) (-(k : Int)))) z := by
  have hb : double.binade = 2 ^ 52 := rfl
  have hf : double.fractionBits = 52 := rfl
  have hl : double.leastPlace = -1074 := by decide
  have hi : double.infRung = 2047 * 2 ^ 52 := by decide
  rcases Nat.eq_zero_or_pos n with h0 | h0
  · subst h0
    have e1 : double.write (.number s (0 * 2 ^ k) (-(k : Int))) = double.word s 0 := by simp [Format.write, Format.nearest]
    rw [e1]
    exact ⟨s, 0, 1074, read_zero s, by rw [hz]; omega, hs⟩
  · have hne : n * 2 ^ k ≠ 0 := Nat.mul_ne_zero (by omega) (Nat.ne_of_gt (Nat.pow_pos (by decide : 0 < 2)))
    have hlog := log2_mul_pow (n := n) (k := k) (by omega)
    have hL : n.log2 ≤ 52 := by
      have := (Nat.log2_lt (by omega : n ≠ 0)).2 hn
      omega
    have hlo := Nat.log2_self_le (n := n) (by omega)
    have hhi := Nat.lt_log2_self (n := n)
    generalize hLL : n.log2 = L at *
    have hlast : max (-(k : Int) + ((L + k : Nat) : Int) - ((52 : Nat) : Int)) (-1074) = (L : Int) - 52 := by omega
    have hkept : Toward.even.cut s ((n * 2 ^ k) <<< (-(k : Int) - ((L : Int) - 52)).toNat) (((L : Int) - 52) - -(k : Int)).toNat = n * 2 ^ (52 - L) := by
      by_cases hle : (L : Int) - 52 ≤ -(k : Int)
      · have h1 : (((L : Int) - 52) - -(k : Int)).toNat = 0 := by omega
        rw [h1, Nat.shiftLeft_eq]
        have := cut_exact .even s (n * 2 ^ k * 2 ^ (-(k : Int) - ((L : Int) - 52)).toNat) 0
        rw [Nat.pow_zero, Nat.mul_one] at this
        rw [this, Nat.mul_assoc, ← Nat.pow_add]
        congr 2
        omega
      · have h1 : (-(k : Int) - ((L : Int) - 52)).toNat = 0 := by omega
        rw [h1, Nat.shiftLeft_eq, Nat.pow_zero, Nat.mul_one]
        have h2 : n * 2 ^ k = n * 2 ^ (52 - L) * 2 ^ (((L : Int) - 52) - -(k : Int)).toNat := by
          rw [Nat.mul_assoc, ← Nat.pow_add]
          congr 2
          omega
        rw [h2]
        exact cut_exact .even s _ _
    have e2 : 2 ^ L * 2 ^ (52 - L) = 2 ^ 52 := by rw [← Nat.pow_add]; congr 1; omega
    have g1 : 2 ^ 52 ≤ n * 2 ^ (52 - L) := by rw [← e2]; exact Nat.mul_le_mul_right _ hlo
    have g2 : n * 2 ^ (52 - L) < 2 ^ 53 := by
      have e3 : 2 ^ (L + 1) * 2 ^ (52 - L) = 2 ^ 53 := by rw [← Nat.pow_add]; congr 1; omega
      rw [← e3]
      exact Nat.mul_lt_mul_of_pos_right hhi (Nat.pow_pos (by decide))
    have c52 : 2 ^ 52 = 4503599627370496 := by decide
    have c53 : 2 ^ 53 = 9007199254740992 := by decide
    rw [c52] at g1
    rw [c53] at g2
    generalize hM : n * 2 ^ (52 - L) = M at *
    have hb' : double.binade = 4503599627370496 := by decide
    have hi' : double.infRung = 9218868437227405312 := by decide
    obtain ⟨r, hr⟩ : ∃ r, r = (L + 1022) * 4503599627370496 + M := ⟨_, rfl⟩
    clear c52 c53 e2 hlo hhi hb hi hn
    have r1 : 4503599627370496 ≤ r := by omega
    have r2 : r < 9218868437227405312 := by omega
    have r3 : ((L : Int) - 52 - -1074).toNat = L + 1022 := by omega
    have e1 : double.write (.number s (n * 2 ^ k) (-(k : Int))) = double.word s r := by
      simp only [Format.write, Format.nearest, if_neg hne, hlog, hf, hl, hlast, hkept, hb', hi', r3]
      rw [← hr, Nat.min_eq_left (Nat.le_of_lt r2)]
    have d1 : 4503599627370496 + r % 4503599627370496 = M := by omega
    have d2 : r / 4503599627370496 - 1 = L + 1022 := by omega
    have er := read_word s (r := r) (by rw [hb']; exact r1) (by rw [hi']; exact r2)
    rw [hb', hl, d1, d2] at er
    have e5 : -1074 + ((L + 1022 : Nat) : Int) = -((52 - L : Nat) : Int) := by omega
    rw [e5, ← e1] at er
    exact ⟨s, M, 52 - L, er, by rw [hz, hM], hs⟩

theorem nearest_holds (z : Int) (h : z.natAbs < 2 ^ 53) : Holds (FloatKind.nearest .f64 z) z := by
  have := write_holds (decide (z < 0)) z.natAbs 0 h z rfl (fun _ => rfl)
  simpa [FloatKind.nearest, FloatKind.encode, FloatKind.format] using this

theorem signed_eq {s : Bool} {z : Int} {k j : Nat} (hs : z ≠ 0 → s = decide (z < 0)) : signed s (z.natAbs * 2 ^ k) j = z * (2 : Int) ^ (k + j) := by
  have hp : ((2 ^ (k + j) : Nat) : Int) = (2 : Int) ^ (k + j) := by rw [Int.natCast_pow]; rfl
  have e1 : ((z.natAbs * 2 ^ k) <<< j : Nat) = z.natAbs * 2 ^ (k + j) := by rw [Nat.shiftLeft_eq, Nat.mul_assoc, ← Nat.pow_add]
  unfold signed
  rw [e1, ← hp, Int.natCast_mul]
  by_cases h0 : z = 0
  · subst h0; simp
  · rw [hs h0]
    by_cases hn : z < 0
    · simp only [hn, decide_true, if_true]
      rw [← Int.neg_mul]
      congr 1
      omega
    · simp only [hn, decide_false]
      have : (z.natAbs : Int) = z := by omega
      rw [this]; rfl

theorem sum_holds {d e : Datum} {s t : Bool} {x y : Int} {k j : Nat} (hd : d = .number s (x.natAbs * 2 ^ k) (-(k : Int))) (he : e = .number t (y.natAbs * 2 ^ j) (-(j : Int))) (hs : x ≠ 0 → s = decide (x < 0)) (ht : y ≠ 0 → t = decide (y < 0))
    (h : (x + y).natAbs < 2 ^ 53) : ∃ b, (d.sum e).map double.write = some b ∧ Holds b (x + y) := by
  subst hd he
  have hmin : min (-(k : Int)) (-(j : Int)) = -((max k j : Nat) : Int) := by omega
  have h1 : (-(k : Int) - -((max k j : Nat) : Int)).toNat = max k j - k := by omega
  have h2 : (-(j : Int) - -((max k j : Nat) : Int)).toNat = max k j - j := by omega
  have e1 : signed s (x.natAbs * 2 ^ k) (max k j - k) = x * (2 : Int) ^ (max k j) := by rw [signed_eq hs]; congr 2; omega
  have e2 : signed t (y.natAbs * 2 ^ j) (max k j - j) = y * (2 : Int) ^ (max k j) := by rw [signed_eq ht]; congr 2; omega
  have e3 : x * (2 : Int) ^ (max k j) + y * (2 : Int) ^ (max k j) = (x + y) * (2 : Int) ^ (max k j) := by rw [Int.add_mul]
  have hp : (0 : Int) < (2 : Int) ^ (max k j) := Int.pow_pos (by decide)
  have e4 : ((x + y) * (2 : Int) ^ (max k j)).natAbs = (x + y).natAbs * 2 ^ (max k j) := by rw [Int.natAbs_mul, Int.natAbs_pow]; rfl
  simp only [Datum.sum, hmin, h1, h2, e1, e2, e3, Option.map_some, e4]
  refine ⟨_, rfl, write_holds _ _ _ h _ rfl fun hne => ?_⟩
  have hne2 : ¬ (x + y) * (2 : Int) ^ (max k j) = 0 := fun h0 => (Int.mul_eq_zero.1 h0).elim hne (fun h => by omega)
  rw [if_neg hne2]
  by_cases hneg : x + y < 0
  · have := Int.mul_neg_of_neg_of_pos hneg hp
    simp [hneg, this]
  · have := Int.mul_nonneg (show 0 ≤ x + y by omega) (Int.le_of_lt hp)
    simp [hneg]; omega
theorem add_holds {a b : Nat} {x y : Int} (ha : Holds a x) (hb : Holds b y) (h : (x + y).natAbs < 2 ^ 53) : ∃ r, floatBits .add .f64 a b = some r ∧ Holds r (x + y) := by
  obtain ⟨s, m, k, h1, rfl, h3⟩ := ha
  obtain ⟨t, n, j, g1, rfl, g3⟩ := hb
  exact sum_holds h1 g1 h3 g3 h
theorem sub_holds {a b : Nat} {x y : Int} (ha : Holds a x) (hb : Holds b y) (h : (x - y).natAbs < 2 ^ 53) : ∃ r, floatBits .sub .f64 a b = some r ∧ Holds r (x - y) := by
  obtain ⟨s, m, k, h1, rfl, h3⟩ := ha
  obtain ⟨t, n, j, g1, rfl, g3⟩ := hb
  have e1 : (double.read b).opposite = .number (!t) ((-y).natAbs * 2 ^ j) (-(j : Int)) := by rw [g1]; simp [Datum.opposite]
  have := sum_holds (x := x) (y := -y) h1 e1 h3 (fun hy => by
    have hy' : y ≠ 0 := fun h => hy (by omega)
    rw [g3 hy']
    by_cases hn : y < 0 <;> simp [hn] <;> omega) (by rw [← Int.sub_eq_add_neg]; exact h)
  rw [← Int.sub_eq_add_neg] at this
  exact this
theorem mul_holds {a b : Nat} {x y : Int} (ha : Holds a x) (hb : Holds b y) (h : (x * y).natAbs < 2 ^ 53) : ∃ r, floatBits .mul .f64 a b = some r ∧ Holds r (x * y) := by
  obtain ⟨s, m, k, h1, rfl, h3⟩ := ha
  obtain ⟨t, n, j, g1, rfl, g3⟩ := hb
  have e1 : x.natAbs * 2 ^ k * (y.natAbs * 2 ^ j) = (x * y).natAbs * 2 ^ (k + j) := by rw [Int.natAbs_mul, Nat.pow_add]; ac_rfl
  have e2 : -(k : Int) + -(j : Int) = -((k + j : Nat) : Int) := by omega
  refine ⟨double.write (.number (s ^^ t) ((x * y).natAbs * 2 ^ (k + j)) (-((k + j : Nat) : Int))), ?_, write_holds _ _ _ h _ rfl fun hne => ?_⟩
  · show ((double.read a).product (double.read b)).map double.write = _
    rw [h1, g1]
    simp only [Datum.product, Option.map_some, e1, e2]
  · have hx : x ≠ 0 := fun h0 => hne (by rw [h0, Int.zero_mul])
    have hy : y ≠ 0 := fun h0 => hne (by rw [h0, Int.mul_zero])
    rw [h3 hx, g3 hy]
    by_cases hx1 : x < 0 <;> by_cases hy1 : y < 0
    · have := Int.mul_pos_of_neg_of_neg hx1 hy1
      simp [hx1, hy1]; omega
    · have := Int.mul_neg_of_neg_of_pos hx1 (show 0 < y by omega)
      simp [hx1, hy1, this]
    · have := Int.mul_neg_of_pos_of_neg (show 0 < x by omega) hy1
      simp [hx1, hy1, this]
    · have := Int.mul_pos (show 0 < x by omega) (show 0 < y by omega)
      simp [hx1, hy1]; omega
theorem neg_holds {a : Nat} {x : Int} (ha : Holds a x) : Holds (Op.negFloat .f64 a) (-x) := by
  obtain ⟨s, m, k, h1, h2, h3⟩ := ha
  have e0 : double.read (Op.negFloat .f64 a) = (double.read a).opposite := by
    have hsw : double.signWeight = 2 ^ 63 := rfl
    have e1 : Op.negFloat .f64 a = a ^^^ 2 ^ 63 := rfl
    have e2 : (a ^^^ 2 ^ 63) % 2 ^ 63 = a % 2 ^ 63 := by rw [Nat.xor_mod_two_pow, Nat.mod_self, Nat.xor_zero]
    have e3 : (a ^^^ 2 ^ 63) / 2 ^ 63 % 2 = 1 - a / 2 ^ 63 % 2 := by
      rw [Nat.xor_div_two_pow, Nat.div_self (Nat.pow_pos (by decide))]
      have := Nat.xor_mod_two_pow (a := a / 2 ^ 63) (b := 1) (n := 1)
      rw [Nat.pow_one] at this
      rw [this]
      rcases Nat.mod_two_eq_zero_or_one (a / 2 ^ 63) with h | h <;> rw [h] <;> rfl
    have e4 : ((1 - a / 2 ^ 63 % 2) == 1) = !((a / 2 ^ 63 % 2) == 1) := by
      rcases Nat.mod_two_eq_zero_or_one (a / 2 ^ 63) with h | h <;> rw [h] <;> rfl
    rw [e1]
    unfold Format.read
    rw [hsw]
    simp only [e2, e3, e4]
    split
    · rfl
    · split
      · rfl
      · split <;> rfl
  refine ⟨!s, m, k, by rw [e0, h1]; rfl, by rw [h2, Int.natAbs_neg], fun hne => ?_⟩
  have hx : x ≠ 0 := fun h => hne (by omega)
  rw [h3 hx]
  by_cases hn : x < 0 <;> simp [hn] <;> omega
theorem toInt_holds {a : Nat} {x : Int} (ha : Holds a x) (h : -9223372036854775808 ≤ x ∧ x ≤ 9223372036854775807) : floatToIntVal .f64 a .i64 = some x := by
  obtain ⟨s, m, k, h1, rfl, h3⟩ := ha
  have e1 : FloatKind.decode .f64 a = .number s (x.natAbs * 2 ^ k) (-(k : Int)) := h1
  have e2 : (-(k : Int)).toNat = 0 := by omega
  have e3 : (-(-(k : Int))).toNat = k := by omega
  have e4 : (Datum.number s (x.natAbs * 2 ^ k) (-(k : Int))).toInt .zero = some x := by
    simp only [Datum.toInt, Datum.integral, e2, e3, Nat.shiftLeft_eq, Nat.pow_zero, Nat.mul_one, cut_exact]
    have := signed_eq (s := s) (z := x) (k := 0) (j := 0) h3
    rw [Nat.pow_zero, Nat.mul_one] at this
    rw [this]
    simp
  have hmin : IntKind.i64.min = -9223372036854775808 := by decide
  have hmax : IntKind.i64.max = 9223372036854775807 := by decide
  unfold floatToIntVal
  rw [e1, e4]
  simp only [hmin, hmax, if_pos h]
/-- How far, squared. -/
theorem far_holds {a b c d : Nat} {x y u v : Int} (ha : Holds a x) (hb : Holds b y) (hc : Holds c u) (hd : Holds d v) (hx : 0 ≤ x ∧ x ≤ 10000) (hy : 0 ≤ y ∧ y ≤ 10000) (hu : 0 ≤ u ∧ u ≤ 10000) (hv : 0 ≤ v ∧ v ≤ 10000) :
    ∃ re im re2 im2, cSumBits .sub .f64 a b c d = some (re, im) ∧ cMulBits re im re (Op.negFloat .f64 im) = some (re2, im2) ∧ Holds re2 ((x - u) * (x - u) + (y - v) * (y - v)) := by
  obtain ⟨re, e1, g1⟩ := sub_holds ha hc (by omega)
  obtain ⟨im, e2, g2⟩ := sub_holds hb hd (by omega)
  have hp : -10000 ≤ x - u ∧ x - u ≤ 10000 := by omega
  have hq : -10000 ≤ y - v ∧ y - v ≤ 10000 := by omega
  generalize x - u = p at *
  generalize y - v = q at *
  have bd : ∀ m n : Int, -10000 ≤ m ∧ m ≤ 10000 → -10000 ≤ n ∧ n ≤ 10000 → (m * n).natAbs ≤ 100000000 := fun m n h1 h2 => by
    rw [Int.natAbs_mul]
    exact Nat.mul_le_mul (show m.natAbs ≤ 10000 by omega) (show n.natAbs ≤ 10000 by omega)
  have g3 := neg_holds g2
  have b1 := bd p p hp hp
  have b2 := bd q (-q) hq (by omega)
  have b3 := bd p (-q) hp (by omega)
  have b4 := bd q p hq hp
  obtain ⟨m1, e3, k1⟩ := mul_holds g1 g1 (by omega)
  obtain ⟨m2, e4, k2⟩ := mul_holds g2 g3 (by omega)
  obtain ⟨m3, e5, k3⟩ := sub_holds k1 k2 (by omega)
  obtain ⟨m4, e6, k4⟩ := mul_holds g1 g3 (by omega)
  obtain ⟨m5, e7, k5⟩ := mul_holds g2 g1 (by omega)
  obtain ⟨m6, e8, k6⟩ := add_holds k4 k5 (by omega)
  refine ⟨re, im, m3, m6, ?_, ?_, ?_⟩
  · simp only [cSumBits, e1, e2, Option.bind_some]
  · simp only [cMulBits, e3, e4, e5, e6, e7, e8, Option.bind_some]
  · have : p * p - q * -q = p * p + q * q := by rw [Int.mul_neg]; omega
    rw [← this]
    exact k3
end Go.Proofs.YtlhmchdfmjfmgaaGreat.R

/- R20: operations that give a plain value by a law of their own (floats, complex numbers). -/
namespace Go.Proofs.YtlhmchdfmjfmgaaGreat.R
open Go.RowKit

/-- What an operation gives, whatever the memory. -/
def Gives (P : Program) (o : Oper) (m : Slots) (u : Value) : Prop :=
  plainV u = true ∧ ∀ (ρ : Operand → Value) (w : World), (∀ x ∈ o.op.operands.toList, ∀ v, ev m x = .t (.v v) → ρ x = v) → (execOp ρ o).run P w = .ok (.value u) w

section
variable {P : Program} {B : Base} {k : List KI} {R : Post} {s : St} {all : Array Oper} {o : Oper} {rest : List Oper} {u : Value}
theorem K_val (hg : o.guard = none) (hd : dOk B.n o.dst = true) (h : Gives P o s.m u) (hk : Kp P B (.ops all rest :: k) R .normal ⟨put s.m o.dst (.t (.v u)), s.σ, s.nx⟩) : Kp P B (.ops all (o :: rest) :: k) R .normal s := by
  intro a w hr
  refine wpL_plain hg fun K hK => ?_
  obtain ⟨C, h1, h2, h3, h4, h5, h6⟩ := hr
  have hrun := h.2 a.eval w fun x _ v hx => by
    have := ev_rep h2 x
    rw [hx] at this
    exact (rep_v this).1
  refine owp_value hrun ?_
  exact hK _ _ (hk _ _ ⟨C, h1, put_rep h5 (Step.refl _ _ _) h2 (by rw [h3]; exact hd) (.t (.v h.1)), by rw [put_size]; exact h3, by rw [put_def]; exact h4, h5, h6⟩)
theorem does_val {n i : Nat} {m : Slots} (ho : all[i]? = some o) (hl : lets all m o = some true) (h : Gives P o m u) (σ : Nat → AObj) (nx : Nat) : Does P n all i m σ nx (.t (.v u)) σ nx := by
  intro C a w hn hs hsz hr ro K Q hK
  have hrun := h.2 a.eval w fun x hx v hv => by
    have := ev_rep hr x
    rw [mask_ev ho x hx, hv] at this
    exact (rep_v this).1
  have hd : dstOf all i = o.dst := by simp [dstOf, ho]
  simp only [wpO, wpOpIn, ho, lets_wanted ho hr hl, if_true]
  refine owp_value hrun ?_
  rw [hd] at hK
  exact hK _ _ C hs hn (Step.refl _ _ _) (.t (.v h.1))
theorem K_dVal {lo : List Nat} {sw : SW} {rest : List (Nat × Oper)} {i : Nat} {pend : List Rc} (hl : lets all s.m o = some true) (h : Gives P o s.m u) (hk : Kp P B (.opsD all lo sw rest pend :: k) R .normal ⟨put s.m o.dst (.t (.v u)), s.σ, s.nx⟩) : Kp P B (.opsD all lo sw ((i, o) :: rest) pend :: k) R .normal s :=
  Chain.at fun ho => Chain.step (loud := none) (does_val ho hl h _ _) (fun _ => .inl (does_val ho hl h)) (fun c hc => by cases hc) (fun _ h => h) hk
end

/-- A region in which all that looks is tied to all that is loud. -/
theorem K_drawnT {P : Program} {B : Base} {k : List KI} {R : Post} {s : St} {all : Array Oper} {id : Nat} (lo : List Nat) (hm : P.follows .mixedOrders = true) (hst : statOK all B.n lo = true) (ht : (List.range all.size).all (tied all lo) = true)
    (h : (∀ i, i < all.size → tied all lo i = true) → Kp P B (.opsD all lo none (num 0 all.toList) [] :: k) R .normal s) : Kp P B (.code (.region id all true) :: k) R .normal s :=
  K_drawn lo hm hst (h fun i hi => List.all_eq_true.1 ht i (List.mem_range.2 hi))
/-- A region in which but the named looks are tied to all that is loud; these float. -/
theorem K_drawnF {P : Program} {B : Base} {k : List KI} {R : Post} {s : St} {all : Array Oper} {id : Nat} (lo fl : List Nat) (hm : P.follows .mixedOrders = true) (hst : statOK all B.n lo = true) (ht : ((List.range all.size).all (fun i => tied all lo i == !fl.contains i) && fl.all (fun i => lo.contains i || flo all lo i)) = true)
    (h : (∀ i, i < all.size → tied all lo i = !fl.contains i) → (∀ i, i ∈ fl → i ∉ lo → flo all lo i = true) → Kp P B (.opsD all lo none (num 0 all.toList) [] :: k) R .normal s) : Kp P B (.code (.region id all true) :: k) R .normal s := by
  rw [Bool.and_eq_true] at ht
  exact K_drawn lo hm hst (h (fun i hi => eq_of_beq (List.all_eq_true.1 ht.1 i (List.mem_range.2 hi))) (fun i hi hn => by
    have := List.all_eq_true.1 ht.2 i hi
    simpa [hn] using this))
/-- The same, where two loud ones may change places. -/
theorem K_drawnP {P : Program} {B : Base} {k : List KI} {R : Post} {s : St} {all : Array Oper} {id : Nat} (lo fl : List Nat) (a1 b1 : Nat) (hlt : a1 < b1) (hm : P.follows .mixedOrders = true) (hst : statS all B.n lo (some (a1, b1, false)) = true) (ht : ((List.range all.size).all (fun i => tied all lo i == !fl.contains i) && fl.all (fun i => lo.contains i || flo all lo i)) = true)
    (h : (∀ i, i < all.size → tied all lo i = !fl.contains i) → (∀ i, i ∈ fl → i ∉ lo → flo all lo i = true) → Kp P B (.opsD all lo (some (a1, b1, false)) (num 0 all.toList) [] :: k) R .normal s) : Kp P B (.code (.region id all true) :: k) R .normal s := by
  rw [Bool.and_eq_true] at ht
  exact K_drawn2 lo a1 b1 hlt hm hst (h (fun i hi => eq_of_beq (List.all_eq_true.1 ht.1 i (List.mem_range.2 hi))) (fun i hi hn => by
    have := List.all_eq_true.1 ht.2 i hi
    simpa [hn] using this))
def loosen : AV → AV
  | .fsl es => .t (.sl es)
  | .agg cs => .agg (loosenL cs)
  | a => a
  where
  loosenL : List AV → List AV
  | [] => []
  | c :: cs => loosen c :: loosenL cs
theorem loosenL_get : ∀ {cs : List AV} {k : Nat} {a : AV}, (loosen.loosenL cs)[k]? = some a → ∃ b, cs[k]? = some b ∧ a = loosen b
  | [], k, a, h => by simp [loosen.loosenL] at h
  | c :: cs, k, a, h => by
    cases k with
    | zero => simp [loosen.loosenL] at h; exact ⟨c, rfl, h.symm⟩
    | succ k =>
      simp only [loosen.loosenL, List.getElem?_cons_succ] at h
      obtain ⟨b, h1, h2⟩ := loosenL_get h
      exact ⟨b, by simpa using h1, h2⟩
theorem loosenL_length : ∀ (cs : List AV), (loosen.loosenL cs).length = cs.length
  | [] => rfl
  | c :: cs => by simp only [loosen.loosenL, List.length_cons, loosenL_length cs]
theorem loosen_rep {w : World} {C : Ctx} {x : AV} {v : Value} (h : RepA w C x v) : RepA w C (loosen x) v := by
  induction h with
  | agg hl _ ih =>
    simp only [loosen]
    refine .agg (by rw [loosenL_length]; exact hl) fun k a u ha hu => ?_
    obtain ⟨b, h1, rfl⟩ := loosenL_get ha
    exact ih k b u h1 hu
  | fsl h => exact .t h
  | t h => exact .t h
  | tup a b _ => exact .tup a b
  | ref a b => exact .ref a b
  | ptr a b => exact .ptr a b
  | rd a b c => exact .rd a b c
  | el a b c => exact .el a b c
  | cut a b c => exact .cut a b c
  | mapr a b => exact .mapr a b
  | yld a b => exact .yld a b
  | fn a b c d _ _ => exact .fn a b c d
  | any => exact .any
/-- Less is said of the slots. -/
theorem Imp.loose {B : Base} {s : St} : Imp B s ⟨fun i => loosen (s.m i), s.σ, s.nx⟩ := by
  intro a w hr
  obtain ⟨C, h1, h2, h3, h4, h5, h6⟩ := hr
  exact ⟨C, h1, fun t => loosen_rep (h2 t), h3, h4, h5, h6⟩
theorem CallSpec.loose {P : Program} {f : FuncId} {args : List AV} {σ : Nat → AObj} {nx : Nat} {r : AV} {σ' : Nat → AObj} {nx' : Nat} (h : CallSpec P f (args.map loosen) σ nx r σ' nx') : CallSpec P f args σ nx r σ' nx' := by
  refine ⟨h.1, fun C w vs h1 h2 h3 => h.2 C w vs h1 h2 ⟨by rw [List.length_map]; exact h3.1, fun k a u ha hu => ?_⟩⟩
  rw [List.getElem?_map] at ha
  obtain ⟨b, hb, rfl⟩ := Option.map_eq_some_iff.1 ha
  exact loosen_rep (h3.2 k b u hb hu)
theorem Pure.loose {P : Program} {f : FuncId} {args : List AV} {r : AV} (h : Pure P f (args.map loosen) r) (hb : args.all (bnd 0) = true) : Pure P f args r :=
  ⟨fun a ha => List.all_eq_true.1 hb a ha, h.2.1, CallSpec.loose h.2.2⟩

section
variable {P : Program} {o : Oper} {m : Slots}
theorem gives_toFloat {t d : TypeId} {x : Operand} {q : IntKind} {n : Int} {i : TI} {f : TI} (ho : o.op = .convert t d x) (hx : ev m x = .t (.v (.int q n))) (ht : TT P t = some i) (hd : TT P d = some f) (hf : f.desc = .float .f64) : Gives P o m (.float .f64 (FloatKind.nearest .f64 n)) := by
  refine ⟨rfl, fun ρ w h => ?_⟩
  have e := h x (by rw [ho]; simp [Op.operands]) _ hx
  have hu : P.underlying d = some (.float .f64) := by rw [(tt_some hd).1, hf]
  simp only [execOp, ho, e, Sem.run_bind, run_convert_int_float w t d q .f64 n (by rw [(tt_some ht).1]; rfl) hu, Result.andThen_ok, Sem.run_pure]
  rfl
theorem gives_toInt {t d : TypeId} {x : Operand} {b : Nat} {n : Int} {i : TI} {f : TI} (ho : o.op = .convert t d x) (hx : ev m x = .t (.v (.float .f64 b))) (ht : TT P t = some i) (hd : TT P d = some f) (hf : f.desc = .int .i64) (hn : floatToIntVal .f64 b .i64 = some n) : Gives P o m (.int .i64 n) := by
  refine ⟨rfl, fun ρ w h => ?_⟩
  have e := h x (by rw [ho]; simp [Op.operands]) _ hx
  have hu : P.underlying d = some (.int .i64) := by rw [(tt_some hd).1, hf]
  simp only [execOp, ho, e, Sem.run_bind, run_convert_float_int w t d .f64 .i64 b n (by rw [(tt_some ht).1]; rfl) hu hn, Result.andThen_ok, Sem.run_pure]
theorem gives_csub {t t' : TypeId} {x y : Operand} {a b c d re im : Nat} (ho : o.op = .binOp .sub t x y t') (hx : ev m x = .t (.v (.complex .f64 a b))) (hy : ev m y = .t (.v (.complex .f64 c d))) (hn : cSumBits .sub .f64 a b c d = some (re, im)) : Gives P o m (.complex .f64 re im) := by
  refine ⟨rfl, fun ρ w h => ?_⟩
  have e := h x (by rw [ho]; simp [Op.operands]) _ hx
  have e2 := h y (by rw [ho]; simp [Op.operands]) _ hy
  simp [execOp, ho, e, e2, eqGuard, run_complex_sum w .sub (.inr rfl) t .f64 a b c d re im hn]
theorem gives_cmul {t t' : TypeId} {x y : Operand} {a b c d re im : Nat} (ho : o.op = .binOp .mul t x y t') (hx : ev m x = .t (.v (.complex .f64 a b))) (hy : ev m y = .t (.v (.complex .f64 c d))) (hn : cMulBits a b c d = some (re, im)) : Gives P o m (.complex .f64 re im) := by
  refine ⟨rfl, fun ρ w h => ?_⟩
  have e := h x (by rw [ho]; simp [Op.operands]) _ hx
  have e2 := h y (by rw [ho]; simp [Op.operands]) _ hy
  simp [execOp, ho, e, e2, eqGuard, run_complex_mul w t a b c d re im hn]
theorem gives_neg {t : TypeId} {x : Operand} {b : Nat} (ho : o.op = .unOp .neg t x) (hx : ev m x = .t (.v (.float .f64 b))) : Gives P o m (.float .f64 (Op.negFloat .f64 b)) := by
  refine ⟨rfl, fun ρ w h => ?_⟩
  have e := h x (by rw [ho]; simp [Op.operands]) _ hx
  simp [execOp, ho, e, Op.unary]
theorem gives_real {c : Call} {x : Operand} {a b : Nat} (ho : o.op = .call c) (hc : c.callee = .builtin .real) (hcx : c.args = #[x]) (hx : ev m x = .t (.v (.complex .f64 a b))) : Gives P o m (.float .f64 a) := by
  refine ⟨rfl, fun ρ w h => ?_⟩
  have e := h x (by rw [ho]; simp [Op.operands, Call.operands, hcx]) _ hx
  simp [execOp, ho, resolve, hc, hcx, e, invoke, builtin, run_real]
theorem gives_imag {c : Call} {x : Operand} {a b : Nat} (ho : o.op = .call c) (hc : c.callee = .builtin .imag) (hcx : c.args = #[x]) (hx : ev m x = .t (.v (.complex .f64 a b))) : Gives P o m (.float .f64 b) := by
  refine ⟨rfl, fun ρ w h => ?_⟩
  have e := h x (by rw [ho]; simp [Op.operands, Call.operands, hcx]) _ hx
  simp [execOp, ho, resolve, hc, hcx, e, invoke, builtin, run_imag]
theorem gives_complex {c : Call} {x y : Operand} {a b : Nat} (ho : o.op = .call c) (hc : c.callee = .builtin .complex) (hcx : c.args = #[x, y]) (hx : ev m x = .t (.v (.float .f64 a))) (hy : ev m y = .t (.v (.float .f64 b))) : Gives P o m (.complex .f64 a b) := by
  refine ⟨rfl, fun ρ w h => ?_⟩
  have e := h x (by rw [ho]; simp [Op.operands, Call.operands, hcx]) _ hx
  have e2 := h y (by rw [ho]; simp [Op.operands, Call.operands, hcx]) _ hy
  simp [execOp, ho, resolve, hc, hcx, e, e2, invoke, builtin, run_complex]
end
end Go.Proofs.YtlhmchdfmjfmgaaGreat.R

/- R21: a scope with more labels that are jumped to. -/
namespace Go.Proofs.YtlhmchdfmjfmgaaGreat.R
open Go.RowKit
section
variable {P : Program} {B : Base} {k : List KI} {R : Post} {s : St}
/-- What stands behind a label. -/
def behind (c : Code) (l : Nat) : Code := (findLabel c l).getD .skip
theorem K_scopeL {α : Type} {c : Code} (lab : α → Nat) (I : α → Prop) (st : α → St) (μ : α → Nat) (hf : ∀ x, I x → (findLabel c (lab x)).isSome = true)
    (first : Kp P B (.code c :: .lab (fun l' s' => ∃ y, I y ∧ lab y = l' ∧ Imp B s' (st y)) :: k) R .normal s)
    (pass : ∀ x, I x → Kp P B (.code (behind c (lab x)) :: .lab (fun l' s' => ∃ y, I y ∧ lab y = l' ∧ Imp B s' (st y) ∧ μ y < μ x) :: k) R .normal (st x)) : Kp P B (.code (.scope c) :: k) R .normal s := by
  intro ac w hr
  refine cwp_scope_many (fun (x : {a // I a}) a w => Rel B (st x.1) a w) (fun x => lab x.1) (fun x => μ x.1) (behind c) (fun x => ?_) (cwp_mono (first ac w hr) fun e a' w' hp => ?_) fun x a w hx => cwp_mono (pass x.1 x.2 a w hx) fun e a' w' hp => ?_
  · obtain ⟨z, hz⟩ := Option.isSome_iff_exists.1 (hf x.1 x.2)
    rw [behind, hz]; rfl
  · obtain ⟨s', h1, h2⟩ := hp
    cases e with
    | goto l' => obtain ⟨y, h3, h0, h4⟩ := h1; exact ⟨⟨y, h3⟩, h0, h4 _ _ h2⟩
    | _ => exact ⟨s', h1, h2⟩
  · obtain ⟨s', h1, h2⟩ := hp
    cases e with
    | goto l' => obtain ⟨y, h3, h0, h4, h5⟩ := h1; exact ⟨⟨y, h3⟩, h0, h4 _ _ h2, h5⟩
    | _ => exact ⟨s', h1, h2⟩
/-- What stands behind a label, where that stands ahead of the rest. -/
def tailC (c : Code) (l : Nat) : Code := match findLabel c l with
  | some (.seq .skip n) => n
  | _ => .skip
/-- A scope whose labels are jumped to, or run into. -/
theorem K_scopeF {α : Type} {c : Code} (lab : α → Nat) (I : α → Prop) (st : α → St) (μ : α → Nat) (hf : ∀ x, I x → findLabel c (lab x) = some (.seq .skip (tailC c (lab x))))
    (pass : ∀ x, I x → (∀ l' s', (∃ y, I y ∧ lab y = l' ∧ Imp B s' (st y) ∧ μ y < μ x) → Kp P B (.code (.seq (.label l') (tailC c l')) :: .lab (fun l' s' => ∃ y, I y ∧ lab y = l' ∧ Imp B s' (st y) ∧ μ y < μ x) :: k) R .normal s') →
      Kp P B (.code (tailC c (lab x)) :: .lab (fun l' s' => ∃ y, I y ∧ lab y = l' ∧ Imp B s' (st y) ∧ μ y < μ x) :: k) R .normal (st x))
    (first : ∀ J : Nat → St → Prop, (∀ l' s', (∃ y, I y ∧ lab y = l' ∧ Imp B s' (st y)) → Kp P B (.code (.seq (.label l') (tailC c l')) :: .lab J :: k) R .normal s') → Kp P B (.code c :: .lab J :: k) R .normal s) : Kp P B (.code (.scope c) :: k) R .normal s := by
  have key : ∀ n x, μ x = n → I x → Kp P B (.code (tailC c (lab x)) :: .lab (fun l' s' => ∃ y, I y ∧ lab y = l' ∧ Imp B s' (st y) ∧ μ y < μ x) :: k) R .normal (st x) := by
    intro n
    induction n using Nat.strongRecOn with
    | _ n ih =>
      intro x hn hx
      refine pass x hx ?_
      rintro l' s' ⟨y, hy, hl, hi, hm⟩
      subst hl
      refine K_seq (K_label (K_less hi (K_lab_mono ?_ (ih (μ y) (by omega) y rfl hy))))
      rintro l2 s2 ⟨z, a, b, c, d⟩
      exact ⟨z, a, b, c, by omega⟩
  refine K_scopeL lab I st μ (fun x hx => by rw [hf x hx]; rfl) (first _ ?_) fun x hx => ?_
  · rintro l' s' ⟨y, hy, hl, hi⟩
    subst hl
    refine K_seq (K_label (K_less hi (K_lab_mono ?_ (key _ y rfl hy))))
    rintro l2 s2 ⟨z, a, b, c, d⟩
    exact ⟨z, a, b, c⟩
  · have := hf x hx
    rw [behind, this]
    exact K_seq (K_skip (key _ x rfl hx))
/-- What is said of the end may be said of a state that stands for less. -/
theorem K_after {c : Code} (h : Kp P B [.code c] (fun e s => ∃ t, Imp B s t ∧ R e t) .normal s) : Kp P B [.code c] R .normal s := by
  intro a w hr
  refine cwp_mono (h a w hr) fun e a' w' hp => ?_
  obtain ⟨s', ⟨t, h1, h2⟩, h3⟩ := hp
  exact ⟨t, h2, h1 _ _ h3⟩
end
end Go.Proofs.YtlhmchdfmjfmgaaGreat.R

/- R22: a row as an array of so many. -/
namespace Go.Proofs.YtlhmchdfmjfmgaaGreat.R
open Go.RowKit
section
variable {P : Program} {B : Base} {k : List KI} {R : Post} {s : St} {all : Array Oper} {o : Oper} {rest : List Oper}
theorem K_arrp {t e : TypeId} {n : Nat} {i : TI} {x : Operand} {es : List (List T)} (hg : o.guard = none) (hd : dOk B.n o.dst = true) (ho : o.op = .sliceToArrayPointer t x) (ht : TT P t = some i) (hi : i.desc = .array n e) (hx : ev s.m x = .t (.sl es)) (hn : n ≤ es.length) (h0 : 0 < es.length)
    (hk : Kp P B (.ops all rest :: k) R .normal ⟨put s.m o.dst (.rd es.flatten), s.σ, s.nx⟩) : Kp P B (.ops all (o :: rest) :: k) R .normal s := by
  intro a w hr
  refine wpL_plain hg fun K hK => ?_
  obtain ⟨C, h1, h2, h3, h4, h5, h6⟩ := hr
  have hrep := ev_rep h2 x
  rw [hx] at hrep
  have hrt : RepT w C.imm (.sl es) (a.eval x) := by
    generalize a.eval x = v at hrep
    cases hrep with
    | t h => exact h
  obtain ⟨ad, cap, sz, u, hv, hsz, himm, hcell, hel⟩ : ∃ (ad : Addr) (cap sz : Nat) (u : Nat → Value), a.eval x = .slice (some ad) es.length cap ∧ (∀ e ∈ es, e.length = sz) ∧ C.imm ad.block ∧ (∀ k, k < es.length * sz → w.cell? (ad.add k) = some (u k)) ∧
      (∀ (j k : Nat) (e : List T) (c : T), es[j]? = some e → e[k]? = some c → RepT w C.imm c (u (j * sz + k))) := by
    generalize a.eval x = v at hrt
    cases hrt with
    | nil => simp at h0
    | @sl _ ad cap sz u _ hsz _ himm hcell hel => exact ⟨ad, cap, sz, u, rfl, hsz, himm, hcell, hel⟩
  have hund : P.underlying t = some (.array n e) := by rw [(tt_some ht).1, hi]
  have hrun : (execOp a.eval o).run P w = .ok (.value (.pointer (some ad))) w := by
    have : ¬ es.length < n := by omega
    simp [execOp, ho, Instr.arrayAt, hv, run_underlying hund, this]
  have hfl : es.flatten.length = es.length * sz := by
    rw [List.length_flatten]
    have : es.map List.length = List.replicate es.length sz := by
      refine List.eq_replicate_iff.2 ⟨by simp, fun y hy => ?_⟩
      obtain ⟨z, hz, rfl⟩ := List.mem_map.1 hy
      exact hsz z hz
    rw [this, List.sum_replicate_nat]
  refine owp_value hrun ?_
  refine hK _ _ (hk _ _ ⟨C, h1, put_rep h5 (Step.refl _ _ _) h2 (by rw [h3]; exact hd) (.rd (u := u) himm (fun m hm => hcell m (by omega)) (fun m c hc => ?_)), by rw [put_size]; exact h3, by rw [put_def]; exact h4, h5, h6⟩)
  have hm : m < es.length * sz := by rw [← hfl]; exact (List.getElem?_eq_some_iff.1 hc).1
  obtain ⟨y, f1, f2, f3, f4⟩ := flat_ix hsz hm
  rw [f2] at hc
  have := hel _ _ y c f1 hc
  rw [← f4] at this
  exact this
end
end Go.Proofs.YtlhmchdfmjfmgaaGreat.R

/- R23: what stands for what, at any place of a run. -/
namespace Go.Proofs.YtlhmchdfmjfmgaaGreat.R
/-- Where a state may be told otherwise. -/
def atImp : List KI → Bool
  | .code _ :: _ => true
  | .ops _ _ :: _ => true
  | .blk _ :: k => atImp k
  | .scp :: k => atImp k
  | .lab _ :: k => atImp k
  | _ => false
section
variable {P : Program} {B : Base} {s t : St} {R : Post}
theorem K_impK {k : List KI} (h : Imp B s t) (ha : atImp k = true) (hk : Kp P B k R .normal t) : Kp P B k R .normal s := by
  induction k with
  | nil => simp [atImp] at ha
  | cons x k ih =>
    cases x with
    | code c => exact fun a w hr => hk a w (h _ _ hr)
    | ops all rest => exact fun a w hr => hk a w (h _ _ hr)
    | blk _ => exact ih ha hk
    | scp => exact ih ha hk
    | lab _ => exact ih ha hk
    | _ => simp [atImp] at ha
end
end Go.Proofs.YtlhmchdfmjfmgaaGreat.R

/- R24: a statement's arguments, and what it asks for at the call's end. -/
set_option maxRecDepth 100000
namespace Go.Proofs.YtlhmchdfmjfmgaaGreat.R
open Go.ChangeShapes Go.WideShapes Go.ChangeAt Go.RowKit
/-- What the statement asks for, behind a call that left all that was old as it was. -/
theorem post_below {H : Type} {enc : TypeId × Value → H} {Q : Program} {f : Func} {s : ChangeSpec} {apart fresh handsOn again : Bool} {W W' : World} {args : Array Value} {v : Value} {ds gs : List (DataW H)} {before pa pv : List MemPlace}
    (hW : DataW.Whole enc Q f.params.toList s.vars apart W args.toList ds gs before) (hb : Below W.heap.size W W')
    (hres : ∀ (b : Nat) (sp : Nat → Bool) (hd : Bool), DataW.TrodAll enc Q W' b sp hd f.resultTypes.toList (v.resultList f.resultTypes.size) (s.fn H (ds ++ gs)).results [])
    (hargs : ∀ sp : Nat → Bool, (∀ p ∈ before, sp p.block = true) → DataW.TrodAll enc Q W' 0 sp true f.params.toList args.toList (s.fn H (ds ++ gs)).args pa)
    (hvars : ∀ sp : Nat → Bool, (∀ p ∈ before, sp p.block = true) → DataW.TrodVars enc Q W' sp s.vars (s.fn H (ds ++ gs)).vars pv)
    (hps : before = pa ++ pv)
    (hok : ∀ (j : Nat) (t : TypeId) (r : Value), f.resultTypes[j]? = some t → (v.resultList f.resultTypes.size)[j]? = some r → Value.okWide Q W' .any 0 t r) : s.post enc Q f apart fresh handsOn again W args v W' := by
  have hlt : ∀ p ∈ before, p.block < W.heap.size := fun p hp => hW.lt p hp
  have hold : ∀ p ∈ before, (fun b => decide (b < W.heap.size)) p.block = true := fun p hp => by simpa using hlt p hp
  refine ⟨ds, gs, before, [], pa, pv, hW, hres _ _ _, hargs _ hold, hvars _ hold, World.keptBut_mono (fun p hp => ⟨hp, ?_⟩) (hb.frame (· ∈ before)), fun _ => ?_⟩
  · rw [hps, List.mem_append] at hp
    exact Or.inr hp
  · obtain ⟨_, _, _, _, _, hz, hn⟩ := hW
    refine ⟨hok, _, _, ([] ++ pa) ++ pv, ⟨[] ++ pa, pv, trodAll_append (hargs _ (fun _ _ => rfl)) (hres _ _ _), hvars _ (fun _ _ => rfl), rfl, ?_, ?_⟩, ?_⟩
    · intro b off hp
      have hp' : MemPlace.cell b off ∈ before := by rw [hps]; simpa using hp
      rw [hb.frozen (p := ⟨b, off, none⟩) (hlt _ hp')]
      exact hz b off hp'
    · intro ha
      have := hn ha
      rw [hps] at this
      simpa using this
    · intro p hp _
      rw [hps]
      simpa using hp

theorem map_of {α : Type} {g : α → List T} {Q : α → Prop} {es : List (List T)} (h : ∀ x ∈ es, ∃ a, x = g a ∧ Q a) : ∃ l : List α, es = l.map g ∧ ∀ a ∈ l, Q a := by
  induction es with
  | nil => exact ⟨[], rfl, fun a h => by cases h⟩
  | cons x es ih =>
    obtain ⟨a, rfl, ha⟩ := h x List.mem_cons_self
    obtain ⟨l, rfl, hl⟩ := ih fun y hy => h y (List.mem_cons_of_mem _ hy)
    exact ⟨a :: l, rfl, fun b hb => by
      rcases List.mem_cons.1 hb with rfl | hb
      · exact ha
      · exact hl b hb⟩

theorem int_wf {n : Int} (h : (Lit.int .i64 n).wf = true) : -9223372036854775808 ≤ n ∧ n < 9223372036854775808 := by
  simp [Lit.wf, IntKind.min, IntKind.max, IntKind.wrap, IntKind.bits, IntKind.signed] at h
  omega
theorem u64_wf {n : Int} (h : (Lit.int .u64 n).wf = true) : ∃ k : Nat, n = k ∧ k < 2 ^ 64 := by
  have hr : 0 ≤ n ∧ n < 18446744073709551616 := by
    simp [Lit.wf, IntKind.min, IntKind.max, IntKind.wrap, IntKind.bits, IntKind.signed] at h
    omega
  exact ⟨n.toNat, by rw [Int.toNat_of_nonneg hr.1], by omega⟩
section
variable {P : Program} {f : Nat} {t : TypeId} {ts : List T}
theorem has_int (hu : P.underlying t = some (.int .i64)) (h : HasT P f t ts) : ∃ n, ts = [.i n] ∧ -9223372036854775808 ≤ n ∧ n < 9223372036854775808 := by
  cases f with
  | zero => exact h.elim
  | succ f =>
    simp only [HasT, hu] at h
    obtain ⟨n, rfl, hw⟩ := h
    exact ⟨n, rfl, int_wf hw⟩
theorem has_u64 (hu : P.underlying t = some (.int .u64)) (h : HasT P f t ts) : ∃ n : Nat, ts = [.v (.int .u64 n)] ∧ n < 2 ^ 64 := by
  cases f with
  | zero => exact h.elim
  | succ f =>
    simp only [HasT, hu] at h
    obtain ⟨n, rfl, hw⟩ := h
    obtain ⟨k, rfl, hk⟩ := u64_wf hw
    exact ⟨k, rfl, hk⟩
theorem has_slice {e : TypeId} {α : Type} {g : α → List T} {Q : α → Prop} (hu : P.underlying t = some (.slice e)) (he : ∀ f x, HasT P f e x → ∃ a, x = g a ∧ Q a) (h : HasT P f t ts) : ∃ l : List α, ts = [.sl (l.map g)] ∧ l.length ≤ maxLen ∧ ∀ a ∈ l, Q a := by
  cases f with
  | zero => exact h.elim
  | succ f =>
    simp only [HasT, hu] at h
    obtain ⟨es, rfl, hn, h⟩ := h
    obtain ⟨l, rfl, hl⟩ := map_of (g := g) (Q := Q) fun x hx => he f x (h x hx).2
    exact ⟨l, rfl, by simpa using hn, hl⟩
/-- The fields of a struct. -/
theorem has_struct {fs : Array Field} (hu : P.underlying t = some (.struct fs)) (h : HasT P f t ts) : ∃ f', HasF P (fun t ts => HasT P f' t ts) fs.toList ts := by
  cases f with
  | zero => exact h.elim
  | succ f =>
    simp only [HasT, hu] at h
    exact ⟨f, h⟩
variable {H : Type} {enc : TypeId × Value → H} {W : World} {base : Nat} {sp : Nat → Bool} {held : Bool} {v : Value} {d : DataW H} {ps : List MemPlace}
/-- What is there at the call's begin: nothing is owned, all that there is stays. -/
abbrev C0 (W : World) : Ctx := ⟨old W, fun _ => none, fun _ => undef, 0⟩
theorem sim0 (W : World) : Sim (C0 W) noObj W := ⟨fun _ _ => rfl, fun _ => True.intro, fun _ _ _ hi => absurd rfl hi, fun _ _ hi => absurd rfl hi, fun b hb => hb⟩
theorem arg_struct {fs : Array Field} (hu : P.underlying t = some (.struct fs)) (hp : plainT P 10 t = true) (h : DataW.Trod enc P W 0 sp held t v d ps) (hv : Value.okWide P W .any base t v) : ∃ f ts, HasT P f t ts ∧ RepA W (C0 W) (.agg (ts.map .t)) v := by
  unfold Value.okWide at hv
  rw [hu] at hv
  obtain ⟨cs, rfl, _⟩ := hv
  obtain ⟨fuel, ht⟩ := h
  obtain ⟨ts, g1, g2, g3⟩ := trod_rep fuel 10 t _ _ _ ht hp
  refine ⟨fuel, ts, g1, .agg (by simpa [Value.cells] using g2) fun k a u ha hu => ?_⟩
  rw [List.getElem?_map] at ha
  obtain ⟨b, hb, rfl⟩ := Option.map_eq_some_iff.1 ha
  exact .t (g3 k b u hb (by simpa [Value.cells] using hu))
/-- A row of arguments. -/
theorem repL1 {a : AV} {u : Value} (h : RepA W (C0 W) a u) : RepL W (C0 W) [a] [u] := ⟨rfl, fun k x y hx hy => by
  cases k with
  | zero => simp at hx hy; subst hx; subst hy; exact h
  | succ k => simp at hx⟩
theorem repL2 {a b : AV} {u u2 : Value} (h : RepA W (C0 W) a u) (h2 : RepA W (C0 W) b u2) : RepL W (C0 W) [a, b] [u, u2] := (repL1 h).app (repL1 h2)
end
end Go.Proofs.YtlhmchdfmjfmgaaGreat.R

/- R25: a range over a function: the statement; a call of yield; a round. -/
set_option maxRecDepth 10000
namespace Go.Proofs.YtlhmchdfmjfmgaaGreat.R
open Go.RowKit
section
variable {P : Program} {C : Ctx} {σ : Nat → AObj} {w : World}
/-- A block that is none's. -/
theorem sim_junk (hs : Sim C σ w) (o : Obj) : Sim C σ (w.alloc o) ∧ Step C σ w C σ (w.alloc o) := by
  have hold : ∀ b, b < w.heap.size → (w.alloc o).heap[b]? = w.heap[b]? := fun b hb => push_old w o hb
  have hsz : (w.alloc o).heap.size = w.heap.size + 1 := World.size_alloc w o
  have hk : Keeps w C.imm (w.alloc o) C.imm := ⟨fun _ h => h, fun b hb => hold b (hs.imm_lt b hb)⟩
  have hc : CtxLe C C := ⟨Nat.le_refl _, fun _ _ => rfl, fun _ _ => rfl⟩
  refine ⟨⟨hs.dead, fun i => ?_, hs.inj, hs.sep, fun b hb => by have := hs.imm_lt b hb; omega⟩, ⟨hc, rfl, rfl, rfl, by omega, fun _ h => h, fun b hb _ => hold b hb, fun _ h => .inl h, fun _ h => .inl h⟩⟩
  by_cases hi : σ i = .dead
  · rw [hi]; exact True.intro
  · exact (hs.obj i).step hk hc (live_lt hs hi) fun b ho => hold b (own_lt hs hi ho)
theorem putObj_set {l : Nat} {r : Loop} (hs : Sim C σ w) {q : Nat} {st st' : LoopState} {n : Nat} {m : Nat → AV} {ps : Array Tmp} {avs bd : Code} (hq : σ q = .loop st n m ps avs bd) (ho : C.own q = some l) (hl : w.heap[l]? = some (.loop r)) :
    Sim C (oput σ q (.loop st' n m ps avs bd)) (w.putObj l (.loop { r with state := st', pending := none })) ∧ Step C σ w C (oput σ q (.loop st' n m ps avs bd)) (w.putObj l (.loop { r with state := st', pending := none })) := by
  have hob := hs.obj q
  rw [hq] at hob
  obtain ⟨bl, r', e0, e1, e2, e3, e4, e5, e6, e7, e8⟩ := hob
  rw [ho] at e0
  cases e0
  rw [hl] at e1
  cases e1
  have hlt : l < w.heap.size := (Array.getElem?_eq_some_iff.1 hl).1
  have hd : σ q ≠ .dead := by rw [hq]; exact (fun h => by cases h)
  have hk : Keeps w C.imm (w.putObj l (.loop { r with state := st', pending := none })) C.imm := ⟨fun _ h => h, fun b hb => World.putObj_heap_other fun e => hs.sep q l hd ho (e ▸ hb)⟩
  exact sim_set (w' := w.putObj l (.loop { r with state := st', pending := none })) (obj := .loop st' n m ps avs bd) hs hd ho rfl rfl rfl World.putObj_size (fun b hb => World.putObj_heap_other hb)
    ⟨l, _, ho, World.putObj_heap_same hlt, rfl, rfl, e4, e5, e6, e7, fun t ht => (e8 t ht).keeps hk ⟨Nat.le_refl _, fun _ _ => rfl, fun _ _ => rfl⟩⟩
/-- An object ends, its block turned. -/
theorem putObj_kill {l : Nat} (o : Obj) (hs : Sim C σ w) {q : Nat} (hd : σ q ≠ .dead) (ho : C.own q = some l) : Sim C (oput σ q .dead) (w.putObj l o) ∧ Step C σ w C (oput σ q .dead) (w.putObj l o) :=
  sim_set (w' := w.putObj l o) (obj := .dead) hs hd ho rfl rfl rfl World.putObj_size (fun b hb => World.putObj_heap_other hb) True.intro

/-- What a call of yield leaves: the rounds' code, run. -/
def YieldQ (P : Program) (q : Nat) (args : List AV) (σ : Nat → AObj) (nx : Nat) (S : (Nat → AObj) → Nat → Prop) : Prop :=
  ∀ (C : Ctx) (w : World) (vs : List Value) (l : Nat), Sim C σ w → C.nx = nx → RepL w C args vs → C.own q = some l →
    ∃ f tmps avs bd, (Instr.yield l vs.toArray).run P w = .ok (.round l f tmps avs bd) w ∧ ∀ ro, RoundIn (FR ro) 0 P l f tmps avs bd w fun e w' => ∃ σ' nx' C', S σ' nx' ∧ e = .returned (.bool true) ∧ Sim C' σ' w' ∧ C'.nx = nx' ∧ Step C σ w C' σ' w'

def putL (m : Slots) : List (Nat × AV) → Slots
  | [] => m
  | p :: l => putL (put m (some p.1) p.2) l
theorem putL_rep {w : World} {C : Ctx} {n : Nat} : ∀ (ps : List Nat) (args : List AV) (vs : List Value) (m : Slots) (tmps : Array Value), RepL w C args vs → tmps.size = n → (∀ p ∈ ps, p < n) → (∀ t, RepA w C (m t) (tmps.getD t undef)) →
    ((ps.zip vs).foldl (fun ts (p : Nat × Value) => ts.setIfInBounds p.1 p.2) tmps).size = n ∧ ∀ t, RepA w C (putL m (ps.zip args) t) (((ps.zip vs).foldl (fun ts (p : Nat × Value) => ts.setIfInBounds p.1 p.2) tmps).getD t undef)
  | [], args, vs, m, tmps, _, hn, _, h => by exact ⟨by simpa using hn, by simpa [putL] using h⟩
  | p :: ps, [], vs, m, tmps, hl, hn, _, h => by
    have : vs = [] := List.eq_nil_of_length_eq_zero (by have := hl.1; simpa using this.symm)
    subst this
    exact ⟨by simpa using hn, by simpa [putL] using h⟩
  | p :: ps, a :: args, [], m, tmps, hl, hn, _, h => by have := hl.1; simp at this
  | p :: ps, a :: args, v :: vs, m, tmps, hl, hn, hp, h => by
    have hpn : p < tmps.size := by rw [hn]; exact hp p List.mem_cons_self
    have h0 := hl.2 0 a v rfl rfl
    refine putL_rep ps args vs (put m (some p) a) (tmps.setIfInBounds p v) ⟨by have := hl.1; simpa using this, fun k x u hx hu => hl.2 (k + 1) x u (by simpa using hx) (by simpa using hu)⟩ (by simpa using hn) (fun x hx => hp x (List.mem_cons_of_mem _ hx)) fun t => ?_
    by_cases e : t = p
    · subst e
      simp only [put, if_true, Array.getD_eq_getD_getElem?, Array.getElem?_setIfInBounds_self_of_lt hpn, Option.getD_some]
      exact h0
    · simp only [put, if_neg e, Array.getD_eq_getD_getElem?, Array.getElem?_setIfInBounds_ne (show p ≠ t from fun h => e h.symm)]
      have := h t
      rwa [Array.getD_eq_getD_getElem?] at this

/-- The slots as a round begins. -/
def roundM (n : Nat) (m : Slots) (ps : Array Tmp) (args : List AV) : Slots := putL (fun t => if t < n then m t else .any) (ps.toList.zip args)

/-- A round: the assignment to the loop's variables, the body; each goes to its end. -/
theorem yield_of {q : Nat} {args : List AV} {nx : Nat} {n : Nat} {m : Nat → AV} {ps : Array Tmp} {avs bd : Code} {S : (Nat → AObj) → Nat → Prop} (hq : σ q = .loop .ready n m ps avs bd) (hn : args.length = ps.size) (hp : ps.toList.all (· < n) = true)
    (h : ∀ B : Base, B.n = n → B.C.nx = nx → B.σ = σ → Kp P B [.code avs] (fun e s1 => e = .normal ∧ s1.σ q = .loop .ready n m ps avs bd ∧
      Kp P B [.code bd] (fun e s2 => e = .normal ∧ s2.σ q = .loop .busy n m ps avs bd ∧ S (oput s2.σ q (.loop .ready n m ps avs bd)) s2.nx) .normal ⟨s1.m, oput s1.σ q (.loop .busy n m ps avs bd), s1.nx⟩) .normal ⟨roundM n m ps args, σ, nx⟩) :
    YieldQ P q args σ nx S := by
  intro C w vs l hs hnx hl ho
  have hob := hs.obj q
  rw [hq] at hob
  obtain ⟨bl, r, e0, e1, e2, e3, e4, e5, e6, e7, e8⟩ := hob
  rw [ho] at e0
  cases e0
  have hsz : vs.toArray.size = r.params.size := by rw [e5, ← hn]; simpa using hl.1.symm
  refine ⟨r.fn, _, r.assign, r.body, run_yield e1 hsz, fun ro => ?_⟩
  have hfold : (r.params.zip vs.toArray).foldl (fun tmps (x : Tmp × Value) => tmps.setIfInBounds x.1 x.2) r.tmps = (ps.toList.zip vs).foldl (fun ts (p : Nat × Value) => ts.setIfInBounds p.1 p.2) r.tmps := by
    rw [e5, ← Array.foldl_toList]
    simp
  rw [hfold, e6, e7]
  have hrep := putL_rep (n := n) ps.toList args vs (fun t => if t < n then m t else .any) r.tmps hl e4 (fun p hpp => by simpa using List.all_eq_true.1 hp p hpp) (fun t => by
    by_cases ht : t < n
    · simp only [if_pos ht]; exact e8 t ht
    · simp only [if_neg ht]; exact .any)
  have hrel : Rel ⟨C, σ, w, n, some l⟩ ⟨roundM n m ps args, σ, nx⟩ { tmps := (ps.toList.zip vs).foldl (fun ts (p : Nat × Value) => ts.setIfInBounds p.1 p.2) r.tmps, defers := [] } w :=
    ⟨C, hnx, hrep.2, hrep.1, Marks.nil, hs, Step.refl _ _ _⟩
  have hrun := h ⟨C, σ, w, n, some l⟩ rfl hnx rfl _ _ hrel
  refine roundIn_of_wpIn (F := FR ro) trivial (cwp_mono (ro := some l) hrun fun e a1 w1 hp1 => ?_)
  obtain ⟨s1, ⟨he, hσ1, hk2⟩, C1, f1, f2, f3, f4, f5, f6⟩ := hp1
  subst he
  have hd1 : s1.σ q ≠ .dead := by rw [hσ1]; exact (fun h => by cases h)
  have hqlt : q < C.nx := live_lt hs (by rw [hq]; exact (fun h => by cases h))
  have hown1 : C1.own q = some l := (f6.le.own q hqlt).trans ho
  have hob1 := f5.obj q
  rw [hσ1] at hob1
  obtain ⟨bl1, r1, d0, d1, d2, d3, d4, d5, d6, d7, d8⟩ := hob1
  rw [hown1] at d0
  cases d0
  have hpend : { r1 with state := LoopState.busy } = { r1 with state := .busy, pending := none } := by cases r1; simp only at d3; subst d3; rfl
  refine ⟨_, run_beginRound d1 d2, ?_⟩
  rw [hpend]
  obtain ⟨p1, p2⟩ := putObj_set (st' := .busy) f5 hσ1 hown1 d1
  have hrel2 : Rel ⟨C, σ, w, n, some l⟩ ⟨s1.m, oput s1.σ q (.loop .busy n m ps avs bd), s1.nx⟩ a1 (w1.putObj l (.loop { r1 with state := .busy, pending := none })) :=
    ⟨C1, f1, fun t => (f2 t).step f5 p2, f3, f4.step p2, p1, f6.trans p2⟩
  refine cwp_mono (ro := some l) (hk2 _ _ hrel2) fun e a2 w2 hp2 => ?_
  obtain ⟨s2, ⟨he, hσ2, hS⟩, C2, g1, g2, g3, g4, g5, g6⟩ := hp2
  subst he
  have hown2 : C2.own q = some l := (g6.le.own q hqlt).trans ho
  have hob2 := g5.obj q
  rw [hσ2] at hob2
  obtain ⟨bl2, r2, c0, c1, c2, c3, _⟩ := hob2
  rw [hown2] at c0
  cases c0
  obtain ⟨u1, u2⟩ := putObj_set (st' := .ready) g5 hσ2 hown2 c1
  exact ⟨_, _, run_endRound none c1, _, _, C2, hS, rfl, u1, g1, g6.trans u2⟩

variable {B : Base} {k : List KI} {R : Post} {s : St}
theorem yield_exec {o : Oper} {c : Call} {fo : Operand} {a : Act} {l : Nat} {f : FuncId} {tmps : Array Value} {avs bd : Code} (ho : o.op = .call c) (hc : c.callee = .value fo) (hv : a.eval fo = .func (.yield l) #[] #[])
    (hy : (Instr.yield l (c.args.map a.eval).toList.toArray).run P w = .ok (.round l f tmps avs bd) w) : (execOp a.eval o).run P w = .ok (.round l f tmps avs bd) w := by
  rw [Array.toArray_toList] at hy
  simp only [execOp, ho, resolve, hc, Sem.run_bind, Deferred.ofValue, hv, Sem.run_pure, Result.andThen_ok, invoke, Array.empty_append]
  exact hy
theorem rep_yld {C : Ctx} {v : Value} {q : Nat} (h : RepA w C (.yld q) v) : ∃ l, v = .func (.yield l) #[] #[] ∧ C.own q = some l := by
  cases h with
  | yld h ho => exact ⟨_, rfl, ho⟩
/-- A call of yield. -/
theorem K_yield {all : Array Oper} {o : Oper} {rest : List Oper} {c : Call} {fo : Operand} {q : Nat} {args : List AV} (hg : o.guard = none) (ho : o.op = .call c) (hc : c.callee = .value fo) (hf : ev s.m fo = .yld q) (ha : c.args.toList.map (ev s.m) = args)
    (hd : dOk B.n o.dst = true) {S : (Nat → AObj) → Nat → Prop} (spec : YieldQ P q args s.σ s.nx S) (h : ∀ σ' nx', S σ' nx' → Kp P B (.ops all rest :: k) R .normal ⟨put s.m o.dst (.b true), σ', nx'⟩) : Kp P B (.ops all (o :: rest) :: k) R .normal s := by
  intro a w hr
  refine wpL_plain hg fun K hK => ?_
  obtain ⟨C, h1, h2, h3, h4, h5, h6⟩ := hr
  have hρ := ev_rep h2
  obtain ⟨hl, hlr⟩ := map_rep hρ c.args
  have hfo := hρ fo
  rw [hf] at hfo
  obtain ⟨l, hv, hown⟩ := rep_yld hfo
  rw [ha] at hl hlr
  obtain ⟨f, tmps, avs, bd, hy, hround⟩ := spec C w (c.args.map a.eval).toList l h5 h1 ⟨by simpa using hl, fun k x u hx hu => hlr k x u hx (by simpa using hu)⟩ hown
  refine owp_round (yield_exec ho hc hv hy) (RoundIn.mono (hround B.ro) ?_)
  rintro e w' ⟨σ', nx', C', hS, rfl, g1, g2, g3⟩
  exact ⟨_, rfl, hK _ _ (h σ' nx' hS _ _ ⟨C', g2, put_rep h5 g3 h2 (by rw [h3]; exact hd) (.t (.v rfl)), by rw [put_size]; exact h3, by rw [put_def]; exact h4.step g3, g1, h6.trans g3⟩)⟩
/-- The statement, in a function's own frame: the function that is ranged over is called, with yield. -/
theorem K_rangeFunc {g : Operand} {ps : Array Tmp} {avs bd : Code} (hro : B.ro = none) {f : FuncId} {args : List AV} (hf : callee (ev s.m g) [.yld s.nx] = some (f, args)) {S : AV → (Nat → AObj) → Nat → Prop}
    (spec : CallQ P f args (oput s.σ s.nx (.loop .ready B.n s.m ps avs bd)) (s.nx + 1) S) (hS : ∀ r σ' nx', S r σ' nx' → σ' s.nx = .loop .ready B.n s.m ps avs bd)
    (h : ∀ r σ' nx', S r σ' nx' → Kp P B k R .normal ⟨s.m, oput σ' s.nx .dead, nx'⟩) : Kp P B (.code (.rangeFunc g ps avs bd) :: k) R .normal s := by
  intro a w hr
  obtain ⟨C, h1, h2, h3, h4, h5, h6⟩ := hr
  refine wpIn_rangeFunc (F := FR B.ro) fun fn _ => ?_
  have henter := run_enterLoop_outer (P := P) (w := w) fn a.tmps ps avs bd
  rw [← hro] at henter
  obtain ⟨hg, spec⟩ := spec
  obtain ⟨lo, hlo⟩ : ∃ lo : Loop, lo = { state := .ready, pending := none, fn, tmps := a.tmps, params := ps, assign := avs, body := bd, defers := w.heap.size } := ⟨_, rfl⟩
  rw [← hlo] at henter
  obtain ⟨j1, j2⟩ := sim_junk h5 (.deferred (some []))
  obtain ⟨w1, hw1⟩ : ∃ w1, w1 = w.alloc (.deferred (some [])) := ⟨_, rfl⟩
  rw [← hw1] at j1 j2 henter
  have hw1s : w1.heap.size = w.heap.size + 1 := by rw [hw1]; exact World.size_alloc w _
  obtain ⟨C', hC⟩ : ∃ C' : Ctx, C' = ⟨C.imm, fun i => if i = C.nx then some w1.heap.size else C.own i, fun i => if i = C.nx then undef else C.hdr i, C.nx + 1⟩ := ⟨_, rfl⟩
  have hk0 : Keeps w1 C.imm (w1.alloc (.loop lo)) C'.imm := ⟨fun b h => by rw [hC]; exact h, fun b h => push_old w1 _ (j1.imm_lt b h)⟩
  have hc0 : CtxLe C C' := by
    subst hC
    exact ⟨by simp, fun i hi => if_neg (by omega), fun i hi => if_neg (by omega)⟩
  obtain ⟨n1, n2⟩ := sim_new j1 (.loop lo) (.loop .ready B.n s.m ps avs bd) undef C' hC ⟨w1.heap.size, lo, by rw [hC]; simp, push_new w1 _, by rw [hlo], by rw [hlo], by rw [hlo]; exact h3, by rw [hlo], by rw [hlo], by rw [hlo], fun t _ => by
    have := ((h2 t).step h5 j2).keeps hk0 hc0
    have e : lo.tmps = a.tmps := by rw [hlo]
    rw [e]; exact this⟩
  rw [h1] at n1 n2
  have hown : C'.own s.nx = some (w.heap.size + 1) := by rw [hC, ← h1, ← hw1s]; simp
  have hnx' : C'.nx = s.nx + 1 := by rw [hC, h1]
  have hst := j2.trans n2
  have hyr : RepA (w1.alloc (.loop lo)) C' (.yld s.nx) (.func (.yield (w.heap.size + 1)) #[] #[]) := .yld (by omega) hown
  have hgr := (ev_rep h2 g).step h5 hst
  obtain ⟨first, caps, hv, hrl⟩ := callee_rep hf hgr (vs := #[.func (.yield (w.heap.size + 1)) #[] #[]]) rfl (fun k x u hx hu => by
    cases k with
    | zero => simp at hx hu; subst hx; subst hu; exact hyr
    | succ k => simp at hx)
  have hcall := spec C' _ _ n1 hnx' hrl
  have hres : (resolve a.eval (rangeCall g (w.heap.size + 1)) 0).run P (w1.alloc (.loop lo)) = .ok { target := .fn (.func f) caps, args := first ++ #[.func (.yield (w.heap.size + 1)) #[] #[]] } (w1.alloc (.loop lo)) := by
    have e : Array.map a.eval #[Operand.const (Value.func (Fn.yield (w.heap.size + 1)) #[] #[])] = #[Value.func (Fn.yield (w.heap.size + 1)) #[] #[]] := by simp [Act.eval]
    simp only [resolve, rangeCall, Deferred.ofValue, hv, Sem.run_pure, e]
  have hinv : (invoke (.fn (.func f) caps) (first ++ #[.func (.yield (w.heap.size + 1)) #[] #[]])).run P (w1.alloc (.loop lo)) = .ok (.enter f (first ++ #[.func (.yield (w.heap.size + 1)) #[] #[]] ++ caps)) (w1.alloc (.loop lo)) := by
    unfold goodFn at hg
    cases hfn : P.funcs[f]? with
    | none => rw [hfn] at hg; cases hg
    | some fn =>
      rw [hfn] at hg
      simp only [Bool.and_eq_true, Bool.not_eq_true'] at hg
      simp only [invoke, callFunc, Sem.run_bind, run_program, hfn, Result.andThen_ok]
      have e1 : fn.body.isNone = false := by rw [← Option.not_isSome, hg.2]; rfl
      simp [hg.1, e1]
  refine ⟨w.heap.size + 1, _, _, _, _, f, _, _, henter, hres, fun _ _ => trivial, hinv, FR_depth, callsIn_FR.2 ?_⟩
  rw [Array.toArray_toList] at hcall
  refine hcall.mono ?_
  rintro e w3 ⟨r, σ', nx', C3, v, g0, rfl, g1, g2, g3, g4⟩
  have hσ := hS _ _ _ g0
  have hob := g1.obj s.nx
  rw [hσ] at hob
  obtain ⟨bl, r3, c0, c1, c2, c3, _⟩ := hob
  have hown3 : C3.own s.nx = some (w.heap.size + 1) := (g4.le.own s.nx (by omega)).trans hown
  rw [hown3] at c0
  cases c0
  have hd3 : σ' s.nx ≠ .dead := by rw [hσ]; exact (fun h => by cases h)
  obtain ⟨k1, k2⟩ := putObj_kill (.loop { r3 with state := .exhausted }) g1 hd3 hown3
  have hel : (Instr.endLoop (w.heap.size + 1)).run P w3 = .ok none (w3.putObj (w.heap.size + 1) (.loop { r3 with state := .exhausted })) := by
    rw [run_endLoop (P := P) c1 (by rw [c2]; decide), c3]
  refine ⟨none, _, hel, ?_⟩
  have hfull := (hst.trans g4).trans k2
  have hmut : ∀ {b}, Mut C s.σ b → b < w.heap.size := fun {b} ⟨i, hi, ho⟩ => own_lt h5 hi ho
  refine ⟨_, h r σ' nx' g0, C3, g2, fun t => (h2 t).step h5 hfull, h3, ?_, k1, h6.trans hfull⟩
  have hm1 : MarkOf B.w.heap.size C s.σ w1 { target := .collected w.heap.size, args := #[] } :=
    ⟨w.heap.size, rfl, h6.size, by rw [hw1]; exact push_new w _, fun hi => by have := h5.imm_lt _ hi; omega, fun hm => by have := hmut hm; omega⟩
  have hms : Marks B.w.heap.size C s.σ w1 ({ target := .collected w.heap.size, args := #[] } :: a.defers) := by
    have h4' := h4.step j2
    refine ⟨fun d hd => ?_, List.pairwise_cons.2 ⟨fun d hd => ?_, h4.nodup⟩⟩
    · rcases List.mem_cons.1 hd with e | e
      · rw [e]; exact hm1
      · exact h4'.all d e
    · obtain ⟨r', e1, _, e3, _⟩ := h4.all d hd
      have hlt : r' < w.heap.size := (Array.getElem?_eq_some_iff.1 e3).1
      rw [e1]
      intro e
      cases e
      omega
  exact hms.step ((n2.trans g4).trans k2)
/-- The same: the loop's object by a name. -/
theorem K_range {g : Operand} {ps : Array Tmp} {avs bd : Code} (hro : B.ro = none) {f : FuncId} {args : List AV} (hf : callee (ev s.m g) [.yld s.nx] = some (f, args))
    (h : ∀ L, L = .loop .ready B.n s.m ps avs bd → ∃ S : AV → (Nat → AObj) → Nat → Prop, CallQ P f args (oput s.σ s.nx L) (s.nx + 1) S ∧ ∀ r σ' nx', S r σ' nx' → σ' s.nx = L ∧ Kp P B k R .normal ⟨s.m, oput σ' s.nx .dead, nx'⟩) :
    Kp P B (.code (.rangeFunc g ps avs bd) :: k) R .normal s := by
  obtain ⟨S, h1, h2⟩ := h _ rfl
  exact K_rangeFunc hro hf h1 (fun r σ' nx' hs => (h2 r σ' nx' hs).1) fun r σ' nx' hs => (h2 r σ' nx' hs).2
end
@[go_sem] theorem run_range {P : Program} {n : Nat} {G : List KI → St → Prop} {f : Nat} {k : List KI} {s : St} {g : Operand} {ps : Array Tmp} {avs bd : Code} : run P n G (f + 1) (.code (.rangeFunc g ps avs bd) :: k) s = G (.code (.rangeFunc g ps avs bd) :: k) s := by rw [run]; all_goals simp
/-- A contract out of a body that holds a range over a function. -/
theorem pure_ofR {P : Program} {f : FuncId} {fn : Func} {c : Code} (hf : P.funcs[f]? = some fn) (hb : fn.body = some c) (hname : (fn.name == "runtime.NumGoroutine") = false) {args : List AV} {r : AV} (hn : args.length ≤ fn.ntmps) (ha : args.all (bnd 0) = true) (hr : bnd 0 r = true)
    (h : ∀ B : Base, B.n = fn.ntmps → B.C.nx = 0 → B.ro = none → Kp P B [.code c] (fun e s => (e = .ret ∨ e = .normal) ∧ ∃ rs, resL P s fn.results.toList = some rs ∧ frz s.σ (resV rs) = r) .normal ⟨slots0 args, noObj, 0⟩) : Pure P f args r := by
  refine ⟨fun a h => List.all_eq_true.1 ha a h, hr, spec_of_KR hf hb hname hn fun B h1 h2 _ h0 => ?_⟩
  refine fun a w hrel => cwp_mono (h B h1 h2 h0 a w hrel) fun e a' w' hp => ?_
  obtain ⟨s', ⟨he, rs, h3, h4⟩, h5⟩ := hp
  refine ⟨s', ?_, h5⟩
  rcases he with rfl | rfl
  · exact ⟨rs, h3, Ends.pure h4.symm hr⟩
  · exact ⟨rs, h3, Ends.pure h4.symm hr⟩
end Go.Proofs.YtlhmchdfmjfmgaaGreat.R

/- R26: maps whose keys are plain. -/
set_option maxRecDepth 10000
namespace Go.Proofs.YtlhmchdfmjfmgaaGreat.R
open Go.RowKit
/-- The model's value of a plain one. -/
def plainL : List AV → Option (List Value)
  | [] => some []
  | .t (.v x) :: r => if plainV x = true then (plainL r).map (x :: ·) else none
  | _ :: _ => none
def plainA : AV → Option Value
  | .t (.v x) => if plainV x = true then some x else none
  | .agg cs => (plainL cs).map fun l => .agg l.toArray
  | _ => none
section
variable {P : Program} {w : World} {C : Ctx}
end
end Go.Proofs.YtlhmchdfmjfmgaaGreat.R

/- R29: a piece of code by what it leaves, whichever way it went. -/
namespace Go.Proofs.YtlhmchdfmjfmgaaGreat.R
open Go.RowKit
section
variable {P : Program} {B : Base} {k : List KI} {R : Post} {s : St}
/-- A call of yield in a region that draws its order, what it leaves not told ahead. -/
theorem Imp.frz {q sz : Nat} {es : List (List T)} {m : Slots} {σ : Nat → AObj} (hq : s.σ q = .arr sz es) (hm : ∀ i, frz1 q es (s.m i) = m i) (hσ : ∀ j, (if j = q then .dead else frzO q es (s.σ j)) = σ j) : Imp B s ⟨m, σ, s.nx⟩ := by
  have h := Imp.freeze (B := B) hq
  rw [funext hm, funext hσ] at h
  exact h
end
end Go.Proofs.YtlhmchdfmjfmgaaGreat.R

/- R32: a row of the call's own is cut, its tail cleared. -/
namespace Go.Proofs.YtlhmchdfmjfmgaaGreat.R
open Go.RowKit
section
variable {P : Program} {C : Ctx} {σ : Nat → AObj} {w : World}
theorem run_from {t e : TypeId} {i : TI} (ht : P.underlying t = some (.slice e)) (he : TT P e = some i) (a : Option Addr) (len cap n : Nat) (k : IntKind) (hn : n ≤ len) (hc : len ≤ cap) (w : World) :
    (Instr.sliceAt t (.slice a len cap) (some (.int k n)) none none).run P w = .ok (sliced a n len cap i.size) w := by
  have hel : P.elem t = e := by simp [Program.elem, ht]
  rw [run_sliceAt_slice w t _ _ _ _ (by rw [hel]; exact ht), run_slice_any w t a len cap (by rw [hel]; exact ht), hel]
  simp [Instr.sliceBounds, Instr.sliceBound, asIntOf, hn, hc, run_size he]
theorem run_to {t e : TypeId} {i : TI} (ht : P.underlying t = some (.slice e)) (he : TT P e = some i) (a : Option Addr) (len cap n : Nat) (k : IntKind) (hn : n ≤ cap) (w : World) :
    (Instr.sliceAt t (.slice a len cap) none (some (.int k n)) none).run P w = .ok (sliced a 0 n cap i.size) w := by
  have hel : P.elem t = e := by simp [Program.elem, ht]
  rw [run_sliceAt_slice w t _ _ _ _ (by rw [hel]; exact ht), run_slice_any w t a len cap (by rw [hel]; exact ht), hel]
  simp [Instr.sliceBounds, Instr.sliceBound, asIntOf, hn, run_size he]
end
section
variable {P : Program} {B : Base} {k : List KI} {R : Post} {s : St}
end
end Go.Proofs.YtlhmchdfmjfmgaaGreat.R

/- R33: less is said of a state ahead of a piece of code; regions with marks. -/
namespace Go.Proofs.YtlhmchdfmjfmgaaGreat.R
open Go.RowKit
@[go_sem] theorem run_none {P : Program} {n : Nat} {G : List KI → St → Prop} {k : List KI} {s : St} : run P n G 0 k s = G k s := by rw [run]
section
variable {P : Program} {B : Base} {k : List KI} {R : Post} {s : St} {all : Array Oper}
end
end Go.Proofs.YtlhmchdfmjfmgaaGreat.R

/- R35: a call that leaves all older objects as they were. -/
namespace Go.Proofs.YtlhmchdfmjfmgaaGreat.R
section
variable {P : Program}
theorem spec_keep {f : FuncId} {fn : Func} {c : Code} (hf : P.funcs[f]? = some fn) (hb : fn.body = some c) (hname : (fn.name == "runtime.NumGoroutine") = false) {args : List AV} {σ : Nat → AObj} {nx : Nat} {r : AV} (hn : args.length ≤ fn.ntmps)
    (hr : bnd nx r = true)
    (h : (∀ i, σ i = .dead ∨ (bndO nx (σ i) = true ∧ i < nx)) → ∀ B : Base, B.n = fn.ntmps → B.C.nx = nx → B.σ = σ → Kp P B [.code c] (fun e s => (e = .ret ∨ e = .normal) ∧ nx ≤ s.nx ∧ (∀ i, i < nx → s.σ i = σ i) ∧ ∃ rs, resL P s fn.results.toList = some rs ∧ resV rs = r) .normal ⟨slots0 args, σ, nx⟩) :
    CallSpec P f args σ nx r σ nx := by
  refine CallQ.spec (CallQ.known (by simp [goodFn, hf, hb, hname]) fun hk => ?_)
  refine CallSpec.q (spec_of_K hf hb hname hn fun B h1 h2 h3 => ?_)
  refine fun a w hrel => cwp_mono (h hk B h1 h2 h3 a w hrel) fun e a' w' hp => ?_
  obtain ⟨s', ⟨he, g1, g3, rs, g4, g5⟩, h5⟩ := hp
  have hend : Ends nx s' (resV rs) σ nx r := by
    refine ⟨fun i => ?_, g1, Nat.le_refl _, .inl g5.symm, .inr hr⟩
    rcases hk i with e | ⟨e, e2⟩
    · exact .inl e
    · exact .inr ⟨(g3 i e2).symm, .inr ⟨e, e2⟩⟩
  refine ⟨s', ?_, h5⟩
  rcases he with rfl | rfl
  · exact ⟨rs, g4, hend⟩
  · exact ⟨rs, g4, hend⟩
end
end Go.Proofs.YtlhmchdfmjfmgaaGreat.R

/- R36: parts of a row of the call's own. -/
namespace Go.Proofs.YtlhmchdfmjfmgaaGreat.R
open Go.RowKit
section
variable {P : Program}
theorem sliced_part {bl lo hi cap sz : Nat} (h : lo < cap) : sliced (some ⟨bl, 0, none⟩) lo hi cap sz = .slice (some ⟨bl, lo * sz, none⟩) (hi - lo) (cap - lo) := by
  rw [sliced, if_neg (by omega)]
  simp [add_base]
theorem does_cutFrom {all : Array Oper} {i n : Nat} {o : Oper} {m : Slots} {t e : TypeId} {x ix : Operand} {q lo : Nat} {ik : IntKind} {es : List (List T)} {ie i0 : TI} {σ : Nat → AObj} {nx : Nat} (ho' : all[i]? = some o) (hl : lets all m o = some true) (ho : o.op = .slice t x (some ix) none none)
    (ht : TT P t = some i0) (hdesc : i0.desc = .slice e) (he : TT P e = some ie) (hx : ev m x = .ref q) (hσ : σ q = .arr ie.size es) (hi : ev m ix = .t (.v (.int ik lo))) (hlo : lo < es.length) : Does P n all i m σ nx (.cut q ie.size lo es.length) σ nx := by
  intro C a w hn hs hsz hrep ro K Q hK
  have hops := mask_ev (m := m) ho'
  have hd : dstOf all i = o.dst := by simp [dstOf, ho']
  simp only [wpO, wpOpIn, ho', lets_wanted ho' hrep hl, if_true]
  rw [hd] at hK
  have rx := ev_rep hrep x
  rw [hops x (by simp [ho, Op.operands]), hx] at rx
  have hob := hs.obj q
  rw [hσ] at hob
  obtain ⟨hsz', ⟨h0, _⟩ | ⟨bl, cap, vs, E, l0, hi', q1, q2, q3, q4, q5, q6, q7⟩⟩ := hob
  · rw [h0] at hlo; simp at hlo
  generalize hu : a.eval x = u at rx
  cases rx with
  | ref hq hh =>
    rw [q2] at hh
    cases hh
    have ri := ev_rep hrep ix
    rw [hops ix (by simp [ho, Op.operands]), hi] at ri
    obtain ⟨hiv, _⟩ := rep_v ri
    have hunt : P.underlying t = some (.slice e) := by rw [← hdesc]; exact (tt_some ht).1
    have hx1 : (execOp a.eval o).run P w = .ok (.value (.slice (some ⟨bl, lo * ie.size, none⟩) (es.length - lo) (cap - lo))) w := by
      simp only [execOp, ho, hu, hiv, Option.map_some, Option.map_none, Sem.run_bind, run_from hunt he _ _ _ _ _ (Nat.le_of_lt hlo) q3, Result.andThen_ok, Sem.run_pure, sliced_part (show lo < cap by omega)]
    exact owp_value hx1 (hK _ _ C hs hn (Step.refl _ _ _) (.cut hq q1 q2))
theorem does_cutTo {all : Array Oper} {i n : Nat} {o : Oper} {m : Slots} {t e : TypeId} {x ix : Operand} {q up : Nat} {ik : IntKind} {es : List (List T)} {ie i0 : TI} {σ : Nat → AObj} {nx : Nat} (ho' : all[i]? = some o) (hl : lets all m o = some true) (ho : o.op = .slice t x none (some ix) none)
    (ht : TT P t = some i0) (hdesc : i0.desc = .slice e) (he : TT P e = some ie) (hx : ev m x = .ref q) (hσ : σ q = .arr ie.size es) (hi : ev m ix = .t (.v (.int ik up))) (hup : up ≤ es.length) (hpos : 0 < es.length) : Does P n all i m σ nx (.cut q ie.size 0 up) σ nx := by
  intro C a w hn hs hsz hrep ro K Q hK
  have hops := mask_ev (m := m) ho'
  have hd : dstOf all i = o.dst := by simp [dstOf, ho']
  simp only [wpO, wpOpIn, ho', lets_wanted ho' hrep hl, if_true]
  rw [hd] at hK
  have rx := ev_rep hrep x
  rw [hops x (by simp [ho, Op.operands]), hx] at rx
  have hob := hs.obj q
  rw [hσ] at hob
  obtain ⟨hsz', ⟨h0, _⟩ | ⟨bl, cap, vs, E, l0, hi', q1, q2, q3, q4, q5, q6, q7⟩⟩ := hob
  · rw [h0] at hpos; simp at hpos
  generalize hu : a.eval x = u at rx
  cases rx with
  | ref hq hh =>
    rw [q2] at hh
    cases hh
    have ri := ev_rep hrep ix
    rw [hops ix (by simp [ho, Op.operands]), hi] at ri
    obtain ⟨hiv, _⟩ := rep_v ri
    have hunt : P.underlying t = some (.slice e) := by rw [← hdesc]; exact (tt_some ht).1
    have hx1 : (execOp a.eval o).run P w = .ok (.value (.slice (some ⟨bl, 0 * ie.size, none⟩) (up - 0) (cap - 0))) w := by
      simp only [execOp, ho, hu, hiv, Option.map_some, Option.map_none, Sem.run_bind, run_to hunt he _ _ _ _ _ (show up ≤ cap by omega), Result.andThen_ok, Sem.run_pure, sliced_part (show 0 < cap by omega)]
    exact owp_value hx1 (hK _ _ C hs hn (Step.refl _ _ _) (.cut hq q1 q2))
/-- Elements of one cell each, written into an own row from one of its elements on. -/
theorem write_rows {C : Ctx} {σ : Nat → AObj} {w : World} (hs : Sim C σ w) {q bl cap n0 lo : Nat} {es ss : List (List T)} {vs : List Value} (hσ : σ q = .arr 1 es) (ho : C.own q = some bl) (hh : C.hdr q = .slice (some ⟨bl, 0, none⟩) n0 cap)
    (hlo : lo + ss.length ≤ es.length) (hlen : vs.length = ss.length) (hrep : ∀ (j : Nat) (y : List T) (v : Value), ss[j]? = some y → vs[j]? = some v → ∃ c, y = [c] ∧ RepT w C.imm c v) :
    ∃ w', (storeCells ⟨bl, lo, none⟩ vs 0).run P w = .ok () w' ∧ Sim C (oput σ q (.arr 1 (es.take lo ++ (ss ++ es.drop (lo + ss.length))))) w' ∧ Step C σ w C (oput σ q (.arr 1 (es.take lo ++ (ss ++ es.drop (lo + ss.length))))) w' := by
  obtain ⟨h4, h5, hsz, cur, E, l0, l1, h6, h7, h8, h9⟩ := obj_arr hs hσ ho hh
  have hone : ∀ v ∈ vs, v.oneCell' = true := by
    intro v hv
    obtain ⟨k, hk, rfl⟩ := List.getElem_of_mem hv
    obtain ⟨c, _, hc⟩ := hrep k ss[k] vs[k] (List.getElem?_eq_getElem _) (List.getElem?_eq_getElem _)
    exact repT_one hc
  obtain ⟨w', cur', e1, e2, e3, e4, e5, e6, e7, e8, e9⟩ := run_stores (P := P) bl lo E l0 l1 vs 0 cur w h6 (by omega) hone (by rw [h7]; exact h8)
  have hd : σ q ≠ .dead := by rw [hσ]; exact fun h => by cases h
  have hk : Keeps w C.imm w' C.imm := ⟨fun b h => h, fun b' h => e5 b' fun e => hs.sep q bl hd ho (e ▸ h)⟩
  have hlen' : (es.take lo ++ (ss ++ es.drop (lo + ss.length))).length = es.length := by
    rw [List.length_append, List.length_take, List.length_append, List.length_drop]; omega
  have hrows : ∀ e ∈ es.take lo ++ (ss ++ es.drop (lo + ss.length)), e.length = 1 := by
    intro e he
    rcases List.mem_append.1 he with he | he
    · exact hsz e (List.mem_of_mem_take he)
    rcases List.mem_append.1 he with he | he
    · obtain ⟨k, hk, rfl⟩ := List.getElem_of_mem he
      obtain ⟨c, hc, _⟩ := hrep k ss[k] vs[k] (List.getElem?_eq_getElem _) (List.getElem?_eq_getElem _)
      rw [hc]; rfl
    · exact hsz e (List.mem_of_mem_drop he)
  obtain ⟨g1, g2⟩ := sim_set hs hd ho e7 e8 e9 e6 e5 (obj := .arr 1 (es.take lo ++ (ss ++ es.drop (lo + ss.length)))) ⟨hrows,
    .inr ⟨bl, cap, cur', E, l0, l1, ho, by rw [hlen', hh, h4], by omega, e2, by omega, h8, fun j k y c u hy hc hu => by
      rw [e4] at hu
      have hyl := hrows y (List.mem_of_getElem? hy)
      have hkl : k < y.length := (List.getElem?_eq_some_iff.1 hc).1
      have hk0 : k = 0 := by omega
      subst hk0
      have hj : j < es.length := by rw [← hlen']; exact (List.getElem?_eq_some_iff.1 hy).1
      by_cases hjn : j < lo
      · rw [if_neg (by omega)] at hu
        rw [List.getElem?_append_left (by rw [List.length_take]; omega), List.getElem?_take, if_pos hjn] at hy
        exact (h9 _ _ _ _ _ hy hc hu).keeps hk
      · rw [List.getElem?_append_right (by rw [List.length_take]; omega), List.length_take, show min lo es.length = lo by omega] at hy
        by_cases hj2 : j < lo + ss.length
        · rw [if_pos (by omega)] at hu
          rw [List.getElem?_append_left (by omega)] at hy
          rw [show j * 1 + 0 - (lo + 0) = j - lo by omega] at hu
          obtain ⟨c', hc', hr⟩ := hrep (j - lo) y u hy hu
          rw [hc'] at hc
          simp only [List.getElem?_cons_zero, Option.some.injEq] at hc
          subst hc
          exact hr.keeps hk
        · rw [if_neg (by omega)] at hu
          rw [List.getElem?_append_right (by omega), List.getElem?_drop, show lo + ss.length + (j - lo - ss.length) = j by omega] at hy
          exact (h9 _ _ _ _ _ hy hc hu).keeps hk⟩⟩
  exact ⟨w', e1, g1, g2⟩
/-- copy within an own row, elements of one cell: all is read ahead of the writing. -/
theorem copy_rows {C : Ctx} {σ : Nat → AObj} {w : World} (hs : Sim C σ w) {t t' e ty : TypeId} {ie : TI} {q bl cap n0 lo up k : Nat} {dc sc : Nat} {es : List (List T)} (ht : P.underlying t = some (.slice e)) (he : TT P e = some ie) (h1 : ie.size = 1) (hσ : σ q = .arr 1 es) (ho : C.own q = some bl) (hh : C.hdr q = .slice (some ⟨bl, 0, none⟩) n0 cap)
    (hlo : lo + k ≤ es.length) (hk : k = Nat.min up (es.length - lo)) (hup : up ≤ es.length) :
    ∃ w', (Builtin.copy_ #[t, t'] ty #[.slice (some ⟨bl, lo, none⟩) (es.length - lo) dc, .slice (some ⟨bl, 0, none⟩) up sc]).run P w = .ok (goInt k) w' ∧ Sim C (oput σ q (.arr 1 (es.take lo ++ (es.take k ++ es.drop (lo + k))))) w' ∧ Step C σ w C (oput σ q (.arr 1 (es.take lo ++ (es.take k ++ es.drop (lo + k))))) w' := by
  obtain ⟨h4, h5, hsz, cur, E, l0, l1, h6, h7, h8, h9⟩ := obj_arr hs hσ ho hh
  have hku : k ≤ up := by rw [hk]; exact Nat.min_le_left _ _
  have hlen : (cur.toList.take k).length = (es.take k).length := by
    rw [List.length_take, List.length_take, Array.length_toList, h7]; omega
  have hkl : (es.take k).length = k := by rw [List.length_take]; omega
  obtain ⟨w', e1, e2, e3⟩ := write_rows (P := P) (lo := lo) (ss := es.take k) (vs := cur.toList.take k) hs hσ ho hh (by rw [hkl]; exact hlo) hlen fun j y v hy hv => by
    have hj : j < k := by
      have := (List.getElem?_eq_some_iff.1 hy).1
      omega
    rw [List.getElem?_take, if_pos hj] at hy hv
    have hyl := hsz y (List.mem_of_getElem? hy)
    obtain ⟨c, rfl⟩ : ∃ c, y = [c] := by
      match y, hyl with
      | [c], _ => exact ⟨c, rfl⟩
    rw [Array.getElem?_toList] at hv
    exact ⟨c, rfl, h9 j 0 [c] c v hy rfl (by simpa using hv)⟩
  rw [hkl] at e2 e3
  refine ⟨w', ?_, e2, e3⟩
  have hsrc : ∀ (j : Nat) (v : Value), (cur.toList.take k)[j]? = some v → w.cell? ((⟨bl, 0, none⟩ : Addr).add j) = some v := by
    intro j v hv
    rw [add_base]
    have hj : j < k := by
      have := (List.getElem?_eq_some_iff.1 hv).1
      omega
    rw [List.getElem?_take, if_pos hj, Array.getElem?_toList] at hv
    simp [World.cell?, h6, hv]
  have hl := run_loadCells_list (P := P) w ⟨bl, 0, none⟩ (cur.toList.take k) hsrc
  have hkl2 : (cur.toList.take k).length = k := by rw [hlen, hkl]
  rw [hkl2] at hl
  have hsize := run_size he (w := w)
  rw [h1] at hsize
  simp [Builtin.copy_, run_underlying ht, Builtin.lenOf, Builtin.firstCells, hsize, ← hk, hl, e1]
theorem does_copyPart {all : Array Oper} {i n : Nat} {o : Oper} {m : Slots} {c : Call} {x y : Operand} {t t' e : TypeId} {i0 ie : TI} {q lo up k : Nat} {es : List (List T)} {σ : Nat → AObj} {nx : Nat} (ho' : all[i]? = some o) (hl : lets all m o = some true) (ho : o.op = .call c) (hc : c.callee = .builtin .copy) (ha : c.args = #[x, y]) (hy : c.argTypes = #[t, t'])
    (ht : TT P t = some i0) (hdesc : i0.desc = .slice e) (he : TT P e = some ie) (h1 : ie.size = 1) (hx : ev m x = .cut q 1 lo es.length) (hyv : ev m y = .cut q 1 0 up) (hσ : σ q = .arr 1 es) (hlo : lo + k ≤ es.length) (hk : k = Nat.min up (es.length - lo)) (hup : up ≤ es.length) :
    Does P n all i m σ nx (.t (.v (.int .i64 k))) (oput σ q (.arr 1 (es.take lo ++ (es.take k ++ es.drop (lo + k))))) nx := by
  intro C a w hn hs hsz hrep ro K Q hK
  have hops := mask_ev (m := m) ho'
  have hd : dstOf all i = o.dst := by simp [dstOf, ho']
  simp only [wpO, wpOpIn, ho', lets_wanted ho' hrep hl, if_true]
  rw [hd] at hK
  have rx := ev_rep hrep x
  have ry := ev_rep hrep y
  rw [hops x (by simp [ho, Op.operands, Call.operands, ha, hc]), hx] at rx
  rw [hops y (by simp [ho, Op.operands, Call.operands, ha, hc]), hyv] at ry
  have hunt : P.underlying t = some (.slice e) := by rw [← hdesc]; exact (tt_some ht).1
  generalize hu : a.eval x = u at rx
  generalize hv : a.eval y = v at ry
  cases rx with
  | @cut _ _ _ _ bl n0 cap b1 b2 b3 =>
    cases ry with
    | cut d1 d2 d3 =>
      rw [b2] at d2
      cases d2
      rw [b3] at d3
      cases d3
      obtain ⟨w', e1, e2, e3⟩ := copy_rows (P := P) (t := t) (t' := t') (ty := o.type) (dc := cap - lo) (sc := cap) hs hunt he h1 hσ b2 b3 hlo hk hup
      have hx2 : (execOp a.eval o).run P w = .ok (.value (goInt k)) w' := by
        obtain ⟨dst, op, type, pos, after, guard⟩ := o
        simp only at ho
        subst ho
        simp only at e1
        have hv' : ∀ ρ, execOp ρ ⟨dst, .call c, type, pos, after, guard⟩ = (do let d ← resolve ρ c type; invoke d.target d.args) := fun ρ => rfl
        rw [hv']
        simp only [resolve, hc, Sem.run_bind, Sem.run_pure, Result.andThen_ok, invoke, builtin, ha, hy, List.map_toArray, List.map_cons, List.map_nil, hu, hv, Nat.mul_one, Nat.sub_zero, Nat.zero_mul, e1]
      exact owp_value hx2 (hK _ _ C e2 hn e3 (.t (.v rfl)))
/-- copy of a row that isn't written onto the front of an own row, elements of one cell. -/
theorem copy_tree {C : Ctx} {σ : Nat → AObj} {w : World} (hs : Sim C σ w) {t t' e ty : TypeId} {ie : TI} {q bl cap n0 dc : Nat} {es ys : List (List T)} {u : Value} (ht : P.underlying t = some (.slice e)) (he : TT P e = some ie) (h1 : ie.size = 1) (hσ : σ q = .arr 1 es) (ho : C.own q = some bl) (hh : C.hdr q = .slice (some ⟨bl, 0, none⟩) n0 cap)
    (hu : RepT w C.imm (.sl ys) u) (hy : ∀ y ∈ ys, y.length = 1) (hpos : 0 < ys.length) (hle : ys.length ≤ es.length) :
    ∃ w', (Builtin.copy_ #[t, t'] ty #[.slice (some ⟨bl, 0, none⟩) es.length dc, u]).run P w = .ok (goInt ys.length) w' ∧ Sim C (oput σ q (.arr 1 (ys ++ es.drop ys.length))) w' ∧ Step C σ w C (oput σ q (.arr 1 (ys ++ es.drop ys.length))) w' := by
  cases hu with
  | nil => simp at hpos
  | @sl _ ad cap2 sz un h0 hsz hc himm hcell hr =>
    have hsz1 : sz = 1 := by
      have a1 := hsz ys[0] (List.getElem_mem _)
      have a2 := hy ys[0] (List.getElem_mem _)
      omega
    subst hsz1
    obtain ⟨w', e1, e2, e3⟩ := write_rows (P := P) (lo := 0) (ss := ys) (vs := (List.range ys.length).map un) hs hσ ho hh (by omega) (by simp) fun j y v hj hv => by
      have hjl := (List.getElem?_eq_some_iff.1 hj).1
      rw [List.getElem?_map, List.getElem?_range hjl] at hv
      cases hv
      have hyl := hy y (List.mem_of_getElem? hj)
      obtain ⟨c, rfl⟩ : ∃ c, y = [c] := by
        match y, hyl with
        | [c], _ => exact ⟨c, rfl⟩
      have := hr j 0 [c] c hj rfl
      rw [Nat.mul_one, Nat.add_zero] at this
      exact ⟨c, rfl, this⟩
    rw [List.take_zero, List.nil_append, Nat.zero_add] at e2 e3
    refine ⟨w', ?_, e2, e3⟩
    have hsrc : ∀ (j : Nat) (v : Value), ((List.range ys.length).map un)[j]? = some v → w.cell? (ad.add j) = some v := by
      intro j v hv
      have hjl : j < ys.length := by
        have := (List.getElem?_eq_some_iff.1 hv).1
        simpa using this
      rw [List.getElem?_map, List.getElem?_range hjl] at hv
      cases hv
      exact hcell j (by omega)
    have hl := run_loadCells_list (P := P) w ad _ hsrc
    have hll : ((List.range ys.length).map un).length = ys.length := by simp
    rw [hll] at hl
    have hsize := run_size he (w := w)
    rw [h1] at hsize
    have hmin : Nat.min ys.length es.length = ys.length := Nat.min_eq_left hle
    simp [Builtin.copy_, run_underlying ht, Builtin.lenOf, Builtin.firstCells, hsize, hmin, hl, e1]
end
section
variable {P : Program} {B : Base} {k : List KI} {R : Post} {s : St} {all : Array Oper} {o : Oper} {lo : List Nat} {sw : SW} {rest : List (Nat × Oper)} {i : Nat} {pend : List Rc} {v : AV}
/-- A look that is no operation of evalS. -/
theorem K_dLook (hd : all[i]? = some o → Does P B.n all i s.m s.σ s.nx v s.σ s.nx) (ht : tied all lo i = true) (h : Kp P B (.opsD all lo sw rest pend :: k) R .normal ⟨put s.m o.dst v, s.σ, s.nx⟩) : Kp P B (.opsD all lo sw ((i, o) :: rest) pend :: k) R .normal s :=
  Chain.at fun ho => Chain.step (loud := none) (hd ho) (fun _ => .inr (by
    simp only [tied, List.all_eq_true, Bool.and_eq_true, Bool.or_eq_true, Bool.not_eq_true', decide_eq_false_iff_not] at ht
    exact ⟨fun k hk h => ((ht k hk).1).resolve_left (fun e => e h), .inl fun k hk h => ((ht k hk).2).resolve_left (fun e => e h)⟩)) (fun c hc => by cases hc) (fun _ h => h) h
/-- A loud operation that is none of evalS. -/
theorem K_dTold {σ' : Nat → AObj} {nx' : Nat} (hd : all[i]? = some o → Does P B.n all i s.m s.σ s.nx v σ' nx') (hi : i ∈ lo) (hp : ∀ q ∈ pend, anc all q.i i = true ∨ Does P B.n all q.i q.m σ' nx' q.v σ' nx')
    (h : Kp P B (.opsD all lo sw rest pend :: k) R .normal ⟨put s.m o.dst v, σ', nx'⟩) : Kp P B (.opsD all lo sw ((i, o) :: rest) pend :: k) R .normal s :=
  Chain.at fun ho => Chain.step (loud := some (σ', nx')) (hd ho) (fun hc => by cases hc) (fun c hc => by cases hc; exact ⟨hi, hp⟩) (fun _ h => h) h
theorem K_copyT {t t' e : TypeId} {x y : Operand} {c : Call} {i0 ie : TI} {q : Nat} {es ys : List (List T)} {ops : List Oper} (hg : o.guard = none) (ho : o.op = .call c) (hc : c.callee = .builtin .copy) (ha : c.args = #[x, y]) (hy : c.argTypes = #[t, t']) (hb : dOk B.n o.dst = true)
    (ht : TT P t = some i0) (hdesc : i0.desc = .slice e) (he : TT P e = some ie) (h1 : ie.size = 1) (hx : ev s.m x = .ref q) (hyv : ev s.m y = .fsl ys) (hσ : s.σ q = .arr 1 es) (hyl : ∀ y ∈ ys, y.length = 1) (hpos : 0 < ys.length) (hle : ys.length ≤ es.length)
    (h : Kp P B (.ops all ops :: k) R .normal ⟨put s.m o.dst (.t (.v (.int .i64 ys.length))), oput s.σ q (.arr 1 (ys ++ es.drop ys.length)), s.nx⟩) : Kp P B (.ops all (o :: ops) :: k) R .normal s := by
  intro a w hr
  obtain ⟨C, g1, g2, g3, g4, g5, g6⟩ := hr
  have rx := ev_rep g2 x
  have ry := ev_rep g2 y
  rw [hx] at rx
  rw [hyv] at ry
  have hob := g5.obj q
  rw [hσ] at hob
  obtain ⟨hsz, ⟨h0, _⟩ | ⟨bl, cap, vs, E, lo, hi', q1, q2, q3, q4, q5, q6, q7⟩⟩ := hob
  · rw [h0] at hle; simp at hle; rw [hle] at hpos; simp at hpos
  have hunt : P.underlying t = some (.slice e) := by rw [← hdesc]; exact (tt_some ht).1
  generalize hu : a.eval x = u at rx
  generalize hv : a.eval y = v at ry
  cases rx with
  | ref hq hh =>
    rw [q2] at hh
    cases hh
    cases ry with
    | @fsl _ ad hrt =>
      obtain ⟨w', e1, e2, e3⟩ := copy_tree (P := P) (t := t) (t' := t') (ty := o.type) (dc := cap) g5 hunt he h1 hσ q1 q2 hrt hyl hpos hle
      refine wpL_plain hg fun K hK => ?_
      have hx2 : (execOp a.eval o).run P w = .ok (.value (goInt ys.length)) w' := by
        obtain ⟨dst, op, type, pos, after, guard⟩ := o
        simp only at ho
        subst ho
        simp only at e1
        have hv' : ∀ ρ, execOp ρ ⟨dst, .call c, type, pos, after, guard⟩ = (do let d ← resolve ρ c type; invoke d.target d.args) := fun ρ => rfl
        rw [hv']
        simp only [resolve, hc, Sem.run_bind, Sem.run_pure, Result.andThen_ok, invoke, builtin, ha, hy, List.map_toArray, List.map_cons, List.map_nil, hu, hv, e1]
      refine owp_value hx2 ?_
      have p2 := put_rep (a := a) g5 e3 g2 (d := o.dst) (by rw [g3]; exact hb) (v := .t (.v (.int .i64 ys.length))) (u := goInt ys.length) (.t (.v rfl))
      exact hK _ _ (h _ _ ⟨C, g1, p2, by rw [put_size]; exact g3, by rw [put_def]; exact g4.step e3, e2, g6.trans e3⟩)
end
end Go.Proofs.YtlhmchdfmjfmgaaGreat.R

/- R37: a write into a map, in a region that draws its order. -/
namespace Go.Proofs.YtlhmchdfmjfmgaaGreat.R
open Go.RowKit
section
variable {P : Program}
end
section
variable {P : Program} {B : Base} {s : St}
theorem Imp.own {t sz : Nat} (h : s.m t = .fsl []) : Imp B s ⟨put s.m (some t) (.ref s.nx), oput s.σ s.nx (.arr sz []), s.nx + 1⟩ := fun _ _ hr => rel_own h hr
end
end Go.Proofs.YtlhmchdfmjfmgaaGreat.R

/- The types of this seat's program, as the abstract side knows them: printed by wip/tools/types.py. -/
set_option maxRecDepth 20000
namespace Go.Proofs.YtlhmchdfmjfmgaaGreat
open Go Go.Proofs.YtlhmchdfmjfmgaaGreat.R
noncomputable abbrev P : Program := Tryz.prog
theorem tt1 : TT P 1 = some ⟨Go.TypeDesc.func #[] #[] Bool.false, 1, 8, Go.Value.nilFunc⟩ := by kernel_rfl
theorem tt2 : TT P 2 = some ⟨Go.TypeDesc.int Go.IntKind.i64, 1, 8, (Go.Value.int Go.IntKind.i64 0)⟩ := by kernel_rfl
theorem tt3 : TT P 3 = some ⟨Go.TypeDesc.int Go.IntKind.i64, 1, 8, (Go.Value.int Go.IntKind.i64 0)⟩ := by kernel_rfl
theorem tt4 : TT P 4 = some ⟨Go.TypeDesc.bool, 1, 1, (Go.Value.bool Bool.false)⟩ := by kernel_rfl
theorem tt5 : TT P 5 = some ⟨Go.TypeDesc.int Go.IntKind.u8, 1, 1, (Go.Value.int Go.IntKind.u8 0)⟩ := by kernel_rfl
theorem tt6 : TT P 6 = some ⟨Go.TypeDesc.int Go.IntKind.u8, 1, 1, (Go.Value.int Go.IntKind.u8 0)⟩ := by kernel_rfl
theorem tt7 : TT P 7 = some ⟨Go.TypeDesc.struct #[{ name := "x", type := 2, offset := 0, embedded := Bool.false, tag := "", pkgPath := "runtime", byteOffset := 0 }, { name := "y", type := 3, offset := 1, embedded := Bool.false, tag := "", pkgPath := "runtime", byteOffset := 8 }, { name := "signed", type := 4, offset := 2, embedded := Bool.false, tag := "", pkgPath := "runtime", byteOffset := 16 }, { name := "code", type := 6, offset := 3, embedded := Bool.false, tag := "", pkgPath := "runtime", byteOffset := 17 }], 4, 24, (Go.Value.agg #[Go.Value.int Go.IntKind.i64 0, Go.Value.int Go.IntKind.i64 0, Go.Value.bool Bool.false, Go.Value.int Go.IntKind.u8 0])⟩ := by kernel_rfl
theorem tt8 : TT P 8 = some ⟨Go.TypeDesc.struct #[{ name := "x", type := 2, offset := 0, embedded := Bool.false, tag := "", pkgPath := "runtime", byteOffset := 0 }, { name := "y", type := 3, offset := 1, embedded := Bool.false, tag := "", pkgPath := "runtime", byteOffset := 8 }, { name := "signed", type := 4, offset := 2, embedded := Bool.false, tag := "", pkgPath := "runtime", byteOffset := 16 }, { name := "code", type := 6, offset := 3, embedded := Bool.false, tag := "", pkgPath := "runtime", byteOffset := 17 }], 4, 24, (Go.Value.agg #[Go.Value.int Go.IntKind.i64 0, Go.Value.int Go.IntKind.i64 0, Go.Value.bool Bool.false, Go.Value.int Go.IntKind.u8 0])⟩ := by kernel_rfl
theorem tt9 : TT P 9 = some ⟨Go.TypeDesc.string, 1, 16, (Go.Value.string { data := #[] })⟩ := by kernel_rfl
theorem tt10 : TT P 10 = some ⟨Go.TypeDesc.string, 1, 16, (Go.Value.string { data := #[] })⟩ := by kernel_rfl
theorem tt11 : TT P 11 = some ⟨Go.TypeDesc.string, 1, 16, (Go.Value.string { data := #[] })⟩ := by kernel_rfl
theorem tt12 : TT P 12 = some ⟨Go.TypeDesc.int Go.IntKind.u64, 1, 8, (Go.Value.int Go.IntKind.u64 0)⟩ := by kernel_rfl
theorem tt13 : TT P 13 = some ⟨Go.TypeDesc.struct #[{ name := "msg", type := 9, offset := 0, embedded := Bool.false, tag := "", pkgPath := "runtime", byteOffset := 0 }, { name := "addr", type := 12, offset := 1, embedded := Bool.false, tag := "", pkgPath := "runtime", byteOffset := 16 }], 2, 24, (Go.Value.agg #[Go.Value.string { data := #[] }, Go.Value.int Go.IntKind.u64 0])⟩ := by kernel_rfl
theorem tt14 : TT P 14 = some ⟨Go.TypeDesc.struct #[{ name := "msg", type := 9, offset := 0, embedded := Bool.false, tag := "", pkgPath := "runtime", byteOffset := 0 }, { name := "addr", type := 12, offset := 1, embedded := Bool.false, tag := "", pkgPath := "runtime", byteOffset := 16 }], 2, 24, (Go.Value.agg #[Go.Value.string { data := #[] }, Go.Value.int Go.IntKind.u64 0])⟩ := by kernel_rfl
theorem tt15 : TT P 15 = some ⟨Go.TypeDesc.pointer 154, 1, 8, (Go.Value.pointer Option.none)⟩ := by kernel_rfl
theorem tt16 : TT P 16 = some ⟨Go.TypeDesc.pointer 157, 1, 8, (Go.Value.pointer Option.none)⟩ := by kernel_rfl
theorem tt17 : TT P 17 = some ⟨Go.TypeDesc.pointer 166, 1, 8, (Go.Value.pointer Option.none)⟩ := by kernel_rfl
theorem tt18 : TT P 18 = some ⟨Go.TypeDesc.struct #[{ name := "typ", type := 17, offset := 0, embedded := Bool.false, tag := "", pkgPath := "internal/runtime/maps", byteOffset := 0 }], 1, 8, (Go.Value.agg #[Go.Value.pointer Option.none])⟩ := by kernel_rfl
theorem tt19 : TT P 19 = some ⟨Go.TypeDesc.struct #[{ name := "typ", type := 17, offset := 0, embedded := Bool.false, tag := "", pkgPath := "internal/runtime/maps", byteOffset := 0 }], 1, 8, (Go.Value.agg #[Go.Value.pointer Option.none])⟩ := by kernel_rfl
theorem tt21 : TT P 21 = some ⟨Go.TypeDesc.int Go.IntKind.i32, 1, 4, (Go.Value.int Go.IntKind.i32 0)⟩ := by kernel_rfl
theorem tt22 : TT P 22 = some ⟨Go.TypeDesc.slice 69, 1, 24, (Go.Value.slice Option.none 0 0)⟩ := by kernel_rfl
theorem tt23 : TT P 23 = some ⟨Go.TypeDesc.struct #[{ name := "Pairs", type := 3, offset := 0, embedded := Bool.false, tag := "", pkgPath := "", byteOffset := 0 }, { name := "Cars", type := 3, offset := 1, embedded := Bool.false, tag := "", pkgPath := "", byteOffset := 8 }, { name := "Room", type := 3, offset := 2, embedded := Bool.false, tag := "", pkgPath := "", byteOffset := 16 }, { name := "Stops", type := 22, offset := 3, embedded := Bool.false, tag := "", pkgPath := "", byteOffset := 24 }], 4, 48, (Go.Value.agg #[Go.Value.int Go.IntKind.i64 0, Go.Value.int Go.IntKind.i64 0, Go.Value.int Go.IntKind.i64 0, Go.Value.slice Option.none 0 0])⟩ := by kernel_rfl
theorem tt24 : TT P 24 = some ⟨Go.TypeDesc.struct #[{ name := "Pairs", type := 3, offset := 0, embedded := Bool.false, tag := "", pkgPath := "", byteOffset := 0 }, { name := "Cars", type := 3, offset := 1, embedded := Bool.false, tag := "", pkgPath := "", byteOffset := 8 }, { name := "Room", type := 3, offset := 2, embedded := Bool.false, tag := "", pkgPath := "", byteOffset := 16 }, { name := "Stops", type := 22, offset := 3, embedded := Bool.false, tag := "", pkgPath := "", byteOffset := 24 }], 4, 48, (Go.Value.agg #[Go.Value.int Go.IntKind.i64 0, Go.Value.int Go.IntKind.i64 0, Go.Value.int Go.IntKind.i64 0, Go.Value.slice Option.none 0 0])⟩ := by kernel_rfl
theorem tt25 : TT P 25 = some ⟨Go.TypeDesc.slice 46, 1, 24, (Go.Value.slice Option.none 0 0)⟩ := by kernel_rfl
theorem tt26 : TT P 26 = some ⟨Go.TypeDesc.struct #[{ name := "Least", type := 3, offset := 0, embedded := Bool.false, tag := "", pkgPath := "", byteOffset := 0 }, { name := "Parts", type := 25, offset := 1, embedded := Bool.false, tag := "", pkgPath := "", byteOffset := 8 }], 2, 32, (Go.Value.agg #[Go.Value.int Go.IntKind.i64 0, Go.Value.slice Option.none 0 0])⟩ := by kernel_rfl
theorem tt27 : TT P 27 = some ⟨Go.TypeDesc.struct #[{ name := "Least", type := 3, offset := 0, embedded := Bool.false, tag := "", pkgPath := "", byteOffset := 0 }, { name := "Parts", type := 25, offset := 1, embedded := Bool.false, tag := "", pkgPath := "", byteOffset := 8 }], 2, 32, (Go.Value.agg #[Go.Value.int Go.IntKind.i64 0, Go.Value.slice Option.none 0 0])⟩ := by kernel_rfl
theorem tt28 : TT P 28 = some ⟨Go.TypeDesc.func #[] #[4] Bool.false, 1, 8, Go.Value.nilFunc⟩ := by kernel_rfl
theorem tt29 : TT P 29 = some ⟨Go.TypeDesc.func #[27] #[4] Bool.false, 1, 8, Go.Value.nilFunc⟩ := by kernel_rfl
theorem tt30 : TT P 30 = some ⟨Go.TypeDesc.int Go.IntKind.i64, 1, 8, (Go.Value.int Go.IntKind.i64 0)⟩ := by kernel_rfl
theorem tt31 : TT P 31 = some ⟨Go.TypeDesc.func #[24, 27] #[30] Bool.false, 1, 8, Go.Value.nilFunc⟩ := by kernel_rfl
theorem tt32 : TT P 32 = some ⟨Go.TypeDesc.func #[24, 27] #[4] Bool.false, 1, 8, Go.Value.nilFunc⟩ := by kernel_rfl
theorem tt34 : TT P 34 = some ⟨Go.TypeDesc.func #[35] #[24, 30] Bool.false, 1, 8, Go.Value.nilFunc⟩ := by kernel_rfl
theorem tt35 : TT P 35 = some ⟨Go.TypeDesc.slice 5, 1, 24, (Go.Value.slice Option.none 0 0)⟩ := by kernel_rfl
theorem tt36 : TT P 36 = some ⟨Go.TypeDesc.func #[] #[9] Bool.false, 1, 8, Go.Value.nilFunc⟩ := by kernel_rfl
theorem tt37 : TT P 37 = some ⟨Go.TypeDesc.func #[24, 43] #[27] Bool.false, 1, 8, Go.Value.nilFunc⟩ := by kernel_rfl
theorem tt38 : TT P 38 = some ⟨Go.TypeDesc.slice 55, 1, 24, (Go.Value.slice Option.none 0 0)⟩ := by kernel_rfl
theorem tt39 : TT P 39 = some ⟨Go.TypeDesc.struct #[{ name := "Routes", type := 38, offset := 0, embedded := Bool.false, tag := "", pkgPath := "", byteOffset := 0 }], 1, 24, (Go.Value.agg #[Go.Value.slice Option.none 0 0])⟩ := by kernel_rfl
theorem tt40 : TT P 40 = some ⟨Go.TypeDesc.struct #[{ name := "Routes", type := 38, offset := 0, embedded := Bool.false, tag := "", pkgPath := "", byteOffset := 0 }], 1, 24, (Go.Value.agg #[Go.Value.slice Option.none 0 0])⟩ := by kernel_rfl
theorem tt41 : TT P 41 = some ⟨Go.TypeDesc.slice 79, 1, 24, (Go.Value.slice Option.none 0 0)⟩ := by kernel_rfl
theorem tt42 : TT P 42 = some ⟨Go.TypeDesc.struct #[{ name := "Status", type := 3, offset := 0, embedded := Bool.false, tag := "", pkgPath := "", byteOffset := 0 }, { name := "P", type := 40, offset := 1, embedded := Bool.false, tag := "", pkgPath := "", byteOffset := 8 }, { name := "Up", type := 3, offset := 2, embedded := Bool.false, tag := "", pkgPath := "", byteOffset := 32 }, { name := "Low", type := 3, offset := 3, embedded := Bool.false, tag := "", pkgPath := "", byteOffset := 40 }, { name := "Steps", type := 3, offset := 4, embedded := Bool.false, tag := "", pkgPath := "", byteOffset := 48 }, { name := "Log", type := 41, offset := 5, embedded := Bool.false, tag := "", pkgPath := "", byteOffset := 56 }], 6, 80, (Go.Value.agg #[Go.Value.int Go.IntKind.i64 0, Go.Value.slice Option.none 0 0, Go.Value.int Go.IntKind.i64 0, Go.Value.int Go.IntKind.i64 0, Go.Value.int Go.IntKind.i64 0, Go.Value.slice Option.none 0 0])⟩ := by kernel_rfl
theorem tt43 : TT P 43 = some ⟨Go.TypeDesc.struct #[{ name := "Status", type := 3, offset := 0, embedded := Bool.false, tag := "", pkgPath := "", byteOffset := 0 }, { name := "P", type := 40, offset := 1, embedded := Bool.false, tag := "", pkgPath := "", byteOffset := 8 }, { name := "Up", type := 3, offset := 2, embedded := Bool.false, tag := "", pkgPath := "", byteOffset := 32 }, { name := "Low", type := 3, offset := 3, embedded := Bool.false, tag := "", pkgPath := "", byteOffset := 40 }, { name := "Steps", type := 3, offset := 4, embedded := Bool.false, tag := "", pkgPath := "", byteOffset := 48 }, { name := "Log", type := 41, offset := 5, embedded := Bool.false, tag := "", pkgPath := "", byteOffset := 56 }], 6, 80, (Go.Value.agg #[Go.Value.int Go.IntKind.i64 0, Go.Value.slice Option.none 0 0, Go.Value.int Go.IntKind.i64 0, Go.Value.int Go.IntKind.i64 0, Go.Value.int Go.IntKind.i64 0, Go.Value.slice Option.none 0 0])⟩ := by kernel_rfl
theorem tt44 : TT P 44 = some ⟨Go.TypeDesc.slice 52, 1, 24, (Go.Value.slice Option.none 0 0)⟩ := by kernel_rfl
theorem tt45 : TT P 45 = some ⟨Go.TypeDesc.struct #[{ name := "Layers", type := 44, offset := 0, embedded := Bool.false, tag := "", pkgPath := "", byteOffset := 0 }], 1, 24, (Go.Value.agg #[Go.Value.slice Option.none 0 0])⟩ := by kernel_rfl
theorem tt46 : TT P 46 = some ⟨Go.TypeDesc.struct #[{ name := "Layers", type := 44, offset := 0, embedded := Bool.false, tag := "", pkgPath := "", byteOffset := 0 }], 1, 24, (Go.Value.agg #[Go.Value.slice Option.none 0 0])⟩ := by kernel_rfl
theorem tt47 : TT P 47 = some ⟨Go.TypeDesc.int Go.IntKind.u64, 1, 8, (Go.Value.int Go.IntKind.u64 0)⟩ := by kernel_rfl
theorem tt48 : TT P 48 = some ⟨Go.TypeDesc.struct #[{ name := "At", type := 3, offset := 0, embedded := Bool.false, tag := "", pkgPath := "", byteOffset := 0 }, { name := "Car", type := 3, offset := 1, embedded := Bool.false, tag := "", pkgPath := "", byteOffset := 8 }, { name := "Time", type := 3, offset := 2, embedded := Bool.false, tag := "", pkgPath := "", byteOffset := 16 }, { name := "Load", type := 3, offset := 3, embedded := Bool.false, tag := "", pkgPath := "", byteOffset := 24 }, { name := "First", type := 3, offset := 4, embedded := Bool.false, tag := "", pkgPath := "", byteOffset := 32 }, { name := "Must", type := 47, offset := 5, embedded := Bool.false, tag := "", pkgPath := "", byteOffset := 40 }, { name := "May", type := 47, offset := 6, embedded := Bool.false, tag := "", pkgPath := "", byteOffset := 48 }, { name := "On", type := 47, offset := 7, embedded := Bool.false, tag := "", pkgPath := "", byteOffset := 56 }], 8, 64, (Go.Value.agg #[Go.Value.int Go.IntKind.i64 0, Go.Value.int Go.IntKind.i64 0, Go.Value.int Go.IntKind.i64 0, Go.Value.int Go.IntKind.i64 0, Go.Value.int Go.IntKind.i64 0, Go.Value.int Go.IntKind.u64 0, Go.Value.int Go.IntKind.u64 0, Go.Value.int Go.IntKind.u64 0])⟩ := by kernel_rfl
theorem tt49 : TT P 49 = some ⟨Go.TypeDesc.struct #[{ name := "At", type := 3, offset := 0, embedded := Bool.false, tag := "", pkgPath := "", byteOffset := 0 }, { name := "Car", type := 3, offset := 1, embedded := Bool.false, tag := "", pkgPath := "", byteOffset := 8 }, { name := "Time", type := 3, offset := 2, embedded := Bool.false, tag := "", pkgPath := "", byteOffset := 16 }, { name := "Load", type := 3, offset := 3, embedded := Bool.false, tag := "", pkgPath := "", byteOffset := 24 }, { name := "First", type := 3, offset := 4, embedded := Bool.false, tag := "", pkgPath := "", byteOffset := 32 }, { name := "Must", type := 47, offset := 5, embedded := Bool.false, tag := "", pkgPath := "", byteOffset := 40 }, { name := "May", type := 47, offset := 6, embedded := Bool.false, tag := "", pkgPath := "", byteOffset := 48 }, { name := "On", type := 47, offset := 7, embedded := Bool.false, tag := "", pkgPath := "", byteOffset := 56 }], 8, 64, (Go.Value.agg #[Go.Value.int Go.IntKind.i64 0, Go.Value.int Go.IntKind.i64 0, Go.Value.int Go.IntKind.i64 0, Go.Value.int Go.IntKind.i64 0, Go.Value.int Go.IntKind.i64 0, Go.Value.int Go.IntKind.u64 0, Go.Value.int Go.IntKind.u64 0, Go.Value.int Go.IntKind.u64 0])⟩ := by kernel_rfl
theorem tt50 : TT P 50 = some ⟨Go.TypeDesc.struct #[{ name := "S", type := 49, offset := 0, embedded := Bool.false, tag := "", pkgPath := "", byteOffset := 0 }, { name := "Cost", type := 3, offset := 8, embedded := Bool.false, tag := "", pkgPath := "", byteOffset := 64 }, { name := "Part", type := 3, offset := 9, embedded := Bool.false, tag := "", pkgPath := "", byteOffset := 72 }], 10, 80, (Go.Value.agg #[Go.Value.int Go.IntKind.i64 0, Go.Value.int Go.IntKind.i64 0, Go.Value.int Go.IntKind.i64 0, Go.Value.int Go.IntKind.i64 0, Go.Value.int Go.IntKind.i64 0, Go.Value.int Go.IntKind.u64 0, Go.Value.int Go.IntKind.u64 0, Go.Value.int Go.IntKind.u64 0, Go.Value.int Go.IntKind.i64 0, Go.Value.int Go.IntKind.i64 0])⟩ := by kernel_rfl
theorem tt51 : TT P 51 = some ⟨Go.TypeDesc.struct #[{ name := "S", type := 49, offset := 0, embedded := Bool.false, tag := "", pkgPath := "", byteOffset := 0 }, { name := "Cost", type := 3, offset := 8, embedded := Bool.false, tag := "", pkgPath := "", byteOffset := 64 }, { name := "Part", type := 3, offset := 9, embedded := Bool.false, tag := "", pkgPath := "", byteOffset := 72 }], 10, 80, (Go.Value.agg #[Go.Value.int Go.IntKind.i64 0, Go.Value.int Go.IntKind.i64 0, Go.Value.int Go.IntKind.i64 0, Go.Value.int Go.IntKind.i64 0, Go.Value.int Go.IntKind.i64 0, Go.Value.int Go.IntKind.u64 0, Go.Value.int Go.IntKind.u64 0, Go.Value.int Go.IntKind.u64 0, Go.Value.int Go.IntKind.i64 0, Go.Value.int Go.IntKind.i64 0])⟩ := by kernel_rfl
theorem tt52 : TT P 52 = some ⟨Go.TypeDesc.slice 51, 1, 24, (Go.Value.slice Option.none 0 0)⟩ := by kernel_rfl
theorem tt53 : TT P 53 = some ⟨Go.TypeDesc.func #[24] #[49] Bool.false, 1, 8, Go.Value.nilFunc⟩ := by kernel_rfl
theorem tt54 : TT P 54 = some ⟨Go.TypeDesc.pointer 57, 1, 8, (Go.Value.pointer Option.none)⟩ := by kernel_rfl
theorem tt55 : TT P 55 = some ⟨Go.TypeDesc.slice 3, 1, 24, (Go.Value.slice Option.none 0 0)⟩ := by kernel_rfl
theorem tt56 : TT P 56 = some ⟨Go.TypeDesc.struct #[{ name := "x", type := 24, offset := 0, embedded := Bool.false, tag := "", pkgPath := "haulier/proof", byteOffset := 0 }, { name := "p", type := 27, offset := 4, embedded := Bool.false, tag := "", pkgPath := "haulier/proof", byteOffset := 48 }, { name := "deep", type := 55, offset := 6, embedded := Bool.false, tag := "", pkgPath := "haulier/proof", byteOffset := 80 }], 7, 104, (Go.Value.agg #[Go.Value.int Go.IntKind.i64 0, Go.Value.int Go.IntKind.i64 0, Go.Value.int Go.IntKind.i64 0, Go.Value.slice Option.none 0 0, Go.Value.int Go.IntKind.i64 0, Go.Value.slice Option.none 0 0, Go.Value.slice Option.none 0 0])⟩ := by kernel_rfl
theorem tt57 : TT P 57 = some ⟨Go.TypeDesc.struct #[{ name := "x", type := 24, offset := 0, embedded := Bool.false, tag := "", pkgPath := "haulier/proof", byteOffset := 0 }, { name := "p", type := 27, offset := 4, embedded := Bool.false, tag := "", pkgPath := "haulier/proof", byteOffset := 48 }, { name := "deep", type := 55, offset := 6, embedded := Bool.false, tag := "", pkgPath := "haulier/proof", byteOffset := 80 }], 7, 104, (Go.Value.agg #[Go.Value.int Go.IntKind.i64 0, Go.Value.int Go.IntKind.i64 0, Go.Value.int Go.IntKind.i64 0, Go.Value.slice Option.none 0 0, Go.Value.int Go.IntKind.i64 0, Go.Value.slice Option.none 0 0, Go.Value.slice Option.none 0 0])⟩ := by kernel_rfl
theorem tt58 : TT P 58 = some ⟨Go.TypeDesc.func #[46] #[4] Bool.false, 1, 8, Go.Value.nilFunc⟩ := by kernel_rfl
theorem tt59 : TT P 59 = some ⟨Go.TypeDesc.func #[24] #[4] Bool.false, 1, 8, Go.Value.nilFunc⟩ := by kernel_rfl
theorem tt60 : TT P 60 = some ⟨Go.TypeDesc.func #[25, 58] #[4] Bool.false, 1, 8, Go.Value.nilFunc⟩ := by kernel_rfl
theorem tt61 : TT P 61 = some ⟨Go.TypeDesc.func #[55, 3] #[55] Bool.false, 1, 8, Go.Value.nilFunc⟩ := by kernel_rfl
theorem tt62 : TT P 62 = some ⟨Go.TypeDesc.func #[3, 3, 51] #[4] Bool.false, 1, 8, Go.Value.nilFunc⟩ := by kernel_rfl
theorem tt63 : TT P 63 = some ⟨Go.TypeDesc.func #[24, 27, 3, 3, 51, 3] #[4] Bool.false, 1, 8, Go.Value.nilFunc⟩ := by kernel_rfl
theorem tt65 : TT P 65 = some ⟨Go.TypeDesc.func #[35] #[38, 30] Bool.false, 1, 8, Go.Value.nilFunc⟩ := by kernel_rfl
theorem tt66 : TT P 66 = some ⟨Go.TypeDesc.func #[55] #[4] Bool.false, 1, 8, Go.Value.nilFunc⟩ := by kernel_rfl
theorem tt67 : TT P 67 = some ⟨Go.TypeDesc.func #[38, 66] #[4] Bool.false, 1, 8, Go.Value.nilFunc⟩ := by kernel_rfl
theorem tt68 : TT P 68 = some ⟨Go.TypeDesc.struct #[{ name := "X", type := 3, offset := 0, embedded := Bool.false, tag := "", pkgPath := "", byteOffset := 0 }, { name := "Y", type := 3, offset := 1, embedded := Bool.false, tag := "", pkgPath := "", byteOffset := 8 }, { name := "Demand", type := 3, offset := 2, embedded := Bool.false, tag := "", pkgPath := "", byteOffset := 16 }, { name := "Ready", type := 3, offset := 3, embedded := Bool.false, tag := "", pkgPath := "", byteOffset := 24 }, { name := "Due", type := 3, offset := 4, embedded := Bool.false, tag := "", pkgPath := "", byteOffset := 32 }, { name := "Service", type := 3, offset := 5, embedded := Bool.false, tag := "", pkgPath := "", byteOffset := 40 }], 6, 48, (Go.Value.agg #[Go.Value.int Go.IntKind.i64 0, Go.Value.int Go.IntKind.i64 0, Go.Value.int Go.IntKind.i64 0, Go.Value.int Go.IntKind.i64 0, Go.Value.int Go.IntKind.i64 0, Go.Value.int Go.IntKind.i64 0])⟩ := by kernel_rfl
theorem tt69 : TT P 69 = some ⟨Go.TypeDesc.struct #[{ name := "X", type := 3, offset := 0, embedded := Bool.false, tag := "", pkgPath := "", byteOffset := 0 }, { name := "Y", type := 3, offset := 1, embedded := Bool.false, tag := "", pkgPath := "", byteOffset := 8 }, { name := "Demand", type := 3, offset := 2, embedded := Bool.false, tag := "", pkgPath := "", byteOffset := 16 }, { name := "Ready", type := 3, offset := 3, embedded := Bool.false, tag := "", pkgPath := "", byteOffset := 24 }, { name := "Due", type := 3, offset := 4, embedded := Bool.false, tag := "", pkgPath := "", byteOffset := 32 }, { name := "Service", type := 3, offset := 5, embedded := Bool.false, tag := "", pkgPath := "", byteOffset := 40 }], 6, 48, (Go.Value.agg #[Go.Value.int Go.IntKind.i64 0, Go.Value.int Go.IntKind.i64 0, Go.Value.int Go.IntKind.i64 0, Go.Value.int Go.IntKind.i64 0, Go.Value.int Go.IntKind.i64 0, Go.Value.int Go.IntKind.i64 0])⟩ := by kernel_rfl
theorem tt70 : TT P 70 = some ⟨Go.TypeDesc.func #[55] #[69] Bool.false, 1, 8, Go.Value.nilFunc⟩ := by kernel_rfl
theorem tt71 : TT P 71 = some ⟨Go.TypeDesc.struct #[{ name := "x", type := 24, offset := 0, embedded := Bool.false, tag := "", pkgPath := "haulier/proof", byteOffset := 0 }, { name := "r", type := 43, offset := 4, embedded := Bool.false, tag := "", pkgPath := "haulier/proof", byteOffset := 48 }], 10, 128, (Go.Value.agg #[Go.Value.int Go.IntKind.i64 0, Go.Value.int Go.IntKind.i64 0, Go.Value.int Go.IntKind.i64 0, Go.Value.slice Option.none 0 0, Go.Value.int Go.IntKind.i64 0, Go.Value.slice Option.none 0 0, Go.Value.int Go.IntKind.i64 0, Go.Value.int Go.IntKind.i64 0, Go.Value.int Go.IntKind.i64 0, Go.Value.slice Option.none 0 0])⟩ := by kernel_rfl
theorem tt72 : TT P 72 = some ⟨Go.TypeDesc.struct #[{ name := "x", type := 24, offset := 0, embedded := Bool.false, tag := "", pkgPath := "haulier/proof", byteOffset := 0 }, { name := "r", type := 43, offset := 4, embedded := Bool.false, tag := "", pkgPath := "haulier/proof", byteOffset := 48 }], 10, 128, (Go.Value.agg #[Go.Value.int Go.IntKind.i64 0, Go.Value.int Go.IntKind.i64 0, Go.Value.int Go.IntKind.i64 0, Go.Value.slice Option.none 0 0, Go.Value.int Go.IntKind.i64 0, Go.Value.slice Option.none 0 0, Go.Value.int Go.IntKind.i64 0, Go.Value.int Go.IntKind.i64 0, Go.Value.int Go.IntKind.i64 0, Go.Value.slice Option.none 0 0])⟩ := by kernel_rfl
theorem tt73 : TT P 73 = some ⟨Go.TypeDesc.struct #[{ name := "S", type := 49, offset := 0, embedded := Bool.false, tag := "", pkgPath := "", byteOffset := 0 }, { name := "Cost", type := 3, offset := 8, embedded := Bool.false, tag := "", pkgPath := "", byteOffset := 64 }, { name := "Path", type := 55, offset := 9, embedded := Bool.false, tag := "", pkgPath := "", byteOffset := 72 }], 10, 96, (Go.Value.agg #[Go.Value.int Go.IntKind.i64 0, Go.Value.int Go.IntKind.i64 0, Go.Value.int Go.IntKind.i64 0, Go.Value.int Go.IntKind.i64 0, Go.Value.int Go.IntKind.i64 0, Go.Value.int Go.IntKind.u64 0, Go.Value.int Go.IntKind.u64 0, Go.Value.int Go.IntKind.u64 0, Go.Value.int Go.IntKind.i64 0, Go.Value.slice Option.none 0 0])⟩ := by kernel_rfl
theorem tt74 : TT P 74 = some ⟨Go.TypeDesc.struct #[{ name := "S", type := 49, offset := 0, embedded := Bool.false, tag := "", pkgPath := "", byteOffset := 0 }, { name := "Cost", type := 3, offset := 8, embedded := Bool.false, tag := "", pkgPath := "", byteOffset := 64 }, { name := "Path", type := 55, offset := 9, embedded := Bool.false, tag := "", pkgPath := "", byteOffset := 72 }], 10, 96, (Go.Value.agg #[Go.Value.int Go.IntKind.i64 0, Go.Value.int Go.IntKind.i64 0, Go.Value.int Go.IntKind.i64 0, Go.Value.int Go.IntKind.i64 0, Go.Value.int Go.IntKind.i64 0, Go.Value.int Go.IntKind.u64 0, Go.Value.int Go.IntKind.u64 0, Go.Value.int Go.IntKind.u64 0, Go.Value.int Go.IntKind.i64 0, Go.Value.slice Option.none 0 0])⟩ := by kernel_rfl
theorem tt75 : TT P 75 = some ⟨Go.TypeDesc.slice 108, 1, 24, (Go.Value.slice Option.none 0 0)⟩ := by kernel_rfl
theorem tt76 : TT P 76 = some ⟨Go.TypeDesc.struct #[{ name := "Layers", type := 75, offset := 0, embedded := Bool.false, tag := "", pkgPath := "", byteOffset := 0 }, { name := "Low", type := 3, offset := 1, embedded := Bool.false, tag := "", pkgPath := "", byteOffset := 24 }, { name := "Exact", type := 4, offset := 2, embedded := Bool.false, tag := "", pkgPath := "", byteOffset := 32 }, { name := "Sure", type := 3, offset := 3, embedded := Bool.false, tag := "", pkgPath := "", byteOffset := 40 }], 4, 48, (Go.Value.agg #[Go.Value.slice Option.none 0 0, Go.Value.int Go.IntKind.i64 0, Go.Value.bool Bool.false, Go.Value.int Go.IntKind.i64 0])⟩ := by kernel_rfl
theorem tt77 : TT P 77 = some ⟨Go.TypeDesc.struct #[{ name := "Layers", type := 75, offset := 0, embedded := Bool.false, tag := "", pkgPath := "", byteOffset := 0 }, { name := "Low", type := 3, offset := 1, embedded := Bool.false, tag := "", pkgPath := "", byteOffset := 24 }, { name := "Exact", type := 4, offset := 2, embedded := Bool.false, tag := "", pkgPath := "", byteOffset := 32 }, { name := "Sure", type := 3, offset := 3, embedded := Bool.false, tag := "", pkgPath := "", byteOffset := 40 }], 4, 48, (Go.Value.agg #[Go.Value.slice Option.none 0 0, Go.Value.int Go.IntKind.i64 0, Go.Value.bool Bool.false, Go.Value.int Go.IntKind.i64 0])⟩ := by kernel_rfl
theorem tt78 : TT P 78 = some ⟨Go.TypeDesc.struct #[{ name := "N", type := 74, offset := 0, embedded := Bool.false, tag := "", pkgPath := "", byteOffset := 0 }, { name := "D", type := 77, offset := 10, embedded := Bool.false, tag := "", pkgPath := "", byteOffset := 96 }], 14, 144, (Go.Value.agg #[Go.Value.int Go.IntKind.i64 0, Go.Value.int Go.IntKind.i64 0, Go.Value.int Go.IntKind.i64 0, Go.Value.int Go.IntKind.i64 0, Go.Value.int Go.IntKind.i64 0, Go.Value.int Go.IntKind.u64 0, Go.Value.int Go.IntKind.u64 0, Go.Value.int Go.IntKind.u64 0, Go.Value.int Go.IntKind.i64 0, Go.Value.slice Option.none 0 0, Go.Value.slice Option.none 0 0, Go.Value.int Go.IntKind.i64 0, Go.Value.bool Bool.false, Go.Value.int Go.IntKind.i64 0])⟩ := by kernel_rfl
theorem tt79 : TT P 79 = some ⟨Go.TypeDesc.struct #[{ name := "N", type := 74, offset := 0, embedded := Bool.false, tag := "", pkgPath := "", byteOffset := 0 }, { name := "D", type := 77, offset := 10, embedded := Bool.false, tag := "", pkgPath := "", byteOffset := 96 }], 14, 144, (Go.Value.agg #[Go.Value.int Go.IntKind.i64 0, Go.Value.int Go.IntKind.i64 0, Go.Value.int Go.IntKind.i64 0, Go.Value.int Go.IntKind.i64 0, Go.Value.int Go.IntKind.i64 0, Go.Value.int Go.IntKind.u64 0, Go.Value.int Go.IntKind.u64 0, Go.Value.int Go.IntKind.u64 0, Go.Value.int Go.IntKind.i64 0, Go.Value.slice Option.none 0 0, Go.Value.slice Option.none 0 0, Go.Value.int Go.IntKind.i64 0, Go.Value.bool Bool.false, Go.Value.int Go.IntKind.i64 0])⟩ := by kernel_rfl
theorem tt80 : TT P 80 = some ⟨Go.TypeDesc.func #[77] #[46] Bool.false, 1, 8, Go.Value.nilFunc⟩ := by kernel_rfl
theorem tt81 : TT P 81 = some ⟨Go.TypeDesc.func #[51] #[4] Bool.false, 1, 8, Go.Value.nilFunc⟩ := by kernel_rfl
theorem tt82 : TT P 82 = some ⟨Go.TypeDesc.func #[44, 84] #[4] Bool.false, 1, 8, Go.Value.nilFunc⟩ := by kernel_rfl
theorem tt83 : TT P 83 = some ⟨Go.TypeDesc.func #[52, 81] #[4] Bool.false, 1, 8, Go.Value.nilFunc⟩ := by kernel_rfl
theorem tt84 : TT P 84 = some ⟨Go.TypeDesc.func #[52] #[4] Bool.false, 1, 8, Go.Value.nilFunc⟩ := by kernel_rfl
theorem tt85 : TT P 85 = some ⟨Go.TypeDesc.func #[3, 3, 55] #[4] Bool.true, 1, 8, Go.Value.nilFunc⟩ := by kernel_rfl
theorem tt86 : TT P 86 = some ⟨Go.TypeDesc.func #[25, 58] #[3] Bool.false, 1, 8, Go.Value.nilFunc⟩ := by kernel_rfl
theorem tt87 : TT P 87 = some ⟨Go.TypeDesc.int Go.IntKind.u64, 1, 8, (Go.Value.int Go.IntKind.u64 0)⟩ := by kernel_rfl
theorem tt89 : TT P 89 = some ⟨Go.TypeDesc.func #[87, 87] #[87, 87] Bool.false, 1, 8, Go.Value.nilFunc⟩ := by kernel_rfl
theorem tt90 : TT P 90 = some ⟨Go.TypeDesc.func #[24, 49, 3, 3] #[4] Bool.false, 1, 8, Go.Value.nilFunc⟩ := by kernel_rfl
theorem tt91 : TT P 91 = some ⟨Go.TypeDesc.func #[3, 51] #[4] Bool.false, 1, 8, Go.Value.nilFunc⟩ := by kernel_rfl
theorem tt93 : TT P 93 = some ⟨Go.TypeDesc.func #[24, 49] #[3, 4] Bool.false, 1, 8, Go.Value.nilFunc⟩ := by kernel_rfl
theorem tt94 : TT P 94 = some ⟨Go.TypeDesc.func #[55] #[3] Bool.true, 1, 8, Go.Value.nilFunc⟩ := by kernel_rfl
theorem tt95 : TT P 95 = some ⟨Go.TypeDesc.func #[24] #[3] Bool.false, 1, 8, Go.Value.nilFunc⟩ := by kernel_rfl
theorem tt96 : TT P 96 = some ⟨Go.TypeDesc.func #[51, 52] #[4] Bool.false, 1, 8, Go.Value.nilFunc⟩ := by kernel_rfl
theorem tt97 : TT P 97 = some ⟨Go.TypeDesc.func #[24, 49] #[4] Bool.false, 1, 8, Go.Value.nilFunc⟩ := by kernel_rfl
theorem tt98 : TT P 98 = some ⟨Go.TypeDesc.func #[55] #[3] Bool.false, 1, 8, Go.Value.nilFunc⟩ := by kernel_rfl
theorem tt99 : TT P 99 = some ⟨Go.TypeDesc.func #[24, 27, 51, 52] #[4] Bool.false, 1, 8, Go.Value.nilFunc⟩ := by kernel_rfl
theorem tt100 : TT P 100 = some ⟨Go.TypeDesc.pointer 102, 1, 8, (Go.Value.pointer Option.none)⟩ := by kernel_rfl
theorem tt101 : TT P 101 = some ⟨Go.TypeDesc.struct #[{ name := "b", type := 35, offset := 0, embedded := Bool.false, tag := "", pkgPath := "haulier/scan", byteOffset := 0 }, { name := "at", type := 3, offset := 1, embedded := Bool.false, tag := "", pkgPath := "haulier/scan", byteOffset := 24 }], 2, 32, (Go.Value.agg #[Go.Value.slice Option.none 0 0, Go.Value.int Go.IntKind.i64 0])⟩ := by kernel_rfl
theorem tt102 : TT P 102 = some ⟨Go.TypeDesc.struct #[{ name := "b", type := 35, offset := 0, embedded := Bool.false, tag := "", pkgPath := "haulier/scan", byteOffset := 0 }, { name := "at", type := 3, offset := 1, embedded := Bool.false, tag := "", pkgPath := "haulier/scan", byteOffset := 24 }], 2, 32, (Go.Value.agg #[Go.Value.slice Option.none 0 0, Go.Value.int Go.IntKind.i64 0])⟩ := by kernel_rfl
theorem tt104 : TT P 104 = some ⟨Go.TypeDesc.func #[] #[55, 4] Bool.false, 1, 8, Go.Value.nilFunc⟩ := by kernel_rfl
theorem tt105 : TT P 105 = some ⟨Go.TypeDesc.func #[38, 66] #[3] Bool.false, 1, 8, Go.Value.nilFunc⟩ := by kernel_rfl
theorem tt106 : TT P 106 = some ⟨Go.TypeDesc.array 6 3, 6, 48, (Go.Value.agg #[Go.Value.int Go.IntKind.i64 0, Go.Value.int Go.IntKind.i64 0, Go.Value.int Go.IntKind.i64 0, Go.Value.int Go.IntKind.i64 0, Go.Value.int Go.IntKind.i64 0, Go.Value.int Go.IntKind.i64 0])⟩ := by kernel_rfl
theorem tt107 : TT P 107 = some ⟨Go.TypeDesc.func #[74] #[3] Bool.false, 1, 8, Go.Value.nilFunc⟩ := by kernel_rfl
theorem tt108 : TT P 108 = some ⟨Go.TypeDesc.slice 74, 1, 24, (Go.Value.slice Option.none 0 0)⟩ := by kernel_rfl
theorem tt109 : TT P 109 = some ⟨Go.TypeDesc.func #[108, 107] #[52] Bool.false, 1, 8, Go.Value.nilFunc⟩ := by kernel_rfl
theorem tt110 : TT P 110 = some ⟨Go.TypeDesc.func #[44, 84] #[3] Bool.false, 1, 8, Go.Value.nilFunc⟩ := by kernel_rfl
theorem tt111 : TT P 111 = some ⟨Go.TypeDesc.func #[52, 81] #[3] Bool.false, 1, 8, Go.Value.nilFunc⟩ := by kernel_rfl
theorem tt112 : TT P 112 = some ⟨Go.TypeDesc.int Go.IntKind.u32, 1, 4, (Go.Value.int Go.IntKind.u32 0)⟩ := by kernel_rfl
theorem tt114 : TT P 114 = some ⟨Go.TypeDesc.func #[112, 112] #[112, 112] Bool.false, 1, 8, Go.Value.nilFunc⟩ := by kernel_rfl
theorem tt116 : TT P 116 = some ⟨Go.TypeDesc.func #[47, 47] #[47, 47] Bool.false, 1, 8, Go.Value.nilFunc⟩ := by kernel_rfl
theorem tt117 : TT P 117 = some ⟨Go.TypeDesc.func #[24, 49] #[3] Bool.false, 1, 8, Go.Value.nilFunc⟩ := by kernel_rfl
theorem tt118 : TT P 118 = some ⟨Go.TypeDesc.struct #[{ name := "Instance", type := 24, offset := 0, embedded := Bool.true, tag := "", pkgPath := "", byteOffset := 0 }, { name := "s", type := 49, offset := 4, embedded := Bool.false, tag := "", pkgPath := "haulier/state", byteOffset := 48 }], 12, 112, (Go.Value.agg #[Go.Value.int Go.IntKind.i64 0, Go.Value.int Go.IntKind.i64 0, Go.Value.int Go.IntKind.i64 0, Go.Value.slice Option.none 0 0, Go.Value.int Go.IntKind.i64 0, Go.Value.int Go.IntKind.i64 0, Go.Value.int Go.IntKind.i64 0, Go.Value.int Go.IntKind.i64 0, Go.Value.int Go.IntKind.i64 0, Go.Value.int Go.IntKind.u64 0, Go.Value.int Go.IntKind.u64 0, Go.Value.int Go.IntKind.u64 0])⟩ := by kernel_rfl
theorem tt119 : TT P 119 = some ⟨Go.TypeDesc.struct #[{ name := "Instance", type := 24, offset := 0, embedded := Bool.true, tag := "", pkgPath := "", byteOffset := 0 }, { name := "s", type := 49, offset := 4, embedded := Bool.false, tag := "", pkgPath := "haulier/state", byteOffset := 48 }], 12, 112, (Go.Value.agg #[Go.Value.int Go.IntKind.i64 0, Go.Value.int Go.IntKind.i64 0, Go.Value.int Go.IntKind.i64 0, Go.Value.slice Option.none 0 0, Go.Value.int Go.IntKind.i64 0, Go.Value.int Go.IntKind.i64 0, Go.Value.int Go.IntKind.i64 0, Go.Value.int Go.IntKind.i64 0, Go.Value.int Go.IntKind.i64 0, Go.Value.int Go.IntKind.u64 0, Go.Value.int Go.IntKind.u64 0, Go.Value.int Go.IntKind.u64 0])⟩ := by kernel_rfl
theorem tt120 : TT P 120 = some ⟨Go.TypeDesc.func #[47] #[4] Bool.false, 1, 8, Go.Value.nilFunc⟩ := by kernel_rfl
theorem tt121 : TT P 121 = some ⟨Go.TypeDesc.func #[3] #[3] Bool.false, 1, 8, Go.Value.nilFunc⟩ := by kernel_rfl
theorem tt122 : TT P 122 = some ⟨Go.TypeDesc.func #[24, 49] #[55] Bool.false, 1, 8, Go.Value.nilFunc⟩ := by kernel_rfl
theorem tt124 : TT P 124 = some ⟨Go.TypeDesc.func #[24, 49, 3] #[49, 3, 4] Bool.false, 1, 8, Go.Value.nilFunc⟩ := by kernel_rfl
theorem tt125 : TT P 125 = some ⟨Go.TypeDesc.func #[49, 49] #[4] Bool.false, 1, 8, Go.Value.nilFunc⟩ := by kernel_rfl
theorem tt126 : TT P 126 = some ⟨Go.TypeDesc.func #[3, 3, 3] #[4] Bool.false, 1, 8, Go.Value.nilFunc⟩ := by kernel_rfl
theorem tt127 : TT P 127 = some ⟨Go.TypeDesc.func #[69] #[4] Bool.false, 1, 8, Go.Value.nilFunc⟩ := by kernel_rfl
theorem tt128 : TT P 128 = some ⟨Go.TypeDesc.func #[24, 47] #[4] Bool.false, 1, 8, Go.Value.nilFunc⟩ := by kernel_rfl
theorem tt129 : TT P 129 = some ⟨Go.TypeDesc.func #[69, 69] #[3] Bool.false, 1, 8, Go.Value.nilFunc⟩ := by kernel_rfl
theorem tt130 : TT P 130 = some ⟨Go.TypeDesc.func #[] #[5] Bool.false, 1, 8, Go.Value.nilFunc⟩ := by kernel_rfl
theorem tt131 : TT P 131 = some ⟨Go.TypeDesc.func #[5] #[4] Bool.false, 1, 8, Go.Value.nilFunc⟩ := by kernel_rfl
theorem tt132 : TT P 132 = some ⟨Go.TypeDesc.func #[41, 134] #[3] Bool.false, 1, 8, Go.Value.nilFunc⟩ := by kernel_rfl
theorem tt133 : TT P 133 = some ⟨Go.TypeDesc.func #[55, 55] #[4] Bool.false, 1, 8, Go.Value.nilFunc⟩ := by kernel_rfl
theorem tt134 : TT P 134 = some ⟨Go.TypeDesc.func #[79] #[4] Bool.false, 1, 8, Go.Value.nilFunc⟩ := by kernel_rfl
theorem tt135 : TT P 135 = some ⟨Go.TypeDesc.func #[24] #[55] Bool.false, 1, 8, Go.Value.nilFunc⟩ := by kernel_rfl
theorem tt136 : TT P 136 = some ⟨Go.TypeDesc.func #[145] #[] Bool.false, 1, 8, Go.Value.nilFunc⟩ := by kernel_rfl
theorem tt137 : TT P 137 = some ⟨Go.TypeDesc.func #[145] #[] Bool.false, 1, 8, Go.Value.nilFunc⟩ := by kernel_rfl
theorem tt138 : TT P 138 = some ⟨Go.TypeDesc.func #[55, 47] #[137] Bool.false, 1, 8, Go.Value.nilFunc⟩ := by kernel_rfl
theorem tt139 : TT P 139 = some ⟨Go.TypeDesc.func #[47, 47] #[4] Bool.false, 1, 8, Go.Value.nilFunc⟩ := by kernel_rfl
theorem tt140 : TT P 140 = some ⟨Go.TypeDesc.func #[3] #[47] Bool.false, 1, 8, Go.Value.nilFunc⟩ := by kernel_rfl
theorem tt141 : TT P 141 = some ⟨Go.TypeDesc.func #[3] #[49, 3, 4] Bool.false, 1, 8, Go.Value.nilFunc⟩ := by kernel_rfl
theorem tt142 : TT P 142 = some ⟨Go.TypeDesc.func #[47, 3] #[4] Bool.false, 1, 8, Go.Value.nilFunc⟩ := by kernel_rfl
theorem tt143 : TT P 143 = some ⟨Go.TypeDesc.func #[24, 49, 3, 3] #[49] Bool.false, 1, 8, Go.Value.nilFunc⟩ := by kernel_rfl
theorem tt144 : TT P 144 = some ⟨Go.TypeDesc.func #[24] #[38] Bool.false, 1, 8, Go.Value.nilFunc⟩ := by kernel_rfl
theorem tt145 : TT P 145 = some ⟨Go.TypeDesc.func #[3, 3] #[4] Bool.false, 1, 8, Go.Value.nilFunc⟩ := by kernel_rfl
theorem tt146 : TT P 146 = some ⟨Go.TypeDesc.complex Go.FloatKind.f64, 1, 16, (Go.Value.complex Go.FloatKind.f64 0 0)⟩ := by kernel_rfl
theorem tt147 : TT P 147 = some ⟨Go.TypeDesc.func #[69] #[146] Bool.false, 1, 8, Go.Value.nilFunc⟩ := by kernel_rfl
theorem tt148 : TT P 148 = some ⟨Go.TypeDesc.float Go.FloatKind.f64, 1, 8, (Go.Value.float Go.FloatKind.f64 0)⟩ := by kernel_rfl
theorem tt149 : TT P 149 = some ⟨Go.TypeDesc.func #[3] #[49, 4] Bool.false, 1, 8, Go.Value.nilFunc⟩ := by kernel_rfl
theorem tt151 : TT P 151 = some ⟨Go.TypeDesc.func #[47, 3] #[47] Bool.false, 1, 8, Go.Value.nilFunc⟩ := by kernel_rfl
theorem tt152 : TT P 152 = some ⟨Go.TypeDesc.func #[3] #[148] Bool.false, 1, 8, Go.Value.nilFunc⟩ := by kernel_rfl
theorem tt155 : TT P 155 = some ⟨Go.TypeDesc.array 0 16, 0, 0, (Go.Value.agg #[])⟩ := by kernel_rfl
theorem tt156 : TT P 156 = some ⟨Go.TypeDesc.struct #[{ name := "_", type := 155, offset := 0, embedded := Bool.false, tag := "", pkgPath := "runtime", byteOffset := 0 }], 0, 0, (Go.Value.agg #[])⟩ := by kernel_rfl
theorem tt157 : TT P 157 = some ⟨Go.TypeDesc.struct #[{ name := "_", type := 155, offset := 0, embedded := Bool.false, tag := "", pkgPath := "runtime", byteOffset := 0 }], 0, 0, (Go.Value.agg #[])⟩ := by kernel_rfl
theorem tt158 : TT P 158 = some ⟨Go.TypeDesc.func #[] #[3] Bool.false, 1, 8, Go.Value.nilFunc⟩ := by kernel_rfl
theorem tt159 : TT P 159 = some ⟨Go.TypeDesc.int Go.IntKind.u8, 1, 1, (Go.Value.int Go.IntKind.u8 0)⟩ := by kernel_rfl
theorem tt160 : TT P 160 = some ⟨Go.TypeDesc.int Go.IntKind.u8, 1, 1, (Go.Value.int Go.IntKind.u8 0)⟩ := by kernel_rfl
theorem tt161 : TT P 161 = some ⟨Go.TypeDesc.func #[167, 167] #[4] Bool.false, 1, 8, Go.Value.nilFunc⟩ := by kernel_rfl
theorem tt162 : TT P 162 = some ⟨Go.TypeDesc.pointer 5, 1, 8, (Go.Value.pointer Option.none)⟩ := by kernel_rfl
theorem tt163 : TT P 163 = some ⟨Go.TypeDesc.int Go.IntKind.i32, 1, 4, (Go.Value.int Go.IntKind.i32 0)⟩ := by kernel_rfl
theorem tt164 : TT P 164 = some ⟨Go.TypeDesc.int Go.IntKind.i32, 1, 4, (Go.Value.int Go.IntKind.i32 0)⟩ := by kernel_rfl
theorem tt165 : TT P 165 = some ⟨Go.TypeDesc.struct #[{ name := "Size_", type := 12, offset := 0, embedded := Bool.false, tag := "", pkgPath := "", byteOffset := 0 }, { name := "PtrBytes", type := 12, offset := 1, embedded := Bool.false, tag := "", pkgPath := "", byteOffset := 8 }, { name := "Hash", type := 112, offset := 2, embedded := Bool.false, tag := "", pkgPath := "", byteOffset := 16 }, { name := "TFlag", type := 159, offset := 3, embedded := Bool.false, tag := "", pkgPath := "", byteOffset := 20 }, { name := "Align_", type := 5, offset := 4, embedded := Bool.false, tag := "", pkgPath := "", byteOffset := 21 }, { name := "FieldAlign_", type := 5, offset := 5, embedded := Bool.false, tag := "", pkgPath := "", byteOffset := 22 }, { name := "Kind_", type := 160, offset := 6, embedded := Bool.false, tag := "", pkgPath := "", byteOffset := 23 }, { name := "Equal", type := 161, offset := 7, embedded := Bool.false, tag := "", pkgPath := "", byteOffset := 24 }, { name := "GCData", type := 162, offset := 8, embedded := Bool.false, tag := "", pkgPath := "", byteOffset := 32 }, { name := "Str", type := 163, offset := 9, embedded := Bool.false, tag := "", pkgPath := "", byteOffset := 40 }, { name := "PtrToThis", type := 164, offset := 10, embedded := Bool.false, tag := "", pkgPath := "", byteOffset := 44 }], 11, 48, (Go.Value.agg #[Go.Value.int Go.IntKind.u64 0, Go.Value.int Go.IntKind.u64 0, Go.Value.int Go.IntKind.u32 0, Go.Value.int Go.IntKind.u8 0, Go.Value.int Go.IntKind.u8 0, Go.Value.int Go.IntKind.u8 0, Go.Value.int Go.IntKind.u8 0, Go.Value.nilFunc, Go.Value.pointer Option.none, Go.Value.int Go.IntKind.i32 0, Go.Value.int Go.IntKind.i32 0])⟩ := by kernel_rfl
theorem tt166 : TT P 166 = some ⟨Go.TypeDesc.struct #[{ name := "Size_", type := 12, offset := 0, embedded := Bool.false, tag := "", pkgPath := "", byteOffset := 0 }, { name := "PtrBytes", type := 12, offset := 1, embedded := Bool.false, tag := "", pkgPath := "", byteOffset := 8 }, { name := "Hash", type := 112, offset := 2, embedded := Bool.false, tag := "", pkgPath := "", byteOffset := 16 }, { name := "TFlag", type := 159, offset := 3, embedded := Bool.false, tag := "", pkgPath := "", byteOffset := 20 }, { name := "Align_", type := 5, offset := 4, embedded := Bool.false, tag := "", pkgPath := "", byteOffset := 21 }, { name := "FieldAlign_", type := 5, offset := 5, embedded := Bool.false, tag := "", pkgPath := "", byteOffset := 22 }, { name := "Kind_", type := 160, offset := 6, embedded := Bool.false, tag := "", pkgPath := "", byteOffset := 23 }, { name := "Equal", type := 161, offset := 7, embedded := Bool.false, tag := "", pkgPath := "", byteOffset := 24 }, { name := "GCData", type := 162, offset := 8, embedded := Bool.false, tag := "", pkgPath := "", byteOffset := 32 }, { name := "Str", type := 163, offset := 9, embedded := Bool.false, tag := "", pkgPath := "", byteOffset := 40 }, { name := "PtrToThis", type := 164, offset := 10, embedded := Bool.false, tag := "", pkgPath := "", byteOffset := 44 }], 11, 48, (Go.Value.agg #[Go.Value.int Go.IntKind.u64 0, Go.Value.int Go.IntKind.u64 0, Go.Value.int Go.IntKind.u32 0, Go.Value.int Go.IntKind.u8 0, Go.Value.int Go.IntKind.u8 0, Go.Value.int Go.IntKind.u8 0, Go.Value.int Go.IntKind.u8 0, Go.Value.nilFunc, Go.Value.pointer Option.none, Go.Value.int Go.IntKind.i32 0, Go.Value.int Go.IntKind.i32 0])⟩ := by kernel_rfl
theorem tt167 : TT P 167 = some ⟨Go.TypeDesc.unsafePointer, 1, 8, (Go.Value.pointer Option.none)⟩ := by kernel_rfl
attribute [go_sem] tt1 tt2 tt3 tt4 tt5 tt6 tt7 tt8 tt9 tt10 tt11 tt12 tt13 tt14 tt15 tt16 tt17 tt18 tt19 tt21 tt22 tt23 tt24 tt25 tt26 tt27 tt28 tt29 tt30 tt31 tt32 tt34 tt35 tt36 tt37 tt38 tt39 tt40 tt41 tt42 tt43 tt44 tt45 tt46 tt47 tt48 tt49 tt50 tt51 tt52 tt53 tt54 tt55 tt56 tt57 tt58 tt59 tt60 tt61 tt62 tt63 tt65 tt66 tt67 tt68 tt69 tt70 tt71 tt72 tt73 tt74 tt75 tt76 tt77 tt78 tt79 tt80 tt81 tt82 tt83 tt84 tt85 tt86 tt87 tt89 tt90 tt91 tt93 tt94 tt95 tt96 tt97 tt98 tt99 tt100 tt101 tt102 tt104 tt105 tt106 tt107 tt108 tt109 tt110 tt111 tt112 tt114 tt116 tt117 tt118 tt119 tt120 tt121 tt122 tt124 tt125 tt126 tt127 tt128 tt129 tt130 tt131 tt132 tt133 tt134 tt135 tt136 tt137 tt138 tt139 tt140 tt141 tt142 tt143 tt144 tt145 tt146 tt147 tt148 tt149 tt151 tt152 tt155 tt156 tt157 tt158 tt159 tt160 tt161 tt162 tt163 tt164 tt165 tt166 tt167
end Go.Proofs.YtlhmchdfmjfmgaaGreat

/- Sets of stops, and numbers that don't grow too great: the program's functions and the document's. -/
set_option maxRecDepth 4000
namespace Go.Proofs.YtlhmchdfmjfmgaaGreat
open Go Go.Proofs.YtlhmchdfmjfmgaaGreat.R
def rowT (l : List Int) : List T := [.sl (ints l)]
/-! ### Sets -/
theorem u64n (n : Nat) (h : n < 18446744073709551616) : IntKind.u64.wrap (n : Int) = n := u64 _ (by omega)
theorem w64n (n : Nat) (h : n < 9223372036854775808) : IntKind.i64.wrap (n : Int) = n := w64 _ (by omega)
def bitN (j : Int) : Nat := if 0 ≤ j ∧ j ≤ 63 then 2 ^ j.toNat else 0
def hasB (s : Nat) (j : Int) : Bool := decide (0 ≤ j ∧ j ≤ 63) && s.testBit j.toNat
theorem bitN_lt (j : Int) : bitN j < 2 ^ 64 := by
  unfold bitN; split
  · exact Nat.pow_lt_pow_right (by decide) (by omega)
  · decide
theorem bitN_nat {k : Nat} (h : k ≤ 63) : bitN k = 2 ^ k := by rw [bitN, if_pos (by omega)]; rfl
theorem bitN_out {j : Int} (h : j < 0 ∨ 63 < j) : bitN j = 0 := by rw [bitN, if_neg (by omega)]
theorem bandN {a b : Nat} (ha : a < 2 ^ 64) (hb : b < 2 ^ 64) : band .u64 a b = ((a &&& b : Nat) : Int) := by
  show IntKind.u64.wrap ((BitVec.ofInt 64 a &&& BitVec.ofInt 64 b).toNat : Int) = _
  rw [BitVec.ofInt_natCast, BitVec.ofInt_natCast, BitVec.toNat_and, BitVec.toNat_ofNat, BitVec.toNat_ofNat, Nat.mod_eq_of_lt ha, Nat.mod_eq_of_lt hb]
  have h3 : a &&& b < 2 ^ 64 := Nat.and_lt_two_pow a hb
  exact u64 _ (by omega)
theorem borN {a b : Nat} (ha : a < 2 ^ 64) (hb : b < 2 ^ 64) : bor .u64 a b = ((a ||| b : Nat) : Int) := by
  show IntKind.u64.wrap ((BitVec.ofInt 64 a ||| BitVec.ofInt 64 b).toNat : Int) = _
  rw [BitVec.ofInt_natCast, BitVec.ofInt_natCast, BitVec.toNat_or, BitVec.toNat_ofNat, BitVec.toNat_ofNat, Nat.mod_eq_of_lt ha, Nat.mod_eq_of_lt hb]
  have h3 : a ||| b < 2 ^ 64 := Nat.or_lt_two_pow ha hb
  exact u64 _ (by omega)
theorem and_two (s k : Nat) : (s &&& 2 ^ k = 0) ↔ s.testBit k = false := by
  constructor
  · intro h
    have := congrArg (fun x => x.testBit k) h
    simpa [Nat.testBit_and, Nat.testBit_two_pow_self] using this
  · intro h
    refine Nat.eq_of_testBit_eq fun i => ?_
    rw [Nat.testBit_and, Nat.zero_testBit, Nat.testBit_two_pow]
    by_cases e : k = i
    · subst e; simp [h]
    · simp [e]
theorem bit_pure (j : Int) : Pure P 94 [.i j] (.u (bitN j)) := by
  refine pure_of Tryz.func94 rfl rfl (by simp [Tryz.f94]) (by simp [bnd, bnd.bndL]) (by simp [bnd]) fun B hB hnx => ?_
  simp only [Tryz.f94] at hB ⊢
  by_cases h1 : j < 0
  · rw [bitN_out (.inl h1)]
    refine K_run hB 60 ?_
    simp [go_sem, h1]
  by_cases h2 : 63 < j
  · rw [bitN_out (.inr h2)]
    refine K_run hB 60 ?_
    simp [go_sem, h1, h2]
  obtain ⟨k, rfl⟩ : ∃ k : Nat, j = k := ⟨j.toNat, by omega⟩
  have hk : k ≤ 63 := by omega
  have hmin : min k 64 = k := by omega
  rw [bitN_nat hk]
  refine K_run hB 60 ?_
  simp [go_sem, h1, h2, hmin]
  have : 2 ^ k < 2 ^ 64 := Nat.pow_lt_pow_right (by decide) (by omega)
  have h3 : ((2 ^ k : Nat) : Int) = (2 : Int) ^ k := by rw [Int.natCast_pow]; rfl
  rw [← h3]
  exact u64n _ this
theorem has_pure (s : Nat) (j : Int) (hs : s < 2 ^ 64) : Pure P 93 [.u s, .i j] (.b (hasB s j)) := by
  refine pure_of Tryz.func93 rfl rfl (by simp [Tryz.f93]) (by simp [bnd, bnd.bndL]) (by simp [bnd]) fun B hB hnx => ?_
  simp only [Tryz.f93] at hB ⊢
  refine K_run hB 60 ?_
  simp [go_sem]
  refine K_call rfl rfl rfl (args := [.i j]) (f := 94) (by simp [go_sem]) (by simp [go_sem, hB]) ((bit_pure j).spec _ _) ?_
  refine K_run hB 60 ?_
  simp [go_sem, bandN hs (bitN_lt j)]
  rw [hasB]
  by_cases h : 0 ≤ j ∧ j ≤ 63
  · obtain ⟨k, rfl⟩ : ∃ k : Nat, j = k := ⟨j.toNat, by omega⟩
    have e0 : s &&& bitN (k : Int) = 0 ↔ s.testBit k = false := by
      rw [bitN_nat (by omega)]
      exact and_two s k
    simp only [h, and_self, decide_true, Bool.true_and, Int.toNat_natCast]
    cases hb : s.testBit k
    · simp [e0.2 hb]
    · have : ¬ s &&& bitN (k : Int) = 0 := fun h => by rw [e0.1 h] at hb; cases hb
      simp [this]
  · rw [bitN_out (by omega)]
    simp [h]
theorem one_pure (j : Int) : Pure P 101 [.i j] (.u (bitN j)) := by
  refine pure_of Tryz.func101 rfl rfl (by simp [Tryz.f101]) (by simp [bnd, bnd.bndL]) (by simp [bnd]) fun B hB hnx => ?_
  simp only [Tryz.f101] at hB ⊢
  by_cases h1 : j < 0
  · rw [bitN_out (.inl h1)]
    refine K_run hB 60 ?_
    simp [go_sem, h1]
  by_cases h2 : 63 < j
  · rw [bitN_out (.inr h2)]
    refine K_run hB 60 ?_
    simp [go_sem, h1, h2]
  obtain ⟨k, rfl⟩ : ∃ k : Nat, j = k := ⟨j.toNat, by omega⟩
  have hk : k ≤ 63 := by omega
  rw [bitN_nat hk]
  refine K_run hB 60 ?_
  simp [go_sem, h1, h2]
  refine K_loopP (α := Nat) (fun i => i ≤ k) (fun i => ⟨sl [(0, .i k), (3, .u (2 ^ i : Nat)), (4, .i i)], noObj, 0⟩) (fun i => k - i) 0 (Nat.zero_le _) (Imp.slots (by simp [go_sem]) rfl rfl) ?_
  intro i hi
  refine K_run hB 60 ?_
  simp [go_sem]
  refine fork_dec (fun h => ?_) (fun h => ?_)
  · have h3 : (2 : Int) ^ i * 2 = ((2 ^ (i + 1) : Nat) : Int) := by rw [Int.natCast_pow, Int.pow_succ]; rfl
    have h4 : 2 ^ (i + 1) < 2 ^ 64 := Nat.pow_lt_pow_right (by decide) (by omega)
    have h5 : IntKind.u64.wrap ((2 : Int) ^ i * 2) = (2 : Int) ^ (i + 1) := by
      rw [h3, u64n _ h4, Int.natCast_pow]; rfl
    simp [go_sem]
    refine Next.mk (i + 1) (by omega) (Imp.slots (by
      simp [go_sem, h5]
      rw [w64 ((i : Int) + 1) (by omega)]) rfl rfl) (by omega)
  · have : i = k := by omega
    subst this
    simp [go_sem]
theorem div_bit (s k : Nat) : (s / 2 ^ k % 2 = 1) = (s.testBit k = true) := by
  rw [Nat.testBit_eq_decide_div_mod_eq, decide_eq_true_eq]
theorem rhas_pure (s : Nat) (j : Int) (hs : s < 2 ^ 64) : Pure P 84 [.u s, .i j] (.b (hasB s j)) := by
  refine pure_of Tryz.func84 rfl rfl (by simp [Tryz.f84]) (by simp [bnd, bnd.bndL]) (by simp [bnd]) fun B hB hnx => ?_
  simp only [Tryz.f84] at hB ⊢
  refine K_run hB 60 ?_
  simp [go_sem]
  refine K_call rfl rfl rfl (args := [.i j]) (f := 101) (by simp [go_sem]) (by simp [go_sem, hB]) ((one_pure j).spec _ _) ?_
  rw [hasB]
  by_cases h : 0 ≤ j ∧ j ≤ 63
  · obtain ⟨k, rfl⟩ : ∃ k : Nat, j = k := ⟨j.toNat, by omega⟩
    have hk : k ≤ 63 := by omega
    have hpos : 0 < 2 ^ k := Nat.two_pow_pos k
    have hlt : 2 ^ k < 2 ^ 64 := Nat.pow_lt_pow_right (by decide) (by omega)
    rw [bitN_nat hk]
    generalize hb : 2 ^ k = b at *
    have hb0 : ¬ ((b : Int) = 0) := by omega
    have hb1 : (0 : Int) < b := by omega
    have hq2 : s / b < 2 ^ 64 := Nat.lt_of_le_of_lt (Nat.div_le_self _ _) hs
    have e1 : IntKind.u64.wrap ((s : Int) / (b : Int)) = ((s / b : Nat) : Int) := by rw [← Int.natCast_ediv]; exact u64n _ hq2
    have e2 : ((s / b : Nat) : Int).tmod 2 = ((s / b % 2 : Nat) : Int) := (Int.ofNat_tmod _ 2).symm
    have e4 : (s / b % 2 = 1) = (s.testBit k = true) := by rw [← div_bit, hb]
    have hbn : ¬ b = 0 := by omega
    refine K_run hB 60 ?_
    simp [go_sem, hpos, hbn, hk]
    rw [e1, e2]
    have e5 : (((s / b % 2 : Nat) : Int) = 1) = (s / b % 2 = 1) := propext (by omega)
    simp only [e5, e4]
    have hk' : (k : Int) ≤ 63 := h.2
    simp [hk']
  · rw [bitN_out (by omega)]
    refine K_run hB 60 ?_
    simp [go_sem, h]
end Go.Proofs.YtlhmchdfmjfmgaaGreat

/- Sums and roots. -/
set_option maxRecDepth 4000
namespace Go.Proofs.YtlhmchdfmjfmgaaGreat
open Go Go.Proofs.YtlhmchdfmjfmgaaGreat.R
def sum1 (a n : Int) : Int := min (a + min (max n 0) 1152921504606846976) 1152921504606846976
def sumI (l : List Int) : Int := l.foldl sum1 0
theorem sum1_in {a : Int} (h : 0 ≤ a ∧ a ≤ 1152921504606846976) (n : Int) : 0 ≤ sum1 a n ∧ sum1 a n ≤ 1152921504606846976 := by unfold sum1; omega
theorem sum_pure (l : List Int) (hl : l.length < 2 ^ 63) : Pure P 37 [.t (.sl (ints l))] (.i (sumI l)) := by
  refine pure_of Tryz.func37 rfl rfl (by simp [Tryz.f37]) (by simp [bnd, bnd.bndL]) (by simp [bnd]) fun B hB hnx => ?_
  simp only [Tryz.f37] at hB ⊢
  refine K_run hB 60 ?_
  simp [go_sem]
  refine K_loopP (α := Nat × Int) (fun (k, a) => k ≤ l.length ∧ (0 ≤ a ∧ a ≤ 1152921504606846976) ∧ (l.drop k).foldl sum1 a = sumI l) (fun (k, a) => ⟨sl [(6, .t (.sl (ints l))), (7, .i l.length), (8, .i k), (3, .i a)], noObj, 0⟩) (fun x => l.length - x.1) (0, 0) ⟨Nat.zero_le _, by omega, rfl⟩ (Imp.slots (by simp [go_sem, ints]) rfl rfl) ?_
  rintro ⟨k, a⟩ ⟨h1, h2, h3⟩
  refine K_run hB 60 ?_
  simp [go_sem]
  refine fork_dec (fun h => ?_) (fun h => ?_)
  · rw [List.drop_eq_getElem_cons h, List.foldl_cons] at h3
    have hs := sum1_in h2 l[k]
    simp [go_sem, ints, h]
    refine Next.mk (k + 1, sum1 a l[k]) ⟨by omega, hs, h3⟩ (Imp.slots (by
      simp [go_sem, ints, sum1]
      rw [w64 ((k : Int) + 1) (by omega), w64 (a + min (max l[k] 0) 1152921504606846976) (by omega)]
      simp) rfl rfl) (by simp only; omega)
  · have : k = l.length := by omega
    subst this
    simp [go_sem]
    simpa using h3
theorem rsum_pure (l : List Int) (hl : l.length < 2 ^ 63) : Pure P 44 [.t (.sl (ints l))] (.i (sumI l)) := by
  refine pure_of Tryz.func44 rfl rfl (by simp [Tryz.f44]) (by simp [bnd, bnd.bndL]) (by simp [bnd]) fun B hB hnx => ?_
  simp only [Tryz.f44] at hB ⊢
  refine K_run hB 60 ?_
  simp [go_sem]
  refine K_loopP (α := Nat × Int) (fun (k, a) => k ≤ l.length ∧ (0 ≤ a ∧ a ≤ 1152921504606846976) ∧ (l.drop k).foldl sum1 a = sumI l) (fun (k, a) => ⟨sl [(0, .t (.sl (ints l))), (4, .i k), (3, .i a)], noObj, 0⟩) (fun x => l.length - x.1) (0, 0) ⟨Nat.zero_le _, by omega, rfl⟩ (Imp.slots (by simp [go_sem, ints]) rfl rfl) ?_
  rintro ⟨k, a⟩ ⟨h1, h2, h3⟩
  refine K_run hB 60 ?_
  simp [go_sem, ints]
  refine fork_dec (fun h => ?_) (fun h => ?_)
  · rw [List.drop_eq_getElem_cons h, List.foldl_cons] at h3
    have hs := sum1_in h2 l[k]
    have hw : ∀ b, 0 ≤ b ∧ b ≤ 1152921504606846976 → IntKind.i64.wrap (a + b) = a + b := fun b hb => w64 (a + b) (by omega)
    have hk : IntKind.i64.wrap ((k : Int) + 1) = ((k + 1 : Nat) : Int) := by rw [w64 ((k : Int) + 1) (by omega)]; rfl
    have hwa := w64 a (by omega)
    have hwi := w64 1152921504606846976 (by omega)
    generalize hn : l[k] = n at *
    by_cases g1 : n < 0
    · have e0 : sum1 a n = a := by unfold sum1; omega
      have g3 : ¬ 1152921504606846976 < a := by omega
      simp [go_sem, h, hn, g1, hwa, g3, hk]
      exact Next.mk (k + 1, sum1 a n) ⟨by omega, hs, h3⟩ (Imp.slots (by simp [go_sem, ints, e0]) rfl rfl) (by simp only; omega)
    · by_cases g2 : 1152921504606846976 < n
      · have e0 : sum1 a n = 1152921504606846976 := by unfold sum1; omega
        by_cases g3 : 1152921504606846976 < a + 1152921504606846976
        · simp [go_sem, h, hn, g1, g2, hw 1152921504606846976 (by omega), g3, hk]
          exact Next.mk (k + 1, sum1 a n) ⟨by omega, hs, h3⟩ (Imp.slots (by simp [go_sem, ints, e0]) rfl rfl) (by simp only; omega)
        · have ea : a = 0 := by omega
          subst ea
          simp [go_sem, h, hn, g1, g2, hk, hwi]
          exact Next.mk (k + 1, sum1 0 n) ⟨by omega, hs, h3⟩ (Imp.slots (by simp [go_sem, ints, e0]) rfl rfl) (by simp only; omega)
      · by_cases g3 : 1152921504606846976 < a + n
        · have e0 : sum1 a n = 1152921504606846976 := by unfold sum1; omega
          simp [go_sem, h, hn, g1, g2, hw n (by omega), g3, hk]
          exact Next.mk (k + 1, sum1 a n) ⟨by omega, hs, h3⟩ (Imp.slots (by simp [go_sem, ints, e0]) rfl rfl) (by simp only; omega)
        · have e0 : sum1 a n = a + n := by unfold sum1; omega
          simp [go_sem, h, hn, g1, g2, hw n (by omega), g3, hk]
          exact Next.mk (k + 1, sum1 a n) ⟨by omega, hs, h3⟩ (Imp.slots (by simp [go_sem, ints, e0]) rfl rfl) (by simp only; omega)
  · have : k = l.length := by omega
    subst this
    simp [go_sem]
    simpa using h3

/-! ### Roots -/
/-- Bit by bit. -/
def rootL (m : Nat) : Nat → Nat → Nat
  | 0, r => r
  | k + 1, r => rootL m k (if (r + 2 ^ k) * (r + 2 ^ k) < m then r + 2 ^ k else r)
theorem rootL_spec (m : Nat) : ∀ k r, r * r < m → m ≤ (r + 2 ^ k) * (r + 2 ^ k) → rootL m k r * rootL m k r < m ∧ m ≤ (rootL m k r + 1) * (rootL m k r + 1)
  | 0, r, h1, h2 => ⟨h1, h2⟩
  | k + 1, r, h1, h2 => by
    rw [rootL]
    by_cases h : (r + 2 ^ k) * (r + 2 ^ k) < m
    · rw [if_pos h]
      refine rootL_spec m k _ h ?_
      have e : r + 2 ^ k + 2 ^ k = r + 2 ^ (k + 1) := by rw [Nat.pow_succ]; omega
      rw [e]; exact h2
    · rw [if_neg h]
      exact rootL_spec m k r h1 (by omega)
theorem rootL_lt (m : Nat) : ∀ k r, rootL m k r < r + 2 ^ k
  | 0, r => by simp [rootL]
  | k + 1, r => by
    rw [rootL]
    have e : r + 2 ^ k + 2 ^ k = r + 2 ^ (k + 1) := by rw [Nat.pow_succ]; omega
    have := Nat.two_pow_pos k
    split
    · have := rootL_lt m k (r + 2 ^ k); omega
    · have := rootL_lt m k r; omega
/-- The least number whose square is no less. -/
def rootI (n : Int) : Int := if n ≤ 0 then 0 else ((rootL (min n 1152921504606846976).toNat 31 0 + 1 : Nat) : Int)
theorem root_only {m r s : Nat} (h1 : r * r < m) (h2 : m ≤ (r + 1) * (r + 1)) (h3 : s * s < m) (h4 : m ≤ (s + 1) * (s + 1)) : r = s := by
  rcases Nat.lt_trichotomy r s with h | h | h
  · have h' : r + 1 ≤ s := h
    have := Nat.mul_le_mul h' h'; omega
  · exact h
  · have h' : s + 1 ≤ r := h
    have := Nat.mul_le_mul h' h'; omega
theorem rootI_spec {m : Nat} (h0 : 0 < m) (hm : m ≤ 1152921504606846976) {r : Nat} (h1 : r * r < m) (h2 : m ≤ (r + 1) * (r + 1)) : rootI m = (r + 1 : Nat) := by
  obtain ⟨g1, g2⟩ := rootL_spec m 31 0 (by omega) (by simp; omega)
  rw [rootI, if_neg (by omega)]
  have e : (min (m : Int) 1152921504606846976).toNat = m := by omega
  rw [e, root_only g1 g2 h1 h2]
theorem root_pure (n : Int) : Pure P 96 [.i n] (.i (rootI n)) := by
  refine pure_of Tryz.func96 rfl rfl (by simp [Tryz.f96]) (by simp [bnd, bnd.bndL]) (by simp [bnd]) fun B hB hnx => ?_
  simp only [Tryz.f96] at hB ⊢
  obtain ⟨m, hm⟩ : ∃ m : Nat, m = (min (max n 0) 1152921504606846976).toNat := ⟨_, rfl⟩
  have hmi : min (max n 0) 1152921504606846976 = (m : Int) := by omega
  have hm60 : m ≤ 1152921504606846976 := by omega
  refine K_run hB 60 ?_
  simp [go_sem]
  refine K_scopeP (α := Nat × Nat) 0 (fun (k, r) => k ≤ 30 ∧ r + 2 ^ (k + 1) ≤ 2147483648 ∧ rootL m (k + 1) r = rootL m 31 0) (fun (k, r) => ⟨sl [(0, .i m), (3, .i r), (4, .i (2 ^ k : Nat))], noObj, 0⟩) (fun x => x.1) rfl ?_ ?_
  · have f0 : ¬ (1152921504606846976 : Int) < m := by omega
    have f1 := w64 1073741824 (by omega)
    have f2 := w64 1152921504606846976 (by omega)
    refine K_run hB 60 ?_
    simp [go_sem, hmi, f1, f2, f0]
    refine ⟨29, 0, ⟨by omega, by omega, ?_⟩, Imp.slots (by simp [go_sem]) rfl rfl⟩
    have e : rootL m 31 0 = rootL m 30 (if (0 + 2 ^ 30) * (0 + 2 ^ 30) < m then 0 + 2 ^ 30 else 0) := rfl
    rw [e, if_neg (by simp; omega)]
  · rintro ⟨k, r⟩ ⟨h1, h2, h3⟩
    obtain ⟨x, hx⟩ : ∃ x, x = r + 2 ^ k := ⟨_, rfl⟩
    have hp := Nat.two_pow_pos k
    have e2 : r + 2 ^ k + 2 ^ k = r + 2 ^ (k + 1) := by rw [Nat.pow_succ]; omega
    have hxx : x * x ≤ 2147483648 * 2147483648 := Nat.mul_le_mul (by omega) (by omega)
    have hcast : (r : Int) + 2 ^ k = (x : Int) := by rw [hx, Int.natCast_add, Int.natCast_pow]; rfl
    have f1 : IntKind.i64.wrap (x : Int) = x := w64n x (by omega)
    have f2 : IntKind.i64.wrap ((x : Int) * x) = ((x * x : Nat) : Int) := by rw [← Int.natCast_mul]; exact w64n _ (by omega)
    rw [rootL] at h3
    rw [← hx] at h3
    have hend : ∀ r', rootL m 0 r' = rootL m 31 0 → (if 0 < m then ((r' : Int) + 1) else (r' : Int)) = rootI n := fun r' hr => by
      have hr' : r' = rootL m 31 0 := hr
      by_cases hm0 : 0 < m
      · rw [if_pos hm0, rootI, if_neg (by omega)]
        have e : (min n 1152921504606846976).toNat = m := by omega
        rw [e, hr']; rfl
      · have e0 : m = 0 := by omega
        rw [if_neg hm0, rootI, if_pos (by omega), hr', e0]
        decide
    have hrr : r < 2147483648 := by omega
    have hxr : x ≤ 2147483648 := by omega
    have fx1 := w64 ((x : Int) + 1) (by omega)
    have fr1 := w64 ((r : Int) + 1) (by omega)
    by_cases hlt : x * x < m
    · rw [if_pos hlt] at h3
      have hlt' : (x : Int) * x < m := by omega
      rcases k with _ | j
      · have he := hend x h3
        have hc0 : (r : Int) + 1 = x := by rw [hx]; rfl
        have hm0 : 0 < m := by omega
        rw [if_pos hm0] at he
        rw [← he]
        refine K_run hB 60 ?_
        simp [go_sem, hc0, f1, f2, hlt', hm0, fx1]
      · have f3 : Int.fdiv (2 ^ (j + 1)) 2 = 2 ^ j := by rw [Int.pow_succ, Int.mul_fdiv_cancel _ (by decide)]
        have f4 : (0 : Int) < 2 ^ j := Int.pow_pos (by decide)
        refine K_run hB 60 ?_
        simp [go_sem, hcast, f1, f2, hlt', f3, f4]
        refine Next.mk (j, x) ⟨by omega, by simp only; omega, h3⟩ (Imp.slots (by simp [go_sem]) rfl rfl) (by simp)
    · rw [if_neg hlt] at h3
      have hlt' : ¬ (x : Int) * x < m := by omega
      rcases k with _ | j
      · have he := hend r h3
        have hc0 : (r : Int) + 1 = x := by rw [hx]; rfl
        by_cases hm0 : 0 < m
        · rw [if_pos hm0, hc0] at he
          rw [← he]
          refine K_run hB 60 ?_
          simp [go_sem, hc0, f1, f2, hlt', hm0]
        · rw [if_neg hm0] at he
          rw [← he]
          refine K_run hB 60 ?_
          simp [go_sem, hc0, f1, f2, hlt', hm0]
      · have f3 : Int.fdiv (2 ^ (j + 1)) 2 = 2 ^ j := by rw [Int.pow_succ, Int.mul_fdiv_cancel _ (by decide)]
        have f4 : (0 : Int) < 2 ^ j := Int.pow_pos (by decide)
        refine K_run hB 60 ?_
        simp [go_sem, hcast, f1, f2, hlt', f3, f4]
        refine Next.mk (j, r) ⟨by omega, by simp only; omega, h3⟩ (Imp.slots (by simp [go_sem]) rfl rfl) (by simp)
theorem rroot_pure (n : Int) : Pure P 88 [.i n] (.i (rootI n)) := by
  refine pure_of Tryz.func88 rfl rfl (by simp [Tryz.f88]) (by simp [bnd, bnd.bndL]) (by simp [bnd]) fun B hB hnx => ?_
  simp only [Tryz.f88] at hB ⊢
  by_cases h0 : n < 1
  · have e : rootI n = 0 := by rw [rootI, if_pos (by omega)]
    rw [e]
    refine K_run hB 60 ?_
    simp [go_sem, h0]
  obtain ⟨m, hm⟩ : ∃ m : Nat, m = (min n 1152921504606846976).toNat := ⟨_, rfl⟩
  have hm0 : 0 < m := by omega
  have hm60 : m ≤ 1152921504606846976 := by omega
  have he : rootI n = rootI m := by
    rw [rootI, rootI, if_neg (by omega), if_neg (by omega)]
    have e : (min (m : Int) 1152921504606846976).toNat = (min n 1152921504606846976).toNat := by omega
    rw [e]
  rw [he]
  by_cases hbig : 1152921504606846976 < n
  · have hm' : m = 1152921504606846976 := by omega
    have hm2 : (m : Int) = 1152921504606846976 := by omega
    refine K_run hB 60 ?_
    simp [go_sem, h0, hbig]
    refine K_loopP (α := Nat × Nat) (fun (lo, hi) => (lo < hi ∧ hi ≤ 1073741824) ∧ lo * lo < m ∧ m ≤ hi * hi) (fun (lo, hi) => ⟨sl [(0, .i m), (3, .i lo), (4, .i hi)], noObj, 0⟩) (fun x => x.2 - x.1) (0, 1073741824) ⟨⟨by omega, by omega⟩, by omega, by omega⟩ (Imp.slots (by simp [go_sem, hm2]) rfl rfl) ?_
    rintro ⟨lo, hi⟩ ⟨⟨g1, g2⟩, g3, g4⟩
    have f1 : IntKind.i64.wrap ((hi : Int) - lo) = (hi : Int) - lo := w64 _ (by omega)
    by_cases hgo : (1 : Int) < (hi : Int) - lo
    · obtain ⟨mid, hmid⟩ : ∃ mid, mid = (lo + hi) / 2 := ⟨_, rfl⟩
      have f2 : IntKind.i64.wrap ((lo : Int) + hi) = ((lo + hi : Nat) : Int) := by rw [← Int.natCast_add]; exact w64n _ (by omega)
      have f3 : IntKind.i64.wrap (((lo + hi : Nat) : Int).tdiv 2) = (mid : Int) := by rw [hmid, show ((lo + hi : Nat) : Int).tdiv 2 = (((lo + hi) / 2 : Nat) : Int) from (Int.ofNat_tdiv _ 2).symm]; exact w64n _ (by omega)
      have f3' : IntKind.i64.wrap (((lo : Int) + hi) / 2) = (mid : Int) := by
        have : ((lo : Int) + hi) / 2 = (mid : Int) := by omega
        rw [this]; exact w64n _ (by omega)
      have f3'' : IntKind.i64.wrap (((lo : Int) + hi).tdiv 2) = (mid : Int) := by rw [← Int.natCast_add]; exact f3
      have hmm : mid * mid ≤ 1073741824 * 1073741824 := Nat.mul_le_mul (by omega) (by omega)
      have f4 : IntKind.i64.wrap ((mid : Int) * mid) = ((mid * mid : Nat) : Int) := by rw [← Int.natCast_mul]; exact w64n _ (by omega)
      by_cases hge : m ≤ mid * mid
      · have hge' : (m : Int) ≤ mid * mid := by omega
        refine K_run hB 60 ?_
        simp [go_sem, f1, hgo, f2, f3, f3', f3'', f4, hge']
        refine Next.mk (lo, mid) ⟨⟨by omega, by omega⟩, g3, hge⟩ (Imp.slots (by simp [go_sem]) rfl rfl) (by simp only; omega)
      · have hge' : ¬ (m : Int) ≤ mid * mid := by omega
        refine K_run hB 60 ?_
        simp [go_sem, f1, hgo, f2, f3, f3', f3'', f4, hge']
        refine Next.mk (mid, hi) ⟨⟨by omega, g2⟩, Nat.lt_of_not_le hge, g4⟩ (Imp.slots (by simp [go_sem]) rfl rfl) (by simp only; omega)
    · obtain rfl : hi = lo + 1 := by omega
      have hf := rootI_spec hm0 hm60 g3 g4
      refine K_run hB 60 ?_
      have f5 : (lo : Int) + 1 - lo = 1 := by omega
      have f6 := w64 1 (by omega)
      simp [go_sem, f5, f6, hf]
  · obtain rfl : n = m := by omega
    refine K_run hB 60 ?_
    simp [go_sem, h0, hbig]
    refine K_loopP (α := Nat × Nat) (fun (lo, hi) => (lo < hi ∧ hi ≤ 1073741824) ∧ lo * lo < m ∧ m ≤ hi * hi) (fun (lo, hi) => ⟨sl [(0, .i m), (3, .i lo), (4, .i hi)], noObj, 0⟩) (fun x => x.2 - x.1) (0, 1073741824) ⟨⟨by omega, by omega⟩, by omega, by omega⟩ (Imp.slots (by simp [go_sem]) rfl rfl) ?_
    rintro ⟨lo, hi⟩ ⟨⟨g1, g2⟩, g3, g4⟩
    have f1 : IntKind.i64.wrap ((hi : Int) - lo) = (hi : Int) - lo := w64 _ (by omega)
    by_cases hgo : (1 : Int) < (hi : Int) - lo
    · obtain ⟨mid, hmid⟩ : ∃ mid, mid = (lo + hi) / 2 := ⟨_, rfl⟩
      have f2 : IntKind.i64.wrap ((lo : Int) + hi) = ((lo + hi : Nat) : Int) := by rw [← Int.natCast_add]; exact w64n _ (by omega)
      have f3 : IntKind.i64.wrap (((lo + hi : Nat) : Int).tdiv 2) = (mid : Int) := by rw [hmid, show ((lo + hi : Nat) : Int).tdiv 2 = (((lo + hi) / 2 : Nat) : Int) from (Int.ofNat_tdiv _ 2).symm]; exact w64n _ (by omega)
      have f3' : IntKind.i64.wrap (((lo : Int) + hi) / 2) = (mid : Int) := by
        have : ((lo : Int) + hi) / 2 = (mid : Int) := by omega
        rw [this]; exact w64n _ (by omega)
      have f3'' : IntKind.i64.wrap (((lo : Int) + hi).tdiv 2) = (mid : Int) := by rw [← Int.natCast_add]; exact f3
      have hmm : mid * mid ≤ 1073741824 * 1073741824 := Nat.mul_le_mul (by omega) (by omega)
      have f4 : IntKind.i64.wrap ((mid : Int) * mid) = ((mid * mid : Nat) : Int) := by rw [← Int.natCast_mul]; exact w64n _ (by omega)
      by_cases hge : m ≤ mid * mid
      · have hge' : (m : Int) ≤ mid * mid := by omega
        refine K_run hB 60 ?_
        simp [go_sem, f1, hgo, f2, f3, f3', f3'', f4, hge']
        refine Next.mk (lo, mid) ⟨⟨by omega, by omega⟩, g3, hge⟩ (Imp.slots (by simp [go_sem]) rfl rfl) (by simp only; omega)
      · have hge' : ¬ (m : Int) ≤ mid * mid := by omega
        refine K_run hB 60 ?_
        simp [go_sem, f1, hgo, f2, f3, f3', f3'', f4, hge']
        refine Next.mk (mid, hi) ⟨⟨by omega, g2⟩, Nat.lt_of_not_le hge, g4⟩ (Imp.slots (by simp [go_sem]) rfl rfl) (by simp only; omega)
    · obtain rfl : hi = lo + 1 := by omega
      have hf := rootI_spec hm0 hm60 g3 g4
      refine K_run hB 60 ?_
      have f5 : (lo : Int) + 1 - lo = 1 := by omega
      have f6 := w64 1 (by omega)
      simp [go_sem, f5, f6, hf]
end Go.Proofs.YtlhmchdfmjfmgaaGreat
