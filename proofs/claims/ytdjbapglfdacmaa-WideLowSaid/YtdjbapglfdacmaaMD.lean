/- Parts of the proof: R19, R20, R21, R22, R23, R24, R25, R26, R27, R28, R29, R33, R34, R35, R36, R37, CT. -/
import Derived.Test.YtdjbapglfdacmaaMC
import Derived.Laws.ComplexArith
import Derived.WalkKit
import Derived.ProofKit
import Derived.OpenShut
import Derived.Carry
import Derived.RangeFuncIn
import Derived.Laws.Cover3
import Derived.Test.YtdjbapglfdacmaaProg
import Derived.KernelRfl
set_option linter.unusedVariables false
/- R19: whole numbers as floats: sums, products and conversions of them are exact. No program in sight. -/
namespace Go.Proofs.Ytdjbapglfdacmaa.R
open Ieee
set_option maxRecDepth 4000

/-- A word that stands for a whole number. -/
def Holds (b : Nat) (z : Int) : Prop := ∃ (s : Bool) (m k : Nat), double.read b = .number s m (-(k : Int)) ∧ m = z.natAbs * 2 ^ k ∧ (z ≠ 0 → s = decide (z < 0))

theorem log2_mul_pow {n k : Nat} (hn : n ≠ 0) : (n * 2 ^ k).log2 = n.log2 + k := by
  have h1 := Nat.log2_self_le hn
  have h2 := Nat.lt_log2_self (n := n)
  have hne : n * 2 ^ k ≠ 0 := Nat.mul_ne_zero hn (Nat.ne_of_gt (Nat.pow_pos (by decide : 0 < 2)))
  refine Nat.le_antisymm ?_ ?_
  · refine Nat.le_of_lt_succ ((Nat.log2_lt hne).2 ?_)
    rw [show (n.log2 + k).succ = n.log2 + 1 + k by omega, Nat.pow_add]
    exact Nat.mul_lt_mul_of_pos_right h2 (Nat.pow_pos (by decide))
  · refine (Nat.le_log2 hne).2 ?_
    rw [Nat.pow_add]
    exact Nat.mul_le_mul_right _ h1

/-- Nothing is cut off. -/
theorem cut_exact (way : Toward) (neg : Bool) (n d : Nat) : way.cut neg (n * 2 ^ d) d = n := by
  rcases Nat.eq_zero_or_pos n with h0 | h0
  · subst h0
    simp only [Toward.cut, Nat.zero_mul, Nat.zero_div, Nat.zero_mod]
    cases way <;> simp
  · have hlog := log2_mul_pow (n := n) (k := d) (by omega)
    have hmin : min d ((n * 2 ^ d).log2 + 2) = d := by omega
    have hp : 0 < 2 ^ d := Nat.pow_pos (by decide)
    simp only [Toward.cut, hmin, Nat.one_shiftLeft, Nat.mul_mod_left, Nat.mul_div_cancel _ hp]
    cases way
    · have h1 : ¬ 2 ^ d < 2 * 0 := by omega
      have h2 : ¬ 2 ^ d = 2 * 0 := by omega
      simp [h1]
    · simp
    · simp
    · simp

theorem read_word (s : Bool) {r : Nat} (h1 : double.binade ≤ r) (h2 : r < double.infRung) : double.read (double.word s r) = .number s (double.binade + r % double.binade) (double.leastPlace + (r / double.binade - 1 : Nat)) := by
  have hs : r < double.signWeight := Nat.lt_trans h2 double.infRung_lt
  have e1 : double.word s r / double.signWeight % 2 = s.toNat ∧ double.word s r % double.signWeight = r := by
    have hp : 0 < double.signWeight := by omega
    cases s
    · simp [Format.word, Nat.div_eq_of_lt hs, Nat.mod_eq_of_lt hs]
    · simp [Format.word, Nat.add_div_left, hp, Nat.div_eq_of_lt hs, Nat.mod_eq_of_lt hs]
  unfold Format.read
  simp only [e1.1, e1.2, if_neg (show ¬ r < double.binade by omega), if_pos h2]
  cases s <;> rfl
theorem read_zero (s : Bool) : double.read (double.word s 0) = .number s 0 (-(1074 : Nat)) := by
  cases s <;> decide +kernel

/-- Writing a whole number is exact. -/
theorem write_holds (s : Bool) (n k : Nat) (hn : n < 2 ^ 53) (z : Int) (hz : z.natAbs = n) (hs : z ≠ 0 → s = decide (z < 0)) : Holds (double.write (.number s (n * 2 ^ k) (-(k : Int)))) z := by
  have hb : double.binade = 2 ^ 52 := rfl
  have hf : double.fractionBits = 52 := rfl
  have hl : double.leastPlace = -1074 := by decide
  have hi : double.infRung = 2047 * 2 ^ 52 := by decide
  rcases Nat.eq_zero_or_pos n with h0 | h0
  · subst h0
    have e1 : double.write (.number s (0 * 2 ^ k) (-(k : Int))) = double.word s 0 := by simp [Format.write, Format.nearest]
    rw [e1]
    exact ⟨s, 0, 1074, read_zero s, by rw [hz]; omega, hs⟩
  · have hne : n * 2 ^ k ≠ 0 := Nat.mul_ne_zero (by omega) (Nat.ne_of_gt (Nat.pow_pos (by decide : 0 < 2)))
    have hlog := log2_mul_pow (n := n) (k := k) (by omega)
    have hL : n.log2 ≤ 52 := by
      have := (Nat.log2_lt (by omega : n ≠ 0)).2 hn
      omega
    have hlo := Nat.log2_self_le (n := n) (by omega)
    have hhi := Nat.lt_log2_self (n := n)
    generalize hLL : n.log2 = L at *
    have hlast : max (-(k : Int) + ((L + k : Nat) : Int) - ((52 : Nat) : Int)) (-1074) = (L : Int) - 52 := by omega
    have hkept : Toward.even.cut s ((n * 2 ^ k) <<< (-(k : Int) - ((L : Int) - 52)).toNat) (((L : Int) - 52) - -(k : Int)).toNat = n * 2 ^ (52 - L) := by
      by_cases hle : (L : Int) - 52 ≤ -(k : Int)
      · have h1 : (((L : Int) - 52) - -(k : Int)).toNat = 0 := by omega
        rw [h1, Nat.shiftLeft_eq]
        have := cut_exact .even s (n * 2 ^ k * 2 ^ (-(k : Int) - ((L : Int) - 52)).toNat) 0
        rw [Nat.pow_zero, Nat.mul_one] at this
        rw [this, Nat.mul_assoc, ← Nat.pow_add]
        congr 2
        omega
      · have h1 : (-(k : Int) - ((L : Int) - 52)).toNat = 0 := by omega
        rw [h1, Nat.shiftLeft_eq, Nat.pow_zero, Nat.mul_one]
        have h2 : n * 2 ^ k = n * 2 ^ (52 - L) * 2 ^ (((L : Int) - 52) - -(k : Int)).toNat := by
          rw [Nat.mul_assoc, ← Nat.pow_add]
          congr 2
          omega
        rw [h2]
        exact cut_exact .even s _ _
    have e2 : 2 ^ L * 2 ^ (52 - L) = 2 ^ 52 := by rw [← Nat.pow_add]; congr 1; omega
    have g1 : 2 ^ 52 ≤ n * 2 ^ (52 - L) := by rw [← e2]; exact Nat.mul_le_mul_right _ hlo
    have g2 : n * 2 ^ (52 - L) < 2 ^ 53 := by
      have e3 : 2 ^ (L + 1) * 2 ^ (52 - L) = 2 ^ 53 := by rw [← Nat.pow_add]; congr 1; omega
      rw [← e3]
      exact Nat.mul_lt_mul_of_pos_right hhi (Nat.pow_pos (by decide))
    have c52 : 2 ^ 52 = 4503599627370496 := by decide
    have c53 : 2 ^ 53 = 9007199254740992 := by decide
    rw [c52] at g1
    rw [c53] at g2
    generalize hM : n * 2 ^ (52 - L) = M at *
    have hb' : double.binade = 4503599627370496 := by decide
    have hi' : double.infRung = 9218868437227405312 := by decide
    obtain ⟨r, hr⟩ : ∃ r, r = (L + 1022) * 4503599627370496 + M := ⟨_, rfl⟩
    clear c52 c53 e2 hlo hhi hb hi hn
    have r1 : 4503599627370496 ≤ r := by omega
    have r2 : r < 9218868437227405312 := by omega
    have r3 : ((L : Int) - 52 - -1074).toNat = L + 1022 := by omega
    have e1 : double.write (.number s (n * 2 ^ k) (-(k : Int))) = double.word s r := by
      simp only [Format.write, Format.nearest, if_neg hne, hlog, hf, hl, hlast, hkept, hb', hi', r3]
      rw [← hr, Nat.min_eq_left (Nat.le_of_lt r2)]
    have d1 : 4503599627370496 + r % 4503599627370496 = M := by omega
    have d2 : r / 4503599627370496 - 1 = L + 1022 := by omega
    have er := read_word s (r := r) (by rw [hb']; exact r1) (by rw [hi']; exact r2)
    rw [hb', hl, d1, d2] at er
    have e5 : -1074 + ((L + 1022 : Nat) : Int) = -((52 - L : Nat) : Int) := by omega
    rw [e5, ← e1] at er
    exact ⟨s, M, 52 - L, er, by rw [hz, hM], hs⟩

theorem nearest_holds (z : Int) (h : z.natAbs < 2 ^ 53) : Holds (FloatKind.nearest .f64 z) z := by
  have := write_holds (decide (z < 0)) z.natAbs 0 h z rfl (fun _ => rfl)
  simpa [FloatKind.nearest, FloatKind.encode, FloatKind.format] using this

theorem signed_eq {s : Bool} {z : Int} {k j : Nat} (hs : z ≠ 0 → s = decide (z < 0)) : signed s (z.natAbs * 2 ^ k) j = z * (2 : Int) ^ (k + j) := by
  have hp : ((2 ^ (k + j) : Nat) : Int) = (2 : Int) ^ (k + j) := by rw [Int.natCast_pow]; rfl
  have e1 : ((z.natAbs * 2 ^ k) <<< j : Nat) = z.natAbs * 2 ^ (k + j) := by rw [Nat.shiftLeft_eq, Nat.mul_assoc, ← Nat.pow_add]
  unfold signed
  rw [e1, ← hp, Int.natCast_mul]
  by_cases h0 : z = 0
  · subst h0; simp
  · rw [hs h0]
    by_cases hn : z < 0
    · simp only [hn, decide_true, if_true]
      rw [← Int.neg_mul]
      congr 1
      omega
    · simp only [hn, decide_false]
      have : (z.natAbs : Int) = z := by omega
      rw [this]; rfl

theorem sum_holds {d e : Datum} {s t : Bool} {x y : Int} {k j : Nat} (hd : d = .number s (x.natAbs * 2 ^ k) (-(k : Int))) (he : e = .number t (y.natAbs * 2 ^ j) (-(j : Int))) (hs : x ≠ 0 → s = decide (x < 0)) (ht : y ≠ 0 → t = decide (y < 0))
    (h : (x + y).natAbs < 2 ^ 53) : ∃ b, (d.sum e).map double.write = some b ∧ Holds b (x + y) := by
  subst hd he
  have hmin : min (-(k : Int)) (-(j : Int)) = -((max k j : Nat) : Int) := by omega
  have h1 : (-(k : Int) - -((max k j : Nat) : Int)).toNat = max k j - k := by omega
  have h2 : (-(j : Int) - -((max k j : Nat) : Int)).toNat = max k j - j := by omega
  have e1 : signed s (x.natAbs * 2 ^ k) (max k j - k) = x * (2 : Int) ^ (max k j) := by rw [signed_eq hs]; congr 2; omega
  have e2 : signed t (y.natAbs * 2 ^ j) (max k j - j) = y * (2 : Int) ^ (max k j) := by rw [signed_eq ht]; congr 2; omega
  have e3 : x * (2 : Int) ^ (max k j) + y * (2 : Int) ^ (max k j) = (x + y) * (2 : Int) ^ (max k j) := by rw [Int.add_mul]
  have hp : (0 : Int) < (2 : Int) ^ (max k j) := Int.pow_pos (by decide)
  have e4 : ((x + y) * (2 : Int) ^ (max k j)).natAbs = (x + y).natAbs * 2 ^ (max k j) := by rw [Int.natAbs_mul, Int.natAbs_pow]; rfl
  simp only [Datum.sum, hmin, h1, h2, e1, e2, e3, Option.map_some, e4]
  refine ⟨_, rfl, write_holds _ _ _ h _ rfl fun hne => ?_⟩
  have hne2 : ¬ (x + y) * (2 : Int) ^ (max k j) = 0 := fun h0 => (Int.mul_eq_zero.1 h0).elim hne (fun h => by omega)
  rw [if_neg hne2]
  by_cases hneg : x + y < 0
  · have := Int.mul_neg_of_neg_of_pos hneg hp
    simp [hneg, this]
  · have := Int.mul_nonneg (show 0 ≤ x + y by omega) (Int.le_of_lt hp)
    simp [hneg]; omega
theorem add_holds {a b : Nat} {x y : Int} (ha : Holds a x) (hb : Holds b y) (h : (x + y).natAbs < 2 ^ 53) : ∃ r, floatBits .add .f64 a b = some r ∧ Holds r (x + y) := by
  obtain ⟨s, m, k, h1, rfl, h3⟩ := ha
  obtain ⟨t, n, j, g1, rfl, g3⟩ := hb
  exact sum_holds h1 g1 h3 g3 h
theorem sub_holds {a b : Nat} {x y : Int} (ha : Holds a x) (hb : Holds b y) (h : (x - y).natAbs < 2 ^ 53) : ∃ r, floatBits .sub .f64 a b = some r ∧ Holds r (x - y) := by
  obtain ⟨s, m, k, h1, rfl, h3⟩ := ha
  obtain ⟨t, n, j, g1, rfl, g3⟩ := hb
  have e1 : (double.read b).opposite = .number (!t) ((-y).natAbs * 2 ^ j) (-(j : Int)) := by rw [g1]; simp [Datum.opposite]
  have := sum_holds (x := x) (y := -y) h1 e1 h3 (fun hy => by
    have hy' : y ≠ 0 := fun h => hy (by omega)
    rw [g3 hy']
    by_cases hn : y < 0 <;> simp [hn] <;> omega) (by rw [← Int.sub_eq_add_neg]; exact h)
  rw [← Int.sub_eq_add_neg] at this
  exact this
theorem mul_holds {a b : Nat} {x y : Int} (ha : Holds a x) (hb : Holds b y) (h : (x * y).natAbs < 2 ^ 53) : ∃ r, floatBits .mul .f64 a b = some r ∧ Holds r (x * y) := by
  obtain ⟨s, m, k, h1, rfl, h3⟩ := ha
  obtain ⟨t, n, j, g1, rfl, g3⟩ := hb
  have e1 : x.natAbs * 2 ^ k * (y.natAbs * 2 ^ j) = (x * y).natAbs * 2 ^ (k + j) := by rw [Int.natAbs_mul, Nat.pow_add]; ac_rfl
  have e2 : -(k : Int) + -(j : Int) = -((k + j : Nat) : Int) := by omega
  refine ⟨double.write (.number (s ^^ t) ((x * y).natAbs * 2 ^ (k + j)) (-((k + j : Nat) : Int))), ?_, write_holds _ _ _ h _ rfl fun hne => ?_⟩
  · show ((double.read a).product (double.read b)).map double.write = _
    rw [h1, g1]
    simp only [Datum.product, Option.map_some, e1, e2]
  · have hx : x ≠ 0 := fun h0 => hne (by rw [h0, Int.zero_mul])
    have hy : y ≠ 0 := fun h0 => hne (by rw [h0, Int.mul_zero])
    rw [h3 hx, g3 hy]
    by_cases hx1 : x < 0 <;> by_cases hy1 : y < 0
    · have := Int.mul_pos_of_neg_of_neg hx1 hy1
      simp [hx1, hy1]; omega
    · have := Int.mul_neg_of_neg_of_pos hx1 (show 0 < y by omega)
      simp [hx1, hy1, this]
    · have := Int.mul_neg_of_pos_of_neg (show 0 < x by omega) hy1
      simp [hx1, hy1, this]
    · have := Int.mul_pos (show 0 < x by omega) (show 0 < y by omega)
      simp [hx1, hy1]; omega
theorem neg_holds {a : Nat} {x : Int} (ha : Holds a x) : Holds (Op.negFloat .f64 a) (-x) := by
  obtain ⟨s, m, k, h1, h2, h3⟩ := ha
  have e0 : double.read (Op.negFloat .f64 a) = (double.read a).opposite := by
    have hsw : double.signWeight = 2 ^ 63 := rfl
    have e1 : Op.negFloat .f64 a = a ^^^ 2 ^ 63 := rfl
    have e2 : (a ^^^ 2 ^ 63) % 2 ^ 63 = a % 2 ^ 63 := by rw [Nat.xor_mod_two_pow, Nat.mod_self, Nat.xor_zero]
    have e3 : (a ^^^ 2 ^ 63) / 2 ^ 63 % 2 = 1 - a / 2 ^ 63 % 2 := by
      rw [Nat.xor_div_two_pow, Nat.div_self (Nat.pow_pos (by decide))]
      have := Nat.xor_mod_two_pow (a := a / 2 ^ 63) (b := 1) (n := 1)
      rw [Nat.pow_one] at this
      rw [this]
      rcases Nat.mod_two_eq_zero_or_one (a / 2 ^ 63) with h | h <;> rw [h] <;> rfl
    have e4 : ((1 - a / 2 ^ 63 % 2) == 1) = !((a / 2 ^ 63 % 2) == 1) := by
      rcases Nat.mod_two_eq_zero_or_one (a / 2 ^ 63) with h | h <;> rw [h] <;> rfl
    rw [e1]
    unfold Format.read
    rw [hsw]
    simp only [e2, e3, e4]
    split
    · rfl
    · split
      · rfl
      · split <;> rfl
  refine ⟨!s, m, k, by rw [e0, h1]; rfl, by rw [h2, Int.natAbs_neg], fun hne => ?_⟩
  have hx : x ≠ 0 := fun h => hne (by omega)
  rw [h3 hx]
  by_cases hn : x < 0 <;> simp [hn] <;> omega
theorem toInt_holds {a : Nat} {x : Int} (ha : Holds a x) (h : -9223372036854775808 ≤ x ∧ x ≤ 9223372036854775807) : floatToIntVal .f64 a .i64 = some x := by
  obtain ⟨s, m, k, h1, rfl, h3⟩ := ha
  have e1 : FloatKind.decode .f64 a = .number s (x.natAbs * 2 ^ k) (-(k : Int)) := h1
  have e2 : (-(k : Int)).toNat = 0 := by omega
  have e3 : (-(-(k : Int))).toNat = k := by omega
  have e4 : (Datum.number s (x.natAbs * 2 ^ k) (-(k : Int))).toInt .zero = some x := by
    simp only [Datum.toInt, Datum.integral, e2, e3, Nat.shiftLeft_eq, Nat.pow_zero, Nat.mul_one, cut_exact]
    have := signed_eq (s := s) (z := x) (k := 0) (j := 0) h3
    rw [Nat.pow_zero, Nat.mul_one] at this
    rw [this]
    simp
  have hmin : IntKind.i64.min = -9223372036854775808 := by decide
  have hmax : IntKind.i64.max = 9223372036854775807 := by decide
  unfold floatToIntVal
  rw [e1, e4]
  simp only [hmin, hmax, if_pos h]
/-- How far, squared. -/
theorem far_holds {a b c d : Nat} {x y u v : Int} (ha : Holds a x) (hb : Holds b y) (hc : Holds c u) (hd : Holds d v) (hx : 0 ≤ x ∧ x ≤ 10000) (hy : 0 ≤ y ∧ y ≤ 10000) (hu : 0 ≤ u ∧ u ≤ 10000) (hv : 0 ≤ v ∧ v ≤ 10000) :
    ∃ re im re2 im2, cSumBits .sub .f64 a b c d = some (re, im) ∧ cMulBits re im re (Op.negFloat .f64 im) = some (re2, im2) ∧ Holds re2 ((x - u) * (x - u) + (y - v) * (y - v)) := by
  obtain ⟨re, e1, g1⟩ := sub_holds ha hc (by omega)
  obtain ⟨im, e2, g2⟩ := sub_holds hb hd (by omega)
  have hp : -10000 ≤ x - u ∧ x - u ≤ 10000 := by omega
  have hq : -10000 ≤ y - v ∧ y - v ≤ 10000 := by omega
  generalize x - u = p at *
  generalize y - v = q at *
  have bd : ∀ m n : Int, -10000 ≤ m ∧ m ≤ 10000 → -10000 ≤ n ∧ n ≤ 10000 → (m * n).natAbs ≤ 100000000 := fun m n h1 h2 => by
    rw [Int.natAbs_mul]
    exact Nat.mul_le_mul (show m.natAbs ≤ 10000 by omega) (show n.natAbs ≤ 10000 by omega)
  have g3 := neg_holds g2
  have b1 := bd p p hp hp
  have b2 := bd q (-q) hq (by omega)
  have b3 := bd p (-q) hp (by omega)
  have b4 := bd q p hq hp
  obtain ⟨m1, e3, k1⟩ := mul_holds g1 g1 (by omega)
  obtain ⟨m2, e4, k2⟩ := mul_holds g2 g3 (by omega)
  obtain ⟨m3, e5, k3⟩ := sub_holds k1 k2 (by omega)
  obtain ⟨m4, e6, k4⟩ := mul_holds g1 g3 (by omega)
  obtain ⟨m5, e7, k5⟩ := mul_holds g2 g1 (by omega)
  obtain ⟨m6, e8, k6⟩ := add_holds k4 k5 (by omega)
  refine ⟨re, im, m3, m6, ?_, ?_, ?_⟩
  · simp only [cSumBits, e1, e2, Option.bind_some]
  · simp only [cMulBits, e3, e4, e5, e6, e7, e8, Option.bind_some]
  · have : p * p - q * -q = p * p + q * q := by rw [Int.mul_neg]; omega
    rw [← this]
    exact k3
end Go.Proofs.Ytdjbapglfdacmaa.R

/- R20: operations that give a plain value by a law of their own (floats, complex numbers). -/
namespace Go.Proofs.Ytdjbapglfdacmaa.R
open Go.RowKit

/-- What an operation gives, whatever the memory. -/
def Gives (P : Program) (o : Oper) (m : Slots) (u : Value) : Prop :=
  plainV u = true ∧ ∀ (ρ : Operand → Value) (w : World), (∀ x ∈ o.op.operands.toList, ∀ v, ev m x = .t (.v v) → ρ x = v) → (execOp ρ o).run P w = .ok (.value u) w

section
variable {P : Program} {B : Base} {k : List KI} {R : Post} {s : St} {all : Array Oper} {o : Oper} {rest : List Oper} {u : Value}
theorem K_val (hg : o.guard = none) (hd : dOk B.n o.dst = true) (h : Gives P o s.m u) (hk : Kp P B (.ops all rest :: k) R .normal ⟨put s.m o.dst (.t (.v u)), s.σ, s.nx⟩) : Kp P B (.ops all (o :: rest) :: k) R .normal s := by
  intro a w hr
  refine wpL_plain hg fun K hK => ?_
  obtain ⟨C, h1, h2, h3, h4, h5, h6⟩ := hr
  have hrun := h.2 a.eval w fun x _ v hx => by
    have := ev_rep h2 x
    rw [hx] at this
    exact (rep_v this).1
  refine owp_value hrun ?_
  exact hK _ _ (hk _ _ ⟨C, h1, put_rep h5 (Step.refl _ _ _) h2 (by rw [h3]; exact hd) (.t (.v h.1)), by rw [put_size]; exact h3, by rw [put_def]; exact h4, h5, h6⟩)
theorem does_val {n i : Nat} {m : Slots} (ho : all[i]? = some o) (hl : lets all m o = some true) (h : Gives P o m u) (σ : Nat → AObj) (nx : Nat) : Does P n all i m σ nx (.t (.v u)) σ nx := by
  intro C a w hn hs hsz hr ro K Q hK
  have hrun := h.2 a.eval w fun x hx v hv => by
    have := ev_rep hr x
    rw [mask_ev ho x hx, hv] at this
    exact (rep_v this).1
  have hd : dstOf all i = o.dst := by simp [dstOf, ho]
  simp only [wpO, wpOpIn, ho, lets_wanted ho hr hl, if_true]
  refine owp_value hrun ?_
  rw [hd] at hK
  exact hK _ _ C hs hn (Step.refl _ _ _) (.t (.v h.1))
theorem K_dVal {lo : List Nat} {sw : SW} {rest : List (Nat × Oper)} {i : Nat} {pend : List Rc} (hl : lets all s.m o = some true) (h : Gives P o s.m u) (hk : Kp P B (.opsD all lo sw rest pend :: k) R .normal ⟨put s.m o.dst (.t (.v u)), s.σ, s.nx⟩) : Kp P B (.opsD all lo sw ((i, o) :: rest) pend :: k) R .normal s :=
  Chain.at fun ho => Chain.step (loud := none) (does_val ho hl h _ _) (fun _ => .inl (does_val ho hl h)) (fun c hc => by cases hc) (fun _ h => h) hk
end

/-- A region in which all that looks is tied to all that is loud. -/
theorem K_drawnT {P : Program} {B : Base} {k : List KI} {R : Post} {s : St} {all : Array Oper} {id : Nat} (lo : List Nat) (hm : P.follows .mixedOrders = true) (hst : statOK all B.n lo = true) (ht : (List.range all.size).all (tied all lo) = true)
    (h : (∀ i, i < all.size → tied all lo i = true) → Kp P B (.opsD all lo none (num 0 all.toList) [] :: k) R .normal s) : Kp P B (.code (.region id all true) :: k) R .normal s :=
  K_drawn lo hm hst (h fun i hi => List.all_eq_true.1 ht i (List.mem_range.2 hi))
/-- A region in which but the named looks are tied to all that is loud; these float. -/
theorem K_drawnF {P : Program} {B : Base} {k : List KI} {R : Post} {s : St} {all : Array Oper} {id : Nat} (lo fl : List Nat) (hm : P.follows .mixedOrders = true) (hst : statOK all B.n lo = true) (ht : ((List.range all.size).all (fun i => tied all lo i == !fl.contains i) && fl.all (fun i => lo.contains i || flo all lo i)) = true)
    (h : (∀ i, i < all.size → tied all lo i = !fl.contains i) → (∀ i, i ∈ fl → i ∉ lo → flo all lo i = true) → Kp P B (.opsD all lo none (num 0 all.toList) [] :: k) R .normal s) : Kp P B (.code (.region id all true) :: k) R .normal s := by
  rw [Bool.and_eq_true] at ht
  exact K_drawn lo hm hst (h (fun i hi => eq_of_beq (List.all_eq_true.1 ht.1 i (List.mem_range.2 hi))) (fun i hi hn => by
    have := List.all_eq_true.1 ht.2 i hi
    simpa [hn] using this))
/-- The same, where two loud ones may change places. -/
theorem K_drawnP {P : Program} {B : Base} {k : List KI} {R : Post} {s : St} {all : Array Oper} {id : Nat} (lo fl : List Nat) (a1 b1 : Nat) (hlt : a1 < b1) (hm : P.follows .mixedOrders = true) (hst : statS all B.n lo (some (a1, b1, false)) = true) (ht : ((List.range all.size).all (fun i => tied all lo i == !fl.contains i) && fl.all (fun i => lo.contains i || flo all lo i)) = true)
    (h : (∀ i, i < all.size → tied all lo i = !fl.contains i) → (∀ i, i ∈ fl → i ∉ lo → flo all lo i = true) → Kp P B (.opsD all lo (some (a1, b1, false)) (num 0 all.toList) [] :: k) R .normal s) : Kp P B (.code (.region id all true) :: k) R .normal s := by
  rw [Bool.and_eq_true] at ht
  exact K_drawn2 lo a1 b1 hlt hm hst (h (fun i hi => eq_of_beq (List.all_eq_true.1 ht.1 i (List.mem_range.2 hi))) (fun i hi hn => by
    have := List.all_eq_true.1 ht.2 i hi
    simpa [hn] using this))
def loosen : AV → AV
  | .fsl es => .t (.sl es)
  | .agg cs => .agg (loosenL cs)
  | a => a
  where
  loosenL : List AV → List AV
  | [] => []
  | c :: cs => loosen c :: loosenL cs
theorem loosenL_get : ∀ {cs : List AV} {k : Nat} {a : AV}, (loosen.loosenL cs)[k]? = some a → ∃ b, cs[k]? = some b ∧ a = loosen b
  | [], k, a, h => by simp [loosen.loosenL] at h
  | c :: cs, k, a, h => by
    cases k with
    | zero => simp [loosen.loosenL] at h; exact ⟨c, rfl, h.symm⟩
    | succ k =>
      simp only [loosen.loosenL, List.getElem?_cons_succ] at h
      obtain ⟨b, h1, h2⟩ := loosenL_get h
      exact ⟨b, by simpa using h1, h2⟩
theorem loosenL_length : ∀ (cs : List AV), (loosen.loosenL cs).length = cs.length
  | [] => rfl
  | c :: cs => by simp only [loosen.loosenL, List.length_cons, loosenL_length cs]
theorem loosen_rep {w : World} {C : Ctx} {x : AV} {v : Value} (h : RepA w C x v) : RepA w C (loosen x) v := by
  induction h with
  | agg hl _ ih =>
    simp only [loosen]
    refine .agg (by rw [loosenL_length]; exact hl) fun k a u ha hu => ?_
    obtain ⟨b, h1, rfl⟩ := loosenL_get ha
    exact ih k b u h1 hu
  | fsl h => exact .t h
  | t h => exact .t h
  | tup a b _ => exact .tup a b
  | ref a b => exact .ref a b
  | ptr a b => exact .ptr a b
  | rd a b c => exact .rd a b c
  | el a b c => exact .el a b c
  | cut a b c => exact .cut a b c
  | mapr a b => exact .mapr a b
  | yld a b => exact .yld a b
  | fn a b c d _ _ => exact .fn a b c d
  | any => exact .any
/-- Less is said of the slots. -/
theorem Imp.loose {B : Base} {s : St} : Imp B s ⟨fun i => loosen (s.m i), s.σ, s.nx⟩ := by
  intro a w hr
  obtain ⟨C, h1, h2, h3, h4, h5, h6⟩ := hr
  exact ⟨C, h1, fun t => loosen_rep (h2 t), h3, h4, h5, h6⟩
theorem CallSpec.loose {P : Program} {f : FuncId} {args : List AV} {σ : Nat → AObj} {nx : Nat} {r : AV} {σ' : Nat → AObj} {nx' : Nat} (h : CallSpec P f (args.map loosen) σ nx r σ' nx') : CallSpec P f args σ nx r σ' nx' := by
  refine ⟨h.1, fun C w vs h1 h2 h3 => h.2 C w vs h1 h2 ⟨by rw [List.length_map]; exact h3.1, fun k a u ha hu => ?_⟩⟩
  rw [List.getElem?_map] at ha
  obtain ⟨b, hb, rfl⟩ := Option.map_eq_some_iff.1 ha
  exact loosen_rep (h3.2 k b u hb hu)
theorem Pure.loose {P : Program} {f : FuncId} {args : List AV} {r : AV} (h : Pure P f (args.map loosen) r) (hb : args.all (bnd 0) = true) : Pure P f args r :=
  ⟨fun a ha => List.all_eq_true.1 hb a ha, h.2.1, CallSpec.loose h.2.2⟩

section
variable {P : Program} {o : Oper} {m : Slots}
theorem gives_toFloat {t d : TypeId} {x : Operand} {q : IntKind} {n : Int} {i : TI} {f : TI} (ho : o.op = .convert t d x) (hx : ev m x = .t (.v (.int q n))) (ht : TT P t = some i) (hd : TT P d = some f) (hf : f.desc = .float .f64) : Gives P o m (.float .f64 (FloatKind.nearest .f64 n)) := by
  refine ⟨rfl, fun ρ w h => ?_⟩
  have e := h x (by rw [ho]; simp [Op.operands]) _ hx
  have hu : P.underlying d = some (.float .f64) := by rw [(tt_some hd).1, hf]
  simp only [execOp, ho, e, Sem.run_bind, run_convert_int_float w t d q .f64 n (by rw [(tt_some ht).1]; rfl) hu, Result.andThen_ok, Sem.run_pure]
  rfl
theorem gives_toInt {t d : TypeId} {x : Operand} {b : Nat} {n : Int} {i : TI} {f : TI} (ho : o.op = .convert t d x) (hx : ev m x = .t (.v (.float .f64 b))) (ht : TT P t = some i) (hd : TT P d = some f) (hf : f.desc = .int .i64) (hn : floatToIntVal .f64 b .i64 = some n) : Gives P o m (.int .i64 n) := by
  refine ⟨rfl, fun ρ w h => ?_⟩
  have e := h x (by rw [ho]; simp [Op.operands]) _ hx
  have hu : P.underlying d = some (.int .i64) := by rw [(tt_some hd).1, hf]
  simp only [execOp, ho, e, Sem.run_bind, run_convert_float_int w t d .f64 .i64 b n (by rw [(tt_some ht).1]; rfl) hu hn, Result.andThen_ok, Sem.run_pure]
theorem gives_csub {t t' : TypeId} {x y : Operand} {a b c d re im : Nat} (ho : o.op = .binOp .sub t x y t') (hx : ev m x = .t (.v (.complex .f64 a b))) (hy : ev m y = .t (.v (.complex .f64 c d))) (hn : cSumBits .sub .f64 a b c d = some (re, im)) : Gives P o m (.complex .f64 re im) := by
  refine ⟨rfl, fun ρ w h => ?_⟩
  have e := h x (by rw [ho]; simp [Op.operands]) _ hx
  have e2 := h y (by rw [ho]; simp [Op.operands]) _ hy
  simp [execOp, ho, e, e2, eqGuard, run_complex_sum w .sub (.inr rfl) t .f64 a b c d re im hn]
theorem gives_cmul {t t' : TypeId} {x y : Operand} {a b c d re im : Nat} (ho : o.op = .binOp .mul t x y t') (hx : ev m x = .t (.v (.complex .f64 a b))) (hy : ev m y = .t (.v (.complex .f64 c d))) (hn : cMulBits a b c d = some (re, im)) : Gives P o m (.complex .f64 re im) := by
  refine ⟨rfl, fun ρ w h => ?_⟩
  have e := h x (by rw [ho]; simp [Op.operands]) _ hx
  have e2 := h y (by rw [ho]; simp [Op.operands]) _ hy
  simp [execOp, ho, e, e2, eqGuard, run_complex_mul w t a b c d re im hn]
theorem gives_neg {t : TypeId} {x : Operand} {b : Nat} (ho : o.op = .unOp .neg t x) (hx : ev m x = .t (.v (.float .f64 b))) : Gives P o m (.float .f64 (Op.negFloat .f64 b)) := by
  refine ⟨rfl, fun ρ w h => ?_⟩
  have e := h x (by rw [ho]; simp [Op.operands]) _ hx
  simp [execOp, ho, e, Op.unary]
theorem gives_real {c : Call} {x : Operand} {a b : Nat} (ho : o.op = .call c) (hc : c.callee = .builtin .real) (hcx : c.args = #[x]) (hx : ev m x = .t (.v (.complex .f64 a b))) : Gives P o m (.float .f64 a) := by
  refine ⟨rfl, fun ρ w h => ?_⟩
  have e := h x (by rw [ho]; simp [Op.operands, Call.operands, hcx]) _ hx
  simp [execOp, ho, resolve, hc, hcx, e, invoke, builtin, run_real]
theorem gives_imag {c : Call} {x : Operand} {a b : Nat} (ho : o.op = .call c) (hc : c.callee = .builtin .imag) (hcx : c.args = #[x]) (hx : ev m x = .t (.v (.complex .f64 a b))) : Gives P o m (.float .f64 b) := by
  refine ⟨rfl, fun ρ w h => ?_⟩
  have e := h x (by rw [ho]; simp [Op.operands, Call.operands, hcx]) _ hx
  simp [execOp, ho, resolve, hc, hcx, e, invoke, builtin, run_imag]
theorem gives_complex {c : Call} {x y : Operand} {a b : Nat} (ho : o.op = .call c) (hc : c.callee = .builtin .complex) (hcx : c.args = #[x, y]) (hx : ev m x = .t (.v (.float .f64 a))) (hy : ev m y = .t (.v (.float .f64 b))) : Gives P o m (.complex .f64 a b) := by
  refine ⟨rfl, fun ρ w h => ?_⟩
  have e := h x (by rw [ho]; simp [Op.operands, Call.operands, hcx]) _ hx
  have e2 := h y (by rw [ho]; simp [Op.operands, Call.operands, hcx]) _ hy
  simp [execOp, ho, resolve, hc, hcx, e, e2, invoke, builtin, run_complex]
end
end Go.Proofs.Ytdjbapglfdacmaa.R

/- R21: a scope with more labels that are jumped to. -/
namespace Go.Proofs.Ytdjbapglfdacmaa.R
open Go.RowKit
section
variable {P : Program} {B : Base} {k : List KI} {R : Post} {s : St}
/-- What stands behind a label. -/
def behind (c : Code) (l : Nat) : Code := (findLabel c l).getD .skip
theorem K_scopeL {α : Type} {c : Code} (lab : α → Nat) (I : α → Prop) (st : α → St) (μ : α → Nat) (hf : ∀ x, I x → (findLabel c (lab x)).isSome = true)
    (first : Kp P B (.code c :: .lab (fun l' s' => ∃ y, I y ∧ lab y = l' ∧ Imp B s' (st y)) :: k) R .normal s)
    (pass : ∀ x, I x → Kp P B (.code (behind c (lab x)) :: .lab (fun l' s' => ∃ y, I y ∧ lab y = l' ∧ Imp B s' (st y) ∧ μ y < μ x) :: k) R .normal (st x)) : Kp P B (.code (.scope c) :: k) R .normal s := by
  intro ac w hr
  refine cwp_scope_many (fun (x : {a // I a}) a w => Rel B (st x.1) a w) (fun x => lab x.1) (fun x => μ x.1) (behind c) (fun x => ?_) (cwp_mono (first ac w hr) fun e a' w' hp => ?_) fun x a w hx => cwp_mono (pass x.1 x.2 a w hx) fun e a' w' hp => ?_
  · obtain ⟨z, hz⟩ := Option.isSome_iff_exists.1 (hf x.1 x.2)
    rw [behind, hz]; rfl
  · obtain ⟨s', h1, h2⟩ := hp
    cases e with
    | goto l' => obtain ⟨y, h3, h0, h4⟩ := h1; exact ⟨⟨y, h3⟩, h0, h4 _ _ h2⟩
    | _ => exact ⟨s', h1, h2⟩
  · obtain ⟨s', h1, h2⟩ := hp
    cases e with
    | goto l' => obtain ⟨y, h3, h0, h4, h5⟩ := h1; exact ⟨⟨y, h3⟩, h0, h4 _ _ h2, h5⟩
    | _ => exact ⟨s', h1, h2⟩
/-- What stands behind a label, where that stands ahead of the rest. -/
def tailC (c : Code) (l : Nat) : Code := match findLabel c l with
  | some (.seq .skip n) => n
  | _ => .skip
/-- A scope whose labels are jumped to, or run into. -/
theorem K_scopeF {α : Type} {c : Code} (lab : α → Nat) (I : α → Prop) (st : α → St) (μ : α → Nat) (hf : ∀ x, I x → findLabel c (lab x) = some (.seq .skip (tailC c (lab x))))
    (pass : ∀ x, I x → (∀ l' s', (∃ y, I y ∧ lab y = l' ∧ Imp B s' (st y) ∧ μ y < μ x) → Kp P B (.code (.seq (.label l') (tailC c l')) :: .lab (fun l' s' => ∃ y, I y ∧ lab y = l' ∧ Imp B s' (st y) ∧ μ y < μ x) :: k) R .normal s') →
      Kp P B (.code (tailC c (lab x)) :: .lab (fun l' s' => ∃ y, I y ∧ lab y = l' ∧ Imp B s' (st y) ∧ μ y < μ x) :: k) R .normal (st x))
    (first : ∀ J : Nat → St → Prop, (∀ l' s', (∃ y, I y ∧ lab y = l' ∧ Imp B s' (st y)) → Kp P B (.code (.seq (.label l') (tailC c l')) :: .lab J :: k) R .normal s') → Kp P B (.code c :: .lab J :: k) R .normal s) : Kp P B (.code (.scope c) :: k) R .normal s := by
  have key : ∀ n x, μ x = n → I x → Kp P B (.code (tailC c (lab x)) :: .lab (fun l' s' => ∃ y, I y ∧ lab y = l' ∧ Imp B s' (st y) ∧ μ y < μ x) :: k) R .normal (st x) := by
    intro n
    induction n using Nat.strongRecOn with
    | _ n ih =>
      intro x hn hx
      refine pass x hx ?_
      rintro l' s' ⟨y, hy, hl, hi, hm⟩
      subst hl
      refine K_seq (K_label (K_less hi (K_lab_mono ?_ (ih (μ y) (by omega) y rfl hy))))
      rintro l2 s2 ⟨z, a, b, c, d⟩
      exact ⟨z, a, b, c, by omega⟩
  refine K_scopeL lab I st μ (fun x hx => by rw [hf x hx]; rfl) (first _ ?_) fun x hx => ?_
  · rintro l' s' ⟨y, hy, hl, hi⟩
    subst hl
    refine K_seq (K_label (K_less hi (K_lab_mono ?_ (key _ y rfl hy))))
    rintro l2 s2 ⟨z, a, b, c, d⟩
    exact ⟨z, a, b, c⟩
  · have := hf x hx
    rw [behind, this]
    exact K_seq (K_skip (key _ x rfl hx))
/-- What is said of the end may be said of a state that stands for less. -/
theorem K_after {c : Code} (h : Kp P B [.code c] (fun e s => ∃ t, Imp B s t ∧ R e t) .normal s) : Kp P B [.code c] R .normal s := by
  intro a w hr
  refine cwp_mono (h a w hr) fun e a' w' hp => ?_
  obtain ⟨s', ⟨t, h1, h2⟩, h3⟩ := hp
  exact ⟨t, h2, h1 _ _ h3⟩
end
end Go.Proofs.Ytdjbapglfdacmaa.R

/- R22: a row as an array of so many. -/
namespace Go.Proofs.Ytdjbapglfdacmaa.R
open Go.RowKit
section
variable {P : Program} {B : Base} {k : List KI} {R : Post} {s : St} {all : Array Oper} {o : Oper} {rest : List Oper}
theorem K_arrp {t e : TypeId} {n : Nat} {i : TI} {x : Operand} {es : List (List T)} (hg : o.guard = none) (hd : dOk B.n o.dst = true) (ho : o.op = .sliceToArrayPointer t x) (ht : TT P t = some i) (hi : i.desc = .array n e) (hx : ev s.m x = .t (.sl es)) (hn : n ≤ es.length) (h0 : 0 < es.length)
    (hk : Kp P B (.ops all rest :: k) R .normal ⟨put s.m o.dst (.rd es.flatten), s.σ, s.nx⟩) : Kp P B (.ops all (o :: rest) :: k) R .normal s := by
  intro a w hr
  refine wpL_plain hg fun K hK => ?_
  obtain ⟨C, h1, h2, h3, h4, h5, h6⟩ := hr
  have hrep := ev_rep h2 x
  rw [hx] at hrep
  have hrt : RepT w C.imm (.sl es) (a.eval x) := by
    generalize a.eval x = v at hrep
    cases hrep with
    | t h => exact h
  obtain ⟨ad, cap, sz, u, hv, hsz, himm, hcell, hel⟩ : ∃ (ad : Addr) (cap sz : Nat) (u : Nat → Value), a.eval x = .slice (some ad) es.length cap ∧ (∀ e ∈ es, e.length = sz) ∧ C.imm ad.block ∧ (∀ k, k < es.length * sz → w.cell? (ad.add k) = some (u k)) ∧
      (∀ (j k : Nat) (e : List T) (c : T), es[j]? = some e → e[k]? = some c → RepT w C.imm c (u (j * sz + k))) := by
    generalize a.eval x = v at hrt
    cases hrt with
    | nil => simp at h0
    | @sl _ ad cap sz u _ hsz _ himm hcell hel => exact ⟨ad, cap, sz, u, rfl, hsz, himm, hcell, hel⟩
  have hund : P.underlying t = some (.array n e) := by rw [(tt_some ht).1, hi]
  have hrun : (execOp a.eval o).run P w = .ok (.value (.pointer (some ad))) w := by
    have : ¬ es.length < n := by omega
    simp [execOp, ho, Instr.arrayAt, hv, run_underlying hund, this]
  have hfl : es.flatten.length = es.length * sz := by
    rw [List.length_flatten]
    have : es.map List.length = List.replicate es.length sz := by
      refine List.eq_replicate_iff.2 ⟨by simp, fun y hy => ?_⟩
      obtain ⟨z, hz, rfl⟩ := List.mem_map.1 hy
      exact hsz z hz
    rw [this, List.sum_replicate_nat]
  refine owp_value hrun ?_
  refine hK _ _ (hk _ _ ⟨C, h1, put_rep h5 (Step.refl _ _ _) h2 (by rw [h3]; exact hd) (.rd (u := u) himm (fun m hm => hcell m (by omega)) (fun m c hc => ?_)), by rw [put_size]; exact h3, by rw [put_def]; exact h4, h5, h6⟩)
  have hm : m < es.length * sz := by rw [← hfl]; exact (List.getElem?_eq_some_iff.1 hc).1
  obtain ⟨y, f1, f2, f3, f4⟩ := flat_ix hsz hm
  rw [f2] at hc
  have := hel _ _ y c f1 hc
  rw [← f4] at this
  exact this
end
end Go.Proofs.Ytdjbapglfdacmaa.R

/- R23: what stands for what, at any place of a run. -/
namespace Go.Proofs.Ytdjbapglfdacmaa.R
/-- Where a state may be told otherwise. -/
def atImp : List KI → Bool
  | .code _ :: _ => true
  | .ops _ _ :: _ => true
  | .blk _ :: k => atImp k
  | .scp :: k => atImp k
  | .lab _ :: k => atImp k
  | _ => false
section
variable {P : Program} {B : Base} {s t : St} {R : Post}
theorem K_impK {k : List KI} (h : Imp B s t) (ha : atImp k = true) (hk : Kp P B k R .normal t) : Kp P B k R .normal s := by
  induction k with
  | nil => simp [atImp] at ha
  | cons x k ih =>
    cases x with
    | code c => exact fun a w hr => hk a w (h _ _ hr)
    | ops all rest => exact fun a w hr => hk a w (h _ _ hr)
    | blk _ => exact ih ha hk
    | scp => exact ih ha hk
    | lab _ => exact ih ha hk
    | _ => simp [atImp] at ha
end
end Go.Proofs.Ytdjbapglfdacmaa.R

/- R24: a statement's arguments, and what it asks for at the call's end. -/
set_option maxRecDepth 100000
namespace Go.Proofs.Ytdjbapglfdacmaa.R
open Go.ChangeShapes Go.WideShapes Go.ChangeAt Go.RowKit
/-- What the statement asks for, behind a call that left all that was old as it was. -/
theorem post_below {H : Type} {enc : TypeId × Value → H} {Q : Program} {f : Func} {s : ChangeSpec} {apart fresh handsOn again : Bool} {W W' : World} {args : Array Value} {v : Value} {ds gs : List (DataW H)} {before pa pv : List MemPlace}
    (hW : DataW.Whole enc Q f.params.toList s.vars apart W args.toList ds gs before) (hb : Below W.heap.size W W')
    (hres : ∀ (b : Nat) (sp : Nat → Bool) (hd : Bool), DataW.TrodAll enc Q W' b sp hd f.resultTypes.toList (v.resultList f.resultTypes.size) (s.fn H (ds ++ gs)).results [])
    (hargs : ∀ sp : Nat → Bool, (∀ p ∈ before, sp p.block = true) → DataW.TrodAll enc Q W' 0 sp true f.params.toList args.toList (s.fn H (ds ++ gs)).args pa)
    (hvars : ∀ sp : Nat → Bool, (∀ p ∈ before, sp p.block = true) → DataW.TrodVars enc Q W' sp s.vars (s.fn H (ds ++ gs)).vars pv)
    (hps : before = pa ++ pv)
    (hok : ∀ (j : Nat) (t : TypeId) (r : Value), f.resultTypes[j]? = some t → (v.resultList f.resultTypes.size)[j]? = some r → Value.okWide Q W' .any 0 t r) : s.post enc Q f apart fresh handsOn again W args v W' := by
  have hlt : ∀ p ∈ before, p.block < W.heap.size := fun p hp => hW.lt p hp
  have hold : ∀ p ∈ before, (fun b => decide (b < W.heap.size)) p.block = true := fun p hp => by simpa using hlt p hp
  refine ⟨ds, gs, before, [], pa, pv, hW, hres _ _ _, hargs _ hold, hvars _ hold, World.keptBut_mono (fun p hp => ⟨hp, ?_⟩) (hb.frame (· ∈ before)), fun _ => ?_⟩
  · rw [hps, List.mem_append] at hp
    exact Or.inr hp
  · obtain ⟨_, _, _, _, _, hz, hn⟩ := hW
    refine ⟨hok, _, _, ([] ++ pa) ++ pv, ⟨[] ++ pa, pv, trodAll_append (hargs _ (fun _ _ => rfl)) (hres _ _ _), hvars _ (fun _ _ => rfl), rfl, ?_, ?_⟩, ?_⟩
    · intro b off hp
      have hp' : MemPlace.cell b off ∈ before := by rw [hps]; simpa using hp
      rw [hb.frozen (p := ⟨b, off, none⟩) (hlt _ hp')]
      exact hz b off hp'
    · intro ha
      have := hn ha
      rw [hps] at this
      simpa using this
    · intro p hp _
      rw [hps]
      simpa using hp

theorem map_of {α : Type} {g : α → List T} {Q : α → Prop} {es : List (List T)} (h : ∀ x ∈ es, ∃ a, x = g a ∧ Q a) : ∃ l : List α, es = l.map g ∧ ∀ a ∈ l, Q a := by
  induction es with
  | nil => exact ⟨[], rfl, fun a h => by cases h⟩
  | cons x es ih =>
    obtain ⟨a, rfl, ha⟩ := h x List.mem_cons_self
    obtain ⟨l, rfl, hl⟩ := ih fun y hy => h y (List.mem_cons_of_mem _ hy)
    exact ⟨a :: l, rfl, fun b hb => by
      rcases List.mem_cons.1 hb with rfl | hb
      · exact ha
      · exact hl b hb⟩

theorem int_wf {n : Int} (h : (Lit.int .i64 n).wf = true) : -9223372036854775808 ≤ n ∧ n < 9223372036854775808 := by
  simp [Lit.wf, IntKind.min, IntKind.max, IntKind.wrap, IntKind.bits, IntKind.signed] at h
  omega
section
variable {P : Program} {f : Nat} {t : TypeId} {ts : List T}
theorem has_int (hu : P.underlying t = some (.int .i64)) (h : HasT P f t ts) : ∃ n, ts = [.i n] ∧ -9223372036854775808 ≤ n ∧ n < 9223372036854775808 := by
  cases f with
  | zero => exact h.elim
  | succ f =>
    simp only [HasT, hu] at h
    obtain ⟨n, rfl, hw⟩ := h
    exact ⟨n, rfl, int_wf hw⟩
theorem has_slice {e : TypeId} {α : Type} {g : α → List T} {Q : α → Prop} (hu : P.underlying t = some (.slice e)) (he : ∀ f x, HasT P f e x → ∃ a, x = g a ∧ Q a) (h : HasT P f t ts) : ∃ l : List α, ts = [.sl (l.map g)] ∧ l.length ≤ maxLen ∧ ∀ a ∈ l, Q a := by
  cases f with
  | zero => exact h.elim
  | succ f =>
    simp only [HasT, hu] at h
    obtain ⟨es, rfl, hn, h⟩ := h
    obtain ⟨l, rfl, hl⟩ := map_of (g := g) (Q := Q) fun x hx => he f x (h x hx).2
    exact ⟨l, rfl, by simpa using hn, hl⟩
/-- The fields of a struct. -/
theorem has_struct {fs : Array Field} (hu : P.underlying t = some (.struct fs)) (h : HasT P f t ts) : ∃ f', HasF P (fun t ts => HasT P f' t ts) fs.toList ts := by
  cases f with
  | zero => exact h.elim
  | succ f =>
    simp only [HasT, hu] at h
    exact ⟨f, h⟩
variable {H : Type} {enc : TypeId × Value → H} {W : World} {base : Nat} {sp : Nat → Bool} {held : Bool} {v : Value} {d : DataW H} {ps : List MemPlace}
/-- What is there at the call's begin: nothing is owned, all that there is stays. -/
abbrev C0 (W : World) : Ctx := ⟨old W, fun _ => none, fun _ => undef, 0⟩
theorem sim0 (W : World) : Sim (C0 W) noObj W := ⟨fun _ _ => rfl, fun _ => True.intro, fun _ _ _ hi => absurd rfl hi, fun _ _ hi => absurd rfl hi, fun b hb => hb⟩
theorem arg_struct {fs : Array Field} (hu : P.underlying t = some (.struct fs)) (hp : plainT P 10 t = true) (h : DataW.Trod enc P W 0 sp held t v d ps) (hv : Value.okWide P W .any base t v) : ∃ f ts, HasT P f t ts ∧ RepA W (C0 W) (.agg (ts.map .t)) v := by
  unfold Value.okWide at hv
  rw [hu] at hv
  obtain ⟨cs, rfl, _⟩ := hv
  obtain ⟨fuel, ht⟩ := h
  obtain ⟨ts, g1, g2, g3⟩ := trod_rep fuel 10 t _ _ _ ht hp
  refine ⟨fuel, ts, g1, .agg (by simpa [Value.cells] using g2) fun k a u ha hu => ?_⟩
  rw [List.getElem?_map] at ha
  obtain ⟨b, hb, rfl⟩ := Option.map_eq_some_iff.1 ha
  exact .t (g3 k b u hb (by simpa [Value.cells] using hu))
theorem arg_int {k : IntKind} (hu : P.underlying t = some (.int k)) (hp : plainT P 10 t = true) (h : DataW.Trod enc P W 0 sp held t v d ps) (hv : Value.okWide P W .any base t v) : ∃ f ts, HasT P f t ts ∧ ∀ x, ts = [x] → RepA W (C0 W) (.t x) v := by
  obtain ⟨n, rfl⟩ := okWide_int hu hv
  obtain ⟨fuel, ht⟩ := h
  obtain ⟨ts, g1, g2, g3⟩ := trod_rep fuel 10 t _ _ _ ht hp
  exact ⟨fuel, ts, g1, fun x hx => by subst hx; exact .t (g3 0 _ _ rfl rfl)⟩
/-- A row of arguments. -/
theorem repL1 {a : AV} {u : Value} (h : RepA W (C0 W) a u) : RepL W (C0 W) [a] [u] := ⟨rfl, fun k x y hx hy => by
  cases k with
  | zero => simp at hx hy; subst hx; subst hy; exact h
  | succ k => simp at hx⟩
theorem repL2 {a b : AV} {u u2 : Value} (h : RepA W (C0 W) a u) (h2 : RepA W (C0 W) b u2) : RepL W (C0 W) [a, b] [u, u2] := (repL1 h).app (repL1 h2)
theorem repL3 {a b c : AV} {u u2 u3 : Value} (h : RepA W (C0 W) a u) (h2 : RepA W (C0 W) b u2) (h3 : RepA W (C0 W) c u3) : RepL W (C0 W) [a, b, c] [u, u2, u3] := (repL1 h).app (repL2 h2 h3)
theorem repL4 {a b c e : AV} {u u2 u3 u4 : Value} (h : RepA W (C0 W) a u) (h2 : RepA W (C0 W) b u2) (h3 : RepA W (C0 W) c u3) (h4 : RepA W (C0 W) e u4) : RepL W (C0 W) [a, b, c, e] [u, u2, u3, u4] := (repL1 h).app (repL3 h2 h3 h4)
end
end Go.Proofs.Ytdjbapglfdacmaa.R

/- R25: a range over a function: the statement; a call of yield; a round. -/
set_option maxRecDepth 10000
namespace Go.Proofs.Ytdjbapglfdacmaa.R
open Go.RowKit
section
variable {P : Program} {C : Ctx} {σ : Nat → AObj} {w : World}
/-- A block that is none's. -/
theorem sim_junk (hs : Sim C σ w) (o : Obj) : Sim C σ (w.alloc o) ∧ Step C σ w C σ (w.alloc o) := by
  have hold : ∀ b, b < w.heap.size → (w.alloc o).heap[b]? = w.heap[b]? := fun b hb => push_old w o hb
  have hsz : (w.alloc o).heap.size = w.heap.size + 1 := World.size_alloc w o
  have hk : Keeps w C.imm (w.alloc o) C.imm := ⟨fun _ h => h, fun b hb => hold b (hs.imm_lt b hb)⟩
  have hc : CtxLe C C := ⟨Nat.le_refl _, fun _ _ => rfl, fun _ _ => rfl⟩
  refine ⟨⟨hs.dead, fun i => ?_, hs.inj, hs.sep, fun b hb => by have := hs.imm_lt b hb; omega⟩, ⟨hc, rfl, rfl, rfl, by omega, fun _ h => h, fun b hb _ => hold b hb, fun _ h => .inl h, fun _ h => .inl h⟩⟩
  by_cases hi : σ i = .dead
  · rw [hi]; exact True.intro
  · exact (hs.obj i).step hk hc (live_lt hs hi) fun b ho => hold b (own_lt hs hi ho)
theorem putObj_set {l : Nat} {r : Loop} (hs : Sim C σ w) {q : Nat} {st st' : LoopState} {n : Nat} {m : Nat → AV} {ps : Array Tmp} {avs bd : Code} (hq : σ q = .loop st n m ps avs bd) (ho : C.own q = some l) (hl : w.heap[l]? = some (.loop r)) :
    Sim C (oput σ q (.loop st' n m ps avs bd)) (w.putObj l (.loop { r with state := st', pending := none })) ∧ Step C σ w C (oput σ q (.loop st' n m ps avs bd)) (w.putObj l (.loop { r with state := st', pending := none })) := by
  have hob := hs.obj q
  rw [hq] at hob
  obtain ⟨bl, r', e0, e1, e2, e3, e4, e5, e6, e7, e8⟩ := hob
  rw [ho] at e0
  cases e0
  rw [hl] at e1
  cases e1
  have hlt : l < w.heap.size := (Array.getElem?_eq_some_iff.1 hl).1
  have hd : σ q ≠ .dead := by rw [hq]; exact (fun h => by cases h)
  have hk : Keeps w C.imm (w.putObj l (.loop { r with state := st', pending := none })) C.imm := ⟨fun _ h => h, fun b hb => World.putObj_heap_other fun e => hs.sep q l hd ho (e ▸ hb)⟩
  exact sim_set (w' := w.putObj l (.loop { r with state := st', pending := none })) (obj := .loop st' n m ps avs bd) hs hd ho rfl rfl rfl World.putObj_size (fun b hb => World.putObj_heap_other hb)
    ⟨l, _, ho, World.putObj_heap_same hlt, rfl, rfl, e4, e5, e6, e7, fun t ht => (e8 t ht).keeps hk ⟨Nat.le_refl _, fun _ _ => rfl, fun _ _ => rfl⟩⟩
/-- An object ends, its block turned. -/
theorem putObj_kill {l : Nat} (o : Obj) (hs : Sim C σ w) {q : Nat} (hd : σ q ≠ .dead) (ho : C.own q = some l) : Sim C (oput σ q .dead) (w.putObj l o) ∧ Step C σ w C (oput σ q .dead) (w.putObj l o) :=
  sim_set (w' := w.putObj l o) (obj := .dead) hs hd ho rfl rfl rfl World.putObj_size (fun b hb => World.putObj_heap_other hb) True.intro

/-- What a call of yield leaves: the rounds' code, run. -/
def YieldQ (P : Program) (q : Nat) (args : List AV) (σ : Nat → AObj) (nx : Nat) (S : (Nat → AObj) → Nat → Prop) : Prop :=
  ∀ (C : Ctx) (w : World) (vs : List Value) (l : Nat), Sim C σ w → C.nx = nx → RepL w C args vs → C.own q = some l →
    ∃ f tmps avs bd, (Instr.yield l vs.toArray).run P w = .ok (.round l f tmps avs bd) w ∧ ∀ ro, RoundIn (FR ro) 0 P l f tmps avs bd w fun e w' => ∃ σ' nx' C', S σ' nx' ∧ e = .returned (.bool true) ∧ Sim C' σ' w' ∧ C'.nx = nx' ∧ Step C σ w C' σ' w'

def putL (m : Slots) : List (Nat × AV) → Slots
  | [] => m
  | p :: l => putL (put m (some p.1) p.2) l
theorem putL_rep {w : World} {C : Ctx} {n : Nat} : ∀ (ps : List Nat) (args : List AV) (vs : List Value) (m : Slots) (tmps : Array Value), RepL w C args vs → tmps.size = n → (∀ p ∈ ps, p < n) → (∀ t, RepA w C (m t) (tmps.getD t undef)) →
    ((ps.zip vs).foldl (fun ts (p : Nat × Value) => ts.setIfInBounds p.1 p.2) tmps).size = n ∧ ∀ t, RepA w C (putL m (ps.zip args) t) (((ps.zip vs).foldl (fun ts (p : Nat × Value) => ts.setIfInBounds p.1 p.2) tmps).getD t undef)
  | [], args, vs, m, tmps, _, hn, _, h => by exact ⟨by simpa using hn, by simpa [putL] using h⟩
  | p :: ps, [], vs, m, tmps, hl, hn, _, h => by
    have : vs = [] := List.eq_nil_of_length_eq_zero (by have := hl.1; simpa using this.symm)
    subst this
    exact ⟨by simpa using hn, by simpa [putL] using h⟩
  | p :: ps, a :: args, [], m, tmps, hl, hn, _, h => by have := hl.1; simp at this
  | p :: ps, a :: args, v :: vs, m, tmps, hl, hn, hp, h => by
    have hpn : p < tmps.size := by rw [hn]; exact hp p List.mem_cons_self
    have h0 := hl.2 0 a v rfl rfl
    refine putL_rep ps args vs (put m (some p) a) (tmps.setIfInBounds p v) ⟨by have := hl.1; simpa using this, fun k x u hx hu => hl.2 (k + 1) x u (by simpa using hx) (by simpa using hu)⟩ (by simpa using hn) (fun x hx => hp x (List.mem_cons_of_mem _ hx)) fun t => ?_
    by_cases e : t = p
    · subst e
      simp only [put, if_true, Array.getD_eq_getD_getElem?, Array.getElem?_setIfInBounds_self_of_lt hpn, Option.getD_some]
      exact h0
    · simp only [put, if_neg e, Array.getD_eq_getD_getElem?, Array.getElem?_setIfInBounds_ne (show p ≠ t from fun h => e h.symm)]
      have := h t
      rwa [Array.getD_eq_getD_getElem?] at this

/-- The slots as a round begins. -/
def roundM (n : Nat) (m : Slots) (ps : Array Tmp) (args : List AV) : Slots := putL (fun t => if t < n then m t else .any) (ps.toList.zip args)

/-- A round: the assignment to the loop's variables, the body; each goes to its end. -/
theorem yield_of {q : Nat} {args : List AV} {nx : Nat} {n : Nat} {m : Nat → AV} {ps : Array Tmp} {avs bd : Code} {S : (Nat → AObj) → Nat → Prop} (hq : σ q = .loop .ready n m ps avs bd) (hn : args.length = ps.size) (hp : ps.toList.all (· < n) = true)
    (h : ∀ B : Base, B.n = n → B.C.nx = nx → B.σ = σ → Kp P B [.code avs] (fun e s1 => e = .normal ∧ s1.σ q = .loop .ready n m ps avs bd ∧
      Kp P B [.code bd] (fun e s2 => e = .normal ∧ s2.σ q = .loop .busy n m ps avs bd ∧ S (oput s2.σ q (.loop .ready n m ps avs bd)) s2.nx) .normal ⟨s1.m, oput s1.σ q (.loop .busy n m ps avs bd), s1.nx⟩) .normal ⟨roundM n m ps args, σ, nx⟩) :
    YieldQ P q args σ nx S := by
  intro C w vs l hs hnx hl ho
  have hob := hs.obj q
  rw [hq] at hob
  obtain ⟨bl, r, e0, e1, e2, e3, e4, e5, e6, e7, e8⟩ := hob
  rw [ho] at e0
  cases e0
  have hsz : vs.toArray.size = r.params.size := by rw [e5, ← hn]; simpa using hl.1.symm
  refine ⟨r.fn, _, r.assign, r.body, run_yield e1 hsz, fun ro => ?_⟩
  have hfold : (r.params.zip vs.toArray).foldl (fun tmps (x : Tmp × Value) => tmps.setIfInBounds x.1 x.2) r.tmps = (ps.toList.zip vs).foldl (fun ts (p : Nat × Value) => ts.setIfInBounds p.1 p.2) r.tmps := by
    rw [e5, ← Array.foldl_toList]
    simp
  rw [hfold, e6, e7]
  have hrep := putL_rep (n := n) ps.toList args vs (fun t => if t < n then m t else .any) r.tmps hl e4 (fun p hpp => by simpa using List.all_eq_true.1 hp p hpp) (fun t => by
    by_cases ht : t < n
    · simp only [if_pos ht]; exact e8 t ht
    · simp only [if_neg ht]; exact .any)
  have hrel : Rel ⟨C, σ, w, n, some l⟩ ⟨roundM n m ps args, σ, nx⟩ { tmps := (ps.toList.zip vs).foldl (fun ts (p : Nat × Value) => ts.setIfInBounds p.1 p.2) r.tmps, defers := [] } w :=
    ⟨C, hnx, hrep.2, hrep.1, Marks.nil, hs, Step.refl _ _ _⟩
  have hrun := h ⟨C, σ, w, n, some l⟩ rfl hnx rfl _ _ hrel
  refine roundIn_of_wpIn (F := FR ro) trivial (cwp_mono (ro := some l) hrun fun e a1 w1 hp1 => ?_)
  obtain ⟨s1, ⟨he, hσ1, hk2⟩, C1, f1, f2, f3, f4, f5, f6⟩ := hp1
  subst he
  have hd1 : s1.σ q ≠ .dead := by rw [hσ1]; exact (fun h => by cases h)
  have hqlt : q < C.nx := live_lt hs (by rw [hq]; exact (fun h => by cases h))
  have hown1 : C1.own q = some l := (f6.le.own q hqlt).trans ho
  have hob1 := f5.obj q
  rw [hσ1] at hob1
  obtain ⟨bl1, r1, d0, d1, d2, d3, d4, d5, d6, d7, d8⟩ := hob1
  rw [hown1] at d0
  cases d0
  have hpend : { r1 with state := LoopState.busy } = { r1 with state := .busy, pending := none } := by cases r1; simp only at d3; subst d3; rfl
  refine ⟨_, run_beginRound d1 d2, ?_⟩
  rw [hpend]
  obtain ⟨p1, p2⟩ := putObj_set (st' := .busy) f5 hσ1 hown1 d1
  have hrel2 : Rel ⟨C, σ, w, n, some l⟩ ⟨s1.m, oput s1.σ q (.loop .busy n m ps avs bd), s1.nx⟩ a1 (w1.putObj l (.loop { r1 with state := .busy, pending := none })) :=
    ⟨C1, f1, fun t => (f2 t).step f5 p2, f3, f4.step p2, p1, f6.trans p2⟩
  refine cwp_mono (ro := some l) (hk2 _ _ hrel2) fun e a2 w2 hp2 => ?_
  obtain ⟨s2, ⟨he, hσ2, hS⟩, C2, g1, g2, g3, g4, g5, g6⟩ := hp2
  subst he
  have hown2 : C2.own q = some l := (g6.le.own q hqlt).trans ho
  have hob2 := g5.obj q
  rw [hσ2] at hob2
  obtain ⟨bl2, r2, c0, c1, c2, c3, _⟩ := hob2
  rw [hown2] at c0
  cases c0
  obtain ⟨u1, u2⟩ := putObj_set (st' := .ready) g5 hσ2 hown2 c1
  exact ⟨_, _, run_endRound none c1, _, _, C2, hS, rfl, u1, g1, g6.trans u2⟩

variable {B : Base} {k : List KI} {R : Post} {s : St}
theorem yield_exec {o : Oper} {c : Call} {fo : Operand} {a : Act} {l : Nat} {f : FuncId} {tmps : Array Value} {avs bd : Code} (ho : o.op = .call c) (hc : c.callee = .value fo) (hv : a.eval fo = .func (.yield l) #[] #[])
    (hy : (Instr.yield l (c.args.map a.eval).toList.toArray).run P w = .ok (.round l f tmps avs bd) w) : (execOp a.eval o).run P w = .ok (.round l f tmps avs bd) w := by
  rw [Array.toArray_toList] at hy
  simp only [execOp, ho, resolve, hc, Sem.run_bind, Deferred.ofValue, hv, Sem.run_pure, Result.andThen_ok, invoke, Array.empty_append]
  exact hy
theorem rep_yld {C : Ctx} {v : Value} {q : Nat} (h : RepA w C (.yld q) v) : ∃ l, v = .func (.yield l) #[] #[] ∧ C.own q = some l := by
  cases h with
  | yld h ho => exact ⟨_, rfl, ho⟩
/-- A call of yield. -/
theorem K_yield {all : Array Oper} {o : Oper} {rest : List Oper} {c : Call} {fo : Operand} {q : Nat} {args : List AV} (hg : o.guard = none) (ho : o.op = .call c) (hc : c.callee = .value fo) (hf : ev s.m fo = .yld q) (ha : c.args.toList.map (ev s.m) = args)
    (hd : dOk B.n o.dst = true) {S : (Nat → AObj) → Nat → Prop} (spec : YieldQ P q args s.σ s.nx S) (h : ∀ σ' nx', S σ' nx' → Kp P B (.ops all rest :: k) R .normal ⟨put s.m o.dst (.b true), σ', nx'⟩) : Kp P B (.ops all (o :: rest) :: k) R .normal s := by
  intro a w hr
  refine wpL_plain hg fun K hK => ?_
  obtain ⟨C, h1, h2, h3, h4, h5, h6⟩ := hr
  have hρ := ev_rep h2
  obtain ⟨hl, hlr⟩ := map_rep hρ c.args
  have hfo := hρ fo
  rw [hf] at hfo
  obtain ⟨l, hv, hown⟩ := rep_yld hfo
  rw [ha] at hl hlr
  obtain ⟨f, tmps, avs, bd, hy, hround⟩ := spec C w (c.args.map a.eval).toList l h5 h1 ⟨by simpa using hl, fun k x u hx hu => hlr k x u hx (by simpa using hu)⟩ hown
  refine owp_round (yield_exec ho hc hv hy) (RoundIn.mono (hround B.ro) ?_)
  rintro e w' ⟨σ', nx', C', hS, rfl, g1, g2, g3⟩
  exact ⟨_, rfl, hK _ _ (h σ' nx' hS _ _ ⟨C', g2, put_rep h5 g3 h2 (by rw [h3]; exact hd) (.t (.v rfl)), by rw [put_size]; exact h3, by rw [put_def]; exact h4.step g3, g1, h6.trans g3⟩)⟩
/-- A call of yield in a region that draws its order. -/
theorem does_yield {all : Array Oper} {i : Nat} {o : Oper} {m : Slots} {c : Call} {fo : Operand} {q : Nat} {args : List AV} {σ σ' : Nat → AObj} {nx nx' : Nat} {n : Nat} (ho' : all[i]? = some o) (hl : lets all m o = some true) (ho : o.op = .call c) (hc : c.callee = .value fo)
    (hf : ev m fo = .yld q) (ha : c.args.toList.map (ev m) = args) (spec : YieldQ P q args σ nx fun a b => a = σ' ∧ b = nx') : Does P n all i m σ nx (.b true) σ' nx' := by
  intro C a w hn hs hsz hr ro K Q hK
  have hops : ∀ x ∈ o.op.operands.toList, ev (mask (looksOf all i) m) x = ev m x := mask_ev ho'
  have hmem : ∀ x, x = fo ∨ x ∈ c.args.toList → x ∈ o.op.operands.toList := by
    intro x hx
    rw [ho]
    simp only [Op.operands, Call.operands, hc]
    rcases hx with rfl | hx
    · simp
    · simp; exact .inr (by simpa using hx)
  have e1 := hops fo (hmem _ (.inl rfl))
  have e2 : c.args.toList.map (ev (mask (looksOf all i) m)) = c.args.toList.map (ev m) := List.map_congr_left fun x hx => hops x (hmem x (.inr hx))
  rw [← e1] at hf
  rw [← e2] at ha
  have hρ := ev_rep hr
  obtain ⟨hl', hlr⟩ := map_rep hρ c.args
  have hfo := hρ fo
  rw [hf] at hfo
  obtain ⟨l, hv, hown⟩ := rep_yld hfo
  rw [ha] at hl' hlr
  obtain ⟨f, tmps, avs, bd, hy, hround⟩ := spec C w (c.args.map a.eval).toList l hs hn ⟨by simpa using hl', fun k x u hx hu => hlr k x u hx (by simpa using hu)⟩ hown
  have hd : dstOf all i = o.dst := by simp [dstOf, ho']
  simp only [wpO, wpOpIn, ho', lets_wanted ho' hr hl, if_true]
  refine owp_round (yield_exec ho hc hv hy) (RoundIn.mono (hround ro) ?_)
  rw [hd] at hK
  rintro e w' ⟨_, _, C', ⟨rfl, rfl⟩, rfl, g1, g2, g3⟩
  exact ⟨_, rfl, hK _ _ C' g1 g2 g3 (.t (.v rfl))⟩
theorem K_dYield {all : Array Oper} {lo : List Nat} {sw : SW} {i : Nat} {o : Oper} {rest : List (Nat × Oper)} {pend : List Rc} {c : Call} {fo : Operand} {q : Nat} {args : List AV} {σ' : Nat → AObj} {nx' : Nat} (hl : lets all s.m o = some true) (ho : o.op = .call c) (hc : c.callee = .value fo)
    (hf : ev s.m fo = .yld q) (ha : c.args.toList.map (ev s.m) = args) (spec : YieldQ P q args s.σ s.nx fun a b => a = σ' ∧ b = nx') (hi : i ∈ lo) (hp : ∀ q ∈ pend, anc all q.i i = true ∨ Does P B.n all q.i q.m σ' nx' q.v σ' nx')
    (h : Kp P B (.opsD all lo sw rest pend :: k) R .normal ⟨put s.m o.dst (.b true), σ', nx'⟩) : Kp P B (.opsD all lo sw ((i, o) :: rest) pend :: k) R .normal s :=
  Chain.at fun ho' => Chain.step (loud := some (σ', nx')) (does_yield ho' hl ho hc hf ha spec) (fun hc => by cases hc) (fun c hc => by cases hc; exact ⟨hi, hp⟩) (fun _ h => h) h

/-- The statement, in a function's own frame: the function that is ranged over is called, with yield. -/
theorem K_rangeFunc {g : Operand} {ps : Array Tmp} {avs bd : Code} (hro : B.ro = none) {f : FuncId} {args : List AV} (hf : callee (ev s.m g) [.yld s.nx] = some (f, args)) {S : AV → (Nat → AObj) → Nat → Prop}
    (spec : CallQ P f args (oput s.σ s.nx (.loop .ready B.n s.m ps avs bd)) (s.nx + 1) S) (hS : ∀ r σ' nx', S r σ' nx' → σ' s.nx = .loop .ready B.n s.m ps avs bd)
    (h : ∀ r σ' nx', S r σ' nx' → Kp P B k R .normal ⟨s.m, oput σ' s.nx .dead, nx'⟩) : Kp P B (.code (.rangeFunc g ps avs bd) :: k) R .normal s := by
  intro a w hr
  obtain ⟨C, h1, h2, h3, h4, h5, h6⟩ := hr
  refine wpIn_rangeFunc (F := FR B.ro) fun fn _ => ?_
  have henter := run_enterLoop_outer (P := P) (w := w) fn a.tmps ps avs bd
  rw [← hro] at henter
  obtain ⟨hg, spec⟩ := spec
  obtain ⟨lo, hlo⟩ : ∃ lo : Loop, lo = { state := .ready, pending := none, fn, tmps := a.tmps, params := ps, assign := avs, body := bd, defers := w.heap.size } := ⟨_, rfl⟩
  rw [← hlo] at henter
  obtain ⟨j1, j2⟩ := sim_junk h5 (.deferred (some []))
  obtain ⟨w1, hw1⟩ : ∃ w1, w1 = w.alloc (.deferred (some [])) := ⟨_, rfl⟩
  rw [← hw1] at j1 j2 henter
  have hw1s : w1.heap.size = w.heap.size + 1 := by rw [hw1]; exact World.size_alloc w _
  obtain ⟨C', hC⟩ : ∃ C' : Ctx, C' = ⟨C.imm, fun i => if i = C.nx then some w1.heap.size else C.own i, fun i => if i = C.nx then undef else C.hdr i, C.nx + 1⟩ := ⟨_, rfl⟩
  have hk0 : Keeps w1 C.imm (w1.alloc (.loop lo)) C'.imm := ⟨fun b h => by rw [hC]; exact h, fun b h => push_old w1 _ (j1.imm_lt b h)⟩
  have hc0 : CtxLe C C' := by
    subst hC
    exact ⟨by simp, fun i hi => if_neg (by omega), fun i hi => if_neg (by omega)⟩
  obtain ⟨n1, n2⟩ := sim_new j1 (.loop lo) (.loop .ready B.n s.m ps avs bd) undef C' hC ⟨w1.heap.size, lo, by rw [hC]; simp, push_new w1 _, by rw [hlo], by rw [hlo], by rw [hlo]; exact h3, by rw [hlo], by rw [hlo], by rw [hlo], fun t _ => by
    have := ((h2 t).step h5 j2).keeps hk0 hc0
    have e : lo.tmps = a.tmps := by rw [hlo]
    rw [e]; exact this⟩
  rw [h1] at n1 n2
  have hown : C'.own s.nx = some (w.heap.size + 1) := by rw [hC, ← h1, ← hw1s]; simp
  have hnx' : C'.nx = s.nx + 1 := by rw [hC, h1]
  have hst := j2.trans n2
  have hyr : RepA (w1.alloc (.loop lo)) C' (.yld s.nx) (.func (.yield (w.heap.size + 1)) #[] #[]) := .yld (by omega) hown
  have hgr := (ev_rep h2 g).step h5 hst
  obtain ⟨first, caps, hv, hrl⟩ := callee_rep hf hgr (vs := #[.func (.yield (w.heap.size + 1)) #[] #[]]) rfl (fun k x u hx hu => by
    cases k with
    | zero => simp at hx hu; subst hx; subst hu; exact hyr
    | succ k => simp at hx)
  have hcall := spec C' _ _ n1 hnx' hrl
  have hres : (resolve a.eval (rangeCall g (w.heap.size + 1)) 0).run P (w1.alloc (.loop lo)) = .ok { target := .fn (.func f) caps, args := first ++ #[.func (.yield (w.heap.size + 1)) #[] #[]] } (w1.alloc (.loop lo)) := by
    have e : Array.map a.eval #[Operand.const (Value.func (Fn.yield (w.heap.size + 1)) #[] #[])] = #[Value.func (Fn.yield (w.heap.size + 1)) #[] #[]] := by simp [Act.eval]
    simp only [resolve, rangeCall, Deferred.ofValue, hv, Sem.run_pure, e]
  have hinv : (invoke (.fn (.func f) caps) (first ++ #[.func (.yield (w.heap.size + 1)) #[] #[]])).run P (w1.alloc (.loop lo)) = .ok (.enter f (first ++ #[.func (.yield (w.heap.size + 1)) #[] #[]] ++ caps)) (w1.alloc (.loop lo)) := by
    unfold goodFn at hg
    cases hfn : P.funcs[f]? with
    | none => rw [hfn] at hg; cases hg
    | some fn =>
      rw [hfn] at hg
      simp only [Bool.and_eq_true, Bool.not_eq_true'] at hg
      simp only [invoke, callFunc, Sem.run_bind, run_program, hfn, Result.andThen_ok]
      have e1 : fn.body.isNone = false := by rw [← Option.not_isSome, hg.2]; rfl
      simp [hg.1, e1]
  refine ⟨w.heap.size + 1, _, _, _, _, f, _, _, henter, hres, fun _ _ => trivial, hinv, FR_depth, callsIn_FR.2 ?_⟩
  rw [Array.toArray_toList] at hcall
  refine hcall.mono ?_
  rintro e w3 ⟨r, σ', nx', C3, v, g0, rfl, g1, g2, g3, g4⟩
  have hσ := hS _ _ _ g0
  have hob := g1.obj s.nx
  rw [hσ] at hob
  obtain ⟨bl, r3, c0, c1, c2, c3, _⟩ := hob
  have hown3 : C3.own s.nx = some (w.heap.size + 1) := (g4.le.own s.nx (by omega)).trans hown
  rw [hown3] at c0
  cases c0
  have hd3 : σ' s.nx ≠ .dead := by rw [hσ]; exact (fun h => by cases h)
  obtain ⟨k1, k2⟩ := putObj_kill (.loop { r3 with state := .exhausted }) g1 hd3 hown3
  have hel : (Instr.endLoop (w.heap.size + 1)).run P w3 = .ok none (w3.putObj (w.heap.size + 1) (.loop { r3 with state := .exhausted })) := by
    rw [run_endLoop (P := P) c1 (by rw [c2]; decide), c3]
  refine ⟨none, _, hel, ?_⟩
  have hfull := (hst.trans g4).trans k2
  have hmut : ∀ {b}, Mut C s.σ b → b < w.heap.size := fun {b} ⟨i, hi, ho⟩ => own_lt h5 hi ho
  refine ⟨_, h r σ' nx' g0, C3, g2, fun t => (h2 t).step h5 hfull, h3, ?_, k1, h6.trans hfull⟩
  have hm1 : MarkOf B.w.heap.size C s.σ w1 { target := .collected w.heap.size, args := #[] } :=
    ⟨w.heap.size, rfl, h6.size, by rw [hw1]; exact push_new w _, fun hi => by have := h5.imm_lt _ hi; omega, fun hm => by have := hmut hm; omega⟩
  have hms : Marks B.w.heap.size C s.σ w1 ({ target := .collected w.heap.size, args := #[] } :: a.defers) := by
    have h4' := h4.step j2
    refine ⟨fun d hd => ?_, List.pairwise_cons.2 ⟨fun d hd => ?_, h4.nodup⟩⟩
    · rcases List.mem_cons.1 hd with e | e
      · rw [e]; exact hm1
      · exact h4'.all d e
    · obtain ⟨r', e1, _, e3, _⟩ := h4.all d hd
      have hlt : r' < w.heap.size := (Array.getElem?_eq_some_iff.1 e3).1
      rw [e1]
      intro e
      cases e
      omega
  exact hms.step ((n2.trans g4).trans k2)
/-- The same: the loop's object by a name. -/
theorem K_range {g : Operand} {ps : Array Tmp} {avs bd : Code} (hro : B.ro = none) {f : FuncId} {args : List AV} (hf : callee (ev s.m g) [.yld s.nx] = some (f, args))
    (h : ∀ L, L = .loop .ready B.n s.m ps avs bd → ∃ S : AV → (Nat → AObj) → Nat → Prop, CallQ P f args (oput s.σ s.nx L) (s.nx + 1) S ∧ ∀ r σ' nx', S r σ' nx' → σ' s.nx = L ∧ Kp P B k R .normal ⟨s.m, oput σ' s.nx .dead, nx'⟩) :
    Kp P B (.code (.rangeFunc g ps avs bd) :: k) R .normal s := by
  obtain ⟨S, h1, h2⟩ := h _ rfl
  exact K_rangeFunc hro hf h1 (fun r σ' nx' hs => (h2 r σ' nx' hs).1) fun r σ' nx' hs => (h2 r σ' nx' hs).2
end
@[go_sem] theorem run_range {P : Program} {n : Nat} {G : List KI → St → Prop} {f : Nat} {k : List KI} {s : St} {g : Operand} {ps : Array Tmp} {avs bd : Code} : run P n G (f + 1) (.code (.rangeFunc g ps avs bd) :: k) s = G (.code (.rangeFunc g ps avs bd) :: k) s := by rw [run]; all_goals simp
/-- A contract out of a body that holds a range over a function. -/
theorem pure_ofR {P : Program} {f : FuncId} {fn : Func} {c : Code} (hf : P.funcs[f]? = some fn) (hb : fn.body = some c) (hname : (fn.name == "runtime.NumGoroutine") = false) {args : List AV} {r : AV} (hn : args.length ≤ fn.ntmps) (ha : args.all (bnd 0) = true) (hr : bnd 0 r = true)
    (h : ∀ B : Base, B.n = fn.ntmps → B.C.nx = 0 → B.ro = none → Kp P B [.code c] (fun e s => (e = .ret ∨ e = .normal) ∧ ∃ rs, resL P s fn.results.toList = some rs ∧ frz s.σ (resV rs) = r) .normal ⟨slots0 args, noObj, 0⟩) : Pure P f args r := by
  refine ⟨fun a h => List.all_eq_true.1 ha a h, hr, spec_of_KR hf hb hname hn fun B h1 h2 _ h0 => ?_⟩
  refine fun a w hrel => cwp_mono (h B h1 h2 h0 a w hrel) fun e a' w' hp => ?_
  obtain ⟨s', ⟨he, rs, h3, h4⟩, h5⟩ := hp
  refine ⟨s', ?_, h5⟩
  rcases he with rfl | rfl
  · exact ⟨rs, h3, Ends.pure h4.symm hr⟩
  · exact ⟨rs, h3, Ends.pure h4.symm hr⟩
end Go.Proofs.Ytdjbapglfdacmaa.R

/- R26: maps whose keys are plain. -/
set_option maxRecDepth 10000
namespace Go.Proofs.Ytdjbapglfdacmaa.R
open Go.RowKit
/-- The model's value of a plain one. -/
def plainL : List AV → Option (List Value)
  | [] => some []
  | .t (.v x) :: r => if plainV x = true then (plainL r).map (x :: ·) else none
  | _ :: _ => none
def plainA : AV → Option Value
  | .t (.v x) => if plainV x = true then some x else none
  | .agg cs => (plainL cs).map fun l => .agg l.toArray
  | _ => none
theorem plainL_len : ∀ {cs : List AV} {l : List Value}, plainL cs = some l → l.length = cs.length
  | [], l, h => by simp [plainL] at h; subst h; rfl
  | .t (.v x) :: r, l, h => by
    simp only [plainL] at h
    split at h
    · obtain ⟨l', h1, rfl⟩ := Option.map_eq_some_iff.1 h
      simp [plainL_len h1]
    · cases h
  | .t (.sl _) :: _, _, h => by simp [plainL] at h
  | .agg _ :: _, _, h => by simp [plainL] at h
  | .tup _ :: _, _, h => by simp [plainL] at h
  | .fsl _ :: _, _, h => by simp [plainL] at h
  | .ref _ :: _, _, h => by simp [plainL] at h
  | .ptr _ _ :: _, _, h => by simp [plainL] at h
  | .rd _ :: _, _, h => by simp [plainL] at h
  | .el _ _ :: _, _, h => by simp [plainL] at h
  | .cut _ _ _ _ :: _, _, h => by simp [plainL] at h
  | .mapr _ :: _, _, h => by simp [plainL] at h
  | .yld _ :: _, _, h => by simp [plainL] at h
  | .fn _ _ _ :: _, _, h => by simp [plainL] at h
  | .any :: _, _, h => by simp [plainL] at h
theorem plainL_get : ∀ {cs : List AV} {l : List Value}, plainL cs = some l → ∀ (k : Nat) (a : AV), cs[k]? = some a → ∃ x, a = .t (.v x) ∧ plainV x = true ∧ l[k]? = some x
  | [], l, _, k, a, hk => by simp at hk
  | c :: r, l, h, k, a, hk => by
    cases c with
    | t y =>
      cases y with
      | v x =>
        simp only [plainL] at h
        split at h
        · rename_i hp
          obtain ⟨l', h1, rfl⟩ := Option.map_eq_some_iff.1 h
          cases k with
          | zero => simp at hk; subst hk; exact ⟨x, rfl, hp, rfl⟩
          | succ k => exact plainL_get h1 k a (by simpa using hk)
        · cases h
      | sl _ => simp [plainL] at h
    | _ => simp [plainL] at h
section
variable {P : Program} {w : World} {C : Ctx}
theorem rep_plain {a : AV} {u v : Value} (h : plainA a = some u) (hr : RepA w C a v) : v = u := by
  cases a with
  | t y =>
    cases y with
    | v x =>
      simp only [plainA] at h
      split at h
      · cases h; exact (rep_v hr).1
      · cases h
    | sl _ => simp [plainA] at h
  | agg cs =>
    simp only [plainA] at h
    obtain ⟨l, h1, rfl⟩ := Option.map_eq_some_iff.1 h
    obtain ⟨vs, rfl, hl, hrr⟩ := rep_agg hr
    have hlen := plainL_len h1
    congr 1
    apply Array.ext'
    refine List.ext_getElem? fun k => ?_
    by_cases hk : k < cs.length
    · obtain ⟨x, e1, _, e3⟩ := plainL_get h1 k _ (List.getElem?_eq_getElem hk)
      have hv : vs[k]? = some vs[k] := Array.getElem?_eq_getElem (by omega)
      have := hrr k _ _ (List.getElem?_eq_getElem hk) hv
      rw [e1] at this
      rw [e3, Array.getElem?_toList, hv, (rep_v this).1]
    · rw [List.getElem?_eq_none (by simp; omega), List.getElem?_eq_none (by simp; omega)]
  | _ => simp [plainA] at h
theorem plain_rep {a : AV} {u : Value} (h : plainA a = some u) : RepA w C a u := by
  cases a with
  | t y =>
    cases y with
    | v x =>
      simp only [plainA] at h
      split at h
      · rename_i hp; cases h; exact .t (.v hp)
      · cases h
    | sl _ => simp [plainA] at h
  | agg cs =>
    simp only [plainA] at h
    obtain ⟨l, h1, rfl⟩ := Option.map_eq_some_iff.1 h
    have hlen := plainL_len h1
    refine .agg (by simpa using hlen.symm) fun k a u ha hu => ?_
    obtain ⟨x, rfl, hp, e3⟩ := plainL_get h1 k a ha
    have : u = x := by
      have h9 : (l.toArray)[k]? = l[k]? := by simp
      rw [h9, e3] at hu
      exact (Option.some.inj hu).symm
    subst this
    exact .t (.v hp)
  | _ => simp [plainA] at h

/-- A key that may be looked for. -/
def ckA (P : Program) : Nat → TypeId → AV → Bool
  | 0, _, _ => false
  | d + 1, t, a => match TT P t with
    | some ⟨.int _, _, _, _⟩ => match a with | .t (.v (.int _ _)) => true | _ => false
    | some ⟨.bool, _, _, _⟩ => match a with | .t (.v (.bool _)) => true | _ => false
    | some ⟨.struct fs, _, _, _⟩ => match a with
      | .agg cs => fs.toList.all fun f => match TT P f.type with
        | some i => match partA i cs f.offset with
          | some x => ckA P d f.type x
          | none => false
        | none => false
      | _ => false
    | _ => false
theorem ckA_run (em : Bool) : ∀ (d : Nat) (t : TypeId) (a : AV) (v : Value), ckA P d t a = true → RepA w C a v → (Instr.checkKey em d t v).run P w = .ok () w
  | 0, _, _, _, h, _ => by simp [ckA] at h
  | d + 1, t, a, v, h, hr => by
    simp only [ckA] at h
    cases ht : TT P t with
    | none => rw [ht] at h; cases h
    | some i =>
      rw [ht] at h
      have hu := (tt_some ht).1
      obtain ⟨desc, sz, by_, z⟩ := i
      cases desc <;> simp only [Bool.false_eq_true] at h
      case bool =>
        split at h
        · obtain ⟨rfl, _⟩ := rep_v hr
          simp [Instr.checkKey, Sem.run_bind, run_underlying hu]
        · cases h
      case int k =>
        split at h
        · obtain ⟨rfl, _⟩ := rep_v hr
          simp [Instr.checkKey, Sem.run_bind, run_underlying hu]
        · cases h
      case struct fs =>
        split at h
        · rename_i cs
          obtain ⟨vs, rfl, hl, hrr⟩ := rep_agg hr
          rw [Instr.checkKey]
          simp only [Sem.run_bind, run_underlying hu, Result.andThen_ok]
          rw [← Array.forIn_toList]
          have each := List.all_eq_true.1 h
          clear h
          generalize fs.toList = L at each
          induction L with
          | nil => simp
          | cons f L ih =>
            have hf := each f List.mem_cons_self
            split at hf
            · rename_i i hi
              split at hf
              · rename_i x hx
                obtain ⟨u, p1, p2⟩ := part_rep (P := P) hi hl hrr hx
                have p3 := ckA_run em d f.type x u hf p2
                by_cases hn : f.name = "_"
                · simp only [List.forIn_cons, Sem.run_bind, hn, ne_eq, not_true_eq_false, if_false, Result.andThen_ok, Sem.run_pure]
                  exact ih fun y hy => each y (List.mem_cons_of_mem _ hy)
                · simp only [List.forIn_cons, Sem.run_bind, hn, ne_eq, not_false_eq_true, if_true, Result.andThen_ok, p1, p3, Sem.run_pure]
                  exact ih fun y hy => each y (List.mem_cons_of_mem _ hy)
              · cases hf
            · cases hf
        · cases h

open Classical in
/-- Where the key is, and what is there. -/
noncomputable def findM (u : Value) : List (Value × AV) → Option (Nat × AV)
  | [] => none
  | e :: r => if e.1 = u then some (0, e.2) else (findM u r).map fun p => (p.1 + 1, p.2)
open Classical in
/-- Keys that can be told apart. -/
def TellM (P : Program) (kt : TypeId) (ka : AV) (u : Value) (es : List (Value × AV)) : Prop := ∀ e ∈ es, ∃ kb, plainA kb = some e.1 ∧ eqA P 10000 kt ka kb = some (decide (e.1 = u))
open Classical in
theorem ask_run {kt : TypeId} {ka : AV} {u : Value} (hu : plainA ka = some u) : ∀ (es : List (Value × AV)) (ms : List MapEntry) (i : Nat), TellM P kt ka u es → es.length = ms.length →
    (∀ (k : Nat) (a : Value × AV) (m : MapEntry), es[k]? = some a → ms[k]? = some m → m.key = a.1 ∧ RepA w C a.2 m.val) →
    (findM u es = none → (Instr.findAsking kt u ms i).run P w = .ok none w) ∧ (∀ j a, findM u es = some (j, a) → ∃ m, ms[j]? = some m ∧ m.key = u ∧ RepA w C a m.val ∧ (Instr.findAsking kt u ms i).run P w = .ok (some (i + j, m.val)) w)
  | [], [], i, _, _, _ => ⟨fun _ => by simp [Instr.findAsking], fun j a h => by simp [findM] at h⟩
  | [], _ :: _, _, _, h, _ => by simp at h
  | _ :: _, [], _, _, h, _ => by simp at h
  | e :: es, m :: ms, i, ht, hl, hr => by
    obtain ⟨hk, hv⟩ := hr 0 e m rfl rfl
    obtain ⟨kb, b1, b2⟩ := ht e List.mem_cons_self
    have heq := eqA_run (w := w) (C := C) 10000 kt ka kb _ u e.1 b2 (plain_rep hu) (plain_rep b1)
    have heq : (Op.equal kt u m.key).run P w = .ok (decide (e.1 = u)) w := by rw [hk]; exact heq
    obtain ⟨ih1, ih2⟩ := ask_run hu es ms (i + 1) (fun x hx => ht x (List.mem_cons_of_mem _ hx)) (by simpa using hl) (fun k a m' h1 h2 => hr (k + 1) a m' (by simpa using h1) (by simpa using h2))
    rw [findM, Instr.findAsking]
    simp only [Sem.run_bind, heq, Result.andThen_ok]
    by_cases hc : e.1 = u
    · simp only [hc, decide_true, if_true]
      refine ⟨fun h => by simp at h, fun j a h => ?_⟩
      simp only [Option.some.injEq, Prod.mk.injEq] at h
      obtain ⟨rfl, rfl⟩ := h
      exact ⟨m, rfl, by rw [hk, hc], hv, by simp⟩
    · simp only [hc, decide_false, if_false, Bool.false_eq_true]
      refine ⟨fun h => ih1 (by simpa using h), fun j a h => ?_⟩
      obtain ⟨⟨j', a'⟩, h1, h2⟩ := Option.map_eq_some_iff.1 h
      simp only [Prod.mk.injEq] at h2
      obtain ⟨rfl, rfl⟩ := h2
      obtain ⟨m', g1, g2, g3, g4⟩ := ih2 j' a' h1
      exact ⟨m', by simpa using g1, g2, g3, by rw [g4, show i + (j' + 1) = i + 1 + j' by omega]⟩
/-- A kind whose keys are looked for. -/
def keyKind (P : Program) (kt : TypeId) : Bool := match P.underlying kt with | some (.struct _) | some (.int _) => true | _ => false
theorem eqA_int {d : Nat} {kt : TypeId} {q : IntKind} {ka kb : AV} {r : Bool} (hu : P.underlying kt = some (.int q)) (h : eqA P (d + 1) kt ka kb = some r) : ∃ k a b, ka = .t (.v (.int k a)) ∧ kb = .t (.v (.int k b)) ∧ r = decide (a = b) := by
  simp only [eqA] at h
  cases ht : TT P kt with
  | none => rw [ht] at h; cases h
  | some i =>
    obtain ⟨desc, sz, by_, z⟩ := i
    have := (tt_some ht).1
    rw [hu] at this
    cases this
    rw [ht] at h
    simp only at h
    split at h
    · split at h
      · rename_i hk
        subst hk
        cases h
        exact ⟨_, _, _, rfl, rfl, rfl⟩
      · cases h
    · cases h
open Classical in
theorem find_run {kt : TypeId} {ka : AV} {u : Value} (hk : keyKind P kt = true) (hc : ckA P 10000 kt ka = true) (hu : plainA ka = some u) (es : List (Value × AV)) (ms : Array MapEntry) (ht : TellM P kt ka u es) (hl : es.length = ms.size)
    (hr : ∀ (k : Nat) (a : Value × AV) (m : MapEntry), es[k]? = some a → ms[k]? = some m → m.key = a.1 ∧ RepA w C a.2 m.val) :
    (findM u es = none → (Instr.findKey kt u ms.toList).run P w = .ok none w) ∧ (∀ j a, findM u es = some (j, a) → ∃ m, ms[j]? = some m ∧ m.key = u ∧ RepA w C a m.val ∧ (Instr.findKey kt u ms.toList).run P w = .ok (some (j, m.val)) w) := by
  have key := ask_run (w := w) (C := C) hu es ms.toList 0 ht (by simpa using hl) (fun k a m h1 h2 => hr k a m h1 (by simpa using h2))
  simp only [Array.getElem?_toList, Nat.zero_add] at key
  unfold keyKind at hk
  cases hund : P.underlying kt with
  | none => rw [hund] at hk; cases hk
  | some kd =>
    rw [hund] at hk
    cases kd <;> simp only [Bool.false_eq_true] at hk
    case struct fs =>
      rw [run_findKey_eq w (by rw [hund])]
      exact key
    case int q =>
      have now : ∀ (es : List (Value × AV)) (ms : List MapEntry) (i : Nat), TellM P kt ka u es → es.length = ms.length → (∀ (k : Nat) (a : Value × AV) (m : MapEntry), es[k]? = some a → ms[k]? = some m → m.key = a.1 ∧ RepA w C a.2 m.val) →
          (findM u es = none → Instr.findNow (.int q) u ms i = some none) ∧ (∀ j a, findM u es = some (j, a) → ∃ m, ms[j]? = some m ∧ m.key = u ∧ RepA w C a m.val ∧ Instr.findNow (.int q) u ms i = some (some (i + j, m.val))) := by
        intro es
        induction es with
        | nil =>
          intro ms i _ hl _
          have : ms = [] := List.eq_nil_of_length_eq_zero (by simpa using hl.symm)
          subst this
          exact ⟨fun _ => rfl, fun j a h => by simp [findM] at h⟩
        | cons e es ih =>
          intro ms i ht hl hr
          cases ms with
          | nil => simp at hl
          | cons m ms =>
            obtain ⟨hk', hv⟩ := hr 0 e m rfl rfl
            obtain ⟨kb, b1, b2⟩ := ht e List.mem_cons_self
            obtain ⟨ih1, ih2⟩ := ih ms (i + 1) (fun x hx => ht x (List.mem_cons_of_mem _ hx)) (by simpa using hl) (fun k a m' h1 h2 => hr (k + 1) a m' (by simpa using h1) (by simpa using h2))
            have hs : Instr.sameNow (.int q) u m.key = some (decide (e.1 = u)) := by
              rw [hk']
              obtain ⟨k, a, b, rfl, rfl, e9⟩ := eqA_int (d := 9999) hund b2
              simp only [plainA, plainV, if_true, Option.some.injEq] at hu b1
              subst hu
              rw [← b1] at e9 ⊢
              rw [e9]
              simp only [Instr.sameNow, if_true, Option.some.injEq]
              by_cases e8 : a = b <;> simp [e8]
            rw [findM, Instr.findNow, hs]
            by_cases hc : e.1 = u
            · simp only [hc, decide_true, if_true]
              refine ⟨fun h => by simp at h, fun j a h => ?_⟩
              simp only [Option.some.injEq, Prod.mk.injEq] at h
              obtain ⟨rfl, rfl⟩ := h
              exact ⟨m, rfl, by rw [hk', hc], hv, by simp⟩
            · simp only [hc, decide_false, if_false]
              refine ⟨fun h => ih1 (by simpa using h), fun j a h => ?_⟩
              obtain ⟨⟨j', a'⟩, h1, h2⟩ := Option.map_eq_some_iff.1 h
              simp only [Prod.mk.injEq] at h2
              obtain ⟨rfl, rfl⟩ := h2
              obtain ⟨m', g1, g2, g3, g4⟩ := ih2 j' a' h1
              exact ⟨m', by simpa using g1, g2, g3, by rw [g4, show i + (j' + 1) = i + 1 + j' by omega]⟩
      obtain ⟨n1, n2⟩ := now es ms.toList 0 ht (by simpa using hl) (fun k a m h1 h2 => hr k a m h1 (by simpa using h2))
      refine ⟨fun h => MapKept.run_findKey hund (n1 h), fun j a h => ?_⟩
      obtain ⟨m, g1, g2, g3, g4⟩ := n2 j a h
      exact ⟨m, by simpa using g1, g2, g3, by simpa using MapKept.run_findKey hund g4⟩
end
end Go.Proofs.Ytdjbapglfdacmaa.R

/- R27: maps: made, looked into, written. -/
set_option maxRecDepth 10000
namespace Go.Proofs.Ytdjbapglfdacmaa.R
open Go.RowKit
section
variable {P : Program} {B : Base} {k : List KI} {R : Post} {s : St} {all : Array Oper} {o : Oper} {rest : List Oper}
theorem obj_map {C : Ctx} {σ : Nat → AObj} {w : World} {m : Nat} {es : List (Value × AV)} {v : Value} (hs : Sim C σ w) (hσ : σ m = .map es) (hr : RepA w C (.mapr m) v) : ∃ bl ms clock, v = .map (some bl) ∧ C.own m = some bl ∧ w.heap[bl]? = some (.map ms clock) ∧ es.length = ms.size ∧
    ∀ (k : Nat) (a : Value × AV) (u : MapEntry), es[k]? = some a → ms[k]? = some u → u.key = a.1 ∧ RepA w C a.2 u.val := by
  have hob := hs.obj m
  rw [hσ] at hob
  obtain ⟨bl, ms, clock, e0, e1, e2, e3⟩ := hob
  cases hr with
  | mapr h ho =>
    rw [e0] at ho
    cases ho
    exact ⟨bl, ms, clock, rfl, e0, e1, e2, e3⟩
/-- What a look into a map tells. -/
noncomputable def lookA (z : AV) (u : Value) (es : List (Value × AV)) (ok : Bool) : AV :=
  match findM u es with
  | some (_, a) => if ok = true then .tup [a, .b true] else a
  | none => if ok = true then .tup [z, .b false] else z
theorem look_run {C : Ctx} {σ : Nat → AObj} {w : World} {ρ : Operand → AV} {ρv : Operand → Value} {t kt et : TypeId} {x ix : Operand} {ok : Bool} {it ie : TI} {m : Nat} {es : List (Value × AV)} {u : Value} (hs : Sim C σ w) (hρ : ∀ x, RepA w C (ρ x) (ρv x)) (ho : o.op = .lookup t x ix ok)
    (ht : TT P t = some it) (hd : it.desc = .map kt et) (he : TT P et = some ie) (hk : keyKind P kt = true) (hx : ρ x = .mapr m) (hσ : σ m = .map es) (hu : plainA (ρ ix) = some u) (hc : ckA P 10000 kt (ρ ix) = true) (htell : TellM P kt (ρ ix) u es) :
    ∃ v, (execOp ρv o).run P w = .ok (.value v) w ∧ RepA w C (lookA (ofConst ie.zero) u es ok) v := by
  have hmx := hρ x
  rw [hx] at hmx
  obtain ⟨bl, ms, clock, e0, e1, e2, e3, e4⟩ := obj_map hs hσ hmx
  have hix := rep_plain hu (hρ ix)
  have hund : P.underlying t = some (.map kt et) := by rw [(tt_some ht).1, hd]
  have hck : (Instr.checkKey ms.isEmpty 10000 kt u).run P w = .ok () w := by
    have := ckA_run (w := w) (C := C) ms.isEmpty 10000 kt (ρ ix) (ρv ix) hc (hρ ix)
    rwa [hix] at this
  obtain ⟨f1, f2⟩ := find_run (w := w) (C := C) hk hc hu es ms htell e3 e4
  cases hf : findM u es with
  | none =>
    have := f1 hf
    refine ⟨if ok = true then .tuple #[ie.zero, .bool false] else ie.zero, ?_, ?_⟩
    · have hrun : (execOp ρv o).run P w = .ok (.value (if ok = true then .tuple #[ie.zero, .bool false] else ie.zero)) w := by
        simp only [execOp, ho, Instr.lookup, Sem.run_bind, run_underlying hund, Result.andThen_ok, e0, hix, MapKept.run_getObj_map e2, Sem.run_pure, hck, this, run_zero he]
      exact hrun
    · rw [lookA, hf]
      cases ok
      · exact const_rep _
      · exact .tup rfl fun k a v ha hv => by
          match k with
          | 0 => simp at ha hv; subst ha; subst hv; exact const_rep _
          | 1 => simp at ha hv; subst ha; subst hv; exact .t (.v rfl)
          | k + 2 => simp at ha
  | some p =>
    obtain ⟨j, a⟩ := p
    obtain ⟨me, g1, g2, g3, g4⟩ := f2 j a hf
    refine ⟨if ok = true then .tuple #[me.val, .bool true] else me.val, ?_, ?_⟩
    · have hrun : (execOp ρv o).run P w = .ok (.value (if ok = true then .tuple #[me.val, .bool true] else me.val)) w := by
        simp only [execOp, ho, Instr.lookup, Sem.run_bind, run_underlying hund, Result.andThen_ok, e0, hix, MapKept.run_getObj_map e2, Sem.run_pure, hck, g4]
      exact hrun
    · rw [lookA, hf]
      cases ok
      · exact g3
      · exact .tup rfl fun k b v hb hv => by
          match k with
          | 0 => simp at hb hv; subst hb; subst hv; exact g3
          | 1 => simp at hb hv; subst hb; subst hv; exact .t (.v rfl)
          | k + 2 => simp at hb
theorem K_lookup {t kt et : TypeId} {x ix : Operand} {ok : Bool} {it ie : TI} {m : Nat} {es : List (Value × AV)} {u : Value} {r : AV} (hg : o.guard = none) (ho : o.op = .lookup t x ix ok) (hd : dOk B.n o.dst = true)
    (ht : TT P t = some it) (hdesc : it.desc = .map kt et) (he : TT P et = some ie) (hk : keyKind P kt = true) (hx : ev s.m x = .mapr m) (hσ : s.σ m = .map es) (hu : plainA (ev s.m ix) = some u) (hc : ckA P 10000 kt (ev s.m ix) = true) (htell : TellM P kt (ev s.m ix) u es) (hr : lookA (ofConst ie.zero) u es ok = r)
    (h : Kp P B (.ops all rest :: k) R .normal ⟨put s.m o.dst r, s.σ, s.nx⟩) : Kp P B (.ops all (o :: rest) :: k) R .normal s := by
  intro a w hrel
  refine wpL_plain hg fun K hK => ?_
  obtain ⟨C, h1, h2, h3, h4, h5, h6⟩ := hrel
  obtain ⟨v, g1, g2⟩ := look_run h5 (ev_rep h2) ho ht hdesc he hk hx hσ hu hc htell
  rw [hr] at g2
  exact owp_value g1 (hK _ _ (h _ _ ⟨C, h1, put_rep h5 (Step.refl _ _ _) h2 (by rw [h3]; exact hd) g2, by rw [put_size]; exact h3, by rw [put_def]; exact h4, h5, h6⟩))
theorem K_dLookup {lo : List Nat} {sw : SW} {i : Nat} {rest : List (Nat × Oper)} {pend : List Rc} {t kt et : TypeId} {x ix : Operand} {ok : Bool} {it ie : TI} {m : Nat} {es : List (Value × AV)} {u : Value} {r : AV} (hl : lets all s.m o = some true) (ho : o.op = .lookup t x ix ok)
    (ht : TT P t = some it) (hdesc : it.desc = .map kt et) (he : TT P et = some ie) (hk : keyKind P kt = true) (hx : ev s.m x = .mapr m) (hσ : s.σ m = .map es) (hu : plainA (ev s.m ix) = some u) (hc : ckA P 10000 kt (ev s.m ix) = true) (htell : TellM P kt (ev s.m ix) u es) (hr : lookA (ofConst ie.zero) u es ok = r)
    (htied : tied all lo i = true) (h : Kp P B (.opsD all lo sw rest pend :: k) R .normal ⟨put s.m o.dst r, s.σ, s.nx⟩) : Kp P B (.opsD all lo sw ((i, o) :: rest) pend :: k) R .normal s :=
  Chain.at fun ho' => Chain.step (loud := none) (v := r) (by
    intro C a w hn hs hsz hrep ro K Q hK
    have hops := mask_ev (m := s.m) ho'
    have hd : dstOf all i = o.dst := by simp [dstOf, ho']
    simp only [wpO, wpOpIn, ho', lets_wanted ho' hrep hl, if_true]
    have ex := hops x (by simp [ho, Op.operands])
    have eix := hops ix (by simp [ho, Op.operands])
    obtain ⟨v, g1, g2⟩ := look_run hs (ev_rep hrep) ho ht hdesc he hk (by rw [ex]; exact hx) hσ (by rw [eix]; exact hu) (by rw [eix]; exact hc) (by rw [eix]; exact htell)
    rw [hd] at hK
    rw [hr] at g2
    exact owp_value g1 (hK _ _ C hs hn (Step.refl _ _ _) g2)) (fun _ => .inr (by
    simp only [tied, List.all_eq_true, Bool.and_eq_true, Bool.or_eq_true, Bool.not_eq_true', decide_eq_false_iff_not] at htied
    exact ⟨fun k hk h => ((htied k hk).1).resolve_left (fun e => e h), .inl fun k hk h => ((htied k hk).2).resolve_left (fun e => e h)⟩)) (fun c hc => by cases hc) (fun _ h => h) h

/-- What a write leaves. -/
noncomputable def setM (u : Value) (a : AV) (es : List (Value × AV)) : List (Value × AV) :=
  match findM u es with
  | some (j, _) => es.set j (u, a)
  | none => es ++ [(u, a)]
theorem run_stays {w : World} {v : Value} (h : Instr.sameBits 10000 v v = true) : (Instr.keyThatStays v v).run P w = .ok v w := by
  simp only [Instr.keyThatStays, h, if_true, Sem.run_pure]
theorem K_mapSet {t kt et : TypeId} {x ix y : Operand} {it : TI} {m : Nat} {es : List (Value × AV)} {u : Value} (hg : o.guard = none) (ho : o.op = .mapUpdate t x ix y) (hd : dOk B.n o.dst = true)
    (ht : TT P t = some it) (hdesc : it.desc = .map kt et) (hk : keyKind P kt = true) (hx : ev s.m x = .mapr m) (hσ : s.σ m = .map es) (hu : plainA (ev s.m ix) = some u) (hc : ckA P 10000 kt (ev s.m ix) = true) (htell : TellM P kt (ev s.m ix) u es) (hsame : findM u es = none ∨ Instr.sameBits 10000 u u = true)
    (h : Kp P B (.ops all rest :: k) R .normal ⟨put s.m o.dst (.tup []), oput s.σ m (.map (setM u (ev s.m y) es)), s.nx⟩) : Kp P B (.ops all (o :: rest) :: k) R .normal s := by
  intro a w hrel
  refine wpL_plain hg fun K hK => ?_
  obtain ⟨C, h1, h2, h3, h4, h5, h6⟩ := hrel
  have hρ := ev_rep h2
  have hmx := hρ x
  rw [hx] at hmx
  obtain ⟨bl, ms, clock, e0, ow, e2, e3, e4⟩ := obj_map h5 hσ hmx
  have hix := rep_plain hu (hρ ix)
  have hy := hρ y
  have hund : P.underlying t = some (.map kt et) := by rw [(tt_some ht).1, hdesc]
  have hck : (Instr.checkKey false 10000 kt u).run P w = .ok () w := by
    have := ckA_run (w := w) (C := C) false 10000 kt (ev s.m ix) (a.eval ix) hc (hρ ix)
    rwa [hix] at this
  obtain ⟨f1, f2⟩ := find_run (w := w) (C := C) hk hc hu es ms htell e3 e4
  have hlt : bl < w.heap.size := (Array.getElem?_eq_some_iff.1 e2).1
  have hdead : s.σ m ≠ .dead := by rw [hσ]; exact (fun h => by cases h)
  have fin : ∀ (ms' : Array MapEntry) (clock' : Nat), (execOp a.eval o).run P w = .ok .skip { w with heap := w.heap.setIfInBounds bl (.map ms' clock') } →
      ((setM u (ev s.m y) es).length = ms'.size ∧ ∀ (k : Nat) (b : Value × AV) (v : MapEntry), (setM u (ev s.m y) es)[k]? = some b → ms'[k]? = some v → v.key = b.1 ∧ RepA w C b.2 v.val) → owp B.ro P o a w K (post B (Kp P B k R)) := by
    intro ms' clock' hrun ⟨l1, l2⟩
    have hne : ∀ b, b ≠ bl → (w.heap.setIfInBounds bl (.map ms' clock'))[b]? = w.heap[b]? := fun b hb => by simp [Array.getElem?_setIfInBounds_ne (Ne.symm hb)]
    have hk0 : Keeps w C.imm { w with heap := w.heap.setIfInBounds bl (.map ms' clock') } C.imm := ⟨fun _ h => h, fun b hb => hne b fun e => h5.sep m bl hdead ow (e ▸ hb)⟩
    obtain ⟨g1, g2⟩ := sim_set (w' := { w with heap := w.heap.setIfInBounds bl (.map ms' clock') }) (obj := .map (setM u (ev s.m y) es)) h5 hdead ow rfl rfl rfl (by simp) hne ⟨bl, ms', clock', ow, by simp [hlt], l1, fun k b v hb hv => by
      obtain ⟨p1, p2⟩ := l2 k b v hb hv
      exact ⟨p1, p2.keeps hk0 ⟨Nat.le_refl _, fun _ _ => rfl, fun _ _ => rfl⟩⟩⟩
    exact owp_skip hrun (hK _ _ (h _ _ ⟨C, h1, put_rep h5 g2 h2 (by rw [h3]; exact hd) (.tup rfl (fun k a u h => by simp at h)), by rw [put_size]; exact h3, by rw [put_def]; exact h4.step g2, g1, h6.trans g2⟩))
  cases hf : findM u es with
  | none =>
    refine fin (ms.push { key := u, val := a.eval y, born := clock }) (clock + 1) ?_ ?_
    · simp only [execOp, ho, Instr.mapUpdate, Sem.run_bind, run_underlying hund, Result.andThen_ok, e0, hix, MapKept.run_getObj_map e2, Sem.run_pure, hck, f1 hf, MapKept.run_setObj_map _ e2]
    · rw [setM, hf]
      refine ⟨by simp [e3], fun k b v hb hv => ?_⟩
      simp only at hb
      by_cases hk' : k < es.length
      · rw [List.getElem?_append_left hk'] at hb
        rw [Array.getElem?_push_lt (by omega)] at hv
        exact e4 k b v hb (by rw [Array.getElem?_eq_getElem (by omega)]; exact hv)
      · rw [List.getElem?_append_right (by omega)] at hb
        have hk0 : k - es.length = 0 := by
          have := (List.getElem?_eq_some_iff.1 hb).1
          simp at this; omega
        have hke : k = ms.size := by omega
        subst hke
        rw [hk0] at hb
        simp at hb hv
        subst hb; subst hv
        exact ⟨rfl, hy⟩
  | some p =>
    obtain ⟨j, b0⟩ := p
    obtain ⟨me, g1, g2, g3, g4⟩ := f2 j b0 hf
    have hst := run_stays (P := P) (w := w) (hsame.resolve_left (by rw [hf]; simp))
    have hjlt : j < ms.size := (Array.getElem?_eq_some_iff.1 g1).1
    refine fin (ms.modify j fun e => { e with key := u, val := a.eval y }) clock ?_ ?_
    · simp only [execOp, ho, Instr.mapUpdate, Sem.run_bind, run_underlying hund, Result.andThen_ok, e0, hix, MapKept.run_getObj_map e2, Sem.run_pure, hck, g4, g1, Option.map_some, Option.getD_some, g2, hst, MapKept.run_setObj_map _ e2]
    · rw [setM, hf]
      refine ⟨by simp [e3], fun k b v hb hv => ?_⟩
      simp only at hb
      by_cases hkj : k = j
      · subst hkj
        rw [List.getElem?_set_self (by omega)] at hb
        cases hb
        rw [Array.getElem?_modify, if_pos rfl, g1] at hv
        cases hv
        exact ⟨rfl, hy⟩
      · rw [List.getElem?_set_ne (fun e => hkj e.symm)] at hb
        rw [Array.getElem?_modify, if_neg (fun e => hkj e.symm)] at hv
        exact e4 k b v hb hv
end
end Go.Proofs.Ytdjbapglfdacmaa.R

/- R28: a slice held against nil. -/
set_option maxRecDepth 10000
namespace Go.Proofs.Ytdjbapglfdacmaa.R
open Go.RowKit
section
variable {P : Program} {B : Base} {k : List KI} {R : Post} {s : St} {all : Array Oper} {o : Oper} {rest : List Oper}
theorem rep_slN {w : World} {C : Ctx} {es : List (List T)} {v : Value} (h : RepA w C (.t (.sl es)) v) : ∃ a l c, v = .slice a l c ∧ (es ≠ [] → a.isNone = false) := by
  cases h with
  | t h =>
    cases h with
    | nil => exact ⟨_, _, _, rfl, fun h => absurd rfl h⟩
    | sl h0 => exact ⟨_, _, _, rfl, fun _ => rfl⟩
theorem nil_run {w : World} {ρv : Operand → Value} {t t' e : TypeId} {x : Operand} {a : Option Addr} {l c : Nat} (ho : o.op = .binOp .eql t x (.const (.slice none 0 0)) t') (hu : P.underlying t = some (.slice e)) (hx : ρv x = .slice a l c) (hc : ρv (.const (.slice none 0 0)) = .slice none 0 0) :
    (execOp ρv o).run P w = .ok (.value (.bool a.isNone)) w := by
  have he := run_equal_slice_nil (P := P) w t e a l c hu
  simp only [execOp, ho, hx, hc, Sem.run_bind, eqGuard, binOp]
  simp [he]
/-- A slice that is not written, held against nil: whether it is one is told only if it has elements. -/
theorem K_nilEq {t t' : TypeId} {x : Operand} {it : TI} {e : TypeId} {es : List (List T)} (hg : o.guard = none) (ho : o.op = .binOp .eql t x (.const (.slice none 0 0)) t') (hd : dOk B.n o.dst = true) (ht : TT P t = some it) (hdesc : it.desc = .slice e) (hx : ev s.m x = .t (.sl es))
    (h : ∀ b : Bool, (es ≠ [] → b = false) → Kp P B (.ops all rest :: k) R .normal ⟨put s.m o.dst (.b b), s.σ, s.nx⟩) : Kp P B (.ops all (o :: rest) :: k) R .normal s := by
  intro a w hrel
  refine wpL_plain hg fun K hK => ?_
  obtain ⟨C, h1, h2, h3, h4, h5, h6⟩ := hrel
  have hrx := ev_rep h2 x
  rw [hx] at hrx
  obtain ⟨ad, l, c, hv, hn⟩ := rep_slN hrx
  have hund : P.underlying t = some (.slice e) := by rw [(tt_some ht).1, hdesc]
  exact owp_value (nil_run ho hund hv rfl) (hK _ _ (h ad.isNone hn _ _ ⟨C, h1, put_rep h5 (Step.refl _ _ _) h2 (by rw [h3]; exact hd) (.t (.v rfl)), by rw [put_size]; exact h3, by rw [put_def]; exact h4, h5, h6⟩))
end
/-- A region that draws its order: which are tied to all that is loud; which of the others are looks that float. -/
theorem K_drawnG {P : Program} {B : Base} {k : List KI} {R : Post} {s : St} {all : Array Oper} {id : Nat} (lo fl ld : List Nat) (hm : P.follows .mixedOrders = true) (hst : statOK all B.n lo = true) (ht : ((List.range all.size).all (fun i => tied all lo i == !fl.contains i) && ld.all (fun i => flo all lo i)) = true)
    (h : (∀ i, i < all.size → tied all lo i = !fl.contains i) → (∀ i, i ∈ ld → flo all lo i = true) → Kp P B (.opsD all lo none (num 0 all.toList) [] :: k) R .normal s) : Kp P B (.code (.region id all true) :: k) R .normal s := by
  rw [Bool.and_eq_true] at ht
  exact K_drawn lo hm hst (h (fun i hi => eq_of_beq (List.all_eq_true.1 ht.1 i (List.mem_range.2 hi))) (fun i hi => List.all_eq_true.1 ht.2 i hi))
end Go.Proofs.Ytdjbapglfdacmaa.R

/- R29: a piece of code by what it leaves, whichever way it went. -/
namespace Go.Proofs.Ytdjbapglfdacmaa.R
open Go.RowKit
section
variable {P : Program} {B : Base} {k : List KI} {R : Post} {s : St}
theorem K_cut {α : Type} (I : α → Prop) (st : α → St) {c : Code} (h1 : Kp P B [.code c] (fun e s' => e = .normal ∧ ∃ y, I y ∧ Imp B s' (st y)) .normal s) (h2 : ∀ y, I y → Kp P B k R .normal (st y)) : Kp P B (.code c :: k) R .normal s := by
  intro a w hr
  refine cwp_mono (h1 a w hr) fun e a' w' hp => ?_
  obtain ⟨s', ⟨rfl, y, hy, hi⟩, h3⟩ := hp
  exact ⟨st y, h2 y hy, hi _ _ h3⟩
/-- A call of yield in a region that draws its order, what it leaves not told ahead. -/
theorem Imp.frz {q sz : Nat} {es : List (List T)} {m : Slots} {σ : Nat → AObj} (hq : s.σ q = .arr sz es) (hm : ∀ i, frz1 q es (s.m i) = m i) (hσ : ∀ j, (if j = q then .dead else frzO q es (s.σ j)) = σ j) : Imp B s ⟨m, σ, s.nx⟩ := by
  have h := Imp.freeze (B := B) hq
  rw [funext hm, funext hσ] at h
  exact h
/-- A variable's cells, less told. -/
theorem Imp.looseB {b : Nat} {cs : List AV} (hb : s.σ b = .box cs) : Imp B s ⟨s.m, oput s.σ b (.box (cs.map loosen)), s.nx⟩ := by
  intro a w hr
  obtain ⟨C, h1, h2, h3, h4, h5, h6⟩ := hr
  have hd : ∀ j, oput s.σ b (.box (cs.map loosen)) j ≠ .dead ↔ s.σ j ≠ .dead := fun j => by
    by_cases e : j = b
    · subst e; simp [oput, hb]
    · simp [oput, e]
  have hob := h5.obj b
  rw [hb] at hob
  obtain ⟨bl, vs, E, e1, e2, e3, e4⟩ := hob
  refine ⟨C, h1, h2, h3, h4.less (fun _ h => .inl h) (fun x ⟨i, hi, hx⟩ => .inr ⟨i, (hd i).1 hi, hx⟩), ⟨fun i hi => ?_, fun i => ?_, fun i j x hi hj => h5.inj i j x ((hd i).1 hi) ((hd j).1 hj), fun i x hi => h5.sep i x ((hd i).1 hi), h5.imm_lt⟩,
    ⟨h6.le, h6.os, h6.tape, h6.output, h6.size, h6.imm, h6.same, fun x ⟨i, hi, hx⟩ => h6.wr x ⟨i, (hd i).1 hi, hx⟩, h6.imm'⟩⟩
  · exact Classical.byContradiction fun h => (hd i).1 h (h5.dead i hi)
  · by_cases e : i = b
    · subst e
      show RepO w C i (oput s.σ i (.box (cs.map loosen)) i)
      simp only [oput, if_true]
      refine ⟨bl, vs, E, e1, e2, by simpa using e3, fun k x u hx hu => ?_⟩
      rw [List.getElem?_map] at hx
      obtain ⟨y, hy, rfl⟩ := Option.map_eq_some_iff.1 hx
      exact loosen_rep (e4 k y u hy hu)
    · show RepO w C i (oput s.σ b (.box (cs.map loosen)) i)
      simp only [oput, if_neg e]
      exact h5.obj i
end
end Go.Proofs.Ytdjbapglfdacmaa.R

/- R33: less is said of a state ahead of a piece of code; regions with marks. -/
namespace Go.Proofs.Ytdjbapglfdacmaa.R
open Go.RowKit
@[go_sem] theorem run_none {P : Program} {n : Nat} {G : List KI → St → Prop} {k : List KI} {s : St} : run P n G 0 k s = G k s := by rw [run]
section
variable {P : Program} {B : Base} {k : List KI} {R : Post} {s : St} {all : Array Oper}
theorem K_impC {t : St} {c : Code} (h : Imp B s t) (hk : Kp P B (.code c :: k) R .normal t) : Kp P B (.code c :: k) R .normal s :=
  fun a w hr => hk a w (h _ _ hr)
/-- A region with marks, and looks that float. -/
theorem K_drawnGM {id : Nat} (lo fl ld : List Nat) (pend : List Rc) (hm : P.follows .mixedOrders = true) (hst : statOK all B.n lo = true) (ht : ((List.range all.size).all (fun i => tied all lo i == !fl.contains i) && ld.all (fun i => flo all lo i)) = true) (hpd : ∀ q ∈ pend, ∃ o, all[q.i]? = some o ∧ lets all q.m o = some true ∧ evalS P s.σ s.nx (ev q.m) o.op = some (q.v, .none))
    (h : (∀ i, i < all.size → tied all lo i = !fl.contains i) → (∀ i, i ∈ ld → flo all lo i = true) → Kp P B (.opsD all lo none (num 0 all.toList) pend :: k) R .normal s) : Kp P B (.code (.region id all true) :: k) R .normal s := by
  rw [Bool.and_eq_true] at ht
  refine K_drawnM lo pend hm hst (fun q hq => ?_) (h (fun i hi => eq_of_beq (List.all_eq_true.1 ht.1 i (List.mem_range.2 hi))) (fun i hi => List.all_eq_true.1 ht.2 i hi))
  obtain ⟨o, h1, h2, h3⟩ := hpd q hq
  exact does_store (e := .none) h1 h2 h3
end
end Go.Proofs.Ytdjbapglfdacmaa.R

/- R34: rows of a row, as wholes. -/
namespace Go.Proofs.Ytdjbapglfdacmaa.R
theorem toTs_t : ∀ (e : List T), toTs (e.map AV.t) = some e
  | [] => rfl
  | x :: e => by simp only [List.map_cons, toTs, toT, toTs_t e]
theorem setCells_eq {α : Type} : ∀ (xs cs : List α) (off : Nat), off + xs.length ≤ cs.length → setCells cs off xs = cs.take off ++ xs ++ cs.drop (off + xs.length)
  | [], cs, off, _ => by simp [setCells]
  | x :: xs, cs, off, h => by
    rw [List.length_cons] at h
    rw [setCells, setCells_eq xs (cs.set off x) (off + 1) (by rw [List.length_set]; omega)]
    have e1 : (cs.set off x).take (off + 1) = cs.take off ++ [x] := by
      rw [List.take_succ_eq_append_getElem (by rw [List.length_set]; omega), List.take_set_of_le (Nat.le_refl _)]
      simp
    have e2 : (cs.set off x).drop (off + 1 + xs.length) = cs.drop (off + (x :: xs).length) := by
      rw [List.drop_set_of_lt (by omega), List.length_cons]
      congr 1
      omega
    rw [e1, e2]
    simp
theorem setCells_all {α : Type} {xs cs : List α} (h : xs.length = cs.length) : setCells cs 0 xs = xs := by
  rw [setCells_eq xs cs 0 (by omega)]
  simp [h]
end Go.Proofs.Ytdjbapglfdacmaa.R

/- R35: a call that leaves all older objects as they were. -/
namespace Go.Proofs.Ytdjbapglfdacmaa.R
section
variable {P : Program}
theorem spec_keep {f : FuncId} {fn : Func} {c : Code} (hf : P.funcs[f]? = some fn) (hb : fn.body = some c) (hname : (fn.name == "runtime.NumGoroutine") = false) {args : List AV} {σ : Nat → AObj} {nx : Nat} {r : AV} (hn : args.length ≤ fn.ntmps)
    (hr : bnd nx r = true)
    (h : (∀ i, σ i = .dead ∨ (bndO nx (σ i) = true ∧ i < nx)) → ∀ B : Base, B.n = fn.ntmps → B.C.nx = nx → B.σ = σ → Kp P B [.code c] (fun e s => (e = .ret ∨ e = .normal) ∧ nx ≤ s.nx ∧ (∀ i, i < nx → s.σ i = σ i) ∧ ∃ rs, resL P s fn.results.toList = some rs ∧ resV rs = r) .normal ⟨slots0 args, σ, nx⟩) :
    CallSpec P f args σ nx r σ nx := by
  refine CallQ.spec (CallQ.known (by simp [goodFn, hf, hb, hname]) fun hk => ?_)
  refine CallSpec.q (spec_of_K hf hb hname hn fun B h1 h2 h3 => ?_)
  refine fun a w hrel => cwp_mono (h hk B h1 h2 h3 a w hrel) fun e a' w' hp => ?_
  obtain ⟨s', ⟨he, g1, g3, rs, g4, g5⟩, h5⟩ := hp
  have hend : Ends nx s' (resV rs) σ nx r := by
    refine ⟨fun i => ?_, g1, Nat.le_refl _, .inl g5.symm, .inr hr⟩
    rcases hk i with e | ⟨e, e2⟩
    · exact .inl e
    · exact .inr ⟨(g3 i e2).symm, .inr ⟨e, e2⟩⟩
  refine ⟨s', ?_, h5⟩
  rcases he with rfl | rfl
  · exact ⟨rs, g4, hend⟩
  · exact ⟨rs, g4, hend⟩
end
end Go.Proofs.Ytdjbapglfdacmaa.R

/- R36: parts of a row of the call's own. -/
namespace Go.Proofs.Ytdjbapglfdacmaa.R
open Go.RowKit
section
variable {P : Program}
end
section
variable {P : Program} {B : Base} {k : List KI} {R : Post} {s : St} {all : Array Oper} {o : Oper} {lo : List Nat} {sw : SW} {rest : List (Nat × Oper)} {i : Nat} {pend : List Rc} {v : AV}
/-- A loud operation that is none of evalS. -/
theorem K_dTold {σ' : Nat → AObj} {nx' : Nat} (hd : all[i]? = some o → Does P B.n all i s.m s.σ s.nx v σ' nx') (hi : i ∈ lo) (hp : ∀ q ∈ pend, anc all q.i i = true ∨ Does P B.n all q.i q.m σ' nx' q.v σ' nx')
    (h : Kp P B (.opsD all lo sw rest pend :: k) R .normal ⟨put s.m o.dst v, σ', nx'⟩) : Kp P B (.opsD all lo sw ((i, o) :: rest) pend :: k) R .normal s :=
  Chain.at fun ho => Chain.step (loud := some (σ', nx')) (hd ho) (fun hc => by cases hc) (fun c hc => by cases hc; exact ⟨hi, hp⟩) (fun _ h => h) h
end
end Go.Proofs.Ytdjbapglfdacmaa.R

/- R37: a write into a map, in a region that draws its order. -/
namespace Go.Proofs.Ytdjbapglfdacmaa.R
open Go.RowKit
section
variable {P : Program}
theorem mapSet_run {C : Ctx} {σ : Nat → AObj} {w : World} {ρ : Operand → Value} {e : Operand → AV} {o : Oper} (hs : Sim C σ w) (hρ : ∀ z, RepA w C (e z) (ρ z)) {t kt et : TypeId} {x ix y : Operand} {it : TI} {m : Nat} {es : List (Value × AV)} {u : Value} (ho : o.op = .mapUpdate t x ix y)
    (ht : TT P t = some it) (hdesc : it.desc = .map kt et) (hk : keyKind P kt = true) (hx : e x = .mapr m) (hσ : σ m = .map es) (hu : plainA (e ix) = some u) (hc : ckA P 10000 kt (e ix) = true) (htell : TellM P kt (e ix) u es) (hsame : findM u es = none ∨ Instr.sameBits 10000 u u = true) :
    ∃ w', (execOp ρ o).run P w = .ok .skip w' ∧ Sim C (oput σ m (.map (setM u (e y) es))) w' ∧ Step C σ w C (oput σ m (.map (setM u (e y) es))) w' := by
  have hmx := hρ x
  rw [hx] at hmx
  obtain ⟨bl, ms, clock, e0, ow, e2, e3, e4⟩ := obj_map hs hσ hmx
  have hix := rep_plain hu (hρ ix)
  have hy := hρ y
  have hund : P.underlying t = some (.map kt et) := by rw [(tt_some ht).1, hdesc]
  have hck : (Instr.checkKey false 10000 kt u).run P w = .ok () w := by
    have := ckA_run (w := w) (C := C) false 10000 kt (e ix) (ρ ix) hc (hρ ix)
    rwa [hix] at this
  obtain ⟨f1, f2⟩ := find_run (w := w) (C := C) hk hc hu es ms htell e3 e4
  have hlt : bl < w.heap.size := (Array.getElem?_eq_some_iff.1 e2).1
  have hdead : σ m ≠ .dead := by rw [hσ]; exact (fun h => by cases h)
  have fin : ∀ (ms' : Array MapEntry) (clock' : Nat), (execOp ρ o).run P w = .ok .skip { w with heap := w.heap.setIfInBounds bl (.map ms' clock') } →
      ((setM u (e y) es).length = ms'.size ∧ ∀ (k : Nat) (b : Value × AV) (v : MapEntry), (setM u (e y) es)[k]? = some b → ms'[k]? = some v → v.key = b.1 ∧ RepA w C b.2 v.val) →
      ∃ w', (execOp ρ o).run P w = .ok .skip w' ∧ Sim C (oput σ m (.map (setM u (e y) es))) w' ∧ Step C σ w C (oput σ m (.map (setM u (e y) es))) w' := by
    intro ms' clock' hrun ⟨l1, l2⟩
    have hne : ∀ b, b ≠ bl → (w.heap.setIfInBounds bl (.map ms' clock'))[b]? = w.heap[b]? := fun b hb => by simp [Array.getElem?_setIfInBounds_ne (Ne.symm hb)]
    have hk0 : Keeps w C.imm { w with heap := w.heap.setIfInBounds bl (.map ms' clock') } C.imm := ⟨fun _ h => h, fun b hb => hne b fun e => hs.sep m bl hdead ow (e ▸ hb)⟩
    obtain ⟨g1, g2⟩ := sim_set (w' := { w with heap := w.heap.setIfInBounds bl (.map ms' clock') }) (obj := .map (setM u (e y) es)) hs hdead ow rfl rfl rfl (by simp) hne ⟨bl, ms', clock', ow, by simp [hlt], l1, fun k b v hb hv => by
      obtain ⟨p1, p2⟩ := l2 k b v hb hv
      exact ⟨p1, p2.keeps hk0 ⟨Nat.le_refl _, fun _ _ => rfl, fun _ _ => rfl⟩⟩⟩
    exact ⟨_, hrun, g1, g2⟩
  cases hf : findM u es with
  | none =>
    refine fin (ms.push { key := u, val := ρ y, born := clock }) (clock + 1) ?_ ?_
    · simp only [execOp, ho, Instr.mapUpdate, Sem.run_bind, run_underlying hund, Result.andThen_ok, e0, hix, MapKept.run_getObj_map e2, Sem.run_pure, hck, f1 hf, MapKept.run_setObj_map _ e2]
    · rw [setM, hf]
      refine ⟨by simp [e3], fun k b v hb hv => ?_⟩
      simp only at hb
      by_cases hk' : k < es.length
      · rw [List.getElem?_append_left hk'] at hb
        rw [Array.getElem?_push_lt (by omega)] at hv
        exact e4 k b v hb (by rw [Array.getElem?_eq_getElem (by omega)]; exact hv)
      · rw [List.getElem?_append_right (by omega)] at hb
        have hk0 : k - es.length = 0 := by
          have := (List.getElem?_eq_some_iff.1 hb).1
          simp at this; omega
        have hke : k = ms.size := by omega
        subst hke
        rw [hk0] at hb
        simp at hb hv
        subst hb; subst hv
        exact ⟨rfl, hy⟩
  | some p =>
    obtain ⟨j, b0⟩ := p
    obtain ⟨me, g1, g2, g3, g4⟩ := f2 j b0 hf
    have hst := run_stays (P := P) (w := w) (hsame.resolve_left (by rw [hf]; simp))
    have hjlt : j < ms.size := (Array.getElem?_eq_some_iff.1 g1).1
    refine fin (ms.modify j fun e => { e with key := u, val := ρ y }) clock ?_ ?_
    · simp only [execOp, ho, Instr.mapUpdate, Sem.run_bind, run_underlying hund, Result.andThen_ok, e0, hix, MapKept.run_getObj_map e2, Sem.run_pure, hck, g4, g1, Option.map_some, Option.getD_some, g2, hst, MapKept.run_setObj_map _ e2]
    · rw [setM, hf]
      refine ⟨by simp [e3], fun k b v hb hv => ?_⟩
      simp only at hb
      by_cases hkj : k = j
      · subst hkj
        rw [List.getElem?_set_self (by omega)] at hb
        cases hb
        rw [Array.getElem?_modify, if_pos rfl, g1] at hv
        cases hv
        exact ⟨rfl, hy⟩
      · rw [List.getElem?_set_ne (fun e => hkj e.symm)] at hb
        rw [Array.getElem?_modify, if_neg (fun e => hkj e.symm)] at hv
        exact e4 k b v hb hv
theorem does_mapSet {all : Array Oper} {i n : Nat} {o : Oper} {m : Slots} {t kt et : TypeId} {x ix y : Operand} {it : TI} {q : Nat} {es : List (Value × AV)} {u : Value} {σ : Nat → AObj} {nx : Nat} (ho' : all[i]? = some o) (hl : lets all m o = some true) (ho : o.op = .mapUpdate t x ix y)
    (ht : TT P t = some it) (hdesc : it.desc = .map kt et) (hk : keyKind P kt = true) (hx : ev m x = .mapr q) (hσ : σ q = .map es) (hu : plainA (ev m ix) = some u) (hc : ckA P 10000 kt (ev m ix) = true) (htell : TellM P kt (ev m ix) u es) (hsame : findM u es = none ∨ Instr.sameBits 10000 u u = true) :
    Does P n all i m σ nx (.tup []) (oput σ q (.map (setM u (ev m y) es))) nx := by
  intro C a w hn hs hsz hrep ro K Q hK
  have hops := mask_ev (m := m) ho'
  have hd : dstOf all i = o.dst := by simp [dstOf, ho']
  simp only [wpO, wpOpIn, ho', lets_wanted ho' hrep hl, if_true]
  rw [hd] at hK
  have ex := hops x (by simp [ho, Op.operands])
  have eix := hops ix (by simp [ho, Op.operands])
  have ey := hops y (by simp [ho, Op.operands])
  obtain ⟨w', g1, g2, g3⟩ := mapSet_run hs (ev_rep hrep) ho ht hdesc hk (by rw [ex]; exact hx) hσ (by rw [eix]; exact hu) (by rw [eix]; exact hc) (by rw [eix]; exact htell) hsame
  rw [ey] at g2 g3
  exact owp_skip g1 (hK _ _ C g2 hn g3 (.tup rfl (fun k a u h => by simp at h)))
end
section
variable {P : Program} {B : Base} {s : St}
/-- Whichever way it came, one of a family of states stands. -/
theorem K_impE {α : Type} (I : α → Prop) (st : α → St) {all : Array Oper} {rest : List Oper} {k : List KI} {R : Post} (h : ∃ y, I y ∧ Imp B s (st y)) (hk : ∀ y, I y → Kp P B (.ops all rest :: k) R .normal (st y)) : Kp P B (.ops all rest :: k) R .normal s := by
  obtain ⟨y, h1, h2⟩ := h
  exact K_imp h2 (hk y h1)
theorem Imp.own {t sz : Nat} (h : s.m t = .fsl []) : Imp B s ⟨put s.m (some t) (.ref s.nx), oput s.σ s.nx (.arr sz []), s.nx + 1⟩ := fun _ _ hr => rel_own h hr
end
end Go.Proofs.Ytdjbapglfdacmaa.R

/- The types of this seat's program, as the abstract side knows them: printed by wip/tools/types.py. -/
set_option maxRecDepth 20000
namespace Go.Proofs.Ytdjbapglfdacmaa
open Go Go.Proofs.Ytdjbapglfdacmaa.R
noncomputable abbrev P : Program := Try.prog
theorem tt1 : TT P 1 = some ⟨Go.TypeDesc.func #[] #[] Bool.false, 1, 8, Go.Value.nilFunc⟩ := by kernel_rfl
theorem tt2 : TT P 2 = some ⟨Go.TypeDesc.int Go.IntKind.i64, 1, 8, (Go.Value.int Go.IntKind.i64 0)⟩ := by kernel_rfl
theorem tt3 : TT P 3 = some ⟨Go.TypeDesc.int Go.IntKind.i64, 1, 8, (Go.Value.int Go.IntKind.i64 0)⟩ := by kernel_rfl
theorem tt4 : TT P 4 = some ⟨Go.TypeDesc.bool, 1, 1, (Go.Value.bool Bool.false)⟩ := by kernel_rfl
theorem tt5 : TT P 5 = some ⟨Go.TypeDesc.int Go.IntKind.u8, 1, 1, (Go.Value.int Go.IntKind.u8 0)⟩ := by kernel_rfl
theorem tt6 : TT P 6 = some ⟨Go.TypeDesc.int Go.IntKind.u8, 1, 1, (Go.Value.int Go.IntKind.u8 0)⟩ := by kernel_rfl
theorem tt7 : TT P 7 = some ⟨Go.TypeDesc.struct #[{ name := "x", type := 2, offset := 0, embedded := Bool.false, tag := "", pkgPath := "runtime", byteOffset := 0 }, { name := "y", type := 3, offset := 1, embedded := Bool.false, tag := "", pkgPath := "runtime", byteOffset := 8 }, { name := "signed", type := 4, offset := 2, embedded := Bool.false, tag := "", pkgPath := "runtime", byteOffset := 16 }, { name := "code", type := 6, offset := 3, embedded := Bool.false, tag := "", pkgPath := "runtime", byteOffset := 17 }], 4, 24, (Go.Value.agg #[Go.Value.int Go.IntKind.i64 0, Go.Value.int Go.IntKind.i64 0, Go.Value.bool Bool.false, Go.Value.int Go.IntKind.u8 0])⟩ := by kernel_rfl
theorem tt8 : TT P 8 = some ⟨Go.TypeDesc.struct #[{ name := "x", type := 2, offset := 0, embedded := Bool.false, tag := "", pkgPath := "runtime", byteOffset := 0 }, { name := "y", type := 3, offset := 1, embedded := Bool.false, tag := "", pkgPath := "runtime", byteOffset := 8 }, { name := "signed", type := 4, offset := 2, embedded := Bool.false, tag := "", pkgPath := "runtime", byteOffset := 16 }, { name := "code", type := 6, offset := 3, embedded := Bool.false, tag := "", pkgPath := "runtime", byteOffset := 17 }], 4, 24, (Go.Value.agg #[Go.Value.int Go.IntKind.i64 0, Go.Value.int Go.IntKind.i64 0, Go.Value.bool Bool.false, Go.Value.int Go.IntKind.u8 0])⟩ := by kernel_rfl
theorem tt9 : TT P 9 = some ⟨Go.TypeDesc.string, 1, 16, (Go.Value.string { data := #[] })⟩ := by kernel_rfl
theorem tt10 : TT P 10 = some ⟨Go.TypeDesc.string, 1, 16, (Go.Value.string { data := #[] })⟩ := by kernel_rfl
theorem tt11 : TT P 11 = some ⟨Go.TypeDesc.string, 1, 16, (Go.Value.string { data := #[] })⟩ := by kernel_rfl
theorem tt12 : TT P 12 = some ⟨Go.TypeDesc.int Go.IntKind.u64, 1, 8, (Go.Value.int Go.IntKind.u64 0)⟩ := by kernel_rfl
theorem tt13 : TT P 13 = some ⟨Go.TypeDesc.struct #[{ name := "msg", type := 9, offset := 0, embedded := Bool.false, tag := "", pkgPath := "runtime", byteOffset := 0 }, { name := "addr", type := 12, offset := 1, embedded := Bool.false, tag := "", pkgPath := "runtime", byteOffset := 16 }], 2, 24, (Go.Value.agg #[Go.Value.string { data := #[] }, Go.Value.int Go.IntKind.u64 0])⟩ := by kernel_rfl
theorem tt14 : TT P 14 = some ⟨Go.TypeDesc.struct #[{ name := "msg", type := 9, offset := 0, embedded := Bool.false, tag := "", pkgPath := "runtime", byteOffset := 0 }, { name := "addr", type := 12, offset := 1, embedded := Bool.false, tag := "", pkgPath := "runtime", byteOffset := 16 }], 2, 24, (Go.Value.agg #[Go.Value.string { data := #[] }, Go.Value.int Go.IntKind.u64 0])⟩ := by kernel_rfl
theorem tt15 : TT P 15 = some ⟨Go.TypeDesc.pointer 170, 1, 8, (Go.Value.pointer Option.none)⟩ := by kernel_rfl
theorem tt16 : TT P 16 = some ⟨Go.TypeDesc.pointer 173, 1, 8, (Go.Value.pointer Option.none)⟩ := by kernel_rfl
theorem tt17 : TT P 17 = some ⟨Go.TypeDesc.pointer 183, 1, 8, (Go.Value.pointer Option.none)⟩ := by kernel_rfl
theorem tt18 : TT P 18 = some ⟨Go.TypeDesc.struct #[{ name := "typ", type := 17, offset := 0, embedded := Bool.false, tag := "", pkgPath := "internal/runtime/maps", byteOffset := 0 }], 1, 8, (Go.Value.agg #[Go.Value.pointer Option.none])⟩ := by kernel_rfl
theorem tt19 : TT P 19 = some ⟨Go.TypeDesc.struct #[{ name := "typ", type := 17, offset := 0, embedded := Bool.false, tag := "", pkgPath := "internal/runtime/maps", byteOffset := 0 }], 1, 8, (Go.Value.agg #[Go.Value.pointer Option.none])⟩ := by kernel_rfl
theorem tt21 : TT P 21 = some ⟨Go.TypeDesc.int Go.IntKind.i32, 1, 4, (Go.Value.int Go.IntKind.i32 0)⟩ := by kernel_rfl
theorem tt22 : TT P 22 = some ⟨Go.TypeDesc.slice 70, 1, 24, (Go.Value.slice Option.none 0 0)⟩ := by kernel_rfl
theorem tt23 : TT P 23 = some ⟨Go.TypeDesc.struct #[{ name := "Pairs", type := 3, offset := 0, embedded := Bool.false, tag := "", pkgPath := "", byteOffset := 0 }, { name := "Cars", type := 3, offset := 1, embedded := Bool.false, tag := "", pkgPath := "", byteOffset := 8 }, { name := "Room", type := 3, offset := 2, embedded := Bool.false, tag := "", pkgPath := "", byteOffset := 16 }, { name := "Stops", type := 22, offset := 3, embedded := Bool.false, tag := "", pkgPath := "", byteOffset := 24 }], 4, 48, (Go.Value.agg #[Go.Value.int Go.IntKind.i64 0, Go.Value.int Go.IntKind.i64 0, Go.Value.int Go.IntKind.i64 0, Go.Value.slice Option.none 0 0])⟩ := by kernel_rfl
theorem tt24 : TT P 24 = some ⟨Go.TypeDesc.struct #[{ name := "Pairs", type := 3, offset := 0, embedded := Bool.false, tag := "", pkgPath := "", byteOffset := 0 }, { name := "Cars", type := 3, offset := 1, embedded := Bool.false, tag := "", pkgPath := "", byteOffset := 8 }, { name := "Room", type := 3, offset := 2, embedded := Bool.false, tag := "", pkgPath := "", byteOffset := 16 }, { name := "Stops", type := 22, offset := 3, embedded := Bool.false, tag := "", pkgPath := "", byteOffset := 24 }], 4, 48, (Go.Value.agg #[Go.Value.int Go.IntKind.i64 0, Go.Value.int Go.IntKind.i64 0, Go.Value.int Go.IntKind.i64 0, Go.Value.slice Option.none 0 0])⟩ := by kernel_rfl
theorem tt25 : TT P 25 = some ⟨Go.TypeDesc.slice 36, 1, 24, (Go.Value.slice Option.none 0 0)⟩ := by kernel_rfl
theorem tt26 : TT P 26 = some ⟨Go.TypeDesc.func #[] #[4] Bool.false, 1, 8, Go.Value.nilFunc⟩ := by kernel_rfl
theorem tt27 : TT P 27 = some ⟨Go.TypeDesc.func #[25] #[4] Bool.false, 1, 8, Go.Value.nilFunc⟩ := by kernel_rfl
theorem tt28 : TT P 28 = some ⟨Go.TypeDesc.func #[25, 25] #[4] Bool.false, 1, 8, Go.Value.nilFunc⟩ := by kernel_rfl
theorem tt29 : TT P 29 = some ⟨Go.TypeDesc.func #[24, 25, 3] #[25] Bool.false, 1, 8, Go.Value.nilFunc⟩ := by kernel_rfl
theorem tt30 : TT P 30 = some ⟨Go.TypeDesc.func #[24, 25, 3] #[4] Bool.false, 1, 8, Go.Value.nilFunc⟩ := by kernel_rfl
theorem tt31 : TT P 31 = some ⟨Go.TypeDesc.int Go.IntKind.u64, 1, 8, (Go.Value.int Go.IntKind.u64 0)⟩ := by kernel_rfl
theorem tt32 : TT P 32 = some ⟨Go.TypeDesc.struct #[{ name := "At", type := 3, offset := 0, embedded := Bool.false, tag := "", pkgPath := "", byteOffset := 0 }, { name := "Car", type := 3, offset := 1, embedded := Bool.false, tag := "", pkgPath := "", byteOffset := 8 }, { name := "Time", type := 3, offset := 2, embedded := Bool.false, tag := "", pkgPath := "", byteOffset := 16 }, { name := "Load", type := 3, offset := 3, embedded := Bool.false, tag := "", pkgPath := "", byteOffset := 24 }, { name := "First", type := 3, offset := 4, embedded := Bool.false, tag := "", pkgPath := "", byteOffset := 32 }, { name := "Must", type := 31, offset := 5, embedded := Bool.false, tag := "", pkgPath := "", byteOffset := 40 }, { name := "May", type := 31, offset := 6, embedded := Bool.false, tag := "", pkgPath := "", byteOffset := 48 }, { name := "On", type := 31, offset := 7, embedded := Bool.false, tag := "", pkgPath := "", byteOffset := 56 }], 8, 64, (Go.Value.agg #[Go.Value.int Go.IntKind.i64 0, Go.Value.int Go.IntKind.i64 0, Go.Value.int Go.IntKind.i64 0, Go.Value.int Go.IntKind.i64 0, Go.Value.int Go.IntKind.i64 0, Go.Value.int Go.IntKind.u64 0, Go.Value.int Go.IntKind.u64 0, Go.Value.int Go.IntKind.u64 0])⟩ := by kernel_rfl
theorem tt33 : TT P 33 = some ⟨Go.TypeDesc.struct #[{ name := "At", type := 3, offset := 0, embedded := Bool.false, tag := "", pkgPath := "", byteOffset := 0 }, { name := "Car", type := 3, offset := 1, embedded := Bool.false, tag := "", pkgPath := "", byteOffset := 8 }, { name := "Time", type := 3, offset := 2, embedded := Bool.false, tag := "", pkgPath := "", byteOffset := 16 }, { name := "Load", type := 3, offset := 3, embedded := Bool.false, tag := "", pkgPath := "", byteOffset := 24 }, { name := "First", type := 3, offset := 4, embedded := Bool.false, tag := "", pkgPath := "", byteOffset := 32 }, { name := "Must", type := 31, offset := 5, embedded := Bool.false, tag := "", pkgPath := "", byteOffset := 40 }, { name := "May", type := 31, offset := 6, embedded := Bool.false, tag := "", pkgPath := "", byteOffset := 48 }, { name := "On", type := 31, offset := 7, embedded := Bool.false, tag := "", pkgPath := "", byteOffset := 56 }], 8, 64, (Go.Value.agg #[Go.Value.int Go.IntKind.i64 0, Go.Value.int Go.IntKind.i64 0, Go.Value.int Go.IntKind.i64 0, Go.Value.int Go.IntKind.i64 0, Go.Value.int Go.IntKind.i64 0, Go.Value.int Go.IntKind.u64 0, Go.Value.int Go.IntKind.u64 0, Go.Value.int Go.IntKind.u64 0])⟩ := by kernel_rfl
theorem tt34 : TT P 34 = some ⟨Go.TypeDesc.slice 3, 1, 24, (Go.Value.slice Option.none 0 0)⟩ := by kernel_rfl
theorem tt35 : TT P 35 = some ⟨Go.TypeDesc.struct #[{ name := "S", type := 33, offset := 0, embedded := Bool.false, tag := "", pkgPath := "", byteOffset := 0 }, { name := "Cost", type := 3, offset := 8, embedded := Bool.false, tag := "", pkgPath := "", byteOffset := 64 }, { name := "Path", type := 34, offset := 9, embedded := Bool.false, tag := "", pkgPath := "", byteOffset := 72 }], 10, 96, (Go.Value.agg #[Go.Value.int Go.IntKind.i64 0, Go.Value.int Go.IntKind.i64 0, Go.Value.int Go.IntKind.i64 0, Go.Value.int Go.IntKind.i64 0, Go.Value.int Go.IntKind.i64 0, Go.Value.int Go.IntKind.u64 0, Go.Value.int Go.IntKind.u64 0, Go.Value.int Go.IntKind.u64 0, Go.Value.int Go.IntKind.i64 0, Go.Value.slice Option.none 0 0])⟩ := by kernel_rfl
theorem tt36 : TT P 36 = some ⟨Go.TypeDesc.struct #[{ name := "S", type := 33, offset := 0, embedded := Bool.false, tag := "", pkgPath := "", byteOffset := 0 }, { name := "Cost", type := 3, offset := 8, embedded := Bool.false, tag := "", pkgPath := "", byteOffset := 64 }, { name := "Path", type := 34, offset := 9, embedded := Bool.false, tag := "", pkgPath := "", byteOffset := 72 }], 10, 96, (Go.Value.agg #[Go.Value.int Go.IntKind.i64 0, Go.Value.int Go.IntKind.i64 0, Go.Value.int Go.IntKind.i64 0, Go.Value.int Go.IntKind.i64 0, Go.Value.int Go.IntKind.i64 0, Go.Value.int Go.IntKind.u64 0, Go.Value.int Go.IntKind.u64 0, Go.Value.int Go.IntKind.u64 0, Go.Value.int Go.IntKind.i64 0, Go.Value.slice Option.none 0 0])⟩ := by kernel_rfl
theorem tt37 : TT P 37 = some ⟨Go.TypeDesc.func #[33, 33] #[4] Bool.false, 1, 8, Go.Value.nilFunc⟩ := by kernel_rfl
theorem tt38 : TT P 38 = some ⟨Go.TypeDesc.func #[24] #[4] Bool.false, 1, 8, Go.Value.nilFunc⟩ := by kernel_rfl
theorem tt39 : TT P 39 = some ⟨Go.TypeDesc.slice 25, 1, 24, (Go.Value.slice Option.none 0 0)⟩ := by kernel_rfl
theorem tt40 : TT P 40 = some ⟨Go.TypeDesc.struct #[{ name := "Layers", type := 39, offset := 0, embedded := Bool.false, tag := "", pkgPath := "", byteOffset := 0 }, { name := "Low", type := 3, offset := 1, embedded := Bool.false, tag := "", pkgPath := "", byteOffset := 24 }, { name := "Exact", type := 4, offset := 2, embedded := Bool.false, tag := "", pkgPath := "", byteOffset := 32 }, { name := "Sure", type := 3, offset := 3, embedded := Bool.false, tag := "", pkgPath := "", byteOffset := 40 }], 4, 48, (Go.Value.agg #[Go.Value.slice Option.none 0 0, Go.Value.int Go.IntKind.i64 0, Go.Value.bool Bool.false, Go.Value.int Go.IntKind.i64 0])⟩ := by kernel_rfl
theorem tt41 : TT P 41 = some ⟨Go.TypeDesc.struct #[{ name := "Layers", type := 39, offset := 0, embedded := Bool.false, tag := "", pkgPath := "", byteOffset := 0 }, { name := "Low", type := 3, offset := 1, embedded := Bool.false, tag := "", pkgPath := "", byteOffset := 24 }, { name := "Exact", type := 4, offset := 2, embedded := Bool.false, tag := "", pkgPath := "", byteOffset := 32 }, { name := "Sure", type := 3, offset := 3, embedded := Bool.false, tag := "", pkgPath := "", byteOffset := 40 }], 4, 48, (Go.Value.agg #[Go.Value.slice Option.none 0 0, Go.Value.int Go.IntKind.i64 0, Go.Value.bool Bool.false, Go.Value.int Go.IntKind.i64 0])⟩ := by kernel_rfl
theorem tt42 : TT P 42 = some ⟨Go.TypeDesc.func #[24, 36, 3, 3] #[41] Bool.false, 1, 8, Go.Value.nilFunc⟩ := by kernel_rfl
theorem tt43 : TT P 43 = some ⟨Go.TypeDesc.func #[24] #[36] Bool.false, 1, 8, Go.Value.nilFunc⟩ := by kernel_rfl
theorem tt44 : TT P 44 = some ⟨Go.TypeDesc.func #[24] #[3] Bool.false, 1, 8, Go.Value.nilFunc⟩ := by kernel_rfl
theorem tt45 : TT P 45 = some ⟨Go.TypeDesc.int Go.IntKind.i64, 1, 8, (Go.Value.int Go.IntKind.i64 0)⟩ := by kernel_rfl
theorem tt47 : TT P 47 = some ⟨Go.TypeDesc.func #[24, 34] #[33, 3, 45] Bool.false, 1, 8, Go.Value.nilFunc⟩ := by kernel_rfl
theorem tt48 : TT P 48 = some ⟨Go.TypeDesc.func #[24, 3, 3] #[4] Bool.false, 1, 8, Go.Value.nilFunc⟩ := by kernel_rfl
theorem tt49 : TT P 49 = some ⟨Go.TypeDesc.slice 34, 1, 24, (Go.Value.slice Option.none 0 0)⟩ := by kernel_rfl
theorem tt50 : TT P 50 = some ⟨Go.TypeDesc.struct #[{ name := "Routes", type := 49, offset := 0, embedded := Bool.false, tag := "", pkgPath := "", byteOffset := 0 }], 1, 24, (Go.Value.agg #[Go.Value.slice Option.none 0 0])⟩ := by kernel_rfl
theorem tt51 : TT P 51 = some ⟨Go.TypeDesc.struct #[{ name := "Routes", type := 49, offset := 0, embedded := Bool.false, tag := "", pkgPath := "", byteOffset := 0 }], 1, 24, (Go.Value.agg #[Go.Value.slice Option.none 0 0])⟩ := by kernel_rfl
theorem tt53 : TT P 53 = some ⟨Go.TypeDesc.func #[24, 51] #[3, 45] Bool.false, 1, 8, Go.Value.nilFunc⟩ := by kernel_rfl
theorem tt54 : TT P 54 = some ⟨Go.TypeDesc.func #[24, 51, 3, 3] #[4] Bool.false, 1, 8, Go.Value.nilFunc⟩ := by kernel_rfl
theorem tt56 : TT P 56 = some ⟨Go.TypeDesc.func #[57] #[24, 45] Bool.false, 1, 8, Go.Value.nilFunc⟩ := by kernel_rfl
theorem tt57 : TT P 57 = some ⟨Go.TypeDesc.slice 5, 1, 24, (Go.Value.slice Option.none 0 0)⟩ := by kernel_rfl
theorem tt58 : TT P 58 = some ⟨Go.TypeDesc.func #[] #[9] Bool.false, 1, 8, Go.Value.nilFunc⟩ := by kernel_rfl
theorem tt59 : TT P 59 = some ⟨Go.TypeDesc.func #[24] #[33] Bool.false, 1, 8, Go.Value.nilFunc⟩ := by kernel_rfl
theorem tt60 : TT P 60 = some ⟨Go.TypeDesc.func #[34, 34] #[4] Bool.false, 1, 8, Go.Value.nilFunc⟩ := by kernel_rfl
theorem tt61 : TT P 61 = some ⟨Go.TypeDesc.func #[24, 25] #[25] Bool.false, 1, 8, Go.Value.nilFunc⟩ := by kernel_rfl
theorem tt62 : TT P 62 = some ⟨Go.TypeDesc.func #[24, 3] #[3] Bool.false, 1, 8, Go.Value.nilFunc⟩ := by kernel_rfl
theorem tt63 : TT P 63 = some ⟨Go.TypeDesc.map 3 25, 1, 8, (Go.Value.map Option.none)⟩ := by kernel_rfl
theorem tt65 : TT P 65 = some ⟨Go.TypeDesc.func #[25] #[36, 4] Bool.false, 1, 8, Go.Value.nilFunc⟩ := by kernel_rfl
theorem tt66 : TT P 66 = some ⟨Go.TypeDesc.func #[25, 3] #[36, 4] Bool.false, 1, 8, Go.Value.nilFunc⟩ := by kernel_rfl
theorem tt67 : TT P 67 = some ⟨Go.TypeDesc.func #[31, 31] #[4] Bool.false, 1, 8, Go.Value.nilFunc⟩ := by kernel_rfl
theorem tt68 : TT P 68 = some ⟨Go.TypeDesc.func #[3, 3, 34] #[4] Bool.true, 1, 8, Go.Value.nilFunc⟩ := by kernel_rfl
theorem tt69 : TT P 69 = some ⟨Go.TypeDesc.struct #[{ name := "X", type := 3, offset := 0, embedded := Bool.false, tag := "", pkgPath := "", byteOffset := 0 }, { name := "Y", type := 3, offset := 1, embedded := Bool.false, tag := "", pkgPath := "", byteOffset := 8 }, { name := "Demand", type := 3, offset := 2, embedded := Bool.false, tag := "", pkgPath := "", byteOffset := 16 }, { name := "Ready", type := 3, offset := 3, embedded := Bool.false, tag := "", pkgPath := "", byteOffset := 24 }, { name := "Due", type := 3, offset := 4, embedded := Bool.false, tag := "", pkgPath := "", byteOffset := 32 }, { name := "Service", type := 3, offset := 5, embedded := Bool.false, tag := "", pkgPath := "", byteOffset := 40 }], 6, 48, (Go.Value.agg #[Go.Value.int Go.IntKind.i64 0, Go.Value.int Go.IntKind.i64 0, Go.Value.int Go.IntKind.i64 0, Go.Value.int Go.IntKind.i64 0, Go.Value.int Go.IntKind.i64 0, Go.Value.int Go.IntKind.i64 0])⟩ := by kernel_rfl
theorem tt70 : TT P 70 = some ⟨Go.TypeDesc.struct #[{ name := "X", type := 3, offset := 0, embedded := Bool.false, tag := "", pkgPath := "", byteOffset := 0 }, { name := "Y", type := 3, offset := 1, embedded := Bool.false, tag := "", pkgPath := "", byteOffset := 8 }, { name := "Demand", type := 3, offset := 2, embedded := Bool.false, tag := "", pkgPath := "", byteOffset := 16 }, { name := "Ready", type := 3, offset := 3, embedded := Bool.false, tag := "", pkgPath := "", byteOffset := 24 }, { name := "Due", type := 3, offset := 4, embedded := Bool.false, tag := "", pkgPath := "", byteOffset := 32 }, { name := "Service", type := 3, offset := 5, embedded := Bool.false, tag := "", pkgPath := "", byteOffset := 40 }], 6, 48, (Go.Value.agg #[Go.Value.int Go.IntKind.i64 0, Go.Value.int Go.IntKind.i64 0, Go.Value.int Go.IntKind.i64 0, Go.Value.int Go.IntKind.i64 0, Go.Value.int Go.IntKind.i64 0, Go.Value.int Go.IntKind.i64 0])⟩ := by kernel_rfl
theorem tt71 : TT P 71 = some ⟨Go.TypeDesc.func #[25] #[25] Bool.false, 1, 8, Go.Value.nilFunc⟩ := by kernel_rfl
theorem tt73 : TT P 73 = some ⟨Go.TypeDesc.func #[24, 25, 3] #[25, 36, 4] Bool.false, 1, 8, Go.Value.nilFunc⟩ := by kernel_rfl
theorem tt75 : TT P 75 = some ⟨Go.TypeDesc.func #[24, 33, 3] #[33, 3, 4] Bool.false, 1, 8, Go.Value.nilFunc⟩ := by kernel_rfl
theorem tt76 : TT P 76 = some ⟨Go.TypeDesc.slice 157, 1, 24, (Go.Value.slice Option.none 0 0)⟩ := by kernel_rfl
theorem tt78 : TT P 78 = some ⟨Go.TypeDesc.func #[24, 34] #[76, 3, 45] Bool.false, 1, 8, Go.Value.nilFunc⟩ := by kernel_rfl
theorem tt79 : TT P 79 = some ⟨Go.TypeDesc.func #[3] #[4] Bool.false, 1, 8, Go.Value.nilFunc⟩ := by kernel_rfl
theorem tt80 : TT P 80 = some ⟨Go.TypeDesc.func #[34, 79] #[4] Bool.false, 1, 8, Go.Value.nilFunc⟩ := by kernel_rfl
theorem tt81 : TT P 81 = some ⟨Go.TypeDesc.func #[34, 3] #[4] Bool.false, 1, 8, Go.Value.nilFunc⟩ := by kernel_rfl
theorem tt82 : TT P 82 = some ⟨Go.TypeDesc.func #[24, 33, 3] #[3] Bool.false, 1, 8, Go.Value.nilFunc⟩ := by kernel_rfl
theorem tt84 : TT P 84 = some ⟨Go.TypeDesc.func #[57] #[49, 45] Bool.false, 1, 8, Go.Value.nilFunc⟩ := by kernel_rfl
theorem tt85 : TT P 85 = some ⟨Go.TypeDesc.func #[34] #[4] Bool.false, 1, 8, Go.Value.nilFunc⟩ := by kernel_rfl
theorem tt86 : TT P 86 = some ⟨Go.TypeDesc.func #[49, 85] #[4] Bool.false, 1, 8, Go.Value.nilFunc⟩ := by kernel_rfl
theorem tt87 : TT P 87 = some ⟨Go.TypeDesc.func #[34] #[70] Bool.false, 1, 8, Go.Value.nilFunc⟩ := by kernel_rfl
theorem tt88 : TT P 88 = some ⟨Go.TypeDesc.func #[36] #[36] Bool.false, 1, 8, Go.Value.nilFunc⟩ := by kernel_rfl
theorem tt89 : TT P 89 = some ⟨Go.TypeDesc.func #[25, 91] #[25] Bool.false, 1, 8, Go.Value.nilFunc⟩ := by kernel_rfl
theorem tt90 : TT P 90 = some ⟨Go.TypeDesc.func #[24, 36] #[3] Bool.false, 1, 8, Go.Value.nilFunc⟩ := by kernel_rfl
theorem tt91 : TT P 91 = some ⟨Go.TypeDesc.func #[36] #[3] Bool.false, 1, 8, Go.Value.nilFunc⟩ := by kernel_rfl
theorem tt92 : TT P 92 = some ⟨Go.TypeDesc.slice 33, 1, 24, (Go.Value.slice Option.none 0 0)⟩ := by kernel_rfl
theorem tt94 : TT P 94 = some ⟨Go.TypeDesc.func #[92] #[33, 4] Bool.true, 1, 8, Go.Value.nilFunc⟩ := by kernel_rfl
theorem tt95 : TT P 95 = some ⟨Go.TypeDesc.func #[92] #[33, 4] Bool.false, 1, 8, Go.Value.nilFunc⟩ := by kernel_rfl
theorem tt96 : TT P 96 = some ⟨Go.TypeDesc.func #[34] #[34] Bool.false, 1, 8, Go.Value.nilFunc⟩ := by kernel_rfl
theorem tt98 : TT P 98 = some ⟨Go.TypeDesc.func #[24, 33] #[3, 4] Bool.false, 1, 8, Go.Value.nilFunc⟩ := by kernel_rfl
theorem tt99 : TT P 99 = some ⟨Go.TypeDesc.func #[34] #[3] Bool.true, 1, 8, Go.Value.nilFunc⟩ := by kernel_rfl
theorem tt100 : TT P 100 = some ⟨Go.TypeDesc.func #[136] #[] Bool.false, 1, 8, Go.Value.nilFunc⟩ := by kernel_rfl
theorem tt101 : TT P 101 = some ⟨Go.TypeDesc.func #[136] #[] Bool.false, 1, 8, Go.Value.nilFunc⟩ := by kernel_rfl
theorem tt102 : TT P 102 = some ⟨Go.TypeDesc.func #[24, 36] #[101] Bool.false, 1, 8, Go.Value.nilFunc⟩ := by kernel_rfl
theorem tt103 : TT P 103 = some ⟨Go.TypeDesc.struct #[{ name := "Instance", type := 24, offset := 0, embedded := Bool.true, tag := "", pkgPath := "", byteOffset := 0 }, { name := "s", type := 33, offset := 4, embedded := Bool.false, tag := "", pkgPath := "haulier/state", byteOffset := 48 }], 12, 112, (Go.Value.agg #[Go.Value.int Go.IntKind.i64 0, Go.Value.int Go.IntKind.i64 0, Go.Value.int Go.IntKind.i64 0, Go.Value.slice Option.none 0 0, Go.Value.int Go.IntKind.i64 0, Go.Value.int Go.IntKind.i64 0, Go.Value.int Go.IntKind.i64 0, Go.Value.int Go.IntKind.i64 0, Go.Value.int Go.IntKind.i64 0, Go.Value.int Go.IntKind.u64 0, Go.Value.int Go.IntKind.u64 0, Go.Value.int Go.IntKind.u64 0])⟩ := by kernel_rfl
theorem tt104 : TT P 104 = some ⟨Go.TypeDesc.struct #[{ name := "Instance", type := 24, offset := 0, embedded := Bool.true, tag := "", pkgPath := "", byteOffset := 0 }, { name := "s", type := 33, offset := 4, embedded := Bool.false, tag := "", pkgPath := "haulier/state", byteOffset := 48 }], 12, 112, (Go.Value.agg #[Go.Value.int Go.IntKind.i64 0, Go.Value.int Go.IntKind.i64 0, Go.Value.int Go.IntKind.i64 0, Go.Value.slice Option.none 0 0, Go.Value.int Go.IntKind.i64 0, Go.Value.int Go.IntKind.i64 0, Go.Value.int Go.IntKind.i64 0, Go.Value.int Go.IntKind.i64 0, Go.Value.int Go.IntKind.i64 0, Go.Value.int Go.IntKind.u64 0, Go.Value.int Go.IntKind.u64 0, Go.Value.int Go.IntKind.u64 0])⟩ := by kernel_rfl
theorem tt105 : TT P 105 = some ⟨Go.TypeDesc.func #[3] #[33, 3, 4] Bool.false, 1, 8, Go.Value.nilFunc⟩ := by kernel_rfl
theorem tt106 : TT P 106 = some ⟨Go.TypeDesc.pointer 110, 1, 8, (Go.Value.pointer Option.none)⟩ := by kernel_rfl
theorem tt108 : TT P 108 = some ⟨Go.TypeDesc.func #[24, 34] #[106, 45] Bool.false, 1, 8, Go.Value.nilFunc⟩ := by kernel_rfl
theorem tt109 : TT P 109 = some ⟨Go.TypeDesc.struct #[{ name := "Instance", type := 24, offset := 0, embedded := Bool.true, tag := "", pkgPath := "", byteOffset := 0 }, { name := "at", type := 3, offset := 4, embedded := Bool.false, tag := "", pkgPath := "haulier/sched", byteOffset := 48 }, { name := "now", type := 3, offset := 5, embedded := Bool.false, tag := "", pkgPath := "haulier/sched", byteOffset := 56 }, { name := "far", type := 3, offset := 6, embedded := Bool.false, tag := "", pkgPath := "haulier/sched", byteOffset := 64 }, { name := "load", type := 3, offset := 7, embedded := Bool.false, tag := "", pkgPath := "haulier/sched", byteOffset := 72 }, { name := "seen", type := 31, offset := 8, embedded := Bool.false, tag := "", pkgPath := "haulier/sched", byteOffset := 80 }, { name := "on", type := 31, offset := 9, embedded := Bool.false, tag := "", pkgPath := "haulier/sched", byteOffset := 88 }, { name := "times", type := 76, offset := 10, embedded := Bool.false, tag := "", pkgPath := "haulier/sched", byteOffset := 96 }, { name := "loads", type := 34, offset := 11, embedded := Bool.false, tag := "", pkgPath := "haulier/sched", byteOffset := 120 }], 12, 144, (Go.Value.agg #[Go.Value.int Go.IntKind.i64 0, Go.Value.int Go.IntKind.i64 0, Go.Value.int Go.IntKind.i64 0, Go.Value.slice Option.none 0 0, Go.Value.int Go.IntKind.i64 0, Go.Value.int Go.IntKind.i64 0, Go.Value.int Go.IntKind.i64 0, Go.Value.int Go.IntKind.i64 0, Go.Value.int Go.IntKind.u64 0, Go.Value.int Go.IntKind.u64 0, Go.Value.slice Option.none 0 0, Go.Value.slice Option.none 0 0])⟩ := by kernel_rfl
theorem tt110 : TT P 110 = some ⟨Go.TypeDesc.struct #[{ name := "Instance", type := 24, offset := 0, embedded := Bool.true, tag := "", pkgPath := "", byteOffset := 0 }, { name := "at", type := 3, offset := 4, embedded := Bool.false, tag := "", pkgPath := "haulier/sched", byteOffset := 48 }, { name := "now", type := 3, offset := 5, embedded := Bool.false, tag := "", pkgPath := "haulier/sched", byteOffset := 56 }, { name := "far", type := 3, offset := 6, embedded := Bool.false, tag := "", pkgPath := "haulier/sched", byteOffset := 64 }, { name := "load", type := 3, offset := 7, embedded := Bool.false, tag := "", pkgPath := "haulier/sched", byteOffset := 72 }, { name := "seen", type := 31, offset := 8, embedded := Bool.false, tag := "", pkgPath := "haulier/sched", byteOffset := 80 }, { name := "on", type := 31, offset := 9, embedded := Bool.false, tag := "", pkgPath := "haulier/sched", byteOffset := 88 }, { name := "times", type := 76, offset := 10, embedded := Bool.false, tag := "", pkgPath := "haulier/sched", byteOffset := 96 }, { name := "loads", type := 34, offset := 11, embedded := Bool.false, tag := "", pkgPath := "haulier/sched", byteOffset := 120 }], 12, 144, (Go.Value.agg #[Go.Value.int Go.IntKind.i64 0, Go.Value.int Go.IntKind.i64 0, Go.Value.int Go.IntKind.i64 0, Go.Value.slice Option.none 0 0, Go.Value.int Go.IntKind.i64 0, Go.Value.int Go.IntKind.i64 0, Go.Value.int Go.IntKind.i64 0, Go.Value.int Go.IntKind.i64 0, Go.Value.int Go.IntKind.u64 0, Go.Value.int Go.IntKind.u64 0, Go.Value.slice Option.none 0 0, Go.Value.slice Option.none 0 0])⟩ := by kernel_rfl
theorem tt111 : TT P 111 = some ⟨Go.TypeDesc.func #[34, 79] #[3] Bool.false, 1, 8, Go.Value.nilFunc⟩ := by kernel_rfl
theorem tt112 : TT P 112 = some ⟨Go.TypeDesc.func #[34, 3] #[3] Bool.false, 1, 8, Go.Value.nilFunc⟩ := by kernel_rfl
theorem tt113 : TT P 113 = some ⟨Go.TypeDesc.func #[24, 33] #[34] Bool.false, 1, 8, Go.Value.nilFunc⟩ := by kernel_rfl
theorem tt114 : TT P 114 = some ⟨Go.TypeDesc.pointer 116, 1, 8, (Go.Value.pointer Option.none)⟩ := by kernel_rfl
theorem tt115 : TT P 115 = some ⟨Go.TypeDesc.struct #[{ name := "b", type := 57, offset := 0, embedded := Bool.false, tag := "", pkgPath := "haulier/scan", byteOffset := 0 }, { name := "at", type := 3, offset := 1, embedded := Bool.false, tag := "", pkgPath := "haulier/scan", byteOffset := 24 }], 2, 32, (Go.Value.agg #[Go.Value.slice Option.none 0 0, Go.Value.int Go.IntKind.i64 0])⟩ := by kernel_rfl
theorem tt116 : TT P 116 = some ⟨Go.TypeDesc.struct #[{ name := "b", type := 57, offset := 0, embedded := Bool.false, tag := "", pkgPath := "haulier/scan", byteOffset := 0 }, { name := "at", type := 3, offset := 1, embedded := Bool.false, tag := "", pkgPath := "haulier/scan", byteOffset := 24 }], 2, 32, (Go.Value.agg #[Go.Value.slice Option.none 0 0, Go.Value.int Go.IntKind.i64 0])⟩ := by kernel_rfl
theorem tt118 : TT P 118 = some ⟨Go.TypeDesc.func #[] #[34, 4] Bool.false, 1, 8, Go.Value.nilFunc⟩ := by kernel_rfl
theorem tt119 : TT P 119 = some ⟨Go.TypeDesc.func #[49, 85] #[3] Bool.false, 1, 8, Go.Value.nilFunc⟩ := by kernel_rfl
theorem tt120 : TT P 120 = some ⟨Go.TypeDesc.array 6 3, 6, 48, (Go.Value.agg #[Go.Value.int Go.IntKind.i64 0, Go.Value.int Go.IntKind.i64 0, Go.Value.int Go.IntKind.i64 0, Go.Value.int Go.IntKind.i64 0, Go.Value.int Go.IntKind.i64 0, Go.Value.int Go.IntKind.i64 0])⟩ := by kernel_rfl
theorem tt121 : TT P 121 = some ⟨Go.TypeDesc.slice 123, 1, 24, (Go.Value.slice Option.none 0 0)⟩ := by kernel_rfl
theorem tt122 : TT P 122 = some ⟨Go.TypeDesc.struct #[{ name := "x", type := 36, offset := 0, embedded := Bool.false, tag := "", pkgPath := "haulier/level", byteOffset := 0 }, { name := "of", type := 3, offset := 10, embedded := Bool.false, tag := "", pkgPath := "haulier/level", byteOffset := 96 }], 11, 104, (Go.Value.agg #[Go.Value.int Go.IntKind.i64 0, Go.Value.int Go.IntKind.i64 0, Go.Value.int Go.IntKind.i64 0, Go.Value.int Go.IntKind.i64 0, Go.Value.int Go.IntKind.i64 0, Go.Value.int Go.IntKind.u64 0, Go.Value.int Go.IntKind.u64 0, Go.Value.int Go.IntKind.u64 0, Go.Value.int Go.IntKind.i64 0, Go.Value.slice Option.none 0 0, Go.Value.int Go.IntKind.i64 0])⟩ := by kernel_rfl
theorem tt123 : TT P 123 = some ⟨Go.TypeDesc.struct #[{ name := "x", type := 36, offset := 0, embedded := Bool.false, tag := "", pkgPath := "haulier/level", byteOffset := 0 }, { name := "of", type := 3, offset := 10, embedded := Bool.false, tag := "", pkgPath := "haulier/level", byteOffset := 96 }], 11, 104, (Go.Value.agg #[Go.Value.int Go.IntKind.i64 0, Go.Value.int Go.IntKind.i64 0, Go.Value.int Go.IntKind.i64 0, Go.Value.int Go.IntKind.i64 0, Go.Value.int Go.IntKind.i64 0, Go.Value.int Go.IntKind.u64 0, Go.Value.int Go.IntKind.u64 0, Go.Value.int Go.IntKind.u64 0, Go.Value.int Go.IntKind.i64 0, Go.Value.slice Option.none 0 0, Go.Value.int Go.IntKind.i64 0])⟩ := by kernel_rfl
theorem tt124 : TT P 124 = some ⟨Go.TypeDesc.func #[121, 126] #[] Bool.false, 1, 8, Go.Value.nilFunc⟩ := by kernel_rfl
theorem tt125 : TT P 125 = some ⟨Go.TypeDesc.func #[3, 3] #[3] Bool.false, 1, 8, Go.Value.nilFunc⟩ := by kernel_rfl
theorem tt126 : TT P 126 = some ⟨Go.TypeDesc.func #[123, 123] #[3] Bool.false, 1, 8, Go.Value.nilFunc⟩ := by kernel_rfl
theorem tt127 : TT P 127 = some ⟨Go.TypeDesc.func #[24, 33] #[3] Bool.false, 1, 8, Go.Value.nilFunc⟩ := by kernel_rfl
theorem tt128 : TT P 128 = some ⟨Go.TypeDesc.struct #[{ name := "s", type := 33, offset := 0, embedded := Bool.false, tag := "", pkgPath := "haulier/relax", byteOffset := 0 }, { name := "many", type := 3, offset := 8, embedded := Bool.false, tag := "", pkgPath := "haulier/relax", byteOffset := 64 }, { name := "odd", type := 4, offset := 9, embedded := Bool.false, tag := "", pkgPath := "haulier/relax", byteOffset := 72 }], 10, 80, (Go.Value.agg #[Go.Value.int Go.IntKind.i64 0, Go.Value.int Go.IntKind.i64 0, Go.Value.int Go.IntKind.i64 0, Go.Value.int Go.IntKind.i64 0, Go.Value.int Go.IntKind.i64 0, Go.Value.int Go.IntKind.u64 0, Go.Value.int Go.IntKind.u64 0, Go.Value.int Go.IntKind.u64 0, Go.Value.int Go.IntKind.i64 0, Go.Value.bool Bool.false])⟩ := by kernel_rfl
theorem tt129 : TT P 129 = some ⟨Go.TypeDesc.struct #[{ name := "s", type := 33, offset := 0, embedded := Bool.false, tag := "", pkgPath := "haulier/relax", byteOffset := 0 }, { name := "many", type := 3, offset := 8, embedded := Bool.false, tag := "", pkgPath := "haulier/relax", byteOffset := 64 }, { name := "odd", type := 4, offset := 9, embedded := Bool.false, tag := "", pkgPath := "haulier/relax", byteOffset := 72 }], 10, 80, (Go.Value.agg #[Go.Value.int Go.IntKind.i64 0, Go.Value.int Go.IntKind.i64 0, Go.Value.int Go.IntKind.i64 0, Go.Value.int Go.IntKind.i64 0, Go.Value.int Go.IntKind.i64 0, Go.Value.int Go.IntKind.u64 0, Go.Value.int Go.IntKind.u64 0, Go.Value.int Go.IntKind.u64 0, Go.Value.int Go.IntKind.i64 0, Go.Value.bool Bool.false])⟩ := by kernel_rfl
theorem tt130 : TT P 130 = some ⟨Go.TypeDesc.func #[131, 92] #[] Bool.true, 1, 8, Go.Value.nilFunc⟩ := by kernel_rfl
theorem tt131 : TT P 131 = some ⟨Go.TypeDesc.func #[33] #[] Bool.false, 1, 8, Go.Value.nilFunc⟩ := by kernel_rfl
theorem tt132 : TT P 132 = some ⟨Go.TypeDesc.func #[34] #[3] Bool.false, 1, 8, Go.Value.nilFunc⟩ := by kernel_rfl
theorem tt133 : TT P 133 = some ⟨Go.TypeDesc.func #[31, 31] #[31] Bool.false, 1, 8, Go.Value.nilFunc⟩ := by kernel_rfl
theorem tt134 : TT P 134 = some ⟨Go.TypeDesc.func #[31] #[4] Bool.false, 1, 8, Go.Value.nilFunc⟩ := by kernel_rfl
theorem tt135 : TT P 135 = some ⟨Go.TypeDesc.func #[3] #[3] Bool.false, 1, 8, Go.Value.nilFunc⟩ := by kernel_rfl
theorem tt136 : TT P 136 = some ⟨Go.TypeDesc.func #[36] #[4] Bool.false, 1, 8, Go.Value.nilFunc⟩ := by kernel_rfl
theorem tt137 : TT P 137 = some ⟨Go.TypeDesc.map 33 3, 1, 8, (Go.Value.map Option.none)⟩ := by kernel_rfl
theorem tt138 : TT P 138 = some ⟨Go.TypeDesc.func #[3] #[33, 4] Bool.false, 1, 8, Go.Value.nilFunc⟩ := by kernel_rfl
theorem tt139 : TT P 139 = some ⟨Go.TypeDesc.func #[24] #[106] Bool.false, 1, 8, Go.Value.nilFunc⟩ := by kernel_rfl
theorem tt140 : TT P 140 = some ⟨Go.TypeDesc.func #[3] #[45] Bool.false, 1, 8, Go.Value.nilFunc⟩ := by kernel_rfl
theorem tt141 : TT P 141 = some ⟨Go.TypeDesc.func #[] #[45] Bool.false, 1, 8, Go.Value.nilFunc⟩ := by kernel_rfl
theorem tt142 : TT P 142 = some ⟨Go.TypeDesc.func #[] #[5] Bool.false, 1, 8, Go.Value.nilFunc⟩ := by kernel_rfl
theorem tt143 : TT P 143 = some ⟨Go.TypeDesc.func #[5] #[4] Bool.false, 1, 8, Go.Value.nilFunc⟩ := by kernel_rfl
theorem tt144 : TT P 144 = some ⟨Go.TypeDesc.func #[121, 3, 126] #[] Bool.false, 1, 8, Go.Value.nilFunc⟩ := by kernel_rfl
theorem tt145 : TT P 145 = some ⟨Go.TypeDesc.func #[24] #[34] Bool.false, 1, 8, Go.Value.nilFunc⟩ := by kernel_rfl
theorem tt146 : TT P 146 = some ⟨Go.TypeDesc.func #[161] #[] Bool.false, 1, 8, Go.Value.nilFunc⟩ := by kernel_rfl
theorem tt147 : TT P 147 = some ⟨Go.TypeDesc.func #[161] #[] Bool.false, 1, 8, Go.Value.nilFunc⟩ := by kernel_rfl
theorem tt148 : TT P 148 = some ⟨Go.TypeDesc.func #[34, 31] #[147] Bool.false, 1, 8, Go.Value.nilFunc⟩ := by kernel_rfl
theorem tt149 : TT P 149 = some ⟨Go.TypeDesc.pointer 129, 1, 8, (Go.Value.pointer Option.none)⟩ := by kernel_rfl
theorem tt150 : TT P 150 = some ⟨Go.TypeDesc.pointer 33, 1, 8, (Go.Value.pointer Option.none)⟩ := by kernel_rfl
theorem tt151 : TT P 151 = some ⟨Go.TypeDesc.func #[31, 3] #[4] Bool.false, 1, 8, Go.Value.nilFunc⟩ := by kernel_rfl
theorem tt152 : TT P 152 = some ⟨Go.TypeDesc.func #[31, 3] #[31] Bool.false, 1, 8, Go.Value.nilFunc⟩ := by kernel_rfl
theorem tt153 : TT P 153 = some ⟨Go.TypeDesc.func #[31] #[34] Bool.false, 1, 8, Go.Value.nilFunc⟩ := by kernel_rfl
theorem tt154 : TT P 154 = some ⟨Go.TypeDesc.func #[3] #[31] Bool.false, 1, 8, Go.Value.nilFunc⟩ := by kernel_rfl
theorem tt155 : TT P 155 = some ⟨Go.TypeDesc.func #[70, 70] #[3] Bool.false, 1, 8, Go.Value.nilFunc⟩ := by kernel_rfl
theorem tt156 : TT P 156 = some ⟨Go.TypeDesc.struct #[{ name := "Come", type := 3, offset := 0, embedded := Bool.false, tag := "", pkgPath := "", byteOffset := 0 }, { name := "Begin", type := 3, offset := 1, embedded := Bool.false, tag := "", pkgPath := "", byteOffset := 8 }, { name := "Leave", type := 3, offset := 2, embedded := Bool.false, tag := "", pkgPath := "", byteOffset := 16 }], 3, 24, (Go.Value.agg #[Go.Value.int Go.IntKind.i64 0, Go.Value.int Go.IntKind.i64 0, Go.Value.int Go.IntKind.i64 0])⟩ := by kernel_rfl
theorem tt157 : TT P 157 = some ⟨Go.TypeDesc.struct #[{ name := "Come", type := 3, offset := 0, embedded := Bool.false, tag := "", pkgPath := "", byteOffset := 0 }, { name := "Begin", type := 3, offset := 1, embedded := Bool.false, tag := "", pkgPath := "", byteOffset := 8 }, { name := "Leave", type := 3, offset := 2, embedded := Bool.false, tag := "", pkgPath := "", byteOffset := 16 }], 3, 24, (Go.Value.agg #[Go.Value.int Go.IntKind.i64 0, Go.Value.int Go.IntKind.i64 0, Go.Value.int Go.IntKind.i64 0])⟩ := by kernel_rfl
theorem tt158 : TT P 158 = some ⟨Go.TypeDesc.func #[121, 3, 3, 126] #[] Bool.false, 1, 8, Go.Value.nilFunc⟩ := by kernel_rfl
theorem tt159 : TT P 159 = some ⟨Go.TypeDesc.func #[121, 3, 3, 3, 126] #[] Bool.false, 1, 8, Go.Value.nilFunc⟩ := by kernel_rfl
theorem tt160 : TT P 160 = some ⟨Go.TypeDesc.func #[24] #[49] Bool.false, 1, 8, Go.Value.nilFunc⟩ := by kernel_rfl
theorem tt161 : TT P 161 = some ⟨Go.TypeDesc.func #[3, 3] #[4] Bool.false, 1, 8, Go.Value.nilFunc⟩ := by kernel_rfl
theorem tt162 : TT P 162 = some ⟨Go.TypeDesc.complex Go.FloatKind.f64, 1, 16, (Go.Value.complex Go.FloatKind.f64 0 0)⟩ := by kernel_rfl
theorem tt163 : TT P 163 = some ⟨Go.TypeDesc.func #[70] #[162] Bool.false, 1, 8, Go.Value.nilFunc⟩ := by kernel_rfl
theorem tt164 : TT P 164 = some ⟨Go.TypeDesc.float Go.FloatKind.f64, 1, 8, (Go.Value.float Go.FloatKind.f64 0)⟩ := by kernel_rfl
theorem tt165 : TT P 165 = some ⟨Go.TypeDesc.int Go.IntKind.u64, 1, 8, (Go.Value.int Go.IntKind.u64 0)⟩ := by kernel_rfl
theorem tt166 : TT P 166 = some ⟨Go.TypeDesc.func #[3] #[164] Bool.false, 1, 8, Go.Value.nilFunc⟩ := by kernel_rfl
theorem tt167 : TT P 167 = some ⟨Go.TypeDesc.func #[3, 3, 3] #[4] Bool.false, 1, 8, Go.Value.nilFunc⟩ := by kernel_rfl
theorem tt168 : TT P 168 = some ⟨Go.TypeDesc.func #[70] #[4] Bool.false, 1, 8, Go.Value.nilFunc⟩ := by kernel_rfl
theorem tt171 : TT P 171 = some ⟨Go.TypeDesc.array 0 16, 0, 0, (Go.Value.agg #[])⟩ := by kernel_rfl
theorem tt172 : TT P 172 = some ⟨Go.TypeDesc.struct #[{ name := "_", type := 171, offset := 0, embedded := Bool.false, tag := "", pkgPath := "runtime", byteOffset := 0 }], 0, 0, (Go.Value.agg #[])⟩ := by kernel_rfl
theorem tt173 : TT P 173 = some ⟨Go.TypeDesc.struct #[{ name := "_", type := 171, offset := 0, embedded := Bool.false, tag := "", pkgPath := "runtime", byteOffset := 0 }], 0, 0, (Go.Value.agg #[])⟩ := by kernel_rfl
theorem tt174 : TT P 174 = some ⟨Go.TypeDesc.func #[] #[3] Bool.false, 1, 8, Go.Value.nilFunc⟩ := by kernel_rfl
theorem tt175 : TT P 175 = some ⟨Go.TypeDesc.int Go.IntKind.u32, 1, 4, (Go.Value.int Go.IntKind.u32 0)⟩ := by kernel_rfl
theorem tt176 : TT P 176 = some ⟨Go.TypeDesc.int Go.IntKind.u8, 1, 1, (Go.Value.int Go.IntKind.u8 0)⟩ := by kernel_rfl
theorem tt177 : TT P 177 = some ⟨Go.TypeDesc.int Go.IntKind.u8, 1, 1, (Go.Value.int Go.IntKind.u8 0)⟩ := by kernel_rfl
theorem tt178 : TT P 178 = some ⟨Go.TypeDesc.func #[184, 184] #[4] Bool.false, 1, 8, Go.Value.nilFunc⟩ := by kernel_rfl
theorem tt179 : TT P 179 = some ⟨Go.TypeDesc.pointer 5, 1, 8, (Go.Value.pointer Option.none)⟩ := by kernel_rfl
theorem tt180 : TT P 180 = some ⟨Go.TypeDesc.int Go.IntKind.i32, 1, 4, (Go.Value.int Go.IntKind.i32 0)⟩ := by kernel_rfl
theorem tt181 : TT P 181 = some ⟨Go.TypeDesc.int Go.IntKind.i32, 1, 4, (Go.Value.int Go.IntKind.i32 0)⟩ := by kernel_rfl
theorem tt182 : TT P 182 = some ⟨Go.TypeDesc.struct #[{ name := "Size_", type := 12, offset := 0, embedded := Bool.false, tag := "", pkgPath := "", byteOffset := 0 }, { name := "PtrBytes", type := 12, offset := 1, embedded := Bool.false, tag := "", pkgPath := "", byteOffset := 8 }, { name := "Hash", type := 175, offset := 2, embedded := Bool.false, tag := "", pkgPath := "", byteOffset := 16 }, { name := "TFlag", type := 176, offset := 3, embedded := Bool.false, tag := "", pkgPath := "", byteOffset := 20 }, { name := "Align_", type := 5, offset := 4, embedded := Bool.false, tag := "", pkgPath := "", byteOffset := 21 }, { name := "FieldAlign_", type := 5, offset := 5, embedded := Bool.false, tag := "", pkgPath := "", byteOffset := 22 }, { name := "Kind_", type := 177, offset := 6, embedded := Bool.false, tag := "", pkgPath := "", byteOffset := 23 }, { name := "Equal", type := 178, offset := 7, embedded := Bool.false, tag := "", pkgPath := "", byteOffset := 24 }, { name := "GCData", type := 179, offset := 8, embedded := Bool.false, tag := "", pkgPath := "", byteOffset := 32 }, { name := "Str", type := 180, offset := 9, embedded := Bool.false, tag := "", pkgPath := "", byteOffset := 40 }, { name := "PtrToThis", type := 181, offset := 10, embedded := Bool.false, tag := "", pkgPath := "", byteOffset := 44 }], 11, 48, (Go.Value.agg #[Go.Value.int Go.IntKind.u64 0, Go.Value.int Go.IntKind.u64 0, Go.Value.int Go.IntKind.u32 0, Go.Value.int Go.IntKind.u8 0, Go.Value.int Go.IntKind.u8 0, Go.Value.int Go.IntKind.u8 0, Go.Value.int Go.IntKind.u8 0, Go.Value.nilFunc, Go.Value.pointer Option.none, Go.Value.int Go.IntKind.i32 0, Go.Value.int Go.IntKind.i32 0])⟩ := by kernel_rfl
theorem tt183 : TT P 183 = some ⟨Go.TypeDesc.struct #[{ name := "Size_", type := 12, offset := 0, embedded := Bool.false, tag := "", pkgPath := "", byteOffset := 0 }, { name := "PtrBytes", type := 12, offset := 1, embedded := Bool.false, tag := "", pkgPath := "", byteOffset := 8 }, { name := "Hash", type := 175, offset := 2, embedded := Bool.false, tag := "", pkgPath := "", byteOffset := 16 }, { name := "TFlag", type := 176, offset := 3, embedded := Bool.false, tag := "", pkgPath := "", byteOffset := 20 }, { name := "Align_", type := 5, offset := 4, embedded := Bool.false, tag := "", pkgPath := "", byteOffset := 21 }, { name := "FieldAlign_", type := 5, offset := 5, embedded := Bool.false, tag := "", pkgPath := "", byteOffset := 22 }, { name := "Kind_", type := 177, offset := 6, embedded := Bool.false, tag := "", pkgPath := "", byteOffset := 23 }, { name := "Equal", type := 178, offset := 7, embedded := Bool.false, tag := "", pkgPath := "", byteOffset := 24 }, { name := "GCData", type := 179, offset := 8, embedded := Bool.false, tag := "", pkgPath := "", byteOffset := 32 }, { name := "Str", type := 180, offset := 9, embedded := Bool.false, tag := "", pkgPath := "", byteOffset := 40 }, { name := "PtrToThis", type := 181, offset := 10, embedded := Bool.false, tag := "", pkgPath := "", byteOffset := 44 }], 11, 48, (Go.Value.agg #[Go.Value.int Go.IntKind.u64 0, Go.Value.int Go.IntKind.u64 0, Go.Value.int Go.IntKind.u32 0, Go.Value.int Go.IntKind.u8 0, Go.Value.int Go.IntKind.u8 0, Go.Value.int Go.IntKind.u8 0, Go.Value.int Go.IntKind.u8 0, Go.Value.nilFunc, Go.Value.pointer Option.none, Go.Value.int Go.IntKind.i32 0, Go.Value.int Go.IntKind.i32 0])⟩ := by kernel_rfl
theorem tt184 : TT P 184 = some ⟨Go.TypeDesc.unsafePointer, 1, 8, (Go.Value.pointer Option.none)⟩ := by kernel_rfl
attribute [go_sem] tt1 tt2 tt3 tt4 tt5 tt6 tt7 tt8 tt9 tt10 tt11 tt12 tt13 tt14 tt15 tt16 tt17 tt18 tt19 tt21 tt22 tt23 tt24 tt25 tt26 tt27 tt28 tt29 tt30 tt31 tt32 tt33 tt34 tt35 tt36 tt37 tt38 tt39 tt40 tt41 tt42 tt43 tt44 tt45 tt47 tt48 tt49 tt50 tt51 tt53 tt54 tt56 tt57 tt58 tt59 tt60 tt61 tt62 tt63 tt65 tt66 tt67 tt68 tt69 tt70 tt71 tt73 tt75 tt76 tt78 tt79 tt80 tt81 tt82 tt84 tt85 tt86 tt87 tt88 tt89 tt90 tt91 tt92 tt94 tt95 tt96 tt98 tt99 tt100 tt101 tt102 tt103 tt104 tt105 tt106 tt108 tt109 tt110 tt111 tt112 tt113 tt114 tt115 tt116 tt118 tt119 tt120 tt121 tt122 tt123 tt124 tt125 tt126 tt127 tt128 tt129 tt130 tt131 tt132 tt133 tt134 tt135 tt136 tt137 tt138 tt139 tt140 tt141 tt142 tt143 tt144 tt145 tt146 tt147 tt148 tt149 tt150 tt151 tt152 tt153 tt154 tt155 tt156 tt157 tt158 tt159 tt160 tt161 tt162 tt163 tt164 tt165 tt166 tt167 tt168 tt171 tt172 tt173 tt174 tt175 tt176 tt177 tt178 tt179 tt180 tt181 tt182 tt183 tt184
end Go.Proofs.Ytdjbapglfdacmaa
