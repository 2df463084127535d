/- Parts of the proof: Mat, Near, Bound, Bound2, StateR, StateR2, StateR3, Node, Bound3, Bound4, Pf, ArgPf, ArgP, PfC, PfW, Deep, PfL, PfH, PfP, Lists, SortP, SortW, Late, Ends, Seen, LowP, Law12, Law12b, Once2, OnceR, Expand, Expand2, Law14, FrontP, Sorted, KeepsP, ExactP, Narrow. -/
import Derived.Test.YtlhmchdfmjfmgaaME
set_option linter.unusedVariables false
/- How far it is from each to each. -/
set_option maxRecDepth 4000
namespace Go.Proofs.Ytlhmchdfmjfmgaa
open Go Go.Proofs.Ytlhmchdfmjfmgaa.R
def Inst.row (x : Inst) (a : Stop) : List Int := x.stops.map (far a)
def Inst.mat (x : Inst) : List (List Int) := if x.may then x.stops.map x.row else []
abbrev Inst.cs (x : Inst) : List AV := [.t (.i x.pairs), .t (.i x.cars), .t (.i x.room), .t (.sl (x.stops.map Stop.t))]
theorem ints_snoc (l : List Int) (n : Int) : ints l ++ [[.i n]] = ints (l ++ [n]) := by simp [ints]
def Inst.rows (x : Inst) : List (List T) := x.stops.map fun a => rowT (x.row a)
theorem Inst.rows_len (x : Inst) : x.rows.length = x.stops.length := List.length_map _
theorem Inst.row_len (x : Inst) (a : Stop) : (x.row a).length = x.stops.length := List.length_map _
theorem Inst.rows_snoc (x : Inst) {k : Nat} (h : k < x.stops.length) : x.rows.take (k + 1) = x.rows.take k ++ [rowT (x.row x.stops[k])] := by
  rw [List.take_succ_eq_append_getElem (by rw [x.rows_len]; exact h)]
  simp [Inst.rows]
theorem Inst.row_snoc (x : Inst) (a : Stop) {i : Nat} (h : i < x.stops.length) : (x.row a).take (i + 1) = (x.row a).take i ++ [far a x.stops[i]] := by
  rw [List.take_succ_eq_append_getElem (by rw [x.row_len]; exact h)]
  simp [Inst.row]
theorem Inst.mat_rows (x : Inst) : x.mat.map rowT = if x.may then x.rows else [] := by
  unfold Inst.mat
  split
  · simp [Inst.rows]
  · rfl
theorem matrix_pure (x : Inst) (hl : x.stops.length < 2 ^ 31) : Pure P 115 [x.a] (.t (.sl (x.mat.map rowT))) := by
  rw [x.mat_rows]
  refine pure_of Try.func115 rfl rfl (by simp [Try.f115]) (by simp [bnd, bnd.bndL, Inst.a]) (by split <;> simp [bnd]) fun B hB hnx => ?_
  simp only [Try.f115] at hB ⊢
  have hm : mostLen = 4294967296 := rfl
  refine K_run hB 60 ?_
  simp [go_sem, Inst.a]
  refine K_call rfl rfl rfl (args := [x.a]) (f := 28) (by simp [go_sem, Inst.a]) (by simp [go_sem, hB]) ((may_pure x (by omega)).spec _ _) ?_
  by_cases h0 : x.may = true
  rotate_left
  · have h0' : x.may = false := by simpa using h0
    rw [h0']
    refine K_run hB 60 ?_
    simp [go_sem, h0']
  rw [h0]
  refine K_run hB 60 ?_
  simp [go_sem]
  refine K_own 3 1 (by simp [go_sem]) ?_
  refine K_loopP (α := Nat × Nat × (Nat → AObj) × Nat) (fun (k, j, σ, nx) => k ≤ x.stops.length ∧ σ 0 = .box x.cs ∧ σ j = .arr 1 (x.rows.take k) ∧ 0 < j ∧ j < nx)
    (fun (k, j, σ, nx) => ⟨sl [(1, .ptr 0 0), (3, .ref j), (13, .t (.sl (x.stops.map Stop.t))), (14, .i x.stops.length), (15, .i k)], σ, nx⟩) (fun y => x.stops.length - y.1) (0, 1, _, 2)
    ?_ (Imp.slots (by simp [go_sem]) rfl rfl) ?_
  · exact ⟨Nat.zero_le _, by simp [oput], by simp [oput], by omega, by omega⟩
  rintro ⟨k, j, σ, nx⟩ ⟨g1, c0, cj, gj, gn⟩
  refine K_run hB 60 ?_
  simp [go_sem]
  refine fork_dec (fun h => ?_) (fun h => ?_)
  rotate_left
  · have : k = x.stops.length := by omega
    subst this
    rw [← x.rows_len, List.take_length] at cj
    simp [go_sem, cj, h0]
  have htk := x.rows_snoc h
  have hrl := x.rows_len
  have hkk : IntKind.i64.wrap ((k : Int) + 1) = ((k + 1 : Nat) : Int) := by rw [w64 ((k : Int) + 1) (by omega)]; rfl
  generalize ha : x.stops[k] = a at *
  have hn0 : ¬ 0 = nx := by omega
  simp [go_sem, h, ha, Stop.t, c0, hn0]
  refine K_own 6 1 (by simp [go_sem]) ?_
  refine K_loopP (α := Nat × Nat × (Nat → AObj) × Nat) (fun (i, q, σ', nx') => i ≤ x.stops.length ∧ σ' 0 = .box x.cs ∧ σ' j = .arr 1 (x.rows.take k) ∧ σ' nx = .box (a.t.map .t) ∧ σ' q = .arr 1 (ints ((x.row a).take i)) ∧ nx < q ∧ q < nx')
    (fun (i, q, σ', nx') => ⟨sl [(1, .ptr 0 0), (3, .ref j), (13, .t (.sl (x.stops.map Stop.t))), (14, .i x.stops.length), (15, .i k), (5, .ptr nx 0), (6, .ref q), (20, .t (.sl (x.stops.map Stop.t))), (21, .i x.stops.length), (22, .i i)], σ', nx'⟩) (fun y => x.stops.length - y.1) (0, nx + 1, _, nx + 2)
    ?_ (Imp.slots (by simp [go_sem]) rfl rfl) ?_
  · exact ⟨Nat.zero_le _, by simp [oput, c0, hn0], by simp [oput, cj, show j ≠ nx by omega, show j ≠ nx + 1 by omega], by simp [oput, Stop.t], by simp [oput, ints], by omega, by omega⟩
  rintro ⟨i, q, σ', nx'⟩ ⟨i1, d0, dj, da, dq, i2, i3⟩
  refine K_run hB 60 ?_
  simp [go_sem]
  refine fork_dec (fun hi => ?_) (fun hi => ?_)
  · have hti := x.row_snoc a hi
    have hrl2 := x.row_len a
    have hii : IntKind.i64.wrap ((i : Int) + 1) = ((i + 1 : Nat) : Int) := by rw [w64 ((i : Int) + 1) (by omega)]; rfl
    have hlen : (ints ((x.row a).take i)).length = i := by simp only [ints, List.length_map, List.length_take]; omega
    generalize hb : x.stops[i] = b at *
    generalize (x.row a).take i = L at dq hlen hti
    simp [go_sem, hi, hb, Stop.t, da, show ¬ nx = nx' by omega]
    refine K_call rfl rfl rfl (args := [.agg (a.t.map .t), .agg (b.t.map .t)]) (f := 141) (by simp [go_sem, Stop.t]) (by simp [go_sem, hB]) ((far_pure a b).spec _ _) ?_
    have hcap : i + 1 ≤ mostLen := by omega
    refine K_run hB 60 ?_
    simp [go_sem, dq, show ¬ q = nx' by omega, hlen, hcap, hii]
    refine Next.mk (i + 1, nx' + 1, _, nx' + 2) ?_ (Imp.slots (by simp [go_sem]) rfl rfl) (by simp only; omega)
    refine ⟨by simp only; omega, ?_, ?_, ?_, ?_, by simp only; omega, by simp only; omega⟩
    · simp [oput, d0, show ¬ 0 = nx' by omega, show ¬ 0 = q by omega]
    · simp [oput, dj, show ¬ j = nx' by omega, show ¬ j = q by omega, show ¬ j = nx' + 1 by omega]
    · simp [oput, da, show ¬ nx = nx' by omega, show ¬ nx = q by omega, show ¬ nx = nx' + 1 by omega, Stop.t]
    · simp [oput, hti, ints_snoc]
  · have : i = x.stops.length := by omega
    subst this
    rw [← x.row_len a, List.take_length] at dq
    simp [go_sem]
    refine K_imp (Imp.freeze (q := q) (sz := 1) (es := ints (x.row a)) (by simp [go_sem, dq])) ?_
    have hj0 : ¬ j = q := by omega
    have hlen : (x.rows.take k).length = k := by rw [List.length_take]; omega
    generalize x.rows.take k = R at dj hlen htk
    have hcap : k + 1 ≤ mostLen := by omega
    refine K_run hB 60 ?_
    simp [go_sem, frz1, frzO, hj0, dj, hkk, hlen, hcap]
    refine Next.mk (k + 1, nx', _, nx' + 1) ?_ (Imp.slots (by simp [go_sem, frz1]) rfl rfl) (by simp only; omega)
    refine ⟨by simp only; omega, ?_, ?_, by simp only; omega, by simp only; omega⟩
    · simp [oput, d0, frzO, frz1.frzL, frz1, show ¬ 0 = nx' by omega, show ¬ 0 = j by omega, show ¬ 0 = q by omega]
    · simp [oput, htk, rowT]
end Go.Proofs.Ytlhmchdfmjfmgaa

/- How far it is to each from the nearest other one. -/
set_option maxRecDepth 4000
namespace Go.Proofs.Ytlhmchdfmjfmgaa
open Go Go.Proofs.Ytlhmchdfmjfmgaa.R
def inf : Int := 1152921504606846976
theorem far_in (a b : Stop) : 0 ≤ far a b ∧ far a b < inf := by
  have h := sq_in a b
  unfold far rootI inf
  split
  · omega
  · have := rootL_lt (min (sq a b) 1152921504606846976).toNat 31 0
    simp only [Nat.reducePow, Nat.zero_add] at this
    omega
/-- The least of the others so far. -/
def nearF (k : Nat) (b : Stop) : Nat → List Stop → Int → Int
  | _, [], v => v
  | i, a :: l, v => nearF k b (i + 1) l (if i = k then v else min v (far a b))
def Inst.nearK (x : Inst) (k : Nat) (b : Stop) : Int := (nearF k b 0 x.stops inf).tmod inf
def nears (x : Inst) : Nat → List Stop → List Int
  | _, [] => []
  | k, b :: l => x.nearK k b :: nears x (k + 1) l
def Inst.near (x : Inst) : List Int := if x.may then nears x 0 x.stops else []
theorem nears_len (x : Inst) : ∀ k l, (nears x k l).length = l.length
  | _, [] => rfl
  | k, b :: l => by rw [nears, List.length_cons, nears_len x (k + 1) l, List.length_cons]
theorem nears_get (x : Inst) : ∀ (k : Nat) (l : List Stop) (i : Nat) (h : i < l.length), (nears x k l)[i]'(by rw [nears_len]; exact h) = x.nearK (k + i) l[i]
  | k, b :: l, 0, h => rfl
  | k, b :: l, i + 1, h => by
    have := nears_get x (k + 1) l i (by simpa using h)
    simp only [nears, List.getElem_cons_succ]
    rw [this, show k + 1 + i = k + (i + 1) by omega]
theorem nears_snoc (x : Inst) {k : Nat} (h : k < x.stops.length) : (nears x 0 x.stops).take (k + 1) = (nears x 0 x.stops).take k ++ [x.nearK k x.stops[k]] := by
  rw [List.take_succ_eq_append_getElem (by rw [nears_len]; exact h), nears_get x 0 x.stops k h, Nat.zero_add]
theorem nearF_drop {k : Nat} {b : Stop} {l : List Stop} {i : Nat} {v : Int} (h : i < l.length) : nearF k b i (l.drop i) v = nearF k b (i + 1) (l.drop (i + 1)) (if i = k then v else min v (far l[i] b)) := by rw [List.drop_eq_getElem_cons h]; rfl
theorem rows_get (x : Inst) {i : Nat} (h : i < x.rows.length) : x.rows[i] = rowT (x.row (x.stops[i]'(by rw [x.rows_len] at h; exact h))) := by simp [Inst.rows]
theorem row_get (x : Inst) (a : Stop) {i : Nat} (h : i < (x.row a).length) : (x.row a)[i] = far a (x.stops[i]'(by rw [x.row_len] at h; exact h)) := by simp [Inst.row]
theorem ints_get (l : List Int) {i : Nat} (h : i < (ints l).length) : (ints l)[i] = [.i (l[i]'(by simpa [ints] using h))] := by simp [ints]
theorem ints_len (l : List Int) : (ints l).length = l.length := List.length_map _
theorem near_pure (x : Inst) (hl : x.stops.length < 2 ^ 31) : Pure P 86 [x.a] (.t (.sl (ints x.near))) := by
  have hinf : inf = 1152921504606846976 := rfl
  refine pure_of Try.func86 rfl rfl (by simp [Try.f86]) (by simp [bnd, bnd.bndL, Inst.a]) (by simp [bnd]) fun B hB hnx => ?_
  simp only [Try.f86] at hB ⊢
  have hm : mostLen = 4294967296 := rfl
  refine K_run hB 60 ?_
  simp [go_sem, Inst.a]
  refine K_call rfl rfl rfl (args := [x.a]) (f := 115) (by simp [go_sem, Inst.a]) (by simp [go_sem, hB]) ((matrix_pure x hl).spec _ _) ?_
  rw [x.mat_rows]
  by_cases h0 : x.may = true
  rotate_left
  · have h0' : x.may = false := by simpa using h0
    simp only [h0', Bool.false_eq_true, if_false]
    refine K_run hB 60 ?_
    simp [go_sem]
    refine K_own 4 1 (by simp [go_sem]) ?_
    refine K_loopP (α := Unit) (fun _ => True) (fun _ => ⟨sl [(4, .ref 1), (11, .i 0), (12, .i 0)], ob [(1, .arr 1 [])], 2⟩) (fun _ => 0) () trivial (Sub.of (by omega) (by simp) (by simp [go_sem]) (by simp [go_sem])) ?_
    rintro ⟨⟩ _
    refine K_run hB 60 ?_
    simp [go_sem, Inst.near, h0', ints]
  simp only [h0, if_true]
  have hrl := x.rows_len
  refine K_run hB 60 ?_
  simp [go_sem, hrl]
  refine K_own 4 1 (by simp [go_sem]) ?_
  refine K_loopP (α := Nat × Nat × (Nat → AObj) × Nat) (fun (k, j, σ, nx) => k ≤ x.stops.length ∧ σ j = .arr 1 (ints ((nears x 0 x.stops).take k)) ∧ j < nx)
    (fun (k, j, σ, nx) => ⟨sl [(3, .t (.sl x.rows)), (4, .ref j), (11, .i x.stops.length), (12, .i k)], σ, nx⟩) (fun y => x.stops.length - y.1) (0, 1, _, 2)
    ?_ (Imp.slots (by simp [go_sem]) rfl rfl) ?_
  · exact ⟨Nat.zero_le _, by simp [oput, ints], by omega⟩
  rintro ⟨k, j, σ, nx⟩ ⟨g1, cj, gn⟩
  refine K_run hB 60 ?_
  simp [go_sem]
  refine fork_dec (fun h => ?_) (fun h => ?_)
  rotate_left
  · have : k = x.stops.length := by omega
    subst this
    rw [← nears_len x 0 x.stops, List.take_length] at cj
    simp [go_sem, cj, Inst.near, h0]
  have htk := nears_snoc x h
  have hlen : (ints ((nears x 0 x.stops).take k)).length = k := by rw [ints_len, List.length_take, nears_len]; omega
  have hkk : IntKind.i64.wrap ((k : Int) + 1) = ((k + 1 : Nat) : Int) := by rw [w64 ((k : Int) + 1) (by omega)]; rfl
  generalize (nears x 0 x.stops).take k = R at cj hlen htk
  generalize hb : x.stops[k] = b at *
  simp [go_sem, hrl]
  refine K_loopP (α := Nat × Int) (fun (i, v) => i ≤ x.stops.length ∧ (0 ≤ v ∧ v ≤ inf) ∧ (nearF k b i (x.stops.drop i) v).tmod inf = x.nearK k b)
    (fun (i, v) => ⟨sl [(3, .t (.sl x.rows)), (4, .ref j), (11, .i x.stops.length), (12, .i k), (5, .i k), (6, .i v), (16, .i x.stops.length), (17, .i i)], σ, nx⟩) (fun y => x.stops.length - y.1) (0, inf)
    ⟨Nat.zero_le _, by omega, rfl⟩ (Imp.slots (by simp [go_sem, hinf]) rfl rfl) ?_
  rintro ⟨i, v⟩ ⟨i1, i2, i3⟩
  refine K_run hB 60 ?_
  simp [go_sem]
  refine fork_dec (fun hi => ?_) (fun hi => ?_)
  · have hii : IntKind.i64.wrap ((i : Int) + 1) = ((i + 1 : Nat) : Int) := by rw [w64 ((i : Int) + 1) (by omega)]; rfl
    have hfa := far_in x.stops[i] b
    have hrow := x.row_len x.stops[i]
    rw [nearF_drop hi] at i3
    by_cases hik : i = k
    · rw [if_pos hik] at i3
      simp [go_sem, hik, w64 ((k : Int) + 1) (by omega)]
      exact Next.mk (k + 1, v) ⟨by simp only; omega, i2, by rw [hik] at i3; exact i3⟩ (Imp.slots (by simp [go_sem]) rfl rfl) (by simp only; omega)
    · rw [if_neg hik] at i3
      simp [go_sem, hik, hi, h, hrl, rows_get, rowT, ints_get, ints_len, hrow, row_get, hb, hii]
      exact Next.mk (i + 1, min v (far x.stops[i] b)) ⟨by simp only; omega, by omega, i3⟩ (Imp.slots (by simp [go_sem]) rfl rfl) (by simp only; omega)
  · have : i = x.stops.length := by omega
    subst this
    rw [List.drop_length] at i3
    have i4 : v.tmod inf = x.nearK k b := i3
    have hcap : k + 1 ≤ mostLen := by omega
    rw [hinf] at i4
    have hw : IntKind.i64.wrap (x.nearK k b) = x.nearK k b := by
      refine w64 _ ?_
      rw [← i4, Int.tmod_eq_emod_of_nonneg i2.1]
      omega
    simp [go_sem, i4, hw, cj, hlen, hcap, hkk]
    refine Next.mk (k + 1, nx, _, nx + 1) ?_ (Imp.slots (by simp [go_sem]) rfl rfl) (by simp only; omega)
    exact ⟨by simp only; omega, by simp [oput, htk, ints_snoc], by simp only; omega⟩
end Go.Proofs.Ytlhmchdfmjfmgaa

/- What it costs at least to go on: the program's, over its iterator; the document's. -/
set_option maxRecDepth 4000
namespace Go.Proofs.Ytlhmchdfmjfmgaa
open Go Go.Proofs.Ytlhmchdfmjfmgaa.R
/-- The sum of what lies near those that were not seen. -/
def leftSum (may : Nat) : Nat → List Int → Int → Int
  | _, [], n => n
  | j, d :: l, n => leftSum may (j + 1) l (if 0 < j ∧ hasB may j = false then IntKind.i64.wrap (n + d) else n)
theorem left_pure (near : List Int) (may : Nat) (σ : Nat → AObj) (nx : Nat) : CallQ P 87 [.t (.sl (ints near)), .u may] σ nx fun r σ' nx' => r = .fn (.func 116) [] [.ptr nx 0, .ptr (nx + 1) 0] ∧ nx' = nx + 2 ∧
    σ' = oput (oput σ nx (.box [.t (.sl (ints near))])) (nx + 1) (.box [.u may]) := by
  refine spec_of Try.func87 rfl rfl (by simp [Try.f87]) fun B hB hnx hσ => ?_
  simp only [Try.f87] at hB ⊢
  refine K_run hB 100 ?_
  simp [go_sem]
  omega
theorem left1_spec (near : List Int) (may : Nat) (hm : may < 2 ^ 64) (hl : near.length < 2 ^ 63) (q b1 b2 nx : Nat) (st : Int → Nat → AObj) (h1 : ∀ n, st n b1 = .box [.t (.sl (ints near))]) (h2 : ∀ n, st n b2 = .box [.u may])
    (hy : ∀ (j d n : Int), YieldQ P q [.i j, .i d] (st n) nx fun σ' nx' => σ' = st (IntKind.i64.wrap (n + d)) ∧ nx' = nx) (n0 : Int) :
    CallQ P 116 [.yld q, .ptr b1 0, .ptr b2 0] (st n0) nx fun r σ' nx' => σ' = st (leftSum may 0 near n0) ∧ nx' = nx := by
  refine spec_of Try.func116 rfl rfl (by simp [Try.f116]) fun B hB hnx hσ => ?_
  simp only [Try.f116] at hB ⊢
  have hil : (ints near).length = near.length := List.length_map _
  refine K_run hB 100 ?_
  simp [go_sem, h1, hil]
  refine K_loopP (α := Nat × Int) (fun (k, n) => k ≤ near.length ∧ leftSum may k (near.drop k) n = leftSum may 0 near n0) (fun (k, n) => ⟨sl [(0, .yld q), (1, .ptr b1 0), (2, .ptr b2 0), (6, .t (.sl (ints near))), (7, .i near.length), (8, .i k)], st n, nx⟩) (fun a => near.length - a.1) (0, n0) ⟨Nat.zero_le _, rfl⟩ (Imp.slots (by simp [go_sem]) rfl rfl) ?_
  rintro ⟨k, n⟩ ⟨g1, g2⟩
  refine K_run hB 60 ?_
  simp [go_sem]
  refine fork_dec (fun hk => ?_) (fun hk => ?_)
  · have hkk : IntKind.i64.wrap ((k : Int) + 1) = ((k + 1 : Nat) : Int) := by rw [w64 ((k : Int) + 1) (by omega)]; rfl
    rw [List.drop_eq_getElem_cons hk, leftSum] at g2
    have hget := ints_getS near hk
    generalize near[k] = d at *
    by_cases c1 : 0 < k
    · simp [go_sem, hil, hk, hget, c1, h2]
      refine K_call rfl rfl rfl (args := [.u may, .i k]) (f := 117) (by simp [go_sem]) (by simp [go_sem, hB]) ((has_pure may k hm).spec _ _) ?_
      cases c2 : hasB may k with
      | true =>
        rw [if_neg (by simp [c2])] at g2
        refine K_run hB 100 ?_
        simp [go_sem, hkk]
        exact Next.mk (k + 1, n) ⟨by simp only; omega, g2⟩ (Imp.slots (by simp [go_sem]) rfl rfl) (by simp only; omega)
      | false =>
        rw [if_pos ⟨c1, c2⟩] at g2
        refine K_run hB 100 ?_
        simp [go_sem]
        refine K_yield rfl rfl rfl (q := q) (args := [.i k, .i d]) (by simp [go_sem]) (by simp [go_sem]) (by simp [go_sem, hB]) (hy k d n) ?_
        rintro σ' nx' ⟨rfl, rfl⟩
        refine K_run hB 100 ?_
        simp [go_sem, hkk]
        exact Next.mk (k + 1, IntKind.i64.wrap (n + d)) ⟨by simp only; omega, g2⟩ (Imp.slots (by simp [go_sem]) rfl rfl) (by simp only; omega)
    · rw [if_neg (by simp [c1])] at g2
      simp [go_sem, hil, hk, hget, c1, h2, hkk]
      exact Next.mk (k + 1, n) ⟨by simp only; omega, g2⟩ (Imp.slots (by simp [go_sem]) rfl rfl) (by simp only; omega)
  · have : k = near.length := by omega
    subst this
    rw [List.drop_length, leftSum] at g2
    simp [go_sem, g2, hnx]
end Go.Proofs.Ytlhmchdfmjfmgaa

/- The bounds of states, and of nodes. -/
set_option maxRecDepth 4000
namespace Go.Proofs.Ytlhmchdfmjfmgaa
open Go Go.Proofs.Ytlhmchdfmjfmgaa.R
def atLeast (near : List Int) (may : Nat) : Int := match near with
  | a :: b :: l => leftSum may 0 (a :: b :: l) a
  | _ => 0
def Inst.low (x : Inst) (s : State) : Int := atLeast x.near s.can
theorem near_len (x : Inst) : x.near.length ≤ x.stops.length := by
  unfold Inst.near
  split
  · rw [nears_len]; exact Nat.le_refl _
  · exact Nat.zero_le _
theorem at_pure (x : Inst) (s : State) (hl : x.stops.length < 2 ^ 31) (ho : s.ok) : Pure P 51 [x.a, s.a] (.i (x.low s)) := by
  generalize hR : x.low s = R
  refine pure_ofR Try.func51 rfl rfl (by simp [Try.f51]) (by simp [bnd, bnd.bndL, Inst.a, State.a, State.cs]) (by simp [bnd, bnd.bndL]) fun B hB hnx hro => ?_
  simp only [Try.f51] at hB ⊢
  rw [Inst.low] at hR
  have hnl := near_len x
  have hne := near_pure x hl
  generalize x.near = near at *
  refine K_run hB 100 ?_
  simp [go_sem, Inst.a, State.a, State.cs]
  refine K_call rfl rfl rfl (args := [x.a]) (f := 86) (by simp [go_sem, Inst.a]) (by simp [go_sem, hB]) ((hne).spec _ _) ?_
  match near, hR, hnl with
  | [], hR, _ =>
    simp only [atLeast] at hR
    subst hR
    refine K_run hB 100 ?_
    simp [go_sem, ints]
  | [_], hR, _ =>
    simp only [atLeast] at hR
    subst hR
    refine K_run hB 100 ?_
    simp [go_sem, ints]
  | d0 :: d1 :: l, hR, hnl =>
    simp only [atLeast] at hR
    have hil : (ints (d0 :: d1 :: l)).length = l.length + 2 := by simp [ints]
    have hgt : ¬ (l.length : Int) + 2 < 2 := by omega
    have hgt' : ¬ ((l.length + 2 : Nat) : Int) < 2 := by omega
    have hget : ∀ h : 0 < (ints (d0 :: d1 :: l)).length, (ints (d0 :: d1 :: l))[0]'h = [.i d0] := fun h => by simp [ints]
    have hll : l.length + 2 < 2 ^ 63 := by simp only [List.length_cons] at hnl; omega
    have hle := left_pure (d0 :: d1 :: l) s.can
    have hl1 := left1_spec (d0 :: d1 :: l) s.can ho.can (by simpa using hll) 5 3 4 6
    have hpos : (0 : Int) < l.length + 2 := by omega
    generalize hX : ints (d0 :: d1 :: l) = X at *
    generalize hN : leftSum s.can 0 (d0 :: d1 :: l) = N at *
    refine K_run hB 100 ?_
    simp [go_sem, hil, hgt, hgt', hget, hpos]
    refine K_callQ rfl rfl rfl (args := [.t (.sl X), .u s.can]) (f := 87) (by simp [go_sem]) (by simp [go_sem, hB]) (hle _ _) ?_
    rintro r σ' nx' ⟨rfl, rfl, rfl⟩
    refine K_run hB 100 ?_
    simp [go_sem]
    refine K_less (Sub.of (l := [(6, .ptr 2 0), (20, .fn (.func 116) [] [.ptr 3 0, .ptr 4 0])]) (o := [(2, .box [.i d0]), (3, .box [.t (.sl X)]), (4, .box [.u s.can])]) (n := 5) (by omega) (by simp) (by simp [go_sem]) (by simp [go_sem])) ?_
    refine K_range hro (f := 116) (args := [.yld 5, .ptr 3 0, .ptr 4 0]) (by simp [go_sem]) fun L hL => ?_
    obtain ⟨st, hst⟩ : ∃ st : Int → Nat → AObj, st = fun n => oput (oput (ob [(3, .box [.t (.sl X)]), (4, .box [.u s.can])]) 5 L) 2 (.box [.i n]) := ⟨_, rfl⟩
    have e' : oput (ob [(2, .box [.i d0]), (3, .box [.t (.sl X)]), (4, .box [.u s.can])]) 5 L = st d0 := funext fun i => by
      by_cases e2 : i = 2
      · subst e2; simp [hst, oput, ob]
      · simp [hst, oput, ob, e2]
    have s2 : ∀ n, st n 2 = .box [.i n] := fun n => by simp [hst, oput]
    have s5 : ∀ n, st n 5 = L := fun n => by simp [hst, oput]
    have su : ∀ n m L', oput (oput (oput (st n) 5 L') 2 (.box [.i m])) 5 L = st m := fun n m L' => funext fun i => by
      by_cases e2 : i = 2
      · subst e2; simp [hst, oput]
      · by_cases e5 : i = 5
        · subst e5; simp [hst, oput]
        · simp [hst, oput, e2, e5]
    have hsp := hl1 st (fun n => by simp [hst, oput, ob]) (fun n => by simp [hst, oput, ob]) (fun j d n => by
      refine yield_of ((s5 n).trans hL) rfl (by rw [hB]; rfl) fun B' hB' hnx' _ => ?_
      replace hB' := hB'.trans hB
      refine K_run hB' 60 ?_
      simp [go_sem, roundM, putL, (s5 n).trans hL]
      refine K_run hB' 60 ?_
      simp [go_sem, roundM, putL, hB, oput, s2, ← hL]
      rw [hB] at hL
      subst hL
      exact su _ _ _) d0
    refine ⟨_, by rw [e']; exact hsp, ?_⟩
    rintro r σ' nx' ⟨rfl, rfl⟩
    refine ⟨s5 _, ?_⟩
    refine K_run hB 100 ?_
    simp [go_sem, oput, s2, hR]
end Go.Proofs.Ytlhmchdfmjfmgaa

/- The document's states. -/
set_option maxRecDepth 4000
namespace Go.Proofs.Ytlhmchdfmjfmgaa
open Go Go.Proofs.Ytlhmchdfmjfmgaa.R
def Inst.rvisit (x : Inst) (s : State) (j b : Int) : State :=
  { spot := j, car := s.car, time := b + (x.stop j).service, load := max (s.load + (x.stop j).demand) 0, first := if s.spot = 0 then j else s.first, must := withN s.must j, can := withN s.can j, on := if j ≤ x.pairs then withN s.on j else withoutN s.on (j - x.pairs) }
end Go.Proofs.Ytlhmchdfmjfmgaa

/- The document's moves. -/
set_option maxRecDepth 4000
namespace Go.Proofs.Ytlhmchdfmjfmgaa
open Go Go.Proofs.Ytlhmchdfmjfmgaa.R
theorem to_visit {x : Inst} {s : State} {j : Int} (h0 : j ≠ 0) (hl : x.lateB s j = false) (hf : j ≤ x.pairs → x.fullB s j = false) (he : x.pairs < j → x.emptyB s j = false) : x.to s j = (x.rvisit s j (x.begins s j), true) := by
  unfold Inst.to
  rw [if_neg h0]
  by_cases c : j ≤ x.pairs
  · rw [if_pos c]
    simp [Inst.take, hf c, Inst.visit, hl, Inst.seen, Inst.rvisit, c]
  · rw [if_neg c]
    simp [Inst.bring, he (by omega), Inst.visit, hl, Inst.seen, Inst.rvisit, c]
theorem to_not {x : Inst} {s : State} {j : Int} (h0 : j ≠ 0) (h : x.lateB s j = true ∨ (j ≤ x.pairs ∧ x.fullB s j = true) ∨ (x.pairs < j ∧ x.emptyB s j = true)) : (x.to s j).2 = false := by
  unfold Inst.to
  rw [if_neg h0]
  rcases h with h | ⟨h1, h2⟩ | ⟨h1, h2⟩
  · split
    · unfold Inst.take Inst.visit
      split
      · rfl
      · simp [h]
    · unfold Inst.bring Inst.visit
      split
      · rfl
      · simp [h]
  · rw [if_pos h1]
    simp [Inst.take, h2]
  · rw [if_neg (by omega)]
    simp [Inst.bring, h2]
end Go.Proofs.Ytlhmchdfmjfmgaa

/- All of the document's moves, the end, what follows; whether two rows are the same. -/
set_option maxRecDepth 4000
namespace Go.Proofs.Ytlhmchdfmjfmgaa
open Go Go.Proofs.Ytlhmchdfmjfmgaa.R
theorem canB_no : ∀ k, canB (fun _ => false) k = []
  | 0 => rfl
  | k + 1 => by rw [canB, canB_no k]; rfl
theorem moves_can (x : Inst) (s : State) : x.moves s = canB (fun k => (x.move s k).2.2) x.stops.length := by
  unfold Inst.moves
  split
  · rename_i h
    congr 1
    funext k
    rw [Inst.move, if_pos h]
  · rename_i h
    have : (fun k : Nat => (x.move s (k : Int)).2.2) = fun _ => false := by
      funext k
      rw [Inst.move, if_neg h]
    rw [this, canB_no]
end Go.Proofs.Ytlhmchdfmjfmgaa

/- Nodes. -/
set_option maxRecDepth 4000
namespace Go.Proofs.Ytlhmchdfmjfmgaa
open Go Go.Proofs.Ytlhmchdfmjfmgaa.R
structure Node where
  s : State
  cost : Int
  path : List Int
  deriving DecidableEq
def Node.cs (n : Node) : List AV := [.i n.s.spot, .i n.s.car, .i n.s.time, .i n.s.load, .i n.s.first, .u n.s.must, .u n.s.can, .u n.s.on, .i n.cost, .t (.sl (ints n.path))]
def Node.a (n : Node) : AV := .agg n.cs
/-- As an element of a row. -/
def Node.t (n : Node) : List T := [.i n.s.spot, .i n.s.car, .i n.s.time, .i n.s.load, .i n.s.first, .v (.int .u64 n.s.must), .v (.int .u64 n.s.can), .v (.int .u64 n.s.on), .i n.cost, .sl (ints n.path)]
end Go.Proofs.Ytlhmchdfmjfmgaa

/- Bounds: of nodes; the document's; what covers what; the laws BoundTells, BoundCovers. -/
set_option maxRecDepth 4000
namespace Go.Proofs.Ytlhmchdfmjfmgaa
open Go Go.Proofs.Ytlhmchdfmjfmgaa.R
def Inst.of (x : Inst) (n : Node) : Int := sumI [n.cost, x.low n.s]
end Go.Proofs.Ytlhmchdfmjfmgaa

/- What covers what; the laws BoundTells, BoundCovers. -/
set_option maxRecDepth 4000
namespace Go.Proofs.Ytlhmchdfmjfmgaa
open Go Go.Proofs.Ytlhmchdfmjfmgaa.R
/-! ### Plain: no sum outgrows a number -/
theorem far_le (a b : Stop) : 0 ≤ far a b ∧ far a b ≤ 14143 := by
  obtain ⟨h1, h2⟩ := sq_in a b
  refine ⟨(far_in a b).1, ?_⟩
  unfold far rootI
  split
  · omega
  · rename_i hp
    have e : (min (sq a b) 1152921504606846976).toNat = (sq a b).toNat := by omega
    rw [e]
    obtain ⟨g1, _⟩ := rootL_spec (sq a b).toNat 31 0 (by omega) (by simp; omega)
    generalize rootL (sq a b).toNat 31 0 = r at *
    have : r ≤ 14142 := by
      rcases Nat.lt_or_ge 14142 r with h | h
      · have := Nat.mul_le_mul (show 14143 ≤ r from h) (show 14143 ≤ r from h)
        omega
      · exact h
    omega
theorem nearF_le (k : Nat) (b : Stop) : ∀ (i : Nat) (l : List Stop) (v : Int), (0 ≤ v ∧ v ≤ 14143) ∨ v = inf → (0 ≤ nearF k b i l v ∧ nearF k b i l v ≤ 14143) ∨ nearF k b i l v = inf
  | _, [], v, h => h
  | i, a :: l, v, h => by
    rw [nearF]
    refine nearF_le k b (i + 1) l _ ?_
    have := far_le a b
    have hinf : inf = 1152921504606846976 := rfl
    split
    · exact h
    · omega
theorem nearK_le (x : Inst) (k : Nat) (b : Stop) : 0 ≤ x.nearK k b ∧ x.nearK k b ≤ 14143 := by
  unfold Inst.nearK
  have hinf : inf = 1152921504606846976 := rfl
  rcases nearF_le k b 0 x.stops inf (.inr rfl) with h | h
  · rw [Int.tmod_eq_of_lt h.1 (by omega)]; exact h
  · rw [h, hinf]; decide
theorem nears_le (x : Inst) : ∀ (k : Nat) (l : List Stop), ∀ d ∈ nears x k l, 0 ≤ d ∧ d ≤ 14143
  | _, [], d, h => by cases h
  | k, b :: l, d, h => by
    rw [nears] at h
    rcases List.mem_cons.1 h with e | e
    · rw [e]; exact nearK_le x k b
    · exact nears_le x (k + 1) l d e
theorem near_le (x : Inst) : ∀ d ∈ x.near, 0 ≤ d ∧ d ≤ 14143 := by
  unfold Inst.near
  split
  · exact nears_le x 0 x.stops
  · intro d h; cases h
def lefts (may : Nat) : Nat → List Int → Int
  | _, [] => 0
  | j, d :: l => (if 0 < j ∧ hasB may j = false then d else 0) + lefts may (j + 1) l
theorem lefts_in (may : Nat) : ∀ (j : Nat) (l : List Int), (∀ d ∈ l, 0 ≤ d ∧ d ≤ 14143) → 0 ≤ lefts may j l ∧ lefts may j l ≤ 14143 * l.length
  | _, [], _ => by simp [lefts]
  | j, d :: l, h => by
    have h1 := h d List.mem_cons_self
    have h2 := lefts_in may (j + 1) l fun e he => h e (List.mem_cons_of_mem _ he)
    rw [lefts, List.length_cons]
    split <;> omega
theorem leftSum_eq (may : Nat) : ∀ (j : Nat) (l : List Int) (n : Int), (∀ d ∈ l, 0 ≤ d ∧ d ≤ 14143) → 0 ≤ n → n + 14143 * l.length < 9223372036854775808 → leftSum may j l n = n + lefts may j l
  | _, [], n, _, _, _ => by simp [leftSum, lefts]
  | j, d :: l, n, h, h0, hn => by
    have h1 := h d List.mem_cons_self
    rw [List.length_cons] at hn
    rw [leftSum, lefts]
    split
    · rw [w64 (n + d) (by omega), leftSum_eq may (j + 1) l (n + d) (fun e he => h e (List.mem_cons_of_mem _ he)) (by omega) (by omega)]
      omega
    · rw [leftSum_eq may (j + 1) l n (fun e he => h e (List.mem_cons_of_mem _ he)) h0 (by omega)]
      omega
theorem lefts_mono {a b : Nat} (hab : ∀ j : Nat, hasB b j = true → hasB a j = true) : ∀ (j : Nat) (l : List Int), (∀ d ∈ l, 0 ≤ d ∧ d ≤ 14143) → lefts a j l ≤ lefts b j l
  | _, [], _ => Int.le_refl _
  | j, d :: l, h => by
    have h1 := h d List.mem_cons_self
    have h2 := lefts_mono hab (j + 1) l fun e he => h e (List.mem_cons_of_mem _ he)
    rw [lefts, lefts]
    by_cases c : 0 < j ∧ hasB b j = false
    · rw [if_pos c]
      split <;> omega
    · rw [if_neg c]
      have : ¬ (0 < j ∧ hasB a j = false) := fun ⟨e1, e2⟩ => by
        cases hb : hasB b j with
        | true => rw [hab j hb] at e2; cases e2
        | false => exact c ⟨e1, hb⟩
      rw [if_neg this]
      omega
/-- What it costs at least, as a sum. -/
def lowP (near : List Int) (may : Nat) : Int := match near with
  | a :: b :: l => a + lefts may 0 (a :: b :: l)
  | _ => 0
theorem low_eq (x : Inst) (s : State) (hl : x.stops.length < 2 ^ 31) : x.low s = lowP x.near s.can := by
  unfold Inst.low
  have h1 := near_le x
  have h2 := near_len x
  generalize x.near = near at *
  match near with
  | [] => rfl
  | [_] => rfl
  | a :: b :: l =>
    simp only [atLeast, lowP]
    have ha := h1 a List.mem_cons_self
    refine leftSum_eq _ _ _ _ h1 ha.1 ?_
    simp only [List.length_cons] at h2 ⊢
    omega
theorem lowP_mono {near : List Int} {a b : Nat} (hn : ∀ d ∈ near, 0 ≤ d ∧ d ≤ 14143) (hab : ∀ j : Nat, hasB b j = true → hasB a j = true) : lowP near a ≤ lowP near b := by
  match near with
  | [] => exact Int.le_refl _
  | [_] => exact Int.le_refl _
  | x :: y :: l =>
    simp only [lowP]
    have := lefts_mono hab 0 (x :: y :: l) hn
    omega
theorem within_has {a b : Nat} (h : withinB b a = true) (j : Int) : hasB b j = true → hasB a j = true := by
  unfold hasB
  simp only [Bool.and_eq_true, decide_eq_true_eq]
  rintro ⟨h1, h2⟩
  refine ⟨h1, ?_⟩
  have := List.all_eq_true.1 h j.toNat (List.mem_range.2 (by omega))
  rw [h2] at this
  simpa using this
/-! ### The walks -/
def coversB (a b : State) : Bool :=
  decide (a.spot = b.spot) && withinB a.must b.must && withinB a.on b.on && withinB b.can a.can && decide (a.car ≤ b.car) && decide (a.time ≤ b.time) && decide (a.load ≤ b.load) && decide (a.first ≤ b.first)
theorem covers_pure (a b : State) : Pure P 109 [a.a, b.a] (.b (coversB a b)) := by
  generalize hR : coversB a b = R
  refine pure_of Try.func109 rfl rfl (by simp [Try.f109]) (by simp [bnd, bnd.bndL, State.a, State.cs]) (by simp [bnd, bnd.bndL]) fun B hB hnx => ?_
  simp only [Try.f109] at hB ⊢
  rw [coversB] at hR
  have hw1 := within_pure a.must b.must
  have hw2 := within_pure a.on b.on
  have hw3 := within_pure b.can a.can
  by_cases c1 : a.spot = b.spot
  rotate_left
  · refine K_run hB 100 ?_
    simp [go_sem, State.a, State.cs, c1]
    simp [← hR, c1]
  refine K_run hB 100 ?_
  simp [go_sem, State.a, State.cs, c1]
  refine K_call rfl rfl rfl (args := [.u a.must, .u b.must]) (f := 139) (by simp [go_sem]) (by simp [go_sem, hB]) ((hw1).spec _ _) ?_
  cases c2 : withinB a.must b.must with
  | false =>
    refine K_run hB 100 ?_
    simp [go_sem]
    simp [← hR, c2]
  | true =>
    refine K_run hB 100 ?_
    simp [go_sem]
    refine K_call rfl rfl rfl (args := [.u a.on, .u b.on]) (f := 139) (by simp [go_sem]) (by simp [go_sem, hB]) ((hw2).spec _ _) ?_
    cases c3 : withinB a.on b.on with
    | false =>
      refine K_run hB 100 ?_
      simp [go_sem]
      simp [← hR, c3]
    | true =>
      refine K_run hB 100 ?_
      simp [go_sem]
      refine K_call rfl rfl rfl (args := [.u b.can, .u a.can]) (f := 139) (by simp [go_sem]) (by simp [go_sem, hB]) ((hw3).spec _ _) ?_
      cases c4 : withinB b.can a.can with
      | false =>
        refine K_run hB 100 ?_
        simp [go_sem]
        simp [← hR, c4]
      | true =>
        rw [c2, c3, c4] at hR
        simp only [c1, decide_true, Bool.and_true, Bool.true_and] at hR
        refine K_run hB 100 ?_
        simp [go_sem]
        refine atVal_decT (fun h1 => ?_) (fun h1 => by simp [go_sem, h1, ← hR])
        simp [go_sem, h1]
        refine atVal_decT (fun h2 => ?_) (fun h2 => by simp [go_sem, h2, ← hR])
        simp [go_sem, h2]
        refine atVal_decT (fun h3 => ?_) (fun h3 => by simp [go_sem, h3, ← hR])
        simp [go_sem, h3]
        simp [← hR, h1, h2, h3]
end Go.Proofs.Ytlhmchdfmjfmgaa

/- Proofs: spots, parts; may one be looked at? -/
set_option maxRecDepth 4000
namespace Go.Proofs.Ytlhmchdfmjfmgaa
open Go Go.Proofs.Ytlhmchdfmjfmgaa.R
structure Spot where
  s : State
  cost : Int
  part : Int
def Spot.t (n : Spot) : List T := [.i n.s.spot, .i n.s.car, .i n.s.time, .i n.s.load, .i n.s.first, .v (.int .u64 n.s.must), .v (.int .u64 n.s.can), .v (.int .u64 n.s.on), .i n.cost, .i n.part]
def Spot.cs (n : Spot) : List AV := [.i n.s.spot, .i n.s.car, .i n.s.time, .i n.s.load, .i n.s.first, .u n.s.must, .u n.s.can, .u n.s.on, .i n.cost, .i n.part]
def Spot.a (n : Spot) : AV := .agg n.cs
def layT (l : List Spot) : List T := [.sl (l.map Spot.t)]
def partT (p : List (List Spot)) : List T := [.sl (p.map layT)]
structure Prf where
  least : Int
  parts : List (List (List Spot))
def Prf.cs (p : Prf) : List AV := [.i p.least, .t (.sl (p.parts.map partT))]
def Prf.a (p : Prf) : AV := .agg p.cs
/-- What a checker holds. -/
def ckC (x : Inst) (p : Prf) (D : AV) : List AV := [.t (.i x.pairs), .t (.i x.cars), .t (.i x.room), .t (.sl (x.stops.map Stop.t)), .i p.least, .t (.sl (p.parts.map partT)), D]
def Inst.spotB (x : Inst) (p : Prf) (n : Spot) : Bool :=
  n.s.mayB x && decide (n.cost ≥ 0) && decide (n.cost ≤ 1152921504606846976) && decide (n.part ≥ 0) && decide (n.part ≤ p.parts.length)
theorem ckmay_spec (x : Inst) (p : Prf) (n : Spot) (D : AV) (hx : 0 ≤ x.pairs ∧ x.pairs ≤ 16) {σ : Nat → AObj} {nx c : Nat} (hc : c < nx) (hσ : σ c = .box (ckC x p D)) :
    CallSpec P 69 [.ptr c 0, n.a] σ nx (.b (x.spotB p n)) σ nx := by
  generalize hR : x.spotB p n = R
  refine spec_keep Try.func69 rfl rfl (by simp [Try.f69]) (by simp [bnd]) fun hk B hB hnx hσB => ?_
  simp only [Try.f69] at hB ⊢
  have hc1 : ¬ c = nx := by omega
  have hc2 : ¬ c = nx + 1 := by omega
  have w1 := w64 (2 * x.pairs) (by omega)
  have hpl : (p.parts.map partT).length = p.parts.length := List.length_map _
  rw [Inst.spotB, State.mayB] at hR
  refine K_run hB 100 ?_
  simp [go_sem, Spot.a, Spot.cs]
  refine K_drawn [] rfl (by rw [hB]; kernel_rfl) ?_
  have fin : ∀ (a b : AObj) (i : Nat), i < nx → oput (oput σ nx a) (nx + 1) b i = σ i := fun a b i h => by simp [oput, show ¬ i = nx by omega, show ¬ i = nx + 1 by omega]
  by_cases c1 : 0 ≤ n.s.spot
  rotate_left
  · simp [c1] at hR
    subst hR
    refine K_run hB 100 ?_
    simp [go_sem, c1, hσ, hc1, hc2, ckC, w1, hpl]
    refine K_drawn [] rfl (by rw [hB]; kernel_rfl) ?_
    refine K_run hB 100 ?_
    simp [go_sem]
    exact ⟨by omega, fun i h => by simp [oput, show ¬ i = nx by omega, show ¬ i = nx + 1 by omega]⟩
  by_cases c2 : n.s.spot ≤ 2 * x.pairs
  rotate_left
  · simp [c1, c2] at hR
    subst hR
    refine K_run hB 100 ?_
    simp [go_sem, c1, c2, hσ, hc1, hc2, ckC, w1, hpl]
    refine K_drawn [] rfl (by rw [hB]; kernel_rfl) ?_
    refine K_run hB 100 ?_
    simp [go_sem]
    exact ⟨by omega, fun i h => by simp [oput, show ¬ i = nx by omega, show ¬ i = nx + 1 by omega]⟩
  by_cases c3 : 1 ≤ n.s.car
  rotate_left
  · simp [c1, c2, c3] at hR
    subst hR
    refine K_run hB 100 ?_
    simp [go_sem, c1, c2, c3, hσ, hc1, hc2, ckC, w1, hpl]
    refine K_drawn [] rfl (by rw [hB]; kernel_rfl) ?_
    refine K_run hB 100 ?_
    simp [go_sem]
    exact ⟨by omega, fun i h => by simp [oput, show ¬ i = nx by omega, show ¬ i = nx + 1 by omega]⟩
  by_cases c4 : n.s.car ≤ x.cars
  rotate_left
  · simp [c1, c2, c3, c4] at hR
    subst hR
    refine K_run hB 100 ?_
    simp [go_sem, c1, c2, c3, c4, hσ, hc1, hc2, ckC, w1, hpl]
    refine K_drawn [] rfl (by rw [hB]; kernel_rfl) ?_
    refine K_run hB 100 ?_
    simp [go_sem]
    exact ⟨by omega, fun i h => by simp [oput, show ¬ i = nx by omega, show ¬ i = nx + 1 by omega]⟩
  refine K_run hB 100 ?_
  simp [go_sem, c1, c2, c3, c4, hσ, hc1, hc2, ckC, w1, hpl]
  refine K_drawn [] rfl (by rw [hB]; kernel_rfl) ?_
  by_cases c5 : 0 ≤ n.s.time
  rotate_left
  · simp [c1, c2, c3, c4, c5] at hR
    subst hR
    refine K_run hB 100 ?_
    simp [go_sem, c1, c2, c3, c4, c5, hσ, hc1, hc2, ckC, w1, hpl]
    exact ⟨by omega, fun i h => by simp [oput, show ¬ i = nx by omega, show ¬ i = nx + 1 by omega]⟩
  by_cases c6 : n.s.time ≤ 1073741824
  rotate_left
  · simp [c1, c2, c3, c4, c5, c6] at hR
    subst hR
    refine K_run hB 100 ?_
    simp [go_sem, c1, c2, c3, c4, c5, c6, hσ, hc1, hc2, ckC, w1, hpl]
    exact ⟨by omega, fun i h => by simp [oput, show ¬ i = nx by omega, show ¬ i = nx + 1 by omega]⟩
  by_cases c7 : 0 ≤ n.s.load
  rotate_left
  · simp [c1, c2, c3, c4, c5, c6, c7] at hR
    subst hR
    refine K_run hB 100 ?_
    simp [go_sem, c1, c2, c3, c4, c5, c6, c7, hσ, hc1, hc2, ckC, w1, hpl]
    exact ⟨by omega, fun i h => by simp [oput, show ¬ i = nx by omega, show ¬ i = nx + 1 by omega]⟩
  by_cases c8 : n.s.load ≤ 1000
  rotate_left
  · simp [c1, c2, c3, c4, c5, c6, c7, c8] at hR
    subst hR
    refine K_run hB 100 ?_
    simp [go_sem, c1, c2, c3, c4, c5, c6, c7, c8, hσ, hc1, hc2, ckC, w1, hpl]
    exact ⟨by omega, fun i h => by simp [oput, show ¬ i = nx by omega, show ¬ i = nx + 1 by omega]⟩
  by_cases c9 : 0 ≤ n.cost
  rotate_left
  · simp [c1, c2, c3, c4, c5, c6, c7, c8, c9] at hR
    subst hR
    refine K_run hB 100 ?_
    simp [go_sem, c1, c2, c3, c4, c5, c6, c7, c8, c9, hσ, hc1, hc2, ckC, w1, hpl]
    exact ⟨by omega, fun i h => by simp [oput, show ¬ i = nx by omega, show ¬ i = nx + 1 by omega]⟩
  by_cases c10 : n.cost ≤ 1152921504606846976
  rotate_left
  · simp [c1, c2, c3, c4, c5, c6, c7, c8, c9, c10] at hR
    subst hR
    refine K_run hB 100 ?_
    simp [go_sem, c1, c2, c3, c4, c5, c6, c7, c8, c9, c10, hσ, hc1, hc2, ckC, w1, hpl]
    exact ⟨by omega, fun i h => by simp [oput, show ¬ i = nx by omega, show ¬ i = nx + 1 by omega]⟩
  by_cases c11 : 0 ≤ n.part
  rotate_left
  · simp [c1, c2, c3, c4, c5, c6, c7, c8, c9, c10, c11] at hR
    subst hR
    refine K_run hB 100 ?_
    simp [go_sem, c1, c2, c3, c4, c5, c6, c7, c8, c9, c10, c11, hσ, hc1, hc2, ckC, w1, hpl]
    exact ⟨by omega, fun i h => by simp [oput, show ¬ i = nx by omega, show ¬ i = nx + 1 by omega]⟩
  by_cases c12 : n.part ≤ p.parts.length
  rotate_left
  · simp [c1, c2, c3, c4, c5, c6, c7, c8, c9, c10, c11, c12] at hR
    subst hR
    refine K_run hB 100 ?_
    simp [go_sem, c1, c2, c3, c4, c5, c6, c7, c8, c9, c10, c11, c12, hσ, hc1, hc2, ckC, w1, hpl]
    exact ⟨by omega, fun i h => by simp [oput, show ¬ i = nx by omega, show ¬ i = nx + 1 by omega]⟩
  simp [c1, c2, c3, c4, c5, c6, c7, c8, c9, c10, c11, c12] at hR
  subst hR
  refine K_run hB 100 ?_
  simp [go_sem, c1, c2, c3, c4, c5, c6, c7, c8, c9, c10, c11, c12, hσ, hc1, hc2, ckC, w1, hpl]
  exact ⟨by omega, fun i h => by simp [oput, show ¬ i = nx by omega, show ¬ i = nx + 1 by omega]⟩
end Go.Proofs.Ytlhmchdfmjfmgaa

/- Proofs as arguments. -/
set_option maxRecDepth 100000
namespace Go.Proofs.Ytlhmchdfmjfmgaa
open Go Go.ChangeShapes Go.WideShapes Go.ChangeAt Go.RowKit Go.Proofs.Ytlhmchdfmjfmgaa.R
def LayIn (l : List Spot) : Prop := l.length ≤ maxLen ∧ ∀ n ∈ l, n.s.ok
def PartIn (q : List (List Spot)) : Prop := q.length ≤ maxLen ∧ ∀ l ∈ q, LayIn l
structure Prf.In (p : Prf) : Prop where
  len : p.parts.length ≤ maxLen
  parts : ∀ q ∈ p.parts, PartIn q
theorem has_spot {f : Nat} {ts : List T} (h : HasT P f 41 ts) : ∃ n : Spot, ts = n.t ∧ n.s.ok := by
  obtain ⟨f', h⟩ := has_struct (tt_some tt41).1 h
  simp only [HasF] at h
  obtain ⟨a, _, rfl, _, ha, b, _, rfl, _, hb, c, _, rfl, _, hc, rfl⟩ := h
  obtain ⟨s, rfl, hs⟩ := has_state ha
  obtain ⟨n, rfl⟩ := has_i hb
  obtain ⟨m, rfl⟩ := has_i hc
  exact ⟨⟨s, n, m⟩, rfl, hs⟩
theorem has_layer {f : Nat} {ts : List T} (h : HasT P f 36 ts) : ∃ l : List Spot, ts = layT l ∧ LayIn l := by
  obtain ⟨l, rfl, h1, h2⟩ := has_slice (g := Spot.t) (Q := fun n => n.s.ok) (tt_some tt36).1 (fun f x h => has_spot h) h
  exact ⟨l, rfl, h1, h2⟩
theorem has_part {f : Nat} {ts : List T} (h : HasT P f 35 ts) : ∃ q : List (List Spot), ts = partT q ∧ PartIn q := by
  obtain ⟨f', h⟩ := has_struct (tt_some tt35).1 h
  simp only [HasF] at h
  obtain ⟨a, _, rfl, _, ha, rfl⟩ := h
  obtain ⟨l, rfl, h1, h2⟩ := has_slice (g := layT) (Q := LayIn) (tt_some tt33).1 (fun f x h => has_layer h) ha
  exact ⟨l, rfl, h1, h2⟩
theorem has_proof {f : Nat} {ts : List T} (h : HasT P f 27 ts) : ∃ p : Prf, ts = [.i p.least, .sl (p.parts.map partT)] ∧ p.In := by
  obtain ⟨f', h⟩ := has_struct (tt_some tt27).1 h
  simp only [HasF] at h
  obtain ⟨a, _, rfl, _, ha, b, _, rfl, _, hb, rfl⟩ := h
  obtain ⟨n, rfl⟩ := has_i ha
  obtain ⟨l, rfl, h1, h2⟩ := has_slice (g := partT) (Q := PartIn) (tt_some tt25).1 (fun f x h => has_part h) hb
  exact ⟨⟨n, l⟩, rfl, ⟨h1, h2⟩⟩
section
variable {H : Type} {enc : TypeId × Value → H} {W : World} {base : Nat} {sp : Nat → Bool} {held : Bool} {v : Value} {d : DataW H} {ps : List MemPlace}
theorem arg_proof (h : DataW.Trod enc P W 0 sp held 27 v d ps) (hv : Value.okWide P W .any base 27 v) : ∃ p : Prf, p.In ∧ RepA W (C0 W) p.a v := by
  obtain ⟨f, ts, h1, h2⟩ := arg_struct (tt_some tt27).1 (by kernel_rfl) h hv
  obtain ⟨p, rfl, hp⟩ := has_proof h1
  exact ⟨p, hp, h2⟩
end
end Go.Proofs.Ytlhmchdfmjfmgaa

/- Plans as arguments. -/
set_option maxRecDepth 100000
namespace Go.Proofs.Ytlhmchdfmjfmgaa
open Go Go.ChangeShapes Go.WideShapes Go.ChangeAt Go.RowKit Go.Proofs.Ytlhmchdfmjfmgaa.R
theorem has_routes {f : Nat} {ts : List T} (h : HasT P f 59 ts) : ∃ l : List (List Int), ts = [.sl (l.map rowT)] ∧ l.length ≤ maxLen ∧ ∀ r ∈ l, r.length ≤ maxLen :=
  has_slice (g := rowT) (Q := fun r => r.length ≤ maxLen) (tt_some tt59).1 (fun f x h => by
    obtain ⟨l, rfl, hl⟩ := has_ints h
    exact ⟨l, rfl, hl⟩) h
theorem has_plan {f : Nat} {ts : List T} (h : HasT P f 61 ts) : ∃ l : List (List Int), ts = [.sl (l.map rowT)] ∧ l.length ≤ maxLen ∧ ∀ r ∈ l, r.length ≤ maxLen := by
  obtain ⟨f', h⟩ := has_struct (tt_some tt61).1 h
  simp only [HasF] at h
  obtain ⟨a, _, rfl, _, ha, rfl⟩ := h
  obtain ⟨l, rfl, h1, h2⟩ := has_routes ha
  exact ⟨l, rfl, h1, h2⟩
section
variable {H : Type} {enc : TypeId × Value → H} {W : World} {base : Nat} {sp : Nat → Bool} {held : Bool} {v : Value} {d : DataW H} {ps : List MemPlace}
theorem arg_plan (h : DataW.Trod enc P W 0 sp held 61 v d ps) (hv : Value.okWide P W .any base 61 v) : ∃ l : List (List Int), l.length ≤ maxLen ∧ (∀ r ∈ l, r.length ≤ maxLen) ∧ RepA W (C0 W) (.agg [.t (.sl (l.map rowT))]) v := by
  obtain ⟨f, ts, h1, h2⟩ := arg_struct (tt_some tt61).1 (by kernel_rfl) h hv
  obtain ⟨l, rfl, hl, hr⟩ := has_plan h1
  exact ⟨l, hl, hr, h2⟩
end
end Go.Proofs.Ytlhmchdfmjfmgaa

/- slices.ContainsFunc at rows of spots, of layers, of parts. -/
set_option maxRecDepth 4000
namespace Go.Proofs.Ytlhmchdfmjfmgaa
open Go Go.Proofs.Ytlhmchdfmjfmgaa.R
def idxG {α : Type} (p : α → Bool) : Nat → List α → Int
  | _, [] => -1
  | i, n :: l => if p n = true then (i : Int) else idxG p (i + 1) l
theorem idxG_any {α : Type} (p : α → Bool) : ∀ (i : Nat) (l : List α), (0 ≤ idxG p i l) ↔ l.any p = true
  | _, [] => by simp [idxG]
  | i, n :: l => by
    rw [idxG, List.any_cons]
    cases h : p n with
    | true => simp
    | false => simp [idxG_any p (i + 1) l]
theorem map_get {α β : Type} (g : α → β) (l : List α) {k : Nat} (h : k < l.length) (h' : k < (l.map g).length) : (l.map g)[k]'h' = g l[k] := List.getElem_map g
theorem indexSpot_spec (l : List (Spot)) (p : Spot → Bool) {σ : Nat → AObj} {nx : Nat} {f : FuncId} {caps : List AV} (hl : l.length < 2 ^ 31) (hf : ∀ n ∈ l, CallSpec P f (n.a :: caps) σ nx (.b (p n)) σ nx) :
    CallSpec P 102 [.t (.sl (l.map Spot.t)), .fn (.func f) [] caps] σ nx (.i (idxG p 0 l)) σ nx := by
  generalize hR : idxG p 0 l = R
  refine CallQ.spec (spec_of Try.func102 rfl rfl (by simp [Try.f102]) fun B hB hnx hσ => ?_)
  simp only [Try.f102] at hB ⊢
  have hil : (l.map Spot.t).length = l.length := List.length_map _
  have hgt : ∀ (k : Nat) (h : k < l.length), (l.map Spot.t)[k]'(by rw [hil]; exact h) = Spot.t l[k] := fun k h => map_get Spot.t l h _
  generalize hX : l.map Spot.t = X at *
  refine K_run hB 100 ?_
  simp [go_sem, hil]
  refine K_loopP (α := Nat) (fun k => k ≤ l.length ∧ idxG p k (l.drop k) = R) (fun k => ⟨sl [(1, .fn (.func f) [] caps), (0, .t (.sl X)), (7, .i l.length), (8, .i k)], σ, nx⟩) (fun k => l.length - k) 0 ⟨Nat.zero_le _, hR⟩ (Imp.slots (by simp [go_sem]) rfl rfl) ?_
  rintro k ⟨g1, g2⟩
  refine K_run hB 60 ?_
  simp [go_sem]
  refine fork_dec (fun hk => ?_) (fun hk => ?_)
  · have hkk : IntKind.i64.wrap ((k : Int) + 1) = ((k + 1 : Nat) : Int) := by rw [w64 ((k : Int) + 1) (by omega)]; rfl
    have hget : ∀ h : k < X.length, X[k]'h = Spot.t l[k] := fun h => hgt k hk
    have hp := hf l[k] (List.getElem_mem _)
    rw [List.drop_eq_getElem_cons hk, idxG] at g2
    generalize l[k] = n at *
    simp [go_sem, hil, hk, hget, Spot.t, Spot.a, Spot.cs]
    refine K_call rfl rfl rfl (args := n.a :: caps) (f := f) (by simp [go_sem, Spot.t, Spot.a, Spot.cs]) (by simp [go_sem, hB]) hp ?_
    cases h : p n with
    | true =>
      rw [h, if_pos rfl] at g2
      subst g2
      refine K_run hB 100 ?_
      simp [go_sem]
    | false =>
      rw [h, if_neg (by simp)] at g2
      refine K_run hB 100 ?_
      simp [go_sem, hkk]
      exact Next.mk (k + 1) ⟨by omega, g2⟩ (Imp.slots (by simp [go_sem]) rfl rfl) (by omega)
  · have : k = l.length := by omega
    subst this
    rw [List.drop_length, idxG] at g2
    subst g2
    simp [go_sem]
theorem containsSpot_spec (l : List (Spot)) (p : Spot → Bool) {σ : Nat → AObj} {nx : Nat} {f : FuncId} {caps : List AV} (hl : l.length < 2 ^ 31) (hf : ∀ n ∈ l, CallSpec P f (n.a :: caps) σ nx (.b (p n)) σ nx) :
    CallSpec P 72 [.t (.sl (l.map Spot.t)), .fn (.func f) [] caps] σ nx (.b (l.any p)) σ nx := by
  have hi := indexSpot_spec l p hl hf
  have ha := idxG_any p 0 l
  refine CallQ.spec (spec_of Try.func72 rfl rfl (by simp [Try.f72]) fun B hB hnx hσ => ?_)
  simp only [Try.f72] at hB ⊢
  generalize idxG p 0 l = i at *
  refine K_run hB 100 ?_
  simp [go_sem]
  refine K_call rfl rfl rfl (args := [.t (.sl (l.map Spot.t)), .fn (.func f) [] caps]) (f := 102) (by simp [go_sem]) (by simp [go_sem, hB]) hi ?_
  refine K_run hB 100 ?_
  simp [go_sem]
  rw [Bool.eq_iff_iff, decide_eq_true_eq]
  exact ha
theorem indexLay_spec (l : List (List Spot)) (p : List Spot → Bool) {σ : Nat → AObj} {nx : Nat} {f : FuncId} {caps : List AV} (hl : l.length < 2 ^ 31) (hf : ∀ n ∈ l, CallSpec P f (.t (.sl (n.map Spot.t)) :: caps) σ nx (.b (p n)) σ nx) :
    CallSpec P 101 [.t (.sl (l.map layT)), .fn (.func f) [] caps] σ nx (.i (idxG p 0 l)) σ nx := by
  generalize hR : idxG p 0 l = R
  refine CallQ.spec (spec_of Try.func101 rfl rfl (by simp [Try.f101]) fun B hB hnx hσ => ?_)
  simp only [Try.f101] at hB ⊢
  have hil : (l.map layT).length = l.length := List.length_map _
  have hgt : ∀ (k : Nat) (h : k < l.length), (l.map layT)[k]'(by rw [hil]; exact h) = layT l[k] := fun k h => map_get layT l h _
  generalize hX : l.map layT = X at *
  refine K_run hB 100 ?_
  simp [go_sem, hil]
  refine K_loopP (α := Nat) (fun k => k ≤ l.length ∧ idxG p k (l.drop k) = R) (fun k => ⟨sl [(1, .fn (.func f) [] caps), (0, .t (.sl X)), (7, .i l.length), (8, .i k)], σ, nx⟩) (fun k => l.length - k) 0 ⟨Nat.zero_le _, hR⟩ (Imp.slots (by simp [go_sem]) rfl rfl) ?_
  rintro k ⟨g1, g2⟩
  refine K_run hB 60 ?_
  simp [go_sem]
  refine fork_dec (fun hk => ?_) (fun hk => ?_)
  · have hkk : IntKind.i64.wrap ((k : Int) + 1) = ((k + 1 : Nat) : Int) := by rw [w64 ((k : Int) + 1) (by omega)]; rfl
    have hget : ∀ h : k < X.length, X[k]'h = layT l[k] := fun h => hgt k hk
    have hp := hf l[k] (List.getElem_mem _)
    rw [List.drop_eq_getElem_cons hk, idxG] at g2
    generalize l[k] = n at *
    simp [go_sem, hil, hk, hget, layT]
    refine K_call rfl rfl rfl (args := .t (.sl (n.map Spot.t)) :: caps) (f := f) (by simp [go_sem, layT]) (by simp [go_sem, hB]) hp ?_
    cases h : p n with
    | true =>
      rw [h, if_pos rfl] at g2
      subst g2
      refine K_run hB 100 ?_
      simp [go_sem]
    | false =>
      rw [h, if_neg (by simp)] at g2
      refine K_run hB 100 ?_
      simp [go_sem, hkk]
      exact Next.mk (k + 1) ⟨by omega, g2⟩ (Imp.slots (by simp [go_sem]) rfl rfl) (by omega)
  · have : k = l.length := by omega
    subst this
    rw [List.drop_length, idxG] at g2
    subst g2
    simp [go_sem]
theorem containsLay_spec (l : List (List Spot)) (p : List Spot → Bool) {σ : Nat → AObj} {nx : Nat} {f : FuncId} {caps : List AV} (hl : l.length < 2 ^ 31) (hf : ∀ n ∈ l, CallSpec P f (.t (.sl (n.map Spot.t)) :: caps) σ nx (.b (p n)) σ nx) :
    CallSpec P 70 [.t (.sl (l.map layT)), .fn (.func f) [] caps] σ nx (.b (l.any p)) σ nx := by
  have hi := indexLay_spec l p hl hf
  have ha := idxG_any p 0 l
  refine CallQ.spec (spec_of Try.func70 rfl rfl (by simp [Try.f70]) fun B hB hnx hσ => ?_)
  simp only [Try.f70] at hB ⊢
  generalize idxG p 0 l = i at *
  refine K_run hB 100 ?_
  simp [go_sem]
  refine K_call rfl rfl rfl (args := [.t (.sl (l.map layT)), .fn (.func f) [] caps]) (f := 101) (by simp [go_sem]) (by simp [go_sem, hB]) hi ?_
  refine K_run hB 100 ?_
  simp [go_sem]
  rw [Bool.eq_iff_iff, decide_eq_true_eq]
  exact ha
theorem indexPart_spec (l : List (List (List Spot))) (p : List (List Spot) → Bool) {σ : Nat → AObj} {nx : Nat} {f : FuncId} {caps : List AV} (hl : l.length < 2 ^ 31) (hf : ∀ n ∈ l, CallSpec P f (.agg [.t (.sl (n.map layT))] :: caps) σ nx (.b (p n)) σ nx) :
    CallSpec P 73 [.t (.sl (l.map partT)), .fn (.func f) [] caps] σ nx (.i (idxG p 0 l)) σ nx := by
  generalize hR : idxG p 0 l = R
  refine CallQ.spec (spec_of Try.func73 rfl rfl (by simp [Try.f73]) fun B hB hnx hσ => ?_)
  simp only [Try.f73] at hB ⊢
  have hil : (l.map partT).length = l.length := List.length_map _
  have hgt : ∀ (k : Nat) (h : k < l.length), (l.map partT)[k]'(by rw [hil]; exact h) = partT l[k] := fun k h => map_get partT l h _
  generalize hX : l.map partT = X at *
  refine K_run hB 100 ?_
  simp [go_sem, hil]
  refine K_loopP (α := Nat) (fun k => k ≤ l.length ∧ idxG p k (l.drop k) = R) (fun k => ⟨sl [(1, .fn (.func f) [] caps), (0, .t (.sl X)), (7, .i l.length), (8, .i k)], σ, nx⟩) (fun k => l.length - k) 0 ⟨Nat.zero_le _, hR⟩ (Imp.slots (by simp [go_sem]) rfl rfl) ?_
  rintro k ⟨g1, g2⟩
  refine K_run hB 60 ?_
  simp [go_sem]
  refine fork_dec (fun hk => ?_) (fun hk => ?_)
  · have hkk : IntKind.i64.wrap ((k : Int) + 1) = ((k + 1 : Nat) : Int) := by rw [w64 ((k : Int) + 1) (by omega)]; rfl
    have hget : ∀ h : k < X.length, X[k]'h = partT l[k] := fun h => hgt k hk
    have hp := hf l[k] (List.getElem_mem _)
    rw [List.drop_eq_getElem_cons hk, idxG] at g2
    generalize l[k] = n at *
    simp [go_sem, hil, hk, hget, partT]
    refine K_call rfl rfl rfl (args := .agg [.t (.sl (n.map layT))] :: caps) (f := f) (by simp [go_sem, partT]) (by simp [go_sem, hB]) hp ?_
    cases h : p n with
    | true =>
      rw [h, if_pos rfl] at g2
      subst g2
      refine K_run hB 100 ?_
      simp [go_sem]
    | false =>
      rw [h, if_neg (by simp)] at g2
      refine K_run hB 100 ?_
      simp [go_sem, hkk]
      exact Next.mk (k + 1) ⟨by omega, g2⟩ (Imp.slots (by simp [go_sem]) rfl rfl) (by omega)
  · have : k = l.length := by omega
    subst this
    rw [List.drop_length, idxG] at g2
    subst g2
    simp [go_sem]
theorem containsPart_spec (l : List (List (List Spot))) (p : List (List Spot) → Bool) {σ : Nat → AObj} {nx : Nat} {f : FuncId} {caps : List AV} (hl : l.length < 2 ^ 31) (hf : ∀ n ∈ l, CallSpec P f (.agg [.t (.sl (n.map layT))] :: caps) σ nx (.b (p n)) σ nx) :
    CallSpec P 41 [.t (.sl (l.map partT)), .fn (.func f) [] caps] σ nx (.b (l.any p)) σ nx := by
  have hi := indexPart_spec l p hl hf
  have ha := idxG_any p 0 l
  refine CallQ.spec (spec_of Try.func41 rfl rfl (by simp [Try.f41]) fun B hB hnx hσ => ?_)
  simp only [Try.f41] at hB ⊢
  generalize idxG p 0 l = i at *
  refine K_run hB 100 ?_
  simp [go_sem]
  refine K_call rfl rfl rfl (args := [.t (.sl (l.map partT)), .fn (.func f) [] caps]) (f := 73) (by simp [go_sem]) (by simp [go_sem, hB]) hi ?_
  refine K_run hB 100 ?_
  simp [go_sem]
  rw [Bool.eq_iff_iff, decide_eq_true_eq]
  exact ha
end Go.Proofs.Ytlhmchdfmjfmgaa

/- May a proof be looked at: the parts, wholly. -/
set_option maxRecDepth 4000
namespace Go.Proofs.Ytlhmchdfmjfmgaa
open Go Go.Proofs.Ytlhmchdfmjfmgaa.R
def Inst.wholeB (x : Inst) (p : Prf) (q : List (List Spot)) : Bool := match q with
  | [] => false
  | l :: _ => decide (l.length = 1) && !(q.any fun l => l.any fun n => !x.spotB p n)
theorem whole1_spec (x : Inst) (p : Prf) (n : Spot) (D : AV) (hx : 0 ≤ x.pairs ∧ x.pairs ≤ 16) {σ : Nat → AObj} {nx c b : Nat} (hc : c < nx) (hσ : σ c = .box (ckC x p D)) (hb : b < nx) (hσb : σ b = .box [.ptr c 0]) :
    CallSpec P 68 [n.a, .ptr b 0] σ nx (.b (!x.spotB p n)) σ nx := by
  refine spec_keep Try.func68 rfl rfl (by simp [Try.f68]) (by simp [bnd]) fun hk B hB hnx hσB => ?_
  simp only [Try.f68] at hB ⊢
  have hc1 : ¬ c = nx := by omega
  have hb1 : ¬ b = nx := by omega
  have hm := fun σ' (h : σ' c = .box (ckC x p D)) => ckmay_spec x p n D hx (σ := σ') (nx := nx + 1) (by omega) h
  generalize x.spotB p n = r at *
  refine K_run hB 100 ?_
  simp [go_sem, Spot.a, Spot.cs, hσb, hb1]
  refine K_call rfl rfl rfl (args := [.ptr c 0, n.a]) (f := 69) (by simp [go_sem, Spot.a, Spot.cs]) (by simp [go_sem, hB]) (hm _ (by simp [oput, hc1, hσ])) ?_
  refine K_run hB 100 ?_
  simp [go_sem]
  exact fun i h1 h2 => absurd h2 (by omega)
theorem whole2_spec (x : Inst) (p : Prf) (l : List Spot) (D : AV) (hx : 0 ≤ x.pairs ∧ x.pairs ≤ 16) (hl : l.length < 2 ^ 31) {σ : Nat → AObj} {nx c b d : Nat} (hc : c < nx) (hσ : σ c = .box (ckC x p D)) (hb : b < nx) (hσb : σ b = .box [.ptr c 0]) (hd : d < nx) (hσd : σ d = .box [.fn (.func 68) [] [.ptr b 0]]) :
    CallSpec P 71 [.t (.sl (l.map Spot.t)), .ptr d 0] σ nx (.b (l.any fun n => !x.spotB p n)) σ nx := by
  refine spec_keep Try.func71 rfl rfl (by simp [Try.f71]) (by simp [bnd]) fun hk B hB hnx hσB => ?_
  simp only [Try.f71] at hB ⊢
  have hm := containsSpot_spec l (fun n => !x.spotB p n) (σ := σ) (nx := nx) (f := 68) (caps := [.ptr b 0]) hl fun n _ => whole1_spec x p n D hx hc hσ hb hσb
  generalize (l.any fun n => !x.spotB p n) = r at *
  refine K_run hB 100 ?_
  simp [go_sem, hσd]
  refine K_call rfl rfl rfl (args := [.t (.sl (l.map Spot.t)), .fn (.func 68) [] [.ptr b 0]]) (f := 72) (by simp [go_sem]) (by simp [go_sem, hB]) hm ?_
  refine K_run hB 100 ?_
  simp [go_sem]
theorem whole_spec (x : Inst) (p : Prf) (q : List (List Spot)) (D : AV) (hx : 0 ≤ x.pairs ∧ x.pairs ≤ 16) (hl : q.length < 2 ^ 31) (hl2 : ∀ l ∈ q, l.length < 2 ^ 31) {σ : Nat → AObj} {nx c : Nat} (hc : c < nx) (hσ : σ c = .box (ckC x p D)) :
    CallSpec P 40 [.ptr c 0, .agg [.t (.sl (q.map layT))]] σ nx (.b (x.wholeB p q)) σ nx := by
  refine spec_keep Try.func40 rfl rfl (by simp [Try.f40]) (by simp [bnd]) fun hk B hB hnx hσB => ?_
  simp only [Try.f40] at hB ⊢
  generalize hR : x.wholeB p q = R
  have hc1 : ¬ c = nx := by omega
  have hc2 : ¬ c = nx + 1 := by omega
  have hc3 : ¬ c = nx + 2 := by omega
  have hil : (q.map layT).length = q.length := List.length_map _
  have fin : ∀ (a b d : AObj) (i : Nat), i < nx → oput (oput (oput σ nx a) (nx + 1) b) (nx + 2) d i = σ i := fun a b d i h => by simp [oput, show ¬ i = nx by omega, show ¬ i = nx + 1 by omega, show ¬ i = nx + 2 by omega]
  cases q with
  | nil =>
    rw [Inst.wholeB] at hR
    subst hR
    refine K_run hB 100 ?_
    simp [go_sem]
    exact ⟨by omega, fun i h => by simp [oput, show ¬ i = nx by omega, show ¬ i = nx + 1 by omega]⟩
  | cons l0 q0 =>
    have hl0 : (l0.map Spot.t).length = l0.length := List.length_map _
    have hq0 : ¬ (q0.length : Int) + 1 = 0 := by omega
    have c1' : ¬ l0.length = 1 → ¬ (l0.length : Int) = 1 := fun h => by omega
    simp only [Inst.wholeB] at hR
    by_cases c1 : l0.length = 1
    · rw [decide_eq_true c1, Bool.true_and] at hR
      have hm := fun σ' (h1 : σ' c = .box (ckC x p D)) (h2 : σ' nx = .box [.ptr c 0]) (h3 : σ' (nx + 2) = .box [.fn (.func 68) [] [.ptr nx 0]]) => containsLay_spec (l0 :: q0) (fun l => l.any fun n => !x.spotB p n) (σ := σ') (nx := nx + 3) (f := 71) (caps := [.ptr (nx + 2) 0]) hl fun l h => whole2_spec x p l D hx (hl2 l h) (by omega) h1 (by omega) h2 (by omega) h3
      generalize ((l0 :: q0).any fun l => l.any fun n => !x.spotB p n) = r at *
      generalize hY : (l0 :: q0).map layT = Y at *
      have hY0 : ∀ h : 0 < Y.length, Y[0]'h = layT l0 := fun h => by simp only [← hY]; rfl
      have hYl : Y.length = q0.length + 1 := by rw [← hY]; simp
      refine K_run hB 100 ?_
      simp [go_sem, c1, hl0, hYl, hY0, layT, hq0]
      refine K_call rfl rfl rfl (args := [.t (.sl Y), .fn (.func 71) [] [.ptr (nx + 2) 0]]) (f := 70) (by simp [go_sem]) (by simp [go_sem, hB]) (hm _ (by simp [oput, hc1, hc2, hc3, hσ]) (by simp [oput, show ¬ nx = nx + 2 by omega]) (by simp [oput])) ?_
      refine K_run hB 100 ?_
      simp [go_sem]
      refine ⟨fun i h => ?_, by rw [← hR]; simp⟩
      rw [if_neg (by omega), if_neg (by omega), if_neg (by omega), if_neg (by omega)]
    · rw [decide_eq_false c1, Bool.false_and] at hR
      subst hR
      refine K_run hB 100 ?_
      simp [go_sem, c1, c1' c1, hl0, layT, hq0]
      exact ⟨by omega, fun i h => by simp [oput, show ¬ i = nx by omega, show ¬ i = nx + 1 by omega]⟩
theorem check1_spec (x : Inst) (p : Prf) (q : List (List Spot)) (D : AV) (hx : 0 ≤ x.pairs ∧ x.pairs ≤ 16) (hl : q.length < 2 ^ 31) (hl2 : ∀ l ∈ q, l.length < 2 ^ 31) {σ : Nat → AObj} {nx c b : Nat} (hc : c < nx) (hσ : σ c = .box (ckC x p D)) (hb : b < nx) (hσb : σ b = .box [.ptr c 0]) :
    CallSpec P 39 [.agg [.t (.sl (q.map layT))], .ptr b 0] σ nx (.b (!x.wholeB p q)) σ nx := by
  refine spec_keep Try.func39 rfl rfl (by simp [Try.f39]) (by simp [bnd]) fun hk B hB hnx hσB => ?_
  simp only [Try.f39] at hB ⊢
  have hc1 : ¬ c = nx := by omega
  have hb1 : ¬ b = nx := by omega
  have hm := fun σ' (h : σ' c = .box (ckC x p D)) => whole_spec x p q D hx hl hl2 (σ := σ') (nx := nx + 1) (by omega) h
  generalize x.wholeB p q = r at *
  refine K_run hB 100 ?_
  simp [go_sem, hσb, hb1]
  refine K_call rfl rfl rfl (args := [.ptr c 0, .agg [.t (.sl (q.map layT))]]) (f := 40) (by simp [go_sem]) (by simp [go_sem, hB]) (hm _ (by simp [oput, hc1, hσ])) ?_
  refine K_run hB 100 ?_
  simp [go_sem]
  exact fun i h1 h2 => absurd h2 (by omega)
end Go.Proofs.Ytlhmchdfmjfmgaa

/- How many moves a plan may have. -/
set_option maxRecDepth 4000
namespace Go.Proofs.Ytlhmchdfmjfmgaa
open Go Go.Proofs.Ytlhmchdfmjfmgaa.R
def Inst.deep (x : Inst) : Int := if x.may then 2 * x.pairs + x.cars - 1 else 0
theorem deep_pure (x : Inst) (hl : x.stops.length < 2 ^ 63) : Pure P 78 [x.a] (.i x.deep) := by
  refine pure_of Try.func78 rfl rfl (by simp [Try.f78]) (by simp [bnd, bnd.bndL, Inst.a]) (by simp [bnd, bnd.bndL]) fun B hB hnx => ?_
  simp only [Try.f78] at hB ⊢
  refine K_run hB 100 ?_
  simp [go_sem, Inst.a]
  refine K_call rfl rfl rfl (args := [x.a]) (f := 28) (by simp [go_sem, Inst.a]) (by simp [go_sem, hB]) ((may_pure x hl).spec _ _) ?_
  cases hmay : x.may with
  | false =>
    refine K_run hB 100 ?_
    simp [go_sem]
    rw [Inst.deep, if_neg (by simp [hmay])]
  | true =>
    obtain ⟨p, hx⟩ := x.fit hmay
    have hp := hx.pairs
    have hf := hx.few
    have hc := hx.cars
    have w1 := w64 (2 * x.pairs) (by omega)
    have w2 := w64 (2 * x.pairs + x.cars) (by omega)
    have w3 := w64 (2 * x.pairs + x.cars - 1) (by omega)
    refine K_run hB 100 ?_
    simp [go_sem, w1, w2, w3]
    rw [Inst.deep, if_pos hmay]
end Go.Proofs.Ytlhmchdfmjfmgaa

/- Proofs: dead states, where a spot leads. -/
set_option maxRecDepth 4000
namespace Go.Proofs.Ytlhmchdfmjfmgaa
open Go Go.Proofs.Ytlhmchdfmjfmgaa.R
def Inst.deadB (x : Inst) (s : State) (c least : Int) : Bool := decide (least ≤ sumI [c, x.low s])
theorem dead_pure (x : Inst) (s : State) (c least : Int) (hl : x.stops.length < 2 ^ 31) (ho : s.ok) : Pure P 75 [x.a, s.a, .i c, .i least] (.b (x.deadB s c least)) := by
  have ha := at_pure x s hl ho
  have hs := sum_pure [c, x.low s] (by simp)
  rw [Inst.deadB]
  generalize x.low s = d at *
  refine pure_of Try.func75 rfl rfl (by simp [Try.f75]) (by simp [bnd, bnd.bndL, Inst.a, State.a, State.cs]) (by simp [bnd, bnd.bndL]) fun B hB hnx => ?_
  simp only [Try.f75] at hB ⊢
  refine K_run hB 100 ?_
  simp [go_sem, Inst.a, State.a, State.cs]
  refine K_call rfl rfl rfl (args := [x.a, s.a]) (f := 51) (by simp [go_sem, Inst.a, State.a, State.cs]) (by simp [go_sem, hB]) ((ha).spec _ _) ?_
  refine K_run hB 100 ?_
  simp [go_sem]
  refine K_call rfl rfl rfl (args := [.fsl (ints [c, d])]) (f := 50) (by simp [go_sem, ints]) (by simp [go_sem, hB]) ((Pure.loose hs (by simp [bnd])).spec _ _) ?_
  refine K_run hB 100 ?_
  simp [go_sem]
/-- The first spot of a part. -/
def Prf.first (p : Prf) (k : Nat) : Option Spot := match p.parts[k]? with
  | some ((n :: _) :: _) => some n
  | _ => none
def Prf.leadsB (p : Prf) (k : Nat) (n : Spot) : Bool := match p.first (n.part - 1).toNat with
  | some f => decide ((k : Int) < n.part - 1) && (decide (f.s = n.s) && decide (f.cost ≤ n.cost))
  | none => false
theorem first_some {p : Prf} {j : Nat} {f : Spot} (h : p.first j = some f) : ∃ (hj : j < p.parts.length) (l0 : List Spot) (q0 : List (List Spot)), p.parts[j] = (f :: l0) :: q0 := by
  unfold Prf.first at h
  split at h
  · rename_i n l0 q0 e
    cases h
    obtain ⟨h1, h2⟩ := List.getElem?_eq_some_iff.1 e
    exact ⟨h1, l0, q0, h2⟩
  · cases h
theorem leads_spec (x : Inst) (p : Prf) (n : Spot) (D : AV) (k j : Nat) {f : Spot} (hj : n.part = j + 1) (hf : p.first j = some f) (hpl : p.parts.length < 2 ^ 31) {σ : Nat → AObj} {nx c : Nat} (hc : c < nx) (hσ : σ c = .box (ckC x p D)) :
    CallSpec P 76 [.ptr c 0, .i k, n.a] σ nx (.b (p.leadsB k n)) σ nx := by
  generalize hR : p.leadsB k n = R
  refine spec_keep Try.func76 rfl rfl (by simp [Try.f76]) (by simp [bnd]) fun hk B hB hnx hσB => ?_
  simp only [Try.f76] at hB ⊢
  rw [Prf.leadsB, hj, show ((j : Int) + 1 - 1).toNat = j by omega, hf] at hR
  simp only at hR
  obtain ⟨hjl, l0, q0, hpj⟩ := first_some hf
  have hc1 : ¬ c = nx := by omega
  have hc2 : ¬ c = nx + 1 := by omega
  have w1 := w64 ((j : Int) + 1 - 1) (by omega)
  have w1' : IntKind.i64.wrap (j : Int) = j := w64 _ (by omega)
  have e1 : (j : Int) + 1 - 1 = j := by omega
  rw [e1] at w1 hR
  have hYl : (p.parts.map partT).length = p.parts.length := List.length_map _
  have hY : ∀ h : j < (p.parts.map partT).length, (p.parts.map partT)[j]'h = [.sl ([.sl (f.t :: l0.map Spot.t)] :: q0.map layT)] := fun h => by rw [List.getElem_map, hpj]; rfl
  have hck : ckC x p D = [.t (.i x.pairs), .t (.i x.cars), .t (.i x.room), .t (.sl (x.stops.map Stop.t)), .i p.least, .t (.sl (p.parts.map partT)), D] := rfl
  generalize p.parts.map partT = Y at *
  have fin : ∀ (a b : AObj) (i : Nat), i < nx → oput (oput σ nx a) (nx + 1) b i = σ i := fun a b i h => by simp [oput, show ¬ i = nx by omega, show ¬ i = nx + 1 by omega]
  refine K_run hB 100 ?_
  simp [go_sem, Spot.a, Spot.cs]
  refine K_drawnF [15, 16] [0, 1, 2, 3, 4, 5, 6, 7, 8, 9, 10, 11, 12, 13, 14] rfl (by rw [hB]; kernel_rfl) (by kernel_rfl) fun ht hf' => ?_
  by_cases c3 : k < j
  rotate_left
  · rw [decide_eq_false (by omega), Bool.false_and] at hR
    subst hR
    refine K_run hB 100 ?_
    simp [go_sem, ht, hf', hσ, hc1, hc2, hck, hj, w1, w1', hYl, hjl, hY, Spot.t, c3]
    exact ⟨by omega, fun i h => by simp [oput, show ¬ i = nx by omega, show ¬ i = nx + 1 by omega]⟩
  rw [decide_eq_true (by omega), Bool.true_and] at hR
  refine K_run hB 100 ?_
  simp [go_sem, ht, hf', hσ, hc1, hc2, hck, hj, w1, w1', hYl, hjl, hY, Spot.t, c3]
  refine K_eq (op := .eql) (t := 39) (t' := 39) (x := .tmp 30) (y := .tmp 32) (xs := f.s.cs) (ys := n.s.cs) rfl rfl (by simp [go_sem, hB]) (by simp [go_sem, State.cs]) (by simp [go_sem, State.cs]) state_guard (state_eq f.s n.s) rfl ?_
  by_cases c4 : f.s = n.s
  · rw [decide_eq_true c4, Bool.true_and] at hR
    refine K_run hB 100 ?_
    simp [go_sem, c4]
    refine ⟨by omega, fun i h => ?_, hR⟩
    rw [if_neg (by omega), if_neg (by omega), if_neg (by omega)]
  · rw [decide_eq_false c4, Bool.false_and] at hR
    subst hR
    refine K_run hB 100 ?_
    simp [go_sem, c4]
    exact ⟨by omega, fun i h => by simp [oput, show ¬ i = nx by omega, show ¬ i = nx + 1 by omega]⟩
theorem goes1_spec (t : State) (cost : Int) (n : Spot) {σ : Nat → AObj} {nx b1 b2 : Nat} (hb1 : b1 < nx) (hb2 : b2 < nx) (h1 : σ b1 = .box [.i cost]) (h2 : σ b2 = .box t.cs) :
    CallSpec P 108 [n.a, .ptr b1 0, .ptr b2 0] σ nx (.b (decide (n.cost ≤ cost) && coversB n.s t)) σ nx := by
  refine spec_keep Try.func108 rfl rfl (by simp [Try.f108]) (by simp [bnd]) fun hk B hB hnx hσB => ?_
  simp only [Try.f108] at hB ⊢
  have hcv := covers_pure n.s t
  have n1 : ¬ b1 = nx := by omega
  have n2 : ¬ b2 = nx := by omega
  by_cases c1 : n.cost ≤ cost
  · rw [decide_eq_true c1, Bool.true_and]
    refine K_run hB 100 ?_
    simp [go_sem, Spot.a, Spot.cs, n1, h1, c1, n2, h2, State.cs]
    refine K_call rfl rfl rfl (args := [n.s.a, t.a]) (f := 109) (by simp [go_sem, State.a, State.cs]) (by simp [go_sem, hB]) ((hcv).spec _ _) ?_
    refine K_run hB 100 ?_
    simp [go_sem]
    exact fun i h1 h2 => absurd h2 (by omega)
  · rw [decide_eq_false c1, Bool.false_and]
    refine K_run hB 100 ?_
    simp [go_sem, Spot.a, Spot.cs, n1, h1, c1]
    exact fun i h1 h2 => absurd h2 (by omega)
/-- Is what is behind one move of a spot dead, or on the next layer? -/
def Inst.goB (x : Inst) (least : Int) (n : Spot) (next : List Spot) (j : Int) : Bool :=
  x.deadB (x.move n.s j).1 (sumI [n.cost, (x.move n.s j).2.1]) least || next.any fun m => decide (m.cost ≤ sumI [n.cost, (x.move n.s j).2.1]) && coversB m.s (x.move n.s j).1
def Inst.goesB (x : Inst) (least : Int) (n : Spot) (next : List Spot) : Bool := (x.moves n.s).all (x.goB least n next)
theorem goes_spec (x : Inst) (p : Prf) (n : Spot) (next : List Spot) (D : AV) (hl : x.stops.length < 2 ^ 31) (ho : n.s.ok) (hnl : next.length < 2 ^ 31) {σ : Nat → AObj} {nx c : Nat} (hc : c < nx) (hσ : σ c = .box (ckC x p D)) :
    CallSpec P 79 [.ptr c 0, n.a, .t (.sl (next.map Spot.t))] σ nx (.b (x.goesB p.least n next)) σ nx := by
  generalize hR : x.goesB p.least n next = R
  refine spec_keep Try.func79 rfl rfl (by simp [Try.f79]) (by simp [bnd]) fun hk B hB hnx hσB => ?_
  simp only [Try.f79] at hB ⊢
  have hms := moves_pure x n.s (by omega) ho
  have hmv := fun j => move_pure x n.s j (by omega) ho
  have hmok := fun j => move_ok x j ho
  have hck : ckC x p D = [.t (.i x.pairs), .t (.i x.cars), .t (.i x.room), .t (.sl (x.stops.map Stop.t)), .i p.least, .t (.sl (p.parts.map partT)), D] := rfl
  have hgo : ∀ j, x.goB p.least n next j = (x.deadB (x.move n.s j).1 (sumI [n.cost, (x.move n.s j).2.1]) p.least || next.any fun m => decide (m.cost ≤ sumI [n.cost, (x.move n.s j).2.1]) && coversB m.s (x.move n.s j).1) := fun j => rfl
  have hk33 : (x.moves n.s).length < 2 ^ 63 := by
    rw [moves_can]
    have := canB_len (fun k => (x.move n.s k).2.2) x.stops.length
    omega
  have hml : (ints (x.moves n.s)).length = (x.moves n.s).length := List.length_map _
  have hmg : ∀ (i : Nat) (h : i < (x.moves n.s).length), (ints (x.moves n.s))[i]'(by rw [hml]; exact h) = [.i ((x.moves n.s)[i])] := fun i h => ints_getS _ h
  have hc1 : ¬ c = nx := by omega
  rw [Inst.goesB] at hR
  refine K_run hB 100 ?_
  simp [go_sem, Spot.a, Spot.cs]
  refine K_drawn [] rfl (by rw [hB]; kernel_rfl) ?_
  refine K_run hB 100 ?_
  simp [go_sem, hσ, hc1, hck]
  refine K_dCallP rfl rfl rfl (args := [x.a, n.s.a]) (f := 94) (by simp [go_sem, Inst.a, State.a, State.cs]) (hms) ?_
  generalize hY : ints (x.moves n.s) = Y at *
  generalize x.moves n.s = M at *
  refine K_run hB 100 ?_
  simp [go_sem, hml]
  refine K_loopP (α := Nat × (Nat → AObj) × Nat) (fun (k, τ, ny) => k ≤ M.length ∧ (M.drop k).all (x.goB p.least n next) = R ∧ (∀ i, i < nx → τ i = σ i) ∧ τ nx = .box n.cs ∧ nx < ny) (fun (k, τ, ny) => ⟨sl [(0, .ptr c 0), (2, .t (.sl (next.map Spot.t))), (4, .ptr nx 0), (20, .t (.sl Y)), (21, .i M.length), (22, .i k)], τ, ny⟩) (fun a => M.length - a.1) (0, _, nx + 1) ?_ (Imp.slots (by simp [go_sem]) rfl rfl) ?_
  · exact ⟨Nat.zero_le _, hR, fun i h => by simp [oput, show ¬ i = nx by omega], by simp [oput, Spot.cs], by omega⟩
  rintro ⟨k, τ, ny⟩ ⟨g1, g2, g3, g4, g5⟩
  refine K_run hB 60 ?_
  simp [go_sem]
  refine fork_dec (fun hi => ?_) (fun hi => ?_)
  · have hii : IntKind.i64.wrap ((k : Int) + 1) = ((k + 1 : Nat) : Int) := by rw [w64 ((k : Int) + 1) (by omega)]; rfl
    have hgeti : ∀ h : k < Y.length, Y[k]'h = [.i M[k]] := fun h => hmg k hi
    rw [List.drop_eq_getElem_cons hi, List.all_cons] at g2
    generalize M[k] = j at *
    have hmj := hmv j
    have hoj := hmok j
    have hgj := hgo j
    generalize x.goB p.least n next j = G at *
    have hτc : τ c = .box (ckC x p D) := by rw [g3 c hc, hσ]
    have n1 : ¬ c = ny := by omega
    have n2 : ¬ nx = ny := by omega
    have n3 : ¬ c = ny + 1 := by omega
    generalize x.move n.s j = V at *
    obtain ⟨t, d, is⟩ := V
    simp only at hgj hoj
    have hsum := sum_pure [n.cost, d] (by simp)
    generalize hcost : sumI [n.cost, d] = cost at *
    have hdead := dead_pure x t cost p.least hl hoj
    have hany := fun τ' (h1 : τ' (ny + 1) = .box [.i cost]) (h2 : τ' ny = .box t.cs) => containsSpot_spec next (fun m => decide (m.cost ≤ cost) && coversB m.s t) (σ := τ') (nx := ny + 2) (f := 108) (caps := [.ptr (ny + 1) 0, .ptr ny 0]) hnl fun m _ => goes1_spec t cost m (by omega) (by omega) h1 h2
    simp [go_sem, hml, hi, hgeti]
    refine K_drawnF [12, 13] [0, 1, 2, 3, 4, 5, 6, 7, 8, 9, 10, 11] rfl (by rw [hB]; kernel_rfl) (by kernel_rfl) fun ht hf' => ?_
    refine K_run hB 100 ?_
    simp [go_sem, ht, hf', hτc, hck, g4, Spot.cs]
    refine K_dCallP rfl rfl rfl (args := [x.a, n.s.a, .i j]) (f := 95) (by simp [go_sem, Inst.a, State.a, State.cs]) (hmj) ?_
    refine K_run hB 100 ?_
    simp [go_sem, ht, hf', mv, State.a, State.cs, g4, n1, n2, hτc, hck, Spot.cs]
    refine K_call rfl rfl rfl (args := [.fsl (ints [n.cost, d])]) (f := 50) (by simp [go_sem, ints]) (by simp [go_sem, hB]) ((Pure.loose hsum (by simp [bnd])).spec _ _) ?_
    have n4 : ¬ ny = ny + 1 := by omega
    refine K_run hB 100 ?_
    simp [go_sem]
    refine K_drawnT [16] rfl (by rw [hB]; kernel_rfl) (by kernel_rfl) fun ht => ?_
    refine K_run hB 100 ?_
    simp [go_sem, ht, hτc, hck, n1, n2, n3, n4]
    refine K_dCallP rfl rfl rfl (args := [x.a, t.a, .i cost, .i p.least]) (f := 75) (by simp [go_sem, Inst.a, State.a, State.cs]) (hdead) ?_
    cases hd : x.deadB t cost p.least with
    | true =>
      rw [hd, Bool.true_or] at hgj
      subst hgj
      rw [Bool.true_and] at g2
      refine K_run hB 100 ?_
      simp [go_sem, ht, hii]
      refine Next.mk (k + 1, _, ny + 2) ?_ (Imp.slots (by simp [go_sem]) rfl rfl) (by simp only; omega)
      exact ⟨by simp only; omega, g2, fun i h => by simp [oput, show ¬ i = ny by omega, show ¬ i = ny + 1 by omega, g3 i h], by simp [oput, n2, show ¬ nx = ny + 1 by omega, g4, Spot.cs], by simp only; omega⟩
    | false =>
      rw [hd, Bool.false_or] at hgj
      refine K_run hB 100 ?_
      simp [go_sem, ht]
      refine K_dCall rfl rfl rfl (args := [.t (.sl (next.map Spot.t)), .fn (.func 108) [] [.ptr (ny + 1) 0, .ptr ny 0]]) (f := 72) (by simp [go_sem]) (hany _ (by simp [oput]) (by simp [oput, n4, State.cs])) (by decide) (okPends_does (by simp [go_sem])) ?_
      rw [hgj] at g2
      cases hn : next.any fun m => decide (m.cost ≤ cost) && coversB m.s t with
      | true =>
        rw [hn, Bool.true_and] at g2
        refine K_run hB 100 ?_
        simp [go_sem, ht, hii]
        refine Next.mk (k + 1, _, ny + 2) ?_ (Imp.slots (by simp [go_sem]) rfl rfl) (by simp only; omega)
        exact ⟨by simp only; omega, g2, fun i h => by simp [oput, show ¬ i = ny by omega, show ¬ i = ny + 1 by omega, g3 i h], by simp [oput, n2, show ¬ nx = ny + 1 by omega, g4, Spot.cs], by simp only; omega⟩
      | false =>
        rw [hn, Bool.false_and] at g2
        subst g2
        refine K_run hB 100 ?_
        simp [go_sem, ht]
        exact ⟨by omega, fun i h => by simp [oput, show ¬ i = ny by omega, show ¬ i = ny + 1 by omega, g3 i h]⟩
  · have : k = M.length := by omega
    subst this
    rw [List.drop_length, List.all_nil] at g2
    simp [go_sem]
    exact ⟨by omega, g3, g2.symm⟩
end Go.Proofs.Ytlhmchdfmjfmgaa

/- Proofs: is nothing wrong with a spot? -/
set_option maxRecDepth 4000
namespace Go.Proofs.Ytlhmchdfmjfmgaa
open Go Go.Proofs.Ytlhmchdfmjfmgaa.R
def Inst.holdsB (x : Inst) (p : Prf) (k i : Nat) (n : Spot) (dk : Int) : Bool :=
  if x.deadB n.s n.cost p.least = true then true
  else if 0 < n.part then p.leadsB k n
  else if (x.endS n.s).2 = true ∧ sumI [n.cost, (x.endS n.s).1] < p.least then false
  else if x.deep ≤ IntKind.i64.wrap (dk + i) then true
  else x.goesB p.least n (((p.parts[k]?).getD []).getD (i + 1) [])
theorem holds_spec (x : Inst) (p : Prf) (n : Spot) (k i d : Nat) (dl : List Int) (q : List (List Spot)) (hl : x.stops.length < 2 ^ 31) (ho : n.s.ok) (hpl : p.parts.length < 2 ^ 31) (hq : p.parts[k]? = some q) (hql : q.length < 2 ^ 31) (hqn : ∀ l ∈ q, l.length < 2 ^ 31) (hi : i < 2 ^ 31) (hkd : k < dl.length)
    (hlead : 0 < n.part → ∃ j f, n.part = ((j : Nat) : Int) + 1 ∧ p.first j = some f) {σ : Nat → AObj} {nx c : Nat} (hc : c < nx) (hσ : σ c = .box (ckC x p (.ref d))) (hd : d < nx) (hσd : σ d = .arr 1 (ints dl)) :
    CallSpec P 43 [.ptr c 0, .i k, .i i, n.a] σ nx (.b (x.holdsB p k i n dl[k])) σ nx := by
  generalize hR : x.holdsB p k i n dl[k] = R
  refine spec_keep Try.func43 rfl rfl (by simp [Try.f43]) (by simp [bnd]) fun hk B hB hnx hσB => ?_
  simp only [Try.f43] at hB ⊢
  have hdead := dead_pure x n.s n.cost p.least hl ho
  have hen := end_pure x n.s (by omega) ho
  have hdeep := deep_pure x (by omega)
  have hleads := fun (τ : Nat → AObj) (h : 0 < n.part) (h1 : τ c = .box (ckC x p (.ref d))) => match hlead h with
    | ⟨j, f, e1, e2⟩ => leads_spec x p n (.ref d) k j e1 e2 hpl (σ := τ) (nx := nx + 1) (by omega) h1
  have hck : ckC x p (.ref d) = [.t (.i x.pairs), .t (.i x.cars), .t (.i x.room), .t (.sl (x.stops.map Stop.t)), .i p.least, .t (.sl (p.parts.map partT)), .ref d] := rfl
  have hc1 : ¬ c = nx := by omega
  have hd1 : ¬ d = nx := by omega
  rw [Inst.holdsB, hq, Option.getD_some] at hR
  obtain ⟨hkp, hqk⟩ := List.getElem?_eq_some_iff.1 hq
  have hYl : (p.parts.map partT).length = p.parts.length := List.length_map _
  have hY : ∀ h : k < (p.parts.map partT).length, (p.parts.map partT)[k]'h = [.sl (q.map layT)] := fun h => by rw [List.getElem_map, hqk]; rfl
  have hdl : (ints dl).length = dl.length := List.length_map _
  have hdg : ∀ h : k < (ints dl).length, (ints dl)[k]'h = [.i dl[k]] := fun h => ints_getS _ hkd
  have hQl : (q.map layT).length = q.length := List.length_map _
  have hgoes := fun (τ : Nat → AObj) (next : List Spot) (hn : next.length < 2 ^ 31) (h1 : τ c = .box (ckC x p (.ref d))) => goes_spec x p n next (.ref d) hl ho hn (σ := τ) (nx := nx + 1) (by omega) h1
  generalize dl[k] = dk at *
  have fin : ∀ (a : AObj) (i : Nat), i < nx → oput σ nx a i = σ i := fun a i h => by simp [oput, show ¬ i = nx by omega]
  refine K_run hB 100 ?_
  simp [go_sem, Spot.a, Spot.cs]
  refine K_drawn [] rfl (by rw [hB]; kernel_rfl) ?_
  refine K_run hB 100 ?_
  simp [go_sem, hσ, hc1, hck]
  refine K_dCallP rfl rfl rfl (args := [x.a, n.s.a, .i n.cost, .i p.least]) (f := 75) (by simp [go_sem, Inst.a, State.a, State.cs]) (hdead) ?_
  by_cases c1 : x.deadB n.s n.cost p.least = true
  · rw [if_pos c1] at hR
    subst hR
    refine K_run hB 100 ?_
    simp [go_sem, c1]
    exact fun i h1 h2 => absurd h2 (by omega)
  rw [if_neg c1] at hR
  by_cases c2 : 0 < n.part
  · rw [if_pos c2] at hR
    refine K_run hB 100 ?_
    simp [go_sem, c1, c2]
    refine K_call rfl rfl rfl (args := [.ptr c 0, .i k, n.a]) (f := 76) (by simp [go_sem, Spot.a, Spot.cs]) (by simp [go_sem, hB]) (hleads _ c2 (by simp [oput, hc1, hσ])) ?_
    refine K_run hB 100 ?_
    simp [go_sem]
    exact ⟨fun i h1 h2 => absurd h2 (by omega), hR⟩
  rw [if_neg c2] at hR
  refine K_run hB 100 ?_
  simp [go_sem, c1, c2]
  refine K_drawn [] rfl (by rw [hB]; kernel_rfl) ?_
  refine K_run hB 100 ?_
  simp [go_sem, hσ, hc1, hck]
  refine K_dCallP rfl rfl rfl (args := [x.a, n.s.a]) (f := 77) (by simp [go_sem, Inst.a, State.a, State.cs]) (hen) ?_
  generalize x.endS n.s = E at *
  obtain ⟨ec, eb⟩ := E
  simp only at hR
  have hsum := sum_pure [n.cost, ec] (by simp)
  generalize sumI [n.cost, ec] = sm at *
  refine K_run hB 100 ?_
  simp [go_sem]
  have w1 : IntKind.i64.wrap ((i : Int) + 1) = (i : Int) + 1 := w64 _ (by omega)
  have c5' : i + 1 < q.length → (i : Int) + 1 < q.length := fun h => by omega
  have c8' : ¬ i + 1 < q.length → ¬ (i : Int) + 1 < q.length := fun h => by omega
  have c6' : (0 : Int) ≤ (i : Int) + 1 := by omega
  cases eb with
  | false =>
    rw [if_neg (by simp)] at hR
    refine K_drawn [] rfl (by rw [hB]; kernel_rfl) ?_
    refine K_run hB 100 ?_
    simp [go_sem]
    refine K_drawn [] rfl (by rw [hB]; kernel_rfl) ?_
    refine K_run hB 100 ?_
    simp [go_sem, hσ, hc1, hck, hσd, hd1, hdl, hkd, hdg, Nat.mod_one]
    refine K_dCallP rfl rfl rfl (args := [x.a]) (f := 78) (by simp [go_sem, Inst.a]) (hdeep) ?_
    by_cases c4 : x.deep ≤ IntKind.i64.wrap (dk + i)
    · rw [if_pos c4] at hR
      subst hR
      refine K_run hB 100 ?_
      simp [go_sem, c4]
      exact fun i h1 h2 => absurd h2 (by omega)
    rw [if_neg c4] at hR
    by_cases c5 : i + 1 < q.length
    · have hnl : (q[i + 1]).length < 2 ^ 31 := hqn _ (List.getElem_mem _)
      have hQg : ∀ h : i + 1 < (q.map layT).length, (q.map layT)[i + 1]'h = [.sl ((q[i + 1]).map Spot.t)] := fun h => by rw [List.getElem_map]; rfl
      have hgd : q.getD (i + 1) [] = q[i + 1] := by rw [List.getD_eq_getElem?_getD, List.getElem?_eq_getElem c5]; rfl
      rw [hgd] at hR
      generalize q[i + 1] = next at *
      generalize q.map layT = Q at *
      generalize p.parts.map partT = Y at *
      have hg := fun τ h => hgoes τ next hnl h
      generalize x.goesB p.least n next = G at *
      refine K_run hB 100 ?_
      simp [go_sem, c4, hσ, hc1, hck, hYl, hkp, hY, w1, c5, hQl, hQg, c5' c5, c6']
      refine K_call rfl rfl rfl (args := [.ptr c 0, n.a, .t (.sl (next.map Spot.t))]) (f := 79) (by simp [go_sem, Spot.a, Spot.cs]) (by simp [go_sem, hB]) (hg _ (by simp [oput, hc1, hσ])) ?_
      refine K_run hB 100 ?_
      simp [go_sem]
      exact ⟨fun i h1 h2 => absurd h2 (by omega), hR⟩
    · have hgd : q.getD (i + 1) [] = [] := by rw [List.getD_eq_getElem?_getD, List.getElem?_eq_none (by omega)]; rfl
      rw [hgd] at hR
      have hg := fun τ h => hgoes τ [] (by simp) h
      generalize x.goesB p.least n [] = G at *
      generalize q.map layT = Q at *
      generalize p.parts.map partT = Y at *
      refine K_run hB 100 ?_
      simp [go_sem, c4, hσ, hc1, hck, hYl, hkp, hY, w1, hQl, c5, c8' c5]
      refine K_imp Imp.loose ?_
      refine K_call rfl rfl rfl (args := [.ptr c 0, n.a, .t (.sl (([] : List Spot).map Spot.t))]) (f := 79) (by simp [go_sem, loosen, loosen.loosenL, Spot.a, Spot.cs]) (by simp [go_sem, hB]) (hg _ (by simp [oput, hc1, hσ])) ?_
      refine K_run hB 100 ?_
      simp [go_sem]
      exact ⟨fun i h1 h2 => absurd h2 (by omega), hR⟩
  | true =>
    by_cases c3 : sm < p.least
    · rw [if_pos ⟨rfl, c3⟩] at hR
      subst hR
      refine K_drawn [] rfl (by rw [hB]; kernel_rfl) ?_
      refine K_run hB 100 ?_
      simp [go_sem, hσ, hc1, hck]
      refine K_dCallP rfl rfl rfl (args := [.fsl (ints [n.cost, ec])]) (f := 50) (by simp [go_sem, ints]) (Pure.loose hsum (by simp [bnd])) ?_
      refine K_run hB 100 ?_
      simp [go_sem, hσ, hc1, hck, c3]
      exact fun i h1 h2 => absurd h2 (by omega)
    rw [if_neg (fun h => c3 h.2)] at hR
    refine K_drawn [] rfl (by rw [hB]; kernel_rfl) ?_
    refine K_run hB 100 ?_
    simp [go_sem, hσ, hc1, hck]
    refine K_dCallP rfl rfl rfl (args := [.fsl (ints [n.cost, ec])]) (f := 50) (by simp [go_sem, ints]) (Pure.loose hsum (by simp [bnd])) ?_
    refine K_run hB 100 ?_
    simp [go_sem, hσ, hc1, hck, c3]
    refine K_drawn [] rfl (by rw [hB]; kernel_rfl) ?_
    refine K_run hB 100 ?_
    simp [go_sem, hσ, hc1, hck, hσd, hd1, hdl, hkd, hdg, Nat.mod_one]
    refine K_dCallP rfl rfl rfl (args := [x.a]) (f := 78) (by simp [go_sem, Inst.a]) (hdeep) ?_
    by_cases c4 : x.deep ≤ IntKind.i64.wrap (dk + i)
    · rw [if_pos c4] at hR
      subst hR
      refine K_run hB 100 ?_
      simp [go_sem, c4]
      exact fun i h1 h2 => absurd h2 (by omega)
    rw [if_neg c4] at hR
    by_cases c5 : i + 1 < q.length
    · have hnl : (q[i + 1]).length < 2 ^ 31 := hqn _ (List.getElem_mem _)
      have hQg : ∀ h : i + 1 < (q.map layT).length, (q.map layT)[i + 1]'h = [.sl ((q[i + 1]).map Spot.t)] := fun h => by rw [List.getElem_map]; rfl
      have hgd : q.getD (i + 1) [] = q[i + 1] := by rw [List.getD_eq_getElem?_getD, List.getElem?_eq_getElem c5]; rfl
      rw [hgd] at hR
      generalize q[i + 1] = next at *
      generalize q.map layT = Q at *
      generalize p.parts.map partT = Y at *
      have hg := fun τ h => hgoes τ next hnl h
      generalize x.goesB p.least n next = G at *
      refine K_run hB 100 ?_
      simp [go_sem, c4, hσ, hc1, hck, hYl, hkp, hY, w1, c5, hQl, hQg, c5' c5, c6']
      refine K_call rfl rfl rfl (args := [.ptr c 0, n.a, .t (.sl (next.map Spot.t))]) (f := 79) (by simp [go_sem, Spot.a, Spot.cs]) (by simp [go_sem, hB]) (hg _ (by simp [oput, hc1, hσ])) ?_
      refine K_run hB 100 ?_
      simp [go_sem]
      exact ⟨fun i h1 h2 => absurd h2 (by omega), hR⟩
    · have hgd : q.getD (i + 1) [] = [] := by rw [List.getD_eq_getElem?_getD, List.getElem?_eq_none (by omega)]; rfl
      rw [hgd] at hR
      have hg := fun τ h => hgoes τ [] (by simp) h
      generalize x.goesB p.least n [] = G at *
      generalize q.map layT = Q at *
      generalize p.parts.map partT = Y at *
      refine K_run hB 100 ?_
      simp [go_sem, c4, hσ, hc1, hck, hYl, hkp, hY, w1, hQl, c5, c8' c5]
      refine K_imp Imp.loose ?_
      refine K_call rfl rfl rfl (args := [.ptr c 0, n.a, .t (.sl (([] : List Spot).map Spot.t))]) (f := 79) (by simp [go_sem, loosen, loosen.loosenL, Spot.a, Spot.cs]) (by simp [go_sem, hB]) (hg _ (by simp [oput, hc1, hσ])) ?_
      refine K_run hB 100 ?_
      simp [go_sem]
      exact ⟨fun i h1 h2 => absurd h2 (by omega), hR⟩
end Go.Proofs.Ytlhmchdfmjfmgaa

/- Proofs: the check, as a plain function; what holds with a claim holds with any lesser one. -/
set_option maxRecDepth 4000
namespace Go.Proofs.Ytlhmchdfmjfmgaa
open Go Go.Proofs.Ytlhmchdfmjfmgaa.R
def infI : Int := 1152921504606846976
def stepD (k i : Nat) (n : Spot) (dl : List Int) : List Int :=
  if (k : Int) < n.part - 1 then dl.set (n.part - 1).toNat (min (dl.getD (n.part - 1).toNat 0) (IntKind.i64.wrap (dl.getD k 0 + i))) else dl
def Inst.layGo (x : Inst) (p : Prf) (k i : Nat) : List Spot → List Int → Option (List Int)
  | [], dl => some dl
  | n :: l, dl => if x.holdsB p k i n (dl.getD k 0) = true then x.layGo p k i l (stepD k i n dl) else none
def Inst.partGo (x : Inst) (p : Prf) (k : Nat) : Nat → List (List Spot) → List Int → Option (List Int)
  | _, [], dl => some dl
  | i, l :: q, dl => match x.layGo p k i l dl with
    | none => none
    | some dl' => x.partGo p k (i + 1) q dl'
def Inst.partsGo (x : Inst) (p : Prf) : Nat → List (List (List Spot)) → List Int → Option (List Int)
  | _, [], dl => some dl
  | k, q :: ps, dl => if dl.getD k 0 = infI then x.partsGo p (k + 1) ps dl else match x.partGo p k 0 q dl with
    | none => none
    | some dl' => x.partsGo p (k + 1) ps dl'
def Inst.mayP (x : Inst) (p : Prf) : Bool := x.may && (decide (0 ≤ p.least) && (decide (p.least ≤ infI) && (decide (p.parts ≠ []) && p.parts.all (x.wholeB p))))
def Inst.checkE (x : Inst) (p : Prf) : Int :=
  if x.mayP p = true then match p.first 0 with
    | none => 10
    | some f => if f.s = x.rootS ∧ f.cost = 0 then match x.partsGo p 0 p.parts ((List.replicate p.parts.length infI).set 0 0) with
      | none => 10
      | some _ => 0
    else 10
  else 1
/-! With a lesser claim. -/
def Prf.less (p : Prf) (m : Int) : Prf := ⟨m, p.parts⟩
theorem check_zero {x : Inst} {p : Prf} (h : x.checkE p = 0) : x.mayP p = true ∧ ∃ f F, p.first 0 = some f ∧ f.s = x.rootS ∧ f.cost = 0 ∧ x.partsGo p 0 p.parts ((List.replicate p.parts.length infI).set 0 0) = some F := by
  unfold Inst.checkE at h
  split at h
  · rename_i c1
    split at h
    · cases h
    · rename_i f hf
      split at h
      · rename_i c2
        split at h
        · cases h
        · rename_i F hF
          exact ⟨c1, f, F, hf, c2.1, c2.2, hF⟩
      · cases h
  · cases h
end Go.Proofs.Ytlhmchdfmjfmgaa

/- Lists. -/
set_option maxRecDepth 4000
namespace Go.Proofs.Ytlhmchdfmjfmgaa
open Go Go.Proofs.Ytlhmchdfmjfmgaa.R
theorem filter_lt {α : Type} {p q : α → Bool} : ∀ (l : List α) {a : α}, a ∈ l → p a = true → q a = false → (∀ b, q b = true → p b = true) → (l.filter q).length < (l.filter p).length
  | b :: l, a, ha, hp, hq, h => by
    have hle : (l.filter q).length ≤ (l.filter p).length := by
      rw [← List.countP_eq_length_filter, ← List.countP_eq_length_filter]
      exact List.countP_mono_left fun b _ => h b
    rw [List.filter_cons, List.filter_cons]
    rcases List.mem_cons.1 ha with rfl | ha
    · rw [hp, hq]
      simp only [if_true, Bool.false_eq_true, if_false, List.length_cons]
      omega
    · have := filter_lt l ha hp hq h
      have hb := h b
      cases e1 : q b <;> cases e2 : p b <;> simp only [if_true, Bool.false_eq_true, if_false, List.length_cons] <;> first | omega | skip
      rw [e1] at hb
      rw [e2] at hb
      exact absurd (hb rfl) (by simp)
end Go.Proofs.Ytlhmchdfmjfmgaa

/- Things by numbers, the least first, those of one number in their order: plain laws. -/
set_option maxRecDepth 4000
namespace Go.Proofs.Ytlhmchdfmjfmgaa
open Go Go.Proofs.Ytlhmchdfmjfmgaa.R
section
variable {α : Type} (κ : α → Int)
def insK (x : α) (s : List α) : List α := s.filter (fun y => decide (κ y ≤ κ x)) ++ x :: s.filter (fun y => decide (κ x < κ y))
def isort (l : List α) : List α := l.foldl (fun s x => insK κ x s) []
def Srt (l : List α) : Prop := l.Pairwise fun a b => κ a ≤ κ b
structure SortOf (l s : List α) : Prop where
  srt : Srt κ s
  key : ∀ k, s.filter (fun y => decide (κ y = k)) = l.filter (fun y => decide (κ y = k))
variable {κ}
theorem mem_of_key {s t : List α} (h : ∀ k, s.filter (fun y => decide (κ y = k)) = t.filter (fun y => decide (κ y = k))) {x : α} (hx : x ∈ s) : x ∈ t := by
  have : x ∈ s.filter (fun y => decide (κ y = κ x)) := List.mem_filter.2 ⟨hx, by simp⟩
  rw [h] at this
  exact (List.mem_filter.1 this).1
theorem ins_sort {l s : List α} (h : SortOf κ l s) (x : α) : SortOf κ (l ++ [x]) (insK κ x s) := by
  refine ⟨?_, fun k => ?_⟩
  · rw [Srt, insK, List.pairwise_append, List.pairwise_cons]
    refine ⟨h.srt.filter _, ⟨fun y hy => ?_, h.srt.filter _⟩, fun y hy z hz => ?_⟩
    · have := (List.mem_filter.1 hy).2
      simp only [decide_eq_true_eq] at this
      omega
    · have h1 := (List.mem_filter.1 hy).2
      simp only [decide_eq_true_eq] at h1
      rcases List.mem_cons.1 hz with rfl | hz
      · exact h1
      · have h2 := (List.mem_filter.1 hz).2
        simp only [decide_eq_true_eq] at h2
        omega
  · rw [insK, List.filter_append, List.filter_append, List.filter_cons, List.filter_cons, List.filter_nil, List.filter_filter, List.filter_filter, ← h.key k]
    rcases Int.lt_trichotomy k (κ x) with hk | hk | hk
    · have e1 : s.filter (fun a => decide (κ a = k) && decide (κ a ≤ κ x)) = s.filter fun y => decide (κ y = k) := List.filter_congr fun y _ => by
        rw [Bool.eq_iff_iff]; simp only [Bool.and_eq_true, decide_eq_true_eq]; omega
      have e2 : s.filter (fun a => decide (κ a = k) && decide (κ x < κ a)) = [] := List.filter_eq_nil_iff.2 fun y _ => by simp only [Bool.and_eq_true, decide_eq_true_eq]; omega
      rw [e1, e2, if_neg (by simp only [decide_eq_true_eq]; omega), List.append_nil]
    · have e1 : s.filter (fun a => decide (κ a = k) && decide (κ a ≤ κ x)) = s.filter fun y => decide (κ y = k) := List.filter_congr fun y _ => by
        rw [Bool.eq_iff_iff]; simp only [Bool.and_eq_true, decide_eq_true_eq]; omega
      have e2 : s.filter (fun a => decide (κ a = k) && decide (κ x < κ a)) = [] := List.filter_eq_nil_iff.2 fun y _ => by simp only [Bool.and_eq_true, decide_eq_true_eq]; omega
      rw [e1, e2]
    · have e1 : s.filter (fun a => decide (κ a = k) && decide (κ a ≤ κ x)) = [] := List.filter_eq_nil_iff.2 fun y _ => by simp only [Bool.and_eq_true, decide_eq_true_eq]; omega
      have e2 : s.filter (fun a => decide (κ a = k) && decide (κ x < κ a)) = s.filter fun y => decide (κ y = k) := List.filter_congr fun y _ => by
        rw [Bool.eq_iff_iff]; simp only [Bool.and_eq_true, decide_eq_true_eq]; omega
      have hn : ¬ decide (κ x = k) = true := by simp only [decide_eq_true_eq]; omega
      rw [e1, e2, if_neg hn, if_neg hn]
      simp
theorem fold_sort : ∀ (l pre s : List α), SortOf κ pre s → SortOf κ (pre ++ l) (l.foldl (fun s x => insK κ x s) s)
  | [], pre, s, h => by rw [List.append_nil]; exact h
  | x :: l, pre, s, h => by
    have := fold_sort l (pre ++ [x]) _ (ins_sort h x)
    rw [List.append_assoc] at this
    exact this
theorem isort_sort (l : List α) : SortOf κ l (isort κ l) := by
  have h : SortOf κ ([] : List α) [] := ⟨List.Pairwise.nil, fun _ => rfl⟩
  exact fold_sort l [] [] h
theorem isort_mem {l : List α} {x : α} : x ∈ isort κ l ↔ x ∈ l := ⟨mem_of_key fun k => (isort_sort l).key k, mem_of_key fun k => ((isort_sort l).key k).symm⟩
end
end Go.Proofs.Ytlhmchdfmjfmgaa

/- The library's stable sort, of an own row of keys: its parts. -/
set_option maxRecDepth 4000
namespace Go.Proofs.Ytlhmchdfmjfmgaa
open Go Go.Proofs.Ytlhmchdfmjfmgaa.R
/-- A key: a node, and its number. -/
def KR (e : List T) : Prop := ∃ (n : Node) (k : Int), e = n.t ++ [.i k]
theorem KR.len {e : List T} (h : KR e) : e.length = 11 := by
  obtain ⟨n, k, rfl⟩ := h
  simp [Node.t]
/-- Two elements of a row: what is known where they change places. -/
structure Two (S : List (List T)) (u v : Nat) (x y : List T) : Prop where
  hu : u < S.length
  hv : v < S.length
  gu : ∀ h : u < S.length, S[u]'h = x
  gv : ∀ h : v < S.length, S[v]'h = y
  lx : x.length = 11
  ly : y.length = 11
end Go.Proofs.Ytlhmchdfmjfmgaa

/- A move at a sooner time, with a lesser load. -/
set_option maxRecDepth 4000
namespace Go.Proofs.Ytlhmchdfmjfmgaa
open Go Go.Proofs.Ytlhmchdfmjfmgaa.R
/-- One state is no later, and bears no more, but is the same. -/
structure Sooner (a s : State) : Prop where
  time : a.time ≤ s.time
  load : a.load ≤ s.load
  spot : a.spot = s.spot
  car : a.car = s.car
  first : a.first = s.first
  must : a.must = s.must
  can : a.can = s.can
  on : a.on = s.on
theorem Sooner.begins {a s : State} (h : Sooner a s) (x : Inst) (j : Int) : x.begins a j ≤ x.begins s j := by
  have := h.time
  unfold Inst.begins
  rw [h.spot]
  omega
theorem Sooner.late {a s : State} (h : Sooner a s) (x : Inst) (j : Int) (hl : x.lateB s j = false) : x.lateB a j = false := by
  have := h.begins x j
  unfold Inst.lateB at hl ⊢
  simp only [Bool.or_eq_false_iff, decide_eq_false_iff_not] at hl ⊢
  rw [h.must]
  exact ⟨hl.1, by omega⟩
theorem Sooner.seen {a s : State} (h : Sooner a s) (x : Inst) (j : Int) : Sooner (x.seen a j) (x.seen s j) := by
  have := h.begins x j
  have := h.load
  exact ⟨by simp only [Inst.seen]; omega, by simp only [Inst.seen]; omega, rfl, h.car, by simp only [Inst.seen, h.spot, h.first], by simp only [Inst.seen, h.must], by simp only [Inst.seen, h.can], h.on⟩
theorem Sooner.visit {a s : State} (h : Sooner a s) (x : Inst) (j : Int) (hv : (x.visit s j).2 = true) : (x.visit a j).2 = true ∧ Sooner (x.visit a j).1 (x.visit s j).1 := by
  unfold Inst.visit at hv ⊢
  cases hl : x.lateB s j with
  | true => rw [hl] at hv; simp at hv
  | false =>
    rw [h.late x j hl]
    exact ⟨rfl, h.seen x j⟩
theorem Sooner.take {a s : State} (h : Sooner a s) (x : Inst) (j : Int) (hv : (x.take s j).2 = true) : (x.take a j).2 = true ∧ Sooner (x.take a j).1 (x.take s j).1 := by
  unfold Inst.take at hv ⊢
  cases hf : x.fullB s j with
  | true => rw [hf] at hv; simp at hv
  | false =>
    have hf' : x.fullB a j = false := by
      have := h.load
      unfold Inst.fullB at hf ⊢
      simp only [Bool.or_eq_false_iff, decide_eq_false_iff_not, Bool.and_eq_false_iff] at hf ⊢
      rw [h.spot, h.first]
      exact ⟨by omega, hf.2⟩
    rw [hf] at hv
    rw [hf']
    simp only [Bool.false_eq_true, if_false] at hv ⊢
    cases hq : (x.visit s j).2 with
    | false => rw [hq] at hv; simp [hq] at hv
    | true =>
      obtain ⟨v1, v2⟩ := h.visit x j hq
      rw [v1]
      exact ⟨rfl, ⟨v2.time, v2.load, v2.spot, v2.car, v2.first, v2.must, v2.can, by simp only [if_true, h.on]⟩⟩
theorem Sooner.bring {a s : State} (h : Sooner a s) (x : Inst) (j : Int) (hv : (x.bring s j).2 = true) : (x.bring a j).2 = true ∧ Sooner (x.bring a j).1 (x.bring s j).1 := by
  unfold Inst.bring at hv ⊢
  cases hf : x.emptyB s j with
  | true => rw [hf] at hv; simp at hv
  | false =>
    have hf' : x.emptyB a j = false := by
      unfold Inst.emptyB at hf ⊢
      rw [h.spot, h.can]
      exact hf
    rw [hf] at hv
    rw [hf']
    simp only [Bool.false_eq_true, if_false] at hv ⊢
    cases hq : (x.visit s j).2 with
    | false => rw [hq] at hv; simp [hq] at hv
    | true =>
      obtain ⟨v1, v2⟩ := h.visit x j hq
      rw [v1]
      exact ⟨rfl, ⟨v2.time, v2.load, v2.spot, v2.car, v2.first, v2.must, v2.can, by simp only [if_true, h.on]⟩⟩
theorem Sooner.home {a s : State} (h : Sooner a s) (x : Inst) (hv : (x.home s).2 = true) : (x.home a).2 = true ∧ Sooner (x.home a).1 (x.home s).1 := by
  unfold Inst.home at hv ⊢
  cases hf : x.stayB s with
  | true => rw [hf] at hv; simp at hv
  | false =>
    have hf' : x.stayB a = false := by
      have := h.time
      unfold Inst.stayB at hf ⊢
      simp only [Bool.or_eq_false_iff, decide_eq_false_iff_not] at hf ⊢
      rw [h.spot, h.on, h.car, h.must]
      exact ⟨hf.1, by omega⟩
    rw [hf']
    refine ⟨rfl, ?_⟩
    show Sooner (x.homeS a) (x.homeS s)
    exact ⟨Int.le_refl _, Int.le_refl _, rfl, by simp only [Inst.homeS, h.car], h.first, h.must, h.can, h.on⟩
theorem Sooner.to {a s : State} (h : Sooner a s) (x : Inst) (j : Int) (hv : (x.to s j).2 = true) : (x.to a j).2 = true ∧ Sooner (x.to a j).1 (x.to s j).1 := by
  unfold Inst.to at hv ⊢
  split
  · rename_i e
    rw [if_pos e] at hv
    exact h.home x hv
  · rename_i e
    rw [if_neg e] at hv
    split
    · rename_i e2
      rw [if_pos e2] at hv
      exact h.take x j hv
    · rename_i e2
      rw [if_neg e2] at hv
      exact h.bring x j hv
theorem move_is {x : Inst} {s : State} {j : Int} (hv : (x.move s j).2.2 = true) : x.may = true ∧ s.mayB x = true ∧ (0 ≤ j ∧ j ≤ 2 * x.pairs) ∧ (x.to s j).2 = true ∧ x.move s j = ((x.to s j).1, far (x.stop s.spot) (x.stop j), true) := by
  unfold Inst.move at hv ⊢
  split at hv
  · rename_i h
    rw [if_pos h]
    unfold Inst.step at hv ⊢
    split at hv
    · simp at hv
    · rename_i h1
      rw [if_neg h1]
      split at hv
      · rename_i h2
        rw [if_pos h2]
        exact ⟨h.1, h.2, by omega, h2, rfl⟩
      · simp at hv
  · simp at hv
theorem move_mk {x : Inst} {s : State} {j : Int} (h1 : x.may = true) (h2 : s.mayB x = true) (h3 : 0 ≤ j ∧ j ≤ 2 * x.pairs) (h4 : (x.to s j).2 = true) : x.move s j = ((x.to s j).1, far (x.stop s.spot) (x.stop j), true) := by
  unfold Inst.move Inst.step
  rw [if_pos ⟨h1, h2⟩, if_neg (by omega), if_pos h4]
theorem Sooner.move {a s : State} (h : Sooner a s) (x : Inst) (j : Int) (ht : 0 ≤ a.time) (hw : 0 ≤ a.load) (hv : (x.move s j).2.2 = true) : (x.move a j).2.2 = true ∧ (x.move a j).2.1 = (x.move s j).2.1 ∧ Sooner (x.move a j).1 (x.move s j).1 := by
  obtain ⟨h1, h2, h3, h4, h5⟩ := move_is hv
  obtain ⟨g1, g2⟩ := h.to x j h4
  have g3 : a.mayB x = true := by
    have := h.time
    have := h.load
    unfold State.mayB at h2 ⊢
    simp only [Bool.and_eq_true, decide_eq_true_eq] at h2 ⊢
    rw [h.spot, h.car]
    omega
  rw [h5, move_mk h1 g3 h3 g1]
  exact ⟨rfl, by rw [h.spot], g2⟩
end Go.Proofs.Ytlhmchdfmjfmgaa

/- Where a state can be ended. -/
set_option maxRecDepth 4000
namespace Go.Proofs.Ytlhmchdfmjfmgaa
open Go Go.Proofs.Ytlhmchdfmjfmgaa.R
theorem upto_bit : ∀ {k i : Nat}, 1 ≤ i → i ≤ k → (uptoL k).testBit i = true
  | 0, i, h1, h2 => by omega
  | k + 1, i, h1, h2 => by
    rw [uptoL, Nat.testBit_or]
    by_cases h : i ≤ k
    · rw [upto_bit h1 h]; rfl
    · have : i = k + 1 := by omega
      subst this
      rw [Nat.testBit_two_pow_self, Bool.or_true]
theorem Inst.all_bit {x : Inst} {t p : Nat} (hx : x.Fit p) (h : x.allB t = true) {i : Nat} (h1 : 1 ≤ i) (h2 : i ≤ 2 * p) : t.testBit i = true := by
  have hf := hx.few
  have hp := hx.pairs
  unfold Inst.allB withinB at h
  rw [List.all_eq_true] at h
  have := h i (List.mem_range.2 (by omega))
  have hu : (uptoN (2 * x.pairs)).testBit i = true := by
    unfold uptoN
    exact upto_bit h1 (by omega)
  rw [hu] at this
  simpa using this
end Go.Proofs.Ytlhmchdfmjfmgaa

/- What was seen behind moves from the beginning. -/
set_option maxRecDepth 4000
namespace Go.Proofs.Ytlhmchdfmjfmgaa
open Go Go.Proofs.Ytlhmchdfmjfmgaa.R
theorem with_bit {t k : Nat} (hk : k ≤ 63) (i : Nat) : (withN t k).testBit i = (t.testBit i || decide (k = i)) := by
  rw [withN, bitN_nat hk, Nat.testBit_or, Nat.testBit_two_pow]
theorem without_bit {t k : Nat} (hk : k ≤ 63) {i : Nat} (hi : i < 64) : (withoutN t k).testBit i = (t.testBit i && !decide (k = i)) := by
  rw [withoutN, bitN_nat hk, andN_bit, Nat.testBit_two_pow]
  simp [hi]
/-- What the stops of a set bring with them. -/
def sumOn (x : Inst) : Nat → Nat → Int
  | 0, _ => 0
  | k + 1, t => sumOn x k t + if t.testBit (k + 1) = true then (x.stop (k + 1 : Nat)).demand else 0
theorem sumOn_zero (x : Inst) : ∀ k, sumOn x k 0 = 0
  | 0 => rfl
  | k + 1 => by rw [sumOn, sumOn_zero x k]; simp
theorem sumOn_pos {x : Inst} {p : Nat} (hx : x.Fit p) (t : Nat) : ∀ k, k ≤ p → 0 ≤ sumOn x k t
  | 0, _ => Int.le_refl _
  | k + 1, h => by
    have := sumOn_pos hx t k (by omega)
    have := hx.take (k := k + 1) (by omega) h
    rw [sumOn]
    split <;> omega
theorem sumOn_with (x : Inst) {t j : Nat} (hj : j ≤ 63) (hn : t.testBit j = false) (h1 : 1 ≤ j) : ∀ k, k ≤ 63 → sumOn x k (withN t j) = sumOn x k t + if j ≤ k then (x.stop j).demand else 0
  | 0, _ => by rw [if_neg (by omega)]; rfl
  | k + 1, hk => by
    rw [sumOn, sumOn_with x hj hn h1 k (by omega), with_bit hj, sumOn]
    by_cases e : j = k + 1
    · subst e
      rw [if_neg (by omega), hn]
      simp
    · have : (decide (j = k + 1)) = false := by simpa using e
      rw [this, Bool.or_false]
      by_cases e2 : j ≤ k
      · rw [if_pos e2, if_pos (show j ≤ k + 1 by omega)]; omega
      · rw [if_neg e2, if_neg (show ¬ j ≤ k + 1 by omega)]; omega
theorem sumOn_without (x : Inst) {t j : Nat} (hj : j ≤ 63) (hn : t.testBit j = true) (h1 : 1 ≤ j) : ∀ k, k ≤ 63 → sumOn x k (withoutN t j) = sumOn x k t - if j ≤ k then (x.stop j).demand else 0
  | 0, _ => by rw [if_neg (by omega)]; rfl
  | k + 1, hk => by
    rw [sumOn, sumOn_without x hj hn h1 k (by omega), without_bit hj (by omega), sumOn]
    by_cases e : j = k + 1
    · subst e
      rw [if_neg (by omega), hn]
      simp
    · have : (decide (j = k + 1)) = false := by simpa using e
      rw [this, Bool.not_false, Bool.and_true]
      by_cases e2 : j ≤ k
      · rw [if_pos e2, if_pos (show j ≤ k + 1 by omega)]; omega
      · rw [if_neg e2, if_neg (show ¬ j ≤ k + 1 by omega)]; omega
/-- What holds behind moves from the beginning. -/
structure Good (x : Inst) (p : Nat) (s : State) : Prop where
  eq : s.can = s.must
  on : ∀ k, 1 ≤ k → k ≤ p → s.on.testBit k = (s.must.testBit k && !s.must.testBit (k + p))
  order : ∀ k, 1 ≤ k → k ≤ p → s.must.testBit (k + p) = true → s.must.testBit k = true
  load : s.load = sumOn x p s.on
  room : s.load ≤ x.room
theorem good_root {x : Inst} {p : Nat} (hx : x.Fit p) (hm : x.may = true) : Good x p x.rootS := by
  rw [Inst.rootS, if_pos hm]
  refine ⟨rfl, fun k _ _ => by simp [State.zero], fun k _ _ h => by simp [State.zero] at h, ?_, ?_⟩
  · exact (sumOn_zero x p).symm
  · have := hx.room
    show (0 : Int) ≤ x.room
    omega
theorem has_testN {t k : Nat} (hk : k ≤ 63) : hasB t (k : Int) = t.testBit k := has_nat (by omega)
theorem good_step {x : Inst} {p : Nat} {s : State} {j : Int} (hx : x.Fit p) (hg : Good x p s) (h : (x.move s j).2.2 = true) :
    Good x p (x.move s j).1 ∧ 0 ≤ j ∧ j ≤ 2 * p ∧ (x.move s j).1.must = (if 0 < j then withN s.must j else s.must) ∧
    (x.move s j).1.on = (if x.pairs < j then withoutN s.on (j - x.pairs) else if 0 < j then withN s.on j else s.on) ∧
    (x.move s j).1.load = (if 0 < j then s.load + (x.stop j).demand else s.load) := by
  obtain ⟨h1, h2, h3, h4, h5⟩ := move_is h
  have hp := hx.pairs
  have hfew := hx.few
  obtain ⟨k, rfl⟩ : ∃ k : Nat, j = k := ⟨j.toNat, by omega⟩
  rw [h5]
  have h3' : (k : Int) ≤ 2 * p := by omega
  have hvis : (x.visit s k).2 = true → (x.visit s k).1 = x.seen s k ∧ hasB s.must k = false := by
    unfold Inst.visit Inst.lateB
    split
    · intro h; simp at h
    · rename_i hh
      intro _
      simp only [Bool.or_eq_true, not_or] at hh
      exact ⟨rfl, by simpa using hh.1⟩
  by_cases hk0 : k = 0
  · subst hk0
    have e : x.to s ((0 : Nat) : Int) = x.home s := by simp [Inst.to]
    rw [e] at h4 ⊢
    unfold Inst.home at h4 ⊢
    split at h4
    · simp at h4
    · rename_i hh
      rw [if_neg hh]
      have hon : s.on = 0 := by
        simp only [Inst.stayB, Bool.or_eq_true, decide_eq_true_eq, not_or] at hh
        have := hh.1.1.1.2
        omega
      have hl : s.load = 0 := by rw [hg.load, hon, sumOn_zero]
      refine ⟨⟨hg.eq, hg.on, hg.order, by show (0 : Int) = sumOn x p s.on; rw [hon, sumOn_zero], by show (0 : Int) ≤ x.room; have := hx.room; omega⟩, by omega, by omega, by simp [Inst.homeS], by rw [if_neg (by omega), if_neg (by omega)]; rfl, by rw [if_neg (by omega), hl]; rfl⟩
  have hk63 : k ≤ 63 := by omega
  by_cases hkp : k ≤ p
  · have e : x.to s (k : Int) = x.take s k := by rw [Inst.to, if_neg (by omega), if_pos (by omega)]
    rw [e] at h4 ⊢
    have hd := hx.take (k := k) (by omega) hkp
    unfold Inst.take at h4 ⊢
    split at h4
    · simp at h4
    rename_i hh
    rw [if_neg hh]
    split at h4
    rotate_left
    · rename_i h8; exact absurd h4 h8
    rename_i h8
    rw [if_pos h8]
    obtain ⟨e1, e2⟩ := hvis h8
    rw [e1]
    rw [has_testN hk63] at e2
    have hroom : s.load + (x.stop k).demand ≤ x.room := by
      simp only [Inst.fullB, Bool.or_eq_true, decide_eq_true_eq, not_or] at hh
      omega
    have hnon : s.on.testBit k = false := by rw [hg.on k (by omega) hkp, e2, Bool.false_and]
    have hpos := sumOn_pos hx s.on p (Nat.le_refl _)
    have hload := hg.load
    have hmax : max (s.load + (x.stop k).demand) 0 = s.load + (x.stop k).demand := by omega
    refine ⟨⟨by show withN s.can k = withN s.must k; rw [hg.eq], fun i i1 i2 => ?_, fun i i1 i2 i3 => ?_, ?_, ?_⟩, by omega, by omega, ?_, ?_, ?_⟩
    · show (withN s.on k).testBit i = ((withN s.must k).testBit i && !(withN s.must k).testBit (i + p))
      rw [with_bit hk63, with_bit hk63, with_bit hk63, hg.on i i1 i2]
      have : decide (k = i + p) = false := by simp; omega
      rw [this, Bool.or_false]
      by_cases hki : k = i
      · subst hki
        have hb : s.must.testBit (k + p) = false := by
          cases hq : s.must.testBit (k + p) with
          | false => rfl
          | true => rw [hg.order k i1 i2 hq] at e2; cases e2
        simp [hb]
      · simp [hki]
    · have i3' : (withN s.must k).testBit (i + p) = true := i3
      show (withN s.must k).testBit i = true
      rw [with_bit hk63] at i3' ⊢
      have : decide (k = i + p) = false := by simp; omega
      rw [this, Bool.or_false] at i3'
      rw [hg.order i i1 i2 i3', Bool.true_or]
    · show max (s.load + (x.stop k).demand) 0 = sumOn x p (withN s.on k)
      rw [sumOn_with x hk63 hnon (by omega) p (by omega), if_pos hkp, hmax, hload]
    · show max (s.load + (x.stop k).demand) 0 ≤ x.room
      omega
    · rw [if_pos (by omega)]; rfl
    · rw [if_neg (by omega), if_pos (by omega)]
    · rw [if_pos (by omega)]; exact hmax
  · obtain ⟨q, rfl⟩ : ∃ q, k = q + p := ⟨k - p, by omega⟩
    have hq1 : 1 ≤ q := by omega
    have hq2 : q ≤ p := by omega
    have hq63 : q ≤ 63 := by omega
    have ej : ((q + p : Nat) : Int) - x.pairs = (q : Int) := by omega
    have e : x.to s ((q + p : Nat) : Int) = x.bring s (q + p : Nat) := by rw [Inst.to, if_neg (by omega), if_neg (by omega)]
    rw [e] at h4 ⊢
    have hd := hx.take (k := q) hq1 hq2
    have hb := hx.bring (k := q) hq1 hq2
    unfold Inst.bring at h4 ⊢
    split at h4
    · simp at h4
    rename_i hh
    rw [if_neg hh]
    split at h4
    rotate_left
    · rename_i h8; exact absurd h4 h8
    rename_i h8
    rw [if_pos h8]
    obtain ⟨e1, e2⟩ := hvis h8
    rw [e1, ej]
    rw [has_testN hk63] at e2
    have hcan : s.must.testBit q = true := by
      simp only [Inst.emptyB, Bool.or_eq_true, decide_eq_true_eq, not_or, ej] at hh
      have := hh.2
      rw [has_testN hq63, hg.eq] at this
      simpa using this
    have hon : s.on.testBit q = true := by rw [hg.on q hq1 hq2, hcan, e2]; rfl
    have hpos := sumOn_pos hx (withoutN s.on q) p (Nat.le_refl _)
    have hload := hg.load
    have hsum := sumOn_without x hq63 hon hq1 p (by omega)
    rw [if_pos hq2] at hsum
    have hmax : max (s.load + (x.stop (q + p : Nat)).demand) 0 = s.load + (x.stop (q + p : Nat)).demand := by omega
    refine ⟨⟨by show withN s.can (q + p : Nat) = withN s.must (q + p : Nat); rw [hg.eq], fun i i1 i2 => ?_, fun i i1 i2 i3 => ?_, ?_, ?_⟩, by omega, by omega, ?_, ?_, ?_⟩
    · show (withoutN s.on q).testBit i = ((withN s.must (q + p : Nat)).testBit i && !(withN s.must (q + p : Nat)).testBit (i + p))
      rw [without_bit hq63 (by omega), with_bit hk63, with_bit hk63, hg.on i i1 i2]
      have : decide (q + p = i) = false := by simp; omega
      rw [this, Bool.or_false]
      have e5 : decide (q + p = i + p) = decide (q = i) := by simp
      rw [e5]
      by_cases hki : q = i
      · simp [hki]
      · simp [hki]
    · have i3' : (withN s.must (q + p : Nat)).testBit (i + p) = true := i3
      show (withN s.must (q + p : Nat)).testBit i = true
      rw [with_bit hk63] at i3' ⊢
      by_cases hki : q = i
      · subst hki
        rw [hcan, Bool.true_or]
      · have : decide (q + p = i + p) = false := by simp; omega
        rw [this, Bool.or_false] at i3'
        rw [hg.order i i1 i2 i3', Bool.true_or]
    · show max (s.load + (x.stop (q + p : Nat)).demand) 0 = sumOn x p (withoutN s.on q)
      omega
    · show max (s.load + (x.stop (q + p : Nat)).demand) 0 ≤ x.room
      have := hg.room
      omega
    · rw [if_pos (by omega)]; rfl
    · rw [if_pos (by omega)]
    · rw [if_pos (by omega)]; exact hmax
end Go.Proofs.Ytlhmchdfmjfmgaa

/- What moves do, plainly; no move costs less than the bound falls. -/
set_option maxRecDepth 4000
namespace Go.Proofs.Ytlhmchdfmjfmgaa
open Go Go.Proofs.Ytlhmchdfmjfmgaa.R
theorem move_pos {x : Inst} {s : State} {j : Int} (h : (x.move s j).2.2 = true) (hj : j ≠ 0) : x.may = true ∧ s.mayB x = true ∧ 0 < j ∧ j ≤ 2 * x.pairs ∧ x.lateB s j = false ∧ (j ≤ x.pairs → x.fullB s j = false) ∧ (x.pairs < j → x.emptyB s j = false) ∧
    x.move s j = (x.rvisit s j (x.begins s j), far (x.stop s.spot) (x.stop j), true) := by
  obtain ⟨h1, h2, h3, h4, h5⟩ := move_is h
  have k1 : x.lateB s j = false := by
    cases e : x.lateB s j with
    | false => rfl
    | true => rw [to_not hj (.inl e)] at h4; cases h4
  have k2 : j ≤ x.pairs → x.fullB s j = false := fun hp => by
    cases e : x.fullB s j with
    | false => rfl
    | true => rw [to_not hj (.inr (.inl ⟨hp, e⟩))] at h4; cases h4
  have k3 : x.pairs < j → x.emptyB s j = false := fun hp => by
    cases e : x.emptyB s j with
    | false => rfl
    | true => rw [to_not hj (.inr (.inr ⟨hp, e⟩))] at h4; cases h4
  refine ⟨h1, h2, by omega, h3.2, k1, k2, k3, ?_⟩
  rw [h5, to_visit hj k1 k2 k3]
theorem move_home {x : Inst} {s : State} (h : (x.move s 0).2.2 = true) : x.may = true ∧ s.mayB x = true ∧ x.stayB s = false ∧ x.move s 0 = (x.homeS s, far (x.stop s.spot) (x.stop 0), true) := by
  obtain ⟨h1, h2, h3, h4, h5⟩ := move_is h
  have e : x.to s 0 = x.home s := by simp [Inst.to]
  rw [e] at h4 h5
  have k1 : x.stayB s = false := by
    cases c : x.stayB s with
    | false => rfl
    | true => rw [Inst.home, if_pos c] at h4; cases h4
  refine ⟨h1, h2, k1, ?_⟩
  rw [h5, Inst.home, if_neg (by simp [k1])]
theorem has_withN {t k : Nat} (hk : k ≤ 63) (i : Nat) : hasB (withN t k) i = (hasB t i || decide (i = k)) := by
  by_cases hi : i ≤ 63
  · rw [has_testN hi, has_testN hi, with_bit hk]
    by_cases e : i = k
    · subst e; simp
    · have : ¬ k = i := fun h => e h.symm
      simp [e, this]
  · have e1 : ∀ u, hasB u (i : Int) = false := fun u => by simp [hasB]; omega
    have : ¬ i = k := by omega
    simp [e1, this]
theorem lefts_past {may j : Nat} (hj : j ≤ 63) : ∀ (i : Nat) (l : List Int), j < i → lefts (withN may j) i l = lefts may i l
  | _, [], _ => rfl
  | i, d :: l, h => by
    rw [lefts, lefts, lefts_past hj (i + 1) l (by omega), has_withN hj]
    have : ¬ i = j := by omega
    simp [this]
theorem lefts_with {may j : Nat} (hj : j ≤ 63) (h1 : 1 ≤ j) : ∀ (i : Nat) (l : List Int), i ≤ j → (∀ d ∈ l, 0 ≤ d ∧ d ≤ 14143) → lefts may i l ≤ lefts (withN may j) i l + l.getD (j - i) 0
  | _, [], _, _ => by simp [lefts]
  | i, d :: l, h, hd => by
    have h0 := hd d List.mem_cons_self
    have hd' : ∀ e ∈ l, 0 ≤ e ∧ e ≤ 14143 := fun e he => hd e (List.mem_cons_of_mem _ he)
    rw [lefts, lefts, has_withN hj]
    by_cases e : i = j
    · subst e
      rw [lefts_past hj (i + 1) l (by omega)]
      simp only [Nat.sub_self, List.getD_cons_zero, decide_true, Bool.or_true]
      split <;> simp <;> omega
    · have := lefts_with (may := may) hj h1 (i + 1) l (by omega) hd'
      have e2 : j - i = (j - (i + 1)) + 1 := by omega
      rw [e2, List.getD_cons_succ]
      have e3 : decide (i = j) = false := decide_eq_false e
      rw [e3, Bool.or_false]
      omega
theorem nearF_lower {k : Nat} {b : Stop} : ∀ (l : List Stop) (i : Nat) (v : Int), nearF k b i l v ≤ v
  | [], _, v => Int.le_refl _
  | a :: l, i, v => by
    rw [nearF]
    have := nearF_lower (k := k) (b := b) l (i + 1) (if i = k then v else min v (far a b))
    split at this <;> split <;> omega
theorem nearF_far {k : Nat} {b : Stop} : ∀ (l : List Stop) (i m : Nat) (v : Int) (hm : m < l.length), i + m ≠ k → nearF k b i l v ≤ far l[m] b
  | [], _, m, _, hm, _ => by simp at hm
  | a :: l, i, 0, v, _, hne => by
    rw [nearF, if_neg (by omega)]
    have := nearF_lower (k := k) (b := b) l (i + 1) (min v (far a b))
    simp only [List.getElem_cons_zero]
    omega
  | a :: l, i, m + 1, v, hm, hne => by
    rw [nearF]
    simpa using nearF_far l (i + 1) m _ (by simpa using hm) (by omega)
theorem nearK_far (x : Inst) {k m : Nat} (b : Stop) (hm : m < x.stops.length) (hne : m ≠ k) : x.nearK k b ≤ far x.stops[m] b := by
  have h1 := nearF_far (k := k) (b := b) x.stops 0 m inf hm (by omega)
  have h2 := far_le x.stops[m] b
  have hinf : inf = 1152921504606846976 := rfl
  unfold Inst.nearK
  rcases nearF_le k b 0 x.stops inf (.inr rfl) with h | h
  · rw [Int.tmod_eq_of_lt h.1 (by omega)]; exact h1
  · omega
theorem near_may {x : Inst} (h : x.may = true) : x.near = nears x 0 x.stops := by rw [Inst.near, if_pos h]
theorem near_getD {x : Inst} {p : Nat} (hx : x.Fit p) (h : x.may = true) {k : Nat} (hk : k ≤ 2 * p) : x.near.getD k 0 = x.nearK k (x.stop k) := by
  have hl := hx.len
  rw [near_may h, List.getD_eq_getElem?_getD, List.getElem?_eq_getElem (by rw [nears_len]; omega), nears_get x 0 x.stops k (by omega), Inst.stop_at (by omega)]
  simp
theorem near_far {x : Inst} {p : Nat} (hx : x.Fit p) (h : x.may = true) {k m : Nat} (hk : k ≤ 2 * p) (hm : m ≤ 2 * p) (hne : m ≠ k) : x.near.getD k 0 ≤ far (x.stop m) (x.stop k) := by
  have hl := hx.len
  rw [near_getD hx h hk, Inst.stop_at (k := m) (by omega)]
  exact nearK_far x _ _ hne
theorem near_length {x : Inst} {p : Nat} (hx : x.Fit p) (h : x.may = true) : x.near.length = 2 * p + 1 := by rw [near_may h, nears_len, hx.len]
theorem lowP_cons {near : List Int} {may : Nat} (h : 2 ≤ near.length) : lowP near may = near.getD 0 0 + lefts may 0 near := by
  match near, h with
  | a :: b :: l, _ => rfl
  | [], h => simp at h
  | [_], h => simp at h
theorem lowP_in {near : List Int} (hn : ∀ d ∈ near, 0 ≤ d ∧ d ≤ 14143) (may : Nat) : 0 ≤ lowP near may ∧ lowP near may ≤ 14143 * (near.length + 1) := by
  by_cases h : 2 ≤ near.length
  · rw [lowP_cons h]
    have h1 := lefts_in may 0 near hn
    have h2 : 0 ≤ near.getD 0 0 ∧ near.getD 0 0 ≤ 14143 := by
      rw [List.getD_eq_getElem?_getD, List.getElem?_eq_getElem (by omega)]
      exact hn _ (List.getElem_mem _)
    omega
  · match near, h with
    | [], _ => simp [lowP]
    | [_], _ => simp [lowP]
    | a :: b :: l, h => simp at h
/-- A state whose stop, if it is not the yard, was surely seen. -/
def State.seenAt (s : State) : Prop := s.spot = 0 ∨ hasB s.must s.spot = true
theorem low_step {x : Inst} {s : State} {j : Int} (hs : s.seenAt) (h : (x.move s j).2.2 = true) : lowP x.near s.can ≤ (x.move s j).2.1 + lowP x.near (x.move s j).1.can := by
  by_cases hj : j = 0
  · subst hj
    obtain ⟨_, _, _, e⟩ := move_home h
    rw [e]
    have := (far_le (x.stop s.spot) (x.stop 0)).1
    show _ ≤ far (x.stop s.spot) (x.stop 0) + lowP x.near s.can
    omega
  · obtain ⟨hm, hmay, h1, h2, h3, _, _, e⟩ := move_pos h hj
    obtain ⟨p, hx⟩ := x.fit hm
    have hp := hx.pairs
    have hfew := hx.few
    have hst := s.fit hx hmay
    rw [e]
    show _ ≤ far (x.stop s.spot) (x.stop j) + lowP x.near (withN s.can j)
    obtain ⟨k, rfl⟩ : ∃ k : Nat, j = k := ⟨j.toNat, by omega⟩
    obtain ⟨m, hmm⟩ : ∃ m : Nat, s.spot = m := ⟨s.spot.toNat, by have := hst.spot; omega⟩
    have hne : m ≠ k := by
      rintro rfl
      rcases hs with hs | hs
      · omega
      · rw [Inst.lateB, ← hmm, hs] at h3; simp at h3
    have hlen := near_length hx hm
    have hf := near_far hx hm (k := k) (m := m) (by omega) (by have := hst.spot; omega) hne
    rw [lowP_cons (by omega), lowP_cons (by omega), hmm]
    have := lefts_with (may := s.can) (j := k) (by omega) (by omega) 0 x.near (by omega) (near_le x)
    rw [Nat.sub_zero] at this
    omega
theorem lefts_all {may : Nat} : ∀ (i : Nat) (l : List Int), (∀ j : Nat, i ≤ j → j < i + l.length → 0 < j → hasB may j = true) → lefts may i l = 0
  | _, [], _ => rfl
  | i, d :: l, h => by
    rw [lefts, lefts_all (i + 1) l fun j h1 h2 h3 => h j (by omega) (by simp only [List.length_cons]; omega) h3]
    have : ¬ (0 < i ∧ hasB may i = false) := fun ⟨h1, h2⟩ => by
      rw [h i (Nat.le_refl _) (by simp) h1] at h2
      cases h2
    rw [if_neg this]
    rfl
theorem end_is {x : Inst} {s : State} (h : (x.endS s).2 = true) : x.may = true ∧ ((x.pairs = 0 ∧ s = x.rootS ∧ x.endS s = (0, true)) ∨
    (s.mayB x = true ∧ s.spot ≠ 0 ∧ s.on = 0 ∧ x.allB s.can = true ∧ s.time + far (x.stop s.spot) (x.stop 0) ≤ (x.stop 0).due ∧ x.endS s = (far (x.stop s.spot) (x.stop 0), true))) := by
  unfold Inst.endS at h ⊢
  split at h
  · cases h
  · rename_i h1
    have hm : x.may = true := by simpa using h1
    refine ⟨hm, ?_⟩
    rw [if_neg h1]
    split at h
    · rename_i h2
      rw [if_pos h2]
      exact .inl ⟨h2.1, h2.2, rfl⟩
    · rename_i h2
      rw [if_neg h2]
      split at h
      · rename_i h3
        rw [if_pos h3]
        exact .inr ⟨h3.1, h3.2.1, h3.2.2.1, h3.2.2.2.1, h3.2.2.2.2, rfl⟩
      · cases h
theorem low_end {x : Inst} {s : State} (h : (x.endS s).2 = true) : lowP x.near s.can ≤ (x.endS s).1 := by
  obtain ⟨hm, h⟩ := end_is h
  obtain ⟨p, hx⟩ := x.fit hm
  have hp := hx.pairs
  have hlen := near_length hx hm
  rcases h with ⟨h1, h2, e⟩ | ⟨h1, h2, h3, h4, h5, e⟩
  · rw [e]
    have : x.near.length = 1 := by omega
    match hn : x.near, this with
    | [a], _ => simp [lowP]
  · have hst := s.fit hx h1
    have hp1 : 1 ≤ p := by have := hst.spot; omega
    rw [e, lowP_cons (by omega), lefts_all 0 x.near fun j _ hj h0 => by
      have := hx.few
      rw [has_testN (by omega)]
      exact Inst.all_bit hx h4 (by omega) (by omega)]
    obtain ⟨m, hmm⟩ : ∃ m : Nat, s.spot = m := ⟨s.spot.toNat, by have := hst.spot; omega⟩
    have hf := near_far hx hm (k := 0) (m := m) (by omega) (by have := hst.spot; omega) (by omega)
    rw [hmm]
    show _ ≤ far (x.stop m) (x.stop 0)
    have e0 : x.stop ((0 : Nat) : Int) = x.stop 0 := rfl
    rw [e0] at hf
    omega
/-- Where a move leads to was surely seen. -/
theorem seen_step {x : Inst} {s : State} {j : Int} (h : (x.move s j).2.2 = true) : (x.move s j).1.seenAt := by
  by_cases hj : j = 0
  · subst hj
    obtain ⟨_, _, _, e⟩ := move_home h
    rw [e]
    exact .inl rfl
  · obtain ⟨hm, _, h1, h2, _, _, _, e⟩ := move_pos h hj
    obtain ⟨p, hx⟩ := x.fit hm
    have hp := hx.pairs
    have hfew := hx.few
    rw [e]
    refine .inr ?_
    show hasB (withN s.must j) j = true
    obtain ⟨k, rfl⟩ : ∃ k : Nat, j = k := ⟨j.toNat, by omega⟩
    rw [has_withN (by omega)]
    simp
end Go.Proofs.Ytlhmchdfmjfmgaa

/- BoundSteps, BoundWays: what the laws give. -/
set_option maxRecDepth 4000
namespace Go.Proofs.Ytlhmchdfmjfmgaa
open Go Go.Proofs.Ytlhmchdfmjfmgaa.R
theorem canB_mem {f : Nat → Bool} : ∀ {n : Nat} {j : Int}, j ∈ canB f n → ∃ k : Nat, j = k ∧ k < n ∧ f k = true
  | 0, j, h => by cases h
  | n + 1, j, h => by
    rw [canB, List.mem_append] at h
    rcases h with h | h
    · obtain ⟨k, h1, h2, h3⟩ := canB_mem h
      exact ⟨k, h1, by omega, h3⟩
    · split at h
      · rename_i hf
        rw [List.mem_singleton] at h
        exact ⟨n, h, by omega, hf⟩
      · cases h
theorem moves_mem {x : Inst} {s : State} {j : Int} (h : j ∈ x.moves s) : (x.move s j).2.2 = true := by
  rw [moves_can] at h
  obtain ⟨k, rfl, _, h3⟩ := canB_mem h
  exact h3
theorem moves_len (x : Inst) (s : State) : (x.moves s).length ≤ x.stops.length := by
  rw [moves_can]
  exact canB_len _ _
theorem move_cost {x : Inst} {s : State} {j : Int} (h : (x.move s j).2.2 = true) : 0 ≤ (x.move s j).2.1 ∧ (x.move s j).2.1 ≤ 14143 := by
  obtain ⟨_, _, _, _, e⟩ := move_is h
  rw [e]
  exact far_le _ _
end Go.Proofs.Ytlhmchdfmjfmgaa

/- BoundWays: what the law gives. -/
set_option maxRecDepth 4000
namespace Go.Proofs.Ytlhmchdfmjfmgaa
open Go Go.Proofs.Ytlhmchdfmjfmgaa.R
theorem sumI_two {a b : Int} (ha : 0 ≤ a) (hb : 0 ≤ b) (h : a + b ≤ 1152921504606846976) : sumI [a, b] = a + b := by
  simp only [sumI, List.foldl_cons, List.foldl_nil, sum1]
  omega
/-- Moves that can be followed: as costs that don't grow too great. -/
theorem goes_app (x : Inst) : ∀ (l m : List Int) (s : State) (c : Int), x.goes (l ++ m) s c = (x.goes l s c).bind fun r => x.goes m r.1 r.2
  | [], m, s, c => rfl
  | j :: l, m, s, c => by
    rw [List.cons_append, Inst.goes, Inst.goes]
    split
    · exact goes_app x l m _ _
    · rfl
theorem seen_root (x : Inst) : x.rootS.seenAt := by
  unfold Inst.rootS
  split <;> exact .inl rfl
theorem end_cost {x : Inst} {s : State} (h : (x.endS s).2 = true) : 0 ≤ (x.endS s).1 ∧ (x.endS s).1 ≤ 14143 := by
  obtain ⟨_, h | h⟩ := end_is h
  · rw [h.2.2]; omega
  · rw [h.2.2.2.2.2]; exact far_le _ _
end Go.Proofs.Ytlhmchdfmjfmgaa

/- Once of each state: the program's, by a map. -/
set_option maxRecDepth 4000
namespace Go.Proofs.Ytlhmchdfmjfmgaa
open Go Go.Proofs.Ytlhmchdfmjfmgaa.R
def sIdx (s : State) : List Node → Option Nat
  | [] => none
  | m :: l => if m.s = s then some 0 else (sIdx s l).map (· + 1)
def once1 (out : List Node) (n : Node) : List Node := match sIdx n.s out with
  | none => out ++ [n]
  | some i => if n.cost < (out.getD i n).cost then out.set i n else out
def onceL (l : List Node) : List Node := l.foldl once1 []
def State.v (s : State) : Value := .agg #[.int .i64 s.spot, .int .i64 s.car, .int .i64 s.time, .int .i64 s.load, .int .i64 s.first, .int .u64 s.must, .int .u64 s.can, .int .u64 s.on]
theorem State.plain (s : State) : plainA s.a = some s.v := rfl
/-- Nodes as they may be. -/
structure Node.Fine (n : Node) : Prop where
  ok : n.s.ok
  len : n.path.length < 2 ^ 31
end Go.Proofs.Ytlhmchdfmjfmgaa

/- Once of each state: the document's; whether two lists of nodes are the same; few. -/
set_option maxRecDepth 4000
namespace Go.Proofs.Ytlhmchdfmjfmgaa
open Go Go.Proofs.Ytlhmchdfmjfmgaa.R
def fewB (l : List Node) : Bool := decide (l.length ≤ 60) && l.all fun n => decide (n.path.length ≤ 100)
end Go.Proofs.Ytlhmchdfmjfmgaa

/- The nodes behind all moves of one: the iterator. -/
set_option maxRecDepth 4000
namespace Go.Proofs.Ytlhmchdfmjfmgaa
open Go Go.Proofs.Ytlhmchdfmjfmgaa.R
def Inst.child (x : Inst) (n : Node) (j : Int) : Node := ⟨(x.move n.s j).1, sumI [n.cost, (x.move n.s j).2.1], n.path ++ [j]⟩
end Go.Proofs.Ytlhmchdfmjfmgaa

/- All moves of some nodes, and the best one that can be ended. -/
set_option maxRecDepth 4000
namespace Go.Proofs.Ytlhmchdfmjfmgaa
open Go Go.Proofs.Ytlhmchdfmjfmgaa.R
def Inst.kids (x : Inst) (up : Int) (n : Node) : List Node := ((x.moves n.s).map (x.child n)).filter fun c => decide (x.of c < up)
def Node.zero : Node := ⟨State.zero, 0, []⟩
def Inst.best1 (x : Inst) (b : Node × Bool) (n : Node) : Node × Bool :=
  if (x.endS n.s).2 = true ∧ (b.2 = false ∨ sumI [n.cost, (x.endS n.s).1] < b.1.cost) then ({ n with cost := sumI [n.cost, (x.endS n.s).1] }, true) else b
def Inst.bests (x : Inst) (l : List Node) : Node × Bool := l.foldl x.best1 (Node.zero, false)
def Inst.next (x : Inst) (l : List Node) (up : Int) : List Node := onceL (l.flatMap (x.kids up))
end Go.Proofs.Ytlhmchdfmjfmgaa

/- The law of a level's next one. -/
set_option maxRecDepth 4000
namespace Go.Proofs.Ytlhmchdfmjfmgaa
open Go Go.Proofs.Ytlhmchdfmjfmgaa.R
theorem once1_mem {out : List Node} {n m : Node} (h : m ∈ once1 out n) : m ∈ out ∨ m = n := by
  unfold once1 at h
  split at h
  · rcases List.mem_append.1 h with h | h
    · exact .inl h
    · exact .inr (List.mem_singleton.1 h)
  · split at h
    · exact List.mem_or_eq_of_mem_set h
    · exact .inl h
theorem fold_mem : ∀ (l out : List Node) {m : Node}, m ∈ l.foldl once1 out → m ∈ out ∨ m ∈ l
  | [], out, m, h => .inl h
  | n :: l, out, m, h => by
    rcases fold_mem l (once1 out n) h with h | h
    · rcases once1_mem h with h | rfl
      · exact .inl h
      · exact .inr List.mem_cons_self
    · exact .inr (List.mem_cons_of_mem _ h)
theorem onceL_mem {l : List Node} {m : Node} (h : m ∈ onceL l) : m ∈ l := (fold_mem l [] h).resolve_left (by simp)
theorem next_mem {x : Inst} {l : List Node} {up : Int} {m : Node} (h : m ∈ x.next l up) : ∃ n ∈ l, ∃ j ∈ x.moves n.s, m = x.child n j ∧ x.of m < up := by
  obtain ⟨n, hn, hc⟩ := List.mem_flatMap.1 (onceL_mem h)
  obtain ⟨hc, hu⟩ := List.mem_filter.1 hc
  obtain ⟨j, hj, rfl⟩ := List.mem_map.1 hc
  exact ⟨n, hn, j, hj, rfl, by simpa using hu⟩
end Go.Proofs.Ytlhmchdfmjfmgaa

/- Nodes that no other one leaves without use: the plain laws. -/
set_option maxRecDepth 4000
namespace Go.Proofs.Ytlhmchdfmjfmgaa
open Go Go.Proofs.Ytlhmchdfmjfmgaa.R
theorem within_refl (s : Nat) : withinB s s = true := by
  rw [withinB, List.all_eq_true]
  intro i _
  cases s.testBit i <;> rfl
theorem within_trans {s t u : Nat} (h1 : withinB s t = true) (h2 : withinB t u = true) : withinB s u = true := by
  rw [withinB, List.all_eq_true] at *
  intro i hi
  have a := h1 i hi
  have b := h2 i hi
  revert a b
  cases s.testBit i <;> cases t.testBit i <;> cases u.testBit i <;> simp
def Node.than (a b : Node) : Bool := decide (a.cost ≤ b.cost) && (decide (a.s.must = b.s.must) && decide (a.s.can = b.s.can) && decide (a.s.on = b.s.on)) && coversB a.s b.s
theorem covers_refl (s : State) : coversB s s = true := by
  simp [coversB, within_refl]
theorem covers_trans {a b c : State} (h1 : coversB a b = true) (h2 : coversB b c = true) : coversB a c = true := by
  simp only [coversB, Bool.and_eq_true, decide_eq_true_eq] at *
  obtain ⟨⟨⟨⟨⟨⟨⟨a1, a2⟩, a3⟩, a4⟩, a5⟩, a6⟩, a7⟩, a8⟩ := h1
  obtain ⟨⟨⟨⟨⟨⟨⟨b1, b2⟩, b3⟩, b4⟩, b5⟩, b6⟩, b7⟩, b8⟩ := h2
  exact ⟨⟨⟨⟨⟨⟨⟨a1.trans b1, within_trans a2 b2⟩, within_trans a3 b3⟩, within_trans b4 a4⟩, by omega⟩, by omega⟩, by omega⟩, by omega⟩
theorem than_refl (a : Node) : a.than a = true := by simp [Node.than, covers_refl]
theorem than_trans {a b c : Node} (h1 : a.than b = true) (h2 : b.than c = true) : a.than c = true := by
  simp only [Node.than, Bool.and_eq_true, decide_eq_true_eq] at *
  obtain ⟨⟨a1, ⟨a2, a3⟩, a4⟩, a5⟩ := h1
  obtain ⟨⟨b1, ⟨b2, b3⟩, b4⟩, b5⟩ := h2
  exact ⟨⟨by omega, ⟨by omega, by omega⟩, by omega⟩, covers_trans a5 b5⟩
def front1 (out : List Node) (b : Node) : List Node := if out.any (fun a => a.than b) = true then out else (out.filter fun a => !b.than a) ++ [b]
def frontL (l : List Node) : List Node := l.foldl front1 []
def blk (pre : List Node) (b : Node) (post : List Node) : Bool := pre.any (fun a => a.than b) || post.any fun c => c.than b && !b.than c
def frR (pre : List Node) : List Node → List Node → List Node
  | [], _ => []
  | b :: l, post => (if blk pre b (l ++ post) = true then [] else [b]) ++ frR (pre ++ [b]) l post
theorem frR_post (c : Node) : ∀ (l pre : List Node), frR pre l [c] = (frR pre l []).filter fun b => !(c.than b && !b.than c)
  | [], pre => rfl
  | b :: l, pre => by
    rw [frR, frR, List.filter_append, frR_post c l]
    congr 1
    have : blk pre b (l ++ [c]) = (blk pre b (l ++ []) || (c.than b && !b.than c)) := by
      simp [blk, Bool.or_assoc]
    rw [this]
    generalize hq : (c.than b && !b.than c) = q
    cases blk pre b (l ++ []) <;> cases q <;> simp only [Bool.or_true, Bool.or_false, Bool.false_eq_true, if_true, if_false, List.filter_cons, List.filter_nil, hq, Bool.not_true, Bool.not_false]
theorem frR_app (c : Node) : ∀ (l pre : List Node), frR pre (l ++ [c]) [] = frR pre l [c] ++ (if (pre ++ l).any (fun a => a.than c) = true then [] else [c])
  | [], pre => by simp [frR, blk]
  | b :: l, pre => by
    rw [List.cons_append, frR, frR, frR_app c l, List.append_nil, List.append_assoc, List.append_assoc]
    simp
structure FrInv (pre F : List Node) : Prop where
  up : ∀ a ∈ pre, ∃ f ∈ F, f.than a = true
  sub : ∀ f ∈ F, f ∈ pre
  one : ∀ f ∈ F, ∀ b ∈ F, f.than b = true → f = b
  eq : F = frR [] pre []
theorem FrInv.step {pre F : List Node} (h : FrInv pre F) (c : Node) : FrInv (pre ++ [c]) (front1 F c) := by
  have hany : pre.any (fun a => a.than c) = F.any fun a => a.than c := by
    rw [Bool.eq_iff_iff, List.any_eq_true, List.any_eq_true]
    constructor
    · rintro ⟨a, ha, hc⟩
      obtain ⟨f, hf, hfa⟩ := h.up a ha
      exact ⟨f, hf, than_trans hfa hc⟩
    · rintro ⟨f, hf, hc⟩
      exact ⟨f, h.sub f hf, hc⟩
  have he : frR [] (pre ++ [c]) [] = front1 F c := by
    rw [frR_app, frR_post, ← h.eq, List.nil_append, hany]
    unfold front1
    by_cases hc : F.any (fun a => a.than c) = true
    · rw [if_pos hc, if_pos hc, List.append_nil]
      rw [List.filter_eq_self]
      intro b hb
      rw [List.any_eq_true] at hc
      obtain ⟨f, hf, hfc⟩ := hc
      cases h1 : c.than b with
      | false => rfl
      | true =>
        have := h.one f hf b hb (than_trans hfc h1)
        subst this
        simp [hfc]
    · rw [if_neg hc, if_neg hc]
      congr 1
      refine List.filter_congr fun b hb => ?_
      have : b.than c = false := by
        cases h1 : b.than c with
        | false => rfl
        | true => exact absurd (List.any_eq_true.2 ⟨b, hb, h1⟩) hc
      simp [this]
  refine ⟨?_, ?_, ?_, he.symm⟩
  · intro a ha
    unfold front1
    split
    · rename_i hc
      rcases List.mem_append.1 ha with ha | ha
      · exact h.up a ha
      · rw [List.mem_singleton.1 ha]
        obtain ⟨f, hf, hfc⟩ := List.any_eq_true.1 hc
        exact ⟨f, hf, hfc⟩
    · rcases List.mem_append.1 ha with ha | ha
      · obtain ⟨f, hf, hfa⟩ := h.up a ha
        cases h1 : c.than f with
        | true => exact ⟨c, by simp, than_trans h1 hfa⟩
        | false => exact ⟨f, List.mem_append_left _ (List.mem_filter.2 ⟨hf, by simp [h1]⟩), hfa⟩
      · rw [List.mem_singleton.1 ha]
        exact ⟨c, by simp, than_refl c⟩
  · intro f hf
    unfold front1 at hf
    split at hf
    · exact List.mem_append_left _ (h.sub f hf)
    · rcases List.mem_append.1 hf with hf | hf
      · exact List.mem_append_left _ (h.sub f (List.mem_filter.1 hf).1)
      · exact List.mem_append_right _ hf
  · intro f hf b hb hfb
    unfold front1 at hf hb
    split at hf
    · rename_i hc
      rw [if_pos hc] at hb
      exact h.one f hf b hb hfb
    · rename_i hc
      rw [if_neg hc] at hb
      rcases List.mem_append.1 hf with hf | hf <;> rcases List.mem_append.1 hb with hb | hb
      · exact h.one f (List.mem_filter.1 hf).1 b (List.mem_filter.1 hb).1 hfb
      · rw [List.mem_singleton.1 hb] at hfb
        exact absurd (List.any_eq_true.2 ⟨f, (List.mem_filter.1 hf).1, hfb⟩) hc
      · rw [List.mem_singleton.1 hf] at hfb
        have := (List.mem_filter.1 hb).2
        rw [hfb] at this
        cases this
      · rw [List.mem_singleton.1 hf, List.mem_singleton.1 hb]
theorem FrInv.fold : ∀ {l pre F : List Node}, FrInv pre F → FrInv (pre ++ l) (l.foldl front1 F)
  | [], pre, F, h => by rw [List.append_nil]; exact h
  | c :: l, pre, F, h => by
    have := (h.step c).fold (l := l)
    rw [List.append_assoc] at this
    exact this
theorem front_inv (l : List Node) : FrInv l (frontL l) := by
  have : FrInv [] [] := ⟨by simp, by simp, by simp, rfl⟩
  exact this.fold (l := l)
end Go.Proofs.Ytlhmchdfmjfmgaa

/- Nodes in the order of what they cost at least: level.Sorted. -/
set_option maxRecDepth 4000
set_option maxHeartbeats 1000000
namespace Go.Proofs.Ytlhmchdfmjfmgaa
open Go Go.Proofs.Ytlhmchdfmjfmgaa.R
/-- Nodes in the order of what they cost at least; those that cost the same stay as they stood. -/
def Inst.sortN (x : Inst) (l : List Node) : List Node := isort x.of l
theorem Inst.sortN_mem {x : Inst} {l : List Node} {n : Node} : n ∈ x.sortN l ↔ n ∈ l := isort_mem
end Go.Proofs.Ytlhmchdfmjfmgaa

/- What a level's next one keeps: the plain laws. -/
set_option maxRecDepth 4000
namespace Go.Proofs.Ytlhmchdfmjfmgaa
open Go Go.Proofs.Ytlhmchdfmjfmgaa.R
theorem canB_of {f : Nat → Bool} : ∀ {n k : Nat}, k < n → f k = true → (k : Int) ∈ canB f n
  | n + 1, k, h, hf => by
    rw [canB, List.mem_append]
    by_cases e : k = n
    · subst e
      exact .inr (by rw [if_pos hf]; simp)
    · exact .inl (canB_of (by omega) hf)
theorem mem_moves {x : Inst} {s : State} {j : Int} (h : (x.move s j).2.2 = true) : j ∈ x.moves s := by
  have hm : x.may = true := by
    by_cases e : j = 0
    · subst e; exact (move_home h).1
    · exact (move_pos h e).1
  obtain ⟨p, hx⟩ := x.fit hm
  have h1 := hx.len
  have h2 := hx.pairs
  have hj : 0 ≤ j ∧ j < x.stops.length := by
    by_cases e : j = 0
    · omega
    · have := move_pos h e
      omega
  rw [moves_can]
  have : ((j.toNat : Nat) : Int) = j := by omega
  rw [← this]
  exact canB_of (by omega) (by rw [this]; exact h)
end Go.Proofs.Ytlhmchdfmjfmgaa

/- Looking at all: the plain part. -/
set_option maxRecDepth 4000
namespace Go.Proofs.Ytlhmchdfmjfmgaa
open Go Go.Proofs.Ytlhmchdfmjfmgaa.R
def Inst.base (x : Inst) (s : State) : Nat := ((List.range (2 * x.pairs.toNat + 1)).filter fun j : Nat => decide (1 ≤ j) && !hasB s.must (j : Int)).length + (x.cars - s.car).toNat
theorem base_move {x : Inst} {s : State} {j : Int} (h : (x.move s j).2.2 = true) : x.base (x.move s j).1 < x.base s := by
  by_cases e : j = 0
  · subst e
    obtain ⟨_, _, h3, h4⟩ := move_home h
    rw [h4]
    simp only [Inst.stayB, Bool.or_eq_false_iff, decide_eq_false_iff_not] at h3
    simp only [Inst.base, Inst.homeS]
    have := h3.1.1.2
    omega
  · obtain ⟨h1, h2, h3, h4, h5, _, _, h6⟩ := move_pos h e
    obtain ⟨p, hx⟩ := x.fit h1
    have := hx.few
    have := hx.pairs
    rw [h6]
    simp only [Inst.lateB, Bool.or_eq_false_iff] at h5
    simp only [Inst.base, Inst.rvisit]
    obtain ⟨k, rfl⟩ : ∃ k : Nat, j = k := ⟨j.toNat, by omega⟩
    refine Nat.add_lt_add_right (filter_lt _ (a := k) (List.mem_range.2 (by omega)) ?_ ?_ ?_) _
    · rw [h5.1]
      simp only [Bool.not_false, Bool.and_true, decide_eq_true_eq]
      omega
    · rw [has_withN (by omega)]
      simp
    · intro b
      rw [has_withN (by omega)]
      simp only [Bool.and_eq_true, Bool.not_eq_true', Bool.or_eq_false_iff]
      exact fun h => ⟨h.1, h.2.1⟩
def Inst.meas (x : Inst) (s : State) : Nat := if x.may = true ∧ s.mayB x = true then x.base s else 0
theorem move_may {x : Inst} {s : State} {j : Int} (h : (x.move s j).2.2 = true) : x.may = true ∧ s.mayB x = true := by
  by_cases e : j = 0
  · subst e
    exact ⟨(move_home h).1, (move_home h).2.1⟩
  · exact ⟨(move_pos h e).1, (move_pos h e).2.1⟩
theorem meas_move {x : Inst} {s : State} {j : Int} (h : (x.move s j).2.2 = true) : x.meas (x.move s j).1 < x.meas s := by
  have h1 := base_move h
  have h2 := move_may h
  have : x.meas (x.move s j).1 ≤ x.base (x.move s j).1 := by
    unfold Inst.meas
    split <;> omega
  have : x.meas s = x.base s := by rw [Inst.meas, if_pos h2]
  omega
def Inst.look (x : Inst) (st : Node × Bool × Int) (l : List Node) : Node × Bool × Int :=
  if (x.bests l).2 = true ∧ (x.bests l).1.cost < st.2.2 then ((x.bests l).1, true, (x.bests l).1.cost) else st
def Inst.exGo (x : Inst) (most : Int) : Nat → Node × Bool × Int → List Node → Int → Node × Bool × Bool × Int
  | 0, st, _, n => (st.1, st.2.1, true, n)
  | d + 1, st, l, n => if l.length = 0 then (st.1, st.2.1, true, n) else if most < l.length then (st.1, st.2.1, false, n) else
    x.exGo most d (x.look st l) (frontL (x.next l st.2.2)) (IntKind.i64.wrap (n + l.length))
def Inst.exact (x : Inst) (n : Node) (up most : Int) : Node × Bool × Bool × Int := x.exGo most (x.meas n.s + 1) (Node.zero, false, up) [n] 0
/-- What holds of a level. -/
structure Level (x : Inst) (l : List Node) (d K : Nat) : Prop where
  ok : ∀ n ∈ l, n.s.ok
  deep : ∀ n ∈ l, x.meas n.s < d
  path : ∀ n ∈ l, n.path.length + d ≤ K
theorem Level.next {x : Inst} {l : List Node} {d K : Nat} (h : Level x l (d + 1) K) (up : Int) : Level x (frontL (x.next l up)) d K := by
  have key : ∀ m ∈ frontL (x.next l up), ∃ n ∈ l, ∃ j, (x.move n.s j).2.2 = true ∧ m = x.child n j := by
    intro m hm
    obtain ⟨n, hn, j, hj, e, _⟩ := next_mem ((front_inv _).sub m hm)
    exact ⟨n, hn, j, moves_mem hj, e⟩
  refine ⟨?_, ?_, ?_⟩
  · intro m hm
    obtain ⟨n, hn, j, hj, rfl⟩ := key m hm
    exact move_ok x j (h.ok n hn)
  · intro m hm
    obtain ⟨n, hn, j, hj, rfl⟩ := key m hm
    have := meas_move hj
    have := h.deep n hn
    show x.meas (x.move n.s j).1 < d
    omega
  · intro m hm
    obtain ⟨n, hn, j, hj, rfl⟩ := key m hm
    have := h.path n hn
    show (n.path ++ [j]).length + d ≤ K
    rw [List.length_append]
    simp only [List.length_cons, List.length_nil]
    omega
end Go.Proofs.Ytlhmchdfmjfmgaa

/- A good plan, by looking at few: the plain function, the program's, the document's. -/
set_option maxRecDepth 4000
set_option maxHeartbeats 1000000
namespace Go.Proofs.Ytlhmchdfmjfmgaa
open Go Go.Proofs.Ytlhmchdfmjfmgaa.R
/-- The level behind one. -/
def Inst.few (x : Inst) (W : Nat) (l : List Node) (up : Int) : List Node := (x.sortN (x.next l up)).take W
theorem few_mem {x : Inst} {W : Nat} {l : List Node} {up : Int} {n : Node} (h : n ∈ x.few W l up) : n ∈ x.next l up := Inst.sortN_mem.1 (List.mem_of_mem_take h)
theorem Level.few {x : Inst} {l : List Node} {d K : Nat} (h : Level x l (d + 1) K) (W : Nat) (up : Int) : Level x (x.few W l up) d K := by
  have key : ∀ m ∈ x.few W l up, ∃ n ∈ l, ∃ j, (x.move n.s j).2.2 = true ∧ m = x.child n j := by
    intro m hm
    obtain ⟨n, hn, j, hj, e, _⟩ := next_mem (few_mem hm)
    exact ⟨n, hn, j, moves_mem hj, e⟩
  refine ⟨?_, ?_, ?_⟩
  · intro m hm
    obtain ⟨n, hn, j, hj, rfl⟩ := key m hm
    exact move_ok x j (h.ok n hn)
  · intro m hm
    obtain ⟨n, hn, j, hj, rfl⟩ := key m hm
    have := meas_move hj
    have := h.deep n hn
    show x.meas (x.move n.s j).1 < d
    omega
  · intro m hm
    obtain ⟨n, hn, j, hj, rfl⟩ := key m hm
    have := h.path n hn
    show (n.path ++ [j]).length + d ≤ K
    rw [List.length_append]
    simp only [List.length_cons, List.length_nil]
    omega
end Go.Proofs.Ytlhmchdfmjfmgaa
