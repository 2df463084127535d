/- Parts of the proof: Mat, MatR, Near, NearR, Bound, Bound2, StateR, StateR2, StateR3, Node, Bound3, Bound4, Pf, ArgPf, PfC, PfW, Deep, PfL, PfH, PfP, Lists, SortP, SortW, Late, Seen, LowP, Law12. -/
import Derived.Test.YtlhmchdfmjfmgaaGreatME
set_option linter.unusedVariables false
/- How far it is from each to each. -/
set_option maxRecDepth 4000
namespace Go.Proofs.YtlhmchdfmjfmgaaGreat
open Go Go.Proofs.YtlhmchdfmjfmgaaGreat.R
def Inst.row (x : Inst) (a : Stop) : List Int := x.stops.map (far a)
def Inst.mat (x : Inst) : List (List Int) := if x.may then x.stops.map x.row else []
abbrev Inst.cs (x : Inst) : List AV := [.t (.i x.pairs), .t (.i x.cars), .t (.i x.room), .t (.sl (x.stops.map Stop.t))]
theorem ints_snoc (l : List Int) (n : Int) : ints l ++ [[.i n]] = ints (l ++ [n]) := by simp [ints]
def Inst.rows (x : Inst) : List (List T) := x.stops.map fun a => rowT (x.row a)
theorem Inst.rows_len (x : Inst) : x.rows.length = x.stops.length := List.length_map _
theorem Inst.row_len (x : Inst) (a : Stop) : (x.row a).length = x.stops.length := List.length_map _
theorem Inst.rows_snoc (x : Inst) {k : Nat} (h : k < x.stops.length) : x.rows.take (k + 1) = x.rows.take k ++ [rowT (x.row x.stops[k])] := by
  rw [List.take_succ_eq_append_getElem (by rw [x.rows_len]; exact h)]
  simp [Inst.rows]
theorem Inst.row_snoc (x : Inst) (a : Stop) {i : Nat} (h : i < x.stops.length) : (x.row a).take (i + 1) = (x.row a).take i ++ [far a x.stops[i]] := by
  rw [List.take_succ_eq_append_getElem (by rw [x.row_len]; exact h)]
  simp [Inst.row]
theorem Inst.mat_rows (x : Inst) : x.mat.map rowT = if x.may then x.rows else [] := by
  unfold Inst.mat
  split
  · simp [Inst.rows]
  · rfl
theorem matrix_pure (x : Inst) (hl : x.stops.length < 2 ^ 31) : Pure P 91 [x.a] (.t (.sl (x.mat.map rowT))) := by
  rw [x.mat_rows]
  refine pure_of Tryz.func91 rfl rfl (by simp [Tryz.f91]) (by simp [bnd, bnd.bndL, Inst.a]) (by split <;> simp [bnd]) fun B hB hnx => ?_
  simp only [Tryz.f91] at hB ⊢
  have hm : mostLen = 4294967296 := rfl
  refine K_run hB 60 ?_
  simp [go_sem, Inst.a]
  refine K_call rfl rfl rfl (args := [x.a]) (f := 14) (by simp [go_sem, Inst.a]) (by simp [go_sem, hB]) ((may_pure x (by omega)).spec _ _) ?_
  by_cases h0 : x.may = true
  rotate_left
  · have h0' : x.may = false := by simpa using h0
    rw [h0']
    refine K_run hB 60 ?_
    simp [go_sem, h0']
  rw [h0]
  refine K_run hB 60 ?_
  simp [go_sem]
  refine K_own 3 1 (by simp [go_sem]) ?_
  refine K_loopP (α := Nat × Nat × (Nat → AObj) × Nat) (fun (k, j, σ, nx) => k ≤ x.stops.length ∧ σ 0 = .box x.cs ∧ σ j = .arr 1 (x.rows.take k) ∧ 0 < j ∧ j < nx)
    (fun (k, j, σ, nx) => ⟨sl [(1, .ptr 0 0), (3, .ref j), (13, .t (.sl (x.stops.map Stop.t))), (14, .i x.stops.length), (15, .i k)], σ, nx⟩) (fun y => x.stops.length - y.1) (0, 1, _, 2)
    ?_ (Imp.slots (by simp [go_sem]) rfl rfl) ?_
  · exact ⟨Nat.zero_le _, by simp [oput], by simp [oput], by omega, by omega⟩
  rintro ⟨k, j, σ, nx⟩ ⟨g1, c0, cj, gj, gn⟩
  refine K_run hB 60 ?_
  simp [go_sem]
  refine fork_dec (fun h => ?_) (fun h => ?_)
  rotate_left
  · have : k = x.stops.length := by omega
    subst this
    rw [← x.rows_len, List.take_length] at cj
    simp [go_sem, cj, h0]
  have htk := x.rows_snoc h
  have hrl := x.rows_len
  have hkk : IntKind.i64.wrap ((k : Int) + 1) = ((k + 1 : Nat) : Int) := by rw [w64 ((k : Int) + 1) (by omega)]; rfl
  generalize ha : x.stops[k] = a at *
  have hn0 : ¬ 0 = nx := by omega
  simp [go_sem, h, ha, Stop.t, c0, hn0]
  refine K_own 6 1 (by simp [go_sem]) ?_
  refine K_loopP (α := Nat × Nat × (Nat → AObj) × Nat) (fun (i, q, σ', nx') => i ≤ x.stops.length ∧ σ' 0 = .box x.cs ∧ σ' j = .arr 1 (x.rows.take k) ∧ σ' nx = .box (a.t.map .t) ∧ σ' q = .arr 1 (ints ((x.row a).take i)) ∧ nx < q ∧ q < nx')
    (fun (i, q, σ', nx') => ⟨sl [(1, .ptr 0 0), (3, .ref j), (13, .t (.sl (x.stops.map Stop.t))), (14, .i x.stops.length), (15, .i k), (5, .ptr nx 0), (6, .ref q), (20, .t (.sl (x.stops.map Stop.t))), (21, .i x.stops.length), (22, .i i)], σ', nx'⟩) (fun y => x.stops.length - y.1) (0, nx + 1, _, nx + 2)
    ?_ (Imp.slots (by simp [go_sem]) rfl rfl) ?_
  · exact ⟨Nat.zero_le _, by simp [oput, c0, hn0], by simp [oput, cj, show j ≠ nx by omega, show j ≠ nx + 1 by omega], by simp [oput, Stop.t], by simp [oput, ints], by omega, by omega⟩
  rintro ⟨i, q, σ', nx'⟩ ⟨i1, d0, dj, da, dq, i2, i3⟩
  refine K_run hB 60 ?_
  simp [go_sem]
  refine fork_dec (fun hi => ?_) (fun hi => ?_)
  · have hti := x.row_snoc a hi
    have hrl2 := x.row_len a
    have hii : IntKind.i64.wrap ((i : Int) + 1) = ((i + 1 : Nat) : Int) := by rw [w64 ((i : Int) + 1) (by omega)]; rfl
    have hlen : (ints ((x.row a).take i)).length = i := by simp only [ints, List.length_map, List.length_take]; omega
    generalize hb : x.stops[i] = b at *
    generalize (x.row a).take i = L at dq hlen hti
    simp [go_sem, hi, hb, Stop.t, da, show ¬ nx = nx' by omega]
    refine K_call rfl rfl rfl (args := [.agg (a.t.map .t), .agg (b.t.map .t)]) (f := 81) (by simp [go_sem, Stop.t]) (by simp [go_sem, hB]) ((far_pure a b).spec _ _) ?_
    have hcap : i + 1 ≤ mostLen := by omega
    refine K_run hB 60 ?_
    simp [go_sem, dq, show ¬ q = nx' by omega, hlen, hcap, hii]
    refine Next.mk (i + 1, nx' + 1, _, nx' + 2) ?_ (Imp.slots (by simp [go_sem]) rfl rfl) (by simp only; omega)
    refine ⟨by simp only; omega, ?_, ?_, ?_, ?_, by simp only; omega, by simp only; omega⟩
    · simp [oput, d0, show ¬ 0 = nx' by omega, show ¬ 0 = q by omega]
    · simp [oput, dj, show ¬ j = nx' by omega, show ¬ j = q by omega, show ¬ j = nx' + 1 by omega]
    · simp [oput, da, show ¬ nx = nx' by omega, show ¬ nx = q by omega, show ¬ nx = nx' + 1 by omega, Stop.t]
    · simp [oput, hti, ints_snoc]
  · have : i = x.stops.length := by omega
    subst this
    rw [← x.row_len a, List.take_length] at dq
    simp [go_sem]
    refine K_imp (Imp.freeze (q := q) (sz := 1) (es := ints (x.row a)) (by simp [go_sem, dq])) ?_
    have hj0 : ¬ j = q := by omega
    have hlen : (x.rows.take k).length = k := by rw [List.length_take]; omega
    generalize x.rows.take k = R at dj hlen htk
    have hcap : k + 1 ≤ mostLen := by omega
    refine K_run hB 60 ?_
    simp [go_sem, frz1, frzO, hj0, dj, hkk, hlen, hcap]
    refine Next.mk (k + 1, nx', _, nx' + 1) ?_ (Imp.slots (by simp [go_sem, frz1]) rfl rfl) (by simp only; omega)
    refine ⟨by simp only; omega, ?_, ?_, by simp only; omega, by simp only; omega⟩
    · simp [oput, d0, frzO, frz1.frzL, frz1, show ¬ 0 = nx' by omega, show ¬ 0 = j by omega, show ¬ 0 = q by omega]
    · simp [oput, htk, rowT]
end Go.Proofs.YtlhmchdfmjfmgaaGreat

/- How far it is from each to each: the document's. -/
set_option maxRecDepth 4000
namespace Go.Proofs.YtlhmchdfmjfmgaaGreat
open Go Go.Proofs.YtlhmchdfmjfmgaaGreat.R
theorem rmatrix_pure (x : Inst) (hl : x.stops.length < 2 ^ 31) : Pure P 100 [x.a] (.t (.sl (x.mat.map rowT))) := by
  rw [x.mat_rows]
  refine pure_of Tryz.func100 rfl rfl (by simp [Tryz.f100]) (by simp [bnd, bnd.bndL, Inst.a]) (by split <;> simp [bnd]) fun B hB hnx => ?_
  simp only [Tryz.f100] at hB ⊢
  have hm : mostLen = 4294967296 := rfl
  refine K_run hB 60 ?_
  simp [go_sem, Inst.a]
  refine K_call rfl rfl rfl (args := [x.a]) (f := 40) (by simp [go_sem, Inst.a]) (by simp [go_sem, hB]) ((rmay_pure x (by omega)).spec _ _) ?_
  by_cases h0 : x.may = true
  rotate_left
  · have h0' : x.may = false := by simpa using h0
    rw [h0']
    refine K_run hB 60 ?_
    simp [go_sem, h0']
  rw [h0]
  refine K_run hB 60 ?_
  simp [go_sem]
  refine K_own 4 1 (by simp [go_sem]) ?_
  refine K_loopP (α := Nat × Nat × (Nat → AObj) × Nat) (fun (k, j, σ, nx) => k ≤ x.stops.length ∧ σ 0 = .box x.cs ∧ σ j = .arr 1 (x.rows.take k) ∧ 0 < j ∧ j < nx)
    (fun (k, j, σ, nx) => ⟨sl [(1, .ptr 0 0), (4, .ref j), (5, .i k)], σ, nx⟩) (fun y => x.stops.length - y.1) (0, 1, _, 2)
    ?_ (Imp.slots (by simp [go_sem]) rfl rfl) ?_
  · exact ⟨Nat.zero_le _, by simp [oput], by simp [oput], by omega, by omega⟩
  rintro ⟨k, j, σ, nx⟩ ⟨g1, c0, cj, gj, gn⟩
  refine K_run hB 60 ?_
  simp [go_sem, c0]
  refine fork_dec (fun h => ?_) (fun h => ?_)
  rotate_left
  · have : k = x.stops.length := by omega
    subst this
    rw [← x.rows_len, List.take_length] at cj
    simp [go_sem, cj, h0]
  have htk := x.rows_snoc h
  have hrl := x.rows_len
  have hkk : IntKind.i64.wrap ((k : Int) + 1) = ((k + 1 : Nat) : Int) := by rw [w64 ((k : Int) + 1) (by omega)]; rfl
  generalize ha : x.stops[k] = a at *
  simp [go_sem]
  refine K_own 6 1 (by simp [go_sem]) ?_
  refine K_loopP (α := Nat × Nat × (Nat → AObj) × Nat) (fun (i, q, σ', nx') => i ≤ x.stops.length ∧ σ' 0 = .box x.cs ∧ σ' j = .arr 1 (x.rows.take k) ∧ σ' q = .arr 1 (ints ((x.row a).take i)) ∧ nx ≤ q ∧ q < nx')
    (fun (i, q, σ', nx') => ⟨sl [(1, .ptr 0 0), (4, .ref j), (5, .i k), (6, .ref q), (7, .i i)], σ', nx'⟩) (fun y => x.stops.length - y.1) (0, nx, _, nx + 1)
    ?_ (Imp.slots (by simp [go_sem]) rfl rfl) ?_
  · exact ⟨Nat.zero_le _, by simp [oput, c0, show ¬ 0 = nx by omega], by simp [oput, cj, show j ≠ nx by omega], by simp [oput, ints], by omega, by omega⟩
  rintro ⟨i, q, σ', nx'⟩ ⟨i1, d0, dj, dq, i2, i3⟩
  refine K_run hB 60 ?_
  simp [go_sem, d0]
  refine fork_dec (fun hi => ?_) (fun hi => ?_)
  · have hti := x.row_snoc a hi
    have hrl2 := x.row_len a
    have hii : IntKind.i64.wrap ((i : Int) + 1) = ((i + 1 : Nat) : Int) := by rw [w64 ((i : Int) + 1) (by omega)]; rfl
    have hlen : (ints ((x.row a).take i)).length = i := by simp only [ints, List.length_map, List.length_take]; omega
    generalize hb : x.stops[i] = b at *
    generalize (x.row a).take i = L at dq hlen hti
    have hcap : i + 1 ≤ mostLen := by omega
    simp [go_sem]
    refine K_drawnT [13] rfl (by rw [hB]; kernel_rfl) (by kernel_rfl) fun ht => ?_
    refine K_run hB 60 ?_
    simp [go_sem, ht, d0, h, hi, ha, hb, Stop.t]
    refine K_dCallP rfl rfl rfl (args := [.agg (a.t.map .t), .agg (b.t.map .t)]) (f := 68) (by simp [go_sem, Stop.t]) (rfar_pure a b) ?_
    refine K_run hB 60 ?_
    simp [go_sem, ht, dq, hlen, hcap, hii]
    refine Next.mk (i + 1, nx', _, nx' + 1) ?_ (Imp.slots (by simp [go_sem]) rfl rfl) (by simp only; omega)
    refine ⟨by simp only; omega, ?_, ?_, ?_, by simp only; omega, by simp only; omega⟩
    · simp [oput, d0, show ¬ 0 = nx' by omega, show ¬ 0 = q by omega]
    · simp [oput, dj, show ¬ j = nx' by omega, show ¬ j = q by omega]
    · simp [oput, hti, ints_snoc]
  · have : i = x.stops.length := by omega
    subst this
    rw [← x.row_len a, List.take_length] at dq
    simp [go_sem]
    refine K_imp (Imp.freeze (q := q) (sz := 1) (es := ints (x.row a)) (by simp [go_sem, dq])) ?_
    have hj0 : ¬ j = q := by omega
    have hlen : (x.rows.take k).length = k := by rw [List.length_take]; omega
    generalize x.rows.take k = R at dj hlen htk
    have hcap : k + 1 ≤ mostLen := by omega
    refine K_run hB 60 ?_
    simp [go_sem, frz1, frzO, hj0, dj, hkk, hlen, hcap]
    refine Next.mk (k + 1, nx', _, nx' + 1) ?_ (Imp.slots (by simp [go_sem, frz1]) rfl rfl) (by simp only; omega)
    refine ⟨by simp only; omega, ?_, ?_, by simp only; omega, by simp only; omega⟩
    · simp [oput, d0, frzO, frz1.frzL, frz1, show ¬ 0 = nx' by omega, show ¬ 0 = j by omega, show ¬ 0 = q by omega]
    · simp [oput, htk, rowT]
end Go.Proofs.YtlhmchdfmjfmgaaGreat

/- How far it is to each from the nearest other one. -/
set_option maxRecDepth 4000
namespace Go.Proofs.YtlhmchdfmjfmgaaGreat
open Go Go.Proofs.YtlhmchdfmjfmgaaGreat.R
def inf : Int := 1152921504606846976
theorem far_in (a b : Stop) : 0 ≤ far a b ∧ far a b < inf := by
  have h := sq_in a b
  unfold far rootI inf
  split
  · omega
  · have := rootL_lt (min (sq a b) 1152921504606846976).toNat 31 0
    simp only [Nat.reducePow, Nat.zero_add] at this
    omega
/-- The least of the others so far. -/
def nearF (k : Nat) (b : Stop) : Nat → List Stop → Int → Int
  | _, [], v => v
  | i, a :: l, v => nearF k b (i + 1) l (if i = k then v else min v (far a b))
def Inst.nearK (x : Inst) (k : Nat) (b : Stop) : Int := (nearF k b 0 x.stops inf).tmod inf
def nears (x : Inst) : Nat → List Stop → List Int
  | _, [] => []
  | k, b :: l => x.nearK k b :: nears x (k + 1) l
def Inst.near (x : Inst) : List Int := if x.may then nears x 0 x.stops else []
theorem nears_len (x : Inst) : ∀ k l, (nears x k l).length = l.length
  | _, [] => rfl
  | k, b :: l => by rw [nears, List.length_cons, nears_len x (k + 1) l, List.length_cons]
theorem nears_get (x : Inst) : ∀ (k : Nat) (l : List Stop) (i : Nat) (h : i < l.length), (nears x k l)[i]'(by rw [nears_len]; exact h) = x.nearK (k + i) l[i]
  | k, b :: l, 0, h => rfl
  | k, b :: l, i + 1, h => by
    have := nears_get x (k + 1) l i (by simpa using h)
    simp only [nears, List.getElem_cons_succ]
    rw [this, show k + 1 + i = k + (i + 1) by omega]
theorem nears_snoc (x : Inst) {k : Nat} (h : k < x.stops.length) : (nears x 0 x.stops).take (k + 1) = (nears x 0 x.stops).take k ++ [x.nearK k x.stops[k]] := by
  rw [List.take_succ_eq_append_getElem (by rw [nears_len]; exact h), nears_get x 0 x.stops k h, Nat.zero_add]
theorem nearF_drop {k : Nat} {b : Stop} {l : List Stop} {i : Nat} {v : Int} (h : i < l.length) : nearF k b i (l.drop i) v = nearF k b (i + 1) (l.drop (i + 1)) (if i = k then v else min v (far l[i] b)) := by rw [List.drop_eq_getElem_cons h]; rfl
theorem rows_get (x : Inst) {i : Nat} (h : i < x.rows.length) : x.rows[i] = rowT (x.row (x.stops[i]'(by rw [x.rows_len] at h; exact h))) := by simp [Inst.rows]
theorem row_get (x : Inst) (a : Stop) {i : Nat} (h : i < (x.row a).length) : (x.row a)[i] = far a (x.stops[i]'(by rw [x.row_len] at h; exact h)) := by simp [Inst.row]
theorem ints_get (l : List Int) {i : Nat} (h : i < (ints l).length) : (ints l)[i] = [.i (l[i]'(by simpa [ints] using h))] := by simp [ints]
theorem ints_len (l : List Int) : (ints l).length = l.length := List.length_map _
theorem near_pure (x : Inst) (hl : x.stops.length < 2 ^ 31) : Pure P 77 [x.a] (.t (.sl (ints x.near))) := by
  have hinf : inf = 1152921504606846976 := rfl
  refine pure_of Tryz.func77 rfl rfl (by simp [Tryz.f77]) (by simp [bnd, bnd.bndL, Inst.a]) (by simp [bnd]) fun B hB hnx => ?_
  simp only [Tryz.f77] at hB ⊢
  have hm : mostLen = 4294967296 := rfl
  refine K_run hB 60 ?_
  simp [go_sem, Inst.a]
  refine K_call rfl rfl rfl (args := [x.a]) (f := 91) (by simp [go_sem, Inst.a]) (by simp [go_sem, hB]) ((matrix_pure x hl).spec _ _) ?_
  rw [x.mat_rows]
  by_cases h0 : x.may = true
  rotate_left
  · have h0' : x.may = false := by simpa using h0
    simp only [h0', Bool.false_eq_true, if_false]
    refine K_run hB 60 ?_
    simp [go_sem]
    refine K_own 4 1 (by simp [go_sem]) ?_
    refine K_loopP (α := Unit) (fun _ => True) (fun _ => ⟨sl [(4, .ref 1), (11, .i 0), (12, .i 0)], ob [(1, .arr 1 [])], 2⟩) (fun _ => 0) () trivial (Sub.of (by omega) (by simp) (by simp [go_sem]) (by simp [go_sem])) ?_
    rintro ⟨⟩ _
    refine K_run hB 60 ?_
    simp [go_sem, Inst.near, h0', ints]
  simp only [h0, if_true]
  have hrl := x.rows_len
  refine K_run hB 60 ?_
  simp [go_sem, hrl]
  refine K_own 4 1 (by simp [go_sem]) ?_
  refine K_loopP (α := Nat × Nat × (Nat → AObj) × Nat) (fun (k, j, σ, nx) => k ≤ x.stops.length ∧ σ j = .arr 1 (ints ((nears x 0 x.stops).take k)) ∧ j < nx)
    (fun (k, j, σ, nx) => ⟨sl [(3, .t (.sl x.rows)), (4, .ref j), (11, .i x.stops.length), (12, .i k)], σ, nx⟩) (fun y => x.stops.length - y.1) (0, 1, _, 2)
    ?_ (Imp.slots (by simp [go_sem]) rfl rfl) ?_
  · exact ⟨Nat.zero_le _, by simp [oput, ints], by omega⟩
  rintro ⟨k, j, σ, nx⟩ ⟨g1, cj, gn⟩
  refine K_run hB 60 ?_
  simp [go_sem]
  refine fork_dec (fun h => ?_) (fun h => ?_)
  rotate_left
  · have : k = x.stops.length := by omega
    subst this
    rw [← nears_len x 0 x.stops, List.take_length] at cj
    simp [go_sem, cj, Inst.near, h0]
  have htk := nears_snoc x h
  have hlen : (ints ((nears x 0 x.stops).take k)).length = k := by rw [ints_len, List.length_take, nears_len]; omega
  have hkk : IntKind.i64.wrap ((k : Int) + 1) = ((k + 1 : Nat) : Int) := by rw [w64 ((k : Int) + 1) (by omega)]; rfl
  generalize (nears x 0 x.stops).take k = R at cj hlen htk
  generalize hb : x.stops[k] = b at *
  simp [go_sem, hrl]
  refine K_loopP (α := Nat × Int) (fun (i, v) => i ≤ x.stops.length ∧ (0 ≤ v ∧ v ≤ inf) ∧ (nearF k b i (x.stops.drop i) v).tmod inf = x.nearK k b)
    (fun (i, v) => ⟨sl [(3, .t (.sl x.rows)), (4, .ref j), (11, .i x.stops.length), (12, .i k), (5, .i k), (6, .i v), (16, .i x.stops.length), (17, .i i)], σ, nx⟩) (fun y => x.stops.length - y.1) (0, inf)
    ⟨Nat.zero_le _, by omega, rfl⟩ (Imp.slots (by simp [go_sem, hinf]) rfl rfl) ?_
  rintro ⟨i, v⟩ ⟨i1, i2, i3⟩
  refine K_run hB 60 ?_
  simp [go_sem]
  refine fork_dec (fun hi => ?_) (fun hi => ?_)
  · have hii : IntKind.i64.wrap ((i : Int) + 1) = ((i + 1 : Nat) : Int) := by rw [w64 ((i : Int) + 1) (by omega)]; rfl
    have hfa := far_in x.stops[i] b
    have hrow := x.row_len x.stops[i]
    rw [nearF_drop hi] at i3
    by_cases hik : i = k
    · rw [if_pos hik] at i3
      simp [go_sem, hik, w64 ((k : Int) + 1) (by omega)]
      exact Next.mk (k + 1, v) ⟨by simp only; omega, i2, by rw [hik] at i3; exact i3⟩ (Imp.slots (by simp [go_sem]) rfl rfl) (by simp only; omega)
    · rw [if_neg hik] at i3
      simp [go_sem, hik, hi, h, hrl, rows_get, rowT, ints_get, ints_len, hrow, row_get, hb, hii]
      exact Next.mk (i + 1, min v (far x.stops[i] b)) ⟨by simp only; omega, by omega, i3⟩ (Imp.slots (by simp [go_sem]) rfl rfl) (by simp only; omega)
  · have : i = x.stops.length := by omega
    subst this
    rw [List.drop_length] at i3
    have i4 : v.tmod inf = x.nearK k b := i3
    have hcap : k + 1 ≤ mostLen := by omega
    rw [hinf] at i4
    have hw : IntKind.i64.wrap (x.nearK k b) = x.nearK k b := by
      refine w64 _ ?_
      rw [← i4, Int.tmod_eq_emod_of_nonneg i2.1]
      omega
    simp [go_sem, i4, hw, cj, hlen, hcap, hkk]
    refine Next.mk (k + 1, nx, _, nx + 1) ?_ (Imp.slots (by simp [go_sem]) rfl rfl) (by simp only; omega)
    exact ⟨by simp only; omega, by simp [oput, htk, ints_snoc], by simp only; omega⟩
end Go.Proofs.YtlhmchdfmjfmgaaGreat

/- How far it is to each from the nearest other one: the document's. -/
set_option maxRecDepth 4000
namespace Go.Proofs.YtlhmchdfmjfmgaaGreat
open Go Go.Proofs.YtlhmchdfmjfmgaaGreat.R
theorem rnear_pure (x : Inst) (hl : x.stops.length < 2 ^ 31) : Pure P 83 [x.a] (.t (.sl (ints x.near))) := by
  have hinf : inf = 1152921504606846976 := rfl
  refine pure_of Tryz.func83 rfl rfl (by simp [Tryz.f83]) (by simp [bnd, bnd.bndL, Inst.a]) (by simp [bnd]) fun B hB hnx => ?_
  simp only [Tryz.f83] at hB ⊢
  have hm : mostLen = 4294967296 := rfl
  refine K_run hB 60 ?_
  simp [go_sem, Inst.a]
  refine K_call rfl rfl rfl (args := [x.a]) (f := 100) (by simp [go_sem, Inst.a]) (by simp [go_sem, hB]) ((rmatrix_pure x hl).spec _ _) ?_
  rw [x.mat_rows]
  by_cases h0 : x.may = true
  rotate_left
  · have h0' : x.may = false := by simpa using h0
    simp only [h0', Bool.false_eq_true, if_false]
    refine K_run hB 60 ?_
    simp [go_sem]
    refine K_own 4 1 (by simp [go_sem]) ?_
    refine K_loopP (α := Unit) (fun _ => True) (fun _ => ⟨sl [(3, .t (.sl [])), (4, .ref 1), (5, .i 0)], ob [(1, .arr 1 [])], 2⟩) (fun _ => 0) () trivial (Sub.of (by omega) (by simp) (by simp [go_sem]) (by simp [go_sem])) ?_
    rintro ⟨⟩ _
    refine K_run hB 60 ?_
    simp [go_sem, Inst.near, h0', ints]
  simp only [h0, if_true]
  have hrl := x.rows_len
  refine K_run hB 60 ?_
  simp [go_sem]
  refine K_own 4 1 (by simp [go_sem]) ?_
  refine K_loopP (α := Nat × Nat × (Nat → AObj) × Nat) (fun (k, j, σ, nx) => k ≤ x.stops.length ∧ σ j = .arr 1 (ints ((nears x 0 x.stops).take k)) ∧ j < nx)
    (fun (k, j, σ, nx) => ⟨sl [(3, .t (.sl x.rows)), (4, .ref j), (5, .i k)], σ, nx⟩) (fun y => x.stops.length - y.1) (0, 1, _, 2)
    ?_ (Imp.slots (by simp [go_sem]) rfl rfl) ?_
  · exact ⟨Nat.zero_le _, by simp [oput, ints], by omega⟩
  rintro ⟨k, j, σ, nx⟩ ⟨g1, cj, gn⟩
  refine K_run hB 60 ?_
  simp [go_sem, hrl]
  refine fork_dec (fun h => ?_) (fun h => ?_)
  rotate_left
  · have : k = x.stops.length := by omega
    subst this
    rw [← nears_len x 0 x.stops, List.take_length] at cj
    simp [go_sem, cj, Inst.near, h0]
  have htk := nears_snoc x h
  have hlen : (ints ((nears x 0 x.stops).take k)).length = k := by rw [ints_len, List.length_take, nears_len]; omega
  have hkk : IntKind.i64.wrap ((k : Int) + 1) = ((k + 1 : Nat) : Int) := by rw [w64 ((k : Int) + 1) (by omega)]; rfl
  generalize (nears x 0 x.stops).take k = R at cj hlen htk
  generalize hb : x.stops[k] = b at *
  simp [go_sem]
  refine K_loopP (α := Nat × Int) (fun (i, v) => i ≤ x.stops.length ∧ (0 ≤ v ∧ v ≤ inf) ∧ (nearF k b i (x.stops.drop i) v).tmod inf = x.nearK k b ∧ (v = inf ↔ (i = 0 ∨ (k = 0 ∧ i = 1))))
    (fun (i, v) => ⟨sl [(3, .t (.sl x.rows)), (4, .ref j), (5, .i k), (6, .i (v.tmod inf)), (7, .i i)], σ, nx⟩) (fun y => x.stops.length - y.1) (0, inf)
    ⟨Nat.zero_le _, by omega, rfl, by simp⟩ (Imp.slots (by simp [go_sem, hinf]) rfl rfl) ?_
  rintro ⟨i, v⟩ ⟨i1, i2, i3, i4⟩
  refine K_run hB 150 ?_
  simp [go_sem, hrl]
  refine fork_dec (fun hi => ?_) (fun hi => ?_)
  · have hii : IntKind.i64.wrap ((i : Int) + 1) = ((i + 1 : Nat) : Int) := by rw [w64 ((i : Int) + 1) (by omega)]; rfl
    have hfa := far_in x.stops[i] b
    have hrow := x.row_len x.stops[i]
    rw [nearF_drop hi] at i3
    by_cases hik : i = k
    · rw [if_pos hik] at i3
      simp [go_sem, hik, w64 ((k : Int) + 1) (by omega)]
      exact Next.mk (k + 1, v) ⟨by simp only; omega, i2, by rw [hik] at i3; exact i3, by simp only at i4 ⊢; omega⟩ (Imp.slots (by simp [go_sem]) rfl rfl) (by simp only; omega)
    · rw [if_neg hik] at i3
      by_cases hfirst : i = 0 ∨ (k = 0 ∧ i = 1)
      · have hv : v = inf := i4.2 hfirst
        have hmin : min v (far x.stops[i] b) = far x.stops[i] b := by omega
        have hmod : (far x.stops[i] b).tmod inf = far x.stops[i] b := Int.tmod_eq_of_lt hfa.1 hfa.2
        rw [hmin] at i3
        rcases hfirst with h1 | ⟨h1, h2⟩
        · have hk0 : ¬ 0 = k := by omega
          subst h1
          have hk1 : ¬ (0 : Int) = k := by omega
          simp [go_sem, hk0, hk1, hi, h, hrl, rows_get, rowT, ints_get, ints_len, hrow, row_get, hb, w64 1 (by omega)]
          exact Next.mk (1, far x.stops[0] b) ⟨by simp only; omega, by omega, i3, by simp only; omega⟩ (Imp.slots (by simp [go_sem, hmod]) rfl rfl) (by simp only; omega)
        · subst h1 h2
          have hi1 : (1 : Int) < x.stops.length := by omega
          simp [go_sem, hi, hi1, h, hrl, rows_get, rowT, ints_get, ints_len, hrow, row_get, hb, w64 2 (by omega)]
          exact Next.mk (2, far x.stops[1] b) ⟨by simp only; omega, by omega, i3, by simp only; omega⟩ (Imp.slots (by simp [go_sem, hmod]) rfl rfl) (by simp only; omega)
      · have hv : ¬ v = inf := fun e => hfirst (i4.1 e)
        have hvm : v.tmod inf = v := Int.tmod_eq_of_lt i2.1 (by omega)
        have hi0 : ¬ i = 0 := fun e => hfirst (.inl e)
        rw [hvm]
        by_cases hless : far x.stops[i] b < v
        · have hmin : min v (far x.stops[i] b) = far x.stops[i] b := by omega
          have hmod : (far x.stops[i] b).tmod inf = far x.stops[i] b := Int.tmod_eq_of_lt hfa.1 hfa.2
          rw [hmin] at i3
          by_cases hk0 : k = 0
          · have hi1 : ¬ i = 1 := fun e => hfirst (.inr ⟨hk0, e⟩)
            subst hk0
            have j0 : ¬ (i : Int) = 0 := by omega
            have j1 : ¬ (i : Int) = 1 := by omega
            simp [go_sem, hik, hi0, hi1, j0, j1, hi, h, hrl, rows_get, rowT, ints_get, ints_len, hrow, row_get, hb, hii, hless]
            exact Next.mk (i + 1, far x.stops[i] b) ⟨by simp only; omega, by omega, i3, by simp only; omega⟩ (Imp.slots (by simp [go_sem, hmod]) rfl rfl) (by simp only; omega)
          · have j0 : ¬ (i : Int) = 0 := by omega
            have j1 : ¬ (k : Int) = 0 := by omega
            have j2 : ¬ (i : Int) = k := by omega
            simp [go_sem, hik, hi0, hk0, j0, j1, j2, hi, h, hrl, rows_get, rowT, ints_get, ints_len, hrow, row_get, hb, hii, hless]
            exact Next.mk (i + 1, far x.stops[i] b) ⟨by simp only; omega, by omega, i3, by simp only; omega⟩ (Imp.slots (by simp [go_sem, hmod]) rfl rfl) (by simp only; omega)
        · have hmin : min v (far x.stops[i] b) = v := by omega
          rw [hmin] at i3
          by_cases hk0 : k = 0
          · have hi1 : ¬ i = 1 := fun e => hfirst (.inr ⟨hk0, e⟩)
            subst hk0
            have j0 : ¬ (i : Int) = 0 := by omega
            have j1 : ¬ (i : Int) = 1 := by omega
            simp [go_sem, hik, hi0, hi1, j0, j1, hi, h, hrl, rows_get, rowT, ints_get, ints_len, hrow, row_get, hb, hii, hless]
            exact Next.mk (i + 1, v) ⟨by simp only; omega, i2, i3, by simp only; omega⟩ (Imp.slots (by simp [go_sem, hvm]) rfl rfl) (by simp only; omega)
          · have j0 : ¬ (i : Int) = 0 := by omega
            have j1 : ¬ (k : Int) = 0 := by omega
            have j2 : ¬ (i : Int) = k := by omega
            simp [go_sem, hik, hi0, hk0, j0, j1, j2, hi, h, hrl, rows_get, rowT, ints_get, ints_len, hrow, row_get, hb, hii, hless]
            exact Next.mk (i + 1, v) ⟨by simp only; omega, i2, i3, by simp only; omega⟩ (Imp.slots (by simp [go_sem, hvm]) rfl rfl) (by simp only; omega)
  · have : i = x.stops.length := by omega
    subst this
    rw [List.drop_length] at i3
    have i5 : v.tmod inf = x.nearK k b := i3
    have hcap : k + 1 ≤ mostLen := by omega
    simp [go_sem, i5, cj, hlen, hcap, hkk]
    refine Next.mk (k + 1, nx, _, nx + 1) ?_ (Imp.slots (by simp [go_sem]) rfl rfl) (by simp only; omega)
    exact ⟨by simp only; omega, by simp [oput, htk, ints_snoc], by simp only; omega⟩
end Go.Proofs.YtlhmchdfmjfmgaaGreat

/- What it costs at least to go on: the program's, over its iterator; the document's. -/
set_option maxRecDepth 4000
namespace Go.Proofs.YtlhmchdfmjfmgaaGreat
open Go Go.Proofs.YtlhmchdfmjfmgaaGreat.R
/-- The sum of what lies near those that were not seen. -/
def leftSum (may : Nat) : Nat → List Int → Int → Int
  | _, [], n => n
  | j, d :: l, n => leftSum may (j + 1) l (if 0 < j ∧ hasB may j = false then IntKind.i64.wrap (n + d) else n)
theorem left_pure (near : List Int) (may : Nat) (σ : Nat → AObj) (nx : Nat) : CallQ P 78 [.t (.sl (ints near)), .u may] σ nx fun r σ' nx' => r = .fn (.func 92) [] [.ptr nx 0, .ptr (nx + 1) 0] ∧ nx' = nx + 2 ∧
    σ' = oput (oput σ nx (.box [.t (.sl (ints near))])) (nx + 1) (.box [.u may]) := by
  refine spec_of Tryz.func78 rfl rfl (by simp [Tryz.f78]) fun B hB hnx hσ => ?_
  simp only [Tryz.f78] at hB ⊢
  refine K_run hB 100 ?_
  simp [go_sem]
  omega
theorem left1_spec (near : List Int) (may : Nat) (hm : may < 2 ^ 64) (hl : near.length < 2 ^ 63) (q b1 b2 nx : Nat) (st : Int → Nat → AObj) (h1 : ∀ n, st n b1 = .box [.t (.sl (ints near))]) (h2 : ∀ n, st n b2 = .box [.u may])
    (hy : ∀ (j d n : Int), YieldQ P q [.i j, .i d] (st n) nx fun σ' nx' => σ' = st (IntKind.i64.wrap (n + d)) ∧ nx' = nx) (n0 : Int) :
    CallQ P 92 [.yld q, .ptr b1 0, .ptr b2 0] (st n0) nx fun r σ' nx' => σ' = st (leftSum may 0 near n0) ∧ nx' = nx := by
  refine spec_of Tryz.func92 rfl rfl (by simp [Tryz.f92]) fun B hB hnx hσ => ?_
  simp only [Tryz.f92] at hB ⊢
  have hil : (ints near).length = near.length := List.length_map _
  refine K_run hB 100 ?_
  simp [go_sem, h1, hil]
  refine K_loopP (α := Nat × Int) (fun (k, n) => k ≤ near.length ∧ leftSum may k (near.drop k) n = leftSum may 0 near n0) (fun (k, n) => ⟨sl [(0, .yld q), (1, .ptr b1 0), (2, .ptr b2 0), (6, .t (.sl (ints near))), (7, .i near.length), (8, .i k)], st n, nx⟩) (fun a => near.length - a.1) (0, n0) ⟨Nat.zero_le _, rfl⟩ (Imp.slots (by simp [go_sem]) rfl rfl) ?_
  rintro ⟨k, n⟩ ⟨g1, g2⟩
  refine K_run hB 60 ?_
  simp [go_sem]
  refine fork_dec (fun hk => ?_) (fun hk => ?_)
  · have hkk : IntKind.i64.wrap ((k : Int) + 1) = ((k + 1 : Nat) : Int) := by rw [w64 ((k : Int) + 1) (by omega)]; rfl
    rw [List.drop_eq_getElem_cons hk, leftSum] at g2
    have hget := ints_getS near hk
    generalize near[k] = d at *
    by_cases c1 : 0 < k
    · simp [go_sem, hil, hk, hget, c1, h2]
      refine K_call rfl rfl rfl (args := [.u may, .i k]) (f := 93) (by simp [go_sem]) (by simp [go_sem, hB]) ((has_pure may k hm).spec _ _) ?_
      cases c2 : hasB may k with
      | true =>
        rw [if_neg (by simp [c2])] at g2
        refine K_run hB 100 ?_
        simp [go_sem, hkk]
        exact Next.mk (k + 1, n) ⟨by simp only; omega, g2⟩ (Imp.slots (by simp [go_sem]) rfl rfl) (by simp only; omega)
      | false =>
        rw [if_pos ⟨c1, c2⟩] at g2
        refine K_run hB 100 ?_
        simp [go_sem]
        refine K_yield rfl rfl rfl (q := q) (args := [.i k, .i d]) (by simp [go_sem]) (by simp [go_sem]) (by simp [go_sem, hB]) (hy k d n) ?_
        rintro σ' nx' ⟨rfl, rfl⟩
        refine K_run hB 100 ?_
        simp [go_sem, hkk]
        exact Next.mk (k + 1, IntKind.i64.wrap (n + d)) ⟨by simp only; omega, g2⟩ (Imp.slots (by simp [go_sem]) rfl rfl) (by simp only; omega)
    · rw [if_neg (by simp [c1])] at g2
      simp [go_sem, hil, hk, hget, c1, h2, hkk]
      exact Next.mk (k + 1, n) ⟨by simp only; omega, g2⟩ (Imp.slots (by simp [go_sem]) rfl rfl) (by simp only; omega)
  · have : k = near.length := by omega
    subst this
    rw [List.drop_length, leftSum] at g2
    simp [go_sem, g2, hnx]
end Go.Proofs.YtlhmchdfmjfmgaaGreat

/- The bounds of states, and of nodes. -/
set_option maxRecDepth 4000
namespace Go.Proofs.YtlhmchdfmjfmgaaGreat
open Go Go.Proofs.YtlhmchdfmjfmgaaGreat.R
def atLeast (near : List Int) (may : Nat) : Int := match near with
  | a :: b :: l => leftSum may 0 (a :: b :: l) a
  | _ => 0
def Inst.low (x : Inst) (s : State) : Int := atLeast x.near s.can
theorem near_len (x : Inst) : x.near.length ≤ x.stops.length := by
  unfold Inst.near
  split
  · rw [nears_len]; exact Nat.le_refl _
  · exact Nat.zero_le _
theorem at_pure (x : Inst) (s : State) (hl : x.stops.length < 2 ^ 31) (ho : s.ok) : Pure P 56 [x.a, s.a] (.i (x.low s)) := by
  generalize hR : x.low s = R
  refine pure_ofR Tryz.func56 rfl rfl (by simp [Tryz.f56]) (by simp [bnd, bnd.bndL, Inst.a, State.a, State.cs]) (by simp [bnd, bnd.bndL]) fun B hB hnx hro => ?_
  simp only [Tryz.f56] at hB ⊢
  rw [Inst.low] at hR
  have hnl := near_len x
  have hne := near_pure x hl
  generalize x.near = near at *
  refine K_run hB 100 ?_
  simp [go_sem, Inst.a, State.a, State.cs]
  refine K_call rfl rfl rfl (args := [x.a]) (f := 77) (by simp [go_sem, Inst.a]) (by simp [go_sem, hB]) ((hne).spec _ _) ?_
  match near, hR, hnl with
  | [], hR, _ =>
    simp only [atLeast] at hR
    subst hR
    refine K_run hB 100 ?_
    simp [go_sem, ints]
  | [_], hR, _ =>
    simp only [atLeast] at hR
    subst hR
    refine K_run hB 100 ?_
    simp [go_sem, ints]
  | d0 :: d1 :: l, hR, hnl =>
    simp only [atLeast] at hR
    have hil : (ints (d0 :: d1 :: l)).length = l.length + 2 := by simp [ints]
    have hgt : ¬ (l.length : Int) + 2 < 2 := by omega
    have hgt' : ¬ ((l.length + 2 : Nat) : Int) < 2 := by omega
    have hget : ∀ h : 0 < (ints (d0 :: d1 :: l)).length, (ints (d0 :: d1 :: l))[0]'h = [.i d0] := fun h => by simp [ints]
    have hll : l.length + 2 < 2 ^ 63 := by simp only [List.length_cons] at hnl; omega
    have hle := left_pure (d0 :: d1 :: l) s.can
    have hl1 := left1_spec (d0 :: d1 :: l) s.can ho.can (by simpa using hll) 5 3 4 6
    have hpos : (0 : Int) < l.length + 2 := by omega
    generalize hX : ints (d0 :: d1 :: l) = X at *
    generalize hN : leftSum s.can 0 (d0 :: d1 :: l) = N at *
    refine K_run hB 100 ?_
    simp [go_sem, hil, hgt, hgt', hget, hpos]
    refine K_callQ rfl rfl rfl (args := [.t (.sl X), .u s.can]) (f := 78) (by simp [go_sem]) (by simp [go_sem, hB]) (hle _ _) ?_
    rintro r σ' nx' ⟨rfl, rfl, rfl⟩
    refine K_run hB 100 ?_
    simp [go_sem]
    refine K_less (Sub.of (l := [(6, .ptr 2 0), (20, .fn (.func 92) [] [.ptr 3 0, .ptr 4 0])]) (o := [(2, .box [.i d0]), (3, .box [.t (.sl X)]), (4, .box [.u s.can])]) (n := 5) (by omega) (by simp) (by simp [go_sem]) (by simp [go_sem])) ?_
    refine K_range hro (f := 92) (args := [.yld 5, .ptr 3 0, .ptr 4 0]) (by simp [go_sem]) fun L hL => ?_
    obtain ⟨st, hst⟩ : ∃ st : Int → Nat → AObj, st = fun n => oput (oput (ob [(3, .box [.t (.sl X)]), (4, .box [.u s.can])]) 5 L) 2 (.box [.i n]) := ⟨_, rfl⟩
    have e' : oput (ob [(2, .box [.i d0]), (3, .box [.t (.sl X)]), (4, .box [.u s.can])]) 5 L = st d0 := funext fun i => by
      by_cases e2 : i = 2
      · subst e2; simp [hst, oput, ob]
      · simp [hst, oput, ob, e2]
    have s2 : ∀ n, st n 2 = .box [.i n] := fun n => by simp [hst, oput]
    have s5 : ∀ n, st n 5 = L := fun n => by simp [hst, oput]
    have su : ∀ n m L', oput (oput (oput (st n) 5 L') 2 (.box [.i m])) 5 L = st m := fun n m L' => funext fun i => by
      by_cases e2 : i = 2
      · subst e2; simp [hst, oput]
      · by_cases e5 : i = 5
        · subst e5; simp [hst, oput]
        · simp [hst, oput, e2, e5]
    have hsp := hl1 st (fun n => by simp [hst, oput, ob]) (fun n => by simp [hst, oput, ob]) (fun j d n => by
      refine yield_of ((s5 n).trans hL) rfl (by rw [hB]; rfl) fun B' hB' hnx' _ => ?_
      replace hB' := hB'.trans hB
      refine K_run hB' 60 ?_
      simp [go_sem, roundM, putL, (s5 n).trans hL]
      refine K_run hB' 60 ?_
      simp [go_sem, roundM, putL, hB, oput, s2, ← hL]
      rw [hB] at hL
      subst hL
      exact su _ _ _) d0
    refine ⟨_, by rw [e']; exact hsp, ?_⟩
    rintro r σ' nx' ⟨rfl, rfl⟩
    refine ⟨s5 _, ?_⟩
    refine K_run hB 100 ?_
    simp [go_sem, oput, s2, hR]
end Go.Proofs.YtlhmchdfmjfmgaaGreat

/- The document's states. -/
set_option maxRecDepth 4000
namespace Go.Proofs.YtlhmchdfmjfmgaaGreat
open Go Go.Proofs.YtlhmchdfmjfmgaaGreat.R
theorem rmay10_pure (x : Inst) (s : State) (hl : x.stops.length < 2 ^ 63) : Pure P 41 [x.a, s.a] (.b (x.may && s.mayB x)) := by
  generalize hR : s.mayB x = R
  refine pure_of Tryz.func41 rfl rfl (by simp [Tryz.f41]) (by simp [bnd, bnd.bndL, Inst.a, State.a, State.cs]) (by simp [bnd, bnd.bndL]) fun B hB hnx => ?_
  simp only [Tryz.f41] at hB ⊢
  rw [State.mayB] at hR
  refine K_run hB 100 ?_
  simp [go_sem, Inst.a, State.a, State.cs]
  refine K_call rfl rfl rfl (args := [x.a]) (f := 40) (by simp [go_sem, Inst.a]) (by simp [go_sem, hB]) ((rmay_pure x hl).spec _ _) ?_
  cases hm : x.may with
  | false =>
    refine K_run hB 100 ?_
    simp [go_sem]
  | true =>
    obtain ⟨p, hx⟩ := x.fit hm
    have hf := hx.few
    have w1 := w64 (2 * x.pairs) (by rw [hx.pairs]; omega)
    refine K_run hB 100 ?_
    simp [go_sem]
    refine atVal_decT (fun h1 => ?_) (fun h1 => by simp [go_sem, h1, w1, ← hR])
    simp [go_sem, h1, w1]
    refine atVal_decT (fun h2 => ?_) (fun h2 => by simp [go_sem, h2, w1, ← hR])
    simp [go_sem, h2, w1]
    refine atVal_decT (fun h3 => ?_) (fun h3 => by simp [go_sem, h3, w1, ← hR])
    simp [go_sem, h3, w1]
    refine atVal_decT (fun h4 => ?_) (fun h4 => by simp [go_sem, h4, w1, ← hR])
    simp [go_sem, h4, w1]
    refine atVal_decT (fun h5 => ?_) (fun h5 => by simp [go_sem, h5, w1, ← hR])
    simp [go_sem, h5, w1]
    refine atVal_decT (fun h6 => ?_) (fun h6 => by simp [go_sem, h6, w1, ← hR])
    simp [go_sem, h6, w1]
    refine atVal_decT (fun h7 => ?_) (fun h7 => by simp [go_sem, h7, w1, ← hR])
    simp [go_sem, h7, w1]
    simp [← hR, h1, h2, h3, h4, h5, h6, h7]
theorem rhome_pure (x : Inst) (s : State) {p : Nat} (hx : x.Fit p) (hs : s.Fit x p) (ho : s.ok) : Pure P 89 [x.a, s.a, .i (far (x.stop s.spot) (x.stop 0))] (mv ((x.home s).1, (if (x.home s).2 = true then far (x.stop s.spot) (x.stop 0) else 0), (x.home s).2)) := by
  generalize hR : x.home s = R
  refine pure_of Tryz.func89 rfl rfl (by simp [Tryz.f89]) (by simp [bnd, bnd.bndL, Inst.a, State.a, State.cs]) (by simp [bnd, bnd.bndL, mv, State.a, State.cs]) fun B hB hnx => ?_
  simp only [Tryz.f89] at hB ⊢
  have g2 : (0 : Int) < x.stops.length := hx.lt (j := 0) (by omega)
  have g3 : 0 < x.stops.length := by omega
  have g4 := hx.get0
  have hf := hx.at (j := 0) (by omega) (by omega)
  have hfi := far_in' (x.stop s.spot) (x.stop 0)
  rw [Inst.home, Inst.stayB, Inst.homeS] at hR
  generalize far (x.stop s.spot) (x.stop 0) = d at *
  generalize x.stop 0 = a at *
  have w1 := w64 (s.time + d) (by have := hs.time; omega)
  have w2 := w64 (s.car + 1) (by have := hs.car; have := hx.cars; omega)
  refine K_run hB 100 ?_
  simp [go_sem, Inst.a, State.a, State.cs]
  refine K_call rfl rfl rfl (args := [x.a, .u s.must]) (f := 67) (by simp [go_sem, Inst.a]) (by simp [go_sem, hB]) ((rall_pure x s.must ho.must hx).spec _ _) ?_
  by_cases c1 : s.spot = 0
  · have : R = (s, false) := by rw [← hR, if_pos (by simp [c1])]
    subst this
    refine K_run hB 100 ?_
    simp [go_sem, c1]
    refine K_drawn [] rfl (by rw [hB]; kernel_rfl) ?_
    refine K_run hB 100 ?_
    simp [go_sem, c1, mv, State.a, State.cs]
  by_cases c2 : s.on = 0
  rotate_left
  · have : R = (s, false) := by rw [← hR, if_pos (by simp [c2])]
    subst this
    refine K_run hB 100 ?_
    simp [go_sem, c1, c2]
    refine K_drawn [] rfl (by rw [hB]; kernel_rfl) ?_
    refine K_run hB 100 ?_
    simp [go_sem, c1, c2, mv, State.a, State.cs]
  by_cases c3 : x.cars ≤ s.car
  · have : R = (s, false) := by rw [← hR, if_pos (by simp [c3])]
    subst this
    refine K_run hB 100 ?_
    simp [go_sem, c1, c2, c3]
    refine K_drawn [] rfl (by rw [hB]; kernel_rfl) ?_
    refine K_run hB 100 ?_
    simp [go_sem, c1, c2, c3, mv, State.a, State.cs]
  cases c4 : x.allB s.must with
  | true =>
    have : R = (s, false) := by rw [← hR, if_pos (by simp [c4])]
    subst this
    refine K_run hB 100 ?_
    simp [go_sem, c1, c2, c3]
    refine K_drawn [] rfl (by rw [hB]; kernel_rfl) ?_
    refine K_run hB 100 ?_
    simp [go_sem, c1, c2, c3, mv, State.a, State.cs]
  | false =>
    by_cases c5 : a.due < s.time + d
    · have : R = (s, false) := by rw [← hR, if_pos (by simp [c5])]
      subst this
      refine K_run hB 100 ?_
      simp [go_sem, c1, c2, c3]
      refine K_drawn [] rfl (by rw [hB]; kernel_rfl) ?_
      refine K_run hB 100 ?_
      simp [go_sem, c1, c2, c3, c5, w1, g2, g3, g4, Stop.t, mv, State.a, State.cs]
    · rw [if_neg (by simp [c1, c2, c3, c4, c5])] at hR
      refine K_run hB 100 ?_
      simp [go_sem, c1, c2, c3]
      refine K_drawn [] rfl (by rw [hB]; kernel_rfl) ?_
      refine K_run hB 100 ?_
      simp [go_sem, c1, c2, c3, c5, w1, w2, g2, g3, g4, Stop.t, ← hR, mv, State.a, State.cs]
def Inst.rvisit (x : Inst) (s : State) (j b : Int) : State :=
  { spot := j, car := s.car, time := b + (x.stop j).service, load := max (s.load + (x.stop j).demand) 0, first := if s.spot = 0 then j else s.first, must := withN s.must j, can := withN s.can j, on := if j ≤ x.pairs then withN s.on j else withoutN s.on (j - x.pairs) }
theorem rvisit_pure (x : Inst) (s : State) (j b : Int) {p : Nat} (hx : x.Fit p) (hs : s.Fit x p) (ho : s.ok) (h2 : 0 ≤ j) (h3 : j ≤ 2 * p) (hb : 0 ≤ b ∧ b ≤ 1048576) : Pure P 90 [x.a, s.a, .i j, .i b] ((x.rvisit s j b).a) := by
  generalize hR : x.rvisit s j b = R
  refine pure_of Tryz.func90 rfl rfl (by simp [Tryz.f90]) (by simp [bnd, bnd.bndL, Inst.a, State.a, State.cs]) (by simp [bnd, bnd.bndL, State.a, State.cs]) fun B hB hnx => ?_
  simp only [Tryz.f90] at hB ⊢
  have g2 := hx.lt h3
  have g4 := hx.get h3
  have hf := hx.at h2 h3
  have hp := hx.pairs
  have hfew := hx.few
  rw [Inst.rvisit] at hR
  generalize x.stop j = a at *
  have w1 := w64 (b + a.service) (by have := hf.service; omega)
  have w2 := w64 (s.load + a.demand) (by have := hf.demand; have := hs.load; omega)
  have w3 := w64 (j - x.pairs) (by omega)
  refine K_run hB 100 ?_
  simp [go_sem, Inst.a, State.a, State.cs, h2, g2, g4, Stop.t, w1]
  refine K_drawnT [10] rfl (by rw [hB]; kernel_rfl) (by kernel_rfl) fun ht => ?_
  have hmax : (if s.load + a.demand < 0 then 0 else s.load + a.demand) = max (s.load + a.demand) 0 := by omega
  by_cases c1 : s.load + a.demand < 0
  all_goals
    by_cases c2 : s.spot = 0
    all_goals
      refine K_run hB 100 ?_
      simp [go_sem, ht, h2, g2, g4, Stop.t, w2, c1, c2]
      refine K_call rfl rfl rfl (args := [.u s.must, .i j]) (f := 102) (by simp [go_sem]) (by simp [go_sem, hB]) ((rwith_pure s.must j ho.must).spec _ _) ?_
      refine K_run hB 100 ?_
      simp [go_sem]
      refine K_call rfl rfl rfl (args := [.u s.can, .i j]) (f := 102) (by simp [go_sem]) (by simp [go_sem, hB]) ((rwith_pure s.can j ho.can).spec _ _) ?_
      by_cases c3 : j ≤ x.pairs
      · refine K_run hB 100 ?_
        simp [go_sem, c3]
        refine K_call rfl rfl rfl (args := [.u s.on, .i j]) (f := 102) (by simp [go_sem]) (by simp [go_sem, hB]) ((rwith_pure s.on j ho.on).spec _ _) ?_
        rw [if_pos c3] at hR
        first | rw [if_pos c1] at hmax | rw [if_neg c1] at hmax
        refine K_run hB 100 ?_
        simp [go_sem, ← hR, c2, ← hmax]
      · refine K_run hB 100 ?_
        simp [go_sem, c3, w3]
        refine K_call rfl rfl rfl (args := [.u s.on, .i (j - x.pairs)]) (f := 103) (by simp [go_sem]) (by simp [go_sem, hB]) ((rwithout_pure s.on (j - x.pairs) ho.on).spec _ _) ?_
        rw [if_neg c3] at hR
        first | rw [if_pos c1] at hmax | rw [if_neg c1] at hmax
        refine K_run hB 100 ?_
        simp [go_sem, ← hR, c2, ← hmax]
end Go.Proofs.YtlhmchdfmjfmgaaGreat

/- The document's moves. -/
set_option maxRecDepth 4000
namespace Go.Proofs.YtlhmchdfmjfmgaaGreat
open Go Go.Proofs.YtlhmchdfmjfmgaaGreat.R
theorem move_none {x : Inst} {s : State} {j : Int} (h : ¬ (x.may = true ∧ s.mayB x = true ∧ 0 ≤ j ∧ j ≤ 2 * x.pairs)) : x.move s j = (s, 0, false) := by
  unfold Inst.move
  split
  · rename_i c
    unfold Inst.step
    rw [if_pos]
    have : ¬ (0 ≤ j ∧ j ≤ 2 * x.pairs) := fun e => h ⟨c.1, c.2, e.1, e.2⟩
    omega
  · rfl
theorem move_in {x : Inst} {s : State} {j : Int} (h1 : x.may = true) (h2 : s.mayB x = true) (h3 : 0 ≤ j) (h4 : j ≤ 2 * x.pairs) : x.move s j = if (x.to s j).2 = true then ((x.to s j).1, far (x.stop s.spot) (x.stop j), true) else (s, 0, false) := by
  unfold Inst.move Inst.step
  rw [if_pos ⟨h1, h2⟩, if_neg (by omega)]
theorem home_fst (x : Inst) (s : State) (h : (x.home s).2 = false) : (x.home s).1 = s := by
  unfold Inst.home at h ⊢
  split
  · rfl
  · rename_i c
    rw [if_neg c] at h
    cases h
theorem to_visit {x : Inst} {s : State} {j : Int} (h0 : j ≠ 0) (hl : x.lateB s j = false) (hf : j ≤ x.pairs → x.fullB s j = false) (he : x.pairs < j → x.emptyB s j = false) : x.to s j = (x.rvisit s j (x.begins s j), true) := by
  unfold Inst.to
  rw [if_neg h0]
  by_cases c : j ≤ x.pairs
  · rw [if_pos c]
    simp [Inst.take, hf c, Inst.visit, hl, Inst.seen, Inst.rvisit, c]
  · rw [if_neg c]
    simp [Inst.bring, he (by omega), Inst.visit, hl, Inst.seen, Inst.rvisit, c]
theorem to_not {x : Inst} {s : State} {j : Int} (h0 : j ≠ 0) (h : x.lateB s j = true ∨ (j ≤ x.pairs ∧ x.fullB s j = true) ∨ (x.pairs < j ∧ x.emptyB s j = true)) : (x.to s j).2 = false := by
  unfold Inst.to
  rw [if_neg h0]
  rcases h with h | ⟨h1, h2⟩ | ⟨h1, h2⟩
  · split
    · unfold Inst.take Inst.visit
      split
      · rfl
      · simp [h]
    · unfold Inst.bring Inst.visit
      split
      · rfl
      · simp [h]
  · rw [if_pos h1]
    simp [Inst.take, h2]
  · rw [if_neg (by omega)]
    simp [Inst.bring, h2]
theorem rmove_take (x : Inst) (s : State) (j : Int) (hl : x.stops.length < 2 ^ 63) (ho : s.ok) (hm : x.may = true) (hs : s.mayB x = true) (h2 : 0 ≤ j) (c2 : ¬ 2 * x.pairs < j) (c3 : j ≠ 0) (c6 : j ≤ x.pairs) : Pure P 70 [x.a, s.a, .i j] (mv (x.move s j)) := by
  generalize hR : x.move s j = R
  refine pure_of Tryz.func70 rfl rfl (by simp [Tryz.f70]) (by simp [bnd, bnd.bndL, Inst.a, State.a, State.cs]) (by simp [bnd, bnd.bndL, mv, State.a, State.cs]) fun B hB hnx => ?_
  simp only [Tryz.f70] at hB ⊢
  refine K_run hB 100 ?_
  simp [go_sem, Inst.a, State.a, State.cs]
  refine K_call rfl rfl rfl (args := [x.a, s.a]) (f := 41) (by simp [go_sem, Inst.a, State.a, State.cs]) (by simp [go_sem, hB]) ((rmay10_pure x s hl).spec _ _) ?_
  obtain ⟨p, hx⟩ := x.fit hm
  have hst := s.fit hx hs
  have hfew := hx.few
  have hp := hx.pairs
  have w1 := w64 (2 * x.pairs) (by omega)
  have c1 : ¬ j < 0 := by omega
  have h3 : j ≤ 2 * p := by omega
  have g1 := hx.lt hst.spot.2
  have g2 := hx.lt h3
  have g3 := hx.get hst.spot.2
  have g4 := hx.get h3
  have hsp := hst.spot.1
  rw [move_in hm hs h2 (by omega)] at hR
  refine K_run hB 100 ?_
  simp [go_sem, hm, hs, c1, c2, w1]
  refine K_drawn [] rfl (by rw [hB]; kernel_rfl) ?_
  have hfar := rfar_pure (x.stop s.spot) (x.stop j)
  have hfi := far_in' (x.stop s.spot) (x.stop j)
  refine K_run hB 100 ?_
  simp [go_sem, hsp, g1, h2, g2, g3, g4, Stop.t]
  refine K_dCallP rfl rfl rfl (args := [.agg ((x.stop s.spot).t.map .t), .agg ((x.stop j).t.map .t)]) (f := 68) (by simp [go_sem, Stop.t]) (hfar) ?_
  have hf := hx.at h2 h3
  have hlate : x.lateB s j = (hasB s.must j || decide (x.begins s j > (x.stop j).due)) := rfl
  have hbe : x.begins s j = max (s.time + far (x.stop s.spot) (x.stop j)) (x.stop j).ready := rfl
  have hfull : x.fullB s j = (decide (s.load + (x.stop j).demand > x.room) || (decide (s.spot = 0) && decide (j ≤ s.first))) := rfl
  have hempty : x.emptyB s j = (decide (s.spot = 0) || !hasB s.can (j - x.pairs)) := rfl
  have hto := to_visit (x := x) (s := s) (j := j) c3
  have htn := to_not (x := x) (s := s) (j := j) c3
  have hmax : (if s.time + far (x.stop s.spot) (x.stop j) < (x.stop j).ready then (x.stop j).ready else s.time + far (x.stop s.spot) (x.stop j)) = x.begins s j := by rw [hbe]; omega
  have hvis : x.begins s j ≤ (x.stop j).due → _ := fun h => rvisit_pure x s j (x.begins s j) hx hst ho h2 h3 (by have := hf.ready; have := hf.due; have := hst.time; omega)
  have w2 := w64 (s.time + far (x.stop s.spot) (x.stop j)) (by have := hst.time; omega)
  generalize x.begins s j = b at *
  generalize far (x.stop s.spot) (x.stop j) = d at *
  generalize x.lateB s j = late at *
  generalize x.fullB s j = full at *
  generalize x.emptyB s j = empty at *
  have hdem := hf.demand
  have hload := hst.load
  generalize x.stop j = a at *
  have w3 := w64 (s.load + a.demand) (by omega)
  have w4 := w64 (j - x.pairs) (by omega)
  have w5 := w64 b (by have := hf.ready; have := hst.time; omega)
  by_cases c4 : s.time + d < a.ready
  all_goals
    first | rw [if_pos c4] at hmax | rw [if_neg c4] at hmax
    rw [hmax] at c4
    refine K_run hB 100 ?_
    simp [go_sem, c3, c4, h2, g2, g4, Stop.t, w2, w5, hmax]
    refine K_call rfl rfl rfl (args := [.u s.must, .i j]) (f := 84) (by simp [go_sem]) (by simp [go_sem, hB]) ((rhas_pure s.must j ho.must).spec _ _) ?_
    cases hha : hasB s.must j with
    | true =>
      rw [if_neg (by rw [htn (.inl (by simp [hlate, hha]))]; simp)] at hR
      subst hR
      refine K_run hB 100 ?_
      simp [go_sem, mv, State.a, State.cs]
    | false =>
      rw [hha, Bool.false_or] at hlate
      by_cases c5 : a.due < b
      rotate_left
      · skip
        have hl0 : late = false := by rw [hlate]; exact decide_eq_false c5
        rw [hl0] at hto
        by_cases c7 : full = true
        · rw [if_neg (by rw [htn (.inr (.inl ⟨c6, c7⟩))]; simp)] at hR
          subst hR
          rw [c7, eq_comm, Bool.or_eq_true, Bool.and_eq_true, decide_eq_true_eq, decide_eq_true_eq, decide_eq_true_eq] at hfull
          refine K_run hB 100 ?_
          simp [go_sem, c5, c6, h2, g2, g4, Stop.t, w2, w5, hmax, w3]
          refine K_drawn [] rfl (by rw [hB]; kernel_rfl) ?_
          by_cases c8 : x.room < s.load + a.demand
          · refine K_run hB 100 ?_
            simp [go_sem, c5, c6, h2, g2, g4, Stop.t, w2, w5, hmax, w3, c8, mv, State.a, State.cs]
          · obtain ⟨c9, c10⟩ := hfull.resolve_left c8
            refine K_run hB 100 ?_
            simp [go_sem, c5, c6, h2, g2, g4, Stop.t, w2, w5, hmax, w3, c8, c9, c10, mv, State.a, State.cs]
        · have c7 : full = false := by simpa using c7
          have hv := hvis (by omega)
          rw [hto rfl (fun _ => c7) (by omega), if_pos rfl] at hR
          subst hR
          rw [c7, eq_comm, Bool.or_eq_false_iff, Bool.and_eq_false_iff, decide_eq_false_iff_not, decide_eq_false_iff_not, decide_eq_false_iff_not] at hfull
          obtain ⟨c8, c9⟩ := hfull
          have c10 : ¬ x.pairs < j := by omega
          refine K_run hB 100 ?_
          simp [go_sem, c5, c6, h2, g2, g4, Stop.t, w2, w5, hmax, w3]
          refine K_drawn [] rfl (by rw [hB]; kernel_rfl) ?_
          by_cases c9' : s.spot = 0
          all_goals
            first
            | have c11 := c9.resolve_left (fun h => h c9')
              refine K_run hB 100 ?_
              simp [go_sem, c6, h2, g2, g4, Stop.t, w2, w5, hmax, w3, c8, c9', c11, w4]
            | refine K_run hB 100 ?_
              simp [go_sem, c6, h2, g2, g4, Stop.t, w2, w5, hmax, w3, c8, c9', w4]
            refine K_call rfl rfl rfl (args := [.u s.can, .i (j - x.pairs)]) (f := 84) (by simp [go_sem]) (by simp [go_sem, hB]) ((rhas_pure s.can (j - x.pairs) ho.can).spec _ _) ?_
            refine K_run hB 100 ?_
            simp [go_sem, c10]
            refine K_call rfl rfl rfl (args := [x.a, s.a, .i j, .i b]) (f := 90) (by simp [go_sem, Inst.a, State.a, State.cs, c9']) (by simp [go_sem, hB]) ((hv).spec _ _) ?_
            refine K_run hB 100 ?_
            simp [go_sem, mv, State.a, State.cs]
      · rw [if_neg (by rw [htn (.inl (by rw [hlate]; exact decide_eq_true c5))]; simp)] at hR
        subst hR
        refine K_run hB 100 ?_
        simp [go_sem, c5, h2, g2, g4, Stop.t, hmax, w2, w5, mv, State.a, State.cs]
theorem rmove_bring (x : Inst) (s : State) (j : Int) (hl : x.stops.length < 2 ^ 63) (ho : s.ok) (hm : x.may = true) (hs : s.mayB x = true) (h2 : 0 ≤ j) (c2 : ¬ 2 * x.pairs < j) (c3 : j ≠ 0) (c6 : ¬ j ≤ x.pairs) : Pure P 70 [x.a, s.a, .i j] (mv (x.move s j)) := by
  generalize hR : x.move s j = R
  refine pure_of Tryz.func70 rfl rfl (by simp [Tryz.f70]) (by simp [bnd, bnd.bndL, Inst.a, State.a, State.cs]) (by simp [bnd, bnd.bndL, mv, State.a, State.cs]) fun B hB hnx => ?_
  simp only [Tryz.f70] at hB ⊢
  refine K_run hB 100 ?_
  simp [go_sem, Inst.a, State.a, State.cs]
  refine K_call rfl rfl rfl (args := [x.a, s.a]) (f := 41) (by simp [go_sem, Inst.a, State.a, State.cs]) (by simp [go_sem, hB]) ((rmay10_pure x s hl).spec _ _) ?_
  obtain ⟨p, hx⟩ := x.fit hm
  have hst := s.fit hx hs
  have hfew := hx.few
  have hp := hx.pairs
  have w1 := w64 (2 * x.pairs) (by omega)
  have c1 : ¬ j < 0 := by omega
  have h3 : j ≤ 2 * p := by omega
  have g1 := hx.lt hst.spot.2
  have g2 := hx.lt h3
  have g3 := hx.get hst.spot.2
  have g4 := hx.get h3
  have hsp := hst.spot.1
  rw [move_in hm hs h2 (by omega)] at hR
  refine K_run hB 100 ?_
  simp [go_sem, hm, hs, c1, c2, w1]
  refine K_drawn [] rfl (by rw [hB]; kernel_rfl) ?_
  have hfar := rfar_pure (x.stop s.spot) (x.stop j)
  have hfi := far_in' (x.stop s.spot) (x.stop j)
  refine K_run hB 100 ?_
  simp [go_sem, hsp, g1, h2, g2, g3, g4, Stop.t]
  refine K_dCallP rfl rfl rfl (args := [.agg ((x.stop s.spot).t.map .t), .agg ((x.stop j).t.map .t)]) (f := 68) (by simp [go_sem, Stop.t]) (hfar) ?_
  have hf := hx.at h2 h3
  have hlate : x.lateB s j = (hasB s.must j || decide (x.begins s j > (x.stop j).due)) := rfl
  have hbe : x.begins s j = max (s.time + far (x.stop s.spot) (x.stop j)) (x.stop j).ready := rfl
  have hfull : x.fullB s j = (decide (s.load + (x.stop j).demand > x.room) || (decide (s.spot = 0) && decide (j ≤ s.first))) := rfl
  have hempty : x.emptyB s j = (decide (s.spot = 0) || !hasB s.can (j - x.pairs)) := rfl
  have hto := to_visit (x := x) (s := s) (j := j) c3
  have htn := to_not (x := x) (s := s) (j := j) c3
  have hmax : (if s.time + far (x.stop s.spot) (x.stop j) < (x.stop j).ready then (x.stop j).ready else s.time + far (x.stop s.spot) (x.stop j)) = x.begins s j := by rw [hbe]; omega
  have hvis : x.begins s j ≤ (x.stop j).due → _ := fun h => rvisit_pure x s j (x.begins s j) hx hst ho h2 h3 (by have := hf.ready; have := hf.due; have := hst.time; omega)
  have w2 := w64 (s.time + far (x.stop s.spot) (x.stop j)) (by have := hst.time; omega)
  generalize x.begins s j = b at *
  generalize far (x.stop s.spot) (x.stop j) = d at *
  generalize x.lateB s j = late at *
  generalize x.fullB s j = full at *
  generalize x.emptyB s j = empty at *
  have hdem := hf.demand
  have hload := hst.load
  generalize x.stop j = a at *
  have w3 := w64 (s.load + a.demand) (by omega)
  have w4 := w64 (j - x.pairs) (by omega)
  have w5 := w64 b (by have := hf.ready; have := hst.time; omega)
  by_cases c4 : s.time + d < a.ready
  all_goals
    first | rw [if_pos c4] at hmax | rw [if_neg c4] at hmax
    rw [hmax] at c4
    refine K_run hB 100 ?_
    simp [go_sem, c3, c4, h2, g2, g4, Stop.t, w2, w5, hmax]
    refine K_call rfl rfl rfl (args := [.u s.must, .i j]) (f := 84) (by simp [go_sem]) (by simp [go_sem, hB]) ((rhas_pure s.must j ho.must).spec _ _) ?_
    cases hha : hasB s.must j with
    | true =>
      rw [if_neg (by rw [htn (.inl (by simp [hlate, hha]))]; simp)] at hR
      subst hR
      refine K_run hB 100 ?_
      simp [go_sem, mv, State.a, State.cs]
    | false =>
      rw [hha, Bool.false_or] at hlate
      by_cases c5 : a.due < b
      rotate_left
      · skip
        have hl0 : late = false := by rw [hlate]; exact decide_eq_false c5
        rw [hl0] at hto
        have c10 : x.pairs < j := by omega
        refine K_run hB 100 ?_
        simp [go_sem, c5, c6, h2, g2, g4, Stop.t, w2, w5, hmax, w3]
        refine K_drawn [] rfl (by rw [hB]; kernel_rfl) ?_
        refine K_run hB 100 ?_
        simp [go_sem, c6, h2, g2, g4, Stop.t, w2, w5, hmax, w3, w4]
        refine K_call rfl rfl rfl (args := [.u s.can, .i (j - x.pairs)]) (f := 84) (by simp [go_sem]) (by simp [go_sem, hB]) ((rhas_pure s.can (j - x.pairs) ho.can).spec _ _) ?_
        by_cases c7 : s.spot = 0
        · rw [if_neg (by rw [htn (.inr (.inr ⟨c10, by rw [hempty, c7]; rfl⟩))]; simp)] at hR
          subst hR
          refine K_run hB 100 ?_
          simp [go_sem, c10, c7, mv, State.a, State.cs]
        · cases c8 : hasB s.can (j - x.pairs) with
          | false =>
            rw [if_neg (by rw [htn (.inr (.inr ⟨c10, by rw [hempty, c8]; simp⟩))]; simp)] at hR
            subst hR
            refine K_run hB 100 ?_
            simp [go_sem, c10, c7, mv, State.a, State.cs]
          | true =>
            have hv := hvis (by omega)
            rw [hto rfl (fun h => absurd h c6) (fun _ => by rw [hempty, c8]; simp [c7]), if_pos rfl] at hR
            subst hR
            refine K_run hB 100 ?_
            simp [go_sem, c10, c7]
            refine K_call rfl rfl rfl (args := [x.a, s.a, .i j, .i b]) (f := 90) (by simp [go_sem, Inst.a, State.a, State.cs]) (by simp [go_sem, hB]) ((hv).spec _ _) ?_
            refine K_run hB 100 ?_
            simp [go_sem, mv, State.a, State.cs]
      · rw [if_neg (by rw [htn (.inl (by rw [hlate]; exact decide_eq_true c5))]; simp)] at hR
        subst hR
        refine K_run hB 100 ?_
        simp [go_sem, c5, h2, g2, g4, Stop.t, hmax, w2, w5, mv, State.a, State.cs]
theorem rmove_pure (x : Inst) (s : State) (j : Int) (hl : x.stops.length < 2 ^ 63) (ho : s.ok) : Pure P 70 [x.a, s.a, .i j] (mv (x.move s j)) := by
  by_cases q1 : x.may = true ∧ s.mayB x = true ∧ 0 ≤ j ∧ ¬ 2 * x.pairs < j ∧ j ≠ 0
  · obtain ⟨q1, q2, q3, q4, q5⟩ := q1
    by_cases q6 : j ≤ x.pairs
    · exact rmove_take x s j hl ho q1 q2 q3 q4 q5 q6
    · exact rmove_bring x s j hl ho q1 q2 q3 q4 q5 q6
  generalize hR : x.move s j = R
  refine pure_of Tryz.func70 rfl rfl (by simp [Tryz.f70]) (by simp [bnd, bnd.bndL, Inst.a, State.a, State.cs]) (by simp [bnd, bnd.bndL, mv, State.a, State.cs]) fun B hB hnx => ?_
  simp only [Tryz.f70] at hB ⊢
  refine K_run hB 100 ?_
  simp [go_sem, Inst.a, State.a, State.cs]
  refine K_call rfl rfl rfl (args := [x.a, s.a]) (f := 41) (by simp [go_sem, Inst.a, State.a, State.cs]) (by simp [go_sem, hB]) ((rmay10_pure x s hl).spec _ _) ?_
  cases hm : (x.may && s.mayB x) with
  | false =>
    have hn : x.move s j = (s, 0, false) := move_none fun h => by simp [h.1, h.2.1] at hm
    rw [hn] at hR
    subst hR
    refine K_run hB 100 ?_
    simp [go_sem, mv, State.a, State.cs]
  | true =>
    rw [Bool.and_eq_true] at hm
    obtain ⟨hm, hs⟩ := hm
    obtain ⟨p, hx⟩ := x.fit hm
    have hst := s.fit hx hs
    have hfew := hx.few
    have hp := hx.pairs
    have w1 := w64 (2 * x.pairs) (by omega)
    by_cases c1 : j < 0
    · rw [move_none (by omega)] at hR
      subst hR
      refine K_run hB 100 ?_
      simp [go_sem, c1, mv, State.a, State.cs]
    by_cases c2 : 2 * x.pairs < j
    · rw [move_none (by omega)] at hR
      subst hR
      refine K_run hB 100 ?_
      simp [go_sem, c1, c2, w1, mv, State.a, State.cs]
    obtain rfl : j = 0 := by
      rcases Decidable.em (j = 0) with e | e
      · exact e
      · exact absurd ⟨hm, hs, by omega, c2, e⟩ q1
    have h3 : (0 : Int) ≤ 2 * p := by omega
    have g1 := hx.lt hst.spot.2
    have g2 : (0 : Int) < x.stops.length := hx.lt h3
    have g3 := hx.get hst.spot.2
    have g4 := hx.get0
    have hsp := hst.spot.1
    have g5 : 0 < x.stops.length := by omega
    rw [move_in hm hs (by omega) (by omega)] at hR
    refine K_run hB 100 ?_
    simp [go_sem, c1, c2, w1]
    refine K_drawn [] rfl (by rw [hB]; kernel_rfl) ?_
    have hfar := rfar_pure (x.stop s.spot) (x.stop 0)
    refine K_run hB 100 ?_
    simp [go_sem, hsp, g1, g2, g3, g4, g5, Stop.t]
    refine K_dCallP rfl rfl rfl (args := [.agg ((x.stop s.spot).t.map .t), .agg ((x.stop 0).t.map .t)]) (f := 68) (by simp [go_sem, Stop.t]) (hfar) ?_
    have hh := rhome_pure x s hx hst ho
    have e : x.to s 0 = x.home s := by simp [Inst.to]
    have e2 := home_fst x s
    rw [e] at hR
    generalize x.home s = V at *
    obtain ⟨t, is⟩ := V
    generalize far (x.stop s.spot) (x.stop 0) = d at *
    refine K_run hB 100 ?_
    simp [go_sem]
    refine K_call rfl rfl rfl (args := [x.a, s.a, .i d]) (f := 89) (by simp [go_sem, Inst.a, State.a, State.cs]) (by simp [go_sem, hB]) ((hh).spec _ _) ?_
    cases is with
    | false =>
      have e3 : t = s := e2 rfl
      rw [if_neg (by simp)] at hR
      subst hR
      subst e3
      refine K_run hB 100 ?_
      simp [go_sem, mv, State.a, State.cs]
    | true =>
      rw [if_pos rfl] at hR
      subst hR
      refine K_run hB 100 ?_
      simp [go_sem, mv, State.a, State.cs]
end Go.Proofs.YtlhmchdfmjfmgaaGreat

/- All of the document's moves, the end, what follows; whether two rows are the same. -/
set_option maxRecDepth 4000
namespace Go.Proofs.YtlhmchdfmjfmgaaGreat
open Go Go.Proofs.YtlhmchdfmjfmgaaGreat.R
theorem canB_no : ∀ k, canB (fun _ => false) k = []
  | 0 => rfl
  | k + 1 => by rw [canB, canB_no k]; rfl
theorem moves_can (x : Inst) (s : State) : x.moves s = canB (fun k => (x.move s k).2.2) x.stops.length := by
  unfold Inst.moves
  split
  · rename_i h
    congr 1
    funext k
    rw [Inst.move, if_pos h]
  · rename_i h
    have : (fun k : Nat => (x.move s (k : Int)).2.2) = fun _ => false := by
      funext k
      rw [Inst.move, if_neg h]
    rw [this, canB_no]
theorem rmoves_pure (x : Inst) (s : State) (hl : x.stops.length < 2 ^ 31) (ho : s.ok) : Pure P 69 [x.a, s.a] (.t (.sl (ints (x.moves s)))) := by
  generalize hR : x.moves s = R
  rw [moves_can] at hR
  have hl' : x.stops.length < 2 ^ 63 := by omega
  have hst := fun j => rmove_pure x s j hl' ho
  have hmost : mostLen = 4294967296 := rfl
  refine pure_of Tryz.func69 rfl rfl (by simp [Tryz.f69]) (by simp [bnd, bnd.bndL, Inst.a, State.a, State.cs]) (by simp [bnd, bnd.bndL]) fun B hB hnx => ?_
  simp only [Tryz.f69] at hB ⊢
  refine K_run hB 100 ?_
  simp [go_sem, Inst.a, State.a, State.cs]
  refine K_own 5 1 (by simp [go_sem]) ?_
  refine K_loopP (α := Nat × Nat × (Nat → AObj) × Nat) (fun (k, j, σ, nx) => k ≤ x.stops.length ∧ σ 0 = .box [.t (.i x.pairs), .t (.i x.cars), .t (.i x.room), .t (.sl (x.stops.map Stop.t))] ∧ σ 1 = .box s.cs ∧ σ j = .arr 1 (ints (canB (fun k => (x.move s k).2.2) k)) ∧ 1 < j ∧ j < nx)
    (fun (k, j, σ, nx) => ⟨sl [(2, .ptr 0 0), (3, .ptr 1 0), (5, .ref j), (6, .i k)], σ, nx⟩) (fun a => x.stops.length - a.1) (0, 2, _, 3) ?_ (Imp.slots (by simp [go_sem]) rfl rfl) ?_
  · exact ⟨Nat.zero_le _, by simp [oput], by simp [oput, State.cs], by simp [oput, canB, ints], by omega, by omega⟩
  rintro ⟨k, j, σ, nx⟩ ⟨g1, g2, g3, g4, g5, g6⟩
  refine K_run hB 100 ?_
  simp [go_sem, g2]
  refine fork_dec (fun hk => ?_) (fun hk => ?_)
  · have hkk : IntKind.i64.wrap ((k : Int) + 1) = ((k + 1 : Nat) : Int) := by rw [w64 ((k : Int) + 1) (by omega)]; rfl
    have hn : canB (fun k => (x.move s k).2.2) (k + 1) = canB (fun k => (x.move s k).2.2) k ++ (if (x.move s k).2.2 = true then [(k : Int)] else []) := rfl
    have hcl := canB_len (fun k => (x.move s k).2.2) k
    have h1 := hst k
    generalize canB (fun k => (x.move s k).2.2) k = L at g4 hn hcl
    generalize x.move s k = V at hn h1
    obtain ⟨t, c, is⟩ := V
    simp only at hn
    simp [go_sem, g2, g3, State.cs]
    refine K_call rfl rfl rfl (args := [x.a, s.a, .i k]) (f := 70) (by simp [go_sem, Inst.a, State.a, State.cs]) (by simp [go_sem, hB]) ((h1).spec _ _) ?_
    cases is with
    | false =>
      refine K_run hB 100 ?_
      simp [go_sem, mv, State.a, State.cs, hkk]
      refine Next.mk (k + 1, j, _, nx + 1) ?_ (Imp.slots (by simp [go_sem]) rfl rfl) (by simp only; omega)
      refine ⟨by simp only; omega, ?_, ?_, ?_, by simp only; omega, by simp only; omega⟩
      · simp [oput, show ¬ 0 = nx by omega, g2]
      · simp [oput, show ¬ 1 = nx by omega, g3, State.cs]
      · simp only [hn]
        simp [oput, show ¬ j = nx by omega, g4]
    | true =>
      have hlen' : (ints L).length = L.length := List.length_map _
      have hcap : L.length + 1 ≤ mostLen := by omega
      refine K_run hB 100 ?_
      simp [go_sem, mv, State.a, State.cs, hkk, g4, hlen', hcap, show ¬ j = nx by omega]
      refine Next.mk (k + 1, nx + 1, _, nx + 2) ?_ (Imp.slots (by simp [go_sem]) rfl rfl) (by simp only; omega)
      refine ⟨by simp only; omega, ?_, ?_, ?_, by simp only; omega, by simp only; omega⟩
      · simp [oput, show ¬ 0 = nx by omega, show ¬ 0 = nx + 1 by omega, show ¬ 0 = j by omega, g2]
      · simp [oput, show ¬ 1 = nx by omega, show ¬ 1 = nx + 1 by omega, show ¬ 1 = j by omega, show ¬ nx = 0 by omega, g3, State.cs]
      · simp only [hn]
        simp [oput, ints]
  · have : k = x.stops.length := by omega
    subst this
    rw [hR] at g4
    simp [go_sem, g4]
theorem endS_no {x : Inst} {s : State} (h1 : x.may = true) (h0 : ¬ (x.pairs = 0 ∧ s = x.rootS)) (h : ¬ (s.mayB x = true ∧ s.spot ≠ 0 ∧ s.on = 0 ∧ x.allB s.can = true ∧ s.time + far (x.stop s.spot) (x.stop 0) ≤ (x.stop 0).due)) : x.endS s = (0, false) := by
  unfold Inst.endS
  rw [if_neg (by simp [h1]), if_neg h0, if_neg h]
theorem rend_tail (x : Inst) (s : State) (hl : x.stops.length < 2 ^ 63) (ho : s.ok) (hm : x.may = true) (c1 : ¬ (x.pairs = 0 ∧ s = x.rootS)) : Pure P 43 [x.a, s.a] (.tup [.i (x.endS s).1, .b (x.endS s).2]) := by
  generalize hR : x.endS s = R
  refine pure_of Tryz.func43 rfl rfl (by simp [Tryz.f43]) (by simp [bnd, bnd.bndL, Inst.a, State.a, State.cs]) (by simp [bnd, bnd.bndL]) fun B hB hnx => ?_
  simp only [Tryz.f43] at hB ⊢
  obtain ⟨p, hx⟩ := x.fit hm
  have hrr := rroot_pureS x hl
  have hno := endS_no hm c1
  have hyes : s.mayB x = true ∧ s.spot ≠ 0 ∧ s.on = 0 ∧ x.allB s.can = true ∧ s.time + far (x.stop s.spot) (x.stop 0) ≤ (x.stop 0).due → x.endS s = (far (x.stop s.spot) (x.stop 0), true) := fun h => by
    unfold Inst.endS
    rw [if_neg (by simp [hm]), if_neg c1, if_pos h]
  have g2 : (0 : Int) < x.stops.length := hx.lt (j := 0) (by omega)
  have g3 : 0 < x.stops.length := by omega
  have g4 := hx.get0
  have hall := rall_pure x s.can ho.can hx
  refine K_run hB 100 ?_
  simp [go_sem, Inst.a, State.a, State.cs]
  refine K_call rfl rfl rfl (args := [x.a]) (f := 40) (by simp [go_sem, Inst.a]) (by simp [go_sem, hB]) ((rmay_pure x hl).spec _ _) ?_
  refine K_run hB 100 ?_
  simp [go_sem, hm]
  refine K_drawn [] rfl (by rw [hB]; kernel_rfl) ?_
  generalize x.rootS = r at *
  by_cases c2 : x.pairs = 0
  all_goals
    first
    | have c3 : ¬ s = r := fun h => c1 ⟨c2, h⟩
      refine K_run hB 100 ?_
      simp [go_sem, c2]
      refine K_dCallP rfl rfl rfl (args := [x.a]) (f := 19) (by simp [go_sem, Inst.a, c2]) (hrr) ?_
      refine K_dEq (op := .eql) (t := 49) (t' := 49) (x := .tmp 19) (y := .tmp 21) (xs := s.cs) (ys := r.cs) (by simp [go_sem, c2]) rfl (by simp [go_sem, State.cs]) (by simp [go_sem, State.a]) state_guard (state_eq s r) rfl ?_
      refine K_run hB 100 ?_
      simp [go_sem, c2, c3]
    | refine K_run hB 100 ?_
      simp [go_sem, c2]
    refine K_call rfl rfl rfl (args := [x.a, s.a]) (f := 41) (by simp [go_sem, Inst.a, State.a, State.cs, c2]) (by simp [go_sem, hB]) ((rmay10_pure x s hl).spec _ _) ?_
    rw [hm, Bool.true_and]
    cases hs : s.mayB x with
    | false =>
      rw [hno (by simp [hs])] at hR
      subst hR
      refine K_run hB 100 ?_
      simp [go_sem]
    | true =>
      by_cases c4 : s.spot = 0
      · rw [hno (by simp [c4])] at hR
        subst hR
        refine K_run hB 100 ?_
        simp [go_sem, c4]
      by_cases c5 : s.on = 0
      rotate_left
      · rw [hno (by simp [c5])] at hR
        subst hR
        refine K_run hB 100 ?_
        simp [go_sem, c4, c5]
      have hst := s.fit hx hs
      have hsp := hst.spot.1
      have g5 := hx.lt hst.spot.2
      have g6 := hx.get hst.spot.2
      have hfar := rfar_pure (x.stop s.spot) (x.stop 0)
      have hfi := far_in' (x.stop s.spot) (x.stop 0)
      refine K_run hB 100 ?_
      simp [go_sem, c4, c5]
      refine K_call rfl rfl rfl (args := [x.a, .u s.can]) (f := 67) (by simp [go_sem, Inst.a, c2]) (by simp [go_sem, hB]) ((hall).spec _ _) ?_
      refine K_run hB 100 ?_
      simp [go_sem]
      refine K_drawn [] rfl (by rw [hB]; kernel_rfl) ?_
      refine K_run hB 100 ?_
      simp [go_sem, hsp, g2, g3, g4, g5, g6, Stop.t]
      refine K_dCallP rfl rfl rfl (args := [.agg ((x.stop s.spot).t.map .t), .agg ((x.stop 0).t.map .t)]) (f := 68) (by simp [go_sem, Stop.t]) (hfar) ?_
      generalize far (x.stop s.spot) (x.stop 0) = d at *
      generalize x.stop 0 = a at *
      have w1 := w64 (s.time + d) (by have := hst.time; omega)
      cases c6 : x.allB s.can with
      | false =>
        rw [hno (by simp [c6])] at hR
        subst hR
        refine K_run hB 100 ?_
        simp [go_sem]
        refine K_drawn [] rfl (by rw [hB]; kernel_rfl) ?_
        refine K_run hB 100 ?_
        simp [go_sem]
      | true =>
        by_cases c7 : a.due < s.time + d
        · rw [hno (by intro h; have := h.2.2.2.2; omega)] at hR
          subst hR
          refine K_run hB 100 ?_
          simp [go_sem]
          refine K_drawn [] rfl (by rw [hB]; kernel_rfl) ?_
          refine K_run hB 100 ?_
          simp [go_sem, w1, c7, g2, g3, g4, Stop.t]
        · rw [hyes ⟨hs, c4, c5, c6, by omega⟩] at hR
          subst hR
          refine K_run hB 100 ?_
          simp [go_sem]
          refine K_drawn [] rfl (by rw [hB]; kernel_rfl) ?_
          refine K_run hB 100 ?_
          simp [go_sem, w1, c7, g2, g3, g4, Stop.t]
theorem rend_pure (x : Inst) (s : State) (hl : x.stops.length < 2 ^ 63) (ho : s.ok) : Pure P 43 [x.a, s.a] (.tup [.i (x.endS s).1, .b (x.endS s).2]) := by
  by_cases q : x.may = true ∧ ¬ (x.pairs = 0 ∧ s = x.rootS)
  · exact rend_tail x s hl ho q.1 q.2
  generalize hR : x.endS s = R
  refine pure_of Tryz.func43 rfl rfl (by simp [Tryz.f43]) (by simp [bnd, bnd.bndL, Inst.a, State.a, State.cs]) (by simp [bnd, bnd.bndL]) fun B hB hnx => ?_
  simp only [Tryz.f43] at hB ⊢
  rw [Inst.endS] at hR
  refine K_run hB 100 ?_
  simp [go_sem, Inst.a, State.a, State.cs]
  refine K_call rfl rfl rfl (args := [x.a]) (f := 40) (by simp [go_sem, Inst.a]) (by simp [go_sem, hB]) ((rmay_pure x hl).spec _ _) ?_
  cases hm : x.may with
  | false =>
    rw [if_pos hm] at hR
    subst hR
    refine K_run hB 100 ?_
    simp [go_sem]
    refine K_drawn [] rfl (by rw [hB]; kernel_rfl) ?_
    refine K_run hB 100 ?_
    simp [go_sem]
    refine K_call rfl rfl rfl (args := [x.a, s.a]) (f := 41) (by simp [go_sem, Inst.a, State.a, State.cs]) (by simp [go_sem, hB]) ((rmay10_pure x s hl).spec _ _) ?_
    rw [hm, Bool.false_and]
    refine K_run hB 100 ?_
    simp [go_sem]
  | true =>
    have c1 : x.pairs = 0 ∧ s = x.rootS := Decidable.byContradiction fun h => q ⟨hm, h⟩
    rw [if_neg (by simp [hm]), if_pos c1] at hR
    subst hR
    obtain ⟨c2, c3⟩ := c1
    have hrr := rroot_pureS x hl
    generalize x.rootS = r at *
    refine K_run hB 100 ?_
    simp [go_sem]
    refine K_drawn [] rfl (by rw [hB]; kernel_rfl) ?_
    refine K_run hB 100 ?_
    simp [go_sem, c2]
    refine K_dCallP rfl rfl rfl (args := [x.a]) (f := 19) (by simp [go_sem, Inst.a, c2]) (hrr) ?_
    refine K_dEq (op := .eql) (t := 49) (t' := 49) (x := .tmp 19) (y := .tmp 21) (xs := s.cs) (ys := r.cs) (by simp [go_sem, c2]) rfl (by simp [go_sem, State.cs]) (by simp [go_sem, State.a]) state_guard (state_eq s r) rfl ?_
    refine K_run hB 100 ?_
    simp [go_sem, c2, c3]
end Go.Proofs.YtlhmchdfmjfmgaaGreat

/- Nodes. -/
set_option maxRecDepth 4000
namespace Go.Proofs.YtlhmchdfmjfmgaaGreat
open Go Go.Proofs.YtlhmchdfmjfmgaaGreat.R
structure Node where
  s : State
  cost : Int
  path : List Int
  deriving DecidableEq
def Node.cs (n : Node) : List AV := [.i n.s.spot, .i n.s.car, .i n.s.time, .i n.s.load, .i n.s.first, .u n.s.must, .u n.s.can, .u n.s.on, .i n.cost, .t (.sl (ints n.path))]
def Node.a (n : Node) : AV := .agg n.cs
/-- As an element of a row. -/
def Node.t (n : Node) : List T := [.i n.s.spot, .i n.s.car, .i n.s.time, .i n.s.load, .i n.s.first, .v (.int .u64 n.s.must), .v (.int .u64 n.s.can), .v (.int .u64 n.s.on), .i n.cost, .sl (ints n.path)]
end Go.Proofs.YtlhmchdfmjfmgaaGreat

/- Bounds: of nodes; the document's; what covers what; the laws BoundTells, BoundCovers. -/
set_option maxRecDepth 4000
namespace Go.Proofs.YtlhmchdfmjfmgaaGreat
open Go Go.Proofs.YtlhmchdfmjfmgaaGreat.R
def Inst.of (x : Inst) (n : Node) : Int := sumI [n.cost, x.low n.s]
theorem rat_pure (x : Inst) (s : State) (hl : x.stops.length < 2 ^ 31) (ho : s.ok) : Pure P 66 [x.a, s.a] (.i (x.low s)) := by
  generalize hR : x.low s = R
  refine pure_of Tryz.func66 rfl rfl (by simp [Tryz.f66]) (by simp [bnd, bnd.bndL, Inst.a, State.a, State.cs]) (by simp [bnd, bnd.bndL]) fun B hB hnx => ?_
  simp only [Tryz.f66] at hB ⊢
  rw [Inst.low] at hR
  have hnl := near_len x
  have hne := rnear_pure x hl
  generalize x.near = near at *
  refine K_run hB 100 ?_
  simp [go_sem, Inst.a, State.a, State.cs]
  refine K_call rfl rfl rfl (args := [x.a]) (f := 83) (by simp [go_sem, Inst.a]) (by simp [go_sem, hB]) ((hne).spec _ _) ?_
  match near, hR, hnl with
  | [], hR, _ =>
    simp only [atLeast] at hR
    subst hR
    refine K_run hB 100 ?_
    simp [go_sem, ints]
  | [_], hR, _ =>
    simp only [atLeast] at hR
    subst hR
    refine K_run hB 100 ?_
    simp [go_sem, ints]
  | d0 :: d1 :: l, hR, hnl =>
    simp only [atLeast] at hR
    rw [leftSum, if_neg (by simp)] at hR
    obtain ⟨Y, hY⟩ : ∃ Y, Y = d0 :: d1 :: l := ⟨_, rfl⟩
    obtain ⟨X, hX⟩ : ∃ X, X = ints Y := ⟨_, rfl⟩
    have hdr : Y.drop 1 = d1 :: l := by rw [hY]; rfl
    have hlen : Y.length = l.length + 2 := by rw [hY]; rfl
    have hil : X.length = l.length + 2 := by rw [hX, ints, List.length_map, hlen]
    have hgt : ¬ (l.length : Int) + 2 < 2 := by omega
    have hpos : (0 : Int) < l.length + 2 := by omega
    have hll : l.length + 2 < 2 ^ 63 := by simp only [List.length_cons] at hnl; omega
    have hget : ∀ (k : Nat) (h : k < Y.length) (h' : k < X.length), X[k]'h' = [.i (Y[k]'h)] := fun k h h' => by subst hX; exact ints_getS _ h
    have hget0 : ∀ h : 0 < X.length, X[0]'h = [.i d0] := fun h => by rw [hget 0 (by omega) h]; simp [hY]
    rw [← hdr, Nat.zero_add] at hR
    rw [← hY, ← hX] at hne
    rw [← hY, ← hX]
    clear hX hY
    refine K_run hB 100 ?_
    simp [go_sem, hil, hgt, hpos, hget0]
    refine K_loopP (α := Nat × Int) (fun (k, n) => 1 ≤ k ∧ k ≤ Y.length ∧ leftSum s.can k (Y.drop k) n = R) (fun (k, n) => ⟨sl [(3, .ptr 1 0), (5, .t (.sl X)), (6, .i n), (7, .i k)], oput (oput noObj 0 (.box [.t (.i x.pairs), .t (.i x.cars), .t (.i x.room), .t (.sl (x.stops.map Stop.t))])) 1 (.box s.cs), 2⟩) (fun a => Y.length - a.1) (1, d0) ⟨Nat.le_refl _, by omega, hR⟩ (Imp.slots (by simp [go_sem]) rfl rfl) ?_
    rintro ⟨k, n⟩ ⟨g1, g2, g3⟩
    refine K_run hB 60 ?_
    simp [go_sem, hil]
    refine fork_dec (fun hk => ?_) (fun hk => ?_)
    · have hk' : k < Y.length := by omega
      have hkk : IntKind.i64.wrap ((k : Int) + 1) = ((k + 1 : Nat) : Int) := by rw [w64 ((k : Int) + 1) (by omega)]; rfl
      rw [List.drop_eq_getElem_cons hk', leftSum] at g3
      have hg : X[k]? = some [.i Y[k]] := by rw [List.getElem?_eq_getElem (by omega), hget k hk' (by omega)]
      have hki : (k : Int) < l.length + 2 := by omega
      generalize Y[k] = d at *
      simp [go_sem, State.cs]
      refine K_call rfl rfl rfl (args := [.u s.can, .i k]) (f := 84) (by simp [go_sem]) (by simp [go_sem, hB]) ((rhas_pure s.can k ho.can).spec _ _) ?_
      cases c1 : hasB s.can k with
      | true =>
        rw [if_neg (by simp [c1])] at g3
        refine K_run hB 100 ?_
        simp [go_sem, hkk]
        exact Next.mk (k + 1, n) ⟨by simp only; omega, by simp only; omega, g3⟩ (Imp.slots (by simp [go_sem]) (by simp [State.cs]) rfl) (by simp only; omega)
      | false =>
        rw [if_pos ⟨by omega, c1⟩] at g3
        refine K_run hB 100 ?_
        simp [go_sem, hil, hki, hg, hkk]
        exact Next.mk (k + 1, IntKind.i64.wrap (n + d)) ⟨by simp only; omega, by simp only; omega, g3⟩ (Imp.slots (by simp [go_sem]) (by simp [State.cs]) rfl) (by simp only; omega)
    · have : k = Y.length := by omega
      subst this
      rw [List.drop_length, leftSum] at g3
      simp [go_sem, g3]
end Go.Proofs.YtlhmchdfmjfmgaaGreat

/- What covers what; the laws BoundTells, BoundCovers. -/
set_option maxRecDepth 4000
namespace Go.Proofs.YtlhmchdfmjfmgaaGreat
open Go Go.Proofs.YtlhmchdfmjfmgaaGreat.R
/-! ### Plain: no sum outgrows a number -/
theorem far_le (a b : Stop) : 0 ≤ far a b ∧ far a b ≤ 14143 := by
  obtain ⟨h1, h2⟩ := sq_in a b
  refine ⟨(far_in a b).1, ?_⟩
  unfold far rootI
  split
  · omega
  · rename_i hp
    have e : (min (sq a b) 1152921504606846976).toNat = (sq a b).toNat := by omega
    rw [e]
    obtain ⟨g1, _⟩ := rootL_spec (sq a b).toNat 31 0 (by omega) (by simp; omega)
    generalize rootL (sq a b).toNat 31 0 = r at *
    have : r ≤ 14142 := by
      rcases Nat.lt_or_ge 14142 r with h | h
      · have := Nat.mul_le_mul (show 14143 ≤ r from h) (show 14143 ≤ r from h)
        omega
      · exact h
    omega
theorem within_has {a b : Nat} (h : withinB b a = true) (j : Int) : hasB b j = true → hasB a j = true := by
  unfold hasB
  simp only [Bool.and_eq_true, decide_eq_true_eq]
  rintro ⟨h1, h2⟩
  refine ⟨h1, ?_⟩
  have := List.all_eq_true.1 h j.toNat (List.mem_range.2 (by omega))
  rw [h2] at this
  simpa using this
/-! ### The walks -/
def coversB (a b : State) : Bool :=
  decide (a.spot = b.spot) && withinB a.must b.must && withinB a.on b.on && withinB b.can a.can && decide (a.car ≤ b.car) && decide (a.time ≤ b.time) && decide (a.load ≤ b.load) && decide (a.first ≤ b.first)
theorem covers_pure (a b : State) : Pure P 63 [a.a, b.a] (.b (coversB a b)) := by
  generalize hR : coversB a b = R
  refine pure_of Tryz.func63 rfl rfl (by simp [Tryz.f63]) (by simp [bnd, bnd.bndL, State.a, State.cs]) (by simp [bnd, bnd.bndL]) fun B hB hnx => ?_
  simp only [Tryz.f63] at hB ⊢
  rw [coversB] at hR
  have hw1 := within_pure a.must b.must
  have hw2 := within_pure a.on b.on
  have hw3 := within_pure b.can a.can
  by_cases c1 : a.spot = b.spot
  rotate_left
  · refine K_run hB 100 ?_
    simp [go_sem, State.a, State.cs, c1]
    simp [← hR, c1]
  refine K_run hB 100 ?_
  simp [go_sem, State.a, State.cs, c1]
  refine K_call rfl rfl rfl (args := [.u a.must, .u b.must]) (f := 79) (by simp [go_sem]) (by simp [go_sem, hB]) ((hw1).spec _ _) ?_
  cases c2 : withinB a.must b.must with
  | false =>
    refine K_run hB 100 ?_
    simp [go_sem]
    simp [← hR, c2]
  | true =>
    refine K_run hB 100 ?_
    simp [go_sem]
    refine K_call rfl rfl rfl (args := [.u a.on, .u b.on]) (f := 79) (by simp [go_sem]) (by simp [go_sem, hB]) ((hw2).spec _ _) ?_
    cases c3 : withinB a.on b.on with
    | false =>
      refine K_run hB 100 ?_
      simp [go_sem]
      simp [← hR, c3]
    | true =>
      refine K_run hB 100 ?_
      simp [go_sem]
      refine K_call rfl rfl rfl (args := [.u b.can, .u a.can]) (f := 79) (by simp [go_sem]) (by simp [go_sem, hB]) ((hw3).spec _ _) ?_
      cases c4 : withinB b.can a.can with
      | false =>
        refine K_run hB 100 ?_
        simp [go_sem]
        simp [← hR, c4]
      | true =>
        rw [c2, c3, c4] at hR
        simp only [c1, decide_true, Bool.and_true, Bool.true_and] at hR
        refine K_run hB 100 ?_
        simp [go_sem]
        refine atVal_decT (fun h1 => ?_) (fun h1 => by simp [go_sem, h1, ← hR])
        simp [go_sem, h1]
        refine atVal_decT (fun h2 => ?_) (fun h2 => by simp [go_sem, h2, ← hR])
        simp [go_sem, h2]
        refine atVal_decT (fun h3 => ?_) (fun h3 => by simp [go_sem, h3, ← hR])
        simp [go_sem, h3]
        simp [← hR, h1, h2, h3]
end Go.Proofs.YtlhmchdfmjfmgaaGreat

/- Proofs: spots, parts; may one be looked at? -/
set_option maxRecDepth 4000
namespace Go.Proofs.YtlhmchdfmjfmgaaGreat
open Go Go.Proofs.YtlhmchdfmjfmgaaGreat.R
structure Spot where
  s : State
  cost : Int
  part : Int
def Spot.t (n : Spot) : List T := [.i n.s.spot, .i n.s.car, .i n.s.time, .i n.s.load, .i n.s.first, .v (.int .u64 n.s.must), .v (.int .u64 n.s.can), .v (.int .u64 n.s.on), .i n.cost, .i n.part]
def Spot.cs (n : Spot) : List AV := [.i n.s.spot, .i n.s.car, .i n.s.time, .i n.s.load, .i n.s.first, .u n.s.must, .u n.s.can, .u n.s.on, .i n.cost, .i n.part]
def Spot.a (n : Spot) : AV := .agg n.cs
def layT (l : List Spot) : List T := [.sl (l.map Spot.t)]
def partT (p : List (List Spot)) : List T := [.sl (p.map layT)]
structure Prf where
  least : Int
  parts : List (List (List Spot))
def Prf.cs (p : Prf) : List AV := [.i p.least, .t (.sl (p.parts.map partT))]
def Prf.a (p : Prf) : AV := .agg p.cs
/-- What a checker holds. -/
def ckC (x : Inst) (p : Prf) (D : AV) : List AV := [.t (.i x.pairs), .t (.i x.cars), .t (.i x.room), .t (.sl (x.stops.map Stop.t)), .i p.least, .t (.sl (p.parts.map partT)), D]
def Inst.spotB (x : Inst) (p : Prf) (n : Spot) : Bool :=
  n.s.mayB x && decide (n.cost ≥ 0) && decide (n.cost ≤ 1152921504606846976) && decide (n.part ≥ 0) && decide (n.part ≤ p.parts.length)
theorem ckmay_spec (x : Inst) (p : Prf) (n : Spot) (D : AV) (hx : 0 ≤ x.pairs ∧ x.pairs ≤ 16) {σ : Nat → AObj} {nx c : Nat} (hc : c < nx) (hσ : σ c = .box (ckC x p D)) :
    CallSpec P 27 [.ptr c 0, n.a] σ nx (.b (x.spotB p n)) σ nx := by
  generalize hR : x.spotB p n = R
  refine spec_keep Tryz.func27 rfl rfl (by simp [Tryz.f27]) (by simp [bnd]) fun hk B hB hnx hσB => ?_
  simp only [Tryz.f27] at hB ⊢
  have hc1 : ¬ c = nx := by omega
  have hc2 : ¬ c = nx + 1 := by omega
  have w1 := w64 (2 * x.pairs) (by omega)
  have hpl : (p.parts.map partT).length = p.parts.length := List.length_map _
  rw [Inst.spotB, State.mayB] at hR
  refine K_run hB 100 ?_
  simp [go_sem, Spot.a, Spot.cs]
  refine K_drawn [] rfl (by rw [hB]; kernel_rfl) ?_
  have fin : ∀ (a b : AObj) (i : Nat), i < nx → oput (oput σ nx a) (nx + 1) b i = σ i := fun a b i h => by simp [oput, show ¬ i = nx by omega, show ¬ i = nx + 1 by omega]
  by_cases c1 : 0 ≤ n.s.spot
  rotate_left
  · simp [c1] at hR
    subst hR
    refine K_run hB 100 ?_
    simp [go_sem, c1, hσ, hc1, hc2, ckC, w1, hpl]
    refine K_drawn [] rfl (by rw [hB]; kernel_rfl) ?_
    refine K_run hB 100 ?_
    simp [go_sem]
    exact ⟨by omega, fun i h => by simp [oput, show ¬ i = nx by omega, show ¬ i = nx + 1 by omega]⟩
  by_cases c2 : n.s.spot ≤ 2 * x.pairs
  rotate_left
  · simp [c1, c2] at hR
    subst hR
    refine K_run hB 100 ?_
    simp [go_sem, c1, c2, hσ, hc1, hc2, ckC, w1, hpl]
    refine K_drawn [] rfl (by rw [hB]; kernel_rfl) ?_
    refine K_run hB 100 ?_
    simp [go_sem]
    exact ⟨by omega, fun i h => by simp [oput, show ¬ i = nx by omega, show ¬ i = nx + 1 by omega]⟩
  by_cases c3 : 1 ≤ n.s.car
  rotate_left
  · simp [c1, c2, c3] at hR
    subst hR
    refine K_run hB 100 ?_
    simp [go_sem, c1, c2, c3, hσ, hc1, hc2, ckC, w1, hpl]
    refine K_drawn [] rfl (by rw [hB]; kernel_rfl) ?_
    refine K_run hB 100 ?_
    simp [go_sem]
    exact ⟨by omega, fun i h => by simp [oput, show ¬ i = nx by omega, show ¬ i = nx + 1 by omega]⟩
  by_cases c4 : n.s.car ≤ x.cars
  rotate_left
  · simp [c1, c2, c3, c4] at hR
    subst hR
    refine K_run hB 100 ?_
    simp [go_sem, c1, c2, c3, c4, hσ, hc1, hc2, ckC, w1, hpl]
    refine K_drawn [] rfl (by rw [hB]; kernel_rfl) ?_
    refine K_run hB 100 ?_
    simp [go_sem]
    exact ⟨by omega, fun i h => by simp [oput, show ¬ i = nx by omega, show ¬ i = nx + 1 by omega]⟩
  refine K_run hB 100 ?_
  simp [go_sem, c1, c2, c3, c4, hσ, hc1, hc2, ckC, w1, hpl]
  refine K_drawn [] rfl (by rw [hB]; kernel_rfl) ?_
  by_cases c5 : 0 ≤ n.s.time
  rotate_left
  · simp [c1, c2, c3, c4, c5] at hR
    subst hR
    refine K_run hB 100 ?_
    simp [go_sem, c1, c2, c3, c4, c5, hσ, hc1, hc2, ckC, w1, hpl]
    exact ⟨by omega, fun i h => by simp [oput, show ¬ i = nx by omega, show ¬ i = nx + 1 by omega]⟩
  by_cases c6 : n.s.time ≤ 1073741824
  rotate_left
  · simp [c1, c2, c3, c4, c5, c6] at hR
    subst hR
    refine K_run hB 100 ?_
    simp [go_sem, c1, c2, c3, c4, c5, c6, hσ, hc1, hc2, ckC, w1, hpl]
    exact ⟨by omega, fun i h => by simp [oput, show ¬ i = nx by omega, show ¬ i = nx + 1 by omega]⟩
  by_cases c7 : 0 ≤ n.s.load
  rotate_left
  · simp [c1, c2, c3, c4, c5, c6, c7] at hR
    subst hR
    refine K_run hB 100 ?_
    simp [go_sem, c1, c2, c3, c4, c5, c6, c7, hσ, hc1, hc2, ckC, w1, hpl]
    exact ⟨by omega, fun i h => by simp [oput, show ¬ i = nx by omega, show ¬ i = nx + 1 by omega]⟩
  by_cases c8 : n.s.load ≤ 1000
  rotate_left
  · simp [c1, c2, c3, c4, c5, c6, c7, c8] at hR
    subst hR
    refine K_run hB 100 ?_
    simp [go_sem, c1, c2, c3, c4, c5, c6, c7, c8, hσ, hc1, hc2, ckC, w1, hpl]
    exact ⟨by omega, fun i h => by simp [oput, show ¬ i = nx by omega, show ¬ i = nx + 1 by omega]⟩
  by_cases c9 : 0 ≤ n.cost
  rotate_left
  · simp [c1, c2, c3, c4, c5, c6, c7, c8, c9] at hR
    subst hR
    refine K_run hB 100 ?_
    simp [go_sem, c1, c2, c3, c4, c5, c6, c7, c8, c9, hσ, hc1, hc2, ckC, w1, hpl]
    exact ⟨by omega, fun i h => by simp [oput, show ¬ i = nx by omega, show ¬ i = nx + 1 by omega]⟩
  by_cases c10 : n.cost ≤ 1152921504606846976
  rotate_left
  · simp [c1, c2, c3, c4, c5, c6, c7, c8, c9, c10] at hR
    subst hR
    refine K_run hB 100 ?_
    simp [go_sem, c1, c2, c3, c4, c5, c6, c7, c8, c9, c10, hσ, hc1, hc2, ckC, w1, hpl]
    exact ⟨by omega, fun i h => by simp [oput, show ¬ i = nx by omega, show ¬ i = nx + 1 by omega]⟩
  by_cases c11 : 0 ≤ n.part
  rotate_left
  · simp [c1, c2, c3, c4, c5, c6, c7, c8, c9, c10, c11] at hR
    subst hR
    refine K_run hB 100 ?_
    simp [go_sem, c1, c2, c3, c4, c5, c6, c7, c8, c9, c10, c11, hσ, hc1, hc2, ckC, w1, hpl]
    exact ⟨by omega, fun i h => by simp [oput, show ¬ i = nx by omega, show ¬ i = nx + 1 by omega]⟩
  by_cases c12 : n.part ≤ p.parts.length
  rotate_left
  · simp [c1, c2, c3, c4, c5, c6, c7, c8, c9, c10, c11, c12] at hR
    subst hR
    refine K_run hB 100 ?_
    simp [go_sem, c1, c2, c3, c4, c5, c6, c7, c8, c9, c10, c11, c12, hσ, hc1, hc2, ckC, w1, hpl]
    exact ⟨by omega, fun i h => by simp [oput, show ¬ i = nx by omega, show ¬ i = nx + 1 by omega]⟩
  simp [c1, c2, c3, c4, c5, c6, c7, c8, c9, c10, c11, c12] at hR
  subst hR
  refine K_run hB 100 ?_
  simp [go_sem, c1, c2, c3, c4, c5, c6, c7, c8, c9, c10, c11, c12, hσ, hc1, hc2, ckC, w1, hpl]
  exact ⟨by omega, fun i h => by simp [oput, show ¬ i = nx by omega, show ¬ i = nx + 1 by omega]⟩
end Go.Proofs.YtlhmchdfmjfmgaaGreat

/- Proofs as arguments. -/
set_option maxRecDepth 100000
namespace Go.Proofs.YtlhmchdfmjfmgaaGreat
open Go Go.ChangeShapes Go.WideShapes Go.ChangeAt Go.RowKit Go.Proofs.YtlhmchdfmjfmgaaGreat.R
def LayIn (l : List Spot) : Prop := l.length ≤ maxLen ∧ ∀ n ∈ l, n.s.ok
def PartIn (q : List (List Spot)) : Prop := q.length ≤ maxLen ∧ ∀ l ∈ q, LayIn l
structure Prf.In (p : Prf) : Prop where
  len : p.parts.length ≤ maxLen
  parts : ∀ q ∈ p.parts, PartIn q
theorem has_spot {f : Nat} {ts : List T} (h : HasT P f 51 ts) : ∃ n : Spot, ts = n.t ∧ n.s.ok := by
  obtain ⟨f', h⟩ := has_struct (tt_some tt51).1 h
  simp only [HasF] at h
  obtain ⟨a, _, rfl, _, ha, b, _, rfl, _, hb, c, _, rfl, _, hc, rfl⟩ := h
  obtain ⟨s, rfl, hs⟩ := has_state ha
  obtain ⟨n, rfl⟩ := has_i hb
  obtain ⟨m, rfl⟩ := has_i hc
  exact ⟨⟨s, n, m⟩, rfl, hs⟩
theorem has_layer {f : Nat} {ts : List T} (h : HasT P f 52 ts) : ∃ l : List Spot, ts = layT l ∧ LayIn l := by
  obtain ⟨l, rfl, h1, h2⟩ := has_slice (g := Spot.t) (Q := fun n => n.s.ok) (tt_some tt52).1 (fun f x h => has_spot h) h
  exact ⟨l, rfl, h1, h2⟩
theorem has_part {f : Nat} {ts : List T} (h : HasT P f 46 ts) : ∃ q : List (List Spot), ts = partT q ∧ PartIn q := by
  obtain ⟨f', h⟩ := has_struct (tt_some tt46).1 h
  simp only [HasF] at h
  obtain ⟨a, _, rfl, _, ha, rfl⟩ := h
  obtain ⟨l, rfl, h1, h2⟩ := has_slice (g := layT) (Q := LayIn) (tt_some tt44).1 (fun f x h => has_layer h) ha
  exact ⟨l, rfl, h1, h2⟩
theorem has_proof {f : Nat} {ts : List T} (h : HasT P f 27 ts) : ∃ p : Prf, ts = [.i p.least, .sl (p.parts.map partT)] ∧ p.In := by
  obtain ⟨f', h⟩ := has_struct (tt_some tt27).1 h
  simp only [HasF] at h
  obtain ⟨a, _, rfl, _, ha, b, _, rfl, _, hb, rfl⟩ := h
  obtain ⟨n, rfl⟩ := has_i ha
  obtain ⟨l, rfl, h1, h2⟩ := has_slice (g := partT) (Q := PartIn) (tt_some tt25).1 (fun f x h => has_part h) hb
  exact ⟨⟨n, l⟩, rfl, ⟨h1, h2⟩⟩
section
variable {H : Type} {enc : TypeId × Value → H} {W : World} {base : Nat} {sp : Nat → Bool} {held : Bool} {v : Value} {d : DataW H} {ps : List MemPlace}
theorem arg_proof (h : DataW.Trod enc P W 0 sp held 27 v d ps) (hv : Value.okWide P W .any base 27 v) : ∃ p : Prf, p.In ∧ RepA W (C0 W) p.a v := by
  obtain ⟨f, ts, h1, h2⟩ := arg_struct (tt_some tt27).1 (by kernel_rfl) h hv
  obtain ⟨p, rfl, hp⟩ := has_proof h1
  exact ⟨p, hp, h2⟩
end
end Go.Proofs.YtlhmchdfmjfmgaaGreat

/- slices.ContainsFunc at rows of spots, of layers, of parts. -/
set_option maxRecDepth 4000
namespace Go.Proofs.YtlhmchdfmjfmgaaGreat
open Go Go.Proofs.YtlhmchdfmjfmgaaGreat.R
def idxG {α : Type} (p : α → Bool) : Nat → List α → Int
  | _, [] => -1
  | i, n :: l => if p n = true then (i : Int) else idxG p (i + 1) l
theorem idxG_any {α : Type} (p : α → Bool) : ∀ (i : Nat) (l : List α), (0 ≤ idxG p i l) ↔ l.any p = true
  | _, [] => by simp [idxG]
  | i, n :: l => by
    rw [idxG, List.any_cons]
    cases h : p n with
    | true => simp
    | false => simp [idxG_any p (i + 1) l]
theorem map_get {α β : Type} (g : α → β) (l : List α) {k : Nat} (h : k < l.length) (h' : k < (l.map g).length) : (l.map g)[k]'h' = g l[k] := List.getElem_map g
theorem indexSpot_spec (l : List (Spot)) (p : Spot → Bool) {σ : Nat → AObj} {nx : Nat} {f : FuncId} {caps : List AV} (hl : l.length < 2 ^ 31) (hf : ∀ n ∈ l, CallSpec P f (n.a :: caps) σ nx (.b (p n)) σ nx) :
    CallSpec P 53 [.t (.sl (l.map Spot.t)), .fn (.func f) [] caps] σ nx (.i (idxG p 0 l)) σ nx := by
  generalize hR : idxG p 0 l = R
  refine CallQ.spec (spec_of Tryz.func53 rfl rfl (by simp [Tryz.f53]) fun B hB hnx hσ => ?_)
  simp only [Tryz.f53] at hB ⊢
  have hil : (l.map Spot.t).length = l.length := List.length_map _
  have hgt : ∀ (k : Nat) (h : k < l.length), (l.map Spot.t)[k]'(by rw [hil]; exact h) = Spot.t l[k] := fun k h => map_get Spot.t l h _
  generalize hX : l.map Spot.t = X at *
  refine K_run hB 100 ?_
  simp [go_sem, hil]
  refine K_loopP (α := Nat) (fun k => k ≤ l.length ∧ idxG p k (l.drop k) = R) (fun k => ⟨sl [(1, .fn (.func f) [] caps), (0, .t (.sl X)), (7, .i l.length), (8, .i k)], σ, nx⟩) (fun k => l.length - k) 0 ⟨Nat.zero_le _, hR⟩ (Imp.slots (by simp [go_sem]) rfl rfl) ?_
  rintro k ⟨g1, g2⟩
  refine K_run hB 60 ?_
  simp [go_sem]
  refine fork_dec (fun hk => ?_) (fun hk => ?_)
  · have hkk : IntKind.i64.wrap ((k : Int) + 1) = ((k + 1 : Nat) : Int) := by rw [w64 ((k : Int) + 1) (by omega)]; rfl
    have hget : ∀ h : k < X.length, X[k]'h = Spot.t l[k] := fun h => hgt k hk
    have hp := hf l[k] (List.getElem_mem _)
    rw [List.drop_eq_getElem_cons hk, idxG] at g2
    generalize l[k] = n at *
    simp [go_sem, hil, hk, hget, Spot.t, Spot.a, Spot.cs]
    refine K_call rfl rfl rfl (args := n.a :: caps) (f := f) (by simp [go_sem, Spot.t, Spot.a, Spot.cs]) (by simp [go_sem, hB]) hp ?_
    cases h : p n with
    | true =>
      rw [h, if_pos rfl] at g2
      subst g2
      refine K_run hB 100 ?_
      simp [go_sem]
    | false =>
      rw [h, if_neg (by simp)] at g2
      refine K_run hB 100 ?_
      simp [go_sem, hkk]
      exact Next.mk (k + 1) ⟨by omega, g2⟩ (Imp.slots (by simp [go_sem]) rfl rfl) (by omega)
  · have : k = l.length := by omega
    subst this
    rw [List.drop_length, idxG] at g2
    subst g2
    simp [go_sem]
theorem containsSpot_spec (l : List (Spot)) (p : Spot → Bool) {σ : Nat → AObj} {nx : Nat} {f : FuncId} {caps : List AV} (hl : l.length < 2 ^ 31) (hf : ∀ n ∈ l, CallSpec P f (n.a :: caps) σ nx (.b (p n)) σ nx) :
    CallSpec P 30 [.t (.sl (l.map Spot.t)), .fn (.func f) [] caps] σ nx (.b (l.any p)) σ nx := by
  have hi := indexSpot_spec l p hl hf
  have ha := idxG_any p 0 l
  refine CallQ.spec (spec_of Tryz.func30 rfl rfl (by simp [Tryz.f30]) fun B hB hnx hσ => ?_)
  simp only [Tryz.f30] at hB ⊢
  generalize idxG p 0 l = i at *
  refine K_run hB 100 ?_
  simp [go_sem]
  refine K_call rfl rfl rfl (args := [.t (.sl (l.map Spot.t)), .fn (.func f) [] caps]) (f := 53) (by simp [go_sem]) (by simp [go_sem, hB]) hi ?_
  refine K_run hB 100 ?_
  simp [go_sem]
  rw [Bool.eq_iff_iff, decide_eq_true_eq]
  exact ha
theorem indexLay_spec (l : List (List Spot)) (p : List Spot → Bool) {σ : Nat → AObj} {nx : Nat} {f : FuncId} {caps : List AV} (hl : l.length < 2 ^ 31) (hf : ∀ n ∈ l, CallSpec P f (.t (.sl (n.map Spot.t)) :: caps) σ nx (.b (p n)) σ nx) :
    CallSpec P 52 [.t (.sl (l.map layT)), .fn (.func f) [] caps] σ nx (.i (idxG p 0 l)) σ nx := by
  generalize hR : idxG p 0 l = R
  refine CallQ.spec (spec_of Tryz.func52 rfl rfl (by simp [Tryz.f52]) fun B hB hnx hσ => ?_)
  simp only [Tryz.f52] at hB ⊢
  have hil : (l.map layT).length = l.length := List.length_map _
  have hgt : ∀ (k : Nat) (h : k < l.length), (l.map layT)[k]'(by rw [hil]; exact h) = layT l[k] := fun k h => map_get layT l h _
  generalize hX : l.map layT = X at *
  refine K_run hB 100 ?_
  simp [go_sem, hil]
  refine K_loopP (α := Nat) (fun k => k ≤ l.length ∧ idxG p k (l.drop k) = R) (fun k => ⟨sl [(1, .fn (.func f) [] caps), (0, .t (.sl X)), (7, .i l.length), (8, .i k)], σ, nx⟩) (fun k => l.length - k) 0 ⟨Nat.zero_le _, hR⟩ (Imp.slots (by simp [go_sem]) rfl rfl) ?_
  rintro k ⟨g1, g2⟩
  refine K_run hB 60 ?_
  simp [go_sem]
  refine fork_dec (fun hk => ?_) (fun hk => ?_)
  · have hkk : IntKind.i64.wrap ((k : Int) + 1) = ((k + 1 : Nat) : Int) := by rw [w64 ((k : Int) + 1) (by omega)]; rfl
    have hget : ∀ h : k < X.length, X[k]'h = layT l[k] := fun h => hgt k hk
    have hp := hf l[k] (List.getElem_mem _)
    rw [List.drop_eq_getElem_cons hk, idxG] at g2
    generalize l[k] = n at *
    simp [go_sem, hil, hk, hget, layT]
    refine K_call rfl rfl rfl (args := .t (.sl (n.map Spot.t)) :: caps) (f := f) (by simp [go_sem, layT]) (by simp [go_sem, hB]) hp ?_
    cases h : p n with
    | true =>
      rw [h, if_pos rfl] at g2
      subst g2
      refine K_run hB 100 ?_
      simp [go_sem]
    | false =>
      rw [h, if_neg (by simp)] at g2
      refine K_run hB 100 ?_
      simp [go_sem, hkk]
      exact Next.mk (k + 1) ⟨by omega, g2⟩ (Imp.slots (by simp [go_sem]) rfl rfl) (by omega)
  · have : k = l.length := by omega
    subst this
    rw [List.drop_length, idxG] at g2
    subst g2
    simp [go_sem]
theorem containsLay_spec (l : List (List Spot)) (p : List Spot → Bool) {σ : Nat → AObj} {nx : Nat} {f : FuncId} {caps : List AV} (hl : l.length < 2 ^ 31) (hf : ∀ n ∈ l, CallSpec P f (.t (.sl (n.map Spot.t)) :: caps) σ nx (.b (p n)) σ nx) :
    CallSpec P 28 [.t (.sl (l.map layT)), .fn (.func f) [] caps] σ nx (.b (l.any p)) σ nx := by
  have hi := indexLay_spec l p hl hf
  have ha := idxG_any p 0 l
  refine CallQ.spec (spec_of Tryz.func28 rfl rfl (by simp [Tryz.f28]) fun B hB hnx hσ => ?_)
  simp only [Tryz.f28] at hB ⊢
  generalize idxG p 0 l = i at *
  refine K_run hB 100 ?_
  simp [go_sem]
  refine K_call rfl rfl rfl (args := [.t (.sl (l.map layT)), .fn (.func f) [] caps]) (f := 52) (by simp [go_sem]) (by simp [go_sem, hB]) hi ?_
  refine K_run hB 100 ?_
  simp [go_sem]
  rw [Bool.eq_iff_iff, decide_eq_true_eq]
  exact ha
theorem indexPart_spec (l : List (List (List Spot))) (p : List (List Spot) → Bool) {σ : Nat → AObj} {nx : Nat} {f : FuncId} {caps : List AV} (hl : l.length < 2 ^ 31) (hf : ∀ n ∈ l, CallSpec P f (.agg [.t (.sl (n.map layT))] :: caps) σ nx (.b (p n)) σ nx) :
    CallSpec P 32 [.t (.sl (l.map partT)), .fn (.func f) [] caps] σ nx (.i (idxG p 0 l)) σ nx := by
  generalize hR : idxG p 0 l = R
  refine CallQ.spec (spec_of Tryz.func32 rfl rfl (by simp [Tryz.f32]) fun B hB hnx hσ => ?_)
  simp only [Tryz.f32] at hB ⊢
  have hil : (l.map partT).length = l.length := List.length_map _
  have hgt : ∀ (k : Nat) (h : k < l.length), (l.map partT)[k]'(by rw [hil]; exact h) = partT l[k] := fun k h => map_get partT l h _
  generalize hX : l.map partT = X at *
  refine K_run hB 100 ?_
  simp [go_sem, hil]
  refine K_loopP (α := Nat) (fun k => k ≤ l.length ∧ idxG p k (l.drop k) = R) (fun k => ⟨sl [(1, .fn (.func f) [] caps), (0, .t (.sl X)), (7, .i l.length), (8, .i k)], σ, nx⟩) (fun k => l.length - k) 0 ⟨Nat.zero_le _, hR⟩ (Imp.slots (by simp [go_sem]) rfl rfl) ?_
  rintro k ⟨g1, g2⟩
  refine K_run hB 60 ?_
  simp [go_sem]
  refine fork_dec (fun hk => ?_) (fun hk => ?_)
  · have hkk : IntKind.i64.wrap ((k : Int) + 1) = ((k + 1 : Nat) : Int) := by rw [w64 ((k : Int) + 1) (by omega)]; rfl
    have hget : ∀ h : k < X.length, X[k]'h = partT l[k] := fun h => hgt k hk
    have hp := hf l[k] (List.getElem_mem _)
    rw [List.drop_eq_getElem_cons hk, idxG] at g2
    generalize l[k] = n at *
    simp [go_sem, hil, hk, hget, partT]
    refine K_call rfl rfl rfl (args := .agg [.t (.sl (n.map layT))] :: caps) (f := f) (by simp [go_sem, partT]) (by simp [go_sem, hB]) hp ?_
    cases h : p n with
    | true =>
      rw [h, if_pos rfl] at g2
      subst g2
      refine K_run hB 100 ?_
      simp [go_sem]
    | false =>
      rw [h, if_neg (by simp)] at g2
      refine K_run hB 100 ?_
      simp [go_sem, hkk]
      exact Next.mk (k + 1) ⟨by omega, g2⟩ (Imp.slots (by simp [go_sem]) rfl rfl) (by omega)
  · have : k = l.length := by omega
    subst this
    rw [List.drop_length, idxG] at g2
    subst g2
    simp [go_sem]
theorem containsPart_spec (l : List (List (List Spot))) (p : List (List Spot) → Bool) {σ : Nat → AObj} {nx : Nat} {f : FuncId} {caps : List AV} (hl : l.length < 2 ^ 31) (hf : ∀ n ∈ l, CallSpec P f (.agg [.t (.sl (n.map layT))] :: caps) σ nx (.b (p n)) σ nx) :
    CallSpec P 15 [.t (.sl (l.map partT)), .fn (.func f) [] caps] σ nx (.b (l.any p)) σ nx := by
  have hi := indexPart_spec l p hl hf
  have ha := idxG_any p 0 l
  refine CallQ.spec (spec_of Tryz.func15 rfl rfl (by simp [Tryz.f15]) fun B hB hnx hσ => ?_)
  simp only [Tryz.f15] at hB ⊢
  generalize idxG p 0 l = i at *
  refine K_run hB 100 ?_
  simp [go_sem]
  refine K_call rfl rfl rfl (args := [.t (.sl (l.map partT)), .fn (.func f) [] caps]) (f := 32) (by simp [go_sem]) (by simp [go_sem, hB]) hi ?_
  refine K_run hB 100 ?_
  simp [go_sem]
  rw [Bool.eq_iff_iff, decide_eq_true_eq]
  exact ha
end Go.Proofs.YtlhmchdfmjfmgaaGreat

/- May a proof be looked at: the parts, wholly. -/
set_option maxRecDepth 4000
namespace Go.Proofs.YtlhmchdfmjfmgaaGreat
open Go Go.Proofs.YtlhmchdfmjfmgaaGreat.R
def Inst.wholeB (x : Inst) (p : Prf) (q : List (List Spot)) : Bool := match q with
  | [] => false
  | l :: _ => decide (l.length = 1) && !(q.any fun l => l.any fun n => !x.spotB p n)
theorem whole1_spec (x : Inst) (p : Prf) (n : Spot) (D : AV) (hx : 0 ≤ x.pairs ∧ x.pairs ≤ 16) {σ : Nat → AObj} {nx c b : Nat} (hc : c < nx) (hσ : σ c = .box (ckC x p D)) (hb : b < nx) (hσb : σ b = .box [.ptr c 0]) :
    CallSpec P 26 [n.a, .ptr b 0] σ nx (.b (!x.spotB p n)) σ nx := by
  refine spec_keep Tryz.func26 rfl rfl (by simp [Tryz.f26]) (by simp [bnd]) fun hk B hB hnx hσB => ?_
  simp only [Tryz.f26] at hB ⊢
  have hc1 : ¬ c = nx := by omega
  have hb1 : ¬ b = nx := by omega
  have hm := fun σ' (h : σ' c = .box (ckC x p D)) => ckmay_spec x p n D hx (σ := σ') (nx := nx + 1) (by omega) h
  generalize x.spotB p n = r at *
  refine K_run hB 100 ?_
  simp [go_sem, Spot.a, Spot.cs, hσb, hb1]
  refine K_call rfl rfl rfl (args := [.ptr c 0, n.a]) (f := 27) (by simp [go_sem, Spot.a, Spot.cs]) (by simp [go_sem, hB]) (hm _ (by simp [oput, hc1, hσ])) ?_
  refine K_run hB 100 ?_
  simp [go_sem]
  exact fun i h1 h2 => absurd h2 (by omega)
theorem whole2_spec (x : Inst) (p : Prf) (l : List Spot) (D : AV) (hx : 0 ≤ x.pairs ∧ x.pairs ≤ 16) (hl : l.length < 2 ^ 31) {σ : Nat → AObj} {nx c b d : Nat} (hc : c < nx) (hσ : σ c = .box (ckC x p D)) (hb : b < nx) (hσb : σ b = .box [.ptr c 0]) (hd : d < nx) (hσd : σ d = .box [.fn (.func 26) [] [.ptr b 0]]) :
    CallSpec P 29 [.t (.sl (l.map Spot.t)), .ptr d 0] σ nx (.b (l.any fun n => !x.spotB p n)) σ nx := by
  refine spec_keep Tryz.func29 rfl rfl (by simp [Tryz.f29]) (by simp [bnd]) fun hk B hB hnx hσB => ?_
  simp only [Tryz.f29] at hB ⊢
  have hm := containsSpot_spec l (fun n => !x.spotB p n) (σ := σ) (nx := nx) (f := 26) (caps := [.ptr b 0]) hl fun n _ => whole1_spec x p n D hx hc hσ hb hσb
  generalize (l.any fun n => !x.spotB p n) = r at *
  refine K_run hB 100 ?_
  simp [go_sem, hσd]
  refine K_call rfl rfl rfl (args := [.t (.sl (l.map Spot.t)), .fn (.func 26) [] [.ptr b 0]]) (f := 30) (by simp [go_sem]) (by simp [go_sem, hB]) hm ?_
  refine K_run hB 100 ?_
  simp [go_sem]
theorem whole_spec (x : Inst) (p : Prf) (q : List (List Spot)) (D : AV) (hx : 0 ≤ x.pairs ∧ x.pairs ≤ 16) (hl : q.length < 2 ^ 31) (hl2 : ∀ l ∈ q, l.length < 2 ^ 31) {σ : Nat → AObj} {nx c : Nat} (hc : c < nx) (hσ : σ c = .box (ckC x p D)) :
    CallSpec P 13 [.ptr c 0, .agg [.t (.sl (q.map layT))]] σ nx (.b (x.wholeB p q)) σ nx := by
  refine spec_keep Tryz.func13 rfl rfl (by simp [Tryz.f13]) (by simp [bnd]) fun hk B hB hnx hσB => ?_
  simp only [Tryz.f13] at hB ⊢
  generalize hR : x.wholeB p q = R
  have hc1 : ¬ c = nx := by omega
  have hc2 : ¬ c = nx + 1 := by omega
  have hc3 : ¬ c = nx + 2 := by omega
  have hil : (q.map layT).length = q.length := List.length_map _
  have fin : ∀ (a b d : AObj) (i : Nat), i < nx → oput (oput (oput σ nx a) (nx + 1) b) (nx + 2) d i = σ i := fun a b d i h => by simp [oput, show ¬ i = nx by omega, show ¬ i = nx + 1 by omega, show ¬ i = nx + 2 by omega]
  cases q with
  | nil =>
    rw [Inst.wholeB] at hR
    subst hR
    refine K_run hB 100 ?_
    simp [go_sem]
    exact ⟨by omega, fun i h => by simp [oput, show ¬ i = nx by omega, show ¬ i = nx + 1 by omega]⟩
  | cons l0 q0 =>
    have hl0 : (l0.map Spot.t).length = l0.length := List.length_map _
    have hq0 : ¬ (q0.length : Int) + 1 = 0 := by omega
    have c1' : ¬ l0.length = 1 → ¬ (l0.length : Int) = 1 := fun h => by omega
    simp only [Inst.wholeB] at hR
    by_cases c1 : l0.length = 1
    · rw [decide_eq_true c1, Bool.true_and] at hR
      have hm := fun σ' (h1 : σ' c = .box (ckC x p D)) (h2 : σ' nx = .box [.ptr c 0]) (h3 : σ' (nx + 2) = .box [.fn (.func 26) [] [.ptr nx 0]]) => containsLay_spec (l0 :: q0) (fun l => l.any fun n => !x.spotB p n) (σ := σ') (nx := nx + 3) (f := 29) (caps := [.ptr (nx + 2) 0]) hl fun l h => whole2_spec x p l D hx (hl2 l h) (by omega) h1 (by omega) h2 (by omega) h3
      generalize ((l0 :: q0).any fun l => l.any fun n => !x.spotB p n) = r at *
      generalize hY : (l0 :: q0).map layT = Y at *
      have hY0 : ∀ h : 0 < Y.length, Y[0]'h = layT l0 := fun h => by simp only [← hY]; rfl
      have hYl : Y.length = q0.length + 1 := by rw [← hY]; simp
      refine K_run hB 100 ?_
      simp [go_sem, c1, hl0, hYl, hY0, layT, hq0]
      refine K_call rfl rfl rfl (args := [.t (.sl Y), .fn (.func 29) [] [.ptr (nx + 2) 0]]) (f := 28) (by simp [go_sem]) (by simp [go_sem, hB]) (hm _ (by simp [oput, hc1, hc2, hc3, hσ]) (by simp [oput, show ¬ nx = nx + 2 by omega]) (by simp [oput])) ?_
      refine K_run hB 100 ?_
      simp [go_sem]
      refine ⟨fun i h => ?_, by rw [← hR]; simp⟩
      rw [if_neg (by omega), if_neg (by omega), if_neg (by omega), if_neg (by omega)]
    · rw [decide_eq_false c1, Bool.false_and] at hR
      subst hR
      refine K_run hB 100 ?_
      simp [go_sem, c1, c1' c1, hl0, layT, hq0]
      exact ⟨by omega, fun i h => by simp [oput, show ¬ i = nx by omega, show ¬ i = nx + 1 by omega]⟩
theorem check1_spec (x : Inst) (p : Prf) (q : List (List Spot)) (D : AV) (hx : 0 ≤ x.pairs ∧ x.pairs ≤ 16) (hl : q.length < 2 ^ 31) (hl2 : ∀ l ∈ q, l.length < 2 ^ 31) {σ : Nat → AObj} {nx c b : Nat} (hc : c < nx) (hσ : σ c = .box (ckC x p D)) (hb : b < nx) (hσb : σ b = .box [.ptr c 0]) :
    CallSpec P 12 [.agg [.t (.sl (q.map layT))], .ptr b 0] σ nx (.b (!x.wholeB p q)) σ nx := by
  refine spec_keep Tryz.func12 rfl rfl (by simp [Tryz.f12]) (by simp [bnd]) fun hk B hB hnx hσB => ?_
  simp only [Tryz.f12] at hB ⊢
  have hc1 : ¬ c = nx := by omega
  have hb1 : ¬ b = nx := by omega
  have hm := fun σ' (h : σ' c = .box (ckC x p D)) => whole_spec x p q D hx hl hl2 (σ := σ') (nx := nx + 1) (by omega) h
  generalize x.wholeB p q = r at *
  refine K_run hB 100 ?_
  simp [go_sem, hσb, hb1]
  refine K_call rfl rfl rfl (args := [.ptr c 0, .agg [.t (.sl (q.map layT))]]) (f := 13) (by simp [go_sem]) (by simp [go_sem, hB]) (hm _ (by simp [oput, hc1, hσ])) ?_
  refine K_run hB 100 ?_
  simp [go_sem]
  exact fun i h1 h2 => absurd h2 (by omega)
end Go.Proofs.YtlhmchdfmjfmgaaGreat

/- How many moves a plan may have. -/
set_option maxRecDepth 4000
namespace Go.Proofs.YtlhmchdfmjfmgaaGreat
open Go Go.Proofs.YtlhmchdfmjfmgaaGreat.R
def Inst.deep (x : Inst) : Int := if x.may then 2 * x.pairs + x.cars - 1 else 0
theorem deep_pure (x : Inst) (hl : x.stops.length < 2 ^ 63) : Pure P 38 [x.a] (.i x.deep) := by
  refine pure_of Tryz.func38 rfl rfl (by simp [Tryz.f38]) (by simp [bnd, bnd.bndL, Inst.a]) (by simp [bnd, bnd.bndL]) fun B hB hnx => ?_
  simp only [Tryz.f38] at hB ⊢
  refine K_run hB 100 ?_
  simp [go_sem, Inst.a]
  refine K_call rfl rfl rfl (args := [x.a]) (f := 14) (by simp [go_sem, Inst.a]) (by simp [go_sem, hB]) ((may_pure x hl).spec _ _) ?_
  cases hmay : x.may with
  | false =>
    refine K_run hB 100 ?_
    simp [go_sem]
    rw [Inst.deep, if_neg (by simp [hmay])]
  | true =>
    obtain ⟨p, hx⟩ := x.fit hmay
    have hp := hx.pairs
    have hf := hx.few
    have hc := hx.cars
    have w1 := w64 (2 * x.pairs) (by omega)
    have w2 := w64 (2 * x.pairs + x.cars) (by omega)
    have w3 := w64 (2 * x.pairs + x.cars - 1) (by omega)
    refine K_run hB 100 ?_
    simp [go_sem, w1, w2, w3]
    rw [Inst.deep, if_pos hmay]
theorem rdeep_pure (x : Inst) (hl : x.stops.length < 2 ^ 63) : Pure P 45 [x.a] (.i x.deep) := by
  refine pure_of Tryz.func45 rfl rfl (by simp [Tryz.f45]) (by simp [bnd, bnd.bndL, Inst.a]) (by simp [bnd, bnd.bndL]) fun B hB hnx => ?_
  simp only [Tryz.f45] at hB ⊢
  refine K_run hB 100 ?_
  simp [go_sem, Inst.a]
  refine K_call rfl rfl rfl (args := [x.a]) (f := 40) (by simp [go_sem, Inst.a]) (by simp [go_sem, hB]) ((rmay_pure x hl).spec _ _) ?_
  cases hmay : x.may with
  | false =>
    refine K_run hB 100 ?_
    simp [go_sem]
    rw [Inst.deep, if_neg (by simp [hmay])]
  | true =>
    obtain ⟨p, hx⟩ := x.fit hmay
    have hp := hx.pairs
    have hf := hx.few
    have hc := hx.cars
    have w1 := w64 (2 * x.pairs) (by omega)
    have w2 := w64 (2 * x.pairs + x.cars) (by omega)
    have w3 := w64 (2 * x.pairs + x.cars - 1) (by omega)
    refine K_run hB 100 ?_
    simp [go_sem, w1, w2, w3]
    rw [Inst.deep, if_pos hmay]
end Go.Proofs.YtlhmchdfmjfmgaaGreat

/- Proofs: dead states, where a spot leads. -/
set_option maxRecDepth 4000
namespace Go.Proofs.YtlhmchdfmjfmgaaGreat
open Go Go.Proofs.YtlhmchdfmjfmgaaGreat.R
def Inst.deadB (x : Inst) (s : State) (c least : Int) : Bool := decide (least ≤ sumI [c, x.low s])
theorem dead_pure (x : Inst) (s : State) (c least : Int) (hl : x.stops.length < 2 ^ 31) (ho : s.ok) : Pure P 34 [x.a, s.a, .i c, .i least] (.b (x.deadB s c least)) := by
  have ha := at_pure x s hl ho
  have hs := sum_pure [c, x.low s] (by simp)
  rw [Inst.deadB]
  generalize x.low s = d at *
  refine pure_of Tryz.func34 rfl rfl (by simp [Tryz.f34]) (by simp [bnd, bnd.bndL, Inst.a, State.a, State.cs]) (by simp [bnd, bnd.bndL]) fun B hB hnx => ?_
  simp only [Tryz.f34] at hB ⊢
  refine K_run hB 100 ?_
  simp [go_sem, Inst.a, State.a, State.cs]
  refine K_call rfl rfl rfl (args := [x.a, s.a]) (f := 56) (by simp [go_sem, Inst.a, State.a, State.cs]) (by simp [go_sem, hB]) ((ha).spec _ _) ?_
  refine K_run hB 100 ?_
  simp [go_sem]
  refine K_call rfl rfl rfl (args := [.fsl (ints [c, d])]) (f := 37) (by simp [go_sem, ints]) (by simp [go_sem, hB]) ((Pure.loose hs (by simp [bnd])).spec _ _) ?_
  refine K_run hB 100 ?_
  simp [go_sem]
/-- The first spot of a part. -/
def Prf.first (p : Prf) (k : Nat) : Option Spot := match p.parts[k]? with
  | some ((n :: _) :: _) => some n
  | _ => none
def Prf.leadsB (p : Prf) (k : Nat) (n : Spot) : Bool := match p.first (n.part - 1).toNat with
  | some f => decide ((k : Int) < n.part - 1) && (decide (f.s = n.s) && decide (f.cost ≤ n.cost))
  | none => false
theorem first_some {p : Prf} {j : Nat} {f : Spot} (h : p.first j = some f) : ∃ (hj : j < p.parts.length) (l0 : List Spot) (q0 : List (List Spot)), p.parts[j] = (f :: l0) :: q0 := by
  unfold Prf.first at h
  split at h
  · rename_i n l0 q0 e
    cases h
    obtain ⟨h1, h2⟩ := List.getElem?_eq_some_iff.1 e
    exact ⟨h1, l0, q0, h2⟩
  · cases h
theorem leads_spec (x : Inst) (p : Prf) (n : Spot) (D : AV) (k j : Nat) {f : Spot} (hj : n.part = j + 1) (hf : p.first j = some f) (hpl : p.parts.length < 2 ^ 31) {σ : Nat → AObj} {nx c : Nat} (hc : c < nx) (hσ : σ c = .box (ckC x p D)) :
    CallSpec P 35 [.ptr c 0, .i k, n.a] σ nx (.b (p.leadsB k n)) σ nx := by
  generalize hR : p.leadsB k n = R
  refine spec_keep Tryz.func35 rfl rfl (by simp [Tryz.f35]) (by simp [bnd]) fun hk B hB hnx hσB => ?_
  simp only [Tryz.f35] at hB ⊢
  rw [Prf.leadsB, hj, show ((j : Int) + 1 - 1).toNat = j by omega, hf] at hR
  simp only at hR
  obtain ⟨hjl, l0, q0, hpj⟩ := first_some hf
  have hc1 : ¬ c = nx := by omega
  have hc2 : ¬ c = nx + 1 := by omega
  have w1 := w64 ((j : Int) + 1 - 1) (by omega)
  have w1' : IntKind.i64.wrap (j : Int) = j := w64 _ (by omega)
  have e1 : (j : Int) + 1 - 1 = j := by omega
  rw [e1] at w1 hR
  have hYl : (p.parts.map partT).length = p.parts.length := List.length_map _
  have hY : ∀ h : j < (p.parts.map partT).length, (p.parts.map partT)[j]'h = [.sl ([.sl (f.t :: l0.map Spot.t)] :: q0.map layT)] := fun h => by rw [List.getElem_map, hpj]; rfl
  have hck : ckC x p D = [.t (.i x.pairs), .t (.i x.cars), .t (.i x.room), .t (.sl (x.stops.map Stop.t)), .i p.least, .t (.sl (p.parts.map partT)), D] := rfl
  generalize p.parts.map partT = Y at *
  have fin : ∀ (a b : AObj) (i : Nat), i < nx → oput (oput σ nx a) (nx + 1) b i = σ i := fun a b i h => by simp [oput, show ¬ i = nx by omega, show ¬ i = nx + 1 by omega]
  refine K_run hB 100 ?_
  simp [go_sem, Spot.a, Spot.cs]
  refine K_drawnF [15, 16] [0, 1, 2, 3, 4, 5, 6, 7, 8, 9, 10, 11, 12, 13, 14] rfl (by rw [hB]; kernel_rfl) (by kernel_rfl) fun ht hf' => ?_
  by_cases c3 : k < j
  rotate_left
  · rw [decide_eq_false (by omega), Bool.false_and] at hR
    subst hR
    refine K_run hB 100 ?_
    simp [go_sem, ht, hf', hσ, hc1, hc2, hck, hj, w1, w1', hYl, hjl, hY, Spot.t, c3]
    exact ⟨by omega, fun i h => by simp [oput, show ¬ i = nx by omega, show ¬ i = nx + 1 by omega]⟩
  rw [decide_eq_true (by omega), Bool.true_and] at hR
  refine K_run hB 100 ?_
  simp [go_sem, ht, hf', hσ, hc1, hc2, hck, hj, w1, w1', hYl, hjl, hY, Spot.t, c3]
  refine K_eq (op := .eql) (t := 49) (t' := 49) (x := .tmp 30) (y := .tmp 32) (xs := f.s.cs) (ys := n.s.cs) rfl rfl (by simp [go_sem, hB]) (by simp [go_sem, State.cs]) (by simp [go_sem, State.cs]) state_guard (state_eq f.s n.s) rfl ?_
  by_cases c4 : f.s = n.s
  · rw [decide_eq_true c4, Bool.true_and] at hR
    refine K_run hB 100 ?_
    simp [go_sem, c4]
    refine ⟨by omega, fun i h => ?_, hR⟩
    rw [if_neg (by omega), if_neg (by omega), if_neg (by omega)]
  · rw [decide_eq_false c4, Bool.false_and] at hR
    subst hR
    refine K_run hB 100 ?_
    simp [go_sem, c4]
    exact ⟨by omega, fun i h => by simp [oput, show ¬ i = nx by omega, show ¬ i = nx + 1 by omega]⟩
theorem goes1_spec (t : State) (cost : Int) (n : Spot) {σ : Nat → AObj} {nx b1 b2 : Nat} (hb1 : b1 < nx) (hb2 : b2 < nx) (h1 : σ b1 = .box [.i cost]) (h2 : σ b2 = .box t.cs) :
    CallSpec P 62 [n.a, .ptr b1 0, .ptr b2 0] σ nx (.b (decide (n.cost ≤ cost) && coversB n.s t)) σ nx := by
  refine spec_keep Tryz.func62 rfl rfl (by simp [Tryz.f62]) (by simp [bnd]) fun hk B hB hnx hσB => ?_
  simp only [Tryz.f62] at hB ⊢
  have hcv := covers_pure n.s t
  have n1 : ¬ b1 = nx := by omega
  have n2 : ¬ b2 = nx := by omega
  by_cases c1 : n.cost ≤ cost
  · rw [decide_eq_true c1, Bool.true_and]
    refine K_run hB 100 ?_
    simp [go_sem, Spot.a, Spot.cs, n1, h1, c1, n2, h2, State.cs]
    refine K_call rfl rfl rfl (args := [n.s.a, t.a]) (f := 63) (by simp [go_sem, State.a, State.cs]) (by simp [go_sem, hB]) ((hcv).spec _ _) ?_
    refine K_run hB 100 ?_
    simp [go_sem]
    exact fun i h1 h2 => absurd h2 (by omega)
  · rw [decide_eq_false c1, Bool.false_and]
    refine K_run hB 100 ?_
    simp [go_sem, Spot.a, Spot.cs, n1, h1, c1]
    exact fun i h1 h2 => absurd h2 (by omega)
/-- Is what is behind one move of a spot dead, or on the next layer? -/
def Inst.goB (x : Inst) (least : Int) (n : Spot) (next : List Spot) (j : Int) : Bool :=
  x.deadB (x.move n.s j).1 (sumI [n.cost, (x.move n.s j).2.1]) least || next.any fun m => decide (m.cost ≤ sumI [n.cost, (x.move n.s j).2.1]) && coversB m.s (x.move n.s j).1
def Inst.goesB (x : Inst) (least : Int) (n : Spot) (next : List Spot) : Bool := (x.moves n.s).all (x.goB least n next)
theorem goes_spec (x : Inst) (p : Prf) (n : Spot) (next : List Spot) (D : AV) (hl : x.stops.length < 2 ^ 31) (ho : n.s.ok) (hnl : next.length < 2 ^ 31) {σ : Nat → AObj} {nx c : Nat} (hc : c < nx) (hσ : σ c = .box (ckC x p D)) :
    CallSpec P 39 [.ptr c 0, n.a, .t (.sl (next.map Spot.t))] σ nx (.b (x.goesB p.least n next)) σ nx := by
  generalize hR : x.goesB p.least n next = R
  refine spec_keep Tryz.func39 rfl rfl (by simp [Tryz.f39]) (by simp [bnd]) fun hk B hB hnx hσB => ?_
  simp only [Tryz.f39] at hB ⊢
  have hms := moves_pure x n.s (by omega) ho
  have hmv := fun j => move_pure x n.s j (by omega) ho
  have hmok := fun j => move_ok x j ho
  have hck : ckC x p D = [.t (.i x.pairs), .t (.i x.cars), .t (.i x.room), .t (.sl (x.stops.map Stop.t)), .i p.least, .t (.sl (p.parts.map partT)), D] := rfl
  have hgo : ∀ j, x.goB p.least n next j = (x.deadB (x.move n.s j).1 (sumI [n.cost, (x.move n.s j).2.1]) p.least || next.any fun m => decide (m.cost ≤ sumI [n.cost, (x.move n.s j).2.1]) && coversB m.s (x.move n.s j).1) := fun j => rfl
  have hk33 : (x.moves n.s).length < 2 ^ 63 := by
    rw [moves_can]
    have := canB_len (fun k => (x.move n.s k).2.2) x.stops.length
    omega
  have hml : (ints (x.moves n.s)).length = (x.moves n.s).length := List.length_map _
  have hmg : ∀ (i : Nat) (h : i < (x.moves n.s).length), (ints (x.moves n.s))[i]'(by rw [hml]; exact h) = [.i ((x.moves n.s)[i])] := fun i h => ints_getS _ h
  have hc1 : ¬ c = nx := by omega
  rw [Inst.goesB] at hR
  refine K_run hB 100 ?_
  simp [go_sem, Spot.a, Spot.cs]
  refine K_drawn [] rfl (by rw [hB]; kernel_rfl) ?_
  refine K_run hB 100 ?_
  simp [go_sem, hσ, hc1, hck]
  refine K_dCallP rfl rfl rfl (args := [x.a, n.s.a]) (f := 60) (by simp [go_sem, Inst.a, State.a, State.cs]) (hms) ?_
  generalize hY : ints (x.moves n.s) = Y at *
  generalize x.moves n.s = M at *
  refine K_run hB 100 ?_
  simp [go_sem, hml]
  refine K_loopP (α := Nat × (Nat → AObj) × Nat) (fun (k, τ, ny) => k ≤ M.length ∧ (M.drop k).all (x.goB p.least n next) = R ∧ (∀ i, i < nx → τ i = σ i) ∧ τ nx = .box n.cs ∧ nx < ny) (fun (k, τ, ny) => ⟨sl [(0, .ptr c 0), (2, .t (.sl (next.map Spot.t))), (4, .ptr nx 0), (20, .t (.sl Y)), (21, .i M.length), (22, .i k)], τ, ny⟩) (fun a => M.length - a.1) (0, _, nx + 1) ?_ (Imp.slots (by simp [go_sem]) rfl rfl) ?_
  · exact ⟨Nat.zero_le _, hR, fun i h => by simp [oput, show ¬ i = nx by omega], by simp [oput, Spot.cs], by omega⟩
  rintro ⟨k, τ, ny⟩ ⟨g1, g2, g3, g4, g5⟩
  refine K_run hB 60 ?_
  simp [go_sem]
  refine fork_dec (fun hi => ?_) (fun hi => ?_)
  · have hii : IntKind.i64.wrap ((k : Int) + 1) = ((k + 1 : Nat) : Int) := by rw [w64 ((k : Int) + 1) (by omega)]; rfl
    have hgeti : ∀ h : k < Y.length, Y[k]'h = [.i M[k]] := fun h => hmg k hi
    rw [List.drop_eq_getElem_cons hi, List.all_cons] at g2
    generalize M[k] = j at *
    have hmj := hmv j
    have hoj := hmok j
    have hgj := hgo j
    generalize x.goB p.least n next j = G at *
    have hτc : τ c = .box (ckC x p D) := by rw [g3 c hc, hσ]
    have n1 : ¬ c = ny := by omega
    have n2 : ¬ nx = ny := by omega
    have n3 : ¬ c = ny + 1 := by omega
    generalize x.move n.s j = V at *
    obtain ⟨t, d, is⟩ := V
    simp only at hgj hoj
    have hsum := sum_pure [n.cost, d] (by simp)
    generalize hcost : sumI [n.cost, d] = cost at *
    have hdead := dead_pure x t cost p.least hl hoj
    have hany := fun τ' (h1 : τ' (ny + 1) = .box [.i cost]) (h2 : τ' ny = .box t.cs) => containsSpot_spec next (fun m => decide (m.cost ≤ cost) && coversB m.s t) (σ := τ') (nx := ny + 2) (f := 62) (caps := [.ptr (ny + 1) 0, .ptr ny 0]) hnl fun m _ => goes1_spec t cost m (by omega) (by omega) h1 h2
    simp [go_sem, hml, hi, hgeti]
    refine K_drawnF [12, 13] [0, 1, 2, 3, 4, 5, 6, 7, 8, 9, 10, 11] rfl (by rw [hB]; kernel_rfl) (by kernel_rfl) fun ht hf' => ?_
    refine K_run hB 100 ?_
    simp [go_sem, ht, hf', hτc, hck, g4, Spot.cs]
    refine K_dCallP rfl rfl rfl (args := [x.a, n.s.a, .i j]) (f := 61) (by simp [go_sem, Inst.a, State.a, State.cs]) (hmj) ?_
    refine K_run hB 100 ?_
    simp [go_sem, ht, hf', mv, State.a, State.cs, g4, n1, n2, hτc, hck, Spot.cs]
    refine K_call rfl rfl rfl (args := [.fsl (ints [n.cost, d])]) (f := 37) (by simp [go_sem, ints]) (by simp [go_sem, hB]) ((Pure.loose hsum (by simp [bnd])).spec _ _) ?_
    have n4 : ¬ ny = ny + 1 := by omega
    refine K_run hB 100 ?_
    simp [go_sem]
    refine K_drawnT [16] rfl (by rw [hB]; kernel_rfl) (by kernel_rfl) fun ht => ?_
    refine K_run hB 100 ?_
    simp [go_sem, ht, hτc, hck, n1, n2, n3, n4]
    refine K_dCallP rfl rfl rfl (args := [x.a, t.a, .i cost, .i p.least]) (f := 34) (by simp [go_sem, Inst.a, State.a, State.cs]) (hdead) ?_
    cases hd : x.deadB t cost p.least with
    | true =>
      rw [hd, Bool.true_or] at hgj
      subst hgj
      rw [Bool.true_and] at g2
      refine K_run hB 100 ?_
      simp [go_sem, ht, hii]
      refine Next.mk (k + 1, _, ny + 2) ?_ (Imp.slots (by simp [go_sem]) rfl rfl) (by simp only; omega)
      exact ⟨by simp only; omega, g2, fun i h => by simp [oput, show ¬ i = ny by omega, show ¬ i = ny + 1 by omega, g3 i h], by simp [oput, n2, show ¬ nx = ny + 1 by omega, g4, Spot.cs], by simp only; omega⟩
    | false =>
      rw [hd, Bool.false_or] at hgj
      refine K_run hB 100 ?_
      simp [go_sem, ht]
      refine K_dCall rfl rfl rfl (args := [.t (.sl (next.map Spot.t)), .fn (.func 62) [] [.ptr (ny + 1) 0, .ptr ny 0]]) (f := 30) (by simp [go_sem]) (hany _ (by simp [oput]) (by simp [oput, n4, State.cs])) (by decide) (okPends_does (by simp [go_sem])) ?_
      rw [hgj] at g2
      cases hn : next.any fun m => decide (m.cost ≤ cost) && coversB m.s t with
      | true =>
        rw [hn, Bool.true_and] at g2
        refine K_run hB 100 ?_
        simp [go_sem, ht, hii]
        refine Next.mk (k + 1, _, ny + 2) ?_ (Imp.slots (by simp [go_sem]) rfl rfl) (by simp only; omega)
        exact ⟨by simp only; omega, g2, fun i h => by simp [oput, show ¬ i = ny by omega, show ¬ i = ny + 1 by omega, g3 i h], by simp [oput, n2, show ¬ nx = ny + 1 by omega, g4, Spot.cs], by simp only; omega⟩
      | false =>
        rw [hn, Bool.false_and] at g2
        subst g2
        refine K_run hB 100 ?_
        simp [go_sem, ht]
        exact ⟨by omega, fun i h => by simp [oput, show ¬ i = ny by omega, show ¬ i = ny + 1 by omega, g3 i h]⟩
  · have : k = M.length := by omega
    subst this
    rw [List.drop_length, List.all_nil] at g2
    simp [go_sem]
    exact ⟨by omega, g3, g2.symm⟩
end Go.Proofs.YtlhmchdfmjfmgaaGreat

/- Proofs: is nothing wrong with a spot? -/
set_option maxRecDepth 4000
namespace Go.Proofs.YtlhmchdfmjfmgaaGreat
open Go Go.Proofs.YtlhmchdfmjfmgaaGreat.R
def Inst.holdsB (x : Inst) (p : Prf) (k i : Nat) (n : Spot) (dk : Int) : Bool :=
  if x.deadB n.s n.cost p.least = true then true
  else if 0 < n.part then p.leadsB k n
  else if (x.endS n.s).2 = true ∧ sumI [n.cost, (x.endS n.s).1] < p.least then false
  else if x.deep ≤ IntKind.i64.wrap (dk + i) then true
  else x.goesB p.least n (((p.parts[k]?).getD []).getD (i + 1) [])
theorem holds_spec (x : Inst) (p : Prf) (n : Spot) (k i d : Nat) (dl : List Int) (q : List (List Spot)) (hl : x.stops.length < 2 ^ 31) (ho : n.s.ok) (hpl : p.parts.length < 2 ^ 31) (hq : p.parts[k]? = some q) (hql : q.length < 2 ^ 31) (hqn : ∀ l ∈ q, l.length < 2 ^ 31) (hi : i < 2 ^ 31) (hkd : k < dl.length)
    (hlead : 0 < n.part → ∃ j f, n.part = ((j : Nat) : Int) + 1 ∧ p.first j = some f) {σ : Nat → AObj} {nx c : Nat} (hc : c < nx) (hσ : σ c = .box (ckC x p (.ref d))) (hd : d < nx) (hσd : σ d = .arr 1 (ints dl)) :
    CallSpec P 17 [.ptr c 0, .i k, .i i, n.a] σ nx (.b (x.holdsB p k i n dl[k])) σ nx := by
  generalize hR : x.holdsB p k i n dl[k] = R
  refine spec_keep Tryz.func17 rfl rfl (by simp [Tryz.f17]) (by simp [bnd]) fun hk B hB hnx hσB => ?_
  simp only [Tryz.f17] at hB ⊢
  have hdead := dead_pure x n.s n.cost p.least hl ho
  have hen := end_pure x n.s (by omega) ho
  have hdeep := deep_pure x (by omega)
  have hleads := fun (τ : Nat → AObj) (h : 0 < n.part) (h1 : τ c = .box (ckC x p (.ref d))) => match hlead h with
    | ⟨j, f, e1, e2⟩ => leads_spec x p n (.ref d) k j e1 e2 hpl (σ := τ) (nx := nx + 1) (by omega) h1
  have hck : ckC x p (.ref d) = [.t (.i x.pairs), .t (.i x.cars), .t (.i x.room), .t (.sl (x.stops.map Stop.t)), .i p.least, .t (.sl (p.parts.map partT)), .ref d] := rfl
  have hc1 : ¬ c = nx := by omega
  have hd1 : ¬ d = nx := by omega
  rw [Inst.holdsB, hq, Option.getD_some] at hR
  obtain ⟨hkp, hqk⟩ := List.getElem?_eq_some_iff.1 hq
  have hYl : (p.parts.map partT).length = p.parts.length := List.length_map _
  have hY : ∀ h : k < (p.parts.map partT).length, (p.parts.map partT)[k]'h = [.sl (q.map layT)] := fun h => by rw [List.getElem_map, hqk]; rfl
  have hdl : (ints dl).length = dl.length := List.length_map _
  have hdg : ∀ h : k < (ints dl).length, (ints dl)[k]'h = [.i dl[k]] := fun h => ints_getS _ hkd
  have hQl : (q.map layT).length = q.length := List.length_map _
  have hgoes := fun (τ : Nat → AObj) (next : List Spot) (hn : next.length < 2 ^ 31) (h1 : τ c = .box (ckC x p (.ref d))) => goes_spec x p n next (.ref d) hl ho hn (σ := τ) (nx := nx + 1) (by omega) h1
  generalize dl[k] = dk at *
  have fin : ∀ (a : AObj) (i : Nat), i < nx → oput σ nx a i = σ i := fun a i h => by simp [oput, show ¬ i = nx by omega]
  refine K_run hB 100 ?_
  simp [go_sem, Spot.a, Spot.cs]
  refine K_drawn [] rfl (by rw [hB]; kernel_rfl) ?_
  refine K_run hB 100 ?_
  simp [go_sem, hσ, hc1, hck]
  refine K_dCallP rfl rfl rfl (args := [x.a, n.s.a, .i n.cost, .i p.least]) (f := 34) (by simp [go_sem, Inst.a, State.a, State.cs]) (hdead) ?_
  by_cases c1 : x.deadB n.s n.cost p.least = true
  · rw [if_pos c1] at hR
    subst hR
    refine K_run hB 100 ?_
    simp [go_sem, c1]
    exact fun i h1 h2 => absurd h2 (by omega)
  rw [if_neg c1] at hR
  by_cases c2 : 0 < n.part
  · rw [if_pos c2] at hR
    refine K_run hB 100 ?_
    simp [go_sem, c1, c2]
    refine K_call rfl rfl rfl (args := [.ptr c 0, .i k, n.a]) (f := 35) (by simp [go_sem, Spot.a, Spot.cs]) (by simp [go_sem, hB]) (hleads _ c2 (by simp [oput, hc1, hσ])) ?_
    refine K_run hB 100 ?_
    simp [go_sem]
    exact ⟨fun i h1 h2 => absurd h2 (by omega), hR⟩
  rw [if_neg c2] at hR
  refine K_run hB 100 ?_
  simp [go_sem, c1, c2]
  refine K_drawn [] rfl (by rw [hB]; kernel_rfl) ?_
  refine K_run hB 100 ?_
  simp [go_sem, hσ, hc1, hck]
  refine K_dCallP rfl rfl rfl (args := [x.a, n.s.a]) (f := 36) (by simp [go_sem, Inst.a, State.a, State.cs]) (hen) ?_
  generalize x.endS n.s = E at *
  obtain ⟨ec, eb⟩ := E
  simp only at hR
  have hsum := sum_pure [n.cost, ec] (by simp)
  generalize sumI [n.cost, ec] = sm at *
  refine K_run hB 100 ?_
  simp [go_sem]
  have w1 : IntKind.i64.wrap ((i : Int) + 1) = (i : Int) + 1 := w64 _ (by omega)
  have c5' : i + 1 < q.length → (i : Int) + 1 < q.length := fun h => by omega
  have c8' : ¬ i + 1 < q.length → ¬ (i : Int) + 1 < q.length := fun h => by omega
  have c6' : (0 : Int) ≤ (i : Int) + 1 := by omega
  cases eb with
  | false =>
    rw [if_neg (by simp)] at hR
    refine K_drawn [] rfl (by rw [hB]; kernel_rfl) ?_
    refine K_run hB 100 ?_
    simp [go_sem]
    refine K_drawn [] rfl (by rw [hB]; kernel_rfl) ?_
    refine K_run hB 100 ?_
    simp [go_sem, hσ, hc1, hck, hσd, hd1, hdl, hkd, hdg, Nat.mod_one]
    refine K_dCallP rfl rfl rfl (args := [x.a]) (f := 38) (by simp [go_sem, Inst.a]) (hdeep) ?_
    by_cases c4 : x.deep ≤ IntKind.i64.wrap (dk + i)
    · rw [if_pos c4] at hR
      subst hR
      refine K_run hB 100 ?_
      simp [go_sem, c4]
      exact fun i h1 h2 => absurd h2 (by omega)
    rw [if_neg c4] at hR
    by_cases c5 : i + 1 < q.length
    · have hnl : (q[i + 1]).length < 2 ^ 31 := hqn _ (List.getElem_mem _)
      have hQg : ∀ h : i + 1 < (q.map layT).length, (q.map layT)[i + 1]'h = [.sl ((q[i + 1]).map Spot.t)] := fun h => by rw [List.getElem_map]; rfl
      have hgd : q.getD (i + 1) [] = q[i + 1] := by rw [List.getD_eq_getElem?_getD, List.getElem?_eq_getElem c5]; rfl
      rw [hgd] at hR
      generalize q[i + 1] = next at *
      generalize q.map layT = Q at *
      generalize p.parts.map partT = Y at *
      have hg := fun τ h => hgoes τ next hnl h
      generalize x.goesB p.least n next = G at *
      refine K_run hB 100 ?_
      simp [go_sem, c4, hσ, hc1, hck, hYl, hkp, hY, w1, c5, hQl, hQg, c5' c5, c6']
      refine K_call rfl rfl rfl (args := [.ptr c 0, n.a, .t (.sl (next.map Spot.t))]) (f := 39) (by simp [go_sem, Spot.a, Spot.cs]) (by simp [go_sem, hB]) (hg _ (by simp [oput, hc1, hσ])) ?_
      refine K_run hB 100 ?_
      simp [go_sem]
      exact ⟨fun i h1 h2 => absurd h2 (by omega), hR⟩
    · have hgd : q.getD (i + 1) [] = [] := by rw [List.getD_eq_getElem?_getD, List.getElem?_eq_none (by omega)]; rfl
      rw [hgd] at hR
      have hg := fun τ h => hgoes τ [] (by simp) h
      generalize x.goesB p.least n [] = G at *
      generalize q.map layT = Q at *
      generalize p.parts.map partT = Y at *
      refine K_run hB 100 ?_
      simp [go_sem, c4, hσ, hc1, hck, hYl, hkp, hY, w1, hQl, c5, c8' c5]
      refine K_imp Imp.loose ?_
      refine K_call rfl rfl rfl (args := [.ptr c 0, n.a, .t (.sl (([] : List Spot).map Spot.t))]) (f := 39) (by simp [go_sem, loosen, loosen.loosenL, Spot.a, Spot.cs]) (by simp [go_sem, hB]) (hg _ (by simp [oput, hc1, hσ])) ?_
      refine K_run hB 100 ?_
      simp [go_sem]
      exact ⟨fun i h1 h2 => absurd h2 (by omega), hR⟩
  | true =>
    by_cases c3 : sm < p.least
    · rw [if_pos ⟨rfl, c3⟩] at hR
      subst hR
      refine K_drawn [] rfl (by rw [hB]; kernel_rfl) ?_
      refine K_run hB 100 ?_
      simp [go_sem, hσ, hc1, hck]
      refine K_dCallP rfl rfl rfl (args := [.fsl (ints [n.cost, ec])]) (f := 37) (by simp [go_sem, ints]) (Pure.loose hsum (by simp [bnd])) ?_
      refine K_run hB 100 ?_
      simp [go_sem, hσ, hc1, hck, c3]
      exact fun i h1 h2 => absurd h2 (by omega)
    rw [if_neg (fun h => c3 h.2)] at hR
    refine K_drawn [] rfl (by rw [hB]; kernel_rfl) ?_
    refine K_run hB 100 ?_
    simp [go_sem, hσ, hc1, hck]
    refine K_dCallP rfl rfl rfl (args := [.fsl (ints [n.cost, ec])]) (f := 37) (by simp [go_sem, ints]) (Pure.loose hsum (by simp [bnd])) ?_
    refine K_run hB 100 ?_
    simp [go_sem, hσ, hc1, hck, c3]
    refine K_drawn [] rfl (by rw [hB]; kernel_rfl) ?_
    refine K_run hB 100 ?_
    simp [go_sem, hσ, hc1, hck, hσd, hd1, hdl, hkd, hdg, Nat.mod_one]
    refine K_dCallP rfl rfl rfl (args := [x.a]) (f := 38) (by simp [go_sem, Inst.a]) (hdeep) ?_
    by_cases c4 : x.deep ≤ IntKind.i64.wrap (dk + i)
    · rw [if_pos c4] at hR
      subst hR
      refine K_run hB 100 ?_
      simp [go_sem, c4]
      exact fun i h1 h2 => absurd h2 (by omega)
    rw [if_neg c4] at hR
    by_cases c5 : i + 1 < q.length
    · have hnl : (q[i + 1]).length < 2 ^ 31 := hqn _ (List.getElem_mem _)
      have hQg : ∀ h : i + 1 < (q.map layT).length, (q.map layT)[i + 1]'h = [.sl ((q[i + 1]).map Spot.t)] := fun h => by rw [List.getElem_map]; rfl
      have hgd : q.getD (i + 1) [] = q[i + 1] := by rw [List.getD_eq_getElem?_getD, List.getElem?_eq_getElem c5]; rfl
      rw [hgd] at hR
      generalize q[i + 1] = next at *
      generalize q.map layT = Q at *
      generalize p.parts.map partT = Y at *
      have hg := fun τ h => hgoes τ next hnl h
      generalize x.goesB p.least n next = G at *
      refine K_run hB 100 ?_
      simp [go_sem, c4, hσ, hc1, hck, hYl, hkp, hY, w1, c5, hQl, hQg, c5' c5, c6']
      refine K_call rfl rfl rfl (args := [.ptr c 0, n.a, .t (.sl (next.map Spot.t))]) (f := 39) (by simp [go_sem, Spot.a, Spot.cs]) (by simp [go_sem, hB]) (hg _ (by simp [oput, hc1, hσ])) ?_
      refine K_run hB 100 ?_
      simp [go_sem]
      exact ⟨fun i h1 h2 => absurd h2 (by omega), hR⟩
    · have hgd : q.getD (i + 1) [] = [] := by rw [List.getD_eq_getElem?_getD, List.getElem?_eq_none (by omega)]; rfl
      rw [hgd] at hR
      have hg := fun τ h => hgoes τ [] (by simp) h
      generalize x.goesB p.least n [] = G at *
      generalize q.map layT = Q at *
      generalize p.parts.map partT = Y at *
      refine K_run hB 100 ?_
      simp [go_sem, c4, hσ, hc1, hck, hYl, hkp, hY, w1, hQl, c5, c8' c5]
      refine K_imp Imp.loose ?_
      refine K_call rfl rfl rfl (args := [.ptr c 0, n.a, .t (.sl (([] : List Spot).map Spot.t))]) (f := 39) (by simp [go_sem, loosen, loosen.loosenL, Spot.a, Spot.cs]) (by simp [go_sem, hB]) (hg _ (by simp [oput, hc1, hσ])) ?_
      refine K_run hB 100 ?_
      simp [go_sem]
      exact ⟨fun i h1 h2 => absurd h2 (by omega), hR⟩
end Go.Proofs.YtlhmchdfmjfmgaaGreat

/- Proofs: the check, as a plain function; what holds with a claim holds with any lesser one. -/
set_option maxRecDepth 4000
namespace Go.Proofs.YtlhmchdfmjfmgaaGreat
open Go Go.Proofs.YtlhmchdfmjfmgaaGreat.R
def infI : Int := 1152921504606846976
def stepD (k i : Nat) (n : Spot) (dl : List Int) : List Int :=
  if (k : Int) < n.part - 1 then dl.set (n.part - 1).toNat (min (dl.getD (n.part - 1).toNat 0) (IntKind.i64.wrap (dl.getD k 0 + i))) else dl
def Inst.layGo (x : Inst) (p : Prf) (k i : Nat) : List Spot → List Int → Option (List Int)
  | [], dl => some dl
  | n :: l, dl => if x.holdsB p k i n (dl.getD k 0) = true then x.layGo p k i l (stepD k i n dl) else none
def Inst.partGo (x : Inst) (p : Prf) (k : Nat) : Nat → List (List Spot) → List Int → Option (List Int)
  | _, [], dl => some dl
  | i, l :: q, dl => match x.layGo p k i l dl with
    | none => none
    | some dl' => x.partGo p k (i + 1) q dl'
def Inst.partsGo (x : Inst) (p : Prf) : Nat → List (List (List Spot)) → List Int → Option (List Int)
  | _, [], dl => some dl
  | k, q :: ps, dl => if dl.getD k 0 = infI then x.partsGo p (k + 1) ps dl else match x.partGo p k 0 q dl with
    | none => none
    | some dl' => x.partsGo p (k + 1) ps dl'
def Inst.mayP (x : Inst) (p : Prf) : Bool := x.may && (decide (0 ≤ p.least) && (decide (p.least ≤ infI) && (decide (p.parts ≠ []) && p.parts.all (x.wholeB p))))
def Inst.checkE (x : Inst) (p : Prf) : Int :=
  if x.mayP p = true then match p.first 0 with
    | none => 10
    | some f => if f.s = x.rootS ∧ f.cost = 0 then match x.partsGo p 0 p.parts ((List.replicate p.parts.length infI).set 0 0) with
      | none => 10
      | some _ => 0
    else 10
  else 1
/-! With a lesser claim. -/
def Prf.less (p : Prf) (m : Int) : Prf := ⟨m, p.parts⟩
end Go.Proofs.YtlhmchdfmjfmgaaGreat

/- Lists. -/
set_option maxRecDepth 4000
namespace Go.Proofs.YtlhmchdfmjfmgaaGreat
open Go Go.Proofs.YtlhmchdfmjfmgaaGreat.R
theorem filter_lt {α : Type} {p q : α → Bool} : ∀ (l : List α) {a : α}, a ∈ l → p a = true → q a = false → (∀ b, q b = true → p b = true) → (l.filter q).length < (l.filter p).length
  | b :: l, a, ha, hp, hq, h => by
    have hle : (l.filter q).length ≤ (l.filter p).length := by
      rw [← List.countP_eq_length_filter, ← List.countP_eq_length_filter]
      exact List.countP_mono_left fun b _ => h b
    rw [List.filter_cons, List.filter_cons]
    rcases List.mem_cons.1 ha with rfl | ha
    · rw [hp, hq]
      simp only [if_true, Bool.false_eq_true, if_false, List.length_cons]
      omega
    · have := filter_lt l ha hp hq h
      have hb := h b
      cases e1 : q b <;> cases e2 : p b <;> simp only [if_true, Bool.false_eq_true, if_false, List.length_cons] <;> first | omega | skip
      rw [e1] at hb
      rw [e2] at hb
      exact absurd (hb rfl) (by simp)
end Go.Proofs.YtlhmchdfmjfmgaaGreat

/- Things by numbers, the least first, those of one number in their order: plain laws. -/
set_option maxRecDepth 4000
namespace Go.Proofs.YtlhmchdfmjfmgaaGreat
open Go Go.Proofs.YtlhmchdfmjfmgaaGreat.R
section
variable {α : Type} (κ : α → Int)
def insK (x : α) (s : List α) : List α := s.filter (fun y => decide (κ y ≤ κ x)) ++ x :: s.filter (fun y => decide (κ x < κ y))
def isort (l : List α) : List α := l.foldl (fun s x => insK κ x s) []
def Srt (l : List α) : Prop := l.Pairwise fun a b => κ a ≤ κ b
structure SortOf (l s : List α) : Prop where
  srt : Srt κ s
  key : ∀ k, s.filter (fun y => decide (κ y = k)) = l.filter (fun y => decide (κ y = k))
variable {κ}
theorem mem_of_key {s t : List α} (h : ∀ k, s.filter (fun y => decide (κ y = k)) = t.filter (fun y => decide (κ y = k))) {x : α} (hx : x ∈ s) : x ∈ t := by
  have : x ∈ s.filter (fun y => decide (κ y = κ x)) := List.mem_filter.2 ⟨hx, by simp⟩
  rw [h] at this
  exact (List.mem_filter.1 this).1
theorem ins_sort {l s : List α} (h : SortOf κ l s) (x : α) : SortOf κ (l ++ [x]) (insK κ x s) := by
  refine ⟨?_, fun k => ?_⟩
  · rw [Srt, insK, List.pairwise_append, List.pairwise_cons]
    refine ⟨h.srt.filter _, ⟨fun y hy => ?_, h.srt.filter _⟩, fun y hy z hz => ?_⟩
    · have := (List.mem_filter.1 hy).2
      simp only [decide_eq_true_eq] at this
      omega
    · have h1 := (List.mem_filter.1 hy).2
      simp only [decide_eq_true_eq] at h1
      rcases List.mem_cons.1 hz with rfl | hz
      · exact h1
      · have h2 := (List.mem_filter.1 hz).2
        simp only [decide_eq_true_eq] at h2
        omega
  · rw [insK, List.filter_append, List.filter_append, List.filter_cons, List.filter_cons, List.filter_nil, List.filter_filter, List.filter_filter, ← h.key k]
    rcases Int.lt_trichotomy k (κ x) with hk | hk | hk
    · have e1 : s.filter (fun a => decide (κ a = k) && decide (κ a ≤ κ x)) = s.filter fun y => decide (κ y = k) := List.filter_congr fun y _ => by
        rw [Bool.eq_iff_iff]; simp only [Bool.and_eq_true, decide_eq_true_eq]; omega
      have e2 : s.filter (fun a => decide (κ a = k) && decide (κ x < κ a)) = [] := List.filter_eq_nil_iff.2 fun y _ => by simp only [Bool.and_eq_true, decide_eq_true_eq]; omega
      rw [e1, e2, if_neg (by simp only [decide_eq_true_eq]; omega), List.append_nil]
    · have e1 : s.filter (fun a => decide (κ a = k) && decide (κ a ≤ κ x)) = s.filter fun y => decide (κ y = k) := List.filter_congr fun y _ => by
        rw [Bool.eq_iff_iff]; simp only [Bool.and_eq_true, decide_eq_true_eq]; omega
      have e2 : s.filter (fun a => decide (κ a = k) && decide (κ x < κ a)) = [] := List.filter_eq_nil_iff.2 fun y _ => by simp only [Bool.and_eq_true, decide_eq_true_eq]; omega
      rw [e1, e2]
    · have e1 : s.filter (fun a => decide (κ a = k) && decide (κ a ≤ κ x)) = [] := List.filter_eq_nil_iff.2 fun y _ => by simp only [Bool.and_eq_true, decide_eq_true_eq]; omega
      have e2 : s.filter (fun a => decide (κ a = k) && decide (κ x < κ a)) = s.filter fun y => decide (κ y = k) := List.filter_congr fun y _ => by
        rw [Bool.eq_iff_iff]; simp only [Bool.and_eq_true, decide_eq_true_eq]; omega
      have hn : ¬ decide (κ x = k) = true := by simp only [decide_eq_true_eq]; omega
      rw [e1, e2, if_neg hn, if_neg hn]
      simp
theorem fold_sort : ∀ (l pre s : List α), SortOf κ pre s → SortOf κ (pre ++ l) (l.foldl (fun s x => insK κ x s) s)
  | [], pre, s, h => by rw [List.append_nil]; exact h
  | x :: l, pre, s, h => by
    have := fold_sort l (pre ++ [x]) _ (ins_sort h x)
    rw [List.append_assoc] at this
    exact this
theorem isort_sort (l : List α) : SortOf κ l (isort κ l) := by
  have h : SortOf κ ([] : List α) [] := ⟨List.Pairwise.nil, fun _ => rfl⟩
  exact fold_sort l [] [] h
theorem isort_mem {l : List α} {x : α} : x ∈ isort κ l ↔ x ∈ l := ⟨mem_of_key fun k => (isort_sort l).key k, mem_of_key fun k => ((isort_sort l).key k).symm⟩
end
end Go.Proofs.YtlhmchdfmjfmgaaGreat

/- The library's stable sort, of an own row of keys: its parts. -/
set_option maxRecDepth 4000
namespace Go.Proofs.YtlhmchdfmjfmgaaGreat
open Go Go.Proofs.YtlhmchdfmjfmgaaGreat.R
/-- A key: a node, and its number. -/
def KR (e : List T) : Prop := ∃ (n : Node) (k : Int), e = n.t ++ [.i k]
theorem KR.len {e : List T} (h : KR e) : e.length = 11 := by
  obtain ⟨n, k, rfl⟩ := h
  simp [Node.t]
/-- Two elements of a row: what is known where they change places. -/
structure Two (S : List (List T)) (u v : Nat) (x y : List T) : Prop where
  hu : u < S.length
  hv : v < S.length
  gu : ∀ h : u < S.length, S[u]'h = x
  gv : ∀ h : v < S.length, S[v]'h = y
  lx : x.length = 11
  ly : y.length = 11
end Go.Proofs.YtlhmchdfmjfmgaaGreat

/- A move at a sooner time, with a lesser load. -/
set_option maxRecDepth 4000
namespace Go.Proofs.YtlhmchdfmjfmgaaGreat
open Go Go.Proofs.YtlhmchdfmjfmgaaGreat.R
/-- One state is no later, and bears no more, but is the same. -/
structure Sooner (a s : State) : Prop where
  time : a.time ≤ s.time
  load : a.load ≤ s.load
  spot : a.spot = s.spot
  car : a.car = s.car
  first : a.first = s.first
  must : a.must = s.must
  can : a.can = s.can
  on : a.on = s.on
theorem Sooner.begins {a s : State} (h : Sooner a s) (x : Inst) (j : Int) : x.begins a j ≤ x.begins s j := by
  have := h.time
  unfold Inst.begins
  rw [h.spot]
  omega
theorem Sooner.late {a s : State} (h : Sooner a s) (x : Inst) (j : Int) (hl : x.lateB s j = false) : x.lateB a j = false := by
  have := h.begins x j
  unfold Inst.lateB at hl ⊢
  simp only [Bool.or_eq_false_iff, decide_eq_false_iff_not] at hl ⊢
  rw [h.must]
  exact ⟨hl.1, by omega⟩
theorem Sooner.seen {a s : State} (h : Sooner a s) (x : Inst) (j : Int) : Sooner (x.seen a j) (x.seen s j) := by
  have := h.begins x j
  have := h.load
  exact ⟨by simp only [Inst.seen]; omega, by simp only [Inst.seen]; omega, rfl, h.car, by simp only [Inst.seen, h.spot, h.first], by simp only [Inst.seen, h.must], by simp only [Inst.seen, h.can], h.on⟩
theorem Sooner.visit {a s : State} (h : Sooner a s) (x : Inst) (j : Int) (hv : (x.visit s j).2 = true) : (x.visit a j).2 = true ∧ Sooner (x.visit a j).1 (x.visit s j).1 := by
  unfold Inst.visit at hv ⊢
  cases hl : x.lateB s j with
  | true => rw [hl] at hv; simp at hv
  | false =>
    rw [h.late x j hl]
    exact ⟨rfl, h.seen x j⟩
theorem Sooner.take {a s : State} (h : Sooner a s) (x : Inst) (j : Int) (hv : (x.take s j).2 = true) : (x.take a j).2 = true ∧ Sooner (x.take a j).1 (x.take s j).1 := by
  unfold Inst.take at hv ⊢
  cases hf : x.fullB s j with
  | true => rw [hf] at hv; simp at hv
  | false =>
    have hf' : x.fullB a j = false := by
      have := h.load
      unfold Inst.fullB at hf ⊢
      simp only [Bool.or_eq_false_iff, decide_eq_false_iff_not, Bool.and_eq_false_iff] at hf ⊢
      rw [h.spot, h.first]
      exact ⟨by omega, hf.2⟩
    rw [hf] at hv
    rw [hf']
    simp only [Bool.false_eq_true, if_false] at hv ⊢
    cases hq : (x.visit s j).2 with
    | false => rw [hq] at hv; simp [hq] at hv
    | true =>
      obtain ⟨v1, v2⟩ := h.visit x j hq
      rw [v1]
      exact ⟨rfl, ⟨v2.time, v2.load, v2.spot, v2.car, v2.first, v2.must, v2.can, by simp only [if_true, h.on]⟩⟩
theorem Sooner.bring {a s : State} (h : Sooner a s) (x : Inst) (j : Int) (hv : (x.bring s j).2 = true) : (x.bring a j).2 = true ∧ Sooner (x.bring a j).1 (x.bring s j).1 := by
  unfold Inst.bring at hv ⊢
  cases hf : x.emptyB s j with
  | true => rw [hf] at hv; simp at hv
  | false =>
    have hf' : x.emptyB a j = false := by
      unfold Inst.emptyB at hf ⊢
      rw [h.spot, h.can]
      exact hf
    rw [hf] at hv
    rw [hf']
    simp only [Bool.false_eq_true, if_false] at hv ⊢
    cases hq : (x.visit s j).2 with
    | false => rw [hq] at hv; simp [hq] at hv
    | true =>
      obtain ⟨v1, v2⟩ := h.visit x j hq
      rw [v1]
      exact ⟨rfl, ⟨v2.time, v2.load, v2.spot, v2.car, v2.first, v2.must, v2.can, by simp only [if_true, h.on]⟩⟩
theorem Sooner.home {a s : State} (h : Sooner a s) (x : Inst) (hv : (x.home s).2 = true) : (x.home a).2 = true ∧ Sooner (x.home a).1 (x.home s).1 := by
  unfold Inst.home at hv ⊢
  cases hf : x.stayB s with
  | true => rw [hf] at hv; simp at hv
  | false =>
    have hf' : x.stayB a = false := by
      have := h.time
      unfold Inst.stayB at hf ⊢
      simp only [Bool.or_eq_false_iff, decide_eq_false_iff_not] at hf ⊢
      rw [h.spot, h.on, h.car, h.must]
      exact ⟨hf.1, by omega⟩
    rw [hf']
    refine ⟨rfl, ?_⟩
    show Sooner (x.homeS a) (x.homeS s)
    exact ⟨Int.le_refl _, Int.le_refl _, rfl, by simp only [Inst.homeS, h.car], h.first, h.must, h.can, h.on⟩
theorem Sooner.to {a s : State} (h : Sooner a s) (x : Inst) (j : Int) (hv : (x.to s j).2 = true) : (x.to a j).2 = true ∧ Sooner (x.to a j).1 (x.to s j).1 := by
  unfold Inst.to at hv ⊢
  split
  · rename_i e
    rw [if_pos e] at hv
    exact h.home x hv
  · rename_i e
    rw [if_neg e] at hv
    split
    · rename_i e2
      rw [if_pos e2] at hv
      exact h.take x j hv
    · rename_i e2
      rw [if_neg e2] at hv
      exact h.bring x j hv
theorem move_is {x : Inst} {s : State} {j : Int} (hv : (x.move s j).2.2 = true) : x.may = true ∧ s.mayB x = true ∧ (0 ≤ j ∧ j ≤ 2 * x.pairs) ∧ (x.to s j).2 = true ∧ x.move s j = ((x.to s j).1, far (x.stop s.spot) (x.stop j), true) := by
  unfold Inst.move at hv ⊢
  split at hv
  · rename_i h
    rw [if_pos h]
    unfold Inst.step at hv ⊢
    split at hv
    · simp at hv
    · rename_i h1
      rw [if_neg h1]
      split at hv
      · rename_i h2
        rw [if_pos h2]
        exact ⟨h.1, h.2, by omega, h2, rfl⟩
      · simp at hv
  · simp at hv
theorem move_mk {x : Inst} {s : State} {j : Int} (h1 : x.may = true) (h2 : s.mayB x = true) (h3 : 0 ≤ j ∧ j ≤ 2 * x.pairs) (h4 : (x.to s j).2 = true) : x.move s j = ((x.to s j).1, far (x.stop s.spot) (x.stop j), true) := by
  unfold Inst.move Inst.step
  rw [if_pos ⟨h1, h2⟩, if_neg (by omega), if_pos h4]
theorem Sooner.move {a s : State} (h : Sooner a s) (x : Inst) (j : Int) (ht : 0 ≤ a.time) (hw : 0 ≤ a.load) (hv : (x.move s j).2.2 = true) : (x.move a j).2.2 = true ∧ (x.move a j).2.1 = (x.move s j).2.1 ∧ Sooner (x.move a j).1 (x.move s j).1 := by
  obtain ⟨h1, h2, h3, h4, h5⟩ := move_is hv
  obtain ⟨g1, g2⟩ := h.to x j h4
  have g3 : a.mayB x = true := by
    have := h.time
    have := h.load
    unfold State.mayB at h2 ⊢
    simp only [Bool.and_eq_true, decide_eq_true_eq] at h2 ⊢
    rw [h.spot, h.car]
    omega
  rw [h5, move_mk h1 g3 h3 g1]
  exact ⟨rfl, by rw [h.spot], g2⟩
end Go.Proofs.YtlhmchdfmjfmgaaGreat

/- What was seen behind moves from the beginning. -/
set_option maxRecDepth 4000
namespace Go.Proofs.YtlhmchdfmjfmgaaGreat
open Go Go.Proofs.YtlhmchdfmjfmgaaGreat.R
theorem with_bit {t k : Nat} (hk : k ≤ 63) (i : Nat) : (withN t k).testBit i = (t.testBit i || decide (k = i)) := by
  rw [withN, bitN_nat hk, Nat.testBit_or, Nat.testBit_two_pow]
theorem without_bit {t k : Nat} (hk : k ≤ 63) {i : Nat} (hi : i < 64) : (withoutN t k).testBit i = (t.testBit i && !decide (k = i)) := by
  rw [withoutN, bitN_nat hk, andN_bit, Nat.testBit_two_pow]
  simp [hi]
theorem has_testN {t k : Nat} (hk : k ≤ 63) : hasB t (k : Int) = t.testBit k := has_nat (by omega)
end Go.Proofs.YtlhmchdfmjfmgaaGreat

/- What moves do, plainly; no move costs less than the bound falls. -/
set_option maxRecDepth 4000
namespace Go.Proofs.YtlhmchdfmjfmgaaGreat
open Go Go.Proofs.YtlhmchdfmjfmgaaGreat.R
theorem move_pos {x : Inst} {s : State} {j : Int} (h : (x.move s j).2.2 = true) (hj : j ≠ 0) : x.may = true ∧ s.mayB x = true ∧ 0 < j ∧ j ≤ 2 * x.pairs ∧ x.lateB s j = false ∧ (j ≤ x.pairs → x.fullB s j = false) ∧ (x.pairs < j → x.emptyB s j = false) ∧
    x.move s j = (x.rvisit s j (x.begins s j), far (x.stop s.spot) (x.stop j), true) := by
  obtain ⟨h1, h2, h3, h4, h5⟩ := move_is h
  have k1 : x.lateB s j = false := by
    cases e : x.lateB s j with
    | false => rfl
    | true => rw [to_not hj (.inl e)] at h4; cases h4
  have k2 : j ≤ x.pairs → x.fullB s j = false := fun hp => by
    cases e : x.fullB s j with
    | false => rfl
    | true => rw [to_not hj (.inr (.inl ⟨hp, e⟩))] at h4; cases h4
  have k3 : x.pairs < j → x.emptyB s j = false := fun hp => by
    cases e : x.emptyB s j with
    | false => rfl
    | true => rw [to_not hj (.inr (.inr ⟨hp, e⟩))] at h4; cases h4
  refine ⟨h1, h2, by omega, h3.2, k1, k2, k3, ?_⟩
  rw [h5, to_visit hj k1 k2 k3]
theorem move_home {x : Inst} {s : State} (h : (x.move s 0).2.2 = true) : x.may = true ∧ s.mayB x = true ∧ x.stayB s = false ∧ x.move s 0 = (x.homeS s, far (x.stop s.spot) (x.stop 0), true) := by
  obtain ⟨h1, h2, h3, h4, h5⟩ := move_is h
  have e : x.to s 0 = x.home s := by simp [Inst.to]
  rw [e] at h4 h5
  have k1 : x.stayB s = false := by
    cases c : x.stayB s with
    | false => rfl
    | true => rw [Inst.home, if_pos c] at h4; cases h4
  refine ⟨h1, h2, k1, ?_⟩
  rw [h5, Inst.home, if_neg (by simp [k1])]
theorem has_withN {t k : Nat} (hk : k ≤ 63) (i : Nat) : hasB (withN t k) i = (hasB t i || decide (i = k)) := by
  by_cases hi : i ≤ 63
  · rw [has_testN hi, has_testN hi, with_bit hk]
    by_cases e : i = k
    · subst e; simp
    · have : ¬ k = i := fun h => e h.symm
      simp [e, this]
  · have e1 : ∀ u, hasB u (i : Int) = false := fun u => by simp [hasB]; omega
    have : ¬ i = k := by omega
    simp [e1, this]
/-- A state whose stop, if it is not the yard, was surely seen. -/
def State.seenAt (s : State) : Prop := s.spot = 0 ∨ hasB s.must s.spot = true
/-- Where a move leads to was surely seen. -/
theorem seen_step {x : Inst} {s : State} {j : Int} (h : (x.move s j).2.2 = true) : (x.move s j).1.seenAt := by
  by_cases hj : j = 0
  · subst hj
    obtain ⟨_, _, _, e⟩ := move_home h
    rw [e]
    exact .inl rfl
  · obtain ⟨hm, _, h1, h2, _, _, _, e⟩ := move_pos h hj
    obtain ⟨p, hx⟩ := x.fit hm
    have hp := hx.pairs
    have hfew := hx.few
    rw [e]
    refine .inr ?_
    show hasB (withN s.must j) j = true
    obtain ⟨k, rfl⟩ : ∃ k : Nat, j = k := ⟨j.toNat, by omega⟩
    rw [has_withN (by omega)]
    simp
end Go.Proofs.YtlhmchdfmjfmgaaGreat

/- BoundSteps, BoundWays: what the laws give. -/
set_option maxRecDepth 4000
namespace Go.Proofs.YtlhmchdfmjfmgaaGreat
open Go Go.Proofs.YtlhmchdfmjfmgaaGreat.R
theorem canB_mem {f : Nat → Bool} : ∀ {n : Nat} {j : Int}, j ∈ canB f n → ∃ k : Nat, j = k ∧ k < n ∧ f k = true
  | 0, j, h => by cases h
  | n + 1, j, h => by
    rw [canB, List.mem_append] at h
    rcases h with h | h
    · obtain ⟨k, h1, h2, h3⟩ := canB_mem h
      exact ⟨k, h1, by omega, h3⟩
    · split at h
      · rename_i hf
        rw [List.mem_singleton] at h
        exact ⟨n, h, by omega, hf⟩
      · cases h
theorem moves_mem {x : Inst} {s : State} {j : Int} (h : j ∈ x.moves s) : (x.move s j).2.2 = true := by
  rw [moves_can] at h
  obtain ⟨k, rfl, _, h3⟩ := canB_mem h
  exact h3
theorem move_cost {x : Inst} {s : State} {j : Int} (h : (x.move s j).2.2 = true) : 0 ≤ (x.move s j).2.1 ∧ (x.move s j).2.1 ≤ 14143 := by
  obtain ⟨_, _, _, _, e⟩ := move_is h
  rw [e]
  exact far_le _ _
end Go.Proofs.YtlhmchdfmjfmgaaGreat
