/- Parts of the proof: Node, ArgN, Mat, MatR, Near, NearR, Bound, Bound2, StateR, StateR2, StateR3, Awake, Bound3, Bound4, Late, Ends, Steps, Seen, LowP, Law12, Law12b, Once, Once2, ArgNS, Lists. -/
import Derived.Test.YtlhmchdfmjfmgaaMF
set_option linter.unusedVariables false
/- Nodes. -/
set_option maxRecDepth 4000
namespace Go.Proofs.Ytlhmchdfmjfmgaa
open Go Go.Proofs.Ytlhmchdfmjfmgaa.R
structure Node where
  s : State
  cost : Int
  path : List Int
  deriving DecidableEq
def Node.cs (n : Node) : List AV := [.i n.s.spot, .i n.s.car, .i n.s.time, .i n.s.load, .i n.s.first, .u n.s.must, .u n.s.can, .u n.s.on, .i n.cost, .t (.sl (ints n.path))]
def Node.a (n : Node) : AV := .agg n.cs
/-- As an element of a row. -/
def Node.t (n : Node) : List T := [.i n.s.spot, .i n.s.car, .i n.s.time, .i n.s.load, .i n.s.first, .v (.int .u64 n.s.must), .v (.int .u64 n.s.can), .v (.int .u64 n.s.on), .i n.cost, .sl (ints n.path)]
theorem Node.map_t (n : Node) : n.t.map .t = n.cs := rfl
end Go.Proofs.Ytlhmchdfmjfmgaa

/- Nodes as arguments. -/
set_option maxRecDepth 100000
namespace Go.Proofs.Ytlhmchdfmjfmgaa
open Go Go.ChangeShapes Go.WideShapes Go.ChangeAt Go.RowKit Go.Proofs.Ytlhmchdfmjfmgaa.R
/-- A node as an argument may be. -/
structure Node.In (n : Node) : Prop where
  ok : n.s.ok
  len : n.path.length ≤ maxLen
  cost : -9223372036854775808 ≤ n.cost ∧ n.cost < 9223372036854775808
theorem has_node {f : Nat} {ts : List T} (h : HasT P f 52 ts) : ∃ n : Node, ts = n.t ∧ n.In := by
  obtain ⟨f', h⟩ := has_struct (tt_some tt52).1 h
  simp only [HasF] at h
  obtain ⟨a, _, rfl, _, ha, b, _, rfl, _, hb, c, _, rfl, _, hc, rfl⟩ := h
  obtain ⟨s, rfl, hs⟩ := has_state ha
  obtain ⟨n, rfl, hn⟩ := has_int (tt_some tt3).1 hb
  obtain ⟨l, rfl, hl⟩ := has_ints hc
  exact ⟨⟨s, n, l⟩, rfl, ⟨hs, hl, hn⟩⟩
section
variable {H : Type} {enc : TypeId × Value → H} {W : World} {base : Nat} {sp : Nat → Bool} {held : Bool} {v : Value} {d : DataW H} {ps : List MemPlace}
theorem arg_node (h : DataW.Trod enc P W 0 sp held 52 v d ps) (hv : Value.okWide P W .any base 52 v) : ∃ n : Node, n.In ∧ RepA W (C0 W) n.a v := by
  obtain ⟨f, ts, h1, h2⟩ := arg_struct (tt_some tt52).1 (by kernel_rfl) h hv
  obtain ⟨n, rfl, hn⟩ := has_node h1
  exact ⟨n, hn, h2⟩
end
end Go.Proofs.Ytlhmchdfmjfmgaa

/- How far it is from each to each. -/
set_option maxRecDepth 4000
namespace Go.Proofs.Ytlhmchdfmjfmgaa
open Go Go.Proofs.Ytlhmchdfmjfmgaa.R
def Inst.row (x : Inst) (a : Stop) : List Int := x.stops.map (far a)
def Inst.mat (x : Inst) : List (List Int) := if x.may then x.stops.map x.row else []
abbrev Inst.cs (x : Inst) : List AV := [.t (.i x.pairs), .t (.i x.cars), .t (.i x.room), .t (.sl (x.stops.map Stop.t))]
theorem ints_all (l : List Int) : ∀ y ∈ ints l, y.length = 1 := by
  intro y hy
  obtain ⟨n, _, rfl⟩ := List.mem_map.1 hy
  rfl
theorem rowT_all (l : List (List Int)) : ∀ y ∈ l.map rowT, y.length = 1 := by
  intro y hy
  obtain ⟨n, _, rfl⟩ := List.mem_map.1 hy
  rfl
theorem ints_snoc (l : List Int) (n : Int) : ints l ++ [[.i n]] = ints (l ++ [n]) := by simp [ints]
def Inst.rows (x : Inst) : List (List T) := x.stops.map fun a => rowT (x.row a)
theorem Inst.rows_len (x : Inst) : x.rows.length = x.stops.length := List.length_map _
theorem Inst.row_len (x : Inst) (a : Stop) : (x.row a).length = x.stops.length := List.length_map _
theorem Inst.rows_snoc (x : Inst) {k : Nat} (h : k < x.stops.length) : x.rows.take (k + 1) = x.rows.take k ++ [rowT (x.row x.stops[k])] := by
  rw [List.take_succ_eq_append_getElem (by rw [x.rows_len]; exact h)]
  simp [Inst.rows]
theorem Inst.row_snoc (x : Inst) (a : Stop) {i : Nat} (h : i < x.stops.length) : (x.row a).take (i + 1) = (x.row a).take i ++ [far a x.stops[i]] := by
  rw [List.take_succ_eq_append_getElem (by rw [x.row_len]; exact h)]
  simp [Inst.row]
theorem Inst.mat_rows (x : Inst) : x.mat.map rowT = if x.may then x.rows else [] := by
  unfold Inst.mat
  split
  · simp [Inst.rows]
  · rfl
theorem matrix_pure (x : Inst) (hl : x.stops.length < 2 ^ 31) : Pure P 115 [x.a] (.t (.sl (x.mat.map rowT))) := by
  rw [x.mat_rows]
  refine pure_of Try.func115 rfl rfl (by simp [Try.f115]) (by simp [bnd, bnd.bndL, Inst.a]) (by split <;> simp [bnd]) fun B hB hnx => ?_
  simp only [Try.f115] at hB ⊢
  have hm : mostLen = 4294967296 := rfl
  refine K_run hB 60 ?_
  simp [go_sem, Inst.a]
  refine K_call rfl rfl rfl (args := [x.a]) (f := 28) (by simp [go_sem, Inst.a]) (by simp [go_sem, hB]) ((may_pure x (by omega)).spec _ _) ?_
  by_cases h0 : x.may = true
  rotate_left
  · have h0' : x.may = false := by simpa using h0
    rw [h0']
    refine K_run hB 60 ?_
    simp [go_sem, h0']
  rw [h0]
  refine K_run hB 60 ?_
  simp [go_sem]
  refine K_own 3 1 (by simp [go_sem]) ?_
  refine K_loopP (α := Nat × Nat × (Nat → AObj) × Nat) (fun (k, j, σ, nx) => k ≤ x.stops.length ∧ σ 0 = .box x.cs ∧ σ j = .arr 1 (x.rows.take k) ∧ 0 < j ∧ j < nx)
    (fun (k, j, σ, nx) => ⟨sl [(1, .ptr 0 0), (3, .ref j), (13, .t (.sl (x.stops.map Stop.t))), (14, .i x.stops.length), (15, .i k)], σ, nx⟩) (fun y => x.stops.length - y.1) (0, 1, _, 2)
    ?_ (Imp.slots (by simp [go_sem]) rfl rfl) ?_
  · exact ⟨Nat.zero_le _, by simp [oput], by simp [oput], by omega, by omega⟩
  rintro ⟨k, j, σ, nx⟩ ⟨g1, c0, cj, gj, gn⟩
  refine K_run hB 60 ?_
  simp [go_sem]
  refine fork_dec (fun h => ?_) (fun h => ?_)
  rotate_left
  · have : k = x.stops.length := by omega
    subst this
    rw [← x.rows_len, List.take_length] at cj
    simp [go_sem, cj, h0]
  have htk := x.rows_snoc h
  have hrl := x.rows_len
  have hkk : IntKind.i64.wrap ((k : Int) + 1) = ((k + 1 : Nat) : Int) := by rw [w64 ((k : Int) + 1) (by omega)]; rfl
  generalize ha : x.stops[k] = a at *
  have hn0 : ¬ 0 = nx := by omega
  simp [go_sem, h, ha, Stop.t, c0, hn0]
  refine K_own 6 1 (by simp [go_sem]) ?_
  refine K_loopP (α := Nat × Nat × (Nat → AObj) × Nat) (fun (i, q, σ', nx') => i ≤ x.stops.length ∧ σ' 0 = .box x.cs ∧ σ' j = .arr 1 (x.rows.take k) ∧ σ' nx = .box (a.t.map .t) ∧ σ' q = .arr 1 (ints ((x.row a).take i)) ∧ nx < q ∧ q < nx')
    (fun (i, q, σ', nx') => ⟨sl [(1, .ptr 0 0), (3, .ref j), (13, .t (.sl (x.stops.map Stop.t))), (14, .i x.stops.length), (15, .i k), (5, .ptr nx 0), (6, .ref q), (20, .t (.sl (x.stops.map Stop.t))), (21, .i x.stops.length), (22, .i i)], σ', nx'⟩) (fun y => x.stops.length - y.1) (0, nx + 1, _, nx + 2)
    ?_ (Imp.slots (by simp [go_sem]) rfl rfl) ?_
  · exact ⟨Nat.zero_le _, by simp [oput, c0, hn0], by simp [oput, cj, show j ≠ nx by omega, show j ≠ nx + 1 by omega], by simp [oput, Stop.t], by simp [oput, ints], by omega, by omega⟩
  rintro ⟨i, q, σ', nx'⟩ ⟨i1, d0, dj, da, dq, i2, i3⟩
  refine K_run hB 60 ?_
  simp [go_sem]
  refine fork_dec (fun hi => ?_) (fun hi => ?_)
  · have hti := x.row_snoc a hi
    have hrl2 := x.row_len a
    have hii : IntKind.i64.wrap ((i : Int) + 1) = ((i + 1 : Nat) : Int) := by rw [w64 ((i : Int) + 1) (by omega)]; rfl
    have hlen : (ints ((x.row a).take i)).length = i := by simp only [ints, List.length_map, List.length_take]; omega
    generalize hb : x.stops[i] = b at *
    generalize (x.row a).take i = L at dq hlen hti
    simp [go_sem, hi, hb, Stop.t, da, show ¬ nx = nx' by omega]
    refine K_call rfl rfl rfl (args := [.agg (a.t.map .t), .agg (b.t.map .t)]) (f := 141) (by simp [go_sem, Stop.t]) (by simp [go_sem, hB]) ((far_pure a b).spec _ _) ?_
    have hcap : i + 1 ≤ mostLen := by omega
    refine K_run hB 60 ?_
    simp [go_sem, dq, show ¬ q = nx' by omega, hlen, hcap, hii]
    refine Next.mk (i + 1, nx' + 1, _, nx' + 2) ?_ (Imp.slots (by simp [go_sem]) rfl rfl) (by simp only; omega)
    refine ⟨by simp only; omega, ?_, ?_, ?_, ?_, by simp only; omega, by simp only; omega⟩
    · simp [oput, d0, show ¬ 0 = nx' by omega, show ¬ 0 = q by omega]
    · simp [oput, dj, show ¬ j = nx' by omega, show ¬ j = q by omega, show ¬ j = nx' + 1 by omega]
    · simp [oput, da, show ¬ nx = nx' by omega, show ¬ nx = q by omega, show ¬ nx = nx' + 1 by omega, Stop.t]
    · simp [oput, hti, ints_snoc]
  · have : i = x.stops.length := by omega
    subst this
    rw [← x.row_len a, List.take_length] at dq
    simp [go_sem]
    refine K_imp (Imp.freeze (q := q) (sz := 1) (es := ints (x.row a)) (by simp [go_sem, dq])) ?_
    have hj0 : ¬ j = q := by omega
    have hlen : (x.rows.take k).length = k := by rw [List.length_take]; omega
    generalize x.rows.take k = R at dj hlen htk
    have hcap : k + 1 ≤ mostLen := by omega
    refine K_run hB 60 ?_
    simp [go_sem, frz1, frzO, hj0, dj, hkk, hlen, hcap]
    refine Next.mk (k + 1, nx', _, nx' + 1) ?_ (Imp.slots (by simp [go_sem, frz1]) rfl rfl) (by simp only; omega)
    refine ⟨by simp only; omega, ?_, ?_, by simp only; omega, by simp only; omega⟩
    · simp [oput, d0, frzO, frz1.frzL, frz1, show ¬ 0 = nx' by omega, show ¬ 0 = j by omega, show ¬ 0 = q by omega]
    · simp [oput, htk, rowT]
end Go.Proofs.Ytlhmchdfmjfmgaa

/- How far it is from each to each: the document's. -/
set_option maxRecDepth 4000
namespace Go.Proofs.Ytlhmchdfmjfmgaa
open Go Go.Proofs.Ytlhmchdfmjfmgaa.R
theorem rmatrix_pure (x : Inst) (hl : x.stops.length < 2 ^ 31) : Pure P 144 [x.a] (.t (.sl (x.mat.map rowT))) := by
  rw [x.mat_rows]
  refine pure_of Try.func144 rfl rfl (by simp [Try.f144]) (by simp [bnd, bnd.bndL, Inst.a]) (by split <;> simp [bnd]) fun B hB hnx => ?_
  simp only [Try.f144] at hB ⊢
  have hm : mostLen = 4294967296 := rfl
  refine K_run hB 60 ?_
  simp [go_sem, Inst.a]
  refine K_call rfl rfl rfl (args := [x.a]) (f := 118) (by simp [go_sem, Inst.a]) (by simp [go_sem, hB]) ((rmay_pure x (by omega)).spec _ _) ?_
  by_cases h0 : x.may = true
  rotate_left
  · have h0' : x.may = false := by simpa using h0
    rw [h0']
    refine K_run hB 60 ?_
    simp [go_sem, h0']
  rw [h0]
  refine K_run hB 60 ?_
  simp [go_sem]
  refine K_own 4 1 (by simp [go_sem]) ?_
  refine K_loopP (α := Nat × Nat × (Nat → AObj) × Nat) (fun (k, j, σ, nx) => k ≤ x.stops.length ∧ σ 0 = .box x.cs ∧ σ j = .arr 1 (x.rows.take k) ∧ 0 < j ∧ j < nx)
    (fun (k, j, σ, nx) => ⟨sl [(1, .ptr 0 0), (4, .ref j), (5, .i k)], σ, nx⟩) (fun y => x.stops.length - y.1) (0, 1, _, 2)
    ?_ (Imp.slots (by simp [go_sem]) rfl rfl) ?_
  · exact ⟨Nat.zero_le _, by simp [oput], by simp [oput], by omega, by omega⟩
  rintro ⟨k, j, σ, nx⟩ ⟨g1, c0, cj, gj, gn⟩
  refine K_run hB 60 ?_
  simp [go_sem, c0]
  refine fork_dec (fun h => ?_) (fun h => ?_)
  rotate_left
  · have : k = x.stops.length := by omega
    subst this
    rw [← x.rows_len, List.take_length] at cj
    simp [go_sem, cj, h0]
  have htk := x.rows_snoc h
  have hrl := x.rows_len
  have hkk : IntKind.i64.wrap ((k : Int) + 1) = ((k + 1 : Nat) : Int) := by rw [w64 ((k : Int) + 1) (by omega)]; rfl
  generalize ha : x.stops[k] = a at *
  simp [go_sem]
  refine K_own 6 1 (by simp [go_sem]) ?_
  refine K_loopP (α := Nat × Nat × (Nat → AObj) × Nat) (fun (i, q, σ', nx') => i ≤ x.stops.length ∧ σ' 0 = .box x.cs ∧ σ' j = .arr 1 (x.rows.take k) ∧ σ' q = .arr 1 (ints ((x.row a).take i)) ∧ nx ≤ q ∧ q < nx')
    (fun (i, q, σ', nx') => ⟨sl [(1, .ptr 0 0), (4, .ref j), (5, .i k), (6, .ref q), (7, .i i)], σ', nx'⟩) (fun y => x.stops.length - y.1) (0, nx, _, nx + 1)
    ?_ (Imp.slots (by simp [go_sem]) rfl rfl) ?_
  · exact ⟨Nat.zero_le _, by simp [oput, c0, show ¬ 0 = nx by omega], by simp [oput, cj, show j ≠ nx by omega], by simp [oput, ints], by omega, by omega⟩
  rintro ⟨i, q, σ', nx'⟩ ⟨i1, d0, dj, dq, i2, i3⟩
  refine K_run hB 60 ?_
  simp [go_sem, d0]
  refine fork_dec (fun hi => ?_) (fun hi => ?_)
  · have hti := x.row_snoc a hi
    have hrl2 := x.row_len a
    have hii : IntKind.i64.wrap ((i : Int) + 1) = ((i + 1 : Nat) : Int) := by rw [w64 ((i : Int) + 1) (by omega)]; rfl
    have hlen : (ints ((x.row a).take i)).length = i := by simp only [ints, List.length_map, List.length_take]; omega
    generalize hb : x.stops[i] = b at *
    generalize (x.row a).take i = L at dq hlen hti
    have hcap : i + 1 ≤ mostLen := by omega
    simp [go_sem]
    refine K_drawnT [13] rfl (by rw [hB]; kernel_rfl) (by kernel_rfl) fun ht => ?_
    refine K_run hB 60 ?_
    simp [go_sem, ht, d0, h, hi, ha, hb, Stop.t]
    refine K_dCallP rfl rfl rfl (args := [.agg (a.t.map .t), .agg (b.t.map .t)]) (f := 122) (by simp [go_sem, Stop.t]) (rfar_pure a b) ?_
    refine K_run hB 60 ?_
    simp [go_sem, ht, dq, hlen, hcap, hii]
    refine Next.mk (i + 1, nx', _, nx' + 1) ?_ (Imp.slots (by simp [go_sem]) rfl rfl) (by simp only; omega)
    refine ⟨by simp only; omega, ?_, ?_, ?_, by simp only; omega, by simp only; omega⟩
    · simp [oput, d0, show ¬ 0 = nx' by omega, show ¬ 0 = q by omega]
    · simp [oput, dj, show ¬ j = nx' by omega, show ¬ j = q by omega]
    · simp [oput, hti, ints_snoc]
  · have : i = x.stops.length := by omega
    subst this
    rw [← x.row_len a, List.take_length] at dq
    simp [go_sem]
    refine K_imp (Imp.freeze (q := q) (sz := 1) (es := ints (x.row a)) (by simp [go_sem, dq])) ?_
    have hj0 : ¬ j = q := by omega
    have hlen : (x.rows.take k).length = k := by rw [List.length_take]; omega
    generalize x.rows.take k = R at dj hlen htk
    have hcap : k + 1 ≤ mostLen := by omega
    refine K_run hB 60 ?_
    simp [go_sem, frz1, frzO, hj0, dj, hkk, hlen, hcap]
    refine Next.mk (k + 1, nx', _, nx' + 1) ?_ (Imp.slots (by simp [go_sem, frz1]) rfl rfl) (by simp only; omega)
    refine ⟨by simp only; omega, ?_, ?_, by simp only; omega, by simp only; omega⟩
    · simp [oput, d0, frzO, frz1.frzL, frz1, show ¬ 0 = nx' by omega, show ¬ 0 = j by omega, show ¬ 0 = q by omega]
    · simp [oput, htk, rowT]
end Go.Proofs.Ytlhmchdfmjfmgaa

/- How far it is to each from the nearest other one. -/
set_option maxRecDepth 4000
namespace Go.Proofs.Ytlhmchdfmjfmgaa
open Go Go.Proofs.Ytlhmchdfmjfmgaa.R
def inf : Int := 1152921504606846976
theorem far_in (a b : Stop) : 0 ≤ far a b ∧ far a b < inf := by
  have h := sq_in a b
  unfold far rootI inf
  split
  · omega
  · have := rootL_lt (min (sq a b) 1152921504606846976).toNat 31 0
    simp only [Nat.reducePow, Nat.zero_add] at this
    omega
/-- The least of the others so far. -/
def nearF (k : Nat) (b : Stop) : Nat → List Stop → Int → Int
  | _, [], v => v
  | i, a :: l, v => nearF k b (i + 1) l (if i = k then v else min v (far a b))
def Inst.nearK (x : Inst) (k : Nat) (b : Stop) : Int := (nearF k b 0 x.stops inf).tmod inf
def nears (x : Inst) : Nat → List Stop → List Int
  | _, [] => []
  | k, b :: l => x.nearK k b :: nears x (k + 1) l
def Inst.near (x : Inst) : List Int := if x.may then nears x 0 x.stops else []
theorem nears_len (x : Inst) : ∀ k l, (nears x k l).length = l.length
  | _, [] => rfl
  | k, b :: l => by rw [nears, List.length_cons, nears_len x (k + 1) l, List.length_cons]
theorem nears_get (x : Inst) : ∀ (k : Nat) (l : List Stop) (i : Nat) (h : i < l.length), (nears x k l)[i]'(by rw [nears_len]; exact h) = x.nearK (k + i) l[i]
  | k, b :: l, 0, h => rfl
  | k, b :: l, i + 1, h => by
    have := nears_get x (k + 1) l i (by simpa using h)
    simp only [nears, List.getElem_cons_succ]
    rw [this, show k + 1 + i = k + (i + 1) by omega]
theorem nears_snoc (x : Inst) {k : Nat} (h : k < x.stops.length) : (nears x 0 x.stops).take (k + 1) = (nears x 0 x.stops).take k ++ [x.nearK k x.stops[k]] := by
  rw [List.take_succ_eq_append_getElem (by rw [nears_len]; exact h), nears_get x 0 x.stops k h, Nat.zero_add]
theorem nearF_in (k : Nat) (b : Stop) : ∀ (i : Nat) (l : List Stop) (v : Int), 0 ≤ v ∧ v ≤ inf → 0 ≤ nearF k b i l v ∧ nearF k b i l v ≤ inf
  | _, [], v, h => h
  | i, a :: l, v, h => by
    rw [nearF]
    refine nearF_in k b (i + 1) l _ ?_
    have := far_in a b
    split
    · exact h
    · omega
theorem nearF_drop {k : Nat} {b : Stop} {l : List Stop} {i : Nat} {v : Int} (h : i < l.length) : nearF k b i (l.drop i) v = nearF k b (i + 1) (l.drop (i + 1)) (if i = k then v else min v (far l[i] b)) := by rw [List.drop_eq_getElem_cons h]; rfl
theorem rows_get (x : Inst) {i : Nat} (h : i < x.rows.length) : x.rows[i] = rowT (x.row (x.stops[i]'(by rw [x.rows_len] at h; exact h))) := by simp [Inst.rows]
theorem row_get (x : Inst) (a : Stop) {i : Nat} (h : i < (x.row a).length) : (x.row a)[i] = far a (x.stops[i]'(by rw [x.row_len] at h; exact h)) := by simp [Inst.row]
theorem ints_get (l : List Int) {i : Nat} (h : i < (ints l).length) : (ints l)[i] = [.i (l[i]'(by simpa [ints] using h))] := by simp [ints]
theorem ints_len (l : List Int) : (ints l).length = l.length := List.length_map _
theorem near_pure (x : Inst) (hl : x.stops.length < 2 ^ 31) : Pure P 86 [x.a] (.t (.sl (ints x.near))) := by
  have hinf : inf = 1152921504606846976 := rfl
  refine pure_of Try.func86 rfl rfl (by simp [Try.f86]) (by simp [bnd, bnd.bndL, Inst.a]) (by simp [bnd]) fun B hB hnx => ?_
  simp only [Try.f86] at hB ⊢
  have hm : mostLen = 4294967296 := rfl
  refine K_run hB 60 ?_
  simp [go_sem, Inst.a]
  refine K_call rfl rfl rfl (args := [x.a]) (f := 115) (by simp [go_sem, Inst.a]) (by simp [go_sem, hB]) ((matrix_pure x hl).spec _ _) ?_
  rw [x.mat_rows]
  by_cases h0 : x.may = true
  rotate_left
  · have h0' : x.may = false := by simpa using h0
    simp only [h0', Bool.false_eq_true, if_false]
    refine K_run hB 60 ?_
    simp [go_sem]
    refine K_own 4 1 (by simp [go_sem]) ?_
    refine K_loopP (α := Unit) (fun _ => True) (fun _ => ⟨sl [(4, .ref 1), (11, .i 0), (12, .i 0)], ob [(1, .arr 1 [])], 2⟩) (fun _ => 0) () trivial (Sub.of (by omega) (by simp) (by simp [go_sem]) (by simp [go_sem])) ?_
    rintro ⟨⟩ _
    refine K_run hB 60 ?_
    simp [go_sem, Inst.near, h0', ints]
  simp only [h0, if_true]
  have hrl := x.rows_len
  refine K_run hB 60 ?_
  simp [go_sem, hrl]
  refine K_own 4 1 (by simp [go_sem]) ?_
  refine K_loopP (α := Nat × Nat × (Nat → AObj) × Nat) (fun (k, j, σ, nx) => k ≤ x.stops.length ∧ σ j = .arr 1 (ints ((nears x 0 x.stops).take k)) ∧ j < nx)
    (fun (k, j, σ, nx) => ⟨sl [(3, .t (.sl x.rows)), (4, .ref j), (11, .i x.stops.length), (12, .i k)], σ, nx⟩) (fun y => x.stops.length - y.1) (0, 1, _, 2)
    ?_ (Imp.slots (by simp [go_sem]) rfl rfl) ?_
  · exact ⟨Nat.zero_le _, by simp [oput, ints], by omega⟩
  rintro ⟨k, j, σ, nx⟩ ⟨g1, cj, gn⟩
  refine K_run hB 60 ?_
  simp [go_sem]
  refine fork_dec (fun h => ?_) (fun h => ?_)
  rotate_left
  · have : k = x.stops.length := by omega
    subst this
    rw [← nears_len x 0 x.stops, List.take_length] at cj
    simp [go_sem, cj, Inst.near, h0]
  have htk := nears_snoc x h
  have hlen : (ints ((nears x 0 x.stops).take k)).length = k := by rw [ints_len, List.length_take, nears_len]; omega
  have hkk : IntKind.i64.wrap ((k : Int) + 1) = ((k + 1 : Nat) : Int) := by rw [w64 ((k : Int) + 1) (by omega)]; rfl
  generalize (nears x 0 x.stops).take k = R at cj hlen htk
  generalize hb : x.stops[k] = b at *
  simp [go_sem, hrl]
  refine K_loopP (α := Nat × Int) (fun (i, v) => i ≤ x.stops.length ∧ (0 ≤ v ∧ v ≤ inf) ∧ (nearF k b i (x.stops.drop i) v).tmod inf = x.nearK k b)
    (fun (i, v) => ⟨sl [(3, .t (.sl x.rows)), (4, .ref j), (11, .i x.stops.length), (12, .i k), (5, .i k), (6, .i v), (16, .i x.stops.length), (17, .i i)], σ, nx⟩) (fun y => x.stops.length - y.1) (0, inf)
    ⟨Nat.zero_le _, by omega, rfl⟩ (Imp.slots (by simp [go_sem, hinf]) rfl rfl) ?_
  rintro ⟨i, v⟩ ⟨i1, i2, i3⟩
  refine K_run hB 60 ?_
  simp [go_sem]
  refine fork_dec (fun hi => ?_) (fun hi => ?_)
  · have hii : IntKind.i64.wrap ((i : Int) + 1) = ((i + 1 : Nat) : Int) := by rw [w64 ((i : Int) + 1) (by omega)]; rfl
    have hfa := far_in x.stops[i] b
    have hrow := x.row_len x.stops[i]
    rw [nearF_drop hi] at i3
    by_cases hik : i = k
    · rw [if_pos hik] at i3
      simp [go_sem, hik, w64 ((k : Int) + 1) (by omega)]
      exact Next.mk (k + 1, v) ⟨by simp only; omega, i2, by rw [hik] at i3; exact i3⟩ (Imp.slots (by simp [go_sem]) rfl rfl) (by simp only; omega)
    · rw [if_neg hik] at i3
      simp [go_sem, hik, hi, h, hrl, rows_get, rowT, ints_get, ints_len, hrow, row_get, hb, hii]
      exact Next.mk (i + 1, min v (far x.stops[i] b)) ⟨by simp only; omega, by omega, i3⟩ (Imp.slots (by simp [go_sem]) rfl rfl) (by simp only; omega)
  · have : i = x.stops.length := by omega
    subst this
    rw [List.drop_length] at i3
    have i4 : v.tmod inf = x.nearK k b := i3
    have hcap : k + 1 ≤ mostLen := by omega
    rw [hinf] at i4
    have hw : IntKind.i64.wrap (x.nearK k b) = x.nearK k b := by
      refine w64 _ ?_
      rw [← i4, Int.tmod_eq_emod_of_nonneg i2.1]
      omega
    simp [go_sem, i4, hw, cj, hlen, hcap, hkk]
    refine Next.mk (k + 1, nx, _, nx + 1) ?_ (Imp.slots (by simp [go_sem]) rfl rfl) (by simp only; omega)
    exact ⟨by simp only; omega, by simp [oput, htk, ints_snoc], by simp only; omega⟩
end Go.Proofs.Ytlhmchdfmjfmgaa

/- How far it is to each from the nearest other one: the document's. -/
set_option maxRecDepth 4000
namespace Go.Proofs.Ytlhmchdfmjfmgaa
open Go Go.Proofs.Ytlhmchdfmjfmgaa.R
theorem rnear_pure (x : Inst) (hl : x.stops.length < 2 ^ 31) : Pure P 113 [x.a] (.t (.sl (ints x.near))) := by
  have hinf : inf = 1152921504606846976 := rfl
  refine pure_of Try.func113 rfl rfl (by simp [Try.f113]) (by simp [bnd, bnd.bndL, Inst.a]) (by simp [bnd]) fun B hB hnx => ?_
  simp only [Try.f113] at hB ⊢
  have hm : mostLen = 4294967296 := rfl
  refine K_run hB 60 ?_
  simp [go_sem, Inst.a]
  refine K_call rfl rfl rfl (args := [x.a]) (f := 144) (by simp [go_sem, Inst.a]) (by simp [go_sem, hB]) ((rmatrix_pure x hl).spec _ _) ?_
  rw [x.mat_rows]
  by_cases h0 : x.may = true
  rotate_left
  · have h0' : x.may = false := by simpa using h0
    simp only [h0', Bool.false_eq_true, if_false]
    refine K_run hB 60 ?_
    simp [go_sem]
    refine K_own 4 1 (by simp [go_sem]) ?_
    refine K_loopP (α := Unit) (fun _ => True) (fun _ => ⟨sl [(3, .t (.sl [])), (4, .ref 1), (5, .i 0)], ob [(1, .arr 1 [])], 2⟩) (fun _ => 0) () trivial (Sub.of (by omega) (by simp) (by simp [go_sem]) (by simp [go_sem])) ?_
    rintro ⟨⟩ _
    refine K_run hB 60 ?_
    simp [go_sem, Inst.near, h0', ints]
  simp only [h0, if_true]
  have hrl := x.rows_len
  refine K_run hB 60 ?_
  simp [go_sem]
  refine K_own 4 1 (by simp [go_sem]) ?_
  refine K_loopP (α := Nat × Nat × (Nat → AObj) × Nat) (fun (k, j, σ, nx) => k ≤ x.stops.length ∧ σ j = .arr 1 (ints ((nears x 0 x.stops).take k)) ∧ j < nx)
    (fun (k, j, σ, nx) => ⟨sl [(3, .t (.sl x.rows)), (4, .ref j), (5, .i k)], σ, nx⟩) (fun y => x.stops.length - y.1) (0, 1, _, 2)
    ?_ (Imp.slots (by simp [go_sem]) rfl rfl) ?_
  · exact ⟨Nat.zero_le _, by simp [oput, ints], by omega⟩
  rintro ⟨k, j, σ, nx⟩ ⟨g1, cj, gn⟩
  refine K_run hB 60 ?_
  simp [go_sem, hrl]
  refine fork_dec (fun h => ?_) (fun h => ?_)
  rotate_left
  · have : k = x.stops.length := by omega
    subst this
    rw [← nears_len x 0 x.stops, List.take_length] at cj
    simp [go_sem, cj, Inst.near, h0]
  have htk := nears_snoc x h
  have hlen : (ints ((nears x 0 x.stops).take k)).length = k := by rw [ints_len, List.length_take, nears_len]; omega
  have hkk : IntKind.i64.wrap ((k : Int) + 1) = ((k + 1 : Nat) : Int) := by rw [w64 ((k : Int) + 1) (by omega)]; rfl
  generalize (nears x 0 x.stops).take k = R at cj hlen htk
  generalize hb : x.stops[k] = b at *
  simp [go_sem]
  refine K_loopP (α := Nat × Int) (fun (i, v) => i ≤ x.stops.length ∧ (0 ≤ v ∧ v ≤ inf) ∧ (nearF k b i (x.stops.drop i) v).tmod inf = x.nearK k b ∧ (v = inf ↔ (i = 0 ∨ (k = 0 ∧ i = 1))))
    (fun (i, v) => ⟨sl [(3, .t (.sl x.rows)), (4, .ref j), (5, .i k), (6, .i (v.tmod inf)), (7, .i i)], σ, nx⟩) (fun y => x.stops.length - y.1) (0, inf)
    ⟨Nat.zero_le _, by omega, rfl, by simp⟩ (Imp.slots (by simp [go_sem, hinf]) rfl rfl) ?_
  rintro ⟨i, v⟩ ⟨i1, i2, i3, i4⟩
  refine K_run hB 150 ?_
  simp [go_sem, hrl]
  refine fork_dec (fun hi => ?_) (fun hi => ?_)
  · have hii : IntKind.i64.wrap ((i : Int) + 1) = ((i + 1 : Nat) : Int) := by rw [w64 ((i : Int) + 1) (by omega)]; rfl
    have hfa := far_in x.stops[i] b
    have hrow := x.row_len x.stops[i]
    rw [nearF_drop hi] at i3
    by_cases hik : i = k
    · rw [if_pos hik] at i3
      simp [go_sem, hik, w64 ((k : Int) + 1) (by omega)]
      exact Next.mk (k + 1, v) ⟨by simp only; omega, i2, by rw [hik] at i3; exact i3, by simp only at i4 ⊢; omega⟩ (Imp.slots (by simp [go_sem]) rfl rfl) (by simp only; omega)
    · rw [if_neg hik] at i3
      by_cases hfirst : i = 0 ∨ (k = 0 ∧ i = 1)
      · have hv : v = inf := i4.2 hfirst
        have hmin : min v (far x.stops[i] b) = far x.stops[i] b := by omega
        have hmod : (far x.stops[i] b).tmod inf = far x.stops[i] b := Int.tmod_eq_of_lt hfa.1 hfa.2
        rw [hmin] at i3
        rcases hfirst with h1 | ⟨h1, h2⟩
        · have hk0 : ¬ 0 = k := by omega
          subst h1
          have hk1 : ¬ (0 : Int) = k := by omega
          simp [go_sem, hk0, hk1, hi, h, hrl, rows_get, rowT, ints_get, ints_len, hrow, row_get, hb, w64 1 (by omega)]
          exact Next.mk (1, far x.stops[0] b) ⟨by simp only; omega, by omega, i3, by simp only; omega⟩ (Imp.slots (by simp [go_sem, hmod]) rfl rfl) (by simp only; omega)
        · subst h1 h2
          have hi1 : (1 : Int) < x.stops.length := by omega
          simp [go_sem, hi, hi1, h, hrl, rows_get, rowT, ints_get, ints_len, hrow, row_get, hb, w64 2 (by omega)]
          exact Next.mk (2, far x.stops[1] b) ⟨by simp only; omega, by omega, i3, by simp only; omega⟩ (Imp.slots (by simp [go_sem, hmod]) rfl rfl) (by simp only; omega)
      · have hv : ¬ v = inf := fun e => hfirst (i4.1 e)
        have hvm : v.tmod inf = v := Int.tmod_eq_of_lt i2.1 (by omega)
        have hi0 : ¬ i = 0 := fun e => hfirst (.inl e)
        rw [hvm]
        by_cases hless : far x.stops[i] b < v
        · have hmin : min v (far x.stops[i] b) = far x.stops[i] b := by omega
          have hmod : (far x.stops[i] b).tmod inf = far x.stops[i] b := Int.tmod_eq_of_lt hfa.1 hfa.2
          rw [hmin] at i3
          by_cases hk0 : k = 0
          · have hi1 : ¬ i = 1 := fun e => hfirst (.inr ⟨hk0, e⟩)
            subst hk0
            have j0 : ¬ (i : Int) = 0 := by omega
            have j1 : ¬ (i : Int) = 1 := by omega
            simp [go_sem, hik, hi0, hi1, j0, j1, hi, h, hrl, rows_get, rowT, ints_get, ints_len, hrow, row_get, hb, hii, hless]
            exact Next.mk (i + 1, far x.stops[i] b) ⟨by simp only; omega, by omega, i3, by simp only; omega⟩ (Imp.slots (by simp [go_sem, hmod]) rfl rfl) (by simp only; omega)
          · have j0 : ¬ (i : Int) = 0 := by omega
            have j1 : ¬ (k : Int) = 0 := by omega
            have j2 : ¬ (i : Int) = k := by omega
            simp [go_sem, hik, hi0, hk0, j0, j1, j2, hi, h, hrl, rows_get, rowT, ints_get, ints_len, hrow, row_get, hb, hii, hless]
            exact Next.mk (i + 1, far x.stops[i] b) ⟨by simp only; omega, by omega, i3, by simp only; omega⟩ (Imp.slots (by simp [go_sem, hmod]) rfl rfl) (by simp only; omega)
        · have hmin : min v (far x.stops[i] b) = v := by omega
          rw [hmin] at i3
          by_cases hk0 : k = 0
          · have hi1 : ¬ i = 1 := fun e => hfirst (.inr ⟨hk0, e⟩)
            subst hk0
            have j0 : ¬ (i : Int) = 0 := by omega
            have j1 : ¬ (i : Int) = 1 := by omega
            simp [go_sem, hik, hi0, hi1, j0, j1, hi, h, hrl, rows_get, rowT, ints_get, ints_len, hrow, row_get, hb, hii, hless]
            exact Next.mk (i + 1, v) ⟨by simp only; omega, i2, i3, by simp only; omega⟩ (Imp.slots (by simp [go_sem, hvm]) rfl rfl) (by simp only; omega)
          · have j0 : ¬ (i : Int) = 0 := by omega
            have j1 : ¬ (k : Int) = 0 := by omega
            have j2 : ¬ (i : Int) = k := by omega
            simp [go_sem, hik, hi0, hk0, j0, j1, j2, hi, h, hrl, rows_get, rowT, ints_get, ints_len, hrow, row_get, hb, hii, hless]
            exact Next.mk (i + 1, v) ⟨by simp only; omega, i2, i3, by simp only; omega⟩ (Imp.slots (by simp [go_sem, hvm]) rfl rfl) (by simp only; omega)
  · have : i = x.stops.length := by omega
    subst this
    rw [List.drop_length] at i3
    have i5 : v.tmod inf = x.nearK k b := i3
    have hcap : k + 1 ≤ mostLen := by omega
    simp [go_sem, i5, cj, hlen, hcap, hkk]
    refine Next.mk (k + 1, nx, _, nx + 1) ?_ (Imp.slots (by simp [go_sem]) rfl rfl) (by simp only; omega)
    exact ⟨by simp only; omega, by simp [oput, htk, ints_snoc], by simp only; omega⟩
end Go.Proofs.Ytlhmchdfmjfmgaa

/- What it costs at least to go on: the program's, over its iterator; the document's. -/
set_option maxRecDepth 4000
namespace Go.Proofs.Ytlhmchdfmjfmgaa
open Go Go.Proofs.Ytlhmchdfmjfmgaa.R
/-- The sum of what lies near those that were not seen. -/
def leftSum (may : Nat) : Nat → List Int → Int → Int
  | _, [], n => n
  | j, d :: l, n => leftSum may (j + 1) l (if 0 < j ∧ hasB may j = false then IntKind.i64.wrap (n + d) else n)
theorem left_pure (near : List Int) (may : Nat) (σ : Nat → AObj) (nx : Nat) : CallQ P 87 [.t (.sl (ints near)), .u may] σ nx fun r σ' nx' => r = .fn (.func 116) [] [.ptr nx 0, .ptr (nx + 1) 0] ∧ nx' = nx + 2 ∧
    σ' = oput (oput σ nx (.box [.t (.sl (ints near))])) (nx + 1) (.box [.u may]) := by
  refine spec_of Try.func87 rfl rfl (by simp [Try.f87]) fun B hB hnx hσ => ?_
  simp only [Try.f87] at hB ⊢
  refine K_run hB 100 ?_
  simp [go_sem]
  omega
theorem left1_spec (near : List Int) (may : Nat) (hm : may < 2 ^ 64) (hl : near.length < 2 ^ 63) (q b1 b2 nx : Nat) (st : Int → Nat → AObj) (h1 : ∀ n, st n b1 = .box [.t (.sl (ints near))]) (h2 : ∀ n, st n b2 = .box [.u may])
    (hy : ∀ (j d n : Int), YieldQ P q [.i j, .i d] (st n) nx fun σ' nx' => σ' = st (IntKind.i64.wrap (n + d)) ∧ nx' = nx) (n0 : Int) :
    CallQ P 116 [.yld q, .ptr b1 0, .ptr b2 0] (st n0) nx fun r σ' nx' => σ' = st (leftSum may 0 near n0) ∧ nx' = nx := by
  refine spec_of Try.func116 rfl rfl (by simp [Try.f116]) fun B hB hnx hσ => ?_
  simp only [Try.f116] at hB ⊢
  have hil : (ints near).length = near.length := List.length_map _
  refine K_run hB 100 ?_
  simp [go_sem, h1, hil]
  refine K_loopP (α := Nat × Int) (fun (k, n) => k ≤ near.length ∧ leftSum may k (near.drop k) n = leftSum may 0 near n0) (fun (k, n) => ⟨sl [(0, .yld q), (1, .ptr b1 0), (2, .ptr b2 0), (6, .t (.sl (ints near))), (7, .i near.length), (8, .i k)], st n, nx⟩) (fun a => near.length - a.1) (0, n0) ⟨Nat.zero_le _, rfl⟩ (Imp.slots (by simp [go_sem]) rfl rfl) ?_
  rintro ⟨k, n⟩ ⟨g1, g2⟩
  refine K_run hB 60 ?_
  simp [go_sem]
  refine fork_dec (fun hk => ?_) (fun hk => ?_)
  · have hkk : IntKind.i64.wrap ((k : Int) + 1) = ((k + 1 : Nat) : Int) := by rw [w64 ((k : Int) + 1) (by omega)]; rfl
    rw [List.drop_eq_getElem_cons hk, leftSum] at g2
    have hget := ints_getS near hk
    generalize near[k] = d at *
    by_cases c1 : 0 < k
    · simp [go_sem, hil, hk, hget, c1, h2]
      refine K_call rfl rfl rfl (args := [.u may, .i k]) (f := 117) (by simp [go_sem]) (by simp [go_sem, hB]) ((has_pure may k hm).spec _ _) ?_
      cases c2 : hasB may k with
      | true =>
        rw [if_neg (by simp [c2])] at g2
        refine K_run hB 100 ?_
        simp [go_sem, hkk]
        exact Next.mk (k + 1, n) ⟨by simp only; omega, g2⟩ (Imp.slots (by simp [go_sem]) rfl rfl) (by simp only; omega)
      | false =>
        rw [if_pos ⟨c1, c2⟩] at g2
        refine K_run hB 100 ?_
        simp [go_sem]
        refine K_yield rfl rfl rfl (q := q) (args := [.i k, .i d]) (by simp [go_sem]) (by simp [go_sem]) (by simp [go_sem, hB]) (hy k d n) ?_
        rintro σ' nx' ⟨rfl, rfl⟩
        refine K_run hB 100 ?_
        simp [go_sem, hkk]
        exact Next.mk (k + 1, IntKind.i64.wrap (n + d)) ⟨by simp only; omega, g2⟩ (Imp.slots (by simp [go_sem]) rfl rfl) (by simp only; omega)
    · rw [if_neg (by simp [c1])] at g2
      simp [go_sem, hil, hk, hget, c1, h2, hkk]
      exact Next.mk (k + 1, n) ⟨by simp only; omega, g2⟩ (Imp.slots (by simp [go_sem]) rfl rfl) (by simp only; omega)
  · have : k = near.length := by omega
    subst this
    rw [List.drop_length, leftSum] at g2
    simp [go_sem, g2, hnx]
end Go.Proofs.Ytlhmchdfmjfmgaa

/- The bounds of states, and of nodes. -/
set_option maxRecDepth 4000
namespace Go.Proofs.Ytlhmchdfmjfmgaa
open Go Go.Proofs.Ytlhmchdfmjfmgaa.R
def atLeast (near : List Int) (may : Nat) : Int := match near with
  | a :: b :: l => leftSum may 0 (a :: b :: l) a
  | _ => 0
def Inst.low (x : Inst) (s : State) : Int := atLeast x.near s.can
theorem near_len (x : Inst) : x.near.length ≤ x.stops.length := by
  unfold Inst.near
  split
  · rw [nears_len]; exact Nat.le_refl _
  · exact Nat.zero_le _
theorem at_pure (x : Inst) (s : State) (hl : x.stops.length < 2 ^ 31) (ho : s.ok) : Pure P 51 [x.a, s.a] (.i (x.low s)) := by
  generalize hR : x.low s = R
  refine pure_ofR Try.func51 rfl rfl (by simp [Try.f51]) (by simp [bnd, bnd.bndL, Inst.a, State.a, State.cs]) (by simp [bnd, bnd.bndL]) fun B hB hnx hro => ?_
  simp only [Try.f51] at hB ⊢
  rw [Inst.low] at hR
  have hnl := near_len x
  have hne := near_pure x hl
  generalize x.near = near at *
  refine K_run hB 100 ?_
  simp [go_sem, Inst.a, State.a, State.cs]
  refine K_call rfl rfl rfl (args := [x.a]) (f := 86) (by simp [go_sem, Inst.a]) (by simp [go_sem, hB]) ((hne).spec _ _) ?_
  match near, hR, hnl with
  | [], hR, _ =>
    simp only [atLeast] at hR
    subst hR
    refine K_run hB 100 ?_
    simp [go_sem, ints]
  | [_], hR, _ =>
    simp only [atLeast] at hR
    subst hR
    refine K_run hB 100 ?_
    simp [go_sem, ints]
  | d0 :: d1 :: l, hR, hnl =>
    simp only [atLeast] at hR
    have hil : (ints (d0 :: d1 :: l)).length = l.length + 2 := by simp [ints]
    have hgt : ¬ (l.length : Int) + 2 < 2 := by omega
    have hgt' : ¬ ((l.length + 2 : Nat) : Int) < 2 := by omega
    have hget : ∀ h : 0 < (ints (d0 :: d1 :: l)).length, (ints (d0 :: d1 :: l))[0]'h = [.i d0] := fun h => by simp [ints]
    have hll : l.length + 2 < 2 ^ 63 := by simp only [List.length_cons] at hnl; omega
    have hle := left_pure (d0 :: d1 :: l) s.can
    have hl1 := left1_spec (d0 :: d1 :: l) s.can ho.can (by simpa using hll) 5 3 4 6
    have hpos : (0 : Int) < l.length + 2 := by omega
    generalize hX : ints (d0 :: d1 :: l) = X at *
    generalize hN : leftSum s.can 0 (d0 :: d1 :: l) = N at *
    refine K_run hB 100 ?_
    simp [go_sem, hil, hgt, hgt', hget, hpos]
    refine K_callQ rfl rfl rfl (args := [.t (.sl X), .u s.can]) (f := 87) (by simp [go_sem]) (by simp [go_sem, hB]) (hle _ _) ?_
    rintro r σ' nx' ⟨rfl, rfl, rfl⟩
    refine K_run hB 100 ?_
    simp [go_sem]
    refine K_less (Sub.of (l := [(6, .ptr 2 0), (20, .fn (.func 116) [] [.ptr 3 0, .ptr 4 0])]) (o := [(2, .box [.i d0]), (3, .box [.t (.sl X)]), (4, .box [.u s.can])]) (n := 5) (by omega) (by simp) (by simp [go_sem]) (by simp [go_sem])) ?_
    refine K_range hro (f := 116) (args := [.yld 5, .ptr 3 0, .ptr 4 0]) (by simp [go_sem]) fun L hL => ?_
    obtain ⟨st, hst⟩ : ∃ st : Int → Nat → AObj, st = fun n => oput (oput (ob [(3, .box [.t (.sl X)]), (4, .box [.u s.can])]) 5 L) 2 (.box [.i n]) := ⟨_, rfl⟩
    have e' : oput (ob [(2, .box [.i d0]), (3, .box [.t (.sl X)]), (4, .box [.u s.can])]) 5 L = st d0 := funext fun i => by
      by_cases e2 : i = 2
      · subst e2; simp [hst, oput, ob]
      · simp [hst, oput, ob, e2]
    have s2 : ∀ n, st n 2 = .box [.i n] := fun n => by simp [hst, oput]
    have s5 : ∀ n, st n 5 = L := fun n => by simp [hst, oput]
    have su : ∀ n m L', oput (oput (oput (st n) 5 L') 2 (.box [.i m])) 5 L = st m := fun n m L' => funext fun i => by
      by_cases e2 : i = 2
      · subst e2; simp [hst, oput]
      · by_cases e5 : i = 5
        · subst e5; simp [hst, oput]
        · simp [hst, oput, e2, e5]
    have hsp := hl1 st (fun n => by simp [hst, oput, ob]) (fun n => by simp [hst, oput, ob]) (fun j d n => by
      refine yield_of ((s5 n).trans hL) rfl (by rw [hB]; rfl) fun B' hB' hnx' _ => ?_
      replace hB' := hB'.trans hB
      refine K_run hB' 60 ?_
      simp [go_sem, roundM, putL, (s5 n).trans hL]
      refine K_run hB' 60 ?_
      simp [go_sem, roundM, putL, hB, oput, s2, ← hL]
      rw [hB] at hL
      subst hL
      exact su _ _ _) d0
    refine ⟨_, by rw [e']; exact hsp, ?_⟩
    rintro r σ' nx' ⟨rfl, rfl⟩
    refine ⟨s5 _, ?_⟩
    refine K_run hB 100 ?_
    simp [go_sem, oput, s2, hR]
end Go.Proofs.Ytlhmchdfmjfmgaa

/- The document's states. -/
set_option maxRecDepth 4000
namespace Go.Proofs.Ytlhmchdfmjfmgaa
open Go Go.Proofs.Ytlhmchdfmjfmgaa.R
theorem rmay10_pure (x : Inst) (s : State) (hl : x.stops.length < 2 ^ 63) : Pure P 120 [x.a, s.a] (.b (x.may && s.mayB x)) := by
  generalize hR : s.mayB x = R
  refine pure_of Try.func120 rfl rfl (by simp [Try.f120]) (by simp [bnd, bnd.bndL, Inst.a, State.a, State.cs]) (by simp [bnd, bnd.bndL]) fun B hB hnx => ?_
  simp only [Try.f120] at hB ⊢
  rw [State.mayB] at hR
  refine K_run hB 100 ?_
  simp [go_sem, Inst.a, State.a, State.cs]
  refine K_call rfl rfl rfl (args := [x.a]) (f := 118) (by simp [go_sem, Inst.a]) (by simp [go_sem, hB]) ((rmay_pure x hl).spec _ _) ?_
  cases hm : x.may with
  | false =>
    refine K_run hB 100 ?_
    simp [go_sem]
  | true =>
    obtain ⟨p, hx⟩ := x.fit hm
    have hf := hx.few
    have w1 := w64 (2 * x.pairs) (by rw [hx.pairs]; omega)
    refine K_run hB 100 ?_
    simp [go_sem]
    refine atVal_decT (fun h1 => ?_) (fun h1 => by simp [go_sem, h1, w1, ← hR])
    simp [go_sem, h1, w1]
    refine atVal_decT (fun h2 => ?_) (fun h2 => by simp [go_sem, h2, w1, ← hR])
    simp [go_sem, h2, w1]
    refine atVal_decT (fun h3 => ?_) (fun h3 => by simp [go_sem, h3, w1, ← hR])
    simp [go_sem, h3, w1]
    refine atVal_decT (fun h4 => ?_) (fun h4 => by simp [go_sem, h4, w1, ← hR])
    simp [go_sem, h4, w1]
    refine atVal_decT (fun h5 => ?_) (fun h5 => by simp [go_sem, h5, w1, ← hR])
    simp [go_sem, h5, w1]
    refine atVal_decT (fun h6 => ?_) (fun h6 => by simp [go_sem, h6, w1, ← hR])
    simp [go_sem, h6, w1]
    refine atVal_decT (fun h7 => ?_) (fun h7 => by simp [go_sem, h7, w1, ← hR])
    simp [go_sem, h7, w1]
    simp [← hR, h1, h2, h3, h4, h5, h6, h7]
theorem rhome_pure (x : Inst) (s : State) {p : Nat} (hx : x.Fit p) (hs : s.Fit x p) (ho : s.ok) : Pure P 123 [x.a, s.a, .i (far (x.stop s.spot) (x.stop 0))] (mv ((x.home s).1, (if (x.home s).2 = true then far (x.stop s.spot) (x.stop 0) else 0), (x.home s).2)) := by
  generalize hR : x.home s = R
  refine pure_of Try.func123 rfl rfl (by simp [Try.f123]) (by simp [bnd, bnd.bndL, Inst.a, State.a, State.cs]) (by simp [bnd, bnd.bndL, mv, State.a, State.cs]) fun B hB hnx => ?_
  simp only [Try.f123] at hB ⊢
  have g2 : (0 : Int) < x.stops.length := hx.lt (j := 0) (by omega)
  have g3 : 0 < x.stops.length := by omega
  have g4 := hx.get0
  have hf := hx.at (j := 0) (by omega) (by omega)
  have hfi := far_in' (x.stop s.spot) (x.stop 0)
  rw [Inst.home, Inst.stayB, Inst.homeS] at hR
  generalize far (x.stop s.spot) (x.stop 0) = d at *
  generalize x.stop 0 = a at *
  have w1 := w64 (s.time + d) (by have := hs.time; omega)
  have w2 := w64 (s.car + 1) (by have := hs.car; have := hx.cars; omega)
  refine K_run hB 100 ?_
  simp [go_sem, Inst.a, State.a, State.cs]
  refine K_call rfl rfl rfl (args := [x.a, .u s.must]) (f := 121) (by simp [go_sem, Inst.a]) (by simp [go_sem, hB]) ((rall_pure x s.must ho.must hx).spec _ _) ?_
  by_cases c1 : s.spot = 0
  · have : R = (s, false) := by rw [← hR, if_pos (by simp [c1])]
    subst this
    refine K_run hB 100 ?_
    simp [go_sem, c1]
    refine K_drawn [] rfl (by rw [hB]; kernel_rfl) ?_
    refine K_run hB 100 ?_
    simp [go_sem, c1, mv, State.a, State.cs]
  by_cases c2 : s.on = 0
  rotate_left
  · have : R = (s, false) := by rw [← hR, if_pos (by simp [c2])]
    subst this
    refine K_run hB 100 ?_
    simp [go_sem, c1, c2]
    refine K_drawn [] rfl (by rw [hB]; kernel_rfl) ?_
    refine K_run hB 100 ?_
    simp [go_sem, c1, c2, mv, State.a, State.cs]
  by_cases c3 : x.cars ≤ s.car
  · have : R = (s, false) := by rw [← hR, if_pos (by simp [c3])]
    subst this
    refine K_run hB 100 ?_
    simp [go_sem, c1, c2, c3]
    refine K_drawn [] rfl (by rw [hB]; kernel_rfl) ?_
    refine K_run hB 100 ?_
    simp [go_sem, c1, c2, c3, mv, State.a, State.cs]
  cases c4 : x.allB s.must with
  | true =>
    have : R = (s, false) := by rw [← hR, if_pos (by simp [c4])]
    subst this
    refine K_run hB 100 ?_
    simp [go_sem, c1, c2, c3]
    refine K_drawn [] rfl (by rw [hB]; kernel_rfl) ?_
    refine K_run hB 100 ?_
    simp [go_sem, c1, c2, c3, mv, State.a, State.cs]
  | false =>
    by_cases c5 : a.due < s.time + d
    · have : R = (s, false) := by rw [← hR, if_pos (by simp [c5])]
      subst this
      refine K_run hB 100 ?_
      simp [go_sem, c1, c2, c3]
      refine K_drawn [] rfl (by rw [hB]; kernel_rfl) ?_
      refine K_run hB 100 ?_
      simp [go_sem, c1, c2, c3, c5, w1, g2, g3, g4, Stop.t, mv, State.a, State.cs]
    · rw [if_neg (by simp [c1, c2, c3, c4, c5])] at hR
      refine K_run hB 100 ?_
      simp [go_sem, c1, c2, c3]
      refine K_drawn [] rfl (by rw [hB]; kernel_rfl) ?_
      refine K_run hB 100 ?_
      simp [go_sem, c1, c2, c3, c5, w1, w2, g2, g3, g4, Stop.t, ← hR, mv, State.a, State.cs]
def Inst.rvisit (x : Inst) (s : State) (j b : Int) : State :=
  { spot := j, car := s.car, time := b + (x.stop j).service, load := max (s.load + (x.stop j).demand) 0, first := if s.spot = 0 then j else s.first, must := withN s.must j, can := withN s.can j, on := if j ≤ x.pairs then withN s.on j else withoutN s.on (j - x.pairs) }
theorem rvisit_pure (x : Inst) (s : State) (j b : Int) {p : Nat} (hx : x.Fit p) (hs : s.Fit x p) (ho : s.ok) (h2 : 0 ≤ j) (h3 : j ≤ 2 * p) (hb : 0 ≤ b ∧ b ≤ 1048576) : Pure P 124 [x.a, s.a, .i j, .i b] ((x.rvisit s j b).a) := by
  generalize hR : x.rvisit s j b = R
  refine pure_of Try.func124 rfl rfl (by simp [Try.f124]) (by simp [bnd, bnd.bndL, Inst.a, State.a, State.cs]) (by simp [bnd, bnd.bndL, State.a, State.cs]) fun B hB hnx => ?_
  simp only [Try.f124] at hB ⊢
  have g2 := hx.lt h3
  have g4 := hx.get h3
  have hf := hx.at h2 h3
  have hp := hx.pairs
  have hfew := hx.few
  rw [Inst.rvisit] at hR
  generalize x.stop j = a at *
  have w1 := w64 (b + a.service) (by have := hf.service; omega)
  have w2 := w64 (s.load + a.demand) (by have := hf.demand; have := hs.load; omega)
  have w3 := w64 (j - x.pairs) (by omega)
  refine K_run hB 100 ?_
  simp [go_sem, Inst.a, State.a, State.cs, h2, g2, g4, Stop.t, w1]
  refine K_drawnT [10] rfl (by rw [hB]; kernel_rfl) (by kernel_rfl) fun ht => ?_
  have hmax : (if s.load + a.demand < 0 then 0 else s.load + a.demand) = max (s.load + a.demand) 0 := by omega
  by_cases c1 : s.load + a.demand < 0
  all_goals
    by_cases c2 : s.spot = 0
    all_goals
      refine K_run hB 100 ?_
      simp [go_sem, ht, h2, g2, g4, Stop.t, w2, c1, c2]
      refine K_call rfl rfl rfl (args := [.u s.must, .i j]) (f := 153) (by simp [go_sem]) (by simp [go_sem, hB]) ((rwith_pure s.must j ho.must).spec _ _) ?_
      refine K_run hB 100 ?_
      simp [go_sem]
      refine K_call rfl rfl rfl (args := [.u s.can, .i j]) (f := 153) (by simp [go_sem]) (by simp [go_sem, hB]) ((rwith_pure s.can j ho.can).spec _ _) ?_
      by_cases c3 : j ≤ x.pairs
      · refine K_run hB 100 ?_
        simp [go_sem, c3]
        refine K_call rfl rfl rfl (args := [.u s.on, .i j]) (f := 153) (by simp [go_sem]) (by simp [go_sem, hB]) ((rwith_pure s.on j ho.on).spec _ _) ?_
        rw [if_pos c3] at hR
        first | rw [if_pos c1] at hmax | rw [if_neg c1] at hmax
        refine K_run hB 100 ?_
        simp [go_sem, ← hR, c2, ← hmax]
      · refine K_run hB 100 ?_
        simp [go_sem, c3, w3]
        refine K_call rfl rfl rfl (args := [.u s.on, .i (j - x.pairs)]) (f := 154) (by simp [go_sem]) (by simp [go_sem, hB]) ((rwithout_pure s.on (j - x.pairs) ho.on).spec _ _) ?_
        rw [if_neg c3] at hR
        first | rw [if_pos c1] at hmax | rw [if_neg c1] at hmax
        refine K_run hB 100 ?_
        simp [go_sem, ← hR, c2, ← hmax]
end Go.Proofs.Ytlhmchdfmjfmgaa

/- The document's moves. -/
set_option maxRecDepth 4000
namespace Go.Proofs.Ytlhmchdfmjfmgaa
open Go Go.Proofs.Ytlhmchdfmjfmgaa.R
theorem move_none {x : Inst} {s : State} {j : Int} (h : ¬ (x.may = true ∧ s.mayB x = true ∧ 0 ≤ j ∧ j ≤ 2 * x.pairs)) : x.move s j = (s, 0, false) := by
  unfold Inst.move
  split
  · rename_i c
    unfold Inst.step
    rw [if_pos]
    have : ¬ (0 ≤ j ∧ j ≤ 2 * x.pairs) := fun e => h ⟨c.1, c.2, e.1, e.2⟩
    omega
  · rfl
theorem move_in {x : Inst} {s : State} {j : Int} (h1 : x.may = true) (h2 : s.mayB x = true) (h3 : 0 ≤ j) (h4 : j ≤ 2 * x.pairs) : x.move s j = if (x.to s j).2 = true then ((x.to s j).1, far (x.stop s.spot) (x.stop j), true) else (s, 0, false) := by
  unfold Inst.move Inst.step
  rw [if_pos ⟨h1, h2⟩, if_neg (by omega)]
theorem home_fst (x : Inst) (s : State) (h : (x.home s).2 = false) : (x.home s).1 = s := by
  unfold Inst.home at h ⊢
  split
  · rfl
  · rename_i c
    rw [if_neg c] at h
    cases h
theorem to_visit {x : Inst} {s : State} {j : Int} (h0 : j ≠ 0) (hl : x.lateB s j = false) (hf : j ≤ x.pairs → x.fullB s j = false) (he : x.pairs < j → x.emptyB s j = false) : x.to s j = (x.rvisit s j (x.begins s j), true) := by
  unfold Inst.to
  rw [if_neg h0]
  by_cases c : j ≤ x.pairs
  · rw [if_pos c]
    simp [Inst.take, hf c, Inst.visit, hl, Inst.seen, Inst.rvisit, c]
  · rw [if_neg c]
    simp [Inst.bring, he (by omega), Inst.visit, hl, Inst.seen, Inst.rvisit, c]
theorem to_not {x : Inst} {s : State} {j : Int} (h0 : j ≠ 0) (h : x.lateB s j = true ∨ (j ≤ x.pairs ∧ x.fullB s j = true) ∨ (x.pairs < j ∧ x.emptyB s j = true)) : (x.to s j).2 = false := by
  unfold Inst.to
  rw [if_neg h0]
  rcases h with h | ⟨h1, h2⟩ | ⟨h1, h2⟩
  · split
    · unfold Inst.take Inst.visit
      split
      · rfl
      · simp [h]
    · unfold Inst.bring Inst.visit
      split
      · rfl
      · simp [h]
  · rw [if_pos h1]
    simp [Inst.take, h2]
  · rw [if_neg (by omega)]
    simp [Inst.bring, h2]
theorem rmove_take (x : Inst) (s : State) (j : Int) (hl : x.stops.length < 2 ^ 63) (ho : s.ok) (hm : x.may = true) (hs : s.mayB x = true) (h2 : 0 ≤ j) (c2 : ¬ 2 * x.pairs < j) (c3 : j ≠ 0) (c6 : j ≤ x.pairs) : Pure P 90 [x.a, s.a, .i j] (mv (x.move s j)) := by
  generalize hR : x.move s j = R
  refine pure_of Try.func90 rfl rfl (by simp [Try.f90]) (by simp [bnd, bnd.bndL, Inst.a, State.a, State.cs]) (by simp [bnd, bnd.bndL, mv, State.a, State.cs]) fun B hB hnx => ?_
  simp only [Try.f90] at hB ⊢
  refine K_run hB 100 ?_
  simp [go_sem, Inst.a, State.a, State.cs]
  refine K_call rfl rfl rfl (args := [x.a, s.a]) (f := 120) (by simp [go_sem, Inst.a, State.a, State.cs]) (by simp [go_sem, hB]) ((rmay10_pure x s hl).spec _ _) ?_
  obtain ⟨p, hx⟩ := x.fit hm
  have hst := s.fit hx hs
  have hfew := hx.few
  have hp := hx.pairs
  have w1 := w64 (2 * x.pairs) (by omega)
  have c1 : ¬ j < 0 := by omega
  have h3 : j ≤ 2 * p := by omega
  have g1 := hx.lt hst.spot.2
  have g2 := hx.lt h3
  have g3 := hx.get hst.spot.2
  have g4 := hx.get h3
  have hsp := hst.spot.1
  rw [move_in hm hs h2 (by omega)] at hR
  refine K_run hB 100 ?_
  simp [go_sem, hm, hs, c1, c2, w1]
  refine K_drawn [] rfl (by rw [hB]; kernel_rfl) ?_
  have hfar := rfar_pure (x.stop s.spot) (x.stop j)
  have hfi := far_in' (x.stop s.spot) (x.stop j)
  refine K_run hB 100 ?_
  simp [go_sem, hsp, g1, h2, g2, g3, g4, Stop.t]
  refine K_dCallP rfl rfl rfl (args := [.agg ((x.stop s.spot).t.map .t), .agg ((x.stop j).t.map .t)]) (f := 122) (by simp [go_sem, Stop.t]) (hfar) ?_
  have hf := hx.at h2 h3
  have hlate : x.lateB s j = (hasB s.must j || decide (x.begins s j > (x.stop j).due)) := rfl
  have hbe : x.begins s j = max (s.time + far (x.stop s.spot) (x.stop j)) (x.stop j).ready := rfl
  have hfull : x.fullB s j = (decide (s.load + (x.stop j).demand > x.room) || (decide (s.spot = 0) && decide (j ≤ s.first))) := rfl
  have hempty : x.emptyB s j = (decide (s.spot = 0) || !hasB s.can (j - x.pairs)) := rfl
  have hto := to_visit (x := x) (s := s) (j := j) c3
  have htn := to_not (x := x) (s := s) (j := j) c3
  have hmax : (if s.time + far (x.stop s.spot) (x.stop j) < (x.stop j).ready then (x.stop j).ready else s.time + far (x.stop s.spot) (x.stop j)) = x.begins s j := by rw [hbe]; omega
  have hvis : x.begins s j ≤ (x.stop j).due → _ := fun h => rvisit_pure x s j (x.begins s j) hx hst ho h2 h3 (by have := hf.ready; have := hf.due; have := hst.time; omega)
  have w2 := w64 (s.time + far (x.stop s.spot) (x.stop j)) (by have := hst.time; omega)
  generalize x.begins s j = b at *
  generalize far (x.stop s.spot) (x.stop j) = d at *
  generalize x.lateB s j = late at *
  generalize x.fullB s j = full at *
  generalize x.emptyB s j = empty at *
  have hdem := hf.demand
  have hload := hst.load
  generalize x.stop j = a at *
  have w3 := w64 (s.load + a.demand) (by omega)
  have w4 := w64 (j - x.pairs) (by omega)
  have w5 := w64 b (by have := hf.ready; have := hst.time; omega)
  by_cases c4 : s.time + d < a.ready
  all_goals
    first | rw [if_pos c4] at hmax | rw [if_neg c4] at hmax
    rw [hmax] at c4
    refine K_run hB 100 ?_
    simp [go_sem, c3, c4, h2, g2, g4, Stop.t, w2, w5, hmax]
    refine K_call rfl rfl rfl (args := [.u s.must, .i j]) (f := 114) (by simp [go_sem]) (by simp [go_sem, hB]) ((rhas_pure s.must j ho.must).spec _ _) ?_
    cases hha : hasB s.must j with
    | true =>
      rw [if_neg (by rw [htn (.inl (by simp [hlate, hha]))]; simp)] at hR
      subst hR
      refine K_run hB 100 ?_
      simp [go_sem, mv, State.a, State.cs]
    | false =>
      rw [hha, Bool.false_or] at hlate
      by_cases c5 : a.due < b
      rotate_left
      · skip
        have hl0 : late = false := by rw [hlate]; exact decide_eq_false c5
        rw [hl0] at hto
        by_cases c7 : full = true
        · rw [if_neg (by rw [htn (.inr (.inl ⟨c6, c7⟩))]; simp)] at hR
          subst hR
          rw [c7, eq_comm, Bool.or_eq_true, Bool.and_eq_true, decide_eq_true_eq, decide_eq_true_eq, decide_eq_true_eq] at hfull
          refine K_run hB 100 ?_
          simp [go_sem, c5, c6, h2, g2, g4, Stop.t, w2, w5, hmax, w3]
          refine K_drawn [] rfl (by rw [hB]; kernel_rfl) ?_
          by_cases c8 : x.room < s.load + a.demand
          · refine K_run hB 100 ?_
            simp [go_sem, c5, c6, h2, g2, g4, Stop.t, w2, w5, hmax, w3, c8, mv, State.a, State.cs]
          · obtain ⟨c9, c10⟩ := hfull.resolve_left c8
            refine K_run hB 100 ?_
            simp [go_sem, c5, c6, h2, g2, g4, Stop.t, w2, w5, hmax, w3, c8, c9, c10, mv, State.a, State.cs]
        · have c7 : full = false := by simpa using c7
          have hv := hvis (by omega)
          rw [hto rfl (fun _ => c7) (by omega), if_pos rfl] at hR
          subst hR
          rw [c7, eq_comm, Bool.or_eq_false_iff, Bool.and_eq_false_iff, decide_eq_false_iff_not, decide_eq_false_iff_not, decide_eq_false_iff_not] at hfull
          obtain ⟨c8, c9⟩ := hfull
          have c10 : ¬ x.pairs < j := by omega
          refine K_run hB 100 ?_
          simp [go_sem, c5, c6, h2, g2, g4, Stop.t, w2, w5, hmax, w3]
          refine K_drawn [] rfl (by rw [hB]; kernel_rfl) ?_
          by_cases c9' : s.spot = 0
          all_goals
            first
            | have c11 := c9.resolve_left (fun h => h c9')
              refine K_run hB 100 ?_
              simp [go_sem, c6, h2, g2, g4, Stop.t, w2, w5, hmax, w3, c8, c9', c11, w4]
            | refine K_run hB 100 ?_
              simp [go_sem, c6, h2, g2, g4, Stop.t, w2, w5, hmax, w3, c8, c9', w4]
            refine K_call rfl rfl rfl (args := [.u s.can, .i (j - x.pairs)]) (f := 114) (by simp [go_sem]) (by simp [go_sem, hB]) ((rhas_pure s.can (j - x.pairs) ho.can).spec _ _) ?_
            refine K_run hB 100 ?_
            simp [go_sem, c10]
            refine K_call rfl rfl rfl (args := [x.a, s.a, .i j, .i b]) (f := 124) (by simp [go_sem, Inst.a, State.a, State.cs, c9']) (by simp [go_sem, hB]) ((hv).spec _ _) ?_
            refine K_run hB 100 ?_
            simp [go_sem, mv, State.a, State.cs]
      · rw [if_neg (by rw [htn (.inl (by rw [hlate]; exact decide_eq_true c5))]; simp)] at hR
        subst hR
        refine K_run hB 100 ?_
        simp [go_sem, c5, h2, g2, g4, Stop.t, hmax, w2, w5, mv, State.a, State.cs]
theorem rmove_bring (x : Inst) (s : State) (j : Int) (hl : x.stops.length < 2 ^ 63) (ho : s.ok) (hm : x.may = true) (hs : s.mayB x = true) (h2 : 0 ≤ j) (c2 : ¬ 2 * x.pairs < j) (c3 : j ≠ 0) (c6 : ¬ j ≤ x.pairs) : Pure P 90 [x.a, s.a, .i j] (mv (x.move s j)) := by
  generalize hR : x.move s j = R
  refine pure_of Try.func90 rfl rfl (by simp [Try.f90]) (by simp [bnd, bnd.bndL, Inst.a, State.a, State.cs]) (by simp [bnd, bnd.bndL, mv, State.a, State.cs]) fun B hB hnx => ?_
  simp only [Try.f90] at hB ⊢
  refine K_run hB 100 ?_
  simp [go_sem, Inst.a, State.a, State.cs]
  refine K_call rfl rfl rfl (args := [x.a, s.a]) (f := 120) (by simp [go_sem, Inst.a, State.a, State.cs]) (by simp [go_sem, hB]) ((rmay10_pure x s hl).spec _ _) ?_
  obtain ⟨p, hx⟩ := x.fit hm
  have hst := s.fit hx hs
  have hfew := hx.few
  have hp := hx.pairs
  have w1 := w64 (2 * x.pairs) (by omega)
  have c1 : ¬ j < 0 := by omega
  have h3 : j ≤ 2 * p := by omega
  have g1 := hx.lt hst.spot.2
  have g2 := hx.lt h3
  have g3 := hx.get hst.spot.2
  have g4 := hx.get h3
  have hsp := hst.spot.1
  rw [move_in hm hs h2 (by omega)] at hR
  refine K_run hB 100 ?_
  simp [go_sem, hm, hs, c1, c2, w1]
  refine K_drawn [] rfl (by rw [hB]; kernel_rfl) ?_
  have hfar := rfar_pure (x.stop s.spot) (x.stop j)
  have hfi := far_in' (x.stop s.spot) (x.stop j)
  refine K_run hB 100 ?_
  simp [go_sem, hsp, g1, h2, g2, g3, g4, Stop.t]
  refine K_dCallP rfl rfl rfl (args := [.agg ((x.stop s.spot).t.map .t), .agg ((x.stop j).t.map .t)]) (f := 122) (by simp [go_sem, Stop.t]) (hfar) ?_
  have hf := hx.at h2 h3
  have hlate : x.lateB s j = (hasB s.must j || decide (x.begins s j > (x.stop j).due)) := rfl
  have hbe : x.begins s j = max (s.time + far (x.stop s.spot) (x.stop j)) (x.stop j).ready := rfl
  have hfull : x.fullB s j = (decide (s.load + (x.stop j).demand > x.room) || (decide (s.spot = 0) && decide (j ≤ s.first))) := rfl
  have hempty : x.emptyB s j = (decide (s.spot = 0) || !hasB s.can (j - x.pairs)) := rfl
  have hto := to_visit (x := x) (s := s) (j := j) c3
  have htn := to_not (x := x) (s := s) (j := j) c3
  have hmax : (if s.time + far (x.stop s.spot) (x.stop j) < (x.stop j).ready then (x.stop j).ready else s.time + far (x.stop s.spot) (x.stop j)) = x.begins s j := by rw [hbe]; omega
  have hvis : x.begins s j ≤ (x.stop j).due → _ := fun h => rvisit_pure x s j (x.begins s j) hx hst ho h2 h3 (by have := hf.ready; have := hf.due; have := hst.time; omega)
  have w2 := w64 (s.time + far (x.stop s.spot) (x.stop j)) (by have := hst.time; omega)
  generalize x.begins s j = b at *
  generalize far (x.stop s.spot) (x.stop j) = d at *
  generalize x.lateB s j = late at *
  generalize x.fullB s j = full at *
  generalize x.emptyB s j = empty at *
  have hdem := hf.demand
  have hload := hst.load
  generalize x.stop j = a at *
  have w3 := w64 (s.load + a.demand) (by omega)
  have w4 := w64 (j - x.pairs) (by omega)
  have w5 := w64 b (by have := hf.ready; have := hst.time; omega)
  by_cases c4 : s.time + d < a.ready
  all_goals
    first | rw [if_pos c4] at hmax | rw [if_neg c4] at hmax
    rw [hmax] at c4
    refine K_run hB 100 ?_
    simp [go_sem, c3, c4, h2, g2, g4, Stop.t, w2, w5, hmax]
    refine K_call rfl rfl rfl (args := [.u s.must, .i j]) (f := 114) (by simp [go_sem]) (by simp [go_sem, hB]) ((rhas_pure s.must j ho.must).spec _ _) ?_
    cases hha : hasB s.must j with
    | true =>
      rw [if_neg (by rw [htn (.inl (by simp [hlate, hha]))]; simp)] at hR
      subst hR
      refine K_run hB 100 ?_
      simp [go_sem, mv, State.a, State.cs]
    | false =>
      rw [hha, Bool.false_or] at hlate
      by_cases c5 : a.due < b
      rotate_left
      · skip
        have hl0 : late = false := by rw [hlate]; exact decide_eq_false c5
        rw [hl0] at hto
        have c10 : x.pairs < j := by omega
        refine K_run hB 100 ?_
        simp [go_sem, c5, c6, h2, g2, g4, Stop.t, w2, w5, hmax, w3]
        refine K_drawn [] rfl (by rw [hB]; kernel_rfl) ?_
        refine K_run hB 100 ?_
        simp [go_sem, c6, h2, g2, g4, Stop.t, w2, w5, hmax, w3, w4]
        refine K_call rfl rfl rfl (args := [.u s.can, .i (j - x.pairs)]) (f := 114) (by simp [go_sem]) (by simp [go_sem, hB]) ((rhas_pure s.can (j - x.pairs) ho.can).spec _ _) ?_
        by_cases c7 : s.spot = 0
        · rw [if_neg (by rw [htn (.inr (.inr ⟨c10, by rw [hempty, c7]; rfl⟩))]; simp)] at hR
          subst hR
          refine K_run hB 100 ?_
          simp [go_sem, c10, c7, mv, State.a, State.cs]
        · cases c8 : hasB s.can (j - x.pairs) with
          | false =>
            rw [if_neg (by rw [htn (.inr (.inr ⟨c10, by rw [hempty, c8]; simp⟩))]; simp)] at hR
            subst hR
            refine K_run hB 100 ?_
            simp [go_sem, c10, c7, mv, State.a, State.cs]
          | true =>
            have hv := hvis (by omega)
            rw [hto rfl (fun h => absurd h c6) (fun _ => by rw [hempty, c8]; simp [c7]), if_pos rfl] at hR
            subst hR
            refine K_run hB 100 ?_
            simp [go_sem, c10, c7]
            refine K_call rfl rfl rfl (args := [x.a, s.a, .i j, .i b]) (f := 124) (by simp [go_sem, Inst.a, State.a, State.cs]) (by simp [go_sem, hB]) ((hv).spec _ _) ?_
            refine K_run hB 100 ?_
            simp [go_sem, mv, State.a, State.cs]
      · rw [if_neg (by rw [htn (.inl (by rw [hlate]; exact decide_eq_true c5))]; simp)] at hR
        subst hR
        refine K_run hB 100 ?_
        simp [go_sem, c5, h2, g2, g4, Stop.t, hmax, w2, w5, mv, State.a, State.cs]
theorem rmove_pure (x : Inst) (s : State) (j : Int) (hl : x.stops.length < 2 ^ 63) (ho : s.ok) : Pure P 90 [x.a, s.a, .i j] (mv (x.move s j)) := by
  by_cases q1 : x.may = true ∧ s.mayB x = true ∧ 0 ≤ j ∧ ¬ 2 * x.pairs < j ∧ j ≠ 0
  · obtain ⟨q1, q2, q3, q4, q5⟩ := q1
    by_cases q6 : j ≤ x.pairs
    · exact rmove_take x s j hl ho q1 q2 q3 q4 q5 q6
    · exact rmove_bring x s j hl ho q1 q2 q3 q4 q5 q6
  generalize hR : x.move s j = R
  refine pure_of Try.func90 rfl rfl (by simp [Try.f90]) (by simp [bnd, bnd.bndL, Inst.a, State.a, State.cs]) (by simp [bnd, bnd.bndL, mv, State.a, State.cs]) fun B hB hnx => ?_
  simp only [Try.f90] at hB ⊢
  refine K_run hB 100 ?_
  simp [go_sem, Inst.a, State.a, State.cs]
  refine K_call rfl rfl rfl (args := [x.a, s.a]) (f := 120) (by simp [go_sem, Inst.a, State.a, State.cs]) (by simp [go_sem, hB]) ((rmay10_pure x s hl).spec _ _) ?_
  cases hm : (x.may && s.mayB x) with
  | false =>
    have hn : x.move s j = (s, 0, false) := move_none fun h => by simp [h.1, h.2.1] at hm
    rw [hn] at hR
    subst hR
    refine K_run hB 100 ?_
    simp [go_sem, mv, State.a, State.cs]
  | true =>
    rw [Bool.and_eq_true] at hm
    obtain ⟨hm, hs⟩ := hm
    obtain ⟨p, hx⟩ := x.fit hm
    have hst := s.fit hx hs
    have hfew := hx.few
    have hp := hx.pairs
    have w1 := w64 (2 * x.pairs) (by omega)
    by_cases c1 : j < 0
    · rw [move_none (by omega)] at hR
      subst hR
      refine K_run hB 100 ?_
      simp [go_sem, c1, mv, State.a, State.cs]
    by_cases c2 : 2 * x.pairs < j
    · rw [move_none (by omega)] at hR
      subst hR
      refine K_run hB 100 ?_
      simp [go_sem, c1, c2, w1, mv, State.a, State.cs]
    obtain rfl : j = 0 := by
      rcases Decidable.em (j = 0) with e | e
      · exact e
      · exact absurd ⟨hm, hs, by omega, c2, e⟩ q1
    have h3 : (0 : Int) ≤ 2 * p := by omega
    have g1 := hx.lt hst.spot.2
    have g2 : (0 : Int) < x.stops.length := hx.lt h3
    have g3 := hx.get hst.spot.2
    have g4 := hx.get0
    have hsp := hst.spot.1
    have g5 : 0 < x.stops.length := by omega
    rw [move_in hm hs (by omega) (by omega)] at hR
    refine K_run hB 100 ?_
    simp [go_sem, c1, c2, w1]
    refine K_drawn [] rfl (by rw [hB]; kernel_rfl) ?_
    have hfar := rfar_pure (x.stop s.spot) (x.stop 0)
    refine K_run hB 100 ?_
    simp [go_sem, hsp, g1, g2, g3, g4, g5, Stop.t]
    refine K_dCallP rfl rfl rfl (args := [.agg ((x.stop s.spot).t.map .t), .agg ((x.stop 0).t.map .t)]) (f := 122) (by simp [go_sem, Stop.t]) (hfar) ?_
    have hh := rhome_pure x s hx hst ho
    have e : x.to s 0 = x.home s := by simp [Inst.to]
    have e2 := home_fst x s
    rw [e] at hR
    generalize x.home s = V at *
    obtain ⟨t, is⟩ := V
    generalize far (x.stop s.spot) (x.stop 0) = d at *
    refine K_run hB 100 ?_
    simp [go_sem]
    refine K_call rfl rfl rfl (args := [x.a, s.a, .i d]) (f := 123) (by simp [go_sem, Inst.a, State.a, State.cs]) (by simp [go_sem, hB]) ((hh).spec _ _) ?_
    cases is with
    | false =>
      have e3 : t = s := e2 rfl
      rw [if_neg (by simp)] at hR
      subst hR
      subst e3
      refine K_run hB 100 ?_
      simp [go_sem, mv, State.a, State.cs]
    | true =>
      rw [if_pos rfl] at hR
      subst hR
      refine K_run hB 100 ?_
      simp [go_sem, mv, State.a, State.cs]
end Go.Proofs.Ytlhmchdfmjfmgaa

/- All of the document's moves, the end, what follows; whether two rows are the same. -/
set_option maxRecDepth 4000
namespace Go.Proofs.Ytlhmchdfmjfmgaa
open Go Go.Proofs.Ytlhmchdfmjfmgaa.R
theorem rsame_pure (l m : List Int) (hl : l.length < 2 ^ 63) (hm : m.length < 2 ^ 63) : Pure P 45 [.t (.sl (ints l)), .t (.sl (ints m))] (.b (decide (l = m))) := by
  refine pure_of Try.func45 rfl rfl (by simp [Try.f45]) (by simp [bnd, bnd.bndL]) (by simp [bnd, bnd.bndL]) fun B hB hnx => ?_
  simp only [Try.f45] at hB ⊢
  have h1 : (ints l).length = l.length := List.length_map _
  have h2 : (ints m).length = m.length := List.length_map _
  by_cases c0 : l.length = m.length
  rotate_left
  · have : ¬ l = m := fun e => c0 (by rw [e])
    refine K_run hB 100 ?_
    simp [go_sem, h1, h2, c0, this]
  refine K_run hB 100 ?_
  simp [go_sem, h1, h2, c0]
  refine K_loopP (α := Nat) (fun k => k ≤ m.length ∧ l.take k = m.take k) (fun k => ⟨sl [(0, .t (.sl (ints l))), (1, .t (.sl (ints m))), (5, .i k)], noObj, 0⟩) (fun k => m.length - k) 0 ⟨Nat.zero_le _, rfl⟩ (Imp.slots (by simp [go_sem]) rfl rfl) ?_
  rintro k ⟨g1, g2⟩
  refine K_run hB 100 ?_
  simp [go_sem, h1, c0]
  refine fork_dec (fun hk => ?_) (fun hk => ?_)
  · have hkk : IntKind.i64.wrap ((k : Int) + 1) = ((k + 1 : Nat) : Int) := by rw [w64 ((k : Int) + 1) (by omega)]; rfl
    have hk' : k < l.length := by omega
    have e1 := ints_getS l hk'
    have e2 := ints_getS m hk
    have n1 : l.take (k + 1) = l.take k ++ [l[k]] := by rw [List.take_add_one, List.getElem?_eq_getElem hk']; rfl
    have n2 : m.take (k + 1) = m.take k ++ [m[k]] := by rw [List.take_add_one, List.getElem?_eq_getElem hk]; rfl
    simp [go_sem]
    refine K_drawn [] rfl (by rw [hB]; kernel_rfl) ?_
    by_cases c1 : l[k] = m[k]
    · refine K_run hB 100 ?_
      simp [go_sem, h1, h2, hk, hk', e1, e2, c1, hkk]
      refine Next.mk (k + 1) ⟨by omega, by rw [n1, n2, g2, c1]⟩ (Imp.slots (by simp [go_sem]) rfl rfl) (by omega)
    · have : ¬ l = m := fun e => c1 (by subst e; rfl)
      refine K_run hB 100 ?_
      simp [go_sem, h1, h2, hk, hk', e1, e2, c1, this]
  · have : k = m.length := by omega
    subst this
    rw [List.take_of_length_le (by omega), List.take_of_length_le (by omega)] at g2
    simp [go_sem, g2]
theorem canB_no : ∀ k, canB (fun _ => false) k = []
  | 0 => rfl
  | k + 1 => by rw [canB, canB_no k]; rfl
theorem moves_can (x : Inst) (s : State) : x.moves s = canB (fun k => (x.move s k).2.2) x.stops.length := by
  unfold Inst.moves
  split
  · rename_i h
    congr 1
    funext k
    rw [Inst.move, if_pos h]
  · rename_i h
    have : (fun k : Nat => (x.move s (k : Int)).2.2) = fun _ => false := by
      funext k
      rw [Inst.move, if_neg h]
    rw [this, canB_no]
theorem rmoves_pure (x : Inst) (s : State) (hl : x.stops.length < 2 ^ 31) (ho : s.ok) : Pure P 89 [x.a, s.a] (.t (.sl (ints (x.moves s)))) := by
  generalize hR : x.moves s = R
  rw [moves_can] at hR
  have hl' : x.stops.length < 2 ^ 63 := by omega
  have hst := fun j => rmove_pure x s j hl' ho
  have hmost : mostLen = 4294967296 := rfl
  refine pure_of Try.func89 rfl rfl (by simp [Try.f89]) (by simp [bnd, bnd.bndL, Inst.a, State.a, State.cs]) (by simp [bnd, bnd.bndL]) fun B hB hnx => ?_
  simp only [Try.f89] at hB ⊢
  refine K_run hB 100 ?_
  simp [go_sem, Inst.a, State.a, State.cs]
  refine K_own 5 1 (by simp [go_sem]) ?_
  refine K_loopP (α := Nat × Nat × (Nat → AObj) × Nat) (fun (k, j, σ, nx) => k ≤ x.stops.length ∧ σ 0 = .box [.t (.i x.pairs), .t (.i x.cars), .t (.i x.room), .t (.sl (x.stops.map Stop.t))] ∧ σ 1 = .box s.cs ∧ σ j = .arr 1 (ints (canB (fun k => (x.move s k).2.2) k)) ∧ 1 < j ∧ j < nx)
    (fun (k, j, σ, nx) => ⟨sl [(2, .ptr 0 0), (3, .ptr 1 0), (5, .ref j), (6, .i k)], σ, nx⟩) (fun a => x.stops.length - a.1) (0, 2, _, 3) ?_ (Imp.slots (by simp [go_sem]) rfl rfl) ?_
  · exact ⟨Nat.zero_le _, by simp [oput], by simp [oput, State.cs], by simp [oput, canB, ints], by omega, by omega⟩
  rintro ⟨k, j, σ, nx⟩ ⟨g1, g2, g3, g4, g5, g6⟩
  refine K_run hB 100 ?_
  simp [go_sem, g2]
  refine fork_dec (fun hk => ?_) (fun hk => ?_)
  · have hkk : IntKind.i64.wrap ((k : Int) + 1) = ((k + 1 : Nat) : Int) := by rw [w64 ((k : Int) + 1) (by omega)]; rfl
    have hn : canB (fun k => (x.move s k).2.2) (k + 1) = canB (fun k => (x.move s k).2.2) k ++ (if (x.move s k).2.2 = true then [(k : Int)] else []) := rfl
    have hcl := canB_len (fun k => (x.move s k).2.2) k
    have h1 := hst k
    generalize canB (fun k => (x.move s k).2.2) k = L at g4 hn hcl
    generalize x.move s k = V at hn h1
    obtain ⟨t, c, is⟩ := V
    simp only at hn
    simp [go_sem, g2, g3, State.cs]
    refine K_call rfl rfl rfl (args := [x.a, s.a, .i k]) (f := 90) (by simp [go_sem, Inst.a, State.a, State.cs]) (by simp [go_sem, hB]) ((h1).spec _ _) ?_
    cases is with
    | false =>
      refine K_run hB 100 ?_
      simp [go_sem, mv, State.a, State.cs, hkk]
      refine Next.mk (k + 1, j, _, nx + 1) ?_ (Imp.slots (by simp [go_sem]) rfl rfl) (by simp only; omega)
      refine ⟨by simp only; omega, ?_, ?_, ?_, by simp only; omega, by simp only; omega⟩
      · simp [oput, show ¬ 0 = nx by omega, g2]
      · simp [oput, show ¬ 1 = nx by omega, g3, State.cs]
      · simp only [hn]
        simp [oput, show ¬ j = nx by omega, g4]
    | true =>
      have hlen' : (ints L).length = L.length := List.length_map _
      have hcap : L.length + 1 ≤ mostLen := by omega
      refine K_run hB 100 ?_
      simp [go_sem, mv, State.a, State.cs, hkk, g4, hlen', hcap, show ¬ j = nx by omega]
      refine Next.mk (k + 1, nx + 1, _, nx + 2) ?_ (Imp.slots (by simp [go_sem]) rfl rfl) (by simp only; omega)
      refine ⟨by simp only; omega, ?_, ?_, ?_, by simp only; omega, by simp only; omega⟩
      · simp [oput, show ¬ 0 = nx by omega, show ¬ 0 = nx + 1 by omega, show ¬ 0 = j by omega, g2]
      · simp [oput, show ¬ 1 = nx by omega, show ¬ 1 = nx + 1 by omega, show ¬ 1 = j by omega, show ¬ nx = 0 by omega, g3, State.cs]
      · simp only [hn]
        simp [oput, ints]
  · have : k = x.stops.length := by omega
    subst this
    rw [hR] at g4
    simp [go_sem, g4]
theorem endS_no {x : Inst} {s : State} (h1 : x.may = true) (h0 : ¬ (x.pairs = 0 ∧ s = x.rootS)) (h : ¬ (s.mayB x = true ∧ s.spot ≠ 0 ∧ s.on = 0 ∧ x.allB s.can = true ∧ s.time + far (x.stop s.spot) (x.stop 0) ≤ (x.stop 0).due)) : x.endS s = (0, false) := by
  unfold Inst.endS
  rw [if_neg (by simp [h1]), if_neg h0, if_neg h]
theorem rend_tail (x : Inst) (s : State) (hl : x.stops.length < 2 ^ 63) (ho : s.ok) (hm : x.may = true) (c1 : ¬ (x.pairs = 0 ∧ s = x.rootS)) : Pure P 88 [x.a, s.a] (.tup [.i (x.endS s).1, .b (x.endS s).2]) := by
  generalize hR : x.endS s = R
  refine pure_of Try.func88 rfl rfl (by simp [Try.f88]) (by simp [bnd, bnd.bndL, Inst.a, State.a, State.cs]) (by simp [bnd, bnd.bndL]) fun B hB hnx => ?_
  simp only [Try.f88] at hB ⊢
  obtain ⟨p, hx⟩ := x.fit hm
  have hrr := rroot_pureS x hl
  have hno := endS_no hm c1
  have hyes : s.mayB x = true ∧ s.spot ≠ 0 ∧ s.on = 0 ∧ x.allB s.can = true ∧ s.time + far (x.stop s.spot) (x.stop 0) ≤ (x.stop 0).due → x.endS s = (far (x.stop s.spot) (x.stop 0), true) := fun h => by
    unfold Inst.endS
    rw [if_neg (by simp [hm]), if_neg c1, if_pos h]
  have g2 : (0 : Int) < x.stops.length := hx.lt (j := 0) (by omega)
  have g3 : 0 < x.stops.length := by omega
  have g4 := hx.get0
  have hall := rall_pure x s.can ho.can hx
  refine K_run hB 100 ?_
  simp [go_sem, Inst.a, State.a, State.cs]
  refine K_call rfl rfl rfl (args := [x.a]) (f := 118) (by simp [go_sem, Inst.a]) (by simp [go_sem, hB]) ((rmay_pure x hl).spec _ _) ?_
  refine K_run hB 100 ?_
  simp [go_sem, hm]
  refine K_drawn [] rfl (by rw [hB]; kernel_rfl) ?_
  generalize x.rootS = r at *
  by_cases c2 : x.pairs = 0
  all_goals
    first
    | have c3 : ¬ s = r := fun h => c1 ⟨c2, h⟩
      refine K_run hB 100 ?_
      simp [go_sem, c2]
      refine K_dCallP rfl rfl rfl (args := [x.a]) (f := 119) (by simp [go_sem, Inst.a, c2]) (hrr) ?_
      refine K_dEq (op := .eql) (t := 39) (t' := 39) (x := .tmp 19) (y := .tmp 21) (xs := s.cs) (ys := r.cs) (by simp [go_sem, c2]) rfl (by simp [go_sem, State.cs]) (by simp [go_sem, State.a]) state_guard (state_eq s r) rfl ?_
      refine K_run hB 100 ?_
      simp [go_sem, c2, c3]
    | refine K_run hB 100 ?_
      simp [go_sem, c2]
    refine K_call rfl rfl rfl (args := [x.a, s.a]) (f := 120) (by simp [go_sem, Inst.a, State.a, State.cs, c2]) (by simp [go_sem, hB]) ((rmay10_pure x s hl).spec _ _) ?_
    rw [hm, Bool.true_and]
    cases hs : s.mayB x with
    | false =>
      rw [hno (by simp [hs])] at hR
      subst hR
      refine K_run hB 100 ?_
      simp [go_sem]
    | true =>
      by_cases c4 : s.spot = 0
      · rw [hno (by simp [c4])] at hR
        subst hR
        refine K_run hB 100 ?_
        simp [go_sem, c4]
      by_cases c5 : s.on = 0
      rotate_left
      · rw [hno (by simp [c5])] at hR
        subst hR
        refine K_run hB 100 ?_
        simp [go_sem, c4, c5]
      have hst := s.fit hx hs
      have hsp := hst.spot.1
      have g5 := hx.lt hst.spot.2
      have g6 := hx.get hst.spot.2
      have hfar := rfar_pure (x.stop s.spot) (x.stop 0)
      have hfi := far_in' (x.stop s.spot) (x.stop 0)
      refine K_run hB 100 ?_
      simp [go_sem, c4, c5]
      refine K_call rfl rfl rfl (args := [x.a, .u s.can]) (f := 121) (by simp [go_sem, Inst.a, c2]) (by simp [go_sem, hB]) ((hall).spec _ _) ?_
      refine K_run hB 100 ?_
      simp [go_sem]
      refine K_drawn [] rfl (by rw [hB]; kernel_rfl) ?_
      refine K_run hB 100 ?_
      simp [go_sem, hsp, g2, g3, g4, g5, g6, Stop.t]
      refine K_dCallP rfl rfl rfl (args := [.agg ((x.stop s.spot).t.map .t), .agg ((x.stop 0).t.map .t)]) (f := 122) (by simp [go_sem, Stop.t]) (hfar) ?_
      generalize far (x.stop s.spot) (x.stop 0) = d at *
      generalize x.stop 0 = a at *
      have w1 := w64 (s.time + d) (by have := hst.time; omega)
      cases c6 : x.allB s.can with
      | false =>
        rw [hno (by simp [c6])] at hR
        subst hR
        refine K_run hB 100 ?_
        simp [go_sem]
        refine K_drawn [] rfl (by rw [hB]; kernel_rfl) ?_
        refine K_run hB 100 ?_
        simp [go_sem]
      | true =>
        by_cases c7 : a.due < s.time + d
        · rw [hno (by intro h; have := h.2.2.2.2; omega)] at hR
          subst hR
          refine K_run hB 100 ?_
          simp [go_sem]
          refine K_drawn [] rfl (by rw [hB]; kernel_rfl) ?_
          refine K_run hB 100 ?_
          simp [go_sem, w1, c7, g2, g3, g4, Stop.t]
        · rw [hyes ⟨hs, c4, c5, c6, by omega⟩] at hR
          subst hR
          refine K_run hB 100 ?_
          simp [go_sem]
          refine K_drawn [] rfl (by rw [hB]; kernel_rfl) ?_
          refine K_run hB 100 ?_
          simp [go_sem, w1, c7, g2, g3, g4, Stop.t]
theorem rend_pure (x : Inst) (s : State) (hl : x.stops.length < 2 ^ 63) (ho : s.ok) : Pure P 88 [x.a, s.a] (.tup [.i (x.endS s).1, .b (x.endS s).2]) := by
  by_cases q : x.may = true ∧ ¬ (x.pairs = 0 ∧ s = x.rootS)
  · exact rend_tail x s hl ho q.1 q.2
  generalize hR : x.endS s = R
  refine pure_of Try.func88 rfl rfl (by simp [Try.f88]) (by simp [bnd, bnd.bndL, Inst.a, State.a, State.cs]) (by simp [bnd, bnd.bndL]) fun B hB hnx => ?_
  simp only [Try.f88] at hB ⊢
  rw [Inst.endS] at hR
  refine K_run hB 100 ?_
  simp [go_sem, Inst.a, State.a, State.cs]
  refine K_call rfl rfl rfl (args := [x.a]) (f := 118) (by simp [go_sem, Inst.a]) (by simp [go_sem, hB]) ((rmay_pure x hl).spec _ _) ?_
  cases hm : x.may with
  | false =>
    rw [if_pos hm] at hR
    subst hR
    refine K_run hB 100 ?_
    simp [go_sem]
    refine K_drawn [] rfl (by rw [hB]; kernel_rfl) ?_
    refine K_run hB 100 ?_
    simp [go_sem]
    refine K_call rfl rfl rfl (args := [x.a, s.a]) (f := 120) (by simp [go_sem, Inst.a, State.a, State.cs]) (by simp [go_sem, hB]) ((rmay10_pure x s hl).spec _ _) ?_
    rw [hm, Bool.false_and]
    refine K_run hB 100 ?_
    simp [go_sem]
  | true =>
    have c1 : x.pairs = 0 ∧ s = x.rootS := Decidable.byContradiction fun h => q ⟨hm, h⟩
    rw [if_neg (by simp [hm]), if_pos c1] at hR
    subst hR
    obtain ⟨c2, c3⟩ := c1
    have hrr := rroot_pureS x hl
    generalize x.rootS = r at *
    refine K_run hB 100 ?_
    simp [go_sem]
    refine K_drawn [] rfl (by rw [hB]; kernel_rfl) ?_
    refine K_run hB 100 ?_
    simp [go_sem, c2]
    refine K_dCallP rfl rfl rfl (args := [x.a]) (f := 119) (by simp [go_sem, Inst.a, c2]) (hrr) ?_
    refine K_dEq (op := .eql) (t := 39) (t' := 39) (x := .tmp 19) (y := .tmp 21) (xs := s.cs) (ys := r.cs) (by simp [go_sem, c2]) rfl (by simp [go_sem, State.cs]) (by simp [go_sem, State.a]) state_guard (state_eq s r) rfl ?_
    refine K_run hB 100 ?_
    simp [go_sem, c2, c3]
end Go.Proofs.Ytlhmchdfmjfmgaa

/- The laws of the states are awake. -/
set_option maxRecDepth 4000
namespace Go.Proofs.Ytlhmchdfmjfmgaa
open Go Go.Proofs.Ytlhmchdfmjfmgaa.R
theorem small_moves : small.moves small.rootS = [1] := by decide +kernel
theorem small_follow : (small.follow [1, 2]).2 = (8, 0) ∧ (small.follow [1, 2]).1.time = 10 ∧ small.endS (small.follow [1, 2]).1 = (4, true) := by decide +kernel
theorem go_ok (x : Inst) : ∀ (l : List Int) (s : State) (c : Int), s.ok → (folR (x.goes l s c)).1.ok
  | [], s, c, h => h
  | j :: l, s, c, h => by
    rw [Inst.goes]
    split
    · exact go_ok x l _ _ (move_ok x j h)
    · exact State.zero_ok
theorem follow_ok (x : Inst) (path : List Int) : (x.follow path).1.ok := by
  unfold Inst.follow
  split
  · exact go_ok x path _ _ (rootS_ok x)
  · exact State.zero_ok
end Go.Proofs.Ytlhmchdfmjfmgaa

/- Bounds: of nodes; the document's; what covers what; the laws BoundTells, BoundCovers. -/
set_option maxRecDepth 4000
namespace Go.Proofs.Ytlhmchdfmjfmgaa
open Go Go.Proofs.Ytlhmchdfmjfmgaa.R
def Inst.of (x : Inst) (n : Node) : Int := sumI [n.cost, x.low n.s]
theorem of_pure (x : Inst) (n : Node) (hl : x.stops.length < 2 ^ 31) (ho : n.s.ok) : Pure P 24 [x.a, n.a] (.i (x.of n)) := by
  have ha := at_pure x n.s hl ho
  have hs := sum_pure [n.cost, x.low n.s] (by simp)
  rw [Inst.of]
  generalize x.low n.s = d at *
  refine pure_of Try.func24 rfl rfl (by simp [Try.f24]) (by simp [bnd, bnd.bndL, Inst.a, Node.a, Node.cs]) (by simp [bnd, bnd.bndL]) fun B hB hnx => ?_
  simp only [Try.f24] at hB ⊢
  refine K_run hB 100 ?_
  simp [go_sem, Inst.a, Node.a, Node.cs]
  refine K_drawn [] rfl (by rw [hB]; kernel_rfl) ?_
  refine K_run hB 100 ?_
  simp [go_sem]
  refine K_dCallP rfl rfl rfl (args := [x.a, n.s.a]) (f := 51) (by simp [go_sem, Inst.a, State.a, State.cs]) (ha) ?_
  refine K_run hB 100 ?_
  simp [go_sem]
  refine K_dCallP rfl rfl rfl (args := [.fsl (ints [n.cost, d])]) (f := 50) (by simp [go_sem, ints]) (Pure.loose hs (by simp [bnd])) ?_
  refine K_run hB 100 ?_
  simp [go_sem]
theorem rat_pure (x : Inst) (s : State) (hl : x.stops.length < 2 ^ 31) (ho : s.ok) : Pure P 85 [x.a, s.a] (.i (x.low s)) := by
  generalize hR : x.low s = R
  refine pure_of Try.func85 rfl rfl (by simp [Try.f85]) (by simp [bnd, bnd.bndL, Inst.a, State.a, State.cs]) (by simp [bnd, bnd.bndL]) fun B hB hnx => ?_
  simp only [Try.f85] at hB ⊢
  rw [Inst.low] at hR
  have hnl := near_len x
  have hne := rnear_pure x hl
  generalize x.near = near at *
  refine K_run hB 100 ?_
  simp [go_sem, Inst.a, State.a, State.cs]
  refine K_call rfl rfl rfl (args := [x.a]) (f := 113) (by simp [go_sem, Inst.a]) (by simp [go_sem, hB]) ((hne).spec _ _) ?_
  match near, hR, hnl with
  | [], hR, _ =>
    simp only [atLeast] at hR
    subst hR
    refine K_run hB 100 ?_
    simp [go_sem, ints]
  | [_], hR, _ =>
    simp only [atLeast] at hR
    subst hR
    refine K_run hB 100 ?_
    simp [go_sem, ints]
  | d0 :: d1 :: l, hR, hnl =>
    simp only [atLeast] at hR
    rw [leftSum, if_neg (by simp)] at hR
    obtain ⟨Y, hY⟩ : ∃ Y, Y = d0 :: d1 :: l := ⟨_, rfl⟩
    obtain ⟨X, hX⟩ : ∃ X, X = ints Y := ⟨_, rfl⟩
    have hdr : Y.drop 1 = d1 :: l := by rw [hY]; rfl
    have hlen : Y.length = l.length + 2 := by rw [hY]; rfl
    have hil : X.length = l.length + 2 := by rw [hX, ints, List.length_map, hlen]
    have hgt : ¬ (l.length : Int) + 2 < 2 := by omega
    have hpos : (0 : Int) < l.length + 2 := by omega
    have hll : l.length + 2 < 2 ^ 63 := by simp only [List.length_cons] at hnl; omega
    have hget : ∀ (k : Nat) (h : k < Y.length) (h' : k < X.length), X[k]'h' = [.i (Y[k]'h)] := fun k h h' => by subst hX; exact ints_getS _ h
    have hget0 : ∀ h : 0 < X.length, X[0]'h = [.i d0] := fun h => by rw [hget 0 (by omega) h]; simp [hY]
    rw [← hdr, Nat.zero_add] at hR
    rw [← hY, ← hX] at hne
    rw [← hY, ← hX]
    clear hX hY
    refine K_run hB 100 ?_
    simp [go_sem, hil, hgt, hpos, hget0]
    refine K_loopP (α := Nat × Int) (fun (k, n) => 1 ≤ k ∧ k ≤ Y.length ∧ leftSum s.can k (Y.drop k) n = R) (fun (k, n) => ⟨sl [(3, .ptr 1 0), (5, .t (.sl X)), (6, .i n), (7, .i k)], oput (oput noObj 0 (.box [.t (.i x.pairs), .t (.i x.cars), .t (.i x.room), .t (.sl (x.stops.map Stop.t))])) 1 (.box s.cs), 2⟩) (fun a => Y.length - a.1) (1, d0) ⟨Nat.le_refl _, by omega, hR⟩ (Imp.slots (by simp [go_sem]) rfl rfl) ?_
    rintro ⟨k, n⟩ ⟨g1, g2, g3⟩
    refine K_run hB 60 ?_
    simp [go_sem, hil]
    refine fork_dec (fun hk => ?_) (fun hk => ?_)
    · have hk' : k < Y.length := by omega
      have hkk : IntKind.i64.wrap ((k : Int) + 1) = ((k + 1 : Nat) : Int) := by rw [w64 ((k : Int) + 1) (by omega)]; rfl
      rw [List.drop_eq_getElem_cons hk', leftSum] at g3
      have hg : X[k]? = some [.i Y[k]] := by rw [List.getElem?_eq_getElem (by omega), hget k hk' (by omega)]
      have hki : (k : Int) < l.length + 2 := by omega
      generalize Y[k] = d at *
      simp [go_sem, State.cs]
      refine K_call rfl rfl rfl (args := [.u s.can, .i k]) (f := 114) (by simp [go_sem]) (by simp [go_sem, hB]) ((rhas_pure s.can k ho.can).spec _ _) ?_
      cases c1 : hasB s.can k with
      | true =>
        rw [if_neg (by simp [c1])] at g3
        refine K_run hB 100 ?_
        simp [go_sem, hkk]
        exact Next.mk (k + 1, n) ⟨by simp only; omega, by simp only; omega, g3⟩ (Imp.slots (by simp [go_sem]) (by simp [State.cs]) rfl) (by simp only; omega)
      | false =>
        rw [if_pos ⟨by omega, c1⟩] at g3
        refine K_run hB 100 ?_
        simp [go_sem, hil, hki, hg, hkk]
        exact Next.mk (k + 1, IntKind.i64.wrap (n + d)) ⟨by simp only; omega, by simp only; omega, g3⟩ (Imp.slots (by simp [go_sem]) (by simp [State.cs]) rfl) (by simp only; omega)
    · have : k = Y.length := by omega
      subst this
      rw [List.drop_length, leftSum] at g3
      simp [go_sem, g3]
theorem rof_pure (x : Inst) (n : Node) (hl : x.stops.length < 2 ^ 31) (ho : n.s.ok) : Pure P 49 [x.a, n.a] (.i (x.of n)) := by
  have ha := rat_pure x n.s hl ho
  have hs := rsum_pure [n.cost, x.low n.s] (by simp)
  rw [Inst.of]
  generalize x.low n.s = d at *
  refine pure_of Try.func49 rfl rfl (by simp [Try.f49]) (by simp [bnd, bnd.bndL, Inst.a, Node.a, Node.cs]) (by simp [bnd, bnd.bndL]) fun B hB hnx => ?_
  simp only [Try.f49] at hB ⊢
  refine K_run hB 100 ?_
  simp [go_sem, Inst.a, Node.a, Node.cs]
  refine K_drawn [] rfl (by rw [hB]; kernel_rfl) ?_
  refine K_run hB 100 ?_
  simp [go_sem]
  refine K_dCallP rfl rfl rfl (args := [x.a, n.s.a]) (f := 85) (by simp [go_sem, Inst.a, State.a, State.cs]) (ha) ?_
  refine K_run hB 100 ?_
  simp [go_sem]
  refine K_dCallP rfl rfl rfl (args := [.fsl (ints [n.cost, d])]) (f := 84) (by simp [go_sem, ints]) (Pure.loose hs (by simp [bnd])) ?_
  refine K_run hB 100 ?_
  simp [go_sem]
end Go.Proofs.Ytlhmchdfmjfmgaa

/- What covers what; the laws BoundTells, BoundCovers. -/
set_option maxRecDepth 4000
namespace Go.Proofs.Ytlhmchdfmjfmgaa
open Go Go.Proofs.Ytlhmchdfmjfmgaa.R
/-! ### Plain: no sum outgrows a number -/
theorem far_le (a b : Stop) : 0 ≤ far a b ∧ far a b ≤ 14143 := by
  obtain ⟨h1, h2⟩ := sq_in a b
  refine ⟨(far_in a b).1, ?_⟩
  unfold far rootI
  split
  · omega
  · rename_i hp
    have e : (min (sq a b) 1152921504606846976).toNat = (sq a b).toNat := by omega
    rw [e]
    obtain ⟨g1, _⟩ := rootL_spec (sq a b).toNat 31 0 (by omega) (by simp; omega)
    generalize rootL (sq a b).toNat 31 0 = r at *
    have : r ≤ 14142 := by
      rcases Nat.lt_or_ge 14142 r with h | h
      · have := Nat.mul_le_mul (show 14143 ≤ r from h) (show 14143 ≤ r from h)
        omega
      · exact h
    omega
theorem nearF_le (k : Nat) (b : Stop) : ∀ (i : Nat) (l : List Stop) (v : Int), (0 ≤ v ∧ v ≤ 14143) ∨ v = inf → (0 ≤ nearF k b i l v ∧ nearF k b i l v ≤ 14143) ∨ nearF k b i l v = inf
  | _, [], v, h => h
  | i, a :: l, v, h => by
    rw [nearF]
    refine nearF_le k b (i + 1) l _ ?_
    have := far_le a b
    have hinf : inf = 1152921504606846976 := rfl
    split
    · exact h
    · omega
theorem nearK_le (x : Inst) (k : Nat) (b : Stop) : 0 ≤ x.nearK k b ∧ x.nearK k b ≤ 14143 := by
  unfold Inst.nearK
  have hinf : inf = 1152921504606846976 := rfl
  rcases nearF_le k b 0 x.stops inf (.inr rfl) with h | h
  · rw [Int.tmod_eq_of_lt h.1 (by omega)]; exact h
  · rw [h, hinf]; decide
theorem nears_le (x : Inst) : ∀ (k : Nat) (l : List Stop), ∀ d ∈ nears x k l, 0 ≤ d ∧ d ≤ 14143
  | _, [], d, h => by cases h
  | k, b :: l, d, h => by
    rw [nears] at h
    rcases List.mem_cons.1 h with e | e
    · rw [e]; exact nearK_le x k b
    · exact nears_le x (k + 1) l d e
theorem near_le (x : Inst) : ∀ d ∈ x.near, 0 ≤ d ∧ d ≤ 14143 := by
  unfold Inst.near
  split
  · exact nears_le x 0 x.stops
  · intro d h; cases h
def lefts (may : Nat) : Nat → List Int → Int
  | _, [] => 0
  | j, d :: l => (if 0 < j ∧ hasB may j = false then d else 0) + lefts may (j + 1) l
theorem lefts_in (may : Nat) : ∀ (j : Nat) (l : List Int), (∀ d ∈ l, 0 ≤ d ∧ d ≤ 14143) → 0 ≤ lefts may j l ∧ lefts may j l ≤ 14143 * l.length
  | _, [], _ => by simp [lefts]
  | j, d :: l, h => by
    have h1 := h d List.mem_cons_self
    have h2 := lefts_in may (j + 1) l fun e he => h e (List.mem_cons_of_mem _ he)
    rw [lefts, List.length_cons]
    split <;> omega
theorem leftSum_eq (may : Nat) : ∀ (j : Nat) (l : List Int) (n : Int), (∀ d ∈ l, 0 ≤ d ∧ d ≤ 14143) → 0 ≤ n → n + 14143 * l.length < 9223372036854775808 → leftSum may j l n = n + lefts may j l
  | _, [], n, _, _, _ => by simp [leftSum, lefts]
  | j, d :: l, n, h, h0, hn => by
    have h1 := h d List.mem_cons_self
    rw [List.length_cons] at hn
    rw [leftSum, lefts]
    split
    · rw [w64 (n + d) (by omega), leftSum_eq may (j + 1) l (n + d) (fun e he => h e (List.mem_cons_of_mem _ he)) (by omega) (by omega)]
      omega
    · rw [leftSum_eq may (j + 1) l n (fun e he => h e (List.mem_cons_of_mem _ he)) h0 (by omega)]
      omega
theorem lefts_mono {a b : Nat} (hab : ∀ j : Nat, hasB b j = true → hasB a j = true) : ∀ (j : Nat) (l : List Int), (∀ d ∈ l, 0 ≤ d ∧ d ≤ 14143) → lefts a j l ≤ lefts b j l
  | _, [], _ => Int.le_refl _
  | j, d :: l, h => by
    have h1 := h d List.mem_cons_self
    have h2 := lefts_mono hab (j + 1) l fun e he => h e (List.mem_cons_of_mem _ he)
    rw [lefts, lefts]
    by_cases c : 0 < j ∧ hasB b j = false
    · rw [if_pos c]
      split <;> omega
    · rw [if_neg c]
      have : ¬ (0 < j ∧ hasB a j = false) := fun ⟨e1, e2⟩ => by
        cases hb : hasB b j with
        | true => rw [hab j hb] at e2; cases e2
        | false => exact c ⟨e1, hb⟩
      rw [if_neg this]
      omega
/-- What it costs at least, as a sum. -/
def lowP (near : List Int) (may : Nat) : Int := match near with
  | a :: b :: l => a + lefts may 0 (a :: b :: l)
  | _ => 0
theorem low_eq (x : Inst) (s : State) (hl : x.stops.length < 2 ^ 31) : x.low s = lowP x.near s.can := by
  unfold Inst.low
  have h1 := near_le x
  have h2 := near_len x
  generalize x.near = near at *
  match near with
  | [] => rfl
  | [_] => rfl
  | a :: b :: l =>
    simp only [atLeast, lowP]
    have ha := h1 a List.mem_cons_self
    refine leftSum_eq _ _ _ _ h1 ha.1 ?_
    simp only [List.length_cons] at h2 ⊢
    omega
theorem lowP_mono {near : List Int} {a b : Nat} (hn : ∀ d ∈ near, 0 ≤ d ∧ d ≤ 14143) (hab : ∀ j : Nat, hasB b j = true → hasB a j = true) : lowP near a ≤ lowP near b := by
  match near with
  | [] => exact Int.le_refl _
  | [_] => exact Int.le_refl _
  | x :: y :: l =>
    simp only [lowP]
    have := lefts_mono hab 0 (x :: y :: l) hn
    omega
theorem within_has {a b : Nat} (h : withinB b a = true) (j : Int) : hasB b j = true → hasB a j = true := by
  unfold hasB
  simp only [Bool.and_eq_true, decide_eq_true_eq]
  rintro ⟨h1, h2⟩
  refine ⟨h1, ?_⟩
  have := List.all_eq_true.1 h j.toNat (List.mem_range.2 (by omega))
  rw [h2] at this
  simpa using this
/-! ### The walks -/
def coversB (a b : State) : Bool :=
  decide (a.spot = b.spot) && withinB a.must b.must && withinB a.on b.on && withinB b.can a.can && decide (a.car ≤ b.car) && decide (a.time ≤ b.time) && decide (a.load ≤ b.load) && decide (a.first ≤ b.first)
theorem covers_pure (a b : State) : Pure P 109 [a.a, b.a] (.b (coversB a b)) := by
  generalize hR : coversB a b = R
  refine pure_of Try.func109 rfl rfl (by simp [Try.f109]) (by simp [bnd, bnd.bndL, State.a, State.cs]) (by simp [bnd, bnd.bndL]) fun B hB hnx => ?_
  simp only [Try.f109] at hB ⊢
  rw [coversB] at hR
  have hw1 := within_pure a.must b.must
  have hw2 := within_pure a.on b.on
  have hw3 := within_pure b.can a.can
  by_cases c1 : a.spot = b.spot
  rotate_left
  · refine K_run hB 100 ?_
    simp [go_sem, State.a, State.cs, c1]
    simp [← hR, c1]
  refine K_run hB 100 ?_
  simp [go_sem, State.a, State.cs, c1]
  refine K_call rfl rfl rfl (args := [.u a.must, .u b.must]) (f := 139) (by simp [go_sem]) (by simp [go_sem, hB]) ((hw1).spec _ _) ?_
  cases c2 : withinB a.must b.must with
  | false =>
    refine K_run hB 100 ?_
    simp [go_sem]
    simp [← hR, c2]
  | true =>
    refine K_run hB 100 ?_
    simp [go_sem]
    refine K_call rfl rfl rfl (args := [.u a.on, .u b.on]) (f := 139) (by simp [go_sem]) (by simp [go_sem, hB]) ((hw2).spec _ _) ?_
    cases c3 : withinB a.on b.on with
    | false =>
      refine K_run hB 100 ?_
      simp [go_sem]
      simp [← hR, c3]
    | true =>
      refine K_run hB 100 ?_
      simp [go_sem]
      refine K_call rfl rfl rfl (args := [.u b.can, .u a.can]) (f := 139) (by simp [go_sem]) (by simp [go_sem, hB]) ((hw3).spec _ _) ?_
      cases c4 : withinB b.can a.can with
      | false =>
        refine K_run hB 100 ?_
        simp [go_sem]
        simp [← hR, c4]
      | true =>
        rw [c2, c3, c4] at hR
        simp only [c1, decide_true, Bool.and_true, Bool.true_and] at hR
        refine K_run hB 100 ?_
        simp [go_sem]
        refine atVal_decT (fun h1 => ?_) (fun h1 => by simp [go_sem, h1, ← hR])
        simp [go_sem, h1]
        refine atVal_decT (fun h2 => ?_) (fun h2 => by simp [go_sem, h2, ← hR])
        simp [go_sem, h2]
        refine atVal_decT (fun h3 => ?_) (fun h3 => by simp [go_sem, h3, ← hR])
        simp [go_sem, h3]
        simp [← hR, h1, h2, h3]
theorem small_low : small.low small.rootS = 10 ∧ small.of ⟨State.zero, 2, []⟩ = 12 := by decide +kernel
end Go.Proofs.Ytlhmchdfmjfmgaa

/- A move at a sooner time, with a lesser load. -/
set_option maxRecDepth 4000
namespace Go.Proofs.Ytlhmchdfmjfmgaa
open Go Go.Proofs.Ytlhmchdfmjfmgaa.R
/-- One state is no later, and bears no more, but is the same. -/
structure Sooner (a s : State) : Prop where
  time : a.time ≤ s.time
  load : a.load ≤ s.load
  spot : a.spot = s.spot
  car : a.car = s.car
  first : a.first = s.first
  must : a.must = s.must
  can : a.can = s.can
  on : a.on = s.on
theorem Sooner.begins {a s : State} (h : Sooner a s) (x : Inst) (j : Int) : x.begins a j ≤ x.begins s j := by
  have := h.time
  unfold Inst.begins
  rw [h.spot]
  omega
theorem Sooner.late {a s : State} (h : Sooner a s) (x : Inst) (j : Int) (hl : x.lateB s j = false) : x.lateB a j = false := by
  have := h.begins x j
  unfold Inst.lateB at hl ⊢
  simp only [Bool.or_eq_false_iff, decide_eq_false_iff_not] at hl ⊢
  rw [h.must]
  exact ⟨hl.1, by omega⟩
theorem Sooner.seen {a s : State} (h : Sooner a s) (x : Inst) (j : Int) : Sooner (x.seen a j) (x.seen s j) := by
  have := h.begins x j
  have := h.load
  exact ⟨by simp only [Inst.seen]; omega, by simp only [Inst.seen]; omega, rfl, h.car, by simp only [Inst.seen, h.spot, h.first], by simp only [Inst.seen, h.must], by simp only [Inst.seen, h.can], h.on⟩
theorem Sooner.visit {a s : State} (h : Sooner a s) (x : Inst) (j : Int) (hv : (x.visit s j).2 = true) : (x.visit a j).2 = true ∧ Sooner (x.visit a j).1 (x.visit s j).1 := by
  unfold Inst.visit at hv ⊢
  cases hl : x.lateB s j with
  | true => rw [hl] at hv; simp at hv
  | false =>
    rw [h.late x j hl]
    exact ⟨rfl, h.seen x j⟩
theorem Sooner.take {a s : State} (h : Sooner a s) (x : Inst) (j : Int) (hv : (x.take s j).2 = true) : (x.take a j).2 = true ∧ Sooner (x.take a j).1 (x.take s j).1 := by
  unfold Inst.take at hv ⊢
  cases hf : x.fullB s j with
  | true => rw [hf] at hv; simp at hv
  | false =>
    have hf' : x.fullB a j = false := by
      have := h.load
      unfold Inst.fullB at hf ⊢
      simp only [Bool.or_eq_false_iff, decide_eq_false_iff_not, Bool.and_eq_false_iff] at hf ⊢
      rw [h.spot, h.first]
      exact ⟨by omega, hf.2⟩
    rw [hf] at hv
    rw [hf']
    simp only [Bool.false_eq_true, if_false] at hv ⊢
    cases hq : (x.visit s j).2 with
    | false => rw [hq] at hv; simp [hq] at hv
    | true =>
      obtain ⟨v1, v2⟩ := h.visit x j hq
      rw [v1]
      exact ⟨rfl, ⟨v2.time, v2.load, v2.spot, v2.car, v2.first, v2.must, v2.can, by simp only [if_true, h.on]⟩⟩
theorem Sooner.bring {a s : State} (h : Sooner a s) (x : Inst) (j : Int) (hv : (x.bring s j).2 = true) : (x.bring a j).2 = true ∧ Sooner (x.bring a j).1 (x.bring s j).1 := by
  unfold Inst.bring at hv ⊢
  cases hf : x.emptyB s j with
  | true => rw [hf] at hv; simp at hv
  | false =>
    have hf' : x.emptyB a j = false := by
      unfold Inst.emptyB at hf ⊢
      rw [h.spot, h.can]
      exact hf
    rw [hf] at hv
    rw [hf']
    simp only [Bool.false_eq_true, if_false] at hv ⊢
    cases hq : (x.visit s j).2 with
    | false => rw [hq] at hv; simp [hq] at hv
    | true =>
      obtain ⟨v1, v2⟩ := h.visit x j hq
      rw [v1]
      exact ⟨rfl, ⟨v2.time, v2.load, v2.spot, v2.car, v2.first, v2.must, v2.can, by simp only [if_true, h.on]⟩⟩
theorem Sooner.home {a s : State} (h : Sooner a s) (x : Inst) (hv : (x.home s).2 = true) : (x.home a).2 = true ∧ Sooner (x.home a).1 (x.home s).1 := by
  unfold Inst.home at hv ⊢
  cases hf : x.stayB s with
  | true => rw [hf] at hv; simp at hv
  | false =>
    have hf' : x.stayB a = false := by
      have := h.time
      unfold Inst.stayB at hf ⊢
      simp only [Bool.or_eq_false_iff, decide_eq_false_iff_not] at hf ⊢
      rw [h.spot, h.on, h.car, h.must]
      exact ⟨hf.1, by omega⟩
    rw [hf']
    refine ⟨rfl, ?_⟩
    show Sooner (x.homeS a) (x.homeS s)
    exact ⟨Int.le_refl _, Int.le_refl _, rfl, by simp only [Inst.homeS, h.car], h.first, h.must, h.can, h.on⟩
theorem Sooner.to {a s : State} (h : Sooner a s) (x : Inst) (j : Int) (hv : (x.to s j).2 = true) : (x.to a j).2 = true ∧ Sooner (x.to a j).1 (x.to s j).1 := by
  unfold Inst.to at hv ⊢
  split
  · rename_i e
    rw [if_pos e] at hv
    exact h.home x hv
  · rename_i e
    rw [if_neg e] at hv
    split
    · rename_i e2
      rw [if_pos e2] at hv
      exact h.take x j hv
    · rename_i e2
      rw [if_neg e2] at hv
      exact h.bring x j hv
theorem move_is {x : Inst} {s : State} {j : Int} (hv : (x.move s j).2.2 = true) : x.may = true ∧ s.mayB x = true ∧ (0 ≤ j ∧ j ≤ 2 * x.pairs) ∧ (x.to s j).2 = true ∧ x.move s j = ((x.to s j).1, far (x.stop s.spot) (x.stop j), true) := by
  unfold Inst.move at hv ⊢
  split at hv
  · rename_i h
    rw [if_pos h]
    unfold Inst.step at hv ⊢
    split at hv
    · simp at hv
    · rename_i h1
      rw [if_neg h1]
      split at hv
      · rename_i h2
        rw [if_pos h2]
        exact ⟨h.1, h.2, by omega, h2, rfl⟩
      · simp at hv
  · simp at hv
theorem move_mk {x : Inst} {s : State} {j : Int} (h1 : x.may = true) (h2 : s.mayB x = true) (h3 : 0 ≤ j ∧ j ≤ 2 * x.pairs) (h4 : (x.to s j).2 = true) : x.move s j = ((x.to s j).1, far (x.stop s.spot) (x.stop j), true) := by
  unfold Inst.move Inst.step
  rw [if_pos ⟨h1, h2⟩, if_neg (by omega), if_pos h4]
theorem Sooner.move {a s : State} (h : Sooner a s) (x : Inst) (j : Int) (ht : 0 ≤ a.time) (hw : 0 ≤ a.load) (hv : (x.move s j).2.2 = true) : (x.move a j).2.2 = true ∧ (x.move a j).2.1 = (x.move s j).2.1 ∧ Sooner (x.move a j).1 (x.move s j).1 := by
  obtain ⟨h1, h2, h3, h4, h5⟩ := move_is hv
  obtain ⟨g1, g2⟩ := h.to x j h4
  have g3 : a.mayB x = true := by
    have := h.time
    have := h.load
    unfold State.mayB at h2 ⊢
    simp only [Bool.and_eq_true, decide_eq_true_eq] at h2 ⊢
    rw [h.spot, h.car]
    omega
  rw [h5, move_mk h1 g3 h3 g1]
  exact ⟨rfl, by rw [h.spot], g2⟩
def lateS (s : State) (sooner less : Int) : State := { s with time := s.time - sooner, load := s.load - less }
end Go.Proofs.Ytlhmchdfmjfmgaa

/- Where a state can be ended. -/
set_option maxRecDepth 4000
namespace Go.Proofs.Ytlhmchdfmjfmgaa
open Go Go.Proofs.Ytlhmchdfmjfmgaa.R
theorem upto_bit : ∀ {k i : Nat}, 1 ≤ i → i ≤ k → (uptoL k).testBit i = true
  | 0, i, h1, h2 => by omega
  | k + 1, i, h1, h2 => by
    rw [uptoL, Nat.testBit_or]
    by_cases h : i ≤ k
    · rw [upto_bit h1 h]; rfl
    · have : i = k + 1 := by omega
      subst this
      rw [Nat.testBit_two_pow_self, Bool.or_true]
theorem Inst.all_bit {x : Inst} {t p : Nat} (hx : x.Fit p) (h : x.allB t = true) {i : Nat} (h1 : 1 ≤ i) (h2 : i ≤ 2 * p) : t.testBit i = true := by
  have hf := hx.few
  have hp := hx.pairs
  unfold Inst.allB withinB at h
  rw [List.all_eq_true] at h
  have := h i (List.mem_range.2 (by omega))
  have hu : (uptoN (2 * x.pairs)).testBit i = true := by
    unfold uptoN
    exact upto_bit h1 (by omega)
  rw [hu] at this
  simpa using this
theorem shr_bit {t k : Nat} (h : t.testBit k = true) : (Int.fdiv (t : Int) (2 ^ k)).tmod 2 = 1 := by
  have e : Int.fdiv (t : Int) (2 ^ k) = ((t / 2 ^ k : Nat) : Int) := by
    rw [Int.fdiv_eq_ediv_of_nonneg _ (Int.le_of_lt (Int.pow_pos (by decide)))]
    norm_cast
  rw [Nat.testBit_eq_decide_div_mod_eq, decide_eq_true_eq] at h
  rw [e, show ((t / 2 ^ k : Nat) : Int).tmod 2 = ((t / 2 ^ k % 2 : Nat) : Int) from rfl, h]
  rfl
end Go.Proofs.Ytlhmchdfmjfmgaa

/- The moves are just those that can be made. -/
set_option maxRecDepth 4000
namespace Go.Proofs.Ytlhmchdfmjfmgaa
open Go Go.Proofs.Ytlhmchdfmjfmgaa.R
/-- What is told of a move that can be made. -/
theorem step_facts {x : Inst} {s : State} {j : Int} (h : (x.move s j).2.2 = true) : ((x.move s j).1.spot = j ∧ 0 ≤ (x.move s j).2.1 ∧ (x.move s j).2.1 < 1152921504606846976) ∧ (0 < j → s.time + (x.move s j).2.1 ≤ (x.move s j).1.time ∧ (x.move s j).1.car = s.car) ∧ (j = 0 → (x.move s j).1.car = s.car + 1) := by
  obtain ⟨h1, h2, h3, h4, h5⟩ := move_is h
  obtain ⟨p, hx⟩ := x.fit h1
  have hp := hx.pairs
  rw [h5]
  have hfar := far_in' (x.stop s.spot) (x.stop j)
  have hat := hx.at h3.1 (by omega)
  have hseen : (x.seen s j).spot = j ∧ s.time + far (x.stop s.spot) (x.stop j) ≤ (x.seen s j).time ∧ (x.seen s j).car = s.car := by
    refine ⟨rfl, ?_, rfl⟩
    have := hat.service
    simp only [Inst.seen, Inst.begins]
    omega
  have hvis : (x.visit s j).2 = true → (x.visit s j).1 = x.seen s j := by
    unfold Inst.visit
    split
    · intro h; simp at h
    · intro _; rfl
  by_cases hj : j = 0
  · subst hj
    have e : x.to s 0 = x.home s := by simp [Inst.to]
    rw [e] at h4 ⊢
    have e2 : (x.home s).1 = x.homeS s := by
      unfold Inst.home at h4 ⊢
      split at h4
      · simp at h4
      · rename_i hh; rw [if_neg hh]
    rw [e2]
    exact ⟨⟨rfl, hfar⟩, fun h => absurd h (by omega), fun _ => rfl⟩
  · refine ⟨?_, fun _ => ?_, fun h => absurd h hj⟩
    all_goals
      simp only [Inst.to, if_neg hj] at h4 ⊢
      split at h4
      all_goals
        rename_i hh
        first
        | rw [if_pos hh]
          unfold Inst.take at h4 ⊢
        | rw [if_neg hh]
          unfold Inst.bring at h4 ⊢
        split at h4
        · simp at h4
        · rename_i h7
          rw [if_neg h7]
          split at h4
          · rename_i h8
            rw [if_pos h8, hvis h8]
            first
            | exact ⟨hseen.1, hfar⟩
            | exact ⟨hseen.2.1, hseen.2.2⟩
          · rename_i h8; exact absurd h4 h8
theorem move_no {x : Inst} {s : State} {j : Int} (h : (x.move s j).2.2 = false) : x.move s j = (s, 0, false) := by
  unfold Inst.move at h ⊢
  split
  · rename_i h1
    rw [if_pos h1] at h
    unfold Inst.step at h ⊢
    split
    · rfl
    · rename_i h2
      rw [if_neg h2] at h
      split
      · rename_i h3
        rw [if_pos h3] at h
        simp at h
      · rfl
  · rfl
/-- The moves from one on. -/
def canF (f : Int → Bool) : Nat → Int → List Int
  | 0, _ => []
  | n + 1, j => if f j = true then j :: canF f n (j + 1) else canF f n (j + 1)
theorem canB_canF (f : Int → Bool) : ∀ (n k : Nat), canB (fun k => f k) (k + n) = canB (fun k => f k) k ++ canF f n k
  | 0, k => by simp [canF]
  | n + 1, k => by
    have := canB_canF f n (k + 1)
    rw [show k + (n + 1) = k + 1 + n by omega, this, canB, canF]
    simp only [Int.natCast_add, Int.natCast_one]
    split <;> simp
theorem moves_canF (x : Inst) (s : State) : x.moves s = canF (fun j => (x.move s j).2.2) x.stops.length 0 := by
  unfold Inst.moves
  split
  · rename_i h
    have := canB_canF (fun j => (x.step s j).2.2) x.stops.length 0
    rw [Nat.zero_add] at this
    rw [this]
    have e : ∀ j, x.move s j = x.step s j := fun j => by rw [Inst.move, if_pos h]
    simp only [e]
    rfl
  · rename_i h
    have e : ∀ j, (x.move s j).2.2 = false := fun j => by rw [Inst.move, if_neg h]
    have : ∀ (n : Nat) (j : Int), canF (fun j => (x.move s j).2.2) n j = [] := by
      intro n
      induction n with
      | zero => intro j; rfl
      | succ n ih => intro j; rw [canF, if_neg (by simp [e]), ih]
    rw [this]
theorem canF_ge (f : Int → Bool) : ∀ (n : Nat) (j a : Int), a ∈ canF f n j → j ≤ a
  | 0, j, a, h => by cases h
  | n + 1, j, a, h => by
    rw [canF] at h
    split at h
    · rcases List.mem_cons.1 h with rfl | h
      · exact Int.le_refl _
      · have := canF_ge f n (j + 1) a h; omega
    · have := canF_ge f n (j + 1) a h; omega
theorem canF_last (f : Int → Bool) : ∀ (n : Nat) (j : Int), f (j + n) = false → canF f (n + 1) j = canF f n j
  | 0, j, h => by
    have h' : f j = false := by simpa using h
    simp [canF, h']
  | n + 1, j, h => by
    have := canF_last f n (j + 1) (by rw [← h]; congr 1; omega)
    rw [canF, this]
    rfl
theorem moves_all (x : Inst) (s : State) : x.moves s = canF (fun j => (x.move s j).2.2) (x.stops.length + 2) (-1) := by
  have h1 : (x.move s (-1)).2.2 = false := by
    cases h : (x.move s (-1)).2.2 with
    | false => rfl
    | true =>
      obtain ⟨_, _, h3, _⟩ := move_is h
      omega
  have h2 : (x.move s x.stops.length).2.2 = false := by
    cases h : (x.move s x.stops.length).2.2 with
    | false => rfl
    | true =>
      obtain ⟨hm, _, h3, _⟩ := move_is h
      obtain ⟨p, hx⟩ := x.fit hm
      have := hx.len
      have := hx.pairs
      omega
  rw [moves_canF, canF, if_neg (by simp [h1])]
  exact (canF_last _ x.stops.length 0 (by simpa using h2)).symm
end Go.Proofs.Ytlhmchdfmjfmgaa

/- What was seen behind moves from the beginning. -/
set_option maxRecDepth 4000
namespace Go.Proofs.Ytlhmchdfmjfmgaa
open Go Go.Proofs.Ytlhmchdfmjfmgaa.R
theorem with_bit {t k : Nat} (hk : k ≤ 63) (i : Nat) : (withN t k).testBit i = (t.testBit i || decide (k = i)) := by
  rw [withN, bitN_nat hk, Nat.testBit_or, Nat.testBit_two_pow]
theorem without_bit {t k : Nat} (hk : k ≤ 63) {i : Nat} (hi : i < 64) : (withoutN t k).testBit i = (t.testBit i && !decide (k = i)) := by
  rw [withoutN, bitN_nat hk, andN_bit, Nat.testBit_two_pow]
  simp [hi]
/-- What the stops of a set bring with them. -/
def sumOn (x : Inst) : Nat → Nat → Int
  | 0, _ => 0
  | k + 1, t => sumOn x k t + if t.testBit (k + 1) = true then (x.stop (k + 1 : Nat)).demand else 0
theorem sumOn_zero (x : Inst) : ∀ k, sumOn x k 0 = 0
  | 0 => rfl
  | k + 1 => by rw [sumOn, sumOn_zero x k]; simp
theorem sumOn_same (x : Inst) {t u : Nat} : ∀ k, (∀ i, 1 ≤ i → i ≤ k → t.testBit i = u.testBit i) → sumOn x k t = sumOn x k u
  | 0, _ => rfl
  | k + 1, h => by rw [sumOn, sumOn, sumOn_same x k fun i h1 h2 => h i h1 (by omega), h (k + 1) (by omega) (by omega)]
theorem sumOn_pos {x : Inst} {p : Nat} (hx : x.Fit p) (t : Nat) : ∀ k, k ≤ p → 0 ≤ sumOn x k t
  | 0, _ => Int.le_refl _
  | k + 1, h => by
    have := sumOn_pos hx t k (by omega)
    have := hx.take (k := k + 1) (by omega) h
    rw [sumOn]
    split <;> omega
theorem sumOn_with (x : Inst) {t j : Nat} (hj : j ≤ 63) (hn : t.testBit j = false) (h1 : 1 ≤ j) : ∀ k, k ≤ 63 → sumOn x k (withN t j) = sumOn x k t + if j ≤ k then (x.stop j).demand else 0
  | 0, _ => by rw [if_neg (by omega)]; rfl
  | k + 1, hk => by
    rw [sumOn, sumOn_with x hj hn h1 k (by omega), with_bit hj, sumOn]
    by_cases e : j = k + 1
    · subst e
      rw [if_neg (by omega), hn]
      simp
    · have : (decide (j = k + 1)) = false := by simpa using e
      rw [this, Bool.or_false]
      by_cases e2 : j ≤ k
      · rw [if_pos e2, if_pos (show j ≤ k + 1 by omega)]; omega
      · rw [if_neg e2, if_neg (show ¬ j ≤ k + 1 by omega)]; omega
theorem sumOn_without (x : Inst) {t j : Nat} (hj : j ≤ 63) (hn : t.testBit j = true) (h1 : 1 ≤ j) : ∀ k, k ≤ 63 → sumOn x k (withoutN t j) = sumOn x k t - if j ≤ k then (x.stop j).demand else 0
  | 0, _ => by rw [if_neg (by omega)]; rfl
  | k + 1, hk => by
    rw [sumOn, sumOn_without x hj hn h1 k (by omega), without_bit hj (by omega), sumOn]
    by_cases e : j = k + 1
    · subst e
      rw [if_neg (by omega), hn]
      simp
    · have : (decide (j = k + 1)) = false := by simpa using e
      rw [this, Bool.not_false, Bool.and_true]
      by_cases e2 : j ≤ k
      · rw [if_pos e2, if_pos (show j ≤ k + 1 by omega)]; omega
      · rw [if_neg e2, if_neg (show ¬ j ≤ k + 1 by omega)]; omega
/-- What holds behind moves from the beginning. -/
structure Good (x : Inst) (p : Nat) (s : State) : Prop where
  eq : s.can = s.must
  on : ∀ k, 1 ≤ k → k ≤ p → s.on.testBit k = (s.must.testBit k && !s.must.testBit (k + p))
  order : ∀ k, 1 ≤ k → k ≤ p → s.must.testBit (k + p) = true → s.must.testBit k = true
  load : s.load = sumOn x p s.on
  room : s.load ≤ x.room
theorem good_root {x : Inst} {p : Nat} (hx : x.Fit p) (hm : x.may = true) : Good x p x.rootS := by
  rw [Inst.rootS, if_pos hm]
  refine ⟨rfl, fun k _ _ => by simp [State.zero], fun k _ _ h => by simp [State.zero] at h, ?_, ?_⟩
  · exact (sumOn_zero x p).symm
  · have := hx.room
    show (0 : Int) ≤ x.room
    omega
theorem has_testN {t k : Nat} (hk : k ≤ 63) : hasB t (k : Int) = t.testBit k := has_nat (by omega)
theorem good_step {x : Inst} {p : Nat} {s : State} {j : Int} (hx : x.Fit p) (hg : Good x p s) (h : (x.move s j).2.2 = true) :
    Good x p (x.move s j).1 ∧ 0 ≤ j ∧ j ≤ 2 * p ∧ (x.move s j).1.must = (if 0 < j then withN s.must j else s.must) ∧
    (x.move s j).1.on = (if x.pairs < j then withoutN s.on (j - x.pairs) else if 0 < j then withN s.on j else s.on) ∧
    (x.move s j).1.load = (if 0 < j then s.load + (x.stop j).demand else s.load) := by
  obtain ⟨h1, h2, h3, h4, h5⟩ := move_is h
  have hp := hx.pairs
  have hfew := hx.few
  obtain ⟨k, rfl⟩ : ∃ k : Nat, j = k := ⟨j.toNat, by omega⟩
  rw [h5]
  have h3' : (k : Int) ≤ 2 * p := by omega
  have hvis : (x.visit s k).2 = true → (x.visit s k).1 = x.seen s k ∧ hasB s.must k = false := by
    unfold Inst.visit Inst.lateB
    split
    · intro h; simp at h
    · rename_i hh
      intro _
      simp only [Bool.or_eq_true, not_or] at hh
      exact ⟨rfl, by simpa using hh.1⟩
  by_cases hk0 : k = 0
  · subst hk0
    have e : x.to s ((0 : Nat) : Int) = x.home s := by simp [Inst.to]
    rw [e] at h4 ⊢
    unfold Inst.home at h4 ⊢
    split at h4
    · simp at h4
    · rename_i hh
      rw [if_neg hh]
      have hon : s.on = 0 := by
        simp only [Inst.stayB, Bool.or_eq_true, decide_eq_true_eq, not_or] at hh
        have := hh.1.1.1.2
        omega
      have hl : s.load = 0 := by rw [hg.load, hon, sumOn_zero]
      refine ⟨⟨hg.eq, hg.on, hg.order, by show (0 : Int) = sumOn x p s.on; rw [hon, sumOn_zero], by show (0 : Int) ≤ x.room; have := hx.room; omega⟩, by omega, by omega, by simp [Inst.homeS], by rw [if_neg (by omega), if_neg (by omega)]; rfl, by rw [if_neg (by omega), hl]; rfl⟩
  have hk63 : k ≤ 63 := by omega
  by_cases hkp : k ≤ p
  · have e : x.to s (k : Int) = x.take s k := by rw [Inst.to, if_neg (by omega), if_pos (by omega)]
    rw [e] at h4 ⊢
    have hd := hx.take (k := k) (by omega) hkp
    unfold Inst.take at h4 ⊢
    split at h4
    · simp at h4
    rename_i hh
    rw [if_neg hh]
    split at h4
    rotate_left
    · rename_i h8; exact absurd h4 h8
    rename_i h8
    rw [if_pos h8]
    obtain ⟨e1, e2⟩ := hvis h8
    rw [e1]
    rw [has_testN hk63] at e2
    have hroom : s.load + (x.stop k).demand ≤ x.room := by
      simp only [Inst.fullB, Bool.or_eq_true, decide_eq_true_eq, not_or] at hh
      omega
    have hnon : s.on.testBit k = false := by rw [hg.on k (by omega) hkp, e2, Bool.false_and]
    have hpos := sumOn_pos hx s.on p (Nat.le_refl _)
    have hload := hg.load
    have hmax : max (s.load + (x.stop k).demand) 0 = s.load + (x.stop k).demand := by omega
    refine ⟨⟨by show withN s.can k = withN s.must k; rw [hg.eq], fun i i1 i2 => ?_, fun i i1 i2 i3 => ?_, ?_, ?_⟩, by omega, by omega, ?_, ?_, ?_⟩
    · show (withN s.on k).testBit i = ((withN s.must k).testBit i && !(withN s.must k).testBit (i + p))
      rw [with_bit hk63, with_bit hk63, with_bit hk63, hg.on i i1 i2]
      have : decide (k = i + p) = false := by simp; omega
      rw [this, Bool.or_false]
      by_cases hki : k = i
      · subst hki
        have hb : s.must.testBit (k + p) = false := by
          cases hq : s.must.testBit (k + p) with
          | false => rfl
          | true => rw [hg.order k i1 i2 hq] at e2; cases e2
        simp [hb]
      · simp [hki]
    · have i3' : (withN s.must k).testBit (i + p) = true := i3
      show (withN s.must k).testBit i = true
      rw [with_bit hk63] at i3' ⊢
      have : decide (k = i + p) = false := by simp; omega
      rw [this, Bool.or_false] at i3'
      rw [hg.order i i1 i2 i3', Bool.true_or]
    · show max (s.load + (x.stop k).demand) 0 = sumOn x p (withN s.on k)
      rw [sumOn_with x hk63 hnon (by omega) p (by omega), if_pos hkp, hmax, hload]
    · show max (s.load + (x.stop k).demand) 0 ≤ x.room
      omega
    · rw [if_pos (by omega)]; rfl
    · rw [if_neg (by omega), if_pos (by omega)]
    · rw [if_pos (by omega)]; exact hmax
  · obtain ⟨q, rfl⟩ : ∃ q, k = q + p := ⟨k - p, by omega⟩
    have hq1 : 1 ≤ q := by omega
    have hq2 : q ≤ p := by omega
    have hq63 : q ≤ 63 := by omega
    have ej : ((q + p : Nat) : Int) - x.pairs = (q : Int) := by omega
    have e : x.to s ((q + p : Nat) : Int) = x.bring s (q + p : Nat) := by rw [Inst.to, if_neg (by omega), if_neg (by omega)]
    rw [e] at h4 ⊢
    have hd := hx.take (k := q) hq1 hq2
    have hb := hx.bring (k := q) hq1 hq2
    unfold Inst.bring at h4 ⊢
    split at h4
    · simp at h4
    rename_i hh
    rw [if_neg hh]
    split at h4
    rotate_left
    · rename_i h8; exact absurd h4 h8
    rename_i h8
    rw [if_pos h8]
    obtain ⟨e1, e2⟩ := hvis h8
    rw [e1, ej]
    rw [has_testN hk63] at e2
    have hcan : s.must.testBit q = true := by
      simp only [Inst.emptyB, Bool.or_eq_true, decide_eq_true_eq, not_or, ej] at hh
      have := hh.2
      rw [has_testN hq63, hg.eq] at this
      simpa using this
    have hon : s.on.testBit q = true := by rw [hg.on q hq1 hq2, hcan, e2]; rfl
    have hpos := sumOn_pos hx (withoutN s.on q) p (Nat.le_refl _)
    have hload := hg.load
    have hsum := sumOn_without x hq63 hon hq1 p (by omega)
    rw [if_pos hq2] at hsum
    have hmax : max (s.load + (x.stop (q + p : Nat)).demand) 0 = s.load + (x.stop (q + p : Nat)).demand := by omega
    refine ⟨⟨by show withN s.can (q + p : Nat) = withN s.must (q + p : Nat); rw [hg.eq], fun i i1 i2 => ?_, fun i i1 i2 i3 => ?_, ?_, ?_⟩, by omega, by omega, ?_, ?_, ?_⟩
    · show (withoutN s.on q).testBit i = ((withN s.must (q + p : Nat)).testBit i && !(withN s.must (q + p : Nat)).testBit (i + p))
      rw [without_bit hq63 (by omega), with_bit hk63, with_bit hk63, hg.on i i1 i2]
      have : decide (q + p = i) = false := by simp; omega
      rw [this, Bool.or_false]
      have e5 : decide (q + p = i + p) = decide (q = i) := by simp
      rw [e5]
      by_cases hki : q = i
      · simp [hki]
      · simp [hki]
    · have i3' : (withN s.must (q + p : Nat)).testBit (i + p) = true := i3
      show (withN s.must (q + p : Nat)).testBit i = true
      rw [with_bit hk63] at i3' ⊢
      by_cases hki : q = i
      · subst hki
        rw [hcan, Bool.true_or]
      · have : decide (q + p = i + p) = false := by simp; omega
        rw [this, Bool.or_false] at i3'
        rw [hg.order i i1 i2 i3', Bool.true_or]
    · show max (s.load + (x.stop (q + p : Nat)).demand) 0 = sumOn x p (withoutN s.on q)
      omega
    · show max (s.load + (x.stop (q + p : Nat)).demand) 0 ≤ x.room
      have := hg.room
      omega
    · rw [if_pos (by omega)]; rfl
    · rw [if_pos (by omega)]
    · rw [if_pos (by omega)]; exact hmax
theorem follow_is {x : Inst} {path : List Int} (h : (x.follow path).2.2 = 0) : x.may = true ∧ x.goes path x.rootS 0 = some ((x.follow path).1, (x.follow path).2.1) := by
  unfold Inst.follow at h ⊢
  split at h
  · rename_i hm
    rw [if_pos hm]
    refine ⟨hm, ?_⟩
    cases hg : x.goes path x.rootS 0 with
    | none => rw [hg] at h; simp [folR] at h
    | some r => rfl
  · simp at h
end Go.Proofs.Ytlhmchdfmjfmgaa

/- What moves do, plainly; no move costs less than the bound falls. -/
set_option maxRecDepth 4000
namespace Go.Proofs.Ytlhmchdfmjfmgaa
open Go Go.Proofs.Ytlhmchdfmjfmgaa.R
theorem move_pos {x : Inst} {s : State} {j : Int} (h : (x.move s j).2.2 = true) (hj : j ≠ 0) : x.may = true ∧ s.mayB x = true ∧ 0 < j ∧ j ≤ 2 * x.pairs ∧ x.lateB s j = false ∧ (j ≤ x.pairs → x.fullB s j = false) ∧ (x.pairs < j → x.emptyB s j = false) ∧
    x.move s j = (x.rvisit s j (x.begins s j), far (x.stop s.spot) (x.stop j), true) := by
  obtain ⟨h1, h2, h3, h4, h5⟩ := move_is h
  have k1 : x.lateB s j = false := by
    cases e : x.lateB s j with
    | false => rfl
    | true => rw [to_not hj (.inl e)] at h4; cases h4
  have k2 : j ≤ x.pairs → x.fullB s j = false := fun hp => by
    cases e : x.fullB s j with
    | false => rfl
    | true => rw [to_not hj (.inr (.inl ⟨hp, e⟩))] at h4; cases h4
  have k3 : x.pairs < j → x.emptyB s j = false := fun hp => by
    cases e : x.emptyB s j with
    | false => rfl
    | true => rw [to_not hj (.inr (.inr ⟨hp, e⟩))] at h4; cases h4
  refine ⟨h1, h2, by omega, h3.2, k1, k2, k3, ?_⟩
  rw [h5, to_visit hj k1 k2 k3]
theorem move_home {x : Inst} {s : State} (h : (x.move s 0).2.2 = true) : x.may = true ∧ s.mayB x = true ∧ x.stayB s = false ∧ x.move s 0 = (x.homeS s, far (x.stop s.spot) (x.stop 0), true) := by
  obtain ⟨h1, h2, h3, h4, h5⟩ := move_is h
  have e : x.to s 0 = x.home s := by simp [Inst.to]
  rw [e] at h4 h5
  have k1 : x.stayB s = false := by
    cases c : x.stayB s with
    | false => rfl
    | true => rw [Inst.home, if_pos c] at h4; cases h4
  refine ⟨h1, h2, k1, ?_⟩
  rw [h5, Inst.home, if_neg (by simp [k1])]
theorem has_withN {t k : Nat} (hk : k ≤ 63) (i : Nat) : hasB (withN t k) i = (hasB t i || decide (i = k)) := by
  by_cases hi : i ≤ 63
  · rw [has_testN hi, has_testN hi, with_bit hk]
    by_cases e : i = k
    · subst e; simp
    · have : ¬ k = i := fun h => e h.symm
      simp [e, this]
  · have e1 : ∀ u, hasB u (i : Int) = false := fun u => by simp [hasB]; omega
    have : ¬ i = k := by omega
    simp [e1, this]
theorem lefts_past {may j : Nat} (hj : j ≤ 63) : ∀ (i : Nat) (l : List Int), j < i → lefts (withN may j) i l = lefts may i l
  | _, [], _ => rfl
  | i, d :: l, h => by
    rw [lefts, lefts, lefts_past hj (i + 1) l (by omega), has_withN hj]
    have : ¬ i = j := by omega
    simp [this]
theorem lefts_with {may j : Nat} (hj : j ≤ 63) (h1 : 1 ≤ j) : ∀ (i : Nat) (l : List Int), i ≤ j → (∀ d ∈ l, 0 ≤ d ∧ d ≤ 14143) → lefts may i l ≤ lefts (withN may j) i l + l.getD (j - i) 0
  | _, [], _, _ => by simp [lefts]
  | i, d :: l, h, hd => by
    have h0 := hd d List.mem_cons_self
    have hd' : ∀ e ∈ l, 0 ≤ e ∧ e ≤ 14143 := fun e he => hd e (List.mem_cons_of_mem _ he)
    rw [lefts, lefts, has_withN hj]
    by_cases e : i = j
    · subst e
      rw [lefts_past hj (i + 1) l (by omega)]
      simp only [Nat.sub_self, List.getD_cons_zero, decide_true, Bool.or_true]
      split <;> simp <;> omega
    · have := lefts_with (may := may) hj h1 (i + 1) l (by omega) hd'
      have e2 : j - i = (j - (i + 1)) + 1 := by omega
      rw [e2, List.getD_cons_succ]
      have e3 : decide (i = j) = false := decide_eq_false e
      rw [e3, Bool.or_false]
      omega
theorem nearF_lower {k : Nat} {b : Stop} : ∀ (l : List Stop) (i : Nat) (v : Int), nearF k b i l v ≤ v
  | [], _, v => Int.le_refl _
  | a :: l, i, v => by
    rw [nearF]
    have := nearF_lower (k := k) (b := b) l (i + 1) (if i = k then v else min v (far a b))
    split at this <;> split <;> omega
theorem nearF_far {k : Nat} {b : Stop} : ∀ (l : List Stop) (i m : Nat) (v : Int) (hm : m < l.length), i + m ≠ k → nearF k b i l v ≤ far l[m] b
  | [], _, m, _, hm, _ => by simp at hm
  | a :: l, i, 0, v, _, hne => by
    rw [nearF, if_neg (by omega)]
    have := nearF_lower (k := k) (b := b) l (i + 1) (min v (far a b))
    simp only [List.getElem_cons_zero]
    omega
  | a :: l, i, m + 1, v, hm, hne => by
    rw [nearF]
    simpa using nearF_far l (i + 1) m _ (by simpa using hm) (by omega)
theorem nearK_far (x : Inst) {k m : Nat} (b : Stop) (hm : m < x.stops.length) (hne : m ≠ k) : x.nearK k b ≤ far x.stops[m] b := by
  have h1 := nearF_far (k := k) (b := b) x.stops 0 m inf hm (by omega)
  have h2 := far_le x.stops[m] b
  have hinf : inf = 1152921504606846976 := rfl
  unfold Inst.nearK
  rcases nearF_le k b 0 x.stops inf (.inr rfl) with h | h
  · rw [Int.tmod_eq_of_lt h.1 (by omega)]; exact h1
  · omega
theorem near_may {x : Inst} (h : x.may = true) : x.near = nears x 0 x.stops := by rw [Inst.near, if_pos h]
theorem near_getD {x : Inst} {p : Nat} (hx : x.Fit p) (h : x.may = true) {k : Nat} (hk : k ≤ 2 * p) : x.near.getD k 0 = x.nearK k (x.stop k) := by
  have hl := hx.len
  rw [near_may h, List.getD_eq_getElem?_getD, List.getElem?_eq_getElem (by rw [nears_len]; omega), nears_get x 0 x.stops k (by omega), Inst.stop_at (by omega)]
  simp
theorem near_far {x : Inst} {p : Nat} (hx : x.Fit p) (h : x.may = true) {k m : Nat} (hk : k ≤ 2 * p) (hm : m ≤ 2 * p) (hne : m ≠ k) : x.near.getD k 0 ≤ far (x.stop m) (x.stop k) := by
  have hl := hx.len
  rw [near_getD hx h hk, Inst.stop_at (k := m) (by omega)]
  exact nearK_far x _ _ hne
theorem near_length {x : Inst} {p : Nat} (hx : x.Fit p) (h : x.may = true) : x.near.length = 2 * p + 1 := by rw [near_may h, nears_len, hx.len]
theorem lowP_cons {near : List Int} {may : Nat} (h : 2 ≤ near.length) : lowP near may = near.getD 0 0 + lefts may 0 near := by
  match near, h with
  | a :: b :: l, _ => rfl
  | [], h => simp at h
  | [_], h => simp at h
theorem lowP_in {near : List Int} (hn : ∀ d ∈ near, 0 ≤ d ∧ d ≤ 14143) (may : Nat) : 0 ≤ lowP near may ∧ lowP near may ≤ 14143 * (near.length + 1) := by
  by_cases h : 2 ≤ near.length
  · rw [lowP_cons h]
    have h1 := lefts_in may 0 near hn
    have h2 : 0 ≤ near.getD 0 0 ∧ near.getD 0 0 ≤ 14143 := by
      rw [List.getD_eq_getElem?_getD, List.getElem?_eq_getElem (by omega)]
      exact hn _ (List.getElem_mem _)
    omega
  · match near, h with
    | [], _ => simp [lowP]
    | [_], _ => simp [lowP]
    | a :: b :: l, h => simp at h
/-- A state whose stop, if it is not the yard, was surely seen. -/
def State.seenAt (s : State) : Prop := s.spot = 0 ∨ hasB s.must s.spot = true
theorem low_step {x : Inst} {s : State} {j : Int} (hs : s.seenAt) (h : (x.move s j).2.2 = true) : lowP x.near s.can ≤ (x.move s j).2.1 + lowP x.near (x.move s j).1.can := by
  by_cases hj : j = 0
  · subst hj
    obtain ⟨_, _, _, e⟩ := move_home h
    rw [e]
    have := (far_le (x.stop s.spot) (x.stop 0)).1
    show _ ≤ far (x.stop s.spot) (x.stop 0) + lowP x.near s.can
    omega
  · obtain ⟨hm, hmay, h1, h2, h3, _, _, e⟩ := move_pos h hj
    obtain ⟨p, hx⟩ := x.fit hm
    have hp := hx.pairs
    have hfew := hx.few
    have hst := s.fit hx hmay
    rw [e]
    show _ ≤ far (x.stop s.spot) (x.stop j) + lowP x.near (withN s.can j)
    obtain ⟨k, rfl⟩ : ∃ k : Nat, j = k := ⟨j.toNat, by omega⟩
    obtain ⟨m, hmm⟩ : ∃ m : Nat, s.spot = m := ⟨s.spot.toNat, by have := hst.spot; omega⟩
    have hne : m ≠ k := by
      rintro rfl
      rcases hs with hs | hs
      · omega
      · rw [Inst.lateB, ← hmm, hs] at h3; simp at h3
    have hlen := near_length hx hm
    have hf := near_far hx hm (k := k) (m := m) (by omega) (by have := hst.spot; omega) hne
    rw [lowP_cons (by omega), lowP_cons (by omega), hmm]
    have := lefts_with (may := s.can) (j := k) (by omega) (by omega) 0 x.near (by omega) (near_le x)
    rw [Nat.sub_zero] at this
    omega
theorem lefts_all {may : Nat} : ∀ (i : Nat) (l : List Int), (∀ j : Nat, i ≤ j → j < i + l.length → 0 < j → hasB may j = true) → lefts may i l = 0
  | _, [], _ => rfl
  | i, d :: l, h => by
    rw [lefts, lefts_all (i + 1) l fun j h1 h2 h3 => h j (by omega) (by simp only [List.length_cons]; omega) h3]
    have : ¬ (0 < i ∧ hasB may i = false) := fun ⟨h1, h2⟩ => by
      rw [h i (Nat.le_refl _) (by simp) h1] at h2
      cases h2
    rw [if_neg this]
    rfl
theorem end_is {x : Inst} {s : State} (h : (x.endS s).2 = true) : x.may = true ∧ ((x.pairs = 0 ∧ s = x.rootS ∧ x.endS s = (0, true)) ∨
    (s.mayB x = true ∧ s.spot ≠ 0 ∧ s.on = 0 ∧ x.allB s.can = true ∧ s.time + far (x.stop s.spot) (x.stop 0) ≤ (x.stop 0).due ∧ x.endS s = (far (x.stop s.spot) (x.stop 0), true))) := by
  unfold Inst.endS at h ⊢
  split at h
  · cases h
  · rename_i h1
    have hm : x.may = true := by simpa using h1
    refine ⟨hm, ?_⟩
    rw [if_neg h1]
    split at h
    · rename_i h2
      rw [if_pos h2]
      exact .inl ⟨h2.1, h2.2, rfl⟩
    · rename_i h2
      rw [if_neg h2]
      split at h
      · rename_i h3
        rw [if_pos h3]
        exact .inr ⟨h3.1, h3.2.1, h3.2.2.1, h3.2.2.2.1, h3.2.2.2.2, rfl⟩
      · cases h
theorem low_end {x : Inst} {s : State} (h : (x.endS s).2 = true) : lowP x.near s.can ≤ (x.endS s).1 := by
  obtain ⟨hm, h⟩ := end_is h
  obtain ⟨p, hx⟩ := x.fit hm
  have hp := hx.pairs
  have hlen := near_length hx hm
  rcases h with ⟨h1, h2, e⟩ | ⟨h1, h2, h3, h4, h5, e⟩
  · rw [e]
    have : x.near.length = 1 := by omega
    match hn : x.near, this with
    | [a], _ => simp [lowP]
  · have hst := s.fit hx h1
    have hp1 : 1 ≤ p := by have := hst.spot; omega
    rw [e, lowP_cons (by omega), lefts_all 0 x.near fun j _ hj h0 => by
      have := hx.few
      rw [has_testN (by omega)]
      exact Inst.all_bit hx h4 (by omega) (by omega)]
    obtain ⟨m, hmm⟩ : ∃ m : Nat, s.spot = m := ⟨s.spot.toNat, by have := hst.spot; omega⟩
    have hf := near_far hx hm (k := 0) (m := m) (by omega) (by have := hst.spot; omega) (by omega)
    rw [hmm]
    show _ ≤ far (x.stop m) (x.stop 0)
    have e0 : x.stop ((0 : Nat) : Int) = x.stop 0 := rfl
    rw [e0] at hf
    omega
/-- Where a move leads to was surely seen. -/
theorem seen_step {x : Inst} {s : State} {j : Int} (h : (x.move s j).2.2 = true) : (x.move s j).1.seenAt := by
  by_cases hj : j = 0
  · subst hj
    obtain ⟨_, _, _, e⟩ := move_home h
    rw [e]
    exact .inl rfl
  · obtain ⟨hm, _, h1, h2, _, _, _, e⟩ := move_pos h hj
    obtain ⟨p, hx⟩ := x.fit hm
    have hp := hx.pairs
    have hfew := hx.few
    rw [e]
    refine .inr ?_
    show hasB (withN s.must j) j = true
    obtain ⟨k, rfl⟩ : ∃ k : Nat, j = k := ⟨j.toNat, by omega⟩
    rw [has_withN (by omega)]
    simp
end Go.Proofs.Ytlhmchdfmjfmgaa

/- BoundSteps, BoundWays: what the laws give. -/
set_option maxRecDepth 4000
namespace Go.Proofs.Ytlhmchdfmjfmgaa
open Go Go.Proofs.Ytlhmchdfmjfmgaa.R
theorem canB_mem {f : Nat → Bool} : ∀ {n : Nat} {j : Int}, j ∈ canB f n → ∃ k : Nat, j = k ∧ k < n ∧ f k = true
  | 0, j, h => by cases h
  | n + 1, j, h => by
    rw [canB, List.mem_append] at h
    rcases h with h | h
    · obtain ⟨k, h1, h2, h3⟩ := canB_mem h
      exact ⟨k, h1, by omega, h3⟩
    · split at h
      · rename_i hf
        rw [List.mem_singleton] at h
        exact ⟨n, h, by omega, hf⟩
      · cases h
theorem moves_mem {x : Inst} {s : State} {j : Int} (h : j ∈ x.moves s) : (x.move s j).2.2 = true := by
  rw [moves_can] at h
  obtain ⟨k, rfl, _, h3⟩ := canB_mem h
  exact h3
theorem moves_len (x : Inst) (s : State) : (x.moves s).length ≤ x.stops.length := by
  rw [moves_can]
  exact canB_len _ _
theorem move_cost {x : Inst} {s : State} {j : Int} (h : (x.move s j).2.2 = true) : 0 ≤ (x.move s j).2.1 ∧ (x.move s j).2.1 ≤ 14143 := by
  obtain ⟨_, _, _, _, e⟩ := move_is h
  rw [e]
  exact far_le _ _
end Go.Proofs.Ytlhmchdfmjfmgaa

/- BoundWays: what the law gives. -/
set_option maxRecDepth 4000
namespace Go.Proofs.Ytlhmchdfmjfmgaa
open Go Go.Proofs.Ytlhmchdfmjfmgaa.R
theorem sumI_two {a b : Int} (ha : 0 ≤ a) (hb : 0 ≤ b) (h : a + b ≤ 1152921504606846976) : sumI [a, b] = a + b := by
  simp only [sumI, List.foldl_cons, List.foldl_nil, sum1]
  omega
/-- Moves that can be followed: as costs that don't grow too great. -/
theorem goes_app (x : Inst) : ∀ (l m : List Int) (s : State) (c : Int), x.goes (l ++ m) s c = (x.goes l s c).bind fun r => x.goes m r.1 r.2
  | [], m, s, c => rfl
  | j :: l, m, s, c => by
    rw [List.cons_append, Inst.goes, Inst.goes]
    split
    · exact goes_app x l m _ _
    · rfl
theorem goes_facts (x : Inst) : ∀ (l : List Int) (s : State) (c : Int) (s' : State) (c' : Int), s.seenAt → 0 ≤ c → c + 14143 * l.length < 9223372036854775808 → x.goes l s c = some (s', c') →
    s'.seenAt ∧ c ≤ c' ∧ c' ≤ c + 14143 * l.length ∧ lowP x.near s.can + c ≤ c' + lowP x.near s'.can
  | [], s, c, s', c', hs, h0, _, h => by
    rw [Inst.goes] at h
    cases h
    refine ⟨hs, Int.le_refl _, by simp, by omega⟩
  | j :: l, s, c, s', c', hs, h0, hlt, h => by
    rw [Inst.goes] at h
    split at h
    · rename_i hm
      have h1 := move_cost hm
      have h2 := low_step hs hm
      rw [List.length_cons] at hlt
      rw [w64 _ (by omega)] at h
      obtain ⟨g1, g2, g3, g4⟩ := goes_facts x l _ _ s' c' (seen_step hm) (by omega) (by omega) h
      rw [List.length_cons]
      exact ⟨g1, by omega, by omega, by omega⟩
    · cases h
theorem seen_root (x : Inst) : x.rootS.seenAt := by
  unfold Inst.rootS
  split <;> exact .inl rfl
theorem goes_ok (x : Inst) : ∀ (l : List Int) (s : State) (c : Int) (s' : State) (c' : Int), s.ok → x.goes l s c = some (s', c') → s'.ok
  | [], s, c, s', c', hs, h => by rw [Inst.goes] at h; cases h; exact hs
  | j :: l, s, c, s', c', hs, h => by
    rw [Inst.goes] at h
    split at h
    · exact goes_ok x l _ _ s' c' (move_ok x j hs) h
    · cases h
theorem end_cost {x : Inst} {s : State} (h : (x.endS s).2 = true) : 0 ≤ (x.endS s).1 ∧ (x.endS s).1 ≤ 14143 := by
  obtain ⟨_, h | h⟩ := end_is h
  · rw [h.2.2]; omega
  · rw [h.2.2.2.2.2]; exact far_le _ _
theorem ints_take (l : List Int) (k : Nat) : (ints l).take k = ints (l.take k) := by simp [ints, List.map_take]
theorem ints_one (l : List Int) : ∀ y ∈ ints l, y.length = 1 := by
  intro y hy
  simp only [ints, List.mem_map] at hy
  obtain ⟨n, _, rfl⟩ := hy
  rfl
end Go.Proofs.Ytlhmchdfmjfmgaa

/- Nodes with paths of their own; once of each state. -/
set_option maxRecDepth 4000
namespace Go.Proofs.Ytlhmchdfmjfmgaa
open Go Go.Proofs.Ytlhmchdfmjfmgaa.R
theorem clone_spec (l : List Int) (hl : l.length < 4294967296) (σ : Nat → AObj) (nx : Nat) : CallSpec P 55 [.t (.sl (ints l))] σ nx (.ref nx) (oput σ nx (.arr 1 (ints l))) (nx + 1) := by
  refine CallQ.spec (spec_of Try.func55 rfl rfl (by simp [Try.f55]) fun B hB hnx hσ => K_after ?_)
  simp only [Try.f55] at hB ⊢
  have hil : (ints l).length = l.length := List.length_map _
  have hne : ints l = [] ↔ l = [] := by simp [ints]
  have h1 := ints_one l
  have hmost : l.length ≤ mostLen := by show l.length ≤ 4294967296; omega
  refine K_run hB 100 ?_
  simp [go_sem]
  refine K_nilEq (es := ints l) rfl rfl (by simp [go_sem, hB]) tt50 rfl (by simp [go_sem]) fun b hb => ?_
  cases b with
  | true =>
    have e : l = [] := Decidable.byContradiction fun h => by have := hb (fun h' => h (hne.1 h')); cases this
    have e2 : ints l = [] := hne.2 e
    refine K_run hB 100 ?_
    simp [go_sem]
    refine ⟨_, fun a w hr => rel_own (t := 2) (sz := 1) (by simp [go_sem]) hr, ?_⟩
    simp [go_sem, e2]
  | false =>
    refine K_run hB 100 ?_
    simp [go_sem, hil, hne, hmost, if_pos h1]
    refine ⟨_, Imp.self, ?_⟩
    simp [go_sem]
theorem own_pure (n : Node) (hl : n.path.length < 4294967296) : Pure P 46 [n.a] (n.a) := by
  refine pure_of Try.func46 rfl rfl (by simp [Try.f46]) (by simp [bnd, bnd.bndL, Node.a, Node.cs]) (by simp [bnd, bnd.bndL, Node.a, Node.cs]) fun B hB hnx => ?_
  simp only [Try.f46] at hB ⊢
  refine K_run hB 100 ?_
  simp [go_sem, Node.a, Node.cs]
  refine K_call rfl rfl rfl (args := [.t (.sl (ints n.path))]) (f := 55) (by simp [go_sem]) (by simp [go_sem, hB]) (clone_spec n.path hl _ _) ?_
  refine K_run hB 100 ?_
  simp [go_sem]
end Go.Proofs.Ytlhmchdfmjfmgaa

/- Once of each state: the program's, by a map. -/
set_option maxRecDepth 4000
namespace Go.Proofs.Ytlhmchdfmjfmgaa
open Go Go.Proofs.Ytlhmchdfmjfmgaa.R
def sIdx (s : State) : List Node → Option Nat
  | [] => none
  | m :: l => if m.s = s then some 0 else (sIdx s l).map (· + 1)
def once1 (out : List Node) (n : Node) : List Node := match sIdx n.s out with
  | none => out ++ [n]
  | some i => if n.cost < (out.getD i n).cost then out.set i n else out
def onceL (l : List Node) : List Node := l.foldl once1 []
def State.v (s : State) : Value := .agg #[.int .i64 s.spot, .int .i64 s.car, .int .i64 s.time, .int .i64 s.load, .int .i64 s.first, .int .u64 s.must, .int .u64 s.can, .int .u64 s.on]
theorem State.v_inj {a b : State} (h : a.v = b.v) : a = b := by
  simp only [State.v, Value.agg.injEq, Array.mk.injEq, List.cons.injEq, Value.int.injEq, and_true, true_and] at h
  cases a; cases b
  simp only [State.mk.injEq]
  simp only at h
  omega
theorem State.plain (s : State) : plainA s.a = some s.v := rfl
def keysM : Nat → List Node → List (Value × AV)
  | _, [] => []
  | k, m :: l => (m.s.v, .i k) :: keysM (k + 1) l
theorem findM_keys (s : State) : ∀ (k : Nat) (out : List Node), findM s.v (keysM k out) = (sIdx s out).map fun i => (i, .i ((k + i : Nat) : Int))
  | _, [] => rfl
  | k, m :: l => by
    rw [keysM, findM, sIdx, findM_keys s (k + 1) l]
    by_cases h : m.s = s
    · rw [if_pos (by rw [h]), if_pos h]; rfl
    · rw [if_neg (fun e => h (State.v_inj e)), if_neg h, Option.map_map, Option.map_map]
      congr 1
      funext i
      simp only [Function.comp]
      rw [show k + 1 + i = k + (i + 1) by omega]
theorem keysM_app (n : Node) : ∀ (k : Nat) (out : List Node), keysM k (out ++ [n]) = keysM k out ++ [(n.s.v, .i ((k + out.length : Nat) : Int))]
  | _, [] => rfl
  | k, m :: l => by
    rw [List.cons_append, keysM, keysM, keysM_app n (k + 1) l, List.cons_append, List.length_cons, show k + 1 + l.length = k + (l.length + 1) by omega]
theorem keysM_set {n : Node} : ∀ (k i : Nat) (out : List Node) (h : i < out.length), out[i].s = n.s → keysM k (out.set i n) = keysM k out
  | _, _, [], h, _ => by simp at h
  | k, 0, m :: l, _, e => by simp only [List.set_cons_zero, keysM]; rw [show m.s = n.s from e]
  | k, i + 1, m :: l, h, e => by
    rw [List.set_cons_succ, keysM, keysM, keysM_set (k + 1) i l (by simpa using h) (by simpa using e)]
theorem sIdx_some {s : State} : ∀ {out : List Node} {i : Nat}, sIdx s out = some i → ∃ h : i < out.length, out[i].s = s
  | [], i, h => by simp [sIdx] at h
  | m :: l, i, h => by
    rw [sIdx] at h
    split at h
    · rename_i e
      cases h
      exact ⟨by simp, e⟩
    · obtain ⟨j, h1, rfl⟩ := Option.map_eq_some_iff.1 h
      obtain ⟨h2, h3⟩ := sIdx_some h1
      exact ⟨by simpa using h2, by simpa using h3⟩
theorem keys_tell (s : State) (k : Nat) (out : List Node) : TellM P 39 s.a s.v (keysM k out) := by
  induction out generalizing k with
  | nil => intro e h; cases h
  | cons m l ih =>
    intro e h
    rw [keysM] at h
    rcases List.mem_cons.1 h with rfl | h
    · refine ⟨m.s.a, m.s.plain, ?_⟩
      rw [state_eq]
      congr 1
      rw [decide_eq_decide]
      exact ⟨fun h => by rw [h], fun h => (State.v_inj h).symm⟩
    · exact ih (k + 1) e h
theorem state_key (s : State) : ckA P 10000 39 s.a = true := by kernel_rfl
theorem once1_len (out : List Node) (n : Node) : (once1 out n).length ≤ out.length + 1 := by
  unfold once1
  split
  · simp
  · split <;> simp
def nodesT (l : List Node) : List (List T) := l.map Node.t
theorem nodesT_get (l : List Node) {k : Nat} (h : k < l.length) : (nodesT l)[k]'(by rw [nodesT, List.length_map]; exact h) = l[k].t := by simp [nodesT]
theorem nodesT_len (l : List Node) : ∀ y ∈ nodesT l, y.length = 10 := by
  intro y hy
  simp only [nodesT, List.mem_map] at hy
  obtain ⟨n, _, rfl⟩ := hy
  rfl
/-- Nodes as they may be. -/
structure Node.Fine (n : Node) : Prop where
  ok : n.s.ok
  len : n.path.length < 2 ^ 31
theorem once_pure (l : List Node) (hl : l.length < 2 ^ 31) (hn : ∀ n ∈ l, n.Fine) : Pure P 22 [.t (.sl (nodesT l))] (.t (.sl (nodesT (onceL l)))) := by
  generalize hR : onceL l = R
  refine pure_of Try.func22 rfl rfl (by simp [Try.f22]) (by simp [bnd, bnd.bndL]) (by simp [bnd, bnd.bndL]) fun B hB hnx => ?_
  simp only [Try.f22] at hB ⊢
  have hil : (nodesT l).length = l.length := List.length_map _
  have hgt : ∀ (k : Nat) (h : k < l.length), (nodesT l)[k]'(by rw [hil]; exact h) = l[k].t := fun k h => nodesT_get l h
  generalize hX : nodesT l = X at *
  have hmost : mostLen = 4294967296 := rfl
  refine K_run hB 100 ?_
  simp [go_sem, hil]
  refine K_own 4 10 (by simp [go_sem]) ?_
  refine K_loopP (α := Nat × List Node × Nat × (Nat → AObj) × Nat) (fun (k, out, j, σ, nx) => k ≤ l.length ∧ (l.drop k).foldl once1 out = R ∧ out.length ≤ k ∧ σ 0 = .map (keysM 0 out) ∧ σ j = .arr 10 (nodesT out) ∧ 0 < j ∧ j < nx)
    (fun (k, out, j, σ, nx) => ⟨sl [(3, .mapr 0), (4, .ref j), (10, .t (.sl X)), (11, .i l.length), (12, .i k)], σ, nx⟩) (fun a => l.length - a.1) (0, [], 1, _, 2) ?_ (Imp.slots (by simp [go_sem, hil]) rfl rfl) ?_
  · exact ⟨Nat.zero_le _, hR, Nat.le_refl _, by simp [oput, keysM], by simp [oput, nodesT], by omega, by omega⟩
  rintro ⟨k, out, j, σ, nx⟩ ⟨g1, g2, g3, g4, g5, g6, g7⟩
  refine K_run hB 60 ?_
  simp [go_sem]
  refine fork_dec (fun hk => ?_) (fun hk => ?_)
  · have hkk : IntKind.i64.wrap ((k : Int) + 1) = ((k + 1 : Nat) : Int) := by rw [w64 ((k : Int) + 1) (by omega)]; rfl
    have hget : ∀ h : k < X.length, X[k]'h = l[k].t := fun h => hgt k hk
    rw [List.drop_eq_getElem_cons hk, List.foldl_cons] at g2
    have hfine := hn l[k] (List.getElem_mem _)
    generalize l[k] = n at *
    have hown := own_pure n (by have := hfine.len; omega)
    simp [go_sem, hil, hk, hget, Node.t, g5]
    refine K_lookup (kt := 39) (et := 3) (es := keysM 0 out) (u := n.s.v) (m := 0) (r := match sIdx n.s out with | some i => .tup [.i i, .b true] | none => .tup [.i 0, .b false]) rfl rfl (by simp [go_sem, hB]) tt94 rfl tt3 (by kernel_rfl) (by simp [go_sem]) (by simp [go_sem, g4, show ¬ 0 = nx by omega]) (by simp [go_sem]; exact n.s.plain) (by simp [go_sem]; exact state_key n.s) (by simp [go_sem]; exact keys_tell n.s 0 out) ?_ ?_
    · rw [lookA, findM_keys]
      cases sIdx n.s out with
      | none => simp [go_sem]
      | some i => simp
    have ho : once1 out n = match sIdx n.s out with
      | none => out ++ [n]
      | some i => if n.cost < (out.getD i n).cost then out.set i n else out := rfl
    have hlen : (nodesT out).length = out.length := List.length_map _
    have hnj : ¬ j = nx := by omega
    have hn0 : ¬ 0 = nx := by omega
    have h0j : ¬ 0 = j := by omega
    cases hi : sIdx n.s out with
    | none =>
      rw [hi] at ho
      simp only at ho
      rw [ho] at g2
      have hcap : out.length + 1 ≤ mostLen := by omega
      refine K_run hB 100 ?_
      simp [go_sem, g5, hlen, hnj]
      refine K_mapSet (kt := 39) (et := 3) (es := keysM 0 out) (u := n.s.v) (m := 0) rfl rfl (by simp [go_sem, hB]) tt94 rfl (by kernel_rfl) (by simp [go_sem]) (by simp [go_sem, g4, hn0]) (by simp [go_sem]; exact n.s.plain) (by simp [go_sem]; exact state_key n.s) (by simp [go_sem]; exact keys_tell n.s 0 out) (.inl (by rw [findM_keys, hi]; rfl)) ?_
      refine K_run hB 100 ?_
      simp [go_sem, show ¬ nx = 0 by omega]
      refine K_call rfl rfl rfl (args := [n.a]) (f := 46) (by simp [go_sem, Node.a, Node.cs]) (by simp [go_sem, hB]) ((hown).spec _ _) ?_
      refine K_run hB 100 ?_
      simp [go_sem, Node.a, Node.cs, g5, hlen, hcap, hnj, hkk, h0j, show ¬ j = 0 by omega]
      refine Next.mk (k + 1, out ++ [n], nx + 1, _, nx + 2) ?_ (Imp.slots (by simp [go_sem]) rfl rfl) (by simp only; omega)
      refine ⟨by simp only; omega, g2, by simp only [List.length_append, List.length_cons, List.length_nil]; omega, ?_, ?_, by simp only; omega, by simp only; omega⟩
      · simp [oput, hn0, h0j, setM, findM_keys, hi, keysM_app]
      · simp [oput, nodesT, Node.t]
    | some i =>
      obtain ⟨hil2, his⟩ := sIdx_some hi
      rw [hi] at ho
      simp only at ho
      have hgi : ∀ h : i < (nodesT out).length, (nodesT out)[i]'h = out[i].t := fun h => nodesT_get out hil2
      have hgd : out.getD i n = out[i] := by rw [List.getD_eq_getElem?_getD, List.getElem?_eq_getElem hil2]; rfl
      rw [hgd] at ho
      have q1 : i * 10 / 10 = i := by omega
      have q2 : (i * 10 + 8) / 10 = i := by omega
      have q3 : (i * 10 + 8) % 10 = 8 := by omega
      have q4 : i * 10 % 10 = 0 := by omega
      have q5 : (i : Int) < out.length := by omega
      refine K_run hB 100 ?_
      simp [go_sem]
      refine K_drawn [] rfl (by rw [hB]; kernel_rfl) ?_
      by_cases c1 : n.cost < out[i].cost
      · rw [if_pos c1] at ho
        rw [ho] at g2
        refine K_run hB 100 ?_
        simp [go_sem, g5, hlen, hnj, hgi, q2, q3, q5, hil2, Node.t, c1]
        refine K_call rfl rfl rfl (args := [n.a]) (f := 46) (by simp [go_sem, Node.a, Node.cs]) (by simp [go_sem, hB]) ((hown).spec _ _) ?_
        refine K_run hB 100 ?_
        simp [go_sem, Node.a, Node.cs, g5, hlen, hnj, hgi, q1, q4, q5, hil2, Node.t, hkk]
        refine Next.mk (k + 1, out.set i n, j, _, nx + 1) ?_ (Imp.slots (by simp [go_sem]) rfl rfl) (by simp only; omega)
        refine ⟨by simp only; omega, g2, by simp only [List.length_set]; omega, ?_, ?_, by simp only; omega, by simp only; omega⟩
        · rw [keysM_set 0 i out hil2 his]
          simp [oput, hn0, h0j, g4]
        · simp [oput, nodesT, Node.t, List.map_set]
      · rw [if_neg c1] at ho
        rw [ho] at g2
        refine K_run hB 100 ?_
        simp [go_sem, g5, hlen, hnj, hgi, q2, q3, q5, hil2, Node.t, c1, hkk]
        refine Next.mk (k + 1, out, j, _, nx + 1) ?_ (Imp.slots (by simp [go_sem]) rfl rfl) (by simp only; omega)
        refine ⟨by simp only; omega, g2, by simp only; omega, ?_, ?_, by simp only; omega, by simp only; omega⟩
        · simp [oput, hn0, g4]
        · simp [oput, hnj, g5]
  · have : k = l.length := by omega
    subst this
    rw [List.drop_length, List.foldl_nil] at g2
    subst g2
    simp [go_sem, g5]
end Go.Proofs.Ytlhmchdfmjfmgaa

/- Rows of nodes as arguments. -/
set_option maxRecDepth 100000
namespace Go.Proofs.Ytlhmchdfmjfmgaa
open Go Go.ChangeShapes Go.WideShapes Go.ChangeAt Go.RowKit Go.Proofs.Ytlhmchdfmjfmgaa.R
section
variable {H : Type} {enc : TypeId × Value → H} {W : World} {base : Nat} {sp : Nat → Bool} {held : Bool} {v : Value} {d : DataW H} {ps : List MemPlace}
theorem arg_nodes (h : DataW.Trod enc P W 0 sp held 43 v d ps) (hv : Value.okWide P W .any base 43 v) : ∃ l : List Node, l.length ≤ maxLen ∧ (∀ n ∈ l, n.In) ∧ RepA W (C0 W) (.t (.sl (nodesT l))) v := by
  obtain ⟨f, ts, h1, h2⟩ := arg_slice (tt_some tt43).1 (by kernel_rfl) h hv
  obtain ⟨l, rfl, h3, h4⟩ := has_slice (g := Node.t) (Q := Node.In) (tt_some tt43).1 (fun f x h => by
    obtain ⟨n, rfl, hn⟩ := has_node h
    exact ⟨n, rfl, hn⟩) h1
  exact ⟨l, h3, h4, h2 _ rfl⟩
end
end Go.Proofs.Ytlhmchdfmjfmgaa

/- Lists. -/
set_option maxRecDepth 4000
namespace Go.Proofs.Ytlhmchdfmjfmgaa
open Go Go.Proofs.Ytlhmchdfmjfmgaa.R
theorem filter_lt {α : Type} {p q : α → Bool} : ∀ (l : List α) {a : α}, a ∈ l → p a = true → q a = false → (∀ b, q b = true → p b = true) → (l.filter q).length < (l.filter p).length
  | b :: l, a, ha, hp, hq, h => by
    have hle : (l.filter q).length ≤ (l.filter p).length := by
      rw [← List.countP_eq_length_filter, ← List.countP_eq_length_filter]
      exact List.countP_mono_left fun b _ => h b
    rw [List.filter_cons, List.filter_cons]
    rcases List.mem_cons.1 ha with rfl | ha
    · rw [hp, hq]
      simp only [if_true, Bool.false_eq_true, if_false, List.length_cons]
      omega
    · have := filter_lt l ha hp hq h
      have hb := h b
      cases e1 : q b <;> cases e2 : p b <;> simp only [if_true, Bool.false_eq_true, if_false, List.length_cons] <;> first | omega | skip
      rw [e1] at hb
      rw [e2] at hb
      exact absurd (hb rfl) (by simp)
end Go.Proofs.Ytlhmchdfmjfmgaa
