/- Parts of the proof: Node, ArgN, Mat, MatR, Near, NearR, Bound, Bound2, StateR, StateR2, StateR3, Awake, Bound3, Bound4, Late, Ends, Steps, Seen. -/
import Derived.Test.YtdfldfkgkooaeaaMF
set_option linter.unusedVariables false
/- Nodes. -/
set_option maxRecDepth 4000
namespace Go.Proofs.Ytdfldfkgkooaeaa
open Go Go.Proofs.Ytdfldfkgkooaeaa.R
structure Node where
  s : State
  cost : Int
  path : List Int
  deriving DecidableEq
def Node.cs (n : Node) : List AV := [.i n.s.spot, .i n.s.car, .i n.s.time, .i n.s.load, .i n.s.first, .u n.s.must, .u n.s.can, .u n.s.on, .i n.cost, .t (.sl (ints n.path))]
def Node.a (n : Node) : AV := .agg n.cs
/-- As an element of a row. -/
def Node.t (n : Node) : List T := [.i n.s.spot, .i n.s.car, .i n.s.time, .i n.s.load, .i n.s.first, .v (.int .u64 n.s.must), .v (.int .u64 n.s.can), .v (.int .u64 n.s.on), .i n.cost, .sl (ints n.path)]
theorem Node.map_t (n : Node) : n.t.map .t = n.cs := rfl
end Go.Proofs.Ytdfldfkgkooaeaa

/- Nodes as arguments. -/
set_option maxRecDepth 100000
namespace Go.Proofs.Ytdfldfkgkooaeaa
open Go Go.ChangeShapes Go.WideShapes Go.ChangeAt Go.RowKit Go.Proofs.Ytdfldfkgkooaeaa.R
/-- A node as an argument may be. -/
structure Node.In (n : Node) : Prop where
  ok : n.s.ok
  len : n.path.length ≤ maxLen
  cost : -9223372036854775808 ≤ n.cost ∧ n.cost < 9223372036854775808
theorem has_node {f : Nat} {ts : List T} (h : HasT P f 30 ts) : ∃ n : Node, ts = n.t ∧ n.In := by
  obtain ⟨f', h⟩ := has_struct (tt_some tt30).1 h
  simp only [HasF] at h
  obtain ⟨a, _, rfl, _, ha, b, _, rfl, _, hb, c, _, rfl, _, hc, rfl⟩ := h
  obtain ⟨s, rfl, hs⟩ := has_state ha
  obtain ⟨n, rfl, hn⟩ := has_int (tt_some tt3).1 hb
  obtain ⟨l, rfl, hl⟩ := has_ints hc
  exact ⟨⟨s, n, l⟩, rfl, ⟨hs, hl, hn⟩⟩
section
variable {H : Type} {enc : TypeId × Value → H} {W : World} {base : Nat} {sp : Nat → Bool} {held : Bool} {v : Value} {d : DataW H} {ps : List MemPlace}
theorem arg_node (h : DataW.Trod enc P W 0 sp held 30 v d ps) (hv : Value.okWide P W .any base 30 v) : ∃ n : Node, n.In ∧ RepA W (C0 W) n.a v := by
  obtain ⟨f, ts, h1, h2⟩ := arg_struct (tt_some tt30).1 (by kernel_rfl) h hv
  obtain ⟨n, rfl, hn⟩ := has_node h1
  exact ⟨n, hn, h2⟩
end
end Go.Proofs.Ytdfldfkgkooaeaa

/- How far it is from each to each. -/
set_option maxRecDepth 4000
namespace Go.Proofs.Ytdfldfkgkooaeaa
open Go Go.Proofs.Ytdfldfkgkooaeaa.R
def Inst.row (x : Inst) (a : Stop) : List Int := x.stops.map (far a)
def Inst.mat (x : Inst) : List (List Int) := if x.may then x.stops.map x.row else []
abbrev Inst.cs (x : Inst) : List AV := [.t (.i x.pairs), .t (.i x.cars), .t (.i x.room), .t (.sl (x.stops.map Stop.t))]
theorem ints_all (l : List Int) : ∀ y ∈ ints l, y.length = 1 := by
  intro y hy
  obtain ⟨n, _, rfl⟩ := List.mem_map.1 hy
  rfl
theorem rowT_all (l : List (List Int)) : ∀ y ∈ l.map rowT, y.length = 1 := by
  intro y hy
  obtain ⟨n, _, rfl⟩ := List.mem_map.1 hy
  rfl
theorem ints_snoc (l : List Int) (n : Int) : ints l ++ [[.i n]] = ints (l ++ [n]) := by simp [ints]
def Inst.rows (x : Inst) : List (List T) := x.stops.map fun a => rowT (x.row a)
theorem Inst.rows_len (x : Inst) : x.rows.length = x.stops.length := List.length_map _
theorem Inst.row_len (x : Inst) (a : Stop) : (x.row a).length = x.stops.length := List.length_map _
theorem Inst.rows_snoc (x : Inst) {k : Nat} (h : k < x.stops.length) : x.rows.take (k + 1) = x.rows.take k ++ [rowT (x.row x.stops[k])] := by
  rw [List.take_succ_eq_append_getElem (by rw [x.rows_len]; exact h)]
  simp [Inst.rows]
theorem Inst.row_snoc (x : Inst) (a : Stop) {i : Nat} (h : i < x.stops.length) : (x.row a).take (i + 1) = (x.row a).take i ++ [far a x.stops[i]] := by
  rw [List.take_succ_eq_append_getElem (by rw [x.row_len]; exact h)]
  simp [Inst.row]
theorem Inst.mat_rows (x : Inst) : x.mat.map rowT = if x.may then x.rows else [] := by
  unfold Inst.mat
  split
  · simp [Inst.rows]
  · rfl
theorem matrix_pure (x : Inst) (hl : x.stops.length < 2 ^ 31) : Pure P 74 [x.a] (.t (.sl (x.mat.map rowT))) := by
  rw [x.mat_rows]
  refine pure_of Try.func74 rfl rfl (by simp [Try.f74]) (by simp [bnd, bnd.bndL, Inst.a]) (by split <;> simp [bnd]) fun B hB hnx => ?_
  simp only [Try.f74] at hB ⊢
  have hm : mostLen = 4294967296 := rfl
  refine K_run hB 60 ?_
  simp [go_sem, Inst.a]
  refine K_call rfl rfl rfl (args := [x.a]) (f := 36) (by simp [go_sem, Inst.a]) (by simp [go_sem, hB]) ((may_pure x (by omega)).spec _ _) ?_
  by_cases h0 : x.may = true
  rotate_left
  · have h0' : x.may = false := by simpa using h0
    rw [h0']
    refine K_run hB 60 ?_
    simp [go_sem, h0']
  rw [h0]
  refine K_run hB 60 ?_
  simp [go_sem]
  refine K_own 3 1 (by simp [go_sem]) ?_
  refine K_loopP (α := Nat × Nat × (Nat → AObj) × Nat) (fun (k, j, σ, nx) => k ≤ x.stops.length ∧ σ 0 = .box x.cs ∧ σ j = .arr 1 (x.rows.take k) ∧ 0 < j ∧ j < nx)
    (fun (k, j, σ, nx) => ⟨sl [(1, .ptr 0 0), (3, .ref j), (13, .t (.sl (x.stops.map Stop.t))), (14, .i x.stops.length), (15, .i k)], σ, nx⟩) (fun y => x.stops.length - y.1) (0, 1, _, 2)
    ?_ (Imp.slots (by simp [go_sem]) rfl rfl) ?_
  · exact ⟨Nat.zero_le _, by simp [oput], by simp [oput], by omega, by omega⟩
  rintro ⟨k, j, σ, nx⟩ ⟨g1, c0, cj, gj, gn⟩
  refine K_run hB 60 ?_
  simp [go_sem]
  refine fork_dec (fun h => ?_) (fun h => ?_)
  rotate_left
  · have : k = x.stops.length := by omega
    subst this
    rw [← x.rows_len, List.take_length] at cj
    simp [go_sem, cj, h0]
  have htk := x.rows_snoc h
  have hrl := x.rows_len
  have hkk : IntKind.i64.wrap ((k : Int) + 1) = ((k + 1 : Nat) : Int) := by rw [w64 ((k : Int) + 1) (by omega)]; rfl
  generalize ha : x.stops[k] = a at *
  have hn0 : ¬ 0 = nx := by omega
  simp [go_sem, h, ha, Stop.t, c0, hn0]
  refine K_own 6 1 (by simp [go_sem]) ?_
  refine K_loopP (α := Nat × Nat × (Nat → AObj) × Nat) (fun (i, q, σ', nx') => i ≤ x.stops.length ∧ σ' 0 = .box x.cs ∧ σ' j = .arr 1 (x.rows.take k) ∧ σ' nx = .box (a.t.map .t) ∧ σ' q = .arr 1 (ints ((x.row a).take i)) ∧ nx < q ∧ q < nx')
    (fun (i, q, σ', nx') => ⟨sl [(1, .ptr 0 0), (3, .ref j), (13, .t (.sl (x.stops.map Stop.t))), (14, .i x.stops.length), (15, .i k), (5, .ptr nx 0), (6, .ref q), (20, .t (.sl (x.stops.map Stop.t))), (21, .i x.stops.length), (22, .i i)], σ', nx'⟩) (fun y => x.stops.length - y.1) (0, nx + 1, _, nx + 2)
    ?_ (Imp.slots (by simp [go_sem]) rfl rfl) ?_
  · exact ⟨Nat.zero_le _, by simp [oput, c0, hn0], by simp [oput, cj, show j ≠ nx by omega, show j ≠ nx + 1 by omega], by simp [oput, Stop.t], by simp [oput, ints], by omega, by omega⟩
  rintro ⟨i, q, σ', nx'⟩ ⟨i1, d0, dj, da, dq, i2, i3⟩
  refine K_run hB 60 ?_
  simp [go_sem]
  refine fork_dec (fun hi => ?_) (fun hi => ?_)
  · have hti := x.row_snoc a hi
    have hrl2 := x.row_len a
    have hii : IntKind.i64.wrap ((i : Int) + 1) = ((i + 1 : Nat) : Int) := by rw [w64 ((i : Int) + 1) (by omega)]; rfl
    have hlen : (ints ((x.row a).take i)).length = i := by simp only [ints, List.length_map, List.length_take]; omega
    generalize hb : x.stops[i] = b at *
    generalize (x.row a).take i = L at dq hlen hti
    simp [go_sem, hi, hb, Stop.t, da, show ¬ nx = nx' by omega]
    refine K_call rfl rfl rfl (args := [.agg (a.t.map .t), .agg (b.t.map .t)]) (f := 83) (by simp [go_sem, Stop.t]) (by simp [go_sem, hB]) ((far_pure a b).spec _ _) ?_
    have hcap : i + 1 ≤ mostLen := by omega
    refine K_run hB 60 ?_
    simp [go_sem, dq, show ¬ q = nx' by omega, hlen, hcap, hii]
    refine Next.mk (i + 1, nx' + 1, _, nx' + 2) ?_ (Imp.slots (by simp [go_sem]) rfl rfl) (by simp only; omega)
    refine ⟨by simp only; omega, ?_, ?_, ?_, ?_, by simp only; omega, by simp only; omega⟩
    · simp [oput, d0, show ¬ 0 = nx' by omega, show ¬ 0 = q by omega]
    · simp [oput, dj, show ¬ j = nx' by omega, show ¬ j = q by omega, show ¬ j = nx' + 1 by omega]
    · simp [oput, da, show ¬ nx = nx' by omega, show ¬ nx = q by omega, show ¬ nx = nx' + 1 by omega, Stop.t]
    · simp [oput, hti, ints_snoc]
  · have : i = x.stops.length := by omega
    subst this
    rw [← x.row_len a, List.take_length] at dq
    simp [go_sem]
    refine K_imp (Imp.freeze (q := q) (sz := 1) (es := ints (x.row a)) (by simp [go_sem, dq])) ?_
    have hj0 : ¬ j = q := by omega
    have hlen : (x.rows.take k).length = k := by rw [List.length_take]; omega
    generalize x.rows.take k = R at dj hlen htk
    have hcap : k + 1 ≤ mostLen := by omega
    refine K_run hB 60 ?_
    simp [go_sem, frz1, frzO, hj0, dj, hkk, hlen, hcap]
    refine Next.mk (k + 1, nx', _, nx' + 1) ?_ (Imp.slots (by simp [go_sem, frz1]) rfl rfl) (by simp only; omega)
    refine ⟨by simp only; omega, ?_, ?_, by simp only; omega, by simp only; omega⟩
    · simp [oput, d0, frzO, frz1.frzL, frz1, show ¬ 0 = nx' by omega, show ¬ 0 = j by omega, show ¬ 0 = q by omega]
    · simp [oput, htk, rowT]
end Go.Proofs.Ytdfldfkgkooaeaa

/- How far it is from each to each: the document's. -/
set_option maxRecDepth 4000
namespace Go.Proofs.Ytdfldfkgkooaeaa
open Go Go.Proofs.Ytdfldfkgkooaeaa.R
theorem rmatrix_pure (x : Inst) (hl : x.stops.length < 2 ^ 31) : Pure P 76 [x.a] (.t (.sl (x.mat.map rowT))) := by
  rw [x.mat_rows]
  refine pure_of Try.func76 rfl rfl (by simp [Try.f76]) (by simp [bnd, bnd.bndL, Inst.a]) (by split <;> simp [bnd]) fun B hB hnx => ?_
  simp only [Try.f76] at hB ⊢
  have hm : mostLen = 4294967296 := rfl
  refine K_run hB 60 ?_
  simp [go_sem, Inst.a]
  refine K_call rfl rfl rfl (args := [x.a]) (f := 60) (by simp [go_sem, Inst.a]) (by simp [go_sem, hB]) ((rmay_pure x (by omega)).spec _ _) ?_
  by_cases h0 : x.may = true
  rotate_left
  · have h0' : x.may = false := by simpa using h0
    rw [h0']
    refine K_run hB 60 ?_
    simp [go_sem, h0']
  rw [h0]
  refine K_run hB 60 ?_
  simp [go_sem]
  refine K_own 4 1 (by simp [go_sem]) ?_
  refine K_loopP (α := Nat × Nat × (Nat → AObj) × Nat) (fun (k, j, σ, nx) => k ≤ x.stops.length ∧ σ 0 = .box x.cs ∧ σ j = .arr 1 (x.rows.take k) ∧ 0 < j ∧ j < nx)
    (fun (k, j, σ, nx) => ⟨sl [(1, .ptr 0 0), (4, .ref j), (5, .i k)], σ, nx⟩) (fun y => x.stops.length - y.1) (0, 1, _, 2)
    ?_ (Imp.slots (by simp [go_sem]) rfl rfl) ?_
  · exact ⟨Nat.zero_le _, by simp [oput], by simp [oput], by omega, by omega⟩
  rintro ⟨k, j, σ, nx⟩ ⟨g1, c0, cj, gj, gn⟩
  refine K_run hB 60 ?_
  simp [go_sem, c0]
  refine fork_dec (fun h => ?_) (fun h => ?_)
  rotate_left
  · have : k = x.stops.length := by omega
    subst this
    rw [← x.rows_len, List.take_length] at cj
    simp [go_sem, cj, h0]
  have htk := x.rows_snoc h
  have hrl := x.rows_len
  have hkk : IntKind.i64.wrap ((k : Int) + 1) = ((k + 1 : Nat) : Int) := by rw [w64 ((k : Int) + 1) (by omega)]; rfl
  generalize ha : x.stops[k] = a at *
  simp [go_sem]
  refine K_own 6 1 (by simp [go_sem]) ?_
  refine K_loopP (α := Nat × Nat × (Nat → AObj) × Nat) (fun (i, q, σ', nx') => i ≤ x.stops.length ∧ σ' 0 = .box x.cs ∧ σ' j = .arr 1 (x.rows.take k) ∧ σ' q = .arr 1 (ints ((x.row a).take i)) ∧ nx ≤ q ∧ q < nx')
    (fun (i, q, σ', nx') => ⟨sl [(1, .ptr 0 0), (4, .ref j), (5, .i k), (6, .ref q), (7, .i i)], σ', nx'⟩) (fun y => x.stops.length - y.1) (0, nx, _, nx + 1)
    ?_ (Imp.slots (by simp [go_sem]) rfl rfl) ?_
  · exact ⟨Nat.zero_le _, by simp [oput, c0, show ¬ 0 = nx by omega], by simp [oput, cj, show j ≠ nx by omega], by simp [oput, ints], by omega, by omega⟩
  rintro ⟨i, q, σ', nx'⟩ ⟨i1, d0, dj, dq, i2, i3⟩
  refine K_run hB 60 ?_
  simp [go_sem, d0]
  refine fork_dec (fun hi => ?_) (fun hi => ?_)
  · have hti := x.row_snoc a hi
    have hrl2 := x.row_len a
    have hii : IntKind.i64.wrap ((i : Int) + 1) = ((i + 1 : Nat) : Int) := by rw [w64 ((i : Int) + 1) (by omega)]; rfl
    have hlen : (ints ((x.row a).take i)).length = i := by simp only [ints, List.length_map, List.length_take]; omega
    generalize hb : x.stops[i] = b at *
    generalize (x.row a).take i = L at dq hlen hti
    have hcap : i + 1 ≤ mostLen := by omega
    simp [go_sem]
    refine K_drawnT [13] rfl (by rw [hB]; kernel_rfl) (by kernel_rfl) fun ht => ?_
    refine K_run hB 60 ?_
    simp [go_sem, ht, d0, h, hi, ha, hb, Stop.t]
    refine K_dCallP rfl rfl rfl (args := [.agg (a.t.map .t), .agg (b.t.map .t)]) (f := 55) (by simp [go_sem, Stop.t]) (rfar_pure a b) ?_
    refine K_run hB 60 ?_
    simp [go_sem, ht, dq, hlen, hcap, hii]
    refine Next.mk (i + 1, nx', _, nx' + 1) ?_ (Imp.slots (by simp [go_sem]) rfl rfl) (by simp only; omega)
    refine ⟨by simp only; omega, ?_, ?_, ?_, by simp only; omega, by simp only; omega⟩
    · simp [oput, d0, show ¬ 0 = nx' by omega, show ¬ 0 = q by omega]
    · simp [oput, dj, show ¬ j = nx' by omega, show ¬ j = q by omega]
    · simp [oput, hti, ints_snoc]
  · have : i = x.stops.length := by omega
    subst this
    rw [← x.row_len a, List.take_length] at dq
    simp [go_sem]
    refine K_imp (Imp.freeze (q := q) (sz := 1) (es := ints (x.row a)) (by simp [go_sem, dq])) ?_
    have hj0 : ¬ j = q := by omega
    have hlen : (x.rows.take k).length = k := by rw [List.length_take]; omega
    generalize x.rows.take k = R at dj hlen htk
    have hcap : k + 1 ≤ mostLen := by omega
    refine K_run hB 60 ?_
    simp [go_sem, frz1, frzO, hj0, dj, hkk, hlen, hcap]
    refine Next.mk (k + 1, nx', _, nx' + 1) ?_ (Imp.slots (by simp [go_sem, frz1]) rfl rfl) (by simp only; omega)
    refine ⟨by simp only; omega, ?_, ?_, by simp only; omega, by simp only; omega⟩
    · simp [oput, d0, frzO, frz1.frzL, frz1, show ¬ 0 = nx' by omega, show ¬ 0 = j by omega, show ¬ 0 = q by omega]
    · simp [oput, htk, rowT]
end Go.Proofs.Ytdfldfkgkooaeaa

/- How far it is to each from the nearest other one. -/
set_option maxRecDepth 4000
namespace Go.Proofs.Ytdfldfkgkooaeaa
open Go Go.Proofs.Ytdfldfkgkooaeaa.R
def inf : Int := 1152921504606846976
theorem far_in (a b : Stop) : 0 ≤ far a b ∧ far a b < inf := by
  have h := sq_in a b
  unfold far rootI inf
  split
  · omega
  · have := rootL_lt (min (sq a b) 1152921504606846976).toNat 31 0
    simp only [Nat.reducePow, Nat.zero_add] at this
    omega
/-- The least of the others so far. -/
def nearF (k : Nat) (b : Stop) : Nat → List Stop → Int → Int
  | _, [], v => v
  | i, a :: l, v => nearF k b (i + 1) l (if i = k then v else min v (far a b))
def Inst.nearK (x : Inst) (k : Nat) (b : Stop) : Int := (nearF k b 0 x.stops inf).tmod inf
def nears (x : Inst) : Nat → List Stop → List Int
  | _, [] => []
  | k, b :: l => x.nearK k b :: nears x (k + 1) l
def Inst.near (x : Inst) : List Int := if x.may then nears x 0 x.stops else []
theorem nears_len (x : Inst) : ∀ k l, (nears x k l).length = l.length
  | _, [] => rfl
  | k, b :: l => by rw [nears, List.length_cons, nears_len x (k + 1) l, List.length_cons]
theorem nears_get (x : Inst) : ∀ (k : Nat) (l : List Stop) (i : Nat) (h : i < l.length), (nears x k l)[i]'(by rw [nears_len]; exact h) = x.nearK (k + i) l[i]
  | k, b :: l, 0, h => rfl
  | k, b :: l, i + 1, h => by
    have := nears_get x (k + 1) l i (by simpa using h)
    simp only [nears, List.getElem_cons_succ]
    rw [this, show k + 1 + i = k + (i + 1) by omega]
theorem nears_snoc (x : Inst) {k : Nat} (h : k < x.stops.length) : (nears x 0 x.stops).take (k + 1) = (nears x 0 x.stops).take k ++ [x.nearK k x.stops[k]] := by
  rw [List.take_succ_eq_append_getElem (by rw [nears_len]; exact h), nears_get x 0 x.stops k h, Nat.zero_add]
theorem nearF_in (k : Nat) (b : Stop) : ∀ (i : Nat) (l : List Stop) (v : Int), 0 ≤ v ∧ v ≤ inf → 0 ≤ nearF k b i l v ∧ nearF k b i l v ≤ inf
  | _, [], v, h => h
  | i, a :: l, v, h => by
    rw [nearF]
    refine nearF_in k b (i + 1) l _ ?_
    have := far_in a b
    split
    · exact h
    · omega
theorem nearF_drop {k : Nat} {b : Stop} {l : List Stop} {i : Nat} {v : Int} (h : i < l.length) : nearF k b i (l.drop i) v = nearF k b (i + 1) (l.drop (i + 1)) (if i = k then v else min v (far l[i] b)) := by rw [List.drop_eq_getElem_cons h]; rfl
theorem rows_get (x : Inst) {i : Nat} (h : i < x.rows.length) : x.rows[i] = rowT (x.row (x.stops[i]'(by rw [x.rows_len] at h; exact h))) := by simp [Inst.rows]
theorem row_get (x : Inst) (a : Stop) {i : Nat} (h : i < (x.row a).length) : (x.row a)[i] = far a (x.stops[i]'(by rw [x.row_len] at h; exact h)) := by simp [Inst.row]
theorem ints_get (l : List Int) {i : Nat} (h : i < (ints l).length) : (ints l)[i] = [.i (l[i]'(by simpa [ints] using h))] := by simp [ints]
theorem ints_len (l : List Int) : (ints l).length = l.length := List.length_map _
theorem near_pure (x : Inst) (hl : x.stops.length < 2 ^ 31) : Pure P 45 [x.a] (.t (.sl (ints x.near))) := by
  have hinf : inf = 1152921504606846976 := rfl
  refine pure_of Try.func45 rfl rfl (by simp [Try.f45]) (by simp [bnd, bnd.bndL, Inst.a]) (by simp [bnd]) fun B hB hnx => ?_
  simp only [Try.f45] at hB ⊢
  have hm : mostLen = 4294967296 := rfl
  refine K_run hB 60 ?_
  simp [go_sem, Inst.a]
  refine K_call rfl rfl rfl (args := [x.a]) (f := 74) (by simp [go_sem, Inst.a]) (by simp [go_sem, hB]) ((matrix_pure x hl).spec _ _) ?_
  rw [x.mat_rows]
  by_cases h0 : x.may = true
  rotate_left
  · have h0' : x.may = false := by simpa using h0
    simp only [h0', Bool.false_eq_true, if_false]
    refine K_run hB 60 ?_
    simp [go_sem]
    refine K_own 4 1 (by simp [go_sem]) ?_
    refine K_loopP (α := Unit) (fun _ => True) (fun _ => ⟨sl [(4, .ref 1), (11, .i 0), (12, .i 0)], ob [(1, .arr 1 [])], 2⟩) (fun _ => 0) () trivial (Sub.of (by omega) (by simp) (by simp [go_sem]) (by simp [go_sem])) ?_
    rintro ⟨⟩ _
    refine K_run hB 60 ?_
    simp [go_sem, Inst.near, h0', ints]
  simp only [h0, if_true]
  have hrl := x.rows_len
  refine K_run hB 60 ?_
  simp [go_sem, hrl]
  refine K_own 4 1 (by simp [go_sem]) ?_
  refine K_loopP (α := Nat × Nat × (Nat → AObj) × Nat) (fun (k, j, σ, nx) => k ≤ x.stops.length ∧ σ j = .arr 1 (ints ((nears x 0 x.stops).take k)) ∧ j < nx)
    (fun (k, j, σ, nx) => ⟨sl [(3, .t (.sl x.rows)), (4, .ref j), (11, .i x.stops.length), (12, .i k)], σ, nx⟩) (fun y => x.stops.length - y.1) (0, 1, _, 2)
    ?_ (Imp.slots (by simp [go_sem]) rfl rfl) ?_
  · exact ⟨Nat.zero_le _, by simp [oput, ints], by omega⟩
  rintro ⟨k, j, σ, nx⟩ ⟨g1, cj, gn⟩
  refine K_run hB 60 ?_
  simp [go_sem]
  refine fork_dec (fun h => ?_) (fun h => ?_)
  rotate_left
  · have : k = x.stops.length := by omega
    subst this
    rw [← nears_len x 0 x.stops, List.take_length] at cj
    simp [go_sem, cj, Inst.near, h0]
  have htk := nears_snoc x h
  have hlen : (ints ((nears x 0 x.stops).take k)).length = k := by rw [ints_len, List.length_take, nears_len]; omega
  have hkk : IntKind.i64.wrap ((k : Int) + 1) = ((k + 1 : Nat) : Int) := by rw [w64 ((k : Int) + 1) (by omega)]; rfl
  generalize (nears x 0 x.stops).take k = R at cj hlen htk
  generalize hb : x.stops[k] = b at *
  simp [go_sem, hrl]
  refine K_loopP (α := Nat × Int) (fun (i, v) => i ≤ x.stops.length ∧ (0 ≤ v ∧ v ≤ inf) ∧ (nearF k b i (x.stops.drop i) v).tmod inf = x.nearK k b)
    (fun (i, v) => ⟨sl [(3, .t (.sl x.rows)), (4, .ref j), (11, .i x.stops.length), (12, .i k), (5, .i k), (6, .i v), (16, .i x.stops.length), (17, .i i)], σ, nx⟩) (fun y => x.stops.length - y.1) (0, inf)
    ⟨Nat.zero_le _, by omega, rfl⟩ (Imp.slots (by simp [go_sem, hinf]) rfl rfl) ?_
  rintro ⟨i, v⟩ ⟨i1, i2, i3⟩
  refine K_run hB 60 ?_
  simp [go_sem]
  refine fork_dec (fun hi => ?_) (fun hi => ?_)
  · have hii : IntKind.i64.wrap ((i : Int) + 1) = ((i + 1 : Nat) : Int) := by rw [w64 ((i : Int) + 1) (by omega)]; rfl
    have hfa := far_in x.stops[i] b
    have hrow := x.row_len x.stops[i]
    rw [nearF_drop hi] at i3
    by_cases hik : i = k
    · rw [if_pos hik] at i3
      simp [go_sem, hik, w64 ((k : Int) + 1) (by omega)]
      exact Next.mk (k + 1, v) ⟨by simp only; omega, i2, by rw [hik] at i3; exact i3⟩ (Imp.slots (by simp [go_sem]) rfl rfl) (by simp only; omega)
    · rw [if_neg hik] at i3
      simp [go_sem, hik, hi, h, hrl, rows_get, rowT, ints_get, ints_len, hrow, row_get, hb, hii]
      exact Next.mk (i + 1, min v (far x.stops[i] b)) ⟨by simp only; omega, by omega, i3⟩ (Imp.slots (by simp [go_sem]) rfl rfl) (by simp only; omega)
  · have : i = x.stops.length := by omega
    subst this
    rw [List.drop_length] at i3
    have i4 : v.tmod inf = x.nearK k b := i3
    have hcap : k + 1 ≤ mostLen := by omega
    rw [hinf] at i4
    have hw : IntKind.i64.wrap (x.nearK k b) = x.nearK k b := by
      refine w64 _ ?_
      rw [← i4, Int.tmod_eq_emod_of_nonneg i2.1]
      omega
    simp [go_sem, i4, hw, cj, hlen, hcap, hkk]
    refine Next.mk (k + 1, nx, _, nx + 1) ?_ (Imp.slots (by simp [go_sem]) rfl rfl) (by simp only; omega)
    exact ⟨by simp only; omega, by simp [oput, htk, ints_snoc], by simp only; omega⟩
end Go.Proofs.Ytdfldfkgkooaeaa

/- How far it is to each from the nearest other one: the document's. -/
set_option maxRecDepth 4000
namespace Go.Proofs.Ytdfldfkgkooaeaa
open Go Go.Proofs.Ytdfldfkgkooaeaa.R
theorem rnear_pure (x : Inst) (hl : x.stops.length < 2 ^ 31) : Pure P 47 [x.a] (.t (.sl (ints x.near))) := by
  have hinf : inf = 1152921504606846976 := rfl
  refine pure_of Try.func47 rfl rfl (by simp [Try.f47]) (by simp [bnd, bnd.bndL, Inst.a]) (by simp [bnd]) fun B hB hnx => ?_
  simp only [Try.f47] at hB ⊢
  have hm : mostLen = 4294967296 := rfl
  refine K_run hB 60 ?_
  simp [go_sem, Inst.a]
  refine K_call rfl rfl rfl (args := [x.a]) (f := 76) (by simp [go_sem, Inst.a]) (by simp [go_sem, hB]) ((rmatrix_pure x hl).spec _ _) ?_
  rw [x.mat_rows]
  by_cases h0 : x.may = true
  rotate_left
  · have h0' : x.may = false := by simpa using h0
    simp only [h0', Bool.false_eq_true, if_false]
    refine K_run hB 60 ?_
    simp [go_sem]
    refine K_own 4 1 (by simp [go_sem]) ?_
    refine K_loopP (α := Unit) (fun _ => True) (fun _ => ⟨sl [(3, .t (.sl [])), (4, .ref 1), (5, .i 0)], ob [(1, .arr 1 [])], 2⟩) (fun _ => 0) () trivial (Sub.of (by omega) (by simp) (by simp [go_sem]) (by simp [go_sem])) ?_
    rintro ⟨⟩ _
    refine K_run hB 60 ?_
    simp [go_sem, Inst.near, h0', ints]
  simp only [h0, if_true]
  have hrl := x.rows_len
  refine K_run hB 60 ?_
  simp [go_sem]
  refine K_own 4 1 (by simp [go_sem]) ?_
  refine K_loopP (α := Nat × Nat × (Nat → AObj) × Nat) (fun (k, j, σ, nx) => k ≤ x.stops.length ∧ σ j = .arr 1 (ints ((nears x 0 x.stops).take k)) ∧ j < nx)
    (fun (k, j, σ, nx) => ⟨sl [(3, .t (.sl x.rows)), (4, .ref j), (5, .i k)], σ, nx⟩) (fun y => x.stops.length - y.1) (0, 1, _, 2)
    ?_ (Imp.slots (by simp [go_sem]) rfl rfl) ?_
  · exact ⟨Nat.zero_le _, by simp [oput, ints], by omega⟩
  rintro ⟨k, j, σ, nx⟩ ⟨g1, cj, gn⟩
  refine K_run hB 60 ?_
  simp [go_sem, hrl]
  refine fork_dec (fun h => ?_) (fun h => ?_)
  rotate_left
  · have : k = x.stops.length := by omega
    subst this
    rw [← nears_len x 0 x.stops, List.take_length] at cj
    simp [go_sem, cj, Inst.near, h0]
  have htk := nears_snoc x h
  have hlen : (ints ((nears x 0 x.stops).take k)).length = k := by rw [ints_len, List.length_take, nears_len]; omega
  have hkk : IntKind.i64.wrap ((k : Int) + 1) = ((k + 1 : Nat) : Int) := by rw [w64 ((k : Int) + 1) (by omega)]; rfl
  generalize (nears x 0 x.stops).take k = R at cj hlen htk
  generalize hb : x.stops[k] = b at *
  simp [go_sem]
  refine K_loopP (α := Nat × Int) (fun (i, v) => i ≤ x.stops.length ∧ (0 ≤ v ∧ v ≤ inf) ∧ (nearF k b i (x.stops.drop i) v).tmod inf = x.nearK k b ∧ (v = inf ↔ (i = 0 ∨ (k = 0 ∧ i = 1))))
    (fun (i, v) => ⟨sl [(3, .t (.sl x.rows)), (4, .ref j), (5, .i k), (6, .i (v.tmod inf)), (7, .i i)], σ, nx⟩) (fun y => x.stops.length - y.1) (0, inf)
    ⟨Nat.zero_le _, by omega, rfl, by simp⟩ (Imp.slots (by simp [go_sem, hinf]) rfl rfl) ?_
  rintro ⟨i, v⟩ ⟨i1, i2, i3, i4⟩
  refine K_run hB 150 ?_
  simp [go_sem, hrl]
  refine fork_dec (fun hi => ?_) (fun hi => ?_)
  · have hii : IntKind.i64.wrap ((i : Int) + 1) = ((i + 1 : Nat) : Int) := by rw [w64 ((i : Int) + 1) (by omega)]; rfl
    have hfa := far_in x.stops[i] b
    have hrow := x.row_len x.stops[i]
    rw [nearF_drop hi] at i3
    by_cases hik : i = k
    · rw [if_pos hik] at i3
      simp [go_sem, hik, w64 ((k : Int) + 1) (by omega)]
      exact Next.mk (k + 1, v) ⟨by simp only; omega, i2, by rw [hik] at i3; exact i3, by simp only at i4 ⊢; omega⟩ (Imp.slots (by simp [go_sem]) rfl rfl) (by simp only; omega)
    · rw [if_neg hik] at i3
      by_cases hfirst : i = 0 ∨ (k = 0 ∧ i = 1)
      · have hv : v = inf := i4.2 hfirst
        have hmin : min v (far x.stops[i] b) = far x.stops[i] b := by omega
        have hmod : (far x.stops[i] b).tmod inf = far x.stops[i] b := Int.tmod_eq_of_lt hfa.1 hfa.2
        rw [hmin] at i3
        rcases hfirst with h1 | ⟨h1, h2⟩
        · have hk0 : ¬ 0 = k := by omega
          subst h1
          have hk1 : ¬ (0 : Int) = k := by omega
          simp [go_sem, hk0, hk1, hi, h, hrl, rows_get, rowT, ints_get, ints_len, hrow, row_get, hb, w64 1 (by omega)]
          exact Next.mk (1, far x.stops[0] b) ⟨by simp only; omega, by omega, i3, by simp only; omega⟩ (Imp.slots (by simp [go_sem, hmod]) rfl rfl) (by simp only; omega)
        · subst h1 h2
          have hi1 : (1 : Int) < x.stops.length := by omega
          simp [go_sem, hi, hi1, h, hrl, rows_get, rowT, ints_get, ints_len, hrow, row_get, hb, w64 2 (by omega)]
          exact Next.mk (2, far x.stops[1] b) ⟨by simp only; omega, by omega, i3, by simp only; omega⟩ (Imp.slots (by simp [go_sem, hmod]) rfl rfl) (by simp only; omega)
      · have hv : ¬ v = inf := fun e => hfirst (i4.1 e)
        have hvm : v.tmod inf = v := Int.tmod_eq_of_lt i2.1 (by omega)
        have hi0 : ¬ i = 0 := fun e => hfirst (.inl e)
        rw [hvm]
        by_cases hless : far x.stops[i] b < v
        · have hmin : min v (far x.stops[i] b) = far x.stops[i] b := by omega
          have hmod : (far x.stops[i] b).tmod inf = far x.stops[i] b := Int.tmod_eq_of_lt hfa.1 hfa.2
          rw [hmin] at i3
          by_cases hk0 : k = 0
          · have hi1 : ¬ i = 1 := fun e => hfirst (.inr ⟨hk0, e⟩)
            subst hk0
            have j0 : ¬ (i : Int) = 0 := by omega
            have j1 : ¬ (i : Int) = 1 := by omega
            simp [go_sem, hik, hi0, hi1, j0, j1, hi, h, hrl, rows_get, rowT, ints_get, ints_len, hrow, row_get, hb, hii, hless]
            exact Next.mk (i + 1, far x.stops[i] b) ⟨by simp only; omega, by omega, i3, by simp only; omega⟩ (Imp.slots (by simp [go_sem, hmod]) rfl rfl) (by simp only; omega)
          · have j0 : ¬ (i : Int) = 0 := by omega
            have j1 : ¬ (k : Int) = 0 := by omega
            have j2 : ¬ (i : Int) = k := by omega
            simp [go_sem, hik, hi0, hk0, j0, j1, j2, hi, h, hrl, rows_get, rowT, ints_get, ints_len, hrow, row_get, hb, hii, hless]
            exact Next.mk (i + 1, far x.stops[i] b) ⟨by simp only; omega, by omega, i3, by simp only; omega⟩ (Imp.slots (by simp [go_sem, hmod]) rfl rfl) (by simp only; omega)
        · have hmin : min v (far x.stops[i] b) = v := by omega
          rw [hmin] at i3
          by_cases hk0 : k = 0
          · have hi1 : ¬ i = 1 := fun e => hfirst (.inr ⟨hk0, e⟩)
            subst hk0
            have j0 : ¬ (i : Int) = 0 := by omega
            have j1 : ¬ (i : Int) = 1 := by omega
            simp [go_sem, hik, hi0, hi1, j0, j1, hi, h, hrl, rows_get, rowT, ints_get, ints_len, hrow, row_get, hb, hii, hless]
            exact Next.mk (i + 1, v) ⟨by simp only; omega, i2, i3, by simp only; omega⟩ (Imp.slots (by simp [go_sem, hvm]) rfl rfl) (by simp only; omega)
          · have j0 : ¬ (i : Int) = 0 := by omega
            have j1 : ¬ (k : Int) = 0 := by omega
            have j2 : ¬ (i : Int) = k := by omega
            simp [go_sem, hik, hi0, hk0, j0, j1, j2, hi, h, hrl, rows_get, rowT, ints_get, ints_len, hrow, row_get, hb, hii, hless]
            exact Next.mk (i + 1, v) ⟨by simp only; omega, i2, i3, by simp only; omega⟩ (Imp.slots (by simp [go_sem, hvm]) rfl rfl) (by simp only; omega)
  · have : i = x.stops.length := by omega
    subst this
    rw [List.drop_length] at i3
    have i5 : v.tmod inf = x.nearK k b := i3
    have hcap : k + 1 ≤ mostLen := by omega
    simp [go_sem, i5, cj, hlen, hcap, hkk]
    refine Next.mk (k + 1, nx, _, nx + 1) ?_ (Imp.slots (by simp [go_sem]) rfl rfl) (by simp only; omega)
    exact ⟨by simp only; omega, by simp [oput, htk, ints_snoc], by simp only; omega⟩
end Go.Proofs.Ytdfldfkgkooaeaa

/- What it costs at least to go on: the program's, over its iterator; the document's. -/
set_option maxRecDepth 4000
namespace Go.Proofs.Ytdfldfkgkooaeaa
open Go Go.Proofs.Ytdfldfkgkooaeaa.R
/-- The sum of what lies near those that were not seen. -/
def leftSum (may : Nat) : Nat → List Int → Int → Int
  | _, [], n => n
  | j, d :: l, n => leftSum may (j + 1) l (if 0 < j ∧ hasB may j = false then IntKind.i64.wrap (n + d) else n)
theorem left_pure (near : List Int) (may : Nat) (σ : Nat → AObj) (nx : Nat) : CallQ P 46 [.t (.sl (ints near)), .u may] σ nx fun r σ' nx' => r = .fn (.func 75) [] [.ptr nx 0, .ptr (nx + 1) 0] ∧ nx' = nx + 2 ∧
    σ' = oput (oput σ nx (.box [.t (.sl (ints near))])) (nx + 1) (.box [.u may]) := by
  refine spec_of Try.func46 rfl rfl (by simp [Try.f46]) fun B hB hnx hσ => ?_
  simp only [Try.f46] at hB ⊢
  refine K_run hB 100 ?_
  simp [go_sem]
  omega
theorem left1_spec (near : List Int) (may : Nat) (hm : may < 2 ^ 64) (hl : near.length < 2 ^ 63) (q b1 b2 nx : Nat) (st : Int → Nat → AObj) (h1 : ∀ n, st n b1 = .box [.t (.sl (ints near))]) (h2 : ∀ n, st n b2 = .box [.u may])
    (hy : ∀ (j d n : Int), YieldQ P q [.i j, .i d] (st n) nx fun σ' nx' => σ' = st (IntKind.i64.wrap (n + d)) ∧ nx' = nx) (n0 : Int) :
    CallQ P 75 [.yld q, .ptr b1 0, .ptr b2 0] (st n0) nx fun r σ' nx' => σ' = st (leftSum may 0 near n0) ∧ nx' = nx := by
  refine spec_of Try.func75 rfl rfl (by simp [Try.f75]) fun B hB hnx hσ => ?_
  simp only [Try.f75] at hB ⊢
  have hil : (ints near).length = near.length := List.length_map _
  refine K_run hB 100 ?_
  simp [go_sem, h1, hil]
  refine K_loopP (α := Nat × Int) (fun (k, n) => k ≤ near.length ∧ leftSum may k (near.drop k) n = leftSum may 0 near n0) (fun (k, n) => ⟨sl [(0, .yld q), (1, .ptr b1 0), (2, .ptr b2 0), (6, .t (.sl (ints near))), (7, .i near.length), (8, .i k)], st n, nx⟩) (fun a => near.length - a.1) (0, n0) ⟨Nat.zero_le _, rfl⟩ (Imp.slots (by simp [go_sem]) rfl rfl) ?_
  rintro ⟨k, n⟩ ⟨g1, g2⟩
  refine K_run hB 60 ?_
  simp [go_sem]
  refine fork_dec (fun hk => ?_) (fun hk => ?_)
  · have hkk : IntKind.i64.wrap ((k : Int) + 1) = ((k + 1 : Nat) : Int) := by rw [w64 ((k : Int) + 1) (by omega)]; rfl
    rw [List.drop_eq_getElem_cons hk, leftSum] at g2
    have hget := ints_getS near hk
    generalize near[k] = d at *
    by_cases c1 : 0 < k
    · simp [go_sem, hil, hk, hget, c1, h2]
      refine K_call rfl rfl rfl (args := [.u may, .i k]) (f := 35) (by simp [go_sem]) (by simp [go_sem, hB]) ((has_pure may k hm).spec _ _) ?_
      cases c2 : hasB may k with
      | true =>
        rw [if_neg (by simp [c2])] at g2
        refine K_run hB 100 ?_
        simp [go_sem, hkk]
        exact Next.mk (k + 1, n) ⟨by simp only; omega, g2⟩ (Imp.slots (by simp [go_sem]) rfl rfl) (by simp only; omega)
      | false =>
        rw [if_pos ⟨c1, c2⟩] at g2
        refine K_run hB 100 ?_
        simp [go_sem]
        refine K_yield rfl rfl rfl (q := q) (args := [.i k, .i d]) (by simp [go_sem]) (by simp [go_sem]) (by simp [go_sem, hB]) (hy k d n) ?_
        rintro σ' nx' ⟨rfl, rfl⟩
        refine K_run hB 100 ?_
        simp [go_sem, hkk]
        exact Next.mk (k + 1, IntKind.i64.wrap (n + d)) ⟨by simp only; omega, g2⟩ (Imp.slots (by simp [go_sem]) rfl rfl) (by simp only; omega)
    · rw [if_neg (by simp [c1])] at g2
      simp [go_sem, hil, hk, hget, c1, h2, hkk]
      exact Next.mk (k + 1, n) ⟨by simp only; omega, g2⟩ (Imp.slots (by simp [go_sem]) rfl rfl) (by simp only; omega)
  · have : k = near.length := by omega
    subst this
    rw [List.drop_length, leftSum] at g2
    simp [go_sem, g2, hnx]
end Go.Proofs.Ytdfldfkgkooaeaa

/- The bounds of states, and of nodes. -/
set_option maxRecDepth 4000
namespace Go.Proofs.Ytdfldfkgkooaeaa
open Go Go.Proofs.Ytdfldfkgkooaeaa.R
def atLeast (near : List Int) (may : Nat) : Int := match near with
  | a :: b :: l => leftSum may 0 (a :: b :: l) a
  | _ => 0
def Inst.low (x : Inst) (s : State) : Int := atLeast x.near s.can
theorem near_len (x : Inst) : x.near.length ≤ x.stops.length := by
  unfold Inst.near
  split
  · rw [nears_len]; exact Nat.le_refl _
  · exact Nat.zero_le _
theorem at_pure (x : Inst) (s : State) (hl : x.stops.length < 2 ^ 31) (ho : s.ok) : Pure P 16 [x.a, s.a] (.i (x.low s)) := by
  generalize hR : x.low s = R
  refine pure_ofR Try.func16 rfl rfl (by simp [Try.f16]) (by simp [bnd, bnd.bndL, Inst.a, State.a, State.cs]) (by simp [bnd, bnd.bndL]) fun B hB hnx hro => ?_
  simp only [Try.f16] at hB ⊢
  rw [Inst.low] at hR
  have hnl := near_len x
  have hne := near_pure x hl
  generalize x.near = near at *
  refine K_run hB 100 ?_
  simp [go_sem, Inst.a, State.a, State.cs]
  refine K_call rfl rfl rfl (args := [x.a]) (f := 45) (by simp [go_sem, Inst.a]) (by simp [go_sem, hB]) ((hne).spec _ _) ?_
  match near, hR, hnl with
  | [], hR, _ =>
    simp only [atLeast] at hR
    subst hR
    refine K_run hB 100 ?_
    simp [go_sem, ints]
  | [_], hR, _ =>
    simp only [atLeast] at hR
    subst hR
    refine K_run hB 100 ?_
    simp [go_sem, ints]
  | d0 :: d1 :: l, hR, hnl =>
    simp only [atLeast] at hR
    have hil : (ints (d0 :: d1 :: l)).length = l.length + 2 := by simp [ints]
    have hgt : ¬ (l.length : Int) + 2 < 2 := by omega
    have hgt' : ¬ ((l.length + 2 : Nat) : Int) < 2 := by omega
    have hget : ∀ h : 0 < (ints (d0 :: d1 :: l)).length, (ints (d0 :: d1 :: l))[0]'h = [.i d0] := fun h => by simp [ints]
    have hll : l.length + 2 < 2 ^ 63 := by simp only [List.length_cons] at hnl; omega
    have hle := left_pure (d0 :: d1 :: l) s.can
    have hl1 := left1_spec (d0 :: d1 :: l) s.can ho.can (by simpa using hll) 5 3 4 6
    have hpos : (0 : Int) < l.length + 2 := by omega
    generalize hX : ints (d0 :: d1 :: l) = X at *
    generalize hN : leftSum s.can 0 (d0 :: d1 :: l) = N at *
    refine K_run hB 100 ?_
    simp [go_sem, hil, hgt, hgt', hget, hpos]
    refine K_callQ rfl rfl rfl (args := [.t (.sl X), .u s.can]) (f := 46) (by simp [go_sem]) (by simp [go_sem, hB]) (hle _ _) ?_
    rintro r σ' nx' ⟨rfl, rfl, rfl⟩
    refine K_run hB 100 ?_
    simp [go_sem]
    refine K_less (Sub.of (l := [(6, .ptr 2 0), (20, .fn (.func 75) [] [.ptr 3 0, .ptr 4 0])]) (o := [(2, .box [.i d0]), (3, .box [.t (.sl X)]), (4, .box [.u s.can])]) (n := 5) (by omega) (by simp) (by simp [go_sem]) (by simp [go_sem])) ?_
    refine K_range hro (f := 75) (args := [.yld 5, .ptr 3 0, .ptr 4 0]) (by simp [go_sem]) fun L hL => ?_
    obtain ⟨st, hst⟩ : ∃ st : Int → Nat → AObj, st = fun n => oput (oput (ob [(3, .box [.t (.sl X)]), (4, .box [.u s.can])]) 5 L) 2 (.box [.i n]) := ⟨_, rfl⟩
    have e' : oput (ob [(2, .box [.i d0]), (3, .box [.t (.sl X)]), (4, .box [.u s.can])]) 5 L = st d0 := funext fun i => by
      by_cases e2 : i = 2
      · subst e2; simp [hst, oput, ob]
      · simp [hst, oput, ob, e2]
    have s2 : ∀ n, st n 2 = .box [.i n] := fun n => by simp [hst, oput]
    have s5 : ∀ n, st n 5 = L := fun n => by simp [hst, oput]
    have su : ∀ n m L', oput (oput (oput (st n) 5 L') 2 (.box [.i m])) 5 L = st m := fun n m L' => funext fun i => by
      by_cases e2 : i = 2
      · subst e2; simp [hst, oput]
      · by_cases e5 : i = 5
        · subst e5; simp [hst, oput]
        · simp [hst, oput, e2, e5]
    have hsp := hl1 st (fun n => by simp [hst, oput, ob]) (fun n => by simp [hst, oput, ob]) (fun j d n => by
      refine yield_of ((s5 n).trans hL) rfl (by rw [hB]; rfl) fun B' hB' hnx' _ => ?_
      replace hB' := hB'.trans hB
      refine K_run hB' 60 ?_
      simp [go_sem, roundM, putL, (s5 n).trans hL]
      refine K_run hB' 60 ?_
      simp [go_sem, roundM, putL, hB, oput, s2, ← hL]
      rw [hB] at hL
      subst hL
      exact su _ _ _) d0
    refine ⟨_, by rw [e']; exact hsp, ?_⟩
    rintro r σ' nx' ⟨rfl, rfl⟩
    refine ⟨s5 _, ?_⟩
    refine K_run hB 100 ?_
    simp [go_sem, oput, s2, hR]
end Go.Proofs.Ytdfldfkgkooaeaa

/- The document's states. -/
set_option maxRecDepth 4000
namespace Go.Proofs.Ytdfldfkgkooaeaa
open Go Go.Proofs.Ytdfldfkgkooaeaa.R
theorem rmay10_pure (x : Inst) (s : State) (hl : x.stops.length < 2 ^ 63) : Pure P 54 [x.a, s.a] (.b (x.may && s.mayB x)) := by
  generalize hR : s.mayB x = R
  refine pure_of Try.func54 rfl rfl (by simp [Try.f54]) (by simp [bnd, bnd.bndL, Inst.a, State.a, State.cs]) (by simp [bnd, bnd.bndL]) fun B hB hnx => ?_
  simp only [Try.f54] at hB ⊢
  rw [State.mayB] at hR
  refine K_run hB 100 ?_
  simp [go_sem, Inst.a, State.a, State.cs]
  refine K_call rfl rfl rfl (args := [x.a]) (f := 60) (by simp [go_sem, Inst.a]) (by simp [go_sem, hB]) ((rmay_pure x hl).spec _ _) ?_
  cases hm : x.may with
  | false =>
    refine K_run hB 100 ?_
    simp [go_sem]
  | true =>
    obtain ⟨p, hx⟩ := x.fit hm
    have hf := hx.few
    have w1 := w64 (2 * x.pairs) (by rw [hx.pairs]; omega)
    refine K_run hB 100 ?_
    simp [go_sem]
    refine atVal_decT (fun h1 => ?_) (fun h1 => by simp [go_sem, h1, w1, ← hR])
    simp [go_sem, h1, w1]
    refine atVal_decT (fun h2 => ?_) (fun h2 => by simp [go_sem, h2, w1, ← hR])
    simp [go_sem, h2, w1]
    refine atVal_decT (fun h3 => ?_) (fun h3 => by simp [go_sem, h3, w1, ← hR])
    simp [go_sem, h3, w1]
    refine atVal_decT (fun h4 => ?_) (fun h4 => by simp [go_sem, h4, w1, ← hR])
    simp [go_sem, h4, w1]
    refine atVal_decT (fun h5 => ?_) (fun h5 => by simp [go_sem, h5, w1, ← hR])
    simp [go_sem, h5, w1]
    refine atVal_decT (fun h6 => ?_) (fun h6 => by simp [go_sem, h6, w1, ← hR])
    simp [go_sem, h6, w1]
    refine atVal_decT (fun h7 => ?_) (fun h7 => by simp [go_sem, h7, w1, ← hR])
    simp [go_sem, h7, w1]
    simp [← hR, h1, h2, h3, h4, h5, h6, h7]
theorem rhome_pure (x : Inst) (s : State) {p : Nat} (hx : x.Fit p) (hs : s.Fit x p) (ho : s.ok) : Pure P 56 [x.a, s.a, .i (far (x.stop s.spot) (x.stop 0))] (mv ((x.home s).1, (if (x.home s).2 = true then far (x.stop s.spot) (x.stop 0) else 0), (x.home s).2)) := by
  generalize hR : x.home s = R
  refine pure_of Try.func56 rfl rfl (by simp [Try.f56]) (by simp [bnd, bnd.bndL, Inst.a, State.a, State.cs]) (by simp [bnd, bnd.bndL, mv, State.a, State.cs]) fun B hB hnx => ?_
  simp only [Try.f56] at hB ⊢
  have g2 : (0 : Int) < x.stops.length := hx.lt (j := 0) (by omega)
  have g3 : 0 < x.stops.length := by omega
  have g4 := hx.get0
  have hf := hx.at (j := 0) (by omega) (by omega)
  have hfi := far_in' (x.stop s.spot) (x.stop 0)
  rw [Inst.home, Inst.stayB, Inst.homeS] at hR
  generalize far (x.stop s.spot) (x.stop 0) = d at *
  generalize x.stop 0 = a at *
  have w1 := w64 (s.time + d) (by have := hs.time; omega)
  have w2 := w64 (s.car + 1) (by have := hs.car; have := hx.cars; omega)
  refine K_run hB 100 ?_
  simp [go_sem, Inst.a, State.a, State.cs]
  refine K_call rfl rfl rfl (args := [x.a, .u s.must]) (f := 61) (by simp [go_sem, Inst.a]) (by simp [go_sem, hB]) ((rall_pure x s.must ho.must hx).spec _ _) ?_
  by_cases c1 : s.spot = 0
  · have : R = (s, false) := by rw [← hR, if_pos (by simp [c1])]
    subst this
    refine K_run hB 100 ?_
    simp [go_sem, c1]
    refine K_drawn [] rfl (by rw [hB]; kernel_rfl) ?_
    refine K_run hB 100 ?_
    simp [go_sem, c1, mv, State.a, State.cs]
  by_cases c2 : s.on = 0
  rotate_left
  · have : R = (s, false) := by rw [← hR, if_pos (by simp [c2])]
    subst this
    refine K_run hB 100 ?_
    simp [go_sem, c1, c2]
    refine K_drawn [] rfl (by rw [hB]; kernel_rfl) ?_
    refine K_run hB 100 ?_
    simp [go_sem, c1, c2, mv, State.a, State.cs]
  by_cases c3 : x.cars ≤ s.car
  · have : R = (s, false) := by rw [← hR, if_pos (by simp [c3])]
    subst this
    refine K_run hB 100 ?_
    simp [go_sem, c1, c2, c3]
    refine K_drawn [] rfl (by rw [hB]; kernel_rfl) ?_
    refine K_run hB 100 ?_
    simp [go_sem, c1, c2, c3, mv, State.a, State.cs]
  cases c4 : x.allB s.must with
  | true =>
    have : R = (s, false) := by rw [← hR, if_pos (by simp [c4])]
    subst this
    refine K_run hB 100 ?_
    simp [go_sem, c1, c2, c3]
    refine K_drawn [] rfl (by rw [hB]; kernel_rfl) ?_
    refine K_run hB 100 ?_
    simp [go_sem, c1, c2, c3, mv, State.a, State.cs]
  | false =>
    by_cases c5 : a.due < s.time + d
    · have : R = (s, false) := by rw [← hR, if_pos (by simp [c5])]
      subst this
      refine K_run hB 100 ?_
      simp [go_sem, c1, c2, c3]
      refine K_drawn [] rfl (by rw [hB]; kernel_rfl) ?_
      refine K_run hB 100 ?_
      simp [go_sem, c1, c2, c3, c5, w1, g2, g3, g4, Stop.t, mv, State.a, State.cs]
    · rw [if_neg (by simp [c1, c2, c3, c4, c5])] at hR
      refine K_run hB 100 ?_
      simp [go_sem, c1, c2, c3]
      refine K_drawn [] rfl (by rw [hB]; kernel_rfl) ?_
      refine K_run hB 100 ?_
      simp [go_sem, c1, c2, c3, c5, w1, w2, g2, g3, g4, Stop.t, ← hR, mv, State.a, State.cs]
def Inst.rvisit (x : Inst) (s : State) (j b : Int) : State :=
  { spot := j, car := s.car, time := b + (x.stop j).service, load := max (s.load + (x.stop j).demand) 0, first := if s.spot = 0 then j else s.first, must := withN s.must j, can := withN s.can j, on := if j ≤ x.pairs then withN s.on j else withoutN s.on (j - x.pairs) }
theorem rvisit_pure (x : Inst) (s : State) (j b : Int) {p : Nat} (hx : x.Fit p) (hs : s.Fit x p) (ho : s.ok) (h2 : 0 ≤ j) (h3 : j ≤ 2 * p) (hb : 0 ≤ b ∧ b ≤ 1048576) : Pure P 57 [x.a, s.a, .i j, .i b] ((x.rvisit s j b).a) := by
  generalize hR : x.rvisit s j b = R
  refine pure_of Try.func57 rfl rfl (by simp [Try.f57]) (by simp [bnd, bnd.bndL, Inst.a, State.a, State.cs]) (by simp [bnd, bnd.bndL, State.a, State.cs]) fun B hB hnx => ?_
  simp only [Try.f57] at hB ⊢
  have g2 := hx.lt h3
  have g4 := hx.get h3
  have hf := hx.at h2 h3
  have hp := hx.pairs
  have hfew := hx.few
  rw [Inst.rvisit] at hR
  generalize x.stop j = a at *
  have w1 := w64 (b + a.service) (by have := hf.service; omega)
  have w2 := w64 (s.load + a.demand) (by have := hf.demand; have := hs.load; omega)
  have w3 := w64 (j - x.pairs) (by omega)
  refine K_run hB 100 ?_
  simp [go_sem, Inst.a, State.a, State.cs, h2, g2, g4, Stop.t, w1]
  refine K_drawnT [10] rfl (by rw [hB]; kernel_rfl) (by kernel_rfl) fun ht => ?_
  have hmax : (if s.load + a.demand < 0 then 0 else s.load + a.demand) = max (s.load + a.demand) 0 := by omega
  by_cases c1 : s.load + a.demand < 0
  all_goals
    by_cases c2 : s.spot = 0
    all_goals
      refine K_run hB 100 ?_
      simp [go_sem, ht, h2, g2, g4, Stop.t, w2, c1, c2]
      refine K_call rfl rfl rfl (args := [.u s.must, .i j]) (f := 33) (by simp [go_sem]) (by simp [go_sem, hB]) ((rwith_pure s.must j ho.must).spec _ _) ?_
      refine K_run hB 100 ?_
      simp [go_sem]
      refine K_call rfl rfl rfl (args := [.u s.can, .i j]) (f := 33) (by simp [go_sem]) (by simp [go_sem, hB]) ((rwith_pure s.can j ho.can).spec _ _) ?_
      by_cases c3 : j ≤ x.pairs
      · refine K_run hB 100 ?_
        simp [go_sem, c3]
        refine K_call rfl rfl rfl (args := [.u s.on, .i j]) (f := 33) (by simp [go_sem]) (by simp [go_sem, hB]) ((rwith_pure s.on j ho.on).spec _ _) ?_
        rw [if_pos c3] at hR
        first | rw [if_pos c1] at hmax | rw [if_neg c1] at hmax
        refine K_run hB 100 ?_
        simp [go_sem, ← hR, c2, ← hmax]
      · refine K_run hB 100 ?_
        simp [go_sem, c3, w3]
        refine K_call rfl rfl rfl (args := [.u s.on, .i (j - x.pairs)]) (f := 34) (by simp [go_sem]) (by simp [go_sem, hB]) ((rwithout_pure s.on (j - x.pairs) ho.on).spec _ _) ?_
        rw [if_neg c3] at hR
        first | rw [if_pos c1] at hmax | rw [if_neg c1] at hmax
        refine K_run hB 100 ?_
        simp [go_sem, ← hR, c2, ← hmax]
end Go.Proofs.Ytdfldfkgkooaeaa

/- The document's moves. -/
set_option maxRecDepth 4000
namespace Go.Proofs.Ytdfldfkgkooaeaa
open Go Go.Proofs.Ytdfldfkgkooaeaa.R
theorem move_none {x : Inst} {s : State} {j : Int} (h : ¬ (x.may = true ∧ s.mayB x = true ∧ 0 ≤ j ∧ j ≤ 2 * x.pairs)) : x.move s j = (s, 0, false) := by
  unfold Inst.move
  split
  · rename_i c
    unfold Inst.step
    rw [if_pos]
    have : ¬ (0 ≤ j ∧ j ≤ 2 * x.pairs) := fun e => h ⟨c.1, c.2, e.1, e.2⟩
    omega
  · rfl
theorem move_in {x : Inst} {s : State} {j : Int} (h1 : x.may = true) (h2 : s.mayB x = true) (h3 : 0 ≤ j) (h4 : j ≤ 2 * x.pairs) : x.move s j = if (x.to s j).2 = true then ((x.to s j).1, far (x.stop s.spot) (x.stop j), true) else (s, 0, false) := by
  unfold Inst.move Inst.step
  rw [if_pos ⟨h1, h2⟩, if_neg (by omega)]
theorem home_fst (x : Inst) (s : State) (h : (x.home s).2 = false) : (x.home s).1 = s := by
  unfold Inst.home at h ⊢
  split
  · rfl
  · rename_i c
    rw [if_neg c] at h
    cases h
theorem to_visit {x : Inst} {s : State} {j : Int} (h0 : j ≠ 0) (hl : x.lateB s j = false) (hf : j ≤ x.pairs → x.fullB s j = false) (he : x.pairs < j → x.emptyB s j = false) : x.to s j = (x.rvisit s j (x.begins s j), true) := by
  unfold Inst.to
  rw [if_neg h0]
  by_cases c : j ≤ x.pairs
  · rw [if_pos c]
    simp [Inst.take, hf c, Inst.visit, hl, Inst.seen, Inst.rvisit, c]
  · rw [if_neg c]
    simp [Inst.bring, he (by omega), Inst.visit, hl, Inst.seen, Inst.rvisit, c]
theorem to_not {x : Inst} {s : State} {j : Int} (h0 : j ≠ 0) (h : x.lateB s j = true ∨ (j ≤ x.pairs ∧ x.fullB s j = true) ∨ (x.pairs < j ∧ x.emptyB s j = true)) : (x.to s j).2 = false := by
  unfold Inst.to
  rw [if_neg h0]
  rcases h with h | ⟨h1, h2⟩ | ⟨h1, h2⟩
  · split
    · unfold Inst.take Inst.visit
      split
      · rfl
      · simp [h]
    · unfold Inst.bring Inst.visit
      split
      · rfl
      · simp [h]
  · rw [if_pos h1]
    simp [Inst.take, h2]
  · rw [if_neg (by omega)]
    simp [Inst.bring, h2]
theorem rmove_take (x : Inst) (s : State) (j : Int) (hl : x.stops.length < 2 ^ 63) (ho : s.ok) (hm : x.may = true) (hs : s.mayB x = true) (h2 : 0 ≤ j) (c2 : ¬ 2 * x.pairs < j) (c3 : j ≠ 0) (c6 : j ≤ x.pairs) : Pure P 23 [x.a, s.a, .i j] (mv (x.move s j)) := by
  generalize hR : x.move s j = R
  refine pure_of Try.func23 rfl rfl (by simp [Try.f23]) (by simp [bnd, bnd.bndL, Inst.a, State.a, State.cs]) (by simp [bnd, bnd.bndL, mv, State.a, State.cs]) fun B hB hnx => ?_
  simp only [Try.f23] at hB ⊢
  refine K_run hB 100 ?_
  simp [go_sem, Inst.a, State.a, State.cs]
  refine K_call rfl rfl rfl (args := [x.a, s.a]) (f := 54) (by simp [go_sem, Inst.a, State.a, State.cs]) (by simp [go_sem, hB]) ((rmay10_pure x s hl).spec _ _) ?_
  obtain ⟨p, hx⟩ := x.fit hm
  have hst := s.fit hx hs
  have hfew := hx.few
  have hp := hx.pairs
  have w1 := w64 (2 * x.pairs) (by omega)
  have c1 : ¬ j < 0 := by omega
  have h3 : j ≤ 2 * p := by omega
  have g1 := hx.lt hst.spot.2
  have g2 := hx.lt h3
  have g3 := hx.get hst.spot.2
  have g4 := hx.get h3
  have hsp := hst.spot.1
  rw [move_in hm hs h2 (by omega)] at hR
  refine K_run hB 100 ?_
  simp [go_sem, hm, hs, c1, c2, w1]
  refine K_drawn [] rfl (by rw [hB]; kernel_rfl) ?_
  have hfar := rfar_pure (x.stop s.spot) (x.stop j)
  have hfi := far_in' (x.stop s.spot) (x.stop j)
  refine K_run hB 100 ?_
  simp [go_sem, hsp, g1, h2, g2, g3, g4, Stop.t]
  refine K_dCallP rfl rfl rfl (args := [.agg ((x.stop s.spot).t.map .t), .agg ((x.stop j).t.map .t)]) (f := 55) (by simp [go_sem, Stop.t]) (hfar) ?_
  have hf := hx.at h2 h3
  have hlate : x.lateB s j = (hasB s.must j || decide (x.begins s j > (x.stop j).due)) := rfl
  have hbe : x.begins s j = max (s.time + far (x.stop s.spot) (x.stop j)) (x.stop j).ready := rfl
  have hfull : x.fullB s j = (decide (s.load + (x.stop j).demand > x.room) || (decide (s.spot = 0) && decide (j ≤ s.first))) := rfl
  have hempty : x.emptyB s j = (decide (s.spot = 0) || !hasB s.can (j - x.pairs)) := rfl
  have hto := to_visit (x := x) (s := s) (j := j) c3
  have htn := to_not (x := x) (s := s) (j := j) c3
  have hmax : (if s.time + far (x.stop s.spot) (x.stop j) < (x.stop j).ready then (x.stop j).ready else s.time + far (x.stop s.spot) (x.stop j)) = x.begins s j := by rw [hbe]; omega
  have hvis : x.begins s j ≤ (x.stop j).due → _ := fun h => rvisit_pure x s j (x.begins s j) hx hst ho h2 h3 (by have := hf.ready; have := hf.due; have := hst.time; omega)
  have w2 := w64 (s.time + far (x.stop s.spot) (x.stop j)) (by have := hst.time; omega)
  generalize x.begins s j = b at *
  generalize far (x.stop s.spot) (x.stop j) = d at *
  generalize x.lateB s j = late at *
  generalize x.fullB s j = full at *
  generalize x.emptyB s j = empty at *
  have hdem := hf.demand
  have hload := hst.load
  generalize x.stop j = a at *
  have w3 := w64 (s.load + a.demand) (by omega)
  have w4 := w64 (j - x.pairs) (by omega)
  have w5 := w64 b (by have := hf.ready; have := hst.time; omega)
  by_cases c4 : s.time + d < a.ready
  all_goals
    first | rw [if_pos c4] at hmax | rw [if_neg c4] at hmax
    rw [hmax] at c4
    refine K_run hB 100 ?_
    simp [go_sem, c3, c4, h2, g2, g4, Stop.t, w2, w5, hmax]
    refine K_call rfl rfl rfl (args := [.u s.must, .i j]) (f := 48) (by simp [go_sem]) (by simp [go_sem, hB]) ((rhas_pure s.must j ho.must).spec _ _) ?_
    cases hha : hasB s.must j with
    | true =>
      rw [if_neg (by rw [htn (.inl (by simp [hlate, hha]))]; simp)] at hR
      subst hR
      refine K_run hB 100 ?_
      simp [go_sem, mv, State.a, State.cs]
    | false =>
      rw [hha, Bool.false_or] at hlate
      by_cases c5 : a.due < b
      rotate_left
      · skip
        have hl0 : late = false := by rw [hlate]; exact decide_eq_false c5
        rw [hl0] at hto
        by_cases c7 : full = true
        · rw [if_neg (by rw [htn (.inr (.inl ⟨c6, c7⟩))]; simp)] at hR
          subst hR
          rw [c7, eq_comm, Bool.or_eq_true, Bool.and_eq_true, decide_eq_true_eq, decide_eq_true_eq, decide_eq_true_eq] at hfull
          refine K_run hB 100 ?_
          simp [go_sem, c5, c6, h2, g2, g4, Stop.t, w2, w5, hmax, w3]
          refine K_drawn [] rfl (by rw [hB]; kernel_rfl) ?_
          by_cases c8 : x.room < s.load + a.demand
          · refine K_run hB 100 ?_
            simp [go_sem, c5, c6, h2, g2, g4, Stop.t, w2, w5, hmax, w3, c8, mv, State.a, State.cs]
          · obtain ⟨c9, c10⟩ := hfull.resolve_left c8
            refine K_run hB 100 ?_
            simp [go_sem, c5, c6, h2, g2, g4, Stop.t, w2, w5, hmax, w3, c8, c9, c10, mv, State.a, State.cs]
        · have c7 : full = false := by simpa using c7
          have hv := hvis (by omega)
          rw [hto rfl (fun _ => c7) (by omega), if_pos rfl] at hR
          subst hR
          rw [c7, eq_comm, Bool.or_eq_false_iff, Bool.and_eq_false_iff, decide_eq_false_iff_not, decide_eq_false_iff_not, decide_eq_false_iff_not] at hfull
          obtain ⟨c8, c9⟩ := hfull
          have c10 : ¬ x.pairs < j := by omega
          refine K_run hB 100 ?_
          simp [go_sem, c5, c6, h2, g2, g4, Stop.t, w2, w5, hmax, w3]
          refine K_drawn [] rfl (by rw [hB]; kernel_rfl) ?_
          by_cases c9' : s.spot = 0
          all_goals
            first
            | have c11 := c9.resolve_left (fun h => h c9')
              refine K_run hB 100 ?_
              simp [go_sem, c6, h2, g2, g4, Stop.t, w2, w5, hmax, w3, c8, c9', c11, w4]
            | refine K_run hB 100 ?_
              simp [go_sem, c6, h2, g2, g4, Stop.t, w2, w5, hmax, w3, c8, c9', w4]
            refine K_call rfl rfl rfl (args := [.u s.can, .i (j - x.pairs)]) (f := 48) (by simp [go_sem]) (by simp [go_sem, hB]) ((rhas_pure s.can (j - x.pairs) ho.can).spec _ _) ?_
            refine K_run hB 100 ?_
            simp [go_sem, c10]
            refine K_call rfl rfl rfl (args := [x.a, s.a, .i j, .i b]) (f := 57) (by simp [go_sem, Inst.a, State.a, State.cs, c9']) (by simp [go_sem, hB]) ((hv).spec _ _) ?_
            refine K_run hB 100 ?_
            simp [go_sem, mv, State.a, State.cs]
      · rw [if_neg (by rw [htn (.inl (by rw [hlate]; exact decide_eq_true c5))]; simp)] at hR
        subst hR
        refine K_run hB 100 ?_
        simp [go_sem, c5, h2, g2, g4, Stop.t, hmax, w2, w5, mv, State.a, State.cs]
theorem rmove_bring (x : Inst) (s : State) (j : Int) (hl : x.stops.length < 2 ^ 63) (ho : s.ok) (hm : x.may = true) (hs : s.mayB x = true) (h2 : 0 ≤ j) (c2 : ¬ 2 * x.pairs < j) (c3 : j ≠ 0) (c6 : ¬ j ≤ x.pairs) : Pure P 23 [x.a, s.a, .i j] (mv (x.move s j)) := by
  generalize hR : x.move s j = R
  refine pure_of Try.func23 rfl rfl (by simp [Try.f23]) (by simp [bnd, bnd.bndL, Inst.a, State.a, State.cs]) (by simp [bnd, bnd.bndL, mv, State.a, State.cs]) fun B hB hnx => ?_
  simp only [Try.f23] at hB ⊢
  refine K_run hB 100 ?_
  simp [go_sem, Inst.a, State.a, State.cs]
  refine K_call rfl rfl rfl (args := [x.a, s.a]) (f := 54) (by simp [go_sem, Inst.a, State.a, State.cs]) (by simp [go_sem, hB]) ((rmay10_pure x s hl).spec _ _) ?_
  obtain ⟨p, hx⟩ := x.fit hm
  have hst := s.fit hx hs
  have hfew := hx.few
  have hp := hx.pairs
  have w1 := w64 (2 * x.pairs) (by omega)
  have c1 : ¬ j < 0 := by omega
  have h3 : j ≤ 2 * p := by omega
  have g1 := hx.lt hst.spot.2
  have g2 := hx.lt h3
  have g3 := hx.get hst.spot.2
  have g4 := hx.get h3
  have hsp := hst.spot.1
  rw [move_in hm hs h2 (by omega)] at hR
  refine K_run hB 100 ?_
  simp [go_sem, hm, hs, c1, c2, w1]
  refine K_drawn [] rfl (by rw [hB]; kernel_rfl) ?_
  have hfar := rfar_pure (x.stop s.spot) (x.stop j)
  have hfi := far_in' (x.stop s.spot) (x.stop j)
  refine K_run hB 100 ?_
  simp [go_sem, hsp, g1, h2, g2, g3, g4, Stop.t]
  refine K_dCallP rfl rfl rfl (args := [.agg ((x.stop s.spot).t.map .t), .agg ((x.stop j).t.map .t)]) (f := 55) (by simp [go_sem, Stop.t]) (hfar) ?_
  have hf := hx.at h2 h3
  have hlate : x.lateB s j = (hasB s.must j || decide (x.begins s j > (x.stop j).due)) := rfl
  have hbe : x.begins s j = max (s.time + far (x.stop s.spot) (x.stop j)) (x.stop j).ready := rfl
  have hfull : x.fullB s j = (decide (s.load + (x.stop j).demand > x.room) || (decide (s.spot = 0) && decide (j ≤ s.first))) := rfl
  have hempty : x.emptyB s j = (decide (s.spot = 0) || !hasB s.can (j - x.pairs)) := rfl
  have hto := to_visit (x := x) (s := s) (j := j) c3
  have htn := to_not (x := x) (s := s) (j := j) c3
  have hmax : (if s.time + far (x.stop s.spot) (x.stop j) < (x.stop j).ready then (x.stop j).ready else s.time + far (x.stop s.spot) (x.stop j)) = x.begins s j := by rw [hbe]; omega
  have hvis : x.begins s j ≤ (x.stop j).due → _ := fun h => rvisit_pure x s j (x.begins s j) hx hst ho h2 h3 (by have := hf.ready; have := hf.due; have := hst.time; omega)
  have w2 := w64 (s.time + far (x.stop s.spot) (x.stop j)) (by have := hst.time; omega)
  generalize x.begins s j = b at *
  generalize far (x.stop s.spot) (x.stop j) = d at *
  generalize x.lateB s j = late at *
  generalize x.fullB s j = full at *
  generalize x.emptyB s j = empty at *
  have hdem := hf.demand
  have hload := hst.load
  generalize x.stop j = a at *
  have w3 := w64 (s.load + a.demand) (by omega)
  have w4 := w64 (j - x.pairs) (by omega)
  have w5 := w64 b (by have := hf.ready; have := hst.time; omega)
  by_cases c4 : s.time + d < a.ready
  all_goals
    first | rw [if_pos c4] at hmax | rw [if_neg c4] at hmax
    rw [hmax] at c4
    refine K_run hB 100 ?_
    simp [go_sem, c3, c4, h2, g2, g4, Stop.t, w2, w5, hmax]
    refine K_call rfl rfl rfl (args := [.u s.must, .i j]) (f := 48) (by simp [go_sem]) (by simp [go_sem, hB]) ((rhas_pure s.must j ho.must).spec _ _) ?_
    cases hha : hasB s.must j with
    | true =>
      rw [if_neg (by rw [htn (.inl (by simp [hlate, hha]))]; simp)] at hR
      subst hR
      refine K_run hB 100 ?_
      simp [go_sem, mv, State.a, State.cs]
    | false =>
      rw [hha, Bool.false_or] at hlate
      by_cases c5 : a.due < b
      rotate_left
      · skip
        have hl0 : late = false := by rw [hlate]; exact decide_eq_false c5
        rw [hl0] at hto
        have c10 : x.pairs < j := by omega
        refine K_run hB 100 ?_
        simp [go_sem, c5, c6, h2, g2, g4, Stop.t, w2, w5, hmax, w3]
        refine K_drawn [] rfl (by rw [hB]; kernel_rfl) ?_
        refine K_run hB 100 ?_
        simp [go_sem, c6, h2, g2, g4, Stop.t, w2, w5, hmax, w3, w4]
        refine K_call rfl rfl rfl (args := [.u s.can, .i (j - x.pairs)]) (f := 48) (by simp [go_sem]) (by simp [go_sem, hB]) ((rhas_pure s.can (j - x.pairs) ho.can).spec _ _) ?_
        by_cases c7 : s.spot = 0
        · rw [if_neg (by rw [htn (.inr (.inr ⟨c10, by rw [hempty, c7]; rfl⟩))]; simp)] at hR
          subst hR
          refine K_run hB 100 ?_
          simp [go_sem, c10, c7, mv, State.a, State.cs]
        · cases c8 : hasB s.can (j - x.pairs) with
          | false =>
            rw [if_neg (by rw [htn (.inr (.inr ⟨c10, by rw [hempty, c8]; simp⟩))]; simp)] at hR
            subst hR
            refine K_run hB 100 ?_
            simp [go_sem, c10, c7, mv, State.a, State.cs]
          | true =>
            have hv := hvis (by omega)
            rw [hto rfl (fun h => absurd h c6) (fun _ => by rw [hempty, c8]; simp [c7]), if_pos rfl] at hR
            subst hR
            refine K_run hB 100 ?_
            simp [go_sem, c10, c7]
            refine K_call rfl rfl rfl (args := [x.a, s.a, .i j, .i b]) (f := 57) (by simp [go_sem, Inst.a, State.a, State.cs]) (by simp [go_sem, hB]) ((hv).spec _ _) ?_
            refine K_run hB 100 ?_
            simp [go_sem, mv, State.a, State.cs]
      · rw [if_neg (by rw [htn (.inl (by rw [hlate]; exact decide_eq_true c5))]; simp)] at hR
        subst hR
        refine K_run hB 100 ?_
        simp [go_sem, c5, h2, g2, g4, Stop.t, hmax, w2, w5, mv, State.a, State.cs]
theorem rmove_pure (x : Inst) (s : State) (j : Int) (hl : x.stops.length < 2 ^ 63) (ho : s.ok) : Pure P 23 [x.a, s.a, .i j] (mv (x.move s j)) := by
  by_cases q1 : x.may = true ∧ s.mayB x = true ∧ 0 ≤ j ∧ ¬ 2 * x.pairs < j ∧ j ≠ 0
  · obtain ⟨q1, q2, q3, q4, q5⟩ := q1
    by_cases q6 : j ≤ x.pairs
    · exact rmove_take x s j hl ho q1 q2 q3 q4 q5 q6
    · exact rmove_bring x s j hl ho q1 q2 q3 q4 q5 q6
  generalize hR : x.move s j = R
  refine pure_of Try.func23 rfl rfl (by simp [Try.f23]) (by simp [bnd, bnd.bndL, Inst.a, State.a, State.cs]) (by simp [bnd, bnd.bndL, mv, State.a, State.cs]) fun B hB hnx => ?_
  simp only [Try.f23] at hB ⊢
  refine K_run hB 100 ?_
  simp [go_sem, Inst.a, State.a, State.cs]
  refine K_call rfl rfl rfl (args := [x.a, s.a]) (f := 54) (by simp [go_sem, Inst.a, State.a, State.cs]) (by simp [go_sem, hB]) ((rmay10_pure x s hl).spec _ _) ?_
  cases hm : (x.may && s.mayB x) with
  | false =>
    have hn : x.move s j = (s, 0, false) := move_none fun h => by simp [h.1, h.2.1] at hm
    rw [hn] at hR
    subst hR
    refine K_run hB 100 ?_
    simp [go_sem, mv, State.a, State.cs]
  | true =>
    rw [Bool.and_eq_true] at hm
    obtain ⟨hm, hs⟩ := hm
    obtain ⟨p, hx⟩ := x.fit hm
    have hst := s.fit hx hs
    have hfew := hx.few
    have hp := hx.pairs
    have w1 := w64 (2 * x.pairs) (by omega)
    by_cases c1 : j < 0
    · rw [move_none (by omega)] at hR
      subst hR
      refine K_run hB 100 ?_
      simp [go_sem, c1, mv, State.a, State.cs]
    by_cases c2 : 2 * x.pairs < j
    · rw [move_none (by omega)] at hR
      subst hR
      refine K_run hB 100 ?_
      simp [go_sem, c1, c2, w1, mv, State.a, State.cs]
    obtain rfl : j = 0 := by
      rcases Decidable.em (j = 0) with e | e
      · exact e
      · exact absurd ⟨hm, hs, by omega, c2, e⟩ q1
    have h3 : (0 : Int) ≤ 2 * p := by omega
    have g1 := hx.lt hst.spot.2
    have g2 : (0 : Int) < x.stops.length := hx.lt h3
    have g3 := hx.get hst.spot.2
    have g4 := hx.get0
    have hsp := hst.spot.1
    have g5 : 0 < x.stops.length := by omega
    rw [move_in hm hs (by omega) (by omega)] at hR
    refine K_run hB 100 ?_
    simp [go_sem, c1, c2, w1]
    refine K_drawn [] rfl (by rw [hB]; kernel_rfl) ?_
    have hfar := rfar_pure (x.stop s.spot) (x.stop 0)
    refine K_run hB 100 ?_
    simp [go_sem, hsp, g1, g2, g3, g4, g5, Stop.t]
    refine K_dCallP rfl rfl rfl (args := [.agg ((x.stop s.spot).t.map .t), .agg ((x.stop 0).t.map .t)]) (f := 55) (by simp [go_sem, Stop.t]) (hfar) ?_
    have hh := rhome_pure x s hx hst ho
    have e : x.to s 0 = x.home s := by simp [Inst.to]
    have e2 := home_fst x s
    rw [e] at hR
    generalize x.home s = V at *
    obtain ⟨t, is⟩ := V
    generalize far (x.stop s.spot) (x.stop 0) = d at *
    refine K_run hB 100 ?_
    simp [go_sem]
    refine K_call rfl rfl rfl (args := [x.a, s.a, .i d]) (f := 56) (by simp [go_sem, Inst.a, State.a, State.cs]) (by simp [go_sem, hB]) ((hh).spec _ _) ?_
    cases is with
    | false =>
      have e3 : t = s := e2 rfl
      rw [if_neg (by simp)] at hR
      subst hR
      subst e3
      refine K_run hB 100 ?_
      simp [go_sem, mv, State.a, State.cs]
    | true =>
      rw [if_pos rfl] at hR
      subst hR
      refine K_run hB 100 ?_
      simp [go_sem, mv, State.a, State.cs]
end Go.Proofs.Ytdfldfkgkooaeaa

/- All of the document's moves, the end, what follows; whether two rows are the same. -/
set_option maxRecDepth 4000
namespace Go.Proofs.Ytdfldfkgkooaeaa
open Go Go.Proofs.Ytdfldfkgkooaeaa.R
theorem rsame_pure (l m : List Int) (hl : l.length < 2 ^ 63) (hm : m.length < 2 ^ 63) : Pure P 26 [.t (.sl (ints l)), .t (.sl (ints m))] (.b (decide (l = m))) := by
  refine pure_of Try.func26 rfl rfl (by simp [Try.f26]) (by simp [bnd, bnd.bndL]) (by simp [bnd, bnd.bndL]) fun B hB hnx => ?_
  simp only [Try.f26] at hB ⊢
  have h1 : (ints l).length = l.length := List.length_map _
  have h2 : (ints m).length = m.length := List.length_map _
  by_cases c0 : l.length = m.length
  rotate_left
  · have : ¬ l = m := fun e => c0 (by rw [e])
    refine K_run hB 100 ?_
    simp [go_sem, h1, h2, c0, this]
  refine K_run hB 100 ?_
  simp [go_sem, h1, h2, c0]
  refine K_loopP (α := Nat) (fun k => k ≤ m.length ∧ l.take k = m.take k) (fun k => ⟨sl [(0, .t (.sl (ints l))), (1, .t (.sl (ints m))), (5, .i k)], noObj, 0⟩) (fun k => m.length - k) 0 ⟨Nat.zero_le _, rfl⟩ (Imp.slots (by simp [go_sem]) rfl rfl) ?_
  rintro k ⟨g1, g2⟩
  refine K_run hB 100 ?_
  simp [go_sem, h1, c0]
  refine fork_dec (fun hk => ?_) (fun hk => ?_)
  · have hkk : IntKind.i64.wrap ((k : Int) + 1) = ((k + 1 : Nat) : Int) := by rw [w64 ((k : Int) + 1) (by omega)]; rfl
    have hk' : k < l.length := by omega
    have e1 := ints_getS l hk'
    have e2 := ints_getS m hk
    have n1 : l.take (k + 1) = l.take k ++ [l[k]] := by rw [List.take_add_one, List.getElem?_eq_getElem hk']; rfl
    have n2 : m.take (k + 1) = m.take k ++ [m[k]] := by rw [List.take_add_one, List.getElem?_eq_getElem hk]; rfl
    simp [go_sem]
    refine K_drawn [] rfl (by rw [hB]; kernel_rfl) ?_
    by_cases c1 : l[k] = m[k]
    · refine K_run hB 100 ?_
      simp [go_sem, h1, h2, hk, hk', e1, e2, c1, hkk]
      refine Next.mk (k + 1) ⟨by omega, by rw [n1, n2, g2, c1]⟩ (Imp.slots (by simp [go_sem]) rfl rfl) (by omega)
    · have : ¬ l = m := fun e => c1 (by subst e; rfl)
      refine K_run hB 100 ?_
      simp [go_sem, h1, h2, hk, hk', e1, e2, c1, this]
  · have : k = m.length := by omega
    subst this
    rw [List.take_of_length_le (by omega), List.take_of_length_le (by omega)] at g2
    simp [go_sem, g2]
theorem canB_no : ∀ k, canB (fun _ => false) k = []
  | 0 => rfl
  | k + 1 => by rw [canB, canB_no k]; rfl
theorem moves_can (x : Inst) (s : State) : x.moves s = canB (fun k => (x.move s k).2.2) x.stops.length := by
  unfold Inst.moves
  split
  · rename_i h
    congr 1
    funext k
    rw [Inst.move, if_pos h]
  · rename_i h
    have : (fun k : Nat => (x.move s (k : Int)).2.2) = fun _ => false := by
      funext k
      rw [Inst.move, if_neg h]
    rw [this, canB_no]
theorem rmoves_pure (x : Inst) (s : State) (hl : x.stops.length < 2 ^ 31) (ho : s.ok) : Pure P 28 [x.a, s.a] (.t (.sl (ints (x.moves s)))) := by
  generalize hR : x.moves s = R
  rw [moves_can] at hR
  have hl' : x.stops.length < 2 ^ 63 := by omega
  have hst := fun j => rmove_pure x s j hl' ho
  have hmost : mostLen = 4294967296 := rfl
  refine pure_of Try.func28 rfl rfl (by simp [Try.f28]) (by simp [bnd, bnd.bndL, Inst.a, State.a, State.cs]) (by simp [bnd, bnd.bndL]) fun B hB hnx => ?_
  simp only [Try.f28] at hB ⊢
  refine K_run hB 100 ?_
  simp [go_sem, Inst.a, State.a, State.cs]
  refine K_own 5 1 (by simp [go_sem]) ?_
  refine K_loopP (α := Nat × Nat × (Nat → AObj) × Nat) (fun (k, j, σ, nx) => k ≤ x.stops.length ∧ σ 0 = .box [.t (.i x.pairs), .t (.i x.cars), .t (.i x.room), .t (.sl (x.stops.map Stop.t))] ∧ σ 1 = .box s.cs ∧ σ j = .arr 1 (ints (canB (fun k => (x.move s k).2.2) k)) ∧ 1 < j ∧ j < nx)
    (fun (k, j, σ, nx) => ⟨sl [(2, .ptr 0 0), (3, .ptr 1 0), (5, .ref j), (6, .i k)], σ, nx⟩) (fun a => x.stops.length - a.1) (0, 2, _, 3) ?_ (Imp.slots (by simp [go_sem]) rfl rfl) ?_
  · exact ⟨Nat.zero_le _, by simp [oput], by simp [oput, State.cs], by simp [oput, canB, ints], by omega, by omega⟩
  rintro ⟨k, j, σ, nx⟩ ⟨g1, g2, g3, g4, g5, g6⟩
  refine K_run hB 100 ?_
  simp [go_sem, g2]
  refine fork_dec (fun hk => ?_) (fun hk => ?_)
  · have hkk : IntKind.i64.wrap ((k : Int) + 1) = ((k + 1 : Nat) : Int) := by rw [w64 ((k : Int) + 1) (by omega)]; rfl
    have hn : canB (fun k => (x.move s k).2.2) (k + 1) = canB (fun k => (x.move s k).2.2) k ++ (if (x.move s k).2.2 = true then [(k : Int)] else []) := rfl
    have hcl := canB_len (fun k => (x.move s k).2.2) k
    have h1 := hst k
    generalize canB (fun k => (x.move s k).2.2) k = L at g4 hn hcl
    generalize x.move s k = V at hn h1
    obtain ⟨t, c, is⟩ := V
    simp only at hn
    simp [go_sem, g2, g3, State.cs]
    refine K_call rfl rfl rfl (args := [x.a, s.a, .i k]) (f := 23) (by simp [go_sem, Inst.a, State.a, State.cs]) (by simp [go_sem, hB]) ((h1).spec _ _) ?_
    cases is with
    | false =>
      refine K_run hB 100 ?_
      simp [go_sem, mv, State.a, State.cs, hkk]
      refine Next.mk (k + 1, j, _, nx + 1) ?_ (Imp.slots (by simp [go_sem]) rfl rfl) (by simp only; omega)
      refine ⟨by simp only; omega, ?_, ?_, ?_, by simp only; omega, by simp only; omega⟩
      · simp [oput, show ¬ 0 = nx by omega, g2]
      · simp [oput, show ¬ 1 = nx by omega, g3, State.cs]
      · simp only [hn]
        simp [oput, show ¬ j = nx by omega, g4]
    | true =>
      have hlen' : (ints L).length = L.length := List.length_map _
      have hcap : L.length + 1 ≤ mostLen := by omega
      refine K_run hB 100 ?_
      simp [go_sem, mv, State.a, State.cs, hkk, g4, hlen', hcap, show ¬ j = nx by omega]
      refine Next.mk (k + 1, nx + 1, _, nx + 2) ?_ (Imp.slots (by simp [go_sem]) rfl rfl) (by simp only; omega)
      refine ⟨by simp only; omega, ?_, ?_, ?_, by simp only; omega, by simp only; omega⟩
      · simp [oput, show ¬ 0 = nx by omega, show ¬ 0 = nx + 1 by omega, show ¬ 0 = j by omega, g2]
      · simp [oput, show ¬ 1 = nx by omega, show ¬ 1 = nx + 1 by omega, show ¬ 1 = j by omega, show ¬ nx = 0 by omega, g3, State.cs]
      · simp only [hn]
        simp [oput, ints]
  · have : k = x.stops.length := by omega
    subst this
    rw [hR] at g4
    simp [go_sem, g4]
theorem endS_no {x : Inst} {s : State} (h1 : x.may = true) (h0 : ¬ (x.pairs = 0 ∧ s = x.rootS)) (h : ¬ (s.mayB x = true ∧ s.spot ≠ 0 ∧ s.on = 0 ∧ x.allB s.can = true ∧ s.time + far (x.stop s.spot) (x.stop 0) ≤ (x.stop 0).due)) : x.endS s = (0, false) := by
  unfold Inst.endS
  rw [if_neg (by simp [h1]), if_neg h0, if_neg h]
theorem rend_tail (x : Inst) (s : State) (hl : x.stops.length < 2 ^ 63) (ho : s.ok) (hm : x.may = true) (c1 : ¬ (x.pairs = 0 ∧ s = x.rootS)) : Pure P 25 [x.a, s.a] (.tup [.i (x.endS s).1, .b (x.endS s).2]) := by
  generalize hR : x.endS s = R
  refine pure_of Try.func25 rfl rfl (by simp [Try.f25]) (by simp [bnd, bnd.bndL, Inst.a, State.a, State.cs]) (by simp [bnd, bnd.bndL]) fun B hB hnx => ?_
  simp only [Try.f25] at hB ⊢
  obtain ⟨p, hx⟩ := x.fit hm
  have hrr := rroot_pureS x hl
  have hno := endS_no hm c1
  have hyes : s.mayB x = true ∧ s.spot ≠ 0 ∧ s.on = 0 ∧ x.allB s.can = true ∧ s.time + far (x.stop s.spot) (x.stop 0) ≤ (x.stop 0).due → x.endS s = (far (x.stop s.spot) (x.stop 0), true) := fun h => by
    unfold Inst.endS
    rw [if_neg (by simp [hm]), if_neg c1, if_pos h]
  have g2 : (0 : Int) < x.stops.length := hx.lt (j := 0) (by omega)
  have g3 : 0 < x.stops.length := by omega
  have g4 := hx.get0
  have hall := rall_pure x s.can ho.can hx
  refine K_run hB 100 ?_
  simp [go_sem, Inst.a, State.a, State.cs]
  refine K_call rfl rfl rfl (args := [x.a]) (f := 60) (by simp [go_sem, Inst.a]) (by simp [go_sem, hB]) ((rmay_pure x hl).spec _ _) ?_
  refine K_run hB 100 ?_
  simp [go_sem, hm]
  refine K_drawn [] rfl (by rw [hB]; kernel_rfl) ?_
  generalize x.rootS = r at *
  by_cases c2 : x.pairs = 0
  all_goals
    first
    | have c3 : ¬ s = r := fun h => c1 ⟨c2, h⟩
      refine K_run hB 100 ?_
      simp [go_sem, c2]
      refine K_dCallP rfl rfl rfl (args := [x.a]) (f := 30) (by simp [go_sem, Inst.a, c2]) (hrr) ?_
      refine K_dEq (op := .eql) (t := 27) (t' := 27) (x := .tmp 19) (y := .tmp 21) (xs := s.cs) (ys := r.cs) (by simp [go_sem, c2]) rfl (by simp [go_sem, State.cs]) (by simp [go_sem, State.a]) state_guard (state_eq s r) rfl ?_
      refine K_run hB 100 ?_
      simp [go_sem, c2, c3]
    | refine K_run hB 100 ?_
      simp [go_sem, c2]
    refine K_call rfl rfl rfl (args := [x.a, s.a]) (f := 54) (by simp [go_sem, Inst.a, State.a, State.cs, c2]) (by simp [go_sem, hB]) ((rmay10_pure x s hl).spec _ _) ?_
    rw [hm, Bool.true_and]
    cases hs : s.mayB x with
    | false =>
      rw [hno (by simp [hs])] at hR
      subst hR
      refine K_run hB 100 ?_
      simp [go_sem]
    | true =>
      by_cases c4 : s.spot = 0
      · rw [hno (by simp [c4])] at hR
        subst hR
        refine K_run hB 100 ?_
        simp [go_sem, c4]
      by_cases c5 : s.on = 0
      rotate_left
      · rw [hno (by simp [c5])] at hR
        subst hR
        refine K_run hB 100 ?_
        simp [go_sem, c4, c5]
      have hst := s.fit hx hs
      have hsp := hst.spot.1
      have g5 := hx.lt hst.spot.2
      have g6 := hx.get hst.spot.2
      have hfar := rfar_pure (x.stop s.spot) (x.stop 0)
      have hfi := far_in' (x.stop s.spot) (x.stop 0)
      refine K_run hB 100 ?_
      simp [go_sem, c4, c5]
      refine K_call rfl rfl rfl (args := [x.a, .u s.can]) (f := 61) (by simp [go_sem, Inst.a, c2]) (by simp [go_sem, hB]) ((hall).spec _ _) ?_
      refine K_run hB 100 ?_
      simp [go_sem]
      refine K_drawn [] rfl (by rw [hB]; kernel_rfl) ?_
      refine K_run hB 100 ?_
      simp [go_sem, hsp, g2, g3, g4, g5, g6, Stop.t]
      refine K_dCallP rfl rfl rfl (args := [.agg ((x.stop s.spot).t.map .t), .agg ((x.stop 0).t.map .t)]) (f := 55) (by simp [go_sem, Stop.t]) (hfar) ?_
      generalize far (x.stop s.spot) (x.stop 0) = d at *
      generalize x.stop 0 = a at *
      have w1 := w64 (s.time + d) (by have := hst.time; omega)
      cases c6 : x.allB s.can with
      | false =>
        rw [hno (by simp [c6])] at hR
        subst hR
        refine K_run hB 100 ?_
        simp [go_sem]
        refine K_drawn [] rfl (by rw [hB]; kernel_rfl) ?_
        refine K_run hB 100 ?_
        simp [go_sem]
      | true =>
        by_cases c7 : a.due < s.time + d
        · rw [hno (by intro h; have := h.2.2.2.2; omega)] at hR
          subst hR
          refine K_run hB 100 ?_
          simp [go_sem]
          refine K_drawn [] rfl (by rw [hB]; kernel_rfl) ?_
          refine K_run hB 100 ?_
          simp [go_sem, w1, c7, g2, g3, g4, Stop.t]
        · rw [hyes ⟨hs, c4, c5, c6, by omega⟩] at hR
          subst hR
          refine K_run hB 100 ?_
          simp [go_sem]
          refine K_drawn [] rfl (by rw [hB]; kernel_rfl) ?_
          refine K_run hB 100 ?_
          simp [go_sem, w1, c7, g2, g3, g4, Stop.t]
theorem rend_pure (x : Inst) (s : State) (hl : x.stops.length < 2 ^ 63) (ho : s.ok) : Pure P 25 [x.a, s.a] (.tup [.i (x.endS s).1, .b (x.endS s).2]) := by
  by_cases q : x.may = true ∧ ¬ (x.pairs = 0 ∧ s = x.rootS)
  · exact rend_tail x s hl ho q.1 q.2
  generalize hR : x.endS s = R
  refine pure_of Try.func25 rfl rfl (by simp [Try.f25]) (by simp [bnd, bnd.bndL, Inst.a, State.a, State.cs]) (by simp [bnd, bnd.bndL]) fun B hB hnx => ?_
  simp only [Try.f25] at hB ⊢
  rw [Inst.endS] at hR
  refine K_run hB 100 ?_
  simp [go_sem, Inst.a, State.a, State.cs]
  refine K_call rfl rfl rfl (args := [x.a]) (f := 60) (by simp [go_sem, Inst.a]) (by simp [go_sem, hB]) ((rmay_pure x hl).spec _ _) ?_
  cases hm : x.may with
  | false =>
    rw [if_pos hm] at hR
    subst hR
    refine K_run hB 100 ?_
    simp [go_sem]
    refine K_drawn [] rfl (by rw [hB]; kernel_rfl) ?_
    refine K_run hB 100 ?_
    simp [go_sem]
    refine K_call rfl rfl rfl (args := [x.a, s.a]) (f := 54) (by simp [go_sem, Inst.a, State.a, State.cs]) (by simp [go_sem, hB]) ((rmay10_pure x s hl).spec _ _) ?_
    rw [hm, Bool.false_and]
    refine K_run hB 100 ?_
    simp [go_sem]
  | true =>
    have c1 : x.pairs = 0 ∧ s = x.rootS := Decidable.byContradiction fun h => q ⟨hm, h⟩
    rw [if_neg (by simp [hm]), if_pos c1] at hR
    subst hR
    obtain ⟨c2, c3⟩ := c1
    have hrr := rroot_pureS x hl
    generalize x.rootS = r at *
    refine K_run hB 100 ?_
    simp [go_sem]
    refine K_drawn [] rfl (by rw [hB]; kernel_rfl) ?_
    refine K_run hB 100 ?_
    simp [go_sem, c2]
    refine K_dCallP rfl rfl rfl (args := [x.a]) (f := 30) (by simp [go_sem, Inst.a, c2]) (hrr) ?_
    refine K_dEq (op := .eql) (t := 27) (t' := 27) (x := .tmp 19) (y := .tmp 21) (xs := s.cs) (ys := r.cs) (by simp [go_sem, c2]) rfl (by simp [go_sem, State.cs]) (by simp [go_sem, State.a]) state_guard (state_eq s r) rfl ?_
    refine K_run hB 100 ?_
    simp [go_sem, c2, c3]
end Go.Proofs.Ytdfldfkgkooaeaa

/- The laws of the states are awake. -/
set_option maxRecDepth 4000
namespace Go.Proofs.Ytdfldfkgkooaeaa
open Go Go.Proofs.Ytdfldfkgkooaeaa.R
theorem small_moves : small.moves small.rootS = [1] := by decide +kernel
theorem small_follow : (small.follow [1, 2]).2 = (8, 0) ∧ (small.follow [1, 2]).1.time = 10 ∧ small.endS (small.follow [1, 2]).1 = (4, true) := by decide +kernel
theorem go_ok (x : Inst) : ∀ (l : List Int) (s : State) (c : Int), s.ok → (folR (x.goes l s c)).1.ok
  | [], s, c, h => h
  | j :: l, s, c, h => by
    rw [Inst.goes]
    split
    · exact go_ok x l _ _ (move_ok x j h)
    · exact State.zero_ok
theorem follow_ok (x : Inst) (path : List Int) : (x.follow path).1.ok := by
  unfold Inst.follow
  split
  · exact go_ok x path _ _ (rootS_ok x)
  · exact State.zero_ok
theorem awake_pure : Pure P 21 [] (.b true) := by
  refine pure_of Try.func21 rfl rfl (by simp [Try.f21]) (by simp) (by simp [bnd]) fun B hB hnx => ?_
  simp only [Try.f21] at hB ⊢
  refine K_run hB 60 ?_
  simp [go_sem]
  refine K_call rfl rfl rfl (args := []) (f := 44) (by simp [go_sem]) (by simp [go_sem, hB]) (small_pure.spec _ _) ?_
  have hp := parse_pure smallB (by decide) (by decide)
  rw [small_parse] at hp
  refine K_run hB 60 ?_
  simp [go_sem, small_bytes]
  refine K_call rfl rfl rfl (args := [.t (.sl (byt smallB))]) (f := 43) (by simp [go_sem]) (by simp [go_sem, hB]) (hp.spec _ _) ?_
  have hl : small.stops.length < 2 ^ 63 := by decide
  have hr := root_pureS small hl
  have hm := moves_pure small small.rootS hl (rootS_ok small)
  have hf := follow_pure small [1, 2] hl (by decide)
  have he := end_pure small (small.follow [1, 2]).1 hl (follow_ok small [1, 2])
  rw [small_moves] at hm
  obtain ⟨e1, e2, e3⟩ := small_follow
  rw [e3] at he
  generalize small.follow [1, 2] = F at *
  obtain ⟨t, c, e⟩ := F
  simp only [Prod.mk.injEq] at e1
  obtain ⟨rfl, rfl⟩ := e1
  simp only at e2 he
  generalize small.rootS = r at *
  generalize small = x at *
  refine K_run hB 60 ?_
  simp [go_sem, Inst.a]
  refine K_drawn [] rfl (by rw [hB]; kernel_rfl) ?_
  refine K_run hB 60 ?_
  simp [go_sem]
  refine K_dCallP rfl rfl rfl (args := [x.a]) (f := 29) (by simp [go_sem, Inst.a]) hr ?_
  refine K_run hB 60 ?_
  simp [go_sem]
  refine K_dCallP rfl rfl rfl (args := [x.a, r.a]) (f := 27) (by simp [go_sem, Inst.a]) hm ?_
  refine K_run hB 60 ?_
  simp [go_sem]
  refine K_call rfl rfl rfl (args := [x.a, .fsl (ints [1, 2])]) (f := 31) (by simp [go_sem, Inst.a, ints]) (by simp [go_sem, hB]) (CallSpec.loose (hf.spec _ _)) ?_
  refine K_run hB 60 ?_
  simp [go_sem, fol, State.a, State.cs]
  refine K_call rfl rfl rfl (args := [x.a, t.a]) (f := 24) (by simp [go_sem, Inst.a, State.a, State.cs]) (by simp [go_sem, hB]) (he.spec _ _) ?_
  refine K_run hB 100 ?_
  simp [go_sem, e2, ints]
end Go.Proofs.Ytdfldfkgkooaeaa

/- Bounds: of nodes; the document's; what covers what; the laws BoundTells, BoundCovers. -/
set_option maxRecDepth 4000
namespace Go.Proofs.Ytdfldfkgkooaeaa
open Go Go.Proofs.Ytdfldfkgkooaeaa.R
def Inst.of (x : Inst) (n : Node) : Int := sumI [n.cost, x.low n.s]
theorem of_pure (x : Inst) (n : Node) (hl : x.stops.length < 2 ^ 31) (ho : n.s.ok) : Pure P 18 [x.a, n.a] (.i (x.of n)) := by
  have ha := at_pure x n.s hl ho
  have hs := sum_pure [n.cost, x.low n.s] (by simp)
  rw [Inst.of]
  generalize x.low n.s = d at *
  refine pure_of Try.func18 rfl rfl (by simp [Try.f18]) (by simp [bnd, bnd.bndL, Inst.a, Node.a, Node.cs]) (by simp [bnd, bnd.bndL]) fun B hB hnx => ?_
  simp only [Try.f18] at hB ⊢
  refine K_run hB 100 ?_
  simp [go_sem, Inst.a, Node.a, Node.cs]
  refine K_drawn [] rfl (by rw [hB]; kernel_rfl) ?_
  refine K_run hB 100 ?_
  simp [go_sem]
  refine K_dCallP rfl rfl rfl (args := [x.a, n.s.a]) (f := 16) (by simp [go_sem, Inst.a, State.a, State.cs]) (ha) ?_
  refine K_run hB 100 ?_
  simp [go_sem]
  refine K_dCallP rfl rfl rfl (args := [.fsl (ints [n.cost, d])]) (f := 49) (by simp [go_sem, ints]) (Pure.loose hs (by simp [bnd])) ?_
  refine K_run hB 100 ?_
  simp [go_sem]
theorem rat_pure (x : Inst) (s : State) (hl : x.stops.length < 2 ^ 31) (ho : s.ok) : Pure P 17 [x.a, s.a] (.i (x.low s)) := by
  generalize hR : x.low s = R
  refine pure_of Try.func17 rfl rfl (by simp [Try.f17]) (by simp [bnd, bnd.bndL, Inst.a, State.a, State.cs]) (by simp [bnd, bnd.bndL]) fun B hB hnx => ?_
  simp only [Try.f17] at hB ⊢
  rw [Inst.low] at hR
  have hnl := near_len x
  have hne := rnear_pure x hl
  generalize x.near = near at *
  refine K_run hB 100 ?_
  simp [go_sem, Inst.a, State.a, State.cs]
  refine K_call rfl rfl rfl (args := [x.a]) (f := 47) (by simp [go_sem, Inst.a]) (by simp [go_sem, hB]) ((hne).spec _ _) ?_
  match near, hR, hnl with
  | [], hR, _ =>
    simp only [atLeast] at hR
    subst hR
    refine K_run hB 100 ?_
    simp [go_sem, ints]
  | [_], hR, _ =>
    simp only [atLeast] at hR
    subst hR
    refine K_run hB 100 ?_
    simp [go_sem, ints]
  | d0 :: d1 :: l, hR, hnl =>
    simp only [atLeast] at hR
    rw [leftSum, if_neg (by simp)] at hR
    obtain ⟨Y, hY⟩ : ∃ Y, Y = d0 :: d1 :: l := ⟨_, rfl⟩
    obtain ⟨X, hX⟩ : ∃ X, X = ints Y := ⟨_, rfl⟩
    have hdr : Y.drop 1 = d1 :: l := by rw [hY]; rfl
    have hlen : Y.length = l.length + 2 := by rw [hY]; rfl
    have hil : X.length = l.length + 2 := by rw [hX, ints, List.length_map, hlen]
    have hgt : ¬ (l.length : Int) + 2 < 2 := by omega
    have hpos : (0 : Int) < l.length + 2 := by omega
    have hll : l.length + 2 < 2 ^ 63 := by simp only [List.length_cons] at hnl; omega
    have hget : ∀ (k : Nat) (h : k < Y.length) (h' : k < X.length), X[k]'h' = [.i (Y[k]'h)] := fun k h h' => by subst hX; exact ints_getS _ h
    have hget0 : ∀ h : 0 < X.length, X[0]'h = [.i d0] := fun h => by rw [hget 0 (by omega) h]; simp [hY]
    rw [← hdr, Nat.zero_add] at hR
    rw [← hY, ← hX] at hne
    rw [← hY, ← hX]
    clear hX hY
    refine K_run hB 100 ?_
    simp [go_sem, hil, hgt, hpos, hget0]
    refine K_loopP (α := Nat × Int) (fun (k, n) => 1 ≤ k ∧ k ≤ Y.length ∧ leftSum s.can k (Y.drop k) n = R) (fun (k, n) => ⟨sl [(3, .ptr 1 0), (5, .t (.sl X)), (6, .i n), (7, .i k)], oput (oput noObj 0 (.box [.t (.i x.pairs), .t (.i x.cars), .t (.i x.room), .t (.sl (x.stops.map Stop.t))])) 1 (.box s.cs), 2⟩) (fun a => Y.length - a.1) (1, d0) ⟨Nat.le_refl _, by omega, hR⟩ (Imp.slots (by simp [go_sem]) rfl rfl) ?_
    rintro ⟨k, n⟩ ⟨g1, g2, g3⟩
    refine K_run hB 60 ?_
    simp [go_sem, hil]
    refine fork_dec (fun hk => ?_) (fun hk => ?_)
    · have hk' : k < Y.length := by omega
      have hkk : IntKind.i64.wrap ((k : Int) + 1) = ((k + 1 : Nat) : Int) := by rw [w64 ((k : Int) + 1) (by omega)]; rfl
      rw [List.drop_eq_getElem_cons hk', leftSum] at g3
      have hg : X[k]? = some [.i Y[k]] := by rw [List.getElem?_eq_getElem (by omega), hget k hk' (by omega)]
      have hki : (k : Int) < l.length + 2 := by omega
      generalize Y[k] = d at *
      simp [go_sem, State.cs]
      refine K_call rfl rfl rfl (args := [.u s.can, .i k]) (f := 48) (by simp [go_sem]) (by simp [go_sem, hB]) ((rhas_pure s.can k ho.can).spec _ _) ?_
      cases c1 : hasB s.can k with
      | true =>
        rw [if_neg (by simp [c1])] at g3
        refine K_run hB 100 ?_
        simp [go_sem, hkk]
        exact Next.mk (k + 1, n) ⟨by simp only; omega, by simp only; omega, g3⟩ (Imp.slots (by simp [go_sem]) (by simp [State.cs]) rfl) (by simp only; omega)
      | false =>
        rw [if_pos ⟨by omega, c1⟩] at g3
        refine K_run hB 100 ?_
        simp [go_sem, hil, hki, hg, hkk]
        exact Next.mk (k + 1, IntKind.i64.wrap (n + d)) ⟨by simp only; omega, by simp only; omega, g3⟩ (Imp.slots (by simp [go_sem]) (by simp [State.cs]) rfl) (by simp only; omega)
    · have : k = Y.length := by omega
      subst this
      rw [List.drop_length, leftSum] at g3
      simp [go_sem, g3]
theorem rof_pure (x : Inst) (n : Node) (hl : x.stops.length < 2 ^ 31) (ho : n.s.ok) : Pure P 19 [x.a, n.a] (.i (x.of n)) := by
  have ha := rat_pure x n.s hl ho
  have hs := rsum_pure [n.cost, x.low n.s] (by simp)
  rw [Inst.of]
  generalize x.low n.s = d at *
  refine pure_of Try.func19 rfl rfl (by simp [Try.f19]) (by simp [bnd, bnd.bndL, Inst.a, Node.a, Node.cs]) (by simp [bnd, bnd.bndL]) fun B hB hnx => ?_
  simp only [Try.f19] at hB ⊢
  refine K_run hB 100 ?_
  simp [go_sem, Inst.a, Node.a, Node.cs]
  refine K_drawn [] rfl (by rw [hB]; kernel_rfl) ?_
  refine K_run hB 100 ?_
  simp [go_sem]
  refine K_dCallP rfl rfl rfl (args := [x.a, n.s.a]) (f := 17) (by simp [go_sem, Inst.a, State.a, State.cs]) (ha) ?_
  refine K_run hB 100 ?_
  simp [go_sem]
  refine K_dCallP rfl rfl rfl (args := [.fsl (ints [n.cost, d])]) (f := 50) (by simp [go_sem, ints]) (Pure.loose hs (by simp [bnd])) ?_
  refine K_run hB 100 ?_
  simp [go_sem]
end Go.Proofs.Ytdfldfkgkooaeaa

/- What covers what; the laws BoundTells, BoundCovers. -/
set_option maxRecDepth 4000
namespace Go.Proofs.Ytdfldfkgkooaeaa
open Go Go.Proofs.Ytdfldfkgkooaeaa.R
/-! ### Plain: no sum outgrows a number -/
theorem far_le (a b : Stop) : 0 ≤ far a b ∧ far a b ≤ 14143 := by
  obtain ⟨h1, h2⟩ := sq_in a b
  refine ⟨(far_in a b).1, ?_⟩
  unfold far rootI
  split
  · omega
  · rename_i hp
    have e : (min (sq a b) 1152921504606846976).toNat = (sq a b).toNat := by omega
    rw [e]
    obtain ⟨g1, _⟩ := rootL_spec (sq a b).toNat 31 0 (by omega) (by simp; omega)
    generalize rootL (sq a b).toNat 31 0 = r at *
    have : r ≤ 14142 := by
      rcases Nat.lt_or_ge 14142 r with h | h
      · have := Nat.mul_le_mul (show 14143 ≤ r from h) (show 14143 ≤ r from h)
        omega
      · exact h
    omega
theorem nearF_le (k : Nat) (b : Stop) : ∀ (i : Nat) (l : List Stop) (v : Int), (0 ≤ v ∧ v ≤ 14143) ∨ v = inf → (0 ≤ nearF k b i l v ∧ nearF k b i l v ≤ 14143) ∨ nearF k b i l v = inf
  | _, [], v, h => h
  | i, a :: l, v, h => by
    rw [nearF]
    refine nearF_le k b (i + 1) l _ ?_
    have := far_le a b
    have hinf : inf = 1152921504606846976 := rfl
    split
    · exact h
    · omega
theorem nearK_le (x : Inst) (k : Nat) (b : Stop) : 0 ≤ x.nearK k b ∧ x.nearK k b ≤ 14143 := by
  unfold Inst.nearK
  have hinf : inf = 1152921504606846976 := rfl
  rcases nearF_le k b 0 x.stops inf (.inr rfl) with h | h
  · rw [Int.tmod_eq_of_lt h.1 (by omega)]; exact h
  · rw [h, hinf]; decide
theorem nears_le (x : Inst) : ∀ (k : Nat) (l : List Stop), ∀ d ∈ nears x k l, 0 ≤ d ∧ d ≤ 14143
  | _, [], d, h => by cases h
  | k, b :: l, d, h => by
    rw [nears] at h
    rcases List.mem_cons.1 h with e | e
    · rw [e]; exact nearK_le x k b
    · exact nears_le x (k + 1) l d e
theorem near_le (x : Inst) : ∀ d ∈ x.near, 0 ≤ d ∧ d ≤ 14143 := by
  unfold Inst.near
  split
  · exact nears_le x 0 x.stops
  · intro d h; cases h
def lefts (may : Nat) : Nat → List Int → Int
  | _, [] => 0
  | j, d :: l => (if 0 < j ∧ hasB may j = false then d else 0) + lefts may (j + 1) l
theorem lefts_in (may : Nat) : ∀ (j : Nat) (l : List Int), (∀ d ∈ l, 0 ≤ d ∧ d ≤ 14143) → 0 ≤ lefts may j l ∧ lefts may j l ≤ 14143 * l.length
  | _, [], _ => by simp [lefts]
  | j, d :: l, h => by
    have h1 := h d List.mem_cons_self
    have h2 := lefts_in may (j + 1) l fun e he => h e (List.mem_cons_of_mem _ he)
    rw [lefts, List.length_cons]
    split <;> omega
theorem leftSum_eq (may : Nat) : ∀ (j : Nat) (l : List Int) (n : Int), (∀ d ∈ l, 0 ≤ d ∧ d ≤ 14143) → 0 ≤ n → n + 14143 * l.length < 9223372036854775808 → leftSum may j l n = n + lefts may j l
  | _, [], n, _, _, _ => by simp [leftSum, lefts]
  | j, d :: l, n, h, h0, hn => by
    have h1 := h d List.mem_cons_self
    rw [List.length_cons] at hn
    rw [leftSum, lefts]
    split
    · rw [w64 (n + d) (by omega), leftSum_eq may (j + 1) l (n + d) (fun e he => h e (List.mem_cons_of_mem _ he)) (by omega) (by omega)]
      omega
    · rw [leftSum_eq may (j + 1) l n (fun e he => h e (List.mem_cons_of_mem _ he)) h0 (by omega)]
      omega
theorem lefts_mono {a b : Nat} (hab : ∀ j : Nat, hasB b j = true → hasB a j = true) : ∀ (j : Nat) (l : List Int), (∀ d ∈ l, 0 ≤ d ∧ d ≤ 14143) → lefts a j l ≤ lefts b j l
  | _, [], _ => Int.le_refl _
  | j, d :: l, h => by
    have h1 := h d List.mem_cons_self
    have h2 := lefts_mono hab (j + 1) l fun e he => h e (List.mem_cons_of_mem _ he)
    rw [lefts, lefts]
    by_cases c : 0 < j ∧ hasB b j = false
    · rw [if_pos c]
      split <;> omega
    · rw [if_neg c]
      have : ¬ (0 < j ∧ hasB a j = false) := fun ⟨e1, e2⟩ => by
        cases hb : hasB b j with
        | true => rw [hab j hb] at e2; cases e2
        | false => exact c ⟨e1, hb⟩
      rw [if_neg this]
      omega
/-- What it costs at least, as a sum. -/
def lowP (near : List Int) (may : Nat) : Int := match near with
  | a :: b :: l => a + lefts may 0 (a :: b :: l)
  | _ => 0
theorem low_eq (x : Inst) (s : State) (hl : x.stops.length < 2 ^ 31) : x.low s = lowP x.near s.can := by
  unfold Inst.low
  have h1 := near_le x
  have h2 := near_len x
  generalize x.near = near at *
  match near with
  | [] => rfl
  | [_] => rfl
  | a :: b :: l =>
    simp only [atLeast, lowP]
    have ha := h1 a List.mem_cons_self
    refine leftSum_eq _ _ _ _ h1 ha.1 ?_
    simp only [List.length_cons] at h2 ⊢
    omega
theorem lowP_mono {near : List Int} {a b : Nat} (hn : ∀ d ∈ near, 0 ≤ d ∧ d ≤ 14143) (hab : ∀ j : Nat, hasB b j = true → hasB a j = true) : lowP near a ≤ lowP near b := by
  match near with
  | [] => exact Int.le_refl _
  | [_] => exact Int.le_refl _
  | x :: y :: l =>
    simp only [lowP]
    have := lefts_mono hab 0 (x :: y :: l) hn
    omega
theorem within_has {a b : Nat} (h : withinB b a = true) (j : Int) : hasB b j = true → hasB a j = true := by
  unfold hasB
  simp only [Bool.and_eq_true, decide_eq_true_eq]
  rintro ⟨h1, h2⟩
  refine ⟨h1, ?_⟩
  have := List.all_eq_true.1 h j.toNat (List.mem_range.2 (by omega))
  rw [h2] at this
  simpa using this
/-! ### The walks -/
def coversB (a b : State) : Bool :=
  decide (a.spot = b.spot) && withinB a.must b.must && withinB a.on b.on && withinB b.can a.can && decide (a.car ≤ b.car) && decide (a.time ≤ b.time) && decide (a.load ≤ b.load) && decide (a.first ≤ b.first)
theorem covers_pure (a b : State) : Pure P 20 [a.a, b.a] (.b (coversB a b)) := by
  generalize hR : coversB a b = R
  refine pure_of Try.func20 rfl rfl (by simp [Try.f20]) (by simp [bnd, bnd.bndL, State.a, State.cs]) (by simp [bnd, bnd.bndL]) fun B hB hnx => ?_
  simp only [Try.f20] at hB ⊢
  rw [coversB] at hR
  have hw1 := within_pure a.must b.must
  have hw2 := within_pure a.on b.on
  have hw3 := within_pure b.can a.can
  by_cases c1 : a.spot = b.spot
  rotate_left
  · refine K_run hB 100 ?_
    simp [go_sem, State.a, State.cs, c1]
    simp [← hR, c1]
  refine K_run hB 100 ?_
  simp [go_sem, State.a, State.cs, c1]
  refine K_call rfl rfl rfl (args := [.u a.must, .u b.must]) (f := 51) (by simp [go_sem]) (by simp [go_sem, hB]) ((hw1).spec _ _) ?_
  cases c2 : withinB a.must b.must with
  | false =>
    refine K_run hB 100 ?_
    simp [go_sem]
    simp [← hR, c2]
  | true =>
    refine K_run hB 100 ?_
    simp [go_sem]
    refine K_call rfl rfl rfl (args := [.u a.on, .u b.on]) (f := 51) (by simp [go_sem]) (by simp [go_sem, hB]) ((hw2).spec _ _) ?_
    cases c3 : withinB a.on b.on with
    | false =>
      refine K_run hB 100 ?_
      simp [go_sem]
      simp [← hR, c3]
    | true =>
      refine K_run hB 100 ?_
      simp [go_sem]
      refine K_call rfl rfl rfl (args := [.u b.can, .u a.can]) (f := 51) (by simp [go_sem]) (by simp [go_sem, hB]) ((hw3).spec _ _) ?_
      cases c4 : withinB b.can a.can with
      | false =>
        refine K_run hB 100 ?_
        simp [go_sem]
        simp [← hR, c4]
      | true =>
        rw [c2, c3, c4] at hR
        simp only [c1, decide_true, Bool.and_true, Bool.true_and] at hR
        refine K_run hB 100 ?_
        simp [go_sem]
        refine atVal_decT (fun h1 => ?_) (fun h1 => by simp [go_sem, h1, ← hR])
        simp [go_sem, h1]
        refine atVal_decT (fun h2 => ?_) (fun h2 => by simp [go_sem, h2, ← hR])
        simp [go_sem, h2]
        refine atVal_decT (fun h3 => ?_) (fun h3 => by simp [go_sem, h3, ← hR])
        simp [go_sem, h3]
        simp [← hR, h1, h2, h3]
theorem small_low : small.low small.rootS = 10 ∧ small.of ⟨State.zero, 2, []⟩ = 12 := by decide +kernel
theorem awake12_pure : Pure P 15 [] (.b true) := by
  refine pure_of Try.func15 rfl rfl (by simp [Try.f15]) (by simp [bnd, bnd.bndL]) (by simp [bnd, bnd.bndL]) fun B hB hnx => ?_
  simp only [Try.f15] at hB ⊢
  refine K_run hB 100 ?_
  simp [go_sem]
  refine K_call rfl rfl rfl (args := []) (f := 44) (by simp [go_sem]) (by simp [go_sem, hB]) ((small_pure).spec _ _) ?_
  have hp := parse_pure smallB (by decide) (by decide)
  rw [small_parse] at hp
  refine K_run hB 100 ?_
  simp [go_sem, small_bytes]
  refine K_call rfl rfl rfl (args := [.t (.sl (byt smallB))]) (f := 43) (by simp [go_sem]) (by simp [go_sem, hB]) ((hp).spec _ _) ?_
  have hl : small.stops.length < 2 ^ 63 := by decide
  have hr := root_pureS small hl
  have ha := at_pure small small.rootS (by decide) (rootS_ok small)
  have ho := of_pure small ⟨State.zero, 2, []⟩ (by decide) State.zero_ok
  rw [small_low.1] at ha
  rw [small_low.2] at ho
  generalize small.rootS = r at *
  generalize small = x at *
  refine K_run hB 100 ?_
  simp [go_sem, Inst.a]
  refine K_drawn [] rfl (by rw [hB]; kernel_rfl) ?_
  refine K_run hB 100 ?_
  simp [go_sem]
  refine K_dCallP rfl rfl rfl (args := [x.a]) (f := 29) (by simp [go_sem, Inst.a]) (hr) ?_
  refine K_run hB 100 ?_
  simp [go_sem]
  refine K_dCallP rfl rfl rfl (args := [x.a, r.a]) (f := 16) (by simp [go_sem, Inst.a]) (ha) ?_
  refine K_run hB 100 ?_
  simp [go_sem]
  refine K_dCallP rfl rfl rfl (args := [x.a, .agg [.i 0, .i 0, .i 0, .i 0, .i 0, .u 0, .u 0, .u 0, .i 2, .fsl []]]) (f := 18) (by simp [go_sem, Inst.a]) (Pure.loose ho (by simp [bnd, bnd.bndL, Inst.a])) ?_
  refine K_run hB 100 ?_
  simp [go_sem]
theorem ltells_pure (x : Inst) (n : Node) (hl : x.stops.length < 2 ^ 63) (ho : n.s.ok) : Pure P 3 [x.a, n.a] (.b true) := by
  refine pure_of Try.func3 rfl rfl (by simp [Try.f3]) (by simp [bnd, bnd.bndL, Inst.a, Node.a, Node.cs]) (by simp [bnd, bnd.bndL]) fun B hB hnx => ?_
  simp only [Try.f3] at hB ⊢
  refine K_run hB 100 ?_
  simp [go_sem, Inst.a, Node.a, Node.cs]
  refine K_call rfl rfl rfl (args := []) (f := 15) (by simp [go_sem]) (by simp [go_sem, hB]) ((awake12_pure).spec _ _) ?_
  by_cases c1 : 100 < (x.stops.length : Int)
  · refine K_run hB 100 ?_
    simp [go_sem, c1]
  have ha := at_pure x n.s (by omega) ho
  have hra := rat_pure x n.s (by omega) ho
  have hf := of_pure x n (by omega) ho
  have hrf := rof_pure x n (by omega) ho
  generalize x.low n.s = d at *
  generalize x.of n = e at *
  refine K_run hB 100 ?_
  simp [go_sem, c1]
  refine K_drawn [] rfl (by rw [hB]; kernel_rfl) ?_
  refine K_run hB 100 ?_
  simp [go_sem]
  refine K_dCallP rfl rfl rfl (args := [x.a, n.s.a]) (f := 16) (by simp [go_sem, Inst.a, State.a, State.cs]) (ha) ?_
  refine K_run hB 100 ?_
  simp [go_sem]
  refine K_dCallP rfl rfl rfl (args := [x.a, n.s.a]) (f := 17) (by simp [go_sem, Inst.a, State.a, State.cs]) (hra) ?_
  refine K_run hB 100 ?_
  simp [go_sem]
  refine K_dCallP rfl rfl rfl (args := [x.a, n.a]) (f := 18) (by simp [go_sem, Inst.a, Node.a, Node.cs]) (hf) ?_
  refine K_run hB 100 ?_
  simp [go_sem]
  refine K_dCallP rfl rfl rfl (args := [x.a, n.a]) (f := 19) (by simp [go_sem, Inst.a, Node.a, Node.cs]) (hrf) ?_
  refine K_run hB 100 ?_
  simp [go_sem]
theorem lcovers_pure (x : Inst) (a b : State) (hl : x.stops.length < 2 ^ 63) (ha : a.ok) (hb : b.ok) : Pure P 4 [x.a, a.a, b.a] (.b true) := by
  refine pure_of Try.func4 rfl rfl (by simp [Try.f4]) (by simp [bnd, bnd.bndL, Inst.a, State.a, State.cs]) (by simp [bnd, bnd.bndL]) fun B hB hnx => ?_
  simp only [Try.f4] at hB ⊢
  refine K_run hB 100 ?_
  simp [go_sem, Inst.a, State.a, State.cs]
  refine K_call rfl rfl rfl (args := []) (f := 15) (by simp [go_sem]) (by simp [go_sem, hB]) ((awake12_pure).spec _ _) ?_
  by_cases c1 : 100 < (x.stops.length : Int)
  · refine K_run hB 100 ?_
    simp [go_sem, c1]
  have hc := covers_pure a b
  refine K_run hB 100 ?_
  simp [go_sem, c1]
  refine K_call rfl rfl rfl (args := [a.a, b.a]) (f := 20) (by simp [go_sem, State.a, State.cs]) (by simp [go_sem, hB]) ((hc).spec _ _) ?_
  cases c2 : coversB a b with
  | false =>
    refine K_run hB 100 ?_
    simp [go_sem]
  | true =>
    have h1 := at_pure x a (by omega) ha
    have h2 := at_pure x b (by omega) hb
    have hle : x.low a ≤ x.low b := by
      rw [low_eq x a (by omega), low_eq x b (by omega)]
      simp only [coversB, Bool.and_eq_true] at c2
      exact lowP_mono (near_le x) fun j => within_has c2.1.1.1.1.2 j
    generalize x.low a = p at *
    generalize x.low b = q at *
    refine K_run hB 100 ?_
    simp [go_sem]
    refine K_drawn [] rfl (by rw [hB]; kernel_rfl) ?_
    refine K_run hB 100 ?_
    simp [go_sem]
    refine K_dCallP rfl rfl rfl (args := [x.a, a.a]) (f := 16) (by simp [go_sem, Inst.a, State.a, State.cs]) (h1) ?_
    refine K_run hB 100 ?_
    simp [go_sem]
    refine K_dCallP rfl rfl rfl (args := [x.a, b.a]) (f := 16) (by simp [go_sem, Inst.a, State.a, State.cs]) (h2) ?_
    refine K_run hB 100 ?_
    simp [go_sem, hle]
end Go.Proofs.Ytdfldfkgkooaeaa

/- A move at a sooner time, with a lesser load. -/
set_option maxRecDepth 4000
namespace Go.Proofs.Ytdfldfkgkooaeaa
open Go Go.Proofs.Ytdfldfkgkooaeaa.R
/-- One state is no later, and bears no more, but is the same. -/
structure Sooner (a s : State) : Prop where
  time : a.time ≤ s.time
  load : a.load ≤ s.load
  spot : a.spot = s.spot
  car : a.car = s.car
  first : a.first = s.first
  must : a.must = s.must
  can : a.can = s.can
  on : a.on = s.on
theorem Sooner.begins {a s : State} (h : Sooner a s) (x : Inst) (j : Int) : x.begins a j ≤ x.begins s j := by
  have := h.time
  unfold Inst.begins
  rw [h.spot]
  omega
theorem Sooner.late {a s : State} (h : Sooner a s) (x : Inst) (j : Int) (hl : x.lateB s j = false) : x.lateB a j = false := by
  have := h.begins x j
  unfold Inst.lateB at hl ⊢
  simp only [Bool.or_eq_false_iff, decide_eq_false_iff_not] at hl ⊢
  rw [h.must]
  exact ⟨hl.1, by omega⟩
theorem Sooner.seen {a s : State} (h : Sooner a s) (x : Inst) (j : Int) : Sooner (x.seen a j) (x.seen s j) := by
  have := h.begins x j
  have := h.load
  exact ⟨by simp only [Inst.seen]; omega, by simp only [Inst.seen]; omega, rfl, h.car, by simp only [Inst.seen, h.spot, h.first], by simp only [Inst.seen, h.must], by simp only [Inst.seen, h.can], h.on⟩
theorem Sooner.visit {a s : State} (h : Sooner a s) (x : Inst) (j : Int) (hv : (x.visit s j).2 = true) : (x.visit a j).2 = true ∧ Sooner (x.visit a j).1 (x.visit s j).1 := by
  unfold Inst.visit at hv ⊢
  cases hl : x.lateB s j with
  | true => rw [hl] at hv; simp at hv
  | false =>
    rw [h.late x j hl]
    exact ⟨rfl, h.seen x j⟩
theorem Sooner.take {a s : State} (h : Sooner a s) (x : Inst) (j : Int) (hv : (x.take s j).2 = true) : (x.take a j).2 = true ∧ Sooner (x.take a j).1 (x.take s j).1 := by
  unfold Inst.take at hv ⊢
  cases hf : x.fullB s j with
  | true => rw [hf] at hv; simp at hv
  | false =>
    have hf' : x.fullB a j = false := by
      have := h.load
      unfold Inst.fullB at hf ⊢
      simp only [Bool.or_eq_false_iff, decide_eq_false_iff_not, Bool.and_eq_false_iff] at hf ⊢
      rw [h.spot, h.first]
      exact ⟨by omega, hf.2⟩
    rw [hf] at hv
    rw [hf']
    simp only [Bool.false_eq_true, if_false] at hv ⊢
    cases hq : (x.visit s j).2 with
    | false => rw [hq] at hv; simp [hq] at hv
    | true =>
      obtain ⟨v1, v2⟩ := h.visit x j hq
      rw [v1]
      exact ⟨rfl, ⟨v2.time, v2.load, v2.spot, v2.car, v2.first, v2.must, v2.can, by simp only [if_true, h.on]⟩⟩
theorem Sooner.bring {a s : State} (h : Sooner a s) (x : Inst) (j : Int) (hv : (x.bring s j).2 = true) : (x.bring a j).2 = true ∧ Sooner (x.bring a j).1 (x.bring s j).1 := by
  unfold Inst.bring at hv ⊢
  cases hf : x.emptyB s j with
  | true => rw [hf] at hv; simp at hv
  | false =>
    have hf' : x.emptyB a j = false := by
      unfold Inst.emptyB at hf ⊢
      rw [h.spot, h.can]
      exact hf
    rw [hf] at hv
    rw [hf']
    simp only [Bool.false_eq_true, if_false] at hv ⊢
    cases hq : (x.visit s j).2 with
    | false => rw [hq] at hv; simp [hq] at hv
    | true =>
      obtain ⟨v1, v2⟩ := h.visit x j hq
      rw [v1]
      exact ⟨rfl, ⟨v2.time, v2.load, v2.spot, v2.car, v2.first, v2.must, v2.can, by simp only [if_true, h.on]⟩⟩
theorem Sooner.home {a s : State} (h : Sooner a s) (x : Inst) (hv : (x.home s).2 = true) : (x.home a).2 = true ∧ Sooner (x.home a).1 (x.home s).1 := by
  unfold Inst.home at hv ⊢
  cases hf : x.stayB s with
  | true => rw [hf] at hv; simp at hv
  | false =>
    have hf' : x.stayB a = false := by
      have := h.time
      unfold Inst.stayB at hf ⊢
      simp only [Bool.or_eq_false_iff, decide_eq_false_iff_not] at hf ⊢
      rw [h.spot, h.on, h.car, h.must]
      exact ⟨hf.1, by omega⟩
    rw [hf']
    refine ⟨rfl, ?_⟩
    show Sooner (x.homeS a) (x.homeS s)
    exact ⟨Int.le_refl _, Int.le_refl _, rfl, by simp only [Inst.homeS, h.car], h.first, h.must, h.can, h.on⟩
theorem Sooner.to {a s : State} (h : Sooner a s) (x : Inst) (j : Int) (hv : (x.to s j).2 = true) : (x.to a j).2 = true ∧ Sooner (x.to a j).1 (x.to s j).1 := by
  unfold Inst.to at hv ⊢
  split
  · rename_i e
    rw [if_pos e] at hv
    exact h.home x hv
  · rename_i e
    rw [if_neg e] at hv
    split
    · rename_i e2
      rw [if_pos e2] at hv
      exact h.take x j hv
    · rename_i e2
      rw [if_neg e2] at hv
      exact h.bring x j hv
theorem move_is {x : Inst} {s : State} {j : Int} (hv : (x.move s j).2.2 = true) : x.may = true ∧ s.mayB x = true ∧ (0 ≤ j ∧ j ≤ 2 * x.pairs) ∧ (x.to s j).2 = true ∧ x.move s j = ((x.to s j).1, far (x.stop s.spot) (x.stop j), true) := by
  unfold Inst.move at hv ⊢
  split at hv
  · rename_i h
    rw [if_pos h]
    unfold Inst.step at hv ⊢
    split at hv
    · simp at hv
    · rename_i h1
      rw [if_neg h1]
      split at hv
      · rename_i h2
        rw [if_pos h2]
        exact ⟨h.1, h.2, by omega, h2, rfl⟩
      · simp at hv
  · simp at hv
theorem move_mk {x : Inst} {s : State} {j : Int} (h1 : x.may = true) (h2 : s.mayB x = true) (h3 : 0 ≤ j ∧ j ≤ 2 * x.pairs) (h4 : (x.to s j).2 = true) : x.move s j = ((x.to s j).1, far (x.stop s.spot) (x.stop j), true) := by
  unfold Inst.move Inst.step
  rw [if_pos ⟨h1, h2⟩, if_neg (by omega), if_pos h4]
theorem Sooner.move {a s : State} (h : Sooner a s) (x : Inst) (j : Int) (ht : 0 ≤ a.time) (hw : 0 ≤ a.load) (hv : (x.move s j).2.2 = true) : (x.move a j).2.2 = true ∧ (x.move a j).2.1 = (x.move s j).2.1 ∧ Sooner (x.move a j).1 (x.move s j).1 := by
  obtain ⟨h1, h2, h3, h4, h5⟩ := move_is hv
  obtain ⟨g1, g2⟩ := h.to x j h4
  have g3 : a.mayB x = true := by
    have := h.time
    have := h.load
    unfold State.mayB at h2 ⊢
    simp only [Bool.and_eq_true, decide_eq_true_eq] at h2 ⊢
    rw [h.spot, h.car]
    omega
  rw [h5, move_mk h1 g3 h3 g1]
  exact ⟨rfl, by rw [h.spot], g2⟩
def lateS (s : State) (sooner less : Int) : State := { s with time := s.time - sooner, load := s.load - less }
theorem late_pure (x : Inst) (s : State) (j sooner less : Int) (hl : x.stops.length < 2 ^ 63) (ho : s.ok) : Pure P 9 [x.a, s.a, .i j, .i sooner, .i less] (.b true) := by
  refine pure_of Try.func9 rfl rfl (by simp [Try.f9]) (by simp [bnd, bnd.bndL, Inst.a, State.a, State.cs]) (by simp [bnd]) fun B hB hnx => ?_
  simp only [Try.f9] at hB ⊢
  refine K_run hB 60 ?_
  simp [go_sem, Inst.a, State.a, State.cs]
  refine K_call rfl rfl rfl (args := []) (f := 21) (by simp [go_sem]) (by simp [go_sem, hB]) (awake_pure.spec _ _) ?_
  have hm := move_pure x s j hl ho
  refine K_run hB 60 ?_
  simp [go_sem]
  refine K_call rfl rfl rfl (args := [x.a, s.a, .i j]) (f := 22) (by simp [go_sem, Inst.a, State.a, State.cs]) (by simp [go_sem, hB]) (hm.spec _ _) ?_
  by_cases c1 : 33 < (x.stops.length : Int)
  · refine K_run hB 100 ?_
    simp [go_sem, mv, State.a, State.cs, c1]
  cases c2 : (x.move s j).2.2 with
  | false =>
    refine K_run hB 100 ?_
    simp [go_sem, mv, State.a, State.cs, c1, c2]
  | true =>
    by_cases c3 : sooner < 0
    · refine K_run hB 100 ?_
      simp [go_sem, mv, State.a, State.cs, c1, c2, c3]
    by_cases c4 : less < 0
    · refine K_run hB 100 ?_
      simp [go_sem, mv, State.a, State.cs, c1, c2, c3, c4]
    by_cases c5 : s.time < sooner
    · refine K_run hB 100 ?_
      simp [go_sem, mv, State.a, State.cs, c1, c2, c3, c4, c5]
    by_cases c6 : s.load < less
    · refine K_run hB 100 ?_
      simp [go_sem, mv, State.a, State.cs, c1, c2, c3, c4, c5, c6]
    have hso : Sooner (lateS s sooner less) s := ⟨by simp only [lateS]; omega, by simp only [lateS]; omega, rfl, rfl, rfl, rfl, rfl, rfl⟩
    obtain ⟨m1, m2, m3⟩ := hso.move x j (by simp only [lateS]; omega) (by simp only [lateS]; omega) c2
    obtain ⟨_, hs, _⟩ := move_is c2
    have ho' : (lateS s sooner less).ok := ⟨ho.must, ho.can, ho.on⟩
    have hm' := move_pure x (lateS s sooner less) j hl ho'
    simp only [State.mayB, Bool.and_eq_true, decide_eq_true_eq] at hs
    have w1 := w64 (s.time - sooner) (by omega)
    have w2 := w64 (s.load - less) (by omega)
    have f1 := m3.time
    have f2 := m3.load
    have f3 := m3.must
    have f4 := m3.spot
    generalize x.move (lateS s sooner less) j = V at *
    generalize x.move s j = U at *
    refine K_run hB 150 ?_
    simp [go_sem, mv, State.a, State.cs, c1, c2, c3, c4, c5, c6, w1, w2]
    refine K_call rfl rfl rfl (args := [x.a, (lateS s sooner less).a, .i j]) (f := 22) (by simp [go_sem, Inst.a, State.a, State.cs, lateS]) (by simp [go_sem, hB]) (hm'.spec _ _) ?_
    refine K_run hB 150 ?_
    simp [go_sem, mv, State.a, State.cs, m1, m2, f1, f2, f3, f4]
end Go.Proofs.Ytdfldfkgkooaeaa

/- Where a state can be ended. -/
set_option maxRecDepth 4000
namespace Go.Proofs.Ytdfldfkgkooaeaa
open Go Go.Proofs.Ytdfldfkgkooaeaa.R
theorem upto_bit : ∀ {k i : Nat}, 1 ≤ i → i ≤ k → (uptoL k).testBit i = true
  | 0, i, h1, h2 => by omega
  | k + 1, i, h1, h2 => by
    rw [uptoL, Nat.testBit_or]
    by_cases h : i ≤ k
    · rw [upto_bit h1 h]; rfl
    · have : i = k + 1 := by omega
      subst this
      rw [Nat.testBit_two_pow_self, Bool.or_true]
theorem Inst.all_bit {x : Inst} {t p : Nat} (hx : x.Fit p) (h : x.allB t = true) {i : Nat} (h1 : 1 ≤ i) (h2 : i ≤ 2 * p) : t.testBit i = true := by
  have hf := hx.few
  have hp := hx.pairs
  unfold Inst.allB withinB at h
  rw [List.all_eq_true] at h
  have := h i (List.mem_range.2 (by omega))
  have hu : (uptoN (2 * x.pairs)).testBit i = true := by
    unfold uptoN
    exact upto_bit h1 (by omega)
  rw [hu] at this
  simpa using this
theorem shr_bit {t k : Nat} (h : t.testBit k = true) : (Int.fdiv (t : Int) (2 ^ k)).tmod 2 = 1 := by
  have e : Int.fdiv (t : Int) (2 ^ k) = ((t / 2 ^ k : Nat) : Int) := by
    rw [Int.fdiv_eq_ediv_of_nonneg _ (Int.le_of_lt (Int.pow_pos (by decide)))]
    norm_cast
  rw [Nat.testBit_eq_decide_div_mod_eq, decide_eq_true_eq] at h
  rw [e, show ((t / 2 ^ k : Nat) : Int).tmod 2 = ((t / 2 ^ k % 2 : Nat) : Int) from rfl, h]
  rfl
theorem ends_pure (x : Inst) (s : State) (hl : x.stops.length < 2 ^ 63) (ho : s.ok) : Pure P 10 [x.a, s.a] (.b true) := by
  refine pure_of Try.func10 rfl rfl (by simp [Try.f10]) (by simp [bnd, bnd.bndL, Inst.a, State.a, State.cs]) (by simp [bnd]) fun B hB hnx => ?_
  simp only [Try.f10] at hB ⊢
  refine K_run hB 60 ?_
  simp [go_sem, Inst.a, State.a, State.cs]
  refine K_call rfl rfl rfl (args := []) (f := 21) (by simp [go_sem]) (by simp [go_sem, hB]) (awake_pure.spec _ _) ?_
  have he := end_pure x s hl ho
  refine K_run hB 60 ?_
  simp [go_sem]
  refine K_call rfl rfl rfl (args := [x.a, s.a]) (f := 24) (by simp [go_sem, Inst.a, State.a, State.cs]) (by simp [go_sem, hB]) (he.spec _ _) ?_
  by_cases c1 : 33 < (x.stops.length : Int)
  · refine K_run hB 100 ?_
    simp [go_sem, c1]
  cases c2 : (x.endS s).2 with
  | false =>
    refine K_run hB 100 ?_
    simp [go_sem, c1, c2]
  | true =>
    have key : (∀ k : Nat, 1 ≤ k → k < x.stops.length → s.can.testBit k = true) ∧ s.on = 0 ∧ 0 ≤ (x.endS s).1 ∧ ((x.move s 0).2.2 = true → ¬ s.must = s.can) := by
      unfold Inst.endS at c2 ⊢
      split at c2
      · simp at c2
      rename_i h0
      rw [if_neg h0]
      have hm : x.may = true := by simpa using h0
      obtain ⟨p, hx⟩ := x.fit hm
      have hlen := hx.len
      have hp := hx.pairs
      split at c2
      · rename_i h1
        rw [if_pos h1]
        have hp0 : p = 0 := by omega
        refine ⟨fun k k1 k2 => by omega, ?_, Int.le_refl _, fun h => ?_⟩
        · rw [h1.2, Inst.rootS, if_pos hm]; rfl
        · obtain ⟨_, _, _, h4, _⟩ := move_is h
          have e : s.spot = 0 := by rw [h1.2, Inst.rootS, if_pos hm]; rfl
          simp [Inst.to, Inst.home, Inst.stayB, e] at h4
      · rename_i h1
        rw [if_neg h1]
        split at c2
        · rename_i h2
          rw [if_pos h2]
          obtain ⟨_, _, q3, q4, _⟩ := h2
          refine ⟨fun k k1 k2 => Inst.all_bit hx q4 k1 (by omega), q3, (far_in' _ _).1, fun h e => ?_⟩
          obtain ⟨_, _, _, h4, _⟩ := move_is h
          simp [Inst.to, Inst.home, Inst.stayB, e, q4] at h4
        · simp at c2
    obtain ⟨k1, k2, k3, k4⟩ := key
    refine K_run hB 100 ?_
    simp [go_sem, c1, c2]
    refine K_loopP (α := Nat) (fun k => 1 ≤ k ∧ (k ≤ x.stops.length ∨ k = 1)) (fun k => ⟨sl [(2, .ptr 0 0), (3, .ptr 1 0), (6, .i (x.endS s).1), (8, .i k)], ob [(0, .box [.t (.i x.pairs), .t (.i x.cars), .t (.i x.room), .t (.sl (x.stops.map Stop.t))]), (1, .box s.cs)], 2⟩) (fun k => x.stops.length - k) 1 ⟨by omega, .inr rfl⟩ (Sub.of (by omega) (by simp) (by simp [go_sem]) (by simp [go_sem, State.cs])) ?_
    rintro k ⟨g1, g2⟩
    refine K_run hB 60 ?_
    simp [go_sem]
    refine fork_dec (fun hk => ?_) (fun hk => ?_)
    · have hb := k1 k g1 hk
      have hkk : IntKind.i64.wrap ((k : Int) + 1) = ((k + 1 : Nat) : Int) := by rw [w64 ((k : Int) + 1) (by omega)]; rfl
      have hb' := shr_bit hb
      have hu := u64n k (by omega)
      have hmin : min k 64 = k := by omega
      simp [go_sem, hk, State.cs, hu, show ¬ (k : Int) < 0 by omega, hmin, hb', hkk]
      exact Next.mk (k + 1) ⟨by omega, .inl (by omega)⟩ (Imp.slots (by simp [go_sem]) rfl rfl) (by omega)
    · have hmv := move_pure x s 0 hl ho
      generalize x.move s 0 = V at *
      generalize (x.endS s).1 = c at *
      simp [go_sem, State.cs]
      refine K_call rfl rfl rfl (args := [x.a, s.a, .i 0]) (f := 22) (by simp [go_sem, Inst.a, State.a, State.cs]) (by simp [go_sem, hB]) (hmv.spec _ _) ?_
      cases c6 : V.2.2 with
      | false =>
        refine K_run hB 100 ?_
        simp [go_sem, mv, State.a, State.cs, k2, k3, c6]
      | true =>
        have k5 := k4 c6
        refine K_run hB 100 ?_
        simp [go_sem, mv, State.a, State.cs, k2, k3, c6, k5]
end Go.Proofs.Ytdfldfkgkooaeaa

/- The moves are just those that can be made. -/
set_option maxRecDepth 4000
namespace Go.Proofs.Ytdfldfkgkooaeaa
open Go Go.Proofs.Ytdfldfkgkooaeaa.R
/-- What is told of a move that can be made. -/
theorem step_facts {x : Inst} {s : State} {j : Int} (h : (x.move s j).2.2 = true) : ((x.move s j).1.spot = j ∧ 0 ≤ (x.move s j).2.1 ∧ (x.move s j).2.1 < 1152921504606846976) ∧ (0 < j → s.time + (x.move s j).2.1 ≤ (x.move s j).1.time ∧ (x.move s j).1.car = s.car) ∧ (j = 0 → (x.move s j).1.car = s.car + 1) := by
  obtain ⟨h1, h2, h3, h4, h5⟩ := move_is h
  obtain ⟨p, hx⟩ := x.fit h1
  have hp := hx.pairs
  rw [h5]
  have hfar := far_in' (x.stop s.spot) (x.stop j)
  have hat := hx.at h3.1 (by omega)
  have hseen : (x.seen s j).spot = j ∧ s.time + far (x.stop s.spot) (x.stop j) ≤ (x.seen s j).time ∧ (x.seen s j).car = s.car := by
    refine ⟨rfl, ?_, rfl⟩
    have := hat.service
    simp only [Inst.seen, Inst.begins]
    omega
  have hvis : (x.visit s j).2 = true → (x.visit s j).1 = x.seen s j := by
    unfold Inst.visit
    split
    · intro h; simp at h
    · intro _; rfl
  by_cases hj : j = 0
  · subst hj
    have e : x.to s 0 = x.home s := by simp [Inst.to]
    rw [e] at h4 ⊢
    have e2 : (x.home s).1 = x.homeS s := by
      unfold Inst.home at h4 ⊢
      split at h4
      · simp at h4
      · rename_i hh; rw [if_neg hh]
    rw [e2]
    exact ⟨⟨rfl, hfar⟩, fun h => absurd h (by omega), fun _ => rfl⟩
  · refine ⟨?_, fun _ => ?_, fun h => absurd h hj⟩
    all_goals
      simp only [Inst.to, if_neg hj] at h4 ⊢
      split at h4
      all_goals
        rename_i hh
        first
        | rw [if_pos hh]
          unfold Inst.take at h4 ⊢
        | rw [if_neg hh]
          unfold Inst.bring at h4 ⊢
        split at h4
        · simp at h4
        · rename_i h7
          rw [if_neg h7]
          split at h4
          · rename_i h8
            rw [if_pos h8, hvis h8]
            first
            | exact ⟨hseen.1, hfar⟩
            | exact ⟨hseen.2.1, hseen.2.2⟩
          · rename_i h8; exact absurd h4 h8
theorem move_no {x : Inst} {s : State} {j : Int} (h : (x.move s j).2.2 = false) : x.move s j = (s, 0, false) := by
  unfold Inst.move at h ⊢
  split
  · rename_i h1
    rw [if_pos h1] at h
    unfold Inst.step at h ⊢
    split
    · rfl
    · rename_i h2
      rw [if_neg h2] at h
      split
      · rename_i h3
        rw [if_pos h3] at h
        simp at h
      · rfl
  · rfl
/-- The moves from one on. -/
def canF (f : Int → Bool) : Nat → Int → List Int
  | 0, _ => []
  | n + 1, j => if f j = true then j :: canF f n (j + 1) else canF f n (j + 1)
theorem canB_canF (f : Int → Bool) : ∀ (n k : Nat), canB (fun k => f k) (k + n) = canB (fun k => f k) k ++ canF f n k
  | 0, k => by simp [canF]
  | n + 1, k => by
    have := canB_canF f n (k + 1)
    rw [show k + (n + 1) = k + 1 + n by omega, this, canB, canF]
    simp only [Int.natCast_add, Int.natCast_one]
    split <;> simp
theorem moves_canF (x : Inst) (s : State) : x.moves s = canF (fun j => (x.move s j).2.2) x.stops.length 0 := by
  unfold Inst.moves
  split
  · rename_i h
    have := canB_canF (fun j => (x.step s j).2.2) x.stops.length 0
    rw [Nat.zero_add] at this
    rw [this]
    have e : ∀ j, x.move s j = x.step s j := fun j => by rw [Inst.move, if_pos h]
    simp only [e]
    rfl
  · rename_i h
    have e : ∀ j, (x.move s j).2.2 = false := fun j => by rw [Inst.move, if_neg h]
    have : ∀ (n : Nat) (j : Int), canF (fun j => (x.move s j).2.2) n j = [] := by
      intro n
      induction n with
      | zero => intro j; rfl
      | succ n ih => intro j; rw [canF, if_neg (by simp [e]), ih]
    rw [this]
theorem canF_ge (f : Int → Bool) : ∀ (n : Nat) (j a : Int), a ∈ canF f n j → j ≤ a
  | 0, j, a, h => by cases h
  | n + 1, j, a, h => by
    rw [canF] at h
    split at h
    · rcases List.mem_cons.1 h with rfl | h
      · exact Int.le_refl _
      · have := canF_ge f n (j + 1) a h; omega
    · have := canF_ge f n (j + 1) a h; omega
theorem canF_last (f : Int → Bool) : ∀ (n : Nat) (j : Int), f (j + n) = false → canF f (n + 1) j = canF f n j
  | 0, j, h => by
    have h' : f j = false := by simpa using h
    simp [canF, h']
  | n + 1, j, h => by
    have := canF_last f n (j + 1) (by rw [← h]; congr 1; omega)
    rw [canF, this]
    rfl
theorem moves_all (x : Inst) (s : State) : x.moves s = canF (fun j => (x.move s j).2.2) (x.stops.length + 2) (-1) := by
  have h1 : (x.move s (-1)).2.2 = false := by
    cases h : (x.move s (-1)).2.2 with
    | false => rfl
    | true =>
      obtain ⟨_, _, h3, _⟩ := move_is h
      omega
  have h2 : (x.move s x.stops.length).2.2 = false := by
    cases h : (x.move s x.stops.length).2.2 with
    | false => rfl
    | true =>
      obtain ⟨hm, _, h3, _⟩ := move_is h
      obtain ⟨p, hx⟩ := x.fit hm
      have := hx.len
      have := hx.pairs
      omega
  rw [moves_canF, canF, if_neg (by simp [h1])]
  exact (canF_last _ x.stops.length 0 (by simpa using h2)).symm
theorem steps_pure (x : Inst) (s : State) (hl : x.stops.length < 2 ^ 63) (ho : s.ok) : Pure P 8 [x.a, s.a] (.b true) := by
  refine pure_of Try.func8 rfl rfl (by simp [Try.f8]) (by simp [bnd, bnd.bndL, Inst.a, State.a, State.cs]) (by simp [bnd]) fun B hB hnx => ?_
  simp only [Try.f8] at hB ⊢
  refine K_run hB 60 ?_
  simp [go_sem, Inst.a, State.a, State.cs]
  refine K_call rfl rfl rfl (args := []) (f := 21) (by simp [go_sem]) (by simp [go_sem, hB]) (awake_pure.spec _ _) ?_
  by_cases c1 : 100 < (x.stops.length : Int)
  · refine K_run hB 100 ?_
    simp [go_sem, c1]
  have hms := moves_pure x s hl ho
  have hall := moves_all x s
  have hcl : (x.moves s).length ≤ x.stops.length := by
    unfold Inst.moves
    split
    · exact canB_len _ _
    · simp
  refine K_run hB 60 ?_
  simp [go_sem, c1]
  refine K_call rfl rfl rfl (args := [x.a, s.a]) (f := 27) (by simp [go_sem, Inst.a, State.a, State.cs]) (by simp [go_sem, hB]) (hms.spec _ _) ?_
  generalize x.moves s = l at *
  have hil : (ints l).length = l.length := List.length_map _
  refine K_run hB 60 ?_
  simp [go_sem]
  refine K_loopP (α := Int × Nat × (Nat → AObj) × Nat) (fun (j, at_, σ, nx) => -1 ≤ j ∧ j ≤ x.stops.length + 1 ∧ at_ ≤ l.length ∧ l.drop at_ = canF (fun j => (x.move s j).2.2) (x.stops.length + 1 - j).toNat j ∧ σ 0 = .box [.t (.i x.pairs), .t (.i x.cars), .t (.i x.room), .t (.sl (x.stops.map Stop.t))] ∧ σ 1 = .box s.cs ∧ 1 < nx)
    (fun (j, at_, σ, nx) => ⟨sl [(2, .ptr 0 0), (3, .ptr 1 0), (6, .t (.sl (ints l))), (7, .i at_), (8, .i j)], σ, nx⟩) (fun a => (x.stops.length + 1 - a.1).toNat) (-1, 0, _, 2) ?_ (Imp.slots (by simp [go_sem]) rfl rfl) ?_
  · exact ⟨by omega, by omega, by omega, by rw [show ((x.stops.length : Int) + 1 - -1).toNat = x.stops.length + 2 by omega]; exact hall, by simp [oput], by simp [oput, State.cs], by omega⟩
  rintro ⟨j, at_, σ, nx⟩ ⟨g0, g1, g2, g3, g4, g5, g6⟩
  by_cases hi : j ≤ x.stops.length
  rotate_left
  · have e : ((x.stops.length : Int) + 1 - j).toNat = 0 := by omega
    rw [e, canF] at g3
    have : at_ = l.length := by
      have := congrArg List.length g3
      simp only [List.length_drop, List.length_nil] at this
      omega
    refine K_run hB 60 ?_
    simp [go_sem, g4, hi, hil, this]
  have e : ((x.stops.length : Int) + 1 - j).toNat = ((x.stops.length : Int) + 1 - (j + 1)).toNat + 1 := by omega
  rw [e, canF] at g3
  have hw := w64 (j + 1) (by omega)
  have hmv := move_pure x s j hl ho
  have hfa := step_facts (x := x) (s := s) (j := j)
  have hno := move_no (x := x) (s := s) (j := j)
  have htc : (x.move s j).2.2 = true → (0 ≤ s.time ∧ s.time ≤ 1073741824) ∧ (1 ≤ s.car ∧ s.car ≤ 8) ∧ 0 ≤ j := fun h => by
    obtain ⟨h1, h2, h3, _⟩ := move_is h
    obtain ⟨p, hx⟩ := x.fit h1
    have hs := s.fit hx h2
    have := hs.time
    have := hs.car
    have := hx.cars
    exact ⟨by omega, by omega, h3.1⟩
  generalize x.move s j = V at hmv hfa hno g3 htc
  refine K_run hB 60 ?_
  simp [go_sem, g4, g5, hi, State.cs]
  refine K_call rfl rfl rfl (args := [x.a, s.a, .i j]) (f := 22) (by simp [go_sem, Inst.a, State.a, State.cs]) (by simp [go_sem, hB]) (hmv.spec _ _) ?_
  cases his : V.2.2 with
  | false =>
    have hV := hno his
    subst hV
    rw [if_neg (by simp)] at g3
    have hnot : ∀ h : at_ < l.length, ¬ l[at_] = j := by
      intro h e2
      rw [List.drop_eq_getElem_cons h] at g3
      have := canF_ge (fun j => (x.move s j).2.2) _ (j + 1) l[at_] (by rw [← g3]; exact List.mem_cons_self)
      omega
    have tailF : ∀ (τ : Nat → AObj), τ = oput σ nx (.box s.cs) → -1 ≤ j + 1 ∧ j + 1 ≤ x.stops.length + 1 ∧ at_ ≤ l.length ∧ l.drop at_ = canF (fun j => (x.move s j).2.2) (x.stops.length + 1 - (j + 1)).toNat (j + 1) ∧ τ 0 = .box [.t (.i x.pairs), .t (.i x.cars), .t (.i x.room), .t (.sl (x.stops.map Stop.t))] ∧ τ 1 = .box s.cs ∧ 1 < nx + 1 := by
      rintro τ rfl
      exact ⟨by omega, by omega, g2, g3, by simp [oput, show ¬ 0 = nx by omega, g4], by simp [oput, show ¬ 1 = nx by omega, g5], by omega⟩
    have hoo : ∀ (a b : AObj), oput (oput σ nx a) nx b = oput σ nx b := fun a b => by
      funext i
      simp only [oput]
      split <;> rfl
    by_cases h : at_ < l.length
    · have hne := hnot h
      have hget := ints_getS l h
      generalize l[at_] = v at hne hget
      refine K_run hB 100 ?_
      simp [go_sem, mv, State.a, State.cs, h, hil, hget, hne, show ¬ 1 = nx by omega, g5]
      refine K_eq (op := .neq) (t := 27) (t' := 27) (x := .tmp 56) (y := .tmp 57) (xs := s.cs) (ys := s.cs) rfl rfl (by simp [go_sem, hB]) (by simp [go_sem, State.cs]) (by simp [go_sem, State.cs]) state_guard (state_eq s s) rfl ?_
      refine K_run hB 100 ?_
      simp [go_sem, hw]
      exact Next.mk (j + 1, at_, _, nx + 1) (tailF _ (hoo _ _)) (Imp.slots (by simp [go_sem]) rfl rfl) (by simp only; omega)
    · refine K_run hB 100 ?_
      simp [go_sem, mv, State.a, State.cs, h, hil, show ¬ 1 = nx by omega, g5]
      refine K_eq (op := .neq) (t := 27) (t' := 27) (x := .tmp 56) (y := .tmp 57) (xs := s.cs) (ys := s.cs) rfl rfl (by simp [go_sem, hB]) (by simp [go_sem, State.cs]) (by simp [go_sem, State.cs]) state_guard (state_eq s s) rfl ?_
      refine K_run hB 100 ?_
      simp [go_sem, hw]
      exact Next.mk (j + 1, at_, _, nx + 1) (tailF _ (hoo _ _)) (Imp.slots (by simp [go_sem]) rfl rfl) (by simp only; omega)
  | true =>
    rw [if_pos his] at g3
    have h : at_ < l.length := by
      rcases Nat.lt_or_ge at_ l.length with h | h
      · exact h
      · rw [List.drop_eq_nil_of_le h] at g3; cases g3
    rw [List.drop_eq_getElem_cons h] at g3
    simp only [List.cons.injEq] at g3
    obtain ⟨g7, g8⟩ := g3
    have hget := ints_getS l h
    rw [g7] at hget
    obtain ⟨⟨f1, f2, f3⟩, f4, f5⟩ := hfa his
    have hat : IntKind.i64.wrap ((at_ : Int) + 1) = ((at_ + 1 : Nat) : Int) := by rw [w64 _ (by omega)]; rfl
    obtain ⟨q3, q4, q5⟩ := htc his
    have w1 := w64 (s.time + V.2.1) (by omega)
    have w2 := w64 (s.car + 1) (by omega)
    have hoo : ∀ (a b : AObj), oput (oput σ nx a) nx b = oput σ nx b := fun a b => by
      funext i
      simp only [oput]
      split <;> rfl
    have tailT : ∀ (τ : Nat → AObj) (b : AObj), τ = oput σ nx b → -1 ≤ j + 1 ∧ j + 1 ≤ x.stops.length + 1 ∧ at_ + 1 ≤ l.length ∧ l.drop (at_ + 1) = canF (fun j => (x.move s j).2.2) (x.stops.length + 1 - (j + 1)).toNat (j + 1) ∧ τ 0 = .box [.t (.i x.pairs), .t (.i x.cars), .t (.i x.room), .t (.sl (x.stops.map Stop.t))] ∧ τ 1 = .box s.cs ∧ 1 < nx + 1 := by
      rintro τ b rfl
      exact ⟨by omega, by omega, h, g8, by simp [oput, show ¬ 0 = nx by omega, g4], by simp [oput, show ¬ 1 = nx by omega, g5], by omega⟩
    by_cases hj0 : 0 < j
    · obtain ⟨q1, q2⟩ := f4 hj0
      have hjn : ¬ j = 0 := by omega
      refine K_run hB 200 ?_
      simp [go_sem, mv, State.a, State.cs, h, hil, hget, show ¬ 1 = nx by omega, g5, hat, hw, his, f1, show ¬ V.2.1 < 0 by omega, hj0, w1, show ¬ V.1.time < s.time + V.2.1 by omega, q2, hjn]
      exact Next.mk (j + 1, at_ + 1, _, nx + 1) (tailT _ _ (hoo _ _)) (Imp.slots (by simp [go_sem]) rfl rfl) (by simp only; omega)
    · have hjn : j = 0 := by omega
      have q2 := f5 hjn
      subst hjn
      refine K_run hB 200 ?_
      simp [go_sem, mv, State.a, State.cs, h, hil, hget, show ¬ 1 = nx by omega, g5, hat, his, f1, show ¬ V.2.1 < 0 by omega, w2, q2]
      exact Next.mk (0 + 1, at_ + 1, _, nx + 1) (tailT _ _ (hoo _ _)) (Imp.slots (by simp [go_sem]; rfl) rfl rfl) (by simp only; omega)
end Go.Proofs.Ytdfldfkgkooaeaa

/- What was seen behind moves from the beginning. -/
set_option maxRecDepth 4000
namespace Go.Proofs.Ytdfldfkgkooaeaa
open Go Go.Proofs.Ytdfldfkgkooaeaa.R
theorem with_bit {t k : Nat} (hk : k ≤ 63) (i : Nat) : (withN t k).testBit i = (t.testBit i || decide (k = i)) := by
  rw [withN, bitN_nat hk, Nat.testBit_or, Nat.testBit_two_pow]
theorem without_bit {t k : Nat} (hk : k ≤ 63) {i : Nat} (hi : i < 64) : (withoutN t k).testBit i = (t.testBit i && !decide (k = i)) := by
  rw [withoutN, bitN_nat hk, andN_bit, Nat.testBit_two_pow]
  simp [hi]
/-- What the stops of a set bring with them. -/
def sumOn (x : Inst) : Nat → Nat → Int
  | 0, _ => 0
  | k + 1, t => sumOn x k t + if t.testBit (k + 1) = true then (x.stop (k + 1 : Nat)).demand else 0
theorem sumOn_zero (x : Inst) : ∀ k, sumOn x k 0 = 0
  | 0 => rfl
  | k + 1 => by rw [sumOn, sumOn_zero x k]; simp
theorem sumOn_same (x : Inst) {t u : Nat} : ∀ k, (∀ i, 1 ≤ i → i ≤ k → t.testBit i = u.testBit i) → sumOn x k t = sumOn x k u
  | 0, _ => rfl
  | k + 1, h => by rw [sumOn, sumOn, sumOn_same x k fun i h1 h2 => h i h1 (by omega), h (k + 1) (by omega) (by omega)]
theorem sumOn_pos {x : Inst} {p : Nat} (hx : x.Fit p) (t : Nat) : ∀ k, k ≤ p → 0 ≤ sumOn x k t
  | 0, _ => Int.le_refl _
  | k + 1, h => by
    have := sumOn_pos hx t k (by omega)
    have := hx.take (k := k + 1) (by omega) h
    rw [sumOn]
    split <;> omega
theorem sumOn_with (x : Inst) {t j : Nat} (hj : j ≤ 63) (hn : t.testBit j = false) (h1 : 1 ≤ j) : ∀ k, k ≤ 63 → sumOn x k (withN t j) = sumOn x k t + if j ≤ k then (x.stop j).demand else 0
  | 0, _ => by rw [if_neg (by omega)]; rfl
  | k + 1, hk => by
    rw [sumOn, sumOn_with x hj hn h1 k (by omega), with_bit hj, sumOn]
    by_cases e : j = k + 1
    · subst e
      rw [if_neg (by omega), hn]
      simp
    · have : (decide (j = k + 1)) = false := by simpa using e
      rw [this, Bool.or_false]
      by_cases e2 : j ≤ k
      · rw [if_pos e2, if_pos (show j ≤ k + 1 by omega)]; omega
      · rw [if_neg e2, if_neg (show ¬ j ≤ k + 1 by omega)]; omega
theorem sumOn_without (x : Inst) {t j : Nat} (hj : j ≤ 63) (hn : t.testBit j = true) (h1 : 1 ≤ j) : ∀ k, k ≤ 63 → sumOn x k (withoutN t j) = sumOn x k t - if j ≤ k then (x.stop j).demand else 0
  | 0, _ => by rw [if_neg (by omega)]; rfl
  | k + 1, hk => by
    rw [sumOn, sumOn_without x hj hn h1 k (by omega), without_bit hj (by omega), sumOn]
    by_cases e : j = k + 1
    · subst e
      rw [if_neg (by omega), hn]
      simp
    · have : (decide (j = k + 1)) = false := by simpa using e
      rw [this, Bool.not_false, Bool.and_true]
      by_cases e2 : j ≤ k
      · rw [if_pos e2, if_pos (show j ≤ k + 1 by omega)]; omega
      · rw [if_neg e2, if_neg (show ¬ j ≤ k + 1 by omega)]; omega
/-- What holds behind moves from the beginning. -/
structure Good (x : Inst) (p : Nat) (s : State) : Prop where
  eq : s.can = s.must
  on : ∀ k, 1 ≤ k → k ≤ p → s.on.testBit k = (s.must.testBit k && !s.must.testBit (k + p))
  order : ∀ k, 1 ≤ k → k ≤ p → s.must.testBit (k + p) = true → s.must.testBit k = true
  load : s.load = sumOn x p s.on
  room : s.load ≤ x.room
theorem good_root {x : Inst} {p : Nat} (hx : x.Fit p) (hm : x.may = true) : Good x p x.rootS := by
  rw [Inst.rootS, if_pos hm]
  refine ⟨rfl, fun k _ _ => by simp [State.zero], fun k _ _ h => by simp [State.zero] at h, ?_, ?_⟩
  · exact (sumOn_zero x p).symm
  · have := hx.room
    show (0 : Int) ≤ x.room
    omega
theorem has_testN {t k : Nat} (hk : k ≤ 63) : hasB t (k : Int) = t.testBit k := has_nat (by omega)
theorem good_step {x : Inst} {p : Nat} {s : State} {j : Int} (hx : x.Fit p) (hg : Good x p s) (h : (x.move s j).2.2 = true) :
    Good x p (x.move s j).1 ∧ 0 ≤ j ∧ j ≤ 2 * p ∧ (x.move s j).1.must = (if 0 < j then withN s.must j else s.must) ∧
    (x.move s j).1.on = (if x.pairs < j then withoutN s.on (j - x.pairs) else if 0 < j then withN s.on j else s.on) ∧
    (x.move s j).1.load = (if 0 < j then s.load + (x.stop j).demand else s.load) := by
  obtain ⟨h1, h2, h3, h4, h5⟩ := move_is h
  have hp := hx.pairs
  have hfew := hx.few
  obtain ⟨k, rfl⟩ : ∃ k : Nat, j = k := ⟨j.toNat, by omega⟩
  rw [h5]
  have h3' : (k : Int) ≤ 2 * p := by omega
  have hvis : (x.visit s k).2 = true → (x.visit s k).1 = x.seen s k ∧ hasB s.must k = false := by
    unfold Inst.visit Inst.lateB
    split
    · intro h; simp at h
    · rename_i hh
      intro _
      simp only [Bool.or_eq_true, not_or] at hh
      exact ⟨rfl, by simpa using hh.1⟩
  by_cases hk0 : k = 0
  · subst hk0
    have e : x.to s ((0 : Nat) : Int) = x.home s := by simp [Inst.to]
    rw [e] at h4 ⊢
    unfold Inst.home at h4 ⊢
    split at h4
    · simp at h4
    · rename_i hh
      rw [if_neg hh]
      have hon : s.on = 0 := by
        simp only [Inst.stayB, Bool.or_eq_true, decide_eq_true_eq, not_or] at hh
        have := hh.1.1.1.2
        omega
      have hl : s.load = 0 := by rw [hg.load, hon, sumOn_zero]
      refine ⟨⟨hg.eq, hg.on, hg.order, by show (0 : Int) = sumOn x p s.on; rw [hon, sumOn_zero], by show (0 : Int) ≤ x.room; have := hx.room; omega⟩, by omega, by omega, by simp [Inst.homeS], by rw [if_neg (by omega), if_neg (by omega)]; rfl, by rw [if_neg (by omega), hl]; rfl⟩
  have hk63 : k ≤ 63 := by omega
  by_cases hkp : k ≤ p
  · have e : x.to s (k : Int) = x.take s k := by rw [Inst.to, if_neg (by omega), if_pos (by omega)]
    rw [e] at h4 ⊢
    have hd := hx.take (k := k) (by omega) hkp
    unfold Inst.take at h4 ⊢
    split at h4
    · simp at h4
    rename_i hh
    rw [if_neg hh]
    split at h4
    rotate_left
    · rename_i h8; exact absurd h4 h8
    rename_i h8
    rw [if_pos h8]
    obtain ⟨e1, e2⟩ := hvis h8
    rw [e1]
    rw [has_testN hk63] at e2
    have hroom : s.load + (x.stop k).demand ≤ x.room := by
      simp only [Inst.fullB, Bool.or_eq_true, decide_eq_true_eq, not_or] at hh
      omega
    have hnon : s.on.testBit k = false := by rw [hg.on k (by omega) hkp, e2, Bool.false_and]
    have hpos := sumOn_pos hx s.on p (Nat.le_refl _)
    have hload := hg.load
    have hmax : max (s.load + (x.stop k).demand) 0 = s.load + (x.stop k).demand := by omega
    refine ⟨⟨by show withN s.can k = withN s.must k; rw [hg.eq], fun i i1 i2 => ?_, fun i i1 i2 i3 => ?_, ?_, ?_⟩, by omega, by omega, ?_, ?_, ?_⟩
    · show (withN s.on k).testBit i = ((withN s.must k).testBit i && !(withN s.must k).testBit (i + p))
      rw [with_bit hk63, with_bit hk63, with_bit hk63, hg.on i i1 i2]
      have : decide (k = i + p) = false := by simp; omega
      rw [this, Bool.or_false]
      by_cases hki : k = i
      · subst hki
        have hb : s.must.testBit (k + p) = false := by
          cases hq : s.must.testBit (k + p) with
          | false => rfl
          | true => rw [hg.order k i1 i2 hq] at e2; cases e2
        simp [hb]
      · simp [hki]
    · have i3' : (withN s.must k).testBit (i + p) = true := i3
      show (withN s.must k).testBit i = true
      rw [with_bit hk63] at i3' ⊢
      have : decide (k = i + p) = false := by simp; omega
      rw [this, Bool.or_false] at i3'
      rw [hg.order i i1 i2 i3', Bool.true_or]
    · show max (s.load + (x.stop k).demand) 0 = sumOn x p (withN s.on k)
      rw [sumOn_with x hk63 hnon (by omega) p (by omega), if_pos hkp, hmax, hload]
    · show max (s.load + (x.stop k).demand) 0 ≤ x.room
      omega
    · rw [if_pos (by omega)]; rfl
    · rw [if_neg (by omega), if_pos (by omega)]
    · rw [if_pos (by omega)]; exact hmax
  · obtain ⟨q, rfl⟩ : ∃ q, k = q + p := ⟨k - p, by omega⟩
    have hq1 : 1 ≤ q := by omega
    have hq2 : q ≤ p := by omega
    have hq63 : q ≤ 63 := by omega
    have ej : ((q + p : Nat) : Int) - x.pairs = (q : Int) := by omega
    have e : x.to s ((q + p : Nat) : Int) = x.bring s (q + p : Nat) := by rw [Inst.to, if_neg (by omega), if_neg (by omega)]
    rw [e] at h4 ⊢
    have hd := hx.take (k := q) hq1 hq2
    have hb := hx.bring (k := q) hq1 hq2
    unfold Inst.bring at h4 ⊢
    split at h4
    · simp at h4
    rename_i hh
    rw [if_neg hh]
    split at h4
    rotate_left
    · rename_i h8; exact absurd h4 h8
    rename_i h8
    rw [if_pos h8]
    obtain ⟨e1, e2⟩ := hvis h8
    rw [e1, ej]
    rw [has_testN hk63] at e2
    have hcan : s.must.testBit q = true := by
      simp only [Inst.emptyB, Bool.or_eq_true, decide_eq_true_eq, not_or, ej] at hh
      have := hh.2
      rw [has_testN hq63, hg.eq] at this
      simpa using this
    have hon : s.on.testBit q = true := by rw [hg.on q hq1 hq2, hcan, e2]; rfl
    have hpos := sumOn_pos hx (withoutN s.on q) p (Nat.le_refl _)
    have hload := hg.load
    have hsum := sumOn_without x hq63 hon hq1 p (by omega)
    rw [if_pos hq2] at hsum
    have hmax : max (s.load + (x.stop (q + p : Nat)).demand) 0 = s.load + (x.stop (q + p : Nat)).demand := by omega
    refine ⟨⟨by show withN s.can (q + p : Nat) = withN s.must (q + p : Nat); rw [hg.eq], fun i i1 i2 => ?_, fun i i1 i2 i3 => ?_, ?_, ?_⟩, by omega, by omega, ?_, ?_, ?_⟩
    · show (withoutN s.on q).testBit i = ((withN s.must (q + p : Nat)).testBit i && !(withN s.must (q + p : Nat)).testBit (i + p))
      rw [without_bit hq63 (by omega), with_bit hk63, with_bit hk63, hg.on i i1 i2]
      have : decide (q + p = i) = false := by simp; omega
      rw [this, Bool.or_false]
      have e5 : decide (q + p = i + p) = decide (q = i) := by simp
      rw [e5]
      by_cases hki : q = i
      · simp [hki]
      · simp [hki]
    · have i3' : (withN s.must (q + p : Nat)).testBit (i + p) = true := i3
      show (withN s.must (q + p : Nat)).testBit i = true
      rw [with_bit hk63] at i3' ⊢
      by_cases hki : q = i
      · subst hki
        rw [hcan, Bool.true_or]
      · have : decide (q + p = i + p) = false := by simp; omega
        rw [this, Bool.or_false] at i3'
        rw [hg.order i i1 i2 i3', Bool.true_or]
    · show max (s.load + (x.stop (q + p : Nat)).demand) 0 = sumOn x p (withoutN s.on q)
      omega
    · show max (s.load + (x.stop (q + p : Nat)).demand) 0 ≤ x.room
      have := hg.room
      omega
    · rw [if_pos (by omega)]; rfl
    · rw [if_pos (by omega)]
    · rw [if_pos (by omega)]; exact hmax
theorem follow_is {x : Inst} {path : List Int} (h : (x.follow path).2.2 = 0) : x.may = true ∧ x.goes path x.rootS 0 = some ((x.follow path).1, (x.follow path).2.1) := by
  unfold Inst.follow at h ⊢
  split at h
  · rename_i hm
    rw [if_pos hm]
    refine ⟨hm, ?_⟩
    cases hg : x.goes path x.rootS 0 with
    | none => rw [hg] at h; simp [folR] at h
    | some r => rfl
  · simp at h
theorem seen_pure (x : Inst) (path : List Int) (hl : x.stops.length < 2 ^ 63) (hp : path.length < 2 ^ 63) : Pure P 7 [x.a, .t (.sl (ints path))] (.b true) := by
  refine pure_of Try.func7 rfl rfl (by simp [Try.f7]) (by simp [bnd, bnd.bndL, Inst.a]) (by simp [bnd]) fun B hB hnx => ?_
  simp only [Try.f7] at hB ⊢
  refine K_run hB 60 ?_
  simp [go_sem, Inst.a]
  refine K_call rfl rfl rfl (args := []) (f := 21) (by simp [go_sem]) (by simp [go_sem, hB]) (awake_pure.spec _ _) ?_
  have hf := follow_pure x path hl hp
  have hi := follow_is (x := x) (path := path)
  generalize x.follow path = F at *
  obtain ⟨S, C, e⟩ := F
  have hil : (ints path).length = path.length := List.length_map _
  refine K_run hB 60 ?_
  simp [go_sem]
  refine K_call rfl rfl rfl (args := [x.a, .t (.sl (ints path))]) (f := 31) (by simp [go_sem, Inst.a]) (by simp [go_sem, hB]) (hf.spec _ _) ?_
  by_cases c1 : 100 < (x.stops.length : Int)
  · refine K_run hB 100 ?_
    simp [go_sem, fol, State.a, State.cs, c1]
  by_cases c2 : 100 < (path.length : Int)
  · refine K_run hB 100 ?_
    simp [go_sem, fol, State.a, State.cs, c1, hil, c2]
  by_cases c3 : e = 0
  rotate_left
  · refine K_run hB 100 ?_
    simp [go_sem, fol, State.a, State.cs, c1, hil, c2, c3]
  subst c3
  obtain ⟨hm, hgo⟩ := hi rfl
  obtain ⟨p, hx⟩ := x.fit hm
  have hlen := hx.len
  have hpp := hx.pairs
  have hfew := hx.few
  refine K_run hB 100 ?_
  simp [go_sem, fol, State.a, State.cs, c1, hil, c2]
  refine K_loopP (α := Nat × State × Int) (fun (k, s, c) => k ≤ path.length ∧ s.ok ∧ Good x p s ∧ x.goes (path.drop k) s c = some (S, C))
    (fun (k, s, c) => ⟨sl [(1, .t (.sl (ints path))), (2, .ptr 0 0), (6, .ptr 1 0), (9, .u s.must), (10, .u s.on), (11, .i s.load), (12, .i k)], ob [(0, .box [.t (.i x.pairs), .t (.i x.cars), .t (.i x.room), .t (.sl (x.stops.map Stop.t))]), (1, .box S.cs)], 2⟩) (fun a => path.length - a.1) (0, x.rootS, 0) ⟨Nat.zero_le _, rootS_ok x, good_root hx hm, hgo⟩
    (Sub.of (by omega) (by simp) (by simp [go_sem, Inst.rootS, hm, State.zero]) (by simp [go_sem, State.cs])) ?_
  rintro ⟨k, s, c⟩ ⟨g1, go, g2, g3⟩
  refine K_run hB 120 ?_
  simp [go_sem, hil]
  refine fork_dec (fun hk => ?_) (fun hk => ?_)
  rotate_left
  · have : k = path.length := by omega
    subst this
    rw [List.drop_length, Inst.goes] at g3
    simp only [Option.some.injEq, Prod.mk.injEq] at g3
    obtain ⟨rfl, rfl⟩ := g3
    have h1 := g2.eq
    have h2 := g2.room
    simp [go_sem, State.cs, h1, h2]
  rw [List.drop_eq_getElem_cons hk, Inst.goes] at g3
  have hkk : IntKind.i64.wrap ((k : Int) + 1) = ((k + 1 : Nat) : Int) := by rw [w64 ((k : Int) + 1) (by omega)]; rfl
  have hget := ints_getS path hk
  have hmo := move_ok x path[k] go
  generalize path[k] = j at *
  split at g3
  rotate_left
  · cases g3
  rename_i his
  obtain ⟨s1, s2, s3, s4, s5, s6⟩ := good_step hx g2 his
  generalize x.move s j = V at *
  have hlt : j < (x.stops.length : Int) := by omega
  have gN := hx.get (j := j) (by omega)
  have hdem := (hx.at s2 s3).demand
  generalize x.stop j = a at *
  have hload : 0 ≤ s.load ∧ s.load ≤ 1000 := by
    have := g2.load
    have := sumOn_pos hx s.on p (Nat.le_refl _)
    have := g2.room
    have := hx.room
    omega
  have w1 := w64 (s.load + a.demand) (by omega)
  have w2 := w64 (j - x.pairs) (by omega)
  simp [go_sem, hk, hil, hget, show ¬ j < 0 by omega, show ¬ (x.stops.length : Int) ≤ j by omega]
  by_cases c5 : 0 < j
  · rw [if_pos c5] at s4 s6
    by_cases c6 : x.pairs < j
    · rw [if_pos c6] at s5
      simp [go_sem, c5]
      refine K_call rfl rfl rfl (args := [.u s.must, .i j]) (f := 33) (by simp [go_sem]) (by simp [go_sem, hB]) ((rwith_pure s.must j go.must).spec _ _) ?_
      refine K_run hB 60 ?_
      simp [go_sem, hlt, gN, Stop.t, w1, w2, c6, s2]
      refine K_call rfl rfl rfl (args := [.u s.on, .i (j - x.pairs)]) (f := 34) (by simp [go_sem]) (by simp [go_sem, hB]) ((rwithout_pure s.on (j - x.pairs) go.on).spec _ _) ?_
      refine K_run hB 60 ?_
      simp [go_sem, hkk]
      exact Next.mk (k + 1, V.1, _) ⟨by omega, hmo, s1, g3⟩ (Imp.slots (by simp [go_sem, s4, s5, s6]) rfl rfl) (by simp only; omega)
    · rw [if_neg c6, if_pos c5] at s5
      simp [go_sem, c5]
      refine K_call rfl rfl rfl (args := [.u s.must, .i j]) (f := 33) (by simp [go_sem]) (by simp [go_sem, hB]) ((rwith_pure s.must j go.must).spec _ _) ?_
      refine K_run hB 60 ?_
      simp [go_sem, hlt, gN, Stop.t, w1, c6, s2, c5]
      refine K_call rfl rfl rfl (args := [.u s.on, .i j]) (f := 33) (by simp [go_sem]) (by simp [go_sem, hB]) ((rwith_pure s.on j go.on).spec _ _) ?_
      refine K_run hB 60 ?_
      simp [go_sem, hkk]
      exact Next.mk (k + 1, V.1, _) ⟨by omega, hmo, s1, g3⟩ (Imp.slots (by simp [go_sem, s4, s5, s6]) rfl rfl) (by simp only; omega)
  · rw [if_neg c5] at s4 s6
    have c6 : ¬ x.pairs < j := by omega
    rw [if_neg c6, if_neg c5] at s5
    simp [go_sem, c5, c6, hkk]
    exact Next.mk (k + 1, V.1, _) ⟨by omega, hmo, s1, g3⟩ (Imp.slots (by simp [go_sem, s4, s5, s6]) rfl rfl) (by simp only; omega)
end Go.Proofs.Ytdfldfkgkooaeaa
