/- Parts of the proof: State4, State5, Arg. -/
import Derived.Test.YtmmdnflngbkjnaaME
set_option linter.unusedVariables false
/- All moves, the end, what follows. -/
set_option maxRecDepth 4000
namespace Go.Proofs.Ytmmdnflngbkjnaa
open Go Go.Proofs.Ytmmdnflngbkjnaa.R
def canB (f : Nat → Bool) : Nat → List Int
  | 0 => []
  | k + 1 => canB f k ++ (if f k = true then [(k : Int)] else [])
theorem canB_len (f : Nat → Bool) : ∀ k, (canB f k).length ≤ k
  | 0 => Nat.le_refl _
  | k + 1 => by
    have := canB_len f k
    rw [canB, List.length_append]
    split <;> simp only [List.length_cons, List.length_nil] <;> omega
def Inst.moves (x : Inst) (s : State) : List Int := if x.may = true ∧ s.mayB x = true then canB (fun k => (x.step s k).2.2) x.stops.length else []
theorem moves_pure (x : Inst) (s : State) (hl : x.stops.length < 2 ^ 63) (ho : s.ok) : Pure P 48 [x.a, s.a] (.t (.sl (ints (x.moves s)))) := by
  generalize hR : x.moves s = R
  refine pure_of Try.func48 rfl rfl (by simp [Try.f48]) (by simp [bnd, bnd.bndL, Inst.a, State.a, State.cs]) (by simp [bnd]) fun B hB hnx => ?_
  simp only [Try.f48] at hB ⊢
  rw [Inst.moves] at hR
  refine K_run hB 100 ?_
  simp [go_sem, Inst.a, State.a, State.cs]
  refine K_call rfl rfl rfl (args := [x.a]) (f := 25) (by simp [go_sem, Inst.a]) (by simp [go_sem, hB]) ((may_pure x hl).spec _ _) ?_
  cases hm : x.may with
  | false =>
    rw [if_neg (by simp [hm])] at hR
    subst hR
    refine K_run hB 100 ?_
    simp [go_sem, ints]
  | true =>
    obtain ⟨p, hx⟩ := x.fit hm
    refine K_run hB 100 ?_
    simp [go_sem]
    refine K_call rfl rfl rfl (args := [.agg (hereC x s)]) (f := 38) (by simp [go_sem, hereC]) (by simp [go_sem, hB]) ((hmay_pure x s hm).spec _ _) ?_
    cases hs : s.mayB x with
    | false =>
      rw [if_neg (by simp [hs])] at hR
      subst hR
      refine K_run hB 100 ?_
      simp [go_sem, ints]
    | true =>
      rw [if_pos ⟨hm, hs⟩] at hR
      have hst := fun j => step_pure x s j hx (s.fit hx hs) ho
      have hlen := hx.len
      have hfew := hx.few
      have hmost : mostLen = 4294967296 := rfl
      refine K_run hB 100 ?_
      simp [go_sem]
      refine K_own 6 1 (by simp [go_sem]) ?_
      refine K_loopP (α := Nat × Nat × (Nat → AObj) × Nat) (fun (k, j, σ, nx) => k ≤ x.stops.length ∧ σ 2 = .box (hereC x s) ∧ σ j = .arr 1 (ints (canB (fun k => (x.step s k).2.2) k)) ∧ 2 < j ∧ j < nx)
        (fun (k, j, σ, nx) => ⟨sl [(5, .ptr 2 0), (6, .ref j), (24, .i x.stops.length), (25, .i k)], σ, nx⟩) (fun a => x.stops.length - a.1) (0, 3, _, 4) ?_ (Imp.slots (by simp [go_sem]) rfl rfl) ?_
      · exact ⟨Nat.zero_le _, by simp [oput, hereC], by simp [oput, canB, ints], by omega, by omega⟩
      rintro ⟨k, j, σ, nx⟩ ⟨g1, g2, g3, g5, g6⟩
      refine K_run hB 60 ?_
      simp [go_sem]
      refine fork_dec (fun hk => ?_) (fun hk => ?_)
      · have hkk : IntKind.i64.wrap ((k : Int) + 1) = ((k + 1 : Nat) : Int) := by rw [w64 ((k : Int) + 1) (by omega)]; rfl
        have hn : canB (fun k => (x.step s k).2.2) (k + 1) = canB (fun k => (x.step s k).2.2) k ++ (if (x.step s k).2.2 = true then [(k : Int)] else []) := rfl
        have hcl := canB_len (fun k => (x.step s k).2.2) k
        have h1 := hst k
        generalize canB (fun k => (x.step s k).2.2) k = L at g3 hn hcl
        generalize x.step s k = V at hn h1
        obtain ⟨t, c, is⟩ := V
        simp only at hn
        simp [go_sem, g2, hereC]
        refine K_call rfl rfl rfl (args := [.agg (hereC x s), .i k]) (f := 39) (by simp [go_sem, hereC]) (by simp [go_sem, hB]) (h1.spec _ _) ?_
        cases is with
        | false =>
          refine K_run hB 60 ?_
          simp [go_sem, mv, State.a, State.cs, hkk]
          refine Next.mk (k + 1, j, _, nx + 1) ?_ (Imp.slots (by simp [go_sem]) rfl rfl) (by simp only; omega)
          refine ⟨by simp only; omega, ?_, ?_, by simp only; omega, by simp only; omega⟩
          · simp [oput, show ¬ 2 = nx by omega, g2, hereC]
          · simp only [hn]
            simp [oput, show ¬ j = nx by omega, g3]
        | true =>
          have hlen' : (ints L).length = L.length := List.length_map _
          have hcap : L.length + 1 ≤ mostLen := by omega
          refine K_run hB 60 ?_
          simp [go_sem, mv, State.a, State.cs, hkk, g3, hlen', hcap, show ¬ j = nx by omega]
          refine Next.mk (k + 1, nx + 1, _, nx + 2) ?_ (Imp.slots (by simp [go_sem]) rfl rfl) (by simp only; omega)
          refine ⟨by simp only; omega, ?_, ?_, by simp only; omega, by simp only; omega⟩
          · simp [oput, show ¬ 2 = nx by omega, show ¬ 2 = nx + 1 by omega, show ¬ 2 = j by omega, g2, hereC]
          · simp only [hn]
            simp [oput, ints]
      · have : k = x.stops.length := by omega
        subst this
        rw [hR] at g3
        simp [go_sem, g3]
def Inst.endS (x : Inst) (s : State) : Int × Bool :=
  if x.may = false then (0, false)
  else if x.pairs = 0 ∧ s = x.rootS then (0, true)
  else if s.mayB x = true ∧ s.spot ≠ 0 ∧ s.on = 0 ∧ x.allB s.can = true ∧ s.time + far (x.stop s.spot) (x.stop 0) ≤ (x.stop 0).due then (far (x.stop s.spot) (x.stop 0), true) else (0, false)
theorem end_pure (x : Inst) (s : State) (hl : x.stops.length < 2 ^ 63) (ho : s.ok) : Pure P 20 [x.a, s.a] (.tup [.i (x.endS s).1, .b (x.endS s).2]) := by
  generalize hR : x.endS s = R
  refine pure_of Try.func20 rfl rfl (by simp [Try.f20]) (by simp [bnd, bnd.bndL, Inst.a, State.a, State.cs]) (by simp [bnd, bnd.bndL]) fun B hB hnx => ?_
  simp only [Try.f20] at hB ⊢
  rw [Inst.endS] at hR
  refine K_run hB 100 ?_
  simp [go_sem, Inst.a, State.a, State.cs]
  refine K_call rfl rfl rfl (args := [x.a]) (f := 25) (by simp [go_sem, Inst.a]) (by simp [go_sem, hB]) ((may_pure x hl).spec _ _) ?_
  cases hm : x.may with
  | false =>
    rw [if_pos hm] at hR
    subst hR
    refine K_run hB 100 ?_
    simp [go_sem]
  | true =>
    obtain ⟨p, hx⟩ := x.fit hm
    rw [if_neg (by simp [hm])] at hR
    refine K_run hB 100 ?_
    simp [go_sem]
    refine K_drawn [] rfl (by rw [hB]; kernel_rfl) ?_
    have hp := hx.pairs
    have hr := root_pureS x hl
    generalize x.rootS = r at *
    by_cases c0 : x.pairs = 0 ∧ s = r
    · rw [if_pos c0] at hR
      obtain ⟨c1, c2⟩ := c0
      subst hR
      refine K_run hB 100 ?_
      simp [go_sem, c1]
      refine K_dCallP rfl rfl rfl (args := [x.a]) (f := 33) (by simp [go_sem, Inst.a, c1]) hr ?_
      refine K_dEq (op := .eql) (t := 29) (t' := 29) (x := .tmp 18) (y := .tmp 20) (xs := s.cs) (ys := r.cs) (by simp [go_sem, c1]) rfl (by simp [go_sem, State.cs]) (by simp [go_sem, State.a]) state_guard (state_eq s r) rfl ?_
      refine K_run hB 100 ?_
      simp [go_sem, c1, c2]
    rw [if_neg c0] at hR
    have g2 : (0 : Int) < x.stops.length := hx.lt (j := 0) (by omega)
    have g3 : 0 < x.stops.length := by omega
    have g4 := hx.get0
    have hfi := far_in' (x.stop s.spot) (x.stop 0)
    by_cases c1 : x.pairs = 0
    all_goals
      first
      | have c2 : ¬ s = r := fun h => c0 ⟨c1, h⟩
        refine K_run hB 100 ?_
        simp [go_sem, c1]
        refine K_dCallP rfl rfl rfl (args := [x.a]) (f := 33) (by simp [go_sem, Inst.a, c1]) hr ?_
        refine K_dEq (op := .eql) (t := 29) (t' := 29) (x := .tmp 18) (y := .tmp 20) (xs := s.cs) (ys := r.cs) (by simp [go_sem, c1]) rfl (by simp [go_sem, State.cs]) (by simp [go_sem, State.a]) state_guard (state_eq s r) rfl ?_
        refine K_run hB 100 ?_
        simp [go_sem, c1, c2]
        refine K_drawn [] rfl (by rw [hB]; kernel_rfl) ?_
        refine K_run hB 100 ?_
        simp [go_sem]
      | refine K_run hB 100 ?_
        simp [go_sem, c1]
        refine K_drawn [] rfl (by rw [hB]; kernel_rfl) ?_
        refine K_run hB 100 ?_
        simp [go_sem]
    all_goals
      refine K_dCallP rfl rfl rfl (args := [.agg (hereC x s)]) (f := 38) (by simp [go_sem, hereC, c1]) (hmay_pure x s hm) ?_
      cases hs : s.mayB x with
      | false =>
        rw [if_neg (by simp [hs])] at hR
        subst hR
        refine K_run hB 100 ?_
        simp [go_sem]
      | true =>
        have hs' := s.fit hx hs
        have w1 := w64 (s.time + far (x.stop s.spot) (x.stop 0)) (by have := hs'.time; omega)
        have hfar := hfar_pure x s 0 hx hs'.spot.1 hs'.spot.2 (by omega) (by omega)
        generalize far (x.stop s.spot) (x.stop 0) = d at *
        generalize x.stop 0 = a at *
        by_cases c3 : s.spot = 0
        · rw [if_neg (by simp [c3])] at hR
          subst hR
          refine K_run hB 100 ?_
          simp [go_sem, c3]
        by_cases c4 : s.on = 0
        rotate_left
        · rw [if_neg (by simp [c4])] at hR
          subst hR
          refine K_run hB 100 ?_
          simp [go_sem, c3, c4]
        refine K_run hB 100 ?_
        simp [go_sem, c3, c4]
        refine K_dCallP rfl rfl rfl (args := [.agg (hereC x s), .u s.can]) (f := 41) (by simp [go_sem, hereC, c1, c4]) (hall_pure x s s.can hx) ?_
        cases c5 : x.allB s.can with
        | false =>
          rw [if_neg (by simp [c5])] at hR
          subst hR
          refine K_run hB 100 ?_
          simp [go_sem, c3]
        | true =>
          refine K_run hB 100 ?_
          simp [go_sem, c3]
          refine K_dCallP rfl rfl rfl (args := [.agg (hereC x s), .i 0]) (f := 42) (by simp [go_sem, hereC, c1, c4]) hfar ?_
          by_cases c6 : a.due < s.time + d
          · rw [if_neg (by simp [c6])] at hR
            subst hR
            refine K_run hB 100 ?_
            simp [go_sem, c3, c6, w1, g2, g3, g4, Stop.t]
          · rw [if_pos ⟨hs, c3, c4, c5, by omega⟩] at hR
            subst hR
            refine K_run hB 100 ?_
            simp [go_sem, c3, c6, w1, g2, g3, g4, Stop.t]
            refine K_call rfl rfl rfl (args := [.agg (hereC x s), .i 0]) (f := 42) (by simp [go_sem, hereC, c1, c4]) (by simp [go_sem, hB]) (hfar.spec _ _) ?_
            refine K_run hB 100 ?_
            simp [go_sem]
end Go.Proofs.Ytmmdnflngbkjnaa

/- What follows from moves. -/
set_option maxRecDepth 4000
namespace Go.Proofs.Ytmmdnflngbkjnaa
open Go Go.Proofs.Ytmmdnflngbkjnaa.R
theorem State.zero_ok : State.zero.ok := ⟨by decide, by decide, by decide⟩
theorem rootS_ok (x : Inst) : x.rootS.ok := by
  unfold Inst.rootS
  split
  · exact ⟨State.zero_ok.must, State.zero_ok.can, State.zero_ok.on⟩
  · exact State.zero_ok
theorem seen_ok (x : Inst) {s : State} (j : Int) (h : s.ok) : (x.seen s j).ok := ⟨withN_lt h.must j, withN_lt h.can j, h.on⟩
theorem visit_ok (x : Inst) {s : State} (j : Int) (h : s.ok) : (x.visit s j).1.ok := by
  unfold Inst.visit
  split
  · exact h
  · exact seen_ok x j h
theorem to_ok (x : Inst) {s : State} (j : Int) (h : s.ok) : (x.to s j).1.ok := by
  unfold Inst.to
  split
  · unfold Inst.home
    split
    · exact h
    · exact ⟨h.must, h.can, h.on⟩
  · have hv := visit_ok x j h
    split
    · unfold Inst.take
      split
      · exact h
      · split
        · exact ⟨hv.must, hv.can, withN_lt h.on j⟩
        · exact hv
    · unfold Inst.bring
      split
      · exact h
      · split
        · exact ⟨hv.must, hv.can, withoutN_lt _ _⟩
        · exact hv
theorem move_ok (x : Inst) {s : State} (j : Int) (h : s.ok) : (x.move s j).1.ok := by
  unfold Inst.move
  split
  · unfold Inst.step
    split
    · exact h
    · split
      · exact to_ok x j h
      · exact h
  · exact h
theorem ints_getS (l : List Int) {i : Nat} (h : i < l.length) : (ints l)[i]'(by rw [ints, List.length_map]; exact h) = [.i l[i]] := by simp [ints]
/-- Moves, one behind the other. -/
def Inst.goes (x : Inst) : List Int → State → Int → Option (State × Int)
  | [], s, c => some (s, c)
  | j :: l, s, c => if (x.move s j).2.2 = true then x.goes l (x.move s j).1 (IntKind.i64.wrap (c + (x.move s j).2.1)) else none
def folR : Option (State × Int) → State × Int × Int
  | some (s, c) => (s, c, 0)
  | none => (State.zero, 0, 4)
def Inst.follow (x : Inst) (path : List Int) : State × Int × Int := if x.may = true then folR (x.goes path x.rootS 0) else (State.zero, 0, 1)
def fol (r : State × Int × Int) : AV := .tup [r.1.a, .i r.2.1, .i r.2.2]
theorem follow_pure (x : Inst) (path : List Int) (hl : x.stops.length < 2 ^ 63) (hp : path.length < 2 ^ 63) : Pure P 21 [x.a, .t (.sl (ints path))] (fol (x.follow path)) := by
  generalize hR : x.follow path = R
  refine pure_of Try.func21 rfl rfl (by simp [Try.f21]) (by simp [bnd, bnd.bndL, Inst.a]) (by simp [bnd, bnd.bndL, fol, State.a, State.cs]) fun B hB hnx => ?_
  simp only [Try.f21] at hB ⊢
  rw [Inst.follow] at hR
  refine K_run hB 100 ?_
  simp [go_sem, Inst.a]
  refine K_call rfl rfl rfl (args := [x.a]) (f := 25) (by simp [go_sem, Inst.a]) (by simp [go_sem, hB]) ((may_pure x hl).spec _ _) ?_
  cases hm : x.may with
  | false =>
    rw [if_neg (by simp [hm])] at hR
    subst hR
    refine K_run hB 100 ?_
    simp [go_sem, fol, State.a, State.cs, State.zero]
  | true =>
    rw [if_pos hm] at hR
    have hro := rootS_ok x
    have hr := root_pureS x hl
    generalize x.rootS = r at *
    have hil : (ints path).length = path.length := List.length_map _
    refine K_run hB 100 ?_
    simp [go_sem]
    refine K_call rfl rfl rfl (args := [x.a]) (f := 33) (by simp [go_sem, Inst.a]) (by simp [go_sem, hB]) (hr.spec _ _) ?_
    refine K_run hB 100 ?_
    simp [go_sem, State.a, State.cs, hil]
    refine K_loopP (α := Nat × State × Int × (Nat → AObj) × Nat) (fun (k, s, c, σ, nx) => k ≤ path.length ∧ s.ok ∧ folR (x.goes (path.drop k) s c) = R ∧ σ 0 = .box [.t (.i x.pairs), .t (.i x.cars), .t (.i x.room), .t (.sl (x.stops.map Stop.t))] ∧ σ 1 = .box State.zero.cs ∧ σ 2 = .box s.cs ∧ 2 < nx)
      (fun (k, s, c, σ, nx) => ⟨sl [(2, .ptr 0 0), (4, .ptr 1 0), (7, .ptr 2 0), (8, .i c), (20, .t (.sl (ints path))), (21, .i path.length), (22, .i k)], σ, nx⟩) (fun a => path.length - a.1) (0, r, 0, _, 3) ?_ (Imp.slots (by simp [go_sem]) rfl rfl) ?_
    · exact ⟨Nat.zero_le _, hro, hR, by simp [oput], by simp [oput, State.zero, State.cs], by simp [oput, State.cs], by omega⟩
    rintro ⟨k, s, c, σ, nx⟩ ⟨g1, go, g2, g3, g4, g5, g6⟩
    refine K_run hB 60 ?_
    simp [go_sem]
    refine fork_dec (fun hk => ?_) (fun hk => ?_)
    · rw [List.drop_eq_getElem_cons hk, Inst.goes] at g2
      have hkk : IntKind.i64.wrap ((k : Int) + 1) = ((k + 1 : Nat) : Int) := by rw [w64 ((k : Int) + 1) (by omega)]; rfl
      have hget := ints_getS path hk
      have hmo := move_ok x path[k] go
      have hmv := move_pure x s path[k] hl go
      generalize path[k] = j at *
      generalize x.move s j = V at *
      obtain ⟨t, d, is⟩ := V
      simp only at g2 hmo
      simp [go_sem, hil, hk, hget, g3, g5, State.cs]
      refine K_call rfl rfl rfl (args := [x.a, s.a, .i j]) (f := 18) (by simp [go_sem, Inst.a, State.a, State.cs]) (by simp [go_sem, hB]) (hmv.spec _ _) ?_
      cases is with
      | false =>
        rw [if_neg (by simp)] at g2
        subst g2
        refine K_run hB 100 ?_
        simp [go_sem, mv, State.a, State.cs, folR, fol, State.zero, g4, show ¬ 1 = nx by omega]
      | true =>
        rw [if_pos rfl] at g2
        refine K_run hB 100 ?_
        simp [go_sem, mv, State.a, State.cs, g5, hkk, show ¬ 2 = nx by omega]
        refine Next.mk (k + 1, t, IntKind.i64.wrap (c + d), _, nx + 1) ?_ (Imp.slots (by simp [go_sem]) rfl rfl) (by simp only; omega)
        refine ⟨by simp only; omega, hmo, g2, ?_, ?_, ?_, by simp only; omega⟩
        · simp [oput, show ¬ 0 = nx by omega, g3]
        · simp [oput, show ¬ 1 = nx by omega, g4, State.cs]
        · simp [oput, State.cs]
    · have : k = path.length := by omega
      subst this
      rw [List.drop_length, Inst.goes] at g2
      subst g2
      simp [go_sem, g5, g4, State.cs, folR, fol, State.a, State.zero]
end Go.Proofs.Ytmmdnflngbkjnaa

/- What the laws may be given, read as plain data. -/
set_option maxRecDepth 100000
namespace Go.Proofs.Ytmmdnflngbkjnaa
open Go Go.ChangeShapes Go.WideShapes Go.ChangeAt Go.RowKit Go.Proofs.Ytmmdnflngbkjnaa.R
theorem own0 : ownKnob Try.prog.godebug = Option.none := by kernel_rfl
theorem has_i {f : Nat} {ts : List T} (h : HasT P f 3 ts) : ∃ n : Int, ts = [.i n] := by
  obtain ⟨n, rfl, _⟩ := has_int (tt_some tt3).1 h
  exact ⟨n, rfl⟩
theorem has_u {f : Nat} {ts : List T} (h : HasT P f 27 ts) : ∃ n : Nat, ts = [.v (.int .u64 n)] ∧ n < 2 ^ 64 := has_u64 (tt_some tt27).1 h
theorem has_ints {f : Nat} {ts : List T} (h : HasT P f 30 ts) : ∃ l : List Int, ts = [.sl (ints l)] ∧ l.length ≤ maxLen := by
  obtain ⟨l, rfl, h1, _⟩ := has_slice (g := fun n => [T.i n]) (Q := fun _ => True) (tt_some tt30).1 (fun f x h => by
    obtain ⟨n, rfl⟩ := has_i h
    exact ⟨n, rfl, trivial⟩) h
  exact ⟨l, rfl, h1⟩
theorem has_stop {f : Nat} {ts : List T} (h : HasT P f 84 ts) : ∃ s : Stop, ts = s.t := by
  obtain ⟨f', h⟩ := has_struct (tt_some tt84).1 h
  simp only [HasF] at h
  obtain ⟨a, _, rfl, _, ha, b, _, rfl, _, hb, c, _, rfl, _, hc, d, _, rfl, _, hd, e, _, rfl, _, he, g, _, rfl, _, hg, rfl⟩ := h
  obtain ⟨a, rfl⟩ := has_i ha
  obtain ⟨b, rfl⟩ := has_i hb
  obtain ⟨c, rfl⟩ := has_i hc
  obtain ⟨d, rfl⟩ := has_i hd
  obtain ⟨e, rfl⟩ := has_i he
  obtain ⟨g, rfl⟩ := has_i hg
  exact ⟨⟨a, b, c, d, e, g⟩, rfl⟩
def Inst.ts (x : Inst) : List T := [.i x.pairs, .i x.cars, .i x.room, .sl (x.stops.map Stop.t)]
theorem has_inst {f : Nat} {ts : List T} (h : HasT P f 35 ts) : ∃ x : Inst, ts = x.ts ∧ x.stops.length ≤ maxLen := by
  obtain ⟨f', h⟩ := has_struct (tt_some tt35).1 h
  simp only [HasF] at h
  obtain ⟨a, _, rfl, _, ha, b, _, rfl, _, hb, c, _, rfl, _, hc, d, _, rfl, _, hd, rfl⟩ := h
  obtain ⟨a, rfl⟩ := has_i ha
  obtain ⟨b, rfl⟩ := has_i hb
  obtain ⟨c, rfl⟩ := has_i hc
  obtain ⟨l, rfl, hl, _⟩ := has_slice (g := Stop.t) (Q := fun _ => True) (tt_some tt33).1 (fun f x h => by
    obtain ⟨s, rfl⟩ := has_stop h
    exact ⟨s, rfl, trivial⟩) hd
  exact ⟨⟨a, b, c, l⟩, rfl, hl⟩
def State.ts (s : State) : List T := [.i s.spot, .i s.car, .i s.time, .i s.load, .i s.first, .v (.int .u64 s.must), .v (.int .u64 s.can), .v (.int .u64 s.on)]
theorem has_state {f : Nat} {ts : List T} (h : HasT P f 29 ts) : ∃ s : State, ts = s.ts ∧ s.ok := by
  obtain ⟨f', h⟩ := has_struct (tt_some tt29).1 h
  simp only [HasF] at h
  obtain ⟨a, _, rfl, _, ha, b, _, rfl, _, hb, c, _, rfl, _, hc, d, _, rfl, _, hd, e, _, rfl, _, he, x, _, rfl, _, hx, y, _, rfl, _, hy, z, _, rfl, _, hz, rfl⟩ := h
  obtain ⟨a, rfl⟩ := has_i ha
  obtain ⟨b, rfl⟩ := has_i hb
  obtain ⟨c, rfl⟩ := has_i hc
  obtain ⟨d, rfl⟩ := has_i hd
  obtain ⟨e, rfl⟩ := has_i he
  obtain ⟨x, rfl, gx⟩ := has_u hx
  obtain ⟨y, rfl, gy⟩ := has_u hy
  obtain ⟨z, rfl, gz⟩ := has_u hz
  exact ⟨⟨a, b, c, d, e, x, y, z⟩, rfl, ⟨gx, gy, gz⟩⟩
section
variable {H : Type} {enc : TypeId × Value → H} {W : World} {base : Nat} {sp : Nat → Bool} {held : Bool} {v : Value} {d : DataW H} {ps : List MemPlace}
theorem arg_i (h : DataW.Trod enc P W 0 sp held 3 v d ps) (hv : Value.okWide P W .any base 3 v) : ∃ n : Int, RepA W (C0 W) (.i n) v := by
  obtain ⟨f, ts, h1, h2⟩ := arg_int (tt_some tt3).1 (by kernel_rfl) h hv
  obtain ⟨n, rfl⟩ := has_i h1
  exact ⟨n, h2 _ rfl⟩
theorem arg_u (h : DataW.Trod enc P W 0 sp held 27 v d ps) (hv : Value.okWide P W .any base 27 v) : ∃ n : Nat, n < 2 ^ 64 ∧ RepA W (C0 W) (.u n) v := by
  obtain ⟨f, ts, h1, h2⟩ := arg_int (tt_some tt27).1 (by kernel_rfl) h hv
  obtain ⟨n, rfl, hn⟩ := has_u h1
  exact ⟨n, hn, h2 _ rfl⟩
theorem arg_ints (h : DataW.Trod enc P W 0 sp held 30 v d ps) (hv : Value.okWide P W .any base 30 v) : ∃ l : List Int, l.length ≤ maxLen ∧ RepA W (C0 W) (.t (.sl (ints l))) v := by
  obtain ⟨f, ts, h1, h2⟩ := arg_slice (tt_some tt30).1 (by kernel_rfl) h hv
  obtain ⟨l, rfl, hl⟩ := has_ints h1
  exact ⟨l, hl, h2 _ rfl⟩
theorem arg_inst (h : DataW.Trod enc P W 0 sp held 35 v d ps) (hv : Value.okWide P W .any base 35 v) : ∃ x : Inst, x.stops.length ≤ maxLen ∧ RepA W (C0 W) x.a v := by
  obtain ⟨f, ts, h1, h2⟩ := arg_struct (tt_some tt35).1 (by kernel_rfl) h hv
  obtain ⟨x, rfl, hl⟩ := has_inst h1
  exact ⟨x, hl, h2⟩
theorem arg_state (h : DataW.Trod enc P W 0 sp held 29 v d ps) (hv : Value.okWide P W .any base 29 v) : ∃ s : State, s.ok ∧ RepA W (C0 W) s.a v := by
  obtain ⟨f, ts, h1, h2⟩ := arg_struct (tt_some tt29).1 (by kernel_rfl) h hv
  obtain ⟨s, rfl, hs⟩ := has_state h1
  exact ⟨s, hs, h2⟩
end
end Go.Proofs.Ytmmdnflngbkjnaa
