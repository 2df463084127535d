/- A part of the proof: C7. -/
import Derived.Test.YtibmjinfdcmbdaaC6
set_option maxRecDepth 4000
namespace Go.Proofs.Ytibmjinfdcmbdaa
open Go Go.Proofs.Ytibmjinfdcmbdaa.R
theorem err1_01 {e n : Int} (h : e = 0 ∨ e = 1) : err1 e n = 0 ∨ err1 e n = 1 := by unfold err1; split <;> simp_all
theorem err1_one (n : Int) : err1 1 n = 1 := by unfold err1; simp
theorem spotErr_one (s : Spot) : Spot.err 1 s = 1 := by simp [Spot.err, err1_one]
theorem spotErrs_one (l : List Spot) : l.foldl Spot.err 1 = 1 := by
  induction l with
  | nil => rfl
  | cons s l ih => rw [List.foldl_cons, spotErr_one, ih]
def Spot.pos (s : Spot) : Bool := [s.at_, s.car, s.time, s.load, s.first, s.cost, s.part].all (0 ≤ ·)
theorem err1_zero (n : Int) : err1 0 n = if 0 ≤ n then 0 else 1 := by unfold err1; split <;> split <;> first | rfl | omega
theorem errs_zero (l : List Int) : l.foldl err1 0 = if l.all (0 ≤ ·) then 0 else 1 := by
  induction l with
  | nil => rfl
  | cons n l ih =>
    rw [List.foldl_cons, err1_zero]
    have h1 : ∀ l : List Int, l.foldl err1 1 = 1 := by
      intro l
      induction l with
      | nil => rfl
      | cons n l ih => rw [List.foldl_cons, err1_one, ih]
    by_cases h : 0 ≤ n
    · rw [if_pos h, ih]; simp [h]
    · rw [if_neg h, h1]; simp [h]
theorem spotErr_zero (s : Spot) : Spot.err 0 s = if s.pos then 0 else 1 := errs_zero _
def Spot.us (s : Spot) : List Nat := [un s.at_, un s.car, un s.time, un s.load, un s.first, s.must, s.may, s.on, un s.cost, un s.part]
def u64s (l : List Nat) : List (List T) := l.map fun (n : Nat) => [T.v (.int .u64 n)]
theorem Spot.enc_us (s : Spot) : s.enc = s.us.flatMap Ytibmjinfdcmbdaa.enc := by simp [Spot.enc, Spot.us, encI]
theorem Spot.us_lt {s : Spot} (h : s.ok) : ∀ u ∈ s.us, u < 2 ^ 64 := by
  intro u hu
  obtain ⟨h1, h2, h3⟩ := h
  simp only [Spot.us, List.mem_cons, List.not_mem_nil, or_false] at hu
  rcases hu with rfl | rfl | rfl | rfl | rfl | rfl | rfl | rfl | rfl | rfl <;> first | exact un_lt _ | assumption
theorem fields_pure' (s : Spot) : Pure P 25 [.agg (s.t.map .t)] (.tup (if s.pos then [.t (.sl (u64s s.us)), .b true] else [.t (.sl []), .b false])) := fields_pure s

theorem byt_ok (l : List Nat) : (∀ y, y ∈ byt l → y.length = 1) = True := eq_true (byt_all l)
theorem ref_encode_pure (p : Prf) (hp : p.ok) (hl : p.enc.length + 1000 ≤ mostLen) : Pure P 12 [p.a] (.tup (if p.err = 0 then [.t (.sl (byt p.enc)), .i 0] else [.t (.sl []), .i p.err])) := by
  have hm : mostLen = 4294967296 := rfl
  refine pure_of Try.func12 rfl rfl (by simp [Try.f12]) (by simp [bnd, bnd.bndL, Prf.a]) (by split <;> simp [bnd, bnd.bndL]) fun B hB hnx => ?_
  simp only [Try.f12] at hB ⊢
  refine K_run hB 60 ?_
  simp [go_sem, Prf.a]
  refine K_call rfl rfl rfl (args := [p.a]) (f := 23) (by simp [go_sem, Prf.a]) (by simp [go_sem, hB]) ((great_pure p hp).spec _ _) ?_
  by_cases h0 : p.least < 0
  · have he : p.err = 1 := by
      have : err1 0 p.least = 1 := by rw [err1_zero, if_neg (by omega)]
      rw [Prf.err, this, spotErrs_one]
    refine K_run hB 60 ?_
    simp [go_sem, h0, he]
  have he0 : p.spots.foldl Spot.err 0 = p.err := by
    have : err1 0 p.least = 0 := by rw [err1_zero, if_pos (by omega)]
    rw [Prf.err, this]
  refine K_run hB 20 ?_
  simp [go_sem, h0]
  refine K_bytesR (es := byt [72, 76, 82, 49]) rfl rfl rfl rfl rfl tt27 rfl tt5 rfl (by simp [go_sem, byt]) (by simp [go_sem, hB]) (by simp [go_sem, hB]) ?_
  have elen := fun n => enc_len64 (un_lt n)
  have e4 : (byt [72, 76, 82, 49]).length = 4 := rfl
  refine K_run hB 60 ?_
  simp [go_sem]
  refine K_call rfl rfl rfl (args := [.u (un p.least)]) (f := 24) (by simp [go_sem, un_wrap]) (by simp [go_sem, hB]) ((number_pure _ (un_lt _)).spec _ _) ?_
  have b1 : 4 + (enc (un p.least)).length ≤ mostLen := by have := elen p.least; omega
  refine K_run hB 60 ?_
  simp [go_sem, byt_ok, byt_len, e4, b1]
  refine K_call rfl rfl rfl (args := [.u (un p.parts.length)]) (f := 24) (by simp [go_sem, un_wrap]) (by simp [go_sem, hB]) ((number_pure _ (un_lt _)).spec _ _) ?_
  have b2 : 4 + (enc (un p.least)).length + (enc (un p.parts.length)).length ≤ mostLen := by have := elen p.least; have := elen p.parts.length; omega
  refine K_run hB 60 ?_
  simp [go_sem, byt_ok, byt_len, e4, b2]
  have key : ∀ (j : Nat) (l : List Nat) (x : List Nat), ob [(0, .box [.t (.i p.least), .t (.sl (p.parts.map partT))]), (j, .arr 1 (byt (l ++ x)))] = ob [(0, .box [.t (.i p.least), .t (.sl (p.parts.map partT))]), (j, .arr 1 (byt l ++ byt x))] := fun j l x => by rw [byt_app]
  refine K_loopP (α := Nat × Nat × List Nat) (fun (k, j, l) => k ≤ p.parts.length ∧ l ++ (p.parts.drop k).flatMap partEnc = p.enc ∧ ((p.parts.drop k).flatten.flatten).foldl Spot.err 0 = p.err ∧ 0 < j)
    (fun (k, j, l) => ⟨sl [(1, .ptr 0 0), (5, .ref j), (6, .i k)], ob [(0, .box [.t (.i p.least), .t (.sl (p.parts.map partT))]), (j, .arr 1 (byt l))], j + 1⟩) (fun x => p.parts.length - x.1) (0, 3, [72, 76, 82, 49] ++ enc (un p.least) ++ enc (un p.parts.length)) ⟨Nat.zero_le _, by simp [Prf.enc, encI], by simpa [Prf.spots] using he0, by omega⟩
    (Sub.of (by omega) (by simp) (by simp [go_sem]) (by simp [go_sem, byt])) ?_
  rintro ⟨k, j, l⟩ ⟨h1, h2, h3, hj⟩
  have hpl := hp.parts
  have hj0 : ¬ j = 0 := by omega
  have hj0' : ¬ 0 = j := by omega
  refine K_run hB 60 ?_
  simp [go_sem]
  refine fork_dec (fun hk => ?_) (fun hk => ?_)
  · have hd : p.parts.drop k = p.parts[k] :: p.parts.drop (k + 1) := by rw [List.drop_eq_getElem_cons hk]
    have hq := hp.layers _ (List.getElem_mem hk)
    have hqs := hp.spots _ (List.getElem_mem hk)
    have hqn := hp.num _ (List.getElem_mem hk)
    generalize hq' : p.parts[k] = q at *
    generalize hrest : p.parts.drop (k + 1) = rest at *
    simp [go_sem, hk, partT, hq']
    refine K_call rfl rfl rfl (args := [.u (un q.length)]) (f := 24) (by simp [go_sem, un_wrap]) (by simp [go_sem, hB]) ((number_pure _ (un_lt _)).spec _ _) ?_
    have b3 : l.length + (enc (un q.length)).length ≤ mostLen := by
      have := elen q.length
      have := congrArg List.length h2
      simp at this
      omega
    refine K_run hB 60 ?_
    simp [go_sem, byt_ok, byt_len, b3, hj0, hj0']
    refine K_loopP (α := Nat × Nat × List Nat) (fun (i, j, l) => i ≤ q.length ∧ l ++ (q.drop i).flatMap layEnc ++ rest.flatMap partEnc = p.enc ∧ ((q.drop i).flatten ++ rest.flatten.flatten).foldl Spot.err 0 = p.err ∧ 0 < j)
      (fun (i, j, l) => ⟨sl [(1, .ptr 0 0), (5, .ref j), (6, .i k), (7, .t (.sl (q.map fun l => [layT l]))), (8, .i i)], ob [(0, .box [.t (.i p.least), .t (.sl (p.parts.map partT))]), (j, .arr 1 (byt l))], j + 1⟩) (fun x => q.length - x.1) (0, j + 1, l ++ enc (un q.length)) ⟨Nat.zero_le _, by rw [← h2, hd]; simp [partEnc, encI], by rw [← h3, hd]; simp, by omega⟩
      (Sub.of (by omega) (by simp) (by simp [go_sem]) (by simp [go_sem, hj0, hj0', byt])) ?_
    rintro ⟨i, j, l⟩ ⟨i1, i2, i3, hj⟩
    have hj0 : ¬ j = 0 := by omega
    have hj0' : ¬ 0 = j := by omega
    refine K_run hB 60 ?_
    simp [go_sem]
    refine fork_dec (fun hi => ?_) (fun hi => ?_)
    · have hdi : q.drop i = q[i] :: q.drop (i + 1) := by rw [List.drop_eq_getElem_cons hi]
      have hly := hqs _ (List.getElem_mem hi)
      have hyn := hqn _ (List.getElem_mem hi)
      generalize hy' : q[i] = y at *
      generalize hrest2 : q.drop (i + 1) = rest2 at *
      simp [go_sem, hi, layT, hy']
      refine K_call rfl rfl rfl (args := [.u (un y.length)]) (f := 24) (by simp [go_sem, un_wrap]) (by simp [go_sem, hB]) ((number_pure _ (un_lt _)).spec _ _) ?_
      have b5 : l.length + (enc (un y.length)).length ≤ mostLen := by
        have := elen y.length
        have := congrArg List.length i2
        simp at this
        omega
      refine K_run hB 60 ?_
      simp [go_sem, byt_ok, byt_len, b5, hj0, hj0']
      refine K_loopP (α := Nat × Nat × List Nat) (fun (m, j, l) => m ≤ y.length ∧ l ++ (y.drop m).flatMap Spot.enc ++ rest2.flatMap layEnc ++ rest.flatMap partEnc = p.enc ∧ (y.drop m ++ rest2.flatten ++ rest.flatten.flatten).foldl Spot.err 0 = p.err ∧ 0 < j)
        (fun (m, j, l) => ⟨sl [(1, .ptr 0 0), (5, .ref j), (6, .i k), (7, .t (.sl (q.map fun l => [layT l]))), (8, .i i), (9, .i m)], ob [(0, .box [.t (.i p.least), .t (.sl (p.parts.map partT))]), (j, .arr 1 (byt l))], j + 1⟩) (fun x => y.length - x.1) (0, j + 1, l ++ enc (un y.length)) ⟨Nat.zero_le _, by rw [← i2, hdi]; simp [layEnc, encI], by rw [← i3, hdi]; simp, by omega⟩
        (Sub.of (by omega) (by simp) (by simp [go_sem, layT]) (by simp [go_sem, hj0, hj0', byt])) ?_
      rintro ⟨m, j, l⟩ ⟨m1, m2, m3, hj⟩
      have hj0 : ¬ j = 0 := by omega
      have hj0' : ¬ 0 = j := by omega
      refine K_run hB 60 ?_
      simp [go_sem, hi, layT, hy']
      refine fork_dec (fun hm' => ?_) (fun hm' => ?_)
      · have hdm : y.drop m = y[m] :: y.drop (m + 1) := by rw [List.drop_eq_getElem_cons hm']
        have hsp := hyn _ (List.getElem_mem hm')
        generalize hs' : y[m] = s at *
        generalize hrest3 : y.drop (m + 1) = rest3 at *
        simp [go_sem, hi, layT, hy', hm', hs', Spot.t]
        refine K_call rfl rfl rfl (args := [.agg (s.t.map .t)]) (f := 25) (by simp [go_sem, Spot.t]) (by simp [go_sem, hB]) ((fields_pure' s).spec _ _) ?_
        by_cases hpos : s.pos = true
        · have m4 : (rest3 ++ rest2.flatten ++ rest.flatten.flatten).foldl Spot.err 0 = p.err := by
            rw [← m3, hdm]
            simp [spotErr_zero, hpos]
          have hus := Spot.us_lt hsp
          rw [if_pos hpos]
          refine K_run hB 60 ?_
          simp [go_sem]
          refine K_loopP (α := Nat × Nat × List Nat) (fun (u, j, l) => u ≤ s.us.length ∧ l ++ (s.us.drop u).flatMap enc ++ rest3.flatMap Spot.enc ++ rest2.flatMap layEnc ++ rest.flatMap partEnc = p.enc ∧ 0 < j)
            (fun (u, j, l) => ⟨sl [(1, .ptr 0 0), (5, .ref j), (6, .i k), (7, .t (.sl (q.map fun l => [layT l]))), (8, .i i), (9, .i m), (10, .t (.sl (u64s s.us))), (12, .i u)], ob [(0, .box [.t (.i p.least), .t (.sl (p.parts.map partT))]), (j, .arr 1 (byt l))], j + 1⟩) (fun x => s.us.length - x.1) (0, j, l) ⟨Nat.zero_le _, by rw [← m2, hdm]; simp [Spot.enc_us], by omega⟩
            (Sub.of (by omega) (by simp) (by simp [go_sem, layT]) (by simp [go_sem, hj0, hj0', byt])) ?_
          rintro ⟨u, j, l⟩ ⟨u1, u2, hj⟩
          have hj0 : ¬ j = 0 := by omega
          have hj0' : ¬ 0 = j := by omega
          have hul : (u64s s.us).length = s.us.length := by simp [u64s]
          refine K_run hB 60 ?_
          simp [go_sem, hul]
          refine fork_dec (fun hu => ?_) (fun hu => ?_)
          · have hdu : s.us.drop u = s.us[u] :: s.us.drop (u + 1) := by rw [List.drop_eq_getElem_cons hu]
            have hlt := hus _ (List.getElem_mem hu)
            have hlu : s.us.length = 10 := rfl
            generalize hv : s.us[u] = v at *
            generalize hrest4 : s.us.drop (u + 1) = rest4 at *
            simp [go_sem, hu, u64s, hv]
            refine K_call rfl rfl rfl (args := [.u v]) (f := 24) (by simp [go_sem]) (by simp [go_sem, hB]) ((number_pure _ hlt).spec _ _) ?_
            have b7 : l.length + (enc v).length ≤ mostLen := by
              have := enc_len64 hlt
              have := congrArg List.length u2
              simp at this
              omega
            refine K_run hB 60 ?_
            simp [go_sem, byt_ok, byt_len, b7, hj0, hj0']
            refine Next.mk (u + 1, j + 1, l ++ enc v) ⟨by omega, by rw [← u2, hdu, hrest4]; simp, Nat.succ_pos _⟩ (Sub.of (by omega) (by simp) (by
              simp [go_sem, u64s]
              rw [w64 _ (by omega)]) (by simp [go_sem, hj0, hj0', byt])) (by show s.us.length - (u + 1) < s.us.length - u; omega)
          · have : u = s.us.length := by omega
            subst this
            simp [go_sem]
            refine Next.mk (m + 1, j, l) ⟨by omega, by rw [← u2, hrest3]; simp, by rw [hrest3]; simpa using m4, by omega⟩ (Sub.of (by omega) (by simp) (by
              simp [go_sem, layT]
              rw [w64 _ (by omega)]) (by simp [go_sem, hj0, hj0'])) (by simp only; omega)
        · have e1 : p.err = 1 := by
            rw [← m3, hdm]
            simp [spotErr_zero, hpos, spotErrs_one]
          rw [if_neg hpos]
          refine K_run hB 60 ?_
          simp [go_sem, e1]
      · have : m = y.length := by omega
        subst this
        simp [go_sem]
        refine Next.mk (i + 1, j, l) ⟨by omega, by rw [← m2, hrest2]; simp, by rw [← m3, hrest2]; simp, by omega⟩ (Sub.of (by omega) (by simp) (by
          simp [go_sem, layT]
          rw [w64 _ (by omega)]) (by simp [go_sem, hj0, hj0'])) (by simp only; omega)
    · have : i = q.length := by omega
      subst this
      simp [go_sem]
      refine Next.mk (k + 1, j, l) ⟨by omega, by rw [← i2, hrest]; simp, by rw [← i3, hrest]; simp, by omega⟩ (Sub.of (by omega) (by simp) (by
        simp [go_sem]
        rw [w64 _ (by omega)]) (by simp [go_sem, hj0, hj0'])) (by simp only; omega)
  · have : k = p.parts.length := by omega
    subst this
    have e1 : p.err = 0 := by rw [← h3]; simp
    have e2 : l = p.enc := by rw [← h2]; simp
    simp [go_sem, e1, e2, hj0]
end Go.Proofs.Ytibmjinfdcmbdaa
