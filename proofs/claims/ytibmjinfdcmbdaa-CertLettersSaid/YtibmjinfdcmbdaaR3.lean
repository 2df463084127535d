/- R3: operations that look at no object are met by the model's. -/
import Derived.Test.YtibmjinfdcmbdaaR2
import Derived.Laws.Cells
import Derived.Laws.BytesArg
namespace Go.Proofs.Ytibmjinfdcmbdaa.R
open Go.RowKit

section
variable {P : Program} {w : World} {C : Ctx}

theorem tt_some {t : TypeId} {i : TI} (h : TT P t = some i) : P.underlying t = some i.desc ∧ ∃ j, P.info? t = some j ∧ j.size = i.size ∧ j.bytes = i.bytes ∧ j.zero = some i.zero := by
  unfold TT at h
  split at h
  · rename_i d j hd hj
    split at h
    · rename_i z hz
      split at h <;> cases h
      exact ⟨hd, j, hj, rfl, rfl, hz⟩
    · cases h
  · cases h
theorem tt_zero {t : TypeId} {i : TI} (h : TT P t = some i) : i.zero.cells.size = i.size := by
  unfold TT at h
  split at h
  · split at h
    · split at h <;> cases h
      assumption
    · cases h
  · cases h

theorem run_und {t : TypeId} {i : TI} (h : TT P t = some i) (w : World) : (underlying t).run P w = .ok i.desc w := by
  simp [underlying, (tt_some h).1]
theorem run_info {t : TypeId} {i : TI} (h : TT P t = some i) (w : World) : ∃ j, (typeInfo t).run P w = .ok j w ∧ j.size = i.size ∧ j.bytes = i.bytes ∧ j.zero = some i.zero := by
  obtain ⟨_, j, hj, h1, h2, h3⟩ := tt_some h
  exact ⟨j, by simp [typeInfo, hj], h1, h2, h3⟩
theorem run_size {t : TypeId} {i : TI} (h : TT P t = some i) (w : World) : (sizeOf t).run P w = .ok i.size w := by
  obtain ⟨j, hj, h1, _⟩ := run_info h w
  simp [sizeOf, hj, h1]
theorem run_zero {t : TypeId} {i : TI} (h : TT P t = some i) (w : World) : (zeroValue t).run P w = .ok i.zero w := by
  obtain ⟨j, hj, _, _, h1⟩ := run_info h w
  simp [zeroValue, hj, h1]
theorem run_isAgg {t : TypeId} {i : TI} (h : TT P t = some i) (w : World) : (isAgg t).run P w = .ok i.isAgg w := by
  simp only [isAgg, Sem.run_bind, run_und h w, Result.andThen_ok]
  unfold TI.isAgg
  cases i.desc <;> rfl

theorem rep_v {x : Value} {v : Value} (h : RepA w C (.t (.v x)) v) : v = x ∧ plainV x = true := by
  cases h with
  | t h => cases h with
    | v h => exact ⟨rfl, h⟩
theorem rep_sl {es : List (List T)} {v : Value} (h : RepA w C (.t (.sl es)) v) : ∃ a c, v = .slice a es.length c ∧ es.length ≤ c ∧ RepT w C.imm (.sl es) v := by
  cases h with
  | t h => cases h with
    | nil => exact ⟨_, _, rfl, Nat.zero_le _, .nil⟩
    | sl h0 h1 h2 h3 h4 h5 => exact ⟨_, _, rfl, h2, .sl h0 h1 h2 h3 h4 h5⟩
theorem rep_fsl {es : List (List T)} {v : Value} (h : RepA w C (.fsl es) v) : ∃ a, v = .slice a es.length es.length ∧ RepT w C.imm (.sl es) v := by
  cases h with
  | fsl h => exact ⟨_, rfl, h⟩
theorem rep_agg {cs : List AV} {v : Value} (h : RepA w C (.agg cs) v) : ∃ vs, v = .agg vs ∧ cs.length = vs.size ∧ ∀ (k : Nat) (a : AV) (u : Value), cs[k]? = some a → vs[k]? = some u → RepA w C a u := by
  cases h with
  | agg h1 h2 => exact ⟨_, rfl, h1, h2⟩
theorem rep_tup {cs : List AV} {v : Value} (h : RepA w C (.tup cs) v) : ∃ vs, v = .tuple vs ∧ cs.length = vs.size ∧ ∀ (k : Nat) (a : AV) (u : Value), cs[k]? = some a → vs[k]? = some u → RepA w C a u := by
  cases h with
  | tup h1 h2 => exact ⟨_, rfl, h1, h2⟩

theorem plain_cells {x : Value} (h : plainV x = true) : x.cells = #[x] ∧ x.oneCell' = true := by
  cases x <;> first | exact ⟨rfl, rfl⟩ | simp [plainV] at h

theorem rep_leaf {a : AV} {v : Value} (h : RepA w C a v) (hl : leaf a = true) : v.cells = #[v] ∧ v.oneCell' = true := by
  cases h with
  | t h => cases h with
    | v h => exact plain_cells h
    | nil => exact ⟨rfl, rfl⟩
    | sl => exact ⟨rfl, rfl⟩
  | agg => simp [leaf] at hl
  | tup => simp [leaf] at hl
  | any => simp [leaf] at hl
  | _ => exact ⟨rfl, rfl⟩

theorem const_rep (v : Value) : RepA w C (ofConst v) v := by
  have hleaf : ∀ v, RepA w C (ofLeaf v) v := by
    intro v
    unfold ofLeaf
    split
    · exact .fsl (es := []) .nil
    · exact .fn rfl (fun k a u h => by simp at h) rfl (fun k a u h => by simp at h)
    · split
      · rename_i h
        exact .t (.v h)
      · exact .any
  unfold ofConst
  split
  · rename_i cs
    refine .agg (by simp) fun k a u ha hu => ?_
    simp only [List.getElem?_map, Array.getElem?_toList, hu, Option.map_some] at ha
    cases ha
    exact hleaf u
  · exact .tup rfl (fun k a u h => by simp at h)
  · exact hleaf _

theorem pick_rep {b : Bool} {x y : AV} {u v : Value} (hx : RepA w C x u) (hy : RepA w C y v) : RepA w C (pickA b x y) (if b then u else v) := by
  unfold pickA
  split
  · obtain ⟨rfl, _⟩ := rep_v hx
    obtain ⟨rfl, _⟩ := rep_v hy
    cases b <;> exact .t (.v rfl)
  · cases b <;> assumption

theorem part_rep {t : TypeId} {i : TI} (h : TT P t = some i) {cs : List AV} {vs : Array Value} (hl : cs.length = vs.size) (hr : ∀ (k : Nat) (a : AV) (u : Value), cs[k]? = some a → vs[k]? = some u → RepA w C a u)
    {off : Nat} {a : AV} (hp : partA i cs off = some a) : ∃ u, (part t vs off).run P w = .ok u w ∧ RepA w C a u := by
  unfold partA at hp
  simp only [part, Sem.run_bind, run_isAgg h, Result.andThen_ok]
  split at hp
  · rename_i ha
    split at hp
    · rename_i hle
      cases hp
      refine ⟨.agg (vs.extract off (off + i.size)), by simp [ha, run_size h], .agg (by simp; omega) fun k a u h1 h2 => ?_⟩
      simp only [List.getElem?_take, List.getElem?_drop] at h1
      split at h1
      · rw [Array.getElem?_extract] at h2
        split at h2
        · exact hr _ _ _ h1 h2
        · cases h2
      · cases h1
    · cases hp
  · rename_i ha
    have hk : off < vs.size := by
      have := (List.getElem?_eq_some_iff.1 hp).1
      omega
    refine ⟨vs[off], by simp [ha, hk], hr off _ _ hp (by simp [hk])⟩

theorem binV_int {op : BinOp} {t : TypeId} {k k' : IntKind} {a b : Int} {v : Value} (h : binV op (.int k a) (.int k' b) = some v) (w : World) :
    (binOp op t (.int k a) (.int k' b)).run P w = .ok v w ∧ plainV v = true := by
  unfold binV at h
  cases op <;> simp only [reduceCtorEq] at h <;> simp only [binOp]
  case shl => split at h <;> cases h; rename_i hb; simp [Op.shift, hb, plainV]
  case shr => split at h <;> cases h; rename_i hb; simp [Op.shift, hb, plainV]
  all_goals
    split at h
    · cases h
    · rename_i hk
      have hk' : k = k' := by simpa using hk
      subst hk'
      simp only [ne_eq, not_true_eq_false, if_false]
      try (split at h; · cases h)
      first
        | (cases h; simp_all [Op.intArith, Op.intDiv, Op.intBits, Op.intCmp, plainV, band, bor, bxor, bandn])
        | cases h

theorem binV_string {op : BinOp} {t : TypeId} {a b : ByteArray} {v : Value} (h : binV op (.string a) (.string b) = some v) (w : World) :
    (binOp op t (.string a) (.string b)).run P w = .ok v w ∧ plainV v = true := by
  unfold binV at h
  cases op <;> simp only [reduceCtorEq] at h <;> cases h <;> simp [binOp, Op.stringOp, plainV]

theorem equal_bool {t : TypeId} {i : TI} (ht : TT P t = some i) (hd : i.desc = .bool) (a b : Bool) (w : World) : (Op.equal t (.bool a) (.bool b)).run P w = .ok (a == b) w := by
  have e : Op.maxDepth = 9999 + 1 := rfl
  unfold Op.equal
  rw [e]
  generalize 9999 = d
  simp only [Op.equalIn, Sem.run_bind, run_und ht, Result.andThen_ok, hd, Sem.run_pure]

theorem binV_bool {op : BinOp} {t : TypeId} {i : TI} (ht : TT P t = some i) (hd : i.desc = .bool) {a b : Bool} {v : Value} (h : binV op (.bool a) (.bool b) = some v) (w : World) :
    (binOp op t (.bool a) (.bool b)).run P w = .ok v w ∧ plainV v = true := by
  unfold binV at h
  cases op <;> simp only [reduceCtorEq] at h <;> cases h
  · exact ⟨by simp only [binOp, Sem.run_bind, equal_bool ht hd, Result.andThen_ok, Sem.run_pure], rfl⟩
  · exact ⟨by simp only [binOp, Sem.run_bind, equal_bool ht hd, Result.andThen_ok, Sem.run_pure], rfl⟩

theorem unV_run {op : UnOp} {x v : Value} (h : unV op x = some v) (w : World) : (Op.unary op x).run P w = .ok v w ∧ plainV v = true := by
  unfold unV at h
  split at h <;> cases h <;> simp [Op.unary, Op.intArith, plainV]


theorem asInt_rep {a : AV} {n : Int} {v : Value} (h : asInt a = some n) (r : RepA w C a v) : ∃ k, v = .int k n := by
  unfold asInt at h
  split at h <;> cases h
  obtain ⟨rfl, _⟩ := rep_v r
  exact ⟨_, rfl⟩

theorem idx_some {n : Int} {len j : Nat} (h : idx n len = some j) : 0 ≤ n ∧ n < len ∧ n.toNat = j ∧ j < len := by
  unfold idx at h
  split at h <;> cases h
  omega

/-- The cells of an element. -/
theorem sl_elem {es : List (List T)} {a : Option Addr} {c : Nat} (h : RepT w C.imm (.sl es) (.slice a es.length c)) {j : Nat} {e : List T} (he : es[j]? = some e) :
    ∃ ad, a = some ad ∧ RepA w C (.rd e) (.pointer (some (ad.add (j * e.length)))) := by
  have hj : j < es.length := (List.getElem?_eq_some_iff.1 he).1
  generalize hx : T.sl es = x at h
  generalize hv : Value.slice a es.length c = v at h
  cases h with
  | v h => cases hx
  | nil => cases hx; simp at hj
  | @sl es' ad cap sz u h0 hsz hc hi hcell hr =>
    cases hx
    cases hv
    have hes : e.length = sz := hsz e (List.mem_of_getElem? he)
    refine ⟨ad, rfl, .rd (u := fun k => u (j * sz + k)) (by rw [add_block]; exact hi) (fun k hk => ?_) (fun k c hc => hr j k e c he hc)⟩
    rw [add_add, hes]
    refine hcell _ ?_
    have : (j + 1) * sz ≤ es.length * sz := Nat.mul_le_mul_right _ hj
    rw [Nat.add_mul, Nat.one_mul] at this
    omega

theorem elemRd_rep {es : List (List T)} {sz : Nat} {n : Int} {a : AV} (h : elemRd es sz n = some a) {b : Option Addr} {c : Nat} (hr : RepT w C.imm (.sl es) (.slice b es.length c)) :
    0 ≤ n ∧ n < es.length ∧ ∃ ad, b = some ad ∧ RepA w C a (.pointer (some (ad.add (n.toNat * sz)))) := by
  unfold elemRd at h
  split at h
  · rename_i j hj
    obtain ⟨h0, h1, rfl, h2⟩ := idx_some hj
    split at h
    · rename_i e he
      split at h <;> cases h
      rename_i hes
      obtain ⟨ad, rfl, hrd⟩ := sl_elem hr he
      rw [hes] at hrd
      exact ⟨h0, h1, ad, rfl, hrd⟩
    · cases h
  · cases h

theorem rd_drop {cs : List T} {ad : Addr} {k : Nat} (h : RepA w C (.rd cs) (.pointer (some ad))) : RepA w C (.rd (cs.drop k)) (.pointer (some (ad.add k))) := by
  cases h with
  | @rd _ _ u hi hcell hr =>
    refine .rd (u := fun j => u (k + j)) (by rw [add_block]; exact hi) (fun j hj => ?_) (fun j c hc => ?_)
    · rw [List.length_drop] at hj
      rw [add_add]
      exact hcell _ (by omega)
    · rw [List.getElem?_drop] at hc
      exact hr _ c hc

theorem cut_rep {es : List (List T)} {a : Option Addr} {c l h sz m : Nat} (hr : RepT w C.imm (.sl es) (.slice a es.length c)) (hl : l ≤ h) (hh : h ≤ es.length) (hm : h ≤ m) (hsz : ∀ e ∈ es, e.length = sz) :
    RepT w C.imm (.sl ((es.take h).drop l)) (.slice (if m = l then a else a.map (·.add (l * sz))) (h - l) (m - l)) := by
  rcases Nat.eq_or_lt_of_le hl with rfl | hlt
  · rw [List.drop_eq_nil_of_le (by rw [List.length_take]; omega), Nat.sub_self]
    exact .nil
  · generalize hx : T.sl es = x at hr
    generalize hv : Value.slice a es.length c = v at hr
    cases hr with
    | v h => cases hx
    | nil => cases hx; simp at hh; omega
    | @sl es' ad cap sz' u h0 hsz' hc hi hcell hr =>
      cases hx
      cases hv
      have hszz : sz = sz' := by
        obtain ⟨e, he⟩ : ∃ e, e ∈ es := ⟨es[0], List.getElem_mem _⟩
        rw [← hsz e he, hsz' e he]
      subst hszz
      rw [if_neg (by omega)]
      have hlen : ((es.take h).drop l).length = h - l := by rw [List.length_drop, List.length_take]; omega
      rw [← hlen]
      refine .sl (u := fun k => u (l * sz + k)) (by omega) (fun e he => hsz e (List.mem_of_mem_take (List.mem_of_mem_drop he))) (by omega) (by simpa [add_block] using hi) (fun k hk => ?_) (fun j k e c he hc => ?_)
      · show w.cell? ((ad.add (l * sz)).add k) = _
        rw [add_add]
        refine hcell _ ?_
        rw [hlen] at hk
        have : (h - l) * sz + l * sz = h * sz := by rw [← Nat.add_mul]; congr 1; omega
        have : h * sz ≤ es.length * sz := Nat.mul_le_mul_right _ hh
        omega
      · rw [List.getElem?_drop, List.getElem?_take] at he
        split at he
        · have := hr (l + j) k e c he hc
          rwa [Nat.add_mul, Nat.add_assoc] at this
        · cases he

theorem bound_run {x : Option AV} {d most r : Nat} (h : bound x d most = some r) {v : Option Value} (hv : ∀ a, x = some a → ∃ u, v = some u ∧ RepA w C a u) (hn : x = none → v = none) (code : BoundsCode) :
    r ≤ most ∧ (∀ u, v = some u → (Instr.sliceBound u most code).run P w = .ok r w) ∨ x = none ∧ v = none ∧ r = d := by
  unfold bound at h
  split at h
  · cases h
    exact .inr ⟨rfl, hn rfl, rfl⟩
  · rename_i a
    split at h
    · rename_i n ha
      split at h <;> cases h
      rename_i hb
      refine .inl ⟨by omega, fun u hu => ?_⟩
      obtain ⟨u', hu', hr⟩ := hv a rfl
      rw [hu] at hu'
      cases hu'
      obtain ⟨k, rfl⟩ := asInt_rep ha hr
      simp [Instr.sliceBound, asIntOf, hb]
    · cases h

theorem add_off (b o k : Nat) : (⟨b, o, none⟩ : Addr).add k = ⟨b, o + k, none⟩ := by
  unfold Addr.add
  split
  · rename_i h; subst h; rfl
  · rfl

theorem unbytes_rep {es : List (List T)} {l : List UInt8} (h : unbytes es = some l) : ∃ xs : List Int, es = xs.map (fun n => [T.v (.int .u8 n)]) ∧ l = xs.map fun n => UInt8.ofNat n.toNat := by
  induction es generalizing l with
  | nil => simp only [unbytes] at h; cases h; exact ⟨[], rfl, rfl⟩
  | cons e r ih =>
    unfold unbytes at h
    split at h
    · rename_i heq; cases heq
    · rename_i n r' heq
      cases heq
      obtain ⟨l', hl', rfl⟩ := Option.map_eq_some_iff.1 h
      obtain ⟨xs, rfl, rfl⟩ := ih hl'
      exact ⟨n :: xs, rfl, rfl⟩
    · cases h

theorem bytes_run {es : List (List T)} {l : List UInt8} (h : unbytes es = some l) {s d e : TypeId} (hs : P.underlying s = some (.slice e)) (he : P.underlying e = some (.int .u8)) (hd : P.underlying d = some .string)
    {a : Option Addr} {c : Nat} (hr : RepT w C.imm (.sl es) (.slice a es.length c)) : (convert s d (.slice a es.length c)).run P w = .ok (.string ⟨l.toArray⟩) w := by
  obtain ⟨xs, hx, rfl⟩ := unbytes_rep h
  cases a with
  | none =>
    generalize hy : T.sl es = y at hr
    generalize hv : Value.slice none es.length c = v at hr
    cases hr with
    | v _ => cases hy
    | nil =>
      cases hy
      have : xs = [] := by simpa using hx.symm
      subst this
      cases hv
      exact run_convert_bytes_nil w s e hs he _ _ d hd
    | sl => cases hv
  | some ad =>
    rcases Nat.eq_zero_or_pos xs.length with h0 | h0
    · have : xs = [] := List.eq_nil_of_length_eq_zero h0
      subst this
      subst hx
      have := run_convert_bytes_arg w s e hs he ad.block ad.off 0 c [] rfl (fun i hi => by omega) d hd
      simp [convert, underlying, hs, he, hd, Conv.bytesToString, loadCells, loadCellsFrom]
      rfl
    · have hcell : ∀ i, i < xs.length → w.cell? (ad.add i) = some (.int .u8 (xs.getD i 0)) := by
        intro i hi
        have hei : es[i]? = some [T.v (.int .u8 (xs.getD i 0))] := by
          subst hx
          simp [hi]
        obtain ⟨ad', had, hrd⟩ := sl_elem hr hei
        cases had
        cases hrd with
        | @rd _ _ u hi' hcell hr' =>
          have h1 := hcell 0 (by simp)
          have h2 := hr' 0 _ (by simp; rfl)
          rw [add_zero'] at h1
          simp only [List.length_singleton, Nat.mul_one] at h1
          rw [h1]
          generalize u 0 = z at h2
          cases h2
          simp
      have hspot : ad = ⟨ad.block, ad.off, none⟩ := by
        have h1 := hcell 0 h0
        rw [add_zero'] at h1
        cases ad with
        | mk b o sp =>
          cases sp with
          | none => rfl
          | some q =>
            exfalso
            unfold World.cell? at h1
            split at h1 <;> simp at h1
      have hlen : xs.length = es.length := by rw [hx]; simp
      have := run_convert_bytes_arg w s e hs he ad.block ad.off es.length c xs hlen (fun i hi => by
        have h1 := hcell i (by omega)
        rw [hspot, add_off] at h1
        exact h1) d hd
      rw [← hspot] at this
      exact this

end
end Go.Proofs.Ytibmjinfdcmbdaa.R
