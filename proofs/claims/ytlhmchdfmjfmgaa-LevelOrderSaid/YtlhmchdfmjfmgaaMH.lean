/- Parts of the proof: SortP, SortL, SortW, SortW2, SortW3, SortW4, SortW5, OnceR, Expand, Expand2. -/
import Derived.Test.YtlhmchdfmjfmgaaMG
set_option linter.unusedVariables false
/- Things by numbers, the least first, those of one number in their order: plain laws. -/
set_option maxRecDepth 4000
namespace Go.Proofs.Ytlhmchdfmjfmgaa
open Go Go.Proofs.Ytlhmchdfmjfmgaa.R
section
variable {α : Type} (κ : α → Int)
def insK (x : α) (s : List α) : List α := s.filter (fun y => decide (κ y ≤ κ x)) ++ x :: s.filter (fun y => decide (κ x < κ y))
def isort (l : List α) : List α := l.foldl (fun s x => insK κ x s) []
def Srt (l : List α) : Prop := l.Pairwise fun a b => κ a ≤ κ b
structure SortOf (l s : List α) : Prop where
  srt : Srt κ s
  key : ∀ k, s.filter (fun y => decide (κ y = k)) = l.filter (fun y => decide (κ y = k))
variable {κ}
theorem mem_of_key {s t : List α} (h : ∀ k, s.filter (fun y => decide (κ y = k)) = t.filter (fun y => decide (κ y = k))) {x : α} (hx : x ∈ s) : x ∈ t := by
  have : x ∈ s.filter (fun y => decide (κ y = κ x)) := List.mem_filter.2 ⟨hx, by simp⟩
  rw [h] at this
  exact (List.mem_filter.1 this).1
theorem sort_uniq : ∀ (s t : List α), Srt κ s → Srt κ t → (∀ k, s.filter (fun y => decide (κ y = k)) = t.filter (fun y => decide (κ y = k))) → s = t
  | [], [], _, _, _ => rfl
  | [], y :: t, _, _, h => by
    have := mem_of_key (s := y :: t) (t := []) (fun k => (h k).symm) List.mem_cons_self
    cases this
  | x :: s, [], _, _, h => by
    have := mem_of_key h List.mem_cons_self
    cases this
  | x :: s, y :: t, hs, ht, h => by
    have h1 := mem_of_key h (List.mem_cons_self (a := x) (l := s))
    have h2 := mem_of_key (fun k => (h k).symm) (List.mem_cons_self (a := y) (l := t))
    rw [Srt, List.pairwise_cons] at hs ht
    have e1 : κ x ≤ κ y := by
      rcases List.mem_cons.1 h2 with rfl | h2
      · exact Int.le_refl _
      · exact hs.1 y h2
    have e2 : κ y ≤ κ x := by
      rcases List.mem_cons.1 h1 with rfl | h1
      · exact Int.le_refl _
      · exact ht.1 x h1
    have e : κ x = κ y := by omega
    have h3 := h (κ x)
    rw [List.filter_cons, List.filter_cons, if_pos (by simp), if_pos (by simp [e])] at h3
    obtain ⟨rfl, h4⟩ := List.cons.inj h3
    congr 1
    refine sort_uniq s t hs.2 ht.2 fun k => ?_
    have h5 := h k
    rw [List.filter_cons, List.filter_cons] at h5
    split at h5
    · exact (List.cons.inj h5).2
    · exact h5
theorem SortOf.uniq {l s t : List α} (hs : SortOf κ l s) (ht : SortOf κ l t) : s = t := sort_uniq s t hs.srt ht.srt fun k => (hs.key k).trans (ht.key k).symm
theorem ins_sort {l s : List α} (h : SortOf κ l s) (x : α) : SortOf κ (l ++ [x]) (insK κ x s) := by
  refine ⟨?_, fun k => ?_⟩
  · rw [Srt, insK, List.pairwise_append, List.pairwise_cons]
    refine ⟨h.srt.filter _, ⟨fun y hy => ?_, h.srt.filter _⟩, fun y hy z hz => ?_⟩
    · have := (List.mem_filter.1 hy).2
      simp only [decide_eq_true_eq] at this
      omega
    · have h1 := (List.mem_filter.1 hy).2
      simp only [decide_eq_true_eq] at h1
      rcases List.mem_cons.1 hz with rfl | hz
      · exact h1
      · have h2 := (List.mem_filter.1 hz).2
        simp only [decide_eq_true_eq] at h2
        omega
  · rw [insK, List.filter_append, List.filter_append, List.filter_cons, List.filter_cons, List.filter_nil, List.filter_filter, List.filter_filter, ← h.key k]
    rcases Int.lt_trichotomy k (κ x) with hk | hk | hk
    · have e1 : s.filter (fun a => decide (κ a = k) && decide (κ a ≤ κ x)) = s.filter fun y => decide (κ y = k) := List.filter_congr fun y _ => by
        rw [Bool.eq_iff_iff]; simp only [Bool.and_eq_true, decide_eq_true_eq]; omega
      have e2 : s.filter (fun a => decide (κ a = k) && decide (κ x < κ a)) = [] := List.filter_eq_nil_iff.2 fun y _ => by simp only [Bool.and_eq_true, decide_eq_true_eq]; omega
      rw [e1, e2, if_neg (by simp only [decide_eq_true_eq]; omega), List.append_nil]
    · have e1 : s.filter (fun a => decide (κ a = k) && decide (κ a ≤ κ x)) = s.filter fun y => decide (κ y = k) := List.filter_congr fun y _ => by
        rw [Bool.eq_iff_iff]; simp only [Bool.and_eq_true, decide_eq_true_eq]; omega
      have e2 : s.filter (fun a => decide (κ a = k) && decide (κ x < κ a)) = [] := List.filter_eq_nil_iff.2 fun y _ => by simp only [Bool.and_eq_true, decide_eq_true_eq]; omega
      rw [e1, e2]
    · have e1 : s.filter (fun a => decide (κ a = k) && decide (κ a ≤ κ x)) = [] := List.filter_eq_nil_iff.2 fun y _ => by simp only [Bool.and_eq_true, decide_eq_true_eq]; omega
      have e2 : s.filter (fun a => decide (κ a = k) && decide (κ x < κ a)) = s.filter fun y => decide (κ y = k) := List.filter_congr fun y _ => by
        rw [Bool.eq_iff_iff]; simp only [Bool.and_eq_true, decide_eq_true_eq]; omega
      have hn : ¬ decide (κ x = k) = true := by simp only [decide_eq_true_eq]; omega
      rw [e1, e2, if_neg hn, if_neg hn]
      simp
theorem fold_sort : ∀ (l pre s : List α), SortOf κ pre s → SortOf κ (pre ++ l) (l.foldl (fun s x => insK κ x s) s)
  | [], pre, s, h => by rw [List.append_nil]; exact h
  | x :: l, pre, s, h => by
    have := fold_sort l (pre ++ [x]) _ (ins_sort h x)
    rw [List.append_assoc] at this
    exact this
theorem isort_sort (l : List α) : SortOf κ l (isort κ l) := by
  have h : SortOf κ ([] : List α) [] := ⟨List.Pairwise.nil, fun _ => rfl⟩
  exact fold_sort l [] [] h
theorem isort_eq {l s : List α} (h : SortOf κ l s) : isort κ l = s := (isort_sort l).uniq h
theorem isort_snoc (l : List α) (x : α) : isort κ (l ++ [x]) = insK κ x (isort κ l) := by
  rw [isort, List.foldl_append]; rfl
theorem isort_mem {l : List α} {x : α} : x ∈ isort κ l ↔ x ∈ l := ⟨mem_of_key fun k => (isort_sort l).key k, mem_of_key fun k => ((isort_sort l).key k).symm⟩
theorem filter_len : ∀ (s : List α) (x : α), (s.filter (fun y => decide (κ y ≤ κ x))).length + (s.filter (fun y => decide (κ x < κ y))).length = s.length
  | [], _ => rfl
  | a :: s, x => by
    have := filter_len s x
    rw [List.filter_cons, List.filter_cons]
    by_cases h : κ a ≤ κ x
    · rw [if_pos (by simpa using h), if_neg (by simp; omega)]
      simp only [List.length_cons]
      omega
    · rw [if_neg (by simpa using h), if_pos (by simp; omega)]
      simp only [List.length_cons]
      omega
theorem foldK_len : ∀ (l s : List α), (l.foldl (fun s x => insK κ x s) s).length = s.length + l.length
  | [], s => rfl
  | x :: l, s => by
    have := filter_len (κ := κ) s x
    rw [List.foldl_cons, foldK_len l, insK, List.length_append, List.length_cons, List.length_cons]
    omega
theorem isort_len (l : List α) : (isort κ l).length = l.length := by rw [isort, foldK_len]; simp
theorem isort_self {l : List α} (h : Srt κ l) : isort κ l = l := isort_eq ⟨h, fun _ => rfl⟩
theorem isort_app (a b : List α) : isort κ (isort κ a ++ isort κ b) = isort κ (a ++ b) :=
  isort_eq ⟨(isort_sort (a ++ b)).srt, fun k => by rw [(isort_sort (a ++ b)).key k, List.filter_append, List.filter_append, (isort_sort a).key k, (isort_sort b).key k]⟩
/-- Where one goes that is moved down past those that are greater. -/
theorem insK_split {u v : List α} {x : α} (hu : ∀ y ∈ u, κ y ≤ κ x) (hv : ∀ y ∈ v, κ x < κ y) : insK κ x (u ++ v) = u ++ x :: v := by
  rw [insK, List.filter_append, List.filter_append]
  have e1 : u.filter (fun y => decide (κ y ≤ κ x)) = u := List.filter_eq_self.2 fun y hy => by simpa using hu y hy
  have e2 : v.filter (fun y => decide (κ y ≤ κ x)) = [] := List.filter_eq_nil_iff.2 fun y hy => by have := hv y hy; simp; omega
  have e3 : u.filter (fun y => decide (κ x < κ y)) = [] := List.filter_eq_nil_iff.2 fun y hy => by have := hu y hy; simp; omega
  have e4 : v.filter (fun y => decide (κ x < κ y)) = v := List.filter_eq_self.2 fun y hy => by simpa using hv y hy
  rw [e1, e2, e3, e4]
  simp
theorem one_right {u v : List α} {y : α} (h : Srt κ (u ++ v)) (hu : ∀ x ∈ u, κ x ≤ κ y) (hv : ∀ x ∈ v, κ y < κ x) : isort κ (u ++ v ++ [y]) = u ++ y :: v := by
  rw [isort_snoc, isort_self h, insK_split hu hv]
theorem one_left {u v : List α} {x : α} (h : Srt κ (u ++ v)) (hu : ∀ y ∈ u, κ y < κ x) (hv : ∀ y ∈ v, κ x ≤ κ y) : isort κ (x :: (u ++ v)) = u ++ x :: v := by
  rw [Srt, List.pairwise_append] at h
  refine isort_eq ⟨?_, fun k => ?_⟩
  · rw [Srt, List.pairwise_append, List.pairwise_cons]
    refine ⟨h.1, ⟨fun y hy => hv y hy, h.2.1⟩, fun y hy z hz => ?_⟩
    have := hu y hy
    rcases List.mem_cons.1 hz with rfl | hz
    · omega
    · have := hv z hz; omega
  · rw [List.filter_append, List.filter_cons, List.filter_cons, List.filter_append]
    by_cases hk : κ x = k
    · have e1 : u.filter (fun y => decide (κ y = k)) = [] := List.filter_eq_nil_iff.2 fun y hy => by have := hu y hy; simp; omega
      rw [e1]
      simp
    · rw [if_neg (by simpa using hk), if_neg (by simpa using hk)]
theorem isort_cut {u1 u2 v1 v2 : List α} (hu : Srt κ (u1 ++ u2)) (hv : Srt κ (v1 ++ v2)) (h1 : ∀ u ∈ u1, ∀ v ∈ v2, κ u ≤ κ v) (h2 : ∀ v ∈ v1, ∀ u ∈ u2, κ v < κ u) :
    isort κ (u1 ++ u2 ++ (v1 ++ v2)) = isort κ (u1 ++ v1) ++ isort κ (u2 ++ v2) := by
  rw [Srt, List.pairwise_append] at hu hv
  refine isort_eq ⟨?_, fun k => ?_⟩
  · rw [Srt, List.pairwise_append]
    refine ⟨(isort_sort _).srt, (isort_sort _).srt, fun a ha b hb => ?_⟩
    rcases List.mem_append.1 (isort_mem.1 ha) with ha | ha <;> rcases List.mem_append.1 (isort_mem.1 hb) with hb | hb
    · exact hu.2.2 a ha b hb
    · exact h1 a ha b hb
    · have := h2 a ha b hb; omega
    · exact hv.2.2 a ha b hb
  · rw [List.filter_append, (isort_sort _).key k, (isort_sort _).key k]
    simp only [List.filter_append, List.append_assoc]
    congr 1
    rw [← List.append_assoc, ← List.append_assoc]
    congr 1
    by_cases hk : ∃ v ∈ v1, κ v = k
    · obtain ⟨v, hv1, hv2⟩ := hk
      have e : u2.filter (fun y => decide (κ y = k)) = [] := List.filter_eq_nil_iff.2 fun y hy => by have := h2 v hv1 y hy; simp; omega
      rw [e]; simp
    · have e : v1.filter (fun y => decide (κ y = k)) = [] := List.filter_eq_nil_iff.2 fun y hy => by
        simp only [decide_eq_true_eq]
        exact fun h => hk ⟨y, hy, h⟩
      rw [e]; simp
theorem isort_map {β : Type} (f : β → α) (l : List β) : (isort (fun b => κ (f b)) l).map f = isort κ (l.map f) := by
  refine (isort_eq ⟨?_, fun k => ?_⟩).symm
  · rw [Srt, List.pairwise_map]
    exact (isort_sort l).srt
  · have := (isort_sort (κ := fun b => κ (f b)) l).key k
    rw [List.filter_map, List.filter_map]
    exact congrArg (List.map f) this
/-- So many blocks, each sorted. -/
def blks (κ : α → Int) (bs : Nat) : Nat → List α → List α
  | 0, _ => []
  | t + 1, l => isort κ (l.take bs) ++ blks κ bs t (l.drop bs)
theorem blks_snoc (bs : Nat) : ∀ (t : Nat) (l : List α), blks κ bs (t + 1) l = blks κ bs t l ++ isort κ ((l.drop (bs * t)).take bs)
  | 0, l => by simp [blks]
  | t + 1, l => by
    rw [blks, blks_snoc bs t (l.drop bs), blks, List.append_assoc, List.drop_drop]
    congr 3
    rw [Nat.mul_succ]
    congr 2
    omega
theorem blks_len (bs : Nat) : ∀ (t : Nat) (l : List α), bs * t ≤ l.length → (blks κ bs t l).length = bs * t
  | 0, l, _ => by simp [blks]
  | t + 1, l, h => by
    rw [Nat.mul_succ] at h
    rw [blks, List.length_append, isort_len, blks_len bs t (l.drop bs) (by rw [List.length_drop]; omega), List.length_take, Nat.mul_succ]
    omega
/-- Blocks, and what is left, each sorted. -/
def allBlks (κ : α → Int) (bs : Nat) (l : List α) : List α := blks κ bs (l.length / bs) l ++ isort κ (l.drop (bs * (l.length / bs)))
theorem allBlks_cons {bs : Nat} (h0 : 0 < bs) {l : List α} (h : bs ≤ l.length) : allBlks κ bs l = isort κ (l.take bs) ++ allBlks κ bs (l.drop bs) := by
  have e : l.length / bs = (l.drop bs).length / bs + 1 := by rw [List.length_drop]; exact Nat.div_eq_sub_div h0 h
  rw [allBlks, e, blks, List.append_assoc, allBlks, List.drop_drop]
  congr 3
  rw [Nat.mul_succ]
  congr 1
  omega
theorem allBlks_small {bs : Nat} {l : List α} (h : l.length < bs) : allBlks κ bs l = isort κ l := by
  rw [allBlks, Nat.div_eq_of_lt h]
  simp [blks]
theorem allBlks_le {bs : Nat} (h0 : 0 < bs) {l : List α} (h : l.length ≤ bs) : allBlks κ bs l = isort κ l := by
  rcases Nat.lt_or_ge l.length bs with h1 | h1
  · exact allBlks_small h1
  · have e : l.length = bs := by omega
    rw [allBlks_cons h0 h1, List.take_of_length_le h, allBlks_small (by rw [List.length_drop]; omega), List.drop_eq_nil_of_le h]
    simp [isort]
theorem allBlks_len {bs : Nat} (l : List α) : (allBlks κ bs l).length = l.length := by
  have h := Nat.mul_div_le l.length bs
  rw [allBlks, List.length_append, blks_len bs _ l h, isort_len, List.length_drop]
  omega
theorem srt_take {l : List α} (h : Srt κ l) (n : Nat) : Srt κ (l.take n) := List.Pairwise.sublist (List.take_sublist _ _) h
theorem srt_drop {l : List α} (h : Srt κ l) (n : Nat) : Srt κ (l.drop n) := List.Pairwise.sublist (List.drop_sublist _ _) h
theorem srt_left {a b : List α} (h : Srt κ (a ++ b)) : Srt κ a := (List.pairwise_append.1 h).1
theorem srt_right {a b : List α} (h : Srt κ (a ++ b)) : Srt κ b := (List.pairwise_append.1 h).2.1
end
end Go.Proofs.Ytlhmchdfmjfmgaa

/- Two of a row that change places: lists. -/
set_option maxRecDepth 4000
namespace Go.Proofs.Ytlhmchdfmjfmgaa
open Go Go.Proofs.Ytlhmchdfmjfmgaa.R
section
variable {α : Type}
theorem far_get1 (X Y Z : List α) (x y : α) : (X ++ x :: (Y ++ y :: Z))[X.length]? = some x := by simp
theorem far_get2 (X Y Z : List α) (x y : α) : (X ++ x :: (Y ++ y :: Z))[X.length + 1 + Y.length]? = some y := by
  rw [List.getElem?_append_right (by omega), show X.length + 1 + Y.length - X.length = Y.length + 1 by omega, List.getElem?_cons_succ]
  simp
theorem set_at (X Z : List α) (x y : α) : (X ++ x :: Z).set X.length y = X ++ y :: Z := by
  rw [List.set_append_right _ _ (Nat.le_refl _), Nat.sub_self, List.set_cons_zero]
theorem far_set (X Y Z : List α) (x y : α) : ((X ++ x :: (Y ++ y :: Z)).set X.length y).set (X.length + 1 + Y.length) x = X ++ y :: (Y ++ x :: Z) := by
  rw [set_at]
  have e : X ++ y :: (Y ++ y :: Z) = (X ++ y :: Y) ++ y :: Z := by simp
  have el : X.length + 1 + Y.length = (X ++ y :: Y).length := by simp; omega
  rw [e, el, set_at]
  simp
theorem far_set2 (X Y Z : List α) (x y : α) : ((X ++ x :: (Y ++ y :: Z)).set (X.length + 1 + Y.length) x).set X.length y = X ++ y :: (Y ++ x :: Z) := by
  have e : X ++ x :: (Y ++ y :: Z) = (X ++ x :: Y) ++ y :: Z := by simp
  have el : X.length + 1 + Y.length = (X ++ x :: Y).length := by simp; omega
  rw [e, el, set_at]
  have e2 : (X ++ x :: Y) ++ x :: Z = X ++ x :: (Y ++ x :: Z) := by simp
  rw [e2, set_at]
theorem near_set (X Z : List α) (x y : α) : ((X ++ x :: y :: Z).set X.length y).set (X.length + 1) x = X ++ y :: x :: Z := by
  simp
theorem near_set2 (X Z : List α) (x y : α) : ((X ++ x :: y :: Z).set (X.length + 1) x).set X.length y = X ++ y :: x :: Z := by
  simp
theorem split_at (l : List α) {i : Nat} (h : i < l.length) : l = l.take i ++ l[i] :: l.drop (i + 1) := by
  rw [← List.drop_eq_getElem_cons h, List.take_append_drop]
end
end Go.Proofs.Ytlhmchdfmjfmgaa

/- The library's stable sort, of an own row of keys: its parts. -/
set_option maxRecDepth 4000
namespace Go.Proofs.Ytlhmchdfmjfmgaa
open Go Go.Proofs.Ytlhmchdfmjfmgaa.R
/-- A key: a node, and its number. -/
def KR (e : List T) : Prop := ∃ (n : Node) (k : Int), e = n.t ++ [.i k]
def κr (e : List T) : Int := match e[10]? with
  | some (T.v (.int _ k)) => k
  | _ => 0
theorem κr_at (n : Node) (k : Int) : κr (n.t ++ [.i k]) = k := by
  rw [κr]
  simp [Node.t]
theorem KR.len {e : List T} (h : KR e) : e.length = 11 := by
  obtain ⟨n, k, rfl⟩ := h
  simp [Node.t]
def cmpI (a b : Int) : Int := if a < b then -1 else if b < a then 1 else 0
theorem cmpI_neg (a b : Int) : cmpI a b < 0 ↔ a < b := by
  unfold cmpI
  split
  · omega
  · split <;> omega
theorem nan_pure (a : Int) : Pure P 112 [.i a] (.b false) := by
  refine pure_of Try.func112 rfl rfl (by simp [Try.f112]) (by simp [bnd, bnd.bndL]) (by simp [bnd, bnd.bndL]) fun B hB hnx => ?_
  simp only [Try.f112] at hB ⊢
  refine K_run hB 100 ?_
  simp [go_sem]
theorem cmp_pure (a b : Int) : Pure P 83 [.i a, .i b] (.i (cmpI a b)) := by
  generalize hR : cmpI a b = R
  refine pure_of Try.func83 rfl rfl (by simp [Try.f83]) (by simp [bnd, bnd.bndL]) (by simp [bnd, bnd.bndL]) fun B hB hnx => ?_
  simp only [Try.f83] at hB ⊢
  rw [cmpI] at hR
  refine K_run hB 100 ?_
  simp [go_sem]
  refine K_call rfl rfl rfl (args := [.i a]) (f := 112) (by simp [go_sem]) (by simp [go_sem, hB]) ((nan_pure a).spec _ _) ?_
  refine K_run hB 100 ?_
  simp [go_sem]
  refine K_call rfl rfl rfl (args := [.i b]) (f := 112) (by simp [go_sem]) (by simp [go_sem, hB]) ((nan_pure b).spec _ _) ?_
  by_cases c1 : a < b
  · rw [if_pos c1] at hR
    subst hR
    refine K_run hB 100 ?_
    simp [go_sem, c1]
  · rw [if_neg c1] at hR
    by_cases c2 : b < a
    · rw [if_pos c2] at hR
      subst hR
      refine K_run hB 100 ?_
      simp [go_sem, c1, c2]
    · rw [if_neg c2] at hR
      subst hR
      refine K_run hB 100 ?_
      simp [go_sem, c1, c2]
theorem keyCmp_pure (a b : List T) (ha : KR a) (hb : KR b) : Pure P 82 [.agg (a.map .t), .agg (b.map .t)] (.i (cmpI (κr a) (κr b))) := by
  obtain ⟨n, k, rfl⟩ := ha
  obtain ⟨m, j, rfl⟩ := hb
  rw [κr_at, κr_at]
  have hc := cmp_pure k j
  refine pure_of Try.func82 rfl rfl (by simp [Try.f82]) (by simp [bnd, bnd.bndL, Node.t]) (by simp [bnd, bnd.bndL]) fun B hB hnx => ?_
  simp only [Try.f82] at hB ⊢
  refine K_run hB 100 ?_
  simp [go_sem, Node.t]
  refine K_call rfl rfl rfl (args := [.i k, .i j]) (f := 83) (by simp [go_sem]) (by simp [go_sem, hB]) ((hc).spec _ _) ?_
  refine K_run hB 100 ?_
  simp [go_sem]
abbrev cmpF : AV := .fn (.func 82) [] []
/-- Two elements of a row: what is known where they change places. -/
structure Two (S : List (List T)) (u v : Nat) (x y : List T) : Prop where
  hu : u < S.length
  hv : v < S.length
  gu : ∀ h : u < S.length, S[u]'h = x
  gv : ∀ h : v < S.length, S[v]'h = y
  lx : x.length = 11
  ly : y.length = 11
theorem two_far {X Y Z : List (List T)} {x y : List T} (hx : x.length = 11) (hy : y.length = 11) : Two (X ++ x :: (Y ++ y :: Z)) X.length (X.length + 1 + Y.length) x y := by
  have h1 := far_get1 X Y Z x y
  have h2 := far_get2 X Y Z x y
  have l1 : X.length < (X ++ x :: (Y ++ y :: Z)).length := by simp
  have l2 : X.length + 1 + Y.length < (X ++ x :: (Y ++ y :: Z)).length := by simp; omega
  refine ⟨l1, l2, fun h => ?_, fun h => ?_, hx, hy⟩
  · rw [List.getElem?_eq_getElem h] at h1
    exact Option.some.inj h1
  · rw [List.getElem?_eq_getElem h] at h2
    exact Option.some.inj h2
theorem take11 {e : List T} (h : e.length = 11) : List.take 11 (List.map AV.t e) = List.map AV.t e := List.take_of_length_le (by rw [List.length_map]; omega)
theorem swapRange_spec (pre A M C post : List (List T)) (hAC : A.length = C.length) (hL : ∀ e ∈ pre ++ (A ++ (M ++ (C ++ post))), e.length = 11) (hbig : (pre ++ (A ++ (M ++ (C ++ post)))).length < 2 ^ 31) {σ : Nat → AObj} {nx q : Nat} (hq : q < nx) (hσq : σ q = .arr 11 (pre ++ (A ++ (M ++ (C ++ post))))) :
    CallSpec P 169 [.ref q, .i pre.length, .i (pre.length + A.length + M.length : Nat), .i A.length, cmpF] σ nx (.tup []) (oput σ q (.arr 11 (pre ++ (C ++ (M ++ (A ++ post)))))) nx := by
  refine spec_down Try.func169 rfl rfl (by simp [Try.f169]) hq (by simp [bndO]) (by simp [bnd, bnd.bndL]) fun hk B hB hnx hσ => ?_
  simp only [Try.f169] at hB ⊢
  simp only [List.length_append] at hbig
  obtain ⟨F, hF⟩ : ∃ F : Nat → List (List T), F = fun i => pre ++ ((C.take i ++ A.drop i) ++ (M ++ ((A.take i ++ C.drop i) ++ post))) := ⟨_, rfl⟩
  have hF0 : σ = oput σ q (.arr 11 (F 0)) := by
    have : F 0 = pre ++ (A ++ (M ++ (C ++ post))) := by rw [hF]; simp
    rw [this, ← hσq, oput_self rfl]
  have hFn : F A.length = pre ++ (C ++ (M ++ (A ++ post))) := by
    rw [hF]
    simp only
    rw [List.take_of_length_le (by omega : C.length ≤ A.length), List.drop_eq_nil_of_le (Nat.le_refl A.length), List.take_length, List.drop_eq_nil_of_le (by omega : C.length ≤ A.length)]
    simp
  have hFlen : ∀ i, (F i).length = pre.length + (A.length + (M.length + (C.length + post.length))) := fun i => by
    rw [hF]
    simp only [List.length_append, List.length_take, List.length_drop]
    omega
  refine K_run hB 100 ?_
  simp [go_sem]
  refine K_loopP (α := Nat) (fun i => i ≤ A.length) (fun i => ⟨sl [(0, .ref q), (1, .i pre.length), (2, .i (pre.length + A.length + M.length : Nat)), (3, .i A.length), (10, .i i)], oput σ q (.arr 11 (F i)), nx⟩) (fun i => A.length - i) 0 (Nat.zero_le _) (Imp.slots (by simp [go_sem]) hF0.symm rfl) ?_
  intro i hi
  refine K_run hB 60 ?_
  simp [go_sem]
  refine fork_dec (fun h => ?_) (fun h => ?_)
  · have hc : i < C.length := by omega
    have hs1 : F i = (pre ++ C.take i) ++ A[i] :: ((A.drop (i + 1) ++ (M ++ A.take i)) ++ C[i] :: (C.drop (i + 1) ++ post)) := by
      rw [hF]
      simp only [List.append_assoc]
      rw [List.drop_eq_getElem_cons h, List.drop_eq_getElem_cons hc]
      simp only [List.cons_append, List.append_assoc]
    have hs2 : F (i + 1) = (pre ++ C.take i) ++ C[i] :: ((A.drop (i + 1) ++ (M ++ A.take i)) ++ A[i] :: (C.drop (i + 1) ++ post)) := by
      rw [hF]
      simp only [List.append_assoc]
      rw [List.take_succ_eq_append_getElem h, List.take_succ_eq_append_getElem hc]
      simp only [List.cons_append, List.append_assoc, List.nil_append]
    have hx : (A[i]).length = 11 := hL _ (by simp)
    have hy : (C[i]).length = 11 := hL _ (by simp)
    generalize A[i] = x at *
    generalize C[i] = y at *
    have htwo := two_far (X := pre ++ C.take i) (Y := A.drop (i + 1) ++ (M ++ A.take i)) (Z := C.drop (i + 1) ++ post) hx hy
    have hset := far_set (pre ++ C.take i) (A.drop (i + 1) ++ (M ++ A.take i)) (C.drop (i + 1) ++ post) x y
    rw [← hs1] at htwo hset
    rw [← hs2] at hset
    have e1 : (pre ++ C.take i).length = pre.length + i := by rw [List.length_append, List.length_take]; omega
    have e2 : (pre ++ C.take i).length + 1 + (A.drop (i + 1) ++ (M ++ A.take i)).length = pre.length + A.length + M.length + i := by
      simp only [List.length_append, List.length_take, List.length_drop]
      omega
    rw [e2, e1] at htwo hset
    obtain ⟨u, hu⟩ : ∃ u, u = pre.length + i := ⟨_, rfl⟩
    obtain ⟨v, hv⟩ : ∃ v, v = pre.length + A.length + M.length + i := ⟨_, rfl⟩
    rw [← hu, ← hv] at htwo hset
    have hne : ¬ u = v := by omega
    have hne' : ¬ v = u := by omega
    have w1 : IntKind.i64.wrap ((pre.length : Int) + i) = (u : Int) := by rw [w64 _ (by omega)]; omega
    have w2 : IntKind.i64.wrap ((pre.length : Int) + A.length + M.length + i) = (v : Int) := by rw [w64 _ (by omega)]; omega
    have hii : IntKind.i64.wrap ((i : Int) + 1) = ((i + 1 : Nat) : Int) := by rw [w64 ((i : Int) + 1) (by omega)]; rfl
    obtain ⟨t1, t2, t3, t4, t5, t6⟩ := htwo
    have d1 : u * 11 / 11 = u := by omega
    have d2 : u * 11 % 11 = 0 := by omega
    have d3 : v * 11 / 11 = v := by omega
    have d4 : v * 11 % 11 = 0 := by omega
    generalize F i = S at *
    generalize hS' : F (i + 1) = S' at *
    simp [go_sem, h]
    refine K_drawnF [21, 23] [4, 5, 6, 7] rfl (by rw [hB]; kernel_rfl) (by kernel_rfl) fun ht hf' => ?_
    have k1 := take11 t5
    have k2 := take11 t6
    have k3 : setCells x 0 y = y := setCells_all (by omega)
    have k4 : setCells y 0 x = x := setCells_all (by omega)
    refine K_run hB 100 ?_
    simp [go_sem, ht, hf', w1, w2, t1, t2, t3, t4, d1, d2, d3, d4, t5, t6, k1, k2, k3, k4, toTs_t, hne, hne', hii]
    refine Next.mk (i + 1) (by omega) (Imp.slots (by simp [go_sem]) ?_ rfl) (by omega)
    rw [hS', ← hset]
    funext j
    by_cases e : j = q <;> simp [oput, e]
  · have : i = A.length := by omega
    subst this
    rw [hFn]
    simp [go_sem]
    intro j h1 h2 h3
    exact absurd h3 h2
end Go.Proofs.Ytlhmchdfmjfmgaa

/- The library's stable sort: rotations, insertions. -/
set_option maxRecDepth 4000
namespace Go.Proofs.Ytlhmchdfmjfmgaa
open Go Go.Proofs.Ytlhmchdfmjfmgaa.R
theorem oput_twice (σ : Nat → AObj) (q : Nat) (a b : AObj) : oput (oput σ q a) q b = oput σ q b := by
  funext j
  by_cases e : j = q <;> simp [oput, e]
theorem rotate_spec (pre U V post : List (List T)) (hU : 0 < U.length) (hV : 0 < V.length) (hL : ∀ e ∈ pre ++ (U ++ (V ++ post)), e.length = 11) (hbig : (pre ++ (U ++ (V ++ post))).length < 2 ^ 31) {σ : Nat → AObj} {nx q : Nat} (hq : q < nx) (hσq : σ q = .arr 11 (pre ++ (U ++ (V ++ post)))) :
    CallSpec P 166 [.ref q, .i pre.length, .i (pre.length + U.length : Nat), .i (pre.length + U.length + V.length : Nat), cmpF] σ nx (.tup []) (oput σ q (.arr 11 (pre ++ (V ++ (U ++ post))))) nx := by
  refine spec_down Try.func166 rfl rfl (by simp [Try.f166]) hq (by simp [bndO]) (by simp [bnd, bnd.bndL]) fun hk B hB hnx hσ => ?_
  simp only [Try.f166] at hB ⊢
  simp only [List.length_append] at hbig
  have w1 : IntKind.i64.wrap ((pre.length : Int) + U.length - pre.length) = (U.length : Int) := by rw [w64 _ (by omega)]; omega
  have w2 : IntKind.i64.wrap ((pre.length : Int) + U.length + V.length - (pre.length + U.length)) = (V.length : Int) := by rw [w64 _ (by omega)]; omega
  have hσ0 : oput σ q (.arr 11 (pre ++ ([] ++ (U ++ (V ++ ([] ++ post)))))) = σ := by
    simp only [List.nil_append]
    rw [← hσq]
    exact oput_self rfl
  refine K_run hB 100 ?_
  simp [go_sem, w1, w2]
  refine K_loopP (α := List (List T) × List (List T) × List (List T) × List (List T)) (fun (V1, X, Y, U1) => 0 < X.length ∧ 0 < Y.length ∧ V1.length + X.length = U.length ∧ Y.length + U1.length = V.length ∧ V1 ++ (Y ++ (X ++ U1)) = V ++ U ∧ ∀ e ∈ pre ++ (V1 ++ (X ++ (Y ++ (U1 ++ post)))), e.length = 11)
    (fun (V1, X, Y, U1) => ⟨sl [(0, .ref q), (2, .i (pre.length + U.length : Nat)), (4, cmpF), (10, .i X.length), (11, .i Y.length)], oput σ q (.arr 11 (pre ++ (V1 ++ (X ++ (Y ++ (U1 ++ post)))))), nx⟩) (fun (V1, X, Y, U1) => X.length + Y.length) ([], U, V, []) ⟨hU, hV, by simp, by simp, by simp, by simpa using hL⟩ (Imp.slots (by simp [go_sem]) hσ0 rfl) ?_
  rintro ⟨V1, X, Y, U1⟩ ⟨g1, g2, g3, g4, g5, g6⟩
  have g7 : ∀ e, (e ∈ pre ∨ e ∈ V1 ∨ e ∈ X ∨ e ∈ Y ∨ e ∈ U1 ∨ e ∈ post) → e.length = 11 := by simpa using g6
  have hlV : (pre ++ V1).length = pre.length + V1.length := List.length_append
  have w3 : IntKind.i64.wrap ((pre.length : Int) + U.length - X.length) = (pre.length : Int) + V1.length := by rw [w64 _ (by omega)]; omega
  by_cases c : X.length = Y.length
  · have hs := swapRange_spec (pre ++ V1) X [] Y (U1 ++ post) c (by simpa using g6) (by simp only [List.length_append, List.length_nil]; omega) (σ := oput σ q (.arr 11 (pre ++ (V1 ++ (X ++ (Y ++ (U1 ++ post))))))) hq (by simp [oput])
    rw [oput_twice] at hs
    refine K_run hB 100 ?_
    simp [go_sem, c]
    refine K_call rfl rfl rfl (args := [.ref q, .i (pre ++ V1).length, .i ((pre ++ V1).length + X.length + ([] : List (List T)).length : Nat), .i X.length, cmpF]) (f := 169) (by simp [go_sem, ← c, w3]; omega) (by simp [go_sem, hB]) hs ?_
    refine K_run hB 100 ?_
    simp [go_sem]
    refine ⟨?_, fun j h1 h2 h3 => absurd h3 h2⟩
    have := congrArg (fun l => l ++ post) g5
    simpa only [List.append_assoc] using this
  · have c' : ¬ (X.length : Int) = Y.length := by omega
    by_cases c2 : Y.length < X.length
    · have l1 : (X.take Y.length).length = Y.length := by rw [List.length_take]; omega
      have l2 : (X.drop Y.length).length = X.length - Y.length := List.length_drop
      have hX : X.take Y.length ++ X.drop Y.length = X := List.take_append_drop _ _
      have e1 : pre ++ (V1 ++ (X ++ (Y ++ (U1 ++ post)))) = (pre ++ V1) ++ (X.take Y.length ++ (X.drop Y.length ++ (Y ++ (U1 ++ post)))) := by
        rw [← List.append_assoc (X.take Y.length), hX]; simp
      have hs := swapRange_spec (pre ++ V1) (X.take Y.length) (X.drop Y.length) Y (U1 ++ post) l1 (by rw [← e1]; exact g6) (by simp only [List.length_append]; omega) (σ := oput σ q (.arr 11 (pre ++ (V1 ++ (X ++ (Y ++ (U1 ++ post))))))) hq (by simp [oput, e1])
      rw [oput_twice] at hs
      have w4 : IntKind.i64.wrap ((X.length : Int) - Y.length) = ((X.drop Y.length).length : Int) := by rw [w64 _ (by omega), l2]; omega
      refine K_run hB 100 ?_
      simp [go_sem, c, c', c2]
      refine K_call rfl rfl rfl (args := [.ref q, .i (pre ++ V1).length, .i ((pre ++ V1).length + (X.take Y.length).length + (X.drop Y.length).length : Nat), .i (X.take Y.length).length, cmpF]) (f := 169) (by simp [go_sem, w3]; omega) (by simp [go_sem, hB]) hs ?_
      refine K_run hB 100 ?_
      simp [go_sem, w4]
      refine Next.mk (V1 ++ Y, X.drop Y.length, X.take Y.length, U1) ⟨by simp only; omega, by simp only; omega, by simp only [List.length_append]; omega, by simp only; omega, ?_, fun e he => g7 e ?_⟩ (Imp.slots (by simp [go_sem, l1]) (by simp only [List.append_assoc]) rfl) (by simp only; omega)
      · rw [← g5]
        simp only [List.append_assoc]
        rw [← List.append_assoc (X.take _), hX]
      · simp only [List.mem_append] at he
        rcases he with h | (h | h) | h | h | h | h
        · exact .inl h
        · exact .inr (.inl h)
        · exact .inr (.inr (.inr (.inl h)))
        · exact .inr (.inr (.inl (List.mem_of_mem_drop h)))
        · exact .inr (.inr (.inl (List.mem_of_mem_take h)))
        · exact .inr (.inr (.inr (.inr (.inl h))))
        · exact .inr (.inr (.inr (.inr (.inr h))))
    · have l1 : (Y.take (Y.length - X.length)).length = Y.length - X.length := by rw [List.length_take]; omega
      have l2 : (Y.drop (Y.length - X.length)).length = X.length := by rw [List.length_drop]; omega
      have hY : Y.take (Y.length - X.length) ++ Y.drop (Y.length - X.length) = Y := List.take_append_drop _ _
      have e1 : pre ++ (V1 ++ (X ++ (Y ++ (U1 ++ post)))) = (pre ++ V1) ++ (X ++ (Y.take (Y.length - X.length) ++ (Y.drop (Y.length - X.length) ++ (U1 ++ post)))) := by
        rw [← List.append_assoc (Y.take _), hY]; simp
      have hs := swapRange_spec (pre ++ V1) X (Y.take (Y.length - X.length)) (Y.drop (Y.length - X.length)) (U1 ++ post) l2.symm (by rw [← e1]; exact g6) (by simp only [List.length_append]; omega) (σ := oput σ q (.arr 11 (pre ++ (V1 ++ (X ++ (Y ++ (U1 ++ post))))))) hq (by simp [oput, e1])
      rw [oput_twice] at hs
      have w4 : IntKind.i64.wrap ((Y.length : Int) - X.length) = ((Y.take (Y.length - X.length)).length : Int) := by rw [w64 _ (by omega), l1]; omega
      have w5 : IntKind.i64.wrap ((pre.length : Int) + U.length + Y.length) = (pre.length : Int) + U.length + Y.length := w64 _ (by omega)
      have w6 : IntKind.i64.wrap ((pre.length : Int) + U.length + Y.length - X.length) = (pre.length : Int) + V1.length + Y.length := by rw [w64 _ (by omega)]; omega
      refine K_run hB 100 ?_
      simp [go_sem, c, c', c2]
      refine K_call rfl rfl rfl (args := [.ref q, .i (pre ++ V1).length, .i ((pre ++ V1).length + X.length + (Y.take (Y.length - X.length)).length : Nat), .i X.length, cmpF]) (f := 169) (by simp [go_sem, w3, w5, w6]; omega) (by simp [go_sem, hB]) hs ?_
      refine K_run hB 100 ?_
      simp [go_sem, w4]
      refine Next.mk (V1, Y.drop (Y.length - X.length), Y.take (Y.length - X.length), X ++ U1) ⟨by simp only; omega, by simp only; omega, by simp only; omega, by simp only [List.length_append]; omega, ?_, fun e he => g7 e ?_⟩ (Imp.slots (by simp [go_sem, l2]) (by simp only [List.append_assoc]) rfl) (by simp only; omega)
      · rw [← g5]
        simp only [List.append_assoc]
        rw [← List.append_assoc (Y.take _), hY]
      · simp only [List.mem_append] at he
        rcases he with h | h | h | h | (h | h) | h
        · exact .inl h
        · exact .inr (.inl h)
        · exact .inr (.inr (.inr (.inl (List.mem_of_mem_drop h))))
        · exact .inr (.inr (.inr (.inl (List.mem_of_mem_take h))))
        · exact .inr (.inr (.inl h))
        · exact .inr (.inr (.inr (.inr (.inl h))))
        · exact .inr (.inr (.inr (.inr (.inr h))))
theorem insert_spec (pre mid post : List (List T)) (hK : ∀ e ∈ mid, KR e) (hL : ∀ e ∈ pre ++ (mid ++ post), e.length = 11) (hbig : (pre ++ (mid ++ post)).length < 2 ^ 31) {σ : Nat → AObj} {nx q : Nat} (hq : q < nx) (hσq : σ q = .arr 11 (pre ++ (mid ++ post))) :
    CallSpec P 142 [.ref q, .i pre.length, .i (pre.length + mid.length : Nat), cmpF] σ nx (.tup []) (oput σ q (.arr 11 (pre ++ (isort κr mid ++ post)))) nx := by
  refine spec_down Try.func142 rfl rfl (by simp [Try.f142]) hq (by simp [bndO]) (by simp [bnd, bnd.bndL]) fun hk B hB hnx hσ => ?_
  simp only [Try.f142] at hB ⊢
  simp only [List.length_append] at hbig
  have w1 : IntKind.i64.wrap ((pre.length : Int) + 1) = ((pre.length + 1 : Nat) : Int) := by rw [w64 _ (by omega)]; omega
  have h1s : isort κr (mid.take 1) = mid.take 1 := by
    cases mid with
    | nil => rfl
    | cons x l => exact isort_self (List.pairwise_singleton _ _)
  have hσ0 : oput σ q (.arr 11 (pre ++ (isort κr (mid.take 1) ++ (mid.drop 1 ++ post)))) = σ := by
    rw [h1s, ← List.append_assoc (mid.take 1), List.take_append_drop, ← hσq]
    exact oput_self rfl
  refine K_run hB 100 ?_
  simp [go_sem, w1]
  refine K_loopP (α := Nat) (fun k => 1 ≤ k ∧ k ≤ mid.length + 1)
    (fun k => ⟨sl [(0, .ref q), (1, .i pre.length), (2, .i (pre.length + mid.length : Nat)), (3, cmpF), (8, .i (pre.length + k : Nat))], oput σ q (.arr 11 (pre ++ (isort κr (mid.take k) ++ (mid.drop k ++ post)))), nx⟩) (fun k => mid.length + 1 - k) 1 ⟨by omega, by omega⟩ (Imp.slots (by simp [go_sem]) hσ0 rfl) ?_
  rintro k ⟨g1, g2⟩
  by_cases hk : k < mid.length
  rotate_left
  · have hk' : ¬ ((pre.length : Int) + k < pre.length + mid.length) := by omega
    refine K_run hB 60 ?_
    simp [go_sem, hk']
    rw [List.take_of_length_le (by omega), List.drop_eq_nil_of_le (by omega)]
    simp only [List.nil_append]
    exact ⟨trivial, fun j h1 h2 h3 => absurd h3 h2⟩
  have hk' : (pre.length : Int) + k < pre.length + mid.length := by omega
  refine K_run hB 60 ?_
  simp [go_sem, hk']
  have hKx := hK mid[k] (List.getElem_mem hk)
  have htk : isort κr (mid.take (k + 1)) = insK κr mid[k] (isort κr (mid.take k)) := by rw [List.take_succ_eq_append_getElem hk, isort_snoc]
  have hdk := List.drop_eq_getElem_cons hk
  have hsl : (isort κr (mid.take k)).length = k := by rw [isort_len, List.length_take]; omega
  have hsK : ∀ e ∈ isort κr (mid.take k), KR e := fun e he => hK e (List.mem_of_mem_take (isort_mem.1 he))
  have hss := (isort_sort (κ := κr) (mid.take k)).srt
  have hii : IntKind.i64.wrap ((pre.length : Int) + k + 1) = (pre.length : Int) + (k + 1 : Nat) := by rw [w64 _ (by omega)]; omega
  rw [hdk]
  generalize mid[k] = x at *
  have hLx := hKx.len
  generalize isort κr (mid.take k) = s at *
  obtain ⟨Fl, hFl⟩ : ∃ Fl : List (List T) → List (List T) → List (List T), ∀ u v, Fl u v = pre ++ (u ++ x :: (v ++ (mid.drop (k + 1) ++ post))) := ⟨_, fun _ _ => rfl⟩
  refine K_loopP (α := List (List T) × List (List T)) (fun (u, v) => u ++ v = s ∧ ∀ e ∈ v, κr x < κr e)
    (fun (u, v) => ⟨sl [(0, .ref q), (1, .i pre.length), (2, .i (pre.length + mid.length : Nat)), (3, cmpF), (8, .i (pre.length + k : Nat)), (9, .i (pre.length + u.length : Nat))], oput σ q (.arr 11 (Fl u v)), nx⟩) (fun (u, v) => u.length) (s, []) ⟨List.append_nil _, fun e he => by cases he⟩ (Imp.slots (by simp [go_sem, hsl]) (by simp [hFl]) rfl) ?_
  rintro ⟨u, v⟩ ⟨i1, i2⟩
  have leave : (∀ e ∈ u, κr e ≤ κr x) → isort κr (mid.take (k + 1)) = u ++ x :: v := fun hu => by rw [htk, ← i1, insK_split hu i2]
  have hul : u.length ≤ k := by rw [← hsl, ← i1, List.length_append]; omega
  rcases List.eq_nil_or_concat u with rfl | ⟨u', y, rfl⟩
  · have hlv := leave (fun e he => by cases he)
    refine K_run hB 100 ?_
    simp [go_sem]
    refine K_drawn [] rfl (by rw [hB]; kernel_rfl) ?_
    refine K_run hB 100 ?_
    simp [go_sem, hii]
    exact Next.mk (k + 1) ⟨by omega, by omega⟩ (Imp.slots (by simp [go_sem]) (by rw [hlv]; simp [hFl]) rfl) (by omega)
  · rw [List.concat_eq_append] at *
    have hyK : KR y := hsK y (by rw [← i1]; simp)
    have hLy := hyK.len
    have hul' : u'.length + 1 ≤ k := by simpa using hul
    have hS : Fl (u' ++ [y]) v = (pre ++ u') ++ y :: x :: (v ++ (mid.drop (k + 1) ++ post)) := by simp [hFl]
    have hS' : Fl u' (y :: v) = (pre ++ u') ++ x :: y :: (v ++ (mid.drop (k + 1) ++ post)) := by simp [hFl]
    have htwo := two_far (X := pre ++ u') (Y := []) (Z := v ++ (mid.drop (k + 1) ++ post)) hLy hLx
    have hset := near_set2 (pre ++ u') (v ++ (mid.drop (k + 1) ++ post)) y x
    simp only [List.nil_append, List.length_nil, Nat.add_zero] at htwo
    rw [← hS] at htwo hset
    rw [← hS'] at hset
    obtain ⟨a, ha⟩ : ∃ a, a = (pre ++ u').length := ⟨_, rfl⟩
    have ha2 : a = pre.length + u'.length := by rw [ha, List.length_append]
    rw [← ha] at htwo hset
    obtain ⟨b, hb⟩ : ∃ b, b = a + 1 := ⟨_, rfl⟩
    rw [← hb] at htwo hset
    obtain ⟨t1, t2, t3, t4, t5, t6⟩ := htwo
    have hne : ¬ a = b := by omega
    have hne' : ¬ b = a := by omega
    have d1 : a * 11 / 11 = a := by omega
    have d2 : a * 11 % 11 = 0 := by omega
    have d3 : b * 11 / 11 = b := by omega
    have d4 : b * 11 % 11 = 0 := by omega
    have k1 := take11 t5
    have k2 := take11 t6
    have k3 : setCells x 0 y = y := setCells_all (by omega)
    have k4 : setCells y 0 x = x := setCells_all (by omega)
    have w3 : IntKind.i64.wrap ((b : Int) - 1) = (a : Int) := by rw [w64 _ (by omega)]; omega
    have w4 : (pre.length : Int) + (u'.length + 1) = (b : Int) := by omega
    have hcm := keyCmp_pure x y hKx hyK
    have hneg := cmpI_neg (κr x) (κr y)
    refine K_run hB 100 ?_
    simp [go_sem]
    generalize hSS : Fl (u' ++ [y]) v = S at *
    refine K_drawn [] rfl (by rw [hB]; kernel_rfl) ?_
    refine K_run hB 100 ?_
    simp [go_sem, t1, t2, t3, t4, d1, d2, d3, d4, t5, t6, k1, k2, w3, w4, show pre.length < b by omega, show (pre.length : Int) < (b : Int) by omega]
    refine K_dCallP rfl rfl rfl (args := [.agg (x.map .t), .agg (y.map .t)]) (f := 82) (by simp [go_sem]) (hcm) ?_
    by_cases c1 : κr x < κr y
    · refine K_run hB 100 ?_
      simp [go_sem, hneg, c1]
      refine K_drawnF [15, 17] [2, 3, 4] rfl (by rw [hB]; kernel_rfl) (by kernel_rfl) fun ht hf' => ?_
      refine K_run hB 100 ?_
      simp [go_sem, ht, hf', t1, t2, t3, t4, d1, d2, d3, d4, t5, t6, k1, k2, k3, k4, toTs_t, hne, hne', w3, w4]
      refine Next.mk (u', y :: v) ⟨by rw [← i1]; simp, fun e he => ?_⟩ (Imp.slots (by simp [go_sem, ha2]) ?_ rfl) (by simp)
      · rcases List.mem_cons.1 he with rfl | he
        · exact c1
        · exact i2 e he
      · rw [← hset]
        funext j
        by_cases e : j = q <;> simp [oput, e]
    · have hlv := leave fun e he => by
        have hyx : κr y ≤ κr x := by omega
        rcases List.mem_append.1 he with he | he
        · rw [← i1, Srt, List.pairwise_append, List.pairwise_append] at hss
          have := hss.1.2.2 e he y (by simp)
          omega
        · rw [List.mem_singleton.1 he]; exact hyx
      refine K_run hB 100 ?_
      simp [go_sem, hneg, c1, hii]
      refine Next.mk (k + 1) ⟨by omega, by omega⟩ (Imp.slots (by simp [go_sem]) ?_ rfl) (by omega)
      rw [← hSS, hFl, hlv]
      simp
end Go.Proofs.Ytlhmchdfmjfmgaa

/- The library's stable sort: two sorted parts become one. -/
set_option maxRecDepth 4000
namespace Go.Proofs.Ytlhmchdfmjfmgaa
open Go Go.Proofs.Ytlhmchdfmjfmgaa.R
theorem fdiv2 (t : Nat) : Int.fdiv (t : Int) 2 = ((t / 2 : Nat) : Int) := by
  rw [Int.fdiv_eq_ediv_of_nonneg _ (by omega)]
  omega
theorem get_row {S : List (List T)} {k : Nat} {y : List T} (h : S[k]? = some y) : k < S.length ∧ ∀ h : k < S.length, S[k]'h = y := by
  obtain ⟨h1, h2⟩ := List.getElem?_eq_some_iff.1 h
  exact ⟨h1, fun _ => h2⟩
theorem two_near {X Z : List (List T)} {x y : List T} (hx : x.length = 11) (hy : y.length = 11) : Two (X ++ x :: y :: Z) X.length (X.length + 1) x y := by
  have := two_far (X := X) (Y := []) (Z := Z) hx hy
  simpa using this
/-- What the two parts are. -/
structure Halves (pre U V post : List (List T)) (a m b : Nat) : Prop where
  ha : a = pre.length
  hm : m = a + U.length
  hb : b = m + V.length
  u0 : 0 < U.length
  v0 : 0 < V.length
  su : Srt κr U
  sv : Srt κr V
  kr : ∀ e ∈ U ++ V, KR e
  len : ∀ e ∈ pre ++ (U ++ (V ++ post)), e.length = 11
  big : (pre ++ (U ++ (V ++ post))).length < 2 ^ 31
abbrev symF : FuncId := 143
theorem symLeft_spec (pre U V post : List (List T)) (a m b : Nat) (hH : Halves pre U V post a m b) (hU1 : U.length = 1) : ∀ {σ : Nat → AObj} {nx q : Nat}, q < nx → σ q = .arr 11 (pre ++ (U ++ (V ++ post))) →
    CallSpec P symF [.ref q, .i a, .i m, .i b, cmpF] σ nx (.tup []) (oput σ q (.arr 11 (pre ++ (isort κr (U ++ V) ++ post)))) nx := by
  intro σ nx q hq hσq
  obtain ⟨ha, hm, hb, u0, v0, su, sv, kr, len, big⟩ := hH
  simp only [List.length_append] at big
  refine spec_down Try.func143 rfl rfl (by simp [Try.f143]) hq (by simp [bndO]) (by simp [bnd, bnd.bndL]) fun hk B hB hnx hσ => ?_
  simp only [Try.f143] at hB ⊢
  obtain ⟨S, hS⟩ : ∃ S, S = pre ++ (U ++ (V ++ post)) := ⟨_, rfl⟩
  have hSl : S.length = a + (U.length + (V.length + post.length)) := by rw [hS]; simp only [List.length_append]; omega
  have hσS : oput σ q (.arr 11 S) = σ := by rw [hS, ← hσq]; exact oput_self rfl
  have hSU : ∀ i (h : i < U.length), S[a + i]? = some U[i] := fun i h => by
    rw [hS, ha, List.getElem?_append_right (by omega), show pre.length + i - pre.length = i by omega, List.getElem?_append_left h, List.getElem?_eq_getElem h]
  have hSV : ∀ i (h : i < V.length), S[m + i]? = some V[i] := fun i h => by
    rw [hS, hm, ha, List.getElem?_append_right (by omega), show pre.length + U.length + i - pre.length = U.length + i by omega, List.getElem?_append_right (by omega), show U.length + i - U.length = i by omega, List.getElem?_append_left h, List.getElem?_eq_getElem h]
  have hlU : ∀ i (h : i < U.length), (U[i]).length = 11 := fun i h => len _ (by simp)
  have hlV : ∀ i (h : i < V.length), (V[i]).length = 11 := fun i h => len _ (by simp)
  obtain ⟨x, rfl⟩ : ∃ x, U = [x] := by
    match U, hU1 with
    | [x], _ => exact ⟨x, rfl⟩
  have w1 : IntKind.i64.wrap ((m : Int) - a) = 1 := by rw [w64 _ (by omega)]; omega
  have hSx := hSU 0 (by simp)
  simp only [Nat.add_zero, List.getElem_cons_zero] at hSx
  have hKx : KR x := kr x (by simp)
  have hxl := hKx.len
  refine K_run hB 100 ?_
  simp [go_sem, w1]
  refine K_loopP (α := Nat × Nat) (fun (i, j) => i ≤ j ∧ j ≤ V.length ∧ (∀ e ∈ V.take i, κr e < κr x) ∧ ∀ e ∈ V.drop j, κr x ≤ κr e) (fun (i, j) => ⟨sl [(0, .ref q), (1, .i a), (2, .i m), (3, .i b), (4, cmpF), (10, .i (m + i : Nat)), (11, .i (m + j : Nat))], oput σ q (.arr 11 S), nx⟩) (fun (i, j) => j - i) (0, V.length)
    ⟨Nat.zero_le _, Nat.le_refl _, by simp, by simp⟩ (Imp.slots (by simp [go_sem, hb]) hσS rfl) ?_
  rintro ⟨i, j⟩ ⟨i1, i2, i3, i4⟩
  by_cases c : i < j
  · obtain ⟨t, ht⟩ : ∃ t, t = m + i + (m + j) := ⟨_, rfl⟩
    obtain ⟨h', hh'⟩ : ∃ h', h' = (i + j) / 2 := ⟨_, rfl⟩
    obtain ⟨hh, hhh⟩ : ∃ hh, hh = m + h' := ⟨_, rfl⟩
    have wA : IntKind.i64.wrap ((m : Int) + i + (m + j)) = (t : Int) := by rw [w64 _ (by omega)]; omega
    have wB : IntKind.u64.wrap (t : Int) = t := u64 _ (by omega)
    have fd : Int.fdiv (t : Int) 2 = (hh : Int) := by rw [fdiv2]; omega
    have wC : IntKind.i64.wrap (hh : Int) = hh := w64 _ (by omega)
    have hV' : h' < V.length := by omega
    have hgh := hSV h' hV'
    rw [← hhh] at hgh
    have hKy : KR V[h'] := kr _ (by simp)
    have htk : ∀ e ∈ V.take (h' + 1), κr e ≤ κr V[h'] := fun e he => by
      rw [List.take_succ_eq_append_getElem hV'] at he
      have h2 := srt_take sv (h' + 1)
      rw [List.take_succ_eq_append_getElem hV', Srt, List.pairwise_append] at h2
      rcases List.mem_append.1 he with he | he
      · exact h2.2.2 e he _ (by simp)
      · rw [List.mem_singleton.1 he]; exact Int.le_refl _
    have hdk : ∀ e ∈ V.drop h', κr V[h'] ≤ κr e := fun e he => by
      rw [List.drop_eq_getElem_cons hV'] at he
      have h2 := srt_drop sv h'
      rw [List.drop_eq_getElem_cons hV', Srt, List.pairwise_cons] at h2
      rcases List.mem_cons.1 he with rfl | he
      · exact Int.le_refl _
      · exact h2.1 e he
    generalize V[h'] = y at *
    obtain ⟨y1, y2⟩ := get_row hgh
    obtain ⟨x1, x2⟩ := get_row hSx
    have hyl := hKy.len
    have k1 := take11 hyl
    have k2 := take11 hxl
    have d1 : hh * 11 / 11 = hh := by omega
    have d2 : hh * 11 % 11 = 0 := by omega
    have d3 : a * 11 / 11 = a := by omega
    have d4 : a * 11 % 11 = 0 := by omega
    have hcm := keyCmp_pure y x hKy hKx
    have hneg := cmpI_neg (κr y) (κr x)
    have wD : IntKind.i64.wrap ((hh : Int) + 1) = (m : Int) + (h' + 1 : Nat) := by rw [w64 _ (by omega)]; omega
    refine K_run hB 60 ?_
    simp [go_sem, c, wA, wB, fd, wC]
    refine K_drawn [] rfl (by rw [hB]; kernel_rfl) ?_
    refine K_run hB 100 ?_
    simp [go_sem, y1, y2, x1, x2, hyl, hxl, k1, k2, d1, d2, d3, d4]
    refine K_dCallP rfl rfl rfl (args := [.agg (y.map .t), .agg (x.map .t)]) (f := 82) (by simp [go_sem]) (hcm) ?_
    by_cases c2 : κr y < κr x
    · refine K_run hB 100 ?_
      simp [go_sem, hneg, c2, wD]
      exact Next.mk (h' + 1, j) ⟨by simp only; omega, i2, fun e he => by have := htk e he; omega, i4⟩ (Imp.slots (by simp [go_sem]) rfl rfl) (by simp only; omega)
    · refine K_run hB 100 ?_
      simp [go_sem, hneg, c2]
      exact Next.mk (i, h') ⟨by simp only; omega, by simp only; omega, i3, fun e he => by have := hdk e he; omega⟩ (Imp.slots (by simp [go_sem, hhh]) rfl rfl) (by simp only; omega)
  · have hij : i = j := by omega
    subst hij
    have hres : isort κr ([x] ++ V) = V.take i ++ x :: V.drop i := by
      have h2 : V = V.take i ++ V.drop i := (List.take_append_drop _ _).symm
      have := one_left (κ := κr) (u := V.take i) (v := V.drop i) (x := x) (by rw [← h2]; exact sv) i3 i4
      rw [← h2] at this
      exact this
    obtain ⟨Fl, hFl⟩ : ∃ Fl : Nat → List (List T), ∀ k, Fl k = pre ++ (V.take k ++ x :: (V.drop k ++ post)) := ⟨_, fun _ => rfl⟩
    have wE : IntKind.i64.wrap ((m : Int) + i - 1) = (a : Int) + i := by rw [w64 _ (by simp only [List.length_cons, List.length_nil] at hm; omega)]; simp only [List.length_cons, List.length_nil] at hm; omega
    refine K_run hB 60 ?_
    simp [go_sem, c]
    refine K_loopP (α := Nat) (fun k => k ≤ i) (fun k => ⟨sl [(0, .ref q), (1, .i a), (2, .i m), (3, .i b), (4, cmpF), (10, .i (m + i : Nat)), (13, .i (a + k : Nat))], oput σ q (.arr 11 (Fl k)), nx⟩) (fun k => i - k) 0 (Nat.zero_le _) (Imp.slots (by simp [go_sem]) (by rw [hFl, hS]; simp) rfl) ?_
    intro k hki
    by_cases c3 : k < i
    · have hkV : k < V.length := by omega
      have hs1 : Fl k = (pre ++ V.take k) ++ x :: V[k] :: (V.drop (k + 1) ++ post) := by
        rw [hFl, List.drop_eq_getElem_cons hkV]
        simp only [List.append_assoc, List.cons_append]
      have hs2 : Fl (k + 1) = (pre ++ V.take k) ++ V[k] :: x :: (V.drop (k + 1) ++ post) := by
        rw [hFl, List.take_succ_eq_append_getElem hkV]
        simp only [List.append_assoc, List.cons_append, List.nil_append]
      have hyl := hlV k hkV
      generalize V[k] = y at *
      have htwo := two_near (X := pre ++ V.take k) (Z := V.drop (k + 1) ++ post) hxl hyl
      have hset := near_set (pre ++ V.take k) (V.drop (k + 1) ++ post) x y
      rw [← hs1] at htwo hset
      rw [← hs2] at hset
      have e1 : (pre ++ V.take k).length = a + k := by rw [List.length_append, List.length_take]; omega
      rw [e1] at htwo hset
      obtain ⟨u, hu⟩ : ∃ u, u = a + k := ⟨_, rfl⟩
      obtain ⟨v, hv⟩ : ∃ v, v = u + 1 := ⟨_, rfl⟩
      rw [← hu, ← hv] at htwo hset
      obtain ⟨t1, t2, t3, t4, t5, t6⟩ := htwo
      have hne : ¬ u = v := by omega
      have hne' : ¬ v = u := by omega
      have d1 : u * 11 / 11 = u := by omega
      have d2 : u * 11 % 11 = 0 := by omega
      have d3 : v * 11 / 11 = v := by omega
      have d4 : v * 11 % 11 = 0 := by omega
      have k1 := take11 t5
      have k2 := take11 t6
      have k3 : setCells x 0 y = y := setCells_all (by omega)
      have k4 : setCells y 0 x = x := setCells_all (by omega)
      have w3 : (a : Int) + k = (u : Int) := by omega
      have w4 : IntKind.i64.wrap ((u : Int) + 1) = (v : Int) := by rw [w64 _ (by omega)]; omega
      have c3' : (u : Int) < (a : Int) + i := by omega
      generalize Fl k = S1 at *
      generalize hS' : Fl (k + 1) = S2 at *
      refine K_run hB 60 ?_
      simp [go_sem, w3, wE, c3']
      refine K_drawnF [15, 17] [2, 3, 4] rfl (by rw [hB]; kernel_rfl) (by kernel_rfl) fun ht hf' => ?_
      refine K_run hB 100 ?_
      simp [go_sem, ht, hf', w3, w4, t1, t2, t3, t4, d1, d2, d3, d4, t5, t6, k1, k2, k3, k4, toTs_t, hne, hne']
      refine Next.mk (k + 1) (by omega) (Imp.slots (by simp [go_sem, hv, hu]; omega) ?_ rfl) (by omega)
      rw [hS', ← hset]
      funext j
      by_cases e : j = q <;> simp [oput, e]
    · have hki' : k = i := by omega
      subst hki'
      refine K_run hB 60 ?_
      simp [go_sem, wE]
      rw [hFl]
      simp only [List.append_assoc, List.cons_append] at hres ⊢
      exact ⟨by rw [show isort κr (x :: V) = V.take k ++ x :: V.drop k from hres]; simp, fun j h1 h2 h3 => absurd h3 h2⟩
theorem symRight_spec (pre U V post : List (List T)) (a m b : Nat) (hH : Halves pre U V post a m b) (hU1 : ¬ U.length = 1) (hV1 : V.length = 1) : ∀ {σ : Nat → AObj} {nx q : Nat}, q < nx → σ q = .arr 11 (pre ++ (U ++ (V ++ post))) →
    CallSpec P symF [.ref q, .i a, .i m, .i b, cmpF] σ nx (.tup []) (oput σ q (.arr 11 (pre ++ (isort κr (U ++ V) ++ post)))) nx := by
  intro σ nx q hq hσq
  obtain ⟨ha, hm, hb, u0, v0, su, sv, kr, len, big⟩ := hH
  simp only [List.length_append] at big
  refine spec_down Try.func143 rfl rfl (by simp [Try.f143]) hq (by simp [bndO]) (by simp [bnd, bnd.bndL]) fun hk B hB hnx hσ => ?_
  simp only [Try.f143] at hB ⊢
  obtain ⟨S, hS⟩ : ∃ S, S = pre ++ (U ++ (V ++ post)) := ⟨_, rfl⟩
  have hSl : S.length = a + (U.length + (V.length + post.length)) := by rw [hS]; simp only [List.length_append]; omega
  have hσS : oput σ q (.arr 11 S) = σ := by rw [hS, ← hσq]; exact oput_self rfl
  have hSU : ∀ i (h : i < U.length), S[a + i]? = some U[i] := fun i h => by
    rw [hS, ha, List.getElem?_append_right (by omega), show pre.length + i - pre.length = i by omega, List.getElem?_append_left h, List.getElem?_eq_getElem h]
  have hSV : ∀ i (h : i < V.length), S[m + i]? = some V[i] := fun i h => by
    rw [hS, hm, ha, List.getElem?_append_right (by omega), show pre.length + U.length + i - pre.length = U.length + i by omega, List.getElem?_append_right (by omega), show U.length + i - U.length = i by omega, List.getElem?_append_left h, List.getElem?_eq_getElem h]
  have hlU : ∀ i (h : i < U.length), (U[i]).length = 11 := fun i h => len _ (by simp)
  have hlV : ∀ i (h : i < V.length), (V[i]).length = 11 := fun i h => len _ (by simp)
  have w1 : IntKind.i64.wrap ((m : Int) - a) = (U.length : Int) := by rw [w64 _ (by omega)]; omega
  have hU1' : ¬ (U.length : Int) = 1 := by omega
  obtain ⟨y, rfl⟩ : ∃ y, V = [y] := by
    match V, hV1 with
    | [y], _ => exact ⟨y, rfl⟩
  have w2 : IntKind.i64.wrap ((b : Int) - m) = 1 := by rw [w64 _ (by simp only [List.length_cons, List.length_nil] at hb; omega)]; simp only [List.length_cons, List.length_nil] at hb; omega
  have hSy := hSV 0 (by simp)
  simp only [Nat.add_zero, List.getElem_cons_zero] at hSy
  have hKy : KR y := kr y (by simp)
  have hyl := hKy.len
  refine K_run hB 100 ?_
  simp [go_sem, w1, hU1', hU1, w2]
  refine K_loopP (α := Nat × Nat) (fun (i, j) => i ≤ j ∧ j ≤ U.length ∧ (∀ e ∈ U.take i, κr e ≤ κr y) ∧ ∀ e ∈ U.drop j, κr y < κr e) (fun (i, j) => ⟨sl [(0, .ref q), (1, .i a), (2, .i m), (3, .i b), (4, cmpF), (14, .i (a + i : Nat)), (15, .i (a + j : Nat))], oput σ q (.arr 11 S), nx⟩) (fun (i, j) => j - i) (0, U.length)
    ⟨Nat.zero_le _, Nat.le_refl _, by simp, by simp⟩ (Imp.slots (by simp [go_sem, hm]) hσS rfl) ?_
  rintro ⟨i, j⟩ ⟨i1, i2, i3, i4⟩
  by_cases c : i < j
  · obtain ⟨t, ht⟩ : ∃ t, t = a + i + (a + j) := ⟨_, rfl⟩
    obtain ⟨h', hh'⟩ : ∃ h', h' = (i + j) / 2 := ⟨_, rfl⟩
    obtain ⟨hh, hhh⟩ : ∃ hh, hh = a + h' := ⟨_, rfl⟩
    have wA : IntKind.i64.wrap ((a : Int) + i + (a + j)) = (t : Int) := by rw [w64 _ (by omega)]; omega
    have wB : IntKind.u64.wrap (t : Int) = t := u64 _ (by omega)
    have fd : Int.fdiv (t : Int) 2 = (hh : Int) := by rw [fdiv2]; omega
    have wC : IntKind.i64.wrap (hh : Int) = hh := w64 _ (by omega)
    have hU' : h' < U.length := by omega
    have hgh := hSU h' hU'
    rw [← hhh] at hgh
    have hKx : KR U[h'] := kr _ (by simp)
    have htk : ∀ e ∈ U.take (h' + 1), κr e ≤ κr U[h'] := fun e he => by
      rw [List.take_succ_eq_append_getElem hU'] at he
      have h2 := srt_take su (h' + 1)
      rw [List.take_succ_eq_append_getElem hU', Srt, List.pairwise_append] at h2
      rcases List.mem_append.1 he with he | he
      · exact h2.2.2 e he _ (by simp)
      · rw [List.mem_singleton.1 he]; exact Int.le_refl _
    have hdk : ∀ e ∈ U.drop h', κr U[h'] ≤ κr e := fun e he => by
      rw [List.drop_eq_getElem_cons hU'] at he
      have h2 := srt_drop su h'
      rw [List.drop_eq_getElem_cons hU', Srt, List.pairwise_cons] at h2
      rcases List.mem_cons.1 he with rfl | he
      · exact Int.le_refl _
      · exact h2.1 e he
    generalize U[h'] = x at *
    obtain ⟨x1, x2⟩ := get_row hgh
    obtain ⟨y1, y2⟩ := get_row hSy
    have hxl := hKx.len
    have k1 := take11 hyl
    have k2 := take11 hxl
    have d1 : hh * 11 / 11 = hh := by omega
    have d2 : hh * 11 % 11 = 0 := by omega
    have d3 : m * 11 / 11 = m := by omega
    have d4 : m * 11 % 11 = 0 := by omega
    have hcm := keyCmp_pure y x hKy hKx
    have hneg := cmpI_neg (κr y) (κr x)
    have wD : IntKind.i64.wrap ((hh : Int) + 1) = (a : Int) + (h' + 1 : Nat) := by rw [w64 _ (by omega)]; omega
    refine K_run hB 60 ?_
    simp [go_sem, c, wA, wB, fd, wC]
    refine K_drawn [] rfl (by rw [hB]; kernel_rfl) ?_
    refine K_run hB 100 ?_
    simp [go_sem, y1, y2, x1, x2, hyl, hxl, k1, k2, d1, d2, d3, d4]
    refine K_dCallP rfl rfl rfl (args := [.agg (y.map .t), .agg (x.map .t)]) (f := 82) (by simp [go_sem]) (hcm) ?_
    by_cases c2 : κr y < κr x
    · refine K_run hB 100 ?_
      simp [go_sem, hneg, c2]
      exact Next.mk (i, h') ⟨by simp only; omega, by simp only; omega, i3, fun e he => by have := hdk e he; omega⟩ (Imp.slots (by simp [go_sem, hhh]) rfl rfl) (by simp only; omega)
    · refine K_run hB 100 ?_
      simp [go_sem, hneg, c2, wD]
      exact Next.mk (h' + 1, j) ⟨by simp only; omega, i2, fun e he => by have := htk e he; omega, i4⟩ (Imp.slots (by simp [go_sem]) rfl rfl) (by simp only; omega)
  · have hij : i = j := by omega
    subst hij
    have hres : isort κr (U ++ [y]) = U.take i ++ y :: U.drop i := by
      have h2 : U = U.take i ++ U.drop i := (List.take_append_drop _ _).symm
      have := one_right (κ := κr) (u := U.take i) (v := U.drop i) (y := y) (by rw [← h2]; exact su) i3 i4
      rw [← h2] at this
      exact this
    obtain ⟨Fl, hFl⟩ : ∃ Fl : Nat → List (List T), ∀ k, Fl k = pre ++ (U.take k ++ y :: (U.drop k ++ post)) := ⟨_, fun _ => rfl⟩
    refine K_run hB 60 ?_
    simp [go_sem, c]
    refine K_loopP (α := Nat) (fun k => i ≤ k ∧ k ≤ U.length) (fun k => ⟨sl [(0, .ref q), (1, .i a), (2, .i m), (3, .i b), (4, cmpF), (14, .i (a + i : Nat)), (17, .i (a + k : Nat))], oput σ q (.arr 11 (Fl k)), nx⟩) (fun k => k) U.length ⟨i2, Nat.le_refl _⟩ (Imp.slots (by simp [go_sem, hm]) (by rw [hFl, hS]; simp) rfl) ?_
    rintro k ⟨hki, hkU⟩
    by_cases c3 : i < k
    · obtain ⟨k, rfl⟩ : ∃ k', k = k' + 1 := ⟨k - 1, by omega⟩
      have hkU' : k < U.length := by omega
      have hs1 : Fl (k + 1) = (pre ++ U.take k) ++ U[k] :: y :: (U.drop (k + 1) ++ post) := by
        rw [hFl, List.take_succ_eq_append_getElem hkU']
        simp only [List.append_assoc, List.cons_append, List.nil_append]
      have hs2 : Fl k = (pre ++ U.take k) ++ y :: U[k] :: (U.drop (k + 1) ++ post) := by
        rw [hFl, List.drop_eq_getElem_cons hkU']
        simp only [List.append_assoc, List.cons_append]
      have hzl := hlU k hkU'
      generalize U[k] = z at *
      have htwo := two_near (X := pre ++ U.take k) (Z := U.drop (k + 1) ++ post) hzl hyl
      have hset := near_set2 (pre ++ U.take k) (U.drop (k + 1) ++ post) z y
      rw [← hs1] at htwo hset
      rw [← hs2] at hset
      have e1 : (pre ++ U.take k).length = a + k := by rw [List.length_append, List.length_take]; omega
      rw [e1] at htwo hset
      obtain ⟨u, hu⟩ : ∃ u, u = a + k := ⟨_, rfl⟩
      obtain ⟨v, hv⟩ : ∃ v, v = u + 1 := ⟨_, rfl⟩
      rw [← hu, ← hv] at htwo hset
      obtain ⟨t1, t2, t3, t4, t5, t6⟩ := htwo
      have hne : ¬ u = v := by omega
      have hne' : ¬ v = u := by omega
      have d1 : u * 11 / 11 = u := by omega
      have d2 : u * 11 % 11 = 0 := by omega
      have d3 : v * 11 / 11 = v := by omega
      have d4 : v * 11 % 11 = 0 := by omega
      have k1 := take11 t5
      have k2 := take11 t6
      have k3 : setCells z 0 y = y := setCells_all (by omega)
      have k4 : setCells y 0 z = z := setCells_all (by omega)
      have w3 : (a : Int) + (k + 1) = (v : Int) := by omega
      have w4 : IntKind.i64.wrap ((v : Int) - 1) = (u : Int) := by rw [w64 _ (by omega)]; omega
      have c3' : (a : Int) + i < (v : Int) := by omega
      generalize Fl (k + 1) = S1 at *
      generalize hS' : Fl k = S2 at *
      refine K_run hB 60 ?_
      simp [go_sem, w3, c3']
      refine K_drawnF [15, 17] [2, 3, 4] rfl (by rw [hB]; kernel_rfl) (by kernel_rfl) fun ht hf' => ?_
      refine K_run hB 100 ?_
      simp [go_sem, ht, hf', w3, w4, t1, t2, t3, t4, d1, d2, d3, d4, t5, t6, k1, k2, k3, k4, toTs_t, hne, hne']
      refine Next.mk k ⟨by omega, by omega⟩ (Imp.slots (by simp [go_sem, hu]) ?_ rfl) (by omega)
      rw [hS', ← hset]
      funext j
      by_cases e : j = q <;> simp [oput, e]
    · have hki' : k = i := by omega
      subst hki'
      refine K_run hB 60 ?_
      simp [go_sem]
      rw [hFl]
      exact ⟨by rw [hres]; simp, fun j h1 h2 h3 => absurd h3 h2⟩
end Go.Proofs.Ytlhmchdfmjfmgaa

/- The library's stable sort: two sorted parts become one, by the middle. -/
set_option maxRecDepth 4000
set_option maxHeartbeats 1000000
namespace Go.Proofs.Ytlhmchdfmjfmgaa
open Go Go.Proofs.Ytlhmchdfmjfmgaa.R
theorem merge2 {p X G : Prop} (h1 : p → X → G) (h2 : ¬ p → X → G) (h3 : X) : G := (Classical.em p).elim (fun h => h1 h h3) (fun h => h2 h h3)
theorem wr_add {x y z : Nat} (h : z = x + y) (hz : z < 9223372036854775808) : IntKind.i64.wrap ((x : Int) + y) = (z : Int) := by rw [w64 _ (by omega)]; omega
theorem wr_sub {x y z : Nat} (h : z + y = x) (hx : x < 9223372036854775808) : IntKind.i64.wrap ((x : Int) - y) = (z : Int) := by rw [w64 _ (by omega)]; omega
theorem wr_sub1 {x z : Nat} (h : z + 1 = x) (hx : x < 9223372036854775808) : IntKind.i64.wrap ((x : Int) - 1) = (z : Int) := by rw [w64 _ (by omega)]; omega
theorem wr_add1 {x : Nat} (hx : x + 1 < 9223372036854775808) : IntKind.i64.wrap ((x : Int) + 1) = ((x + 1 : Nat) : Int) := by rw [w64 _ (by omega)]; omega
theorem wr_u {x : Nat} (hx : x < 9223372036854775808) : IntKind.u64.wrap (x : Int) = (x : Int) := u64 _ (by omega)
theorem half_in {s r : Nat} (h : s < r) : s ≤ (s + r) / 2 ∧ (s + r) / 2 < r := by omega
theorem sym_ix {a m b n p lo0 r0 s r c ul vl : Nat} (ha1 : a ≤ lo0) (hr : r0 ≤ m) (h3 : m + r0 ≤ n) (h4 : n ≤ b + lo0) (hp : p + 1 = n) (hm : m = a + ul) (hb : b = m + vl) (i1 : lo0 ≤ s) (i3 : r ≤ r0) (h5 : s ≤ c) (h6 : c < r) :
    c - a < ul ∧ a + (c - a) = c ∧ p - c - m < vl ∧ m + (p - c - m) = p - c ∧ p - c + c = p ∧ c + 1 - 1 - a = c - a ∧ n - (c + 1) - m = p - c - m := by omega
theorem sym_cut {U V : List (List T)} {i e : Nat} (su : Srt κr U) (sv : Srt κr V)
    (h1 : i = 0 ∨ V.length ≤ e ∨ ∃ x y, 0 < i ∧ U[i - 1]? = some x ∧ V[e]? = some y ∧ κr x ≤ κr y)
    (h2 : e = 0 ∨ U.length ≤ i ∨ ∃ x y, 0 < e ∧ U[i]? = some x ∧ V[e - 1]? = some y ∧ κr y < κr x) :
    isort κr (U ++ V) = isort κr (U.take i ++ V.take e) ++ isort κr (U.drop i ++ V.drop e) := by
  have hlast : ∀ {L : List (List T)} {k : Nat} {x : List T}, Srt κr L → 0 < k → L[k - 1]? = some x → ∀ u ∈ L.take k, κr u ≤ κr x := fun {L k x} hs hk hx u hu => by
    obtain ⟨k, rfl⟩ : ∃ k', k = k' + 1 := ⟨k - 1, by omega⟩
    obtain ⟨g1, g2⟩ := List.getElem?_eq_some_iff.1 hx
    simp only [Nat.add_sub_cancel] at g1 g2
    have h5 := srt_take hs (k + 1)
    rw [List.take_succ_eq_append_getElem g1, g2] at hu h5
    rw [Srt, List.pairwise_append] at h5
    rcases List.mem_append.1 hu with hu | hu
    · exact h5.2.2 u hu x (by simp)
    · rw [List.mem_singleton.1 hu]; exact Int.le_refl _
  have hfirst : ∀ {L : List (List T)} {k : Nat} {x : List T}, Srt κr L → L[k]? = some x → ∀ u ∈ L.drop k, κr x ≤ κr u := fun {L k x} hs hx u hu => by
    obtain ⟨g1, g2⟩ := List.getElem?_eq_some_iff.1 hx
    have h5 := srt_drop hs k
    rw [List.drop_eq_getElem_cons g1, g2] at hu h5
    rw [Srt, List.pairwise_cons] at h5
    rcases List.mem_cons.1 hu with rfl | hu
    · exact Int.le_refl _
    · exact h5.1 u hu
  have := isort_cut (κ := κr) (u1 := U.take i) (u2 := U.drop i) (v1 := V.take e) (v2 := V.drop e) (by rw [List.take_append_drop]; exact su) (by rw [List.take_append_drop]; exact sv) ?_ ?_
  · rw [List.take_append_drop, List.take_append_drop] at this
    exact this
  · intro u hu v hv
    rcases h1 with rfl | h1 | ⟨x, y, h3, h4, h5, h6⟩
    · simp at hu
    · rw [List.drop_eq_nil_of_le h1] at hv; cases hv
    · have := hlast su h3 h4 u hu
      have := hfirst sv h5 v hv
      omega
  · intro v hv u hu
    rcases h2 with rfl | h2 | ⟨x, y, h3, h4, h5, h6⟩
    · simp at hv
    · rw [List.drop_eq_nil_of_le h2] at hu; cases hu
    · have := hlast sv h3 h5 v hv
      have := hfirst su h4 u hu
      omega
theorem symMerge_spec : ∀ (N : Nat) (pre U V post : List (List T)) (a m b : Nat), U.length + V.length ≤ N → Halves pre U V post a m b → ∀ {σ : Nat → AObj} {nx q : Nat}, q < nx → σ q = .arr 11 (pre ++ (U ++ (V ++ post))) →
    CallSpec P symF [.ref q, .i a, .i m, .i b, cmpF] σ nx (.tup []) (oput σ q (.arr 11 (pre ++ (isort κr (U ++ V) ++ post)))) nx := by
  intro N
  induction N with
  | zero =>
    intro pre U V post a m b hN hH
    have := hH.u0
    omega
  | succ N ih =>
  intro pre U V post a m b hN hH σ nx q hq hσq
  by_cases hU1 : U.length = 1
  · exact symLeft_spec pre U V post a m b hH hU1 hq hσq
  by_cases hV1 : V.length = 1
  · exact symRight_spec pre U V post a m b hH hU1 hV1 hq hσq
  have hH0 := hH
  obtain ⟨ha, hm, hb, u0, v0, su, sv, kr, len, big⟩ := hH
  simp only [List.length_append] at big
  refine spec_down Try.func143 rfl rfl (by simp [Try.f143]) hq (by simp [bndO]) (by simp [bnd, bnd.bndL]) fun hk B hB hnx hσ => ?_
  simp only [Try.f143] at hB ⊢
  obtain ⟨S, hS⟩ : ∃ S, S = pre ++ (U ++ (V ++ post)) := ⟨_, rfl⟩
  have hSl : S.length = a + (U.length + (V.length + post.length)) := by rw [hS]; simp only [List.length_append]; omega
  have hσS : oput σ q (.arr 11 S) = σ := by rw [hS, ← hσq]; exact oput_self rfl
  have hSU : ∀ i (h : i < U.length), S[a + i]? = some U[i] := fun i h => by
    rw [hS, ha, List.getElem?_append_right (by omega), show pre.length + i - pre.length = i by omega, List.getElem?_append_left h, List.getElem?_eq_getElem h]
  have hSV : ∀ i (h : i < V.length), S[m + i]? = some V[i] := fun i h => by
    rw [hS, hm, ha, List.getElem?_append_right (by omega), show pre.length + U.length + i - pre.length = U.length + i by omega, List.getElem?_append_right (by omega), show U.length + i - U.length = i by omega, List.getElem?_append_left h, List.getElem?_eq_getElem h]
  have hlU : ∀ i (h : i < U.length), (U[i]).length = 11 := fun i h => len _ (by simp)
  have hlV : ∀ i (h : i < V.length), (V[i]).length = 11 := fun i h => len _ (by simp)
  have hb31 : b < 2147483648 := by omega
  have u2 : 2 ≤ U.length := by omega
  have v2 : 2 ≤ V.length := by omega
  have hpost : post.length < 2147483648 := by omega
  have htot : a + (U.length + (V.length + post.length)) < 2147483648 := by omega
  clear big hk hnx hσ
  obtain ⟨t, ht⟩ : ∃ t, t = a + b := ⟨_, rfl⟩
  obtain ⟨mid, hmid⟩ : ∃ mid, mid = t / 2 := ⟨_, rfl⟩
  obtain ⟨n, hn⟩ : ∃ n, n = mid + m := ⟨_, rfl⟩
  obtain ⟨p, hp⟩ : ∃ p, p + 1 = n := ⟨n - 1, by omega⟩
  have w1 : IntKind.i64.wrap ((m : Int) - a) = (U.length : Int) := wr_sub (by omega) (by omega)
  have w2 : IntKind.i64.wrap ((b : Int) - m) = (V.length : Int) := wr_sub (by omega) (by omega)
  have wA : IntKind.i64.wrap ((a : Int) + b) = (t : Int) := wr_add ht (by omega)
  have wB : IntKind.u64.wrap (t : Int) = t := wr_u (by omega)
  have fd : Int.fdiv (t : Int) 2 = (mid : Int) := by rw [fdiv2, hmid]
  have wC : IntKind.i64.wrap (mid : Int) = mid := w64n _ (by omega)
  have wN : IntKind.i64.wrap ((mid : Int) + m) = (n : Int) := wr_add hn (by omega)
  have wP : IntKind.i64.wrap ((n : Int) - 1) = (p : Int) := wr_sub1 hp (by omega)
  have hU1' : ¬ (U.length : Int) = 1 := by omega
  have hV1' : ¬ (V.length : Int) = 1 := by omega
  have ham : a < mid := by omega
  have hmb : mid < b := by omega
  have hN2 : mid - a ≤ N ∧ b - mid ≤ N := by omega
  obtain ⟨lo0, r0, hlo, hbnd, hcs⟩ : ∃ lo0 r0 : Nat, lo0 ≤ r0 ∧ (a ≤ lo0 ∧ r0 ≤ m ∧ m + r0 ≤ n ∧ n ≤ b + lo0) ∧ ((mid < m ∧ lo0 + b = n ∧ r0 = mid) ∨ (¬ mid < m ∧ lo0 = a ∧ r0 = m)) := by
    by_cases cm : mid < m
    · exact ⟨n - b, mid, by omega, by omega, .inl ⟨cm, by omega, rfl⟩⟩
    · exact ⟨a, m, by omega, by omega, .inr ⟨cm, rfl, rfl⟩⟩
  obtain ⟨b1, b2, b3, b4⟩ := hbnd
  have w5 : mid < m → IntKind.i64.wrap ((n : Int) - b) = (lo0 : Int) := fun cm => wr_sub (by omega) (by omega)
  have hc1 : mid < m → r0 = mid := fun cm => by omega
  have hc2 : ¬ mid < m → lo0 = a ∧ r0 = m := fun cm => by omega
  have hS0 : lo0 = a ∨ n - lo0 = b := by omega
  have hR0 : r0 = m ∨ n - r0 = m := by omega
  apply merge2 (p := mid < m)
  · intro cm key
    have w5 := w5 cm
    refine K_run hB 100 ?_
    simp [go_sem, w1, hU1', w2, hV1', wA, wB, fd, wC, wN, cm, w5, wP]
    exact K_loopP (α := Nat × Nat) (fun (s, r) => lo0 ≤ s ∧ s ≤ r ∧ r ≤ r0 ∧ (s = lo0 ∨ (a < s ∧ ∃ x, U[s - 1 - a]? = some x ∧ ∃ y, V[n - s - m]? = some y ∧ κr x ≤ κr y)) ∧ (r = r0 ∨ (m < n - r ∧ ∃ x, U[r - a]? = some x ∧ ∃ y, V[p - r - m]? = some y ∧ κr y < κr x)))
      (fun (s, r) => ⟨sl [(0, .ref q), (1, .i a), (2, .i m), (3, .i b), (4, cmpF), (18, .i mid), (19, .i n), (20, .i s), (21, .i r), (22, .i p)], oput σ q (.arr 11 S), nx⟩) (fun (s, r) => r - s) (lo0, r0) ⟨Nat.le_refl _, hlo, Nat.le_refl _, .inl rfl, .inl rfl⟩ (Imp.slots (by simp [go_sem, hc1 cm]) hσS rfl) key
  · intro cm key
    refine K_run hB 100 ?_
    simp [go_sem, w1, hU1', w2, hV1', wA, wB, fd, wC, wN, cm, wP]
    exact K_loopP (α := Nat × Nat) (fun (s, r) => lo0 ≤ s ∧ s ≤ r ∧ r ≤ r0 ∧ (s = lo0 ∨ (a < s ∧ ∃ x, U[s - 1 - a]? = some x ∧ ∃ y, V[n - s - m]? = some y ∧ κr x ≤ κr y)) ∧ (r = r0 ∨ (m < n - r ∧ ∃ x, U[r - a]? = some x ∧ ∃ y, V[p - r - m]? = some y ∧ κr y < κr x)))
      (fun (s, r) => ⟨sl [(0, .ref q), (1, .i a), (2, .i m), (3, .i b), (4, cmpF), (18, .i mid), (19, .i n), (20, .i s), (21, .i r), (22, .i p)], oput σ q (.arr 11 S), nx⟩) (fun (s, r) => r - s) (lo0, r0) ⟨Nat.le_refl _, hlo, Nat.le_refl _, .inl rfl, .inl rfl⟩ (Imp.slots (by simp [go_sem, hc2 cm]) hσS rfl) key
  clear w1 w2 wA wB fd wC wN wP w5 hc1 hc2 hU1' hV1' hcs
  rintro ⟨s, r⟩ ⟨i1, i2, i3, i4, i5⟩
  by_cases c : s < r
  · obtain ⟨t2, ht2⟩ : ∃ t, t = s + r := ⟨_, rfl⟩
    obtain ⟨c', hc'⟩ : ∃ c', c' = t2 / 2 := ⟨_, rfl⟩
    obtain ⟨c1, c2⟩ := half_in c
    rw [← ht2, ← hc'] at c1 c2
    obtain ⟨j1, j2, j3, j4, j5, j6, j7⟩ := sym_ix b1 b2 b3 b4 hp hm hb i1 i3 c1 c2
    have hcb : c' < 2147483648 := by omega
    have hrb : t2 < 4294967296 := by omega
    have hpb : p < 4294967296 := by omega
    have wA2 : IntKind.i64.wrap ((s : Int) + r) = (t2 : Int) := wr_add ht2 (by omega)
    have wB2 : IntKind.u64.wrap (t2 : Int) = t2 := wr_u (by omega)
    have fd2 : Int.fdiv (t2 : Int) 2 = (c' : Int) := by rw [fdiv2, hc']
    have wC2 : IntKind.i64.wrap (c' : Int) = c' := w64n _ (by omega)
    have wE2 : IntKind.i64.wrap ((c' : Int) + 1) = ((c' + 1 : Nat) : Int) := wr_add1 (by omega)
    obtain ⟨d', hd'⟩ : ∃ d', d' = p - c' := ⟨_, rfl⟩
    have wD2 : IntKind.i64.wrap ((p : Int) - c') = (d' : Int) := wr_sub (by rw [hd']; exact j5) (by omega)
    have gx := hSU (c' - a) j1
    have gy : S[d']? = some (V[p - c' - m]'j3) := by
      have := hSV (p - c' - m) j3
      rw [j4] at this
      rw [hd']
      exact this
    have ux : U[c' - a]? = some U[c' - a] := List.getElem?_eq_getElem j1
    have vy : V[p - c' - m]? = some V[p - c' - m] := List.getElem?_eq_getElem j3
    rw [j2] at gx
    have hKx : KR U[c' - a] := kr _ (by simp)
    have hKy : KR V[p - c' - m] := kr _ (by simp)
    generalize U[c' - a]'j1 = x at *
    generalize V[p - c' - m]'j3 = y at *
    obtain ⟨x1, x2⟩ := get_row gx
    obtain ⟨y1, y2⟩ := get_row gy
    have hxl := hKx.len
    have hyl := hKy.len
    have k1 := take11 hyl
    have k2 := take11 hxl
    have d1 : c' * 11 / 11 = c' := by omega
    have d2 : c' * 11 % 11 = 0 := by omega
    have d3 : d' * 11 / 11 = d' := by omega
    have d4 : d' * 11 % 11 = 0 := by omega
    have hcm := keyCmp_pure y x hKy hKx
    have hneg := cmpI_neg (κr y) (κr x)
    have n1 : lo0 ≤ c' + 1 := by omega
    have n2 : c' ≤ r0 := by omega
    have n3 : a < c' + 1 := by omega
    have n4 : m < n - c' := by omega
    have n5 : r - (c' + 1) < r - s := by omega
    have n6 : c' - s < r - s := by omega
    refine K_run hB 60 ?_
    simp [go_sem, c, wA2, wB2, fd2, wC2]
    refine K_drawn [] rfl (by rw [hB]; kernel_rfl) ?_
    refine K_run hB 100 ?_
    simp [go_sem, wD2, x1, x2, y1, y2, hxl, hyl, k1, k2, d1, d2, d3, d4]
    refine K_dCallP rfl rfl rfl (args := [.agg (y.map .t), .agg (x.map .t)]) (f := 82) (by simp [go_sem]) (hcm) ?_
    by_cases c3 : κr y < κr x
    · refine K_run hB 100 ?_
      simp [go_sem, hneg, c3]
      exact Next.mk (s, c') ⟨i1, c1, n2, i4, .inr ⟨n4, x, ux, y, vy, c3⟩⟩ (Imp.slots (by simp [go_sem]) rfl rfl) n6
    · refine K_run hB 100 ?_
      simp [go_sem, hneg, c3, wE2]
      exact Next.mk (c' + 1, r) ⟨n1, c2, i3, .inr ⟨n3, x, by simp only [j6]; exact ux, y, by simp only [j7]; exact vy, Int.not_lt.1 c3⟩, i5⟩ (Imp.slots (by simp [go_sem]) rfl rfl) n5
  have hsr : s = r := by omega
  subst hsr
  clear c i2
  obtain ⟨e, he⟩ : ∃ e, e + s = n := ⟨n - s, by omega⟩
  have hme : m ≤ e ∧ e ≤ b := by omega
  have hsm : a ≤ s ∧ s ≤ m := by omega
  have hnb : n < 4294967296 := by omega
  have wS : IntKind.i64.wrap ((n : Int) - s) = (e : Int) := wr_sub he (by omega)
  have hmid2 : mid = s + (e - m) := by omega
  have hre : n - s - m = e - m := by omega
  have hrp : p - s - m = e - m - 1 := by omega
  have hcut : isort κr (U ++ V) = isort κr (U.take (s - a) ++ V.take (e - m)) ++ isort κr (U.drop (s - a) ++ V.drop (e - m)) := by
    refine sym_cut su sv ?_ ?_
    · rcases i4 with i4 | ⟨h1, x, h2, y, h3, h4⟩
      · rcases hS0 with h | h
        · exact .inl (by omega)
        · exact .inr (.inl (by omega))
      · rw [hre] at h3
        refine .inr (.inr ⟨x, y, by omega, ?_, h3, h4⟩)
        have : s - a - 1 = s - 1 - a := by omega
        rw [this]; exact h2
    · rcases i5 with i5 | ⟨h1, x, h2, y, h3, h4⟩
      · rcases hR0 with h | h
        · exact .inr (.inl (by omega))
        · exact .inl (by omega)
      · rw [hrp] at h3
        exact .inr (.inr ⟨x, y, by omega, h2, h3, h4⟩)
  clear i4 i5 hS0 hR0 hSU hSV hlU hlV hre hrp
  obtain ⟨U1, hU1d⟩ : ∃ U1, U1 = U.take (s - a) := ⟨_, rfl⟩
  obtain ⟨U2, hU2d⟩ : ∃ U2, U2 = U.drop (s - a) := ⟨_, rfl⟩
  obtain ⟨V1, hV1d⟩ : ∃ V1, V1 = V.take (e - m) := ⟨_, rfl⟩
  obtain ⟨V2, hV2d⟩ : ∃ V2, V2 = V.drop (e - m) := ⟨_, rfl⟩
  rw [← hU1d, ← hU2d, ← hV1d, ← hV2d] at hcut
  have lU1 : U1.length = s - a := by rw [hU1d, List.length_take]; omega
  have lU2 : U2.length = m - s := by rw [hU2d, List.length_drop]; omega
  have lV1 : V1.length = e - m := by rw [hV1d, List.length_take]; omega
  have lV2 : V2.length = b - e := by rw [hV2d, List.length_drop]; omega
  have hUU : U1 ++ U2 = U := by rw [hU1d, hU2d]; exact List.take_append_drop _ _
  have hVV : V1 ++ V2 = V := by rw [hV1d, hV2d]; exact List.take_append_drop _ _
  have sU1 : Srt κr U1 := by rw [hU1d]; exact srt_take su _
  have sU2 : Srt κr U2 := by rw [hU2d]; exact srt_drop su _
  have sV1 : Srt κr V1 := by rw [hV1d]; exact srt_take sv _
  have sV2 : Srt κr V2 := by rw [hV2d]; exact srt_drop sv _
  have hkr : ∀ x ∈ U1 ++ V1 ++ (U2 ++ V2), KR x := fun x hx => kr x (by
    rw [← hUU, ← hVV]
    simp only [List.mem_append] at hx ⊢
    rcases hx with (h | h) | h | h
    · exact .inl (.inl h)
    · exact .inr (.inl h)
    · exact .inl (.inr h)
    · exact .inr (.inr h))
  have hlen : ∀ x ∈ pre ++ (U1 ++ (U2 ++ (V1 ++ (V2 ++ post)))), x.length = 11 := fun x hx => len x (by
    rw [← hUU, ← hVV]
    simpa using hx)
  have hSS : S = pre ++ (U1 ++ (U2 ++ (V1 ++ (V2 ++ post)))) := by rw [hS, ← hUU, ← hVV]; simp
  obtain ⟨L1, hL1⟩ : ∃ L1, L1 = pre ++ (U1 ++ (V1 ++ (U2 ++ (V2 ++ post)))) := ⟨_, rfl⟩
  obtain ⟨L2, hL2⟩ : ∃ L2, L2 = pre ++ (isort κr (U1 ++ V1) ++ (U2 ++ (V2 ++ post))) := ⟨_, rfl⟩
  have hL3 : pre ++ (isort κr (U ++ V) ++ post) = pre ++ (isort κr (U1 ++ V1) ++ (isort κr (U2 ++ V2) ++ post)) := by rw [hcut, List.append_assoc]
  rw [hL3]
  have lpU : (pre ++ U1).length = s := by rw [List.length_append, lU1, ← ha]; omega
  have hrot := rotate_spec (pre ++ U1) U2 V1 (V2 ++ post)
  have hsk : ¬ (s < m ∧ m < e) → S = L1 := fun h => by
    rw [hSS, hL1]
    by_cases h1 : s < m
    · have : V1 = [] := List.eq_nil_of_length_eq_zero (by omega)
      rw [this]; simp
    · have : U2 = [] := List.eq_nil_of_length_eq_zero (by omega)
      rw [this]; simp
  apply merge2 (p := s < m ∧ m < e)
  · rintro ⟨c1, c2⟩
    have hrot := hrot (by rw [lU2]; omega) (by rw [lV1]; omega) (by simpa using hlen) (by simp only [List.length_append, lU1, lU2, lV1, lV2, ← ha]; omega) (σ := oput σ q (.arr 11 S)) hq (by simp [oput, hSS])
    rw [oput_twice, lpU, lU2, lV1, show s + (m - s) = m by omega, show m + (e - m) = e by omega] at hrot
    intro key
    refine K_run hB 60 ?_
    simp [go_sem, wS, c1, c2]
    refine K_call rfl rfl rfl (args := [.ref q, .i s, .i m, .i e, cmpF]) (f := 166) (by simp [go_sem]) (by simp [go_sem, hB]) hrot ?_
    refine K_run hB 1 ?_
    simp [go_sem]
    refine K_impC (t := ⟨sl [(0, .ref q), (1, .i a), (2, .i m), (3, .i b), (4, cmpF), (18, .i mid), (20, .i s), (24, .i e)], oput σ q (.arr 11 L1), nx⟩) (Imp.slots (by simp [go_sem]) (by rw [hL1]) rfl) ?_
    exact key
  · intro c1
    have hsk := hsk c1
    by_cases c2 : s < m
    · have c3 : ¬ m < e := fun h => c1 ⟨c2, h⟩
      intro key
      refine K_run hB 33 ?_
      simp [go_sem, wS, c2, c3]
      refine K_impC (t := ⟨sl [(0, .ref q), (1, .i a), (2, .i m), (3, .i b), (4, cmpF), (18, .i mid), (20, .i s), (24, .i e)], oput σ q (.arr 11 L1), nx⟩) (Imp.slots (by simp [go_sem]) (by rw [hsk]) rfl) ?_
      exact key
    · intro key
      refine K_run hB 30 ?_
      simp [go_sem, wS, c2]
      refine K_impC (t := ⟨sl [(0, .ref q), (1, .i a), (2, .i m), (3, .i b), (4, cmpF), (18, .i mid), (20, .i s), (24, .i e)], oput σ q (.arr 11 L1), nx⟩) (Imp.slots (by simp [go_sem]) (by rw [hsk]) rfl) ?_
      exact key
  clear hrot hsk
  have hleft : a < s → s < mid → CallSpec P symF [.ref q, .i a, .i s, .i mid, cmpF] (oput σ q (.arr 11 L1)) nx (.tup []) (oput σ q (.arr 11 L2)) nx := fun c1 c2 => by
    have := ih pre U1 V1 (U2 ++ (V2 ++ post)) a s mid (by omega) ⟨ha, by omega, by omega, by omega, by omega, sU1, sV1, fun x hx => hkr x (List.mem_append_left _ hx), fun x hx => hlen x (by
      simp only [List.mem_append] at hx ⊢
      rcases hx with h | h | h | h | h | h
      · exact .inl h
      · exact .inr (.inl h)
      · exact .inr (.inr (.inr (.inl h)))
      · exact .inr (.inr (.inl h))
      · exact .inr (.inr (.inr (.inr (.inl h))))
      · exact .inr (.inr (.inr (.inr (.inr h))))), by simp only [List.length_append, lU1, lU2, lV1, lV2, ← ha]; omega⟩ (σ := oput σ q (.arr 11 L1)) (nx := nx) hq (by simp [oput, hL1])
    rw [oput_twice, ← hL2] at this
    exact this
  have hleft0 : ¬ (a < s ∧ s < mid) → L1 = L2 := fun h => by
    have : isort κr (U1 ++ V1) = U1 ++ V1 := by
      by_cases h1 : a < s
      · have : V1 = [] := List.eq_nil_of_length_eq_zero (by omega)
        rw [this, List.append_nil]
        exact isort_self sU1
      · have : U1 = [] := List.eq_nil_of_length_eq_zero (by omega)
        rw [this, List.nil_append]
        exact isort_self sV1
    rw [hL1, hL2, this, List.append_assoc]
  have lp2 : (pre ++ isort κr (U1 ++ V1)).length = mid := by rw [List.length_append, isort_len, List.length_append, lU1, lV1, ← ha]; omega
  have hright : mid < e → e < b → CallSpec P symF [.ref q, .i mid, .i e, .i b, cmpF] (oput σ q (.arr 11 L2)) nx (.tup []) (oput σ q (.arr 11 (pre ++ (isort κr (U1 ++ V1) ++ (isort κr (U2 ++ V2) ++ post))))) nx := fun c1 c2 => by
    have := ih (pre ++ isort κr (U1 ++ V1)) U2 V2 post mid e b (by omega) ⟨lp2.symm, by omega, by omega, by omega, by omega, sU2, sV2, fun x hx => hkr x (List.mem_append_right _ hx), fun x hx => hlen x (by
      simp only [List.mem_append, isort_mem] at hx ⊢
      rcases hx with (h | h | h) | h | h | h
      · exact .inl h
      · exact .inr (.inl h)
      · exact .inr (.inr (.inr (.inl h)))
      · exact .inr (.inr (.inl h))
      · exact .inr (.inr (.inr (.inr (.inl h))))
      · exact .inr (.inr (.inr (.inr (.inr h))))), by rw [List.length_append, lp2]; simp only [List.length_append, lU2, lV2]; omega⟩ (σ := oput σ q (.arr 11 L2)) (nx := nx) hq (by simp [oput, hL2])
    rw [oput_twice, List.append_assoc] at this
    exact this
  have hright0 : ¬ (mid < e ∧ e < b) → L2 = pre ++ (isort κr (U1 ++ V1) ++ (isort κr (U2 ++ V2) ++ post)) := fun h => by
    have : isort κr (U2 ++ V2) = U2 ++ V2 := by
      by_cases h1 : mid < e
      · have : V2 = [] := List.eq_nil_of_length_eq_zero (by omega)
        rw [this, List.append_nil]
        exact isort_self sU2
      · have : U2 = [] := List.eq_nil_of_length_eq_zero (by omega)
        rw [this, List.nil_append]
        exact isort_self sV2
    rw [hL2, this, List.append_assoc]
  clear ih
  apply merge2 (p := a < s ∧ s < mid)
  · rintro ⟨c1, c2⟩
    have hleft := hleft c1 c2
    intro key
    refine K_run hB 60 ?_
    simp [go_sem, c1, c2]
    refine K_call rfl rfl rfl (args := [.ref q, .i a, .i s, .i mid, cmpF]) (f := 143) (by simp [go_sem]) (by simp [go_sem, hB]) hleft ?_
    refine K_run hB 1 ?_
    simp [go_sem]
    refine K_impC (t := ⟨sl [(0, .ref q), (3, .i b), (4, cmpF), (18, .i mid), (24, .i e)], oput σ q (.arr 11 L2), nx⟩) (Imp.slots (by simp [go_sem]) rfl rfl) ?_
    exact key
  · intro c1
    have hleft0 := hleft0 c1
    by_cases c2 : a < s
    · have c3 : ¬ s < mid := fun h => c1 ⟨c2, h⟩
      intro key
      refine K_run hB 17 ?_
      simp [go_sem, c2, c3]
      refine K_impC (t := ⟨sl [(0, .ref q), (3, .i b), (4, cmpF), (18, .i mid), (24, .i e)], oput σ q (.arr 11 L2), nx⟩) (Imp.slots (by simp [go_sem]) (by rw [hleft0]) rfl) ?_
      exact key
    · intro key
      refine K_run hB 14 ?_
      simp [go_sem, c2]
      refine K_impC (t := ⟨sl [(0, .ref q), (3, .i b), (4, cmpF), (18, .i mid), (24, .i e)], oput σ q (.arr 11 L2), nx⟩) (Imp.slots (by simp [go_sem]) (by rw [hleft0]) rfl) ?_
      exact key
  by_cases c1 : mid < e
  · by_cases c2 : e < b
    · have hright := hright c1 c2
      refine K_run hB 60 ?_
      simp [go_sem, c1, c2]
      refine K_call rfl rfl rfl (args := [.ref q, .i mid, .i e, .i b, cmpF]) (f := 143) (by simp [go_sem]) (by simp [go_sem, hB]) hright ?_
      refine K_run hB 100 ?_
      simp [go_sem]
      exact fun j h1 h2 h3 => absurd h3 h2
    · have hright0 := hright0 fun h => c2 h.2
      refine K_run hB 60 ?_
      simp [go_sem, c1, c2]
      rw [hright0]
      exact ⟨rfl, fun j h1 h2 h3 => absurd h3 h2⟩
  · have hright0 := hright0 fun h => c1 h.1
    refine K_run hB 60 ?_
    simp [go_sem, c1]
    rw [hright0]
    exact ⟨rfl, fun j h1 h2 h3 => absurd h3 h2⟩
end Go.Proofs.Ytlhmchdfmjfmgaa

/- The library's stable sort, whole. -/
set_option maxRecDepth 4000
set_option maxHeartbeats 1000000
namespace Go.Proofs.Ytlhmchdfmjfmgaa
open Go Go.Proofs.Ytlhmchdfmjfmgaa.R
theorem allBlks_at {α : Type} {κ : α → Int} {bs t : Nat} {l : List α} (h1 : bs * t ≤ l.length) (h2 : l.length < bs * t + bs) : allBlks κ bs l = blks κ bs t l ++ isort κ (l.drop (bs * t)) := by
  have : l.length / bs = t := Nat.div_eq_of_lt_le (by rw [Nat.mul_comm]; exact h1) (by rw [Nat.succ_mul, Nat.mul_comm]; exact h2)
  rw [allBlks, this]
theorem stable_spec (l : List (List T)) (hK : ∀ e ∈ l, KR e) (hbig : l.length < 2 ^ 31) {σ : Nat → AObj} {nx q : Nat} (hq : q < nx) (hσq : σ q = .arr 11 l) :
    CallSpec P 111 [.ref q, .i l.length, cmpF] σ nx (.tup []) (oput σ q (.arr 11 (isort κr l))) nx := by
  refine spec_down Try.func111 rfl rfl (by simp [Try.f111]) hq (by simp [bndO]) (by simp [bnd, bnd.bndL]) fun hk B hB hnx hσ => ?_
  simp only [Try.f111] at hB ⊢
  obtain ⟨n, hn⟩ : ∃ n, n = l.length := ⟨_, rfl⟩
  rw [← hn] at hbig ⊢
  have hL : ∀ e ∈ l, e.length = 11 := fun e he => (hK e he).len
  have hKi : ∀ (m : List (List T)), (∀ e ∈ m, e ∈ l) → ∀ e ∈ isort κr m, KR e := fun m hm e he => hK e (hm e (isort_mem.1 he))
  have hKb : ∀ (bs t : Nat) (m : List (List T)), (∀ e ∈ m, e ∈ l) → ∀ e ∈ blks κr bs t m, KR e := fun bs t => by
    induction t with
    | zero => intro m _ e he; cases he
    | succ t ih =>
      intro m hm e he
      rcases List.mem_append.1 he with he | he
      · exact hKi _ (fun x hx => hm x (List.mem_of_mem_take hx)) e he
      · exact ih _ (fun x hx => hm x (List.mem_of_mem_drop hx)) e he
  have hKa : ∀ (bs : Nat) (m : List (List T)), (∀ e ∈ m, e ∈ l) → ∀ e ∈ allBlks κr bs m, KR e := fun bs m hm e he => by
    rcases List.mem_append.1 he with he | he
    · exact hKb _ _ m hm e he
    · exact hKi _ (fun x hx => hm x (List.mem_of_mem_drop hx)) e he
  have hσ0 : oput σ q (.arr 11 (blks κr 20 0 l ++ l.drop (20 * 0))) = σ := by
    rw [show blks κr 20 0 l ++ l.drop (20 * 0) = l by simp [blks], ← hσq]
    exact oput_self rfl
  refine K_run hB 100 ?_
  simp [go_sem]
  refine K_loopP (α := Nat) (fun t => 20 * t ≤ n) (fun t => ⟨sl [(0, .ref q), (1, .i n), (2, cmpF), (6, .i 20), (7, .i (20 * t : Nat)), (8, .i (20 * t + 20 : Nat))], oput σ q (.arr 11 (blks κr 20 t l ++ l.drop (20 * t))), nx⟩) (fun t => n - t) 0 (Nat.zero_le _) (Imp.slots (by simp [go_sem]) hσ0 rfl) ?_
  intro t ht
  have hbl : (blks κr 20 t l).length = 20 * t := blks_len 20 t l (by omega)
  by_cases c1 : 20 * t + 20 ≤ n
  · have c1' : 20 * (t : Int) + 20 ≤ n := by omega
    have hml : ((l.drop (20 * t)).take 20).length = 20 := by rw [List.length_take, List.length_drop]; omega
    have hd : l.drop (20 * t) = (l.drop (20 * t)).take 20 ++ l.drop (20 * t + 20) := by
      rw [← List.drop_drop, List.take_append_drop]
    have hsp := insert_spec (blks κr 20 t l) ((l.drop (20 * t)).take 20) (l.drop (20 * t + 20)) (fun e he => hK e (List.mem_of_mem_drop (List.mem_of_mem_take he))) (fun e he => by
      rcases List.mem_append.1 he with he | he
      · exact (hKb 20 t l (fun _ h => h) e he).len
      · rw [← hd] at he
        exact hL e (List.mem_of_mem_drop he)) (by rw [← hd, List.length_append, hbl, List.length_drop]; omega) (σ := oput σ q (.arr 11 (blks κr 20 t l ++ l.drop (20 * t)))) (nx := nx) (q := q) hq (by simp only [oput, if_true]; rw [← hd])
    rw [hml, hbl, oput_twice, ← List.append_assoc, ← blks_snoc] at hsp
    have w1 : IntKind.i64.wrap (20 * (t : Int) + 20 + 20) = 20 * (t + 1 : Nat) + 20 := by rw [w64 _ (by omega)]; omega
    refine K_run hB 60 ?_
    simp [go_sem, c1']
    refine K_call rfl rfl rfl (args := [.ref q, .i (20 * t : Nat), .i (20 * t + 20 : Nat), cmpF]) (f := 142) (by simp [go_sem]) (by simp [go_sem, hB]) hsp ?_
    refine K_run hB 100 ?_
    simp [go_sem, w1]
    exact Next.mk (t + 1) (by omega) (Imp.slots (by simp [go_sem]; omega) rfl rfl) (by omega)
  have c1' : ¬ 20 * (t : Int) + 20 ≤ n := by omega
  have hsp := insert_spec (blks κr 20 t l) (l.drop (20 * t)) [] (fun e he => hK e (List.mem_of_mem_drop he)) (fun e he => by
    rw [List.append_nil] at he
    rcases List.mem_append.1 he with he | he
    · exact (hKb 20 t l (fun _ h => h) e he).len
    · exact hL e (List.mem_of_mem_drop he)) (by rw [List.append_nil, List.length_append, hbl, List.length_drop]; omega) (σ := oput σ q (.arr 11 (blks κr 20 t l ++ l.drop (20 * t)))) (nx := nx) (q := q) hq (by simp [oput])
  have hnn : 20 * t + (l.drop (20 * t)).length = n := by rw [List.length_drop]; omega
  rw [hbl, hnn, oput_twice, List.append_nil, ← allBlks_at (by omega) (by omega)] at hsp
  refine K_run hB 60 ?_
  simp [go_sem, c1']
  refine K_call rfl rfl rfl (args := [.ref q, .i (20 * t : Nat), .i n, cmpF]) (f := 142) (by simp [go_sem]) (by simp [go_sem, hB]) hsp ?_
  clear hsp hnn hbl c1 c1' ht
  refine K_run hB 100 ?_
  simp [go_sem]
  refine K_loopP (α := Nat) (fun bs => 20 ≤ bs ∧ bs < 2 ^ 32) (fun bs => ⟨sl [(0, .ref q), (1, .i n), (2, cmpF), (6, .i bs)], oput σ q (.arr 11 (allBlks κr bs l)), nx⟩) (fun bs => n - bs) 20 ⟨by omega, by omega⟩ (Imp.slots (by simp [go_sem]) rfl rfl) ?_
  rintro bs ⟨g1, g2⟩
  by_cases c2 : bs < n
  rotate_left
  · have e : allBlks κr bs l = isort κr l := allBlks_le (by omega) (by omega)
    refine K_run hB 60 ?_
    simp [go_sem, c2]
    rw [e]
    exact ⟨rfl, fun j h1 h2 h3 => absurd h3 h2⟩
  obtain ⟨b2, hb2⟩ : ∃ b2, b2 = 2 * bs := ⟨_, rfl⟩
  have w1 : IntKind.i64.wrap (2 * (bs : Int)) = b2 := by rw [w64 _ (by omega)]; omega
  have w1' : IntKind.i64.wrap ((bs : Int) * 2) = b2 := by rw [w64 _ (by omega)]; omega
  refine K_run hB 60 ?_
  simp [go_sem, c2, w1]
  refine K_loopP (α := Nat × Nat) (fun (s, a) => a = b2 * s ∧ a ≤ n) (fun (s, a) => ⟨sl [(0, .ref q), (1, .i n), (2, cmpF), (6, .i bs), (7, .i a), (8, .i (a + b2 : Nat))], oput σ q (.arr 11 (blks κr b2 s l ++ allBlks κr bs (l.drop a))), nx⟩) (fun (s, a) => n - a) (0, 0) ⟨by simp, Nat.zero_le _⟩ (Imp.slots (by simp [go_sem]) (by simp [blks]) rfl) ?_
  rintro ⟨s, a⟩ ⟨ha, han⟩
  have hbl : (blks κr b2 s l).length = a := by rw [blks_len b2 s l (by omega), ha]
  have hpart : ∀ e ∈ blks κr b2 s l, KR e := hKb b2 s l fun _ h => h
  have hdl : (l.drop a).length = n - a := by rw [List.length_drop]; omega
  have w2 : IntKind.i64.wrap ((a : Int) + bs) = ((a + bs : Nat) : Int) := by rw [w64 _ (by omega)]; omega
  by_cases c3 : a + b2 ≤ n
  · have c3' : (a : Int) + b2 ≤ n := by omega
    have e1 : allBlks κr bs (l.drop a) = isort κr ((l.drop a).take bs) ++ (isort κr (((l.drop a).drop bs).take bs) ++ allBlks κr bs (l.drop (a + b2))) := by
      rw [allBlks_cons (by omega) (by omega), allBlks_cons (by omega) (by rw [List.length_drop]; omega)]
      simp only [List.drop_drop]
      rw [show a + bs + bs = a + b2 by omega]
    have lu : (isort κr ((l.drop a).take bs)).length = bs := by rw [isort_len, List.length_take]; omega
    have lv : (isort κr (((l.drop a).drop bs).take bs)).length = bs := by rw [isort_len, List.length_take, List.length_drop]; omega
    have e2 : isort κr (isort κr ((l.drop a).take bs) ++ isort κr (((l.drop a).drop bs).take bs)) = isort κr ((l.drop a).take b2) := by
      rw [isort_app]
      congr 1
      rw [show b2 = bs + bs by omega, List.take_add]
    have hsp := symMerge_spec (bs + bs) (blks κr b2 s l) (isort κr ((l.drop a).take bs)) (isort κr (((l.drop a).drop bs).take bs)) (allBlks κr bs (l.drop (a + b2))) a (a + bs) (a + b2) (by omega)
      ⟨hbl.symm, by omega, by omega, by omega, by omega, (isort_sort _).srt, (isort_sort _).srt, fun e he => by
        rcases List.mem_append.1 he with he | he
        · exact hKi _ (fun x hx => List.mem_of_mem_drop (List.mem_of_mem_take hx)) e he
        · exact hKi _ (fun x hx => List.mem_of_mem_drop (List.mem_of_mem_drop (List.mem_of_mem_take hx))) e he, fun e he => by
        rw [← e1] at he
        rcases List.mem_append.1 he with he | he
        · exact (hpart e he).len
        · exact (hKa bs _ (fun x hx => List.mem_of_mem_drop hx) e he).len, by rw [← e1, List.length_append, hbl, allBlks_len, hdl]; omega⟩ (σ := oput σ q (.arr 11 (blks κr b2 s l ++ allBlks κr bs (l.drop a)))) (nx := nx) (q := q) hq (by simp only [oput, if_true]; rw [e1])
    rw [oput_twice, e2, ← List.append_assoc] at hsp
    have e3 : blks κr b2 s l ++ isort κr ((l.drop a).take b2) = blks κr b2 (s + 1) l := by rw [blks_snoc, ha]
    rw [e3] at hsp
    have w3 : IntKind.i64.wrap ((a : Int) + b2 + b2) = (a : Int) + b2 + b2 := w64 _ (by omega)
    refine K_run hB 60 ?_
    simp [go_sem, c3', w2]
    refine K_call rfl rfl rfl (args := [.ref q, .i a, .i (a + bs : Nat), .i (a + b2 : Nat), cmpF]) (f := 143) (by simp [go_sem]) (by simp [go_sem, hB]) hsp ?_
    refine K_run hB 100 ?_
    simp [go_sem, w1, w3]
    exact Next.mk (s + 1, a + b2) ⟨by simp only [ha, Nat.mul_succ], by simp only; omega⟩ (Imp.slots (by simp [go_sem]) rfl rfl) (by simp only; omega)
  have c3' : ¬ (a : Int) + b2 ≤ n := by omega
  have hfin : allBlks κr b2 l = blks κr b2 s l ++ isort κr (l.drop a) := by rw [allBlks_at (t := s) (by omega) (by omega), ha]
  by_cases c4 : a + bs < n
  · have c4' : (a : Int) + bs < n := by omega
    have e1 : allBlks κr bs (l.drop a) = isort κr ((l.drop a).take bs) ++ (isort κr ((l.drop a).drop bs) ++ []) := by
      rw [allBlks_cons (by omega) (by omega), allBlks_small (by rw [List.length_drop]; omega), List.append_nil]
    have lu : (isort κr ((l.drop a).take bs)).length = bs := by rw [isort_len, List.length_take]; omega
    have lv : (isort κr ((l.drop a).drop bs)).length = n - a - bs := by rw [isort_len, List.length_drop]; omega
    have e2 : isort κr (isort κr ((l.drop a).take bs) ++ isort κr ((l.drop a).drop bs)) = isort κr (l.drop a) := by rw [isort_app, List.take_append_drop]
    have hsp := symMerge_spec (bs + (n - a - bs)) (blks κr b2 s l) (isort κr ((l.drop a).take bs)) (isort κr ((l.drop a).drop bs)) [] a (a + bs) n (by omega)
      ⟨hbl.symm, by omega, by omega, by omega, by omega, (isort_sort _).srt, (isort_sort _).srt, fun e he => by
        rcases List.mem_append.1 he with he | he
        · exact hKi _ (fun x hx => List.mem_of_mem_drop (List.mem_of_mem_take hx)) e he
        · exact hKi _ (fun x hx => List.mem_of_mem_drop (List.mem_of_mem_drop hx)) e he, fun e he => by
        rw [← e1] at he
        rcases List.mem_append.1 he with he | he
        · exact (hpart e he).len
        · exact (hKa bs _ (fun x hx => List.mem_of_mem_drop hx) e he).len, by rw [← e1, List.length_append, hbl, allBlks_len, hdl]; omega⟩ (σ := oput σ q (.arr 11 (blks κr b2 s l ++ allBlks κr bs (l.drop a)))) (nx := nx) (q := q) hq (by simp only [oput, if_true]; rw [e1])
    rw [oput_twice, e2, List.append_nil, ← hfin] at hsp
    refine K_run hB 60 ?_
    simp [go_sem, c3', w2, c4']
    refine K_call rfl rfl rfl (args := [.ref q, .i a, .i (a + bs : Nat), .i n, cmpF]) (f := 143) (by simp [go_sem]) (by simp [go_sem, hB]) hsp ?_
    refine K_run hB 100 ?_
    simp [go_sem, w1']
    exact Next.mk b2 ⟨by omega, by omega⟩ (Imp.slots (by simp [go_sem]) rfl rfl) (by omega)
  · have c4' : ¬ (a : Int) + bs < n := by omega
    have e1 : blks κr b2 s l ++ allBlks κr bs (l.drop a) = allBlks κr b2 l := by rw [hfin, allBlks_le (bs := bs) (by omega) (by omega)]
    refine K_run hB 60 ?_
    simp [go_sem, c3', w2, c4', w1']
    exact Next.mk b2 ⟨by omega, by omega⟩ (Imp.slots (by simp [go_sem]) (by rw [e1]) rfl) (by omega)
theorem sortStable_spec (l : List (List T)) (hK : ∀ e ∈ l, KR e) (hbig : l.length < 2 ^ 31) {σ : Nat → AObj} {nx q : Nat} (hq : q < nx) (hσq : σ q = .arr 11 l) :
    CallSpec P 81 [.ref q, cmpF] σ nx (.tup []) (oput σ q (.arr 11 (isort κr l))) nx := by
  have hs := stable_spec l hK hbig hq hσq
  refine CallQ.spec (spec_of Try.func81 rfl rfl (by simp [Try.f81]) fun B hB hnx hσ => ?_)
  simp only [Try.f81] at hB ⊢
  refine K_run hB 100 ?_
  simp [go_sem, hσq]
  refine K_call rfl rfl rfl (args := [.ref q, .i l.length, cmpF]) (f := 111) (by simp [go_sem]) (by simp [go_sem, hB]) hs ?_
  refine K_run hB 100 ?_
  simp [go_sem]
end Go.Proofs.Ytlhmchdfmjfmgaa

/- Once of each state: the document's; whether two lists of nodes are the same; few. -/
set_option maxRecDepth 4000
namespace Go.Proofs.Ytlhmchdfmjfmgaa
open Go Go.Proofs.Ytlhmchdfmjfmgaa.R
def lastF (s : State) : Nat → List Node → Int → Int
  | _, [], v => v
  | i, m :: l, v => lastF s (i + 1) l (if m.s = s then (i : Int) else v)
theorem lastF_no {s : State} : ∀ (i : Nat) (l : List Node) (v : Int), (∀ m ∈ l, m.s ≠ s) → lastF s i l v = v
  | _, [], _, _ => rfl
  | i, m :: l, v, h => by rw [lastF, if_neg (h m List.mem_cons_self), lastF_no (i + 1) l v fun x hx => h x (List.mem_cons_of_mem _ hx)]
theorem lastF_idx {s : State} : ∀ (i : Nat) (l : List Node) (v : Int), (l.map Node.s).Nodup → lastF s i l v = match sIdx s l with | some j => ((i + j : Nat) : Int) | none => v
  | _, [], _, _ => rfl
  | i, m :: l, v, h => by
    rw [List.map_cons, List.nodup_cons] at h
    rw [lastF, sIdx]
    by_cases e : m.s = s
    · rw [if_pos e, if_pos e, lastF_no]
      · rfl
      · intro x hx hxs
        exact h.1 (List.mem_map.2 ⟨x, hx, by rw [hxs, e]⟩)
    · rw [if_neg e, if_neg e, lastF_idx (i + 1) l v h.2]
      cases sIdx s l with
      | none => rfl
      | some j => simp only [Option.map_some]; rw [show i + 1 + j = i + (j + 1) by omega]
theorem sIdx_none {s : State} : ∀ {l : List Node}, sIdx s l = none → ∀ m ∈ l, m.s ≠ s
  | [], _, m, h => by cases h
  | a :: l, h, m, hm => by
    rw [sIdx] at h
    split at h
    · cases h
    · rename_i e
      rcases List.mem_cons.1 hm with rfl | hm
      · exact e
      · exact sIdx_none (by simpa using h) m hm
theorem set_states {out : List Node} {n : Node} {i : Nat} (h : i < out.length) (e : out[i].s = n.s) : (out.set i n).map Node.s = out.map Node.s := by
  rw [List.map_set, ← e]
  apply List.ext_getElem?
  intro j
  by_cases hj : i = j
  · subst hj
    rw [List.getElem?_set_self (by simpa using h), List.getElem?_map, List.getElem?_eq_getElem h]; rfl
  · rw [List.getElem?_set_ne hj]
theorem once1_nodup {out : List Node} (h : (out.map Node.s).Nodup) (n : Node) : ((once1 out n).map Node.s).Nodup := by
  unfold once1
  split
  · rename_i e
    rw [List.map_append, List.nodup_append]
    refine ⟨h, by simp, ?_⟩
    intro a ha b hb
    simp only [List.map_cons, List.map_nil, List.mem_singleton] at hb
    obtain ⟨m, hm, rfl⟩ := List.mem_map.1 ha
    rw [hb]
    exact sIdx_none e m hm
  · rename_i i e
    obtain ⟨h1, h2⟩ := sIdx_some e
    split
    · rw [set_states h1 h2]; exact h
    · exact h
theorem ronce_pure (l : List Node) (hl : l.length < 2 ^ 31) : Pure P 23 [.t (.sl (nodesT l))] (.t (.sl (nodesT (onceL l)))) := by
  generalize hR : onceL l = R
  refine pure_of Try.func23 rfl rfl (by simp [Try.f23]) (by simp [bnd, bnd.bndL]) (by simp [bnd, bnd.bndL]) fun B hB hnx => ?_
  simp only [Try.f23] at hB ⊢
  have hil : (nodesT l).length = l.length := List.length_map _
  have hgt : ∀ (k : Nat) (h : k < l.length), (nodesT l)[k]'(by rw [hil]; exact h) = l[k].t := fun k h => nodesT_get l h
  generalize hX : nodesT l = X at *
  have hmost : mostLen = 4294967296 := rfl
  refine K_run hB 100 ?_
  simp [go_sem]
  refine K_own 3 10 (by simp [go_sem]) ?_
  refine K_loopP (α := Nat × List Node × Nat × (Nat → AObj) × Nat) (fun (k, out, j, σ, nx) => k ≤ l.length ∧ (l.drop k).foldl once1 out = R ∧ out.length ≤ k ∧ σ j = .arr 10 (nodesT out) ∧ j < nx ∧ (out.map Node.s).Nodup)
    (fun (k, out, j, σ, nx) => ⟨sl [(0, .t (.sl X)), (3, .ref j), (4, .i k)], σ, nx⟩) (fun a => l.length - a.1) (0, [], 0, _, 1) ?_ (Imp.slots (by simp [go_sem]) rfl rfl) ?_
  · exact ⟨Nat.zero_le _, hR, Nat.le_refl _, by simp [oput, nodesT], by omega, by simp⟩
  rintro ⟨k, out, j, σ, nx⟩ ⟨g1, g2, g3, g5, g7, gd⟩
  refine K_run hB 60 ?_
  simp [go_sem, hil]
  refine fork_dec (fun hk => ?_) (fun hk => ?_)
  · have hkk : IntKind.i64.wrap ((k : Int) + 1) = ((k + 1 : Nat) : Int) := by rw [w64 ((k : Int) + 1) (by omega)]; rfl
    have hget : ∀ h : k < X.length, X[k]'h = l[k].t := fun h => hgt k hk
    rw [List.drop_eq_getElem_cons hk, List.foldl_cons] at g2
    generalize l[k] = n at *
    have ho : once1 out n = match sIdx n.s out with
      | none => out ++ [n]
      | some i => if n.cost < (out.getD i n).cost then out.set i n else out := rfl
    have hnd := once1_nodup gd n
    have hlast := lastF_idx (s := n.s) 0 out (-1) gd
    have hlen : (nodesT out).length = out.length := List.length_map _
    simp [go_sem]
    refine K_loopP (α := Nat × Int) (fun (i, v) => i ≤ out.length ∧ lastF n.s i (out.drop i) v = lastF n.s 0 out (-1)) (fun (i, v) => ⟨sl [(0, .t (.sl X)), (3, .ref j), (4, .i k), (5, .i v), (6, .i i)], σ, nx⟩) (fun a => out.length - a.1) (0, -1) ⟨Nat.zero_le _, rfl⟩ (Imp.slots (by simp [go_sem]) rfl rfl) ?_
    rintro ⟨i, v⟩ ⟨f1, f2⟩
    refine K_run hB 60 ?_
    simp [go_sem, g5, hlen]
    refine fork_dec (fun hi => ?_) (fun hi => ?_)
    · have hii : IntKind.i64.wrap ((i : Int) + 1) = ((i + 1 : Nat) : Int) := by rw [w64 ((i : Int) + 1) (by omega)]; rfl
      have hgi : ∀ h : i < (nodesT out).length, (nodesT out)[i]'h = out[i].t := fun h => nodesT_get out hi
      rw [List.drop_eq_getElem_cons hi, lastF] at f2
      generalize out[i] = m at *
      have q1 : i * 10 / 10 = i := by omega
      have q4 : i * 10 % 10 = 0 := by omega
      simp [go_sem]
      refine K_drawn [] rfl (by rw [hB]; kernel_rfl) ?_
      refine K_run hB 100 ?_
      simp [go_sem, g5, hlen, hi, hgi, q1, q4, hil, hk, hget, Node.t]
      refine K_dEq (op := .eql) (t := 39) (t' := 39) (x := .tmp 23) (y := .tmp 28) (xs := m.s.cs) (ys := n.s.cs) (by simp [go_sem]) rfl (by simp [go_sem, State.cs]) (by simp [go_sem, State.cs]) state_guard (state_eq m.s n.s) rfl ?_
      by_cases e : m.s = n.s
      · rw [if_pos e] at f2
        refine K_run hB 100 ?_
        simp [go_sem, e, hii]
        exact Next.mk (i + 1, (i : Int)) ⟨by simp only; omega, f2⟩ (Imp.slots (by simp [go_sem]) rfl rfl) (by simp only; omega)
      · rw [if_neg e] at f2
        refine K_run hB 100 ?_
        simp [go_sem, e, hii]
        exact Next.mk (i + 1, v) ⟨by simp only; omega, f2⟩ (Imp.slots (by simp [go_sem]) rfl rfl) (by simp only; omega)
    · have : i = out.length := by omega
      subst this
      rw [List.drop_length, lastF, hlast] at f2
      cases hs : sIdx n.s out with
      | none =>
        rw [hs] at f2 ho
        simp only at f2 ho
        subst f2
        rw [ho] at g2 hnd
        have hcap : out.length + 1 ≤ mostLen := by omega
        simp [go_sem, g5, hlen, hcap, hil, hk, hget, Node.t, hkk]
        refine Next.mk (k + 1, out ++ [n], nx, _, nx + 1) ?_ (Imp.slots (by simp [go_sem]) rfl rfl) (by simp only; omega)
        refine ⟨by simp only; omega, g2, by simp only [List.length_append, List.length_cons, List.length_nil]; omega, ?_, by simp only; omega, hnd⟩
        simp [oput, nodesT, Node.t]
      | some i =>
        rw [hs] at f2 ho
        simp only [Nat.zero_add] at f2 ho
        subst f2
        obtain ⟨hil2, his⟩ := sIdx_some hs
        have hgi : ∀ h : i < (nodesT out).length, (nodesT out)[i]'h = out[i].t := fun h => nodesT_get out hil2
        have hgd : out.getD i n = out[i] := by rw [List.getD_eq_getElem?_getD, List.getElem?_eq_getElem hil2]; rfl
        rw [hgd] at ho
        have q1 : i * 10 / 10 = i := by omega
        have q2 : (i * 10 + 8) / 10 = i := by omega
        have q3 : (i * 10 + 8) % 10 = 8 := by omega
        have q4 : i * 10 % 10 = 0 := by omega
        have q5 : (i : Int) < out.length := by omega
        have q6 : ¬ (i : Int) < 0 := by omega
        simp [go_sem, q6]
        refine K_drawn [] rfl (by rw [hB]; kernel_rfl) ?_
        by_cases c1 : n.cost < out[i].cost
        · rw [if_pos c1] at ho
          rw [ho] at g2 hnd
          refine K_run hB 100 ?_
          simp [go_sem, g5, hlen, hgi, q1, q2, q3, q4, q5, hil2, hil, hk, hget, Node.t, c1, hkk]
          refine Next.mk (k + 1, out.set i n, j, _, nx) ?_ (Imp.slots (by simp [go_sem]) rfl rfl) (by simp only; omega)
          refine ⟨by simp only; omega, g2, by simp only [List.length_set]; omega, ?_, by simp only; omega, hnd⟩
          simp [oput, nodesT, Node.t, List.map_set]
        · rw [if_neg c1] at ho
          rw [ho] at g2 hnd
          refine K_run hB 100 ?_
          simp [go_sem, g5, hlen, hgi, q1, q2, q3, q4, q5, hil2, hil, hk, hget, Node.t, c1, hkk]
          exact Next.mk (k + 1, out, j, σ, nx) ⟨by simp only; omega, g2, by simp only; omega, g5, by simp only; omega, hnd⟩ (Imp.slots (by simp [go_sem]) rfl rfl) (by simp only; omega)
  · have : k = l.length := by omega
    subst this
    rw [List.drop_length, List.foldl_nil] at g2
    subst g2
    simp [go_sem, g5]
theorem rsameN_pure (a b : List Node) (ha : a.length < 2 ^ 63) (hb : b.length < 2 ^ 63) (hpa : ∀ n ∈ a, n.path.length < 2 ^ 63) (hpb : ∀ n ∈ b, n.path.length < 2 ^ 63) : Pure P 19 [.t (.sl (nodesT a)), .t (.sl (nodesT b))] (.b (decide (a = b))) := by
  refine pure_of Try.func19 rfl rfl (by simp [Try.f19]) (by simp [bnd, bnd.bndL]) (by simp [bnd, bnd.bndL]) fun B hB hnx => ?_
  simp only [Try.f19] at hB ⊢
  have h1 : (nodesT a).length = a.length := List.length_map _
  have h2 : (nodesT b).length = b.length := List.length_map _
  by_cases c0 : a.length = b.length
  rotate_left
  · have : ¬ a = b := fun e => c0 (by rw [e])
    refine K_run hB 100 ?_
    simp [go_sem, h1, h2, c0, this]
  refine K_run hB 100 ?_
  simp [go_sem, h1, h2, c0]
  refine K_loopP (α := Nat) (fun k => k ≤ b.length ∧ a.take k = b.take k) (fun k => ⟨sl [(0, .t (.sl (nodesT a))), (1, .t (.sl (nodesT b))), (5, .i k)], noObj, 0⟩) (fun k => b.length - k) 0 ⟨Nat.zero_le _, rfl⟩ (Imp.slots (by simp [go_sem]) rfl rfl) ?_
  rintro k ⟨g1, g2⟩
  refine K_run hB 100 ?_
  simp [go_sem, h1, c0]
  refine fork_dec (fun hk => ?_) (fun hk => ?_)
  · have hkk : IntKind.i64.wrap ((k : Int) + 1) = ((k + 1 : Nat) : Int) := by rw [w64 ((k : Int) + 1) (by omega)]; rfl
    have hk' : k < a.length := by omega
    have e1 : ∀ h : k < (nodesT a).length, (nodesT a)[k]'h = a[k].t := fun h => nodesT_get a hk'
    have e2 : ∀ h : k < (nodesT b).length, (nodesT b)[k]'h = b[k].t := fun h => nodesT_get b hk
    have n1 : a.take (k + 1) = a.take k ++ [a[k]] := by rw [List.take_add_one, List.getElem?_eq_getElem hk']; rfl
    have n2 : b.take (k + 1) = b.take k ++ [b[k]] := by rw [List.take_add_one, List.getElem?_eq_getElem hk]; rfl
    have hs := rsame_pure a[k].path b[k].path (hpa _ (List.getElem_mem _)) (hpb _ (List.getElem_mem _))
    have hne : a[k] ≠ b[k] → ¬ a = b := fun h e => h (by subst e; rfl)
    have heq : a[k] = b[k] ↔ a[k].path = b[k].path ∧ a[k].s = b[k].s ∧ a[k].cost = b[k].cost := by
      generalize a[k] = x
      generalize b[k] = y
      cases x; cases y
      simp only [Node.mk.injEq]
      exact ⟨fun h => ⟨h.2.2, h.1, h.2.1⟩, fun h => ⟨h.2.1, h.2.2, h.1⟩⟩
    simp [go_sem]
    refine K_drawn [] rfl (by rw [hB]; kernel_rfl) ?_
    generalize a[k] = x at *
    generalize b[k] = y at *
    refine K_run hB 100 ?_
    simp [go_sem, h1, h2, hk, hk', e1, e2, Node.t]
    refine K_dCallP rfl rfl rfl (args := [.t (.sl (ints x.path)), .t (.sl (ints y.path))]) (f := 45) (by simp [go_sem]) (hs) ?_
    by_cases d1 : x.path = y.path
    rotate_left
    · have := hne (fun h => d1 (heq.1 h).1)
      refine K_run hB 100 ?_
      simp [go_sem, d1]
      refine K_drawn [] rfl (by rw [hB]; kernel_rfl) ?_
      refine K_run hB 100 ?_
      simp [go_sem, this]
    refine K_run hB 100 ?_
    simp [go_sem, d1]
    refine K_drawn [] rfl (by rw [hB]; kernel_rfl) ?_
    refine K_run hB 100 ?_
    simp [go_sem, h1, h2, hk, hk', e1, e2, Node.t]
    refine K_dEq (op := .neq) (t := 39) (t' := 39) (x := .tmp 36) (y := .tmp 41) (xs := x.s.cs) (ys := y.s.cs) (by simp [go_sem]) rfl (by simp [go_sem, State.cs]) (by simp [go_sem, State.cs]) state_guard (state_eq x.s y.s) rfl ?_
    by_cases d2 : x.s = y.s
    rotate_left
    · have := hne (fun h => d2 (heq.1 h).2.1)
      refine K_run hB 100 ?_
      simp [go_sem, d2, this]
    by_cases d3 : x.cost = y.cost
    rotate_left
    · have := hne (fun h => d3 (heq.1 h).2.2)
      refine K_run hB 100 ?_
      simp [go_sem, d2, h1, h2, hk, hk', e1, e2, Node.t, d3, this]
    have hxy := heq.2 ⟨d1, d2, d3⟩
    refine K_run hB 100 ?_
    simp [go_sem, d2, h1, h2, hk, hk', e1, e2, Node.t, d3, hkk]
    refine Next.mk (k + 1) ⟨by omega, by rw [n1, n2, g2, hxy]⟩ (Imp.slots (by simp [go_sem]) rfl rfl) (by omega)
  · have : k = b.length := by omega
    subst this
    rw [List.take_of_length_le (by omega), List.take_of_length_le (by omega)] at g2
    simp [go_sem, g2]
def fewB (l : List Node) : Bool := decide (l.length ≤ 60) && l.all fun n => decide (n.path.length ≤ 100)
theorem few_pure (l : List Node) (hl : l.length < 2 ^ 63) : Pure P 18 [.t (.sl (nodesT l))] (.b (fewB l)) := by
  generalize hR : fewB l = R
  refine pure_of Try.func18 rfl rfl (by simp [Try.f18]) (by simp [bnd, bnd.bndL]) (by simp [bnd, bnd.bndL]) fun B hB hnx => ?_
  simp only [Try.f18] at hB ⊢
  rw [fewB] at hR
  have hil : (nodesT l).length = l.length := List.length_map _
  by_cases c1 : (60 : Int) < l.length
  · have : R = false := by rw [← hR]; simp; omega
    subst this
    refine K_run hB 100 ?_
    simp [go_sem, hil, c1]
  have c2 : l.length ≤ 60 := by omega
  rw [decide_eq_true c2, Bool.true_and] at hR
  refine K_run hB 100 ?_
  simp [go_sem, hil, c1]
  refine K_loopP (α := Nat) (fun k => k ≤ l.length ∧ ((l.drop k).all fun n => decide (n.path.length ≤ 100)) = R) (fun k => ⟨sl [(0, .t (.sl (nodesT l))), (3, .i k)], noObj, 0⟩) (fun k => l.length - k) 0 ⟨Nat.zero_le _, hR⟩ (Imp.slots (by simp [go_sem]) rfl rfl) ?_
  rintro k ⟨g1, g2⟩
  refine K_run hB 100 ?_
  simp [go_sem, hil]
  refine fork_dec (fun hk => ?_) (fun hk => ?_)
  · have hkk : IntKind.i64.wrap ((k : Int) + 1) = ((k + 1 : Nat) : Int) := by rw [w64 ((k : Int) + 1) (by omega)]; rfl
    have hget : ∀ h : k < (nodesT l).length, (nodesT l)[k]'h = l[k].t := fun h => nodesT_get l hk
    rw [List.drop_eq_getElem_cons hk, List.all_cons] at g2
    generalize l[k] = n at *
    have hpl : (ints n.path).length = n.path.length := List.length_map _
    by_cases c3 : (100 : Int) < n.path.length
    · have e9 : decide (n.path.length ≤ 100) = false := decide_eq_false (by omega)
      rw [e9, Bool.false_and] at g2
      subst g2
      simp [go_sem, hil, hk, hget, Node.t, hpl, c3]
    · have e9 : decide (n.path.length ≤ 100) = true := decide_eq_true (by omega)
      rw [e9, Bool.true_and] at g2
      simp [go_sem, hil, hk, hget, Node.t, hpl, c3, hkk]
      exact Next.mk (k + 1) ⟨by omega, g2⟩ (Imp.slots (by simp [go_sem]) rfl rfl) (by omega)
  · have : k = l.length := by omega
    subst this
    rw [List.drop_length, List.all_nil] at g2
    simp [go_sem, g2]
end Go.Proofs.Ytlhmchdfmjfmgaa

/- The nodes behind all moves of one: the iterator. -/
set_option maxRecDepth 4000
namespace Go.Proofs.Ytlhmchdfmjfmgaa
open Go Go.Proofs.Ytlhmchdfmjfmgaa.R
def Inst.child (x : Inst) (n : Node) (j : Int) : Node := ⟨(x.move n.s j).1, sumI [n.cost, (x.move n.s j).2.1], n.path ++ [j]⟩
/-- A node whose path is a row of the call's own. -/
def Node.ra (n : Node) (r : Nat) : AV := .agg [.i n.s.spot, .i n.s.car, .i n.s.time, .i n.s.load, .i n.s.first, .u n.s.must, .u n.s.can, .u n.s.on, .i n.cost, .ref r]
theorem children_pure (x : Inst) (n : Node) (σ : Nat → AObj) (nx : Nat) : CallQ P 80 [x.a, n.a] σ nx fun r σ' nx' => r = .fn (.func 110) [] [.ptr nx 0, .ptr (nx + 1) 0] ∧ nx' = nx + 2 ∧
    σ' = oput (oput σ nx (.box x.cs)) (nx + 1) (.box n.cs) := by
  refine spec_of Try.func80 rfl rfl (by simp [Try.f80]) fun B hB hnx hσ => ?_
  simp only [Try.f80] at hB ⊢
  refine K_run hB 100 ?_
  simp [go_sem, Inst.a, Node.a, Node.cs, Inst.cs]
  omega
theorem children1_spec (x : Inst) (n : Node) (hl : x.stops.length < 2 ^ 63) (ho : n.s.ok) (hp : n.path.length < 2 ^ 31) (q b1 b2 : Nat) (J : Nat → (Nat → AObj) → Nat → Prop) (σ0 : Nat → AObj) (nx0 : Nat) (h0 : J 0 σ0 nx0)
    (hb : ∀ k σ nx, J k σ nx → nx0 ≤ nx ∧ b1 < nx ∧ b2 < nx ∧ σ b1 = .box x.cs ∧ σ b2 = .box n.cs)
    (hy : ∀ k (hk : k < (x.moves n.s).length) σ nx σ1 nx1 r, J k σ nx → (∀ i, i < nx → σ1 i = σ i) → nx ≤ r → r < nx1 → σ1 r = .arr 1 (ints (n.path ++ [(x.moves n.s)[k]])) →
      ∃ σ' nx', YieldQ P q [(x.child n (x.moves n.s)[k]).ra r] σ1 nx1 (fun a b => a = σ' ∧ b = nx') ∧ J (k + 1) σ' nx') :
    CallQ P 110 [.yld q, .ptr b1 0, .ptr b2 0] σ0 nx0 fun _ σ' nx' => J (x.moves n.s).length σ' nx' := by
  refine spec_of Try.func110 rfl rfl (by simp [Try.f110]) fun B hB hnx hσ => ?_
  simp only [Try.f110] at hB ⊢
  obtain ⟨_, _, _, a1, a2⟩ := hb 0 σ0 nx0 h0
  have hms := moves_pure x n.s hl ho
  have hmv := fun j => move_pure x n.s j hl ho
  have hil : (ints (x.moves n.s)).length = (x.moves n.s).length := List.length_map _
  have hpl : (ints n.path).length = n.path.length := List.length_map _
  have hgt : ∀ (k : Nat) (h : k < (x.moves n.s).length), (ints (x.moves n.s))[k]'(by rw [hil]; exact h) = [.i ((x.moves n.s)[k])] := fun k h => ints_getS _ h
  have hml : (x.moves n.s).length < 2 ^ 63 := by
    rw [moves_can]
    have := canB_len (fun k => (x.move n.s k).2.2) x.stops.length
    omega
  have hmost : mostLen = 4294967296 := rfl
  have hcl := clone_spec n.path (by omega)
  generalize hX : ints (x.moves n.s) = X at *
  generalize hL : x.moves n.s = L at *
  refine K_run hB 100 ?_
  simp [go_sem, a1, a2, Inst.cs, Node.cs]
  refine K_call rfl rfl rfl (args := [x.a, n.s.a]) (f := 94) (by simp [go_sem, Inst.a, State.a, State.cs]) (by simp [go_sem, hB]) ((hms).spec _ _) ?_
  refine K_run hB 100 ?_
  simp [go_sem, hil]
  refine K_loopP (α := Nat × (Nat → AObj) × Nat) (fun (k, σ, nx) => k ≤ L.length ∧ J k σ nx) (fun (k, σ, nx) => ⟨sl [(0, .yld q), (1, .ptr b1 0), (2, .ptr b2 0), (12, .t (.sl X)), (13, .i L.length), (14, .i k)], σ, nx⟩) (fun a => L.length - a.1) (0, σ0, nx0) ⟨Nat.zero_le _, h0⟩ (Imp.slots (by simp [go_sem]) rfl rfl) ?_
  rintro ⟨k, σ, nx⟩ ⟨g1, g2⟩
  obtain ⟨gn, l1, l2, d1, d2⟩ := hb k σ nx g2
  refine K_run hB 60 ?_
  simp [go_sem]
  refine fork_dec (fun hk => ?_) (fun hk => ?_)
  · have hkk : IntKind.i64.wrap ((k : Int) + 1) = ((k + 1 : Nat) : Int) := by rw [w64 ((k : Int) + 1) (by omega)]; rfl
    have hget : ∀ h : k < X.length, X[k]'h = [.i L[k]] := fun h => hgt k hk
    have hyk := hy k hk σ nx
    generalize L[k] = j at *
    have hm := hmv j
    have hch : x.child n j = ⟨(x.move n.s j).1, sumI [n.cost, (x.move n.s j).2.1], n.path ++ [j]⟩ := rfl
    generalize x.child n j = c at *
    generalize x.move n.s j = V at *
    obtain ⟨t, d, is⟩ := V
    simp only at hch
    have hsum := sum_pure [n.cost, d] (by simp)
    have n1 : ¬ b1 = nx := by omega
    have n2 : ¬ b2 = nx := by omega
    have n3 : ¬ b2 = nx + 1 := by omega
    have hcap : n.path.length + 1 ≤ mostLen := by omega
    simp [go_sem, hil, hk, hget, d1, d2, Inst.cs, Node.cs]
    refine K_call rfl rfl rfl (args := [x.a, n.s.a, .i j]) (f := 95) (by simp [go_sem, Inst.a, State.a, State.cs]) (by simp [go_sem, hB]) ((hm).spec _ _) ?_
    refine K_run hB 100 ?_
    simp [go_sem, mv, State.a, State.cs]
    refine K_drawnG [9, 12, 14] [0, 1, 10, 11] [1] rfl (by rw [hB]; kernel_rfl) (by kernel_rfl) fun ht hf' => ?_
    refine K_run hB 100 ?_
    simp [go_sem, ht, hf', d2, n2, Node.cs]
    refine K_dCallP rfl rfl rfl (args := [.fsl (ints [n.cost, d])]) (f := 50) (by simp [go_sem, ints]) (Pure.loose hsum (by simp [bnd])) ?_
    refine K_run hB 100 ?_
    simp [go_sem, ht, hf', d2, n2, Node.cs]
    refine K_dCall rfl rfl rfl (args := [.t (.sl (ints n.path))]) (f := 55) (by simp [go_sem]) (hcl _ _) (by decide) (okPends_does (by simp [go_sem])) ?_
    refine K_run hB 100 ?_
    simp [go_sem, ht, hf', hpl, hcap, show ¬ nx = nx + 1 + 1 by omega, show ¬ nx = nx + 1 by omega]
    obtain ⟨σ', nx', h1, h2⟩ := hyk (oput (oput (oput (oput (oput σ nx (.box [.i 0, .i 0, .i 0, .i 0, .i 0, .u 0, .u 0, .u 0])) nx (.box [.i t.spot, .i t.car, .i t.time, .i t.load, .i t.first, .u t.must, .u t.can, .u t.on])) (nx + 1) (.arr 1 (ints n.path))) (nx + 1) .dead) (nx + 2) (.arr 1 (ints n.path ++ [[.i j]]))) (nx + 3) (nx + 2) g2 (fun i hi => by simp [oput, show ¬ i = nx by omega, show ¬ i = nx + 1 by omega, show ¬ i = nx + 2 by omega]) (by omega) (by omega) (by simp [oput, ints])
    refine K_dYield rfl rfl rfl (q := q) (args := [c.ra (nx + 2)]) (σ' := σ') (nx' := nx') (by simp [go_sem]) (by simp [go_sem, Node.ra, hch]) h1 (by decide) (okPends_does ⟨.inl (by kernel_rfl), trivial⟩) ?_
    refine K_run hB 100 ?_
    simp [go_sem, hkk]
    exact Next.mk (k + 1, σ', nx') ⟨by simp only; omega, h2⟩ (Imp.slots (by simp [go_sem]) rfl rfl) (by simp only; omega)
  · have : k = L.length := by omega
    subst this
    simp [go_sem, hnx, g2]
    exact gn
end Go.Proofs.Ytlhmchdfmjfmgaa

/- All moves of some nodes, and the best one that can be ended. -/
set_option maxRecDepth 4000
namespace Go.Proofs.Ytlhmchdfmjfmgaa
open Go Go.Proofs.Ytlhmchdfmjfmgaa.R
def Inst.kids (x : Inst) (up : Int) (n : Node) : List Node := ((x.moves n.s).map (x.child n)).filter fun c => decide (x.of c < up)
def Node.zero : Node := ⟨State.zero, 0, []⟩
def Inst.best1 (x : Inst) (b : Node × Bool) (n : Node) : Node × Bool :=
  if (x.endS n.s).2 = true ∧ (b.2 = false ∨ sumI [n.cost, (x.endS n.s).1] < b.1.cost) then ({ n with cost := sumI [n.cost, (x.endS n.s).1] }, true) else b
def Inst.bests (x : Inst) (l : List Node) : Node × Bool := l.foldl x.best1 (Node.zero, false)
def Inst.next (x : Inst) (l : List Node) (up : Int) : List Node := onceL (l.flatMap (x.kids up))
theorem moves_33 (x : Inst) (s : State) : (x.moves s).length ≤ 33 := by
  cases hm : x.may with
  | false =>
    rw [Inst.moves, if_neg (by simp [hm])]; simp
  | true =>
    obtain ⟨p, hx⟩ := x.fit hm
    have := hx.len
    have := hx.few
    have := moves_len x s
    omega
theorem kids_33 (x : Inst) (up : Int) (n : Node) : (x.kids up n).length ≤ 33 := by
  unfold Inst.kids
  refine Nat.le_trans (List.length_filter_le _ _) ?_
  rw [List.length_map]
  exact moves_33 x n.s
def expRes (l : List Node) (b : Node × Bool) : AV := .tup [.t (.sl (nodesT l)), b.1.a, .b b.2]
theorem take_kids (x : Inst) (up : Int) (n : Node) {k : Nat} (hk : k < (x.moves n.s).length) :
    (((x.moves n.s).take (k + 1)).map (x.child n)).filter (fun c => decide (x.of c < up)) = (((x.moves n.s).take k).map (x.child n)).filter (fun c => decide (x.of c < up)) ++ (if x.of (x.child n (x.moves n.s)[k]) < up then [x.child n (x.moves n.s)[k]] else []) := by
  rw [List.take_succ_eq_append_getElem hk, List.map_append, List.filter_append]
  congr 1
  simp only [List.map_cons, List.map_nil, List.filter_cons, List.filter_nil, decide_eq_true_eq]
theorem frz1_n {r : Nat} {es : List (List T)} (n : Node) : frz1 r es (.ref r) = .t (.sl es) := by simp [frz1]
/-- What holds while the moves of one node are made. -/
structure Loop14 (x : Inst) (up : Int) (n : Node) (all : List Node) (b : Node) (L : AObj) (nx0 b1 : Nat) (k : Nat) (σ : Nat → AObj) (nx : Nat) : Prop where
  o0 : σ 0 = .box x.cs
  o1 : σ 1 = .box [.i up]
  o2 : σ 2 = .box Node.zero.cs
  o4 : σ 4 = .box b.cs
  p1 : σ b1 = .box x.cs
  p2 : σ (b1 + 1) = .box n.cs
  q : σ (b1 + 2) = L
  le : nx0 ≤ nx ∧ b1 + 2 < nx ∧ 4 < b1
  row : ∃ a, σ 3 = .box [.ref a] ∧ σ a = .arr 10 (nodesT (all ++ (((x.moves n.s).take k).map (x.child n)).filter fun c => decide (x.of c < up))) ∧ 4 < a ∧ a < nx ∧ a ≠ b1 ∧ a ≠ b1 + 1 ∧ a ≠ b1 + 2
theorem expand_pure (x : Inst) (l : List Node) (up : Int) (hl : x.stops.length < 2 ^ 31) (hll : l.length < 2 ^ 20) (hn : ∀ n ∈ l, n.Fine) (hn2 : ∀ n ∈ l, n.path.length < 2 ^ 30) : Pure P 44 [x.a, .t (.sl (nodesT l)), .i up] (expRes (x.next l up) (x.bests l)) := by
  generalize hR : x.next l up = R
  generalize hRb : x.bests l = Rb
  refine pure_ofR Try.func44 rfl rfl (by simp [Try.f44]) (by simp [bnd, bnd.bndL, Inst.a]) (by simp [bnd, bnd.bndL, expRes, Node.a, Node.cs]) fun B hB hnx hro => ?_
  simp only [Try.f44] at hB ⊢
  have hil : (nodesT l).length = l.length := List.length_map _
  have hgt : ∀ (k : Nat) (h : k < l.length), (nodesT l)[k]'(by rw [hil]; exact h) = l[k].t := fun k h => nodesT_get l h
  generalize hX : nodesT l = X at *
  have hmost : mostLen = 4294967296 := rfl
  rw [Inst.next] at hR
  rw [Inst.bests] at hRb
  refine K_run hB 100 ?_
  simp [go_sem, Inst.a, hil]
  refine K_less (((Imp.ownB (b := 3) (off := 0) (sz := 10) (cs := [.fsl []]) (by simp [go_sem]) rfl).trans (Imp.looseB (b := 2) (cs := [.i 0, .i 0, .i 0, .i 0, .i 0, .u 0, .u 0, .u 0, .i 0, .fsl []]) (by simp [oput]))).trans (Imp.looseB (b := 4) (cs := [.i 0, .i 0, .i 0, .i 0, .i 0, .u 0, .u 0, .u 0, .i 0, .fsl []]) (by simp [oput]))) ?_
  refine K_loopP (α := Nat × List Node × (Node × Bool) × Nat × (Nat → AObj) × Nat) (fun (k, all, b, a, σ, nx) => k ≤ l.length ∧ (all ++ (l.drop k).flatMap (x.kids up) = l.flatMap (x.kids up) ∧ all.length ≤ 33 * k) ∧ (l.drop k).foldl x.best1 b = Rb ∧ σ 0 = .box x.cs ∧ σ 1 = .box [.i up] ∧ σ 2 = .box Node.zero.cs ∧ σ 3 = .box [.ref a] ∧ σ 4 = .box b.1.cs ∧ σ a = .arr 10 (nodesT all) ∧ 4 < a ∧ a < nx)
    (fun (k, all, b, a, σ, nx) => ⟨sl [(3, .ptr 0 0), (5, .ptr 1 0), (7, .ptr 2 0), (9, .ptr 3 0), (10, .ptr 4 0), (11, .b b.2), (18, .t (.sl X)), (19, .i l.length), (20, .i k)], σ, nx⟩) (fun a => l.length - a.1) (0, [], (Node.zero, false), 5, _, 6) ?_ (Imp.slots (by simp [go_sem]) rfl rfl) ?_
  · exact ⟨Nat.zero_le _, ⟨rfl, Nat.le_refl _⟩, hRb, by simp [oput, Inst.cs], by simp [oput], by simp [oput, Node.zero, State.zero, Node.cs, ints, loosen], by simp [oput], by simp [oput, Node.zero, State.zero, Node.cs, ints, loosen], by simp [oput, nodesT], by omega, by omega⟩
  rintro ⟨k, all, b, a, σ, nx⟩ ⟨g1, ⟨g2, g2'⟩, g3, h0, h1, h2, h3, h4, h5, h6, h7⟩
  refine K_run hB 60 ?_
  simp [go_sem]
  refine fork_dec (fun hk => ?_) (fun hk => ?_)
  · have hkk : IntKind.i64.wrap ((k : Int) + 1) = ((k + 1 : Nat) : Int) := by rw [w64 ((k : Int) + 1) (by omega)]; rfl
    have hget : ∀ h : k < X.length, X[k]'h = l[k].t := fun h => hgt k hk
    rw [List.drop_eq_getElem_cons hk, List.flatMap_cons] at g2
    rw [List.drop_eq_getElem_cons hk, List.foldl_cons] at g3
    have hfine := hn l[k] (List.getElem_mem _)
    have hpath := hn2 l[k] (List.getElem_mem _)
    generalize l[k] = n at *
    have hen := end_pure x n.s (by omega) hfine.ok
    have hown := own_pure n (by omega)
    have hbe : x.best1 b n = if (x.endS n.s).2 = true ∧ (b.2 = false ∨ sumI [n.cost, (x.endS n.s).1] < b.1.cost) then ({ n with cost := sumI [n.cost, (x.endS n.s).1] }, true) else b := rfl
    have m0 : ¬ 0 = nx := by omega
    have m1 : ¬ 1 = nx := by omega
    have m2 : ¬ 2 = nx := by omega
    have m3 : ¬ 3 = nx := by omega
    have m4 : ¬ 4 = nx := by omega
    have ma : ¬ a = nx := by omega
    have ma4 : ¬ a = 4 := by omega
    have mn4 : ¬ nx = 4 := by omega
    simp [go_sem, hil, hk, hget, Node.t, h0, m0, Inst.cs]
    refine K_call rfl rfl rfl (args := [x.a, n.s.a]) (f := 77) (by simp [go_sem, Inst.a, State.a, State.cs]) (by simp [go_sem, hB]) ((hen).spec _ _) ?_
    refine K_run hB 10 ?_
    simp [go_sem]
    refine K_cut (α := Nat → AObj) (fun σ' => σ' 0 = .box x.cs ∧ σ' 1 = .box [.i up] ∧ σ' 2 = .box Node.zero.cs ∧ σ' 3 = .box [.ref a] ∧ σ' 4 = .box (x.best1 b n).1.cs ∧ σ' a = .arr 10 (nodesT all) ∧ σ' nx = .box n.cs)
      (fun σ' => ⟨sl [(3, .ptr 0 0), (5, .ptr 1 0), (7, .ptr 2 0), (9, .ptr 3 0), (10, .ptr 4 0), (11, .b (x.best1 b n).2), (13, .ptr nx 0), (18, .t (.sl X)), (19, .i l.length), (20, .i k)], σ', nx + 1⟩) ?_ ?_
    · have hsum := sum_pure [n.cost, (x.endS n.s).1] (by simp)
      generalize x.best1 b n = b' at *
      generalize x.endS n.s = E at *
      obtain ⟨c, is⟩ := E
      cases is with
      | false =>
        rw [if_neg (by simp)] at hbe
        subst hbe
        refine K_run hB 100 ?_
        simp [go_sem]
        refine ⟨_, ⟨?_, ?_, ?_, ?_, ?_, ?_, ?_⟩, Imp.slots (by simp [go_sem]) rfl rfl⟩
        all_goals simp [oput, m0, m1, m2, m3, m4, ma, h0, h1, h2, h3, h4, h5, Inst.cs, Node.cs]
      | true =>
        simp only [true_and] at hbe
        refine K_run hB 100 ?_
        simp [go_sem]
        refine K_call rfl rfl rfl (args := [.fsl (ints [n.cost, c])]) (f := 50) (by simp [go_sem, ints]) (by simp [go_sem, hB]) ((Pure.loose hsum (by simp [bnd])).spec _ _) ?_
        generalize sumI [n.cost, c] = e at *
        by_cases c1 : b.2 = false ∨ e < b.1.cost
        · rw [if_pos c1] at hbe
          subst hbe
          cases c2 : b.2 with
          | false =>
            refine K_run hB 100 ?_
            simp [go_sem, c2]
            refine K_call rfl rfl rfl (args := [n.a]) (f := 46) (by simp [go_sem, Node.a, Node.cs]) (by simp [go_sem, hB]) ((hown).spec _ _) ?_
            refine K_run hB 100 ?_
            simp [go_sem, Node.a, Node.cs, h4, m4, mn4]
            refine ⟨_, ⟨?_, ?_, ?_, ?_, ?_, ?_, ?_⟩, Imp.slots (by simp [go_sem]) rfl rfl⟩
            all_goals simp [oput, m0, m1, m2, m3, m4, ma, ma4, mn4, h0, h1, h2, h3, h4, h5, Inst.cs, Node.cs]
          | true =>
            have c3 : e < b.1.cost := c1.resolve_left (by simp [c2])
            refine K_run hB 100 ?_
            simp [go_sem, c2, h4, m4, Node.cs, c3]
            refine K_call rfl rfl rfl (args := [n.a]) (f := 46) (by simp [go_sem, Node.a, Node.cs]) (by simp [go_sem, hB]) ((hown).spec _ _) ?_
            refine K_run hB 100 ?_
            simp [go_sem, Node.a, Node.cs, h4, m4, mn4]
            refine ⟨_, ⟨?_, ?_, ?_, ?_, ?_, ?_, ?_⟩, Imp.slots (by simp [go_sem]) rfl rfl⟩
            all_goals simp [oput, m0, m1, m2, m3, m4, ma, ma4, mn4, h0, h1, h2, h3, h4, h5, Inst.cs, Node.cs]
        · rw [if_neg c1] at hbe
          subst hbe
          have c2 : b'.2 = true := by
            cases h : b'.2 with
            | true => rfl
            | false => exact absurd (.inl h) c1
          have c3 : ¬ e < b'.1.cost := fun h => c1 (.inr h)
          refine K_run hB 100 ?_
          simp [go_sem, c2, h4, m4, Node.cs, c3]
          refine ⟨_, ⟨?_, ?_, ?_, ?_, ?_, ?_, ?_⟩, Imp.slots (by simp [go_sem, c2]) rfl rfl⟩
          all_goals simp [oput, m0, m1, m2, m3, m4, ma, h0, h1, h2, h3, h4, h5, Inst.cs, Node.cs]
    rintro σ' ⟨k0, k1, k2, k3, k4, k5, k6⟩
    have hch := children_pure x n
    refine K_run hB 100 ?_
    simp [go_sem, k0, k6, Inst.cs, Node.cs]
    refine K_callQ rfl rfl rfl (args := [x.a, n.a]) (f := 80) (by simp [go_sem, Inst.a, Node.a, Node.cs]) (by simp [go_sem, hB]) (hch _ _) ?_
    rintro r σ2 nx2 ⟨rfl, rfl, rfl⟩
    refine K_run hB 100 ?_
    simp [go_sem]
    generalize hb' : x.best1 b n = b' at *
    have hsp := children1_spec x n (by omega) hfine.ok (by omega)
    have hk33 := moves_33 x n.s
    refine K_less (Imp.slots (l := [(3, .ptr 0 0), (5, .ptr 1 0), (7, .ptr 2 0), (9, .ptr 3 0), (10, .ptr 4 0), (11, .b b'.2), (18, .t (.sl X)), (19, .i l.length), (20, .i k), (51, .fn (.func 110) [] [.ptr (nx + 1) 0, .ptr (nx + 2) 0])]) (by simp [go_sem]) rfl rfl) ?_
    refine K_range hro (f := 110) (args := [.yld (nx + 3), .ptr (nx + 1) 0, .ptr (nx + 2) 0]) (by simp [go_sem]) fun L hL => ⟨fun _ σ3 nx3 => Loop14 x up n all b'.1 L (nx + 4) (nx + 1) (x.moves n.s).length σ3 nx3, ?_, ?_⟩
    · refine hsp (nx + 3) (nx + 1) (nx + 2) (Loop14 x up n all b'.1 L (nx + 4) (nx + 1)) _ (nx + 4) ?_ ?_ ?_
      · refine ⟨?_, ?_, ?_, ?_, ?_, ?_, ?_, by omega, ⟨a, ?_, ?_, by omega, by omega, by omega, by omega, by omega⟩⟩
        all_goals simp [oput, k0, k1, k2, k3, k4, k5, show ¬ nx = 0 by omega, show ¬ nx = 1 by omega, show ¬ nx = 2 by omega, show ¬ nx = 3 by omega, show ¬ 0 = nx + 3 by omega, show ¬ 1 = nx + 3 by omega, show ¬ 2 = nx + 3 by omega, show ¬ 3 = nx + 3 by omega, show ¬ 4 = nx + 3 by omega, show ¬ a = nx + 3 by omega,
          show ¬ 0 = nx + 2 by omega, show ¬ 1 = nx + 2 by omega, show ¬ 2 = nx + 2 by omega, show ¬ 3 = nx + 2 by omega, show ¬ 4 = nx + 2 by omega, show ¬ a = nx + 2 by omega, show ¬ 0 = nx + 1 by omega, show ¬ 1 = nx + 1 by omega, show ¬ 2 = nx + 1 by omega, show ¬ 3 = nx + 1 by omega, show ¬ 4 = nx + 1 by omega, show ¬ a = nx + 1 by omega, Inst.cs, Node.cs]
      · rintro k' σ3 nx3 hJ
        have := hJ.le
        exact ⟨this.1, by omega, by omega, hJ.p1, hJ.p2⟩
      · intro k' hk' σ3 nx3 σ4 nx4 r hJ hag hr1 hr2 hr3
        have hle := hJ.le
        obtain ⟨a', r1, r2, r3, r4, r5, r6, r7⟩ := hJ.row
        have htk := take_kids x up n hk'
        have hcok : (x.child n (x.moves n.s)[k']).s.ok := move_ok x _ hfine.ok
        have hcp : (x.child n (x.moves n.s)[k']).path = n.path ++ [(x.moves n.s)[k']] := rfl
        rw [← hcp] at hr3
        generalize x.child n (x.moves n.s)[k'] = c at *
        have hof := of_pure x c hl hcok
        have hlen : (nodesT (all ++ (((x.moves n.s).take k').map (x.child n)).filter fun c => decide (x.of c < up))).length + 1 ≤ mostLen := by
          rw [nodesT, List.length_map, List.length_append]
          have := List.length_filter_le (fun c => decide (x.of c < up)) (((x.moves n.s).take k').map (x.child n))
          rw [List.length_map, List.length_take] at this
          omega
        generalize (((x.moves n.s).take k').map (x.child n)).filter (fun c => decide (x.of c < up)) = F at *
        have s0 : σ4 0 = .box x.cs := (hag 0 (by omega)).trans hJ.o0
        have s1 : σ4 1 = .box [.i up] := (hag 1 (by omega)).trans hJ.o1
        have s2 : σ4 2 = .box Node.zero.cs := (hag 2 (by omega)).trans hJ.o2
        have s3 : σ4 3 = .box [.ref a'] := (hag 3 (by omega)).trans r1
        have s4 : σ4 4 = .box b'.1.cs := (hag 4 (by omega)).trans hJ.o4
        have s5 : σ4 a' = .arr 10 (nodesT (all ++ F)) := (hag a' (by omega)).trans r2
        have s6 : σ4 (nx + 1) = .box x.cs := (hag (nx + 1) (by omega)).trans hJ.p1
        have s7 : σ4 (nx + 2) = .box n.cs := (hag (nx + 2) (by omega)).trans hJ.p2
        have s8 : σ4 (nx + 3) = L := (hag (nx + 3) (by omega)).trans hJ.q
        obtain ⟨σ5, hσ5⟩ : ∃ σ5 : Nat → AObj, σ5 = fun j => if j = r then AObj.dead else frzO r (ints c.path) (σ4 j) := ⟨_, rfl⟩
        have f0 : σ5 0 = .box x.cs := by simp [hσ5, show ¬ 0 = r by omega, s0, frzO, frz1, frz1.frzL, Inst.cs]
        have f1 : σ5 1 = .box [.i up] := by simp [hσ5, show ¬ 1 = r by omega, s1, frzO, frz1, frz1.frzL]
        have f2 : σ5 2 = .box Node.zero.cs := by simp [hσ5, show ¬ 2 = r by omega, s2, frzO, frz1, frz1.frzL, Node.cs]
        have f3 : σ5 3 = .box [.ref a'] := by simp [hσ5, show ¬ 3 = r by omega, s3, frzO, frz1, frz1.frzL, show ¬ a' = r by omega]
        have f4 : σ5 4 = .box b'.1.cs := by simp [hσ5, show ¬ 4 = r by omega, s4, frzO, frz1, frz1.frzL, Node.cs]
        have f5 : σ5 a' = .arr 10 (nodesT (all ++ F)) := by simp [hσ5, show ¬ a' = r by omega, s5, frzO]
        have f6 : σ5 (nx + 1) = .box x.cs := by simp [hσ5, show ¬ nx + 1 = r by omega, s6, frzO, frz1, frz1.frzL, Inst.cs]
        have f7 : σ5 (nx + 2) = .box n.cs := by simp [hσ5, show ¬ nx + 2 = r by omega, s7, frzO, frz1, frz1.frzL, Node.cs]
        have f8 : σ5 (nx + 3) = L := by simp [hσ5, show ¬ nx + 3 = r by omega, s8, hL, frzO]
        have d0 : ¬ 0 = nx4 := by omega
        have d1 : ¬ 1 = nx4 := by omega
        have d2 : ¬ 2 = nx4 := by omega
        have d3 : ¬ 3 = nx4 := by omega
        have d4 : ¬ 4 = nx4 := by omega
        have d5 : ¬ a' = nx4 := by omega
        have d6 : ¬ nx + 1 = nx4 := by omega
        have d7 : ¬ nx + 2 = nx4 := by omega
        have d8 : ¬ nx + 3 = nx4 := by omega
        have hB0 := hB
        by_cases hlt : x.of c < up
        · refine ⟨oput (oput (oput (oput (oput σ5 nx4 (.box c.cs)) a' .dead) (nx4 + 1) (.arr 10 (nodesT (all ++ F) ++ [c.t]))) 3 (.box [.ref (nx4 + 1)])) (nx + 3) L, nx4 + 2, ?y, ?j⟩
          case y =>
            refine yield_of (s8.trans hL) rfl (by rw [hB]; rfl) fun B' hB' hnx' hσ' => ?_
            have hL' := hL
            rw [hB] at hL'
            have hB := hB'.trans hB
            refine K_less ((Imp.freeze (q := r) (sz := 1) (es := ints c.path) hr3).trans (Imp.slots (l := [(3, .ptr 0 0), (5, .ptr 1 0), (9, .ptr 3 0), (52, c.a)]) (by simp [go_sem, roundM, putL, frz1, frz1.frzL, hB0, Node.ra, Node.a, Node.cs]) hσ5 rfl)) ?_
            refine K_run hB 100 ?_
            simp [go_sem, f8, d8, hL, Node.a, Node.cs]
            refine K_run hB 100 ?_
            simp [go_sem]
            refine K_drawn [] rfl (by rw [hB]; kernel_rfl) ?_
            refine K_run hB 100 ?_
            simp [go_sem, f0, d0, d8, show ¬ nx4 = nx + 3 by omega, Inst.cs]
            refine K_dCallP rfl rfl rfl (args := [x.a, c.a]) (f := 24) (by simp [go_sem, Inst.a, Node.a, Node.cs]) (hof) ?_
            refine K_run hB 100 ?_
            simp [go_sem, f1, f3, f5, d1, d3, d5, d8, hlt, hlen, Node.cs, show ¬ nx4 = nx + 3 by omega, show ¬ a' = nx + 3 by omega, show ¬ nx = 0 by omega, show ¬ nx + 3 = a' by omega, show ¬ nx + 3 = nx4 by omega, show ¬ nx + 3 = nx4 + 1 by omega, show ¬ nx4 = 2 by omega, show ¬ 3 = a' by omega, show ¬ nx4 = nx + 2 by omega, f8]
            funext i
            have w1 : ¬ nx = 0 := by omega
            have w2 : ¬ a' = nx + 3 := by omega
            have w3 : ¬ nx4 = nx + 3 := by omega
            have w4 : ¬ nx4 + 1 = nx + 3 := by omega
            have w6 : ¬ nx4 = nx + 2 := by omega
            have w7 : ¬ a' = 3 := by omega
            have w8 : ¬ a' = nx4 + 1 := by omega
            by_cases e1 : i = nx + 3
            · simp [oput, e1, hL, hB, hB0]
            by_cases e2 : i = 3
            · simp [oput, e2, w1]
            by_cases e3 : i = nx4 + 1
            · simp [oput, e3, w4, w6, Node.t, nodesT]
            by_cases e4 : i = a'
            · simp [oput, e4, w2, w7, w8]
            by_cases e5 : i = nx4
            · simp [oput, e1, e2, e3, e4, e5, w3, Node.cs]
            simp [oput, e1, e2, e3, e4, e5]
          case j =>
            rw [if_pos hlt] at htk
            have v0 : ∀ j, j ≤ 4 → j ≠ 3 → ¬ j = a' ∧ ¬ j = nx4 + 1 := by intros; omega
            have w0 : ¬ nx4 = 0 := by omega
            have w1 : ¬ nx4 = 1 := by omega
            have w2 : ¬ nx = 2 := by omega
            have w3 : ¬ nx = 1 := by omega
            have w4 : ¬ nx = nx4 := by omega
            have w5 : ¬ nx = 0 := by omega
            have w6 : ¬ nx4 = nx + 2 := by omega
            have w7 : ¬ nx4 = nx + 3 := by omega
            have w8 : ¬ nx4 = 2 := by omega
            have w9 : ¬ nx4 = 3 := by omega
            have wa := v0 0 (by omega) (by omega)
            have wb := v0 1 (by omega) (by omega)
            have wc := v0 2 (by omega) (by omega)
            have wd := v0 4 (by omega) (by omega)
            have we : ¬ nx + 1 = a' := by omega
            have wf : ¬ nx + 2 = a' := by omega
            refine ⟨?_, ?_, ?_, ?_, ?_, ?_, ?_, by omega, ⟨nx4 + 1, ?_, ?_, by omega, by omega, by omega, by omega, by omega⟩⟩
            · simp [oput, d0, f0, w0, Inst.cs, wa.1, wa.2, w0, show ¬ 0 = nx4 + 1 by omega]
            · simp [oput, d1, f1, wb.1, wb.2, w1, w0]
            · simp [oput, d2, f2, wc.1, wc.2, w8, Node.cs]
            · simp [oput, f4, wd.1, wd.2, show ¬ 4 = nx4 by omega, show ¬ 4 = nx4 + 1 by omega, show ¬ 4 = nx + 3 by omega, Node.cs]
            · simp [oput, d6, f6, we, w2, w4, show ¬ nx + 1 = nx4 by omega, Inst.cs]
            · simp [oput, d7, f7, wf, show ¬ nx + 1 = nx4 by omega, show ¬ nx + 2 = 3 by omega, show ¬ nx + 2 = nx4 + 1 by omega, Node.cs]
            · simp [oput]
            · simp [oput, w5]
            · rw [htk]
              simp [oput, w6, w8, nodesT]
        · refine ⟨oput (oput σ5 nx4 (.box c.cs)) (nx + 3) L, nx4 + 1, ?y, ?j⟩
          case y =>
            refine yield_of (s8.trans hL) rfl (by rw [hB]; rfl) fun B' hB' hnx' hσ' => ?_
            have hL' := hL
            rw [hB] at hL'
            have hB := hB'.trans hB
            refine K_less ((Imp.freeze (q := r) (sz := 1) (es := ints c.path) hr3).trans (Imp.slots (l := [(3, .ptr 0 0), (5, .ptr 1 0), (9, .ptr 3 0), (52, c.a)]) (by simp [go_sem, roundM, putL, frz1, frz1.frzL, hB0, Node.ra, Node.a, Node.cs]) hσ5 rfl)) ?_
            refine K_run hB 100 ?_
            simp [go_sem, f8, d8, hL, Node.a, Node.cs]
            refine K_run hB 100 ?_
            simp [go_sem]
            refine K_drawn [] rfl (by rw [hB]; kernel_rfl) ?_
            refine K_run hB 100 ?_
            simp [go_sem, f0, d0, d8, show ¬ nx4 = nx + 3 by omega, Inst.cs]
            refine K_dCallP rfl rfl rfl (args := [x.a, c.a]) (f := 24) (by simp [go_sem, Inst.a, Node.a, Node.cs]) (hof) ?_
            refine K_run hB 100 ?_
            simp [go_sem, f1, f3, f5, d1, d3, d5, d8, hlt, hlen, Node.cs, show ¬ nx4 = nx + 3 by omega, show ¬ a' = nx + 3 by omega, show ¬ nx = 0 by omega, show ¬ nx + 3 = a' by omega, show ¬ nx + 3 = nx4 by omega, show ¬ nx + 3 = nx4 + 1 by omega, show ¬ nx4 = 2 by omega, show ¬ 3 = a' by omega, show ¬ nx4 = nx + 2 by omega, f8]
            funext i
            have w3 : ¬ nx4 = nx + 3 := by omega
            by_cases e1 : i = nx + 3
            · simp [oput, e1, hL, hB, hB0]
            by_cases e5 : i = nx4
            · simp [oput, e5, w3, Node.cs]
            simp [oput, e1, e5]
          case j =>
            rw [if_neg hlt, List.append_nil] at htk
            have v0 : ∀ j, j ≤ 4 → ¬ j = nx4 ∧ ¬ j = nx + 3 := by intros; omega
            have w0 := v0 0 (by omega)
            have w1 := v0 1 (by omega)
            have w2 := v0 2 (by omega)
            have w3 := v0 3 (by omega)
            have w4 := v0 4 (by omega)
            have we : ¬ nx + 1 = nx4 := by omega
            have wf : ¬ nx + 2 = nx4 := by omega
            have wg : ¬ nx = 0 := by omega
            have wh : ¬ a' = nx4 := by omega
            have wi : ¬ a' = nx + 3 := by omega
            refine ⟨?_, ?_, ?_, ?_, ?_, ?_, ?_, by omega, ⟨a', ?_, ?_, by omega, by omega, by omega, by omega, by omega⟩⟩
            · simp [oput, f0, w0, Inst.cs]
            · simp [oput, f1, w1, w1.2]
            · simp [oput, f2, w2, Node.cs]
            · simp [oput, f4, w4, Node.cs]
            · simp [oput, f6, we, Inst.cs]
            · simp [oput, f7, wf, Node.cs]
            · simp [oput]
            · simp [oput, f3, w3, wg]
            · rw [htk]
              simp [oput, f5, wh, wi]
    · rintro r σ3 nx3 hJ
      refine ⟨hJ.q, ?_⟩
      have hle := hJ.le
      obtain ⟨a', r1, r2, r3, r4, r5, r6, r7⟩ := hJ.row
      rw [List.take_length] at r2
      have hkl : (((x.moves n.s).map (x.child n)).filter fun c => decide (x.of c < up)) = x.kids up n := rfl
      rw [hkl] at r2
      have hkl2 := kids_33 x up n
      refine K_run hB 100 ?_
      simp [go_sem, hkk]
      refine Next.mk (k + 1, all ++ x.kids up n, b', a', oput σ3 (nx + 3) .dead, nx3) ?_ (Imp.slots (by simp [go_sem]) rfl rfl) (by simp only; omega)
      have v0 : ∀ j, j ≤ 4 → ¬ j = nx + 3 := by intros; omega
      have w0 := v0 0 (by omega)
      have w1 := v0 1 (by omega)
      have w2 := v0 2 (by omega)
      have w3 : ¬ nx = 0 := by omega
      have w4 := v0 4 (by omega)
      have w5 : ¬ a' = nx + 3 := by omega
      refine ⟨by simp only; omega, ⟨by rw [List.append_assoc]; exact g2, by simp only [List.length_append]; omega⟩, g3, ?_, ?_, ?_, ?_, ?_, ?_, by simp only; omega, by simp only; omega⟩
      · simp [oput, w0, hJ.o0]
      · simp [oput, w1, hJ.o1]
      · simp [oput, w2, hJ.o2, Node.cs]
      · simp [oput, w3, r1]
      · simp [oput, w4, hJ.o4, Node.cs]
      · simp [oput, w5, r2]
  · have : k = l.length := by omega
    subst this
    rw [List.drop_length, List.flatMap_nil, List.append_nil] at g2
    rw [List.drop_length, List.foldl_nil] at g3
    subst g3
    rw [← g2] at hR
    have hfa : ∀ n ∈ all, n.Fine := by
      intro c hc
      rw [g2] at hc
      obtain ⟨n, hn3, hc⟩ := List.mem_flatMap.1 hc
      obtain ⟨hc, -⟩ := List.mem_filter.1 hc
      obtain ⟨j, hj, rfl⟩ := List.mem_map.1 hc
      refine ⟨move_ok x _ (hn n hn3).ok, ?_⟩
      have := hn2 n hn3
      show (n.path ++ [j]).length < 2 ^ 31
      rw [List.length_append]
      simp only [List.length_cons, List.length_nil]
      omega
    have hon := once_pure all (by omega) hfa
    rw [hR] at hon
    refine K_run hB 60 ?_
    simp [go_sem]
    obtain ⟨σ5, hσ5⟩ : ∃ σ5 : Nat → AObj, σ5 = fun j => if j = a then AObj.dead else frzO a (nodesT all) (σ j) := ⟨_, rfl⟩
    have f0 : σ5 0 = .box x.cs := by simp [hσ5, show ¬ 0 = a by omega, h0, frzO, frz1, frz1.frzL, Inst.cs]
    have f2 : σ5 2 = .box Node.zero.cs := by simp [hσ5, show ¬ 2 = a by omega, h2, frzO, frz1, frz1.frzL, Node.cs]
    have f3 : σ5 3 = .box [.t (.sl (nodesT all))] := by simp [hσ5, show ¬ 3 = a by omega, h3, frzO, frz1, frz1.frzL]
    have f4 : σ5 4 = .box b.1.cs := by simp [hσ5, show ¬ 4 = a by omega, h4, frzO, frz1, frz1.frzL, Node.cs]
    refine K_less ((Imp.freeze (q := a) (sz := 10) (es := nodesT all) h5).trans (Imp.slots (l := [(7, .ptr 2 0), (9, .ptr 3 0), (10, .ptr 4 0), (11, .b b.2)]) (by simp [go_sem, frz1, frz1.frzL]) hσ5 rfl)) ?_
    refine K_drawnF [5] [3] rfl (by rw [hB]; kernel_rfl) (by kernel_rfl) fun ht hf' => ?_
    refine K_run hB 100 ?_
    simp [go_sem, ht, hf', f3]
    refine K_dCallP rfl rfl rfl (args := [.t (.sl (nodesT all))]) (f := 22) (by simp [go_sem]) (hon) ?_
    refine K_run hB 100 ?_
    simp [go_sem, ht, hf', f4, f2, Node.cs]
    rfl
end Go.Proofs.Ytlhmchdfmjfmgaa
