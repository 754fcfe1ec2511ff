/- What the models of forest.Root, Holds, Order, Place, Ahead, and of the document's own, come to. -/
import Derived.Test.YtcaepigodglihaaTre2
namespace Go.Proofs.Ytcaepigodglihaa
open Go Go.Pw

/-! ## Lists -/
def findI (l : List Int) (n : Int) : Int := if n ∈ l then ((l.idxOf n : Nat) : Int) else -1
theorem up_first {L : Nat → Int → Option Int} (l : List Int) (n : Int) (step : ∀ (i : Nat) (h : i < l.length) (k : Nat), L (k + 1) (i : Int) = if l[i] = n then some (i : Int) else L k ((i + 1 : Nat) : Int)) (stop : ∀ k, L (k + 1) (l.length : Int) = some (-1)) {k : Nat} (hk : l.length < k) : L k 0 = some (findI l n) := by
  have key : ∀ (j i k : Nat), i + j = l.length → j < k → L k (i : Int) = some (if n ∈ l.drop i then (((l.drop i).idxOf n + i : Nat) : Int) else -1) := by
    intro j
    induction j with
    | zero =>
      intro i k hi hk
      obtain ⟨k, rfl⟩ : ∃ k', k = k' + 1 := ⟨k - 1, by omega⟩
      obtain rfl : i = l.length := by omega
      rw [stop]; simp
    | succ j ih =>
      intro i k hi hk
      obtain ⟨k, rfl⟩ : ∃ k', k = k' + 1 := ⟨k - 1, by omega⟩
      have h : i < l.length := by omega
      rw [step i h, List.drop_eq_getElem_cons h]
      by_cases he : l[i] = n
      · rw [if_pos he, if_pos (by rw [he]; simp), he, List.idxOf_cons_self, Nat.zero_add]
      · rw [if_neg he, ih (i + 1) k (by omega) (by omega)]
        have e : (n ∈ l[i] :: l.drop (i + 1)) ↔ n ∈ l.drop (i + 1) := ⟨fun h => (List.mem_cons.1 h).resolve_left (Ne.symm he), List.mem_cons_of_mem _⟩
        have e2 : (l[i] :: l.drop (i + 1)).idxOf n = (l.drop (i + 1)).idxOf n + 1 := by rw [List.idxOf_cons, beq_eq_false_iff_ne.2 he]; rfl
        by_cases hm : n ∈ l.drop (i + 1)
        · rw [if_pos hm, if_pos (e.2 hm), e2]
          congr 1; omega
        · rw [if_neg hm, if_neg fun h => hm (e.1 h)]
  have := key l.length 0 k (by omega) hk
  simpa [findI] using this
theorem sIndex_ok {fu : Nat} {l : List Int} {n : Int} (hf : l.length < fu) (hb : l.length ≤ 1000000) : Slices_Index_int_m fu l n = some (findI l n) := by
  unfold Slices_Index_int_m
  refine up_first (L := Slices_Index_int_l1 l n) l n (fun i hi k => ?_) (fun k => ?_) hf
  · simp only [Slices_Index_int_l1]
    rw [cnd_pos (by simpa using hi), idx_lt hi, bnd_some, rng_nat (by omega), bnd_some, cnd_eq]
    by_cases h : l[i] = n
    · rw [if_pos h.symm, if_pos h]
    · rw [if_neg (Ne.symm h), if_neg h]
  · simp only [Slices_Index_int_l1]; rw [cnd_neg (by simp)]
theorem find_ok {fu : Nat} {l : List Int} {n : Int} (hf : l.length < fu) (hb : l.length ≤ 1000000) : Instarref03_Find_m fu l n = some (findI l n) := by
  unfold Instarref03_Find_m
  refine up_first (L := Instarref03_Find_l1 l n) l n (fun i hi k => ?_) (fun k => ?_) hf
  · simp only [Instarref03_Find_l1]
    rw [cnd_pos (by simpa using hi), idx_lt hi, bnd_some, rng_nat (by omega), bnd_some, cnd_eq]
  · simp only [Instarref03_Find_l1]; rw [cnd_neg (by simp)]
theorem has_ok {fu : Nat} {l : List Int} {n : Int} (hf : l.length < fu) (hb : l.length ≤ 1000000) : Instarref03_Has_m fu l n = some ((l.count n : Nat) : Int) := by
  unfold Instarref03_Has_m
  have := upf (L := Instarref03_Has_l1 l n) (f := fun i => ((((l.take i).count n : Nat) : Int), (i : Int))) (v := some ((l.count n : Nat) : Int)) l.length (fun i hi k => ?_) (fun k => ?_) hf
  · simpa using this
  · simp only [Instarref03_Has_l1]
    have hc : (l.take i).count n ≤ i := Nat.le_trans List.count_le_length (by simp; omega)
    rw [cnd_pos (by simpa using hi), idx_lt hi, bnd_some, rng_nat (by omega), rng_nat (by omega), bnd_some, bnd_some, bnd_some, cnd_eq, List.take_succ_eq_append_getElem hi, List.count_append]
    by_cases h : l[i] = n
    · rw [if_pos h, h]; simp
    · rw [if_neg h]; simp [h]
  · simp only [Instarref03_Has_l1]
    rw [cnd_neg (by simp)]; simp
theorem ints_ok {fu : Nat} {a b : List Int} (hf : a.length < fu) (hb : a.length ≤ 1000000) : Instarref03_Ints_m fu a b = some (decide (a = b)) := by
  unfold Instarref03_Ints_m
  rw [cnd_ne]
  by_cases hl : a.length = b.length
  · rw [if_pos (by omega)]
    refine (up_alli (L := Instarref03_Ints_l1 a b) a.length (fun i => a[i]? == b[i]?) (some true) (fun i hi k => ?_) (fun k => ?_) (by omega)).trans ?_
    · simp only [Instarref03_Ints_l1]
      rw [cnd_pos (by simpa using hi), idx_lt hi, idx_lt (by omega : i < b.length), bnd_some, bnd_some, rng_nat (by omega), bnd_some, cnd_ne, List.getElem?_eq_getElem hi, List.getElem?_eq_getElem (by omega : i < b.length)]
      by_cases h : a[i] = b[i]
      · rw [if_pos h, h]; simp
      · have h' : (some a[i] == some b[i]) = false := beq_eq_false_iff_ne.2 fun e => h (Option.some.inj e)
        rw [if_neg h, h']; rfl
    · simp only [Instarref03_Ints_l1]
      rw [cnd_neg (by simp)]
    · have : ((List.range a.length).all fun i => a[i]? == b[i]?) = decide (a = b) := by
        rw [Bool.eq_iff_iff, List.all_eq_true, decide_eq_true_eq]
        constructor
        · intro h
          refine List.ext_getElem? fun i => ?_
          by_cases hi : i < a.length
          · simpa using h i (by simpa using hi)
          · rw [List.getElem?_eq_none (by omega), List.getElem?_eq_none (by omega)]
        · intro h i _; rw [h]; simp
      rw [this]
      cases decide (a = b) <;> rfl
  · rw [if_neg (by omega), decide_eq_false (fun h => hl (by rw [h]))]

theorem findI_at {l : List Int} {n : Int} (h : n ∈ l) : findI l n = ((l.idxOf n : Nat) : Int) ∧ l.idxOf n < l.length := ⟨if_pos h, List.idxOf_lt_length_of_mem h⟩
theorem findI_get {l : List Int} {n : Int} (h : n ∈ l) : idx l (findI l n) = some n := by
  obtain ⟨h1, h2⟩ := findI_at h
  rw [h1, idx_lt h2]
  exact congrArg some (List.getElem_idxOf h2)
theorem findI_lt {l : List Int} {a b : Int} (ha : a ∈ l) (hb : b ∈ l) : (findI l a < findI l b) ↔ l.idxOf a < l.idxOf b := by
  rw [(findI_at ha).1, (findI_at hb).1]; omega
theorem idxOf_inj {l : List Int} {a b : Int} (ha : a ∈ l) (hb : b ∈ l) (h : l.idxOf a = l.idxOf b) : a = b := by
  have h1 := findI_get ha
  have h2 := findI_get hb
  rw [(findI_at ha).1] at h1
  rw [(findI_at hb).1] at h2
  rw [h, h2] at h1
  exact (Option.some.inj h1).symm

/-! ## Trees -/
theorem par_at {ns : List Node} {n : Int} {x : Node} (h : idx ns n = some x) : parI ns n = x.Parent := by unfold parI; rw [h]
theorem kids_at {ns : List Node} {n : Int} {x : Node} (h : idx ns n = some x) : kidsI ns n = x.Kids := by unfold kidsI; rw [h]
/-- Forests as the laws look at them. -/
structure Small (f : Forest) : Prop where
  few : f.Nodes.length ≤ 100
  kids : ∀ x ∈ f.Nodes, x.Kids.length ≤ 60
  attrs : ∀ x ∈ f.Nodes, x.Attrs.length ≤ 60
  name : ∀ x ∈ f.Nodes, x.Name.length ≤ 300
theorem Small.fit {f : Forest} (h : Small f) {fu : Nat} (hfu : 1000 < fu) : KidsFit fu f.Nodes := fun x hx => by have := h.kids x hx; omega
theorem short_small60 {fu : Nat} {f : Forest} (hfu : 1000 < fu) : ∃ r, Instarref03_Short_m fu f = some r ∧ (r = true → Small f ∧ f.Nodes.length ≤ 60) := by
  unfold Instarref03_Short_m
  rw [cnd_dec]
  by_cases h : f.Nodes.length ≤ 60
  · rw [if_neg (by omega)]
    refine ⟨f.Nodes.all fun n => decide (n.Kids.length ≤ 60) && (decide (n.Attrs.length ≤ 60) && decide (n.Name.length ≤ 300)), (up_all (L := Instarref03_Short_l1 f) f.Nodes (fun n => decide (n.Kids.length ≤ 60) && (decide (n.Attrs.length ≤ 60) && decide (n.Name.length ≤ 300))) (some true) (fun i hi k => ?_) (fun k => ?_) (by omega)).trans ?_, fun hr => ?_⟩
    · simp only [Instarref03_Short_l1]
      rw [cnd_pos (by simpa using hi), idx_lt hi, bnd_some, bnd_some, bnd_some, rng_nat (by omega), bnd_some, cnd_dec, cnd_dec, cnd_dec]
      generalize f.Nodes[i] = n
      by_cases h1 : n.Kids.length ≤ 60
      · by_cases h2 : n.Attrs.length ≤ 60
        · by_cases h3 : n.Name.length ≤ 300
          · rw [if_neg (by omega), if_neg (by omega), if_neg (by omega)]; simp [h1, h2, h3]
          · rw [if_neg (by omega), if_neg (by omega), if_pos (by omega)]; simp [h3]
        · rw [if_neg (by omega), if_pos (by omega)]; simp [h2]
      · rw [if_pos (by omega)]; simp [h1]
    · simp only [Instarref03_Short_l1]
      rw [cnd_neg (by simp)]
    · cases f.Nodes.all fun n => decide (n.Kids.length ≤ 60) && (decide (n.Attrs.length ≤ 60) && decide (n.Name.length ≤ 300)) <;> rfl
    · have key : ∀ n ∈ f.Nodes, n.Kids.length ≤ 60 ∧ n.Attrs.length ≤ 60 ∧ n.Name.length ≤ 300 := fun n hn => by
        have := List.all_eq_true.1 hr n hn
        simpa only [Bool.and_eq_true, decide_eq_true_eq] using this
      exact ⟨⟨by omega, fun x hx => (key x hx).1, fun x hx => (key x hx).2.1, fun x hx => (key x hx).2.2⟩, h⟩
  · rw [if_pos (by omega)]; exact ⟨false, rfl, by simp⟩
theorem short_small {fu : Nat} {f : Forest} (hfu : 1000 < fu) : ∃ r, Instarref03_Short_m fu f = some r ∧ (r = true → Small f) := by
  obtain ⟨r, h1, h2⟩ := short_small60 (f := f) hfu
  exact ⟨r, h1, fun h => (h2 h).1⟩
theorem asked_ok {fu : Nat} {f : Forest} {l : List Int} (hfu : 1000 < fu) (hk : KidsFit fu f.Nodes) (hl : l.length ≤ 1000) : Forest_asked_m fu f l = some (frightB f && l.all (inB f)) := by
  unfold Forest_asked_m
  rw [vright_ok (v := ⟨⟨f.Nodes, f.Most⟩⟩) hfu hk, bnd_some]
  cases frightB f with
  | false => rfl
  | true =>
    rw [cnd_true, containsFInt_ok (p := fun n => !(inB f n)) (fun n _ => by unfold Forest_asked_1_m; rw [there_ok, bnd_some]; rfl) (by omega) (by omega), bnd_some, all_not_any]
    rfl
theorem inB_of {f : Forest} {n : Int} (h : InN f.Nodes n) : inB f n = true := decide_eq_true h
theorem asked1 {fu : Nat} {f : Forest} {n : Int} (hfu : 1000 < fu) (hk : KidsFit fu f.Nodes) (hr : frightB f = true) (h : InN f.Nodes n) : Forest_asked_m fu f [n] = some true := by
  rw [asked_ok hfu hk (by simp), hr]; simp [inB_of h]
theorem asked2 {fu : Nat} {f : Forest} {n m : Int} (hfu : 1000 < fu) (hk : KidsFit fu f.Nodes) (hr : frightB f = true) (h : InN f.Nodes n) (h' : InN f.Nodes m) : Forest_asked_m fu f [n, m] = some true := by
  rw [asked_ok hfu hk (by simp), hr]; simp [inB_of h, inB_of h']
theorem right_tree {f : Forest} (hr : frightB f = true) : Tree f.Nodes := by
  obtain ⟨_, _, h1, h2⟩ := right_parts hr
  exact tree_of h1 h2

section
variable {f : Forest} (T : Tree f.Nodes)
include T
theorem root_l (k : Nat) : ∀ n, InN f.Nodes n → climbP f.Nodes k n → ∀ K, k ≤ K → Forest_root_l1 f K n = some (rootF f.Nodes k n) := by
  induction k with
  | zero => intro n _ h; exact h.elim
  | succ k ih =>
    intro n hn hc K hK
    obtain ⟨K, rfl⟩ : ∃ K', K = K' + 1 := ⟨K - 1, by omega⟩
    obtain ⟨x, hx⟩ := idx_some hn
    have hp := par_at hx
    simp only [Forest_root_l1, rootF]
    rw [hx, bnd_some, bnd_some, cnd_ne, ← hp]
    by_cases h : parI f.Nodes n = -1
    · rw [if_pos h, if_pos h]
    · rw [if_neg h, if_neg h]
      exact ih _ (T.par n hn h).1 (hc.resolve_left h) K (by omega)
theorem froot_ok {fu : Nat} {n : Int} (hn : InN f.Nodes n) (hfu : f.Nodes.length ≤ fu) : Forest_root_m fu f n = some (rootN f.Nodes n) := root_l T _ n hn (T.fin n hn) fu hfu
theorem rroot_l (k : Nat) : ∀ n, InN f.Nodes n → climbP f.Nodes k n → ∀ K, k ≤ K → Instarref03_Root_m K f n = some (rootF f.Nodes k n) := by
  induction k with
  | zero => intro n _ h; exact h.elim
  | succ k ih =>
    intro n hn hc K hK
    obtain ⟨K, rfl⟩ : ∃ K', K = K' + 1 := ⟨K - 1, by omega⟩
    obtain ⟨x, hx⟩ := idx_some hn
    have hp := par_at hx
    simp only [Instarref03_Root_m, rootF]
    rw [hx, bnd_some, bnd_some, cnd_eq, ← hp]
    by_cases h : parI f.Nodes n = -1
    · rw [if_pos h, if_pos h]
    · rw [if_neg h, if_neg h, ih _ (T.par n hn h).1 (hc.resolve_left h) K (by omega), bnd_some]
theorem rroot_ok {fu : Nat} {n : Int} (hn : InN f.Nodes n) (hfu : f.Nodes.length ≤ fu) : Instarref03_Root_m fu f n = some (rootN f.Nodes n) := rroot_l T _ n hn (T.fin n hn) fu hfu
theorem holds_l {a : Int} (ha : a ≠ -1) (k : Nat) : ∀ n, InN f.Nodes n → climbP f.Nodes k n → ∀ K, k < K → Forest_Holds_l1 f a K n = some ((wayF f.Nodes k n).contains a) := by
  induction k with
  | zero => intro n _ h; exact h.elim
  | succ k ih =>
    intro n hn hc K hK
    obtain ⟨K, rfl⟩ : ∃ K', K = K' + 1 := ⟨K - 1, by omega⟩
    obtain ⟨x, hx⟩ := idx_some hn
    have hp := par_at hx
    simp only [Forest_Holds_l1, wayF]
    rw [hx, bnd_some, cnd_ne, cnd_ne, ← hp, if_neg hn.ne]
    by_cases he : n = a
    · rw [if_pos he, he]; simp
    · rw [if_neg he]
      have hx' : (a == n) = false := beq_eq_false_iff_ne.2 (Ne.symm he)
      rw [List.contains_cons, hx', Bool.false_or]
      by_cases h : parI f.Nodes n = -1
      · obtain ⟨K, rfl⟩ : ∃ K', K = K' + 1 := ⟨K - 1, by omega⟩
        rw [if_pos h, h]
        simp only [Forest_Holds_l1]
        rw [cnd_neg (by simp)]
        simp [Ne.symm ha]
      · rw [if_neg h, ih _ (T.par n hn h).1 (hc.resolve_left h) K (by omega)]
def holdsB (ns : List Node) (a b : Int) : Bool := (way ns b).contains a
omit T in
theorem holdsB_iff {ns : List Node} {a b : Int} : holdsB ns a b = true ↔ a ∈ way ns b := List.contains_iff_mem
theorem order_l (K : Nat) : ∀ (st out : List Int), (∀ x ∈ st, InN f.Nodes x) → (st.flatMap (allN f.Nodes)).length < K → out.length + (st.flatMap (allN f.Nodes)).length ≤ 1000000 → Forest_Order_l1 f K (out, st) = some (out ++ st.reverse.flatMap (allN f.Nodes)) := by
  induction K with
  | zero => intro _ _ _ h; omega
  | succ K ih =>
    intro st out hst hlt hb
    have stlen : ∀ l : List Int, (∀ x ∈ l, InN f.Nodes x) → l.length ≤ (l.flatMap (allN f.Nodes)).length := by
      intro l
      induction l with
      | nil => intro _; simp
      | cons x l ihl =>
        intro h
        have := ihl fun y hy => h y (by simp [hy])
        have h1 : 1 ≤ (allN f.Nodes x).length := by rw [T.all_eq (h x (by simp))]; simp
        simp only [List.flatMap_cons, List.length_append, List.length_cons]; omega
    rcases List.eq_nil_or_concat st with rfl | ⟨st', x, hst'⟩
    · simp only [Forest_Order_l1]
      rw [cnd_neg (by simp)]; simp
    · rw [List.concat_eq_append] at hst'
      subst hst'
      have hin := hst x (by simp)
      obtain ⟨y, hy⟩ := idx_some hin
      have hk := kids_at hy
      have ha := T.all_eq hin
      rw [hk] at ha
      simp only [List.flatMap_append, List.flatMap_cons, List.flatMap_nil, List.append_nil, List.length_append, ha, List.length_cons] at hlt hb
      have hl1 := stlen st' fun z hz => hst z (by simp [hz])
      have hkin : ∀ k ∈ y.Kids, InN f.Nodes k := fun k h => (T.kid x k (by rw [hk]; exact h)).2.1
      have hl2 := stlen y.Kids hkin
      simp only [Forest_Order_l1]
      have hlen1 : (((st' ++ [x]).length : Nat) : Int) - 1 = ((st'.length : Nat) : Int) := by simp
      rw [cnd_pos (by simp), hlen1, rng64 (by omega) (by omega), bnd_some, idx_lt (by simp : st'.length < (st' ++ [x]).length), bnd_some, show (0 : Int) = ((0 : Nat) : Int) from rfl, piece_nat (by omega) (by simp), bnd_some]
      rw [show (st' ++ [x])[st'.length]'(by simp) = x by simp, show ((st' ++ [x]).drop 0).take (st'.length - 0) = st' by simp]
      rw [roomy_ok (by simp; omega), bnd_some, hy, bnd_some]
      have l2 : ∀ (k : Nat) (l : List Int), k ≤ y.Kids.length → l.length + k ≤ 1000000 → Forest_Order_l2 out x y (Forest_Order_l1 f K) k l = Forest_Order_l1 f K (out ++ [x], l ++ (y.Kids.take k).reverse) := by
        intro k
        induction k with
        | zero => intro l _ _; simp [Forest_Order_l2]
        | succ k ihk =>
          intro l hk1 hl
          have hk2 : k < y.Kids.length := by omega
          simp only [Forest_Order_l2]
          rw [List.getElem?_eq_getElem hk2, bnd_some, roomy_ok (by simp; omega), bnd_some, ihk _ (by omega) (by simp; omega), List.take_succ_eq_append_getElem hk2, List.reverse_append, List.append_assoc]
          rfl
      rw [l2 _ _ (Nat.le_refl _) (by omega), List.take_length]
      have hst2 : ∀ z ∈ st' ++ y.Kids.reverse, InN f.Nodes z := fun z hz => by
        rcases List.mem_append.1 hz with hz | hz
        · exact hst z (by simp [hz])
        · exact hkin z (by simpa using hz)
      have hrev : (y.Kids.reverse.flatMap (allN f.Nodes)).length = (y.Kids.flatMap (allN f.Nodes)).length := by
        rw [List.length_flatMap, List.length_flatMap, List.map_reverse, List.sum_reverse]
      rw [ih (st' ++ y.Kids.reverse) (out ++ [x]) hst2 (by simp only [List.flatMap_append, List.length_append, hrev]; omega) (by simp only [List.flatMap_append, List.length_append, hrev, List.length_cons, List.length_nil]; omega)]
      simp [ha]
theorem rorder_ok (hs : Small f) : ∀ (d : Nat) (n : Int) (fu : Nat), InN f.Nodes n → f.Nodes.length < (way f.Nodes n).length + d → d + 100 ≤ fu → Instarref03_Order_m fu f n = some (allN f.Nodes n) := by
  intro d
  induction d with
  | zero => intro n fu hn h; have := T.way_len hn; omega
  | succ d ih =>
    intro n fu hn h hfu
    obtain ⟨fu, rfl⟩ : ∃ K', fu = K' + 1 := ⟨fu - 1, by omega⟩
    obtain ⟨y, hy⟩ := idx_some hn
    have hk := kids_at hy
    have ha := T.all_eq hn
    have hl := T.all_len hn
    have hks := hs.kids y (idx_mem hy)
    have hf := hs.few
    rw [hk] at ha
    simp only [Instarref03_Order_m]
    have := upf (L := Instarref03_Order_l1 (Instarref03_Order_m fu) f n) (f := fun i => ((i : Int), n :: (y.Kids.take i).flatMap (allN f.Nodes))) (v := some (allN f.Nodes n)) y.Kids.length (fun i hi k => ?_) (fun k => ?_) (k := fu) (by omega)
    · simpa using this
    · have hkin : y.Kids[i] ∈ kidsI f.Nodes n := by rw [hk]; exact List.getElem_mem hi
      have hki := (T.kid n _ hkin).2.1
      simp only [Instarref03_Order_l1]
      have hlen : (y.Kids.take i).flatMap (allN f.Nodes) ++ allN f.Nodes y.Kids[i] = (y.Kids.take (i + 1)).flatMap (allN f.Nodes) := by
        rw [List.take_succ_eq_append_getElem hi, List.flatMap_append]; simp
      have hlen2 : ((y.Kids.take (i + 1)).flatMap (allN f.Nodes)).length ≤ (y.Kids.flatMap (allN f.Nodes)).length := by
        conv => rhs; rw [← List.take_append_drop (i + 1) y.Kids]
        rw [List.flatMap_append, List.length_append]; omega
      rw [ha, List.length_cons] at hl
      rw [← hlen, List.length_append] at hlen2
      rw [hy, bnd_some, cnd_pos (by simpa using hi), bnd_some, idx_lt hi, bnd_some, ih _ fu hki (by rw [T.way_kid hkin, List.length_cons]; omega) (by omega), bnd_some, roomy_ok (by simp only [List.length_cons]; omega), bnd_some, rng_nat (by omega), bnd_some, ← hlen]
      rfl
    · simp only [Instarref03_Order_l1]
      rw [hy, bnd_some, cnd_neg (by simp), List.take_length, ha]
end
section
variable {f : Forest} {fu : Nat} (hs : Small f) (hfu : 1000 < fu) (hr : frightB f = true)
include hs hfu hr
theorem Root_ok {n : Int} (hn : InN f.Nodes n) : Forest_Root_m fu f n = some (rootN f.Nodes n) := by
  have := hs.few
  unfold Forest_Root_m
  rw [asked1 hfu (hs.fit hfu) hr hn, bnd_some, Bool.not_true, cnd_false, froot_ok (right_tree hr) hn (by omega), bnd_some]
theorem Holds_ok {a n : Int} (ha : InN f.Nodes a) (hn : InN f.Nodes n) : Forest_Holds_m fu f a n = some (holdsB f.Nodes a n) := by
  have := hs.few
  unfold Forest_Holds_m
  rw [asked2 hfu (hs.fit hfu) hr ha hn, bnd_some, Bool.not_true, cnd_false, holds_l (right_tree hr) ha.ne _ n hn ((right_tree hr).fin n hn) fu (by omega)]
  rfl
theorem Order_ok {n : Int} (hn : InN f.Nodes n) : Forest_Order_m fu f n = some (allN f.Nodes n) := by
  have := hs.few
  have hl := (right_tree hr).all_len hn
  unfold Forest_Order_m
  rw [asked1 hfu (hs.fit hfu) hr hn, bnd_some, Bool.not_true, cnd_false, order_l (right_tree hr) fu [n] [] (by simp [hn]) (by simp; omega) (by simp; omega)]
  simp
theorem Place_ok {n : Int} (hn : InN f.Nodes n) : Forest_Place_m fu f n = some (if parI f.Nodes n = -1 then -1 else findI (kidsI f.Nodes (parI f.Nodes n)) n) := by
  unfold Forest_Place_m
  obtain ⟨y, hy⟩ := idx_some hn
  have hp := par_at hy
  rw [asked1 hfu (hs.fit hfu) hr hn, bnd_some, Bool.not_true, cnd_false, hy, bnd_some, cnd_eq, ← hp]
  by_cases h : parI f.Nodes n = -1
  · rw [if_pos h, if_pos h]
  · obtain ⟨z, hz⟩ := idx_some ((right_tree hr).par n hn h).1
    have := hs.kids z (idx_mem hz)
    rw [if_neg h, if_neg h, bnd_some, ← hp, hz, bnd_some, sIndex_ok (by omega) (by omega), bnd_some, kids_at hz]
theorem Ahead_ok {a b : Int} (ha : InN f.Nodes a) (hb : InN f.Nodes b) : Forest_Ahead_m fu f a b = some (decide (rootN f.Nodes a = rootN f.Nodes b) && decide (findI (allN f.Nodes (rootN f.Nodes a)) a < findI (allN f.Nodes (rootN f.Nodes a)) b)) := by
  have := hs.few
  have T := right_tree hr
  have hl := T.all_len (T.root_in ha)
  unfold Forest_Ahead_m
  rw [asked2 hfu (hs.fit hfu) hr ha hb, bnd_some, Bool.not_true, cnd_false, froot_ok T ha (by omega), bnd_some, froot_ok T hb (by omega), bnd_some, cnd_ne, bnd_some]
  by_cases h : rootN f.Nodes a = rootN f.Nodes b
  · rw [if_pos h, decide_eq_true h, Order_ok hs hfu hr (T.root_in ha), bnd_some, sIndex_ok (by omega) (by omega), bnd_some, sIndex_ok (by omega) (by omega), bnd_some, Bool.true_and]
  · rw [if_neg h, decide_eq_false h]; rfl
theorem rOrder_ok {n : Int} (hn : InN f.Nodes n) : Instarref03_Order_m fu f n = some (allN f.Nodes n) := by
  have := hs.few
  exact rorder_ok (right_tree hr) hs 101 n fu hn (by omega) (by omega)
theorem rPlace_ok {n : Int} (hn : InN f.Nodes n) : Instarref03_Place_m fu f n = some (if parI f.Nodes n = -1 then -1 else findI (kidsI f.Nodes (parI f.Nodes n)) n) := by
  unfold Instarref03_Place_m
  obtain ⟨y, hy⟩ := idx_some hn
  have hp := par_at hy
  rw [hy, bnd_some, cnd_eq, ← hp]
  by_cases h : parI f.Nodes n = -1
  · rw [if_pos h, if_pos h]
  · obtain ⟨z, hz⟩ := idx_some ((right_tree hr).par n hn h).1
    have := hs.kids z (idx_mem hz)
    rw [if_neg h, if_neg h, bnd_some, ← hp, hz, bnd_some, find_ok (by omega) (by omega), bnd_some, kids_at hz]
theorem rHolds_ok {a n : Int} (ha : InN f.Nodes a) (hn : InN f.Nodes n) : Instarref03_Holds_m fu f a n = some (holdsB f.Nodes a n) := by
  have := hs.few
  have T := right_tree hr
  have hl := T.all_len ha
  unfold Instarref03_Holds_m
  rw [rOrder_ok hs hfu hr ha, bnd_some, has_ok (by omega) (by omega), bnd_some]
  congr 1
  rw [Bool.eq_iff_iff, holdsB_iff, decide_eq_true_eq]
  rw [show (((allN f.Nodes a).count n : Nat) : Int) > 0 ↔ 0 < (allN f.Nodes a).count n by omega, List.count_pos_iff]
  exact ⟨fun h => (T.all_in a ha n h).2, fun h => T.mem_all ha n hn h⟩
theorem rAhead_ok {a b : Int} (ha : InN f.Nodes a) : Instarref03_Ahead_m fu f a b = some (decide (findI (allN f.Nodes (rootN f.Nodes a)) b > findI (allN f.Nodes (rootN f.Nodes a)) a)) := by
  have := hs.few
  have T := right_tree hr
  have hl := T.all_len (T.root_in ha)
  unfold Instarref03_Ahead_m
  rw [rroot_ok T ha (by omega), bnd_some, rOrder_ok hs hfu hr (T.root_in ha), bnd_some, find_ok (by omega) (by omega), bnd_some, find_ok (by omega) (by omega), bnd_some]
end
end Go.Proofs.Ytcaepigodglihaa
