/- What the models of shade.Top, Connected, All, Over, Elems, and of the document's own, come to. -/
import Derived.Test.YtcaepigodglihaaSha1
namespace Go.Proofs.Ytcaepigodglihaa
open Go Go.Pw

theorem sout_cast (f : Forest) (n : Int) : cnd (decide (n < 0)) (some true) (some (decide (n ≥ ((f.Nodes.length : Nat) : Int)))) = some (!(inB f n)) := by
  rw [cnd_dec]
  unfold inB
  by_cases h : n < 0
  · rw [if_pos h, decide_eq_false (show ¬ (0 ≤ n ∧ n < f.Nodes.length) by omega)]; rfl
  · rw [if_neg h]
    congr 1
    by_cases h2 : n < f.Nodes.length
    · rw [decide_eq_true (show 0 ≤ n ∧ n < f.Nodes.length by omega), decide_eq_false (by omega)]; rfl
    · rw [decide_eq_false (show ¬ (0 ≤ n ∧ n < f.Nodes.length) by omega), decide_eq_true (by omega)]; rfl
theorem shthere_ok {fu : Nat} {f : Forest} {l : List Int} (hfu : 1000 < fu) (hk : KidsFit fu f.Nodes) (hl : l.length ≤ 100) : Shade_there_m fu f l = some (frightB f && l.all (inB f)) := by
  unfold Shade_there_m
  rw [fright_ok hfu hk, bnd_some]
  cases frightB f with
  | false => rfl
  | true =>
    rw [cnd_true, containsFInt_ok (p := fun n => !(inB f n)) (fun n _ => by unfold Shade_there_1_m; exact sout_cast f n) (by omega) (by omega), bnd_some, all_not_any]
    rfl
section
variable {fu : Nat} {f : Forest} (hfu : 1000 < fu) (hk : KidsFit fu f.Nodes)
include hfu hk
theorem sh1 {n : Int} (hr : frightB f = true) (h : InN f.Nodes n) : Shade_there_m fu f [n] = some true := by
  rw [shthere_ok hfu hk (by simp), hr]; simp [inB_of h]
theorem sh2 {n m : Int} (hr : frightB f = true) (h : InN f.Nodes n) (h' : InN f.Nodes m) : Shade_there_m fu f [n, m] = some true := by
  rw [shthere_ok hfu hk (by simp), hr]; simp [inB_of h, inB_of h']
theorem sh_no1 {a : Int} (h : frightB f = false ∨ inB f a = false) : Shade_there_m fu f [a] = some false := by
  rw [shthere_ok hfu hk (by simp)]
  rcases h with h | h
  · rw [h]; rfl
  · simp [h]
theorem sh_no2 {a b : Int} (h : frightB f = false ∨ inB f a = false ∨ inB f b = false) : Shade_there_m fu f [a, b] = some false := by
  rw [shthere_ok hfu hk (by simp)]
  rcases h with h | h | h
  · rw [h]; rfl
  · simp [h]
  · simp [h]
end
theorem supU {fu : Nat} {f : Forest} {n : Int} {x : Node} (hx : idx f.Nodes n = some x) : Shade_up_m fu f n = some (upI f.Nodes n) := by
  unfold Shade_up_m
  rw [hx, bnd_some, bnd_some, cnd_ne, upI_at hx]
  split <;> rfl
section
variable {f : Forest} (T : TreeU f.Nodes)
include T
theorem top_l (fu k : Nat) : ∀ n, InN f.Nodes n → climbQ f.Nodes k n → ∀ K, k ≤ K → Shade_Top_l1 fu f K n = some (topF f.Nodes k n) := by
  induction k with
  | zero => intro n _ h; exact h.elim
  | succ k ih =>
    intro n hn hc K hK
    obtain ⟨K, rfl⟩ : ∃ K', K = K' + 1 := ⟨K - 1, by omega⟩
    obtain ⟨x, hx⟩ := idx_some hn
    simp only [Shade_Top_l1, topF]
    rw [supU hx, bnd_some, bnd_some, cnd_ne]
    by_cases h : upI f.Nodes n = -1
    · rw [if_pos h, if_pos h]
    · rw [if_neg h, if_neg h]
      exact ih _ (T.par n hn h).1 (hc.resolve_left h) K (by omega)
theorem rtop_l (k : Nat) : ∀ n, InN f.Nodes n → climbQ f.Nodes k n → ∀ K, k ≤ K → Instarref04_Top_m K f n = some (topF f.Nodes k n) := by
  induction k with
  | zero => intro n _ h; exact h.elim
  | succ k ih =>
    intro n hn hc K hK
    obtain ⟨K, rfl⟩ : ∃ K', K = K' + 1 := ⟨K - 1, by omega⟩
    obtain ⟨x, hx⟩ := idx_some hn
    have hu := upI_at hx
    simp only [Instarref04_Top_m, topF]
    rw [hx]
    simp only [bnd_some, cnd_ne]
    by_cases hp : x.Parent = -1
    · rw [if_pos hp]
      rw [if_pos hp] at hu
      by_cases h : upI f.Nodes n = -1
      · rw [if_pos (by rw [← hu]; exact h), if_pos h]
      · rw [if_neg (by rw [← hu]; exact h), if_neg h, ← hu, ih _ (T.par n hn h).1 (hc.resolve_left h) K (by omega), bnd_some]
    · rw [if_neg hp] at hu
      have h : upI f.Nodes n ≠ -1 := by rw [hu]; exact hp
      rw [if_neg hp, if_neg h, ← hu, ih _ (T.par n hn h).1 (hc.resolve_left h) K (by omega), bnd_some]
theorem over_l {fu : Nat} {a : Int} (ha : a ≠ -1) (k : Nat) : ∀ n, InN f.Nodes n → climbQ f.Nodes k n → ∀ K, k < K → Shade_Over_l1 fu f a K n = some ((wayUF f.Nodes k n).contains a) := by
  induction k with
  | zero => intro n _ h; exact h.elim
  | succ k ih =>
    intro n hn hc K hK
    obtain ⟨K, rfl⟩ : ∃ K', K = K' + 1 := ⟨K - 1, by omega⟩
    obtain ⟨x, hx⟩ := idx_some hn
    simp only [Shade_Over_l1, wayUF]
    rw [supU hx, bnd_some, cnd_ne, cnd_ne, if_neg hn.ne]
    by_cases he : n = a
    · rw [if_pos he, he]; simp
    · rw [if_neg he]
      have hx' : (a == n) = false := beq_eq_false_iff_ne.2 (Ne.symm he)
      rw [List.contains_cons, hx', Bool.false_or]
      by_cases h : upI f.Nodes n = -1
      · obtain ⟨K, rfl⟩ : ∃ K', K = K' + 1 := ⟨K - 1, by omega⟩
        rw [if_pos h, h]
        simp only [Shade_Over_l1]
        rw [cnd_neg (by simp)]
        simp [Ne.symm ha]
      · rw [if_neg h, ih _ (T.par n hn h).1 (hc.resolve_left h) K (by omega)]
def overU (ns : List Node) (a b : Int) : Bool := (wayU ns b).contains a
omit T in
theorem overU_iff {ns : List Node} {a b : Int} : overU ns a b = true ↔ a ∈ wayU ns b := List.contains_iff_mem
theorem full_l (K : Nat) : ∀ (st out : List Int), (∀ x ∈ st, InN f.Nodes x) → (st.flatMap (allU f.Nodes)).length < K → out.length + (st.flatMap (allU f.Nodes)).length ≤ 1000000 → Shade_All_l1 f K (out, st) = some (out ++ st.reverse.flatMap (allU f.Nodes)) := by
  induction K with
  | zero => intro _ _ _ h; omega
  | succ K ih =>
    intro st out hst hlt hb
    have stlen : ∀ l : List Int, (∀ x ∈ l, InN f.Nodes x) → l.length ≤ (l.flatMap (allU f.Nodes)).length := by
      intro l
      induction l with
      | nil => intro _; simp
      | cons x l ihl =>
        intro h
        have := ihl fun y hy => h y (by simp [hy])
        have h1 : 1 ≤ (allU f.Nodes x).length := by rw [T.all_eq (h x (by simp))]; simp
        simp only [List.flatMap_cons, List.length_append, List.length_cons]; omega
    rcases List.eq_nil_or_concat st with rfl | ⟨st', x, hst'⟩
    · simp only [Shade_All_l1]
      rw [cnd_neg (by simp)]; simp
    · rw [List.concat_eq_append] at hst'
      subst hst'
      have hin := hst x (by simp)
      obtain ⟨y, hy⟩ := idx_some hin
      have hk := sub_at hy
      have ha := T.all_eq hin
      simp only [List.flatMap_append, List.flatMap_cons, List.flatMap_nil, List.append_nil, List.length_append, ha, List.length_cons] at hlt hb
      have hl1 := stlen st' fun z hz => hst z (by simp [hz])
      have hkin : ∀ k ∈ subI f.Nodes x, InN f.Nodes k := fun k h => (T.kid x k h).2.1
      have hl2 := stlen _ hkin
      have hl3 : y.Kids.length ≤ (subI f.Nodes x).length := by rw [hk]; simp
      simp only [Shade_All_l1]
      have hlen1 : (((st' ++ [x]).length : Nat) : Int) - 1 = ((st'.length : Nat) : Int) := by simp
      rw [cnd_pos (by simp), hlen1, rng64 (by omega) (by omega), bnd_some, idx_lt (by simp : st'.length < (st' ++ [x]).length), bnd_some, show (0 : Int) = ((0 : Nat) : Int) from rfl, piece_nat (by omega) (by simp), bnd_some]
      rw [show (st' ++ [x])[st'.length]'(by simp) = x by simp, show ((st' ++ [x]).drop 0).take (st'.length - 0) = st' by simp]
      rw [roomy_ok (by simp; omega), bnd_some, hy, bnd_some]
      have l2 : ∀ (k : Nat) (l : List Int), k ≤ y.Kids.length → l.length + k ≤ 1000000 → Shade_All_l2 out x y (Shade_All_l1 f K) k l = Shade_All_l1 f K (out ++ [x], l ++ ((if y.Under = -1 then [] else [y.Under]) ++ y.Kids.take k).reverse) := by
        intro k
        induction k with
        | zero =>
          intro l _ hl
          simp only [Shade_All_l2]
          rw [cnd_ne, roomy_ok (by simp; omega), bnd_some]
          by_cases hu : y.Under = -1
          · rw [if_pos hu, if_pos hu]; simp
          · rw [if_neg hu, if_neg hu]; simp
        | succ k ihk =>
          intro l hk1 hl
          have hk2 : k < y.Kids.length := by omega
          simp only [Shade_All_l2]
          rw [List.getElem?_eq_getElem hk2, bnd_some, roomy_ok (by simp; omega), bnd_some, ihk _ (by omega) (by simp; omega), List.take_succ_eq_append_getElem hk2, ← List.append_assoc, List.reverse_append (bs := [y.Kids[k]]), List.append_assoc]
          rfl
      rw [l2 _ _ (Nat.le_refl _) (by omega), List.take_length, ← hk]
      have hst2 : ∀ z ∈ st' ++ (subI f.Nodes x).reverse, InN f.Nodes z := fun z hz => by
        rcases List.mem_append.1 hz with hz | hz
        · exact hst z (by simp [hz])
        · exact hkin z (by simpa using hz)
      have hrev : ((subI f.Nodes x).reverse.flatMap (allU f.Nodes)).length = ((subI f.Nodes x).flatMap (allU f.Nodes)).length := by
        rw [List.length_flatMap, List.length_flatMap, List.map_reverse, List.sum_reverse]
      rw [ih (st' ++ (subI f.Nodes x).reverse) (out ++ [x]) hst2 (by simp only [List.flatMap_append, List.length_append, hrev]; omega) (by simp only [List.flatMap_append, List.length_append, hrev, List.length_cons, List.length_nil]; omega)]
      simp [ha]
theorem rfull_ok (hs : Small f) : ∀ (d : Nat) (n : Int) (fu : Nat), InN f.Nodes n → f.Nodes.length < (wayU f.Nodes n).length + d → d + 100 ≤ fu → Instarref04_All_m fu f n = some (allU f.Nodes n) := by
  intro d
  induction d with
  | zero => intro n fu hn h; have := T.wayU_len hn; omega
  | succ d ih =>
    intro n fu hn h hfu
    obtain ⟨fu, rfl⟩ : ∃ K', fu = K' + 1 := ⟨fu - 1, by omega⟩
    obtain ⟨y, hy⟩ := idx_some hn
    have hk := sub_at hy
    have ha := T.all_eq hn
    have hl := T.all_len hn
    have hks := hs.kids y (idx_mem hy)
    have hf := hs.few
    have rest : ∀ l0 : List Int, l0.length + (y.Kids.flatMap (allU f.Nodes)).length ≤ 1000 → Instarref04_All_j1 (Instarref04_All_m fu) fu f n l0 = some (l0 ++ y.Kids.flatMap (allU f.Nodes)) := fun l0 hl0 => by
      unfold Instarref04_All_j1
      have := upf (L := Instarref04_All_l1 (Instarref04_All_m fu) f n) (f := fun i => ((i : Int), l0 ++ (y.Kids.take i).flatMap (allU f.Nodes))) (v := some (l0 ++ y.Kids.flatMap (allU f.Nodes))) y.Kids.length (fun i hi k => ?_) (fun k => ?_) (k := fu) (by omega)
      · simpa using this
      · have hkin : y.Kids[i] ∈ subI f.Nodes n := by rw [hk]; exact List.mem_append.2 (.inr (List.getElem_mem hi))
        have hki := (T.kid n _ hkin).2.1
        simp only [Instarref04_All_l1]
        have hlen : (y.Kids.take i).flatMap (allU f.Nodes) ++ allU f.Nodes y.Kids[i] = (y.Kids.take (i + 1)).flatMap (allU f.Nodes) := by
          rw [List.take_succ_eq_append_getElem hi, List.flatMap_append]; simp
        have hlen2 : ((y.Kids.take (i + 1)).flatMap (allU f.Nodes)).length ≤ (y.Kids.flatMap (allU f.Nodes)).length := by
          conv => rhs; rw [← List.take_append_drop (i + 1) y.Kids]
          rw [List.flatMap_append, List.length_append]; omega
        rw [← hlen, List.length_append] at hlen2
        rw [hy, bnd_some, cnd_pos (by simpa using hi), bnd_some, idx_lt hi, bnd_some, ih _ fu hki (by rw [T.wayU_kid hkin, List.length_cons]; omega) (by omega), bnd_some, roomy_ok (by simp only [List.length_append]; omega), bnd_some, rng_nat (by omega), bnd_some, List.append_assoc, hlen]
      · simp only [Instarref04_All_l1]
        rw [hy, bnd_some, cnd_neg (by simp), List.take_length]
    have hall : (allU f.Nodes n).length ≤ 100 := by omega
    rw [ha, hk, List.flatMap_append] at hall ⊢
    simp only [List.length_cons, List.length_append] at hall
    simp only [Instarref04_All_m]
    rw [hy, bnd_some, bnd_some, cnd_ne]
    by_cases hu : y.Under = -1
    · rw [if_pos hu, if_pos hu, rest [n] (by simp only [List.length_cons, List.length_nil]; omega)]
      rfl
    · rw [if_neg hu] at hall
      have hkin : y.Under ∈ subI f.Nodes n := by rw [hk, if_neg hu]; simp
      have hki := (T.kid n _ hkin).2.1
      have e1 : [y.Under].flatMap (allU f.Nodes) = allU f.Nodes y.Under := by simp
      rw [e1] at hall
      rw [if_neg hu, if_neg hu, ih _ fu hki (by rw [T.wayU_kid hkin, List.length_cons]; omega) (by omega), bnd_some, roomy_ok (by simp only [List.length_cons, List.length_nil]; omega), bnd_some, rest _ (by simp only [List.length_append, List.length_cons, List.length_nil]; omega), e1]
      rfl
end
/-! ## What is left of a list -/
theorem deleteF_ok {fu : Nat} {t : Int → Option Bool} {p : Int → Bool} {l : List Int} (ht : ∀ x ∈ l, t x = some (p x)) (hf : l.length < fu) (hb : l.length ≤ 1000000) : Slices_DeleteFunc_int_m fu t l = some (l.filter fun x => !(p x)) := by
  have idxf : Slices_IndexFunc_int_v2_m fu t l = some (match (List.range l.length).find? (fun i => match l[i]? with | some x => p x | none => false) with | some j => (j : Int) | none => -1) := by
    unfold Slices_IndexFunc_int_v2_m
    rw [up_find (L := Slices_IndexFunc_int_v2_l1 t l) (fun i => match l[i]? with | some x => p x | none => false) (fun j => some (j : Int)) (some (-1)) l.length (fun j hj hp k => ?_) (fun j hj hp k => ?_) (fun k => ?_) hf]
    · cases (List.range l.length).find? (fun i => match l[i]? with | some x => p x | none => false) <;> rfl
    · rw [List.getElem?_eq_getElem hj] at hp
      simp only at hp
      simp only [Slices_IndexFunc_int_v2_l1]
      rw [cnd_pos (by simpa using hj), idx_lt hj, bnd_some, ht _ (List.getElem_mem hj), bnd_some, hp, cnd_true]
    · rw [List.getElem?_eq_getElem hj] at hp
      simp only at hp
      simp only [Slices_IndexFunc_int_v2_l1]
      rw [cnd_pos (by simpa using hj), idx_lt hj, bnd_some, ht _ (List.getElem_mem hj), bnd_some, hp, cnd_false, rng_nat (by omega), bnd_some]
    · simp only [Slices_IndexFunc_int_v2_l1]
      rw [cnd_neg (by simp)]
  have loop : ∀ (m i j k : Nat) (l' : List Int), j + m = l.length → i < j → l'.length = l.length → l'.take i = (l.take j).filter (fun x => !(p x)) → l'.drop j = l.drop j → m < k → Slices_DeleteFunc_int_l1 t k ((i : Int), (j : Int), l') = some (l.filter fun x => !(p x)) := by
    intro m
    induction m with
    | zero =>
      intro i j k l' hj hij hl' h1 h2 hk
      obtain ⟨k, rfl⟩ : ∃ K', k = K' + 1 := ⟨k - 1, by omega⟩
      obtain rfl : j = l.length := by omega
      simp only [Slices_DeleteFunc_int_l1]
      rw [cnd_neg (by simp; omega)]
      unfold tailz
      rw [if_pos (by omega), bnd_some]
      have hp := piece_nat (s := l'.take ((i : Int)).toNat ++ List.replicate (l'.length - ((i : Int)).toNat) 0) (i := 0) (j := i) (by omega) (by simp; omega)
      rw [show ((0 : Nat) : Int) = 0 from rfl] at hp
      rw [hp, bnd_some]
      simp only [Int.toNat_natCast, Nat.sub_zero, List.drop_zero]
      rw [List.take_append_of_le_length (by simp; omega), List.take_take, Nat.min_self, h1, List.take_length]
    | succ m ih =>
      intro i j k l' hj hij hl' h1 h2 hk
      obtain ⟨k, rfl⟩ : ∃ K', k = K' + 1 := ⟨k - 1, by omega⟩
      have hjl : j < l.length := by omega
      have hjl' : j < l'.length := by omega
      have hil' : i < l'.length := by omega
      have hget : l'[j] = l[j] := by
        rw [List.drop_eq_getElem_cons hjl, List.drop_eq_getElem_cons hjl'] at h2
        exact (List.cons.inj h2).1
      have hdrop : l'.drop (j + 1) = l.drop (j + 1) := by
        rw [List.drop_eq_getElem_cons hjl, List.drop_eq_getElem_cons hjl'] at h2
        exact (List.cons.inj h2).2
      simp only [Slices_DeleteFunc_int_l1]
      rw [cnd_pos (by simp; omega), idx_lt hjl', bnd_some, hget, ht _ (List.getElem_mem hjl), bnd_some, idx_lt hil', bnd_some, rng_nat (by omega), bnd_some, rng_nat (by omega), bnd_some, bnd_some]
      cases hp : p l[j] with
      | true =>
        rw [Bool.not_true, cnd_false]
        exact ih i (j + 1) k l' (by omega) (by omega) hl' (by rw [h1, List.take_succ_eq_append_getElem hjl, List.filter_append]; simp [hp]) hdrop (by omega)
      | false =>
        rw [Bool.not_false, cnd_true]
        refine ih (i + 1) (j + 1) k _ (by omega) (by omega) (by simpa using hl') ?_ ?_ (by omega)
        · rw [Int.toNat_natCast, List.take_succ_eq_append_getElem hjl, List.filter_append, ← h1, List.take_succ_eq_append_getElem (by simpa using hil'), List.take_set_of_le (Nat.le_refl i), List.getElem_set_self]
          simp [hp]
        · rw [← hdrop, Int.toNat_natCast, List.drop_set_of_lt (by omega)]
  unfold Slices_DeleteFunc_int_m
  rw [idxf, bnd_some]
  cases hfd : (List.range l.length).find? (fun i => match l[i]? with | some x => p x | none => false) with
  | none =>
    simp only
    rw [cnd_pos (by simp)]
    congr 1
    rw [List.find?_eq_none] at hfd
    refine (List.filter_eq_self.2 fun x hx => ?_).symm
    obtain ⟨i, hi, rfl⟩ := List.getElem_of_mem hx
    have := hfd i (by simpa using hi)
    rw [List.getElem?_eq_getElem hi] at this
    simpa using this
  | some i =>
    simp only
    rw [List.find?_range_eq_some] at hfd
    obtain ⟨h1, h2, h3⟩ := hfd
    have hi : i < l.length := by simpa using h2
    rw [List.getElem?_eq_getElem hi] at h1
    simp only at h1
    rw [cnd_neg (by simp), rng_nat (by omega), bnd_some]
    refine loop (l.length - (i + 1)) i (i + 1) fu l (by omega) (by omega) rfl ?_ rfl (by omega)
    rw [List.take_succ_eq_append_getElem hi, List.filter_append]
    have e1 : (l.take i).filter (fun x => !(p x)) = l.take i := List.filter_eq_self.2 fun x hx => by
      obtain ⟨j, hj, rfl⟩ := List.getElem_of_mem hx
      have hj' : j < i := by simp at hj; omega
      have := h3 j hj'
      rw [List.getElem?_eq_getElem (by omega : j < l.length)] at this
      simpa using this
    rw [e1]
    simp [h1]
section
variable {f : Forest} {fu : Nat} (hs : Small f) (hfu : 1000 < fu) (hr : frightB f = true)
include hs hfu hr
theorem Top_ok {n : Int} (hn : InN f.Nodes n) : Shade_Top_m fu f n = some (topN f.Nodes n) := by
  have := hs.few
  unfold Shade_Top_m
  rw [sh1 hfu (hs.fit hfu) hr hn, bnd_some, Bool.not_true, cnd_false, top_l (right_full hr) fu _ n hn ((right_full hr).fin n hn) fu (by omega)]
  rfl
theorem rTop_ok {n : Int} (hn : InN f.Nodes n) : Instarref04_Top_m fu f n = some (topN f.Nodes n) := by
  have := hs.few
  exact rtop_l (right_full hr) _ n hn ((right_full hr).fin n hn) fu (by omega)
def connB (ns : List Node) (n : Int) : Bool := isB ns (topN ns n) 0
theorem Conn_ok {n : Int} (hn : InN f.Nodes n) : Shade_Connected_m fu f n = some (connB f.Nodes n) := by
  have ht := (right_full hr).root_in hn
  obtain ⟨x, hx⟩ := idx_some ht
  unfold Shade_Connected_m connB isB
  rw [Top_ok hs hfu hr hn, bnd_some, cnd_ne, if_neg ht.ne, hx, bnd_some]
theorem rConn_ok {n : Int} (hn : InN f.Nodes n) : Instarref04_Connected_m fu f n = some (connB f.Nodes n) := by
  have ht := (right_full hr).root_in hn
  obtain ⟨x, hx⟩ := idx_some ht
  unfold Instarref04_Connected_m connB isB
  rw [rTop_ok hs hfu hr hn, bnd_some, hx, bnd_some]
theorem Over_ok {a n : Int} (ha : InN f.Nodes a) (hn : InN f.Nodes n) : Shade_Over_m fu f a n = some (overU f.Nodes a n) := by
  have := hs.few
  unfold Shade_Over_m
  rw [sh2 hfu (hs.fit hfu) hr ha hn, bnd_some, Bool.not_true, cnd_false, over_l (right_full hr) ha.ne _ n hn ((right_full hr).fin n hn) fu (by omega)]
  rfl
theorem All_ok {n : Int} (hn : InN f.Nodes n) : Shade_All_m fu f n = some (allU f.Nodes n) := by
  have := hs.few
  have hl := (right_full hr).all_len hn
  unfold Shade_All_m
  rw [sh1 hfu (hs.fit hfu) hr hn, bnd_some, Bool.not_true, cnd_false, full_l (right_full hr) fu [n] [] (by simp [hn]) (by simp; omega) (by simp; omega)]
  simp
theorem rAll_ok {n : Int} (hn : InN f.Nodes n) : Instarref04_All_m fu f n = some (allU f.Nodes n) := by
  have := hs.few
  exact rfull_ok (right_full hr) hs 101 n fu hn (by omega) (by omega)
theorem rOver_ok {a n : Int} (ha : InN f.Nodes a) (hn : InN f.Nodes n) : Instarref04_Over_m fu f a n = some (overU f.Nodes a n) := by
  have := hs.few
  have T := right_full hr
  have hl := T.all_len ha
  unfold Instarref04_Over_m
  rw [rAll_ok hs hfu hr ha, bnd_some, has_ok (by omega) (by omega), bnd_some]
  congr 1
  rw [Bool.eq_iff_iff, overU_iff, decide_eq_true_eq]
  rw [show (((allU f.Nodes a).count n : Nat) : Int) > 0 ↔ 0 < (allU f.Nodes a).count n by omega, List.count_pos_iff]
  exact ⟨fun h => (T.all_in a ha n h).2, fun h => T.mem_all ha n hn h⟩
def elemsU (ns : List Node) (n : Int) : List Int := (allU ns n).filter fun k => isB ns k 1
theorem Elems_ok {n : Int} (hn : InN f.Nodes n) : Shade_Elems_m fu f n = some (elemsU f.Nodes n) := by
  have := hs.few
  have T := right_full hr
  have hl := T.all_len hn
  unfold Shade_Elems_m
  rw [All_ok hs hfu hr hn, bnd_some, deleteF_ok (p := fun k => !(isB f.Nodes k 1)) (fun k hk => ?_) (by omega) (by omega), bnd_some]
  · unfold elemsU
    simp only [Bool.not_not]
  · obtain ⟨x, hx⟩ := idx_some (T.all_in n hn k hk).1
    unfold Shade_Elems_1_m isB
    rw [hx, bnd_some]; rfl
theorem rElems_ok {n : Int} (hn : InN f.Nodes n) : Instarref04_Elems_m fu f n = some (elemsU f.Nodes n) := by
  have := hs.few
  have T := right_full hr
  have hl := T.all_len hn
  unfold Instarref04_Elems_m
  rw [rAll_ok hs hfu hr hn, bnd_some]
  have := upf (L := Instarref04_Elems_l1 f (allU f.Nodes n)) (f := fun i => ((i : Int), ((allU f.Nodes n).take i).filter fun k => isB f.Nodes k 1)) (v := some (elemsU f.Nodes n)) (allU f.Nodes n).length (fun i hi k => ?_) (fun k => ?_) (k := fu) (by omega)
  · simpa using this
  · obtain ⟨x, hx⟩ := idx_some (T.all_in n hn _ (List.getElem_mem hi)).1
    have hlen : (((allU f.Nodes n).take i).filter fun k => isB f.Nodes k 1).length ≤ 1000 := Nat.le_trans (List.length_filter_le _ _) (by simp; omega)
    have hb : isB f.Nodes (allU f.Nodes n)[i] 1 = (x.Kind == 1) := by unfold isB; rw [hx]
    simp only [Instarref04_Elems_l1]
    rw [cnd_pos (by simpa using hi), idx_lt hi, bnd_some, hx, bnd_some, bnd_some, roomy_ok (by simp only [List.length_cons, List.length_nil]; omega), bnd_some, rng_nat (by omega), bnd_some, bnd_some, List.take_succ_eq_append_getElem hi, List.filter_append]
    cases hk : x.Kind == 1 with
    | true => simp [hb, hk]
    | false => simp [hb, hk]
  · simp only [Instarref04_Elems_l1]
    rw [cnd_neg (by simp), List.take_length]
    rfl
end
end Go.Proofs.Ytcaepigodglihaa
