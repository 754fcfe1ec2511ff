/- Plain laws on the models, one behind the other. -/
import Derived.Test.YtkngnghbnhgfjaaGreatLw1
/- What the models of shade.Top, Connected, All, Over, Elems, and of the document's own, come to. -/
namespace Go.Proofs.YtkngnghbnhgfjaaGreat
open Go Go.Pw

theorem sout_cast (f : Forest) (n : Int) : cnd (decide (n < 0)) (some true) (some (decide (n ≥ ((f.Nodes.length : Nat) : Int)))) = some (!(inB f n)) := by
  rw [cnd_dec]
  unfold inB
  by_cases h : n < 0
  · rw [if_pos h, decide_eq_false (show ¬ (0 ≤ n ∧ n < f.Nodes.length) by omega)]; rfl
  · rw [if_neg h]
    congr 1
    by_cases h2 : n < f.Nodes.length
    · rw [decide_eq_true (show 0 ≤ n ∧ n < f.Nodes.length by omega), decide_eq_false (by omega)]; rfl
    · rw [decide_eq_false (show ¬ (0 ≤ n ∧ n < f.Nodes.length) by omega), decide_eq_true (by omega)]; rfl
theorem shthere_ok {fu : Nat} {f : Forest} {l : List Int} (hfu : 1000 < fu) (hk : KidsFit fu f.Nodes) (hl : l.length ≤ 100) : Shade_there_m fu f l = some (frightB f && l.all (inB f)) := by
  unfold Shade_there_m
  rw [fright_ok hfu hk, bnd_some]
  cases frightB f with
  | false => rfl
  | true =>
    rw [cnd_true, containsFInt_ok (p := fun n => !(inB f n)) (fun n _ => by unfold Shade_there_1_m; exact sout_cast f n) (by omega) (by omega), bnd_some, all_not_any]
    rfl
section
variable {fu : Nat} {f : Forest} (hfu : 1000 < fu) (hk : KidsFit fu f.Nodes)
include hfu hk
theorem sh1 {n : Int} (hr : frightB f = true) (h : InN f.Nodes n) : Shade_there_m fu f [n] = some true := by
  rw [shthere_ok hfu hk (by simp), hr]; simp [inB_of h]
end
section
variable {f : Forest} (T : TreeU f.Nodes)
include T
theorem full_l (K : Nat) : ∀ (st out : List Int), (∀ x ∈ st, InN f.Nodes x) → (st.flatMap (allU f.Nodes)).length < K → out.length + (st.flatMap (allU f.Nodes)).length ≤ 1000000 → Shade_All_l1 f K (out, st) = some (out ++ st.reverse.flatMap (allU f.Nodes)) := by
  induction K with
  | zero => intro _ _ _ h; omega
  | succ K ih =>
    intro st out hst hlt hb
    have stlen : ∀ l : List Int, (∀ x ∈ l, InN f.Nodes x) → l.length ≤ (l.flatMap (allU f.Nodes)).length := by
      intro l
      induction l with
      | nil => intro _; simp
      | cons x l ihl =>
        intro h
        have := ihl fun y hy => h y (by simp [hy])
        have h1 : 1 ≤ (allU f.Nodes x).length := by rw [T.all_eq (h x (by simp))]; simp
        simp only [List.flatMap_cons, List.length_append, List.length_cons]; omega
    rcases List.eq_nil_or_concat st with rfl | ⟨st', x, hst'⟩
    · simp only [Shade_All_l1]
      rw [cnd_neg (by simp)]; simp
    · rw [List.concat_eq_append] at hst'
      subst hst'
      have hin := hst x (by simp)
      obtain ⟨y, hy⟩ := idx_some hin
      have hk := sub_at hy
      have ha := T.all_eq hin
      simp only [List.flatMap_append, List.flatMap_cons, List.flatMap_nil, List.append_nil, List.length_append, ha, List.length_cons] at hlt hb
      have hl1 := stlen st' fun z hz => hst z (by simp [hz])
      have hkin : ∀ k ∈ subI f.Nodes x, InN f.Nodes k := fun k h => (T.kid x k h).2.1
      have hl2 := stlen _ hkin
      have hl3 : y.Kids.length ≤ (subI f.Nodes x).length := by rw [hk]; simp
      simp only [Shade_All_l1]
      have hlen1 : (((st' ++ [x]).length : Nat) : Int) - 1 = ((st'.length : Nat) : Int) := by simp
      rw [cnd_pos (by simp), hlen1, rng64 (by omega) (by omega), bnd_some, idx_lt (by simp : st'.length < (st' ++ [x]).length), bnd_some, show (0 : Int) = ((0 : Nat) : Int) from rfl, piece_nat (by omega) (by simp), bnd_some]
      rw [show (st' ++ [x])[st'.length]'(by simp) = x by simp, show ((st' ++ [x]).drop 0).take (st'.length - 0) = st' by simp]
      rw [roomy_ok (by simp; omega), bnd_some, hy, bnd_some]
      have l2 : ∀ (k : Nat) (l : List Int), k ≤ y.Kids.length → l.length + k ≤ 1000000 → Shade_All_l2 out x y (Shade_All_l1 f K) k l = Shade_All_l1 f K (out ++ [x], l ++ ((if y.Under = -1 then [] else [y.Under]) ++ y.Kids.take k).reverse) := by
        intro k
        induction k with
        | zero =>
          intro l _ hl
          simp only [Shade_All_l2]
          rw [cnd_ne, roomy_ok (by simp; omega), bnd_some]
          by_cases hu : y.Under = -1
          · rw [if_pos hu, if_pos hu]; simp
          · rw [if_neg hu, if_neg hu]; simp
        | succ k ihk =>
          intro l hk1 hl
          have hk2 : k < y.Kids.length := by omega
          simp only [Shade_All_l2]
          rw [List.getElem?_eq_getElem hk2, bnd_some, roomy_ok (by simp; omega), bnd_some, ihk _ (by omega) (by simp; omega), List.take_succ_eq_append_getElem hk2, ← List.append_assoc, List.reverse_append (bs := [y.Kids[k]]), List.append_assoc]
          rfl
      rw [l2 _ _ (Nat.le_refl _) (by omega), List.take_length, ← hk]
      have hst2 : ∀ z ∈ st' ++ (subI f.Nodes x).reverse, InN f.Nodes z := fun z hz => by
        rcases List.mem_append.1 hz with hz | hz
        · exact hst z (by simp [hz])
        · exact hkin z (by simpa using hz)
      have hrev : ((subI f.Nodes x).reverse.flatMap (allU f.Nodes)).length = ((subI f.Nodes x).flatMap (allU f.Nodes)).length := by
        rw [List.length_flatMap, List.length_flatMap, List.map_reverse, List.sum_reverse]
      rw [ih (st' ++ (subI f.Nodes x).reverse) (out ++ [x]) hst2 (by simp only [List.flatMap_append, List.length_append, hrev]; omega) (by simp only [List.flatMap_append, List.length_append, hrev, List.length_cons, List.length_nil]; omega)]
      simp [ha]
end
/-! ## What is left of a list -/
section
variable {f : Forest} {fu : Nat} (hs : Small f) (hfu : 1000 < fu) (hr : frightB f = true)
include hs hfu hr
end
end Go.Proofs.YtkngnghbnhgfjaaGreat
/- twin.Alike and shade.All on forests of up to 400 nodes. -/
namespace Go.Proofs.YtkngnghbnhgfjaaGreat
open Go Go.Pw
set_option linter.unusedVariables false

theorem mfind_new : ∀ (l : List (Bs × Attr)) (k : Bs), k ∉ l.map (·.1) → mfind l k = none
  | [], _, _ => rfl
  | x :: l, k, h => by
    simp only [List.map_cons, List.mem_cons, not_or] at h
    unfold mfind
    rw [if_neg (fun e => h.1 e.symm), mfind_new l k h.2]
    rfl
theorem tbl_app : ∀ (l : List Attr) (m : List (Bs × Attr)), (l.map (·.Name)).Nodup → (∀ a ∈ l, a.Name ∉ m.map (·.1)) → tbl l m = m ++ l.map fun a => (a.Name, a)
  | [], m, _, _ => by simp [tbl]
  | a :: l, m, hn, hm => by
    simp only [List.map_cons, List.nodup_cons] at hn
    rw [tbl, mput, mfind_new m a.Name (hm a (by simp))]
    simp only []
    rw [tbl_app l _ hn.2 fun b hb => by
      simp only [List.map_append, List.map_cons, List.map_nil, List.mem_append, List.mem_singleton, not_or]
      exact ⟨hm b (by simp [hb]), fun e => hn.1 (e ▸ List.mem_map.2 ⟨b, hb, rfl⟩)⟩]
    simp
theorem look_at : ∀ (l : List Attr) (a z : Attr), (l.map (·.Name)).Nodup → a ∈ l → mhas (l.map fun a => (a.Name, a)) a.Name = true ∧ mget (l.map fun a => (a.Name, a)) a.Name z = a := by
  intro l a z hn ha
  have key : ∃ j : Nat, mfind (l.map fun a => (a.Name, a)) a.Name = some j ∧ l[j]? = some a := by
    clear z
    induction l with
    | nil => simp at ha
    | cons b l ih =>
      simp only [List.map_cons, List.nodup_cons] at hn
      unfold mfind
      simp only [List.map_cons]
      by_cases hb : b.Name = a.Name
      · rw [if_pos hb]
        refine ⟨0, rfl, ?_⟩
        rcases List.mem_cons.1 ha with rfl | ha
        · rfl
        · exact absurd (List.mem_map.2 ⟨a, ha, hb.symm⟩) hn.1
      · rw [if_neg hb]
        rcases List.mem_cons.1 ha with rfl | ha
        · exact absurd rfl hb
        · obtain ⟨j, h1, h2⟩ := ih hn.2 ha
          exact ⟨j + 1, by rw [h1]; rfl, by simpa using h2⟩
  obtain ⟨j, h1, h2⟩ := key
  unfold mhas mget
  rw [h1]
  refine ⟨rfl, ?_⟩
  simp only []
  rw [List.getElem?_map, h2]
  rfl
theorem attr_alike {fu : Nat} {l : List Attr} (hf : 1000 < fu) (h : attrB l = true) : Attr_Alike_m fu l l = some true := by
  obtain ⟨hl, _⟩ := attrB_parts h
  have hnd : (l.map (·.Name)).Nodup := by
    have := h
    unfold attrB at this
    simp only [Bool.and_eq_true, decide_eq_true_eq] at this
    exact this.2.2
  unfold Attr_Alike_m
  rw [attrRight_ok (by omega), bnd_some, h]
  simp only [bnd_some, Bool.not_true, cnd_false]
  rw [show (((l.length : Nat) : Int) != ((l.length : Nat) : Int)) = false from by simp, cnd_false, table_ok (by omega) (by omega), bnd_some, tbl_app l [] hnd (by simp), List.nil_append]
  unfold Slices_ContainsFunc_apiAttr_v2_m Slices_IndexFunc_apiAttr_v2_m
  obtain ⟨r, h1, h2⟩ := up_index (L := Slices_IndexFunc_apiAttr_v2_l1 (fun z1 => Attr_Alike_1_m fu z1 (l.map fun a => (a.Name, a))) l) l (fun _ => false) (fun i hi k => by
    obtain ⟨g1, g2⟩ := look_at l l[i] ⟨[], []⟩ hnd (List.getElem_mem hi)
    simp only [Slices_IndexFunc_apiAttr_v2_l1]
    rw [cnd_pos (by simpa using hi), idx_lt hi, bnd_some]
    unfold Attr_Alike_1_m
    rw [g1, show (!true) = false from rfl, cnd_false, g2, bnd_some, rng_nat (by omega), bnd_some]
    have : eqAttr l[i] l[i] = true := by unfold eqAttr; simp
    rw [this]
    rfl) (fun k => by simp only [Slices_IndexFunc_apiAttr_v2_l1]; rw [cnd_neg (by simp)]) (k := fu) (by omega)
  rw [h1, bnd_some, bnd_some, h2]
  simp
/-- Rows that are alike but for their kids. -/
theorem alike_row {fu : Nat} {x y : Node} (hf : 1000 < fu) (h : bareX x = bareX y) (ha : attrB y.Attrs = true) : Twin_alike_m fu x y = some true := by
  unfold bareX at h
  simp only [Prod.mk.injEq] at h
  obtain ⟨h1, h2, h3, h4, h5, h6⟩ := h
  unfold Twin_alike_m
  rw [h1, h2, h3, h4, h5, h6]
  simp only [beq_self_eq_true, cnd_true]
  rw [attr_alike hf ha, bnd_some, cnd_true]
section
variable {fu : Nat} {f : Forest} (hr : frightB f = true) (hk : KidsFit fu f.Nodes) (hfu : 2000 < fu)
include hr hk hfu
theorem order_r {n : Int} (hn : InN f.Nodes n) : Forest_Order_m fu f n = some (allN f.Nodes n) := by
  have := (right_parts hr).2.1
  have hl := (right_tree hr).all_len hn
  unfold Forest_Order_m
  rw [asked1 (by omega) hk hr hn, bnd_some, Bool.not_true, cnd_false, order_l (right_tree hr) fu [n] [] (by simp [hn]) (by simp; omega) (by simp; omega)]
  simp
theorem all_r {n : Int} (hn : InN f.Nodes n) : Shade_All_m fu f n = some (allU f.Nodes n) := by
  have := (right_parts hr).2.1
  have hl := (right_full hr).all_len hn
  unfold Shade_All_m
  rw [sh1 (by omega) hk hr hn, bnd_some, Bool.not_true, cnd_false, full_l (right_full hr) fu [n] [] (by simp [hn]) (by simp; omega) (by simp; omega)]
  simp
theorem twin_there {a b : Int} (ha : InN f.Nodes a) (hb : InN f.Nodes b) : Twin_there_m fu f [a, b] = some true := by
  unfold Twin_there_m
  rw [fright_ok (by omega) hk, bnd_some, hr, cnd_true, containsFInt_ok (p := fun n => !(inB f n)) (fun n _ => by unfold Twin_there_1_m; exact sout_cast f n) (by simp; omega) (by simp), bnd_some, all_not_any]
  simp [inB_of ha, inB_of hb]
/-- Two nodes whose orders show the same rows are alike. -/
theorem alike_m {a b : Int} (ha : InN f.Nodes a) (hb : InN f.Nodes b) (h : (allN f.Nodes a).map (bare f.Nodes) = (allN f.Nodes b).map (bare f.Nodes)) : Twin_Alike_m fu f a b = some true := by
  have T := right_tree hr
  have hl4 := (right_parts hr).2.1
  have h3 := (right_parts hr).2.2.1
  have hl := T.all_len ha
  have hlen : (allN f.Nodes a).length = (allN f.Nodes b).length := by have := congrArg List.length h; simpa using this
  unfold Twin_Alike_m Slices_EqualFunc_int_m
  rw [twin_there hr hk hfu ha hb, bnd_some, show (!true) = false from rfl, cnd_false, order_r hr hk hfu ha, bnd_some, order_r hr hk hfu hb, bnd_some, hlen, show ((((allN f.Nodes b).length : Nat) : Int) != (((allN f.Nodes b).length : Nat) : Int)) = false from by simp, cnd_false]
  have key : ∀ (j i k : Nat), i + j = (allN f.Nodes a).length → j < k → Slices_EqualFunc_int_l1 (fun z1 z2 => Twin_Alike_1_m fu z1 z2 f) (allN f.Nodes a) (allN f.Nodes b) k (i : Int) = some true := by
    intro j
    induction j with
    | zero =>
      intro i k hi hk'
      obtain ⟨k, rfl⟩ : ∃ k', k = k' + 1 := ⟨k - 1, by omega⟩
      obtain rfl : i = (allN f.Nodes a).length := by omega
      rw [Slices_EqualFunc_int_l1, cnd_neg (by simp)]
    | succ j ih =>
      intro i k hi hk'
      obtain ⟨k, rfl⟩ : ∃ k', k = k' + 1 := ⟨k - 1, by omega⟩
      have h1 : i < (allN f.Nodes a).length := by omega
      have h2 : i < (allN f.Nodes b).length := by omega
      have hi1 := (T.all_in a ha _ (List.getElem_mem h1)).1
      have hi2 := (T.all_in b hb _ (List.getElem_mem h2)).1
      obtain ⟨x, hx⟩ := idx_some hi1
      obtain ⟨y, hy⟩ := idx_some hi2
      have he : bareX x = bareX y := by
        have := congrArg (fun l => l[i]?) h
        simp only [List.getElem?_map, List.getElem?_eq_getElem h1, List.getElem?_eq_getElem h2, Option.map_some, bare, hx, hy, Option.some.injEq] at this
        exact this
      have hay : attrB y.Attrs = true := by
        have hby := nodes_at h3 hy
        unfold nodeB namedB at hby
        simp only [Bool.and_eq_true] at hby
        have := hby.1
        split at this
        · simp only [Bool.and_eq_true] at this; exact this.2.2.2
        · split at this
          · simp only [Bool.and_eq_true, decide_eq_true_eq, List.length_eq_zero_iff] at this; rw [this.2.2.2]; rfl
          · split at this
            · simp only [Bool.and_eq_true, decide_eq_true_eq, List.length_eq_zero_iff] at this; rw [this.2.2.2]; rfl
            · cases this
      rw [Slices_EqualFunc_int_l1, cnd_pos (by simpa using h1), idx_lt h1, bnd_some, idx_lt h2, bnd_some]
      unfold Twin_Alike_1_m
      rw [hx, bnd_some, hy, bnd_some, alike_row (by omega) he hay, bnd_some, bnd_some, show (!true) = false from rfl, cnd_false, rng_nat (by omega), bnd_some]
      exact ih (i + 1) k (by omega) (by omega)
  have := key (allN f.Nodes a).length 0 fu (by omega) (by omega)
  rw [show ((0 : Nat) : Int) = 0 from rfl] at this
  rw [this, bnd_some]
end
end Go.Proofs.YtkngnghbnhgfjaaGreat
/- The law PrintBack. -/
namespace Go.Proofs.YtkngnghbnhgfjaaGreat
open Go Go.Pw
set_option linter.unusedVariables false

theorem awake_b (k : Nat) : Instarlaw08_awake_m (k + 1200) = some true := by kernel_rfl
theorem idx_run {i n j : Nat} (h : j < n) : idx (run i n) (j : Int) = some ((i + j : Nat) : Int) := idx_nat (run_get n i j h)
theorem back_l1 {g : Forest} {at' n : Nat} {e : Int} {xs : List Int} (hl : xs.length = n) (hn : n ≤ 1000000) (ha : at' ≤ 1000000) (h : xs.map (bare g.Nodes) = (run at' n).map (bare g.Nodes)) (hx : ∀ x ∈ xs, InN g.Nodes x) : ∀ (j i k : Nat), i + j = n → j < k → Instarlaw08_PrintBack_l1 (g, (at' : Int), e) xs (run at' n) k (i : Int) = some true := by
  intro j
  induction j with
  | zero =>
    intro i k hi hk
    obtain ⟨k, rfl⟩ : ∃ k', k = k' + 1 := ⟨k - 1, by omega⟩
    rw [Instarlaw08_PrintBack_l1, run_len, cnd_neg (by simp; omega)]
  | succ j ih =>
    intro i k hi hk
    obtain ⟨k, rfl⟩ : ∃ k', k = k' + 1 := ⟨k - 1, by omega⟩
    have h1 : i < xs.length := by omega
    obtain ⟨x, hxx⟩ := idx_some (hx _ (List.getElem_mem h1))
    have he := congrArg (fun l => l[i]?) h
    simp only [List.getElem?_map, List.getElem?_eq_getElem h1, run_get n at' i (by omega), Option.map_some, bare, hxx] at he
    obtain ⟨y, hy, hb⟩ : ∃ y, idx g.Nodes ((at' + i : Nat) : Int) = some y ∧ bareX x = bareX y := by
      cases hy : idx g.Nodes ((at' + i : Nat) : Int) with
      | none => rw [hy] at he; simp at he
      | some y => rw [hy] at he; simp at he; exact ⟨y, rfl, he⟩
    unfold bareX at hb
    simp only [Prod.mk.injEq] at hb
    obtain ⟨b1, b2, b3, b4, b5, b6⟩ := hb
    rw [Instarlaw08_PrintBack_l1, run_len, cnd_pos (by rw [decide_eq_true_eq]; omega), idx_run (by omega), bnd_some]
    simp only []
    rw [show ((at' : Int) + (i : Int)) = ((at' + i : Nat) : Int) from by omega, rng64 (n := ((at' + i : Nat) : Int)) (by omega) (by omega)]
    simp only [idx_lt h1, bnd_some, hxx, hy]
    rw [show (((at' + i : Nat) : Int) != ((at' + i : Nat) : Int)) = false from by simp, cnd_false, b1, b2, b4, show (y.Kind != y.Kind) = false from by simp, cnd_false, show (!(y.Data == y.Data)) = false from by simp, cnd_false, show (!(y.Name == y.Name)) = false from by simp, cnd_false, rng_nat (by omega), bnd_some]
    exact ih (i + 1) k (by omega) (by omega)
theorem put_head (t : Tr) : ∃ c q, put t = c :: q ∧ (c = 34 ∨ c = 91 ∨ c = 60) := by
  cases t with
  | text d => exact ⟨34, _, rfl, .inl rfl⟩
  | frag ks => exact ⟨91, _, rfl, .inr (.inl rfl)⟩
  | elem n i al sh us ks => exact ⟨60, _, by simp only [put, List.cons_append]; rfl, .inr (.inr rfl)⟩
theorem map_bare_app {ns m : List Node} : ∀ (l : List Int), (∀ x ∈ l, InN ns x) → l.map (bare (ns ++ m)) = l.map (bare ns) := fun l h => List.map_congr_left fun x hx => bare_app (h x hx)
theorem printBack (f : Forest) (a : Int) (ha : 0 ≤ a ∧ a ≤ 255) : ∃ fu, Instarlaw08_PrintBack_m fu f a = some true := by
  refine ⟨60000 + 1200, ?_⟩
  unfold Instarlaw08_PrintBack_m
  rw [awake_b, bnd_some, Bool.not_true, cnd_false]
  generalize hfu' : (60000 + 1200 : Nat) = fu
  have hfu : 60000 < fu := by omega
  obtain ⟨r, h1, h2⟩ := short_small60 (fu := fu) (f := f) (by omega)
  rw [h1, bnd_some]
  cases r with
  | false => rfl
  | true =>
    obtain ⟨hs, h60⟩ := h2 rfl
    have hk : KidsFit fu f.Nodes := hs.fit (by omega)
    rw [Bool.not_true, cnd_false, fright_ok (by omega) hk, bnd_some]
    cases hr : frightB f with
    | false => rfl
    | true =>
      obtain ⟨hn1, _, hnb, _⟩ := right_parts hr
      obtain ⟨n, ex, hn⟩ := rem_ok ha.1 hn1
      have hin : InN f.Nodes n := hn
      obtain ⟨x, hx⟩ := idx_some hin
      rw [Bool.not_true, cnd_false, rng64 (by omega) (by omega), bnd_some, ex, bnd_some, put_m hr hk (by omega) hin, bnd_some]
      simp only []
      rw [show ((0 : Int) != 0) = false from rfl, cnd_false, cnd_dec]
      by_cases hlen : ((((putU f.Nodes n).length : Nat) : Int) > 16384)
      · rw [if_pos hlen]; rfl
      rw [if_neg hlen, hx, bnd_some, bnd_some]
      have hr' : frightB ⟨f.Nodes, 400⟩ = true := right_most hr (by omega) (by omega) (by omega)
      have hb := nodes_at hnb hx
      unfold nodeB at hb
      simp only [Bool.and_eq_true] at hb
      obtain ⟨g1, g2, _⟩ := hb
      have hkind := kind_of_named g1
      have hd : isB f.Nodes x.Doc 0 = true := by
        unfold ownedB at g2
        simp only [Bool.and_eq_true] at g2
        exact g2.1
      have T := right_full hr
      have TT := right_tree hr
      have hpx := T.put_eq hx
      have hno : (∀ t, putU f.Nodes n ≠ put t) → Print_Read_m fu ⟨f.Nodes, 400⟩ x.Doc (putU f.Nodes n) = some (⟨f.Nodes, 400⟩, -1, 2) := fun h => by
        rcases read_cases (f := ⟨f.Nodes, 400⟩) (s := putU f.Nodes n) hr' hk (by omega) hd (by omega) with h' | ⟨t, _, h3, _⟩
        · exact h'
        · exact absurd h3 (h t)
      by_cases hk0 : x.Kind = 0
      · rw [hno fun t he => by
          obtain ⟨c, q, hc, hcc⟩ := put_head t
          rw [hpx, hc] at he
          unfold putX at he
          rw [if_neg (by omega), if_neg (by omega), if_neg (by omega), if_pos hk0] at he
          simp only [List.cons_append, List.cons.injEq] at he
          rw [← he.1] at hcc
          revert hcc
          decide, bnd_some, show (x.Kind == 0) = true from by simp [hk0], cnd_true]
        rfl
      rw [show (x.Kind == 0) = false from by simp [hk0]]
      by_cases hk4 : x.Kind = 4
      · rw [hno fun t he => by
          obtain ⟨c, q, hc, hcc⟩ := put_head t
          rw [hpx, hc] at he
          unfold putX at he
          rw [if_neg (by omega), if_neg (by omega), if_pos hk4] at he
          simp only [List.cons_append, List.cons.injEq] at he
          rw [← he.1] at hcc
          revert hcc
          decide, bnd_some, cnd_false, show (x.Kind == 4) = true from by simp [hk4], cnd_true]
        rfl
      obtain ⟨t, ht, _⟩ := (tree_ex hnb T TT n hin x hx).1 (by omega)
      have hal := T.all_len hin
      have hsz : sz t = (allU f.Nodes n).length := by
        have := congrArg List.length ht.full
        rw [List.length_map, full_len] at this
        exact this.symm
      have htx := ht.text
      have hrd := read_put (fu := fu) (f := ⟨f.Nodes, 400⟩) (doc := x.Doc) (t := t) hr' hk (by rw [htx]; omega) hd (by rw [htx]; omega) ht.wf ht.fine (by simp only []; omega)
      have hrg := lay_right (f := f) (m := 400) hr hd ht.wf ht.fine (by omega) (by omega)
      have hfit : KidsFit fu (f.Nodes ++ lay x.Doc (-1) f.Nodes.length t) := fun y hy => by
        rcases List.mem_append.1 hy with hy | hy
        · exact hk y hy
        · have := lay_kids x.Doc (-1) t f.Nodes.length y hy
          omega
      have T' := right_full hrg
      have TT' := right_tree hrg
      obtain ⟨l1, l2, l3, l4⟩ := lay_at T' TT' x.Doc (-1) t f.Nodes.length f.Nodes [] (by simp) rfl ht.wf
      have hin' : InN (f.Nodes ++ lay x.Doc (-1) f.Nodes.length t) n := in_app hin
      have hat : InN (f.Nodes ++ lay x.Doc (-1) f.Nodes.length t) ((f.Nodes.length : Nat) : Int) := by
        have := sz_pos t
        unfold InN
        simp [lay_len]; omega
      have eU : allU (f.Nodes ++ lay x.Doc (-1) f.Nodes.length t) n = allU f.Nodes n := allU_app T T' n hin
      have eN : allN (f.Nodes ++ lay x.Doc (-1) f.Nodes.length t) n = allN f.Nodes n := allN_app TT TT' n hin
      have eUb : (allU f.Nodes n).map (bare (f.Nodes ++ lay x.Doc (-1) f.Nodes.length t)) = fullN t := by
        rw [map_bare_app _ fun y hy => (T.all_in n hin y hy).1]; exact ht.full
      have eNb : (allN f.Nodes n).map (bare (f.Nodes ++ lay x.Doc (-1) f.Nodes.length t)) = bareN t := by
        rw [map_bare_app _ fun y hy => (TT.all_in n hin y hy).1]; exact ht.bare
      rw [← htx, hrd, bnd_some, cnd_false, show (x.Kind == 4) = false from by simp [hk4], cnd_false]
      simp only []
      rw [put_m hrg hfit (by omega) hat, bnd_some]
      simp only []
      rw [l1, show ((0 : Int) != 0) = false from rfl, cnd_false, cnd_false, show (!(put t == put t)) = false from by simp, cnd_false, fright_ok (by omega) hfit, bnd_some, hrg, show (!true) = false from rfl, cnd_false, show (((f.Nodes.length : Nat) : Int) != ((f.Nodes.length : Nat) : Int)) = false from by simp, cnd_false]
      rw [alike_m hrg hfit (by omega) hin' hat (by rw [l3]; simp only []; rw [eN, eNb]), bnd_some, show (!true) = false from rfl, cnd_false, all_r hrg hfit (by omega) hin', bnd_some, all_r hrg hfit (by omega) hat, bnd_some]
      simp only []
      rw [eU, l2, run_len, ← hsz, show (((sz t : Nat) : Int) != ((sz t : Nat) : Int)) = false from by simp, cnd_false]
      refine back_l1 hsz.symm (by omega) (by omega) ?_ (fun y hy => in_app (T.all_in n hin y hy).1) (sz t) 0 fu (by omega) (by omega)
      simp only []
      rw [eUb, ← l2, l4]
end Go.Proofs.YtkngnghbnhgfjaaGreat
