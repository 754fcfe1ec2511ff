/- The law ValidPut of layer 5 (valid). -/
import Derived.Test.YtcaepigodglihaaPut3
namespace Go.Proofs.Ytcaepigodglihaa
open Go Go.Pw

theorem many_elems (ns : List Node) (l : List Int) (k : Int) : manyN ns (-1) l k = l.countP fun j => isB ns j k := by
  unfold manyN
  refine List.countP_congr fun j _ => ?_
  simp only [Bool.and_eq_true, bne_iff_ne]
  exact ⟨And.right, fun h => ⟨isB_pos h, h⟩⟩
theorem put_count {f : Forest} {p : Int} {y : Node} {l : List Int} {fu : Nat} (hy : idx f.Nodes p = some y) (hl : ∀ k ∈ y.Kids ++ l, ∃ w, idx f.Nodes k = some w) (hf : (y.Kids ++ l).length < fu) (hb : (y.Kids ++ l).length ≤ 1000000) : Instarlaw05_ValidPut_l1 f p y l fu (0, 0, 0) = some (y.Kind == 0 && (decide (0 < manyN f.Nodes (-1) (y.Kids ++ l) 2) || decide (1 < manyN f.Nodes (-1) (y.Kids ++ l) 1))) := by
  have e0 : ([] : List Int) ++ y.Kids ++ l = y.Kids ++ l := by simp
  have le : ∀ i k, (((y.Kids ++ l).take i).countP fun j => isB f.Nodes j k) ≤ i := fun i k => Nat.le_trans List.countP_le_length (by simp; omega)
  have := upf (L := Instarlaw05_ValidPut_l1 f p y l) (f := fun i => (((((y.Kids ++ l).take i).countP fun j => isB f.Nodes j 2 : Nat) : Int), ((((y.Kids ++ l).take i).countP fun j => isB f.Nodes j 1 : Nat) : Int), ((i : Nat) : Int))) (v := some (y.Kind == 0 && (decide (0 < manyN f.Nodes (-1) (y.Kids ++ l) 2) || decide (1 < manyN f.Nodes (-1) (y.Kids ++ l) 1)))) (y.Kids ++ l).length (fun i hi k => ?_) (fun k => ?_) hf
  · simpa using this
  · obtain ⟨w, hw⟩ := hl _ (List.getElem_mem hi)
    have l2 := le i 2
    have l1 := le i 1
    have e2 : isB f.Nodes (y.Kids ++ l)[i] 2 = (w.Kind == 2) := by unfold isB; rw [hw]
    have e1 : isB f.Nodes (y.Kids ++ l)[i] 1 = (w.Kind == 1) := by unfold isB; rw [hw]
    have c : ∀ k, ((y.Kids ++ l).take (i + 1)).countP (fun j => isB f.Nodes j k) = ((y.Kids ++ l).take i).countP (fun j => isB f.Nodes j k) + (if isB f.Nodes (y.Kids ++ l)[i] k = true then 1 else 0) := fun k => by
      rw [List.take_succ_eq_append_getElem hi, List.countP_append]
      simp [List.countP_cons]
    simp only [Instarlaw05_ValidPut_l1]
    rw [e0, cnd_pos (decide_eq_true (by omega)), idx_lt hi, bnd_some, hw, bnd_some, rng_nat (by omega), rng_nat (by omega), rng_nat (by omega), c, c, e2, e1]
    simp only [bnd_some, hw]
    by_cases k2 : w.Kind = 2
    · simp [k2]
    · by_cases k1 : w.Kind = 1
      · simp [k1]
      · have n2 : (w.Kind == 2) = false := beq_eq_false_iff_ne.2 k2
        have n1 : (w.Kind == 1) = false := beq_eq_false_iff_ne.2 k1
        simp [n2, n1]
  · simp only [Instarlaw05_ValidPut_l1]
    rw [e0, cnd_neg (by simp), hy, bnd_some, List.take_length, many_elems, many_elems]
    generalize (y.Kids ++ l).countP (fun j => isB f.Nodes j 2) = a
    generalize (y.Kids ++ l).countP (fun j => isB f.Nodes j 1) = b
    rw [cnd_dec]
    cases y.Kind == 0 with
    | false => rfl
    | true =>
      rw [cnd_true, Bool.true_and]
      by_cases ha : 0 < a
      · rw [if_pos (by omega), decide_eq_true ha]; rfl
      · rw [if_neg (by omega), decide_eq_false ha, Bool.false_or]
        congr 1
        exact decide_eq_decide.2 (by omega)
theorem put_j1 {f : Forest} {fu : Nat} {n p child : Int} {x y : Node} (hs : Small f) (hfu : 1000 < fu) (hr : frightB f = true) (hx : idx f.Nodes n = some x) (hy : idx f.Nodes p = some y) (hc : child = -1 ∨ child ∈ y.Kids) : Instarlaw05_ValidPut_j1 fu f n p child = some true := by
  have T := right_tree hr
  have hns := (right_parts hr).2.2.1
  have hk := hs.fit hfu
  have hni : InN f.Nodes n := idx_range hx
  have hpi : InN f.Nodes p := idx_range hy
  have hyn := nodes_at hns hy
  have hxn := nodes_at hns hx
  unfold nodeB at hyn hxn
  simp only [Bool.and_eq_true] at hyn hxn
  have ky := kind_of_named hyn.1
  have kx := kind_of_named hxn.1
  have hov := over_same hs hfu hr hni hpi
  have hmay : Valid_May_m fu f n p child = some (tellI f n p child (-1) x y true) := by
    rcases hc with h | h
    · subst h
      exact may_ok hfu hk hr hx hy (.inl rfl)
    · obtain ⟨z, hz⟩ := idx_some (T.kid p child (by rw [kids_at hy]; exact h)).2.1
      have hzp : (z.Parent == p) = true := beq_iff_eq.2 (kid_par hr hy hz h)
      have := may_ok (child := child) hfu hk hr hx hy (.inr ⟨z, hz⟩)
      simp only [hz, hzp, Bool.or_true] at this
      exact this
  unfold Instarlaw05_ValidPut_j1
  rw [hmay, bnd_some, cnd_eq]
  by_cases ht : tellI f n p child (-1) x y true = 0
  · obtain ⟨t1, t2, t3, t4, t5⟩ := tell_facts ht
    have M : May f n p x y := ⟨hx, hy, t1, by rw [← hov]; exact t2, t3, t4, t5⟩
    obtain ⟨g, K, e, H, hK⟩ := put_ok hr M hs hfu hc (by rw [hmay, ht])
    have hg : frightB ⟨g, f.Most⟩ = true := fin_right (g := ⟨g, f.Most⟩) hr M H hK rfl
    have hkg : KidsFit fu g := fun v hv => by
      obtain ⟨i, hi, rfl⟩ := List.getElem_of_mem hv
      have hin : InN f.Nodes (i : Int) := ⟨by omega, by have := H.len; omega⟩
      obtain ⟨w, hw⟩ := idx_some hin
      have hiv := H.at_ _ w hw
      rw [idx_lt hi] at hiv
      have hle : (finN f (partsL n x) p y.Doc K (partsL n x) (i : Int) w).Kids.length ≤ 200 := by
        simp only [finN]
        split
        · have h1 := hK.length_eq
          have h2 := May.len M hs
          have h3 : (y.Kids.filter (fun k => !((partsL n x).contains k))).length ≤ 60 := Nat.le_trans (List.length_filter_le _ _) (hs.kids y (idx_mem hy))
          rw [List.length_append] at h1
          omega
        · exact Nat.le_trans (List.length_filter_le _ _) (by have := hs.kids w (idx_mem hw); omega)
      rw [Option.some.inj hiv]
      omega
    rw [if_pos ht, e, bnd_some, fright_ok (f := ⟨g, f.Most⟩) hfu hkg, bnd_some, hg]
  · rw [if_neg ht, hx, bnd_some, over_ok hfu hk hr (inB_of hni) (inB_of hpi), bnd_some, hy, bnd_some, bnd_some, cnd_eq, cnd_eq, cnd_eq, cnd_eq]
    have h5 : tellI f n p child (-1) x y true = 5 ∧ (overB f n p = true ∨ x.Kind = 0 ∨ x.Kind = 4 ∨ y.Kind = 2 ∨ y.Kind = 0 ∧ crowdB f.Nodes p (-1) (partsL n x) = true) := by
      unfold tellI at ht ⊢
      rw [show (if x.Kind = 3 then x.Kids else [n]) = partsL n x from rfl] at ht ⊢
      generalize partsL n x = L at ht ⊢
      by_cases h1 : holderB y.Kind = false
      · rw [if_pos h1]
        rw [holder_iff ky] at h1
        exact ⟨rfl, .inr (.inr (.inr (.inl (by simpa using h1))))⟩
      · rw [if_neg h1] at ht ⊢
        by_cases h2 : overB f n p = true
        · rw [if_pos h2]; exact ⟨rfl, .inl h2⟩
        · rw [if_neg h2, if_neg (show ¬ true = false by simp)] at ht ⊢
          by_cases h3 : x.Kind = 0 ∨ x.Kind = 4
          · rw [if_pos h3]
            exact ⟨rfl, .inr (h3.imp id .inl)⟩
          · rw [if_neg h3] at ht ⊢
            by_cases h4 : y.Kind = 0
            · rw [if_pos h4] at ht ⊢
              by_cases h6 : crowdB f.Nodes p (-1) L = true
              · rw [if_pos h6]
                exact ⟨rfl, .inr (.inr (.inr (.inr ⟨h4, h6⟩)))⟩
              · rw [if_neg h6] at ht; exact absurd rfl ht
            · rw [if_neg h4] at ht; exact absurd rfl ht
    obtain ⟨h5, hor⟩ := h5
    rw [if_pos h5]
    cases ho : overB f n p with
    | true => rfl
    | false =>
      rw [cnd_false]
      by_cases k0 : x.Kind = 0
      · rw [if_pos k0]
      by_cases k4 : x.Kind = 4
      · rw [if_neg k0, if_pos k4]
      by_cases y2 : y.Kind = 2
      · rw [if_neg k0, if_neg k4, if_pos y2]
      rw [if_neg k0, if_neg k4, if_neg y2]
      obtain ⟨y0, hcr⟩ : y.Kind = 0 ∧ crowdB f.Nodes p (-1) (partsL n x) = true := by
        rcases hor with h | h | h | h | h
        · rw [ho] at h; cases h
        · exact absurd h k0
        · exact absurd h k4
        · exact absurd h y2
        · exact h
      have hyk := hs.kids y (idx_mem hy)
      have hxk := hs.kids x (idx_mem hx)
      have hpl : (partsL n x).length ≤ 60 := by
        unfold partsL
        split
        · exact hxk
        · simp
      have hparts : Valid_Parts_m fu f n = some (partsL n x) := by
        unfold Valid_Parts_m partsL
        rw [vthere_ok hfu (hs.fit hfu) hr (by simp), bnd_some]
        simp only [List.all_cons, List.all_nil, inB_of hni, Bool.and_self, Bool.not_true, cnd_false]
        rw [hx, bnd_some, cnd_eq, bnd_some]
        unfold Slices_Clone_int_m
        rw [roomy_ok (by simp; omega), bnd_some, bnd_some, List.nil_append]
        split <;> rfl
      have hin : ∀ k ∈ y.Kids ++ partsL n x, ∃ w, idx f.Nodes k = some w := fun k hk => by
        rcases List.mem_append.1 hk with hk | hk
        · exact kids_there hns hy k hk
        · unfold partsL at hk
          split at hk
          · exact kids_there hns hx k hk
          · rw [List.mem_singleton] at hk
            subst hk; exact ⟨x, hx⟩
      rw [roomy_ok (by simp; omega), bnd_some, hparts, bnd_some, roomy_ok (by simp only [List.length_append, List.length_nil]; omega), bnd_some, put_count hy hin (by rw [List.length_append]; omega) (by rw [List.length_append]; omega)]
      congr 1
      have m : ∀ k, manyN f.Nodes (-1) (y.Kids ++ partsL n x) k = manyN f.Nodes (-1) y.Kids k + manyN f.Nodes (-1) (partsL n x) k := fun k => by unfold manyN; rw [List.countP_append]
      unfold crowdB at hcr
      rw [hy] at hcr
      simp only [Bool.or_eq_true, Bool.and_eq_true, decide_eq_true_eq] at hcr
      rw [y0, m, m, Bool.and_eq_true, Bool.or_eq_true, decide_eq_true_eq, decide_eq_true_eq]
      refine ⟨rfl, ?_⟩
      rcases hcr with h | ⟨h1, h2⟩
      · exact .inl (by omega)
      · exact .inr (by omega)
theorem validPut (f : Forest) (a b c : Int) (last : Bool) (ha : 0 ≤ a ∧ a ≤ 255) (hb : 0 ≤ b ∧ b ≤ 255) (hc : 0 ≤ c ∧ c ≤ 255) : ∃ fu, Instarlaw05_ValidPut_m fu f a b c last = some true := by
  refine ⟨2000, ?_⟩
  unfold Instarlaw05_ValidPut_m
  rw [awake05, bnd_some, Bool.not_true, cnd_false]
  generalize hfu' : (2000 : Nat) = fu
  have hfu : 1000 < fu := by omega
  obtain ⟨r, h1, h2⟩ := short_small (fu := fu) (f := f) hfu
  rw [h1, bnd_some]
  cases r with
  | false => rfl
  | true =>
    have hs := h2 rfl
    rw [Bool.not_true, cnd_false, fright_ok hfu (hs.fit hfu), bnd_some]
    cases hr : frightB f with
    | false => rfl
    | true =>
      have hn := (right_parts hr).1
      have hfew := hs.few
      obtain ⟨n, en, hnr⟩ := rem_ok ha.1 hn
      obtain ⟨p, ep, hpr⟩ := rem_ok hb.1 hn
      obtain ⟨x, hx⟩ := idx_some hnr
      obtain ⟨y, hy⟩ := idx_some hpr
      have none := put_j1 (child := -1) hs hfu hr hx hy (.inl rfl)
      have hkids := hs.kids y (idx_mem hy)
      rw [Bool.not_true, cnd_false, rng64 (by omega) (by omega), bnd_some, en, bnd_some, rng64 (by omega) (by omega), bnd_some, ep, bnd_some, hy, bnd_some, none]
      by_cases h0 : y.Kids.length = 0
      · rw [cnd_neg (by rw [h0]; rfl)]
      · rw [cnd_pos (decide_eq_true (by omega))]
        cases last with
        | true => rfl
        | false =>
          obtain ⟨m, em, hm⟩ := rem_ok hc.1 (show 1 ≤ y.Kids.length by omega)
          obtain ⟨ch, hch⟩ := idx_some hm
          rw [Bool.not_false, cnd_true, rng64 (by omega) (by omega), bnd_some, em, bnd_some, hch, bnd_some]
          exact put_j1 hs hfu hr hx hy (.inr (idx_mem hch))
end Go.Proofs.Ytcaepigodglihaa
