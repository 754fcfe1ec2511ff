/- The document's own test of a forest comes to what the program's comes to. -/
import Derived.Test.YtcaepigodglihaaTre7
namespace Go.Proofs.Ytcaepigodglihaa
open Go Go.Pw

theorem r_kid {fu : Nat} {f : Forest} {n : Int} {x : Node} (hk : x.Kids.length < fu ∧ x.Kids.length ≤ 1000000) {i : Nat} (hi : i < x.Kids.length) (k : Nat) :
    Instarref03_Node_l1 fu f n x (k + 1) (((elemsOf f.Nodes (x.Kids.take i) : Nat) : Int), (i : Int)) = bif kidR f.Nodes n x x.Kids[i] then Instarref03_Node_l1 fu f n x k (((elemsOf f.Nodes (x.Kids.take (i + 1)) : Nat) : Int), ((i + 1 : Nat) : Int)) else some false := by
  have he : elemsOf f.Nodes (x.Kids.take i) ≤ i := Nat.le_trans (elems_le f.Nodes _) (by simp; omega)
  simp only [Instarref03_Node_l1]
  rw [cnd_pos (by simpa using hi), idx_lt hi, bnd_some, has_ok hk.1 hk.2, bnd_some, rng_nat (by omega), rng_nat (by omega)]
  simp only [cnd_dec, cnd_ne, cnd_eq, bnd_some]
  unfold kidR
  by_cases hin : 0 ≤ x.Kids[i] ∧ x.Kids[i] < f.Nodes.length
  case neg =>
    rw [idx_none hin]
    by_cases h2 : x.Kids[i] < 0
    · rw [if_pos h2]; rfl
    · rw [if_neg h2, if_pos (by omega)]; rfl
  obtain ⟨y, hy⟩ := idx_some hin
  rw [if_neg (by omega), if_neg (by omega), hy]
  simp only [bnd_some]
  by_cases hc : x.Kids.count x.Kids[i] = 1
  case neg => rw [if_neg (by omega), decide_eq_false hc]; rfl
  rw [if_pos (by omega), decide_eq_true hc, Bool.true_and]
  have hisB : isB f.Nodes x.Kids[i] 1 = (y.Kind == 1) := by unfold isB; rw [hy]
  rw [elems_succ f.Nodes hi, hisB]
  have ek : ∀ a b : Int, a ≠ b → (a == b) = false := fun a b h => beq_eq_false_iff_ne.2 h
  by_cases h1 : y.Kind = 1
  · rw [if_pos h1]
    by_cases h3 : y.Parent = n
    · by_cases h4 : y.Doc = x.Doc
      · simp [h1, h3, h4]
      · simp [h1, h3, h4, ek _ _ h4]
    · simp [h3, ek _ _ h3]
  · rw [if_neg h1]
    by_cases h2 : y.Kind = 2
    · by_cases h3 : y.Parent = n
      · by_cases h4 : y.Doc = x.Doc
        · simp [h2, h3, h4]
        · simp [h2, h3, h4, ek _ _ h4]
      · simp [h2, h3, ek _ _ h3]
    · simp [h2, ek _ _ h1, ek _ _ h2]
theorem r_kids {fu : Nat} {f : Forest} {n : Int} {x : Node} (hfu : 200 < fu) (hk : x.Kids.length < fu ∧ x.Kids.length ≤ 1000000) : Instarref03_Node_j2 fu f n x () = some ((x.Kids.all (kidR f.Nodes n x)) && (endR f.Nodes x && (hostB f.Nodes n x && (underB f.Nodes n x && nameR x)))) := by
  unfold Instarref03_Node_j2
  have key : ∀ (j i k : Nat), i + j = x.Kids.length → j < k → Instarref03_Node_l1 fu f n x k (((elemsOf f.Nodes (x.Kids.take i) : Nat) : Int), (i : Int)) = some (((x.Kids.drop i).all (kidR f.Nodes n x)) && (endR f.Nodes x && (hostB f.Nodes n x && (underB f.Nodes n x && nameR x)))) := by
    intro j
    induction j with
    | zero =>
      intro i k hi hk'
      obtain ⟨k, rfl⟩ : ∃ k', k = k' + 1 := ⟨k - 1, by omega⟩
      obtain rfl : i = x.Kids.length := by omega
      rw [List.take_length, r_end hfu, List.drop_length]; rfl
    | succ j ih =>
      intro i k hi hk'
      obtain ⟨k, rfl⟩ : ∃ k', k = k' + 1 := ⟨k - 1, by omega⟩
      have h : i < x.Kids.length := by omega
      rw [r_kid hk h, List.drop_eq_getElem_cons h, List.all_cons]
      cases kidR f.Nodes n x x.Kids[i] with
      | false => rfl
      | true => rw [cond_true, Bool.true_and]; exact ih (i + 1) k (by omega) (by omega)
  have := key x.Kids.length 0 fu (by omega) hk.1
  rw [List.take_zero, List.drop_zero] at this
  exact this
theorem r_j1 {fu : Nat} {f : Forest} {n : Int} {x : Node} (hfu : 200 < fu) (hk : KidsFit fu f.Nodes) (hx : idx f.Nodes n = some x) : Instarref03_Node_j1 fu f n x () = some (parR f.Nodes n x && ((x.Kids.all (kidR f.Nodes n x)) && (endR f.Nodes x && (hostB f.Nodes n x && (underB f.Nodes n x && nameR x))))) := by
  unfold Instarref03_Node_j1 parR
  rw [r_kids hfu (hk x (idx_mem hx))]
  generalize ((x.Kids.all (kidR f.Nodes n x)) && (endR f.Nodes x && (hostB f.Nodes n x && (underB f.Nodes n x && nameR x)))) = r
  simp only [cnd_dec, cnd_ne, cnd_eq]
  by_cases h : x.Parent = -1
  · rw [if_pos h]; simp [h]
  · have e : (x.Parent == -1) = false := beq_eq_false_iff_ne.2 h
    rw [if_neg h, e, Bool.false_or]
    by_cases hin : 0 ≤ x.Parent ∧ x.Parent < f.Nodes.length
    · obtain ⟨p, hp⟩ := idx_some hin
      have hm := hk p (idx_mem hp)
      rw [hp]
      simp only [bnd_some, has_ok hm.1 hm.2]
      rw [if_neg (show ¬ x.Parent < 0 by omega), if_neg (show ¬ x.Parent ≥ ((f.Nodes.length : Nat) : Int) by omega)]
      have ec : ∀ a b : Option Bool, (if ((p.Kids.count n : Nat) : Int) = 1 then a else b) = if p.Kids.count n = 1 then a else b := fun a b => by
        by_cases h : p.Kids.count n = 1
        · rw [if_pos h, if_pos (by omega)]
        · rw [if_neg h, if_neg (by omega)]
      simp only [ec]
      by_cases h2 : p.Kind = 2
      · by_cases h3 : x.Kind = 1
        · simp [h2, h3]
        · by_cases h4 : x.Kind = 2
          · simp [h2, h4]
          · simp [h3, h4]
      · by_cases h5 : p.Kids.count n = 1
        · by_cases h3 : x.Kind = 1
          · simp [h2, h3, h5]
          · by_cases h4 : x.Kind = 2
            · simp [h2, h4, h5]
            · simp [h3, h4]
        · by_cases h3 : x.Kind = 1
          · simp [h2, h3, h5]
          · by_cases h4 : x.Kind = 2
            · simp [h2, h4, h5]
            · simp [h3, h4]
    · rw [idx_none hin]
      by_cases h2 : x.Parent < 0
      · simp [h2]
      · have h3 : x.Parent ≥ ((f.Nodes.length : Nat) : Int) := by omega
        simp [h2, h3]
theorem rnode_ok {fu : Nat} {f : Forest} {n : Int} {x : Node} (hfu : 200 < fu) (hk : KidsFit fu f.Nodes) (hx : idx f.Nodes n = some x) : Instarref03_Node_m fu f n = some (nodeR f.Nodes n x) := by
  unfold Instarref03_Node_m nodeR
  rw [hx, bnd_some, r_j1 hfu hk hx]
  generalize (parR f.Nodes n x && ((x.Kids.all (kidR f.Nodes n x)) && (endR f.Nodes x && (hostB f.Nodes n x && (underB f.Nodes n x && nameR x))))) = r
  simp only [cnd_dec, cnd_ne, cnd_eq]
  by_cases h1 : 0 ≤ x.Kind ∧ x.Kind ≤ 4
  case neg =>
    rw [decide_eq_false h1]
    by_cases h2 : x.Kind < 0
    · rw [if_pos h2]; rfl
    · rw [if_neg h2, if_pos (by omega)]; rfl
  rw [if_neg (by omega), if_neg (by omega), decide_eq_true h1, Bool.true_and]
  unfold isB
  by_cases hin : 0 ≤ x.Doc ∧ x.Doc < f.Nodes.length
  case neg =>
    rw [idx_none hin]
    by_cases h2 : x.Doc < 0
    · rw [if_pos h2]; rfl
    · rw [if_neg h2, if_pos (by omega)]; rfl
  obtain ⟨d, hd⟩ := idx_some hin
  rw [if_neg (by omega), if_neg (by omega), hd, bnd_some]
  by_cases h3 : d.Kind = 0
  case neg => rw [if_neg h3]; simp [h3]
  rw [if_pos h3]
  by_cases h4 : x.Kind = 0
  · rw [if_pos h4]
    by_cases h5 : x.Doc = n
    · simp [h3, h5]
    · simp [h3, h4, h5]
  · rw [if_neg h4]; simp [h3, h4]

/-! ## All nodes -/
theorem kind_of_named {x : Node} (h : namedB x = true) : 0 ≤ x.Kind ∧ x.Kind ≤ 4 := by
  unfold namedB at h
  by_cases h1 : x.Kind = 1
  · omega
  rw [if_neg h1] at h
  by_cases h2 : x.Kind = 2
  · omega
  rw [if_neg h2] at h
  by_cases h3 : x.Kind = 0 ∨ x.Kind = 3 ∨ x.Kind = 4
  · omega
  rw [if_neg h3] at h
  cases h
theorem name_same {x : Node} (h : 0 ≤ x.Kind ∧ x.Kind ≤ 4) : nameR x = namedB x := by
  unfold nameR namedB
  by_cases h1 : x.Kind = 1
  · rw [if_pos h1, if_pos h1]
  rw [if_neg h1, if_neg h1]
  by_cases h2 : x.Kind = 2
  · rw [if_pos h2, h2]
    by_cases h3 : x.Data = []
    · simp [h3]
    · have e3 : (x.Data == ([] : Bs)) = false := by simpa using h3
      rw [e3]
      cases x.Name == ([] : Bs) <;> cases x.Is == ([] : Bs) <;> cases decide (x.Attrs.length = 0) <;> cases decide (x.Data.length ≤ 200) <;> rfl
  · rw [if_neg h2, if_pos (by omega)]
    have e2 : (x.Kind == 2) = false := beq_eq_false_iff_ne.2 h2
    rw [e2]
    cases x.Name == ([] : Bs) <;> cases x.Is == ([] : Bs) <;> cases decide (x.Attrs.length = 0) <;> cases x.Data == ([] : Bs) <;> rfl
theorem holder_iff {k : Int} (h : 0 ≤ k ∧ k ≤ 4) : holderB k = (k != 2) := by
  unfold holderB
  have : k = 0 ∨ k = 1 ∨ k = 2 ∨ k = 3 ∨ k = 4 := by omega
  rcases this with rfl | rfl | rfl | rfl | rfl <;> rfl
def AllB (ns : List Node) (p : Int → Node → Bool) : Prop := ∀ n x, idx ns n = some x → p n x = true
theorem nodes_same {ns : List Node} : AllB ns (nodeB ns) ↔ AllB ns (nodeR ns) := by
  constructor
  · intro h n x hx
    have hh := h n x hx
    unfold nodeB at hh
    simp only [Bool.and_eq_true] at hh
    obtain ⟨h1, h2, h3, h4, h5, h6⟩ := hh
    have hk := kind_of_named h1
    unfold ownedB at h2
    unfold bearsB at h4
    simp only [Bool.and_eq_true, decide_eq_true_eq, List.all_eq_true] at h2 h4
    obtain ⟨b1, b2, b3, b4⟩ := h4
    have hkid : ∀ k ∈ x.Kids, ∃ y, idx ns k = some y ∧ y.Parent = n ∧ y.Doc = x.Doc ∧ (y.Kind = 1 ∨ y.Kind = 2 ∧ x.Kind ≠ 0) := fun k hk => by
      have := b2 k hk
      unfold kidB at this
      cases hy : idx ns k with
      | none => rw [hy] at this; cases this
      | some y =>
        rw [hy] at this
        simp only [Bool.and_eq_true, Bool.or_eq_true, beq_iff_eq, bne_iff_ne] at this
        exact ⟨y, rfl, this.1, this.2.1, this.2.2⟩
    unfold nodeR
    simp only [Bool.and_eq_true, decide_eq_true_eq]
    refine ⟨hk, h2.1, h2.2, ?_, ?_, ?_, h5, h6, by rw [name_same hk]; exact h1⟩
    · unfold hungB at h3
      unfold parR
      simp only [Bool.or_eq_true, Bool.and_eq_true] at h3 ⊢
      refine h3.imp id fun ⟨c1, c2⟩ => ⟨c1, ?_⟩
      cases hp : idx ns x.Parent with
      | none => rw [hp] at c2; cases c2
      | some p =>
        rw [hp] at c2
        have hpn := h _ p hp
        unfold nodeB at hpn
        simp only [Bool.and_eq_true] at hpn c2 ⊢
        have hpk := kind_of_named hpn.1
        rw [holder_iff hpk] at c2
        refine ⟨c2.1, decide_eq_true ?_⟩
        have hnd : p.Kids.Nodup := by
          have := hpn.2.2.2.1
          unfold bearsB at this
          simp only [Bool.and_eq_true, decide_eq_true_eq] at this
          exact this.1
        rw [hnd.count, if_pos (List.contains_iff_mem.1 c2.2)]
    · rw [List.all_eq_true]
      intro k hk
      obtain ⟨y, hy, y1, y2, y3⟩ := hkid k hk
      unfold kidR
      rw [hy]
      simp only [Bool.and_eq_true, Bool.or_eq_true, beq_iff_eq, decide_eq_true_eq]
      exact ⟨by rw [b1.count, if_pos hk], y3.imp id And.left, y1, y2⟩
    · unfold endR
      simp only [Bool.and_eq_true, Bool.or_eq_true, bne_iff_ne, decide_eq_true_eq]
      simp only [Bool.or_eq_true, bne_iff_ne, decide_eq_true_eq] at b3 b4
      refine ⟨?_, ?_⟩
      · by_cases h2 : x.Kind = 2
        · rw [h2] at b3
          exact .inr (b3.resolve_left (by decide))
        · exact .inl h2
      · by_cases h0 : x.Kind = 0
        · refine .inr ⟨b4.resolve_left (by simp [h0]), ?_⟩
          unfold elemsOf
          rw [List.countP_eq_length.2 fun k hk => ?_]
          · exact Nat.le_refl _
          · obtain ⟨y, hy, _, _, y3⟩ := hkid k hk
            unfold isB
            rw [hy]
            exact beq_iff_eq.2 (y3.resolve_right fun h => h.2 h0)
        · exact .inl h0
  · intro h n x hx
    have hh := h n x hx
    unfold nodeR at hh
    simp only [Bool.and_eq_true, decide_eq_true_eq, List.all_eq_true] at hh
    obtain ⟨hk, h1, h2, h3, h4, h5, h6, h7, h8⟩ := hh
    unfold endR at h5
    simp only [Bool.and_eq_true, Bool.or_eq_true, bne_iff_ne, decide_eq_true_eq] at h5
    have hkid : ∀ k ∈ x.Kids, ∃ y, idx ns k = some y ∧ x.Kids.count k = 1 ∧ (y.Kind = 1 ∨ y.Kind = 2) ∧ y.Parent = n ∧ y.Doc = x.Doc := fun k hk => by
      have := h4 k hk
      unfold kidR at this
      cases hy : idx ns k with
      | none => rw [hy] at this; cases this
      | some y =>
        rw [hy] at this
        simp only [Bool.and_eq_true, Bool.or_eq_true, beq_iff_eq, decide_eq_true_eq] at this
        exact ⟨y, rfl, this.1, this.2.1, this.2.2⟩
    unfold nodeB
    simp only [Bool.and_eq_true]
    refine ⟨by rw [← name_same hk]; exact h8, ?_, ?_, ?_, h6, h7⟩
    · unfold ownedB
      simp only [Bool.and_eq_true]
      exact ⟨h1, h2⟩
    · unfold parR at h3
      unfold hungB
      simp only [Bool.or_eq_true, Bool.and_eq_true] at h3 ⊢
      refine h3.imp id fun ⟨c1, c2⟩ => ⟨c1, ?_⟩
      cases hp : idx ns x.Parent with
      | none => rw [hp] at c2; cases c2
      | some p =>
        rw [hp] at c2
        have hpn := h _ p hp
        unfold nodeR at hpn
        simp only [Bool.and_eq_true, decide_eq_true_eq] at hpn c2 ⊢
        rw [holder_iff hpn.1]
        refine ⟨c2.1, List.contains_iff_mem.2 ?_⟩
        rw [← List.count_pos_iff]; omega
    · unfold bearsB
      simp only [Bool.and_eq_true, decide_eq_true_eq, List.all_eq_true]
      refine ⟨?_, fun k hk => ?_, ?_, ?_⟩
      · rw [List.nodup_iff_count]
        intro a
        by_cases ha : a ∈ x.Kids
        · obtain ⟨_, _, c, _⟩ := hkid a ha; omega
        · rw [List.count_eq_zero.2 ha]; omega
      · obtain ⟨y, hy, _, y1, y2, y3⟩ := hkid k hk
        unfold kidB
        rw [hy]
        simp only [Bool.and_eq_true, Bool.or_eq_true, beq_iff_eq, bne_iff_ne]
        refine ⟨y2, y3, ?_⟩
        by_cases h0 : x.Kind = 0
        · have c := h5.2.resolve_left (by simp [h0])
          have ceq : x.Kids.countP (fun k => isB ns k 1) = x.Kids.length := Nat.le_antisymm List.countP_le_length c.2
          have := List.countP_eq_length.1 ceq k hk
          unfold isB at this
          rw [hy] at this
          exact .inl (beq_iff_eq.1 this)
        · exact y1.imp id fun h => ⟨h, h0⟩
      · rw [holder_iff hk]
        simp only [Bool.or_eq_true, bne_iff_ne, decide_eq_true_eq]
        exact h5.1
      · simp only [Bool.or_eq_true, bne_iff_ne, decide_eq_true_eq]
        exact h5.2.imp id And.left
theorem nodesB_iff {ns : List Node} : nodesB ns = true ↔ AllB ns (nodeB ns) := by
  constructor
  · intro h n x hx; exact nodes_at h hx
  · intro h
    unfold nodesB
    rw [List.all_eq_true]
    intro i hi
    have hi : i < ns.length := by simpa using hi
    rw [List.getElem?_eq_getElem hi]
    exact h i _ (idx_lt hi)

/-! ## The way up -/
def upF (ns : List Node) : Nat → Int → List Int
  | 0, _ => []
  | k + 1, n => n :: (if upI ns n = -1 then [] else upF ns k (upI ns n))
theorem upF_stab {ns : List Node} : ∀ (k : Nat) (n : Int), climbB ns k n = true → ∀ j, k ≤ j → upF ns j n = upF ns k n
  | 0, _, h, _, _ => by cases h
  | k + 1, n, h, j, hj => by
    obtain ⟨j, rfl⟩ : ∃ j', j = j' + 1 := ⟨j - 1, by omega⟩
    rw [climbB, Bool.or_eq_true, beq_iff_eq] at h
    simp only [upF]
    by_cases hp : upI ns n = -1
    · rw [if_pos hp, if_pos hp]
    · rw [if_neg hp, if_neg hp, upF_stab k _ (h.resolve_left hp) j (by omega)]
theorem climb_len {ns : List Node} : ∀ (k : Nat) (n : Int), climbB ns k n = true → climbB ns (upF ns k n).length n = true
  | 0, _, h => by cases h
  | k + 1, n, h => by
    rw [climbB, Bool.or_eq_true, beq_iff_eq] at h
    simp only [upF, List.length_cons]
    rw [climbB, Bool.or_eq_true, beq_iff_eq]
    by_cases hp : upI ns n = -1
    · exact .inl hp
    · rw [if_neg hp]
      exact .inr (climb_len k _ (h.resolve_left hp))
theorem climbB_le {ns : List Node} {n : Int} {k j : Nat} (h : climbB ns k n = true) (hj : k ≤ j) : climbB ns j n = true := by
  induction hj with
  | refl => exact h
  | step _ ih => exact climbB_more _ _ ih
theorem up_mem {ns : List Node} (K : Nat) : ∀ (k : Nat) (n : Int), k ≤ K → climbB ns k n = true → ∀ y ∈ upF ns k n, climbB ns k y = true ∧ upF ns k y <:+ upF ns k n
  | 0, _, _, h, _, _ => by cases h
  | k + 1, n, hK, h, y, hy => by
    have h' := h
    rw [climbB, Bool.or_eq_true, beq_iff_eq] at h'
    simp only [upF] at hy
    rcases List.mem_cons.1 hy with rfl | hy
    · exact ⟨h, List.suffix_refl _⟩
    · by_cases hp : upI ns n = -1
      · rw [if_pos hp] at hy; simp at hy
      · rw [if_neg hp] at hy
        obtain ⟨c1, c2⟩ := up_mem K k _ (by omega) (h'.resolve_left hp) y hy
        refine ⟨climbB_more _ _ c1, ?_⟩
        rw [upF_stab k y c1 (k + 1) (by omega)]
        have : upF ns (k + 1) n = n :: upF ns k (upI ns n) := by simp only [upF]; rw [if_neg hp]
        rw [this]
        exact c2.trans (List.suffix_cons _ _)
theorem up_nodup {ns : List Node} : ∀ (k : Nat) (n : Int), climbB ns k n = true → (upF ns k n).Nodup
  | 0, _, h => by cases h
  | k + 1, n, h => by
    rw [climbB, Bool.or_eq_true, beq_iff_eq] at h
    by_cases hp : upI ns n = -1
    · simp only [upF]; rw [if_pos hp]; simp
    · have hc := h.resolve_left hp
      have e : upF ns (k + 1) n = n :: upF ns k (upI ns n) := by simp only [upF]; rw [if_neg hp]
      rw [e, List.nodup_cons]
      refine ⟨fun hm => ?_, up_nodup k _ hc⟩
      obtain ⟨c1, c2⟩ := up_mem k k _ (Nat.le_refl _) hc n hm
      rw [← upF_stab k n c1 (k + 1) (by omega), e] at c2
      have := c2.length_le
      simp at this
      omega
theorem up_in {ns : List Node} (hu : Ups ns) : ∀ (k : Nat) (n : Int), InN ns n → ∀ y ∈ upF ns k n, InN ns y
  | 0, _, _, _, hy => by simp [upF] at hy
  | k + 1, n, hn, y, hy => by
    simp only [upF] at hy
    rcases List.mem_cons.1 hy with rfl | hy
    · exact hn
    · split at hy
      · simp at hy
      · rename_i hp
        obtain ⟨x, hx⟩ := idx_some hn
        rcases hu n x hx with h | ⟨z, hz⟩
        · exact absurd h hp
        · exact up_in hu k _ (idx_range hz) y hy
theorem climb_short {ns : List Node} (hu : Ups ns) {n : Int} (hn : InN ns n) {K : Nat} (h : climbB ns K n = true) : climbB ns ns.length n = true :=
  climbB_le (climb_len K n h) (nodup_len _ _ (up_nodup K n h) (up_in hu K n hn))
end Go.Proofs.Ytcaepigodglihaa
