/- The law ForestOrder of layer 3 (forest). -/
import Derived.Test.YtcaepigodglihaaTre4
namespace Go.Proofs.Ytcaepigodglihaa
open Go Go.Pw

theorem findI_lt {l : List Int} {a b : Int} (ha : a ∈ l) (hb : b ∈ l) : (findI l a < findI l b) ↔ l.idxOf a < l.idxOf b := by
  rw [(findI_at ha).1, (findI_at hb).1]; omega
theorem idxOf_inj {l : List Int} {a b : Int} (ha : a ∈ l) (hb : b ∈ l) (h : l.idxOf a = l.idxOf b) : a = b := by
  have h1 := findI_get ha
  have h2 := findI_get hb
  rw [(findI_at ha).1] at h1
  rw [(findI_at hb).1] at h2
  rw [h, h2] at h1
  exact (Option.some.inj h1).symm
section
variable {f : Forest} {fu : Nat} (hfu : 1000 < fu) (hs : Small f) (hr : frightB f = true)
include hfu hs hr
/-- Where a node stands in tree order, and what stands between it and its parent. -/
theorem order_l3 {x p c : Int} {A B C : List Int} (y : Node) (hp : y.Parent = p) (hpi : InN f.Nodes p) (hci : InN f.Nodes c) (e : allN f.Nodes x = A ++ p :: (B ++ c :: C)) (hB : ∀ b ∈ B, InN f.Nodes b ∧ p ∈ way f.Nodes b ∧ c ∉ way f.Nodes b) (rc : Int → Option Bool) (hlen : (allN f.Nodes x).length ≤ 1000000) :
    ∀ (j k K : Nat), k + j = A.length + 1 + B.length → A.length + 1 ≤ k → j < K → Instarlaw03_ForestOrder_l3 fu f (allN f.Nodes x) ((A.length + 1 + B.length : Nat) : Int) y rc K (k : Int) = rc ((A.length + 1 + B.length + 1 : Nat) : Int) := by
  have hl : (allN f.Nodes x).length = A.length + 1 + B.length + 1 + C.length := by rw [e]; simp; omega
  have hc : idx (allN f.Nodes x) ((A.length + 1 + B.length : Nat) : Int) = some c := by
    rw [idx_nat, e, List.getElem?_append_right (by omega), show A.length + 1 + B.length - A.length = B.length + 1 by omega, List.getElem?_cons_succ, List.getElem?_append_right (by omega)]
    simp
  intro j
  induction j with
  | zero =>
    intro k K hk _ hK
    obtain ⟨K, rfl⟩ : ∃ K', K = K' + 1 := ⟨K - 1, by omega⟩
    obtain rfl : k = A.length + 1 + B.length := by omega
    simp only [Instarlaw03_ForestOrder_l3]
    rw [cnd_neg (by simp), rng_nat (by omega), bnd_some]
  | succ j ih =>
    intro k K hk hk2 hK
    obtain ⟨K, rfl⟩ : ∃ K', K = K' + 1 := ⟨K - 1, by omega⟩
    obtain ⟨b, hb, hbB⟩ : ∃ b, idx (allN f.Nodes x) (k : Int) = some b ∧ b ∈ B := by
      obtain ⟨m, hm⟩ : ∃ m, k - A.length = m + 1 := ⟨k - A.length - 1, by omega⟩
      refine ⟨B[m]'(by omega), ?_, List.getElem_mem _⟩
      rw [idx_nat, e, List.getElem?_append_right (by omega), hm, List.getElem?_cons_succ, List.getElem?_append_left (by omega)]
      exact List.getElem?_eq_getElem (by omega)
    obtain ⟨h1, h2, h3⟩ := hB b hbB
    have h4 : holdsB f.Nodes c b = false := by
      cases hh : holdsB f.Nodes c b with
      | false => rfl
      | true => exact absurd (holdsB_iff.1 hh) h3
    simp only [Instarlaw03_ForestOrder_l3]
    rw [cnd_pos (by simp; omega), hb, bnd_some, hp, Holds_ok hs (by omega) hr hpi h1, bnd_some, holdsB_iff.2 h2, Bool.not_true, cnd_false, hc, bnd_some, bnd_some, Holds_ok hs (by omega) hr hci h1, bnd_some]
    rw [h4, cnd_false, rng_nat (by omega), bnd_some, ih (k + 1) K (by omega) (by omega) (by omega)]
theorem order_end {x y : Int} (hx : InN f.Nodes x) (hy : InN f.Nodes y) (k : Nat) : Instarlaw03_ForestOrder_l2 fu f x y (allN f.Nodes x) (k + 1) (((allN f.Nodes x).length : Nat) : Int) = some true := by
  have T := right_tree hr
  have e0 := T.all_eq hx
  simp only [Instarlaw03_ForestOrder_l2]
  rw [cnd_neg (by simp), Root_ok hs (by omega) hr hx, bnd_some, Root_ok hs (by omega) hr hy, bnd_some, Ahead_ok hs (by omega) hr hx hy, bnd_some, Ahead_ok hs (by omega) hr hy hx, bnd_some, cnd_pos (by rw [e0]; simp), idx_zero, show (allN f.Nodes x)[0]? = some x by rw [e0]; rfl, bnd_some, cnd_pos (by simp), Holds_ok hs (by omega) hr hx hy]
  simp only [bnd_some]
  by_cases hR : rootN f.Nodes x = rootN f.Nodes y
  · have hxr := T.root_all hx
    have hyr := T.root_all hy
    rw [← hR] at hyr
    rw [← hR]
    by_cases hxy : x = y
    · subst hxy
      cases holdsB f.Nodes x x <;> simp
    · have hne : (allN f.Nodes (rootN f.Nodes x)).idxOf x ≠ (allN f.Nodes (rootN f.Nodes x)).idxOf y := fun h => hxy (idxOf_inj hxr hyr h)
      have hh : holdsB f.Nodes x y = true → (allN f.Nodes (rootN f.Nodes x)).idxOf x < (allN f.Nodes (rootN f.Nodes x)).idxOf y := fun h => T.way_first (T.root_in hx) y hy x (holdsB_iff.1 h) hxy hxr
      have e1 : decide (findI (allN f.Nodes (rootN f.Nodes x)) x < findI (allN f.Nodes (rootN f.Nodes x)) y) = decide ((allN f.Nodes (rootN f.Nodes x)).idxOf x < (allN f.Nodes (rootN f.Nodes x)).idxOf y) := decide_eq_decide.2 (findI_lt hxr hyr)
      have e2 : decide (findI (allN f.Nodes (rootN f.Nodes x)) y < findI (allN f.Nodes (rootN f.Nodes x)) x) = decide ((allN f.Nodes (rootN f.Nodes x)).idxOf y < (allN f.Nodes (rootN f.Nodes x)).idxOf x) := decide_eq_decide.2 (findI_lt hyr hxr)
      have e3 : (x == y) = false := beq_eq_false_iff_ne.2 hxy
      have e4 : (x != y) = true := by rw [bne, e3]; rfl
      rw [e1, e2, e3, e4]
      generalize (allN f.Nodes (rootN f.Nodes x)).idxOf x = i at hne hh ⊢
      generalize (allN f.Nodes (rootN f.Nodes x)).idxOf y = j at hne hh ⊢
      by_cases hij : i < j
      · rw [decide_eq_true hij, decide_eq_false (show ¬ j < i by omega)]
        cases holdsB f.Nodes x y <;> simp
      · rw [decide_eq_false hij, decide_eq_true (show j < i by omega)]
        cases hb : holdsB f.Nodes x y with
        | false => simp
        | true => exact absurd (hh hb) hij
  · have hR' : (rootN f.Nodes x == rootN f.Nodes y) = false := beq_eq_false_iff_ne.2 hR
    have hb : holdsB f.Nodes x y = false := by
      cases hb : holdsB f.Nodes x y with
      | false => rfl
      | true => exact absurd (T.root_same y hy x (holdsB_iff.1 hb)).symm hR
    rw [hR', hb, decide_eq_false hR, decide_eq_false (Ne.symm hR)]
    rfl
omit hfu hs in
theorem order_at {x : Int} (hx : InN f.Nodes x) {i : Nat} (hil : i < (allN f.Nodes x).length) (hi1 : 1 ≤ i) : ∃ (c : Int) (z : Node) (A B C : List Int), idx (allN f.Nodes x) (i : Int) = some c ∧ idx f.Nodes c = some z ∧ InN f.Nodes c ∧ InN f.Nodes z.Parent ∧ allN f.Nodes x = A ++ z.Parent :: (B ++ c :: C) ∧ (∀ b ∈ B, InN f.Nodes b ∧ z.Parent ∈ way f.Nodes b ∧ c ∉ way f.Nodes b) ∧ i = A.length + 1 + B.length ∧ findI (allN f.Nodes x) z.Parent = ((A.length : Nat) : Int) := by
  have T := right_tree hr
  have hnd := T.all_nodup x hx
  obtain ⟨c, hc⟩ : ∃ c, c = (allN f.Nodes x)[i] := ⟨_, rfl⟩
  have hcm : c ∈ allN f.Nodes x := by rw [hc]; exact List.getElem_mem hil
  have hci := (T.all_in x hx c hcm).1
  have hix : (allN f.Nodes x).idxOf c = i := by rw [hc]; exact hnd.idxOf_getElem i hil
  have hne : c ≠ x := fun h => by
    rw [h, T.all_eq hx, List.idxOf_cons_self] at hix
    omega
  obtain ⟨A, B, C, e, hB⟩ := T.between x hx c hcm hne
  have hpm : parI f.Nodes c ∈ allN f.Nodes x := by rw [e]; simp
  have hpi := (T.all_in x hx _ hpm).1
  have e2 : A ++ parI f.Nodes c :: (B ++ c :: C) = (A ++ parI f.Nodes c :: B) ++ c :: C := by simp
  have hiA : i = A.length + 1 + B.length := by
    have h := hnd
    rw [e, e2] at h
    have := idxOf_mid h
    rw [← e2, ← e, hix] at this
    rw [this]; simp; omega
  have hpA : (allN f.Nodes x).idxOf (parI f.Nodes c) = A.length := by
    have h := hnd
    rw [e] at h ⊢
    exact idxOf_mid h
  obtain ⟨z, hz⟩ := idx_some hci
  have hp := par_at hz
  refine ⟨c, z, A, B, C, by rw [idx_lt hil, ← hc], hz, hci, ?_, ?_, ?_, hiA, ?_⟩
  · rw [← hp]; exact hpi
  · rw [← hp]; exact e
  · rw [← hp]; exact hB
  · rw [← hp, (findI_at hpm).1, hpA]
omit hfu hs hr in
theorem step_t1 {a : Nat} : decide (((a : Nat) : Int) < 0) = false := by simp
omit hfu hs hr in
theorem step_t2 {a i : Nat} (h : a < i) : decide (((a : Nat) : Int) ≥ (i : Int)) = false := by simp; omega
omit hfu hs hr in
theorem step_t3 {a : Nat} (ha : a ≤ 1000000) : rng .i64 (((a : Nat) : Int) + 1) = some ((a + 1 : Nat) : Int) := rng_nat (by omega)
omit hfu hs hr in
theorem step_shape {F : Option Int} {a i : Nat} (h : F = some (a : Int)) (hi : a < i) (ha : a ≤ 1000000) (K : Int → Option Bool) : (bnd F fun r => cnd (decide (r < 0)) (some false) (bnd F fun r2 => (cnd (decide (r2 ≥ i)) (some false) (bnd F fun r3 => bnd (rng .i64 (r3 + 1)) K)))) = K ((a + 1 : Nat) : Int) := by
  rw [h, bnd_some, bnd_some]
  refine (cnd_neg step_t1 _ _).trans ((cnd_neg (step_t2 hi) _ _).trans ?_)
  rw [bnd_some, step_t3 ha, bnd_some]
theorem order_step {x y : Int} (hlen : (allN f.Nodes x).length ≤ 60) {i : Nat} (hil : i < (allN f.Nodes x).length) {c : Int} {z : Node} {A B C : List Int} (h1 : idx (allN f.Nodes x) (i : Int) = some c) (h2 : idx f.Nodes c = some z) (hci : InN f.Nodes c) (hpi : InN f.Nodes z.Parent) (e : allN f.Nodes x = A ++ z.Parent :: (B ++ c :: C)) (hB : ∀ b ∈ B, InN f.Nodes b ∧ z.Parent ∈ way f.Nodes b ∧ c ∉ way f.Nodes b) (hiA : i = A.length + 1 + B.length) (hfi : findI (allN f.Nodes x) z.Parent = ((A.length : Nat) : Int)) (k : Nat) : Instarlaw03_ForestOrder_l2 fu f x y (allN f.Nodes x) (k + 1) (i : Int) = Instarlaw03_ForestOrder_l2 fu f x y (allN f.Nodes x) k ((i + 1 : Nat) : Int) := by
  have hf : Instarref03_Find_m fu (allN f.Nodes x) z.Parent = some ((A.length : Nat) : Int) := by rw [find_ok (by omega) (by omega), hfi]
  have l3 := order_l3 hfu hs hr z rfl hpi hci e hB (Instarlaw03_ForestOrder_l2 fu f x y (allN f.Nodes x) k) (by omega) B.length (A.length + 1) fu (by omega) (by omega) (by omega)
  have t3 : decide ((i : Int) < (((allN f.Nodes x).length : Nat) : Int)) = true := by simpa using hil
  rw [← hiA] at l3
  simp only [Instarlaw03_ForestOrder_l2]
  rw [t3, cnd_true, h1, bnd_some, h2, bnd_some]
  exact (step_shape hf (by omega) (by omega) _).trans l3
theorem order_l2 {x y : Int} (hx : InN f.Nodes x) (hy : InN f.Nodes y) : ∀ (j i k : Nat), i + j = (allN f.Nodes x).length → 1 ≤ i → j < k → Instarlaw03_ForestOrder_l2 fu f x y (allN f.Nodes x) k (i : Int) = some true := by
  have hlen := (right_tree hr).all_len hx
  have hfew := hs.few
  intro j
  induction j with
  | zero =>
    intro i k hi _ hk
    obtain ⟨k, rfl⟩ : ∃ K', k = K' + 1 := ⟨k - 1, by omega⟩
    obtain rfl : i = (allN f.Nodes x).length := by omega
    exact order_end hfu hs hr hx hy k
  | succ j ih =>
    intro i k hi hi1 hk
    obtain ⟨k, rfl⟩ : ∃ K', k = K' + 1 := ⟨k - 1, by omega⟩
    have hil : i < (allN f.Nodes x).length := by omega
    obtain ⟨c, z, A, B, C, h1, h2, h3, h4, h5, h6, h7, h8⟩ := order_at hr hx hil hi1
    rw [order_step hfu hs hr (by omega) hil h1 h2 h3 h4 h5 h6 h7 h8]
    exact ih (i + 1) k (by omega) (by omega) (by omega)
theorem order_l1 {x y : Int} (hx : InN f.Nodes x) (hy : InN f.Nodes y) : Instarlaw03_ForestOrder_l1 fu f x y (allN f.Nodes x) fu 0 = some true := by
  have T := right_tree hr
  have hlen := T.all_len hx
  have hfew := hs.few
  have hnd := T.all_nodup x hx
  refine (up_alli (L := Instarlaw03_ForestOrder_l1 fu f x y (allN f.Nodes x)) f.Nodes.length (fun _ => true) (some true) (fun i hi k => ?_) (fun k => ?_) (by omega)).trans ?_
  · have hin : InN f.Nodes (i : Int) := ⟨by omega, by omega⟩
    simp only [Instarlaw03_ForestOrder_l1]
    rw [cnd_pos (by simpa using hi), has_ok (by omega) (by omega), bnd_some, Holds_ok hs (by omega) hr hx hin, bnd_some, rng_nat (by omega), bnd_some]
    by_cases hm : (i : Int) ∈ allN f.Nodes x
    · have e1 : (allN f.Nodes x).count (i : Int) = 1 := hnd.count.trans (if_pos hm)
      rw [e1, holdsB_iff.2 (T.all_in x hx _ hm).2]
      rfl
    · have e1 : (allN f.Nodes x).count (i : Int) = 0 := List.count_eq_zero.2 hm
      have e2 : holdsB f.Nodes x (i : Int) = false := by
        cases hb : holdsB f.Nodes x (i : Int) with
        | false => rfl
        | true => exact absurd (T.mem_all hx _ hin (holdsB_iff.1 hb)) hm
      rw [e1, e2]
      rfl
  · simp only [Instarlaw03_ForestOrder_l1]
    have h1 : 1 ≤ (allN f.Nodes x).length := by rw [T.all_eq hx]; simp
    rw [cnd_neg (by simp)]
    exact order_l2 hfu hs hr hx hy ((allN f.Nodes x).length - 1) 1 fu (by omega) (by omega) (by omega)
  · rw [List.all_eq_true.2 fun _ _ => rfl]; rfl
end
theorem forestOrder (f : Forest) (a b : Int) (ha : 0 ≤ a ∧ a ≤ 255) (hb : 0 ≤ b ∧ b ≤ 255) : ∃ fu, Instarlaw03_ForestOrder_m fu f a b = some true := by
  refine ⟨2000, ?_⟩
  unfold Instarlaw03_ForestOrder_m
  rw [awake03, bnd_some, Bool.not_true, cnd_false]
  obtain ⟨r, h1, h2⟩ := short_small (fu := 2000) (f := f) (by omega)
  rw [h1, bnd_some]
  cases r with
  | false => rfl
  | true =>
    have hs := h2 rfl
    rw [Bool.not_true, cnd_false, fright_ok (by omega) (hs.fit (by omega)), bnd_some]
    cases hr : frightB f with
    | false => rfl
    | true =>
      have hn := (right_parts hr).1
      obtain ⟨x, ex, hx⟩ := rem_ok ha.1 hn
      obtain ⟨y, ey, hy⟩ := rem_ok hb.1 hn
      have hx : InN f.Nodes x := hx
      have hy : InN f.Nodes y := hy
      rw [Bool.not_true, cnd_false, rng64 (by omega) (by omega), bnd_some, ex, bnd_some, rng64 (by omega) (by omega), bnd_some, ey, bnd_some, Order_ok hs (by omega) hr hx, bnd_some]
      exact order_l1 (by omega) hs hr hx hy
end Go.Proofs.Ytcaepigodglihaa
