/- The law ShadeAll of layer 4 (shade). -/
import Derived.Test.YtcaepigodglihaaSha3
namespace Go.Proofs.Ytcaepigodglihaa
open Go Go.Pw

section
variable {f : Forest} {fu : Nat} (hs : Small f) (hfu : 1000 < fu) (hr : frightB f = true)
include hs hfu hr
theorem all_end {x : Int} (hx : InN f.Nodes x) (k : Nat) : Instarlaw04_ShadeAll_l3 fu f x (allU f.Nodes x) (allN f.Nodes x) (k + 1) (((allU f.Nodes x).length : Nat) : Int) = some true := by
  have U := right_full hr
  have T := right_tree hr
  have hsub := (tree_in_full T U x hx).length_le
  have ht := U.root_in hx
  obtain ⟨z, hz⟩ := idx_some ht
  simp only [Instarlaw04_ShadeAll_l3]
  rw [cnd_neg (by simp), cnd_pos (by simp; omega), idx_zero, show (allU f.Nodes x)[0]? = some x by rw [U.all_eq hx]; rfl, bnd_some, cnd_pos (by simp), Conn_ok hs hfu hr hx, bnd_some, Top_ok hs hfu hr hx, bnd_some, hz, bnd_some]
  unfold connB isB
  rw [hz]
  simp
omit hs hfu in
/-- What stands behind a node in full order. -/
theorem all_at {x : Int} (hx : InN f.Nodes x) {i : Nat} (hi : i < (allU f.Nodes x).length) : ∃ c y A B, idx (allU f.Nodes x) (i : Int) = some c ∧ idx f.Nodes c = some y ∧ InN f.Nodes c ∧ allU f.Nodes x = A ++ c :: ((subI f.Nodes c).flatMap (allU f.Nodes) ++ B) ∧ A.length = i := by
  have U := right_full hr
  have hnd := U.all_nodup x hx
  obtain ⟨c, hc⟩ : ∃ c, c = (allU f.Nodes x)[i] := ⟨_, rfl⟩
  have hcm : c ∈ allU f.Nodes x := by rw [hc]; exact List.getElem_mem hi
  have hci := (U.all_in x hx c hcm).1
  have hix : (allU f.Nodes x).idxOf c = i := by rw [hc]; exact hnd.idxOf_getElem i hi
  obtain ⟨y, hy⟩ := idx_some hci
  obtain ⟨A, B, e⟩ := U.piece x hx c hcm
  rw [U.all_eq hci, List.cons_append] at e
  refine ⟨c, y, A, B, by rw [idx_lt hi, ← hc], hy, hci, e, ?_⟩
  rw [e] at hnd hix
  rw [idxOf_mid hnd] at hix
  exact hix
theorem all_step {x : Int} (hx : InN f.Nodes x) {i : Nat} (hi : i < (allU f.Nodes x).length) (k : Nat) : Instarlaw04_ShadeAll_l3 fu f x (allU f.Nodes x) (allN f.Nodes x) (k + 1) (i : Int) = Instarlaw04_ShadeAll_l3 fu f x (allU f.Nodes x) (allN f.Nodes x) k ((i + 1 : Nat) : Int) := by
  have U := right_full hr
  have hfew := hs.few
  have hlen := U.all_len hx
  have hnd := U.all_nodup x hx
  obtain ⟨c, y, A, B, h1, h2, h3, h4, h5⟩ := all_at hr hx hi
  have hsub := sub_at h2
  have hnext : ((i : Nat) : Int) + 1 = ((i + 1 : Nat) : Int) := rfl
  have hrng : rng .i64 ((i : Int) + 1) = some ((i + 1 : Nat) : Int) := rng_nat (by omega)
  have j1 : ∀ rc : Int → Option Bool, Instarlaw04_ShadeAll_j1 fu f (allU f.Nodes x) (i : Int) y rc () = rc ((i + 1 : Nat) : Int) := fun rc => by
    unfold Instarlaw04_ShadeAll_j1
    rw [hrng]
    by_cases hk : y.Kids.length = 0
    · rw [cnd_neg (by rw [hk]; rfl), bnd_some]
    · rw [cnd_pos (decide_eq_true (by omega)), cnd_ne]
      by_cases hu : y.Under = -1
      · rw [if_pos hu, bnd_some]
      · have hU : y.Under ∈ subI f.Nodes c := by rw [hsub, if_neg hu]; simp
        have hui := (U.kid c _ hU).2.1
        have hul := U.all_len hui
        have hk0 : 0 < y.Kids.length := by omega
        obtain ⟨k0, ks, hks⟩ : ∃ k0 ks, y.Kids = k0 :: ks := by
          cases hy : y.Kids with
          | nil => rw [hy] at hk0; simp at hk0
          | cons a l => exact ⟨a, l, rfl⟩
        have hk0s : k0 ∈ subI f.Nodes c := by rw [hsub, hks]; simp
        have hk0i := (U.kid c _ hk0s).2.1
        have e2 : allU f.Nodes x = (A ++ c :: allU f.Nodes y.Under) ++ k0 :: ((subI f.Nodes k0).flatMap (allU f.Nodes) ++ (ks.flatMap (allU f.Nodes) ++ B)) := by
          rw [h4, hsub, if_neg hu, hks]
          simp only [List.flatMap_append, List.flatMap_cons, List.flatMap_nil]
          rw [U.all_eq hk0i]
          simp
        have hpos : (allU f.Nodes x).idxOf k0 = i + 1 + (allU f.Nodes y.Under).length := by
          rw [e2] at hnd ⊢
          rw [idxOf_mid hnd]
          simp; omega
        have hmem : k0 ∈ allU f.Nodes x := by rw [e2]; simp
        have hfind : Instarref03_Find_m fu (allU f.Nodes x) k0 = some ((i + 1 + (allU f.Nodes y.Under).length : Nat) : Int) := by
          rw [find_ok (by omega) (by omega), (findI_at hmem).1, hpos]
        have hr2 : rng .i64 (((i + 1 : Nat) : Int) + (((allU f.Nodes y.Under).length : Nat) : Int)) = some ((i + 1 + (allU f.Nodes y.Under).length : Nat) : Int) := by
          rw [rng64 (by omega) (by omega)]; rfl
        rw [if_neg hu, hks, idx_zero, List.getElem?_cons_zero, bnd_some, hfind, bnd_some, bnd_some, All_ok hs hfu hr hui, bnd_some, hr2, bnd_some, bnd_some, cnd_neg (by simp)]
  simp only [Instarlaw04_ShadeAll_l3]
  rw [cnd_pos (by simpa using hi), h1, bnd_some, h2, bnd_some, j1, cnd_ne, hrng, bnd_some]
  by_cases hu : y.Under = -1
  · rw [if_pos hu]
  · have hU : y.Under ∈ subI f.Nodes c := by rw [hsub, if_neg hu]; simp
    have hui := (U.kid c _ hU).2.1
    have e3 : allU f.Nodes x = (A ++ [c]) ++ y.Under :: ((subI f.Nodes y.Under).flatMap (allU f.Nodes) ++ (y.Kids.flatMap (allU f.Nodes) ++ B)) := by
      rw [h4, hsub, if_neg hu]
      simp only [List.flatMap_append, List.flatMap_cons, List.flatMap_nil]
      rw [U.all_eq hui]
      simp
    have hlen3 : i + 1 < (allU f.Nodes x).length := by rw [e3]; simp; omega
    have hget : idx (allU f.Nodes x) ((i + 1 : Nat) : Int) = some y.Under := by
      rw [idx_nat, e3, List.getElem?_append_right (by simp; omega)]
      simp [h5]
    rw [if_neg hu, cnd_neg (by simp; omega), bnd_some, hget, bnd_some, cnd_neg (by simp)]
theorem all_l3 {x : Int} (hx : InN f.Nodes x) : Instarlaw04_ShadeAll_l3 fu f x (allU f.Nodes x) (allN f.Nodes x) fu 0 = some true := by
  have U := right_full hr
  have hfew := hs.few
  have hlen := U.all_len hx
  exact upf (L := Instarlaw04_ShadeAll_l3 fu f x (allU f.Nodes x) (allN f.Nodes x)) (f := fun i => ((i : Nat) : Int)) (v := some true) (allU f.Nodes x).length (fun i hi k => all_step hs hfu hr hx hi k) (fun k => all_end hs hfu hr hx k) (by omega)
theorem all_l2 {x : Int} (hx : InN f.Nodes x) : ∀ (j i k : Nat), i + j = (allN f.Nodes x).length → 1 ≤ i → j < k → Instarlaw04_ShadeAll_l2 fu f x (allU f.Nodes x) (allN f.Nodes x) k (i : Int) = some true := by
  have U := right_full hr
  have T := right_tree hr
  have hfew := hs.few
  have hlen := U.all_len hx
  have hlen2 := T.all_len hx
  have hsub := tree_in_full T U x hx
  have hord := List.pairwise_iff_getElem.1 (sub_order hsub (U.all_nodup x hx))
  intro j
  induction j with
  | zero =>
    intro i k hi _ hk
    obtain ⟨k, rfl⟩ : ∃ K', k = K' + 1 := ⟨k - 1, by omega⟩
    obtain rfl : i = (allN f.Nodes x).length := by omega
    simp only [Instarlaw04_ShadeAll_l2]
    rw [cnd_neg (by simp), all_l3 hs hfu hr hx]
  | succ j ih =>
    intro i k hi hi1 hk
    obtain ⟨k, rfl⟩ : ∃ K', k = K' + 1 := ⟨k - 1, by omega⟩
    obtain ⟨i, rfl⟩ : ∃ i', i = i' + 1 := ⟨i - 1, by omega⟩
    have hil : i + 1 < (allN f.Nodes x).length := by omega
    have hlt := hord i (i + 1) (by omega) hil (by omega)
    have m1 : (allN f.Nodes x)[i]'(by omega) ∈ allU f.Nodes x := hsub.subset (List.getElem_mem _)
    have m2 : (allN f.Nodes x)[i + 1] ∈ allU f.Nodes x := hsub.subset (List.getElem_mem _)
    have f1 := (findI_at m1).1
    have f2 := (findI_at m2).1
    have hprev : rng .i64 (((i + 1 : Nat) : Int) - 1) = some ((i : Nat) : Int) := by rw [rng64 (by omega) (by omega)]; congr 1; omega
    have hdec : decide ((((allU f.Nodes x).idxOf ((allN f.Nodes x)[i]'(by omega)) : Nat) : Int) ≥ (((allU f.Nodes x).idxOf (allN f.Nodes x)[i + 1] : Nat) : Int)) = false := decide_eq_false (by omega)
    have hrng : rng .i64 (((i + 1 : Nat) : Int) + 1) = some ((i + 1 + 1 : Nat) : Int) := rng_nat (by omega)
    simp only [Instarlaw04_ShadeAll_l2]
    rw [cnd_pos (decide_eq_true (by omega)), hprev, bnd_some, idx_lt (by omega : i < (allN f.Nodes x).length), bnd_some, find_ok (by omega) (by omega), bnd_some, idx_lt hil, bnd_some, find_ok (by omega) (by omega), bnd_some, f1, f2, hdec, cnd_false, hrng, bnd_some]
    exact ih (i + 1 + 1) k (by omega) (by omega) (by omega)
theorem all_l1 {x : Int} (hx : InN f.Nodes x) : Instarlaw04_ShadeAll_l1 fu f x (allU f.Nodes x) fu 0 = some true := by
  have U := right_full hr
  have T := right_tree hr
  have hlen := U.all_len hx
  have hlen2 := T.all_len hx
  have hfew := hs.few
  have hnd := U.all_nodup x hx
  refine (up_alli (L := Instarlaw04_ShadeAll_l1 fu f x (allU f.Nodes x)) f.Nodes.length (fun _ => true) (some true) (fun i hi k => ?_) (fun k => ?_) (by omega)).trans ?_
  · have hin : InN f.Nodes (i : Int) := ⟨by omega, by omega⟩
    simp only [Instarlaw04_ShadeAll_l1]
    rw [cnd_pos (by simpa using hi), has_ok (by omega) (by omega), bnd_some, Over_ok hs hfu hr hx hin, bnd_some, rng_nat (by omega), bnd_some, Top_ok hs hfu hr hin, bnd_some, Top_ok hs hfu hr hx, bnd_some]
    by_cases hm : (i : Int) ∈ allU f.Nodes x
    · have e1 : (allU f.Nodes x).count (i : Int) = 1 := hnd.count.trans (if_pos hm)
      have hw := (U.all_in x hx _ hm).2
      rw [e1, overU_iff.2 hw, U.root_same _ hin x hw, cnd_neg (b := topN f.Nodes x != topN f.Nodes x) (by simp)]
      rfl
    · have e1 : (allU f.Nodes x).count (i : Int) = 0 := List.count_eq_zero.2 hm
      have e2 : overU f.Nodes x (i : Int) = false := by
        cases hb : overU f.Nodes x (i : Int) with
        | false => rfl
        | true => exact absurd (U.mem_all hx _ hin (overU_iff.1 hb)) hm
      rw [e1, e2]
      rfl
  · simp only [Instarlaw04_ShadeAll_l1]
    have h1 : 1 ≤ (allN f.Nodes x).length := by rw [T.all_eq hx]; simp
    rw [cnd_neg (by simp), Order_ok hs hfu hr hx, bnd_some]
    exact all_l2 hs hfu hr hx ((allN f.Nodes x).length - 1) 1 fu (by omega) (by omega) (by omega)
  · rw [List.all_eq_true.2 fun _ _ => rfl]; rfl
end
theorem shadeAll (f : Forest) (a : Int) (ha : 0 ≤ a ∧ a ≤ 255) : ∃ fu, Instarlaw04_ShadeAll_m fu f a = some true := by
  refine ⟨2000, ?_⟩
  unfold Instarlaw04_ShadeAll_m
  rw [awake04, bnd_some, Bool.not_true, cnd_false]
  generalize hfu' : (2000 : Nat) = fu
  have hfu : 1000 < fu := by omega
  obtain ⟨r, h1, h2⟩ := short_small (fu := fu) (f := f) hfu
  rw [h1, bnd_some]
  cases r with
  | false => rfl
  | true =>
    have hs := h2 rfl
    rw [Bool.not_true, cnd_false, fright_ok hfu (hs.fit hfu), bnd_some]
    cases hr : frightB f with
    | false => rfl
    | true =>
      have hn := (right_parts hr).1
      obtain ⟨x, ex, hx⟩ := rem_ok ha.1 hn
      have hx : InN f.Nodes x := hx
      rw [Bool.not_true, cnd_false, rng64 (by omega) (by omega), bnd_some, ex, bnd_some, All_ok hs hfu hr hx, bnd_some]
      exact all_l1 hs hfu hr hx
end Go.Proofs.Ytcaepigodglihaa
