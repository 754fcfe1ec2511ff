/- The laws of layer 3 (forest): ForestHolds, ForestOrder. -/
import Derived.Test.YtcaepigodglihaaTre3
namespace Go.Proofs.Ytcaepigodglihaa
open Go Go.Pw

theorem awake03 : Instarlaw03_awake_m 2000 = some true := by decide +kernel
theorem findI_at {l : List Int} {n : Int} (h : n ∈ l) : findI l n = ((l.idxOf n : Nat) : Int) ∧ l.idxOf n < l.length := ⟨if_pos h, List.idxOf_lt_length_of_mem h⟩
theorem findI_get {l : List Int} {n : Int} (h : n ∈ l) : idx l (findI l n) = some n := by
  obtain ⟨h1, h2⟩ := findI_at h
  rw [h1, idx_lt h2]
  exact congrArg some (List.getElem_idxOf h2)

section
variable {f : Forest} (hs : Small f) (hr : frightB f = true)
include hs hr
theorem holds_j2 {x : Int} (hx : InN f.Nodes x) : Instarlaw03_ForestHolds_j2 2000 f x () = some true := by
  have T := right_tree hr
  obtain ⟨y, hy⟩ := idx_some hx
  have hp := par_at hy
  unfold Instarlaw03_ForestHolds_j2
  rw [hy, bnd_some, Place_ok hs (by omega) hr hx, bnd_some, cnd_eq, ← hp]
  by_cases h : parI f.Nodes x = -1
  · rw [if_pos h, if_pos h, cnd_pos (by rfl), Root_ok hs (by omega) hr hx, bnd_some, T.root_top hx h]
    simp
  · rw [if_neg h, if_neg h]
    obtain ⟨h1, h2⟩ := T.par x hx h
    obtain ⟨z, hz⟩ := idx_some h1
    rw [hz, bnd_some, bnd_some, kids_at hz]
    rw [kids_at hz] at h2
    obtain ⟨h3, h4⟩ := findI_at h2
    rw [findI_get h2, bnd_some, Holds_ok hs (by omega) hr h1 hx, bnd_some, cnd_pos (by simp; omega), cnd_pos (by simp; omega), cnd_pos (by simp)]
    congr 1
    rw [holdsB_iff, T.way_eq hx, if_neg h]
    exact List.mem_cons_of_mem _ (T.way_self h1)
theorem holds_j1 {x y : Int} (hx : InN f.Nodes x) (hy : InN f.Nodes y) : Instarlaw03_ForestHolds_j1 2000 f x y () = some true := by
  have T := right_tree hr
  have hx2 := T.root_in hx
  unfold Instarlaw03_ForestHolds_j1
  have e := T.root_root hx
  have hh : holdsB f.Nodes (rootN f.Nodes x) x = true := holdsB_iff.2 (T.root_way x hx).1
  rw [Holds_ok hs (by omega) hr hx hy, bnd_some]
  simp only [Root_ok hs (show 1000 < 2000 by omega) hr hx, Root_ok hs (show 1000 < 2000 by omega) hr hy, bnd_some, Root_ok hs (show 1000 < 2000 by omega) hr hx2, Holds_ok hs (show 1000 < 2000 by omega) hr hx2 hx, holds_j2 hs hr hx, e, hh]
  cases hb : holdsB f.Nodes x y with
  | false => simp
  | true =>
    have := T.root_same y hy x (holdsB_iff.1 hb)
    rw [this]; simp
end
theorem forestHolds (f : Forest) (a b c : Int) (ha : 0 ≤ a ∧ a ≤ 255) (hb : 0 ≤ b ∧ b ≤ 255) (hc : 0 ≤ c ∧ c ≤ 255) : ∃ fu, Instarlaw03_ForestHolds_m fu f a b c = some true := by
  refine ⟨2000, ?_⟩
  unfold Instarlaw03_ForestHolds_m
  rw [awake03, bnd_some, Bool.not_true, cnd_false]
  obtain ⟨r, h1, h2⟩ := short_small (fu := 2000) (f := f) (by omega)
  rw [h1, bnd_some]
  cases r with
  | false => rfl
  | true =>
    have hs := h2 rfl
    rw [Bool.not_true, cnd_false, fright_ok (by omega) (hs.fit (by omega)), bnd_some]
    cases hr : frightB f with
    | false => rfl
    | true =>
      have T := right_tree hr
      have hn := (right_parts hr).1
      obtain ⟨x, ex, hx⟩ := rem_ok ha.1 hn
      obtain ⟨y, ey, hy⟩ := rem_ok hb.1 hn
      obtain ⟨z, ez, hz⟩ := rem_ok hc.1 hn
      have hx : InN f.Nodes x := hx
      have hy : InN f.Nodes y := hy
      have hz : InN f.Nodes z := hz
      rw [Bool.not_true, cnd_false, rng64 (by omega) (by omega), bnd_some, ex, bnd_some, rng64 (by omega) (by omega), bnd_some, ey, bnd_some, rng64 (by omega) (by omega), bnd_some, ez, bnd_some]
      rw [Holds_ok hs (by omega) hr hx hx, bnd_some, holdsB_iff.2 (T.way_self hx), Bool.not_true, cnd_false, Holds_ok hs (by omega) hr hx hy, bnd_some, Holds_ok hs (by omega) hr hy hx, Holds_ok hs (by omega) hr hy hz, Holds_ok hs (by omega) hr hx hz]
      simp only [bnd_some, holds_j1 hs hr hx hy, cnd_ne]
      have last : ∀ o : Option Bool, o = some true → (if x = y then o else cnd (holdsB f.Nodes x y) (cnd (holdsB f.Nodes y x) (some false) o) o) = some true := fun o ho => by
        by_cases h : x = y
        · rw [if_pos h, ho]
        · rw [if_neg h, ho]
          cases h1 : holdsB f.Nodes x y with
          | false => rfl
          | true =>
            cases h2 : holdsB f.Nodes y x with
            | false => rfl
            | true => exact absurd (T.way_anti hy (holdsB_iff.1 h1) (holdsB_iff.1 h2)) h
      have last := last _ rfl
      cases h1 : holdsB f.Nodes x y with
      | false => simp
      | true =>
        rw [h1] at last
        rw [cnd_true]
        cases h2 : holdsB f.Nodes y z with
        | false => exact last
        | true =>
          rw [holdsB_iff.2 (T.way_trans hz (holdsB_iff.1 h1) (holdsB_iff.1 h2))]
          exact last
end Go.Proofs.Ytcaepigodglihaa
