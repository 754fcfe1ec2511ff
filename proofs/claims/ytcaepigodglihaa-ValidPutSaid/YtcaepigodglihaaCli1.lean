/- Who comes up to an end does so within as many steps as there are nodes. -/
import Derived.Test.YtcaepigodglihaaTre2
namespace Go.Proofs.Ytcaepigodglihaa
open Go Go.Pw

/-! ## The way up -/
def upF (ns : List Node) : Nat → Int → List Int
  | 0, _ => []
  | k + 1, n => n :: (if upI ns n = -1 then [] else upF ns k (upI ns n))
theorem upF_stab {ns : List Node} : ∀ (k : Nat) (n : Int), climbB ns k n = true → ∀ j, k ≤ j → upF ns j n = upF ns k n
  | 0, _, h, _, _ => by cases h
  | k + 1, n, h, j, hj => by
    obtain ⟨j, rfl⟩ : ∃ j', j = j' + 1 := ⟨j - 1, by omega⟩
    rw [climbB, Bool.or_eq_true, beq_iff_eq] at h
    simp only [upF]
    by_cases hp : upI ns n = -1
    · rw [if_pos hp, if_pos hp]
    · rw [if_neg hp, if_neg hp, upF_stab k _ (h.resolve_left hp) j (by omega)]
theorem climb_len {ns : List Node} : ∀ (k : Nat) (n : Int), climbB ns k n = true → climbB ns (upF ns k n).length n = true
  | 0, _, h => by cases h
  | k + 1, n, h => by
    rw [climbB, Bool.or_eq_true, beq_iff_eq] at h
    simp only [upF, List.length_cons]
    rw [climbB, Bool.or_eq_true, beq_iff_eq]
    by_cases hp : upI ns n = -1
    · exact .inl hp
    · rw [if_neg hp]
      exact .inr (climb_len k _ (h.resolve_left hp))
theorem climbB_le {ns : List Node} {n : Int} {k j : Nat} (h : climbB ns k n = true) (hj : k ≤ j) : climbB ns j n = true := by
  induction hj with
  | refl => exact h
  | step _ ih => exact climbB_more _ _ ih
theorem up_mem {ns : List Node} (K : Nat) : ∀ (k : Nat) (n : Int), k ≤ K → climbB ns k n = true → ∀ y ∈ upF ns k n, climbB ns k y = true ∧ upF ns k y <:+ upF ns k n
  | 0, _, _, h, _, _ => by cases h
  | k + 1, n, hK, h, y, hy => by
    have h' := h
    rw [climbB, Bool.or_eq_true, beq_iff_eq] at h'
    simp only [upF] at hy
    rcases List.mem_cons.1 hy with rfl | hy
    · exact ⟨h, List.suffix_refl _⟩
    · by_cases hp : upI ns n = -1
      · rw [if_pos hp] at hy; simp at hy
      · rw [if_neg hp] at hy
        obtain ⟨c1, c2⟩ := up_mem K k _ (by omega) (h'.resolve_left hp) y hy
        refine ⟨climbB_more _ _ c1, ?_⟩
        rw [upF_stab k y c1 (k + 1) (by omega)]
        have : upF ns (k + 1) n = n :: upF ns k (upI ns n) := by simp only [upF]; rw [if_neg hp]
        rw [this]
        exact c2.trans (List.suffix_cons _ _)
theorem up_nodup {ns : List Node} : ∀ (k : Nat) (n : Int), climbB ns k n = true → (upF ns k n).Nodup
  | 0, _, h => by cases h
  | k + 1, n, h => by
    rw [climbB, Bool.or_eq_true, beq_iff_eq] at h
    by_cases hp : upI ns n = -1
    · simp only [upF]; rw [if_pos hp]; simp
    · have hc := h.resolve_left hp
      have e : upF ns (k + 1) n = n :: upF ns k (upI ns n) := by simp only [upF]; rw [if_neg hp]
      rw [e, List.nodup_cons]
      refine ⟨fun hm => ?_, up_nodup k _ hc⟩
      obtain ⟨c1, c2⟩ := up_mem k k _ (Nat.le_refl _) hc n hm
      rw [← upF_stab k n c1 (k + 1) (by omega), e] at c2
      have := c2.length_le
      simp at this
      omega
theorem up_in {ns : List Node} (hu : Ups ns) : ∀ (k : Nat) (n : Int), InN ns n → ∀ y ∈ upF ns k n, InN ns y
  | 0, _, _, _, hy => by simp [upF] at hy
  | k + 1, n, hn, y, hy => by
    simp only [upF] at hy
    rcases List.mem_cons.1 hy with rfl | hy
    · exact hn
    · split at hy
      · simp at hy
      · rename_i hp
        obtain ⟨x, hx⟩ := idx_some hn
        rcases hu n x hx with h | ⟨z, hz⟩
        · exact absurd h hp
        · exact up_in hu k _ (idx_range hz) y hy
theorem climb_short {ns : List Node} (hu : Ups ns) {n : Int} (hn : InN ns n) {K : Nat} (h : climbB ns K n = true) : climbB ns ns.length n = true :=
  climbB_le (climb_len K n h) (nodup_len _ _ (up_nodup K n h) (up_in hu K n hn))
end Go.Proofs.Ytcaepigodglihaa
