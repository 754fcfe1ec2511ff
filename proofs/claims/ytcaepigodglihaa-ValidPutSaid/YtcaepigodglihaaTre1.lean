/- Trees: the way up from a node, and all that is below it. -/
import Derived.Test.YtcaepigodglihaaFor2
namespace Go.Proofs.Ytcaepigodglihaa
open Go Go.Pw

def InN (ns : List Node) (n : Int) : Prop := 0 ≤ n ∧ n < ns.length
def parI (ns : List Node) (n : Int) : Int := match idx ns n with | some x => x.Parent | none => -1
def kidsI (ns : List Node) (n : Int) : List Int := match idx ns n with | some x => x.Kids | none => []
def climbP (ns : List Node) : Nat → Int → Prop
  | 0, _ => False
  | k + 1, n => parI ns n = -1 ∨ climbP ns k (parI ns n)
def wayF (ns : List Node) : Nat → Int → List Int
  | 0, _ => []
  | k + 1, n => n :: (if parI ns n = -1 then [] else wayF ns k (parI ns n))
def way (ns : List Node) (n : Int) : List Int := wayF ns ns.length n
def allF (ns : List Node) : Nat → Int → List Int
  | 0, _ => []
  | k + 1, n => n :: (kidsI ns n).flatMap (allF ns k)
def allN (ns : List Node) (n : Int) : List Int := allF ns ns.length n
def rootF (ns : List Node) : Nat → Int → Int
  | 0, n => n
  | k + 1, n => if parI ns n = -1 then n else rootF ns k (parI ns n)
def rootN (ns : List Node) (n : Int) : Int := rootF ns ns.length n
structure Tree (ns : List Node) : Prop where
  kid : ∀ n k, k ∈ kidsI ns n → InN ns n ∧ InN ns k ∧ parI ns k = n
  par : ∀ x, InN ns x → parI ns x ≠ -1 → InN ns (parI ns x) ∧ x ∈ kidsI ns (parI ns x)
  nod : ∀ n, (kidsI ns n).Nodup
  fin : ∀ n, InN ns n → climbP ns ns.length n

theorem tree_of {ns : List Node} (hn : nodesB ns = true) (he : endsB ns = true) : Tree ns where
  kid n k hk := by
    unfold kidsI at hk
    cases hx : idx ns n with
    | none => rw [hx] at hk; simp at hk
    | some x =>
      rw [hx] at hk
      have h := nodes_at hn hx
      unfold nodeB bearsB at h
      simp only [Bool.and_eq_true] at h
      obtain ⟨_, _, _, ⟨_, h1, _⟩, _⟩ := h
      have := List.all_eq_true.1 h1 k hk
      unfold kidB at this
      cases hy : idx ns k with
      | none => rw [hy] at this; cases this
      | some y =>
        rw [hy] at this
        simp only [Bool.and_eq_true, beq_iff_eq] at this
        refine ⟨idx_range hx, idx_range hy, ?_⟩
        unfold parI; rw [hy]; exact this.1
  par x hx hp := by
    obtain ⟨y, hy⟩ := idx_some hx
    have e : parI ns x = y.Parent := by unfold parI; rw [hy]
    rw [e] at hp ⊢
    have h := nodes_at hn hy
    unfold nodeB hungB at h
    simp only [Bool.and_eq_true] at h
    obtain ⟨_, _, h3, _⟩ := h
    have e : (y.Parent == -1) = false := by simpa using hp
    rw [e, Bool.false_or, Bool.and_eq_true] at h3
    cases hh : idx ns y.Parent with
    | none => rw [hh] at h3; simp at h3
    | some p =>
      rw [hh] at h3
      simp only [Bool.and_eq_true] at h3
      refine ⟨idx_range hh, ?_⟩
      unfold kidsI; rw [hh]
      exact List.contains_iff_mem.1 h3.2.2
  nod n := by
    unfold kidsI
    cases hx : idx ns n with
    | none => simp
    | some x =>
      have h := nodes_at hn hx
      unfold nodeB bearsB at h
      simp only [Bool.and_eq_true, decide_eq_true_eq] at h
      exact h.2.2.2.1.1
  fin n h := by
    have := ends_at he h
    revert this
    generalize ns.length = k
    clear h
    intro h
    induction k generalizing n with
    | zero => cases h
    | succ k ih =>
      simp only [climbB, Bool.or_eq_true, beq_iff_eq] at h
      simp only [climbP]
      by_cases hp : parI ns n = -1
      · exact .inl hp
      · have e : upI ns n = parI ns n := by
          unfold upI; unfold parI at hp ⊢
          cases hx : idx ns n with
          | none => rfl
          | some x => rw [hx] at hp; simp only at hp ⊢; rw [if_neg hp]
        rw [e] at h
        rcases h with h | h
        · exact absurd h hp
        · exact .inr (ih _ h)

theorem InN.pos {ns : List Node} {n : Int} (h : InN ns n) : ∃ M, ns.length = M + 1 := ⟨ns.length - 1, by unfold InN at h; omega⟩
theorem InN.ne {ns : List Node} {n : Int} (h : InN ns n) : n ≠ -1 := by unfold InN at h; omega
theorem wayF_stab {ns : List Node} : ∀ (k : Nat) (n : Int), climbP ns k n → ∀ j, k ≤ j → wayF ns j n = wayF ns k n
  | 0, _, h, _, _ => h.elim
  | k + 1, n, h, j, hj => by
    obtain ⟨j, rfl⟩ : ∃ j', j = j' + 1 := ⟨j - 1, by omega⟩
    simp only [wayF]
    by_cases hp : parI ns n = -1
    · rw [if_pos hp, if_pos hp]
    · rw [if_neg hp, if_neg hp, wayF_stab k _ (h.resolve_left hp) j (by omega)]
theorem rootF_stab {ns : List Node} : ∀ (k : Nat) (n : Int), climbP ns k n → ∀ j, k ≤ j → rootF ns j n = rootF ns k n
  | 0, _, h, _, _ => h.elim
  | k + 1, n, h, j, hj => by
    obtain ⟨j, rfl⟩ : ∃ j', j = j' + 1 := ⟨j - 1, by omega⟩
    simp only [rootF]
    by_cases hp : parI ns n = -1
    · rw [if_pos hp, if_pos hp]
    · rw [if_neg hp, if_neg hp, rootF_stab k _ (h.resolve_left hp) j (by omega)]
theorem wayF_len {ns : List Node} : ∀ (k : Nat) (n : Int), (wayF ns k n).length ≤ k
  | 0, _ => by simp [wayF]
  | k + 1, n => by
    simp only [wayF, List.length_cons]
    split
    · simp
    · have := wayF_len (ns := ns) k (parI ns n); omega
section
variable {ns : List Node} (T : Tree ns)
include T
theorem Tree.climb {n : Int} (h : InN ns n) {M : Nat} (hM : ns.length = M + 1) : parI ns n = -1 ∨ climbP ns M (parI ns n) := by
  have := T.fin n h
  rw [hM] at this
  exact this
theorem Tree.way_eq {n : Int} (h : InN ns n) : way ns n = n :: (if parI ns n = -1 then [] else way ns (parI ns n)) := by
  obtain ⟨M, hM⟩ := h.pos
  have hc := T.climb h hM
  unfold way
  rw [hM]
  simp only [wayF]
  by_cases hp : parI ns n = -1
  · rw [if_pos hp, if_pos hp]
  · rw [if_neg hp, if_neg hp]
    have := wayF_stab M _ (hc.resolve_left hp) (M + 1) (by omega)
    simp only [wayF] at this
    rw [this]
theorem Tree.root_eq {n : Int} (h : InN ns n) : rootN ns n = if parI ns n = -1 then n else rootN ns (parI ns n) := by
  obtain ⟨M, hM⟩ := h.pos
  have hc := T.climb h hM
  unfold rootN
  rw [hM]
  simp only [rootF]
  by_cases hp : parI ns n = -1
  · rw [if_pos hp, if_pos hp]
  · rw [if_neg hp, if_neg hp]
    have := rootF_stab M _ (hc.resolve_left hp) (M + 1) (by omega)
    simp only [rootF] at this
    rw [this]
theorem Tree.up_ind {C : Int → Prop} (h : ∀ n, InN ns n → (parI ns n ≠ -1 → C (parI ns n)) → C n) : ∀ n, InN ns n → C n := by
  have key : ∀ (k : Nat) (n : Int), InN ns n → climbP ns k n → C n := by
    intro k
    induction k with
    | zero => intro n _ h; exact h.elim
    | succ k ih =>
      intro n hn hc
      exact h n hn fun hp => ih _ (T.par n hn hp).1 (hc.resolve_left hp)
  exact fun n hn => key _ n hn (T.fin n hn)
theorem Tree.way_kid {n k : Int} (hk : k ∈ kidsI ns n) : way ns k = k :: way ns n := by
  obtain ⟨h1, h2, h3⟩ := T.kid n k hk
  rw [T.way_eq h2, h3, if_neg h1.ne]
theorem Tree.way_len {n : Int} (h : InN ns n) : 1 ≤ (way ns n).length ∧ (way ns n).length ≤ ns.length := by
  refine ⟨?_, wayF_len _ _⟩
  rw [T.way_eq h]; simp
theorem Tree.down_ind {C : Int → Prop} (h : ∀ n, InN ns n → (∀ k, k ∈ kidsI ns n → C k) → C n) : ∀ n, InN ns n → C n := by
  have key : ∀ (d : Nat) (n : Int), InN ns n → ns.length < (way ns n).length + d → C n := by
    intro d
    induction d with
    | zero => intro n hn hl; have := T.way_len hn; omega
    | succ d ih =>
      intro n hn hl
      exact h n hn fun k hk => ih k (T.kid n k hk).2.1 (by rw [T.way_kid hk, List.length_cons]; omega)
  exact fun n hn => key ns.length n hn (by have := T.way_len hn; omega)
theorem Tree.allF_stab : ∀ (d : Nat) (n : Int), InN ns n → ns.length < (way ns n).length + d → ∀ j, allF ns (d + j) n = allF ns d n := by
  intro d
  induction d with
  | zero => intro n hn hl; have := T.way_len hn; omega
  | succ d ih =>
    intro n hn hl j
    rw [show d + 1 + j = d + j + 1 by omega]
    simp only [allF, List.flatMap_def]
    rw [List.map_congr_left fun k hk => ih k (T.kid n k hk).2.1 (by rw [T.way_kid hk, List.length_cons]; omega) j]
theorem Tree.all_eq {n : Int} (h : InN ns n) : allN ns n = n :: (kidsI ns n).flatMap (allN ns) := by
  obtain ⟨M, hM⟩ := h.pos
  have hs := T.allF_stab
  have hw := T.way_len h
  unfold allN
  rw [hM]
  conv => lhs; simp only [allF]
  rw [List.flatMap_def, List.flatMap_def, List.map_congr_left fun k hk => (hs M k (T.kid n k hk).2.1 (by rw [T.way_kid hk, List.length_cons]; omega) 1).symm]
theorem Tree.way_self {n : Int} (h : InN ns n) : n ∈ way ns n := by rw [T.way_eq h]; simp
theorem Tree.way_in : ∀ x, InN ns x → ∀ y ∈ way ns x, InN ns y := T.up_ind fun x hx ih y hy => by
  rw [T.way_eq hx] at hy
  rcases List.mem_cons.1 hy with rfl | hy
  · exact hx
  · split at hy
    · simp at hy
    · rename_i hp; exact ih hp y hy
theorem Tree.way_suffix : ∀ x, InN ns x → ∀ y ∈ way ns x, way ns y <:+ way ns x := T.up_ind fun x hx ih y hy => by
  have e := T.way_eq hx
  rw [e] at hy
  rcases List.mem_cons.1 hy with rfl | hy
  · exact List.suffix_refl _
  · split at hy
    · simp at hy
    · rename_i hp
      rw [e, if_neg hp]
      exact (ih hp y hy).trans (List.suffix_cons _ _)
theorem Tree.way_trans {x y z : Int} (hz : InN ns z) (h1 : x ∈ way ns y) (h2 : y ∈ way ns z) : x ∈ way ns z := (T.way_suffix z hz y h2).subset h1
theorem Tree.way_inj {x y : Int} (hx : InN ns x) (hy : InN ns y) (h : way ns x = way ns y) : x = y := by
  rw [T.way_eq hx, T.way_eq hy] at h
  exact (List.cons.inj h).1
theorem Tree.way_anti {x y : Int} (hy : InN ns y) (h1 : x ∈ way ns y) (h2 : y ∈ way ns x) : x = y := by
  have hx := T.way_in y hy x h1
  have s1 := T.way_suffix y hy x h1
  have s2 := T.way_suffix x hx y h2
  exact T.way_inj hx hy (s1.eq_of_length_le s2.length_le)
/-- Of two that stand above a third one is above the other, or they are as deep. -/
theorem Tree.way_same {x y z : Int} (hz : InN ns z) (h1 : x ∈ way ns z) (h2 : y ∈ way ns z) (hl : (way ns x).length = (way ns y).length) : x = y :=
  T.way_inj (T.way_in z hz x h1) (T.way_in z hz y h2) ((List.suffix_of_suffix_length_le (T.way_suffix z hz x h1) (T.way_suffix z hz y h2) (by omega)).eq_of_length hl)
end
end Go.Proofs.Ytcaepigodglihaa
