/- Small facts on forests that are right. -/
import Derived.Test.YtcaepigodglihaaFor1
namespace Go.Proofs.Ytcaepigodglihaa
open Go Go.Pw

theorem containsFInt_ok {fu : Nat} {t : Int → Option Bool} {p : Int → Bool} {l : List Int} (ht : ∀ x ∈ l, t x = some (p x)) (hf : l.length < fu) (hb : l.length ≤ 1000000) : Slices_ContainsFunc_int_m fu t l = some (l.any p) := by
  unfold Slices_ContainsFunc_int_m Slices_IndexFunc_int_m
  obtain ⟨r, h1, h2⟩ := up_index (L := Slices_IndexFunc_int_l1 t l) l p (fun i hi k => by
    simp only [Slices_IndexFunc_int_l1]
    rw [cnd_pos (by simpa using hi), idx_lt hi, bnd_some, ht _ (List.getElem_mem hi), bnd_some, rng_nat (by omega), bnd_some]
    cases p l[i] <;> rfl) (fun k => by simp only [Slices_IndexFunc_int_l1]; rw [cnd_neg (by simp)]) hf
  rw [h1, bnd_some, h2]
def inB (f : Forest) (n : Int) : Bool := decide (0 ≤ n ∧ n < f.Nodes.length)
theorem right_parts {f : Forest} (h : frightB f = true) : 1 ≤ f.Nodes.length ∧ f.Nodes.length ≤ 400 ∧ nodesB f.Nodes = true ∧ endsB f.Nodes = true := by
  unfold frightB at h
  simp only [Bool.and_eq_true, decide_eq_true_eq] at h
  obtain ⟨h1, h2, h3, h4, h5, h6, h7⟩ := h
  exact ⟨h3, by omega, h6, h7⟩

theorem ends_at {ns : List Node} (h : endsB ns = true) {n : Int} (hn : 0 ≤ n ∧ n < ns.length) : climbB ns ns.length n = true := by
  unfold endsB at h
  rw [List.all_eq_true] at h
  have := h n.toNat (by simp; omega)
  rwa [show ((n.toNat : Nat) : Int) = n by omega] at this
theorem kids_there {ns : List Node} (hn : nodesB ns = true) {n : Int} {x : Node} (hx : idx ns n = some x) : ∀ k ∈ x.Kids, ∃ y, idx ns k = some y := by
  intro k hk
  have h := nodes_at hn hx
  unfold nodeB bearsB at h
  simp only [Bool.and_eq_true] at h
  obtain ⟨_, _, _, ⟨_, h1, _⟩, _⟩ := h
  have := List.all_eq_true.1 h1 k hk
  unfold kidB at this
  cases hy : idx ns k with
  | none => rw [hy] at this; cases this
  | some y => exact ⟨y, rfl⟩
theorem rem_ok {a : Int} {n : Nat} (ha : 0 ≤ a) (hn : 1 ≤ n) : ∃ c, remI a (n : Int) = some c ∧ 0 ≤ c ∧ c < n := by
  refine ⟨a.tmod n, if_neg (by omega), ?_⟩
  rw [Int.tmod_eq_emod_of_nonneg ha]
  exact ⟨Int.emod_nonneg _ (by omega), Int.emod_lt_of_pos _ (by omega)⟩
theorem shortF_ok {fu : Nat} {f : Forest} (hfu : 1000 < fu) : ∃ r, Instarref03_Short_m fu f = some r ∧ (r = true → KidsFit fu f.Nodes) := by
  unfold Instarref03_Short_m
  rw [cnd_dec]
  by_cases h : f.Nodes.length ≤ 60
  · rw [if_neg (by omega)]
    refine ⟨f.Nodes.all fun n => decide (n.Kids.length ≤ 60) && (decide (n.Attrs.length ≤ 60) && decide (n.Name.length ≤ 300)), (up_all (L := Instarref03_Short_l1 f) f.Nodes (fun n => decide (n.Kids.length ≤ 60) && (decide (n.Attrs.length ≤ 60) && decide (n.Name.length ≤ 300))) (some true) (fun i hi k => ?_) (fun k => ?_) (by omega)).trans ?_, fun hr n hn => ?_⟩
    · simp only [Instarref03_Short_l1]
      rw [cnd_pos (by simpa using hi), idx_lt hi, bnd_some, bnd_some, bnd_some, rng_nat (by omega), bnd_some, cnd_dec, cnd_dec, cnd_dec]
      generalize f.Nodes[i] = n
      by_cases h1 : n.Kids.length ≤ 60
      · by_cases h2 : n.Attrs.length ≤ 60
        · by_cases h3 : n.Name.length ≤ 300
          · rw [if_neg (by omega), if_neg (by omega), if_neg (by omega)]; simp [h1, h2, h3]
          · rw [if_neg (by omega), if_neg (by omega), if_pos (by omega)]; simp [h3]
        · rw [if_neg (by omega), if_pos (by omega)]; simp [h2]
      · rw [if_pos (by omega)]; simp [h1]
    · simp only [Instarref03_Short_l1]
      rw [cnd_neg (by simp)]
    · cases f.Nodes.all fun n => decide (n.Kids.length ≤ 60) && (decide (n.Attrs.length ≤ 60) && decide (n.Name.length ≤ 300)) <;> rfl
    · have := List.all_eq_true.1 hr n hn
      simp only [Bool.and_eq_true, decide_eq_true_eq] at this
      omega
  · rw [if_pos (by omega)]; exact ⟨false, rfl, by simp⟩
def AllB (ns : List Node) (p : Int → Node → Bool) : Prop := ∀ n x, idx ns n = some x → p n x = true
theorem nodesB_iff {ns : List Node} : nodesB ns = true ↔ AllB ns (nodeB ns) := by
  constructor
  · intro h n x hx; exact nodes_at h hx
  · intro h
    unfold nodesB
    rw [List.all_eq_true]
    intro i hi
    have hi : i < ns.length := by simpa using hi
    rw [List.getElem?_eq_getElem hi]
    exact h i _ (idx_lt hi)
theorem kind_of_named {x : Node} (h : namedB x = true) : 0 ≤ x.Kind ∧ x.Kind ≤ 4 := by
  unfold namedB at h
  by_cases h1 : x.Kind = 1
  · omega
  rw [if_neg h1] at h
  by_cases h2 : x.Kind = 2
  · omega
  rw [if_neg h2] at h
  by_cases h3 : x.Kind = 0 ∨ x.Kind = 3 ∨ x.Kind = 4
  · omega
  rw [if_neg h3] at h
  cases h
theorem climbB_more {ns : List Node} : ∀ (k : Nat) (n : Int), climbB ns k n = true → climbB ns (k + 1) n = true
  | 0, _, h => by cases h
  | k + 1, n, h => by
    rw [climbB, Bool.or_eq_true] at h ⊢
    exact h.imp id fun h => climbB_more k _ h
theorem holder_iff {k : Int} (h : 0 ≤ k ∧ k ≤ 4) : holderB k = (k != 2) := by
  unfold holderB
  have : k = 0 ∨ k = 1 ∨ k = 2 ∨ k = 3 ∨ k = 4 := by omega
  rcases this with rfl | rfl | rfl | rfl | rfl <;> rfl
end Go.Proofs.Ytcaepigodglihaa
