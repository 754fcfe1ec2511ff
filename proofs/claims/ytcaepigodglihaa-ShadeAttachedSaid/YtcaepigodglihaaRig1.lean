/- The document's own test of a forest, whole. -/
import Derived.Test.YtcaepigodglihaaTre8
namespace Go.Proofs.Ytcaepigodglihaa
open Go Go.Pw

theorem r_way {f : Forest} (hu : Ups f.Nodes) (hb : f.Nodes.length ≤ 1000000) (i : Nat) (hi : i ≤ 1000000) (rc : Int → Option Bool) : ∀ (m t K : Nat) (a : Int), t + m = f.Nodes.length + 1 → m < K → (a = -1 ∨ InN f.Nodes a) → Instarref03_Right_l3 f (i : Int) rc K (a, (t : Int)) = if a = -1 ∨ climbB f.Nodes m a = true then rc ((i + 1 : Nat) : Int) else some false := by
  intro m
  induction m with
  | zero =>
    intro t K a ht hK ha
    obtain ⟨K, rfl⟩ : ∃ K', K = K' + 1 := ⟨K - 1, by omega⟩
    simp only [Instarref03_Right_l3]
    rw [cnd_ne, rng_nat (by omega), bnd_some]
    by_cases h : a = -1
    · rw [if_pos h, if_pos (.inl h)]
    · rw [if_neg h, cnd_pos (by simp; omega), if_neg (by simp [h, climbB])]
  | succ m ih =>
    intro t K a ht hK ha
    obtain ⟨K, rfl⟩ : ∃ K', K = K' + 1 := ⟨K - 1, by omega⟩
    simp only [Instarref03_Right_l3]
    rw [cnd_ne, rng_nat (by omega), bnd_some]
    by_cases h : a = -1
    · rw [if_pos h, if_pos (.inl h)]
    · have hin := ha.resolve_left h
      obtain ⟨x, hx⟩ := idx_some hin
      have hup : upI f.Nodes a = if x.Parent = -1 then x.Host else x.Parent := by unfold upI; rw [hx]
      have hnext : upI f.Nodes a = -1 ∨ InN f.Nodes (upI f.Nodes a) := by
        rcases hu a x hx with h | ⟨y, hy⟩
        · exact .inl h
        · exact .inr (idx_range hy)
      have e : (a = -1 ∨ climbB f.Nodes (m + 1) a = true) ↔ (upI f.Nodes a = -1 ∨ climbB f.Nodes m (upI f.Nodes a) = true) := by
        rw [climbB, Bool.or_eq_true, beq_iff_eq]
        exact ⟨fun h' => h'.resolve_left h, .inr⟩
      have ih := ih (t + 1) K (upI f.Nodes a) (by omega) (by omega) hnext
      rw [if_neg h, cnd_neg (by simp; omega), hx, bnd_some, bnd_some, bnd_some, cnd_ne, rng_nat (by omega), bnd_some, bnd_some]
      rw [hup] at ih e
      by_cases hp : x.Parent = -1
      · rw [if_pos hp] at ih e ⊢
        rw [ih]
        by_cases hc : x.Host = -1 ∨ climbB f.Nodes m x.Host = true
        · rw [if_pos hc, if_pos (e.2 hc)]
        · rw [if_neg hc, if_neg (fun h' => hc (e.1 h'))]
      · rw [if_neg hp] at ih e ⊢
        rw [ih]
        by_cases hc : x.Parent = -1 ∨ climbB f.Nodes m x.Parent = true
        · rw [if_pos hc, if_pos (e.2 hc)]
        · rw [if_neg hc, if_neg (fun h' => hc (e.1 h'))]
def nodesR (ns : List Node) : Bool := (List.range ns.length).all fun i => match ns[i]? with | some x => nodeR ns (i : Int) x | none => true
theorem nodesR_iff {ns : List Node} : nodesR ns = true ↔ AllB ns (nodeR ns) := by
  unfold nodesR
  rw [List.all_eq_true]
  constructor
  · intro h n x hx
    have hr := idx_range hx
    have := h n.toNat (by simp; omega)
    have e : ns[n.toNat]? = some x := by unfold idx at hx; rw [if_pos hr.1] at hx; exact hx
    rw [e] at this
    simpa [show ((n.toNat : Nat) : Int) = n by omega] using this
  · intro h i hi
    have hi : i < ns.length := by simpa using hi
    rw [List.getElem?_eq_getElem hi]
    exact h i _ (idx_lt hi)
theorem nodesR_eq (ns : List Node) : nodesR ns = nodesB ns := by
  rw [Bool.eq_iff_iff, nodesR_iff, nodesB_iff]; exact nodes_same.symm
theorem rright3_ok {fu : Nat} {f : Forest} (hfu : 1000 < fu) (hk : KidsFit fu f.Nodes) : Instarref03_Right_m fu f = some (frightB f) := by
  unfold Instarref03_Right_m frightB
  rw [cnd_dec, cnd_dec, cnd_dec, cnd_eq]
  by_cases h1 : f.Most < 1
  · rw [if_pos h1, decide_eq_false (show ¬ 1 ≤ f.Most by omega)]; rfl
  rw [if_neg h1, decide_eq_true (show 1 ≤ f.Most by omega)]
  by_cases h2 : f.Most > 400
  · rw [if_pos h2, decide_eq_false (show ¬ f.Most ≤ 400 by omega)]; rfl
  rw [if_neg h2, decide_eq_true (show f.Most ≤ 400 by omega)]
  by_cases h3 : ((f.Nodes.length : Nat) : Int) = 0
  · rw [if_pos h3, decide_eq_false (show ¬ 1 ≤ f.Nodes.length by omega)]; rfl
  rw [if_neg h3, decide_eq_true (show 1 ≤ f.Nodes.length by omega)]
  by_cases h4 : ((f.Nodes.length : Nat) : Int) > f.Most
  · rw [if_pos h4, decide_eq_false (show ¬ (f.Nodes.length : Int) ≤ f.Most by omega)]; rfl
  rw [if_neg h4, decide_eq_true (show (f.Nodes.length : Int) ≤ f.Most by omega)]
  obtain ⟨x0, hx0⟩ := idx_some (l := f.Nodes) (n := 0) (by omega)
  rw [hx0, bnd_some, cnd_ne]
  have e0 : isB f.Nodes 0 0 = (x0.Kind == 0) := by unfold isB; rw [hx0]
  rw [e0]
  by_cases h5 : x0.Kind = 0
  case neg =>
    rw [if_neg h5]
    have : (x0.Kind == 0) = false := by simpa using h5
    rw [this]; rfl
  rw [if_pos h5, h5]
  simp only [Bool.true_and, beq_self_eq_true]
  have l2 : nodesB f.Nodes = true → Instarref03_Right_l2 fu f fu 0 = some (endsB f.Nodes) := fun hn => by
    have hu := nodes_ups hn
    refine (up_alli (L := Instarref03_Right_l2 fu f) f.Nodes.length (fun i => climbB f.Nodes (f.Nodes.length + 1) (i : Int)) (some true) (fun i hi k => ?_) (fun k => ?_) (by omega)).trans ?_
    · have hin : InN f.Nodes (i : Int) := ⟨by omega, by omega⟩
      simp only [Instarref03_Right_l2]
      rw [cnd_pos (by simpa using hi)]
      have := r_way hu (by omega) i (by omega) (Instarref03_Right_l2 fu f k) (f.Nodes.length + 1) 0 fu (i : Int) (by omega) (by omega) (.inr hin)
      rw [show ((0 : Nat) : Int) = 0 from rfl] at this
      rw [this]
      cases hc : climbB f.Nodes (f.Nodes.length + 1) (i : Int) with
      | false => rw [if_neg (by simp)]; rfl
      | true => rw [if_pos (.inr rfl)]; rfl
    · simp only [Instarref03_Right_l2]
      rw [cnd_neg (by simp)]
    · have e : ((List.range f.Nodes.length).all fun i => climbB f.Nodes (f.Nodes.length + 1) (i : Int)) = endsB f.Nodes := by
        unfold endsB
        rw [Bool.eq_iff_iff, List.all_eq_true, List.all_eq_true]
        constructor
        · intro h i hi
          have hin : InN f.Nodes (i : Int) := ⟨by omega, by have : i < f.Nodes.length := (by simpa using hi); omega⟩
          exact climb_short hu hin (h i hi)
        · intro h i hi; exact climbB_more _ _ (h i hi)
      rw [e]
      cases endsB f.Nodes <;> rfl
  refine (up_alli (L := Instarref03_Right_l1 fu f) f.Nodes.length (fun i => match f.Nodes[i]? with | some x => nodeR f.Nodes (i : Int) x | none => true) (Instarref03_Right_l2 fu f fu 0) (fun i hi k => ?_) (fun k => ?_) (by omega)).trans ?_
  · have hx := idx_lt hi
    simp only [Instarref03_Right_l1]
    rw [cnd_pos (by simpa using hi), List.getElem?_eq_getElem hi, rnode_ok (by omega) hk hx, bnd_some, rng_nat (by omega), bnd_some, cnd_not]
    simp only
    cases nodeR f.Nodes (i : Int) f.Nodes[i] <;> rfl
  · simp only [Instarref03_Right_l1]
    rw [cnd_neg (by simp)]
  · have e : ((List.range f.Nodes.length).all fun i => match f.Nodes[i]? with | some x => nodeR f.Nodes (i : Int) x | none => true) = nodesR f.Nodes := rfl
    rw [e, nodesR_eq]
    cases hn : nodesB f.Nodes
    · rfl
    · rw [l2 hn]; rfl
end Go.Proofs.Ytcaepigodglihaa
