/- The law ForestRight of layer 3 (forest). -/
import Derived.Test.YtcaepigodglihaaTre8
namespace Go.Proofs.Ytcaepigodglihaa
open Go Go.Pw

theorem r_way {f : Forest} (hu : Ups f.Nodes) (hb : f.Nodes.length ≤ 1000000) (i : Nat) (hi : i ≤ 1000000) (rc : Int → Option Bool) : ∀ (m t K : Nat) (a : Int), t + m = f.Nodes.length + 1 → m < K → (a = -1 ∨ InN f.Nodes a) → Instarref03_Right_l3 f (i : Int) rc K (a, (t : Int)) = if a = -1 ∨ climbB f.Nodes m a = true then rc ((i + 1 : Nat) : Int) else some false := by
  intro m
  induction m with
  | zero =>
    intro t K a ht hK ha
    obtain ⟨K, rfl⟩ : ∃ K', K = K' + 1 := ⟨K - 1, by omega⟩
    simp only [Instarref03_Right_l3]
    rw [cnd_ne, rng_nat (by omega), bnd_some]
    by_cases h : a = -1
    · rw [if_pos h, if_pos (.inl h)]
    · rw [if_neg h, cnd_pos (by simp; omega), if_neg (by simp [h, climbB])]
  | succ m ih =>
    intro t K a ht hK ha
    obtain ⟨K, rfl⟩ : ∃ K', K = K' + 1 := ⟨K - 1, by omega⟩
    simp only [Instarref03_Right_l3]
    rw [cnd_ne, rng_nat (by omega), bnd_some]
    by_cases h : a = -1
    · rw [if_pos h, if_pos (.inl h)]
    · have hin := ha.resolve_left h
      obtain ⟨x, hx⟩ := idx_some hin
      have hup : upI f.Nodes a = if x.Parent = -1 then x.Host else x.Parent := by unfold upI; rw [hx]
      have hnext : upI f.Nodes a = -1 ∨ InN f.Nodes (upI f.Nodes a) := by
        rcases hu a x hx with h | ⟨y, hy⟩
        · exact .inl h
        · exact .inr (idx_range hy)
      have e : (a = -1 ∨ climbB f.Nodes (m + 1) a = true) ↔ (upI f.Nodes a = -1 ∨ climbB f.Nodes m (upI f.Nodes a) = true) := by
        rw [climbB, Bool.or_eq_true, beq_iff_eq]
        exact ⟨fun h' => h'.resolve_left h, .inr⟩
      have ih := ih (t + 1) K (upI f.Nodes a) (by omega) (by omega) hnext
      rw [if_neg h, cnd_neg (by simp; omega), hx, bnd_some, bnd_some, bnd_some, cnd_ne, rng_nat (by omega), bnd_some, bnd_some]
      rw [hup] at ih e
      by_cases hp : x.Parent = -1
      · rw [if_pos hp] at ih e ⊢
        rw [ih]
        by_cases hc : x.Host = -1 ∨ climbB f.Nodes m x.Host = true
        · rw [if_pos hc, if_pos (e.2 hc)]
        · rw [if_neg hc, if_neg (fun h' => hc (e.1 h'))]
      · rw [if_neg hp] at ih e ⊢
        rw [ih]
        by_cases hc : x.Parent = -1 ∨ climbB f.Nodes m x.Parent = true
        · rw [if_pos hc, if_pos (e.2 hc)]
        · rw [if_neg hc, if_neg (fun h' => hc (e.1 h'))]
def nodesR (ns : List Node) : Bool := (List.range ns.length).all fun i => match ns[i]? with | some x => nodeR ns (i : Int) x | none => true
theorem nodesR_iff {ns : List Node} : nodesR ns = true ↔ AllB ns (nodeR ns) := by
  unfold nodesR
  rw [List.all_eq_true]
  constructor
  · intro h n x hx
    have hr := idx_range hx
    have := h n.toNat (by simp; omega)
    have e : ns[n.toNat]? = some x := by unfold idx at hx; rw [if_pos hr.1] at hx; exact hx
    rw [e] at this
    simpa [show ((n.toNat : Nat) : Int) = n by omega] using this
  · intro h i hi
    have hi : i < ns.length := by simpa using hi
    rw [List.getElem?_eq_getElem hi]
    exact h i _ (idx_lt hi)
theorem nodesR_eq (ns : List Node) : nodesR ns = nodesB ns := by
  rw [Bool.eq_iff_iff, nodesR_iff, nodesB_iff]; exact nodes_same.symm
theorem rright3_ok {fu : Nat} {f : Forest} (hfu : 1000 < fu) (hk : KidsFit fu f.Nodes) : Instarref03_Right_m fu f = some (frightB f) := by
  unfold Instarref03_Right_m frightB
  rw [cnd_dec, cnd_dec, cnd_dec, cnd_eq]
  by_cases h1 : f.Most < 1
  · rw [if_pos h1, decide_eq_false (show ¬ 1 ≤ f.Most by omega)]; rfl
  rw [if_neg h1, decide_eq_true (show 1 ≤ f.Most by omega)]
  by_cases h2 : f.Most > 400
  · rw [if_pos h2, decide_eq_false (show ¬ f.Most ≤ 400 by omega)]; rfl
  rw [if_neg h2, decide_eq_true (show f.Most ≤ 400 by omega)]
  by_cases h3 : ((f.Nodes.length : Nat) : Int) = 0
  · rw [if_pos h3, decide_eq_false (show ¬ 1 ≤ f.Nodes.length by omega)]; rfl
  rw [if_neg h3, decide_eq_true (show 1 ≤ f.Nodes.length by omega)]
  by_cases h4 : ((f.Nodes.length : Nat) : Int) > f.Most
  · rw [if_pos h4, decide_eq_false (show ¬ (f.Nodes.length : Int) ≤ f.Most by omega)]; rfl
  rw [if_neg h4, decide_eq_true (show (f.Nodes.length : Int) ≤ f.Most by omega)]
  obtain ⟨x0, hx0⟩ := idx_some (l := f.Nodes) (n := 0) (by omega)
  rw [hx0, bnd_some, cnd_ne]
  have e0 : isB f.Nodes 0 0 = (x0.Kind == 0) := by unfold isB; rw [hx0]
  rw [e0]
  by_cases h5 : x0.Kind = 0
  case neg =>
    rw [if_neg h5]
    have : (x0.Kind == 0) = false := by simpa using h5
    rw [this]; rfl
  rw [if_pos h5, h5]
  simp only [Bool.true_and, beq_self_eq_true]
  have l2 : nodesB f.Nodes = true → Instarref03_Right_l2 fu f fu 0 = some (endsB f.Nodes) := fun hn => by
    have hu := nodes_ups hn
    refine (up_alli (L := Instarref03_Right_l2 fu f) f.Nodes.length (fun i => climbB f.Nodes (f.Nodes.length + 1) (i : Int)) (some true) (fun i hi k => ?_) (fun k => ?_) (by omega)).trans ?_
    · have hin : InN f.Nodes (i : Int) := ⟨by omega, by omega⟩
      simp only [Instarref03_Right_l2]
      rw [cnd_pos (by simpa using hi)]
      have := r_way hu (by omega) i (by omega) (Instarref03_Right_l2 fu f k) (f.Nodes.length + 1) 0 fu (i : Int) (by omega) (by omega) (.inr hin)
      rw [show ((0 : Nat) : Int) = 0 from rfl] at this
      rw [this]
      cases hc : climbB f.Nodes (f.Nodes.length + 1) (i : Int) with
      | false => rw [if_neg (by simp)]; rfl
      | true => rw [if_pos (.inr rfl)]; rfl
    · simp only [Instarref03_Right_l2]
      rw [cnd_neg (by simp)]
    · have e : ((List.range f.Nodes.length).all fun i => climbB f.Nodes (f.Nodes.length + 1) (i : Int)) = endsB f.Nodes := by
        unfold endsB
        rw [Bool.eq_iff_iff, List.all_eq_true, List.all_eq_true]
        constructor
        · intro h i hi
          have hin : InN f.Nodes (i : Int) := ⟨by omega, by have : i < f.Nodes.length := (by simpa using hi); omega⟩
          exact climb_short hu hin (h i hi)
        · intro h i hi; exact climbB_more _ _ (h i hi)
      rw [e]
      cases endsB f.Nodes <;> rfl
  refine (up_alli (L := Instarref03_Right_l1 fu f) f.Nodes.length (fun i => match f.Nodes[i]? with | some x => nodeR f.Nodes (i : Int) x | none => true) (Instarref03_Right_l2 fu f fu 0) (fun i hi k => ?_) (fun k => ?_) (by omega)).trans ?_
  · have hx := idx_lt hi
    simp only [Instarref03_Right_l1]
    rw [cnd_pos (by simpa using hi), List.getElem?_eq_getElem hi, rnode_ok (by omega) hk hx, bnd_some, rng_nat (by omega), bnd_some, cnd_not]
    simp only
    cases nodeR f.Nodes (i : Int) f.Nodes[i] <;> rfl
  · simp only [Instarref03_Right_l1]
    rw [cnd_neg (by simp)]
  · have e : ((List.range f.Nodes.length).all fun i => match f.Nodes[i]? with | some x => nodeR f.Nodes (i : Int) x | none => true) = nodesR f.Nodes := rfl
    rw [e, nodesR_eq]
    cases hn : nodesB f.Nodes
    · rfl
    · rw [l2 hn]; rfl

/-! ## A node more -/
theorem isB_new {f : Forest} {x : Node} {d : Int} (h0 : x.Kind ≠ 0) : isB (f.Nodes ++ [newN f x]) d 0 = isB f.Nodes d 0 := by
  by_cases hin : 0 ≤ d ∧ d < f.Nodes.length
  · obtain ⟨y, hy⟩ := idx_some hin
    exact isB_same hy
  · unfold isB
    rw [idx_none hin]
    by_cases hl : d = ((f.Nodes.length : Nat) : Int)
    · rw [hl, idx_last]
      exact beq_eq_false_iff_ne.2 h0
    · rw [idx_none (by simp; omega)]
theorem nodeR_new {f : Forest} {x : Node} (h4 : x.Kind ≠ 4) : nodeR (f.Nodes ++ [newN f x]) ((f.Nodes.length : Nat) : Int) (newN f x) = newB f x := by
  have e4 : (x.Kind != 4) = true := bne_iff_ne.2 h4
  by_cases hk : 0 ≤ x.Kind ∧ x.Kind ≤ 4
  case neg =>
    have h1 : namedB (newN f x) = false := by
      cases h : namedB (newN f x) with
      | false => rfl
      | true => exact absurd (kind_of_named h) hk
    unfold nodeR newB
    rw [h1, decide_eq_false (show ¬ (0 ≤ (newN f x).Kind ∧ (newN f x).Kind ≤ 4) from hk)]; rfl
  have hn : nameR (newN f x) = namedB (newN f x) := name_same hk
  have hp : parR (f.Nodes ++ [newN f x]) ((f.Nodes.length : Nat) : Int) (newN f x) = true := rfl
  have hks : (newN f x).Kids.all (kidR (f.Nodes ++ [newN f x]) ((f.Nodes.length : Nat) : Int) (newN f x)) = true := rfl
  have he : endR (f.Nodes ++ [newN f x]) (newN f x) = true := by
    unfold endR elemsOf newN
    simp
  have hh : hostB (f.Nodes ++ [newN f x]) ((f.Nodes.length : Nat) : Int) (newN f x) = true := by
    unfold hostB
    rw [if_neg (show ¬ (newN f x).Kind = 4 from h4)]; rfl
  have hu : underB (f.Nodes ++ [newN f x]) ((f.Nodes.length : Nat) : Int) (newN f x) = true := rfl
  unfold nodeR newB
  rw [hn, hp, hks, he, hh, hu, decide_eq_true (show 0 ≤ (newN f x).Kind ∧ (newN f x).Kind ≤ 4 from hk), e4]
  by_cases h0 : x.Kind = 0
  · have hd : (newN f x).Doc = ((f.Nodes.length : Nat) : Int) := if_pos h0
    have hb : isB (f.Nodes ++ [newN f x]) (newN f x).Doc 0 = true := by
      unfold isB; rw [hd, idx_last]; exact beq_iff_eq.2 h0
    rw [hb, hd]
    simp [h0]
  · have hd : (newN f x).Doc = x.Doc := if_neg h0
    have e0 : (x.Kind == 0) = false := beq_eq_false_iff_ne.2 h0
    have e1 : ((newN f x).Kind != 0) = true := bne_iff_ne.2 h0
    rw [hd, isB_new h0, e1, e0]
    cases isB f.Nodes x.Doc 0 <;> cases namedB (newN f x) <;> rfl
theorem rmake_ok {f : Forest} {fu : Nat} {x : Node} (hfu : 1000 < fu) (hk : KidsFit fu f.Nodes) (hr : frightB f = true) : Instarref03_Make_m fu f x = some (if newB f x = true then (if ((f.Nodes.length : Nat) : Int) = f.Most then (f, -1, 8) else (⟨f.Nodes ++ [newN f x], f.Most⟩, ((f.Nodes.length : Nat) : Int), 0)) else (f, -1, 1)) := by
  have hlen := (right_parts hr).2.1
  have hmost : ((f.Nodes.length : Nat) : Int) ≤ f.Most := by
    unfold frightB at hr
    simp only [Bool.and_eq_true, decide_eq_true_eq] at hr
    exact hr.2.2.2.1
  have hk' : KidsFit fu (f.Nodes ++ [newN f x]) := fun y hy => by
    rcases List.mem_append.1 hy with hy | hy
    · exact hk y hy
    · simp at hy; subst hy; simp [newN]; omega
  have key : ∀ d : Int, d = (if x.Kind = 0 then ((f.Nodes.length : Nat) : Int) else x.Doc) → Instarref03_Make_j1 fu f x ⟨x.Kind, [], [], [], [], -1, [], -1, -1, x.Doc⟩ d = some (if newB f x = true then (if ((f.Nodes.length : Nat) : Int) = f.Most then (f, -1, 8) else (⟨f.Nodes ++ [newN f x], f.Most⟩, ((f.Nodes.length : Nat) : Int), 0)) else (f, -1, 1)) := fun d hd => by
    have en : (⟨x.Kind, x.Name, x.Is, x.Data, x.Attrs, -1, [], -1, -1, d⟩ : Node) = newN f x := by rw [hd]; rfl
    unfold Instarref03_Make_j1
    simp only
    rw [en, roomy_ok (by simp; omega), bnd_some, roomy_ok (by simp; omega), bnd_some, cnd_eq]
    by_cases h4 : x.Kind = 4
    · have : newB f x = false := by unfold newB; rw [h4]; simp
      rw [if_pos h4, this]; rfl
    · rw [if_neg h4, List.nil_append, rnode_ok (f := ⟨f.Nodes ++ [newN f x], 400⟩) (by omega) hk' (idx_last _ _), bnd_some]
      rw [nodeR_new h4, cnd_not, cnd_dec]
      cases newB f x with
      | false => rfl
      | true =>
        rw [cnd_true, if_pos rfl]
        by_cases hm : ((f.Nodes.length : Nat) : Int) = f.Most
        · rw [if_pos hm, if_pos (by omega)]
        · rw [if_neg hm, if_neg (by omega)]
  unfold Instarref03_Make_m Instarref03_Bare_m
  rw [bnd_some, cnd_eq]
  by_cases h0 : x.Kind = 0
  · rw [if_pos h0]; exact key _ (by rw [if_pos h0])
  · rw [if_neg h0]; exact key _ (by rw [if_neg h0])
theorem frightB_new (most : Int) : frightB ⟨[⟨0, [], [], [], [], -1, [], -1, -1, 0⟩], most⟩ = decide (1 ≤ most ∧ most ≤ 400) := by
  unfold frightB
  have h1 : nodesB [⟨0, [], [], [], [], -1, [], -1, -1, 0⟩] = true := by decide +kernel
  have h2 : endsB [⟨0, [], [], [], [], -1, [], -1, -1, 0⟩] = true := by decide +kernel
  have h3 : isB [⟨0, [], [], [], [], -1, [], -1, -1, 0⟩] 0 0 = true := by decide +kernel
  rw [h1, h2, h3, Bool.eq_iff_iff]
  simp only [Bool.and_eq_true, decide_eq_true_eq, List.length_cons, List.length_nil]
  exact ⟨fun h => ⟨h.1, h.2.1⟩, fun h => ⟨h.1, h.2, by omega, by omega, trivial, trivial, trivial⟩⟩
theorem new_ok {fu : Nat} (most : Int) (hfu : 1000 < fu) : Forest_New_m fu most = some (if 1 ≤ most ∧ most ≤ 400 then (⟨[⟨0, [], [], [], [], -1, [], -1, -1, 0⟩], most⟩, 0) else (⟨[], 0⟩, 1)) := by
  unfold Forest_New_m Forest_bare_m
  rw [bnd_some, fright_ok hfu (fun x hx => by simp at hx; subst hx; simp; omega), bnd_some, frightB_new, cnd_not, cnd_dec]
  split <;> rfl

/-! ## Who is not asked -/
section
variable {f : Forest} {fu : Nat} (hfu : 1000 < fu) (hk : KidsFit fu f.Nodes)
include hfu hk
theorem asked_no1 {a : Int} (h : frightB f = false ∨ inB f a = false) : Forest_asked_m fu f [a] = some false := by
  rw [asked_ok hfu hk (by simp)]
  rcases h with h | h
  · rw [h]; rfl
  · simp [h]
theorem asked_no2 {a b : Int} (h : frightB f = false ∨ inB f a = false ∨ inB f b = false) : Forest_asked_m fu f [a, b] = some false := by
  rw [asked_ok hfu hk (by simp)]
  rcases h with h | h | h
  · rw [h]; rfl
  · simp [h]
  · simp [h]
theorem Root_no {a : Int} (h : frightB f = false ∨ inB f a = false) : Forest_Root_m fu f a = some (-1) := by
  unfold Forest_Root_m; rw [asked_no1 hfu hk h]; rfl
theorem Order_no {a : Int} (h : frightB f = false ∨ inB f a = false) : Forest_Order_m fu f a = some [] := by
  unfold Forest_Order_m; rw [asked_no1 hfu hk h]; rfl
theorem Place_no {a : Int} (h : frightB f = false ∨ inB f a = false) : Forest_Place_m fu f a = some (-1) := by
  unfold Forest_Place_m; rw [asked_no1 hfu hk h]; rfl
theorem Holds_no {a b : Int} (h : frightB f = false ∨ inB f a = false ∨ inB f b = false) : Forest_Holds_m fu f a b = some false := by
  unfold Forest_Holds_m; rw [asked_no2 hfu hk h]; rfl
theorem Ahead_no {a b : Int} (h : frightB f = false ∨ inB f a = false ∨ inB f b = false) : Forest_Ahead_m fu f a b = some false := by
  unfold Forest_Ahead_m; rw [asked_no2 hfu hk h]; rfl
end
section
variable {f : Forest} {fu : Nat} (hfu : 1000 < fu) (hs : Small f)
include hfu hs
theorem right_j2 {a b : Int} (ha : inB f a = false) : Instarlaw03_ForestRight_j2 fu f a b () = some true := by
  unfold Instarlaw03_ForestRight_j2
  have hk := hs.fit hfu
  rw [Root_no hfu hk (.inr ha), Order_no hfu hk (.inr ha), Place_no hfu hk (.inr ha), Holds_no hfu hk (.inr (.inl ha)), Holds_no hfu hk (.inr (.inr ha)), Ahead_no hfu hk (.inr (.inl ha))]
  rfl
theorem right_j3 {a b : Int} (hb : inB f b = false) : Instarlaw03_ForestRight_j3 fu f a b () = some true := by
  unfold Instarlaw03_ForestRight_j3
  have hk := hs.fit hfu
  rw [Holds_no hfu hk (.inr (.inr hb)), Ahead_no hfu hk (.inr (.inr hb))]
  rfl
theorem right_j1 {a b : Int} {x : Node} (hx : x.Attrs.length ≤ 60) {g : Forest × Int × Int} (hg : Forest_Make_m fu f x = some g) : Instarlaw03_ForestRight_j1 fu f x a b (frightB f) g () = some true := by
  have hk := hs.fit hfu
  have hfew := hs.few
  rw [make_ok hfu hk (by omega)] at hg
  unfold Instarlaw03_ForestRight_j1
  cases hr : frightB f with
  | false =>
    rw [hr, if_neg (by simp)] at hg
    obtain rfl := Option.some.inj hg
    simp only
    rw [hs.same hfu, Root_no hfu hk (.inl hr), Order_no hfu hk (.inl hr), Place_no hfu hk (.inl hr), Holds_no hfu hk (.inl hr), Ahead_no hfu hk (.inl hr)]
    rfl
  | true =>
    have hm : Instarref03_Make_m fu f x = some g := by
      rw [rmake_ok hfu hk hr, ← hg, hr]
      simp
    have hsame : Instarref03_Same_m fu g.1 g.1 = some true := by
      have hgn : ∀ y ∈ g.1.Nodes, y.Attrs.length ≤ 1000 ∧ y.Kids.length ≤ 1000 := by
        rw [hr] at hg
        obtain rfl := Option.some.inj hg
        intro y hy
        have old : ∀ y ∈ f.Nodes, y.Attrs.length ≤ 1000 ∧ y.Kids.length ≤ 1000 := fun y hy => ⟨by have := hs.attrs y hy; omega, by have := hs.kids y hy; omega⟩
        split at hy
        · split at hy
          · exact old y hy
          · rcases List.mem_append.1 hy with hy | hy
            · exact old y hy
            · simp at hy; subst hy; simp [newN]; omega
        · exact old y hy
      have hgl : g.1.Nodes.length ≤ 1000 := by
        rw [hr] at hg
        obtain rfl := Option.some.inj hg
        split
        · split
          · simp only; omega
          · simp; omega
        · simp only; omega
      exact same_refl hfu hgl hgn
    have T := right_tree hr
    rw [Bool.not_true, cnd_false, hm, bnd_some, hsame, bnd_some, Bool.not_true, cnd_false, cnd_neg (by simp), cnd_neg (by simp)]
    have hin : ∀ n : Int, ¬ n < 0 → ¬ n ≥ ((f.Nodes.length : Nat) : Int) → InN f.Nodes n := fun n h1 h2 => ⟨by omega, by omega⟩
    have hout : ∀ n : Int, n < 0 ∨ n ≥ ((f.Nodes.length : Nat) : Int) → inB f n = false := fun n h => decide_eq_false (by omega)
    simp only [cnd_dec]
    by_cases a1 : a < 0
    · rw [if_pos a1]; exact right_j2 hfu hs (hout a (.inl a1))
    by_cases a2 : a ≥ ((f.Nodes.length : Nat) : Int)
    · rw [if_neg a1, if_pos a2]; exact right_j2 hfu hs (hout a (.inr a2))
    have ha := hin a a1 a2
    have hl := T.all_len ha
    rw [if_neg a1, if_neg a2, Root_ok hs hfu hr ha, bnd_some, rroot_ok T ha (by omega), bnd_some, cnd_neg (by simp), Order_ok hs hfu hr ha, bnd_some, rOrder_ok hs hfu hr ha, bnd_some, ints_ok (by omega) (by omega), bnd_some, cnd_neg (by simp), Place_ok hs hfu hr ha, bnd_some, rPlace_ok hs hfu hr ha, bnd_some, cnd_neg (by simp)]
    by_cases b1 : b < 0
    · rw [if_pos b1]; exact right_j3 hfu hs (hout b (.inl b1))
    by_cases b2 : b ≥ ((f.Nodes.length : Nat) : Int)
    · rw [if_neg b1, if_pos b2]; exact right_j3 hfu hs (hout b (.inr b2))
    have hb := hin b b1 b2
    rw [if_neg b1, if_neg b2, Holds_ok hs hfu hr ha hb, bnd_some, rHolds_ok hs hfu hr ha hb, bnd_some, cnd_pos (by simp), Ahead_ok hs hfu hr ha hb, bnd_some, rroot_ok T hb (by omega), bnd_some, bnd_some, cnd_eq, rAhead_ok hs hfu hr ha, bnd_some]
    by_cases h : rootN f.Nodes a = rootN f.Nodes b
    · rw [if_pos h, decide_eq_true h, Bool.true_and]; simp
    · rw [if_neg h, decide_eq_false h]; rfl
end
theorem forestRight (f : Forest) (x : Node) (most a b : Int) : ∃ fu, Instarlaw03_ForestRight_m fu f x most a b = some true := by
  refine ⟨2000, ?_⟩
  unfold Instarlaw03_ForestRight_m
  rw [awake03, bnd_some, Bool.not_true, cnd_false]
  generalize hfu' : (2000 : Nat) = fu
  have hfu : 1000 < fu := by omega
  obtain ⟨r, h1, h2⟩ := short_small (fu := fu) (f := f) hfu
  rw [h1, bnd_some, cnd_dec, cnd_dec]
  cases r with
  | false => rfl
  | true =>
    have hs := h2 rfl
    have hk := hs.fit hfu
    rw [Bool.not_true, cnd_false]
    by_cases ha : ((x.Attrs.length : Nat) : Int) > 60
    · rw [if_pos ha]
    by_cases hn : ((x.Name.length : Nat) : Int) > 300
    · rw [if_neg ha, if_pos hn]
    have hmk := make_ok (x := x) hfu hk (by omega)
    have hj := right_j1 (a := a) (b := b) hfu hs (by omega) hmk
    rw [if_neg ha, if_neg hn, rright3_ok hfu hk, bnd_some, new_ok most hfu, bnd_some, hmk, bnd_some, fright_ok hfu hk, bnd_some, cnd_neg (by simp), cnd_dec]
    unfold Instarref03_New_m Instarref03_Bare_m
    have s1 : Instarref03_Same_m fu ⟨[⟨0, [], [], [], [], -1, [], -1, -1, 0⟩], most⟩ ⟨[⟨0, [], [], [], [], -1, [], -1, -1, 0⟩], most⟩ = some true := same_refl hfu (by simp) (fun y hy => by simp at hy; subst hy; simp)
    have s2 : Instarref03_Same_m fu ⟨[], 0⟩ ⟨[], 0⟩ = some true := same_refl hfu (by simp) (fun y hy => by simp at hy)
    by_cases m1 : most ≥ 1
    · rw [if_pos m1]
      by_cases m2 : most ≤ 400
      · rw [if_pos ⟨m1, m2⟩, decide_eq_true m2]
        simp only [bnd_some]
        rw [s1, bnd_some, hj]
        rfl
      · rw [if_neg (fun h => m2 h.2), decide_eq_false m2]
        simp only [bnd_some]
        rw [s2, bnd_some, hj]
        rfl
    · rw [if_neg m1, if_neg (fun h => m1 h.1)]
      simp only [bnd_some]
      rw [s2, bnd_some, hj]
      rfl
end Go.Proofs.Ytcaepigodglihaa
