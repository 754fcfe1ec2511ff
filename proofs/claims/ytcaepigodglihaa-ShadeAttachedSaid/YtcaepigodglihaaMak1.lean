/- A forest with a node more. -/
import Derived.Test.YtcaepigodglihaaTre3
namespace Go.Proofs.Ytcaepigodglihaa
open Go Go.Pw

theorem idx_app {α : Type} {l : List α} {m : List α} {n : Int} {x : α} (h : idx l n = some x) : idx (l ++ m) n = some x := by
  have hr := idx_range h
  unfold idx at h ⊢
  rw [if_pos hr.1] at h ⊢
  rw [List.getElem?_append_left (by omega), h]
theorem idx_last {α : Type} (l : List α) (x : α) : idx (l ++ [x]) ((l.length : Nat) : Int) = some x := by
  rw [idx_nat]; simp
theorem isB_app {ns : List Node} {m : List Node} {n k : Int} (h : isB ns n k = true) : isB (ns ++ m) n k = true := by
  unfold isB at h ⊢
  cases hx : idx ns n with
  | none => rw [hx] at h; cases h
  | some x => rw [hx] at h; rw [idx_app hx]; exact h
theorem isB_same {ns : List Node} {m : List Node} {n k : Int} {x : Node} (h : idx ns n = some x) : isB (ns ++ m) n k = isB ns n k := by
  unfold isB; rw [idx_app h, h]
theorem kidB_app {ns : List Node} {m : List Node} {n k : Int} {x : Node} (h : kidB ns n x k = true) : kidB (ns ++ m) n x k = true := by
  unfold kidB at h ⊢
  cases hx : idx ns k with
  | none => rw [hx] at h; cases h
  | some y => rw [hx] at h; rw [idx_app hx]; exact h
theorem nodeB_app {ns : List Node} {m : List Node} {n : Int} {x : Node} (h : nodeB ns n x = true) : nodeB (ns ++ m) n x = true := by
  unfold nodeB at h ⊢
  simp only [Bool.and_eq_true] at h ⊢
  obtain ⟨h1, h2, h3, h4, h5, h6⟩ := h
  refine ⟨h1, ?_, ?_, ?_, ?_, ?_⟩
  · unfold ownedB at h2 ⊢
    simp only [Bool.and_eq_true] at h2 ⊢
    exact ⟨isB_app h2.1, h2.2⟩
  · unfold hungB at h3 ⊢
    simp only [Bool.or_eq_true, Bool.and_eq_true] at h3 ⊢
    refine h3.imp id fun ⟨h7, h8⟩ => ⟨h7, ?_⟩
    cases hp : idx ns x.Parent with
    | none => rw [hp] at h8; cases h8
    | some p => rw [hp] at h8; rw [idx_app hp]; exact h8
  · unfold bearsB at h4 ⊢
    simp only [Bool.and_eq_true, List.all_eq_true] at h4 ⊢
    obtain ⟨h7, h8, h9, h10⟩ := h4
    refine ⟨h7, fun k hk => kidB_app (h8 k hk), h9, ?_⟩
    have e : elemsOf (ns ++ m) x.Kids = elemsOf ns x.Kids := by
      unfold elemsOf
      refine List.countP_congr fun k hk => ?_
      have := h8 k hk
      unfold kidB at this
      cases hy : idx ns k with
      | none => rw [hy] at this; cases this
      | some y => rw [isB_same hy]
    rw [e]; exact h10
  · unfold hostB at h5 ⊢
    by_cases hk : x.Kind = 4
    · rw [if_pos hk] at h5 ⊢
      cases hh : idx ns x.Host with
      | none => rw [hh] at h5; cases h5
      | some y => rw [hh] at h5; rw [idx_app hh]; exact h5
    · rw [if_neg hk] at h5 ⊢; exact h5
  · unfold underB at h6 ⊢
    simp only [Bool.or_eq_true, Bool.and_eq_true] at h6 ⊢
    refine h6.imp id fun ⟨h7, h8⟩ => ⟨h7, ?_⟩
    cases hp : idx ns x.Under with
    | none => rw [hp] at h8; cases h8
    | some p => rw [hp] at h8; rw [idx_app hp]; exact h8
theorem upI_app {ns : List Node} {m : List Node} {n : Int} (h : InN ns n) : upI (ns ++ m) n = upI ns n := by
  obtain ⟨x, hx⟩ := idx_some h
  unfold upI
  rw [idx_app hx, hx]
theorem climbB_app {ns m : List Node} (hu : Ups ns) : ∀ (k : Nat) (n : Int), InN ns n → climbB ns k n = true → climbB (ns ++ m) k n = true
  | 0, _, _, h => by cases h
  | k + 1, n, hn, h => by
    simp only [climbB, Bool.or_eq_true, beq_iff_eq] at h ⊢
    rw [upI_app hn]
    rcases h with h | h
    · exact .inl h
    · obtain ⟨x, hx⟩ := idx_some hn
      rcases hu n x hx with h' | ⟨y, hy⟩
      · exact .inl h'
      · exact .inr (climbB_app hu k _ (idx_range hy) h)
theorem climbB_more {ns : List Node} : ∀ (k : Nat) (n : Int), climbB ns k n = true → climbB ns (k + 1) n = true
  | 0, _, h => by cases h
  | k + 1, n, h => by
    rw [climbB, Bool.or_eq_true] at h ⊢
    exact h.imp id fun h => climbB_more k _ h
/-- What a new node is like. -/
def newN (f : Forest) (x : Node) : Node := ⟨x.Kind, x.Name, x.Is, x.Data, x.Attrs, -1, [], -1, -1, if x.Kind = 0 then ((f.Nodes.length : Nat) : Int) else x.Doc⟩
def newB (f : Forest) (x : Node) : Bool := namedB (newN f x) && (x.Kind != 4 && (x.Kind == 0 || isB f.Nodes x.Doc 0))
theorem right_app {f : Forest} {x : Node} (hr : frightB f = true) (hx : newB f x = true) (hm : ((f.Nodes.length : Nat) : Int) ≠ f.Most) : frightB ⟨f.Nodes ++ [newN f x], f.Most⟩ = true := by
  unfold frightB at hr ⊢
  simp only [Bool.and_eq_true, decide_eq_true_eq] at hr ⊢
  obtain ⟨h1, h2, h3, h4, h5, h6, h7⟩ := hr
  unfold newB at hx
  simp only [Bool.and_eq_true, Bool.or_eq_true, beq_iff_eq, bne_iff_ne] at hx
  obtain ⟨n1, n2, n3⟩ := hx
  refine ⟨h1, h2, by simp, by simp; omega, isB_app h5, ?_, ?_⟩
  · unfold nodesB
    rw [List.all_eq_true]
    intro i hi
    simp only [List.mem_range, List.length_append, List.length_cons, List.length_nil] at hi
    by_cases hl : i < f.Nodes.length
    · have hx := idx_lt hl
      rw [List.getElem?_append_left hl, List.getElem?_eq_getElem hl]
      exact nodeB_app (nodes_at h6 hx)
    · obtain rfl : i = f.Nodes.length := by omega
      rw [List.getElem?_append_right (by omega), Nat.sub_self]
      show nodeB _ _ (newN f x) = true
      unfold nodeB
      simp only [Bool.and_eq_true]
      refine ⟨n1, ?_, rfl, ?_, ?_, rfl⟩
      · unfold ownedB newN
        simp only [Bool.and_eq_true, Bool.or_eq_true, beq_iff_eq, bne_iff_ne]
        by_cases hk : x.Kind = 0
        · rw [if_pos hk]
          refine ⟨?_, .inr rfl⟩
          unfold isB
          rw [idx_last]
          simpa using hk
        · rw [if_neg hk]
          exact ⟨isB_app (n3.resolve_left hk), .inl hk⟩
      · unfold bearsB newN elemsOf
        simp
      · unfold hostB newN
        rw [if_neg n2]; rfl
  · unfold endsB
    rw [List.all_eq_true]
    intro i hi
    simp only [List.mem_range, List.length_append, List.length_cons, List.length_nil] at hi
    rw [show (f.Nodes ++ [newN f x]).length = f.Nodes.length + 1 by simp]
    by_cases hl : i < f.Nodes.length
    · have hin : InN f.Nodes (i : Int) := ⟨by omega, by omega⟩
      exact climbB_more _ _ (climbB_app (nodes_ups h6) _ _ hin (ends_at h7 hin))
    · obtain rfl : i = f.Nodes.length := by omega
      rw [climbB, Bool.or_eq_true]
      refine .inl ?_
      unfold upI
      rw [idx_last]; rfl
theorem attrs_clone {fu : Nat} {l : List Attr} (h : l.length ≤ 1000) : Slices_Clone_apiAttr_m fu l = some l := by
  unfold Slices_Clone_apiAttr_m
  rw [roomy_ok (by simp; omega), bnd_some, List.nil_append]
theorem nodes_clone {fu : Nat} {l : List Node} (h : l.length ≤ 1000) : Slices_Clone_apiNode_m fu l = some l := by
  unfold Slices_Clone_apiNode_m
  rw [roomy_ok (by simp; omega), bnd_some, List.nil_append]
theorem make_ok {f : Forest} {fu : Nat} {x : Node} (hfu : 1000 < fu) (hk : KidsFit fu f.Nodes) (ha : x.Attrs.length ≤ 1000) : Forest_Make_m fu f x = some (if frightB f = true ∧ newB f x = true then (if ((f.Nodes.length : Nat) : Int) = f.Most then (f, -1, 8) else (⟨f.Nodes ++ [newN f x], f.Most⟩, ((f.Nodes.length : Nat) : Int), 0)) else (f, -1, 1)) := by
  have key : ∀ d : Int, d = (if x.Kind = 0 then ((f.Nodes.length : Nat) : Int) else x.Doc) → Forest_Make_j1 fu f x ⟨x.Kind, [], [], [], [], -1, [], -1, -1, x.Doc⟩ d = some (if frightB f = true ∧ newB f x = true then (if ((f.Nodes.length : Nat) : Int) = f.Most then (f, -1, 8) else (⟨f.Nodes ++ [newN f x], f.Most⟩, ((f.Nodes.length : Nat) : Int), 0)) else (f, -1, 1)) := fun d hd => by
    unfold Forest_Make_j1
    rw [attrs_clone ha, bnd_some, vright_ok (v := ⟨⟨f.Nodes, f.Most⟩⟩) hfu hk, bnd_some]
    cases hr : frightB f with
    | false => rw [if_neg (by simp)]; rfl
    | true =>
      have hlen := (right_parts hr).2.1
      rw [Bool.not_true, cnd_false, named_m_ok (by omega), bnd_some]
      have en : (⟨x.Kind, x.Name, x.Is, x.Data, x.Attrs, -1, [], -1, -1, d⟩ : Node) = newN f x := by rw [hd]; rfl
      simp only
      rw [en]
      have eb : newB f x = (namedB (newN f x) && (x.Kind != 4 && (x.Kind == 0 || isB f.Nodes x.Doc 0))) := rfl
      cases hn : namedB (newN f x) with
      | false =>
        rw [hn] at eb
        rw [if_neg (fun h => by rw [eb] at h; exact absurd h.2 (by simp))]; rfl
      | true =>
        rw [hn, Bool.true_and] at eb
        rw [Bool.not_true, cnd_false, cnd_eq, nodes_clone (by omega), bnd_some, roomy_ok (by simp; omega), bnd_some]
        by_cases h4 : x.Kind = 4
        · rw [if_pos h4, if_neg (fun h => by rw [eb] at h; exact absurd h.2 (by simp [h4]))]
        · have e4 : (x.Kind != 4) = true := bne_iff_ne.2 h4
          rw [e4, Bool.true_and] at eb
          rw [if_neg h4, cnd_ne, cnd_eq]
          by_cases h0 : x.Kind = 0
          · have e0 : newB f x = true := by rw [eb, h0]; rfl
            rw [if_pos h0, if_pos (show True ∧ newB f x = true from ⟨trivial, e0⟩)]
            split <;> rfl
          · have e0 : (x.Kind == 0) = false := beq_eq_false_iff_ne.2 h0
            rw [e0, Bool.false_or] at eb
            rw [if_neg h0, is_ok, bnd_some]
            simp only
            rw [hd, if_neg h0]
            cases hi : isB f.Nodes x.Doc 0 with
            | false => rw [Bool.not_false, cnd_true, if_neg (show ¬ (True ∧ newB f x = true) from fun h => by rw [eb, hi] at h; exact absurd h.2 (by simp))]
            | true =>
              rw [Bool.not_true, cnd_false, if_pos (show True ∧ newB f x = true from ⟨trivial, eb.trans hi⟩)]
              split <;> rfl
  unfold Forest_Make_m Forest_bare_m
  rw [bnd_some, cnd_eq]
  by_cases h0 : x.Kind = 0
  · rw [if_pos h0]; exact key _ (by rw [if_pos h0])
  · rw [if_neg h0]; exact key _ (by rw [if_neg h0])
theorem same2_refl {fu : Nat} {l : List Attr} (h : l.length < fu) (hb : l.length ≤ 1000000) : Instarref02_Same_m fu l l = some true := by
  unfold Instarref02_Same_m
  rw [cnd_neg (by simp)]
  refine (up_alli (L := Instarref02_Same_l1 l l) l.length (fun _ => true) (some true) (fun i hi k => ?_) (fun k => ?_) h).trans ?_
  · simp only [Instarref02_Same_l1]
    rw [cnd_pos (by simpa using hi), idx_lt hi, bnd_some, bnd_some, rng_nat (by omega), bnd_some, show eqAttr l[i] l[i] = true by simp [eqAttr]]
    rfl
  · simp only [Instarref02_Same_l1]
    rw [cnd_neg (by simp)]
  · rw [List.all_eq_true.2 fun _ _ => rfl]; rfl
theorem one_refl {fu : Nat} {x : Node} (hfu : 1000 < fu) (ha : x.Attrs.length ≤ 1000) (hk : x.Kids.length ≤ 1000) : Instarref03_One_m fu x x = some true := by
  unfold Instarref03_One_m
  rw [same2_refl (by omega) (by omega), ints_ok (by omega) (by omega)]
  simp
theorem same_refl {fu : Nat} {f : Forest} (hfu : 1000 < fu) (hl : f.Nodes.length ≤ 1000) (hx : ∀ x ∈ f.Nodes, x.Attrs.length ≤ 1000 ∧ x.Kids.length ≤ 1000) : Instarref03_Same_m fu f f = some true := by
  unfold Instarref03_Same_m
  rw [cnd_neg (by simp), cnd_neg (by simp)]
  refine (up_alli (L := Instarref03_Same_l1 fu f f) f.Nodes.length (fun _ => true) (some true) (fun i hi k => ?_) (fun k => ?_) (by omega)).trans ?_
  · have := hx _ (List.getElem_mem hi)
    simp only [Instarref03_Same_l1]
    rw [cnd_pos (by simpa using hi), idx_lt hi, bnd_some, bnd_some, rng_nat (by omega), bnd_some, one_refl hfu this.1 this.2]
    rfl
  · simp only [Instarref03_Same_l1]
    rw [cnd_neg (by simp)]
  · rw [List.all_eq_true.2 fun _ _ => rfl]; rfl
theorem Small.same {f : Forest} (hs : Small f) {fu : Nat} (hfu : 1000 < fu) : Instarref03_Same_m fu f f = some true := same_refl hfu (by have := hs.few; omega) fun x hx => ⟨by have := hs.attrs x hx; omega, by have := hs.kids x hx; omega⟩
end Go.Proofs.Ytcaepigodglihaa
