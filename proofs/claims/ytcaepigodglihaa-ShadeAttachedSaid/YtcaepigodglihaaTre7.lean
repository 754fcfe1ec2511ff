/- What the document's own test of a forest comes to. -/
import Derived.Test.YtcaepigodglihaaMak1
import Derived.Test.YtcaepigodglihaaNam2
namespace Go.Proofs.Ytcaepigodglihaa
open Go Go.Pw

/-! ## Attributes -/
def firstP (l : List Attr) (i j : Nat) : Bool := match l[j]?, l[i]? with | some a, some b => a.Name == b.Name | _, _ => false
theorem at_ok {fu : Nat} {l : List Attr} {i : Nat} (hi : i < l.length) (hf : l.length < fu) (hb : l.length ≤ 1000000) : Instarref02_At_m fu l l[i].Name = some (match (List.range l.length).find? (firstP l i) with | some j => (j : Int) | none => -1) := by
  unfold Instarref02_At_m
  rw [up_find (L := Instarref02_At_l1 l l[i].Name) (firstP l i) (fun j => some (j : Int)) (some (-1)) l.length (fun j hj hp k => ?_) (fun j hj hp k => ?_) (fun k => ?_) hf]
  · cases (List.range l.length).find? (firstP l i) <;> rfl
  · unfold firstP at hp
    rw [List.getElem?_eq_getElem hj, List.getElem?_eq_getElem hi] at hp
    simp only [Instarref02_At_l1]
    rw [cnd_pos (by simpa using hj), idx_lt hj, bnd_some, cnd_pos hp]
  · unfold firstP at hp
    rw [List.getElem?_eq_getElem hj, List.getElem?_eq_getElem hi] at hp
    simp only [Instarref02_At_l1]
    rw [cnd_pos (by simpa using hj), idx_lt hj, bnd_some, cnd_neg hp, rng_nat (by omega), bnd_some]
  · simp only [Instarref02_At_l1]
    rw [cnd_neg (by simp)]
theorem first_iff {l : List Attr} {i : Nat} (hi : i < l.length) : ((match (List.range l.length).find? (firstP l i) with | some j => (j : Int) | none => -1) = (i : Int)) ↔ ∀ j (hj : j < i), (l[j]'(by omega)).Name ≠ l[i].Name := by
  have e : (match (List.range l.length).find? (firstP l i) with | some j => (j : Int) | none => -1) = (i : Int) ↔ (List.range l.length).find? (firstP l i) = some i := by
    cases (List.range l.length).find? (firstP l i) with
    | none => simp
    | some j => simp; omega
  rw [e, List.find?_range_eq_some]
  constructor
  · rintro ⟨_, _, h⟩ j hj he
    have := h j hj
    unfold firstP at this
    rw [List.getElem?_eq_getElem (by omega : j < l.length), List.getElem?_eq_getElem hi] at this
    simp [he] at this
  · intro h
    refine ⟨?_, by simpa using hi, fun j hj => ?_⟩
    · unfold firstP; rw [List.getElem?_eq_getElem hi]; simp
    · have := h j hj
      unfold firstP
      rw [List.getElem?_eq_getElem (by omega : j < l.length), List.getElem?_eq_getElem hi]
      simpa using this
theorem rattr_ok {fu : Nat} {l : List Attr} (hfu : 200 < fu) : Instarref02_Right_m fu l = some (attrB l) := by
  unfold Instarref02_Right_m
  rw [cnd_dec]
  unfold attrB
  by_cases hl : l.length ≤ 40
  case neg => rw [if_pos (by omega), decide_eq_false hl]; rfl
  rw [if_neg (by omega), decide_eq_true hl, Bool.true_and]
  have q : ∀ (i : Nat) (hi : i < l.length) (k : Nat), Instarref02_Right_l1 fu l (k + 1) (i : Int) = bif (fitB l[i].Name && (decide (l[i].Value.length ≤ 200) && decide (∀ j (hj : j < i), (l[j]'(by omega)).Name ≠ l[i].Name))) then Instarref02_Right_l1 fu l k ((i + 1 : Nat) : Int) else some false := fun i hi k => by
    simp only [Instarref02_Right_l1]
    rw [cnd_pos (by simpa using hi), idx_lt hi]
    simp only [bnd_some]
    rw [rright_ok (by omega), bnd_some, at_ok hi (by omega) (by omega), bnd_some, rng_nat (by omega), bnd_some, cnd_dec, cnd_ne]
    unfold fitB
    cases hr : rightB l[i].Name with
    | false => rfl
    | true =>
      rw [rsmall_ok (by have := rightB_len hr; omega) (by have := rightB_len hr; omega), bnd_some, Bool.not_true, cnd_false, cnd_not]
      cases he : l[i].Name.map lower == l[i].Name with
      | false => rfl
      | true =>
        rw [cnd_true, Bool.true_and]
        by_cases hv : l[i].Value.length ≤ 200
        · rw [if_neg (by omega), decide_eq_true hv, Bool.true_and]
          by_cases hj : ∀ j (hj : j < i), (l[j]'(by omega)).Name ≠ l[i].Name
          · rw [if_pos ((first_iff hi).2 hj), decide_eq_true hj]; rfl
          · rw [if_neg (fun h => hj ((first_iff hi).1 h)), decide_eq_false hj]; rfl
        · rw [if_pos (by omega), decide_eq_false hv]; rfl
  have q2 : ∀ (i : Nat) (hi : i < l.length) (k : Nat), Instarref02_Right_l1 fu l (k + 1) (i : Int) = bif (if h : i < l.length then (fitB l[i].Name && (decide (l[i].Value.length ≤ 200) && decide (∀ j (hj : j < i), (l[j]'(by omega)).Name ≠ l[i].Name))) else true) then Instarref02_Right_l1 fu l k ((i + 1 : Nat) : Int) else some false := fun i hi k => by rw [dif_pos hi]; exact q i hi k
  refine (up_alli (L := Instarref02_Right_l1 fu l) l.length (fun i => if h : i < l.length then (fitB l[i].Name && (decide (l[i].Value.length ≤ 200) && decide (∀ j (hj : j < i), (l[j]'(by omega)).Name ≠ l[i].Name))) else true) (some true) q2 (fun k => ?_) (by omega)).trans ?_
  · simp only [Instarref02_Right_l1]
    rw [cnd_neg (by simp)]
  · have e : ((List.range l.length).all fun i => if h : i < l.length then (fitB l[i].Name && (decide (l[i].Value.length ≤ 200) && decide (∀ j (hj : j < i), (l[j]'(by omega)).Name ≠ l[i].Name))) else true) = ((l.all fun a => fitB a.Name && decide (a.Value.length ≤ 200)) && decide ((l.map (·.Name)).Nodup)) := by
      rw [Bool.eq_iff_iff, Bool.and_eq_true, List.all_eq_true, List.all_eq_true, decide_eq_true_eq, List.Nodup, List.pairwise_iff_getElem]
      constructor
      · intro h
        refine ⟨fun a ha => ?_, fun i j hi hj hij => ?_⟩
        · obtain ⟨i, hi, rfl⟩ := List.getElem_of_mem ha
          have := h i (by simpa using hi)
          rw [dif_pos hi] at this
          simp only [Bool.and_eq_true] at this ⊢
          exact ⟨this.1, this.2.1⟩
        · have hj' : j < l.length := by simpa using hj
          have := h j (by simpa using hj')
          rw [dif_pos hj'] at this
          simp only [Bool.and_eq_true, decide_eq_true_eq] at this
          simpa using this.2.2 i hij
      · rintro ⟨h1, h2⟩ i hi
        have hi' : i < l.length := by simpa using hi
        rw [dif_pos hi']
        have := h1 l[i] (List.getElem_mem hi')
        simp only [Bool.and_eq_true, decide_eq_true_eq] at this ⊢
        refine ⟨this.1, this.2, fun j hj => ?_⟩
        have hl : (l.map (·.Name)).length = l.length := List.length_map _
        have := h2 j i (by omega) (by omega) hj
        rw [List.getElem_map, List.getElem_map] at this
        exact this
    rw [e]
    cases ((l.all fun a => fitB a.Name && decide (a.Value.length ≤ 200)) && decide ((l.map (·.Name)).Nodup)) <;> rfl

/-! ## Nodes -/
def parR (ns : List Node) (n : Int) (x : Node) : Bool := x.Parent == -1 || ((x.Kind == 1 || x.Kind == 2) && (match idx ns x.Parent with | some p => p.Kind != 2 && decide (p.Kids.count n = 1) | none => false))
def kidR (ns : List Node) (n : Int) (x : Node) (k : Int) : Bool := match idx ns k with | some y => decide (x.Kids.count k = 1) && ((y.Kind == 1 || y.Kind == 2) && (y.Parent == n && y.Doc == x.Doc)) | none => false
def endR (ns : List Node) (x : Node) : Bool := (x.Kind != 2 || decide (x.Kids.length = 0)) && (x.Kind != 0 || (decide (elemsOf ns x.Kids ≤ 1) && decide (x.Kids.length ≤ elemsOf ns x.Kids)))
def nameR (x : Node) : Bool := if x.Kind = 1 then fitB x.Name && ((x.Is == [] || customB x.Is) && (x.Data == [] && attrB x.Attrs)) else x.Name == [] && (x.Is == [] && (decide (x.Attrs.length = 0) && (x.Data == [] || (x.Kind == 2 && decide (x.Data.length ≤ 200)))))
def nodeR (ns : List Node) (n : Int) (x : Node) : Bool := decide (0 ≤ x.Kind ∧ x.Kind ≤ 4) && (isB ns x.Doc 0 && ((x.Kind != 0 || x.Doc == n) && (parR ns n x && ((x.Kids.all (kidR ns n x)) && (endR ns x && (hostB ns n x && (underB ns n x && nameR x)))))))
theorem r_j5 {fu : Nat} {x : Node} (hfu : 200 < fu) : Instarref03_Node_j5 fu x () = some (nameR x) := by
  unfold Instarref03_Node_j5 nameR
  have e6 : decide (((x.Data.length : Nat) : Int) ≤ 200) = decide (x.Data.length ≤ 200) := decide_eq_decide.2 (by omega)
  simp only [e6, cnd_eq, len0, rattr_ok hfu, rcustom_ok hfu, rright_ok (show 40 < fu by omega), bnd_some]
  by_cases h1 : x.Kind = 1
  · simp only [if_pos h1]
    unfold fitB
    cases hr : rightB x.Name with
    | false => rfl
    | true =>
      rw [rsmall_ok (by have := rightB_len hr; omega) (by have := rightB_len hr; omega), bnd_some]
      simp only [cnd_true]
      by_cases h2 : x.Name.map lower = x.Name
      · have e2 : (x.Name.map lower == x.Name) = true := by simp [h2]
        simp only [if_pos h2, e2, Bool.true_and]
        by_cases h3 : x.Is = []
        · by_cases h4 : x.Data = []
          · simp [h3, h4]
          · simp [h3, h4]
        · have e3 : (x.Is == ([] : Bs)) = false := by simpa using h3
          simp only [if_neg h3, e3, Bool.false_or]
          cases customB x.Is
          · rfl
          · by_cases h4 : x.Data = []
            · simp [h4]
            · simp [h4]
      · have e2 : (x.Name.map lower == x.Name) = false := by simpa using h2
        simp [if_neg h2, e2]
  · simp only [if_neg h1]
    by_cases h2 : x.Name = []
    · by_cases h3 : x.Is = []
      · by_cases h4 : x.Attrs.length = 0
        · by_cases h5 : x.Data = []
          · simp [h2, h3, h4, h5]
          · by_cases h6 : x.Kind = 2
            · simp [h2, h3, h4, h5, h6]
            · simp [h2, h3, h4, h5, h6]
        · simp [h2, h3, h4]
      · simp [h2, h3]
    · simp [h2]
theorem r_j4 {fu : Nat} {f : Forest} {n : Int} {x : Node} (hfu : 200 < fu) : Instarref03_Node_j4 fu f n x () = some (underB f.Nodes n x && nameR x) := by
  unfold Instarref03_Node_j4 underB
  rw [r_j5 hfu, cnd_ne, cnd_ne, cnd_dec, cnd_dec]
  by_cases h : x.Under = -1
  · rw [if_pos h]; simp [h]
  · have e : (x.Under == -1) = false := beq_eq_false_iff_ne.2 h
    rw [if_neg h, e, Bool.false_or]
    by_cases h1 : x.Kind = 1
    · rw [if_pos h1, h1]
      by_cases hin : 0 ≤ x.Under ∧ x.Under < f.Nodes.length
      · obtain ⟨u, hu⟩ := idx_some hin
        rw [if_neg (by omega), if_neg (by omega), hu]
        simp only [bnd_some, cnd_ne]
        by_cases h2 : u.Kind = 4
        · by_cases h3 : u.Host = n
          · simp [h2, h3]
          · simp [h2, h3]
        · simp [h2]
      · rw [idx_none hin]
        by_cases h2 : x.Under < 0
        · rw [if_pos h2]; simp
        · rw [if_neg h2, if_pos (by omega)]; simp
    · rw [if_neg h1]; simp [h1]
theorem r_j3 {fu : Nat} {f : Forest} {n : Int} {x : Node} (hfu : 200 < fu) : Instarref03_Node_j3 fu f n x () = some (hostB f.Nodes n x && (underB f.Nodes n x && nameR x)) := by
  unfold Instarref03_Node_j3 hostB
  rw [r_j4 hfu, cnd_ne, cnd_eq, cnd_dec, cnd_dec]
  by_cases h4 : x.Kind = 4
  · rw [if_pos h4, if_pos h4]
    by_cases hin : 0 ≤ x.Host ∧ x.Host < f.Nodes.length
    · obtain ⟨u, hu⟩ := idx_some hin
      rw [if_neg (by omega), if_neg (by omega), hu]
      simp only [bnd_some, cnd_ne]
      by_cases h1 : u.Kind = 1
      · by_cases h2 : u.Under = n
        · by_cases h3 : u.Doc = x.Doc
          · simp [h1, h2, h3]
          · simp [h1, h2, h3]
        · simp [h1, h2]
      · simp [h1]
    · rw [idx_none hin]
      by_cases h2 : x.Host < 0
      · rw [if_pos h2]; simp
      · rw [if_neg h2, if_pos (by omega)]; simp
  · rw [if_neg h4, if_neg h4]
    by_cases h : x.Host = -1
    · rw [if_pos h]; simp [h]
    · rw [if_neg h]; simp [h]
theorem r_end {fu : Nat} {f : Forest} {n : Int} {x : Node} (hfu : 200 < fu) (k : Nat) : Instarref03_Node_l1 fu f n x (k + 1) (((elemsOf f.Nodes x.Kids : Nat) : Int), ((x.Kids.length : Nat) : Int)) = some (endR f.Nodes x && (hostB f.Nodes n x && (underB f.Nodes n x && nameR x))) := by
  simp only [Instarref03_Node_l1]
  rw [cnd_neg (by simp), r_j3 hfu]
  unfold endR
  simp only [cnd_eq, cnd_dec]
  generalize (hostB f.Nodes n x && (underB f.Nodes n x && nameR x)) = r
  generalize elemsOf f.Nodes x.Kids = e
  generalize x.Kids.length = m
  by_cases h2 : x.Kind = 2
  · by_cases hm : m = 0
    · simp [h2, hm]
    · rw [if_pos h2, if_pos (by omega)]; simp [h2, hm]
  · rw [if_neg h2]
    by_cases h0 : x.Kind = 0
    · rw [if_pos h0]
      by_cases h3 : e ≤ 1
      · rw [if_neg (by omega)]
        by_cases h4 : m ≤ e
        · rw [if_neg (by omega)]; simp [h0, h3, h4]
        · rw [if_pos (by omega)]; simp [h0, h3, h4]
      · rw [if_pos (by omega)]; simp [h0, h3]
    · rw [if_neg h0]; simp [h2, h0]
end Go.Proofs.Ytcaepigodglihaa
