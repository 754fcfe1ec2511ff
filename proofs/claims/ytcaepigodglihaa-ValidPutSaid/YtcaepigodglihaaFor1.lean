/- What the models of attr.Right and forest.Right come to. -/
import Derived.Test.YtcaepigodglihaaNam1
namespace Go.Proofs.Ytcaepigodglihaa
open Go Go.Pw

/-! ## Attributes -/
theorem mput_keys {κ ν : Type} [DecidableEq κ] : ∀ (l : List (κ × ν)) (k : κ) (v : ν), (k ∈ l.map (·.1) ∧ (mput l k v).map (·.1) = l.map (·.1)) ∨ (k ∉ l.map (·.1) ∧ (mput l k v).map (·.1) = l.map (·.1) ++ [k]) := by
  have none_of : ∀ (l : List (κ × ν)) (k : κ), mfind l k = none → k ∉ l.map (·.1) := by
    intro l
    induction l with
    | nil => intro k _; simp
    | cons x l ih =>
      intro k h
      simp only [mfind] at h
      split at h
      · cases h
      · rename_i hne
        simp only [List.map_cons, List.mem_cons, not_or]
        exact ⟨fun e => hne e.symm, ih k (Option.map_eq_none_iff.1 h)⟩
  intro l k v
  unfold mput
  cases h : mfind l k with
  | none => exact .inr ⟨none_of l k h, by simp⟩
  | some j =>
    obtain ⟨v0, hv⟩ := mfind_lt h
    refine .inl ⟨List.mem_map.2 ⟨_, List.mem_of_getElem? hv, rfl⟩, ?_⟩
    simp only [List.map_set]
    have : (l.map (·.1))[j]? = some k := by rw [List.getElem?_map, hv]; rfl
    obtain ⟨h1, h2⟩ := List.getElem?_eq_some_iff.1 this
    rw [← h2]; exact List.set_getElem_self h1
/-- What a table made of a list has for keys. -/
def tbl : List Attr → List (Bs × Attr) → List (Bs × Attr)
  | [], m => m
  | a :: l, m => tbl l (mput m a.Name a)
theorem tbl_len : ∀ (l : List Attr) (m : List (Bs × Attr)), (m.map (·.1)).Nodup → (tbl l m).length ≤ m.length + l.length ∧ ((tbl l m).length = m.length + l.length ↔ (l.map (·.Name)).Nodup ∧ ∀ a ∈ l, a.Name ∉ m.map (·.1))
  | [], m, _ => by simp [tbl]
  | a :: l, m, hm => by
    simp only [tbl]
    rcases mput_keys m a.Name a with ⟨h1, h2⟩ | ⟨h1, h2⟩
    · have hlen : (mput m a.Name a).length = m.length := by have := congrArg List.length h2; simpa using this
      have ih := tbl_len l (mput m a.Name a) (by rw [h2]; exact hm)
      rw [hlen] at ih
      refine ⟨by simp only [List.length_cons]; omega, ?_⟩
      simp only [List.length_cons]
      constructor
      · intro h; omega
      · rintro ⟨_, h⟩
        exact absurd h1 (h a (by simp))
    · have hlen : (mput m a.Name a).length = m.length + 1 := by have := congrArg List.length h2; simpa using this
      have ih := tbl_len l (mput m a.Name a) (by rw [h2, List.nodup_append]; exact ⟨hm, by simp, fun x hx y hy => by simp at hy; subst hy; exact fun e => h1 (e ▸ hx)⟩)
      rw [hlen, h2] at ih
      refine ⟨by simp only [List.length_cons]; omega, ?_⟩
      simp only [List.length_cons]
      rw [show m.length + (l.length + 1) = m.length + 1 + l.length by omega, ih.2]
      simp only [List.map_cons]
      constructor
      · rintro ⟨g1, g2⟩
        refine ⟨List.nodup_cons.2 ⟨fun hm => ?_, g1⟩, fun b hb => ?_⟩
        · obtain ⟨x, hx, e⟩ := List.mem_map.1 hm
          exact g2 x hx (List.mem_append.2 (.inr (by simp [e])))
        · rcases List.mem_cons.1 hb with rfl | hb
          · exact h1
          · exact fun h => g2 b hb (List.mem_append.2 (.inl h))
      · rintro ⟨g1, g2⟩
        obtain ⟨g3, g4⟩ := List.nodup_cons.1 g1
        refine ⟨g4, fun x hx h => ?_⟩
        rcases List.mem_append.1 h with h | h
        · exact g2 x (by simp [hx]) h
        · simp at h
          exact g3 (List.mem_map.2 ⟨x, hx, h⟩)
def attrB (l : List Attr) : Bool := decide (l.length ≤ 40) && ((l.all fun a => fitB a.Name && decide (a.Value.length ≤ 200)) && decide ((l.map (·.Name)).Nodup))
theorem table_ok {fu : Nat} {l : List Attr} (hf : l.length < fu) (hb : l.length ≤ 1000000) : Attr_table_m fu l = some (tbl l []) := by
  unfold Attr_table_m
  have key : ∀ (j i k : Nat) (m : List (Bs × Attr)), i + j = l.length → j < k → Attr_table_l1 l k ((i : Int), m) = some (tbl (l.drop i) m) := by
    intro j
    induction j with
    | zero =>
      intro i k m hi hk
      obtain ⟨k, rfl⟩ : ∃ k', k = k' + 1 := ⟨k - 1, by omega⟩
      obtain rfl : i = l.length := by omega
      simp only [Attr_table_l1]
      rw [cnd_neg (by simp), List.drop_length]; rfl
    | succ j ih =>
      intro i k m hi hk
      obtain ⟨k, rfl⟩ : ∃ k', k = k' + 1 := ⟨k - 1, by omega⟩
      have h : i < l.length := by omega
      simp only [Attr_table_l1]
      rw [cnd_pos (by simpa using h), idx_lt h, bnd_some, rng_nat (by omega), bnd_some, ih (i + 1) k _ (by omega) (by omega), List.drop_eq_getElem_cons h]
      rfl
  simpa using key l.length 0 fu [] (by omega) hf
theorem containsAttr_ok {fu : Nat} {t : Attr → Option Bool} {p : Attr → Bool} {l : List Attr} (ht : ∀ x ∈ l, t x = some (p x)) (hf : l.length < fu) (hb : l.length ≤ 1000000) : Slices_ContainsFunc_apiAttr_m fu t l = some (l.any p) := by
  unfold Slices_ContainsFunc_apiAttr_m Slices_IndexFunc_apiAttr_m
  obtain ⟨r, h1, h2⟩ := up_index (L := Slices_IndexFunc_apiAttr_l1 t l) l p (fun i hi k => by
    simp only [Slices_IndexFunc_apiAttr_l1]
    rw [cnd_pos (by simpa using hi), idx_lt hi, bnd_some, ht _ (List.getElem_mem hi), bnd_some, rng_nat (by omega), bnd_some]
    cases p l[i] <;> rfl) (fun k => by simp only [Slices_IndexFunc_apiAttr_l1]; rw [cnd_neg (by simp)]) hf
  rw [h1, bnd_some, h2]
theorem attr1_ok {fu : Nat} {a : Attr} (hfu : 200 < fu) : Attr_Right_1_m fu a = some (!(fitB a.Name && decide (a.Value.length ≤ 200))) := by
  unfold Attr_Right_1_m fitB
  rw [fit_ok hfu, bnd_some]
  have e : decide (((a.Value.length : Nat) : Int) > 200) = !(decide (a.Value.length ≤ 200)) := by
    by_cases h : a.Value.length ≤ 200
    · rw [decide_eq_true h, decide_eq_false (by omega)]; rfl
    · rw [decide_eq_false h, decide_eq_true (by omega)]; rfl
  rw [e]
  cases rightB a.Name
  · rfl
  · simp only [if_true, Bool.true_and]
    cases a.Name.map lower == a.Name <;> rfl
theorem all_not_any {α : Type} (l : List α) (p : α → Bool) : (!(l.any fun x => !(p x))) = l.all p := by
  rw [List.all_eq_not_any_not]
theorem attrRight_ok {fu : Nat} {l : List Attr} (hfu : 200 < fu) : Attr_Right_m fu l = some (attrB l) := by
  unfold Attr_Right_m attrB
  rw [show decide (((l.length : Nat) : Int) ≤ 40) = decide (l.length ≤ 40) from decide_eq_decide.2 (by omega)]
  by_cases h : l.length ≤ 40
  · rw [decide_eq_true h, cnd_true, containsAttr_ok (p := fun a => !(fitB a.Name && decide (a.Value.length ≤ 200))) (fun a _ => attr1_ok hfu) (by omega) (by omega), bnd_some, table_ok (by omega) (by omega), bnd_some, all_not_any, Bool.true_and]
    have e : ((((tbl l []).length : Nat) : Int) == ((l.length : Nat) : Int)) = decide ((l.map (·.Name)).Nodup) := by
      have := tbl_len l [] (by simp)
      simp only [List.length_nil, Nat.zero_add, List.map_nil, List.not_mem_nil, not_false_eq_true, implies_true, and_true] at this
      rw [Bool.eq_iff_iff, beq_iff_eq, decide_eq_true_eq, ← this.2]
      omega
    rw [e]
    cases l.all fun a => fitB a.Name && decide (a.Value.length ≤ 200) <;> rfl
  · rw [decide_eq_false h]; rfl

/-! ## Nodes -/
def namedB (x : Node) : Bool :=
  if x.Kind = 1 then fitB x.Name && ((x.Is == [] || customB x.Is) && (x.Data == [] && attrB x.Attrs))
  else if x.Kind = 2 then decide (x.Data.length ≤ 200) && (x.Name == [] && (x.Is == [] && decide (x.Attrs.length = 0)))
  else if x.Kind = 0 ∨ x.Kind = 3 ∨ x.Kind = 4 then x.Name == [] && (x.Is == [] && (x.Data == [] && decide (x.Attrs.length = 0)))
  else false
theorem len0 (l : List Attr) : ((((l.length : Nat) : Int)) == 0) = decide (l.length = 0) := by
  rw [Bool.eq_iff_iff, beq_iff_eq, decide_eq_true_eq]; omega
theorem named_j1 (x : Node) (c : Bs) : Forest_named_j1 x c = some (x.Name == [] && (x.Is == [] && (c == [] && decide (x.Attrs.length = 0)))) := by
  unfold Forest_named_j1
  rw [len0]
  cases x.Name == ([] : Bs) <;> cases x.Is == ([] : Bs) <;> cases c == ([] : Bs) <;> rfl
theorem named_m_ok {fu : Nat} {x : Node} (hfu : 200 < fu) : Forest_named_m fu x = some (namedB x) := by
  unfold Forest_named_m namedB
  simp only [fit_ok hfu, attrRight_ok hfu, ncustom_ok hfu, bnd_some, named_j1, cnd_eq, cnd_dec]
  by_cases h1 : x.Kind = 1
  · simp only [if_pos h1]
    unfold fitB
    cases hr : rightB x.Name
    · simp
    · simp only [if_true, Bool.true_and]
      by_cases h2 : x.Name.map lower = x.Name
      · have e2 : (x.Name.map lower == x.Name) = true := by simp [h2]
        simp only [if_pos h2, e2, Bool.true_and]
        by_cases h3 : x.Is = []
        · simp only [h3]
          by_cases h4 : x.Data = []
          · simp [h4]
          · simp [h4]
        · have e3 : (x.Is == ([] : Bs)) = false := by simpa using h3
          simp only [if_neg h3, e3, Bool.false_or]
          cases customB x.Is
          · rfl
          · by_cases h4 : x.Data = []
            · simp [h4]
            · simp [h4]
      · have e2 : (x.Name.map lower == x.Name) = false := by simpa using h2
        simp only [if_neg h2, e2, Bool.false_and]
  · simp only [if_neg h1]
    by_cases h2 : x.Kind = 2
    · simp only [if_pos h2]
      by_cases h3 : x.Data.length ≤ 200
      · rw [if_neg (by omega), decide_eq_true h3]
        simp
      · rw [if_pos (by omega), decide_eq_false h3]; rfl
    · simp only [if_neg h2]
      by_cases h3 : x.Kind = 0
      · simp [h3]
      · by_cases h4 : x.Kind = 3
        · simp [h4]
        · by_cases h5 : x.Kind = 4
          · simp [h5]
          · simp [h3, h4, h5]

def isB (ns : List Node) (n k : Int) : Bool := match idx ns n with | some y => y.Kind == k | none => false
def ownedB (ns : List Node) (n : Int) (x : Node) : Bool := isB ns x.Doc 0 && (x.Kind != 0 || x.Doc == n)
def holderB (k : Int) : Bool := k == 0 || (k == 1 || (k == 3 || k == 4))
def hungB (ns : List Node) (n : Int) (x : Node) : Bool := x.Parent == -1 || ((x.Kind == 1 || x.Kind == 2) && (match idx ns x.Parent with | some p => holderB p.Kind && p.Kids.contains n | none => false))
def kidB (ns : List Node) (n : Int) (x : Node) (k : Int) : Bool := match idx ns k with | some y => y.Parent == n && (y.Doc == x.Doc && (y.Kind == 1 || (y.Kind == 2 && x.Kind != 0))) | none => false
def elemsOf (ns : List Node) (l : List Int) : Nat := l.countP fun k => isB ns k 1
def bearsB (ns : List Node) (n : Int) (x : Node) : Bool := decide x.Kids.Nodup && ((x.Kids.all (kidB ns n x)) && ((holderB x.Kind || decide (x.Kids.length = 0)) && (x.Kind != 0 || decide (elemsOf ns x.Kids ≤ 1))))
def hostB (ns : List Node) (n : Int) (x : Node) : Bool := if x.Kind = 4 then (match idx ns x.Host with | some h => h.Kind == 1 && (h.Under == n && h.Doc == x.Doc) | none => false) else x.Host == -1
def underB (ns : List Node) (n : Int) (x : Node) : Bool := x.Under == -1 || (x.Kind == 1 && (match idx ns x.Under with | some u => u.Kind == 4 && u.Host == n | none => false))
def upI (ns : List Node) (n : Int) : Int := match idx ns n with | some x => if x.Parent = -1 then x.Host else x.Parent | none => -1
def climbB (ns : List Node) : Nat → Int → Bool
  | 0, _ => false
  | k + 1, n => upI ns n == -1 || climbB ns k (upI ns n)
def nodeB (ns : List Node) (n : Int) (x : Node) : Bool := namedB x && (ownedB ns n x && (hungB ns n x && (bearsB ns n x && (hostB ns n x && underB ns n x))))
def nodesB (ns : List Node) : Bool := (List.range ns.length).all fun i => match ns[i]? with | some x => nodeB ns (i : Int) x | none => true
def endsB (ns : List Node) : Bool := (List.range ns.length).all fun i => climbB ns ns.length (i : Int)
def frightB (f : Forest) : Bool := decide (1 ≤ f.Most) && (decide (f.Most ≤ 400) && (decide (1 ≤ f.Nodes.length) && (decide ((f.Nodes.length : Int) ≤ f.Most) && (isB f.Nodes 0 0 && (nodesB f.Nodes && endsB f.Nodes)))))

theorem idx_none {α : Type} {l : List α} {n : Int} (h : ¬ (0 ≤ n ∧ n < l.length)) : idx l n = none := by
  unfold idx
  by_cases h0 : 0 ≤ n
  · rw [if_pos h0, List.getElem?_eq_none (by omega)]
  · rw [if_neg h0]
theorem idx_some {α : Type} {l : List α} {n : Int} (h : 0 ≤ n ∧ n < l.length) : ∃ x, idx l n = some x := by
  unfold idx
  rw [if_pos h.1]
  exact ⟨_, List.getElem?_eq_getElem (by omega)⟩
theorem idx_range {α : Type} {l : List α} {n : Int} {x : α} (h : idx l n = some x) : 0 ≤ n ∧ n < l.length := by
  by_cases h' : 0 ≤ n ∧ n < l.length
  · exact h'
  · rw [idx_none h'] at h; cases h
theorem there_ok (fu : Nat) (v : Forest_view) (n : Int) : Forest_view_there_m fu v n = some (decide (0 ≤ n ∧ n < v.Forest.Nodes.length)) := by
  unfold Forest_view_there_m
  rw [cnd_dec]
  by_cases h : n ≥ 0
  · rw [if_pos h]; congr 1; exact decide_eq_decide.2 ⟨fun h' => ⟨h, h'⟩, fun h' => h'.2⟩
  · rw [if_neg h, decide_eq_false (by omega)]
theorem is_ok (fu : Nat) (v : Forest_view) (n k : Int) : Forest_view_is_m fu v n k = some (isB v.Forest.Nodes n k) := by
  unfold Forest_view_is_m isB
  rw [there_ok, bnd_some, cnd_dec]
  by_cases h : 0 ≤ n ∧ n < v.Forest.Nodes.length
  · obtain ⟨x, hx⟩ := idx_some h
    rw [if_pos h, hx]; rfl
  · rw [if_neg h, idx_none h]
theorem owned_ok {fu : Nat} {v : Forest_view} {n : Int} {x : Node} (hx : idx v.Forest.Nodes n = some x) : Forest_view_owned_m fu v n = some (ownedB v.Forest.Nodes n x) := by
  unfold Forest_view_owned_m ownedB
  rw [hx, bnd_some, is_ok, bnd_some]
  cases isB v.Forest.Nodes x.Doc 0
  · rfl
  · cases x.Kind != 0 <;> rfl
theorem holder_ok (fu : Nat) (k : Int) : Forest_holder_m fu k = some (holderB k) := by
  unfold Forest_holder_m holderB
  simp only [cnd_eq]
  by_cases h1 : k = 0
  · simp [h1]
  by_cases h2 : k = 1
  · simp [h2]
  by_cases h3 : k = 3
  · simp [h3]
  by_cases h4 : k = 4
  · simp [h4]
  simp [h1, h2, h3, h4]
theorem containsInt_ok {fu : Nat} {l : List Int} {n : Int} (hf : l.length < fu) (hb : l.length ≤ 1000000) : Slices_Contains_int_m fu l n = some (l.contains n) := by
  unfold Slices_Contains_int_m Slices_Index_int_m
  obtain ⟨r, h1, h2⟩ := up_index (L := Slices_Index_int_l1 l n) l (fun x => n == x) (fun i hi k => by
    simp only [Slices_Index_int_l1]
    rw [cnd_pos (by simpa using hi), idx_lt hi, bnd_some, rng_nat (by omega), bnd_some]
    cases n == l[i] <;> rfl) (fun k => by simp only [Slices_Index_int_l1]; rw [cnd_neg (by simp)]) hf
  rw [h1, bnd_some, h2, List.contains_eq_any_beq]
/-- All nodes' lists are short enough. -/
def KidsFit (fu : Nat) (ns : List Node) : Prop := ∀ x ∈ ns, x.Kids.length < fu ∧ x.Kids.length ≤ 1000000
theorem idx_mem {α : Type} {l : List α} {n : Int} {x : α} (h : idx l n = some x) : x ∈ l := by
  unfold idx at h
  split at h
  · exact List.mem_of_getElem? h
  · cases h
theorem hung_ok {fu : Nat} {v : Forest_view} {n : Int} {x : Node} (hx : idx v.Forest.Nodes n = some x) (hk : KidsFit fu v.Forest.Nodes) : Forest_view_hung_m fu v n = some (hungB v.Forest.Nodes n x) := by
  have hj : ∀ b : Bool, Forest_view_hung_j1 fu v n x b = some (b && (match idx v.Forest.Nodes x.Parent with | some p => holderB p.Kind && p.Kids.contains n | none => false)) := fun b => by
    unfold Forest_view_hung_j1
    cases b
    · rfl
    · rw [cnd_true, there_ok, bnd_some, cnd_dec]
      by_cases h : 0 ≤ x.Parent ∧ x.Parent < v.Forest.Nodes.length
      · obtain ⟨p, hp⟩ := idx_some h
        have hm := hk p (idx_mem hp)
        rw [if_pos h, hp, bnd_some, holder_ok, bnd_some, bnd_some, containsInt_ok hm.1 hm.2, bnd_some]
        simp only [Bool.true_and]
        cases holderB p.Kind <;> rfl
      · rw [if_neg h, idx_none h]; rfl
  unfold Forest_view_hung_m hungB
  rw [hx, bnd_some, hj, hj, cnd_eq, cnd_eq]
  by_cases h1 : x.Parent = -1
  · simp [h1]
  · rw [if_neg h1]
    have e1 : (x.Parent == -1) = false := by simpa using h1
    rw [e1]
    by_cases h2 : x.Kind = 1
    · rw [if_pos h2, h2]; rfl
    · have e2 : (x.Kind == 1) = false := by simpa using h2
      rw [if_neg h2, e2, Bool.false_or, Bool.false_or]
theorem shaded_ok {fu : Nat} {v : Forest_view} {n : Int} {x : Node} (hx : idx v.Forest.Nodes n = some x) : Forest_view_shaded_m fu v n = some (hostB v.Forest.Nodes n x && underB v.Forest.Nodes n x) := by
  have hj : ∀ b : Bool, Forest_view_shaded_j1 fu v n x b = some (b && underB v.Forest.Nodes n x) := fun b => by
    unfold Forest_view_shaded_j1 Forest_view_shaded_j2 underB
    rw [is_ok, bnd_some, cnd_eq, cnd_eq]
    by_cases h1 : x.Under = -1
    · simp [h1]; cases b <;> rfl
    · rw [if_neg h1]
      have e1 : (x.Under == -1) = false := by simpa using h1
      rw [e1]
      by_cases h2 : x.Kind = 1
      · simp only [h2, beq_self_eq_true, Bool.true_and, Bool.false_or]
        unfold isB
        by_cases h3 : 0 ≤ x.Under ∧ x.Under < v.Forest.Nodes.length
        · obtain ⟨u, hu⟩ := idx_some h3
          rw [hu]
          simp only [bnd_some]
          cases b <;> cases u.Kind == 4 <;> rfl
        · rw [idx_none h3]; cases b <;> rfl
      · have e2 : (x.Kind == 1) = false := by simpa using h2
        simp only [if_neg h2, e2, Bool.false_and, Bool.false_or, Bool.and_false]
        cases b <;> rfl
  unfold Forest_view_shaded_m hostB
  rw [hx, bnd_some, is_ok, bnd_some]
  simp only [hj, cnd_eq]
  by_cases h1 : x.Kind = 4
  · rw [if_pos h1, if_pos h1]
    unfold isB
    by_cases h3 : 0 ≤ x.Host ∧ x.Host < v.Forest.Nodes.length
    · obtain ⟨u, hu⟩ := idx_some h3
      rw [hu]
      simp only [bnd_some]
      cases u.Kind == 1
      · rfl
      · by_cases h4 : u.Under = n
        · simp [h4]
        · simp [h4]
    · rw [idx_none h3]; rfl
  · rw [if_neg h1, if_neg h1]
theorem mget_zero {l : List (Int × Int)} {k : Int} (hpos : ∀ p ∈ l, 0 < p.2) : mget l k 0 > 0 ↔ k ∈ l.map (·.1) := by
  unfold mget
  have hnone : ∀ (l : List (Int × Int)), mfind l k = none → k ∉ l.map (·.1) := by
    intro l
    induction l with
    | nil => intro _; simp
    | cons x l ih =>
      intro h
      simp only [mfind] at h
      split at h
      · cases h
      · rename_i hne
        simp only [List.map_cons, List.mem_cons, not_or]
        exact ⟨fun e => hne e.symm, ih (Option.map_eq_none_iff.1 h)⟩
  cases h : mfind l k with
  | none => simp only [Int.lt_irrefl, gt_iff_lt, false_iff]; exact hnone l h
  | some j =>
    obtain ⟨v, hv⟩ := mfind_lt h
    simp only [hv, Option.elim_some]
    exact ⟨fun _ => List.mem_map.2 ⟨_, List.mem_of_getElem? hv, rfl⟩, fun _ => hpos _ (List.mem_of_getElem? hv)⟩

theorem mput_mem {l : List (Int × Int)} {k v : Int} {p : Int × Int} (h : p ∈ mput l k v) : p ∈ l ∨ p = (k, v) := by
  unfold mput at h
  split at h
  · rcases List.mem_or_eq_of_mem_set h with h | h
    · exact .inl h
    · exact .inr h
  · simpa using h
theorem elems_succ (ns : List Node) {l : List Int} {i : Nat} (h : i < l.length) : elemsOf ns (l.take (i + 1)) = elemsOf ns (l.take i) + (if isB ns l[i] 1 then 1 else 0) := by
  unfold elemsOf
  rw [List.take_succ_eq_append_getElem h, List.countP_append]
  simp [List.countP_cons]
theorem elems_le (ns : List Node) (l : List Int) : elemsOf ns l ≤ l.length := List.countP_le_length
theorem bears_ok {fu : Nat} {v : Forest_view} {n : Int} {x : Node} (hx : idx v.Forest.Nodes n = some x) (hf : x.Kids.length < fu) (hb : x.Kids.length ≤ 1000000) : Forest_view_bears_m fu v n = some (bearsB v.Forest.Nodes n x) := by
  unfold Forest_view_bears_m
  rw [hx, bnd_some]
  let ns := v.Forest.Nodes
  have no1 : ∀ (i : Nat) (h : i < x.Kids.length), kidB ns n x x.Kids[i] = false → bearsB ns n x = false := fun i h hk => by
    unfold bearsB
    have : x.Kids.all (kidB ns n x) = false := by
      rw [List.all_eq_false]
      exact ⟨_, List.getElem_mem h, by rw [hk]; simp⟩
    rw [this]; simp
  refine up (L := Forest_view_bears_l1 fu v n x) (Inv := fun i y => ∃ seen : List (Int × Int), y = (((elemsOf ns (x.Kids.take i) : Nat) : Int), (i : Int), seen) ∧ (∀ k, k ∈ seen.map (·.1) ↔ k ∈ x.Kids.take i) ∧ (∀ p ∈ seen, p.2 = 1) ∧ (x.Kids.take i).Nodup ∧ (x.Kids.take i).all (kidB ns n x) = true) (Fin := fun r => r = some (bearsB ns n x)) x.Kids.length (fun i y hi ⟨seen, hy, h1, h2, h3, h4⟩ => ?_) (fun y ⟨seen, hy, h1, h2, h3, h4⟩ => ?_) (i := 0) ⟨[], rfl, by simp, by simp, by simp, by simp⟩ (Nat.zero_le _) (by omega)
  · subst hy
    have hn : rng .i64 ((i : Int) + 1) = some ((i + 1 : Nat) : Int) := rng_nat (by omega)
    have hle := elems_le ns (x.Kids.take i)
    have hlt : (x.Kids.take i).length ≤ i := by simp; omega
    have hn2 : rng .i64 (((elemsOf ns (x.Kids.take i) : Nat) : Int) + 1) = some ((elemsOf ns (x.Kids.take i) + 1 : Nat) : Int) := rng_nat (by omega)
    have hpos : ∀ p ∈ seen, 0 < p.2 := fun p hp => by rw [h2 p hp]; decide
    have hm := mget_zero (k := x.Kids[i]) hpos
    have body : ∀ k, Forest_view_bears_l1 fu v n x (k + 1) (((elemsOf ns (x.Kids.take i) : Nat) : Int), (i : Int), seen) =
        if 0 ≤ x.Kids[i] ∧ x.Kids[i] < v.Forest.Nodes.length then (if mget seen x.Kids[i] 0 > 0 then some false else bnd (idx v.Forest.Nodes x.Kids[i]) fun y => if y.Parent = n then (if y.Doc = x.Doc then bnd (rng .i64 (mget seen x.Kids[i] 0 + 1)) fun i11 =>
          (if y.Kind = 1 then Forest_view_bears_l1 fu v n x k (((elemsOf ns (x.Kids.take i) + 1 : Nat) : Int), ((i + 1 : Nat) : Int), mput seen x.Kids[i] i11) else if y.Kind = 2 then (if x.Kind = 0 then some false else Forest_view_bears_l1 fu v n x k (((elemsOf ns (x.Kids.take i) : Nat) : Int), ((i + 1 : Nat) : Int), mput seen x.Kids[i] i11)) else some false) else some false) else some false) else some false := fun k => by
      simp only [Forest_view_bears_l1]
      rw [cnd_pos (by simpa using hi), idx_lt hi, bnd_some, there_ok, bnd_some]
      cases hy : idx v.Forest.Nodes x.Kids[i] with
      | none => simp only [cnd_not, cnd_dec, bnd_none]
      | some y => simp only [cnd_not, cnd_dec, cnd_ne, cnd_eq, bnd_some, hn, hn2]
    have bad : kidB ns n x x.Kids[i] = false → bearsB ns n x = false := no1 i hi
    by_cases hth : 0 ≤ x.Kids[i] ∧ x.Kids[i] < v.Forest.Nodes.length
    case neg =>
      refine .inl ⟨some false, ?_, fun k => by rw [body, if_neg hth]⟩
      rw [bad]
      unfold kidB
      rw [show idx ns x.Kids[i] = none from idx_none hth]
    case pos =>
      by_cases hsn : mget seen x.Kids[i] 0 > 0
      case pos =>
        refine .inl ⟨some false, ?_, fun k => by rw [body, if_pos hth, if_pos hsn]⟩
        have hmem := (h1 _).1 (hm.1 hsn)
        have : ¬ x.Kids.Nodup := fun hnd => by
          rw [← List.take_append_drop i x.Kids, List.nodup_append] at hnd
          exact hnd.2.2 _ hmem _ (by rw [List.drop_eq_getElem_cons hi]; exact List.mem_cons_self) rfl
        unfold bearsB
        rw [decide_eq_false this]; rfl
      case neg =>
        have hnk : x.Kids[i] ∉ x.Kids.take i := fun h => hsn (hm.2 ((h1 _).2 h))
        have h0 : mget seen x.Kids[i] 0 = 0 := by
          unfold mget
          cases hj : mfind seen x.Kids[i] with
          | none => rfl
          | some j =>
            obtain ⟨v0, hv⟩ := mfind_lt hj
            exact absurd ((h1 _).1 (List.mem_map.2 ⟨_, List.mem_of_getElem? hv, rfl⟩)) hnk
        obtain ⟨y, hy⟩ := idx_some hth
        have hisB : isB ns x.Kids[i] 1 = (y.Kind == 1) := by unfold isB; rw [show idx ns x.Kids[i] = some y from hy]
        have hkid : kidB ns n x x.Kids[i] = (y.Parent == n && (y.Doc == x.Doc && (y.Kind == 1 || (y.Kind == 2 && x.Kind != 0)))) := by unfold kidB; rw [show idx ns x.Kids[i] = some y from hy]
        have hr0 : rng .i64 (mget seen x.Kids[i] 0 + 1) = some 1 := by rw [h0]; exact rng64 (by decide) (by decide)
        have next : kidB ns n x x.Kids[i] = true → (∀ q, q ∈ (mput seen x.Kids[i] 1).map (·.1) ↔ q ∈ x.Kids.take (i + 1)) ∧ (∀ p ∈ mput seen x.Kids[i] 1, p.2 = 1) ∧ (x.Kids.take (i + 1)).Nodup ∧ (x.Kids.take (i + 1)).all (kidB ns n x) = true := fun hk => by
          rw [List.take_succ_eq_append_getElem hi]
          refine ⟨fun q => ?_, fun p hp => ?_, ?_, by rw [List.all_append, h4]; simp [hk]⟩
          · rcases mput_keys seen x.Kids[i] 1 with ⟨g1, _⟩ | ⟨_, g2⟩
            · exact absurd ((h1 _).1 g1) hnk
            · rw [g2, List.mem_append, List.mem_append, h1]
          · rcases mput_mem hp with hp | rfl
            · exact h2 p hp
            · rfl
          · rw [List.nodup_append]
            exact ⟨h3, by simp, fun a ha b hb => by simp at hb; subst hb; exact fun e => hnk (e ▸ ha)⟩
        by_cases hp : y.Parent = n
        case neg =>
          refine .inl ⟨some false, ?_, fun k => by rw [body, if_pos hth, if_neg hsn, hy, bnd_some, if_neg hp]⟩
          rw [bad (by rw [hkid]; simp [hp])]
        case pos =>
          by_cases hd : y.Doc = x.Doc
          case neg =>
            refine .inl ⟨some false, ?_, fun k => by rw [body, if_pos hth, if_neg hsn, hy, bnd_some, if_pos hp, if_neg hd]⟩
            rw [bad (by rw [hkid]; simp [hd])]
          case pos =>
            by_cases k1 : y.Kind = 1
            case pos =>
              have hk : kidB ns n x x.Kids[i] = true := by rw [hkid]; simp [hp, hd, k1]
              obtain ⟨g1, g2, g3, g4⟩ := next hk
              refine .inr ⟨_, ⟨_, rfl, g1, g2, g3, g4⟩, fun k => ?_⟩
              rw [body, if_pos hth, if_neg hsn, hy, bnd_some, if_pos hp, if_pos hd, hr0, bnd_some, if_pos k1, elems_succ ns hi, hisB]
              simp [k1]
            case neg =>
              by_cases k2 : y.Kind = 2
              case neg =>
                refine .inl ⟨some false, ?_, fun k => by rw [body, if_pos hth, if_neg hsn, hy, bnd_some, if_pos hp, if_pos hd, hr0, bnd_some, if_neg k1, if_neg k2]⟩
                rw [bad (by rw [hkid]; simp [k1, k2])]
              case pos =>
                by_cases k3 : x.Kind = 0
                case pos =>
                  refine .inl ⟨some false, ?_, fun k => by rw [body, if_pos hth, if_neg hsn, hy, bnd_some, if_pos hp, if_pos hd, hr0, bnd_some, if_neg k1, if_pos k2, if_pos k3]⟩
                  rw [bad (by rw [hkid]; simp [k2, k3])]
                case neg =>
                  have hk : kidB ns n x x.Kids[i] = true := by rw [hkid]; simp [hp, hd, k2, k3]
                  obtain ⟨g1, g2, g3, g4⟩ := next hk
                  refine .inr ⟨_, ⟨_, rfl, g1, g2, g3, g4⟩, fun k => ?_⟩
                  rw [body, if_pos hth, if_neg hsn, hy, bnd_some, if_pos hp, if_pos hd, hr0, bnd_some, if_neg k1, if_pos k2, if_neg k3, elems_succ ns hi, hisB]
                  simp [k1]
  · subst hy
    rw [List.take_length] at h3 h4 ⊢
    refine ⟨some (bearsB ns n x), rfl, fun k => ?_⟩
    simp only [Forest_view_bears_l1]
    rw [cnd_neg (by simp), holder_ok, bnd_some]
    unfold bearsB
    rw [decide_eq_true h3, h4, Bool.true_and, Bool.true_and]
    have e1 : ((((x.Kids.length : Nat) : Int)) == 0) = decide (x.Kids.length = 0) := by rw [Bool.eq_iff_iff, beq_iff_eq, decide_eq_true_eq]; omega
    have e2 : decide (((elemsOf ns x.Kids : Nat) : Int) ≤ 1) = decide (elemsOf ns x.Kids ≤ 1) := decide_eq_decide.2 (by omega)
    rw [e1, e2]
    cases holderB x.Kind <;> cases decide (x.Kids.length = 0) <;> cases x.Kind != 0 <;> rfl

/-! ## The way up -/
/-- Whoever is named is there. -/
def Ups (ns : List Node) : Prop := ∀ (n : Int) (x : Node), idx ns n = some x → upI ns n = -1 ∨ ∃ y, idx ns (upI ns n) = some y
theorem up_ok {fu : Nat} {v : Forest_view} {n : Int} {x : Node} (hx : idx v.Forest.Nodes n = some x) : Forest_view_up_m fu v n = some (upI v.Forest.Nodes n) := by
  unfold Forest_view_up_m upI
  rw [hx, bnd_some, cnd_ne, bnd_some]
  simp only
  split <;> rfl
theorem ends_ok {fu : Nat} {v : Forest_view} (hu : Ups v.Forest.Nodes) (hb : v.Forest.Nodes.length ≤ 1000000) : ∀ (j t k : Nat) (n : Int) (x : Node), t + j = v.Forest.Nodes.length → j < k → idx v.Forest.Nodes n = some x → Forest_view_ends_l1 fu v k (n, (t : Int)) = some (climbB v.Forest.Nodes j n) := by
  intro j
  induction j with
  | zero =>
    intro t k n x ht hk hx
    obtain ⟨k, rfl⟩ : ∃ k', k = k' + 1 := ⟨k - 1, by omega⟩
    simp only [Forest_view_ends_l1]
    rw [cnd_neg (by simp; omega)]; rfl
  | succ j ih =>
    intro t k n x ht hk hx
    obtain ⟨k, rfl⟩ : ∃ k', k = k' + 1 := ⟨k - 1, by omega⟩
    simp only [Forest_view_ends_l1]
    rw [cnd_pos (by simp; omega), up_ok hx, bnd_some, cnd_eq, rng_nat (by omega), bnd_some]
    simp only [climbB]
    by_cases h : upI v.Forest.Nodes n = -1
    · rw [if_pos h]; simp [h]
    · rw [if_neg h]
      rcases hu n x hx with h' | ⟨y, hy⟩
      · exact absurd h' h
      · rw [ih (t + 1) k _ y (by omega) (by omega) hy]
        have : (upI v.Forest.Nodes n == -1) = false := by simpa using h
        rw [this, Bool.false_or]
theorem nodes_at {ns : List Node} (h : nodesB ns = true) {n : Int} {x : Node} (hx : idx ns n = some x) : nodeB ns n x = true := by
  unfold nodesB at h
  rw [List.all_eq_true] at h
  have hr := idx_range hx
  have := h n.toNat (by simp; omega)
  have e : ns[n.toNat]? = some x := by unfold idx at hx; rw [if_pos hr.1] at hx; exact hx
  rw [e] at this
  simpa [show ((n.toNat : Nat) : Int) = n by omega] using this
theorem nodes_ups {ns : List Node} (h : nodesB ns = true) : Ups ns := by
  intro n x hx
  have hn := nodes_at h hx
  unfold nodeB hungB hostB at hn
  simp only [Bool.and_eq_true] at hn
  obtain ⟨_, _, h3, _, h5, _⟩ := hn
  unfold upI
  rw [hx]
  simp only
  by_cases hp : x.Parent = -1
  · rw [if_pos hp]
    by_cases h4 : x.Kind = 4
    · rw [if_pos h4] at h5
      cases hh : idx ns x.Host with
      | none => rw [hh] at h5; cases h5
      | some y => exact .inr ⟨y, rfl⟩
    · rw [if_neg h4] at h5
      exact .inl (by simpa using h5)
  · rw [if_neg hp]
    have e : (x.Parent == -1) = false := by simpa using hp
    rw [e, Bool.false_or, Bool.and_eq_true] at h3
    cases hh : idx ns x.Parent with
    | none => rw [hh] at h3; simp at h3
    | some y => exact .inr ⟨y, rfl⟩
theorem vright_ok {fu : Nat} {v : Forest_view} (hfu : 1000 < fu) (hk : KidsFit fu v.Forest.Nodes) : Forest_view_right_m fu v = some (frightB v.Forest) := by
  unfold Forest_view_right_m frightB
  rw [cnd_dec, cnd_dec, cnd_dec, cnd_dec]
  by_cases h1 : v.Forest.Most < 1
  · rw [if_pos h1, decide_eq_false (show ¬ 1 ≤ v.Forest.Most by omega)]; rfl
  rw [if_neg h1, decide_eq_true (show 1 ≤ v.Forest.Most by omega)]
  by_cases h2 : v.Forest.Most > 400
  · rw [if_pos h2, decide_eq_false (show ¬ v.Forest.Most ≤ 400 by omega)]; rfl
  rw [if_neg h2, decide_eq_true (show v.Forest.Most ≤ 400 by omega)]
  by_cases h3 : ((v.Forest.Nodes.length : Nat) : Int) < 1
  · rw [if_pos h3, decide_eq_false (show ¬ 1 ≤ v.Forest.Nodes.length by omega)]; rfl
  rw [if_neg h3, decide_eq_true (show 1 ≤ v.Forest.Nodes.length by omega)]
  by_cases h4 : ((v.Forest.Nodes.length : Nat) : Int) > v.Forest.Most
  · rw [if_pos h4, decide_eq_false (show ¬ (v.Forest.Nodes.length : Int) ≤ v.Forest.Most by omega)]; rfl
  rw [if_neg h4, decide_eq_true (show (v.Forest.Nodes.length : Int) ≤ v.Forest.Most by omega)]
  obtain ⟨x0, hx0⟩ := idx_some (l := v.Forest.Nodes) (n := 0) (by omega)
  rw [hx0, bnd_some, cnd_ne]
  have e0 : isB v.Forest.Nodes 0 0 = (x0.Kind == 0) := by unfold isB; rw [hx0]
  rw [e0]
  by_cases h5 : x0.Kind = 0
  case neg =>
    rw [if_neg h5]
    have : (x0.Kind == 0) = false := by simpa using h5
    rw [this]; rfl
  rw [if_pos h5, h5]
  simp only [Bool.true_and, beq_self_eq_true]
  have l2 : nodesB v.Forest.Nodes = true → Forest_view_right_l2 fu v fu 0 = some (endsB v.Forest.Nodes) := fun hn => by
    have hu := nodes_ups hn
    refine (up_alli (L := Forest_view_right_l2 fu v) v.Forest.Nodes.length (fun i => climbB v.Forest.Nodes v.Forest.Nodes.length (i : Int)) (some true) (fun i hi k => ?_) (fun k => ?_) (by omega)).trans ?_
    · simp only [Forest_view_right_l2]
      rw [cnd_pos (by simpa using hi)]
      unfold Forest_view_ends_m
      have := ends_ok (fu := fu) hu (by omega) v.Forest.Nodes.length 0 fu (i : Int) _ (by omega) (by omega) (idx_lt hi)
      rw [show ((0 : Nat) : Int) = 0 from rfl] at this
      rw [this, bnd_some, cnd_not, rng_nat (by omega), bnd_some]
      cases climbB v.Forest.Nodes v.Forest.Nodes.length (i : Int) <;> rfl
    · simp only [Forest_view_right_l2]
      rw [cnd_neg (by simp)]
    · unfold endsB
      cases (List.range v.Forest.Nodes.length).all fun i => climbB v.Forest.Nodes v.Forest.Nodes.length (i : Int) <;> rfl
  refine (up_alli (L := Forest_view_right_l1 fu v) v.Forest.Nodes.length (fun i => match v.Forest.Nodes[i]? with | some x => nodeB v.Forest.Nodes (i : Int) x | none => true) (Forest_view_right_l2 fu v fu 0) (fun i hi k => ?_) (fun k => ?_) (by omega)).trans ?_
  · have hx := idx_lt hi
    have hkf := hk _ (idx_mem hx)
    simp only [Forest_view_right_l1]
    rw [cnd_pos (by simpa using hi), List.getElem?_eq_getElem hi]
    rw [hx, bnd_some, named_m_ok (by omega), bnd_some, owned_ok hx, bnd_some, hung_ok hx hk, bnd_some, bears_ok hx hkf.1 hkf.2, bnd_some, shaded_ok hx, bnd_some, rng_nat (by omega), bnd_some]
    unfold nodeB
    simp only [cnd_not]
    cases namedB v.Forest.Nodes[i] <;> cases ownedB v.Forest.Nodes (i : Int) v.Forest.Nodes[i] <;> cases hungB v.Forest.Nodes (i : Int) v.Forest.Nodes[i] <;> cases bearsB v.Forest.Nodes (i : Int) v.Forest.Nodes[i] <;> cases (hostB v.Forest.Nodes (i : Int) v.Forest.Nodes[i] && underB v.Forest.Nodes (i : Int) v.Forest.Nodes[i]) <;> rfl
  · simp only [Forest_view_right_l1]
    rw [cnd_neg (by simp)]
  · have e : ((List.range v.Forest.Nodes.length).all fun i => match v.Forest.Nodes[i]? with | some x => nodeB v.Forest.Nodes (i : Int) x | none => true) = nodesB v.Forest.Nodes := rfl
    rw [e]
    cases hn : nodesB v.Forest.Nodes
    · rfl
    · rw [l2 hn]; rfl
theorem fright_ok {fu : Nat} {f : Forest} (hfu : 1000 < fu) (hk : KidsFit fu f.Nodes) : Forest_Right_m fu f = some (frightB f) := by
  unfold Forest_Right_m
  rw [vright_ok (v := ⟨⟨f.Nodes, f.Most⟩⟩) hfu hk, bnd_some]
end Go.Proofs.Ytcaepigodglihaa
