/- What the models of shade.Over and valid.May, Swap come to in a forest that is right. -/
import Derived.Test.YtcaepigodglihaaFor2
namespace Go.Proofs.Ytcaepigodglihaa
open Go Go.Pw

theorem out_cast (f : Forest) (n : Int) : cnd (decide (n < 0)) (some true) (some (decide (n ≥ ((f.Nodes.length : Nat) : Int)))) = some (!(inB f n)) := by
  unfold inB
  rw [cnd_dec]
  by_cases h : n < 0
  · rw [if_pos h, decide_eq_false (by omega)]; rfl
  · rw [if_neg h]
    by_cases h2 : n < f.Nodes.length
    · rw [decide_eq_false (by omega), decide_eq_true (by omega)]; rfl
    · rw [decide_eq_true (by omega), decide_eq_false (by omega)]; rfl
theorem sthere_ok {fu : Nat} {f : Forest} {l : List Int} (hfu : 1000 < fu) (hk : KidsFit fu f.Nodes) (hr : frightB f = true) (hl : l.length ≤ 100) : Shade_there_m fu f l = some (l.all (inB f)) := by
  unfold Shade_there_m
  rw [fright_ok hfu hk, bnd_some, hr, cnd_true, containsFInt_ok (p := fun n => !(inB f n)) (fun n _ => by unfold Shade_there_1_m; exact out_cast f n) (by omega) (by omega), bnd_some, all_not_any]
theorem vthere_ok {fu : Nat} {f : Forest} {l : List Int} (hfu : 1000 < fu) (hk : KidsFit fu f.Nodes) (hr : frightB f = true) (hl : l.length ≤ 100) : Valid_there_m fu f l = some (l.all (inB f)) := by
  unfold Valid_there_m
  rw [fright_ok hfu hk, bnd_some, hr, cnd_true, containsFInt_ok (p := fun n => !(inB f n)) (fun n _ => by unfold Valid_there_1_m; exact out_cast f n) (by omega) (by omega), bnd_some, all_not_any]
/-! ## Over -/
def overF (ns : List Node) (a : Int) : Nat → Int → Bool
  | 0, b => b == a
  | k + 1, b => if b = -1 ∨ b = a then b == a else overF ns a k (upI ns b)
def overB (f : Forest) (a b : Int) : Bool := overF f.Nodes a (f.Nodes.length + 1) b
theorem sup_ok {fu : Nat} {f : Forest} {n : Int} {x : Node} (hx : idx f.Nodes n = some x) : Shade_up_m fu f n = some (upI f.Nodes n) := by
  unfold Shade_up_m upI
  rw [hx, bnd_some, cnd_ne, bnd_some]
  simp only
  split <;> rfl
theorem over_loop {fu : Nat} {f : Forest} {a : Int} (hu : Ups f.Nodes) : ∀ (k q : Nat) (b : Int), (b = -1 ∨ ((∃ x, idx f.Nodes b = some x) ∧ climbB f.Nodes k b = true)) → k + 1 < q → Shade_Over_l1 fu f a q b = some (overF f.Nodes a (k + 1) b) := by
  intro k
  induction k with
  | zero =>
    intro q b hb hq
    obtain ⟨q, rfl⟩ : ∃ q', q = q' + 1 := ⟨q - 1, by omega⟩
    rcases hb with rfl | ⟨_, h⟩
    · simp only [Shade_Over_l1]
      rw [cnd_ne, if_pos rfl]
      simp only [overF, true_or, if_true]
    · simp [climbB] at h
  | succ k ih =>
    intro q b hb hq
    obtain ⟨q, rfl⟩ : ∃ q', q = q' + 1 := ⟨q - 1, by omega⟩
    simp only [Shade_Over_l1]
    rw [cnd_ne, cnd_ne]
    rcases hb with rfl | ⟨⟨x, hx⟩, h⟩
    · rw [if_pos rfl]
      simp only [overF, true_or, if_true]
    · by_cases h1 : b = -1
      · rw [if_pos h1]
        simp only [overF, h1, true_or, if_true]
      · rw [if_neg h1]
        by_cases h2 : b = a
        · rw [if_pos h2]
          simp only [overF, h2, or_true, if_true]
        · rw [if_neg h2, sup_ok hx, bnd_some, ih q _ ?_ (by omega)]
          · conv => rhs; rw [overF]
            rw [if_neg (by simp [h1, h2])]
          · simp only [climbB, Bool.or_eq_true, beq_iff_eq] at h
            rcases h with h | h
            · exact .inl h
            · rcases hu b x hx with h' | h'
              · exact .inl h'
              · exact .inr ⟨h', h⟩
theorem over_ok {fu : Nat} {f : Forest} {a b : Int} (hfu : 1000 < fu) (hk : KidsFit fu f.Nodes) (hr : frightB f = true) (ha : inB f a = true) (hb : inB f b = true) : Shade_Over_m fu f a b = some (overB f a b) := by
  obtain ⟨_, h2, h3, h4⟩ := right_parts hr
  unfold Shade_Over_m overB
  rw [sthere_ok hfu hk hr (by simp), bnd_some]
  simp only [List.all_cons, List.all_nil, ha, hb, Bool.and_self, Bool.not_true, cnd_false]
  have hb' : 0 ≤ b ∧ b < f.Nodes.length := by unfold inB at hb; simpa using hb
  exact over_loop (nodes_ups h3) f.Nodes.length fu b (.inr ⟨idx_some hb', ends_at h4 hb'⟩) (by omega)

/-! ## What may be put -/
def manyN (ns : List Node) (gone : Int) (l : List Int) (kind : Int) : Nat := l.countP fun k => k != gone && isB ns k kind
theorem many_ok {fu : Nat} {l : Valid_place} {nodes : List Int} {kind : Int} (hn : ∀ k ∈ nodes, ∃ x, idx l.Forest.Nodes k = some x) (hf : nodes.length < fu) (hb : nodes.length ≤ 1000000) : Valid_place_many_m fu l nodes kind = some ((manyN l.Forest.Nodes l.gone nodes kind : Nat) : Int) := by
  unfold Valid_place_many_m
  have := upf (L := Valid_place_many_l1 fu l nodes kind) (f := fun i => (((manyN l.Forest.Nodes l.gone (nodes.take i) kind : Nat) : Int), (i : Int))) (v := some ((manyN l.Forest.Nodes l.gone nodes kind : Nat) : Int)) nodes.length (fun i hi k => ?_) (fun k => ?_) hf
  · simpa [manyN] using this
  · obtain ⟨x, hx⟩ := hn _ (List.getElem_mem hi)
    have hle : manyN l.Forest.Nodes l.gone (nodes.take i) kind ≤ (nodes.take i).length := List.countP_le_length
    have hlt : (nodes.take i).length ≤ i := by simp; omega
    have hs : manyN l.Forest.Nodes l.gone (nodes.take (i + 1)) kind = manyN l.Forest.Nodes l.gone (nodes.take i) kind + (if (nodes[i] != l.gone && isB l.Forest.Nodes nodes[i] kind) = true then 1 else 0) := by
      unfold manyN
      rw [List.take_succ_eq_append_getElem hi, List.countP_append]
      simp [List.countP_cons]
    have hB : isB l.Forest.Nodes nodes[i] kind = (x.Kind == kind) := by unfold isB; rw [hx]
    simp only [Valid_place_many_l1]
    rw [cnd_pos (by simpa using hi), idx_lt hi, bnd_some, rng_nat (by omega), hs, hB]
    unfold Valid_place_kind_m
    rw [hx, rng_nat (by omega)]
    simp only [bnd_some]
    cases h1 : nodes[i] != l.gone
    · rfl
    · cases h2 : x.Kind == kind <;> rfl
  · simp only [Valid_place_many_l1]
    rw [cnd_neg (by simp), List.take_length]
def crowdB (ns : List Node) (p gone : Int) (l : List Int) : Bool := decide (0 < manyN ns gone l 2) || (decide (0 < manyN ns gone l 1) && (match idx ns p with | some y => decide (1 < manyN ns gone l 1 + manyN ns gone y.Kids 1) | none => false))
theorem crowded_ok {fu : Nat} {l : Valid_place} {nodes : List Int} {y : Node} (hns : nodesB l.Forest.Nodes = true) (hp : idx l.Forest.Nodes l.p = some y) (hk : KidsFit fu l.Forest.Nodes) (hn : ∀ k ∈ nodes, ∃ x, idx l.Forest.Nodes k = some x) (hf : nodes.length < fu) (hb : nodes.length ≤ 1000000) : Valid_place_crowded_m fu l nodes = some (crowdB l.Forest.Nodes l.p l.gone nodes) := by
  have hkf := hk _ (idx_mem hp)
  have c1 : manyN l.Forest.Nodes l.gone nodes 1 ≤ nodes.length := List.countP_le_length
  have c2 : manyN l.Forest.Nodes l.gone y.Kids 1 ≤ y.Kids.length := List.countP_le_length
  unfold Valid_place_crowded_m crowdB
  rw [many_ok hn hf hb, bnd_some, many_ok hn hf hb, bnd_some, bnd_some, hp, bnd_some, many_ok (kids_there hns hp) hkf.1 hkf.2, bnd_some, rng64 (by omega) (by omega), bnd_some, cnd_dec, cnd_dec]
  by_cases h1 : 0 < manyN l.Forest.Nodes l.gone nodes 2
  · rw [if_pos (by omega), decide_eq_true h1]; rfl
  · rw [if_neg (by omega), decide_eq_false h1, Bool.false_or]
    by_cases h2 : 0 < manyN l.Forest.Nodes l.gone nodes 1
    · rw [if_pos (by omega), decide_eq_true h2, Bool.true_and]
      congr 1
      exact decide_eq_decide.2 (by omega)
    · rw [if_neg (by omega), decide_eq_false h2]; rfl
/-- What is told of a node that is to be put. -/
def tellI (f : Forest) (n p _child gone : Int) (x y : Node) (childok : Bool) : Int :=
  if holderB y.Kind = false then 5 else if overB f n p = true then 5 else if childok = false then 6 else if x.Kind = 0 ∨ x.Kind = 4 then 5
  else if y.Kind = 0 then (if crowdB f.Nodes p gone (if x.Kind = 3 then x.Kids else [n]) = true then 5 else 0) else 0
theorem tell_ok {fu : Nat} {f : Forest} {n p child gone : Int} {x y : Node} (hfu : 1000 < fu) (hk : KidsFit fu f.Nodes) (hr : frightB f = true) (hx : idx f.Nodes n = some x) (hy : idx f.Nodes p = some y) (hc : child = -1 ∨ ∃ z, idx f.Nodes child = some z) :
    Valid_place_tell_m fu ⟨⟨f.Nodes, f.Most⟩, p, child, gone⟩ n = some (tellI f n p child gone x y (child == -1 || (match idx f.Nodes child with | some z => z.Parent == p | none => false))) := by
  obtain ⟨_, hlen, hns, _⟩ := right_parts hr
  have hin : inB f n = true := by unfold inB; exact decide_eq_true (idx_range hx)
  have hip : inB f p = true := by unfold inB; exact decide_eq_true (idx_range hy)
  have hov : Shade_Over_m fu f n p = some (overB f n p) := over_ok hfu hk hr hin hip
  have kx : Valid_place_kind_m fu ⟨⟨f.Nodes, f.Most⟩, p, child, gone⟩ n = some x.Kind := by unfold Valid_place_kind_m; rw [hx]; rfl
  have ky : Valid_place_kind_m fu ⟨⟨f.Nodes, f.Most⟩, p, child, gone⟩ p = some y.Kind := by unfold Valid_place_kind_m; rw [hy]; rfl
  have hkx := hk _ (idx_mem hx)
  have cr1 : Valid_place_crowded_m fu ⟨⟨f.Nodes, f.Most⟩, p, child, gone⟩ x.Kids = some (crowdB f.Nodes p gone x.Kids) := crowded_ok (l := ⟨⟨f.Nodes, f.Most⟩, p, child, gone⟩) hns hy hk (kids_there hns hx) hkx.1 hkx.2
  have cr2 : Valid_place_crowded_m fu ⟨⟨f.Nodes, f.Most⟩, p, child, gone⟩ [n] = some (crowdB f.Nodes p gone [n]) := crowded_ok (l := ⟨⟨f.Nodes, f.Most⟩, p, child, gone⟩) hns hy hk (fun k hk' => by simp at hk'; subst hk'; exact ⟨x, hx⟩) (by simp; omega) (by simp)
  have hj4 : ∀ t : Bool, Valid_place_tell_j4 fu ⟨⟨f.Nodes, f.Most⟩, p, child, gone⟩ n x.Kind t = some (if t = true then 5 else if y.Kind = 0 then (if crowdB f.Nodes p gone (if x.Kind = 3 then x.Kids else [n]) = true then 5 else 0) else 0) := fun t => by
    unfold Valid_place_tell_j4
    simp only [ky, bnd_some, cnd_eq, cr2, cr1, hx]
    cases t
    · rw [cnd_false]
      by_cases h3 : x.Kind = 3
      · simp only [if_pos h3, cnd_if]
        by_cases h0 : y.Kind = 0
        · simp only [if_pos h0]
          cases crowdB f.Nodes p gone x.Kids <;> rfl
        · simp only [if_neg h0]; rfl
      · simp only [if_neg h3, cnd_if]
        by_cases h0 : y.Kind = 0
        · simp only [if_pos h0]
          cases crowdB f.Nodes p gone [n] <;> rfl
        · simp only [if_neg h0]; rfl
    · rfl
  have hj3 : Valid_place_tell_j3 fu ⟨⟨f.Nodes, f.Most⟩, p, child, gone⟩ n () = some (if x.Kind = 0 ∨ x.Kind = 4 then 5 else if y.Kind = 0 then (if crowdB f.Nodes p gone (if x.Kind = 3 then x.Kids else [n]) = true then 5 else 0) else 0) := by
    unfold Valid_place_tell_j3
    rw [kx, bnd_some, hj4, hj4, cnd_eq]
    by_cases h0 : x.Kind = 0
    · simp [h0]
    · by_cases h4 : x.Kind = 4
      · simp [h4]
      · simp [h0, h4]
  have hj2 : ∀ (h c : Bool), Valid_place_tell_j2 fu ⟨⟨f.Nodes, f.Most⟩, p, child, gone⟩ n h c = some (if h = false then 5 else if overB f n p = true then 5 else if c = false then 6 else if x.Kind = 0 ∨ x.Kind = 4 then 5 else if y.Kind = 0 then (if crowdB f.Nodes p gone (if x.Kind = 3 then x.Kids else [n]) = true then 5 else 0) else 0) := fun h c => by
    unfold Valid_place_tell_j2
    rw [show Shade_Over_m fu (⟨⟨f.Nodes, f.Most⟩, p, child, gone⟩ : Valid_place).Forest n (⟨⟨f.Nodes, f.Most⟩, p, child, gone⟩ : Valid_place).p = some (overB f n p) from hov, bnd_some, hj3]
    cases h
    · rfl
    · cases overB f n p
      · cases c <;> rfl
      · rfl
  have hj1 : ∀ h : Bool, Valid_place_tell_j1 fu ⟨⟨f.Nodes, f.Most⟩, p, child, gone⟩ n h = some (if h = false then 5 else if overB f n p = true then 5 else if (child == -1 || (match idx f.Nodes child with | some z => z.Parent == p | none => false)) = false then 6 else if x.Kind = 0 ∨ x.Kind = 4 then 5 else if y.Kind = 0 then (if crowdB f.Nodes p gone (if x.Kind = 3 then x.Kids else [n]) = true then 5 else 0) else 0) := fun h => by
    unfold Valid_place_tell_j1
    simp only [hj2, cnd_ne]
    by_cases h1 : child = -1
    · simp [h1]
    · have e1 : (child == -1) = false := by simpa using h1
      rw [if_neg h1, e1]
      rcases hc with h2 | ⟨z, hz⟩
      · exact absurd h2 h1
      · rw [hz]; rfl
  unfold Valid_place_tell_m tellI
  rw [show Valid_place_kind_m fu ⟨⟨f.Nodes, f.Most⟩, p, child, gone⟩ (⟨⟨f.Nodes, f.Most⟩, p, child, gone⟩ : Valid_place).p = some y.Kind from ky, bnd_some]
  simp only [hj1, cnd_eq]
  unfold holderB
  by_cases h0 : y.Kind = 0
  · simp [h0]
  by_cases h1 : y.Kind = 1
  · simp [h1]
  by_cases h3 : y.Kind = 3
  · simp [h3]
  by_cases h4 : y.Kind = 4
  · simp [h4]
  simp [h0, h1, h3, h4]
theorem may_ok {fu : Nat} {f : Forest} {n p child : Int} {x y : Node} (hfu : 1000 < fu) (hk : KidsFit fu f.Nodes) (hr : frightB f = true) (hx : idx f.Nodes n = some x) (hy : idx f.Nodes p = some y) (hc : child = -1 ∨ ∃ z, idx f.Nodes child = some z) :
    Valid_May_m fu f n p child = some (tellI f n p child (-1) x y (child == -1 || (match idx f.Nodes child with | some z => z.Parent == p | none => false))) := by
  have hin : inB f n = true := by unfold inB; exact decide_eq_true (idx_range hx)
  have hip : inB f p = true := by unfold inB; exact decide_eq_true (idx_range hy)
  unfold Valid_May_m
  rw [vthere_ok hfu hk hr (by simp), bnd_some, tell_ok hfu hk hr hx hy hc, bnd_some, cnd_ne]
  simp only [List.all_cons, List.all_nil, hin, hip, Bool.and_self, Bool.not_true, cnd_false]
  by_cases h1 : child = -1
  · rw [if_pos h1]
  · rw [if_neg h1, vthere_ok hfu hk hr (by simp), bnd_some]
    rcases hc with h2 | ⟨z, hz⟩
    · exact absurd h2 h1
    · have : inB f child = true := by unfold inB; exact decide_eq_true (idx_range hz)
      simp only [List.all_cons, List.all_nil, this, Bool.and_self, Bool.not_true, cnd_false]
theorem swap_ok {fu : Nat} {f : Forest} {n p child : Int} {x y z : Node} (hfu : 1000 < fu) (hk : KidsFit fu f.Nodes) (hr : frightB f = true) (hx : idx f.Nodes n = some x) (hy : idx f.Nodes p = some y) (hz : idx f.Nodes child = some z) :
    Valid_Swap_m fu f n p child = some (tellI f n p child child x y (z.Parent == p)) := by
  have hin : inB f n = true := by unfold inB; exact decide_eq_true (idx_range hx)
  have hip : inB f p = true := by unfold inB; exact decide_eq_true (idx_range hy)
  have hiz : inB f child = true := by unfold inB; exact decide_eq_true (idx_range hz)
  have hc := idx_range hz
  have e1 : (child == -1) = false := by simp; omega
  unfold Valid_Swap_m Valid_Swap_j1
  rw [vthere_ok hfu hk hr (by simp), bnd_some, vthere_ok hfu hk hr (by simp), bnd_some, tell_ok hfu hk hr hx hy (.inr ⟨z, hz⟩), bnd_some, cnd_ne, if_neg (by omega), e1, hz]
  simp only [List.all_cons, List.all_nil, hin, hip, hiz, Bool.and_self, Bool.not_true, cnd_false, Bool.false_or]
end Go.Proofs.Ytcaepigodglihaa
