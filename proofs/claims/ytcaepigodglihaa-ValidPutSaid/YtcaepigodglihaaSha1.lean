/- Trees with shadows: the way up from a node, over hosts too, and all that it is over, in order. -/
import Derived.Test.YtcaepigodglihaaTre3
namespace Go.Proofs.Ytcaepigodglihaa
open Go Go.Pw

def subI (ns : List Node) (n : Int) : List Int := match idx ns n with | some x => (if x.Under = -1 then [] else [x.Under]) ++ x.Kids | none => []
def climbQ (ns : List Node) : Nat → Int → Prop
  | 0, _ => False
  | k + 1, n => upI ns n = -1 ∨ climbQ ns k (upI ns n)
def wayUF (ns : List Node) : Nat → Int → List Int
  | 0, _ => []
  | k + 1, n => n :: (if upI ns n = -1 then [] else wayUF ns k (upI ns n))
def wayU (ns : List Node) (n : Int) : List Int := wayUF ns ns.length n
def allUF (ns : List Node) : Nat → Int → List Int
  | 0, _ => []
  | k + 1, n => n :: (subI ns n).flatMap (allUF ns k)
def allU (ns : List Node) (n : Int) : List Int := allUF ns ns.length n
def topF (ns : List Node) : Nat → Int → Int
  | 0, n => n
  | k + 1, n => if upI ns n = -1 then n else topF ns k (upI ns n)
def topN (ns : List Node) (n : Int) : Int := topF ns ns.length n
structure TreeU (ns : List Node) : Prop where
  kid : ∀ n k, k ∈ subI ns n → InN ns n ∧ InN ns k ∧ upI ns k = n
  par : ∀ x, InN ns x → upI ns x ≠ -1 → InN ns (upI ns x) ∧ x ∈ subI ns (upI ns x)
  nod : ∀ n, (subI ns n).Nodup
  fin : ∀ n, InN ns n → climbQ ns ns.length n

/-- Whose host a shadow has, and whose shadow a host has. -/
theorem under_at {ns : List Node} (hn : nodesB ns = true) {n : Int} {x : Node} (hx : idx ns n = some x) (h : x.Under ≠ -1) : ∃ u, idx ns x.Under = some u ∧ u.Kind = 4 ∧ u.Host = n ∧ u.Parent = -1 ∧ x.Kind = 1 := by
  have hh := nodes_at hn hx
  unfold nodeB underB at hh
  simp only [Bool.and_eq_true] at hh
  obtain ⟨_, _, _, _, _, h6⟩ := hh
  have e : (x.Under == -1) = false := beq_eq_false_iff_ne.2 h
  rw [e, Bool.false_or, Bool.and_eq_true, beq_iff_eq] at h6
  cases hu : idx ns x.Under with
  | none => rw [hu] at h6; simp at h6
  | some u =>
    rw [hu] at h6
    simp only [Bool.and_eq_true, beq_iff_eq] at h6
    refine ⟨u, rfl, h6.2.1, h6.2.2, ?_, h6.1⟩
    have h3 := nodes_at hn hu
    unfold nodeB hungB at h3
    simp only [Bool.and_eq_true, Bool.or_eq_true, beq_iff_eq] at h3
    rcases h3.2.2.1 with h | ⟨h | h, _⟩
    · exact h
    · omega
    · omega
theorem host_at {ns : List Node} (hn : nodesB ns = true) {n : Int} {x : Node} (hx : idx ns n = some x) (h : x.Host ≠ -1) : ∃ u, idx ns x.Host = some u ∧ u.Kind = 1 ∧ u.Under = n ∧ u.Doc = x.Doc ∧ x.Kind = 4 := by
  have hh := nodes_at hn hx
  unfold nodeB hostB at hh
  simp only [Bool.and_eq_true] at hh
  obtain ⟨_, _, _, _, h5, _⟩ := hh
  by_cases hk : x.Kind = 4
  · rw [if_pos hk] at h5
    cases hu : idx ns x.Host with
    | none => rw [hu] at h5; simp at h5
    | some u =>
      rw [hu] at h5
      simp only [Bool.and_eq_true, beq_iff_eq] at h5
      exact ⟨u, rfl, h5.1, h5.2.1, h5.2.2, hk⟩
  · rw [if_neg hk, beq_iff_eq] at h5
    exact absurd h5 h
theorem upI_at {ns : List Node} {n : Int} {x : Node} (hx : idx ns n = some x) : upI ns n = if x.Parent = -1 then x.Host else x.Parent := by unfold upI; rw [hx]
theorem upI_par {ns : List Node} {n : Int} (h : parI ns n ≠ -1) : upI ns n = parI ns n := by
  unfold upI; unfold parI at h ⊢
  cases hx : idx ns n with
  | none => rfl
  | some x => rw [hx] at h; simp only at h ⊢; rw [if_neg h]
theorem sub_at {ns : List Node} {n : Int} {x : Node} (hx : idx ns n = some x) : subI ns n = (if x.Under = -1 then [] else [x.Under]) ++ x.Kids := by unfold subI; rw [hx]
theorem treeU_of {ns : List Node} (hn : nodesB ns = true) (he : endsB ns = true) : TreeU ns where
  kid n k hk := by
    cases hx : idx ns n with
    | none => unfold subI at hk; rw [hx] at hk; simp at hk
    | some x =>
      rw [sub_at hx] at hk
      rcases List.mem_append.1 hk with hk | hk
      · split at hk
        · simp at hk
        · rename_i hu
          obtain rfl := List.mem_singleton.1 hk
          obtain ⟨u, h1, h2, h3, h4, _⟩ := under_at hn hx hu
          exact ⟨idx_range hx, idx_range h1, by rw [upI_at h1, if_pos h4, h3]⟩
      · have T := tree_of hn he
        obtain ⟨h1, h2, h3⟩ := T.kid n k (by rw [kids_at hx]; exact hk)
        exact ⟨h1, h2, by rw [upI_par (by rw [h3]; exact h1.ne), h3]⟩
  par x hx hp := by
    obtain ⟨y, hy⟩ := idx_some hx
    by_cases h : y.Parent = -1
    · rw [upI_at hy, if_pos h] at hp ⊢
      obtain ⟨u, h1, h2, h3, _, _⟩ := host_at hn hy hp
      refine ⟨idx_range h1, ?_⟩
      rw [sub_at h1, h3, if_neg hx.ne]
      simp
    · have T := tree_of hn he
      have hp' : parI ns x ≠ -1 := by rw [par_at hy]; exact h
      rw [upI_par hp']
      obtain ⟨h1, h2⟩ := T.par x hx hp'
      obtain ⟨z, hz⟩ := idx_some h1
      refine ⟨h1, ?_⟩
      rw [sub_at hz]
      rw [kids_at hz] at h2
      exact List.mem_append.2 (.inr h2)
  nod n := by
    cases hx : idx ns n with
    | none => unfold subI; rw [hx]; simp
    | some x =>
      have T := tree_of hn he
      have hk := T.nod n
      rw [kids_at hx] at hk
      rw [sub_at hx, List.nodup_append]
      refine ⟨by split <;> simp, hk, fun a ha b hb e => ?_⟩
      subst e
      split at ha
      · simp at ha
      · rename_i hu
        obtain rfl := List.mem_singleton.1 ha
        obtain ⟨u, h1, h2, h3, h4, _⟩ := under_at hn hx hu
        obtain ⟨g1, g2, g3⟩ := T.kid n x.Under (by rw [kids_at hx]; exact hb)
        rw [par_at h1, h4] at g3
        exact g1.ne g3.symm
  fin n h := by
    have := ends_at he h
    revert this
    generalize ns.length = k
    clear h
    intro h
    induction k generalizing n with
    | zero => cases h
    | succ k ih =>
      simp only [climbB, Bool.or_eq_true, beq_iff_eq] at h
      exact h.imp id (ih _)
theorem wayUF_stab {ns : List Node} : ∀ (k : Nat) (n : Int), climbQ ns k n → ∀ j, k ≤ j → wayUF ns j n = wayUF ns k n
  | 0, _, h, _, _ => h.elim
  | k + 1, n, h, j, hj => by
    obtain ⟨j, rfl⟩ : ∃ j', j = j' + 1 := ⟨j - 1, by omega⟩
    simp only [wayUF]
    by_cases hp : upI ns n = -1
    · rw [if_pos hp, if_pos hp]
    · rw [if_neg hp, if_neg hp, wayUF_stab k _ (h.resolve_left hp) j (by omega)]
theorem topF_stab {ns : List Node} : ∀ (k : Nat) (n : Int), climbQ ns k n → ∀ j, k ≤ j → topF ns j n = topF ns k n
  | 0, _, h, _, _ => h.elim
  | k + 1, n, h, j, hj => by
    obtain ⟨j, rfl⟩ : ∃ j', j = j' + 1 := ⟨j - 1, by omega⟩
    simp only [topF]
    by_cases hp : upI ns n = -1
    · rw [if_pos hp, if_pos hp]
    · rw [if_neg hp, if_neg hp, topF_stab k _ (h.resolve_left hp) j (by omega)]
theorem wayUF_len {ns : List Node} : ∀ (k : Nat) (n : Int), (wayUF ns k n).length ≤ k
  | 0, _ => by simp [wayUF]
  | k + 1, n => by
    simp only [wayUF, List.length_cons]
    split
    · simp
    · have := wayUF_len (ns := ns) k (upI ns n); omega
section
variable {ns : List Node} (T : TreeU ns)
include T
theorem TreeU.climb {n : Int} (h : InN ns n) {M : Nat} (hM : ns.length = M + 1) : upI ns n = -1 ∨ climbQ ns M (upI ns n) := by
  have := T.fin n h
  rw [hM] at this
  exact this
theorem TreeU.wayU_eq {n : Int} (h : InN ns n) : wayU ns n = n :: (if upI ns n = -1 then [] else wayU ns (upI ns n)) := by
  obtain ⟨M, hM⟩ := h.pos
  have hc := T.climb h hM
  unfold wayU
  rw [hM]
  simp only [wayUF]
  by_cases hp : upI ns n = -1
  · rw [if_pos hp, if_pos hp]
  · rw [if_neg hp, if_neg hp]
    have := wayUF_stab M _ (hc.resolve_left hp) (M + 1) (by omega)
    simp only [wayUF] at this
    rw [this]
theorem TreeU.root_eq {n : Int} (h : InN ns n) : topN ns n = if upI ns n = -1 then n else topN ns (upI ns n) := by
  obtain ⟨M, hM⟩ := h.pos
  have hc := T.climb h hM
  unfold topN
  rw [hM]
  simp only [topF]
  by_cases hp : upI ns n = -1
  · rw [if_pos hp, if_pos hp]
  · rw [if_neg hp, if_neg hp]
    have := topF_stab M _ (hc.resolve_left hp) (M + 1) (by omega)
    simp only [topF] at this
    rw [this]
theorem TreeU.up_ind {C : Int → Prop} (h : ∀ n, InN ns n → (upI ns n ≠ -1 → C (upI ns n)) → C n) : ∀ n, InN ns n → C n := by
  have key : ∀ (k : Nat) (n : Int), InN ns n → climbQ ns k n → C n := by
    intro k
    induction k with
    | zero => intro n _ h; exact h.elim
    | succ k ih =>
      intro n hn hc
      exact h n hn fun hp => ih _ (T.par n hn hp).1 (hc.resolve_left hp)
  exact fun n hn => key _ n hn (T.fin n hn)
theorem TreeU.wayU_kid {n k : Int} (hk : k ∈ subI ns n) : wayU ns k = k :: wayU ns n := by
  obtain ⟨h1, h2, h3⟩ := T.kid n k hk
  rw [T.wayU_eq h2, h3, if_neg h1.ne]
theorem TreeU.wayU_len {n : Int} (h : InN ns n) : 1 ≤ (wayU ns n).length ∧ (wayU ns n).length ≤ ns.length := by
  refine ⟨?_, wayUF_len _ _⟩
  rw [T.wayU_eq h]; simp
theorem TreeU.down_ind {C : Int → Prop} (h : ∀ n, InN ns n → (∀ k, k ∈ subI ns n → C k) → C n) : ∀ n, InN ns n → C n := by
  have key : ∀ (d : Nat) (n : Int), InN ns n → ns.length < (wayU ns n).length + d → C n := by
    intro d
    induction d with
    | zero => intro n hn hl; have := T.wayU_len hn; omega
    | succ d ih =>
      intro n hn hl
      exact h n hn fun k hk => ih k (T.kid n k hk).2.1 (by rw [T.wayU_kid hk, List.length_cons]; omega)
  exact fun n hn => key ns.length n hn (by have := T.wayU_len hn; omega)
theorem TreeU.allUF_stab : ∀ (d : Nat) (n : Int), InN ns n → ns.length < (wayU ns n).length + d → ∀ j, allUF ns (d + j) n = allUF ns d n := by
  intro d
  induction d with
  | zero => intro n hn hl; have := T.wayU_len hn; omega
  | succ d ih =>
    intro n hn hl j
    rw [show d + 1 + j = d + j + 1 by omega]
    simp only [allUF, List.flatMap_def]
    rw [List.map_congr_left fun k hk => ih k (T.kid n k hk).2.1 (by rw [T.wayU_kid hk, List.length_cons]; omega) j]
theorem TreeU.all_eq {n : Int} (h : InN ns n) : allU ns n = n :: (subI ns n).flatMap (allU ns) := by
  obtain ⟨M, hM⟩ := h.pos
  have hs := T.allUF_stab
  have hw := T.wayU_len h
  unfold allU
  rw [hM]
  conv => lhs; simp only [allUF]
  rw [List.flatMap_def, List.flatMap_def, List.map_congr_left fun k hk => (hs M k (T.kid n k hk).2.1 (by rw [T.wayU_kid hk, List.length_cons]; omega) 1).symm]
theorem TreeU.wayU_self {n : Int} (h : InN ns n) : n ∈ wayU ns n := by rw [T.wayU_eq h]; simp
theorem TreeU.wayU_in : ∀ x, InN ns x → ∀ y ∈ wayU ns x, InN ns y := T.up_ind fun x hx ih y hy => by
  rw [T.wayU_eq hx] at hy
  rcases List.mem_cons.1 hy with rfl | hy
  · exact hx
  · split at hy
    · simp at hy
    · rename_i hp; exact ih hp y hy
theorem TreeU.wayU_suffix : ∀ x, InN ns x → ∀ y ∈ wayU ns x, wayU ns y <:+ wayU ns x := T.up_ind fun x hx ih y hy => by
  have e := T.wayU_eq hx
  rw [e] at hy
  rcases List.mem_cons.1 hy with rfl | hy
  · exact List.suffix_refl _
  · split at hy
    · simp at hy
    · rename_i hp
      rw [e, if_neg hp]
      exact (ih hp y hy).trans (List.suffix_cons _ _)
theorem TreeU.wayU_trans {x y z : Int} (hz : InN ns z) (h1 : x ∈ wayU ns y) (h2 : y ∈ wayU ns z) : x ∈ wayU ns z := (T.wayU_suffix z hz y h2).subset h1
theorem TreeU.wayU_inj {x y : Int} (hx : InN ns x) (hy : InN ns y) (h : wayU ns x = wayU ns y) : x = y := by
  rw [T.wayU_eq hx, T.wayU_eq hy] at h
  exact (List.cons.inj h).1
theorem TreeU.wayU_anti {x y : Int} (hy : InN ns y) (h1 : x ∈ wayU ns y) (h2 : y ∈ wayU ns x) : x = y := by
  have hx := T.wayU_in y hy x h1
  have s1 := T.wayU_suffix y hy x h1
  have s2 := T.wayU_suffix x hx y h2
  exact T.wayU_inj hx hy (s1.eq_of_length_le s2.length_le)
/-- Of two that stand above a third one is above the other, or they are as deep. -/
theorem TreeU.wayU_same {x y z : Int} (hz : InN ns z) (h1 : x ∈ wayU ns z) (h2 : y ∈ wayU ns z) (hl : (wayU ns x).length = (wayU ns y).length) : x = y :=
  T.wayU_inj (T.wayU_in z hz x h1) (T.wayU_in z hz y h2) ((List.suffix_of_suffix_length_le (T.wayU_suffix z hz x h1) (T.wayU_suffix z hz y h2) (by omega)).eq_of_length hl)
end
section
variable {ns : List Node} (T : TreeU ns)
include T
theorem TreeU.kid_way {n k x : Int} (hx : InN ns x) (hk : k ∈ subI ns n) (h : k ∈ wayU ns x) : n ∈ wayU ns x :=
  T.wayU_trans hx (by rw [T.wayU_kid hk]; exact List.mem_cons_of_mem _ (T.wayU_self (T.kid n k hk).1)) h
theorem TreeU.all_in : ∀ n, InN ns n → ∀ x ∈ allU ns n, InN ns x ∧ n ∈ wayU ns x := T.down_ind fun n hn ih x hx => by
  rw [T.all_eq hn] at hx
  rcases List.mem_cons.1 hx with rfl | hx
  · exact ⟨hn, T.wayU_self hn⟩
  · obtain ⟨k, hk, hx⟩ := List.mem_flatMap.1 hx
    obtain ⟨h1, h2⟩ := ih k hk x hx
    exact ⟨h1, T.kid_way h1 hk h2⟩
theorem TreeU.all_self {n : Int} (hn : InN ns n) : n ∈ allU ns n := by rw [T.all_eq hn]; simp
theorem TreeU.all_kid : ∀ n, InN ns n → ∀ y ∈ allU ns n, ∀ k ∈ subI ns y, k ∈ allU ns n := T.down_ind fun n hn ih y hy k hk => by
  rw [T.all_eq hn] at hy ⊢
  rcases List.mem_cons.1 hy with rfl | hy
  · exact List.mem_cons_of_mem _ (List.mem_flatMap.2 ⟨k, hk, T.all_self (T.kid _ k hk).2.1⟩)
  · obtain ⟨k', hk', hy⟩ := List.mem_flatMap.1 hy
    exact List.mem_cons_of_mem _ (List.mem_flatMap.2 ⟨k', hk', ih k' hk' y hy k hk⟩)
theorem TreeU.mem_all {n : Int} (hn : InN ns n) : ∀ x, InN ns x → n ∈ wayU ns x → x ∈ allU ns n := T.up_ind fun x hx ih h => by
  have h' := h
  rw [T.wayU_eq hx] at h'
  rcases List.mem_cons.1 h' with rfl | h'
  · exact T.all_self hn
  · split at h'
    · simp at h'
    · rename_i hp
      exact T.all_kid n hn _ (ih hp h') x (T.par x hx hp).2
theorem TreeU.kids_disj {n k k' x : Int} (hk : k ∈ subI ns n) (hk' : k' ∈ subI ns n) (h : x ∈ allU ns k) (h' : x ∈ allU ns k') : k = k' := by
  have h1 := T.all_in k (T.kid n k hk).2.1 x h
  have h2 := T.all_in k' (T.kid n k' hk').2.1 x h'
  exact T.wayU_same h1.1 h1.2 h2.2 (by rw [T.wayU_kid hk, T.wayU_kid hk']; simp)
theorem TreeU.all_nodup : ∀ n, InN ns n → (allU ns n).Nodup := T.down_ind fun n hn ih => by
  rw [T.all_eq hn, List.nodup_cons]
  refine ⟨fun h => ?_, ?_⟩
  · obtain ⟨k, hk, h⟩ := List.mem_flatMap.1 h
    have h1 := (T.all_in k (T.kid n k hk).2.1 n h).2
    have h2 := T.wayU_suffix n hn k h1
    rw [T.wayU_kid hk] at h2
    have := h2.length_le
    simp at this
    omega
  · rw [List.Nodup, List.pairwise_flatMap]
    refine ⟨fun k hk => ih k hk, ?_⟩
    refine (T.nod n).imp_of_mem fun hk hk' hne x hx y hy e => ?_
    subst e
    exact hne (T.kids_disj hk hk' hx hy)
theorem TreeU.all_len {n : Int} (hn : InN ns n) : (allU ns n).length ≤ ns.length := nodup_len _ _ (T.all_nodup n hn) fun x hx => (T.all_in n hn x hx).1
theorem TreeU.root_way : ∀ n, InN ns n → topN ns n ∈ wayU ns n ∧ upI ns (topN ns n) = -1 := T.up_ind fun n hn ih => by
  rw [T.root_eq hn, T.wayU_eq hn]
  by_cases hp : upI ns n = -1
  · rw [if_pos hp, if_pos hp]; exact ⟨by simp, hp⟩
  · rw [if_neg hp, if_neg hp]; exact ⟨List.mem_cons_of_mem _ (ih hp).1, (ih hp).2⟩
theorem TreeU.root_in {n : Int} (hn : InN ns n) : InN ns (topN ns n) := T.wayU_in n hn _ (T.root_way n hn).1
theorem TreeU.root_same : ∀ x, InN ns x → ∀ y ∈ wayU ns x, topN ns x = topN ns y := T.up_ind fun x hx ih y hy => by
  rw [T.wayU_eq hx] at hy
  rcases List.mem_cons.1 hy with rfl | hy
  · rfl
  · split at hy
    · simp at hy
    · rename_i hp
      rw [T.root_eq hx, if_neg hp]
      exact ih hp y hy
theorem TreeU.root_top {n : Int} (hn : InN ns n) (hp : upI ns n = -1) : topN ns n = n := by rw [T.root_eq hn, if_pos hp]
theorem TreeU.root_root {n : Int} (hn : InN ns n) : topN ns (topN ns n) = topN ns n := T.root_top (T.root_in hn) (T.root_way n hn).2
theorem TreeU.root_all {n : Int} (hn : InN ns n) : n ∈ allU ns (topN ns n) := T.mem_all (T.root_in hn) n hn (T.root_way n hn).1
/-- A parent stands ahead of its child; between them stand others below it. -/
theorem TreeU.between : ∀ n, InN ns n → ∀ c ∈ allU ns n, c ≠ n → ∃ A B C, allU ns n = A ++ upI ns c :: (B ++ c :: C) ∧ ∀ b ∈ B, InN ns b ∧ upI ns c ∈ wayU ns b ∧ c ∉ wayU ns b := T.down_ind fun n hn ih c hc hne => by
  have e := T.all_eq hn
  rw [e] at hc
  obtain ⟨k, hk, hc⟩ := List.mem_flatMap.1 ((List.mem_cons.1 hc).resolve_left hne)
  obtain ⟨K1, K2, hK⟩ := List.append_of_mem hk
  rw [hK, List.flatMap_append, List.flatMap_cons] at e
  by_cases hck : c = k
  · subst hck
    have hkc := T.kid n c hk
    rw [T.all_eq hkc.2.1] at e
    rw [hkc.2.2]
    refine ⟨[], K1.flatMap (allU ns), (subI ns c).flatMap (allU ns) ++ K2.flatMap (allU ns), by rw [e]; simp, fun b hb => ?_⟩
    obtain ⟨k1, hk1, hb⟩ := List.mem_flatMap.1 hb
    have hk1' : k1 ∈ subI ns n := by rw [hK]; simp [hk1]
    have hb' := T.all_in k1 (T.kid n k1 hk1').2.1 b hb
    refine ⟨hb'.1, T.kid_way hb'.1 hk1' hb'.2, fun h => ?_⟩
    have hb2 := T.mem_all hkc.2.1 b hb'.1 h
    have he := T.kids_disj hk1' hk hb hb2
    subst he
    have hd := T.nod n
    rw [hK, List.nodup_append] at hd
    exact hd.2.2 k1 hk1 k1 (by simp) rfl
  · obtain ⟨A, B, C, e2, hB⟩ := ih k hk c hc hck
    rw [e2] at e
    exact ⟨n :: (K1.flatMap (allU ns) ++ A), B, C ++ K2.flatMap (allU ns), by rw [e]; simp, hB⟩
theorem TreeU.par_first {n c : Int} (hn : InN ns n) (hc : c ∈ allU ns n) (hne : c ≠ n) : (allU ns n).idxOf (upI ns c) < (allU ns n).idxOf c := by
  obtain ⟨A, B, C, e, _⟩ := T.between n hn c hc hne
  have hd := T.all_nodup n hn
  rw [e] at hd ⊢
  rw [idxOf_mid hd]
  have e2 : A ++ upI ns c :: (B ++ c :: C) = (A ++ upI ns c :: B) ++ c :: C := by simp
  rw [e2] at hd ⊢
  rw [idxOf_mid hd]
  simp
theorem TreeU.wayU_first {r : Int} (hr : InN ns r) : ∀ y, InN ns y → ∀ x ∈ wayU ns y, x ≠ y → x ∈ allU ns r → (allU ns r).idxOf x < (allU ns r).idxOf y := T.up_ind fun y hy ih x hx hne hxr => by
  have hxr' := T.all_in r hr x hxr
  have hyr : y ∈ allU ns r := T.mem_all hr y hy (T.wayU_trans hy hxr'.2 hx)
  have hyne : y ≠ r := fun e => by subst e; exact hne (T.wayU_anti hy hx hxr'.2)
  have hp := T.par_first hr hyr hyne
  rw [T.wayU_eq hy] at hx
  have hx := (List.mem_cons.1 hx).resolve_left hne
  split at hx
  · simp at hx
  · rename_i hpn
    by_cases he : x = upI ns y
    · rw [he]; exact hp
    · exact Nat.lt_trans (ih hpn x hx he hxr) hp
/-- What a node is over stands in one piece. -/
theorem TreeU.piece : ∀ n, InN ns n → ∀ c ∈ allU ns n, ∃ A B, allU ns n = A ++ (allU ns c ++ B) := T.down_ind fun n hn ih c hc => by
  by_cases hne : c = n
  · subst hne; exact ⟨[], [], by simp⟩
  have e := T.all_eq hn
  rw [e] at hc
  obtain ⟨k, hk, hc⟩ := List.mem_flatMap.1 ((List.mem_cons.1 hc).resolve_left hne)
  obtain ⟨K1, K2, hK⟩ := List.append_of_mem hk
  obtain ⟨A, B, e2⟩ := ih k hk c hc
  rw [hK, List.flatMap_append, List.flatMap_cons, e2] at e
  exact ⟨n :: (K1.flatMap (allU ns) ++ A), B ++ K2.flatMap (allU ns), by rw [e]; simp⟩
end
theorem flatMap_sub {f g : Int → List Int} : ∀ (l : List Int), (∀ x ∈ l, (f x).Sublist (g x)) → (l.flatMap f).Sublist (l.flatMap g)
  | [], _ => by simp
  | x :: l, h => by
    rw [List.flatMap_cons, List.flatMap_cons]
    exact (h x (by simp)).append (flatMap_sub l fun y hy => h y (by simp [hy]))
/-- Tree order stands in full order. -/
theorem tree_in_full {ns : List Node} (T : Tree ns) (U : TreeU ns) : ∀ n, InN ns n → (allN ns n).Sublist (allU ns n) := T.down_ind fun n hn ih => by
  obtain ⟨x, hx⟩ := idx_some hn
  rw [T.all_eq hn, U.all_eq hn, kids_at hx, sub_at hx, List.flatMap_append]
  refine List.Sublist.cons_cons n ?_
  exact (flatMap_sub x.Kids fun k hk => ih k (by rw [kids_at hx]; exact hk)).trans (List.sublist_append_right _ _)
theorem sub_order {o l : List Int} (h : o.Sublist l) (hl : l.Nodup) : o.Pairwise fun a b => l.idxOf a < l.idxOf b := by
  refine List.Pairwise.sublist h ?_
  rw [List.pairwise_iff_getElem]
  intro i j hi hj hij
  rw [hl.idxOf_getElem i hi, hl.idxOf_getElem j hj]
  exact hij
theorem right_full {f : Forest} (hr : frightB f = true) : TreeU f.Nodes := by
  obtain ⟨_, _, h1, h2⟩ := right_parts hr
  exact treeU_of h1 h2
end Go.Proofs.Ytcaepigodglihaa
