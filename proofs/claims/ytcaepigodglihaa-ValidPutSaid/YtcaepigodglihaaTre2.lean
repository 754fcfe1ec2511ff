/- Trees: the list of all below a node, in order. -/
import Derived.Test.YtcaepigodglihaaTre1
namespace Go.Proofs.Ytcaepigodglihaa
open Go Go.Pw

theorem nodup_len : ∀ (N : Nat) (l : List Int), l.Nodup → (∀ x ∈ l, 0 ≤ x ∧ x < N) → l.length ≤ N
  | 0, l, _, h => by
    cases l with
    | nil => simp
    | cons x l => have := h x (by simp); omega
  | N + 1, l, hl, h => by
    have ih := nodup_len N (l.erase (N : Int)) (hl.erase _) fun x hx => by
      rw [hl.mem_erase_iff] at hx
      have := h x hx.2
      have := hx.1
      omega
    rw [List.length_erase] at ih
    split at ih <;> omega
theorem idxOf_mid {A C : List Int} {c : Int} (h : (A ++ c :: C).Nodup) : (A ++ c :: C).idxOf c = A.length := by
  have : c ∉ A := fun hc => by
    rw [List.nodup_append] at h
    exact h.2.2 c hc c (by simp) rfl
  rw [List.idxOf_append, if_neg this, List.idxOf_cons_self, Nat.zero_add]
section
variable {ns : List Node} (T : Tree ns)
include T
theorem Tree.kid_way {n k x : Int} (hx : InN ns x) (hk : k ∈ kidsI ns n) (h : k ∈ way ns x) : n ∈ way ns x :=
  T.way_trans hx (by rw [T.way_kid hk]; exact List.mem_cons_of_mem _ (T.way_self (T.kid n k hk).1)) h
theorem Tree.all_in : ∀ n, InN ns n → ∀ x ∈ allN ns n, InN ns x ∧ n ∈ way ns x := T.down_ind fun n hn ih x hx => by
  rw [T.all_eq hn] at hx
  rcases List.mem_cons.1 hx with rfl | hx
  · exact ⟨hn, T.way_self hn⟩
  · obtain ⟨k, hk, hx⟩ := List.mem_flatMap.1 hx
    obtain ⟨h1, h2⟩ := ih k hk x hx
    exact ⟨h1, T.kid_way h1 hk h2⟩
theorem Tree.all_self {n : Int} (hn : InN ns n) : n ∈ allN ns n := by rw [T.all_eq hn]; simp
theorem Tree.all_kid : ∀ n, InN ns n → ∀ y ∈ allN ns n, ∀ k ∈ kidsI ns y, k ∈ allN ns n := T.down_ind fun n hn ih y hy k hk => by
  rw [T.all_eq hn] at hy ⊢
  rcases List.mem_cons.1 hy with rfl | hy
  · exact List.mem_cons_of_mem _ (List.mem_flatMap.2 ⟨k, hk, T.all_self (T.kid _ k hk).2.1⟩)
  · obtain ⟨k', hk', hy⟩ := List.mem_flatMap.1 hy
    exact List.mem_cons_of_mem _ (List.mem_flatMap.2 ⟨k', hk', ih k' hk' y hy k hk⟩)
theorem Tree.mem_all {n : Int} (hn : InN ns n) : ∀ x, InN ns x → n ∈ way ns x → x ∈ allN ns n := T.up_ind fun x hx ih h => by
  have h' := h
  rw [T.way_eq hx] at h'
  rcases List.mem_cons.1 h' with rfl | h'
  · exact T.all_self hn
  · split at h'
    · simp at h'
    · rename_i hp
      exact T.all_kid n hn _ (ih hp h') x (T.par x hx hp).2
theorem Tree.kids_disj {n k k' x : Int} (hk : k ∈ kidsI ns n) (hk' : k' ∈ kidsI ns n) (h : x ∈ allN ns k) (h' : x ∈ allN ns k') : k = k' := by
  have h1 := T.all_in k (T.kid n k hk).2.1 x h
  have h2 := T.all_in k' (T.kid n k' hk').2.1 x h'
  exact T.way_same h1.1 h1.2 h2.2 (by rw [T.way_kid hk, T.way_kid hk']; simp)
theorem Tree.all_nodup : ∀ n, InN ns n → (allN ns n).Nodup := T.down_ind fun n hn ih => by
  rw [T.all_eq hn, List.nodup_cons]
  refine ⟨fun h => ?_, ?_⟩
  · obtain ⟨k, hk, h⟩ := List.mem_flatMap.1 h
    have h1 := (T.all_in k (T.kid n k hk).2.1 n h).2
    have h2 := T.way_suffix n hn k h1
    rw [T.way_kid hk] at h2
    have := h2.length_le
    simp at this
    omega
  · rw [List.Nodup, List.pairwise_flatMap]
    refine ⟨fun k hk => ih k hk, ?_⟩
    refine (T.nod n).imp_of_mem fun hk hk' hne x hx y hy e => ?_
    subst e
    exact hne (T.kids_disj hk hk' hx hy)
theorem Tree.all_len {n : Int} (hn : InN ns n) : (allN ns n).length ≤ ns.length := nodup_len _ _ (T.all_nodup n hn) fun x hx => (T.all_in n hn x hx).1
theorem Tree.root_way : ∀ n, InN ns n → rootN ns n ∈ way ns n ∧ parI ns (rootN ns n) = -1 := T.up_ind fun n hn ih => by
  rw [T.root_eq hn, T.way_eq hn]
  by_cases hp : parI ns n = -1
  · rw [if_pos hp, if_pos hp]; exact ⟨by simp, hp⟩
  · rw [if_neg hp, if_neg hp]; exact ⟨List.mem_cons_of_mem _ (ih hp).1, (ih hp).2⟩
theorem Tree.root_in {n : Int} (hn : InN ns n) : InN ns (rootN ns n) := T.way_in n hn _ (T.root_way n hn).1
theorem Tree.root_same : ∀ x, InN ns x → ∀ y ∈ way ns x, rootN ns x = rootN ns y := T.up_ind fun x hx ih y hy => by
  rw [T.way_eq hx] at hy
  rcases List.mem_cons.1 hy with rfl | hy
  · rfl
  · split at hy
    · simp at hy
    · rename_i hp
      rw [T.root_eq hx, if_neg hp]
      exact ih hp y hy
theorem Tree.root_top {n : Int} (hn : InN ns n) (hp : parI ns n = -1) : rootN ns n = n := by rw [T.root_eq hn, if_pos hp]
theorem Tree.root_root {n : Int} (hn : InN ns n) : rootN ns (rootN ns n) = rootN ns n := T.root_top (T.root_in hn) (T.root_way n hn).2
theorem Tree.root_all {n : Int} (hn : InN ns n) : n ∈ allN ns (rootN ns n) := T.mem_all (T.root_in hn) n hn (T.root_way n hn).1
/-- A parent stands ahead of its child; between them stand others below it. -/
theorem Tree.between : ∀ n, InN ns n → ∀ c ∈ allN ns n, c ≠ n → ∃ A B C, allN ns n = A ++ parI ns c :: (B ++ c :: C) ∧ ∀ b ∈ B, InN ns b ∧ parI ns c ∈ way ns b ∧ c ∉ way ns b := T.down_ind fun n hn ih c hc hne => by
  have e := T.all_eq hn
  rw [e] at hc
  obtain ⟨k, hk, hc⟩ := List.mem_flatMap.1 ((List.mem_cons.1 hc).resolve_left hne)
  obtain ⟨K1, K2, hK⟩ := List.append_of_mem hk
  rw [hK, List.flatMap_append, List.flatMap_cons] at e
  by_cases hck : c = k
  · subst hck
    have hkc := T.kid n c hk
    rw [T.all_eq hkc.2.1] at e
    rw [hkc.2.2]
    refine ⟨[], K1.flatMap (allN ns), (kidsI ns c).flatMap (allN ns) ++ K2.flatMap (allN ns), by rw [e]; simp, fun b hb => ?_⟩
    obtain ⟨k1, hk1, hb⟩ := List.mem_flatMap.1 hb
    have hk1' : k1 ∈ kidsI ns n := by rw [hK]; simp [hk1]
    have hb' := T.all_in k1 (T.kid n k1 hk1').2.1 b hb
    refine ⟨hb'.1, T.kid_way hb'.1 hk1' hb'.2, fun h => ?_⟩
    have hb2 := T.mem_all hkc.2.1 b hb'.1 h
    have he := T.kids_disj hk1' hk hb hb2
    subst he
    have hd := T.nod n
    rw [hK, List.nodup_append] at hd
    exact hd.2.2 k1 hk1 k1 (by simp) rfl
  · obtain ⟨A, B, C, e2, hB⟩ := ih k hk c hc hck
    rw [e2] at e
    exact ⟨n :: (K1.flatMap (allN ns) ++ A), B, C ++ K2.flatMap (allN ns), by rw [e]; simp, hB⟩
theorem Tree.par_first {n c : Int} (hn : InN ns n) (hc : c ∈ allN ns n) (hne : c ≠ n) : (allN ns n).idxOf (parI ns c) < (allN ns n).idxOf c := by
  obtain ⟨A, B, C, e, _⟩ := T.between n hn c hc hne
  have hd := T.all_nodup n hn
  rw [e] at hd ⊢
  rw [idxOf_mid hd]
  have e2 : A ++ parI ns c :: (B ++ c :: C) = (A ++ parI ns c :: B) ++ c :: C := by simp
  rw [e2] at hd ⊢
  rw [idxOf_mid hd]
  simp
theorem Tree.way_first {r : Int} (hr : InN ns r) : ∀ y, InN ns y → ∀ x ∈ way ns y, x ≠ y → x ∈ allN ns r → (allN ns r).idxOf x < (allN ns r).idxOf y := T.up_ind fun y hy ih x hx hne hxr => by
  have hxr' := T.all_in r hr x hxr
  have hyr : y ∈ allN ns r := T.mem_all hr y hy (T.way_trans hy hxr'.2 hx)
  have hyne : y ≠ r := fun e => by subst e; exact hne (T.way_anti hy hx hxr'.2)
  have hp := T.par_first hr hyr hyne
  rw [T.way_eq hy] at hx
  have hx := (List.mem_cons.1 hx).resolve_left hne
  split at hx
  · simp at hx
  · rename_i hpn
    by_cases he : x = parI ns y
    · rw [he]; exact hp
    · exact Nat.lt_trans (ih hpn x hx he hxr) hp
end
end Go.Proofs.Ytcaepigodglihaa
