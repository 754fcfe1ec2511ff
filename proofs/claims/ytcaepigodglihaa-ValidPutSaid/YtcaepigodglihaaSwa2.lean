/- Who may be put in the place of a child, and in the forest that it leaves. -/
import Derived.Test.YtcaepigodglihaaSwa1
namespace Go.Proofs.Ytcaepigodglihaa
open Go Go.Pw

theorem isB_pos {ns : List Node} {j k : Int} (h : isB ns j k = true) : j ≠ -1 := fun e => by
  unfold isB at h
  rw [idx_none (by omega)] at h
  cases h
theorem many_le (ns : List Node) (g : Int) (l : List Int) (k : Int) : manyN ns g l k ≤ manyN ns (-1) l k := by
  unfold manyN
  refine List.countP_mono_left fun j _ hj => ?_
  simp only [Bool.and_eq_true, bne_iff_ne] at hj ⊢
  exact ⟨isB_pos hj.2, hj.2⟩
theorem crowd_le {ns : List Node} {p g : Int} {l : List Int} (h : crowdB ns p g l = true) : crowdB ns p (-1) l = true := by
  have m2 := many_le ns g l 2
  have m1 := many_le ns g l 1
  unfold crowdB at h ⊢
  simp only [Bool.or_eq_true, Bool.and_eq_true, decide_eq_true_eq] at h ⊢
  rcases h with h | ⟨h1, h2⟩
  · exact .inl (by omega)
  · refine .inr ⟨by omega, ?_⟩
    cases hp : idx ns p with
    | none => rw [hp] at h2; cases h2
    | some y =>
      rw [hp] at h2
      have m3 := many_le ns g y.Kids 1
      simp only [decide_eq_true_eq] at h2 ⊢
      omega
theorem tell_mono {f : Forest} {n p a b g : Int} {x y : Node} (h : tellI f n p a (-1) x y true = 0) : tellI f n p b g x y true = 0 := by
  unfold tellI at h ⊢
  generalize (if x.Kind = 3 then x.Kids else [n]) = L at h ⊢
  split at h
  · cases h
  · rename_i h1
    split at h
    · cases h
    · rename_i h2
      rw [if_neg (show ¬ true = false by simp)] at h
      split at h
      · cases h
      · rename_i h3
        rw [if_neg h1, if_neg h2, if_neg (show ¬ true = false by simp), if_neg h3]
        split at h
        · rename_i h4
          rw [if_pos h4]
          split at h
          · cases h
          · rename_i h5
            rw [if_neg fun h6 => h5 (crowd_le h6)]
        · rename_i h4
          rw [if_neg h4]
theorem over_same {f : Forest} {fu : Nat} (hs : Small f) (hfu : 1000 < fu) (hr : frightB f = true) {a b : Int} (ha : InN f.Nodes a) (hb : InN f.Nodes b) : overB f a b = overU f.Nodes a b :=
  Option.some.inj ((over_ok hfu (hs.fit hfu) hr (inB_of ha) (inB_of hb)).symm.trans (Over_ok hs hfu hr ha hb))
theorem swap_none {f : Forest} {fu : Nat} {n p : Int} {x y : Node} (hfu : 1000 < fu) (hk : KidsFit fu f.Nodes) (hr : frightB f = true) (hx : idx f.Nodes n = some x) (hy : idx f.Nodes p = some y) : ∃ r, Valid_Swap_m fu f n p (-1) = some r ∧ r ≠ 0 := by
  have hin : inB f n = true := inB_of (idx_range hx)
  have hip : inB f p = true := inB_of (idx_range hy)
  have ky : Valid_place_kind_m fu ⟨⟨f.Nodes, f.Most⟩, p, -1, -1⟩ p = some y.Kind := by unfold Valid_place_kind_m; rw [hy]; rfl
  have hl : ∃ b, Valid_place_late_m fu ⟨⟨f.Nodes, f.Most⟩, p, -1, -1⟩ n = some b := by
    unfold Valid_place_late_m
    rw [ky, bnd_some]
    cases y.Kind != 2 with
    | false => exact ⟨_, rfl⟩
    | true =>
      rw [cnd_true]
      exact ⟨_, by rw [over_ok hfu hk hr hin hip, bnd_some]⟩
  obtain ⟨b, hb⟩ := hl
  have ht := tell_ok (child := -1) (gone := -1) hfu hk hr hx hy (.inl rfl)
  revert ht
  generalize tellI f n p (-1) (-1) x y _ = T
  intro ht
  unfold Valid_Swap_m Valid_Swap_j1
  rw [vthere_ok hfu hk hr (by simp), bnd_some, ht, bnd_some, hb, bnd_some]
  simp only [List.all_cons, List.all_nil, hin, hip, Bool.and_self, Bool.not_true, cnd_false]
  rw [cnd_neg (by rfl), cnd_pos (by rfl), cnd_eq]
  split
  · exact ⟨6, rfl, by decide⟩
  · rename_i h
    cases b with
    | true => exact ⟨6, rfl, by decide⟩
    | false => exact ⟨_, rfl, h⟩
section
variable {f : Forest} {c p : Int} {z y : Node} (H : Hung f c p z y) (hr : frightB f = true)
include H
theorem out_small (hs : Small f) : Small (outF f c p z y) := by
  have key : ∀ w' ∈ (outF f c p z y).Nodes, w' ∈ f.Nodes ∨ w' = lessN y c ∨ w' = freeN' z := fun w' hw => by
    unfold outF at hw
    rcases List.mem_or_eq_of_mem_set hw with hw | hw
    · rcases List.mem_or_eq_of_mem_set hw with hw | hw
      · exact .inl hw
      · exact .inr (.inl hw)
    · exact .inr (.inr hw)
  have hzm := idx_mem H.hz
  have hym := idx_mem H.hy
  refine ⟨by rw [out_len]; exact hs.few, fun w hw => ?_, fun w hw => ?_, fun w hw => ?_⟩
  · rcases key w hw with h | rfl | rfl
    · exact hs.kids w h
    · exact Nat.le_trans (List.length_filter_le _ _) (hs.kids y hym)
    · exact hs.kids z hzm
  · rcases key w hw with h | rfl | rfl
    · exact hs.attrs w h
    · exact hs.attrs y hym
    · exact hs.attrs z hzm
  · rcases key w hw with h | rfl | rfl
    · exact hs.name w h
    · exact hs.name y hym
    · exact hs.name z hzm
theorem out_many {l : List Int} {k : Int} (hl : c ∉ l) : manyN (outF f c p z y).Nodes (-1) l k = manyN f.Nodes c l k := by
  unfold manyN
  refine List.countP_congr fun j hj => ?_
  have hjc : j ≠ c := fun e => hl (e ▸ hj)
  rw [out_isB H]
  simp only [Bool.and_eq_true, bne_iff_ne]
  exact ⟨fun h => ⟨hjc, h.2⟩, fun h => ⟨isB_pos h.2, h.2⟩⟩
theorem out_many2 {l : List Int} {k : Int} : manyN (outF f c p z y).Nodes (-1) (l.filter fun j => j != c) k = manyN f.Nodes c l k := by
  unfold manyN
  rw [List.countP_filter]
  refine List.countP_congr fun j hj => ?_
  rw [out_isB H]
  simp only [Bool.and_eq_true, bne_iff_ne]
  exact ⟨fun h => ⟨h.2, h.1.2⟩, fun h => ⟨⟨isB_pos h.2, h.2⟩, h.1⟩⟩
theorem out_crowd {l : List Int} (hl : c ∉ l) : crowdB (outF f c p z y).Nodes p (-1) l = crowdB f.Nodes p c l := by
  unfold crowdB
  rw [out_many H hl, out_many H hl, out_parent H, H.hy]
  simp only
  rw [show (lessN y c).Kids = y.Kids.filter (fun j => j != c) from rfl, out_many2 H]
include hr
theorem hung_holder : holderB y.Kind = true := by
  have hn := nodes_at (right_parts hr).2.2.1 H.hy
  unfold nodeB bearsB at hn
  simp only [Bool.and_eq_true, Bool.or_eq_true, decide_eq_true_eq] at hn
  rcases hn.2.2.2.1.2.2.1 with h | h
  · exact h
  · have := H.mem
    rw [List.eq_nil_of_length_eq_zero h] at this
    simp at this
theorem hung_not_over : overU f.Nodes c p = false := by
  have U := right_full hr
  have hp : InN f.Nodes p := idx_range H.hy
  have hc : InN f.Nodes c := idx_range H.hz
  cases h : overU f.Nodes c p with
  | false => rfl
  | true =>
    have h1 := overU_iff.1 h
    have h2 : p ∈ wayU f.Nodes c := by
      have hup : upI f.Nodes c = p := by rw [upI_at H.hz, H.par, if_neg hp.ne]
      rw [U.wayU_eq hc, hup, if_neg hp.ne]
      exact List.mem_cons_of_mem _ (U.wayU_self hp)
    exact absurd (U.wayU_anti hp h1 h2) H.ne
theorem swap_self {fu : Nat} (hs : Small f) (hfu : 1000 < fu) : tellI f c p c c z y true = 0 := by
  have hk := out_kind H hr
  have ho := over_same hs hfu hr (idx_range H.hz) (idx_range H.hy)
  rw [hung_not_over H hr] at ho
  have hc : crowdB f.Nodes p c (if z.Kind = 3 then z.Kids else [c]) = false := by
    rw [if_neg (by omega)]
    have hm : ∀ k, manyN f.Nodes c [c] k = 0 := fun k => by unfold manyN; simp
    unfold crowdB
    rw [hm, hm]; rfl
  unfold tellI
  rw [hung_holder H hr, ho, hc, if_neg (by simp), if_neg (by simp), if_neg (by simp), if_neg (by omega), if_neg (show ¬ false = true by simp)]
  split <;> rfl
theorem swap_other {fu : Nat} (hs : Small f) (hfu : 1000 < fu) {n : Int} {x : Node} (hx : idx f.Nodes n = some x) (hn : n ≠ c) (hov : overB f n p = false) : Valid_May_m fu (outF f c p z y) n p (-1) = some (tellI f n p c c x y true) := by
  have hg := out_right H hr
  have hsg := out_small H hs
  have T := right_tree hr
  have U := right_full hr
  have hni : InN f.Nodes n := idx_range hx
  have hpi : InN f.Nodes p := idx_range H.hy
  have hov' : overU f.Nodes n p = false := by rw [← over_same hs hfu hr hni hpi]; exact hov
  have hnp : n ≠ p := fun e => by
    subst e
    have := overU_iff.2 (U.wayU_self hni)
    rw [hov'] at this
    cases this
  have hx' : idx (outF f c p z y).Nodes n = some x := (out_other H hn hnp).trans hx
  have hlen := out_len f c p z y
  have hog : overB (outF f c p z y) n p = false := by
    rw [over_same hsg hfu hg (by unfold InN; rw [hlen]; exact hni) (by unfold InN; rw [hlen]; exact hpi), out_over H hr]; exact hov'
  have hcl : c ∉ (if x.Kind = 3 then x.Kids else [n]) := by
    split
    · intro hm
      have := (T.kid n c (by rw [kids_at hx]; exact hm)).2.2
      rw [par_at H.hz, H.par] at this
      exact hnp this.symm
    · intro hm
      exact hn (List.mem_singleton.1 hm).symm
  rw [may_ok hfu (hsg.fit hfu) hg hx' (out_parent H) (.inl rfl)]
  unfold tellI
  rw [hog, hov, out_crowd H hcl]
  rfl
end
end Go.Proofs.Ytcaepigodglihaa
