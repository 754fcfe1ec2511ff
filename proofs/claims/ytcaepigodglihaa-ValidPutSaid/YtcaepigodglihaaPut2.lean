/- What is put by hand where it may be: its parts, its place, and the forest that comes of it. -/
import Derived.Test.YtcaepigodglihaaPut1
namespace Go.Proofs.Ytcaepigodglihaa
open Go Go.Pw

def partsL (n : Int) (x : Node) : List Int := if x.Kind = 3 then x.Kids else [n]
theorem tell_facts {f : Forest} {n p a g : Int} {x y : Node} (h : tellI f n p a g x y true = 0) : holderB y.Kind = true ∧ overB f n p = false ∧ x.Kind ≠ 0 ∧ x.Kind ≠ 4 ∧ (y.Kind = 0 → crowdB f.Nodes p g (partsL n x) = false) := by
  unfold tellI at h
  rw [show (if x.Kind = 3 then x.Kids else [n]) = partsL n x from rfl] at h
  generalize partsL n x = L at h ⊢
  split at h
  · cases h
  · rename_i h1
    split at h
    · cases h
    · rename_i h2
      rw [if_neg (show ¬ true = false by simp)] at h
      split at h
      · cases h
      · rename_i h3
        refine ⟨by simpa using h1, by simpa using h2, fun e => h3 (.inl e), fun e => h3 (.inr e), fun h0 => ?_⟩
        rw [if_pos h0] at h
        split at h
        · cases h
        · rename_i h5; simpa using h5
/-- What is known of a node that may be put somewhere. -/
structure May (f : Forest) (n p : Int) (x y : Node) : Prop where
  hx : idx f.Nodes n = some x
  hy : idx f.Nodes p = some y
  holder : holderB y.Kind = true
  over : overU f.Nodes n p = false
  k0 : x.Kind ≠ 0
  k4 : x.Kind ≠ 4
  crowd : y.Kind = 0 → crowdB f.Nodes p (-1) (partsL n x) = false
section
variable {f : Forest} {n p : Int} {x y : Node} (hr : frightB f = true) (M : May f n p x y)
include hr M
theorem May.np : n ≠ p := fun e => by
  have U := right_full hr
  have hn : InN f.Nodes n := idx_range M.hx
  have := M.over
  rw [← e, overU_iff.2 (U.wayU_self hn)] at this
  cases this
theorem May.part {c : Int} (hc : c ∈ partsL n x) : ∃ z, idx f.Nodes c = some z ∧ (z.Kind = 1 ∨ z.Kind = 2) ∧ n ∈ wayU f.Nodes c := by
  have U := right_full hr
  have hns := (right_parts hr).2.2.1
  have hn : InN f.Nodes n := idx_range M.hx
  unfold partsL at hc
  by_cases h3 : x.Kind = 3
  · rw [if_pos h3] at hc
    have hxn := nodes_at hns M.hx
    unfold nodeB bearsB at hxn
    simp only [Bool.and_eq_true, List.all_eq_true] at hxn
    have hk := hxn.2.2.2.1.2.1 c hc
    unfold kidB at hk
    have hsub : c ∈ subI f.Nodes n := by rw [sub_at M.hx]; exact List.mem_append.2 (.inr hc)
    cases hz : idx f.Nodes c with
    | none => rw [hz] at hk; cases hk
    | some z =>
      rw [hz] at hk
      simp only [Bool.and_eq_true, Bool.or_eq_true, beq_iff_eq] at hk
      refine ⟨z, rfl, hk.2.2.imp id And.left, ?_⟩
      rw [U.wayU_kid hsub]
      exact List.mem_cons_of_mem _ (U.wayU_self hn)
  · rw [if_neg h3, List.mem_singleton] at hc
    subst hc
    have hxn := nodes_at hns M.hx
    unfold nodeB at hxn
    simp only [Bool.and_eq_true] at hxn
    have := kind_of_named hxn.1
    have := M.k0
    have := M.k4
    exact ⟨x, M.hx, by omega, U.wayU_self hn⟩
theorem May.in_ {c : Int} (hc : c ∈ partsL n x) : InN f.Nodes c := by
  obtain ⟨z, hz, _⟩ := May.part hr M hc
  exact idx_range hz
theorem May.nodup : (partsL n x).Nodup := by
  unfold partsL
  split
  · have := (right_tree hr).nod n
    rwa [kids_at M.hx] at this
  · simp
theorem May.free {c : Int} (hc : c ∈ partsL n x) : c ∉ wayU f.Nodes p := fun h => by
  have U := right_full hr
  have hp : InN f.Nodes p := idx_range M.hy
  obtain ⟨z, hz, _, hw⟩ := May.part hr M hc
  have := overU_iff.2 (U.wayU_trans hp hw h)
  rw [M.over] at this
  cases this
omit hr in
theorem May.len (hs : Small f) : (partsL n x).length ≤ 60 := by
  unfold partsL
  split
  · exact hs.kids x (idx_mem M.hx)
  · simp
theorem May.p_out : p ∉ partsL n x := fun h => May.free hr M h ((right_full hr).wayU_self (idx_range M.hy))
theorem parts_ok {fu : Nat} (hs : Small f) (hfu : 1000 < fu) : Valid_Parts_m fu f n = some (partsL n x) := by
  have hl := hs.kids x (idx_mem M.hx)
  unfold Valid_Parts_m partsL
  rw [vthere_ok hfu (hs.fit hfu) hr (by simp), bnd_some]
  simp only [List.all_cons, List.all_nil, inB_of (show InN f.Nodes n from idx_range M.hx), Bool.and_self, Bool.not_true, cnd_false]
  rw [M.hx, bnd_some, cnd_eq, bnd_some]
  unfold Slices_Clone_int_m
  rw [roomy_ok (by simp; omega), bnd_some, bnd_some, List.nil_append]
  split <;> rfl
theorem before_ok {fu : Nat} {child : Int} (hs : Small f) (hfu : 1000 < fu) (hc : child = -1 ∨ child ∈ y.Kids) (hmay : Valid_May_m fu f n p child = some 0) : ∃ b, Valid_Before_m fu f n p child = some b ∧ (b = -1 ∨ (b ∈ y.Kids ∧ b ∉ partsL n x)) := by
  have hl := hs.kids y (idx_mem M.hy)
  have T := right_tree hr
  unfold Valid_Before_m
  rw [hmay, bnd_some, cnd_neg (by rfl), cnd_ne]
  by_cases hcn : child = n
  · rw [if_pos hcn]
    have hn : InN f.Nodes n := idx_range M.hx
    have hmem : n ∈ y.Kids := by
      rcases hc with h | h
      · rw [hcn] at h; exact absurd h hn.ne
      · rwa [hcn] at h
    obtain ⟨f1, f2⟩ := findI_at hmem
    have hpar := kid_par hr M.hy M.hx hmem
    have hk3 : x.Kind ≠ 3 := by
      have hxn := nodes_at (right_parts hr).2.2.1 M.hx
      unfold nodeB hungB at hxn
      simp only [Bool.and_eq_true, Bool.or_eq_true, beq_iff_eq] at hxn
      have := (idx_range M.hy).1
      rcases hxn.2.2.1 with h | h
      · omega
      · have := h.1; omega
    rw [M.hy, bnd_some, sIndex_ok (by omega) (by omega), bnd_some, f1, rng_nat (by omega), bnd_some, cnd_dec]
    by_cases he : ((y.Kids.idxOf n + 1 : Nat) : Int) ≥ ((y.Kids.length : Nat) : Int)
    · rw [if_pos he]; exact ⟨-1, rfl, .inl rfl⟩
    · have hi : y.Kids.idxOf n + 1 < y.Kids.length := by omega
      rw [if_neg he, idx_lt hi, bnd_some]
      refine ⟨_, rfl, .inr ⟨List.getElem_mem hi, fun h => ?_⟩⟩
      unfold partsL at h
      rw [if_neg hk3, List.mem_singleton] at h
      have hnd : y.Kids.Nodup := by have := T.nod p; rwa [kids_at M.hy] at this
      have := hnd.idxOf_getElem _ hi
      rw [h] at this
      omega
  · rw [if_neg hcn]
    refine ⟨child, rfl, hc.imp id fun h => ⟨h, fun h2 => ?_⟩⟩
    unfold partsL at h2
    split at h2
    · obtain ⟨z, hz⟩ := idx_some (T.kid p child (by rw [kids_at M.hy]; exact h)).2.1
      have e1 := kid_par hr M.hy hz h
      have e2 := kid_par hr M.hx hz h2
      exact May.np hr M (e2.symm.trans e1)
    · exact hcn (List.mem_singleton.1 h2)
theorem put_ok {fu : Nat} {child : Int} (hs : Small f) (hfu : 1000 < fu) (hc : child = -1 ∨ child ∈ y.Kids) (hmay : Valid_May_m fu f n p child = some 0) : ∃ g K, Instarlaw05_put_m fu f n p child = some ⟨g, f.Most⟩ ∧ At f.Nodes g (finN f (partsL n x) p y.Doc K (partsL n x)) ∧ K.Perm (y.Kids.filter (fun k => !((partsL n x).contains k)) ++ partsL n x) := by
  have hfew := hs.few
  have hlenL := May.len M hs
  have hL : ∀ c ∈ partsL n x, InN f.Nodes c := fun c hc => May.in_ hr M hc
  have hpi : InN f.Nodes p := idx_range M.hy
  obtain ⟨b, hb, hbk⟩ := before_ok hr M hs hfu hc hmay
  unfold Instarlaw05_put_m
  rw [hb, bnd_some, parts_ok hr M hs hfu, bnd_some, roomy_ok (by simp; omega), bnd_some, List.nil_append]
  obtain ⟨g1, H1, e1⟩ := put_l1 (fu := fu) (p := p) (r5 := b) hr hs hfu hL (May.nodup hr M) (by omega) (partsL n x).length 0 fu f.Nodes (by omega) (by omega) ⟨rfl, fun j w hw => by
    have hfl : w.Kids.filter (fun k => !(([] : List Int).contains k)) = w.Kids := List.filter_eq_self.2 fun _ _ => rfl
    rw [hw, List.take_zero]
    unfold outN
    rw [hfl]
    rfl⟩
  rw [show ((0 : Nat) : Int) = 0 from rfl] at e1
  rw [e1]
  have hyg := H1.at_ p y M.hy
  have hK' : (outN (partsL n x) p y).Kids = y.Kids.filter (fun k => !((partsL n x).contains k)) := rfl
  have hlK : (outN (partsL n x) p y).Kids.length ≤ 60 := Nat.le_trans (List.length_filter_le _ _) (hs.kids y (idx_mem M.hy))
  have j1 : ∀ a : Nat, a ≤ (outN (partsL n x) p y).Kids.length → ∃ g K, Instarlaw05_put_j1 fu f p (partsL n x) f.Most g1 (a : Int) = some ⟨g, f.Most⟩ ∧ At f.Nodes g (finN f (partsL n x) p y.Doc K (partsL n x)) ∧ K.Perm (y.Kids.filter (fun k => !((partsL n x).contains k)) ++ partsL n x) := fun a ha => by
    have p1 := piece_nat (s := (outN (partsL n x) p y).Kids) (i := 0) (j := a) (by omega) ha
    have p2 := piece_nat (s := (outN (partsL n x) p y).Kids) (i := a) (j := (outN (partsL n x) p y).Kids.length) ha (Nat.le_refl _)
    rw [show ((0 : Nat) : Int) = 0 from rfl, List.drop_zero, Nat.sub_zero] at p1
    rw [List.take_of_length_le (by simp)] at p2
    have l1 : ((outN (partsL n x) p y).Kids.take a).length ≤ 60 := by simp; omega
    have l2 : ((outN (partsL n x) p y).Kids.drop a).length ≤ 60 := by simp; omega
    unfold Instarlaw05_put_j1
    rw [hyg, bnd_some, p1, bnd_some, roomy_ok (by simp only [List.length_nil]; omega), bnd_some, roomy_ok (by simp only [List.length_append, List.length_nil]; omega), bnd_some, bnd_some, p2, bnd_some, roomy_ok (by simp only [List.length_append, List.length_nil]; omega), bnd_some, bnd_some, List.nil_append]
    obtain ⟨g2, H2, e2⟩ := put_l2 (K := (outN (partsL n x) p y).Kids.take a ++ partsL n x ++ (outN (partsL n x) p y).Kids.drop a) hs hfu hr M.hy hL (by omega) (partsL n x).length 0 fu _ (by omega) (by omega) ((H1.set hpi ⟨(outN (partsL n x) p y).Kind, (outN (partsL n x) p y).Name, (outN (partsL n x) p y).Is, (outN (partsL n x) p y).Data, (outN (partsL n x) p y).Attrs, (outN (partsL n x) p y).Parent, (outN (partsL n x) p y).Kids.take a ++ partsL n x ++ (outN (partsL n x) p y).Kids.drop a, (outN (partsL n x) p y).Host, (outN (partsL n x) p y).Under, (outN (partsL n x) p y).Doc⟩).congr fun j w hw => by
      by_cases hj : j = p
      · subst hj
        have := M.hy
        rw [hw] at this
        obtain rfl := Option.some.inj this
        simp [finN, outN]
      · simp [finN, outN, hj])
    rw [show ((0 : Nat) : Int) = 0 from rfl] at e2
    refine ⟨g2, _, e2, H2, ?_⟩
    rw [← hK', List.append_assoc]
    refine (List.Perm.append_left _ List.perm_append_comm).trans ?_
    rw [← List.append_assoc, List.take_append_drop]
  simp only [Instarlaw05_put_l1]
  rw [cnd_neg (by simp), hyg, bnd_some, find_ok (by omega) (by omega), bnd_some, cnd_eq, bnd_some]
  by_cases hb1 : b = -1
  · rw [if_pos hb1]
    exact j1 _ (Nat.le_refl _)
  · obtain ⟨hb2, hb3⟩ := hbk.resolve_left hb1
    have hmem : b ∈ (outN (partsL n x) p y).Kids := by
      rw [hK', List.mem_filter]
      refine ⟨hb2, ?_⟩
      cases h : (partsL n x).contains b with
      | false => rfl
      | true => exact absurd (List.contains_iff_mem.1 h) hb3
    obtain ⟨f1, f2⟩ := findI_at hmem
    rw [if_neg hb1, f1]
    exact j1 _ (by omega)
end
end Go.Proofs.Ytcaepigodglihaa
