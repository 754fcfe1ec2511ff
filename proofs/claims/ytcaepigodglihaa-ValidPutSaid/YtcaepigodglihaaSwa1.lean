/- A node goes from its parent: the forest that is left. -/
import Derived.Test.YtcaepigodglihaaVal1
import Derived.Test.YtcaepigodglihaaSha2
namespace Go.Proofs.Ytcaepigodglihaa
open Go Go.Pw

theorem awake05 : Instarlaw05_awake_m 2000 = some true := by decide +kernel
theorem idx_seteq {α : Type} {l : List α} {n : Int} {v : α} (h : 0 ≤ n ∧ n < l.length) : idx (l.set n.toNat v) n = some v := by
  unfold idx
  rw [if_pos h.1, List.getElem?_set_self (by omega)]
theorem idx_setne {α : Type} {l : List α} {n i : Int} {v : α} (h : 0 ≤ n) (hi : i ≠ n) : idx (l.set n.toNat v) i = idx l i := by
  unfold idx
  by_cases h0 : 0 ≤ i
  · rw [if_pos h0, if_pos h0, List.getElem?_set_ne (by omega)]
  · rw [if_neg h0, if_neg h0]
def freeN' (z : Node) : Node := ⟨z.Kind, z.Name, z.Is, z.Data, z.Attrs, -1, z.Kids, z.Host, z.Under, z.Doc⟩
def lessN (y : Node) (c : Int) : Node := ⟨y.Kind, y.Name, y.Is, y.Data, y.Attrs, y.Parent, y.Kids.filter (fun k => k != c), y.Host, y.Under, y.Doc⟩
def outF (f : Forest) (c p : Int) (z y : Node) : Forest := ⟨(f.Nodes.set p.toNat (lessN y c)).set c.toNat (freeN' z), f.Most⟩
/-- A child and its parent. -/
structure Hung (f : Forest) (c p : Int) (z y : Node) : Prop where
  hz : idx f.Nodes c = some z
  hy : idx f.Nodes p = some y
  par : z.Parent = p
  mem : c ∈ y.Kids
  ne : c ≠ p
theorem hung_of {f : Forest} (hr : frightB f = true) {c p : Int} {y : Node} (hy : idx f.Nodes p = some y) (hc : c ∈ y.Kids) : ∃ z, Hung f c p z y := by
  have T := right_tree hr
  obtain ⟨h1, h2, h3⟩ := T.kid p c (by rw [kids_at hy]; exact hc)
  obtain ⟨z, hz⟩ := idx_some h2
  rw [par_at hz] at h3
  refine ⟨z, hz, hy, h3, hc, fun e => ?_⟩
  have hw := T.way_kid (n := p) (k := c) (by rw [kids_at hy]; exact hc)
  rw [e] at hw
  have := congrArg List.length hw
  simp at this
theorem out_ok {f : Forest} {fu : Nat} {c p : Int} {z y : Node} (H : Hung f c p z y) (hf : y.Kids.length < fu) (hb : y.Kids.length ≤ 1000000) : Instarlaw05_out_m fu f.Most c f.Nodes = some (outF f c p z y) := by
  have hyr := idx_range H.hy
  unfold Instarlaw05_out_m
  rw [H.hz, bnd_some, cnd_eq, H.par, if_neg (by omega)]
  have := upf (L := Instarlaw05_out_l1 f.Most c f.Nodes z) (f := fun i => ((i : Int), (y.Kids.take i).filter (fun k => k != c))) (v := some (outF f c p z y)) y.Kids.length (fun i hi k => ?_) (fun k => ?_) hf
  · simpa using this
  · have hlen : ((y.Kids.take i).filter (fun k => k != c)).length ≤ i := Nat.le_trans (List.length_filter_le _ _) (by simp; omega)
    have hrng : rng .i64 ((i : Int) + 1) = some ((i + 1 : Nat) : Int) := rng_nat (by omega)
    simp only [Instarlaw05_out_l1]
    rw [H.par, H.hy, bnd_some, cnd_pos (by simpa using hi), bnd_some, idx_lt hi, bnd_some, cnd_ne, hrng, bnd_some, List.take_succ_eq_append_getElem hi, List.filter_append]
    by_cases h : y.Kids[i] = c
    · rw [if_pos h]; simp [h]
    · rw [if_neg h, bnd_some, idx_lt hi, bnd_some, roomy_ok (by simp only [List.length_cons, List.length_nil]; omega), bnd_some, bnd_some]; simp [h]
  · simp only [Instarlaw05_out_l1]
    rw [H.par, H.hy, bnd_some, cnd_neg (by simp), bnd_some, List.take_length, idx_setne hyr.1 H.ne, H.hz, bnd_some]
    rfl
section
variable {f : Forest} {c p : Int} {z y : Node} (H : Hung f c p z y)
include H
omit H in
theorem out_len (f : Forest) (c p : Int) (z y : Node) : (outF f c p z y).Nodes.length = f.Nodes.length := by unfold outF; simp
theorem out_child : idx (outF f c p z y).Nodes c = some (freeN' z) := by
  have h := idx_range H.hz
  unfold outF
  simp only
  rw [idx_seteq (by simp; omega)]
theorem out_parent : idx (outF f c p z y).Nodes p = some (lessN y c) := by
  have h := idx_range H.hz
  have h2 := idx_range H.hy
  unfold outF
  simp only
  rw [idx_setne h.1 (Ne.symm H.ne), idx_seteq (by omega)]
theorem out_other {i : Int} (h1 : i ≠ c) (h2 : i ≠ p) : idx (outF f c p z y).Nodes i = idx f.Nodes i := by
  have h := idx_range H.hz
  have h3 := idx_range H.hy
  unfold outF
  simp only
  rw [idx_setne h.1 h1, idx_setne h3.1 h2]
/-- What a node is then. -/
theorem out_at {i : Int} {w : Node} (hw : idx f.Nodes i = some w) : ∃ w', idx (outF f c p z y).Nodes i = some w' ∧ w'.Kind = w.Kind ∧ w'.Doc = w.Doc ∧ w'.Host = w.Host ∧ w'.Under = w.Under ∧ w'.Parent = (if i = c then -1 else w.Parent) ∧ w'.Kids = (if i = p then w.Kids.filter (fun k => k != c) else w.Kids) ∧ namedB w' = namedB w := by
  by_cases h1 : i = c
  · subst h1
    have e := H.hz
    rw [hw] at e
    obtain rfl := Option.some.inj e
    exact ⟨_, out_child H, rfl, rfl, rfl, rfl, by rw [if_pos rfl]; rfl, by rw [if_neg H.ne]; rfl, rfl⟩
  · by_cases h2 : i = p
    · subst h2
      have e := H.hy
      rw [hw] at e
      obtain rfl := Option.some.inj e
      exact ⟨_, out_parent H, rfl, rfl, rfl, rfl, by rw [if_neg h1]; rfl, by rw [if_pos rfl]; rfl, rfl⟩
    · exact ⟨w, (out_other H h1 h2).trans hw, rfl, rfl, rfl, rfl, by rw [if_neg h1], by rw [if_neg h2], rfl⟩
theorem out_isB {i k : Int} : isB (outF f c p z y).Nodes i k = isB f.Nodes i k := by
  cases hw : idx f.Nodes i with
  | none =>
    have h1 : i ≠ c := fun e => by rw [e, H.hz] at hw; cases hw
    have h2 : i ≠ p := fun e => by rw [e, H.hy] at hw; cases hw
    unfold isB; rw [out_other H h1 h2]
  | some w =>
    obtain ⟨w', g1, g2, _⟩ := out_at H hw
    unfold isB; rw [g1, hw]; simp only [g2]
variable (hr : frightB f = true)
include hr
theorem out_kind : z.Kind = 1 ∨ z.Kind = 2 := by
  have hn := (right_parts hr).2.2.1
  have h3 := nodes_at hn H.hz
  unfold nodeB hungB at h3
  simp only [Bool.and_eq_true, Bool.or_eq_true, beq_iff_eq] at h3
  rcases h3.2.2.1 with h | h
  · have := idx_range H.hy
    have := H.par
    omega
  · exact h.1
theorem out_host : z.Host = -1 := by
  have hn := (right_parts hr).2.2.1
  by_cases h : z.Host = -1
  · exact h
  · obtain ⟨_, _, _, _, _, h4⟩ := host_at hn H.hz h
    have := out_kind H hr
    omega
theorem out_up {i : Int} (hi : InN f.Nodes i) : upI (outF f c p z y).Nodes i = if i = c then -1 else upI f.Nodes i := by
  obtain ⟨w, hw⟩ := idx_some hi
  obtain ⟨w', g1, _, _, g4, _, g6, _⟩ := out_at H hw
  rw [upI_at g1, upI_at hw, g4, g6]
  by_cases h : i = c
  · rw [if_pos h, if_pos h, if_pos rfl]
    subst h
    have e := H.hz
    rw [hw] at e
    obtain rfl := Option.some.inj e
    exact out_host H hr
  · rw [if_neg h, if_neg h]
theorem out_right : frightB (outF f c p z y) = true := by
  have T := right_tree hr
  have hlen := out_len f c p z y
  unfold frightB at hr ⊢
  simp only [Bool.and_eq_true, decide_eq_true_eq] at hr ⊢
  obtain ⟨h1, h2, h3, h4, h5, h6, h7⟩ := hr
  rw [hlen, out_isB H]
  refine ⟨h1, h2, h3, h4, h5, ?_, ?_⟩
  · rw [nodesB_iff]
    intro i w' hw'
    have hin : InN f.Nodes i := by
      have := idx_range hw'
      rw [hlen] at this
      exact this
    obtain ⟨w, hw⟩ := idx_some hin
    obtain ⟨v, g1, g2, g3, g4, g5, g6, g7, g8⟩ := out_at H hw
    rw [hw'] at g1
    obtain rfl := Option.some.inj g1
    have hwn := nodes_at h6 hw
    unfold nodeB at hwn
    simp only [Bool.and_eq_true] at hwn
    obtain ⟨n1, n2, n3, n4, n5, n6⟩ := hwn
    unfold nodeB
    simp only [Bool.and_eq_true]
    refine ⟨by rw [g8]; exact n1, ?_, ?_, ?_, ?_, ?_⟩
    · unfold ownedB at n2 ⊢
      rw [out_isB H, g2, g3]; exact n2
    · unfold hungB at n3 ⊢
      rw [g2, g6]
      by_cases hic : i = c
      · rw [if_pos hic]; rfl
      · rw [if_neg hic]
        simp only [Bool.or_eq_true, Bool.and_eq_true] at n3 ⊢
        refine n3.imp id fun ⟨k1, k2⟩ => ⟨k1, ?_⟩
        cases hp : idx f.Nodes w.Parent with
        | none => rw [hp] at k2; cases k2
        | some q =>
          rw [hp] at k2
          obtain ⟨q', q1, q2, _, _, _, _, q7, _⟩ := out_at H hp
          rw [q1]
          simp only [q2, q7]
          simp only [Bool.and_eq_true] at k2 ⊢
          refine ⟨k2.1, ?_⟩
          split
          · rw [List.contains_iff_mem, List.mem_filter]
            exact ⟨List.contains_iff_mem.1 k2.2, by simpa using hic⟩
          · exact k2.2
    · unfold bearsB at n4 ⊢
      simp only [Bool.and_eq_true, decide_eq_true_eq, List.all_eq_true] at n4 ⊢
      obtain ⟨b1, b2, b3, b4⟩ := n4
      have hsubl : w'.Kids.Sublist w.Kids := by
        rw [g7]; split
        · exact List.filter_sublist
        · exact List.Sublist.refl _
      refine ⟨b1.sublist hsubl, fun k hk => ?_, ?_, ?_⟩
      · have hkc : k ≠ c := fun e => by
          subst e
          have hkw := hsubl.subset hk
          have := (T.kid i k (by rw [kids_at hw]; exact hkw)).2.2
          rw [par_at H.hz, H.par] at this
          subst this
          rw [g7, if_pos rfl, List.mem_filter] at hk
          simp at hk
        have hb := b2 k (hsubl.subset hk)
        unfold kidB at hb ⊢
        cases hu : idx f.Nodes k with
        | none => rw [hu] at hb; cases hb
        | some u =>
          rw [hu] at hb
          obtain ⟨u', q1, q2, q3, _, _, q6, _⟩ := out_at H hu
          rw [q1]
          simp only [q2, q3, q6, if_neg hkc, g2, g3]
          exact hb
      · rw [g2]
        simp only [Bool.or_eq_true, decide_eq_true_eq] at b3 ⊢
        refine b3.imp id fun h => ?_
        have := hsubl.length_le
        omega
      · rw [g2]
        simp only [Bool.or_eq_true, decide_eq_true_eq] at b4 ⊢
        refine b4.imp id fun h => ?_
        have e : elemsOf (outF f c p z y).Nodes w'.Kids = elemsOf f.Nodes w'.Kids := by
          unfold elemsOf
          exact List.countP_congr fun k _ => by rw [out_isB H]
        have := hsubl.countP_le (p := fun k => isB f.Nodes k 1)
        rw [e]
        unfold elemsOf at h ⊢
        omega
    · unfold hostB at n5 ⊢
      rw [g2, g3, g4]
      by_cases hk : w.Kind = 4
      · rw [if_pos hk] at n5 ⊢
        cases hh : idx f.Nodes w.Host with
        | none => rw [hh] at n5; cases n5
        | some h =>
          rw [hh] at n5
          obtain ⟨u', q1, q2, q3, _, q5, _⟩ := out_at H hh
          rw [q1]
          simp only [q2, q3, q5]
          exact n5
      · rw [if_neg hk] at n5 ⊢; exact n5
    · unfold underB at n6 ⊢
      rw [g2, g5]
      simp only [Bool.or_eq_true, Bool.and_eq_true] at n6 ⊢
      refine n6.imp id fun ⟨k1, k2⟩ => ⟨k1, ?_⟩
      cases hh : idx f.Nodes w.Under with
      | none => rw [hh] at k2; cases k2
      | some h =>
        rw [hh] at k2
        obtain ⟨u', q1, q2, _, q4, _⟩ := out_at H hh
        rw [q1]
        simp only [q2, q4]
        exact k2
  · have hups := nodes_ups h6
    have hr' : frightB f = true := by
      unfold frightB
      simp only [Bool.and_eq_true, decide_eq_true_eq]
      exact ⟨h1, h2, h3, h4, h5, h6, h7⟩
    have climb : ∀ (k : Nat) (i : Int), InN f.Nodes i → climbB f.Nodes k i = true → climbB (outF f c p z y).Nodes k i = true := by
      intro k
      induction k with
      | zero => intro i _ h; cases h
      | succ k ih =>
        intro i hi h
        rw [climbB, Bool.or_eq_true, beq_iff_eq] at h ⊢
        rw [out_up H hr' hi]
        by_cases hc : i = c
        · rw [if_pos hc]; exact .inl rfl
        · rw [if_neg hc]
          rcases h with h | h
          · exact .inl h
          · obtain ⟨w, hw⟩ := idx_some hi
            rcases hups i w hw with h' | ⟨q, hq⟩
            · exact .inl h'
            · exact .inr (ih _ (idx_range hq) h)
    unfold endsB
    rw [List.all_eq_true]
    intro i hi
    rw [hlen] at hi ⊢
    have hi : i < f.Nodes.length := by simpa using hi
    have hin : InN f.Nodes (i : Int) := ⟨by omega, by omega⟩
    exact climb _ _ hin (ends_at h7 hin)
/-- Whoever has not the child above has the same way up. -/
theorem out_way : ∀ i, InN f.Nodes i → c ∉ wayU f.Nodes i → wayU (outF f c p z y).Nodes i = wayU f.Nodes i := (right_full hr).up_ind fun i hi ih hc => by
  have U := right_full hr
  have V := right_full (out_right H hr)
  have hlen := out_len f c p z y
  have hig : InN (outF f c p z y).Nodes i := by unfold InN; rw [hlen]; exact hi
  have e := U.wayU_eq hi
  rw [e] at hc
  have hne : i ≠ c := fun h => hc (by rw [h]; simp)
  rw [e, V.wayU_eq hig, out_up H hr hi, if_neg hne]
  by_cases h : upI f.Nodes i = -1
  · rw [if_pos h, if_pos h]
  · rw [if_neg h] at hc
    rw [if_neg h, if_neg h, ih h fun hm => hc (List.mem_cons_of_mem _ hm)]
theorem out_over {n : Int} : overU (outF f c p z y).Nodes n p = overU f.Nodes n p := by
  have U := right_full hr
  have hp : InN f.Nodes p := idx_range H.hy
  have hcp : InN f.Nodes c := idx_range H.hz
  have hnot : c ∉ wayU f.Nodes p := fun h => by
    have h2 : p ∈ wayU f.Nodes c := by
      have hup : upI f.Nodes c = p := by rw [upI_at H.hz, H.par, if_neg hp.ne]
      rw [U.wayU_eq hcp, hup, if_neg hp.ne]
      exact List.mem_cons_of_mem _ (U.wayU_self hp)
    exact H.ne (U.wayU_anti hp h h2)
  unfold overU
  rw [out_way H hr p hp hnot]
end
end Go.Proofs.Ytcaepigodglihaa
