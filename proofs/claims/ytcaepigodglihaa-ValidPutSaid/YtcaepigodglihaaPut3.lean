/- What is put by hand where it may be leaves a forest that is right. -/
import Derived.Test.YtcaepigodglihaaPut2
import Derived.Test.YtcaepigodglihaaCli1
namespace Go.Proofs.Ytcaepigodglihaa
open Go Go.Pw

def dB (f : Forest) (L : List Int) (j : Int) : Bool := L.any fun c => (allU f.Nodes c).contains j
section
variable {f g : Forest} {n p : Int} {x y : Node} {K : List Int} (hr : frightB f = true) (M : May f n p x y) (H : At f.Nodes g.Nodes (finN f (partsL n x) p y.Doc K (partsL n x))) (hK : K.Perm (y.Kids.filter (fun k => !((partsL n x).contains k)) ++ partsL n x)) (hm : g.Most = f.Most)
include hr M
theorem dB_iff {j : Int} (hj : InN f.Nodes j) : dB f (partsL n x) j = true ↔ ∃ c ∈ partsL n x, c ∈ wayU f.Nodes j := by
  have U := right_full hr
  unfold dB
  rw [List.any_eq_true]
  refine exists_congr fun c => and_congr_right fun hc => ?_
  have hci := May.in_ hr M hc
  rw [List.contains_iff_mem]
  exact ⟨fun h => (U.all_in c hci j h).2, fun h => U.mem_all hci j hj h⟩
theorem dB_part {j : Int} (hj : j ∈ partsL n x) : dB f (partsL n x) j = true := (dB_iff hr M (May.in_ hr M hj)).2 ⟨j, hj, (right_full hr).wayU_self (May.in_ hr M hj)⟩
theorem dB_up {j q : Int} (hj : InN f.Nodes j) (hL : j ∉ partsL n x) (hu : upI f.Nodes j = q) (hq : q ≠ -1) : dB f (partsL n x) j = dB f (partsL n x) q := by
  have U := right_full hr
  have hqi : InN f.Nodes q := by have := (U.par j hj (by rw [hu]; exact hq)).1; rwa [hu] at this
  rw [Bool.eq_iff_iff, dB_iff hr M hj, dB_iff hr M hqi, U.wayU_eq hj, hu, if_neg hq]
  refine exists_congr fun c => and_congr_right fun hc => ?_
  exact ⟨fun h => (List.mem_cons.1 h).resolve_left fun e => hL (e ▸ hc), List.mem_cons_of_mem _⟩
theorem dB_top {j : Int} (hj : InN f.Nodes j) (hL : j ∉ partsL n x) (hu : upI f.Nodes j = -1) : dB f (partsL n x) j = false := by
  have U := right_full hr
  cases h : dB f (partsL n x) j with
  | false => rfl
  | true =>
    obtain ⟨c, hc, hw⟩ := (dB_iff hr M hj).1 h
    rw [U.wayU_eq hj, if_pos hu, List.mem_singleton] at hw
    exact absurd (hw ▸ hc) hL
theorem dB_p : dB f (partsL n x) p = false := by
  cases h : dB f (partsL n x) p with
  | false => rfl
  | true =>
    obtain ⟨c, hc, hw⟩ := (dB_iff hr M (idx_range M.hy)).1 h
    exact absurd hw (May.free hr M hc)
include H
omit hr M in
/-- What a node is then. -/
theorem fin_at {j : Int} {w : Node} (hw : idx f.Nodes j = some w) : ∃ v, idx g.Nodes j = some v ∧ v.Kind = w.Kind ∧ v.Host = w.Host ∧ v.Under = w.Under ∧ namedB v = namedB w ∧ v.Parent = (if j ∈ partsL n x then p else w.Parent) ∧ v.Kids = (if j = p then K else w.Kids.filter (fun k => !((partsL n x).contains k))) ∧ v.Doc = (if dB f (partsL n x) j = true then y.Doc else w.Doc) := by
  refine ⟨_, H.at_ j w hw, rfl, rfl, rfl, rfl, ?_, rfl, rfl⟩
  simp only [finN]
  by_cases h : j ∈ partsL n x
  · rw [if_pos h, if_pos (List.contains_iff_mem.2 h)]
  · rw [if_neg h, if_neg fun h' => h (List.contains_iff_mem.1 h'), if_neg fun h' => h (List.contains_iff_mem.1 h')]
omit hr M in
theorem fin_isB {j k : Int} : isB g.Nodes j k = isB f.Nodes j k := by
  cases hw : idx f.Nodes j with
  | none =>
    have : idx g.Nodes j = none := by
      by_cases h : 0 ≤ j ∧ j < g.Nodes.length
      · rw [H.len] at h
        obtain ⟨w, hw'⟩ := idx_some h
        rw [hw] at hw'; cases hw'
      · exact idx_none h
    unfold isB; rw [this, hw]
  | some w =>
    obtain ⟨v, g1, g2, _⟩ := fin_at H hw
    unfold isB; rw [g1, hw]; simp only [g2]
omit hr in
theorem fin_up {j : Int} (hj : InN f.Nodes j) : upI g.Nodes j = if j ∈ partsL n x then p else upI f.Nodes j := by
  obtain ⟨w, hw⟩ := idx_some hj
  obtain ⟨v, g1, _, g3, _, _, g6, _⟩ := fin_at H hw
  rw [upI_at g1, upI_at hw, g3, g6]
  by_cases h : j ∈ partsL n x
  · rw [if_pos h, if_pos h, if_neg (InN.ne (idx_range M.hy))]
  · rw [if_neg h, if_neg h]
include hK
omit hr M H in
theorem K_mem {k : Int} : k ∈ K ↔ (k ∈ y.Kids ∧ k ∉ partsL n x) ∨ k ∈ partsL n x := by
  rw [hK.mem_iff, List.mem_append, List.mem_filter]
  refine or_congr (and_congr_right fun _ => ?_) Iff.rfl
  cases h : (partsL n x).contains k with
  | true => simp [List.contains_iff_mem.1 h]
  | false =>
    have : k ∉ partsL n x := fun h' => by rw [List.contains_iff_mem.2 h'] at h; cases h
    simp [this]
omit hr M hK in
theorem fin_doc {j k : Int} {w u v z : Node} (hw : idx f.Nodes j = some w) (hu : idx f.Nodes k = some u) (hv : idx g.Nodes j = some v) (hz : idx g.Nodes k = some z) (hd : dB f (partsL n x) k = dB f (partsL n x) j) (h : u.Doc = w.Doc) : z.Doc = v.Doc := by
  obtain ⟨v', g1, _, _, _, _, _, _, g8⟩ := fin_at H hw
  obtain ⟨z', q1, _, _, _, _, _, _, q8⟩ := fin_at H hu
  rw [hv] at g1; rw [hz] at q1
  obtain rfl := Option.some.inj g1
  obtain rfl := Option.some.inj q1
  rw [g8, q8, hd, h]
theorem fin_node {j : Int} {w v : Node} (hw : idx f.Nodes j = some w) (hv : idx g.Nodes j = some v) : nodeB g.Nodes j v = true := by
  have T := right_tree hr
  have hns := (right_parts hr).2.2.1
  have hji : InN f.Nodes j := idx_range hw
  have hpi : InN f.Nodes p := idx_range M.hy
  obtain ⟨v', g1, g2, g3, g4, g5, g6, g7, g8⟩ := fin_at H hw
  rw [hv] at g1
  obtain rfl := Option.some.inj g1
  have hwn := nodes_at hns hw
  have hyn := nodes_at hns M.hy
  unfold nodeB at hwn hyn
  simp only [Bool.and_eq_true] at hwn hyn
  obtain ⟨n1, n2, n3, n4, n5, n6⟩ := hwn
  obtain ⟨y1, y2, y3, y4, y5, y6⟩ := hyn
  have hpd : ∀ vp, idx g.Nodes p = some vp → vp.Doc = y.Doc := fun vp hvp => by
    obtain ⟨v'', q1, _, _, _, _, _, _, q8⟩ := fin_at H M.hy
    rw [hvp] at q1
    obtain rfl := Option.some.inj q1
    rw [q8, dB_p hr M]; rfl
  have hbears := n4
  unfold bearsB at n4
  simp only [Bool.and_eq_true, decide_eq_true_eq, List.all_eq_true] at n4
  obtain ⟨b1, b2, b3, b4⟩ := n4
  have oldkid : ∀ k ∈ w.Kids, k ∉ partsL n x → kidB g.Nodes j v k = true := fun k hk hkL => by
    have hkb := b2 k hk
    unfold kidB at hkb ⊢
    cases hu : idx f.Nodes k with
    | none => rw [hu] at hkb; cases hkb
    | some u =>
      rw [hu] at hkb
      obtain ⟨z, q1, q2, _, _, _, q6, _⟩ := fin_at H hu
      rw [q1]
      simp only [Bool.and_eq_true, Bool.or_eq_true, beq_iff_eq, bne_iff_ne] at hkb ⊢
      have hup : upI f.Nodes k = j := by rw [upI_at hu, hkb.1, if_neg hji.ne]
      refine ⟨by rw [q6, if_neg hkL]; exact hkb.1, fin_doc H hw hu hv q1 (dB_up hr M (idx_range hu) hkL hup hji.ne) hkb.2.1, ?_⟩
      rw [q2, g2]; exact hkb.2.2
  unfold nodeB
  simp only [Bool.and_eq_true]
  refine ⟨by rw [g5]; exact n1, ?_, ?_, ?_, ?_, ?_⟩
  · unfold ownedB at n2 y2 ⊢
    rw [fin_isB H, g2, g8]
    simp only [Bool.and_eq_true, Bool.or_eq_true, bne_iff_ne, beq_iff_eq] at n2 y2 ⊢
    by_cases h0 : w.Kind = 0
    · have hL : j ∉ partsL n x := fun h => by
        obtain ⟨z, hz, hk, _⟩ := May.part hr M h
        rw [hw] at hz
        obtain rfl := Option.some.inj hz
        omega
      have hup : upI f.Nodes j = -1 := by
        have hpar : w.Parent = -1 := by
          unfold hungB at n3
          simp only [Bool.and_eq_true, Bool.or_eq_true, beq_iff_eq] at n3
          rcases n3 with h | ⟨h | h, _⟩
          · exact h
          · omega
          · omega
        rw [upI_at hw, if_pos hpar]
        unfold hostB at n5
        rw [if_neg (by omega)] at n5
        exact beq_iff_eq.1 n5
      rw [dB_top hr M hji hL hup]
      exact n2
    · refine ⟨?_, .inl h0⟩
      split
      · exact y2.1
      · exact n2.1
  · unfold hungB at n3 ⊢
    rw [g2, g6]
    by_cases hL : j ∈ partsL n x
    · rw [if_pos hL]
      obtain ⟨z, hz, hk, _⟩ := May.part hr M hL
      rw [hw] at hz
      obtain rfl := Option.some.inj hz
      obtain ⟨vp, q1, q2, _, _, _, _, q7, _⟩ := fin_at H M.hy
      rw [q1]
      simp only [q2, q7, Bool.or_eq_true, Bool.and_eq_true, beq_iff_eq]
      exact .inr ⟨hk, M.holder, List.contains_iff_mem.2 ((K_mem hK).2 (.inr hL))⟩
    · rw [if_neg hL]
      simp only [Bool.or_eq_true, Bool.and_eq_true] at n3 ⊢
      refine n3.imp id fun ⟨k1, k2⟩ => ⟨k1, ?_⟩
      cases hp : idx f.Nodes w.Parent with
      | none => rw [hp] at k2; cases k2
      | some q =>
        rw [hp] at k2
        obtain ⟨q', q1, q2, _, _, _, _, q7, _⟩ := fin_at H hp
        rw [q1]
        simp only [q2, q7]
        simp only [Bool.and_eq_true] at k2 ⊢
        refine ⟨k2.1, ?_⟩
        have hjq := List.contains_iff_mem.1 k2.2
        split
        · rename_i hpp
          rw [hpp, M.hy] at hp
          obtain rfl := Option.some.inj hp
          exact List.contains_iff_mem.2 ((K_mem hK).2 (.inl ⟨hjq, hL⟩))
        · rw [List.contains_iff_mem, List.mem_filter]
          refine ⟨hjq, ?_⟩
          cases h : (partsL n x).contains j with
          | false => rfl
          | true => exact absurd (List.contains_iff_mem.1 h) hL
  · unfold bearsB
    simp only [Bool.and_eq_true, decide_eq_true_eq, List.all_eq_true]
    rw [g2]
    by_cases hjp : j = p
    · subst hjp
      rw [M.hy] at hw
      obtain rfl := Option.some.inj hw
      rw [if_pos rfl] at g7
      have hcr : y.Kind = 0 → elemsOf f.Nodes (partsL n x) = 0 ∧ manyN f.Nodes (-1) (partsL n x) 2 = 0 ∨ elemsOf f.Nodes (partsL n x) + elemsOf f.Nodes y.Kids ≤ 1 ∧ manyN f.Nodes (-1) (partsL n x) 2 = 0 := fun h0 => by
        have hc := M.crowd h0
        have me : ∀ l, manyN f.Nodes (-1) l 1 = elemsOf f.Nodes l := fun l => by
          unfold manyN elemsOf
          refine List.countP_congr fun k _ => ?_
          simp only [Bool.and_eq_true, bne_iff_ne]
          exact ⟨And.right, fun h => ⟨isB_pos h, h⟩⟩
        unfold crowdB at hc
        rw [M.hy] at hc
        simp only [me] at hc
        simp only [Bool.or_eq_false_iff, Bool.and_eq_false_iff, decide_eq_false_iff_not] at hc
        rcases hc.2 with h | h
        · exact .inl ⟨by omega, by omega⟩
        · exact .inr ⟨by omega, by omega⟩
      refine ⟨?_, fun k hk => ?_, by rw [M.holder]; rfl, ?_⟩
      · rw [g7, hK.nodup_iff, List.nodup_append]
        refine ⟨b1.sublist List.filter_sublist, May.nodup hr M, fun a ha b hb e => ?_⟩
        subst e
        rw [List.mem_filter] at ha
        rw [List.contains_iff_mem.2 hb] at ha
        cases ha.2
      · rw [g7, K_mem hK] at hk
        rcases hk with ⟨h1, h2⟩ | hkL
        · exact oldkid k h1 h2
        · obtain ⟨u, hu, huk, _⟩ := May.part hr M hkL
          obtain ⟨z, q1, q2, _, _, _, q6, _, q8⟩ := fin_at H hu
          unfold kidB
          rw [q1]
          simp only [Bool.and_eq_true, Bool.or_eq_true, beq_iff_eq, bne_iff_ne]
          refine ⟨by rw [q6, if_pos hkL], by rw [q8, dB_part hr M hkL, if_pos rfl, hpd v hv], ?_⟩
          rw [q2, g2]
          by_cases h0 : y.Kind = 0
          · refine .inl (huk.resolve_right fun h2 => ?_)
            have hz2 : manyN f.Nodes (-1) (partsL n x) 2 = 0 := (hcr h0).elim And.right And.right
            unfold manyN at hz2
            rw [List.countP_eq_zero] at hz2
            refine hz2 k hkL ?_
            have hb : isB f.Nodes k 2 = true := by unfold isB; rw [hu]; exact beq_iff_eq.2 h2
            rw [hb, Bool.and_true]
            exact bne_iff_ne.2 (isB_pos hb)
          · exact huk.imp id fun h => ⟨h, h0⟩
      · rw [Bool.or_eq_true]
        by_cases h0 : y.Kind = 0
        · right
          have e : elemsOf g.Nodes v.Kids = elemsOf f.Nodes (y.Kids.filter (fun k => !((partsL n x).contains k))) + elemsOf f.Nodes (partsL n x) := by
            unfold elemsOf
            rw [g7, hK.countP_eq, List.countP_append]
            exact congr (congrArg _ (List.countP_congr fun k _ => by rw [fin_isB H])) (List.countP_congr fun k _ => by rw [fin_isB H])
          have hle : elemsOf f.Nodes (y.Kids.filter (fun k => !((partsL n x).contains k))) ≤ elemsOf f.Nodes y.Kids := List.filter_sublist.countP_le
          have h4 : elemsOf f.Nodes y.Kids ≤ 1 := by
            simp only [Bool.or_eq_true, decide_eq_true_eq] at b4
            exact b4.resolve_left (by simp [h0])
          refine decide_eq_true ?_
          rw [e]
          rcases hcr h0 with h | h
          · omega
          · omega
        · left; exact bne_iff_ne.2 h0
    · rw [if_neg hjp] at g7
      have hsubl : v.Kids.Sublist w.Kids := by rw [g7]; exact List.filter_sublist
      refine ⟨b1.sublist hsubl, fun k hk => ?_, ?_, ?_⟩
      · rw [g7, List.mem_filter] at hk
        exact oldkid k hk.1 fun h => by rw [List.contains_iff_mem.2 h] at hk; cases hk.2
      · simp only [Bool.or_eq_true, decide_eq_true_eq] at b3 ⊢
        refine b3.imp id fun h => ?_
        have := hsubl.length_le
        omega
      · simp only [Bool.or_eq_true, decide_eq_true_eq] at b4 ⊢
        refine b4.imp id fun h => ?_
        have e : elemsOf g.Nodes v.Kids = elemsOf f.Nodes v.Kids := by
          unfold elemsOf
          exact List.countP_congr fun k _ => by rw [fin_isB H]
        have := hsubl.countP_le (p := fun k => isB f.Nodes k 1)
        rw [e]
        unfold elemsOf at h ⊢
        omega
  · unfold hostB at n5 ⊢
    rw [g2, g3]
    by_cases hk : w.Kind = 4
    · rw [if_pos hk] at n5 ⊢
      cases hh : idx f.Nodes w.Host with
      | none => rw [hh] at n5; cases n5
      | some h =>
        rw [hh] at n5
        obtain ⟨u', q1, q2, _, q4, _⟩ := fin_at H hh
        rw [q1]
        simp only [Bool.and_eq_true, beq_iff_eq] at n5 ⊢
        have hL : j ∉ partsL n x := fun h => by
          obtain ⟨z, hz, hk', _⟩ := May.part hr M h
          rw [hw] at hz
          obtain rfl := Option.some.inj hz
          omega
        have hpar : w.Parent = -1 := by
          unfold hungB at n3
          simp only [Bool.and_eq_true, Bool.or_eq_true, beq_iff_eq] at n3
          rcases n3 with h | ⟨h | h, _⟩
          · exact h
          · omega
          · omega
        have hhi : InN f.Nodes w.Host := idx_range hh
        have hup : upI f.Nodes j = w.Host := by rw [upI_at hw, if_pos hpar]
        exact ⟨by rw [q2]; exact n5.1, by rw [q4]; exact n5.2.1, fin_doc H hw hh hv q1 (dB_up hr M hji hL hup hhi.ne).symm n5.2.2⟩
    · rw [if_neg hk] at n5 ⊢; exact n5
  · unfold underB at n6 ⊢
    rw [g2, g4]
    simp only [Bool.or_eq_true, Bool.and_eq_true] at n6 ⊢
    refine n6.imp id fun ⟨k1, k2⟩ => ⟨k1, ?_⟩
    cases hh : idx f.Nodes w.Under with
    | none => rw [hh] at k2; cases k2
    | some h =>
      rw [hh] at k2
      obtain ⟨u', q1, q2, q3, _⟩ := fin_at H hh
      rw [q1]
      simp only [q2, q3]
      exact k2
include hm
theorem fin_right : frightB g = true := by
  have hlen := H.len
  have hnodes : nodesB g.Nodes = true := by
    rw [nodesB_iff]
    intro j v hv
    have hji : InN f.Nodes j := by have := idx_range hv; rw [hlen] at this; exact this
    obtain ⟨w, hw⟩ := idx_some hji
    exact fin_node hr M H hK hw hv
  have hups := nodes_ups hnodes
  have hparts := right_parts hr
  have hfu := nodes_ups hparts.2.2.1
  have hpi : InN f.Nodes p := idx_range M.hy
  -- whoever isn't below a part goes up as before
  have free : ∀ (k : Nat) (j : Int), InN f.Nodes j → dB f (partsL n x) j = false → climbB f.Nodes k j = true → climbB g.Nodes k j = true := by
    intro k
    induction k with
    | zero => intro j _ _ h; cases h
    | succ k ih =>
      intro j hj hd h
      have hL : j ∉ partsL n x := fun h' => by rw [dB_part hr M h'] at hd; cases hd
      rw [climbB, Bool.or_eq_true, beq_iff_eq] at h ⊢
      rw [fin_up M H hj, if_neg hL]
      rcases h with h | h
      · exact .inl h
      · by_cases hu : upI f.Nodes j = -1
        · exact .inl hu
        · exact .inr (ih _ ((right_full hr).par j hj hu).1 (by rw [← dB_up hr M hj hL rfl hu]; exact hd) h)
  have hp : climbB g.Nodes f.Nodes.length p = true := free _ p hpi (dB_p hr M) (ends_at hparts.2.2.2 hpi)
  have all : ∀ (k : Nat) (j : Int), InN f.Nodes j → climbB f.Nodes k j = true → climbB g.Nodes (k + f.Nodes.length) j = true := by
    intro k
    induction k with
    | zero => intro j _ h; cases h
    | succ k ih =>
      intro j hj h
      rw [climbB, Bool.or_eq_true, beq_iff_eq] at h
      rw [show k + 1 + f.Nodes.length = (k + f.Nodes.length) + 1 by omega, climbB, Bool.or_eq_true, beq_iff_eq, fin_up M H hj]
      by_cases hL : j ∈ partsL n x
      · rw [if_pos hL]
        exact .inr (climbB_le hp (by omega))
      · rw [if_neg hL]
        rcases h with h | h
        · exact .inl h
        · by_cases hu : upI f.Nodes j = -1
          · exact .inl hu
          · exact .inr (ih _ ((right_full hr).par j hj hu).1 h)
  have hends : endsB g.Nodes = true := by
    unfold endsB
    rw [List.all_eq_true]
    intro i hi
    have hi : i < g.Nodes.length := by simpa using hi
    have hin : InN f.Nodes (i : Int) := ⟨by omega, by rw [hlen] at hi; omega⟩
    exact climb_short hups ⟨by omega, by omega⟩ (all _ _ hin (ends_at hparts.2.2.2 hin))
  have hr' := hr
  unfold frightB at hr ⊢
  simp only [Bool.and_eq_true, decide_eq_true_eq] at hr ⊢
  rw [hm, hlen, fin_isB H]
  exact ⟨hr.1, hr.2.1, hr.2.2.1, hr.2.2.2.1, hr.2.2.2.2.1, hnodes, hends⟩
end
end Go.Proofs.Ytcaepigodglihaa
