/- A forest with a shadow more; the law ShadeAttached of layer 4 (shade). -/
import Derived.Test.YtcaepigodglihaaSha5
namespace Go.Proofs.Ytcaepigodglihaa
open Go Go.Pw

theorem idx_set_eq {α : Type} {l : List α} {n : Int} {v : α} (h : 0 ≤ n ∧ n < l.length) : idx (l.set n.toNat v) n = some v := by
  unfold idx
  rw [if_pos h.1, List.getElem?_set_self (by omega)]
theorem idx_set_ne {α : Type} {l : List α} {n i : Int} {v : α} (h : 0 ≤ n) (hi : i ≠ n) : idx (l.set n.toNat v) i = idx l i := by
  unfold idx
  by_cases h0 : 0 ≤ i
  · rw [if_pos h0, if_pos h0, List.getElem?_set_ne (by omega)]
  · rw [if_neg h0, if_neg h0]
/-- Nodes that stay, but for whose shadow they have. -/
def Stay (ns gs : List Node) : Prop := ∀ i y, idx ns i = some y → ∃ y', idx gs i = some y' ∧ y'.Kind = y.Kind ∧ y'.Kids = y.Kids ∧ y'.Parent = y.Parent ∧ y'.Doc = y.Doc ∧ y'.Host = y.Host
section
variable {ns gs : List Node} (hS : Stay ns gs)
include hS
theorem stay_isB {i k : Int} {y : Node} (h : idx ns i = some y) : isB gs i k = isB ns i k := by
  obtain ⟨y', h1, h2, _⟩ := hS i y h
  unfold isB; rw [h, h1]; simp only [h2]
theorem stay_isB' {i k : Int} (h : isB ns i k = true) : isB gs i k = true := by
  cases hx : idx ns i with
  | none => unfold isB at h; rw [hx] at h; cases h
  | some y => rw [stay_isB hS hx]; exact h
theorem stay_owned {n : Int} {x : Node} (h : ownedB ns n x = true) : ownedB gs n x = true := by
  unfold ownedB at h ⊢
  simp only [Bool.and_eq_true] at h ⊢
  exact ⟨stay_isB' hS h.1, h.2⟩
theorem stay_hung {n : Int} {x : Node} (h : hungB ns n x = true) : hungB gs n x = true := by
  unfold hungB at h ⊢
  simp only [Bool.or_eq_true, Bool.and_eq_true] at h ⊢
  refine h.imp id fun ⟨h7, h8⟩ => ⟨h7, ?_⟩
  cases hp : idx ns x.Parent with
  | none => rw [hp] at h8; cases h8
  | some p =>
    rw [hp] at h8
    obtain ⟨p', h1, h2, h3, _⟩ := hS _ p hp
    rw [h1]
    simp only [h2, h3]
    exact h8
theorem stay_kid {n k : Int} {x : Node} (h : kidB ns n x k = true) : kidB gs n x k = true := by
  unfold kidB at h ⊢
  cases hx : idx ns k with
  | none => rw [hx] at h; cases h
  | some y =>
    rw [hx] at h
    obtain ⟨y', h1, h2, _, h4, h5, _⟩ := hS _ y hx
    rw [h1]
    simp only [h2, h4, h5]
    exact h
theorem stay_bears {n : Int} {x : Node} (h : bearsB ns n x = true) : bearsB gs n x = true := by
  unfold bearsB at h ⊢
  simp only [Bool.and_eq_true, List.all_eq_true] at h ⊢
  obtain ⟨h7, h8, h9, h10⟩ := h
  refine ⟨h7, fun k hk => stay_kid hS (h8 k hk), h9, ?_⟩
  have e : elemsOf gs x.Kids = elemsOf ns x.Kids := by
    unfold elemsOf
    refine List.countP_congr fun k hk => ?_
    have := h8 k hk
    unfold kidB at this
    cases hy : idx ns k with
    | none => rw [hy] at this; cases this
    | some y => rw [stay_isB hS hy]
  rw [e]; exact h10
theorem stay_under {n : Int} {x : Node} (h : underB ns n x = true) : underB gs n x = true := by
  unfold underB at h ⊢
  simp only [Bool.or_eq_true, Bool.and_eq_true] at h ⊢
  refine h.imp id fun ⟨h7, h8⟩ => ⟨h7, ?_⟩
  cases hp : idx ns x.Under with
  | none => rw [hp] at h8; cases h8
  | some p =>
    rw [hp] at h8
    obtain ⟨p', h1, h2, _, _, _, h6⟩ := hS _ p hp
    rw [h1]
    simp only [h2, h6]
    exact h8
theorem stay_up {i : Int} (h : InN ns i) : upI gs i = upI ns i := by
  obtain ⟨y, hy⟩ := idx_some h
  obtain ⟨y', h1, _, _, h4, _, h6⟩ := hS _ y hy
  rw [upI_at hy, upI_at h1, h4, h6]
theorem stay_par {i : Int} (h : InN ns i) : parI gs i = parI ns i := by
  obtain ⟨y, hy⟩ := idx_some h
  obtain ⟨y', h1, _, _, h4, _⟩ := hS _ y hy
  rw [par_at hy, par_at h1, h4]
theorem stay_climb (hu : Ups ns) : ∀ (k : Nat) (n : Int), InN ns n → climbB ns k n = true → climbB gs k n = true
  | 0, _, _, h => by cases h
  | k + 1, n, hn, h => by
    simp only [climbB, Bool.or_eq_true, beq_iff_eq] at h ⊢
    rw [stay_up hS hn]
    rcases h with h | h
    · exact .inl h
    · obtain ⟨x, hx⟩ := idx_some hn
      rcases hu n x hx with h' | ⟨y, hy⟩
      · exact .inl h'
      · exact .inr (stay_climb hu k _ (idx_range hy) h)
end
section
variable {f : Forest} {n : Int} {x : Node} (hr : frightB f = true) (hx : idx f.Nodes n = some x) (hu : x.Under = -1)
include hr hx
omit hr hx in
theorem att_len (f : Forest) (n : Int) (x : Node) : (attachF f n x).Nodes.length = f.Nodes.length + 1 := by unfold attachF; simp
omit hr in
theorem att_new : idx (attachF f n x).Nodes ((f.Nodes.length : Nat) : Int) = some (shadeN n x) := by
  have h := idx_range hx
  unfold attachF
  simp only
  rw [idx_set_ne h.1 (by omega), idx_last]
omit hr in
theorem att_host : idx (attachF f n x).Nodes n = some (hostN f x) := by
  have h := idx_range hx
  unfold attachF
  simp only
  rw [idx_set_eq (by simp; omega)]
omit hr in
theorem att_old {i : Int} {y : Node} (hi : i ≠ n) (hy : idx f.Nodes i = some y) : idx (attachF f n x).Nodes i = some y := by
  have h := idx_range hx
  unfold attachF
  simp only
  rw [idx_set_ne h.1 hi, idx_app hy]
omit hr in
theorem att_stay : Stay f.Nodes (attachF f n x).Nodes := fun i y hy => by
  by_cases hi : i = n
  · subst hi
    rw [hx] at hy
    obtain rfl := Option.some.inj hy
    exact ⟨_, att_host hx, rfl, rfl, rfl, rfl, rfl⟩
  · exact ⟨y, att_old hx hi hy, rfl, rfl, rfl, rfl, rfl⟩
include hu in
theorem att_right (hb : attachB x = true) (hm : ((f.Nodes.length : Nat) : Int) ≠ f.Most) : frightB (attachF f n x) = true := by
  have hS := att_stay hx
  have hlen := att_len f n x
  have hrx := idx_range hx
  unfold attachB at hb
  simp only [Bool.and_eq_true, beq_iff_eq] at hb
  have hk1 := hb.1
  unfold frightB at hr ⊢
  simp only [Bool.and_eq_true, decide_eq_true_eq] at hr ⊢
  obtain ⟨h1, h2, h3, h4, h5, h6, h7⟩ := hr
  rw [hlen]
  refine ⟨h1, h2, by omega, by show ((f.Nodes.length + 1 : Nat) : Int) ≤ f.Most; omega, stay_isB' hS h5, ?_, ?_⟩
  · rw [nodesB_iff]
    intro i y hy
    by_cases hiN : i = ((f.Nodes.length : Nat) : Int)
    · subst hiN
      rw [att_new hx] at hy
      obtain rfl := Option.some.inj hy
      have hxn := nodes_at h6 hx
      unfold nodeB ownedB at hxn
      simp only [Bool.and_eq_true] at hxn
      unfold nodeB
      simp only [Bool.and_eq_true]
      refine ⟨by simp [namedB, shadeN], ?_, rfl, ?_, ?_, rfl⟩
      · unfold ownedB
        simp only [Bool.and_eq_true]
        exact ⟨stay_isB' hS hxn.2.1.1, rfl⟩
      · unfold bearsB shadeN elemsOf; simp
      · unfold hostB
        rw [if_pos (show (shadeN n x).Kind = 4 from rfl), show (shadeN n x).Host = n from rfl, att_host hx]
        simp only [Bool.and_eq_true, beq_iff_eq]
        exact ⟨hk1, rfl, rfl⟩
    · have hin : InN f.Nodes i := by
        have := idx_range hy
        rw [hlen] at this
        exact ⟨this.1, by omega⟩
      by_cases hin' : i = n
      · subst hin'
        rw [att_host hx] at hy
        obtain rfl := Option.some.inj hy
        have hxn := nodes_at h6 hx
        unfold nodeB at hxn
        simp only [Bool.and_eq_true] at hxn
        obtain ⟨n1, n2, n3, n4, n5, n6⟩ := hxn
        unfold nodeB
        simp only [Bool.and_eq_true]
        refine ⟨n1, stay_owned hS n2, stay_hung hS n3, stay_bears hS n4, ?_, ?_⟩
        · unfold hostB at n5 ⊢
          rw [if_neg (by omega)] at n5
          rw [if_neg (show ¬ (hostN f x).Kind = 4 from fun h => by have : x.Kind = 4 := h; omega)]
          exact n5
        · unfold underB
          rw [show (hostN f x).Under = ((f.Nodes.length : Nat) : Int) from rfl, att_new hx, show (hostN f x).Kind = x.Kind from rfl, hk1]
          simp [shadeN]
      · obtain ⟨z, hz⟩ := idx_some hin
        rw [att_old hx hin' hz] at hy
        obtain rfl := Option.some.inj hy
        have hxn := nodes_at h6 hz
        unfold nodeB at hxn
        simp only [Bool.and_eq_true] at hxn
        obtain ⟨n1, n2, n3, n4, n5, n6⟩ := hxn
        unfold nodeB
        simp only [Bool.and_eq_true]
        refine ⟨n1, stay_owned hS n2, stay_hung hS n3, stay_bears hS n4, ?_, stay_under hS n6⟩
        unfold hostB at n5 ⊢
        by_cases hk : z.Kind = 4
        · rw [if_pos hk] at n5 ⊢
          cases hh : idx f.Nodes z.Host with
          | none => rw [hh] at n5; cases n5
          | some h =>
            rw [hh] at n5
            by_cases hzn : z.Host = n
            · rw [hzn, hx] at hh
              obtain rfl := Option.some.inj hh
              simp only [Bool.and_eq_true, beq_iff_eq] at n5
              have := hin.ne
              omega
            · rw [att_old hx hzn hh]; exact n5
        · rw [if_neg hk] at n5 ⊢; exact n5
  · have hups := nodes_ups h6
    unfold endsB
    rw [List.all_eq_true]
    intro i hi
    rw [hlen] at hi ⊢
    have hi : i < f.Nodes.length + 1 := by simpa using hi
    by_cases hl : i < f.Nodes.length
    · have hin : InN f.Nodes (i : Int) := ⟨by omega, by omega⟩
      exact climbB_more _ _ (stay_climb hS hups _ _ hin (ends_at h7 hin))
    · obtain rfl : i = f.Nodes.length := by omega
      rw [climbB, Bool.or_eq_true]
      refine .inr ?_
      have e : upI (attachF f n x).Nodes ((f.Nodes.length : Nat) : Int) = n := by rw [upI_at (att_new hx)]; rfl
      rw [e]
      exact stay_climb hS hups _ _ hrx (ends_at h7 hrx)
variable (hg : frightB (attachF f n x) = true)
include hg
theorem att_way : ∀ i, InN f.Nodes i → wayU (attachF f n x).Nodes i = wayU f.Nodes i := (right_full hr).up_ind fun i hi ih => by
  have U := right_full hr
  have V := right_full hg
  have hS := att_stay hx
  have hlen := att_len f n x
  have hig : InN (attachF f n x).Nodes i := ⟨hi.1, by rw [hlen]; have := hi.2; omega⟩
  rw [U.wayU_eq hi, V.wayU_eq hig, stay_up hS hi]
  by_cases h : upI f.Nodes i = -1
  · rw [if_pos h, if_pos h]
  · rw [if_neg h, if_neg h, ih h]
theorem att_top : ∀ i, InN f.Nodes i → topN (attachF f n x).Nodes i = topN f.Nodes i := (right_full hr).up_ind fun i hi ih => by
  have U := right_full hr
  have V := right_full hg
  have hS := att_stay hx
  have hlen := att_len f n x
  have hig : InN (attachF f n x).Nodes i := ⟨hi.1, by rw [hlen]; have := hi.2; omega⟩
  rw [U.root_eq hi, V.root_eq hig, stay_up hS hi]
  by_cases h : upI f.Nodes i = -1
  · rw [if_pos h, if_pos h]
  · rw [if_neg h, if_neg h, ih h]
omit hr hx hg in
theorem att_in (f : Forest) (n : Int) (x : Node) : InN (attachF f n x).Nodes ((f.Nodes.length : Nat) : Int) := ⟨by omega, by rw [att_len f n x]; omega⟩
omit hr hg in
theorem att_up : upI (attachF f n x).Nodes ((f.Nodes.length : Nat) : Int) = n := by rw [upI_at (att_new hx)]; rfl
theorem att_conn : connB (attachF f n x).Nodes ((f.Nodes.length : Nat) : Int) = connB f.Nodes n := by
  have U := right_full hr
  have V := right_full hg
  have hrx : InN f.Nodes n := idx_range hx
  unfold connB
  rw [V.root_eq (att_in f n x), att_up hx, if_neg hrx.ne, att_top hr hx hg n hrx]
  obtain ⟨z, hz⟩ := idx_some (U.root_in hrx)
  exact stay_isB (att_stay hx) hz
theorem att_mem {k : Int} (hk : InN f.Nodes k) (y : Int) : y ∈ allU (attachF f n x).Nodes k ↔ y ∈ allU f.Nodes k ∨ (y = ((f.Nodes.length : Nat) : Int) ∧ overU f.Nodes k n = true) := by
  have U := right_full hr
  have V := right_full hg
  have hlen := att_len f n x
  have hrx : InN f.Nodes n := idx_range hx
  have hkg : InN (attachF f n x).Nodes k := ⟨hk.1, by rw [hlen]; have := hk.2; omega⟩
  have hN : wayU (attachF f n x).Nodes ((f.Nodes.length : Nat) : Int) = ((f.Nodes.length : Nat) : Int) :: wayU f.Nodes n := by
    rw [V.wayU_eq (att_in f n x), att_up hx, if_neg hrx.ne, att_way hr hx hg n hrx]
  have hkN : k ≠ ((f.Nodes.length : Nat) : Int) := by have := hk.2; omega
  constructor
  · intro h
    obtain ⟨h1, h2⟩ := V.all_in k hkg y h
    by_cases hy : y = ((f.Nodes.length : Nat) : Int)
    · subst hy
      rw [hN] at h2
      exact .inr ⟨rfl, overU_iff.2 ((List.mem_cons.1 h2).resolve_left hkN)⟩
    · have hyf : InN f.Nodes y := ⟨h1.1, by have := h1.2; rw [hlen] at this; omega⟩
      rw [att_way hr hx hg y hyf] at h2
      exact .inl (U.mem_all hk y hyf h2)
  · rintro (h | ⟨rfl, h⟩)
    · obtain ⟨h1, h2⟩ := U.all_in k hk y h
      have hyg : InN (attachF f n x).Nodes y := ⟨h1.1, by rw [hlen]; have := h1.2; omega⟩
      exact V.mem_all hkg y hyg (by rw [att_way hr hx hg y h1]; exact h2)
    · refine V.mem_all hkg _ (att_in f n x) ?_
      rw [hN]
      exact List.mem_cons_of_mem _ (overU_iff.1 h)
theorem att_all {k : Int} (hk : InN f.Nodes k) : (allU (attachF f n x).Nodes k).length = (allU f.Nodes k).length + (if overU f.Nodes k n = true then 1 else 0) ∧ (allU (attachF f n x).Nodes k).count ((f.Nodes.length : Nat) : Int) = if overU f.Nodes k n = true then 1 else 0 := by
  have U := right_full hr
  have V := right_full hg
  have hlen := att_len f n x
  have hkg : InN (attachF f n x).Nodes k := ⟨hk.1, by rw [hlen]; have := hk.2; omega⟩
  have hnot : ((f.Nodes.length : Nat) : Int) ∉ allU f.Nodes k := fun h => by have := (U.all_in k hk _ h).1.2; omega
  have hm := att_mem hr hx hg hk
  have hnd := V.all_nodup k hkg
  constructor
  · have hp : (allU (attachF f n x).Nodes k).Perm (allU f.Nodes k ++ (if overU f.Nodes k n = true then [((f.Nodes.length : Nat) : Int)] else [])) := by
      refine (List.perm_ext_iff_of_nodup hnd ?_).2 fun y => ?_
      · rw [List.nodup_append]
        refine ⟨U.all_nodup k hk, by split <;> simp, fun a ha b hb e => ?_⟩
        subst e
        split at hb
        · rw [List.mem_singleton] at hb
          subst hb
          exact hnot ha
        · simp at hb
      · rw [hm y, List.mem_append]
        refine or_congr Iff.rfl ?_
        by_cases ho : overU f.Nodes k n = true
        · rw [if_pos ho]; simp [ho]
        · rw [if_neg ho]; simp [ho]
    have := hp.length_eq
    rw [this, List.length_append]
    split <;> rfl
  · by_cases ho : overU f.Nodes k n = true
    · rw [if_pos ho, hnd.count, if_pos ((hm _).2 (.inr ⟨rfl, ho⟩))]
    · rw [if_neg ho, List.count_eq_zero]
      exact fun h => ((hm _).1 h).elim hnot fun h => ho h.2
end
theorem att_small {f : Forest} {n : Int} {x : Node} (hs : Small f) (hl : f.Nodes.length ≤ 60) (hx : idx f.Nodes n = some x) : Small (attachF f n x) := by
  have key : ∀ y ∈ (attachF f n x).Nodes, y ∈ f.Nodes ∨ y = shadeN n x ∨ y = hostN f x := fun y hy => by
    unfold attachF at hy
    rcases List.mem_or_eq_of_mem_set hy with hy | hy
    · rcases List.mem_append.1 hy with hy | hy
      · exact .inl hy
      · exact .inr (.inl (by simpa using hy))
    · exact .inr (.inr hy)
  have hxm := idx_mem hx
  refine ⟨by rw [att_len f n x]; omega, fun y hy => ?_, fun y hy => ?_, fun y hy => ?_⟩
  · rcases key y hy with h | rfl | rfl
    · exact hs.kids y h
    · simp [shadeN]
    · exact hs.kids x hxm
  · rcases key y hy with h | rfl | rfl
    · exact hs.attrs y h
    · simp [shadeN]
    · exact hs.attrs x hxm
  · rcases key y hy with h | rfl | rfl
    · exact hs.name y h
    · simp [shadeN]
    · exact hs.name x hxm
theorem att_loop {f : Forest} {fu : Nat} {n k : Int} {x : Node} (hs : Small f) (hl : f.Nodes.length ≤ 60) (hfu : 1000 < fu) (hr : frightB f = true) (hx : idx f.Nodes n = some x) (hu : x.Under = -1) (hg : frightB (attachF f n x) = true) (hk : InN f.Nodes k) : Instarlaw04_ShadeAttached_l1 fu f n k (attachF f n x, ((f.Nodes.length : Nat) : Int), 0) fu 0 = some true := by
  have hsg := att_small hs hl hx
  have U := right_full hr
  have V := right_full hg
  have hlen := att_len f n x
  have hrx : InN f.Nodes n := idx_range hx
  have hkg : InN (attachF f n x).Nodes k := ⟨hk.1, by rw [hlen]; have := hk.2; omega⟩
  have hlk := U.all_len hk
  have hlg := V.all_len hkg
  refine (up_alli (L := Instarlaw04_ShadeAttached_l1 fu f n k (attachF f n x, ((f.Nodes.length : Nat) : Int), 0)) f.Nodes.length (fun _ => true) (some true) (fun i hi q => ?_) (fun q => ?_) (by omega)).trans ?_
  · have hy := idx_lt hi
    have ha := hs.attrs _ (idx_mem hy)
    have hks := hs.kids _ (idx_mem hy)
    have hone := one_refl (fu := fu) (x := f.Nodes[i]) hfu (by omega) (by omega)
    have hrng : rng .i64 ((i : Int) + 1) = some ((i + 1 : Nat) : Int) := rng_nat (by omega)
    simp only [Instarlaw04_ShadeAttached_l1]
    rw [cnd_pos (by simpa using hi), hrng]
    by_cases hin : (i : Int) = n
    · have hxe : f.Nodes[i] = x := by
        rw [hin, hx] at hy
        exact (Option.some.inj hy).symm
      have hnode : (⟨(hostN f x).Kind, (hostN f x).Name, (hostN f x).Is, (hostN f x).Data, (hostN f x).Attrs, (hostN f x).Parent, (hostN f x).Kids, (hostN f x).Host, -1, (hostN f x).Doc⟩ : Node) = x := by
        cases x
        simp only at hu
        subst hu
        rfl
      rw [hxe] at hone
      rw [hin, att_host hx, bnd_some, cnd_pos (by simp), hx]
      simp only [bnd_some]
      rw [hnode, hone]
      rfl
    · rw [att_old hx hin hy, bnd_some, cnd_neg (beq_eq_false_iff_ne.2 hin), hy, bnd_some, hone]
      rfl
  · obtain ⟨g1, g2⟩ := att_all hr hx hg hk
    have hroot : Forest_Root_m fu (attachF f n x) ((f.Nodes.length : Nat) : Int) = some ((f.Nodes.length : Nat) : Int) := by
      rw [Root_ok hsg hfu hg (att_in f n x), (right_tree hg).root_top (att_in f n x) (by rw [par_at (att_new hx)]; rfl)]
    simp only [Instarlaw04_ShadeAttached_l1]
    rw [cnd_neg (by simp), All_ok hs hfu hr hk, bnd_some, All_ok hsg hfu hg hkg, bnd_some, Over_ok hs hfu hr hk hrx, bnd_some]
    have j1 : ∀ m : Nat, m = (if overU f.Nodes k n = true then 1 else 0) → Instarlaw04_ShadeAttached_j1 fu (attachF f n x, ((f.Nodes.length : Nat) : Int), 0) (allU f.Nodes k) (allU (attachF f n x).Nodes k) (m : Int) = some true := fun m hm => by
      have hm1 : m ≤ 1 := by rw [hm]; split <;> omega
      have hrng : rng .i64 ((((allU f.Nodes k).length : Nat) : Int) + (m : Int)) = some (((allU (attachF f n x).Nodes k).length : Nat) : Int) := by
        rw [rng64 (by omega) (by omega), g1, ← hm]; rfl
      unfold Instarlaw04_ShadeAttached_j1
      rw [hrng, bnd_some, cnd_pos (by simp), has_ok (by omega) (by omega), bnd_some, g2, ← hm, cnd_pos (by simp)]
      simp only
      rw [hroot, bnd_some]
      simp
    cases ho : overU f.Nodes k n with
    | true =>
      have h := j1 1 (by rw [ho]; rfl)
      rw [show ((1 : Nat) : Int) = 1 from rfl] at h
      rw [cnd_true, h]
    | false =>
      have h := j1 0 (by rw [ho]; rfl)
      rw [show ((0 : Nat) : Int) = 0 from rfl] at h
      rw [cnd_false, h]
  · rw [List.all_eq_true.2 fun _ _ => rfl]; rfl
theorem shadeAttached (f : Forest) (a b : Int) (ha : 0 ≤ a ∧ a ≤ 255) (hb : 0 ≤ b ∧ b ≤ 255) : ∃ fu, Instarlaw04_ShadeAttached_m fu f a b = some true := by
  refine ⟨2000, ?_⟩
  unfold Instarlaw04_ShadeAttached_m
  rw [awake04, bnd_some, Bool.not_true, cnd_false]
  generalize hfu' : (2000 : Nat) = fu
  have hfu : 1000 < fu := by omega
  obtain ⟨r, h1, h2⟩ := short_small60 (fu := fu) (f := f) hfu
  rw [h1, bnd_some]
  cases r with
  | false => rfl
  | true =>
    obtain ⟨hs, hl⟩ := h2 rfl
    rw [Bool.not_true, cnd_false, fright_ok hfu (hs.fit hfu), bnd_some]
    cases hr : frightB f with
    | false => rfl
    | true =>
      have hn := (right_parts hr).1
      obtain ⟨n, en, hnr⟩ := rem_ok ha.1 hn
      obtain ⟨k, ek, hkr⟩ := rem_ok hb.1 hn
      have hni : InN f.Nodes n := hnr
      have hki : InN f.Nodes k := hkr
      obtain ⟨x, hx⟩ := idx_some hnr
      rw [Bool.not_true, cnd_false, rng64 (by omega) (by omega), bnd_some, en, bnd_some, rng64 (by omega) (by omega), bnd_some, ek, bnd_some, attach_ok hs hfu hr hx, bnd_some]
      have bad : ∀ e : Int, e ≠ 0 → cnd (e != 0) (cnd ((-1 : Int) == -1) (bnd (Instarref03_Same_m fu f f) fun r12 => some r12) (some false)) (some false) = some true := fun e he => by
        rw [cnd_pos (bne_iff_ne.2 he), cnd_pos (by rfl), hs.same hfu, bnd_some]
      unfold attachR
      by_cases h3 : attachB x = true
      case neg =>
        rw [if_neg h3]
        simp only
        rw [cnd_pos (by rfl), cnd_pos (by rfl), hs.same hfu, bnd_some]
      rw [if_pos h3]
      by_cases h4 : x.Under = -1
      case neg =>
        rw [if_neg h4]
        simp only
        rw [cnd_pos (by rfl), cnd_pos (by rfl), hs.same hfu, bnd_some]
      rw [if_pos h4]
      by_cases h5 : ((f.Nodes.length : Nat) : Int) = f.Most
      · rw [if_pos h5]
        simp only
        rw [cnd_pos (by rfl), cnd_pos (by rfl), hs.same hfu, bnd_some]
      rw [if_neg h5]
      have hg := att_right hr hx h4 h3 h5
      have hsg := att_small hs hl hx
      have hlen := att_len f n x
      simp only
      rw [cnd_neg (by rfl), fright_ok hfu (hsg.fit hfu), bnd_some, hg, Bool.not_true, cnd_false, cnd_neg (by simp), rng_nat (by omega), bnd_some, cnd_neg (by rw [hlen]; simp), att_host hx, bnd_some, cnd_neg (by simp [hostN]), Conn_ok hsg hfu hg (att_in f n x), bnd_some, Conn_ok hs hfu hr hni, bnd_some, att_conn hr hx hg, cnd_neg (by simp)]
      exact att_loop hs hl hfu hr hx h4 hg hki
end Go.Proofs.Ytcaepigodglihaa
