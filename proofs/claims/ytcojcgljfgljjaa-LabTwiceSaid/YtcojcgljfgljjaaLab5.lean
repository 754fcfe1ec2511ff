/- What is exchanged twice is as it was; the law LabTwice. -/
import Derived.Test.YtcojcgljfgljjaaLab4
import Derived.Test.YtcojcgljfgljjaaFor1
namespace Go.Proofs.Ytcojcgljfgljjaa
open Go Go.Pw

theorem sw_inv {α : Type} [DecidableEq α] (a b x : α) : sw a b (sw a b x) = x := by
  unfold sw
  by_cases h1 : x = a
  · subst h1
    by_cases h2 : b = x
    · simp [h2]
    · simp [h2]
  · by_cases h2 : x = b
    · subst h2; simp [h1]
    · simp [h1, h2]
theorem sw_comm {α : Type} [DecidableEq α] (a b x : α) : sw a b x = sw b a x := by
  unfold sw
  by_cases h1 : x = a
  · subst h1
    by_cases h2 : x = b
    · simp [h2]
    · simp [h2]
  · by_cases h2 : x = b
    · subst h2; simp [h1]
    · simp [h1, h2]
theorem sw_same {α : Type} [DecidableEq α] (a x : α) : sw a a x = x := by
  unfold sw
  by_cases h1 : x = a <;> simp [h1]

/-! ## Classes -/
theorem opC_comm (a b : Int) (o : Op) : opC a b o = opC b a o := by unfold opC; rw [sw_comm]
theorem opC_inv (a b : Int) (o : Op) : opC a b (opC a b o) = o := by
  unfold opC
  by_cases h : o.Kind = 16 ∨ o.Kind = 19
  · simp only [if_pos h, sw_inv]
  · simp only [if_neg h]
theorem opC_same (a : Int) (o : Op) : opC a a o = o := by unfold opC; rw [sw_same]; split <;> rfl
theorem map_eq_self {α : Type} {g : α → α} {l : List α} (h : ∀ x ∈ l, g x = x) : l.map g = l := by
  conv => rhs; rw [← List.map_id l]
  exact List.map_congr_left h
theorem turnC_turn (g g' : Op → Op) (c : Class) : turnC g (turnC g' c) = turnC (fun o => g (g' o)) c := by
  unfold turnC
  simp only [List.map_map, Function.comp_def]
/-- Operations of a class. -/
def InC (o : Op) (c : Class) : Prop := o ∈ c.Peek ∨ o ∈ c.Make ∨ ∃ h ∈ c.Hooks, o ∈ h.Do
theorem turnC_congr {g g' : Op → Op} {c : Class} (h : ∀ o, InC o c → g o = g' o) : turnC g c = turnC g' c := by
  unfold turnC
  have e1 : c.Peek.map g = c.Peek.map g' := List.map_congr_left fun o ho => h o (.inl ho)
  have e2 : c.Make.map g = c.Make.map g' := List.map_congr_left fun o ho => h o (.inr (.inl ho))
  have e3 : (c.Hooks.map fun h => (⟨h.Kind, h.Do.map g⟩ : Hook)) = c.Hooks.map fun h => (⟨h.Kind, h.Do.map g'⟩ : Hook) := List.map_congr_left fun k hk => by
    rw [List.map_congr_left fun o ho => h o (.inr (.inr ⟨k, hk, ho⟩))]
  rw [e1, e2, e3]
theorem script_ext {s t : Script} (h1 : s.Classes = t.Classes) (h2 : s.Main = t.Main) : s = t := by
  cases s; cases t; simp only at h1 h2; rw [h1, h2]
theorem frm_comm (a b : Int) (n i : Nat) : frm a b n i = frm b a n i := by
  unfold frm
  by_cases h : 0 ≤ a ∧ 0 ≤ b ∧ a < n ∧ b < n
  · rw [if_pos h, if_pos (by omega), sw_comm]
  · rw [if_neg h, if_neg (by omega)]
theorem frm_same (a : Int) (n i : Nat) : frm a a n i = i := by
  unfold frm
  split
  · exact sw_same _ _
  · rfl
theorem clsG_comm (a b : Int) (s : Script) (o : Op) : clsG a b s o = clsG b a s o := by
  unfold clsG
  by_cases h : 0 ≤ a ∧ 0 ≤ b ∧ a < s.Classes.length ∧ b < s.Classes.length
  · rw [if_pos h, if_pos (by omega), opC_comm]
  · rw [if_neg h, if_neg (by omega)]
theorem clsG_inv (a b : Int) (s : Script) (o : Op) : clsG a b (clsS a b s) (clsG a b s o) = o := by
  unfold clsG
  rw [clsS_len]
  by_cases h : 0 ≤ a ∧ 0 ≤ b ∧ a < s.Classes.length ∧ b < s.Classes.length
  · simp only [if_pos h, opC_inv]
  · simp only [if_neg h]
theorem clsG_same (a : Int) (s : Script) (o : Op) : clsG a a s o = o := by
  unfold clsG
  split
  · exact opC_same a o
  · rfl
theorem clsS_comm (a b : Int) (s : Script) : clsS a b s = clsS b a s := by
  refine script_ext (List.ext_getElem (by rw [clsS_len, clsS_len]) fun i h1 h2 => ?_) ?_
  · rw [clsS_len] at h1
    rw [clsS_at a b s h1, clsS_at b a s h1]
    simp only [frm_comm a b]
    exact turnC_congr fun o _ => clsG_comm a b s o
  · rw [clsS_main, clsS_main]
    exact List.map_congr_left fun o _ => clsG_comm a b s o
theorem clsS_inv (a b : Int) (s : Script) : clsS a b (clsS a b s) = s := by
  refine script_ext (List.ext_getElem (by rw [clsS_len, clsS_len]) fun i h1 h2 => ?_) ?_
  · have h3 : i < (clsS a b s).Classes.length := by rw [clsS_len]; exact h2
    rw [clsS_at a b (clsS a b s) h3]
    have e : ∀ (j : Nat) (hj : j < (clsS a b s).Classes.length), (clsS a b s).Classes[j] = turnC (clsG a b s) (s.Classes[frm a b s.Classes.length j]'(frm_lt (by rw [clsS_len] at hj; exact hj))) := fun j hj => clsS_at a b s (by rw [clsS_len] at hj; exact hj)
    rw [e, turnC_turn]
    simp only [clsG_inv, clsS_len, frm_frm]
    exact turnC_id _
  · rw [clsS_main, clsS_main, List.map_map]
    exact map_eq_self fun o _ => clsG_inv a b s o
theorem clsS_same (a : Int) (s : Script) : clsS a a s = s := by
  refine script_ext (List.ext_getElem (by rw [clsS_len]) fun i h1 h2 => ?_) ?_
  · rw [clsS_at a a s h2]
    simp only [frm_same]
    exact (turnC_congr fun o _ => clsG_same a s o).trans (turnC_id _)
  · rw [clsS_main]
    exact map_eq_self fun o _ => clsG_same a s o

/-! ## Marks -/
theorem mkC_inv (a b : Int) (m : Mark) : mkC b a (mkC a b m) = m := by
  unfold mkC
  by_cases h : m.Kind = 3 ∨ m.Kind = 4 ∨ m.Kind = 8 ∨ m.Kind = 9
  · simp only [if_pos h]
    rw [sw_comm b a, sw_inv]
  · simp only [if_neg h]
theorem mkN_inv (x y : Bs) (m : Mark) : mkN y x (mkN x y m) = m := by
  unfold mkN
  by_cases h : m.Kind = 8
  · simp only [if_pos h]
    rw [sw_comm y x, sw_inv]
  · simp only [if_neg h]
theorem mkNs_inv (x y : Bs) (l : List Mark) : mkNs y x (mkNs x y l) = l := by
  unfold mkNs
  rw [Bool.and_comm (customB y)]
  cases customB x && customB y
  · rfl
  · simp only [cond_true, List.map_map]
    exact map_eq_self fun m _ => mkN_inv x y m

/-! ## Forests -/
theorem ndN_inv (x y : Bs) (n : Node) : ndN y x (ndN x y n) = n := by
  unfold ndN
  simp only [sw_comm y x, sw_inv]
theorem frN_inv (x y : Bs) (f : Forest) : frN y x (frN x y f) = f := by
  unfold frN
  rw [Bool.and_comm (customB y)]
  cases customB x && customB y
  · rfl
  · simp only [cond_true, List.map_map]
    rw [map_eq_self (g := ndN y x ∘ ndN x y) (l := f.Nodes) fun n _ => ndN_inv x y n]
theorem custom_fit {s : Bs} (h : customB s = true) : fitB s = true ∧ s ≠ [] := by
  unfold customB at h
  simp only [Bool.and_eq_true] at h
  obtain ⟨⟨⟨⟨h1, _⟩, h3⟩, _⟩, _⟩ := h
  refine ⟨?_, fun e => ?_⟩
  · unfold fitB
    rw [h1, Bool.true_and]
    have := lower_all s
    rw [h3] at this
    rw [beq_iff_eq] at this ⊢
    exact this.symm
  · subst e
    have := rightB_len h1
    simp at this
theorem sw_cases {α : Type} [DecidableEq α] (a b x : α) : (x = a ∧ sw a b x = b) ∨ (x = b ∧ sw a b x = a) ∨ (x ≠ a ∧ x ≠ b ∧ sw a b x = x) := by
  unfold sw
  by_cases h1 : x = a
  · exact .inl ⟨h1, if_pos h1⟩
  · by_cases h2 : x = b
    · exact .inr (.inl ⟨h2, by rw [if_neg h1, if_pos h2]⟩)
    · exact .inr (.inr ⟨h1, h2, by rw [if_neg h1, if_neg h2]⟩)
theorem named_sw {x y : Bs} (hx : customB x = true) (hy : customB y = true) (n : Node) : namedB (ndN x y n) = namedB n := by
  obtain ⟨fx, nx⟩ := custom_fit hx
  obtain ⟨fy, ny⟩ := custom_fit hy
  have e1 : fitB (sw x y n.Name) = fitB n.Name := by
    rcases sw_cases x y n.Name with ⟨h, e⟩ | ⟨h, e⟩ | ⟨_, _, e⟩
    · rw [e, h, fx, fy]
    · rw [e, h, fx, fy]
    · rw [e]
  have e2 : ∀ s : Bs, (sw x y s == []) = (s == []) := fun s => by
    rcases sw_cases x y s with ⟨h, e⟩ | ⟨h, e⟩ | ⟨_, _, e⟩
    · rw [e, h, beq_eq_false_iff_ne.2 nx, beq_eq_false_iff_ne.2 ny]
    · rw [e, h, beq_eq_false_iff_ne.2 nx, beq_eq_false_iff_ne.2 ny]
    · rw [e]
  have e3 : customB (sw x y n.Is) = customB n.Is := by
    rcases sw_cases x y n.Is with ⟨h, e⟩ | ⟨h, e⟩ | ⟨_, _, e⟩
    · rw [e, h, hx, hy]
    · rw [e, h, hx, hy]
    · rw [e]
  unfold namedB ndN
  simp only [e1, e2, e3]
theorem idx_mapN (x y : Bs) (ns : List Node) (n : Int) : idx (ns.map (ndN x y)) n = (idx ns n).map (ndN x y) := by
  unfold idx
  split
  · rw [List.getElem?_map]
  · rfl
theorem isB_sw (x y : Bs) (ns : List Node) (n k : Int) : isB (ns.map (ndN x y)) n k = isB ns n k := by
  unfold isB
  rw [idx_mapN]
  cases idx ns n <;> rfl
theorem up_sw (x y : Bs) (ns : List Node) (n : Int) : upI (ns.map (ndN x y)) n = upI ns n := by
  unfold upI
  rw [idx_mapN]
  cases idx ns n <;> rfl
theorem climb_sw (x y : Bs) (ns : List Node) : ∀ (k : Nat) (n : Int), climbB (ns.map (ndN x y)) k n = climbB ns k n
  | 0, _ => rfl
  | k + 1, n => by simp only [climbB, up_sw, climb_sw x y ns k]
theorem node_sw {x y : Bs} (hx : customB x = true) (hy : customB y = true) (ns : List Node) (i : Int) (n : Node) : nodeB (ns.map (ndN x y)) i (ndN x y n) = nodeB ns i n := by
  have k1 : ∀ k, kidB (ns.map (ndN x y)) i (ndN x y n) k = kidB ns i n k := fun k => by
    unfold kidB
    rw [idx_mapN]
    cases idx ns k <;> rfl
  have e1 : ownedB (ns.map (ndN x y)) i (ndN x y n) = ownedB ns i n := by unfold ownedB; rw [isB_sw]; rfl
  have e2 : hungB (ns.map (ndN x y)) i (ndN x y n) = hungB ns i n := by
    unfold hungB
    rw [idx_mapN]
    show (n.Parent == -1 || ((n.Kind == 1 || n.Kind == 2) && _)) = _
    rw [show (ndN x y n).Parent = n.Parent from rfl]
    cases idx ns n.Parent <;> rfl
  have e3 : bearsB (ns.map (ndN x y)) i (ndN x y n) = bearsB ns i n := by
    unfold bearsB elemsOf
    simp only [isB_sw]
    rw [show kidB (ns.map (ndN x y)) i (ndN x y n) = kidB ns i n from funext k1]; rfl
  have e4 : hostB (ns.map (ndN x y)) i (ndN x y n) = hostB ns i n := by
    unfold hostB
    rw [idx_mapN]
    show (if n.Kind = 4 then _ else _) = _
    rw [show (ndN x y n).Host = n.Host from rfl]
    cases idx ns n.Host <;> rfl
  have e5 : underB (ns.map (ndN x y)) i (ndN x y n) = underB ns i n := by
    unfold underB
    rw [idx_mapN]
    show (n.Under == -1 || (n.Kind == 1 && _)) = _
    rw [show (ndN x y n).Under = n.Under from rfl]
    cases idx ns n.Under <;> rfl
  unfold nodeB
  rw [named_sw hx hy, e1, e2, e3, e4, e5]
theorem fright_sw (x y : Bs) (f : Forest) : frightB (frN x y f) = frightB f := by
  unfold frN
  cases hx : customB x
  · rfl
  cases hy : customB y
  · rfl
  have e : nodesB (f.Nodes.map (ndN x y)) = nodesB f.Nodes := by
    unfold nodesB
    rw [List.length_map]
    congr 1; funext i
    rw [List.getElem?_map]
    cases f.Nodes[i]? with
    | none => rfl
    | some n => exact node_sw hx hy f.Nodes (i : Int) n
  unfold frightB endsB
  simp only [Bool.and_self, cond_true, List.length_map, isB_sw, climb_sw, e]

/-! ## Names -/
theorem opN_comm (x y : Bs) (o : Op) : opN x y o = opN y x o := by
  unfold opN
  simp only [sw_comm x y, or_comm (a := o.S.map lower = x)]
theorem namS_comm (x y : Bs) (s : Script) : namS x y s = namS y x s := by
  unfold namS
  rw [Bool.and_comm, show opN x y = opN y x from funext (opN_comm x y)]
theorem custom_low {s : Bs} (h : customB s = true) : s.map lower = s := by
  have := (custom_fit h).1
  unfold fitB at this
  rw [Bool.and_eq_true, beq_iff_eq] at this
  exact this.2
theorem opN_inv {x y : Bs} (hx : customB x = true) (hy : customB y = true) {o : Op} (ho : o.S.map lower = o.S) : opN x y (opN x y o) = o := by
  have lx := custom_low hx
  have ly := custom_low hy
  obtain ⟨K, A, B, C, S, T, M⟩ := o
  simp only at ho
  have hl : (sw x y S).map lower = sw x y S := by
    rcases sw_cases x y S with ⟨_, e⟩ | ⟨_, e⟩ | ⟨_, _, e⟩ <;> rw [e] <;> assumption
  have hm : (sw x y S = x ∨ sw x y S = y) ↔ (S = x ∨ S = y) := by
    rcases sw_cases x y S with ⟨h, e⟩ | ⟨h, e⟩ | ⟨_, _, e⟩
    · rw [e]; exact ⟨fun _ => .inl h, fun _ => .inr rfl⟩
    · rw [e]; exact ⟨fun _ => .inr h, fun _ => .inl rfl⟩
    · rw [e]
  unfold opN
  simp only [ho]
  by_cases h12 : K = 1 ∨ K = 2
  · have n16 : ¬ (K = 16 ∨ K = 17) := by omega
    have h3 : K = 1 ∨ K = 2 ∨ K = 16 := by omega
    simp only [h12, n16, h3, true_and, if_true, if_false, sw_inv]
    by_cases hs : S = x ∨ S = y
    · simp only [if_pos hs, hl, if_pos (hm.2 hs), sw_inv]
    · simp only [if_neg hs, ho]
  · by_cases h67 : K = 16 ∨ K = 17
    · simp only [h12, h67, false_and, if_true, if_false, sw_inv]
      by_cases h3 : K = 1 ∨ K = 2 ∨ K = 16
      · simp only [if_pos h3, sw_inv]
      · simp only [if_neg h3]
    · have h3 : ¬ (K = 1 ∨ K = 2 ∨ K = 16) := by omega
      simp only [h12, h67, h3, false_and, if_false]
def smallL (l : List Op) : Bool := l.all fun o => o.S.map lower == o.S
def smallC (c : Class) : Bool := smallL c.Peek && (smallL c.Make && c.Hooks.all fun h => smallL h.Do)
theorem smallL_iff {l : List Op} (h : smallL l = true) {o : Op} (ho : o ∈ l) : o.S.map lower = o.S := by
  have := List.all_eq_true.1 h o ho
  simpa using this
theorem turn_opN {x y : Bs} (hx : customB x = true) (hy : customB y = true) {l : List Op} (h : smallL l = true) : (l.map (opN x y)).map (opN x y) = l := by
  rw [List.map_map]
  exact map_eq_self fun o ho => opN_inv hx hy (smallL_iff h ho)
theorem namS_inv (x y : Bs) {s : Script} (h1 : smallL s.Main = true) (h2 : s.Classes.all smallC = true) : namS x y (namS x y s) = s := by
  unfold namS
  cases hx : customB x
  · rfl
  cases hy : customB y
  · rfl
  simp only [Bool.and_self, cond_true]
  refine script_ext ?_ (turn_opN hx hy h1)
  unfold turnS
  simp only [List.map_map]
  refine map_eq_self fun c hc => ?_
  have := List.all_eq_true.1 h2 c hc
  unfold smallC at this
  simp only [Bool.and_eq_true] at this
  simp only [Function.comp, turnC_turn]
  refine (turnC_congr fun o ho => ?_).trans (turnC_id c)
  have hs : o.S.map lower = o.S := by
    rcases ho with ho | ho | ⟨k, hk, ho⟩
    · exact smallL_iff this.1 ho
    · exact smallL_iff this.2.1 ho
    · exact smallL_iff (List.all_eq_true.1 this.2.2 k hk) ho
  exact opN_inv hx hy hs

/-! ## LabTwice -/
theorem small_okL {fu : Nat} {l : List Op} (hf : l.length < fu) (hb : l.length ≤ 1000000) (hs : ∀ o ∈ l, o.S.length < fu ∧ o.S.length ≤ 1000000) : Instarlaw25_small_m fu l = some (smallL l) := by
  unfold Instarlaw25_small_m smallL
  refine (up_all (L := Instarlaw25_small_l1 fu l) l (fun o => o.S.map lower == o.S) (some true) (fun i hi k => ?_) (fun k => ?_) hf).trans (by cases l.all fun o => o.S.map lower == o.S <;> rfl)
  · obtain ⟨s1, s2⟩ := hs _ (List.getElem_mem hi)
    simp only [Instarlaw25_small_l1]
    rw [cnd_pos (by simpa using hi), idx_lt hi, bnd_some, nsmall_ok s1 s2, bnd_some, bnd_some, cnd_not, rng_nat (by omega), bnd_some]
    cases l[i].S.map lower == l[i].S <;> rfl
  · simp only [Instarlaw25_small_l1]
    rw [cnd_neg (by simp)]
theorem take_all {α : Type} (p : α → Bool) {l : List α} {i : Nat} (h : i < l.length) : (l.take (i + 1)).all p = ((l.take i).all p && p l[i]) := by
  rw [List.take_succ_eq_append_getElem h, List.all_append]; simp
theorem twice_l2 {fu : Nat} {s : Script} {i : Nat} {rc : Bool × Int → Option Bool} (hi : i < s.Classes.length) (hi2 : i ≤ 1000000) (hf : FitC fu s.Classes[i]) (ht : ListsC (fun l => ∀ o ∈ l, o.S.length < fu ∧ o.S.length ≤ 1000000) s.Classes[i]) (A : Bool) :
    Instarlaw25_LabTwice_l2 fu s (i : Int) rc fu (A, 0) = rc ((A && s.Classes[i].Hooks.all fun h => smallL h.Do), ((i + 1 : Nat) : Int)) := by
  obtain ⟨⟨_, _, d⟩, h1, _⟩ := hf
  obtain ⟨_, _, td⟩ := ht
  have := upf (L := Instarlaw25_LabTwice_l2 fu s (i : Int) rc) (f := fun k => ((A && (s.Classes[i].Hooks.take k).all fun h => smallL h.Do), (k : Int))) (v := rc ((A && s.Classes[i].Hooks.all fun h => smallL h.Do), ((i + 1 : Nat) : Int))) s.Classes[i].Hooks.length (fun k hk q => ?_) (fun q => ?_) h1.1
  · simpa using this
  · obtain ⟨d1, d2⟩ := d _ (List.getElem_mem hk)
    simp only [Instarlaw25_LabTwice_l2]
    rw [idx_lt hi, bnd_some, cnd_pos (by simpa using hk), bnd_some, idx_lt hk, bnd_some, small_okL d1 d2 (td _ (List.getElem_mem hk)), bnd_some, rng_nat (by omega), bnd_some, bnd_some, take_all _ hk]
    cases A
    · rfl
    · simp only [Bool.true_and]
      cases (s.Classes[i].Hooks.take k).all fun h => smallL h.Do
      · rfl
      · simp only [cnd_true, Bool.true_and]
  · simp only [Instarlaw25_LabTwice_l2]
    rw [idx_lt hi, bnd_some, cnd_neg (by simp), rng_nat (by omega), bnd_some, List.take_length]
theorem twice_l1 {fu : Nat} {s : Script} {x y : Bs} (hfu : 1000 < fu) (hfit : FitS fu s) (htx : Texts fu s) : Instarlaw25_LabTwice_l1 fu s x y (namS x y s) fu (smallL s.Main, 0) = some true := by
  have hc := hfit.2.1
  have := upf (L := Instarlaw25_LabTwice_l1 fu s x y (namS x y s)) (f := fun i => ((smallL s.Main && (s.Classes.take i).all smallC), (i : Int))) (v := some true) s.Classes.length (fun i hi k => ?_) (fun k => ?_) hc.1
  · simpa using this
  · have f1 := hfit.2.2 _ (List.getElem_mem hi)
    have t1 := htx.2 _ (List.getElem_mem hi)
    have j1 : ∀ (rc : Bool × Int → Option Bool) (A : Bool), Instarlaw25_LabTwice_j1 fu s (i : Int) rc A = rc ((A && s.Classes[i].Hooks.all fun h => smallL h.Do), ((i + 1 : Nat) : Int)) := fun rc A => twice_l2 hi (by omega) f1 t1 A
    obtain ⟨⟨p, q, _⟩, _, _⟩ := f1
    obtain ⟨tp, tq, _⟩ := t1
    simp only [Instarlaw25_LabTwice_l1]
    rw [cnd_pos (by simpa using hi), idx_lt hi, bnd_some, small_okL p.1 p.2 tp, bnd_some, bnd_some, small_okL q.1 q.2 tq, bnd_some, j1, j1, take_all _ hi]
    have e : smallC s.Classes[i] = (smallL s.Classes[i].Peek && (smallL s.Classes[i].Make && s.Classes[i].Hooks.all fun h => smallL h.Do)) := rfl
    rw [e, ← Bool.and_assoc]
    generalize (smallL s.Main && (s.Classes.take i).all smallC) = A
    cases A
    · rfl
    · cases smallL s.Classes[i].Peek <;> rfl
  · simp only [Instarlaw25_LabTwice_l1]
    rw [cnd_neg (by simp), List.take_length]
    cases h1 : smallL s.Main
    · rfl
    cases h2 : s.Classes.all smallC
    · rfl
    have hn : namS x y (namS x y s) = s := namS_inv x y h1 h2
    have hfn := fitS_nam x y hfit
    have htn : Texts fu (namS x y s) := by
      unfold namS
      cases hx : customB x
      · exact htx
      cases hy : customB y
      · exact htx
      simp only [Bool.and_self, cond_true]
      have hop : ∀ o : Op, (o.S.length < fu ∧ o.S.length ≤ 1000000) → ((opN x y o).S.length < fu ∧ (opN x y o).S.length ≤ 1000000) := fun o ho => by
        have l1 := rightB_len (s := x) (by unfold customB at hx; simp only [Bool.and_eq_true] at hx; exact hx.1.1.1.1)
        have l2 := rightB_len (s := y) (by unfold customB at hy; simp only [Bool.and_eq_true] at hy; exact hy.1.1.1.1)
        have hsw : ∀ t : Bs, (t.length < fu ∧ t.length ≤ 1000000) → ((sw x y t).length < fu ∧ (sw x y t).length ≤ 1000000) := fun t ht => by
          rcases sw_cases x y t with ⟨_, e⟩ | ⟨_, e⟩ | ⟨_, _, e⟩ <;> rw [e] <;> omega
        unfold opN
        simp only
        have h0 : ((if (o.Kind = 1 ∨ o.Kind = 2) ∧ (o.S.map lower = x ∨ o.S.map lower = y) then sw x y (o.S.map lower) else o.S).length < fu ∧ (if (o.Kind = 1 ∨ o.Kind = 2) ∧ (o.S.map lower = x ∨ o.S.map lower = y) then sw x y (o.S.map lower) else o.S).length ≤ 1000000) := by
          split
          · exact hsw _ (by simpa using ho)
          · exact ho
        split
        · exact hsw _ h0
        · exact h0
      refine ⟨fun o ho => ?_, fun c hc => ?_⟩
      · obtain ⟨p, hp, rfl⟩ := List.mem_map.1 ho
        exact hop p (htx.1 p hp)
      · obtain ⟨d, hd, rfl⟩ := List.mem_map.1 hc
        obtain ⟨t1, t2, t3⟩ := htx.2 d hd
        refine ⟨fun o ho => ?_, fun o ho => ?_, fun k hk o ho => ?_⟩
        · obtain ⟨p, hp, rfl⟩ := List.mem_map.1 ho; exact hop p (t1 p hp)
        · obtain ⟨p, hp, rfl⟩ := List.mem_map.1 ho; exact hop p (t2 p hp)
        · obtain ⟨k0, hk0, rfl⟩ := List.mem_map.1 hk
          obtain ⟨p, hp, rfl⟩ := List.mem_map.1 ho; exact hop p (t3 k0 hk0 p hp)
    rw [Bool.true_and, Bool.not_true, cnd_false, labNames_ok hfn.fits htn (by omega), bnd_some, hn, same_refl hfit, bnd_some]
theorem labTwice (s : Script) (l : List Mark) (f : Forest) (a b : Int) (x y : Bs) (hm : s.Main.length ≤ 9223372036854775807) : ∃ fu, Instarlaw25_LabTwice_m fu s l f a b x y = some true := by
  refine ⟨s.Main.length + 2000, ?_⟩
  generalize hfu' : s.Main.length + 2000 = fu
  have hfu : 1000 < fu := by omega
  unfold Instarlaw25_LabTwice_m
  rw [awake_ok hfu, bnd_some, cnd_not, cnd_true, few_ok (by omega) hm hfu, bnd_some, cnd_not, cnd_dec, cnd_dec, cnd_dec]
  cases hs : fewB s
  · rfl
  rw [cnd_true]
  obtain ⟨hfit, htx⟩ := few_fit hfu hs
  rcases Nat.lt_or_ge 200 l.length with h1 | h1
  · rw [if_pos (by omega)]
  rw [if_neg (by omega)]
  obtain ⟨r, hr, hr2⟩ := forestShort_ok (f := f) hfu
  rw [hr, bnd_some, cnd_not]
  cases r
  · rfl
  obtain ⟨n1, n2⟩ := hr2 rfl
  rw [cnd_true]
  rcases Nat.lt_or_ge 300 x.length with h2 | h2
  · rw [if_pos (by omega)]
  rw [if_neg (by omega)]
  rcases Nat.lt_or_ge 300 y.length with h3 | h3
  · rw [if_pos (by omega)]
  rw [if_neg (by omega)]
  have hc := fitS_cls a b hfit
  have k1 : KidsFit fu f.Nodes := fun n hn => (n2 n hn).2
  have k2 : KidsFit fu (frN x y f).Nodes := fun n hn => by
    unfold frN at hn
    cases h : customB x && customB y
    · rw [h] at hn; exact k1 n hn
    · rw [h] at hn
      simp only [cond_true, List.mem_map] at hn
      obtain ⟨m, hm, rfl⟩ := hn
      exact k1 m hm
  have k3 : (frN x y f).Nodes.length = f.Nodes.length := by unfold frN; cases customB x && customB y <;> simp
  rw [labClasses_ok hfit.fits, bnd_some, labClasses_ok hfit.fits, bnd_some, ← clsS_comm a b s, same_refl hc, bnd_some, cnd_not, cnd_true,
    labClasses_ok hc.fits, bnd_some, clsS_inv, same_refl hfit, bnd_some, cnd_not, cnd_true, labClasses_ok hfit.fits, bnd_some, clsS_same, same_refl hfit, bnd_some, cnd_not, cnd_true,
    labMarksClasses_ok (by omega) (by omega), bnd_some, labMarksNames_ok (by omega) (by omega) (by omega), bnd_some, labMarksClasses_ok (by simp; omega) (by simp; omega), bnd_some, List.map_map,
    map_eq_self (g := mkC b a ∘ mkC a b) (l := l) (fun m _ => mkC_inv a b m), marks_refl (by omega) (by omega), bnd_some, cnd_not, cnd_true, labMarksNames_ok (by rw [mkNs_len]; omega) (by rw [mkNs_len]; omega) (by omega), bnd_some, mkNs_inv, marks_refl (by omega) (by omega), bnd_some, cnd_not, cnd_true,
    labForest_ok (by omega) (by omega) (by omega), bnd_some, labForest_ok (by omega) (by omega) (by omega), bnd_some, frN_inv, forest_refl (by omega) (by omega) n2, bnd_some, cnd_not, cnd_true,
    fright_ok hfu k1, bnd_some, fright_ok hfu k2, bnd_some, fright_sw, beq_self_eq_true, Bool.not_true, cnd_false,
    labNames_ok hfit.fits htx (by omega), bnd_some, labNames_ok hfit.fits htx (by omega), bnd_some, ← namS_comm x y s, same_refl (fitS_nam x y hfit), bnd_some, cnd_not, cnd_true, small_okL (by have := hfit.1; omega) (by have := hfit.1; omega) htx.1, bnd_some]
  exact twice_l1 hfu hfit htx
end Go.Proofs.Ytcojcgljfgljjaa
