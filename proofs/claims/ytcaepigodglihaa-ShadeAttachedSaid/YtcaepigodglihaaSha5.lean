/- The law ShadeRight of layer 4 (shade). -/
import Derived.Test.YtcaepigodglihaaSha3
import Derived.Test.YtcaepigodglihaaRig1
namespace Go.Proofs.Ytcaepigodglihaa
open Go Go.Pw

theorem scontains_ok {fu : Nat} {l : List Bs} {s : Bs} (hf : l.length < fu) (hb : l.length ≤ 1000000) : Slices_Contains_string_m fu l s = some (l.contains s) := by
  unfold Slices_Contains_string_m Slices_Index_string_m
  obtain ⟨r, h1, h2⟩ := up_index (L := Slices_Index_string_l1 l s) l (fun x => s == x) (fun i hi k => by
    simp only [Slices_Index_string_l1]
    rw [cnd_pos (by simpa using hi), idx_lt hi, bnd_some, rng_nat (by omega), bnd_some]
    cases s == l[i] <;> rfl) (fun k => by simp only [Slices_Index_string_l1]; rw [cnd_neg (by simp)]) hf
  rw [h1, bnd_some, h2, List.contains_eq_any_beq]
def hostsL : List Bs := [[100, 105, 118], [112], [115, 112, 97, 110]]
theorem hosts_one (s : Bs) : oneS s [] [100, 105, 118, 32, 112, 32, 115, 112, 97, 110] = hostsL.contains s := by
  have h1 : oneS s [] [100, 105, 118, 32, 112, 32, 115, 112, 97, 110] = hostsL.any (fun w => w == s) := by
    unfold hostsL
    simp only [List.any_cons, List.any_nil, Bool.or_false]
    rfl
  rw [h1, List.contains_eq_any_beq]
  congr 1; funext w
  rw [Bool.eq_iff_iff, beq_iff_eq, beq_iff_eq]; exact eq_comm
/-- May a node have a shadow, but for the one that it has? -/
def attachB (x : Node) : Bool := x.Kind == 1 && (customB x.Name || hostsL.contains x.Name)
def shadeN (n : Int) (x : Node) : Node := ⟨4, [], [], [], [], -1, [], n, -1, x.Doc⟩
def hostN (f : Forest) (x : Node) : Node := ⟨x.Kind, x.Name, x.Is, x.Data, x.Attrs, x.Parent, x.Kids, x.Host, ((f.Nodes.length : Nat) : Int), x.Doc⟩
def attachF (f : Forest) (n : Int) (x : Node) : Forest := ⟨(f.Nodes ++ [shadeN n x]).set n.toNat (hostN f x), f.Most⟩
def attachR (f : Forest) (n : Int) (x : Node) : Forest × Int × Int := if attachB x = true then (if x.Under = -1 then (if ((f.Nodes.length : Nat) : Int) = f.Most then (f, -1, 8) else (attachF f n x, ((f.Nodes.length : Nat) : Int), 0)) else (f, -1, 10)) else (f, -1, 5)
section
variable {f : Forest} {fu : Nat} (hs : Small f) (hfu : 1000 < fu)
include hs hfu
theorem Attach_no {a : Int} (h : frightB f = false ∨ inB f a = false) : Shade_Attach_m fu f a = some (f, -1, 1) := by
  unfold Shade_Attach_m; rw [sh_no1 hfu (hs.fit hfu) h]; rfl
omit hfu in
theorem attach_j1 {n : Int} {x : Node} (hx : idx f.Nodes n = some x) : Shade_Attach_j1 fu f n x () = some (if x.Under = -1 then (if ((f.Nodes.length : Nat) : Int) = f.Most then (f, -1, 8) else (attachF f n x, ((f.Nodes.length : Nat) : Int), 0)) else (f, -1, 10)) := by
  have := hs.few
  unfold Shade_Attach_j1
  rw [cnd_ne, cnd_eq, nodes_clone (by omega), bnd_some, roomy_ok (by simp; omega), bnd_some, idx_app hx, bnd_some]
  split
  · split <;> rfl
  · rfl
theorem attach_ok {n : Int} {x : Node} (hr : frightB f = true) (hx : idx f.Nodes n = some x) : Shade_Attach_m fu f n = some (attachR f n x) := by
  have := hs.few
  unfold Shade_Attach_m attachR attachB
  rw [sh1 hfu (hs.fit hfu) hr (idx_range hx), bnd_some, Bool.not_true, cnd_false, hx, bnd_some, cnd_ne, ncustom_ok (by omega), bnd_some, attach_j1 hs hx]
  by_cases h1 : x.Kind = 1
  · rw [if_pos h1, h1]
    unfold Shade_hosts_m
    rw [bnd_some]
    have hc : Slices_Contains_string_m fu [[100, 105, 118], [112], [115, 112, 97, 110]] x.Name = some (hostsL.contains x.Name) := scontains_ok (by simp; omega) (by simp)
    rw [hc, bnd_some]
    cases customB x.Name with
    | true => rfl
    | false =>
      cases hostsL.contains x.Name with
      | true => rfl
      | false => rfl
  · have e : (x.Kind == 1) = false := beq_eq_false_iff_ne.2 h1
    rw [if_neg h1, e]; rfl
theorem rattach_ok {n : Int} {x : Node} (hr : frightB f = true) (hx : idx f.Nodes n = some x) : Instarref04_Attach_m fu f n = some (attachR f n x) := by
  have := hs.few
  have hmost : ((f.Nodes.length : Nat) : Int) ≤ f.Most := by
    unfold frightB at hr
    simp only [Bool.and_eq_true, decide_eq_true_eq] at hr
    exact hr.2.2.2.1
  have j1 : Instarref04_Attach_j1 fu f n x () = some (if x.Under = -1 then (if ((f.Nodes.length : Nat) : Int) = f.Most then (f, -1, 8) else (attachF f n x, ((f.Nodes.length : Nat) : Int), 0)) else (f, -1, 10)) := by
    unfold Instarref04_Attach_j1 Instarref03_Bare_m
    rw [cnd_ne, cnd_dec, bnd_some, List.nil_append, roomy_ok (by simp; omega), bnd_some, roomy_ok (by simp; omega), bnd_some, idx_app hx, bnd_some]
    by_cases hu : x.Under = -1
    · rw [if_pos hu, if_pos hu]
      by_cases hm : ((f.Nodes.length : Nat) : Int) = f.Most
      · rw [if_pos (by omega), if_pos hm]
      · rw [if_neg (by omega), if_neg hm]; rfl
    · rw [if_neg hu, if_neg hu]
  unfold Instarref04_Attach_m attachR attachB
  rw [hx, bnd_some, cnd_ne, rcustom_ok (by omega), bnd_some, one_ok (by decide) (by simp; omega), bnd_some, hosts_one, j1]
  by_cases h1 : x.Kind = 1
  · rw [if_pos h1, h1]
    cases customB x.Name with
    | true => rfl
    | false =>
      cases hostsL.contains x.Name with
      | true => rfl
      | false => rfl
  · have e : (x.Kind == 1) = false := beq_eq_false_iff_ne.2 h1
    rw [if_neg h1, e]; rfl
theorem attach_same {n : Int} {x : Node} (hx : idx f.Nodes n = some x) : Instarref03_Same_m fu (attachR f n x).1 (attachR f n x).1 = some true := by
  have hfew := hs.few
  have old : ∀ y ∈ f.Nodes, y.Attrs.length ≤ 1000 ∧ y.Kids.length ≤ 1000 := fun y hy => ⟨by have := hs.attrs y hy; omega, by have := hs.kids y hy; omega⟩
  have hF : Instarref03_Same_m fu (attachF f n x) (attachF f n x) = some true := by
    refine same_refl hfu (by unfold attachF; simp; omega) fun y hy => ?_
    unfold attachF at hy
    rcases List.mem_or_eq_of_mem_set hy with hy | hy
    · rcases List.mem_append.1 hy with hy | hy
      · exact old y hy
      · simp at hy; subst hy; simp [shadeN]
    · subst hy; exact old x (idx_mem hx)
  have hf := hs.same hfu
  unfold attachR
  split
  · split
    · split
      · exact hf
      · exact hF
    · exact hf
  · exact hf
theorem sright_j1 {a b : Int} (h : frightB f = false ∨ inB f a = false) : Instarlaw04_ShadeRight_j1 fu f a b (f, -1, 1) () = some true := by
  have hk := hs.fit hfu
  have h2 : frightB f = false ∨ inB f a = false ∨ inB f b = false := h.imp id .inl
  have h3 : frightB f = false ∨ inB f b = false ∨ inB f a = false := h.imp id .inr
  have e1 : Shade_Top_m fu f a = some (-1) := by unfold Shade_Top_m; rw [sh_no1 hfu hk h]; rfl
  have e2 : Shade_Connected_m fu f a = some false := by unfold Shade_Connected_m; rw [e1]; rfl
  have e3 : Shade_All_m fu f a = some [] := by unfold Shade_All_m; rw [sh_no1 hfu hk h]; rfl
  have e4 : Shade_Elems_m fu f a = some [] := by
    unfold Shade_Elems_m
    rw [e3, bnd_some, deleteF_ok (p := fun _ => true) (fun x hx => by simp at hx) (by simp; omega) (by simp)]; rfl
  have e5 : Shade_Over_m fu f a b = some false := by unfold Shade_Over_m; rw [sh_no2 hfu hk h2]; rfl
  have e6 : Shade_Over_m fu f b a = some false := by unfold Shade_Over_m; rw [sh_no2 hfu hk h3]; rfl
  unfold Instarlaw04_ShadeRight_j1
  simp only
  rw [hs.same hfu, e1, e2, e3, e4, e5, e6]
  rfl
end
theorem shadeRight (f : Forest) (a b : Int) : ∃ fu, Instarlaw04_ShadeRight_m fu f a b = some true := by
  refine ⟨2000, ?_⟩
  unfold Instarlaw04_ShadeRight_m
  rw [awake04, bnd_some, Bool.not_true, cnd_false]
  generalize hfu' : (2000 : Nat) = fu
  have hfu : 1000 < fu := by omega
  obtain ⟨r, h1, h2⟩ := short_small (fu := fu) (f := f) hfu
  rw [h1, bnd_some]
  cases r with
  | false => rfl
  | true =>
    have hs := h2 rfl
    have hk := hs.fit hfu
    have hfew := hs.few
    rw [Bool.not_true, cnd_false, rright3_ok hfu hk]
    cases hr : frightB f with
    | false =>
      rw [Attach_no hs hfu (.inl hr), bnd_some, bnd_some, Bool.not_false, cnd_true, sright_j1 hs hfu (.inl hr)]
    | true =>
      by_cases ha : InN f.Nodes a
      case neg =>
        have hb : inB f a = false := decide_eq_false ha
        rw [Attach_no hs hfu (.inr hb), bnd_some, bnd_some, Bool.not_true, cnd_false, cnd_dec, cnd_dec, sright_j1 hs hfu (.inr hb)]
        by_cases a1 : a < 0
        · rw [if_pos a1]
        · rw [if_neg a1, if_pos (by unfold InN at ha; omega)]
      obtain ⟨x, hx⟩ := idx_some ha
      have U := right_full hr
      have hl := U.all_len ha
      have hle : (elemsU f.Nodes a).length ≤ 100 := Nat.le_trans (List.length_filter_le _ _) (by omega)
      rw [attach_ok hs hfu hr hx, bnd_some, bnd_some, Bool.not_true, cnd_false, cnd_neg (by unfold InN at ha; simp; omega), cnd_neg (by unfold InN at ha; simp; omega), rattach_ok hs hfu hr hx, bnd_some, attach_same hs hfu hx, bnd_some, Bool.not_true, cnd_false, cnd_neg (by simp), cnd_neg (by simp)]
      rw [Top_ok hs hfu hr ha, bnd_some, rTop_ok hs hfu hr ha, bnd_some, cnd_neg (by simp), Conn_ok hs hfu hr ha, bnd_some, rConn_ok hs hfu hr ha, bnd_some, cnd_neg (by simp), All_ok hs hfu hr ha, bnd_some, rAll_ok hs hfu hr ha, bnd_some, ints_ok (by omega) (by omega), bnd_some, cnd_neg (by simp), Elems_ok hs hfu hr ha, bnd_some, rElems_ok hs hfu hr ha, bnd_some, ints_ok (by omega) (by omega), bnd_some, cnd_neg (by simp), cnd_dec, cnd_dec]
      by_cases hb : InN f.Nodes b
      case neg =>
        have hb' : inB f b = false := decide_eq_false hb
        have e5 : Shade_Over_m fu f a b = some false := by unfold Shade_Over_m; rw [sh_no2 hfu hk (.inr (.inr hb'))]; rfl
        rw [e5, bnd_some]
        by_cases b1 : b < 0
        · rw [if_pos b1]; rfl
        · rw [if_neg b1, if_pos (by unfold InN at hb; omega)]; rfl
      rw [if_neg (by unfold InN at hb; omega), if_neg (by unfold InN at hb; omega), Over_ok hs hfu hr ha hb, bnd_some, rOver_ok hs hfu hr ha hb, bnd_some]
      simp
end Go.Proofs.Ytcaepigodglihaa
