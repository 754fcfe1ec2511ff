/- What the models of lab and of the reference for it come to. -/
import Derived.Test.YtcojcgljfgljjaaG
import Derived.Test.YtcojcgljfgljjaaPlain
namespace Go.Proofs.Ytcojcgljfgljjaa
open Go Go.Pw

def sw {α : Type} [DecidableEq α] (a b x : α) : α := if x = a then b else if x = b then a else x

theorem other_int (fu : Nat) (x a b : Int) : Lab_other_int_m fu x a b = some (sw a b x) := by
  unfold Lab_other_int_m sw
  rw [cnd_eq, cnd_eq]; split
  · rfl
  · split <;> rfl
theorem other_str (fu : Nat) (x a b : Bs) : Lab_other_string_m fu x a b = some (sw a b x) := by
  unfold Lab_other_string_m sw
  rw [cnd_eq, cnd_eq]; split
  · rfl
  · split <;> rfl
theorem number_ok (fu : Nat) (x a b : Int) : Instarref25_Number_m fu x a b = some (sw a b x) := other_int fu x a b
theorem rname_ok (fu : Nat) (x a b : Bs) : Instarref25_Name_m fu x a b = some (sw a b x) := other_str fu x a b

theorem clone_op (fu : Nat) (l : List Op) (h : l.length ≤ 1000000) : Slices_Clone_apiOp_m fu l = some l := by
  unfold Slices_Clone_apiOp_m; rw [roomy_ok (by simp; omega)]; rfl
theorem clone_class (fu : Nat) (l : List Class) (h : l.length ≤ 1000000) : Slices_Clone_apiClass_m fu l = some l := by
  unfold Slices_Clone_apiClass_m; rw [roomy_ok (by simp; omega)]; rfl
theorem clone_hook (fu : Nat) (l : List Hook) (h : l.length ≤ 1000000) : Slices_Clone_apiHook_m fu l = some l := by
  unfold Slices_Clone_apiHook_m; rw [roomy_ok (by simp; omega)]; rfl
theorem clone_mark (fu : Nat) (l : List Mark) (h : l.length ≤ 1000000) : Slices_Clone_apiMark_m fu l = some l := by
  unfold Slices_Clone_apiMark_m; rw [roomy_ok (by simp; omega)]; rfl
theorem clone_node (fu : Nat) (l : List Node) (h : l.length ≤ 1000000) : Slices_Clone_apiNode_m fu l = some l := by
  unfold Slices_Clone_apiNode_m; rw [roomy_ok (by simp; omega)]; rfl

theorem program_ok {fu : Nat} {t : Op → Option Op} {g : Op → Op} {l : List Op} (ht : ∀ x ∈ l, t x = some (g x)) (hf : l.length < fu) (hb : l.length ≤ 1000000) : Lab_program_m fu t l = some (l.map g) := by
  unfold Lab_program_m
  rw [clone_op _ _ hb, bnd_some]
  have := upf (L := Lab_program_l1 t l) (f := fun i => ((i : Int), mix g l i)) (v := some (l.map g)) l.length (fun i hi k => ?_) (fun k => ?_) hf
  · simpa [mix_zero] using this
  · simp only [Lab_program_l1]
    rw [cnd_pos (by simpa using hi), mix_at g hi, bnd_some, ht _ (List.getElem_mem hi), bnd_some, bnd_some, rng_nat (by omega), bnd_some, mix_set g hi]
  · simp only [Lab_program_l1]
    rw [cnd_neg (by simp), mix_end]

/-- A class whose operations are each turned. -/
def turnC (g : Op → Op) (c : Class) : Class := ⟨c.Form, c.Watch, c.Peek.map g, c.Make.map g, c.Hooks.map fun h => ⟨h.Kind, h.Do.map g⟩⟩
def turnS (g : Op → Op) (s : Script) : Script := ⟨s.Classes.map (turnC g), s.Main.map g⟩

/-- All lists of operations of a script. -/
def ListsC (Q : List Op → Prop) (c : Class) : Prop := Q c.Peek ∧ Q c.Make ∧ ∀ h ∈ c.Hooks, Q h.Do
def ListsS (Q : List Op → Prop) (s : Script) : Prop := Q s.Main ∧ ∀ c ∈ s.Classes, ListsC Q c

theorem script_ok {fu : Nat} {t : Op → Option Op} {g : Op → Op} {s : Script} (ht : ListsS (fun l => l.length < fu ∧ l.length ≤ 1000000 ∧ ∀ x ∈ l, t x = some (g x)) s) (hc : s.Classes.length < fu ∧ s.Classes.length ≤ 1000000) (hh : ∀ c ∈ s.Classes, c.Hooks.length < fu ∧ c.Hooks.length ≤ 1000000) :
    Lab_script_m fu t s = some (turnS g s) := by
  unfold Lab_script_m
  rw [clone_class _ _ hc.2, bnd_some, program_ok ht.1.2.2 ht.1.1 ht.1.2.1, bnd_some]
  have := upf (L := Lab_script_l1 fu t s.Classes (s.Main.map g)) (f := fun i => ((i : Int), mix (turnC g) s.Classes i)) (v := some (turnS g s)) s.Classes.length (fun i hi k => ?_) (fun k => ?_) hc.1
  · simpa [mix_zero] using this
  · have hm := List.getElem_mem hi
    obtain ⟨⟨p1, p2, p3⟩, ⟨m1, m2, m3⟩, hd⟩ := ht.2 _ hm
    obtain ⟨h1, h2⟩ := hh _ hm
    simp only [Lab_script_l1]
    rw [cnd_pos (by simpa using hi), mix_at _ hi, bnd_some, program_ok p3 p1 p2, bnd_some, program_ok m3 m1 m2, bnd_some, clone_hook _ _ h2, bnd_some]
    have := upf (L := Lab_script_l2 fu t (i : Int) (mix (turnC g) s.Classes i) s.Classes[i] (s.Classes[i].Peek.map g) (s.Classes[i].Make.map g) s.Classes[i].Hooks (Lab_script_l1 fu t s.Classes (s.Main.map g) k))
      (f := fun j => ((j : Int), mix (fun h : Hook => ⟨h.Kind, h.Do.map g⟩) s.Classes[i].Hooks j)) (v := Lab_script_l1 fu t s.Classes (s.Main.map g) k (((i + 1 : Nat) : Int), mix (turnC g) s.Classes (i + 1))) s.Classes[i].Hooks.length (fun j hj k2 => ?_) (fun k2 => ?_) h1
    · simpa [mix_zero] using this
    · obtain ⟨d1, d2, d3⟩ := hd _ (List.getElem_mem hj)
      simp only [Lab_script_l2]
      rw [cnd_pos (by simpa using hj), mix_at _ hj, bnd_some, program_ok d3 d1 d2, bnd_some, bnd_some, rng_nat (by omega), bnd_some, mix_set (fun h : Hook => ⟨h.Kind, h.Do.map g⟩) hj]
    · simp only [Lab_script_l2]
      rw [cnd_neg (by simp), mix_at _ hi, bnd_some, rng_nat (by omega), bnd_some, mix_end]
      exact congrArg (fun l => Lab_script_l1 fu t s.Classes (s.Main.map g) k (((i + 1 : Nat) : Int), l)) (mix_set (turnC g) hi)
  · simp only [Lab_script_l1]
    rw [cnd_neg (by simp), mix_end]; rfl

/-! ## Classes exchanged -/
def opC (a b : Int) (o : Op) : Op := if o.Kind = 16 ∨ o.Kind = 19 then { o with A := sw a b o.A } else o
theorem classes1_ok (fu : Nat) (o : Op) (a b : Int) : Lab_Classes_1_m fu o a b = some (opC a b o) := by
  unfold Lab_Classes_1_m opC
  by_cases h1 : o.Kind = 16
  · simp [h1, other_int]
  · by_cases h2 : o.Kind = 19 <;> simp [h1, h2, other_int, cnd_if]
theorem classed_ok {fu : Nat} {l : List Op} {a b : Int} (hf : l.length < fu) (hb : l.length ≤ 1000000) : Instarref25_classed_m fu l a b = some (l.map (opC a b)) := by
  unfold Instarref25_classed_m
  refine up_app (L := Instarref25_classed_l1 fu l a b) l (opC a b) _ (fun i hi k acc ha => ?_) (fun k => ?_) hf
  · simp only [Instarref25_classed_l1]
    rw [cnd_pos (by simpa using hi), idx_lt hi, bnd_some]
    have hr : roomy 72 (acc.length + 1) = some () := roomy_ok (by omega)
    generalize l[i] = y
    by_cases h1 : y.Kind = 16
    · simp [h1, number_ok, hr, rng_nat (show i ≤ 9223372036854775806 by omega), opC]
    · by_cases h2 : y.Kind = 19 <;> simp [cnd_eq, h1, h2, number_ok, hr, rng_nat (show i ≤ 9223372036854775806 by omega), opC]
  · simp only [Instarref25_classed_l1]
    rw [cnd_neg (by simp)]

theorem sw_nat (a b i : Nat) : sw (a : Int) (b : Int) (i : Int) = ((sw a b i : Nat) : Int) := by
  unfold sw
  by_cases h1 : i = a
  · simp [h1]
  · by_cases h2 : i = b
    · subst h2; simp [h1]
    · simp [h1, h2, Int.ofNat_inj]
def swL {α : Type} (l : List α) (a b : Nat) (x y : α) : List α := (l.set a y).set b x
theorem swL_at {α : Type} {l : List α} {a b : Nat} (ha : a < l.length) (hb : b < l.length) {i : Nat} (h : i < (swL l a b l[a] l[b]).length) (h' : sw a b i < l.length) : (swL l a b l[a] l[b])[i] = l[sw a b i] := by
  simp only [swL, List.getElem_set]
  by_cases h1 : b = i
  · subst h1
    by_cases h2 : b = a
    · subst h2; simp [sw]
    · simp [sw, h2]
  · by_cases h2 : a = i
    · subst h2; simp [sw, h1]
    · have h3 : ¬ i = a := fun e => h2 e.symm
      have h4 : ¬ i = b := fun e => h1 e.symm
      simp [sw, h1, h2, h3, h4]
theorem swL_len {α : Type} (l : List α) (a b : Nat) (x y : α) : (swL l a b x y).length = l.length := by simp [swL]
theorem sw_lt {a b i n : Nat} (ha : a < n) (hb : b < n) (hi : i < n) : sw a b i < n := by
  unfold sw
  split
  · exact hb
  · split <;> assumption

/-- What is asked of a script's sizes. -/
def Fits (fu : Nat) (s : Script) : Prop := ListsS (fun l => l.length < fu ∧ l.length ≤ 1000000) s ∧ (s.Classes.length < fu ∧ s.Classes.length ≤ 1000000) ∧ ∀ c ∈ s.Classes, c.Hooks.length < fu ∧ c.Hooks.length ≤ 1000000
theorem ListsC.imp {Q R : List Op → Prop} (h : ∀ l, Q l → R l) {c : Class} (hc : ListsC Q c) : ListsC R c := ⟨h _ hc.1, h _ hc.2.1, fun x hx => h _ (hc.2.2 x hx)⟩
theorem ListsS.imp {Q R : List Op → Prop} (h : ∀ l, Q l → R l) {s : Script} (hs : ListsS Q s) : ListsS R s := ⟨h _ hs.1, fun c hc => (hs.2 c hc).imp h⟩

/-- Classes exchanged, as the document says. -/
def clsS (a b : Int) (s : Script) : Script :=
  if h : 0 ≤ a ∧ 0 ≤ b ∧ a < s.Classes.length ∧ b < s.Classes.length then
    ⟨swL (s.Classes.map (turnC (opC a b))) a.toNat b.toNat (turnC (opC a b) (s.Classes[a.toNat]'(by omega))) (turnC (opC a b) (s.Classes[b.toNat]'(by omega))), s.Main.map (opC a b)⟩
  else s
theorem labClasses_ok {fu : Nat} {s : Script} {a b : Int} (h : Fits fu s) : Lab_Classes_m fu s a b = some (clsS a b s) := by
  unfold Lab_Classes_m
  rw [cnd_dec, cnd_dec]
  by_cases h1 : min a b < 0
  · rw [if_pos h1, clsS, dif_neg (by omega)]
  rw [if_neg h1]
  by_cases h2 : max a b ≥ ((s.Classes.length : Nat) : Int)
  · rw [if_pos h2, clsS, dif_neg (by omega)]
  rw [if_neg h2, script_ok (g := opC a b) (h.1.imp fun l hl => ⟨hl.1, hl.2, fun x _ => classes1_ok fu x a b⟩) h.2.1 h.2.2, bnd_some, clsS, dif_pos (by omega)]
  obtain ⟨a, rfl⟩ := Int.eq_ofNat_of_zero_le (show 0 ≤ a by omega)
  obtain ⟨b, rfl⟩ := Int.eq_ofNat_of_zero_le (show 0 ≤ b by omega)
  have ha : a < s.Classes.length := by omega
  have hb : b < s.Classes.length := by omega
  simp only [turnS, idx_nat, List.getElem?_map, List.getElem?_eq_getElem ha, List.getElem?_eq_getElem hb, Option.map_some, bnd_some, Int.toNat_natCast]
  have : ∃ y, ((s.Classes.map (turnC (opC (a : Int) (b : Int)))).set a (turnC (opC a b) s.Classes[b]))[b]? = some y := ⟨_, List.getElem?_eq_getElem (by simpa using hb)⟩
  obtain ⟨y, hy⟩ := this
  rw [hy]; rfl

theorem refClasses_ok {fu : Nat} {s : Script} {a b : Int} (h : Fits fu s) : Instarref25_Classes_m fu s a b = some (clsS a b s) := by
  unfold Instarref25_Classes_m
  rw [cnd_dec, cnd_dec, cnd_dec, cnd_dec]
  by_cases h1 : a < 0
  · rw [if_pos h1, clsS, dif_neg (by omega)]
  rw [if_neg h1]
  by_cases h2 : b < 0
  · rw [if_pos h2, clsS, dif_neg (by omega)]
  rw [if_neg h2]
  by_cases h3 : a ≥ ((s.Classes.length : Nat) : Int)
  · rw [if_pos h3, clsS, dif_neg (by omega)]
  rw [if_neg h3]
  by_cases h4 : b ≥ ((s.Classes.length : Nat) : Int)
  · rw [if_pos h4, clsS, dif_neg (by omega)]
  rw [if_neg h4, classed_ok h.1.1.1 h.1.1.2, bnd_some, clsS, dif_pos (by omega)]
  obtain ⟨a, rfl⟩ := Int.eq_ofNat_of_zero_le (show 0 ≤ a by omega)
  obtain ⟨b, rfl⟩ := Int.eq_ofNat_of_zero_le (show 0 ≤ b by omega)
  have ha : a < s.Classes.length := by omega
  have hb : b < s.Classes.length := by omega
  have hlen : (swL (s.Classes.map (turnC (opC (a : Int) (b : Int)))) a b (turnC (opC a b) s.Classes[a]) (turnC (opC a b) s.Classes[b])).length = s.Classes.length := by rw [swL_len]; simp
  refine up_app (L := Instarref25_Classes_l1 fu s a b (s.Main.map (opC a b))) (swL (s.Classes.map (turnC (opC (a : Int) (b : Int)))) a b (turnC (opC a b) s.Classes[a]) (turnC (opC a b) s.Classes[b])) (fun c => c) _ (fun i hi k acc hacc => ?_) (fun k => ?_) (by rw [hlen]; exact h.2.1.1)
  · have hi' := hlen ▸ hi
    have hs := sw_lt ha hb hi'
    have hm := List.getElem_mem hs
    obtain ⟨p, q, hd⟩ := h.1.2 _ hm
    obtain ⟨g1, g2⟩ := h.2.2 _ hm
    have hT : (swL (s.Classes.map (turnC (opC (a : Int) (b : Int)))) a b (turnC (opC a b) s.Classes[a]) (turnC (opC a b) s.Classes[b]))[i] = turnC (opC a b) s.Classes[sw a b i] := by
      have := swL_at (l := s.Classes.map (turnC (opC (a : Int) (b : Int)))) (a := a) (b := b) (by simpa using ha) (by simpa using hb) (i := i) (by rw [swL_len]; simpa using hi') (by simpa using hs)
      simpa using this
    rw [hT]
    simp only [Instarref25_Classes_l1]
    rw [cnd_pos (by simpa using hi'), number_ok, bnd_some, sw_nat, idx_lt hs, bnd_some, classed_ok p.1 p.2, bnd_some, classed_ok q.1 q.2, bnd_some]
    generalize s.Classes[sw a b i] = c at hd g1 g2
    have hlt := h.2.1.2
    refine up_app (L := Instarref25_Classes_l2 fu a b (i : Int) acc c (c.Peek.map (opC a b)) (c.Make.map (opC a b)) (Instarref25_Classes_l1 fu s a b (s.Main.map (opC a b)) k)) c.Hooks (fun h : Hook => ⟨h.Kind, h.Do.map (opC a b)⟩) _ (fun j hj k2 acc2 hacc2 => ?_) (fun k2 => ?_) g1
    · obtain ⟨d1, d2⟩ := hd _ (List.getElem_mem hj)
      simp only [Instarref25_Classes_l2]
      rw [cnd_pos (by simpa using hj), idx_lt hj, bnd_some, bnd_some, classed_ok d1 d2, bnd_some, roomy_ok (by simp; omega), bnd_some, rng_nat (by omega), bnd_some]
    · simp only [Instarref25_Classes_l2]
      rw [cnd_neg (by simp), roomy_ok (by simp; omega), bnd_some, rng_nat (by omega), bnd_some]; rfl
  · simp only [Instarref25_Classes_l1]
    rw [hlen, cnd_neg (by simp), List.map_id']; rfl

/-! ## The comparisons, of a thing with itself -/
theorem eqOp_refl (x : Op) : eqOp x x = true := by simp [eqOp]
theorem eqMark_refl (x : Mark) : eqMark x x = true := by simp [eqMark]
theorem ops_refl {fu : Nat} {l : List Op} (hf : l.length < fu) (hb : l.length ≤ 1000000) : Instarref12_Ops_m fu l l = some true := by
  unfold Instarref12_Ops_m
  rw [cnd_ne, if_pos rfl]
  refine upf (L := Instarref12_Ops_l1 l l) (f := fun i => (i : Int)) (v := some true) l.length (fun i hi k => ?_) (fun k => ?_) hf
  · simp only [Instarref12_Ops_l1]
    rw [cnd_pos (by simpa using hi), idx_lt hi, bnd_some, bnd_some, eqOp_refl, Bool.not_true, cnd_false, rng_nat (by omega), bnd_some]
  · simp only [Instarref12_Ops_l1]
    rw [cnd_neg (by simp)]
def FitC (fu : Nat) (c : Class) : Prop := ListsC (fun l => l.length < fu ∧ l.length ≤ 1000000) c ∧ (c.Hooks.length < fu ∧ c.Hooks.length ≤ 1000000) ∧ (c.Watch.length < fu ∧ c.Watch.length ≤ 1000000)
theorem alike_refl {fu : Nat} {c : Class} (h : FitC fu c) : Instarref12_Alike_m fu c c = some true := by
  unfold Instarref12_Alike_m
  obtain ⟨⟨p, q, d⟩, h1, h2⟩ := h
  rw [beq_self_eq_true, Bool.not_true, cnd_false, cnd_ne, if_pos rfl, ops_refl p.1 p.2, bnd_some, cnd_not, cnd_true, ops_refl q.1 q.2, bnd_some, cnd_not, cnd_true, cnd_ne, if_pos rfl]
  refine upf (L := Instarref12_Alike_l1 fu c c) (f := fun i => (i : Int)) (v := some true) c.Watch.length (fun i hi k => ?_) (fun k => ?_) h2.1
  · simp only [Instarref12_Alike_l1]
    rw [cnd_pos (by simpa using hi), idx_lt hi, bnd_some, bnd_some, beq_self_eq_true, Bool.not_true, cnd_false, rng_nat (by omega), bnd_some]
  · simp only [Instarref12_Alike_l1]
    rw [cnd_neg (by simp)]
    refine upf (L := Instarref12_Alike_l2 fu c c) (f := fun i => (i : Int)) (v := some true) c.Hooks.length (fun i hi k => ?_) (fun k => ?_) h1.1
    · obtain ⟨d1, d2⟩ := d _ (List.getElem_mem hi)
      simp only [Instarref12_Alike_l2]
      rw [cnd_pos (by simpa using hi), idx_lt hi, bnd_some, bnd_some, cnd_ne, if_pos rfl, bnd_some, bnd_some, ops_refl d1 d2, bnd_some, cnd_not, cnd_true, rng_nat (by omega), bnd_some]
    · simp only [Instarref12_Alike_l2]
      rw [cnd_neg (by simp)]
theorem classes_refl {fu : Nat} {l : List Class} (hf : l.length < fu) (hb : l.length ≤ 1000000) (h : ∀ c ∈ l, FitC fu c) : Instarref17_Classes_m fu l l = some true := by
  unfold Instarref17_Classes_m
  rw [cnd_ne, if_pos rfl]
  refine upf (L := Instarref17_Classes_l1 fu l l) (f := fun i => (i : Int)) (v := some true) l.length (fun i hi k => ?_) (fun k => ?_) hf
  · simp only [Instarref17_Classes_l1]
    rw [cnd_pos (by simpa using hi), idx_lt hi, bnd_some, bnd_some, alike_refl (h _ (List.getElem_mem hi)), bnd_some, cnd_not, cnd_true, rng_nat (by omega), bnd_some]
  · simp only [Instarref17_Classes_l1]
    rw [cnd_neg (by simp)]
def FitS (fu : Nat) (s : Script) : Prop := (s.Main.length < fu ∧ s.Main.length ≤ 1000000) ∧ (s.Classes.length < fu ∧ s.Classes.length ≤ 1000000) ∧ ∀ c ∈ s.Classes, FitC fu c
theorem FitS.fits {fu : Nat} {s : Script} (h : FitS fu s) : Fits fu s := ⟨⟨h.1, fun c hc => (h.2.2 c hc).1⟩, h.2.1, fun c hc => (h.2.2 c hc).2.1⟩
theorem same_refl {fu : Nat} {s : Script} (h : FitS fu s) : Instarref22_Same_m fu s s = some true := by
  unfold Instarref22_Same_m
  rw [classes_refl h.2.1.1 h.2.1.2 h.2.2, bnd_some, cnd_true, ops_refl h.1.1 h.1.2, bnd_some]
theorem fitC_turn {fu : Nat} {c : Class} (g : Op → Op) (h : FitC fu c) : FitC fu (turnC g c) := by
  obtain ⟨⟨p, q, d⟩, h1, h2⟩ := h
  refine ⟨⟨by simpa [turnC] using p, by simpa [turnC] using q, fun x hx => ?_⟩, by simpa [turnC] using h1, h2⟩
  simp only [turnC, List.mem_map] at hx
  obtain ⟨y, hy, rfl⟩ := hx
  simpa using d y hy
theorem fitS_turn {fu : Nat} {s : Script} (g : Op → Op) (h : FitS fu s) : FitS fu (turnS g s) :=
  ⟨by simpa [turnS] using h.1, by simpa [turnS] using h.2.1, fun c hc => by
    simp only [turnS, List.mem_map] at hc
    obtain ⟨y, hy, rfl⟩ := hc
    exact fitC_turn g (h.2.2 y hy)⟩
theorem fitS_cls {fu : Nat} {s : Script} (a b : Int) (h : FitS fu s) : FitS fu (clsS a b s) := by
  unfold clsS
  split
  · refine ⟨by simpa using h.1, by simpa [swL_len] using h.2.1, fun c hc => ?_⟩
    simp only [swL] at hc
    rcases List.mem_or_eq_of_mem_set hc with hc | rfl
    · rcases List.mem_or_eq_of_mem_set hc with hc | rfl
      · obtain ⟨y, hy, rfl⟩ := List.mem_map.1 hc
        exact fitC_turn _ (h.2.2 y hy)
      · exact fitC_turn _ (h.2.2 _ (List.getElem_mem _))
    · exact fitC_turn _ (h.2.2 _ (List.getElem_mem _))
  · exact h
theorem classes_same {fu : Nat} {s : Script} {a b : Int} (h : FitS fu s) : ∃ r, Lab_Classes_m fu s a b = some r ∧ Instarref25_Classes_m fu s a b = some r ∧ Instarref22_Same_m fu r r = some true :=
  ⟨_, labClasses_ok h.fits, refClasses_ok h.fits, same_refl (fitS_cls a b h)⟩

/-! ## Marks -/
def mkC (a b : Int) (m : Mark) : Mark := if m.Kind = 3 ∨ m.Kind = 4 ∨ m.Kind = 8 ∨ m.Kind = 9 then { m with What := sw a b m.What } else m
theorem marks_ok {fu : Nat} {t : Nat → Mark → List Mark → Option (List Mark)} {g : Mark → Mark} {l : List Mark} (ht : ∀ (i : Nat) (x : Mark) (l' : List Mark), l'[i]? = some x → t i x l' = some (l'.set i (g x))) (hf : l.length < fu) (hb : l.length ≤ 1000000) : Lab_marks_m fu t l = some (l.map g) := by
  unfold Lab_marks_m
  rw [clone_mark _ _ hb, bnd_some]
  have := upf (L := Lab_marks_l1 t l) (f := fun i => ((i : Int), mix g l i)) (v := some (l.map g)) l.length (fun i hi k => ?_) (fun k => ?_) hf
  · simpa [mix_zero] using this
  · simp only [Lab_marks_l1]
    rw [cnd_pos (by simpa using hi), mix_at g hi, bnd_some, ht _ _ _ (by rw [Int.toNat_natCast, ← idx_nat]; exact mix_at g hi), bnd_some, rng_nat (by omega), bnd_some, mix_set g hi]
  · simp only [Lab_marks_l1]
    rw [cnd_neg (by simp), mix_end]
theorem marksClasses1_ok (fu i : Nat) (x : Mark) (l : List Mark) (a b : Int) (hi : l[i]? = some x) : Lab_MarksClasses_1_m fu i x l a b = some (l.set i (mkC a b x)) := by
  have hs : l.set i x = l := by
    obtain ⟨h, rfl⟩ := List.getElem?_eq_some_iff.1 hi
    exact List.set_getElem_self h
  unfold Lab_MarksClasses_1_m mkC
  simp only [cnd_eq, other_int, bnd_some]
  by_cases h1 : x.Kind = 3
  · simp [h1]
  by_cases h2 : x.Kind = 4
  · simp [h2]
  by_cases h3 : x.Kind = 8
  · simp [h3]
  by_cases h4 : x.Kind = 9
  · simp [h4]
  simp [h1, h2, h3, h4, hs]
theorem labMarksClasses_ok {fu : Nat} {l : List Mark} {a b : Int} (hf : l.length < fu) (hb : l.length ≤ 1000000) : Lab_MarksClasses_m fu l a b = some (l.map (mkC a b)) := by
  unfold Lab_MarksClasses_m
  rw [marks_ok (fun i x l' h => marksClasses1_ok fu i x l' a b h) hf hb, bnd_some]
theorem refMarksClasses_ok {fu : Nat} {l : List Mark} {a b : Int} (hf : l.length < fu) (hb : l.length ≤ 1000000) : Instarref25_MarksClasses_m fu l a b = some (l.map (mkC a b)) := by
  unfold Instarref25_MarksClasses_m
  refine up_app (L := Instarref25_MarksClasses_l1 fu l a b) l (mkC a b) _ (fun i hi k acc ha => ?_) (fun k => ?_) hf
  · simp only [Instarref25_MarksClasses_l1]
    rw [cnd_pos (by simpa using hi), idx_lt hi, bnd_some]
    have hr : roomy 120 (acc.length + 1) = some () := roomy_ok (by omega)
    have hn := rng_nat (show i ≤ 9223372036854775806 by omega)
    generalize l[i] = y
    simp only [cnd_eq, number_ok, bnd_some, List.length_singleton, hr, hn]
    by_cases h1 : y.Kind = 3
    · simp [h1, mkC]
    by_cases h2 : y.Kind = 4
    · simp [h2, mkC]
    by_cases h3 : y.Kind = 8
    · simp [h3, mkC]
    by_cases h4 : y.Kind = 9
    · simp [h4, mkC]
    simp [h1, h2, h3, h4, mkC]
  · simp only [Instarref25_MarksClasses_l1]
    rw [cnd_neg (by simp)]
theorem marks_refl {fu : Nat} {l : List Mark} (hf : l.length < fu) (hb : l.length ≤ 1000000) : Instarref20_Marks_m fu l l = some true := by
  unfold Instarref20_Marks_m
  rw [cnd_ne, if_pos rfl]
  refine upf (L := Instarref20_Marks_l1 l l) (f := fun i => (i : Int)) (v := some true) l.length (fun i hi k => ?_) (fun k => ?_) hf
  · simp only [Instarref20_Marks_l1]
    rw [cnd_pos (by simpa using hi), idx_lt hi, bnd_some, bnd_some, eqMark_refl, Bool.not_true, cnd_false, rng_nat (by omega), bnd_some]
  · simp only [Instarref20_Marks_l1]
    rw [cnd_neg (by simp)]
end Go.Proofs.Ytcojcgljfgljjaa
