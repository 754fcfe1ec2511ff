/- What the models of lab come to: names exchanged; what is calm; what is not too much. -/
import Derived.Test.YtcojcgljfgljjaaLab1
import Derived.Test.YtcojcgljfgljjaaNam1
namespace Go.Proofs.Ytcojcgljfgljjaa
open Go Go.Pw

theorem named_ok {fu : Nat} {x y : Bs} (hfu : 200 < fu) : Lab_named_m fu x y = some (customB x && customB y) := by
  unfold Lab_named_m
  rw [ncustom_ok hfu, bnd_some, ncustom_ok hfu, bnd_some]
  cases customB x <;> rfl
theorem both_ok {fu : Nat} {x y : Bs} (hfu : 200 < fu) : Instarref25_both_m fu x y = some (customB x && customB y) := by
  unfold Instarref25_both_m
  rw [rcustom_ok hfu, bnd_some, rcustom_ok hfu, bnd_some]
  cases customB x <;> rfl

/-! ## Names exchanged -/
def opN (x y : Bs) (o : Op) : Op :=
  let s1 := if (o.Kind = 1 ∨ o.Kind = 2) ∧ (o.S.map lower = x ∨ o.S.map lower = y) then sw x y (o.S.map lower) else o.S
  let s2 := if o.Kind = 16 ∨ o.Kind = 17 then sw x y s1 else s1
  { o with S := s2, T := if o.Kind = 1 ∨ o.Kind = 2 ∨ o.Kind = 16 then sw x y o.T else o.T }
theorem names1_ok {fu : Nat} {o : Op} {x y : Bs} (hf : o.S.length < fu) (hb : o.S.length ≤ 1000000) : Lab_Names_1_m fu o x y = some (opN x y o) := by
  unfold Lab_Names_1_m Lab_Names_1_j1 opN
  simp only [nsmall_ok hf hb, other_str, bnd_some, cnd_eq]
  by_cases h1 : o.Kind = 1
  · by_cases a1 : o.S.map lower = x
    · simp [h1, a1]
    · by_cases a2 : o.S.map lower = y <;> simp [h1, a1, a2]
  by_cases h2 : o.Kind = 2
  · by_cases a1 : o.S.map lower = x
    · simp [h2, a1]
    · by_cases a2 : o.S.map lower = y <;> simp [h2, a1, a2]
  by_cases h3 : o.Kind = 16
  · simp [h3]
  by_cases h4 : o.Kind = 17
  · simp [h4]
  simp [h1, h2, h3, h4]
theorem renamed_ok {fu : Nat} {l : List Op} {x y : Bs} (hf : l.length < fu) (hb : l.length ≤ 1000000) (hs : ∀ o ∈ l, o.S.length < fu ∧ o.S.length ≤ 1000000) : Instarref25_renamed_m fu l x y = some (l.map (opN x y)) := by
  unfold Instarref25_renamed_m
  refine up_app (L := Instarref25_renamed_l1 fu l x y) l (opN x y) _ (fun i hi k acc ha => ?_) (fun k => ?_) hf
  · simp only [Instarref25_renamed_l1]
    rw [cnd_pos (by simpa using hi), idx_lt hi, bnd_some]
    have hr : roomy 72 (acc.length + 1) = some () := roomy_ok (by omega)
    have hn : rng .i64 ((i : Int) + 1) = some ((i + 1 : Nat) : Int) := rng_nat (by omega)
    obtain ⟨s1, s2⟩ := hs _ (List.getElem_mem hi)
    generalize l[i] = o at s1 s2
    rw [rsmall_ok s1 s2, bnd_some]
    simp only [Instarref25_renamed_j1, Instarref25_renamed_j2, rname_ok, bnd_some, cnd_eq, List.length_singleton, hr, hn]
    generalize Instarref25_renamed_l1 fu l x y k = X
    unfold opN
    by_cases h1 : o.Kind = 1
    · by_cases a1 : o.S.map lower = x
      · simp [h1, a1]
      · by_cases a2 : o.S.map lower = y <;> simp [h1, a1, a2]
    by_cases h2 : o.Kind = 2
    · by_cases a1 : o.S.map lower = x
      · simp [h2, a1]
      · by_cases a2 : o.S.map lower = y <;> simp [h2, a1, a2]
    by_cases h3 : o.Kind = 16
    · simp [h3]
    by_cases h4 : o.Kind = 17
    · simp [h4]
    simp [h1, h2, h3, h4]
  · simp only [Instarref25_renamed_l1]
    rw [cnd_neg (by simp)]

/-- All texts of operations are short enough. -/
def Texts (fu : Nat) (s : Script) : Prop := ListsS (fun l => ∀ o ∈ l, o.S.length < fu ∧ o.S.length ≤ 1000000) s
def namS (x y : Bs) (s : Script) : Script := bif customB x && customB y then turnS (opN x y) s else s
theorem listsC_and {Q R : List Op → Prop} {c : Class} (h1 : ListsC Q c) (h2 : ListsC R c) : ListsC (fun l => Q l ∧ R l) c := ⟨⟨h1.1, h2.1⟩, ⟨h1.2.1, h2.2.1⟩, fun x hx => ⟨h1.2.2 x hx, h2.2.2 x hx⟩⟩
theorem listsS_and {Q R : List Op → Prop} {s : Script} (h1 : ListsS Q s) (h2 : ListsS R s) : ListsS (fun l => Q l ∧ R l) s := ⟨⟨h1.1, h2.1⟩, fun c hc => listsC_and (h1.2 c hc) (h2.2 c hc)⟩
theorem labNames_ok {fu : Nat} {s : Script} {x y : Bs} (h : Fits fu s) (ht : Texts fu s) (hfu : 200 < fu) : Lab_Names_m fu s x y = some (namS x y s) := by
  unfold Lab_Names_m namS
  rw [named_ok hfu, bnd_some, cnd_not]
  cases customB x && customB y
  · rfl
  · rw [cnd_true, script_ok (g := opN x y) ((listsS_and h.1 ht).imp fun l hl => ⟨hl.1.1, hl.1.2, fun o ho => names1_ok (hl.2 o ho).1 (hl.2 o ho).2⟩) h.2.1 h.2.2, bnd_some]; rfl
theorem refNames_ok {fu : Nat} {s : Script} {x y : Bs} (h : Fits fu s) (ht : Texts fu s) (hfu : 200 < fu) : Instarref25_Names_m fu s x y = some (namS x y s) := by
  unfold Instarref25_Names_m namS
  rw [both_ok hfu, bnd_some, cnd_not]
  cases customB x && customB y
  · rfl
  · rw [cnd_true, renamed_ok h.1.1.1 h.1.1.2 ht.1, bnd_some, cond_true]
    have hlt := h.2.1.2
    refine up_app (L := Instarref25_Names_l1 fu s x y (s.Main.map (opN x y))) s.Classes (turnC (opN x y)) _ (fun i hi k acc hacc => ?_) (fun k => ?_) h.2.1.1
    · have hm := List.getElem_mem hi
      obtain ⟨p, q, hd⟩ := h.1.2 _ hm
      obtain ⟨tp, tq, td⟩ := ht.2 _ hm
      obtain ⟨g1, g2⟩ := h.2.2 _ hm
      simp only [Instarref25_Names_l1]
      rw [cnd_pos (by simpa using hi), idx_lt hi, bnd_some, renamed_ok p.1 p.2 tp, bnd_some, renamed_ok q.1 q.2 tq, bnd_some]
      generalize s.Classes[i] = c at hd g1 g2 td
      refine up_app (L := Instarref25_Names_l2 fu x y (i : Int) acc c (c.Peek.map (opN x y)) (c.Make.map (opN x y)) (Instarref25_Names_l1 fu s x y (s.Main.map (opN x y)) k)) c.Hooks (fun h : Hook => ⟨h.Kind, h.Do.map (opN x y)⟩) _ (fun j hj k2 acc2 hacc2 => ?_) (fun k2 => ?_) g1
      · obtain ⟨d1, d2⟩ := hd _ (List.getElem_mem hj)
        simp only [Instarref25_Names_l2]
        rw [cnd_pos (by simpa using hj), idx_lt hj, bnd_some, bnd_some, renamed_ok d1 d2 (td _ (List.getElem_mem hj)), bnd_some, roomy_ok (by simp; omega), bnd_some, rng_nat (by omega), bnd_some]
      · simp only [Instarref25_Names_l2]
        rw [cnd_neg (by simp), roomy_ok (by simp; omega), bnd_some, rng_nat (by omega), bnd_some]; rfl
    · simp only [Instarref25_Names_l1]
      rw [cnd_neg (by simp)]; rfl
theorem fitS_nam {fu : Nat} {s : Script} (x y : Bs) (h : FitS fu s) : FitS fu (namS x y s) := by
  unfold namS
  cases customB x && customB y
  · exact h
  · exact fitS_turn _ h

/-! ## Marks and forests with names exchanged -/
def mkN (x y : Bs) (m : Mark) : Mark := if m.Kind = 8 then { m with Name := sw x y m.Name } else m
theorem marksNames1_ok (fu i : Nat) (m : Mark) (l : List Mark) (x y : Bs) (hi : l[i]? = some m) : Lab_MarksNames_1_m fu i m l x y = some (l.set i (mkN x y m)) := by
  have hs : l.set i m = l := by
    obtain ⟨h, rfl⟩ := List.getElem?_eq_some_iff.1 hi
    exact List.set_getElem_self h
  unfold Lab_MarksNames_1_m mkN
  simp only [cnd_eq, other_str, bnd_some]
  by_cases h1 : m.Kind = 8
  · simp [h1]
  · simp [h1, hs]
def mkNs (x y : Bs) (l : List Mark) : List Mark := bif customB x && customB y then l.map (mkN x y) else l
theorem labMarksNames_ok {fu : Nat} {l : List Mark} {x y : Bs} (hf : l.length < fu) (hb : l.length ≤ 1000000) (hfu : 200 < fu) : Lab_MarksNames_m fu l x y = some (mkNs x y l) := by
  unfold Lab_MarksNames_m mkNs
  rw [named_ok hfu, bnd_some, cnd_not]
  cases customB x && customB y
  · rfl
  · rw [cnd_true, marks_ok (fun i m l' h => marksNames1_ok fu i m l' x y h) hf hb, bnd_some]; rfl
theorem refMarksNames_ok {fu : Nat} {l : List Mark} {x y : Bs} (hf : l.length < fu) (hb : l.length ≤ 1000000) (hfu : 200 < fu) : Instarref25_MarksNames_m fu l x y = some (mkNs x y l) := by
  unfold Instarref25_MarksNames_m
  have e : mkNs x y l = l.map fun m => bif customB x && customB y then mkN x y m else m := by
    unfold mkNs
    cases customB x && customB y
    · simp
    · rfl
  rw [e]
  refine up_app (L := Instarref25_MarksNames_l1 fu l x y) l (fun m => bif customB x && customB y then mkN x y m else m) _ (fun i hi k acc ha => ?_) (fun k => ?_) hf
  · simp only [Instarref25_MarksNames_l1]
    rw [cnd_pos (by simpa using hi), idx_lt hi, bnd_some, both_ok hfu, bnd_some]
    have hr : roomy 120 (acc.length + 1) = some () := roomy_ok (by omega)
    have hn : rng .i64 ((i : Int) + 1) = some ((i + 1 : Nat) : Int) := rng_nat (by omega)
    generalize l[i] = m
    simp only [cnd_eq, rname_ok, bnd_some, List.length_singleton, hr, hn]
    unfold mkN
    cases customB x && customB y <;> by_cases h1 : m.Kind = 8 <;> simp [h1]
  · simp only [Instarref25_MarksNames_l1]
    rw [cnd_neg (by simp)]
theorem mkNs_len (x y : Bs) (l : List Mark) : (mkNs x y l).length = l.length := by unfold mkNs; cases customB x && customB y <;> simp

def ndN (x y : Bs) (n : Node) : Node := { n with Name := sw x y n.Name, Is := sw x y n.Is }
def frN (x y : Bs) (f : Forest) : Forest := bif customB x && customB y then ⟨f.Nodes.map (ndN x y), f.Most⟩ else f
theorem labForest_ok {fu : Nat} {f : Forest} {x y : Bs} (hf : f.Nodes.length < fu) (hb : f.Nodes.length ≤ 1000000) (hfu : 200 < fu) : Lab_ForestNames_m fu f x y = some (frN x y f) := by
  unfold Lab_ForestNames_m frN
  rw [named_ok hfu, bnd_some, cnd_not]
  cases customB x && customB y
  · rfl
  · rw [cnd_true, clone_node _ _ hb, bnd_some, cond_true]
    have := upf (L := Lab_ForestNames_l1 fu f x y f.Nodes) (f := fun i => ((i : Int), mix (ndN x y) f.Nodes i)) (v := some ⟨f.Nodes.map (ndN x y), f.Most⟩) f.Nodes.length (fun i hi k => ?_) (fun k => ?_) hf
    · simpa [mix_zero] using this
    · simp only [Lab_ForestNames_l1]
      rw [cnd_pos (by simpa using hi), mix_at _ hi, bnd_some, other_str, bnd_some, other_str, bnd_some, rng_nat (by omega), bnd_some, List.set_set]
      exact congrArg (fun l => Lab_ForestNames_l1 fu f x y f.Nodes k (((i + 1 : Nat) : Int), l)) (mix_set (ndN x y) hi)
    · simp only [Lab_ForestNames_l1]
      rw [cnd_neg (by simp), mix_end]
theorem refForest_ok {fu : Nat} {f : Forest} {x y : Bs} (hf : f.Nodes.length < fu) (hb : f.Nodes.length ≤ 1000000) (hfu : 200 < fu) : Instarref25_ForestNames_m fu f x y = some (frN x y f) := by
  unfold Instarref25_ForestNames_m
  have e : frN x y f = ⟨f.Nodes.map fun n => bif customB x && customB y then ndN x y n else n, f.Most⟩ := by
    unfold frN
    cases customB x && customB y
    · simp
    · rfl
  rw [e]
  refine up_app (L := Instarref25_ForestNames_l1 fu f x y) f.Nodes (fun n => bif customB x && customB y then ndN x y n else n) _ (fun i hi k acc ha => ?_) (fun k => ?_) hf
  · simp only [Instarref25_ForestNames_l1]
    rw [cnd_pos (by simpa using hi), idx_lt hi, bnd_some, both_ok hfu, bnd_some]
    have hr : roomy 136 (acc.length + 1) = some () := roomy_ok (by omega)
    have hn : rng .i64 ((i : Int) + 1) = some ((i + 1 : Nat) : Int) := rng_nat (by omega)
    generalize f.Nodes[i] = m
    simp only [rname_ok, bnd_some, List.length_singleton, hr, hn]
    unfold ndN
    cases customB x && customB y <;> rfl
  · simp only [Instarref25_ForestNames_l1]
    rw [cnd_neg (by simp)]
theorem eqAttr_refl (x : Attr) : eqAttr x x = true := by simp [eqAttr]
theorem attrs_refl {fu : Nat} {l : List Attr} (hf : l.length < fu) (hb : l.length ≤ 1000000) : Instarref02_Same_m fu l l = some true := by
  unfold Instarref02_Same_m
  rw [cnd_ne, if_pos rfl]
  refine upf (L := Instarref02_Same_l1 l l) (f := fun i => (i : Int)) (v := some true) l.length (fun i hi k => ?_) (fun k => ?_) hf
  · simp only [Instarref02_Same_l1]
    rw [cnd_pos (by simpa using hi), idx_lt hi, bnd_some, bnd_some, eqAttr_refl, Bool.not_true, cnd_false, rng_nat (by omega), bnd_some]
  · simp only [Instarref02_Same_l1]
    rw [cnd_neg (by simp)]
theorem ints_refl {fu : Nat} {l : List Int} (hf : l.length < fu) (hb : l.length ≤ 1000000) : Instarref03_Ints_m fu l l = some true := by
  unfold Instarref03_Ints_m
  rw [cnd_ne, if_pos rfl]
  refine upf (L := Instarref03_Ints_l1 l l) (f := fun i => (i : Int)) (v := some true) l.length (fun i hi k => ?_) (fun k => ?_) hf
  · simp only [Instarref03_Ints_l1]
    rw [cnd_pos (by simpa using hi), idx_lt hi, bnd_some, bnd_some, cnd_ne, if_pos rfl, rng_nat (by omega), bnd_some]
  · simp only [Instarref03_Ints_l1]
    rw [cnd_neg (by simp)]
def FitN (fu : Nat) (n : Node) : Prop := (n.Attrs.length < fu ∧ n.Attrs.length ≤ 1000000) ∧ (n.Kids.length < fu ∧ n.Kids.length ≤ 1000000)
theorem one_refl {fu : Nat} {n : Node} (h : FitN fu n) : Instarref03_One_m fu n n = some true := by
  unfold Instarref03_One_m
  simp [attrs_refl h.1.1 h.1.2, ints_refl h.2.1 h.2.2]
theorem forest_refl {fu : Nat} {f : Forest} (hf : f.Nodes.length < fu) (hb : f.Nodes.length ≤ 1000000) (h : ∀ n ∈ f.Nodes, FitN fu n) : Instarref03_Same_m fu f f = some true := by
  unfold Instarref03_Same_m
  rw [cnd_ne, if_pos rfl, cnd_ne, if_pos rfl]
  refine upf (L := Instarref03_Same_l1 fu f f) (f := fun i => (i : Int)) (v := some true) f.Nodes.length (fun i hi k => ?_) (fun k => ?_) hf
  · simp only [Instarref03_Same_l1]
    rw [cnd_pos (by simpa using hi), idx_lt hi, bnd_some, bnd_some, one_refl (h _ (List.getElem_mem hi)), bnd_some, Bool.not_true, cnd_false, rng_nat (by omega), bnd_some]
  · simp only [Instarref03_Same_l1]
    rw [cnd_neg (by simp)]

/-! ## Calm -/
def calmO (o : Op) : Bool := o.Kind == 3 || o.Kind == 4 || o.Kind == 17 || o.Kind == 20 || o.Kind == 21 || o.Kind == 22
theorem loud1_ok (fu : Nat) (o : Op) : Lab_loud_1_m fu o = some (!(calmO o)) := by
  unfold Lab_loud_1_m Lab_loud_1_j1 calmO
  by_cases h1 : o.Kind = 3
  · simp [h1]
  by_cases h2 : o.Kind = 4
  · simp [h2]
  by_cases h3 : o.Kind = 17
  · simp [h3]
  by_cases h4 : o.Kind = 20
  · simp [h4]
  by_cases h5 : o.Kind = 21
  · simp [h5]
  by_cases h6 : o.Kind = 22
  · simp [h6]
  simp [cnd_eq, h1, h2, h3, h4, h5, h6]
theorem containsOp_ok {fu : Nat} {t : Op → Option Bool} {p : Op → Bool} {l : List Op} (ht : ∀ x ∈ l, t x = some (p x)) (hf : l.length < fu) (hb : l.length ≤ 1000000) : Slices_ContainsFunc_apiOp_m fu t l = some (l.any p) := by
  unfold Slices_ContainsFunc_apiOp_m Slices_IndexFunc_apiOp_m
  obtain ⟨r, h1, h2⟩ := up_index (L := Slices_IndexFunc_apiOp_l1 t l) l p (fun i hi k => by
    simp only [Slices_IndexFunc_apiOp_l1]
    rw [cnd_pos (by simpa using hi), idx_lt hi, bnd_some, ht _ (List.getElem_mem hi), bnd_some, rng_nat (by omega), bnd_some]
    cases p l[i] <;> rfl) (fun k => by simp only [Slices_IndexFunc_apiOp_l1]; rw [cnd_neg (by simp)]) hf
  rw [h1, bnd_some, h2]
theorem containsHook_ok {fu : Nat} {t : Hook → Option Bool} {p : Hook → Bool} {l : List Hook} (ht : ∀ x ∈ l, t x = some (p x)) (hf : l.length < fu) (hb : l.length ≤ 1000000) : Slices_ContainsFunc_apiHook_m fu t l = some (l.any p) := by
  unfold Slices_ContainsFunc_apiHook_m Slices_IndexFunc_apiHook_m
  obtain ⟨r, h1, h2⟩ := up_index (L := Slices_IndexFunc_apiHook_l1 t l) l p (fun i hi k => by
    simp only [Slices_IndexFunc_apiHook_l1]
    rw [cnd_pos (by simpa using hi), idx_lt hi, bnd_some, ht _ (List.getElem_mem hi), bnd_some, rng_nat (by omega), bnd_some]
    cases p l[i] <;> rfl) (fun k => by simp only [Slices_IndexFunc_apiHook_l1]; rw [cnd_neg (by simp)]) hf
  rw [h1, bnd_some, h2]
theorem not_any {α : Type} (l : List α) (p : α → Bool) : (!(l.any fun x => !(p x))) = l.all p := by
  rw [List.all_eq_not_any_not]
theorem loud_ok {fu : Nat} {l : List Op} (hf : l.length < fu) (hb : l.length ≤ 1000000) : Lab_loud_m fu l = some (l.any fun o => !(calmO o)) := by
  unfold Lab_loud_m
  rw [containsOp_ok (p := fun o => !(calmO o)) (fun x _ => loud1_ok fu x) hf hb, bnd_some]
def calmL (l : List Op) : Bool := l.all calmO
def calmC (c : Class) : Bool := calmL c.Peek && calmL c.Make && c.Hooks.all fun h => calmL h.Do
theorem calm_ok {fu : Nat} {c : Class} (h : FitC fu c) : Lab_Calm_m fu c = some (calmC c) := by
  obtain ⟨⟨p, q, d⟩, h1, h2⟩ := h
  unfold Lab_Calm_m calmC calmL
  rw [loud_ok p.1 p.2, bnd_some, loud_ok q.1 q.2, bnd_some, containsHook_ok (p := fun h => h.Do.any fun o => !(calmO o)) (fun x hx => by unfold Lab_Calm_1_m; rw [loud_ok (d x hx).1 (d x hx).2, bnd_some]) h1.1 h1.2, bnd_some, not_any, not_any]
  have : (!(c.Hooks.any fun h => h.Do.any fun o => !(calmO o))) = c.Hooks.all fun h => h.Do.all calmO := by
    rw [List.all_eq_not_any_not]
    congr 2; funext h
    rw [← not_any, Bool.not_not]
  rw [this]
  cases c.Peek.all calmO <;> cases c.Make.all calmO <;> rfl
theorem rcalm_ok {fu : Nat} {l : List Op} (hf : l.length < fu) (hb : l.length ≤ 1000000) : Instarref25_calm_m fu l = some (calmL l) := by
  unfold Instarref25_calm_m calmL
  refine (up_all (L := Instarref25_calm_l1 l) l calmO (some true) (fun i hi k => ?_) (fun k => ?_) hf).trans ?_
  · simp only [Instarref25_calm_l1]
    rw [cnd_pos (by simpa using hi), idx_lt hi, bnd_some]
    have hn : rng .i64 ((i : Int) + 1) = some ((i + 1 : Nat) : Int) := rng_nat (by omega)
    generalize Instarref25_calm_l1 l k = X
    generalize l[i] = o
    unfold calmO
    simp only [hn, bnd_some, cnd_ne]
    by_cases h1 : o.Kind = 3
    · simp [h1]
    by_cases h2 : o.Kind = 4
    · simp [h2]
    by_cases h3 : o.Kind = 17
    · simp [h3]
    by_cases h4 : o.Kind = 20
    · simp [h4]
    by_cases h5 : o.Kind = 21
    · simp [h5]
    by_cases h6 : o.Kind = 22
    · simp [h6]
    simp [h1, h2, h3, h4, h5, h6, beq_eq_false_iff_ne.2 h1, beq_eq_false_iff_ne.2 h2, beq_eq_false_iff_ne.2 h3, beq_eq_false_iff_ne.2 h4, beq_eq_false_iff_ne.2 h5, beq_eq_false_iff_ne.2 h6]
  · simp only [Instarref25_calm_l1]
    rw [cnd_neg (by simp)]
  · cases l.all calmO <;> rfl
theorem rCalm_ok {fu : Nat} {c : Class} (h : FitC fu c) : Instarref25_Calm_m fu c = some (calmC c) := by
  obtain ⟨⟨p, q, d⟩, h1, h2⟩ := h
  unfold Instarref25_Calm_m calmC
  refine (up_all (L := Instarref25_Calm_l1 fu c) c.Hooks (fun h => calmL h.Do) (some (calmL c.Peek && calmL c.Make)) (fun i hi k => ?_) (fun k => ?_) h1.1).trans ?_
  · obtain ⟨d1, d2⟩ := d _ (List.getElem_mem hi)
    simp only [Instarref25_Calm_l1]
    rw [cnd_pos (by simpa using hi), idx_lt hi, bnd_some, rcalm_ok d1 d2, bnd_some, cnd_not, rng_nat (by omega), bnd_some]
    cases calmL c.Hooks[i].Do <;> rfl
  · simp only [Instarref25_Calm_l1]
    rw [cnd_neg (by simp), rcalm_ok p.1 p.2, bnd_some, rcalm_ok q.1 q.2, bnd_some]
    cases calmL c.Peek <;> rfl
  · cases c.Hooks.all fun h => calmL h.Do <;> simp
end Go.Proofs.Ytcojcgljfgljjaa
