/- What is not too much for a look; the law LabRight. -/
import Derived.Test.YtcojcgljfgljjaaLab2
namespace Go.Proofs.Ytcojcgljfgljjaa
open Go Go.Pw

def shortB (l : List Op) : Bool := (l.all fun o => decide (o.S.length ≤ 300) && decide (o.T.length ≤ 300)) && decide (l.length ≤ 80)
theorem short_ok {fu : Nat} {l : List Op} (hf : l.length < fu) (hb : l.length ≤ 9223372036854775807) : Instarlaw25_short_m fu l = some (shortB l) := by
  unfold Instarlaw25_short_m shortB
  refine (up_all (L := Instarlaw25_short_l1 l) l (fun o => decide (o.S.length ≤ 300) && decide (o.T.length ≤ 300)) (some (decide (l.length ≤ 80))) (fun i hi k => ?_) (fun k => ?_) hf).trans ?_
  · simp only [Instarlaw25_short_l1]
    rw [cnd_pos (by simpa using hi), idx_lt hi, bnd_some, bnd_some, rng_nat (by omega), bnd_some, cnd_dec, cnd_dec]
    by_cases h1 : l[i].S.length ≤ 300
    · by_cases h2 : l[i].T.length ≤ 300
      · rw [if_neg (by omega), if_neg (by omega)]; simp [h1, h2]
      · rw [if_neg (by omega), if_pos (by omega)]; simp [h2]
    · rw [if_pos (by omega)]; simp [h1]
  · simp only [Instarlaw25_short_l1]
    rw [cnd_neg (by simp)]
    congr 1
    exact decide_eq_decide.2 (by omega)
  · cases l.all fun o => decide (o.S.length ≤ 300) && decide (o.T.length ≤ 300) <;> rfl
def short12C (c : Class) : Bool := decide (c.Watch.length ≤ 20) && (decide (c.Hooks.length ≤ 20) && (decide (c.Peek.length ≤ 80) && (decide (c.Make.length ≤ 80) && c.Hooks.all fun h => decide (h.Do.length ≤ 80))))
theorem short12_l2 {fu : Nat} {i : Nat} {c : Class} {rc : Int → Option Bool} (hi : i ≤ 1000000) (hf : c.Hooks.length < fu) (hb : c.Hooks.length ≤ 1000000) : Instarref12_Short_l2 (i : Int) c rc fu 0 = bif c.Hooks.all fun h => decide (h.Do.length ≤ 80) then rc ((i + 1 : Nat) : Int) else some false := by
  refine up_all (L := Instarref12_Short_l2 (i : Int) c rc) c.Hooks (fun h => decide (h.Do.length ≤ 80)) (rc ((i + 1 : Nat) : Int)) (fun j hj k => ?_) (fun k => ?_) hf
  · simp only [Instarref12_Short_l2]
    rw [cnd_pos (by simpa using hj), idx_lt hj, bnd_some, rng_nat (by omega), bnd_some, cnd_dec]
    by_cases h : c.Hooks[j].Do.length ≤ 80
    · rw [if_neg (by omega), decide_eq_true h]; rfl
    · rw [if_pos (by omega), decide_eq_false h]; rfl
  · simp only [Instarref12_Short_l2]
    rw [cnd_neg (by simp), rng_nat (by omega), bnd_some]
theorem short12_ok {fu : Nat} {l : List Class} (hfu : 1000 < fu) : Instarref12_Short_m fu l = some (decide (l.length ≤ 14) && l.all short12C) := by
  unfold Instarref12_Short_m
  rw [cnd_dec]
  by_cases h : l.length ≤ 14
  · rw [if_neg (by omega), decide_eq_true h, Bool.true_and]
    refine (up_all (L := Instarref12_Short_l1 fu l) l short12C (some true) (fun i hi k => ?_) (fun k => ?_) (by omega)).trans (by cases l.all short12C <;> rfl)
    · simp only [Instarref12_Short_l1]
      rw [cnd_pos (by simpa using hi), idx_lt hi, bnd_some, cnd_dec, cnd_dec, cnd_dec, cnd_dec]
      generalize hc : l[i] = c
      unfold short12C
      by_cases h1 : c.Watch.length ≤ 20
      · by_cases h2 : c.Hooks.length ≤ 20
        · by_cases h3 : c.Peek.length ≤ 80
          · by_cases h4 : c.Make.length ≤ 80
            · rw [if_neg (by omega), if_neg (by omega), if_neg (by omega), if_neg (by omega), short12_l2 (by omega) (by omega) (by omega)]
              simp [h1, h2, h3, h4]
            · rw [if_neg (by omega), if_neg (by omega), if_neg (by omega), if_pos (by omega)]; simp [h4]
          · rw [if_neg (by omega), if_neg (by omega), if_pos (by omega)]; simp [h3]
        · rw [if_neg (by omega), if_pos (by omega)]; simp [h2]
      · rw [if_pos (by omega)]; simp [h1]
    · simp only [Instarref12_Short_l1]
      rw [cnd_neg (by simp)]
  · rw [if_pos (by omega), decide_eq_false h]; rfl
def fewC (c : Class) : Bool := shortB c.Peek && (shortB c.Make && ((c.Hooks.all fun h => shortB h.Do) && c.Watch.all fun w => decide (w.length ≤ 300)))
def fewB (s : Script) : Bool := (decide (s.Classes.length ≤ 14) && s.Classes.all short12C) && (shortB s.Main && s.Classes.all fewC)
theorem few_l3 {fu i : Nat} {c : Class} {rc : Int → Option Bool} (hi : i ≤ 1000000) (hf : c.Watch.length < fu) (hb : c.Watch.length ≤ 1000000) : Instarlaw25_few_l3 (i : Int) c rc fu 0 = bif c.Watch.all fun w => decide (w.length ≤ 300) then rc ((i + 1 : Nat) : Int) else some false := by
  refine up_all (L := Instarlaw25_few_l3 (i : Int) c rc) c.Watch (fun w => decide (w.length ≤ 300)) (rc ((i + 1 : Nat) : Int)) (fun j hj k => ?_) (fun k => ?_) hf
  · simp only [Instarlaw25_few_l3]
    rw [cnd_pos (by simpa using hj), idx_lt hj, bnd_some, rng_nat (by omega), bnd_some, cnd_dec]
    by_cases h : c.Watch[j].length ≤ 300
    · rw [if_neg (by omega), decide_eq_true h]; rfl
    · rw [if_pos (by omega), decide_eq_false h]; rfl
  · simp only [Instarlaw25_few_l3]
    rw [cnd_neg (by simp), rng_nat (by omega), bnd_some]
theorem few_ok {fu : Nat} {s : Script} (hf : s.Main.length < fu) (hb : s.Main.length ≤ 9223372036854775807) (hfu : 1000 < fu) : Instarlaw25_few_m fu s = some (fewB s) := by
  unfold Instarlaw25_few_m fewB
  rw [short12_ok hfu, bnd_some, cnd_not, short_ok hf hb, bnd_some, cnd_not]
  cases h12 : decide (s.Classes.length ≤ 14) && s.Classes.all short12C
  · rfl
  cases hm : shortB s.Main
  · rfl
  rw [cnd_true, cnd_true]
  simp only [Bool.true_and]
  simp only [Bool.and_eq_true, decide_eq_true_eq] at h12
  refine (up_all (L := Instarlaw25_few_l1 fu s) s.Classes fewC (some true) (fun i hi k => ?_) (fun k => ?_) (by omega)).trans (by cases s.Classes.all fewC <;> rfl)
  · have hc := List.all_eq_true.1 h12.2 _ (List.getElem_mem hi)
    simp only [Instarlaw25_few_l1]
    rw [cnd_pos (by simpa using hi), idx_lt hi, bnd_some]
    generalize s.Classes[i] = c at hc
    unfold short12C at hc
    simp only [Bool.and_eq_true, decide_eq_true_eq] at hc
    obtain ⟨w1, w2, w3, w4, w5⟩ := hc
    have key : ∀ rc : Int → Option Bool, Instarlaw25_few_l2 fu (i : Int) c rc fu 0 = bif c.Hooks.all fun h => shortB h.Do then Instarlaw25_few_l3 (i : Int) c rc fu 0 else some false := fun rc => by
      refine up_all (L := Instarlaw25_few_l2 fu (i : Int) c rc) c.Hooks (fun h => shortB h.Do) _ (fun j hj k2 => ?_) (fun k2 => ?_) (by omega)
      · have := List.all_eq_true.1 w5 _ (List.getElem_mem hj)
        rw [decide_eq_true_eq] at this
        simp only [Instarlaw25_few_l2]
        rw [cnd_pos (by simpa using hj), idx_lt hj, bnd_some, short_ok (by omega) (by omega), bnd_some, cnd_not, rng_nat (by omega), bnd_some]
        cases shortB c.Hooks[j].Do <;> rfl
      · simp only [Instarlaw25_few_l2]
        rw [cnd_neg (by simp)]
    rw [short_ok (by omega) (by omega), bnd_some, cnd_not, short_ok (by omega) (by omega), bnd_some, cnd_not, key, few_l3 (by omega) (by omega) (by omega)]
    unfold fewC
    cases shortB c.Peek <;> cases shortB c.Make <;> cases (c.Hooks.all fun h => shortB h.Do) <;> cases (c.Watch.all fun w => decide (w.length ≤ 300)) <;> rfl
  · simp only [Instarlaw25_few_l1]
    rw [cnd_neg (by simp)]

theorem shortB_iff {l : List Op} (h : shortB l = true) : l.length ≤ 80 ∧ ∀ o ∈ l, o.S.length ≤ 300 ∧ o.T.length ≤ 300 := by
  unfold shortB at h
  simp only [Bool.and_eq_true, decide_eq_true_eq, List.all_eq_true] at h
  exact ⟨h.2, fun o ho => h.1 o ho⟩
theorem few_fit {fu : Nat} {s : Script} (hfu : 1000 < fu) (h : fewB s = true) : FitS fu s ∧ Texts fu s := by
  unfold fewB at h
  simp only [Bool.and_eq_true, decide_eq_true_eq, List.all_eq_true] at h
  obtain ⟨⟨h1, h2⟩, h3, h4⟩ := h
  have hm := shortB_iff h3
  have hc : ∀ c ∈ s.Classes, FitC fu c ∧ ListsC (fun l => ∀ o ∈ l, o.S.length < fu ∧ o.S.length ≤ 1000000) c := fun c hc => by
    have g1 := h2 c hc
    have g2 := h4 c hc
    unfold short12C at g1
    unfold fewC at g2
    simp only [Bool.and_eq_true, decide_eq_true_eq, List.all_eq_true] at g1 g2
    obtain ⟨w1, w2, w3, w4, w5⟩ := g1
    obtain ⟨v1, v2, v3, v4⟩ := g2
    refine ⟨⟨⟨by omega, by omega, fun x hx => by have := w5 x hx; omega⟩, by omega, by omega⟩, ⟨fun o ho => ?_, fun o ho => ?_, fun x hx o ho => ?_⟩⟩
    · have := (shortB_iff v1).2 o ho; omega
    · have := (shortB_iff v2).2 o ho; omega
    · have := (shortB_iff (v3 x hx)).2 o ho; omega
  exact ⟨⟨by omega, by omega, fun c hc' => (hc c hc').1⟩, fun o ho => by have := hm.2 o ho; omega, fun c hc' => (hc c hc').2⟩

/-! ## The fixed answers -/
theorem awake_ok {fu : Nat} (hfu : 1000 < fu) : Instarlaw25_awake_m fu = some true := by
  have hfit : FitS fu (⟨[(⟨true, [], [], [], []⟩ : Class), (⟨false, [], [], [(⟨20, 0, 0, 0, [], [], false⟩ : Op)], []⟩ : Class)], [(⟨16, 0, 0, 0, [120, 45, 97], [], false⟩ : Op), (⟨1, 0, 0, 0, [88, 45, 65], [], false⟩ : Op)]⟩ : Script) ∧ Texts fu (⟨[(⟨true, [], [], [], []⟩ : Class), (⟨false, [], [], [(⟨20, 0, 0, 0, [], [], false⟩ : Op)], []⟩ : Class)], [(⟨16, 0, 0, 0, [120, 45, 97], [], false⟩ : Op), (⟨1, 0, 0, 0, [88, 45, 65], [], false⟩ : Op)]⟩ : Script) := few_fit hfu (by decide +kernel)
  unfold Instarlaw25_awake_m
  rw [labClasses_ok hfit.1.fits, bnd_some, labNames_ok hfit.1.fits hfit.2 (by omega), bnd_some, labMarksClasses_ok (by simp; omega) (by simp), bnd_some,
    labMarksNames_ok (by simp; omega) (by simp) (by omega), bnd_some]
  have c1 : Lab_Calm_m fu (⟨false, [], [], [(⟨20, 0, 0, 0, [], [], false⟩ : Op)], []⟩ : Class) = some true := (calm_ok (hfit.1.2.2 _ (by simp))).trans (by decide +kernel)
  have c2 : Lab_Calm_m fu (⟨false, [], [(⟨0, 0, 0, 0, [], [], false⟩ : Op)], [], []⟩ : Class) = some false := (calm_ok ⟨⟨by simp; omega, by simp; omega, by simp⟩, by simp; omega, by simp; omega⟩).trans (by decide +kernel)
  have e1 : idx [(⟨true, [], [], [], []⟩ : Class), (⟨false, [], [], [(⟨20, 0, 0, 0, [], [], false⟩ : Op)], []⟩ : Class)] 1 = some (⟨false, [], [], [(⟨20, 0, 0, 0, [], [], false⟩ : Op)], []⟩ : Class) := rfl
  rw [e1, bnd_some, c1, bnd_some, c2, bnd_some]
  decide +kernel

/-! ## LabRight -/
theorem forestShort_ok {fu : Nat} {f : Forest} (hfu : 1000 < fu) : ∃ r, Instarref03_Short_m fu f = some r ∧ (r = true → f.Nodes.length ≤ 60 ∧ ∀ n ∈ f.Nodes, FitN fu n) := by
  unfold Instarref03_Short_m
  rw [cnd_dec]
  by_cases h : f.Nodes.length ≤ 60
  · rw [if_neg (by omega)]
    refine ⟨f.Nodes.all fun n => decide (n.Kids.length ≤ 60) && (decide (n.Attrs.length ≤ 60) && decide (n.Name.length ≤ 300)), (up_all (L := Instarref03_Short_l1 f) f.Nodes (fun n => decide (n.Kids.length ≤ 60) && (decide (n.Attrs.length ≤ 60) && decide (n.Name.length ≤ 300))) (some true) (fun i hi k => ?_) (fun k => ?_) (by omega)).trans ?_, fun hr => ⟨h, fun n hn => ?_⟩⟩
    · simp only [Instarref03_Short_l1]
      rw [cnd_pos (by simpa using hi), idx_lt hi, bnd_some, bnd_some, bnd_some, rng_nat (by omega), bnd_some, cnd_dec, cnd_dec, cnd_dec]
      generalize f.Nodes[i] = n
      by_cases h1 : n.Kids.length ≤ 60
      · by_cases h2 : n.Attrs.length ≤ 60
        · by_cases h3 : n.Name.length ≤ 300
          · rw [if_neg (by omega), if_neg (by omega), if_neg (by omega)]; simp [h1, h2, h3]
          · rw [if_neg (by omega), if_neg (by omega), if_pos (by omega)]; simp [h3]
        · rw [if_neg (by omega), if_pos (by omega)]; simp [h2]
      · rw [if_pos (by omega)]; simp [h1]
    · simp only [Instarref03_Short_l1]
      rw [cnd_neg (by simp)]
    · cases f.Nodes.all fun n => decide (n.Kids.length ≤ 60) && (decide (n.Attrs.length ≤ 60) && decide (n.Name.length ≤ 300)) <;> rfl
    · have := List.all_eq_true.1 hr n hn
      simp only [Bool.and_eq_true, decide_eq_true_eq] at this
      exact ⟨by omega, by omega⟩
  · rw [if_pos (by omega)]; exact ⟨false, rfl, by simp⟩

theorem labRight (s : Script) (l : List Mark) (f : Forest) (a b : Int) (x y : Bs) (hm : s.Main.length ≤ 9223372036854775807) : ∃ fu, Instarlaw25_LabRight_m fu s l f a b x y = some true := by
  refine ⟨s.Main.length + 2000, ?_⟩
  generalize hfu' : s.Main.length + 2000 = fu
  have hfu : 1000 < fu := by omega
  unfold Instarlaw25_LabRight_m
  rw [awake_ok hfu, bnd_some, cnd_not, cnd_true, few_ok (by omega) hm hfu, bnd_some, cnd_not, cnd_dec, cnd_dec, cnd_dec]
  cases hs : fewB s
  · rfl
  rw [cnd_true]
  obtain ⟨hfit, htx⟩ := few_fit hfu hs
  rcases Nat.lt_or_ge 200 l.length with h1 | h1
  · rw [if_pos (by omega)]
  rw [if_neg (by omega)]
  obtain ⟨r, hr, hr2⟩ := forestShort_ok (f := f) hfu
  rw [hr, bnd_some, cnd_not]
  cases r
  · rfl
  obtain ⟨n1, n2⟩ := hr2 rfl
  rw [cnd_true]
  rcases Nat.lt_or_ge 300 x.length with h2 | h2
  · rw [if_pos (by omega)]
  rw [if_neg (by omega)]
  rcases Nat.lt_or_ge 300 y.length with h3 | h3
  · rw [if_pos (by omega)]
  rw [if_neg (by omega)]
  have hc := hfit.2.1
  refine upf (L := Instarlaw25_LabRight_l1 fu s l f a b x y) (f := fun i => (i : Int)) (v := some true) s.Classes.length (fun i hi k => ?_) (fun k => ?_) hc.1
  · have := hfit.2.2 _ (List.getElem_mem hi)
    simp only [Instarlaw25_LabRight_l1]
    rw [cnd_pos (by simpa using hi), idx_lt hi, bnd_some, calm_ok this, bnd_some, bnd_some, rCalm_ok this, bnd_some, beq_self_eq_true, Bool.not_true, cnd_false, rng_nat (by omega), bnd_some]
  · simp only [Instarlaw25_LabRight_l1]
    rw [cnd_neg (by simp), labClasses_ok hfit.fits, bnd_some, refClasses_ok hfit.fits, bnd_some, same_refl (fitS_cls a b hfit), bnd_some, cnd_true,
      labMarksClasses_ok (by omega) (by omega), bnd_some, refMarksClasses_ok (by omega) (by omega), bnd_some, marks_refl (by simp; omega) (by simp; omega), bnd_some, cnd_true,
      labNames_ok hfit.fits htx (by omega), bnd_some, refNames_ok hfit.fits htx (by omega), bnd_some, same_refl (fitS_nam x y hfit), bnd_some, cnd_true,
      labMarksNames_ok (by omega) (by omega) (by omega), bnd_some, refMarksNames_ok (by omega) (by omega) (by omega), bnd_some, marks_refl (by rw [mkNs_len]; omega) (by rw [mkNs_len]; omega), bnd_some, cnd_true,
      labForest_ok (by omega) (by omega) (by omega), bnd_some, refForest_ok (by omega) (by omega) (by omega), bnd_some]
    have hfr : Instarref03_Same_m fu (frN x y f) (frN x y f) = some true := by
      unfold frN
      cases customB x && customB y
      · exact forest_refl (f := f) (by omega) (by omega) n2
      · refine forest_refl (by simp; omega) (by simp; omega) fun n hn => ?_
        simp only [cond_true, List.mem_map] at hn
        obtain ⟨m, hm, rfl⟩ := hn
        exact n2 m hm
    rw [hfr, bnd_some]
end Go.Proofs.Ytcojcgljfgljjaa
