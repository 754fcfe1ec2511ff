/- What is allowed stays so when classes or names are exchanged; the law LabKeeps. -/
import Derived.Test.YtcojcgljfgljjaaLab3
namespace Go.Proofs.Ytcojcgljfgljjaa
open Go Go.Pw

/-! ## What is allowed -/
theorem allowed1_ok {fu : Nat} {s : Bs} (hfu : 200 < fu) : World_Allowed_1_m fu s = some (!(fitB s)) := by
  unfold World_Allowed_1_m fitB
  rw [fit_ok hfu, bnd_some]
  cases rightB s
  · rfl
  · simp
theorem containsStr_ok {fu : Nat} {t : Bs → Option Bool} {p : Bs → Bool} {l : List Bs} (ht : ∀ x ∈ l, t x = some (p x)) (hf : l.length < fu) (hb : l.length ≤ 1000000) : Slices_ContainsFunc_string_m fu t l = some (l.any p) := by
  unfold Slices_ContainsFunc_string_m Slices_IndexFunc_string_m
  obtain ⟨r, h1, h2⟩ := up_index (L := Slices_IndexFunc_string_l1 t l) l p (fun i hi k => by
    simp only [Slices_IndexFunc_string_l1]
    rw [cnd_pos (by simpa using hi), idx_lt hi, bnd_some, ht _ (List.getElem_mem hi), bnd_some, rng_nat (by omega), bnd_some]
    cases p l[i] <;> rfl) (fun k => by simp only [Slices_IndexFunc_string_l1]; rw [cnd_neg (by simp)]) hf
  rw [h1, bnd_some, h2]
theorem containsClass_ok {fu : Nat} {t : Class → Option Bool} {p : Class → Bool} {l : List Class} (ht : ∀ x ∈ l, t x = some (p x)) (hf : l.length < fu) (hb : l.length ≤ 1000000) : Slices_ContainsFunc_apiClass_m fu t l = some (l.any p) := by
  unfold Slices_ContainsFunc_apiClass_m Slices_IndexFunc_apiClass_m
  obtain ⟨r, h1, h2⟩ := up_index (L := Slices_IndexFunc_apiClass_l1 t l) l p (fun i hi k => by
    simp only [Slices_IndexFunc_apiClass_l1]
    rw [cnd_pos (by simpa using hi), idx_lt hi, bnd_some, ht _ (List.getElem_mem hi), bnd_some, rng_nat (by omega), bnd_some]
    cases p l[i] <;> rfl) (fun k => by simp only [Slices_IndexFunc_apiClass_l1]; rw [cnd_neg (by simp)]) hf
  rw [h1, bnd_some, h2]
def okH (k : Int) (n : Nat) : Bool := decide (1 ≤ k) && (decide (k ≤ 8) && decide (n ≤ 60))
theorem allowed2_ok (fu : Nat) (h : Hook) : World_Allowed_2_m fu h = some (!(okH h.Kind h.Do.length)) := by
  unfold World_Allowed_2_m World_long_m okH
  rw [cnd_dec, cnd_dec, bnd_some]
  by_cases h1 : h.Kind < 1
  · rw [if_pos h1, decide_eq_false (show ¬ 1 ≤ h.Kind by omega)]; rfl
  · by_cases h2 : h.Kind > 8
    · rw [if_neg h1, if_pos h2, decide_eq_true (show 1 ≤ h.Kind by omega), decide_eq_false (show ¬ h.Kind ≤ 8 by omega)]; rfl
    · rw [if_neg h1, if_neg h2, decide_eq_true (show 1 ≤ h.Kind by omega), decide_eq_true (show h.Kind ≤ 8 by omega)]
      simp only [Bool.true_and]
      congr 1
      by_cases h3 : h.Do.length ≤ 60
      · rw [decide_eq_true h3, decide_eq_false (by omega)]; rfl
      · rw [decide_eq_false h3, decide_eq_true (by omega)]; rfl
def okC (c : Class) : Bool := decide (c.Watch.length ≤ 12) && (c.Watch.all fitB && (decide (c.Hooks.length ≤ 12) && ((c.Hooks.all fun h => okH h.Kind h.Do.length) && (decide (c.Peek.length ≤ 60) && decide (c.Make.length ≤ 60)))))
theorem long_cast (l : List Op) : (!(decide (((l.length : Nat) : Int) > 60))) = decide (l.length ≤ 60) := by
  by_cases h : l.length ≤ 60
  · rw [decide_eq_true h, decide_eq_false (by omega)]; rfl
  · rw [decide_eq_false h, decide_eq_true (by omega)]; rfl
theorem allowedC_ok {fu : Nat} {c : Class} (h : FitC fu c) (hfu : 200 < fu) : World_Allowed_m fu c = some (okC c) := by
  obtain ⟨_, h1, h2⟩ := h
  unfold World_Allowed_m okC World_long_m
  rw [containsStr_ok (p := fun w => !(fitB w)) (fun w _ => allowed1_ok hfu) h2.1 h2.2, containsHook_ok (p := fun h => !(okH h.Kind h.Do.length)) (fun x _ => allowed2_ok fu x) h1.1 h1.2]
  simp only [bnd_some, cnd_not]
  have e1 : decide (((c.Watch.length : Nat) : Int) ≤ 12) = decide (c.Watch.length ≤ 12) := decide_eq_decide.2 (by omega)
  have e2 : decide (((c.Hooks.length : Nat) : Int) ≤ 12) = decide (c.Hooks.length ≤ 12) := decide_eq_decide.2 (by omega)
  have e3 := not_any c.Watch fitB
  have e4 := not_any c.Hooks (fun h => okH h.Kind h.Do.length)
  have e5 := long_cast c.Peek
  have e6 := long_cast c.Make
  rw [e1, e2, ← e3, ← e4, ← e5, ← e6]
  cases decide (c.Watch.length ≤ 12) <;> cases (c.Watch.any fun x => !(fitB x)) <;> cases decide (c.Hooks.length ≤ 12) <;> cases (c.Hooks.any fun h => !(okH h.Kind h.Do.length)) <;> cases decide (((c.Peek.length : Nat) : Int) > 60) <;> rfl
def okS (s : Script) : Bool := decide (s.Classes.length ≤ 12) && (s.Classes.all okC && decide (s.Main.length ≤ 300))
theorem allowed_ok {fu : Nat} {s : Script} (h : FitS fu s) (hfu : 200 < fu) : Engine_Allowed_m fu s = some (okS s) := by
  unfold Engine_Allowed_m okS
  rw [containsClass_ok (p := fun c => !(okC c)) (fun c hc => by unfold Engine_Allowed_1_m; rw [allowedC_ok (h.2.2 c hc) hfu, bnd_some]) h.2.1.1 h.2.1.2, bnd_some, cnd_not]
  have e1 : decide (((s.Classes.length : Nat) : Int) ≤ 12) = decide (s.Classes.length ≤ 12) := decide_eq_decide.2 (by omega)
  have e2 : decide (((s.Main.length : Nat) : Int) ≤ 300) = decide (s.Main.length ≤ 300) := decide_eq_decide.2 (by omega)
  have e3 := not_any s.Classes okC
  rw [e1, e2, ← e3]
  cases decide (s.Classes.length ≤ 12) <;> cases (s.Classes.any fun x => !(okC x)) <;> rfl

/-! ## What turning leaves -/
theorem okC_turn (g : Op → Op) (c : Class) : okC (turnC g c) = okC c := by
  unfold okC turnC
  simp only [List.length_map, List.all_map, Function.comp_def]
theorem calmO_kind {o p : Op} (h : o.Kind = p.Kind) : calmO o = calmO p := by unfold calmO; rw [h]
theorem calmL_map {g : Op → Op} (hg : ∀ o, (g o).Kind = o.Kind) (l : List Op) : calmL (l.map g) = calmL l := by
  unfold calmL
  rw [List.all_map]
  congr 1; funext o; exact calmO_kind (hg o)
theorem calmC_turn {g : Op → Op} (hg : ∀ o, (g o).Kind = o.Kind) (c : Class) : calmC (turnC g c) = calmC c := by
  unfold calmC turnC
  simp only [calmL_map hg, List.all_map, Function.comp_def]
theorem turnC_id (c : Class) : turnC id c = c := by
  unfold turnC
  simp only [List.map_id]
  have : (c.Hooks.map fun h : Hook => (⟨h.Kind, h.Do⟩ : Hook)) = c.Hooks := by
    conv => rhs; rw [← List.map_id c.Hooks]
    exact List.map_congr_left fun h _ => rfl
  rw [this]
theorem sw_sw (a b i : Nat) : sw a b (sw a b i) = i := by
  unfold sw
  by_cases h1 : i = a
  · subst h1
    by_cases h2 : b = i
    · simp [h2]
    · simp [h2]
  · by_cases h2 : i = b
    · subst h2; simp [h1]
    · simp [h1, h2]

/-- Where the class at a place comes from. -/
def frm (a b : Int) (n i : Nat) : Nat := if 0 ≤ a ∧ 0 ≤ b ∧ a < n ∧ b < n then sw a.toNat b.toNat i else i
theorem frm_lt {a b : Int} {n i : Nat} (h : i < n) : frm a b n i < n := by
  unfold frm
  split
  · exact sw_lt (by omega) (by omega) h
  · exact h
theorem frm_frm (a b : Int) (n i : Nat) : frm a b n (frm a b n i) = i := by
  unfold frm
  by_cases h : 0 ≤ a ∧ 0 ≤ b ∧ a < n ∧ b < n
  · simp only [if_pos h, sw_sw]
  · simp only [if_neg h]
def clsG (a b : Int) (s : Script) (o : Op) : Op := if 0 ≤ a ∧ 0 ≤ b ∧ a < s.Classes.length ∧ b < s.Classes.length then opC a b o else o
theorem clsG_kind (a b : Int) (s : Script) (o : Op) : (clsG a b s o).Kind = o.Kind ∧ (clsG a b s o).S = o.S := by
  unfold clsG opC
  split
  · split <;> exact ⟨rfl, rfl⟩
  · exact ⟨rfl, rfl⟩
theorem clsS_main (a b : Int) (s : Script) : (clsS a b s).Main = s.Main.map (clsG a b s) := by
  unfold clsS clsG
  by_cases h : 0 ≤ a ∧ 0 ≤ b ∧ a < s.Classes.length ∧ b < s.Classes.length
  · rw [dif_pos h]; simp only [if_pos h]
  · rw [dif_neg h]; simp only [if_neg h, List.map_id']
theorem clsS_len (a b : Int) (s : Script) : (clsS a b s).Classes.length = s.Classes.length := by
  unfold clsS
  split
  · simp [swL_len]
  · rfl
theorem clsS_at (a b : Int) (s : Script) {i : Nat} (h : i < s.Classes.length) : (clsS a b s).Classes[i]'(by rw [clsS_len]; exact h) = turnC (clsG a b s) (s.Classes[frm a b s.Classes.length i]'(frm_lt h)) := by
  unfold clsS clsG frm
  by_cases hc : 0 ≤ a ∧ 0 ≤ b ∧ a < s.Classes.length ∧ b < s.Classes.length
  · simp only [dif_pos hc, if_pos hc]
    have := swL_at (l := s.Classes.map (turnC (opC a b))) (a := a.toNat) (b := b.toNat) (by simp; omega) (by simp; omega) (i := i) (by rw [swL_len]; simpa using h) (by simpa using sw_lt (by omega) (by omega) h)
    simpa using this
  · simp only [dif_neg hc, if_neg hc]
    exact (turnC_id _).symm
theorem all_frm {α : Type} {l m : List α} (p : α → Bool) (f : Nat → Nat) (hlen : m.length = l.length) (hf : ∀ i, i < l.length → f i < l.length) (hff : ∀ i, f (f i) = i) (h : ∀ (i : Nat) (hi : i < l.length), p (m[i]'(hlen ▸ hi)) = p (l[f i]'(hf i hi))) : m.all p = l.all p := by
  rw [Bool.eq_iff_iff, List.all_eq_true, List.all_eq_true]
  constructor
  · intro hm x hx
    obtain ⟨i, hi, rfl⟩ := List.mem_iff_getElem.1 hx
    have := h (f i) (hf i hi)
    simp only [hff] at this
    rw [← this]
    exact hm _ (List.getElem_mem _)
  · intro hl x hx
    obtain ⟨i, hi, rfl⟩ := List.mem_iff_getElem.1 hx
    rw [h i (hlen ▸ hi)]
    exact hl _ (List.getElem_mem _)
theorem okS_cls (a b : Int) (s : Script) : okS (clsS a b s) = okS s := by
  unfold okS
  rw [clsS_len, clsS_main, List.length_map, all_frm (l := s.Classes) okC (frm a b s.Classes.length) (clsS_len a b s) (fun i hi => frm_lt hi) (frm_frm a b _) fun i hi => by rw [clsS_at a b s hi, okC_turn]]
def namG (x y : Bs) (o : Op) : Op := bif customB x && customB y then opN x y o else o
theorem namG_kind (x y : Bs) (o : Op) : (namG x y o).Kind = o.Kind ∧ (namG x y o).A = o.A := by
  unfold namG opN
  cases customB x && customB y <;> exact ⟨rfl, rfl⟩
theorem namS_eq (x y : Bs) (s : Script) : namS x y s = turnS (namG x y) s := by
  unfold namS namG
  cases customB x && customB y
  · simp only [cond_false]
    unfold turnS
    have : (s.Classes.map (turnC fun o => o)) = s.Classes := by
      conv => rhs; rw [← List.map_id s.Classes]
      exact List.map_congr_left fun c _ => turnC_id c
    rw [this, List.map_id']
  · rfl
theorem okS_nam (x y : Bs) (s : Script) : okS (namS x y s) = okS s := by
  rw [namS_eq]
  unfold okS turnS
  simp only [List.length_map, List.all_map]
  congr 2
  congr 1
  funext c; exact okC_turn _ c

/-! ## LabKeeps -/
theorem kc1 {s : Script} {a b : Int} {i : Nat} (hi : i < s.Classes.length) : idx (clsS a b s).Classes (i : Int) = some (turnC (clsG a b s) (s.Classes[frm a b s.Classes.length i]'(frm_lt hi))) := by rw [idx_lt (by rw [clsS_len]; exact hi), clsS_at a b s hi]
theorem kc2 {s : Script} {x y : Bs} {i : Nat} (hi : i < s.Classes.length) : idx (namS x y s).Classes (i : Int) = some (turnC (namG x y) s.Classes[i]) := by rw [namS_eq, idx_nat]; simp [turnS, hi]
theorem kj2 {fu : Nat} {s : Script} {a b : Int} {x y : Bs} (hfit : FitS fu s) (hb : s.Classes.length ≤ 1000000) {i : Nat} (hi : i < s.Classes.length) (rc : Int → Option Bool) : Instarlaw25_LabKeeps_j2 fu s (clsS a b s) (namS x y s) (i : Int) rc ((frm a b s.Classes.length i : Nat) : Int) = rc ((i + 1 : Nat) : Int) := by
      have hf := frm_lt (a := a) (b := b) hi
      have c1 := kc1 (a := a) (b := b) hi
      have c2 := kc2 (x := x) (y := y) hi
      have f1 := hfit.2.2 _ (List.getElem_mem hf)
      have f2 := hfit.2.2 _ (List.getElem_mem hi)
      have e1 := calm_ok (fitC_turn (clsG a b s) f1)
      have e2 := calm_ok (fitC_turn (namG x y) f2)
      rw [calmC_turn (fun o => (clsG_kind a b s o).1)] at e1
      rw [calmC_turn (fun o => (namG_kind x y o).1)] at e2
      have hn : rng .i64 ((i : Int) + 1) = some ((i + 1 : Nat) : Int) := rng_nat (by omega)
      have d1 := calm_ok f1
      have d2 := calm_ok f2
      have g1 := idx_lt hf
      have g2 := idx_lt hi
      unfold Instarlaw25_LabKeeps_j2
      rw [c1, c2, g1, g2]
      simp only [bnd_some, e1, e2, d1, d2, hn, beq_self_eq_true, Bool.not_true, cnd_false]
      have q1 : (turnC (clsG a b s) (s.Classes[frm a b s.Classes.length i]'hf)).Form = (s.Classes[frm a b s.Classes.length i]'hf).Form := rfl
      have q2 : (turnC (clsG a b s) (s.Classes[frm a b s.Classes.length i]'hf)).Hooks.length = (s.Classes[frm a b s.Classes.length i]'hf).Hooks.length := List.length_map _
      rw [q1, q2, cnd_ne, if_pos rfl, beq_self_eq_true]
      rfl
theorem keeps_l2 {fu : Nat} {s : Script} {a b : Int} {x y : Bs} (hfit : FitS fu s) (hb : s.Classes.length ≤ 1000000) : Instarlaw25_LabKeeps_l2 fu s a b (clsS a b s) (namS x y s) (decide (0 ≤ a ∧ 0 ≤ b ∧ a < s.Classes.length ∧ b < s.Classes.length)) fu 0 = some true := by
  have hc := hfit.2.1
  refine upf (L := Instarlaw25_LabKeeps_l2 fu s a b (clsS a b s) (namS x y s) (decide (0 ≤ a ∧ 0 ≤ b ∧ a < s.Classes.length ∧ b < s.Classes.length))) (f := fun i => (i : Int)) (v := some true) s.Classes.length (fun i hi k => ?_) (fun k => ?_) hc.1
  · have j2 := fun rc => kj2 (a := a) (b := b) (x := x) (y := y) hfit hb hi rc
    simp only [Instarlaw25_LabKeeps_l2]
    rw [cnd_pos (by simpa using hi)]
    generalize Instarlaw25_LabKeeps_l2 fu s a b (clsS a b s) (namS x y s) (decide (0 ≤ a ∧ 0 ≤ b ∧ a < s.Classes.length ∧ b < s.Classes.length)) k = rc
    have j2' := j2 rc
    by_cases hin : 0 ≤ a ∧ 0 ≤ b ∧ a < s.Classes.length ∧ b < s.Classes.length
    · rw [decide_eq_true hin, cnd_true, cnd_true, cnd_eq, cnd_eq]
      unfold frm at j2'
      rw [if_pos hin] at j2'
      unfold sw at j2'
      by_cases e1 : (i : Int) = a
      · rw [if_pos e1]
        rw [if_pos (by omega)] at j2'
        rw [← j2']
        congr 1; omega
      · rw [if_neg e1]
        rw [if_neg (by omega)] at j2'
        by_cases e2 : (i : Int) = b
        · rw [if_pos e2]
          rw [if_pos (by omega)] at j2'
          rw [← j2']
          congr 1; omega
        · rw [if_neg e2]
          rw [if_neg (by omega)] at j2'
          exact j2'
    · rw [decide_eq_false hin, cnd_false, cnd_false]
      unfold frm at j2'
      rw [if_neg hin] at j2'
      exact j2'
  · simp only [Instarlaw25_LabKeeps_l2]
    rw [cnd_neg (by simp)]
theorem kmain1 {s : Script} {a b : Int} {i : Nat} (hi : i < s.Main.length) : idx (clsS a b s).Main (i : Int) = some (clsG a b s s.Main[i]) := by rw [clsS_main, idx_nat]; simp [hi]
theorem kmain2 {s : Script} {x y : Bs} {i : Nat} (hi : i < s.Main.length) : idx (namS x y s).Main (i : Int) = some (namG x y s.Main[i]) := by rw [namS_eq, idx_nat]; simp [turnS, hi]
theorem labKeeps (s : Script) (a b : Int) (x y : Bs) (hm : s.Main.length ≤ 9223372036854775807) : ∃ fu, Instarlaw25_LabKeeps_m fu s a b x y = some true := by
  refine ⟨s.Main.length + 2000, ?_⟩
  generalize hfu' : s.Main.length + 2000 = fu
  have hfu : 1000 < fu := by omega
  unfold Instarlaw25_LabKeeps_m
  rw [awake_ok hfu, bnd_some, cnd_not, cnd_true, few_ok (by omega) hm hfu, bnd_some, cnd_not, cnd_dec, cnd_dec]
  cases hs : fewB s
  · rfl
  rw [cnd_true]
  obtain ⟨hfit, htx⟩ := few_fit hfu hs
  rcases Nat.lt_or_ge 300 x.length with h2 | h2
  · rw [if_pos (by omega)]
  rw [if_neg (by omega)]
  rcases Nat.lt_or_ge 300 y.length with h3 | h3
  · rw [if_pos (by omega)]
  rw [if_neg (by omega)]
  have hmm := hfit.1
  have hc := hfit.2.1
  have l1 : (namS x y s).Main.length = s.Main.length := by rw [namS_eq]; simp [turnS]
  have l2 : (namS x y s).Classes.length = s.Classes.length := by rw [namS_eq]; simp [turnS]
  have l3 : (clsS a b s).Main.length = s.Main.length := by rw [clsS_main]; simp
  rw [labClasses_ok hfit.fits, bnd_some, labNames_ok hfit.fits htx (by omega), bnd_some, allowed_ok (fitS_cls a b hfit) (by omega), bnd_some, allowed_ok hfit (by omega), bnd_some, okS_cls, beq_self_eq_true, Bool.not_true, cnd_false,
    allowed_ok (fitS_nam x y hfit) (by omega), bnd_some, bnd_some, okS_nam, beq_self_eq_true, Bool.not_true, cnd_false, l1, l2, l3, clsS_len, cnd_ne, if_pos rfl, cnd_ne, if_pos rfl, cnd_ne, if_pos rfl, cnd_ne, if_pos rfl]
  refine upf (L := Instarlaw25_LabKeeps_l1 fu s a b (clsS a b s) (namS x y s)) (f := fun i => (i : Int)) (v := some true) s.Main.length (fun i hi k => ?_) (fun k => ?_) hmm.1
  · simp only [Instarlaw25_LabKeeps_l1]
    have hn : rng .i64 ((i : Int) + 1) = some ((i + 1 : Nat) : Int) := rng_nat (by omega)
    have g1 := idx_lt hi
    rw [cnd_pos (by simpa using hi), kmain1 hi, kmain2 hi, g1]
    simp only [bnd_some, hn]
    rw [(clsG_kind a b s _).1, (clsG_kind a b s _).2, (namG_kind x y _).1, (namG_kind x y _).2, cnd_ne, if_pos rfl, cnd_ne, if_pos rfl, beq_self_eq_true, cnd_ne, if_pos rfl]
    rfl
  · simp only [Instarlaw25_LabKeeps_l1]
    rw [cnd_neg (by simp)]
    unfold Instarlaw25_LabKeeps_j1
    have key := keeps_l2 (a := a) (b := b) (x := x) (y := y) hfit hc.2
    have no : ¬ (0 ≤ a ∧ 0 ≤ b ∧ a < s.Classes.length ∧ b < s.Classes.length) → Instarlaw25_LabKeeps_l2 fu s a b (clsS a b s) (namS x y s) false fu 0 = some true := fun h => by
      rw [decide_eq_false h] at key; exact key
    by_cases h1 : a ≥ 0
    · rw [cnd_pos (by simpa using h1)]
      by_cases h2 : b ≥ 0
      · rw [cnd_pos (by simpa using h2)]
        by_cases h3 : a < s.Classes.length
        · rw [cnd_pos (by simpa using h3), show decide (b < ((s.Classes.length : Nat) : Int)) = decide (0 ≤ a ∧ 0 ≤ b ∧ a < s.Classes.length ∧ b < s.Classes.length) from decide_eq_decide.2 (by omega)]
          exact key
        · rw [cnd_neg (by simpa using h3)]
          exact no (by omega)
      · rw [cnd_neg (by simpa using h2)]
        exact no (by omega)
    · rw [cnd_neg (by simpa using h1)]
      exact no (by omega)
end Go.Proofs.Ytcojcgljfgljjaa
