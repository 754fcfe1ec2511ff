/- Marks' text and back: what the models of tale.Put and tale.Read come to. -/
import Derived.Test.YtoakfflcpcdbeaaDoorTal3
namespace Go.Proofs.YtoakfflcpcdbeaaDoor
open Go Go.Pw
set_option linter.unusedVariables false

def lineS (m : Mark) : Bs := oneS m ++ [10]
def putS (l : List Mark) : Bs := (l.map lineS).flatten
theorem putS_nil : putS [] = [] := rfl
theorem putS_cons (m : Mark) (l : List Mark) : putS (m :: l) = lineS m ++ putS l := by simp [putS]
theorem putS_app (l m : List Mark) : putS (l ++ m) = putS l ++ putS m := by simp [putS]
theorem esc_no10 : ∀ (s : Bs), (10 : UInt8) ∉ esc s
  | [] => by simp [esc]
  | b :: s => by
    have ih := esc_no10 s
    rw [esc_cons, List.mem_append]
    rintro (h | h)
    · unfold escB at h
      split at h
      · simp at h
      · rename_i hb
        split at h
        · simp at h; exact hb h.symm
        · simp at h; exact hb h.symm
    · exact ih h
theorem tl_mem {c : UInt8} {l : List Bs} (h : c ∈ tl l) : c = 32 ∨ ∃ f ∈ l, c ∈ f := by
  induction l with
  | nil => simp [tl_nil] at h
  | cons f l ih =>
    rw [tl_cons, List.mem_cons, List.mem_append] at h
    rcases h with h | h | h
    · exact .inl h
    · exact .inr ⟨f, by simp, h⟩
    · rcases ih h with h | ⟨g, hg, h⟩
      · exact .inl h
      · exact .inr ⟨g, by simp [hg], h⟩
theorem txt_no10 (s : Bs) : (10 : UInt8) ∉ txt s := by
  have := esc_no10 s
  simp [txt, this]
theorem bit_no10 (b : Bool) : (10 : UInt8) ∉ bit b := by cases b <;> simp [bit]
theorem oneS_no10 (m : Mark) : (10 : UInt8) ∉ oneS m := by
  unfold oneS
  rw [List.mem_append]
  rintro (h | h)
  · exact wordS_no (.inr rfl) h
  · rcases tl_mem h with h | ⟨f, hf, h⟩
    · exact absurd h (by decide)
    · have hn : ∀ f ∈ numsF m, (10 : UInt8) ∉ f := by
        intro f hf
        simp only [numsF, List.mem_cons, List.not_mem_nil, or_false] at hf
        rcases hf with rfl | rfl | rfl | rfl <;> exact itoa_no (by decide)
      have hc : ∀ f ∈ callF m, (10 : UInt8) ∉ f := by
        intro f hf
        simp only [callF, List.mem_cons, List.not_mem_nil, or_false] at hf
        rcases hf with rfl | rfl | rfl | rfl | rfl | rfl | rfl | rfl
        · exact txt_no10 _
        · exact bit_no10 _
        · exact bit_no10 _
        · exact txt_no10 _
        · exact txt_no10 _
        · exact itoa_no (by decide)
        · exact itoa_no (by decide)
        · exact bit_no10 _
      unfold fieldsM at hf
      split at hf
      · exact hn f hf h
      · rcases List.mem_append.1 hf with hf | hf
        · exact hn f hf h
        · exact hc f hf h
theorem oneS_ne (m : Mark) : oneS m ≠ [] := by
  unfold oneS fieldsM
  split <;> simp [numsF, tl_cons]
theorem lines_put : ∀ (l : List Mark), linesOf (putS l) = l.map lineS
  | [] => rfl
  | m :: l => by
    rw [putS_cons, lineS, List.append_assoc, List.singleton_append, linesOf_line (oneS_no10 m), lines_put l]
    rfl

/-! ## Put -/
def okM (B : Nat) (m : Mark) : Prop := WM m B ∧ validM m
theorem put_m {fu : Nat} {l : List Mark} {B : Nat} (hl : ∀ m ∈ l, WM m B) (hB : B ≤ 100000) (hf : B + 8 < fu) (hf2 : l.length < fu) (hn : l.length ≤ 1000000) (hs : (putS l).length ≤ 800000000) :
    Tale_Put_m fu l = some (if l.all (fun m => decide (validM m)) then (putS l, 0) else ([], 1)) := by
  unfold Tale_Put_m
  have key := up (L := Tale_Put_l1 fu l) (fun i x => x = (((i : Nat) : Int), bytesOf (putS (l.take i))) ∧ (l.take i).all (fun m => decide (validM m)) = true)
    (fun r => r = some (if l.all (fun m => decide (validM m)) then (putS l, 0) else ([], 1))) l.length ?_ ?_ (i := 0) (x := (0, [])) (k := fu) ⟨rfl, rfl⟩ (Nat.zero_le _) (by omega)
  · exact key
  · rintro i x hi ⟨rfl, hv⟩
    have hmem : l[i] ∈ l := List.getElem_mem hi
    have ht : l.take (i + 1) = l.take i ++ [l[i]] := List.take_succ_eq_append_getElem hi
    have hd : putS l = putS (l.take i) ++ (lineS l[i] ++ putS (l.drop (i + 1))) := by
      rw [← putS_cons, ← putS_app, ← List.drop_eq_getElem_cons hi, List.take_append_drop]
    have hlen : (putS (l.take i)).length + (oneS l[i]).length + 1 ≤ 800000000 := by
      rw [hd] at hs; simp only [lineS, List.length_append, List.length_cons, List.length_nil] at hs; omega
    have e0 : ∀ k, Tale_Put_l1 fu l (k + 1) (((i : Nat) : Int), bytesOf (putS (l.take i))) = cnd ((if 1 ≤ l[i].Kind ∧ l[i].Kind ≤ 10 then (oneS l[i], 0) else ([], 1) : Bs × Int).2 != 0) (some ([], (if 1 ≤ l[i].Kind ∧ l[i].Kind ≤ 10 then (oneS l[i], 0) else ([], 1) : Bs × Int).2))
        (bnd (Strings_Builder_WriteString_m fu (if 1 ≤ l[i].Kind ∧ l[i].Kind ≤ 10 then (oneS l[i], 0) else ([], 1) : Bs × Int).1 (bytesOf (putS (l.take i)))) fun r6 => bnd (Strings_Builder_WriteByte_m fu 10 r6.2.2) fun r7 => bnd (some ((i + 1 : Nat) : Int)) fun i8 => Tale_Put_l1 fu l k (i8, r7.2)) := fun k => by
      rw [Tale_Put_l1, show decide (((i : Nat) : Int) < ((l.length : Nat) : Int)) = true from by rw [decide_eq_true_eq]; omega, cnd_true, idx_lt hi, bnd_some, one_m (hl _ hmem) (by omega) hf, bnd_some, rng_nat (by omega)]
    by_cases hk : 1 ≤ l[i].Kind ∧ l[i].Kind ≤ 10
    · refine .inr ⟨_, ⟨rfl, ?_⟩, fun k => ?_⟩
      · rw [ht, List.all_append, hv]
        simp [validM, hk]
      · rw [e0, if_pos hk]
        rw [show ((oneS l[i], (0 : Int)).2 != 0) = false from rfl, cnd_false, wstr (by simp only; omega), bnd_some, wbyte' (n := 10) 10 rfl (by simp only [List.length_append]; omega), bnd_some, bnd_some, ht, putS_app]
        simp [putS, lineS]
    · refine .inl ⟨some ([], 1), ?_, fun k => ?_⟩
      · have : l.all (fun m => decide (validM m)) = false := by
          rw [List.all_eq_false]
          exact ⟨_, hmem, fun h => hk (of_decide_eq_true h)⟩
        rw [this]; rfl
      · rw [e0, if_neg hk]; rfl
  · rintro x ⟨rfl, hv⟩
    rw [List.take_length] at hv
    refine ⟨some (putS l, 0), by rw [hv]; rfl, fun k => ?_⟩
    rw [Tale_Put_l1, show decide (((l.length : Nat) : Int) < ((l.length : Nat) : Int)) = false from by simp, cnd_false, List.take_length, Strings_Builder_String_m, bnd_some, str_bytes]

/-! ## Read -/
theorem read_l {fu : Nat} {N : Nat} (hN : N ≤ 1000000) (hf : N + 20 < fu) : ∀ (ys : List Bs) (acc : List Mark), (∀ y ∈ ys, y.length ≤ N ∧ ((∃ t, y = t ++ [10] ∧ (10 : UInt8) ∉ t) ∨ (y ≠ [] ∧ (10 : UInt8) ∉ y))) → acc.length + ys.length ≤ 1000000 →
    (∃ ms, Tale_Read_l1 fu ys acc = some (acc ++ ms, 0) ∧ (∀ m ∈ ms, okM N m) ∧ ys = ms.map lineS) ∨ Tale_Read_l1 fu ys acc = some ([], 2)
  | [], acc, _, _ => .inl ⟨[], by simp [Tale_Read_l1], by simp, rfl⟩
  | y :: ys, acc, h, hl => by
    obtain ⟨hy, hy2⟩ := h y (by simp)
    have ih := fun acc' => read_l hN hf ys acc' (fun y hy => h y (by simp [hy]))
    simp only [List.length_cons] at hl
    rw [Tale_Read_l1]
    rcases hy2 with ⟨t, rfl, ht⟩ | ⟨hne, hn10⟩
    · rw [show Strings_CutSuffix_m fu (t ++ [10]) [10] = _ from cuts_yes (by simp at hy; omega), bnd_some]
      simp only [List.length_append, List.length_cons, List.length_nil] at hy
      obtain ⟨m, ok, e, hm, hok⟩ := line_any (fu := fu) (s := t) (by omega) (by omega)
      simp only
      rw [e, bnd_some]
      cases ok
      · exact .inr rfl
      · simp only [Bool.not_true, cnd_false]
        rw [roomy_ok (by simp; omega), bnd_some]
        obtain ⟨hv, ho⟩ := hok rfl
        have hm2 : okM N m := ⟨⟨hm.depth, hm.node, hm.what, hm.err, hm.from_, hm.to_, by have := hm.name; omega, by have := hm.old; omega, by have := hm.new; omega⟩, hv⟩
        rcases ih (acc ++ [m]) (by simp; omega) with ⟨ms, e2, h2, h3⟩ | e2
        · refine .inl ⟨m :: ms, by rw [e2]; simp, ?_, by simp [lineS, ho, h3]⟩
          intro m' hm'
          rcases List.mem_cons.1 hm' with rfl | hm'
          · exact hm2
          · exact h2 _ hm'
        · exact .inr e2
    · rw [show Strings_CutSuffix_m fu y [10] = _ from cuts_no (by omega) hn10, bnd_some]
      obtain ⟨m, ok, e, hm, hok⟩ := line_any (fu := fu) (s := y) (by omega) (by omega)
      simp only
      rw [e, bnd_some]
      cases ok
      · exact .inr rfl
      · exact .inr rfl
theorem read_any {fu : Nat} {s : Bs} (hs : s.length ≤ 1000000) (hf : s.length + 20 < fu) : (∃ ms, Tale_Read_m fu s = some (ms, 0) ∧ (∀ m ∈ ms, okM s.length m) ∧ s = putS ms) ∨ Tale_Read_m fu s = some ([], 2) := by
  unfold Tale_Read_m
  have hfit : fits s = some () := if_pos (by omega)
  rw [hfit, bnd_some]
  have h := read_l (fu := fu) (N := s.length) hs hf (linesOf s) [] (fun y hy => ⟨linesOf_mem_len hy, linesOf_ends s y hy⟩) (by have := linesOf_len s; simp; omega)
  rcases h with ⟨ms, e, h1, h2⟩ | e
  · refine .inl ⟨ms, by simpa using e, h1, ?_⟩
    rw [putS, ← h2, linesOf_flat]
  · exact .inr e
theorem read_back {fu : Nat} {l : List Mark} {B : Nat} (hl : ∀ m ∈ l, okM B m) (hB : B ≤ 100000) (hf : B + 20 < fu) (hn : l.length ≤ 1000000) (hs : (putS l).length ≤ 800000000) : Tale_Read_m fu (putS l) = some (l, 0) := by
  unfold Tale_Read_m
  have hfit : fits (putS l) = some () := if_pos (by omega)
  rw [hfit, bnd_some, lines_put]
  have key : ∀ (ms acc : List Mark), (∀ m ∈ ms, okM B m) → acc.length + ms.length ≤ 1000000 → Tale_Read_l1 fu (ms.map lineS) acc = some (acc ++ ms, 0) := by
    intro ms
    induction ms with
    | nil => intro acc _ _; simp [Tale_Read_l1]
    | cons m ms ih =>
      intro acc h hl
      obtain ⟨hm, hv⟩ := h m (by simp)
      have ho := oneS_len hm
      simp only [List.length_cons] at hl
      rw [List.map_cons, Tale_Read_l1, lineS, show Strings_CutSuffix_m fu (oneS m ++ [10]) [10] = _ from cuts_yes (by omega), bnd_some]
      rw [line_back hm hB hf hv, bnd_some]
      rw [show (!((m, true) : Mark × Bool).2) = false from rfl, cnd_false, cnd_false, roomy_ok (by simp; omega), bnd_some, ih _ (fun m hm => h m (by simp [hm])) (by simp; omega)]
      simp
  have := key l [] hl (by simpa using hn)
  simpa using this

/-! ## The reference's look, and how long marks are -/
theorem marks_m {fu : Nat} {a : List Mark} (hf : a.length < fu) (hn : a.length ≤ 1000000) : Instarref20_Marks_m fu a a = some true := by
  unfold Instarref20_Marks_m
  rw [show (((a.length : Nat) : Int) != ((a.length : Nat) : Int)) = false from by simp, cnd_false]
  have := up_all (L := Instarref20_Marks_l1 a a) a (fun _ => true) (some true) (fun i h k => by
    rw [Instarref20_Marks_l1, show decide (((i : Nat) : Int) < ((a.length : Nat) : Int)) = true from by rw [decide_eq_true_eq]; omega, cnd_true, idx_lt h, bnd_some, bnd_some, (eqMark_iff _ _).2 rfl, rng_nat (by omega)]
    rfl) (fun k => by rw [Instarref20_Marks_l1, show decide (((a.length : Nat) : Int) < ((a.length : Nat) : Int)) = false from by simp, cnd_false]) hf
  rw [this, List.all_eq_true.2 fun _ _ => rfl]; rfl
def shortB (l : List Mark) : Bool := !decide (200 < l.length) && l.all fun m => !decide (300 < m.Name.length) && !decide (300 < m.Old.length) && !decide (300 < m.New.length)
theorem short_m {fu : Nat} {l : List Mark} (hf : 200 < fu) : Instarlaw24_short_m fu l = some (shortB l) := by
  unfold Instarlaw24_short_m shortB
  by_cases h : 200 < l.length
  · rw [show decide (((l.length : Nat) : Int) > 200) = true from by rw [decide_eq_true_eq]; omega, cnd_true]; simp [h]
  · rw [show decide (((l.length : Nat) : Int) > 200) = false from by rw [decide_eq_false_iff_not]; omega, cnd_false]
    rw [up_all (L := Instarlaw24_short_l1 l) l (fun m => !decide (300 < m.Name.length) && !decide (300 < m.Old.length) && !decide (300 < m.New.length)) (some true) (fun i hi k => ?_) (fun k => ?_) (by omega)]
    · simp only [h, decide_false, Bool.not_false, Bool.true_and]
      cases l.all fun m => !decide (300 < m.Name.length) && !decide (300 < m.Old.length) && !decide (300 < m.New.length) <;> rfl
    · have gt : ∀ x : Bs, decide (((x.length : Nat) : Int) > 300) = decide (300 < x.length) := fun x => decide_eq_decide.2 (by omega)
      rw [Instarlaw24_short_l1, show decide (((i : Nat) : Int) < ((l.length : Nat) : Int)) = true from by rw [decide_eq_true_eq]; omega, cnd_true, idx_lt hi, bnd_some, bnd_some, bnd_some, rng_nat (by omega), bnd_some, gt, gt, gt]
      cases decide (300 < (l[i]).Name.length) <;> cases decide (300 < (l[i]).Old.length) <;> cases decide (300 < (l[i]).New.length) <;> rfl
    · rw [Instarlaw24_short_l1, show decide (((l.length : Nat) : Int) < ((l.length : Nat) : Int)) = false from by simp, cnd_false]
theorem short_wm {l : List Mark} (h : shortB l = true) : l.length ≤ 200 ∧ ∀ m ∈ l, m.Name.length ≤ 300 ∧ m.Old.length ≤ 300 ∧ m.New.length ≤ 300 := by
  simp only [shortB, Bool.and_eq_true, Bool.not_eq_true', decide_eq_false_iff_not, List.all_eq_true] at h
  refine ⟨by omega, fun m hm => ?_⟩
  obtain ⟨⟨h1, h2⟩, h3⟩ := h.2 m hm
  omega
theorem putS_len {l : List Mark} {B : Nat} (h : ∀ m ∈ l, WM m B) : (putS l).length ≤ l.length * (6 * B + 201) := by
  induction l with
  | nil => simp [putS]
  | cons m l ih =>
    have h1 := oneS_len (h m (by simp))
    have h2 := ih fun m hm => h m (by simp [hm])
    rw [putS_cons, lineS]
    simp only [List.length_append, List.length_cons, List.length_nil, Nat.add_mul]
    omega
end Go.Proofs.YtoakfflcpcdbeaaDoor
