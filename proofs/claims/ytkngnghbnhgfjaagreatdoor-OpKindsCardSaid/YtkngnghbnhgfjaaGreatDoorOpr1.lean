/- Operations: the library's functions on texts, the words and the fields of all kinds, and which operations are right. -/
import Derived.Test.YtkngnghbnhgfjaaGreatDoorG
import Derived.Test.YtkngnghbnhgfjaaGreatDoorTxt2
namespace Go.Proofs.YtkngnghbnhgfjaaGreatDoor
open Go Go.Pw
set_option linter.unusedVariables false

/-! ## The library's functions -/
theorem cut_yes {fu : Nat} {w r : Bs} {c : UInt8} (hw : c ∉ w) (hl : (w ++ c :: r).length ≤ 1000000000) : Strings_Cut_m fu (w ++ c :: r) [c] = some (w, r, true) := by
  simp only [List.length_append, List.length_cons] at hl
  unfold Strings_Cut_m Internal_stringslite_Cut_m
  simp only [index1_m, bnd_some]
  rw [index_at hw, show decide (((w.length : Nat) : Int) ≥ 0) = true from by simp, cnd_true, show (0 : Int) = ((0 : Nat) : Int) from rfl, piece_nat (by omega) (by simp), bnd_some,
    show ((w.length : Nat) : Int) + (([c].length : Nat) : Int) = ((w.length + 1 : Nat) : Int) from by simp, rng64 (by omega) (by omega), bnd_some, piece_nat (by simp) (by simp), bnd_some, bnd_some]
  simp
  exact List.take_of_length_le (by omega)
theorem cut_no {fu : Nat} {s : Bs} {c : UInt8} (hs : c ∉ s) : Strings_Cut_m fu s [c] = some (s, [], false) := by
  unfold Strings_Cut_m Internal_stringslite_Cut_m
  simp only [index1_m, bnd_some]
  rw [index_no hs]
  rfl
theorem cut_any {fu : Nat} {s : Bs} (c : UInt8) (hl : s.length ≤ 1000000000) : ∃ w r b, Strings_Cut_m fu s [c] = some (w, r, b) ∧ w.length ≤ s.length ∧ r.length ≤ s.length := by
  by_cases h : c ∈ s
  · obtain ⟨w, r, rfl, hw⟩ := split_at h
    exact ⟨w, r, true, cut_yes hw hl, by simp, by simp; omega⟩
  · exact ⟨s, [], false, cut_no h, Nat.le_refl _, by simp⟩
theorem pre_nil {fu : Nat} {c : UInt8} : Strings_CutPrefix_m fu [] [c] = some ([], false) := by
  unfold Strings_CutPrefix_m Internal_stringslite_CutPrefix_m Internal_stringslite_HasPrefix_m
  rfl
theorem pre_cons {fu : Nat} {b c : UInt8} {r : Bs} (hl : r.length ≤ 1000000000) : Strings_CutPrefix_m fu (b :: r) [c] = some (if b = c then (r, true) else (b :: r, false)) := by
  unfold Strings_CutPrefix_m Internal_stringslite_CutPrefix_m Internal_stringslite_HasPrefix_m
  rw [show decide ((((b :: r).length : Nat) : Int) ≥ (([c].length : Nat) : Int)) = true from by simp; omega, cnd_true]
  rw [show (0 : Int) = ((0 : Nat) : Int) from rfl, piece_nat (by omega) (by simp), bnd_some, bnd_some]
  rw [show (((b :: r).drop 0).take ([c].length - 0) == [c]) = decide (b = c) from by simp [Bool.beq_eq_decide_eq]]
  by_cases h : b = c
  · rw [if_pos h]
    simp only [h, decide_true, Bool.not_true, cnd_false]
    rw [piece_nat (by simp) (by simp), bnd_some, bnd_some]
    simp
  · rw [if_neg h]
    simp [h]
theorem pre_any {fu : Nat} {s : Bs} {c : UInt8} (hl : s.length ≤ 1000000000) : ∃ r b, Strings_CutPrefix_m fu s [c] = some (r, b) ∧ r.length ≤ s.length := by
  cases s with
  | nil => exact ⟨_, _, pre_nil, Nat.le_refl _⟩
  | cons b s =>
    rw [pre_cons (by simp at hl; omega)]
    by_cases h : b = c
    · rw [if_pos h]; exact ⟨_, _, rfl, by simp⟩
    · rw [if_neg h]; exact ⟨_, _, rfl, Nat.le_refl _⟩
theorem hasp_nil {fu : Nat} {c : UInt8} : Strings_HasPrefix_m fu [] [c] = some false := by
  unfold Strings_HasPrefix_m Internal_stringslite_HasPrefix_m
  rfl
theorem hasp_cons {fu : Nat} {b c : UInt8} {r : Bs} : Strings_HasPrefix_m fu (b :: r) [c] = some (decide (b = c)) := by
  unfold Strings_HasPrefix_m Internal_stringslite_HasPrefix_m
  rw [show decide ((((b :: r).length : Nat) : Int) ≥ (([c].length : Nat) : Int)) = true from by simp; omega, cnd_true]
  rw [show (0 : Int) = ((0 : Nat) : Int) from rfl, piece_nat (by omega) (by simp), bnd_some, bnd_some]
  simp [Bool.beq_eq_decide_eq]
theorem index_m {fu : Nat} {l : List Bs} {v : Bs} (hl : l.length < fu) (hb : l.length ≤ 1000000000) : Slices_Index_string_m fu l v = match (List.range l.length).find? fun i => v == l.getD i [] with
    | some i => some (i : Int)
    | none => some (-1) := by
  unfold Slices_Index_string_m
  have at_ : ∀ i, i < l.length → ∀ k, Slices_Index_string_l1 l v (k + 1) (i : Int) = cnd (v == l.getD i []) (some (i : Int)) (Slices_Index_string_l1 l v k ((i + 1 : Nat) : Int)) := fun i hi k => by
    rw [Slices_Index_string_l1, show decide ((i : Int) < ((l.length : Nat) : Int)) = true from by simpa using hi, cnd_true, idx_lt hi, bnd_some, rng_nat (by omega), bnd_some]
    simp [List.getD, hi]
  exact up_find (L := Slices_Index_string_l1 l v) (fun i => v == l.getD i []) (fun i => some (i : Int)) (some (-1)) l.length
    (fun i hi hp k => by rw [at_ i hi k, hp, cnd_true]) (fun i hi hp k => by rw [at_ i hi k, hp, cnd_false]) (fun k => by
      rw [Slices_Index_string_l1, show decide (((l.length : Nat) : Int) < ((l.length : Nat) : Int)) = false from by simp, cnd_false]) hl
theorem wstr {fu : Nat} {s t : Bs} (h : t.length + s.length ≤ 1000000000) : Strings_Builder_WriteString_m fu s (bytesOf t) = some (((s.length : Nat) : Int), false, bytesOf (t ++ s)) := by
  unfold Strings_Builder_WriteString_m
  simp only [Strings_Builder_copyCheck_m, bnd_some]
  rw [bytes_len, roomy_ok (by omega), bnd_some, bytes_app]
theorem wbyte {fu : Nat} {b : UInt8} {t : Bs} (h : t.length < 1000000000) : Strings_Builder_WriteByte_m fu (b.toNat : Int) (bytesOf t) = some (false, bytesOf (t ++ [b])) := by
  unfold Strings_Builder_WriteByte_m
  simp only [Strings_Builder_copyCheck_m, bnd_some]
  rw [bytes_len, roomy_ok (by simp; omega), bnd_some, bytes_app, bytes_one]
theorem bstr {fu : Nat} {t : Bs} : Strings_Builder_String_m fu (bytesOf t) = some t := congrArg some (str_bytes t)

/-! ## Kinds -/
def wordsL : List Bs := [[45], [110, 101, 119], [100, 114, 97, 102, 116], [116, 101, 120, 116], [102, 114, 97, 103], [115, 104, 97, 100, 101], [112, 117, 116], [111, 117, 116], [115, 119, 97, 112], [115, 101, 116], [117, 110, 115, 101, 116], [116, 111, 103, 103, 108, 101], [99, 111, 112, 121], [116, 97, 107, 101], [101, 109, 112, 116, 121], [106, 111, 105, 110], [100, 101, 102, 105, 110, 101], [119, 97, 105, 116], [117, 112, 103, 114, 97, 100, 101], [98, 117, 105, 108, 100], [115, 117, 112, 101, 114], [103, 105, 118, 101], [116, 104, 114, 111, 119], [114, 101, 115, 101, 116], [114, 101, 115, 116, 111, 114, 101], [114, 101, 115, 116], [104, 97, 110, 100, 112, 117, 116], [104, 97, 110, 100, 111, 117, 116], [104, 97, 110, 100, 115, 101, 116]]
theorem words_m (fu : Nat) : Op_words_m fu = some wordsL := by kernel_rfl
def Knd (k : Int) : Prop := 0 < k ∧ k ≤ 28
instance (k : Int) : Decidable (Knd k) := by unfold Knd; infer_instance
def wd (k : Int) : Bs := if Knd k then wordsL.getD k.toNat [] else []
/-- Fields of the kinds, in order: n 110, o 111, i 105, s 115, nothing 46. -/
def fieldsL : List Bs := [[110, 46, 46, 46, 46], [110, 46, 46, 115, 115], [110, 46, 46, 115, 115], [110, 46, 46, 115, 46], [110, 46, 46, 46, 46], [110, 46, 46, 46, 46], [110, 110, 111, 46, 46], [110, 46, 46, 46, 46], [110, 110, 111, 46, 46], [110, 46, 46, 115, 115], [110, 46, 46, 115, 46], [110, 105, 46, 115, 46], [110, 105, 110, 46, 46], [110, 110, 46, 46, 46], [110, 46, 46, 46, 46], [110, 46, 46, 46, 46], [105, 46, 46, 115, 115], [46, 46, 46, 115, 46], [110, 46, 46, 46, 46], [105, 46, 46, 46, 46], [46, 46, 46, 46, 46], [110, 46, 46, 46, 46], [46, 46, 46, 46, 46], [110, 46, 46, 46, 46], [110, 46, 46, 115, 46], [46, 46, 46, 46, 46], [110, 110, 111, 46, 46], [110, 46, 46, 46, 46], [110, 46, 46, 115, 115]]
def fd (k : Int) : Bs := if Knd k then fieldsL.getD k.toNat [] else [110, 46, 46, 46, 46]
theorem knd_cases {k : Int} (h : Knd k) : k = 1 ∨ k = 2 ∨ k = 3 ∨ k = 4 ∨ k = 5 ∨ k = 6 ∨ k = 7 ∨ k = 8 ∨ k = 9 ∨ k = 10 ∨ k = 11 ∨ k = 12 ∨ k = 13 ∨ k = 14 ∨ k = 15 ∨ k = 16 ∨ k = 17 ∨ k = 18 ∨ k = 19 ∨ k = 20 ∨ k = 21 ∨ k = 22 ∨ k = 23 ∨ k = 24 ∨ k = 25 ∨ k = 26 ∨ k = 27 ∨ k = 28 := by
  unfold Knd at h; omega
theorem word_m (fu : Nat) (k : Int) : Op_word_m fu k = some (wd k) := by
  unfold Op_word_m
  rw [words_m, bnd_some]
  by_cases h : Knd k
  · have hw : wd k = wordsL.getD k.toNat [] := if_pos h
    rw [hw]
    obtain ⟨h1, h2⟩ := h
    obtain ⟨n, rfl⟩ : ∃ n : Nat, k = (n : Int) := ⟨k.toNat, by omega⟩
    rw [show decide ((n : Int) > 0) = true from by simpa using h1, cnd_true, show decide ((n : Int) < ((wordsL.length : Nat) : Int)) = true from by simp [wordsL]; omega, cnd_true]
    have hl : n < wordsL.length := by simp [wordsL]; omega
    rw [idx_lt hl, bnd_some]
    simp [List.getD, hl]
  · rw [wd, if_neg h]
    unfold Knd at h
    by_cases h1 : k > 0
    · rw [show decide (k > 0) = true from by simpa using h1, cnd_true, show decide (k < ((wordsL.length : Nat) : Int)) = false from by simp [wordsL]; omega, cnd_false]
    · rw [show decide (k > 0) = false from by simpa using h1, cnd_false]
theorem form_m (fu : Nat) (k : Int) : Op_formOf_m fu k = some (⟨wd k, fd k⟩, decide (Knd k)) := by
  by_cases h : Knd k
  · rw [show decide (Knd k) = true from by simpa using h]
    rcases knd_cases h with rfl | rfl | rfl | rfl | rfl | rfl | rfl | rfl | rfl | rfl | rfl | rfl | rfl | rfl | rfl | rfl | rfl | rfl | rfl | rfl | rfl | rfl | rfl | rfl | rfl | rfl | rfl | rfl <;>
      simp [Op_formOf_m, Op_formOf_j1, Op_formOf_j2, Op_formOf_j3, Op_formOf_j4, word_m, fd, fieldsL, Knd]
  · rw [show decide (Knd k) = false from by simpa using h, fd, if_neg h]
    unfold Knd at h
    have e : ∀ j : Int, 0 < j → j ≤ 28 → (k == j) = false := fun j h1 h2 => beq_false_of_ne (fun e => h (by omega))
    simp only [Op_formOf_m, Op_formOf_j1, Op_formOf_j2, Op_formOf_j3, Op_formOf_j4, word_m, bnd_some,
      e 1 (by decide) (by decide), e 2 (by decide) (by decide), e 3 (by decide) (by decide), e 6 (by decide) (by decide), e 8 (by decide) (by decide), e 9 (by decide) (by decide), e 10 (by decide) (by decide), e 11 (by decide) (by decide), e 12 (by decide) (by decide), e 13 (by decide) (by decide), e 16 (by decide) (by decide), e 17 (by decide) (by decide), e 19 (by decide) (by decide), e 20 (by decide) (by decide), e 22 (by decide) (by decide), e 24 (by decide) (by decide), e 25 (by decide) (by decide), e 26 (by decide) (by decide), e 28 (by decide) (by decide), cnd_false]
    by_cases h1 : k > 0
    · rw [show decide (k > 0) = true from by simpa using h1, cnd_true, show decide (k ≤ 28) = false from by simp; omega]
    · rw [show decide (k > 0) = false from by simpa using h1, cnd_false]
/-- A field's letter. -/
def fc (k : Int) (i : Nat) : UInt8 := (fd k).getD i 0
theorem fd_len (k : Int) : (fd k).length = 5 := by
  unfold fd
  split
  · rename_i h
    rcases knd_cases h with rfl | rfl | rfl | rfl | rfl | rfl | rfl | rfl | rfl | rfl | rfl | rfl | rfl | rfl | rfl | rfl | rfl | rfl | rfl | rfl | rfl | rfl | rfl | rfl | rfl | rfl | rfl | rfl <;> rfl
  · rfl
theorem fc_chr {k : Int} {i : Nat} (hi : i < 5) : chr (fd k) (i : Int) = some ((fc k i).toNat : Int) := by
  have : i < (fd k).length := by rw [fd_len]; exact hi
  rw [chr_lt this, fc, List.getD_eq_getElem?_getD, List.getElem?_eq_getElem this]; rfl
theorem fc_num (k : Int) {i : Nat} (hi : i < 3) : fc k i = 110 ∨ fc k i = 111 ∨ fc k i = 105 ∨ fc k i = 46 := by
  have key : ∀ j : Fin 29, ∀ i : Fin 3, (fieldsL.getD j.1 []).getD i.1 0 = 110 ∨ (fieldsL.getD j.1 []).getD i.1 0 = 111 ∨ (fieldsL.getD j.1 []).getD i.1 0 = 105 ∨ (fieldsL.getD j.1 []).getD i.1 0 = 46 := by decide
  unfold fc fd
  split
  · rename_i h
    exact key ⟨k.toNat, by unfold Knd at h; omega⟩ ⟨i, hi⟩
  · exact key ⟨0, by omega⟩ ⟨i, hi⟩
theorem fc_txt (k : Int) {i : Nat} (h3 : 3 ≤ i) (hi : i < 5) : fc k i = 115 ∨ fc k i = 46 := by
  have key : ∀ j : Fin 29, ∀ i : Fin 5, 3 ≤ i.1 → (fieldsL.getD j.1 []).getD i.1 0 = 115 ∨ (fieldsL.getD j.1 []).getD i.1 0 = 46 := by decide
  unfold fc fd
  split
  · rename_i h
    exact key ⟨k.toNat, by unfold Knd at h; omega⟩ ⟨i, hi⟩ h3
  · exact key ⟨0, by omega⟩ ⟨i, hi⟩ h3
/-- A first text, if there is a second one. -/
theorem fc_34 (k : Int) (h : fc k 4 = 115) : fc k 3 = 115 := by
  have key : ∀ j : Fin 29, (fieldsL.getD j.1 []).getD 4 0 = 115 → (fieldsL.getD j.1 []).getD 3 0 = 115 := by decide
  unfold fc fd at h ⊢
  split at h
  · rename_i hk
    rw [if_pos hk]
    exact key ⟨k.toNat, by unfold Knd at hk; omega⟩ h
  · rename_i hk
    rw [if_neg hk]
    exact key ⟨0, by omega⟩ h

/-! ## Which are right -/
def fit (f : UInt8) (n : Int) : Bool :=
  if f = 105 then decide (-1000 ≤ n ∧ n ≤ 1000) else if f = 110 ∨ f = 111 then decide (n = -2 ∨ n = -3 ∨ 0 ≤ n ∧ n < 400 ∨ f = 111 ∧ n = -1) else decide (n = 0)
def fitT (f : UInt8) (s : Bs) : Bool := if f = 115 then decide (s.length ≤ 200 ∧ (10 : UInt8) ∉ s) else decide (s = [])
def rightP (o : Op) : Bool := decide (Knd o.Kind) && (fit (fc o.Kind 0) o.A && (fit (fc o.Kind 1) o.B && (fit (fc o.Kind 2) o.C && (fitT (fc o.Kind 3) o.S && fitT (fc o.Kind 4) o.T))))
theorem fit_j1 (n : Int) : Op_fit_j1 n () = some (decide (n = -2 ∨ n = -3 ∨ 0 ≤ n ∧ n < 400)) := by
  unfold Op_fit_j1
  simp only [cnd_eq, cnd_dec]
  by_cases h1 : n = -2
  · simp [h1]
  by_cases h2 : n = -3
  · simp [h2]
  by_cases h3 : n ≥ 0
  · rw [if_neg h1, if_neg h2, if_pos h3]
    congr 1
    rw [decide_eq_decide]
    omega
  · rw [if_neg h1, if_neg h2, if_neg h3, eq_comm, decide_eq_false]
    omega
theorem fit_m (fu : Nat) {f : UInt8} (hf : f = 110 ∨ f = 111 ∨ f = 105 ∨ f = 46) (n : Int) : Op_fit_m fu (f.toNat : Int) n = some (fit f n) := by
  unfold Op_fit_m
  rcases hf with rfl | rfl | rfl | rfl
  · show cnd false _ (cnd true (Op_fit_j1 n ()) _) = _
    rw [cnd_false, cnd_true, fit_j1]
    congr 1
    simp [fit]
  · show cnd true _ _ = _
    rw [cnd_true, cnd_eq, fit_j1]
    by_cases h : n = -1
    · rw [if_pos h]; simp [fit, h]
    · rw [if_neg h]; congr 1; simp [fit, h]
  · show cnd false _ (cnd false _ (cnd true _ _)) = _
    rw [cnd_false, cnd_false, cnd_true, cnd_dec]
    by_cases h : n ≥ -1000
    · rw [if_pos h]; congr 1; simp [fit]; omega
    · rw [if_neg h]; congr 1; simp [fit]; omega
  · show cnd false _ (cnd false _ (cnd false _ _)) = _
    rw [cnd_false, cnd_false, cnd_false]
    congr 1
theorem has_m (fu : Nat) (s : Bs) (c : UInt8) : Strings_Contains_m fu s [c] = some (decide (c ∈ s)) := by
  unfold Strings_Contains_m Strings_Index_m
  simp only [index1_m, bnd_some]
  congr 1
  by_cases h : c ∈ s
  · have := (indexByte_iff' s c).1.2 h
    simp [h]; omega
  · rw [index_no h]; simp [h]
theorem fitText_m (fu : Nat) {f : UInt8} (hf : f = 115 ∨ f = 46) (s : Bs) : Op_fitText_m fu (f.toNat : Int) s = some (fitT f s) := by
  unfold Op_fitText_m
  rcases hf with rfl | rfl
  · show cnd true _ _ = _
    rw [cnd_true, cnd_dec, has_m, bnd_some]
    by_cases h : (s.length : Int) ≤ 200
    · rw [if_pos h]; congr 1
      simp [fitT]
      omega
    · rw [if_neg h]; congr 1
      simp [fitT]
      intro h2; omega
  · show cnd false _ _ = _
    rw [cnd_false]
    congr 1
    cases s <;> rfl
theorem right_m (fu : Nat) (o : Op) : Op_Right_m fu o = some (rightP o) := by
  unfold Op_Right_m
  simp only [form_m, bnd_some, Op_numbers_m]
  have j2 : ∀ b ok : Bool, Op_Right_j2 fu o (⟨wd o.Kind, fd o.Kind⟩, b) ok = some (ok && (fitT (fc o.Kind 3) o.S && fitT (fc o.Kind 4) o.T)) := fun b ok => by
    unfold Op_Right_j2
    simp only [Op_texts_m, bnd_some]
    cases ok with
    | false => rfl
    | true =>
      rw [cnd_true, show rng .i64 (3 + 0) = some ((3 : Nat) : Int) from rfl, bnd_some, fc_chr (by omega), bnd_some, fitText_m fu (fc_txt _ (by omega) (by omega)), bnd_some]
      cases fitT (fc o.Kind 3) o.S with
      | false => rfl
      | true =>
        rw [cnd_true, show rng .i64 (3 + 1) = some ((4 : Nat) : Int) from rfl, bnd_some, fc_chr (by omega), bnd_some, fitText_m fu (fc_txt _ (by omega) (by omega)), bnd_some]
        rfl
  have j1 : ∀ b ok : Bool, Op_Right_j1 fu o (⟨wd o.Kind, fd o.Kind⟩, b) ok = some (ok && (fit (fc o.Kind 1) o.B && (fit (fc o.Kind 2) o.C && (fitT (fc o.Kind 3) o.S && fitT (fc o.Kind 4) o.T)))) := fun b ok => by
    unfold Op_Right_j1
    cases ok with
    | false => rw [cnd_false, j2]; rfl
    | true =>
      rw [cnd_true, show (1 : Int) = ((1 : Nat) : Int) from rfl, fc_chr (by omega), bnd_some, fit_m fu (fc_num _ (by omega)), bnd_some]
      cases fit (fc o.Kind 1) o.B with
      | false => rw [cnd_false, j2]; rfl
      | true =>
        rw [cnd_true, show (2 : Int) = ((2 : Nat) : Int) from rfl, fc_chr (by omega), bnd_some, fit_m fu (fc_num _ (by omega)), bnd_some, j2]
        rfl
  unfold rightP
  cases hk : decide (Knd o.Kind) with
  | false => rw [cnd_false, j1]; rfl
  | true =>
    rw [cnd_true, show (0 : Int) = ((0 : Nat) : Int) from rfl, fc_chr (by omega), bnd_some, fit_m fu (fc_num _ (by omega)), bnd_some, j1]
    rfl
end Go.Proofs.YtkngnghbnhgfjaaGreatDoor
