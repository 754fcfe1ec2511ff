/- What the reader of a mark's fields comes to: at a mark's own text, and at any. -/
import Derived.Test.YtoakfflcpcdbeaaDoorTal1
namespace Go.Proofs.YtoakfflcpcdbeaaDoor
open Go Go.Pw
set_option linter.unusedVariables false

/-! ## The library's functions on texts -/
theorem cut_yes {fu : Nat} {w r : Bs} {c : UInt8} (hw : c ∉ w) (hl : (w ++ c :: r).length ≤ 1000000000) : Strings_Cut_m fu (w ++ c :: r) [c] = some (w, r, true) := by
  simp only [List.length_append, List.length_cons] at hl
  unfold Strings_Cut_m Internal_stringslite_Cut_m
  simp only [index1_m, bnd_some]
  rw [index_at hw, show decide (((w.length : Nat) : Int) ≥ 0) = true from by simp, cnd_true, show (0 : Int) = ((0 : Nat) : Int) from rfl, piece_nat (by omega) (by simp), bnd_some,
    show ((w.length : Nat) : Int) + (([c].length : Nat) : Int) = ((w.length + 1 : Nat) : Int) from by simp, rng64 (by omega) (by omega), bnd_some, piece_nat (by simp) (by simp), bnd_some, bnd_some]
  simp
  exact List.take_of_length_le (by omega)
theorem cut_no {fu : Nat} {s : Bs} {c : UInt8} (hs : c ∉ s) : Strings_Cut_m fu s [c] = some (s, [], false) := by
  unfold Strings_Cut_m Internal_stringslite_Cut_m
  simp only [index1_m, bnd_some]
  rw [index_no hs]
  rfl
theorem hasp_nil {fu : Nat} {c : UInt8} : Strings_HasPrefix_m fu [] [c] = some false := by
  unfold Strings_HasPrefix_m Internal_stringslite_HasPrefix_m
  rfl
theorem hasp_cons {fu : Nat} {b c : UInt8} {r : Bs} : Strings_HasPrefix_m fu (b :: r) [c] = some (b == c) := by
  unfold Strings_HasPrefix_m Internal_stringslite_HasPrefix_m
  rw [show decide ((((b :: r).length : Nat) : Int) ≥ (([c].length : Nat) : Int)) = true from by simp; omega, cnd_true, show (0 : Int) = ((0 : Nat) : Int) from rfl, piece_nat (by simp) (by simp), bnd_some, bnd_some]
  simp
theorem trimp_nil {fu : Nat} {c : UInt8} : Strings_TrimPrefix_m fu [] [c] = some [] := by
  unfold Strings_TrimPrefix_m Internal_stringslite_TrimPrefix_m Internal_stringslite_HasPrefix_m
  rfl
theorem trimp_cons {fu : Nat} {b c : UInt8} {r : Bs} : Strings_TrimPrefix_m fu (b :: r) [c] = some (if b = c then r else b :: r) := by
  have h := hasp_cons (fu := fu) (b := b) (c := c) (r := r)
  unfold Strings_HasPrefix_m at h
  unfold Strings_TrimPrefix_m Internal_stringslite_TrimPrefix_m
  cases hq : Internal_stringslite_HasPrefix_m fu (b :: r) [c] with
  | none => rw [hq] at h; cases h
  | some q =>
    rw [hq, bnd_some] at h
    cases h
    rw [bnd_some]
    by_cases hb : b = c
    · rw [hb, beq_self_eq_true, cnd_true, piece_nat (by simp) (by simp), bnd_some, bnd_some, if_pos rfl]; simp
    · rw [beq_false_of_ne hb, cnd_false, bnd_some, if_neg hb]
theorem cuts_yes {fu : Nat} {t : Bs} {c : UInt8} (h : t.length ≤ 1000000000) : Strings_CutSuffix_m fu (t ++ [c]) [c] = some (t, true) := by
  unfold Strings_CutSuffix_m Internal_stringslite_CutSuffix_m Internal_stringslite_HasSuffix_m
  have e : (((t ++ [c]).length : Nat) : Int) - (([c].length : Nat) : Int) = ((t.length : Nat) : Int) := by simp
  rw [e, show decide ((((t ++ [c]).length : Nat) : Int) ≥ (([c].length : Nat) : Int)) = true from by simp; omega, cnd_true, rng64 (by omega) (by omega), bnd_some, piece_nat (by simp) (by simp), bnd_some, bnd_some]
  have e2 : (((t ++ [c]).drop t.length).take ((t ++ [c]).length - t.length) == [c]) = true := by simp
  rw [e2]
  simp only [Bool.not_true, cnd_false, bnd_some]
  rw [show (0 : Int) = ((0 : Nat) : Int) from rfl, piece_nat (by omega) (by simp), bnd_some, bnd_some]
  simp
theorem cuts_no {fu : Nat} {s : Bs} {c : UInt8} (hl : s.length ≤ 1000000000) (h : c ∉ s) : Strings_CutSuffix_m fu s [c] = some (s, false) := by
  unfold Strings_CutSuffix_m Internal_stringslite_CutSuffix_m Internal_stringslite_HasSuffix_m
  by_cases h0 : s = []
  · subst h0; rfl
  · have hp : 0 < s.length := List.length_pos_iff.2 h0
    have e : ((s.length : Nat) : Int) - (([c].length : Nat) : Int) = ((s.length - 1 : Nat) : Int) := by simp; omega
    rw [e, show decide (((s.length : Nat) : Int) ≥ (([c].length : Nat) : Int)) = true from by simp; omega, cnd_true, rng64 (by omega) (by omega), bnd_some, piece_nat (by omega) (by omega), bnd_some, bnd_some]
    have e2 : ((s.drop (s.length - 1)).take (s.length - (s.length - 1)) == [c]) = false := by
      refine beq_false_of_ne fun he => h ?_
      have : c ∈ (s.drop (s.length - 1)).take (s.length - (s.length - 1)) := by rw [he]; simp
      exact List.mem_of_mem_drop (List.mem_of_mem_take this)
    rw [e2]
    rfl

/-! ## A place in the words -/
theorem index_m {fu : Nat} {l : List Bs} {v : Bs} (hl : l.length < fu) (hb : l.length ≤ 1000000000) : Slices_Index_string_m fu l v = match (List.range l.length).find? fun i => v == l.getD i [] with
    | some i => some (i : Int)
    | none => some (-1) := by
  unfold Slices_Index_string_m
  have at_ : ∀ i, i < l.length → ∀ k, Slices_Index_string_l1 l v (k + 1) (i : Int) = cnd (v == l.getD i []) (some (i : Int)) (Slices_Index_string_l1 l v k ((i + 1 : Nat) : Int)) := fun i hi k => by
    rw [Slices_Index_string_l1, show decide ((i : Int) < ((l.length : Nat) : Int)) = true from by simpa using hi, cnd_true, idx_lt hi, bnd_some, rng_nat (by omega), bnd_some]
    simp [List.getD, hi]
  exact up_find (L := Slices_Index_string_l1 l v) (fun i => v == l.getD i []) (fun i => some (i : Int)) (some (-1)) l.length
    (fun i hi hp k => by rw [at_ i hi k, hp, cnd_true]) (fun i hi hp k => by rw [at_ i hi k, hp, cnd_false]) (fun k => by
      rw [Slices_Index_string_l1, show decide (((l.length : Nat) : Int) < ((l.length : Nat) : Int)) = false from by simp, cnd_false]) hl
theorem index_word {fu : Nat} (hf : 11 < fu) {k : Int} (h1 : 1 ≤ k) (h2 : k ≤ 10) : Slices_Index_string_m fu wordsL (wordS k) = some k := by
  rw [index_m hf (by simp [wordsL])]
  have : ∀ j : Fin 11, ((List.range 11).find? fun i => wordsL.getD j.1 [] == wordsL.getD i []) = some j.1 := by decide
  have hj := this ⟨k.toNat, by omega⟩
  show (match (List.range 11).find? fun i => wordsL.getD k.toNat [] == wordsL.getD i [] with | some i => some (i : Int) | none => some (-1)) = _
  rw [hj]
  show some ((k.toNat : Nat) : Int) = some k
  congr 1
  omega
theorem index_any {fu : Nat} (hf : 11 < fu) (w : Bs) : ∃ k, Slices_Index_string_m fu wordsL w = some k ∧ inI k := by
  rw [index_m hf (by simp [wordsL])]
  cases h : (List.range wordsL.length).find? fun i => w == wordsL.getD i [] with
  | none => exact ⟨_, rfl, by unfold inI; omega⟩
  | some i =>
    have : i < 11 := by simpa [wordsL] using List.mem_of_find?_eq_some h
    exact ⟨_, rfl, by unfold inI; omega⟩

/-! ## At a mark's own text -/
def nxt : List Bs → Bs
  | [] => []
  | f :: l => f ++ tl l
theorem nxt_len (l : List Bs) : (nxt l).length ≤ (tl l).length := by
  cases l with
  | nil => simp [nxt, tl_nil]
  | cons f l => simp [nxt, tl_cons]
theorem rword {fu : Nat} {f : Bs} {l : List Bs} {bad : Bool} (hf : (32 : UInt8) ∉ f) (hl : (nxt (f :: l)).length ≤ 1000000000) : Tale_reader_word_m fu ⟨nxt (f :: l), bad⟩ = some (f, ⟨nxt l, bad⟩) := by
  unfold Tale_reader_word_m
  cases l with
  | nil => simp only [nxt, tl_nil, List.append_nil]; rw [cut_no hf]; rfl
  | cons g l =>
    simp only [nxt, tl_cons] at hl ⊢
    rw [cut_yes hf hl]; rfl
theorem rnum {fu : Nat} {n : Int} {l : List Bs} {bad : Bool} (hn : inI n) (hl : (nxt (Lib.itoa n :: l)).length ≤ 1000000000) : Tale_reader_number_m fu ⟨nxt (Lib.itoa n :: l), bad⟩ = some (n, ⟨nxt l, bad⟩) := by
  unfold Tale_reader_number_m
  rw [rword (itoa_no (by decide)) hl, bnd_some]
  have h1 := itoa_len hn.1 hn.2
  simp only [atoi_m]
  rw [if_pos (by omega), bnd_some, atoi_itoa hn.1 hn.2]
  cases bad <;> rfl
theorem rbit {fu : Nat} {b : Bool} {l : List Bs} {bad : Bool} (hl : (nxt (bit b :: l)).length ≤ 1000000000) : ∃ n, Tale_reader_number_m fu ⟨nxt (bit b :: l), bad⟩ = some (n, ⟨nxt l, bad⟩) ∧ (n == 1) = b := by
  cases b
  · exact ⟨0, by have := rnum (fu := fu) (n := 0) (l := l) (bad := bad) ⟨by omega, by omega⟩; rw [itoa01.2] at this; exact this hl, rfl⟩
  · exact ⟨1, by have := rnum (fu := fu) (n := 1) (l := l) (bad := bad) ⟨by omega, by omega⟩; rw [itoa01.1] at this; exact this hl, rfl⟩

theorem chr_app (a r : Bs) (b : UInt8) : chr (a ++ b :: r) (a.length : Nat) = some (b.toNat : Int) := by
  rw [chr_nat]; simp
theorem two_at {pre rest t : Bs} {b c : UInt8} (h : escB b = [92, c]) : chr (34 :: (esc (pre ++ b :: rest) ++ 34 :: t)) ((1 + (esc pre).length : Nat) : Int) = some 92 ∧ chr (34 :: (esc (pre ++ b :: rest) ++ 34 :: t)) ((1 + (esc pre).length + 1 : Nat) : Int) = some (c.toNat : Int) := by
  rw [esc_app, esc_cons, h]
  constructor
  · have := chr_app (34 :: esc pre) (c :: (esc rest ++ 34 :: t)) 92
    rw [show ((1 + (esc pre).length : Nat) : Int) = (((34 :: esc pre : Bs).length : Nat) : Int) from by simp; omega]
    simpa using this
  · have := chr_app (34 :: esc pre ++ [92]) (esc rest ++ 34 :: t) c
    rw [show ((1 + (esc pre).length + 1 : Nat) : Int) = (((34 :: esc pre ++ [92] : Bs).length : Nat) : Int) from by simp; omega]
    simpa using this
theorem one_at {pre rest t : Bs} {b : UInt8} (h : escB b = [b]) : chr (34 :: (esc (pre ++ b :: rest) ++ 34 :: t)) ((1 + (esc pre).length : Nat) : Int) = some (b.toNat : Int) := by
  rw [esc_app, esc_cons, h]
  have := chr_app (34 :: esc pre) (esc rest ++ 34 :: t) b
  rw [show ((1 + (esc pre).length : Nat) : Int) = (((34 :: esc pre : Bs).length : Nat) : Int) from by simp; omega]
  simpa using this
theorem esc_snoc (pre : Bs) (b : UInt8) : (esc (pre ++ [b])).length = (esc pre).length + (escB b).length := by
  rw [esc_app, esc_cons, esc_nil, List.append_nil, List.length_append]

theorem rt_step {fu k : Nat} {pre rest t : Bs} {b : UInt8} {bad : Bool} (hl : (34 :: (esc (pre ++ b :: rest) ++ 34 :: t)).length ≤ 900000000) :
    Tale_reader_text_l1 fu ⟨34 :: (esc (pre ++ b :: rest) ++ 34 :: t), bad⟩ (k + 1) (((1 + (esc pre).length : Nat) : Int), bytesOf pre) =
    Tale_reader_text_l1 fu ⟨34 :: (esc (pre ++ b :: rest) ++ 34 :: t), bad⟩ k (((1 + (esc (pre ++ [b])).length : Nat) : Int), bytesOf (pre ++ [b])) := by
  have hN : (34 :: (esc (pre ++ b :: rest) ++ 34 :: t)).length = 2 + (esc pre).length + (escB b).length + (esc rest).length + t.length := by
    rw [esc_app, esc_cons]; simp; omega
  have hpl := esc_ge pre
  have hbp := escB_pos b
  have hlt : ∀ j : Nat, j < 2 + (esc pre).length + (escB b).length → decide (((j : Nat) : Int) < (((34 :: (esc (pre ++ b :: rest) ++ 34 :: t)).length : Nat) : Int)) = true := fun j hj => by rw [decide_eq_true_eq]; omega
  rw [hN] at hl
  have wb : ∀ (c : UInt8) (n : Int), n = (c.toNat : Int) → Strings_Builder_WriteByte_m fu n (bytesOf pre) = some (false, bytesOf (pre ++ [c])) := fun c n hn => wbyte' c hn (by omega)
  rw [esc_snoc]
  generalize hS : (34 :: (esc (pre ++ b :: rest) ++ 34 :: t) : Bs) = S at *
  rw [Tale_reader_text_l1, hlt _ (by omega), cnd_true]
  by_cases h10 : b = 10
  · have he : escB b = [92, 110] := by rw [h10]; rfl
    obtain ⟨t1, t2⟩ := two_at (pre := pre) (rest := rest) (t := t) he
    have el : (escB b).length = 2 := by rw [he]; rfl
    rw [hS] at t1 t2
    rw [t1, bnd_some]
    rw [show ((92 : Int) == 34) = false from rfl, cnd_false, show ((92 : Int) != 92) = false from rfl, cnd_false, rng_nat (by omega), bnd_some, hlt _ (by omega), cnd_true, bnd_some, t2, bnd_some, show (((110 : UInt8).toNat : Int) == 110) = true from rfl, cnd_true, bnd_some, wb b 10 (by rw [h10]; rfl), bnd_some, rng_nat (by omega), bnd_some, el]
    rfl
  · by_cases h3 : b = 34 ∨ b = 92
    · have hc : escB b = [92, b] := by unfold escB; rw [if_neg h10, if_pos h3]
      obtain ⟨t1, t2⟩ := two_at (pre := pre) (rest := rest) (t := t) hc
      have el : (escB b).length = 2 := by rw [hc]; rfl
      have hn : ((b.toNat : Int) == 110) = false := by rcases h3 with rfl | rfl <;> rfl
      rw [hS] at t1 t2
      rw [t1, bnd_some]
      rw [show ((92 : Int) == 34) = false from rfl, cnd_false, show ((92 : Int) != 92) = false from rfl, cnd_false, rng_nat (by omega), bnd_some, hlt _ (by omega), cnd_true, bnd_some, t2, bnd_some, hn, cnd_false, Tale_reader_text_j1, rng_nat (by omega), bnd_some, hlt _ (by omega), cnd_true, bnd_some, t2, bnd_some, wb b _ rfl, bnd_some, rng_nat (by omega), bnd_some, el]
      rfl
    · have hc : escB b = [b] := by unfold escB; rw [if_neg h10, if_neg h3]
      have t1 := one_at (pre := pre) (rest := rest) (t := t) hc
      have el : (escB b).length = 1 := by rw [hc]; rfl
      have n1 : ((b.toNat : Int) == 34) = false := by rw [show (34 : Int) = (((34 : UInt8).toNat : Nat) : Int) from rfl, byte_is]; exact beq_false_of_ne fun h => h3 (.inl h)
      have n2 : ((b.toNat : Int) != 92) = true := by rw [bne, show (92 : Int) = (((92 : UInt8).toNat : Nat) : Int) from rfl, byte_is, beq_false_of_ne fun h => h3 (.inr h)]; rfl
      rw [hS] at t1
      rw [t1, bnd_some, n1, cnd_false, n2, cnd_true, wb b _ rfl, bnd_some, rng_nat (by omega), bnd_some, el]
      rfl
theorem rt_end {fu k : Nat} {s : Bs} {l : List Bs} {bad : Bool} (hl : (34 :: (esc s ++ 34 :: tl l)).length ≤ 900000000) :
    Tale_reader_text_l1 fu ⟨34 :: (esc s ++ 34 :: tl l), bad⟩ (k + 1) (((1 + (esc s).length : Nat) : Int), bytesOf s) = some (s, ⟨nxt l, bad⟩) := by
  have hN : (34 :: (esc s ++ 34 :: tl l)).length = 2 + (esc s).length + (tl l).length := by simp; omega
  have e2 : (34 :: (esc s ++ 34 :: tl l) : Bs) = (34 :: esc s) ++ 34 :: tl l := by simp
  have e3 : ((1 + (esc s).length : Nat) : Int) = (((34 :: esc s : Bs).length : Nat) : Int) := by simp; omega
  have t1 : chr (34 :: (esc s ++ 34 :: tl l)) ((1 + (esc s).length : Nat) : Int) = some 34 := by rw [e2, e3]; exact chr_app _ _ _
  have e4 : ((34 :: (esc s ++ 34 :: tl l) : Bs).drop (1 + (esc s).length + 1)).take ((34 :: (esc s ++ 34 :: tl l) : Bs).length - (1 + (esc s).length + 1)) = tl l := by
    rw [hN, e2, show (34 :: esc s) ++ 34 :: tl l = (34 :: esc s ++ [34]) ++ tl l from by simp, List.drop_left' (by simp; omega), List.take_of_length_le (by omega)]
  have e5 : Strings_TrimPrefix_m fu (tl l) [32] = some (nxt l) := by
    cases l with
    | nil => exact trimp_nil
    | cons f l => rw [tl_cons, trimp_cons, if_pos rfl]; rfl
  rw [hN] at hl
  rw [Tale_reader_text_l1, show decide (((1 + (esc s).length : Nat) : Int) < (((34 :: (esc s ++ 34 :: tl l)).length : Nat) : Int)) = true from by rw [decide_eq_true_eq]; omega, cnd_true, t1, bnd_some]
  rw [show ((34 : Int) == 34) = true from rfl, cnd_true, rng_nat (by omega), bnd_some, piece_nat (i := 1 + (esc s).length + 1) (j := (34 :: (esc s ++ 34 :: tl l)).length) (by omega) (Nat.le_refl _), bnd_some, e4, e5, bnd_some, Strings_Builder_String_m, bnd_some, str_bytes]
theorem rtext {fu : Nat} {s : Bs} {l : List Bs} {bad : Bool} (hf : s.length < fu) (hl : (nxt (txt s :: l)).length ≤ 900000000) : Tale_reader_text_m fu ⟨nxt (txt s :: l), bad⟩ = some (s, ⟨nxt l, bad⟩) := by
  unfold Tale_reader_text_m
  have e0 : nxt (txt s :: l) = 34 :: (esc s ++ 34 :: tl l) := by simp [nxt, txt]
  rw [e0] at hl ⊢
  rw [hasp_cons, bnd_some]
  simp only [beq_self_eq_true, Bool.not_true, cnd_false]
  have key := upf (L := Tale_reader_text_l1 fu ⟨34 :: (esc s ++ 34 :: tl l), bad⟩) (fun i => (((1 + (esc (s.take i)).length : Nat) : Int), bytesOf (s.take i))) (some (s, (⟨nxt l, bad⟩ : Tale_reader))) s.length (fun i hi k => ?_) (fun k => ?_) hf
  · simpa [esc_nil, bytes_nil] using key
  · have hd : s = s.take i ++ s[i] :: s.drop (i + 1) := by rw [← List.drop_eq_getElem_cons hi, List.take_append_drop]
    have hb : s.take (i + 1) = s.take i ++ [s[i]] := List.take_succ_eq_append_getElem hi
    have := rt_step (fu := fu) (k := k) (pre := s.take i) (b := s[i]) (rest := s.drop (i + 1)) (t := tl l) (bad := bad)
    rw [← hd] at this
    rw [hb]
    exact this hl
  · rw [List.take_length]
    exact rt_end hl
end Go.Proofs.YtoakfflcpcdbeaaDoor
