/- A mark's text: what the model of tale.One comes to. -/
import Derived.Test.YtoakfflcpcdbeaaDoorG
import Derived.Test.YtoakfflcpcdbeaaDoorTxt1
namespace Go.Proofs.YtoakfflcpcdbeaaDoor
open Go Go.Pw
set_option linter.unusedVariables false

theorem bytes_app (s t : Bs) : bytesOf (s ++ t) = bytesOf s ++ bytesOf t := by simp [bytesOf]
theorem bytes_one (b : UInt8) : bytesOf [b] = [(b.toNat : Int)] := rfl
theorem bytes_nil : bytesOf [] = [] := rfl
theorem bytes_len (s : Bs) : (bytesOf s).length = s.length := by simp [bytesOf]
theorem str_bytes (s : Bs) : strOf (bytesOf s) = s := by
  simp only [strOf, bytesOf, List.map_map]
  conv => rhs; rw [← List.map_id s]
  refine List.map_congr_left fun b _ => ?_
  simp

/-! ## What a text is put as -/
def escB (b : UInt8) : Bs := if b = 10 then [92, 110] else if b = 34 ∨ b = 92 then [92, b] else [b]
def esc (s : Bs) : Bs := s.flatMap escB
def txt (s : Bs) : Bs := 34 :: (esc s ++ [34])
def bit (b : Bool) : Bs := if b then [49] else [48]
def tl (l : List Bs) : Bs := l.flatMap fun f => 32 :: f
theorem tl_nil : tl [] = [] := rfl
theorem tl_cons (f : Bs) (l : List Bs) : tl (f :: l) = 32 :: (f ++ tl l) := rfl
theorem tl_app (l m : List Bs) : tl (l ++ m) = tl l ++ tl m := by simp [tl]
def wordsL : List Bs := [[45], [100, 105, 100], [98, 97, 100], [98, 101, 103, 97, 110], [101, 110, 100, 101, 100], [98, 101, 99, 97, 109, 101], [99, 97, 108, 108, 101, 100], [116, 111, 108, 100], [107, 101, 112, 116], [112, 101, 101, 107, 101, 100], [111, 118, 101, 114]]
def wordS (k : Int) : Bs := wordsL.getD k.toNat []
def numsF (m : Mark) : List Bs := [Lib.itoa m.Depth, Lib.itoa m.Node, Lib.itoa m.What, Lib.itoa m.Err]
def callF (m : Mark) : List Bs := [txt m.Name, bit m.Had, bit m.Has, txt m.Old, txt m.New, Lib.itoa m.From, Lib.itoa m.To, bit m.On]
def bareM (m : Mark) : Mark := ⟨m.Kind, m.Depth, m.Node, m.What, m.Err, [], false, false, [], [], 0, 0, false⟩
def fieldsM (m : Mark) : List Bs := if eqMark m (bareM m) then numsF m else numsF m ++ callF m
def oneS (m : Mark) : Bs := wordS m.Kind ++ tl (fieldsM m)
def inI (n : Int) : Prop := -9223372036854775808 ≤ n ∧ n ≤ 9223372036854775807
/-- A mark whose numbers are numbers and whose texts are this long at most. -/
structure WM (m : Mark) (B : Nat) : Prop where
  depth : inI m.Depth
  node : inI m.Node
  what : inI m.What
  err : inI m.Err
  from_ : inI m.From
  to_ : inI m.To
  name : m.Name.length ≤ B
  old : m.Old.length ≤ B
  new : m.New.length ≤ B

theorem words_m (fu : Nat) : Tale_words_m fu = some wordsL := by kernel_rfl
theorem escB_len (b : UInt8) : (escB b).length ≤ 2 := by
  unfold escB
  split
  · simp
  · split <;> simp
theorem esc_nil : esc [] = [] := rfl
theorem esc_cons (b : UInt8) (s : Bs) : esc (b :: s) = escB b ++ esc s := by simp [esc]
theorem esc_app (s t : Bs) : esc (s ++ t) = esc s ++ esc t := by simp [esc]
theorem esc_len : ∀ (s : Bs), (esc s).length ≤ 2 * s.length
  | [] => by simp [esc]
  | b :: s => by have := esc_len s; have := escB_len b; rw [esc_cons]; simp; omega
theorem escB_pos (b : UInt8) : 1 ≤ (escB b).length := by
  unfold escB
  split
  · simp
  · split <;> simp
theorem esc_ge : ∀ (s : Bs), s.length ≤ (esc s).length
  | [] => by simp
  | b :: s => by have := esc_ge s; have := escB_pos b; rw [esc_cons, List.length_append, List.length_cons]; omega
theorem txt_len (s : Bs) : (txt s).length ≤ 2 * s.length + 2 := by have := esc_len s; simp [txt]; omega
theorem bit_len (b : Bool) : (bit b).length = 1 := by cases b <;> rfl

/-! ## The writer -/
theorem wstr {fu : Nat} {s t : Bs} (h : t.length + s.length ≤ 1000000000) : Strings_Builder_WriteString_m fu s (bytesOf t) = some (((s.length : Nat) : Int), false, bytesOf (t ++ s)) := by
  unfold Strings_Builder_WriteString_m
  simp only [Strings_Builder_copyCheck_m, bnd_some]
  rw [bytes_len, roomy_ok (by omega), bnd_some, bytes_app]
theorem wbyte {fu : Nat} {b : UInt8} {t : Bs} (h : t.length < 1000000000) : Strings_Builder_WriteByte_m fu (b.toNat : Int) (bytesOf t) = some (false, bytesOf (t ++ [b])) := by
  unfold Strings_Builder_WriteByte_m
  simp only [Strings_Builder_copyCheck_m, bnd_some]
  rw [bytes_len, roomy_ok (by simp; omega), bnd_some, bytes_app, bytes_one]
theorem wbyte' {fu : Nat} {n : Int} (b : UInt8) {t : Bs} (hn : n = (b.toNat : Int)) (h : t.length < 1000000000) : Strings_Builder_WriteByte_m fu n (bytesOf t) = some (false, bytesOf (t ++ [b])) := by
  subst hn; exact wbyte h
theorem itoa_m' {fu : Nat} {n : Int} (h : inI n) : itoa_m fu n = some (Lib.itoa n) := if_pos h
theorem wnum {fu : Nat} {n : Int} {t : Bs} (hn : inI n) (h : t.length ≤ 900000000) : Tale_writer_number_m fu n (bytesOf t) = some (bytesOf (t ++ 32 :: Lib.itoa n)) := by
  have hl := itoa_len hn.1 hn.2
  unfold Tale_writer_number_m
  rw [itoa_m' hn, bnd_some, cat_ok (by simp; omega), bnd_some, wstr (by simp; omega), bnd_some]
  rfl
theorem itoa01 : Lib.itoa 1 = [49] ∧ Lib.itoa 0 = [48] := by
  constructor <;> · unfold Lib.itoa; rw [if_neg (by omega), Lib.decDigits]; rfl
theorem wtruth {fu : Nat} {b : Bool} {t : Bs} (h : t.length ≤ 900000000) : Tale_writer_truth_m fu b (bytesOf t) = some (bytesOf (t ++ 32 :: bit b)) := by
  unfold Tale_writer_truth_m
  cases b
  · rw [cnd_false, wnum ⟨by omega, by omega⟩ h, bnd_some, itoa01.2]; rfl
  · rw [cnd_true, wnum ⟨by omega, by omega⟩ h, bnd_some, itoa01.1]; rfl

theorem byte_is (b c : UInt8) : ((b.toNat : Int) == (c.toNat : Int)) = (b == c) := by
  rw [Bool.eq_iff_iff, beq_iff_eq, beq_iff_eq, ← UInt8.toNat_inj]; omega
theorem bool_ite {α : Type} {p : Prop} [Decidable p] {b : Bool} (h : b = true ↔ p) (x y : α) : (bif b then x else y) = if p then x else y := by
  by_cases hp : p
  · rw [if_pos hp, h.2 hp]; rfl
  · have : b = false := by cases hb : b; rfl; exact absurd (h.1 hb) hp
    rw [if_neg hp, this]; rfl

theorem wtext {fu : Nat} {s t : Bs} (hf : s.length < fu) (h : t.length + 2 * s.length ≤ 900000000) : Tale_writer_text_m fu s (bytesOf t) = some (bytesOf (t ++ 32 :: txt s)) := by
  unfold Tale_writer_text_m
  rw [wstr (by simp; omega), bnd_some]
  have hlen : ∀ i, (esc (s.take i)).length ≤ 2 * s.length := fun i => by
    have := esc_len (s.take i)
    have : (s.take i).length ≤ s.length := by simp; omega
    omega
  have key := upf (L := Tale_writer_text_l1 fu s) (fun i => ((i : Int), bytesOf (t ++ [32, 34] ++ esc (s.take i)))) (some (bytesOf (t ++ 32 :: txt s))) s.length (fun i hi k => ?_) (fun k => ?_) hf
  · simpa [esc_nil] using key
  · have hi' := hlen i
    have hb : s.take (i + 1) = s.take i ++ [s[i]] := List.take_succ_eq_append_getElem hi
    rw [Tale_writer_text_l1, show (decide ((i : Int) < ((s.length : Nat) : Int))) = true from by simpa using hi, cnd_true, chr_lt hi, bnd_some, hb, esc_app]
    generalize hacc : t ++ [32, 34] ++ esc (s.take i) = acc
    have hal : acc.length ≤ 900000002 := by rw [← hacc]; simp; omega
    generalize s[i] = b
    rw [show ((b.toNat : Int) == 10) = (b == 10) from byte_is b 10, show ((b.toNat : Int) == 34) = (b == 34) from byte_is b 34, show ((b.toNat : Int) == 92) = (b == 92) from byte_is b 92, rng_nat (by omega)]
    have e1 : esc [b] = escB b := by rw [esc_cons, esc_nil, List.append_nil]
    rw [← List.append_assoc, hacc, e1]
    have w2 : ∀ c : UInt8, escB b = [92, c] → c = b → (bnd (Strings_Builder_WriteByte_m fu 92 (bytesOf acc)) fun r8 => bnd (Strings_Builder_WriteByte_m fu (b.toNat : Int) r8.2) fun r12 => bnd (some (((i + 1 : Nat)) : Int)) fun i17 => Tale_writer_text_l1 fu s k (i17, r12.2)) = Tale_writer_text_l1 fu s k (((i + 1 : Nat) : Int), bytesOf (acc ++ escB b)) := fun c hc hcb => by
      rw [wbyte' (n := 92) 92 rfl (by omega), bnd_some, wbyte (by simp; omega), bnd_some, bnd_some, hc, hcb]
      simp
    by_cases h10 : b = 10
    · subst h10
      simp only [beq_self_eq_true, cnd_true]
      rw [wstr (by simp; omega), bnd_some, bnd_some]
      rfl
    · rw [beq_false_of_ne h10, cnd_false]
      by_cases h34 : b = 34
      · subst h34
        simp only [beq_self_eq_true, cnd_true]
        exact w2 34 rfl rfl
      · rw [beq_false_of_ne h34, cnd_false]
        by_cases h92 : b = 92
        · subst h92
          simp only [beq_self_eq_true, cnd_true]
          exact w2 92 rfl rfl
        · rw [beq_false_of_ne h92, cnd_false, wbyte (by omega), bnd_some, bnd_some]
          simp [escB, h10, h34, h92]
  · rw [Tale_writer_text_l1, show (decide (((s.length : Nat) : Int) < ((s.length : Nat) : Int))) = false from by simp, cnd_false, List.take_length]
    have := esc_len s
    rw [wstr (by simp; omega), bnd_some]
    simp [txt]

theorem word_at {k : Int} (h1 : 1 ≤ k) (h2 : k ≤ 10) : idx wordsL k = some (wordS k) := by
  obtain ⟨j, rfl⟩ : ∃ j : Nat, k = (j : Int) := ⟨k.toNat, by omega⟩
  have hj : j < wordsL.length := by simp [wordsL]; omega
  rw [idx_lt hj]
  simp [wordS, List.getD, hj]
theorem wordS_len (k : Int) : (wordS k).length ≤ 6 := by
  unfold wordS
  by_cases h : k.toNat < 11
  · have : ∀ j : Fin 11, (wordsL.getD j.1 []).length ≤ 6 := by decide
    exact this ⟨_, h⟩
  · have : wordsL.getD k.toNat [] = [] := by rw [List.getD_eq_getElem?_getD, List.getElem?_eq_none (show 11 ≤ k.toNat by omega)]; rfl
    rw [this]; simp

theorem one_m {fu : Nat} {m : Mark} {B : Nat} (hm : WM m B) (hB : B ≤ 1000000) (hf : B + 8 < fu) : Tale_One_m fu m = some (if 1 ≤ m.Kind ∧ m.Kind ≤ 10 then (oneS m, 0) else ([], 1)) := by
  unfold Tale_One_m
  by_cases hk1 : m.Kind < 1
  · rw [show decide (m.Kind < 1) = true from by simpa using hk1, cnd_true, if_neg (by omega)]
  rw [show decide (m.Kind < 1) = false from by simpa using hk1, cnd_false]
  by_cases hk2 : m.Kind > 10
  · rw [show decide (m.Kind > 10) = true from by simpa using hk2, cnd_true, if_neg (by omega)]
  rw [show decide (m.Kind > 10) = false from by simpa using hk2, cnd_false, if_pos (by omega), words_m, bnd_some, word_at (by omega) (by omega), bnd_some]
  have hw := wordS_len m.Kind
  rw [show ([] : List Int) = bytesOf [] from rfl, wstr (by simp; omega), bnd_some, List.nil_append]
  have hn : ∀ f ∈ numsF m, f.length ≤ 21 := by
    intro f hf
    simp only [numsF, List.mem_cons, List.not_mem_nil, or_false] at hf
    rcases hf with rfl | rfl | rfl | rfl
    · exact itoa_len hm.depth.1 hm.depth.2
    · exact itoa_len hm.node.1 hm.node.2
    · exact itoa_len hm.what.1 hm.what.2
    · exact itoa_len hm.err.1 hm.err.2
  have hall : ∀ n ∈ [m.Depth, m.Node, m.What, m.Err], inI n := by
    intro n hn
    simp only [List.mem_cons, List.not_mem_nil, or_false] at hn
    rcases hn with rfl | rfl | rfl | rfl
    · exact hm.depth
    · exact hm.node
    · exact hm.what
    · exact hm.err
  have htl : ∀ (l : List Int), (∀ n ∈ l, inI n) → (tl (l.map Lib.itoa)).length ≤ 22 * l.length := by
    intro l
    induction l with
    | nil => intro _; simp [tl_nil]
    | cons n l ih =>
      intro h
      have h1 := itoa_len (h n (by simp)).1 (h n (by simp)).2
      have h2 := ih fun n hn => h n (by simp [hn])
      rw [List.map_cons, tl_cons]; simp; omega
  have key := upf (L := Tale_One_l1 fu m) (fun i => ((i : Int), bytesOf (wordS m.Kind ++ tl (([m.Depth, m.Node, m.What, m.Err].take i).map Lib.itoa)))) (some (oneS m, 0)) 4 (fun i hi k => ?_) (fun k => ?_) (k := fu) (by omega)
  · simpa [tl_nil] using key
  · have hi' : i < [m.Depth, m.Node, m.What, m.Err].length := hi
    rw [Tale_One_l1, show (decide ((i : Int) < (([m.Depth, m.Node, m.What, m.Err].length : Nat) : Int))) = true from by simp; omega, cnd_true, idx_lt hi', bnd_some]
    have hx := htl ([m.Depth, m.Node, m.What, m.Err].take i) fun n hn => hall n (List.mem_of_mem_take hn)
    have hx2 : ([m.Depth, m.Node, m.What, m.Err].take i).length ≤ 4 := by simp; omega
    rw [wnum (hall _ (List.getElem_mem hi')) (by simp only [List.length_append]; omega), bnd_some, rng_nat (by omega), bnd_some, List.take_succ_eq_append_getElem hi', List.map_append, tl_app]
    simp [tl_cons, tl_nil]
  · rw [Tale_One_l1, show (decide (((4 : Nat) : Int) < (([m.Depth, m.Node, m.What, m.Err].length : Nat) : Int))) = false from by simp, cnd_false, Tale_bare_m, bnd_some]
    have hx : (tl (numsF m)).length ≤ 22 * 4 := htl [m.Depth, m.Node, m.What, m.Err] hall
    have e4 : [m.Depth, m.Node, m.What, m.Err].take 4 = [m.Depth, m.Node, m.What, m.Err] := rfl
    have en : [m.Depth, m.Node, m.What, m.Err].map Lib.itoa = numsF m := rfl
    rw [e4, en]
    rw [show (⟨m.Kind, m.Depth, m.Node, m.What, m.Err, [], false, false, [], [], 0, 0, false⟩ : Mark) = bareM m from rfl]
    have hL : (wordS m.Kind ++ tl (numsF m)).length ≤ 94 := by simp only [List.length_append]; omega
    cases hb : eqMark m (bareM m) with
    | true =>
      simp only [Bool.not_true, cnd_false, Strings_Builder_String_m, bnd_some, str_bytes]
      simp [oneS, fieldsM, hb]
    | false =>
      simp only [Bool.not_false, cnd_true]
      generalize hacc : wordS m.Kind ++ tl (numsF m) = acc at hL
      have h1 := txt_len m.Name
      have h2 := txt_len m.Old
      have h3 := txt_len m.New
      have g1 := hm.name
      have g2 := hm.old
      have g3 := hm.new
      have b1 := bit_len m.Had
      have b2 := bit_len m.Has
      have b3 := bit_len m.On
      have i1 := itoa_len hm.from_.1 hm.from_.2
      have i2 := itoa_len hm.to_.1 hm.to_.2
      rw [wtext (by omega) (by omega), bnd_some, wtruth (by simp; omega), bnd_some, wtruth (by simp; omega), bnd_some, wtext (by omega) (by simp; omega), bnd_some, wtext (by omega) (by simp; omega), bnd_some, wnum hm.from_ (by simp; omega), bnd_some,
        wnum hm.to_ (by simp; omega), bnd_some, wtruth (by simp; omega), bnd_some, Strings_Builder_String_m, bnd_some, str_bytes]
      simp only [oneS, fieldsM, hb]
      rw [if_neg (by simp), tl_app, ← List.append_assoc, hacc]
      simp [callF, tl_cons, tl_nil]
end Go.Proofs.YtoakfflcpcdbeaaDoor
