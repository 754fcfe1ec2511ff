/- Plain laws on the models, one behind the other. -/
import Derived.Test.YtkngnghbnhgfjaaGreatG
import Derived.Test.YtkngnghbnhgfjaaGreatPlain
import Derived.Test.YtkngnghbnhgfjaaGreatLine
import Derived.Lib.ItoaNum
import Derived.Lib.AtoiAll
import Derived.Test.YtkngnghbnhgfjaaGreatQuo
/- What the models of layer 1 (name) and of the reference for it come to. -/
namespace Go.Proofs.YtkngnghbnhgfjaaGreat
open Go Go.Pw

def lowB (b : UInt8) : Bool := decide (97 ≤ b.toNat) && decide (b.toNat ≤ 122)
def upB (b : UInt8) : Bool := decide (65 ≤ b.toNat) && decide (b.toNat ≤ 90)
def signB (b : UInt8) : Bool := lowB b || upB b || (decide (48 ≤ b.toNat) && decide (b.toNat ≤ 57)) || decide (b.toNat = 45) || decide (b.toNat = 95) || decide (b.toNat = 46)
def headB (b : UInt8) : Bool := lowB b || upB b || decide (b.toNat = 95)
def rightB (s : Bs) : Bool := decide (0 < s.length) && decide (s.length ≤ 40) && s.all signB && (match s with | [] => false | b :: _ => headB b)
def lower (b : UInt8) : UInt8 := if upB b then b + 32 else b

theorem small_ok (fu : Nat) (c : Int) : Name_small_m fu c = some (decide (97 ≤ c) && decide (c ≤ 122)) := by
  unfold Name_small_m; by_cases h : 97 ≤ c <;> simp [h]
theorem capital_ok (fu : Nat) (c : Int) : Name_capital_m fu c = some (decide (65 ≤ c) && decide (c ≤ 90)) := by
  unfold Name_capital_m; by_cases h : 65 ≤ c <;> simp [h]
theorem end3 (c : Int) : (if c = 45 then some true else if c = 95 then some true else some (c == 46)) = some (decide (c = 45) || decide (c = 95) || decide (c = 46)) := by
  by_cases h1 : c = 45
  · simp [h1]
  · by_cases h2 : c = 95
    · simp [h2]
    · rw [if_neg h1, if_neg h2, decide_eq_false h1, decide_eq_false h2]; rfl
theorem sign_ok (fu : Nat) (c : Int) : Name_sign_m fu c = some ((decide (97 ≤ c) && decide (c ≤ 122)) || (decide (65 ≤ c) && decide (c ≤ 90)) || (decide (48 ≤ c) && decide (c ≤ 57)) || decide (c = 45) || decide (c = 95) || decide (c = 46)) := by
  unfold Name_sign_m Name_sign_j1
  simp only [small_ok, capital_ok, bnd_some, cnd_eq]
  by_cases h1 : 97 ≤ c <;> by_cases h2 : c ≤ 122 <;> by_cases h3 : 65 ≤ c <;> by_cases h4 : c ≤ 90 <;> by_cases h5 : 48 ≤ c <;> by_cases h6 : c ≤ 57 <;> simp [h1, h2, h3, h4, h5, h6] <;> (first | omega | exact end3 c)

theorem low_cast (b : UInt8) : (decide (97 ≤ (b.toNat : Int)) && decide ((b.toNat : Int) ≤ 122)) = lowB b := by
  unfold lowB; congr 1 <;> exact decide_eq_decide.2 (by omega)
theorem up_cast (b : UInt8) : (decide (65 ≤ (b.toNat : Int)) && decide ((b.toNat : Int) ≤ 90)) = upB b := by
  unfold upB; congr 1 <;> exact decide_eq_decide.2 (by omega)
theorem sign_cast (fu : Nat) (b : UInt8) : Name_sign_m fu (b.toNat : Int) = some (signB b) := by
  rw [sign_ok, low_cast, up_cast]; unfold signB
  congr 1
  have e1 : (decide (48 ≤ (b.toNat : Int)) && decide ((b.toNat : Int) ≤ 57)) = (decide (48 ≤ b.toNat) && decide (b.toNat ≤ 57)) := by congr 1 <;> exact decide_eq_decide.2 (by omega)
  have e2 : decide ((b.toNat : Int) = 45) = decide (b.toNat = 45) := decide_eq_decide.2 (by omega)
  have e3 : decide ((b.toNat : Int) = 95) = decide (b.toNat = 95) := decide_eq_decide.2 (by omega)
  have e4 : decide ((b.toNat : Int) = 46) = decide (b.toNat = 46) := decide_eq_decide.2 (by omega)
  rw [e1, e2, e3, e4]
theorem sign_hi (fu : Nat) (c : Int) (h : 128 ≤ c) : Name_sign_m fu c = some false := by
  rw [sign_ok]
  simp only [decide_eq_false (show ¬ c ≤ 122 by omega), decide_eq_false (show ¬ c ≤ 90 by omega), decide_eq_false (show ¬ c ≤ 57 by omega), decide_eq_false (show ¬ c = 45 by omega), decide_eq_false (show ¬ c = 95 by omega), decide_eq_false (show ¬ c = 46 by omega), Bool.and_false, Bool.or_false]

/-- A search for a rune, where one that is no byte's is looked for, or none is there. -/
theorem indexFunc_ok {fu : Nat} {t : Int → Option Bool} {f : UInt8 → Bool} {s : Bs} (ht : ∀ b ∈ s, b.toNat < 128 → t (b.toNat : Int) = some (f b)) (hi : (∀ b ∈ s, b.toNat < 128) ∨ ∀ r : Int, 128 ≤ r → t r = some true) (hf : s.length < fu) :
    Strings_ContainsFunc_m fu t s = some (s.any fun b => decide (128 ≤ b.toNat) || f b) := by
  have key : ∃ r, Strings_indexFunc_l1 t s true fu 0 = some r ∧ decide (r ≥ 0) = s.any fun b => decide (128 ≤ b.toNat) || f b := by
    refine up (L := Strings_indexFunc_l1 t s true) (Inv := fun i x => x = i ∧ ∀ (j : Nat) (h : j < s.length), j < i → (decide (128 ≤ s[j].toNat) || f s[j]) = false) (Fin := fun v => ∃ r, v = some r ∧ decide (r ≥ 0) = s.any fun b => decide (128 ≤ b.toNat) || f b) s.length (fun i x hl ⟨hx, hj⟩ => ?_) (fun x ⟨hx, hj⟩ => ?_) (i := 0) ⟨rfl, fun j _ hj => by omega⟩ (Nat.zero_le _) (by omega)
    · subst hx
      by_cases hc : (decide (128 ≤ s[x].toNat) || f s[x]) = true
      · refine .inl ⟨some (x : Int), ⟨_, rfl, ?_⟩, fun k => ?_⟩
        · rw [decide_eq_true (by omega)]
          exact (List.any_eq_true.2 ⟨_, List.getElem_mem hl, hc⟩).symm
        · simp only [Strings_indexFunc_l1]
          rw [cnd_pos (by simpa using hl)]
          by_cases hb : s[x].toNat < 128
          · rw [decide_eq_false (by omega), Bool.false_or] at hc
            rw [(dec_lo hl hb).1, ht _ (List.getElem_mem hl) hb, bnd_some, hc]; rfl
          · rcases hi with hi | hi
            · exact absurd (hi _ (List.getElem_mem hl)) hb
            · rw [hi _ (dec_hi hl (by omega))]; rfl
      · have hc' := Bool.eq_false_iff.2 hc
        have hb : s[x].toNat < 128 := by
          rw [Bool.or_eq_false_iff, decide_eq_false_iff_not] at hc'
          omega
        refine .inr ⟨x + 1, ⟨rfl, fun j h hj' => ?_⟩, fun k => ?_⟩
        · rcases Nat.lt_succ_iff_lt_or_eq.1 hj' with h' | h'
          · exact hj j h h'
          · subst h'; exact hc'
        · rw [Bool.or_eq_false_iff] at hc'
          simp only [Strings_indexFunc_l1]
          rw [cnd_pos (by simpa using hl), (dec_lo hl hb).1, ht _ (List.getElem_mem hl) hb, bnd_some, hc'.2, (dec_lo hl hb).2]; rfl
    · subst hx
      refine ⟨some (-1), ⟨_, rfl, ?_⟩, fun k => ?_⟩
      · have : (s.any fun b => decide (128 ≤ b.toNat) || f b) = false := by
          rw [List.any_eq_false]
          intro b hb
          obtain ⟨j, h, rfl⟩ := List.mem_iff_getElem.1 hb
          simpa using hj j h h
        rw [this]; rfl
      · simp only [Strings_indexFunc_l1]
        rw [cnd_neg (by simp)]
  obtain ⟨r, h1, h2⟩ := key
  unfold Strings_ContainsFunc_m Strings_IndexFunc_m Strings_indexFunc_m
  rw [h1, bnd_some, bnd_some, h2]

theorem head_cast (b : UInt8) (fu : Nat) : (bnd (rng .i32 (b.toNat : Int)) fun i4 => bnd (Name_small_m fu i4) fun r5 => cnd r5 (some true) (bnd (Name_capital_m fu i4) fun r6 => cnd r6 (some true) (some (i4 == 95)))) = some (headB b) := by
  have hb := b.toNat_lt
  rw [rng_ok (by simp only [lo, hi]; omega), bnd_some, small_ok, capital_ok, bnd_some, bnd_some, low_cast, up_cast]
  unfold headB
  have e : ((b.toNat : Int) == 95) = decide (b.toNat = 95) := by rw [Bool.eq_iff_iff]; simp; omega
  rw [e]
  cases lowB b <;> cases upB b <;> rfl
theorem any_sign (s : Bs) : (s.any fun b => decide (128 ≤ b.toNat) || !(signB b)) = !(s.all signB) := by
  rw [List.not_all_eq_any_not]
  congr 1
  funext b
  cases h : signB b
  · simp
  · have : b.toNat < 128 := by
      unfold signB lowB upB at h
      simp only [Bool.or_eq_true, Bool.and_eq_true, decide_eq_true_eq] at h
      omega
    simp; omega
theorem right_ok {fu : Nat} {s : Bs} (hfu : 40 < fu) : Name_Right_m fu s = some (rightB s) := by
  unfold Name_Right_m rightB
  rw [cnd_dec, cnd_dec]
  by_cases h1 : s.length < 1
  · rw [if_pos (by omega)]; simp [show ¬ 0 < s.length by omega]
  rw [if_neg (by omega)]
  by_cases h2 : s.length > 40
  · rw [if_pos (by omega)]; simp [show ¬ s.length ≤ 40 by omega]
  rw [if_neg (by omega), indexFunc_ok (f := fun b => !(signB b)) (fun b _ _ => by unfold Name_Right_1_m; rw [sign_cast]; rfl) (.inr fun r hr => by unfold Name_Right_1_m; rw [sign_hi _ _ hr]; rfl) (by omega), bnd_some, any_sign, cnd_not]
  obtain ⟨b, t, rfl⟩ : ∃ b t, s = b :: t := by cases s <;> simp_all
  rw [chr_zero]
  simp only [List.getElem?_cons_zero, Option.map_some, bnd_some]
  rw [head_cast]
  rw [decide_eq_true (by omega), decide_eq_true (by omega)]
  cases (b :: t).all signB <;> simp

/-! ## The small form -/
def lowI (y : Int) : Int := if 65 ≤ y ∧ y ≤ 90 then y + 32 else y
theorem upB_iff (b : UInt8) : upB b = true ↔ 65 ≤ b.toNat ∧ b.toNat ≤ 90 := by unfold upB; simp
theorem lower_low (b : UInt8) : lowI (b.toNat : Int) = ((lower b).toNat : Int) := by
  unfold lowI lower
  by_cases h : upB b = true
  · have := (upB_iff b).1 h
    rw [if_pos (by omega), if_pos h, UInt8.toNat_add]
    simp; omega
  · have : ¬ (65 ≤ b.toNat ∧ b.toNat ≤ 90) := fun h' => h ((upB_iff b).2 h')
    rw [if_neg (by omega), if_neg h]
theorem str_low (s : Bs) : strOf ((bytesOf s).map lowI) = s.map lower := by
  unfold strOf bytesOf
  rw [List.map_map, List.map_map]
  refine List.map_congr_left fun b _ => ?_
  simp only [Function.comp, lower_low, Int.toNat_natCast, UInt8.ofNat_toNat]
theorem nsmall_ok {fu : Nat} {s : Bs} (hf : s.length < fu) (hb : s.length ≤ 1000000) : Name_Small_m fu s = some (s.map lower) := by
  unfold Name_Small_m
  rw [roomy_ok (by omega), bnd_some]
  have hl : (bytesOf s).length = s.length := by simp [bytesOf]
  have := upf (L := Name_Small_l1 fu s) (f := fun i => ((i : Int), mix lowI (bytesOf s) i)) (v := some (s.map lower)) (bytesOf s).length (fun i hi k => ?_) (fun k => ?_) (by rw [hl]; exact hf)
  · simpa [mix_zero] using this
  · simp only [Name_Small_l1]
    rw [cnd_pos (by simpa using hi), mix_at lowI hi, bnd_some]
    have hy : (bytesOf s)[i] = ((s[i]'(hl ▸ hi)).toNat : Int) := by simp [bytesOf]
    have hn : rng .i64 ((i : Int) + 1) = some ((i + 1 : Nat) : Int) := rng_nat (by omega)
    rw [← mix_set lowI hi]
    have hk := mix_keep lowI hi
    rw [← mix_set lowI hi] at hk
    rw [hy] at hk ⊢
    have hb := (s[i]'(hl ▸ hi)).toNat_lt
    generalize (s[i]'(hl ▸ hi)).toNat = n at hb hk
    rw [rng_ok (by simp only [lo, Go.Pw.hi]; omega), bnd_some, capital_ok, bnd_some, hn]
    by_cases h : 65 ≤ (n : Int) ∧ (n : Int) ≤ 90
    · rw [cnd_pos (by simp; omega), rng_ok (by simp only [lo, Go.Pw.hi]; omega), bnd_some, rng_ok (by simp only [lo, Go.Pw.hi]; omega), bnd_some, bnd_some, bnd_some]
      unfold lowI
      rw [if_pos h, show (n : Int) - 65 + 97 = n + 32 by omega]
    · have e : lowI (n : Int) = n := if_neg h
      rw [cnd_neg (by simp; omega), bnd_some, ← hk e]
  · simp only [Name_Small_l1]
    rw [cnd_neg (by simp), mix_end, str_low]
/-! ## Custom names -/
def words : List Bs := [[97, 110, 110, 111, 116, 97, 116, 105, 111, 110, 45, 120, 109, 108], [99, 111, 108, 111, 114, 45, 112, 114, 111, 102, 105, 108, 101], [102, 111, 110, 116, 45, 102, 97, 99, 101], [102, 111, 110, 116, 45, 102, 97, 99, 101, 45, 115, 114, 99], [102, 111, 110, 116, 45, 102, 97, 99, 101, 45, 117, 114, 105], [102, 111, 110, 116, 45, 102, 97, 99, 101, 45, 102, 111, 114, 109, 97, 116], [102, 111, 110, 116, 45, 102, 97, 99, 101, 45, 110, 97, 109, 101], [109, 105, 115, 115, 105, 110, 103, 45, 103, 108, 121, 112, 104]]
def customB (s : Bs) : Bool := rightB s && (match s with | [] => false | b :: _ => lowB b) && !(s.any upB) && s.contains 45 && !(words.contains s)

theorem contains_str {fu : Nat} {l : List Bs} {s : Bs} (hf : l.length < fu) (hb : l.length ≤ 1000000) : Slices_Contains_string_m fu l s = some (l.contains s) := by
  unfold Slices_Contains_string_m Slices_Index_string_m
  obtain ⟨r, h1, h2⟩ := up_index (L := Slices_Index_string_l1 l s) l (fun x => s == x) (fun i hi k => by
    simp only [Slices_Index_string_l1]
    rw [cnd_pos (by simpa using hi), idx_lt hi, bnd_some, rng_nat (by omega), bnd_some]
    cases s == l[i] <;> rfl) (fun k => by simp only [Slices_Index_string_l1]; rw [cnd_neg (by simp)]) hf
  rw [h1, bnd_some, h2]
  congr 1
  rw [List.contains_eq_any_beq]

theorem rightB_len {s : Bs} (h : rightB s = true) : 0 < s.length ∧ s.length ≤ 40 := by
  unfold rightB at h
  simp only [Bool.and_eq_true, decide_eq_true_eq] at h
  exact h.1.1
theorem ncustom_ok {fu : Nat} {s : Bs} (hfu : 200 < fu) : Name_Custom_m fu s = some (customB s) := by
  unfold Name_Custom_m customB
  rw [right_ok (by omega), bnd_some]
  cases hr : rightB s
  · rfl
  · rw [cnd_true]
    have hf : s.length < fu := by have := rightB_len hr; omega
    have hr' := hr
    unfold rightB at hr'
    obtain ⟨b, t, rfl⟩ : ∃ b t, s = b :: t := by cases s <;> simp_all
    simp only [Bool.and_eq_true] at hr'
    have hb := b.toNat_lt
    have hbytes : ∀ c ∈ b :: t, c.toNat < 128 := fun c hc => by
      have := List.all_eq_true.1 hr'.1.2 c hc
      unfold signB lowB upB at this
      simp only [Bool.or_eq_true, Bool.and_eq_true, decide_eq_true_eq] at this
      omega
    have hany : ((b :: t).any fun c => decide (128 ≤ c.toNat) || upB c) = (b :: t).any upB := by
      rw [Bool.eq_iff_iff, List.any_eq_true, List.any_eq_true]
      constructor
      · rintro ⟨c, h1, h2⟩
        rw [Bool.or_eq_true, decide_eq_true_eq] at h2
        rcases h2 with h2 | h2
        · have := hbytes c h1; omega
        · exact ⟨c, h1, h2⟩
      · rintro ⟨c, h1, h2⟩
        exact ⟨c, h1, by rw [h2, Bool.or_true]⟩
    rw [chr_zero, List.getElem?_cons_zero, Option.map_some, bnd_some, rng_ok (by simp only [lo, Go.Pw.hi]; omega), bnd_some, small_ok, low_cast, bnd_some,
      indexFunc_ok (f := upB) (fun c _ _ => by rw [capital_ok, up_cast]) (.inl hbytes) hf, bnd_some, hany]
    unfold hasByte_m Name_reserved_m
    rw [bnd_some, bnd_some, contains_str (by simp; omega) (by simp), bnd_some, indexByte_iff]
    simp only [Bool.true_and]
    cases lowB b <;> cases (b :: t).any upB <;> cases (b :: t).contains 45 <;> rfl
/-! ## Names that fit -/
def fitB (s : Bs) : Bool := rightB s && (s.map lower == s)
theorem fit_ok {fu : Nat} {s : Bs} (hfu : 200 < fu) : Name_Fit_m fu s = some (if rightB s then (s.map lower, 0) else ([], 4)) := by
  unfold Name_Fit_m
  rw [right_ok (by omega), bnd_some, cnd_not]
  cases hr : rightB s
  · rfl
  · have := rightB_len hr
    rw [cnd_true, nsmall_ok (by omega) (by omega), bnd_some]; rfl
end Go.Proofs.YtkngnghbnhgfjaaGreat
/- Texts as bytes: lines, cuts at a sign, numbers as text and back. No program is named here. -/
namespace Go.Pw
open Go

/-! ## Lines -/
/-! ## Where a sign stands -/
/-! ## Numbers as text -/
/-! ## What atoi hands back is a number -/
end Go.Pw
/- Texts as bytes: texts in quotes and back; numbers without a digit to spare; pieces of a text behind a place. No program is named here. -/
namespace Go.Pw
open Go

/-! ## Bytes of a buffer -/
theorem bytes_app (s t : List UInt8) : bytesOf (s ++ t) = bytesOf s ++ bytesOf t := by simp [bytesOf]
theorem bytes_one (b : UInt8) : bytesOf [b] = [(b.toNat : Int)] := rfl
theorem bytes_len (s : List UInt8) : (bytesOf s).length = s.length := by simp [bytesOf]
theorem str_bytes (s : List UInt8) : strOf (bytesOf s) = s := by
  simp only [strOf, bytesOf, List.map_map]
  conv => rhs; rw [← List.map_id s]
  refine List.map_congr_left fun b _ => ?_
  simp
theorem byte_is (b c : UInt8) : ((b.toNat : Int) == (c.toNat : Int)) = (b == c) := by
  rw [Bool.eq_iff_iff, beq_iff_eq, beq_iff_eq, ← UInt8.toNat_inj]; omega
/-! ## Behind a place -/
theorem chr_drop {S r : List UInt8} {p : Nat} {c : UInt8} (h : S.drop p = c :: r) : chr S (p : Int) = some (c.toNat : Int) := by
  rw [chr_nat]
  have : S[p]? = some c := by
    have h2 : (S.drop p)[0]? = some c := by rw [h]; rfl
    simpa using h2
  rw [this]; rfl
theorem drop_cons {S r : List UInt8} {p : Nat} {c : UInt8} (h : S.drop p = c :: r) : p < S.length ∧ S.drop (p + 1) = r := by
  have hl := congrArg List.length h
  simp at hl
  exact ⟨by omega, by rw [← List.drop_drop, h]; rfl⟩
theorem drop_lt {S : List UInt8} {p : Nat} (h : p < S.length) : ∃ c r, S.drop p = c :: r := ⟨S[p], S.drop (p + 1), List.drop_eq_getElem_cons h⟩

/-! ## Texts in quotes -/
/-- What stands ahead of a closing quote, and what is behind it. -/
def unq : List UInt8 → Option (List UInt8 × List UInt8)
  | [] => none
  | [b] => if b = 34 then some ([], []) else none
  | b :: c :: r => if b = 34 then some ([], c :: r) else if b = 92 then (if c = 34 ∨ c = 92 then (unq r).map fun x => (c :: x.1, x.2) else none) else (unq (c :: r)).map fun x => (b :: x.1, x.2)
theorem unq_end (r : List UInt8) : unq (34 :: r) = some ([], r) := by cases r <;> simp [unq]
theorem unq_esc {c : UInt8} (h : c = 34 ∨ c = 92) (r : List UInt8) : unq (92 :: c :: r) = (unq r).map fun x => (c :: x.1, x.2) := by simp [unq, h]
theorem unq_esc_no {c : UInt8} (h : ¬ (c = 34 ∨ c = 92)) (r : List UInt8) : unq (92 :: c :: r) = none := by simp [unq, h]
theorem unq_esc_nil : unq [92] = none := by simp [unq]
theorem unq_one {b : UInt8} (h1 : b ≠ 34) (h2 : b ≠ 92) (r : List UInt8) : unq (b :: r) = (unq r).map fun x => (b :: x.1, x.2) := by cases r <;> simp [unq, h1, h2]
theorem quo_cons (b : UInt8) (s : List UInt8) : quoL (b :: s) = quoB b ++ quoL s := by simp [quoL]
theorem quoB_yes {b : UInt8} (h : b = 34 ∨ b = 92) : quoB b = [92, b] := by rcases h with rfl | rfl <;> rfl
theorem quoB_no {b : UInt8} (h1 : b ≠ 34) (h2 : b ≠ 92) : quoB b = [b] := by simp [quoB, special, h1, h2]
theorem unq_quo : ∀ (s r : List UInt8), unq (quoL s ++ 34 :: r) = some (s, r)
  | [], r => unq_end r
  | b :: s, r => by
    have ih := unq_quo s r
    rw [quo_cons]
    by_cases h : b = 34 ∨ b = 92
    · rw [quoB_yes h]
      show unq (92 :: b :: (quoL s ++ 34 :: r)) = _
      rw [unq_esc h, ih]; rfl
    · have h1 : b ≠ 34 := fun e => h (.inl e)
      have h2 : b ≠ 92 := fun e => h (.inr e)
      rw [quoB_no h1 h2]
      show unq (b :: (quoL s ++ 34 :: r)) = _
      rw [unq_one h1 h2, ih]; rfl
theorem quo_unq : ∀ (n : Nat) (t s r : List UInt8), t.length ≤ n → unq t = some (s, r) → t = quoL s ++ 34 :: r
  | 0, t, s, r, hn, h => by
    obtain rfl := List.length_eq_zero_iff.1 (Nat.le_zero.1 hn)
    simp [unq] at h
  | n + 1, [], s, r, hn, h => by simp [unq] at h
  | n + 1, b :: t, s, r, hn, h => by
    simp only [List.length_cons] at hn
    by_cases h1 : b = 34
    · subst h1
      rw [unq_end] at h
      cases h; rfl
    · by_cases h2 : b = 92
      · subst h2
        cases t with
        | nil => rw [unq_esc_nil] at h; cases h
        | cons c t =>
          by_cases h3 : c = 34 ∨ c = 92
          · rw [unq_esc h3] at h
            cases h4 : unq t with
            | none => rw [h4] at h; cases h
            | some x =>
              rw [h4] at h
              cases h
              have := quo_unq n t x.1 x.2 (by simp at hn; omega) h4
              rw [quo_cons, quoB_yes h3]
              show 92 :: c :: t = 92 :: c :: (quoL x.1 ++ 34 :: x.2)
              rw [← this]
          · rw [unq_esc_no h3] at h; cases h
      · rw [unq_one h1 h2] at h
        cases h4 : unq t with
        | none => rw [h4] at h; cases h
        | some x =>
          rw [h4] at h
          cases h
          have := quo_unq n t x.1 x.2 (by omega) h4
          rw [quo_cons, quoB_no h1 h2]
          show b :: t = b :: (quoL x.1 ++ 34 :: x.2)
          rw [← this]
theorem quo_ge : ∀ (s : List UInt8), s.length ≤ (quoL s).length
  | [] => Nat.le_refl _
  | b :: s => by
    have := quo_ge s
    rw [quo_cons, List.length_append, List.length_cons]
    have : 1 ≤ (quoB b).length := by unfold quoB; split <;> simp
    omega
/-! ## Digits -/
def val (l : List UInt8) : Nat := l.foldl (fun a c => a * 10 + (c.toNat - 48)) 0
def isD (c : UInt8) : Prop := 48 ≤ c.toNat ∧ c.toNat ≤ 57
instance (c : UInt8) : Decidable (isD c) := by unfold isD; infer_instance
end Go.Pw
/- The reader's words and marks: what print's word, take and must come to. -/
namespace Go.Proofs.YtkngnghbnhgfjaaGreat
open Go Go.Pw

/-! ## A letter's text -/
theorem enc_fin : ∀ n : Fin 128, encRune ((n.val : Nat) : Int) = [UInt8.ofNat n.val] := by decide +kernel
theorem enc_lo {b : UInt8} (h : b.toNat < 128) : encRune (b.toNat : Int) = [b] := by
  have := enc_fin ⟨b.toNat, h⟩
  simpa using this
theorem sign_ge {n : Nat} (h1 : 128 ≤ n) (h2 : n < 256) : signB (UInt8.ofNat n) = false := by
  have : (UInt8.ofNat n).toNat = n := by simp; omega
  unfold signB lowB upB
  rw [this]
  simp only [Bool.or_eq_false_iff, Bool.and_eq_false_iff, decide_eq_false_iff_not]
  omega
theorem enc_hi {r : Int} (h : 128 ≤ r) : ∃ b l, encRune r = b :: l ∧ signB b = false ∧ l.length ≤ 3 := by
  unfold encRune Utf8.encode
  obtain ⟨c, hc⟩ : ∃ c, c = if Utf8.valid r then r.toNat else Utf8.runeError := ⟨_, rfl⟩
  have h1 : 128 ≤ c := by
    rw [hc]
    split
    · omega
    · exact Nat.le_of_ble_eq_true rfl
  have h2 : c ≤ 0x10FFFF := by
    rw [hc]
    split
    · rename_i hv
      unfold Utf8.valid at hv
      simp at hv; omega
    · exact Nat.le_of_ble_eq_true rfl
  simp only [← hc]
  rw [if_neg (by omega)]
  split
  · exact ⟨_, _, rfl, sign_ge (by omega) (by omega), by simp⟩
  split
  · exact ⟨_, _, rfl, sign_ge (by omega) (by omega), by simp⟩
  · exact ⟨_, _, rfl, sign_ge (by omega) (by omega), by simp⟩

theorem wc_lo {fu : Nat} {b : UInt8} (hf : 40 < fu) (h : b.toNat < 128) : Print_reader_word_1_m fu (b.toNat : Int) = some (!signB b) := by
  unfold Print_reader_word_1_m
  rw [enc_lo h]
  have : cat ([97] : Bs) [b] = some [97, b] := by simp [cat]
  rw [this, bnd_some, right_ok hf, bnd_some]
  have h97 : signB 97 = true := by decide
  have hh : headB 97 = true := by decide
  simp [rightB, h97, hh]
theorem wc_hi {fu : Nat} {r : Int} (hf : 40 < fu) (h : 128 ≤ r) : Print_reader_word_1_m fu r = some true := by
  unfold Print_reader_word_1_m
  obtain ⟨b, l, h1, h2, h3⟩ := enc_hi h
  rw [h1]
  have : cat ([97] : Bs) (b :: l) = some (97 :: b :: l) := by simp [cat]; omega
  rw [this, bnd_some, right_ok hf, bnd_some]
  simp [rightB, h2]

/-! ## A word -/
theorem tw_lt : ∀ (s : Bs) (j : Nat) (h : j < s.length), j < (s.takeWhile signB).length → signB s[j] = true
  | [], j, h, _ => by simp at h
  | b :: s, j, h, hj => by
    cases hb : signB b
    · simp [hb] at hj
    · cases j with
      | zero => simpa using hb
      | succ j =>
        simp only [List.takeWhile_cons, hb, if_true, List.length_cons] at hj
        simpa using tw_lt s j (by simpa using h) (by omega)
theorem tw_at : ∀ (s : Bs) (h : (s.takeWhile signB).length < s.length), signB s[(s.takeWhile signB).length] = false
  | [], h => by simp at h
  | b :: s, h => by
    cases hb : signB b
    · simp [hb]
    · simp only [List.takeWhile_cons, hb, if_true, List.length_cons] at h ⊢
      simpa using tw_at s (by omega)
theorem sign_lt {b : UInt8} (h : signB b = true) : b.toNat < 128 := by
  unfold signB lowB upB at h
  simp only [Bool.or_eq_true, Bool.and_eq_true, decide_eq_true_eq] at h
  omega
theorem index_word {fu : Nat} {s : Bs} (hf : 40 < fu) (hl : s.length < fu) : Strings_IndexFunc_m fu (fun z => Print_reader_word_1_m fu z) s = some (if (s.takeWhile signB).length < s.length then (((s.takeWhile signB).length : Nat) : Int) else -1) := by
  obtain ⟨k, hk⟩ : ∃ k, k = (s.takeWhile signB).length := ⟨_, rfl⟩
  have hks : k ≤ s.length := by rw [hk]; exact (List.takeWhile_sublist _).length_le
  have key : Strings_indexFunc_l1 (fun z => Print_reader_word_1_m fu z) s true fu 0 = some (if k < s.length then (k : Int) else -1) := by
    refine up (L := Strings_indexFunc_l1 (fun z => Print_reader_word_1_m fu z) s true) (Inv := fun i x => x = i ∧ i ≤ k) (Fin := fun v => v = some (if k < s.length then (k : Int) else -1)) s.length (fun i x hi ⟨hx, hj⟩ => ?_) (fun x ⟨hx, hj⟩ => ?_) (i := 0) ⟨rfl, Nat.zero_le _⟩ (Nat.zero_le _) (by omega)
    · subst hx
      by_cases hc : x < k
      · have hb := tw_lt s x hi (by omega)
        refine .inr ⟨x + 1, ⟨rfl, by omega⟩, fun k' => ?_⟩
        simp only [Strings_indexFunc_l1]
        rw [cnd_pos (by simpa using hi), (dec_lo hi (sign_lt hb)).1, wc_lo hf (sign_lt hb), bnd_some, hb, (dec_lo hi (sign_lt hb)).2]; rfl
      · have hxk : x = k := by omega
        have hb : signB s[x] = false := by
          have := tw_at s (by omega)
          simpa [← hk, ← hxk] using this
        refine .inl ⟨_, by rw [if_pos (by omega)], fun k' => ?_⟩
        simp only [Strings_indexFunc_l1]
        rw [cnd_pos (by simpa using hi)]
        by_cases h8 : s[x].toNat < 128
        · rw [(dec_lo hi h8).1, wc_lo hf h8, bnd_some, hb, hxk]; rfl
        · rw [wc_hi hf (dec_hi hi (by omega)), hxk]; rfl
    · subst hx
      refine ⟨_, by rw [if_neg (by omega)], fun k' => ?_⟩
      simp only [Strings_indexFunc_l1]
      rw [cnd_neg (by simp)]
  unfold Strings_IndexFunc_m Strings_indexFunc_m
  rw [key, bnd_some, hk]
theorem word_m {fu : Nat} {s : Bs} (hf : 40 < fu) (hl : s.length < fu) : Print_reader_word_m fu s = some (s.takeWhile signB, s.dropWhile signB) := by
  have e : s = s.takeWhile signB ++ s.dropWhile signB := (List.takeWhile_append_dropWhile).symm
  have hle : (s.takeWhile signB).length ≤ s.length := (List.takeWhile_sublist _).length_le
  have et : s.take (s.takeWhile signB).length = s.takeWhile signB := by
    conv => lhs; arg 2; rw [e]
    exact List.take_left' rfl
  have ed : s.drop (s.takeWhile signB).length = s.dropWhile signB := by
    conv => lhs; arg 2; rw [e]
    exact List.drop_left' rfl
  have p0 : ∀ j : Nat, j ≤ s.length → piece s 0 (j : Int) = some (s.take j) := fun j h => by
    have := piece_nat (s := s) (i := 0) (Nat.zero_le j) h
    simpa using this
  unfold Print_reader_word_m
  rw [index_word hf hl, bnd_some]
  by_cases h : (s.takeWhile signB).length < s.length
  · rw [if_pos h, cnd_neg (by simp), p0 _ hle, bnd_some, piece_nat hle (Nat.le_refl _), bnd_some]
    simp only [et, ed]
    rw [List.take_of_length_le (by rw [← ed]; simp)]
  · have hkl : (s.takeWhile signB).length = s.length := by omega
    rw [if_neg h, cnd_pos (by simp), p0 _ (Nat.le_refl _), bnd_some, piece_nat (Nat.le_refl _) (Nat.le_refl _), bnd_some]
    rw [hkl] at et ed
    simp at et ed
    simp [← et, ← ed]

/-! ## A mark that may stand there, or must -/
theorem cut_m {fu : Nat} {s w : Bs} : Strings_CutPrefix_m fu s w = some (if s.take w.length = w then (s.drop w.length, true) else (s, false)) := by
  unfold Strings_CutPrefix_m Internal_stringslite_CutPrefix_m Internal_stringslite_HasPrefix_m
  by_cases h : w.length ≤ s.length
  · have := piece_nat (s := s) (i := 0) (Nat.zero_le w.length) h
    simp at this
    rw [cnd_pos (by simpa using h), this, bnd_some, bnd_some]
    by_cases he : s.take w.length = w
    · rw [if_pos he, he, cnd_neg (by simp), piece_nat h (Nat.le_refl _), bnd_some, List.take_of_length_le (by simp)]
      rfl
    · rw [if_neg he, cnd_pos (by simpa using he)]
      rfl
  · rw [cnd_neg (by simpa using h), bnd_some, if_neg (fun he => h (by have := congrArg List.length he; simp at this; omega))]
    rfl
theorem take_yes {fu : Nat} {w r : Bs} : Print_reader_take_m fu w (w ++ r) = some (true, r) := by
  unfold Print_reader_take_m
  rw [cut_m, if_pos (by simp), bnd_some]
  simp
theorem take_no {fu : Nat} {w s : Bs} (h : s.take w.length ≠ w) : Print_reader_take_m fu w s = some (false, s) := by
  unfold Print_reader_take_m
  rw [cut_m, if_neg h, bnd_some]
  simp
theorem take_cases (fu : Nat) (w s : Bs) : (∃ r, s = w ++ r ∧ Print_reader_take_m fu w s = some (true, r)) ∨ (s.take w.length ≠ w ∧ Print_reader_take_m fu w s = some (false, s)) := by
  by_cases h : s.take w.length = w
  · refine .inl ⟨s.drop w.length, ?_, ?_⟩
    · conv => lhs; rw [← List.take_append_drop w.length s, h]
    · conv => lhs; arg 3; rw [← List.take_append_drop w.length s, h]
      exact take_yes
  · exact .inr ⟨h, take_no h⟩
theorem must_yes {fu : Nat} {w r : Bs} {b : Bool} : Print_reader_must_m fu w (w ++ r) b = some (r, b) := by
  unfold Print_reader_must_m
  rw [take_yes, bnd_some]
  rfl
theorem must_no {fu : Nat} {w s : Bs} {b : Bool} (h : s.take w.length ≠ w) : Print_reader_must_m fu w s b = some (s, true) := by
  unfold Print_reader_must_m
  rw [take_no h, bnd_some]
  rfl
end Go.Proofs.YtkngnghbnhgfjaaGreat
/- The reader's quoted texts. -/
namespace Go.Proofs.YtkngnghbnhgfjaaGreat
open Go Go.Pw
set_option linter.unusedVariables false

theorem wstr {fu : Nat} {s t : Bs} (h : t.length + s.length ≤ 1000000000) : Strings_Builder_WriteString_m fu s (bytesOf t) = some (((s.length : Nat) : Int), false, bytesOf (t ++ s)) := by
  unfold Strings_Builder_WriteString_m
  simp only [Strings_Builder_copyCheck_m, bnd_some]
  rw [bytes_len, roomy_ok (by omega), bnd_some, bytes_app]
theorem wbyte {fu : Nat} {b : UInt8} {t : Bs} (h : t.length < 1000000000) : Strings_Builder_WriteByte_m fu (b.toNat : Int) (bytesOf t) = some (false, bytesOf (t ++ [b])) := by
  unfold Strings_Builder_WriteByte_m
  simp only [Strings_Builder_copyCheck_m, bnd_some]
  rw [bytes_len, roomy_ok (by simp; omega), bnd_some, bytes_app, bytes_one]
theorem bstr {fu : Nat} {t : Bs} : Strings_Builder_String_m fu (bytesOf t) = some t := congrArg some (str_bytes t)

def quoR (out : Bs) (x : Bs × Bool) : Option (Bs × Bs) → Option (Bs × Bs × Bool)
  | some y => some (out ++ y.1, y.2, x.2)
  | none => some ([], x.1, true)
theorem quoted_j {fu : Nat} {x : Bs × Bool} {out : Bs} {rc : Int × List Int → Option (Bs × Bs × Bool)} {i : Nat} {c : UInt8} {r : Bs} (hd : x.1.drop i = c :: r) (hs : x.1.length ≤ 1000000) (ho : out.length ≤ i) :
    Print_reader_quoted_j1 fu x (bytesOf out) rc (i : Int) = rc (((i + 1 : Nat) : Int), bytesOf (out ++ [c])) := by
  obtain ⟨hi, _⟩ := drop_cons hd
  unfold Print_reader_quoted_j1
  rw [chr_drop hd, bnd_some, wbyte (by omega), bnd_some, rng_nat (by omega), bnd_some]
theorem quoted_l {fu : Nat} {x : Bs × Bool} (hs : x.1.length ≤ 1000000) : ∀ (n i k : Nat) (out : Bs), x.1.length - i ≤ n → i ≤ x.1.length → out.length ≤ i → n < k → Print_reader_quoted_l1 fu x k ((i : Int), bytesOf out) = quoR out x (unq (x.1.drop i)) := by
  intro n
  induction n with
  | zero =>
    intro i k out h1 h2 h3 h4
    obtain ⟨k, rfl⟩ : ∃ k', k = k' + 1 := ⟨k - 1, by omega⟩
    rw [Print_reader_quoted_l1, show decide ((i : Int) < ((x.1.length : Nat) : Int)) = false from by simp; omega, cnd_false, List.drop_of_length_le (by omega)]
    rfl
  | succ n ih =>
    intro i k out h1 h2 h3 h4
    obtain ⟨k, rfl⟩ : ∃ k', k = k' + 1 := ⟨k - 1, by omega⟩
    by_cases hi : i < x.1.length
    · obtain ⟨b, r, hd⟩ := drop_lt hi
      have hb := chr_drop hd
      obtain ⟨_, hd1⟩ := drop_cons hd
      rw [Print_reader_quoted_l1, show decide ((i : Int) < ((x.1.length : Nat) : Int)) = true from by simpa using hi, cnd_true, hb]
      simp only [bnd_some]
      rw [show (((b.toNat : Nat) : Int) == 34) = (b == 34) from byte_is b 34, show (((b.toNat : Nat) : Int) == 92) = (b == 92) from byte_is b 92, show (((b.toNat : Nat) : Int) != 92) = (b != 92) from congrArg (!·) (byte_is b 92)]
      rw [cnd_eq]
      by_cases h34 : b = 34
      · rw [if_pos h34, rng_nat (by omega), bnd_some, piece_nat (by omega) (Nat.le_refl _), bnd_some, bstr, bnd_some, hd, h34, unq_end]
        have : (x.1.drop (i + 1)).take (x.1.length - (i + 1)) = r := by rw [hd1]; exact List.take_of_length_le (by rw [← hd1]; simp)
        rw [this]
        simp [quoR]
      · rw [if_neg h34, cnd_eq]
        by_cases h92 : b = 92
        · rw [if_pos h92, rng_nat (by omega), bnd_some]
          subst h92
          have hne : ((92 : UInt8) != 92) = false := rfl
          by_cases hi1 : i + 1 < x.1.length
          · obtain ⟨c, r', hr⟩ := drop_lt hi1
            have hc := chr_drop hr
            obtain ⟨_, hd2⟩ := drop_cons hr
            obtain rfl : r = c :: r' := hd1.symm.trans hr
            rw [show decide (((i + 1 : Nat) : Int) < ((x.1.length : Nat) : Int)) = true from by rw [decide_eq_true_eq]; omega, cnd_true, bnd_some, hc, bnd_some]
            rw [show (((c.toNat : Nat) : Int) == 92) = (c == 92) from byte_is c 92, cnd_eq]
            have hrec : ∀ (hcc : c = 34 ∨ c = 92), quoR out x (unq (x.1.drop i)) = quoR (out ++ [c]) x (unq (x.1.drop (i + 1 + 1))) := fun hcc => by
              rw [hd, unq_esc hcc, hd2]
              cases unq r' <;> simp [quoR]
            by_cases hc92 : c = 92
            · rw [if_pos hc92, bnd_some, quoted_j hr hs (by omega), hrec (.inr hc92)]
              exact ih (i + 1 + 1) k (out ++ [c]) (by omega) (by omega) (by simp; omega) (by omega)
            · rw [if_neg hc92, bnd_some, hc, bnd_some]
              rw [show (((c.toNat : Nat) : Int) == 34) = (c == 34) from byte_is c 34, cnd_eq]
              by_cases hc34 : c = 34
              · rw [if_pos hc34, bnd_some, quoted_j hr hs (by omega), hrec (.inl hc34)]
                exact ih (i + 1 + 1) k (out ++ [c]) (by omega) (by omega) (by simp; omega) (by omega)
              · rw [if_neg hc34, hne, cnd_false, hd, unq_esc_no (by simp [hc34, hc92])]; rfl
          · rw [show decide (((i + 1 : Nat) : Int) < ((x.1.length : Nat) : Int)) = false from by rw [decide_eq_false_iff_not]; omega, cnd_false, hne, cnd_false]
            have : r = [] := by rw [← hd1]; exact List.drop_of_length_le (by omega)
            rw [hd, this, unq_esc_nil]; rfl
        · rw [if_neg h92, show (b != 92) = true from by simpa using h92, cnd_true, quoted_j hd hs h3]
          have e : quoR out x (unq (x.1.drop i)) = quoR (out ++ [b]) x (unq (x.1.drop (i + 1))) := by
            rw [hd, unq_one h34 h92, hd1]
            cases unq r <;> simp [quoR]
          rw [e]
          exact ih (i + 1) k (out ++ [b]) (by omega) (by omega) (by simp; omega) (by omega)
    · rw [Print_reader_quoted_l1, show decide ((i : Int) < ((x.1.length : Nat) : Int)) = false from by simp; omega, cnd_false, List.drop_of_length_le (by omega)]
      rfl

theorem unq_len : ∀ (n : Nat) (t d r : Bs), t.length ≤ n → unq t = some (d, r) → r.length < t.length := by
  intro n t d r hn h
  have := quo_unq n t d r hn h
  rw [this]; simp; omega
/-- A quoted text that is one. -/
theorem quoted_yes {fu : Nat} {t d r : Bs} {b : Bool} (hs : t.length ≤ 1000000) (hf : t.length < fu) (h : unq t = some (d, r)) : Print_reader_quoted_m fu (34 :: t) b = some (d, r, b) := by
  unfold Print_reader_quoted_m
  rw [show (34 :: t : Bs) = [34] ++ t from rfl, must_yes, bnd_some]
  have := quoted_l (fu := fu) (x := (t, b)) hs t.length 0 fu [] (by simp) (Nat.zero_le _) (Nat.zero_le _) hf
  simp only [List.drop_zero, h, quoR, List.nil_append] at this
  exact this
/-- What is none. -/
theorem quoted_no {fu : Nat} {s : Bs} {b : Bool} (hs : s.length ≤ 1000000) (hf : s.length < fu) (h : ∀ t d r, s = 34 :: t → unq t ≠ some (d, r)) : ∃ d r, Print_reader_quoted_m fu s b = some (d, r, true) ∧ r.length ≤ s.length := by
  unfold Print_reader_quoted_m
  rcases s with _ | ⟨c, t⟩
  · rw [must_no (by simp), bnd_some]
    have := quoted_l (fu := fu) (x := (([] : Bs), true)) hs 0 0 fu [] (by simp) (Nat.zero_le _) (Nat.zero_le _) hf
    exact ⟨_, _, this, Nat.le_refl _⟩
  · by_cases hc : c = 34
    · subst hc
      rw [show (34 :: t : Bs) = [34] ++ t from rfl, must_yes, bnd_some]
      simp at hs hf
      have := quoted_l (fu := fu) (x := (t, b)) (by simp; omega) t.length 0 fu [] (by simp) (Nat.zero_le _) (Nat.zero_le _) (by omega)
      cases hu : unq t with
      | some y => exact absurd hu (h t y.1 y.2 rfl)
      | none =>
        simp only [List.drop_zero, hu, quoR] at this
        exact ⟨_, _, this, by simp⟩
    · rw [must_no (by simpa using hc), bnd_some]
      have := quoted_l (fu := fu) (x := (c :: t, true)) hs (c :: t).length 0 fu [] (by simp) (Nat.zero_le _) (Nat.zero_le _) hf
      cases hu : unq (c :: t) with
      | some y =>
        simp only [List.drop_zero, hu, quoR] at this
        exact ⟨_, _, this, Nat.le_of_lt (unq_len _ _ _ _ (Nat.le_refl _) hu)⟩
      | none =>
        simp only [List.drop_zero, hu, quoR] at this
        exact ⟨_, _, this, Nat.le_refl _⟩
end Go.Proofs.YtkngnghbnhgfjaaGreat
/- Trees al text and al rows: what the reader reads and the printer prints. -/
namespace Go.Proofs.YtkngnghbnhgfjaaGreat
open Go Go.Pw
set_option linter.unusedVariables false

inductive Tr
  | text (d : Bs)
  | frag (ks : List Tr)
  | elem (n i : Bs) (al : List Attr) (sh : Bool) (us ks : List Tr)

def putA : List Attr → Bs
  | [] => []
  | a :: al => 32 :: a.Name ++ 61 :: 34 :: quoL a.Value ++ 34 :: putA al
def putI (i : Bs) : Bs := if i = [] then [] else 33 :: i
mutual
def put : Tr → Bs
  | .text d => 34 :: quoL d ++ [34]
  | .frag ks => 91 :: putL ks ++ [93]
  | .elem n i al sh us ks => 60 :: n ++ putI i ++ putA al ++ 62 :: (if sh then 123 :: putL us ++ [125] else []) ++ putL ks ++ 60 :: 47 :: n ++ [62]
def putL : List Tr → Bs
  | [] => []
  | t :: ts => put t ++ putL ts
end
mutual
/-- How many rows a tree takes. -/
def sz : Tr → Nat
  | .text _ => 1
  | .frag ks => 1 + szL ks
  | .elem _ _ _ sh us ks => 1 + (if sh then 1 + szL us else 0) + szL ks
def szL : List Tr → Nat
  | [] => 0
  | t :: ts => sz t + szL ts
end
/-- Where the trees of a list lie, from a place on. -/
def ats (i : Nat) : List Tr → List Int
  | [] => []
  | t :: ts => (i : Int) :: ats (i + sz t) ts
mutual
/-- A tree's rows from place i on: its document, its parent. -/
def lay (doc par : Int) (i : Nat) : Tr → List Node
  | .text d => [⟨2, [], [], d, [], par, [], -1, -1, doc⟩]
  | .frag ks => ⟨3, [], [], [], [], par, ats (i + 1) ks, -1, -1, doc⟩ :: layL doc i (i + 1) ks
  | .elem n s al sh us ks =>
    ⟨1, n, s, [], al, par, ats (i + 1 + (if sh then 1 + szL us else 0)) ks, -1, (if sh then ((i + 1 : Nat) : Int) else -1), doc⟩ ::
      ((if sh then ⟨4, [], [], [], [], -1, ats (i + 2) us, (i : Int), -1, doc⟩ :: layL doc ((i + 1 : Nat) : Int) (i + 2) us else []) ++ layL doc i (i + 1 + (if sh then 1 + szL us else 0)) ks)
def layL (doc par : Int) (i : Nat) : List Tr → List Node
  | [] => []
  | t :: ts => lay doc par i t ++ layL doc par (i + sz t) ts
end
def wordB (s : Bs) : Prop := s.all signB = true
def kid : Tr → Prop
  | .frag _ => False
  | _ => True
mutual
/-- Its words are words; what stands in another is no fragment. -/
def Wf : Tr → Prop
  | .text _ => True
  | .frag ks => WfL ks
  | .elem n i al sh us ks => wordB n ∧ wordB i ∧ (∀ a ∈ al, wordB a.Name) ∧ (sh = false → us = []) ∧ WfL us ∧ WfL ks
def WfL : List Tr → Prop
  | [] => True
  | t :: ts => kid t ∧ Wf t ∧ WfL ts
end

mutual
theorem lay_len (doc par : Int) : ∀ (i : Nat) (t : Tr), (lay doc par i t).length = sz t
  | i, .text d => rfl
  | i, .frag ks => by simp [lay, sz, layL_len doc i (i + 1) ks]; omega
  | i, .elem n s al sh us ks => by
    simp only [lay, sz, List.length_cons, List.length_append]
    rw [layL_len doc i _ ks]
    cases sh
    · simp; omega
    · simp [layL_len doc _ (i + 2) us]; omega
theorem layL_len (doc par : Int) : ∀ (i : Nat) (ts : List Tr), (layL doc par i ts).length = szL ts
  | i, [] => rfl
  | i, t :: ts => by simp [layL, szL, lay_len doc par i t, layL_len doc par (i + sz t) ts]
end
theorem sz_pos (t : Tr) : 0 < sz t := by cases t <;> simp [sz] <;> omega
/-- Another parent: only the first row turns. -/
theorem lay_par (doc par par' : Int) (i : Nat) (t : Tr) : ∃ (x : Node) (l : List Node), lay doc par i t = { x with Parent := par } :: l ∧ lay doc par' i t = { x with Parent := par' } :: l := by
  cases t with
  | text d => exact ⟨⟨2, [], [], d, [], par, [], -1, -1, doc⟩, [], rfl, rfl⟩
  | frag ks => exact ⟨⟨3, [], [], [], [], par, ats (i + 1) ks, -1, -1, doc⟩, _, rfl, rfl⟩
  | elem n s al sh us ks => exact ⟨⟨1, n, s, [], al, par, ats (i + 1 + (if sh then 1 + szL us else 0)) ks, -1, (if sh then ((i + 1 : Nat) : Int) else -1), doc⟩, _, rfl, rfl⟩
end Go.Proofs.YtkngnghbnhgfjaaGreat
/- The reader's rows and attributes. -/
namespace Go.Proofs.YtkngnghbnhgfjaaGreat
open Go Go.Pw
set_option linter.unusedVariables false

theorem add_m {fu : Nat} {k doc : Int} {n i d : Bs} {al : List Attr} {l : List (Node × Bool)} (h : l.length ≤ 10000000) :
    Print_reader_add_m fu k n i d al doc l = some (((l.length : Nat) : Int), l ++ [(⟨k, n, i, d, al, -1, [], -1, -1, doc⟩, true)]) := by
  unfold Print_reader_add_m
  rw [roomy_ok (by omega), bnd_some]
  have : ((((l ++ [((⟨k, n, i, d, al, (-1), [], (-1), (-1), doc⟩ : Node), true)]).length : Nat) : Int) - 1) = ((l.length : Nat) : Int) := by simp
  rw [this, rng_ok (by simp [lo, hi]; omega), bnd_some]

/-- A quoted text, or none. -/
theorem quoted_any {fu : Nat} {s : Bs} {b : Bool} (hs : s.length ≤ 1000000) (hf : s.length < fu) :
    ∃ d r b', Print_reader_quoted_m fu s b = some (d, r, b') ∧ r.length ≤ s.length ∧ (b' = false → b = false ∧ s = 34 :: quoL d ++ 34 :: r) := by
  by_cases h : ∃ t d r, s = 34 :: t ∧ unq t = some (d, r)
  · obtain ⟨t, d, r, rfl, hu⟩ := h
    simp only [List.length_cons] at hs hf
    refine ⟨d, r, b, quoted_yes (by omega) (by omega) hu, ?_, fun hb => ⟨hb, ?_⟩⟩
    · have := unq_len _ _ _ _ (Nat.le_refl _) hu
      simp; omega
    · rw [quo_unq _ _ _ _ (Nat.le_refl _) hu]; rfl
  · obtain ⟨d, r, h1, h2⟩ := quoted_no (b := b) hs hf fun t d r he hu => h ⟨t, d, r, he, hu⟩
    exact ⟨d, r, true, h1, h2, fun hb => by cases hb⟩
/-- A mark that must stand there. -/
theorem must_any {fu : Nat} {w s : Bs} {b : Bool} : ∃ r b', Print_reader_must_m fu w s b = some (r, b') ∧ r.length ≤ s.length ∧ (b' = false → b = false ∧ s = w ++ r) := by
  by_cases h : s.take w.length = w
  · refine ⟨s.drop w.length, b, ?_, by simp, fun hb => ⟨hb, ?_⟩⟩
    · conv => lhs; arg 3; rw [← List.take_append_drop w.length s, h]
      exact must_yes
    · conv => lhs; rw [← List.take_append_drop w.length s, h]
  · exact ⟨s, true, must_no h, Nat.le_refl _, fun hb => by cases hb⟩
theorem word_any {fu : Nat} {s : Bs} (hf : 40 < fu) (hl : s.length < fu) : ∃ w r, Print_reader_word_m fu s = some (w, r) ∧ s = w ++ r ∧ wordB w ∧ ∀ c q, r = c :: q → signB c = false := by
  refine ⟨_, _, word_m hf hl, (List.takeWhile_append_dropWhile).symm, ?_, fun c q h => ?_⟩
  · exact List.all_eq_true.2 fun b hb => by
      clear hf hl
      induction s with
      | nil => simp at hb
      | cons c s ih =>
        cases hc : signB c
        · simp [hc] at hb
        · simp only [List.takeWhile_cons, hc, if_true, List.mem_cons] at hb
          rcases hb with rfl | hb
          · exact hc
          · exact ih hb
  · clear hf hl
    induction s with
    | nil => simp at h
    | cons x s ih =>
      cases hx : signB x
      · simp [hx] at h; rw [← h.1]; exact hx
      · simp only [List.dropWhile_cons, hx, if_true] at h; exact ih h

abbrev Sf := Int → Int → Bs → Bool → List (Node × Bool) → Option (Int × Bs × Bool × List (Node × Bool))
theorem attrs_l {sf : Sf} {fu : Nat} {c1 c2 : Int} {l : List (Node × Bool)} {r6 : Bs × Bs} {is : Bs} (hfu : 40 < fu) :
    ∀ (n : Nat) (s : Bs) (b : Bool) (al : List Attr) (k : Nat), s.length ≤ n → n < k → s.length < fu → s.length ≤ 1000000 → al.length + s.length ≤ 10000000 →
    ∃ s' b' al2, Print_reader_elem_l1 sf fu c1 c2 l r6 is k (s, b, al) = Print_reader_elem_j2 sf fu c1 c2 l r6 is (s', b', al ++ al2) ∧ s'.length ≤ s.length ∧
      (b' = false → b = false ∧ (∀ a ∈ al2, wordB a.Name) ∧ s = putA al2 ++ s') := by
  intro n
  induction n with
  | zero =>
    intro s b al k h1 h2 h3 h4 h5
    obtain ⟨k, rfl⟩ : ∃ k', k = k' + 1 := ⟨k - 1, by omega⟩
    obtain rfl : s = [] := List.eq_nil_of_length_eq_zero (by omega)
    refine ⟨[], b, [], ?_, Nat.le_refl _, fun hb => ⟨hb, by simp, rfl⟩⟩
    rw [Print_reader_elem_l1, List.append_nil]
    cases b
    · rw [show (!false) = true from rfl, cnd_true, take_no (by simp), bnd_some, cnd_false]
    · rw [show (!true) = false from rfl, cnd_false]
  | succ n ih =>
    intro s b al k h1 h2 h3 h4 h5
    obtain ⟨k, rfl⟩ : ∃ k', k = k' + 1 := ⟨k - 1, by omega⟩
    rw [Print_reader_elem_l1]
    cases b
    · rw [show (!false) = true from rfl, cnd_true]
      rcases take_cases fu [32] s with ⟨r, rfl, ht⟩ | ⟨_, ht⟩
      · simp only [List.length_append, List.length_cons, List.length_nil] at h1 h3 h4 h5
        obtain ⟨w, q, w1, w2, w3, _⟩ := word_any (fu := fu) (s := r) hfu (by omega)
        obtain ⟨q2, b2, m1, m2, m3⟩ := must_any (fu := fu) (w := [61]) (s := q) (b := false)
        have hq : q.length ≤ r.length := by rw [w2]; simp
        obtain ⟨d, q3, b3, e1, e2, e3⟩ := quoted_any (fu := fu) (s := q2) (b := b2) (by omega) (by omega)
        obtain ⟨s', b', al2, i1, i2, i3⟩ := ih q3 b3 (al ++ [⟨w, d⟩]) k (by omega) (by omega) (by omega) (by omega) (by simp; omega)
        refine ⟨s', b', ⟨w, d⟩ :: al2, ?_, by simp; omega, fun hb => ?_⟩
        · rw [ht, bnd_some, cnd_true, w1, bnd_some, m1, bnd_some, e1, bnd_some, roomy_ok (by simp; omega), bnd_some, i1]
          simp
        · obtain ⟨rfl, j2, j3⟩ := i3 hb
          obtain ⟨rfl, j4⟩ := e3 rfl
          obtain ⟨_, j5⟩ := m3 rfl
          refine ⟨rfl, fun a ha => ?_, ?_⟩
          · rcases List.mem_cons.1 ha with rfl | ha
            · exact w3
            · exact j2 a ha
          · rw [w2, j5, j4, j3]
            simp [putA]
      · exact ⟨s, false, [], by rw [ht, bnd_some, cnd_false, List.append_nil], Nat.le_refl _, fun _ => ⟨rfl, by simp, rfl⟩⟩
    · exact ⟨s, true, [], by rw [show (!true) = false from rfl, cnd_false, List.append_nil], Nat.le_refl _, fun hb => by cases hb⟩
end Go.Proofs.YtkngnghbnhgfjaaGreat
/- The reader's kids: what a round of its loop does. -/
namespace Go.Proofs.YtkngnghbnhgfjaaGreat
open Go Go.Pw
set_option linter.unusedVariables false

def mk (ns : List Node) : List (Node × Bool) := ns.map fun x => (x, true)
/-- What the reader's node answers on texts up to a length. -/
def NodeOk (sf : Sf) (most doc : Int) (N : Nat) : Prop :=
  ∀ (s : Bs) (b : Bool) (l : List (Node × Bool)), s.length ≤ N → l.length + 3 * s.length + 3 ≤ 5000000 →
    ∃ r b' ext, sf most doc s b l = some (((l.length : Nat) : Int), r, b', l ++ ext) ∧ r.length ≤ s.length ∧ ext ≠ [] ∧ (∀ x ∈ ext, x.2 = true) ∧ ext.length + 3 * r.length ≤ 3 * s.length + (if b' then 3 else 0) ∧
      (b' = false → b = false ∧ r.length < s.length ∧ ∃ t, Wf t ∧ s = put t ++ r ∧ ext = mk (lay doc (-1) l.length t))
theorem idx_nat {α : Type} {l : List α} {i : Nat} {y : α} (h : l[i]? = some y) : idx l (i : Int) = some y := by
  unfold idx
  rw [if_pos (by omega)]
  simpa using h
def par (n : Int) (x : Node × Bool) : Node × Bool := (⟨x.1.Kind, x.1.Name, x.1.Is, x.1.Data, x.1.Attrs, n, x.1.Kids, x.1.Host, x.1.Under, x.1.Doc⟩, x.2)
def addK (p : Node) (ks : List Int) : Node × Bool := (⟨p.Kind, p.Name, p.Is, p.Data, p.Attrs, p.Parent, p.Kids ++ ks, p.Host, p.Under, p.Doc⟩, true)
theorem kids_j {sf : Sf} {most doc : Int} {n1 : Nat} {l : List (Node × Bool)} {p : Node} {b b1 : Bool} {s r : Bs} {x : Node × Bool} {e0 : List (Node × Bool)} {q : Bool}
    {rc : Bs × Bool × List (Node × Bool) → Option (Bs × Bool × List (Node × Bool))} (hsf : sf most doc s b l = some (((l.length : Nat) : Int), r, b1, l ++ (x :: e0))) (hn : n1 < l.length) (hp : l[n1]? = some (p, true)) (hk : p.Kids.length ≤ 5000000) :
    Print_reader_kids_j1 sf (n1 : Int) most doc b l (q, s) rc () = rc (r, b1, l.set n1 (addK p [((l.length : Nat) : Int)]) ++ par n1 x :: e0) := by
  unfold Print_reader_kids_j1
  rw [hsf, bnd_some]
  have h1 : idx (l ++ x :: e0) ((n1 : Nat) : Int) = some (p, true) := idx_nat (by rw [List.getElem?_append_left hn, hp])
  simp only [h1, bnd_some]
  rw [show ownOf true = some () from rfl, bnd_some, roomy_ok (by simp; omega), bnd_some]
  have h2 : (l ++ x :: e0).set ((n1 : Nat) : Int).toNat (addK p [((l.length : Nat) : Int)]) = l.set n1 (addK p [((l.length : Nat) : Int)]) ++ x :: e0 := by
    rw [Int.toNat_natCast, List.set_append_left _ _ hn]
  have h3 : idx (l.set n1 (addK p [((l.length : Nat) : Int)]) ++ x :: e0) ((l.length : Nat) : Int) = some x := idx_nat (by rw [List.getElem?_append_right (by simp)]; simp)
  show bnd (idx ((l ++ x :: e0).set ((n1 : Nat) : Int).toNat (addK p [((l.length : Nat) : Int)])) ((l.length : Nat) : Int)) (fun y17 => rc (r, b1, ((l ++ x :: e0).set ((n1 : Nat) : Int).toNat (addK p [((l.length : Nat) : Int)])).set ((l.length : Nat) : Int).toNat (par n1 y17))) = _
  rw [h2, h3, bnd_some, Int.toNat_natCast, List.set_append_right _ _ (by simp)]
  simp
theorem addK_nil {l : List (Node × Bool)} {n1 : Nat} {p : Node} (hp : l[n1]? = some (p, true)) : l.set n1 (addK p []) = l := by
  have : addK p [] = (p, true) := by simp [addK]
  rw [this]
  obtain ⟨h, e⟩ := List.getElem?_eq_some_iff.1 hp
  rw [← e]; exact List.set_getElem_self h
theorem kids_stop {sf : Sf} {fu : Nat} {n1 most doc : Int} {w s : Bs} {l : List (Node × Bool)} {k : Nat} (hk : 0 < k) : Print_reader_kids_l1 sf fu n1 w most doc k (s, true, l) = some (s, true, l) := by
  obtain ⟨k, rfl⟩ : ∃ k', k = k' + 1 := ⟨k - 1, by omega⟩
  rw [Print_reader_kids_l1]; rfl
theorem kids_l {sf : Sf} {fu : Nat} {most doc : Int} {n1 : Nat} {w : Bs} {N : Nat} (hsf : NodeOk sf most doc N) : ∀ (n : Nat) (s : Bs) (b : Bool) (l : List (Node × Bool)) (k : Nat) (p : Node), s.length ≤ n → n ≤ N → n < k →
    n1 < l.length → l[n1]? = some (p, true) → l.length + 3 * s.length + 3 ≤ 5000000 → p.Kids.length + s.length ≤ 5000000 →
    ∃ r b' ks ext, Print_reader_kids_l1 sf fu (n1 : Int) w most doc k (s, b, l) = some (r, b', l.set n1 (addK p ks) ++ ext) ∧ r.length ≤ s.length ∧ (∀ x ∈ ext, x.2 = true) ∧ ext.length + 3 * r.length ≤ 3 * s.length + (if b' then 3 else 0) ∧
      (b' = false → b = false ∧ ∃ ts, WfL ts ∧ s = putL ts ++ (w ++ r) ∧ ext = mk (layL doc n1 l.length ts) ∧ ks = ats l.length ts) := by
  intro n
  induction n with
  | zero =>
    intro s b l k p h1 hN h2 h3 hp h5 h6
    obtain rfl : s = [] := List.eq_nil_of_length_eq_zero (by omega)
    cases b
    · obtain ⟨k, rfl⟩ : ∃ k', k = k' + 1 := ⟨k - 1, by omega⟩
      rw [Print_reader_kids_l1, show (!false) = true from rfl, cnd_true]
      rcases take_cases fu w [] with ⟨r, he, ht⟩ | ⟨_, ht⟩
      · refine ⟨r, false, [], [], ?_, by rw [he]; simp, by simp, by rw [he]; simp; omega, fun _ => ⟨rfl, [], trivial, he, rfl, rfl⟩⟩
        rw [ht, bnd_some, show (!true) = false from rfl, cnd_false, addK_nil hp, List.append_nil]
      · refine ⟨[], true, [], [], ?_, by simp, by simp, by simp, fun h => by cases h⟩
        rw [ht, bnd_some, show (!false) = true from rfl, cnd_true, addK_nil hp, List.append_nil]
        rfl
    · exact ⟨[], true, [], [], by rw [kids_stop (by omega), addK_nil hp, List.append_nil], by simp, by simp, by simp, fun h => by cases h⟩
  | succ n ih =>
    intro s b l k p h1 hN h2 h3 hp h5 h6
    cases b
    rotate_left
    · exact ⟨s, true, [], [], by rw [kids_stop (by omega), addK_nil hp, List.append_nil], Nat.le_refl _, by simp, by simp, fun h => by cases h⟩
    obtain ⟨k, rfl⟩ : ∃ k', k = k' + 1 := ⟨k - 1, by omega⟩
    have hbad : ∀ m, m = some (s, true, l) → ∃ r b' ks ext, m = some (r, b', l.set n1 (addK p ks) ++ ext) ∧ r.length ≤ s.length ∧ (∀ x ∈ ext, x.2 = true) ∧ ext.length + 3 * r.length ≤ 3 * s.length + (if b' then 3 else 0) ∧
        (b' = false → false = false ∧ ∃ ts, WfL ts ∧ s = putL ts ++ (w ++ r) ∧ ext = mk (layL doc n1 l.length ts) ∧ ks = ats l.length ts) := fun m hm =>
      ⟨s, true, [], [], by rw [hm, addK_nil hp, List.append_nil], Nat.le_refl _, by simp, by simp, fun h => by cases h⟩
    rw [Print_reader_kids_l1, show (!false) = true from rfl, cnd_true]
    rcases take_cases fu w s with ⟨r, he, ht⟩ | ⟨_, ht⟩
    · refine ⟨r, false, [], [], ?_, by rw [he]; simp, by simp, by rw [he]; simp; omega, fun _ => ⟨rfl, [], trivial, he, rfl, rfl⟩⟩
      rw [ht, bnd_some, show (!true) = false from rfl, cnd_false, addK_nil hp, List.append_nil]
    rw [ht, bnd_some, show (!false) = true from rfl, cnd_true]
    rcases s with _ | ⟨c, s0⟩
    · exact hbad _ rfl
    have hc0 : chr (c :: s0) 0 = some (c.toNat : Int) := by rw [chr_zero]; rfl
    rw [show ((((c :: s0 : Bs).length : Nat) : Int) == 0) = false from by simp; omega, cnd_false, hc0, bnd_some, bnd_some]
    rw [show (((c.toNat : Nat) : Int) != 60) = (c != 60) from congrArg (!·) (byte_is c 60), show (((c.toNat : Nat) : Int) != 34) = (c != 34) from congrArg (!·) (byte_is c 34)]
    have go : c = 60 ∨ c = 34 → ∃ r b' ks ext, Print_reader_kids_j1 sf (n1 : Int) most doc false l (false, c :: s0) (Print_reader_kids_l1 sf fu (n1 : Int) w most doc k) () = some (r, b', l.set n1 (addK p ks) ++ ext) ∧ r.length ≤ (c :: s0).length ∧ (∀ x ∈ ext, x.2 = true) ∧ ext.length + 3 * r.length ≤ 3 * (c :: s0).length + (if b' then 3 else 0) ∧
        (b' = false → false = false ∧ ∃ ts, WfL ts ∧ (c :: s0) = putL ts ++ (w ++ r) ∧ ext = mk (layL doc n1 l.length ts) ∧ ks = ats l.length ts) := fun hc => by
      obtain ⟨r, b1, ext, g1, g2, g3, g4, g5, g6⟩ := hsf (c :: s0) false l (by omega) h5
      obtain ⟨x, e0, rfl⟩ : ∃ x e0, ext = x :: e0 := by cases ext <;> simp_all
      rw [kids_j g1 h3 hp (by omega)]
      have hx : x.2 = true := g4 x (by simp)
      have hpx : (par n1 x).2 = true := hx
      cases b1
      · obtain ⟨_, g7, t, g8, g9, g10⟩ := g6 rfl
        have hlen : (x :: e0).length = sz t := by rw [g10]; simp [mk, lay_len]
        simp only [List.length_cons] at h1 h5 h6 g5 g7 hlen
        obtain ⟨r2, b2, ks, ext2, i1, i2, i3, i4, i5⟩ := ih r false (l.set n1 (addK p [((l.length : Nat) : Int)]) ++ par n1 x :: e0) k ⟨p.Kind, p.Name, p.Is, p.Data, p.Attrs, p.Parent, p.Kids ++ [((l.length : Nat) : Int)], p.Host, p.Under, p.Doc⟩ (by omega) (by omega) (by omega) (by simp; omega)
          (by rw [List.getElem?_append_left (by simpa using h3), List.getElem?_set_self h3]; rfl) (by simp at g5 ⊢; omega) (by simp; omega)
        refine ⟨r2, b2, ((l.length : Nat) : Int) :: ks, par n1 x :: e0 ++ ext2, ?_, by simp; omega, ?_, ?_, fun hb => ?_⟩
        · rw [i1, List.set_append_left _ _ (by simpa using h3), List.set_set]
          simp [addK]
        · intro y hy
          rcases List.mem_append.1 hy with hy | hy
          · rcases List.mem_cons.1 hy with rfl | hy
            · exact hpx
            · exact g4 y (by simp [hy])
          · exact i3 y hy
        · simp at g5 ⊢; omega
        · obtain ⟨_, ts, j1, j2, j3, j4⟩ := i5 hb
          have hl2 : (l.set n1 (addK p [((l.length : Nat) : Int)]) ++ par n1 x :: e0).length = l.length + sz t := by simp; omega
          rw [hl2] at j3 j4
          refine ⟨rfl, t :: ts, ⟨?_, g8, j1⟩, ?_, ?_, ?_⟩
          · cases t with
            | frag ks => rw [put] at g9; simp at g9; rcases hc with rfl | rfl <;> simp at g9
            | text d => trivial
            | elem => trivial
          · rw [g9, j2]; simp [putL]
          · obtain ⟨x0, l0, k1, k2⟩ := lay_par doc (-1) n1 l.length t
            rw [k1] at g10
            simp only [mk, List.map_cons, List.cons.injEq] at g10
            rw [j3]
            simp only [mk, layL, List.map_append, k2, List.map_cons, g10.2]
            rw [g10.1]; rfl
          · rw [j4]; rfl
      · rw [kids_stop (by omega)]
        refine ⟨r, true, [((l.length : Nat) : Int)], par n1 x :: e0, rfl, g2, fun y hy => ?_, ?_, fun h => by cases h⟩
        · rcases List.mem_cons.1 hy with rfl | hy
          · exact hpx
          · exact g4 y (by simp [hy])
        · simpa using g5
    by_cases hc : c = 60
    · rw [show (c != 60) = false from by simp [hc], cnd_false, cnd_dec]
      split
      · exact hbad _ rfl
      · exact go (.inl hc)
    · rw [show (c != 60) = true from by simpa using hc, cnd_true]
      by_cases hc2 : c = 34
      · rw [show (c != 34) = false from by simp [hc2], cnd_false, cnd_dec]
        split
        · exact hbad _ rfl
        · exact go (.inr hc2)
      · rw [show (c != 34) = true from by simpa using hc2, cnd_true]
        exact hbad _ rfl
end Go.Proofs.YtkngnghbnhgfjaaGreat
/- The reader's elements. -/
namespace Go.Proofs.YtkngnghbnhgfjaaGreat
open Go Go.Pw
set_option linter.unusedVariables false

theorem close_m {α : Type} {n : Bs} (h : n.length ≤ 1000000) (f : Bs → Option α) : (bnd (cat ([60, 47] : Bs) n) fun s => bnd (cat s ([62] : Bs)) fun t => f t) = f (60 :: 47 :: n ++ [62]) := by
  rw [cat_ok (by simp; omega), bnd_some, cat_ok (by simp; omega), bnd_some]
  rfl
/-- The kids of a row that was just laid. -/
theorem kids_m {sf : Sf} {fu : Nat} {most doc : Int} {w : Bs} {N : Nat} (hsf : NodeOk sf most doc N) {s : Bs} {b : Bool} {l0 l1 : List (Node × Bool)} {p : Node} (hs : s.length ≤ N) (hf : N < fu) (hk : p.Kids = []) (h5 : l0.length + 1 + l1.length + 3 * s.length + 3 ≤ 5000000) :
    ∃ r b' ks ext, Print_reader_kids_m sf fu ((l0.length : Nat) : Int) w most doc s b (l0 ++ (p, true) :: l1) = some (r, b', l0 ++ addK p ks :: (l1 ++ ext)) ∧ r.length ≤ s.length ∧ (∀ x ∈ ext, x.2 = true) ∧ ext.length + 3 * r.length ≤ 3 * s.length + (if b' then 3 else 0) ∧
      (b' = false → b = false ∧ ∃ ts, WfL ts ∧ s = putL ts ++ (w ++ r) ∧ ext = mk (layL doc ((l0.length : Nat) : Int) (l0.length + 1 + l1.length) ts) ∧ ks = ats (l0.length + 1 + l1.length) ts) := by
  have hl : (l0 ++ (p, true) :: l1).length = l0.length + 1 + l1.length := by simp; omega
  obtain ⟨r, b', ks, ext, h1, h2, h3, h4, h6⟩ := kids_l (fu := fu) (w := w) hsf N s b (l0 ++ (p, true) :: l1) fu p hs (Nat.le_refl _) hf (n1 := l0.length) (by simp) (by simp) (by rw [hl]; omega) (by rw [hk]; simp; omega)
  refine ⟨r, b', ks, ext, ?_, h2, h3, h4, fun hb => ?_⟩
  · unfold Print_reader_kids_m
    rw [h1, List.set_append_right _ _ (Nat.le_refl _)]
    simp
  · obtain ⟨q1, ts, q2, q3, q4, q5⟩ := h6 hb
    rw [hl] at q4 q5
    exact ⟨q1, ts, q2, q3, q4, q5⟩
abbrev eRow (n is : Bs) (al : List Attr) (doc : Int) : Node := ⟨1, n, is, [], al, -1, [], -1, -1, doc⟩
abbrev sRow (doc : Int) : Node := ⟨4, [], [], [], [], -1, [], -1, -1, doc⟩
theorem elem_j {sf : Sf} {fu : Nat} {most doc : Int} {N : Nat} (hsf : NodeOk sf most doc N) {s n is q0 : Bs} {b : Bool} {al : List Attr} {l : List (Node × Bool)} (hs : s.length ≤ N) (hf : N < fu) (hn : n.length ≤ 1000000) (h5 : l.length + 3 * s.length + 3 ≤ 5000000) :
    ∃ r b' ext, Print_reader_elem_j2 sf fu most doc l (n, q0) is (s, b, al) = some (((l.length : Nat) : Int), r, b', l ++ ext) ∧ r.length ≤ s.length ∧ ext ≠ [] ∧ (∀ x ∈ ext, x.2 = true) ∧ ext.length + 3 * r.length ≤ 3 * s.length + (if b' then 3 else 0) ∧
      (b' = false → b = false ∧ ∃ sh us ks, (sh = false → us = []) ∧ WfL us ∧ WfL ks ∧ s = 62 :: (if sh then 123 :: putL us ++ [125] else []) ++ putL ks ++ 60 :: 47 :: n ++ 62 :: r ∧ ext = mk (lay doc (-1) l.length (.elem n is al sh us ks))) := by
  obtain ⟨r1, b1, m1, m2, m3⟩ := must_any (fu := fu) (w := [62]) (s := s) (b := b)
  unfold Print_reader_elem_j2
  simp only []
  rw [m1, bnd_some, add_m (by omega), bnd_some]
  cases b1
  · obtain ⟨rfl, he⟩ := m3 rfl
    have hl1 : s.length = r1.length + 1 := by rw [he]; simp
    rw [show (!false) = true from rfl, cnd_true]
    rcases take_cases fu [123] r1 with ⟨r2, hr2, ht⟩ | ⟨_, ht⟩
    · have hl2 : r1.length = r2.length + 1 := by rw [hr2]; simp
      have i1 : idx ((l ++ [(eRow n is al doc, true)]) ++ [(sRow doc, true)]) (((l ++ [(eRow n is al doc, true)]).length : Nat) : Int) = some (sRow doc, true) := idx_nat (by simp)
      rw [ht, bnd_some, cnd_true, add_m (by simp; omega), bnd_some]
      simp only []
      rw [i1, bnd_some]
      have i2 : ((l ++ [(eRow n is al doc, true)]) ++ [(sRow doc, true)]).set ((((l ++ [(eRow n is al doc, true)]).length : Nat) : Int)).toNat ((⟨4, [], [], [], [], -1, [], ((l.length : Nat) : Int), -1, doc⟩ : Node), true) = l ++ (eRow n is al doc, true) :: [((⟨4, [], [], [], [], -1, [], ((l.length : Nat) : Int), -1, doc⟩ : Node), true)] := by
        rw [Int.toNat_natCast, List.set_append_right _ _ (Nat.le_refl _)]; simp
      simp only [i2]
      have i3 : idx (l ++ (eRow n is al doc, true) :: [((⟨4, [], [], [], [], -1, [], ((l.length : Nat) : Int), -1, doc⟩ : Node), true)]) ((l.length : Nat) : Int) = some (eRow n is al doc, true) := idx_nat (by simp)
      rw [i3, bnd_some]
      have i4 : (l ++ (eRow n is al doc, true) :: [((⟨4, [], [], [], [], -1, [], ((l.length : Nat) : Int), -1, doc⟩ : Node), true)]).set (((l.length : Nat) : Int)).toNat ((⟨1, n, is, [], al, -1, [], -1, (((l ++ [(eRow n is al doc, true)]).length : Nat) : Int), doc⟩ : Node), true) = (l ++ [((⟨1, n, is, [], al, -1, [], -1, ((l.length + 1 : Nat) : Int), doc⟩ : Node), true)]) ++ ((⟨4, [], [], [], [], -1, [], ((l.length : Nat) : Int), -1, doc⟩ : Node), true) :: [] := by
        rw [Int.toNat_natCast, List.set_append_right _ _ (Nat.le_refl _)]; simp
      simp only [i4]
      obtain ⟨ra, ba, us, ea, k1, k2, k3, k4, k5⟩ := kids_m (fu := fu) (w := [125]) hsf (s := r2) (b := false) (l0 := l ++ [((⟨1, n, is, [], al, -1, [], -1, ((l.length + 1 : Nat) : Int), doc⟩ : Node), true)]) (l1 := []) (p := ⟨4, [], [], [], [], -1, [], ((l.length : Nat) : Int), -1, doc⟩) (by omega) hf rfl (by simp; omega)
      have hle : (l ++ [(eRow n is al doc, true)]).length = (l ++ [((⟨1, n, is, [], al, -1, [], -1, ((l.length + 1 : Nat) : Int), doc⟩ : Node), true)]).length := by simp
      rw [hle, k1, bnd_some, close_m hn]
      have hea : ea.length ≤ 3 * r2.length + 3 := by split at k4 <;> omega
      have hl0 : (l ++ [((⟨1, n, is, [], al, -1, [], -1, ((l.length + 1 : Nat) : Int), doc⟩ : Node), true)]).length = l.length + 1 := by simp
      obtain ⟨r, b', ks, ext, j1, j2, j3, j4, j5⟩ := kids_m (fu := fu) (w := 60 :: 47 :: n ++ [62]) hsf (s := ra) (b := ba) (l0 := l) (l1 := addK ⟨4, [], [], [], [], -1, [], ((l.length : Nat) : Int), -1, doc⟩ us :: ea) (p := ⟨1, n, is, [], al, -1, [], -1, ((l.length + 1 : Nat) : Int), doc⟩) (by omega) hf rfl (by simp; split at k4 <;> omega)
      refine ⟨r, b', addK ⟨1, n, is, [], al, -1, [], -1, ((l.length + 1 : Nat) : Int), doc⟩ ks :: ((addK ⟨4, [], [], [], [], -1, [], ((l.length : Nat) : Int), -1, doc⟩ us :: ea) ++ ext), ?_, by omega, ?_, ?_, ?_, fun hb => ?_⟩
      · rw [List.append_assoc, List.singleton_append, List.nil_append, j1, bnd_some]
      · simp
      · intro x hx
        rcases List.mem_cons.1 hx with rfl | hx
        · rfl
        rcases List.mem_append.1 hx with hx | hx
        · rcases List.mem_cons.1 hx with rfl | hx
          · rfl
          · exact k3 x hx
        · exact j3 x hx
      · simp only [List.length_cons, List.length_append]
        split at k4 <;> split at j4 <;> simp_all <;> omega
      · obtain ⟨hba, ts2, p1, p2, p3, p4⟩ := j5 hb
        obtain ⟨_, ts1, q1, q2, q3, q4⟩ := k5 hba
        have hsz : ea.length = szL ts1 := by rw [q3]; simp [mk, layL_len]
        refine ⟨(by first | rfl | trivial), true, ts1, ts2, fun h => (by cases h), q1, p1, ?_, ?_⟩
        · rw [he, hr2, q2, p2]; simp
        · rw [p3, p4, q4]
          simp only [List.length_cons, hsz]
          rw [q3, hl0]
          simp [mk, lay, addK, Nat.add_assoc]
          rw [show l.length + (1 + (szL ts1 + 1)) = l.length + (1 + (1 + szL ts1)) from by omega]
          exact ⟨rfl, rfl⟩
    · rw [ht, bnd_some, cnd_false, close_m hn]
      obtain ⟨r, b', ks, ext, k1, k2, k3, k4, k5⟩ := kids_m (fu := fu) (w := 60 :: 47 :: n ++ [62]) hsf (s := r1) (b := false) (l0 := l) (l1 := []) (p := eRow n is al doc) (by omega) hf rfl (by simp; omega)
      refine ⟨r, b', addK (eRow n is al doc) ks :: ext, ?_, by omega, by simp, ?_, by simp; omega, fun hb => ?_⟩
      · show bnd (Print_reader_kids_m sf fu ((l.length : Nat) : Int) _ most doc r1 false (l ++ (eRow n is al doc, true) :: [])) _ = _
        rw [k1, bnd_some]
        rfl
      · intro x hx
        rcases List.mem_cons.1 hx with rfl | hx
        · rfl
        · exact k3 x hx
      · obtain ⟨_, ts, q2, q3, q4, q5⟩ := k5 hb
        refine ⟨rfl, false, [], ts, fun _ => rfl, trivial, q2, ?_, ?_⟩
        · rw [he, q3]; simp
        · rw [q4, q5]; simp [mk, lay, addK]
  · refine ⟨r1, true, [(eRow n is al doc, true)], ?_, m2, by simp, by simp, by simp; omega, fun h => by cases h⟩
    rw [show (!true) = false from rfl, cnd_false, close_m hn]
    unfold Print_reader_kids_m
    rw [kids_stop (by omega), bnd_some]
end Go.Proofs.YtkngnghbnhgfjaaGreat
/- The reader's nodes: what is read is a tree. -/
namespace Go.Proofs.YtkngnghbnhgfjaaGreat
open Go Go.Pw
set_option linter.unusedVariables false

/-- From the attributes on. -/
theorem elem_j1 {sf : Sf} {fu : Nat} {most doc : Int} {N : Nat} (hsf : NodeOk sf most doc N) (hfu : N + 50 < fu) {s n q0 is : Bs} {b : Bool} {l : List (Node × Bool)} (hs : s.length ≤ N) (hN : N ≤ 1000000) (hn : n.length ≤ 1000000) (h5 : l.length + 3 * s.length + 3 ≤ 5000000) :
    ∃ r b' ext, Print_reader_elem_j1 sf fu most doc l (n, q0) (s, b, is) = some (((l.length : Nat) : Int), r, b', l ++ ext) ∧ r.length ≤ s.length ∧ ext ≠ [] ∧ (∀ x ∈ ext, x.2 = true) ∧ ext.length + 3 * r.length ≤ 3 * s.length + (if b' then 3 else 0) ∧
      (b' = false → b = false ∧ ∃ al sh us ks, (∀ a ∈ al, wordB a.Name) ∧ (sh = false → us = []) ∧ WfL us ∧ WfL ks ∧ s = putA al ++ 62 :: (if sh then 123 :: putL us ++ [125] else []) ++ putL ks ++ 60 :: 47 :: n ++ 62 :: r ∧ ext = mk (lay doc (-1) l.length (.elem n is al sh us ks))) := by
  obtain ⟨s', b1, al, a1, a2, a3⟩ := attrs_l (sf := sf) (fu := fu) (c1 := most) (c2 := doc) (l := l) (r6 := (n, q0)) (is := is) (by omega) s.length s b [] fu (Nat.le_refl _) (by omega) (by omega) (by omega) (by simp; omega)
  obtain ⟨r, b', ext, e1, e2, e3, e4, e5, e6⟩ := elem_j (fu := fu) (is := is) (q0 := q0) (al := al) (l := l) (b := b1) (n := n) hsf (s := s') (by omega) (by omega) hn (by omega)
  refine ⟨r, b', ext, ?_, by omega, e3, e4, by omega, fun hb => ?_⟩
  · show Print_reader_elem_l1 sf fu most doc l (n, q0) is fu (s, b, []) = _
    rw [a1, List.nil_append, e1]
  · obtain ⟨h1, sh, us, ks, h2, h3, h4, h5, h6⟩ := e6 hb
    obtain ⟨g1, g2, g3⟩ := a3 h1
    exact ⟨g1, al, sh, us, ks, g2, h2, h3, h4, by rw [g3, h5]; simp, h6⟩
theorem elem_m {sf : Sf} {fu : Nat} {most doc : Int} {N : Nat} (hsf : NodeOk sf most doc N) (hfu : N + 50 < fu) (hN : N ≤ 1000000) {s : Bs} {b : Bool} {l : List (Node × Bool)} (hs : s.length ≤ N) (h5 : l.length + 3 * s.length + 3 ≤ 5000000) :
    ∃ r b' ext, Print_reader_elem_m sf fu most doc s b l = some (((l.length : Nat) : Int), r, b', l ++ ext) ∧ r.length ≤ s.length ∧ ext ≠ [] ∧ (∀ x ∈ ext, x.2 = true) ∧ ext.length + 3 * r.length ≤ 3 * s.length + (if b' then 3 else 0) ∧
      (b' = false → b = false ∧ ∃ t, Wf t ∧ kid t ∧ 60 :: s = put t ++ r ∧ ext = mk (lay doc (-1) l.length t)) := by
  obtain ⟨n, q, w1, w2, w3, _⟩ := word_any (fu := fu) (s := s) (by omega) (by omega)
  have hnq : s.length = n.length + q.length := by rw [w2]; simp
  unfold Print_reader_elem_m
  rw [w1, bnd_some]
  simp only []
  rcases take_cases fu [33] q with ⟨q1, hq, ht⟩ | ⟨_, ht⟩
  · have hq1 : q.length = q1.length + 1 := by rw [hq]; simp
    obtain ⟨i, q2, i1, i2, i3, _⟩ := word_any (fu := fu) (s := q1) (by omega) (by omega)
    have hi : q1.length = i.length + q2.length := by rw [i2]; simp
    rw [ht, bnd_some, cnd_true, i1, bnd_some]
    simp only []
    have key : ∀ b0 : Bool, ∃ r b' ext, Print_reader_elem_j1 sf fu most doc l (n, q) (q2, b0, i) = some (((l.length : Nat) : Int), r, b', l ++ ext) ∧ r.length ≤ s.length ∧ ext ≠ [] ∧ (∀ x ∈ ext, x.2 = true) ∧ ext.length + 3 * r.length ≤ 3 * s.length + (if b' then 3 else 0) ∧
        (b' = false → b0 = false ∧ (i ≠ [] → ∃ t, Wf t ∧ kid t ∧ 60 :: s = put t ++ r ∧ ext = mk (lay doc (-1) l.length t))) := fun b0 => by
      obtain ⟨r, b', ext, e1, e2, e3, e4, e5, e6⟩ := elem_j1 (q0 := q) (is := i) (n := n) (l := l) (b := b0) hsf hfu (s := q2) (by omega) hN (by omega) (by omega)
      refine ⟨r, b', ext, e1, by omega, e3, e4, by omega, fun hb => ?_⟩
      obtain ⟨h0, al, sh, us, ks, h1, h2, h3, h4, h5, h6⟩ := e6 hb
      refine ⟨h0, fun hne => ⟨.elem n i al sh us ks, ⟨w3, i3, h1, h2, h3, h4⟩, trivial, ?_, h6⟩⟩
      rw [w2, hq, i2, h5, put, putI, if_neg hne]
      simp
    cases b
    · rw [cnd_false]
      obtain ⟨r, b', ext, e1, e2, e3, e4, e5, e6⟩ := key (i == [])
      refine ⟨r, b', ext, e1, e2, e3, e4, e5, fun hb => ?_⟩
      obtain ⟨h1, h2⟩ := e6 hb
      exact ⟨rfl, h2 (by simpa using h1)⟩
    · rw [cnd_true]
      obtain ⟨r, b', ext, e1, e2, e3, e4, e5, e6⟩ := key true
      exact ⟨r, b', ext, e1, e2, e3, e4, e5, fun hb => by have := (e6 hb).1; cases this⟩
  · rw [ht, bnd_some, cnd_false]
    obtain ⟨r, b', ext, e1, e2, e3, e4, e5, e6⟩ := elem_j1 (q0 := q) (is := []) (n := n) (l := l) (b := b) hsf hfu (s := q) (by omega) hN (by omega) (by omega)
    refine ⟨r, b', ext, e1, by omega, e3, e4, by omega, fun hb => ?_⟩
    obtain ⟨h0, al, sh, us, ks, h1, h2, h3, h4, h5, h6⟩ := e6 hb
    refine ⟨h0, .elem n [] al sh us ks, ⟨w3, rfl, h1, h2, h3, h4⟩, trivial, ?_, h6⟩
    rw [w2, h5, put, putI, if_pos rfl]
    simp
theorem node_step {fu : Nat} {most doc : Int} {N : Nat} (hN : N ≤ 1000000) (hfu : N + 50 < fu + 1) (h : ∀ M, N = M + 1 → NodeOk (Print_reader_node_m fu) most doc M) : NodeOk (Print_reader_node_m (fu + 1)) most doc N := by
  intro s b l hs h5
  rw [Print_reader_node_m]
  rcases take_cases fu [60] s with ⟨r0, hr, ht⟩ | ⟨_, ht⟩
  · have hl : s.length = r0.length + 1 := by rw [hr]; simp
    obtain ⟨M, rfl⟩ : ∃ M, N = M + 1 := ⟨N - 1, by omega⟩
    obtain ⟨r, b', ext, e1, e2, e3, e4, e5, e6⟩ := elem_m (fu := fu) (h M rfl) (by omega) (by omega) (s := r0) (b := b) (l := l) (by omega) (by omega)
    refine ⟨r, b', ext, ?_, by omega, e3, e4, by omega, fun hb => ?_⟩
    · rw [ht, bnd_some, cnd_true, e1, bnd_some]
    · obtain ⟨h1, t, h2, _, h3, h4⟩ := e6 hb
      exact ⟨h1, by omega, t, h2, by rw [hr]; exact h3, h4⟩
  rw [ht, bnd_some, cnd_false]
  simp only []
  rcases take_cases fu [91] s with ⟨r0, hr, ht⟩ | ⟨_, ht⟩
  · have hl : s.length = r0.length + 1 := by rw [hr]; simp
    obtain ⟨M, rfl⟩ : ∃ M, N = M + 1 := ⟨N - 1, by omega⟩
    obtain ⟨r, b', ks, ext, e1, e2, e3, e4, e5⟩ := kids_m (fu := fu) (w := [93]) (h M rfl) (s := r0) (b := b) (l0 := l) (l1 := []) (p := ⟨3, [], [], [], [], -1, [], -1, -1, doc⟩) (by omega) (by omega) rfl (by simp; omega)
    refine ⟨r, b', addK ⟨3, [], [], [], [], -1, [], -1, -1, doc⟩ ks :: ext, ?_, by omega, by simp, ?_, by simp; omega, fun hb => ?_⟩
    · rw [ht, bnd_some, cnd_true, add_m (by omega), bnd_some]
      simp only []
      rw [e1, bnd_some]
      rfl
    · intro x hx
      rcases List.mem_cons.1 hx with rfl | hx
      · rfl
      · exact e3 x hx
    · obtain ⟨h1, ts, h2, h3, h4, h5⟩ := e5 hb
      refine ⟨h1, by rw [h3] at hl; simp at hl; omega, .frag ts, h2, ?_, ?_⟩
      · rw [hr, h3]; simp [put]
      · rw [h4, h5]; simp [mk, lay, addK]
  rw [ht, bnd_some, cnd_false]
  simp only []
  obtain ⟨d, r, b', q1, q2, q3⟩ := quoted_any (fu := fu) (s := s) (b := b) (by omega) (by omega)
  refine ⟨r, b', [(⟨2, [], [], d, [], -1, [], -1, -1, doc⟩, true)], ?_, q2, by simp, by simp, ?_, fun hb => ?_⟩
  · rw [q1, bnd_some, add_m (by omega), bnd_some]
  · cases b'
    · have := (q3 rfl).2
      rw [this]; simp; omega
    · simp; omega
  · obtain ⟨h1, h2⟩ := q3 hb
    refine ⟨h1, by rw [h2]; simp; omega, .text d, trivial, ?_, rfl⟩
    rw [h2]; simp [put]
theorem node_ok {most doc : Int} : ∀ (N fu : Nat), N ≤ 1000000 → N + 50 < fu → NodeOk (Print_reader_node_m fu) most doc N := by
  intro N
  induction N with
  | zero =>
    intro fu hN hf
    obtain ⟨fu, rfl⟩ : ∃ k, fu = k + 1 := ⟨fu - 1, by omega⟩
    exact node_step hN hf fun M h => by omega
  | succ N ih =>
    intro fu hN hf
    obtain ⟨fu, rfl⟩ : ∃ k, fu = k + 1 := ⟨fu - 1, by omega⟩
    exact node_step hN hf fun M h => by obtain rfl : N = M := by omega
                                        exact ih fu (by omega) (by omega)
end Go.Proofs.YtkngnghbnhgfjaaGreat
/- The reader reads what was put. -/
namespace Go.Proofs.YtkngnghbnhgfjaaGreat
open Go Go.Pw
set_option linter.unusedVariables false

/-- What the reader's node makes of a tree's text. -/
def NodeC (sf : Sf) (most doc : Int) (N : Nat) : Prop :=
  ∀ (t : Tr) (r : Bs) (l : List (Node × Bool)), Wf t → (put t ++ r).length ≤ N → l.length + sz t ≤ 401 →
    sf most doc (put t ++ r) false l = some (((l.length : Nat) : Int), r, false, l ++ mk (lay doc (-1) l.length t))
/-- How a kid's text begins. -/
theorem kid_head {t : Tr} (hk : kid t) (r : Bs) : ∃ q, put t ++ r = 34 :: q ∨ put t ++ r = 60 :: q := by
  cases t with
  | text d => exact ⟨_, .inl rfl⟩
  | frag ks => exact hk.elim
  | elem n i al sh us ks => exact ⟨_, .inr (by simp only [put, List.cons_append]; rfl)⟩
/-- A mark that no kid begins with. -/
def NoKid (w : Bs) : Prop := ∀ (t : Tr) (r : Bs), kid t → Wf t → (put t ++ r).take w.length ≠ w
theorem nokid_one {c : UInt8} (h1 : c ≠ 34) (h2 : c ≠ 60) : NoKid [c] := fun t r hk _ he => by
  obtain ⟨q, h | h⟩ := kid_head hk r
  · rw [h] at he; simp at he; exact h1 he.symm
  · rw [h] at he; simp at he; exact h2 he.symm
theorem sign47 : signB 47 = false := by decide
theorem nokid_end (n : Bs) : NoKid (60 :: 47 :: n) := fun t r hk hw he => by
  cases t with
  | text d => simp [put] at he
  | frag ks => exact hk.elim
  | elem m i al sh us ks =>
    have h1 : wordB m := hw.1
    rw [put] at he
    simp only [List.cons_append, List.append_assoc, List.length_cons, List.take_succ_cons, List.cons.injEq, true_and] at he
    cases m with
    | cons c m =>
      simp only [List.cons_append, List.take_succ_cons, List.cons.injEq] at he
      have : signB c = true := by
        unfold wordB at h1
        simp only [List.all_cons, Bool.and_eq_true] at h1
        exact h1.1
      rw [he.1, sign47] at this
      cases this
    | nil =>
      simp only [List.nil_append, putI] at he
      split at he
      · simp only [List.nil_append] at he
        cases al with
        | nil => simp [putA] at he
        | cons a al => simp [putA] at he
      · simp at he
theorem kids_c {sf : Sf} {fu : Nat} {most doc : Int} {n1 : Nat} {w : Bs} {N : Nat} (hsf : NodeC sf most doc N) (hw : NoKid w) : ∀ (ts : List Tr) (r : Bs) (l : List (Node × Bool)) (k : Nat) (p : Node), WfL ts → (putL ts ++ (w ++ r)).length ≤ N → ts.length < k →
    n1 < l.length → l[n1]? = some (p, true) → l.length + szL ts ≤ 401 → p.Kids.length + ts.length ≤ 5000000 →
    Print_reader_kids_l1 sf fu (n1 : Int) w most doc k (putL ts ++ (w ++ r), false, l) = some (r, false, l.set n1 (addK p (ats l.length ts)) ++ mk (layL doc n1 l.length ts)) := by
  intro ts
  induction ts with
  | nil =>
    intro r l k p h1 h2 h3 h4 hp h5 h6
    obtain ⟨k, rfl⟩ : ∃ k', k = k' + 1 := ⟨k - 1, by omega⟩
    rw [Print_reader_kids_l1, show (!false) = true from rfl, cnd_true]
    simp only [putL, List.nil_append]
    rw [take_yes, bnd_some, show (!true) = false from rfl, cnd_false]
    simp only [ats, layL, mk, List.map_nil, List.append_nil]
    rw [addK_nil hp]
  | cons t ts ih =>
    intro r l k p h1 h2 h3 h4 hp h5 h6
    obtain ⟨k, rfl⟩ : ∃ k', k = k' + 1 := ⟨k - 1, by omega⟩
    obtain ⟨hk, hwt, hwl⟩ := h1
    have hz := sz_pos t
    simp only [szL] at h5
    simp only [List.length_cons] at h3 h6
    have e0 : putL (t :: ts) ++ (w ++ r) = put t ++ (putL ts ++ (w ++ r)) := by simp [putL]
    rw [e0] at h2 ⊢
    have hno := hw t (putL ts ++ (w ++ r)) hk hwt
    have hnode := hsf t (putL ts ++ (w ++ r)) l hwt h2 (by omega)
    obtain ⟨x0, l0, k1, k2⟩ := lay_par doc (-1) n1 l.length t
    have hstep : Print_reader_kids_j1 sf (n1 : Int) most doc false l (false, put t ++ (putL ts ++ (w ++ r))) (Print_reader_kids_l1 sf fu (n1 : Int) w most doc k) () = some (r, false, l.set n1 (addK p (ats l.length (t :: ts))) ++ mk (layL doc n1 l.length (t :: ts))) := by
      rw [k1] at hnode
      simp only [mk, List.map_cons] at hnode
      rw [kids_j hnode h4 hp (by omega)]
      have hl2 : (l.set n1 (addK p [((l.length : Nat) : Int)]) ++ par n1 ({ x0 with Parent := -1 }, true) :: l0.map fun x => (x, true)).length = l.length + sz t := by
        have := lay_len doc (-1) l.length t
        rw [k1] at this
        simp only [List.length_cons] at this
        simp; omega
      have := ih r (l.set n1 (addK p [((l.length : Nat) : Int)]) ++ par n1 ({ x0 with Parent := -1 }, true) :: l0.map fun x => (x, true)) k ⟨p.Kind, p.Name, p.Is, p.Data, p.Attrs, p.Parent, p.Kids ++ [((l.length : Nat) : Int)], p.Host, p.Under, p.Doc⟩ hwl (by have := h2; simp only [List.length_append] at this ⊢; omega) (by omega) (by simp; omega)
          (by rw [List.getElem?_append_left (by simpa using h4), List.getElem?_set_self h4]; rfl) (by rw [hl2]; omega) (by simp; omega)
      rw [this, hl2, List.set_append_left _ _ (by simpa using h4), List.set_set]
      simp only [mk, layL, List.map_append, k2, List.map_cons, ats]
      simp [addK, par]
    rw [Print_reader_kids_l1, show (!false) = true from rfl, cnd_true, take_no hno, bnd_some, show (!false) = true from rfl, cnd_true]
    obtain ⟨q, hq⟩ := kid_head hk (putL ts ++ (w ++ r))
    rcases hq with hq | hq
    · rw [hq] at hstep ⊢
      have hc0 : chr (34 :: q) 0 = some (34 : Int) := by rw [chr_zero]; rfl
      rw [show ((((34 :: q : Bs).length : Nat) : Int) == 0) = false from by simp; omega, cnd_false, hc0, bnd_some, bnd_some]
      rw [show ((34 : Int) != 60) = true from rfl, cnd_true, show ((34 : Int) != 34) = false from rfl, cnd_false, cnd_dec, if_neg (by omega)]
      exact hstep
    · rw [hq] at hstep ⊢
      have hc0 : chr (60 :: q) 0 = some (60 : Int) := by rw [chr_zero]; rfl
      rw [show ((((60 :: q : Bs).length : Nat) : Int) == 0) = false from by simp; omega, cnd_false, hc0, bnd_some, bnd_some]
      rw [show ((60 : Int) != 60) = false from rfl, cnd_false, cnd_dec, if_neg (by omega)]
      exact hstep
/-- The kids of a row that was just laid. -/
theorem kids_mc {sf : Sf} {fu : Nat} {most doc : Int} {w : Bs} {N : Nat} (hsf : NodeC sf most doc N) (hw : NoKid w) {ts : List Tr} {r : Bs} {l0 l1 : List (Node × Bool)} {p : Node} (ht : WfL ts) (hs : (putL ts ++ (w ++ r)).length ≤ N) (hf : ts.length < fu) (hfu : ts.length ≤ 1000000) (hk : p.Kids = []) (h5 : l0.length + 1 + l1.length + szL ts ≤ 401) :
    Print_reader_kids_m sf fu ((l0.length : Nat) : Int) w most doc (putL ts ++ (w ++ r)) false (l0 ++ (p, true) :: l1) = some (r, false, l0 ++ addK p (ats (l0.length + 1 + l1.length) ts) :: (l1 ++ mk (layL doc ((l0.length : Nat) : Int) (l0.length + 1 + l1.length) ts))) := by
  have hl : (l0 ++ (p, true) :: l1).length = l0.length + 1 + l1.length := by simp; omega
  have := kids_c (fu := fu) hsf hw ts r (l0 ++ (p, true) :: l1) fu p ht hs hf (n1 := l0.length) (by simp) (by simp) (by rw [hl]; omega) (by rw [hk]; simp; omega)
  unfold Print_reader_kids_m
  rw [this, List.set_append_right _ _ (Nat.le_refl _), hl]
  simp
theorem wfl_len : ∀ (ts : List Tr), ts.length ≤ szL ts
  | [] => Nat.le_refl _
  | t :: ts => by have := wfl_len ts; have := sz_pos t; simp only [List.length_cons, szL]; omega
end Go.Proofs.YtkngnghbnhgfjaaGreat
/- The reader reads a tree's text as that tree. -/
namespace Go.Proofs.YtkngnghbnhgfjaaGreat
open Go Go.Pw
set_option linter.unusedVariables false

theorem tw_app : ∀ (n q : Bs), wordB n → (∀ c t, q = c :: t → signB c = false) → (n ++ q).takeWhile signB = n ∧ (n ++ q).dropWhile signB = q
  | [], q, _, hq => by
    cases q with
    | nil => exact ⟨rfl, rfl⟩
    | cons c t => simp [hq c t rfl]
  | c :: n, q, hn, hq => by
    unfold wordB at hn
    simp only [List.all_cons, Bool.and_eq_true] at hn
    obtain ⟨h1, h2⟩ := tw_app n q hn.2 hq
    simp [hn.1, h1, h2]
theorem word_app {fu : Nat} {n q : Bs} (hf : 40 < fu) (hl : (n ++ q).length < fu) (hn : wordB n) (hq : ∀ c t, q = c :: t → signB c = false) : Print_reader_word_m fu (n ++ q) = some (n, q) := by
  obtain ⟨h1, h2⟩ := tw_app n q hn hq
  rw [word_m hf hl, h1, h2]
/-- What stands behind a name: no sign of a word. -/
theorem putA_head (al : List Attr) (z : Bs) : ∃ c t, putA al ++ 62 :: z = c :: t ∧ (c = 32 ∨ c = 62) := by
  cases al with
  | nil => exact ⟨62, z, rfl, .inr rfl⟩
  | cons a al => exact ⟨32, _, by simp only [putA, List.cons_append]; rfl, .inl rfl⟩
theorem head_no {c : UInt8} (h : c = 32 ∨ c = 62 ∨ c = 33) : signB c = false := by rcases h with rfl | rfl | rfl <;> decide
theorem attrs_c {sf : Sf} {fu : Nat} {c1 c2 : Int} {l : List (Node × Bool)} {r6 : Bs × Bs} {is z : Bs} (hfu : 40 < fu) : ∀ (al al0 : List Attr) (k : Nat), (∀ a ∈ al, wordB a.Name) → al.length < k → (putA al ++ 62 :: z).length < fu → (putA al ++ 62 :: z).length ≤ 1000000 → al0.length + al.length ≤ 1000000 →
    Print_reader_elem_l1 sf fu c1 c2 l r6 is k (putA al ++ 62 :: z, false, al0) = Print_reader_elem_j2 sf fu c1 c2 l r6 is (62 :: z, false, al0 ++ al) := by
  intro al
  induction al with
  | nil =>
    intro al0 k h1 h2 h3 h4 h5
    obtain ⟨k, rfl⟩ : ∃ k', k = k' + 1 := ⟨k - 1, by omega⟩
    rw [Print_reader_elem_l1, show (!false) = true from rfl, cnd_true]
    simp only [putA, List.nil_append, List.append_nil]
    rw [take_no (by simp), bnd_some, cnd_false]
  | cons a al ih =>
    intro al0 k h1 h2 h3 h4 h5
    obtain ⟨k, rfl⟩ : ∃ k', k = k' + 1 := ⟨k - 1, by omega⟩
    simp only [List.length_cons] at h2 h5
    have hw := h1 a (by simp)
    have e : putA (a :: al) ++ 62 :: z = [32] ++ (a.Name ++ ([61] ++ (34 :: (quoL a.Value ++ 34 :: (putA al ++ 62 :: z))))) := by simp [putA]
    rw [e] at h3 h4 ⊢
    have hlen : ∀ (A B : Bs), (A ++ B).length = A.length + B.length := fun A B => List.length_append
    simp only [hlen, List.length_cons, List.length_nil] at h3 h4
    have hun : unq (quoL a.Value ++ 34 :: (putA al ++ 62 :: z)) = some (a.Value, putA al ++ 62 :: z) := unq_quo _ _
    rw [Print_reader_elem_l1, show (!false) = true from rfl, cnd_true, take_yes, bnd_some, cnd_true]
    simp only []
    rw [word_app hfu (by simp only [hlen, List.length_cons, List.length_nil]; omega) hw (fun c t h => by simp only [List.singleton_append, List.cons.injEq] at h; rw [← h.1]; decide), bnd_some]
    simp only []
    rw [must_yes, bnd_some]
    simp only []
    rw [quoted_yes (by simp only [hlen, List.length_cons]; omega) (by simp only [hlen, List.length_cons]; omega) hun, bnd_some, roomy_ok (by simp; omega), bnd_some]
    simp only []
    rw [ih (al0 ++ [(⟨a.Name, a.Value⟩ : Attr)]) k (fun b hb => h1 b (by simp [hb])) (by omega) (by simp only [hlen, List.length_cons]; omega) (by simp only [hlen, List.length_cons]; omega) (by simp; omega)]
    simp
/-- An element from its end of the head on. -/
theorem elem_jc {sf : Sf} {fu : Nat} {most doc : Int} {N : Nat} (hsf : NodeC sf most doc N) {n is q0 r : Bs} {al : List Attr} {sh : Bool} {us ks : List Tr} {l : List (Node × Bool)} (hus : sh = false → us = []) (hu : WfL us) (hks : WfL ks) (hs : ((if sh then 123 :: putL us ++ [125] else []) ++ putL ks ++ 60 :: 47 :: n ++ 62 :: r).length ≤ N) (hf : 1000 < fu) (hN : N ≤ 1000000) (h5 : l.length + sz (.elem n is al sh us ks) ≤ 401) :
    Print_reader_elem_j2 sf fu most doc l (n, q0) is (62 :: ((if sh then 123 :: putL us ++ [125] else []) ++ putL ks ++ 60 :: 47 :: n ++ 62 :: r), false, al) = some (((l.length : Nat) : Int), r, false, l ++ mk (lay doc (-1) l.length (.elem n is al sh us ks))) := by
  have hnl : n.length ≤ 1000000 := by simp only [List.length_append, List.length_cons] at hs; omega
  have hkl := wfl_len ks
  have hul := wfl_len us
  unfold Print_reader_elem_j2
  simp only []
  rw [show (62 :: ((if sh then 123 :: putL us ++ [125] else []) ++ putL ks ++ 60 :: 47 :: n ++ 62 :: r) : Bs) = [62] ++ ((if sh then 123 :: putL us ++ [125] else []) ++ putL ks ++ 60 :: 47 :: n ++ 62 :: r) from rfl, must_yes, bnd_some, add_m (by omega), bnd_some]
  rw [show (!false) = true from rfl, cnd_true]
  simp only []
  cases sh with
  | false =>
    obtain rfl := hus rfl
    have e : ((if false = true then 123 :: putL [] ++ [125] else []) ++ putL ks ++ 60 :: 47 :: n ++ 62 :: r : Bs) = putL ks ++ ((60 :: 47 :: n ++ [62]) ++ r) := by simp
    rw [e] at hs ⊢
    have hno : (putL ks ++ ((60 :: 47 :: n ++ [62]) ++ r)).take 1 ≠ [123] := by
      cases ks with
      | nil => simp [putL]
      | cons t ts =>
        intro he
        obtain ⟨q, hq⟩ := kid_head (t := t) hks.1 (putL ts ++ ((60 :: 47 :: n ++ [62]) ++ r))
        have e2 : putL (t :: ts) ++ ((60 :: 47 :: n ++ [62]) ++ r) = put t ++ (putL ts ++ ((60 :: 47 :: n ++ [62]) ++ r)) := by simp [putL]
        rw [e2] at he
        rcases hq with hq | hq <;> rw [hq] at he <;> simp at he
    have hsz : sz (.elem n is al false [] ks) = 1 + szL ks := by simp [sz]
    rw [hsz] at h5
    rw [take_no (w := [123]) hno, bnd_some, cnd_false, close_m hnl]
    have hk := kids_mc (fu := fu) (w := 60 :: 47 :: n ++ [62]) hsf (nokid_end (n ++ [62])) (ts := ks) (r := r) (l0 := l) (l1 := []) (p := eRow n is al doc) hks hs (by omega) (by omega) rfl (by simp; omega)
    rw [hk, bnd_some]
    simp [mk, lay, addK]
  | true =>
    have hsz : sz (.elem n is al true us ks) = 1 + (1 + szL us) + szL ks := by simp [sz]
    rw [hsz] at h5
    have e : ((if true = true then 123 :: putL us ++ [125] else []) ++ putL ks ++ 60 :: 47 :: n ++ 62 :: r : Bs) = [123] ++ (putL us ++ ([125] ++ (putL ks ++ ((60 :: 47 :: n ++ [62]) ++ r)))) := by simp
    rw [e] at hs ⊢
    rw [take_yes, bnd_some, cnd_true, add_m (by simp; omega), bnd_some]
    simp only []
    have i1 : idx ((l ++ [(eRow n is al doc, true)]) ++ [(sRow doc, true)]) (((l ++ [(eRow n is al doc, true)]).length : Nat) : Int) = some (sRow doc, true) := idx_nat (by simp)
    rw [i1, bnd_some]
    have i2 : ((l ++ [(eRow n is al doc, true)]) ++ [(sRow doc, true)]).set ((((l ++ [(eRow n is al doc, true)]).length : Nat) : Int)).toNat ((⟨4, [], [], [], [], -1, [], ((l.length : Nat) : Int), -1, doc⟩ : Node), true) = l ++ (eRow n is al doc, true) :: [((⟨4, [], [], [], [], -1, [], ((l.length : Nat) : Int), -1, doc⟩ : Node), true)] := by
      rw [Int.toNat_natCast, List.set_append_right _ _ (Nat.le_refl _)]; simp
    simp only [i2]
    have i3 : idx (l ++ (eRow n is al doc, true) :: [((⟨4, [], [], [], [], -1, [], ((l.length : Nat) : Int), -1, doc⟩ : Node), true)]) ((l.length : Nat) : Int) = some (eRow n is al doc, true) := idx_nat (by simp)
    rw [i3, bnd_some]
    have i4 : (l ++ (eRow n is al doc, true) :: [((⟨4, [], [], [], [], -1, [], ((l.length : Nat) : Int), -1, doc⟩ : Node), true)]).set (((l.length : Nat) : Int)).toNat ((⟨1, n, is, [], al, -1, [], -1, (((l ++ [(eRow n is al doc, true)]).length : Nat) : Int), doc⟩ : Node), true) = (l ++ [((⟨1, n, is, [], al, -1, [], -1, ((l.length + 1 : Nat) : Int), doc⟩ : Node), true)]) ++ ((⟨4, [], [], [], [], -1, [], ((l.length : Nat) : Int), -1, doc⟩ : Node), true) :: [] := by
      rw [Int.toNat_natCast, List.set_append_right _ _ (Nat.le_refl _)]; simp
    simp only [i4]
    have hs2 : (putL us ++ ([125] ++ (putL ks ++ ((60 :: 47 :: n ++ [62]) ++ r)))).length ≤ N := by simp only [List.length_append, List.length_cons, List.length_nil] at hs ⊢; omega
    have hs3 : (putL ks ++ ((60 :: 47 :: n ++ [62]) ++ r)).length ≤ N := by simp only [List.length_append, List.length_cons, List.length_nil] at hs ⊢; omega
    have k1 := kids_mc (fu := fu) hsf (nokid_one (c := 125) (by decide) (by decide)) (ts := us) (r := putL ks ++ ((60 :: 47 :: n ++ [62]) ++ r)) (l0 := l ++ [((⟨1, n, is, [], al, -1, [], -1, ((l.length + 1 : Nat) : Int), doc⟩ : Node), true)]) (l1 := []) (p := ⟨4, [], [], [], [], -1, [], ((l.length : Nat) : Int), -1, doc⟩) hu hs2 (by omega) (by omega) rfl (by simp; omega)
    have hle : (l ++ [(eRow n is al doc, true)]).length = (l ++ [((⟨1, n, is, [], al, -1, [], -1, ((l.length + 1 : Nat) : Int), doc⟩ : Node), true)]).length := by simp
    have hl0 : (l ++ [((⟨1, n, is, [], al, -1, [], -1, ((l.length + 1 : Nat) : Int), doc⟩ : Node), true)]).length = l.length + 1 := by simp
    rw [hle, k1, bnd_some, close_m hnl]
    have j1 := kids_mc (fu := fu) (w := 60 :: 47 :: n ++ [62]) hsf (nokid_end (n ++ [62])) (ts := ks) (r := r) (l0 := l) (l1 := addK ⟨4, [], [], [], [], -1, [], ((l.length : Nat) : Int), -1, doc⟩ (ats (l.length + 2) us) :: mk (layL doc ((l.length + 1 : Nat) : Int) (l.length + 2) us)) (p := ⟨1, n, is, [], al, -1, [], -1, ((l.length + 1 : Nat) : Int), doc⟩) hks hs3 (by omega) (by omega) rfl (by simp [mk, layL_len]; omega)
    have e3 : ∀ (X Y : Node × Bool) (Z : List (Node × Bool)), (l ++ [X]) ++ Y :: Z = l ++ X :: (Y :: Z) := fun X Y Z => by simp
    rw [hl0, e3]
    simp only [List.length_nil, Nat.add_zero, List.nil_append]
    rw [show l.length + 1 + 1 = l.length + 2 from rfl, j1, bnd_some]
    simp [mk, lay, addK, layL_len, Nat.add_assoc]
    rw [show l.length + (1 + (szL us + 1)) = l.length + (1 + (1 + szL us)) from by omega]
    exact ⟨rfl, rfl⟩
end Go.Proofs.YtkngnghbnhgfjaaGreat
/- The reader's node on a tree's text: all together. -/
namespace Go.Proofs.YtkngnghbnhgfjaaGreat
open Go Go.Pw
set_option linter.unusedVariables false

theorem put_elem (n i : Bs) (al : List Attr) (sh : Bool) (us ks : List Tr) (r : Bs) : put (.elem n i al sh us ks) ++ r = 60 :: (n ++ (putI i ++ (putA al ++ 62 :: ((if sh then 123 :: putL us ++ [125] else []) ++ putL ks ++ 60 :: 47 :: n ++ 62 :: r)))) := by
  rw [put]; simp
theorem putA_ge : ∀ (al : List Attr), al.length ≤ (putA al).length
  | [] => Nat.le_refl _
  | a :: al => by have := putA_ge al; simp only [putA, List.length_append, List.length_cons]; omega
theorem elem_c {sf : Sf} {fu : Nat} {most doc : Int} {N : Nat} (hsf : NodeC sf most doc N) (hf : N + 1000 < fu) (hN : N ≤ 1000000) {n i r : Bs} {al : List Attr} {sh : Bool} {us ks : List Tr} {l : List (Node × Bool)} (hw : Wf (.elem n i al sh us ks))
    (hs : (n ++ (putI i ++ (putA al ++ 62 :: ((if sh then 123 :: putL us ++ [125] else []) ++ putL ks ++ 60 :: 47 :: n ++ 62 :: r)))).length ≤ N) (h5 : l.length + sz (.elem n i al sh us ks) ≤ 401) :
    Print_reader_elem_m sf fu most doc (n ++ (putI i ++ (putA al ++ 62 :: ((if sh then 123 :: putL us ++ [125] else []) ++ putL ks ++ 60 :: 47 :: n ++ 62 :: r)))) false l = some (((l.length : Nat) : Int), r, false, l ++ mk (lay doc (-1) l.length (.elem n i al sh us ks))) := by
  obtain ⟨w1, w2, w3, w4, w5, w6⟩ := hw
  have hj := elem_jc (fu := fu) (is := i) (q0 := putI i ++ (putA al ++ 62 :: ((if sh then 123 :: putL us ++ [125] else []) ++ putL ks ++ 60 :: 47 :: n ++ 62 :: r))) (al := al) (l := l) (r := r) (n := n) hsf w4 w5 w6 (by simp only [List.length_append, List.length_cons] at hs ⊢; omega) (by omega) hN h5
  generalize hZ : (if sh then 123 :: putL us ++ [125] else []) ++ putL ks ++ 60 :: 47 :: n ++ 62 :: r = Z at hs hj ⊢
  have hal := putA_ge al
  have hlA : (putA al ++ 62 :: Z).length ≤ N := by simp only [List.length_append, List.length_cons] at hs ⊢; omega
  have hj1 : Print_reader_elem_j1 sf fu most doc l (n, putI i ++ (putA al ++ 62 :: Z)) (putA al ++ 62 :: Z, false, i) = some (((l.length : Nat) : Int), r, false, l ++ mk (lay doc (-1) l.length (.elem n i al sh us ks))) := by
    unfold Print_reader_elem_j1
    simp only []
    rw [attrs_c (by omega) al [] fu w3 (by simp only [List.length_append] at hlA; omega) (by omega) (by omega) (by simp only [List.length_append] at hlA; simp; omega), List.nil_append, hj]
  obtain ⟨c, t, hc, hct⟩ := putA_head al Z
  unfold Print_reader_elem_m
  by_cases hi : i = []
  · subst hi
    rw [putI, if_pos rfl, List.nil_append] at hs hj1 ⊢
    rw [word_app (by omega) (by omega) w1 (fun c' t' h => by rw [hc] at h; simp only [List.cons.injEq] at h; rw [← h.1]; exact head_no (by rcases hct with h | h <;> simp [h])), bnd_some]
    simp only []
    rw [take_no (w := [33]) (by rw [hc]; rcases hct with h | h <;> simp [h]), bnd_some, cnd_false]
    exact hj1
  · rw [putI, if_neg hi] at hs hj1 ⊢
    rw [word_app (by omega) (by omega) w1 (fun c' t' h => by simp only [List.cons_append, List.cons.injEq] at h; rw [← h.1]; decide), bnd_some]
    simp only []
    rw [show (33 :: i ++ (putA al ++ 62 :: Z) : Bs) = [33] ++ (i ++ (putA al ++ 62 :: Z)) from rfl, take_yes, bnd_some, cnd_true]
    simp only []
    rw [word_app (by omega) (by simp only [List.length_append, List.length_cons] at hs ⊢; omega) w2 (fun c' t' h => by rw [hc] at h; simp only [List.cons.injEq] at h; rw [← h.1]; exact head_no (by rcases hct with h | h <;> simp [h])), bnd_some, cnd_false]
    rw [show (i == ([] : Bs)) = false from by simpa using hi]
    exact hj1
theorem nodec_step {fu : Nat} {most doc : Int} {N : Nat} (hN : N ≤ 1000000) (hfu : N + 1000 < fu + 1) (h : ∀ M, N = M + 1 → NodeC (Print_reader_node_m fu) most doc M) : NodeC (Print_reader_node_m (fu + 1)) most doc N := by
  intro t r l hw hs h5
  rw [Print_reader_node_m]
  cases t with
  | text d =>
    have e : put (.text d) ++ r = 34 :: (quoL d ++ 34 :: r) := by simp [put]
    rw [e] at hs ⊢
    simp only [List.length_cons, List.length_append] at hs
    rw [take_no (w := [60]) (by simp), bnd_some, cnd_false]
    simp only []
    rw [take_no (w := [91]) (by simp), bnd_some, cnd_false]
    simp only []
    simp only [sz] at h5
    rw [quoted_yes (by simp only [List.length_cons, List.length_append]; omega) (by simp only [List.length_cons, List.length_append]; omega) (unq_quo d r), bnd_some, add_m (by omega), bnd_some]
    rfl
  | frag ks =>
    obtain ⟨M, rfl⟩ : ∃ M, N = M + 1 := ⟨N - 1, by simp [put] at hs; omega⟩
    have e : put (.frag ks) ++ r = [91] ++ (putL ks ++ ([93] ++ r)) := by simp [put]
    rw [e] at hs ⊢
    have hs2 : (putL ks ++ ([93] ++ r)).length ≤ M := by simp only [List.length_cons, List.length_append, List.length_nil] at hs ⊢; omega
    simp only [sz] at h5
    have hkl := wfl_len ks
    rw [take_no (w := [60]) (by simp), bnd_some, cnd_false]
    simp only []
    rw [take_yes, bnd_some, cnd_true, add_m (by omega), bnd_some]
    simp only []
    have hk := kids_mc (fu := fu) (w := [93]) (h M rfl) (nokid_one (by decide) (by decide)) (ts := ks) (r := r) (l0 := l) (l1 := []) (p := ⟨3, [], [], [], [], -1, [], -1, -1, doc⟩) hw hs2 (by omega) (by omega) rfl (by simp; omega)
    rw [hk, bnd_some]
    simp [mk, lay, addK]
  | elem n i al sh us ks =>
    rw [put_elem] at hs ⊢
    obtain ⟨M, rfl⟩ : ∃ M, N = M + 1 := ⟨N - 1, by simp only [List.length_cons] at hs; omega⟩
    have hc := elem_c (fu := fu) (h M rfl) (by omega) (by omega) (l := l) (r := r) hw (by simp only [List.length_cons] at hs; omega) h5
    generalize n ++ (putI i ++ (putA al ++ 62 :: ((if sh then 123 :: putL us ++ [125] else []) ++ putL ks ++ 60 :: 47 :: n ++ 62 :: r))) = Y at hs hc ⊢
    rw [show (60 :: Y : Bs) = [60] ++ Y from rfl, take_yes, bnd_some, cnd_true]
    simp only []
    rw [hc, bnd_some]
theorem node_c {most doc : Int} : ∀ (N fu : Nat), N ≤ 1000000 → N + 1000 < fu → NodeC (Print_reader_node_m fu) most doc N := by
  intro N
  induction N with
  | zero =>
    intro fu hN hf
    obtain ⟨fu, rfl⟩ : ∃ k, fu = k + 1 := ⟨fu - 1, by omega⟩
    exact nodec_step hN hf fun M h => by omega
  | succ N ih =>
    intro fu hN hf
    obtain ⟨fu, rfl⟩ : ∃ k, fu = k + 1 := ⟨fu - 1, by omega⟩
    exact nodec_step hN hf fun M h => Nat.succ.inj h ▸ ih fu (by omega) (by omega)
end Go.Proofs.YtkngnghbnhgfjaaGreat
/- What the models of attr.Right and forest.Right come to. -/
namespace Go.Proofs.YtkngnghbnhgfjaaGreat
open Go Go.Pw

/-! ## Attributes -/
theorem mput_keys {κ ν : Type} [DecidableEq κ] : ∀ (l : List (κ × ν)) (k : κ) (v : ν), (k ∈ l.map (·.1) ∧ (mput l k v).map (·.1) = l.map (·.1)) ∨ (k ∉ l.map (·.1) ∧ (mput l k v).map (·.1) = l.map (·.1) ++ [k]) := by
  have none_of : ∀ (l : List (κ × ν)) (k : κ), mfind l k = none → k ∉ l.map (·.1) := by
    intro l
    induction l with
    | nil => intro k _; simp
    | cons x l ih =>
      intro k h
      simp only [mfind] at h
      split at h
      · cases h
      · rename_i hne
        simp only [List.map_cons, List.mem_cons, not_or]
        exact ⟨fun e => hne e.symm, ih k (Option.map_eq_none_iff.1 h)⟩
  intro l k v
  unfold mput
  cases h : mfind l k with
  | none => exact .inr ⟨none_of l k h, by simp⟩
  | some j =>
    obtain ⟨v0, hv⟩ := mfind_lt h
    refine .inl ⟨List.mem_map.2 ⟨_, List.mem_of_getElem? hv, rfl⟩, ?_⟩
    simp only [List.map_set]
    have : (l.map (·.1))[j]? = some k := by rw [List.getElem?_map, hv]; rfl
    obtain ⟨h1, h2⟩ := List.getElem?_eq_some_iff.1 this
    rw [← h2]; exact List.set_getElem_self h1
/-- What a table made of a list has for keys. -/
def tbl : List Attr → List (Bs × Attr) → List (Bs × Attr)
  | [], m => m
  | a :: l, m => tbl l (mput m a.Name a)
theorem tbl_len : ∀ (l : List Attr) (m : List (Bs × Attr)), (m.map (·.1)).Nodup → (tbl l m).length ≤ m.length + l.length ∧ ((tbl l m).length = m.length + l.length ↔ (l.map (·.Name)).Nodup ∧ ∀ a ∈ l, a.Name ∉ m.map (·.1))
  | [], m, _ => by simp [tbl]
  | a :: l, m, hm => by
    simp only [tbl]
    rcases mput_keys m a.Name a with ⟨h1, h2⟩ | ⟨h1, h2⟩
    · have hlen : (mput m a.Name a).length = m.length := by have := congrArg List.length h2; simpa using this
      have ih := tbl_len l (mput m a.Name a) (by rw [h2]; exact hm)
      rw [hlen] at ih
      refine ⟨by simp only [List.length_cons]; omega, ?_⟩
      simp only [List.length_cons]
      constructor
      · intro h; omega
      · rintro ⟨_, h⟩
        exact absurd h1 (h a (by simp))
    · have hlen : (mput m a.Name a).length = m.length + 1 := by have := congrArg List.length h2; simpa using this
      have ih := tbl_len l (mput m a.Name a) (by rw [h2, List.nodup_append]; exact ⟨hm, by simp, fun x hx y hy => by simp at hy; subst hy; exact fun e => h1 (e ▸ hx)⟩)
      rw [hlen, h2] at ih
      refine ⟨by simp only [List.length_cons]; omega, ?_⟩
      simp only [List.length_cons]
      rw [show m.length + (l.length + 1) = m.length + 1 + l.length by omega, ih.2]
      simp only [List.map_cons]
      constructor
      · rintro ⟨g1, g2⟩
        refine ⟨List.nodup_cons.2 ⟨fun hm => ?_, g1⟩, fun b hb => ?_⟩
        · obtain ⟨x, hx, e⟩ := List.mem_map.1 hm
          exact g2 x hx (List.mem_append.2 (.inr (by simp [e])))
        · rcases List.mem_cons.1 hb with rfl | hb
          · exact h1
          · exact fun h => g2 b hb (List.mem_append.2 (.inl h))
      · rintro ⟨g1, g2⟩
        obtain ⟨g3, g4⟩ := List.nodup_cons.1 g1
        refine ⟨g4, fun x hx h => ?_⟩
        rcases List.mem_append.1 h with h | h
        · exact g2 x (by simp [hx]) h
        · simp at h
          exact g3 (List.mem_map.2 ⟨x, hx, h⟩)
def attrB (l : List Attr) : Bool := decide (l.length ≤ 40) && ((l.all fun a => fitB a.Name && decide (a.Value.length ≤ 200)) && decide ((l.map (·.Name)).Nodup))
theorem table_ok {fu : Nat} {l : List Attr} (hf : l.length < fu) (hb : l.length ≤ 1000000) : Attr_table_m fu l = some (tbl l []) := by
  unfold Attr_table_m
  have key : ∀ (j i k : Nat) (m : List (Bs × Attr)), i + j = l.length → j < k → Attr_table_l1 l k ((i : Int), m) = some (tbl (l.drop i) m) := by
    intro j
    induction j with
    | zero =>
      intro i k m hi hk
      obtain ⟨k, rfl⟩ : ∃ k', k = k' + 1 := ⟨k - 1, by omega⟩
      obtain rfl : i = l.length := by omega
      simp only [Attr_table_l1]
      rw [cnd_neg (by simp), List.drop_length]; rfl
    | succ j ih =>
      intro i k m hi hk
      obtain ⟨k, rfl⟩ : ∃ k', k = k' + 1 := ⟨k - 1, by omega⟩
      have h : i < l.length := by omega
      simp only [Attr_table_l1]
      rw [cnd_pos (by simpa using h), idx_lt h, bnd_some, rng_nat (by omega), bnd_some, ih (i + 1) k _ (by omega) (by omega), List.drop_eq_getElem_cons h]
      rfl
  simpa using key l.length 0 fu [] (by omega) hf
theorem containsAttr_ok {fu : Nat} {t : Attr → Option Bool} {p : Attr → Bool} {l : List Attr} (ht : ∀ x ∈ l, t x = some (p x)) (hf : l.length < fu) (hb : l.length ≤ 1000000) : Slices_ContainsFunc_apiAttr_m fu t l = some (l.any p) := by
  unfold Slices_ContainsFunc_apiAttr_m Slices_IndexFunc_apiAttr_m
  obtain ⟨r, h1, h2⟩ := up_index (L := Slices_IndexFunc_apiAttr_l1 t l) l p (fun i hi k => by
    simp only [Slices_IndexFunc_apiAttr_l1]
    rw [cnd_pos (by simpa using hi), idx_lt hi, bnd_some, ht _ (List.getElem_mem hi), bnd_some, rng_nat (by omega), bnd_some]
    cases p l[i] <;> rfl) (fun k => by simp only [Slices_IndexFunc_apiAttr_l1]; rw [cnd_neg (by simp)]) hf
  rw [h1, bnd_some, h2]
theorem attr1_ok {fu : Nat} {a : Attr} (hfu : 200 < fu) : Attr_Right_1_m fu a = some (!(fitB a.Name && decide (a.Value.length ≤ 200))) := by
  unfold Attr_Right_1_m fitB
  rw [fit_ok hfu, bnd_some]
  have e : decide (((a.Value.length : Nat) : Int) > 200) = !(decide (a.Value.length ≤ 200)) := by
    by_cases h : a.Value.length ≤ 200
    · rw [decide_eq_true h, decide_eq_false (by omega)]; rfl
    · rw [decide_eq_false h, decide_eq_true (by omega)]; rfl
  rw [e]
  cases rightB a.Name
  · rfl
  · simp only [if_true, Bool.true_and]
    cases a.Name.map lower == a.Name <;> rfl
theorem all_not_any {α : Type} (l : List α) (p : α → Bool) : (!(l.any fun x => !(p x))) = l.all p := by
  rw [List.all_eq_not_any_not]
theorem attrRight_ok {fu : Nat} {l : List Attr} (hfu : 200 < fu) : Attr_Right_m fu l = some (attrB l) := by
  unfold Attr_Right_m attrB
  rw [show decide (((l.length : Nat) : Int) ≤ 40) = decide (l.length ≤ 40) from decide_eq_decide.2 (by omega)]
  by_cases h : l.length ≤ 40
  · rw [decide_eq_true h, cnd_true, containsAttr_ok (p := fun a => !(fitB a.Name && decide (a.Value.length ≤ 200))) (fun a _ => attr1_ok hfu) (by omega) (by omega), bnd_some, table_ok (by omega) (by omega), bnd_some, all_not_any, Bool.true_and]
    have e : ((((tbl l []).length : Nat) : Int) == ((l.length : Nat) : Int)) = decide ((l.map (·.Name)).Nodup) := by
      have := tbl_len l [] (by simp)
      simp only [List.length_nil, Nat.zero_add, List.map_nil, List.not_mem_nil, not_false_eq_true, implies_true, and_true] at this
      rw [Bool.eq_iff_iff, beq_iff_eq, decide_eq_true_eq, ← this.2]
      omega
    rw [e]
    cases l.all fun a => fitB a.Name && decide (a.Value.length ≤ 200) <;> rfl
  · rw [decide_eq_false h]; rfl

/-! ## Nodes -/
def namedB (x : Node) : Bool :=
  if x.Kind = 1 then fitB x.Name && ((x.Is == [] || customB x.Is) && (x.Data == [] && attrB x.Attrs))
  else if x.Kind = 2 then decide (x.Data.length ≤ 200) && (x.Name == [] && (x.Is == [] && decide (x.Attrs.length = 0)))
  else if x.Kind = 0 ∨ x.Kind = 3 ∨ x.Kind = 4 then x.Name == [] && (x.Is == [] && (x.Data == [] && decide (x.Attrs.length = 0)))
  else false
theorem len0 (l : List Attr) : ((((l.length : Nat) : Int)) == 0) = decide (l.length = 0) := by
  rw [Bool.eq_iff_iff, beq_iff_eq, decide_eq_true_eq]; omega
theorem named_j1 (x : Node) (c : Bs) : Forest_named_j1 x c = some (x.Name == [] && (x.Is == [] && (c == [] && decide (x.Attrs.length = 0)))) := by
  unfold Forest_named_j1
  rw [len0]
  cases x.Name == ([] : Bs) <;> cases x.Is == ([] : Bs) <;> cases c == ([] : Bs) <;> rfl
theorem named_m_ok {fu : Nat} {x : Node} (hfu : 200 < fu) : Forest_named_m fu x = some (namedB x) := by
  unfold Forest_named_m namedB
  simp only [fit_ok hfu, attrRight_ok hfu, ncustom_ok hfu, bnd_some, named_j1, cnd_eq, cnd_dec]
  by_cases h1 : x.Kind = 1
  · simp only [if_pos h1]
    unfold fitB
    cases hr : rightB x.Name
    · simp
    · simp only [if_true, Bool.true_and]
      by_cases h2 : x.Name.map lower = x.Name
      · have e2 : (x.Name.map lower == x.Name) = true := by simp [h2]
        simp only [if_pos h2, e2, Bool.true_and]
        by_cases h3 : x.Is = []
        · simp only [h3]
          by_cases h4 : x.Data = []
          · simp [h4]
          · simp [h4]
        · have e3 : (x.Is == ([] : Bs)) = false := by simpa using h3
          simp only [if_neg h3, e3, Bool.false_or]
          cases customB x.Is
          · rfl
          · by_cases h4 : x.Data = []
            · simp [h4]
            · simp [h4]
      · have e2 : (x.Name.map lower == x.Name) = false := by simpa using h2
        simp only [if_neg h2, e2, Bool.false_and]
  · simp only [if_neg h1]
    by_cases h2 : x.Kind = 2
    · simp only [if_pos h2]
      by_cases h3 : x.Data.length ≤ 200
      · rw [if_neg (by omega), decide_eq_true h3]
        simp
      · rw [if_pos (by omega), decide_eq_false h3]; rfl
    · simp only [if_neg h2]
      by_cases h3 : x.Kind = 0
      · simp [h3]
      · by_cases h4 : x.Kind = 3
        · simp [h4]
        · by_cases h5 : x.Kind = 4
          · simp [h5]
          · simp [h3, h4, h5]

def isB (ns : List Node) (n k : Int) : Bool := match idx ns n with | some y => y.Kind == k | none => false
def ownedB (ns : List Node) (n : Int) (x : Node) : Bool := isB ns x.Doc 0 && (x.Kind != 0 || x.Doc == n)
def holderB (k : Int) : Bool := k == 0 || (k == 1 || (k == 3 || k == 4))
def hungB (ns : List Node) (n : Int) (x : Node) : Bool := x.Parent == -1 || ((x.Kind == 1 || x.Kind == 2) && (match idx ns x.Parent with | some p => holderB p.Kind && p.Kids.contains n | none => false))
def kidB (ns : List Node) (n : Int) (x : Node) (k : Int) : Bool := match idx ns k with | some y => y.Parent == n && (y.Doc == x.Doc && (y.Kind == 1 || (y.Kind == 2 && x.Kind != 0))) | none => false
def elemsOf (ns : List Node) (l : List Int) : Nat := l.countP fun k => isB ns k 1
def bearsB (ns : List Node) (n : Int) (x : Node) : Bool := decide x.Kids.Nodup && ((x.Kids.all (kidB ns n x)) && ((holderB x.Kind || decide (x.Kids.length = 0)) && (x.Kind != 0 || decide (elemsOf ns x.Kids ≤ 1))))
def hostB (ns : List Node) (n : Int) (x : Node) : Bool := if x.Kind = 4 then (match idx ns x.Host with | some h => h.Kind == 1 && (h.Under == n && h.Doc == x.Doc) | none => false) else x.Host == -1
def underB (ns : List Node) (n : Int) (x : Node) : Bool := x.Under == -1 || (x.Kind == 1 && (match idx ns x.Under with | some u => u.Kind == 4 && u.Host == n | none => false))
def upI (ns : List Node) (n : Int) : Int := match idx ns n with | some x => if x.Parent = -1 then x.Host else x.Parent | none => -1
def climbB (ns : List Node) : Nat → Int → Bool
  | 0, _ => false
  | k + 1, n => upI ns n == -1 || climbB ns k (upI ns n)
def nodeB (ns : List Node) (n : Int) (x : Node) : Bool := namedB x && (ownedB ns n x && (hungB ns n x && (bearsB ns n x && (hostB ns n x && underB ns n x))))
def nodesB (ns : List Node) : Bool := (List.range ns.length).all fun i => match ns[i]? with | some x => nodeB ns (i : Int) x | none => true
def endsB (ns : List Node) : Bool := (List.range ns.length).all fun i => climbB ns ns.length (i : Int)
def frightB (f : Forest) : Bool := decide (1 ≤ f.Most) && (decide (f.Most ≤ 400) && (decide (1 ≤ f.Nodes.length) && (decide ((f.Nodes.length : Int) ≤ f.Most) && (isB f.Nodes 0 0 && (nodesB f.Nodes && endsB f.Nodes)))))

theorem idx_none {α : Type} {l : List α} {n : Int} (h : ¬ (0 ≤ n ∧ n < l.length)) : idx l n = none := by
  unfold idx
  by_cases h0 : 0 ≤ n
  · rw [if_pos h0, List.getElem?_eq_none (by omega)]
  · rw [if_neg h0]
theorem idx_some {α : Type} {l : List α} {n : Int} (h : 0 ≤ n ∧ n < l.length) : ∃ x, idx l n = some x := by
  unfold idx
  rw [if_pos h.1]
  exact ⟨_, List.getElem?_eq_getElem (by omega)⟩
theorem idx_range {α : Type} {l : List α} {n : Int} {x : α} (h : idx l n = some x) : 0 ≤ n ∧ n < l.length := by
  by_cases h' : 0 ≤ n ∧ n < l.length
  · exact h'
  · rw [idx_none h'] at h; cases h
theorem there_ok (fu : Nat) (v : Forest_view) (n : Int) : Forest_view_there_m fu v n = some (decide (0 ≤ n ∧ n < v.Forest.Nodes.length)) := by
  unfold Forest_view_there_m
  rw [cnd_dec]
  by_cases h : n ≥ 0
  · rw [if_pos h]; congr 1; exact decide_eq_decide.2 ⟨fun h' => ⟨h, h'⟩, fun h' => h'.2⟩
  · rw [if_neg h, decide_eq_false (by omega)]
theorem is_ok (fu : Nat) (v : Forest_view) (n k : Int) : Forest_view_is_m fu v n k = some (isB v.Forest.Nodes n k) := by
  unfold Forest_view_is_m isB
  rw [there_ok, bnd_some, cnd_dec]
  by_cases h : 0 ≤ n ∧ n < v.Forest.Nodes.length
  · obtain ⟨x, hx⟩ := idx_some h
    rw [if_pos h, hx]; rfl
  · rw [if_neg h, idx_none h]
theorem owned_ok {fu : Nat} {v : Forest_view} {n : Int} {x : Node} (hx : idx v.Forest.Nodes n = some x) : Forest_view_owned_m fu v n = some (ownedB v.Forest.Nodes n x) := by
  unfold Forest_view_owned_m ownedB
  rw [hx, bnd_some, is_ok, bnd_some]
  cases isB v.Forest.Nodes x.Doc 0
  · rfl
  · cases x.Kind != 0 <;> rfl
theorem holder_ok (fu : Nat) (k : Int) : Forest_holder_m fu k = some (holderB k) := by
  unfold Forest_holder_m holderB
  simp only [cnd_eq]
  by_cases h1 : k = 0
  · simp [h1]
  by_cases h2 : k = 1
  · simp [h2]
  by_cases h3 : k = 3
  · simp [h3]
  by_cases h4 : k = 4
  · simp [h4]
  simp [h1, h2, h3, h4]
theorem containsInt_ok {fu : Nat} {l : List Int} {n : Int} (hf : l.length < fu) (hb : l.length ≤ 1000000) : Slices_Contains_int_m fu l n = some (l.contains n) := by
  unfold Slices_Contains_int_m Slices_Index_int_m
  obtain ⟨r, h1, h2⟩ := up_index (L := Slices_Index_int_l1 l n) l (fun x => n == x) (fun i hi k => by
    simp only [Slices_Index_int_l1]
    rw [cnd_pos (by simpa using hi), idx_lt hi, bnd_some, rng_nat (by omega), bnd_some]
    cases n == l[i] <;> rfl) (fun k => by simp only [Slices_Index_int_l1]; rw [cnd_neg (by simp)]) hf
  rw [h1, bnd_some, h2, List.contains_eq_any_beq]
/-- All nodes' lists are short enough. -/
def KidsFit (fu : Nat) (ns : List Node) : Prop := ∀ x ∈ ns, x.Kids.length < fu ∧ x.Kids.length ≤ 1000000
theorem idx_mem {α : Type} {l : List α} {n : Int} {x : α} (h : idx l n = some x) : x ∈ l := by
  unfold idx at h
  split at h
  · exact List.mem_of_getElem? h
  · cases h
theorem hung_ok {fu : Nat} {v : Forest_view} {n : Int} {x : Node} (hx : idx v.Forest.Nodes n = some x) (hk : KidsFit fu v.Forest.Nodes) : Forest_view_hung_m fu v n = some (hungB v.Forest.Nodes n x) := by
  have hj : ∀ b : Bool, Forest_view_hung_j1 fu v n x b = some (b && (match idx v.Forest.Nodes x.Parent with | some p => holderB p.Kind && p.Kids.contains n | none => false)) := fun b => by
    unfold Forest_view_hung_j1
    cases b
    · rfl
    · rw [cnd_true, there_ok, bnd_some, cnd_dec]
      by_cases h : 0 ≤ x.Parent ∧ x.Parent < v.Forest.Nodes.length
      · obtain ⟨p, hp⟩ := idx_some h
        have hm := hk p (idx_mem hp)
        rw [if_pos h, hp, bnd_some, holder_ok, bnd_some, bnd_some, containsInt_ok hm.1 hm.2, bnd_some]
        simp only [Bool.true_and]
        cases holderB p.Kind <;> rfl
      · rw [if_neg h, idx_none h]; rfl
  unfold Forest_view_hung_m hungB
  rw [hx, bnd_some, hj, hj, cnd_eq, cnd_eq]
  by_cases h1 : x.Parent = -1
  · simp [h1]
  · rw [if_neg h1]
    have e1 : (x.Parent == -1) = false := by simpa using h1
    rw [e1]
    by_cases h2 : x.Kind = 1
    · rw [if_pos h2, h2]; rfl
    · have e2 : (x.Kind == 1) = false := by simpa using h2
      rw [if_neg h2, e2, Bool.false_or, Bool.false_or]
theorem shaded_ok {fu : Nat} {v : Forest_view} {n : Int} {x : Node} (hx : idx v.Forest.Nodes n = some x) : Forest_view_shaded_m fu v n = some (hostB v.Forest.Nodes n x && underB v.Forest.Nodes n x) := by
  have hj : ∀ b : Bool, Forest_view_shaded_j1 fu v n x b = some (b && underB v.Forest.Nodes n x) := fun b => by
    unfold Forest_view_shaded_j1 Forest_view_shaded_j2 underB
    rw [is_ok, bnd_some, cnd_eq, cnd_eq]
    by_cases h1 : x.Under = -1
    · simp [h1]; cases b <;> rfl
    · rw [if_neg h1]
      have e1 : (x.Under == -1) = false := by simpa using h1
      rw [e1]
      by_cases h2 : x.Kind = 1
      · simp only [h2, beq_self_eq_true, Bool.true_and, Bool.false_or]
        unfold isB
        by_cases h3 : 0 ≤ x.Under ∧ x.Under < v.Forest.Nodes.length
        · obtain ⟨u, hu⟩ := idx_some h3
          rw [hu]
          simp only [bnd_some]
          cases b <;> cases u.Kind == 4 <;> rfl
        · rw [idx_none h3]; cases b <;> rfl
      · have e2 : (x.Kind == 1) = false := by simpa using h2
        simp only [if_neg h2, e2, Bool.false_and, Bool.false_or, Bool.and_false]
        cases b <;> rfl
  unfold Forest_view_shaded_m hostB
  rw [hx, bnd_some, is_ok, bnd_some]
  simp only [hj, cnd_eq]
  by_cases h1 : x.Kind = 4
  · rw [if_pos h1, if_pos h1]
    unfold isB
    by_cases h3 : 0 ≤ x.Host ∧ x.Host < v.Forest.Nodes.length
    · obtain ⟨u, hu⟩ := idx_some h3
      rw [hu]
      simp only [bnd_some]
      cases u.Kind == 1
      · rfl
      · by_cases h4 : u.Under = n
        · simp [h4]
        · simp [h4]
    · rw [idx_none h3]; rfl
  · rw [if_neg h1, if_neg h1]
theorem mget_zero {l : List (Int × Int)} {k : Int} (hpos : ∀ p ∈ l, 0 < p.2) : mget l k 0 > 0 ↔ k ∈ l.map (·.1) := by
  unfold mget
  have hnone : ∀ (l : List (Int × Int)), mfind l k = none → k ∉ l.map (·.1) := by
    intro l
    induction l with
    | nil => intro _; simp
    | cons x l ih =>
      intro h
      simp only [mfind] at h
      split at h
      · cases h
      · rename_i hne
        simp only [List.map_cons, List.mem_cons, not_or]
        exact ⟨fun e => hne e.symm, ih (Option.map_eq_none_iff.1 h)⟩
  cases h : mfind l k with
  | none => simp only [Int.lt_irrefl, gt_iff_lt, false_iff]; exact hnone l h
  | some j =>
    obtain ⟨v, hv⟩ := mfind_lt h
    simp only [hv, Option.elim_some]
    exact ⟨fun _ => List.mem_map.2 ⟨_, List.mem_of_getElem? hv, rfl⟩, fun _ => hpos _ (List.mem_of_getElem? hv)⟩

theorem mput_mem {l : List (Int × Int)} {k v : Int} {p : Int × Int} (h : p ∈ mput l k v) : p ∈ l ∨ p = (k, v) := by
  unfold mput at h
  split at h
  · rcases List.mem_or_eq_of_mem_set h with h | h
    · exact .inl h
    · exact .inr h
  · simpa using h
theorem elems_succ (ns : List Node) {l : List Int} {i : Nat} (h : i < l.length) : elemsOf ns (l.take (i + 1)) = elemsOf ns (l.take i) + (if isB ns l[i] 1 then 1 else 0) := by
  unfold elemsOf
  rw [List.take_succ_eq_append_getElem h, List.countP_append]
  simp [List.countP_cons]
theorem elems_le (ns : List Node) (l : List Int) : elemsOf ns l ≤ l.length := List.countP_le_length
theorem bears_ok {fu : Nat} {v : Forest_view} {n : Int} {x : Node} (hx : idx v.Forest.Nodes n = some x) (hf : x.Kids.length < fu) (hb : x.Kids.length ≤ 1000000) : Forest_view_bears_m fu v n = some (bearsB v.Forest.Nodes n x) := by
  unfold Forest_view_bears_m
  rw [hx, bnd_some]
  let ns := v.Forest.Nodes
  have no1 : ∀ (i : Nat) (h : i < x.Kids.length), kidB ns n x x.Kids[i] = false → bearsB ns n x = false := fun i h hk => by
    unfold bearsB
    have : x.Kids.all (kidB ns n x) = false := by
      rw [List.all_eq_false]
      exact ⟨_, List.getElem_mem h, by rw [hk]; simp⟩
    rw [this]; simp
  refine up (L := Forest_view_bears_l1 fu v n x) (Inv := fun i y => ∃ seen : List (Int × Int), y = (((elemsOf ns (x.Kids.take i) : Nat) : Int), (i : Int), seen) ∧ (∀ k, k ∈ seen.map (·.1) ↔ k ∈ x.Kids.take i) ∧ (∀ p ∈ seen, p.2 = 1) ∧ (x.Kids.take i).Nodup ∧ (x.Kids.take i).all (kidB ns n x) = true) (Fin := fun r => r = some (bearsB ns n x)) x.Kids.length (fun i y hi ⟨seen, hy, h1, h2, h3, h4⟩ => ?_) (fun y ⟨seen, hy, h1, h2, h3, h4⟩ => ?_) (i := 0) ⟨[], rfl, by simp, by simp, by simp, by simp⟩ (Nat.zero_le _) (by omega)
  · subst hy
    have hn : rng .i64 ((i : Int) + 1) = some ((i + 1 : Nat) : Int) := rng_nat (by omega)
    have hle := elems_le ns (x.Kids.take i)
    have hlt : (x.Kids.take i).length ≤ i := by simp; omega
    have hn2 : rng .i64 (((elemsOf ns (x.Kids.take i) : Nat) : Int) + 1) = some ((elemsOf ns (x.Kids.take i) + 1 : Nat) : Int) := rng_nat (by omega)
    have hpos : ∀ p ∈ seen, 0 < p.2 := fun p hp => by rw [h2 p hp]; decide
    have hm := mget_zero (k := x.Kids[i]) hpos
    have body : ∀ k, Forest_view_bears_l1 fu v n x (k + 1) (((elemsOf ns (x.Kids.take i) : Nat) : Int), (i : Int), seen) =
        if 0 ≤ x.Kids[i] ∧ x.Kids[i] < v.Forest.Nodes.length then (if mget seen x.Kids[i] 0 > 0 then some false else bnd (idx v.Forest.Nodes x.Kids[i]) fun y => if y.Parent = n then (if y.Doc = x.Doc then bnd (rng .i64 (mget seen x.Kids[i] 0 + 1)) fun i11 =>
          (if y.Kind = 1 then Forest_view_bears_l1 fu v n x k (((elemsOf ns (x.Kids.take i) + 1 : Nat) : Int), ((i + 1 : Nat) : Int), mput seen x.Kids[i] i11) else if y.Kind = 2 then (if x.Kind = 0 then some false else Forest_view_bears_l1 fu v n x k (((elemsOf ns (x.Kids.take i) : Nat) : Int), ((i + 1 : Nat) : Int), mput seen x.Kids[i] i11)) else some false) else some false) else some false) else some false := fun k => by
      simp only [Forest_view_bears_l1]
      rw [cnd_pos (by simpa using hi), idx_lt hi, bnd_some, there_ok, bnd_some]
      cases hy : idx v.Forest.Nodes x.Kids[i] with
      | none => simp only [cnd_not, cnd_dec, bnd_none]
      | some y => simp only [cnd_not, cnd_dec, cnd_ne, cnd_eq, bnd_some, hn, hn2]
    have bad : kidB ns n x x.Kids[i] = false → bearsB ns n x = false := no1 i hi
    by_cases hth : 0 ≤ x.Kids[i] ∧ x.Kids[i] < v.Forest.Nodes.length
    case neg =>
      refine .inl ⟨some false, ?_, fun k => by rw [body, if_neg hth]⟩
      rw [bad]
      unfold kidB
      rw [show idx ns x.Kids[i] = none from idx_none hth]
    case pos =>
      by_cases hsn : mget seen x.Kids[i] 0 > 0
      case pos =>
        refine .inl ⟨some false, ?_, fun k => by rw [body, if_pos hth, if_pos hsn]⟩
        have hmem := (h1 _).1 (hm.1 hsn)
        have : ¬ x.Kids.Nodup := fun hnd => by
          rw [← List.take_append_drop i x.Kids, List.nodup_append] at hnd
          exact hnd.2.2 _ hmem _ (by rw [List.drop_eq_getElem_cons hi]; exact List.mem_cons_self) rfl
        unfold bearsB
        rw [decide_eq_false this]; rfl
      case neg =>
        have hnk : x.Kids[i] ∉ x.Kids.take i := fun h => hsn (hm.2 ((h1 _).2 h))
        have h0 : mget seen x.Kids[i] 0 = 0 := by
          unfold mget
          cases hj : mfind seen x.Kids[i] with
          | none => rfl
          | some j =>
            obtain ⟨v0, hv⟩ := mfind_lt hj
            exact absurd ((h1 _).1 (List.mem_map.2 ⟨_, List.mem_of_getElem? hv, rfl⟩)) hnk
        obtain ⟨y, hy⟩ := idx_some hth
        have hisB : isB ns x.Kids[i] 1 = (y.Kind == 1) := by unfold isB; rw [show idx ns x.Kids[i] = some y from hy]
        have hkid : kidB ns n x x.Kids[i] = (y.Parent == n && (y.Doc == x.Doc && (y.Kind == 1 || (y.Kind == 2 && x.Kind != 0)))) := by unfold kidB; rw [show idx ns x.Kids[i] = some y from hy]
        have hr0 : rng .i64 (mget seen x.Kids[i] 0 + 1) = some 1 := by rw [h0]; exact rng64 (by decide) (by decide)
        have next : kidB ns n x x.Kids[i] = true → (∀ q, q ∈ (mput seen x.Kids[i] 1).map (·.1) ↔ q ∈ x.Kids.take (i + 1)) ∧ (∀ p ∈ mput seen x.Kids[i] 1, p.2 = 1) ∧ (x.Kids.take (i + 1)).Nodup ∧ (x.Kids.take (i + 1)).all (kidB ns n x) = true := fun hk => by
          rw [List.take_succ_eq_append_getElem hi]
          refine ⟨fun q => ?_, fun p hp => ?_, ?_, by rw [List.all_append, h4]; simp [hk]⟩
          · rcases mput_keys seen x.Kids[i] 1 with ⟨g1, _⟩ | ⟨_, g2⟩
            · exact absurd ((h1 _).1 g1) hnk
            · rw [g2, List.mem_append, List.mem_append, h1]
          · rcases mput_mem hp with hp | rfl
            · exact h2 p hp
            · rfl
          · rw [List.nodup_append]
            exact ⟨h3, by simp, fun a ha b hb => by simp at hb; subst hb; exact fun e => hnk (e ▸ ha)⟩
        by_cases hp : y.Parent = n
        case neg =>
          refine .inl ⟨some false, ?_, fun k => by rw [body, if_pos hth, if_neg hsn, hy, bnd_some, if_neg hp]⟩
          rw [bad (by rw [hkid]; simp [hp])]
        case pos =>
          by_cases hd : y.Doc = x.Doc
          case neg =>
            refine .inl ⟨some false, ?_, fun k => by rw [body, if_pos hth, if_neg hsn, hy, bnd_some, if_pos hp, if_neg hd]⟩
            rw [bad (by rw [hkid]; simp [hd])]
          case pos =>
            by_cases k1 : y.Kind = 1
            case pos =>
              have hk : kidB ns n x x.Kids[i] = true := by rw [hkid]; simp [hp, hd, k1]
              obtain ⟨g1, g2, g3, g4⟩ := next hk
              refine .inr ⟨_, ⟨_, rfl, g1, g2, g3, g4⟩, fun k => ?_⟩
              rw [body, if_pos hth, if_neg hsn, hy, bnd_some, if_pos hp, if_pos hd, hr0, bnd_some, if_pos k1, elems_succ ns hi, hisB]
              simp [k1]
            case neg =>
              by_cases k2 : y.Kind = 2
              case neg =>
                refine .inl ⟨some false, ?_, fun k => by rw [body, if_pos hth, if_neg hsn, hy, bnd_some, if_pos hp, if_pos hd, hr0, bnd_some, if_neg k1, if_neg k2]⟩
                rw [bad (by rw [hkid]; simp [k1, k2])]
              case pos =>
                by_cases k3 : x.Kind = 0
                case pos =>
                  refine .inl ⟨some false, ?_, fun k => by rw [body, if_pos hth, if_neg hsn, hy, bnd_some, if_pos hp, if_pos hd, hr0, bnd_some, if_neg k1, if_pos k2, if_pos k3]⟩
                  rw [bad (by rw [hkid]; simp [k2, k3])]
                case neg =>
                  have hk : kidB ns n x x.Kids[i] = true := by rw [hkid]; simp [hp, hd, k2, k3]
                  obtain ⟨g1, g2, g3, g4⟩ := next hk
                  refine .inr ⟨_, ⟨_, rfl, g1, g2, g3, g4⟩, fun k => ?_⟩
                  rw [body, if_pos hth, if_neg hsn, hy, bnd_some, if_pos hp, if_pos hd, hr0, bnd_some, if_neg k1, if_pos k2, if_neg k3, elems_succ ns hi, hisB]
                  simp [k1]
  · subst hy
    rw [List.take_length] at h3 h4 ⊢
    refine ⟨some (bearsB ns n x), rfl, fun k => ?_⟩
    simp only [Forest_view_bears_l1]
    rw [cnd_neg (by simp), holder_ok, bnd_some]
    unfold bearsB
    rw [decide_eq_true h3, h4, Bool.true_and, Bool.true_and]
    have e1 : ((((x.Kids.length : Nat) : Int)) == 0) = decide (x.Kids.length = 0) := by rw [Bool.eq_iff_iff, beq_iff_eq, decide_eq_true_eq]; omega
    have e2 : decide (((elemsOf ns x.Kids : Nat) : Int) ≤ 1) = decide (elemsOf ns x.Kids ≤ 1) := decide_eq_decide.2 (by omega)
    rw [e1, e2]
    cases holderB x.Kind <;> cases decide (x.Kids.length = 0) <;> cases x.Kind != 0 <;> rfl

/-! ## The way up -/
/-- Whoever is named is there. -/
def Ups (ns : List Node) : Prop := ∀ (n : Int) (x : Node), idx ns n = some x → upI ns n = -1 ∨ ∃ y, idx ns (upI ns n) = some y
theorem up_ok {fu : Nat} {v : Forest_view} {n : Int} {x : Node} (hx : idx v.Forest.Nodes n = some x) : Forest_view_up_m fu v n = some (upI v.Forest.Nodes n) := by
  unfold Forest_view_up_m upI
  rw [hx, bnd_some, cnd_ne, bnd_some]
  simp only
  split <;> rfl
theorem ends_ok {fu : Nat} {v : Forest_view} (hu : Ups v.Forest.Nodes) (hb : v.Forest.Nodes.length ≤ 1000000) : ∀ (j t k : Nat) (n : Int) (x : Node), t + j = v.Forest.Nodes.length → j < k → idx v.Forest.Nodes n = some x → Forest_view_ends_l1 fu v k (n, (t : Int)) = some (climbB v.Forest.Nodes j n) := by
  intro j
  induction j with
  | zero =>
    intro t k n x ht hk hx
    obtain ⟨k, rfl⟩ : ∃ k', k = k' + 1 := ⟨k - 1, by omega⟩
    simp only [Forest_view_ends_l1]
    rw [cnd_neg (by simp; omega)]; rfl
  | succ j ih =>
    intro t k n x ht hk hx
    obtain ⟨k, rfl⟩ : ∃ k', k = k' + 1 := ⟨k - 1, by omega⟩
    simp only [Forest_view_ends_l1]
    rw [cnd_pos (by simp; omega), up_ok hx, bnd_some, cnd_eq, rng_nat (by omega), bnd_some]
    simp only [climbB]
    by_cases h : upI v.Forest.Nodes n = -1
    · rw [if_pos h]; simp [h]
    · rw [if_neg h]
      rcases hu n x hx with h' | ⟨y, hy⟩
      · exact absurd h' h
      · rw [ih (t + 1) k _ y (by omega) (by omega) hy]
        have : (upI v.Forest.Nodes n == -1) = false := by simpa using h
        rw [this, Bool.false_or]
theorem nodes_at {ns : List Node} (h : nodesB ns = true) {n : Int} {x : Node} (hx : idx ns n = some x) : nodeB ns n x = true := by
  unfold nodesB at h
  rw [List.all_eq_true] at h
  have hr := idx_range hx
  have := h n.toNat (by simp; omega)
  have e : ns[n.toNat]? = some x := by unfold idx at hx; rw [if_pos hr.1] at hx; exact hx
  rw [e] at this
  simpa [show ((n.toNat : Nat) : Int) = n by omega] using this
theorem nodes_ups {ns : List Node} (h : nodesB ns = true) : Ups ns := by
  intro n x hx
  have hn := nodes_at h hx
  unfold nodeB hungB hostB at hn
  simp only [Bool.and_eq_true] at hn
  obtain ⟨_, _, h3, _, h5, _⟩ := hn
  unfold upI
  rw [hx]
  simp only
  by_cases hp : x.Parent = -1
  · rw [if_pos hp]
    by_cases h4 : x.Kind = 4
    · rw [if_pos h4] at h5
      cases hh : idx ns x.Host with
      | none => rw [hh] at h5; cases h5
      | some y => exact .inr ⟨y, rfl⟩
    · rw [if_neg h4] at h5
      exact .inl (by simpa using h5)
  · rw [if_neg hp]
    have e : (x.Parent == -1) = false := by simpa using hp
    rw [e, Bool.false_or, Bool.and_eq_true] at h3
    cases hh : idx ns x.Parent with
    | none => rw [hh] at h3; simp at h3
    | some y => exact .inr ⟨y, rfl⟩
theorem vright_ok {fu : Nat} {v : Forest_view} (hfu : 1000 < fu) (hk : KidsFit fu v.Forest.Nodes) : Forest_view_right_m fu v = some (frightB v.Forest) := by
  unfold Forest_view_right_m frightB
  rw [cnd_dec, cnd_dec, cnd_dec, cnd_dec]
  by_cases h1 : v.Forest.Most < 1
  · rw [if_pos h1, decide_eq_false (show ¬ 1 ≤ v.Forest.Most by omega)]; rfl
  rw [if_neg h1, decide_eq_true (show 1 ≤ v.Forest.Most by omega)]
  by_cases h2 : v.Forest.Most > 400
  · rw [if_pos h2, decide_eq_false (show ¬ v.Forest.Most ≤ 400 by omega)]; rfl
  rw [if_neg h2, decide_eq_true (show v.Forest.Most ≤ 400 by omega)]
  by_cases h3 : ((v.Forest.Nodes.length : Nat) : Int) < 1
  · rw [if_pos h3, decide_eq_false (show ¬ 1 ≤ v.Forest.Nodes.length by omega)]; rfl
  rw [if_neg h3, decide_eq_true (show 1 ≤ v.Forest.Nodes.length by omega)]
  by_cases h4 : ((v.Forest.Nodes.length : Nat) : Int) > v.Forest.Most
  · rw [if_pos h4, decide_eq_false (show ¬ (v.Forest.Nodes.length : Int) ≤ v.Forest.Most by omega)]; rfl
  rw [if_neg h4, decide_eq_true (show (v.Forest.Nodes.length : Int) ≤ v.Forest.Most by omega)]
  obtain ⟨x0, hx0⟩ := idx_some (l := v.Forest.Nodes) (n := 0) (by omega)
  rw [hx0, bnd_some, cnd_ne]
  have e0 : isB v.Forest.Nodes 0 0 = (x0.Kind == 0) := by unfold isB; rw [hx0]
  rw [e0]
  by_cases h5 : x0.Kind = 0
  case neg =>
    rw [if_neg h5]
    have : (x0.Kind == 0) = false := by simpa using h5
    rw [this]; rfl
  rw [if_pos h5, h5]
  simp only [Bool.true_and, beq_self_eq_true]
  have l2 : nodesB v.Forest.Nodes = true → Forest_view_right_l2 fu v fu 0 = some (endsB v.Forest.Nodes) := fun hn => by
    have hu := nodes_ups hn
    refine (up_alli (L := Forest_view_right_l2 fu v) v.Forest.Nodes.length (fun i => climbB v.Forest.Nodes v.Forest.Nodes.length (i : Int)) (some true) (fun i hi k => ?_) (fun k => ?_) (by omega)).trans ?_
    · simp only [Forest_view_right_l2]
      rw [cnd_pos (by simpa using hi)]
      unfold Forest_view_ends_m
      have := ends_ok (fu := fu) hu (by omega) v.Forest.Nodes.length 0 fu (i : Int) _ (by omega) (by omega) (idx_lt hi)
      rw [show ((0 : Nat) : Int) = 0 from rfl] at this
      rw [this, bnd_some, cnd_not, rng_nat (by omega), bnd_some]
      cases climbB v.Forest.Nodes v.Forest.Nodes.length (i : Int) <;> rfl
    · simp only [Forest_view_right_l2]
      rw [cnd_neg (by simp)]
    · unfold endsB
      cases (List.range v.Forest.Nodes.length).all fun i => climbB v.Forest.Nodes v.Forest.Nodes.length (i : Int) <;> rfl
  refine (up_alli (L := Forest_view_right_l1 fu v) v.Forest.Nodes.length (fun i => match v.Forest.Nodes[i]? with | some x => nodeB v.Forest.Nodes (i : Int) x | none => true) (Forest_view_right_l2 fu v fu 0) (fun i hi k => ?_) (fun k => ?_) (by omega)).trans ?_
  · have hx := idx_lt hi
    have hkf := hk _ (idx_mem hx)
    simp only [Forest_view_right_l1]
    rw [cnd_pos (by simpa using hi), List.getElem?_eq_getElem hi]
    rw [hx, bnd_some, named_m_ok (by omega), bnd_some, owned_ok hx, bnd_some, hung_ok hx hk, bnd_some, bears_ok hx hkf.1 hkf.2, bnd_some, shaded_ok hx, bnd_some, rng_nat (by omega), bnd_some]
    unfold nodeB
    simp only [cnd_not]
    cases namedB v.Forest.Nodes[i] <;> cases ownedB v.Forest.Nodes (i : Int) v.Forest.Nodes[i] <;> cases hungB v.Forest.Nodes (i : Int) v.Forest.Nodes[i] <;> cases bearsB v.Forest.Nodes (i : Int) v.Forest.Nodes[i] <;> cases (hostB v.Forest.Nodes (i : Int) v.Forest.Nodes[i] && underB v.Forest.Nodes (i : Int) v.Forest.Nodes[i]) <;> rfl
  · simp only [Forest_view_right_l1]
    rw [cnd_neg (by simp)]
  · have e : ((List.range v.Forest.Nodes.length).all fun i => match v.Forest.Nodes[i]? with | some x => nodeB v.Forest.Nodes (i : Int) x | none => true) = nodesB v.Forest.Nodes := rfl
    rw [e]
    cases hn : nodesB v.Forest.Nodes
    · rfl
    · rw [l2 hn]; rfl
theorem fright_ok {fu : Nat} {f : Forest} (hfu : 1000 < fu) (hk : KidsFit fu f.Nodes) : Forest_Right_m fu f = some (frightB f) := by
  unfold Forest_Right_m
  rw [vright_ok (v := ⟨⟨f.Nodes, f.Most⟩⟩) hfu hk, bnd_some]
end Go.Proofs.YtkngnghbnhgfjaaGreat
/- Small facts on forests that are right. -/
namespace Go.Proofs.YtkngnghbnhgfjaaGreat
open Go Go.Pw

theorem containsFInt_ok {fu : Nat} {t : Int → Option Bool} {p : Int → Bool} {l : List Int} (ht : ∀ x ∈ l, t x = some (p x)) (hf : l.length < fu) (hb : l.length ≤ 1000000) : Slices_ContainsFunc_int_m fu t l = some (l.any p) := by
  unfold Slices_ContainsFunc_int_m Slices_IndexFunc_int_m
  obtain ⟨r, h1, h2⟩ := up_index (L := Slices_IndexFunc_int_l1 t l) l p (fun i hi k => by
    simp only [Slices_IndexFunc_int_l1]
    rw [cnd_pos (by simpa using hi), idx_lt hi, bnd_some, ht _ (List.getElem_mem hi), bnd_some, rng_nat (by omega), bnd_some]
    cases p l[i] <;> rfl) (fun k => by simp only [Slices_IndexFunc_int_l1]; rw [cnd_neg (by simp)]) hf
  rw [h1, bnd_some, h2]
def inB (f : Forest) (n : Int) : Bool := decide (0 ≤ n ∧ n < f.Nodes.length)
theorem right_parts {f : Forest} (h : frightB f = true) : 1 ≤ f.Nodes.length ∧ f.Nodes.length ≤ 400 ∧ nodesB f.Nodes = true ∧ endsB f.Nodes = true := by
  unfold frightB at h
  simp only [Bool.and_eq_true, decide_eq_true_eq] at h
  obtain ⟨h1, h2, h3, h4, h5, h6, h7⟩ := h
  exact ⟨h3, by omega, h6, h7⟩

theorem ends_at {ns : List Node} (h : endsB ns = true) {n : Int} (hn : 0 ≤ n ∧ n < ns.length) : climbB ns ns.length n = true := by
  unfold endsB at h
  rw [List.all_eq_true] at h
  have := h n.toNat (by simp; omega)
  rwa [show ((n.toNat : Nat) : Int) = n by omega] at this
theorem kids_there {ns : List Node} (hn : nodesB ns = true) {n : Int} {x : Node} (hx : idx ns n = some x) : ∀ k ∈ x.Kids, ∃ y, idx ns k = some y := by
  intro k hk
  have h := nodes_at hn hx
  unfold nodeB bearsB at h
  simp only [Bool.and_eq_true] at h
  obtain ⟨_, _, _, ⟨_, h1, _⟩, _⟩ := h
  have := List.all_eq_true.1 h1 k hk
  unfold kidB at this
  cases hy : idx ns k with
  | none => rw [hy] at this; cases this
  | some y => exact ⟨y, rfl⟩
theorem rem_ok {a : Int} {n : Nat} (ha : 0 ≤ a) (hn : 1 ≤ n) : ∃ c, remI a (n : Int) = some c ∧ 0 ≤ c ∧ c < n := by
  refine ⟨a.tmod n, if_neg (by omega), ?_⟩
  rw [Int.tmod_eq_emod_of_nonneg ha]
  exact ⟨Int.emod_nonneg _ (by omega), Int.emod_lt_of_pos _ (by omega)⟩
theorem kind_of_named {x : Node} (h : namedB x = true) : 0 ≤ x.Kind ∧ x.Kind ≤ 4 := by
  unfold namedB at h
  by_cases h1 : x.Kind = 1
  · omega
  rw [if_neg h1] at h
  by_cases h2 : x.Kind = 2
  · omega
  rw [if_neg h2] at h
  by_cases h3 : x.Kind = 0 ∨ x.Kind = 3 ∨ x.Kind = 4
  · omega
  rw [if_neg h3] at h
  cases h
theorem climbB_more {ns : List Node} : ∀ (k : Nat) (n : Int), climbB ns k n = true → climbB ns (k + 1) n = true
  | 0, _, h => by cases h
  | k + 1, n, h => by
    rw [climbB, Bool.or_eq_true] at h ⊢
    exact h.imp id fun h => climbB_more k _ h
end Go.Proofs.YtkngnghbnhgfjaaGreat
/- Trees: the way up from a node, and all that is below it. -/
namespace Go.Proofs.YtkngnghbnhgfjaaGreat
open Go Go.Pw

def InN (ns : List Node) (n : Int) : Prop := 0 ≤ n ∧ n < ns.length
def parI (ns : List Node) (n : Int) : Int := match idx ns n with | some x => x.Parent | none => -1
def kidsI (ns : List Node) (n : Int) : List Int := match idx ns n with | some x => x.Kids | none => []
def climbP (ns : List Node) : Nat → Int → Prop
  | 0, _ => False
  | k + 1, n => parI ns n = -1 ∨ climbP ns k (parI ns n)
def wayF (ns : List Node) : Nat → Int → List Int
  | 0, _ => []
  | k + 1, n => n :: (if parI ns n = -1 then [] else wayF ns k (parI ns n))
def way (ns : List Node) (n : Int) : List Int := wayF ns ns.length n
def allF (ns : List Node) : Nat → Int → List Int
  | 0, _ => []
  | k + 1, n => n :: (kidsI ns n).flatMap (allF ns k)
def allN (ns : List Node) (n : Int) : List Int := allF ns ns.length n
structure Tree (ns : List Node) : Prop where
  kid : ∀ n k, k ∈ kidsI ns n → InN ns n ∧ InN ns k ∧ parI ns k = n
  par : ∀ x, InN ns x → parI ns x ≠ -1 → InN ns (parI ns x) ∧ x ∈ kidsI ns (parI ns x)
  nod : ∀ n, (kidsI ns n).Nodup
  fin : ∀ n, InN ns n → climbP ns ns.length n

theorem tree_of {ns : List Node} (hn : nodesB ns = true) (he : endsB ns = true) : Tree ns where
  kid n k hk := by
    unfold kidsI at hk
    cases hx : idx ns n with
    | none => rw [hx] at hk; simp at hk
    | some x =>
      rw [hx] at hk
      have h := nodes_at hn hx
      unfold nodeB bearsB at h
      simp only [Bool.and_eq_true] at h
      obtain ⟨_, _, _, ⟨_, h1, _⟩, _⟩ := h
      have := List.all_eq_true.1 h1 k hk
      unfold kidB at this
      cases hy : idx ns k with
      | none => rw [hy] at this; cases this
      | some y =>
        rw [hy] at this
        simp only [Bool.and_eq_true, beq_iff_eq] at this
        refine ⟨idx_range hx, idx_range hy, ?_⟩
        unfold parI; rw [hy]; exact this.1
  par x hx hp := by
    obtain ⟨y, hy⟩ := idx_some hx
    have e : parI ns x = y.Parent := by unfold parI; rw [hy]
    rw [e] at hp ⊢
    have h := nodes_at hn hy
    unfold nodeB hungB at h
    simp only [Bool.and_eq_true] at h
    obtain ⟨_, _, h3, _⟩ := h
    have e : (y.Parent == -1) = false := by simpa using hp
    rw [e, Bool.false_or, Bool.and_eq_true] at h3
    cases hh : idx ns y.Parent with
    | none => rw [hh] at h3; simp at h3
    | some p =>
      rw [hh] at h3
      simp only [Bool.and_eq_true] at h3
      refine ⟨idx_range hh, ?_⟩
      unfold kidsI; rw [hh]
      exact List.contains_iff_mem.1 h3.2.2
  nod n := by
    unfold kidsI
    cases hx : idx ns n with
    | none => simp
    | some x =>
      have h := nodes_at hn hx
      unfold nodeB bearsB at h
      simp only [Bool.and_eq_true, decide_eq_true_eq] at h
      exact h.2.2.2.1.1
  fin n h := by
    have := ends_at he h
    revert this
    generalize ns.length = k
    clear h
    intro h
    induction k generalizing n with
    | zero => cases h
    | succ k ih =>
      simp only [climbB, Bool.or_eq_true, beq_iff_eq] at h
      simp only [climbP]
      by_cases hp : parI ns n = -1
      · exact .inl hp
      · have e : upI ns n = parI ns n := by
          unfold upI; unfold parI at hp ⊢
          cases hx : idx ns n with
          | none => rfl
          | some x => rw [hx] at hp; simp only at hp ⊢; rw [if_neg hp]
        rw [e] at h
        rcases h with h | h
        · exact absurd h hp
        · exact .inr (ih _ h)

theorem InN.pos {ns : List Node} {n : Int} (h : InN ns n) : ∃ M, ns.length = M + 1 := ⟨ns.length - 1, by unfold InN at h; omega⟩
theorem InN.ne {ns : List Node} {n : Int} (h : InN ns n) : n ≠ -1 := by unfold InN at h; omega
theorem wayF_stab {ns : List Node} : ∀ (k : Nat) (n : Int), climbP ns k n → ∀ j, k ≤ j → wayF ns j n = wayF ns k n
  | 0, _, h, _, _ => h.elim
  | k + 1, n, h, j, hj => by
    obtain ⟨j, rfl⟩ : ∃ j', j = j' + 1 := ⟨j - 1, by omega⟩
    simp only [wayF]
    by_cases hp : parI ns n = -1
    · rw [if_pos hp, if_pos hp]
    · rw [if_neg hp, if_neg hp, wayF_stab k _ (h.resolve_left hp) j (by omega)]
theorem wayF_len {ns : List Node} : ∀ (k : Nat) (n : Int), (wayF ns k n).length ≤ k
  | 0, _ => by simp [wayF]
  | k + 1, n => by
    simp only [wayF, List.length_cons]
    split
    · simp
    · have := wayF_len (ns := ns) k (parI ns n); omega
section
variable {ns : List Node} (T : Tree ns)
include T
theorem Tree.climb {n : Int} (h : InN ns n) {M : Nat} (hM : ns.length = M + 1) : parI ns n = -1 ∨ climbP ns M (parI ns n) := by
  have := T.fin n h
  rw [hM] at this
  exact this
theorem Tree.way_eq {n : Int} (h : InN ns n) : way ns n = n :: (if parI ns n = -1 then [] else way ns (parI ns n)) := by
  obtain ⟨M, hM⟩ := h.pos
  have hc := T.climb h hM
  unfold way
  rw [hM]
  simp only [wayF]
  by_cases hp : parI ns n = -1
  · rw [if_pos hp, if_pos hp]
  · rw [if_neg hp, if_neg hp]
    have := wayF_stab M _ (hc.resolve_left hp) (M + 1) (by omega)
    simp only [wayF] at this
    rw [this]
theorem Tree.up_ind {C : Int → Prop} (h : ∀ n, InN ns n → (parI ns n ≠ -1 → C (parI ns n)) → C n) : ∀ n, InN ns n → C n := by
  have key : ∀ (k : Nat) (n : Int), InN ns n → climbP ns k n → C n := by
    intro k
    induction k with
    | zero => intro n _ h; exact h.elim
    | succ k ih =>
      intro n hn hc
      exact h n hn fun hp => ih _ (T.par n hn hp).1 (hc.resolve_left hp)
  exact fun n hn => key _ n hn (T.fin n hn)
theorem Tree.way_kid {n k : Int} (hk : k ∈ kidsI ns n) : way ns k = k :: way ns n := by
  obtain ⟨h1, h2, h3⟩ := T.kid n k hk
  rw [T.way_eq h2, h3, if_neg h1.ne]
theorem Tree.way_len {n : Int} (h : InN ns n) : 1 ≤ (way ns n).length ∧ (way ns n).length ≤ ns.length := by
  refine ⟨?_, wayF_len _ _⟩
  rw [T.way_eq h]; simp
theorem Tree.down_ind {C : Int → Prop} (h : ∀ n, InN ns n → (∀ k, k ∈ kidsI ns n → C k) → C n) : ∀ n, InN ns n → C n := by
  have key : ∀ (d : Nat) (n : Int), InN ns n → ns.length < (way ns n).length + d → C n := by
    intro d
    induction d with
    | zero => intro n hn hl; have := T.way_len hn; omega
    | succ d ih =>
      intro n hn hl
      exact h n hn fun k hk => ih k (T.kid n k hk).2.1 (by rw [T.way_kid hk, List.length_cons]; omega)
  exact fun n hn => key ns.length n hn (by have := T.way_len hn; omega)
theorem Tree.allF_stab : ∀ (d : Nat) (n : Int), InN ns n → ns.length < (way ns n).length + d → ∀ j, allF ns (d + j) n = allF ns d n := by
  intro d
  induction d with
  | zero => intro n hn hl; have := T.way_len hn; omega
  | succ d ih =>
    intro n hn hl j
    rw [show d + 1 + j = d + j + 1 by omega]
    simp only [allF, List.flatMap_def]
    rw [List.map_congr_left fun k hk => ih k (T.kid n k hk).2.1 (by rw [T.way_kid hk, List.length_cons]; omega) j]
theorem Tree.all_eq {n : Int} (h : InN ns n) : allN ns n = n :: (kidsI ns n).flatMap (allN ns) := by
  obtain ⟨M, hM⟩ := h.pos
  have hs := T.allF_stab
  have hw := T.way_len h
  unfold allN
  rw [hM]
  conv => lhs; simp only [allF]
  rw [List.flatMap_def, List.flatMap_def, List.map_congr_left fun k hk => (hs M k (T.kid n k hk).2.1 (by rw [T.way_kid hk, List.length_cons]; omega) 1).symm]
theorem Tree.way_self {n : Int} (h : InN ns n) : n ∈ way ns n := by rw [T.way_eq h]; simp
theorem Tree.way_in : ∀ x, InN ns x → ∀ y ∈ way ns x, InN ns y := T.up_ind fun x hx ih y hy => by
  rw [T.way_eq hx] at hy
  rcases List.mem_cons.1 hy with rfl | hy
  · exact hx
  · split at hy
    · simp at hy
    · rename_i hp; exact ih hp y hy
theorem Tree.way_suffix : ∀ x, InN ns x → ∀ y ∈ way ns x, way ns y <:+ way ns x := T.up_ind fun x hx ih y hy => by
  have e := T.way_eq hx
  rw [e] at hy
  rcases List.mem_cons.1 hy with rfl | hy
  · exact List.suffix_refl _
  · split at hy
    · simp at hy
    · rename_i hp
      rw [e, if_neg hp]
      exact (ih hp y hy).trans (List.suffix_cons _ _)
theorem Tree.way_trans {x y z : Int} (hz : InN ns z) (h1 : x ∈ way ns y) (h2 : y ∈ way ns z) : x ∈ way ns z := (T.way_suffix z hz y h2).subset h1
theorem Tree.way_inj {x y : Int} (hx : InN ns x) (hy : InN ns y) (h : way ns x = way ns y) : x = y := by
  rw [T.way_eq hx, T.way_eq hy] at h
  exact (List.cons.inj h).1
/-- Of two that stand above a third one is above the other, or they are as deep. -/
theorem Tree.way_same {x y z : Int} (hz : InN ns z) (h1 : x ∈ way ns z) (h2 : y ∈ way ns z) (hl : (way ns x).length = (way ns y).length) : x = y :=
  T.way_inj (T.way_in z hz x h1) (T.way_in z hz y h2) ((List.suffix_of_suffix_length_le (T.way_suffix z hz x h1) (T.way_suffix z hz y h2) (by omega)).eq_of_length hl)
end
end Go.Proofs.YtkngnghbnhgfjaaGreat
/- Trees: the list of all below a node, in order. -/
namespace Go.Proofs.YtkngnghbnhgfjaaGreat
open Go Go.Pw

theorem nodup_len : ∀ (N : Nat) (l : List Int), l.Nodup → (∀ x ∈ l, 0 ≤ x ∧ x < N) → l.length ≤ N
  | 0, l, _, h => by
    cases l with
    | nil => simp
    | cons x l => have := h x (by simp); omega
  | N + 1, l, hl, h => by
    have ih := nodup_len N (l.erase (N : Int)) (hl.erase _) fun x hx => by
      rw [hl.mem_erase_iff] at hx
      have := h x hx.2
      have := hx.1
      omega
    rw [List.length_erase] at ih
    split at ih <;> omega
section
variable {ns : List Node} (T : Tree ns)
include T
theorem Tree.kid_way {n k x : Int} (hx : InN ns x) (hk : k ∈ kidsI ns n) (h : k ∈ way ns x) : n ∈ way ns x :=
  T.way_trans hx (by rw [T.way_kid hk]; exact List.mem_cons_of_mem _ (T.way_self (T.kid n k hk).1)) h
theorem Tree.all_in : ∀ n, InN ns n → ∀ x ∈ allN ns n, InN ns x ∧ n ∈ way ns x := T.down_ind fun n hn ih x hx => by
  rw [T.all_eq hn] at hx
  rcases List.mem_cons.1 hx with rfl | hx
  · exact ⟨hn, T.way_self hn⟩
  · obtain ⟨k, hk, hx⟩ := List.mem_flatMap.1 hx
    obtain ⟨h1, h2⟩ := ih k hk x hx
    exact ⟨h1, T.kid_way h1 hk h2⟩
theorem Tree.all_self {n : Int} (hn : InN ns n) : n ∈ allN ns n := by rw [T.all_eq hn]; simp
theorem Tree.all_kid : ∀ n, InN ns n → ∀ y ∈ allN ns n, ∀ k ∈ kidsI ns y, k ∈ allN ns n := T.down_ind fun n hn ih y hy k hk => by
  rw [T.all_eq hn] at hy ⊢
  rcases List.mem_cons.1 hy with rfl | hy
  · exact List.mem_cons_of_mem _ (List.mem_flatMap.2 ⟨k, hk, T.all_self (T.kid _ k hk).2.1⟩)
  · obtain ⟨k', hk', hy⟩ := List.mem_flatMap.1 hy
    exact List.mem_cons_of_mem _ (List.mem_flatMap.2 ⟨k', hk', ih k' hk' y hy k hk⟩)
theorem Tree.mem_all {n : Int} (hn : InN ns n) : ∀ x, InN ns x → n ∈ way ns x → x ∈ allN ns n := T.up_ind fun x hx ih h => by
  have h' := h
  rw [T.way_eq hx] at h'
  rcases List.mem_cons.1 h' with rfl | h'
  · exact T.all_self hn
  · split at h'
    · simp at h'
    · rename_i hp
      exact T.all_kid n hn _ (ih hp h') x (T.par x hx hp).2
theorem Tree.kids_disj {n k k' x : Int} (hk : k ∈ kidsI ns n) (hk' : k' ∈ kidsI ns n) (h : x ∈ allN ns k) (h' : x ∈ allN ns k') : k = k' := by
  have h1 := T.all_in k (T.kid n k hk).2.1 x h
  have h2 := T.all_in k' (T.kid n k' hk').2.1 x h'
  exact T.way_same h1.1 h1.2 h2.2 (by rw [T.way_kid hk, T.way_kid hk']; simp)
theorem Tree.all_nodup : ∀ n, InN ns n → (allN ns n).Nodup := T.down_ind fun n hn ih => by
  rw [T.all_eq hn, List.nodup_cons]
  refine ⟨fun h => ?_, ?_⟩
  · obtain ⟨k, hk, h⟩ := List.mem_flatMap.1 h
    have h1 := (T.all_in k (T.kid n k hk).2.1 n h).2
    have h2 := T.way_suffix n hn k h1
    rw [T.way_kid hk] at h2
    have := h2.length_le
    simp at this
    omega
  · rw [List.Nodup, List.pairwise_flatMap]
    refine ⟨fun k hk => ih k hk, ?_⟩
    refine (T.nod n).imp_of_mem fun hk hk' hne x hx y hy e => ?_
    subst e
    exact hne (T.kids_disj hk hk' hx hy)
theorem Tree.all_len {n : Int} (hn : InN ns n) : (allN ns n).length ≤ ns.length := nodup_len _ _ (T.all_nodup n hn) fun x hx => (T.all_in n hn x hx).1
/-- A parent stands ahead of its child; between them stand others below it. -/
theorem Tree.between : ∀ n, InN ns n → ∀ c ∈ allN ns n, c ≠ n → ∃ A B C, allN ns n = A ++ parI ns c :: (B ++ c :: C) ∧ ∀ b ∈ B, InN ns b ∧ parI ns c ∈ way ns b ∧ c ∉ way ns b := T.down_ind fun n hn ih c hc hne => by
  have e := T.all_eq hn
  rw [e] at hc
  obtain ⟨k, hk, hc⟩ := List.mem_flatMap.1 ((List.mem_cons.1 hc).resolve_left hne)
  obtain ⟨K1, K2, hK⟩ := List.append_of_mem hk
  rw [hK, List.flatMap_append, List.flatMap_cons] at e
  by_cases hck : c = k
  · subst hck
    have hkc := T.kid n c hk
    rw [T.all_eq hkc.2.1] at e
    rw [hkc.2.2]
    refine ⟨[], K1.flatMap (allN ns), (kidsI ns c).flatMap (allN ns) ++ K2.flatMap (allN ns), by rw [e]; simp, fun b hb => ?_⟩
    obtain ⟨k1, hk1, hb⟩ := List.mem_flatMap.1 hb
    have hk1' : k1 ∈ kidsI ns n := by rw [hK]; simp [hk1]
    have hb' := T.all_in k1 (T.kid n k1 hk1').2.1 b hb
    refine ⟨hb'.1, T.kid_way hb'.1 hk1' hb'.2, fun h => ?_⟩
    have hb2 := T.mem_all hkc.2.1 b hb'.1 h
    have he := T.kids_disj hk1' hk hb hb2
    subst he
    have hd := T.nod n
    rw [hK, List.nodup_append] at hd
    exact hd.2.2 k1 hk1 k1 (by simp) rfl
  · obtain ⟨A, B, C, e2, hB⟩ := ih k hk c hc hck
    rw [e2] at e
    exact ⟨n :: (K1.flatMap (allN ns) ++ A), B, C ++ K2.flatMap (allN ns), by rw [e]; simp, hB⟩
end
end Go.Proofs.YtkngnghbnhgfjaaGreat
/- What the models of forest.Root, Holds, Order, Place, Ahead, and of the document's own, come to. -/
namespace Go.Proofs.YtkngnghbnhgfjaaGreat
open Go Go.Pw

/-! ## Lists -/
/-! ## Trees -/
theorem par_at {ns : List Node} {n : Int} {x : Node} (h : idx ns n = some x) : parI ns n = x.Parent := by unfold parI; rw [h]
theorem kids_at {ns : List Node} {n : Int} {x : Node} (h : idx ns n = some x) : kidsI ns n = x.Kids := by unfold kidsI; rw [h]
/-- Forests as the laws look at them. -/
structure Small (f : Forest) : Prop where
  few : f.Nodes.length ≤ 100
  kids : ∀ x ∈ f.Nodes, x.Kids.length ≤ 60
  attrs : ∀ x ∈ f.Nodes, x.Attrs.length ≤ 60
  name : ∀ x ∈ f.Nodes, x.Name.length ≤ 300
theorem Small.fit {f : Forest} (h : Small f) {fu : Nat} (hfu : 1000 < fu) : KidsFit fu f.Nodes := fun x hx => by have := h.kids x hx; omega
theorem short_small60 {fu : Nat} {f : Forest} (hfu : 1000 < fu) : ∃ r, Instarref03_Short_m fu f = some r ∧ (r = true → Small f ∧ f.Nodes.length ≤ 60) := by
  unfold Instarref03_Short_m
  rw [cnd_dec]
  by_cases h : f.Nodes.length ≤ 60
  · rw [if_neg (by omega)]
    refine ⟨f.Nodes.all fun n => decide (n.Kids.length ≤ 60) && (decide (n.Attrs.length ≤ 60) && decide (n.Name.length ≤ 300)), (up_all (L := Instarref03_Short_l1 f) f.Nodes (fun n => decide (n.Kids.length ≤ 60) && (decide (n.Attrs.length ≤ 60) && decide (n.Name.length ≤ 300))) (some true) (fun i hi k => ?_) (fun k => ?_) (by omega)).trans ?_, fun hr => ?_⟩
    · simp only [Instarref03_Short_l1]
      rw [cnd_pos (by simpa using hi), idx_lt hi, bnd_some, bnd_some, bnd_some, rng_nat (by omega), bnd_some, cnd_dec, cnd_dec, cnd_dec]
      generalize f.Nodes[i] = n
      by_cases h1 : n.Kids.length ≤ 60
      · by_cases h2 : n.Attrs.length ≤ 60
        · by_cases h3 : n.Name.length ≤ 300
          · rw [if_neg (by omega), if_neg (by omega), if_neg (by omega)]; simp [h1, h2, h3]
          · rw [if_neg (by omega), if_neg (by omega), if_pos (by omega)]; simp [h3]
        · rw [if_neg (by omega), if_pos (by omega)]; simp [h2]
      · rw [if_pos (by omega)]; simp [h1]
    · simp only [Instarref03_Short_l1]
      rw [cnd_neg (by simp)]
    · cases f.Nodes.all fun n => decide (n.Kids.length ≤ 60) && (decide (n.Attrs.length ≤ 60) && decide (n.Name.length ≤ 300)) <;> rfl
    · have key : ∀ n ∈ f.Nodes, n.Kids.length ≤ 60 ∧ n.Attrs.length ≤ 60 ∧ n.Name.length ≤ 300 := fun n hn => by
        have := List.all_eq_true.1 hr n hn
        simpa only [Bool.and_eq_true, decide_eq_true_eq] using this
      exact ⟨⟨by omega, fun x hx => (key x hx).1, fun x hx => (key x hx).2.1, fun x hx => (key x hx).2.2⟩, h⟩
  · rw [if_pos (by omega)]; exact ⟨false, rfl, by simp⟩
theorem asked_ok {fu : Nat} {f : Forest} {l : List Int} (hfu : 1000 < fu) (hk : KidsFit fu f.Nodes) (hl : l.length ≤ 1000) : Forest_asked_m fu f l = some (frightB f && l.all (inB f)) := by
  unfold Forest_asked_m
  rw [vright_ok (v := ⟨⟨f.Nodes, f.Most⟩⟩) hfu hk, bnd_some]
  cases frightB f with
  | false => rfl
  | true =>
    rw [cnd_true, containsFInt_ok (p := fun n => !(inB f n)) (fun n _ => by unfold Forest_asked_1_m; rw [there_ok, bnd_some]; rfl) (by omega) (by omega), bnd_some, all_not_any]
    rfl
theorem inB_of {f : Forest} {n : Int} (h : InN f.Nodes n) : inB f n = true := decide_eq_true h
theorem asked1 {fu : Nat} {f : Forest} {n : Int} (hfu : 1000 < fu) (hk : KidsFit fu f.Nodes) (hr : frightB f = true) (h : InN f.Nodes n) : Forest_asked_m fu f [n] = some true := by
  rw [asked_ok hfu hk (by simp), hr]; simp [inB_of h]
theorem right_tree {f : Forest} (hr : frightB f = true) : Tree f.Nodes := by
  obtain ⟨_, _, h1, h2⟩ := right_parts hr
  exact tree_of h1 h2

section
variable {f : Forest} (T : Tree f.Nodes)
include T
theorem order_l (K : Nat) : ∀ (st out : List Int), (∀ x ∈ st, InN f.Nodes x) → (st.flatMap (allN f.Nodes)).length < K → out.length + (st.flatMap (allN f.Nodes)).length ≤ 1000000 → Forest_Order_l1 f K (out, st) = some (out ++ st.reverse.flatMap (allN f.Nodes)) := by
  induction K with
  | zero => intro _ _ _ h; omega
  | succ K ih =>
    intro st out hst hlt hb
    have stlen : ∀ l : List Int, (∀ x ∈ l, InN f.Nodes x) → l.length ≤ (l.flatMap (allN f.Nodes)).length := by
      intro l
      induction l with
      | nil => intro _; simp
      | cons x l ihl =>
        intro h
        have := ihl fun y hy => h y (by simp [hy])
        have h1 : 1 ≤ (allN f.Nodes x).length := by rw [T.all_eq (h x (by simp))]; simp
        simp only [List.flatMap_cons, List.length_append, List.length_cons]; omega
    rcases List.eq_nil_or_concat st with rfl | ⟨st', x, hst'⟩
    · simp only [Forest_Order_l1]
      rw [cnd_neg (by simp)]; simp
    · rw [List.concat_eq_append] at hst'
      subst hst'
      have hin := hst x (by simp)
      obtain ⟨y, hy⟩ := idx_some hin
      have hk := kids_at hy
      have ha := T.all_eq hin
      rw [hk] at ha
      simp only [List.flatMap_append, List.flatMap_cons, List.flatMap_nil, List.append_nil, List.length_append, ha, List.length_cons] at hlt hb
      have hl1 := stlen st' fun z hz => hst z (by simp [hz])
      have hkin : ∀ k ∈ y.Kids, InN f.Nodes k := fun k h => (T.kid x k (by rw [hk]; exact h)).2.1
      have hl2 := stlen y.Kids hkin
      simp only [Forest_Order_l1]
      have hlen1 : (((st' ++ [x]).length : Nat) : Int) - 1 = ((st'.length : Nat) : Int) := by simp
      rw [cnd_pos (by simp), hlen1, rng64 (by omega) (by omega), bnd_some, idx_lt (by simp : st'.length < (st' ++ [x]).length), bnd_some, show (0 : Int) = ((0 : Nat) : Int) from rfl, piece_nat (by omega) (by simp), bnd_some]
      rw [show (st' ++ [x])[st'.length]'(by simp) = x by simp, show ((st' ++ [x]).drop 0).take (st'.length - 0) = st' by simp]
      rw [roomy_ok (by simp; omega), bnd_some, hy, bnd_some]
      have l2 : ∀ (k : Nat) (l : List Int), k ≤ y.Kids.length → l.length + k ≤ 1000000 → Forest_Order_l2 out x y (Forest_Order_l1 f K) k l = Forest_Order_l1 f K (out ++ [x], l ++ (y.Kids.take k).reverse) := by
        intro k
        induction k with
        | zero => intro l _ _; simp [Forest_Order_l2]
        | succ k ihk =>
          intro l hk1 hl
          have hk2 : k < y.Kids.length := by omega
          simp only [Forest_Order_l2]
          rw [List.getElem?_eq_getElem hk2, bnd_some, roomy_ok (by simp; omega), bnd_some, ihk _ (by omega) (by simp; omega), List.take_succ_eq_append_getElem hk2, List.reverse_append, List.append_assoc]
          rfl
      rw [l2 _ _ (Nat.le_refl _) (by omega), List.take_length]
      have hst2 : ∀ z ∈ st' ++ y.Kids.reverse, InN f.Nodes z := fun z hz => by
        rcases List.mem_append.1 hz with hz | hz
        · exact hst z (by simp [hz])
        · exact hkin z (by simpa using hz)
      have hrev : (y.Kids.reverse.flatMap (allN f.Nodes)).length = (y.Kids.flatMap (allN f.Nodes)).length := by
        rw [List.length_flatMap, List.length_flatMap, List.map_reverse, List.sum_reverse]
      rw [ih (st' ++ y.Kids.reverse) (out ++ [x]) hst2 (by simp only [List.flatMap_append, List.length_append, hrev]; omega) (by simp only [List.flatMap_append, List.length_append, hrev, List.length_cons, List.length_nil]; omega)]
      simp [ha]
end
section
variable {f : Forest} {fu : Nat} (hs : Small f) (hfu : 1000 < fu) (hr : frightB f = true)
include hs hfu hr
end
end Go.Proofs.YtkngnghbnhgfjaaGreat
/- Trees with shadows: the way up from a node, over hosts too, and all that it is over, in order. -/
namespace Go.Proofs.YtkngnghbnhgfjaaGreat
open Go Go.Pw

def subI (ns : List Node) (n : Int) : List Int := match idx ns n with | some x => (if x.Under = -1 then [] else [x.Under]) ++ x.Kids | none => []
def climbQ (ns : List Node) : Nat → Int → Prop
  | 0, _ => False
  | k + 1, n => upI ns n = -1 ∨ climbQ ns k (upI ns n)
def wayUF (ns : List Node) : Nat → Int → List Int
  | 0, _ => []
  | k + 1, n => n :: (if upI ns n = -1 then [] else wayUF ns k (upI ns n))
def wayU (ns : List Node) (n : Int) : List Int := wayUF ns ns.length n
def allUF (ns : List Node) : Nat → Int → List Int
  | 0, _ => []
  | k + 1, n => n :: (subI ns n).flatMap (allUF ns k)
def allU (ns : List Node) (n : Int) : List Int := allUF ns ns.length n
structure TreeU (ns : List Node) : Prop where
  kid : ∀ n k, k ∈ subI ns n → InN ns n ∧ InN ns k ∧ upI ns k = n
  par : ∀ x, InN ns x → upI ns x ≠ -1 → InN ns (upI ns x) ∧ x ∈ subI ns (upI ns x)
  nod : ∀ n, (subI ns n).Nodup
  fin : ∀ n, InN ns n → climbQ ns ns.length n

/-- Whose host a shadow has, and whose shadow a host has. -/
theorem under_at {ns : List Node} (hn : nodesB ns = true) {n : Int} {x : Node} (hx : idx ns n = some x) (h : x.Under ≠ -1) : ∃ u, idx ns x.Under = some u ∧ u.Kind = 4 ∧ u.Host = n ∧ u.Parent = -1 ∧ x.Kind = 1 := by
  have hh := nodes_at hn hx
  unfold nodeB underB at hh
  simp only [Bool.and_eq_true] at hh
  obtain ⟨_, _, _, _, _, h6⟩ := hh
  have e : (x.Under == -1) = false := beq_eq_false_iff_ne.2 h
  rw [e, Bool.false_or, Bool.and_eq_true, beq_iff_eq] at h6
  cases hu : idx ns x.Under with
  | none => rw [hu] at h6; simp at h6
  | some u =>
    rw [hu] at h6
    simp only [Bool.and_eq_true, beq_iff_eq] at h6
    refine ⟨u, rfl, h6.2.1, h6.2.2, ?_, h6.1⟩
    have h3 := nodes_at hn hu
    unfold nodeB hungB at h3
    simp only [Bool.and_eq_true, Bool.or_eq_true, beq_iff_eq] at h3
    rcases h3.2.2.1 with h | ⟨h | h, _⟩
    · exact h
    · omega
    · omega
theorem host_at {ns : List Node} (hn : nodesB ns = true) {n : Int} {x : Node} (hx : idx ns n = some x) (h : x.Host ≠ -1) : ∃ u, idx ns x.Host = some u ∧ u.Kind = 1 ∧ u.Under = n ∧ u.Doc = x.Doc ∧ x.Kind = 4 := by
  have hh := nodes_at hn hx
  unfold nodeB hostB at hh
  simp only [Bool.and_eq_true] at hh
  obtain ⟨_, _, _, _, h5, _⟩ := hh
  by_cases hk : x.Kind = 4
  · rw [if_pos hk] at h5
    cases hu : idx ns x.Host with
    | none => rw [hu] at h5; simp at h5
    | some u =>
      rw [hu] at h5
      simp only [Bool.and_eq_true, beq_iff_eq] at h5
      exact ⟨u, rfl, h5.1, h5.2.1, h5.2.2, hk⟩
  · rw [if_neg hk, beq_iff_eq] at h5
    exact absurd h5 h
theorem upI_at {ns : List Node} {n : Int} {x : Node} (hx : idx ns n = some x) : upI ns n = if x.Parent = -1 then x.Host else x.Parent := by unfold upI; rw [hx]
theorem upI_par {ns : List Node} {n : Int} (h : parI ns n ≠ -1) : upI ns n = parI ns n := by
  unfold upI; unfold parI at h ⊢
  cases hx : idx ns n with
  | none => rfl
  | some x => rw [hx] at h; simp only at h ⊢; rw [if_neg h]
theorem sub_at {ns : List Node} {n : Int} {x : Node} (hx : idx ns n = some x) : subI ns n = (if x.Under = -1 then [] else [x.Under]) ++ x.Kids := by unfold subI; rw [hx]
theorem treeU_of {ns : List Node} (hn : nodesB ns = true) (he : endsB ns = true) : TreeU ns where
  kid n k hk := by
    cases hx : idx ns n with
    | none => unfold subI at hk; rw [hx] at hk; simp at hk
    | some x =>
      rw [sub_at hx] at hk
      rcases List.mem_append.1 hk with hk | hk
      · split at hk
        · simp at hk
        · rename_i hu
          obtain rfl := List.mem_singleton.1 hk
          obtain ⟨u, h1, h2, h3, h4, _⟩ := under_at hn hx hu
          exact ⟨idx_range hx, idx_range h1, by rw [upI_at h1, if_pos h4, h3]⟩
      · have T := tree_of hn he
        obtain ⟨h1, h2, h3⟩ := T.kid n k (by rw [kids_at hx]; exact hk)
        exact ⟨h1, h2, by rw [upI_par (by rw [h3]; exact h1.ne), h3]⟩
  par x hx hp := by
    obtain ⟨y, hy⟩ := idx_some hx
    by_cases h : y.Parent = -1
    · rw [upI_at hy, if_pos h] at hp ⊢
      obtain ⟨u, h1, h2, h3, _, _⟩ := host_at hn hy hp
      refine ⟨idx_range h1, ?_⟩
      rw [sub_at h1, h3, if_neg hx.ne]
      simp
    · have T := tree_of hn he
      have hp' : parI ns x ≠ -1 := by rw [par_at hy]; exact h
      rw [upI_par hp']
      obtain ⟨h1, h2⟩ := T.par x hx hp'
      obtain ⟨z, hz⟩ := idx_some h1
      refine ⟨h1, ?_⟩
      rw [sub_at hz]
      rw [kids_at hz] at h2
      exact List.mem_append.2 (.inr h2)
  nod n := by
    cases hx : idx ns n with
    | none => unfold subI; rw [hx]; simp
    | some x =>
      have T := tree_of hn he
      have hk := T.nod n
      rw [kids_at hx] at hk
      rw [sub_at hx, List.nodup_append]
      refine ⟨by split <;> simp, hk, fun a ha b hb e => ?_⟩
      subst e
      split at ha
      · simp at ha
      · rename_i hu
        obtain rfl := List.mem_singleton.1 ha
        obtain ⟨u, h1, h2, h3, h4, _⟩ := under_at hn hx hu
        obtain ⟨g1, g2, g3⟩ := T.kid n x.Under (by rw [kids_at hx]; exact hb)
        rw [par_at h1, h4] at g3
        exact g1.ne g3.symm
  fin n h := by
    have := ends_at he h
    revert this
    generalize ns.length = k
    clear h
    intro h
    induction k generalizing n with
    | zero => cases h
    | succ k ih =>
      simp only [climbB, Bool.or_eq_true, beq_iff_eq] at h
      exact h.imp id (ih _)
theorem wayUF_stab {ns : List Node} : ∀ (k : Nat) (n : Int), climbQ ns k n → ∀ j, k ≤ j → wayUF ns j n = wayUF ns k n
  | 0, _, h, _, _ => h.elim
  | k + 1, n, h, j, hj => by
    obtain ⟨j, rfl⟩ : ∃ j', j = j' + 1 := ⟨j - 1, by omega⟩
    simp only [wayUF]
    by_cases hp : upI ns n = -1
    · rw [if_pos hp, if_pos hp]
    · rw [if_neg hp, if_neg hp, wayUF_stab k _ (h.resolve_left hp) j (by omega)]
theorem wayUF_len {ns : List Node} : ∀ (k : Nat) (n : Int), (wayUF ns k n).length ≤ k
  | 0, _ => by simp [wayUF]
  | k + 1, n => by
    simp only [wayUF, List.length_cons]
    split
    · simp
    · have := wayUF_len (ns := ns) k (upI ns n); omega
section
variable {ns : List Node} (T : TreeU ns)
include T
theorem TreeU.climb {n : Int} (h : InN ns n) {M : Nat} (hM : ns.length = M + 1) : upI ns n = -1 ∨ climbQ ns M (upI ns n) := by
  have := T.fin n h
  rw [hM] at this
  exact this
theorem TreeU.wayU_eq {n : Int} (h : InN ns n) : wayU ns n = n :: (if upI ns n = -1 then [] else wayU ns (upI ns n)) := by
  obtain ⟨M, hM⟩ := h.pos
  have hc := T.climb h hM
  unfold wayU
  rw [hM]
  simp only [wayUF]
  by_cases hp : upI ns n = -1
  · rw [if_pos hp, if_pos hp]
  · rw [if_neg hp, if_neg hp]
    have := wayUF_stab M _ (hc.resolve_left hp) (M + 1) (by omega)
    simp only [wayUF] at this
    rw [this]
theorem TreeU.up_ind {C : Int → Prop} (h : ∀ n, InN ns n → (upI ns n ≠ -1 → C (upI ns n)) → C n) : ∀ n, InN ns n → C n := by
  have key : ∀ (k : Nat) (n : Int), InN ns n → climbQ ns k n → C n := by
    intro k
    induction k with
    | zero => intro n _ h; exact h.elim
    | succ k ih =>
      intro n hn hc
      exact h n hn fun hp => ih _ (T.par n hn hp).1 (hc.resolve_left hp)
  exact fun n hn => key _ n hn (T.fin n hn)
theorem TreeU.wayU_kid {n k : Int} (hk : k ∈ subI ns n) : wayU ns k = k :: wayU ns n := by
  obtain ⟨h1, h2, h3⟩ := T.kid n k hk
  rw [T.wayU_eq h2, h3, if_neg h1.ne]
theorem TreeU.wayU_len {n : Int} (h : InN ns n) : 1 ≤ (wayU ns n).length ∧ (wayU ns n).length ≤ ns.length := by
  refine ⟨?_, wayUF_len _ _⟩
  rw [T.wayU_eq h]; simp
theorem TreeU.down_ind {C : Int → Prop} (h : ∀ n, InN ns n → (∀ k, k ∈ subI ns n → C k) → C n) : ∀ n, InN ns n → C n := by
  have key : ∀ (d : Nat) (n : Int), InN ns n → ns.length < (wayU ns n).length + d → C n := by
    intro d
    induction d with
    | zero => intro n hn hl; have := T.wayU_len hn; omega
    | succ d ih =>
      intro n hn hl
      exact h n hn fun k hk => ih k (T.kid n k hk).2.1 (by rw [T.wayU_kid hk, List.length_cons]; omega)
  exact fun n hn => key ns.length n hn (by have := T.wayU_len hn; omega)
theorem TreeU.allUF_stab : ∀ (d : Nat) (n : Int), InN ns n → ns.length < (wayU ns n).length + d → ∀ j, allUF ns (d + j) n = allUF ns d n := by
  intro d
  induction d with
  | zero => intro n hn hl; have := T.wayU_len hn; omega
  | succ d ih =>
    intro n hn hl j
    rw [show d + 1 + j = d + j + 1 by omega]
    simp only [allUF, List.flatMap_def]
    rw [List.map_congr_left fun k hk => ih k (T.kid n k hk).2.1 (by rw [T.wayU_kid hk, List.length_cons]; omega) j]
theorem TreeU.all_eq {n : Int} (h : InN ns n) : allU ns n = n :: (subI ns n).flatMap (allU ns) := by
  obtain ⟨M, hM⟩ := h.pos
  have hs := T.allUF_stab
  have hw := T.wayU_len h
  unfold allU
  rw [hM]
  conv => lhs; simp only [allUF]
  rw [List.flatMap_def, List.flatMap_def, List.map_congr_left fun k hk => (hs M k (T.kid n k hk).2.1 (by rw [T.wayU_kid hk, List.length_cons]; omega) 1).symm]
theorem TreeU.wayU_self {n : Int} (h : InN ns n) : n ∈ wayU ns n := by rw [T.wayU_eq h]; simp
theorem TreeU.wayU_in : ∀ x, InN ns x → ∀ y ∈ wayU ns x, InN ns y := T.up_ind fun x hx ih y hy => by
  rw [T.wayU_eq hx] at hy
  rcases List.mem_cons.1 hy with rfl | hy
  · exact hx
  · split at hy
    · simp at hy
    · rename_i hp; exact ih hp y hy
theorem TreeU.wayU_suffix : ∀ x, InN ns x → ∀ y ∈ wayU ns x, wayU ns y <:+ wayU ns x := T.up_ind fun x hx ih y hy => by
  have e := T.wayU_eq hx
  rw [e] at hy
  rcases List.mem_cons.1 hy with rfl | hy
  · exact List.suffix_refl _
  · split at hy
    · simp at hy
    · rename_i hp
      rw [e, if_neg hp]
      exact (ih hp y hy).trans (List.suffix_cons _ _)
theorem TreeU.wayU_trans {x y z : Int} (hz : InN ns z) (h1 : x ∈ wayU ns y) (h2 : y ∈ wayU ns z) : x ∈ wayU ns z := (T.wayU_suffix z hz y h2).subset h1
theorem TreeU.wayU_inj {x y : Int} (hx : InN ns x) (hy : InN ns y) (h : wayU ns x = wayU ns y) : x = y := by
  rw [T.wayU_eq hx, T.wayU_eq hy] at h
  exact (List.cons.inj h).1
/-- Of two that stand above a third one is above the other, or they are as deep. -/
theorem TreeU.wayU_same {x y z : Int} (hz : InN ns z) (h1 : x ∈ wayU ns z) (h2 : y ∈ wayU ns z) (hl : (wayU ns x).length = (wayU ns y).length) : x = y :=
  T.wayU_inj (T.wayU_in z hz x h1) (T.wayU_in z hz y h2) ((List.suffix_of_suffix_length_le (T.wayU_suffix z hz x h1) (T.wayU_suffix z hz y h2) (by omega)).eq_of_length hl)
end
section
variable {ns : List Node} (T : TreeU ns)
include T
theorem TreeU.kid_way {n k x : Int} (hx : InN ns x) (hk : k ∈ subI ns n) (h : k ∈ wayU ns x) : n ∈ wayU ns x :=
  T.wayU_trans hx (by rw [T.wayU_kid hk]; exact List.mem_cons_of_mem _ (T.wayU_self (T.kid n k hk).1)) h
theorem TreeU.all_in : ∀ n, InN ns n → ∀ x ∈ allU ns n, InN ns x ∧ n ∈ wayU ns x := T.down_ind fun n hn ih x hx => by
  rw [T.all_eq hn] at hx
  rcases List.mem_cons.1 hx with rfl | hx
  · exact ⟨hn, T.wayU_self hn⟩
  · obtain ⟨k, hk, hx⟩ := List.mem_flatMap.1 hx
    obtain ⟨h1, h2⟩ := ih k hk x hx
    exact ⟨h1, T.kid_way h1 hk h2⟩
theorem TreeU.all_self {n : Int} (hn : InN ns n) : n ∈ allU ns n := by rw [T.all_eq hn]; simp
theorem TreeU.all_kid : ∀ n, InN ns n → ∀ y ∈ allU ns n, ∀ k ∈ subI ns y, k ∈ allU ns n := T.down_ind fun n hn ih y hy k hk => by
  rw [T.all_eq hn] at hy ⊢
  rcases List.mem_cons.1 hy with rfl | hy
  · exact List.mem_cons_of_mem _ (List.mem_flatMap.2 ⟨k, hk, T.all_self (T.kid _ k hk).2.1⟩)
  · obtain ⟨k', hk', hy⟩ := List.mem_flatMap.1 hy
    exact List.mem_cons_of_mem _ (List.mem_flatMap.2 ⟨k', hk', ih k' hk' y hy k hk⟩)
theorem TreeU.mem_all {n : Int} (hn : InN ns n) : ∀ x, InN ns x → n ∈ wayU ns x → x ∈ allU ns n := T.up_ind fun x hx ih h => by
  have h' := h
  rw [T.wayU_eq hx] at h'
  rcases List.mem_cons.1 h' with rfl | h'
  · exact T.all_self hn
  · split at h'
    · simp at h'
    · rename_i hp
      exact T.all_kid n hn _ (ih hp h') x (T.par x hx hp).2
theorem TreeU.kids_disj {n k k' x : Int} (hk : k ∈ subI ns n) (hk' : k' ∈ subI ns n) (h : x ∈ allU ns k) (h' : x ∈ allU ns k') : k = k' := by
  have h1 := T.all_in k (T.kid n k hk).2.1 x h
  have h2 := T.all_in k' (T.kid n k' hk').2.1 x h'
  exact T.wayU_same h1.1 h1.2 h2.2 (by rw [T.wayU_kid hk, T.wayU_kid hk']; simp)
theorem TreeU.all_nodup : ∀ n, InN ns n → (allU ns n).Nodup := T.down_ind fun n hn ih => by
  rw [T.all_eq hn, List.nodup_cons]
  refine ⟨fun h => ?_, ?_⟩
  · obtain ⟨k, hk, h⟩ := List.mem_flatMap.1 h
    have h1 := (T.all_in k (T.kid n k hk).2.1 n h).2
    have h2 := T.wayU_suffix n hn k h1
    rw [T.wayU_kid hk] at h2
    have := h2.length_le
    simp at this
    omega
  · rw [List.Nodup, List.pairwise_flatMap]
    refine ⟨fun k hk => ih k hk, ?_⟩
    refine (T.nod n).imp_of_mem fun hk hk' hne x hx y hy e => ?_
    subst e
    exact hne (T.kids_disj hk hk' hx hy)
theorem TreeU.all_len {n : Int} (hn : InN ns n) : (allU ns n).length ≤ ns.length := nodup_len _ _ (T.all_nodup n hn) fun x hx => (T.all_in n hn x hx).1
/-- A parent stands ahead of its child; between them stand others below it. -/
theorem TreeU.between : ∀ n, InN ns n → ∀ c ∈ allU ns n, c ≠ n → ∃ A B C, allU ns n = A ++ upI ns c :: (B ++ c :: C) ∧ ∀ b ∈ B, InN ns b ∧ upI ns c ∈ wayU ns b ∧ c ∉ wayU ns b := T.down_ind fun n hn ih c hc hne => by
  have e := T.all_eq hn
  rw [e] at hc
  obtain ⟨k, hk, hc⟩ := List.mem_flatMap.1 ((List.mem_cons.1 hc).resolve_left hne)
  obtain ⟨K1, K2, hK⟩ := List.append_of_mem hk
  rw [hK, List.flatMap_append, List.flatMap_cons] at e
  by_cases hck : c = k
  · subst hck
    have hkc := T.kid n c hk
    rw [T.all_eq hkc.2.1] at e
    rw [hkc.2.2]
    refine ⟨[], K1.flatMap (allU ns), (subI ns c).flatMap (allU ns) ++ K2.flatMap (allU ns), by rw [e]; simp, fun b hb => ?_⟩
    obtain ⟨k1, hk1, hb⟩ := List.mem_flatMap.1 hb
    have hk1' : k1 ∈ subI ns n := by rw [hK]; simp [hk1]
    have hb' := T.all_in k1 (T.kid n k1 hk1').2.1 b hb
    refine ⟨hb'.1, T.kid_way hb'.1 hk1' hb'.2, fun h => ?_⟩
    have hb2 := T.mem_all hkc.2.1 b hb'.1 h
    have he := T.kids_disj hk1' hk hb hb2
    subst he
    have hd := T.nod n
    rw [hK, List.nodup_append] at hd
    exact hd.2.2 k1 hk1 k1 (by simp) rfl
  · obtain ⟨A, B, C, e2, hB⟩ := ih k hk c hc hck
    rw [e2] at e
    exact ⟨n :: (K1.flatMap (allU ns) ++ A), B, C ++ K2.flatMap (allU ns), by rw [e]; simp, hB⟩
/-- What a node is over stands in one piece. -/
theorem TreeU.piece : ∀ n, InN ns n → ∀ c ∈ allU ns n, ∃ A B, allU ns n = A ++ (allU ns c ++ B) := T.down_ind fun n hn ih c hc => by
  by_cases hne : c = n
  · subst hne; exact ⟨[], [], by simp⟩
  have e := T.all_eq hn
  rw [e] at hc
  obtain ⟨k, hk, hc⟩ := List.mem_flatMap.1 ((List.mem_cons.1 hc).resolve_left hne)
  obtain ⟨K1, K2, hK⟩ := List.append_of_mem hk
  obtain ⟨A, B, e2⟩ := ih k hk c hc
  rw [hK, List.flatMap_append, List.flatMap_cons, e2] at e
  exact ⟨n :: (K1.flatMap (allU ns) ++ A), B ++ K2.flatMap (allU ns), by rw [e]; simp⟩
end
theorem right_full {f : Forest} (hr : frightB f = true) : TreeU f.Nodes := by
  obtain ⟨_, _, h1, h2⟩ := right_parts hr
  exact treeU_of h1 h2
end Go.Proofs.YtkngnghbnhgfjaaGreat
/- A node's text, over a forest that is right. -/
namespace Go.Proofs.YtkngnghbnhgfjaaGreat
open Go Go.Pw
set_option linter.unusedVariables false

def putX (x : Node) (p : Int → Bs) : Bs :=
  if x.Kind = 2 then 34 :: quoL x.Data ++ [34]
  else if x.Kind = 3 then 91 :: x.Kids.flatMap p ++ [93]
  else if x.Kind = 4 then 123 :: x.Kids.flatMap p ++ [125]
  else if x.Kind = 0 then 40 :: x.Kids.flatMap p ++ [41]
  else 60 :: x.Name ++ putI x.Is ++ putA x.Attrs ++ 62 :: (if x.Under = -1 then [] else p x.Under) ++ x.Kids.flatMap p ++ 60 :: 47 :: x.Name ++ [62]
def putF (ns : List Node) : Nat → Int → Bs
  | 0, _ => []
  | k + 1, n => match idx ns n with | some x => putX x (putF ns k) | none => []
def putU (ns : List Node) (n : Int) : Bs := putF ns ns.length n
theorem putX_congr {x : Node} {p q : Int → Bs} (h : ∀ k, k ∈ (if x.Under = -1 then [] else [x.Under]) ++ x.Kids → p k = q k) : putX x p = putX x q := by
  have hk : x.Kids.flatMap p = x.Kids.flatMap q := by
    rw [List.flatMap_def, List.flatMap_def, List.map_congr_left fun k hk => h k (by simp [hk])]
  have hu : (if x.Under = -1 then [] else p x.Under) = (if x.Under = -1 then [] else q x.Under) := by
    by_cases hu : x.Under = -1
    · rw [if_pos hu, if_pos hu]
    · rw [if_neg hu, if_neg hu, h x.Under (by rw [if_neg hu]; simp)]
  unfold putX
  rw [hk, hu]
theorem flat_nil : ∀ (l : List Int), (l.flatMap fun _ : Int => ([] : Bs)) = []
  | [] => rfl
  | _ :: l => by rw [List.flatMap_cons, flat_nil l]; rfl
section
variable {ns : List Node} (T : TreeU ns)
include T
theorem TreeU.putF_stab : ∀ (d : Nat) (n : Int), InN ns n → ns.length < (wayU ns n).length + d → ∀ j, putF ns (d + j) n = putF ns d n := by
  intro d
  induction d with
  | zero => intro n hn hl; have := T.wayU_len hn; omega
  | succ d ih =>
    intro n hn hl j
    obtain ⟨x, hx⟩ := idx_some hn
    rw [show d + 1 + j = d + j + 1 by omega]
    simp only [putF, hx]
    exact putX_congr fun k hk => ih k (T.kid n k (by rw [sub_at hx]; exact hk)).2.1 (by rw [T.wayU_kid (by rw [sub_at hx]; exact hk), List.length_cons]; omega) j
theorem TreeU.put_eq {n : Int} {x : Node} (hx : idx ns n = some x) : putU ns n = putX x (putU ns) := by
  have h : InN ns n := idx_range hx
  obtain ⟨M, hM⟩ := h.pos
  have hs := T.putF_stab
  have hw := T.wayU_len h
  unfold putU
  rw [hM]
  conv => lhs; simp only [putF, hx]
  exact putX_congr fun k hk => (hs M k (T.kid n k (by rw [sub_at hx]; exact hk)).2.1 (by rw [T.wayU_kid (by rw [sub_at hx]; exact hk), List.length_cons]; omega) 1).symm
/-- A bound on a text's length. -/
theorem TreeU.put_len {c : Nat} (hc : ∀ n x, idx ns n = some x → (putX x fun _ => []).length ≤ c) : ∀ n, InN ns n → (putU ns n).length ≤ c * (allU ns n).length := T.down_ind fun n hn ih => by
  obtain ⟨x, hx⟩ := idx_some hn
  have hsub : ∀ l : List Int, (∀ k ∈ l, k ∈ subI ns n) → (l.flatMap (putU ns)).length ≤ c * (l.flatMap (allU ns)).length := by
    intro l
    induction l with
    | nil => intro _; simp
    | cons k l ihl =>
      intro h
      have h1 := ih k (h k (by simp))
      have h2 := ihl fun k hk => h k (by simp [hk])
      simp only [List.flatMap_cons, List.length_append, Nat.mul_add]
      omega
  have hw := hc n x hx
  have hk := hsub (subI ns n) fun k h => h
  rw [T.put_eq hx, T.all_eq hn, List.length_cons, Nat.mul_succ]
  rw [sub_at hx, List.flatMap_append, List.length_append] at hk
  rw [sub_at hx]
  have hE : (x.Kids.flatMap fun _ : Int => ([] : Bs)) = [] := flat_nil _
  have e : (putX x (putU ns)).length ≤ (putX x fun _ => []).length + (((if x.Under = -1 then [] else [x.Under]).flatMap (putU ns)).length + (x.Kids.flatMap (putU ns)).length) := by
    unfold putX
    rw [hE]
    split
    · simp
    split
    · simp; omega
    split
    · simp; omega
    split
    · simp; omega
    · by_cases hu : x.Under = -1
      · simp [hu]; omega
      · simp [hu]; omega
  simp only [List.flatMap_append, List.length_append] at hk ⊢
  omega
end
end Go.Proofs.YtkngnghbnhgfjaaGreat
/- Rows that are a tree's: their text, their order. -/
namespace Go.Proofs.YtkngnghbnhgfjaaGreat
open Go Go.Pw
set_option linter.unusedVariables false

abbrev Bare := Int × Bs × Bs × Bs × List Attr × Nat
def bareX (x : Node) : Bare := (x.Kind, x.Name, x.Is, x.Data, x.Attrs, x.Kids.length)
def bare (ns : List Node) (n : Int) : Option Bare := (idx ns n).map bareX
mutual
/-- What stands in a tree, in tree order. -/
def bareN : Tr → List (Option Bare)
  | .text d => [some (2, [], [], d, [], 0)]
  | .frag ks => some (3, [], [], [], [], ks.length) :: bareL ks
  | .elem n s al sh us ks => some (1, n, s, [], al, ks.length) :: bareL ks
def bareL : List Tr → List (Option Bare)
  | [] => []
  | t :: ts => bareN t ++ bareL ts
end
mutual
/-- What stands in a tree, in full order. -/
def fullN : Tr → List (Option Bare)
  | .text d => [some (2, [], [], d, [], 0)]
  | .frag ks => some (3, [], [], [], [], ks.length) :: fullL ks
  | .elem n s al sh us ks => some (1, n, s, [], al, ks.length) :: ((if sh then some (4, [], [], [], [], us.length) :: fullL us else []) ++ fullL ks)
def fullL : List Tr → List (Option Bare)
  | [] => []
  | t :: ts => fullN t ++ fullL ts
end
mutual
theorem full_len : ∀ (t : Tr), (fullN t).length = sz t
  | .text d => rfl
  | .frag ks => by simp [fullN, sz, fullL_len ks]; omega
  | .elem n s al sh us ks => by
    cases sh
    · simp [fullN, sz, fullL_len ks]; omega
    · simp [fullN, sz, fullL_len ks, fullL_len us]; omega
theorem fullL_len : ∀ (ts : List Tr), (fullL ts).length = szL ts
  | [] => rfl
  | t :: ts => by simp [fullL, szL, full_len t, fullL_len ts]
end
/-- Numbers one behind the other. -/
def run : Nat → Nat → List Int
  | i, 0 => []
  | i, n + 1 => (i : Int) :: run (i + 1) n
theorem run_add : ∀ (a i b : Nat), run i (a + b) = run i a ++ run (i + a) b
  | 0, i, b => by simp [run]
  | a + 1, i, b => by
    rw [show a + 1 + b = (a + b) + 1 from by omega]
    simp only [run, List.cons_append]
    rw [run_add a (i + 1) b, show i + 1 + a = i + (a + 1) from by omega]
theorem run_len : ∀ (n i : Nat), (run i n).length = n
  | 0, i => rfl
  | n + 1, i => by simp [run, run_len n (i + 1)]
theorem run_get : ∀ (n i j : Nat), j < n → (run i n)[j]? = some ((i + j : Nat) : Int)
  | 0, i, j, h => by omega
  | n + 1, i, 0, h => by simp [run]
  | n + 1, i, j + 1, h => by
    simp only [run, List.getElem?_cons_succ]
    rw [run_get n (i + 1) j (by omega), show i + 1 + j = i + (j + 1) from by omega]
theorem ats_len : ∀ (i : Nat) (ts : List Tr), (ats i ts).length = ts.length
  | i, [] => rfl
  | i, t :: ts => by simp [ats, ats_len (i + sz t) ts]
theorem idx_piece {ns A B : List Node} {x : Node} {l : List Node} {i : Nat} (h : ns = A ++ (x :: l) ++ B) (hi : A.length = i) : idx ns (i : Int) = some x := by
  subst h; subst hi
  unfold idx
  rw [if_pos (by omega)]
  simp
mutual
theorem lay_at {ns : List Node} (T : TreeU ns) (TT : Tree ns) (doc par : Int) : ∀ (t : Tr) (i : Nat) (A B : List Node), ns = A ++ lay doc par i t ++ B → A.length = i → Wf t →
    putU ns i = put t ∧ allU ns i = run i (sz t) ∧ (allN ns i).map (bare ns) = bareN t ∧ (allU ns i).map (bare ns) = fullN t
  | .text d, i, A, B, h, hi, hw => by
    have hx := idx_piece (l := []) h hi
    have hn : InN ns i := idx_range hx
    refine ⟨?_, ?_, ?_, ?_⟩
    · rw [T.put_eq hx]; rfl
    · rw [T.all_eq hn, sub_at hx]; rfl
    · rw [TT.all_eq hn, kids_at hx]; simp [bareN, bare, hx, bareX]
    · rw [T.all_eq hn, sub_at hx]; simp [fullN, bare, hx, bareX]
  | .frag ks, i, A, B, h, hi, hw => by
    have hx := idx_piece h hi
    have hn : InN ns i := idx_range hx
    obtain ⟨k1, k2, k3, k4⟩ := layL_at T TT doc i ks (i + 1) (A ++ [⟨3, [], [], [], [], par, ats (i + 1) ks, -1, -1, doc⟩]) B (by rw [h, lay]; simp) (by simp [hi]) hw
    refine ⟨?_, ?_, ?_, ?_⟩
    · rw [T.put_eq hx]
      show 91 :: (ats (i + 1) ks).flatMap (putU ns) ++ [93] = _
      rw [k1]; rfl
    · rw [T.all_eq hn, sub_at hx]
      show _ :: (ats (i + 1) ks).flatMap (allU ns) = _
      rw [k2, sz, show 1 + szL ks = szL ks + 1 from by omega]; rfl
    · rw [TT.all_eq hn, kids_at hx, List.map_cons]
      show _ :: ((ats (i + 1) ks).flatMap (allN ns)).map (bare ns) = _
      rw [k3, bareN, bare, hx]
      simp [bareX, ats_len]
    · rw [T.all_eq hn, sub_at hx, List.map_cons]
      show _ :: ((ats (i + 1) ks).flatMap (allU ns)).map (bare ns) = _
      rw [k4, fullN, bare, hx]
      simp [bareX, ats_len]
  | .elem n s al sh us ks, i, A, B, h, hi, hw => by
    have hx := idx_piece h hi
    have hn : InN ns i := idx_range hx
    cases sh with
    | false =>
      obtain ⟨k1, k2, k3, k4⟩ := layL_at T TT doc i ks (i + 1) (A ++ [⟨1, n, s, [], al, par, ats (i + 1) ks, -1, -1, doc⟩]) B (by rw [h, lay]; simp) (by simp [hi]) hw.2.2.2.2.2
      have hx : idx ns (i : Int) = some ⟨1, n, s, [], al, par, ats (i + 1) ks, -1, -1, doc⟩ := by rw [hx]; simp
      refine ⟨?_, ?_, ?_, ?_⟩
      · rw [T.put_eq hx]
        show 60 :: n ++ putI s ++ putA al ++ 62 :: [] ++ (ats (i + 1) ks).flatMap (putU ns) ++ 60 :: 47 :: n ++ [62] = _
        rw [k1]; simp [put]
      · rw [T.all_eq hn, sub_at hx]
        show _ :: (ats (i + 1) ks).flatMap (allU ns) = _
        rw [k2, sz, show (1 + if (false = true) then 1 + szL us else 0) + szL ks = szL ks + 1 from by simp; omega]; rfl
      · rw [TT.all_eq hn, kids_at hx, List.map_cons]
        show _ :: ((ats (i + 1) ks).flatMap (allN ns)).map (bare ns) = _
        rw [k3, bareN, bare, hx]
        simp [bareX, ats_len]
      · rw [T.all_eq hn, sub_at hx, List.map_cons]
        show _ :: ((ats (i + 1) ks).flatMap (allU ns)).map (bare ns) = _
        rw [k4, fullN, bare, hx]
        simp [bareX, ats_len]
    | true =>
      have hx : idx ns (i : Int) = some ⟨1, n, s, [], al, par, ats (i + 1 + (1 + szL us)) ks, -1, ((i + 1 : Nat) : Int), doc⟩ := by rw [hx]; simp
      have he : ns = A ++ [⟨1, n, s, [], al, par, ats (i + 1 + (1 + szL us)) ks, -1, ((i + 1 : Nat) : Int), doc⟩] ++ (⟨4, [], [], [], [], -1, ats (i + 2) us, (i : Int), -1, doc⟩ :: layL doc ((i + 1 : Nat) : Int) (i + 2) us) ++ (layL doc i (i + 1 + (1 + szL us)) ks ++ B) := by rw [h, lay]; simp
      have hy := idx_piece he (i := i + 1) (by simp [hi])
      have hm : InN ns ((i + 1 : Nat) : Int) := idx_range hy
      obtain ⟨u1, u2, u3, u4⟩ := layL_at T TT doc ((i + 1 : Nat) : Int) us (i + 2) (A ++ [⟨1, n, s, [], al, par, ats (i + 1 + (1 + szL us)) ks, -1, ((i + 1 : Nat) : Int), doc⟩, ⟨4, [], [], [], [], -1, ats (i + 2) us, (i : Int), -1, doc⟩]) (layL doc i (i + 1 + (1 + szL us)) ks ++ B) (by rw [he]; simp) (by simp [hi]) hw.2.2.2.2.1
      obtain ⟨k1, k2, k3, k4⟩ := layL_at T TT doc i ks (i + 1 + (1 + szL us)) (A ++ ⟨1, n, s, [], al, par, ats (i + 1 + (1 + szL us)) ks, -1, ((i + 1 : Nat) : Int), doc⟩ :: ⟨4, [], [], [], [], -1, ats (i + 2) us, (i : Int), -1, doc⟩ :: layL doc ((i + 1 : Nat) : Int) (i + 2) us) B (by rw [he]; simp) (by simp [hi, layL_len]; omega) hw.2.2.2.2.2
      have hne : ((i + 1 : Nat) : Int) ≠ -1 := by omega
      have v1 : putU ns ((i + 1 : Nat) : Int) = 123 :: putL us ++ [125] := by
        rw [T.put_eq hy]
        show 123 :: (ats (i + 2) us).flatMap (putU ns) ++ [125] = _
        rw [u1]
      have v2 : allU ns ((i + 1 : Nat) : Int) = run (i + 1) (1 + szL us) := by
        rw [T.all_eq hm, sub_at hy]
        show _ :: (ats (i + 2) us).flatMap (allU ns) = _
        rw [u2, show 1 + szL us = szL us + 1 from by omega]; rfl
      have v4 : (allU ns ((i + 1 : Nat) : Int)).map (bare ns) = some (4, [], [], [], [], us.length) :: fullL us := by
        rw [T.all_eq hm, sub_at hy, List.map_cons]
        show _ :: ((ats (i + 2) us).flatMap (allU ns)).map (bare ns) = _
        rw [u4, bare, hy]
        simp [bareX, ats_len]
      have hs : subI ns (i : Int) = ((i + 1 : Nat) : Int) :: ats (i + 1 + (1 + szL us)) ks := by
        rw [sub_at hx]
        simp only [if_neg hne]; rfl
      refine ⟨?_, ?_, ?_, ?_⟩
      · rw [T.put_eq hx]
        show 60 :: n ++ putI s ++ putA al ++ 62 :: (if ((i + 1 : Nat) : Int) = -1 then [] else putU ns ((i + 1 : Nat) : Int)) ++ (ats (i + 1 + (1 + szL us)) ks).flatMap (putU ns) ++ 60 :: 47 :: n ++ [62] = _
        rw [if_neg hne, v1, k1]; simp [put]
      · rw [T.all_eq hn, hs, List.flatMap_cons, v2, k2]
        rw [sz, show (1 + if (true = true) then 1 + szL us else 0) + szL ks = ((1 + szL us) + szL ks) + 1 from by simp; omega]
        show _ = _ :: run (i + 1) ((1 + szL us) + szL ks)
        rw [run_add (1 + szL us) (i + 1) (szL ks)]
      · rw [TT.all_eq hn, kids_at hx, List.map_cons]
        show _ :: ((ats (i + 1 + (1 + szL us)) ks).flatMap (allN ns)).map (bare ns) = _
        rw [k3, bareN, bare, hx]
        simp [bareX, ats_len]
      · rw [T.all_eq hn, hs, List.flatMap_cons, List.map_cons, List.map_append, v4, k4]
        rw [fullN, bare, hx]
        simp [bareX, ats_len]
theorem layL_at {ns : List Node} (T : TreeU ns) (TT : Tree ns) (doc par : Int) : ∀ (ts : List Tr) (i : Nat) (A B : List Node), ns = A ++ layL doc par i ts ++ B → A.length = i → WfL ts →
    (ats i ts).flatMap (putU ns) = putL ts ∧ (ats i ts).flatMap (allU ns) = run i (szL ts) ∧ ((ats i ts).flatMap (allN ns)).map (bare ns) = bareL ts ∧ ((ats i ts).flatMap (allU ns)).map (bare ns) = fullL ts
  | [], i, A, B, h, hi, hw => ⟨rfl, rfl, rfl, rfl⟩
  | t :: ts, i, A, B, h, hi, hw => by
    obtain ⟨a1, a2, a3, a4⟩ := lay_at T TT doc par t i A (layL doc par (i + sz t) ts ++ B) (by rw [h, layL]; simp) hi hw.2.1
    obtain ⟨b1, b2, b3, b4⟩ := layL_at T TT doc par ts (i + sz t) (A ++ lay doc par i t) B (by rw [h, layL]; simp) (by simp [hi, lay_len]) hw.2.2
    refine ⟨?_, ?_, ?_, ?_⟩
    · simp only [ats, List.flatMap_cons, a1, b1, putL]
    · simp only [ats, List.flatMap_cons, a2, b2, szL, run_add]
    · simp only [ats, List.flatMap_cons, List.map_append, a3, b3, bareL]
    · simp only [ats, List.flatMap_cons, List.map_append, a4, b4, fullL]
end
end Go.Proofs.YtkngnghbnhgfjaaGreat
/- Each node of a right forest that is no document and no shadow is a tree. -/
namespace Go.Proofs.YtkngnghbnhgfjaaGreat
open Go Go.Pw
set_option linter.unusedVariables false

mutual
/-- Its words are names, its texts not too long. -/
def Fine : Tr → Prop
  | .text d => d.length ≤ 200
  | .frag ks => FineL ks
  | .elem n i al sh us ks => fitB n = true ∧ (i = [] ∨ customB i = true) ∧ attrB al = true ∧ FineL us ∧ FineL ks
def FineL : List Tr → Prop
  | [] => True
  | t :: ts => Fine t ∧ FineL ts
end
structure TOk (ns : List Node) (n : Int) (t : Tr) : Prop where
  wf : Wf t
  fine : Fine t
  text : put t = putU ns n
  bare : (allN ns n).map (bare ns) = bareN t
  full : (allU ns n).map (Go.Proofs.YtkngnghbnhgfjaaGreat.bare ns) = fullN t
structure LOk (ns : List Node) (l : List Int) (ts : List Tr) : Prop where
  wf : WfL ts
  fine : FineL ts
  len : ts.length = l.length
  text : putL ts = l.flatMap (putU ns)
  bare : (l.flatMap (allN ns)).map (bare ns) = bareL ts
  full : (l.flatMap (allU ns)).map (Go.Proofs.YtkngnghbnhgfjaaGreat.bare ns) = fullL ts
theorem kids_ex {ns : List Node} : ∀ (l : List Int), (∀ k ∈ l, ∃ t, TOk ns k t ∧ kid t) → ∃ ts, LOk ns l ts
  | [], _ => ⟨[], ⟨trivial, trivial, rfl, rfl, rfl, rfl⟩⟩
  | k :: l, h => by
    obtain ⟨t, h1, h2⟩ := h k (by simp)
    obtain ⟨ts, h3⟩ := kids_ex l fun k hk => h k (by simp [hk])
    refine ⟨t :: ts, ⟨⟨h2, h1.wf, h3.wf⟩, ⟨h1.fine, h3.fine⟩, by simp [h3.len], ?_, ?_, ?_⟩⟩
    · simp only [putL, List.flatMap_cons, h1.text, h3.text]
    · simp only [bareL, List.flatMap_cons, List.map_append, h1.bare, h3.bare]
    · simp only [fullL, List.flatMap_cons, List.map_append, h1.full, h3.full]
theorem fit_word {s : Bs} (h : fitB s = true) : wordB s := by
  unfold fitB rightB at h
  simp only [Bool.and_eq_true] at h
  exact h.1.1.2
theorem custom_word {s : Bs} (h : customB s = true) : wordB s ∧ s ≠ [] := by
  unfold customB rightB at h
  simp only [Bool.and_eq_true, decide_eq_true_eq] at h
  refine ⟨h.1.1.1.1.1.2, fun e => ?_⟩
  have := h.1.1.1.1.1.1.1
  rw [e] at this
  simp at this
theorem bears_kind {ns : List Node} {n : Int} {x : Node} (h : bearsB ns n x = true) : ∀ k ∈ x.Kids, ∃ y, idx ns k = some y ∧ (y.Kind = 1 ∨ y.Kind = 2) := fun k hk => by
  unfold bearsB at h
  simp only [Bool.and_eq_true, List.all_eq_true] at h
  have := h.2.1 k hk
  unfold kidB at this
  cases hy : idx ns k with
  | none => rw [hy] at this; cases this
  | some y =>
    rw [hy] at this
    simp only [Bool.and_eq_true, Bool.or_eq_true, beq_iff_eq] at this
    exact ⟨y, rfl, this.2.2.imp id And.left⟩
theorem tree_ex {ns : List Node} (hn : nodesB ns = true) (T : TreeU ns) (TT : Tree ns) : ∀ n, InN ns n → ∀ x, idx ns n = some x →
    (x.Kind = 1 ∨ x.Kind = 2 ∨ x.Kind = 3 → ∃ t, TOk ns n t ∧ (x.Kind ≠ 3 → kid t)) ∧ (x.Kind = 4 → ∃ ts, LOk ns x.Kids ts) := T.down_ind fun n hin ih x hx => by
  have hb := nodes_at hn hx
  unfold nodeB at hb
  simp only [Bool.and_eq_true] at hb
  obtain ⟨h1, _, _, h4, _, h6⟩ := hb
  have hkids : ∃ ts, LOk ns x.Kids ts := kids_ex x.Kids fun k hk => by
    obtain ⟨y, hy, hk2⟩ := bears_kind h4 k hk
    obtain ⟨t, g1, g2⟩ := (ih k (by rw [sub_at hx]; simp [hk]) y hy).1 (by rcases hk2 with h | h <;> simp [h])
    exact ⟨t, g1, g2 (by rcases hk2 with h | h <;> simp [h])⟩
  refine ⟨fun hk => ?_, fun _ => hkids⟩
  obtain ⟨ts, hts⟩ := hkids
  have e1 : putU ns n = putX x (putU ns) := T.put_eq hx
  have e2 : allN ns n = n :: x.Kids.flatMap (allN ns) := by rw [TT.all_eq hin, kids_at hx]
  have e3 : allU ns n = n :: ((if x.Under = -1 then [] else [x.Under]) ++ x.Kids).flatMap (allU ns) := by rw [T.all_eq hin, sub_at hx]
  have e4 : bare ns n = some (bareX x) := by unfold bare; rw [hx]; rfl
  unfold namedB at h1
  rcases hk with hk | hk | hk
  · rw [if_pos hk] at h1
    simp only [Bool.and_eq_true, Bool.or_eq_true, beq_iff_eq] at h1
    obtain ⟨n1, n2, n3, n4⟩ := h1
    have hal : ∀ a ∈ x.Attrs, wordB a.Name := fun a ha => by
      have := n4
      unfold attrB at this
      simp only [Bool.and_eq_true, List.all_eq_true] at this
      exact fit_word (this.2.1 a ha).1
    have hi : wordB x.Is := by
      rcases n2 with h | h
      · rw [h]; rfl
      · exact (custom_word h).1
    by_cases hu : x.Under = -1
    · refine ⟨.elem x.Name x.Is x.Attrs false [] ts, ⟨⟨fit_word n1, hi, hal, fun _ => rfl, trivial, hts.wf⟩, ⟨n1, n2, n4, trivial, hts.fine⟩, ?_, ?_, ?_⟩, fun _ => trivial⟩
      · rw [e1, putX, if_neg (by omega), if_neg (by omega), if_neg (by omega), if_neg (by omega), if_pos hu, ← hts.text]
        simp [put]
      · rw [e2, List.map_cons, e4, hts.bare, bareN, bareX, hk, n3, hts.len]
      · rw [e3, if_pos hu, List.nil_append, List.map_cons, e4, hts.full, fullN, bareX, hk, n3, hts.len]
        simp
    · obtain ⟨u, g1, g2, g3, g4, _⟩ := under_at hn hx hu
      obtain ⟨us, hus⟩ := (ih x.Under (by rw [sub_at hx, if_neg hu]; simp) u g1).2 g2
      have hui : InN ns x.Under := idx_range g1
      refine ⟨.elem x.Name x.Is x.Attrs true us ts, ⟨⟨fit_word n1, hi, hal, fun h => (by cases h), hus.wf, hts.wf⟩, ⟨n1, n2, n4, hus.fine, hts.fine⟩, ?_, ?_, ?_⟩, fun _ => trivial⟩
      · rw [e1, putX, if_neg (by omega), if_neg (by omega), if_neg (by omega), if_neg (by omega), if_neg hu, ← hts.text, T.put_eq g1]
        rw [putX, if_neg (by omega), if_neg (by omega), if_pos g2, ← hus.text]
        simp [put]
      · rw [e2, List.map_cons, e4, hts.bare, bareN, bareX, hk, n3, hts.len]
      · have e5 : subI ns x.Under = u.Kids := by
          rw [sub_at g1]
          have hub := nodes_at hn g1
          unfold nodeB underB at hub
          simp only [Bool.and_eq_true, Bool.or_eq_true, beq_iff_eq] at hub
          rcases hub.2.2.2.2.2 with h | h
          · rw [if_pos h]; rfl
          · omega
        have e6 : bareX u = (4, [], [], [], [], us.length) := by
          have hub := nodes_at hn g1
          unfold nodeB namedB at hub
          rw [if_neg (by omega), if_neg (by omega), if_pos (by omega)] at hub
          simp only [Bool.and_eq_true, beq_iff_eq, decide_eq_true_eq, List.length_eq_zero_iff] at hub
          obtain ⟨⟨b1, b2, b3, b4⟩, _⟩ := hub
          rw [bareX, g2, b1, b2, b3, b4, hus.len]
        rw [e3, if_neg hu, List.map_cons, e4, List.flatMap_append, List.map_append, hts.full]
        rw [show [x.Under].flatMap (allU ns) = allU ns x.Under from by simp, T.all_eq hui, e5, List.map_cons, hus.full]
        rw [show bare ns x.Under = some (bareX u) from by unfold bare; rw [g1]; rfl, e6]
        rw [fullN, bareX, hk, n3, hts.len]
        simp
  · rw [if_neg (by omega), if_pos hk] at h1
    simp only [Bool.and_eq_true, beq_iff_eq, decide_eq_true_eq, List.length_eq_zero_iff] at h1
    obtain ⟨n1, n2, n3, n4⟩ := h1
    have hk0 : x.Kids = [] := by
      unfold bearsB holderB at h4
      simp only [Bool.and_eq_true, Bool.or_eq_true, beq_iff_eq, decide_eq_true_eq, List.length_eq_zero_iff] at h4
      rcases h4.2.2.1 with h | h
      · omega
      · exact h
    have hu0 : x.Under = -1 := by
      unfold underB at h6
      simp only [Bool.and_eq_true, Bool.or_eq_true, beq_iff_eq] at h6
      rcases h6 with h | h
      · exact h
      · omega
    refine ⟨.text x.Data, ⟨trivial, n1, ?_, ?_, ?_⟩, fun _ => trivial⟩
    · rw [e1, putX, if_pos hk]; rfl
    · rw [e2, hk0, List.map_cons, e4, bareX, hk, n2, n3, n4, hk0]; rfl
    · rw [e3, hk0, if_pos hu0, List.map_cons, e4, bareX, hk, n2, n3, n4, hk0]; rfl
  · rw [if_neg (by omega), if_neg (by omega), if_pos (by omega)] at h1
    simp only [Bool.and_eq_true, beq_iff_eq, decide_eq_true_eq, List.length_eq_zero_iff] at h1
    obtain ⟨n1, n2, n3, n4⟩ := h1
    have hu0 : x.Under = -1 := by
      unfold underB at h6
      simp only [Bool.and_eq_true, Bool.or_eq_true, beq_iff_eq] at h6
      rcases h6 with h | h
      · exact h
      · omega
    refine ⟨.frag ts, ⟨hts.wf, hts.fine, ?_, ?_, ?_⟩, fun h => absurd hk h⟩
    · rw [e1, putX, if_neg (by omega), if_pos hk, ← hts.text]; rfl
    · rw [e2, List.map_cons, e4, hts.bare, bareN, bareX, hk, n1, n2, n3, n4, hts.len]
    · rw [e3, if_pos hu0, List.nil_append, List.map_cons, e4, hts.full, fullN, bareX, hk, n1, n2, n3, n4, hts.len]
end Go.Proofs.YtkngnghbnhgfjaaGreat
/- A forest with a node more. -/
namespace Go.Proofs.YtkngnghbnhgfjaaGreat
open Go Go.Pw

theorem idx_app {α : Type} {l : List α} {m : List α} {n : Int} {x : α} (h : idx l n = some x) : idx (l ++ m) n = some x := by
  have hr := idx_range h
  unfold idx at h ⊢
  rw [if_pos hr.1] at h ⊢
  rw [List.getElem?_append_left (by omega), h]
theorem isB_app {ns : List Node} {m : List Node} {n k : Int} (h : isB ns n k = true) : isB (ns ++ m) n k = true := by
  unfold isB at h ⊢
  cases hx : idx ns n with
  | none => rw [hx] at h; cases h
  | some x => rw [hx] at h; rw [idx_app hx]; exact h
theorem isB_same {ns : List Node} {m : List Node} {n k : Int} {x : Node} (h : idx ns n = some x) : isB (ns ++ m) n k = isB ns n k := by
  unfold isB; rw [idx_app h, h]
theorem kidB_app {ns : List Node} {m : List Node} {n k : Int} {x : Node} (h : kidB ns n x k = true) : kidB (ns ++ m) n x k = true := by
  unfold kidB at h ⊢
  cases hx : idx ns k with
  | none => rw [hx] at h; cases h
  | some y => rw [hx] at h; rw [idx_app hx]; exact h
theorem nodeB_app {ns : List Node} {m : List Node} {n : Int} {x : Node} (h : nodeB ns n x = true) : nodeB (ns ++ m) n x = true := by
  unfold nodeB at h ⊢
  simp only [Bool.and_eq_true] at h ⊢
  obtain ⟨h1, h2, h3, h4, h5, h6⟩ := h
  refine ⟨h1, ?_, ?_, ?_, ?_, ?_⟩
  · unfold ownedB at h2 ⊢
    simp only [Bool.and_eq_true] at h2 ⊢
    exact ⟨isB_app h2.1, h2.2⟩
  · unfold hungB at h3 ⊢
    simp only [Bool.or_eq_true, Bool.and_eq_true] at h3 ⊢
    refine h3.imp id fun ⟨h7, h8⟩ => ⟨h7, ?_⟩
    cases hp : idx ns x.Parent with
    | none => rw [hp] at h8; cases h8
    | some p => rw [hp] at h8; rw [idx_app hp]; exact h8
  · unfold bearsB at h4 ⊢
    simp only [Bool.and_eq_true, List.all_eq_true] at h4 ⊢
    obtain ⟨h7, h8, h9, h10⟩ := h4
    refine ⟨h7, fun k hk => kidB_app (h8 k hk), h9, ?_⟩
    have e : elemsOf (ns ++ m) x.Kids = elemsOf ns x.Kids := by
      unfold elemsOf
      refine List.countP_congr fun k hk => ?_
      have := h8 k hk
      unfold kidB at this
      cases hy : idx ns k with
      | none => rw [hy] at this; cases this
      | some y => rw [isB_same hy]
    rw [e]; exact h10
  · unfold hostB at h5 ⊢
    by_cases hk : x.Kind = 4
    · rw [if_pos hk] at h5 ⊢
      cases hh : idx ns x.Host with
      | none => rw [hh] at h5; cases h5
      | some y => rw [hh] at h5; rw [idx_app hh]; exact h5
    · rw [if_neg hk] at h5 ⊢; exact h5
  · unfold underB at h6 ⊢
    simp only [Bool.or_eq_true, Bool.and_eq_true] at h6 ⊢
    refine h6.imp id fun ⟨h7, h8⟩ => ⟨h7, ?_⟩
    cases hp : idx ns x.Under with
    | none => rw [hp] at h8; cases h8
    | some p => rw [hp] at h8; rw [idx_app hp]; exact h8
theorem upI_app {ns : List Node} {m : List Node} {n : Int} (h : InN ns n) : upI (ns ++ m) n = upI ns n := by
  obtain ⟨x, hx⟩ := idx_some h
  unfold upI
  rw [idx_app hx, hx]
theorem climbB_app {ns m : List Node} (hu : Ups ns) : ∀ (k : Nat) (n : Int), InN ns n → climbB ns k n = true → climbB (ns ++ m) k n = true
  | 0, _, _, h => by cases h
  | k + 1, n, hn, h => by
    simp only [climbB, Bool.or_eq_true, beq_iff_eq] at h ⊢
    rw [upI_app hn]
    rcases h with h | h
    · exact .inl h
    · obtain ⟨x, hx⟩ := idx_some hn
      rcases hu n x hx with h' | ⟨y, hy⟩
      · exact .inl h'
      · exact .inr (climbB_app hu k _ (idx_range hy) h)
end Go.Proofs.YtkngnghbnhgfjaaGreat
/- A right forest with a tree's rows behind it is right. -/
namespace Go.Proofs.YtkngnghbnhgfjaaGreat
open Go Go.Pw
set_option linter.unusedVariables false

/-- Rows that are right where they lie. -/
def okR (L : List Node) (i : Nat) (l : List Node) : Prop := ∀ j x, l[j]? = some x → nodeB L ((i + j : Nat) : Int) x = true
theorem okR_nil {L : List Node} {i : Nat} : okR L i [] := fun j x h => by simp at h
theorem okR_cons {L : List Node} {i : Nat} {x : Node} {l : List Node} (h1 : nodeB L (i : Int) x = true) (h2 : okR L (i + 1) l) : okR L i (x :: l) := fun j y h => by
  cases j with
  | zero => simp at h; subst h; exact h1
  | succ j =>
    have := h2 j y (by simpa using h)
    rw [show i + 1 + j = i + (j + 1) from by omega] at this
    exact this
theorem okR_app {L : List Node} {i : Nat} {l m : List Node} (h1 : okR L i l) (h2 : okR L (i + l.length) m) : okR L i (l ++ m) := fun j y h => by
  by_cases hj : j < l.length
  · rw [List.getElem?_append_left hj] at h; exact h1 j y h
  · rw [List.getElem?_append_right (by omega)] at h
    have := h2 _ y h
    rw [show i + l.length + (j - l.length) = i + j from by omega] at this
    exact this
theorem ats_ge : ∀ (ts : List Tr) (i : Nat) (k : Int), k ∈ ats i ts → (i : Int) ≤ k
  | [], i, k, h => by simp [ats] at h
  | t :: ts, i, k, h => by
    simp only [ats, List.mem_cons] at h
    rcases h with rfl | h
    · exact Int.le_refl _
    · have := ats_ge ts _ k h; omega
theorem ats_nodup : ∀ (ts : List Tr) (i : Nat), (ats i ts).Nodup
  | [], i => by simp [ats]
  | t :: ts, i => by
    simp only [ats, List.nodup_cons]
    refine ⟨fun h => ?_, ats_nodup ts _⟩
    have := ats_ge ts _ _ h
    have := sz_pos t
    omega
/-- The first rows of a list's trees. -/
theorem kids_rows {L : List Node} (doc par : Int) : ∀ (ts : List Tr) (i : Nat) (A B : List Node), L = A ++ layL doc par i ts ++ B → A.length = i → WfL ts →
    ∀ k ∈ ats i ts, ∃ y, idx L k = some y ∧ y.Parent = par ∧ y.Doc = doc ∧ (y.Kind = 1 ∨ y.Kind = 2)
  | [], i, A, B, h, hi, hw, k, hk => by simp [ats] at hk
  | t :: ts, i, A, B, h, hi, hw, k, hk => by
    simp only [ats, List.mem_cons] at hk
    rcases hk with rfl | hk
    · have h' : L = A ++ lay doc par i t ++ (layL doc par (i + sz t) ts ++ B) := by rw [h, layL]; simp
      cases t with
      | text d => exact ⟨_, idx_piece (l := []) h' hi, rfl, rfl, .inr rfl⟩
      | frag ks => exact hw.1.elim
      | elem n s al sh us ks => exact ⟨_, idx_piece h' hi, rfl, rfl, .inl rfl⟩
    · exact kids_rows doc par ts (i + sz t) (A ++ lay doc par i t) B (by rw [h, layL]; simp) (by simp [hi, lay_len]) hw.2.2 k hk
theorem bears_rows {L : List Node} {doc par : Int} {ts : List Tr} {i : Nat} {A B : List Node} {x : Node} (h : L = A ++ layL doc par i ts ++ B) (hi : A.length = i) (hw : WfL ts) (hd : x.Doc = doc) (hk : x.Kind = 1 ∨ x.Kind = 3 ∨ x.Kind = 4) (hx : x.Kids = ats i ts) : bearsB L par x = true := by
  unfold bearsB
  simp only [Bool.and_eq_true, List.all_eq_true, decide_eq_true_eq, hx]
  refine ⟨ats_nodup _ _, fun k hk2 => ?_, ?_, ?_⟩
  · obtain ⟨y, h1, h2, h3, h4⟩ := kids_rows doc par ts i A B h hi hw k hk2
    unfold kidB
    rw [h1]
    simp only [Bool.and_eq_true, Bool.or_eq_true, beq_iff_eq, bne_iff_ne]
    exact ⟨h2, h3.trans hd.symm, h4.imp id fun e => ⟨e, by omega⟩⟩
  · have : holderB x.Kind = true := by
      unfold holderB
      simp only [Bool.or_eq_true, beq_iff_eq]
      omega
    rw [this]; rfl
  · have : (x.Kind != 0) = true := by simp only [bne_iff_ne]; omega
    rw [this]; rfl
/-- Who hangs under a row that names it. -/
def hungK (L : List Node) (par : Int) (l : List Int) : Prop := par = -1 ∨ ∃ p, idx L par = some p ∧ holderB p.Kind = true ∧ ∀ k ∈ l, k ∈ p.Kids
theorem hung_of {L : List Node} {par k : Int} {l : List Int} {x : Node} (h : hungK L par l) (hp : x.Parent = par) (hk : k ∈ l) (hx : par = -1 ∨ x.Kind = 1 ∨ x.Kind = 2) : hungB L k x = true := by
  unfold hungB
  simp only [Bool.or_eq_true, Bool.and_eq_true, beq_iff_eq]
  by_cases hm : par = -1
  · exact .inl (hp.trans hm)
  · obtain ⟨p, h1, h2, h3⟩ := h.resolve_left hm
    refine .inr ⟨hx.resolve_left hm, ?_⟩
    rw [hp, h1]
    simp only [Bool.and_eq_true]
    exact ⟨h2, List.contains_iff_mem.2 (h3 k hk)⟩
theorem owned_of {L : List Node} {n doc : Int} {x : Node} (h : isB L doc 0 = true) (hd : x.Doc = doc) (hk : x.Kind ≠ 0) : ownedB L n x = true := by
  unfold ownedB
  rw [hd, h]
  simp [hk]
mutual
theorem rows_ok {L : List Node} (doc par : Int) (hd : isB L doc 0 = true) : ∀ (t : Tr) (i : Nat) (A B : List Node), L = A ++ lay doc par i t ++ B → A.length = i → Wf t → Fine t → (par = -1 ∨ kid t) → hungK L par [(i : Int)] → okR L i (lay doc par i t)
  | .text d, i, A, B, h, hi, hw, hf, hp, hh => by
    refine okR_cons (l := []) ?_ okR_nil
    unfold nodeB
    simp only [Bool.and_eq_true]
    refine ⟨?_, owned_of hd rfl (by simp), hung_of hh rfl (by simp) (.inr (.inr rfl)), by simp [bearsB], by simp [hostB], by simp [underB]⟩
    have : d.length ≤ 200 := hf
    simp [namedB, this]
  | .frag ks, i, A, B, h, hi, hw, hf, hp, hh => by
    have hx := idx_piece h hi
    have h' : L = (A ++ [⟨3, [], [], [], [], par, ats (i + 1) ks, -1, -1, doc⟩]) ++ layL doc i (i + 1) ks ++ B := by rw [h, lay]; simp
    refine okR_cons ?_ (rowsL_ok doc i hd ks (i + 1) _ B h' (by simp [hi]) hw hf (.inr ⟨_, hx, rfl, fun k hk => hk⟩))
    unfold nodeB
    simp only [Bool.and_eq_true]
    exact ⟨by simp [namedB], owned_of hd rfl (by simp), hung_of hh rfl (by simp) (hp.imp id fun h => h.elim), bears_rows h' (by simp [hi]) hw rfl (.inr (.inl rfl)) rfl, by simp [hostB], by simp [underB]⟩
  | .elem n s al sh us ks, i, A, B, h, hi, hw, hf, hp, hh => by
    obtain ⟨f1, f2, f3, f4, f5⟩ := hf
    have hnm : ∀ (ks : List Int) (u : Int), namedB ⟨1, n, s, [], al, par, ks, -1, u, doc⟩ = true := fun ks u => by
      unfold namedB
      rw [if_pos rfl]
      simp only [Bool.and_eq_true, Bool.or_eq_true, beq_iff_eq]
      exact ⟨f1, f2, trivial, f3⟩
    cases sh with
    | false =>
      have h' : L = (A ++ [⟨1, n, s, [], al, par, ats (i + 1) ks, -1, -1, doc⟩]) ++ layL doc i (i + 1) ks ++ B := by rw [h, lay]; simp
      have hx : idx L (i : Int) = some ⟨1, n, s, [], al, par, ats (i + 1) ks, -1, -1, doc⟩ := by have := idx_piece h hi; rw [this]; simp
      have e : lay doc par i (.elem n s al false us ks) = ⟨1, n, s, [], al, par, ats (i + 1) ks, -1, -1, doc⟩ :: layL doc i (i + 1) ks := by simp [lay]
      rw [e]
      refine okR_cons ?_ (rowsL_ok doc i hd ks (i + 1) _ B h' (by simp [hi]) hw.2.2.2.2.2 f5 (.inr ⟨_, hx, rfl, fun k hk => hk⟩))
      unfold nodeB
      simp only [Bool.and_eq_true]
      exact ⟨hnm _ _, owned_of hd rfl (by simp), hung_of hh rfl (by simp) (.inr (.inl rfl)), bears_rows h' (by simp [hi]) hw.2.2.2.2.2 rfl (.inl rfl) rfl, by simp [hostB], by simp [underB]⟩
    | true =>
      have e : lay doc par i (.elem n s al true us ks) = ⟨1, n, s, [], al, par, ats (i + 1 + (1 + szL us)) ks, -1, ((i + 1 : Nat) : Int), doc⟩ :: (⟨4, [], [], [], [], -1, ats (i + 2) us, (i : Int), -1, doc⟩ :: (layL doc ((i + 1 : Nat) : Int) (i + 2) us ++ layL doc i (i + 1 + (1 + szL us)) ks)) := by simp [lay]
      rw [e] at h ⊢
      have hx := idx_piece h hi
      have he : L = (A ++ [⟨1, n, s, [], al, par, ats (i + 1 + (1 + szL us)) ks, -1, ((i + 1 : Nat) : Int), doc⟩]) ++ (⟨4, [], [], [], [], -1, ats (i + 2) us, (i : Int), -1, doc⟩ :: (layL doc ((i + 1 : Nat) : Int) (i + 2) us ++ layL doc i (i + 1 + (1 + szL us)) ks)) ++ B := by rw [h]; simp
      have hy := idx_piece he (i := i + 1) (by simp [hi])
      have hu : L = (A ++ [⟨1, n, s, [], al, par, ats (i + 1 + (1 + szL us)) ks, -1, ((i + 1 : Nat) : Int), doc⟩, ⟨4, [], [], [], [], -1, ats (i + 2) us, (i : Int), -1, doc⟩]) ++ layL doc ((i + 1 : Nat) : Int) (i + 2) us ++ (layL doc i (i + 1 + (1 + szL us)) ks ++ B) := by rw [h]; simp
      have hk : L = (A ++ ⟨1, n, s, [], al, par, ats (i + 1 + (1 + szL us)) ks, -1, ((i + 1 : Nat) : Int), doc⟩ :: ⟨4, [], [], [], [], -1, ats (i + 2) us, (i : Int), -1, doc⟩ :: layL doc ((i + 1 : Nat) : Int) (i + 2) us) ++ layL doc i (i + 1 + (1 + szL us)) ks ++ B := by rw [h]; simp
      refine okR_cons ?_ (okR_cons ?_ (okR_app (rowsL_ok doc ((i + 1 : Nat) : Int) hd us (i + 2) _ _ hu (by simp [hi]) hw.2.2.2.2.1 f4 (.inr ⟨_, hy, rfl, fun k hk => hk⟩)) ?_))
      · unfold nodeB
        simp only [Bool.and_eq_true]
        refine ⟨hnm _ _, owned_of hd rfl (by simp), hung_of hh rfl (by simp) (.inr (.inl rfl)), bears_rows hk (by simp [hi, layL_len]; omega) hw.2.2.2.2.2 rfl (.inl rfl) rfl, by simp [hostB], ?_⟩
        unfold underB
        simp only [hy]
        simp
      · unfold nodeB
        simp only [Bool.and_eq_true]
        refine ⟨by simp [namedB], owned_of hd rfl (by simp), by simp [hungB], bears_rows hu (by simp [hi]) hw.2.2.2.2.1 rfl (.inr (.inr rfl)) rfl, ?_, by simp [underB]⟩
        unfold hostB
        simp only [hx]
        simp
      · rw [layL_len]
        have := rowsL_ok doc i hd ks (i + 1 + (1 + szL us)) _ B hk (by simp [hi, layL_len]; omega) hw.2.2.2.2.2 f5 (.inr ⟨_, hx, rfl, fun k hk => hk⟩)
        rw [show i + 1 + 1 + szL us = i + 1 + (1 + szL us) from by omega]
        exact this
theorem rowsL_ok {L : List Node} (doc par : Int) (hd : isB L doc 0 = true) : ∀ (ts : List Tr) (i : Nat) (A B : List Node), L = A ++ layL doc par i ts ++ B → A.length = i → WfL ts → FineL ts → hungK L par (ats i ts) → okR L i (layL doc par i ts)
  | [], i, A, B, h, hi, hw, hf, hh => okR_nil
  | t :: ts, i, A, B, h, hi, hw, hf, hh => by
    have h1 : L = A ++ lay doc par i t ++ (layL doc par (i + sz t) ts ++ B) := by rw [h, layL]; simp
    have h2 : L = (A ++ lay doc par i t) ++ layL doc par (i + sz t) ts ++ B := by rw [h, layL]; simp
    rw [layL]
    refine okR_app (rows_ok doc par hd t i A _ h1 hi hw.2.1 hf.1 (.inr hw.1) (hh.imp id fun ⟨p, g1, g2, g3⟩ => ⟨p, g1, g2, fun k hk => g3 k (by simp at hk; simp [ats, hk])⟩)) ?_
    rw [lay_len]
    exact rowsL_ok doc par hd ts (i + sz t) _ B h2 (by simp [hi, lay_len]) hw.2.2 hf.2 (hh.imp id fun ⟨p, g1, g2, g3⟩ => ⟨p, g1, g2, fun k hk => g3 k (by simp [ats, hk])⟩)
end
theorem climb_le {ns : List Node} {k j : Nat} {n : Int} (h : climbB ns k n = true) (hj : k ≤ j) : climbB ns j n = true := by
  induction j with
  | zero => rw [Nat.le_zero.1 hj] at h; exact h
  | succ j ih =>
    by_cases he : k = j + 1
    · rw [← he]; exact h
    · exact climbB_more j n (ih (by omega))
theorem climb_up {L : List Node} {i : Int} {x : Node} {k : Nat} (hx : idx L i = some x) (h : (if x.Parent = -1 then x.Host else x.Parent) = -1 ∨ climbB L k (if x.Parent = -1 then x.Host else x.Parent) = true) : climbB L (k + 1) i = true := by
  simp only [climbB, Bool.or_eq_true, beq_iff_eq]
  rw [upI_at hx]
  exact h
mutual
theorem rows_up {L : List Node} (doc par : Int) : ∀ (t : Tr) (i : Nat) (A B : List Node) (k : Nat), L = A ++ lay doc par i t ++ B → A.length = i → (par = -1 ∨ climbB L k par = true) → ∀ j < sz t, climbB L (k + sz t) ((i + j : Nat) : Int) = true
  | .text d, i, A, B, k, h, hi, hp, j, hj => by
    obtain rfl : j = 0 := by simp only [sz] at hj; omega
    have hx := idx_piece (l := []) h hi
    refine climb_up hx ?_
    by_cases hm : par = -1
    · left; simp [hm]
    · right; simpa [hm] using hp.resolve_left hm
  | .frag ks, i, A, B, k, h, hi, hp, j, hj => by
    have hx := idx_piece h hi
    have h0 : climbB L (k + 1) (i : Int) = true := by
      refine climb_up hx ?_
      by_cases hm : par = -1
      · left; simp [hm]
      · right; simpa [hm] using hp.resolve_left hm
    cases j with
    | zero => exact climb_le h0 (by simp only [sz]; omega)
    | succ j =>
      have h' : L = (A ++ [⟨3, [], [], [], [], par, ats (i + 1) ks, -1, -1, doc⟩]) ++ layL doc i (i + 1) ks ++ B := by rw [h, lay]; simp
      have := rowsL_up doc i ks (i + 1) _ B (k + 1) h' (by simp [hi]) (.inr h0) j (by simp only [sz] at hj; omega)
      rw [show i + 1 + j = i + (j + 1) from by omega] at this
      exact climb_le this (by simp only [sz]; omega)
  | .elem n s al sh us ks, i, A, B, k, h, hi, hp, j, hj => by
    have hx := idx_piece h hi
    have h0 : climbB L (k + 1) (i : Int) = true := by
      refine climb_up hx ?_
      by_cases hm : par = -1
      · left; simp [hm]
      · right; simpa [hm] using hp.resolve_left hm
    cases j with
    | zero => exact climb_le h0 (by simp only [sz]; omega)
    | succ j =>
      cases sh with
      | false =>
        have h' : L = (A ++ [⟨1, n, s, [], al, par, ats (i + 1) ks, -1, -1, doc⟩]) ++ layL doc i (i + 1) ks ++ B := by rw [h, lay]; simp
        have := rowsL_up doc i ks (i + 1) _ B (k + 1) h' (by simp [hi]) (.inr h0) j (by simp [sz] at hj; omega)
        rw [show i + 1 + j = i + (j + 1) from by omega] at this
        exact climb_le this (by simp [sz]; omega)
      | true =>
        have e : lay doc par i (.elem n s al true us ks) = ⟨1, n, s, [], al, par, ats (i + 1 + (1 + szL us)) ks, -1, ((i + 1 : Nat) : Int), doc⟩ :: (⟨4, [], [], [], [], -1, ats (i + 2) us, (i : Int), -1, doc⟩ :: (layL doc ((i + 1 : Nat) : Int) (i + 2) us ++ layL doc i (i + 1 + (1 + szL us)) ks)) := by simp [lay]
        rw [e] at h
        have he : L = (A ++ [⟨1, n, s, [], al, par, ats (i + 1 + (1 + szL us)) ks, -1, ((i + 1 : Nat) : Int), doc⟩]) ++ (⟨4, [], [], [], [], -1, ats (i + 2) us, (i : Int), -1, doc⟩ :: (layL doc ((i + 1 : Nat) : Int) (i + 2) us ++ layL doc i (i + 1 + (1 + szL us)) ks)) ++ B := by rw [h]; simp
        have hy := idx_piece he (i := i + 1) (by simp [hi])
        have h1 : climbB L (k + 2) ((i + 1 : Nat) : Int) = true := climb_up hy (.inr h0)
        have hu : L = (A ++ [⟨1, n, s, [], al, par, ats (i + 1 + (1 + szL us)) ks, -1, ((i + 1 : Nat) : Int), doc⟩, ⟨4, [], [], [], [], -1, ats (i + 2) us, (i : Int), -1, doc⟩]) ++ layL doc ((i + 1 : Nat) : Int) (i + 2) us ++ (layL doc i (i + 1 + (1 + szL us)) ks ++ B) := by rw [h]; simp
        have hk : L = (A ++ ⟨1, n, s, [], al, par, ats (i + 1 + (1 + szL us)) ks, -1, ((i + 1 : Nat) : Int), doc⟩ :: ⟨4, [], [], [], [], -1, ats (i + 2) us, (i : Int), -1, doc⟩ :: layL doc ((i + 1 : Nat) : Int) (i + 2) us) ++ layL doc i (i + 1 + (1 + szL us)) ks ++ B := by rw [h]; simp
        have hsz : sz (.elem n s al true us ks) = 1 + (1 + szL us) + szL ks := by simp [sz]
        rw [hsz] at hj ⊢
        cases j with
        | zero => exact climb_le h1 (by omega)
        | succ j =>
          by_cases hj2 : j < szL us
          · have := rowsL_up doc ((i + 1 : Nat) : Int) us (i + 2) _ _ (k + 2) hu (by simp [hi]) (.inr h1) j hj2
            rw [show i + 2 + j = i + (j + 1 + 1) from by omega] at this
            exact climb_le this (by omega)
          · have := rowsL_up doc i ks (i + 1 + (1 + szL us)) _ B (k + 1) hk (by simp [hi, layL_len]; omega) (.inr h0) (j - szL us) (by omega)
            rw [show i + 1 + (1 + szL us) + (j - szL us) = i + (j + 1 + 1) from by omega] at this
            exact climb_le this (by omega)
theorem rowsL_up {L : List Node} (doc par : Int) : ∀ (ts : List Tr) (i : Nat) (A B : List Node) (k : Nat), L = A ++ layL doc par i ts ++ B → A.length = i → (par = -1 ∨ climbB L k par = true) → ∀ j < szL ts, climbB L (k + szL ts) ((i + j : Nat) : Int) = true
  | [], i, A, B, k, h, hi, hp, j, hj => by simp [szL] at hj
  | t :: ts, i, A, B, k, h, hi, hp, j, hj => by
    have h1 : L = A ++ lay doc par i t ++ (layL doc par (i + sz t) ts ++ B) := by rw [h, layL]; simp
    have h2 : L = (A ++ lay doc par i t) ++ layL doc par (i + sz t) ts ++ B := by rw [h, layL]; simp
    simp only [szL] at hj ⊢
    by_cases hj2 : j < sz t
    · exact climb_le (rows_up doc par t i A _ k h1 hi hp j hj2) (by omega)
    · have := rowsL_up doc par ts (i + sz t) _ B k h2 (by simp [hi, lay_len]) hp (j - sz t) (by omega)
      rw [show i + sz t + (j - sz t) = i + j from by omega] at this
      exact climb_le this (by omega)
end
theorem lay_right {f : Forest} {doc : Int} {t : Tr} {m : Int} (hr : frightB f = true) (hd : isB f.Nodes doc 0 = true) (hw : Wf t) (hf : Fine t) (hm : ((f.Nodes.length + sz t : Nat) : Int) ≤ m) (hm4 : m ≤ 400) : frightB ⟨f.Nodes ++ lay doc (-1) f.Nodes.length t, m⟩ = true := by
  have hparts := right_parts hr
  have hups : Ups f.Nodes := nodes_ups hparts.2.2.1
  unfold frightB at hr ⊢
  simp only [Bool.and_eq_true, decide_eq_true_eq] at hr ⊢
  obtain ⟨h1, h2, h3, h4, h5, h6, h7⟩ := hr
  refine ⟨by omega, hm4, by simp; omega, by simp [lay_len]; omega, isB_app h5, ?_, ?_⟩
  · have hrows := rows_ok (L := f.Nodes ++ lay doc (-1) f.Nodes.length t) doc (-1) (isB_app hd) t f.Nodes.length f.Nodes [] (by simp) rfl hw hf (.inl rfl) (.inl rfl)
    unfold nodesB
    rw [List.all_eq_true]
    intro i hi
    simp only [List.mem_range, List.length_append] at hi
    by_cases hl : i < f.Nodes.length
    · have hx := idx_lt hl
      rw [List.getElem?_append_left hl, List.getElem?_eq_getElem hl]
      exact nodeB_app (nodes_at h6 hx)
    · rw [List.getElem?_append_right (by omega)]
      cases hx : (lay doc (-1) f.Nodes.length t)[i - f.Nodes.length]? with
      | none => rfl
      | some x =>
        have := hrows _ _ hx
        rw [show f.Nodes.length + (i - f.Nodes.length) = i from by omega] at this
        exact this
  · unfold endsB
    rw [List.all_eq_true]
    intro i hi
    simp only [List.mem_range, List.length_append, lay_len] at hi
    have hlen : (f.Nodes ++ lay doc (-1) f.Nodes.length t).length = f.Nodes.length + sz t := by simp [lay_len]
    show climbB _ (f.Nodes ++ lay doc (-1) f.Nodes.length t).length _ = true
    rw [hlen]
    by_cases hl : i < f.Nodes.length
    · exact climb_le (climbB_app hups _ _ (by unfold InN; omega) (ends_at h7 (by omega))) (by omega)
    · have := rows_up (L := f.Nodes ++ lay doc (-1) f.Nodes.length t) doc (-1) t f.Nodes.length f.Nodes [] 0 (by simp) rfl (.inl rfl) (i - f.Nodes.length) (by omega)
      rw [show f.Nodes.length + (i - f.Nodes.length) = i from by omega] at this
      exact climb_le this (by omega)
/-- What was there stands as it stood. -/
theorem sub_app {ns m : List Node} {n : Int} (h : InN ns n) : subI (ns ++ m) n = subI ns n := by
  obtain ⟨x, hx⟩ := idx_some h
  rw [sub_at hx, sub_at (idx_app hx)]
theorem kidsI_app {ns m : List Node} {n : Int} (h : InN ns n) : kidsI (ns ++ m) n = kidsI ns n := by
  obtain ⟨x, hx⟩ := idx_some h
  rw [kids_at hx, kids_at (idx_app hx)]
theorem in_app {ns m : List Node} {n : Int} (h : InN ns n) : InN (ns ++ m) n := by
  unfold InN at h ⊢
  simp; omega
theorem allU_app {ns m : List Node} (T : TreeU ns) (T' : TreeU (ns ++ m)) : ∀ n, InN ns n → allU (ns ++ m) n = allU ns n := T.down_ind fun n hn ih => by
  rw [T.all_eq hn, T'.all_eq (in_app hn), sub_app hn, List.flatMap_def, List.flatMap_def, List.map_congr_left ih]
theorem allN_app {ns m : List Node} (T : Tree ns) (T' : Tree (ns ++ m)) : ∀ n, InN ns n → allN (ns ++ m) n = allN ns n := T.down_ind fun n hn ih => by
  rw [T.all_eq hn, T'.all_eq (in_app hn), kidsI_app hn, List.flatMap_def, List.flatMap_def, List.map_congr_left ih]
theorem bare_app {ns m : List Node} {n : Int} (h : InN ns n) : bare (ns ++ m) n = bare ns n := by
  obtain ⟨x, hx⟩ := idx_some h
  unfold bare
  rw [hx, idx_app hx]
end Go.Proofs.YtkngnghbnhgfjaaGreat
/- print.Read: what it answers. -/
namespace Go.Proofs.YtkngnghbnhgfjaaGreat
open Go Go.Pw
set_option linter.unusedVariables false

mutual
theorem lay_kids (doc par : Int) : ∀ (t : Tr) (i : Nat), ∀ x ∈ lay doc par i t, x.Kids.length ≤ sz t
  | .text d, i, x, hx => by simp only [lay, List.mem_singleton] at hx; subst hx; simp
  | .frag ks, i, x, hx => by
    simp only [lay, List.mem_cons] at hx
    have := wfl_len ks
    rcases hx with rfl | hx
    · simp only [ats_len, sz]; omega
    · have := layL_kids doc i ks (i + 1) x hx
      simp only [sz]; omega
  | .elem n s al sh us ks, i, x, hx => by
    have := wfl_len ks
    have := wfl_len us
    cases sh with
    | false =>
      simp only [lay, Bool.false_eq_true, if_false, List.mem_cons, List.nil_append] at hx
      simp only [sz, Bool.false_eq_true, if_false]
      rcases hx with rfl | hx
      · simp only [ats_len]; omega
      · have := layL_kids doc i ks _ x hx
        omega
    | true =>
      simp only [lay, if_true, List.mem_cons, List.cons_append, List.mem_append] at hx
      simp only [sz, if_true]
      rcases hx with rfl | rfl | hx | hx
      · simp only [ats_len]; omega
      · simp only [ats_len]; omega
      · have := layL_kids doc ((i + 1 : Nat) : Int) us _ x hx
        omega
      · have := layL_kids doc i ks _ x hx
        omega
theorem layL_kids (doc par : Int) : ∀ (ts : List Tr) (i : Nat), ∀ x ∈ layL doc par i ts, x.Kids.length ≤ szL ts
  | [], i, x, hx => by simp [layL] at hx
  | t :: ts, i, x, hx => by
    simp only [layL, List.mem_append] at hx
    simp only [szL]
    rcases hx with hx | hx
    · have := lay_kids doc par t i x hx; omega
    · have := layL_kids doc par ts (i + sz t) x hx; omega
end
theorem right_most {ns : List Node} {m m' : Int} (h : frightB ⟨ns, m⟩ = true) (h1 : 1 ≤ m') (h2 : m' ≤ 400) (h3 : (ns.length : Int) ≤ m') : frightB ⟨ns, m'⟩ = true := by
  unfold frightB at h ⊢
  simp only [Bool.and_eq_true, decide_eq_true_eq] at h ⊢
  exact ⟨h1, h2, h.2.2.1, h3, h.2.2.2.2⟩
theorem map_fst (ns : List Node) (l : List Node) : ((ns.map fun x => (x, false)) ++ mk l).map Prod.fst = ns ++ l := by
  rw [List.map_append, mk, List.map_map, List.map_map]
  simp [Function.comp_def]
/-- Up to the reader's run. -/
theorem read_head {fu : Nat} {f : Forest} {doc : Int} {s : Bs} (hr : frightB f = true) (hk : KidsFit fu f.Nodes) (hfu : 1000 < fu) (hd : isB f.Nodes doc 0 = true) (hs : s.length ≤ 16384) :
    Print_Read_m fu f doc s = bnd (Print_reader_node_m fu 400 doc s false (f.Nodes.map fun x => (x, false))) fun r7 => cnd r7.2.2.1 (some (f, (-1), 2)) (cnd (!(r7.2.1 == ([] : Bs))) (some (f, (-1), 2)) (bnd (Forest_Right_m fu (⟨(r7.2.2.2.map Prod.fst), 400⟩ : Forest)) fun r8 => cnd (!r8) (some (f, (-1), 2)) (cnd (decide ((((r7.2.2.2.map Prod.fst).length : Nat) : Int) > f.Most)) (some (f, (-1), 8)) (some ((⟨(r7.2.2.2.map Prod.fst), f.Most⟩ : Forest), ((f.Nodes.length : Nat) : Int), 0))))) := by
  have hl := (right_parts hr).2.1
  unfold isB at hd
  cases hx : idx f.Nodes doc with
  | none => rw [hx] at hd; cases hd
  | some x =>
    rw [hx] at hd
    have hd : (x.Kind == 0) = true := hd
    have hin := idx_range hx
    unfold Print_Read_m Slices_Clone_apiNode_m
    rw [fright_ok hfu hk, bnd_some, hr, show (!true) = false from rfl, cnd_false, cnd_dec, cnd_dec, if_neg (by omega), if_neg (by omega), hx, bnd_some, show (x.Kind != 0) = !(x.Kind == 0) from rfl, hd, show (!true) = false from rfl, cnd_false, cnd_dec, if_neg (by omega), roomy_ok (by simp; omega), bnd_some, bnd_some]
    rfl
theorem read_cases {fu : Nat} {f : Forest} {doc : Int} {s : Bs} (hr : frightB f = true) (hk : KidsFit fu f.Nodes) (hfu : 3 * s.length + 2000 < fu) (hd : isB f.Nodes doc 0 = true) (hs : s.length ≤ 16384) :
    Print_Read_m fu f doc s = some (f, -1, 2) ∨ ∃ t, Wf t ∧ s = put t ∧ f.Nodes.length + sz t ≤ 400 ∧ frightB ⟨f.Nodes ++ lay doc (-1) f.Nodes.length t, 400⟩ = true ∧
      (Print_Read_m fu f doc s = some (f, -1, 8) ∨ (frightB ⟨f.Nodes ++ lay doc (-1) f.Nodes.length t, f.Most⟩ = true ∧ KidsFit fu (f.Nodes ++ lay doc (-1) f.Nodes.length t) ∧ Print_Read_m fu f doc s = some (⟨f.Nodes ++ lay doc (-1) f.Nodes.length t, f.Most⟩, ((f.Nodes.length : Nat) : Int), 0))) := by
  have hl := (right_parts hr).2.1
  rw [read_head hr hk (by omega) hd hs]
  have hlm : (f.Nodes.map fun x => (x, false)).length = f.Nodes.length := by simp
  obtain ⟨r, b', ext, e1, e2, e3, e4, e5, e6⟩ := node_ok (most := 400) (doc := doc) s.length fu (by omega) (by omega) s false (f.Nodes.map fun x => (x, false)) (Nat.le_refl _) (by rw [hlm]; omega)
  rw [e1, bnd_some]
  cases b' with
  | true => exact .inl rfl
  | false =>
    rw [cnd_false]
    obtain ⟨_, _, t, h1, h2, h3⟩ := e6 rfl
    by_cases hrn : r = []
    · subst hrn
      rw [show (!(([] : Bs) == [])) = false from rfl, cnd_false, h3, map_fst, hlm]
      have hsz : ext.length = sz t := by rw [h3]; simp [mk, lay_len]
      have hle : sz t ≤ 3 * s.length := by have := e5; simp at this; omega
      have hfit : KidsFit fu (f.Nodes ++ lay doc (-1) f.Nodes.length t) := fun x hx => by
        rcases List.mem_append.1 hx with hx | hx
        · exact hk x hx
        · have := lay_kids doc (-1) t f.Nodes.length x hx
          omega
      rw [fright_ok (by omega) hfit, bnd_some]
      cases hrg : frightB ⟨f.Nodes ++ lay doc (-1) f.Nodes.length t, 400⟩ with
      | false => exact .inl rfl
      | true =>
        right
        have hl2 := (right_parts hrg).2.1
        simp only [List.length_append, lay_len] at hl2
        refine ⟨t, h1, by simpa using h2, hl2, hrg, ?_⟩
        rw [show (!true) = false from rfl, cnd_false, cnd_dec]
        by_cases hm : ((((f.Nodes ++ lay doc (-1) f.Nodes.length t).length : Nat) : Int) > f.Most)
        · rw [if_pos hm]; exact .inl rfl
        · rw [if_neg hm]
          refine .inr ⟨?_, hfit, rfl⟩
          have := hr
          unfold frightB at this
          simp only [Bool.and_eq_true, decide_eq_true_eq] at this
          exact right_most hrg this.1 this.2.1 (by omega)
    · rw [show (!(r == ([] : Bs))) = true from by simpa using hrn, cnd_true]
      exact .inl rfl
/-- A tree's text is read as that tree. -/
theorem read_put {fu : Nat} {f : Forest} {doc : Int} {t : Tr} (hr : frightB f = true) (hk : KidsFit fu f.Nodes) (hfu : 3 * (put t).length + 2000 < fu) (hd : isB f.Nodes doc 0 = true) (hs : (put t).length ≤ 16384) (hw : Wf t) (hf : Fine t) (hz : ((f.Nodes.length + sz t : Nat) : Int) ≤ f.Most) :
    Print_Read_m fu f doc (put t) = some (⟨f.Nodes ++ lay doc (-1) f.Nodes.length t, f.Most⟩, ((f.Nodes.length : Nat) : Int), 0) := by
  have hm : f.Most ≤ 400 := by
    have := hr
    unfold frightB at this
    simp only [Bool.and_eq_true, decide_eq_true_eq] at this
    exact this.2.1
  rw [read_head hr hk (by omega) hd hs]
  have hlm : (f.Nodes.map fun x => (x, false)).length = f.Nodes.length := by simp
  have := node_c (most := 400) (doc := doc) (put t).length fu (by omega) (by omega) t [] (f.Nodes.map fun x => (x, false)) hw (by simp) (by rw [hlm]; omega)
  rw [List.append_nil] at this
  have hfit : KidsFit fu (f.Nodes ++ lay doc (-1) f.Nodes.length t) := fun x hx => by
    rcases List.mem_append.1 hx with hx | hx
    · exact hk x hx
    · have := lay_kids doc (-1) t f.Nodes.length x hx
      omega
  have hrg := lay_right (m := 400) hr hd hw hf (by omega) (by omega)
  rw [this, bnd_some, cnd_false, show (!(([] : Bs) == [])) = false from rfl, cnd_false, hlm]
  simp only []
  rw [map_fst, fright_ok (by omega) hfit, bnd_some, hrg, show (!true) = false from rfl, cnd_false, cnd_dec, if_neg (by simp [lay_len]; omega)]
end Go.Proofs.YtkngnghbnhgfjaaGreat
/- The printer: what it puts is a node's text. -/
namespace Go.Proofs.YtkngnghbnhgfjaaGreat
open Go Go.Pw
set_option linter.unusedVariables false

theorem quote_m_ok {fu : Nat} {s : Bs} (h : s.length ≤ 1000000000) : quote_m fu s = some (34 :: quoL s ++ [34]) := if_pos h
abbrev Pf := Int → List Node → Int → List Int → Option (List Int)
/-- What puts some nodes' texts, as far as there is room. -/
def PutsOk (sg : Pf) (ns : List Node) (c3 : Int) (p : Int → Bs) (k : Int) : Prop := ∀ buf : Bs, buf.length + (p k).length ≤ 1000000000 → sg k ns c3 (bytesOf buf) = some (bytesOf (buf ++ p k))
theorem all_m {sg : Pf} {ns : List Node} {c3 : Int} {p : Int → Bs} {l : List Int} (hl : l.length ≤ 1000000) (h : ∀ k ∈ l, PutsOk sg ns c3 p k) : ∀ (j i K : Nat) (buf : Bs), i + j = l.length → j < K → buf.length + ((l.drop i).flatMap p).length ≤ 1000000000 →
    Print_printer_all_l1 sg l ns c3 K ((i : Int), bytesOf buf) = some (bytesOf (buf ++ (l.drop i).flatMap p)) := by
  intro j
  induction j with
  | zero =>
    intro i K buf hi hK hb
    obtain ⟨K, rfl⟩ : ∃ k', K = k' + 1 := ⟨K - 1, by omega⟩
    obtain rfl : i = l.length := by omega
    rw [Print_printer_all_l1, cnd_neg (by simp), List.drop_length]
    simp
  | succ j ih =>
    intro i K buf hi hK hb
    obtain ⟨K, rfl⟩ : ∃ k', K = k' + 1 := ⟨K - 1, by omega⟩
    have hlt : i < l.length := by omega
    rw [List.drop_eq_getElem_cons hlt] at hb ⊢
    simp only [List.flatMap_cons, List.length_append] at hb ⊢
    rw [Print_printer_all_l1, cnd_pos (by simpa using hlt), idx_lt hlt, bnd_some, h _ (List.getElem_mem hlt) buf (by omega), bnd_some, rng_nat (by omega), bnd_some, ih (i + 1) K _ (by omega) (by omega) (by simp only [List.length_append]; omega), List.append_assoc]
theorem between_m {sg : Pf} {fu : Nat} {ns : List Node} {c3 : Int} {p : Int → Bs} {n : Int} {x : Node} {o c : Bs} (hx : idx ns n = some x) (hl : x.Kids.length ≤ 1000000) (hf : x.Kids.length < fu) (h : ∀ k ∈ x.Kids, PutsOk sg ns c3 p k) (buf : Bs) (hb : buf.length + (o.length + (x.Kids.flatMap p).length + c.length) ≤ 1000000000) :
    Print_printer_between_m sg fu o c n ns c3 (bytesOf buf) = some (bytesOf (buf ++ (o ++ x.Kids.flatMap p ++ c))) := by
  unfold Print_printer_between_m Print_printer_all_m
  rw [wstr (by omega), bnd_some, hx, bnd_some]
  have := all_m hl h x.Kids.length 0 fu (buf ++ o) (by omega) hf (by simp only [List.drop_zero, List.length_append]; omega)
  simp only [List.drop_zero] at this
  simp only []
  rw [show ((0 : Nat) : Int) = 0 from rfl] at this
  rw [this, bnd_some, wstr (by simp only [List.length_append]; omega), bnd_some]
  simp [List.append_assoc]
theorem pattrs_l {sf : Pf} {fu : Nat} {ns : List Node} {c3 : Int} {p : Int → Bs} {n : Int} {x : Node} (hx : idx ns n = some x) (hl : x.Kids.length ≤ 1000000) (hal : x.Attrs.length ≤ 1000000) (hf : x.Kids.length < fu) (h : ∀ k ∈ x.Kids, PutsOk sf ns c3 p k) (hu : x.Under ≠ -1 → PutsOk sf ns c3 p x.Under) :
    ∀ (j i K : Nat) (buf : Bs), i + j = x.Attrs.length → j < K → buf.length + (putA (x.Attrs.drop i) ++ 62 :: (if x.Under = -1 then [] else p x.Under) ++ x.Kids.flatMap p ++ 60 :: 47 :: x.Name ++ [62]).length ≤ 1000000000 →
    Print_printer_node_l1 sf fu n ns c3 x K ((i : Int), bytesOf buf) = some (bytesOf (buf ++ (putA (x.Attrs.drop i) ++ 62 :: (if x.Under = -1 then [] else p x.Under) ++ x.Kids.flatMap p ++ 60 :: 47 :: x.Name ++ [62]))) := by
  intro j
  induction j with
  | zero =>
    intro i K buf hi hK hb
    obtain ⟨K, rfl⟩ : ∃ k', K = k' + 1 := ⟨K - 1, by omega⟩
    obtain rfl : i = x.Attrs.length := by omega
    rw [Print_printer_node_l1, cnd_neg (by simp)]
    rw [List.drop_length, putA, List.nil_append] at hb ⊢
    simp only [List.length_append, List.length_cons, List.length_nil] at hb
    rw [wstr (by simp only [List.length_cons, List.length_nil]; omega), bnd_some]
    simp only []
    by_cases hn : x.Under = -1
    · rw [hn, show ((-1 : Int) != -1) = false from rfl, cnd_false, if_pos rfl]
      rw [if_pos hn] at hb
      simp only [List.length_nil] at hb
      rw [cat_ok (by simp only [List.length_cons, List.length_nil]; omega), bnd_some, cat_ok (by simp only [List.length_append, List.length_cons, List.length_nil]; omega), bnd_some, between_m hx hl hf h _ (by simp only [List.length_append, List.length_cons, List.length_nil]; omega), bnd_some]
      simp
    · rw [show (x.Under != -1) = true from by simpa using hn, cnd_true, if_neg hn]
      rw [if_neg hn] at hb
      rw [hu hn _ (by simp only [List.length_append, List.length_cons, List.length_nil]; omega), bnd_some, cat_ok (by simp only [List.length_cons, List.length_nil]; omega), bnd_some, cat_ok (by simp only [List.length_append, List.length_cons, List.length_nil]; omega), bnd_some, between_m hx hl hf h _ (by simp only [List.length_append, List.length_cons, List.length_nil]; omega), bnd_some]
      simp
  | succ j ih =>
    intro i K buf hi hK hb
    obtain ⟨K, rfl⟩ : ∃ k', K = k' + 1 := ⟨K - 1, by omega⟩
    have hlt : i < x.Attrs.length := by omega
    rw [List.drop_eq_getElem_cons hlt, putA] at hb ⊢
    have hq := quo_ge (x.Attrs[i]).Value
    rw [Print_printer_node_l1, cnd_pos (by simpa using hlt), idx_lt hlt, bnd_some]
    generalize x.Attrs[i] = a at hb hq ⊢
    simp only [List.length_append, List.length_cons, List.length_nil] at hb
    rw [cat_ok (by simp only [List.length_cons, List.length_nil]; omega), bnd_some, cat_ok (by simp only [List.length_append, List.length_cons, List.length_nil]; omega), bnd_some, quote_m_ok (by omega), bnd_some, cat_ok (by simp only [List.length_append, List.length_cons, List.length_nil]; omega), bnd_some, wstr (by simp only [List.length_append, List.length_cons, List.length_nil]; omega), bnd_some, rng_nat (by omega), bnd_some]
    simp only []
    rw [ih (i + 1) K _ (by omega) (by omega) (by simp only [List.length_append, List.length_cons, List.length_nil]; omega)]
    simp
section
variable {ns : List Node} (T : TreeU ns)
include T
/-- The printer puts a node's text. -/
theorem TreeU.printer {F : Nat} {c3 : Int} (hF : F ≤ 1000000) (hfit : ∀ x ∈ ns, x.Kids.length < F ∧ x.Attrs.length < F) (hkind : ∀ x ∈ ns, 0 ≤ x.Kind ∧ x.Kind ≤ 4) : ∀ (d : Nat) (n : Int) (fu : Nat), InN ns n → ns.length < (wayU ns n).length + d → d + F ≤ fu → PutsOk (Print_printer_node_m fu) ns c3 (putU ns) n := by
  intro d
  induction d with
  | zero => intro n fu hn hl; have := T.wayU_len hn; omega
  | succ d ih =>
    intro n fu hn hl hf buf hb
    obtain ⟨fu, rfl⟩ : ∃ k, fu = k + 1 := ⟨fu - 1, by omega⟩
    obtain ⟨x, hx⟩ := idx_some hn
    obtain ⟨hk, ha⟩ := hfit x (idx_mem hx)
    have hsub : ∀ k, k ∈ (if x.Under = -1 then [] else [x.Under]) ++ x.Kids → PutsOk (Print_printer_node_m fu) ns c3 (putU ns) k := fun k hk => by
      have hs : k ∈ subI ns n := by rw [sub_at hx]; exact hk
      exact ih k fu (T.kid n k hs).2.1 (by rw [T.wayU_kid hs, List.length_cons]; omega) (by omega)
    have hkids : ∀ k ∈ x.Kids, PutsOk (Print_printer_node_m fu) ns c3 (putU ns) k := fun k hk => hsub k (by simp [hk])
    have hund : x.Under ≠ -1 → PutsOk (Print_printer_node_m fu) ns c3 (putU ns) x.Under := fun hu => hsub _ (by rw [if_neg hu]; simp)
    rw [T.put_eq hx] at hb ⊢
    rw [Print_printer_node_m, hx, bnd_some, cnd_eq, cnd_eq, cnd_eq, cnd_eq]
    unfold putX at hb ⊢
    by_cases h2 : x.Kind = 2
    · rw [if_pos h2] at hb ⊢
      rw [if_pos h2]
      have hq := quo_ge x.Data
      simp only [List.length_append, List.length_cons, List.length_nil] at hb
      rw [quote_m_ok (by omega), bnd_some, wstr (by simp only [List.length_append, List.length_cons, List.length_nil]; omega), bnd_some]
    rw [if_neg h2] at hb ⊢
    rw [if_neg h2]
    by_cases h3 : x.Kind = 3
    · rw [if_pos h3] at hb ⊢
      rw [if_pos h3]
      rw [between_m hx (by omega) (by omega) hkids _ (by simp only [List.length_append, List.length_cons, List.length_nil] at hb ⊢; omega), bnd_some]
      rfl
    rw [if_neg h3] at hb ⊢
    rw [if_neg h3]
    by_cases h4 : x.Kind = 4
    · rw [if_pos h4] at hb ⊢
      rw [if_pos h4]
      rw [between_m hx (by omega) (by omega) hkids _ (by simp only [List.length_append, List.length_cons, List.length_nil] at hb ⊢; omega), bnd_some]
      rfl
    rw [if_neg h4] at hb ⊢
    rw [if_neg h4]
    by_cases h0 : x.Kind = 0
    · rw [if_pos h0] at hb ⊢
      rw [if_pos h0]
      rw [between_m hx (by omega) (by omega) hkids _ (by simp only [List.length_append, List.length_cons, List.length_nil] at hb ⊢; omega), bnd_some]
      rfl
    rw [if_neg h0] at hb ⊢
    rw [if_neg h0]
    simp only [List.length_append, List.length_cons, List.length_nil] at hb
    rw [cat_ok (by simp only [List.length_cons, List.length_nil]; omega), bnd_some, wstr (by simp only [List.length_append, List.length_cons, List.length_nil]; omega), bnd_some, cnd_not, cnd_eq]
    simp only []
    have key := fun b hb => pattrs_l (fu := fu) (p := putU ns) hx (by omega) (by omega) (by omega) hkids hund x.Attrs.length 0 fu b (by omega) (by omega) hb
    simp only [List.drop_zero, show ((0 : Nat) : Int) = 0 from rfl] at key
    unfold Print_printer_node_j1
    by_cases hi : x.Is = []
    · rw [if_pos hi]
      rw [putI, if_pos hi] at hb ⊢
      simp only [List.length_nil] at hb
      rw [key _ (by simp only [List.length_append, List.length_cons, List.length_nil]; omega)]
      simp
    · rw [if_neg hi]
      rw [putI, if_neg hi] at hb ⊢
      simp only [List.length_cons] at hb
      rw [cat_ok (by simp only [List.length_cons, List.length_nil]; omega), bnd_some, wstr (by simp only [List.length_append, List.length_cons, List.length_nil]; omega), bnd_some]
      simp only []
      rw [key _ (by simp only [List.length_append, List.length_cons, List.length_nil]; omega)]
      simp
end
end Go.Proofs.YtkngnghbnhgfjaaGreat
/- print.Put, for a forest that is right. -/
namespace Go.Proofs.YtkngnghbnhgfjaaGreat
open Go Go.Pw
set_option linter.unusedVariables false

theorem quo_le : ∀ (s : Bs), (quoL s).length ≤ 2 * s.length
  | [] => Nat.le_refl _
  | b :: s => by
    have := quo_le s
    rw [quo_cons, List.length_append, List.length_cons]
    have : (quoB b).length ≤ 2 := by unfold quoB; split <;> simp
    omega
theorem putA_len : ∀ (al : List Attr), (∀ a ∈ al, a.Name.length ≤ 40 ∧ a.Value.length ≤ 200) → (putA al).length ≤ 450 * al.length
  | [], _ => Nat.le_refl _
  | a :: al, h => by
    have h1 := putA_len al fun a ha => h a (by simp [ha])
    have h2 := h a (by simp)
    have h3 := quo_le a.Value
    simp only [putA, List.length_append, List.length_cons]
    omega
theorem fit_len {s : Bs} (h : fitB s = true) : s.length ≤ 40 := by
  unfold fitB at h
  simp only [Bool.and_eq_true] at h
  exact (rightB_len h.1).2
theorem attrB_parts {al : List Attr} (h : attrB al = true) : al.length ≤ 40 ∧ ∀ a ∈ al, a.Name.length ≤ 40 ∧ a.Value.length ≤ 200 := by
  unfold attrB at h
  simp only [Bool.and_eq_true, List.all_eq_true, decide_eq_true_eq] at h
  exact ⟨h.1, fun a ha => ⟨fit_len (h.2.1 a ha).1, (h.2.1 a ha).2⟩⟩
/-- What the printer wants of rows. -/
theorem right_fit {f : Forest} (hr : frightB f = true) : ∀ n x, idx f.Nodes n = some x → x.Kids.length ≤ 400 ∧ x.Attrs.length ≤ 40 ∧ (0 ≤ x.Kind ∧ x.Kind ≤ 4) ∧ (putX x fun _ => []).length ≤ 20000 := fun n x hx => by
  obtain ⟨_, h2, h3, _⟩ := right_parts hr
  have hb := nodes_at h3 hx
  have T := right_full hr
  have hkin := kids_there h3 hx
  unfold nodeB at hb
  simp only [Bool.and_eq_true] at hb
  obtain ⟨h1, _, _, h4, _⟩ := hb
  have hk := kind_of_named h1
  unfold bearsB at h4
  simp only [Bool.and_eq_true, decide_eq_true_eq] at h4
  have hkl := nodup_len f.Nodes.length x.Kids h4.1 fun k hk => by
    obtain ⟨y, hy⟩ := hkin k hk
    exact idx_range hy
  have hE : (x.Kids.flatMap fun _ : Int => ([] : Bs)) = [] := flat_nil _
  unfold namedB at h1
  unfold putX
  rw [hE]
  by_cases c1 : x.Kind = 1
  · rw [if_pos c1] at h1
    simp only [Bool.and_eq_true, Bool.or_eq_true, beq_iff_eq] at h1
    obtain ⟨n1, n2, n3, n4⟩ := h1
    obtain ⟨a1, a2⟩ := attrB_parts n4
    have l1 := fit_len n1
    have l2 := putA_len _ a2
    have l3 : (putI x.Is).length ≤ 41 := by
      unfold putI
      split
      · simp
      · rcases n2 with h | h
        · rw [h]; simp
        · unfold customB at h
          simp only [Bool.and_eq_true] at h
          have := (rightB_len h.1.1.1.1).2
          simp only [List.length_cons]; omega
    refine ⟨by omega, a1, hk, ?_⟩
    rw [if_neg (by omega), if_neg (by omega), if_neg (by omega), if_neg (by omega)]
    have : (if x.Under = -1 then ([] : Bs) else []) = [] := by split <;> rfl
    rw [this]
    simp only [List.length_append, List.length_cons, List.length_nil]
    omega
  · rw [if_neg c1] at h1
    by_cases c2 : x.Kind = 2
    · rw [if_pos c2] at h1
      simp only [Bool.and_eq_true, beq_iff_eq, decide_eq_true_eq] at h1
      have := quo_le x.Data
      refine ⟨by omega, by omega, hk, ?_⟩
      rw [if_pos c2]
      simp only [List.length_append, List.length_cons, List.length_nil]
      omega
    · rw [if_neg c2] at h1
      have h0 : x.Kind = 0 ∨ x.Kind = 3 ∨ x.Kind = 4 := by omega
      rw [if_pos h0] at h1
      simp only [Bool.and_eq_true, beq_iff_eq, decide_eq_true_eq] at h1
      refine ⟨by omega, by omega, hk, ?_⟩
      rw [if_neg c2]
      rcases h0 with h | h | h <;> simp [h]
theorem putU_len {f : Forest} (hr : frightB f = true) {n : Int} (hn : InN f.Nodes n) : (putU f.Nodes n).length ≤ 8000000 := by
  have T := right_full hr
  have h1 := T.put_len (c := 20000) (fun n x hx => (right_fit hr n x hx).2.2.2) n hn
  have h2 := T.all_len hn
  have h3 := (right_parts hr).2.1
  have : 20000 * (allU f.Nodes n).length ≤ 20000 * 400 := Nat.mul_le_mul_left _ (by omega)
  omega
theorem put_m {fu : Nat} {f : Forest} {n : Int} (hr : frightB f = true) (hk : KidsFit fu f.Nodes) (hfu : 2000 < fu) (hn : InN f.Nodes n) : Print_Put_m fu f n = some (putU f.Nodes n, 0) := by
  have T := right_full hr
  have h3 := (right_parts hr).2.1
  have hfit : ∀ x ∈ f.Nodes, x.Kids.length < 500 ∧ x.Attrs.length < 500 := fun x hx => by
    obtain ⟨i, hi, rfl⟩ := List.mem_iff_getElem.1 hx
    have := right_fit hr _ _ (idx_lt hi)
    omega
  have hkind : ∀ x ∈ f.Nodes, 0 ≤ x.Kind ∧ x.Kind ≤ 4 := fun x hx => by
    obtain ⟨i, hi, rfl⟩ := List.mem_iff_getElem.1 hx
    exact (right_fit hr _ _ (idx_lt hi)).2.2.1
  have hl := putU_len hr hn
  have hw := T.wayU_len hn
  unfold Print_Put_m
  rw [fright_ok (by omega) hk, bnd_some, hr, show (!true) = false from rfl, cnd_false, cnd_dec, cnd_dec, if_neg (by have := hn.1; omega), if_neg (by have := hn.2; omega)]
  have := T.printer (F := 500) (c3 := f.Most) (by omega) hfit hkind f.Nodes.length n fu hn (by omega) (by omega) [] (by simp only [List.length_nil]; omega)
  rw [show bytesOf [] = [] from rfl, List.nil_append] at this
  rw [this, bnd_some]
  unfold Strings_Builder_String_v2_m
  rw [str_bytes, bnd_some]
end Go.Proofs.YtkngnghbnhgfjaaGreat
