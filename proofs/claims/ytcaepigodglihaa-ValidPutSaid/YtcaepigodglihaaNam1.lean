/- What the models of layer 1 (name) and of the reference for it come to. -/
import Derived.Test.YtcaepigodglihaaG
import Derived.Test.YtcaepigodglihaaPlain
namespace Go.Proofs.Ytcaepigodglihaa
open Go Go.Pw

def lowB (b : UInt8) : Bool := decide (97 ≤ b.toNat) && decide (b.toNat ≤ 122)
def upB (b : UInt8) : Bool := decide (65 ≤ b.toNat) && decide (b.toNat ≤ 90)
def signB (b : UInt8) : Bool := lowB b || upB b || (decide (48 ≤ b.toNat) && decide (b.toNat ≤ 57)) || decide (b.toNat = 45) || decide (b.toNat = 95) || decide (b.toNat = 46)
def headB (b : UInt8) : Bool := lowB b || upB b || decide (b.toNat = 95)
def rightB (s : Bs) : Bool := decide (0 < s.length) && decide (s.length ≤ 40) && s.all signB && (match s with | [] => false | b :: _ => headB b)
def lower (b : UInt8) : UInt8 := if upB b then b + 32 else b

theorem small_ok (fu : Nat) (c : Int) : Name_small_m fu c = some (decide (97 ≤ c) && decide (c ≤ 122)) := by
  unfold Name_small_m; by_cases h : 97 ≤ c <;> simp [h]
theorem capital_ok (fu : Nat) (c : Int) : Name_capital_m fu c = some (decide (65 ≤ c) && decide (c ≤ 90)) := by
  unfold Name_capital_m; by_cases h : 65 ≤ c <;> simp [h]
theorem end3 (c : Int) : (if c = 45 then some true else if c = 95 then some true else some (c == 46)) = some (decide (c = 45) || decide (c = 95) || decide (c = 46)) := by
  by_cases h1 : c = 45
  · simp [h1]
  · by_cases h2 : c = 95
    · simp [h2]
    · rw [if_neg h1, if_neg h2, decide_eq_false h1, decide_eq_false h2]; rfl
theorem sign_ok (fu : Nat) (c : Int) : Name_sign_m fu c = some ((decide (97 ≤ c) && decide (c ≤ 122)) || (decide (65 ≤ c) && decide (c ≤ 90)) || (decide (48 ≤ c) && decide (c ≤ 57)) || decide (c = 45) || decide (c = 95) || decide (c = 46)) := by
  unfold Name_sign_m Name_sign_j1
  simp only [small_ok, capital_ok, bnd_some, cnd_eq]
  by_cases h1 : 97 ≤ c <;> by_cases h2 : c ≤ 122 <;> by_cases h3 : 65 ≤ c <;> by_cases h4 : c ≤ 90 <;> by_cases h5 : 48 ≤ c <;> by_cases h6 : c ≤ 57 <;> simp [h1, h2, h3, h4, h5, h6] <;> (first | omega | exact end3 c)

theorem low_cast (b : UInt8) : (decide (97 ≤ (b.toNat : Int)) && decide ((b.toNat : Int) ≤ 122)) = lowB b := by
  unfold lowB; congr 1 <;> exact decide_eq_decide.2 (by omega)
theorem up_cast (b : UInt8) : (decide (65 ≤ (b.toNat : Int)) && decide ((b.toNat : Int) ≤ 90)) = upB b := by
  unfold upB; congr 1 <;> exact decide_eq_decide.2 (by omega)
theorem sign_cast (fu : Nat) (b : UInt8) : Name_sign_m fu (b.toNat : Int) = some (signB b) := by
  rw [sign_ok, low_cast, up_cast]; unfold signB
  congr 1
  have e1 : (decide (48 ≤ (b.toNat : Int)) && decide ((b.toNat : Int) ≤ 57)) = (decide (48 ≤ b.toNat) && decide (b.toNat ≤ 57)) := by congr 1 <;> exact decide_eq_decide.2 (by omega)
  have e2 : decide ((b.toNat : Int) = 45) = decide (b.toNat = 45) := decide_eq_decide.2 (by omega)
  have e3 : decide ((b.toNat : Int) = 95) = decide (b.toNat = 95) := decide_eq_decide.2 (by omega)
  have e4 : decide ((b.toNat : Int) = 46) = decide (b.toNat = 46) := decide_eq_decide.2 (by omega)
  rw [e1, e2, e3, e4]
theorem sign_hi (fu : Nat) (c : Int) (h : 128 ≤ c) : Name_sign_m fu c = some false := by
  rw [sign_ok]
  simp only [decide_eq_false (show ¬ c ≤ 122 by omega), decide_eq_false (show ¬ c ≤ 90 by omega), decide_eq_false (show ¬ c ≤ 57 by omega), decide_eq_false (show ¬ c = 45 by omega), decide_eq_false (show ¬ c = 95 by omega), decide_eq_false (show ¬ c = 46 by omega), Bool.and_false, Bool.or_false]

/-- A search for a rune, where one that is no byte's is looked for, or none is there. -/
theorem indexFunc_ok {fu : Nat} {t : Int → Option Bool} {f : UInt8 → Bool} {s : Bs} (ht : ∀ b ∈ s, b.toNat < 128 → t (b.toNat : Int) = some (f b)) (hi : (∀ b ∈ s, b.toNat < 128) ∨ ∀ r : Int, 128 ≤ r → t r = some true) (hf : s.length < fu) :
    Strings_ContainsFunc_m fu t s = some (s.any fun b => decide (128 ≤ b.toNat) || f b) := by
  have key : ∃ r, Strings_indexFunc_l1 t s true fu 0 = some r ∧ decide (r ≥ 0) = s.any fun b => decide (128 ≤ b.toNat) || f b := by
    refine up (L := Strings_indexFunc_l1 t s true) (Inv := fun i x => x = i ∧ ∀ (j : Nat) (h : j < s.length), j < i → (decide (128 ≤ s[j].toNat) || f s[j]) = false) (Fin := fun v => ∃ r, v = some r ∧ decide (r ≥ 0) = s.any fun b => decide (128 ≤ b.toNat) || f b) s.length (fun i x hl ⟨hx, hj⟩ => ?_) (fun x ⟨hx, hj⟩ => ?_) (i := 0) ⟨rfl, fun j _ hj => by omega⟩ (Nat.zero_le _) (by omega)
    · subst hx
      by_cases hc : (decide (128 ≤ s[x].toNat) || f s[x]) = true
      · refine .inl ⟨some (x : Int), ⟨_, rfl, ?_⟩, fun k => ?_⟩
        · rw [decide_eq_true (by omega)]
          exact (List.any_eq_true.2 ⟨_, List.getElem_mem hl, hc⟩).symm
        · simp only [Strings_indexFunc_l1]
          rw [cnd_pos (by simpa using hl)]
          by_cases hb : s[x].toNat < 128
          · rw [decide_eq_false (by omega), Bool.false_or] at hc
            rw [(dec_lo hl hb).1, ht _ (List.getElem_mem hl) hb, bnd_some, hc]; rfl
          · rcases hi with hi | hi
            · exact absurd (hi _ (List.getElem_mem hl)) hb
            · rw [hi _ (dec_hi hl (by omega))]; rfl
      · have hc' := Bool.eq_false_iff.2 hc
        have hb : s[x].toNat < 128 := by
          rw [Bool.or_eq_false_iff, decide_eq_false_iff_not] at hc'
          omega
        refine .inr ⟨x + 1, ⟨rfl, fun j h hj' => ?_⟩, fun k => ?_⟩
        · rcases Nat.lt_succ_iff_lt_or_eq.1 hj' with h' | h'
          · exact hj j h h'
          · subst h'; exact hc'
        · rw [Bool.or_eq_false_iff] at hc'
          simp only [Strings_indexFunc_l1]
          rw [cnd_pos (by simpa using hl), (dec_lo hl hb).1, ht _ (List.getElem_mem hl) hb, bnd_some, hc'.2, (dec_lo hl hb).2]; rfl
    · subst hx
      refine ⟨some (-1), ⟨_, rfl, ?_⟩, fun k => ?_⟩
      · have : (s.any fun b => decide (128 ≤ b.toNat) || f b) = false := by
          rw [List.any_eq_false]
          intro b hb
          obtain ⟨j, h, rfl⟩ := List.mem_iff_getElem.1 hb
          simpa using hj j h h
        rw [this]; rfl
      · simp only [Strings_indexFunc_l1]
        rw [cnd_neg (by simp)]
  obtain ⟨r, h1, h2⟩ := key
  unfold Strings_ContainsFunc_m Strings_IndexFunc_m Strings_indexFunc_m
  rw [h1, bnd_some, bnd_some, h2]

theorem head_cast (b : UInt8) (fu : Nat) : (bnd (rng .i32 (b.toNat : Int)) fun i4 => bnd (Name_small_m fu i4) fun r5 => cnd r5 (some true) (bnd (Name_capital_m fu i4) fun r6 => cnd r6 (some true) (some (i4 == 95)))) = some (headB b) := by
  have hb := b.toNat_lt
  rw [rng_ok (by simp only [lo, hi]; omega), bnd_some, small_ok, capital_ok, bnd_some, bnd_some, low_cast, up_cast]
  unfold headB
  have e : ((b.toNat : Int) == 95) = decide (b.toNat = 95) := by rw [Bool.eq_iff_iff]; simp; omega
  rw [e]
  cases lowB b <;> cases upB b <;> rfl
theorem any_sign (s : Bs) : (s.any fun b => decide (128 ≤ b.toNat) || !(signB b)) = !(s.all signB) := by
  rw [List.not_all_eq_any_not]
  congr 1
  funext b
  cases h : signB b
  · simp
  · have : b.toNat < 128 := by
      unfold signB lowB upB at h
      simp only [Bool.or_eq_true, Bool.and_eq_true, decide_eq_true_eq] at h
      omega
    simp; omega
theorem right_ok {fu : Nat} {s : Bs} (hfu : 40 < fu) : Name_Right_m fu s = some (rightB s) := by
  unfold Name_Right_m rightB
  rw [cnd_dec, cnd_dec]
  by_cases h1 : s.length < 1
  · rw [if_pos (by omega)]; simp [show ¬ 0 < s.length by omega]
  rw [if_neg (by omega)]
  by_cases h2 : s.length > 40
  · rw [if_pos (by omega)]; simp [show ¬ s.length ≤ 40 by omega]
  rw [if_neg (by omega), indexFunc_ok (f := fun b => !(signB b)) (fun b _ _ => by unfold Name_Right_1_m; rw [sign_cast]; rfl) (.inr fun r hr => by unfold Name_Right_1_m; rw [sign_hi _ _ hr]; rfl) (by omega), bnd_some, any_sign, cnd_not]
  obtain ⟨b, t, rfl⟩ : ∃ b t, s = b :: t := by cases s <;> simp_all
  rw [chr_zero]
  simp only [List.getElem?_cons_zero, Option.map_some, bnd_some]
  rw [head_cast]
  rw [decide_eq_true (by omega), decide_eq_true (by omega)]
  cases (b :: t).all signB <;> simp

/-! ## The small form -/
def lowI (y : Int) : Int := if 65 ≤ y ∧ y ≤ 90 then y + 32 else y
theorem upB_iff (b : UInt8) : upB b = true ↔ 65 ≤ b.toNat ∧ b.toNat ≤ 90 := by unfold upB; simp
theorem lower_low (b : UInt8) : lowI (b.toNat : Int) = ((lower b).toNat : Int) := by
  unfold lowI lower
  by_cases h : upB b = true
  · have := (upB_iff b).1 h
    rw [if_pos (by omega), if_pos h, UInt8.toNat_add]
    simp; omega
  · have : ¬ (65 ≤ b.toNat ∧ b.toNat ≤ 90) := fun h' => h ((upB_iff b).2 h')
    rw [if_neg (by omega), if_neg h]
theorem str_low (s : Bs) : strOf ((bytesOf s).map lowI) = s.map lower := by
  unfold strOf bytesOf
  rw [List.map_map, List.map_map]
  refine List.map_congr_left fun b _ => ?_
  simp only [Function.comp, lower_low, Int.toNat_natCast, UInt8.ofNat_toNat]
theorem nsmall_ok {fu : Nat} {s : Bs} (hf : s.length < fu) (hb : s.length ≤ 1000000) : Name_Small_m fu s = some (s.map lower) := by
  unfold Name_Small_m
  rw [roomy_ok (by omega), bnd_some]
  have hl : (bytesOf s).length = s.length := by simp [bytesOf]
  have := upf (L := Name_Small_l1 fu s) (f := fun i => ((i : Int), mix lowI (bytesOf s) i)) (v := some (s.map lower)) (bytesOf s).length (fun i hi k => ?_) (fun k => ?_) (by rw [hl]; exact hf)
  · simpa [mix_zero] using this
  · simp only [Name_Small_l1]
    rw [cnd_pos (by simpa using hi), mix_at lowI hi, bnd_some]
    have hy : (bytesOf s)[i] = ((s[i]'(hl ▸ hi)).toNat : Int) := by simp [bytesOf]
    have hn : rng .i64 ((i : Int) + 1) = some ((i + 1 : Nat) : Int) := rng_nat (by omega)
    rw [← mix_set lowI hi]
    have hk := mix_keep lowI hi
    rw [← mix_set lowI hi] at hk
    rw [hy] at hk ⊢
    have hb := (s[i]'(hl ▸ hi)).toNat_lt
    generalize (s[i]'(hl ▸ hi)).toNat = n at hb hk
    rw [rng_ok (by simp only [lo, Go.Pw.hi]; omega), bnd_some, capital_ok, bnd_some, hn]
    by_cases h : 65 ≤ (n : Int) ∧ (n : Int) ≤ 90
    · rw [cnd_pos (by simp; omega), rng_ok (by simp only [lo, Go.Pw.hi]; omega), bnd_some, rng_ok (by simp only [lo, Go.Pw.hi]; omega), bnd_some, bnd_some, bnd_some]
      unfold lowI
      rw [if_pos h, show (n : Int) - 65 + 97 = n + 32 by omega]
    · have e : lowI (n : Int) = n := if_neg h
      rw [cnd_neg (by simp; omega), bnd_some, ← hk e]
  · simp only [Name_Small_l1]
    rw [cnd_neg (by simp), mix_end, str_low]
/-! ## Custom names -/
def words : List Bs := [[97, 110, 110, 111, 116, 97, 116, 105, 111, 110, 45, 120, 109, 108], [99, 111, 108, 111, 114, 45, 112, 114, 111, 102, 105, 108, 101], [102, 111, 110, 116, 45, 102, 97, 99, 101], [102, 111, 110, 116, 45, 102, 97, 99, 101, 45, 115, 114, 99], [102, 111, 110, 116, 45, 102, 97, 99, 101, 45, 117, 114, 105], [102, 111, 110, 116, 45, 102, 97, 99, 101, 45, 102, 111, 114, 109, 97, 116], [102, 111, 110, 116, 45, 102, 97, 99, 101, 45, 110, 97, 109, 101], [109, 105, 115, 115, 105, 110, 103, 45, 103, 108, 121, 112, 104]]
def customB (s : Bs) : Bool := rightB s && (match s with | [] => false | b :: _ => lowB b) && !(s.any upB) && s.contains 45 && !(words.contains s)

theorem contains_str {fu : Nat} {l : List Bs} {s : Bs} (hf : l.length < fu) (hb : l.length ≤ 1000000) : Slices_Contains_string_m fu l s = some (l.contains s) := by
  unfold Slices_Contains_string_m Slices_Index_string_m
  obtain ⟨r, h1, h2⟩ := up_index (L := Slices_Index_string_l1 l s) l (fun x => s == x) (fun i hi k => by
    simp only [Slices_Index_string_l1]
    rw [cnd_pos (by simpa using hi), idx_lt hi, bnd_some, rng_nat (by omega), bnd_some]
    cases s == l[i] <;> rfl) (fun k => by simp only [Slices_Index_string_l1]; rw [cnd_neg (by simp)]) hf
  rw [h1, bnd_some, h2]
  congr 1
  rw [List.contains_eq_any_beq]

theorem rightB_len {s : Bs} (h : rightB s = true) : 0 < s.length ∧ s.length ≤ 40 := by
  unfold rightB at h
  simp only [Bool.and_eq_true, decide_eq_true_eq] at h
  exact h.1.1
theorem ncustom_ok {fu : Nat} {s : Bs} (hfu : 200 < fu) : Name_Custom_m fu s = some (customB s) := by
  unfold Name_Custom_m customB
  rw [right_ok (by omega), bnd_some]
  cases hr : rightB s
  · rfl
  · rw [cnd_true]
    have hf : s.length < fu := by have := rightB_len hr; omega
    have hr' := hr
    unfold rightB at hr'
    obtain ⟨b, t, rfl⟩ : ∃ b t, s = b :: t := by cases s <;> simp_all
    simp only [Bool.and_eq_true] at hr'
    have hb := b.toNat_lt
    have hbytes : ∀ c ∈ b :: t, c.toNat < 128 := fun c hc => by
      have := List.all_eq_true.1 hr'.1.2 c hc
      unfold signB lowB upB at this
      simp only [Bool.or_eq_true, Bool.and_eq_true, decide_eq_true_eq] at this
      omega
    have hany : ((b :: t).any fun c => decide (128 ≤ c.toNat) || upB c) = (b :: t).any upB := by
      rw [Bool.eq_iff_iff, List.any_eq_true, List.any_eq_true]
      constructor
      · rintro ⟨c, h1, h2⟩
        rw [Bool.or_eq_true, decide_eq_true_eq] at h2
        rcases h2 with h2 | h2
        · have := hbytes c h1; omega
        · exact ⟨c, h1, h2⟩
      · rintro ⟨c, h1, h2⟩
        exact ⟨c, h1, by rw [h2, Bool.or_true]⟩
    rw [chr_zero, List.getElem?_cons_zero, Option.map_some, bnd_some, rng_ok (by simp only [lo, Go.Pw.hi]; omega), bnd_some, small_ok, low_cast, bnd_some,
      indexFunc_ok (f := upB) (fun c _ _ => by rw [capital_ok, up_cast]) (.inl hbytes) hf, bnd_some, hany]
    unfold hasByte_m Name_reserved_m
    rw [bnd_some, bnd_some, contains_str (by simp; omega) (by simp), bnd_some, indexByte_iff]
    simp only [Bool.true_and]
    cases lowB b <;> cases (b :: t).any upB <;> cases (b :: t).contains 45 <;> rfl
theorem lower_all (s : Bs) : (s == s.map lower) = !(s.any upB) := by
  rw [Bool.eq_iff_iff, beq_iff_eq, Bool.not_eq_true', List.any_eq_false]
  have h1 : ∀ b : UInt8, lower b = b ↔ ¬ upB b = true := fun b => by
    unfold lower
    by_cases h : upB b = true
    · rw [if_pos h]
      have := (upB_iff b).1 h
      refine ⟨fun e => ?_, fun h' => absurd h h'⟩
      have e' := congrArg UInt8.toNat e
      rw [UInt8.toNat_add] at e'
      have : (32 : UInt8).toNat = 32 := rfl
      omega
    · rw [if_neg h]; simp [h]
  constructor
  · intro h b hb
    obtain ⟨i, hi, rfl⟩ := List.mem_iff_getElem.1 hb
    have : (s.map lower)[i]'(by simpa using hi) = s[i] := by simp only [← h]
    rw [List.getElem_map] at this
    exact (h1 _).1 this
  · intro h
    have : s.map lower = s.map id := List.map_congr_left fun b hb => (h1 b).2 (h b hb)
    rw [this, List.map_id]
/-! ## Names that fit -/
def fitB (s : Bs) : Bool := rightB s && (s.map lower == s)
theorem fit_ok {fu : Nat} {s : Bs} (hfu : 200 < fu) : Name_Fit_m fu s = some (if rightB s then (s.map lower, 0) else ([], 4)) := by
  unfold Name_Fit_m
  rw [right_ok (by omega), bnd_some, cnd_not]
  cases hr : rightB s
  · rfl
  · have := rightB_len hr
    rw [cnd_true, nsmall_ok (by omega) (by omega), bnd_some]; rfl
end Go.Proofs.Ytcaepigodglihaa
