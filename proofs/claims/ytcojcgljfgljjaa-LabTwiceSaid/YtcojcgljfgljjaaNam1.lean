/- What the models of layer 1 (name) and of the reference for it come to. -/
import Derived.Test.YtcojcgljfgljjaaG
import Derived.Test.YtcojcgljfgljjaaPlain
namespace Go.Proofs.Ytcojcgljfgljjaa
open Go Go.Pw

def lowB (b : UInt8) : Bool := decide (97 ≤ b.toNat) && decide (b.toNat ≤ 122)
def upB (b : UInt8) : Bool := decide (65 ≤ b.toNat) && decide (b.toNat ≤ 90)
def signB (b : UInt8) : Bool := lowB b || upB b || (decide (48 ≤ b.toNat) && decide (b.toNat ≤ 57)) || decide (b.toNat = 45) || decide (b.toNat = 95) || decide (b.toNat = 46)
def headB (b : UInt8) : Bool := lowB b || upB b || decide (b.toNat = 95)
def rightB (s : Bs) : Bool := decide (0 < s.length) && decide (s.length ≤ 40) && s.all signB && (match s with | [] => false | b :: _ => headB b)
def lower (b : UInt8) : UInt8 := if upB b then b + 32 else b

theorem small_ok (fu : Nat) (c : Int) : Name_small_m fu c = some (decide (97 ≤ c) && decide (c ≤ 122)) := by
  unfold Name_small_m; by_cases h : 97 ≤ c <;> simp [h]
theorem capital_ok (fu : Nat) (c : Int) : Name_capital_m fu c = some (decide (65 ≤ c) && decide (c ≤ 90)) := by
  unfold Name_capital_m; by_cases h : 65 ≤ c <;> simp [h]
theorem end3 (c : Int) : (if c = 45 then some true else if c = 95 then some true else some (c == 46)) = some (decide (c = 45) || decide (c = 95) || decide (c = 46)) := by
  by_cases h1 : c = 45
  · simp [h1]
  · by_cases h2 : c = 95
    · simp [h2]
    · rw [if_neg h1, if_neg h2, decide_eq_false h1, decide_eq_false h2]; rfl
theorem sign_ok (fu : Nat) (c : Int) : Name_sign_m fu c = some ((decide (97 ≤ c) && decide (c ≤ 122)) || (decide (65 ≤ c) && decide (c ≤ 90)) || (decide (48 ≤ c) && decide (c ≤ 57)) || decide (c = 45) || decide (c = 95) || decide (c = 46)) := by
  unfold Name_sign_m Name_sign_j1
  simp only [small_ok, capital_ok, bnd_some, cnd_eq]
  by_cases h1 : 97 ≤ c <;> by_cases h2 : c ≤ 122 <;> by_cases h3 : 65 ≤ c <;> by_cases h4 : c ≤ 90 <;> by_cases h5 : 48 ≤ c <;> by_cases h6 : c ≤ 57 <;> simp [h1, h2, h3, h4, h5, h6] <;> (first | omega | exact end3 c)

theorem low_cast (b : UInt8) : (decide (97 ≤ (b.toNat : Int)) && decide ((b.toNat : Int) ≤ 122)) = lowB b := by
  unfold lowB; congr 1 <;> exact decide_eq_decide.2 (by omega)
theorem up_cast (b : UInt8) : (decide (65 ≤ (b.toNat : Int)) && decide ((b.toNat : Int) ≤ 90)) = upB b := by
  unfold upB; congr 1 <;> exact decide_eq_decide.2 (by omega)
theorem sign_cast (fu : Nat) (b : UInt8) : Name_sign_m fu (b.toNat : Int) = some (signB b) := by
  rw [sign_ok, low_cast, up_cast]; unfold signB
  congr 1
  have e1 : (decide (48 ≤ (b.toNat : Int)) && decide ((b.toNat : Int) ≤ 57)) = (decide (48 ≤ b.toNat) && decide (b.toNat ≤ 57)) := by congr 1 <;> exact decide_eq_decide.2 (by omega)
  have e2 : decide ((b.toNat : Int) = 45) = decide (b.toNat = 45) := decide_eq_decide.2 (by omega)
  have e3 : decide ((b.toNat : Int) = 95) = decide (b.toNat = 95) := decide_eq_decide.2 (by omega)
  have e4 : decide ((b.toNat : Int) = 46) = decide (b.toNat = 46) := decide_eq_decide.2 (by omega)
  rw [e1, e2, e3, e4]
theorem sign_hi (fu : Nat) (c : Int) (h : 128 ≤ c) : Name_sign_m fu c = some false := by
  rw [sign_ok]
  simp only [decide_eq_false (show ¬ c ≤ 122 by omega), decide_eq_false (show ¬ c ≤ 90 by omega), decide_eq_false (show ¬ c ≤ 57 by omega), decide_eq_false (show ¬ c = 45 by omega), decide_eq_false (show ¬ c = 95 by omega), decide_eq_false (show ¬ c = 46 by omega), Bool.and_false, Bool.or_false]

/-- A search for a rune, where one that is no byte's is looked for, or none is there. -/
theorem indexFunc_ok {fu : Nat} {t : Int → Option Bool} {f : UInt8 → Bool} {s : Bs} (ht : ∀ b ∈ s, b.toNat < 128 → t (b.toNat : Int) = some (f b)) (hi : (∀ b ∈ s, b.toNat < 128) ∨ ∀ r : Int, 128 ≤ r → t r = some true) (hf : s.length < fu) :
    Strings_ContainsFunc_m fu t s = some (s.any fun b => decide (128 ≤ b.toNat) || f b) := by
  have key : ∃ r, Strings_indexFunc_l1 t s true fu 0 = some r ∧ decide (r ≥ 0) = s.any fun b => decide (128 ≤ b.toNat) || f b := by
    refine up (L := Strings_indexFunc_l1 t s true) (Inv := fun i x => x = i ∧ ∀ (j : Nat) (h : j < s.length), j < i → (decide (128 ≤ s[j].toNat) || f s[j]) = false) (Fin := fun v => ∃ r, v = some r ∧ decide (r ≥ 0) = s.any fun b => decide (128 ≤ b.toNat) || f b) s.length (fun i x hl ⟨hx, hj⟩ => ?_) (fun x ⟨hx, hj⟩ => ?_) (i := 0) ⟨rfl, fun j _ hj => by omega⟩ (Nat.zero_le _) (by omega)
    · subst hx
      by_cases hc : (decide (128 ≤ s[x].toNat) || f s[x]) = true
      · refine .inl ⟨some (x : Int), ⟨_, rfl, ?_⟩, fun k => ?_⟩
        · rw [decide_eq_true (by omega)]
          exact (List.any_eq_true.2 ⟨_, List.getElem_mem hl, hc⟩).symm
        · simp only [Strings_indexFunc_l1]
          rw [cnd_pos (by simpa using hl)]
          by_cases hb : s[x].toNat < 128
          · rw [decide_eq_false (by omega), Bool.false_or] at hc
            rw [(dec_lo hl hb).1, ht _ (List.getElem_mem hl) hb, bnd_some, hc]; rfl
          · rcases hi with hi | hi
            · exact absurd (hi _ (List.getElem_mem hl)) hb
            · rw [hi _ (dec_hi hl (by omega))]; rfl
      · have hc' := Bool.eq_false_iff.2 hc
        have hb : s[x].toNat < 128 := by
          rw [Bool.or_eq_false_iff, decide_eq_false_iff_not] at hc'
          omega
        refine .inr ⟨x + 1, ⟨rfl, fun j h hj' => ?_⟩, fun k => ?_⟩
        · rcases Nat.lt_succ_iff_lt_or_eq.1 hj' with h' | h'
          · exact hj j h h'
          · subst h'; exact hc'
        · rw [Bool.or_eq_false_iff] at hc'
          simp only [Strings_indexFunc_l1]
          rw [cnd_pos (by simpa using hl), (dec_lo hl hb).1, ht _ (List.getElem_mem hl) hb, bnd_some, hc'.2, (dec_lo hl hb).2]; rfl
    · subst hx
      refine ⟨some (-1), ⟨_, rfl, ?_⟩, fun k => ?_⟩
      · have : (s.any fun b => decide (128 ≤ b.toNat) || f b) = false := by
          rw [List.any_eq_false]
          intro b hb
          obtain ⟨j, h, rfl⟩ := List.mem_iff_getElem.1 hb
          simpa using hj j h h
        rw [this]; rfl
      · simp only [Strings_indexFunc_l1]
        rw [cnd_neg (by simp)]
  obtain ⟨r, h1, h2⟩ := key
  unfold Strings_ContainsFunc_m Strings_IndexFunc_m Strings_indexFunc_m
  rw [h1, bnd_some, bnd_some, h2]

theorem head_cast (b : UInt8) (fu : Nat) : (bnd (rng .i32 (b.toNat : Int)) fun i4 => bnd (Name_small_m fu i4) fun r5 => cnd r5 (some true) (bnd (Name_capital_m fu i4) fun r6 => cnd r6 (some true) (some (i4 == 95)))) = some (headB b) := by
  have hb := b.toNat_lt
  rw [rng_ok (by simp only [lo, hi]; omega), bnd_some, small_ok, capital_ok, bnd_some, bnd_some, low_cast, up_cast]
  unfold headB
  have e : ((b.toNat : Int) == 95) = decide (b.toNat = 95) := by rw [Bool.eq_iff_iff]; simp; omega
  rw [e]
  cases lowB b <;> cases upB b <;> rfl
theorem any_sign (s : Bs) : (s.any fun b => decide (128 ≤ b.toNat) || !(signB b)) = !(s.all signB) := by
  rw [List.not_all_eq_any_not]
  congr 1
  funext b
  cases h : signB b
  · simp
  · have : b.toNat < 128 := by
      unfold signB lowB upB at h
      simp only [Bool.or_eq_true, Bool.and_eq_true, decide_eq_true_eq] at h
      omega
    simp; omega
theorem right_ok {fu : Nat} {s : Bs} (hfu : 40 < fu) : Name_Right_m fu s = some (rightB s) := by
  unfold Name_Right_m rightB
  rw [cnd_dec, cnd_dec]
  by_cases h1 : s.length < 1
  · rw [if_pos (by omega)]; simp [show ¬ 0 < s.length by omega]
  rw [if_neg (by omega)]
  by_cases h2 : s.length > 40
  · rw [if_pos (by omega)]; simp [show ¬ s.length ≤ 40 by omega]
  rw [if_neg (by omega), indexFunc_ok (f := fun b => !(signB b)) (fun b _ _ => by unfold Name_Right_1_m; rw [sign_cast]; rfl) (.inr fun r hr => by unfold Name_Right_1_m; rw [sign_hi _ _ hr]; rfl) (by omega), bnd_some, any_sign, cnd_not]
  obtain ⟨b, t, rfl⟩ : ∃ b t, s = b :: t := by cases s <;> simp_all
  rw [chr_zero]
  simp only [List.getElem?_cons_zero, Option.map_some, bnd_some]
  rw [head_cast]
  rw [decide_eq_true (by omega), decide_eq_true (by omega)]
  cases (b :: t).all signB <;> simp

theorem rright_ok {fu : Nat} {s : Bs} (hfu : 40 < fu) : Instarref01_Right_m fu s = some (rightB s) := by
  unfold Instarref01_Right_m rightB
  rw [cnd_eq, cnd_dec]
  by_cases h1 : s.length = 0
  · rw [if_pos (by omega)]; simp [h1]
  rw [if_neg (by omega)]
  by_cases h2 : s.length > 40
  · rw [if_pos (by omega)]; simp [show ¬ s.length ≤ 40 by omega]
  rw [if_neg (by omega)]
  rw [up_alli (L := Instarref01_Right_l1 s) s.length (fun i => match s[i]? with | some b => lowB b || upB b || decide (b.toNat = 95) || (decide (i ≠ 0) && signB b) | none => true) (some true) (fun i hi k => ?_) (fun k => ?_) (by omega)]
  · rw [decide_eq_true (by omega), decide_eq_true (by omega)]
    obtain ⟨b, t, rfl⟩ : ∃ b t, s = b :: t := by cases s <;> simp_all
    have : ((List.range (b :: t).length).all fun i => match (b :: t)[i]? with | some b => lowB b || upB b || decide (b.toNat = 95) || (decide (i ≠ 0) && signB b) | none => true) = ((b :: t).all signB && headB b) := by
      rw [Bool.eq_iff_iff]
      simp only [List.all_eq_true, Bool.and_eq_true, List.mem_range]
      have hs : ∀ c : UInt8, (lowB c || upB c || decide (c.toNat = 95)) = true → signB c = true := fun c hc => by
        unfold signB; simp only [Bool.or_eq_true, decide_eq_true_eq] at hc ⊢; rcases hc with (hc | hc) | hc <;> simp [hc]
      constructor
      · intro h
        have h0 : headB b = true := by simpa [headB] using h 0 (by simp)
        refine ⟨fun c hc => ?_, h0⟩
        obtain ⟨j, hj, rfl⟩ := List.mem_iff_getElem.1 hc
        have := h j hj
        rw [List.getElem?_eq_getElem hj] at this
        simp only [Bool.or_eq_true, Bool.and_eq_true, decide_eq_true_eq] at this
        rcases this with hq | hq
        · exact hs _ (by simpa using hq)
        · exact hq.2
      · rintro ⟨h, h0⟩ j hj
        rw [List.getElem?_eq_getElem hj]
        simp only [Bool.or_eq_true, Bool.and_eq_true, decide_eq_true_eq]
        by_cases e : j = 0
        · subst e; left; simpa [headB] using h0
        · right; exact ⟨e, h _ (List.getElem_mem hj)⟩
    rw [this]
    simp only [Bool.true_and]
    cases ((b :: t).all signB && headB b) <;> rfl
  · simp only [Instarref01_Right_l1]
    rw [cnd_pos (by simpa using hi), chr_lt hi, bnd_some, List.getElem?_eq_getElem hi]
    have hn := rng_nat (show i ≤ 9223372036854775806 by omega)
    have hk : rng .i64 ((i : Int) + 1) = some (((i + 1 : Nat)) : Int) := hn
    simp only [Instarref01_Right_j1, Instarref01_Right_j2, hk, bnd_some, cnd_dec, cnd_eq, cnd_ne, cnd_not]
    generalize Instarref01_Right_l1 s k ((i + 1 : Nat) : Int) = X
    generalize s[i] = b
    unfold signB lowB upB
    have hb := b.toNat_lt
    generalize b.toNat = n at hb
    simp only [Bool.cond_eq_ite, Bool.or_eq_true, Bool.and_eq_true, decide_eq_true_eq, cnd_if]
    have c1 : ((n : Int) ≥ 97) = (97 ≤ n) := propext ⟨by omega, by omega⟩
    have c2 : ((n : Int) ≤ 122) = (n ≤ 122) := propext ⟨by omega, by omega⟩
    have c3 : ((n : Int) ≥ 65) = (65 ≤ n) := propext ⟨by omega, by omega⟩
    have c4 : ((n : Int) ≤ 90) = (n ≤ 90) := propext ⟨by omega, by omega⟩
    have c5 : ((n : Int) ≥ 48) = (48 ≤ n) := propext ⟨by omega, by omega⟩
    have c6 : ((n : Int) ≤ 57) = (n ≤ 57) := propext ⟨by omega, by omega⟩
    have c7 : ((n : Int) = 45) = (n = 45) := propext ⟨by omega, by omega⟩
    have c8 : ((n : Int) = 95) = (n = 95) := propext ⟨by omega, by omega⟩
    have c9 : ((n : Int) = 46) = (n = 46) := propext ⟨by omega, by omega⟩
    have c10 : ((i : Int) = 0) = (i = 0) := propext ⟨by omega, by omega⟩
    simp only [c1, c2, c3, c4, c5, c6, c7, c8, c9, c10, ne_eq]
    clear c1 c2 c3 c4 c5 c6 c7 c8 c9 c10 hn hk
    by_cases a1 : 97 ≤ n <;> by_cases a2 : n ≤ 122 <;> by_cases a3 : 65 ≤ n <;> by_cases a4 : n ≤ 90 <;> (try omega) <;> by_cases a5 : 48 ≤ n <;> by_cases a6 : n ≤ 57 <;> (try omega) <;> by_cases a7 : n = 45 <;> (try omega) <;> by_cases a8 : n = 95 <;> (try omega) <;> by_cases a9 : n = 46 <;> (try omega) <;> by_cases a10 : i = 0 <;> simp [a1, a2, a3, a4, a5, a6, a7, a8, a9, a10]
  · simp only [Instarref01_Right_l1]
    rw [cnd_neg (by simp)]

/-! ## The small form -/
def lowI (y : Int) : Int := if 65 ≤ y ∧ y ≤ 90 then y + 32 else y
theorem upB_iff (b : UInt8) : upB b = true ↔ 65 ≤ b.toNat ∧ b.toNat ≤ 90 := by unfold upB; simp
theorem lower_low (b : UInt8) : lowI (b.toNat : Int) = ((lower b).toNat : Int) := by
  unfold lowI lower
  by_cases h : upB b = true
  · have := (upB_iff b).1 h
    rw [if_pos (by omega), if_pos h, UInt8.toNat_add]
    simp; omega
  · have : ¬ (65 ≤ b.toNat ∧ b.toNat ≤ 90) := fun h' => h ((upB_iff b).2 h')
    rw [if_neg (by omega), if_neg h]
theorem str_low (s : Bs) : strOf ((bytesOf s).map lowI) = s.map lower := by
  unfold strOf bytesOf
  rw [List.map_map, List.map_map]
  refine List.map_congr_left fun b _ => ?_
  simp only [Function.comp, lower_low, Int.toNat_natCast, UInt8.ofNat_toNat]
theorem nsmall_ok {fu : Nat} {s : Bs} (hf : s.length < fu) (hb : s.length ≤ 1000000) : Name_Small_m fu s = some (s.map lower) := by
  unfold Name_Small_m
  rw [roomy_ok (by omega), bnd_some]
  have hl : (bytesOf s).length = s.length := by simp [bytesOf]
  have := upf (L := Name_Small_l1 fu s) (f := fun i => ((i : Int), mix lowI (bytesOf s) i)) (v := some (s.map lower)) (bytesOf s).length (fun i hi k => ?_) (fun k => ?_) (by rw [hl]; exact hf)
  · simpa [mix_zero] using this
  · simp only [Name_Small_l1]
    rw [cnd_pos (by simpa using hi), mix_at lowI hi, bnd_some]
    have hy : (bytesOf s)[i] = ((s[i]'(hl ▸ hi)).toNat : Int) := by simp [bytesOf]
    have hn : rng .i64 ((i : Int) + 1) = some ((i + 1 : Nat) : Int) := rng_nat (by omega)
    rw [← mix_set lowI hi]
    have hk := mix_keep lowI hi
    rw [← mix_set lowI hi] at hk
    rw [hy] at hk ⊢
    have hb := (s[i]'(hl ▸ hi)).toNat_lt
    generalize (s[i]'(hl ▸ hi)).toNat = n at hb hk
    rw [rng_ok (by simp only [lo, Go.Pw.hi]; omega), bnd_some, capital_ok, bnd_some, hn]
    by_cases h : 65 ≤ (n : Int) ∧ (n : Int) ≤ 90
    · rw [cnd_pos (by simp; omega), rng_ok (by simp only [lo, Go.Pw.hi]; omega), bnd_some, rng_ok (by simp only [lo, Go.Pw.hi]; omega), bnd_some, bnd_some, bnd_some]
      unfold lowI
      rw [if_pos h, show (n : Int) - 65 + 97 = n + 32 by omega]
    · have e : lowI (n : Int) = n := if_neg h
      rw [cnd_neg (by simp; omega), bnd_some, ← hk e]
  · simp only [Name_Small_l1]
    rw [cnd_neg (by simp), mix_end, str_low]
theorem rsmall_ok {fu : Nat} {s : Bs} (hf : s.length < fu) (hb : s.length ≤ 1000000) : Instarref01_Small_m fu s = some (s.map lower) := by
  unfold Instarref01_Small_m
  have := upf (L := Instarref01_Small_l1 s) (f := fun i => ((s.take i).map lower, (i : Int))) (v := some (s.map lower)) s.length (fun i hi k => ?_) (fun k => ?_) hf
  · simpa using this
  · simp only [Instarref01_Small_l1]
    have hn : rng .i64 ((i : Int) + 1) = some ((i + 1 : Nat) : Int) := rng_nat (by omega)
    have hp : piece s (i : Int) ((i + 1 : Nat) : Int) = some [s[i]] := by
      rw [piece_nat (by omega) (by omega), List.drop_eq_getElem_cons hi, show i + 1 - i = 1 by omega]; rfl
    have hc : ∀ x : UInt8, cat ((s.take i).map lower) [x] = some ((s.take i).map lower ++ [x]) := fun x => cat_ok (by simp; omega)
    rw [cnd_pos (by simpa using hi), chr_lt hi, bnd_some, bnd_some, bnd_some, hn, take_succ_map _ hi]
    simp only [bnd_some, hp, hc, cnd_dec]
    have hb := s[i].toNat_lt
    by_cases h : upB s[i] = true
    · have h' := (upB_iff _).1 h
      rw [if_pos (by omega), if_pos (by omega), rng_ok (by simp only [lo, Go.Pw.hi]; omega), bnd_some]
      have : strOf [(s[i].toNat : Int) + 32] = [lower s[i]] := by
        have e := lower_low s[i]
        unfold lowI at e
        rw [if_pos (by omega)] at e
        rw [e]; simp [strOf]
      rw [this, hc, bnd_some]
    · have h' : ¬ (65 ≤ s[i].toNat ∧ s[i].toNat ≤ 90) := fun h' => h ((upB_iff _).2 h')
      have e : lower s[i] = s[i] := by unfold lower; rw [if_neg h]
      rw [e]
      by_cases h1 : (s[i].toNat : Int) ≥ 65
      · rw [if_pos h1, if_neg (by omega)]
      · rw [if_neg h1]
  · simp only [Instarref01_Small_l1]
    rw [cnd_neg (by simp)]; simp

/-! ## Custom names -/
def words : List Bs := [[97, 110, 110, 111, 116, 97, 116, 105, 111, 110, 45, 120, 109, 108], [99, 111, 108, 111, 114, 45, 112, 114, 111, 102, 105, 108, 101], [102, 111, 110, 116, 45, 102, 97, 99, 101], [102, 111, 110, 116, 45, 102, 97, 99, 101, 45, 115, 114, 99], [102, 111, 110, 116, 45, 102, 97, 99, 101, 45, 117, 114, 105], [102, 111, 110, 116, 45, 102, 97, 99, 101, 45, 102, 111, 114, 109, 97, 116], [102, 111, 110, 116, 45, 102, 97, 99, 101, 45, 110, 97, 109, 101], [109, 105, 115, 115, 105, 110, 103, 45, 103, 108, 121, 112, 104]]
def customB (s : Bs) : Bool := rightB s && (match s with | [] => false | b :: _ => lowB b) && !(s.any upB) && s.contains 45 && !(words.contains s)

theorem contains_str {fu : Nat} {l : List Bs} {s : Bs} (hf : l.length < fu) (hb : l.length ≤ 1000000) : Slices_Contains_string_m fu l s = some (l.contains s) := by
  unfold Slices_Contains_string_m Slices_Index_string_m
  obtain ⟨r, h1, h2⟩ := up_index (L := Slices_Index_string_l1 l s) l (fun x => s == x) (fun i hi k => by
    simp only [Slices_Index_string_l1]
    rw [cnd_pos (by simpa using hi), idx_lt hi, bnd_some, rng_nat (by omega), bnd_some]
    cases s == l[i] <;> rfl) (fun k => by simp only [Slices_Index_string_l1]; rw [cnd_neg (by simp)]) hf
  rw [h1, bnd_some, h2]
  congr 1
  rw [List.contains_eq_any_beq]

/-- One of some words, with blanks between. -/
def oneS (s : Bs) : Bs → Bs → Bool
  | cur, [] => cur == s
  | cur, c :: r => bif c == 32 then cur == s || oneS s [] r else oneS s (cur ++ [c]) r
theorem one_loop {s w : Bs} (hw : w.length ≤ 1000000) : ∀ (j at_ i k : Nat), i + j = w.length → at_ ≤ i → j + 1 < k → Instarref01_One_l1 s w k ((at_ : Int), (i : Int)) = some (oneS s ((w.drop at_).take (i - at_)) (w.drop i)) := by
  intro j
  induction j with
  | zero =>
    intro at_ i k h1 h2 hk
    obtain ⟨k, rfl⟩ : ∃ k', k = k' + 2 := ⟨k - 2, by omega⟩
    obtain rfl : i = w.length := by omega
    simp only [Instarref01_One_l1]
    have hn : rng .i64 ((w.length : Int) + 1) = some ((w.length + 1 : Nat) : Int) := rng_nat (by omega)
    rw [cnd_pos (by simp), cnd_pos (by simp)]
    unfold Instarref01_One_j1
    rw [piece_nat h2 (Nat.le_refl _), bnd_some, List.drop_length]
    simp only [oneS]
    by_cases e : ((w.drop at_).take (w.length - at_) == s) = true
    · rw [e]; rfl
    · rw [Bool.eq_false_iff.2 e, cnd_false, hn, bnd_some, bnd_some]
      show Instarref01_One_l1 s w (k + 1) (((w.length + 1 : Nat) : Int), ((w.length + 1 : Nat) : Int)) = some false
      unfold Instarref01_One_l1
      rw [cnd_neg (by simp; omega)]
  | succ j ih =>
    intro at_ i k h1 h2 hk
    obtain ⟨k, rfl⟩ : ∃ k', k = k' + 1 := ⟨k - 1, by omega⟩
    have hi : i < w.length := by omega
    simp only [Instarref01_One_l1]
    have hn : rng .i64 ((i : Int) + 1) = some ((i + 1 : Nat) : Int) := rng_nat (by omega)
    rw [cnd_pos (by simp; omega), cnd_neg (by simp; omega), chr_lt hi, bnd_some, List.drop_eq_getElem_cons hi]
    simp only [oneS]
    have e32 : ((w[i].toNat : Int) == 32) = (w[i] == 32) := by
      rw [Bool.eq_iff_iff, beq_iff_eq, beq_iff_eq, ← UInt8.toNat_inj]
      constructor
      · intro h; have : (32 : UInt8).toNat = 32 := rfl; omega
      · intro h; have : (32 : UInt8).toNat = 32 := rfl; omega
    rw [e32]
    cases hc : w[i] == 32
    · rw [cnd_false, hn, bnd_some, ih at_ (i + 1) k (by omega) (by omega) (by omega), cond_false]
      have : (w.drop at_).take (i + 1 - at_) = (w.drop at_).take (i - at_) ++ [w[i]] := by
        rw [show i + 1 - at_ = (i - at_) + 1 by omega, List.take_succ_eq_append_getElem (by simp; omega)]
        simp [show at_ + (i - at_) = i by omega]
      rw [this]
    · rw [cnd_true, cond_true]
      unfold Instarref01_One_j1
      rw [piece_nat h2 (by omega), bnd_some]
      by_cases e : ((w.drop at_).take (i - at_) == s) = true
      · rw [e]; rfl
      · rw [Bool.eq_false_iff.2 e, cnd_false, hn, bnd_some, bnd_some, ih (i + 1) (i + 1) k (by omega) (by omega) (by omega)]
        simp
theorem one_ok {fu : Nat} {s w : Bs} (hw : w.length ≤ 1000000) (hf : w.length + 1 < fu) : Instarref01_One_m fu s w = some (oneS s [] w) := by
  have := one_loop (s := s) hw w.length 0 0 fu (by omega) (by omega) hf
  unfold Instarref01_One_m
  simpa using this
theorem rightB_len {s : Bs} (h : rightB s = true) : 0 < s.length ∧ s.length ≤ 40 := by
  unfold rightB at h
  simp only [Bool.and_eq_true, decide_eq_true_eq] at h
  exact h.1.1
theorem ncustom_ok {fu : Nat} {s : Bs} (hfu : 200 < fu) : Name_Custom_m fu s = some (customB s) := by
  unfold Name_Custom_m customB
  rw [right_ok (by omega), bnd_some]
  cases hr : rightB s
  · rfl
  · rw [cnd_true]
    have hf : s.length < fu := by have := rightB_len hr; omega
    have hr' := hr
    unfold rightB at hr'
    obtain ⟨b, t, rfl⟩ : ∃ b t, s = b :: t := by cases s <;> simp_all
    simp only [Bool.and_eq_true] at hr'
    have hb := b.toNat_lt
    have hbytes : ∀ c ∈ b :: t, c.toNat < 128 := fun c hc => by
      have := List.all_eq_true.1 hr'.1.2 c hc
      unfold signB lowB upB at this
      simp only [Bool.or_eq_true, Bool.and_eq_true, decide_eq_true_eq] at this
      omega
    have hany : ((b :: t).any fun c => decide (128 ≤ c.toNat) || upB c) = (b :: t).any upB := by
      rw [Bool.eq_iff_iff, List.any_eq_true, List.any_eq_true]
      constructor
      · rintro ⟨c, h1, h2⟩
        rw [Bool.or_eq_true, decide_eq_true_eq] at h2
        rcases h2 with h2 | h2
        · have := hbytes c h1; omega
        · exact ⟨c, h1, h2⟩
      · rintro ⟨c, h1, h2⟩
        exact ⟨c, h1, by rw [h2, Bool.or_true]⟩
    rw [chr_zero, List.getElem?_cons_zero, Option.map_some, bnd_some, rng_ok (by simp only [lo, Go.Pw.hi]; omega), bnd_some, small_ok, low_cast, bnd_some,
      indexFunc_ok (f := upB) (fun c _ _ => by rw [capital_ok, up_cast]) (.inl hbytes) hf, bnd_some, hany]
    unfold hasByte_m Name_reserved_m
    rw [bnd_some, bnd_some, contains_str (by simp; omega) (by simp), bnd_some, indexByte_iff]
    simp only [Bool.true_and]
    cases lowB b <;> cases (b :: t).any upB <;> cases (b :: t).contains 45 <;> rfl
theorem lower_all (s : Bs) : (s == s.map lower) = !(s.any upB) := by
  rw [Bool.eq_iff_iff, beq_iff_eq, Bool.not_eq_true', List.any_eq_false]
  have h1 : ∀ b : UInt8, lower b = b ↔ ¬ upB b = true := fun b => by
    unfold lower
    by_cases h : upB b = true
    · rw [if_pos h]
      have := (upB_iff b).1 h
      refine ⟨fun e => ?_, fun h' => absurd h h'⟩
      have e' := congrArg UInt8.toNat e
      rw [UInt8.toNat_add] at e'
      have : (32 : UInt8).toNat = 32 := rfl
      omega
    · rw [if_neg h]; simp [h]
  constructor
  · intro h b hb
    obtain ⟨i, hi, rfl⟩ := List.mem_iff_getElem.1 hb
    have : (s.map lower)[i]'(by simpa using hi) = s[i] := by simp only [← h]
    rw [List.getElem_map] at this
    exact (h1 _).1 this
  · intro h
    have : s.map lower = s.map id := List.map_congr_left fun b hb => (h1 b).2 (h b hb)
    rw [this, List.map_id]
theorem rcustom_ok {fu : Nat} {s : Bs} (hfu : 200 < fu) : Instarref01_Custom_m fu s = some (customB s) := by
  unfold Instarref01_Custom_m customB
  rw [rright_ok (by omega), bnd_some]
  cases hr : rightB s
  · rfl
  · have hf : s.length < fu := by have := rightB_len hr; omega
    have hr' := hr
    unfold rightB at hr'
    obtain ⟨b, t, rfl⟩ : ∃ b t, s = b :: t := by cases s <;> simp_all
    simp only [Bool.and_eq_true, decide_eq_true_eq] at hr'
    rw [cnd_not, cnd_true, rsmall_ok hf (by omega), bnd_some, lower_all, cnd_not, cnd_not, chr_zero, List.getElem?_cons_zero, Option.map_some, bnd_some, one_ok (by decide) (by simp; omega), bnd_some]
    have hone : oneS (b :: t) [] [97, 110, 110, 111, 116, 97, 116, 105, 111, 110, 45, 120, 109, 108, 32, 99, 111, 108, 111, 114, 45, 112, 114, 111, 102, 105, 108, 101, 32, 102, 111, 110, 116, 45, 102, 97, 99, 101, 32, 102, 111, 110, 116, 45, 102, 97, 99, 101, 45, 115, 114, 99, 32, 102, 111, 110, 116, 45, 102, 97, 99, 101, 45, 117, 114, 105, 32, 102, 111, 110, 116, 45, 102, 97, 99, 101, 45, 102, 111, 114, 109, 97, 116, 32, 102, 111, 110, 116, 45, 102, 97, 99, 101, 45, 110, 97, 109, 101, 32, 109, 105, 115, 115, 105, 110, 103, 45, 103, 108, 121, 112, 104] = words.contains (b :: t) := by
      have : oneS (b :: t) [] [97, 110, 110, 111, 116, 97, 116, 105, 111, 110, 45, 120, 109, 108, 32, 99, 111, 108, 111, 114, 45, 112, 114, 111, 102, 105, 108, 101, 32, 102, 111, 110, 116, 45, 102, 97, 99, 101, 32, 102, 111, 110, 116, 45, 102, 97, 99, 101, 45, 115, 114, 99, 32, 102, 111, 110, 116, 45, 102, 97, 99, 101, 45, 117, 114, 105, 32, 102, 111, 110, 116, 45, 102, 97, 99, 101, 45, 102, 111, 114, 109, 97, 116, 32, 102, 111, 110, 116, 45, 102, 97, 99, 101, 45, 110, 97, 109, 101, 32, 109, 105, 115, 115, 105, 110, 103, 45, 103, 108, 121, 112, 104] = words.any (fun w => w == (b :: t)) := by
        have e : ∀ x : Bool, (x || false) = x := Bool.or_false
        unfold words
        simp only [List.any_cons, List.any_nil, Bool.or_false]
        rfl
      rw [this, List.contains_eq_any_beq]
      congr 1; funext w
      rw [Bool.eq_iff_iff, beq_iff_eq, beq_iff_eq]; exact eq_comm
    rw [hone]
    have hdash : Instarref01_Custom_l1 (b :: t) fu 0 = some ((b :: t).contains 45) := by
      rw [show (b :: t).contains 45 = (b :: t).any (fun c => c == 45) by rw [List.contains_eq_any_beq]; congr 1; funext w; rw [Bool.eq_iff_iff, beq_iff_eq, beq_iff_eq]; exact eq_comm]
      have h40 := hr'.1.1.2
      generalize b :: t = s at hf h40 ⊢
      refine up_any (L := Instarref01_Custom_l1 s) s (fun c => c == 45) (fun i hi k => ?_) (fun k => ?_) hf
      · simp only [Instarref01_Custom_l1]
        rw [cnd_pos (by simpa using hi), chr_lt hi, bnd_some, rng_nat (by omega), bnd_some, show ((s[i].toNat : Int) == 45) = (s[i] == 45) from byte_eq s[i] 45 (by omega)]
        cases s[i] == 45 <;> rfl
      · simp only [Instarref01_Custom_l1]
        rw [cnd_neg (by simp)]
    rw [hdash]
    have hlow : lowB b = (headB b && !(upB b) && !(decide (b.toNat = 95))) := by
      unfold headB lowB upB
      rw [Bool.eq_iff_iff]
      simp only [Bool.or_eq_true, Bool.and_eq_true, decide_eq_true_eq, Bool.not_eq_true', Bool.and_eq_false_iff, decide_eq_false_iff_not]
      omega
    have e95 : ((b.toNat : Int) == 95) = decide (b.toNat = 95) := by rw [Bool.eq_iff_iff, beq_iff_eq, decide_eq_true_eq]; omega
    rw [e95]
    simp only [Bool.true_and]
    rw [hlow, hr'.2]
    have hub : (b :: t).any upB = (upB b || t.any upB) := rfl
    rw [hub]
    cases upB b <;> cases t.any upB <;> cases decide (b.toNat = 95) <;> cases words.contains (b :: t) <;> cases (b :: t).contains 45 <;> rfl

/-! ## Names that fit -/
def fitB (s : Bs) : Bool := rightB s && (s.map lower == s)
theorem fit_ok {fu : Nat} {s : Bs} (hfu : 200 < fu) : Name_Fit_m fu s = some (if rightB s then (s.map lower, 0) else ([], 4)) := by
  unfold Name_Fit_m
  rw [right_ok (by omega), bnd_some, cnd_not]
  cases hr : rightB s
  · rfl
  · have := rightB_len hr
    rw [cnd_true, nsmall_ok (by omega) (by omega), bnd_some]; rfl
end Go.Proofs.Ytcojcgljfgljjaa
