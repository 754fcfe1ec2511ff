/- What the models of the reference for layer 1 (name) come to. -/
import Derived.Test.YtcaepigodglihaaNam1
namespace Go.Proofs.Ytcaepigodglihaa
open Go Go.Pw

theorem rright_ok {fu : Nat} {s : Bs} (hfu : 40 < fu) : Instarref01_Right_m fu s = some (rightB s) := by
  unfold Instarref01_Right_m rightB
  rw [cnd_eq, cnd_dec]
  by_cases h1 : s.length = 0
  · rw [if_pos (by omega)]; simp [h1]
  rw [if_neg (by omega)]
  by_cases h2 : s.length > 40
  · rw [if_pos (by omega)]; simp [show ¬ s.length ≤ 40 by omega]
  rw [if_neg (by omega)]
  rw [up_alli (L := Instarref01_Right_l1 s) s.length (fun i => match s[i]? with | some b => lowB b || upB b || decide (b.toNat = 95) || (decide (i ≠ 0) && signB b) | none => true) (some true) (fun i hi k => ?_) (fun k => ?_) (by omega)]
  · rw [decide_eq_true (by omega), decide_eq_true (by omega)]
    obtain ⟨b, t, rfl⟩ : ∃ b t, s = b :: t := by cases s <;> simp_all
    have : ((List.range (b :: t).length).all fun i => match (b :: t)[i]? with | some b => lowB b || upB b || decide (b.toNat = 95) || (decide (i ≠ 0) && signB b) | none => true) = ((b :: t).all signB && headB b) := by
      rw [Bool.eq_iff_iff]
      simp only [List.all_eq_true, Bool.and_eq_true, List.mem_range]
      have hs : ∀ c : UInt8, (lowB c || upB c || decide (c.toNat = 95)) = true → signB c = true := fun c hc => by
        unfold signB; simp only [Bool.or_eq_true, decide_eq_true_eq] at hc ⊢; rcases hc with (hc | hc) | hc <;> simp [hc]
      constructor
      · intro h
        have h0 : headB b = true := by simpa [headB] using h 0 (by simp)
        refine ⟨fun c hc => ?_, h0⟩
        obtain ⟨j, hj, rfl⟩ := List.mem_iff_getElem.1 hc
        have := h j hj
        rw [List.getElem?_eq_getElem hj] at this
        simp only [Bool.or_eq_true, Bool.and_eq_true, decide_eq_true_eq] at this
        rcases this with hq | hq
        · exact hs _ (by simpa using hq)
        · exact hq.2
      · rintro ⟨h, h0⟩ j hj
        rw [List.getElem?_eq_getElem hj]
        simp only [Bool.or_eq_true, Bool.and_eq_true, decide_eq_true_eq]
        by_cases e : j = 0
        · subst e; left; simpa [headB] using h0
        · right; exact ⟨e, h _ (List.getElem_mem hj)⟩
    rw [this]
    simp only [Bool.true_and]
    cases ((b :: t).all signB && headB b) <;> rfl
  · simp only [Instarref01_Right_l1]
    rw [cnd_pos (by simpa using hi), chr_lt hi, bnd_some, List.getElem?_eq_getElem hi]
    have hn := rng_nat (show i ≤ 9223372036854775806 by omega)
    have hk : rng .i64 ((i : Int) + 1) = some (((i + 1 : Nat)) : Int) := hn
    simp only [Instarref01_Right_j1, Instarref01_Right_j2, hk, bnd_some, cnd_dec, cnd_eq, cnd_ne, cnd_not]
    generalize Instarref01_Right_l1 s k ((i + 1 : Nat) : Int) = X
    generalize s[i] = b
    unfold signB lowB upB
    have hb := b.toNat_lt
    generalize b.toNat = n at hb
    simp only [Bool.cond_eq_ite, Bool.or_eq_true, Bool.and_eq_true, decide_eq_true_eq, cnd_if]
    have c1 : ((n : Int) ≥ 97) = (97 ≤ n) := propext ⟨by omega, by omega⟩
    have c2 : ((n : Int) ≤ 122) = (n ≤ 122) := propext ⟨by omega, by omega⟩
    have c3 : ((n : Int) ≥ 65) = (65 ≤ n) := propext ⟨by omega, by omega⟩
    have c4 : ((n : Int) ≤ 90) = (n ≤ 90) := propext ⟨by omega, by omega⟩
    have c5 : ((n : Int) ≥ 48) = (48 ≤ n) := propext ⟨by omega, by omega⟩
    have c6 : ((n : Int) ≤ 57) = (n ≤ 57) := propext ⟨by omega, by omega⟩
    have c7 : ((n : Int) = 45) = (n = 45) := propext ⟨by omega, by omega⟩
    have c8 : ((n : Int) = 95) = (n = 95) := propext ⟨by omega, by omega⟩
    have c9 : ((n : Int) = 46) = (n = 46) := propext ⟨by omega, by omega⟩
    have c10 : ((i : Int) = 0) = (i = 0) := propext ⟨by omega, by omega⟩
    simp only [c1, c2, c3, c4, c5, c6, c7, c8, c9, c10, ne_eq]
    clear c1 c2 c3 c4 c5 c6 c7 c8 c9 c10 hn hk
    by_cases a1 : 97 ≤ n <;> by_cases a2 : n ≤ 122 <;> by_cases a3 : 65 ≤ n <;> by_cases a4 : n ≤ 90 <;> (try omega) <;> by_cases a5 : 48 ≤ n <;> by_cases a6 : n ≤ 57 <;> (try omega) <;> by_cases a7 : n = 45 <;> (try omega) <;> by_cases a8 : n = 95 <;> (try omega) <;> by_cases a9 : n = 46 <;> (try omega) <;> by_cases a10 : i = 0 <;> simp [a1, a2, a3, a4, a5, a6, a7, a8, a9, a10]
  · simp only [Instarref01_Right_l1]
    rw [cnd_neg (by simp)]

theorem rsmall_ok {fu : Nat} {s : Bs} (hf : s.length < fu) (hb : s.length ≤ 1000000) : Instarref01_Small_m fu s = some (s.map lower) := by
  unfold Instarref01_Small_m
  have := upf (L := Instarref01_Small_l1 s) (f := fun i => ((s.take i).map lower, (i : Int))) (v := some (s.map lower)) s.length (fun i hi k => ?_) (fun k => ?_) hf
  · simpa using this
  · simp only [Instarref01_Small_l1]
    have hn : rng .i64 ((i : Int) + 1) = some ((i + 1 : Nat) : Int) := rng_nat (by omega)
    have hp : piece s (i : Int) ((i + 1 : Nat) : Int) = some [s[i]] := by
      rw [piece_nat (by omega) (by omega), List.drop_eq_getElem_cons hi, show i + 1 - i = 1 by omega]; rfl
    have hc : ∀ x : UInt8, cat ((s.take i).map lower) [x] = some ((s.take i).map lower ++ [x]) := fun x => cat_ok (by simp; omega)
    rw [cnd_pos (by simpa using hi), chr_lt hi, bnd_some, bnd_some, bnd_some, hn, take_succ_map _ hi]
    simp only [bnd_some, hp, hc, cnd_dec]
    have hb := s[i].toNat_lt
    by_cases h : upB s[i] = true
    · have h' := (upB_iff _).1 h
      rw [if_pos (by omega), if_pos (by omega), rng_ok (by simp only [lo, Go.Pw.hi]; omega), bnd_some]
      have : strOf [(s[i].toNat : Int) + 32] = [lower s[i]] := by
        have e := lower_low s[i]
        unfold lowI at e
        rw [if_pos (by omega)] at e
        rw [e]; simp [strOf]
      rw [this, hc, bnd_some]
    · have h' : ¬ (65 ≤ s[i].toNat ∧ s[i].toNat ≤ 90) := fun h' => h ((upB_iff _).2 h')
      have e : lower s[i] = s[i] := by unfold lower; rw [if_neg h]
      rw [e]
      by_cases h1 : (s[i].toNat : Int) ≥ 65
      · rw [if_pos h1, if_neg (by omega)]
      · rw [if_neg h1]
  · simp only [Instarref01_Small_l1]
    rw [cnd_neg (by simp)]; simp

/-- One of some words, with blanks between. -/
def oneS (s : Bs) : Bs → Bs → Bool
  | cur, [] => cur == s
  | cur, c :: r => bif c == 32 then cur == s || oneS s [] r else oneS s (cur ++ [c]) r
theorem one_loop {s w : Bs} (hw : w.length ≤ 1000000) : ∀ (j at_ i k : Nat), i + j = w.length → at_ ≤ i → j + 1 < k → Instarref01_One_l1 s w k ((at_ : Int), (i : Int)) = some (oneS s ((w.drop at_).take (i - at_)) (w.drop i)) := by
  intro j
  induction j with
  | zero =>
    intro at_ i k h1 h2 hk
    obtain ⟨k, rfl⟩ : ∃ k', k = k' + 2 := ⟨k - 2, by omega⟩
    obtain rfl : i = w.length := by omega
    simp only [Instarref01_One_l1]
    have hn : rng .i64 ((w.length : Int) + 1) = some ((w.length + 1 : Nat) : Int) := rng_nat (by omega)
    rw [cnd_pos (by simp), cnd_pos (by simp)]
    unfold Instarref01_One_j1
    rw [piece_nat h2 (Nat.le_refl _), bnd_some, List.drop_length]
    simp only [oneS]
    by_cases e : ((w.drop at_).take (w.length - at_) == s) = true
    · rw [e]; rfl
    · rw [Bool.eq_false_iff.2 e, cnd_false, hn, bnd_some, bnd_some]
      show Instarref01_One_l1 s w (k + 1) (((w.length + 1 : Nat) : Int), ((w.length + 1 : Nat) : Int)) = some false
      unfold Instarref01_One_l1
      rw [cnd_neg (by simp; omega)]
  | succ j ih =>
    intro at_ i k h1 h2 hk
    obtain ⟨k, rfl⟩ : ∃ k', k = k' + 1 := ⟨k - 1, by omega⟩
    have hi : i < w.length := by omega
    simp only [Instarref01_One_l1]
    have hn : rng .i64 ((i : Int) + 1) = some ((i + 1 : Nat) : Int) := rng_nat (by omega)
    rw [cnd_pos (by simp; omega), cnd_neg (by simp; omega), chr_lt hi, bnd_some, List.drop_eq_getElem_cons hi]
    simp only [oneS]
    have e32 : ((w[i].toNat : Int) == 32) = (w[i] == 32) := by
      rw [Bool.eq_iff_iff, beq_iff_eq, beq_iff_eq, ← UInt8.toNat_inj]
      constructor
      · intro h; have : (32 : UInt8).toNat = 32 := rfl; omega
      · intro h; have : (32 : UInt8).toNat = 32 := rfl; omega
    rw [e32]
    cases hc : w[i] == 32
    · rw [cnd_false, hn, bnd_some, ih at_ (i + 1) k (by omega) (by omega) (by omega), cond_false]
      have : (w.drop at_).take (i + 1 - at_) = (w.drop at_).take (i - at_) ++ [w[i]] := by
        rw [show i + 1 - at_ = (i - at_) + 1 by omega, List.take_succ_eq_append_getElem (by simp; omega)]
        simp [show at_ + (i - at_) = i by omega]
      rw [this]
    · rw [cnd_true, cond_true]
      unfold Instarref01_One_j1
      rw [piece_nat h2 (by omega), bnd_some]
      by_cases e : ((w.drop at_).take (i - at_) == s) = true
      · rw [e]; rfl
      · rw [Bool.eq_false_iff.2 e, cnd_false, hn, bnd_some, bnd_some, ih (i + 1) (i + 1) k (by omega) (by omega) (by omega)]
        simp
theorem one_ok {fu : Nat} {s w : Bs} (hw : w.length ≤ 1000000) (hf : w.length + 1 < fu) : Instarref01_One_m fu s w = some (oneS s [] w) := by
  have := one_loop (s := s) hw w.length 0 0 fu (by omega) (by omega) hf
  unfold Instarref01_One_m
  simpa using this
theorem rcustom_ok {fu : Nat} {s : Bs} (hfu : 200 < fu) : Instarref01_Custom_m fu s = some (customB s) := by
  unfold Instarref01_Custom_m customB
  rw [rright_ok (by omega), bnd_some]
  cases hr : rightB s
  · rfl
  · have hf : s.length < fu := by have := rightB_len hr; omega
    have hr' := hr
    unfold rightB at hr'
    obtain ⟨b, t, rfl⟩ : ∃ b t, s = b :: t := by cases s <;> simp_all
    simp only [Bool.and_eq_true, decide_eq_true_eq] at hr'
    rw [cnd_not, cnd_true, rsmall_ok hf (by omega), bnd_some, lower_all, cnd_not, cnd_not, chr_zero, List.getElem?_cons_zero, Option.map_some, bnd_some, one_ok (by decide) (by simp; omega), bnd_some]
    have hone : oneS (b :: t) [] [97, 110, 110, 111, 116, 97, 116, 105, 111, 110, 45, 120, 109, 108, 32, 99, 111, 108, 111, 114, 45, 112, 114, 111, 102, 105, 108, 101, 32, 102, 111, 110, 116, 45, 102, 97, 99, 101, 32, 102, 111, 110, 116, 45, 102, 97, 99, 101, 45, 115, 114, 99, 32, 102, 111, 110, 116, 45, 102, 97, 99, 101, 45, 117, 114, 105, 32, 102, 111, 110, 116, 45, 102, 97, 99, 101, 45, 102, 111, 114, 109, 97, 116, 32, 102, 111, 110, 116, 45, 102, 97, 99, 101, 45, 110, 97, 109, 101, 32, 109, 105, 115, 115, 105, 110, 103, 45, 103, 108, 121, 112, 104] = words.contains (b :: t) := by
      have : oneS (b :: t) [] [97, 110, 110, 111, 116, 97, 116, 105, 111, 110, 45, 120, 109, 108, 32, 99, 111, 108, 111, 114, 45, 112, 114, 111, 102, 105, 108, 101, 32, 102, 111, 110, 116, 45, 102, 97, 99, 101, 32, 102, 111, 110, 116, 45, 102, 97, 99, 101, 45, 115, 114, 99, 32, 102, 111, 110, 116, 45, 102, 97, 99, 101, 45, 117, 114, 105, 32, 102, 111, 110, 116, 45, 102, 97, 99, 101, 45, 102, 111, 114, 109, 97, 116, 32, 102, 111, 110, 116, 45, 102, 97, 99, 101, 45, 110, 97, 109, 101, 32, 109, 105, 115, 115, 105, 110, 103, 45, 103, 108, 121, 112, 104] = words.any (fun w => w == (b :: t)) := by
        have e : ∀ x : Bool, (x || false) = x := Bool.or_false
        unfold words
        simp only [List.any_cons, List.any_nil, Bool.or_false]
        rfl
      rw [this, List.contains_eq_any_beq]
      congr 1; funext w
      rw [Bool.eq_iff_iff, beq_iff_eq, beq_iff_eq]; exact eq_comm
    rw [hone]
    have hdash : Instarref01_Custom_l1 (b :: t) fu 0 = some ((b :: t).contains 45) := by
      rw [show (b :: t).contains 45 = (b :: t).any (fun c => c == 45) by rw [List.contains_eq_any_beq]; congr 1; funext w; rw [Bool.eq_iff_iff, beq_iff_eq, beq_iff_eq]; exact eq_comm]
      have h40 := hr'.1.1.2
      generalize b :: t = s at hf h40 ⊢
      refine up_any (L := Instarref01_Custom_l1 s) s (fun c => c == 45) (fun i hi k => ?_) (fun k => ?_) hf
      · simp only [Instarref01_Custom_l1]
        rw [cnd_pos (by simpa using hi), chr_lt hi, bnd_some, rng_nat (by omega), bnd_some, show ((s[i].toNat : Int) == 45) = (s[i] == 45) from byte_eq s[i] 45 (by omega)]
        cases s[i] == 45 <;> rfl
      · simp only [Instarref01_Custom_l1]
        rw [cnd_neg (by simp)]
    rw [hdash]
    have hlow : lowB b = (headB b && !(upB b) && !(decide (b.toNat = 95))) := by
      unfold headB lowB upB
      rw [Bool.eq_iff_iff]
      simp only [Bool.or_eq_true, Bool.and_eq_true, decide_eq_true_eq, Bool.not_eq_true', Bool.and_eq_false_iff, decide_eq_false_iff_not]
      omega
    have e95 : ((b.toNat : Int) == 95) = decide (b.toNat = 95) := by rw [Bool.eq_iff_iff, beq_iff_eq, decide_eq_true_eq]; omega
    rw [e95]
    simp only [Bool.true_and]
    rw [hlow, hr'.2]
    have hub : (b :: t).any upB = (upB b || t.any upB) := rfl
    rw [hub]
    cases upB b <;> cases t.any upB <;> cases decide (b.toNat = 95) <;> cases words.contains (b :: t) <;> cases (b :: t).contains 45 <;> rfl

end Go.Proofs.Ytcaepigodglihaa
