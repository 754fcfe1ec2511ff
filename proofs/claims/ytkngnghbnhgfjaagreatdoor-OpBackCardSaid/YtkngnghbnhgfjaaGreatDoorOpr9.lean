/- The laws OpBack, OpReads, OpAims, OpKinds, of the models. -/
import Derived.Test.YtkngnghbnhgfjaaGreatDoorOpr8
namespace Go.Proofs.YtkngnghbnhgfjaaGreatDoor
open Go Go.Pw
set_option linter.unusedVariables false

def flip (o : Op) : Op := ⟨o.Kind, o.A, o.B, o.C, o.S, o.T, !o.Must⟩
theorem flip_right {o : Op} (h : RightP o) : RightP (flip o) := ⟨h.kind, h.a, h.b, h.c, h.s, h.t⟩
theorem flip_rightP (o : Op) : rightP (flip o) = rightP o := rfl
theorem flip_put {o : Op} : (o.Must = true → putP o = 33 :: putP (flip o)) ∧ (o.Must = false → putP (flip o) = 33 :: putP o) := by
  refine ⟨fun h => ?_, fun h => ?_⟩
  · show bang o.Must ++ (wd o.Kind ++ tl (partsP o)) = 33 :: (bang (!o.Must) ++ (wd o.Kind ++ tl (partsP o)))
    rw [h]; rfl
  · show bang (!o.Must) ++ (wd o.Kind ++ tl (partsP o)) = 33 :: (bang o.Must ++ (wd o.Kind ++ tl (partsP o)))
    rw [h]; rfl
theorem neb (b : Bool) : (!(b == b)) = false := by cases b <;> rfl
theorem opBack (o : Op) : ∃ fu, Instarlaw16_OpBack_m fu o = some true := by
  refine ⟨10000, ?_⟩
  unfold Instarlaw16_OpBack_m
  rw [awake_m (by omega), bnd_some, Bool.not_true, cnd_false, cnd_dec, cnd_dec]
  by_cases l1 : ((o.S.length : Nat) : Int) > 600
  · rw [if_pos l1]
  rw [if_neg l1]
  by_cases l2 : ((o.T.length : Nat) : Int) > 600
  · rw [if_pos l2]
  rw [if_neg l2, put_m, bnd_some]
  cases hr : rightP o with
  | false =>
    rw [if_neg (by decide)]
    show cnd ((1 : Int) != 0) (cnd ((1 : Int) == 1) (cnd (([] : Bs) == []) _ _) _) _ = _
    rw [show ((1 : Int) != 0) = true from rfl, cnd_true, show ((1 : Int) == 1) = true from rfl, cnd_true, show (([] : Bs) == []) = true from rfl, cnd_true, right_m, bnd_some, hr]
    rfl
  | true =>
    have h := right_iff.1 hr
    have hlen := putP_len h
    rw [if_pos rfl]
    show cnd ((0 : Int) != 0) _ (bnd (Op_Read_m 10000 (putP o)) _) = _
    rw [show ((0 : Int) != 0) = false from rfl, cnd_false, read_own h (by omega), bnd_some]
    show cnd ((0 : Int) != 0) _ (cnd (!(eqOp o o)) _ _) = _
    rw [show ((0 : Int) != 0) = false from rfl, cnd_false, eqOp_self, Bool.not_true, cnd_false, right_m, bnd_some, hr, Bool.not_true, cnd_false]
    have hlf := putP_len (flip_right h)
    show bnd (Op_Put_m 10000 (flip o)) _ = _
    rw [put_right (flip_right h), bnd_some]
    show cnd ((0 : Int) != 0) _ _ = _
    rw [show ((0 : Int) != 0) = false from rfl, cnd_false]
    have j1 : Instarlaw16_OpBack_j1 10000 (putP o, 0) () = some true := by
      unfold Instarlaw16_OpBack_j1
      have g1 : Op_Read_m 10000 (putP o ++ [32]) = some (op0, 2) := read_none (by simp; omega) (by simp; omega) (fun p hp => putP_last hp _)
      have g2 : Op_Read_m 10000 ([32] ++ putP o) = some (op0, 2) := read_none (by simp; omega) (by simp; omega) (fun p hp => putP_first hp _)
      simp only
      rw [cat_ok (by simp; omega), bnd_some, g1, bnd_some, cat_ok (by simp; omega), bnd_some, g2, bnd_some]
      rfl
    cases hm : o.Must with
    | true =>
      have e := flip_put.1 hm
      rw [cnd_true, cat_ok (by simp; omega), bnd_some]
      show cnd (!(putP o == 33 :: putP (flip o))) _ _ = _
      rw [← e, show (putP o == putP o) = true from by simp, Bool.not_true, cnd_false, cnd_false]
      exact j1
    | false =>
      have e := flip_put.2 hm
      rw [cnd_false, Bool.not_false, cnd_true, cat_ok (by simp; omega), bnd_some]
      show cnd (!(putP (flip o) == 33 :: putP o)) _ _ = _
      rw [← e, show (putP (flip o) == putP (flip o)) = true from by simp, Bool.not_true, cnd_false]
      exact j1
theorem opReads (s t : Bs) : ∃ fu, Instarlaw16_OpReads_m fu s t = some true := by
  refine ⟨10000, ?_⟩
  unfold Instarlaw16_OpReads_m
  rw [awake_m (by omega), bnd_some, Bool.not_true, cnd_false, cnd_dec, cnd_dec]
  by_cases l1 : ((s.length : Nat) : Int) > 600
  · rw [if_pos l1]
  rw [if_neg l1]
  by_cases l2 : ((t.length : Nat) : Int) > 600
  · rw [if_pos l2]
  rw [if_neg l2]
  rcases read_m (fu := 10000) (s := s) (by omega) (by omega) with ⟨o, h1, h2, h3⟩ | ⟨_, h3⟩
  · rw [h3, bnd_some]
    show cnd ((0 : Int) != 0) _ (bnd (Op_Put_m 10000 o) _) = _
    rw [show ((0 : Int) != 0) = false from rfl, cnd_false, put_right h1, bnd_some]
    show cnd ((0 : Int) != 0) _ (cnd (!(putP o == s)) _ _) = _
    rw [show ((0 : Int) != 0) = false from rfl, cnd_false, h2, show (s == s) = true from by simp, Bool.not_true, cnd_false, right_m, bnd_some, right_iff.2 h1, Bool.not_true, cnd_false]
    rcases read_m (fu := 10000) (s := t) (by omega) (by omega) with ⟨p, g1, g2, g3⟩ | ⟨_, g3⟩
    · rw [g3, bnd_some]
      show cnd ((0 : Int) != 0) _ (some (eqOp o p == (s == t))) = _
      rw [show ((0 : Int) != 0) = false from rfl, cnd_false]
      congr 1
      have : eqOp o p = (s == t) := by
        rw [Bool.eq_iff_iff, eqOp_iff, beq_iff_eq, ← h2, ← g2]
        exact ⟨fun e => by rw [e], fun e => putP_inj h1 g1 e⟩
      rw [this]; simp
    · rw [g3, bnd_some]; rfl
  · rw [h3, bnd_some]; rfl

/-! ## Aimed twice -/
theorem aimN_named {f : UInt8} {n self many x : Int} (hf : f = 110 ∨ f = 111 ∨ f = 105 ∨ f = 46) (hn : fit f n = true) (h : aimN f n self many = some x) (h1 : 1 ≤ many) (h2 : many ≤ 400) (other : Int) :
    fit f x = true ∧ aimN f x other many = some x ∧ (x = n ∨ x = nameN n self many) := by
  unfold aimN at h
  split at h
  · rename_i hc
    cases h
    exact ⟨hn, by unfold aimN; rw [if_pos hc], .inl rfl⟩
  · rename_i hc
    split at h
    · rename_i hr
      cases h
      have hfl : f = 110 ∨ f = 111 := by
        rcases hf with h | h | h | h
        · exact .inl h
        · exact .inr h
        · exact absurd (.inr (.inl h)) hc
        · exact absurd (.inl h) hc
      generalize nameN n self many = x at hr
      refine ⟨?_, ?_, .inr rfl⟩
      · unfold fit
        rw [if_neg (by rcases hfl with rfl | rfl <;> decide), if_pos hfl, decide_eq_true_eq]
        exact .inr (.inr (.inl ⟨by omega, by omega⟩))
      · have e : nameN x other many = x := by unfold nameN; rw [if_neg (by omega), if_neg (by omega)]
        unfold aimN
        rw [if_neg, e, if_pos hr]
        rintro (h | h | h)
        · exact hc (.inl h)
        · exact hc (.inr (.inl h))
        · omega
    · cases h
theorem aimN_none {f : UInt8} {n self many : Int} (h : aimN f n self many = none) : ¬ (0 ≤ nameN n self many ∧ nameN n self many < many) := by
  unfold aimN at h
  split at h
  · cases h
  · split at h
    · cases h
    · rename_i hr; exact hr
theorem named_m {fu : Nat} {n self many : Int} (h1 : 1 ≤ many) (h2 : many ≤ 400) : Instarlaw16_named_m fu n self many = some (nameN n self many) := by
  unfold Instarlaw16_named_m nameN
  rw [cnd_eq, cnd_eq, rng64 (by omega) (by omega), bnd_some, i64_wrap ⟨by omega, by omega⟩]
  by_cases e1 : n = -2
  · rw [if_pos e1, if_pos e1]
  · rw [if_neg e1, if_neg e1]
    by_cases e2 : n = -3
    · rw [if_pos e2, if_pos e2]
    · rw [if_neg e2, if_neg e2]
theorem there_m {fu : Nat} {n many : Int} : Instarlaw16_there_m fu n many = some (decide (0 ≤ n ∧ n < many)) := by
  unfold Instarlaw16_there_m
  rw [cnd_dec]
  by_cases h : n ≥ 0
  · rw [if_pos h]; congr 1; rw [decide_eq_decide]; omega
  · rw [if_neg h]; congr 1; symm; rw [decide_eq_false_iff_not]; omega
theorem or_cnd {p q : Bool} {x : Option Bool} (h : p = true ∨ q = true) : cnd p x (cnd q x (some false)) = x := by cases p <;> cases q <;> first | rfl | (rcases h with h | h <;> cases h)
theorem opAims (o : Op) (self many other : Int) : ∃ fu, Instarlaw16_OpAims_m fu o self many other = some true := by
  refine ⟨10000, ?_⟩
  unfold Instarlaw16_OpAims_m
  rw [awake_m (by omega), bnd_some, Bool.not_true, cnd_false, cnd_dec, cnd_dec, cnd_dec, cnd_dec, cnd_dec, cnd_dec]
  by_cases l1 : ((o.S.length : Nat) : Int) > 600
  · rw [if_pos l1]
  rw [if_neg l1]
  by_cases l2 : ((o.T.length : Nat) : Int) > 600
  · rw [if_pos l2]
  rw [if_neg l2]
  by_cases l3 : many < 1
  · rw [if_pos l3]
  rw [if_neg l3]
  by_cases l4 : many > 400
  · rw [if_pos l4]
  rw [if_neg l4]
  by_cases l5 : self < -1
  · rw [if_pos l5]
  rw [if_neg l5]
  by_cases l6 : self ≥ many
  · rw [if_pos l6]
  rw [if_neg l6, aim_m, bnd_some, right_m, bnd_some]
  have hm1 : 1 ≤ many := by omega
  have hm2 : many ≤ 400 := by omega
  cases hr : rightP o with
  | false =>
    rw [Bool.not_false, cnd_true, show aimP o self many = (op0, 2) from by unfold aimP; rw [if_neg (by rw [hr]; decide)]]
    rfl
  | true =>
    have h := right_iff.1 hr
    rw [Bool.not_true, cnd_false, named_m hm1 hm2, bnd_some, named_m hm1 hm2, bnd_some, named_m hm1 hm2, bnd_some]
    have fa := fc_num o.Kind (i := 0) (by omega)
    have fb := fc_num o.Kind (i := 1) (by omega)
    have fcc := fc_num o.Kind (i := 2) (by omega)
    have bad : ¬ ((0 ≤ nameN o.A self many ∧ nameN o.A self many < many) ∧ (0 ≤ nameN o.B self many ∧ nameN o.B self many < many) ∧ (0 ≤ nameN o.C self many ∧ nameN o.C self many < many)) →
        cnd (((op0, (6 : Int)) : Op × Int).2 == 6) (cnd (eqOp ((op0, (6 : Int)) : Op × Int).1 (⟨0, 0, 0, 0, [], [], false⟩ : Op)) (bnd (Instarlaw16_there_m 10000 (nameN o.A self many) many) fun r11 => cnd r11 (bnd (Instarlaw16_there_m 10000 (nameN o.B self many) many) fun r12 => cnd r12 (bnd (Instarlaw16_there_m 10000 (nameN o.C self many) many) fun r13 => some (!r13)) (some true)) (some true)) (some false)) (some false) = some true := fun hb => by
      rw [show (((op0, (6 : Int)) : Op × Int).2 == 6) = true from rfl, cnd_true, show eqOp ((op0, (6 : Int)) : Op × Int).1 (⟨0, 0, 0, 0, [], [], false⟩ : Op) = true from rfl, cnd_true, there_m, bnd_some, there_m, bnd_some, there_m, bnd_some, cnd_dec, cnd_dec]
      by_cases ha : 0 ≤ nameN o.A self many ∧ nameN o.A self many < many
      · rw [if_pos ha]
        by_cases hb' : 0 ≤ nameN o.B self many ∧ nameN o.B self many < many
        · rw [if_pos hb', decide_eq_false (fun hc => hb ⟨ha, hb', hc⟩)]; rfl
        · rw [if_neg hb']
      · rw [if_neg ha]
    have hcase : (aimP o self many = (op0, 6) ∧ ¬ ((0 ≤ nameN o.A self many ∧ nameN o.A self many < many) ∧ (0 ≤ nameN o.B self many ∧ nameN o.B self many < many) ∧ (0 ≤ nameN o.C self many ∧ nameN o.C self many < many))) ∨
        ∃ a b c, aimN (fc o.Kind 0) o.A self many = some a ∧ aimN (fc o.Kind 1) o.B self many = some b ∧ aimN (fc o.Kind 2) o.C self many = some c ∧ aimP o self many = (⟨o.Kind, a, b, c, o.S, o.T, o.Must⟩, 0) := by
      unfold aimP
      rw [if_pos hr]
      cases ea : aimN (fc o.Kind 0) o.A self many with
      | none => exact .inl ⟨rfl, fun hb => aimN_none ea hb.1⟩
      | some a =>
        cases eb : aimN (fc o.Kind 1) o.B self many with
        | none => exact .inl ⟨rfl, fun hb => aimN_none eb hb.2.1⟩
        | some b =>
          cases ec : aimN (fc o.Kind 2) o.C self many with
          | none => exact .inl ⟨rfl, fun hb => aimN_none ec hb.2.2⟩
          | some c => exact .inr ⟨a, b, c, rfl, rfl, rfl, rfl⟩
    rcases hcase with ⟨e, hb⟩ | ⟨a, b, c, ea, eb, ec, e⟩
    · rw [e]
      show cnd ((6 : Int) != 0) _ _ = some true
      rw [show ((6 : Int) != 0) = true from rfl, cnd_true]
      exact bad hb
    · obtain ⟨a1, a2, a3⟩ := aimN_named fa h.a ea hm1 hm2 other
      obtain ⟨b1, b2, b3⟩ := aimN_named fb h.b eb hm1 hm2 other
      obtain ⟨c1, c2, c3⟩ := aimN_named fcc h.c ec hm1 hm2 other
      have h' : RightP ⟨o.Kind, a, b, c, o.S, o.T, o.Must⟩ := ⟨h.kind, a1, b1, c1, h.s, h.t⟩
      have e' : aimP ⟨o.Kind, a, b, c, o.S, o.T, o.Must⟩ other many = (⟨o.Kind, a, b, c, o.S, o.T, o.Must⟩, 0) := by
        unfold aimP
        rw [if_pos (right_iff.2 h')]
        simp only
        rw [a2]
        simp only
        rw [b2]
        simp only
        rw [c2]
      rw [e]
      simp only
      rw [show ((0 : Int) != 0) = false from rfl, cnd_false, aim_m, bnd_some, e']
      simp only
      rw [show ((0 : Int) != 0) = false from rfl, cnd_false, eqOp_self, Bool.not_true, cnd_false, right_m, bnd_some, right_iff.2 h', Bool.not_true, cnd_false]
      have nn : ∀ x : Int, (x != x) = false := fun x => by simp
      have ns : ∀ x : Bs, (!(x == x)) = false := fun x => by simp
      rw [nn, cnd_false, ns, cnd_false, ns, cnd_false, neb, cnd_false]
      simp only [cnd_eq]
      have fin : (if c = o.C then some true else some (c == nameN o.C self many)) = some true := by
        rcases c3 with e | e
        · rw [if_pos e]
        · by_cases e2 : c = o.C
          · rw [if_pos e2]
          · rw [if_neg e2, e]; simp
      rw [fin]
      have fin2 : (if b = o.B then some true else if b = nameN o.B self many then some true else some false) = some true := by
        rcases b3 with e | e
        · rw [if_pos e]
        · by_cases e2 : b = o.B
          · rw [if_pos e2]
          · rw [if_neg e2, if_pos e]
      rw [fin2]
      rcases a3 with e | e
      · rw [if_pos e]
      · by_cases e2 : a = o.A
        · rw [if_pos e2]
        · rw [if_neg e2, if_pos e]

/-! ## Kinds -/
theorem feed_stop {fu k : Nat} {o : Op} {s : Bs} : Instarlaw16_OpKinds_l1 fu o s (k + 1) (decide ((10 : UInt8) ∈ s.take s.length), (s.length : Int)) = Instarlaw16_OpKinds_j1 fu o s (decide (s.length ≤ 200 ∧ (10 : UInt8) ∉ s)) := by
  rw [Instarlaw16_OpKinds_l1, List.take_length, show decide (((s.length : Nat) : Int) < ((s.length : Nat) : Int)) = false from by simp, cnd_false]
  by_cases h : (10 : UInt8) ∈ s
  · rw [show decide ((10 : UInt8) ∈ s) = true from by simpa using h, Bool.not_true, cnd_false, show decide (s.length ≤ 200 ∧ (10 : UInt8) ∉ s) = false from by simp [h]]
  · rw [show decide ((10 : UInt8) ∈ s) = false from by simpa using h, Bool.not_false, cnd_true]
    congr 1
    rw [decide_eq_decide]
    exact ⟨fun e => ⟨by omega, h⟩, fun e => by omega⟩
theorem feed_l {fu : Nat} {o : Op} {s : Bs} (hs : s.length ≤ 1000000) : ∀ (n i k : Nat), s.length - i ≤ n → i ≤ s.length → n < k →
    Instarlaw16_OpKinds_l1 fu o s k (decide ((10 : UInt8) ∈ s.take i), (i : Int)) = Instarlaw16_OpKinds_j1 fu o s (decide (s.length ≤ 200 ∧ (10 : UInt8) ∉ s)) := by
  intro n
  induction n with
  | zero =>
    intro i k h1 h2 h3
    obtain ⟨k, rfl⟩ : ∃ k', k = k' + 1 := ⟨k - 1, by omega⟩
    obtain rfl : i = s.length := by omega
    exact feed_stop
  | succ n ih =>
    intro i k h1 h2 h3
    obtain ⟨k, rfl⟩ : ∃ k', k = k' + 1 := ⟨k - 1, by omega⟩
    by_cases hi : i < s.length
    · have e1 : decide ((i : Int) < ((s.length : Nat) : Int)) = true := by simpa using hi
      have e2 : rng .i64 ((i : Int) + 1) = some ((i + 1 : Nat) : Int) := rng_nat (by omega)
      rw [Instarlaw16_OpKinds_l1, e1, cnd_true, e2, bnd_some, chr_lt hi, bnd_some, bnd_some, show (((s[i].toNat : Nat) : Int) == 10) = (s[i] == 10) from byte_is _ 10]
      have hmem : ((10 : UInt8) ∈ s.take (i + 1)) ↔ (10 : UInt8) ∈ s.take i ∨ s[i] = 10 := by
        rw [List.take_succ_eq_append_getElem hi, List.mem_append, List.mem_singleton]
        exact or_congr_right ⟨fun h => h.symm, fun h => h.symm⟩
      have := ih (i + 1) k (by omega) (by omega) (by omega)
      by_cases h : (10 : UInt8) ∈ s.take i
      · rw [show decide ((10 : UInt8) ∈ s.take i) = true from by simpa using h, cnd_true]
        rw [show decide ((10 : UInt8) ∈ s.take (i + 1)) = true from by rw [decide_eq_true_eq]; exact hmem.2 (.inl h)] at this
        exact this
      · rw [show decide ((10 : UInt8) ∈ s.take i) = false from by rw [decide_eq_false_iff_not]; exact h, cnd_false]
        rw [show decide ((10 : UInt8) ∈ s.take (i + 1)) = (s[i] == 10) from by
          rw [Bool.eq_iff_iff, decide_eq_true_eq, beq_iff_eq, hmem]
          exact ⟨fun e => e.resolve_left h, fun e => .inr e⟩] at this
        exact this
    · obtain rfl : i = s.length := by omega
      exact feed_stop
theorem opKinds (o : Op) (s : Bs) : ∃ fu, Instarlaw16_OpKinds_m fu o s = some true := by
  refine ⟨10000, ?_⟩
  unfold Instarlaw16_OpKinds_m
  rw [awake_m (by omega), bnd_some, Bool.not_true, cnd_false, cnd_dec, cnd_dec, cnd_dec]
  by_cases l1 : ((o.S.length : Nat) : Int) > 600
  · rw [if_pos l1]
  rw [if_neg l1]
  by_cases l2 : ((o.T.length : Nat) : Int) > 600
  · rw [if_pos l2]
  rw [if_neg l2]
  by_cases l3 : ((s.length : Nat) : Int) > 600
  · rw [if_pos l3]
  rw [if_neg l3, right_m, bnd_some, right_m, bnd_some, still_m, bnd_some, still_m, bnd_some, carries_m, bnd_some, carries_m, bnd_some]
  rw [show rightP (⟨o.Kind, o.A, o.B, o.C, o.S, o.T, !o.Must⟩ : Op) = rightP o from rfl, neb, cnd_false, neb, cnd_false, neb, cnd_false, bnd_some]
  cases hr : rightP o with
  | false => rfl
  | true =>
    have h := right_iff.1 hr
    rw [Bool.not_true, cnd_false]
    have := feed_l (fu := 10000) (o := o) (s := s) (by omega) s.length 0 10000 (by omega) (by omega) (by omega)
    rw [show decide ((10 : UInt8) ∈ s.take 0) = false from rfl] at this
    refine this.trans ?_
    unfold Instarlaw16_OpKinds_j1
    have w1 : rightP (⟨17, 0, 0, 0, s, [], false⟩ : Op) = decide (s.length ≤ 200 ∧ (10 : UInt8) ∉ s) := by
      have : fitT 115 s = decide (s.length ≤ 200 ∧ (10 : UInt8) ∉ s) := if_pos rfl
      rw [← this]
      show (true && (true && (true && (true && (fitT 115 s && true))))) = _
      simp
    have w2 : rightP (⟨9, -2, 0, 0, s, s, false⟩ : Op) = decide (s.length ≤ 200 ∧ (10 : UInt8) ∉ s) := by
      have : fitT 115 s = decide (s.length ≤ 200 ∧ (10 : UInt8) ∉ s) := if_pos rfl
      rw [← this]
      show (true && (true && (true && (true && (fitT 115 s && fitT 115 s))))) = _
      simp
    have w3 : rightP (⟨o.Kind, 1001, o.B, o.C, o.S, o.T, o.Must⟩ : Op) = false := by
      cases e : rightP (⟨o.Kind, 1001, o.B, o.C, o.S, o.T, o.Must⟩ : Op) with
      | false => rfl
      | true =>
        have := fit_range (right_iff.1 e).a
        simp only at this
        omega
    have w4 : rightP (⟨o.Kind, o.A, o.B, -1001, o.S, o.T, o.Must⟩ : Op) = false := by
      cases e : rightP (⟨o.Kind, o.A, o.B, -1001, o.S, o.T, o.Must⟩ : Op) with
      | false => rfl
      | true =>
        have := fit_range (right_iff.1 e).c
        simp only at this
        omega
    rw [right_m, bnd_some, w1, neb, cnd_false, right_m, bnd_some, w2, neb, cnd_false, right_m, bnd_some, w3, Bool.not_false, cnd_true, right_m, bnd_some, w4, Bool.not_false, cnd_true]
    have hk := h.kind
    unfold Knd at hk
    rw [show decide (o.Kind > 0) = true from by simpa using hk.1, cnd_true, show decide (o.Kind ≤ 28) = true from by simpa using hk.2]
end Go.Proofs.YtkngnghbnhgfjaaGreatDoor
