/- Operations aimed; operations that are still, that carry a list; and a fixed look at the program. -/
import Derived.Test.YtkngnghbnhgfjaaGreatDoorOpr4
namespace Go.Proofs.YtkngnghbnhgfjaaGreatDoor
open Go Go.Pw
set_option linter.unusedVariables false

theorem eqOp_iff (x y : Op) : eqOp x y = true ↔ x = y := by
  cases x; cases y
  simp [eqOp]
theorem eqOp_self (x : Op) : eqOp x x = true := (eqOp_iff x x).2 rfl

/-! ## Aimed -/
def nameN (n self many : Int) : Int := if n = -2 then self else if n = -3 then IntKind.i64.wrap (many - 1) else n
def aimN (f : UInt8) (n self many : Int) : Option Int :=
  if f = 46 ∨ f = 105 ∨ f = 111 ∧ n = -1 then some n else if 0 ≤ nameN n self many ∧ nameN n self many < many then some (nameN n self many) else none
def aimP (o : Op) (self many : Int) : Op × Int :=
  if rightP o = true then (match aimN (fc o.Kind 0) o.A self many with
    | none => (op0, 6)
    | some a => match aimN (fc o.Kind 1) o.B self many with
      | none => (op0, 6)
      | some b => match aimN (fc o.Kind 2) o.C self many with
        | none => (op0, 6)
        | some c => (⟨o.Kind, a, b, c, o.S, o.T, o.Must⟩, 0)) else (op0, 2)
theorem aim_step {β : Type} {f : UInt8} (hf : f = 110 ∨ f = 111 ∨ f = 105 ∨ f = 46) (n self many : Int) (J : Int → Option β) (no : Option β) :
    cnd ((f.toNat : Int) == 46) (J n) (cnd ((f.toNat : Int) == 105) (J n) (cnd ((f.toNat : Int) == 111) (cnd (n == -1) (J n)
      (cnd (n == -2) (cnd (decide (self < 0)) no (cnd (decide (self ≥ many)) no (J self))) (cnd (n == -3) (cnd (decide (IntKind.i64.wrap (many - 1) < 0)) no (cnd (decide (IntKind.i64.wrap (many - 1) ≥ many)) no (J (IntKind.i64.wrap (many - 1))))) (cnd (decide (n < 0)) no (cnd (decide (n ≥ many)) no (J n))))))
      (cnd (n == -2) (cnd (decide (self < 0)) no (cnd (decide (self ≥ many)) no (J self))) (cnd (n == -3) (cnd (decide (IntKind.i64.wrap (many - 1) < 0)) no (cnd (decide (IntKind.i64.wrap (many - 1) ≥ many)) no (J (IntKind.i64.wrap (many - 1))))) (cnd (decide (n < 0)) no (cnd (decide (n ≥ many)) no (J n))))))) =
    match aimN f n self many with | some x => J x | none => no := by
  have key : ∀ x : Int, cnd (decide (x < 0)) no (cnd (decide (x ≥ many)) no (J x)) = match (if 0 ≤ x ∧ x < many then some x else none) with | some x => J x | none => no := fun x => by
    rw [cnd_dec, cnd_dec]
    by_cases h1 : x < 0
    · rw [if_pos h1, if_neg (by omega)]
    · rw [if_neg h1]
      by_cases h2 : x ≥ many
      · rw [if_pos h2, if_neg (by omega)]
      · rw [if_neg h2, if_pos (by omega)]
  have key2 : cnd (n == -2) (cnd (decide (self < 0)) no (cnd (decide (self ≥ many)) no (J self))) (cnd (n == -3) (cnd (decide (IntKind.i64.wrap (many - 1) < 0)) no (cnd (decide (IntKind.i64.wrap (many - 1) ≥ many)) no (J (IntKind.i64.wrap (many - 1))))) (cnd (decide (n < 0)) no (cnd (decide (n ≥ many)) no (J n)))) =
      match (if 0 ≤ nameN n self many ∧ nameN n self many < many then some (nameN n self many) else none) with | some x => J x | none => no := by
    rw [key, key, key, cnd_eq, cnd_eq]
    unfold nameN
    by_cases h1 : n = -2
    · rw [if_pos h1, if_pos h1]
    · rw [if_neg h1, if_neg h1]
      by_cases h2 : n = -3
      · rw [if_pos h2, if_pos h2]
      · rw [if_neg h2, if_neg h2]
  rw [key2]
  unfold aimN
  rcases hf with rfl | rfl | rfl | rfl
  · rw [if_neg (show ¬ ((110 : UInt8) = 46 ∨ (110 : UInt8) = 105 ∨ (110 : UInt8) = 111 ∧ n = -1) from by simp)]; rfl
  · show cnd (n == -1) _ _ = _
    rw [cnd_eq]
    by_cases h : n = -1
    · rw [if_pos h, if_pos (show (111 : UInt8) = 46 ∨ (111 : UInt8) = 105 ∨ (111 : UInt8) = 111 ∧ n = -1 from .inr (.inr ⟨rfl, h⟩))]
    · rw [if_neg h, if_neg (show ¬ ((111 : UInt8) = 46 ∨ (111 : UInt8) = 105 ∨ (111 : UInt8) = 111 ∧ n = -1) from by simp [h])]
  · rw [if_pos (show (105 : UInt8) = 46 ∨ (105 : UInt8) = 105 ∨ (105 : UInt8) = 111 ∧ n = -1 from .inr (.inl rfl))]; rfl
  · rw [if_pos (show (46 : UInt8) = 46 ∨ (46 : UInt8) = 105 ∨ (46 : UInt8) = 111 ∧ n = -1 from .inl rfl)]; rfl
theorem aim_m (fu : Nat) (o : Op) (self many : Int) : Op_Aim_m fu o self many = some (aimP o self many) := by
  unfold Op_Aim_m aimP
  rw [right_m, bnd_some]
  cases h : rightP o with
  | false => rfl
  | true =>
    rw [if_pos rfl]
    simp only [Bool.not_true, cnd_false]
    rw [form_m, bnd_some]
    simp only [Op_numbers_m, bnd_some]
    have j6 : ∀ b (a0 b0 : Int), Op_Aim_j6 o self many (⟨wd o.Kind, fd o.Kind⟩, b) a0 b0 = match aimN (fc o.Kind 2) o.C self many with
        | some c => some (⟨o.Kind, a0, b0, c, o.S, o.T, o.Must⟩, 0)
        | none => some (op0, 6) := fun b a0 b0 => by
      unfold Op_Aim_j6
      rw [show (2 : Int) = ((2 : Nat) : Int) from rfl, fc_chr (by omega), bnd_some]
      exact aim_step (fc_num o.Kind (i := 2) (by omega)) o.C self many (fun c => some ((⟨o.Kind, a0, b0, c, o.S, o.T, o.Must⟩ : Op), (0 : Int))) (some (op0, 6))
    have j3 : ∀ b (a0 : Int), Op_Aim_j3 o self many (⟨wd o.Kind, fd o.Kind⟩, b) a0 = match aimN (fc o.Kind 1) o.B self many with
        | some b0 => Op_Aim_j6 o self many (⟨wd o.Kind, fd o.Kind⟩, b) a0 b0
        | none => some (op0, 6) := fun b a0 => by
      unfold Op_Aim_j3
      rw [show (1 : Int) = ((1 : Nat) : Int) from rfl, fc_chr (by omega), bnd_some]
      exact aim_step (fc_num o.Kind (i := 1) (by omega)) o.B self many (fun b0 => Op_Aim_j6 o self many (⟨wd o.Kind, fd o.Kind⟩, b) a0 b0) (some (op0, 6))
    rw [show (0 : Int) = ((0 : Nat) : Int) from rfl, fc_chr (by omega), bnd_some]
    refine (aim_step (fc_num o.Kind (i := 0) (by omega)) o.A self many (fun a0 => Op_Aim_j3 o self many (⟨wd o.Kind, fd o.Kind⟩, decide (Knd o.Kind)) a0) (some (op0, 6))).trans ?_
    cases aimN (fc o.Kind 0) o.A self many with
    | none => rfl
    | some a =>
      simp only
      rw [j3]
      cases aimN (fc o.Kind 1) o.B self many with
      | none => rfl
      | some b =>
        simp only
        rw [j6]
        cases aimN (fc o.Kind 2) o.C self many <;> rfl
/-! ## Still; carries -/
def stillP (k : Int) : Bool := !(decide (5 ≤ k ∧ k ≤ 11) || decide (13 ≤ k ∧ k ≤ 15) || decide (26 ≤ k ∧ k ≤ 28))
def carriesP (k : Int) : Bool := decide (1 ≤ k ∧ k ≤ 16) || decide (k = 18) || decide (k = 23)
theorem still_m (fu : Nat) (o : Op) : Op_Still_m fu o = some (stillP o.Kind) := by
  unfold Op_Still_m Op_Still_j1
  simp only [cnd_if, beq_iff_eq]
  unfold stillP
  by_cases h : 5 ≤ o.Kind ∧ o.Kind ≤ 11 ∨ 13 ≤ o.Kind ∧ o.Kind ≤ 15 ∨ 26 ≤ o.Kind ∧ o.Kind ≤ 28
  · have : o.Kind = 5 ∨ o.Kind = 6 ∨ o.Kind = 7 ∨ o.Kind = 8 ∨ o.Kind = 9 ∨ o.Kind = 10 ∨ o.Kind = 11 ∨ o.Kind = 13 ∨ o.Kind = 14 ∨ o.Kind = 15 ∨ o.Kind = 26 ∨ o.Kind = 27 ∨ o.Kind = 28 := by omega
    rcases this with h | h | h | h | h | h | h | h | h | h | h | h | h <;> (rw [h]; rfl)
  · have : o.Kind ≠ 5 ∧ o.Kind ≠ 6 ∧ o.Kind ≠ 7 ∧ o.Kind ≠ 8 ∧ o.Kind ≠ 9 ∧ o.Kind ≠ 10 ∧ o.Kind ≠ 11 ∧ o.Kind ≠ 13 ∧ o.Kind ≠ 14 ∧ o.Kind ≠ 15 ∧ o.Kind ≠ 26 ∧ o.Kind ≠ 27 ∧ o.Kind ≠ 28 := by omega
    obtain ⟨h1, h2, h3, h4, h5, h6, h7, h8, h9, h10, h11, h12, h13⟩ := this
    simp only [h1, h2, h3, h4, h5, h6, h7, h8, h9, h10, h11, h12, h13, if_false]
    congr 1
    symm
    simp
    omega
theorem carries_m (fu : Nat) (o : Op) : Op_Carries_m fu o = some (carriesP o.Kind) := by
  unfold Op_Carries_m carriesP
  simp only [cnd_dec, cnd_eq]
  repeat' split
  all_goals (refine congrArg some ?_; rw [Bool.eq_iff_iff]; simp only [Bool.or_eq_true, decide_eq_true_eq, beq_iff_eq, true_iff]; omega)
/-! ## A fixed look -/
def ak : Op := ⟨6, -2, 0, -1, [], [], true⟩
theorem itoa0 : Lib.itoa 0 = [48] := by unfold Lib.itoa; rw [if_neg (by omega), Lib.decDigits]; rfl
theorem ak_right : RightP ak := ⟨by decide, by decide, by decide, by decide, by decide, by decide⟩
theorem numW0 : numW 110 0 = [48] := by
  unfold numW
  rw [if_pos (.inr (Int.le_refl 0)), itoa0]
theorem ak_put : putP ak = [33, 112, 117, 116, 32, 115, 101, 108, 102, 32, 48, 32, 45] := by
  have e : partsP ak = [selfS, numW 110 0, [45]] := rfl
  unfold putP
  rw [e, numW0]; rfl
theorem read_short {fu : Nat} (hf : 2000 < fu) : Op_Read_m fu [112, 117, 116, 32, 115, 101, 108, 102, 32, 48] = some (op0, 2) := by
  have hL : [112, 117, 116, 32, 115, 101, 108, 102, 32, 48] = wd 6 ++ tl (numL 110 (-2) ++ (numL 110 0 ++ [])) := by
    have : numL 110 0 = [[48]] := by show [numW 110 0] = _; rw [numW0]
    rw [this]; rfl
  have hb : ∃ r, ([112, 117, 116, 32, 115, 101, 108, 102, 32, 48] : Bs) = 112 :: r := ⟨_, rfl⟩
  have h1 : Strings_CutPrefix_m fu [112, 117, 116, 32, 115, 101, 108, 102, 32, 48] [33] = some ([112, 117, 116, 32, 115, 101, 108, 102, 32, 48], false) := by
    rw [pre_cons (by simp), if_neg (by decide)]
  rw [read_eq, h1, bnd_some]
  simp only
  obtain ⟨b, h2⟩ := cut_nxt (fu := fu) (f := wd 6) (l := numL 110 (-2) ++ (numL 110 0 ++ [])) (by decide) (by rw [← hL]; simp)
  have hl3 : (tl (numL 110 (-2) ++ (numL 110 0 ++ []))).length ≤ 10 := by
    have := congrArg List.length hL
    simp at this ⊢; omega
  rw [hL, h2, bnd_some]
  simp only
  rw [index_wd (by omega) (by decide), bnd_some, show decide (Knd 6) = true from rfl]
  have n1 := nxt_le (numL 110 (-2) ++ (numL 110 0 ++ []))
  have n2 := nxt_le (numL 110 0 ++ [])
  have n3 := tl_le_r (numL 110 (-2)) (numL 110 0 ++ [])
  rw [show fc 6 0 = 110 from rfl, nst_own (.inl rfl) (by decide) (by omega), bnd_some]
  simp only
  rw [show fc 6 1 = 110 from rfl, nst_own (.inl rfl) (by decide) (by omega), bnd_some]
  simp only
  have h3 : nst fu (fc 6 2) (nxt [], true) = some ([], false, 0) := by
    unfold nst
    rw [if_pos ⟨rfl, by decide⟩, show Strings_Cut_m fu (nxt [], true).1 [32] = some ([], [], false) from cut_no (s := []) (by simp), bnd_some]
    rfl
  rw [h3, bnd_some]
  show bnd (tst1 fu (fc 6 3) ([], false)) _ = _
  rw [show tst1 fu (fc 6 3) ([], false) = some ([], false, []) from rfl, bnd_some]
  show bnd (tst2 fu (fc 6 4) ([], false)) _ = _
  rw [show tst2 fu (fc 6 4) ([], false) = some ([], false, []) from rfl, bnd_some]
  unfold Op_Read_j5
  simp only
  rw [put_m, bnd_some]
  rfl
theorem awake_m {fu : Nat} (hf : 2000 < fu) : Instarlaw16_awake_m fu = some true := by
  unfold Instarlaw16_awake_m
  have h1 := read_own (fu := fu) ak_right hf
  rw [ak_put] at h1
  rw [h1, bnd_some, put_right ak_right, ak_put, bnd_some, aim_m, bnd_some, read_short hf, bnd_some, right_m, right_iff.2 ak_right, bnd_some, carries_m, bnd_some, still_m, bnd_some]
  have ha : aimP ak 3 4 = (⟨6, 3, 0, -1, [], [], true⟩, 0) := by
    unfold aimP
    rw [if_pos (right_iff.2 ak_right)]
    rfl
  rw [ha]
  rfl
end Go.Proofs.YtkngnghbnhgfjaaGreatDoor
