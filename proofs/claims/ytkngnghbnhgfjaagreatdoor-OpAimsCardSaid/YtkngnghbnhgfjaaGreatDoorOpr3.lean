/- What op.Read comes to: at any text, and at an operation's own. -/
import Derived.Test.YtkngnghbnhgfjaaGreatDoorOpr2
namespace Go.Proofs.YtkngnghbnhgfjaaGreatDoor
open Go Go.Pw
set_option linter.unusedVariables false

/-! ## A number -/
theorem ratoi {fu : Nat} {w : Bs} (hw : w.length ≤ 1000000000) : ∃ n e, atoi_m fu w = some (n, e) ∧ (e = false → inI n) := by
  unfold atoi_m
  rw [if_pos (by omega)]
  generalize h : Lib.atoiAll w = q
  rcases q with v | _ | _
  · exact ⟨_, _, rfl, fun _ => atoi_range h⟩
  · exact ⟨_, _, rfl, fun e => by cases e⟩
  · exact ⟨_, _, rfl, fun e => by cases e⟩
theorem rnum_j1 {fu : Nat} {f : Int} {w : Bs} (hw : w.length ≤ 1000000000) : ∃ n b, Op_readNumber_j1 fu f w () = some (n, b) := by
  unfold Op_readNumber_j1
  obtain ⟨n, e, h, hr⟩ := ratoi (fu := fu) hw
  rw [h, bnd_some]
  cases e with
  | true => exact ⟨_, _, rfl⟩
  | false =>
    show ∃ n' b, cnd (!false) _ _ = some (n', b)
    rw [Bool.not_false, cnd_true, itoa_m' (hr rfl), bnd_some]
    cases Lib.itoa (n, false).1 == w with
    | false => exact ⟨_, _, rfl⟩
    | true => rw [cnd_true]; cases f == 105 <;> exact ⟨_, _, rfl⟩
theorem rnum_any {fu : Nat} {f : Int} {w : Bs} (hw : w.length ≤ 1000000000) : ∃ n b, Op_readNumber_m fu f w = some (n, b) := by
  unfold Op_readNumber_m
  cases f != 105 with
  | false => exact rnum_j1 hw
  | true =>
    rw [cnd_true, cnd_eq, cnd_eq, cnd_eq]
    split
    · exact ⟨_, _, rfl⟩
    · split
      · exact ⟨_, _, rfl⟩
      · split
        · exact ⟨_, _, rfl⟩
        · exact rnum_j1 hw
theorem atoi_own {fu : Nat} {n : Int} (h : inI n) : atoi_m fu (Lib.itoa n) = some (n, false) := by
  have := itoa_len h.1 h.2
  unfold atoi_m
  rw [if_pos (by omega), atoi_itoa h.1 h.2]
theorem rnum_own_j1 {fu : Nat} {f : UInt8} {n : Int} (h : inI n) (hn : f = 105 ∨ 0 ≤ n) : Op_readNumber_j1 fu (f.toNat : Int) (Lib.itoa n) () = some (n, true) := by
  unfold Op_readNumber_j1
  rw [atoi_own h, bnd_some]
  show cnd (!false) _ _ = _
  rw [Bool.not_false, cnd_true, itoa_m' h, bnd_some]
  rw [show (Lib.itoa (n, false).1 == Lib.itoa n) = true from by simp, cnd_true]
  rcases hn with rfl | hn
  · rfl
  · cases (f.toNat : Int) == 105 with
    | true => rfl
    | false => rw [cnd_false]; congr 2; simpa using hn
theorem itoa_neq {n : Int} {w : Bs} {c : UInt8} (hc : c ∈ w) (h : c.toNat < 45 ∨ c.toNat = 46 ∨ c.toNat = 47 ∨ 57 < c.toNat) : Lib.itoa n ≠ w := fun e => itoa_no (n := n) h (by rw [e]; exact hc)
theorem itoa_nat {n : Int} (hn : 0 ≤ n) : Lib.itoa n ≠ [45] := fun e => by
  unfold Lib.itoa at e
  rw [if_neg (by omega)] at e
  have := digits_mem n.toNat 45 (by rw [e]; simp)
  simp at this
theorem rnum_own {fu : Nat} {f : UInt8} {n : Int} (hf : f = 110 ∨ f = 111 ∨ f = 105) (h : fit f n = true) : Op_readNumber_m fu (f.toNat : Int) (numW f n) = some (n, true) := by
  obtain ⟨h1, h2⟩ := fit_range h
  have hi : inI n := ⟨by omega, by omega⟩
  have hs : ∀ w : Bs, selfS = w ∨ lastS = w → ∃ c ∈ w, 57 < c.toNat := fun w hw => by
    rcases hw with rfl | rfl
    · exact ⟨115, by decide, by decide⟩
    · exact ⟨108, by decide, by decide⟩
  unfold Op_readNumber_m
  by_cases hf5 : f = 105
  · subst hf5
    show cnd false _ _ = _
    rw [cnd_false, numW, if_pos (.inl rfl)]
    exact rnum_own_j1 hi (.inl rfl)
  · have hf5' : ((f.toNat : Int) != 105) = true := by rcases hf with rfl | rfl | rfl <;> first | rfl | exact absurd rfl hf5
    rw [hf5', cnd_true, cnd_eq, cnd_eq, cnd_eq]
    by_cases hn : 0 ≤ n
    · have e : numW f n = Lib.itoa n := if_pos (.inr hn)
      rw [e, if_neg (itoa_nat hn), if_neg (itoa_neq (c := 115) (by decide) (by decide)), if_neg (itoa_neq (c := 108) (by decide) (by decide))]
      exact rnum_own_j1 hi (.inr hn)
    · have e : numW f n = if n = -1 then [45] else if n = -2 then selfS else lastS := if_neg (fun h => by rcases h with h | h; exact hf5 h; exact hn h)
      have hfit : n = -2 ∨ n = -3 ∨ f = 111 ∧ n = -1 := by
        unfold fit at h
        rw [if_neg hf5, if_pos (by rcases hf with h | h | h; exact .inl h; exact .inr h; exact absurd h hf5)] at h
        rcases of_decide_eq_true h with h | h | h | h
        · exact .inl h
        · exact .inr (.inl h)
        · exact absurd h.1 hn
        · exact .inr (.inr h)
      rcases hfit with rfl | rfl | ⟨rfl, rfl⟩
      · rw [show numW f (-2) = selfS from e.trans (by decide), if_neg (by decide), if_pos (by decide)]
      · rw [show numW f (-3) = lastS from e.trans (by decide), if_neg (by decide), if_neg (by decide), if_pos (by decide)]
      · rw [show numW 111 (-1) = [45] from e.trans (by decide), if_pos rfl]; rfl

/-! ## A text in quotes -/
def unqR (out : Bs) : Option (Bs × Bs) → Option (Bs × Bs × Bool)
  | some x => some (out ++ x.1, x.2, true)
  | none => some ([], [], false)
theorem rtext_l {fu : Nat} {s : Bs} (hs : s.length ≤ 1000000) : ∀ (n i k : Nat) (out : Bs), s.length - i ≤ n → i ≤ s.length → out.length ≤ i → n < k → Op_readText_l1 fu s k ((i : Int), bytesOf out) = unqR out (unq (s.drop i)) := by
  intro n
  induction n with
  | zero =>
    intro i k out h1 h2 h3 h4
    obtain ⟨k, rfl⟩ : ∃ k', k = k' + 1 := ⟨k - 1, by omega⟩
    rw [Op_readText_l1, show decide ((i : Int) < ((s.length : Nat) : Int)) = false from by simp; omega, cnd_false, List.drop_of_length_le (by omega)]
    rfl
  | succ n ih =>
    intro i k out h1 h2 h3 h4
    obtain ⟨k, rfl⟩ : ∃ k', k = k' + 1 := ⟨k - 1, by omega⟩
    by_cases hi : i < s.length
    · obtain ⟨b, r, hd⟩ := drop_lt hi
      have hb := chr_drop hd
      obtain ⟨_, hd1⟩ := drop_cons hd
      rw [Op_readText_l1, show decide ((i : Int) < ((s.length : Nat) : Int)) = true from by simpa using hi, cnd_true, hb]
      simp only [bnd_some]
      rw [show (((b.toNat : Nat) : Int) == 34) = (b == 34) from byte_is b 34, show (((b.toNat : Nat) : Int) != 92) = (b != 92) from congrArg (!·) (byte_is b 92)]
      rw [cnd_eq]
      by_cases h34 : b = 34
      · rw [if_pos h34, bstr, bnd_some, rng_nat (by omega), bnd_some, piece_nat (by omega) (Nat.le_refl _), bnd_some, hd, h34, unq_end]
        have : (s.drop (i + 1)).take (s.length - (i + 1)) = r := by rw [hd1]; exact List.take_of_length_le (by rw [← hd1]; simp)
        rw [this]
        simp [unqR]
      · rw [if_neg h34, cnd_ne]
        by_cases h92 : b = 92
        · rw [if_pos h92, rng_nat (by omega), bnd_some]
          subst h92
          by_cases hi1 : i + 1 < s.length
          · obtain ⟨c, r', hr⟩ := drop_lt hi1
            have hc := chr_drop hr
            obtain ⟨_, hd2⟩ := drop_cons hr
            obtain rfl : r = c :: r' := hd1.symm.trans hr
            rw [show decide (((i + 1 : Nat) : Int) < ((s.length : Nat) : Int)) = true from by rw [decide_eq_true_eq]; omega, cnd_true, bnd_some, hc, bnd_some]
            rw [show (((c.toNat : Nat) : Int) == 34) = (c == 34) from byte_is c 34, cnd_eq]
            have hrec : ∀ (hcc : c = 34 ∨ c = 92), unqR out (unq (s.drop i)) = unqR (out ++ [c]) (unq (s.drop (i + 1 + 1))) := fun hcc => by
              rw [hd, unq_esc hcc, hd2]
              cases unq r' <;> simp [unqR]
            by_cases hc34 : c = 34
            · rw [if_pos hc34, bnd_some, hc, bnd_some, wbyte (by omega), bnd_some, rng_nat (by omega), bnd_some, hrec (.inl hc34)]
              exact ih (i + 1 + 1) k (out ++ [c]) (by omega) (by omega) (by simp; omega) (by omega)
            · rw [if_neg hc34, bnd_some, hc, bnd_some]
              rw [show (((c.toNat : Nat) : Int) == 92) = (c == 92) from byte_is c 92, cnd_eq]
              by_cases hc92 : c = 92
              · rw [if_pos hc92, bnd_some, hc, bnd_some, wbyte (by omega), bnd_some, rng_nat (by omega), bnd_some, hrec (.inr hc92)]
                exact ih (i + 1 + 1) k (out ++ [c]) (by omega) (by omega) (by simp; omega) (by omega)
              · rw [if_neg hc92, hd, unq_esc_no (by simp [hc34, hc92])]; rfl
          · rw [show decide (((i + 1 : Nat) : Int) < ((s.length : Nat) : Int)) = false from by rw [decide_eq_false_iff_not]; omega, cnd_false]
            have : r = [] := by rw [← hd1]; exact List.drop_of_length_le (by omega)
            rw [hd, this, unq_esc_nil]; rfl
        · rw [if_neg h92, wbyte (by omega), bnd_some, rng_nat (by omega), bnd_some]
          have e : unqR out (unq (s.drop i)) = unqR (out ++ [b]) (unq (s.drop (i + 1))) := by
            rw [hd, unq_one h34 h92, hd1]
            cases unq r <;> simp [unqR]
          rw [e]
          exact ih (i + 1) k (out ++ [b]) (by omega) (by omega) (by simp; omega) (by omega)
    · rw [Op_readText_l1, show decide ((i : Int) < ((s.length : Nat) : Int)) = false from by simp; omega, cnd_false, List.drop_of_length_le (by omega)]
      rfl
theorem rtext_m {fu : Nat} {s : Bs} (hs : s.length ≤ 1000000) (hf : s.length < fu) : Op_readText_m fu s = match s with
    | [] => some ([], [], false)
    | b :: r => if b = 34 then unqR [] (unq r) else some ([], [], false) := by
  unfold Op_readText_m
  cases s with
  | nil => rw [hasp_nil, bnd_some]; rfl
  | cons b r =>
    rw [hasp_cons, bnd_some]
    by_cases h : b = 34
    · simp only [h, decide_true, Bool.not_true, cnd_false, if_true]
      have := rtext_l (fu := fu) (s := 34 :: r) (by rw [← h]; exact hs) r.length 1 fu [] (by simp) (by simp) (by simp) (by simp at hf; omega)
      exact this
    · simp only [h, decide_false, Bool.not_false, cnd_true, if_false]
theorem unq_len : ∀ (t s r : Bs), unq t = some (s, r) → s.length ≤ t.length ∧ r.length ≤ t.length := fun t s r h => by
  have := quo_unq t.length t s r (Nat.le_refl _) h
  have h2 := quo_ge s
  rw [this]; simp; omega
theorem rtext_any {fu : Nat} {s : Bs} (hs : s.length ≤ 1000000) (hf : s.length < fu) : ∃ t r b, Op_readText_m fu s = some (t, r, b) ∧ r.length ≤ s.length := by
  rw [rtext_m hs hf]
  cases s with
  | nil => exact ⟨_, _, _, rfl, by simp⟩
  | cons b r =>
    by_cases h : b = 34
    · simp only [h, if_true]
      cases hu : unq r with
      | none => exact ⟨_, _, _, rfl, by simp⟩
      | some x => exact ⟨_, _, _, rfl, by have := (unq_len _ _ _ hu).2; simp; omega⟩
    · simp only [h, if_false]; exact ⟨_, _, _, rfl, by simp⟩
theorem rtext_own {fu : Nat} {s r : Bs} (hs : (qS s ++ r).length ≤ 1000000) (hf : (qS s ++ r).length < fu) : Op_readText_m fu (qS s ++ r) = some (s, r, true) := by
  rw [rtext_m hs hf]
  show (if (34 : UInt8) = 34 then unqR [] (unq (quoL s ++ [34] ++ r)) else _) = _
  rw [if_pos rfl, List.append_assoc]
  show unqR [] (unq (quoL s ++ 34 :: r)) = _
  rw [unq_quo]; rfl

/-! ## Fields, one behind the other -/
def nst (fu : Nat) (f : UInt8) (x : Bs × Bool) : Option (Bs × Bool × Int) :=
  if x.2 = true ∧ f ≠ 46 then bnd (Strings_Cut_m fu x.1 [32]) fun r => bnd (Op_readNumber_m fu (f.toNat : Int) r.1) fun r' => some (r.2.1, r'.2, r'.1) else some (x.1, x.2, 0)
def tst1 (fu : Nat) (f : UInt8) (x : Bs × Bool) : Option (Bs × Bool × Bs) :=
  if x.2 = true ∧ f = 115 then bnd (Op_readText_m fu x.1) fun r => bnd (Strings_CutPrefix_m fu r.2.1 [32]) fun p => cnd p.2 (some (p.1, r.2.2, r.1)) (some (r.2.1, r.2.2, r.1)) else some (x.1, x.2, [])
def tst2 (fu : Nat) (f : UInt8) (x : Bs × Bool) : Option (Bs × Bool × Bs) :=
  if x.2 = true ∧ f = 115 then bnd (Op_readText_m fu x.1) fun r => bnd (Strings_CutPrefix_m fu r.2.1 [32]) fun p => some (r.2.1, r.2.2, r.1) else some (x.1, x.2, [])
theorem bnd_bnd {α β γ : Type} (o : Option α) (f : α → Option β) (g : β → Option γ) : bnd (bnd o f) g = bnd o fun a => bnd (f a) g := by cases o <;> rfl
theorem byte_ne (b c : UInt8) : (((b.toNat : Nat) : Int) != ((c.toNat : Nat) : Int)) = (b != c) := congrArg (!·) (byte_is b c)
theorem bnd_congr {α β : Type} {o : Option α} {f g : α → Option β} (h : ∀ a, f a = g a) : bnd o f = bnd o g := by rw [show f = g from funext h]
theorem nst_eq {β : Type} {fu : Nat} {k : Int} {i : Nat} (hi : i < 5) (rest : Bs) (ok : Bool) (J : Bs × Bool × Int → Option β) :
    cnd ok (bnd (chr (fd k) (i : Int)) fun b => cnd (b != 46) (bnd (Strings_Cut_m fu rest [32]) fun r => bnd (chr (fd k) (i : Int)) fun b' => bnd (Op_readNumber_m fu b' r.1) fun r' => J (r.2.1, r'.2, r'.1)) (J (rest, ok, 0))) (J (rest, ok, 0)) = bnd (nst fu (fc k i) (rest, ok)) J := by
  unfold nst
  cases ok with
  | false => rfl
  | true =>
    rw [cnd_true, fc_chr hi]
    simp only [bnd_some]
    rw [show (((fc k i).toNat : Int) != 46) = (fc k i != 46) from byte_ne _ 46, cnd_ne]
    by_cases h : fc k i = 46
    · rw [if_pos h, if_neg (by simp [h])]; rfl
    · rw [if_neg h, if_pos ⟨trivial, h⟩]
      simp only [bnd_bnd, bnd_some]
theorem tst1_eq {β : Type} {fu : Nat} {k : Int} {i : Nat} (hi : i < 5) (rest : Bs) (ok : Bool) (J : Bs × Bool × Bs → Option β) :
    cnd ok (bnd (chr (fd k) (i : Int)) fun b => cnd (b == 115) (bnd (Op_readText_m fu rest) fun r => bnd (Strings_CutPrefix_m fu r.2.1 [32]) fun p => cnd p.2 (J (p.1, r.2.2, r.1)) (J (r.2.1, r.2.2, r.1))) (J (rest, ok, []))) (J (rest, ok, [])) = bnd (tst1 fu (fc k i) (rest, ok)) J := by
  unfold tst1
  cases ok with
  | false => rfl
  | true =>
    rw [cnd_true, fc_chr hi]
    simp only [bnd_some]
    rw [show (((fc k i).toNat : Int) == 115) = (fc k i == 115) from byte_is _ 115, cnd_eq]
    by_cases h : fc k i = 115
    · rw [if_pos h, if_pos ⟨trivial, h⟩]
      simp only [bnd_bnd]
      refine bnd_congr fun a => bnd_congr fun p => ?_
      cases p.2 <;> rfl
    · rw [if_neg h, if_neg (by simp [h])]; rfl
theorem tst2_eq {β : Type} {fu : Nat} {k : Int} {i : Nat} (hi : i < 5) (rest : Bs) (ok : Bool) (J : Bs × Bool × Bs → Option β) :
    cnd ok (bnd (chr (fd k) (i : Int)) fun b => cnd (b == 115) (bnd (Op_readText_m fu rest) fun r => bnd (Strings_CutPrefix_m fu r.2.1 [32]) fun p => cnd p.2 (J (r.2.1, r.2.2, r.1)) (J (r.2.1, r.2.2, r.1))) (J (rest, ok, []))) (J (rest, ok, [])) = bnd (tst2 fu (fc k i) (rest, ok)) J := by
  unfold tst2
  cases ok with
  | false => rfl
  | true =>
    rw [cnd_true, fc_chr hi]
    simp only [bnd_some]
    rw [show (((fc k i).toNat : Int) == 115) = (fc k i == 115) from byte_is _ 115, cnd_eq]
    by_cases h : fc k i = 115
    · rw [if_pos h, if_pos ⟨trivial, h⟩]
      simp only [bnd_bnd, bnd_some]
      refine bnd_congr fun a => bnd_congr fun p => ?_
      cases p.2 <;> rfl
    · rw [if_neg h, if_neg (by simp [h])]; rfl
theorem read_eq (fu : Nat) (s : Bs) : Op_Read_m fu s = bnd (Strings_CutPrefix_m fu s [33]) fun r2 => bnd (Strings_Cut_m fu r2.1 [32]) fun r3 => bnd (Slices_Index_string_m fu wordsL r3.1) fun k =>
    bnd (nst fu (fc k 0) (r3.2.1, decide (Knd k))) fun x1 => bnd (nst fu (fc k 1) (x1.1, x1.2.1)) fun x2 => bnd (nst fu (fc k 2) (x2.1, x2.2.1)) fun x3 =>
    bnd (tst1 fu (fc k 3) (x3.1, x3.2.1)) fun y1 => bnd (tst2 fu (fc k 4) (y1.1, y1.2.1)) fun y2 => Op_Read_j5 fu s r2 k x1.2.2 x2.2.2 x3.2.2 (y2.1, y2.2.1, y1.2.2, y2.2.2) := by
  unfold Op_Read_m
  refine bnd_congr fun r2 => bnd_congr fun r3 => ?_
  rw [words_m, bnd_some]
  refine bnd_congr fun k => ?_
  rw [form_m, bnd_some]
  simp only [Op_numbers_m, bnd_some]
  refine (nst_eq (i := 0) (by omega) r3.2.1 (decide (Knd k)) _).trans (bnd_congr fun x1 => ?_)
  obtain ⟨a1, b1, c1⟩ := x1
  unfold Op_Read_j1
  refine (nst_eq (i := 1) (by omega) a1 b1 _).trans (bnd_congr fun x2 => ?_)
  obtain ⟨a2, b2, c2⟩ := x2
  unfold Op_Read_j2
  refine (nst_eq (i := 2) (by omega) a2 b2 fun x => Op_Read_j3 fu s r2 k (⟨wd k, fd k⟩, decide (Knd k)) (x.1, x.2.1, c1, c2, x.2.2)).trans (bnd_congr fun x3 => ?_)
  obtain ⟨a3, b3, c3⟩ := x3
  unfold Op_Read_j3
  simp only [Op_texts_m, bnd_some]
  refine (tst1_eq (i := 3) (by omega) a3 b3 fun x => Op_Read_j4 fu s r2 k (⟨wd k, fd k⟩, decide (Knd k)) c1 c2 c3 x).trans (bnd_congr fun y1 => ?_)
  obtain ⟨a4, b4, c4⟩ := y1
  unfold Op_Read_j4
  exact tst2_eq (i := 4) (by omega) a4 b4 fun x => Op_Read_j5 fu s r2 k c1 c2 c3 (x.1, x.2.1, c4, x.2.2)

/-! ## At any text -/
theorem nst_any {fu : Nat} {f : UInt8} {x : Bs × Bool} (h : x.1.length ≤ 1000000) : ∃ y, nst fu f x = some y ∧ y.1.length ≤ x.1.length := by
  unfold nst
  split
  · obtain ⟨w, r, b, h1, h2, h3⟩ := cut_any (fu := fu) (s := x.1) 32 (by omega)
    rw [h1, bnd_some]
    obtain ⟨n, b', h4⟩ := rnum_any (fu := fu) (f := (f.toNat : Int)) (w := w) (by omega)
    rw [h4, bnd_some]
    exact ⟨_, rfl, h3⟩
  · exact ⟨_, rfl, Nat.le_refl _⟩
theorem tst1_any {fu : Nat} {f : UInt8} {x : Bs × Bool} (h : x.1.length ≤ 1000000) (hf : x.1.length < fu) : ∃ y, tst1 fu f x = some y ∧ y.1.length ≤ x.1.length := by
  unfold tst1
  split
  · obtain ⟨t, r, b, h1, h2⟩ := rtext_any (fu := fu) h hf
    rw [h1, bnd_some]
    obtain ⟨p, b', h3, h4⟩ := pre_any (fu := fu) (s := r) (c := 32) (by omega)
    rw [h3, bnd_some]
    cases b' with
    | true => exact ⟨_, rfl, by show p.length ≤ _; omega⟩
    | false => exact ⟨_, rfl, h2⟩
  · exact ⟨_, rfl, Nat.le_refl _⟩
theorem tst2_any {fu : Nat} {f : UInt8} {x : Bs × Bool} (h : x.1.length ≤ 1000000) (hf : x.1.length < fu) : ∃ y, tst2 fu f x = some y := by
  unfold tst2
  split
  · obtain ⟨t, r, b, h1, h2⟩ := rtext_any (fu := fu) h hf
    rw [h1, bnd_some]
    obtain ⟨p, b', h3, h4⟩ := pre_any (fu := fu) (s := r) (c := 32) (by omega)
    rw [h3, bnd_some]
    exact ⟨_, rfl⟩
  · exact ⟨_, rfl⟩
def op0 : Op := ⟨0, 0, 0, 0, [], [], false⟩
/-- What is read has its text, or is none. -/
theorem read_any {fu : Nat} {s : Bs} (hs : s.length ≤ 1000000) (hf : s.length + 30 < fu) : Op_Read_m fu s = some (op0, 2) ∨ ∃ o, Op_Read_m fu s = some (o, 0) ∧ RightP o ∧ putP o = s := by
  rw [read_eq]
  obtain ⟨r, must, h1, h2⟩ := pre_any (fu := fu) (s := s) (c := 33) (by omega)
  rw [h1, bnd_some]
  obtain ⟨w, r3, b3, h3, _, h4⟩ := cut_any (fu := fu) (s := r) 32 (by omega)
  rw [h3, bnd_some]
  obtain ⟨k, hk⟩ : ∃ k, Slices_Index_string_m fu wordsL w = some k := by
    rw [index_m (by simp [wordsL]; omega) (by simp [wordsL])]
    split <;> exact ⟨_, rfl⟩
  rw [hk, bnd_some]
  obtain ⟨x1, e1, l1⟩ := nst_any (fu := fu) (f := fc k 0) (x := (r3, decide (Knd k))) (by show r3.length ≤ _; omega)
  simp only at l1
  rw [e1, bnd_some]
  obtain ⟨x2, e2, l2⟩ := nst_any (fu := fu) (f := fc k 1) (x := (x1.1, x1.2.1)) (by show x1.1.length ≤ _; omega)
  simp only at l2
  rw [e2, bnd_some]
  obtain ⟨x3, e3, l3⟩ := nst_any (fu := fu) (f := fc k 2) (x := (x2.1, x2.2.1)) (by show x2.1.length ≤ _; omega)
  simp only at l3
  rw [e3, bnd_some]
  obtain ⟨y1, e4, l4⟩ := tst1_any (fu := fu) (f := fc k 3) (x := (x3.1, x3.2.1)) (by show x3.1.length ≤ _; omega) (by show x3.1.length < _; omega)
  simp only at l4
  rw [e4, bnd_some]
  obtain ⟨y2, e5⟩ := tst2_any (fu := fu) (f := fc k 4) (x := (y1.1, y1.2.1)) (by show y1.1.length ≤ _; omega) (by show y1.1.length < _; omega)
  rw [e5, bnd_some]
  unfold Op_Read_j5
  simp only [put_m, bnd_some]
  generalize (⟨k, x1.2.2, x2.2.2, x3.2.2, y1.2.2, y2.2.2, must⟩ : Op) = o
  cases y2.2.1 with
  | false => exact .inl rfl
  | true =>
    simp only [Bool.not_true, cnd_false]
    cases y2.1 == ([] : Bs) with
    | false => exact .inl rfl
    | true =>
      simp only [Bool.not_true, cnd_false]
      cases hr : rightP o with
      | false => exact .inl rfl
      | true =>
        rw [if_pos rfl]
        show cnd ((0 : Int) != 0) _ _ = _ ∨ ∃ o', cnd ((0 : Int) != 0) _ _ = _ ∧ _
        rw [show ((0 : Int) != 0) = false from rfl, cnd_false]
        by_cases hp : putP o = s
        · refine .inr ⟨o, ?_, right_iff.1 hr, hp⟩
          rw [show (putP o == s) = true from by simpa using hp]; rfl
        · left
          rw [show (putP o == s) = false from by simpa using hp]; rfl
end Go.Proofs.YtkngnghbnhgfjaaGreatDoor
