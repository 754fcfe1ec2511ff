/- What the reader of marks comes to, at any text; a mark's text is read as the mark; what is read has its text. -/
import Derived.Test.YtoakfflcpcdbeaaDoorTal2
namespace Go.Proofs.YtoakfflcpcdbeaaDoor
open Go Go.Pw
set_option linter.unusedVariables false

/-! ## At any text -/
theorem word_any {fu : Nat} {c : Tale_reader} (h : c.s.length ≤ 1000000000) : ∃ w c', Tale_reader_word_m fu c = some (w, c') ∧ w.length ≤ c.s.length ∧ c'.s.length ≤ c.s.length := by
  obtain ⟨s, bad⟩ := c
  unfold Tale_reader_word_m
  by_cases hs : (32 : UInt8) ∈ s
  · obtain ⟨w, r, rfl, hw⟩ := split_at hs
    refine ⟨w, ⟨r, bad⟩, ?_, by simp, by simp; omega⟩
    rw [show Strings_Cut_m fu (w ++ 32 :: r) [32] = _ from cut_yes hw h]; rfl
  · refine ⟨s, ⟨[], bad⟩, ?_, Nat.le_refl _, by simp⟩
    rw [show Strings_Cut_m fu s [32] = _ from cut_no hs]; rfl
theorem num_any {fu : Nat} {c : Tale_reader} (h : c.s.length ≤ 1000000000) : ∃ n c', Tale_reader_number_m fu c = some (n, c') ∧ inI n ∧ c'.s.length ≤ c.s.length := by
  obtain ⟨w, c', e, h1, h2⟩ := word_any (fu := fu) h
  unfold Tale_reader_number_m
  rw [e, bnd_some]
  have ha : ∃ n b, atoi_m fu w = some (n, b) ∧ inI n := by
    unfold atoi_m
    rw [if_pos (by omega)]
    rcases hq : Lib.atoiAll w with v | _ | _
    · exact ⟨v, false, rfl, atoi_range hq⟩
    · exact ⟨0, true, rfl, by unfold inI; omega⟩
    · exact ⟨Lib.atoiSat w, true, rfl, by unfold Lib.atoiSat inI; split <;> omega⟩
  obtain ⟨n, b, e2, hn⟩ := ha
  rw [e2, bnd_some]
  cases hb : c'.bad
  · exact ⟨n, ⟨c'.s, b⟩, rfl, hn, h2⟩
  · exact ⟨n, ⟨c'.s, true⟩, rfl, hn, h2⟩
theorem chr_some {s : Bs} {i : Nat} (h : i < s.length) : ∃ b : UInt8, chr s (i : Int) = some (b.toNat : Int) := ⟨s[i], chr_lt h⟩
theorem text_any {fu : Nat} {c : Tale_reader} (hf : c.s.length < fu) (h : c.s.length ≤ 100000000) : ∃ t c', Tale_reader_text_m fu c = some (t, c') ∧ t.length ≤ c.s.length ∧ c'.s.length ≤ c.s.length := by
  obtain ⟨s, bad⟩ := c
  simp only at hf h
  unfold Tale_reader_text_m
  have hp : ∃ q, Strings_HasPrefix_m fu s [34] = some q := by
    cases s with
    | nil => exact ⟨_, hasp_nil⟩
    | cons b r => exact ⟨_, hasp_cons⟩
  obtain ⟨q, hq⟩ := hp
  show ∃ t c', (bnd (Strings_HasPrefix_m fu s [34]) fun r2 => cnd (!r2) (some ([], (⟨s, true⟩ : Tale_reader))) (Tale_reader_text_l1 fu ⟨s, bad⟩ fu (1, []))) = some (t, c') ∧ t.length ≤ s.length ∧ c'.s.length ≤ s.length
  rw [hq, bnd_some]
  cases hq2 : q
  · exact ⟨[], ⟨s, true⟩, rfl, by simp, Nat.le_refl _⟩
  show ∃ t c', Tale_reader_text_l1 fu ⟨s, bad⟩ fu (1, []) = some (t, c') ∧ t.length ≤ s.length ∧ c'.s.length ≤ s.length
  have trim : ∀ r : Bs, ∃ r', Strings_TrimPrefix_m fu r [32] = some r' ∧ r'.length ≤ r.length := fun r => by
    cases r with
    | nil => exact ⟨_, trimp_nil, Nat.le_refl _⟩
    | cons b r => exact ⟨_, trimp_cons, by split <;> simp⟩
  have key : ∀ (k i : Nat) (pre : Bs), pre.length ≤ i → pre.length ≤ s.length → s.length < i + k → i ≤ s.length → ∃ t c', Tale_reader_text_l1 fu ⟨s, bad⟩ k ((i : Int), bytesOf pre) = some (t, c') ∧ t.length ≤ s.length ∧ c'.s.length ≤ s.length := by
    intro k
    induction k with
    | zero =>
      intro i pre h1 h2 h3 h4
      exfalso
      omega
    | succ k ih =>
      intro i pre h1 h2 h3 h4
      rw [Tale_reader_text_l1]
      by_cases hi : i < s.length
      · obtain ⟨b, hb⟩ := chr_some hi
        rw [show decide ((i : Int) < ((s.length : Nat) : Int)) = true from by rw [decide_eq_true_eq]; omega, cnd_true, show chr s (i : Int) = _ from hb, bnd_some]
        have wb : ∀ (c : UInt8) (n : Int), n = (c.toNat : Int) → Strings_Builder_WriteByte_m fu n (bytesOf pre) = some (false, bytesOf (pre ++ [c])) := fun c n hn => wbyte' c hn (by omega)
        have hpl : pre.length < s.length := by omega
        cases h34 : ((b.toNat : Int) == 34)
        · rw [cnd_false]
          cases h92 : ((b.toNat : Int) != 92)
          · rw [cnd_false, rng_nat (by omega), bnd_some]
            have j1 : ∃ t c', Tale_reader_text_j1 fu ⟨s, bad⟩ (i : Int) (bytesOf pre) (Tale_reader_text_l1 fu ⟨s, bad⟩ k) () = some (t, c') ∧ t.length ≤ s.length ∧ c'.s.length ≤ s.length := by
              rw [Tale_reader_text_j1, rng_nat (by omega), bnd_some]
              by_cases hi2 : i + 1 < s.length
              · obtain ⟨b2, hb2⟩ := chr_some hi2
                rw [show decide (((i + 1 : Nat) : Int) < ((s.length : Nat) : Int)) = true from by rw [decide_eq_true_eq]; omega, cnd_true, bnd_some, show chr s ((i + 1 : Nat) : Int) = _ from hb2, bnd_some, wb b2 _ rfl, bnd_some, rng_nat (by omega), bnd_some]
                exact ih (i + 1 + 1) (pre ++ [b2]) (by simp; omega) (by simp; omega) (by omega) (by omega)
              · rw [show decide (((i + 1 : Nat) : Int) < ((s.length : Nat) : Int)) = false from by rw [decide_eq_false_iff_not]; omega, cnd_false, bnd_some]
                exact ih (i + 1) pre (by omega) h2 (by omega) (by omega)
            by_cases hi2 : i + 1 < s.length
            · obtain ⟨b2, hb2⟩ := chr_some hi2
              rw [show decide (((i + 1 : Nat) : Int) < ((s.length : Nat) : Int)) = true from by rw [decide_eq_true_eq]; omega, cnd_true, bnd_some, show chr s ((i + 1 : Nat) : Int) = _ from hb2, bnd_some]
              cases h110 : ((b2.toNat : Int) == 110)
              · rw [cnd_false]; exact j1
              · rw [cnd_true, bnd_some, wb 10 10 rfl, bnd_some, rng_nat (by omega), bnd_some]
                exact ih (i + 1 + 1) (pre ++ [10]) (by simp; omega) (by simp; omega) (by omega) (by omega)
            · rw [show decide (((i + 1 : Nat) : Int) < ((s.length : Nat) : Int)) = false from by rw [decide_eq_false_iff_not]; omega, cnd_false]
              exact j1
          · rw [cnd_true, wb b _ rfl, bnd_some, rng_nat (by omega), bnd_some]
            exact ih (i + 1) (pre ++ [b]) (by simp; omega) (by simp; omega) (by omega) (by omega)
        · obtain ⟨r', e', hr'⟩ := trim ((s.drop (i + 1)).take (s.length - (i + 1)))
          rw [cnd_true, rng_nat (by omega), bnd_some, show piece s ((i + 1 : Nat) : Int) ((s.length : Nat) : Int) = _ from piece_nat (by omega) (Nat.le_refl _), bnd_some, e', bnd_some, Strings_Builder_String_m, bnd_some, str_bytes]
          refine ⟨pre, ⟨r', bad⟩, rfl, h2, ?_⟩
          have : ((s.drop (i + 1)).take (s.length - (i + 1))).length ≤ s.length := by simp
          simp only; omega
      · rw [show decide ((i : Int) < ((s.length : Nat) : Int)) = false from by rw [decide_eq_false_iff_not]; omega, cnd_false]
        exact ⟨[], ⟨s, true⟩, rfl, by simp, Nat.le_refl _⟩
  have hp : 1 ≤ s.length := by
    cases s with
    | nil => rw [hasp_nil] at hq; rw [hq2] at hq; cases hq
    | cons b r => simp
  exact key fu 1 [] (by simp) (by simp) (by omega) hp

/-! ## A line -/
def validM (m : Mark) : Prop := 1 ≤ m.Kind ∧ m.Kind ≤ 10
instance (m : Mark) : Decidable (validM m) := inferInstanceAs (Decidable (_ ∧ _))
theorem eqMark_iff (x y : Mark) : eqMark x y = true ↔ x = y := by
  cases x; cases y
  simp [eqMark]
theorem line_end {fu : Nat} {s : Bs} {r4 : Int} {r5 r6 r7 r8 : Int × Tale_reader} {x : Bs × Bool × Bs × Bool × Bool × Bs × Bs × Int × Int × Bool} {B : Nat} (hB : B ≤ 1000000) (hf : B + 8 < fu)
    (hm : WM ⟨r4, r5.1, r6.1, r7.1, r8.1, x.2.2.1, x.2.2.2.1, x.2.2.2.2.1, x.2.2.2.2.2.1, x.2.2.2.2.2.2.1, x.2.2.2.2.2.2.2.1, x.2.2.2.2.2.2.2.2.1, x.2.2.2.2.2.2.2.2.2⟩ B) :
    Tale_line_j1 fu s r4 r5 r6 r7 r8 x = some (⟨r4, r5.1, r6.1, r7.1, r8.1, x.2.2.1, x.2.2.2.1, x.2.2.2.2.1, x.2.2.2.2.2.1, x.2.2.2.2.2.2.1, x.2.2.2.2.2.2.2.1, x.2.2.2.2.2.2.2.2.1, x.2.2.2.2.2.2.2.2.2⟩,
      !x.2.1 && decide (validM ⟨r4, r5.1, r6.1, r7.1, r8.1, x.2.2.1, x.2.2.2.1, x.2.2.2.2.1, x.2.2.2.2.2.1, x.2.2.2.2.2.2.1, x.2.2.2.2.2.2.2.1, x.2.2.2.2.2.2.2.2.1, x.2.2.2.2.2.2.2.2.2⟩) &&
        (oneS ⟨r4, r5.1, r6.1, r7.1, r8.1, x.2.2.1, x.2.2.2.1, x.2.2.2.2.1, x.2.2.2.2.2.1, x.2.2.2.2.2.2.1, x.2.2.2.2.2.2.2.1, x.2.2.2.2.2.2.2.2.1, x.2.2.2.2.2.2.2.2.2⟩ == s)) := by
  obtain ⟨x1, x2, x3, x4, x5, x6, x7, x8, x9, x10⟩ := x
  unfold Tale_line_j1
  simp only at hm ⊢
  rw [one_m hm hB hf, bnd_some]
  simp only [validM]
  cases x2
  · by_cases hv : 1 ≤ r4 ∧ r4 ≤ 10
    · simp [hv]
    · simp [hv]
  · simp
theorem line_any {fu : Nat} {s : Bs} (hs : s.length ≤ 1000000) (hf : s.length + 20 < fu) : ∃ m ok, Tale_line_m fu s = some (m, ok) ∧ WM m s.length ∧ (ok = true → validM m ∧ oneS m = s) := by
  unfold Tale_line_m
  rw [words_m, bnd_some]
  obtain ⟨w, c0, e0, _, l0⟩ := word_any (fu := fu) (c := ⟨s, false⟩) (by simp only; omega)
  rw [e0, bnd_some]
  obtain ⟨k, e1, hk⟩ := index_any (fu := fu) (by omega) w
  simp only at l0
  rw [e1, bnd_some]
  obtain ⟨n1, c1, e2, i1, l1⟩ := num_any (fu := fu) (c := c0) (by omega)
  obtain ⟨n2, c2, e3, i2, l2⟩ := num_any (fu := fu) (c := c1) (by omega)
  obtain ⟨n3, c3, e4, i3, l3⟩ := num_any (fu := fu) (c := c2) (by omega)
  obtain ⟨n4, c4, e5, i4, l4⟩ := num_any (fu := fu) (c := c3) (by omega)
  simp only [e2, e3, e4, e5, bnd_some]
  have z : inI 0 := by unfold inI; omega
  have fin : ∀ x : Bs × Bool × Bs × Bool × Bool × Bs × Bs × Int × Int × Bool, x.2.2.1.length ≤ s.length → x.2.2.2.2.2.1.length ≤ s.length → x.2.2.2.2.2.2.1.length ≤ s.length → inI x.2.2.2.2.2.2.2.1 → inI x.2.2.2.2.2.2.2.2.1 →
      ∃ m ok, Tale_line_j1 fu s k (n1, c1) (n2, c2) (n3, c3) (n4, c4) x = some (m, ok) ∧ WM m s.length ∧ (ok = true → validM m ∧ oneS m = s) := fun x h1 h2 h3 h4 h5 => by
    have hm : WM ⟨k, n1, n2, n3, n4, x.2.2.1, x.2.2.2.1, x.2.2.2.2.1, x.2.2.2.2.2.1, x.2.2.2.2.2.2.1, x.2.2.2.2.2.2.2.1, x.2.2.2.2.2.2.2.2.1, x.2.2.2.2.2.2.2.2.2⟩ s.length := ⟨i1, i2, i3, i4, h4, h5, h1, h2, h3⟩
    refine ⟨_, _, line_end hs (by omega) hm, hm, fun h => ?_⟩
    simp only [Bool.and_eq_true, decide_eq_true_eq, beq_iff_eq] at h
    exact ⟨h.1.2, h.2⟩
  by_cases he : c4.s = []
  · rw [show (!(c4.s == ([] : Bs))) = false from by rw [he]; rfl, cnd_false]
    exact fin _ (by simp) (by simp) (by simp) z z
  · rw [show (!(c4.s == ([] : Bs))) = true from by rw [beq_false_of_ne he]; rfl, cnd_true]
    obtain ⟨t1, c5, e6, b1, l5⟩ := text_any (fu := fu) (c := c4) (by omega) (by omega)
    obtain ⟨n5, c6, e7, _, l6⟩ := num_any (fu := fu) (c := c5) (by omega)
    obtain ⟨n6, c7, e8, _, l7⟩ := num_any (fu := fu) (c := c6) (by omega)
    obtain ⟨t2, c8, e9, b2, l8⟩ := text_any (fu := fu) (c := c7) (by omega) (by omega)
    obtain ⟨t3, c9, e10, b3, l9⟩ := text_any (fu := fu) (c := c8) (by omega) (by omega)
    obtain ⟨n7, c10, e11, i7, l10⟩ := num_any (fu := fu) (c := c9) (by omega)
    obtain ⟨n8, c11, e12, i8, l11⟩ := num_any (fu := fu) (c := c10) (by omega)
    obtain ⟨n9, c12, e13, _, l12⟩ := num_any (fu := fu) (c := c11) (by omega)
    simp only [e6, e7, e8, e9, e10, e11, e12, e13, bnd_some]
    exact fin _ (by simp only; omega) (by simp only; omega) (by simp only; omega) i7 i8
theorem wordS_no {k : Int} {c : UInt8} (h : c = 32 ∨ c = 10) : c ∉ wordS k := by
  unfold wordS
  by_cases hk : k.toNat < 11
  · have : ∀ j : Fin 11, (32 : UInt8) ∉ wordsL.getD j.1 [] ∧ (10 : UInt8) ∉ wordsL.getD j.1 [] := by decide
    have hj := this ⟨_, hk⟩
    rcases h with rfl | rfl
    · exact hj.1
    · exact hj.2
  · rw [List.getD_eq_getElem?_getD, List.getElem?_eq_none (show 11 ≤ k.toNat by omega)]; simp
theorem tl_len (l : List Bs) : (tl l).length = (l.map fun f => f.length + 1).sum := by
  induction l with
  | nil => rfl
  | cons f l ih => rw [tl_cons]; simp [ih]; omega
theorem oneS_len {m : Mark} {B : Nat} (hm : WM m B) : (oneS m).length ≤ 6 * B + 200 := by
  have hw := wordS_len m.Kind
  have h1 := txt_len m.Name
  have h2 := txt_len m.Old
  have h3 := txt_len m.New
  have g1 := hm.name
  have g2 := hm.old
  have g3 := hm.new
  have j1 := itoa_len hm.depth.1 hm.depth.2
  have j2 := itoa_len hm.node.1 hm.node.2
  have j3 := itoa_len hm.what.1 hm.what.2
  have j4 := itoa_len hm.err.1 hm.err.2
  have i1 := itoa_len hm.from_.1 hm.from_.2
  have i2 := itoa_len hm.to_.1 hm.to_.2
  unfold oneS fieldsM
  rw [List.length_append, tl_len]
  split
  · simp [numsF]; omega
  · simp [numsF, callF, bit_len]; omega
theorem line_back {fu : Nat} {m : Mark} {B : Nat} (hm : WM m B) (hB : B ≤ 100000) (hf : B + 20 < fu) (hv : validM m) : Tale_line_m fu (oneS m) = some (m, true) := by
  have hlen := oneS_len hm
  have e0 : oneS m = nxt (wordS m.Kind :: fieldsM m) := rfl
  have step : ∀ {f : Bs} {l : List Bs}, (nxt (f :: l)).length ≤ 900000 → (nxt l).length ≤ 900000 := fun {f l} h => by
    have h1 := nxt_len l
    simp only [nxt, List.length_append] at h
    omega
  unfold Tale_line_m
  rw [words_m, bnd_some]
  have L0 : (nxt (wordS m.Kind :: fieldsM m)).length ≤ 900000 := by rw [← e0]; omega
  conv => lhs; arg 1; arg 2; rw [e0]
  rw [rword (wordS_no (.inl rfl)) (by omega), bnd_some]
  simp only
  rw [index_word (by omega) hv.1 hv.2, bnd_some]
  have L1 := step L0
  cases hb : eqMark m (bareM m) with
  | true =>
    have ef : fieldsM m = numsF m := by simp [fieldsM, hb]
    rw [ef] at L1 ⊢
    have L2 := step L1
    have L3 := step L2
    have L4 := step L3
    simp only [numsF] at L1 L2 L3 L4 ⊢
    rw [rnum hm.depth (by omega), bnd_some]
    simp only
    rw [rnum hm.node (by omega), bnd_some]
    simp only
    rw [rnum hm.what (by omega), bnd_some]
    simp only
    rw [rnum hm.err (by omega), bnd_some]
    simp only [nxt]
    rw [show (!(([] : Bs) == ([] : Bs))) = false from rfl, cnd_false]
    have em : (⟨m.Kind, m.Depth, m.Node, m.What, m.Err, [], false, false, [], [], 0, 0, false⟩ : Mark) = m := ((eqMark_iff _ _).1 hb).symm
    rw [line_end (B := B) (by omega) (by omega) (by simp only; rw [em]; exact hm)]
    simp only [em]
    simp [hv]
  | false =>
    have ef : fieldsM m = [Lib.itoa m.Depth, Lib.itoa m.Node, Lib.itoa m.What, Lib.itoa m.Err, txt m.Name, bit m.Had, bit m.Has, txt m.Old, txt m.New, Lib.itoa m.From, Lib.itoa m.To, bit m.On] := by simp [fieldsM, hb, numsF, callF]
    rw [ef] at L1 ⊢
    have L2 := step L1
    have L3 := step L2
    have L4 := step L3
    have L5 := step L4
    have M1 := step L5
    have M2 := step M1
    have M3 := step M2
    have M4 := step M3
    have M5 := step M4
    have M6 := step M5
    have M7 := step M6
    obtain ⟨b1, f1, g1⟩ := rbit (fu := fu) (b := m.Had) (l := [bit m.Has, txt m.Old, txt m.New, Lib.itoa m.From, Lib.itoa m.To, bit m.On]) (bad := false) (by omega)
    obtain ⟨b2, f2, g2⟩ := rbit (fu := fu) (b := m.Has) (l := [txt m.Old, txt m.New, Lib.itoa m.From, Lib.itoa m.To, bit m.On]) (bad := false) (by omega)
    obtain ⟨b3, f3, g3⟩ := rbit (fu := fu) (b := m.On) (l := []) (bad := false) (by omega)
    have k1 := hm.name
    have k2 := hm.old
    have k3 := hm.new
    rw [rnum hm.depth (by omega), bnd_some]
    simp only
    rw [rnum hm.node (by omega), bnd_some]
    simp only
    rw [rnum hm.what (by omega), bnd_some]
    simp only
    rw [rnum hm.err (by omega), bnd_some]
    have hne : nxt [txt m.Name, bit m.Had, bit m.Has, txt m.Old, txt m.New, Lib.itoa m.From, Lib.itoa m.To, bit m.On] ≠ [] := by simp [nxt, txt]
    simp only
    rw [show (!(nxt [txt m.Name, bit m.Had, bit m.Has, txt m.Old, txt m.New, Lib.itoa m.From, Lib.itoa m.To, bit m.On] == ([] : Bs))) = true from by rw [beq_false_of_ne hne]; rfl, cnd_true]
    rw [rtext (by omega) (by omega), bnd_some]
    simp only
    rw [f1, bnd_some]
    simp only
    rw [f2, bnd_some]
    simp only
    rw [rtext (by omega) (by omega), bnd_some]
    simp only
    rw [rtext (by omega) (by omega), bnd_some]
    simp only
    rw [rnum hm.from_ (by omega), bnd_some]
    simp only
    rw [rnum hm.to_ (by omega), bnd_some]
    simp only
    rw [f3, bnd_some]
    simp only [g1, g2, g3, nxt]
    rw [line_end (B := B) (by omega) (by omega) (by simp only; exact hm)]
    simp [hv]
end Go.Proofs.YtoakfflcpcdbeaaDoor
