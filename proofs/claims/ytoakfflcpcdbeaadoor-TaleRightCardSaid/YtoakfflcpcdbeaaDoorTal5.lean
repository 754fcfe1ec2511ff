/- The laws of tale that need no reference: the models of TaleBack, TaleReads and TaleOne answer true. -/
import Derived.Test.YtoakfflcpcdbeaaDoorTal4
namespace Go.Proofs.YtoakfflcpcdbeaaDoor
open Go Go.Pw
set_option linter.unusedVariables false

structure NumM (m : Mark) : Prop where
  depth : inI m.Depth
  node : inI m.Node
  what : inI m.What
  err : inI m.Err
  from_ : inI m.From
  to_ : inI m.To
theorem wm_of {m : Mark} {B : Nat} (h : NumM m) (h1 : m.Name.length ≤ B) (h2 : m.Old.length ≤ B) (h3 : m.New.length ≤ B) : WM m B := ⟨h.depth, h.node, h.what, h.err, h.from_, h.to_, h1, h2, h3⟩

/-! ## The fixed answers -/
def ak1 : Mark := ⟨1, 0, 1, 6, 0, [], false, false, [], [], 0, 0, false⟩
def ak2 : Mark := ⟨6, 1, 1, 4, 0, [97], false, true, [], [49], 0, 0, false⟩
def ak3 : Mark := ⟨10, 0, -1, 1, 0, [], false, false, [], [], 0, 0, false⟩
theorem itoa_some : Lib.itoa 4 = [52] ∧ Lib.itoa 6 = [54] ∧ Lib.itoa (-1) = [45, 49] := by
  refine ⟨?_, ?_, ?_⟩
  · unfold Lib.itoa; rw [if_neg (by omega), Lib.decDigits]; rfl
  · unfold Lib.itoa; rw [if_neg (by omega), Lib.decDigits]; rfl
  · unfold Lib.itoa; rw [if_pos (by omega), show (-1 : Int).natAbs = 1 from rfl, Lib.decDigits]; rfl
theorem one_ak1 : oneS ak1 = [100, 105, 100, 32, 48, 32, 49, 32, 54, 32, 48] := by
  have e : oneS ak1 = wordS 1 ++ tl [Lib.itoa 0, Lib.itoa 1, Lib.itoa 6, Lib.itoa 0] := rfl
  rw [e, itoa01.1, itoa01.2, itoa_some.2.1]; rfl
theorem one_ak2 : oneS ak2 = [99, 97, 108, 108, 101, 100, 32, 49, 32, 49, 32, 52, 32, 48, 32, 34, 97, 34, 32, 48, 32, 49, 32, 34, 34, 32, 34, 49, 34, 32, 48, 32, 48, 32, 48] := by
  have e : oneS ak2 = wordS 6 ++ tl ([Lib.itoa 1, Lib.itoa 1, Lib.itoa 4, Lib.itoa 0] ++ [txt [97], bit false, bit true, txt [], txt [49], Lib.itoa 0, Lib.itoa 0, bit false]) := rfl
  rw [e, itoa01.1, itoa01.2, itoa_some.1]; rfl
theorem one_ak3 : oneS ak3 = [111, 118, 101, 114, 32, 48, 32, 45, 49, 32, 49, 32, 48] := by
  have e : oneS ak3 = wordS 10 ++ tl [Lib.itoa 0, Lib.itoa (-1), Lib.itoa 1, Lib.itoa 0] := rfl
  rw [e, itoa01.1, itoa01.2, itoa_some.2.2]; rfl
theorem ak_num : NumM ak1 ∧ NumM ak2 ∧ NumM ak3 := by
  refine ⟨⟨?_, ?_, ?_, ?_, ?_, ?_⟩, ⟨?_, ?_, ?_, ?_, ?_, ?_⟩, ⟨?_, ?_, ?_, ?_, ?_, ?_⟩⟩ <;> · unfold inI; decide
theorem tl_cnt : ∀ (l : List Bs), l.length ≤ (tl l).count 32
  | [] => Nat.zero_le _
  | f :: l => by
    have := tl_cnt l
    rw [tl_cons, List.count_cons_self, List.count_append, List.length_cons]; omega
theorem oneS_cnt (m : Mark) : 4 ≤ (oneS m).count 32 := by
  have h := tl_cnt (fieldsM m)
  have hf : 4 ≤ (fieldsM m).length := by unfold fieldsM; split <;> simp [numsF]
  unfold oneS
  rw [List.count_append]; omega
theorem putS_cnt {l : List Mark} (h : l ≠ []) : 4 ≤ (putS l).count 32 := by
  cases l with
  | nil => exact absurd rfl h
  | cons m l =>
    have := oneS_cnt m
    rw [putS_cons, lineS, List.count_append, List.count_append]; omega
theorem awake_m {fu : Nat} (hf : 300 < fu) : Instarlaw24_awake_m fu = some true := by
  have h1 : putS [ak1, ak2] = [100, 105, 100, 32, 48, 32, 49, 32, 54, 32, 48, 10, 99, 97, 108, 108, 101, 100, 32, 49, 32, 49, 32, 52, 32, 48, 32, 34, 97, 34, 32, 48, 32, 49, 32, 34, 34, 32, 34, 49, 34, 32, 48, 32, 48, 32, 48, 10] := by
    rw [putS_cons, putS_cons, lineS, lineS, one_ak1, one_ak2]; rfl
  have hw : ∀ m ∈ [ak1, ak2], okM 10 m := by
    intro m hm
    simp only [List.mem_cons, List.not_mem_nil, or_false] at hm
    rcases hm with rfl | rfl
    · exact ⟨wm_of ak_num.1 (by decide) (by decide) (by decide), by unfold validM; decide⟩
    · exact ⟨wm_of ak_num.2.1 (by decide) (by decide) (by decide), by unfold validM; decide⟩
  have hlen : (putS [ak1, ak2]).length ≤ 800000000 := by rw [h1]; simp
  have r1 := read_back (fu := fu) hw (by omega) (by omega) (by decide) hlen
  have r2 := put_m (fu := fu) (l := [ak1, ak2]) (B := 10) (fun m hm => (hw m hm).1) (by omega) (by omega) (by simp; omega) (by decide) hlen
  have hall : [ak1, ak2].all (fun m => decide (validM m)) = true := List.all_eq_true.2 fun m hm => decide_eq_true (hw m hm).2
  rw [hall, if_pos rfl] at r2
  have r3 := one_m (fu := fu) (m := ak3) (B := 10) (wm_of ak_num.2.2 (by decide) (by decide) (by decide)) (by omega) (by omega)
  rw [if_pos (by decide)] at r3
  have r4 : Tale_Read_m fu [100, 105, 100, 32, 48, 32, 49, 32, 54, 10] = some ([], 2) := by
    rcases read_any (fu := fu) (s := [100, 105, 100, 32, 48, 32, 49, 32, 54, 10]) (by simp) (by simp; omega) with ⟨ms, _, _, e⟩ | e
    · by_cases hms : ms = []
      · subst hms; cases e
      · have := putS_cnt hms
        rw [← e] at this
        exact absurd this (by decide)
    · exact e
  rw [h1] at r1
  rw [h1] at r2
  unfold Instarlaw24_awake_m
  rw [r1, bnd_some]
  simp only
  rw [r2, bnd_some, show (⟨10, 0, (-1), 1, 0, [], false, false, [], [], 0, 0, false⟩ : Mark) = ak3 from rfl, r3, bnd_some, r4, bnd_some, one_ak3]
  rfl

/-! ## TaleReads -/
theorem lines_app : ∀ (l : List Mark) (r : Bs), linesOf (putS l ++ r) = l.map lineS ++ linesOf r
  | [], r => rfl
  | m :: l, r => by
    rw [putS_cons, lineS, List.append_assoc, List.append_assoc, List.singleton_append, linesOf_line (oneS_no10 m), lines_app l r]
    rfl
theorem put_lf {l m : List Mark} : putS l ++ [10] ≠ putS m := by
  intro h
  have h1 := lines_app l [10]
  rw [h, lines_put, show linesOf [10] = [[10]] from rfl] at h1
  have : [10] ∈ m.map lineS := by rw [h1]; simp
  obtain ⟨x, _, hx⟩ := List.mem_map.1 this
  have : oneS x = [] := by
    unfold lineS at hx
    have := congrArg List.length hx
    simp at this
    exact this
  exact oneS_ne x this
theorem putS_last {l : List Mark} (h : l ≠ []) : ∃ i x, putS l = putS i ++ oneS x ++ [10] := by
  refine ⟨l.dropLast, l.getLast h, ?_⟩
  conv => lhs; rw [← List.dropLast_concat_getLast h, putS_app, putS_cons, putS_nil, List.append_nil, lineS, ← List.append_assoc]
theorem put_cut {l m : List Mark} (h : l ≠ []) : (putS l).take ((putS l).length - 1) ≠ putS m := by
  obtain ⟨i, x, e⟩ := putS_last h
  rw [e]
  have : ((putS i ++ oneS x ++ [10]).take ((putS i ++ oneS x ++ [10]).length - 1)) = putS i ++ oneS x := by
    rw [List.take_append_of_le_length (by simp), List.take_of_length_le (by simp)]
  rw [this]
  intro hh
  have hx := oneS_ne x
  by_cases hm : m = []
  · subst hm
    rw [putS_nil] at hh
    exact hx (List.append_eq_nil_iff.1 hh).2
  · obtain ⟨j, y, e2⟩ := putS_last hm
    rw [e2] at hh
    have h1 := congrArg List.getLast? hh
    rw [List.getLast?_append, List.getLast?_append, List.getLast?_eq_some_getLast hx] at h1
    simp at h1
    exact oneS_no10 x (h1 ▸ List.getLast_mem hx)
theorem putS_ge (l : List Mark) : l.length ≤ (putS l).length := by
  have := linesOf_len (putS l)
  rwa [lines_put, List.length_map] at this
theorem read_not {fu : Nat} {s : Bs} (hs : s.length ≤ 1000000) (hf : s.length + 20 < fu) (h : ∀ m, s ≠ putS m) : Tale_Read_m fu s = some ([], 2) := by
  rcases read_any hs hf with ⟨ms, _, _, e⟩ | e
  · exact absurd e (h ms)
  · exact e
theorem taleReads (s : Bs) : ∃ fu, Instarlaw24_TaleReads_m fu s = some true := by
  refine ⟨s.length + 400, ?_⟩
  unfold Instarlaw24_TaleReads_m
  rw [awake_m (by omega), bnd_some]
  rw [show (!true) = false from rfl, cnd_false]
  by_cases hl : s.length > 8000
  · rw [show decide (((s.length : Nat) : Int) > 8000) = true from by rw [decide_eq_true_eq]; omega, cnd_true]
  rw [show decide (((s.length : Nat) : Int) > 8000) = false from by rw [decide_eq_false_iff_not]; omega, cnd_false]
  rcases read_any (fu := s.length + 400) (s := s) (by omega) (by omega) with ⟨ms, e, hm, es⟩ | e
  · have hg := putS_ge ms
    rw [← es] at hg
    have hp := put_m (fu := s.length + 400) (l := ms) (B := s.length) (fun m h => (hm m h).1) (by omega) (by omega) (by omega) (by omega) (by rw [← es]; omega)
    have hall : ms.all (fun m => decide (validM m)) = true := List.all_eq_true.2 fun m h => decide_eq_true (hm m h).2
    rw [hall, if_pos rfl, ← es] at hp
    have h1 : Tale_Read_m (s.length + 400) (s ++ [10]) = some ([], 2) := read_not (by simp; omega) (by simp) (fun m => by rw [es]; exact put_lf)
    rw [e, bnd_some]
    simp only
    rw [show ((0 : Int) != 0) = false from rfl, cnd_false, hp, bnd_some]
    simp only
    rw [show ((0 : Int) != 0) = false from rfl, cnd_false, beq_self_eq_true, show (!true) = false from rfl, cnd_false, cat_ok (by simp; omega), bnd_some, h1, bnd_some]
    by_cases h0 : s = []
    · subst h0
      have : ms = [] := by cases ms with
        | nil => rfl
        | cons m l => simp at hg
      subst this
      rfl
    · have hp : 0 < s.length := List.length_pos_iff.2 h0
      have hne : ms ≠ [] := fun h => h0 (by rw [es, h]; rfl)
      rw [show (((s.length : Nat) : Int) == 0) = false from by rw [beq_eq_false_iff_ne]; omega, cnd_false, show ((s.length : Nat) : Int) - 1 = ((s.length - 1 : Nat) : Int) from by omega, rng64 (by omega) (by omega), bnd_some, show (0 : Int) = ((0 : Nat) : Int) from rfl, piece_nat (by omega) (by omega), bnd_some,
        read_not (s := (s.drop 0).take (s.length - 1 - 0)) (by simp; omega) (by simp; omega) (fun m => by simpa [es] using put_cut hne), bnd_some]
      rfl
  · rw [e, bnd_some]; rfl

/-! ## TaleOne -/
theorem oneS_inj {x y : Mark} {B : Nat} (hx : okM B x) (hy : okM B y) (hB : B ≤ 100000) (h : oneS x = oneS y) : x = y := by
  have h1 := line_back (fu := B + 21) hx.1 hB (by omega) hx.2
  have h2 := line_back (fu := B + 21) hy.1 hB (by omega) hy.2
  rw [h, h2] at h1
  cases h1; rfl
theorem short_no {fu : Nat} {l : List Mark} (hf : 200 < fu) (h : shortB l = false) : Instarlaw24_short_m fu l = some false := by rw [short_m hf, h]
theorem taleOne (a b : Mark) (ha : NumM a) (hb : NumM b) : ∃ fu, Instarlaw24_TaleOne_m fu a b = some true := by
  refine ⟨8000, ?_⟩
  unfold Instarlaw24_TaleOne_m
  rw [awake_m (by omega), bnd_some]
  rw [show (!true) = false from rfl, cnd_false, short_m (by omega), bnd_some]
  cases hsh : shortB [a, b] with
  | false => rfl
  | true =>
    rw [show (!true) = false from rfl, cnd_false]
    obtain ⟨_, hw⟩ := short_wm hsh
    obtain ⟨a1, a2, a3⟩ := hw a (by simp)
    obtain ⟨b1, b2, b3⟩ := hw b (by simp)
    have wa := wm_of ha a1 a2 a3
    have wb := wm_of hb b1 b2 b3
    rw [one_m wa (by omega) (by omega), bnd_some, one_m wb (by omega) (by omega), bnd_some]
    have kv : ∀ m : Mark, (1 ≤ m.Kind ∧ m.Kind ≤ 10) = validM m := fun m => rfl
    by_cases va : 1 ≤ a.Kind ∧ a.Kind ≤ 10
    · rw [if_pos va]
      simp only
      rw [show ((0 : Int) != 0) = false from rfl, cnd_false]
      by_cases vb : 1 ≤ b.Kind ∧ b.Kind ≤ 10
      · rw [if_pos vb]
        simp only
        rw [show ((0 : Int) != 0) = false from rfl, cnd_false]
        have hla := oneS_len wa
        have hlb := oneS_len wb
        have n10 := oneS_no10 a
        have hwm : ∀ m ∈ [a, b], WM m 300 := by
          intro m hm
          simp only [List.mem_cons, List.not_mem_nil, or_false] at hm
          rcases hm with rfl | rfl
          · exact wa
          · exact wb
        have hp := put_m (fu := 8000) (l := [a, b]) (B := 300) hwm (by omega) (by omega) (by simp) (by simp) (by have := putS_len hwm; simp at this; omega)
        have hall : [a, b].all (fun m => decide (validM m)) = true := List.all_eq_true.2 fun m hm => by
          simp only [List.mem_cons, List.not_mem_nil, or_false] at hm
          rcases hm with rfl | rfl
          · exact decide_eq_true va
          · exact decide_eq_true vb
        rw [hall, if_pos rfl] at hp
        have hq : (oneS a == oneS b) = eqMark a b := by
          rw [Bool.eq_iff_iff, beq_iff_eq, eqMark_iff]
          exact ⟨oneS_inj ⟨wa, va⟩ ⟨wb, vb⟩ (by omega), fun h => by rw [h]⟩
        have key := up_alli (L := Instarlaw24_TaleOne_l1 8000 a b (oneS a, 0) (oneS b, 0)) (oneS a).length (fun _ => true) (some true) (fun i hi k => ?_) (fun k => ?_) (k := 8000) (by omega)
        · rw [key, List.all_eq_true.2 fun _ _ => rfl]
          rfl
        · have hne : ((oneS a)[i].toNat : Int) ≠ 10 := fun h => n10 (by
            have : (oneS a)[i] = 10 := by rw [← UInt8.toNat_inj]; exact_mod_cast h
            rw [← this]; exact List.getElem_mem hi)
          rw [Instarlaw24_TaleOne_l1]
          simp only
          rw [show decide ((i : Int) < (((oneS a).length : Nat) : Int)) = true from by rw [decide_eq_true_eq]; omega, cnd_true, chr_lt hi, bnd_some, beq_false_of_ne hne, cnd_false, rng_nat (by omega), bnd_some]
          rfl
        · rw [Instarlaw24_TaleOne_l1]
          simp only
          rw [show decide ((((oneS a).length : Nat) : Int) < (((oneS a).length : Nat) : Int)) = false from by simp, cnd_false, hp, bnd_some, hq]
          simp only [beq_self_eq_true, cnd_true]
          rw [cat_ok (by simp; omega), bnd_some, cat_ok (by simp; omega), bnd_some, cat_ok (by simp; omega), bnd_some]
          simp [putS, lineS]
      · rw [if_neg vb]
        simp only
        rw [show ((1 : Int) != 0) = true from rfl, cnd_true]
        unfold Instarlaw24_TaleOne_j1
        rw [show decide (a.Kind ≥ 1) = true from decide_eq_true va.1, show decide (a.Kind ≤ 10) = true from decide_eq_true va.2]
        by_cases hb1 : b.Kind ≥ 1
        · rw [show decide (b.Kind ≥ 1) = true from decide_eq_true hb1, show decide (b.Kind ≤ 10) = false from decide_eq_false fun h => vb ⟨hb1, h⟩]; rfl
        · rw [show decide (b.Kind ≥ 1) = false from decide_eq_false hb1]; rfl
    · rw [if_neg va]
      simp only
      rw [show ((1 : Int) != 0) = true from rfl, cnd_true]
      unfold Instarlaw24_TaleOne_j1
      have hbq : cnd (decide (b.Kind ≥ 1)) (some (((if 1 ≤ b.Kind ∧ b.Kind ≤ 10 then (oneS b, 0) else ([], 1) : Bs × Int).2 == 0) == decide (b.Kind ≤ 10))) (some (((if 1 ≤ b.Kind ∧ b.Kind ≤ 10 then (oneS b, 0) else ([], 1) : Bs × Int).2 == 0) == false)) = some true := by
        by_cases hb1 : b.Kind ≥ 1
        · rw [show decide (b.Kind ≥ 1) = true from decide_eq_true hb1, cnd_true]
          by_cases hb2 : b.Kind ≤ 10
          · rw [if_pos ⟨hb1, hb2⟩, show decide (b.Kind ≤ 10) = true from decide_eq_true hb2]; rfl
          · rw [if_neg (fun h => hb2 h.2), show decide (b.Kind ≤ 10) = false from decide_eq_false hb2]; rfl
        · rw [show decide (b.Kind ≥ 1) = false from decide_eq_false hb1, cnd_false, if_neg (fun h => hb1 h.1)]; rfl
      rw [hbq]
      by_cases ha1 : a.Kind ≥ 1
      · rw [show decide (a.Kind ≥ 1) = true from decide_eq_true ha1, show decide (a.Kind ≤ 10) = false from decide_eq_false fun h => va ⟨ha1, h⟩]; rfl
      · rw [show decide (a.Kind ≥ 1) = false from decide_eq_false ha1]; rfl

/-! ## TaleBack -/
theorem taleBack (l m : List Mark) (hl : ∀ x ∈ l, NumM x) (hm : ∀ x ∈ m, NumM x) : ∃ fu, Instarlaw24_TaleBack_m fu l m = some true := by
  refine ⟨2000, ?_⟩
  unfold Instarlaw24_TaleBack_m
  rw [awake_m (by omega), bnd_some]
  rw [show (!true) = false from rfl, cnd_false, short_m (by omega), bnd_some]
  cases hs1 : shortB l with
  | false => rfl
  | true =>
    rw [show (!true) = false from rfl, cnd_false, short_m (by omega), bnd_some]
    cases hs2 : shortB m with
    | false => rfl
    | true =>
      rw [show (!true) = false from rfl, cnd_false]
      obtain ⟨n1, w1⟩ := short_wm hs1
      obtain ⟨n2, w2⟩ := short_wm hs2
      have g1 : ∀ x ∈ l, WM x 300 := fun x hx => wm_of (hl x hx) (w1 x hx).1 (w1 x hx).2.1 (w1 x hx).2.2
      have g2 : ∀ x ∈ m, WM x 300 := fun x hx => wm_of (hm x hx) (w2 x hx).1 (w2 x hx).2.1 (w2 x hx).2.2
      have hb : ∀ (z : List Mark), z.length ≤ 200 → z.length * (6 * 300 + 201) ≤ 400200 := fun z hz => by
        have := Nat.mul_le_mul_right 2001 hz
        omega
      have p1 := Nat.le_trans (putS_len g1) (hb l n1)
      have p2 := Nat.le_trans (putS_len g2) (hb m n2)
      rw [put_m g1 (by omega) (by omega) (by omega) (by omega) (by omega), bnd_some, put_m g2 (by omega) (by omega) (by omega) (by omega) (by omega), bnd_some]
      cases v1 : l.all (fun m => decide (validM m)) with
      | false =>
        rw [if_neg (by simp), show ((1 : Int) != 0) = true from rfl, cnd_true]
        cases v2 : m.all (fun m => decide (validM m)) <;> rfl
      | true =>
        rw [if_pos rfl]
        simp only
        rw [show ((0 : Int) != 0) = false from rfl, cnd_false]
        cases v2 : m.all (fun m => decide (validM m)) with
        | false => rfl
        | true =>
          rw [if_pos rfl]
          simp only
          rw [show ((0 : Int) != 0) = false from rfl, cnd_false]
          have k1 : ∀ x ∈ l, okM 300 x := fun x hx => ⟨g1 x hx, of_decide_eq_true (List.all_eq_true.1 v1 x hx)⟩
          have k2 : ∀ x ∈ m, okM 300 x := fun x hx => ⟨g2 x hx, of_decide_eq_true (List.all_eq_true.1 v2 x hx)⟩
          have k3 : ∀ x ∈ l ++ m, okM 300 x := fun x hx => (List.mem_append.1 hx).elim (k1 x) (k2 x)
          rw [read_back k1 (by omega) (by omega) (by omega) (by omega), bnd_some, cat_ok (by omega), bnd_some, ← putS_app, read_back k3 (by omega) (by omega) (by simp; omega) (by rw [putS_app, List.length_append]; omega), bnd_some]
          simp only
          rw [show ((0 : Int) == 0) = true from rfl, cnd_true, cnd_true, marks_m (by omega) (by omega), bnd_some, cnd_true, roomy_ok (by simp; omega), bnd_some, roomy_ok (by simp; omega), bnd_some, List.nil_append, marks_m (by simp; omega) (by simp; omega), bnd_some]
end Go.Proofs.YtoakfflcpcdbeaaDoor
