/- The reference's writer of a mark: the model of instarref24.One comes to the mark's text. -/
import Derived.Test.YtoakfflcpcdbeaaDoorTal5
namespace Go.Proofs.YtoakfflcpcdbeaaDoor
open Go Go.Pw
set_option linter.unusedVariables false

theorem u64_wrap {n : Int} (h1 : 0 ≤ n) (h2 : n < 18446744073709551616) : IntKind.u64.wrap n = n := wrap_of (k := .u64) ⟨h1, by simp only [hi]; omega⟩
theorem u64_neg {n : Int} (h1 : -18446744073709551616 ≤ n) (h2 : n < 0) : IntKind.u64.wrap n = n + 18446744073709551616 := by
  have : IntKind.u64.wrap n = n % 18446744073709551616 := rfl
  rw [this]; omega
theorem i64_wrap {n : Int} (h : inI n) : IntKind.i64.wrap n = n := wrap_of (k := .i64) ⟨h.1, h.2⟩
theorem i64_big {n : Int} (h1 : 9223372036854775808 ≤ n) (h2 : n < 18446744073709551616) : IntKind.i64.wrap n = n - 18446744073709551616 := by
  have : IntKind.i64.wrap n = (if (true && decide (n % 18446744073709551616 ≥ 9223372036854775808)) = true then n % 18446744073709551616 - 18446744073709551616 else n % 18446744073709551616) := rfl
  rw [this]
  have h : n % 18446744073709551616 = n := by omega
  rw [h, if_pos (by simp; omega)]
theorem u8_wrap {n : Int} (h1 : 0 ≤ n) (h2 : n ≤ 255) : IntKind.u8.wrap n = n := wrap_of (k := .u8) ⟨h1, h2⟩

theorem digits_m {fu : Nat} {u : Nat} (hu : u < 18446744073709551616) (hf : 30 < fu) : Instarref24_digits_m fu (u : Int) = some (Lib.decDigits u) := by
  have dig : ∀ v : Nat, strOf [48 + ((v % 10 : Nat) : Int)] = [UInt8.ofNat (48 + v % 10)] := fun v => by
    show [UInt8.ofNat (48 + ((v % 10 : Nat) : Int)).toNat] = _
    congr 2
  have key : ∀ (k u : Nat) (r : Bs), u < 10 ^ k → u < 18446744073709551616 → r.length + k ≤ 1000000 → ∀ q, k ≤ q → Instarref24_digits_l1 (q + 1) ((u : Int), UInt8.ofNat (48 + u % 10) :: r) = some (Lib.decDigits u ++ r) := by
    intro k
    induction k with
    | zero =>
      intro u r hu _ _ q _
      have : u = 0 := by simpa using hu
      subst this
      rw [Instarref24_digits_l1, show decide (((0 : Nat) : Int) ≥ 10) = false from rfl, cnd_false, Lib.decDigits]
      rfl
    | succ k ih =>
      intro u r hk hu hr q hq
      obtain ⟨q, rfl⟩ : ∃ j, q = j + 1 := ⟨q - 1, by omega⟩
      rw [Instarref24_digits_l1]
      by_cases h : u < 10
      · rw [show decide ((u : Int) ≥ 10) = false from by rw [decide_eq_false_iff_not]; omega, cnd_false, Lib.decDigits, dif_pos h, Nat.mod_eq_of_lt h]
        rfl
      · have hd : u / 10 % 10 < 10 := Nat.mod_lt _ (by omega)
        have e1 : ((u : Int).tdiv 10) = ((u / 10 : Nat) : Int) := rfl
        have e2 : (((u / 10 : Nat) : Int).tmod 10) = ((u / 10 % 10 : Nat) : Int) := rfl
        rw [show decide ((u : Int) ≥ 10) = true from by rw [decide_eq_true_eq]; omega, cnd_true]
        rw [show quoW .u64 (u : Int) 10 = some ((u / 10 : Nat) : Int) from by unfold quoW; rw [if_neg (by omega), e1, u64_wrap (by omega) (by omega)], bnd_some,
          show remI ((u / 10 : Nat) : Int) 10 = some ((u / 10 % 10 : Nat) : Int) from by unfold remI; rw [if_neg (by omega), e2], bnd_some, u8_wrap (by omega) (by omega), rng_ok (k := .u8) ⟨by simp only [lo]; omega, by simp only [hi]; omega⟩, bnd_some, cat_ok (by simp [strOf]; omega), bnd_some, dig,
          List.singleton_append, ih (u / 10) (UInt8.ofNat (48 + u % 10) :: r) (by rw [Nat.pow_succ] at hk; omega) (by omega) (by simp; omega) q (by omega)]
        conv => rhs; rw [Lib.decDigits, dif_neg h]
        simp
  have e2 : ((u : Int).tmod 10) = ((u % 10 : Nat) : Int) := rfl
  have hd : u % 10 < 10 := Nat.mod_lt _ (by omega)
  unfold Instarref24_digits_m
  rw [show remI (u : Int) 10 = some ((u % 10 : Nat) : Int) from by unfold remI; rw [if_neg (by omega), e2], bnd_some, u8_wrap (by omega) (by omega), rng_ok (k := .u8) ⟨by simp only [lo]; omega, by simp only [hi]; omega⟩, bnd_some, dig]
  obtain ⟨q, rfl⟩ : ∃ j, fu = j + 1 := ⟨fu - 1, by omega⟩
  have := key 20 u [] (by omega) hu (by simp) q (by omega)
  rw [this, List.append_nil]
theorem number_m {fu : Nat} {n : Int} (h : inI n) (hf : 30 < fu) : Instarref24_Number_m fu n = some (Lib.itoa n) := by
  obtain ⟨h1, h2⟩ := h
  unfold Instarref24_Number_m Lib.itoa
  by_cases hn : n < 0
  · rw [show decide (n < 0) = true from decide_eq_true hn, cnd_true, if_pos hn, u64_neg (by omega) hn]
    have e : IntKind.u64.wrap (0 - (n + 18446744073709551616)) = ((n.natAbs : Nat) : Int) := by rw [u64_neg (by omega) (by omega)]; omega
    have := itoa_len (n := n) h1 h2
    unfold Lib.itoa at this
    rw [if_pos hn, List.length_cons] at this
    rw [e, digits_m (by omega) hf, bnd_some, cat_ok (by simp; omega), bnd_some]
    rfl
  · rw [show decide (n < 0) = false from decide_eq_false hn, cnd_false, if_neg hn]
    have e : IntKind.u64.wrap n = ((n.toNat : Nat) : Int) := by rw [u64_wrap (by omega) (by omega)]; omega
    rw [e, digits_m (by omega) hf]
    rfl
theorem word_m {fu : Nat} {k : Int} (h1 : 1 ≤ k) (h2 : k ≤ 10) : Instarref24_Word_m fu k = some (wordS k) := by
  obtain ⟨j, rfl⟩ : ∃ j : Nat, k = (j : Int) := ⟨k.toNat, by omega⟩
  have : j = 1 ∨ j = 2 ∨ j = 3 ∨ j = 4 ∨ j = 5 ∨ j = 6 ∨ j = 7 ∨ j = 8 ∨ j = 9 ∨ j = 10 := by omega
  rcases this with rfl | rfl | rfl | rfl | rfl | rfl | rfl | rfl | rfl | rfl <;> rfl
theorem truth_m {fu : Nat} {b : Bool} : Instarref24_truth_m fu b = some (32 :: bit b) := by cases b <;> rfl
theorem rtxt_m {fu : Nat} {s : Bs} (hf : s.length < fu) (hs : s.length ≤ 100000000) : Instarref24_Text_m fu s = some (txt s) := by
  unfold Instarref24_Text_m
  have hlen : ∀ i, (esc (s.take i)).length ≤ 2 * s.length := fun i => by
    have := esc_len (s.take i)
    have : (s.take i).length ≤ s.length := by simp; omega
    omega
  have key := upf (L := Instarref24_Text_l1 s) (fun i => (34 :: esc (s.take i), (i : Int))) (some (txt s)) s.length (fun i hi k => ?_) (fun k => ?_) hf
  · simpa [esc_nil] using key
  · have hi' := hlen i
    have hb : s.take (i + 1) = s.take i ++ [s[i]] := List.take_succ_eq_append_getElem hi
    rw [Instarref24_Text_l1, show (decide ((i : Int) < ((s.length : Nat) : Int))) = true from by simpa using hi, cnd_true, chr_lt hi]
    simp only [bnd_some]
    have hp : piece s (i : Int) ((i + 1 : Nat) : Int) = some [s[i]] := by
      rw [piece_nat (by omega) (by omega), List.drop_eq_getElem_cons hi, show i + 1 - i = 1 from by omega]
      rfl
    rw [hb, esc_app]
    generalize hacc : esc (s.take i) = acc at hi'
    have e1 : esc [s[i]] = escB s[i] := by rw [esc_cons, esc_nil, List.append_nil]
    rw [e1]
    generalize s[i] = b at hp
    have j : ∀ (o : Bs), o.length ≤ 900000000 → Instarref24_Text_j1 s (i : Int) (Instarref24_Text_l1 s k) o = Instarref24_Text_l1 s k (o ++ [b], ((i + 1 : Nat) : Int)) := fun o ho => by
      unfold Instarref24_Text_j1
      rw [rng_nat (by omega), bnd_some, hp, bnd_some, cat_ok (by simp; omega), bnd_some, bnd_some]
    rw [show ((b.toNat : Int) == 10) = (b == 10) from byte_is b 10, show ((b.toNat : Int) == 34) = (b == 34) from byte_is b 34, show ((b.toNat : Int) == 92) = (b == 92) from byte_is b 92]
    have hc : cat (34 :: acc) [92, 110] = some (34 :: acc ++ [92, 110]) := cat_ok (by simp; omega)
    have hc2 : cat (34 :: acc) [92] = some (34 :: acc ++ [92]) := cat_ok (by simp; omega)
    by_cases h10 : b = 10
    · subst h10
      rw [beq_self_eq_true, cnd_true, hc, bnd_some, rng_nat (by omega), bnd_some]
      rfl
    · rw [beq_false_of_ne h10, cnd_false]
      by_cases h34 : b = 34
      · rw [h34, beq_self_eq_true, cnd_true, hc2, bnd_some, j _ (by simp; omega), h34]
        simp [escB]
      · rw [beq_false_of_ne h34, cnd_false]
        by_cases h92 : b = 92
        · rw [h92, beq_self_eq_true, cnd_true, hc2, bnd_some, j _ (by simp; omega), h92]
          simp [escB]
        · rw [beq_false_of_ne h92, cnd_false, j _ (by simp; omega)]
          simp [escB, h10, h34, h92]
  · rw [Instarref24_Text_l1, show (decide (((s.length : Nat) : Int) < ((s.length : Nat) : Int))) = false from by simp, cnd_false, List.take_length]
    have := esc_len s
    rw [cat_ok (by simp; omega), bnd_some]
    simp [txt]
theorem eqM_bare (m : Mark) : eqMark m (bareM m) = (m.Name == ([] : Bs) && !m.Had && !m.Has && m.Old == ([] : Bs) && m.New == ([] : Bs) && m.From == 0 && m.To == 0 && !m.On) := by
  rw [Bool.eq_iff_iff, eqMark_iff]
  obtain ⟨k, d, n, w, e, nm, hd, hs, ol, nw, fr, tt, on⟩ := m
  simp [bareM]
  constructor <;> · intro h; simp_all
theorem rone_m {fu : Nat} {m : Mark} {B : Nat} (hm : WM m B) (hB : B ≤ 1000000) (hf : B + 40 < fu) (hv : validM m) : Instarref24_One_m fu m = some (oneS m) := by
  have hw := wordS_len m.Kind
  have i1 := itoa_len hm.depth.1 hm.depth.2
  have i2 := itoa_len hm.node.1 hm.node.2
  have i3 := itoa_len hm.what.1 hm.what.2
  have i4 := itoa_len hm.err.1 hm.err.2
  have i5 := itoa_len hm.from_.1 hm.from_.2
  have i6 := itoa_len hm.to_.1 hm.to_.2
  have t1 := txt_len m.Name
  have t2 := txt_len m.Old
  have t3 := txt_len m.New
  have g1 := hm.name
  have g2 := hm.old
  have g3 := hm.new
  unfold Instarref24_One_m
  rw [word_m hv.1 hv.2, bnd_some, cat_ok (by simp; omega), bnd_some, number_m hm.depth (by omega), bnd_some, cat_ok (by simp; omega), bnd_some, cat_ok (by simp; omega), bnd_some, number_m hm.node (by omega), bnd_some, cat_ok (by simp; omega), bnd_some, cat_ok (by simp; omega), bnd_some,
    number_m hm.what (by omega), bnd_some, cat_ok (by simp; omega), bnd_some, cat_ok (by simp; omega), bnd_some, number_m hm.err (by omega), bnd_some, cat_ok (by simp; omega), bnd_some]
  have en : wordS m.Kind ++ [32] ++ Lib.itoa m.Depth ++ [32] ++ Lib.itoa m.Node ++ [32] ++ Lib.itoa m.What ++ [32] ++ Lib.itoa m.Err = wordS m.Kind ++ tl (numsF m) := by simp [numsF, tl_cons, tl_nil]
  rw [en]
  have hal : (wordS m.Kind ++ tl (numsF m)).length ≤ 100 := by rw [← en]; simp; omega
  have hj : Instarref24_One_j1 fu m (wordS m.Kind ++ tl (numsF m)) () = some (wordS m.Kind ++ tl (numsF m ++ callF m)) := by
    unfold Instarref24_One_j1
    generalize hacc : wordS m.Kind ++ tl (numsF m) = acc at hal
    have b1 := bit_len m.Had
    have b2 := bit_len m.Has
    have b3 := bit_len m.On
    rw [cat_ok (by simp; omega), bnd_some, rtxt_m (by omega) (by omega), bnd_some, cat_ok (by simp; omega), bnd_some, truth_m, bnd_some, cat_ok (by simp; omega), bnd_some, truth_m, bnd_some, cat_ok (by simp; omega), bnd_some, cat_ok (by simp; omega), bnd_some,
      rtxt_m (by omega) (by omega), bnd_some, cat_ok (by simp; omega), bnd_some, cat_ok (by simp; omega), bnd_some, rtxt_m (by omega) (by omega), bnd_some, cat_ok (by simp; omega), bnd_some, cat_ok (by simp; omega), bnd_some,
      number_m hm.from_ (by omega), bnd_some, cat_ok (by simp; omega), bnd_some, cat_ok (by simp; omega), bnd_some, number_m hm.to_ (by omega), bnd_some, cat_ok (by simp; omega), bnd_some, truth_m, bnd_some, cat_ok (by simp; omega), bnd_some, tl_app, ← List.append_assoc, hacc]
    simp [callF, tl_cons, tl_nil]
  rw [hj]
  unfold oneS fieldsM
  rw [eqM_bare]
  cases m.Name == ([] : Bs)
  · rfl
  cases m.Had
  · cases m.Has
    · cases m.Old == ([] : Bs)
      · rfl
      cases m.New == ([] : Bs)
      · rfl
      cases m.From == 0
      · rfl
      cases m.To == 0
      · rfl
      cases m.On <;> rfl
    · rfl
  · rfl
end Go.Proofs.YtoakfflcpcdbeaaDoor
