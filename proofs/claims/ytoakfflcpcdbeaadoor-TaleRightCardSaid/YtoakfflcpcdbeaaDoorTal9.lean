/- The reference's reader: marks, and a whole text. -/
import Derived.Test.YtoakfflcpcdbeaaDoorTal8
namespace Go.Proofs.YtoakfflcpcdbeaaDoor
open Go Go.Pw
set_option linter.unusedVariables false

theorem itoa_sgn {minus : Bool} {D : Bs} (h : okN minus D) : Lib.itoa (sgn minus (val D)) = (if minus then [45] else []) ++ D := by
  obtain ⟨hc, h1, h2, h3⟩ := h
  have hb := can_back _ D (Nat.le_refl _) hc
  unfold Lib.itoa sgn
  cases minus with
  | false => rw [if_neg (by simp), if_neg (by simp), if_neg (by simp)]; simp [hb]
  | true =>
    have : 0 < val D := by
      rcases Nat.eq_zero_or_pos (val D) with h | h
      · exact absurd ⟨rfl, h⟩ h2
      · exact h
    rw [if_pos rfl, if_pos (by omega), if_pos rfl, show (-((val D : Nat) : Int)).natAbs = val D from by omega, hb]
    rfl
theorem sgn_in {minus : Bool} {D : Bs} (h : okN minus D) : inI (sgn minus (val D)) := by
  obtain ⟨hc, h1, h2, h3⟩ := h
  unfold sgn inI
  unfold big at h1 h3
  cases minus with
  | false =>
    have : val D ≠ 9223372036854775808 := fun e => h3 ⟨rfl, e⟩
    rw [if_neg (by simp)]; omega
  | true => rw [if_pos rfl]; omega
/-- Behind the blank: the rest of the number's reader, at any text. -/
theorem num_at {fu : Nat} {S : Bs} {p : Nat} (hp : p ≤ S.length) (hS : S.length ≤ 1000000) (hk : S.length < fu) :
    ∃ x, (cnd (decide ((p : Int) < ((S.length : Nat) : Int))) (bnd (chr S (p : Int)) fun b3 => Instarref24_number_j1 fu (sc S p false) (b3 == 45)) (Instarref24_number_j1 fu (sc S p false) false)) = some x ∧
    ((∃ n q, x = (n, sc S q false) ∧ q ≤ S.length ∧ p ≤ q ∧ inI n ∧ S.drop p = Lib.itoa n ++ S.drop q ∧ q = p + (Lib.itoa n).length ∧ ∀ c, (S.drop q).head? = some c → ¬ isD c) ∨
     (∃ q, x = (0, sc S q true) ∧ q ≤ S.length ∧ p ≤ q ∧ ∀ (n : Int) (r : Bs), inI n → S.drop p = Lib.itoa n ++ r → (∀ c, r.head? = some c → ¬ isD c) → False)) := by
  have nogo : ∀ (minus : Bool) (f : Nat), S.drop p = (if minus then [45] else []) ++ S.drop f → (minus = false → ∀ r, S.drop p ≠ 45 :: r) → ¬ okN minus (run S f) → ∀ (n : Int) (r : Bs), inI n → S.drop p = Lib.itoa n ++ r → (∀ c, r.head? = some c → ¬ isD c) → False := by
    intro minus f h1 h2 h3 n r hn h hr
    unfold inI at hn
    unfold Lib.itoa at h
    by_cases hn0 : n < 0
    · rw [if_pos hn0] at h
      cases minus with
      | false => exact h2 rfl _ h
      | true =>
        rw [if_pos rfl, h] at h1
        have h1 : Lib.decDigits n.natAbs ++ r = S.drop f := by simpa using h1
        have := run_of h1.symm (fun c hc => digits_mem _ c hc) hr
        rw [this] at h3
        refine h3 ⟨can_digits _, by rw [val_digits]; unfold big; omega, ?_, by simp⟩
        rintro ⟨_, h⟩
        rw [val_digits] at h; omega
    · rw [if_neg hn0] at h
      cases minus with
      | true =>
        rw [if_pos rfl, h] at h1
        cases hd : Lib.decDigits n.toNat with
        | nil => exact digits_ne _ hd
        | cons d l =>
          have := digits_mem n.toNat d (by rw [hd]; simp)
          rw [hd] at h1
          have : d = 45 := by simpa using (List.cons.inj h1).1
          subst this
          have e45 : (45 : UInt8).toNat = 45 := rfl
          omega
      | false =>
        rw [if_neg (by simp), List.nil_append, h] at h1
        have := run_of h1.symm (fun c hc => digits_mem _ c hc) hr
        rw [this] at h3
        refine h3 ⟨can_digits _, by rw [val_digits]; unfold big; omega, by simp, ?_⟩
        rintro ⟨_, h⟩
        rw [val_digits] at h; unfold big at h; omega
  have fin : ∀ (minus : Bool) (f : Nat), f ≤ S.length → f = p + (if minus then 1 else 0) → S.drop p = (if minus then [45] else []) ++ S.drop f → (minus = false → ∀ r, S.drop p ≠ 45 :: r) →
      ∃ x, Instarref24_number_j2 fu (sc S p false) minus (f : Int) = some x ∧ ((∃ n q, x = (n, sc S q false) ∧ q ≤ S.length ∧ p ≤ q ∧ inI n ∧ S.drop p = Lib.itoa n ++ S.drop q ∧ q = p + (Lib.itoa n).length ∧ ∀ c, (S.drop q).head? = some c → ¬ isD c) ∨
     (∃ q, x = (0, sc S q true) ∧ q ≤ S.length ∧ p ≤ q ∧ ∀ (n : Int) (r : Bs), inI n → S.drop p = Lib.itoa n ++ r → (∀ c, r.head? = some c → ¬ isD c) → False)) := by
    intro minus f hf hfp h1 h2
    rcases j2_m (fu := fu) (p := p) (minus := minus) hf hS hk with ⟨h3, e⟩ | ⟨h3, q, e, hq, hfq⟩
    · refine ⟨_, e, .inl ⟨_, _, rfl, run_le hf, by omega, sgn_in h3, ?_, ?_, ?_⟩⟩
      · rw [itoa_sgn h3, h1, List.append_assoc, ← run_split]
      · rw [itoa_sgn h3, List.length_append, hfp]
        cases minus <;> simp <;> omega
      · intro c hc hcd
        have := run_end hc
        rw [(dig_iff c).2 hcd] at this
        cases this
    · exact ⟨_, e, .inr ⟨q, rfl, hq, by omega, nogo minus f h1 h2 h3⟩⟩
  by_cases hlt : p < S.length
  · have hd := List.drop_eq_getElem_cons hlt
    rw [show decide ((p : Int) < ((S.length : Nat) : Int)) = true from by rw [decide_eq_true_eq]; omega, cnd_true, chr_drop hd, bnd_some, show (((S[p]).toNat : Int) == 45) = (S[p] == 45) from byte_is _ 45]
    by_cases h45 : S[p] = 45
    · rw [h45, beq_self_eq_true]
      unfold Instarref24_number_j1
      rw [cnd_true, show (sc S p false).At = (p : Int) from rfl, rng_nat (by omega), bnd_some]
      exact fin true (p + 1) (by omega) rfl (by rw [hd, h45]; rfl) (by simp)
    · rw [beq_false_of_ne h45]
      unfold Instarref24_number_j1
      rw [cnd_false]
      exact fin false p hp rfl rfl (fun _ r h => h45 (by rw [hd] at h; exact (List.cons.inj h).1))
  · rw [show decide ((p : Int) < ((S.length : Nat) : Int)) = false from by rw [decide_eq_false_iff_not]; omega, cnd_false]
    unfold Instarref24_number_j1
    rw [cnd_false]
    exact fin false p hp rfl rfl (fun _ r h => by rw [List.drop_of_length_le (by omega)] at h; cases h)
theorem dig_pre {x y a b : Bs} (h : x ++ a = y ++ b) (hx : ∀ c ∈ x, isD c) (hy : ∀ c ∈ y, isD c) (ha : ∀ c, a.head? = some c → ¬ isD c) (hb : ∀ c, b.head? = some c → ¬ isD c) : x = y := by
  have h1 := run_of (S := x ++ a) (f := 0) rfl hx ha
  have h2 := run_of (S := x ++ a) (f := 0) (by rw [h]; rfl) hy hb
  exact h1.symm.trans h2
theorem itoa_pre {m n : Int} {a b : Bs} (h : Lib.itoa m ++ a = Lib.itoa n ++ b) (ha : ∀ c, a.head? = some c → ¬ isD c) (hb : ∀ c, b.head? = some c → ¬ isD c) : Lib.itoa m = Lib.itoa n := by
  have no : ∀ (u : Nat) (x y : Bs), Lib.decDigits u ++ x ≠ 45 :: y := fun u x y e => by
    cases hd : Lib.decDigits u with
    | nil => exact digits_ne _ hd
    | cons d l =>
      have h1 := digits_mem u d (by rw [hd]; simp)
      rw [hd] at e
      have : d = 45 := by simpa using (List.cons.inj e).1
      subst this
      have e45 : (45 : UInt8).toNat = 45 := rfl
      omega
  unfold Lib.itoa at h ⊢
  by_cases hm : m < 0
  · rw [if_pos hm] at h ⊢
    by_cases hn : n < 0
    · rw [if_pos hn] at h ⊢
      rw [dig_pre (List.cons.inj h).2 (fun c hc => digits_mem _ c hc) (fun c hc => digits_mem _ c hc) ha hb]
    · rw [if_neg hn] at h
      exact absurd h.symm (no _ _ _)
  · rw [if_neg hm] at h ⊢
    by_cases hn : n < 0
    · rw [if_pos hn] at h
      exact absurd h (no _ _ _)
    · rw [if_neg hn] at h ⊢
      exact dig_pre h (fun c hc => digits_mem _ c hc) (fun c hc => digits_mem _ c hc) ha hb
theorem number_any {fu : Nat} {S : Bs} {p : Nat} {b : Bool} (hp : p ≤ S.length) (hS : S.length ≤ 1000000) (hk : S.length < fu) :
    ∃ n q b', Instarref24_number_m fu (sc S p b) = some (n, sc S q b') ∧ q ≤ S.length ∧ p ≤ q ∧ inI n ∧ (b' = false → Took S p b q (32 :: Lib.itoa n)) := by
  obtain ⟨p2, b2, e, h1, h2, h3⟩ := need_any (fu := fu) (t := [32]) (b := b) hp hS (by simp)
  unfold Instarref24_number_m
  rw [e, bnd_some]
  cases b2 with
  | true =>
    obtain ⟨k, rfl⟩ : ∃ j, fu = j + 1 := ⟨fu - 1, by omega⟩
    refine ⟨0, p2, true, ?_, h1, h2, by unfold inI; omega, fun h => by cases h⟩
    rfl
  | false =>
    obtain ⟨g1, g2, g3⟩ := h3 rfl
    rw [show (sc S p2 false).Bad = false from rfl, Bool.not_false, cnd_true, show (sc S p2 false).At = (p2 : Int) from rfl, show (sc S p2 false).S = S from rfl]
    obtain ⟨x, ex, ⟨n, q, rfl, hq, hpq, hn, ht, hl, _⟩ | ⟨q, rfl, hq, hpq, _⟩⟩ := num_at (fu := fu) h1 hS hk
    · exact ⟨n, q, false, ex, hq, by omega, hn, fun _ => ⟨g1, by rw [g2, ht]; simp, by simp at g3 ⊢; omega⟩⟩
    · exact ⟨0, q, true, ex, hq, by omega, by unfold inI; omega, fun h => by cases h⟩
theorem number_back {fu : Nat} {S r : Bs} {p : Nat} {n : Int} (hp : p ≤ S.length) (hS : S.length ≤ 1000000) (hk : S.length < fu) (hn : inI n) (h : S.drop p = 32 :: (Lib.itoa n ++ r)) (hr : ∀ c, r.head? = some c → ¬ isD c) :
    Instarref24_number_m fu (sc S p false) = some (n, sc S (p + (1 + (Lib.itoa n).length)) false) := by
  have h' : S.drop p = [32] ++ (Lib.itoa n ++ r) := h
  unfold Instarref24_number_m
  rw [need_yes hp hS (by simp) h', bnd_some]
  have hp1 := drop_le hp h'
  have hd := drop_app h'
  have e1 : p + [32].length = p + 1 := rfl
  rw [show p + ([32] : Bs).length = p + 1 from rfl] at *
  rw [show (sc S (p + 1) false).Bad = false from rfl, Bool.not_false, cnd_true, show (sc S (p + 1) false).At = ((p + 1 : Nat) : Int) from rfl, show (sc S (p + 1) false).S = S from rfl]
  obtain ⟨x, ex, ⟨m, q, rfl, hq, hpq, hm, ht, hl, hnd⟩ | ⟨q, rfl, hq, hpq, hno⟩⟩ := num_at (fu := fu) hp1 hS hk
  · have hi : Lib.itoa m = Lib.itoa n → m = n := fun e => by
      have h1 := atoi_itoa hm.1 hm.2
      rw [e, atoi_itoa hn.1 hn.2] at h1
      cases h1; rfl
    have heq : Lib.itoa m = Lib.itoa n := itoa_pre (by rw [← ht, hd]) hnd hr
    have := hi heq
    subst this
    rw [ex, hl]
    congr 3
    omega
  · exact absurd hr (fun hr => hno n r hn hd hr)

/-! ## Bits -/
theorem bit_any {fu : Nat} {S : Bs} {p : Nat} {b : Bool} (hp : p ≤ S.length) (hS : S.length ≤ 1000000) :
    ∃ v q b', Instarref24_bit_m fu (sc S p b) = some (v, sc S q b') ∧ q ≤ S.length ∧ p ≤ q ∧ (b' = false → Took S p b q (32 :: bit v)) := by
  obtain ⟨p2, b2, e, h1, h2, h3⟩ := need_any (fu := fu) (t := [32, 49]) (b := b) hp hS (by simp)
  unfold Instarref24_bit_m
  rw [e, bnd_some]
  cases b2 with
  | true =>
    obtain ⟨p3, b3, e3, k1, k2, k3⟩ := need_any (fu := fu) (t := [32, 48]) (b := b) hp hS (by simp)
    refine ⟨false, p3, b3, ?_, k1, k2, fun h => k3 h⟩
    rw [show (sc S p2 true).Bad = true from rfl, cnd_true, e3, bnd_some]
  | false => exact ⟨true, p2, false, rfl, h1, h2, fun h => h3 h⟩
theorem bit_back {fu : Nat} {S r : Bs} {p : Nat} {v : Bool} (hp : p ≤ S.length) (hS : S.length ≤ 1000000) (h : S.drop p = 32 :: (bit v ++ r)) :
    Instarref24_bit_m fu (sc S p false) = some (v, sc S (p + (1 + (bit v).length)) false) := by
  unfold Instarref24_bit_m
  cases v with
  | true =>
    have h' : S.drop p = [32, 49] ++ r := h
    rw [need_yes hp hS (by simp) h', bnd_some]
    rfl
  | false =>
    have h' : S.drop p = [32, 48] ++ r := h
    rw [need_no hp hS (by simp) (fun x hx => by rw [h'] at hx; simp at hx), bnd_some]
    rw [show (sc S p true).Bad = true from rfl, cnd_true, need_yes hp hS (by simp) h', bnd_some]
    rfl

/-! ## Texts -/
theorem text_l {fu : Nat} {S : Bs} {p0 : Nat} (hS : S.length ≤ 1000000) : ∀ (d c : Nat) (out : Bs) (k : Nat), c ≤ S.length → S.length - c ≤ d → d < k → out.length ≤ c →
    ∃ t q b', Instarref24_text_l1 (sc S p0 false) k (out, (c : Int)) = some (t, sc S q b') ∧ q ≤ S.length ∧ c ≤ q ∧ t.length ≤ S.length ∧ (b' = false → ∃ s, t = out ++ s ∧ S.drop c = esc s ++ 34 :: S.drop q ∧ q = c + (esc s).length + 1) := by
  intro d
  induction d with
  | zero =>
    intro c out k hc hd hk ho
    obtain ⟨k, rfl⟩ : ∃ j, k = j + 1 := ⟨k - 1, by omega⟩
    refine ⟨[], c, true, ?_, hc, Nat.le_refl _, by simp, fun h => by cases h⟩
    rw [Instarref24_text_l1, show (sc S p0 false).Bad = false from rfl, Bool.not_false, cnd_true, show (sc S p0 false).S = S from rfl, show decide ((c : Int) ≥ ((S.length : Nat) : Int)) = true from by rw [decide_eq_true_eq]; omega, cnd_true]
    rfl
  | succ d ih =>
    intro c out k hc hd hk ho
    obtain ⟨k, rfl⟩ : ∃ j, k = j + 1 := ⟨k - 1, by omega⟩
    rw [Instarref24_text_l1, show (sc S p0 false).Bad = false from rfl, Bool.not_false, cnd_true, show (sc S p0 false).S = S from rfl]
    by_cases hce : c = S.length
    · refine ⟨[], c, true, ?_, hc, Nat.le_refl _, by simp, fun h => by cases h⟩
      rw [show decide ((c : Int) ≥ ((S.length : Nat) : Int)) = true from by rw [decide_eq_true_eq]; omega, cnd_true]
      rfl
    · have hlt : c < S.length := by omega
      have hdr := List.drop_eq_getElem_cons hlt
      rw [show decide ((c : Int) ≥ ((S.length : Nat) : Int)) = false from by rw [decide_eq_false_iff_not]; omega, cnd_false, chr_drop hdr, bnd_some]
      generalize S[c] = x at hdr
      rw [show ((x.toNat : Int) == 10) = (x == 10) from byte_is x 10]
      by_cases h10 : x = 10
      · refine ⟨[], c, true, ?_, hc, Nat.le_refl _, by simp, fun h => by cases h⟩
        rw [h10, beq_self_eq_true, cnd_true]
        rfl
      rw [beq_false_of_ne h10, cnd_false, bnd_some, rng_nat (by omega), bnd_some, show ((x.toNat : Int) == 34) = (x == 34) from byte_is x 34, show ((x.toNat : Int) == 92) = (x == 92) from byte_is x 92]
      by_cases h34 : x = 34
      · refine ⟨out, c + 1, false, ?_, by omega, by omega, by omega, fun _ => ⟨[], by simp, by rw [hdr, h34]; simp [esc_nil], by simp [esc_nil]⟩⟩
        rw [h34, beq_self_eq_true, cnd_true]
        rfl
      rw [beq_false_of_ne h34, cnd_false]
      have one : strOf [(x.toNat : Int)] = [x] := str_bytes [x]
      by_cases h92 : x = 92
      · rw [h92, beq_self_eq_true, cnd_true]
        by_cases hc1 : c + 1 = S.length
        · refine ⟨[], c + 1, true, ?_, by omega, by omega, by simp, fun h => by cases h⟩
          rw [show decide (((c + 1 : Nat) : Int) ≥ ((S.length : Nat) : Int)) = true from by rw [decide_eq_true_eq]; omega, cnd_true]
          rfl
        · have hlt2 : c + 1 < S.length := by omega
          have hdr2 := List.drop_eq_getElem_cons hlt2
          rw [show decide (((c + 1 : Nat) : Int) ≥ ((S.length : Nat) : Int)) = false from by rw [decide_eq_false_iff_not]; omega, cnd_false, chr_drop hdr2, bnd_some]
          generalize S[c + 1] = y at hdr2
          have oney : strOf [(y.toNat : Int)] = [y] := str_bytes [y]
          rw [rng_nat (by omega), bnd_some, show ((y.toNat : Int) == 110) = (y == 110) from byte_is y 110, bne, bne, show ((y.toNat : Int) == 34) = (y == 34) from byte_is y 34, show ((y.toNat : Int) == 92) = (y == 92) from byte_is y 92]
          have two : ∀ (b : UInt8), escB b = [92, y] → (∃ t q b', Instarref24_text_l1 (sc S p0 false) k (out ++ [b], ((c + 1 + 1 : Nat) : Int)) = some (t, sc S q b') ∧ q ≤ S.length ∧ c ≤ q ∧ t.length ≤ S.length ∧ (b' = false → ∃ s, t = out ++ s ∧ S.drop c = esc s ++ 34 :: S.drop q ∧ q = c + (esc s).length + 1)) := fun b hb => by
            obtain ⟨t, q, b', e, h1, h2, h3, h4⟩ := ih (c + 1 + 1) (out ++ [b]) k (by omega) (by omega) (by omega) (by simp; omega)
            refine ⟨t, q, b', e, h1, by omega, h3, fun hb' => ?_⟩
            obtain ⟨s, e1, e2, e3⟩ := h4 hb'
            refine ⟨b :: s, by rw [e1]; simp, ?_, ?_⟩
            · rw [hdr, h92, hdr2, esc_cons, hb, e2]; simp
            · rw [esc_cons, hb, e3]; simp; omega
          by_cases hn : y = 110
          · rw [hn, beq_self_eq_true, cnd_true, cat_ok (by simp; omega), bnd_some]
            exact two 10 (by rw [hn]; rfl)
          · rw [beq_false_of_ne hn, cnd_false]
            by_cases hy : y = 34
            · rw [hy, beq_self_eq_true]
              simp only [Bool.not_true, cnd_false]
              rw [hy] at oney
              rw [oney, cat_ok (by simp; omega), bnd_some]
              exact two 34 (by rw [hy]; rfl)
            · by_cases hy2 : y = 92
              · rw [beq_false_of_ne hy, hy2, beq_self_eq_true]
                simp only [Bool.not_true, Bool.not_false, cnd_false, cnd_true]
                rw [hy2] at oney
                rw [oney, cat_ok (by simp; omega), bnd_some]
                exact two 92 (by rw [hy2]; rfl)
              · rw [beq_false_of_ne hy, beq_false_of_ne hy2]
                exact ⟨[], c + 1 + 1, true, rfl, by omega, by omega, by simp, fun h => by cases h⟩
      · rw [beq_false_of_ne h92, cnd_false, one, cat_ok (by simp; omega), bnd_some]
        obtain ⟨t, q, b', e, h1, h2, h3, h4⟩ := ih (c + 1) (out ++ [x]) k (by omega) (by omega) (by omega) (by simp; omega)
        refine ⟨t, q, b', e, h1, by omega, h3, fun hb' => ?_⟩
        obtain ⟨s, e1, e2, e3⟩ := h4 hb'
        have hb : escB x = [x] := by unfold escB; rw [if_neg h10, if_neg (by simp [h34, h92])]
        refine ⟨x :: s, by rw [e1]; simp, ?_, ?_⟩
        · rw [hdr, esc_cons, hb, e2]; simp
        · rw [esc_cons, hb, e3]; simp; omega
theorem rtext_any {fu : Nat} {S : Bs} {p : Nat} {b : Bool} (hp : p ≤ S.length) (hS : S.length ≤ 1000000) (hk : S.length < fu) :
    ∃ t q b', Instarref24_text_m fu (sc S p b) = some (t, sc S q b') ∧ q ≤ S.length ∧ p ≤ q ∧ t.length ≤ S.length ∧ (b' = false → Took S p b q (32 :: txt t)) := by
  obtain ⟨p2, b2, e, h1, h2, h3⟩ := need_any (fu := fu) (t := [32, 34]) (b := b) hp hS (by simp)
  unfold Instarref24_text_m
  rw [e, bnd_some]
  cases b2 with
  | true =>
    obtain ⟨k, rfl⟩ : ∃ j, fu = j + 1 := ⟨fu - 1, by omega⟩
    exact ⟨[], p2, true, rfl, h1, h2, by simp, fun h => by cases h⟩
  | false =>
    obtain ⟨g1, g2, g3⟩ := h3 rfl
    obtain ⟨t, q, b', e2, k1, k2, k3, k4⟩ := text_l (fu := fu) (p0 := p2) hS (S.length - p2) p2 [] fu h1 (Nat.le_refl _) (by omega) (by simp)
    refine ⟨t, q, b', e2, k1, by omega, k3, fun hb => ?_⟩
    obtain ⟨s, e3, e4, e5⟩ := k4 hb
    rw [List.nil_append] at e3
    subst e3
    exact ⟨g1, by rw [g2, e4]; simp [txt], by simp [txt] at g3 ⊢; omega⟩
theorem rtext_back {fu : Nat} {S r s : Bs} {p : Nat} (hp : p ≤ S.length) (hS : S.length ≤ 1000000) (hk : S.length < fu) (h : S.drop p = 32 :: (txt s ++ r)) :
    Instarref24_text_m fu (sc S p false) = some (s, sc S (p + (1 + (txt s).length)) false) := by
  have h' : S.drop p = [32, 34] ++ (esc s ++ 34 :: r) := by rw [h]; simp [txt]
  have hp1 := drop_le hp h'
  have hd := drop_app h'
  unfold Instarref24_text_m
  rw [need_yes hp hS (by simp) h', bnd_some]
  rw [show p + ([32, 34] : Bs).length = p + 2 from rfl] at *
  have key : ∀ (s out : Bs) (c k : Nat), c ≤ S.length → S.drop c = esc s ++ 34 :: r → s.length < k → out.length ≤ c → Instarref24_text_l1 (sc S (p + 2) false) k (out, (c : Int)) = some (out ++ s, sc S (c + (esc s).length + 1) false) := by
    intro s
    induction s with
    | nil =>
      intro out c k hc hdc hk ho
      obtain ⟨k, rfl⟩ : ∃ j, k = j + 1 := ⟨k - 1, by omega⟩
      have hlt : c < S.length := by
        have := congrArg List.length hdc
        simp [esc_nil] at this; omega
      rw [esc_nil, List.nil_append] at hdc
      rw [Instarref24_text_l1, show (sc S (p + 2) false).Bad = false from rfl, Bool.not_false, cnd_true, show (sc S (p + 2) false).S = S from rfl, show decide ((c : Int) ≥ ((S.length : Nat) : Int)) = false from by rw [decide_eq_false_iff_not]; omega, cnd_false, chr_drop hdc, bnd_some, show (((34 : UInt8).toNat : Int) == 10) = false from rfl, cnd_false, bnd_some, rng_nat (by omega), bnd_some, show (((34 : UInt8).toNat : Int) == 34) = true from rfl, cnd_true, List.append_nil]
      rfl
    | cons x s ih =>
      intro out c k hc hdc hk ho
      obtain ⟨k, rfl⟩ : ∃ j, k = j + 1 := ⟨k - 1, by omega⟩
      have hlen := congrArg List.length hdc
      rw [esc_cons] at hlen
      simp only [List.length_drop, List.length_append, List.length_cons] at hlen hk
      have hxp := escB_pos x
      rw [Instarref24_text_l1, show (sc S (p + 2) false).Bad = false from rfl, Bool.not_false, cnd_true, show (sc S (p + 2) false).S = S from rfl, show decide ((c : Int) ≥ ((S.length : Nat) : Int)) = false from by rw [decide_eq_false_iff_not]; omega, cnd_false]
      by_cases h3 : x = 10 ∨ x = 34 ∨ x = 92
      · obtain ⟨y, hy, hy1, hy2⟩ : ∃ y : UInt8, escB x = [92, y] ∧ (y = 110 ∧ x = 10 ∨ y = x ∧ (y = 34 ∨ y = 92)) ∧ True := by
          rcases h3 with rfl | rfl | rfl
          · exact ⟨110, rfl, .inl ⟨rfl, rfl⟩, trivial⟩
          · exact ⟨34, rfl, .inr ⟨rfl, .inl rfl⟩, trivial⟩
          · exact ⟨92, rfl, .inr ⟨rfl, .inr rfl⟩, trivial⟩
        rw [esc_cons, hy] at hdc
        rw [hy] at hlen
        simp only [List.length_cons, List.length_nil] at hlen
        have hdc : S.drop c = 92 :: (y :: (esc s ++ 34 :: r)) := by rw [hdc]; simp
        have hd1 : S.drop (c + 1) = y :: (esc s ++ 34 :: r) := by rw [← List.drop_drop, hdc]; rfl
        have hd2 : S.drop (c + 1 + 1) = esc s ++ 34 :: r := by rw [← List.drop_drop, hd1]; rfl
        rw [chr_drop hdc, bnd_some, show (((92 : UInt8).toNat : Int) == 10) = false from rfl, cnd_false, bnd_some, rng_nat (by omega), bnd_some, show (((92 : UInt8).toNat : Int) == 34) = false from rfl, cnd_false, show (((92 : UInt8).toNat : Int) == 92) = true from rfl, cnd_true, show decide (((c + 1 : Nat) : Int) ≥ ((S.length : Nat) : Int)) = false from by rw [decide_eq_false_iff_not]; omega, cnd_false, chr_drop hd1, bnd_some, rng_nat (by omega), bnd_some]
        have fin : Instarref24_text_l1 (sc S (p + 2) false) k (out ++ [x], ((c + 1 + 1 : Nat) : Int)) = some (out ++ x :: s, sc S (c + (esc (x :: s)).length + 1) false) := by
          rw [ih (out ++ [x]) (c + 1 + 1) k (by omega) hd2 (by omega) (by simp; omega), esc_cons, hy]
          simp; congr 1; omega
        rcases hy1 with ⟨rfl, rfl⟩ | ⟨rfl, rfl | rfl⟩
        · rw [show (((110 : UInt8).toNat : Int) == 110) = true from rfl, cnd_true, cat_ok (by simp; omega), bnd_some]
          exact fin
        · rw [show (((34 : UInt8).toNat : Int) == 110) = false from rfl, cnd_false, show (((34 : UInt8).toNat : Int) != 34) = false from rfl, cnd_false, show strOf [((34 : UInt8).toNat : Int)] = [34] from rfl, cat_ok (by simp; omega), bnd_some]
          exact fin
        · rw [show (((92 : UInt8).toNat : Int) == 110) = false from rfl, cnd_false, show (((92 : UInt8).toNat : Int) != 34) = true from rfl, cnd_true, show (((92 : UInt8).toNat : Int) != 92) = false from rfl, cnd_false, show strOf [((92 : UInt8).toNat : Int)] = [92] from rfl, cat_ok (by simp; omega), bnd_some]
          exact fin
      · have hx10 : x ≠ 10 := fun h => h3 (.inl h)
        have hx34 : x ≠ 34 := fun h => h3 (.inr (.inl h))
        have hx92 : x ≠ 92 := fun h => h3 (.inr (.inr h))
        have hy : escB x = [x] := by unfold escB; rw [if_neg hx10, if_neg (by simp [hx34, hx92])]
        rw [esc_cons, hy] at hdc
        rw [hy] at hlen
        simp only [List.length_cons, List.length_nil] at hlen
        have hdc : S.drop c = x :: (esc s ++ 34 :: r) := by rw [hdc]; simp
        have hd1 : S.drop (c + 1) = esc s ++ 34 :: r := by rw [← List.drop_drop, hdc]; rfl
        have one : strOf [(x.toNat : Int)] = [x] := str_bytes [x]
        rw [chr_drop hdc, bnd_some, show ((x.toNat : Int) == 10) = (x == 10) from byte_is x 10, beq_false_of_ne hx10, cnd_false, bnd_some, rng_nat (by omega), bnd_some, show ((x.toNat : Int) == 34) = (x == 34) from byte_is x 34, beq_false_of_ne hx34, cnd_false, show ((x.toNat : Int) == 92) = (x == 92) from byte_is x 92, beq_false_of_ne hx92, cnd_false, one, cat_ok (by simp; omega), bnd_some,
          ih (out ++ [x]) (c + 1) k (by omega) hd1 (by omega) (by simp; omega), esc_cons, hy]
        simp; congr 1; omega
  have hse := esc_ge s
  have hl2 := congrArg List.length hd
  simp only [List.length_drop, List.length_append, List.length_cons] at hl2
  have := key s [] (p + 2) fu hp1 hd (by omega) (by simp)
  rw [show (sc S (p + 2) false).At = ((p + 2 : Nat) : Int) from rfl, this, List.nil_append]
  congr 3
  simp [txt]; omega
end Go.Proofs.YtoakfflcpcdbeaaDoor
