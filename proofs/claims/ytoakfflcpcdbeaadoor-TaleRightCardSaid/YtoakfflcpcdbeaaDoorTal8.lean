/- The reference's reader: numbers, bits and texts. -/
import Derived.Test.YtoakfflcpcdbeaaDoorTal7
namespace Go.Proofs.YtoakfflcpcdbeaaDoor
open Go Go.Pw
set_option linter.unusedVariables false

def dig (c : UInt8) : Bool := decide (48 ≤ c.toNat) && decide (c.toNat ≤ 57)
theorem dig_iff (c : UInt8) : dig c = true ↔ isD c := by simp [dig, isD]
def run (S : Bs) (f : Nat) : Bs := (S.drop f).takeWhile dig
theorem run_all {S : Bs} {f : Nat} : ∀ c ∈ run S f, isD c := fun c hc => (dig_iff c).1 (List.all_eq_true.1 List.all_takeWhile c hc)
theorem run_split (S : Bs) (f : Nat) : S.drop f = run S f ++ S.drop (f + (run S f).length) := by
  have h := List.takeWhile_append_dropWhile (p := dig) (l := S.drop f)
  have e : S.drop f = run S f ++ (S.drop f).dropWhile dig := h.symm
  rw [drop_app e]; exact e
theorem run_end {S : Bs} {f : Nat} {c : UInt8} (h : (S.drop (f + (run S f).length)).head? = some c) : dig c = false := by
  have h2 := List.takeWhile_append_dropWhile (p := dig) (l := S.drop f)
  have e : S.drop f = run S f ++ (S.drop f).dropWhile dig := h2.symm
  rw [drop_app e] at h
  cases hd : dig c with
  | false => rfl
  | true =>
    have := List.head?_dropWhile_not dig (S.drop f)
    rw [h] at this
    simp [hd] at this
theorem run_le {S : Bs} {f : Nat} (hf : f ≤ S.length) : f + (run S f).length ≤ S.length := drop_le hf (run_split S f)
theorem run_of {S d r : Bs} {f : Nat} (h : S.drop f = d ++ r) (hd : ∀ c ∈ d, isD c) (hr : ∀ c, r.head? = some c → ¬ isD c) : run S f = d := by
  unfold run
  rw [h, List.takeWhile_append_of_pos (fun c hc => (dig_iff c).2 (hd c hc))]
  have : r.takeWhile dig = [] := by
    cases r with
    | nil => rfl
    | cons c r =>
      have := hr c rfl
      rw [← dig_iff] at this
      rw [List.takeWhile_cons, if_neg this]
  rw [this, List.append_nil]
theorem chr_drop {S r : Bs} {p : Nat} {c : UInt8} (h : S.drop p = c :: r) : chr S (p : Int) = some (c.toNat : Int) := by
  rw [chr_nat]
  have : S[p]? = some c := by
    have h2 : (S.drop p)[0]? = some c := by rw [h]; rfl
    simpa using h2
  rw [this]; rfl
def big : Nat := 9223372036854775808
def okN (minus : Bool) (D : Bs) : Prop := Can D ∧ val D ≤ big ∧ ¬ (minus = true ∧ val D = 0) ∧ ¬ (minus = false ∧ val D = big)
def sgn (minus : Bool) (v : Nat) : Int := if minus then -(v : Int) else (v : Int)
theorem j4_m {S : Bs} {p q : Nat} {minus : Bool} {v : Nat} (h1 : v ≤ big) (h3 : ¬ (minus = false ∧ v = big)) :
    Instarref24_number_j4 (sc S p false) minus (v : Int) (q : Int) () = some (sgn minus v, sc S q false) := by
  unfold big at h1 h3
  unfold Instarref24_number_j4 sgn
  cases minus with
  | false =>
    have : v ≠ 9223372036854775808 := fun e => h3 ⟨rfl, e⟩
    rw [cnd_false, i64_wrap ⟨by omega, by omega⟩]
    rfl
  | true =>
    rw [cnd_true]
    by_cases hv : v = 0
    · subst hv; rfl
    · rw [u64_neg (n := 0 - (v : Int)) (by omega) (by omega), i64_big (by omega) (by omega)]
      rw [show 0 - (v : Int) + 18446744073709551616 - 18446744073709551616 = -(v : Int) from by omega]
      rfl
theorem j3_m {S : Bs} {p f : Nat} {minus : Bool} (hf : f ≤ S.length) (hS : S.length ≤ 1000000) (hv : val (run S f) ≤ big) :
    (okN minus (run S f) ∧ Instarref24_number_j3 (sc S p false) minus (f : Int) ((val (run S f) : Int), ((f + (run S f).length : Nat) : Int)) = some (sgn minus (val (run S f)), sc S (f + (run S f).length) false)) ∨
    (¬ okN minus (run S f) ∧ Instarref24_number_j3 (sc S p false) minus (f : Int) ((val (run S f) : Int), ((f + (run S f).length : Nat) : Int)) = some (0, sc S (f + (run S f).length) true)) := by
  have hall := run_all (S := S) (f := f)
  have hsp := run_split S f
  have hle := run_le hf
  generalize hq : f + (run S f).length = q at *
  generalize run S f = D at *
  unfold Instarref24_number_j3
  simp only
  rw [show (sc S p false).Bad = false from rfl, cnd_false, show (sc S p false).S = S from rfl]
  cases D with
  | nil =>
    refine .inr ⟨fun h => h.1.1 rfl, ?_⟩
    have : q = f := by simp at hq; omega
    rw [this, beq_self_eq_true, cnd_true]
    rfl
  | cons d D =>
    simp only [List.length_cons] at hq
    have hc : chr S (f : Int) = some (d.toNat : Int) := chr_drop (by rw [hsp]; rfl)
    rw [show ((q : Int) == (f : Int)) = false from by rw [beq_eq_false_iff_ne]; omega, cnd_false, hc, bnd_some, show ((d.toNat : Int) == 48) = (d == 48) from byte_is d 48]
    have hj := fun h => j4_m (S := S) (p := p) (q := q) (minus := minus) hv h
    by_cases h48 : d = 48
    · subst h48
      rw [beq_self_eq_true, cnd_true, rng_nat (by omega), bnd_some]
      by_cases hD : D = []
      · subst hD
        have e0 : val [48] = 0 := rfl
        simp only [List.length_nil] at hq
        rw [show decide ((q : Int) > ((f + 1 : Nat) : Int)) = false from by rw [decide_eq_false_iff_not]; omega, cnd_false]
        cases minus with
        | true => exact .inr ⟨fun h => h.2.2.1 ⟨rfl, e0⟩, rfl⟩
        | false =>
          refine .inl ⟨⟨⟨by simp, hall, fun _ => rfl⟩, hv, by simp, by rw [e0]; simp [big]⟩, ?_⟩
          rw [cnd_false, Bool.not_false, cnd_true, show (((val [48] : Nat) : Int) == 9223372036854775808) = false from rfl, cnd_false]
          exact hj (by rw [e0]; simp [big])
      · have hp : 0 < D.length := List.length_pos_iff.2 hD
        rw [show decide ((q : Int) > ((f + 1 : Nat) : Int)) = true from by rw [decide_eq_true_eq]; omega, cnd_true]
        exact .inr ⟨fun h => by have := h.1.2.2 rfl; simp at this; exact hD this, rfl⟩
    · rw [beq_false_of_ne h48, cnd_false]
      have hcan : Can (d :: D) := ⟨by simp, hall, fun h => absurd (by simpa using h) h48⟩
      have hpos := can_pos hall (by simp) (by simpa using h48)
      cases minus with
      | true =>
        refine .inl ⟨⟨hcan, hv, by omega, by simp⟩, ?_⟩
        rw [Bool.not_true, cnd_false]
        exact hj (by simp)
      | false =>
        rw [Bool.not_false, cnd_true]
        by_cases hb : val (d :: D) = big
        · rw [hb]
          exact .inr ⟨fun h => h.2.2.2 ⟨rfl, hb⟩, rfl⟩
        · refine .inl ⟨⟨hcan, hv, by simp, by simp [hb]⟩, ?_⟩
          have : ((val (d :: D) : Int) == 9223372036854775808) = false := by
            rw [beq_eq_false_iff_ne]
            unfold big at hb
            omega
          rw [this, cnd_false]
          exact hj (by simp [hb])
theorem j2_m {fu : Nat} {S : Bs} {p f : Nat} {minus : Bool} (hf : f ≤ S.length) (hS : S.length ≤ 1000000) (hk : S.length < fu) :
    (okN minus (run S f) ∧ Instarref24_number_j2 fu (sc S p false) minus (f : Int) = some (sgn minus (val (run S f)), sc S (f + (run S f).length) false)) ∨
    (¬ okN minus (run S f) ∧ ∃ q, Instarref24_number_j2 fu (sc S p false) minus (f : Int) = some (0, sc S q true) ∧ q ≤ S.length ∧ f ≤ q) := by
  have hall := run_all (S := S) (f := f)
  have hsp := run_split S f
  have hle := run_le hf
  have hend : ∀ k, val (run S f) ≤ big → Instarref24_number_l1 (sc S p false) minus (f : Int) (k + 1) ((val (run S f) : Int), ((f + (run S f).length : Nat) : Int)) = Instarref24_number_j3 (sc S p false) minus (f : Int) ((val (run S f) : Int), ((f + (run S f).length : Nat) : Int)) := by
    intro k _
    rw [Instarref24_number_l1, show (sc S p false).Bad = false from rfl, Bool.not_false, cnd_true, show (sc S p false).S = S from rfl]
    by_cases hq : f + (run S f).length < S.length
    · rw [show decide (((f + (run S f).length : Nat) : Int) < ((S.length : Nat) : Int)) = true from by rw [decide_eq_true_eq]; omega, cnd_true]
      have hd := List.drop_eq_getElem_cons hq
      have hn := run_end (S := S) (f := f) (c := S[f + (run S f).length]) (by rw [hd]; rfl)
      rw [chr_drop hd, bnd_some]
      simp only [dig, Bool.and_eq_false_iff, decide_eq_false_iff_not] at hn
      by_cases h1 : 48 ≤ (S[f + (run S f).length]).toNat
      · rw [show decide (((S[f + (run S f).length]).toNat : Int) ≥ 48) = true from by rw [decide_eq_true_eq]; omega, cnd_true, bnd_some, show decide (((S[f + (run S f).length]).toNat : Int) ≤ 57) = false from by rw [decide_eq_false_iff_not]; omega, cnd_false]
      · rw [show decide (((S[f + (run S f).length]).toNat : Int) ≥ 48) = false from by rw [decide_eq_false_iff_not]; omega, cnd_false]
    · rw [show decide (((f + (run S f).length : Nat) : Int) < ((S.length : Nat) : Int)) = false from by rw [decide_eq_false_iff_not]; omega, cnd_false]
  have h3 := j3_m (p := p) (minus := minus) hf hS
  have hch : ∀ i, (h : i < (run S f).length) → chr S ((f + i : Nat) : Int) = some (((run S f)[i]).toNat : Int) := by
    intro i h
    have : S.drop (f + i) = (run S f)[i] :: ((run S f).drop (i + 1) ++ S.drop (f + (run S f).length)) := by
      rw [← List.drop_drop, hsp, List.drop_append_of_le_length (by omega), List.drop_eq_getElem_cons h]
      rfl
    exact chr_drop this
  generalize hD : run S f = D at *
  have key := up (L := Instarref24_number_l1 (sc S p false) minus (f : Int)) (fun i x => x = ((val (D.take i) : Int), ((f + i : Nat) : Int)) ∧ val (D.take i) ≤ big)
    (fun r => (val D ≤ big ∧ r = Instarref24_number_j3 (sc S p false) minus (f : Int) ((val D : Int), ((f + D.length : Nat) : Int))) ∨ (big < val D ∧ ∃ q, r = some (0, sc S q true) ∧ q ≤ S.length ∧ f ≤ q)) D.length ?_ ?_ (i := 0) (x := (0, (f : Int))) (k := fu) ⟨rfl, by simp [val]⟩ (Nat.zero_le _) (by omega)
  · have key : (val D ≤ big ∧ Instarref24_number_j2 fu (sc S p false) minus (f : Int) = Instarref24_number_j3 (sc S p false) minus (f : Int) ((val D : Int), ((f + D.length : Nat) : Int))) ∨ (big < val D ∧ ∃ q, Instarref24_number_j2 fu (sc S p false) minus (f : Int) = some (0, sc S q true) ∧ q ≤ S.length ∧ f ≤ q) := key
    rcases key with ⟨h1, e⟩ | ⟨h1, e⟩
    · rw [e]
      rcases h3 h1 with ⟨h4, e4⟩ | ⟨h4, e4⟩
      · exact .inl ⟨h4, e4⟩
      · exact .inr ⟨h4, _, e4, hle, by omega⟩
    · exact .inr ⟨fun h => by have := h.2.1; omega, e⟩
  · rintro i x hi ⟨rfl, hv⟩
    have hc := hch i hi
    have hd := hall _ (List.getElem_mem hi)
    have hs : val (D.take (i + 1)) = val (D.take i) * 10 + ((D[i]).toNat - 48) := by rw [List.take_succ_eq_append_getElem hi, val_snoc]
    have hm := val_take D (i + 1) hall
    have hm2 : val (D.take (i + 1)) ≤ val D := Nat.le_trans (Nat.le_mul_of_pos_right _ (Nat.pow_pos (by omega))) hm
    unfold isD at hd
    have e0 : ∀ k, Instarref24_number_l1 (sc S p false) minus (f : Int) (k + 1) ((val (D.take i) : Int), ((f + i : Nat) : Int)) =
        cnd (decide (((val (D.take i) : Nat) : Int) > 922337203685477580)) (some (0, sc S (f + i) true)) (cnd (decide (IntKind.u64.wrap (((val (D.take i) : Nat) : Int) * 10) > IntKind.u64.wrap (9223372036854775808 - IntKind.u64.wrap (((D[i]).toNat - 48 : Nat) : Int)))) (some (0, sc S (f + i) true))
          (Instarref24_number_l1 (sc S p false) minus (f : Int) k (IntKind.u64.wrap (IntKind.u64.wrap (((val (D.take i) : Nat) : Int) * 10) + IntKind.u64.wrap (((D[i]).toNat - 48 : Nat) : Int)), ((f + (i + 1) : Nat) : Int)))) := fun k => by
      rw [Instarref24_number_l1, show (sc S p false).Bad = false from rfl, Bool.not_false, cnd_true, show (sc S p false).S = S from rfl, show decide (((f + i : Nat) : Int) < ((S.length : Nat) : Int)) = true from by rw [decide_eq_true_eq]; omega, cnd_true, hc]
      simp only [bnd_some]
      rw [show decide (((D[i]).toNat : Int) ≥ 48) = true from by rw [decide_eq_true_eq]; omega, cnd_true, show decide (((D[i]).toNat : Int) ≤ 57) = true from by rw [decide_eq_true_eq]; omega, cnd_true,
        show ((D[i]).toNat : Int) - 48 = (((D[i]).toNat - 48 : Nat) : Int) from by omega, rng_ok (k := .u8) ⟨by show (0 : Int) ≤ _; omega, by show _ ≤ (255 : Int); omega⟩, bnd_some, rng_nat (by omega)]
      rfl
    unfold big at hv ⊢
    by_cases h1 : val (D.take i) > 922337203685477580
    · refine .inl ⟨_, .inr ⟨by omega, f + i, rfl, by omega, by omega⟩, fun k => ?_⟩
      rw [e0, show decide (((val (D.take i) : Nat) : Int) > 922337203685477580) = true from by rw [decide_eq_true_eq]; omega, cnd_true]
    · have w1 : IntKind.u64.wrap (((val (D.take i) : Nat) : Int) * 10) = ((val (D.take i) * 10 : Nat) : Int) := by rw [u64_wrap (by omega) (by omega)]; omega
      have w2 : IntKind.u64.wrap (((D[i]).toNat - 48 : Nat) : Int) = (((D[i]).toNat - 48 : Nat) : Int) := u64_wrap (by omega) (by omega)
      have w3 : IntKind.u64.wrap (9223372036854775808 - (((D[i]).toNat - 48 : Nat) : Int)) = ((9223372036854775808 - ((D[i]).toNat - 48) : Nat) : Int) := by rw [u64_wrap (by omega) (by omega)]; omega
      have w4 : IntKind.u64.wrap (((val (D.take i) * 10 : Nat) : Int) + (((D[i]).toNat - 48 : Nat) : Int)) = ((val (D.take (i + 1)) : Nat) : Int) := by rw [u64_wrap (by omega) (by omega)]; omega
      have e1 : ∀ k, Instarref24_number_l1 (sc S p false) minus (f : Int) (k + 1) ((val (D.take i) : Int), ((f + i : Nat) : Int)) =
          cnd (decide (((val (D.take i) * 10 : Nat) : Int) > ((9223372036854775808 - ((D[i]).toNat - 48) : Nat) : Int))) (some (0, sc S (f + i) true)) (Instarref24_number_l1 (sc S p false) minus (f : Int) k (((val (D.take (i + 1)) : Nat) : Int), ((f + (i + 1) : Nat) : Int))) := fun k => by
        rw [e0, show decide (((val (D.take i) : Nat) : Int) > 922337203685477580) = false from by rw [decide_eq_false_iff_not]; omega, cnd_false, w1, w2, w3, w4]
      by_cases h2 : val (D.take (i + 1)) > 9223372036854775808
      · refine .inl ⟨_, .inr ⟨by omega, f + i, rfl, by omega, by omega⟩, fun k => ?_⟩
        rw [e1, show decide (((val (D.take i) * 10 : Nat) : Int) > ((9223372036854775808 - ((D[i]).toNat - 48) : Nat) : Int)) = true from by rw [decide_eq_true_eq]; omega, cnd_true]
      · refine .inr ⟨_, ⟨rfl, by omega⟩, fun k => ?_⟩
        rw [e1, show decide (((val (D.take i) * 10 : Nat) : Int) > ((9223372036854775808 - ((D[i]).toNat - 48) : Nat) : Int)) = false from by rw [decide_eq_false_iff_not]; omega, cnd_false]
  · rintro x ⟨rfl, hv⟩
    rw [List.take_length] at hv ⊢
    exact ⟨_, .inl ⟨hv, rfl⟩, fun k => hend k hv⟩
end Go.Proofs.YtoakfflcpcdbeaaDoor
