/- The reference's reader of a whole text; the law TaleRight. -/
import Derived.Test.YtoakfflcpcdbeaaDoorTal9
namespace Go.Proofs.YtoakfflcpcdbeaaDoor
open Go Go.Pw
set_option linter.unusedVariables false

theorem Took.le {S t : Bs} {p q : Nat} {b : Bool} (h : Took S p b q t) : q = p + t.length := h.len
def restS (m : Mark) : Bs := if eqMark m (bareM m) then [] else tl (callF m)
theorem oneS_rest (m : Mark) : oneS m = wordS m.Kind ++ (tl (numsF m) ++ restS m) := by
  unfold oneS fieldsM restS
  split
  · simp
  · rw [tl_app]
theorem nod {c : UInt8} (h : c = 32 ∨ c = 10) : ¬ isD c := by
  rcases h with rfl | rfl <;> · unfold isD; decide
theorem nod_tl {l : List Bs} {r : Bs} : ∀ c, (tl l ++ 10 :: r).head? = some c → ¬ isD c := by
  intro c h
  cases l with
  | nil => exact nod (.inr (by simpa [tl_nil] using h.symm))
  | cons f l => exact nod (.inl (by simpa [tl_cons] using h.symm))
theorem nod_rest {m : Mark} {r : Bs} : ∀ c, (restS m ++ 10 :: r).head? = some c → ¬ isD c := by
  unfold restS
  split
  · exact nod_tl (l := [])
  · exact nod_tl

/-! ## Behind the four numbers -/
theorem j1_any {fu : Nat} {S : Bs} {k : Int} {x1 x2 x3 x4 : Int × Instarref24_Scan} {p : Nat} {b c : Bool} (hp : p ≤ S.length) (hS : S.length ≤ 1000000) (hk : S.length < fu) (h4 : x4.2 = sc S p b)
    (g1 : inI x1.1) (g2 : inI x2.1) (g3 : inI x3.1) (g4 : inI x4.1) :
    ∃ m q b', Instarref24_mark_j1 fu k x1 x2 x3 x4 c = some (m, sc S q b') ∧ q ≤ S.length ∧ p ≤ q ∧ WM m S.length ∧ m.Kind = k ∧ m.Depth = x1.1 ∧ m.Node = x2.1 ∧ m.What = x3.1 ∧ m.Err = x4.1 ∧
      (b' = false → c = false ∧ S.drop p = restS m ++ 10 :: S.drop q ∧ p < q) := by
  unfold Instarref24_mark_j1
  rw [h4, show (⟨(sc S p b).S, (sc S p b).At, c⟩ : Instarref24_Scan) = sc S p c from rfl]
  obtain ⟨q1, b1, e1, q1l, q1p, t1⟩ := need_any (fu := fu) (t := [10]) (b := c) hp hS (by simp)
  rw [e1, bnd_some]
  cases b1 with
  | false =>
    obtain ⟨y1, y2, y3⟩ := t1 rfl
    refine ⟨⟨k, x1.1, x2.1, x3.1, x4.1, [], false, false, [], [], 0, 0, false⟩, q1, false, rfl, q1l, q1p, ⟨g1, g2, g3, g4, by unfold inI; simp, by unfold inI; simp, by simp, by simp, by simp⟩, rfl, rfl, rfl, rfl, rfl, fun _ => ⟨y1, ?_, by simp at y3; omega⟩⟩
    rw [y2, restS, if_pos (by rw [eqMark_iff]; rfl)]
    rfl
  | true =>
    rw [show (sc S q1 true).Bad = true from rfl, Bool.not_true, cnd_false]
    obtain ⟨v2, p2, b2, e2, l2, m2, w2, t2⟩ := rtext_any (fu := fu) (b := c) hp hS hk
    obtain ⟨v3, p3, b3, e3, l3, m3, t3⟩ := bit_any (fu := fu) (b := b2) l2 hS
    obtain ⟨v4, p4, b4, e4, l4, m4, t4⟩ := bit_any (fu := fu) (b := b3) l3 hS
    obtain ⟨v5, p5, b5, e5, l5, m5, w5, t5⟩ := rtext_any (fu := fu) (b := b4) l4 hS hk
    obtain ⟨v6, p6, b6, e6, l6, m6, w6, t6⟩ := rtext_any (fu := fu) (b := b5) l5 hS hk
    obtain ⟨v7, p7, b7, e7, l7, m7, w7, t7⟩ := number_any (fu := fu) (b := b6) l6 hS hk
    obtain ⟨v8, p8, b8, e8, l8, m8, w8, t8⟩ := number_any (fu := fu) (b := b7) l7 hS hk
    obtain ⟨v9, p9, b9, e9, l9, m9, t9⟩ := bit_any (fu := fu) (b := b8) l8 hS
    obtain ⟨p10, b10, e10, l10, m10, t10⟩ := need_any (fu := fu) (t := [10]) (b := b9) l9 hS (by simp)
    rw [e2, bnd_some]
    simp only
    rw [e3, bnd_some]
    simp only
    rw [e4, bnd_some]
    simp only
    rw [e5, bnd_some]
    simp only
    rw [e6, bnd_some]
    simp only
    rw [e7, bnd_some]
    simp only
    rw [e8, bnd_some]
    simp only
    rw [e9, bnd_some]
    simp only
    generalize hm : (⟨k, x1.1, x2.1, x3.1, x4.1, v2, v3, v4, v5, v6, v7, v8, v9⟩ : Mark) = m
    have hw : WM m S.length := by subst hm; exact ⟨g1, g2, g3, g4, w7, w8, w2, w5, w6⟩
    have hb : (⟨k, x1.1, x2.1, x3.1, x4.1, [], false, false, [], [], 0, 0, false⟩ : Mark) = bareM m := by subst hm; rfl
    have hc : callF m = [txt v2, bit v3, bit v4, txt v5, txt v6, Lib.itoa v7, Lib.itoa v8, bit v9] := by subst hm; rfl
    have hf : m.Kind = k ∧ m.Depth = x1.1 ∧ m.Node = x2.1 ∧ m.What = x3.1 ∧ m.Err = x4.1 := by subst hm; exact ⟨rfl, rfl, rfl, rfl, rfl⟩
    rw [hb]
    cases he : eqMark m (bareM m) with
    | true =>
      refine ⟨m, p9, true, ?_, l9, by omega, hw, hf.1, hf.2.1, hf.2.2.1, hf.2.2.2.1, hf.2.2.2.2, fun h => by cases h⟩
      rw [cnd_true]
      rfl
    | false =>
      refine ⟨m, p10, b10, ?_, l10, by omega, hw, hf.1, hf.2.1, hf.2.2.1, hf.2.2.2.1, hf.2.2.2.2, fun h => ?_⟩
      · rw [cnd_false, e10, bnd_some]
      · have u10 := t10 h
        have u9 := t9 u10.good
        have u8 := t8 u9.good
        have u7 := t7 u8.good
        have u6 := t6 u7.good
        have u5 := t5 u6.good
        have u4 := t4 u5.good
        have u3 := t3 u4.good
        have u2 := t2 u3.good
        refine ⟨u2.good, ?_, by have := u10.len; simp at this; omega⟩
        rw [restS, he, if_neg (by simp), hc, u2.text, u3.text, u4.text, u5.text, u6.text, u7.text, u8.text, u9.text, u10.text]
        simp [tl_cons, tl_nil]
theorem j1_back {fu : Nat} {S r : Bs} {m : Mark} {x1 x2 x3 x4 : Int × Instarref24_Scan} {p : Nat} {b : Bool} (hp : p ≤ S.length) (hS : S.length ≤ 1000000) (hk : S.length < fu) (h4 : x4.2 = sc S p b) (hm : NumM m)
    (g1 : x1.1 = m.Depth) (g2 : x2.1 = m.Node) (g3 : x3.1 = m.What) (g4 : x4.1 = m.Err) (h : S.drop p = restS m ++ 10 :: r) :
    Instarref24_mark_j1 fu m.Kind x1 x2 x3 x4 false = some (m, sc S (p + (restS m).length + 1) false) := by
  unfold Instarref24_mark_j1
  rw [h4, show (⟨(sc S p b).S, (sc S p b).At, false⟩ : Instarref24_Scan) = sc S p false from rfl, g1, g2, g3, g4]
  unfold restS at h ⊢
  rw [show (⟨m.Kind, m.Depth, m.Node, m.What, m.Err, [], false, false, [], [], 0, 0, false⟩ : Mark) = bareM m from rfl]
  cases he : eqMark m (bareM m) with
  | true =>
    rw [he, if_pos rfl] at h
    have h' : S.drop p = [10] ++ r := h
    rw [need_yes hp hS (by simp) h', bnd_some, ← (eqMark_iff _ _).1 he, if_pos rfl]
    rfl
  | false =>
    rw [he, if_neg (by simp)] at h
    have hc : tl (callF m) ++ 10 :: r = 32 :: (txt m.Name ++ (32 :: (bit m.Had ++ (32 :: (bit m.Has ++ (32 :: (txt m.Old ++ (32 :: (txt m.New ++ (32 :: (Lib.itoa m.From ++ (32 :: (Lib.itoa m.To ++ (32 :: (bit m.On ++ (10 :: r)))))))))))))))) := by simp [callF, tl_cons, tl_nil]
    have hn : ∀ x, S.drop p ≠ [10] ++ x := fun x hx => by rw [h, hc] at hx; simp at hx
    rw [need_no hp hS (by simp) hn, bnd_some, show (sc S p true).Bad = true from rfl, Bool.not_true, cnd_false]
    rw [hc] at h
    have c1 : S.drop p = (32 :: txt m.Name) ++ _ := h
    have d1 := drop_app c1
    have k1 := drop_le hp c1
    have c2 : S.drop _ = (32 :: bit m.Had) ++ _ := d1
    have d2 := drop_app c2
    have k2 := drop_le k1 c2
    have c3 : S.drop _ = (32 :: bit m.Has) ++ _ := d2
    have d3 := drop_app c3
    have k3 := drop_le k2 c3
    have c4 : S.drop _ = (32 :: txt m.Old) ++ _ := d3
    have d4 := drop_app c4
    have k4 := drop_le k3 c4
    have c5 : S.drop _ = (32 :: txt m.New) ++ _ := d4
    have d5 := drop_app c5
    have k5 := drop_le k4 c5
    have c6 : S.drop _ = (32 :: Lib.itoa m.From) ++ _ := d5
    have d6 := drop_app c6
    have k6 := drop_le k5 c6
    have c7 : S.drop _ = (32 :: Lib.itoa m.To) ++ _ := d6
    have d7 := drop_app c7
    have k7 := drop_le k6 c7
    have c8 : S.drop _ = (32 :: bit m.On) ++ _ := d7
    have d8 := drop_app c8
    have k8 := drop_le k7 c8
    have len : ∀ t : Bs, 1 + t.length = (32 :: t).length := fun t => by simp; omega
    have e1 := rtext_back (fu := fu) hp hS hk c1
    rw [len] at e1
    have e2 := bit_back (fu := fu) k1 hS c2
    rw [len] at e2
    have e3 := bit_back (fu := fu) k2 hS c3
    rw [len] at e3
    have e4 := rtext_back (fu := fu) k3 hS hk c4
    rw [len] at e4
    have e5 := rtext_back (fu := fu) k4 hS hk c5
    rw [len] at e5
    have e6 := number_back (fu := fu) k5 hS hk hm.from_ c6 (fun c hc => nod (.inl (by simpa using hc.symm)))
    rw [len] at e6
    have e7 := number_back (fu := fu) k6 hS hk hm.to_ c7 (fun c hc => nod (.inl (by simpa using hc.symm)))
    rw [len] at e7
    have e8 := bit_back (fu := fu) k7 hS c8
    rw [len] at e8
    have h9 : S.drop _ = [10] ++ r := d8
    have e9 := need_yes (fu := fu) k8 hS (by simp) h9
    rw [e1, bnd_some]
    simp only
    rw [e2, bnd_some]
    simp only
    rw [e3, bnd_some]
    simp only
    rw [e4, bnd_some]
    simp only
    rw [e5, bnd_some]
    simp only
    rw [e6, bnd_some]
    simp only
    rw [e7, bnd_some]
    simp only
    rw [e8, bnd_some]
    simp only
    rw [show (⟨m.Kind, m.Depth, m.Node, m.What, m.Err, m.Name, m.Had, m.Has, m.Old, m.New, m.From, m.To, m.On⟩ : Mark) = m from rfl, he, cnd_false, e9, bnd_some, if_neg (by simp)]
    congr 3
    simp [callF, tl_cons, tl_nil]
    omega

/-! ## A mark -/
def mt (S : Bs) (p : Nat) (j : Int) : Prop := ∃ r, S.drop p = wordS j ++ 32 :: r
def mcont (fu : Nat) (S : Bs) (p : Nat) (c3 : Int) : Option (Mark × Instarref24_Scan) := bnd (Instarref24_Word_m fu c3) fun r9 => bnd (Instarref24_need_m fu (sc S p false) r9) fun r10 => bnd (Instarref24_number_m fu r10) fun r11 => bnd (Instarref24_number_m fu r11.2) fun r12 => bnd (Instarref24_number_m fu r12.2) fun r13 => bnd (Instarref24_number_m fu r13.2) fun r14 => cnd (c3 == 0) ((Instarref24_mark_j1 fu c3 r11 r12 r13 r14) true) ((Instarref24_mark_j1 fu c3 r11 r12 r13 r14) r14.2.Bad)
theorem mark_l {fu : Nat} {S : Bs} {p : Nat} (hp : p ≤ S.length) (hS : S.length ≤ 1000000) (hf : 12 < fu) :
    ∃ c3, Instarref24_mark_m fu (sc S p false) = mcont fu S p c3 ∧ ((c3 = 0 ∧ ∀ j : Int, 1 ≤ j → j ≤ 10 → ¬ mt S p j) ∨ (1 ≤ c3 ∧ c3 ≤ 10 ∧ mt S p c3)) := by
  unfold Instarref24_mark_m
  have key := up (L := Instarref24_mark_l1 fu (sc S p false)) (fun i x => ∃ c3, x = (((i + 1 : Nat) : Int), c3) ∧ ((c3 = 0 ∧ ∀ j : Int, 1 ≤ j → j ≤ i → ¬ mt S p j) ∨ (1 ≤ c3 ∧ c3 ≤ 10 ∧ mt S p c3)))
    (fun r => ∃ c3, r = mcont fu S p c3 ∧ ((c3 = 0 ∧ ∀ j : Int, 1 ≤ j → j ≤ 10 → ¬ mt S p j) ∨ (1 ≤ c3 ∧ c3 ≤ 10 ∧ mt S p c3))) 10 ?_ ?_ (i := 0) (x := (1, 0)) (k := fu) ⟨0, rfl, .inl ⟨rfl, fun j h1 h2 => by omega⟩⟩ (Nat.zero_le _) (by omega)
  · exact key
  · rintro i x hi ⟨c3, rfl, hP⟩
    have hw := wordS_len ((i + 1 : Nat) : Int)
    have e0 : ∀ k, Instarref24_mark_l1 fu (sc S p false) (k + 1) (((i + 1 : Nat) : Int), c3) = bnd (Instarref24_need_m fu (sc S p false) (wordS ((i + 1 : Nat) : Int) ++ [32])) fun r6 => cnd (!r6.Bad) (Instarref24_mark_l1 fu (sc S p false) k (((i + 1 + 1 : Nat) : Int), ((i + 1 : Nat) : Int))) (Instarref24_mark_l1 fu (sc S p false) k (((i + 1 + 1 : Nat) : Int), c3)) := fun k => by
      rw [Instarref24_mark_l1, show decide (((i + 1 : Nat) : Int) ≤ 10) = true from by rw [decide_eq_true_eq]; omega, cnd_true, word_m (by omega) (by omega), bnd_some, cat_ok (by rw [List.length_singleton]; omega), bnd_some, rng_nat (by omega)]
      rfl
    by_cases hm : mt S p ((i + 1 : Nat) : Int)
    · obtain ⟨r, hr⟩ := hm
      refine .inr ⟨_, ⟨((i + 1 : Nat) : Int), rfl, .inr ⟨by omega, by omega, r, hr⟩⟩, fun k => ?_⟩
      rw [e0, need_yes hp hS (by rw [List.length_append, List.length_singleton]; omega) (r := r) (by rw [hr]; simp), bnd_some]
      rfl
    · refine .inr ⟨_, ⟨c3, rfl, ?_⟩, fun k => ?_⟩
      · rcases hP with ⟨h1, h2⟩ | h
        · refine .inl ⟨h1, fun j j1 j2 => ?_⟩
          by_cases hj : j = ((i + 1 : Nat) : Int)
          · rw [hj]; exact hm
          · exact h2 j j1 (by omega)
        · exact .inr h
      · rw [e0, need_no hp hS (by rw [List.length_append, List.length_singleton]; omega) (fun r hr => hm ⟨r, by rw [hr]; simp⟩), bnd_some]
        rfl
  · rintro x ⟨c3, rfl, hP⟩
    exact ⟨_, ⟨c3, rfl, hP⟩, fun k => rfl⟩
theorem mark_any {fu : Nat} {S : Bs} {p : Nat} (hp : p ≤ S.length) (hS : S.length ≤ 1000000) (hk : S.length + 20 < fu) :
    ∃ m q b', Instarref24_mark_m fu (sc S p false) = some (m, sc S q b') ∧ q ≤ S.length ∧ WM m S.length ∧ (b' = false → validM m ∧ S.drop p = lineS m ++ S.drop q ∧ p < q) := by
  obtain ⟨c3, e, hP⟩ := mark_l (fu := fu) hp hS (by omega)
  rw [e]
  have hw : ∃ w, Instarref24_Word_m fu c3 = some w ∧ w.length ≤ 6 ∧ (1 ≤ c3 → w = wordS c3) := by
    rcases hP with ⟨rfl, _⟩ | ⟨h1, h2, _⟩
    · exact ⟨[], rfl, by simp, by simp⟩
    · exact ⟨_, word_m h1 h2, wordS_len _, fun _ => rfl⟩
  obtain ⟨w, ew, wl, wk⟩ := hw
  obtain ⟨p0, b0, e0, l0, m0, t0⟩ := need_any (fu := fu) (t := w) (b := false) hp hS (by omega)
  obtain ⟨v1, p1, b1, e1, l1, m1, w1, t1⟩ := number_any (fu := fu) (b := b0) l0 hS (by omega)
  obtain ⟨v2, p2, b2, e2, l2, m2, w2, t2⟩ := number_any (fu := fu) (b := b1) l1 hS (by omega)
  obtain ⟨v3, p3, b3, e3, l3, m3, w3, t3⟩ := number_any (fu := fu) (b := b2) l2 hS (by omega)
  obtain ⟨v4, p4, b4, e4, l4, m4, w4, t4⟩ := number_any (fu := fu) (b := b3) l3 hS (by omega)
  unfold mcont
  rw [ew, bnd_some, e0, bnd_some, e1, bnd_some]
  simp only
  rw [e2, bnd_some]
  simp only
  rw [e3, bnd_some]
  simp only
  rw [e4, bnd_some]
  simp only
  have hj : ∀ c, ∃ m q b', Instarref24_mark_j1 fu c3 (v1, sc S p1 b1) (v2, sc S p2 b2) (v3, sc S p3 b3) (v4, sc S p4 b4) c = some (m, sc S q b') ∧ q ≤ S.length ∧ p4 ≤ q ∧ WM m S.length ∧ m.Kind = c3 ∧ m.Depth = v1 ∧ m.Node = v2 ∧ m.What = v3 ∧ m.Err = v4 ∧
      (b' = false → c = false ∧ S.drop p4 = restS m ++ 10 :: S.drop q ∧ p4 < q) := fun c => j1_any l4 hS (by omega) rfl w1 w2 w3 w4
  rcases hP with ⟨h0, _⟩ | ⟨h1, h2, _⟩
  · obtain ⟨m, q, b', ej, hq, _, hw, _, _, _, _, _, hb⟩ := hj true
    refine ⟨m, q, b', ?_, hq, hw, fun h => by have := (hb h).1; cases this⟩
    rw [show (c3 == 0) = true from by rw [h0]; rfl, cnd_true, ej]
  · obtain ⟨m, q, b', ej, hq, hpq, hw, f1, f2, f3, f4, f5, hb⟩ := hj b4
    refine ⟨m, q, b', ?_, hq, hw, fun h => ?_⟩
    · rw [show (c3 == 0) = false from by rw [beq_eq_false_iff_ne]; omega, cnd_false]
      exact ej
    · obtain ⟨y1, y2, y3⟩ := hb h
      have u4 := t4 y1
      have u3 := t3 u4.good
      have u2 := t2 u3.good
      have u1 := t1 u2.good
      have u0 := t0 u1.good
      refine ⟨⟨by rw [f1]; exact h1, by rw [f1]; exact h2⟩, ?_, by omega⟩
      rw [u0.text, u1.text, u2.text, u3.text, u4.text, y2, lineS, oneS_rest, f1, ← wk h1]
      simp [numsF, tl_cons, tl_nil, f2, f3, f4, f5]
theorem split_uniq {w w' r r' : Bs} {c : UInt8} (h1 : c ∉ w) (h2 : c ∉ w') (h : w ++ c :: r = w' ++ c :: r') : w = w' := by
  have e1 := index_at (r := r) h1
  rw [h, index_at (r := r') h2] at e1
  exact (List.append_inj h (by omega)).1
theorem wordS_inj {i j : Int} (i1 : 1 ≤ i) (i2 : i ≤ 10) (j1 : 1 ≤ j) (j2 : j ≤ 10) (h : wordS i = wordS j) : i = j := by
  have h1 := index_word (fu := 12) (by omega) i1 i2
  rw [h, index_word (by omega) j1 j2] at h1
  cases h1; rfl
theorem mark_back {fu : Nat} {S r : Bs} {p : Nat} {m : Mark} (hp : p ≤ S.length) (hS : S.length ≤ 1000000) (hk : S.length + 20 < fu) (hm : NumM m) (hv : validM m) (h : S.drop p = lineS m ++ r) :
    Instarref24_mark_m fu (sc S p false) = some (m, sc S (p + (lineS m).length) false) := by
  obtain ⟨c3, e, hP⟩ := mark_l (fu := fu) hp hS (by omega)
  have hl : lineS m ++ r = wordS m.Kind ++ (32 :: (Lib.itoa m.Depth ++ (32 :: (Lib.itoa m.Node ++ (32 :: (Lib.itoa m.What ++ (32 :: (Lib.itoa m.Err ++ (restS m ++ 10 :: r))))))))) := by
    rw [lineS, oneS_rest]; simp [numsF, tl_cons, tl_nil]
  rw [hl] at h
  have hc3 : c3 = m.Kind := by
    rcases hP with ⟨_, h2⟩ | ⟨h1, h2, r', hr⟩
    · exact absurd ⟨_, h⟩ (h2 m.Kind hv.1 hv.2)
    · rw [h] at hr
      exact (wordS_inj hv.1 hv.2 h1 h2 (split_uniq (wordS_no (.inl rfl)) (wordS_no (.inl rfl)) hr)).symm
  rw [e, hc3]
  have c0 : S.drop p = wordS m.Kind ++ _ := h
  have d0 := drop_app c0
  have k0 := drop_le hp c0
  have c1 : S.drop _ = (32 :: Lib.itoa m.Depth) ++ _ := d0
  have d1 := drop_app c1
  have k1 := drop_le k0 c1
  have c2 : S.drop _ = (32 :: Lib.itoa m.Node) ++ _ := d1
  have d2 := drop_app c2
  have k2 := drop_le k1 c2
  have c3 : S.drop _ = (32 :: Lib.itoa m.What) ++ _ := d2
  have d3 := drop_app c3
  have k3 := drop_le k2 c3
  have c4 : S.drop _ = (32 :: Lib.itoa m.Err) ++ _ := d3
  have d4 := drop_app c4
  have k4 := drop_le k3 c4
  have len : ∀ t : Bs, 1 + t.length = (32 :: t).length := fun t => by simp; omega
  have b32 : ∀ (x : Bs) (c : UInt8), (32 :: x).head? = some c → ¬ isD c := fun x c hc => nod (.inl (by simpa using hc.symm))
  have e0 := need_yes (fu := fu) hp hS (by have := wordS_len m.Kind; omega) c0
  have e1 := number_back (fu := fu) k0 hS (by omega) hm.depth c1 (b32 _)
  have e2 := number_back (fu := fu) k1 hS (by omega) hm.node c2 (b32 _)
  have e3 := number_back (fu := fu) k2 hS (by omega) hm.what c3 (b32 _)
  have e4 := number_back (fu := fu) k3 hS (by omega) hm.err c4 nod_rest
  rw [len] at e1 e2 e3 e4
  unfold mcont
  rw [word_m hv.1 hv.2, bnd_some, e0, bnd_some, e1, bnd_some]
  simp only
  rw [e2, bnd_some]
  simp only
  rw [e3, bnd_some]
  simp only
  rw [e4, bnd_some]
  simp only
  rw [show (m.Kind == 0) = false from by rw [beq_eq_false_iff_ne]; have := hv.1; omega, cnd_false, show ∀ q, (sc S q false).Bad = false from fun _ => rfl, j1_back k4 hS (by omega) rfl hm rfl rfl rfl rfl d4]
  congr 3
  rw [lineS, oneS_rest]
  simp [numsF, tl_cons, tl_nil]
  omega

/-! ## A whole text -/
theorem rread_any {fu : Nat} {S : Bs} (hS : S.length ≤ 100000) (hk : S.length + 20 < fu) : ∀ (d p : Nat) (acc : List Mark) (k : Nat), p ≤ S.length → S.length - p ≤ d → d < k → acc.length ≤ p →
    (∃ ms, Instarref24_Read_l1 fu S k (acc, S, (p : Int), false) = some (acc ++ ms, true) ∧ S.drop p = putS ms ∧ ∀ m ∈ ms, okM S.length m) ∨ Instarref24_Read_l1 fu S k (acc, S, (p : Int), false) = some ([], false) := by
  intro d
  induction d with
  | zero =>
    intro p acc k hp hd hk2 _
    obtain ⟨k, rfl⟩ : ∃ j, k = j + 1 := ⟨k - 1, by omega⟩
    refine .inl ⟨[], ?_, by rw [List.drop_of_length_le (by omega)]; rfl, by simp⟩
    rw [Instarref24_Read_l1, show decide ((p : Int) < ((S.length : Nat) : Int)) = false from by rw [decide_eq_false_iff_not]; omega, cnd_false, List.append_nil]
  | succ d ih =>
    intro p acc k hp hd hk2 ha
    obtain ⟨k, rfl⟩ : ∃ j, k = j + 1 := ⟨k - 1, by omega⟩
    rw [Instarref24_Read_l1]
    by_cases hpe : p = S.length
    · refine .inl ⟨[], ?_, by rw [List.drop_of_length_le (by omega)]; rfl, by simp⟩
      rw [show decide ((p : Int) < ((S.length : Nat) : Int)) = false from by rw [decide_eq_false_iff_not]; omega, cnd_false, List.append_nil]
    · rw [show decide ((p : Int) < ((S.length : Nat) : Int)) = true from by rw [decide_eq_true_eq]; omega, cnd_true]
      obtain ⟨m, q, b', e, hq, hw, hb⟩ := mark_any (fu := fu) hp (by omega) hk
      rw [show (⟨S, (p : Int), false⟩ : Instarref24_Scan) = sc S p false from rfl, e, bnd_some]
      cases b' with
      | true => exact .inr rfl
      | false =>
        obtain ⟨hv, ht, hpq⟩ := hb rfl
        rw [show (m, sc S q false).2.Bad = false from rfl, cnd_false, roomy_ok (by simp; omega), bnd_some]
        rcases ih q (acc ++ [m]) k hq (by omega) (by omega) (by simp; omega) with ⟨ms, e2, h2, h3⟩ | e2
        · refine .inl ⟨m :: ms, ?_, by rw [ht, h2, putS_cons], fun x hx => ?_⟩
          · show Instarref24_Read_l1 fu S k (acc ++ [m], S, (q : Int), false) = _
            rw [e2]; simp
          · rcases List.mem_cons.1 hx with rfl | hx
            · exact ⟨hw, hv⟩
            · exact h3 x hx
        · exact .inr e2
theorem rread_back {fu : Nat} {S : Bs} (hS : S.length ≤ 100000) (hk : S.length + 20 < fu) : ∀ (ms : List Mark) (p : Nat) (acc : List Mark) (k : Nat), p ≤ S.length → S.drop p = putS ms → ms.length < k → acc.length ≤ p → (∀ m ∈ ms, NumM m ∧ validM m) →
    Instarref24_Read_l1 fu S k (acc, S, (p : Int), false) = some (acc ++ ms, true) := by
  intro ms
  induction ms with
  | nil =>
    intro p acc k hp h hk2 _ _
    obtain ⟨k, rfl⟩ : ∃ j, k = j + 1 := ⟨k - 1, by omega⟩
    have := congrArg List.length h
    simp [putS_nil] at this
    rw [Instarref24_Read_l1, show decide ((p : Int) < ((S.length : Nat) : Int)) = false from by rw [decide_eq_false_iff_not]; omega, cnd_false, List.append_nil]
  | cons m ms ih =>
    intro p acc k hp h hk2 ha hm
    obtain ⟨k, rfl⟩ : ∃ j, k = j + 1 := ⟨k - 1, by omega⟩
    rw [putS_cons] at h
    have hl := drop_le hp h
    have hpos : 0 < (lineS m).length := by simp [lineS]
    rw [Instarref24_Read_l1, show decide ((p : Int) < ((S.length : Nat) : Int)) = true from by rw [decide_eq_true_eq]; omega, cnd_true, show (⟨S, (p : Int), false⟩ : Instarref24_Scan) = sc S p false from rfl, mark_back hp (by omega) hk (hm m (by simp)).1 (hm m (by simp)).2 h, bnd_some,
      show (m, sc S (p + (lineS m).length) false).2.Bad = false from rfl, cnd_false, roomy_ok (by simp; omega), bnd_some]
    simp only [List.length_cons] at hk2
    have := ih (p + (lineS m).length) (acc ++ [m]) k hl (drop_app h) (by omega) (by simp; omega) (fun x hx => hm x (by simp [hx]))
    rw [show (m, sc S (p + (lineS m).length) false).2.At = ((p + (lineS m).length : Nat) : Int) from rfl, show (m, sc S (p + (lineS m).length) false).2.S = S from rfl]
    rw [this]; simp

/-! ## TaleRight -/
theorem okM_num {m : Mark} {B : Nat} (h : okM B m) : NumM m ∧ validM m := ⟨⟨h.1.depth, h.1.node, h.1.what, h.1.err, h.1.from_, h.1.to_⟩, h.2⟩
theorem right_j2 {fu : Nat} {s : Bs} (hs : s.length ≤ 4000) (hf : 5000 < fu) : Instarlaw24_TaleRight_j2 fu s () = some true := by
  unfold Instarlaw24_TaleRight_j2
  have hrr : ∀ ms, s = putS ms → (∀ m ∈ ms, okM s.length m) → Instarref24_Read_m fu s = some (ms, true) := fun ms e h => by
    have hg := putS_ge ms
    rw [← e] at hg
    have := rread_back (fu := fu) (S := s) (by omega) (by omega) ms 0 [] fu (by omega) e (by omega) (by simp) (fun m hm => okM_num (h m hm))
    exact this
  rcases read_any (fu := fu) (s := s) (by omega) (by omega) with ⟨ms, e, h, hs2⟩ | e
  · have hg := putS_ge ms
    rw [← hs2] at hg
    rw [e, bnd_some, hrr ms hs2 h, bnd_some]
    simp only
    rw [marks_m (by omega) (by omega), bnd_some]
    rfl
  · rw [e, bnd_some]
    rcases rread_any (fu := fu) (S := s) (by omega) (by omega) s.length 0 [] fu (by omega) (by omega) (by omega) (by simp) with ⟨ms, e2, h2, h3⟩ | e2
    · have h2 : s = putS ms := h2
      have hg := putS_ge ms
      rw [← h2] at hg
      have := read_back (fu := fu) h3 (by omega) (by omega) (by omega) (by rw [← h2]; omega)
      rw [← h2, e] at this
      cases this
    · have : Instarref24_Read_m fu s = some ([], false) := e2
      rw [this, bnd_some, marks_m (by simp; omega) (by simp), bnd_some]
      rfl
theorem taleRight (l : List Mark) (s : Bs) (hl : ∀ x ∈ l, NumM x) : ∃ fu, Instarlaw24_TaleRight_m fu l s = some true := by
  refine ⟨6000, ?_⟩
  unfold Instarlaw24_TaleRight_m
  rw [awake_m (by omega), bnd_some]
  rw [show (!true) = false from rfl, cnd_false, short_m (by omega), bnd_some]
  cases hsh : shortB l with
  | false => rfl
  | true =>
    rw [show (!true) = false from rfl, cnd_false]
    obtain ⟨n1, w1⟩ := short_wm hsh
    have g1 : ∀ x ∈ l, WM x 300 := fun x hx => wm_of (hl x hx) (w1 x hx).1 (w1 x hx).2.1 (w1 x hx).2.2
    by_cases hs : s.length > 4000
    · rw [show decide (((s.length : Nat) : Int) > 4000) = true from by rw [decide_eq_true_eq]; omega, cnd_true]
    rw [show decide (((s.length : Nat) : Int) > 4000) = false from by rw [decide_eq_false_iff_not]; omega, cnd_false]
    have hlen : ∀ (z : List Mark), z.length ≤ 200 → (∀ x ∈ z, WM x 300) → (putS z).length ≤ 400200 := fun z hz h => by
      have h1 := putS_len h
      have h2 := Nat.mul_le_mul_right 2001 hz
      omega
    have hj2 := right_j2 (fu := 6000) (s := s) (by omega) (by omega)
    let V : Mark → Bool := fun m => decide (validM m)
    refine up (L := Instarlaw24_TaleRight_l1 6000 l s) (fun i x => x = ((l.take i).all V, ((i : Nat) : Int), putS ((l.take i).filter V))) (fun r => r = some true) l.length ?_ ?_ (i := 0) (x := (true, 0, [])) (k := 6000) rfl (Nat.zero_le _) (by omega)
    · rintro i x hi rfl
      have hm : l[i] ∈ l := List.getElem_mem hi
      have ht : l.take (i + 1) = l.take i ++ [l[i]] := List.take_succ_eq_append_getElem hi
      have hb := hlen ((l.take i).filter V) (Nat.le_trans (List.length_filter_le _ _) (by simp; omega)) (fun x hx => g1 x (List.mem_of_mem_take (List.mem_filter.1 hx).1))
      have ho := oneS_len (g1 _ hm)
      refine .inr ⟨_, rfl, fun k => ?_⟩
      rw [Instarlaw24_TaleRight_l1, show decide ((i : Int) < ((l.length : Nat) : Int)) = true from by rw [decide_eq_true_eq]; omega, cnd_true, idx_lt hi]
      simp only [bnd_some]
      rw [one_m (g1 _ hm) (by omega) (by omega), bnd_some, ht, List.all_append, List.filter_append]
      by_cases hv : 1 ≤ l[i].Kind ∧ l[i].Kind ≤ 10
      · have hV : V l[i] = true := decide_eq_true hv
        rw [if_pos hv, show decide (l[i].Kind < 1) = false from by rw [decide_eq_false_iff_not]; omega, cnd_false, show decide (l[i].Kind > 10) = false from by rw [decide_eq_false_iff_not]; omega, cnd_false]
        rw [show ((oneS l[i], (0 : Int)).2 != 0) = false from rfl, cnd_false, rone_m (g1 _ hm) (by omega) (by omega) hv, bnd_some]
        rw [show (oneS l[i], (0 : Int)).1 = oneS l[i] from rfl, beq_self_eq_true, Bool.not_true, cnd_false, bnd_some, cat_ok (by simp; omega), bnd_some, cat_ok (by simp; omega), bnd_some, rng_nat (by omega), bnd_some]
        simp [hV, putS, lineS]
      · have hV : V l[i] = false := decide_eq_false hv
        have hj : ∀ rc, Instarlaw24_TaleRight_j1 (i : Int) (putS ((l.take i).filter V)) ([], 1) rc () = rc (false, ((i + 1 : Nat) : Int), putS ((l.take i).filter V)) := fun rc => by
          unfold Instarlaw24_TaleRight_j1
          rw [show (([], (1 : Int)) : Bs × Int).2 = 1 from rfl, show ((1 : Int) != 1) = false from rfl, cnd_false, show (!((([], (1 : Int)) : Bs × Int).1 == ([] : Bs))) = false from rfl, cnd_false, rng_nat (by omega), bnd_some]
        rw [if_neg hv]
        by_cases h1 : l[i].Kind < 1
        · rw [show decide (l[i].Kind < 1) = true from decide_eq_true h1, cnd_true, hj]
          simp [hV]
        · rw [show decide (l[i].Kind < 1) = false from decide_eq_false h1, cnd_false, show decide (l[i].Kind > 10) = true from by rw [decide_eq_true_eq]; omega, cnd_true, hj]
          simp [hV]
    · rintro x rfl
      refine ⟨_, rfl, fun k => ?_⟩
      have hb := hlen l n1 g1
      rw [Instarlaw24_TaleRight_l1, show decide (((l.length : Nat) : Int) < ((l.length : Nat) : Int)) = false from by simp, cnd_false, List.take_length, put_m g1 (by omega) (by omega) (by omega) (by omega) (by omega), bnd_some]
      cases hv : l.all V with
      | true =>
        have hfl : l.filter V = l := List.filter_eq_self.2 (List.all_eq_true.1 hv)
        rw [if_pos rfl, hfl, cnd_true]
        rw [show ((putS l, (0 : Int)).2 != 0) = false from rfl, cnd_false, show (putS l, (0 : Int)).1 = putS l from rfl, beq_self_eq_true, Bool.not_true, cnd_false, cnd_false, hj2]
      | false =>
        rw [if_neg (by simp), cnd_false, Bool.not_false, cnd_true]
        exact hj2
end Go.Proofs.YtoakfflcpcdbeaaDoor
