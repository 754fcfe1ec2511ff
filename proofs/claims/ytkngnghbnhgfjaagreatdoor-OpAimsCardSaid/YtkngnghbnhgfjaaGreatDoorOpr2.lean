/- An operation's text, and what op.Put comes to. -/
import Derived.Test.YtkngnghbnhgfjaaGreatDoorOpr1
namespace Go.Proofs.YtkngnghbnhgfjaaGreatDoor
open Go Go.Pw
set_option linter.unusedVariables false

def tl (l : List Bs) : Bs := l.flatMap fun f => 32 :: f
theorem tl_nil : tl [] = [] := rfl
theorem tl_cons (f : Bs) (l : List Bs) : tl (f :: l) = 32 :: (f ++ tl l) := rfl
theorem tl_app (l m : List Bs) : tl (l ++ m) = tl l ++ tl m := by simp [tl]
def selfS : Bs := [115, 101, 108, 102]
def lastS : Bs := [108, 97, 115, 116]
def numW (f : UInt8) (n : Int) : Bs := if f = 105 ∨ 0 ≤ n then Lib.itoa n else if n = -1 then [45] else if n = -2 then selfS else lastS
def numL (f : UInt8) (n : Int) : List Bs := if f = 46 then [] else [numW f n]
def qS (s : Bs) : Bs := 34 :: quoL s ++ [34]
def txtL (f : UInt8) (s : Bs) : List Bs := if f = 115 then [qS s] else []
def txtsP (o : Op) : List Bs := txtL (fc o.Kind 3) o.S ++ txtL (fc o.Kind 4) o.T
def partsP (o : Op) : List Bs := numL (fc o.Kind 0) o.A ++ (numL (fc o.Kind 1) o.B ++ (numL (fc o.Kind 2) o.C ++ txtsP o))
def bang (b : Bool) : Bs := if b then [33] else []
def putP (o : Op) : Bs := bang o.Must ++ (wd o.Kind ++ tl (partsP o))

theorem wd_len (k : Int) : (wd k).length ≤ 7 := by
  have key : ∀ j : Fin 29, (wordsL.getD j.1 []).length ≤ 7 := by decide
  unfold wd
  split
  · rename_i h
    exact key ⟨k.toNat, by unfold Knd at h; omega⟩
  · simp
theorem fit_range {f : UInt8} {n : Int} (h : fit f n = true) : -1000 ≤ n ∧ n ≤ 1000 := by
  unfold fit at h
  split at h
  · simpa using h
  · split at h
    · simp at h; omega
    · simp at h; omega
theorem itoa_small {n : Int} (h1 : -1000 ≤ n) (h2 : n ≤ 1000) : (Lib.itoa n).length ≤ 5 := by
  unfold Lib.itoa
  split
  · have := digits_len' 3 n.natAbs (by omega)
    simp; omega
  · have := digits_len' 3 n.toNat (by omega)
    omega
theorem numW_len {f : UInt8} {n : Int} (h1 : -1000 ≤ n) (h2 : n ≤ 1000) : (numW f n).length ≤ 5 := by
  unfold numW
  split
  · exact itoa_small h1 h2
  · split
    · simp
    · split <;> simp [selfS, lastS]
theorem numL_len {f : UInt8} {n : Int} (h1 : -1000 ≤ n) (h2 : n ≤ 1000) : (tl (numL f n)).length ≤ 6 := by
  unfold numL
  split
  · simp [tl_nil]
  · have := numW_len (f := f) h1 h2
    simp [tl_cons, tl_nil]; omega
theorem qS_len (s : Bs) : (qS s).length ≤ 2 * s.length + 2 := by
  have := quo_le s
  simp [qS]; omega
theorem txtL_len (f : UInt8) (s : Bs) : (tl (txtL f s)).length ≤ 2 * s.length + 3 := by
  unfold txtL
  split
  · have := qS_len s
    simp [tl_cons, tl_nil]; omega
  · simp [tl_nil]
theorem itoa_m' {fu : Nat} {n : Int} (h : inI n) : itoa_m fu n = some (Lib.itoa n) := if_pos h
theorem number_m {fu : Nat} {f : UInt8} {n : Int} {t : Bs} (hf : f = 110 ∨ f = 111 ∨ f = 105 ∨ f = 46) (h1 : -1000 ≤ n) (h2 : n ≤ 1000) (ht : t.length ≤ 1000000) :
    Op_line_number_m fu (f.toNat : Int) n (bytesOf t) = some (bytesOf (t ++ tl (numL f n))) := by
  have hl := itoa_small h1 h2
  have j1 : ∀ b : Bool, (b = true ↔ f = 105 ∨ 0 ≤ n) → Op_line_number_j1 fu n (bytesOf t) b = some (bytesOf (t ++ 32 :: numW f n)) := fun b hb => by
    unfold Op_line_number_j1 numW
    cases b with
    | true =>
      rw [if_pos (hb.1 rfl), cnd_true, itoa_m' ⟨by omega, by omega⟩, bnd_some, cat_ok (by simp; omega), bnd_some, wstr (by simp; omega), bnd_some]
      rfl
    | false =>
      rw [if_neg (fun h => by have := hb.2 h; cases this), cnd_false, cnd_eq, cnd_eq]
      by_cases e1 : n = -1
      · rw [if_pos e1, if_pos e1]
        show bnd (Strings_Builder_WriteString_m fu [32, 45] (bytesOf t)) _ = _
        rw [wstr (by simp; omega)]; rfl
      · rw [if_neg e1, if_neg e1]
        by_cases e2 : n = -2
        · rw [if_pos e2, if_pos e2, wstr (by simp; omega)]; rfl
        · rw [if_neg e2, if_neg e2, wstr (by simp; omega)]; rfl
  unfold Op_line_number_m numL
  rcases hf with rfl | rfl | rfl | rfl
  · show cnd false _ (cnd false _ _) = _
    rw [cnd_false, cnd_false, j1 _ (by simp), if_neg (by decide)]
    simp [tl_cons, tl_nil]
  · show cnd false _ (cnd false _ _) = _
    rw [cnd_false, cnd_false, j1 _ (by simp), if_neg (by decide)]
    simp [tl_cons, tl_nil]
  · show cnd false _ (cnd true (Op_line_number_j1 fu n (bytesOf t) true) _) = _
    rw [cnd_false, cnd_true, j1 true (by simp), if_neg (by decide)]
    simp [tl_cons, tl_nil]
  · show cnd true _ _ = _
    rw [cnd_true, if_pos rfl]
    simp [tl_nil]
theorem quote_m' {fu : Nat} {s : Bs} (h : s.length ≤ 1000000) : quote_m fu s = some (qS s) := by
  unfold quote_m; rw [if_pos (by omega)]; rfl
structure RightP (o : Op) : Prop where
  kind : Knd o.Kind
  a : fit (fc o.Kind 0) o.A = true
  b : fit (fc o.Kind 1) o.B = true
  c : fit (fc o.Kind 2) o.C = true
  s : fitT (fc o.Kind 3) o.S = true
  t : fitT (fc o.Kind 4) o.T = true
theorem right_iff {o : Op} : rightP o = true ↔ RightP o := by
  unfold rightP
  simp only [Bool.and_eq_true, decide_eq_true_eq]
  exact ⟨fun h => ⟨h.1, h.2.1, h.2.2.1, h.2.2.2.1, h.2.2.2.2.1, h.2.2.2.2.2⟩, fun h => ⟨h.kind, h.a, h.b, h.c, h.s, h.t⟩⟩
theorem fitT_len {f : UInt8} {s : Bs} (h : fitT f s = true) : s.length ≤ 200 ∧ (10 : UInt8) ∉ s := by
  unfold fitT at h
  split at h
  · simpa using h
  · simp at h; subst h; simp
theorem put_j2 {fu : Nat} {o : Op} {b : Bool} {t : Bs} (ho : o.T.length ≤ 200) (ht : t.length ≤ 10000) :
    Op_Put_j2 fu o (⟨wd o.Kind, fd o.Kind⟩, b) (bytesOf t) = some (t ++ tl (txtL (fc o.Kind 4) o.T), 0) := by
  have hq := qS_len o.T
  unfold Op_Put_j2 txtL
  rw [show (4 : Int) = ((4 : Nat) : Int) from rfl, fc_chr (by omega), bnd_some]
  rcases fc_txt o.Kind (i := 4) (by omega) (by omega) with h | h
  · rw [h, if_pos rfl]
    show cnd true _ _ = _
    rw [cnd_true, quote_m' (by omega), bnd_some, cat_ok (by simp; omega), bnd_some, wstr (by simp; omega), bnd_some, bstr, bnd_some]
    simp [tl_cons, tl_nil]
  · rw [h, if_neg (by decide)]
    show cnd false _ _ = _
    rw [cnd_false, bstr, bnd_some]
    simp [tl_nil]
theorem put_j1 {fu : Nat} {o : Op} {b : Bool} {t : Bs} (h : RightP o) (ht : t.length ≤ 1000) :
    Op_Put_j1 fu o (⟨wd o.Kind, fd o.Kind⟩, b) (bytesOf t) = some (t ++ (wd o.Kind ++ tl (partsP o)), 0) := by
  have hw := wd_len o.Kind
  obtain ⟨a1, a2⟩ := fit_range h.a
  obtain ⟨b1, b2⟩ := fit_range h.b
  obtain ⟨c1, c2⟩ := fit_range h.c
  have l1 := numL_len (f := fc o.Kind 0) a1 a2
  have l2 := numL_len (f := fc o.Kind 1) b1 b2
  have l3 := numL_len (f := fc o.Kind 2) c1 c2
  have hs := (fitT_len h.s).1
  have hT := (fitT_len h.t).1
  have hq := qS_len o.S
  have l4 := txtL_len (fc o.Kind 3) o.S
  unfold Op_Put_j1
  rw [wstr (by simp; omega), bnd_some]
  simp only [Op_numbers_m, Op_texts_m, bnd_some]
  rw [show (0 : Int) = ((0 : Nat) : Int) from rfl, show (1 : Int) = ((1 : Nat) : Int) from rfl, show (2 : Int) = ((2 : Nat) : Int) from rfl, show (3 : Int) = ((3 : Nat) : Int) from rfl,
    fc_chr (by omega), bnd_some, number_m (fc_num _ (by omega)) a1 a2 (by simp; omega), bnd_some, fc_chr (by omega), bnd_some, number_m (fc_num _ (by omega)) b1 b2 (by simp; omega), bnd_some, fc_chr (by omega), bnd_some, number_m (fc_num _ (by omega)) c1 c2 (by simp; omega), bnd_some, fc_chr (by omega), bnd_some]
  have e : ∀ x : Bs, x = t ++ (wd o.Kind ++ tl (partsP o)) → some (x, (0 : Int)) = some (t ++ (wd o.Kind ++ tl (partsP o)), (0 : Int)) := fun x hx => by rw [hx]
  rcases fc_txt o.Kind (i := 3) (by omega) (by omega) with h3 | h3
  · rw [h3]
    show cnd true _ _ = _
    rw [cnd_true, quote_m' (by omega), bnd_some, cat_ok (by simp; omega), bnd_some, wstr (by simp; omega), bnd_some, put_j2 hT (by simp; omega)]
    refine e _ ?_
    unfold partsP txtsP
    simp only [tl_app, txtL, h3, if_true, tl_cons, List.append_assoc, List.cons_append, List.nil_append]
  · rw [h3]
    show cnd false _ _ = _
    rw [cnd_false, put_j2 hT (by simp; omega)]
    refine e _ ?_
    unfold partsP txtsP
    have : ¬ (46 : UInt8) = 115 := by decide
    simp only [tl_app, txtL, h3, if_neg this, List.append_assoc, List.nil_append]
theorem put_m (fu : Nat) (o : Op) : Op_Put_m fu o = some (if rightP o = true then (putP o, 0) else ([], 1)) := by
  unfold Op_Put_m
  rw [right_m, bnd_some]
  cases h : rightP o with
  | false => rfl
  | true =>
    have hr := right_iff.1 h
    rw [if_pos rfl]
    simp only [Bool.not_true, cnd_false]
    rw [form_m, bnd_some]
    unfold putP bang
    cases o.Must with
    | true =>
      rw [cnd_true]
      show bnd (Strings_Builder_WriteString_m fu [33] (bytesOf [])) _ = _
      rw [wstr (by simp), bnd_some, put_j1 hr (by simp)]
      rfl
    | false =>
      rw [cnd_false]
      show Op_Put_j1 fu o _ (bytesOf []) = _
      rw [put_j1 hr (by simp)]
      rfl
theorem put_right {fu : Nat} {o : Op} (h : RightP o) : Op_Put_m fu o = some (putP o, 0) := by rw [put_m, if_pos (right_iff.2 h)]
theorem putP_len {o : Op} (h : RightP o) : (putP o).length ≤ 1000 := by
  obtain ⟨a1, a2⟩ := fit_range h.a
  obtain ⟨b1, b2⟩ := fit_range h.b
  obtain ⟨c1, c2⟩ := fit_range h.c
  have l1 := numL_len (f := fc o.Kind 0) a1 a2
  have l2 := numL_len (f := fc o.Kind 1) b1 b2
  have l3 := numL_len (f := fc o.Kind 2) c1 c2
  have hs := (fitT_len h.s).1
  have hT := (fitT_len h.t).1
  have l4 := txtL_len (fc o.Kind 3) o.S
  have l5 := txtL_len (fc o.Kind 4) o.T
  have hw := wd_len o.Kind
  have hb : (bang o.Must).length ≤ 1 := by cases o.Must <;> simp [bang]
  unfold putP partsP txtsP
  simp only [tl_app, List.length_append]
  omega
end Go.Proofs.YtkngnghbnhgfjaaGreatDoor
