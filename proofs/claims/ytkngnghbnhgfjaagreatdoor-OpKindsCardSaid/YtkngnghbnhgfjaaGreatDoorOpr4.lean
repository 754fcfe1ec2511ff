/- What op.Read comes to at an operation's own text. -/
import Derived.Test.YtkngnghbnhgfjaaGreatDoorOpr3
namespace Go.Proofs.YtkngnghbnhgfjaaGreatDoor
open Go Go.Pw
set_option linter.unusedVariables false

def nxt : List Bs → Bs
  | [] => []
  | f :: l => f ++ tl l
theorem cut_nxt {fu : Nat} {f : Bs} {l : List Bs} (hf : (32 : UInt8) ∉ f) (hl : (f ++ tl l).length ≤ 1000000) : ∃ b, Strings_Cut_m fu (f ++ tl l) [32] = some (f, nxt l, b) := by
  cases l with
  | nil => rw [tl_nil, List.append_nil]; exact ⟨false, cut_no hf⟩
  | cons g l => rw [tl_cons] at hl ⊢; exact ⟨true, cut_yes hf (by omega)⟩
theorem numW_no {f : UInt8} {n : Int} {c : UInt8} (h : c = 32 ∨ c = 10) : c ∉ numW f n := by
  have hi : c ∉ Lib.itoa n := itoa_no (by rcases h with rfl | rfl <;> decide)
  unfold numW
  split
  · exact hi
  · split
    · rcases h with rfl | rfl <;> decide
    · split <;> · rcases h with rfl | rfl <;> decide
theorem nst_own {fu : Nat} {f : UInt8} {n : Int} {L : List Bs} (hf : f = 110 ∨ f = 111 ∨ f = 105 ∨ f = 46) (h : fit f n = true) (hl : (nxt (numL f n ++ L)).length ≤ 1000000) : nst fu f (nxt (numL f n ++ L), true) = some (nxt L, true, n) := by
  unfold nst
  by_cases h46 : f = 46
  · subst h46
    rw [if_neg (by simp)]
    have hn : n = 0 := by unfold fit at h; rw [if_neg (by decide), if_neg (by decide)] at h; simpa using h
    rw [hn]; rfl
  · rw [if_pos ⟨rfl, h46⟩]
    have e : numL f n = [numW f n] := if_neg h46
    rw [e] at hl ⊢
    obtain ⟨b, hb⟩ := cut_nxt (fu := fu) (f := numW f n) (l := L) (numW_no (.inl rfl)) hl
    show bnd (Strings_Cut_m fu (numW f n ++ tl L) [32]) _ = _
    rw [hb, bnd_some, rnum_own (by rcases hf with h | h | h | h; exact .inl h; exact .inr (.inl h); exact .inr (.inr h); exact absurd h h46) h, bnd_some]
theorem tst1_own {fu : Nat} {f : UInt8} {s : Bs} {L : List Bs} (hf : f = 115 ∨ f = 46) (h : fitT f s = true) (hl : (nxt (txtL f s ++ L)).length ≤ 1000000) (hfu : (nxt (txtL f s ++ L)).length < fu) : tst1 fu f (nxt (txtL f s ++ L), true) = some (nxt L, true, s) := by
  unfold tst1
  rcases hf with rfl | rfl
  · rw [if_pos ⟨rfl, rfl⟩]
    have e : txtL 115 s = [qS s] := rfl
    rw [e] at hl hfu ⊢
    have hl' : (qS s ++ tl L).length ≤ 1000000 := hl
    have hfu' : (qS s ++ tl L).length < fu := hfu
    show bnd (Op_readText_m fu (qS s ++ tl L)) _ = _
    rw [rtext_own hl' hfu', bnd_some]
    cases L with
    | nil =>
      show bnd (Strings_CutPrefix_m fu [] [32]) _ = _
      rw [pre_nil]; rfl
    | cons g L =>
      simp [tl_cons] at hl'
      show bnd (Strings_CutPrefix_m fu (32 :: (g ++ tl L)) [32]) _ = _
      rw [pre_cons (by simp; omega), if_pos rfl]; rfl
  · rw [if_neg (fun e => absurd e.2 (by decide))]
    have : s = [] := by simpa [fitT] using h
    subst this; rfl
theorem tst2_own {fu : Nat} {f : UInt8} {s : Bs} (hf : f = 115 ∨ f = 46) (h : fitT f s = true) (hl : (nxt (txtL f s)).length ≤ 1000000) (hfu : (nxt (txtL f s)).length < fu) : tst2 fu f (nxt (txtL f s), true) = some ([], true, s) := by
  unfold tst2
  rcases hf with rfl | rfl
  · rw [if_pos ⟨rfl, rfl⟩]
    have e : txtL 115 s = [qS s] := rfl
    rw [e] at hl hfu ⊢
    show bnd (Op_readText_m fu (qS s ++ [])) _ = _
    rw [rtext_own (r := []) hl hfu, bnd_some]
    show bnd (Strings_CutPrefix_m fu [] [32]) _ = _
    rw [pre_nil]; rfl
  · rw [if_neg (fun e => absurd e.2 (by decide))]
    have : s = [] := by simpa [fitT] using h
    subst this; rfl
theorem wd_no {k : Int} {c : UInt8} (h : c.toNat < 97 ∨ 122 < c.toNat) : c ∉ wd k ∨ ¬ Knd k := by
  have key : ∀ j : Fin 29, 0 < j.1 → ∀ b ∈ wordsL.getD j.1 [], 97 ≤ b.toNat ∧ b.toNat ≤ 122 := by decide
  by_cases hk : Knd k
  · left
    rw [wd, if_pos hk]
    intro hm
    have := key ⟨k.toNat, by unfold Knd at hk; omega⟩ (by unfold Knd at hk; simp; omega) c hm
    omega
  · exact .inr hk
theorem wd_cons {k : Int} (hk : Knd k) : ∃ b w, wd k = b :: w ∧ 97 ≤ b.toNat ∧ b.toNat ≤ 122 := by
  have key : ∀ j : Fin 29, 0 < j.1 → wordsL.getD j.1 [] ≠ [] := by decide
  have h0 := key ⟨k.toNat, by unfold Knd at hk; omega⟩ (by unfold Knd at hk; simp; omega)
  have e : wd k = wordsL.getD k.toNat [] := if_pos hk
  rw [← e] at h0
  cases hw : wd k with
  | nil => exact absurd hw h0
  | cons b w =>
    refine ⟨b, w, rfl, ?_⟩
    have : 97 ≤ b.toNat ∧ b.toNat ≤ 122 ∨ ¬ (97 ≤ b.toNat ∧ b.toNat ≤ 122) := Decidable.em _
    rcases this with h | h
    · exact h
    · rcases wd_no (k := k) (c := b) (by omega) with h2 | h2
      · exact absurd (by rw [hw]; simp) h2
      · exact absurd hk h2
theorem index_wd {fu : Nat} (hf : 30 < fu) {k : Int} (hk : Knd k) : Slices_Index_string_m fu wordsL (wd k) = some k := by
  rw [index_m (by simp [wordsL]; omega) (by simp [wordsL])]
  have key : ∀ j : Fin 29, ((List.range 29).find? fun i => wordsL.getD j.1 [] == wordsL.getD i []) = some j.1 := by decide
  have e : wd k = wordsL.getD k.toNat [] := if_pos hk
  have hj := key ⟨k.toNat, by unfold Knd at hk; omega⟩
  rw [e]
  show (match (List.range 29).find? fun i => wordsL.getD k.toNat [] == wordsL.getD i [] with | some i => some (i : Int) | none => some (-1)) = _
  rw [hj]
  show some ((k.toNat : Nat) : Int) = some k
  congr 1
  unfold Knd at hk
  omega
theorem nxt_le : ∀ (l : List Bs), (nxt l).length ≤ (tl l).length
  | [] => Nat.le_refl _
  | f :: l => by simp [nxt, tl_cons]
theorem tl_le_l (l m : List Bs) : (tl l).length ≤ (tl (l ++ m)).length := by rw [tl_app]; simp
theorem tl_le_r (l m : List Bs) : (tl m).length ≤ (tl (l ++ m)).length := by rw [tl_app]; simp
theorem read_own {fu : Nat} {o : Op} (h : RightP o) (hf : 2000 < fu) : Op_Read_m fu (putP o) = some (o, 0) := by
  have hlen := putP_len h
  obtain ⟨b0, w0, hw, hb1, hb2⟩ := wd_cons h.kind
  have hl0 : (wd o.Kind ++ tl (partsP o)).length ≤ 1000 := by
    have : putP o = bang o.Must ++ (wd o.Kind ++ tl (partsP o)) := rfl
    rw [this, List.length_append] at hlen; omega
  have hlt : (tl (partsP o)).length ≤ 1000 := by simp at hl0; omega
  have m1 : (nxt (partsP o)).length ≤ 1000 := Nat.le_trans (nxt_le _) hlt
  have m2 : (tl (numL (fc o.Kind 1) o.B ++ (numL (fc o.Kind 2) o.C ++ txtsP o))).length ≤ 1000 := Nat.le_trans (tl_le_r _ _) hlt
  have m3 : (tl (numL (fc o.Kind 2) o.C ++ txtsP o)).length ≤ 1000 := Nat.le_trans (tl_le_r _ _) m2
  have m4 : (tl (txtsP o)).length ≤ 1000 := Nat.le_trans (tl_le_r _ _) m3
  have m5 : (tl (txtL (fc o.Kind 4) o.T)).length ≤ 1000 := Nat.le_trans (tl_le_r (txtL (fc o.Kind 3) o.S) _) m4
  have k2 := nxt_le (numL (fc o.Kind 1) o.B ++ (numL (fc o.Kind 2) o.C ++ txtsP o))
  have k3 := nxt_le (numL (fc o.Kind 2) o.C ++ txtsP o)
  have k4 := nxt_le (txtsP o)
  have k5 := nxt_le (txtL (fc o.Kind 4) o.T)
  rw [read_eq]
  have h1 : Strings_CutPrefix_m fu (putP o) [33] = some (wd o.Kind ++ tl (partsP o), o.Must) := by
    unfold putP bang
    cases o.Must with
    | true =>
      show Strings_CutPrefix_m fu (33 :: (wd o.Kind ++ tl (partsP o))) [33] = _
      rw [pre_cons (by omega), if_pos rfl]
    | false =>
      rw [if_neg (by decide), List.nil_append]
      rw [hw] at hl0 ⊢
      have hl1 : (w0 ++ tl (partsP o)).length ≤ 1000 := by simp at hl0 ⊢; omega
      show Strings_CutPrefix_m fu (b0 :: (w0 ++ tl (partsP o))) [33] = _
      rw [pre_cons (by omega), if_neg (fun e => by rw [e] at hb1; simp at hb1)]
      rfl
  rw [h1, bnd_some]
  have hno : (32 : UInt8) ∉ wd o.Kind := by
    rcases wd_no (k := o.Kind) (c := 32) (.inl (by decide)) with h2 | h2
    · exact h2
    · exact absurd h.kind h2
  obtain ⟨b, h2⟩ := cut_nxt (fu := fu) (l := partsP o) hno (by omega)
  rw [h2, bnd_some, index_wd (by omega) h.kind, bnd_some, show decide (Knd o.Kind) = true from by simpa using h.kind]
  simp only
  rw [show nxt (partsP o) = nxt (numL (fc o.Kind 0) o.A ++ (numL (fc o.Kind 1) o.B ++ (numL (fc o.Kind 2) o.C ++ txtsP o))) from rfl] at m1 ⊢
  rw [nst_own (fc_num _ (by omega)) h.a (by omega), bnd_some]
  simp only
  rw [nst_own (fc_num _ (by omega)) h.b (by omega), bnd_some]
  simp only
  rw [nst_own (fc_num _ (by omega)) h.c (by omega), bnd_some]
  simp only
  rw [show nxt (txtsP o) = nxt (txtL (fc o.Kind 3) o.S ++ txtL (fc o.Kind 4) o.T) from rfl] at k4 ⊢
  rw [tst1_own (fc_txt _ (by omega) (by omega)) h.s (by omega) (by omega), bnd_some]
  simp only
  rw [tst2_own (fc_txt _ (by omega) (by omega)) h.t (by omega) (by omega), bnd_some]
  unfold Op_Read_j5
  simp only
  have ho : (⟨o.Kind, o.A, o.B, o.C, o.S, o.T, o.Must⟩ : Op) = o := rfl
  rw [ho, put_right h, bnd_some]
  simp
theorem putP_inj {o p : Op} (ho : RightP o) (hp : RightP p) (h : putP o = putP p) : o = p := by
  have h1 := read_own (fu := 2001) ho (by omega)
  rw [h, read_own hp (by omega)] at h1
  cases h1; rfl
/-- What op.Read comes to. -/
theorem read_m {fu : Nat} {s : Bs} (hs : s.length ≤ 1000000) (hf : s.length + 3000 < fu) :
    (∃ o, RightP o ∧ putP o = s ∧ Op_Read_m fu s = some (o, 0)) ∨ (∀ o, RightP o → putP o ≠ s) ∧ Op_Read_m fu s = some (op0, 2) := by
  rcases read_any hs (by omega : s.length + 30 < fu) with h | ⟨o, h1, h2, h3⟩
  · refine .inr ⟨fun o ho e => ?_, h⟩
    rw [← e, read_own ho (by omega)] at h
    cases h
  · exact .inl ⟨o, h2, h3, h1⟩
theorem read_none {fu : Nat} {s : Bs} (hs : s.length ≤ 1000000) (hf : s.length + 3000 < fu) (h : ∀ o, RightP o → putP o ≠ s) : Op_Read_m fu s = some (op0, 2) := by
  rcases read_m hs hf with ⟨o, h1, h2, _⟩ | ⟨_, h1⟩
  · exact absurd h2 (h o h1)
  · exact h1

/-! ## No blank ahead or behind -/
theorem last_tl : ∀ (l : List Bs) (w : Bs), (∃ c, w.getLast? = some c ∧ c ≠ 32) → (∀ f ∈ l, ∃ c, f.getLast? = some c ∧ c ≠ 32) → ∃ c, (w ++ tl l).getLast? = some c ∧ c ≠ 32
  | [], w, hw, _ => by rw [tl_nil, List.append_nil]; exact hw
  | f :: l, w, hw, hl => by
    have := last_tl l (w ++ 32 :: f) (by
      obtain ⟨c, h1, h2⟩ := hl f (by simp)
      refine ⟨c, ?_, h2⟩
      rw [List.getLast?_append, List.getLast?_cons, h1]; rfl) (fun g hg => hl g (by simp [hg]))
    rw [tl_cons]
    rwa [List.append_assoc, List.cons_append] at this
theorem last_of {s : Bs} (h : s ≠ []) (hc : (32 : UInt8) ∉ s) : ∃ c, s.getLast? = some c ∧ c ≠ 32 := by
  refine ⟨s.getLast h, List.getLast?_eq_some_getLast h, fun e => hc ?_⟩
  rw [← e]; exact List.getLast_mem h
theorem parts_last {o : Op} : ∀ f ∈ partsP o, ∃ c, f.getLast? = some c ∧ c ≠ 32 := by
  have hn : ∀ (x : UInt8) (n : Int), ∀ f ∈ numL x n, ∃ c, f.getLast? = some c ∧ c ≠ 32 := fun x n f hf => by
    unfold numL at hf
    split at hf
    · cases hf
    · simp at hf; subst hf
      refine last_of ?_ (numW_no (.inl rfl))
      unfold numW
      split
      · exact itoa_ne n
      · split
        · simp
        · split <;> simp [selfS, lastS]
  have ht : ∀ (x : UInt8) (s : Bs), ∀ f ∈ txtL x s, ∃ c, f.getLast? = some c ∧ c ≠ 32 := fun x s f hf => by
    unfold txtL at hf
    split at hf
    · simp at hf; subst hf
      exact ⟨34, by rw [qS, List.getLast?_concat], by decide⟩
    · cases hf
  intro f hf
  simp only [partsP, txtsP, List.mem_append] at hf
  rcases hf with h | h | h | h | h
  · exact hn _ _ f h
  · exact hn _ _ f h
  · exact hn _ _ f h
  · exact ht _ _ f h
  · exact ht _ _ f h
theorem putP_last {o : Op} (h : RightP o) (s : Bs) : putP o ≠ s ++ [32] := by
  intro e
  obtain ⟨b0, w0, hw, hb1, hb2⟩ := wd_cons h.kind
  have hno : (32 : UInt8) ∉ wd o.Kind := by
    rcases wd_no (k := o.Kind) (c := 32) (.inl (by decide)) with h2 | h2
    · exact h2
    · exact absurd h.kind h2
  obtain ⟨c, h1, h2⟩ := last_tl (partsP o) (bang o.Must ++ wd o.Kind) (by
    obtain ⟨c, h1, h2⟩ := last_of (s := wd o.Kind) (by rw [hw]; simp) hno
    exact ⟨c, by rw [List.getLast?_append, h1]; rfl, h2⟩) parts_last
  have e2 : putP o = (bang o.Must ++ wd o.Kind) ++ tl (partsP o) := by rw [putP, List.append_assoc]
  rw [← e2, e] at h1
  simp at h1
  exact h2 h1.symm
theorem putP_first {o : Op} (h : RightP o) (s : Bs) : putP o ≠ 32 :: s := by
  intro e
  obtain ⟨b0, w0, hw, hb1, hb2⟩ := wd_cons h.kind
  unfold putP bang at e
  rw [hw] at e
  cases hm : o.Must with
  | true => rw [hm] at e; simp at e
  | false =>
    rw [hm] at e
    simp at e
    rw [e.1] at hb1
    simp at hb1
theorem putP_no10 {o : Op} (h : RightP o) : (10 : UInt8) ∉ putP o := by
  have hn : ∀ (x : UInt8) (n : Int), (10 : UInt8) ∉ tl (numL x n) := fun x n => by
    unfold numL
    split
    · simp [tl_nil]
    · have := numW_no (f := x) (n := n) (c := 10) (.inr rfl)
      simp [tl_cons, tl_nil, this]
  have ht : ∀ (x : UInt8) (s : Bs), (10 : UInt8) ∉ s → (10 : UInt8) ∉ tl (txtL x s) := fun x s hs => by
    unfold txtL
    split
    · simp only [tl_cons, tl_nil, qS, List.append_nil, List.mem_cons, List.mem_append, List.cons_append]
      rintro (h | h | h | h | h)
      · cases h
      · cases h
      · rcases quo_mem h with h | h
        · cases h
        · exact hs h
      · cases h
      · cases h
    · simp [tl_nil]
  have hw : (10 : UInt8) ∉ wd o.Kind := by
    rcases wd_no (k := o.Kind) (c := 10) (.inl (by decide)) with h2 | h2
    · exact h2
    · exact absurd h.kind h2
  have hb : (10 : UInt8) ∉ bang o.Must := by cases o.Must <;> simp [bang]
  unfold putP partsP txtsP
  simp only [tl_app, List.mem_append]
  rintro (h1 | h1 | h1 | h1 | h1 | h1 | h1)
  · exact hb h1
  · exact hw h1
  · exact hn _ _ h1
  · exact hn _ _ h1
  · exact hn _ _ h1
  · exact ht _ _ (fitT_len h.s).2 h1
  · exact ht _ _ (fitT_len h.t).2 h1
theorem putP_ne {o : Op} (h : RightP o) : putP o ≠ [] := by
  obtain ⟨b0, w0, hw, _⟩ := wd_cons h.kind
  unfold putP
  rw [hw]
  cases o.Must <;> simp [bang]
end Go.Proofs.YtkngnghbnhgfjaaGreatDoor
