/- Ranges over slices.Backward. No program is named here. -/
import Derived.Test.YtkngnghbnhgfjaaGreatMapp
namespace Go.Pw
open Go

/-! ## The closure of slices.Backward -/
def opB (d : Nat) (op : Op) (t : TypeId) (pos : String) (after : Array Edge) : Oper := { dst := some d, op, type := t, pos, after, guard := none }
def ed (n : Nat) : Edge := { on := n, ground := .data }
def ep (n : Nat) : Edge := { on := n, ground := .phase }
def back0 (tS tI : TypeId) : List Oper :=
  [opB 4 (.load tS (.tmp 1)) tS "iter.go:28" #[], opB 5 (.call { callee := .builtin .len, args := #[.tmp 4], argTypes := #[tS] }) tI "iter.go:28" #[ed 0],
   opB 6 (.binOp .sub tI (.tmp 5) (.const (.int .i64 1)) tI) tI "iter.go:28" #[ed 1], opB 3 (.assign (.tmp 6)) tI "iter.go:28" #[ed 2, ep 0, ep 1, ep 2]]
def back1 (tI tB : TypeId) : List Oper :=
  [opB 7 (.move (.tmp 3)) tI "iter.go:28" #[], opB 8 (.binOp .geq tI (.tmp 7) (.const (.int .i64 0)) tI) tB "iter.go:28" #[ed 0]]
def back3 (tS tE tI tB tF : TypeId) : List Oper :=
  [opB 11 (.move (.tmp 0)) tF "iter.go:29" #[], opB 12 (.move (.tmp 3)) tI "iter.go:29" #[], opB 13 (.load tS (.tmp 1)) tS "iter.go:29" #[], opB 14 (.move (.tmp 3)) tI "iter.go:29" #[],
   opB 15 (.indexAddr tS (.tmp 13) (.tmp 14)) 0 "iter.go:29" #[ed 2, ed 3], opB 16 (.load tE (.tmp 15)) tE "iter.go:29" #[ed 4],
   opB 17 (.call { callee := .value (.tmp 11), args := #[.tmp 12, .tmp 16], argTypes := #[tI, tE] }) tB "iter.go:29" #[ed 0, ed 1, ed 5], opB 18 (.unOp .not tB (.tmp 17)) tB "iter.go:29" #[ed 6]]
def back2 (tI : TypeId) : List Oper :=
  [opB 9 (.move (.tmp 3)) tI "iter.go:28" #[], opB 10 (.binOp .sub tI (.tmp 9) (.const (.int .i64 1)) tI) tI "iter.go:28" #[ed 0], opB 3 (.assign (.tmp 10)) tI "iter.go:28" #[ed 1, ep 0, ep 1]]
def backCode (tS tE tI tB tF : TypeId) : Code :=
  .seq (.region 0 (back0 tS tI).toArray false) (.block 0 (.loop (.seq (.seq (.region 1 (back1 tI tB).toArray false) (.cond (.tmp 8) .skip (.exit 0)))
    (.seq (.block 1 (.seq (.region 3 (back3 tS tE tI tB tF).toArray false) (.cond (.tmp 18) .ret .skip))) (.region 2 (back2 tI).toArray false)))))

/-- What temporaries hold. -/
structure Has (N : Nat) (E : List (Nat × Value)) (a : Act) : Prop where
  size : a.tmps.size = N
  defers : a.defers = []
  has : ∀ t v, lku E t = some v → a.tmps[t]? = some v
theorem Has.eval {N : Nat} {E : List (Nat × Value)} {a : Act} (h : Has N E a) {t : Nat} {v : Value} (ht : lku E t = some v) : a.eval (.tmp t) = v := by
  have := h.has t v ht
  simp only [Act.eval, Array.getD_eq_getD_getElem?, this, Option.getD_some]
theorem Has.put {N : Nat} {E : List (Nat × Value)} {a : Act} (h : Has N E a) {d : Nat} {v : Value} (hd : d < N) : Has N ((d, v) :: E) (a.put (some d) v) := by
  refine ⟨by simp [Act.put, h.size], h.defers, fun t u ht => ?_⟩
  simp only [lku] at ht
  simp only [Act.put]
  by_cases e : d = t
  · subst e; simp at ht; subst ht; simp [h.size, hd]
  · simp only [beq_no e, cond_false] at ht
    rw [Array.getElem?_setIfInBounds_ne e]; exact h.has t u ht
theorem Has.inv {N : Nat} {E : List (Nat × Value)} {a : Act} (h : Has N E a) {σ : Nat → Value} {w : World} {D : Nat → Prop} {t : Nat} {v : Value} {p : PV} (ht : lku E t = some v) (hr : R σ w D p v) : InvE σ w D [(t, p)] a.tmps := by
  intro t' p' h'
  simp only [lk] at h'
  by_cases e : t = t'
  · subst e; simp at h'; subst h'; exact ⟨v, h.has t v ht, hr⟩
  · simp [beq_no e] at h'

theorem op_has {ro : Option Nat} {n N d : Nat} {P : Program} {all : Array Oper} {Q : Exit → Act → World → Prop} {op : Op} {t : TypeId} {ps : String} {af : Array Edge} {rest : List Oper} {a : Act} {w : World} {E : List (Nat × Value)} (v : Value)
    (h : Has N E a) (hrun : (execOp a.eval (opB d op t ps af)).run P w = .ok (.value v) w) (hlt : d < N) (hnd : noDefer op = true) (k : ∀ a', Has N ((d, v) :: E) a' → wpListIn (FR ro) n P all Q rest a' w) : wpListIn (FR ro) n P all Q (opB d op t ps af :: rest) a w := by
  refine wpListIn_plain rfl fun K hK => ⟨fun _ _ => trivial, ?_⟩
  rw [Oper.semAt_eq _ _ _ (noDefer_ok hnd), hrun, Oper.uponIn_value]
  exact hK _ _ (k _ (h.put hlt))

theorem eval_nil {P : Program} {T : Tab P} {w : World} {σ : Nat → Value} {D : Nat → Prop} {o : Oper} {a : Act} {E : Env} {p : PV} (hD : ∀ b, D b → b < w.heap.size) (hE : InvE σ w D E a.tmps) (h : ev1 T E [] o.op = some p) :
    ∃ u, (execOp a.eval o).run P w = .ok (.value u) w ∧ R σ w D p u := by
  have hi : Inv (fun b => b < w.heap.size ∧ ¬ D b) σ (fun _ _ => False) w [] :=
    ⟨by simp, fun _ h => h.1, fun _ ⟨_, _, h, _⟩ => by simp at h, fun _ _ _ _ h => by simp at h, fun _ _ h => by simp at h⟩
  obtain ⟨u, h1, h2⟩ := ev1_ok (T := T) hi (fun t q hq => let ⟨u, hu, hr⟩ := hE t q hq; ⟨u, hu, hr.mono fun b hb => ⟨⟨hD b hb, fun h => h.2 hb, fun _ _ h => by simp at h⟩, rfl⟩⟩) h
  exact ⟨u, h1, h2.mono fun b hb => ⟨Classical.byContradiction fun hn => hb.2.1 ⟨hb.1, hn⟩, rfl⟩⟩

section back
variable {P : Program} {T : Tab P} {g : FuncId} {fn : Func} {tS tE tI tB tF : TypeId} {α : Type} {enc : α → List PV} {enc' : α → PV} {e size by_ : Nat} {full : Bool}

/-- What the closure meets with so many rounds left: the slice, and what a call of yield comes to. -/
def BackJ (P : Program) (tS : TypeId) (enc : α → List PV) (enc' : α → PV) (size : Nat) (full : Bool) (xs : List α) (l bB : Nat) (J : Nat → World → Prop) : Prop :=
  ∀ k W, J k W → ∃ (D : Nat → Prop) (u : Value), (∀ b, D b → b < W.heap.size) ∧ (Instr.loadAt tS (.pointer (some ⟨bB, 0, none⟩))).run P W = .ok u W ∧ RD W D (.sl size full (xs.map enc)) u ∧
    ∀ k' y v, k = k' + 1 → xs[k']? = some y → R (fun _ => undef) W D (enc' y) v → YieldAt Fence.wide 0 P l #[.int .i64 (k' : Nat), v] W fun e W' => e = .returned (.bool true) ∧ J k' W'

theorem run_load {tS : TypeId} {a : Act} {w : World} {u v : Value} {d : Nat} {x : Operand} {t : TypeId} {ps : String} {af : Array Edge} (hx : a.eval x = v) (h : (Instr.loadAt tS v).run P w = .ok u w) : (execOp a.eval (opB d (.load tS x) t ps af)).run P w = .ok (.value u) w := by
  simp [execOp, opB, hx, h]
theorem run_move {a : Act} {w : World} {v : Value} {d : Nat} {x : Operand} {t : TypeId} {ps : String} {af : Array Edge} (hx : a.eval x = v) : (execOp a.eval (opB d (.move x) t ps af)).run P w = .ok (.value v) w := by
  simp [execOp, opB, hx]
theorem run_assign {a : Act} {w : World} {v : Value} {d : Nat} {x : Operand} {t : TypeId} {ps : String} {af : Array Edge} (hx : a.eval x = v) : (execOp a.eval (opB d (.assign x) t ps af)).run P w = .ok (.value v) w := by
  simp [execOp, opB, hx]
theorem run_pred {a : Act} {w : World} {n : Nat} {d : Nat} {x : Operand} {tI t : TypeId} {ps : String} {af : Array Edge} (hx : a.eval x = .int .i64 (n : Nat)) (hn : n ≤ maxLen) : (execOp a.eval (opB d (.binOp .sub tI x (.const (.int .i64 1)) tI) t ps af)).run P w = .ok (.value (.int .i64 ((n : Int) - 1))) w := by
  have : IntKind.i64.wrap ((n : Int) - 1) = (n : Int) - 1 := wrap_of (by simp only [lo, hi]; have : maxLen = 9223372036854775807 := rfl; omega)
  have h1 : a.eval (.const (.int .i64 1)) = .int .i64 1 := rfl
  simp [execOp, opB, hx, h1, binOp, Op.intArith, eqGuard_flat, this]
theorem run_geq {a : Act} {w : World} {n : Int} {d : Nat} {x : Operand} {tI t : TypeId} {ps : String} {af : Array Edge} (hx : a.eval x = .int .i64 n) : (execOp a.eval (opB d (.binOp .geq tI x (.const (.int .i64 0)) tI) t ps af)).run P w = .ok (.value (.bool (decide (0 ≤ n)))) w := by
  have h1 : a.eval (.const (.int .i64 0)) = .int .i64 0 := rfl
  simp [execOp, opB, hx, h1, binOp, Op.intCmp, eqGuard_flat]
theorem run_not {a : Act} {w : World} {b : Bool} {d : Nat} {x : Operand} {tI t : TypeId} {ps : String} {af : Array Edge} (hx : a.eval x = .bool b) : (execOp a.eval (opB d (.unOp .not tI x) t ps af)).run P w = .ok (.value (.bool !b)) w := by
  simp [execOp, opB, hx, Op.unary]

theorem run_lenS {T : Tab P} {a : Act} {w : World} {D : Nat → Prop} {u : Value} {rows : List (List PV)} {E : List (Nat × Value)} {N d t : Nat} {ty : TypeId} {ps : String} {af : Array Edge} {z : Nat × Nat × Nat} (h : Has N E a) (ht : lku E t = some u) (hD : ∀ b, D b → b < w.heap.size) (hr : RD w D (.sl size full rows) u)
    (hz : lku T.els tS = some z) : (execOp a.eval (opB d (.call { callee := .builtin .len, args := #[.tmp t], argTypes := #[tS] }) ty ps af)).run P w = .ok (.value (.int .i64 (rows.length : Nat))) w := by
  obtain ⟨v, h1, h2⟩ := eval_nil (P := P) (T := T) (o := opB d (.call { callee := .builtin .len, args := #[.tmp t], argTypes := #[tS] }) ty ps af) hD (h.inv (σ := fun _ => undef) ht (.d hr)) (p := .v (.int .i64 (rows.length : Nat))) (by simp [ev1, opB, ev, lk, hz, lenE])
  obtain ⟨rfl, _⟩ := h2.flat_inv
  exact h1

theorem run_at {T : Tab P} {a : Act} {w : World} {D : Nat → Prop} {u : Value} {xs : List α} {E : List (Nat × Value)} {N d t t2 i : Nat} {ty : TypeId} {ps : String} {af : Array Edge} {y : α} (h : Has N E a) (ht : lku E t = some u) (ht2 : lku E t2 = some (.int .i64 (i : Nat)))
    (hr : RD w D (.sl size full (xs.map enc)) u) (hz : lku T.els tS = some (e, size, by_)) (hy : xs[i]? = some y) :
    ∃ v, (execOp a.eval (opB d (.indexAddr tS (.tmp t) (.tmp t2)) ty ps af)).run P w = .ok (.value v) w ∧ RD w D (.el (enc y) 0) v := by
  obtain ⟨hel, inf, hinf, hsz, _⟩ := elOf_slice (T.hels _ (lku_mem hz))
  have hx := h.eval ht
  have hi := h.eval ht2
  have hrow : (xs.map enc)[i]? = some (enc y) := by simp [hy]
  have hlen : i < (xs.map enc).length := (List.getElem?_eq_some_iff.1 hrow).1
  generalize hrows : xs.map enc = rows at *
  cases hr with
  | nil => simp at hrow
  | sl f h1 h2 h3 h4 h5 h6 h7 =>
    rename_i ad cap
    have hil : (i : Int) < (rows.length : Int) := by omega
    refine ⟨.pointer (some (ad.add (i * size))), ?_, ?_⟩
    · simp [execOp, opB, hx, hi, Instr.indexAt, asIntOf, run_underlying hel, sizeOf, typeInfo, hinf, hsz]
      intro hh; omega
    · have := RD.el (w := w) (D := D) (row := enc y) (off := 0) (a := ad.add (i * size)) (fun j => f (i * size + j)) (by rw [block_add]; exact h4)
        (fun j c hc => by rw [add_add]; exact h6 _ _ _ _ hrow hc) (fun j c hc => h7 _ _ _ _ hrow hc)
      simpa [Addr.add] using this

theorem sl_len {w : World} {D : Nat → Prop} {u : Value} {rows : List (List PV)} (hr : RD w D (.sl size full rows) u) : rows.length ≤ maxLen := by
  cases hr with
  | nil => exact Nat.zero_le _
  | sl f h1 h2 => exact Nat.le_trans h1 h2

theorem three {E : List (Nat × Value)} {t : Nat} {v x y z : Value} (h : lku [(0, x), (1, y), (3, z)] t = some v) (h0 : lku E 0 = some x := by rfl) (h1 : lku E 1 = some y := by rfl) (h3 : lku E 3 = some z := by rfl) : lku E t = some v := by
  by_cases e0 : t = 0
  · subst e0; exact h0.trans h
  by_cases e1 : t = 1
  · subst e1; exact h1.trans h
  by_cases e3 : t = 3
  · subst e3; exact h3.trans h
  simp only [lku, beq_no (Ne.symm e0), beq_no (Ne.symm e1), beq_no (Ne.symm e3), cond_false] at h
  cases h

theorem back_in (hf : P.funcs[g]? = some fn) (hb : fn.body = some (backCode tS tE tI tB tF)) (hn : fn.ntmps = 19) (hres : fn.results = #[]) (ht : lku T.els tS = some (e, size, by_))
    (hld : ∀ y, ev1 T [(15, .el (enc y) 0)] [] (.load tE (.tmp 15)) = some (enc' y)) {xs : List α} {l bB : Nat} {J : Nat → World → Prop} (hJ : BackJ P tS enc enc' size full xs l bB J) {w : World} (h0 : J xs.length w) :
    CallsIn Fence.wide 1 P g #[.func (.yield l) #[] #[], .pointer (some ⟨bB, 0, none⟩)] w fun e W' => (∃ v, e = .returned v) ∧ J 0 W' := by
  refine callsIn_of_wp (F := FR none) hf hb trivial ?_
  have ha : Has 19 [(0, .func (.yield l) #[] #[]), (1, .pointer (some ⟨bB, 0, none⟩))] { tmps := #[.func (.yield l) #[] #[], .pointer (some ⟨bB, 0, none⟩)] ++ Array.replicate (fn.ntmps - 2) undef, defers := [] } := by
    refine ⟨by simp [hn], rfl, fun t v h => ?_⟩
    have hz : t = 0 ∨ t = 1 := by
      by_cases e0 : t = 0
      · exact .inl e0
      · by_cases e1 : t = 1
        · exact .inr e1
        · simp only [lku, beq_no (Ne.symm e0), beq_no (Ne.symm e1), cond_false] at h; cases h
    rcases hz with rfl | rfl
    · cases h; rw [Array.getElem?_append_left (by simp)]; rfl
    · cases h; rw [Array.getElem?_append_left (by simp)]; rfl
  generalize ({ tmps := #[.func (.yield l) #[] #[], .pointer (some ⟨bB, 0, none⟩)] ++ Array.replicate (fn.ntmps - #[Value.func (.yield l) #[] #[], .pointer (some ⟨bB, 0, none⟩)].size) undef, defers := [] } : Act) = a at *
  have hfin : ∀ a W, a.defers = [] → J 0 W → bodyPost P fn (fun e W' => (∃ v, e = Ending.returned v) ∧ J 0 W') .normal a W := fun a W h1 h2 => ⟨h1, _, results_none hres _ _ _, ⟨_, rfl⟩, h2⟩
  have back : ∀ (k : Nat) (a : Act), k ≤ xs.length → Has 19 [(0, .func (.yield l) #[] #[]), (1, .pointer (some ⟨bB, 0, none⟩)), (3, .int .i64 ((k : Int) - 1))] a → ∀ W, J k W →
      (Code.loop (.seq (.seq (.region 1 (back1 tI tB).toArray false) (.cond (.tmp 8) .skip (.exit 0))) (.seq (.block 1 (.seq (.region 3 (back3 tS tE tI tB tF).toArray false) (.cond (.tmp 18) .ret .skip))) (.region 2 (back2 tI).toArray false)))).wpIn (FR none) 1 P
        (Exit.inBlock 0 (bodyPost P fn (fun e W' => (∃ v, e = Ending.returned v) ∧ J 0 W'))) a W := by
    intro k a hk ha W hj
    refine wpIn_loop (fun a w => ∃ k : Nat, k ≤ xs.length ∧ Has 19 [(0, .func (.yield l) #[] #[]), (1, .pointer (some ⟨bB, 0, none⟩)), (3, .int .i64 ((k : Int) - 1))] a ∧ J k w) (fun a _ => (match a.eval (.tmp 3) with | .int _ n => (n + 1).toNat | _ => 0)) ⟨k, hk, ha, hj⟩ ?_
    rintro a w ⟨k, hk, ha, hj⟩
    have hm : (match a.eval (.tmp 3) with | .int _ n => (n + 1).toNat | _ => 0) = k := by
      rw [ha.eval (t := 3) rfl]; simp only []; omega
    rw [hm]
    obtain ⟨D, u, hD, hu, hru, hyield⟩ := hJ k w hj
    have hmax := sl_len hru
    rw [List.length_map] at hmax
    refine wpIn_seq (wpIn_seq (wpIn_region_lit ?_))
    refine op_has _ ha (run_move (ha.eval (t := 3) rfl)) (by omega) rfl fun a1 h1 => ?_
    refine op_has _ h1 (run_geq (h1.eval (t := 7) rfl)) (by omega) rfl fun a2 h2 => ?_
    refine wpListIn_nil ?_
    cases k with
    | zero =>
      refine wpIn_cond_false (h2.eval (t := 8) rfl) (wpIn_exit ?_)
      exact hfin _ _ h2.defers hj
    | succ k' =>
      refine wpIn_cond_true (by rw [h2.eval (t := 8) rfl]; simp) (wpIn_skip ?_)
      refine wpIn_seq (wpIn_block (wpIn_seq (wpIn_region_lit ?_)))
      have e3 : ((k' + 1 : Nat) : Int) - 1 = (k' : Nat) := by omega
      rw [e3] at h2
      obtain ⟨y, hy⟩ : ∃ y, xs[k']? = some y := ⟨_, List.getElem?_eq_getElem (by omega)⟩
      refine op_has _ h2 (run_move (h2.eval (t := 0) rfl)) (by omega) rfl fun a3 h3 => ?_
      refine op_has _ h3 (run_move (h3.eval (t := 3) rfl)) (by omega) rfl fun a4 h4 => ?_
      refine op_has _ h4 (run_load (h4.eval (t := 1) rfl) hu) (by omega) rfl fun a5 h5 => ?_
      refine op_has _ h5 (run_move (h5.eval (t := 3) rfl)) (by omega) rfl fun a6 h6 => ?_
      obtain ⟨v7, r7, d7⟩ := run_at (T := T) (d := 15) (ty := 0) (ps := "iter.go:29") (af := #[ed 2, ed 3]) h6 (t := 13) rfl (t2 := 14) (i := k') rfl hru ht hy
      refine op_has _ h6 r7 (by omega) rfl fun a7 h7 => ?_
      obtain ⟨v8, r8, d8⟩ := eval_nil (P := P) (T := T) (o := opB 16 (.load tE (.tmp 15)) tE "iter.go:29" #[ed 4]) (p := enc' y) hD (h7.inv (σ := fun _ => undef) (t := 15) rfl (.d d7)) (hld y)
      refine op_has _ h7 r8 (by omega) rfl fun a8 h8 => ?_
      obtain ⟨fn', tm', as', bd', hyr, hround⟩ := hyield k' y v8 rfl hy d8
      refine wpListIn_plain rfl fun K hK => ⟨fun _ _ => trivial, ?_⟩
      rw [Oper.semAt_eq _ _ _ (noDefer_ok rfl)]
      have hcall : (execOp a8.eval (opB 17 (.call { callee := .value (.tmp 11), args := #[.tmp 12, .tmp 16], argTypes := #[tI, tE] }) tB "iter.go:29" #[ed 0, ed 1, ed 5])).run P w = .ok (.round l fn' tm' as' bd') w := by
        have q1 := h8.eval (t := 11) rfl
        have q2 := h8.eval (t := 12) rfl
        have q3 := h8.eval (t := 16) rfl
        simp [execOp, opB, resolve, q1, q2, q3, Deferred.ofValue, invoke, hyr]
      rw [hcall, Oper.uponIn_round]
      refine ⟨fun h => (by cases h), RoundIn.mono hround fun e W' he => ?_⟩
      obtain ⟨rfl, hj'⟩ := he
      refine hK _ _ ?_
      have h9 := h8.put (d := 17) (v := .bool true) (by omega)
      refine op_has _ h9 (run_not (h9.eval (t := 17) rfl)) (by omega) rfl fun a10 h10 => ?_
      refine wpListIn_nil ?_
      refine wpIn_cond_false (h10.eval (t := 18) rfl) (wpIn_skip ?_)
      refine wpIn_region_lit ?_
      refine op_has _ h10 (run_move (h10.eval (t := 3) rfl)) (by omega) rfl fun a11 h11 => ?_
      refine op_has _ h11 (run_pred (h11.eval (t := 9) rfl) (by omega)) (by omega) rfl fun a12 h12 => ?_
      refine op_has _ h12 (run_assign (h12.eval (t := 10) rfl)) (by omega) rfl fun a13 h13 => ?_
      refine wpListIn_nil ?_
      refine ⟨⟨k', by omega, ⟨h13.size, h13.defers, fun t v htv => ?_⟩, hj'⟩, ?_⟩
      · refine h13.has t v ?_
        exact three htv
      · rw [h13.eval (t := 3) rfl]; simp only []; omega
  obtain ⟨D, u, hD, hu, hru, _⟩ := hJ _ w h0
  have hmax := sl_len hru
  rw [List.length_map] at hmax
  refine wpIn_seq (wpIn_region_lit ?_)
  refine op_has _ ha (run_load (ha.eval (t := 1) rfl) hu) (by omega) rfl fun a1 h1 => ?_
  refine op_has _ h1 (run_lenS (T := T) h1 (t := 4) rfl hD hru ht) (by omega) rfl fun a2 h2 => ?_
  rw [List.length_map] at h2
  refine op_has _ h2 (run_pred (h2.eval (t := 5) rfl) hmax) (by omega) rfl fun a3 h3 => ?_
  refine op_has _ h3 (run_assign (h3.eval (t := 6) rfl)) (by omega) rfl fun a4 h4 => ?_
  refine wpListIn_nil ?_
  refine wpIn_block (back xs.length a4 (Nat.le_refl _) ⟨h4.size, h4.defers, fun t v htv => ?_⟩ w h0)
  refine h4.has t v ?_
  exact three htv

end back

/-! ## The statement -/
section stmt
variable {ρ : Type} {G : Ctx ρ}

/-- Behind what turned no more than the blocks' own, the outer state is as it was. -/
theorem Pre'.over {N1 : List Nat} {E : Env} {S S2 : Store} {a : Act} {w w2 : World} {σ σ2 : Nat → Value} {φ φ2 : Nat → Nat → Prop} (hp : Pre' G E S a w σ φ) (hi : Inv G.X σ2 φ2 w2 S2) (hfr : Fr w (foot φ S) w2)
    (hag : ∀ n ∈ N1, σ2 n = σ n) (hnew : ∀ b, foot φ2 S2 b → b < w.heap.size → foot φ S b) (hE : ∀ t p, lk E t = some p → ∀ n ∈ names p, n ∈ N1) (hN : ∀ n ∈ G.N0, n ∈ N1) :
    Pre' G E S2 a w2 σ2 φ2 ∧ (∀ b, Dof G.X φ w S b → Dof G.X φ2 w2 S2 b ∧ w2.heap[b]? = w.heap[b]?) := by
  have hD : ∀ b, Dof G.X φ w S b → Dof G.X φ2 w2 S2 b ∧ w2.heap[b]? = w.heap[b]? := fun b ⟨h1, h2, h3⟩ => by
    have hnf : ¬ foot φ S b := fun ⟨n, k, hm, hf⟩ => h3 n k hm hf
    have := hfr.size
    exact ⟨⟨by omega, h2, fun n k hm hf => hnf (hnew b ⟨n, k, hm, hf⟩ h1)⟩, hfr.block b h1 hnf⟩
  refine ⟨⟨hp.dk fun b h1 h2 => hfr.block b h1 h2, hp.size, fun t p ht => ?_, hi, ?_, fun n hn => (hag n (hN n hn)).trans (hp.agree n hn), fun b hf hlt => ?_⟩, hD⟩
  · obtain ⟨u, hu, hr⟩ := hp.env t p ht
    exact ⟨u, hu, (hr.mono hD).agree fun n hn => hag n (hE t p ht n hn)⟩
  · have := hp.fr.size
    have := hfr.size
    refine ⟨hfr.os.trans hp.fr.os, hfr.tape.trans hp.fr.tape, hfr.output.trans hp.fr.output, by omega, fun b hb hx => ?_⟩
    exact (hfr.block b (by omega) fun hf => hx (hp.new b hf hb)).trans (hp.fr.block b hb hx)
  · have := hp.fr.size
    exact hp.new b (hnew b hf (by omega)) hlt

/-- A block that holds no cells turns, or new ones are laid. -/
structure Turn (z : Nat) (ks : List Nat) (w w' : World) : Prop where
  os : w'.os = w.os
  tape : w'.tape = w.tape
  output : w'.output = w.output
  size : w.heap.size ≤ w'.heap.size
  old : ∀ b, b < w.heap.size → b ∉ ks → w'.heap[b]? = w.heap[b]?
  ks : ∀ b ∈ ks, z ≤ b ∧ b < w.heap.size ∧ ∃ r : Loop, w.heap[b]? = some (.loop r)

theorem Turn.keeps {z : Nat} {ks : List Nat} {w w' : World} (ht : Turn z ks w w') {X : Nat → Prop} {σ : Nat → Value} {φ : Nat → Nat → Prop} {S : Store} (hi : Inv X σ φ w S) :
    Inv X σ φ w' S ∧ (∀ p u, R σ w (Dof X φ w S) p u → R σ w' (Dof X φ w' S) p u) ∧ ∀ p u, RD w (Dof X φ w S) p u → RD w' (Dof X φ w' S) p u := by
  have nc : ∀ b ∈ ks, plainO w.heap[b]? = false := fun b hb => by obtain ⟨_, _, r, h⟩ := ht.ks b hb; rw [h]; rfl
  have hc : ∀ ad v, w.cell? ad = some v → w'.cell? ad = some v := fun ad v hv => by
    have hk : ad.block ∉ ks := fun hk => by obtain ⟨_, _, r, h⟩ := ht.ks _ hk; simp only [World.cell?, h] at hv; cases hv
    have hl : ad.block < w.heap.size := Classical.byContradiction fun h => by
      simp only [World.cell?, Array.getElem?_eq_none (Nat.le_of_not_lt h)] at hv; cases hv
    simp only [World.cell?, ht.old _ hl hk] at hv ⊢
    exact hv
  have hs := ht.size
  have hD : ∀ b, Dof X φ w S b → Dof X φ w' S b := fun b ⟨a1, a2, a3⟩ => ⟨by omega, a2, a3⟩
  have hf : ∀ b, foot φ S b → w'.heap[b]? = w.heap[b]? := fun b hf => by
    have h1 := hi.plain hf
    exact ht.old b (hi.lt b hf).1 fun hk => by have := nc b hk; unfold plainO at this; rw [this] at h1; cases h1
  exact ⟨⟨hi.nodup, fun b hb => by have := hi.xlt b hb; omega, fun b h => ⟨by have := (hi.lt b h).1; omega, (hi.lt b h).2⟩, hi.disj,
      fun n k hm => (hi.ok n k hm).cells hD hc fun b hb => hf b ⟨n, k, hm, hb⟩⟩, fun p u hr => hr.cells hD hc, fun p u hr => hr.cells hD hc⟩

theorem Turn.marks {z y : Nat} {ks : List Nat} {w w' : World} (ht : Turn z ks w w') {ds : List Deferred} (h : DOk y ds w) : DOk y ds w' := by
  obtain ⟨bs, h1, h2, h3⟩ := h
  refine ⟨bs, h1, h2, fun b hb => ⟨(h3 b hb).1, ?_⟩⟩
  rw [ht.old b (Array.getElem?_eq_some_iff.1 (h3 b hb).2).1 fun hk => by obtain ⟨_, _, r, h⟩ := ht.ks b hk; rw [(h3 b hb).2] at h; cases h]
  exact (h3 b hb).2

theorem Pre'.tick {E : Env} {S : Store} {a : Act} {w w' : World} {σ : Nat → Value} {φ : Nat → Nat → Prop} {ks : List Nat} (ht : Turn G.w0.heap.size ks w w') (hp : Pre' G E S a w σ φ) :
    Pre' G E S a w' σ φ := by
  obtain ⟨h1, h2, _⟩ := ht.keeps hp.inv
  refine ⟨ht.marks hp.defers, hp.size, fun t p h => let ⟨u, hu, hr⟩ := hp.env t p h; ⟨u, hu, h2 _ _ hr⟩, h1, ?_, hp.agree, hp.new⟩
  have hs := ht.size
  refine ⟨ht.os.trans hp.fr.os, ht.tape.trans hp.fr.tape, ht.output.trans hp.fr.output, by have := hp.fr.size; omega, fun b hb hx => ?_⟩
  have := hp.fr.size
  rw [ht.old b (by omega) fun hk => by have := (ht.ks b hk).1; omega]
  exact hp.fr.block b hb hx

theorem turn_put {z l : Nat} {w : World} {r : Loop} {o : Obj} (hl : w.heap[l]? = some (.loop r)) (hz : z ≤ l) : Turn z [l] w (w.putObj l o) :=
  ⟨rfl, rfl, rfl, by simp, fun b _ hb => World.putObj_heap_other fun e => hb (by simp [e]), fun b hb => by
    simp only [List.mem_singleton] at hb; subst hb; exact ⟨hz, (Array.getElem?_eq_some_iff.1 hl).1, r, hl⟩⟩

/-- Fewer blocks are barred. -/
theorem Pre'.unbar {X' : Nat → Prop} {E : Env} {S : Store} {a : Act} {w : World} {σ : Nat → Value} {φ : Nat → Nat → Prop} (hX : ∀ b, G.X b → X' b) (hp : Pre' { G with X := X' } E S a w σ φ) : Pre' G E S a w σ φ := by
  have hD : ∀ b, Dof X' φ w S b → Dof G.X φ w S b := fun b ⟨h1, h2, h3⟩ => ⟨h1, fun h => h2 (hX b h), h3⟩
  exact ⟨hp.defers, hp.size, fun t p h => let ⟨u, hu, hr⟩ := hp.env t p h; ⟨u, hu, hr.mono fun b hb => ⟨hD b hb, rfl⟩⟩,
    ⟨hp.inv.nodup, fun b hb => hp.inv.xlt b (hX b hb), fun b hf => ⟨(hp.inv.lt b hf).1, fun h => (hp.inv.lt b hf).2 (hX b h)⟩, hp.inv.disj, fun n k hm => (hp.inv.ok n k hm).mono hD⟩, hp.fr, hp.agree, hp.new⟩
theorem fn_loc {σ : Nat → Value} {w : World} {D : Nat → Prop} {g n : Nat} {u : Value} (h : R σ w D (.fn (.func g) [] [.loc n 0]) u) : ∃ b, hdrB (σ n) = some b ∧ u = .func (.func g) #[] #[.pointer (some ⟨b, 0, none⟩)] := by
  cases h with
  | d h => cases h
  | fn h1 h2 h3 h4 =>
    rename_i us vs
    match us, vs, h1, h2, h4 with
    | [], [v], _, _, h4 =>
      have := h4 0 _ _ rfl rfl
      cases this with
      | d h => cases h
      | loc hs => exact ⟨_, hs, rfl⟩

def namesIn (N1 : List Nat) (E : Env) : Bool := E.all fun x => (names x.2).all fun n => N1.any (Nat.beq n)
theorem namesIn_ok {N1 : List Nat} {E : Env} (h : namesIn N1 E = true) {t : Nat} {p : PV} (ht : lk E t = some p) : ∀ n ∈ names p, n ∈ N1 := by
  have hm : (t, p) ∈ E := by
    clear h
    induction E with
    | nil => simp [lk] at ht
    | cons x E ih =>
      obtain ⟨k, q⟩ := x
      simp only [lk] at ht
      by_cases e : k = t
      · subst e; simp at ht; subst ht; simp
      · simp only [beq_no e, cond_false] at ht; exact List.mem_cons_of_mem _ (ih ht)
  have := List.all_eq_true.1 h _ hm
  intro n hn
  exact any_beq.1 (List.all_eq_true.1 this n hn)

theorem alloc_old {w : World} {o : Obj} {b : Nat} (h : b < w.heap.size) : (w.alloc o).heap[b]? = w.heap[b]? := by
  show (w.heap.push o)[b]? = _
  rw [Array.getElem?_push_lt h]; simp [h]

theorem pw_back {T : Tab G.P} {α β : Type} {enc : α → List PV} {enc' : α → PV} {e size by_ : Nat} {full : Bool} {g : FuncId} {fn : Func} {tS tE tI tB tF : TypeId} {E E0 : Env} {S : Store} {K : List (Kont ρ)} {xs : List α}
    (M : Nat → β → Option ρ) (Sf : β → Store) (N1 : List Nat) (E1 : Nat → α → Env) {gop : Operand} {t1 t2 : Tmp} {ida idb idr n : Nat} {opsA opsB : List Oper} {x0 : β}
    (hf : G.P.funcs[g]? = some fn) (hb : fn.body = some (backCode tS tE tI tB tF)) (hn : fn.ntmps = 19) (hres : fn.results = #[]) (hcl : callable G.P g = true) (ht : lku T.els tS = some (e, size, by_)) (hty : lku T.tys tS = some (false, 1))
    (hld : ∀ y, ev1 T [(15, .el (enc y) 0)] [] (.load tE (.tmp 15)) = some (enc' y)) (hdat : ∀ y, datP (enc' y) = true)
    (hg : ev E gop = some (.fn (.func g) [] [.loc n 0])) {ty : Nat} (hbx : lkS S n = some (.box ty [.sl size full (xs.map enc)]))
    (hE0 : SubL E0 E) (hN : namesIn N1 E0 = true) (hN0 : subN G.N0 N1 = true) (hS0 : SubSL (Sf x0) S) (hSn : nodupB ((Sf x0).map (·.1)) = true) (hnS : (Sf x0).any (fun x => Nat.beq n x.1) = false)
    (hlt1 : Nat.blt t1 G.fn.ntmps = true) (hlt2 : Nat.blt t2 G.fn.ntmps = true) (hdA : opsA.all (fun o => noDefer o.op) = true) (hdB : opsB.all (fun o => noDefer o.op) = true)
    (hA : ∀ (k : Nat) (y : α) (x : β), xs[k]? = some y → ∀ w0 X X0 σ0 hl ro, PO (⟨G.P, G.fn, w0, X, X0, σ0, N1, fun _ _ _ => True, G.dz, G.L, hl, ro⟩ : Ctx Unit) (some ()) opsA.toArray opsA [.iter fun _ a w => Pre (⟨G.P, G.fn, w0, X, X0, σ0, N1, fun _ _ _ => True, G.dz, G.L, hl, ro⟩ : Ctx Unit) (E1 k y) (Sf x) a w]
      ((t2, enc' y) :: (t1, .v (.int .i64 (k : Nat))) :: E0) (Sf x))
    (hB : ∀ (k : Nat) (y : α) (x : β), xs[k]? = some y → ∀ w0 X X0 σ0 hl ro, PO (⟨G.P, G.fn, w0, X, X0, σ0, N1, fun _ _ _ => True, G.dz, G.L, hl, ro⟩ : Ctx ρ) (M (k + 1) x) opsB.toArray opsB [.iter (Head (⟨G.P, G.fn, w0, X, X0, σ0, N1, fun _ _ _ => True, G.dz, G.L, hl, ro⟩ : Ctx ρ) (M k) (fun _ => []) Sf)] (E1 k y) (Sf x))
    (hend : ∀ x, PN G (M 0 x) K E0 (Sf x)) (hz : G.dz = G.w0.heap.size + 1 := by rfl) (hro : G.ro = none := by rfl) :
    PW G (M xs.length x0) (.rangeFunc gop #[t1, t2] (.region ida opsA.toArray false) (.block idb (.region idr opsB.toArray false))) K E S := by
  intro r hr a w ⟨σ, φ, hp⟩
  obtain ⟨bB, hbB, hgv⟩ := fn_loc (ev_ok hp.env hg)
  have hSS : SubS (Sf x0) S := subS_of hS0 hSn
  obtain ⟨b', us, hσn, hφn, hul, ⟨fr0, hcell, hfr0⟩, hcr⟩ := hp.inv.ok n _ (lkS_mem hbx)
  have : b' = bB := by rw [hdrB_box hσn] at hbB; simpa using hbB
  subst this
  obtain ⟨u0, rfl⟩ : ∃ u0, us = [u0] := by
    match us, hul with
    | [u], _ => exact ⟨u, rfl⟩
  have hu0 : RD w (Dof G.X φ w S) (.sl size full (xs.map enc)) u0 := (hcr 0 _ _ rfl rfl).toRD rfl
  let X' : Nat → Prop := fun b => G.X b ∨ (foot φ S b ∧ ¬ foot φ (Sf x0) b)
  have hD0 : ∀ b, Dof G.X φ w S b → Dof X' φ w (Sf x0) b := fun b ⟨h1, h2, h3⟩ => ⟨h1, fun h => by
    rcases h with h | ⟨⟨m, k, hm, hf⟩, _⟩
    · exact h2 h
    · exact h3 m k hm hf, fun m k h => h3 m k (hSS.1 _ h)⟩
  let Gx : Ctx ρ := { G with X := X' }
  have hpx : Pre' Gx E0 (Sf x0) a w σ φ := by
    refine ⟨hp.defers, hp.size, fun t p h => let ⟨u, hu, hr⟩ := hp.env t p (sub_of hE0 t p h); ⟨u, hu, hr.mono fun b hb => ⟨hD0 b hb, rfl⟩⟩, ?_, hp.fr, hp.agree, fun b hf => hp.new b (let ⟨m, k, h1, h2⟩ := hf; ⟨m, k, hSS.1 _ h1, h2⟩)⟩
    refine ⟨hSS.2, fun b hb => ?_, fun b hf => ?_, fun m1 m2 k l h1 h2 => hp.inv.disj m1 m2 k l (hSS.1 _ h1) (hSS.1 _ h2), fun m k hm => (hp.inv.ok m k (hSS.1 _ hm)).mono hD0⟩
    · rcases hb with hb | ⟨h, _⟩
      · exact hp.inv.xlt b hb
      · exact (hp.inv.lt b h).1
    · have hf' : foot φ S b := let ⟨m, k, h1, h2⟩ := hf; ⟨m, k, hSS.1 _ h1, h2⟩
      exact ⟨(hp.inv.lt b hf').1, fun h => by
        rcases h with h | ⟨_, h⟩
        · exact (hp.inv.lt b hf').2 h
        · exact h hf⟩
  have hXB : X' b' := .inr ⟨⟨n, _, lkS_mem hbx, (hφn b').2 rfl⟩, fun ⟨m, k, hm, hf⟩ => by
    have hne : n ≠ m := fun e => by
      have : (Sf x0).any (fun x => Nat.beq n x.1) = true := List.any_eq_true.2 ⟨(m, k), hm, by simp [e]⟩
      rw [hnS] at this; cases this
    exact hp.inv.disj n m _ k (lkS_mem hbx) (hSS.1 _ hm) hne b' ((hφn b').2 rfl) hf⟩
  have hsz : G.w0.heap.size ≤ w.heap.size := hp.fr.size
  rw [hro]
  refine wpIn_n (n := 1) (wpIn_rangeFunc ?_)
  intro fnn _
  obtain ⟨rec, hrec⟩ : ∃ rec : LoopState → Option Code → Loop, rec = fun st pe => { state := st, pending := pe, fn := fnn, tmps := a.tmps, params := #[t1, t2], assign := .region ida opsA.toArray false, body := .block idb (.region idr opsB.toArray false), defers := w.heap.size } := ⟨_, rfl⟩
  obtain ⟨w1, hw1⟩ : ∃ w1, (w.alloc (.deferred (some []))).alloc (.loop (rec .ready none)) = w1 := ⟨_, rfl⟩
  have hL1 : w1.heap[w.heap.size + 1]? = some (.loop (rec .ready none)) := by
    rw [← hw1]; have := World.alloc_heap_new (w.alloc (.deferred (some []))) (.loop (rec .ready none)); rwa [World.size_alloc] at this
  have hold1 : ∀ b, b < w.heap.size → w1.heap[b]? = w.heap[b]? := fun b hb => by
    rw [← hw1]
    exact (alloc_old (by simp; omega)).trans (alloc_old hb)
  have hK1 : w1.heap[w.heap.size]? = some (.deferred (some [])) := by
    rw [← hw1]; exact (alloc_old (by simp)).trans (World.alloc_heap_new w _)
  have hsz1 : w1.heap.size = w.heap.size + 2 := by rw [← hw1]; simp
  have turn1 : Turn G.w0.heap.size [] w w1 := ⟨by rw [← hw1]; rfl, by rw [← hw1]; rfl, by rw [← hw1]; rfl, by omega, fun b hb _ => hold1 b hb, fun b hb => by simp at hb⟩
  -- what is so between two rounds
  let J : Nat → World → Prop := fun k W => ∃ x σ' φ', M k x = some r ∧ Pre' Gx E0 (Sf x) a W σ' φ' ∧ W.heap[w.heap.size + 1]? = some (.loop (rec .ready none)) ∧ W.heap[w.heap.size]? = some (.deferred (some [])) ∧
    W.heap[b']? = some (.cells ⟨[u0]⟩ ty fr0) ∧ RD W (Dof X' φ' W (Sf x)) (.sl size full (xs.map enc)) u0
  have hplain : ∀ {W : World} {σ' φ' S'} {b : Nat}, Inv X' σ' φ' W S' → plainO W.heap[b]? = false → ¬ foot φ' S' b := fun hi hpl hf => by
    have := hi.plain hf; unfold plainO at hpl; rw [hpl] at this; cases this
  have hNN : ∀ m ∈ G.N0, m ∈ N1 := fun m hm => subN_ok hN0 m hm
  have hEN : ∀ t p, lk E0 t = some p → ∀ m ∈ names p, m ∈ N1 := fun t p h => namesIn_ok hN h
  -- one round
  have hback : BackJ G.P tS enc enc' size full xs (w.heap.size + 1) b' J := by
    rintro k W ⟨x, σ', φ', hM, hpW, hLW, hKW, hBW, hRW⟩
    refine ⟨Dof X' φ' W (Sf x), u0, fun b h => h.1, ?_, hRW, fun k' y v hk hy hv => ?_⟩
    · have q1 : (isAgg tS).run G.P W = .ok false W := (run_isAgg (w := W) (T.htys _ (lku_mem hty))).1
      have : W.cell? ⟨b', 0, none⟩ = some u0 := cell_of_cells hBW
      simp [Instr.loadAt, Instr.sureAddr, loadVar, q1, this]
    subst hk
    have hv' : RD W (Dof X' φ' W (Sf x)) (enc' y) v := hv.toRD (hdat y)
    have hyr := run_yield (P := G.P) (args := #[.int .i64 (k' : Nat), v]) hLW (by rw [hrec]; rfl)
    rw [hrec] at hyr
    refine ⟨fnn, _, _, _, hyr, roundIn_of_wpIn trivial ?_⟩
    obtain ⟨ar, har⟩ : ∃ ar : Act, ar = ((({ tmps := a.tmps, defers := [] } : Act).put (some t1) (.int .i64 (k' : Nat))).put (some t2) v) := ⟨_, rfl⟩
    have hpr : Pre' Gx ((t2, enc' y) :: (t1, .v (.int .i64 (k' : Nat))) :: E0) (Sf x) ar W σ' φ' := by
      have p0 : Pre' Gx E0 (Sf x) { tmps := a.tmps, defers := [] } W σ' φ' := { hpW with defers := DOk.nil _ _, size := hpW.size, env := hpW.env }
      rw [har]
      exact (p0.put (blt_lt hlt1) (.d (.v rfl))).put (blt_lt hlt2) (.d hv')
    have har' : ({ tmps := (Array.zip #[t1, t2] #[.int .i64 (k' : Nat), v]).foldl (fun tmps (t, a) => tmps.setIfInBounds t a) a.tmps, defers := [] } : Act) = ar := by rw [har]; simp [Act.put]
    rw [har']
    have hlW : Lay G.L (fun b => ¬ foot φ' (Sf x) b) W := hpW.laid (G := Gx) fun b h => h
    have notp : ∀ c a w, ¬ kwp (⟨G.P, G.fn, W, X', foot φ' (Sf x), σ', N1, fun _ _ _ => True, G.dz, G.L, hlW, some (w.heap.size + 1)⟩ : Ctx Unit) () [.iter fun _ a w => Pre (⟨G.P, G.fn, W, X', foot φ' (Sf x), σ', N1, fun _ _ _ => True, G.dz, G.L, hlW, some (w.heap.size + 1)⟩ : Ctx Unit) (E1 k' y) (Sf x) a w] (.panic c) a w := fun c a w h => kwp_panic h
    have noto : ∀ a w, ¬ kwp (⟨G.P, G.fn, W, X', foot φ' (Sf x), σ', N1, fun _ _ _ => True, G.dz, G.L, hlW, some (w.heap.size + 1)⟩ : Ctx Unit) () [.iter fun _ a w => Pre (⟨G.P, G.fn, W, X', foot φ' (Sf x), σ', N1, fun _ _ _ => True, G.dz, G.L, hlW, some (w.heap.size + 1)⟩ : Ctx Unit) (E1 k' y) (Sf x) a w] .outgrown a w := fun a w h => kwp_outgrown h
    have hopA := hA k' y x hy W X' (foot φ' (Sf x)) σ' hlW (some (w.heap.size + 1)) () rfl ar W ⟨σ', φ', hpr.defers, hpr.size, hpr.env, hpr.inv, Fr.refl _ _, fun _ _ => rfl, fun b hb _ => hb⟩
    refine wpIn_region_lit (F := FR (some (w.heap.size + 1))) ?_
    have := list_in (ro := some (w.heap.size + 1)) (n := 0) (l2 := []) (Q' := Exit.then (fun a₁ w₁ => ∃ w₂, (Instr.beginRound (w.heap.size + 1)).run G.P w₁ = .ok () w₂ ∧ (Code.block idb (.region idr opsB.toArray false)).wpIn (Fence.wide.inRound (w.heap.size + 1)) 0 G.P (roundPost G.P (w.heap.size + 1) fun e W' => e = .returned (.bool true) ∧ J k' W') a₁ w₂) (fun _ _ _ => False))
      notp noto ?_ hdA hopA
    · rw [List.append_nil] at this; exact this
    rintro a1 w1' ⟨σ1, φ1, hp1⟩
    refine wpListIn_nil ?_
    obtain ⟨o1, d1⟩ := Pre'.over (N1 := N1) hpW hp1.inv hp1.fr hp1.agree hp1.new hEN hNN
    have hLlt := (Array.getElem?_eq_some_iff.1 hLW).1
    have hKlt := (Array.getElem?_eq_some_iff.1 hKW).1
    have hBlt := (Array.getElem?_eq_some_iff.1 hBW).1
    have hL1' := (hp1.fr.block _ hLlt (hplain hpW.inv (by rw [hLW]; rfl))).trans hLW
    have hK1' := (hp1.fr.block _ hKlt (hplain hpW.inv (by rw [hKW]; rfl))).trans hKW
    have hB1' := (hp1.fr.block _ hBlt (fun h => (hpW.inv.lt _ h).2 hXB)).trans hBW
    have hR1 := RD.mono d1 hRW
    have tb : Turn G.w0.heap.size [w.heap.size + 1] w1' (w1'.putObj (w.heap.size + 1) (.loop { rec .ready none with state := .busy })) := turn_put hL1' (by omega)
    refine ⟨_, run_beginRound hL1' (by rw [hrec]), ?_⟩
    generalize hw2 : w1'.putObj (w.heap.size + 1) (.loop { rec .ready none with state := .busy }) = w2 at *
    have hL2 : w2.heap[w.heap.size + 1]? = some (.loop { rec .ready none with state := .busy }) := by rw [← hw2]; exact World.putObj_heap_same (Array.getElem?_eq_some_iff.1 hL1').1
    have hK2 := (tb.old _ (Array.getElem?_eq_some_iff.1 hK1').1 (by simp)).trans hK1'
    have hbn : b' ≠ w.heap.size + 1 := fun e => by rw [e, hL1'] at hB1'; cases hB1'
    have hB2 := (tb.old _ (Array.getElem?_eq_some_iff.1 hB1').1 (by simpa using hbn)).trans hB1'
    obtain ⟨i2, r2, rd2⟩ := tb.keeps hp1.inv
    have o2 := Pre'.tick (G := Gx) tb o1
    have hR2 := rd2 _ _ hR1
    have hl2 : Lay G.L (fun b => ¬ foot φ1 (Sf x) b) w2 := o2.laid (G := Gx) fun b h => h
    have notp2 : ∀ c a w, ¬ kwp (⟨G.P, G.fn, w2, X', foot φ1 (Sf x), σ1, N1, fun _ _ _ => True, G.dz, G.L, hl2, some (w.heap.size + 1)⟩ : Ctx ρ) r [.iter (Head (⟨G.P, G.fn, w2, X', foot φ1 (Sf x), σ1, N1, fun _ _ _ => True, G.dz, G.L, hl2, some (w.heap.size + 1)⟩ : Ctx ρ) (M k') (fun _ => []) Sf)] (.panic c) a w := fun c a w h => kwp_panic h
    have noto2 : ∀ a w, ¬ kwp (⟨G.P, G.fn, w2, X', foot φ1 (Sf x), σ1, N1, fun _ _ _ => True, G.dz, G.L, hl2, some (w.heap.size + 1)⟩ : Ctx ρ) r [.iter (Head (⟨G.P, G.fn, w2, X', foot φ1 (Sf x), σ1, N1, fun _ _ _ => True, G.dz, G.L, hl2, some (w.heap.size + 1)⟩ : Ctx ρ) (M k') (fun _ => []) Sf)] .outgrown a w := fun a w h => kwp_outgrown h
    have hopB := hB k' y x hy w2 X' (foot φ1 (Sf x)) σ1 hl2 (some (w.heap.size + 1)) r hM a1 w2 ⟨σ1, φ1, tb.marks hp1.defers, hp1.size, fun t p h => let ⟨u, hu, hr⟩ := hp1.env t p h; ⟨u, hu, r2 _ _ hr⟩, i2, Fr.refl _ _, fun _ _ => rfl, fun b hb _ => hb⟩
    refine wpIn_block (wpIn_region_lit (F := FR (some (w.heap.size + 1))) ?_)
    have := list_in (ro := some (w.heap.size + 1)) (n := 0) (l2 := []) (Q' := Exit.inBlock idb (roundPost G.P (w.heap.size + 1) fun e W' => e = .returned (.bool true) ∧ J k' W')) notp2 noto2 ?_ hdB hopB
    · rw [List.append_nil] at this; exact this
    rintro a3 w3 ⟨x', hM', σ3, φ3, hp3⟩
    refine wpListIn_nil ?_
    obtain ⟨o3, d3⟩ := Pre'.over (N1 := N1) o2 hp3.inv hp3.fr hp3.agree hp3.new hEN hNN
    have hL3 := (hp3.fr.block _ (Array.getElem?_eq_some_iff.1 hL2).1 (hplain i2 (by rw [hL2]; rfl))).trans hL2
    have hK3 := (hp3.fr.block _ (Array.getElem?_eq_some_iff.1 hK2).1 (hplain i2 (by rw [hK2]; rfl))).trans hK2
    have hB3 := (hp3.fr.block _ (Array.getElem?_eq_some_iff.1 hB2).1 (fun h => (i2.lt _ h).2 hXB)).trans hB2
    have hR3 := RD.mono d3 hR2
    have tr := run_endRound (P := G.P) none hL3
    have er : ({ ({ rec .ready none with state := .busy } : Loop) with state := if (none : Option Code).isNone then .ready else .done, pending := none } : Loop) = rec .ready none := by rw [hrec]; rfl
    rw [er] at tr
    have tc : Turn G.w0.heap.size [w.heap.size + 1] w3 (w3.putObj (w.heap.size + 1) (.loop (rec .ready none))) := turn_put hL3 (by omega)
    obtain ⟨i4, r4, rd4⟩ := tc.keeps hp3.inv
    exact ⟨_, _, tr, rfl, x', σ3, φ3, hM', Pre'.tick (G := Gx) tc o3, World.putObj_heap_same (Array.getElem?_eq_some_iff.1 hL3).1, (tc.old _ (Array.getElem?_eq_some_iff.1 hK3).1 (by simp)).trans hK3, (tc.old _ (Array.getElem?_eq_some_iff.1 hB3).1 (by simpa using hbn)).trans hB3, rd4 _ _ hR3⟩
  -- the whole
  have hb1 : w1.heap[b']? = some (.cells ⟨[u0]⟩ ty fr0) := (hold1 b' (Array.getElem?_eq_some_iff.1 hcell).1).trans hcell
  obtain ⟨i1, r1, rd1⟩ := turn1.keeps hpx.inv
  have hJ0 : J xs.length w1 := ⟨x0, σ, φ, hr, Pre'.tick (G := Gx) turn1 hpx, hL1, hK1, hb1, rd1 _ _ (hu0.mono fun b hb => ⟨hD0 b hb, rfl⟩)⟩
  have hcalls := back_in (T := T) (P := G.P) hf hb hn hres ht hld hback hJ0
  refine ⟨w.heap.size + 1, [{ target := .collected w.heap.size, args := #[] }], w1, { target := .fn (.func g) #[.pointer (some ⟨b', 0, none⟩)], args := #[.func (.yield (w.heap.size + 1)) #[] #[]] }, w1, g,
    #[.func (.yield (w.heap.size + 1)) #[] #[]] ++ #[.pointer (some ⟨b', 0, none⟩)], w1, ?_, ?_, fun _ _ => trivial, ?_, fun h => (by cases h), ?_⟩
  · rw [← hw1, hrec]; exact run_enterLoop_outer _ _ _ _ _
  · simp only [resolve, hgv]
    simp [Deferred.ofValue, Act.eval]
  · simp [invoke, run_callFunc hcl]
  refine callsIn_wide.2 ((callsIn_wide (n := 1)).1 (CallsIn.mono hcalls ?_))
  rintro e W ⟨⟨v, rfl⟩, x, σ', φ', hM, hpW, hLW, hKW, hBW, hRW⟩
  refine ⟨none, _, by have := run_endLoop (P := G.P) hLW (by rw [hrec]; simp); rw [hrec] at this; exact this, ?_⟩
  have te : Turn G.w0.heap.size [w.heap.size + 1] W (W.putObj (w.heap.size + 1) (.loop { rec .ready none with state := .exhausted })) := turn_put hLW (by omega)
  rw [hrec] at te
  have hfin : Pre' G E0 (Sf x) a _ σ' φ' := Pre'.unbar (G := G) (X' := X') (fun b hb => Or.inl hb) (Pre'.tick (G := Gx) te hpW)
  refine hend x r hM _ _ ⟨σ', φ', { hfin with defers := ?_, size := hfin.size, env := hfin.env }⟩
  obtain ⟨bs, h1, h2, h3⟩ := hfin.defers
  obtain ⟨bs0, h10, h20, h30⟩ := hp.defers
  refine ⟨w.heap.size :: bs, by rw [h1]; rfl, List.nodup_cons.2 ⟨fun hm => ?_, h2⟩, fun b hb => ?_⟩
  · have : mark w.heap.size ∈ bs0.map mark := by rw [← h10, h1]; exact List.mem_map.2 ⟨_, hm, rfl⟩
    obtain ⟨b0, hb0, e0⟩ := List.mem_map.1 this
    have : b0 = w.heap.size := by simp only [mark, Deferred.mk.injEq, Target.collected.injEq] at e0; exact e0.1
    subst this
    have := (Array.getElem?_eq_some_iff.1 (h30 _ hb0).2).1
    omega
  · rcases List.mem_cons.1 hb with rfl | hb
    · exact ⟨by omega, (te.old _ (Array.getElem?_eq_some_iff.1 hKW).1 (by simp)).trans hKW⟩
    · exact h3 b hb

theorem po_known {α : Type} {o : Option α} {f : α → Option ρ} {y : α} {all : Array Oper} {ops : List Oper} {K : List (Kont ρ)} {E : Env} {S : Store} (hy : o = some y) (h : PO G (f y) all ops K E S) : PO G (bnd o f) all ops K E S := by
  subst hy; exact h
end stmt

/-! ## slices.Backward -/
def backward0 (tS tF : TypeId) : List Oper := [opB 1 (.box tS (.tmp 0)) 0 "iter.go:26" #[], opB 2 (.assign (.const .nilFunc)) tF "iter.go:26" #[]]
def backward1 (tF tG : TypeId) (g : FuncId) : List Oper := [opB 3 (.makeFunc (.func g) #[] #[.tmp 1]) tG "iter.go:27" #[], opB 2 (.assign (.tmp 3)) tF "iter.go:27" #[ed 0, ep 0]]
def backwardCode (tS tF tG : TypeId) (g : FuncId) : Code := .seq (.region 0 (backward0 tS tF).toArray false) (.seq (.region 1 (backward1 tF tG g).toArray false) .ret)
theorem backward_fc {L : World → Prop} {P : Program} {f g : FuncId} {fn : Func} {tS tF tG : TypeId} (T : Tab P) (hf : P.funcs[f]? = some fn) (hb : fn.body = some (backwardCode tS tF tG g)) (hn : fn.ntmps = 4) (hres : fn.results = #[.tmp 2]) {size : Nat} {full : Bool} {rows : List (List PV)} :
    FC L P f [.sl size full rows] [] [] fun p S' => p = .fn (.func g) [] [.loc 1 0] ∧ S' = [(1, .box tS [.sl size full rows])] := by
  have lt : ∀ d, d < 4 → Nat.blt d fn.ntmps = true := fun d h => by rw [hn, Nat.blt_eq]; exact h
  refine fc_intro (m := some ()) (r := ()) (args := [.sl size full rows]) (S := []) (N0 := []) (post := fun _ p S' => p = .fn (.func g) [] [.loc 1 0] ∧ S' = [(1, .box tS [.sl size full rows])]) hf hb (by rw [hn]; rfl) rfl fun w0 X X0 σ0 _ => ?_
  refine pw_seq ?_
  refine pw_region ?_
  refine po_box 1 rfl rfl rfl rfl rfl (lt 1 (by omega)) rfl rfl rfl rfl ?_
  refine po_evs (T := T) 1 hn.symm rfl ?_
  refine po_nil ?_
  refine pn_seq ?_
  refine pw_seq ?_
  refine pw_region ?_
  refine po_evs (T := T) 2 hn.symm rfl ?_
  refine po_nil ?_
  refine pn_seq ?_
  exact pw_ret1 (S' := [(1, .box tS [.sl size full rows])]) (subS_of ⟨rfl, trivial⟩ rfl) hres rfl ⟨rfl, rfl⟩

section
variable {ρ : Type} {G : Ctx ρ} {m : Option ρ} {K : List (Kont ρ)} {E : Env} {S : Store} {all : Array Oper}
theorem po_backward {o : Oper} {rest : List Oper} {x : Operand} {f g n d : Nat} {fn : Func} {args : Array Operand} {tys : Array TypeId} {tS tF tG : TypeId} {size : Nat} {full : Bool} {rows : List (List PV)} {E' : Env} {S1 S2 : Store} (T : Tab G.P) (hf : G.P.funcs[f]? = some fn)
    (hb : fn.body = some (backwardCode tS tF tG g)) (hn : fn.ntmps = 4) (hres : fn.results = #[.tmp 2]) (hdr : dropS [] S = some S1) (hkS : killSs [n] S1 = some S2) (hkE : killEs [n] E = some E') (h2 : nodupB ([n] ++ S2.map (·.1)) = true) (h4 : [n].all (freeN G) = true)
    (hcl : closedL [n] [.fn (.func g) [] [.loc n 0]] = true)
    (ho : o.op = .call ⟨.value x, args, tys⟩) (hx : ev E x = some (.fn (.func f) [] [])) (hg : gE all E o = some true) (ha : ArgsC E args.toList [.sl size full rows]) (hcf : callable G.P f = true) (hd : o.dst = some d) (hlt : Nat.blt d G.fn.ntmps = true)
    (k : PO G m all rest K ((d, .fn (.func g) [] [.loc n 0]) :: E') ((n, .box tS [.sl size full rows]) :: S2)) : PO G m all (o :: rest) K E S := by
  have hcl2 : closedB ([] ++ [n]) [(n, .box tS [.sl size full rows])] = true := by simp [closedB, closedL, names]
  refine po_turn (M := some ()) (g := fun _ => m) (enc := fun _ => .fn (.func g) [] [.loc n 0]) (Sr := fun _ => [(n, .box tS [.sl size full rows])]) (first := []) (cap := []) (qs := [.sl size full rows]) (Sc := []) (N0 := []) (NR := [n]) [n] (fun _ _ => ?_) trivial (fun _ => rfl) hdr hkS hkE rfl h2 ?_ h4 (fun _ => hcl2) (fun _ => hcl) ho hx hg ha hcf hd hlt fun _ _ => k
  · have := fc_ren (L := G.L) (p := .fn (.func g) [] [.loc 1 0]) (Sc := []) (Sr := [(1, .box tS [.sl size full rows])]) [(1, n)] [1] (backward_fc (g := g) T hf hb hn hres (size := size) (full := full) (rows := rows)) rfl rfl rfl rfl rfl rfl
    exact this
  · simp [subN]

end
end Go.Pw
