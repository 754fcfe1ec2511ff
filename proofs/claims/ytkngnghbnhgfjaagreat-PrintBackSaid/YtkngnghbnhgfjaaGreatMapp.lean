/- Maps with numbers or texts for keys, made and turned by the call itself. No program is named here. -/
import Derived.Test.YtkngnghbnhgfjaaGreatNil
import Derived.MapKept
namespace Go.Pw
open Go Go.MapKept

def mfind {κ ν : Type} [DecidableEq κ] : List (κ × ν) → κ → Option Nat
  | [], _ => none
  | x :: l, k => if x.1 = k then some 0 else (mfind l k).map (· + 1)
def mput {κ ν : Type} [DecidableEq κ] (l : List (κ × ν)) (k : κ) (v : ν) : List (κ × ν) := match mfind l k with
  | some j => l.set j (k, v)
  | none => l ++ [(k, v)]
def mget {κ ν : Type} [DecidableEq κ] (l : List (κ × ν)) (k : κ) (z : ν) : ν := match mfind l k with
  | some j => (l[j]?).elim z (·.2)
  | none => z
theorem mfind_lt {κ ν : Type} [DecidableEq κ] : ∀ {l : List (κ × ν)} {k : κ} {j : Nat}, mfind l k = some j → ∃ v, l[j]? = some (k, v)
  | [], _, _, h => by simp [mfind] at h
  | x :: l, k, j, h => by
    simp only [mfind] at h
    split at h
    · rename_i e; cases h; exact ⟨x.2, by rw [← e]; rfl⟩
    · obtain ⟨i, hi, rfl⟩ := Option.map_eq_some_iff.1 h
      obtain ⟨v, hv⟩ := mfind_lt hi
      exact ⟨v, by simpa using hv⟩

/-- How keys stand in a map. -/
structure KeyEnc {κ : Type} (d : TypeDesc) (key : κ → Value) : Prop where
  isKey : ∀ a, IsKey d (key a)
  inj : ∀ a b, key a = key b → a = b
def keyI (k : IntKind) (a : Int) : Value := .int k a
def keyS (s : List UInt8) : Value := .string ⟨⟨s⟩⟩
theorem keyI_enc (k : IntKind) : KeyEnc (.int k) (keyI k) := ⟨fun a => by simp [IsKey, keyI], fun a b h => by simpa [keyI] using h⟩
theorem keyS_enc : KeyEnc .string keyS := ⟨fun a => by simp [IsKey, keyS], fun a b h => by simpa [keyS] using h⟩

theorem findNow_mfind {κ ν : Type} [DecidableEq κ] {d : TypeDesc} {key : κ → Value} (K : KeyEnc d key) (k : κ) : ∀ (l : List (κ × ν)) (es : List MapEntry) (i : Nat), es.length = l.length → (∀ (j : Nat) (e : MapEntry) (x : κ × ν), es[j]? = some e → l[j]? = some x → e.key = key x.1) →
    Instr.findNow d (key k) es i = some (match mfind l k with | some j => (es[j]?).map fun e => (i + j, e.val) | none => none)
  | [], [], i, _, _ => rfl
  | x :: l, e :: es, i, hl, h => by
    have hk := h 0 e x rfl rfl
    have ih := findNow_mfind K k l es (i + 1) (by simpa using hl) fun j e' x' h1 h2 => h (j + 1) e' x' (by simpa using h1) (by simpa using h2)
    obtain ⟨r, hr, hiff⟩ := sameNow_of_keys (K.isKey k) (K.isKey x.1)
    simp only [Instr.findNow, hk, hr, mfind]
    cases r with
    | true =>
      have : x.1 = k := (K.inj _ _ (hiff.1 rfl)).symm
      rw [if_pos this]
      rfl
    | false =>
      have : ¬ x.1 = k := fun e => by have := hiff.2 (by rw [e]); cases this
      rw [if_neg this, ih]
      cases mfind l k with
      | none => rfl
      | some j => simp only [Option.map_some, List.getElem?_cons_succ]; rw [show i + 1 + j = i + (j + 1) by omega]
  | [], _ :: _, _, hl, _ => by simp at hl
  | _ :: _, [], _, hl, _ => by simp at hl

section
variable {ρ : Type} {G : Ctx ρ} {m : Option ρ} {K : List (Kont ρ)} {E : Env} {S : Store} {all : Array Oper}

theorem po_makeMap {o : Oper} {rest : List Oper} (n : Nat) {t : TypeId} {d : Nat} {E' : Env} {S' : Store} (ho : o.op = .makeMap t none) (hg : gE all E o = some true) (hd : o.dst = some d) (hlt : Nat.blt d G.fn.ntmps = true) (hn : freeN G n = true) (hE : killE n E = some E') (hS : killS n S = some S')
    (k : PO G m all rest K ((d, .own n) :: E') ((n, .mp []) :: S')) : PO G m all (o :: rest) K E S := by
  refine po_op hg fun r hr a w ⟨σ, φ, hp⟩ => ?_
  have hrun : (execOp a.eval o).run G.P w = .ok (.value (.map (some w.heap.size))) (w.alloc (.map #[] 0)) := by
    simp only [execOp, ho, Sem.run_bind, Option.map_none]
    rfl
  unfold Oper.wp
  rw [hrun, Oper.upon_value, hd]
  have h1 := hp.new_ (hdr := .map (some w.heap.size)) (o := .map #[] 0) (k := .mp []) hn hE hS fun D' hD => ⟨w.heap.size, #[], 0, rfl, fun x => Iff.rfl, heap_alloc_at w _, rfl, by simp⟩
  refine k r hr _ _ ⟨_, _, h1.put (blt_lt hlt) ?_⟩
  have : R (upd σ n (.map (some w.heap.size))) (w.alloc (.map #[] 0)) (Dof G.X (upd φ n fun b => b = w.heap.size) (w.alloc (.map #[] 0)) ((n, .mp []) :: S')) (.own n) (upd σ n (.map (some w.heap.size)) n) := .own (by rw [upd_same]; rfl)
  rw [upd_same] at this
  exact this

theorem own_map {σ : Nat → Value} {w : World} {D : Nat → Prop} {n b : Nat} {u : Value} (h : R σ w D (.own n) u) (hs : σ n = .map (some b)) : u = .map (some b) := by
  cases h with
  | own _ => exact hs
  | d hd => cases hd

theorem does_len_map {κ ν : Type} {o : Oper} (key : κ → Value) (val : ν → PV) (l : List (κ × ν)) {args : Array Operand} {tys : Array TypeId} {t kt et : TypeId} {x : Operand} {n : Nat} (ho : o.op = .call ⟨.builtin .len, args, tys⟩) (h1 : args.toList = [x]) (h2 : tys.toList = [t]) (hm : G.P.underlying t = some (.map kt et))
    (hx : ev E x = some (.own n)) (hb : lkS S n = some (.mp (l.map fun p => (key p.1, val p.2)))) {σ : Nat → Value} {φ : Nat → Nat → Prop} {w : World} {a : Act} (hp : Pre' G E S a w σ φ) : OpDoes G S o σ φ a w (.v (.int .i64 (l.length : Nat))) := by
  have hmem := lkS_mem hb
  obtain ⟨b, es, cl, g1, g2, g3, g4, g5⟩ := hp.inv.ok n _ hmem
  have hxv := own_map (ev_ok hp.env hx) g1
  have ha : args = #[x] := by cases args; simp_all
  have ht : tys = #[t] := by cases tys; simp_all
  subst ha ht
  have hrun : (execOp a.eval o).run G.P w = .ok (.value (.int .i64 (l.length : Nat))) w := by
    have hl : (Builtin.len_ #[t] o.type #[.map (some b)]).run G.P w = .ok (.int .i64 (l.length : Nat)) w := by
      simp [Builtin.len_, run_underlying hm, MapKept.run_getObj_map g3, Result.andThen, goInt, g4]
    simp [execOp, ho, resolve, invoke, builtin, hxv, hl, Result.andThen]
  unfold OpDoes
  rw [hrun]
  exact ⟨rfl, .d (.v rfl)⟩
theorem po_len_map {κ ν : Type} {o : Oper} {rest : List Oper} (key : κ → Value) (val : ν → PV) (l : List (κ × ν)) {args : Array Operand} {tys : Array TypeId} {t kt et : TypeId} {x : Operand} {n d : Nat} (hm : G.P.underlying t = some (.map kt et)) (ho : o.op = .call ⟨.builtin .len, args, tys⟩) (h1 : args.toList = [x]) (h2 : tys.toList = [t])
    (hg : gE all E o = some true) (hx : ev E x = some (.own n)) (hb : lkS S n = some (.mp (l.map fun p => (key p.1, val p.2)))) (hd : o.dst = some d) (hlt : Nat.blt d G.fn.ntmps = true) (k : PO G m all rest K ((d, .v (.int .i64 (l.length : Nat))) :: E) S) : PO G m all (o :: rest) K E S :=
  po_does hg (fun _ _ _ _ hp => does_len_map key val l ho h1 h2 hm hx hb hp) hd hlt k

theorem does_lookup {κ ν : Type} [DecidableEq κ] {T : Tab G.P} {o : Oper} {dd : TypeDesc} {key : κ → Value} (Q : KeyEnc dd key) (val : ν → PV) (l : List (κ × ν)) (k : κ) (z : ν) {t kt et : TypeId} {x ix : Operand} {n : Nat} {zv : Value} (ho : o.op = .lookup t x ix false) (hm : G.P.underlying t = some (.map kt et)) (hk : G.P.underlying kt = some dd)
    (hx : ev E x = some (.own n)) (hi : ev E ix = some (.v (key k))) (hb : lkS S n = some (.mp (l.map fun p => (key p.1, val p.2)))) (hz : lku T.zeros et = some zv) (hzv : val z = .v zv) (hfl : flat zv = true) {σ : Nat → Value} {φ : Nat → Nat → Prop} {w : World} {a : Act} (hp : Pre' G E S a w σ φ) : OpDoes G S o σ φ a w (val (mget l k z)) := by
  have hmem := lkS_mem hb
  obtain ⟨b, es, cl, g1, g2, g3, g4, g5⟩ := hp.inv.ok n _ hmem
  have hxv := own_map (ev_ok hp.env hx) g1
  obtain ⟨hiv, _⟩ := (ev_ok hp.env hi).flat_inv
  have hf := findNow_mfind Q k l es.toList 0 (by simpa using g4) fun j e x' h1 h2 => (g5 j e _ (by simpa using h1) (by rw [List.getElem?_map, h2]; rfl)).1
  have hz' := T.hzeros _ (lku_mem hz)
  have hzr : (zeroValue et).run G.P w = .ok zv w := by
    obtain ⟨inf, hinf, hzi⟩ := Option.bind_eq_some_iff.1 hz'
    simp [zeroValue, typeInfo, hinf, hzi]
  have hck := run_checkKey (P := G.P) (w := w) hk (Q.isKey k) es.isEmpty 9999
  have hrun : ∃ u, (execOp a.eval o).run G.P w = .ok (.value u) w ∧ RD w (Dof G.X φ w S) (val (mget l k z)) u := by
    unfold mget
    cases hj : mfind l k with
    | none =>
      rw [hj] at hf
      have hfk := run_findKey (w := w) hk hf
      refine ⟨zv, ?_, by simp only; rw [hzv]; exact .v hfl⟩
      simp [execOp, ho, hxv, hiv, Instr.lookup, run_underlying hm, MapKept.run_getObj_map g3, hck, hfk, hzr, Result.andThen]
    | some j =>
      rw [hj] at hf
      obtain ⟨v, hv⟩ := mfind_lt hj
      have hjl : j < es.size := by rw [g4, List.length_map]; exact (List.getElem?_eq_some_iff.1 hv).1
      have he : es[j]? = some es[j] := Array.getElem?_eq_getElem hjl
      simp only [show es.toList[j]? = some es[j] by simp, Option.map_some, Nat.zero_add] at hf
      have hfk := run_findKey (w := w) hk hf
      refine ⟨es[j].val, ?_, ?_⟩
      · simp [execOp, ho, hxv, hiv, Instr.lookup, run_underlying hm, MapKept.run_getObj_map g3, hck, hfk, Result.andThen]
      · simp only [hv, Option.elim_some]
        exact (g5 j _ _ he (by rw [List.getElem?_map, hv]; rfl)).2
  obtain ⟨u, h1, h2⟩ := hrun
  unfold OpDoes
  rw [h1]
  exact ⟨rfl, .d h2⟩
theorem po_lookup {κ ν : Type} [DecidableEq κ] {T : Tab G.P} {o : Oper} {rest : List Oper} {dd : TypeDesc} {key : κ → Value} (Q : KeyEnc dd key) (val : ν → PV) (l : List (κ × ν)) (k : κ) (z : ν) {t kt et : TypeId} {x ix : Operand} {n d : Nat} {zv : Value} (hm : G.P.underlying t = some (.map kt et)) (hk : G.P.underlying kt = some dd) (ho : o.op = .lookup t x ix false)
    (hg : gE all E o = some true) (hx : ev E x = some (.own n)) (hi : ev E ix = some (.v (key k))) (hb : lkS S n = some (.mp (l.map fun p => (key p.1, val p.2)))) (hz : lku T.zeros et = some zv) (hzv : val z = .v zv) (hfl : flat zv = true) (hd : o.dst = some d) (hlt : Nat.blt d G.fn.ntmps = true)
    (kk : PO G m all rest K ((d, val (mget l k z)) :: E) S) : PO G m all (o :: rest) K E S :=
  po_does hg (fun _ _ _ _ hp => does_lookup (T := T) Q val l k z ho hm hk hx hi hb hz hzv hfl hp) hd hlt kk

def datQ : PV → Bool
  | .agg cs => cs.all datP
  | p => datP p
theorem R.toRDQ {σ : Nat → Value} {w : World} {D : Nat → Prop} {p : PV} {u : Value} (r : R σ w D p u) (h : datQ p = true) : RD w D p u := by
  cases p with
  | agg cs =>
    cases r with
    | d hd => exact hd
    | agg hl hi => exact .agg hl fun i c u hc hu => (hi i c u hc hu).toRD (List.all_eq_true.1 h c (List.mem_of_getElem? hc))
  | _ => exact r.toRD h
theorem po_mapUpdate {κ ν : Type} [DecidableEq κ] {o : Oper} {rest : List Oper} {dd : TypeDesc} {key : κ → Value} (Q : KeyEnc dd key) (val : ν → PV) (l : List (κ × ν)) (k : κ) (v : ν) {t kt et : TypeId} {x ix y : Operand} {n : Nat} {S' : Store} (hm : G.P.underlying t = some (.map kt et)) (hk : G.P.underlying kt = some dd) (ho : o.op = .mapUpdate t x ix y)
    (hg : gE all E o = some true) (hx : ev E x = some (.own n)) (hi : ev E ix = some (.v (key k))) (hy : ev E y = some (val v)) (hdat : datQ (val v) = true) (hb : lkS S n = some (.mp (l.map fun p => (key p.1, val p.2)))) (hd : o.dst = none)
    (hS : setS n (.mp ((mput l k v).map fun p => (key p.1, val p.2))) S = some S') (kk : PO G m all rest K E S') : PO G m all (o :: rest) K E S := by
  refine po_op hg fun r hr a w ⟨σ, φ, hp⟩ => ?_
  have hmem := lkS_mem hb
  obtain ⟨b, es, cl, g1, g2, g3, g4, g5⟩ := hp.inv.ok n _ hmem
  have hxv := own_map (ev_ok hp.env hx) g1
  obtain ⟨hiv, _⟩ := (ev_ok hp.env hi).flat_inv
  have hyv := (ev_ok hp.env hy).toRDQ hdat
  have hf := findNow_mfind Q k l es.toList 0 (by simpa using g4) fun j e x' h1 h2 => (g5 j e _ (by simpa using h1) (by rw [List.getElem?_map, h2]; rfl)).1
  have hck := run_checkKey (P := G.P) (w := w) hk (Q.isKey k) false 9999
  have hbl : b < w.heap.size := (hp.inv.lt b ⟨n, _, hmem, (g2 b).2 rfl⟩).1
  have key2 : ∃ es' cl', (execOp a.eval o).run G.P w = .ok .skip { w with heap := w.heap.setIfInBounds b (.map es' cl') } ∧ es'.size = (mput l k v).length ∧
      ∀ (i : Nat) (e : MapEntry) (p : κ × ν), es'[i]? = some e → (mput l k v)[i]? = some p → e.key = key p.1 ∧ RD w (Dof G.X φ w S) (val p.2) e.val := by
    have old : ∀ (i : Nat) (e : MapEntry) (p : κ × ν), es[i]? = some e → l[i]? = some p → e.key = key p.1 ∧ RD w (Dof G.X φ w S) (val p.2) e.val := fun i e p h1 h2 => g5 i e _ h1 (by rw [List.getElem?_map, h2]; rfl)
    unfold mput
    cases hj : mfind l k with
    | none =>
      rw [hj] at hf
      have hfk := run_findKey (w := w) hk hf
      refine ⟨es.push ⟨key k, a.eval y, cl⟩, cl + 1, ?_, by simpa using g4, fun i e p h1 h2 => ?_⟩
      · simp [execOp, ho, hxv, hiv, Instr.mapUpdate, run_underlying hm, MapKept.run_getObj_map g3, MapKept.run_setObj_map _ g3, hck, hfk, Result.andThen]
      · simp only at h2
        have g4' : es.size = l.length := by simpa using g4
        by_cases hi' : i < l.length
        · rw [List.getElem?_append_left hi'] at h2
          rw [Array.getElem?_push_lt (by omega)] at h1
          exact old i e p (by rw [← h1]; exact Array.getElem?_eq_getElem (by omega)) h2
        · rw [List.getElem?_append_right (by omega)] at h2
          have hi0 : i = es.size := by
            have := (List.getElem?_eq_some_iff.1 h2).1
            simp at this; omega
          subst hi0
          rw [Array.getElem?_push_size] at h1
          simp at h1; subst h1
          rw [g4', Nat.sub_self] at h2
          simp at h2; subst h2
          exact ⟨rfl, hyv⟩
    | some j =>
      rw [hj] at hf
      obtain ⟨v0, hv⟩ := mfind_lt hj
      have g4' : es.size = l.length := by simpa using g4
      have hjl : j < es.size := by rw [g4']; exact (List.getElem?_eq_some_iff.1 hv).1
      have he : es[j]? = some es[j] := Array.getElem?_eq_getElem hjl
      simp only [show es.toList[j]? = some es[j] by simp, Option.map_some, Nat.zero_add] at hf
      have hfk := run_findKey (w := w) hk hf
      have hek := (old j _ _ he hv).1
      have hst : (Instr.keyThatStays (key k) (key k)).run G.P w = .ok (key k) w := run_keyThatStays (d := dd) (Q.isKey k)
      refine ⟨es.modify j fun e => ⟨key k, a.eval y, e.born⟩, cl, ?_, by simp [g4'], fun i e p h1 h2 => ?_⟩
      · simp [execOp, ho, hxv, hiv, Instr.mapUpdate, run_underlying hm, MapKept.run_getObj_map g3, MapKept.run_setObj_map _ g3, hck, hfk, he, hek, hst, Result.andThen]
      · simp only at h2
        rw [Array.getElem?_modify] at h1
        by_cases hij : j = i
        · subst hij
          rw [if_pos rfl, he] at h1
          simp at h1; subst h1
          rw [List.getElem?_set_self (by omega)] at h2
          simp at h2; subst h2
          exact ⟨rfl, hyv⟩
        · rw [if_neg hij] at h1
          rw [List.getElem?_set_ne hij] at h2
          exact old i e p h1 h2
  obtain ⟨es', cl', hrun, h1, h2⟩ := key2
  unfold Oper.wp
  rw [hrun, Oper.upon_skip, hd]
  refine kk r hr _ _ ⟨σ, φ, hp.turn (w' := { w with heap := w.heap.setIfInBounds b (.map es' cl') }) hmem hS (by simp) (fun c hc => ?_) rfl rfl rfl fun D' hD => ⟨b, es', cl', g1, g2, ?_, by simpa using h1, fun i e kv he hkv => ?_⟩⟩
  · have : c ≠ b := fun e => hc ((g2 c).2 e)
    simp [Array.getElem?_setIfInBounds_ne (Ne.symm this)]
  · show (w.heap.setIfInBounds b _)[b]? = _
    rw [Array.getElem?_setIfInBounds_self_of_lt hbl]
  · rw [List.getElem?_map] at hkv
    obtain ⟨p, hp', rfl⟩ := Option.map_eq_some_iff.1 hkv
    exact ⟨(h2 i e p he hp').1, (h2 i e p he hp').2.mono hD⟩

/-! ## What is left of a division -/
def remI (a b : Int) : Option Int := if b = 0 then none else some (a.tmod b)
theorem does_rem {o : Oper} {t yt : TypeId} {x y : Operand} {k : IntKind} {a b c : Int} (ho : o.op = .binOp .rem t x y yt) (hx : ev E x = some (.v (.int k a))) (hy : ev E y = some (.v (.int k b))) (hc : remI a b = some c)
    {σ : Nat → Value} {φ : Nat → Nat → Prop} {w : World} {ac : Act} (hp : Pre' G E S ac w σ φ) : OpDoes G S o σ φ ac w (.v (.int k c)) := by
  obtain ⟨e1, _⟩ := (ev_ok hp.env hx).flat_inv
  obtain ⟨e2, _⟩ := (ev_ok hp.env hy).flat_inv
  unfold remI at hc
  split at hc
  · cases hc
  rename_i hb
  cases hc
  have hrun : (execOp ac.eval o).run G.P w = .ok (.value (.int k (a.tmod b))) w := by
    simp [execOp, ho, e1, e2, eqGuard_flat, binOp, Op.intDiv, hb]
  unfold OpDoes
  rw [hrun]
  exact ⟨rfl, .d (.v rfl)⟩
theorem po_rem {o : Oper} {rest : List Oper} {t yt : TypeId} {x y : Operand} {k : IntKind} {a b : Int} {d : Nat} {f : Int → Option ρ} (ho : o.op = .binOp .rem t x y yt) (hg : gE all E o = some true) (hx : ev E x = some (.v (.int k a))) (hy : ev E y = some (.v (.int k b))) (hd : o.dst = some d) (hlt : Nat.blt d G.fn.ntmps = true)
    (kk : ∀ c, remI a b = some c → PO G (f c) all rest K ((d, .v (.int k c)) :: E) S) : PO G (bnd (remI a b) f) all (o :: rest) K E S :=
  po_bnd fun c hc => po_does hg (fun _ _ _ _ hp => does_rem ho hx hy hc hp) hd hlt (kk c hc)
end
end Go.Pw
