/- Slices of the call's own within the rows of another one. No program is named here. -/
import Derived.Test.YtkngnghbnhgfjaaGreatMapp
import Derived.Test.YtkngnghbnhgfjaaGreatNil
namespace Go.Pw
open Go

section
variable {ρ : Type} {G : Ctx ρ} {m : Option ρ} {K : List (Kont ρ)} {E : Env} {S : Store} {all : Array Oper}

/-- The blocks are named and laid anew. -/
theorem Pre'.redo {a : Act} {w w' : World} {σ σ2 : Nat → Value} {φ φ2 : Nat → Nat → Prop} {E2 : Env} {S2 : Store} (h : Pre' G E S a w σ φ) (hos : w'.os = w.os) (htape : w'.tape = w.tape) (hout : w'.output = w.output) (hsz : w.heap.size ≤ w'.heap.size)
    (hnd : (S2.map (·.1)).Nodup) (hfoot : ∀ b, foot φ2 S2 b → foot φ S b ∨ (w.heap.size ≤ b ∧ b < w'.heap.size)) (hkeep : ∀ b, b < w.heap.size → ¬ foot φ S b → w'.heap[b]? = w.heap[b]?)
    (hdisj : ∀ n m k l, (n, k) ∈ S2 → (m, l) ∈ S2 → n ≠ m → ∀ b, φ2 n b → ¬ φ2 m b)
    (hok : ∀ n k, (n, k) ∈ S2 → ∀ D', (∀ b, Dof G.X φ w S b → D' b ∧ w'.heap[b]? = w.heap[b]?) → BlkOk σ2 w' D' (σ2 n) (φ2 n) k)
    (henv : ∀ t p, lk E2 t = some p → ∃ u, a.tmps[t]? = some u ∧ ∀ D', (∀ b, Dof G.X φ w S b → D' b ∧ w'.heap[b]? = w.heap[b]?) → R σ2 w' D' p u)
    (hag : ∀ n ∈ G.N0, σ2 n = σ n) : Pre' G E2 S2 a w' σ2 φ2 := by
  have hD : ∀ b, Dof G.X φ w S b → Dof G.X φ2 w' S2 b ∧ w'.heap[b]? = w.heap[b]? := fun b ⟨h1, h2, h3⟩ => by
    refine ⟨⟨by omega, h2, fun n k hm hf => ?_⟩, hkeep b h1 fun ⟨n, k, hm, hf⟩ => h3 n k hm hf⟩
    rcases hfoot b ⟨n, k, hm, hf⟩ with ⟨n', k', g1, g2⟩ | ⟨g1, _⟩
    · exact h3 n' k' g1 g2
    · omega
  refine ⟨h.dk hkeep, h.size, fun t p ht => let ⟨u, hu, hr⟩ := henv t p ht; ⟨u, hu, hr _ hD⟩, ⟨hnd, fun b hb => by have := h.inv.xlt b hb; omega, fun b hf => ?_, hdisj, fun n k hm => hok n k hm _ hD⟩,
    ⟨hos.trans h.fr.os, htape.trans h.fr.tape, hout.trans h.fr.output, by have := h.fr.size; omega, fun b hb hx => ?_⟩, fun n hn => (hag n hn).trans (h.agree n hn), fun b hf hlt => ?_⟩
  · rcases hfoot b hf with g | ⟨g1, g2⟩
    · obtain ⟨g1, g2⟩ := h.inv.lt b g; exact ⟨by omega, g2⟩
    · exact ⟨g2, fun hx => by have := h.inv.xlt b hx; omega⟩
  · have := h.fr.size
    rw [hkeep b (by omega) fun hf => hx (h.new b hf hb)]
    exact h.fr.block b hb hx
  · have := h.fr.size
    rcases hfoot b hf with g | ⟨g1, _⟩
    · exact h.new b g hlt
    · omega

theorem kill_went {n : Nat} {S S' : Store} (h : killS n S = some S') : ∀ m k, (m, k) ∈ S' → m ≠ n ∧ ∃ k0, (m, k0) ∈ S ∧ Went [n] k0 k := fun m k hm => by
  have hk : killSs [n] S = some S' := by simp [killSs, h]
  obtain ⟨g1, g2⟩ := killSs_mem hk m k hm
  exact ⟨by simpa using g1, g2⟩
theorem kill_env {n : Nat} {E E' : Env} (h : killE n E = some E') {σ : Nat → Value} {w : World} {D : Nat → Prop} {tmps : Array Value} (hE : InvE σ w D E tmps) {σ2 : Nat → Value} (hσ : ∀ x, x ≠ n → σ2 x = σ x) {w' : World} :
    ∀ t p, lk E' t = some p → ∃ u, tmps[t]? = some u ∧ ∀ D', (∀ b, D b → D' b ∧ w'.heap[b]? = w.heap[b]?) → R σ2 w' D' p u := fun t p ht => by
  have hk : killEs [n] E = some E' := by simp [killEs, h]
  rcases killEs_lk hk t p ht with rfl | ⟨g1, g2⟩
  · obtain ⟨q, hq⟩ := killEs_dom hk t _ ht
    obtain ⟨u, hu, _⟩ := hE t q hq
    exact ⟨u, hu, fun _ _ => .junk⟩
  · obtain ⟨u, hu, hr⟩ := hE t p g1
    exact ⟨u, hu, fun D' hD => (hr.mono hD).agree fun x hx => hσ x fun e => hasN_no (g2 n (by simp)) x hx e⟩

/-! ## Own slices become slices that may hold own ones -/
theorem pre_toT {α : Type} (n kc ke : Nat) (enc : α → List PV) (xs : List α) {e size : Nat} {S' : Store} (hb : lkS S n = some (.arr e size (xs.map enc))) (he : Nat.blt e fixE = true) (hkc : Nat.blt kc size = true)
    (hS : setS n (.tre e size kc ke ((xs.map fun x => (x, false)).map fun x => (enc x.1, x.2))) S = some S') {a : Act} {w : World} : Pre G E S a w → Pre G E S' a w := by
  rintro ⟨σ, φ, hp⟩
  have hm := lkS_mem hb
  refine ⟨σ, φ, hp.turn hm hS rfl (fun _ _ => rfl) rfl rfl rfl fun D' hD => ?_⟩
  obtain ⟨h0, h⟩ := hp.inv.ok n _ hm
  have hrow : ∀ (i : Nat) (r : List PV × Bool), ((xs.map fun x => (x, false)).map fun x => (enc x.1, x.2))[i]? = some r → r.2 = false ∧ (xs.map enc)[i]? = some r.1 := fun i r hr => by
    simp only [List.map_map, List.getElem?_map, Option.map_eq_some_iff, Function.comp] at hr
    obtain ⟨x, h1, rfl⟩ := hr
    exact ⟨rfl, by simp [h1]⟩
  refine ⟨fun r hr => ?_, blt_lt hkc, ?_⟩
  · obtain ⟨i, hi, rfl⟩ := List.mem_iff_getElem.1 hr
    exact h0 _ (List.mem_of_getElem? (hrow i _ (List.getElem?_eq_getElem hi)).2)
  rcases h with ⟨h1, h2, h3⟩ | ⟨b, us, cap, h1, h2, h3, h4, h5, ⟨fr, h6, _, h6'⟩, h7⟩
  · have : xs = [] := by simpa using h1
    subst this
    exact .inl ⟨rfl, h2, h3⟩
  · have := h6' he; subst this
    refine .inr ⟨b, us, cap, fun _ _ => False, by simpa using h1, fun x => by simp [h2 x], fun _ _ h => h, fun _ _ _ _ _ _ h => h.elim, h3, by simpa using h4, h5, h6, fun i r hr => ?_⟩
    obtain ⟨r2, r1⟩ := hrow i r hr
    refine ⟨fun _ _ h => h, fun k c u hc hu => ⟨fun ho => (by rw [r2] at ho; cases ho.1), fun _ => .inr ?_⟩⟩
    have hk : k < size := by rw [← h0 _ (List.mem_of_getElem? r1)]; exact (List.getElem?_eq_some_iff.1 hc).1
    exact (h7 (i * size + k) c u ((flatten_at h0 r1 hk).trans hc) hu).mono hD
theorem po_toT {α : Type} {ops : List Oper} (n kc ke : Nat) (enc : α → List PV) (xs : List α) {e size : Nat} {S' : Store} (hb : lkS S n = some (.arr e size (xs.map enc))) (he : Nat.blt e fixE = true) (hkc : Nat.blt kc size = true)
    (hS : setS n (.tre e size kc ke ((xs.map fun x => (x, false)).map fun x => (enc x.1, x.2))) S = some S') (k : PO G m all ops K E S') : PO G m all ops K E S := fun r hr a w hp => k r hr a w (pre_toT n kc ke enc xs hb he hkc hS hp)
/-! ## Its length, its elements -/
theorem po_len_tre {T : Tab G.P} {o : Oper} {rest : List Oper} {args : Array Operand} {tys : Array TypeId} {t : TypeId} {x : Operand} {n e size kc ke : Nat} {rows : List (List PV × Bool)} {z : Nat × Nat × Nat} {d l : Nat}
    (ho : o.op = .call ⟨.builtin .len, args, tys⟩) (h1 : args.toList = [x]) (h2 : tys.toList = [t]) (hg : gE all E o = some true) (hx : ev E x = some (.own n)) (hb : lkS S n = some (.tre e size kc ke rows)) (ht : lku T.els t = some z) (hl : rows.length = l)
    (hd : o.dst = some d) (hlt : Nat.blt d G.fn.ntmps = true) (k : PO G m all rest K ((d, .v (.int .i64 (l : Nat))) :: E) S) : PO G m all (o :: rest) K E S := by
  refine po_op hg fun r hr a w ⟨σ, φ, hp⟩ => ?_
  have hxv : a.eval x = σ n := by
    have := ev_ok hp.env hx
    generalize a.eval x = v at this
    cases this with
    | own => rfl
    | d hd => cases hd
  have hs : ∃ ao c, σ n = .slice ao l c := by
    obtain ⟨_, _, ⟨g1, ⟨ao, g2⟩, _⟩ | ⟨b, us, cap, Fs, g1, _⟩⟩ := hp.inv.ok n _ (lkS_mem hb)
    · subst g1; simp at hl; subst hl; exact ⟨ao, 0, g2⟩
    · exact ⟨_, _, by rw [g1, hl]⟩
  obtain ⟨ao, c, hs⟩ := hs
  obtain ⟨args⟩ := args
  obtain ⟨tys⟩ := tys
  simp only at h1 h2
  subst h1 h2
  have hrun : (execOp a.eval o).run G.P w = .ok (.value (.int .i64 (l : Nat))) w := by
    simp [execOp, ho, resolve, invoke, builtin, hxv, hs, Builtin.len_, run_underlying (elOf_slice (T.hels _ (lku_mem ht))).1, goInt]
  unfold Oper.wp
  rw [hrun, Oper.upon_value, hd]
  exact k r hr _ _ ⟨σ, φ, hp.put (blt_lt hlt) (.d (.v rfl))⟩
theorem po_idx_tre {T : Tab G.P} {α : Type} {o : Oper} {rest : List Oper} (xs : List α) {f : α → Option ρ} {t : TypeId} {x ix : Operand} {n size e e' kc ke by_ : Nat} {rows : List (List PV × Bool)} {kk : IntKind} {i : Int} {d : Nat}
    (hrl : rows.length = xs.length) (ho : o.op = .indexAddr t x ix) (hg : gE all E o = some true) (hx : ev E x = some (.own n)) (hb : lkS S n = some (.tre e' size kc ke rows)) (hi : ev E ix = some (.v (.int kk i))) (ht : lku T.els t = some (e, size, by_))
    (hd : o.dst = some d) (hlt : Nat.blt d G.fn.ntmps = true) (k : ∀ y, idx xs i = some y → PO G (f y) all rest K ((d, .ela n size i.toNat 0) :: E) S) : PO G (bnd (idx xs i) f) all (o :: rest) K E S := by
  refine po_bnd fun y hy => po_op hg fun r hr a w ⟨σ, φ, hp⟩ => ?_
  have hy' := hy
  unfold idx at hy'
  split at hy'
  case isFalse => simp at hy'
  rename_i h0
  obtain ⟨hel, inf, hinf, hsz, _⟩ := elOf_slice (T.hels _ (lku_mem ht))
  obtain ⟨hiv, _⟩ := (ev_ok hp.env hi).flat_inv
  have hxv : a.eval x = σ n := by
    have := ev_ok hp.env hx
    generalize a.eval x = v at this
    cases this with
    | own => rfl
    | d hd => cases hd
  have hlen : i.toNat < xs.length := (List.getElem?_eq_some_iff.1 hy').1
  obtain ⟨_, _, ⟨g1, _⟩ | ⟨b, us, cap, Fs, h3, _⟩⟩ := hp.inv.ok n _ (lkS_mem hb)
  · subst g1; simp at hrl; omega
  rw [hrl] at h3
  have hil : i < (xs.length : Int) := by omega
  have hrun : (execOp a.eval o).run G.P w = .ok (.value (.pointer (some ⟨b, i.toNat * size, none⟩))) w := by
    simp [execOp, ho, hxv, h3, hiv, Instr.indexAt, asIntOf, run_underlying hel, h0, hil, sizeOf, typeInfo, hinf, hsz, addr_add]
  unfold Oper.wp
  rw [hrun, Oper.upon_value, hd]
  exact k y hy r hr _ _ ⟨σ, φ, hp.put (blt_lt hlt) (.ela (off := 0) (hdrB_arr h3))⟩

/-! ## Its cells -/
theorem tre_at {α β : Type} {l : List α} {f : α → β} {i : Nat} {y : α} (h : l[i]? = some y) : (l.map f)[i]? = some (f y) := by simp [h]

/-- Where a row's cells stand. -/
theorem tre_row {w : World} {D : Nat → Prop} {hdr : Value} {fp : Nat → Prop} {e size kc ke : Nat} {rows : List (List PV × Bool)} {i : Nat} {r : List PV × Bool} (h : TreOk w D hdr fp e size kc ke rows) (hr : rows[i]? = some r) :
    ∃ (b : Nat) (us : List Value) (cap : Nat) (Fs : Nat → Nat → Prop), hdr = .slice (some ⟨b, 0, none⟩) rows.length cap ∧ (∀ x, fp x ↔ x = b ∨ ∃ i, i < rows.length ∧ Fs i x) ∧ (∀ i, i < rows.length → ¬ Fs i b) ∧
         (∀ i j, i < rows.length → j < rows.length → i ≠ j → ∀ x, Fs i x → ¬ Fs j x) ∧ us.length = cap * size ∧ (rows.length ≤ cap ∧ 0 < cap) ∧ cap ≤ maxLen ∧ w.heap[b]? = some (.cells ⟨us⟩ (e % fixE) (0, 0)) ∧
         (∀ (i : Nat) (r : List PV × Bool), rows[i]? = some r → (r.2 = false → ∀ x, ¬ Fs i x) ∧ ∀ (k : Nat) (c : PV) (u : Value), r.1[k]? = some c → us[i * size + k]? = some u → TreCell w D (Fs i) ke (r.2 = true ∧ k = kc) c u) ∧
         (∀ k, k < size → i * size + k < us.length) ∧ r.1.length = size ∧ i < rows.length ∧ kc < size := by
  obtain ⟨h0, hkc, ⟨rfl, _⟩ | ⟨b, us, cap, Fs, g1, g2, g3, g4, g5, g6, g7, g8, g9⟩⟩ := h
  · simp at hr
  · have hi := (List.getElem?_eq_some_iff.1 hr).1
    refine ⟨b, us, cap, Fs, g1, g2, g3, g4, g5, g6, g7, g8, g9, fun k hk => ?_, h0 _ (List.mem_of_getElem? hr), hi, hkc⟩
    have : (i + 1) * size ≤ cap * size := Nat.mul_le_mul_right _ (by omega)
    rw [Nat.succ_mul] at this
    omega

/-- Does a store pass by the cell? -/
def passes (kc off l : Nat) : Bool := Nat.blt kc off || Nat.ble (off + l) kc
/-- A part of a row is written; the slice that may be the call's own stays. -/
theorem po_store_tre {T : Tab G.P} {β : Type} {o : Oper} {rest : List Oper} (f : β → List PV × Bool) (xs : List β) (x0 x1 : β) {t : TypeId} {x y : Operand} {n size i off e kc ke sz : Nat} {g : Bool} {p : PV} {cs : List PV} {S' : Store}
    (h0 : xs[i]? = some x0) (ho : o.op = .store t x y) (hg : gE all E o = some true) (hx : ev E x = some (.ela n size i off)) (hb : lkS S n = some (.tre e size kc ke (xs.map f))) (hy : ev E y = some p) (hcs : cellsP p = some cs) (hone : cs.all cellP = true) (hdat : cs.all datP = true)
    (ht : lku T.tys t = some (g, sz)) (hsz : Nat.beq cs.length sz = true) (hps : passes kc off cs.length = true) (hov : ovr (f x0).1 off cs = some (f x1).1) (hfl : (f x1).2 = (f x0).2) (hd : o.dst = none) (hS : setS n (.tre e size kc ke ((xs.set i x1).map f)) S = some S') (k : PO G m all rest K E S') : PO G m all (o :: rest) K E S := by
  refine po_op hg fun r hr a w ⟨σ, φ, hp⟩ => ?_
  have hmem := lkS_mem hb
  have hsz := Nat.eq_of_beq_eq_true hsz
  have hok : TreOk w (Dof G.X φ w S) (σ n) (φ n) e size kc ke (xs.map f) := hp.inv.ok n _ hmem
  obtain ⟨b, us0, cap, Fs, g1, g2, g3, g4, g5, g6, g7, g8, g9, g10, g11, g12, g13⟩ := tre_row hok (tre_at (f := f) h0)
  have hxv : a.eval x = .pointer (some ⟨b, i * size + off, none⟩) := by
    have := ev_ok hp.env hx
    generalize a.eval x = u at this
    cases this with
    | ela hs => rw [hdrB_arr g1] at hs; simp at hs; subst hs; rfl
    | d hd => cases hd
  obtain ⟨us, c1, c2, c3⟩ := cellsP_ok hcs (ev_ok hp.env hy)
  obtain ⟨o1, o2, o3⟩ := ovr_eq hov
  have hlt : i < xs.length := by simpa using g12
  have hend : off + cs.length ≤ size := by rw [← g11]; exact o2
  have hin : i * size + off + us.length ≤ us0.length := by
    rw [c2]
    have h5 : (i + 1) * size ≤ cap * size := Nat.mul_le_mul_right _ (by omega)
    rw [Nat.succ_mul] at h5
    omega
  obtain ⟨w', cur', s1, s2, s3, s4, s5, s6, s7, s8, s9⟩ := run_stores (P := G.P) b (i * size + off) (e % fixE) (0, 0) us 0 us0 w g8 (by simp) (by omega) (all_one c2 c3 hone)
  have hrun : (execOp a.eval o).run G.P w = .ok .skip w' := by
    simp only [execOp, ho, hxv, Sem.run_bind, run_storeAt (T.htys _ (lku_mem ht)) c1 (c2.trans hsz), s1, Result.andThen_ok, Sem.run_pure]
  unfold Oper.wp
  rw [hrun, Oper.upon_skip, hd]
  refine k r hr _ _ ⟨σ, φ, hp.turn hmem hS s5 (fun c hc => s6 c fun e => hc ((g2 c).2 (.inl e))) s7 s8 s9 fun D' hD => ?_⟩
  have hx1 : (f x1).1.length = size := by rw [o1, g11]
  have hFb : ∀ x, (∃ i, i < (xs.map f).length ∧ Fs i x) → w'.heap[x]? = w.heap[x]? := fun x ⟨j, hj, hx⟩ => s6 x fun e => g3 j hj (e ▸ hx)
  have nx : ∀ (j : Nat) own c u, j < (xs.map f).length → TreCell w (Dof G.X φ w S) (Fs j) ke own c u → TreCell w' D' (Fs j) ke own c u := fun j own c u hj ⟨a1, a2⟩ =>
    ⟨fun h => let ⟨ks, rws, q1, q2⟩ := a1 h; ⟨ks, rws, q1, q2.next hD fun x hx => hFb x ⟨j, hj, hx⟩⟩, fun h => (a2 h).imp id fun h => h.mono hD⟩
  have hlen : ((xs.set i x1).map f).length = (xs.map f).length := by simp
  refine ⟨fun r' hr' => ?_, g13, .inr ⟨b, cur', cap, Fs, by rw [hlen]; exact g1, by rw [hlen]; exact g2, by rw [hlen]; exact g3, by rw [hlen]; exact g4, by rw [s3, g5], by rw [hlen]; exact g6, g7, s2, fun j r' hr' => ?_⟩⟩
  · rw [List.map_set] at hr'
    rcases List.mem_or_eq_of_mem_set hr' with h | h
    · exact hok.1 _ h
    · subst h; exact hx1
  · have hj : j < (xs.map f).length := by rw [← hlen]; exact (List.getElem?_eq_some_iff.1 hr').1
    rw [List.map_set] at hr'
    by_cases hij : i = j
    · subst hij
      rw [List.getElem?_set_self g12] at hr'
      cases hr'
      obtain ⟨q1, q2⟩ := g9 i _ (tre_at (f := f) h0)
      refine ⟨fun h => q1 (hfl ▸ h), fun kk c u hc hu => ?_⟩
      rw [s4 (i * size + kk)] at hu
      simp only [Nat.add_zero, c2] at hu
      rw [o3] at hc
      have hkk : kk < size := by
        rw [← hx1]
        have := (List.getElem?_eq_some_iff.1 (by rw [o3]; exact hc : (f x1).1[kk]? = some c)).1
        exact this
      split at hc
      · rename_i hin'
        rw [if_pos (by omega), show i * size + kk - (i * size + off) = kk - off by omega] at hu
        have hkc : kk ≠ kc := fun e => by
          unfold passes at hps
          rw [Bool.or_eq_true] at hps
          rcases hps with h | h
          · have := blt_lt h; omega
          · have := Nat.le_of_ble_eq_true h; omega
        exact ⟨fun h => absurd h.2 hkc, fun _ => .inr (((c3 _ c u hc hu).toRD (List.all_eq_true.1 hdat c (List.mem_of_getElem? hc))).mono hD)⟩
      · rename_i hin'
        rw [if_neg (by omega)] at hu
        have := nx i _ c u g12 (q2 kk c u hc hu)
        rw [hfl]; exact this
    · rw [List.getElem?_set_ne hij] at hr'
      obtain ⟨q1, q2⟩ := g9 j r' hr'
      refine ⟨q1, fun kk c u hc hu => ?_⟩
      have hkk : kk < size := by rw [← hok.1 _ (List.mem_of_getElem? hr')]; exact (List.getElem?_eq_some_iff.1 hc).1
      rw [s4 (j * size + kk), if_neg (by
        simp only [Nat.add_zero, c2]
        intro ⟨ha, hb'⟩
        rcases Nat.lt_or_ge j i with h | h
        · have : (j + 1) * size ≤ i * size := Nat.mul_le_mul_right _ (by omega)
          rw [Nat.succ_mul] at this; omega
        · have : (i + 1) * size ≤ j * size := Nat.mul_le_mul_right _ (by omega)
          rw [Nat.succ_mul] at this; omega)] at hu
      exact nx j _ c u hj (q2 kk c u hc hu)

/-! ## The inner slice is taken out, and put back -/
def ownOf (b : Bool) : Option Unit := if b then some () else none
theorem ownOf_eq {b : Bool} {u : Unit} (h : ownOf b = some u) : b = true := by cases b <;> simp [ownOf] at h ⊢

/-- The inner slice gets a name of its own; in its place nothing is known any more. -/
theorem po_take {T : Tab G.P} {f : Unit → Option ρ} {o : Oper} {rest : List Oper} (mm : Nat) {t : TypeId} {x : Operand} {n size i e kc ke ks d : Nat} {own : Bool} {rows : List (List PV × Bool)} {row : List PV} {rws : List (List PV)} {E' : Env} {S1 S' : Store} (h0 : rows[i]? = some (row, own)) (ho : o.op = .load t x) (hg : gE all E o = some true) (hx : ev E x = some (.ela n size i kc))
    (hb : lkS S n = some (.tre e size kc ke rows)) (ht : lku T.tys t = some (false, 1)) (hc : nthE row kc = some (.sl ks false rws)) (hd : o.dst = some d) (hlt : Nat.blt d G.fn.ntmps = true) (hn : freeN G mm = true) (hmm : (S.map (·.1)).any (Nat.beq mm) = false) (hE : killE mm E = some E') (hS1 : killS mm S = some S1)
    (hS : setS n (.tre e size kc ke (rows.set i (row.set kc .junk, false))) S1 = some S') (k : PO G (f ()) all rest K ((d, .own mm) :: E') ((mm, .arr ke ks rws) :: S')) : PO G (bnd (ownOf own) f) all (o :: rest) K E S := by
  refine po_bnd fun u hu => po_op hg fun r hr a w ⟨σ, φ, hp⟩ => ?_
  have hown := ownOf_eq hu
  subst hown
  have hmem := lkS_mem hb
  have hok : TreOk w (Dof G.X φ w S) (σ n) (φ n) e size kc ke rows := hp.inv.ok n _ hmem
  obtain ⟨b, us, cap, Fs, g1, g2, g3, g4, g5, g6, g7, g8, g9, g10, g11, g12, g13⟩ := tre_row hok h0
  simp only at g11
  have hmn : ∀ x k', (x, k') ∈ S → x ≠ mm := fun x k' hm e' => by
    subst e'
    have : (S.map (·.1)).any (Nat.beq x) = true := any_beq.2 (List.mem_map.2 ⟨_, hm, rfl⟩)
    rw [hmm] at this; cases this
  have hnm := hmn n _ hmem
  have hxv : a.eval x = .pointer (some ⟨b, i * size + kc, none⟩) := by
    have := ev_ok hp.env hx
    generalize a.eval x = u at this
    cases this with
    | ela hs => rw [hdrB_arr g1] at hs; simp at hs; subst hs; rfl
    | d hd => cases hd
  rw [nthE_eq] at hc
  have hul := List.getElem?_eq_getElem (g10 kc g13)
  obtain ⟨v, hv⟩ : ∃ v, v = us[i * size + kc]'(g10 kc g13) := ⟨_, rfl⟩
  rw [← hv] at hul
  obtain ⟨ks', rws', e1, harr⟩ := ((g9 i _ h0).2 kc _ v hc hul).1 ⟨rfl, rfl⟩
  cases e1
  have hrun : (execOp a.eval o).run G.P w = .ok (.value v) w := by
    obtain ⟨q1, _⟩ := run_isAgg (w := w) (T.htys _ (lku_mem ht))
    have : w.cell? ⟨b, i * size + kc, none⟩ = some v := by rw [cell_of_cells g8]; exact hul
    simp [execOp, ho, hxv, Instr.loadAt, Instr.sureAddr, loadVar, q1, this]
  have hsm := kill_went hS1
  have hnd1 : (S1.map (·.1)).Nodup := (killS_names hS1).nodup hp.inv.nodup
  have hmem1 := setS_mem hnd1 hS
  have hhdr : oneHdr v = true := by
    obtain ⟨_, ⟨_, ⟨ao, q⟩, _⟩ | ⟨b', _, _, q, _⟩⟩ := harr <;> (rw [q]; rfl)
  unfold Oper.wp
  rw [hrun, Oper.upon_value, hd]
  obtain ⟨σ2, hσ2⟩ : ∃ σ2, σ2 = upd σ mm v := ⟨_, rfl⟩
  obtain ⟨φ2, hφ2⟩ : ∃ φ2 : Nat → Nat → Prop, φ2 = upd (upd φ n fun x => φ n x ∧ ¬ Fs i x) mm (Fs i) := ⟨_, rfl⟩
  have s1 : σ2 mm = v := by rw [hσ2, upd_same]
  have s2 : ∀ x, x ≠ mm → σ2 x = σ x := fun x hx => by rw [hσ2, upd_ne _ _ hx]
  have p1 : φ2 mm = Fs i := by rw [hφ2, upd_same]
  have p2 : φ2 n = fun x => φ n x ∧ ¬ Fs i x := by rw [hφ2, upd_ne _ _ hnm, upd_same]
  have p3 : ∀ x, x ≠ mm → x ≠ n → φ2 x = φ x := fun x h1 h2 => by rw [hφ2, upd_ne _ _ h1, upd_ne _ _ h2]
  have hFi : ∀ x, Fs i x → φ n x := fun x hx => (g2 x).2 (.inr ⟨i, g12, hx⟩)
  -- who is who in the new store
  have hwho : ∀ x k', (x, k') ∈ ((mm, Blk.arr ke ks rws) :: S') → (x = mm ∧ k' = .arr ke ks rws) ∨ (x = n ∧ k' = .tre e size kc ke (rows.set i (row.set kc .junk, false))) ∨ (x ≠ mm ∧ x ≠ n ∧ ∃ k0, (x, k0) ∈ S ∧ Went [mm] k0 k') := fun x k' hm => by
    rcases List.mem_cons.1 hm with e' | hm
    · cases e'; exact .inl ⟨rfl, rfl⟩
    · rcases hmem1 x k' hm with ⟨h1, h2⟩ | ⟨h1, h2⟩
      · exact .inr (.inl ⟨h1, h2⟩)
      · obtain ⟨q1, k0, q2, q3⟩ := hsm x k' h1
        exact .inr (.inr ⟨q1, h2, k0, q2, q3⟩)
  have hp2 : Pre' G E' ((mm, .arr ke ks rws) :: S') a w σ2 φ2 := by
    refine hp.redo (w' := w) rfl rfl rfl (Nat.le_refl _) ?_ (fun y hf => .inl ?_) (fun _ _ _ => rfl) ?_ (fun x k' hm D' hD => ?_) (fun t' p' ht' => ?_) (fun x hx => ?_)
    · rw [List.map_cons, List.nodup_cons, setS_names hS]
      refine ⟨fun h => ?_, hnd1⟩
      obtain ⟨⟨x, k'⟩, h1, h2⟩ := List.mem_map.1 h
      exact (hsm x k' h1).1 h2
    · obtain ⟨x, k', hm, hf⟩ := hf
      rcases hwho x k' hm with ⟨rfl, _⟩ | ⟨rfl, _⟩ | ⟨h1, h2, k0, h3, _⟩
      · rw [p1] at hf; exact ⟨n, _, hmem, hFi y hf⟩
      · rw [p2] at hf; exact ⟨_, _, hmem, hf.1⟩
      · rw [p3 x h1 h2] at hf; exact ⟨x, k0, h3, hf⟩
    · intro x y kx ky hx hy hne z hzx hzy
      rcases hwho x kx hx with ⟨rfl, _⟩ | ⟨rfl, _⟩ | ⟨h1, h2, k0, h3, _⟩ <;> rcases hwho y ky hy with ⟨rfl, _⟩ | ⟨rfl, _⟩ | ⟨h1', h2', k0', h3', _⟩
      · exact hne rfl
      · rw [p1] at hzx; rw [p2] at hzy; exact hzy.2 hzx
      · rw [p1] at hzx; rw [p3 y h1' h2'] at hzy; exact hp.inv.disj n y _ _ hmem h3' (Ne.symm h2') z (hFi z hzx) hzy
      · rw [p1] at hzy; rw [p2] at hzx; exact hzx.2 hzy
      · exact hne rfl
      · rw [p2] at hzx; rw [p3 y h1' h2'] at hzy; exact hp.inv.disj _ y _ _ hmem h3' (Ne.symm h2') z hzx.1 hzy
      · rw [p1] at hzy; rw [p3 x h1 h2] at hzx; exact hp.inv.disj x n _ _ h3 hmem h2 z hzx (hFi z hzy)
      · rw [p2] at hzy; rw [p3 x h1 h2] at hzx; exact hp.inv.disj x _ _ _ h3 hmem h2 z hzx hzy.1
      · rw [p3 x h1 h2] at hzx; rw [p3 y h1' h2'] at hzy; exact hp.inv.disj x y _ _ h3 h3' hne z hzx hzy
    · rcases hwho x k' hm with ⟨rfl, rfl⟩ | ⟨rfl, rfl⟩ | ⟨h1, h2, k0, h3, h4⟩
      · rw [s1, p1]; exact harr.next hD fun _ _ => rfl
      · rw [s2 _ hnm, p2]
        obtain ⟨FF, hFF⟩ : ∃ FF : Nat → Nat → Prop, FF = fun j => if j = i then fun _ => False else Fs j := ⟨_, rfl⟩
        have f1 : FF i = fun _ => False := by rw [hFF]; exact if_pos rfl
        have f2 : ∀ j, j ≠ i → FF j = Fs j := fun j hj => by rw [hFF]; exact if_neg hj
        refine ⟨fun r' hr' => ?_, g13, .inr ⟨b, us, cap, FF, by simpa using g1, fun y => ?_, fun j hj => ?_, fun j j' hj hj' hne y hy => ?_, g5, by simpa using g6, g7, g8, fun j r' hr' => ?_⟩⟩
        · rcases List.mem_or_eq_of_mem_set hr' with h | h
          · exact hok.1 _ h
          · subst h; simpa using g11
        · constructor
          · rintro ⟨h1, h2⟩
            rcases (g2 y).1 h1 with h | ⟨j, hj, hy⟩
            · exact .inl h
            · refine .inr ⟨j, by simpa using hj, ?_⟩
              rw [f2 j (fun e' => h2 (e' ▸ hy))]; exact hy
          · rintro (rfl | ⟨j, hj, hy⟩)
            · exact ⟨(g2 _).2 (.inl rfl), g3 i g12⟩
            · by_cases e' : j = i
              · rw [e', f1] at hy; exact hy.elim
              · rw [f2 j e'] at hy
                exact ⟨(g2 y).2 (.inr ⟨j, by simpa using hj, hy⟩), g4 j i (by simpa using hj) g12 e' y hy⟩
        · by_cases e' : j = i
          · rw [e', f1]; exact fun h => h
          · rw [f2 j e']; exact g3 j (by simpa using hj)
        · by_cases e' : j = i
          · rw [e', f1] at hy; exact hy.elim
          · rw [f2 j e'] at hy
            by_cases e'' : j' = i
            · rw [e'', f1]; exact fun h => h
            · rw [f2 j' e'']; exact g4 j j' (by simpa using hj) (by simpa using hj') hne y hy
        · by_cases e' : j = i
          · subst e'
            rw [List.getElem?_set_self g12] at hr'
            cases hr'
            refine ⟨fun _ y h => by rw [f1] at h; exact h, fun kk c u hc' hu => ⟨fun h => (by cases h.1), fun _ => ?_⟩⟩
            by_cases hk : kk = kc
            · subst hk
              rw [List.getElem?_set_self (by omega)] at hc'
              cases hc'; exact .inl rfl
            · simp only at hc'
              rw [List.getElem?_set_ne (Ne.symm hk)] at hc'
              exact (((g9 j _ h0).2 kk c u hc' hu).2 (fun h => hk h.2)).imp id fun h => h.mono hD
          · rw [List.getElem?_set_ne (Ne.symm e')] at hr'
            obtain ⟨q1, q2⟩ := g9 j r' hr'
            rw [f2 j e']
            refine ⟨q1, fun kk c u hc' hu => ?_⟩
            obtain ⟨a1, a2⟩ := q2 kk c u hc' hu
            exact ⟨fun h => let ⟨ks, rws, q1, q2⟩ := a1 h; ⟨ks, rws, q1, q2.next hD fun _ _ => rfl⟩, fun h => (a2 h).imp id fun h => h.mono hD⟩
      · rw [s2 x h1, p3 x h1 h2]
        exact BlkOk.went hD (fun _ _ => rfl) (hp.inv.ok x k0 h3) h4 fun y hy => s2 y (by simpa using hy)
    · exact kill_env hE hp.env s2 t' p' ht'
    · refine s2 x fun e' => ?_
      subst e'
      unfold freeN at hn
      rw [any_beq.2 hx] at hn
      cases hn
  refine k r hr _ _ ⟨σ2, φ2, hp2.put (blt_lt hlt) ?_⟩
  have : R σ2 w (Dof G.X φ2 w ((mm, Blk.arr ke ks rws) :: S')) (.own mm) (σ2 mm) := .own (by rw [s1]; exact hhdr)
  rw [s1] at this
  exact this

/-- One's own slice is put into a row. -/
theorem po_give {T : Tab G.P} {o : Oper} {rest : List Oper} {t : TypeId} {x y : Operand} {n mm size i e kc ke ks : Nat} {fl : Bool} {rows rows' : List (List PV × Bool)} {row : List PV} {rws : List (List PV)} {E' : Env} {S1 S' : Store} (h0 : rows[i]? = some (row, fl)) (hrows : rows.set i (row.set kc (.sl ks false rws), true) = rows') (ho : o.op = .store t x y) (hg : gE all E o = some true) (hx : ev E x = some (.ela n size i kc))
    (hb : lkS S n = some (.tre e size kc ke rows)) (hy : ev E y = some (.own mm)) (hbm : lkS S mm = some (.arr ke ks rws)) (ht : lku T.tys t = some (false, 1)) (hd : o.dst = none) (hE : killE mm E = some E') (hS1 : killS mm S = some S1)
    (hS : setS n (.tre e size kc ke rows') S1 = some S') (k : PO G m all rest K E' S') : PO G m all (o :: rest) K E S := by
  refine po_op hg fun r hr a w ⟨σ, φ, hp⟩ => ?_
  subst hrows
  have hmem := lkS_mem hb
  have hmemm := lkS_mem hbm
  have hok : TreOk w (Dof G.X φ w S) (σ n) (φ n) e size kc ke rows := hp.inv.ok n _ hmem
  have harr : ArrOk w (Dof G.X φ w S) (σ mm) (φ mm) ke ks rws := hp.inv.ok mm _ hmemm
  have hnm : n ≠ mm := fun e' => by
    subst e'
    have := mem_same hp.inv.nodup hmem hmemm
    cases this
  obtain ⟨b, us0, cap, Fs, g1, g2, g3, g4, g5, g6, g7, g8, g9, g10, g11, g12, g13⟩ := tre_row hok h0
  simp only at g11
  have hxv : a.eval x = .pointer (some ⟨b, i * size + kc, none⟩) := by
    have := ev_ok hp.env hx
    generalize a.eval x = u at this
    cases this with
    | ela hs => rw [hdrB_arr g1] at hs; simp at hs; subst hs; rfl
    | d hd => cases hd
  have hyv : a.eval y = σ mm := by
    have := ev_ok hp.env hy
    generalize a.eval y = u at this
    cases this with
    | own => rfl
    | d hd => cases hd
  have hhdr : ∃ ao l c, σ mm = .slice ao l c := by
    obtain ⟨_, ⟨_, ⟨ao, q⟩, _⟩ | ⟨b', _, _, q, _⟩⟩ := harr <;> exact ⟨_, _, _, q⟩
  obtain ⟨ao, l, c, hh⟩ := hhdr
  obtain ⟨w', cur', s1, s2, s3, s4, s5, s6, s7, s8, s9⟩ := run_stores (P := G.P) b (i * size + kc) (e % fixE) (0, 0) [σ mm] 0 us0 w g8 (by simp) (by have := g10 kc g13; simp; omega) (by rw [hh]; simp; rfl)
  have hrun : (execOp a.eval o).run G.P w = .ok .skip w' := by
    simp only [execOp, ho, hxv, hyv, Sem.run_bind, run_storeAt (T.htys _ (lku_mem ht)) (show (σ mm).cells = ⟨[σ mm]⟩ by rw [hh]; rfl) rfl, s1, Result.andThen_ok, Sem.run_pure]
  have hsm := kill_went hS1
  have hnd1 : (S1.map (·.1)).Nodup := (killS_names hS1).nodup hp.inv.nodup
  have hmem1 := setS_mem hnd1 hS
  unfold Oper.wp
  rw [hrun, Oper.upon_skip, hd]
  obtain ⟨φ2, hφ2⟩ : ∃ φ2 : Nat → Nat → Prop, φ2 = upd φ n (fun x => (φ n x ∧ ¬ Fs i x) ∨ φ mm x) := ⟨_, rfl⟩
  have p2 : φ2 n = fun x => (φ n x ∧ ¬ Fs i x) ∨ φ mm x := by rw [hφ2, upd_same]
  have p3 : ∀ x, x ≠ n → φ2 x = φ x := fun x h2 => by rw [hφ2, upd_ne _ _ h2]
  have hbn : φ n b := (g2 b).2 (.inl rfl)
  have hwho : ∀ x k', (x, k') ∈ S' → (x = n ∧ k' = .tre e size kc ke (rows.set i (row.set kc (.sl ks false rws), true))) ∨ (x ≠ mm ∧ x ≠ n ∧ ∃ k0, (x, k0) ∈ S ∧ Went [mm] k0 k') := fun x k' hm => by
    rcases hmem1 x k' hm with ⟨h1, h2⟩ | ⟨h1, h2⟩
    · exact .inl ⟨h1, h2⟩
    · obtain ⟨q1, k0, q2, q3⟩ := hsm x k' h1
      exact .inr ⟨q1, h2, k0, q2, q3⟩
  have hmb : ∀ x, φ mm x → x ≠ b := fun x hx e' => hp.inv.disj mm n _ _ hmemm hmem (Ne.symm hnm) x hx (e' ▸ hbn)
  have hp2 : Pre' G E' S' a w' σ φ2 := by
    refine hp.redo s7 s8 s9 (by omega) ?_ (fun y hf => .inl ?_) (fun y _ hf => s6 y fun e' => hf ⟨n, _, hmem, e' ▸ hbn⟩) ?_ (fun x k' hm D' hD => ?_) (fun t' p' ht' => ?_) (fun _ _ => rfl)
    · rw [setS_names hS]; exact hnd1
    · obtain ⟨x, k', hm, hf⟩ := hf
      rcases hwho x k' hm with ⟨rfl, _⟩ | ⟨h1, h2, k0, h3, _⟩
      · rw [p2] at hf
        rcases hf with hf | hf
        · exact ⟨_, _, hmem, hf.1⟩
        · exact ⟨_, _, hmemm, hf⟩
      · rw [p3 x h2] at hf; exact ⟨x, k0, h3, hf⟩
    · have one : ∀ x k0, (x, k0) ∈ S → x ≠ mm → x ≠ n → ∀ z, φ x z → ¬ ((φ n z ∧ ¬ Fs i z) ∨ φ mm z) := fun x k0 h3 h1 h2 z hz hh' => by
        rcases hh' with h | h
        · exact hp.inv.disj x n _ _ h3 hmem h2 z hz h.1
        · exact hp.inv.disj x mm _ _ h3 hmemm h1 z hz h
      intro x y kx ky hx hy hne z hzx hzy
      rcases hwho x kx hx with ⟨rfl, _⟩ | ⟨h1, h2, k0, h3, _⟩ <;> rcases hwho y ky hy with ⟨rfl, _⟩ | ⟨h1', h2', k0', h3', _⟩
      · exact hne rfl
      · rw [p2] at hzx; rw [p3 y h2'] at hzy; exact one y k0' h3' h1' h2' z hzy hzx
      · rw [p2] at hzy; rw [p3 x h2] at hzx; exact one x k0 h3 h1 h2 z hzx hzy
      · rw [p3 x h2] at hzx; rw [p3 y h2'] at hzy; exact hp.inv.disj x y _ _ h3 h3' hne z hzx hzy
    · rcases hwho x k' hm with ⟨rfl, rfl⟩ | ⟨h1, h2, k0, h3, h4⟩
      · rw [p2]
        obtain ⟨FF, hFF⟩ : ∃ FF : Nat → Nat → Prop, FF = fun j => if j = i then φ mm else Fs j := ⟨_, rfl⟩
        have f1 : FF i = φ mm := by rw [hFF]; exact if_pos rfl
        have f2 : ∀ j, j ≠ i → FF j = Fs j := fun j hj => by rw [hFF]; exact if_neg hj
        have hFb : ∀ j y, j < rows.length → Fs j y → w'.heap[y]? = w.heap[y]? := fun j y hj hy => s6 y fun e' => g3 j hj (e' ▸ hy)
        refine ⟨fun r' hr' => ?_, g13, .inr ⟨b, cur', cap, FF, by simpa using g1, fun y => ?_, fun j hj => ?_, fun j j' hj hj' hne y hy => ?_, by rw [s3, g5], by simpa using g6, g7, s2, fun j r' hr' => ?_⟩⟩
        · rcases List.mem_or_eq_of_mem_set hr' with h | h
          · exact hok.1 _ h
          · subst h; simpa using g11
        · constructor
          · rintro (⟨h1, h2⟩ | h)
            · rcases (g2 y).1 h1 with h | ⟨j, hj, hy⟩
              · exact .inl h
              · refine .inr ⟨j, by simpa using hj, ?_⟩
                rw [f2 j (fun e' => h2 (e' ▸ hy))]; exact hy
            · exact .inr ⟨i, by simpa using g12, by rw [f1]; exact h⟩
          · rintro (rfl | ⟨j, hj, hy⟩)
            · exact .inl ⟨hbn, g3 i g12⟩
            · by_cases e' : j = i
              · rw [e', f1] at hy; exact .inr hy
              · rw [f2 j e'] at hy
                exact .inl ⟨(g2 y).2 (.inr ⟨j, by simpa using hj, hy⟩), g4 j i (by simpa using hj) g12 e' y hy⟩
        · by_cases e' : j = i
          · rw [e', f1]; exact fun h => hmb b h rfl
          · rw [f2 j e']; exact g3 j (by simpa using hj)
        · have one : ∀ j y, j < rows.length → Fs j y → ¬ φ mm y := fun j y hj hy hm' => hp.inv.disj mm _ _ _ hmemm hmem (Ne.symm hnm) y hm' ((g2 y).2 (.inr ⟨j, hj, hy⟩))
          by_cases e' : j = i
          · rw [e', f1] at hy
            rw [f2 j' (fun e'' => hne (e'.trans e''.symm))]
            exact fun h => one j' y (by simpa using hj') h hy
          · rw [f2 j e'] at hy
            by_cases e'' : j' = i
            · rw [e'', f1]; exact one j y (by simpa using hj) hy
            · rw [f2 j' e'']; exact g4 j j' (by simpa using hj) (by simpa using hj') hne y hy
        · have hj0 : j < rows.length := by have := (List.getElem?_eq_some_iff.1 hr').1; simpa using this
          have hat : ∀ kk, kk < size → (j ≠ i ∨ kk ≠ kc) → cur'[j * size + kk]? = us0[j * size + kk]? := fun kk hkk hne => by
            rw [s4 (j * size + kk), if_neg]
            simp only [List.length_singleton]
            intro ⟨ha, hb'⟩
            have e1 : j * size + kk = i * size + kc := by omega
            rcases Nat.lt_trichotomy j i with h | h | h
            · have : (j + 1) * size ≤ i * size := Nat.mul_le_mul_right _ (by omega)
              rw [Nat.succ_mul] at this; omega
            · subst h
              rcases hne with h | h
              · exact h rfl
              · omega
            · have : (i + 1) * size ≤ j * size := Nat.mul_le_mul_right _ (by omega)
              rw [Nat.succ_mul] at this; omega
          by_cases e' : j = i
          · subst e'
            rw [List.getElem?_set_self g12] at hr'
            cases hr'
            refine ⟨fun h => (by cases h), fun kk c u hc' hu => ?_⟩
            simp only at hc'
            rw [f1]
            by_cases hk : kk = kc
            · subst hk
              rw [List.getElem?_set_self (by omega)] at hc'
              cases hc'
              rw [s4 (j * size + kk), if_pos (by simp)] at hu
              simp at hu
              subst hu
              exact ⟨fun _ => ⟨ks, rws, rfl, harr.next hD fun y hy => s6 y (hmb y hy)⟩, fun h => absurd ⟨rfl, rfl⟩ h⟩
            · have hkk : kk < size := by rw [← g11]; have := (List.getElem?_eq_some_iff.1 hc').1; simpa using this
              rw [List.getElem?_set_ne (Ne.symm hk)] at hc'
              rw [hat kk hkk (.inr hk)] at hu
              exact ⟨fun h => absurd h.2 hk, fun _ => (((g9 j _ h0).2 kk c u hc' hu).2 (fun h => hk h.2)).imp id fun h => h.mono hD⟩
          · rw [List.getElem?_set_ne (Ne.symm e')] at hr'
            obtain ⟨q1, q2⟩ := g9 j r' hr'
            rw [f2 j e']
            refine ⟨q1, fun kk c u hc' hu => ?_⟩
            have hkk : kk < size := by rw [← hok.1 _ (List.mem_of_getElem? hr')]; exact (List.getElem?_eq_some_iff.1 hc').1
            rw [hat kk hkk (.inl e')] at hu
            obtain ⟨a1, a2⟩ := q2 kk c u hc' hu
            exact ⟨fun h => let ⟨ks, rws, q1, q2⟩ := a1 h; ⟨ks, rws, q1, q2.next hD fun y hy => hFb j y hj0 hy⟩, fun h => (a2 h).imp id fun h => h.mono hD⟩
      · rw [p3 x h2]
        exact BlkOk.went hD (fun y hy => s6 y fun e' => hp.inv.disj x n _ _ h3 hmem h2 y hy (e' ▸ hbn)) (hp.inv.ok x k0 h3) h4 fun _ _ => rfl
    · exact kill_env hE hp.env (fun _ _ => rfl) t' p' ht'
  exact k r hr _ _ ⟨σ, φ2, hp2⟩
theorem hole_set {α : Type} {l : List α} {i : Nat} {f : α → List PV × Bool} {r : List PV × Bool} (x : α) {v : List PV × Bool} (h : v = f x) : ((l.map f).set i r).set i v = (l.set i x).map f := by rw [List.set_set, List.map_set, h]
theorem hole_at {α : Type} {l : List α} {i : Nat} {f : α → List PV × Bool} {r : List PV × Bool} {y : α} (h : l[i]? = some y) : ((l.map f).set i r)[i]? = some r := List.getElem?_set_self (by simpa using (List.getElem?_eq_some_iff.1 h).1)

/-! ## A row more -/
theorem tre_own {w : World} {D : Nat → Prop} {v : Value} {fp : Nat → Prop} {e size kc ke : Nat} {rows : List (List PV × Bool)} (he : Nat.blt e fixE = true) (h : TreOk w D v fp e size kc ke rows) : ∃ (xs : List Value) (Fs : Nat → Nat → Prop), OwnR w e size v rows.length xs ∧
    (∀ x, fp x ↔ ownB v = some x ∨ ∃ i, i < rows.length ∧ Fs i x) ∧ (∀ i, i < rows.length → ∀ x, Fs i x → ownB v ≠ some x) ∧ (∀ i j, i < rows.length → j < rows.length → i ≠ j → ∀ x, Fs i x → ¬ Fs j x) ∧
    ∀ (i : Nat) (r : List PV × Bool), rows[i]? = some r → (r.2 = false → ∀ x, ¬ Fs i x) ∧ ∀ (k : Nat) (c : PV) (u : Value), r.1[k]? = some c → xs[i * size + k]? = some u → TreCell w D (Fs i) ke (r.2 = true ∧ k = kc) c u := by
  obtain ⟨h0, hkc, ⟨rfl, ⟨ao, rfl⟩, h3⟩ | ⟨b, us, cap, Fs, rfl, g2, g3, g4, g5, g6, g7, g8, g9⟩⟩ := h
  · refine ⟨[], fun _ _ => False, ?_, fun x => by simp [ownB, h3 x], fun _ _ _ h => h.elim, fun _ _ _ _ _ _ h => h.elim, fun i r hr => by simp at hr⟩
    cases ao with
    | none => exact .inl ⟨⟨by simp, .inl ⟨rfl, rfl⟩⟩, rfl⟩
    | some a => exact .inr ⟨rfl, rfl, a, rfl⟩
  · rw [mod_fix he] at g8
    have hob : ownB (Value.slice (some ⟨b, 0, none⟩) rows.length cap) = some b := by rw [ownB_eq g6.2]; rfl
    refine ⟨us.take (rows.length * size), Fs, .inl ⟨⟨?_, .inr ⟨b, cap, ⟨us⟩, rfl, Nat.zero_le _, g8, g6.1, g7, g5, rfl⟩⟩, ownB_eq g6.2⟩, fun x => ?_, fun i hi x hx => ?_, g4, fun i r hr => ⟨(g9 i r hr).1, fun k c u hc hu => (g9 i r hr).2 k c u hc ?_⟩⟩
    · rw [List.length_take, g5]; exact Nat.min_eq_left (Nat.mul_le_mul_right _ g6.1)
    · rw [g2 x, hob]; simp [eq_comm]
    · rw [hob]; intro e'; cases e'; exact g3 i hi hx
    · rw [List.getElem?_take] at hu
      split at hu
      · exact hu
      · simp at hu
theorem own_tre {w : World} {D : Nat → Prop} {v : Value} {e size kc ke : Nat} {rows : List (List PV × Bool)} {xs : List Value} {Fs : Nat → Nat → Prop} (he : Nat.blt e fixE = true) (h0 : ∀ r ∈ rows, r.1.length = size) (hkc : kc < size) (h : OwnR w e size v rows.length xs ∨ w.ownsRow 0 e size v rows.length xs)
    (h3 : ∀ i, i < rows.length → ∀ x, Fs i x → ownB v ≠ some x) (h4 : ∀ i j, i < rows.length → j < rows.length → i ≠ j → ∀ x, Fs i x → ¬ Fs j x)
    (h9 : ∀ (i : Nat) (r : List PV × Bool), rows[i]? = some r → (r.2 = false → ∀ x, ¬ Fs i x) ∧ ∀ (k : Nat) (c : PV) (u : Value), r.1[k]? = some c → xs[i * size + k]? = some u → TreCell w D (Fs i) ke (r.2 = true ∧ k = kc) c u) :
    TreOk w D v (fun x => ownB v = some x ∨ ∃ i, i < rows.length ∧ Fs i x) e size kc ke rows := by
  have key : w.ownsRow 0 e size v rows.length xs → TreOk w D v (fun x => ownB v = some x ∨ ∃ i, i < rows.length ∧ Fs i x) e size kc ke rows := fun h => by
    refine ⟨h0, hkc, ?_⟩
    obtain ⟨hl, h⟩ := h
    rcases h with ⟨rfl, hn⟩ | ⟨g, cap, cur, rfl, _, h2, h3', h4', h5, h6⟩
    · have := List.eq_nil_of_length_eq_zero hn
      subst this
      exact Or.inl ⟨rfl, ⟨_, rfl⟩, fun x => by simp [ownB]⟩
    · by_cases hc : cap = 0
      · subst hc
        have hr0 : rows.length = 0 := by omega
        have := List.eq_nil_of_length_eq_zero hr0
        subst this
        exact .inl ⟨rfl, ⟨some ⟨g, 0, none⟩, rfl⟩, fun x => by simp [ownB]⟩
      · have hob : ownB (Value.slice (some ⟨g, 0, none⟩) rows.length cap) = some g := by rw [ownB_eq (by omega)]; rfl
        refine .inr ⟨g, cur.toList, cap, Fs, rfl, fun x => by rw [hob]; simp [eq_comm], fun i hi hx => h3 i hi g hx hob, h4, by simpa using h5, ⟨h3', by omega⟩, h4', by rw [mod_fix he]; exact h2, fun i r hr => ⟨(h9 i r hr).1, fun k c u hc' hu => (h9 i r hr).2 k c u hc' ?_⟩⟩
        have hi := (List.getElem?_eq_some_iff.1 hr).1
        have hk : k < size := by rw [← h0 r (List.mem_of_getElem? hr)]; exact (List.getElem?_eq_some_iff.1 hc').1
        have hlt : i * size + k < rows.length * size := by
          have : (i + 1) * size ≤ rows.length * size := Nat.mul_le_mul_right _ (by omega)
          rw [Nat.succ_mul] at this; omega
        rw [← h6, List.getElem?_take, if_pos hlt]; exact hu
  rcases h with (⟨h, _⟩ | ⟨h1, h2, a, rfl⟩) | h
  · exact key h
  · have := List.eq_nil_of_length_eq_zero h1
    subst this
    exact ⟨h0, hkc, .inl ⟨rfl, ⟨_, rfl⟩, fun x => by simp [ownB]⟩⟩
  · exact key h

/-- What a new row is: data, or with an empty slice of the call's own. -/
def NewRow (kc ks : Nat) (sr : List PV) (nr : List PV × Bool) : Prop := (nr.2 = false ∧ nr.1 = sr) ∨ (nr.2 = true ∧ nthE sr kc = some (.v (.slice none 0 0)) ∧ nr.1 = sr.set kc (.sl ks false []))
theorem po_append_tre {T : Tab G.P} {f : Unit → Option ρ} {o : Oper} {rest : List Oper} (L : Nat) {rows rows' : List (List PV × Bool)} (sr : List PV) (nr : List PV × Bool) (ks : Nat) {args : Array Operand} {tys : Array TypeId} {t n e size kc ke by_ : Nat} {x y : Operand} {q : PV} {z : Value} {d : Nat}
    {E' : Env} {S' : Store} (hL : rows.length = L) (hrows : rows ++ [nr] = rows') (hnr : NewRow kc ks sr nr) (he : Nat.blt e fixE = true) (ho : o.op = .call ⟨.builtin .append, args, tys⟩) (h1 : args.toList = [x, y]) (h2 : tys.toList = [t, t]) (hg : gE all E o = some true) (hx : ev E x = some (.own n)) (hb : lkS S n = some (.tre e size kc ke rows))
    (hy : ev E y = some q) (hs : srcE S q = some (size, [sr])) (ht : lku T.els t = some (e, size, by_)) (hz : lku T.zeros e = some z) (hzs : z.cells.size = size) (hs0 : Nat.blt 0 size = true) (hb0 : Nat.blt 0 by_ = true)
    (hone : sr.all cellP = true) (hd : o.dst = some d) (hlt : Nat.blt d G.fn.ntmps = true) (hn : freeN G n = true) (hE : killE n E = some E') (hS : killS n S = some S')
    (k : PO G (f ()) all rest K ((d, .own n) :: E') ((n, .tre e size kc ke rows') :: S')) : PO G (bnd (roomy by_ (L + 1)) f) all (o :: rest) K E S := by
  refine po_bnd fun u hu => po_op hg fun r hr a w ⟨σ, φ, hp⟩ => ?_
  subst hL hrows
  have hroom := roomy_eq hu
  have hmem := lkS_mem hb
  have hblk : TreOk w (Dof G.X φ w S) (σ n) (φ n) e size kc ke rows := hp.inv.ok n _ hmem
  obtain ⟨xs', Fs, own, hfp, hF3, hF4, hxs⟩ := tre_own he hblk
  have hkc := hblk.2.1
  have hxv : a.eval x = σ n := by
    have := ev_ok hp.env hx
    generalize a.eval x = v at this
    cases this with
    | own => rfl
    | d hd => cases hd
  obtain ⟨hys, hsrc⟩ := src_ok hp.inv hs (ev_ok hp.env hy)
  have hsr : sr.length = size := hys sr (by simp)
  obtain ⟨hel, inf, hinf, hsz, hby⟩ := elOf_slice (T.hels _ (lku_mem ht))
  have hz' := T.hzeros _ (lku_mem hz)
  simp only [hinf, Option.bind_some] at hz'
  have hby0 := blt_lt hb0
  have hs0' := blt_lt hs0
  have hrun : ∃ v' w' news, (execOp a.eval o).run G.P w = .ok (.value v') w' ∧ (OwnR w' e size v' (rows.length + 1) (xs' ++ news) ∨ w'.ownsRow 0 e size v' (rows.length + 1) (xs' ++ news)) ∧ w'.heap.size = w'.heap.size ∧ w.grownBy w' (ownB (σ n)) ∧
      (∀ (i : Nat) (c : PV) (x : Value), sr[i]? = some c → news[i]? = some x → RD w (Dof G.X φ w S) c x) ∧ ∀ b, ownB v' = some b → (ownB (σ n) = some b ∨ w.heap.size ≤ b) ∧ b < w'.heap.size := by
    obtain ⟨args⟩ := args
    obtain ⟨tys⟩ := tys
    simp only at h1 h2
    subst h1 h2
    have hex : ∀ v' w', (Builtin.append_ #[t, t] o.type #[σ n, a.eval y]).run G.P w = .ok v' w' → (execOp a.eval o).run G.P w = .ok (.value v') w' := fun v' w' h => by
      simp [execOp, ho, resolve, invoke, builtin, hxv, h]
    rcases hsrc with ⟨h3, c, h4⟩ | ⟨ad, c, news, h3, h4, h5, h6⟩
    · cases h3
    · simp only [List.length_singleton] at h3 h4
      simp only [List.flatten_cons, List.flatten_nil, List.append_nil] at h6
      have hlen : rows.length + 1 ≤ 140737488355328 := Nat.le_trans (Nat.le_mul_of_pos_right _ hby0) hroom
      have hn1 : ∀ u ∈ news, u.oneCell' = true := by
        intro u hu
        obtain ⟨i, hi, rfl⟩ := List.mem_iff_getElem.1 hu
        have hi' : i < sr.length := by omega
        exact cellP_one (σ := σ) (.d (h6 i _ _ (List.getElem?_eq_getElem hi') (List.getElem?_eq_getElem hi))) (List.all_eq_true.1 hone _ (List.getElem_mem hi'))
      rcases own with ⟨own, hob⟩ | ⟨k0, x0, a0, hv⟩
      rotate_left
      · subst x0
        obtain ⟨v', w', g1, g2, g3⟩ := run_append_arg_grows (P := G.P) w t o.type e inf z size by_ hel hinf hz' hsz hby hzs hs0' a0 0 0 [] (by simp) (fun j u h => by simp at h) ad 1 c news h4 h5 (by omega) (by simp only [maxLen]; omega) (by rw [k0] at hroom; exact hroom)
        refine ⟨v', w', news, hex _ _ (by rw [h3, hv]; exact g1), .inr ?_, rfl, ?_, h6, fun b hb => ?_⟩
        · rw [k0]; exact ⟨g2.1, g2.2.imp id fun ⟨g, cap, cur, e1, e2, e3⟩ => ⟨g, cap, cur, e1, Nat.zero_le _, e3⟩⟩
        · rw [hv]; exact g3
        · have := g2.lt b (ownB_sub hb); exact ⟨.inr this.1, this.2⟩
      obtain ⟨v', w', g1, g2, g3, _⟩ := run_append_own (P := G.P) w 0 t o.type e inf z size by_ hel hinf hz' hsz hby hzs hs0' (σ n) rows.length xs' own ad 1 c news h4 h5 hn1 (by simp only [maxLen]; omega) hroom (Nat.zero_le _)
      exact ⟨v', w', news, hex _ _ (by rw [h3]; exact g1), .inr g2, rfl, by rw [hob]; exact g3, h6, fun b hb => ⟨by rw [hob]; exact append_where hel hinf hz' hsz hby own h4 h5 hn1 (by simp only [maxLen]; omega) hroom g1 (ownB_sub hb), (g2.lt b (ownB_sub hb)).2⟩⟩
  obtain ⟨v', w', news, r1, r2, _, r3, r4, r5⟩ := hrun
  unfold Oper.wp
  rw [r1, Oper.upon_value, hd]
  have hFn : ∀ i, i < rows.length → ∀ x, Fs i x → φ n x := fun i hi x hx => (hfp x).2 (.inr ⟨i, hi, hx⟩)
  have hkeep : ∀ b, b < w.heap.size → ((∃ k0, (n, k0) ∈ S) → ¬ φ n b) → w'.heap[b]? = w.heap[b]? := fun b hb hf => r3.block b hb fun e => hf ⟨_, hmem⟩ ((hfp b).2 (.inl e.symm))
  have hFb : ∀ i, i < rows.length → ∀ x, Fs i x → w'.heap[x]? = w.heap[x]? := fun i hi x hx => r3.block x (hp.inv.lt x ⟨n, _, hmem, hFn i hi x hx⟩).1 fun e => hF3 i hi x hx e.symm
  obtain ⟨F2, hF2⟩ : ∃ F2 : Nat → Nat → Prop, F2 = fun i x => i < rows.length ∧ Fs i x := ⟨_, rfl⟩
  have hF2i : ∀ i x, F2 i x → i < rows.length ∧ Fs i x := fun i x h => by rw [hF2] at h; exact h
  have hlay := hp.lay (hdr := v') (w' := w') (fp := fun x => ownB v' = some x ∨ ∃ i, i < (rows ++ [nr]).length ∧ F2 i x) (k := .tre e size kc ke (rows ++ [nr])) hn hE hS r3.size (fun b hb => ?_) hkeep r3.os r3.tape r3.output fun D' hD => ?_
  · refine k r hr _ _ ⟨_, _, hlay.put (blt_lt hlt) ?_⟩
    have : R (upd σ n v') w' (Dof G.X (upd φ n fun x => ownB v' = some x ∨ ∃ i, i < (rows ++ [nr]).length ∧ F2 i x) w' ((n, .tre e size kc ke (rows ++ [nr])) :: S')) (.own n) (upd σ n v' n) := .own (by rw [upd_same]; exact oneHdr_own r2)
    rw [upd_same] at this
    exact this
  · rcases hb with hb | ⟨i, _, hb⟩
    · have hlt' := (r5 b hb).2
      refine ⟨hlt', ?_⟩
      rcases Nat.lt_or_ge b w.heap.size with h | h
      · right
        exact ⟨⟨_, hmem⟩, (hfp b).2 (.inl ((r5 b hb).1.resolve_right (by omega)))⟩
      · exact .inl h
    · obtain ⟨hi, hb⟩ := hF2i i b hb
      have := (hp.inv.lt b ⟨n, _, hmem, hFn i hi b hb⟩).1
      have hsz' := r3.size
      exact ⟨by omega, .inr ⟨⟨_, hmem⟩, hFn i hi b hb⟩⟩
  · have hnrl : nr.1.length = size := by
      rcases hnr with ⟨_, h⟩ | ⟨_, _, h⟩ <;> rw [h]
      · exact hsr
      · simpa using hsr
    refine own_tre (xs := xs' ++ news) he (fun r' hr' => ?_) hkc (by simpa using r2) (fun i _ x hx hob => ?_) (fun i j _ _ hne x hx hy' => ?_) fun i r' hr' => ?_
    · rcases List.mem_append.1 hr' with h | h
      · exact hblk.1 r' h
      · simp at h; subst h; exact hnrl
    · obtain ⟨hi, hx⟩ := hF2i i x hx
      have h1 := hFn i hi x hx
      have h2 := (hp.inv.lt x ⟨n, _, hmem, h1⟩).1
      rcases (r5 x hob).1 with h | h
      · exact hF3 i hi x hx h
      · omega
    · obtain ⟨hi, hx⟩ := hF2i i x hx
      obtain ⟨hj, hy'⟩ := hF2i j x hy'
      exact hF4 i j hi hj hne x hx hy'
    · have hl1 : xs'.length = rows.length * size := own.len
      rcases Nat.lt_or_ge i rows.length with hi | hi
      · rw [List.getElem?_append_left hi] at hr'
        obtain ⟨q1, q2⟩ := hxs i r' hr'
        refine ⟨fun h x hx => q1 h x (hF2i i x hx).2, fun kk c u hc hu => ?_⟩
        have hkk : kk < size := by rw [← hblk.1 _ (List.mem_of_getElem? hr')]; exact (List.getElem?_eq_some_iff.1 hc).1
        have hlt2 : i * size + kk < xs'.length := by
          have : (i + 1) * size ≤ rows.length * size := Nat.mul_le_mul_right _ (by omega)
          rw [Nat.succ_mul] at this; omega
        rw [List.getElem?_append_left hlt2] at hu
        obtain ⟨a1, a2⟩ := q2 kk c u hc hu
        have hFe : F2 i = Fs i := by rw [hF2]; funext x; simp [hi]
        rw [hFe]
        exact ⟨fun h => let ⟨ks, rws, q1, q2⟩ := a1 h; ⟨ks, rws, q1, q2.next hD (hFb i hi)⟩, fun h => (a2 h).imp id fun h => h.mono hD⟩
      · rw [List.getElem?_append_right hi] at hr'
        have hi0 : i = rows.length := by have := (List.getElem?_eq_some_iff.1 hr').1; simp at this; omega
        subst hi0
        simp at hr'; subst hr'
        have hnoF : ∀ x, ¬ F2 rows.length x := fun x hx => by have := (hF2i _ x hx).1; omega
        refine ⟨fun _ => hnoF, fun kk c u hc hu => ?_⟩
        rw [List.getElem?_append_right (by omega), hl1, Nat.add_sub_cancel_left] at hu
        rcases hnr with ⟨h1', h2'⟩ | ⟨h1', h2', h3'⟩
        · rw [h2'] at hc
          exact ⟨fun h => (by rw [h1'] at h; cases h.1), fun _ => .inr ((r4 kk c u hc hu).mono hD)⟩
        · by_cases hk : kk = kc
          · subst hk
            rw [h3', List.getElem?_set_self (by omega)] at hc
            cases hc
            rw [nthE_eq] at h2'
            have hv := r4 kk _ u h2' hu
            cases hv
            exact ⟨fun _ => ⟨ks, [], rfl, ⟨by simp, .inl ⟨rfl, ⟨none, rfl⟩, hnoF⟩⟩⟩, fun h => absurd ⟨h1', rfl⟩ h⟩
          · rw [h3', List.getElem?_set_ne (Ne.symm hk)] at hc
            exact ⟨fun h => absurd h.2 hk, fun _ => .inr ((r4 kk c u hc hu).mono hD)⟩

/-! ## Data again -/
theorem tre_data {w : World} {D D' : Nat → Prop} {v : Value} {fp : Nat → Prop} {e size kc ke : Nat} {rows : List (List PV × Bool)} (hD : ∀ b, D b → D' b) (hf : ∀ b, fp b → D' b) (hj : ∀ r ∈ rows, r.1.all datP = true) (h : TreOk w D v fp e size kc ke rows) : RD w D' (.sl size false (rows.map (·.1))) v := by
  obtain ⟨h0, hkc, ⟨rfl, ⟨ao, rfl⟩, h3⟩ | ⟨b, us, cap, Fs, rfl, g2, g3, g4, g5, g6, g7, g8, g9⟩⟩ := h
  · exact .nil (Nat.zero_le _) (by simp)
  · have at_ : ∀ i row k c, (rows.map (·.1))[i]? = some row → row[k]? = some c → i * size + k < us.length ∧ ∃ fl, rows[i]? = some (row, fl) := by
      intro i row k c hi hk
      rw [List.getElem?_map, Option.map_eq_some_iff] at hi
      obtain ⟨r, h1, rfl⟩ := hi
      have hro := h0 r (List.mem_of_getElem? h1)
      have hk' : k < size := by rw [← hro]; exact (List.getElem?_eq_some_iff.1 hk).1
      have hi' := (List.getElem?_eq_some_iff.1 h1).1
      refine ⟨?_, r.2, h1⟩
      have : (i + 1) * size ≤ cap * size := Nat.mul_le_mul_right _ (by omega)
      rw [Nat.succ_mul] at this
      omega
    have := RD.sl (w := w) (D := D') (size := size) (full := false) (rows := rows.map (·.1)) (a := ⟨b, 0, none⟩) (cap := cap) (fun j => us.getD j undef) (by simpa using g6.1) g7 (by simp) (hf b ((g2 b).2 (.inl rfl)))
      (fun row hr => by obtain ⟨r, h1, rfl⟩ := List.mem_map.1 hr; exact h0 r h1) (fun i row k c hi hk => by
        obtain ⟨h8, _⟩ := at_ i row k c hi hk
        rw [addr_add, cell_of_cells g8]
        simp [List.getD, List.getElem?_eq_getElem h8]) (fun i row k c hi hk => by
        obtain ⟨h8, fl, h9⟩ := at_ i row k c hi hk
        obtain ⟨a1, a2⟩ := (g9 i _ h9).2 k c _ hk (List.getElem?_eq_getElem h8)
        simp only [List.getD, List.getElem?_eq_getElem h8, Option.getD_some]
        have hil := (List.getElem?_eq_some_iff.1 h9).1
        by_cases ho : fl = true ∧ k = kc
        · obtain ⟨ks, rws, rfl, ha⟩ := a1 ho
          exact arr_data (σ := fun _ => .nilFunc) hD (fun x hx => hf x ((g2 x).2 (.inr ⟨i, hil, hx⟩))) ha
        · rcases a2 ho with rfl | hr
          · have := List.all_eq_true.1 (hj _ (List.mem_of_getElem? h9)) _ (List.mem_of_getElem? hk)
            cases this
          · exact hr.mono fun b hb => ⟨hD b hb, rfl⟩)
    rw [List.length_map] at this
    exact this

theorem pre_freezeQ {n : Nat} {q : PV} {E' : Env} {S' : Store} {k0 : Blk} (hb : lkS S n = some k0) (hq0 : ∀ (σ : Nat → Value) (w : World) (D D' : Nat → Prop) v fp, (∀ b, D b → D' b) → (∀ b, fp b → D' b) → BlkOk σ w D v fp k0 → RD w D' q v) (hE : frzE n q E = some E') (hS : frzS n q S = some S') {a : Act} {w : World} {σ : Nat → Value} {φ : Nat → Nat → Prop} :
    Pre' G E S a w σ φ → Pre' G E' S' a w σ φ := by
  intro h
  have hmem := lkS_mem hb
  have hsm := frzS_mem hS
  have hF : ∀ b, foot φ S' b → foot φ S b := by
    rintro b ⟨m, k, h1, h2⟩
    obtain ⟨_, k0, h3, _⟩ := hsm m k h1
    exact ⟨m, k0, h3, h2⟩
  have hD : ∀ b, Dof G.X φ w S b → Dof G.X φ w S' b := fun b ⟨h1, h2, h3⟩ => ⟨h1, h2, fun m k hm hf => by
    obtain ⟨m', k', h4, h5⟩ := hF b ⟨m, k, hm, hf⟩
    exact h3 m' k' h4 h5⟩
  have hn : ∀ b, φ n b → Dof G.X φ w S' b := fun b hb => by
    obtain ⟨h1, h2⟩ := h.inv.lt b ⟨n, _, hmem, hb⟩
    refine ⟨h1, h2, fun m k hm hf => ?_⟩
    obtain ⟨hne, k0, h3, _⟩ := hsm m k hm
    exact h.inv.disj m n k0 _ h3 hmem hne b hf hb
  have hq : RD w (Dof G.X φ w S') q (σ n) := hq0 σ w _ _ _ _ hD hn (h.inv.ok n _ hmem)
  refine ⟨h.defers, h.size, fun t p ht => ?_, ⟨(frzS_names hS).nodup h.inv.nodup, h.inv.xlt, fun b hb => h.inv.lt b (hF b hb), fun m1 m2 k1 k2 h1 h2 => ?_, fun m k hm => ?_⟩, h.fr, h.agree, fun b hb => h.new b (hF b hb)⟩
  · rw [frzE_lk hE] at ht
    cases hl : lk E t with
    | none => simp [hl] at ht
    | some p0 =>
      obtain ⟨u, hu, hr⟩ := h.env t p0 hl
      simp only [hl, Option.map_some, Option.some.injEq] at ht
      exact ⟨u, hu, frz_one hD hq hr ht⟩
  · obtain ⟨_, k01, h3, _⟩ := hsm m1 k1 h1
    obtain ⟨_, k02, h4, _⟩ := hsm m2 k2 h2
    exact h.inv.disj m1 m2 k01 k02 h3 h4
  · obtain ⟨hne, k0, h3, hkk⟩ := hsm m k hm
    rcases hkk with ⟨rfl, _⟩ | ⟨ty, cells, cells', rfl, rfl, hc⟩
    · exact (h.inv.ok m _ h3).mono hD
    · obtain ⟨b, us, g1, g2, g3, g4, g5⟩ := h.inv.ok m _ h3
      obtain ⟨l1, l2⟩ := frzL_at hc
      refine ⟨b, us, g1, g2, by rw [g3, l1], g4, fun i c u hci hu => ?_⟩
      rw [l2 i] at hci
      cases hl : cells[i]? with
      | none => simp [hl] at hci
      | some p0 =>
        simp only [hl, Option.map_some, Option.some.injEq] at hci
        exact frz_one hD hq (g5 i p0 u hl hu) hci
theorem pre_freezeT {α β : Type} {n e size kc ke : Nat} (f : β → List PV × Bool) (g : β → α) (enc : α → List PV) (xs : List β) {E' : Env} {S' : Store} (hf : ∀ x, (f x).1 = enc (g x)) (hj : ∀ x, (enc x).all datP = true) (hb : lkS S n = some (.tre e size kc ke (xs.map f)))
    (hE : frzE n (.sl size false ((xs.map g).map enc)) E = some E') (hS : frzS n (.sl size false ((xs.map g).map enc)) S = some S') {a : Act} {w : World} {σ : Nat → Value} {φ : Nat → Nat → Prop} : Pre' G E S a w σ φ → Pre' G E' S' a w σ φ := by
  refine pre_freezeQ hb (fun σ w D D' v fp h1 h2 h3 => ?_) hE hS
  have e1 : (xs.map g).map enc = (xs.map f).map (·.1) := by simp [hf]
  rw [e1]
  refine tre_data h1 h2 (fun r hr => ?_) h3
  obtain ⟨x, _, rfl⟩ := List.mem_map.1 hr
  rw [hf]; exact hj _
theorem po_freezeT {α β : Type} {ops : List Oper} (n : Nat) {e size kc ke : Nat} (f : β → List PV × Bool) (g : β → α) (enc : α → List PV) (xs : List β) {E' : Env} {S' : Store} (hf : ∀ x, (f x).1 = enc (g x)) (hj : ∀ x, (enc x).all datP = true) (hb : lkS S n = some (.tre e size kc ke (xs.map f)))
    (hE : frzE n (.sl size false ((xs.map g).map enc)) E = some E') (hS : frzS n (.sl size false ((xs.map g).map enc)) S = some S') (k : PO G m all ops K E' S') : PO G m all ops K E S := fun r hr a w ⟨σ, φ, hp⟩ => k r hr a w ⟨σ, φ, pre_freezeT f g enc xs hf hj hb hE hS hp⟩
end
end Go.Pw
