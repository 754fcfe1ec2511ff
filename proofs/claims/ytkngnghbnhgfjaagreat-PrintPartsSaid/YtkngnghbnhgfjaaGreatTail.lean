/- The end of a slice of the call's own, made empty. No program is named here. -/
import Derived.Test.YtkngnghbnhgfjaaGreatBack
namespace Go.Pw
open Go

/-- A list whose end is made of zeros. -/
def tailz {α : Type} (xs : List α) (l : Int) (z : α) : Option (List α) := if 0 ≤ l ∧ l ≤ (xs.length : Int) then some (xs.take l.toNat ++ List.replicate (xs.length - l.toNat) z) else none
theorem zeroCells_one {z : Value} (m : Nat) : (Builtin.zeroCells #[z] m).toList = List.replicate m z := by
  unfold Builtin.zeroCells
  simp only [List.size_toArray, List.length_cons, List.length_nil, Nat.zero_add, Nat.mul_one]
  refine List.ext_getElem (by simp) fun i h1 h2 => ?_
  simp [Nat.mod_one]
section
variable {ρ : Type} {G : Ctx ρ} {m : Option ρ} {K : List (Kont ρ)} {E : Env} {S : Store} {all : Array Oper}
theorem put_eval {a : Act} {d : Nat} {v : Value} (h : d < a.tmps.size) : (a.put (some d) v).eval (.tmp d) = v := by
  simp [Act.put, Act.eval, h]
theorem po_clear {T : Tab G.P} {α : Type} {o1 o2 : Oper} {rest : List Oper} (enc : α → List PV) (xs : List α) (z0 : α) {t : TypeId} {x lo : Operand} {args : Array Operand} {tys : Array TypeId} {n e e' by_ : Nat} {l : Int} {kk : IntKind} {f : List α → Option ρ} {d : Nat} {z : Value} {S' : List α → Store}
    (ho1 : o1.op = .slice t x (some lo) none none) (hg1 : gE all E o1 = some true) (hx : ev E x = some (.own n)) (hb : lkS S n = some (.arr e' 1 (xs.map enc))) (hl : ev E lo = some (.v (.int kk l))) (ht : lku T.els t = some (e, 1, by_)) (hz : lku T.zeros e = some z) (hzc : z.cells = #[z]) (hzf : flat z = true) (hz1 : z.oneCell' = true) (henc : enc z0 = [.v z]) (hd1 : o1.dst = some d) (hlt : Nat.blt d G.fn.ntmps = true)
    (ho2 : o2.op = .call ⟨.builtin .clear, args, tys⟩) (h1 : args.toList = [.tmp d]) (h2 : tys.toList = [t]) (hg2 : gE all ((d, .junk) :: E) o2 = some true) (hd2 : o2.dst = none) (hS : ∀ ys : List α, setS n (.arr e' 1 (ys.map enc)) S = some (S' ys))
    (k : ∀ ys, tailz xs l z0 = some ys → PO G (f ys) all rest K ((d, .junk) :: E) (S' ys)) : PO G (bnd (tailz xs l z0) f) all (o1 :: o2 :: rest) K E S := by
  refine po_bnd fun ys hy => po_op hg1 fun r hr a w ⟨σ, φ, hp⟩ => ?_
  have hy' := hy
  unfold tailz at hy'
  split at hy'
  case isFalse => cases hy'
  rename_i hlr
  obtain ⟨p1, p2⟩ := hlr
  have he := (Option.some.inj hy').symm
  have hyl : ys.length = xs.length := by rw [he]; simp; omega
  have hmem := lkS_mem hb
  obtain ⟨g0, gb⟩ := hp.inv.ok n _ hmem
  have hxv : a.eval x = σ n := by
    have := ev_ok hp.env hx
    generalize a.eval x = v at this
    cases this with
    | own => rfl
    | d hd => cases hd
  obtain ⟨hlv, _⟩ := (ev_ok hp.env hl).flat_inv
  obtain ⟨hel, inf, hinf, hsz, _⟩ := elOf_slice (T.hels _ (lku_mem ht))
  have hz' := T.hzeros _ (lku_mem hz)
  simp only [hinf, Option.bind_some] at hz'
  have hdl := blt_lt hlt
  obtain ⟨args⟩ := args
  obtain ⟨tys⟩ := tys
  simp only at h1 h2
  subst h1 h2
  have hall : ∀ row ∈ ys.map enc, row.length = 1 := fun row hrow => by
    obtain ⟨y, hy1, rfl⟩ := List.mem_map.1 hrow
    rw [he] at hy1
    rcases List.mem_append.1 hy1 with hy1 | hy1
    · exact g0 _ (List.mem_map_of_mem (List.mem_of_mem_take hy1))
    · rw [List.eq_of_mem_replicate hy1, henc]; rfl
  -- both steps at once
  have fin : ∀ (v : Value) (w' : World), (execOp a.eval o1).run G.P w = .ok (.value v) w → (Builtin.clear_ #[t] o2.type #[v]).run G.P w = .ok (.tuple #[]) w' → w'.heap.size = w.heap.size → (∀ b, ¬ φ n b → w'.heap[b]? = w.heap[b]?) → w'.os = w.os → w'.tape = w.tape → w'.output = w.output →
      (∀ D', (∀ b, Dof G.X φ w S b → D' b ∧ w'.heap[b]? = w.heap[b]?) → BlkOk σ w' D' (σ n) (φ n) (.arr e' 1 (ys.map enc))) → o1.wp G.P a w (wpList G.P all (kwp G r K) (o2 :: rest)) (kwp G r K) := by
    intro v w' hr1 hr2 q1 q2 q3 q4 q5 q6
    unfold Oper.wp
    rw [hr1, Oper.upon_value, hd1]
    have hp1 := hp.put (p := .junk) (u := v) hdl .junk
    have hw : Region.wanted o2 (yielded all (a.put (some d) v).tmps) = true := gE_ok hp1.env hg2
    unfold wpList
    rw [if_pos hw]
    left
    have hev : (a.put (some d) v).eval (.tmp d) = v := put_eval (by rw [hp.size]; exact hdl)
    have hrun2 : (execOp (a.put (some d) v).eval o2).run G.P w = .ok (.value (.tuple #[])) w' := by
      simp [execOp, ho2, resolve, invoke, builtin, hev, hr2]
    unfold Oper.wp
    rw [hrun2, Oper.upon_value, hd2]
    exact k ys hy r hr _ _ ⟨σ, φ, hp1.turn hmem (hS ys) q1 q2 q3 q4 q5 q6⟩
  rcases gb with ⟨h3, ⟨ao, h4⟩, h5⟩ | ⟨b, us, cap, h3, h3', h4, h5, h6, ⟨fr, h7, h7', h7''⟩, h8⟩
  · have hx0 : xs = [] := by simpa using h3
    subst hx0
    have hl0 : l = 0 := by simp at p2; omega
    subst hl0
    have hy0 : ys = [] := by simpa using hyl
    have hbn := run_bounds (P := G.P) (b := true) (len := 0) (cap := 0) (w := w) (lo := some (.int kk 0)) (hi := none) (l := 0) (h := 0) (by omega) (by omega) (by omega) (.inr ⟨_, rfl⟩) (.inl ⟨rfl, rfl⟩)
    refine fin (.slice ao 0 0) w ?_ ?_ rfl (fun _ _ => rfl) rfl rfl rfl fun D' hD => ⟨hall, .inl ⟨by rw [hy0]; rfl, ⟨ao, h4⟩, h5⟩⟩
    · simp [execOp, ho1, hxv, h4, hlv, Instr.sliceAt, Instr.slice, run_underlying hel, hbn, sizeOf, typeInfo, hinf, hsz]
    · cases ao <;> simp [Builtin.clear_, run_underlying hel]
  · rw [List.length_map] at h3 h5
    have hbn := run_bounds (P := G.P) (b := true) (len := xs.length) (cap := cap) (w := w) (lo := some (.int kk l)) (hi := none) (l := l) (h := xs.length) (by omega) (by omega) (by omega) (.inr ⟨_, rfl⟩) (.inl ⟨rfl, rfl⟩)
    have hblk : ∀ (us' : List Value) (w' : World) (D' : Nat → Prop), (∀ b, Dof G.X φ w S b → D' b ∧ w'.heap[b]? = w.heap[b]?) → us'.length = us.length → w'.heap[b]? = some (.cells ⟨us'⟩ (e' % fixE) fr) → (∀ j, us'[j]? = if l.toNat ≤ j ∧ j < xs.length then some z else us[j]?) → BlkOk σ w' D' (σ n) (φ n) (.arr e' 1 (ys.map enc)) := by
      intro us' w' D' hD hul hw' hus
      refine ⟨hall, .inr ⟨b, us', cap, by rw [List.length_map, hyl]; exact h3, h3', by rw [hul, h4], ⟨by rw [List.length_map, hyl]; exact h5.1, h5.2⟩, h6, ⟨fr, hw', by rw [hul]; exact h7', h7''⟩, fun j c u hc hu => ?_⟩⟩
      have hjl : j < (ys.map enc).flatten.length := (List.getElem?_eq_some_iff.1 hc).1
      rw [flat_len hall, List.length_map, hyl, Nat.mul_one] at hjl
      rw [hus j] at hu
      have hjy : j < ys.length := by omega
      have hrow : (ys.map enc)[j]? = some (enc ys[j]) := by rw [List.getElem?_map, List.getElem?_eq_getElem hjy]; rfl
      have hf := flatten_at hall hrow (show 0 < 1 by omega)
      rw [Nat.mul_one, Nat.add_zero, hc] at hf
      by_cases hjz : l.toNat ≤ j
      · rw [if_pos ⟨hjz, hjl⟩] at hu
        have hyz : ys[j] = z0 := by
          simp only [he]
          rw [List.getElem_append_right (by simp; omega)]
          simp
        rw [hyz, henc] at hf
        simp only [List.getElem?_cons_zero, Option.some.injEq] at hf hu
        subst hf hu
        exact .v hzf
      · rw [if_neg (by omega)] at hu
        have hyx : ys[j] = xs[j]'hjl := by
          simp only [he]
          rw [List.getElem_append_left (by simp; omega)]
          simp
        have hrow0 : (xs.map enc)[j]? = some (enc (xs[j]'hjl)) := by rw [List.getElem?_map, List.getElem?_eq_getElem hjl]; rfl
        have hf0 := flatten_at g0 hrow0 (show 0 < 1 by omega)
        rw [Nat.mul_one, Nat.add_zero, ← hyx, ← hf] at hf0
        exact (h8 j c u hf0 hu).mono hD
    by_cases hlx : l.toNat = xs.length
    · refine fin (.slice (if cap = l.toNat then some ⟨b, 0, none⟩ else some ⟨b, l.toNat, none⟩) 0 (cap - l.toNat)) w ?_ ?_ rfl (fun _ _ => rfl) rfl rfl rfl fun D' hD => hblk us w D' hD rfl h7 fun j => by rw [if_neg (by omega)]
      · simp only [execOp, ho1, hxv, h3]
        simp [Instr.sliceAt, Instr.slice, run_underlying hel, hbn, sizeOf, typeInfo, hinf, hsz, addr_add, hlx, hlv]
      · split <;> simp [Builtin.clear_, run_underlying hel]
    · obtain ⟨w', cur', s1, s2, s3, s4, s5, s6, s7, s8, s9⟩ := run_stores (P := G.P) b l.toNat (e' % fixE) fr (List.replicate (xs.length - l.toNat) z) 0 us w h7 h7' (by rw [h4]; simp; omega) (fun v hv => by rw [List.eq_of_mem_replicate hv]; exact hz1)
      refine fin (.slice (some ⟨b, l.toNat, none⟩) (xs.length - l.toNat) (cap - l.toNat)) w' ?_ ?_ s5 (fun c hc => s6 c fun e => hc ((h3' c).2 e)) s7 s8 s9 fun D' hD => hblk cur' w' D' hD s3 s2 fun j => ?_
      · have hne : ¬ cap = l.toNat := by omega
        simp only [execOp, ho1, hxv, h3]
        simp [Instr.sliceAt, Instr.slice, run_underlying hel, hbn, sizeOf, typeInfo, hinf, hsz, addr_add, hlv, hne]
      · have hm0 : ¬ xs.length - l.toNat = 0 := by omega
        obtain ⟨m1, hm1⟩ : ∃ m1, xs.length - l.toNat = m1 + 1 := ⟨xs.length - l.toNat - 1, by omega⟩
        rw [hm1] at s1 ⊢
        simp [Builtin.clear_, run_underlying hel, zeroValue, typeInfo, hinf, hz', hzc, zeroCells_one, s1]
      · rw [s4 j, Nat.add_zero, List.length_replicate]
        by_cases hj : l.toNat ≤ j ∧ j < xs.length
        · rw [if_pos (by omega), if_pos hj, List.getElem?_replicate, if_pos (by omega)]
        · rw [if_neg (by omega), if_neg hj]
end
end Go.Pw
