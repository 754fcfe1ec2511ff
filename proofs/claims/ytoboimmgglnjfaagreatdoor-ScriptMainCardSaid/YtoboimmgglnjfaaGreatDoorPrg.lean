/- The program's iterator programs of script. -/
import Derived.Test.YtoboimmgglnjfaaGreatDoorEach
import Derived.Test.YtoboimmgglnjfaaGreatDoorData
namespace Go.Proofs.YtoboimmgglnjfaaGreatDoor
open Go Go.Pw
set_option linter.unusedVariables false
abbrev zMd := List Op × Int
def zHj (c : Class) : List zMd := (c.Peek, 60) :: (c.Make, 60) :: c.Hooks.map fun h => (h.Do, 60)
def zA0 (s : Script) : List zMd := s.Classes.flatMap zHj ++ [(s.Main, 300)]
abbrev zM6 (y : zMd) : List PV := [.sl 7 false (y.1.map cOp), .v (.int .i64 y.2)]
abbrev zDq (s : Script) : Store := [(0, .box 25 [.sl 5 false (s.Classes.map zAI), .sl 7 false (s.Main.map cOp)])]
abbrev zFE (c : Class) : Nat × Blk := (4, .box 51 [.v (.bool c.Form), .sl 1 false (c.Watch.map cStr), .sl 7 false (c.Peek.map cOp), .sl 7 false (c.Make.map cOp), .sl 2 false (c.Hooks.map zAa)])
abbrev zNU (s : Script) (l : Nat) (i : Nat) : Env := [(0, .fn (.yield l) [] []), (1, .loc 0 0), (8, .sl 5 false (s.Classes.map zAI)), (9, .v (.int .i64 (s.Classes.length : Nat))), (10, .v (.int .i64 (i : Nat)))]
def at1 {α : Type} (l : List α) (i : Nat) : Option α := bnd (idx l (i : Int)) fun y => some y
abbrev zIA (s : Script) (l : Nat) (i : Nat) (c : Class) : Env := [(4, .loc 4 0), (0, .fn (.yield l) [] []), (1, .loc 0 0), (8, .sl 5 false (s.Classes.map zAI)), (9, .v (.int .i64 (s.Classes.length : Nat))), (10, .v (.int .i64 (i : Nat)))]
abbrev zIe (s : Script) (l : Nat) (i : Nat) (c : Class) (j : Nat) : Env := (27, .sl 2 false (c.Hooks.map zAa)) :: (28, .v (.int .i64 (c.Hooks.length : Nat))) :: (29, .v (.int .i64 (j : Nat))) :: zIA s l i c
abbrev hookB (h : Hook) : Nat × Blk := (6, .box 54 [.v (.int .i64 h.Kind), .sl 7 false (h.Do.map cOp)])
theorem zL5 {α : Type} {l : List α} {i : Nat} {y : α} (h : l[i]? = some y) : at1 l i = some y := by
 unfold at1 idx
 rw [if_pos (by omega), Int.toNat_natCast, h]; rfl
theorem zNG {α : Type} {l : List α} {i : Nat} (h : i < l.length) : ∃ y, l[i]? = some y ∧ l.drop i = y :: l.drop (i + 1) := by
 refine ⟨l[i], List.getElem?_eq_getElem h, List.drop_eq_getElem_cons h⟩
set_option maxHeartbeats 10000000 in
set_option maxRecDepth 100000 in
theorem zKs (s : Script) : zOH zAi Tryz.prog 68 25 [.sl 5 false (s.Classes.map zAI), .sl 7 false (s.Main.map cOp)] zM6 (zA0 s) := by
 refine zMc Tryz.func68 rfl rfl rfl fun l J hY a w hp => ?_
 have hnm : ∀ y : zMd, ∀ p ∈ zM6 y, names p = [] := fun y p h => by
  simp only [zM6, List.mem_cons, List.not_mem_nil, or_false] at h
  rcases h with rfl | rfl <;> rfl
 refine wpIn_seq (wpIn_seq (zG5 (ρ := Unit) (m := some ()) (r := ()) (E1 := fun _ => zNU s l 0) (S1 := fun _ => zDq s) hY (fun w0 X X0 σ0 hl => ?_) rfl hp fun a w hp => ?_))
 ·refine zAD ?_
  refine zCK (T := tab) 2 rfl rfl ?_
  refine zCD (T := tab) zAI s.Classes rfl rfl rfl rfl rfl rfl rfl rfl ?_
  refine zCK (T := tab) 1 rfl rfl ?_
  refine zAC ?_
  exact zE4 ⟨rfl, rfl, rfl, rfl, rfl, trivial⟩ ⟨rfl, trivial⟩ rfl
 refine wpIn_block (zQs (n := s.Classes.length) (fun k a w => ∃ i, i + k = s.Classes.length ∧ PreY Tryz.f68 J (some ((s.Classes.drop i).flatMap zHj ++ [(s.Main, 300)])) (zNU s l i) (zDq s) a w) ?_ ⟨0, by omega, hp⟩)
 rintro k a w ⟨i, hi, hp⟩
 refine wpIn_seq (zG5 (ρ := Unit) (m := some ()) (r := ()) (E1 := fun _ => (11, .v (.bool (decide ((i : Int) < (s.Classes.length : Nat))))) :: zNU s l i) (S1 := fun _ => zDq s) hY (fun w0 X X0 σ0 hl => ?_) rfl hp fun a w hp => ?_)
 ·refine zAD ?_
  refine zCK (T := tab) 1 rfl rfl ?_
  refine zAC ?_
  exact zE4 ⟨rfl, rfl, rfl, rfl, rfl, rfl, trivial⟩ ⟨rfl, trivial⟩ rfl
 cases k with
 | zero =>
  have hd : decide ((i : Int) < (s.Classes.length : Nat)) = false := by simp; omega
  rw [hd] at hp
  have hdr : s.Classes.drop i = [] := by rw [List.drop_eq_nil_iff]; omega
  rw [hdr] at hp
  refine wpIn_seq (wpIn_cond_false (hp.eval rfl) (wpIn_exit ?_))
  show (Code.region 10 _ false).wpIn (FR none) 0 Tryz.prog _ a w
  refine wpIn_region_lit (zJE (ρ := Unit) (m := some ()) (r := ()) (E1 := fun _ => [(40, .fn (.yield l) [] []), (42, .sl 7 false (s.Main.map cOp))]) (S1 := fun _ => zDq s) (l1 := [_, _, _]) (l2 := [_]) hY (fun w0 X X0 σ0 hl => ?_) rfl rfl hp fun a w hp => ?_)
  ·refine zCK (T := tab) 3 rfl rfl ?_
   refine zAC ?_
   exact zE4 ⟨rfl, rfl, trivial⟩ ⟨rfl, trivial⟩ rfl
  refine zJI (y := (s.Main, 300)) (ys := []) (E0 := []) hY hp rfl rfl ⟨⟨_, rfl, .rfl⟩, ⟨_, rfl, .rfl⟩, trivial⟩ (hnm _) rfl rfl rfl trivial rfl (fun a w hp => wpListIn_nil ?_) (fun a w hp => wpListIn_nil ?_)
  ·exact .inl ⟨_, _, hp⟩
  ·exact .inr ⟨_, _, hp⟩
 | succ k =>
  have hd : decide ((i : Int) < (s.Classes.length : Nat)) = true := by simp; omega
  rw [hd] at hp
  refine wpIn_seq (wpIn_cond_true (hp.eval rfl) (wpIn_skip ?_))
  obtain ⟨c, hc, hdr⟩ := zNG (l := s.Classes) (i := i) (by omega)
  rw [hdr] at hp
  refine wpIn_seq (wpIn_block (wpIn_seq (zG5 (ρ := Class) (m := at1 s.Classes i) (r := c) (E1 := fun c => zIA s l i c) (S1 := fun c => zFE c :: zDq s) hY (fun w0 X X0 σ0 hl => ?_) (zL5 hc) hp fun a w hp => ?_)))
  ·refine zAD ?_
   refine zCV (T := tab) zAI s.Classes rfl rfl rfl rfl rfl rfl rfl fun y4 hy4 => ?_
   refine zCK (T := tab) 1 rfl rfl ?_
   refine zBE (T := tab) 4 rfl rfl rfl rfl rfl rfl rfl rfl rfl ?_
   refine zAK (T := tab) rfl rfl rfl rfl rfl rfl rfl rfl rfl rfl rfl rfl ?_
   refine zAC ?_
   exact zE4 ⟨rfl, rfl, rfl, rfl, rfl, rfl, trivial⟩ ⟨rfl, rfl, trivial⟩ rfl
  have hstop : ∀ {a w} {Q : Exit → Act → World → Prop}, PreY Tryz.f68 J none [(25, .v (.bool true))] [] a w → (∀ a w, YEnd Tryz.f68 J .ret a w → Q .ret a w) → (Code.cond (.tmp 25) .ret .skip).wpIn (FR none) 0 Tryz.prog Q a w := fun hp hq => wpIn_cond_true (hp.eval rfl) (wpIn_ret (hq _ _ (.inr ⟨_, _, hp⟩)))
  refine wpIn_seq (wpIn_seq (wpIn_region_lit (zJE (ρ := Unit) (m := some ()) (r := ()) (E1 := fun _ => (14, .fn (.yield l) [] []) :: (16, .sl 7 false (c.Peek.map cOp)) :: zIA s l i c) (S1 := fun _ => zFE c :: zDq s) (l1 := [_, _, _]) hY (fun w0 X X0 σ0 hl => ?_) rfl rfl hp fun a w hp => ?_)))
  ·refine zCK (T := tab) 3 rfl rfl ?_
   refine zAC ?_
   exact zE4 ⟨rfl, rfl, rfl, rfl, rfl, rfl, rfl, rfl, trivial⟩ ⟨rfl, rfl, trivial⟩ rfl
  rw [List.flatMap_cons] at hp
  refine zJI (y := (c.Peek, 60)) (E0 := []) hY hp rfl rfl ⟨⟨_, rfl, .rfl⟩, ⟨_, rfl, .rfl⟩, trivial⟩ (hnm _) rfl rfl rfl trivial rfl (fun a w hp => ?_) (fun a w hp => ?_)
  rotate_left
  ·refine zJE (ρ := Unit) (m := some ()) (r := ()) (E1 := fun _ => [(25, .v (.bool true))]) (S1 := fun _ => []) (l1 := [_, _, _, _, _, _, _, _]) (l2 := []) hY (fun w0 X X0 σ0 hl => ?_) rfl rfl hp fun a w hp => ?_
   ·refine zCK (T := tab) 8 rfl rfl ?_
    refine zAC ?_
    exact zE4 ⟨rfl, trivial⟩ trivial rfl
   ·exact wpListIn_nil (hstop hp fun a w h => h)
  refine zJE (ρ := Unit) (m := some ()) (r := ()) (E1 := fun _ => (20, .fn (.yield l) [] []) :: (22, .sl 7 false (c.Make.map cOp)) :: (19, .v (.bool false)) :: zIA s l i c) (S1 := fun _ => zFE c :: zDq s) (l1 := [_, _, _, _, _]) hY (fun w0 X X0 σ0 hl => ?_) rfl rfl hp fun a w hp => ?_
  ·refine zCK (T := tab) 5 rfl rfl ?_
   refine zAC ?_
   exact zE4 ⟨rfl, rfl, rfl, rfl, rfl, rfl, rfl, rfl, rfl, trivial⟩ ⟨rfl, rfl, trivial⟩ rfl
  refine zJI (y := (c.Make, 60)) (E0 := [(19, .v (.bool false))]) hY hp rfl rfl ⟨⟨_, rfl, .rfl⟩, ⟨_, rfl, .rfl⟩, trivial⟩ (hnm _) rfl rfl rfl ⟨rfl, trivial⟩ rfl (fun a w hp => ?_) (fun a w hp => ?_)
  rotate_left
  ·refine zJE (ρ := Unit) (m := some ()) (r := ()) (E1 := fun _ => [(25, .v (.bool true))]) (S1 := fun _ => []) (l1 := [_, _]) (l2 := []) hY (fun w0 X X0 σ0 hl => ?_) rfl rfl hp fun a w hp => ?_
   ·refine zCK (T := tab) 2 rfl rfl ?_
    refine zAC ?_
    exact zE4 ⟨rfl, trivial⟩ trivial rfl
   ·exact wpListIn_nil (hstop hp fun a w h => h)
  refine zJE (ρ := Unit) (m := some ()) (r := ()) (E1 := fun _ => (25, .v (.bool false)) :: zIA s l i c) (S1 := fun _ => zFE c :: zDq s) (l1 := [_, _]) (l2 := []) hY (fun w0 X X0 σ0 hl => ?_) rfl rfl hp fun a w hp => ?_
  ·refine zCK (T := tab) 2 rfl rfl ?_
   refine zAC ?_
   exact zE4 ⟨rfl, rfl, rfl, rfl, rfl, rfl, rfl, trivial⟩ ⟨rfl, rfl, trivial⟩ rfl
  refine wpListIn_nil ?_
  refine wpIn_cond_false (hp.eval rfl) (wpIn_skip ?_)
  refine wpIn_seq (zG5 (ρ := Unit) (m := some ()) (r := ()) (E1 := fun _ => zIe s l i c 0) (S1 := fun _ => zFE c :: zDq s) hY (fun w0 X X0 σ0 hl => ?_) rfl hp fun a w hp => ?_)
  ·refine zAD ?_
   refine zCK (T := tab) 2 rfl rfl ?_
   refine zCD (T := tab) zAa c.Hooks rfl rfl rfl rfl rfl rfl rfl rfl ?_
   refine zCK (T := tab) 1 rfl rfl ?_
   refine zAC ?_
   exact zE4 ⟨rfl, rfl, rfl, rfl, rfl, rfl, rfl, rfl, rfl, trivial⟩ ⟨rfl, rfl, trivial⟩ rfl
  refine wpIn_block (zQs (n := c.Hooks.length) (fun k a w => ∃ j, j + k = c.Hooks.length ∧ PreY Tryz.f68 J (some ((c.Hooks.drop j).map (fun h => (h.Do, (60 : Int))) ++ ((s.Classes.drop (i + 1)).flatMap zHj ++ [(s.Main, 300)]))) (zIe s l i c j) (zFE c :: zDq s) a w) ?_ ⟨0, by omega, ?_⟩)
  rotate_left
  ·rw [← List.append_assoc]; exact hp
  rintro k2 a w ⟨j, hj, hp⟩
  refine wpIn_seq (zG5 (ρ := Unit) (m := some ()) (r := ()) (E1 := fun _ => (30, .v (.bool (decide ((j : Int) < (c.Hooks.length : Nat))))) :: zIe s l i c j) (S1 := fun _ => zFE c :: zDq s) hY (fun w0 X X0 σ0 hl => ?_) rfl hp fun a w hp => ?_)
  ·refine zAD ?_
   refine zCK (T := tab) 1 rfl rfl ?_
   refine zAC ?_
   exact zE4 ⟨rfl, rfl, rfl, rfl, rfl, rfl, rfl, rfl, rfl, rfl, trivial⟩ ⟨rfl, rfl, trivial⟩ rfl
  have hlen := hp.len (t := 27) rfl
  have hlen2 := hp.len (t := 8) rfl
  rw [List.length_map] at hlen hlen2
  cases k2 with
  | zero =>
   have hd : decide ((j : Int) < (c.Hooks.length : Nat)) = false := by simp; omega
   rw [hd] at hp
   have hdr2 : c.Hooks.drop j = [] := by rw [List.drop_eq_nil_iff]; omega
   rw [hdr2] at hp
   refine wpIn_seq (wpIn_cond_false (hp.eval rfl) (wpIn_exit ?_))
   show (Code.region 9 _ false).wpIn (FR none) 0 Tryz.prog _ a w
   refine zG5 (ρ := Int) (m := bnd (rng .i64 ((i : Int) + 1)) fun n => some n) (r := ((i + 1 : Nat) : Int)) (E1 := fun n => [(0, .fn (.yield l) [] []), (1, .loc 0 0), (8, .sl 5 false (s.Classes.map zAI)), (9, .v (.int .i64 (s.Classes.length : Nat))), (10, .v (.int .i64 n))]) (S1 := fun _ => zDq s) hY (fun w0 X X0 σ0 hl => ?_) ?_ hp fun a w hp => ?_
   ·refine zAD ?_
    refine zAV (T := tab) rfl rfl rfl rfl fun i11 hi11 => ?_
    refine zCK (T := tab) 1 rfl rfl ?_
    refine zAC ?_
    exact zE4 ⟨rfl, rfl, rfl, rfl, rfl, trivial⟩ ⟨rfl, trivial⟩ rfl
   ·unfold rng
    rw [if_pos (by simp only [Pw.lo, Pw.hi]; omega)]; rfl
   ·exact ⟨k, rfl, i + 1, by omega, hp⟩
  | succ k2 =>
   have hd : decide ((j : Int) < (c.Hooks.length : Nat)) = true := by simp; omega
   rw [hd] at hp
   refine wpIn_seq (wpIn_cond_true (hp.eval rfl) (wpIn_skip ?_))
   obtain ⟨h, hh, hdr2⟩ := zNG (l := c.Hooks) (i := j) (by omega)
   rw [hdr2] at hp
   refine wpIn_seq (wpIn_block (wpIn_seq (zG5 (ρ := Hook) (m := at1 c.Hooks j) (r := h) (E1 := fun h => (6, .loc 6 0) :: zIe s l i c j) (S1 := fun h => hookB h :: zFE c :: zDq s) hY (fun w0 X X0 σ0 hl => ?_) (zL5 hh) hp fun a w hp => ?_)))
   ·refine zAD ?_
    refine zCV (T := tab) zAa c.Hooks rfl rfl rfl rfl rfl rfl rfl fun y4 hy4 => ?_
    refine zCK (T := tab) 1 rfl rfl ?_
    refine zBE (T := tab) 6 rfl rfl rfl rfl rfl rfl rfl rfl rfl ?_
    refine zAK (T := tab) rfl rfl rfl rfl rfl rfl rfl rfl rfl rfl rfl rfl ?_
    refine zAC ?_
    exact zE4 ⟨rfl, rfl, rfl, rfl, rfl, rfl, rfl, rfl, rfl, rfl, trivial⟩ ⟨rfl, rfl, rfl, trivial⟩ rfl
   refine wpIn_seq (wpIn_region_lit (zJE (ρ := Unit) (m := some ()) (r := ()) (E1 := fun _ => (33, .fn (.yield l) [] []) :: (35, .sl 7 false (h.Do.map cOp)) :: zIe s l i c j) (S1 := fun _ => zFE c :: zDq s) (l1 := [_, _, _]) hY (fun w0 X X0 σ0 hl => ?_) rfl rfl hp fun a w hp => ?_))
   ·refine zCK (T := tab) 3 rfl rfl ?_
    refine zAC ?_
    exact zE4 ⟨rfl, rfl, rfl, rfl, rfl, rfl, rfl, rfl, rfl, rfl, rfl, trivial⟩ ⟨rfl, rfl, trivial⟩ rfl
   rw [List.map_cons, List.cons_append] at hp
   refine zJI (y := (h.Do, 60)) (E0 := []) hY hp rfl rfl ⟨⟨_, rfl, .rfl⟩, ⟨_, rfl, .rfl⟩, trivial⟩ (hnm _) rfl rfl rfl trivial rfl (fun a w hp => ?_) (fun a w hp => ?_)
   rotate_left
   ·refine zJE (ρ := Unit) (m := some ()) (r := ()) (E1 := fun _ => [(37, .v (.bool true))]) (S1 := fun _ => []) (l1 := [_]) (l2 := []) hY (fun w0 X X0 σ0 hl => ?_) rfl rfl hp fun a w hp => ?_
    ·refine zCK (T := tab) 1 rfl rfl ?_
     refine zAC ?_
     exact zE4 ⟨rfl, trivial⟩ trivial rfl
    ·exact wpListIn_nil (wpIn_cond_true (hp.eval rfl) (wpIn_ret (show YEnd _ J .ret _ _ from .inr ⟨_, _, hp⟩)))
   refine zJE (ρ := Unit) (m := some ()) (r := ()) (E1 := fun _ => (37, .v (.bool false)) :: zIe s l i c j) (S1 := fun _ => zFE c :: zDq s) (l1 := [_]) (l2 := []) hY (fun w0 X X0 σ0 hl => ?_) rfl rfl hp fun a w hp => ?_
   ·refine zCK (T := tab) 1 rfl rfl ?_
    refine zAC ?_
    exact zE4 ⟨rfl, rfl, rfl, rfl, rfl, rfl, rfl, rfl, rfl, rfl, trivial⟩ ⟨rfl, rfl, trivial⟩ rfl
   refine wpListIn_nil (wpIn_cond_false (hp.eval rfl) (wpIn_skip ?_))
   show (Code.region 8 _ false).wpIn (FR none) 0 Tryz.prog _ a w
   refine zG5 (ρ := Int) (m := bnd (rng .i64 ((j : Int) + 1)) fun n => some n) (r := ((j + 1 : Nat) : Int)) (E1 := fun n => (27, .sl 2 false (c.Hooks.map zAa)) :: (28, .v (.int .i64 (c.Hooks.length : Nat))) :: (29, .v (.int .i64 n)) :: zIA s l i c) (S1 := fun _ => zFE c :: zDq s) hY (fun w0 X X0 σ0 hl => ?_) ?_ hp fun a w hp => ?_
   ·refine zAD ?_
    refine zAV (T := tab) rfl rfl rfl rfl fun i11 hi11 => ?_
    refine zCK (T := tab) 1 rfl rfl ?_
    refine zAC ?_
    exact zE4 ⟨rfl, rfl, rfl, rfl, rfl, rfl, rfl, rfl, rfl, trivial⟩ ⟨rfl, rfl, trivial⟩ rfl
   ·unfold rng
    rw [if_pos (by simp only [Pw.lo, Pw.hi]; omega)]; rfl
   ·exact ⟨k2, rfl, j + 1, by omega, hp⟩
theorem zLL (s : Script) : FC zAi Tryz.prog 31 [.agg (zDB s)] [] [] fun p S' => p = .fn (.func 68) [] [.loc 3006 0] ∧ S' = [(3006, .box 25 [.sl 5 false (s.Classes.map zAI), .sl 7 false (s.Main.map cOp)])] := by
 refine zAL (m := some ()) (r := ()) (args := [.agg (zDB s)]) (S := []) (N0 := []) (post := fun _ p S' => p = .fn (.func 68) [] [.loc 3006 0] ∧ S' = [(3006, .box 25 [.sl 5 false (s.Classes.map zAI), .sl 7 false (s.Main.map cOp)])]) Tryz.func31 rfl rfl rfl fun w0 X X0 σ0 _ => ?_
 refine zAE ?_
 refine zAD ?_
 refine zFC 3006 rfl rfl rfl rfl rfl rfl rfl rfl rfl rfl ?_
 refine zCK (T := tab) 1 rfl rfl ?_
 refine zAC ?_
 refine zAB ?_
 refine zAE ?_
 refine zAD ?_
 refine zCK (T := tab) 2 rfl rfl ?_
 refine zAC ?_
 refine zAB ?_
 exact zM4 (S' := [(3006, .box 25 [.sl 5 false (s.Classes.map zAI), .sl 7 false (s.Main.map cOp)])]) (zBe ⟨rfl, trivial⟩ rfl) rfl rfl ⟨rfl, rfl⟩
end Go.Proofs.YtoboimmgglnjfaaGreatDoor
