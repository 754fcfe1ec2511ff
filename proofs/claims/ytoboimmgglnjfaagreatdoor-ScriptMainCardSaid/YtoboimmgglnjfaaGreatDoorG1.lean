/- Models and proofs, printed by emit2.py. -/
import Derived.Test.YtoboimmgglnjfaaGreatDoorPrg
namespace Go.Proofs.YtoboimmgglnjfaaGreatDoor
open Go Go.Pw
set_option linter.unusedVariables false
def zBW (_fu : Nat) (most1 : Int) : Option (Bool × Int) := some (true, most1)
set_option maxRecDepth 100000 in
theorem zFB (fu : Nat) (most1 : Int) (c2 : Int) (c3 : (List Class × Bool)) (c4 : Bool) (l5 : (List Op)) (l6 : (List Bs)) (l7 : (List Op)) (l8 : (List Op)) (c9 : (List Hook × Bool)) (c10 : Int) (l11 : (List Op)) : ∀ r, zBW fu most1 = some r → FC zAi Tryz.prog 38 [.loc 900000 0, .loc 900000 1, .v (.int .i64 most1)] [(900000, .box 80 [.own 900001, .own 900002, .v (.pointer none), .v (.int .i64 c2)]), (900001, .box 51 [pfx 5 (c3.1.map zAI) c3.2, .v (.bool c4), .own 900003, .own 900004, .own 900005, .own 900006]), (900002, .arr 43 7 (l5.map cOp)), (900003, .arr 9 1 (l6.map cStr)), (900004, .arr 43 7 (l7.map cOp)), (900005, .arr 43 7 (l8.map cOp)), (900006, .box 54 [pfx 2 (c9.1.map zAa) c9.2, .v (.int .i64 c10), .own 900007]), (900007, .arr 43 7 (l11.map cOp))] [900000, 900001, 900002, 900003, 900004, 900005, 900006, 900007] fun p S' => p = .v (.bool r.1) ∧ S' = [(900000, .box 80 [.own 900001, .own 900002, .loc 900000 1, .v (.int .i64 r.2)]), (900001, .box 51 [pfx 5 (c3.1.map zAI) c3.2, .v (.bool c4), .own 900003, .own 900004, .own 900005, .own 900006]), (900002, .arr 43 7 (l5.map cOp)), (900003, .arr 9 1 (l6.map cStr)), (900004, .arr 43 7 (l7.map cOp)), (900005, .arr 43 7 (l8.map cOp)), (900006, .box 54 [pfx 2 (c9.1.map zAa) c9.2, .v (.int .i64 c10), .own 900007]), (900007, .arr 43 7 (l11.map cOp))] := by
 intro r hr
 refine zAL (r := r)  (args := [.loc 900000 0, .loc 900000 1, .v (.int .i64 most1)]) (S := [(900000, .box 80 [.own 900001, .own 900002, .v (.pointer none), .v (.int .i64 c2)]), (900001, .box 51 [pfx 5 (c3.1.map zAI) c3.2, .v (.bool c4), .own 900003, .own 900004, .own 900005, .own 900006]), (900002, .arr 43 7 (l5.map cOp)), (900003, .arr 9 1 (l6.map cStr)), (900004, .arr 43 7 (l7.map cOp)), (900005, .arr 43 7 (l8.map cOp)), (900006, .box 54 [pfx 2 (c9.1.map zAa) c9.2, .v (.int .i64 c10), .own 900007]), (900007, .arr 43 7 (l11.map cOp))]) (N0 := [900000, 900001, 900002, 900003, 900004, 900005, 900006, 900007]) (post := fun r p S => p = .v (.bool r.1) ∧ S = [(900000, .box 80 [.own 900001, .own 900002, .loc 900000 1, .v (.int .i64 r.2)]), (900001, .box 51 [pfx 5 (c3.1.map zAI) c3.2, .v (.bool c4), .own 900003, .own 900004, .own 900005, .own 900006]), (900002, .arr 43 7 (l5.map cOp)), (900003, .arr 9 1 (l6.map cStr)), (900004, .arr 43 7 (l7.map cOp)), (900005, .arr 43 7 (l8.map cOp)), (900006, .box 54 [pfx 2 (c9.1.map zAa) c9.2, .v (.int .i64 c10), .own 900007]), (900007, .arr 43 7 (l11.map cOp))]) Tryz.func38 rfl rfl hr fun w0 X X0 σ0 _ => ?_
 refine sr ?_
 refine pe 1 ?_
 refine ns ?_
 refine sr ?_
 refine pe 6 ?_
 refine zAK (T := tab) rfl rfl rfl rfl rfl rfl rfl rfl rfl rfl rfl rfl ?_
 refine pe 2 ?_
 refine zAK (T := tab) rfl rfl rfl rfl rfl rfl rfl rfl rfl rfl rfl rfl ?_
 refine ns ?_
 refine sr ?_
 refine pe 1 ?_
 refine ns ?_
 exact rN
def zA8 (_fu : Nat) (s1 : Bs) (suffix2 : Bs) : Option Bool := cnd (decide (((s1.length : Nat) : Int) ≥ ((suffix2.length : Nat) : Int))) (bnd (rng .i64 (((s1.length : Nat) : Int) - ((suffix2.length : Nat) : Int))) fun i3 => bnd (zC6 s1 i3 ((s1.length : Nat) : Int)) fun s4 => some (s4 == suffix2)) (some false)
set_option maxRecDepth 100000 in
theorem zDA (fu : Nat) (s1 : Bs) (suffix2 : Bs) : ∀ r, zA8 fu s1 suffix2 = some r → DC zAi Tryz.prog 107 [.v (.string ⟨⟨s1⟩⟩), .v (.string ⟨⟨suffix2⟩⟩)] (.v (.bool r)) := by
 intro r hr
 refine zAL (r := r)  (args := [.v (.string ⟨⟨s1⟩⟩), .v (.string ⟨⟨suffix2⟩⟩)]) (S := []) (N0 := []) (post := fun r p S => p = .v (.bool r) ∧ S = []) Tryz.func107 rfl rfl hr fun w0 X X0 σ0 _ => ?_
 refine sr ?_
 refine pe 1 ?_
 refine ns ?_
 refine sr ?_
 refine pe 6 ?_
 refine zAN (j := 10) rfl ?_ ?_
 ·refine pe 5 ?_
  refine zAV (T := tab) rfl rfl rfl rfl fun i3 hi3 => ?_
  refine zGt (T := tab) rfl rfl rfl rfl rfl rfl rfl rfl fun s4 hs4 => ?_
  refine pe 4 ?_
  refine ns ?_
  exact rN
 ·refine pe 11 ?_
  refine ns ?_
  exact rN
def zA4 (fu : Nat) (s1 : Bs) (suffix2 : Bs) : Option Bs := bnd (zA8 fu s1 suffix2) fun r3 => cnd r3 (bnd (rng .i64 (((s1.length : Nat) : Int) - ((suffix2.length : Nat) : Int))) fun i4 => bnd (zC6 s1 0 i4) fun s5 => some s5) (some s1)
set_option maxRecDepth 100000 in
theorem zC7 (fu : Nat) (s1 : Bs) (suffix2 : Bs) : ∀ r, zA4 fu s1 suffix2 = some r → DC zAi Tryz.prog 75 [.v (.string ⟨⟨s1⟩⟩), .v (.string ⟨⟨suffix2⟩⟩)] (.v (.string ⟨⟨r⟩⟩)) := by
 intro r hr
 refine zAL (r := r)  (args := [.v (.string ⟨⟨s1⟩⟩), .v (.string ⟨⟨suffix2⟩⟩)]) (S := []) (N0 := []) (post := fun r p S => p = .v (.string ⟨⟨r⟩⟩) ∧ S = []) Tryz.func75 rfl rfl hr fun w0 X X0 σ0 _ => ?_
 refine sr ?_
 refine pe 1 ?_
 refine ns ?_
 refine zAE ?_
 refine sr ?_
 refine pe 2 ?_
 refine zAM (enc := fun (r3 : Bool) => .v (.bool r3)) (qs := [.v (.string ⟨⟨s1⟩⟩), .v (.string ⟨⟨suffix2⟩⟩)]) (zDA fu s1 suffix2) rfl rfl ⟨⟨_, rfl, .rfl⟩, ⟨_, rfl, .rfl⟩, trivial⟩ (fun _ => rfl) zSC rfl rfl fun r3 hr3 => ?_
 refine ns ?_
 refine zAR rfl ?_ ?_
 ·refine sr ?_
  refine pe 5 ?_
  refine zAV (T := tab) rfl rfl rfl rfl fun i4 hi4 => ?_
  refine zGt (T := tab) rfl rfl rfl rfl rfl rfl rfl rfl fun s5 hs5 => ?_
  refine pe 1 ?_
  refine ns ?_
  exact rN
 ·refine zAG ?_
  refine zAB ?_
  refine sr ?_
  refine pe 2 ?_
  refine ns ?_
  exact rN
def zBG (fu : Nat) (s1 : Bs) (suffix2 : Bs) : Option Bs := bnd (zA4 fu s1 suffix2) fun r3 => some r3
set_option maxRecDepth 100000 in
theorem zFM (fu : Nat) (s1 : Bs) (suffix2 : Bs) : ∀ r, zBG fu s1 suffix2 = some r → DC zAi Tryz.prog 40 [.v (.string ⟨⟨s1⟩⟩), .v (.string ⟨⟨suffix2⟩⟩)] (.v (.string ⟨⟨r⟩⟩)) := by
 intro r hr
 refine zAL (r := r)  (args := [.v (.string ⟨⟨s1⟩⟩), .v (.string ⟨⟨suffix2⟩⟩)]) (S := []) (N0 := []) (post := fun r p S => p = .v (.string ⟨⟨r⟩⟩) ∧ S = []) Tryz.func40 rfl rfl hr fun w0 X X0 σ0 _ => ?_
 refine sr ?_
 refine pe 1 ?_
 refine ns ?_
 refine sr ?_
 refine pe 2 ?_
 refine zAM (enc := fun (r3 : Bs) => .v (.string ⟨⟨r3⟩⟩)) (qs := [.v (.string ⟨⟨s1⟩⟩), .v (.string ⟨⟨suffix2⟩⟩)]) (zC7 fu s1 suffix2) rfl rfl ⟨⟨_, rfl, .rfl⟩, ⟨_, rfl, .rfl⟩, trivial⟩ (fun _ => rfl) call75 rfl rfl fun r3 hr3 => ?_
 refine pe 1 ?_
 refine ns ?_
 exact rN
def zBY (fu : Nat) (s1 : Bs) (sep2 : Bs) : Option (Bs × Bs × Bool) := bnd (zFX fu s1 sep2) fun r3 => cnd (decide (r3 ≥ 0)) (bnd (zC6 s1 0 r3) fun s4 => bnd (rng .i64 (r3 + ((sep2.length : Nat) : Int))) fun i5 => bnd (zC6 s1 i5 ((s1.length : Nat) : Int)) fun s6 => some (s4, s6, true)) (some (s1, [], false))
set_option maxRecDepth 100000 in
theorem zD1 (fu : Nat) (s1 : Bs) (sep2 : Bs) : ∀ r, zBY fu s1 sep2 = some r → DC zAi Tryz.prog 84 [.v (.string ⟨⟨s1⟩⟩), .v (.string ⟨⟨sep2⟩⟩)] (.tup [.v (.string ⟨⟨r.1⟩⟩), .v (.string ⟨⟨r.2.1⟩⟩), .v (.bool r.2.2)]) := by
 intro r hr
 refine zAL (r := r)  (args := [.v (.string ⟨⟨s1⟩⟩), .v (.string ⟨⟨sep2⟩⟩)]) (S := []) (N0 := []) (post := fun r p S => p = .tup [.v (.string ⟨⟨r.1⟩⟩), .v (.string ⟨⟨r.2.1⟩⟩), .v (.bool r.2.2)] ∧ S = []) Tryz.func84 rfl rfl hr fun w0 X X0 σ0 _ => ?_
 refine sr ?_
 refine pe 3 ?_
 refine ns ?_
 refine zAE ?_
 refine sr ?_
 refine pe 2 ?_
 refine zAM (enc := fun (r3 : Int) => .v (.int .i64 r3)) (qs := [.v (.string ⟨⟨s1⟩⟩), .v (.string ⟨⟨sep2⟩⟩)]) (zJz fu s1 sep2) rfl rfl ⟨⟨_, rfl, .rfl⟩, ⟨_, rfl, .rfl⟩, trivial⟩ (fun _ => rfl) zNp rfl rfl fun r3 hr3 => ?_
 refine pe 1 ?_
 refine ns ?_
 refine sr ?_
 refine pe 2 ?_
 refine ns ?_
 refine zAR rfl ?_ ?_
 ·refine zAE ?_
  refine zEu mixed (by kernel_rfl) ?_
  refine zBs (T := tab) 2 rfl rfl ?_
  refine zQg (T := tab) rfl rfl rfl rfl rfl rfl rfl rfl fun s4 hs4 => ?_
  refine zBs (T := tab) 4 rfl rfl ?_
  refine zIz (T := tab) rfl rfl rfl rfl fun i5 hi5 => ?_
  refine zQg (T := tab) rfl rfl rfl rfl rfl rfl rfl rfl fun s6 hs6 => ?_
  refine zBs (T := tab) 3 rfl rfl ?_
  refine zEG ?_
  refine zAB ?_
  exact rN
 ·refine zAG ?_
  refine zAB ?_
  refine sr ?_
  refine pe 4 ?_
  refine ns ?_
  exact rN
def zAl (fu : Nat) (s1 : Bs) (sep2 : Bs) : Option (Bs × Bs × Bool) := bnd (zBY fu s1 sep2) fun r3 => some (r3.1, r3.2.1, r3.2.2)
set_option maxRecDepth 100000 in
theorem zCt (fu : Nat) (s1 : Bs) (sep2 : Bs) : ∀ r, zAl fu s1 sep2 = some r → DC zAi Tryz.prog 47 [.v (.string ⟨⟨s1⟩⟩), .v (.string ⟨⟨sep2⟩⟩)] (.tup [.v (.string ⟨⟨r.1⟩⟩), .v (.string ⟨⟨r.2.1⟩⟩), .v (.bool r.2.2)]) := by
 intro r hr
 refine zAL (r := r)  (args := [.v (.string ⟨⟨s1⟩⟩), .v (.string ⟨⟨sep2⟩⟩)]) (S := []) (N0 := []) (post := fun r p S => p = .tup [.v (.string ⟨⟨r.1⟩⟩), .v (.string ⟨⟨r.2.1⟩⟩), .v (.bool r.2.2)] ∧ S = []) Tryz.func47 rfl rfl hr fun w0 X X0 σ0 _ => ?_
 refine sr ?_
 refine pe 3 ?_
 refine ns ?_
 refine sr ?_
 refine pe 2 ?_
 refine zAM (enc := fun (r3 : (Bs × Bs × Bool)) => .tup [.v (.string ⟨⟨r3.1⟩⟩), .v (.string ⟨⟨r3.2.1⟩⟩), .v (.bool r3.2.2)]) (qs := [.v (.string ⟨⟨s1⟩⟩), .v (.string ⟨⟨sep2⟩⟩)]) (zD1 fu s1 sep2) rfl rfl ⟨⟨_, rfl, .rfl⟩, ⟨_, rfl, .rfl⟩, trivial⟩ (fun _ => rfl) call84 rfl rfl fun r3 hr3 => ?_
 refine pe 6 ?_
 refine ns ?_
 exact rN
set_option maxRecDepth 100000 in
theorem zEf (fu : Nat) (most1 : Int) (k2 : Nat) (c3 : Int) (c4 : (List Class × Bool)) (c5 : Bool) (l6 : (List Op)) (c7 : (List Hook × Bool)) (c8 : Int) (l9 : (List Bs)) (l10 : (List Op)) (l11 : (List Op)) (l12 : (List Op)) : ∀ r, zBW fu most1 = some r → FC zAi Tryz.prog 38 [.loc 900000 0, .loc 900000 1, .v (.int .i64 most1)] [(900000, .box 80 [.own 900001, .own 900002, .sel k2 [.loc 900000 1, .ela 900001 5 (c4.1.length) 2, .ela 900001 5 (c4.1.length) 3, .ela 900003 2 (c7.1.length) 1], .v (.int .i64 c3)]), (900001, .box 51 [pfx 5 (c4.1.map zAI) c4.2, .v (.bool c5), .own 900004, .own 900005, .own 900006, .own 900003]), (900002, .arr 43 7 (l6.map cOp)), (900003, .box 54 [pfx 2 (c7.1.map zAa) c7.2, .v (.int .i64 c8), .own 900007]), (900004, .arr 9 1 (l9.map cStr)), (900005, .arr 43 7 (l10.map cOp)), (900006, .arr 43 7 (l11.map cOp)), (900007, .arr 43 7 (l12.map cOp))] [900000, 900001, 900002, 900003, 900004, 900005, 900006, 900007] fun p S' => p = .v (.bool r.1) ∧ S' = [(900000, .box 80 [.own 900001, .own 900002, .loc 900000 1, .v (.int .i64 r.2)]), (900001, .box 51 [pfx 5 (c4.1.map zAI) c4.2, .v (.bool c5), .own 900004, .own 900005, .own 900006, .own 900003]), (900002, .arr 43 7 (l6.map cOp)), (900003, .box 54 [pfx 2 (c7.1.map zAa) c7.2, .v (.int .i64 c8), .own 900007]), (900004, .arr 9 1 (l9.map cStr)), (900005, .arr 43 7 (l10.map cOp)), (900006, .arr 43 7 (l11.map cOp)), (900007, .arr 43 7 (l12.map cOp))] := by
 intro r hr
 refine zAL (r := r)  (args := [.loc 900000 0, .loc 900000 1, .v (.int .i64 most1)]) (S := [(900000, .box 80 [.own 900001, .own 900002, .sel k2 [.loc 900000 1, .ela 900001 5 (c4.1.length) 2, .ela 900001 5 (c4.1.length) 3, .ela 900003 2 (c7.1.length) 1], .v (.int .i64 c3)]), (900001, .box 51 [pfx 5 (c4.1.map zAI) c4.2, .v (.bool c5), .own 900004, .own 900005, .own 900006, .own 900003]), (900002, .arr 43 7 (l6.map cOp)), (900003, .box 54 [pfx 2 (c7.1.map zAa) c7.2, .v (.int .i64 c8), .own 900007]), (900004, .arr 9 1 (l9.map cStr)), (900005, .arr 43 7 (l10.map cOp)), (900006, .arr 43 7 (l11.map cOp)), (900007, .arr 43 7 (l12.map cOp))]) (N0 := [900000, 900001, 900002, 900003, 900004, 900005, 900006, 900007]) (post := fun r p S => p = .v (.bool r.1) ∧ S = [(900000, .box 80 [.own 900001, .own 900002, .loc 900000 1, .v (.int .i64 r.2)]), (900001, .box 51 [pfx 5 (c4.1.map zAI) c4.2, .v (.bool c5), .own 900004, .own 900005, .own 900006, .own 900003]), (900002, .arr 43 7 (l6.map cOp)), (900003, .box 54 [pfx 2 (c7.1.map zAa) c7.2, .v (.int .i64 c8), .own 900007]), (900004, .arr 9 1 (l9.map cStr)), (900005, .arr 43 7 (l10.map cOp)), (900006, .arr 43 7 (l11.map cOp)), (900007, .arr 43 7 (l12.map cOp))]) Tryz.func38 rfl rfl hr fun w0 X X0 σ0 _ => ?_
 refine sr ?_
 refine pe 1 ?_
 refine ns ?_
 refine sr ?_
 refine pe 6 ?_
 refine zAK (T := tab) rfl rfl rfl rfl rfl rfl rfl rfl rfl rfl rfl rfl ?_
 refine pe 2 ?_
 refine zAK (T := tab) rfl rfl rfl rfl rfl rfl rfl rfl rfl rfl rfl rfl ?_
 refine ns ?_
 refine sr ?_
 refine pe 1 ?_
 refine ns ?_
 exact rN
def zAX (_fu : Nat) (most2 : Int) : Option (Bool × Int) := some (true, most2)
set_option maxRecDepth 100000 in
theorem zEb (fu : Nat) (i1 : Nat) (most2 : Int) (c3 : Int) (c4 : (List Class × Bool)) (c5 : Bool) (l6 : (List Op)) (l7 : (List Bs)) (l8 : (List Op)) (l9 : (List Op)) (c10 : (List Hook × Bool)) (c11 : Int) (l12 : (List Op)) : ∀ r, zAX fu most2 = some r → FC zAi Tryz.prog 38 [.loc 900000 0, .ela 900001 5 i1 3, .v (.int .i64 most2)] [(900000, .box 80 [.own 900001, .own 900002, .junk, .v (.int .i64 c3)]), (900001, .box 51 [pfx 5 (c4.1.map zAI) c4.2, .v (.bool c5), .own 900003, .own 900004, .own 900005, .own 900006]), (900002, .arr 43 7 (l6.map cOp)), (900003, .arr 9 1 (l7.map cStr)), (900004, .arr 43 7 (l8.map cOp)), (900005, .arr 43 7 (l9.map cOp)), (900006, .box 54 [pfx 2 (c10.1.map zAa) c10.2, .v (.int .i64 c11), .own 900007]), (900007, .arr 43 7 (l12.map cOp))] [900000, 900001, 900002, 900003, 900004, 900005, 900006, 900007] fun p S' => p = .v (.bool r.1) ∧ S' = [(900000, .box 80 [.own 900001, .own 900002, .ela 900001 5 i1 3, .v (.int .i64 r.2)]), (900001, .box 51 [pfx 5 (c4.1.map zAI) c4.2, .v (.bool c5), .own 900003, .own 900004, .own 900005, .own 900006]), (900002, .arr 43 7 (l6.map cOp)), (900003, .arr 9 1 (l7.map cStr)), (900004, .arr 43 7 (l8.map cOp)), (900005, .arr 43 7 (l9.map cOp)), (900006, .box 54 [pfx 2 (c10.1.map zAa) c10.2, .v (.int .i64 c11), .own 900007]), (900007, .arr 43 7 (l12.map cOp))] := by
 intro r hr
 refine zAL (r := r)  (args := [.loc 900000 0, .ela 900001 5 i1 3, .v (.int .i64 most2)]) (S := [(900000, .box 80 [.own 900001, .own 900002, .junk, .v (.int .i64 c3)]), (900001, .box 51 [pfx 5 (c4.1.map zAI) c4.2, .v (.bool c5), .own 900003, .own 900004, .own 900005, .own 900006]), (900002, .arr 43 7 (l6.map cOp)), (900003, .arr 9 1 (l7.map cStr)), (900004, .arr 43 7 (l8.map cOp)), (900005, .arr 43 7 (l9.map cOp)), (900006, .box 54 [pfx 2 (c10.1.map zAa) c10.2, .v (.int .i64 c11), .own 900007]), (900007, .arr 43 7 (l12.map cOp))]) (N0 := [900000, 900001, 900002, 900003, 900004, 900005, 900006, 900007]) (post := fun r p S => p = .v (.bool r.1) ∧ S = [(900000, .box 80 [.own 900001, .own 900002, .ela 900001 5 i1 3, .v (.int .i64 r.2)]), (900001, .box 51 [pfx 5 (c4.1.map zAI) c4.2, .v (.bool c5), .own 900003, .own 900004, .own 900005, .own 900006]), (900002, .arr 43 7 (l6.map cOp)), (900003, .arr 9 1 (l7.map cStr)), (900004, .arr 43 7 (l8.map cOp)), (900005, .arr 43 7 (l9.map cOp)), (900006, .box 54 [pfx 2 (c10.1.map zAa) c10.2, .v (.int .i64 c11), .own 900007]), (900007, .arr 43 7 (l12.map cOp))]) Tryz.func38 rfl rfl hr fun w0 X X0 σ0 _ => ?_
 refine sr ?_
 refine pe 1 ?_
 refine ns ?_
 refine sr ?_
 refine pe 6 ?_
 refine zAK (T := tab) rfl rfl rfl rfl rfl rfl rfl rfl rfl rfl rfl rfl ?_
 refine pe 2 ?_
 refine zAK (T := tab) rfl rfl rfl rfl rfl rfl rfl rfl rfl rfl rfl rfl ?_
 refine ns ?_
 refine sr ?_
 refine pe 1 ?_
 refine ns ?_
 exact rN
set_option maxRecDepth 100000 in
theorem zEY (fu : Nat) (i1 : Nat) (most2 : Int) (k3 : Nat) (c4 : Int) (c5 : (List Class × Bool)) (c6 : Bool) (l7 : (List Op)) (c8 : (List Hook × Bool)) (c9 : Int) (l10 : (List Bs)) (l11 : (List Op)) (l12 : (List Op)) (l13 : (List Op)) : ∀ r, zAX fu most2 = some r → FC zAi Tryz.prog 38 [.loc 900000 0, .ela 900001 5 i1 2, .v (.int .i64 most2)] [(900000, .box 80 [.own 900001, .own 900002, .sel k3 [.loc 900000 1, .ela 900001 5 (c5.1.length) 2, .ela 900001 5 (c5.1.length) 3, .ela 900003 2 (c8.1.length) 1], .v (.int .i64 c4)]), (900001, .box 51 [pfx 5 (c5.1.map zAI) c5.2, .v (.bool c6), .own 900004, .own 900005, .own 900006, .own 900003]), (900002, .arr 43 7 (l7.map cOp)), (900003, .box 54 [pfx 2 (c8.1.map zAa) c8.2, .v (.int .i64 c9), .own 900007]), (900004, .arr 9 1 (l10.map cStr)), (900005, .arr 43 7 (l11.map cOp)), (900006, .arr 43 7 (l12.map cOp)), (900007, .arr 43 7 (l13.map cOp))] [900000, 900001, 900002, 900003, 900004, 900005, 900006, 900007] fun p S' => p = .v (.bool r.1) ∧ S' = [(900000, .box 80 [.own 900001, .own 900002, .ela 900001 5 i1 2, .v (.int .i64 r.2)]), (900001, .box 51 [pfx 5 (c5.1.map zAI) c5.2, .v (.bool c6), .own 900004, .own 900005, .own 900006, .own 900003]), (900002, .arr 43 7 (l7.map cOp)), (900003, .box 54 [pfx 2 (c8.1.map zAa) c8.2, .v (.int .i64 c9), .own 900007]), (900004, .arr 9 1 (l10.map cStr)), (900005, .arr 43 7 (l11.map cOp)), (900006, .arr 43 7 (l12.map cOp)), (900007, .arr 43 7 (l13.map cOp))] := by
 intro r hr
 refine zAL (r := r)  (args := [.loc 900000 0, .ela 900001 5 i1 2, .v (.int .i64 most2)]) (S := [(900000, .box 80 [.own 900001, .own 900002, .sel k3 [.loc 900000 1, .ela 900001 5 (c5.1.length) 2, .ela 900001 5 (c5.1.length) 3, .ela 900003 2 (c8.1.length) 1], .v (.int .i64 c4)]), (900001, .box 51 [pfx 5 (c5.1.map zAI) c5.2, .v (.bool c6), .own 900004, .own 900005, .own 900006, .own 900003]), (900002, .arr 43 7 (l7.map cOp)), (900003, .box 54 [pfx 2 (c8.1.map zAa) c8.2, .v (.int .i64 c9), .own 900007]), (900004, .arr 9 1 (l10.map cStr)), (900005, .arr 43 7 (l11.map cOp)), (900006, .arr 43 7 (l12.map cOp)), (900007, .arr 43 7 (l13.map cOp))]) (N0 := [900000, 900001, 900002, 900003, 900004, 900005, 900006, 900007]) (post := fun r p S => p = .v (.bool r.1) ∧ S = [(900000, .box 80 [.own 900001, .own 900002, .ela 900001 5 i1 2, .v (.int .i64 r.2)]), (900001, .box 51 [pfx 5 (c5.1.map zAI) c5.2, .v (.bool c6), .own 900004, .own 900005, .own 900006, .own 900003]), (900002, .arr 43 7 (l7.map cOp)), (900003, .box 54 [pfx 2 (c8.1.map zAa) c8.2, .v (.int .i64 c9), .own 900007]), (900004, .arr 9 1 (l10.map cStr)), (900005, .arr 43 7 (l11.map cOp)), (900006, .arr 43 7 (l12.map cOp)), (900007, .arr 43 7 (l13.map cOp))]) Tryz.func38 rfl rfl hr fun w0 X X0 σ0 _ => ?_
 refine sr ?_
 refine pe 1 ?_
 refine ns ?_
 refine sr ?_
 refine pe 6 ?_
 refine zAK (T := tab) rfl rfl rfl rfl rfl rfl rfl rfl rfl rfl rfl rfl ?_
 refine pe 2 ?_
 refine zAK (T := tab) rfl rfl rfl rfl rfl rfl rfl rfl rfl rfl rfl rfl ?_
 refine ns ?_
 refine sr ?_
 refine pe 1 ?_
 refine ns ?_
 exact rN
set_option maxRecDepth 100000 in
theorem zEg (fu : Nat) (i1 : Nat) (most2 : Int) (k3 : Nat) (c4 : Int) (c5 : (List Class × Bool)) (c6 : Bool) (l7 : (List Op)) (c8 : (List Hook × Bool)) (c9 : Int) (l10 : (List Bs)) (l11 : (List Op)) (l12 : (List Op)) (l13 : (List Op)) : ∀ r, zAX fu most2 = some r → FC zAi Tryz.prog 38 [.loc 900000 0, .ela 900001 5 i1 3, .v (.int .i64 most2)] [(900000, .box 80 [.own 900001, .own 900002, .sel k3 [.loc 900000 1, .ela 900001 5 (c5.1.length) 2, .ela 900001 5 (c5.1.length) 3, .ela 900003 2 (c8.1.length) 1], .v (.int .i64 c4)]), (900001, .box 51 [pfx 5 (c5.1.map zAI) c5.2, .v (.bool c6), .own 900004, .own 900005, .own 900006, .own 900003]), (900002, .arr 43 7 (l7.map cOp)), (900003, .box 54 [pfx 2 (c8.1.map zAa) c8.2, .v (.int .i64 c9), .own 900007]), (900004, .arr 9 1 (l10.map cStr)), (900005, .arr 43 7 (l11.map cOp)), (900006, .arr 43 7 (l12.map cOp)), (900007, .arr 43 7 (l13.map cOp))] [900000, 900001, 900002, 900003, 900004, 900005, 900006, 900007] fun p S' => p = .v (.bool r.1) ∧ S' = [(900000, .box 80 [.own 900001, .own 900002, .ela 900001 5 i1 3, .v (.int .i64 r.2)]), (900001, .box 51 [pfx 5 (c5.1.map zAI) c5.2, .v (.bool c6), .own 900004, .own 900005, .own 900006, .own 900003]), (900002, .arr 43 7 (l7.map cOp)), (900003, .box 54 [pfx 2 (c8.1.map zAa) c8.2, .v (.int .i64 c9), .own 900007]), (900004, .arr 9 1 (l10.map cStr)), (900005, .arr 43 7 (l11.map cOp)), (900006, .arr 43 7 (l12.map cOp)), (900007, .arr 43 7 (l13.map cOp))] := by
 intro r hr
 refine zAL (r := r)  (args := [.loc 900000 0, .ela 900001 5 i1 3, .v (.int .i64 most2)]) (S := [(900000, .box 80 [.own 900001, .own 900002, .sel k3 [.loc 900000 1, .ela 900001 5 (c5.1.length) 2, .ela 900001 5 (c5.1.length) 3, .ela 900003 2 (c8.1.length) 1], .v (.int .i64 c4)]), (900001, .box 51 [pfx 5 (c5.1.map zAI) c5.2, .v (.bool c6), .own 900004, .own 900005, .own 900006, .own 900003]), (900002, .arr 43 7 (l7.map cOp)), (900003, .box 54 [pfx 2 (c8.1.map zAa) c8.2, .v (.int .i64 c9), .own 900007]), (900004, .arr 9 1 (l10.map cStr)), (900005, .arr 43 7 (l11.map cOp)), (900006, .arr 43 7 (l12.map cOp)), (900007, .arr 43 7 (l13.map cOp))]) (N0 := [900000, 900001, 900002, 900003, 900004, 900005, 900006, 900007]) (post := fun r p S => p = .v (.bool r.1) ∧ S = [(900000, .box 80 [.own 900001, .own 900002, .ela 900001 5 i1 3, .v (.int .i64 r.2)]), (900001, .box 51 [pfx 5 (c5.1.map zAI) c5.2, .v (.bool c6), .own 900004, .own 900005, .own 900006, .own 900003]), (900002, .arr 43 7 (l7.map cOp)), (900003, .box 54 [pfx 2 (c8.1.map zAa) c8.2, .v (.int .i64 c9), .own 900007]), (900004, .arr 9 1 (l10.map cStr)), (900005, .arr 43 7 (l11.map cOp)), (900006, .arr 43 7 (l12.map cOp)), (900007, .arr 43 7 (l13.map cOp))]) Tryz.func38 rfl rfl hr fun w0 X X0 σ0 _ => ?_
 refine sr ?_
 refine pe 1 ?_
 refine ns ?_
 refine sr ?_
 refine pe 6 ?_
 refine zAK (T := tab) rfl rfl rfl rfl rfl rfl rfl rfl rfl rfl rfl rfl ?_
 refine pe 2 ?_
 refine zAK (T := tab) rfl rfl rfl rfl rfl rfl rfl rfl rfl rfl rfl rfl ?_
 refine ns ?_
 refine sr ?_
 refine pe 1 ?_
 refine ns ?_
 exact rN
def zC2 (_fu : Nat) (c1 : Int) : Option Bool := cnd (decide (c1 ≥ 97)) (some (decide (c1 ≤ 122))) (some false)
set_option maxRecDepth 100000 in
theorem zF2 (fu : Nat) (c1 : Int) : ∀ r, zC2 fu c1 = some r → DC zAi Tryz.prog 118 [.v (.int .i32 c1)] (.v (.bool r)) := by
 intro r hr
 refine zAL (r := r)  (args := [.v (.int .i32 c1)]) (S := []) (N0 := []) (post := fun r p S => p = .v (.bool r) ∧ S = []) Tryz.func118 rfl rfl hr fun w0 X X0 σ0 _ => ?_
 refine sr ?_
 refine pe 1 ?_
 refine ns ?_
 refine sr ?_
 refine pe 3 ?_
 refine zAN (j := 5) rfl ?_ ?_
 ·refine pe 4 ?_
  refine ns ?_
  exact rN
 ·refine pe 4 ?_
  refine ns ?_
  exact rN
def zB9 (_fu : Nat) (c1 : Int) : Option Bool := cnd (decide (c1 ≥ 65)) (some (decide (c1 ≤ 90))) (some false)
set_option maxRecDepth 100000 in
theorem zD5 (fu : Nat) (c1 : Int) : ∀ r, zB9 fu c1 = some r → DC zAi Tryz.prog 119 [.v (.int .i32 c1)] (.v (.bool r)) := by
 intro r hr
 refine zAL (r := r)  (args := [.v (.int .i32 c1)]) (S := []) (N0 := []) (post := fun r p S => p = .v (.bool r) ∧ S = []) Tryz.func119 rfl rfl hr fun w0 X X0 σ0 _ => ?_
 refine sr ?_
 refine pe 1 ?_
 refine ns ?_
 refine sr ?_
 refine pe 3 ?_
 refine zAN (j := 5) rfl ?_ ?_
 ·refine pe 4 ?_
  refine ns ?_
  exact rN
 ·refine pe 4 ?_
  refine ns ?_
  exact rN
def zC4 (c1 : Int) (x_ : Unit) : Option Bool := cnd (c1 == 45) (some true) (cnd (c1 == 95) (some true) (some (c1 == 46)))
def zDW (fu : Nat) (c1 : Int) : Option Bool := bnd (zC2 fu c1) fun r2 => cnd r2 (cnd r2 (some true) ((zC4 c1) ())) (bnd (zB9 fu c1) fun r3 => cnd r3 (cnd r3 (some true) ((zC4 c1) ())) (cnd (decide (c1 ≥ 48)) (cnd (decide (c1 ≤ 57)) (some true) ((zC4 c1) ())) ((zC4 c1) ())))
set_option maxHeartbeats 10000000 in
set_option maxRecDepth 100000 in
theorem zJR (fu : Nat) (c1 : Int) : ∀ r, zDW fu c1 = some r → DC zAi Tryz.prog 117 [.v (.int .i32 c1)] (.v (.bool r)) := by
 intro r hr
 refine zAL (r := r)  (args := [.v (.int .i32 c1)]) (S := []) (N0 := []) (post := fun r p S => p = .v (.bool r) ∧ S = []) Tryz.func117 rfl rfl hr fun w0 X X0 σ0 _ => ?_
 refine sr ?_
 refine pe 1 ?_
 refine ns ?_
 refine zAE ?_
 refine zBl (zC4 c1) (fun (_ : Unit) => [(0, .v (.int .i32 c1))]) (fun (_ : Unit) => []) ?_ fun hj1 => ?_
 ·rintro _
  refine zAB ?_
  refine sr ?_
  refine pe 3 ?_
  refine zAN (j := 16) rfl ?_ ?_
  ·refine pe 8 ?_
   refine ns ?_
   exact rN
  ·refine pe 4 ?_
   refine zAN (j := 20) rfl ?_ ?_
   ·refine pe 4 ?_
    refine ns ?_
    exact rN
   ·refine pe 4 ?_
    refine ns ?_
    exact rN
 ·refine zAP ?_
  refine zAE ?_
  refine sr ?_
  refine pe 1 ?_
  refine zAM (enc := fun (r2 : Bool) => .v (.bool r2)) (qs := [.v (.int .i32 c1)]) (zF2 fu c1) rfl rfl ⟨⟨_, rfl, .rfl⟩, trivial⟩ (fun _ => rfl) zOy rfl rfl fun r2 hr2 => ?_
  refine pe 1 ?_
  refine ns ?_
  refine zAR rfl ?_ ?_
  ·refine zAG ?_
   refine zAB ?_
   refine zAR rfl ?_ ?_
   ·refine sr ?_
    refine pe 1 ?_
    refine ns ?_
    exact rN
   ·refine zAG ?_
    refine zAJ ?_
    exact zAU (hj1 ()) ⟨rfl, trivial⟩ trivial rfl
  ·refine sr ?_
   refine pe 1 ?_
   refine zAM (enc := fun (r3 : Bool) => .v (.bool r3)) (qs := [.v (.int .i32 c1)]) (zD5 fu c1) rfl rfl ⟨⟨_, rfl, .rfl⟩, trivial⟩ (fun _ => rfl) zKw rfl rfl fun r3 hr3 => ?_
   refine pe 1 ?_
   refine ns ?_
   refine zAR rfl ?_ ?_
   ·refine zAG ?_
    refine zAB ?_
    refine zAR rfl ?_ ?_
    ·refine sr ?_
     refine pe 1 ?_
     refine ns ?_
     exact rN
    ·refine zAG ?_
     refine zAJ ?_
     exact zAU (hj1 ()) ⟨rfl, trivial⟩ trivial rfl
   ·refine zAD ?_
    refine pe 3 ?_
    refine zAN (j := 10) rfl ?_ ?_
    ·refine pe 4 ?_
     refine ns ?_
     refine zAR rfl ?_ ?_
     ·refine sr ?_
      refine pe 1 ?_
      refine ns ?_
      exact rN
     ·refine zAG ?_
      refine zAJ ?_
      exact zAU (hj1 ()) ⟨rfl, trivial⟩ trivial rfl
    ·refine pe 4 ?_
     refine ns ?_
     refine zAx rfl ?_
     refine zAG ?_
     refine zAJ ?_
     exact zAU (hj1 ()) ⟨rfl, trivial⟩ trivial rfl
def zBv (fu : Nat) (c1 : Int) : Option Bool := bnd (zDW fu c1) fun r2 => some (!r2)
set_option maxRecDepth 100000 in
theorem zHi (fu : Nat) (c1 : Int) : ∀ r, zBv fu c1 = some r → DC zAi Tryz.prog 116 [.v (.int .i32 c1)] (.v (.bool r)) := by
 intro r hr
 refine zAL (r := r)  (args := [.v (.int .i32 c1)]) (S := []) (N0 := []) (post := fun r p S => p = .v (.bool r) ∧ S = []) Tryz.func116 rfl rfl hr fun w0 X X0 σ0 _ => ?_
 refine sr ?_
 refine pe 1 ?_
 refine ns ?_
 refine sr ?_
 refine pe 1 ?_
 refine zAM (enc := fun (r2 : Bool) => .v (.bool r2)) (qs := [.v (.int .i32 c1)]) (zJR fu c1) rfl rfl ⟨⟨_, rfl, .rfl⟩, trivial⟩ (fun _ => rfl) zRF rfl rfl fun r2 hr2 => ?_
 refine pe 2 ?_
 refine ns ?_
 exact rN
def zA2 (t1 : Int → Option Bool) (s1 : Bs) (truth2 : Bool) : Nat → Nat → Option Int
 | 0, _ => none
 | k1 + 1, p3 => cnd (decide (p3 < s1.length)) (bnd (t1 (zEq s1 p3)) fun r4 => cnd (r4 == truth2) (some ((p3 : Nat) : Int)) ((zA2 t1 s1 truth2 k1) (p3 + zFq s1 p3))) (some (-1))
def zCx (fu : Nat) (t1 : Int → Option Bool) (s1 : Bs) (truth2 : Bool) : Option Int := (zA2 t1 s1 truth2) fu 0
set_option maxRecDepth 100000 in
theorem zFh (fu : Nat) (s1 : Bs) (truth2 : Bool) : ∀ r, zCx fu (fun (z1 : Int) => zBv fu z1) s1 truth2 = some r → DC zAi Tryz.prog 153 [.v (.string ⟨⟨s1⟩⟩), .fn (.func 116) [] [], .v (.bool truth2)] (.v (.int .i64 r)) := by
 intro r hr
 refine zAL (r := r)  (args := [.v (.string ⟨⟨s1⟩⟩), .fn (.func 116) [] [], .v (.bool truth2)]) (S := []) (N0 := []) (post := fun r p S => p = .v (.int .i64 r) ∧ S = []) Tryz.func153 rfl rfl hr fun w0 X X0 σ0 _ => ?_
 refine sr ?_
 refine pe 1 ?_
 refine ns ?_
 refine zAE ?_
 refine sr ?_
 refine pe 1 ?_
 refine zQA (T := tab) 10 rfl rfl rfl rfl rfl rfl rfl rfl rfl ?_
 refine ns ?_
 refine zAP ?_
 refine zCE (zA2 (fun (z1 : Int) => zBv fu z1) s1 truth2) (fun (p3 : Nat) => [(1, .fn (.func 116) [] []), (2, .v (.bool truth2)), (10, .loc 10 0)]) (fun (p3 : Nat) => [(10, .siter ⟨⟨s1⟩⟩ p3)]) fu 0 (fun _ => rfl) ⟨rfl, rfl, rfl, trivial⟩ ⟨rfl, trivial⟩ rfl ?_
 rintro k1 p3
 refine sr ?_
 refine zRz 10 rfl rfl rfl rfl rfl rfl rfl ?_ ?_
 ·refine pe 1 ?_
  refine ns ?_
  refine zAE ?_
  refine zBC rfl ?_
  refine zAG ?_
  refine zAB ?_
  refine zAP ?_
  refine sr ?_
  refine pe 4 ?_
  refine ns ?_
  refine sr ?_
  refine pe 2 ?_
  refine zDY (enc := fun (r4 : Bool) => .v (.bool r4)) (first := []) (cap := []) (qs := [.v (.int .i32 (zEq s1 p3))]) (Sc := []) (zHi fu (zEq s1 p3)) (zBe trivial rfl) rfl rfl rfl rfl ⟨⟨_, rfl, .rfl⟩, trivial⟩ (fun _ => rfl) zRJ rfl rfl fun r4 hr4 => ?_
  refine pe 2 ?_
  refine ns ?_
  refine zAR rfl ?_ ?_
  ·refine sr ?_
   refine pe 2 ?_
   refine ns ?_
   exact rN
  ·refine zAG ?_
   refine zAJ ?_
   exact zBX (p3 + zFq s1 p3) ⟨rfl, rfl, rfl, trivial⟩ ⟨rfl, trivial⟩ rfl
 ·refine pe 1 ?_
  refine ns ?_
  refine zAE ?_
  refine zAx rfl ?_
  refine zAr rfl ?_
  refine zAB ?_
  refine sr ?_
  refine pe 1 ?_
  refine ns ?_
  exact rN
def zCv (fu : Nat) (t1 : Int → Option Bool) (s1 : Bs) : Option Int := bnd (zCx fu t1 s1 true) fun r2 => some r2
set_option maxRecDepth 100000 in
theorem zFe (fu : Nat) (s1 : Bs) : ∀ r, zCv fu (fun (z1 : Int) => zBv fu z1) s1 = some r → DC zAi Tryz.prog 137 [.v (.string ⟨⟨s1⟩⟩), .fn (.func 116) [] []] (.v (.int .i64 r)) := by
 intro r hr
 refine zAL (r := r)  (args := [.v (.string ⟨⟨s1⟩⟩), .fn (.func 116) [] []]) (S := []) (N0 := []) (post := fun r p S => p = .v (.int .i64 r) ∧ S = []) Tryz.func137 rfl rfl hr fun w0 X X0 σ0 _ => ?_
 refine sr ?_
 refine pe 1 ?_
 refine ns ?_
 refine sr ?_
 refine pe 2 ?_
 refine zAM (enc := fun (r2 : Int) => .v (.int .i64 r2)) (qs := [.v (.string ⟨⟨s1⟩⟩), .fn (.func 116) [] [], .v (.bool true)]) (zFh fu s1 true) rfl rfl ⟨⟨_, rfl, .rfl⟩, ⟨_, rfl, .rfl⟩, ⟨_, rfl, .rfl⟩, trivial⟩ (fun _ => rfl) zRT rfl rfl fun r2 hr2 => ?_
 refine pe 1 ?_
 refine ns ?_
 exact rN
def zB1 (fu : Nat) (t1 : Int → Option Bool) (s1 : Bs) : Option Bool := bnd (zCv fu t1 s1) fun r2 => some (decide (r2 ≥ 0))
set_option maxRecDepth 100000 in
theorem zEy (fu : Nat) (s1 : Bs) : ∀ r, zB1 fu (fun (z1 : Int) => zBv fu z1) s1 = some r → DC zAi Tryz.prog 115 [.v (.string ⟨⟨s1⟩⟩), .fn (.func 116) [] []] (.v (.bool r)) := by
 intro r hr
 refine zAL (r := r)  (args := [.v (.string ⟨⟨s1⟩⟩), .fn (.func 116) [] []]) (S := []) (N0 := []) (post := fun r p S => p = .v (.bool r) ∧ S = []) Tryz.func115 rfl rfl hr fun w0 X X0 σ0 _ => ?_
 refine sr ?_
 refine pe 1 ?_
 refine ns ?_
 refine sr ?_
 refine pe 2 ?_
 refine zAM (enc := fun (r2 : Int) => .v (.int .i64 r2)) (qs := [.v (.string ⟨⟨s1⟩⟩), .fn (.func 116) [] []]) (zFe fu s1) rfl rfl ⟨⟨_, rfl, .rfl⟩, ⟨_, rfl, .rfl⟩, trivial⟩ (fun _ => rfl) zRU rfl rfl fun r2 hr2 => ?_
 refine pe 2 ?_
 refine ns ?_
 exact rN
def zEK (fu : Nat) (s1 : Bs) : Option Bool := cnd (decide (((s1.length : Nat) : Int) < 1)) (some false) (cnd (decide (((s1.length : Nat) : Int) > 40)) (some false) (bnd (zB1 fu (fun (z1 : Int) => zBv fu z1) s1) fun r2 => cnd r2 (some false) (bnd (chr s1 0) fun b3 => bnd (rng .i32 b3) fun i4 => bnd (zC2 fu i4) fun r5 => cnd r5 (some true) (bnd (zB9 fu i4) fun r6 => cnd r6 (some true) (some (i4 == 95))))))
set_option maxHeartbeats 10000000 in
set_option maxRecDepth 100000 in
theorem zJO (fu : Nat) (s1 : Bs) : ∀ r, zEK fu s1 = some r → DC zAi Tryz.prog 92 [.v (.string ⟨⟨s1⟩⟩)] (.v (.bool r)) := by
 intro r hr
 refine zAL (r := r)  (args := [.v (.string ⟨⟨s1⟩⟩)]) (S := []) (N0 := []) (post := fun r p S => p = .v (.bool r) ∧ S = []) Tryz.func92 rfl rfl hr fun w0 X X0 σ0 _ => ?_
 refine sr ?_
 refine pe 1 ?_
 refine ns ?_
 refine zAE ?_
 refine sr ?_
 refine pe 4 ?_
 refine zAN (j := 7) rfl ?_ ?_
 ·refine pe 8 ?_
  refine zAC ?_
  refine zAB (zBC rfl ?_)
  refine sr ?_
  refine pe 1 ?_
  refine ns ?_
  exact rN
 ·refine pe 5 ?_
  refine zAN (j := 12) rfl ?_ ?_
  ·refine pe 3 ?_
   refine zAC ?_
   refine zAB (zBC rfl ?_)
   refine sr ?_
   refine pe 1 ?_
   refine ns ?_
   exact rN
  ·refine pe 1 ?_
   refine zAM (enc := fun (r2 : Bool) => .v (.bool r2)) (qs := [.v (.string ⟨⟨s1⟩⟩), .fn (.func 116) [] []]) (zEy fu s1) rfl rfl ⟨⟨_, rfl, .rfl⟩, ⟨_, rfl, .rfl⟩, trivial⟩ (fun _ => rfl) zSD rfl rfl fun r2 hr2 => ?_
   refine pe 1 ?_
   refine ns ?_
   refine zAR rfl ?_ ?_
   ·refine sr ?_
    refine pe 1 ?_
    refine ns ?_
    exact rN
   ·refine zAG ?_
    refine zAB ?_
    refine sr ?_
    refine pe 1 ?_
    refine zCn (T := tab) (s := s1) rfl rfl rfl rfl rfl rfl rfl fun b3 hb3 => ?_
    refine zAV (T := tab) rfl rfl rfl rfl fun i4 hi4 => ?_
    refine pe 1 ?_
    refine ns ?_
    refine sr ?_
    refine pe 1 ?_
    refine zAM (enc := fun (r5 : Bool) => .v (.bool r5)) (qs := [.v (.int .i32 i4)]) (zF2 fu i4) rfl rfl ⟨⟨_, rfl, .rfl⟩, trivial⟩ (fun _ => rfl) zOy rfl rfl fun r5 hr5 => ?_
    refine pe 1 ?_
    refine zAN (j := 21) rfl ?_ ?_
    ·refine pe 8 ?_
     refine ns ?_
     exact rN
    ·refine pe 1 ?_
     refine zAM (enc := fun (r6 : Bool) => .v (.bool r6)) (qs := [.v (.int .i32 i4)]) (zD5 fu i4) rfl rfl ⟨⟨_, rfl, .rfl⟩, trivial⟩ (fun _ => rfl) zKw rfl rfl fun r6 hr6 => ?_
     refine pe 2 ?_
     refine zAN (j := 25) rfl ?_ ?_
     ·refine pe 4 ?_
      refine ns ?_
      exact rN
     ·refine pe 4 ?_
      refine ns ?_
      exact rN
def zCL (fu : Nat) (s1 : Bs) : Nat → Int × (List Int) → Option Bs
 | 0, _ => none
 | k1 + 1, (t2, l3) => cnd (decide (t2 < (((zAQ s1).length : Nat) : Int))) (bnd (idx l3 t2) fun y4 => bnd (rng .i32 y4) fun i5 => bnd (zB9 fu i5) fun r6 => cnd r6 (bnd (rng .u8 (y4 - 65)) fun i7 => bnd (rng .u8 (i7 + 97)) fun i8 => bnd (idx l3 t2) fun y9 => bnd (rng .i64 (t2 + 1)) fun i10 => (zCL fu s1 k1) (i10, (l3.set (t2).toNat i8))) (bnd (rng .i64 (t2 + 1)) fun i11 => (zCL fu s1 k1) (i11, l3))) (some (zDx l3))
def zEJ (fu : Nat) (s1 : Bs) : Option Bs := bnd (zED 1 s1.length) fun _ => (zCL fu s1) fu (0, (zAQ s1))
set_option maxHeartbeats 10000000 in
set_option maxRecDepth 100000 in
theorem zIp (fu : Nat) (s1 : Bs) : ∀ r, zEJ fu s1 = some r → DC zAi Tryz.prog 93 [.v (.string ⟨⟨s1⟩⟩)] (.v (.string ⟨⟨r⟩⟩)) := by
 intro r hr
 refine zAL (r := r)  (args := [.v (.string ⟨⟨s1⟩⟩)]) (S := []) (N0 := []) (post := fun r p S => p = .v (.string ⟨⟨r⟩⟩) ∧ S = []) Tryz.func93 rfl rfl hr fun w0 X X0 σ0 _ => ?_
 refine sr ?_
 refine pe 1 ?_
 refine ns ?_
 refine sr ?_
 refine pe 1 ?_
 refine zPg (T := tab) zAA 7 (fun _ => rfl) rfl rfl rfl rfl rfl rfl rfl rfl rfl rfl rfl rfl ?_
 refine pe 1 ?_
 refine ns ?_
 refine zAE ?_
 refine sr ?_
 refine pe 1 ?_
 refine zCQ (T := tab) zAA (zAQ s1) rfl rfl rfl rfl rfl rfl rfl rfl rfl ?_
 refine pe 1 ?_
 refine ns ?_
 refine zAP ?_
 refine zCE (zCL fu s1) (fun ((t2, l3) : Int × (List Int)) => [(3, .own 7), (8, .own 7), (9, .v (.int .i64 (((zAQ s1).length : Nat) : Int))), (10, .v (.int .i64 t2))]) (fun ((t2, l3) : Int × (List Int)) => [(7, .arr 1000005 1 (l3.map zAA))]) fu (0, (zAQ s1)) (fun _ => rfl) ⟨rfl, rfl, rfl, rfl, trivial⟩ ⟨rfl, trivial⟩ rfl ?_
 rintro k1 ⟨t2, l3⟩
 refine sr ?_
 refine pe 1 ?_
 refine ns ?_
 refine zAE ?_
 refine zAR rfl ?_ ?_
 ·refine zAG ?_
  refine zAB ?_
  refine zAE ?_
  refine zAP ?_
  refine sr ?_
  refine pe 1 ?_
  refine zID (T := tab) zAA l3 rfl rfl rfl rfl rfl rfl rfl rfl fun y4 hy4 => ?_
  refine zKY (T := tab) zAA l3 y4 (zL2 hy4) rfl rfl rfl rfl rfl rfl rfl rfl ?_
  refine pe 2 ?_
  refine ns ?_
  refine sr ?_
  refine pe 1 ?_
  refine zAV (T := tab) rfl rfl rfl rfl fun i5 hi5 => ?_
  refine zAM (enc := fun (r6 : Bool) => .v (.bool r6)) (qs := [.v (.int .i32 i5)]) (zD5 fu i5) rfl rfl ⟨⟨_, rfl, .rfl⟩, trivial⟩ (fun _ => rfl) zKw rfl rfl fun r6 hr6 => ?_
  refine ns ?_
  refine zAR rfl ?_ ?_
  ·refine zAD ?_
   refine pe 3 ?_
   refine zAV (T := tab) rfl rfl rfl rfl fun i7 hi7 => ?_
   refine zAV (T := tab) rfl rfl rfl rfl fun i8 hi8 => ?_
   refine zID (T := tab) zAA l3 rfl rfl rfl rfl rfl rfl rfl rfl fun y9 hy9 => ?_
   refine zJt (T := tab) zAA l3 y9 i8 (zL2 hy9) rfl rfl rfl rfl rfl rfl rfl rfl rfl rfl rfl rfl rfl ?_
   refine zAC ?_
   refine zAJ ?_
   refine zAB ?_
   refine zAD ?_
   refine zAV (T := tab) rfl rfl rfl rfl fun i10 hi10 => ?_
   refine pe 1 ?_
   refine zAC ?_
   exact zBX (i10, (l3.set (t2).toNat i8)) ⟨rfl, rfl, rfl, rfl, trivial⟩ ⟨rfl, trivial⟩ rfl
  ·refine zAG ?_
   refine zAJ ?_
   refine zAB ?_
   refine zAD ?_
   refine zAV (T := tab) rfl rfl rfl rfl fun i11 hi11 => ?_
   refine pe 1 ?_
   refine zAC ?_
   exact zBX (i11, l3) ⟨rfl, rfl, rfl, rfl, trivial⟩ ⟨rfl, trivial⟩ rfl
 ·refine zAr rfl ?_
  refine zAB ?_
  refine sr ?_
  refine pe 1 ?_
  refine po_str (T := tab) zAA l3 (fun _ => rfl) rfl rfl rfl rfl rfl rfl rfl rfl rfl ?_
  refine pe 1 ?_
  refine ns ?_
  exact rN
def zEn (fu : Nat) (s1 : Bs) : Option (Bs × Int) := bnd (zEK fu s1) fun r2 => cnd (!r2) (some ([], 4)) (bnd (zEJ fu s1) fun r3 => some (r3, 0))
set_option maxRecDepth 100000 in
theorem zHv (fu : Nat) (s1 : Bs) : ∀ r, zEn fu s1 = some r → DC zAi Tryz.prog 57 [.v (.string ⟨⟨s1⟩⟩)] (.tup [.v (.string ⟨⟨r.1⟩⟩), .v (.int .i64 r.2)]) := by
 intro r hr
 refine zAL (r := r)  (args := [.v (.string ⟨⟨s1⟩⟩)]) (S := []) (N0 := []) (post := fun r p S => p = .tup [.v (.string ⟨⟨r.1⟩⟩), .v (.int .i64 r.2)] ∧ S = []) Tryz.func57 rfl rfl hr fun w0 X X0 σ0 _ => ?_
 refine sr ?_
 refine pe 2 ?_
 refine ns ?_
 refine zAE ?_
 refine sr ?_
 refine pe 1 ?_
 refine zAM (enc := fun (r2 : Bool) => .v (.bool r2)) (qs := [.v (.string ⟨⟨s1⟩⟩)]) (zJO fu s1) rfl rfl ⟨⟨_, rfl, .rfl⟩, trivial⟩ (fun _ => rfl) call92 rfl rfl fun r2 hr2 => ?_
 refine pe 1 ?_
 refine ns ?_
 refine zAR rfl ?_ ?_
 ·refine sr ?_
  refine pe 2 ?_
  refine ns ?_
  exact rN
 ·refine zAG ?_
  refine zAB ?_
  refine sr ?_
  refine pe 1 ?_
  refine zAM (enc := fun (r3 : Bs) => .v (.string ⟨⟨r3⟩⟩)) (qs := [.v (.string ⟨⟨s1⟩⟩)]) (zIp fu s1) rfl rfl ⟨⟨_, rfl, .rfl⟩, trivial⟩ (fun _ => rfl) call93 rfl rfl fun r3 hr3 => ?_
  refine pe 2 ?_
  refine ns ?_
  exact rN
def zCq (fu : Nat) : Option (List Bs) := bnd (zHP fu ([45, 32, 99, 97, 109, 101, 32, 119, 101, 110, 116, 32, 109, 111, 118, 101, 100, 32, 99, 104, 97, 110, 103, 101, 100, 32, 111, 119, 110, 101, 100, 32, 98, 97, 114, 114, 101, 100, 32, 99, 108, 101, 97, 114, 101, 100, 32, 114, 101, 115, 116, 111, 114, 101, 100] : Bs)) fun r1 => some r1
set_option maxRecDepth 100000 in
theorem zFI (fu : Nat) : ∀ r, zCq fu = some r → DC zAi Tryz.prog 28 [] (.sl 1 false (r.map cStr)) := by
 intro r hr
 refine zAL (r := r)  (args := []) (S := []) (N0 := []) (post := fun r p S => p = .sl 1 false (r.map cStr) ∧ S = []) Tryz.func28 rfl rfl hr fun w0 X X0 σ0 _ => ?_
 refine sr ?_
 refine pe 1 ?_
 refine ns ?_
 refine sr ?_
 refine zAM (enc := fun (r1 : (List Bs)) => .sl 1 false (r1.map cStr)) (qs := [.v (.string ⟨⟨[45, 32, 99, 97, 109, 101, 32, 119, 101, 110, 116, 32, 109, 111, 118, 101, 100, 32, 99, 104, 97, 110, 103, 101, 100, 32, 111, 119, 110, 101, 100, 32, 98, 97, 114, 114, 101, 100, 32, 99, 108, 101, 97, 114, 101, 100, 32, 114, 101, 115, 116, 111, 114, 101, 100]⟩⟩)]) (zJc fu ([45, 32, 99, 97, 109, 101, 32, 119, 101, 110, 116, 32, 109, 111, 118, 101, 100, 32, 99, 104, 97, 110, 103, 101, 100, 32, 111, 119, 110, 101, 100, 32, 98, 97, 114, 114, 101, 100, 32, 99, 108, 101, 97, 114, 101, 100, 32, 114, 101, 115, 116, 111, 114, 101, 100] : Bs)) rfl rfl ⟨⟨_, rfl, .rfl⟩, trivial⟩ (fun _ => rfl) zQN rfl rfl fun r1 hr1 => ?_
 refine pe 1 ?_
 refine ns ?_
 exact rN
def zAq (s1 : (List Bs)) (v2 : Bs) : Nat → Int → Option Int
 | 0, _ => none
 | k1 + 1, t3 => cnd (decide (t3 < ((s1.length : Nat) : Int))) (bnd (idx s1 t3) fun y4 => cnd (v2 == y4) (some t3) (bnd (rng .i64 (t3 + 1)) fun i5 => (zAq s1 v2 k1) i5)) (some (-1))
def zAm (fu : Nat) (s1 : (List Bs)) (v2 : Bs) : Option Int := (zAq s1 v2) fu 0
set_option maxHeartbeats 10000000 in
set_option maxRecDepth 100000 in
theorem zDL (fu : Nat) (s1 : (List Bs)) (v2 : Bs) : ∀ r, zAm fu s1 v2 = some r → DC zAi Tryz.prog 48 [.sl 1 false (s1.map cStr), .v (.string ⟨⟨v2⟩⟩)] (.v (.int .i64 r)) := by
 intro r hr
 refine zAL (r := r)  (args := [.sl 1 false (s1.map cStr), .v (.string ⟨⟨v2⟩⟩)]) (S := []) (N0 := []) (post := fun r p S => p = .v (.int .i64 r) ∧ S = []) Tryz.func48 rfl rfl hr fun w0 X X0 σ0 _ => ?_
 refine sr ?_
 refine pe 1 ?_
 refine ns ?_
 refine zAE ?_
 refine sr ?_
 refine pe 1 ?_
 refine zCD (T := tab) cStr s1 rfl rfl rfl rfl rfl rfl rfl rfl ?_
 refine pe 1 ?_
 refine ns ?_
 refine zAP ?_
 refine zCE (zAq s1 v2) (fun (t3 : Int) => [(0, .sl 1 false (s1.map cStr)), (1, .v (.string ⟨⟨v2⟩⟩)), (7, .v (.int .i64 ((s1.length : Nat) : Int))), (8, .v (.int .i64 t3))]) (fun (t3 : Int) => []) fu 0 (fun _ => rfl) ⟨rfl, rfl, rfl, rfl, trivial⟩ trivial rfl ?_
 rintro k1 t3
 refine sr ?_
 refine pe 1 ?_
 refine ns ?_
 refine zAE ?_
 refine zAR rfl ?_ ?_
 ·refine zAG ?_
  refine zAB ?_
  refine zAE ?_
  refine zAP ?_
  refine sr ?_
  refine pe 2 ?_
  refine ns ?_
  refine sr ?_
  refine pe 3 ?_
  refine zCV (T := tab) cStr s1 rfl rfl rfl rfl rfl rfl rfl fun y4 hy4 => ?_
  refine pe 2 ?_
  refine ns ?_
  refine zAR rfl ?_ ?_
  ·refine sr ?_
   refine pe 2 ?_
   refine ns ?_
   exact rN
  ·refine zAG ?_
   refine zAJ ?_
   refine zAB ?_
   refine zAD ?_
   refine zAV (T := tab) rfl rfl rfl rfl fun i5 hi5 => ?_
   refine pe 1 ?_
   refine zAC ?_
   exact zBX i5 ⟨rfl, rfl, rfl, rfl, trivial⟩ trivial rfl
 ·refine zAr rfl ?_
  refine zAB ?_
  refine sr ?_
  refine pe 1 ?_
  refine ns ?_
  exact rN
set_option maxRecDepth 100000 in
theorem zEV (fu : Nat) (i1 : Nat) (most2 : Int) (c3 : Int) (c4 : (List Hook × Bool)) (c5 : Int) (c6 : (List Class × Bool)) (c7 : Bool) (l8 : (List Op)) (l9 : (List Op)) (l10 : (List Bs)) (l11 : (List Op)) (l12 : (List Op)) : ∀ r, zAX fu most2 = some r → FC zAi Tryz.prog 38 [.loc 900000 0, .ela 900001 2 i1 1, .v (.int .i64 most2)] [(900000, .box 80 [.own 900002, .own 900003, .junk, .v (.int .i64 c3)]), (900001, .box 54 [pfx 2 (c4.1.map zAa) c4.2, .v (.int .i64 c5), .own 900004]), (900002, .box 51 [pfx 5 (c6.1.map zAI) c6.2, .v (.bool c7), .own 900005, .own 900006, .own 900007, .own 900001]), (900003, .arr 43 7 (l8.map cOp)), (900004, .arr 43 7 (l9.map cOp)), (900005, .arr 9 1 (l10.map cStr)), (900006, .arr 43 7 (l11.map cOp)), (900007, .arr 43 7 (l12.map cOp))] [900000, 900001, 900002, 900003, 900004, 900005, 900006, 900007] fun p S' => p = .v (.bool r.1) ∧ S' = [(900000, .box 80 [.own 900002, .own 900003, .ela 900001 2 i1 1, .v (.int .i64 r.2)]), (900001, .box 54 [pfx 2 (c4.1.map zAa) c4.2, .v (.int .i64 c5), .own 900004]), (900002, .box 51 [pfx 5 (c6.1.map zAI) c6.2, .v (.bool c7), .own 900005, .own 900006, .own 900007, .own 900001]), (900003, .arr 43 7 (l8.map cOp)), (900004, .arr 43 7 (l9.map cOp)), (900005, .arr 9 1 (l10.map cStr)), (900006, .arr 43 7 (l11.map cOp)), (900007, .arr 43 7 (l12.map cOp))] := by
 intro r hr
 refine zAL (r := r)  (args := [.loc 900000 0, .ela 900001 2 i1 1, .v (.int .i64 most2)]) (S := [(900000, .box 80 [.own 900002, .own 900003, .junk, .v (.int .i64 c3)]), (900001, .box 54 [pfx 2 (c4.1.map zAa) c4.2, .v (.int .i64 c5), .own 900004]), (900002, .box 51 [pfx 5 (c6.1.map zAI) c6.2, .v (.bool c7), .own 900005, .own 900006, .own 900007, .own 900001]), (900003, .arr 43 7 (l8.map cOp)), (900004, .arr 43 7 (l9.map cOp)), (900005, .arr 9 1 (l10.map cStr)), (900006, .arr 43 7 (l11.map cOp)), (900007, .arr 43 7 (l12.map cOp))]) (N0 := [900000, 900001, 900002, 900003, 900004, 900005, 900006, 900007]) (post := fun r p S => p = .v (.bool r.1) ∧ S = [(900000, .box 80 [.own 900002, .own 900003, .ela 900001 2 i1 1, .v (.int .i64 r.2)]), (900001, .box 54 [pfx 2 (c4.1.map zAa) c4.2, .v (.int .i64 c5), .own 900004]), (900002, .box 51 [pfx 5 (c6.1.map zAI) c6.2, .v (.bool c7), .own 900005, .own 900006, .own 900007, .own 900001]), (900003, .arr 43 7 (l8.map cOp)), (900004, .arr 43 7 (l9.map cOp)), (900005, .arr 9 1 (l10.map cStr)), (900006, .arr 43 7 (l11.map cOp)), (900007, .arr 43 7 (l12.map cOp))]) Tryz.func38 rfl rfl hr fun w0 X X0 σ0 _ => ?_
 refine sr ?_
 refine pe 1 ?_
 refine ns ?_
 refine sr ?_
 refine pe 6 ?_
 refine zAK (T := tab) rfl rfl rfl rfl rfl rfl rfl rfl rfl rfl rfl rfl ?_
 refine pe 2 ?_
 refine zAK (T := tab) rfl rfl rfl rfl rfl rfl rfl rfl rfl rfl rfl rfl ?_
 refine ns ?_
 refine sr ?_
 refine pe 1 ?_
 refine ns ?_
 exact rN
def zBh (fu : Nat) (k2 : Nat) (c3 : Int) (c4 : (List Class × Bool)) (c5 : Bool) (c7 : (List Hook × Bool)) (c8 : Int) (l9 : (List Bs)) (l10 : (List Op)) (l11 : (List Op)) (l12 : (List Op)) (r13 : (Bs × Bs × Bool)) (x_ : Unit) : Option (Bool × Nat × Int × (List Class × Bool) × Bool × (List Hook × Bool) × Int × (List Bs) × (List Op) × (List Op) × (List Op)) := cnd (((c4.1.length + (if c4.2 then 1 else 0) : Nat) : Int) == 12) (some (false, k2, c3, c4, c5, c7, c8, l9, l10, l11, l12)) (bnd (zED 104 ((c4.1 ++ if c4.2 then [(⟨c5, l9, l10, l11, (c7.1 ++ if c7.2 then [(⟨c8, l12⟩ : Hook)] else [])⟩ : Class)] else []).length + 1)) fun _ => bnd (rng .i64 ((((c4.1 ++ if c4.2 then [(⟨c5, l9, l10, l11, (c7.1 ++ if c7.2 then [(⟨c8, l12⟩ : Hook)] else [])⟩ : Class)] else []).length + (if true then 1 else 0) : Nat) : Int) - 1)) fun i15 => bnd (zH7 ((c4.1 ++ if c4.2 then [(⟨c5, l9, l10, l11, (c7.1 ++ if c7.2 then [(⟨c8, l12⟩ : Hook)] else [])⟩ : Class)] else []).length) i15) fun _ => bnd (zAX fu 60) fun r16 => some (r16.1, 2, r16.2, ((c4.1 ++ if c4.2 then [(⟨c5, l9, l10, l11, (c7.1 ++ if c7.2 then [(⟨c8, l12⟩ : Hook)] else [])⟩ : Class)] else []), true), r13.2.2, (([] : List Hook), false), 0, ([] : List Bs), ([] : List Op), ([] : List Op), ([] : List Op)))
def zBi (fu : Nat) (k2 : Nat) (c3 : Int) (c4 : (List Class × Bool)) (c5 : Bool) (c7 : (List Hook × Bool)) (c8 : Int) (l9 : (List Bs)) (l10 : (List Op)) (l11 : (List Op)) (l12 : (List Op)) (r13 : (Bs × Bs × Bool)) (x_ : Unit) : Option (Bool × Nat × Int × (List Class × Bool) × Bool × (List Hook × Bool) × Int × (List Bs) × (List Op) × (List Op) × (List Op)) := cnd (r13.1 == ([111, 110] : Bs)) (cnd r13.2.2 (bnd (zCq fu) fun r21 => bnd (zAm fu r21 r13.2.1) fun r22 => cnd (decide (r22 < 1)) (some (false, k2, c3, (c4.1, true), c5, c7, c8, l9, l10, l11, l12)) (cnd (((c7.1.length + (if c7.2 then 1 else 0) : Nat) : Int) == 12) (some (false, k2, c3, (c4.1, true), c5, c7, c8, l9, l10, l11, l12)) (bnd (zED 32 ((c7.1 ++ if c7.2 then [(⟨c8, l12⟩ : Hook)] else []).length + 1)) fun _ => bnd (rng .i64 ((((c7.1 ++ if c7.2 then [(⟨c8, l12⟩ : Hook)] else []).length + (if true then 1 else 0) : Nat) : Int) - 1)) fun i23 => bnd (zH7 ((c7.1 ++ if c7.2 then [(⟨c8, l12⟩ : Hook)] else []).length) i23) fun _ => bnd (zAX fu 60) fun r24 => some (r24.1, 3, r24.2, (c4.1, true), c5, ((c7.1 ++ if c7.2 then [(⟨c8, l12⟩ : Hook)] else []), true), r22, l9, l10, l11, ([] : List Op))))) (some (false, k2, c3, (c4.1, true), c5, c7, c8, l9, l10, l11, l12))) (some (false, k2, c3, (c4.1, true), c5, c7, c8, l9, l10, l11, l12))
def zCF (fu : Nat) (s1 : Bs) (k2 : Nat) (c3 : Int) (c4 : (List Class × Bool)) (c5 : Bool) (c7 : (List Hook × Bool)) (c8 : Int) (l9 : (List Bs)) (l10 : (List Op)) (l11 : (List Op)) (l12 : (List Op)) : Option (Bool × Nat × Int × (List Class × Bool) × Bool × (List Hook × Bool) × Int × (List Bs) × (List Op) × (List Op) × (List Op)) := bnd (zAl fu s1 [32]) fun r13 => cnd (s1 == ([109, 97, 105, 110] : Bs)) (bnd (zBW fu 300) fun r14 => some (r14.1, 0, r14.2, c4, c5, c7, c8, l9, l10, l11, l12)) (cnd (s1 == ([99, 108, 97, 115, 115] : Bs)) ((zBh fu k2 c3 c4 c5 c7 c8 l9 l10 l11 l12 r13) ()) (cnd (s1 == ([99, 108, 97, 115, 115, 32, 102, 111, 114, 109] : Bs)) ((zBh fu k2 c3 c4 c5 c7 c8 l9 l10 l11 l12 r13) ()) (cnd (((c4.1.length + (if c4.2 then 1 else 0) : Nat) : Int) == 0) (some (false, k2, c3, c4, c5, c7, c8, l9, l10, l11, l12)) (bnd (zHA c4.2) fun _ => bnd (rng .i64 (((c4.1.length + (if true then 1 else 0) : Nat) : Int) - 1)) fun i17 => bnd (zH7 (c4.1.length) i17) fun _ => cnd (s1 == ([112, 101, 101, 107] : Bs)) (bnd (zAX fu 60) fun r18 => some (r18.1, 1, r18.2, (c4.1, true), c5, c7, c8, l9, l10, l11, l12)) (cnd (s1 == ([109, 97, 107, 101] : Bs)) (bnd (zAX fu 60) fun r19 => some (r19.1, 2, r19.2, (c4.1, true), c5, c7, c8, l9, l10, l11, l12)) (cnd (r13.1 == ([119, 97, 116, 99, 104] : Bs)) (cnd r13.2.2 (bnd (zEn fu r13.2.1) fun r20 => cnd (r20.2 != 0) (some (false, k2, c3, (c4.1, true), c5, c7, c8, l9, l10, l11, l12)) (cnd (!(r20.1 == r13.2.1)) (some (false, k2, c3, (c4.1, true), c5, c7, c8, l9, l10, l11, l12)) (cnd (((l9.length : Nat) : Int) == 12) (some (false, k2, c3, (c4.1, true), c5, c7, c8, l9, l10, l11, l12)) (bnd (zED 16 (l9.length + ([r13.2.1] : List Bs).length)) fun _ => some (true, k2, c3, (c4.1, true), c5, c7, c8, (l9 ++ [r13.2.1]), l10, l11, l12))))) ((zBi fu k2 c3 c4 c5 c7 c8 l9 l10 l11 l12 r13) ())) ((zBi fu k2 c3 c4 c5 c7 c8 l9 l10 l11 l12 r13) ())))))))
set_option maxHeartbeats 10000000 in
set_option maxRecDepth 100000 in
theorem zFO (fu : Nat) (s1 : Bs) (k2 : Nat) (c3 : Int) (c4 : (List Class × Bool)) (c5 : Bool) (l6 : (List Op)) (c7 : (List Hook × Bool)) (c8 : Int) (l9 : (List Bs)) (l10 : (List Op)) (l11 : (List Op)) (l12 : (List Op)) : ∀ r, zCF fu s1 k2 c3 c4 c5 c7 c8 l9 l10 l11 l12 = some r → FC zAi Tryz.prog 41 [.loc 900000 0, .v (.string ⟨⟨s1⟩⟩)] [(900000, .box 80 [.own 900001, .own 900002, .sel k2 [.loc 900000 1, .ela 900001 5 (c4.1.length) 2, .ela 900001 5 (c4.1.length) 3, .ela 900003 2 (c7.1.length) 1], .v (.int .i64 c3)]), (900001, .box 51 [pfx 5 (c4.1.map zAI) c4.2, .v (.bool c5), .own 900004, .own 900005, .own 900006, .own 900003]), (900002, .arr 43 7 (l6.map cOp)), (900003, .box 54 [pfx 2 (c7.1.map zAa) c7.2, .v (.int .i64 c8), .own 900007]), (900004, .arr 9 1 (l9.map cStr)), (900005, .arr 43 7 (l10.map cOp)), (900006, .arr 43 7 (l11.map cOp)), (900007, .arr 43 7 (l12.map cOp))] [900000, 900002] fun p S' => p = .v (.bool r.1) ∧ S' = [(900000, .box 80 [.own 900001, .own 900002, .sel r.2.1 [.loc 900000 1, .ela 900001 5 (r.2.2.2.1.1.length) 2, .ela 900001 5 (r.2.2.2.1.1.length) 3, .ela 900003 2 (r.2.2.2.2.2.1.1.length) 1], .v (.int .i64 r.2.2.1)]), (900001, .box 51 [pfx 5 (r.2.2.2.1.1.map zAI) r.2.2.2.1.2, .v (.bool r.2.2.2.2.1), .own 900004, .own 900005, .own 900006, .own 900003]), (900002, .arr 43 7 (l6.map cOp)), (900003, .box 54 [pfx 2 (r.2.2.2.2.2.1.1.map zAa) r.2.2.2.2.2.1.2, .v (.int .i64 r.2.2.2.2.2.2.1), .own 900007]), (900004, .arr 9 1 (r.2.2.2.2.2.2.2.1.map cStr)), (900005, .arr 43 7 (r.2.2.2.2.2.2.2.2.1.map cOp)), (900006, .arr 43 7 (r.2.2.2.2.2.2.2.2.2.1.map cOp)), (900007, .arr 43 7 (r.2.2.2.2.2.2.2.2.2.2.map cOp))] := by
 intro r hr
 refine zAL (r := r)  (args := [.loc 900000 0, .v (.string ⟨⟨s1⟩⟩)]) (S := [(900000, .box 80 [.own 900001, .own 900002, .sel k2 [.loc 900000 1, .ela 900001 5 (c4.1.length) 2, .ela 900001 5 (c4.1.length) 3, .ela 900003 2 (c7.1.length) 1], .v (.int .i64 c3)]), (900001, .box 51 [pfx 5 (c4.1.map zAI) c4.2, .v (.bool c5), .own 900004, .own 900005, .own 900006, .own 900003]), (900002, .arr 43 7 (l6.map cOp)), (900003, .box 54 [pfx 2 (c7.1.map zAa) c7.2, .v (.int .i64 c8), .own 900007]), (900004, .arr 9 1 (l9.map cStr)), (900005, .arr 43 7 (l10.map cOp)), (900006, .arr 43 7 (l11.map cOp)), (900007, .arr 43 7 (l12.map cOp))]) (N0 := [900000, 900002]) (post := fun r p S => p = .v (.bool r.1) ∧ S = [(900000, .box 80 [.own 900001, .own 900002, .sel r.2.1 [.loc 900000 1, .ela 900001 5 (r.2.2.2.1.1.length) 2, .ela 900001 5 (r.2.2.2.1.1.length) 3, .ela 900003 2 (r.2.2.2.2.2.1.1.length) 1], .v (.int .i64 r.2.2.1)]), (900001, .box 51 [pfx 5 (r.2.2.2.1.1.map zAI) r.2.2.2.1.2, .v (.bool r.2.2.2.2.1), .own 900004, .own 900005, .own 900006, .own 900003]), (900002, .arr 43 7 (l6.map cOp)), (900003, .box 54 [pfx 2 (r.2.2.2.2.2.1.1.map zAa) r.2.2.2.2.2.1.2, .v (.int .i64 r.2.2.2.2.2.2.1), .own 900007]), (900004, .arr 9 1 (r.2.2.2.2.2.2.2.1.map cStr)), (900005, .arr 43 7 (r.2.2.2.2.2.2.2.2.1.map cOp)), (900006, .arr 43 7 (r.2.2.2.2.2.2.2.2.2.1.map cOp)), (900007, .arr 43 7 (r.2.2.2.2.2.2.2.2.2.2.map cOp))]) Tryz.func41 rfl rfl hr fun w0 X X0 σ0 _ => ?_
 refine sr ?_
 refine pe 1 ?_
 refine ns ?_
 refine sr ?_
 refine pe 1 ?_
 refine zAM (enc := fun (r13 : (Bs × Bs × Bool)) => .tup [.v (.string ⟨⟨r13.1⟩⟩), .v (.string ⟨⟨r13.2.1⟩⟩), .v (.bool r13.2.2)]) (qs := [.v (.string ⟨⟨s1⟩⟩), .v (.string ⟨⟨[32]⟩⟩)]) (zCt fu s1 [32]) rfl rfl ⟨⟨_, rfl, .rfl⟩, ⟨_, rfl, .rfl⟩, trivial⟩ (fun _ => rfl) zJo rfl rfl fun r13 hr13 => ?_
 refine pe 7 ?_
 refine ns ?_
 refine zAE ?_
 refine sr ?_
 refine pe 2 ?_
 refine ns ?_
 refine zAR rfl ?_ ?_
 ·refine sr ?_
  refine pe 5 ?_
  refine zAh [] (enc := fun (r14 : (Bool × Int)) => .v (.bool r14.1)) (Sr := fun (r14 : (Bool × Int)) => [(900000, .box 80 [.own 900001, .own 900002, .loc 900000 1, .v (.int .i64 r14.2)]), (900001, .box 51 [pfx 5 (c4.1.map zAI) c4.2, .v (.bool c5), .own 900004, .own 900005, .own 900006, .own 900003]), (900002, .arr 43 7 (l6.map cOp)), (900003, .box 54 [pfx 2 (c7.1.map zAa) c7.2, .v (.int .i64 c8), .own 900007]), (900004, .arr 9 1 (l9.map cStr)), (900005, .arr 43 7 (l10.map cOp)), (900006, .arr 43 7 (l11.map cOp)), (900007, .arr 43 7 (l12.map cOp))]) (first := []) (cap := []) (qs := [.loc 900000 0, .loc 900000 1, .v (.int .i64 300)]) (Sc := [(900000, .box 80 [.own 900001, .own 900002, .sel k2 [.loc 900000 1, .ela 900001 5 (c4.1.length) 2, .ela 900001 5 (c4.1.length) 3, .ela 900003 2 (c7.1.length) 1], .v (.int .i64 c3)]), (900001, .box 51 [pfx 5 (c4.1.map zAI) c4.2, .v (.bool c5), .own 900004, .own 900005, .own 900006, .own 900003]), (900002, .arr 43 7 (l6.map cOp)), (900003, .box 54 [pfx 2 (c7.1.map zAa) c7.2, .v (.int .i64 c8), .own 900007]), (900004, .arr 9 1 (l9.map cStr)), (900005, .arr 43 7 (l10.map cOp)), (900006, .arr 43 7 (l11.map cOp)), (900007, .arr 43 7 (l12.map cOp))]) (N0 := [900000, 900001, 900002, 900003, 900004, 900005, 900006, 900007]) (NR := [900000, 900001, 900002, 900003, 900004, 900005, 900006, 900007]) (fun r14 hr14 => zA5 [(900000, 900000), (900001, 900001), (900002, 900002), (900003, 900003), (900004, 900004), (900005, 900005), (900006, 900006), (900007, 900007)] [900000, 900001, 900002, 900003, 900004, 900005, 900006, 900007] (zEf fu 300 k2 c3 c4 c5 l6 c7 c8 l9 l10 l11 l12 _ hr14) rfl rfl rfl rfl rfl rfl) ⟨rfl, rfl, rfl, rfl, rfl, rfl, rfl, rfl, trivial⟩ (fun _ => rfl) rfl rfl rfl rfl rfl rfl rfl (fun _ => rfl) (fun _ => rfl) rfl rfl rfl ⟨⟨_, rfl, .rfl⟩, ⟨_, rfl, .rfl⟩, ⟨_, rfl, .rfl⟩, trivial⟩ zIa rfl rfl fun r14 hr14 => ?_
  refine pe 1 ?_
  refine ns ?_
  refine zD4 900000 [.own 900001, .own 900002, .sel 0 [.loc 900000 1, .ela 900001 5 (c4.1.length) 2, .ela 900001 5 (c4.1.length) 3, .ela 900003 2 (c7.1.length) 1], .v (.int .i64 r14.2)] rfl ⟨.rfl, .rfl, (.sel rfl rfl), .rfl, trivial⟩ rfl ?_
  exact rN
 ·refine zAG ?_
  refine zAB ?_
  refine zAE ?_
  refine sr ?_
  refine zPU (zBh fu k2 c3 c4 c5 c7 c8 l9 l10 l11 l12 r13) (fun (_ : Unit) => [(0, .loc 900000 0), (7, .v (.bool r13.2.2))]) (fun (_ : Unit) => [(900000, .box 80 [.own 900001, .own 900002, .sel k2 [.loc 900000 1, .ela 900001 5 (c4.1.length) 2, .ela 900001 5 (c4.1.length) 3, .ela 900003 2 (c7.1.length) 1], .v (.int .i64 c3)]), (900001, .box 51 [pfx 5 (c4.1.map zAI) c4.2, .v (.bool c5), .own 900004, .own 900005, .own 900006, .own 900003]), (900002, .arr 43 7 (l6.map cOp)), (900003, .box 54 [pfx 2 (c7.1.map zAa) c7.2, .v (.int .i64 c8), .own 900007]), (900004, .arr 9 1 (l9.map cStr)), (900005, .arr 43 7 (l10.map cOp)), (900006, .arr 43 7 (l11.map cOp)), (900007, .arr 43 7 (l12.map cOp))]) ?_ fun hj1 => ?_
  ·rintro _
   refine zAE ?_
   refine sr ?_
   refine pe 5 ?_
   refine zDz (T := tab) (l := c4.1.length) rfl rfl rfl rfl rfl rfl rfl (by simp) rfl rfl ?_
   refine pe 1 ?_
   refine ns ?_
   refine zAR rfl ?_ ?_
   ·refine sr ?_
    refine pe 1 ?_
    refine ns ?_
    exact rN
   ·refine zAG ?_
    refine zAB ?_
    refine sr ?_
    refine pe 7 ?_
    refine zBI (T := tab) rfl rfl rfl rfl rfl rfl rfl ?_
    refine zDo (T := tab) (rows := [[.v (.bool r13.2.2), .v (.slice none 0 0), .v (.slice none 0 0), .v (.slice none 0 0), .v (.slice none 0 0)]]) 47 rfl rfl rfl rfl rfl rfl rfl rfl rfl rfl rfl rfl rfl rfl ?_
    refine zD8 900004 rfl rfl rfl ?_
    refine zD8 900005 rfl rfl rfl ?_
    refine zD8 900006 rfl rfl rfl ?_
    refine zD8 900007 rfl rfl rfl ?_
    refine zOs 900003 zAa c7.1 (⟨c8, l12⟩ : Hook) rfl rfl rfl rfl ?_
    refine zD8 900003 rfl rfl rfl ?_
    refine zOs 900001 zAI c4.1 (⟨c5, l9, l10, l11, (c7.1 ++ if c7.2 then [(⟨c8, l12⟩ : Hook)] else [])⟩ : Class) rfl rfl rfl rfl ?_
    refine zGT (T := tab) ((c4.1 ++ if c4.2 then [(⟨c5, l9, l10, l11, (c7.1 ++ if c7.2 then [(⟨c8, l12⟩ : Hook)] else [])⟩ : Class)] else []).map zAI) [[.v (.bool r13.2.2), .v (.slice none 0 0), .v (.slice none 0 0), .v (.slice none 0 0), .v (.slice none 0 0)]] (c4.1 ++ if c4.2 then [(⟨c5, l9, l10, l11, (c7.1 ++ if c7.2 then [(⟨c8, l12⟩ : Hook)] else [])⟩ : Class)] else []).length (by simp) rfl rfl rfl rfl rfl rfl rfl rfl rfl rfl rfl rfl rfl rfl rfl rfl rfl rfl rfl rfl ?_
    refine zLp 900001 rfl rfl rfl ?_
    refine zCu 900004 9 1 900001 2 rfl rfl rfl rfl rfl rfl ?_
    refine zCu 900005 43 7 900001 3 rfl rfl rfl rfl rfl rfl ?_
    refine zCu 900006 43 7 900001 4 rfl rfl rfl rfl rfl rfl ?_
    refine zCu 900003 54 2 900001 5 rfl rfl rfl rfl rfl rfl ?_
    refine zEl 900007 43 7 rfl rfl rfl ?_
    refine zN3 900003 [.v (.int .i64 0), .own 900007] rfl rfl rfl rfl ?_
    refine pe 3 ?_
    refine zAK (T := tab) rfl rfl rfl rfl rfl rfl rfl rfl rfl rfl rfl rfl ?_
    refine ns ?_
    refine zAE ?_
    refine zBD (E' := [(0, .loc 900000 0)]) (S' := [(900007, .arr 43 7 (([] : List Op).map cOp)), (900003, .box 54 [pfx 2 (([] : List Hook).map zAa) false, .v (.int .i64 0), .own 900007]), (900006, .arr 43 7 (([] : List Op).map cOp)), (900005, .arr 43 7 (([] : List Op).map cOp)), (900004, .arr 9 1 (([] : List Bs).map cStr)), (900001, .box 51 [pfx 5 ((c4.1 ++ if c4.2 then [(⟨c5, l9, l10, l11, (c7.1 ++ if c7.2 then [(⟨c8, l12⟩ : Hook)] else [])⟩ : Class)] else []).map zAI) true, .v (.bool r13.2.2), .own 900004, .own 900005, .own 900006, .own 900003]), (900000, .box 80 [.own 900001, .own 900002, .junk, .v (.int .i64 c3)]), (900002, .arr 43 7 (l6.map cOp))]) ?_ ⟨rfl, trivial⟩ ⟨rfl, rfl, rfl, rfl, rfl, rfl, rfl, rfl, trivial⟩ rfl
    refine zBM [0, 0, 2, 6, 14, 30, 0, 64, 192, 448, 960, 1984, 4032, 8190, 16382, 32767, 65535] mixed (by kernel_rfl) (by kernel_rfl) rfl rfl ?_
    refine ve [0] [104] [900000] [(52, .loc 900000 0)] ?_
    refine ve [0] [106] [900000] [(53, .loc 900000 0)] ?_
    refine ve [106] [108] [900000] [(54, .loc 900000 0)] ?_
    refine ve [108] [110] [900000] [(55, .loc 900000 0)] ?_
    refine ve [110] [112] [900000] [(56, .loc 900000 0)] ?_
    refine vf [112, 1800001] [114] [] [900000, 900001, 900002] [900000] [(57, .own 900001)] [(900000, .box 80 [.own 900001, .own 900002, .junk, .v (.int .i64 c3)])] ?_
    refine ve [0] [116] [900000] [(58, .loc 900000 0)] ?_
    refine ve [116] [118] [900000] [(59, .loc 900000 0)] ?_
    refine ve [118] [120] [900000] [(60, .loc 900000 0)] ?_
    refine ve [120] [122] [900000] [(61, .loc 900000 0)] ?_
    refine vf [122, 1800001] [124] [] [900000, 900001, 900002] [900000] [(62, .own 900001)] [(900000, .box 80 [.own 900001, .own 900002, .junk, .v (.int .i64 c3)])] ?_
    refine zAY [124, 1800003] [126] [] [900001, 900003, 900004, 900005, 900006] [900001] [(63, .v (.int .i64 (((c4.1 ++ if c4.2 then [(⟨c5, l9, l10, l11, (c7.1 ++ if c7.2 then [(⟨c8, l12⟩ : Hook)] else [])⟩ : Class)] else []).length + (if true then 1 else 0) : Nat) : Int)))] [(900001, .box 51 [pfx 5 ((c4.1 ++ if c4.2 then [(⟨c5, l9, l10, l11, (c7.1 ++ if c7.2 then [(⟨c8, l12⟩ : Hook)] else [])⟩ : Class)] else []).map zAI) true, .v (.bool r13.2.2), .own 900004, .own 900005, .own 900006, .own 900003])] rfl rfl rfl rfl (by kernel_rfl) (by kernel_rfl) (by kernel_rfl) ⟨rfl, trivial⟩ (fun w0 X X0 σ0 _ => by refine zDz (T := tab) (l := (c4.1 ++ if c4.2 then [(⟨c5, l9, l10, l11, (c7.1 ++ if c7.2 then [(⟨c8, l12⟩ : Hook)] else [])⟩ : Class)] else []).length) rfl rfl rfl rfl rfl rfl rfl (by simp) rfl rfl ?_; refine zAC ?_; exact zAz ⟨rfl, trivial⟩ ⟨rfl, trivial⟩ rfl) ?_
    refine zAj (M := (rng .i64 ((((c4.1 ++ if c4.2 then [(⟨c5, l9, l10, l11, (c7.1 ++ if c7.2 then [(⟨c8, l12⟩ : Hook)] else [])⟩ : Class)] else []).length + (if true then 1 else 0) : Nat) : Int) - 1))) (ment := [(128, [])]) [126] [128] [] [] [] (fun i15 => [(64, .v (.int .i64 i15))]) (fun i15 => []) rfl rfl (fun _ => rfl) (fun _ => rfl) (by kernel_rfl) (by kernel_rfl) (fun _ => by kernel_rfl) (fun _ => trivial) (fun w0 X X0 σ0 _ => by refine zAV (T := tab) rfl rfl rfl rfl fun i15 hi15 => ?_; refine zAC ?_; exact zBj ⟨rfl, trivial⟩ trivial rfl) fun i15 hi15 => ?_
    refine zAj (M := (zH7 ((c4.1 ++ if c4.2 then [(⟨c5, l9, l10, l11, (c7.1 ++ if c7.2 then [(⟨c8, l12⟩ : Hook)] else [])⟩ : Class)] else []).length) i15)) (ment := [(130, [900001])]) [114, 128, 1800003] [130] [] [900001, 900003, 900004, 900005, 900006] [900001] (fun _ => [(65, .ela 900001 5 ((c4.1 ++ if c4.2 then [(⟨c5, l9, l10, l11, (c7.1 ++ if c7.2 then [(⟨c8, l12⟩ : Hook)] else [])⟩ : Class)] else []).length) 0)]) (fun _ => [(900001, .box 51 [pfx 5 ((c4.1 ++ if c4.2 then [(⟨c5, l9, l10, l11, (c7.1 ++ if c7.2 then [(⟨c8, l12⟩ : Hook)] else [])⟩ : Class)] else []).map zAI) true, .v (.bool r13.2.2), .own 900004, .own 900005, .own 900006, .own 900003])]) rfl rfl (fun _ => rfl) (fun _ => rfl) (by kernel_rfl) (by kernel_rfl) (fun _ => by kernel_rfl) (fun _ => ⟨rfl, trivial⟩) (fun w0 X X0 σ0 _ => by refine zGd (T := tab) (l := ((c4.1 ++ if c4.2 then [(⟨c5, l9, l10, l11, (c7.1 ++ if c7.2 then [(⟨c8, l12⟩ : Hook)] else [])⟩ : Class)] else []).length)) (by simp) rfl rfl rfl rfl rfl rfl rfl rfl ?_; refine zAC ?_; exact zBj ⟨rfl, trivial⟩ ⟨rfl, trivial⟩ rfl) fun _ h0 => ?_
    refine ve [130] [132] [900001] [(66, .ela 900001 5 ((c4.1 ++ if c4.2 then [(⟨c5, l9, l10, l11, (c7.1 ++ if c7.2 then [(⟨c8, l12⟩ : Hook)] else [])⟩ : Class)] else []).length) 3)] ?_
    refine zAj (M := (zAX fu 60)) (ment := [(134, []), (1800001, [900001, 900002, 900001])]) [104, 132, 1800001, 1800003, 1800005, 1800007, 1800009, 1800011, 1800013, 1800015] [134, 1800001] [] [900000, 900001, 900002, 900003, 900004, 900005, 900006, 900007] [900001, 900002, 900003, 900004, 900005, 900006, 900007] (fun r16 => [(67, .v (.bool r16.1))]) (fun r16 => [(900000, .box 80 [.own 900001, .own 900002, .ela 900001 5 ((c4.1 ++ if c4.2 then [(⟨c5, l9, l10, l11, (c7.1 ++ if c7.2 then [(⟨c8, l12⟩ : Hook)] else [])⟩ : Class)] else []).length) 3, .v (.int .i64 r16.2)]), (900001, .box 51 [pfx 5 ((c4.1 ++ if c4.2 then [(⟨c5, l9, l10, l11, (c7.1 ++ if c7.2 then [(⟨c8, l12⟩ : Hook)] else [])⟩ : Class)] else []).map zAI) true, .v (.bool r13.2.2), .own 900004, .own 900005, .own 900006, .own 900003]), (900002, .arr 43 7 (l6.map cOp)), (900003, .box 54 [pfx 2 (([] : List Hook).map zAa) false, .v (.int .i64 0), .own 900007]), (900004, .arr 9 1 (([] : List Bs).map cStr)), (900005, .arr 43 7 (([] : List Op).map cOp)), (900006, .arr 43 7 (([] : List Op).map cOp)), (900007, .arr 43 7 (([] : List Op).map cOp))]) rfl rfl (fun _ => rfl) (fun _ => rfl) (by kernel_rfl) (by kernel_rfl) (fun _ => by kernel_rfl) (fun _ => ⟨rfl, rfl, rfl, rfl, rfl, rfl, rfl, trivial⟩) (fun w0 X X0 σ0 _ => by refine zAh [] (enc := fun (r16 : (Bool × Int)) => .v (.bool r16.1)) (Sr := fun (r16 : (Bool × Int)) => [(900000, .box 80 [.own 900001, .own 900002, .ela 900001 5 ((c4.1 ++ if c4.2 then [(⟨c5, l9, l10, l11, (c7.1 ++ if c7.2 then [(⟨c8, l12⟩ : Hook)] else [])⟩ : Class)] else []).length) 3, .v (.int .i64 r16.2)]), (900001, .box 51 [pfx 5 ((c4.1 ++ if c4.2 then [(⟨c5, l9, l10, l11, (c7.1 ++ if c7.2 then [(⟨c8, l12⟩ : Hook)] else [])⟩ : Class)] else []).map zAI) true, .v (.bool r13.2.2), .own 900004, .own 900005, .own 900006, .own 900003]), (900002, .arr 43 7 (l6.map cOp)), (900004, .arr 9 1 (([] : List Bs).map cStr)), (900005, .arr 43 7 (([] : List Op).map cOp)), (900006, .arr 43 7 (([] : List Op).map cOp)), (900003, .box 54 [pfx 2 (([] : List Hook).map zAa) false, .v (.int .i64 0), .own 900007]), (900007, .arr 43 7 (([] : List Op).map cOp))]) (first := []) (cap := []) (qs := [.loc 900000 0, .ela 900001 5 ((c4.1 ++ if c4.2 then [(⟨c5, l9, l10, l11, (c7.1 ++ if c7.2 then [(⟨c8, l12⟩ : Hook)] else [])⟩ : Class)] else []).length) 3, .v (.int .i64 60)]) (Sc := [(900000, .box 80 [.own 900001, .own 900002, .junk, .v (.int .i64 c3)]), (900001, .box 51 [pfx 5 ((c4.1 ++ if c4.2 then [(⟨c5, l9, l10, l11, (c7.1 ++ if c7.2 then [(⟨c8, l12⟩ : Hook)] else [])⟩ : Class)] else []).map zAI) true, .v (.bool r13.2.2), .own 900004, .own 900005, .own 900006, .own 900003]), (900002, .arr 43 7 (l6.map cOp)), (900004, .arr 9 1 (([] : List Bs).map cStr)), (900005, .arr 43 7 (([] : List Op).map cOp)), (900006, .arr 43 7 (([] : List Op).map cOp)), (900003, .box 54 [pfx 2 (([] : List Hook).map zAa) false, .v (.int .i64 0), .own 900007]), (900007, .arr 43 7 (([] : List Op).map cOp))]) (N0 := [900000, 900001, 900002, 900004, 900005, 900006, 900003, 900007]) (NR := [900000, 900001, 900002, 900004, 900005, 900006, 900003, 900007]) (fun r16 hr16 => zA5 [(900000, 900000), (900001, 900001), (900002, 900002), (900003, 900004), (900004, 900005), (900005, 900006), (900006, 900003), (900007, 900007)] [900000, 900001, 900002, 900003, 900004, 900005, 900006, 900007] (zEb fu ((c4.1 ++ if c4.2 then [(⟨c5, l9, l10, l11, (c7.1 ++ if c7.2 then [(⟨c8, l12⟩ : Hook)] else [])⟩ : Class)] else []).length) 60 c3 ((c4.1 ++ if c4.2 then [(⟨c5, l9, l10, l11, (c7.1 ++ if c7.2 then [(⟨c8, l12⟩ : Hook)] else [])⟩ : Class)] else []), true) r13.2.2 l6 ([] : List Bs) ([] : List Op) ([] : List Op) (([] : List Hook), false) 0 ([] : List Op) _ hr16) rfl rfl rfl rfl rfl rfl) ⟨rfl, rfl, rfl, rfl, rfl, rfl, rfl, rfl, trivial⟩ (fun _ => rfl) rfl rfl rfl rfl rfl rfl rfl (fun _ => rfl) (fun _ => rfl) rfl rfl rfl ⟨⟨_, rfl, .rfl⟩, ⟨_, rfl, .rfl⟩, ⟨_, rfl, .rfl⟩, trivial⟩ zIa rfl rfl fun r16 hr16 => ?_; refine zAC ?_; exact zBj ⟨rfl, trivial⟩ ⟨rfl, rfl, rfl, rfl, rfl, rfl, rfl, rfl, trivial⟩ rfl) fun r16 hr16 => ?_
    refine ve [134] [8] [] [(4, .v (.bool r16.1))] ?_
    refine zBr rfl rfl ?_
    refine zAB ?_
    refine zD4 900000 [.own 900001, .own 900002, .sel 2 [.loc 900000 1, .ela 900001 5 ((c4.1 ++ if c4.2 then [(⟨c5, l9, l10, l11, (c7.1 ++ if c7.2 then [(⟨c8, l12⟩ : Hook)] else [])⟩ : Class)] else []).length) 2, .ela 900001 5 ((c4.1 ++ if c4.2 then [(⟨c5, l9, l10, l11, (c7.1 ++ if c7.2 then [(⟨c8, l12⟩ : Hook)] else [])⟩ : Class)] else []).length) 3, .ela 900003 2 (([] : List Hook).length) 1], .v (.int .i64 r16.2)] rfl ⟨.rfl, .rfl, (.sel rfl rfl), .rfl, trivial⟩ rfl ?_
    exact rN
  ·refine pe 3 ?_
   refine zAN (j := 28) rfl ?_ ?_
   ·refine pe 3 ?_
    refine zAC ?_
    refine zAB (zBC rfl ?_)
    exact zBD (hj1 ()) ⟨rfl, rfl, trivial⟩ ⟨rfl, rfl, rfl, rfl, rfl, rfl, rfl, rfl, trivial⟩ rfl
   ·refine pe 3 ?_
    refine ns ?_
    refine zAR rfl ?_ ?_
    ·exact zBD (hj1 ()) ⟨rfl, rfl, trivial⟩ ⟨rfl, rfl, rfl, rfl, rfl, rfl, rfl, rfl, trivial⟩ rfl
    ·refine zAG ?_
     refine zAB ?_
     refine zAE ?_
     refine sr ?_
     refine pe 5 ?_
     refine zDz (T := tab) (l := c4.1.length) rfl rfl rfl rfl rfl rfl rfl (by simp) rfl rfl ?_
     refine pe 1 ?_
     refine ns ?_
     refine zAR rfl ?_ ?_
     ·refine sr ?_
      refine pe 1 ?_
      refine ns ?_
      exact rN
     ·refine zAG ?_
      refine zAB ?_
      refine zAE ?_
      refine zBD (E' := [(0, .loc 900000 0), (1, .v (.string ⟨⟨s1⟩⟩)), (4, .v (.bool false)), (13, .v (.string ⟨⟨s1⟩⟩)), (14, .tup [.v (.string ⟨⟨r13.1⟩⟩), .v (.string ⟨⟨r13.2.1⟩⟩), .v (.bool r13.2.2)]), (12, .tup [.v (.string ⟨⟨r13.1⟩⟩), .v (.string ⟨⟨r13.2.1⟩⟩), .v (.bool r13.2.2)]), (15, .v (.string ⟨⟨r13.1⟩⟩)), (16, .v (.string ⟨⟨r13.2.1⟩⟩)), (17, .v (.bool r13.2.2)), (5, .v (.string ⟨⟨r13.1⟩⟩)), (6, .v (.string ⟨⟨r13.2.1⟩⟩)), (7, .v (.bool r13.2.2)), (18, .v (.string ⟨⟨s1⟩⟩)), (19, .v (.bool (s1 == ([109, 97, 105, 110] : Bs)))), (26, .v (.string ⟨⟨s1⟩⟩)), (27, .v (.bool (s1 == ([99, 108, 97, 115, 115] : Bs)))), (28, .v (.bool false)), (29, .v (.string ⟨⟨s1⟩⟩)), (30, .v (.bool (s1 == ([99, 108, 97, 115, 115, 32, 102, 111, 114, 109] : Bs)))), (31, .v (.bool (s1 == ([99, 108, 97, 115, 115, 32, 102, 111, 114, 109] : Bs)))), (68, .loc 900000 0), (69, .loc 900000 0), (70, .loc 900000 0), (71, .loc 900000 0), (72, .own 900001), (73, .v (.int .i64 ((c4.1.length + (if c4.2 then 1 else 0) : Nat) : Int))), (74, .v (.bool (((c4.1.length + (if c4.2 then 1 else 0) : Nat) : Int) == 0)))]) (S' := [(900000, .box 80 [.own 900001, .own 900002, .sel k2 [.loc 900000 1, .ela 900001 5 (c4.1.length) 2, .ela 900001 5 (c4.1.length) 3, .ela 900003 2 (c7.1.length) 1], .v (.int .i64 c3)]), (900001, .box 51 [pfx 5 (c4.1.map zAI) c4.2, .v (.bool c5), .own 900004, .own 900005, .own 900006, .own 900003]), (900002, .arr 43 7 (l6.map cOp)), (900003, .box 54 [pfx 2 (c7.1.map zAa) c7.2, .v (.int .i64 c8), .own 900007]), (900004, .arr 9 1 (l9.map cStr)), (900005, .arr 43 7 (l10.map cOp)), (900006, .arr 43 7 (l11.map cOp)), (900007, .arr 43 7 (l12.map cOp))]) ?_ ⟨rfl, rfl, rfl, rfl, rfl, rfl, rfl, rfl, rfl, rfl, rfl, rfl, rfl, rfl, rfl, rfl, rfl, rfl, rfl, rfl, rfl, rfl, rfl, rfl, rfl, rfl, rfl, trivial⟩ ⟨rfl, rfl, rfl, rfl, rfl, rfl, rfl, rfl, trivial⟩ rfl
      refine zLu (fun b_ => [(0, .loc 900000 0), (1, .v (.string ⟨⟨s1⟩⟩)), (4, .v (.bool false)), (13, .v (.string ⟨⟨s1⟩⟩)), (14, .tup [.v (.string ⟨⟨r13.1⟩⟩), .v (.string ⟨⟨r13.2.1⟩⟩), .v (.bool r13.2.2)]), (12, .tup [.v (.string ⟨⟨r13.1⟩⟩), .v (.string ⟨⟨r13.2.1⟩⟩), .v (.bool r13.2.2)]), (15, .v (.string ⟨⟨r13.1⟩⟩)), (16, .v (.string ⟨⟨r13.2.1⟩⟩)), (17, .v (.bool r13.2.2)), (5, .v (.string ⟨⟨r13.1⟩⟩)), (6, .v (.string ⟨⟨r13.2.1⟩⟩)), (7, .v (.bool r13.2.2)), (18, .v (.string ⟨⟨s1⟩⟩)), (19, .v (.bool (s1 == ([109, 97, 105, 110] : Bs)))), (26, .v (.string ⟨⟨s1⟩⟩)), (27, .v (.bool (s1 == ([99, 108, 97, 115, 115] : Bs)))), (28, .v (.bool false)), (29, .v (.string ⟨⟨s1⟩⟩)), (30, .v (.bool (s1 == ([99, 108, 97, 115, 115, 32, 102, 111, 114, 109] : Bs)))), (31, .v (.bool (s1 == ([99, 108, 97, 115, 115, 32, 102, 111, 114, 109] : Bs)))), (68, .loc 900000 0), (69, .loc 900000 0), (70, .loc 900000 0), (71, .loc 900000 0), (72, .own 900001), (73, .v (.int .i64 ((c4.1.length + (if b_ then 1 else 0) : Nat) : Int))), (74, .v (.bool (((c4.1.length + (if b_ then 1 else 0) : Nat) : Int) == 0)))]) (fun b_ => [(900000, .box 80 [.own 900001, .own 900002, .sel k2 [.loc 900000 1, .ela 900001 5 (c4.1.length) 2, .ela 900001 5 (c4.1.length) 3, .ela 900003 2 (c7.1.length) 1], .v (.int .i64 c3)]), (900001, .box 51 [pfx 5 (c4.1.map zAI) b_, .v (.bool c5), .own 900004, .own 900005, .own 900006, .own 900003]), (900002, .arr 43 7 (l6.map cOp)), (900003, .box 54 [pfx 2 (c7.1.map zAa) c7.2, .v (.int .i64 c8), .own 900007]), (900004, .arr 9 1 (l9.map cStr)), (900005, .arr 43 7 (l10.map cOp)), (900006, .arr 43 7 (l11.map cOp)), (900007, .arr 43 7 (l12.map cOp))]) c4.2 ?_
      refine zBD (E' := [(0, .loc 900000 0), (1, .v (.string ⟨⟨s1⟩⟩)), (5, .v (.string ⟨⟨r13.1⟩⟩)), (6, .v (.string ⟨⟨r13.2.1⟩⟩)), (7, .v (.bool r13.2.2))]) (S' := [(900000, .box 80 [.own 900001, .own 900002, .sel k2 [.loc 900000 1, .ela 900001 5 (c4.1.length) 2, .ela 900001 5 (c4.1.length) 3, .ela 900003 2 (c7.1.length) 1], .v (.int .i64 c3)]), (900001, .box 51 [pfx 5 (c4.1.map zAI) true, .v (.bool c5), .own 900004, .own 900005, .own 900006, .own 900003]), (900002, .arr 43 7 (l6.map cOp)), (900003, .box 54 [pfx 2 (c7.1.map zAa) c7.2, .v (.int .i64 c8), .own 900007]), (900004, .arr 9 1 (l9.map cStr)), (900005, .arr 43 7 (l10.map cOp)), (900006, .arr 43 7 (l11.map cOp)), (900007, .arr 43 7 (l12.map cOp))]) ?_ ⟨rfl, rfl, rfl, rfl, rfl, trivial⟩ ⟨rfl, rfl, rfl, rfl, rfl, rfl, rfl, rfl, trivial⟩ rfl
      refine zBM [0, 1, 3, 7, 15, 0, 32, 96, 224, 480, 992, 2016, 4095, 8191] mixed (by kernel_rfl) (by kernel_rfl) rfl rfl ?_
      refine ve [0] [150] [900000] [(75, .loc 900000 0)] ?_
      refine ve [150] [152] [900000] [(76, .loc 900000 0)] ?_
      refine ve [152] [154] [900000] [(77, .loc 900000 0)] ?_
      refine ve [154] [156] [900000] [(78, .loc 900000 0)] ?_
      refine vf [156, 1800001] [158] [] [900000, 900001, 900002, 900003] [900000] [(79, .own 900001)] [(900000, .box 80 [.own 900001, .own 900002, .sel k2 [.loc 900000 1, .ela 900001 5 (c4.1.length) 2, .ela 900001 5 (c4.1.length) 3, .ela 900003 2 (c7.1.length) 1], .v (.int .i64 c3)])] ?_
      refine ve [0] [160] [900000] [(80, .loc 900000 0)] ?_
      refine ve [160] [162] [900000] [(81, .loc 900000 0)] ?_
      refine ve [162] [164] [900000] [(82, .loc 900000 0)] ?_
      refine ve [164] [166] [900000] [(83, .loc 900000 0)] ?_
      refine vf [166, 1800001] [168] [] [900000, 900001, 900002, 900003] [900000] [(84, .own 900001)] [(900000, .box 80 [.own 900001, .own 900002, .sel k2 [.loc 900000 1, .ela 900001 5 (c4.1.length) 2, .ela 900001 5 (c4.1.length) 3, .ela 900003 2 (c7.1.length) 1], .v (.int .i64 c3)])] ?_
      refine zAY [168, 1800003] [170] [] [900001, 900003, 900004, 900005, 900006] [900001] [(85, .v (.int .i64 ((c4.1.length + (if true then 1 else 0) : Nat) : Int)))] [(900001, .box 51 [pfx 5 (c4.1.map zAI) true, .v (.bool c5), .own 900004, .own 900005, .own 900006, .own 900003])] rfl rfl rfl rfl (by kernel_rfl) (by kernel_rfl) (by kernel_rfl) ⟨rfl, trivial⟩ (fun w0 X X0 σ0 _ => by refine zDz (T := tab) (l := c4.1.length) rfl rfl rfl rfl rfl rfl rfl (by simp) rfl rfl ?_; refine zAC ?_; exact zAz ⟨rfl, trivial⟩ ⟨rfl, trivial⟩ rfl) ?_
      refine zAj (M := (rng .i64 (((c4.1.length + (if true then 1 else 0) : Nat) : Int) - 1))) (ment := [(172, [])]) [170] [172] [] [] [] (fun i17 => [(86, .v (.int .i64 i17))]) (fun i17 => []) rfl rfl (fun _ => rfl) (fun _ => rfl) (by kernel_rfl) (by kernel_rfl) (fun _ => by kernel_rfl) (fun _ => trivial) (fun w0 X X0 σ0 _ => by refine zAV (T := tab) rfl rfl rfl rfl fun i17 hi17 => ?_; refine zAC ?_; exact zBj ⟨rfl, trivial⟩ trivial rfl) fun i17 hi17 => ?_
      refine zAj (M := (zH7 (c4.1.length) i17)) (ment := [(174, [900001])]) [158, 172, 1800003] [174] [] [900001, 900003, 900004, 900005, 900006] [900001] (fun _ => [(87, .ela 900001 5 (c4.1.length) 0)]) (fun _ => [(900001, .box 51 [pfx 5 (c4.1.map zAI) true, .v (.bool c5), .own 900004, .own 900005, .own 900006, .own 900003])]) rfl rfl (fun _ => rfl) (fun _ => rfl) (by kernel_rfl) (by kernel_rfl) (fun _ => by kernel_rfl) (fun _ => ⟨rfl, trivial⟩) (fun w0 X X0 σ0 _ => by refine zGd (T := tab) (l := (c4.1.length)) (by simp) rfl rfl rfl rfl rfl rfl rfl rfl ?_; refine zAC ?_; exact zBj ⟨rfl, trivial⟩ ⟨rfl, trivial⟩ rfl) fun _ h0 => ?_
      refine ve [174] [16] [900001] [(8, .ela 900001 5 (c4.1.length) 0)] ?_
      refine zBr rfl rfl ?_
      refine zAB ?_
      refine zAE ?_
      refine zAP ?_
      refine sr ?_
      refine pe 3 ?_
      refine ns ?_
      refine zAR rfl ?_ ?_
      ·refine sr ?_
       refine pe 4 ?_
       refine zAh [] (enc := fun (r18 : (Bool × Int)) => .v (.bool r18.1)) (Sr := fun (r18 : (Bool × Int)) => [(900000, .box 80 [.own 900001, .own 900002, .ela 900001 5 (c4.1.length) 2, .v (.int .i64 r18.2)]), (900001, .box 51 [pfx 5 (c4.1.map zAI) true, .v (.bool c5), .own 900004, .own 900005, .own 900006, .own 900003]), (900002, .arr 43 7 (l6.map cOp)), (900003, .box 54 [pfx 2 (c7.1.map zAa) c7.2, .v (.int .i64 c8), .own 900007]), (900004, .arr 9 1 (l9.map cStr)), (900005, .arr 43 7 (l10.map cOp)), (900006, .arr 43 7 (l11.map cOp)), (900007, .arr 43 7 (l12.map cOp))]) (first := []) (cap := []) (qs := [.loc 900000 0, .ela 900001 5 (c4.1.length) 2, .v (.int .i64 60)]) (Sc := [(900000, .box 80 [.own 900001, .own 900002, .sel k2 [.loc 900000 1, .ela 900001 5 (c4.1.length) 2, .ela 900001 5 (c4.1.length) 3, .ela 900003 2 (c7.1.length) 1], .v (.int .i64 c3)]), (900001, .box 51 [pfx 5 (c4.1.map zAI) true, .v (.bool c5), .own 900004, .own 900005, .own 900006, .own 900003]), (900002, .arr 43 7 (l6.map cOp)), (900003, .box 54 [pfx 2 (c7.1.map zAa) c7.2, .v (.int .i64 c8), .own 900007]), (900004, .arr 9 1 (l9.map cStr)), (900005, .arr 43 7 (l10.map cOp)), (900006, .arr 43 7 (l11.map cOp)), (900007, .arr 43 7 (l12.map cOp))]) (N0 := [900000, 900001, 900002, 900003, 900004, 900005, 900006, 900007]) (NR := [900000, 900001, 900002, 900003, 900004, 900005, 900006, 900007]) (fun r18 hr18 => zA5 [(900000, 900000), (900001, 900001), (900002, 900002), (900003, 900003), (900004, 900004), (900005, 900005), (900006, 900006), (900007, 900007)] [900000, 900001, 900002, 900003, 900004, 900005, 900006, 900007] (zEY fu (c4.1.length) 60 k2 c3 (c4.1, true) c5 l6 c7 c8 l9 l10 l11 l12 _ hr18) rfl rfl rfl rfl rfl rfl) ⟨rfl, rfl, rfl, rfl, rfl, rfl, rfl, rfl, trivial⟩ (fun _ => rfl) rfl rfl rfl rfl rfl rfl rfl (fun _ => rfl) (fun _ => rfl) rfl rfl rfl ⟨⟨_, rfl, .rfl⟩, ⟨_, rfl, .rfl⟩, ⟨_, rfl, .rfl⟩, trivial⟩ zIa rfl rfl fun r18 hr18 => ?_
       refine pe 1 ?_
       refine ns ?_
       refine zD4 900000 [.own 900001, .own 900002, .sel 1 [.loc 900000 1, .ela 900001 5 (c4.1.length) 2, .ela 900001 5 (c4.1.length) 3, .ela 900003 2 (c7.1.length) 1], .v (.int .i64 r18.2)] rfl ⟨.rfl, .rfl, (.sel rfl rfl), .rfl, trivial⟩ rfl ?_
       exact rN
      ·refine sr ?_
       refine pe 3 ?_
       refine ns ?_
       refine zAR rfl ?_ ?_
       ·refine sr ?_
        refine pe 4 ?_
        refine zAh [] (enc := fun (r19 : (Bool × Int)) => .v (.bool r19.1)) (Sr := fun (r19 : (Bool × Int)) => [(900000, .box 80 [.own 900001, .own 900002, .ela 900001 5 (c4.1.length) 3, .v (.int .i64 r19.2)]), (900001, .box 51 [pfx 5 (c4.1.map zAI) true, .v (.bool c5), .own 900004, .own 900005, .own 900006, .own 900003]), (900002, .arr 43 7 (l6.map cOp)), (900003, .box 54 [pfx 2 (c7.1.map zAa) c7.2, .v (.int .i64 c8), .own 900007]), (900004, .arr 9 1 (l9.map cStr)), (900005, .arr 43 7 (l10.map cOp)), (900006, .arr 43 7 (l11.map cOp)), (900007, .arr 43 7 (l12.map cOp))]) (first := []) (cap := []) (qs := [.loc 900000 0, .ela 900001 5 (c4.1.length) 3, .v (.int .i64 60)]) (Sc := [(900000, .box 80 [.own 900001, .own 900002, .sel k2 [.loc 900000 1, .ela 900001 5 (c4.1.length) 2, .ela 900001 5 (c4.1.length) 3, .ela 900003 2 (c7.1.length) 1], .v (.int .i64 c3)]), (900001, .box 51 [pfx 5 (c4.1.map zAI) true, .v (.bool c5), .own 900004, .own 900005, .own 900006, .own 900003]), (900002, .arr 43 7 (l6.map cOp)), (900003, .box 54 [pfx 2 (c7.1.map zAa) c7.2, .v (.int .i64 c8), .own 900007]), (900004, .arr 9 1 (l9.map cStr)), (900005, .arr 43 7 (l10.map cOp)), (900006, .arr 43 7 (l11.map cOp)), (900007, .arr 43 7 (l12.map cOp))]) (N0 := [900000, 900001, 900002, 900003, 900004, 900005, 900006, 900007]) (NR := [900000, 900001, 900002, 900003, 900004, 900005, 900006, 900007]) (fun r19 hr19 => zA5 [(900000, 900000), (900001, 900001), (900002, 900002), (900003, 900003), (900004, 900004), (900005, 900005), (900006, 900006), (900007, 900007)] [900000, 900001, 900002, 900003, 900004, 900005, 900006, 900007] (zEg fu (c4.1.length) 60 k2 c3 (c4.1, true) c5 l6 c7 c8 l9 l10 l11 l12 _ hr19) rfl rfl rfl rfl rfl rfl) ⟨rfl, rfl, rfl, rfl, rfl, rfl, rfl, rfl, trivial⟩ (fun _ => rfl) rfl rfl rfl rfl rfl rfl rfl (fun _ => rfl) (fun _ => rfl) rfl rfl rfl ⟨⟨_, rfl, .rfl⟩, ⟨_, rfl, .rfl⟩, ⟨_, rfl, .rfl⟩, trivial⟩ zIa rfl rfl fun r19 hr19 => ?_
        refine pe 1 ?_
        refine ns ?_
        refine zD4 900000 [.own 900001, .own 900002, .sel 2 [.loc 900000 1, .ela 900001 5 (c4.1.length) 2, .ela 900001 5 (c4.1.length) 3, .ela 900003 2 (c7.1.length) 1], .v (.int .i64 r19.2)] rfl ⟨.rfl, .rfl, (.sel rfl rfl), .rfl, trivial⟩ rfl ?_
        exact rN
       ·refine sr ?_
        refine zPY (zBi fu k2 c3 c4 c5 c7 c8 l9 l10 l11 l12 r13) (fun (_ : Unit) => [(0, .loc 900000 0), (5, .v (.string ⟨⟨r13.1⟩⟩)), (6, .v (.string ⟨⟨r13.2.1⟩⟩)), (7, .v (.bool r13.2.2)), (8, .ela 900001 5 (c4.1.length) 0)]) (fun (_ : Unit) => [(900000, .box 80 [.own 900001, .own 900002, .sel k2 [.loc 900000 1, .ela 900001 5 (c4.1.length) 2, .ela 900001 5 (c4.1.length) 3, .ela 900003 2 (c7.1.length) 1], .v (.int .i64 c3)]), (900001, .box 51 [pfx 5 (c4.1.map zAI) true, .v (.bool c5), .own 900004, .own 900005, .own 900006, .own 900003]), (900002, .arr 43 7 (l6.map cOp)), (900003, .box 54 [pfx 2 (c7.1.map zAa) c7.2, .v (.int .i64 c8), .own 900007]), (900004, .arr 9 1 (l9.map cStr)), (900005, .arr 43 7 (l10.map cOp)), (900006, .arr 43 7 (l11.map cOp)), (900007, .arr 43 7 (l12.map cOp))]) ?_ fun hj2 => ?_
        ·rintro _
         refine sr ?_
         refine pe 3 ?_
         refine zAN (j := 143) rfl ?_ ?_
         ·refine pe 3 ?_
          refine ns ?_
          refine zAR rfl ?_ ?_
          ·refine sr ?_
           refine zAM (enc := fun (r21 : (List Bs)) => .sl 1 false (r21.map cStr)) (qs := []) (zFI fu) rfl rfl trivial (fun _ => rfl) zQt rfl rfl fun r21 hr21 => ?_
           refine pe 1 ?_
           refine zAM (enc := fun (r22 : Int) => .v (.int .i64 r22)) (qs := [.sl 1 false (r21.map cStr), .v (.string ⟨⟨r13.2.1⟩⟩)]) (zDL fu r21 r13.2.1) rfl rfl ⟨⟨_, rfl, .rfl⟩, ⟨_, rfl, .rfl⟩, trivial⟩ (fun _ => rfl) zQr rfl rfl fun r22 hr22 => ?_
           refine pe 1 ?_
           refine ns ?_
           refine zAE ?_
           refine sr ?_
           refine pe 3 ?_
           refine zAN (j := 151) rfl ?_ ?_
           ·refine pe 7 ?_
            refine zAC ?_
            refine zAB (zBC rfl ?_)
            refine sr ?_
            refine pe 1 ?_
            refine ns ?_
            exact rN
           ·refine pe 3 ?_
            refine zBq (T := tab) (by simp) rfl rfl rfl rfl rfl rfl rfl rfl ?_
            refine zDz (T := tab) (l := c7.1.length) rfl rfl rfl rfl rfl rfl rfl (by simp) rfl rfl ?_
            refine pe 2 ?_
            refine ns ?_
            refine zAR rfl ?_ ?_
            ·refine sr ?_
             refine pe 1 ?_
             refine ns ?_
             exact rN
            ·refine zAG ?_
             refine zAB ?_
             refine sr ?_
             refine pe 4 ?_
             refine zBq (T := tab) (by simp) rfl rfl rfl rfl rfl rfl rfl rfl ?_
             refine pe 1 ?_
             refine zBI (T := tab) rfl rfl rfl rfl rfl rfl rfl ?_
             refine zDo (T := tab) (rows := [[.v (.int .i64 r22), .v (.slice none 0 0)]]) 166 rfl rfl rfl rfl rfl rfl rfl rfl rfl rfl rfl rfl rfl rfl ?_
             refine zD8 900007 rfl rfl rfl ?_
             refine zOs 900003 zAa c7.1 (⟨c8, l12⟩ : Hook) rfl rfl rfl rfl ?_
             refine zGT (T := tab) ((c7.1 ++ if c7.2 then [(⟨c8, l12⟩ : Hook)] else []).map zAa) [[.v (.int .i64 r22), .v (.slice none 0 0)]] (c7.1 ++ if c7.2 then [(⟨c8, l12⟩ : Hook)] else []).length (by simp) rfl rfl rfl rfl rfl rfl rfl rfl rfl rfl rfl rfl rfl rfl rfl rfl rfl rfl rfl rfl ?_
             refine zLp 900003 rfl rfl rfl ?_
             refine zCu 900007 43 7 900003 2 rfl rfl rfl rfl rfl rfl ?_
             refine pe 2 ?_
             refine zDg (T := tab) (by simp) rfl rfl rfl rfl rfl rfl rfl rfl rfl rfl rfl rfl ?_
             refine ns ?_
             refine zAE ?_
             refine zBD (E' := [(0, .loc 900000 0), (8, .ela 900001 5 (c4.1.length) 0)]) (S' := [(900007, .arr 43 7 (([] : List Op).map cOp)), (900003, .box 54 [pfx 2 ((c7.1 ++ if c7.2 then [(⟨c8, l12⟩ : Hook)] else []).map zAa) true, .v (.int .i64 r22), .own 900007]), (900000, .box 80 [.own 900001, .own 900002, .junk, .v (.int .i64 c3)]), (900001, .box 51 [pfx 5 (c4.1.map zAI) true, .v (.bool c5), .own 900004, .own 900005, .own 900006, .own 900003]), (900002, .arr 43 7 (l6.map cOp)), (900004, .arr 9 1 (l9.map cStr)), (900005, .arr 43 7 (l10.map cOp)), (900006, .arr 43 7 (l11.map cOp))]) ?_ ⟨rfl, rfl, trivial⟩ ⟨rfl, rfl, rfl, rfl, rfl, rfl, rfl, rfl, trivial⟩ rfl
             refine zBM [0, 0, 2, 6, 14, 0, 32, 96, 224, 480, 992, 2046, 4094, 8191, 16383] mixed (by kernel_rfl) (by kernel_rfl) rfl rfl ?_
             refine ve [0] [340] [900000] [(170, .loc 900000 0)] ?_
             refine ve [16] [342] [900001] [(171, .ela 900001 5 (c4.1.length) 0)] ?_
             refine ve [342] [344] [900001] [(172, .ela 900001 5 (c4.1.length) 0)] ?_
             refine ve [344] [346] [900001] [(173, .ela 900001 5 (c4.1.length) 4)] ?_
             refine zAY [346, 1800003] [348] [] [900001, 900003, 900004, 900005, 900006] [900001] [(174, .own 900003)] [(900001, .box 51 [pfx 5 (c4.1.map zAI) true, .v (.bool c5), .own 900004, .own 900005, .own 900006, .own 900003])] rfl rfl rfl rfl (by kernel_rfl) (by kernel_rfl) (by kernel_rfl) ⟨rfl, trivial⟩ (fun w0 X X0 σ0 _ => by refine zBq (T := tab) (by simp) rfl rfl rfl rfl rfl rfl rfl rfl ?_; refine zAC ?_; exact zAz ⟨rfl, trivial⟩ ⟨rfl, trivial⟩ rfl) ?_
             refine ve [16] [350] [900001] [(175, .ela 900001 5 (c4.1.length) 0)] ?_
             refine ve [350] [352] [900001] [(176, .ela 900001 5 (c4.1.length) 0)] ?_
             refine ve [352] [354] [900001] [(177, .ela 900001 5 (c4.1.length) 4)] ?_
             refine zAY [354, 1800003] [356] [] [900001, 900003, 900004, 900005, 900006] [900001] [(178, .own 900003)] [(900001, .box 51 [pfx 5 (c4.1.map zAI) true, .v (.bool c5), .own 900004, .own 900005, .own 900006, .own 900003])] rfl rfl rfl rfl (by kernel_rfl) (by kernel_rfl) (by kernel_rfl) ⟨rfl, trivial⟩ (fun w0 X X0 σ0 _ => by refine zBq (T := tab) (by simp) rfl rfl rfl rfl rfl rfl rfl rfl ?_; refine zAC ?_; exact zAz ⟨rfl, trivial⟩ ⟨rfl, trivial⟩ rfl) ?_
             refine zAY [356, 1800007] [358] [] [900003, 900007] [900003] [(179, .v (.int .i64 (((c7.1 ++ if c7.2 then [(⟨c8, l12⟩ : Hook)] else []).length + (if true then 1 else 0) : Nat) : Int)))] [(900003, .box 54 [pfx 2 ((c7.1 ++ if c7.2 then [(⟨c8, l12⟩ : Hook)] else []).map zAa) true, .v (.int .i64 r22), .own 900007])] rfl rfl rfl rfl (by kernel_rfl) (by kernel_rfl) (by kernel_rfl) ⟨rfl, trivial⟩ (fun w0 X X0 σ0 _ => by refine zDz (T := tab) (l := (c7.1 ++ if c7.2 then [(⟨c8, l12⟩ : Hook)] else []).length) rfl rfl rfl rfl rfl rfl rfl (by simp) rfl rfl ?_; refine zAC ?_; exact zAz ⟨rfl, trivial⟩ ⟨rfl, trivial⟩ rfl) ?_
             refine zAj (M := (rng .i64 ((((c7.1 ++ if c7.2 then [(⟨c8, l12⟩ : Hook)] else []).length + (if true then 1 else 0) : Nat) : Int) - 1))) (ment := [(360, [])]) [358] [360] [] [] [] (fun i23 => [(180, .v (.int .i64 i23))]) (fun i23 => []) rfl rfl (fun _ => rfl) (fun _ => rfl) (by kernel_rfl) (by kernel_rfl) (fun _ => by kernel_rfl) (fun _ => trivial) (fun w0 X X0 σ0 _ => by refine zAV (T := tab) rfl rfl rfl rfl fun i23 hi23 => ?_; refine zAC ?_; exact zBj ⟨rfl, trivial⟩ trivial rfl) fun i23 hi23 => ?_
             refine zAj (M := (zH7 ((c7.1 ++ if c7.2 then [(⟨c8, l12⟩ : Hook)] else []).length) i23)) (ment := [(362, [900003])]) [348, 360, 1800007] [362] [] [900003, 900007] [900003] (fun _ => [(181, .ela 900003 2 ((c7.1 ++ if c7.2 then [(⟨c8, l12⟩ : Hook)] else []).length) 0)]) (fun _ => [(900003, .box 54 [pfx 2 ((c7.1 ++ if c7.2 then [(⟨c8, l12⟩ : Hook)] else []).map zAa) true, .v (.int .i64 r22), .own 900007])]) rfl rfl (fun _ => rfl) (fun _ => rfl) (by kernel_rfl) (by kernel_rfl) (fun _ => by kernel_rfl) (fun _ => ⟨rfl, trivial⟩) (fun w0 X X0 σ0 _ => by refine zGd (T := tab) (l := ((c7.1 ++ if c7.2 then [(⟨c8, l12⟩ : Hook)] else []).length)) (by simp) rfl rfl rfl rfl rfl rfl rfl rfl ?_; refine zAC ?_; exact zBj ⟨rfl, trivial⟩ ⟨rfl, trivial⟩ rfl) fun _ h0 => ?_
             refine ve [362] [364] [900003] [(182, .ela 900003 2 ((c7.1 ++ if c7.2 then [(⟨c8, l12⟩ : Hook)] else []).length) 1)] ?_
             refine zAj (M := (zAX fu 60)) (ment := [(366, []), (1800001, [900001, 900002, 900003])]) [340, 364, 1800001, 1800003, 1800005, 1800007, 1800009, 1800011, 1800013, 1800015] [366, 1800001] [] [900000, 900001, 900002, 900003, 900004, 900005, 900006, 900007] [900001, 900002, 900003, 900004, 900005, 900006, 900007] (fun r24 => [(183, .v (.bool r24.1))]) (fun r24 => [(900000, .box 80 [.own 900001, .own 900002, .ela 900003 2 ((c7.1 ++ if c7.2 then [(⟨c8, l12⟩ : Hook)] else []).length) 1, .v (.int .i64 r24.2)]), (900001, .box 51 [pfx 5 (c4.1.map zAI) true, .v (.bool c5), .own 900004, .own 900005, .own 900006, .own 900003]), (900002, .arr 43 7 (l6.map cOp)), (900003, .box 54 [pfx 2 ((c7.1 ++ if c7.2 then [(⟨c8, l12⟩ : Hook)] else []).map zAa) true, .v (.int .i64 r22), .own 900007]), (900004, .arr 9 1 (l9.map cStr)), (900005, .arr 43 7 (l10.map cOp)), (900006, .arr 43 7 (l11.map cOp)), (900007, .arr 43 7 (([] : List Op).map cOp))]) rfl rfl (fun _ => rfl) (fun _ => rfl) (by kernel_rfl) (by kernel_rfl) (fun _ => by kernel_rfl) (fun _ => ⟨rfl, rfl, rfl, rfl, rfl, rfl, rfl, trivial⟩) (fun w0 X X0 σ0 _ => by refine zAh [] (enc := fun (r24 : (Bool × Int)) => .v (.bool r24.1)) (Sr := fun (r24 : (Bool × Int)) => [(900000, .box 80 [.own 900001, .own 900002, .ela 900003 2 ((c7.1 ++ if c7.2 then [(⟨c8, l12⟩ : Hook)] else []).length) 1, .v (.int .i64 r24.2)]), (900003, .box 54 [pfx 2 ((c7.1 ++ if c7.2 then [(⟨c8, l12⟩ : Hook)] else []).map zAa) true, .v (.int .i64 r22), .own 900007]), (900001, .box 51 [pfx 5 (c4.1.map zAI) true, .v (.bool c5), .own 900004, .own 900005, .own 900006, .own 900003]), (900002, .arr 43 7 (l6.map cOp)), (900007, .arr 43 7 (([] : List Op).map cOp)), (900004, .arr 9 1 (l9.map cStr)), (900005, .arr 43 7 (l10.map cOp)), (900006, .arr 43 7 (l11.map cOp))]) (first := []) (cap := []) (qs := [.loc 900000 0, .ela 900003 2 ((c7.1 ++ if c7.2 then [(⟨c8, l12⟩ : Hook)] else []).length) 1, .v (.int .i64 60)]) (Sc := [(900000, .box 80 [.own 900001, .own 900002, .junk, .v (.int .i64 c3)]), (900003, .box 54 [pfx 2 ((c7.1 ++ if c7.2 then [(⟨c8, l12⟩ : Hook)] else []).map zAa) true, .v (.int .i64 r22), .own 900007]), (900001, .box 51 [pfx 5 (c4.1.map zAI) true, .v (.bool c5), .own 900004, .own 900005, .own 900006, .own 900003]), (900002, .arr 43 7 (l6.map cOp)), (900007, .arr 43 7 (([] : List Op).map cOp)), (900004, .arr 9 1 (l9.map cStr)), (900005, .arr 43 7 (l10.map cOp)), (900006, .arr 43 7 (l11.map cOp))]) (N0 := [900000, 900003, 900001, 900002, 900007, 900004, 900005, 900006]) (NR := [900000, 900003, 900001, 900002, 900007, 900004, 900005, 900006]) (fun r24 hr24 => zA5 [(900000, 900000), (900001, 900003), (900002, 900001), (900003, 900002), (900004, 900007), (900005, 900004), (900006, 900005), (900007, 900006)] [900000, 900001, 900002, 900003, 900004, 900005, 900006, 900007] (zEV fu ((c7.1 ++ if c7.2 then [(⟨c8, l12⟩ : Hook)] else []).length) 60 c3 ((c7.1 ++ if c7.2 then [(⟨c8, l12⟩ : Hook)] else []), true) r22 (c4.1, true) c5 l6 ([] : List Op) l9 l10 l11 _ hr24) rfl rfl rfl rfl rfl rfl) ⟨rfl, rfl, rfl, rfl, rfl, rfl, rfl, rfl, trivial⟩ (fun _ => rfl) rfl rfl rfl rfl rfl rfl rfl (fun _ => rfl) (fun _ => rfl) rfl rfl rfl ⟨⟨_, rfl, .rfl⟩, ⟨_, rfl, .rfl⟩, ⟨_, rfl, .rfl⟩, trivial⟩ zIa rfl rfl fun r24 hr24 => ?_; refine zAC ?_; exact zBj ⟨rfl, trivial⟩ ⟨rfl, rfl, rfl, rfl, rfl, rfl, rfl, rfl, trivial⟩ rfl) fun r24 hr24 => ?_
             refine ve [366] [8] [] [(4, .v (.bool r24.1))] ?_
             refine zBr rfl rfl ?_
             refine zAB ?_
             refine zD4 900000 [.own 900001, .own 900002, .sel 3 [.loc 900000 1, .ela 900001 5 (c4.1.length) 2, .ela 900001 5 (c4.1.length) 3, .ela 900003 2 ((c7.1 ++ if c7.2 then [(⟨c8, l12⟩ : Hook)] else []).length) 1], .v (.int .i64 r24.2)] rfl ⟨.rfl, .rfl, (.sel rfl rfl), .rfl, trivial⟩ rfl ?_
             exact rN
          ·refine zAG ?_
           refine zAJ ?_
           refine zAB ?_
           refine sr ?_
           refine pe 1 ?_
           refine ns ?_
           exact rN
         ·refine pe 3 ?_
          refine zAC ?_
          refine zAB (zAx rfl ?_)
          refine zAG ?_
          refine zAJ ?_
          refine zAB ?_
          refine sr ?_
          refine pe 1 ?_
          refine ns ?_
          exact rN
        ·refine pe 3 ?_
         refine zAN (j := 107) rfl ?_ ?_
         ·refine pe 3 ?_
          refine ns ?_
          refine zAR rfl ?_ ?_
          ·refine sr ?_
           refine pe 1 ?_
           refine zAM (enc := fun (r20 : (Bs × Int)) => .tup [.v (.string ⟨⟨r20.1⟩⟩), .v (.int .i64 r20.2)]) (qs := [.v (.string ⟨⟨r13.2.1⟩⟩)]) (zHv fu r13.2.1) rfl rfl ⟨⟨_, rfl, .rfl⟩, trivial⟩ (fun _ => rfl) zQS rfl rfl fun r20 hr20 => ?_
           refine pe 5 ?_
           refine ns ?_
           refine zAE ?_
           refine sr ?_
           refine pe 3 ?_
           refine zAN (j := 117) rfl ?_ ?_
           ·refine pe 12 ?_
            refine zAC ?_
            refine zAB (zBC rfl ?_)
            refine sr ?_
            refine pe 1 ?_
            refine ns ?_
            exact rN
           ·refine pe 5 ?_
            refine zAN (j := 122) rfl ?_ ?_
            ·refine pe 7 ?_
             refine zAC ?_
             refine zAB (zBC rfl ?_)
             refine sr ?_
             refine pe 1 ?_
             refine ns ?_
             exact rN
            ·refine pe 3 ?_
             refine zBq (T := tab) (by simp) rfl rfl rfl rfl rfl rfl rfl rfl ?_
             refine zCQ (T := tab) cStr l9 rfl rfl rfl rfl rfl rfl rfl rfl rfl ?_
             refine pe 2 ?_
             refine ns ?_
             refine zAR rfl ?_ ?_
             ·refine sr ?_
              refine pe 1 ?_
              refine ns ?_
              exact rN
             ·refine zAG ?_
              refine zAB ?_
              refine sr ?_
              refine pe 4 ?_
              refine zBq (T := tab) (by simp) rfl rfl rfl rfl rfl rfl rfl rfl ?_
              refine pe 1 ?_
              refine zDo (T := tab) (rows := [r13.2.1].map cStr) 136 rfl rfl rfl rfl rfl rfl rfl rfl rfl rfl rfl rfl rfl rfl ?_
              refine zDb (T := tab) cStr l9 ([r13.2.1] : List Bs) rfl rfl rfl rfl rfl rfl rfl rfl rfl rfl rfl rfl rfl rfl (zPb _) rfl rfl rfl rfl rfl ?_
              refine pe 2 ?_
              refine zDg (T := tab) (by simp) rfl rfl rfl rfl rfl rfl rfl rfl rfl rfl rfl rfl ?_
              refine ns ?_
              refine sr ?_
              refine pe 1 ?_
              refine ns ?_
              exact rN
          ·exact zBD (hj2 ()) ⟨rfl, rfl, rfl, rfl, rfl, trivial⟩ ⟨rfl, rfl, rfl, rfl, rfl, rfl, rfl, rfl, trivial⟩ rfl
         ·refine pe 3 ?_
          refine zAC ?_
          refine zAB (zAx rfl ?_)
          exact zBD (hj2 ()) ⟨rfl, rfl, rfl, rfl, rfl, trivial⟩ ⟨rfl, rfl, rfl, rfl, rfl, rfl, rfl, rfl, trivial⟩ rfl
def zAZ (_fu : Nat) (s1 : Bs) (prefix2 : Bs) : Option Bool := cnd (decide (((s1.length : Nat) : Int) ≥ ((prefix2.length : Nat) : Int))) (bnd (zC6 s1 0 ((prefix2.length : Nat) : Int)) fun s3 => some (s3 == prefix2)) (some false)
set_option maxRecDepth 100000 in
theorem zB4 (fu : Nat) (s1 : Bs) (prefix2 : Bs) : ∀ r, zAZ fu s1 prefix2 = some r → DC zAi Tryz.prog 108 [.v (.string ⟨⟨s1⟩⟩), .v (.string ⟨⟨prefix2⟩⟩)] (.v (.bool r)) := by
 intro r hr
 refine zAL (r := r)  (args := [.v (.string ⟨⟨s1⟩⟩), .v (.string ⟨⟨prefix2⟩⟩)]) (S := []) (N0 := []) (post := fun r p S => p = .v (.bool r) ∧ S = []) Tryz.func108 rfl rfl hr fun w0 X X0 σ0 _ => ?_
 refine sr ?_
 refine pe 1 ?_
 refine ns ?_
 refine sr ?_
 refine pe 6 ?_
 refine zAN (j := 10) rfl ?_ ?_
 ·refine pe 3 ?_
  refine zGt (T := tab) rfl rfl rfl rfl rfl rfl rfl rfl fun s3 hs3 => ?_
  refine pe 4 ?_
  refine ns ?_
  exact rN
 ·refine pe 8 ?_
  refine ns ?_
  exact rN
def zA9 (fu : Nat) (s1 : Bs) (prefix2 : Bs) : Option (Bs × Bool) := bnd (zAZ fu s1 prefix2) fun r3 => cnd (!r3) (some (s1, false)) (bnd (zC6 s1 ((prefix2.length : Nat) : Int) ((s1.length : Nat) : Int)) fun s4 => some (s4, true))
set_option maxRecDepth 100000 in
theorem zDI (fu : Nat) (s1 : Bs) (prefix2 : Bs) : ∀ r, zA9 fu s1 prefix2 = some r → DC zAi Tryz.prog 83 [.v (.string ⟨⟨s1⟩⟩), .v (.string ⟨⟨prefix2⟩⟩)] (.tup [.v (.string ⟨⟨r.1⟩⟩), .v (.bool r.2)]) := by
 intro r hr
 refine zAL (r := r)  (args := [.v (.string ⟨⟨s1⟩⟩), .v (.string ⟨⟨prefix2⟩⟩)]) (S := []) (N0 := []) (post := fun r p S => p = .tup [.v (.string ⟨⟨r.1⟩⟩), .v (.bool r.2)] ∧ S = []) Tryz.func83 rfl rfl hr fun w0 X X0 σ0 _ => ?_
 refine sr ?_
 refine pe 2 ?_
 refine ns ?_
 refine zAE ?_
 refine sr ?_
 refine pe 2 ?_
 refine zAM (enc := fun (r3 : Bool) => .v (.bool r3)) (qs := [.v (.string ⟨⟨s1⟩⟩), .v (.string ⟨⟨prefix2⟩⟩)]) (zB4 fu s1 prefix2) rfl rfl ⟨⟨_, rfl, .rfl⟩, ⟨_, rfl, .rfl⟩, trivial⟩ (fun _ => rfl) zO4 rfl rfl fun r3 hr3 => ?_
 refine pe 1 ?_
 refine ns ?_
 refine zAR rfl ?_ ?_
 ·refine sr ?_
  refine pe 3 ?_
  refine ns ?_
  exact rN
 ·refine zAG ?_
  refine zAB ?_
  refine sr ?_
  refine pe 3 ?_
  refine zGt (T := tab) rfl rfl rfl rfl rfl rfl rfl rfl fun s4 hs4 => ?_
  refine pe 2 ?_
  refine ns ?_
  exact rN
def zAO (fu : Nat) (s1 : Bs) (prefix2 : Bs) : Option (Bs × Bool) := bnd (zA9 fu s1 prefix2) fun r3 => some (r3.1, r3.2)
set_option maxRecDepth 100000 in
theorem zCo (fu : Nat) (s1 : Bs) (prefix2 : Bs) : ∀ r, zAO fu s1 prefix2 = some r → DC zAi Tryz.prog 46 [.v (.string ⟨⟨s1⟩⟩), .v (.string ⟨⟨prefix2⟩⟩)] (.tup [.v (.string ⟨⟨r.1⟩⟩), .v (.bool r.2)]) := by
 intro r hr
 refine zAL (r := r)  (args := [.v (.string ⟨⟨s1⟩⟩), .v (.string ⟨⟨prefix2⟩⟩)]) (S := []) (N0 := []) (post := fun r p S => p = .tup [.v (.string ⟨⟨r.1⟩⟩), .v (.bool r.2)] ∧ S = []) Tryz.func46 rfl rfl hr fun w0 X X0 σ0 _ => ?_
 refine sr ?_
 refine pe 2 ?_
 refine ns ?_
 refine sr ?_
 refine pe 2 ?_
 refine zAM (enc := fun (r3 : (Bs × Bool)) => .tup [.v (.string ⟨⟨r3.1⟩⟩), .v (.bool r3.2)]) (qs := [.v (.string ⟨⟨s1⟩⟩), .v (.string ⟨⟨prefix2⟩⟩)]) (zDI fu s1 prefix2) rfl rfl ⟨⟨_, rfl, .rfl⟩, ⟨_, rfl, .rfl⟩, trivial⟩ (fun _ => rfl) call83 rfl rfl fun r3 hr3 => ?_
 refine pe 4 ?_
 refine ns ?_
 exact rN
def zFQ (fu : Nat) : Option (List Bs) := bnd (zHP fu ([45, 32, 110, 101, 119, 32, 100, 114, 97, 102, 116, 32, 116, 101, 120, 116, 32, 102, 114, 97, 103, 32, 115, 104, 97, 100, 101, 32, 112, 117, 116, 32, 111, 117, 116, 32, 115, 119, 97, 112, 32, 115, 101, 116, 32, 117, 110, 115, 101, 116, 32, 116, 111, 103, 103, 108, 101, 32, 99, 111, 112, 121, 32, 116, 97, 107, 101, 32, 101, 109, 112, 116, 121, 32, 106, 111, 105, 110, 32, 100, 101, 102, 105, 110, 101, 32, 119, 97, 105, 116, 32, 117, 112, 103, 114, 97, 100, 101, 32, 98, 117, 105, 108, 100, 32, 115, 117, 112, 101, 114, 32, 103, 105, 118, 101, 32, 116, 104, 114, 111, 119, 32, 114, 101, 115, 101, 116, 32, 114, 101, 115, 116, 111, 114, 101, 32, 114, 101, 115, 116, 32, 104, 97, 110, 100, 112, 117, 116, 32, 104, 97, 110, 100, 111, 117, 116, 32, 104, 97, 110, 100, 115, 101, 116] : Bs)) fun r1 => some r1
set_option maxRecDepth 100000 in
theorem zH6 (fu : Nat) : ∀ r, zFQ fu = some r → DC zAi Tryz.prog 49 [] (.sl 1 false (r.map cStr)) := by
 intro r hr
 refine zAL (r := r)  (args := []) (S := []) (N0 := []) (post := fun r p S => p = .sl 1 false (r.map cStr) ∧ S = []) Tryz.func49 rfl rfl hr fun w0 X X0 σ0 _ => ?_
 refine sr ?_
 refine pe 1 ?_
 refine ns ?_
 refine sr ?_
 refine zAM (enc := fun (r1 : (List Bs)) => .sl 1 false (r1.map cStr)) (qs := [.v (.string ⟨⟨[45, 32, 110, 101, 119, 32, 100, 114, 97, 102, 116, 32, 116, 101, 120, 116, 32, 102, 114, 97, 103, 32, 115, 104, 97, 100, 101, 32, 112, 117, 116, 32, 111, 117, 116, 32, 115, 119, 97, 112, 32, 115, 101, 116, 32, 117, 110, 115, 101, 116, 32, 116, 111, 103, 103, 108, 101, 32, 99, 111, 112, 121, 32, 116, 97, 107, 101, 32, 101, 109, 112, 116, 121, 32, 106, 111, 105, 110, 32, 100, 101, 102, 105, 110, 101, 32, 119, 97, 105, 116, 32, 117, 112, 103, 114, 97, 100, 101, 32, 98, 117, 105, 108, 100, 32, 115, 117, 112, 101, 114, 32, 103, 105, 118, 101, 32, 116, 104, 114, 111, 119, 32, 114, 101, 115, 101, 116, 32, 114, 101, 115, 116, 111, 114, 101, 32, 114, 101, 115, 116, 32, 104, 97, 110, 100, 112, 117, 116, 32, 104, 97, 110, 100, 111, 117, 116, 32, 104, 97, 110, 100, 115, 101, 116]⟩⟩)]) (zJc fu ([45, 32, 110, 101, 119, 32, 100, 114, 97, 102, 116, 32, 116, 101, 120, 116, 32, 102, 114, 97, 103, 32, 115, 104, 97, 100, 101, 32, 112, 117, 116, 32, 111, 117, 116, 32, 115, 119, 97, 112, 32, 115, 101, 116, 32, 117, 110, 115, 101, 116, 32, 116, 111, 103, 103, 108, 101, 32, 99, 111, 112, 121, 32, 116, 97, 107, 101, 32, 101, 109, 112, 116, 121, 32, 106, 111, 105, 110, 32, 100, 101, 102, 105, 110, 101, 32, 119, 97, 105, 116, 32, 117, 112, 103, 114, 97, 100, 101, 32, 98, 117, 105, 108, 100, 32, 115, 117, 112, 101, 114, 32, 103, 105, 118, 101, 32, 116, 104, 114, 111, 119, 32, 114, 101, 115, 101, 116, 32, 114, 101, 115, 116, 111, 114, 101, 32, 114, 101, 115, 116, 32, 104, 97, 110, 100, 112, 117, 116, 32, 104, 97, 110, 100, 111, 117, 116, 32, 104, 97, 110, 100, 115, 101, 116] : Bs)) rfl rfl ⟨⟨_, rfl, .rfl⟩, trivial⟩ (fun _ => rfl) zQN rfl rfl fun r1 hr1 => ?_
 refine pe 1 ?_
 refine ns ?_
 exact rN
def zB6 (fu : Nat) (kind1 : Int) : Option Bs := bnd (zFQ fu) fun r2 => cnd (decide (kind1 > 0)) (cnd (decide (kind1 < ((r2.length : Nat) : Int))) (bnd (idx r2 kind1) fun y3 => some y3) (some [])) (some [])
set_option maxRecDepth 100000 in
theorem zCH (fu : Nat) (kind1 : Int) : ∀ r, zB6 fu kind1 = some r → DC zAi Tryz.prog 85 [.v (.int .i64 kind1)] (.v (.string ⟨⟨r⟩⟩)) := by
 intro r hr
 refine zAL (r := r)  (args := [.v (.int .i64 kind1)]) (S := []) (N0 := []) (post := fun r p S => p = .v (.string ⟨⟨r⟩⟩) ∧ S = []) Tryz.func85 rfl rfl hr fun w0 X X0 σ0 _ => ?_
 refine sr ?_
 refine pe 1 ?_
 refine ns ?_
 refine zAE ?_
 refine sr ?_
 refine zAM (enc := fun (r2 : (List Bs)) => .sl 1 false (r2.map cStr)) (qs := []) (zH6 fu) rfl rfl trivial (fun _ => rfl) zQi rfl rfl fun r2 hr2 => ?_
 refine pe 1 ?_
 refine ns ?_
 refine sr ?_
 refine pe 3 ?_
 refine zAN (j := 7) rfl ?_ ?_
 ·refine pe 2 ?_
  refine zCD (T := tab) cStr r2 rfl rfl rfl rfl rfl rfl rfl rfl ?_
  refine pe 2 ?_
  refine ns ?_
  refine zAR rfl ?_ ?_
  ·refine sr ?_
   refine pe 2 ?_
   refine zCV (T := tab) cStr r2 rfl rfl rfl rfl rfl rfl rfl fun y3 hy3 => ?_
   refine pe 2 ?_
   refine ns ?_
   exact rN
  ·refine zAG ?_
   refine zAB ?_
   refine sr ?_
   refine pe 1 ?_
   refine ns ?_
   exact rN
 ·refine pe 5 ?_
  refine zAC ?_
  refine zAB (zAx rfl ?_)
  refine zAG ?_
  refine zAB ?_
  refine sr ?_
  refine pe 1 ?_
  refine ns ?_
  exact rN
def zC1 (fu : Nat) (kind1 : Int) (t14 : Bool) : Option (Op_form × Bool) := cnd t14 (bnd (zB6 fu kind1) fun r15 => some ((⟨r15, [46, 46, 46, 46, 46]⟩ : Op_form), true)) (bnd (zB6 fu kind1) fun r16 => cnd (decide (kind1 > 0)) (some ((⟨r16, [110, 46, 46, 46, 46]⟩ : Op_form), (decide (kind1 ≤ 28)))) (some ((⟨r16, [110, 46, 46, 46, 46]⟩ : Op_form), false)))
def zC3 (fu : Nat) (kind1 : Int) (t6 : Bool) : Option (Op_form × Bool) := cnd t6 (bnd (zB6 fu kind1) fun r7 => some ((⟨r7, [110, 110, 111, 46, 46]⟩ : Op_form), true)) (cnd (kind1 == 11) (bnd (zB6 fu kind1) fun r8 => some ((⟨r8, [110, 105, 46, 115, 46]⟩ : Op_form), true)) (cnd (kind1 == 12) (bnd (zB6 fu kind1) fun r9 => some ((⟨r9, [110, 105, 110, 46, 46]⟩ : Op_form), true)) (cnd (kind1 == 13) (bnd (zB6 fu kind1) fun r10 => some ((⟨r10, [110, 110, 46, 46, 46]⟩ : Op_form), true)) (cnd (kind1 == 16) (bnd (zB6 fu kind1) fun r11 => some ((⟨r11, [105, 46, 46, 115, 115]⟩ : Op_form), true)) (cnd (kind1 == 17) (bnd (zB6 fu kind1) fun r12 => some ((⟨r12, [46, 46, 46, 115, 46]⟩ : Op_form), true)) (cnd (kind1 == 19) (bnd (zB6 fu kind1) fun r13 => some ((⟨r13, [105, 46, 46, 46, 46]⟩ : Op_form), true)) (cnd (kind1 == 20) ((zC1 fu kind1) (kind1 == 20)) (cnd (kind1 == 22) ((zC1 fu kind1) (kind1 == 22)) ((zC1 fu kind1) (kind1 == 25))))))))))
def zC0 (fu : Nat) (kind1 : Int) (t4 : Bool) : Option (Op_form × Bool) := cnd t4 (bnd (zB6 fu kind1) fun r5 => some ((⟨r5, [110, 46, 46, 115, 46]⟩ : Op_form), true)) (cnd (kind1 == 6) ((zC3 fu kind1) (kind1 == 6)) (cnd (kind1 == 8) ((zC3 fu kind1) (kind1 == 8)) ((zC3 fu kind1) (kind1 == 26))))
def zCd (fu : Nat) (kind1 : Int) (t2 : Bool) : Option (Op_form × Bool) := cnd t2 (bnd (zB6 fu kind1) fun r3 => some ((⟨r3, [110, 46, 46, 115, 115]⟩ : Op_form), true)) (cnd (kind1 == 3) ((zC0 fu kind1) (kind1 == 3)) (cnd (kind1 == 10) ((zC0 fu kind1) (kind1 == 10)) ((zC0 fu kind1) (kind1 == 24))))
def zCz (fu : Nat) (kind1 : Int) : Option (Op_form × Bool) := cnd (kind1 == 1) ((zCd fu kind1) (kind1 == 1)) (cnd (kind1 == 2) ((zCd fu kind1) (kind1 == 2)) (cnd (kind1 == 9) ((zCd fu kind1) (kind1 == 9)) ((zCd fu kind1) (kind1 == 28))))
set_option maxHeartbeats 10000000 in
set_option maxRecDepth 100000 in
theorem zFJ (fu : Nat) (kind1 : Int) : ∀ r, zCz fu kind1 = some r → DC zAi Tryz.prog 50 [.v (.int .i64 kind1)] (.tup [.agg (zF4 r.1), .v (.bool r.2)]) := by
 intro r hr
 refine zAL (r := r)  (args := [.v (.int .i64 kind1)]) (S := []) (N0 := []) (post := fun r p S => p = .tup [.agg (zF4 r.1), .v (.bool r.2)] ∧ S = []) Tryz.func50 rfl rfl hr fun w0 X X0 σ0 _ => ?_
 refine sr ?_
 refine zBE (T := tab) 2 rfl rfl rfl rfl rfl rfl rfl rfl rfl ?_
 refine pe 1 ?_
 refine ns ?_
 refine zAE ?_
 refine sr ?_
 refine pe 1 ?_
 refine ns ?_
 refine zAP ?_
 refine zAE ?_
 refine sr ?_
 refine pe 2 ?_
 refine ns ?_
 refine zBl (zCd fu kind1) (fun (t2 : Bool) => [(0, .v (.int .i64 kind1)), (2, .loc 2 0), (4, .v (.int .i64 kind1)), (5, .v (.bool t2))]) (fun (t2 : Bool) => [(2, .box 101 [.v (.string ⟨⟨[]⟩⟩), .v (.string ⟨⟨[]⟩⟩)])]) ?_ fun hj1 => ?_
 ·rintro t2
  refine zAB ?_
  refine zAR rfl ?_ ?_
  ·refine sr ?_
   refine pe 1 ?_
   refine zAM (enc := fun (r3 : Bs) => .v (.string ⟨⟨r3⟩⟩)) (qs := [.v (.int .i64 kind1)]) (zCH fu kind1) rfl rfl ⟨⟨_, rfl, .rfl⟩, trivial⟩ (fun _ => rfl) zE7 rfl rfl fun r3 hr3 => ?_
   refine zBI (T := tab) rfl rfl rfl rfl rfl rfl rfl ?_
   refine zAK (T := tab) rfl rfl rfl rfl rfl rfl rfl rfl rfl rfl rfl rfl ?_
   refine pe 1 ?_
   refine ns ?_
   exact rN
  ·refine zAE ?_
   refine sr ?_
   refine pe 2 ?_
   refine ns ?_
   refine zBl (zC0 fu kind1) (fun (t4 : Bool) => [(0, .v (.int .i64 kind1)), (2, .loc 2 0), (4, .v (.int .i64 kind1)), (13, .v (.bool t4))]) (fun (t4 : Bool) => [(2, .box 101 [.v (.string ⟨⟨[]⟩⟩), .v (.string ⟨⟨[]⟩⟩)])]) ?_ fun hj2 => ?_
   ·rintro t4
    refine zAB ?_
    refine zAR rfl ?_ ?_
    ·refine sr ?_
     refine pe 1 ?_
     refine zAM (enc := fun (r5 : Bs) => .v (.string ⟨⟨r5⟩⟩)) (qs := [.v (.int .i64 kind1)]) (zCH fu kind1) rfl rfl ⟨⟨_, rfl, .rfl⟩, trivial⟩ (fun _ => rfl) zE7 rfl rfl fun r5 hr5 => ?_
     refine zBI (T := tab) rfl rfl rfl rfl rfl rfl rfl ?_
     refine zAK (T := tab) rfl rfl rfl rfl rfl rfl rfl rfl rfl rfl rfl rfl ?_
     refine pe 1 ?_
     refine ns ?_
     exact rN
    ·refine zAE ?_
     refine sr ?_
     refine pe 2 ?_
     refine ns ?_
     refine zBl (zC3 fu kind1) (fun (t6 : Bool) => [(0, .v (.int .i64 kind1)), (2, .loc 2 0), (4, .v (.int .i64 kind1)), (20, .v (.bool t6))]) (fun (t6 : Bool) => [(2, .box 101 [.v (.string ⟨⟨[]⟩⟩), .v (.string ⟨⟨[]⟩⟩)])]) ?_ fun hj3 => ?_
     ·rintro t6
      refine zAB ?_
      refine zAR rfl ?_ ?_
      ·refine sr ?_
       refine pe 1 ?_
       refine zAM (enc := fun (r7 : Bs) => .v (.string ⟨⟨r7⟩⟩)) (qs := [.v (.int .i64 kind1)]) (zCH fu kind1) rfl rfl ⟨⟨_, rfl, .rfl⟩, trivial⟩ (fun _ => rfl) zE7 rfl rfl fun r7 hr7 => ?_
       refine zBI (T := tab) rfl rfl rfl rfl rfl rfl rfl ?_
       refine zAK (T := tab) rfl rfl rfl rfl rfl rfl rfl rfl rfl rfl rfl rfl ?_
       refine pe 1 ?_
       refine ns ?_
       exact rN
      ·refine sr ?_
       refine pe 2 ?_
       refine ns ?_
       refine zAR rfl ?_ ?_
       ·refine sr ?_
        refine pe 1 ?_
        refine zAM (enc := fun (r8 : Bs) => .v (.string ⟨⟨r8⟩⟩)) (qs := [.v (.int .i64 kind1)]) (zCH fu kind1) rfl rfl ⟨⟨_, rfl, .rfl⟩, trivial⟩ (fun _ => rfl) zE7 rfl rfl fun r8 hr8 => ?_
        refine zBI (T := tab) rfl rfl rfl rfl rfl rfl rfl ?_
        refine zAK (T := tab) rfl rfl rfl rfl rfl rfl rfl rfl rfl rfl rfl rfl ?_
        refine pe 1 ?_
        refine ns ?_
        exact rN
       ·refine sr ?_
        refine pe 2 ?_
        refine ns ?_
        refine zAR rfl ?_ ?_
        ·refine sr ?_
         refine pe 1 ?_
         refine zAM (enc := fun (r9 : Bs) => .v (.string ⟨⟨r9⟩⟩)) (qs := [.v (.int .i64 kind1)]) (zCH fu kind1) rfl rfl ⟨⟨_, rfl, .rfl⟩, trivial⟩ (fun _ => rfl) zE7 rfl rfl fun r9 hr9 => ?_
         refine zBI (T := tab) rfl rfl rfl rfl rfl rfl rfl ?_
         refine zAK (T := tab) rfl rfl rfl rfl rfl rfl rfl rfl rfl rfl rfl rfl ?_
         refine pe 1 ?_
         refine ns ?_
         exact rN
        ·refine sr ?_
         refine pe 2 ?_
         refine ns ?_
         refine zAR rfl ?_ ?_
         ·refine sr ?_
          refine pe 1 ?_
          refine zAM (enc := fun (r10 : Bs) => .v (.string ⟨⟨r10⟩⟩)) (qs := [.v (.int .i64 kind1)]) (zCH fu kind1) rfl rfl ⟨⟨_, rfl, .rfl⟩, trivial⟩ (fun _ => rfl) zE7 rfl rfl fun r10 hr10 => ?_
          refine zBI (T := tab) rfl rfl rfl rfl rfl rfl rfl ?_
          refine zAK (T := tab) rfl rfl rfl rfl rfl rfl rfl rfl rfl rfl rfl rfl ?_
          refine pe 1 ?_
          refine ns ?_
          exact rN
         ·refine sr ?_
          refine pe 2 ?_
          refine ns ?_
          refine zAR rfl ?_ ?_
          ·refine sr ?_
           refine pe 1 ?_
           refine zAM (enc := fun (r11 : Bs) => .v (.string ⟨⟨r11⟩⟩)) (qs := [.v (.int .i64 kind1)]) (zCH fu kind1) rfl rfl ⟨⟨_, rfl, .rfl⟩, trivial⟩ (fun _ => rfl) zE7 rfl rfl fun r11 hr11 => ?_
           refine zBI (T := tab) rfl rfl rfl rfl rfl rfl rfl ?_
           refine zAK (T := tab) rfl rfl rfl rfl rfl rfl rfl rfl rfl rfl rfl rfl ?_
           refine pe 1 ?_
           refine ns ?_
           exact rN
          ·refine sr ?_
           refine pe 2 ?_
           refine ns ?_
           refine zAR rfl ?_ ?_
           ·refine sr ?_
            refine pe 1 ?_
            refine zAM (enc := fun (r12 : Bs) => .v (.string ⟨⟨r12⟩⟩)) (qs := [.v (.int .i64 kind1)]) (zCH fu kind1) rfl rfl ⟨⟨_, rfl, .rfl⟩, trivial⟩ (fun _ => rfl) zE7 rfl rfl fun r12 hr12 => ?_
            refine zBI (T := tab) rfl rfl rfl rfl rfl rfl rfl ?_
            refine zAK (T := tab) rfl rfl rfl rfl rfl rfl rfl rfl rfl rfl rfl rfl ?_
            refine pe 1 ?_
            refine ns ?_
            exact rN
           ·refine sr ?_
            refine pe 2 ?_
            refine ns ?_
            refine zAR rfl ?_ ?_
            ·refine sr ?_
             refine pe 1 ?_
             refine zAM (enc := fun (r13 : Bs) => .v (.string ⟨⟨r13⟩⟩)) (qs := [.v (.int .i64 kind1)]) (zCH fu kind1) rfl rfl ⟨⟨_, rfl, .rfl⟩, trivial⟩ (fun _ => rfl) zE7 rfl rfl fun r13 hr13 => ?_
             refine zBI (T := tab) rfl rfl rfl rfl rfl rfl rfl ?_
             refine zAK (T := tab) rfl rfl rfl rfl rfl rfl rfl rfl rfl rfl rfl rfl ?_
             refine pe 1 ?_
             refine ns ?_
             exact rN
            ·refine zAE ?_
             refine sr ?_
             refine pe 2 ?_
             refine ns ?_
             refine zBl (zC1 fu kind1) (fun (t14 : Bool) => [(0, .v (.int .i64 kind1)), (2, .loc 2 0), (57, .v (.bool t14))]) (fun (t14 : Bool) => [(2, .box 101 [.v (.string ⟨⟨[]⟩⟩), .v (.string ⟨⟨[]⟩⟩)])]) ?_ fun hj4 => ?_
             ·rintro t14
              refine zAB ?_
              refine zAR rfl ?_ ?_
              ·refine sr ?_
               refine pe 1 ?_
               refine zAM (enc := fun (r15 : Bs) => .v (.string ⟨⟨r15⟩⟩)) (qs := [.v (.int .i64 kind1)]) (zCH fu kind1) rfl rfl ⟨⟨_, rfl, .rfl⟩, trivial⟩ (fun _ => rfl) zE7 rfl rfl fun r15 hr15 => ?_
               refine zBI (T := tab) rfl rfl rfl rfl rfl rfl rfl ?_
               refine zAK (T := tab) rfl rfl rfl rfl rfl rfl rfl rfl rfl rfl rfl rfl ?_
               refine pe 1 ?_
               refine ns ?_
               exact rN
              ·refine zAG ?_
               refine zAJ ?_
               refine zAB ?_
               refine sr ?_
               refine pe 1 ?_
               refine zAM (enc := fun (r16 : Bs) => .v (.string ⟨⟨r16⟩⟩)) (qs := [.v (.int .i64 kind1)]) (zCH fu kind1) rfl rfl ⟨⟨_, rfl, .rfl⟩, trivial⟩ (fun _ => rfl) zE7 rfl rfl fun r16 hr16 => ?_
               refine zBI (T := tab) rfl rfl rfl rfl rfl rfl rfl ?_
               refine pe 3 ?_
               refine zAN (j := 69) rfl ?_ ?_
               ·refine pe 3 ?_
                refine zAK (T := tab) rfl rfl rfl rfl rfl rfl rfl rfl rfl rfl rfl rfl ?_
                refine pe 1 ?_
                refine ns ?_
                exact rN
               ·refine pe 3 ?_
                refine zAK (T := tab) rfl rfl rfl rfl rfl rfl rfl rfl rfl rfl rfl rfl ?_
                refine pe 1 ?_
                refine ns ?_
                exact rN
             ·refine zAR rfl ?_ ?_
              ·refine zAG ?_
               exact zAU (hj4 (kind1 == 20)) ⟨rfl, rfl, rfl, trivial⟩ ⟨rfl, trivial⟩ rfl
              ·refine sr ?_
               refine pe 2 ?_
               refine ns ?_
               refine zAR rfl ?_ ?_
               ·refine zAG ?_
                exact zAU (hj4 (kind1 == 22)) ⟨rfl, rfl, rfl, trivial⟩ ⟨rfl, trivial⟩ rfl
               ·refine zAD ?_
                refine pe 2 ?_
                refine zAC ?_
                exact zAU (hj4 (kind1 == 25)) ⟨rfl, rfl, rfl, trivial⟩ ⟨rfl, trivial⟩ rfl
     ·refine zAR rfl ?_ ?_
      ·refine zAG ?_
       exact zAU (hj3 (kind1 == 6)) ⟨rfl, rfl, rfl, rfl, trivial⟩ ⟨rfl, trivial⟩ rfl
      ·refine sr ?_
       refine pe 2 ?_
       refine ns ?_
       refine zAR rfl ?_ ?_
       ·refine zAG ?_
        exact zAU (hj3 (kind1 == 8)) ⟨rfl, rfl, rfl, rfl, trivial⟩ ⟨rfl, trivial⟩ rfl
       ·refine zAD ?_
        refine pe 2 ?_
        refine zAC ?_
        exact zAU (hj3 (kind1 == 26)) ⟨rfl, rfl, rfl, rfl, trivial⟩ ⟨rfl, trivial⟩ rfl
   ·refine zAR rfl ?_ ?_
    ·refine zAG ?_
     exact zAU (hj2 (kind1 == 3)) ⟨rfl, rfl, rfl, rfl, trivial⟩ ⟨rfl, trivial⟩ rfl
    ·refine sr ?_
     refine pe 2 ?_
     refine ns ?_
     refine zAR rfl ?_ ?_
     ·refine zAG ?_
      exact zAU (hj2 (kind1 == 10)) ⟨rfl, rfl, rfl, rfl, trivial⟩ ⟨rfl, trivial⟩ rfl
     ·refine zAD ?_
      refine pe 2 ?_
      refine zAC ?_
      exact zAU (hj2 (kind1 == 24)) ⟨rfl, rfl, rfl, rfl, trivial⟩ ⟨rfl, trivial⟩ rfl
 ·refine zAR rfl ?_ ?_
  ·refine zAG ?_
   exact zAU (hj1 (kind1 == 1)) ⟨rfl, rfl, rfl, rfl, trivial⟩ ⟨rfl, trivial⟩ rfl
  ·refine sr ?_
   refine pe 2 ?_
   refine ns ?_
   refine zAR rfl ?_ ?_
   ·refine zAG ?_
    exact zAU (hj1 (kind1 == 2)) ⟨rfl, rfl, rfl, rfl, trivial⟩ ⟨rfl, trivial⟩ rfl
   ·refine sr ?_
    refine pe 2 ?_
    refine ns ?_
    refine zAR rfl ?_ ?_
    ·refine zAG ?_
     exact zAU (hj1 (kind1 == 9)) ⟨rfl, rfl, rfl, rfl, trivial⟩ ⟨rfl, trivial⟩ rfl
    ·refine zAD ?_
     refine pe 2 ?_
     refine zAC ?_
     exact zAU (hj1 (kind1 == 28)) ⟨rfl, rfl, rfl, rfl, trivial⟩ ⟨rfl, trivial⟩ rfl
def zCW (_fu : Nat) : Option Unit := some ()
set_option maxRecDepth 100000 in
theorem zEp (fu : Nat) (c1 : Op) : ∀ r, zCW fu = some r → FC zAi Tryz.prog 51 [.loc 900000 0] [(900000, .box 43 [.v (.int .i64 c1.Kind), .v (.int .i64 c1.A), .v (.int .i64 c1.B), .v (.int .i64 c1.C), .v (.string ⟨⟨c1.S⟩⟩), .v (.string ⟨⟨c1.T⟩⟩), .v (.bool c1.Must)])] [900000] fun p S' => p = .bsl 12 3 ∧ S' = [(900000, .box 43 [.v (.int .i64 c1.Kind), .v (.int .i64 c1.A), .v (.int .i64 c1.B), .v (.int .i64 c1.C), .v (.string ⟨⟨c1.S⟩⟩), .v (.string ⟨⟨c1.T⟩⟩), .v (.bool c1.Must)]), (12, .box 107 [.loc 900000 1, .loc 900000 2, .loc 900000 3])] := by
 intro r hr
 refine zAL (r := r)  (args := [.loc 900000 0]) (S := [(900000, .box 43 [.v (.int .i64 c1.Kind), .v (.int .i64 c1.A), .v (.int .i64 c1.B), .v (.int .i64 c1.C), .v (.string ⟨⟨c1.S⟩⟩), .v (.string ⟨⟨c1.T⟩⟩), .v (.bool c1.Must)])]) (N0 := [900000]) (post := fun r p S => p = .bsl 12 3 ∧ S = [(900000, .box 43 [.v (.int .i64 c1.Kind), .v (.int .i64 c1.A), .v (.int .i64 c1.B), .v (.int .i64 c1.C), .v (.string ⟨⟨c1.S⟩⟩), .v (.string ⟨⟨c1.T⟩⟩), .v (.bool c1.Must)]), (12, .box 107 [.loc 900000 1, .loc 900000 2, .loc 900000 3])]) Tryz.func51 rfl rfl hr fun w0 X X0 σ0 _ => ?_
 refine sr ?_
 refine pe 1 ?_
 refine ns ?_
 refine zAE ?_
 refine zBD (E' := [(0, .loc 900000 0)]) (S' := [(900000, .box 43 [.v (.int .i64 c1.Kind), .v (.int .i64 c1.A), .v (.int .i64 c1.B), .v (.int .i64 c1.C), .v (.string ⟨⟨c1.S⟩⟩), .v (.string ⟨⟨c1.T⟩⟩), .v (.bool c1.Must)])]) ?_ ⟨rfl, trivial⟩ ⟨rfl, trivial⟩ rfl
 refine zBM [0, 1, 3, 0, 8, 24, 0, 64, 192, 511, 1023] mixed (by kernel_rfl) (by kernel_rfl) rfl rfl ?_
 refine ve [0] [6] [900000] [(3, .loc 900000 0)] ?_
 refine ve [6] [8] [900000] [(4, .loc 900000 0)] ?_
 refine ve [8] [10] [900000] [(5, .loc 900000 1)] ?_
 refine ve [0] [12] [900000] [(6, .loc 900000 0)] ?_
 refine ve [12] [14] [900000] [(7, .loc 900000 0)] ?_
 refine ve [14] [16] [900000] [(8, .loc 900000 2)] ?_
 refine ve [0] [18] [900000] [(9, .loc 900000 0)] ?_
 refine ve [18] [20] [900000] [(10, .loc 900000 0)] ?_
 refine ve [20] [22] [900000] [(11, .loc 900000 3)] ?_
 refine zAY [10, 16, 22, 1800001] [24, 25] [12] [900000] [900000] [(12, .bsl 12 3)] [(12, .box 107 [.loc 900000 1, .loc 900000 2, .loc 900000 3]), (900000, .box 43 [.v (.int .i64 c1.Kind), .v (.int .i64 c1.A), .v (.int .i64 c1.B), .v (.int .i64 c1.C), .v (.string ⟨⟨c1.S⟩⟩), .v (.string ⟨⟨c1.T⟩⟩), .v (.bool c1.Must)])] rfl rfl rfl rfl (by kernel_rfl) (by kernel_rfl) (by kernel_rfl) ⟨rfl, trivial⟩ (fun w0 X X0 σ0 _ => by refine zOL (T := tab) 12 rfl rfl rfl rfl rfl rfl rfl rfl rfl rfl rfl rfl rfl rfl ?_; refine zAC ?_; exact zAz ⟨rfl, trivial⟩ ⟨rfl, rfl, trivial⟩ rfl) ?_
 refine ve [24] [4] [12] [(2, .bsl 12 3)] ?_
 refine zBr rfl rfl ?_
 refine zAB ?_
 exact rN
def zBp (fu : Nat) (field1 : Int) (w2 : Bs) (x_ : Unit) : Option (Int × Bool) := bnd (zHh fu w2) fun r3 => cnd (!r3.2) (bnd (zIK fu r3.1) fun r4 => cnd (r4 == w2) (cnd (field1 == 105) (some (r3.1, true)) (some (r3.1, (decide (r3.1 ≥ 0))))) (some (r3.1, false))) (some (r3.1, false))
def zBJ (fu : Nat) (field1 : Int) (w2 : Bs) : Option (Int × Bool) := cnd (field1 != 105) (cnd (w2 == ([45] : Bs)) (some ((-1), (field1 == 111))) (cnd (w2 == ([115, 101, 108, 102] : Bs)) (some ((-2), true)) (cnd (w2 == ([108, 97, 115, 116] : Bs)) (some ((-3), true)) ((zBp fu field1 w2) ())))) ((zBp fu field1 w2) ())
set_option maxHeartbeats 10000000 in
set_option maxRecDepth 100000 in
theorem zDi (fu : Nat) (field1 : Int) (w2 : Bs) : ∀ r, zBJ fu field1 w2 = some r → DC zAi Tryz.prog 52 [.v (.int .u8 field1), .v (.string ⟨⟨w2⟩⟩)] (.tup [.v (.int .i64 r.1), .v (.bool r.2)]) := by
 intro r hr
 refine zAL (r := r)  (args := [.v (.int .u8 field1), .v (.string ⟨⟨w2⟩⟩)]) (S := []) (N0 := []) (post := fun r p S => p = .tup [.v (.int .i64 r.1), .v (.bool r.2)] ∧ S = []) Tryz.func52 rfl rfl hr fun w0 X X0 σ0 _ => ?_
 refine sr ?_
 refine pe 2 ?_
 refine ns ?_
 refine zAE ?_
 refine sr ?_
 refine pe 2 ?_
 refine ns ?_
 refine zBl (zBp fu field1 w2) (fun (_ : Unit) => [(0, .v (.int .u8 field1)), (1, .v (.string ⟨⟨w2⟩⟩))]) (fun (_ : Unit) => []) ?_ fun hj1 => ?_
 ·rintro _
  refine zAB ?_
  refine sr ?_
  refine pe 1 ?_
  refine zAM (enc := fun (r3 : (Int × Bool)) => .tup [.v (.int .i64 r3.1), .err r3.2]) (qs := [.v (.string ⟨⟨w2⟩⟩)]) (zRH fu w2) rfl rfl ⟨⟨_, rfl, .rfl⟩, trivial⟩ (fun _ => rfl) call86 rfl rfl fun r3 hr3 => ?_
  refine pe 5 ?_
  refine ns ?_
  refine sr ?_
  refine pe 2 ?_
  refine po_err Tryz.underlying122 rfl rfl rfl rfl rfl rfl ?_
  refine pe 1 ?_
  refine zAN (j := 27) rfl ?_ ?_
  ·refine pe 1 ?_
   refine zAM (enc := fun (r4 : Bs) => .v (.string ⟨⟨r4⟩⟩)) (qs := [.v (.int .i64 r3.1)]) (zNo fu r3.1) rfl rfl ⟨⟨_, rfl, .rfl⟩, trivial⟩ (fun _ => rfl) zQv rfl rfl fun r4 hr4 => ?_
   refine pe 4 ?_
   refine zAN (j := 33) rfl ?_ ?_
   ·refine pe 3 ?_
    refine zAN (j := 36) rfl ?_ ?_
    ·refine pe 6 ?_
     refine ns ?_
     exact rN
    ·refine pe 6 ?_
     refine ns ?_
     exact rN
   ·refine pe 9 ?_
    refine ns ?_
    exact rN
  ·refine pe 15 ?_
   refine ns ?_
   exact rN
 ·refine zAR rfl ?_ ?_
  ·refine sr ?_
   refine pe 1 ?_
   refine ns ?_
   refine zAP ?_
   refine sr ?_
   refine pe 2 ?_
   refine ns ?_
   refine zAR rfl ?_ ?_
   ·refine sr ?_
    refine pe 4 ?_
    refine ns ?_
    exact rN
   ·refine sr ?_
    refine pe 2 ?_
    refine ns ?_
    refine zAR rfl ?_ ?_
    ·refine sr ?_
     refine pe 2 ?_
     refine ns ?_
     exact rN
    ·refine sr ?_
     refine pe 2 ?_
     refine ns ?_
     refine zAR rfl ?_ ?_
     ·refine sr ?_
      refine pe 2 ?_
      refine ns ?_
      exact rN
     ·refine zAG ?_
      refine zAJ ?_
      exact zAU (hj1 ()) ⟨rfl, rfl, trivial⟩ trivial rfl
  ·refine zAG ?_
   exact zAU (hj1 ()) ⟨rfl, rfl, trivial⟩ trivial rfl
def zCg (_fu : Nat) : Option Unit := some ()
set_option maxRecDepth 100000 in
theorem zFz (fu : Nat) (c1 : Op) : ∀ r, zCg fu = some r → FC zAi Tryz.prog 53 [.loc 900000 0] [(900000, .box 43 [.v (.int .i64 c1.Kind), .v (.int .i64 c1.A), .v (.int .i64 c1.B), .v (.int .i64 c1.C), .v (.string ⟨⟨c1.S⟩⟩), .v (.string ⟨⟨c1.T⟩⟩), .v (.bool c1.Must)])] [900000] fun p S' => p = .bsl 9 2 ∧ S' = [(900000, .box 43 [.v (.int .i64 c1.Kind), .v (.int .i64 c1.A), .v (.int .i64 c1.B), .v (.int .i64 c1.C), .v (.string ⟨⟨c1.S⟩⟩), .v (.string ⟨⟨c1.T⟩⟩), .v (.bool c1.Must)]), (9, .box 112 [.loc 900000 4, .loc 900000 5])] := by
 intro r hr
 refine zAL (r := r)  (args := [.loc 900000 0]) (S := [(900000, .box 43 [.v (.int .i64 c1.Kind), .v (.int .i64 c1.A), .v (.int .i64 c1.B), .v (.int .i64 c1.C), .v (.string ⟨⟨c1.S⟩⟩), .v (.string ⟨⟨c1.T⟩⟩), .v (.bool c1.Must)])]) (N0 := [900000]) (post := fun r p S => p = .bsl 9 2 ∧ S = [(900000, .box 43 [.v (.int .i64 c1.Kind), .v (.int .i64 c1.A), .v (.int .i64 c1.B), .v (.int .i64 c1.C), .v (.string ⟨⟨c1.S⟩⟩), .v (.string ⟨⟨c1.T⟩⟩), .v (.bool c1.Must)]), (9, .box 112 [.loc 900000 4, .loc 900000 5])]) Tryz.func53 rfl rfl hr fun w0 X X0 σ0 _ => ?_
 refine sr ?_
 refine pe 1 ?_
 refine ns ?_
 refine zAE ?_
 refine zBD (E' := [(0, .loc 900000 0)]) (S' := [(900000, .box 43 [.v (.int .i64 c1.Kind), .v (.int .i64 c1.A), .v (.int .i64 c1.B), .v (.int .i64 c1.C), .v (.string ⟨⟨c1.S⟩⟩), .v (.string ⟨⟨c1.T⟩⟩), .v (.bool c1.Must)])]) ?_ ⟨rfl, trivial⟩ ⟨rfl, trivial⟩ rfl
 refine zBM [0, 1, 3, 0, 8, 24, 63, 127] mixed (by kernel_rfl) (by kernel_rfl) rfl rfl ?_
 refine ve [0] [6] [900000] [(3, .loc 900000 0)] ?_
 refine ve [6] [8] [900000] [(4, .loc 900000 0)] ?_
 refine ve [8] [10] [900000] [(5, .loc 900000 4)] ?_
 refine ve [0] [12] [900000] [(6, .loc 900000 0)] ?_
 refine ve [12] [14] [900000] [(7, .loc 900000 0)] ?_
 refine ve [14] [16] [900000] [(8, .loc 900000 5)] ?_
 refine zAY [10, 16, 1800001] [18, 19] [9] [900000] [900000] [(9, .bsl 9 2)] [(9, .box 112 [.loc 900000 4, .loc 900000 5]), (900000, .box 43 [.v (.int .i64 c1.Kind), .v (.int .i64 c1.A), .v (.int .i64 c1.B), .v (.int .i64 c1.C), .v (.string ⟨⟨c1.S⟩⟩), .v (.string ⟨⟨c1.T⟩⟩), .v (.bool c1.Must)])] rfl rfl rfl rfl (by kernel_rfl) (by kernel_rfl) (by kernel_rfl) ⟨rfl, trivial⟩ (fun w0 X X0 σ0 _ => by refine zOL (T := tab) 9 rfl rfl rfl rfl rfl rfl rfl rfl rfl rfl rfl rfl rfl rfl ?_; refine zAC ?_; exact zAz ⟨rfl, trivial⟩ ⟨rfl, rfl, trivial⟩ rfl) ?_
 refine ve [18] [4] [9] [(2, .bsl 9 2)] ?_
 refine zBr rfl rfl ?_
 refine zAB ?_
 exact rN
def zBa (fu : Nat) (s1 : Bs) (prefix2 : Bs) : Option Bool := bnd (zAZ fu s1 prefix2) fun r3 => some r3
set_option maxRecDepth 100000 in
theorem zFf (fu : Nat) (s1 : Bs) (prefix2 : Bs) : ∀ r, zBa fu s1 prefix2 = some r → DC zAi Tryz.prog 88 [.v (.string ⟨⟨s1⟩⟩), .v (.string ⟨⟨prefix2⟩⟩)] (.v (.bool r)) := by
 intro r hr
 refine zAL (r := r)  (args := [.v (.string ⟨⟨s1⟩⟩), .v (.string ⟨⟨prefix2⟩⟩)]) (S := []) (N0 := []) (post := fun r p S => p = .v (.bool r) ∧ S = []) Tryz.func88 rfl rfl hr fun w0 X X0 σ0 _ => ?_
 refine sr ?_
 refine pe 1 ?_
 refine ns ?_
 refine sr ?_
 refine pe 2 ?_
 refine zAM (enc := fun (r3 : Bool) => .v (.bool r3)) (qs := [.v (.string ⟨⟨s1⟩⟩), .v (.string ⟨⟨prefix2⟩⟩)]) (zB4 fu s1 prefix2) rfl rfl ⟨⟨_, rfl, .rfl⟩, ⟨_, rfl, .rfl⟩, trivial⟩ (fun _ => rfl) zO4 rfl rfl fun r3 hr3 => ?_
 refine pe 1 ?_
 refine ns ?_
 exact rN
def zAb (_fu : Nat) (l1 : (List Int)) : Option Bs := some (zDx l1)
set_option maxRecDepth 100000 in
theorem zER (fu : Nat) (l1 : (List Int)) : ∀ r, zAb fu l1 = some r → FC zAi Tryz.prog 30 [.loc 900000 0] [(900000, .box 62 [.nloc 900000 0, .ownb 900001]), (900001, .arr 5 1 (l1.map zAA))] [900000, 900001] fun p S' => p = .v (.string ⟨⟨r⟩⟩) ∧ S' = [(900000, .box 62 [.nloc 900000 0, .junk])] := by
 intro r hr
 refine zAL (r := r)  (args := [.loc 900000 0]) (S := [(900000, .box 62 [.nloc 900000 0, .ownb 900001]), (900001, .arr 5 1 (l1.map zAA))]) (N0 := [900000, 900001]) (post := fun r p S => p = .v (.string ⟨⟨r⟩⟩) ∧ S = [(900000, .box 62 [.nloc 900000 0, .junk])]) Tryz.func30 rfl rfl hr fun w0 X X0 σ0 _ => ?_
 refine sr ?_
 refine pe 1 ?_
 refine ns ?_
 refine zAE ?_
 refine zBD (E' := [(0, .loc 900000 0)]) (S' := [(900000, .box 62 [.nloc 900000 0, .ownb 900001]), (900001, .arr 5 1 (l1.map zAA))]) ?_ ⟨rfl, trivial⟩ ⟨rfl, rfl, trivial⟩ rfl
 refine zBM [0, 1, 3, 7, 15, 0, 32, 96, 224, 480, 1023, 2047] mixed (by kernel_rfl) (by kernel_rfl) rfl rfl ?_
 refine ve [0] [6] [900000] [(3, .loc 900000 0)] ?_
 refine ve [6] [8] [900000] [(4, .loc 900000 0)] ?_
 refine ve [8] [10] [900000] [(5, .loc 900000 1)] ?_
 refine vf [10, 1800001] [12] [] [900000, 900001] [900000] [(6, .ownb 900001)] [(900000, .box 62 [.nloc 900000 0, .ownb 900001])] ?_
 refine zAY [12, 1800003] [14] [] [900001] [900001] [(7, .dat 900001)] [(900001, .arr 5 1 (l1.map zAA))] rfl rfl rfl rfl (by kernel_rfl) (by kernel_rfl) (by kernel_rfl) ⟨rfl, trivial⟩ (fun w0 X X0 σ0 _ => by refine zFL rfl rfl rfl rfl rfl rfl ?_; refine zAC ?_; exact zAz ⟨rfl, trivial⟩ ⟨rfl, trivial⟩ rfl) ?_
 refine ve [0] [16] [900000] [(8, .loc 900000 0)] ?_
 refine ve [16] [18] [900000] [(9, .loc 900000 0)] ?_
 refine ve [18] [20] [900000] [(10, .loc 900000 1)] ?_
 refine vf [20, 1800001] [22] [] [900000, 900001] [900000] [(11, .ownb 900001)] [(900000, .box 62 [.nloc 900000 0, .ownb 900001])] ?_
 refine zAY [22, 1800003] [24, 22] [] [900001] [900001] [(12, .v (.int .i64 ((l1.length : Nat) : Int))), (11, .own 900001)] [(900001, .arr 5 1 (l1.map zAA))] rfl rfl rfl rfl (by kernel_rfl) (by kernel_rfl) (by kernel_rfl) ⟨rfl, trivial⟩ (fun w0 X X0 σ0 _ => by refine zKT 11 (q := .own 900001) rfl .ownb ?_; refine zCQ (T := tab) zAA l1 rfl rfl rfl rfl rfl rfl rfl rfl rfl ?_; refine zAC ?_; exact zAz ⟨rfl, rfl, trivial⟩ ⟨rfl, trivial⟩ rfl) ?_
 refine zAY [12, 14, 22, 24, 1800001, 1800003] [26, 12, 14, 22, 1800001, 1800003] [] [900000, 900001] [] [(13, .v (.string ⟨⟨(zDx l1)⟩⟩)), (11, .sl 1 false (l1.map zAA))] [(900000, .box 62 [.nloc 900000 0, .junk])] rfl rfl rfl rfl (by kernel_rfl) (by kernel_rfl) (by kernel_rfl) trivial (fun w0 X X0 σ0 _ => by refine zFv zAA l1 (fun _ => rfl) rfl rfl rfl rfl rfl rfl rfl Tryz.underlying127 (by kernel_rfl) rfl rfl rfl rfl ?_; refine zAC ?_; exact zAz ⟨rfl, rfl, trivial⟩ ⟨rfl, trivial⟩ rfl) ?_
 refine ve [26] [4] [] [(2, .v (.string ⟨⟨(zDx l1)⟩⟩))] ?_
 refine zBr rfl rfl ?_
 refine zAB ?_
 exact rN
def zAe (_fu : Nat) : Option Unit := some ()
set_option maxRecDepth 100000 in
theorem zDv (fu : Nat) (l1 : (List Int)) : ∀ r, zAe fu = some r → FC zAi Tryz.prog 98 [.loc 900000 0] [(900000, .box 62 [.nloc 900000 0, .ownb 900001]), (900001, .arr 5 1 (l1.map zAA))] [900000, 900001] fun p S' => p = .tup [] ∧ S' = [(900000, .box 62 [.nloc 900000 0, .ownb 900001]), (900001, .arr 5 1 (l1.map zAA))] := by
 intro r hr
 refine zAL (r := r)  (args := [.loc 900000 0]) (S := [(900000, .box 62 [.nloc 900000 0, .ownb 900001]), (900001, .arr 5 1 (l1.map zAA))]) (N0 := [900000, 900001]) (post := fun r p S => p = .tup [] ∧ S = [(900000, .box 62 [.nloc 900000 0, .ownb 900001]), (900001, .arr 5 1 (l1.map zAA))]) Tryz.func98 rfl rfl hr fun w0 X X0 σ0 _ => ?_
 refine sr ?_
 refine pe 3 ?_
 refine zHl 900000 0 rfl rfl rfl rfl rfl rfl ?_ ?_
 ·refine pe 1 ?_
  refine zF3 (T := tab) Tryz.underlying59 rfl rfl rfl rfl rfl rfl rfl rfl ?_
  refine ns ?_
  refine zBC rfl ?_
  refine zAD ?_
  refine pe 2 ?_
  refine zF0 (T := tab) Tryz.underlying59 Tryz.underlying160 rfl rfl Tryz.func120 rfl rfl rfl rfl rfl rfl rfl rfl rfl (by kernel_rfl) rfl rfl rfl rfl rfl rfl rfl rfl rfl rfl rfl ?_
  refine pe 2 ?_
  refine zAK (T := tab) rfl rfl rfl rfl rfl rfl rfl rfl rfl rfl rfl rfl ?_
  refine zAC ?_
  refine zEO 900000 [.nloc 900000 0, .ownb 900001] rfl ⟨.nloc1, .rfl, trivial⟩ rfl ?_
  exact zDj (T := tab) rfl rfl rfl ⟨rfl, rfl⟩ ⟨rfl, rfl, trivial⟩ rfl
 ·refine pe 1 ?_
  refine zF3 (T := tab) Tryz.underlying59 rfl rfl rfl rfl rfl rfl rfl rfl ?_
  refine ns ?_
  refine zAx rfl ?_
  refine sr ?_
  refine pe 5 ?_
  refine zF3 (T := tab) Tryz.underlying59 rfl rfl rfl rfl rfl rfl rfl rfl ?_
  refine ns ?_
  refine zAx rfl ?_
  refine zAG ?_
  refine zEO 900000 [.nloc 900000 0, .ownb 900001] rfl ⟨.nloc1, .rfl, trivial⟩ rfl ?_
  exact zDj (T := tab) rfl rfl rfl ⟨rfl, rfl⟩ ⟨rfl, rfl, trivial⟩ rfl
def zAv (fu : Nat) (c1 : Int) (l2 : (List Int)) : Option (Bool × (List Int)) := bnd (zAe fu) fun r3 => bnd (zED 1 (l2.length + ([c1] : List Int).length)) fun _ => some (false, (l2 ++ [c1]))
set_option maxRecDepth 100000 in
theorem zBu (fu : Nat) (c1 : Int) (l2 : (List Int)) : ∀ r, zAv fu c1 l2 = some r → FC zAi Tryz.prog 89 [.loc 900000 0, .v (.int .u8 c1)] [(900000, .box 62 [.nloc 900000 0, .ownb 900001]), (900001, .arr 5 1 (l2.map zAA))] [900000] fun p S' => p = .err r.1 ∧ S' = [(900000, .box 62 [.nloc 900000 0, .ownb 900001]), (900001, .arr 5 1 (r.2.map zAA))] := by
 intro r hr
 refine zAL (r := r)  (args := [.loc 900000 0, .v (.int .u8 c1)]) (S := [(900000, .box 62 [.nloc 900000 0, .ownb 900001]), (900001, .arr 5 1 (l2.map zAA))]) (N0 := [900000]) (post := fun r p S => p = .err r.1 ∧ S = [(900000, .box 62 [.nloc 900000 0, .ownb 900001]), (900001, .arr 5 1 (r.2.map zAA))]) Tryz.func89 rfl rfl hr fun w0 X X0 σ0 _ => ?_
 refine sr ?_
 refine pe 1 ?_
 refine ns ?_
 refine sr ?_
 refine pe 1 ?_
 refine zDY (enc := fun (r3 : Unit) => .tup []) (first := []) (cap := []) (qs := [.loc 900000 0]) (Sc := [(900000, .box 62 [.nloc 900000 0, .ownb 900001]), (900001, .arr 5 1 (l2.map zAA))]) (fun r3 hr3 => zA5 [(900000, 900000), (900001, 900001)] [900000, 900001] (zDv fu l2 _ hr3) rfl rfl rfl rfl rfl rfl) (zBe ⟨rfl, rfl, trivial⟩ rfl) rfl rfl rfl rfl ⟨⟨_, rfl, .rfl⟩, trivial⟩ (fun _ => rfl) zOw rfl rfl fun r3 hr3 => ?_
 refine ns ?_
 refine sr ?_
 refine pe 6 ?_
 refine zDo (T := tab) (rows := [c1].map zAA) 13 rfl rfl rfl rfl rfl rfl rfl rfl rfl rfl rfl rfl rfl rfl ?_
 refine zKT 11 (q := .own 900001) rfl .ownb ?_
 refine zDb (T := tab) zAA l2 ([c1] : List Int) rfl rfl rfl rfl rfl rfl rfl rfl rfl rfl rfl rfl rfl rfl (zLC _) rfl rfl rfl rfl rfl ?_
 refine po_toB 900001 14 rfl rfl (by simp) ?_
 refine pe 2 ?_
 refine zAK (T := tab) rfl rfl rfl rfl rfl rfl rfl rfl rfl rfl rfl rfl ?_
 refine ns ?_
 refine sr ?_
 refine pe 1 ?_
 refine ns ?_
 refine zM8 4 (q := .err false) rfl .err0 ?_
 exact rN
def zBd (fu : Nat) (s1 : Bs) : Nat → Int × (List Int) → Option (Bs × Bs × Bool)
 | 0, _ => none
 | k1 + 1, (i3, l4) => cnd (decide (i3 < ((s1.length : Nat) : Int))) (bnd (chr s1 i3) fun b5 => cnd (b5 == 34) (bnd (zAb fu l4) fun r6 => bnd (rng .i64 (i3 + 1)) fun i7 => bnd (zC6 s1 i7 ((s1.length : Nat) : Int)) fun s8 => some (r6, s8, true)) (bnd (chr s1 i3) fun b9 => cnd (b9 != 92) (bnd (chr s1 i3) fun b17 => bnd (zAv fu b17 l4) fun r18 => bnd (rng .i64 (i3 + 1)) fun i23 => (zBd fu s1 k1) (i23, r18.2)) (bnd (rng .i64 (i3 + 1)) fun i10 => cnd (decide (i10 < ((s1.length : Nat) : Int))) (bnd (rng .i64 (i3 + 1)) fun i11 => bnd (chr s1 i11) fun b12 => cnd (b12 == 34) (bnd (rng .i64 (i3 + 1)) fun i15 => bnd (chr s1 i15) fun b19 => bnd (zAv fu b19 l4) fun r20 => bnd (rng .i64 (i15 + 1)) fun i24 => (zBd fu s1 k1) (i24, r20.2)) (bnd (rng .i64 (i3 + 1)) fun i13 => bnd (chr s1 i13) fun b14 => cnd (b14 == 92) (bnd (rng .i64 (i3 + 1)) fun i16 => bnd (chr s1 i16) fun b21 => bnd (zAv fu b21 l4) fun r22 => bnd (rng .i64 (i16 + 1)) fun i25 => (zBd fu s1 k1) (i25, r22.2)) (some ([], [], false)))) (some ([], [], false))))) (some ([], [], false))
def zA6 (fu : Nat) (s1 : Bs) : Option (Bs × Bs × Bool) := bnd (zBa fu s1 [34]) fun r2 => cnd (!r2) (some ([], [], false)) ((zBd fu s1) fu (1, []))
set_option maxHeartbeats 10000000 in
set_option maxRecDepth 100000 in
theorem zFl (fu : Nat) (s1 : Bs) : ∀ r, zA6 fu s1 = some r → DC zAi Tryz.prog 54 [.v (.string ⟨⟨s1⟩⟩)] (.tup [.v (.string ⟨⟨r.1⟩⟩), .v (.string ⟨⟨r.2.1⟩⟩), .v (.bool r.2.2)]) := by
 intro r hr
 refine zAL (r := r)  (args := [.v (.string ⟨⟨s1⟩⟩)]) (S := []) (N0 := []) (post := fun r p S => p = .tup [.v (.string ⟨⟨r.1⟩⟩), .v (.string ⟨⟨r.2.1⟩⟩), .v (.bool r.2.2)] ∧ S = []) Tryz.func54 rfl rfl hr fun w0 X X0 σ0 _ => ?_
 refine sr ?_
 refine pe 3 ?_
 refine ns ?_
 refine sr ?_
 refine zBE (T := tab) 5 rfl rfl rfl rfl rfl rfl rfl rfl rfl ?_
 refine zLK 5 [.nloc 5 0, .v (.slice none 0 0)] rfl ⟨.nloc0, .rfl, trivial⟩ rfl ?_
 refine zFK 5050 5 1 5 1 rfl rfl rfl rfl rfl rfl ?_
 refine ns ?_
 refine zAE ?_
 refine sr ?_
 refine pe 1 ?_
 refine zAM (enc := fun (r2 : Bool) => .v (.bool r2)) (qs := [.v (.string ⟨⟨s1⟩⟩), .v (.string ⟨⟨[34]⟩⟩)]) (zFf fu s1 [34]) rfl rfl ⟨⟨_, rfl, .rfl⟩, ⟨_, rfl, .rfl⟩, trivial⟩ (fun _ => rfl) call88 rfl rfl fun r2 hr2 => ?_
 refine pe 1 ?_
 refine ns ?_
 refine zAR rfl ?_ ?_
 ·refine sr ?_
  refine pe 3 ?_
  refine ns ?_
  exact rN
 ·refine zAG ?_
  refine zAB ?_
  refine zAE ?_
  refine sr ?_
  refine pe 1 ?_
  refine ns ?_
  refine zAP ?_
  refine zCE (zBd fu s1) (fun ((i3, l4) : Int × (List Int)) => [(0, .v (.string ⟨⟨s1⟩⟩)), (5, .loc 5 0), (6, .v (.int .i64 i3))]) (fun ((i3, l4) : Int × (List Int)) => [(5050, .arr 5 1 (l4.map zAA)), (5, .box 62 [.nloc 5 0, .ownb 5050])]) fu (1, []) (fun _ => rfl) ⟨rfl, rfl, rfl, trivial⟩ ⟨rfl, rfl, trivial⟩ rfl ?_
  rintro k1 ⟨i3, l4⟩
  refine zAE ?_
  refine sr ?_
  refine pe 4 ?_
  refine ns ?_
  refine zAR rfl ?_ ?_
  ·refine zAG ?_
   refine zAB ?_
   refine zAE ?_
   refine zAP ?_
   refine zAE ?_
   refine zAP ?_
   refine sr ?_
   refine pe 2 ?_
   refine zCn (T := tab) (s := s1) rfl rfl rfl rfl rfl rfl rfl fun b5 hb5 => ?_
   refine pe 2 ?_
   refine ns ?_
   refine zAR rfl ?_ ?_
   ·refine zAE ?_
    refine zBD (E' := [(0, .v (.string ⟨⟨s1⟩⟩)), (5, .loc 5 0), (6, .v (.int .i64 i3))]) (S' := [(5050, .arr 5 1 (l4.map zAA)), (5, .box 62 [.nloc 5 0, .ownb 5050])]) ?_ ⟨rfl, rfl, rfl, trivial⟩ ⟨rfl, rfl, trivial⟩ rfl
    refine zBM [0, 0, 0, 4, 14, 1, 63, 127] mixed (by kernel_rfl) (by kernel_rfl) rfl rfl ?_
    refine zAj (M := (zAb fu l4)) (ment := [(42, []), (10101, []), (11, [5])]) [10, 11, 10101] [42, 10101, 11] [] [5, 5050] [] (fun r6 => [(21, .v (.string ⟨⟨r6⟩⟩))]) (fun r6 => [(5, .box 62 [.nloc 5 0, .junk])]) rfl rfl (fun _ => rfl) (fun _ => rfl) (by kernel_rfl) (by kernel_rfl) (fun _ => by kernel_rfl) (fun _ => trivial) (fun w0 X X0 σ0 _ => by refine zAh [] (enc := fun (r6 : Bs) => .v (.string ⟨⟨r6⟩⟩)) (Sr := fun (r6 : Bs) => [(5, .box 62 [.nloc 5 0, .junk])]) (first := []) (cap := []) (qs := [.loc 5 0]) (Sc := [(5, .box 62 [.nloc 5 0, .ownb 5050]), (5050, .arr 5 1 (l4.map zAA))]) (N0 := [5, 5050]) (NR := [5]) (fun r6 hr6 => zA5 [(900000, 5), (900001, 5050)] [900000, 900001] (zER fu l4 _ hr6) rfl rfl rfl rfl rfl rfl) ⟨rfl, rfl, trivial⟩ (fun _ => rfl) rfl rfl rfl rfl rfl rfl rfl (fun _ => rfl) (fun _ => rfl) rfl rfl rfl ⟨⟨_, rfl, .rfl⟩, trivial⟩ zLQ rfl rfl fun r6 hr6 => ?_; refine zAC ?_; exact zBj ⟨rfl, trivial⟩ ⟨rfl, trivial⟩ rfl) fun r6 hr6 => ?_
    refine ve [0] [44] [] [(22, .v (.string ⟨⟨s1⟩⟩))] ?_
    refine ve [12] [46] [] [(23, .v (.int .i64 i3))] ?_
    refine zAj (M := (rng .i64 (i3 + 1))) (ment := [(48, [])]) [46] [48] [] [] [] (fun i7 => [(24, .v (.int .i64 i7))]) (fun i7 => []) rfl rfl (fun _ => rfl) (fun _ => rfl) (by kernel_rfl) (by kernel_rfl) (fun _ => by kernel_rfl) (fun _ => trivial) (fun w0 X X0 σ0 _ => by refine zAV (T := tab) rfl rfl rfl rfl fun i7 hi7 => ?_; refine zAC ?_; exact zBj ⟨rfl, trivial⟩ trivial rfl) fun i7 hi7 => ?_
    refine zAj (M := (zC6 s1 i7 ((s1.length : Nat) : Int))) (ment := [(50, [])]) [44, 48] [50] [] [] [] (fun s8 => [(25, .v (.string ⟨⟨s8⟩⟩))]) (fun s8 => []) rfl rfl (fun _ => rfl) (fun _ => rfl) (by kernel_rfl) (by kernel_rfl) (fun _ => by kernel_rfl) (fun _ => trivial) (fun w0 X X0 σ0 _ => by refine zGt (T := tab) rfl rfl rfl rfl rfl rfl rfl rfl fun s8 hs8 => ?_; refine zAC ?_; exact zBj ⟨rfl, trivial⟩ trivial rfl) fun s8 hs8 => ?_
    refine ve [42] [4] [] [(2, .v (.string ⟨⟨r6⟩⟩))] ?_
    refine ve [50] [6] [] [(3, .v (.string ⟨⟨s8⟩⟩))] ?_
    refine ve [] [8] [] [(4, .v (.bool true))] ?_
    refine zBr rfl rfl ?_
    refine zAB ?_
    exact rN
   ·refine sr ?_
    refine pe 2 ?_
    refine zCn (T := tab) (s := s1) rfl rfl rfl rfl rfl rfl rfl fun b9 hb9 => ?_
    refine pe 2 ?_
    refine ns ?_
    refine zAR rfl ?_ ?_
    ·refine zAG ?_
     refine zAJ ?_
     refine zAB ?_
     refine zAD ?_
     refine pe 2 ?_
     refine zCn (T := tab) (s := s1) rfl rfl rfl rfl rfl rfl rfl fun b17 hb17 => ?_
     refine zAh [5050] (enc := fun (r18 : (Bool × (List Int))) => .err r18.1) (Sr := fun (r18 : (Bool × (List Int))) => [(5, .box 62 [.nloc 5 0, .ownb 5050]), (5050, .arr 5 1 (r18.2.map zAA))]) (first := []) (cap := []) (qs := [.loc 5 0, .v (.int .u8 b17)]) (Sc := [(5, .box 62 [.nloc 5 0, .ownb 5050]), (5050, .arr 5 1 (l4.map zAA))]) (N0 := [5]) (NR := [5, 5050]) (fun r18 hr18 => zA5 [(900000, 5), (900001, 5050)] [900000, 900001] (zBu fu b17 l4 _ hr18) rfl rfl rfl rfl rfl rfl) ⟨rfl, rfl, trivial⟩ (fun _ => rfl) rfl rfl rfl rfl rfl rfl rfl (fun _ => rfl) (fun _ => rfl) rfl rfl rfl ⟨⟨_, rfl, .rfl⟩, ⟨_, rfl, .rfl⟩, trivial⟩ zNn rfl rfl fun r18 hr18 => ?_
     refine zAC ?_
     refine zAJ ?_
     refine zAB ?_
     refine zAD ?_
     refine pe 1 ?_
     refine zAV (T := tab) rfl rfl rfl rfl fun i23 hi23 => ?_
     refine pe 1 ?_
     refine zAC ?_
     exact zBX (i23, r18.2) ⟨rfl, rfl, rfl, trivial⟩ ⟨rfl, rfl, trivial⟩ rfl
    ·refine sr ?_
     refine pe 1 ?_
     refine zAV (T := tab) rfl rfl rfl rfl fun i10 hi10 => ?_
     refine pe 4 ?_
     refine zAN (j := 37) rfl ?_ ?_
     ·refine pe 2 ?_
      refine zAV (T := tab) rfl rfl rfl rfl fun i11 hi11 => ?_
      refine zCn (T := tab) (s := s1) rfl rfl rfl rfl rfl rfl rfl fun b12 hb12 => ?_
      refine pe 2 ?_
      refine zAN (j := 43) rfl ?_ ?_
      ·refine pe 8 ?_
       refine zAC ?_
       refine zAB (zBC rfl ?_)
       refine zAD ?_
       refine pe 1 ?_
       refine zAV (T := tab) rfl rfl rfl rfl fun i15 hi15 => ?_
       refine pe 1 ?_
       refine zAC ?_
       refine zAJ ?_
       refine zAB ?_
       refine zAD ?_
       refine pe 2 ?_
       refine zCn (T := tab) (s := s1) rfl rfl rfl rfl rfl rfl rfl fun b19 hb19 => ?_
       refine zAh [5050] (enc := fun (r20 : (Bool × (List Int))) => .err r20.1) (Sr := fun (r20 : (Bool × (List Int))) => [(5, .box 62 [.nloc 5 0, .ownb 5050]), (5050, .arr 5 1 (r20.2.map zAA))]) (first := []) (cap := []) (qs := [.loc 5 0, .v (.int .u8 b19)]) (Sc := [(5, .box 62 [.nloc 5 0, .ownb 5050]), (5050, .arr 5 1 (l4.map zAA))]) (N0 := [5]) (NR := [5, 5050]) (fun r20 hr20 => zA5 [(900000, 5), (900001, 5050)] [900000, 900001] (zBu fu b19 l4 _ hr20) rfl rfl rfl rfl rfl rfl) ⟨rfl, rfl, trivial⟩ (fun _ => rfl) rfl rfl rfl rfl rfl rfl rfl (fun _ => rfl) (fun _ => rfl) rfl rfl rfl ⟨⟨_, rfl, .rfl⟩, ⟨_, rfl, .rfl⟩, trivial⟩ zNn rfl rfl fun r20 hr20 => ?_
       refine zAC ?_
       refine zAJ ?_
       refine zAB ?_
       refine zAD ?_
       refine pe 1 ?_
       refine zAV (T := tab) rfl rfl rfl rfl fun i24 hi24 => ?_
       refine pe 1 ?_
       refine zAC ?_
       exact zBX (i24, r20.2) ⟨rfl, rfl, rfl, trivial⟩ ⟨rfl, rfl, trivial⟩ rfl
      ·refine pe 2 ?_
       refine zAV (T := tab) rfl rfl rfl rfl fun i13 hi13 => ?_
       refine zCn (T := tab) (s := s1) rfl rfl rfl rfl rfl rfl rfl fun b14 hb14 => ?_
       refine pe 4 ?_
       refine ns ?_
       refine zAR rfl ?_ ?_
       ·refine zAD ?_
        refine pe 1 ?_
        refine zAV (T := tab) rfl rfl rfl rfl fun i16 hi16 => ?_
        refine pe 1 ?_
        refine zAC ?_
        refine zAJ ?_
        refine zAB ?_
        refine zAD ?_
        refine pe 2 ?_
        refine zCn (T := tab) (s := s1) rfl rfl rfl rfl rfl rfl rfl fun b21 hb21 => ?_
        refine zAh [5050] (enc := fun (r22 : (Bool × (List Int))) => .err r22.1) (Sr := fun (r22 : (Bool × (List Int))) => [(5, .box 62 [.nloc 5 0, .ownb 5050]), (5050, .arr 5 1 (r22.2.map zAA))]) (first := []) (cap := []) (qs := [.loc 5 0, .v (.int .u8 b21)]) (Sc := [(5, .box 62 [.nloc 5 0, .ownb 5050]), (5050, .arr 5 1 (l4.map zAA))]) (N0 := [5]) (NR := [5, 5050]) (fun r22 hr22 => zA5 [(900000, 5), (900001, 5050)] [900000, 900001] (zBu fu b21 l4 _ hr22) rfl rfl rfl rfl rfl rfl) ⟨rfl, rfl, trivial⟩ (fun _ => rfl) rfl rfl rfl rfl rfl rfl rfl (fun _ => rfl) (fun _ => rfl) rfl rfl rfl ⟨⟨_, rfl, .rfl⟩, ⟨_, rfl, .rfl⟩, trivial⟩ zNn rfl rfl fun r22 hr22 => ?_
        refine zAC ?_
        refine zAJ ?_
        refine zAB ?_
        refine zAD ?_
        refine pe 1 ?_
        refine zAV (T := tab) rfl rfl rfl rfl fun i25 hi25 => ?_
        refine pe 1 ?_
        refine zAC ?_
        exact zBX (i25, r22.2) ⟨rfl, rfl, rfl, trivial⟩ ⟨rfl, rfl, trivial⟩ rfl
       ·refine sr ?_
        refine pe 3 ?_
        refine ns ?_
        exact rN
     ·refine pe 14 ?_
      refine zAC ?_
      refine zAB (zAx rfl ?_)
      refine sr ?_
      refine pe 3 ?_
      refine ns ?_
      exact rN
  ·refine zAr rfl ?_
   refine zAB ?_
   refine sr ?_
   refine pe 3 ?_
   refine ns ?_
   exact rN
def zEk (n2 : Int) (x_ : Unit) : Option Bool := cnd (n2 == (-2)) (some true) (cnd (n2 == (-3)) (some true) (cnd (decide (n2 ≥ 0)) (some (decide (n2 < 400))) (some false)))
def zFS (_fu : Nat) (field1 : Int) (n2 : Int) : Option Bool := cnd (field1 == 111) (cnd (n2 == (-1)) (some true) ((zEk n2) ())) (cnd (field1 == 110) ((zEk n2) ()) (cnd (field1 == 105) (cnd (decide (n2 ≥ (-1000))) (some (decide (n2 ≤ 1000))) (some false)) (some (n2 == 0))))
set_option maxHeartbeats 10000000 in
set_option maxRecDepth 100000 in
theorem zHd (fu : Nat) (field1 : Int) (n2 : Int) : ∀ r, zFS fu field1 n2 = some r → DC zAi Tryz.prog 102 [.v (.int .u8 field1), .v (.int .i64 n2)] (.v (.bool r)) := by
 intro r hr
 refine zAL (r := r)  (args := [.v (.int .u8 field1), .v (.int .i64 n2)]) (S := []) (N0 := []) (post := fun r p S => p = .v (.bool r) ∧ S = []) Tryz.func102 rfl rfl hr fun w0 X X0 σ0 _ => ?_
 refine sr ?_
 refine pe 1 ?_
 refine ns ?_
 refine zAE ?_
 refine sr ?_
 refine pe 1 ?_
 refine ns ?_
 refine zAP ?_
 refine zAE ?_
 refine zAP ?_
 refine zAE ?_
 refine zBl (zEk n2) (fun (_ : Unit) => [(1, .v (.int .i64 n2))]) (fun (_ : Unit) => []) ?_ fun hj1 => ?_
 ·rintro _
  refine zAB ?_
  refine zAE ?_
  refine sr ?_
  refine pe 3 ?_
  refine zAN (j := 16) rfl ?_ ?_
  ·refine pe 12 ?_
   refine ns ?_
   exact rN
  ·refine pe 4 ?_
   refine zAN (j := 20) rfl ?_ ?_
   ·refine pe 8 ?_
    refine ns ?_
    exact rN
   ·refine pe 3 ?_
    refine zAN (j := 23) rfl ?_ ?_
    ·refine pe 5 ?_
     refine ns ?_
     exact rN
    ·refine pe 5 ?_
     refine ns ?_
     exact rN
 ·refine zAP ?_
  refine zAE ?_
  refine zAP ?_
  refine zAE ?_
  refine zAE ?_
  refine sr ?_
  refine pe 2 ?_
  refine ns ?_
  refine zAR rfl ?_ ?_
  ·refine zAr rfl ?_
   refine zAB ?_
   refine sr ?_
   refine pe 2 ?_
   refine ns ?_
   refine zAR rfl ?_ ?_
   ·refine sr ?_
    refine pe 1 ?_
    refine ns ?_
    exact rN
   ·refine zAG ?_
    refine zAJ ?_
    exact zAU (hj1 ()) ⟨rfl, trivial⟩ trivial rfl
  ·refine zAG ?_
   refine zAB ?_
   refine zAE ?_
   refine sr ?_
   refine pe 2 ?_
   refine ns ?_
   refine zAR rfl ?_ ?_
   ·refine zAr rfl ?_
    exact zAU (hj1 ()) ⟨rfl, trivial⟩ trivial rfl
   ·refine zAG ?_
    refine zAB ?_
    refine sr ?_
    refine pe 2 ?_
    refine ns ?_
    refine zAR rfl ?_ ?_
    ·refine zAr rfl ?_
     refine zAB ?_
     refine zAE ?_
     refine sr ?_
     refine pe 3 ?_
     refine zAN (j := 30) rfl ?_ ?_
     ·refine pe 4 ?_
      refine ns ?_
      exact rN
     ·refine pe 4 ?_
      refine ns ?_
      exact rN
    ·refine zAG ?_
     refine zAB ?_
     refine zAr rfl ?_
     refine zAB ?_
     refine sr ?_
     refine pe 3 ?_
     refine ns ?_
     exact rN
def zD2 (fu : Nat) (s1 : Bs) (substr2 : Bs) : Option Int := bnd (zFX fu s1 substr2) fun r3 => some r3
set_option maxRecDepth 100000 in
theorem zHC (fu : Nat) (s1 : Bs) (substr2 : Bs) : ∀ r, zD2 fu s1 substr2 = some r → DC zAi Tryz.prog 141 [.v (.string ⟨⟨s1⟩⟩), .v (.string ⟨⟨substr2⟩⟩)] (.v (.int .i64 r)) := by
 intro r hr
 refine zAL (r := r)  (args := [.v (.string ⟨⟨s1⟩⟩), .v (.string ⟨⟨substr2⟩⟩)]) (S := []) (N0 := []) (post := fun r p S => p = .v (.int .i64 r) ∧ S = []) Tryz.func141 rfl rfl hr fun w0 X X0 σ0 _ => ?_
 refine sr ?_
 refine pe 1 ?_
 refine ns ?_
 refine sr ?_
 refine pe 2 ?_
 refine zAM (enc := fun (r3 : Int) => .v (.int .i64 r3)) (qs := [.v (.string ⟨⟨s1⟩⟩), .v (.string ⟨⟨substr2⟩⟩)]) (zJz fu s1 substr2) rfl rfl ⟨⟨_, rfl, .rfl⟩, ⟨_, rfl, .rfl⟩, trivial⟩ (fun _ => rfl) zNp rfl rfl fun r3 hr3 => ?_
 refine pe 1 ?_
 refine ns ?_
 exact rN
def zCR (fu : Nat) (s1 : Bs) (substr2 : Bs) : Option Bool := bnd (zD2 fu s1 substr2) fun r3 => some (decide (r3 ≥ 0))
set_option maxRecDepth 100000 in
theorem zFs (fu : Nat) (s1 : Bs) (substr2 : Bs) : ∀ r, zCR fu s1 substr2 = some r → DC zAi Tryz.prog 123 [.v (.string ⟨⟨s1⟩⟩), .v (.string ⟨⟨substr2⟩⟩)] (.v (.bool r)) := by
 intro r hr
 refine zAL (r := r)  (args := [.v (.string ⟨⟨s1⟩⟩), .v (.string ⟨⟨substr2⟩⟩)]) (S := []) (N0 := []) (post := fun r p S => p = .v (.bool r) ∧ S = []) Tryz.func123 rfl rfl hr fun w0 X X0 σ0 _ => ?_
 refine sr ?_
 refine pe 1 ?_
 refine ns ?_
 refine sr ?_
 refine pe 2 ?_
 refine zAM (enc := fun (r3 : Int) => .v (.int .i64 r3)) (qs := [.v (.string ⟨⟨s1⟩⟩), .v (.string ⟨⟨substr2⟩⟩)]) (zHC fu s1 substr2) rfl rfl ⟨⟨_, rfl, .rfl⟩, ⟨_, rfl, .rfl⟩, trivial⟩ (fun _ => rfl) zRM rfl rfl fun r3 hr3 => ?_
 refine pe 2 ?_
 refine ns ?_
 exact rN
def zCc (fu : Nat) (field1 : Int) (s2 : Bs) : Option Bool := cnd (field1 == 115) (cnd (decide (((s2.length : Nat) : Int) ≤ 200)) (bnd (zCR fu s2 [10]) fun r3 => some (!r3)) (some false)) (some (s2 == ([] : Bs)))
set_option maxRecDepth 100000 in
theorem zGA (fu : Nat) (field1 : Int) (s2 : Bs) : ∀ r, zCc fu field1 s2 = some r → DC zAi Tryz.prog 103 [.v (.int .u8 field1), .v (.string ⟨⟨s2⟩⟩)] (.v (.bool r)) := by
 intro r hr
 refine zAL (r := r)  (args := [.v (.int .u8 field1), .v (.string ⟨⟨s2⟩⟩)]) (S := []) (N0 := []) (post := fun r p S => p = .v (.bool r) ∧ S = []) Tryz.func103 rfl rfl hr fun w0 X X0 σ0 _ => ?_
 refine sr ?_
 refine pe 1 ?_
 refine ns ?_
 refine zAE ?_
 refine sr ?_
 refine pe 2 ?_
 refine ns ?_
 refine zAR rfl ?_ ?_
 ·refine sr ?_
  refine pe 4 ?_
  refine zAN (j := 10) rfl ?_ ?_
  ·refine pe 1 ?_
   refine zAM (enc := fun (r3 : Bool) => .v (.bool r3)) (qs := [.v (.string ⟨⟨s2⟩⟩), .v (.string ⟨⟨[10]⟩⟩)]) (zFs fu s2 [10]) rfl rfl ⟨⟨_, rfl, .rfl⟩, ⟨_, rfl, .rfl⟩, trivial⟩ (fun _ => rfl) zR4 rfl rfl fun r3 hr3 => ?_
   refine pe 3 ?_
   refine ns ?_
   exact rN
  ·refine pe 5 ?_
   refine ns ?_
   exact rN
 ·refine zAG ?_
  refine zAB ?_
  refine sr ?_
  refine pe 3 ?_
  refine ns ?_
  exact rN
def zDO (fu : Nat) (o1 : Op) (r2 : (Op_form × Bool)) (ok11 : Bool) : Option Bool := bnd (zCg fu) fun r12 => cnd ok11 (bnd (rng .i64 (3 + 0)) fun i13 => bnd (chr r2.1.fields i13) fun b14 => bnd (zCc fu b14 o1.S) fun r15 => cnd r15 (bnd (rng .i64 (3 + 1)) fun i16 => bnd (chr r2.1.fields i16) fun b17 => bnd (zCc fu b17 o1.T) fun r18 => some r18) (some false)) (some false)
def zEB (fu : Nat) (o1 : Op) (r2 : (Op_form × Bool)) (ok6 : Bool) : Option Bool := cnd ok6 (bnd (chr r2.1.fields 1) fun b7 => bnd (zFS fu b7 o1.B) fun r8 => cnd r8 (bnd (chr r2.1.fields 2) fun b9 => bnd (zFS fu b9 o1.C) fun r10 => (zDO fu o1 r2) r10) ((zDO fu o1 r2) false)) ((zDO fu o1 r2) false)
def zD0 (fu : Nat) (o1 : Op) : Option Bool := bnd (zCz fu o1.Kind) fun r2 => bnd (zCW fu) fun r3 => cnd r2.2 (bnd (chr r2.1.fields 0) fun b4 => bnd (zFS fu b4 o1.A) fun r5 => (zEB fu o1 r2) r5) ((zEB fu o1 r2) false)
set_option maxHeartbeats 10000000 in
set_option maxRecDepth 100000 in
theorem zHz (fu : Nat) (o1 : Op) : ∀ r, zD0 fu o1 = some r → DC zAi Tryz.prog 70 [.agg (cOp o1)] (.v (.bool r)) := by
 intro r hr
 refine zAL (r := r)  (args := [.agg (cOp o1)]) (S := []) (N0 := []) (post := fun r p S => p = .v (.bool r) ∧ S = []) Tryz.func70 rfl rfl hr fun w0 X X0 σ0 _ => ?_
 refine sr ?_
 refine zFC  1 rfl rfl rfl rfl rfl rfl rfl rfl rfl rfl ?_
 refine pe 1 ?_
 refine ns ?_
 refine sr ?_
 refine pe 2 ?_
 refine zAM (enc := fun (r2 : (Op_form × Bool)) => .tup [.agg (zF4 r2.1), .v (.bool r2.2)]) (qs := [.v (.int .i64 o1.Kind)]) (zFJ fu o1.Kind) rfl rfl ⟨⟨_, rfl, .rfl⟩, trivial⟩ (fun _ => rfl) zMv rfl rfl fun r2 hr2 => ?_
 refine pe 3 ?_
 refine zBE (T := tab) 3 rfl rfl rfl rfl rfl rfl rfl rfl rfl ?_
 refine zAK (T := tab) rfl rfl rfl rfl rfl rfl rfl rfl rfl rfl rfl rfl ?_
 refine pe 1 ?_
 refine ns ?_
 refine zAE ?_
 refine sr ?_
 refine zAh [400150] (enc := fun (r3 : Unit) => .bsl 400150 3) (Sr := fun (r3 : Unit) => [(1, .box 43 [.v (.int .i64 o1.Kind), .v (.int .i64 o1.A), .v (.int .i64 o1.B), .v (.int .i64 o1.C), .v (.string ⟨⟨o1.S⟩⟩), .v (.string ⟨⟨o1.T⟩⟩), .v (.bool o1.Must)]), (400150, .box 107 [.loc 1 1, .loc 1 2, .loc 1 3])]) (first := []) (cap := []) (qs := [.loc 1 0]) (Sc := [(1, .box 43 [.v (.int .i64 o1.Kind), .v (.int .i64 o1.A), .v (.int .i64 o1.B), .v (.int .i64 o1.C), .v (.string ⟨⟨o1.S⟩⟩), .v (.string ⟨⟨o1.T⟩⟩), .v (.bool o1.Must)])]) (N0 := [1]) (NR := [1, 400150]) (fun r3 hr3 => zA5 [(12, 400150), (900000, 1)] [12, 900000] (zEp fu o1 _ hr3) rfl rfl rfl rfl rfl rfl) ⟨rfl, trivial⟩ (fun _ => rfl) rfl rfl rfl rfl rfl rfl rfl (fun _ => rfl) (fun _ => rfl) rfl rfl rfl ⟨⟨_, rfl, .rfl⟩, trivial⟩ zM3 rfl rfl fun r3 hr3 => ?_
 refine pe 2 ?_
 refine ns ?_
 refine zBl (zDO fu o1 r2) (fun (ok11 : Bool) => [(1, .loc 1 0), (3, .loc 3 0), (4, .v (.bool ok11))]) (fun (ok11 : Bool) => [(1, .box 43 [.v (.int .i64 o1.Kind), .v (.int .i64 o1.A), .v (.int .i64 o1.B), .v (.int .i64 o1.C), .v (.string ⟨⟨o1.S⟩⟩), .v (.string ⟨⟨o1.T⟩⟩), .v (.bool o1.Must)]), (3, .box 101 [.v (.string ⟨⟨r2.1.word⟩⟩), .v (.string ⟨⟨r2.1.fields⟩⟩)])]) ?_ fun hj2 => ?_
 ·rintro ok11
  refine zO2 (m' := bnd (zCg fu) fun r12 => cnd ok11 (bnd (rng .i64 (3 + 0)) fun i13 => bnd (chr r2.1.fields i13) fun b14 => bnd (zCc fu b14 o1.S) fun r15 => cnd r15 (bnd (rng .i64 (3 + 1)) fun i16 => bnd (chr r2.1.fields i16) fun b17 => bnd (zCc fu b17 o1.T) fun r18 => some r18) (some false)) (some false)) rfl ?_
  refine zAB ?_
  refine zAE ?_
  refine sr ?_
  refine zAh [400340] (enc := fun (r12 : Unit) => .bsl 400340 2) (Sr := fun (r12 : Unit) => [(1, .box 43 [.v (.int .i64 o1.Kind), .v (.int .i64 o1.A), .v (.int .i64 o1.B), .v (.int .i64 o1.C), .v (.string ⟨⟨o1.S⟩⟩), .v (.string ⟨⟨o1.T⟩⟩), .v (.bool o1.Must)]), (400340, .box 112 [.loc 1 4, .loc 1 5])]) (first := []) (cap := []) (qs := [.loc 1 0]) (Sc := [(1, .box 43 [.v (.int .i64 o1.Kind), .v (.int .i64 o1.A), .v (.int .i64 o1.B), .v (.int .i64 o1.C), .v (.string ⟨⟨o1.S⟩⟩), .v (.string ⟨⟨o1.T⟩⟩), .v (.bool o1.Must)])]) (N0 := [1]) (NR := [1, 400340]) (fun r12 hr12 => zA5 [(9, 400340), (900000, 1)] [9, 900000] (zFz fu o1 _ hr12) rfl rfl rfl rfl rfl rfl) ⟨rfl, trivial⟩ (fun _ => rfl) rfl rfl rfl rfl rfl rfl rfl (fun _ => rfl) (fun _ => rfl) rfl rfl rfl ⟨⟨_, rfl, .rfl⟩, trivial⟩ zOE rfl rfl fun r12 hr12 => ?_
  refine pe 2 ?_
  refine ns ?_
  refine zAP ?_
  refine zEj 3 ?_
  refine sr ?_
  refine pe 1 ?_
  refine ns ?_
  refine zAE ?_
  refine zBC rfl ?_
  refine zAG ?_
  refine zAB ?_
  refine zAE ?_
  refine zAP ?_
  refine sr ?_
  refine pe 1 ?_
  refine zCb (T := tab) (i := 0) rfl rfl rfl rfl rfl rfl rfl rfl ?_
  refine pe 3 ?_
  refine ns ?_
  refine zEu mixed (by kernel_rfl) ?_
  refine zBs (T := tab) 2 rfl rfl ?_
  refine zGS (j := 42) rfl ?_ ?_
  ·refine zBs (T := tab) 3 rfl rfl ?_
   refine zIz (T := tab) rfl rfl rfl rfl fun i13 hi13 => ?_
   refine zKB (T := tab) (s := r2.1.fields) rfl rfl rfl rfl rfl rfl rfl fun b14 hb14 => ?_
   refine zBs (T := tab) 3 rfl rfl ?_
   refine zHY (enc := fun (r15 : Bool) => .v (.bool r15)) (qs := [.v (.int .u8 b14), .v (.string ⟨⟨o1.S⟩⟩)]) (zGA fu b14 o1.S) rfl rfl ⟨⟨_, rfl, .rfl⟩, ⟨_, rfl, .rfl⟩, trivial⟩ (fun _ => rfl) zMx rfl rfl fun r15 hr15 => ?_
   refine zBs (T := tab) 2 rfl rfl ?_
   refine zEG ?_
   refine zAJ ?_
   refine zAB ?_
   refine zAD ?_
   refine zAg (T := tab) 1 rfl rfl rfl rfl rfl ?_
   refine pe 1 ?_
   refine zAC ?_
   refine zAs 2 ?_
   refine sr ?_
   refine pe 1 ?_
   refine ns ?_
   refine zAE ?_
   refine zBC rfl ?_
   refine zAG ?_
   refine zAB ?_
   refine zAE ?_
   refine zAP ?_
   refine sr ?_
   refine pe 1 ?_
   refine zCb (T := tab) (i := 1) rfl rfl rfl rfl rfl rfl rfl rfl ?_
   refine pe 3 ?_
   refine ns ?_
   refine zEu mixed (by kernel_rfl) ?_
   refine zBs (T := tab) 2 rfl rfl ?_
   refine zGS (j := 42) rfl ?_ ?_
   ·refine zBs (T := tab) 3 rfl rfl ?_
    refine zIz (T := tab) rfl rfl rfl rfl fun i16 hi16 => ?_
    refine zKB (T := tab) (s := r2.1.fields) rfl rfl rfl rfl rfl rfl rfl fun b17 hb17 => ?_
    refine zBs (T := tab) 3 rfl rfl ?_
    refine zHY (enc := fun (r18 : Bool) => .v (.bool r18)) (qs := [.v (.int .u8 b17), .v (.string ⟨⟨o1.T⟩⟩)]) (zGA fu b17 o1.T) rfl rfl ⟨⟨_, rfl, .rfl⟩, ⟨_, rfl, .rfl⟩, trivial⟩ (fun _ => rfl) zMx rfl rfl fun r18 hr18 => ?_
    refine zBs (T := tab) 2 rfl rfl ?_
    refine zEG ?_
    refine zAJ ?_
    refine zAB ?_
    refine zAD ?_
    refine zAg (T := tab) 2 rfl rfl rfl rfl rfl ?_
    refine pe 1 ?_
    refine zAC ?_
    refine zAs 1 ?_
    refine sr ?_
    refine pe 1 ?_
    refine ns ?_
    refine zAE ?_
    refine zAx rfl ?_
    refine zAr rfl ?_
    refine zAB ?_
    refine sr ?_
    refine pe 2 ?_
    refine ns ?_
    exact rN
   ·refine zBs (T := tab) 11 rfl rfl ?_
    refine zEG ?_
    refine zAJ ?_
    refine zAB ?_
    refine zAD ?_
    refine zAg (T := tab) 2 rfl rfl rfl rfl rfl ?_
    refine pe 1 ?_
    refine zAC ?_
    refine zAs 1 ?_
    refine sr ?_
    refine pe 1 ?_
    refine ns ?_
    refine zAE ?_
    refine zAx rfl ?_
    refine zAr rfl ?_
    refine zAB ?_
    refine sr ?_
    refine pe 2 ?_
    refine ns ?_
    exact rN
  ·refine zBs (T := tab) 11 rfl rfl ?_
   refine zEG ?_
   refine zAJ ?_
   refine zAB ?_
   refine zAD ?_
   refine zAg (T := tab) 1 rfl rfl rfl rfl rfl ?_
   refine pe 1 ?_
   refine zAC ?_
   refine zAs 2 ?_
   refine sr ?_
   refine pe 1 ?_
   refine ns ?_
   refine zAE ?_
   refine zBC rfl ?_
   refine zAG ?_
   refine zAB ?_
   refine zAE ?_
   refine zAP ?_
   refine sr ?_
   refine pe 1 ?_
   refine zCb (T := tab) (i := 1) rfl rfl rfl rfl rfl rfl rfl rfl ?_
   refine pe 3 ?_
   refine ns ?_
   refine zEu mixed (by kernel_rfl) ?_
   refine zBs (T := tab) 13 rfl rfl ?_
   refine zEG ?_
   refine zAJ ?_
   refine zAB ?_
   refine zAD ?_
   refine zAg (T := tab) 2 rfl rfl rfl rfl rfl ?_
   refine pe 1 ?_
   refine zAC ?_
   refine zAs 1 ?_
   refine sr ?_
   refine pe 1 ?_
   refine ns ?_
   refine zAE ?_
   refine zAx rfl ?_
   refine zAr rfl ?_
   refine zAB ?_
   refine sr ?_
   refine pe 2 ?_
   refine ns ?_
   exact rN
 ·refine zAP ?_
  refine zEj 4 ?_
  refine sr ?_
  refine pe 1 ?_
  refine ns ?_
  refine zAE ?_
  refine zBC rfl ?_
  refine zAG ?_
  refine zAB ?_
  refine zAE ?_
  refine zBl (zEB fu o1 r2) (fun (ok6 : Bool) => [(1, .loc 1 0), (3, .loc 3 0), (4, .v (.bool ok6)), (15, .bsl 400150 3), (16, .v (.int .i64 3)), (17, .v (.int .i64 0))]) (fun (ok6 : Bool) => [(1, .box 43 [.v (.int .i64 o1.Kind), .v (.int .i64 o1.A), .v (.int .i64 o1.B), .v (.int .i64 o1.C), .v (.string ⟨⟨o1.S⟩⟩), .v (.string ⟨⟨o1.T⟩⟩), .v (.bool o1.Must)]), (400150, .box 107 [.loc 1 1, .loc 1 2, .loc 1 3]), (3, .box 101 [.v (.string ⟨⟨r2.1.word⟩⟩), .v (.string ⟨⟨r2.1.fields⟩⟩)])]) ?_ fun hj1 => ?_
  ·rintro ok6
   refine zAB ?_
   refine zAD ?_
   refine zAg (T := tab) 1 rfl rfl rfl rfl rfl ?_
   refine pe 1 ?_
   refine zAC ?_
   refine zAs 3 ?_
   refine sr ?_
   refine pe 1 ?_
   refine ns ?_
   refine zAE ?_
   refine zBC rfl ?_
   refine zAG ?_
   refine zAB ?_
   refine zAE ?_
   refine zAP ?_
   refine sr ?_
   refine pe 1 ?_
   refine zCb (T := tab) (i := 1) rfl rfl rfl rfl rfl rfl rfl rfl ?_
   refine pe 3 ?_
   refine ns ?_
   refine zEu mixed (by kernel_rfl) ?_
   refine zBs (T := tab) 2 rfl rfl ?_
   refine zGS (j := 23) rfl ?_ ?_
   ·refine zBs (T := tab) 3 rfl rfl ?_
    refine zKB (T := tab) (s := r2.1.fields) rfl rfl rfl rfl rfl rfl rfl fun b7 hb7 => ?_
    refine zBs (T := tab) 3 rfl rfl ?_
    refine zHY (enc := fun (r8 : Bool) => .v (.bool r8)) (qs := [.v (.int .u8 b7), .v (.int .i64 o1.B)]) (zHd fu b7 o1.B) rfl rfl ⟨⟨_, rfl, .rfl⟩, ⟨_, rfl, .rfl⟩, trivial⟩ (fun _ => rfl) zKi rfl rfl fun r8 hr8 => ?_
    refine zBs (T := tab) 2 rfl rfl ?_
    refine zEG ?_
    refine zAJ ?_
    refine zAB ?_
    refine zAD ?_
    refine zAg (T := tab) 2 rfl rfl rfl rfl rfl ?_
    refine pe 1 ?_
    refine zAC ?_
    refine zAs 2 ?_
    refine sr ?_
    refine pe 1 ?_
    refine ns ?_
    refine zAE ?_
    refine zBC rfl ?_
    refine zAG ?_
    refine zAB ?_
    refine zAE ?_
    refine zAP ?_
    refine sr ?_
    refine pe 1 ?_
    refine zCb (T := tab) (i := 2) rfl rfl rfl rfl rfl rfl rfl rfl ?_
    refine pe 3 ?_
    refine ns ?_
    refine zEu mixed (by kernel_rfl) ?_
    refine zBs (T := tab) 2 rfl rfl ?_
    refine zGS (j := 23) rfl ?_ ?_
    ·refine zBs (T := tab) 3 rfl rfl ?_
     refine zKB (T := tab) (s := r2.1.fields) rfl rfl rfl rfl rfl rfl rfl fun b9 hb9 => ?_
     refine zBs (T := tab) 3 rfl rfl ?_
     refine zHY (enc := fun (r10 : Bool) => .v (.bool r10)) (qs := [.v (.int .u8 b9), .v (.int .i64 o1.C)]) (zHd fu b9 o1.C) rfl rfl ⟨⟨_, rfl, .rfl⟩, ⟨_, rfl, .rfl⟩, trivial⟩ (fun _ => rfl) zKi rfl rfl fun r10 hr10 => ?_
     refine zBs (T := tab) 2 rfl rfl ?_
     refine zEG ?_
     refine zAJ ?_
     refine zAB ?_
     refine zAD ?_
     refine zAg (T := tab) 3 rfl rfl rfl rfl rfl ?_
     refine pe 1 ?_
     refine zAC ?_
     refine zAs 1 ?_
     refine sr ?_
     refine pe 1 ?_
     refine ns ?_
     refine zAE ?_
     refine zAx rfl ?_
     refine zAr rfl ?_
     exact zAU (hj2 r10) ⟨rfl, rfl, rfl, trivial⟩ ⟨rfl, rfl, trivial⟩ rfl
    ·refine zBs (T := tab) 10 rfl rfl ?_
     refine zEG ?_
     refine zAJ ?_
     refine zAB ?_
     refine zAD ?_
     refine zAg (T := tab) 3 rfl rfl rfl rfl rfl ?_
     refine pe 1 ?_
     refine zAC ?_
     refine zAs 1 ?_
     refine sr ?_
     refine pe 1 ?_
     refine ns ?_
     refine zAE ?_
     refine zAx rfl ?_
     refine zAr rfl ?_
     exact zAU (hj2 false) ⟨rfl, rfl, rfl, trivial⟩ ⟨rfl, rfl, trivial⟩ rfl
   ·refine zBs (T := tab) 10 rfl rfl ?_
    refine zEG ?_
    refine zAJ ?_
    refine zAB ?_
    refine zAD ?_
    refine zAg (T := tab) 2 rfl rfl rfl rfl rfl ?_
    refine pe 1 ?_
    refine zAC ?_
    refine zAs 2 ?_
    refine sr ?_
    refine pe 1 ?_
    refine ns ?_
    refine zAE ?_
    refine zBC rfl ?_
    refine zAG ?_
    refine zAB ?_
    refine zAE ?_
    refine zAP ?_
    refine sr ?_
    refine pe 1 ?_
    refine zCb (T := tab) (i := 2) rfl rfl rfl rfl rfl rfl rfl rfl ?_
    refine pe 3 ?_
    refine ns ?_
    refine zEu mixed (by kernel_rfl) ?_
    refine zBs (T := tab) 12 rfl rfl ?_
    refine zEG ?_
    refine zAJ ?_
    refine zAB ?_
    refine zAD ?_
    refine zAg (T := tab) 3 rfl rfl rfl rfl rfl ?_
    refine pe 1 ?_
    refine zAC ?_
    refine zAs 1 ?_
    refine sr ?_
    refine pe 1 ?_
    refine ns ?_
    refine zAE ?_
    refine zAx rfl ?_
    refine zAr rfl ?_
    exact zAU (hj2 false) ⟨rfl, rfl, rfl, trivial⟩ ⟨rfl, rfl, trivial⟩ rfl
  ·refine zAP ?_
   refine sr ?_
   refine pe 1 ?_
   refine zCb (T := tab) (i := 0) rfl rfl rfl rfl rfl rfl rfl rfl ?_
   refine pe 3 ?_
   refine ns ?_
   refine zEu mixed (by kernel_rfl) ?_
   refine zBs (T := tab) 2 rfl rfl ?_
   refine zGS (j := 23) rfl ?_ ?_
   ·refine zBs (T := tab) 3 rfl rfl ?_
    refine zKB (T := tab) (s := r2.1.fields) rfl rfl rfl rfl rfl rfl rfl fun b4 hb4 => ?_
    refine zBs (T := tab) 3 rfl rfl ?_
    refine zHY (enc := fun (r5 : Bool) => .v (.bool r5)) (qs := [.v (.int .u8 b4), .v (.int .i64 o1.A)]) (zHd fu b4 o1.A) rfl rfl ⟨⟨_, rfl, .rfl⟩, ⟨_, rfl, .rfl⟩, trivial⟩ (fun _ => rfl) zKi rfl rfl fun r5 hr5 => ?_
    refine zBs (T := tab) 2 rfl rfl ?_
    refine zEG ?_
    refine zAJ ?_
    exact zAU (hj1 r5) ⟨rfl, rfl, rfl, rfl, rfl, rfl, trivial⟩ ⟨rfl, rfl, rfl, trivial⟩ rfl
   ·refine zBs (T := tab) 10 rfl rfl ?_
    refine zEG ?_
    refine zAJ ?_
    exact zAU (hj1 false) ⟨rfl, rfl, rfl, rfl, rfl, rfl, trivial⟩ ⟨rfl, rfl, rfl, trivial⟩ rfl
set_option maxRecDepth 100000 in
theorem zDQ (fu : Nat) (l1 : (List Int)) : ∀ r, zAe fu = some r → FC zAi Tryz.prog 98 [.loc 900000 0] [(900000, .box 143 [.nloc 900000 0, .ownb 900001]), (900001, .arr 5 1 (l1.map zAA))] [900000, 900001] fun p S' => p = .tup [] ∧ S' = [(900000, .box 143 [.nloc 900000 0, .ownb 900001]), (900001, .arr 5 1 (l1.map zAA))] := by
 intro r hr
 refine zAL (r := r)  (args := [.loc 900000 0]) (S := [(900000, .box 143 [.nloc 900000 0, .ownb 900001]), (900001, .arr 5 1 (l1.map zAA))]) (N0 := [900000, 900001]) (post := fun r p S => p = .tup [] ∧ S = [(900000, .box 143 [.nloc 900000 0, .ownb 900001]), (900001, .arr 5 1 (l1.map zAA))]) Tryz.func98 rfl rfl hr fun w0 X X0 σ0 _ => ?_
 refine sr ?_
 refine pe 3 ?_
 refine zHl 900000 0 rfl rfl rfl rfl rfl rfl ?_ ?_
 ·refine pe 1 ?_
  refine zF3 (T := tab) Tryz.underlying59 rfl rfl rfl rfl rfl rfl rfl rfl ?_
  refine ns ?_
  refine zBC rfl ?_
  refine zAD ?_
  refine pe 2 ?_
  refine zF0 (T := tab) Tryz.underlying59 Tryz.underlying160 rfl rfl Tryz.func120 rfl rfl rfl rfl rfl rfl rfl rfl rfl (by kernel_rfl) rfl rfl rfl rfl rfl rfl rfl rfl rfl rfl rfl ?_
  refine pe 2 ?_
  refine zAK (T := tab) rfl rfl rfl rfl rfl rfl rfl rfl rfl rfl rfl rfl ?_
  refine zAC ?_
  refine zEO 900000 [.nloc 900000 0, .ownb 900001] rfl ⟨.nloc1, .rfl, trivial⟩ rfl ?_
  exact zDj (T := tab) rfl rfl rfl ⟨rfl, rfl⟩ ⟨rfl, rfl, trivial⟩ rfl
 ·refine pe 1 ?_
  refine zF3 (T := tab) Tryz.underlying59 rfl rfl rfl rfl rfl rfl rfl rfl ?_
  refine ns ?_
  refine zAx rfl ?_
  refine sr ?_
  refine pe 5 ?_
  refine zF3 (T := tab) Tryz.underlying59 rfl rfl rfl rfl rfl rfl rfl rfl ?_
  refine ns ?_
  refine zAx rfl ?_
  refine zAG ?_
  refine zEO 900000 [.nloc 900000 0, .ownb 900001] rfl ⟨.nloc1, .rfl, trivial⟩ rfl ?_
  exact zDj (T := tab) rfl rfl rfl ⟨rfl, rfl⟩ ⟨rfl, rfl, trivial⟩ rfl
def zAF (fu : Nat) (s1 : Bs) (l2 : (List Int)) : Option (Int × Bool × (List Int)) := bnd (zAe fu) fun r3 => bnd (zED 1 (l2.length + s1.length)) fun _ => some (((s1.length : Nat) : Int), false, (l2 ++ zAQ s1))
set_option maxRecDepth 100000 in
theorem zAW (fu : Nat) (s1 : Bs) (l2 : (List Int)) : ∀ r, zAF fu s1 l2 = some r → FC zAi Tryz.prog 65 [.loc 900000 0, .v (.string ⟨⟨s1⟩⟩)] [(900000, .box 143 [.nloc 900000 0, .ownb 900001]), (900001, .arr 5 1 (l2.map zAA))] [900000] fun p S' => p = .tup [.v (.int .i64 r.1), .err r.2.1] ∧ S' = [(900000, .box 143 [.nloc 900000 0, .ownb 900001]), (900001, .arr 5 1 (r.2.2.map zAA))] := by
 intro r hr
 refine zAL (r := r)  (args := [.loc 900000 0, .v (.string ⟨⟨s1⟩⟩)]) (S := [(900000, .box 143 [.nloc 900000 0, .ownb 900001]), (900001, .arr 5 1 (l2.map zAA))]) (N0 := [900000]) (post := fun r p S => p = .tup [.v (.int .i64 r.1), .err r.2.1] ∧ S = [(900000, .box 143 [.nloc 900000 0, .ownb 900001]), (900001, .arr 5 1 (r.2.2.map zAA))]) Tryz.func65 rfl rfl hr fun w0 X X0 σ0 _ => ?_
 refine sr ?_
 refine pe 2 ?_
 refine ns ?_
 refine sr ?_
 refine pe 1 ?_
 refine zDY (enc := fun (r3 : Unit) => .tup []) (first := []) (cap := []) (qs := [.loc 900000 0]) (Sc := [(900000, .box 143 [.nloc 900000 0, .ownb 900001]), (900001, .arr 5 1 (l2.map zAA))]) (fun r3 hr3 => zA5 [(900000, 900000), (900001, 900001)] [900000, 900001] (zDQ fu l2 _ hr3) rfl rfl rfl rfl rfl rfl) (zBe ⟨rfl, rfl, trivial⟩ rfl) rfl rfl rfl rfl ⟨⟨_, rfl, .rfl⟩, trivial⟩ (fun _ => rfl) zOw rfl rfl fun r3 hr3 => ?_
 refine ns ?_
 refine sr ?_
 refine pe 6 ?_
 refine zGO (T := tab) zAA l2 (fun _ => rfl) rfl rfl rfl rfl rfl rfl rfl rfl rfl rfl rfl rfl rfl rfl rfl rfl ?_
 refine pe 2 ?_
 refine zAK (T := tab) rfl rfl rfl rfl rfl rfl rfl rfl rfl rfl rfl rfl ?_
 refine ns ?_
 refine sr ?_
 refine pe 4 ?_
 refine ns ?_
 refine zM8 5 (q := .err false) rfl .err0 ?_
 exact rN
def zBz (fu : Nat) (n2 : Int) (l3 : (List Int)) (t4 : Bool) : Option (List Int) := cnd t4 (bnd (zIK fu n2) fun r5 => bnd (cat ([32] : Bs) r5) fun s6 => bnd (zAF fu s6 l3) fun r7 => some r7.2.2) (cnd (n2 == (-1)) (bnd (zAF fu [32, 45] l3) fun r8 => some r8.2.2) (cnd (n2 == (-2)) (bnd (zAF fu [32, 115, 101, 108, 102] l3) fun r9 => some r9.2.2) (bnd (zAF fu [32, 108, 97, 115, 116] l3) fun r10 => some r10.2.2)))
def zBO (fu : Nat) (field1 : Int) (n2 : Int) (l3 : (List Int)) : Option (List Int) := cnd (field1 == 46) (some l3) (cnd (field1 == 105) ((zBz fu n2 l3) (field1 == 105)) ((zBz fu n2 l3) (decide (n2 ≥ 0))))
set_option maxHeartbeats 10000000 in
set_option maxRecDepth 100000 in
theorem zDU (fu : Nat) (field1 : Int) (n2 : Int) (l3 : (List Int)) : ∀ r, zBO fu field1 n2 l3 = some r → FC zAi Tryz.prog 90 [.loc 900000 0, .v (.int .u8 field1), .v (.int .i64 n2)] [(900000, .box 143 [.nloc 900000 0, .ownb 900001]), (900001, .arr 5 1 (l3.map zAA))] [900000] fun p S' => p = .tup [] ∧ S' = [(900000, .box 143 [.nloc 900000 0, .ownb 900001]), (900001, .arr 5 1 (r.map zAA))] := by
 intro r hr
 refine zAL (r := r)  (args := [.loc 900000 0, .v (.int .u8 field1), .v (.int .i64 n2)]) (S := [(900000, .box 143 [.nloc 900000 0, .ownb 900001]), (900001, .arr 5 1 (l3.map zAA))]) (N0 := [900000]) (post := fun r p S => p = .tup [] ∧ S = [(900000, .box 143 [.nloc 900000 0, .ownb 900001]), (900001, .arr 5 1 (r.map zAA))]) Tryz.func90 rfl rfl hr fun w0 X X0 σ0 _ => ?_
 refine zAP ?_
 refine sr ?_
 refine pe 3 ?_
 refine ns ?_
 refine zAR rfl ?_ ?_
 ·exact rN
 ·refine zAE ?_
  refine sr ?_
  refine pe 3 ?_
  refine ns ?_
  refine zBl (zBz fu n2 l3) (fun (t4 : Bool) => [(0, .loc 900000 0), (2, .v (.int .i64 n2)), (13, .v (.bool t4))]) (fun (t4 : Bool) => [(900000, .box 143 [.nloc 900000 0, .ownb 900001]), (900001, .arr 5 1 (l3.map zAA))]) ?_ fun hj1 => ?_
  ·rintro t4
   refine zAB ?_
   refine zAR rfl ?_ ?_
   ·refine zBD (E' := [(0, .loc 900000 0), (2, .v (.int .i64 n2))]) (S' := [(900000, .box 143 [.nloc 900000 0, .ownb 900001]), (900001, .arr 5 1 (l3.map zAA))]) ?_ ⟨rfl, rfl, trivial⟩ ⟨rfl, rfl, trivial⟩ rfl
    refine zBM [0, 1, 3, 0, 8, 24, 63] mixed (by kernel_rfl) (by kernel_rfl) rfl rfl ?_
    refine ve [0] [36] [900000] [(18, .loc 900000 0)] ?_
    refine ve [36] [38] [900000] [(19, .loc 900000 0)] ?_
    refine ve [38] [40] [900000] [(20, .loc 900000 0)] ?_
    refine ve [4] [42] [] [(21, .v (.int .i64 n2))] ?_
    refine zAj (M := (zIK fu n2)) (ment := [(44, [])]) [42] [44] [] [] [] (fun r5 => [(22, .v (.string ⟨⟨r5⟩⟩))]) (fun r5 => []) rfl rfl (fun _ => rfl) (fun _ => rfl) (by kernel_rfl) (by kernel_rfl) (fun _ => by kernel_rfl) (fun _ => trivial) (fun w0 X X0 σ0 _ => by refine zAM (enc := fun (r5 : Bs) => .v (.string ⟨⟨r5⟩⟩)) (qs := [.v (.int .i64 n2)]) (zNo fu n2) rfl rfl ⟨⟨_, rfl, .rfl⟩, trivial⟩ (fun _ => rfl) zQv rfl rfl fun r5 hr5 => ?_; refine zAC ?_; exact zBj ⟨rfl, trivial⟩ trivial rfl) fun r5 hr5 => ?_
    refine zAj (M := (cat ([32] : Bs) r5)) (ment := [(46, [])]) [44] [46] [] [] [] (fun s6 => [(23, .v (.string ⟨⟨s6⟩⟩))]) (fun s6 => []) rfl rfl (fun _ => rfl) (fun _ => rfl) (by kernel_rfl) (by kernel_rfl) (fun _ => by kernel_rfl) (fun _ => trivial) (fun w0 X X0 σ0 _ => by refine zIZ rfl rfl rfl rfl rfl rfl fun s6 hs6 => ?_; refine zAC ?_; exact zBj ⟨rfl, trivial⟩ trivial rfl) fun s6 hs6 => ?_
    refine zAj (M := (zAF fu s6 l3)) (ment := [(48, []), (1800003, []), (1800001, [900000, 900001])]) [40, 46, 1800001, 1800003] [48, 1800003, 1800001] [900001] [900000] [] (fun r7 => [(24, .tup [.v (.int .i64 r7.1), .err r7.2.1])]) (fun r7 => [(900001, .arr 5 1 (r7.2.2.map zAA)), (900000, .box 143 [.nloc 900000 0, .ownb 900001])]) rfl rfl (fun _ => rfl) (fun _ => rfl) (by kernel_rfl) (by kernel_rfl) (fun _ => by kernel_rfl) (fun _ => trivial) (fun w0 X X0 σ0 _ => by refine zAh [900001] (enc := fun (r7 : (Int × Bool × (List Int))) => .tup [.v (.int .i64 r7.1), .err r7.2.1]) (Sr := fun (r7 : (Int × Bool × (List Int))) => [(900000, .box 143 [.nloc 900000 0, .ownb 900001]), (900001, .arr 5 1 (r7.2.2.map zAA))]) (first := []) (cap := []) (qs := [.loc 900000 0, .v (.string ⟨⟨s6⟩⟩)]) (Sc := [(900000, .box 143 [.nloc 900000 0, .ownb 900001]), (900001, .arr 5 1 (l3.map zAA))]) (N0 := [900000]) (NR := [900000, 900001]) (fun r7 hr7 => zA5 [(900000, 900000), (900001, 900001)] [900000, 900001] (zAW fu s6 l3 _ hr7) rfl rfl rfl rfl rfl rfl) ⟨rfl, rfl, trivial⟩ (fun _ => rfl) rfl rfl rfl rfl rfl rfl rfl (fun _ => rfl) (fun _ => rfl) rfl rfl rfl ⟨⟨_, rfl, .rfl⟩, ⟨_, rfl, .rfl⟩, trivial⟩ zFm rfl rfl fun r7 hr7 => ?_; refine zAC ?_; exact zBj ⟨rfl, trivial⟩ ⟨rfl, rfl, trivial⟩ rfl) fun r7 hr7 => ?_
    refine zBr rfl rfl ?_
    refine zAJ ?_
    exact zDj (T := tab) rfl rfl rfl ⟨rfl, rfl⟩ ⟨rfl, rfl, trivial⟩ rfl
   ·refine sr ?_
    refine pe 3 ?_
    refine ns ?_
    refine zAR rfl ?_ ?_
    ·refine zAD ?_
     refine pe 3 ?_
     refine zAh [900001] (enc := fun (r8 : (Int × Bool × (List Int))) => .tup [.v (.int .i64 r8.1), .err r8.2.1]) (Sr := fun (r8 : (Int × Bool × (List Int))) => [(900000, .box 143 [.nloc 900000 0, .ownb 900001]), (900001, .arr 5 1 (r8.2.2.map zAA))]) (first := []) (cap := []) (qs := [.loc 900000 0, .v (.string ⟨⟨[32, 45]⟩⟩)]) (Sc := [(900000, .box 143 [.nloc 900000 0, .ownb 900001]), (900001, .arr 5 1 (l3.map zAA))]) (N0 := [900000]) (NR := [900000, 900001]) (fun r8 hr8 => zA5 [(900000, 900000), (900001, 900001)] [900000, 900001] (zAW fu [32, 45] l3 _ hr8) rfl rfl rfl rfl rfl rfl) ⟨rfl, rfl, trivial⟩ (fun _ => rfl) rfl rfl rfl rfl rfl rfl rfl (fun _ => rfl) (fun _ => rfl) rfl rfl rfl ⟨⟨_, rfl, .rfl⟩, ⟨_, rfl, .rfl⟩, trivial⟩ zFm rfl rfl fun r8 hr8 => ?_
     refine zAC ?_
     refine zAJ ?_
     exact zDj (T := tab) rfl rfl rfl ⟨rfl, rfl⟩ ⟨rfl, rfl, trivial⟩ rfl
    ·refine sr ?_
     refine pe 3 ?_
     refine ns ?_
     refine zAR rfl ?_ ?_
     ·refine zAD ?_
      refine pe 3 ?_
      refine zAh [900001] (enc := fun (r9 : (Int × Bool × (List Int))) => .tup [.v (.int .i64 r9.1), .err r9.2.1]) (Sr := fun (r9 : (Int × Bool × (List Int))) => [(900000, .box 143 [.nloc 900000 0, .ownb 900001]), (900001, .arr 5 1 (r9.2.2.map zAA))]) (first := []) (cap := []) (qs := [.loc 900000 0, .v (.string ⟨⟨[32, 115, 101, 108, 102]⟩⟩)]) (Sc := [(900000, .box 143 [.nloc 900000 0, .ownb 900001]), (900001, .arr 5 1 (l3.map zAA))]) (N0 := [900000]) (NR := [900000, 900001]) (fun r9 hr9 => zA5 [(900000, 900000), (900001, 900001)] [900000, 900001] (zAW fu [32, 115, 101, 108, 102] l3 _ hr9) rfl rfl rfl rfl rfl rfl) ⟨rfl, rfl, trivial⟩ (fun _ => rfl) rfl rfl rfl rfl rfl rfl rfl (fun _ => rfl) (fun _ => rfl) rfl rfl rfl ⟨⟨_, rfl, .rfl⟩, ⟨_, rfl, .rfl⟩, trivial⟩ zFm rfl rfl fun r9 hr9 => ?_
      refine zAC ?_
      refine zAJ ?_
      exact zDj (T := tab) rfl rfl rfl ⟨rfl, rfl⟩ ⟨rfl, rfl, trivial⟩ rfl
     ·refine zAD ?_
      refine pe 3 ?_
      refine zAh [900001] (enc := fun (r10 : (Int × Bool × (List Int))) => .tup [.v (.int .i64 r10.1), .err r10.2.1]) (Sr := fun (r10 : (Int × Bool × (List Int))) => [(900000, .box 143 [.nloc 900000 0, .ownb 900001]), (900001, .arr 5 1 (r10.2.2.map zAA))]) (first := []) (cap := []) (qs := [.loc 900000 0, .v (.string ⟨⟨[32, 108, 97, 115, 116]⟩⟩)]) (Sc := [(900000, .box 143 [.nloc 900000 0, .ownb 900001]), (900001, .arr 5 1 (l3.map zAA))]) (N0 := [900000]) (NR := [900000, 900001]) (fun r10 hr10 => zA5 [(900000, 900000), (900001, 900001)] [900000, 900001] (zAW fu [32, 108, 97, 115, 116] l3 _ hr10) rfl rfl rfl rfl rfl rfl) ⟨rfl, rfl, trivial⟩ (fun _ => rfl) rfl rfl rfl rfl rfl rfl rfl (fun _ => rfl) (fun _ => rfl) rfl rfl rfl ⟨⟨_, rfl, .rfl⟩, ⟨_, rfl, .rfl⟩, trivial⟩ zFm rfl rfl fun r10 hr10 => ?_
      refine zAC ?_
      refine zAJ ?_
      exact zDj (T := tab) rfl rfl rfl ⟨rfl, rfl⟩ ⟨rfl, rfl, trivial⟩ rfl
  ·refine zAR rfl ?_ ?_
   ·refine zAG ?_
    exact zAU (hj1 (field1 == 105)) ⟨rfl, rfl, rfl, trivial⟩ ⟨rfl, rfl, trivial⟩ rfl
   ·refine zAD ?_
    refine pe 3 ?_
    refine zAC ?_
    exact zAU (hj1 (decide (n2 ≥ 0))) ⟨rfl, rfl, rfl, trivial⟩ ⟨rfl, rfl, trivial⟩ rfl
set_option maxRecDepth 100000 in
theorem zCT (fu : Nat) (l1 : (List Int)) : ∀ r, zAb fu l1 = some r → FC zAi Tryz.prog 30 [.loc 900000 0] [(900000, .box 143 [.nloc 900000 0, .ownb 900001]), (900001, .arr 5 1 (l1.map zAA))] [900000, 900001] fun p S' => p = .v (.string ⟨⟨r⟩⟩) ∧ S' = [(900000, .box 143 [.nloc 900000 0, .junk])] := by
 intro r hr
 refine zAL (r := r)  (args := [.loc 900000 0]) (S := [(900000, .box 143 [.nloc 900000 0, .ownb 900001]), (900001, .arr 5 1 (l1.map zAA))]) (N0 := [900000, 900001]) (post := fun r p S => p = .v (.string ⟨⟨r⟩⟩) ∧ S = [(900000, .box 143 [.nloc 900000 0, .junk])]) Tryz.func30 rfl rfl hr fun w0 X X0 σ0 _ => ?_
 refine sr ?_
 refine pe 1 ?_
 refine ns ?_
 refine zAE ?_
 refine zBD (E' := [(0, .loc 900000 0)]) (S' := [(900000, .box 143 [.nloc 900000 0, .ownb 900001]), (900001, .arr 5 1 (l1.map zAA))]) ?_ ⟨rfl, trivial⟩ ⟨rfl, rfl, trivial⟩ rfl
 refine zBM [0, 1, 3, 7, 15, 0, 32, 96, 224, 480, 1023, 2047] mixed (by kernel_rfl) (by kernel_rfl) rfl rfl ?_
 refine ve [0] [6] [900000] [(3, .loc 900000 0)] ?_
 refine ve [6] [8] [900000] [(4, .loc 900000 0)] ?_
 refine ve [8] [10] [900000] [(5, .loc 900000 1)] ?_
 refine vf [10, 1800001] [12] [] [900000, 900001] [900000] [(6, .ownb 900001)] [(900000, .box 143 [.nloc 900000 0, .ownb 900001])] ?_
 refine zAY [12, 1800003] [14] [] [900001] [900001] [(7, .dat 900001)] [(900001, .arr 5 1 (l1.map zAA))] rfl rfl rfl rfl (by kernel_rfl) (by kernel_rfl) (by kernel_rfl) ⟨rfl, trivial⟩ (fun w0 X X0 σ0 _ => by refine zFL rfl rfl rfl rfl rfl rfl ?_; refine zAC ?_; exact zAz ⟨rfl, trivial⟩ ⟨rfl, trivial⟩ rfl) ?_
 refine ve [0] [16] [900000] [(8, .loc 900000 0)] ?_
 refine ve [16] [18] [900000] [(9, .loc 900000 0)] ?_
 refine ve [18] [20] [900000] [(10, .loc 900000 1)] ?_
 refine vf [20, 1800001] [22] [] [900000, 900001] [900000] [(11, .ownb 900001)] [(900000, .box 143 [.nloc 900000 0, .ownb 900001])] ?_
 refine zAY [22, 1800003] [24, 22] [] [900001] [900001] [(12, .v (.int .i64 ((l1.length : Nat) : Int))), (11, .own 900001)] [(900001, .arr 5 1 (l1.map zAA))] rfl rfl rfl rfl (by kernel_rfl) (by kernel_rfl) (by kernel_rfl) ⟨rfl, trivial⟩ (fun w0 X X0 σ0 _ => by refine zKT 11 (q := .own 900001) rfl .ownb ?_; refine zCQ (T := tab) zAA l1 rfl rfl rfl rfl rfl rfl rfl rfl rfl ?_; refine zAC ?_; exact zAz ⟨rfl, rfl, trivial⟩ ⟨rfl, trivial⟩ rfl) ?_
 refine zAY [12, 14, 22, 24, 1800001, 1800003] [26, 12, 14, 22, 1800001, 1800003] [] [900000, 900001] [] [(13, .v (.string ⟨⟨(zDx l1)⟩⟩)), (11, .sl 1 false (l1.map zAA))] [(900000, .box 143 [.nloc 900000 0, .junk])] rfl rfl rfl rfl (by kernel_rfl) (by kernel_rfl) (by kernel_rfl) trivial (fun w0 X X0 σ0 _ => by refine zFv zAA l1 (fun _ => rfl) rfl rfl rfl rfl rfl rfl rfl Tryz.underlying127 (by kernel_rfl) rfl rfl rfl rfl ?_; refine zAC ?_; exact zAz ⟨rfl, rfl, trivial⟩ ⟨rfl, trivial⟩ rfl) ?_
 refine ve [26] [4] [] [(2, .v (.string ⟨⟨(zDx l1)⟩⟩))] ?_
 refine zBr rfl rfl ?_
 refine zAB ?_
 exact rN
def zFN (fu : Nat) (o1 : Op) (r3 : (Op_form × Bool)) (l19 : (List Int)) : Option (Bs × Int) := bnd (chr r3.1.fields 4) fun b20 => cnd (b20 == 115) (bnd (zGq fu o1.T) fun r21 => bnd (cat ([32] : Bs) r21) fun s22 => bnd (zAF fu s22 l19) fun r23 => bnd (zAb fu r23.2.2) fun r24 => some (r24, 0)) (bnd (zAb fu l19) fun r25 => some (r25, 0))
def zEd (fu : Nat) (o1 : Op) (r3 : (Op_form × Bool)) (l5 : (List Int)) : Option (Bs × Int) := bnd (zAF fu r3.1.word l5) fun r6 => bnd (zCW fu) fun r7 => bnd (chr r3.1.fields 0) fun b8 => bnd (zBO fu b8 o1.A r6.2.2) fun r9 => bnd (chr r3.1.fields 1) fun b10 => bnd (zBO fu b10 o1.B r9) fun r11 => bnd (chr r3.1.fields 2) fun b12 => bnd (zBO fu b12 o1.C r11) fun r13 => bnd (zCg fu) fun r14 => bnd (chr r3.1.fields 3) fun b15 => cnd (b15 == 115) (bnd (zGq fu o1.S) fun r16 => bnd (cat ([32] : Bs) r16) fun s17 => bnd (zAF fu s17 r13) fun r18 => (zFN fu o1 r3) r18.2.2) ((zFN fu o1 r3) r13)
def zFW (fu : Nat) (o1 : Op) : Option (Bs × Int) := bnd (zD0 fu o1) fun r2 => cnd (!r2) (some ([], 1)) (bnd (zCz fu o1.Kind) fun r3 => cnd o1.Must (bnd (zAF fu [33] []) fun r4 => (zEd fu o1 r3) r4.2.2) ((zEd fu o1 r3) []))
set_option maxHeartbeats 10000000 in
set_option maxRecDepth 100000 in
theorem zKI (fu : Nat) (o1 : Op) : ∀ r, zFW fu o1 = some r → DC zAi Tryz.prog 55 [.agg (cOp o1)] (.tup [.v (.string ⟨⟨r.1⟩⟩), .v (.int .i64 r.2)]) := by
 intro r hr
 refine zAL (r := r)  (args := [.agg (cOp o1)]) (S := []) (N0 := []) (post := fun r p S => p = .tup [.v (.string ⟨⟨r.1⟩⟩), .v (.int .i64 r.2)] ∧ S = []) Tryz.func55 rfl rfl hr fun w0 X X0 σ0 _ => ?_
 refine sr ?_
 refine zFC  1 rfl rfl rfl rfl rfl rfl rfl rfl rfl rfl ?_
 refine pe 2 ?_
 refine ns ?_
 refine zAE ?_
 refine sr ?_
 refine pe 1 ?_
 refine zAM (enc := fun (r2 : Bool) => .v (.bool r2)) (qs := [.agg (cOp o1)]) (zHz fu o1) rfl rfl ⟨⟨_, rfl, .rfl⟩, trivial⟩ (fun _ => rfl) zQf rfl rfl fun r2 hr2 => ?_
 refine pe 1 ?_
 refine ns ?_
 refine zAR rfl ?_ ?_
 ·refine sr ?_
  refine pe 2 ?_
  refine ns ?_
  exact rN
 ·refine zAG ?_
  refine zAB ?_
  refine sr ?_
  refine pe 2 ?_
  refine zAM (enc := fun (r3 : (Op_form × Bool)) => .tup [.agg (zF4 r3.1), .v (.bool r3.2)]) (qs := [.v (.int .i64 o1.Kind)]) (zFJ fu o1.Kind) rfl rfl ⟨⟨_, rfl, .rfl⟩, trivial⟩ (fun _ => rfl) zMv rfl rfl fun r3 hr3 => ?_
  refine pe 3 ?_
  refine zBE (T := tab) 4 rfl rfl rfl rfl rfl rfl rfl rfl rfl ?_
  refine zAK (T := tab) rfl rfl rfl rfl rfl rfl rfl rfl rfl rfl rfl rfl ?_
  refine pe 1 ?_
  refine ns ?_
  refine sr ?_
  refine zBE (T := tab) 6 rfl rfl rfl rfl rfl rfl rfl rfl rfl ?_
  refine zLK 6 [.nloc 6 0, .v (.slice none 0 0)] rfl ⟨.nloc0, .rfl, trivial⟩ rfl ?_
  refine zFK 5060 5 1 6 1 rfl rfl rfl rfl rfl rfl ?_
  refine ns ?_
  refine zAE ?_
  refine sr ?_
  refine pe 2 ?_
  refine ns ?_
  refine zBl (zEd fu o1 r3) (fun (l5 : (List Int)) => [(1, .loc 1 0), (4, .loc 4 0), (6, .loc 6 0)]) (fun (l5 : (List Int)) => [(6, .box 143 [.nloc 6 0, .ownb 5060]), (5060, .arr 5 1 (l5.map zAA)), (4, .box 101 [.v (.string ⟨⟨r3.1.word⟩⟩), .v (.string ⟨⟨r3.1.fields⟩⟩)]), (1, .box 43 [.v (.int .i64 o1.Kind), .v (.int .i64 o1.A), .v (.int .i64 o1.B), .v (.int .i64 o1.C), .v (.string ⟨⟨o1.S⟩⟩), .v (.string ⟨⟨o1.T⟩⟩), .v (.bool o1.Must)])]) ?_ fun hj1 => ?_
  ·rintro l5
   refine zAB ?_
   refine sr ?_
   refine pe 3 ?_
   refine zAh [5060] (enc := fun (r6 : (Int × Bool × (List Int))) => .tup [.v (.int .i64 r6.1), .err r6.2.1]) (Sr := fun (r6 : (Int × Bool × (List Int))) => [(6, .box 143 [.nloc 6 0, .ownb 5060]), (5060, .arr 5 1 (r6.2.2.map zAA))]) (first := []) (cap := []) (qs := [.loc 6 0, .v (.string ⟨⟨r3.1.word⟩⟩)]) (Sc := [(6, .box 143 [.nloc 6 0, .ownb 5060]), (5060, .arr 5 1 (l5.map zAA))]) (N0 := [6]) (NR := [6, 5060]) (fun r6 hr6 => zA5 [(900000, 6), (900001, 5060)] [900000, 900001] (zAW fu r3.1.word l5 _ hr6) rfl rfl rfl rfl rfl rfl) ⟨rfl, rfl, trivial⟩ (fun _ => rfl) rfl rfl rfl rfl rfl rfl rfl (fun _ => rfl) (fun _ => rfl) rfl rfl rfl ⟨⟨_, rfl, .rfl⟩, ⟨_, rfl, .rfl⟩, trivial⟩ zFm rfl rfl fun r6 hr6 => ?_
   refine ns ?_
   refine zAE ?_
   refine sr ?_
   refine zAh [400280] (enc := fun (r7 : Unit) => .bsl 400280 3) (Sr := fun (r7 : Unit) => [(1, .box 43 [.v (.int .i64 o1.Kind), .v (.int .i64 o1.A), .v (.int .i64 o1.B), .v (.int .i64 o1.C), .v (.string ⟨⟨o1.S⟩⟩), .v (.string ⟨⟨o1.T⟩⟩), .v (.bool o1.Must)]), (400280, .box 107 [.loc 1 1, .loc 1 2, .loc 1 3])]) (first := []) (cap := []) (qs := [.loc 1 0]) (Sc := [(1, .box 43 [.v (.int .i64 o1.Kind), .v (.int .i64 o1.A), .v (.int .i64 o1.B), .v (.int .i64 o1.C), .v (.string ⟨⟨o1.S⟩⟩), .v (.string ⟨⟨o1.T⟩⟩), .v (.bool o1.Must)])]) (N0 := [1]) (NR := [1, 400280]) (fun r7 hr7 => zA5 [(12, 400280), (900000, 1)] [12, 900000] (zEp fu o1 _ hr7) rfl rfl rfl rfl rfl rfl) ⟨rfl, trivial⟩ (fun _ => rfl) rfl rfl rfl rfl rfl rfl rfl (fun _ => rfl) (fun _ => rfl) rfl rfl rfl ⟨⟨_, rfl, .rfl⟩, trivial⟩ zM3 rfl rfl fun r7 hr7 => ?_
   refine pe 2 ?_
   refine ns ?_
   refine zAP ?_
   refine zEj 4 ?_
   refine sr ?_
   refine pe 1 ?_
   refine ns ?_
   refine zAE ?_
   refine zBC rfl ?_
   refine zAG ?_
   refine zAB ?_
   refine zAE ?_
   refine zAP ?_
   refine sr ?_
   refine pe 1 ?_
   refine zCb (T := tab) (i := 0) rfl rfl rfl rfl rfl rfl rfl rfl ?_
   refine pe 3 ?_
   refine ns ?_
   refine zBD (E' := [(1, .loc 1 0), (4, .loc 4 0), (6, .loc 6 0), (28, .bsl 400280 3), (29, .v (.int .i64 3)), (30, .v (.int .i64 0)), (7, .v (.int .i64 0)), (8, .loc 1 1)]) (S' := [(1, .box 43 [.v (.int .i64 o1.Kind), .v (.int .i64 o1.A), .v (.int .i64 o1.B), .v (.int .i64 o1.C), .v (.string ⟨⟨o1.S⟩⟩), .v (.string ⟨⟨o1.T⟩⟩), .v (.bool o1.Must)]), (400280, .box 107 [.loc 1 1, .loc 1 2, .loc 1 3]), (6, .box 143 [.nloc 6 0, .ownb 5060]), (5060, .arr 5 1 (r6.2.2.map zAA)), (4, .box 101 [.v (.string ⟨⟨r3.1.word⟩⟩), .v (.string ⟨⟨r3.1.fields⟩⟩)])]) ?_ ⟨rfl, rfl, rfl, rfl, rfl, rfl, rfl, rfl, trivial⟩ ⟨rfl, rfl, rfl, rfl, rfl, trivial⟩ rfl
   refine zBM [0, 1, 0, 7, 0, 16, 48, 127] mixed (by kernel_rfl) (by kernel_rfl) rfl rfl ?_
   refine ve [8] [70] [4] [(35, .loc 4 1)] ?_
   refine vf [9, 70] [72] [] [4] [4] [(36, .v (.string ⟨⟨r3.1.fields⟩⟩))] [(4, .box 101 [.v (.string ⟨⟨r3.1.word⟩⟩), .v (.string ⟨⟨r3.1.fields⟩⟩)])] ?_
   refine ve [14] [74] [] [(37, .v (.int .i64 0))] ?_
   refine zAj (M := (chr r3.1.fields 0)) (ment := [(76, [])]) [72, 74] [76] [] [] [] (fun b8 => [(38, .v (.int .u8 b8))]) (fun b8 => []) rfl rfl (fun _ => rfl) (fun _ => rfl) (by kernel_rfl) (by kernel_rfl) (fun _ => by kernel_rfl) (fun _ => trivial) (fun w0 X X0 σ0 _ => by refine zCn (T := tab) (s := r3.1.fields) rfl rfl rfl rfl rfl rfl rfl fun b8 hb8 => ?_; refine zAC ?_; exact zBj ⟨rfl, trivial⟩ trivial rfl) fun b8 hb8 => ?_
   refine ve [16] [78] [1] [(39, .loc 1 1)] ?_
   refine ve [78] [80] [1] [(40, .loc 1 1)] ?_
   refine vf [3, 80] [82] [] [1] [1] [(41, .v (.int .i64 o1.A))] [(1, .box 43 [.v (.int .i64 o1.Kind), .v (.int .i64 o1.A), .v (.int .i64 o1.B), .v (.int .i64 o1.C), .v (.string ⟨⟨o1.S⟩⟩), .v (.string ⟨⟨o1.T⟩⟩), .v (.bool o1.Must)])] ?_
   refine zAj (M := (zBO fu b8 o1.A r6.2.2)) (ment := [(84, []), (10121, []), (13, [6, 5060])]) [12, 13, 76, 82, 10121] [84, 10121, 13] [5060] [6] [] (fun r9 => [(42, .tup [])]) (fun r9 => [(5060, .arr 5 1 (r9.map zAA)), (6, .box 143 [.nloc 6 0, .ownb 5060])]) rfl rfl (fun _ => rfl) (fun _ => rfl) (by kernel_rfl) (by kernel_rfl) (fun _ => by kernel_rfl) (fun _ => trivial) (fun w0 X X0 σ0 _ => by refine zAh [5060] (enc := fun (r9 : (List Int)) => .tup []) (Sr := fun (r9 : (List Int)) => [(6, .box 143 [.nloc 6 0, .ownb 5060]), (5060, .arr 5 1 (r9.map zAA))]) (first := []) (cap := []) (qs := [.loc 6 0, .v (.int .u8 b8), .v (.int .i64 o1.A)]) (Sc := [(6, .box 143 [.nloc 6 0, .ownb 5060]), (5060, .arr 5 1 (r6.2.2.map zAA))]) (N0 := [6]) (NR := [6, 5060]) (fun r9 hr9 => zA5 [(900000, 6), (900001, 5060)] [900000, 900001] (zDU fu b8 o1.A r6.2.2 _ hr9) rfl rfl rfl rfl rfl rfl) ⟨rfl, rfl, trivial⟩ (fun _ => rfl) rfl rfl rfl rfl rfl rfl rfl (fun _ => rfl) (fun _ => rfl) rfl rfl rfl ⟨⟨_, rfl, .rfl⟩, ⟨_, rfl, .rfl⟩, ⟨_, rfl, .rfl⟩, trivial⟩ zMz rfl rfl fun r9 hr9 => ?_; refine zAC ?_; exact zBj ⟨rfl, trivial⟩ ⟨rfl, rfl, trivial⟩ rfl) fun r9 hr9 => ?_
   refine zBr rfl rfl ?_
   refine zAJ ?_
   refine zAB ?_
   refine zAD ?_
   refine zAg (T := tab) 1 rfl rfl rfl rfl rfl ?_
   refine pe 1 ?_
   refine zAC ?_
   refine zAs 3 ?_
   refine sr ?_
   refine pe 1 ?_
   refine ns ?_
   refine zAE ?_
   refine zBC rfl ?_
   refine zAG ?_
   refine zAB ?_
   refine zAE ?_
   refine zAP ?_
   refine sr ?_
   refine pe 1 ?_
   refine zCb (T := tab) (i := 1) rfl rfl rfl rfl rfl rfl rfl rfl ?_
   refine pe 3 ?_
   refine ns ?_
   refine zBD (E' := [(1, .loc 1 0), (4, .loc 4 0), (6, .loc 6 0), (28, .bsl 400280 3), (29, .v (.int .i64 3)), (30, .v (.int .i64 1)), (7, .v (.int .i64 1)), (8, .loc 1 2)]) (S' := [(6, .box 143 [.nloc 6 0, .ownb 5060]), (5060, .arr 5 1 (r9.map zAA)), (1, .box 43 [.v (.int .i64 o1.Kind), .v (.int .i64 o1.A), .v (.int .i64 o1.B), .v (.int .i64 o1.C), .v (.string ⟨⟨o1.S⟩⟩), .v (.string ⟨⟨o1.T⟩⟩), .v (.bool o1.Must)]), (400280, .box 107 [.loc 1 1, .loc 1 2, .loc 1 3]), (4, .box 101 [.v (.string ⟨⟨r3.1.word⟩⟩), .v (.string ⟨⟨r3.1.fields⟩⟩)])]) ?_ ⟨rfl, rfl, rfl, rfl, rfl, rfl, rfl, rfl, trivial⟩ ⟨rfl, rfl, rfl, rfl, rfl, trivial⟩ rfl
   refine zBM [0, 1, 0, 7, 0, 16, 48, 127] mixed (by kernel_rfl) (by kernel_rfl) rfl rfl ?_
   refine ve [8] [70] [4] [(35, .loc 4 1)] ?_
   refine vf [9, 70] [72] [] [4] [4] [(36, .v (.string ⟨⟨r3.1.fields⟩⟩))] [(4, .box 101 [.v (.string ⟨⟨r3.1.word⟩⟩), .v (.string ⟨⟨r3.1.fields⟩⟩)])] ?_
   refine ve [14] [74] [] [(37, .v (.int .i64 1))] ?_
   refine zAj (M := (chr r3.1.fields 1)) (ment := [(76, [])]) [72, 74] [76] [] [] [] (fun b10 => [(38, .v (.int .u8 b10))]) (fun b10 => []) rfl rfl (fun _ => rfl) (fun _ => rfl) (by kernel_rfl) (by kernel_rfl) (fun _ => by kernel_rfl) (fun _ => trivial) (fun w0 X X0 σ0 _ => by refine zCn (T := tab) (s := r3.1.fields) rfl rfl rfl rfl rfl rfl rfl fun b10 hb10 => ?_; refine zAC ?_; exact zBj ⟨rfl, trivial⟩ trivial rfl) fun b10 hb10 => ?_
   refine ve [16] [78] [1] [(39, .loc 1 2)] ?_
   refine ve [78] [80] [1] [(40, .loc 1 2)] ?_
   refine vf [3, 80] [82] [] [1] [1] [(41, .v (.int .i64 o1.B))] [(1, .box 43 [.v (.int .i64 o1.Kind), .v (.int .i64 o1.A), .v (.int .i64 o1.B), .v (.int .i64 o1.C), .v (.string ⟨⟨o1.S⟩⟩), .v (.string ⟨⟨o1.T⟩⟩), .v (.bool o1.Must)])] ?_
   refine zAj (M := (zBO fu b10 o1.B r9)) (ment := [(84, []), (10121, []), (13, [6, 5060])]) [12, 13, 76, 82, 10121] [84, 10121, 13] [5060] [6] [] (fun r11 => [(42, .tup [])]) (fun r11 => [(5060, .arr 5 1 (r11.map zAA)), (6, .box 143 [.nloc 6 0, .ownb 5060])]) rfl rfl (fun _ => rfl) (fun _ => rfl) (by kernel_rfl) (by kernel_rfl) (fun _ => by kernel_rfl) (fun _ => trivial) (fun w0 X X0 σ0 _ => by refine zAh [5060] (enc := fun (r11 : (List Int)) => .tup []) (Sr := fun (r11 : (List Int)) => [(6, .box 143 [.nloc 6 0, .ownb 5060]), (5060, .arr 5 1 (r11.map zAA))]) (first := []) (cap := []) (qs := [.loc 6 0, .v (.int .u8 b10), .v (.int .i64 o1.B)]) (Sc := [(6, .box 143 [.nloc 6 0, .ownb 5060]), (5060, .arr 5 1 (r9.map zAA))]) (N0 := [6]) (NR := [6, 5060]) (fun r11 hr11 => zA5 [(900000, 6), (900001, 5060)] [900000, 900001] (zDU fu b10 o1.B r9 _ hr11) rfl rfl rfl rfl rfl rfl) ⟨rfl, rfl, trivial⟩ (fun _ => rfl) rfl rfl rfl rfl rfl rfl rfl (fun _ => rfl) (fun _ => rfl) rfl rfl rfl ⟨⟨_, rfl, .rfl⟩, ⟨_, rfl, .rfl⟩, ⟨_, rfl, .rfl⟩, trivial⟩ zMz rfl rfl fun r11 hr11 => ?_; refine zAC ?_; exact zBj ⟨rfl, trivial⟩ ⟨rfl, rfl, trivial⟩ rfl) fun r11 hr11 => ?_
   refine zBr rfl rfl ?_
   refine zAJ ?_
   refine zAB ?_
   refine zAD ?_
   refine zAg (T := tab) 2 rfl rfl rfl rfl rfl ?_
   refine pe 1 ?_
   refine zAC ?_
   refine zAs 2 ?_
   refine sr ?_
   refine pe 1 ?_
   refine ns ?_
   refine zAE ?_
   refine zBC rfl ?_
   refine zAG ?_
   refine zAB ?_
   refine zAE ?_
   refine zAP ?_
   refine sr ?_
   refine pe 1 ?_
   refine zCb (T := tab) (i := 2) rfl rfl rfl rfl rfl rfl rfl rfl ?_
   refine pe 3 ?_
   refine ns ?_
   refine zBD (E' := [(1, .loc 1 0), (4, .loc 4 0), (6, .loc 6 0), (28, .bsl 400280 3), (29, .v (.int .i64 3)), (30, .v (.int .i64 2)), (7, .v (.int .i64 2)), (8, .loc 1 3)]) (S' := [(6, .box 143 [.nloc 6 0, .ownb 5060]), (5060, .arr 5 1 (r11.map zAA)), (1, .box 43 [.v (.int .i64 o1.Kind), .v (.int .i64 o1.A), .v (.int .i64 o1.B), .v (.int .i64 o1.C), .v (.string ⟨⟨o1.S⟩⟩), .v (.string ⟨⟨o1.T⟩⟩), .v (.bool o1.Must)]), (400280, .box 107 [.loc 1 1, .loc 1 2, .loc 1 3]), (4, .box 101 [.v (.string ⟨⟨r3.1.word⟩⟩), .v (.string ⟨⟨r3.1.fields⟩⟩)])]) ?_ ⟨rfl, rfl, rfl, rfl, rfl, rfl, rfl, rfl, trivial⟩ ⟨rfl, rfl, rfl, rfl, rfl, trivial⟩ rfl
   refine zBM [0, 1, 0, 7, 0, 16, 48, 127] mixed (by kernel_rfl) (by kernel_rfl) rfl rfl ?_
   refine ve [8] [70] [4] [(35, .loc 4 1)] ?_
   refine vf [9, 70] [72] [] [4] [4] [(36, .v (.string ⟨⟨r3.1.fields⟩⟩))] [(4, .box 101 [.v (.string ⟨⟨r3.1.word⟩⟩), .v (.string ⟨⟨r3.1.fields⟩⟩)])] ?_
   refine ve [14] [74] [] [(37, .v (.int .i64 2))] ?_
   refine zAj (M := (chr r3.1.fields 2)) (ment := [(76, [])]) [72, 74] [76] [] [] [] (fun b12 => [(38, .v (.int .u8 b12))]) (fun b12 => []) rfl rfl (fun _ => rfl) (fun _ => rfl) (by kernel_rfl) (by kernel_rfl) (fun _ => by kernel_rfl) (fun _ => trivial) (fun w0 X X0 σ0 _ => by refine zCn (T := tab) (s := r3.1.fields) rfl rfl rfl rfl rfl rfl rfl fun b12 hb12 => ?_; refine zAC ?_; exact zBj ⟨rfl, trivial⟩ trivial rfl) fun b12 hb12 => ?_
   refine ve [16] [78] [1] [(39, .loc 1 3)] ?_
   refine ve [78] [80] [1] [(40, .loc 1 3)] ?_
   refine vf [3, 80] [82] [] [1] [1] [(41, .v (.int .i64 o1.C))] [(1, .box 43 [.v (.int .i64 o1.Kind), .v (.int .i64 o1.A), .v (.int .i64 o1.B), .v (.int .i64 o1.C), .v (.string ⟨⟨o1.S⟩⟩), .v (.string ⟨⟨o1.T⟩⟩), .v (.bool o1.Must)])] ?_
   refine zAj (M := (zBO fu b12 o1.C r11)) (ment := [(84, []), (10121, []), (13, [6, 5060])]) [12, 13, 76, 82, 10121] [84, 10121, 13] [5060] [6] [] (fun r13 => [(42, .tup [])]) (fun r13 => [(5060, .arr 5 1 (r13.map zAA)), (6, .box 143 [.nloc 6 0, .ownb 5060])]) rfl rfl (fun _ => rfl) (fun _ => rfl) (by kernel_rfl) (by kernel_rfl) (fun _ => by kernel_rfl) (fun _ => trivial) (fun w0 X X0 σ0 _ => by refine zAh [5060] (enc := fun (r13 : (List Int)) => .tup []) (Sr := fun (r13 : (List Int)) => [(6, .box 143 [.nloc 6 0, .ownb 5060]), (5060, .arr 5 1 (r13.map zAA))]) (first := []) (cap := []) (qs := [.loc 6 0, .v (.int .u8 b12), .v (.int .i64 o1.C)]) (Sc := [(6, .box 143 [.nloc 6 0, .ownb 5060]), (5060, .arr 5 1 (r11.map zAA))]) (N0 := [6]) (NR := [6, 5060]) (fun r13 hr13 => zA5 [(900000, 6), (900001, 5060)] [900000, 900001] (zDU fu b12 o1.C r11 _ hr13) rfl rfl rfl rfl rfl rfl) ⟨rfl, rfl, trivial⟩ (fun _ => rfl) rfl rfl rfl rfl rfl rfl rfl (fun _ => rfl) (fun _ => rfl) rfl rfl rfl ⟨⟨_, rfl, .rfl⟩, ⟨_, rfl, .rfl⟩, ⟨_, rfl, .rfl⟩, trivial⟩ zMz rfl rfl fun r13 hr13 => ?_; refine zAC ?_; exact zBj ⟨rfl, trivial⟩ ⟨rfl, rfl, trivial⟩ rfl) fun r13 hr13 => ?_
   refine zBr rfl rfl ?_
   refine zAJ ?_
   refine zAB ?_
   refine zAD ?_
   refine zAg (T := tab) 3 rfl rfl rfl rfl rfl ?_
   refine pe 1 ?_
   refine zAC ?_
   refine zAs 1 ?_
   refine sr ?_
   refine pe 1 ?_
   refine ns ?_
   refine zAE ?_
   refine zAx rfl ?_
   refine zAr rfl ?_
   refine zAB ?_
   refine zAE ?_
   refine sr ?_
   refine zAh [400440] (enc := fun (r14 : Unit) => .bsl 400440 2) (Sr := fun (r14 : Unit) => [(1, .box 43 [.v (.int .i64 o1.Kind), .v (.int .i64 o1.A), .v (.int .i64 o1.B), .v (.int .i64 o1.C), .v (.string ⟨⟨o1.S⟩⟩), .v (.string ⟨⟨o1.T⟩⟩), .v (.bool o1.Must)]), (400440, .box 112 [.loc 1 4, .loc 1 5])]) (first := []) (cap := []) (qs := [.loc 1 0]) (Sc := [(1, .box 43 [.v (.int .i64 o1.Kind), .v (.int .i64 o1.A), .v (.int .i64 o1.B), .v (.int .i64 o1.C), .v (.string ⟨⟨o1.S⟩⟩), .v (.string ⟨⟨o1.T⟩⟩), .v (.bool o1.Must)])]) (N0 := [1]) (NR := [1, 400440]) (fun r14 hr14 => zA5 [(9, 400440), (900000, 1)] [9, 900000] (zFz fu o1 _ hr14) rfl rfl rfl rfl rfl rfl) ⟨rfl, trivial⟩ (fun _ => rfl) rfl rfl rfl rfl rfl rfl rfl (fun _ => rfl) (fun _ => rfl) rfl rfl rfl ⟨⟨_, rfl, .rfl⟩, trivial⟩ zOE rfl rfl fun r14 hr14 => ?_
   refine pe 2 ?_
   refine ns ?_
   refine zAP ?_
   refine zEj 3 ?_
   refine sr ?_
   refine pe 1 ?_
   refine ns ?_
   refine zAE ?_
   refine zBC rfl ?_
   refine zAG ?_
   refine zAB ?_
   refine zAE ?_
   refine zBl (zFN fu o1 r3) (fun (l19 : (List Int)) => [(4, .loc 4 0), (6, .loc 6 0), (44, .bsl 400440 2), (45, .v (.int .i64 2)), (46, .v (.int .i64 0))]) (fun (l19 : (List Int)) => [(6, .box 143 [.nloc 6 0, .ownb 5060]), (5060, .arr 5 1 (l19.map zAA)), (1, .box 43 [.v (.int .i64 o1.Kind), .v (.int .i64 o1.A), .v (.int .i64 o1.B), .v (.int .i64 o1.C), .v (.string ⟨⟨o1.S⟩⟩), .v (.string ⟨⟨o1.T⟩⟩), .v (.bool o1.Must)]), (400440, .box 112 [.loc 1 4, .loc 1 5]), (4, .box 101 [.v (.string ⟨⟨r3.1.word⟩⟩), .v (.string ⟨⟨r3.1.fields⟩⟩)])]) ?_ fun hj2 => ?_
   ·rintro l19
    refine zAB ?_
    refine zAD ?_
    refine zAg (T := tab) 1 rfl rfl rfl rfl rfl ?_
    refine pe 1 ?_
    refine zAC ?_
    refine zAs 2 ?_
    refine sr ?_
    refine pe 1 ?_
    refine ns ?_
    refine zAE ?_
    refine zBC rfl ?_
    refine zAG ?_
    refine zAB ?_
    refine zAE ?_
    refine zAP ?_
    refine sr ?_
    refine pe 1 ?_
    refine zCb (T := tab) (i := 1) rfl rfl rfl rfl rfl rfl rfl rfl ?_
    refine pe 3 ?_
    refine ns ?_
    refine sr ?_
    refine pe 3 ?_
    refine zAg (T := tab) 4 rfl rfl rfl rfl rfl ?_
    refine zCn (T := tab) (s := r3.1.fields) rfl rfl rfl rfl rfl rfl rfl fun b20 hb20 => ?_
    refine pe 1 ?_
    refine ns ?_
    refine zAR rfl ?_ ?_
    ·refine zAD ?_
     refine pe 4 ?_
     refine zAM (enc := fun (r21 : Bs) => .v (.string ⟨⟨r21⟩⟩)) (qs := [.v (.string ⟨⟨o1.T⟩⟩)]) (zMH fu o1.T) rfl rfl ⟨⟨_, rfl, .rfl⟩, trivial⟩ (fun _ => rfl) zQp rfl rfl fun r21 hr21 => ?_
     refine zIZ rfl rfl rfl rfl rfl rfl fun s22 hs22 => ?_
     refine zAh [5060] (enc := fun (r23 : (Int × Bool × (List Int))) => .tup [.v (.int .i64 r23.1), .err r23.2.1]) (Sr := fun (r23 : (Int × Bool × (List Int))) => [(6, .box 143 [.nloc 6 0, .ownb 5060]), (5060, .arr 5 1 (r23.2.2.map zAA))]) (first := []) (cap := []) (qs := [.loc 6 0, .v (.string ⟨⟨s22⟩⟩)]) (Sc := [(6, .box 143 [.nloc 6 0, .ownb 5060]), (5060, .arr 5 1 (l19.map zAA))]) (N0 := [6]) (NR := [6, 5060]) (fun r23 hr23 => zA5 [(900000, 6), (900001, 5060)] [900000, 900001] (zAW fu s22 l19 _ hr23) rfl rfl rfl rfl rfl rfl) ⟨rfl, rfl, trivial⟩ (fun _ => rfl) rfl rfl rfl rfl rfl rfl rfl (fun _ => rfl) (fun _ => rfl) rfl rfl rfl ⟨⟨_, rfl, .rfl⟩, ⟨_, rfl, .rfl⟩, trivial⟩ zFm rfl rfl fun r23 hr23 => ?_
     refine zAC ?_
     refine zAJ ?_
     refine zAB ?_
     refine zAD ?_
     refine zAg (T := tab) 2 rfl rfl rfl rfl rfl ?_
     refine pe 1 ?_
     refine zAC ?_
     refine zAs 1 ?_
     refine sr ?_
     refine pe 1 ?_
     refine ns ?_
     refine zAE ?_
     refine zAx rfl ?_
     refine zAr rfl ?_
     refine zAB ?_
     refine sr ?_
     refine pe 1 ?_
     refine zAh [] (enc := fun (r24 : Bs) => .v (.string ⟨⟨r24⟩⟩)) (Sr := fun (r24 : Bs) => [(6, .box 143 [.nloc 6 0, .junk])]) (first := []) (cap := []) (qs := [.loc 6 0]) (Sc := [(6, .box 143 [.nloc 6 0, .ownb 5060]), (5060, .arr 5 1 (r23.2.2.map zAA))]) (N0 := [6, 5060]) (NR := [6]) (fun r24 hr24 => zA5 [(900000, 6), (900001, 5060)] [900000, 900001] (zCT fu r23.2.2 _ hr24) rfl rfl rfl rfl rfl rfl) ⟨rfl, rfl, trivial⟩ (fun _ => rfl) rfl rfl rfl rfl rfl rfl rfl (fun _ => rfl) (fun _ => rfl) rfl rfl rfl ⟨⟨_, rfl, .rfl⟩, trivial⟩ zLQ rfl rfl fun r24 hr24 => ?_
     refine pe 2 ?_
     refine ns ?_
     exact rN
    ·refine zAG ?_
     refine zAJ ?_
     refine zAB ?_
     refine zAD ?_
     refine zAg (T := tab) 2 rfl rfl rfl rfl rfl ?_
     refine pe 1 ?_
     refine zAC ?_
     refine zAs 1 ?_
     refine sr ?_
     refine pe 1 ?_
     refine ns ?_
     refine zAE ?_
     refine zAx rfl ?_
     refine zAr rfl ?_
     refine zAB ?_
     refine sr ?_
     refine pe 1 ?_
     refine zAh [] (enc := fun (r25 : Bs) => .v (.string ⟨⟨r25⟩⟩)) (Sr := fun (r25 : Bs) => [(6, .box 143 [.nloc 6 0, .junk])]) (first := []) (cap := []) (qs := [.loc 6 0]) (Sc := [(6, .box 143 [.nloc 6 0, .ownb 5060]), (5060, .arr 5 1 (l19.map zAA))]) (N0 := [6, 5060]) (NR := [6]) (fun r25 hr25 => zA5 [(900000, 6), (900001, 5060)] [900000, 900001] (zCT fu l19 _ hr25) rfl rfl rfl rfl rfl rfl) ⟨rfl, rfl, trivial⟩ (fun _ => rfl) rfl rfl rfl rfl rfl rfl rfl (fun _ => rfl) (fun _ => rfl) rfl rfl rfl ⟨⟨_, rfl, .rfl⟩, trivial⟩ zLQ rfl rfl fun r25 hr25 => ?_
     refine pe 2 ?_
     refine ns ?_
     exact rN
   ·refine zAP ?_
    refine sr ?_
    refine pe 1 ?_
    refine zCb (T := tab) (i := 0) rfl rfl rfl rfl rfl rfl rfl rfl ?_
    refine pe 3 ?_
    refine ns ?_
    refine sr ?_
    refine pe 3 ?_
    refine zAg (T := tab) 3 rfl rfl rfl rfl rfl ?_
    refine zCn (T := tab) (s := r3.1.fields) rfl rfl rfl rfl rfl rfl rfl fun b15 hb15 => ?_
    refine pe 1 ?_
    refine ns ?_
    refine zAR rfl ?_ ?_
    ·refine zAD ?_
     refine pe 4 ?_
     refine zAM (enc := fun (r16 : Bs) => .v (.string ⟨⟨r16⟩⟩)) (qs := [.v (.string ⟨⟨o1.S⟩⟩)]) (zMH fu o1.S) rfl rfl ⟨⟨_, rfl, .rfl⟩, trivial⟩ (fun _ => rfl) zQp rfl rfl fun r16 hr16 => ?_
     refine zIZ rfl rfl rfl rfl rfl rfl fun s17 hs17 => ?_
     refine zAh [5060] (enc := fun (r18 : (Int × Bool × (List Int))) => .tup [.v (.int .i64 r18.1), .err r18.2.1]) (Sr := fun (r18 : (Int × Bool × (List Int))) => [(6, .box 143 [.nloc 6 0, .ownb 5060]), (5060, .arr 5 1 (r18.2.2.map zAA))]) (first := []) (cap := []) (qs := [.loc 6 0, .v (.string ⟨⟨s17⟩⟩)]) (Sc := [(6, .box 143 [.nloc 6 0, .ownb 5060]), (5060, .arr 5 1 (r13.map zAA))]) (N0 := [6]) (NR := [6, 5060]) (fun r18 hr18 => zA5 [(900000, 6), (900001, 5060)] [900000, 900001] (zAW fu s17 r13 _ hr18) rfl rfl rfl rfl rfl rfl) ⟨rfl, rfl, trivial⟩ (fun _ => rfl) rfl rfl rfl rfl rfl rfl rfl (fun _ => rfl) (fun _ => rfl) rfl rfl rfl ⟨⟨_, rfl, .rfl⟩, ⟨_, rfl, .rfl⟩, trivial⟩ zFm rfl rfl fun r18 hr18 => ?_
     refine zAC ?_
     refine zAJ ?_
     exact zAU (hj2 r18.2.2) ⟨rfl, rfl, rfl, rfl, rfl, trivial⟩ ⟨rfl, rfl, rfl, rfl, rfl, trivial⟩ rfl
    ·refine zAG ?_
     refine zAJ ?_
     exact zAU (hj2 r13) ⟨rfl, rfl, rfl, rfl, rfl, trivial⟩ ⟨rfl, rfl, rfl, rfl, rfl, trivial⟩ rfl
  ·refine zAR rfl ?_ ?_
   ·refine zAD ?_
    refine pe 1 ?_
    refine zAh [5060] (enc := fun (r4 : (Int × Bool × (List Int))) => .tup [.v (.int .i64 r4.1), .err r4.2.1]) (Sr := fun (r4 : (Int × Bool × (List Int))) => [(6, .box 143 [.nloc 6 0, .ownb 5060]), (5060, .arr 5 1 (r4.2.2.map zAA))]) (first := []) (cap := []) (qs := [.loc 6 0, .v (.string ⟨⟨[33]⟩⟩)]) (Sc := [(6, .box 143 [.nloc 6 0, .ownb 5060]), (5060, .arr 5 1 ([].map zAA))]) (N0 := [6]) (NR := [6, 5060]) (fun r4 hr4 => zA5 [(900000, 6), (900001, 5060)] [900000, 900001] (zAW fu [33] [] _ hr4) rfl rfl rfl rfl rfl rfl) ⟨rfl, rfl, trivial⟩ (fun _ => rfl) rfl rfl rfl rfl rfl rfl rfl (fun _ => rfl) (fun _ => rfl) rfl rfl rfl ⟨⟨_, rfl, .rfl⟩, ⟨_, rfl, .rfl⟩, trivial⟩ zFm rfl rfl fun r4 hr4 => ?_
    refine zAC ?_
    exact zAU (hj1 r4.2.2) ⟨rfl, rfl, rfl, trivial⟩ ⟨rfl, rfl, rfl, rfl, trivial⟩ rfl
   ·refine zAG ?_
    exact zAU (hj1 []) ⟨rfl, rfl, rfl, trivial⟩ ⟨rfl, rfl, rfl, rfl, trivial⟩ rfl
def zCj (fu : Nat) (s1 : Bs) (r2 : (Bs × Bool)) (r5 : Int) (c28 : Int) (c29 : Int) (c30 : Int) (x_ : Bs × Bool × Bs × Bs) : Option (Op × Int) := match x_ with
 | (rest41, ok42, c43, c44) => bnd (zFW fu (⟨r5, c28, c29, c30, c43, c44, r2.2⟩ : Op)) fun r45 => cnd (!ok42) (some ((⟨0, 0, 0, 0, [], [], false⟩ : Op), 2)) (cnd (!(rest41 == ([] : Bs))) (some ((⟨0, 0, 0, 0, [], [], false⟩ : Op), 2)) (cnd (r45.2 != 0) (some ((⟨0, 0, 0, 0, [], [], false⟩ : Op), 2)) (cnd (!(r45.1 == s1)) (some ((⟨0, 0, 0, 0, [], [], false⟩ : Op), 2)) (some ((⟨r5, c28, c29, c30, c43, c44, r2.2⟩ : Op), 0)))))
def zCJ (fu : Nat) (s1 : Bs) (r2 : (Bs × Bool)) (r5 : Int) (r6 : (Op_form × Bool)) (c28 : Int) (c29 : Int) (c30 : Int) (x_ : Bs × Bool × Bs) : Option (Op × Int) := match x_ with
 | (rest35, ok36, c37) => cnd ok36 (bnd (chr r6.1.fields 4) fun b38 => cnd (b38 == 115) (bnd (zA6 fu rest35) fun r39 => bnd (zAO fu r39.2.1 [32]) fun r40 => cnd r40.2 ((zCj fu s1 r2 r5 c28 c29 c30) (r39.2.1, r39.2.2, c37, r39.1)) ((zCj fu s1 r2 r5 c28 c29 c30) (r39.2.1, r39.2.2, c37, r39.1))) ((zCj fu s1 r2 r5 c28 c29 c30) (rest35, ok36, c37, []))) ((zCj fu s1 r2 r5 c28 c29 c30) (rest35, ok36, c37, []))
def zDy (fu : Nat) (s1 : Bs) (r2 : (Bs × Bool)) (r5 : Int) (r6 : (Op_form × Bool)) (x_ : Bs × Bool × Int × Int × Int) : Option (Op × Int) := match x_ with
 | (rest26, ok27, c28, c29, c30) => bnd (zCg fu) fun r31 => cnd ok27 (bnd (chr r6.1.fields 3) fun b32 => cnd (b32 == 115) (bnd (zA6 fu rest26) fun r33 => bnd (zAO fu r33.2.1 [32]) fun r34 => cnd r34.2 ((zCJ fu s1 r2 r5 r6 c28 c29 c30) (r34.1, r33.2.2, r33.1)) ((zCJ fu s1 r2 r5 r6 c28 c29 c30) (r33.2.1, r33.2.2, r33.1))) ((zCJ fu s1 r2 r5 r6 c28 c29 c30) (rest26, ok27, []))) ((zCJ fu s1 r2 r5 r6 c28 c29 c30) (rest26, ok27, []))
def zEc (fu : Nat) (s1 : Bs) (r2 : (Bs × Bool)) (r5 : Int) (r6 : (Op_form × Bool)) (c14 : Int) (x_ : Bs × Bool × Int) : Option (Op × Int) := match x_ with
 | (rest19, ok20, c21) => cnd ok20 (bnd (chr r6.1.fields 2) fun b22 => cnd (b22 != 46) (bnd (zAl fu rest19 [32]) fun r23 => bnd (chr r6.1.fields 2) fun b24 => bnd (zBJ fu b24 r23.1) fun r25 => (zDy fu s1 r2 r5 r6) (r23.2.1, r25.2, c14, c21, r25.1)) ((zDy fu s1 r2 r5 r6) (rest19, ok20, c14, c21, 0))) ((zDy fu s1 r2 r5 r6) (rest19, ok20, c14, c21, 0))
def zEh (fu : Nat) (s1 : Bs) (r2 : (Bs × Bool)) (r5 : Int) (r6 : (Op_form × Bool)) (x_ : Bs × Bool × Int) : Option (Op × Int) := match x_ with
 | (rest12, ok13, c14) => cnd ok13 (bnd (chr r6.1.fields 1) fun b15 => cnd (b15 != 46) (bnd (zAl fu rest12 [32]) fun r16 => bnd (chr r6.1.fields 1) fun b17 => bnd (zBJ fu b17 r16.1) fun r18 => (zEc fu s1 r2 r5 r6 c14) (r16.2.1, r18.2, r18.1)) ((zEc fu s1 r2 r5 r6 c14) (rest12, ok13, 0))) ((zEc fu s1 r2 r5 r6 c14) (rest12, ok13, 0))
def zBt (fu : Nat) (s1 : Bs) : Option (Op × Int) := bnd (zAO fu s1 [33]) fun r2 => bnd (zAl fu r2.1 [32]) fun r3 => bnd (zFQ fu) fun r4 => bnd (zAm fu r4 r3.1) fun r5 => bnd (zCz fu r5) fun r6 => bnd (zCW fu) fun r7 => cnd r6.2 (bnd (chr r6.1.fields 0) fun b8 => cnd (b8 != 46) (bnd (zAl fu r3.2.1 [32]) fun r9 => bnd (chr r6.1.fields 0) fun b10 => bnd (zBJ fu b10 r9.1) fun r11 => (zEh fu s1 r2 r5 r6) (r9.2.1, r11.2, r11.1)) ((zEh fu s1 r2 r5 r6) (r3.2.1, r6.2, 0))) ((zEh fu s1 r2 r5 r6) (r3.2.1, r6.2, 0))
set_option maxHeartbeats 10000000 in
set_option maxRecDepth 100000 in
theorem zEW (fu : Nat) (s1 : Bs) : ∀ r, zBt fu s1 = some r → DC zAi Tryz.prog 19 [.v (.string ⟨⟨s1⟩⟩)] (.tup [.agg (cOp r.1), .v (.int .i64 r.2)]) := by
 intro r hr
 refine zAL (r := r)  (args := [.v (.string ⟨⟨s1⟩⟩)]) (S := []) (N0 := []) (post := fun r p S => p = .tup [.agg (cOp r.1), .v (.int .i64 r.2)] ∧ S = []) Tryz.func19 rfl rfl hr fun w0 X X0 σ0 _ => ?_
 refine sr ?_
 refine zBE (T := tab) 2 rfl rfl rfl rfl rfl rfl rfl rfl rfl ?_
 refine pe 1 ?_
 refine ns ?_
 refine sr ?_
 refine pe 1 ?_
 refine zAM (enc := fun (r2 : (Bs × Bool)) => .tup [.v (.string ⟨⟨r2.1⟩⟩), .v (.bool r2.2)]) (qs := [.v (.string ⟨⟨s1⟩⟩), .v (.string ⟨⟨[33]⟩⟩)]) (zCo fu s1 [33]) rfl rfl ⟨⟨_, rfl, .rfl⟩, ⟨_, rfl, .rfl⟩, trivial⟩ (fun _ => rfl) zOt rfl rfl fun r2 hr2 => ?_
 refine pe 5 ?_
 refine ns ?_
 refine sr ?_
 refine pe 1 ?_
 refine zAM (enc := fun (r3 : (Bs × Bs × Bool)) => .tup [.v (.string ⟨⟨r3.1⟩⟩), .v (.string ⟨⟨r3.2.1⟩⟩), .v (.bool r3.2.2)]) (qs := [.v (.string ⟨⟨r2.1⟩⟩), .v (.string ⟨⟨[32]⟩⟩)]) (zCt fu r2.1 [32]) rfl rfl ⟨⟨_, rfl, .rfl⟩, ⟨_, rfl, .rfl⟩, trivial⟩ (fun _ => rfl) zJo rfl rfl fun r3 hr3 => ?_
 refine pe 7 ?_
 refine ns ?_
 refine sr ?_
 refine zAM (enc := fun (r4 : (List Bs)) => .sl 1 false (r4.map cStr)) (qs := []) (zH6 fu) rfl rfl trivial (fun _ => rfl) zQi rfl rfl fun r4 hr4 => ?_
 refine pe 1 ?_
 refine zAM (enc := fun (r5 : Int) => .v (.int .i64 r5)) (qs := [.sl 1 false (r4.map cStr), .v (.string ⟨⟨r3.1⟩⟩)]) (zDL fu r4 r3.1) rfl rfl ⟨⟨_, rfl, .rfl⟩, ⟨_, rfl, .rfl⟩, trivial⟩ (fun _ => rfl) zQr rfl rfl fun r5 hr5 => ?_
 refine pe 1 ?_
 refine zBI (T := tab) rfl rfl rfl rfl rfl rfl rfl ?_
 refine zBE (T := tab) 8 rfl rfl rfl rfl rfl rfl rfl rfl rfl ?_
 refine zAK (T := tab) rfl rfl rfl rfl rfl rfl rfl rfl rfl rfl rfl rfl ?_
 refine ns ?_
 refine sr ?_
 refine pe 2 ?_
 refine zAM (enc := fun (r6 : (Op_form × Bool)) => .tup [.agg (zF4 r6.1), .v (.bool r6.2)]) (qs := [.v (.int .i64 r5)]) (zFJ fu r5) rfl rfl ⟨⟨_, rfl, .rfl⟩, trivial⟩ (fun _ => rfl) zMv rfl rfl fun r6 hr6 => ?_
 refine pe 3 ?_
 refine zBE (T := tab) 9 rfl rfl rfl rfl rfl rfl rfl rfl rfl ?_
 refine zAK (T := tab) rfl rfl rfl rfl rfl rfl rfl rfl rfl rfl rfl rfl ?_
 refine pe 1 ?_
 refine ns ?_
 refine zAE ?_
 refine sr ?_
 refine zAh [400410] (enc := fun (r7 : Unit) => .bsl 400410 3) (Sr := fun (r7 : Unit) => [(8, .box 43 [.v (.int .i64 r5), .v (.int .i64 0), .v (.int .i64 0), .v (.int .i64 0), .v (.string ⟨⟨[]⟩⟩), .v (.string ⟨⟨[]⟩⟩), .v (.bool r2.2)]), (400410, .box 107 [.loc 8 1, .loc 8 2, .loc 8 3])]) (first := []) (cap := []) (qs := [.loc 8 0]) (Sc := [(8, .box 43 [.v (.int .i64 r5), .v (.int .i64 0), .v (.int .i64 0), .v (.int .i64 0), .v (.string ⟨⟨[]⟩⟩), .v (.string ⟨⟨[]⟩⟩), .v (.bool r2.2)])]) (N0 := [8]) (NR := [8, 400410]) (fun r7 hr7 => zA5 [(12, 400410), (900000, 8)] [12, 900000] (zEp fu (⟨r5, 0, 0, 0, [], [], r2.2⟩ : Op) _ hr7) rfl rfl rfl rfl rfl rfl) ⟨rfl, trivial⟩ (fun _ => rfl) rfl rfl rfl rfl rfl rfl rfl (fun _ => rfl) (fun _ => rfl) rfl rfl rfl ⟨⟨_, rfl, .rfl⟩, trivial⟩ zM3 rfl rfl fun r7 hr7 => ?_
 refine pe 2 ?_
 refine ns ?_
 refine zBl (zDy fu s1 r2 r5 r6) (fun ((rest26, ok27, c28, c29, c30) : Bs × Bool × Int × Int × Int) => [(0, .v (.string ⟨⟨s1⟩⟩)), (2, .loc 2 0), (4, .v (.string ⟨⟨rest26⟩⟩)), (8, .loc 8 0), (9, .loc 9 0), (10, .v (.bool ok27))]) (fun ((rest26, ok27, c28, c29, c30) : Bs × Bool × Int × Int × Int) => [(8, .box 43 [.v (.int .i64 r5), .v (.int .i64 c28), .v (.int .i64 c29), .v (.int .i64 c30), .v (.string ⟨⟨[]⟩⟩), .v (.string ⟨⟨[]⟩⟩), .v (.bool r2.2)]), (9, .box 101 [.v (.string ⟨⟨r6.1.word⟩⟩), .v (.string ⟨⟨r6.1.fields⟩⟩)]), (2, .box 43 [.v (.int .i64 0), .v (.int .i64 0), .v (.int .i64 0), .v (.int .i64 0), .v (.string ⟨⟨[]⟩⟩), .v (.string ⟨⟨[]⟩⟩), .v (.bool false)])]) ?_ fun hj3 => ?_
 ·rintro ⟨rest26, ok27, c28, c29, c30⟩
  refine zO2 (m' := bnd (zCg fu) fun r31 => cnd ok27 (bnd (chr r6.1.fields 3) fun b32 => cnd (b32 == 115) (bnd (zA6 fu rest26) fun r33 => bnd (zAO fu r33.2.1 [32]) fun r34 => cnd r34.2 ((zCJ fu s1 r2 r5 r6 c28 c29 c30) (r34.1, r33.2.2, r33.1)) ((zCJ fu s1 r2 r5 r6 c28 c29 c30) (r33.2.1, r33.2.2, r33.1))) ((zCJ fu s1 r2 r5 r6 c28 c29 c30) (rest26, ok27, []))) ((zCJ fu s1 r2 r5 r6 c28 c29 c30) (rest26, ok27, []))) rfl ?_
  refine zAB ?_
  refine zAE ?_
  refine sr ?_
  refine zAh [400740] (enc := fun (r31 : Unit) => .bsl 400740 2) (Sr := fun (r31 : Unit) => [(8, .box 43 [.v (.int .i64 r5), .v (.int .i64 c28), .v (.int .i64 c29), .v (.int .i64 c30), .v (.string ⟨⟨[]⟩⟩), .v (.string ⟨⟨[]⟩⟩), .v (.bool r2.2)]), (400740, .box 112 [.loc 8 4, .loc 8 5])]) (first := []) (cap := []) (qs := [.loc 8 0]) (Sc := [(8, .box 43 [.v (.int .i64 r5), .v (.int .i64 c28), .v (.int .i64 c29), .v (.int .i64 c30), .v (.string ⟨⟨[]⟩⟩), .v (.string ⟨⟨[]⟩⟩), .v (.bool r2.2)])]) (N0 := [8]) (NR := [8, 400740]) (fun r31 hr31 => zA5 [(9, 400740), (900000, 8)] [9, 900000] (zFz fu (⟨r5, c28, c29, c30, [], [], r2.2⟩ : Op) _ hr31) rfl rfl rfl rfl rfl rfl) ⟨rfl, trivial⟩ (fun _ => rfl) rfl rfl rfl rfl rfl rfl rfl (fun _ => rfl) (fun _ => rfl) rfl rfl rfl ⟨⟨_, rfl, .rfl⟩, trivial⟩ zOE rfl rfl fun r31 hr31 => ?_
  refine pe 2 ?_
  refine ns ?_
  refine zBl (zCj fu s1 r2 r5 c28 c29 c30) (fun ((rest41, ok42, c43, c44) : Bs × Bool × Bs × Bs) => [(0, .v (.string ⟨⟨s1⟩⟩)), (2, .loc 2 0), (4, .v (.string ⟨⟨rest41⟩⟩)), (8, .loc 8 0), (10, .v (.bool ok42))]) (fun ((rest41, ok42, c43, c44) : Bs × Bool × Bs × Bs) => [(8, .box 43 [.v (.int .i64 r5), .v (.int .i64 c28), .v (.int .i64 c29), .v (.int .i64 c30), .v (.string ⟨⟨c43⟩⟩), .v (.string ⟨⟨c44⟩⟩), .v (.bool r2.2)]), (2, .box 43 [.v (.int .i64 0), .v (.int .i64 0), .v (.int .i64 0), .v (.int .i64 0), .v (.string ⟨⟨[]⟩⟩), .v (.string ⟨⟨[]⟩⟩), .v (.bool false)])]) ?_ fun hj5 => ?_
  ·rintro ⟨rest41, ok42, c43, c44⟩
   refine zAB ?_
   refine zAE ?_
   refine sr ?_
   refine pe 1 ?_
   refine zAM (enc := fun (r45 : (Bs × Int)) => .tup [.v (.string ⟨⟨r45.1⟩⟩), .v (.int .i64 r45.2)]) (qs := [.agg (cOp (⟨r5, c28, c29, c30, c43, c44, r2.2⟩ : Op))]) (zKI fu (⟨r5, c28, c29, c30, c43, c44, r2.2⟩ : Op)) rfl rfl ⟨⟨_, rfl, .rfl⟩, trivial⟩ (fun _ => rfl) zQL rfl rfl fun r45 hr45 => ?_
   refine pe 5 ?_
   refine ns ?_
   refine sr ?_
   refine pe 3 ?_
   refine zAN (j := 117) rfl ?_ ?_
   ·refine pe 12 ?_
    refine zAC ?_
    refine zAB (zBC rfl ?_)
    refine sr ?_
    refine zBI (T := tab) rfl rfl rfl rfl rfl rfl rfl ?_
    refine zAK (T := tab) rfl rfl rfl rfl rfl rfl rfl rfl rfl rfl rfl rfl ?_
    refine pe 1 ?_
    refine ns ?_
    exact rN
   ·refine pe 4 ?_
    refine zAN (j := 121) rfl ?_ ?_
    ·refine pe 8 ?_
     refine zAC ?_
     refine zAB (zBC rfl ?_)
     refine sr ?_
     refine zBI (T := tab) rfl rfl rfl rfl rfl rfl rfl ?_
     refine zAK (T := tab) rfl rfl rfl rfl rfl rfl rfl rfl rfl rfl rfl rfl ?_
     refine pe 1 ?_
     refine ns ?_
     exact rN
    ·refine pe 4 ?_
     refine zAN (j := 125) rfl ?_ ?_
     ·refine pe 4 ?_
      refine zAC ?_
      refine zAB (zBC rfl ?_)
      refine sr ?_
      refine zBI (T := tab) rfl rfl rfl rfl rfl rfl rfl ?_
      refine zAK (T := tab) rfl rfl rfl rfl rfl rfl rfl rfl rfl rfl rfl rfl ?_
      refine pe 1 ?_
      refine ns ?_
      exact rN
     ·refine pe 4 ?_
      refine ns ?_
      refine zAR rfl ?_ ?_
      ·refine sr ?_
       refine zBI (T := tab) rfl rfl rfl rfl rfl rfl rfl ?_
       refine zAK (T := tab) rfl rfl rfl rfl rfl rfl rfl rfl rfl rfl rfl rfl ?_
       refine pe 1 ?_
       refine ns ?_
       exact rN
      ·refine zAG ?_
       refine zAB ?_
       refine sr ?_
       refine pe 1 ?_
       refine zAK (T := tab) rfl rfl rfl rfl rfl rfl rfl rfl rfl rfl rfl rfl ?_
       refine pe 1 ?_
       refine ns ?_
       exact rN
  ·refine zAP ?_
   refine zEj 3 ?_
   refine sr ?_
   refine pe 1 ?_
   refine ns ?_
   refine zAE ?_
   refine zBC rfl ?_
   refine zAG ?_
   refine zAB ?_
   refine zAE ?_
   refine zBl (zCJ fu s1 r2 r5 r6 c28 c29 c30) (fun ((rest35, ok36, c37) : Bs × Bool × Bs) => [(0, .v (.string ⟨⟨s1⟩⟩)), (2, .loc 2 0), (4, .v (.string ⟨⟨rest35⟩⟩)), (8, .loc 8 0), (9, .loc 9 0), (10, .v (.bool ok36)), (74, .bsl 400740 2), (75, .v (.int .i64 2)), (76, .v (.int .i64 0))]) (fun ((rest35, ok36, c37) : Bs × Bool × Bs) => [(8, .box 43 [.v (.int .i64 r5), .v (.int .i64 c28), .v (.int .i64 c29), .v (.int .i64 c30), .v (.string ⟨⟨c37⟩⟩), .v (.string ⟨⟨[]⟩⟩), .v (.bool r2.2)]), (400740, .box 112 [.loc 8 4, .loc 8 5]), (9, .box 101 [.v (.string ⟨⟨r6.1.word⟩⟩), .v (.string ⟨⟨r6.1.fields⟩⟩)]), (2, .box 43 [.v (.int .i64 0), .v (.int .i64 0), .v (.int .i64 0), .v (.int .i64 0), .v (.string ⟨⟨[]⟩⟩), .v (.string ⟨⟨[]⟩⟩), .v (.bool false)])]) ?_ fun hj4 => ?_
   ·rintro ⟨rest35, ok36, c37⟩
    refine zAB ?_
    refine zAD ?_
    refine zAg (T := tab) 1 rfl rfl rfl rfl rfl ?_
    refine pe 1 ?_
    refine zAC ?_
    refine zAs 2 ?_
    refine sr ?_
    refine pe 1 ?_
    refine ns ?_
    refine zAE ?_
    refine zBC rfl ?_
    refine zAG ?_
    refine zAB ?_
    refine zAE ?_
    refine zAP ?_
    refine sr ?_
    refine pe 1 ?_
    refine zCb (T := tab) (i := 1) rfl rfl rfl rfl rfl rfl rfl rfl ?_
    refine pe 3 ?_
    refine ns ?_
    refine sr ?_
    refine pe 2 ?_
    refine zAN (j := 82) rfl ?_ ?_
    ·refine pe 3 ?_
     refine zAg (T := tab) 4 rfl rfl rfl rfl rfl ?_
     refine zCn (T := tab) (s := r6.1.fields) rfl rfl rfl rfl rfl rfl rfl fun b38 hb38 => ?_
     refine pe 2 ?_
     refine ns ?_
     refine zAR rfl ?_ ?_
     ·refine sr ?_
      refine pe 2 ?_
      refine zAM (enc := fun (r39 : (Bs × Bs × Bool)) => .tup [.v (.string ⟨⟨r39.1⟩⟩), .v (.string ⟨⟨r39.2.1⟩⟩), .v (.bool r39.2.2)]) (qs := [.v (.string ⟨⟨rest35⟩⟩)]) (zFl fu rest35) rfl rfl ⟨⟨_, rfl, .rfl⟩, trivial⟩ (fun _ => rfl) zQq rfl rfl fun r39 hr39 => ?_
      refine pe 5 ?_
      refine zAK (T := tab) rfl rfl rfl rfl rfl rfl rfl rfl rfl rfl rfl rfl ?_
      refine pe 2 ?_
      refine ns ?_
      refine sr ?_
      refine pe 1 ?_
      refine zAM (enc := fun (r40 : (Bs × Bool)) => .tup [.v (.string ⟨⟨r40.1⟩⟩), .v (.bool r40.2)]) (qs := [.v (.string ⟨⟨r39.2.1⟩⟩), .v (.string ⟨⟨[32]⟩⟩)]) (zCo fu r39.2.1 [32]) rfl rfl ⟨⟨_, rfl, .rfl⟩, ⟨_, rfl, .rfl⟩, trivial⟩ (fun _ => rfl) zOt rfl rfl fun r40 hr40 => ?_
      refine pe 5 ?_
      refine ns ?_
      refine sr ?_
      refine pe 2 ?_
      refine zAN (j := 104) rfl ?_ ?_
      ·refine pe 3 ?_
       refine zAC ?_
       refine zAB (zAx rfl ?_)
       refine zAG ?_
       refine zAJ ?_
       refine zAB ?_
       refine zAD ?_
       refine zAg (T := tab) 2 rfl rfl rfl rfl rfl ?_
       refine pe 1 ?_
       refine zAC ?_
       refine zAs 1 ?_
       refine sr ?_
       refine pe 1 ?_
       refine ns ?_
       refine zAE ?_
       refine zAx rfl ?_
       refine zAr rfl ?_
       exact zAU (hj5 (r39.2.1, r39.2.2, c37, r39.1)) ⟨rfl, rfl, rfl, rfl, rfl, trivial⟩ ⟨rfl, rfl, trivial⟩ rfl
      ·refine pe 3 ?_
       refine zAC ?_
       refine zAB (zAx rfl ?_)
       refine zAG ?_
       refine zAJ ?_
       refine zAB ?_
       refine zAD ?_
       refine zAg (T := tab) 2 rfl rfl rfl rfl rfl ?_
       refine pe 1 ?_
       refine zAC ?_
       refine zAs 1 ?_
       refine sr ?_
       refine pe 1 ?_
       refine ns ?_
       refine zAE ?_
       refine zAx rfl ?_
       refine zAr rfl ?_
       exact zAU (hj5 (r39.2.1, r39.2.2, c37, r39.1)) ⟨rfl, rfl, rfl, rfl, rfl, trivial⟩ ⟨rfl, rfl, trivial⟩ rfl
     ·refine zAG ?_
      refine zAJ ?_
      refine zAB ?_
      refine zAD ?_
      refine zAg (T := tab) 2 rfl rfl rfl rfl rfl ?_
      refine pe 1 ?_
      refine zAC ?_
      refine zAs 1 ?_
      refine sr ?_
      refine pe 1 ?_
      refine ns ?_
      refine zAE ?_
      refine zAx rfl ?_
      refine zAr rfl ?_
      exact zAU (hj5 (rest35, ok36, c37, [])) ⟨rfl, rfl, rfl, rfl, rfl, trivial⟩ ⟨rfl, rfl, trivial⟩ rfl
    ·refine pe 7 ?_
     refine zAC ?_
     refine zAB (zAx rfl ?_)
     refine zAG ?_
     refine zAJ ?_
     refine zAB ?_
     refine zAD ?_
     refine zAg (T := tab) 2 rfl rfl rfl rfl rfl ?_
     refine pe 1 ?_
     refine zAC ?_
     refine zAs 1 ?_
     refine sr ?_
     refine pe 1 ?_
     refine ns ?_
     refine zAE ?_
     refine zAx rfl ?_
     refine zAr rfl ?_
     exact zAU (hj5 (rest35, ok36, c37, [])) ⟨rfl, rfl, rfl, rfl, rfl, trivial⟩ ⟨rfl, rfl, trivial⟩ rfl
   ·refine zAP ?_
    refine sr ?_
    refine pe 1 ?_
    refine zCb (T := tab) (i := 0) rfl rfl rfl rfl rfl rfl rfl rfl ?_
    refine pe 3 ?_
    refine ns ?_
    refine sr ?_
    refine pe 2 ?_
    refine zAN (j := 82) rfl ?_ ?_
    ·refine pe 3 ?_
     refine zAg (T := tab) 3 rfl rfl rfl rfl rfl ?_
     refine zCn (T := tab) (s := r6.1.fields) rfl rfl rfl rfl rfl rfl rfl fun b32 hb32 => ?_
     refine pe 2 ?_
     refine ns ?_
     refine zAR rfl ?_ ?_
     ·refine sr ?_
      refine pe 2 ?_
      refine zAM (enc := fun (r33 : (Bs × Bs × Bool)) => .tup [.v (.string ⟨⟨r33.1⟩⟩), .v (.string ⟨⟨r33.2.1⟩⟩), .v (.bool r33.2.2)]) (qs := [.v (.string ⟨⟨rest26⟩⟩)]) (zFl fu rest26) rfl rfl ⟨⟨_, rfl, .rfl⟩, trivial⟩ (fun _ => rfl) zQq rfl rfl fun r33 hr33 => ?_
      refine pe 5 ?_
      refine zAK (T := tab) rfl rfl rfl rfl rfl rfl rfl rfl rfl rfl rfl rfl ?_
      refine pe 2 ?_
      refine ns ?_
      refine sr ?_
      refine pe 1 ?_
      refine zAM (enc := fun (r34 : (Bs × Bool)) => .tup [.v (.string ⟨⟨r34.1⟩⟩), .v (.bool r34.2)]) (qs := [.v (.string ⟨⟨r33.2.1⟩⟩), .v (.string ⟨⟨[32]⟩⟩)]) (zCo fu r33.2.1 [32]) rfl rfl ⟨⟨_, rfl, .rfl⟩, ⟨_, rfl, .rfl⟩, trivial⟩ (fun _ => rfl) zOt rfl rfl fun r34 hr34 => ?_
      refine pe 5 ?_
      refine ns ?_
      refine sr ?_
      refine pe 2 ?_
      refine zAN (j := 104) rfl ?_ ?_
      ·refine pe 3 ?_
       refine zAC ?_
       refine zAB (zBC rfl ?_)
       refine zAD ?_
       refine pe 2 ?_
       refine zAC ?_
       refine zAJ ?_
       exact zAU (hj4 (r34.1, r33.2.2, r33.1)) ⟨rfl, rfl, rfl, rfl, rfl, rfl, rfl, rfl, rfl, trivial⟩ ⟨rfl, rfl, rfl, rfl, trivial⟩ rfl
      ·refine pe 3 ?_
       refine zAC ?_
       refine zAB (zAx rfl ?_)
       refine zAG ?_
       refine zAJ ?_
       exact zAU (hj4 (r33.2.1, r33.2.2, r33.1)) ⟨rfl, rfl, rfl, rfl, rfl, rfl, rfl, rfl, rfl, trivial⟩ ⟨rfl, rfl, rfl, rfl, trivial⟩ rfl
     ·refine zAG ?_
      refine zAJ ?_
      exact zAU (hj4 (rest26, ok27, [])) ⟨rfl, rfl, rfl, rfl, rfl, rfl, rfl, rfl, rfl, trivial⟩ ⟨rfl, rfl, rfl, rfl, trivial⟩ rfl
    ·refine pe 7 ?_
     refine zAC ?_
     refine zAB (zAx rfl ?_)
     refine zAG ?_
     refine zAJ ?_
     exact zAU (hj4 (rest26, ok27, [])) ⟨rfl, rfl, rfl, rfl, rfl, rfl, rfl, rfl, rfl, trivial⟩ ⟨rfl, rfl, rfl, rfl, trivial⟩ rfl
 ·refine zAP ?_
  refine zEj 4 ?_
  refine sr ?_
  refine pe 1 ?_
  refine ns ?_
  refine zAE ?_
  refine zBC rfl ?_
  refine zAG ?_
  refine zAB ?_
  refine zAE ?_
  refine zBl (zEh fu s1 r2 r5 r6) (fun ((rest12, ok13, c14) : Bs × Bool × Int) => [(0, .v (.string ⟨⟨s1⟩⟩)), (2, .loc 2 0), (4, .v (.string ⟨⟨rest12⟩⟩)), (8, .loc 8 0), (9, .loc 9 0), (10, .v (.bool ok13)), (41, .bsl 400410 3), (42, .v (.int .i64 3)), (43, .v (.int .i64 0))]) (fun ((rest12, ok13, c14) : Bs × Bool × Int) => [(8, .box 43 [.v (.int .i64 r5), .v (.int .i64 c14), .v (.int .i64 0), .v (.int .i64 0), .v (.string ⟨⟨[]⟩⟩), .v (.string ⟨⟨[]⟩⟩), .v (.bool r2.2)]), (400410, .box 107 [.loc 8 1, .loc 8 2, .loc 8 3]), (9, .box 101 [.v (.string ⟨⟨r6.1.word⟩⟩), .v (.string ⟨⟨r6.1.fields⟩⟩)]), (2, .box 43 [.v (.int .i64 0), .v (.int .i64 0), .v (.int .i64 0), .v (.int .i64 0), .v (.string ⟨⟨[]⟩⟩), .v (.string ⟨⟨[]⟩⟩), .v (.bool false)])]) ?_ fun hj1 => ?_
  ·rintro ⟨rest12, ok13, c14⟩
   refine zAB ?_
   refine zAD ?_
   refine zAg (T := tab) 1 rfl rfl rfl rfl rfl ?_
   refine pe 1 ?_
   refine zAC ?_
   refine zAs 3 ?_
   refine sr ?_
   refine pe 1 ?_
   refine ns ?_
   refine zAE ?_
   refine zBC rfl ?_
   refine zAG ?_
   refine zAB ?_
   refine zAE ?_
   refine zBl (zEc fu s1 r2 r5 r6 c14) (fun ((rest19, ok20, c21) : Bs × Bool × Int) => [(0, .v (.string ⟨⟨s1⟩⟩)), (2, .loc 2 0), (4, .v (.string ⟨⟨rest19⟩⟩)), (8, .loc 8 0), (9, .loc 9 0), (10, .v (.bool ok20)), (41, .bsl 400410 3), (42, .v (.int .i64 3)), (43, .v (.int .i64 1))]) (fun ((rest19, ok20, c21) : Bs × Bool × Int) => [(8, .box 43 [.v (.int .i64 r5), .v (.int .i64 c14), .v (.int .i64 c21), .v (.int .i64 0), .v (.string ⟨⟨[]⟩⟩), .v (.string ⟨⟨[]⟩⟩), .v (.bool r2.2)]), (400410, .box 107 [.loc 8 1, .loc 8 2, .loc 8 3]), (9, .box 101 [.v (.string ⟨⟨r6.1.word⟩⟩), .v (.string ⟨⟨r6.1.fields⟩⟩)]), (2, .box 43 [.v (.int .i64 0), .v (.int .i64 0), .v (.int .i64 0), .v (.int .i64 0), .v (.string ⟨⟨[]⟩⟩), .v (.string ⟨⟨[]⟩⟩), .v (.bool false)])]) ?_ fun hj2 => ?_
   ·rintro ⟨rest19, ok20, c21⟩
    refine zAB ?_
    refine zAD ?_
    refine zAg (T := tab) 2 rfl rfl rfl rfl rfl ?_
    refine pe 1 ?_
    refine zAC ?_
    refine zAs 2 ?_
    refine sr ?_
    refine pe 1 ?_
    refine ns ?_
    refine zAE ?_
    refine zBC rfl ?_
    refine zAG ?_
    refine zAB ?_
    refine zAE ?_
    refine zAP ?_
    refine sr ?_
    refine pe 1 ?_
    refine zCb (T := tab) (i := 2) rfl rfl rfl rfl rfl rfl rfl rfl ?_
    refine pe 3 ?_
    refine ns ?_
    refine sr ?_
    refine pe 2 ?_
    refine zAN (j := 49) rfl ?_ ?_
    ·refine pe 3 ?_
     refine zCn (T := tab) (s := r6.1.fields) rfl rfl rfl rfl rfl rfl rfl fun b22 hb22 => ?_
     refine pe 2 ?_
     refine ns ?_
     refine zAR rfl ?_ ?_
     ·refine sr ?_
      refine pe 1 ?_
      refine zAM (enc := fun (r23 : (Bs × Bs × Bool)) => .tup [.v (.string ⟨⟨r23.1⟩⟩), .v (.string ⟨⟨r23.2.1⟩⟩), .v (.bool r23.2.2)]) (qs := [.v (.string ⟨⟨rest19⟩⟩), .v (.string ⟨⟨[32]⟩⟩)]) (zCt fu rest19 [32]) rfl rfl ⟨⟨_, rfl, .rfl⟩, ⟨_, rfl, .rfl⟩, trivial⟩ (fun _ => rfl) zJo rfl rfl fun r23 hr23 => ?_
      refine pe 6 ?_
      refine ns ?_
      refine zAD ?_
      refine pe 4 ?_
      refine zCn (T := tab) (s := r6.1.fields) rfl rfl rfl rfl rfl rfl rfl fun b24 hb24 => ?_
      refine pe 1 ?_
      refine zAM (enc := fun (r25 : (Int × Bool)) => .tup [.v (.int .i64 r25.1), .v (.bool r25.2)]) (qs := [.v (.int .u8 b24), .v (.string ⟨⟨r23.1⟩⟩)]) (zDi fu b24 r23.1) rfl rfl ⟨⟨_, rfl, .rfl⟩, ⟨_, rfl, .rfl⟩, trivial⟩ (fun _ => rfl) zOo rfl rfl fun r25 hr25 => ?_
      refine pe 4 ?_
      refine zAK (T := tab) rfl rfl rfl rfl rfl rfl rfl rfl rfl rfl rfl rfl ?_
      refine pe 1 ?_
      refine zAC ?_
      refine zAJ ?_
      refine zAB ?_
      refine zAD ?_
      refine zAg (T := tab) 3 rfl rfl rfl rfl rfl ?_
      refine pe 1 ?_
      refine zAC ?_
      refine zAs 1 ?_
      refine sr ?_
      refine pe 1 ?_
      refine ns ?_
      refine zAE ?_
      refine zAx rfl ?_
      refine zAr rfl ?_
      exact zAU (hj3 (r23.2.1, r25.2, c14, c21, r25.1)) ⟨rfl, rfl, rfl, rfl, rfl, rfl, trivial⟩ ⟨rfl, rfl, rfl, trivial⟩ rfl
     ·refine zAG ?_
      refine zAJ ?_
      refine zAB ?_
      refine zAD ?_
      refine zAg (T := tab) 3 rfl rfl rfl rfl rfl ?_
      refine pe 1 ?_
      refine zAC ?_
      refine zAs 1 ?_
      refine sr ?_
      refine pe 1 ?_
      refine ns ?_
      refine zAE ?_
      refine zAx rfl ?_
      refine zAr rfl ?_
      exact zAU (hj3 (rest19, ok20, c14, c21, 0)) ⟨rfl, rfl, rfl, rfl, rfl, rfl, trivial⟩ ⟨rfl, rfl, rfl, trivial⟩ rfl
    ·refine pe 6 ?_
     refine zAC ?_
     refine zAB (zAx rfl ?_)
     refine zAG ?_
     refine zAJ ?_
     refine zAB ?_
     refine zAD ?_
     refine zAg (T := tab) 3 rfl rfl rfl rfl rfl ?_
     refine pe 1 ?_
     refine zAC ?_
     refine zAs 1 ?_
     refine sr ?_
     refine pe 1 ?_
     refine ns ?_
     refine zAE ?_
     refine zAx rfl ?_
     refine zAr rfl ?_
     exact zAU (hj3 (rest19, ok20, c14, c21, 0)) ⟨rfl, rfl, rfl, rfl, rfl, rfl, trivial⟩ ⟨rfl, rfl, rfl, trivial⟩ rfl
   ·refine zAP ?_
    refine sr ?_
    refine pe 1 ?_
    refine zCb (T := tab) (i := 1) rfl rfl rfl rfl rfl rfl rfl rfl ?_
    refine pe 3 ?_
    refine ns ?_
    refine sr ?_
    refine pe 2 ?_
    refine zAN (j := 49) rfl ?_ ?_
    ·refine pe 3 ?_
     refine zCn (T := tab) (s := r6.1.fields) rfl rfl rfl rfl rfl rfl rfl fun b15 hb15 => ?_
     refine pe 2 ?_
     refine ns ?_
     refine zAR rfl ?_ ?_
     ·refine sr ?_
      refine pe 1 ?_
      refine zAM (enc := fun (r16 : (Bs × Bs × Bool)) => .tup [.v (.string ⟨⟨r16.1⟩⟩), .v (.string ⟨⟨r16.2.1⟩⟩), .v (.bool r16.2.2)]) (qs := [.v (.string ⟨⟨rest12⟩⟩), .v (.string ⟨⟨[32]⟩⟩)]) (zCt fu rest12 [32]) rfl rfl ⟨⟨_, rfl, .rfl⟩, ⟨_, rfl, .rfl⟩, trivial⟩ (fun _ => rfl) zJo rfl rfl fun r16 hr16 => ?_
      refine pe 6 ?_
      refine ns ?_
      refine zAD ?_
      refine pe 4 ?_
      refine zCn (T := tab) (s := r6.1.fields) rfl rfl rfl rfl rfl rfl rfl fun b17 hb17 => ?_
      refine pe 1 ?_
      refine zAM (enc := fun (r18 : (Int × Bool)) => .tup [.v (.int .i64 r18.1), .v (.bool r18.2)]) (qs := [.v (.int .u8 b17), .v (.string ⟨⟨r16.1⟩⟩)]) (zDi fu b17 r16.1) rfl rfl ⟨⟨_, rfl, .rfl⟩, ⟨_, rfl, .rfl⟩, trivial⟩ (fun _ => rfl) zOo rfl rfl fun r18 hr18 => ?_
      refine pe 4 ?_
      refine zAK (T := tab) rfl rfl rfl rfl rfl rfl rfl rfl rfl rfl rfl rfl ?_
      refine pe 1 ?_
      refine zAC ?_
      refine zAJ ?_
      exact zAU (hj2 (r16.2.1, r18.2, r18.1)) ⟨rfl, rfl, rfl, rfl, rfl, rfl, rfl, rfl, rfl, trivial⟩ ⟨rfl, rfl, rfl, rfl, trivial⟩ rfl
     ·refine zAG ?_
      refine zAJ ?_
      exact zAU (hj2 (rest12, ok13, 0)) ⟨rfl, rfl, rfl, rfl, rfl, rfl, rfl, rfl, rfl, trivial⟩ ⟨rfl, rfl, rfl, rfl, trivial⟩ rfl
    ·refine pe 6 ?_
     refine zAC ?_
     refine zAB (zAx rfl ?_)
     refine zAG ?_
     refine zAJ ?_
     exact zAU (hj2 (rest12, ok13, 0)) ⟨rfl, rfl, rfl, rfl, rfl, rfl, rfl, rfl, rfl, trivial⟩ ⟨rfl, rfl, rfl, rfl, trivial⟩ rfl
  ·refine zAP ?_
   refine sr ?_
   refine pe 1 ?_
   refine zCb (T := tab) (i := 0) rfl rfl rfl rfl rfl rfl rfl rfl ?_
   refine pe 3 ?_
   refine ns ?_
   refine sr ?_
   refine pe 2 ?_
   refine zAN (j := 49) rfl ?_ ?_
   ·refine pe 3 ?_
    refine zCn (T := tab) (s := r6.1.fields) rfl rfl rfl rfl rfl rfl rfl fun b8 hb8 => ?_
    refine pe 2 ?_
    refine ns ?_
    refine zAR rfl ?_ ?_
    ·refine sr ?_
     refine pe 1 ?_
     refine zAM (enc := fun (r9 : (Bs × Bs × Bool)) => .tup [.v (.string ⟨⟨r9.1⟩⟩), .v (.string ⟨⟨r9.2.1⟩⟩), .v (.bool r9.2.2)]) (qs := [.v (.string ⟨⟨r3.2.1⟩⟩), .v (.string ⟨⟨[32]⟩⟩)]) (zCt fu r3.2.1 [32]) rfl rfl ⟨⟨_, rfl, .rfl⟩, ⟨_, rfl, .rfl⟩, trivial⟩ (fun _ => rfl) zJo rfl rfl fun r9 hr9 => ?_
     refine pe 6 ?_
     refine ns ?_
     refine zAD ?_
     refine pe 4 ?_
     refine zCn (T := tab) (s := r6.1.fields) rfl rfl rfl rfl rfl rfl rfl fun b10 hb10 => ?_
     refine pe 1 ?_
     refine zAM (enc := fun (r11 : (Int × Bool)) => .tup [.v (.int .i64 r11.1), .v (.bool r11.2)]) (qs := [.v (.int .u8 b10), .v (.string ⟨⟨r9.1⟩⟩)]) (zDi fu b10 r9.1) rfl rfl ⟨⟨_, rfl, .rfl⟩, ⟨_, rfl, .rfl⟩, trivial⟩ (fun _ => rfl) zOo rfl rfl fun r11 hr11 => ?_
     refine pe 4 ?_
     refine zAK (T := tab) rfl rfl rfl rfl rfl rfl rfl rfl rfl rfl rfl rfl ?_
     refine pe 1 ?_
     refine zAC ?_
     refine zAJ ?_
     exact zAU (hj1 (r9.2.1, r11.2, r11.1)) ⟨rfl, rfl, rfl, rfl, rfl, rfl, rfl, rfl, rfl, trivial⟩ ⟨rfl, rfl, rfl, rfl, trivial⟩ rfl
    ·refine zAG ?_
     refine zAJ ?_
     exact zAU (hj1 (r3.2.1, r6.2, 0)) ⟨rfl, rfl, rfl, rfl, rfl, rfl, rfl, rfl, rfl, trivial⟩ ⟨rfl, rfl, rfl, rfl, trivial⟩ rfl
   ·refine pe 6 ?_
    refine zAC ?_
    refine zAB (zAx rfl ?_)
    refine zAG ?_
    refine zAJ ?_
    exact zAU (hj1 (r3.2.1, r6.2, 0)) ⟨rfl, rfl, rfl, rfl, rfl, rfl, rfl, rfl, rfl, trivial⟩ ⟨rfl, rfl, rfl, rfl, trivial⟩ rfl
def zMq (fu : Nat) (c1 : Bs) : Option (Bs × Bs) := bnd (zH2 fu c1 10) fun r2 => cnd (decide (r2 ≥ 0)) (bnd (rng .i64 (r2 + 1)) fun i3 => bnd (zC6 c1 0 i3) fun s4 => bnd (rng .i64 (r2 + 1)) fun i5 => bnd (zC6 c1 i5 ((c1.length : Nat) : Int)) fun s6 => some (s4, s6)) (some (c1, []))
set_option maxRecDepth 100000 in
theorem zKf (fu : Nat) : ∃ r1 mid, Tryz.f73.body = some (zHu r1 mid 9 3 4 41) ∧ ∀ (c1 : Bs) (l : Nat) w0 X X0 σ0 hl z, PW (⟨Tryz.prog, Tryz.f73, w0, X, X0, σ0, [0], fun _ _ _ => True, z, zAi, hl, none⟩ : Ctx (Bs × Bs)) (cutM c1) r1 [.seq mid, .loopK (fun y a w => Pre (⟨Tryz.prog, Tryz.f73, w0, X, X0, σ0, [0], fun _ _ _ => True, z, zAi, hl, none⟩ : Ctx (Bs × Bs)) (zMo l y.1) (zG9 9 y.2) a w) (fun _ _ _ => False)] (zKF l) (zG9 9 c1) := by
 refine ⟨_, _, rfl, fun c1 l w0 X X0 σ0 hl z => ?_⟩
 refine zRn (m' := zMq fu c1) rfl ?_
 refine zAD ?_
 refine pe 1 ?_
 refine ns ?_
 refine sr ?_
 refine pe 1 ?_
 refine zAM (enc := fun (r2 : Int) => .v (.int .i64 r2)) (qs := [.v (.string ⟨⟨c1⟩⟩), .v (.int .u8 10)]) (zJs fu c1 10) rfl rfl ⟨⟨_, rfl, .rfl⟩, ⟨_, rfl, .rfl⟩, trivial⟩ (fun _ => rfl) call74 rfl rfl fun r2 hr2 => ?_
 refine pe 1 ?_
 refine ns ?_
 refine sr ?_
 refine pe 2 ?_
 refine ns ?_
 refine zAR rfl ?_ ?_
 ·refine zBD (E' := [(0, .fn (.yield l) [] []), (1, .loc 0 0), (4, .v (.int .i64 r2))]) (S' := [(0, .box 9 [.v (.string ⟨⟨c1⟩⟩)])]) ?_ ⟨rfl, rfl, rfl, trivial⟩ ⟨rfl, trivial⟩ rfl
  refine zBM [0, 0, 2, 7, 0, 0, 32, 112, 15, 511] mixed (by kernel_rfl) (by kernel_rfl) rfl rfl ?_
  refine vf [1, 2] [24] [] [0] [0] [(12, .v (.string ⟨⟨c1⟩⟩))] [(0, .box 9 [.v (.string ⟨⟨c1⟩⟩)])] ?_
  refine ve [8] [26] [] [(13, .v (.int .i64 r2))] ?_
  refine zAj (M := (rng .i64 (r2 + 1))) (ment := [(28, [])]) [26] [28] [] [] [] (fun i3 => [(14, .v (.int .i64 i3))]) (fun i3 => []) rfl rfl (fun _ => rfl) (fun _ => rfl) (by kernel_rfl) (by kernel_rfl) (fun _ => by kernel_rfl) (fun _ => trivial) (fun w0 X X0 σ0 _ => by refine zAV (T := tab) rfl rfl rfl rfl fun i3 hi3 => ?_; refine zAC ?_; exact zBj ⟨rfl, trivial⟩ trivial rfl) fun i3 hi3 => ?_
  refine zAj (M := (zC6 c1 0 i3)) (ment := [(30, [])]) [24, 28] [30] [] [] [] (fun s4 => [(15, .v (.string ⟨⟨s4⟩⟩))]) (fun s4 => []) rfl rfl (fun _ => rfl) (fun _ => rfl) (by kernel_rfl) (by kernel_rfl) (fun _ => by kernel_rfl) (fun _ => trivial) (fun w0 X X0 σ0 _ => by refine zGt (T := tab) rfl rfl rfl rfl rfl rfl rfl rfl fun s4 hs4 => ?_; refine zAC ?_; exact zBj ⟨rfl, trivial⟩ trivial rfl) fun s4 hs4 => ?_
  refine vf [1, 2] [32] [] [0] [0] [(16, .v (.string ⟨⟨c1⟩⟩))] [(0, .box 9 [.v (.string ⟨⟨c1⟩⟩)])] ?_
  refine ve [8] [34] [] [(17, .v (.int .i64 r2))] ?_
  refine zAj (M := (rng .i64 (r2 + 1))) (ment := [(36, [])]) [34] [36] [] [] [] (fun i5 => [(18, .v (.int .i64 i5))]) (fun i5 => []) rfl rfl (fun _ => rfl) (fun _ => rfl) (by kernel_rfl) (by kernel_rfl) (fun _ => by kernel_rfl) (fun _ => trivial) (fun w0 X X0 σ0 _ => by refine zAV (T := tab) rfl rfl rfl rfl fun i5 hi5 => ?_; refine zAC ?_; exact zBj ⟨rfl, trivial⟩ trivial rfl) fun i5 hi5 => ?_
  refine zAj (M := (zC6 c1 i5 ((c1.length : Nat) : Int))) (ment := [(38, [])]) [32, 36] [38] [] [] [] (fun s6 => [(19, .v (.string ⟨⟨s6⟩⟩))]) (fun s6 => []) rfl rfl (fun _ => rfl) (fun _ => rfl) (by kernel_rfl) (by kernel_rfl) (fun _ => by kernel_rfl) (fun _ => trivial) (fun w0 X X0 σ0 _ => by refine zGt (T := tab) rfl rfl rfl rfl rfl rfl rfl rfl fun s6 hs6 => ?_; refine zAC ?_; exact zBj ⟨rfl, trivial⟩ trivial rfl) fun s6 hs6 => ?_
  refine ve [30] [6] [] [(3, .v (.string ⟨⟨s4⟩⟩))] ?_
  refine zAY [1, 2, 38] [1] [] [0] [] [] [(0, .box 9 [.v (.string ⟨⟨s6⟩⟩)])] rfl rfl rfl rfl (by kernel_rfl) (by kernel_rfl) (by kernel_rfl) trivial (fun w0 X X0 σ0 _ => by refine zAK (T := tab) rfl rfl rfl rfl rfl rfl rfl rfl rfl rfl rfl rfl ?_; refine zAC ?_; exact zAz trivial ⟨rfl, trivial⟩ rfl) ?_
  refine zBr rfl rfl ?_
  exact zOR ⟨rfl, rfl, rfl, trivial⟩ ⟨rfl, trivial⟩ rfl
 ·refine zAD ?_
  refine pe 2 ?_
  refine zAK (T := tab) rfl rfl rfl rfl rfl rfl rfl rfl rfl rfl rfl rfl ?_
  refine zAC ?_
  exact zOR ⟨rfl, rfl, rfl, trivial⟩ ⟨rfl, trivial⟩ rfl
def zBL (fu : Nat) : List Bs → Nat × Int × (List Class × Bool) × Bool × (List Bs) × (List Op) × (List Op) × (List Hook × Bool) × Int × (List Op) × (List Op) → Option (Script × Int)
 | [], (k3, c4, c5, c6, l7, l8, l9, c10, c11, l12, l13) => some ((⟨(c5.1 ++ if c5.2 then [(⟨c6, l7, l8, l9, (c10.1 ++ if c10.2 then [(⟨c11, l12⟩ : Hook)] else [])⟩ : Class)] else []), l13⟩ : Script), 0)
 | y14 :: ys15, (k3, c4, c5, c6, l7, l8, l9, c10, c11, l12, l13) => bnd (zBG fu y14 [10]) fun r16 => cnd (r16 == ([] : Bs)) ((zBL fu ys15) (k3, c4, c5, c6, l7, l8, l9, c10, c11, l12, l13)) (bnd (zCF fu r16 k3 c4 c5 c6 c10 c11 l7 l8 l9 l12) fun r17 => cnd r17.1 ((zBL fu ys15) (r17.2.1, r17.2.2.1, r17.2.2.2.1, r17.2.2.2.2.1, r17.2.2.2.2.2.2.2.1, r17.2.2.2.2.2.2.2.2.1, r17.2.2.2.2.2.2.2.2.2.1, r17.2.2.2.2.2.1, r17.2.2.2.2.2.2.1, r17.2.2.2.2.2.2.2.2.2.2, l13)) (sel4 r17.2.1 (cnd (((l13.length : Nat) : Int) == r17.2.2.1) (some ((⟨[], []⟩ : Script), 3)) (bnd (zBt fu r16) fun r18 => bnd (zED 72 (l13.length + ([r18.1] : List Op).length)) fun _ => (zBL fu ys15) (0, r17.2.2.1, r17.2.2.2.1, r17.2.2.2.2.1, r17.2.2.2.2.2.2.2.1, r17.2.2.2.2.2.2.2.2.1, r17.2.2.2.2.2.2.2.2.2.1, r17.2.2.2.2.2.1, r17.2.2.2.2.2.2.1, r17.2.2.2.2.2.2.2.2.2.2, (l13 ++ [r18.1])))) (bnd (zHA r17.2.2.2.1.2) fun _ => cnd (((r17.2.2.2.2.2.2.2.2.1.length : Nat) : Int) == r17.2.2.1) (some ((⟨[], []⟩ : Script), 3)) (bnd (zBt fu r16) fun r19 => bnd (zED 72 (r17.2.2.2.2.2.2.2.2.1.length + ([r19.1] : List Op).length)) fun _ => (zBL fu ys15) (1, r17.2.2.1, (r17.2.2.2.1.1, true), r17.2.2.2.2.1, r17.2.2.2.2.2.2.2.1, (r17.2.2.2.2.2.2.2.2.1 ++ [r19.1]), r17.2.2.2.2.2.2.2.2.2.1, r17.2.2.2.2.2.1, r17.2.2.2.2.2.2.1, r17.2.2.2.2.2.2.2.2.2.2, l13))) (bnd (zHA r17.2.2.2.1.2) fun _ => cnd (((r17.2.2.2.2.2.2.2.2.2.1.length : Nat) : Int) == r17.2.2.1) (some ((⟨[], []⟩ : Script), 3)) (bnd (zBt fu r16) fun r20 => bnd (zED 72 (r17.2.2.2.2.2.2.2.2.2.1.length + ([r20.1] : List Op).length)) fun _ => (zBL fu ys15) (2, r17.2.2.1, (r17.2.2.2.1.1, true), r17.2.2.2.2.1, r17.2.2.2.2.2.2.2.1, r17.2.2.2.2.2.2.2.2.1, (r17.2.2.2.2.2.2.2.2.2.1 ++ [r20.1]), r17.2.2.2.2.2.1, r17.2.2.2.2.2.2.1, r17.2.2.2.2.2.2.2.2.2.2, l13))) (bnd (zHA r17.2.2.2.2.2.1.2) fun _ => cnd (((r17.2.2.2.2.2.2.2.2.2.2.length : Nat) : Int) == r17.2.2.1) (some ((⟨[], []⟩ : Script), 3)) (bnd (zBt fu r16) fun r21 => bnd (zED 72 (r17.2.2.2.2.2.2.2.2.2.2.length + ([r21.1] : List Op).length)) fun _ => (zBL fu ys15) (3, r17.2.2.1, r17.2.2.2.1, r17.2.2.2.2.1, r17.2.2.2.2.2.2.2.1, r17.2.2.2.2.2.2.2.2.1, r17.2.2.2.2.2.2.2.2.2.1, (r17.2.2.2.2.2.1.1, true), r17.2.2.2.2.2.2.1, (r17.2.2.2.2.2.2.2.2.2.2 ++ [r21.1]), l13)))))
def zCN (fu : Nat) (s1 : Bs) : Option (Script × Int) := cnd (decide (((s1.length : Nat) : Int) > 16384)) (some ((⟨[], []⟩ : Script), 3)) (bnd (zBW fu 300) fun r2 => bnd (fits s1) fun _ => (zBL fu) (zBg s1) (0, r2.2, (([] : List Class), false), false, ([] : List Bs), ([] : List Op), ([] : List Op), (([] : List Hook), false), 0, ([] : List Op), ([] : List Op)))
end Go.Proofs.YtoboimmgglnjfaaGreatDoor
