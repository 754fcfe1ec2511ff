/- What move.why answers, as a contract. -/
import Derived.Test.YtmfbghpealgaiaaGreatDoorWhy2
import Derived.Below
namespace Go.Proofs.YtmfbghpealgaiaaGreatDoor
open Go Go.Pw
open Nat renaming le_refl->cB
open Go.RowKit Go.Extern.Stop Go.Stop Go.Extern
def zVU (w:World):Prop:=w.cell? ⟨0,0,none⟩=some (.iface 355 (.agg #[.pointer (some ⟨5,122,none⟩)]))
theorem zX4 {W w':World} (d:∀b,b<W.heap.size->w'.heap[b]? = W.heap[b]?) (h:zVU W):zVU w':=by
 have c:0<W.heap.size:=by
  rcases Nat.lt_or_ge 0 W.heap.size with a | a
  ·exact a
  ·simp [zVU,World.cell?,Array.getElem?_eq_none a] at h
 exact (World.cell?_of_block (w:=W) (d _ c)).trans h
theorem zeu (w:World):Calls Tryz.prog 92 #[.nilIface] w fun ev a=>ev=.returned (.int .i64 0)/\RowKit.Below w.heap.size w a:=by
 go_enter Tryz.func92,Tryz.ntmps92
 go_wp2_with (first | (go_at_call 155;refine (zhQ _ _).mono ?_;rintro e a ⟨rfl,rfl⟩))
 go_ret
 exact ⟨rfl,(RowKit.Below.refl _ w).alloc (cB _) _⟩
theorem zZr (s:List UInt8) (e:Int) (t:Addr) {B:Nat} {a w:World} (h:RowKit.Below B a w) (b:B<=w.heap.size):RowKit.Below B a (zc4 s e t w):=by
 unfold zc4
 exact ((((h.alloc b _).alloc (by simp;omega) _).alloc (by simp;omega) _).alloc (by simp;omega) _).alloc (by simp;omega) _
theorem zev (s:List UInt8) (e:Int) (w:World) (h:zVU w):Calls Tryz.prog 92 #[.iface 181 (.agg #[.string ⟨⟨s⟩⟩,.iface 179 (.agg #[.int .i64 e])])] w fun ev c=>ev=.returned (.int .i64 e)/\RowKit.Below w.heap.size w c:=by
 have d:zVU (w.alloc (.cells #[.int .i64 0] 179)):=zX4 (fun b f=>RowKit.Below.heap_alloc _ _ _ f) h
 have a:(w.alloc (.cells #[.int .i64 0] 179)).cell? ⟨w.heap.size,0,none⟩=some (.int .i64 0):=by simp
 have g:(w.alloc (.cells #[.int .i64 0] 179)).frozen? ⟨w.heap.size,0,none⟩=false:=by simp
 have i:((zc4 s e ⟨w.heap.size,0,none⟩ (w.alloc (.cells #[.int .i64 0] 179))).setCell ⟨w.heap.size,0,none⟩ (.int .i64 e)).cell? ⟨w.heap.size,0,none⟩=some (.int .i64 e):=by
  refine World.cell?_setCell_same (u:=.int .i64 0) _ _ _ ?_
  unfold zc4
  rw [World.cell?_alloc_lt _ _ _ (by simp;omega),World.cell?_alloc_lt _ _ _ (by simp;omega),World.cell?_alloc_lt _ _ _ (by simp;omega),World.cell?_alloc_lt _ _ _ (by simp;omega),World.cell?_alloc_lt _ _ _ (by simp)]
  exact a
 go_enter Tryz.func92,Tryz.ntmps92
 go_wp2_with (first | (go_at_call 155;refine (why_as s e _ (.int .i64 0) _ d a g).mono ?_;rintro ev c ⟨rfl,rfl⟩))
 go_ret
 exact ⟨rfl,(zZr s e _ ((RowKit.Below.refl _ w).alloc (cB _) _) (by simp)).setCell (cB _) _⟩
end Go.Proofs.YtmfbghpealgaiaaGreatDoor
