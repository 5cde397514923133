/-
  The six orders in which drive.New may make its memory: what stands where.
-/
import Derived.Test.YtljphijjcagciaaDrive6
import Derived.Test.YtljphijjcagciaaPoly3
namespace Go.Proofs.Ytljphijjcagciaa
open Go.RowKit

def mb (n : Nat) : Obj := .cells (Array.replicate n (Value.bool false)) 4
def mi (n : Nat) : Obj := .cells (Array.replicate n (Value.int IntKind.i64 0)) 3
structure NewAt (L : CL) (w1 V : World) (cs : List Value) (d b x : Nat) : Prop where
  top : Row V d 83 cs
  bad : Row V b 4 (List.replicate L.n (.bool false))
  next : Row V x 3 (List.replicate L.n (.int .i64 0))
  upd : Upd noBlk w1 V
  d1 : w1.heap.size ≤ d
  b1 : w1.heap.size ≤ b
  x1 : w1.heap.size ≤ x
  db : d ≠ b
  dx : d ≠ x
  bx : b ≠ x
theorem Row.newA (w : World) (n : Nat) (v : Value) (t : TypeId) : Row (w.alloc (.cells (Array.replicate n v) t)) w.heap.size t (List.replicate n v) := by
  rw [← List.toArray_replicate]; exact Row.new w _ _
theorem size_alloc' (w : World) (o : Obj) : (w.alloc o).heap.size = w.heap.size + 1 := World.size_alloc _ _

theorem newAt1 (L : CL) (w1 w2 : World) (cs : List Value) (hu : Upd noBlk w1.drew w2) : NewAt L w1 (((w2.alloc (mb L.n)).alloc (mi L.n)).alloc (.cells cs.toArray 83)) cs (w2.heap.size + 1 + 1) w2.heap.size (w2.heap.size + 1) := by
  have hs : w1.heap.size ≤ w2.heap.size := hu.size
  have hn := Row.new ((w2.alloc (mb L.n)).alloc (mi L.n)) cs 83
  have hi := Row.newA (w2.alloc (mb L.n)) L.n (.int .i64 0) 3
  rw [size_alloc', size_alloc'] at hn; rw [size_alloc'] at hi
  exact ⟨hn, ((Row.newA w2 L.n (.bool false) 4).alloc _).alloc _, hi.alloc _, ((((Upd.refl noBlk w1).drew.trans' hu).alloc _).alloc _).alloc _, by omega, by omega, by omega, by omega, by omega, by omega⟩
theorem newAt2 (L : CL) (w1 w2 : World) (cs : List Value) (hu : Upd noBlk w1.drew w2) : NewAt L w1 (((w2.alloc (mi L.n)).alloc (mb L.n)).alloc (.cells cs.toArray 83)) cs (w2.heap.size + 1 + 1) (w2.heap.size + 1) w2.heap.size := by
  have hs : w1.heap.size ≤ w2.heap.size := hu.size
  have hn := Row.new ((w2.alloc (mi L.n)).alloc (mb L.n)) cs 83
  have hi := Row.newA (w2.alloc (mi L.n)) L.n (.bool false) 4
  rw [size_alloc', size_alloc'] at hn; rw [size_alloc'] at hi
  exact ⟨hn, hi.alloc _, ((Row.newA w2 L.n (.int .i64 0) 3).alloc _).alloc _, ((((Upd.refl noBlk w1).drew.trans' hu).alloc _).alloc _).alloc _, by omega, by omega, by omega, by omega, by omega, by omega⟩
theorem newAt3 (L : CL) (w1 w2 : World) (cs : List Value) (hu : Upd noBlk (w1.alloc (mb L.n)).drew w2) : NewAt L w1 ((w2.alloc (mi L.n)).alloc (.cells cs.toArray 83)) cs (w2.heap.size + 1) w1.heap.size w2.heap.size := by
  have hs : (w1.alloc (mb L.n)).heap.size ≤ w2.heap.size := hu.size
  rw [size_alloc'] at hs
  have hn := Row.new (w2.alloc (mi L.n)) cs 83
  rw [size_alloc'] at hn
  exact ⟨hn, (((Row.newA w1 L.n (.bool false) 4).drew.upd hu id).alloc _).alloc _, (Row.newA w2 L.n (.int .i64 0) 3).alloc _, ((((Upd.refl noBlk w1).alloc _).drew.trans' hu).alloc _).alloc _, by omega, by omega, by omega, by omega, by omega, by omega⟩
theorem newAt4 (L : CL) (w1 w2 : World) (cs : List Value) (hu : Upd noBlk ((w1.alloc (mb L.n)).alloc (mi L.n)).drew w2) : NewAt L w1 (w2.alloc (.cells cs.toArray 83)) cs w2.heap.size w1.heap.size (w1.heap.size + 1) := by
  have hs : ((w1.alloc (mb L.n)).alloc (mi L.n)).heap.size ≤ w2.heap.size := hu.size
  rw [size_alloc', size_alloc'] at hs
  have hi := Row.newA (w1.alloc (mb L.n)) L.n (.int .i64 0) 3
  rw [size_alloc'] at hi
  exact ⟨Row.new w2 cs _, ((((Row.newA w1 L.n (.bool false) 4).alloc _).drew).upd hu id).alloc _, (hi.drew.upd hu id).alloc _, ((((Upd.refl noBlk w1).alloc _).alloc _).drew.trans' hu).alloc _, by omega, by omega, by omega, by omega, by omega, by omega⟩
theorem newAt5 (L : CL) (w1 w2 : World) (cs : List Value) (hu : Upd noBlk (w1.alloc (mi L.n)).drew w2) : NewAt L w1 ((w2.alloc (mb L.n)).alloc (.cells cs.toArray 83)) cs (w2.heap.size + 1) w2.heap.size w1.heap.size := by
  have hs : (w1.alloc (mi L.n)).heap.size ≤ w2.heap.size := hu.size
  rw [size_alloc'] at hs
  have hn := Row.new (w2.alloc (mb L.n)) cs 83
  rw [size_alloc'] at hn
  exact ⟨hn, (Row.newA w2 L.n (.bool false) 4).alloc _, (((Row.newA w1 L.n (.int .i64 0) 3).drew.upd hu id).alloc _).alloc _, ((((Upd.refl noBlk w1).alloc _).drew.trans' hu).alloc _).alloc _, by omega, by omega, by omega, by omega, by omega, by omega⟩
theorem newAt6 (L : CL) (w1 w2 : World) (cs : List Value) (hu : Upd noBlk ((w1.alloc (mi L.n)).alloc (mb L.n)).drew w2) : NewAt L w1 (w2.alloc (.cells cs.toArray 83)) cs w2.heap.size (w1.heap.size + 1) w1.heap.size := by
  have hs : ((w1.alloc (mi L.n)).alloc (mb L.n)).heap.size ≤ w2.heap.size := hu.size
  rw [size_alloc', size_alloc'] at hs
  have hi := Row.newA (w1.alloc (mi L.n)) L.n (.bool false) 4
  rw [size_alloc'] at hi
  exact ⟨Row.new w2 cs _, (hi.drew.upd hu id).alloc _, ((((Row.newA w1 L.n (.int .i64 0) 3).alloc _).drew).upd hu id).alloc _, ((((Upd.refl noBlk w1).alloc _).alloc _).drew.trans' hu).alloc _, by omega, by omega, by omega, by omega, by omega, by omega⟩

end Go.Proofs.Ytljphijjcagciaa
