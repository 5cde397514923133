/-
  The walks over the small functions of layer 8's statements, and a drive's program whatever is asked.
-/
import Derived.Test.YtljphijjcagciaaDrive7
import Derived.Test.YtljphijjcagciaaPure08
namespace Go.Proofs.Ytljphijjcagciaa
open Go.RowKit

theorem DriveAt.foot_lt {w : World} {D : DL} {d : Drive} (h : DriveAt w D d) {k : Nat} (hk : D.foot k) : k < w.heap.size := by
  rcases hk with hk | hk | hk | hk
  · exact h.chip.foot_lt hk
  · rw [hk]; exact h.top.lt
  · rw [hk]; exact h.bad.lt
  · rw [hk]; exact h.next.lt
theorem Row.uw {W : World} {b : Nat} {t : TypeId} {cs : List Value} (h : Row W b t cs) {i : Nat} {v : Value} (hv : cs[i]? = some v) (n : UW W) : n.w.cell? ⟨b, i, none⟩ = some v := n.cell (h.get hv)
/-- What is new since w is written alone. -/
theorem Upd.fresh {S : Nat → Prop} {w w1 w2 : World} (h : Upd noBlk w w1) (h2 : Upd S w1 w2) (hS : ∀ k, S k → w.heap.size ≤ k) : Upd noBlk w w2 := h.trans h2 fun i hi hs => absurd (hS i hs) (by omega)

theorem driveProgram_any (D : DL) (d : Drive) (k : Int) (t : Tag) (data : ByteArray) (w : World) (h : DriveAt w D d) (hfu : d.chip.fuse ≤ 1000000) (hd : data.size ≤ 100000) (hs : 0 ≤ t.seq ∧ t.seq ≤ 18446744073709551615) :
    Calls Try.prog 10 #[.pointer (some ⟨D.d, 0, none⟩), .int .i64 k, t.val, .string data] w fun e w' => e = .returned (.tuple #[.int .i64 (d.program k t data).1, .int .i64 (d.program k t data).2.1]) ∧ DriveAt w' D (d.program k t data).2.2 ∧ Upd D.foot w w' := by
  by_cases hr : d.ready k = 0
  · exact driveProgram_go D d k t data w h hfu hd hs hr
  · have e : d.program k t data = (0, d.ready k, d) := by unfold Drive.program; rw [if_pos hr]
    rw [e]
    refine (driveProgram_no D d k t data w h hr).mono ?_
    rintro x w' ⟨rfl, hu⟩
    exact ⟨rfl, h.upd hu fun _ h => h.elim, hu.mono fun _ _ h => h.elim⟩

theorem full08_any (l : List UInt8) (n : Nat) (hl : l.length ≤ 1000000) (hn : n ≤ 1000000) (w : World) :
    Calls Try.prog 11 #[.string (mkS l), .int .i64 (n : Int)] w fun e w' => e = .returned (.string (fullS l n)) ∧ Upd noBlk w w' := by
  have HR := hid (fun w' => Repeat_any (mkS [85]) (n : Int) w' (by omega) (by simp [mkS_size]; omega))
  have h1 : (repS (mkS [85]) n).size = n := by rw [repS_size, mkS_size]; simp
  have hs : (mkS l).size = l.length := rfl
  simp only [Int.toNat_natCast] at HR
  unfold fullS
  generalize repS (mkS [85]) n = R at HR h1 ⊢
  generalize mkS l = S at hs ⊢
  go_enter Try.func11, Try.ntmps11
  go_wp2_with fail
  refine (HR.out _).mono ?_; rintro e w1 ⟨rfl, hu⟩
  have HU := hid hu; clear hu
  go_wp2_with fail
  go_ret
  exact ⟨rfl, HU.out⟩

end Go.Proofs.Ytljphijjcagciaa
