/-
  The walk over a chip's Program.
-/
import Derived.Test.YtljphijjcagciaaNand4
namespace Go.Proofs.Ytljphijjcagciaa
open Go.RowKit

theorem Chip.burn_bl (c : Chip) (er : Bool) : (c.burn er).2.bl = c.bl := by unfold Chip.burn; cases er <;> simp only [Bool.false_eq_true, if_true, if_false] <;> split <;> rfl
theorem Chip.burn_np (c : Chip) (er : Bool) : (c.burn er).2.np = c.np := by unfold Chip.burn; cases er <;> simp only [Bool.false_eq_true, if_true, if_false] <;> split <;> rfl
theorem Chip.burn_sz (c : Chip) (er : Bool) : (c.burn er).2.sz = c.sz := by unfold Chip.burn; cases er <;> simp only [Bool.false_eq_true, if_true, if_false] <;> split <;> rfl
theorem Chip.burn_torn (c : Chip) (er : Bool) : (c.burn er).2.torn = c.torn := by unfold Chip.burn; cases er <;> simp only [Bool.false_eq_true, if_true, if_false] <;> split <;> rfl
theorem Chip.burn_at (c : Chip) (er : Bool) (k : Int) : (c.burn er).2.at k = c.at k := by unfold Chip.at; rw [Chip.burn_bl]
theorem Chip.burn_has (c : Chip) (er : Bool) (k : Int) : (c.burn er).2.has k = c.has k := by unfold Chip.has; rw [Chip.burn_bl]
theorem Chip.has_put (c : Chip) (k i : Int) (b : Blk) : (c.put k b).has i = c.has i := by simp [Chip.has, Chip.put]
theorem Chip.at_put {c : Chip} {k : Int} (hk : c.has k = true) (b : Blk) : (c.put k b).at k = b := by
  obtain ⟨h0, h1⟩ := Chip.has_iff.1 hk
  have : k.toNat < c.bl.length := by omega
  simp [Chip.at, Chip.put, List.getD, this]
theorem Chip.put_put (c : Chip) (k : Int) (b b' : Blk) : (c.put k b).put k b' = c.put k b' := by simp [Chip.put]
theorem Chip.kept_size (c : Chip) {s : ByteArray} (h : s.size = c.whole) : (c.kept s).size = 0 ∨ (c.kept s).size = c.whole := by
  unfold Chip.kept; split
  · left; rfl
  · right; exact h
theorem Chip.tear_size (c : Chip) : c.tear.size = 0 ∨ c.tear.size = c.whole := by
  unfold Chip.tear; split
  · left; rfl
  · rename_i h
    refine c.kept_size ?_
    have hp : 0 < c.torn.size := by omega
    have g1 := Nat.div_add_mod c.whole c.torn.size
    have g2 := Nat.mod_lt c.whole hp
    have g3 : c.whole ≤ (c.whole / c.torn.size + 1) * c.torn.size := by rw [Nat.succ_mul, Nat.mul_comm]; omega
    rw [ByteArray.size_extract, repS_size]; omega

/-- What a program that is asked rightly comes to. -/
theorem Chip.program_go {c : Chip} {block page : Int} {data beside : ByteArray} (hr : c.ready block page = 0) (h1 : (data.size : Int) = c.sz) (h2 : beside.size = 32) (h3 : (c.at block).failed = false) (h4 : page = (c.at block).next) :
    c.program block page data beside =
      (if ((c.put block { c.at block with next := inc (c.at block).next }).burn false).1 = true then
        (9, ((c.put block { c.at block with next := inc (c.at block).next }).burn false).2.put block { c.at block with next := inc (c.at block).next, pages := (c.at block).pages.set page.toNat ((c.put block { c.at block with next := inc (c.at block).next }).burn false).2.tear })
      else if (c.at block).weak = true then
        (10, ((c.put block { c.at block with next := inc (c.at block).next }).burn false).2.put block { c.at block with next := inc (c.at block).next, failed := true, pages := (c.at block).pages.set page.toNat (repS (mkS [0]) ((c.put block { c.at block with next := inc (c.at block).next }).burn false).2.whole) })
      else (0, ((c.put block { c.at block with next := inc (c.at block).next }).burn false).2.put block { c.at block with next := inc (c.at block).next, pages := (c.at block).pages.set page.toNat (((c.put block { c.at block with next := inc (c.at block).next }).burn false).2.kept (data ++ beside)) })) := by
  unfold Chip.program
  rw [if_neg (by omega)]
  simp only [h1, h2, h3, ← h4, ne_eq, not_true_eq_false, decide_false, Bool.or_self, Bool.false_eq_true, if_false]

theorem program_no (L : CL) (c : Chip) (block page : Int) (data beside : ByteArray) (w : World) (h : ChipAt w L c) (hr : c.ready block page ≠ 0) :
    Calls Try.prog 41 #[.pointer (some ⟨L.a, 0, none⟩), .int .i64 block, .int .i64 page, .string data, .string beside] w fun e w' =>
      e = .returned (.int .i64 (c.program block page data beside).1) ∧ ChipAt w' L (c.program block page data beside).2 ∧ Upd L.foot w w' := by
  have HR := hid (ready_any L c block page w h)
  have he : c.program block page data beside = (c.ready block page, c) := by simp [Chip.program, hr]
  rw [he]; clear he
  have hr1 : (c.ready block page == 0) = false := by simp [hr]
  have hr2 : (c.ready block page != 0) = true := by simp [hr]
  generalize c.ready block page = r at HR hr1 hr2 ⊢
  clear hr
  go_enter Try.func41, Try.ntmps41
  go_wp2_with fail
  refine HR.out.mono ?_; rintro e w1 ⟨rfl, rfl⟩
  go_wp2_with fail
  go_ret
  exact ⟨rfl, h, Upd.refl _ _⟩

theorem program_size (L : CL) (c : Chip) (block page : Int) (data beside : ByteArray) (w : World) (h : ChipAt w L c) (hr : c.ready block page = 0) (hs : (data.size : Int) ≠ c.sz ∨ beside.size ≠ 32) (_hd : data.size ≤ maxLen) (_hb : beside.size ≤ maxLen) :
    Calls Try.prog 41 #[.pointer (some ⟨L.a, 0, none⟩), .int .i64 block, .int .i64 page, .string data, .string beside] w fun e w' =>
      e = .returned (.int .i64 (c.program block page data beside).1) ∧ ChipAt w' L (c.program block page data beside).2 ∧ Upd L.foot w w' := by
  have HR := hid (ready_any L c block page w h)
  obtain ⟨hk, h0, h1⟩ := Chip.ready_zero hr
  obtain ⟨c0, c1, c2, c3, c4, c5, c6, c7, c8, c9⟩ := h.cells
  have n1 := h.n; have n2 := h.ok.nb256
  obtain ⟨k1, k2⟩ := Chip.has_iff.1 hk
  have k3 : block < (L.n : Int) := by omega
  have k4 : (L.n : Int) ≤ 256 := by omega
  have he : c.program block page data beside = (2, c) := by
    rcases hs with hs | hs <;> simp [Chip.program, hr, hs]
  rw [he]; clear he
  rw [hr] at HR
  clear hr n1 k2
  unfold maxLen at _hd _hb
  by_cases hs1 : (data.size : Int) = c.sz
  · have hs2 : ((beside.size : Int) == 32) = false := by rcases hs with hs | hs; · exact absurd hs1 hs
                                                         · simp; omega
    have hs3 : ((data.size : Int) == c.sz) = true := by simp [hs1]
    have hs4 : ((beside.size : Int) != 32) = true := by simpa using hs2
    have hs5 : ((data.size : Int) != c.sz) = false := by simp [hs1]
    clear hs hs1
    go_enter Try.func41, Try.ntmps41
    go_wp2_with fail
    refine HR.out.mono ?_; rintro e w1 ⟨rfl, rfl⟩
    go_wp2_with fail
    go_ret
    exact ⟨rfl, h, Upd.refl _ _⟩
  · have hs3 : ((data.size : Int) == c.sz) = false := by simp [hs1]
    have hs5 : ((data.size : Int) != c.sz) = true := by simp [hs1]
    clear hs hs1
    go_enter Try.func41, Try.ntmps41
    go_wp2_with fail
    refine HR.out.mono ?_; rintro e w1 ⟨rfl, rfl⟩
    go_wp2_with fail
    go_ret
    exact ⟨rfl, h, Upd.refl _ _⟩

end Go.Proofs.Ytljphijjcagciaa
