/-
  The walk over a chip's Erase, put together.
-/
import Derived.Test.YtljphijjcagciaaNand7
namespace Go.Proofs.Ytljphijjcagciaa
open Go.RowKit

theorem erase_no (L : CL) (c : Chip) (block : Int) (w : World) (h : ChipAt w L c) (hr : c.ready block 0 ≠ 0) :
    Calls Try.prog 39 #[.pointer (some ⟨L.a, 0, none⟩), .int .i64 block] w fun e w' =>
      e = .returned (.int .i64 (c.erase block).1) ∧ ChipAt w' L (c.erase block).2 ∧ Upd L.foot w w' := by
  have hA := h.alloc (.cells #[.pointer (some ⟨L.a, 0, none⟩)] 22)
  have HR := hid (ready_any L c block 0 _ hA)
  have he : c.erase block = (c.ready block 0, c) := by simp [Chip.erase, hr]
  rw [he]; clear he
  have hr1 : (c.ready block 0 == 0) = false := by simp [hr]
  have hr2 : (c.ready block 0 != 0) = true := by simp [hr]
  generalize c.ready block 0 = r at HR hr1 hr2 ⊢
  have HA := hid hA
  clear hr hA
  go_enter Try.func39, Try.ntmps39
  go_wp2_with fail
  refine HR.out.mono ?_; rintro e w1 ⟨rfl, rfl⟩
  go_wp2_with fail
  go_ret
  exact ⟨rfl, HA.out, (Upd.refl _ _).alloc _⟩

theorem erase_sin (L : CL) (c : Chip) (block : Int) (w : World) (h : ChipAt w L c) (hr : c.ready block 0 = 0) (hf : (c.at block).failed = true) :
    Calls Try.prog 39 #[.pointer (some ⟨L.a, 0, none⟩), .int .i64 block] w fun e w' =>
      e = .returned (.int .i64 (c.erase block).1) ∧ ChipAt w' L (c.erase block).2 ∧ Upd L.foot w w' := by
  have hA := h.alloc (.cells #[.pointer (some ⟨L.a, 0, none⟩)] 22)
  have HR := hid (ready_any L c block 0 _ hA)
  have HS := hid (fun n => sin_any L c n _ hA)
  obtain ⟨hk, h0, h1⟩ := Chip.ready_zero hr
  obtain ⟨c0, c1, c2, c3, c4, c5, c6, c7, c8, c9⟩ := h.cells
  obtain ⟨b0, b1, b2, b3, b4, b5⟩ := h.blk hk
  have n1 := h.n; have n2 := h.ok.nb256
  obtain ⟨k1, k2⟩ := Chip.has_iff.1 hk
  have k3 : block < (L.n : Int) := by omega
  have k4 : (L.n : Int) ≤ 256 := by omega
  have he : c.erase block = (12, c.sin) := by simp [Chip.erase, hr, hf]
  rw [he]; clear he
  rw [hr] at HR
  rw [hf] at b5
  have l1 := h.top.lt; have l2 := h.bls.lt
  clear hr n1 k2 hf hA
  go_enter Try.func39, Try.ntmps39
  go_wp2_with fail
  refine HR.out.mono ?_; rintro e w1 ⟨rfl, rfl⟩
  go_wp2_with fail
  refine (HS.out _).mono ?_; rintro e w1 ⟨rfl, hc, hu⟩
  go_wp2_with fail
  go_ret
  exact ⟨rfl, hc, ((Upd.refl _ _).alloc _).trans' hu⟩

theorem Chip.erase_go {c : Chip} {block : Int} (hr : c.ready block 0 = 0) (h3 : (c.at block).failed = false) :
    c.erase block =
      (if (c.burn true).1 = true then (9, (c.burn true).2.put block ((c.at block).clear (c.burn true).2.tornBit))
      else if (c.at block).weak = true then (10, (c.burn true).2.put block { c.at block with failed := true })
      else (0, (c.burn true).2.put block { (c.at block).clear allPg with erases := inc (c.at block).erases })) := by
  unfold Chip.erase
  rw [if_neg (by omega)]
  simp only [h3, Bool.false_eq_true, if_false]

theorem Blk.clear_rest (b : Blk) (which : Nat → Bool) : (b.clear which).erases = b.erases ∧ (b.clear which).weak = b.weak ∧ (b.clear which).mill = b.mill ∧ (b.clear which).failed = b.failed := by
  have : ∀ k, (b.clearN which k).erases = b.erases ∧ (b.clearN which k).weak = b.weak ∧ (b.clearN which k).mill = b.mill ∧ (b.clearN which k).failed = b.failed := by
    intro k
    induction k with
    | zero => exact ⟨rfl, rfl, rfl, rfl⟩
    | succ k ih => exact ih
  exact this _

theorem erase_good (L : CL) (c : Chip) (block : Int) (w : World) (h : ChipAt w L c) (hfu : c.fuse ≤ 1000000) (hr : c.ready block 0 = 0) (hf : (c.at block).failed = false) :
    Calls Try.prog 39 #[.pointer (some ⟨L.a, 0, none⟩), .int .i64 block] w fun e w' =>
      e = .returned (.int .i64 (c.erase block).1) ∧ ChipAt w' L (c.erase block).2 ∧ Upd L.foot w w' := by
  have hA := h.alloc (.cells #[.pointer (some ⟨L.a, 0, none⟩)] 22)
  have HR := hid (ready_any L c block 0 _ hA)
  obtain ⟨hk, h0, h1⟩ := Chip.ready_zero hr
  obtain ⟨c0, c1, c2, c3, c4, c5, c6, c7, c8, c9⟩ := h.cells
  obtain ⟨b0, b1, b2, b3, b4, b5⟩ := h.blk hk
  have n1 := h.n; have n2 := h.ok.nb256
  obtain ⟨k1, k2⟩ := Chip.has_iff.1 hk
  have k3 : block < (L.n : Int) := by omega
  have k4 : (L.n : Int) ≤ 256 := by omega
  have l1 := h.top.lt; have l2 := h.bls.lt
  have hBf : ¬ L.foot w.heap.size := fun e => Nat.lt_irrefl _ (h.foot_lt e)
  rw [hr] at HR
  rw [hf] at b5
  have he := Chip.erase_go hr hf
  rw [he]; clear he
  have hcat := Chip.burn_at c true block
  have hchas := Chip.burn_has c true block
  rw [hk] at hchas
  have HB := hid (burn_any L c true _ hA hfu)
  simp only [if_true] at HB
  have hBc : (w.alloc (.cells #[.pointer (some ⟨L.a, 0, none⟩)] 22)).cell? ⟨w.heap.size, 0, none⟩ = some (.pointer (some ⟨L.a, 0, none⟩)) := by simp
  have hBl : w.heap.size < (w.alloc (.cells #[.pointer (some ⟨L.a, 0, none⟩)] 22)).heap.size := by simp
  generalize hB : c.at block = b at *
  generalize hq : c.burn true = q at *
  obtain ⟨cut, q⟩ := q
  simp only at hcat hchas HB ⊢
  have HAT := hid hcat; have HBB := hid hB; have HF := hid hf; have HHAS := hid hchas; have HHK := hid hk; have HBF := hid hBf; have HBC := hid hBc; have HBL := hid hBl
  have hu0 : Upd L.foot w (w.alloc (.cells #[.pointer (some ⟨L.a, 0, none⟩)] 22)) := (Upd.refl _ _).alloc _
  have HU0 := hid hu0
  clear hr n1 k2 hf hcat hchas hq hB hk hA hBf hBc hu0 hBl
  cases hcut : cut
  · rw [hcut] at HB
    cases hw : b.weak
    · simp only [Bool.false_eq_true, if_false]
      rw [hw] at b3
      have HW := hid hw; clear hw hcut
      go_enter Try.func39, Try.ntmps39
      go_wp2_with fail
      refine HR.out.mono ?_; rintro e w1 ⟨rfl, rfl⟩
      go_wp2_with fail
      refine HB.out.mono ?_; rintro e w1 ⟨rfl, hc1, hu1⟩
      obtain ⟨d0, d1, d2, d3, d4, d5⟩ := hc1.blk HHAS.out
      rw [HAT.out] at d1 d2 d3 d4 d5
      simp only [HW.out] at d3
      have HCL := hid (clear2_any L q block w1 hc1 HHAS.out)
      rw [HAT.out] at HCL
      clear hc1
      go_wp2_with fail
      refine HCL.out.mono ?_; rintro e w2 ⟨rfl, hc2, hu2⟩
      have hhas2 : (q.put block (b.clear allPg)).has block = true := by rw [Chip.has_put]; exact HHAS.out
      obtain ⟨t0, t1, t2, t3, t4, t5⟩ := hc2.blk hhas2
      have f2 := hc2.frb (block.toNat * 6 + 2)
      have g := hc2.blk_set hhas2 2 (by omega) (.int .i64 (wrap64 (b.erases + 1))) { b.clear allPg with erases := inc b.erases } (by rw [Chip.at_put HHAS.out]) (by rw [Chip.at_put HHAS.out]; rfl)
      rw [Chip.put_put] at g
      rw [Chip.at_put HHAS.out, (Blk.clear_rest b allPg).1] at t2
      have G := hid g; have HU := hid (hu1.trans' hu2)
      clear g hc2 t0 t1 t3 t4 t5 hu1 hu2 hhas2
      go_wp2_with fail
      go_ret
      exact ⟨rfl, G.out, (HU0.out.trans' HU.out).setCell (.inl (.inr (.inl rfl))) _⟩
    · simp only [Bool.false_eq_true, if_false, if_true]
      rw [hw] at b3
      have HW := hid hw; clear hw hcut
      go_enter Try.func39, Try.ntmps39
      go_wp2_with fail
      refine HR.out.mono ?_; rintro e w1 ⟨rfl, rfl⟩
      go_wp2_with fail
      refine HB.out.mono ?_; rintro e w1 ⟨rfl, hc1, hu1⟩
      obtain ⟨d0, d1, d2, d3, d4, d5⟩ := hc1.blk HHAS.out
      rw [HAT.out] at d1 d2 d3 d4 d5
      simp only [HW.out] at d3
      have f5 := hc1.frb (block.toNat * 6 + 5)
      have g := hc1.blk_set HHAS.out 5 (by omega) (.bool true) { b with failed := true } (by rw [HAT.out]) (by rw [HAT.out]; rfl)
      have G := hid g; have HU := hid hu1
      clear g hc1 hu1 d0
      go_wp2_with fail
      go_ret
      exact ⟨rfl, by have := G.out; simpa only [HW.out] using this, (HU0.out.trans' HU.out).setCell (.inl (.inr (.inl rfl))) _⟩
  · rw [hcut] at HB
    simp only [if_true]
    clear hcut
    go_enter Try.func39, Try.ntmps39
    go_wp2_with fail
    refine HR.out.mono ?_; rintro e w1 ⟨rfl, rfl⟩
    go_wp2_with fail
    refine HB.out.mono ?_; rintro e w1 ⟨rfl, hc1, hu1⟩
    have hbc : w1.cell? ⟨w.heap.size, 0, none⟩ = some (.pointer (some ⟨L.a, 0, none⟩)) := (World.cell?_of_block (hu1.block w.heap.size HBL.out HBF.out)).trans HBC.out
    have HCL := hid (clear1_any L q block w.heap.size w1 hc1 HHAS.out hbc HBF.out)
    rw [HAT.out] at HCL
    have HU := hid hu1
    clear hc1 hu1 hbc
    go_wp2_with fail
    refine HCL.out.mono ?_; rintro e w2 ⟨rfl, hc2, hu2⟩
    go_wp2_with fail
    go_ret
    exact ⟨rfl, hc2, (HU0.out.trans' HU.out).trans' hu2⟩

theorem Erase_any (L : CL) (c : Chip) (block : Int) (w : World) (h : ChipAt w L c) (hfu : c.fuse ≤ 1000000) :
    Calls Try.prog 39 #[.pointer (some ⟨L.a, 0, none⟩), .int .i64 block] w fun e w' =>
      e = .returned (.int .i64 (c.erase block).1) ∧ ChipAt w' L (c.erase block).2 ∧ Upd L.foot w w' := by
  by_cases hr : c.ready block 0 = 0
  · cases hf : (c.at block).failed
    · exact erase_good L c block w h hfu hr hf
    · exact erase_sin L c block w h hr hf
  · exact erase_no L c block w h hr

end Go.Proofs.Ytljphijjcagciaa
