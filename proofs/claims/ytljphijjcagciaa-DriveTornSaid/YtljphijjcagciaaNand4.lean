/-
  The walks over a chip's Read and Program.
-/
import Derived.Test.YtljphijjcagciaaNand3
import Derived.Test.YtljphijjcagciaaTail
namespace Go.Proofs.Ytljphijjcagciaa
open Go.RowKit

theorem Chip.ready_zero {c : Chip} {block page : Int} (h : c.ready block page = 0) : c.has block = true ∧ 0 ≤ page ∧ page < c.np := by
  unfold Chip.ready at h
  split at h
  · omega
  · split at h
    · omega
    · rename_i h2; simp at h2; exact ⟨h2.1.1, h2.1.2, h2.2⟩
theorem Chip.page_size {c : Chip} (h : c.Ok) {block page : Int} (hk : c.has block = true) (h0 : 0 ≤ page) (h1 : page < c.np) :
    ((c.at block).pages.getD page.toNat (mkS [])).size = 0 ∨ ((c.at block).pages.getD page.toNat (mkS [])).size = c.whole := by
  have r := h.blk (c.at block) (List.mem_of_getElem? (Chip.at_eq hk))
  have h2 : page.toNat < (c.at block).pages.length := by omega
  have := r.2 _ (List.getElem_mem h2)
  simpa [List.getD, List.getElem?_eq_getElem h2, Chip.whole] using this

theorem Read_any (L : CL) (c : Chip) (block page : Int) (w : World) (h : ChipAt w L c) :
    Calls Try.prog 43 #[.pointer (some ⟨L.a, 0, none⟩), .int .i64 block, .int .i64 page] w fun e w' =>
      e = .returned (.tuple #[.string (c.read block page).1, .string (c.read block page).2.1, .int .i64 (c.read block page).2.2]) ∧ Upd noBlk w w' := by
  have HR := hid (ready_any L c block page w h)
  by_cases hr : c.ready block page = 0
  · obtain ⟨hk, h0, h1⟩ := Chip.ready_zero hr
    obtain ⟨c0, c1, c2, c3, c4, c5, c6, c7, c8, c9⟩ := h.cells
    obtain ⟨b0, b1, b2, b3, b4, b5⟩ := h.blk hk
    have pg := h.page hk h0 h1
    have hs := Chip.page_size h.ok hk h0 h1
    have s1 := h.ok.sz32; have s2 := h.ok.sz1024; have q1 := h.ok.np2; have q2 := h.ok.np64
    have n1 := h.n; have n2 := h.ok.nb256
    obtain ⟨k1, k2⟩ := Chip.has_iff.1 hk
    have k3 : block < (L.n : Int) := by omega
    have k4 : (L.n : Int) ≤ 256 := by omega
    have k5 : page < (c.np.toNat : Int) := by omega
    have k6 : (c.np.toNat : Int) ≤ 64 := by omega
    have HW := hid (whole_any c.nb c.np c.sz (by omega) s2)
    have HP := hid (fun w' => Repeat_any (mkS [255]) (c.sz + 32) w' (by omega) (by simp [mkS_size]; omega))
    have e : (c.sz + 32).toNat = c.whole := by unfold Chip.whole; omega
    rw [e] at HP; clear e
    have he : c.read block page = ((if ((c.at block).pages.getD page.toNat (mkS [])).size = 0 then c.ff else (c.at block).pages.getD page.toNat (mkS [])).extract 0 c.sz.toNat,
        (if ((c.at block).pages.getD page.toNat (mkS [])).size = 0 then c.ff else (c.at block).pages.getD page.toNat (mkS [])).extract c.sz.toNat (if ((c.at block).pages.getD page.toNat (mkS [])).size = 0 then c.ff else (c.at block).pages.getD page.toNat (mkS [])).size, 0) := by
      simp [Chip.read, hr]
    rw [he]; clear he
    generalize (c.at block).pages.getD page.toNat (mkS []) = s at pg hs ⊢
    rw [hr] at HR
    clear hr n1 k2
    by_cases hz : s.size = 0
    · have z1 := toList_nil hz
      have z2 : s.toList.isEmpty = true := by rw [z1]; rfl
      rw [if_pos hz]
      have hf := c.ff_size
      rw [Chip.ff] at hf ⊢
      have hf2 : c.sz ≤ ((repS (mkS [255]) c.whole).size : Int) := by rw [hf]; unfold Chip.whole; omega
      generalize repS (mkS [255]) c.whole = ff at HP hf2 ⊢
      have HS := hid hs
      clear hs hz hf
      go_enter Try.func43, Try.ntmps43
      go_wp2_with fail
      refine HR.out.mono ?_; rintro e w1 ⟨rfl, rfl⟩
      go_wp2_with fail
      refine (HW.out _).mono ?_; rintro e w1 ⟨rfl, hu1⟩
      go_wp2_with fail
      refine (HP.out _).mono ?_; rintro e w2 ⟨rfl, hu2⟩
      have hu := hu1.trans' hu2
      have D2 : ∀ n : UW w2, n.w.cell? ⟨L.a, 2, none⟩ = some (.int .i64 c.sz) := fun n => n.cell (hu.cell0 c2)
      go_wp2_with fail
      refine wp_region_upd (by kernel_rfl) (by kernel_rfl) ?_
      repeat (go_big_quiet_step (fail))
      refine wpQuiet_nil ?_
      rintro _ ⟨nq, rfl⟩
      go_wp2_with fail
      go_ret3
      exact ⟨rfl, hu.trans' nq.upd⟩
    · have hsz : s.size = c.whole := hs.resolve_left hz
      have z2 : s.toList.isEmpty = false := by
        cases hh : s.toList.isEmpty
        · rfl
        · exfalso; apply hz; have := List.isEmpty_iff.1 hh; rw [toList_bs] at this; rw [← bs_length, this]; rfl
      rw [if_neg hz]
      have hf2 : c.sz ≤ (s.size : Int) := by rw [hsz]; unfold Chip.whole; omega
      clear hs hz hsz
      go_enter Try.func43, Try.ntmps43
      go_wp2_with fail
      refine HR.out.mono ?_; rintro e w1 ⟨rfl, rfl⟩
      go_wp2_with fail
      have D2 : ∀ n : UW w, n.w.cell? ⟨L.a, 2, none⟩ = some (.int .i64 c.sz) := fun n => n.cell c2
      refine wp_region_upd (by kernel_rfl) (by kernel_rfl) ?_
      repeat (go_big_quiet_step (fail))
      refine wpQuiet_nil ?_
      rintro _ ⟨nq, rfl⟩
      go_wp2_with fail
      go_ret3
      exact ⟨rfl, nq.upd⟩
  · have he : c.read block page = (mkS [], mkS [], c.ready block page) := by simp [Chip.read, hr]
    rw [he]; clear he
    have hr1 : (c.ready block page == 0) = false := by simp [hr]
    have hr2 : (c.ready block page != 0) = true := by simp [hr]
    generalize c.ready block page = r at HR hr1 hr2 ⊢
    clear hr
    go_enter Try.func43, Try.ntmps43
    go_wp2_with fail
    refine HR.out.mono ?_; rintro e w1 ⟨rfl, rfl⟩
    go_wp2_with fail
    go_ret3
    exact ⟨rfl, Upd.refl _ _⟩

end Go.Proofs.Ytljphijjcagciaa
