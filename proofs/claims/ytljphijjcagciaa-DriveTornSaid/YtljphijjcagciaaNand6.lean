/-
  The walk over a chip's Program, where it is asked rightly, or sinned.
-/
import Derived.Test.YtljphijjcagciaaNand5
namespace Go.Proofs.Ytljphijjcagciaa
open Go.RowKit

theorem program_sin (L : CL) (c : Chip) (block page : Int) (data beside : ByteArray) (w : World) (h : ChipAt w L c) (hr : c.ready block page = 0) (hs1 : (data.size : Int) = c.sz) (hs2 : beside.size = 32)
    (hf : (c.at block).failed = true ∨ page ≠ (c.at block).next) :
    Calls Try.prog 41 #[.pointer (some ⟨L.a, 0, none⟩), .int .i64 block, .int .i64 page, .string data, .string beside] w fun e w' =>
      e = .returned (.int .i64 (c.program block page data beside).1) ∧ ChipAt w' L (c.program block page data beside).2 ∧ Upd L.foot w w' := by
  have HR := hid (ready_any L c block page w h)
  have HS := hid (fun n => sin_any L c n w h)
  obtain ⟨hk, h0, h1⟩ := Chip.ready_zero hr
  obtain ⟨c0, c1, c2, c3, c4, c5, c6, c7, c8, c9⟩ := h.cells
  obtain ⟨b0, b1, b2, b3, b4, b5⟩ := h.blk hk
  have n1 := h.n; have n2 := h.ok.nb256
  obtain ⟨k1, k2⟩ := Chip.has_iff.1 hk
  have k3 : block < (L.n : Int) := by omega
  have k4 : (L.n : Int) ≤ 256 := by omega
  have hs3 : ((data.size : Int) == c.sz) = true := by simp [hs1]
  have hs5 : ((data.size : Int) != c.sz) = false := by simp [hs1]
  have hs4 : ((beside.size : Int) == 32) = true := by simp [hs2]
  have hs6 : ((beside.size : Int) != 32) = false := by simp [hs2]
  rw [hr] at HR
  by_cases hf1 : (c.at block).failed = true
  · have he : c.program block page data beside = (12, c.sin) := by simp [Chip.program, hr, hs1, hs2, hf1]
    rw [he]; clear he
    rw [hf1] at b5
    clear hr n1 k2 hs1 hs2 hf hf1
    go_enter Try.func41, Try.ntmps41
    go_wp2_with fail
    refine HR.out.mono ?_; rintro e w1 ⟨rfl, rfl⟩
    go_wp2_with fail
    refine (HS.out _).mono ?_; rintro e w1 ⟨rfl, hc, hu⟩
    go_wp2_with fail
    go_ret
    exact ⟨rfl, hc, hu⟩
  · have hf2 : (c.at block).failed = false := by simpa using hf1
    have hp : page ≠ (c.at block).next := hf.resolve_left hf1
    have he : c.program block page data beside = (11, c.sin) := by simp [Chip.program, hr, hs1, hs2, hf2, hp]
    rw [he]; clear he
    rw [hf2] at b5
    have hp1 : (page == (c.at block).next) = false := by simp [hp]
    have hp2 : (page != (c.at block).next) = true := by simp [hp]
    clear hr n1 k2 hs1 hs2 hf hf1 hf2 hp
    go_enter Try.func41, Try.ntmps41
    go_wp2_with fail
    refine HR.out.mono ?_; rintro e w1 ⟨rfl, rfl⟩
    go_wp2_with fail
    refine (HS.out _).mono ?_; rintro e w1 ⟨rfl, hc, hu⟩
    go_wp2_with fail
    go_ret
    exact ⟨rfl, hc, hu⟩

theorem program_good (L : CL) (c : Chip) (block page : Int) (data beside : ByteArray) (w : World) (h : ChipAt w L c) (hfu : c.fuse ≤ 1000000) (hr : c.ready block page = 0) (hs1 : (data.size : Int) = c.sz) (hs2 : beside.size = 32)
    (hf : (c.at block).failed = false) (hp : page = (c.at block).next) :
    Calls Try.prog 41 #[.pointer (some ⟨L.a, 0, none⟩), .int .i64 block, .int .i64 page, .string data, .string beside] w fun e w' =>
      e = .returned (.int .i64 (c.program block page data beside).1) ∧ ChipAt w' L (c.program block page data beside).2 ∧ Upd L.foot w w' := by
  have HR := hid (ready_any L c block page w h)
  obtain ⟨hk, h0, h1⟩ := Chip.ready_zero hr
  obtain ⟨c0, c1, c2, c3, c4, c5, c6, c7, c8, c9⟩ := h.cells
  obtain ⟨b0, b1, b2, b3, b4, b5⟩ := h.blk hk
  have fb1 := h.frb (block.toNat * 6 + 1)
  have n1 := h.n; have n2 := h.ok.nb256; have z1 := h.ok.sz32; have z2 := h.ok.sz1024; have z3 := h.ok.np64
  obtain ⟨k1, k2⟩ := Chip.has_iff.1 hk
  have k3 : block < (L.n : Int) := by omega
  have k4 : (L.n : Int) ≤ 256 := by omega
  have k5 : page < (c.np.toNat : Int) := by omega
  have k6 : (c.np.toNat : Int) ≤ 64 := by omega
  have hs3 : ((data.size : Int) == c.sz) = true := by simp [hs1]
  have hs5 : ((data.size : Int) != c.sz) = false := by simp [hs1]
  have hs4 : ((beside.size : Int) == 32) = true := by simp [hs2]
  have hs6 : ((beside.size : Int) != 32) = false := by simp [hs2]
  have hp1 : (page == (c.at block).next) = true := by simp [hp]
  have hp2 : (page != (c.at block).next) = false := by simp [hp]
  have hdb : data.size + beside.size ≤ 2000 := by omega
  -- the next page is counted
  have g1 := h.blk_set hk 1 (by omega) (.int .i64 (wrap64 ((c.at block).next + 1))) { c.at block with next := inc (c.at block).next } rfl rfl
  have he := Chip.program_go hr hs1 hs2 hf hp
  rw [he]; clear he
  rw [hr] at HR
  rw [hf] at b5
  have hcat := Chip.burn_at (c.put block { c.at block with next := inc (c.at block).next }) false block
  rw [Chip.at_put hk] at hcat
  have hchas := Chip.burn_has (c.put block { c.at block with next := inc (c.at block).next }) false block
  rw [Chip.has_put, hk] at hchas
  have hcnp : ((c.put block { c.at block with next := inc (c.at block).next }).burn false).2.np = c.np := Chip.burn_np _ _
  have hcsz : ((c.put block { c.at block with next := inc (c.at block).next }).burn false).2.sz = c.sz := Chip.burn_sz _ _
  have HB := hid (fun w' hw => burn_any L (c.put block { c.at block with next := inc (c.at block).next }) false w' hw hfu)
  simp only [Bool.false_eq_true, if_false] at HB
  have hfail : (c.at block).failed = false := hf
  have hpn : (c.at block).next = page := hp.symm
  generalize hB : c.at block = b at *
  generalize c.put block { b with next := inc b.next } = cc at *
  generalize hq : cc.burn false = q at *
  obtain ⟨cut, q⟩ := q
  simp only at hcat hchas hcnp hcsz HB ⊢
  have HN := hid hcnp; have HAT := hid hcat; have HSZ := hid hcsz; have HQ := hid hq; have HBB := hid hB; have HF := hid hfail; have HDS := hid (And.intro hs1 hs2); have HPN := hid hpn
  have G1 := hid g1; have HHAS := hid hchas; have HHK := hid hk
  clear hr n1 k2 hs1 hs2 hf hcnp hcat hcsz hq hB hfail hpn g1 hp hchas hk
  have hin : L.foot (L.p + block.toNat) := .inr (.inr ⟨by omega, by omega⟩)
  have hu0 : Upd L.foot w (w.setCell ⟨L.bb, block.toNat * 6 + 1, none⟩ (.int .i64 (wrap64 (b.next + 1)))) := (Upd.refl _ _).setCell (.inl (.inr (.inl rfl))) _
  have HU0 := hid hu0; clear hu0
  cases hcut : cut
  · rw [hcut] at HB
    cases hw : b.weak
    · -- it is programmed
      simp only [Bool.false_eq_true, if_false]
      go_enter Try.func41, Try.ntmps41
      go_wp2_with fail
      refine HR.out.mono ?_; rintro e w1 ⟨rfl, rfl⟩
      go_wp2_with fail
      refine (HB.out _ G1.out).mono ?_; rintro e w1 ⟨rfl, hc1, hu1⟩
      obtain ⟨d0, d1, d2, d3, d4, d5⟩ := hc1.blk HHAS.out
      rw [HN.out] at d0; rw [HAT.out] at d1 d2 d3 d4 d5
      simp only [hw] at d3
      have HC1 := hid hc1; have HW := hid hw; clear hc1 hcut hw
      have D0 : ∀ n : UW w1, n.w.cell? ⟨L.bb, block.toNat * 6, none⟩ = some (.slice (some ⟨L.p + block.toNat, 0, none⟩) c.np.toNat c.np.toNat) := fun n => n.cell d0
      have HK := hid (fun n : UW w1 => UW.call (kept_any L q (data ++ beside) n.w (HC1.out.upd n.upd (fun _ hk => hk.elim))))
      go_wp2_with fail
      refine wp_region_upd_tail 10 (by kernel_rfl) (by kernel_rfl) ?_
      simp only [List.take_succ_cons, List.take_zero, List.drop_succ_cons, List.drop_zero]
      repeat (go_big_quiet_step (exact HK.out _))
      refine wpQuiet_nil ?_
      rintro _ ⟨nq, rfl⟩
      have HC2 := HC1.out.upd nq.upd (fun _ hk => hk.elim)
      have pg := HC2.page HHAS.out h0 (by rw [HN.out]; exact h1)
      have fp := HC2.frp HHAS.out page.toNat
      have g2 := HC2.page_set (i := page) HHAS.out (q.kept (data ++ beside)) (q.kept_size (by rw [ByteArray.size_append]; unfold Chip.whole; rw [HSZ.out]; have := HDS.out; omega))
      rw [HAT.out] at g2
      have G2 := hid g2; have HU1 := hid hu1
      clear g2 HC2 hu1
      go_wp2_with fail
      go_ret
      exact ⟨rfl, by have := G2.out; simpa only [HW.out] using this, ((HU0.out.trans' HU1.out).trans nq.upd (fun _ _ hk => hk.elim)).setCell (.inl hin) _⟩
    · -- it is weak
      simp only [Bool.false_eq_true, if_false, if_true]
      go_enter Try.func41, Try.ntmps41
      go_wp2_with fail
      refine HR.out.mono ?_; rintro e w1 ⟨rfl, rfl⟩
      go_wp2_with fail
      refine (HB.out _ G1.out).mono ?_; rintro e w1 ⟨rfl, hc1, hu1⟩
      obtain ⟨d0, d1, d2, d3, d4, d5⟩ := hc1.blk HHAS.out
      have fb5 := hc1.frb (block.toNat * 6 + 5)
      have g3 := hc1.blk_set HHAS.out 5 (by omega) (.bool true) { b with next := inc b.next, failed := true } (by rw [HAT.out]) (by rw [HAT.out]; rfl)
      rw [HN.out] at d0; rw [HAT.out] at d1 d2 d3 d4 d5
      simp only [hw] at d3
      have HC1 := hid g3; have HW := hid hw; clear hc1 hcut hw g3
      go_wp2_with fail
      generalize hw2 : w1.setCell { block := L.bb, off := block.toNat * 6 + 5 } (Value.bool true) = w2 at *
      have HC2 := HC1.out
      obtain ⟨t0, t1, t2, t3, t4, t5, t6, t7, t8, t9⟩ := HC2.cells
      have hhas2 : (q.put block { b with next := inc b.next, failed := true }).has block = true := by rw [Chip.has_put]; exact HHAS.out
      obtain ⟨e0, e1, e2, e3, e4, e5⟩ := HC2.blk hhas2
      have hnp2 : (q.put block { b with next := inc b.next, failed := true }).np = c.np := HN.out
      have hsz2 : (q.put block { b with next := inc b.next, failed := true }).sz = c.sz := HSZ.out
      rw [hnp2] at e0
      have D0 : ∀ n : UW w2, n.w.cell? ⟨L.bb, block.toNat * 6, none⟩ = some (.slice (some ⟨L.p + block.toNat, 0, none⟩) c.np.toNat c.np.toNat) := fun n => n.cell e0
      have T0 : ∀ n : UW w2, n.w.cell? ⟨L.a, 0, none⟩ = some (.int .i64 q.nb) := fun n => n.cell t0
      have T1 : ∀ n : UW w2, n.w.cell? ⟨L.a, 1, none⟩ = some (.int .i64 q.np) := fun n => n.cell t1
      have T2 : ∀ n : UW w2, n.w.cell? ⟨L.a, 2, none⟩ = some (.int .i64 c.sz) := fun n => n.cell (by rw [hsz2] at t2; exact t2)
      have HWh := hid (fun n : UW w2 => UW.call (whole_any q.nb q.np c.sz (by omega) z2 n.w))
      have ew : (c.sz + 32).toNat = q.whole := by unfold Chip.whole; rw [HSZ.out]; omega
      have HRp := hid (fun n : UW w2 => UW.call (Repeat_any (mkS [0]) (c.sz + 32) n.w (by omega) (by simp [mkS_size]; omega)))
      rw [ew] at HRp
      have HNP2 := hid hnp2; have HH2 := hid hhas2
      have HC2' := hid HC2; have HW2 := hid hw2
      clear e0 e1 e2 e3 e4 e5 t0 t1 t2 t3 t4 t5 t6 t7 t8 t9 d0 d1 d2 d3 d4 d5 hnp2 hsz2 hhas2 HC2 hw2 ew
      refine wp_region_upd_tail 11 (by kernel_rfl) (by kernel_rfl) ?_
      simp only [List.take_succ_cons, List.take_zero, List.drop_succ_cons, List.drop_zero]
      repeat (go_big_quiet_step (first | exact HWh.out _ | exact HRp.out _))
      refine wpQuiet_nil ?_
      rintro _ ⟨nq, rfl⟩
      have HC3 := HC2'.out.upd nq.upd (fun _ hk => hk.elim)
      have pg := HC3.page HH2.out h0 (by rw [HNP2.out]; exact h1)
      have fp := HC3.frp HH2.out page.toNat
      have g2 := HC3.page_set (i := page) HH2.out (repS (mkS [0]) q.whole) (.inr (by rw [repS_size]; show _ = q.sz.toNat + 32; simp [mkS_size, Chip.whole]))
      rw [Chip.at_put HHAS.out, Chip.put_put] at g2
      have G2 := hid g2; have HU1 := hid hu1
      clear g2 HC3 hu1
      go_wp2_with fail
      go_ret
      have hu2 : Upd L.foot w w2 := by rw [← HW2.out]; exact (HU0.out.trans' HU1.out).setCell (.inl (.inr (.inl rfl))) _
      exact ⟨rfl, by have := G2.out; simpa only [HW.out] using this, (hu2.trans nq.upd (fun _ _ hk => hk.elim)).setCell (.inl hin) _⟩
  · rw [hcut] at HB
    simp only [if_true]
    go_enter Try.func41, Try.ntmps41
    go_wp2_with fail
    refine HR.out.mono ?_; rintro e w1 ⟨rfl, rfl⟩
    go_wp2_with fail
    refine (HB.out _ G1.out).mono ?_; rintro e w1 ⟨rfl, hc1, hu1⟩
    obtain ⟨d0, d1, d2, d3, d4, d5⟩ := hc1.blk HHAS.out
    rw [HN.out] at d0
    have HC1 := hid hc1; clear hc1 hcut
    have D0 : ∀ n : UW w1, n.w.cell? ⟨L.bb, block.toNat * 6, none⟩ = some (.slice (some ⟨L.p + block.toNat, 0, none⟩) c.np.toNat c.np.toNat) := fun n => n.cell d0
    have HK := hid (fun n : UW w1 => UW.call (tear_any L q n.w (HC1.out.upd n.upd (fun _ hk => hk.elim))))
    go_wp2_with fail
    refine wp_region_upd_tail 7 (by kernel_rfl) (by kernel_rfl) ?_
    simp only [List.take_succ_cons, List.take_zero, List.drop_succ_cons, List.drop_zero]
    repeat (go_big_quiet_step (exact HK.out _))
    refine wpQuiet_nil ?_
    rintro _ ⟨nq, rfl⟩
    have HC2 := HC1.out.upd nq.upd (fun _ hk => hk.elim)
    have pg := HC2.page HHAS.out h0 (by rw [HN.out]; exact h1)
    have fp := HC2.frp HHAS.out page.toNat
    have g2 := HC2.page_set (i := page) HHAS.out q.tear q.tear_size
    rw [HAT.out] at g2
    have G2 := hid g2; have HU1 := hid hu1
    clear g2 HC2 hu1
    go_wp2_with fail
    go_ret
    exact ⟨rfl, G2.out, ((HU0.out.trans' HU1.out).trans nq.upd (fun _ _ hk => hk.elim)).setCell (.inl hin) _⟩

theorem Program_any (L : CL) (c : Chip) (block page : Int) (data beside : ByteArray) (w : World) (h : ChipAt w L c) (hfu : c.fuse ≤ 1000000) (hd : data.size ≤ maxLen) (hb : beside.size ≤ maxLen) :
    Calls Try.prog 41 #[.pointer (some ⟨L.a, 0, none⟩), .int .i64 block, .int .i64 page, .string data, .string beside] w fun e w' =>
      e = .returned (.int .i64 (c.program block page data beside).1) ∧ ChipAt w' L (c.program block page data beside).2 ∧ Upd L.foot w w' := by
  by_cases hr : c.ready block page = 0
  · by_cases hs : (data.size : Int) = c.sz ∧ beside.size = 32
    · by_cases hf : (c.at block).failed = false ∧ page = (c.at block).next
      · exact program_good L c block page data beside w h hfu hr hs.1 hs.2 hf.1 hf.2
      · refine program_sin L c block page data beside w h hr hs.1 hs.2 ?_
        by_cases h1 : (c.at block).failed = true
        · exact .inl h1
        · exact .inr fun e => hf ⟨by simpa using h1, e⟩
    · refine program_size L c block page data beside w h hr ?_ hd hb
      by_cases h1 : (data.size : Int) = c.sz
      · exact .inr fun e => hs ⟨h1, e⟩
      · exact .inl h1
  · exact program_no L c block page data beside w h hr

end Go.Proofs.Ytljphijjcagciaa
