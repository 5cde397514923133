/-
  The walk over a chip's Erase.
  The walk over a chip's Erase, put together.
  The walk over nand.New.
-/
import Derived.Test.YtljphijjcagciaaNandA
import Derived.Test.YtljphijjcagciaaCore
namespace Go.Proofs.Ytljphijjcagciaa
open Go.RowKit

theorem ChipAt.foot_lt {w : World} {L : CL} {c : Chip} (h : ChipAt w L c) {k : Nat} (hk : L.foot k) : k < w.heap.size := by
  rcases hk with rfl | rfl | ⟨h1, h2⟩
  · exact h.top.lt
  · exact h.bls.lt
  · have hn := h.n
    obtain ⟨i, rfl⟩ : ∃ i, k = L.p + i := ⟨k - L.p, by omega⟩
    have hi : i < c.bl.length := by omega
    exact (h.pgs i c.bl[i] (by simp [hi])).lt

theorem Blk.clearN_len (b : Blk) (which : Nat → Bool) : ∀ k, (b.clearN which k).pages.length = b.pages.length
  | 0 => rfl
  | k + 1 => by simp [Blk.clearN, Blk.clearN_len b which k]
theorem Blk.clearN_get (b : Blk) (which : Nat → Bool) : ∀ (k j : Nat), k ≤ j → (b.clearN which k).pages.getD j (mkS []) = b.pages.getD j (mkS [])
  | 0, _, _ => rfl
  | k + 1, j, h => by
    have := Blk.clearN_get b which k j (by omega)
    simp only [Blk.clearN, List.getD, List.getElem?_set] at this ⊢
    rw [if_neg (by omega), this]
theorem Blk.clearN_size (b : Blk) (which : Nat → Bool) {n : Nat} (h : ∀ s ∈ b.pages, s.size = 0 ∨ s.size = n) (k j : Nat) : (b.clearN which k).pages.getD j (mkS []) = mkS [] ∨ ((b.clearN which k).pages.getD j (mkS [])).size = 0 ∨ ((b.clearN which k).pages.getD j (mkS [])).size = n := by
  have key : ∀ k, ∀ s ∈ (b.clearN which k).pages, s.size = 0 ∨ s.size = n := by
    intro k
    induction k with
    | zero => exact h
    | succ k ih =>
      intro s hs
      simp only [Blk.clearN] at hs
      rcases List.mem_or_eq_of_mem_set hs with hs | rfl
      · exact ih s hs
      · split
        · left; rfl
        · by_cases hk : k < (b.clearN which k).pages.length
          · have := ih _ (List.getElem_mem hk)
            simpa [List.getD, hk] using this
          · left; simp [List.getD, List.getElem?_eq_none (Nat.le_of_not_lt hk), mkS_size]
  by_cases hj : j < (b.clearN which k).pages.length
  · right; have := key k _ (List.getElem_mem hj); simpa [List.getD, hj] using this
  · left; simp [List.getD, List.getElem?_eq_none (Nat.le_of_not_lt hj)]

theorem bs_getD {s : ByteArray} {i : Nat} (h : i < s.size) : (bs s).getD i 0 = s[i] := by
  cases s with
  | mk d =>
    have h' : i < d.size := h
    show d.toList.getD i 0 = d[i]
    simp [List.getD, h']

/-- 'func(int) bool { return true }' -/
theorem erase2_any (k : Nat) (w : World) : Calls Try.prog 66 #[.int .i64 (k : Int)] w fun e w' => e = .returned (.bool (allPg k)) ∧ w = w' := by
  go_enter Try.func66, Try.ntmps66
  go_wp2
  go_ret
  exact ⟨rfl, rfl⟩

theorem erase1_any (L : CL) (c : Chip) (B : Nat) (k : Nat) (hk : k < 64) (w : World) (h : ChipAt w L c) (hB : w.cell? ⟨B, 0, none⟩ = some (.pointer (some ⟨L.a, 0, none⟩))) :
    Calls Try.prog 65 #[.int .i64 k, .pointer (some ⟨B, 0, none⟩)] w fun e w' => e = .returned (.bool (c.tornBit k)) ∧ Upd noBlk w w' := by
  obtain ⟨c0, c1, c2, c3, c4, c5, c6, c7, c8, c9⟩ := h.cells
  have D5 : ∀ n : UW w, n.w.cell? ⟨L.a, 5, none⟩ = some (.string c.torn) := fun n => n.cell c5
  have DB : ∀ n : UW w, n.w.cell? ⟨B, 0, none⟩ = some (.pointer (some ⟨L.a, 0, none⟩)) := fun n => n.cell hB
  have ht := h.ok.torn
  by_cases hz : c.torn.size = 0
  · have z1 := toList_nil hz
    have z2 : c.torn.toList.isEmpty = true := by rw [z1]; rfl
    have e : c.tornBit k = true := by simp [Chip.tornBit, hz]
    rw [e]; clear e hz
    go_enter Try.func65, Try.ntmps65
    go_wp2_with fail
    refine wp_region_upd (by kernel_rfl) (by kernel_rfl) ?_
    repeat (go_big_quiet_step (fail))
    refine wpQuiet_nil ?_
    rintro _ ⟨nq, rfl⟩
    go_wp2_with fail
    go_ret
    exact ⟨rfl, nq.upd⟩
  · have z2 : c.torn.toList.isEmpty = false := by
      cases hh : c.torn.toList.isEmpty
      · rfl
      · exfalso; apply hz; have := List.isEmpty_iff.1 hh; rw [toList_bs] at this; rw [← bs_length, this]; rfl
    have hpos : 0 < c.torn.size := by omega
    have m0 : (k : Int) % (c.torn.size : Int) = ((k % c.torn.size : Nat) : Int) := rfl
    have m1 : k % c.torn.size < c.torn.size := Nat.mod_lt _ hpos
    have m2 : 0 ≤ (k : Int) % (c.torn.size : Int) := by rw [m0]; omega
    have m3 : (k : Int) % (c.torn.size : Int) < (c.torn.size : Int) := by rw [m0]; omega
    have HZ := hid hz; have M0 := hid m0; clear hz m0
    go_enter Try.func65, Try.ntmps65
    go_wp2_with fail
    refine wp_region_upd (by kernel_rfl) (by kernel_rfl) ?_
    repeat (go_big_quiet_step (fail))
    refine wpQuiet_nil ?_
    rintro _ ⟨nq, rfl⟩
    go_wp2_with fail
    go_ret
    refine ⟨?_, nq.upd⟩
    have e : ((bs c.torn).getD (k % c.torn.size) 0) = c.torn[k % c.torn.size] := bs_getD m1
    have e2 : c.tornBit k = (bits .and .u8 (c.torn[k % c.torn.size].toNat : Int) 1 == 1) := by
      unfold Chip.tornBit
      rw [e, show (c.torn.size == 0) = false by simp [HZ.out], Bool.false_or]
    rw [e2]; rfl


theorem clear2_any (L : CL) (c : Chip) (block : Int) (w : World) (h : ChipAt w L c) (hk : c.has block = true) :
    Calls Try.prog 64 #[.pointer (some ⟨L.bb, block.toNat * 6, none⟩), .func (.func 66) #[] #[]] w fun e w' => e = .returned (.tuple #[]) ∧ ChipAt w' L (c.put block ((c.at block).clear allPg)) ∧ Upd L.foot w w' := by
  obtain ⟨b0, b1, b2, b3, b4, b5⟩ := h.blk hk
  have fb1 := h.frb (block.toNat * 6 + 1)
  have hlen : (c.at block).pages.length = c.np.toNat := (h.ok.blk _ (List.mem_of_getElem? (Chip.at_eq hk))).1
  have g0 := h.blk_set hk 1 (by omega) (.int .i64 0) ((c.at block).clearN allPg 0) rfl rfl
  have np64 := h.ok.np64; have np2 := h.ok.np2
  have hn := h.n
  obtain ⟨k1, k2⟩ := Chip.has_iff.1 hk
  have HFT : Hid (L.foot (L.p + block.toNat)) := hid (.inr (.inr ⟨by omega, by omega⟩))
  obtain ⟨m, hm⟩ : ∃ m : Nat, m = c.np.toNat := ⟨_, rfl⟩
  have hmI : c.np = (m : Int) := by omega
  have nn : m ≤ 64 := by omega
  rw [← hm] at b0 hlen
  have hu0 : Upd L.foot w (w.setCell ⟨L.bb, block.toNat * 6 + 1, none⟩ (.int .i64 0)) := (Upd.refl _ _).setCell (.inl (.inr (.inl rfl))) _
  have HU0 := hid hu0
  have hne1 : L.p + block.toNat ≠ L.bb := by have := h.neb; omega
  have hne2 : L.bb ≠ L.p + block.toNat := fun e => hne1 e.symm
  have G0 := hid g0; have HLEN := hid hlen; have HHK := hid hk; have HMI := hid hmI
  clear g0 hlen hk hn k2 hm hmI hu0 np64 np2 h
  go_enter Try.func64, Try.ntmps64
  go_wp2
  go_loopw [13] (fun i wr => ∃ k : Nat, k ≤ m ∧ i = .int .i64 k ∧ ChipAt wr L (c.put block ((c.at block).clearN allPg k)) ∧ Upd L.foot w wr) (fun i _ => m - (intOf i).toNat)
  case atStart => exact ⟨0, Nat.zero_le _, rfl, G0.out, HU0.out⟩
  case round =>
    obtain ⟨k, hkm, rfl, hc, hu⟩ := hrel
    by_cases hlt : k < m
    · have hhas : (c.put block ((c.at block).clearN allPg k)).has block = true := by rw [Chip.has_put]; exact HHK.out
      have hat := Chip.at_put HHK.out ((c.at block).clearN allPg k)
      obtain ⟨d0, d1, d2, d3, d4, d5⟩ := hc.blk hhas
      have e0 : (c.put block ((c.at block).clearN allPg k)).np.toNat = m := by show c.np.toNat = m; rw [HMI.out]; rfl
      rw [e0] at d0
      have pg := hc.page (i := (k : Int)) hhas (by omega) (by show (k : Int) < c.np; rw [HMI.out]; omega)
      rw [hat, Int.toNat_natCast] at pg
      have hlk := Blk.clearN_len (c.at block) allPg k
      rw [HLEN.out] at hlk
      have hsame : ((c.at block).clearN allPg k).pages.set k (((c.at block).clearN allPg k).pages.getD k (mkS [])) = ((c.at block).clearN allPg k).pages := by
        refine List.ext_getElem? fun j => ?_
        rw [List.getElem?_set]
        split
        · rename_i ej; subst ej
          simp [List.getD, show k < ((c.at block).clearN allPg k).pages.length by omega]
        · rfl
      have HCALL := hid (fun w => erase2_any k w)
      cases hw : (allPg k : Bool)
      · have hs1 : (c.at block).clearN allPg (k + 1) = { (c.at block).clearN allPg k with next := if (((c.at block).clearN allPg k).pages.getD k (mkS [])).size = 0 then ((c.at block).clearN allPg k).next else (k : Int) + 1 } := by
          simp only [Blk.clearN, hw, Bool.false_eq_true, if_false, hsame]
        by_cases hz : (((c.at block).clearN allPg k).pages.getD k (mkS [])).size = 0
        · rw [if_pos hz] at hs1
          have z1 := toList_nil hz
          have z2 : (((c.at block).clearN allPg k).pages.getD k (mkS [])).toList.isEmpty = true := by rw [z1]; rfl
          generalize ((c.at block).clearN allPg k).pages.getD k (mkS []) = pp at pg z1 z2 hz
          have HS1 := hid hs1; have HC := hid hc; have HHAS := hid hhas; have HAT := hid hat; have HWK := hid hw
          clear hs1 hc hhas hat hsame hlk e0 hz hw z1
          go_wp2_with fail
          refine (HCALL.out _).mono ?_; rintro e w1 ⟨rfl, hw1⟩; have hu1 : Upd noBlk wr w1 := by rw [← hw1]; exact Upd.refl _ _
          rw [HWK.out]
          have pg' := hu1.cell0 pg; have d0' := hu1.cell0 d0
          go_wp2_with fail
          exact ⟨⟨k + 1, by omega, by go_num, by rw [HS1.out]; exact HC.out.upd hu1 (fun _ hk => hk.elim), hu.trans hu1 (fun _ _ hk => hk.elim)⟩, by simp [intOf]; omega⟩
        · rw [if_neg hz] at hs1
          have z2 : (((c.at block).clearN allPg k).pages.getD k (mkS [])).toList.isEmpty = false := by
            cases hh : (((c.at block).clearN allPg k).pages.getD k (mkS [])).toList.isEmpty
            · rfl
            · exfalso; apply hz; have := List.isEmpty_iff.1 hh; rw [toList_bs] at this; rw [← bs_length, this]; rfl
          generalize ((c.at block).clearN allPg k).pages.getD k (mkS []) = pp at pg z2 hz
          have HS1 := hid hs1; have HC := hid hc; have HHAS := hid hhas; have HAT := hid hat; have HWK := hid hw
          clear hs1 hc hhas hat hsame hlk e0 hz hw
          go_wp2_with fail
          refine (HCALL.out _).mono ?_; rintro e w1 ⟨rfl, hw1⟩; have hu1 : Upd noBlk wr w1 := by rw [← hw1]; exact Upd.refl _ _
          rw [HWK.out]
          have pg' := hu1.cell0 pg; have d0' := hu1.cell0 d0
          have hc' := HC.out.upd hu1 (fun _ hk => hk.elim)
          obtain ⟨q0, q1, q2, q3, q4, q5⟩ := hc'.blk HHAS.out
          have fbn' := hc'.frb (block.toNat * 6 + 1)
          have gb := hc'.blk_set HHAS.out 1 (by omega) (.int .i64 ((k : Int) + 1)) { (c.at block).clearN allPg k with next := (k : Int) + 1 } (by rw [HAT.out]) (by rw [HAT.out]; rfl)
          rw [Chip.put_put] at gb
          have GB := hid gb
          clear gb hc' q0
          go_wp2_with fail
          exact ⟨⟨k + 1, by omega, by go_num, by rw [HS1.out]; exact GB.out, (hu.trans hu1 (fun _ _ hk => hk.elim)).setCell (.inl (.inr (.inl rfl))) _⟩, by simp [intOf]; omega⟩
      · have hs1 : (c.at block).clearN allPg (k + 1) = { (c.at block).clearN allPg k with pages := ((c.at block).clearN allPg k).pages.set k (mkS []) } := by
          simp only [Blk.clearN, hw, if_true, show (mkS []).size = 0 from rfl]
        have HS1 := hid hs1; have HC := hid hc; have HHAS := hid hhas; have HAT := hid hat; have PG := hid pg; have HWK := hid hw
        clear hs1 hc hhas hat hsame hlk e0 hw pg
        go_wp2_with fail
        refine (HCALL.out _).mono ?_; rintro e w1 ⟨rfl, hw1⟩; have hu1 : Upd noBlk wr w1 := by rw [← hw1]; exact Upd.refl _ _
        rw [HWK.out]
        have d0' := hu1.cell0 d0
        have pg' := hu1.cell0 PG.out
        have hc' := HC.out.upd hu1 (fun _ hk => hk.elim)
        have fp' := hc'.frp HHAS.out k
        have gp := hc'.page_set (i := (k : Int)) HHAS.out (mkS []) (.inl rfl)
        rw [Chip.put_put, HAT.out, Int.toNat_natCast] at gp
        have GP := hid gp
        clear gp hc'
        go_wp2_with fail
        exact ⟨⟨k + 1, by omega, by go_num, by rw [HS1.out]; exact GP.out, (hu.trans hu1 (fun _ _ hk => hk.elim)).setCell (.inl HFT.out) _⟩, by simp [intOf]; omega⟩
    · go_wp2
      go_end0
      have e : k = m := by omega
      subst e
      have e2 : (c.at block).clear allPg = (c.at block).clearN allPg k := by unfold Blk.clear; rw [HLEN.out]
      rw [e2]
      exact ⟨rfl, hc, hu⟩

theorem clear1_any (L : CL) (c : Chip) (block : Int) (B : Nat) (w : World) (h : ChipAt w L c) (hk : c.has block = true) (hB : w.cell? ⟨B, 0, none⟩ = some (.pointer (some ⟨L.a, 0, none⟩))) (hBf : ¬ L.foot B) :
    Calls Try.prog 64 #[.pointer (some ⟨L.bb, block.toNat * 6, none⟩), .func (.func 65) #[] #[.pointer (some ⟨B, 0, none⟩)]] w fun e w' => e = .returned (.tuple #[]) ∧ ChipAt w' L (c.put block ((c.at block).clear c.tornBit)) ∧ Upd L.foot w w' := by
  obtain ⟨b0, b1, b2, b3, b4, b5⟩ := h.blk hk
  have fb1 := h.frb (block.toNat * 6 + 1)
  have hlen : (c.at block).pages.length = c.np.toNat := (h.ok.blk _ (List.mem_of_getElem? (Chip.at_eq hk))).1
  have g0 := h.blk_set hk 1 (by omega) (.int .i64 0) ((c.at block).clearN c.tornBit 0) rfl rfl
  have np64 := h.ok.np64; have np2 := h.ok.np2
  have hn := h.n
  obtain ⟨k1, k2⟩ := Chip.has_iff.1 hk
  have HFT : Hid (L.foot (L.p + block.toNat)) := hid (.inr (.inr ⟨by omega, by omega⟩))
  obtain ⟨m, hm⟩ : ∃ m : Nat, m = c.np.toNat := ⟨_, rfl⟩
  have hmI : c.np = (m : Int) := by omega
  have nn : m ≤ 64 := by omega
  rw [← hm] at b0 hlen
  have hu0 : Upd L.foot w (w.setCell ⟨L.bb, block.toNat * 6 + 1, none⟩ (.int .i64 0)) := (Upd.refl _ _).setCell (.inl (.inr (.inl rfl))) _
  have HU0 := hid hu0
  have hne1 : L.p + block.toNat ≠ L.bb := by have := h.neb; omega
  have hne2 : L.bb ≠ L.p + block.toNat := fun e => hne1 e.symm
  have G0 := hid g0; have HLEN := hid hlen; have HHK := hid hk; have HMI := hid hmI
  clear g0 hlen hk hn k2 hm hmI hu0 np64 np2 h
  go_enter Try.func64, Try.ntmps64
  go_wp2
  go_loopw [13] (fun i wr => ∃ k : Nat, k ≤ m ∧ i = .int .i64 k ∧ ChipAt wr L (c.put block ((c.at block).clearN c.tornBit k)) ∧ Upd L.foot w wr) (fun i _ => m - (intOf i).toNat)
  case atStart => exact ⟨0, Nat.zero_le _, rfl, G0.out, HU0.out⟩
  case round =>
    obtain ⟨k, hkm, rfl, hc, hu⟩ := hrel
    by_cases hlt : k < m
    · have hhas : (c.put block ((c.at block).clearN c.tornBit k)).has block = true := by rw [Chip.has_put]; exact HHK.out
      have hat := Chip.at_put HHK.out ((c.at block).clearN c.tornBit k)
      obtain ⟨d0, d1, d2, d3, d4, d5⟩ := hc.blk hhas
      have e0 : (c.put block ((c.at block).clearN c.tornBit k)).np.toNat = m := by show c.np.toNat = m; rw [HMI.out]; rfl
      rw [e0] at d0
      have pg := hc.page (i := (k : Int)) hhas (by omega) (by show (k : Int) < c.np; rw [HMI.out]; omega)
      rw [hat, Int.toNat_natCast] at pg
      have hlk := Blk.clearN_len (c.at block) c.tornBit k
      rw [HLEN.out] at hlk
      have hsame : ((c.at block).clearN c.tornBit k).pages.set k (((c.at block).clearN c.tornBit k).pages.getD k (mkS [])) = ((c.at block).clearN c.tornBit k).pages := by
        refine List.ext_getElem? fun j => ?_
        rw [List.getElem?_set]
        split
        · rename_i ej; subst ej
          simp [List.getD, show k < ((c.at block).clearN c.tornBit k).pages.length by omega]
        · rfl
      have HCALL := hid (erase1_any L _ B k (by omega) wr hc ((World.cell?_of_block (hu.block B (World.block_lt_of_cell? w _ hB) hBf)).trans hB))
      cases hw : (c.tornBit k : Bool)
      · have hs1 : (c.at block).clearN c.tornBit (k + 1) = { (c.at block).clearN c.tornBit k with next := if (((c.at block).clearN c.tornBit k).pages.getD k (mkS [])).size = 0 then ((c.at block).clearN c.tornBit k).next else (k : Int) + 1 } := by
          simp only [Blk.clearN, hw, Bool.false_eq_true, if_false, hsame]
        by_cases hz : (((c.at block).clearN c.tornBit k).pages.getD k (mkS [])).size = 0
        · rw [if_pos hz] at hs1
          have z1 := toList_nil hz
          have z2 : (((c.at block).clearN c.tornBit k).pages.getD k (mkS [])).toList.isEmpty = true := by rw [z1]; rfl
          generalize ((c.at block).clearN c.tornBit k).pages.getD k (mkS []) = pp at pg z1 z2 hz
          have HS1 := hid hs1; have HC := hid hc; have HHAS := hid hhas; have HAT := hid hat; have HWK := hid hw
          clear hs1 hc hhas hat hsame hlk e0 hz hw z1
          go_wp2_with fail
          refine HCALL.out.mono ?_; rintro e w1 ⟨rfl, hu1⟩; rw [show (c.put block ((c.at block).clearN c.tornBit k)).tornBit k = c.tornBit k from rfl]
          rw [HWK.out]
          have pg' := hu1.cell0 pg; have d0' := hu1.cell0 d0
          go_wp2_with fail
          exact ⟨⟨k + 1, by omega, by go_num, by rw [HS1.out]; exact HC.out.upd hu1 (fun _ hk => hk.elim), hu.trans hu1 (fun _ _ hk => hk.elim)⟩, by simp [intOf]; omega⟩
        · rw [if_neg hz] at hs1
          have z2 : (((c.at block).clearN c.tornBit k).pages.getD k (mkS [])).toList.isEmpty = false := by
            cases hh : (((c.at block).clearN c.tornBit k).pages.getD k (mkS [])).toList.isEmpty
            · rfl
            · exfalso; apply hz; have := List.isEmpty_iff.1 hh; rw [toList_bs] at this; rw [← bs_length, this]; rfl
          generalize ((c.at block).clearN c.tornBit k).pages.getD k (mkS []) = pp at pg z2 hz
          have HS1 := hid hs1; have HC := hid hc; have HHAS := hid hhas; have HAT := hid hat; have HWK := hid hw
          clear hs1 hc hhas hat hsame hlk e0 hz hw
          go_wp2_with fail
          refine HCALL.out.mono ?_; rintro e w1 ⟨rfl, hu1⟩; rw [show (c.put block ((c.at block).clearN c.tornBit k)).tornBit k = c.tornBit k from rfl]
          rw [HWK.out]
          have pg' := hu1.cell0 pg; have d0' := hu1.cell0 d0
          have hc' := HC.out.upd hu1 (fun _ hk => hk.elim)
          obtain ⟨q0, q1, q2, q3, q4, q5⟩ := hc'.blk HHAS.out
          have fbn' := hc'.frb (block.toNat * 6 + 1)
          have gb := hc'.blk_set HHAS.out 1 (by omega) (.int .i64 ((k : Int) + 1)) { (c.at block).clearN c.tornBit k with next := (k : Int) + 1 } (by rw [HAT.out]) (by rw [HAT.out]; rfl)
          rw [Chip.put_put] at gb
          have GB := hid gb
          clear gb hc' q0
          go_wp2_with fail
          exact ⟨⟨k + 1, by omega, by go_num, by rw [HS1.out]; exact GB.out, (hu.trans hu1 (fun _ _ hk => hk.elim)).setCell (.inl (.inr (.inl rfl))) _⟩, by simp [intOf]; omega⟩
      · have hs1 : (c.at block).clearN c.tornBit (k + 1) = { (c.at block).clearN c.tornBit k with pages := ((c.at block).clearN c.tornBit k).pages.set k (mkS []) } := by
          simp only [Blk.clearN, hw, if_true, show (mkS []).size = 0 from rfl]
        have HS1 := hid hs1; have HC := hid hc; have HHAS := hid hhas; have HAT := hid hat; have PG := hid pg; have HWK := hid hw
        clear hs1 hc hhas hat hsame hlk e0 hw pg
        go_wp2_with fail
        refine HCALL.out.mono ?_; rintro e w1 ⟨rfl, hu1⟩; rw [show (c.put block ((c.at block).clearN c.tornBit k)).tornBit k = c.tornBit k from rfl]
        rw [HWK.out]
        have d0' := hu1.cell0 d0
        have pg' := hu1.cell0 PG.out
        have hc' := HC.out.upd hu1 (fun _ hk => hk.elim)
        have fp' := hc'.frp HHAS.out k
        have gp := hc'.page_set (i := (k : Int)) HHAS.out (mkS []) (.inl rfl)
        rw [Chip.put_put, HAT.out, Int.toNat_natCast] at gp
        have GP := hid gp
        clear gp hc'
        go_wp2_with fail
        exact ⟨⟨k + 1, by omega, by go_num, by rw [HS1.out]; exact GP.out, (hu.trans hu1 (fun _ _ hk => hk.elim)).setCell (.inl HFT.out) _⟩, by simp [intOf]; omega⟩
    · go_wp2
      go_end0
      have e : k = m := by omega
      subst e
      have e2 : (c.at block).clear c.tornBit = (c.at block).clearN c.tornBit k := by unfold Blk.clear; rw [HLEN.out]
      rw [e2]
      exact ⟨rfl, hc, hu⟩

end Go.Proofs.Ytljphijjcagciaa

namespace Go.Proofs.Ytljphijjcagciaa
open Go.RowKit

theorem erase_no (L : CL) (c : Chip) (block : Int) (w : World) (h : ChipAt w L c) (hr : c.ready block 0 ≠ 0) :
    Calls Try.prog 39 #[.pointer (some ⟨L.a, 0, none⟩), .int .i64 block] w fun e w' =>
      e = .returned (.int .i64 (c.erase block).1) ∧ ChipAt w' L (c.erase block).2 ∧ Upd L.foot w w' := by
  have hA := h.alloc (.cells #[.pointer (some ⟨L.a, 0, none⟩)] 22)
  have HR := hid (ready_any L c block 0 _ hA)
  have he : c.erase block = (c.ready block 0, c) := by simp [Chip.erase, hr]
  rw [he]; clear he
  have hr1 : (c.ready block 0 == 0) = false := by simp [hr]
  have hr2 : (c.ready block 0 != 0) = true := by simp [hr]
  generalize c.ready block 0 = r at HR hr1 hr2 ⊢
  have HA := hid hA
  clear hr hA
  go_enter Try.func39, Try.ntmps39
  go_wp2_with fail
  refine HR.out.mono ?_; rintro e w1 ⟨rfl, rfl⟩
  go_wp2_with fail
  go_ret
  exact ⟨rfl, HA.out, (Upd.refl _ _).alloc _⟩

theorem erase_sin (L : CL) (c : Chip) (block : Int) (w : World) (h : ChipAt w L c) (hr : c.ready block 0 = 0) (hf : (c.at block).failed = true) :
    Calls Try.prog 39 #[.pointer (some ⟨L.a, 0, none⟩), .int .i64 block] w fun e w' =>
      e = .returned (.int .i64 (c.erase block).1) ∧ ChipAt w' L (c.erase block).2 ∧ Upd L.foot w w' := by
  have hA := h.alloc (.cells #[.pointer (some ⟨L.a, 0, none⟩)] 22)
  have HR := hid (ready_any L c block 0 _ hA)
  have HS := hid (fun n => sin_any L c n _ hA)
  obtain ⟨hk, h0, h1⟩ := Chip.ready_zero hr
  obtain ⟨c0, c1, c2, c3, c4, c5, c6, c7, c8, c9⟩ := h.cells
  obtain ⟨b0, b1, b2, b3, b4, b5⟩ := h.blk hk
  have n1 := h.n; have n2 := h.ok.nb256
  obtain ⟨k1, k2⟩ := Chip.has_iff.1 hk
  have k3 : block < (L.n : Int) := by omega
  have k4 : (L.n : Int) ≤ 256 := by omega
  have he : c.erase block = (12, c.sin) := by simp [Chip.erase, hr, hf]
  rw [he]; clear he
  rw [hr] at HR
  rw [hf] at b5
  have l1 := h.top.lt; have l2 := h.bls.lt
  clear hr n1 k2 hf hA
  go_enter Try.func39, Try.ntmps39
  go_wp2_with fail
  refine HR.out.mono ?_; rintro e w1 ⟨rfl, rfl⟩
  go_wp2_with fail
  refine (HS.out _).mono ?_; rintro e w1 ⟨rfl, hc, hu⟩
  go_wp2_with fail
  go_ret
  exact ⟨rfl, hc, ((Upd.refl _ _).alloc _).trans' hu⟩

theorem Chip.erase_go {c : Chip} {block : Int} (hr : c.ready block 0 = 0) (h3 : (c.at block).failed = false) :
    c.erase block =
      (if (c.burn true).1 = true then (9, (c.burn true).2.put block ((c.at block).clear (c.burn true).2.tornBit))
      else if (c.at block).weak = true then (10, (c.burn true).2.put block { c.at block with failed := true })
      else (0, (c.burn true).2.put block { (c.at block).clear allPg with erases := inc (c.at block).erases })) := by
  unfold Chip.erase
  rw [if_neg (by omega)]
  simp only [h3, Bool.false_eq_true, if_false]

theorem Blk.clear_rest (b : Blk) (which : Nat → Bool) : (b.clear which).erases = b.erases ∧ (b.clear which).weak = b.weak ∧ (b.clear which).mill = b.mill ∧ (b.clear which).failed = b.failed := by
  have : ∀ k, (b.clearN which k).erases = b.erases ∧ (b.clearN which k).weak = b.weak ∧ (b.clearN which k).mill = b.mill ∧ (b.clearN which k).failed = b.failed := by
    intro k
    induction k with
    | zero => exact ⟨rfl, rfl, rfl, rfl⟩
    | succ k ih => exact ih
  exact this _

theorem erase_good (L : CL) (c : Chip) (block : Int) (w : World) (h : ChipAt w L c) (hfu : c.fuse ≤ 1000000) (hr : c.ready block 0 = 0) (hf : (c.at block).failed = false) :
    Calls Try.prog 39 #[.pointer (some ⟨L.a, 0, none⟩), .int .i64 block] w fun e w' =>
      e = .returned (.int .i64 (c.erase block).1) ∧ ChipAt w' L (c.erase block).2 ∧ Upd L.foot w w' := by
  have hA := h.alloc (.cells #[.pointer (some ⟨L.a, 0, none⟩)] 22)
  have HR := hid (ready_any L c block 0 _ hA)
  obtain ⟨hk, h0, h1⟩ := Chip.ready_zero hr
  obtain ⟨c0, c1, c2, c3, c4, c5, c6, c7, c8, c9⟩ := h.cells
  obtain ⟨b0, b1, b2, b3, b4, b5⟩ := h.blk hk
  have n1 := h.n; have n2 := h.ok.nb256
  obtain ⟨k1, k2⟩ := Chip.has_iff.1 hk
  have k3 : block < (L.n : Int) := by omega
  have k4 : (L.n : Int) ≤ 256 := by omega
  have l1 := h.top.lt; have l2 := h.bls.lt
  have hBf : ¬ L.foot w.heap.size := fun e => Nat.lt_irrefl _ (h.foot_lt e)
  rw [hr] at HR
  rw [hf] at b5
  have he := Chip.erase_go hr hf
  rw [he]; clear he
  have hcat := Chip.burn_at c true block
  have hchas := Chip.burn_has c true block
  rw [hk] at hchas
  have HB := hid (burn_any L c true _ hA hfu)
  simp only [if_true] at HB
  have hBc : (w.alloc (.cells #[.pointer (some ⟨L.a, 0, none⟩)] 22)).cell? ⟨w.heap.size, 0, none⟩ = some (.pointer (some ⟨L.a, 0, none⟩)) := by simp
  have hBl : w.heap.size < (w.alloc (.cells #[.pointer (some ⟨L.a, 0, none⟩)] 22)).heap.size := by simp
  generalize hB : c.at block = b at *
  generalize hq : c.burn true = q at *
  obtain ⟨cut, q⟩ := q
  simp only at hcat hchas HB ⊢
  have HAT := hid hcat; have HBB := hid hB; have HF := hid hf; have HHAS := hid hchas; have HHK := hid hk; have HBF := hid hBf; have HBC := hid hBc; have HBL := hid hBl
  have hu0 : Upd L.foot w (w.alloc (.cells #[.pointer (some ⟨L.a, 0, none⟩)] 22)) := (Upd.refl _ _).alloc _
  have HU0 := hid hu0
  clear hr n1 k2 hf hcat hchas hq hB hk hA hBf hBc hu0 hBl
  cases hcut : cut
  · rw [hcut] at HB
    cases hw : b.weak
    · simp only [Bool.false_eq_true, if_false]
      rw [hw] at b3
      have HW := hid hw; clear hw hcut
      go_enter Try.func39, Try.ntmps39
      go_wp2_with fail
      refine HR.out.mono ?_; rintro e w1 ⟨rfl, rfl⟩
      go_wp2_with fail
      refine HB.out.mono ?_; rintro e w1 ⟨rfl, hc1, hu1⟩
      obtain ⟨d0, d1, d2, d3, d4, d5⟩ := hc1.blk HHAS.out
      rw [HAT.out] at d1 d2 d3 d4 d5
      simp only [HW.out] at d3
      have HCL := hid (clear2_any L q block w1 hc1 HHAS.out)
      rw [HAT.out] at HCL
      clear hc1
      go_wp2_with fail
      refine HCL.out.mono ?_; rintro e w2 ⟨rfl, hc2, hu2⟩
      have hhas2 : (q.put block (b.clear allPg)).has block = true := by rw [Chip.has_put]; exact HHAS.out
      obtain ⟨t0, t1, t2, t3, t4, t5⟩ := hc2.blk hhas2
      have f2 := hc2.frb (block.toNat * 6 + 2)
      have g := hc2.blk_set hhas2 2 (by omega) (.int .i64 (wrap64 (b.erases + 1))) { b.clear allPg with erases := inc b.erases } (by rw [Chip.at_put HHAS.out]) (by rw [Chip.at_put HHAS.out]; rfl)
      rw [Chip.put_put] at g
      rw [Chip.at_put HHAS.out, (Blk.clear_rest b allPg).1] at t2
      have G := hid g; have HU := hid (hu1.trans' hu2)
      clear g hc2 t0 t1 t3 t4 t5 hu1 hu2 hhas2
      go_wp2_with fail
      go_ret
      exact ⟨rfl, G.out, (HU0.out.trans' HU.out).setCell (.inl (.inr (.inl rfl))) _⟩
    · simp only [Bool.false_eq_true, if_false, if_true]
      rw [hw] at b3
      have HW := hid hw; clear hw hcut
      go_enter Try.func39, Try.ntmps39
      go_wp2_with fail
      refine HR.out.mono ?_; rintro e w1 ⟨rfl, rfl⟩
      go_wp2_with fail
      refine HB.out.mono ?_; rintro e w1 ⟨rfl, hc1, hu1⟩
      obtain ⟨d0, d1, d2, d3, d4, d5⟩ := hc1.blk HHAS.out
      rw [HAT.out] at d1 d2 d3 d4 d5
      simp only [HW.out] at d3
      have f5 := hc1.frb (block.toNat * 6 + 5)
      have g := hc1.blk_set HHAS.out 5 (by omega) (.bool true) { b with failed := true } (by rw [HAT.out]) (by rw [HAT.out]; rfl)
      have G := hid g; have HU := hid hu1
      clear g hc1 hu1 d0
      go_wp2_with fail
      go_ret
      exact ⟨rfl, by have := G.out; simpa only [HW.out] using this, (HU0.out.trans' HU.out).setCell (.inl (.inr (.inl rfl))) _⟩
  · rw [hcut] at HB
    simp only [if_true]
    clear hcut
    go_enter Try.func39, Try.ntmps39
    go_wp2_with fail
    refine HR.out.mono ?_; rintro e w1 ⟨rfl, rfl⟩
    go_wp2_with fail
    refine HB.out.mono ?_; rintro e w1 ⟨rfl, hc1, hu1⟩
    have hbc : w1.cell? ⟨w.heap.size, 0, none⟩ = some (.pointer (some ⟨L.a, 0, none⟩)) := (World.cell?_of_block (hu1.block w.heap.size HBL.out HBF.out)).trans HBC.out
    have HCL := hid (clear1_any L q block w.heap.size w1 hc1 HHAS.out hbc HBF.out)
    rw [HAT.out] at HCL
    have HU := hid hu1
    clear hc1 hu1 hbc
    go_wp2_with fail
    refine HCL.out.mono ?_; rintro e w2 ⟨rfl, hc2, hu2⟩
    go_wp2_with fail
    go_ret
    exact ⟨rfl, hc2, (HU0.out.trans' HU.out).trans' hu2⟩

theorem Erase_any (L : CL) (c : Chip) (block : Int) (w : World) (h : ChipAt w L c) (hfu : c.fuse ≤ 1000000) :
    Calls Try.prog 39 #[.pointer (some ⟨L.a, 0, none⟩), .int .i64 block] w fun e w' =>
      e = .returned (.int .i64 (c.erase block).1) ∧ ChipAt w' L (c.erase block).2 ∧ Upd L.foot w w' := by
  by_cases hr : c.ready block 0 = 0
  · cases hf : (c.at block).failed
    · exact erase_good L c block w h hfu hr hf
    · exact erase_sin L c block w h hr hf
  · exact erase_no L c block w h hr

end Go.Proofs.Ytljphijjcagciaa

namespace Go.Proofs.Ytljphijjcagciaa
open Go.RowKit

theorem New_no (b p s : Int) (bad : Value) (w : World) (h : shapeRight b p s = false) :
    Calls Try.prog 6 #[.agg #[.int .i64 b, .int .i64 p, .int .i64 s], bad] w fun e w' => e = .returned (.tuple #[.pointer none, .int .i64 2]) ∧ Upd noBlk w w' := by
  have HR := hid (fun w => Right_any b p s w)
  rw [h] at HR
  go_enter Try.func6, Try.ntmps6
  go_wp2_with fail
  refine (HR.out _).mono ?_; rintro e w1 ⟨rfl, hu⟩
  go_wp2_with fail
  go_ret2
  exact ⟨rfl, ((Upd.refl _ _).alloc _).trans' hu⟩

theorem shapeRight_iff {b p s : Int} : shapeRight b p s = true ↔ 4 ≤ b ∧ b ≤ 256 ∧ 2 ≤ p ∧ p ≤ 64 ∧ 32 ≤ s ∧ s ≤ 1024 := by
  simp [shapeRight, and_assoc]

/-- A chip's blocks on the way: the first k have their pages. -/
def wayCells (np : Nat) (q : Nat) (x : Bool) : List Value := if x then blkCells np q (freshBlk np) else [.slice none 0 0, .int .i64 0, .int .i64 0, .bool false, .bool false, .bool false]
theorem wayCells_length (np q : Nat) (x : Bool) : (wayCells np q x).length = 6 := by cases x <;> rfl
def way (np p n k : Nat) : List Value := flat (wayCells np) p (List.replicate k true ++ List.replicate (n - k) false)
theorem way_zero (np p n : Nat) : way np p n 0 = blk0s n := by
  unfold way blk0s
  simp only [List.replicate_zero, List.nil_append, Nat.sub_zero]
  rw [flat_const (wayCells np) _ false (fun _ => rfl) n p, flat_const _ _ () (fun _ => rfl) n 0]
  have : ∀ (n p q : Nat) (z : List Value), flat (fun _ (_ : Unit) => z) p (List.replicate n ()) = flat (fun _ (_ : Unit) => z) q (List.replicate n ()) := by
    intro n
    induction n with
    | zero => intros; rfl
    | succ n ih => intro p q z; simp only [List.replicate_succ, flat]; rw [ih (p + 1) (q + 1)]
  exact this _ _ _ _
theorem way_set {np p n k : Nat} (h : k < n) : (way np p n k).set (k * 6) (.slice (some ⟨p + k, 0, none⟩) np np) = way np p n (k + 1) := by
  have e := flat_set (n := 6) (wayCells_length np) p (List.replicate k true ++ List.replicate (n - k) false) k 0 false true (.slice (some ⟨p + k, 0, none⟩) np np)
    (by simp [List.getElem?_append, List.getElem?_replicate]; omega) (by omega) (by simp [wayCells, blkCells, freshBlk])
  rw [Nat.add_zero] at e
  unfold way
  rw [e]
  congr 1
  refine List.ext_getElem? fun i => ?_
  simp only [List.getElem?_set, List.getElem?_append, List.length_replicate, List.getElem?_replicate, List.length_append]
  rcases Nat.lt_trichotomy i k with h1 | h1 | h1
  · have a1 : ¬ k = i := by omega
    have a3 : i < k + 1 := by omega
    simp only [a1, h1, a3, if_false, if_true]
  · subst h1
    have a2 : ¬ i < i := by omega
    have a3 : i < i + 1 := by omega
    have a4 : i < i + (n - i) := by omega
    simp only [a3, a4, if_true]
  · have a1 : ¬ k = i := by omega
    have a2 : ¬ i < k := by omega
    have a3 : ¬ i < k + 1 := by omega
    simp only [a1, a2, a3, if_false]
    by_cases h2 : i < n
    · rw [if_pos (by omega), if_pos (by omega)]
    · rw [if_neg (by omega), if_neg (by omega)]
theorem way_all (np p n : Nat) : way np p n n = flat (blkCells np) p (List.replicate n (freshBlk np)) := by
  unfold way
  simp only [Nat.sub_self, List.replicate_zero, List.append_nil]
  have : ∀ (n p : Nat), flat (wayCells np) p (List.replicate n true) = flat (blkCells np) p (List.replicate n (freshBlk np)) := by
    intro n
    induction n with
    | zero => intro p; rfl
    | succ n ih => intro p; rw [List.replicate_succ, List.replicate_succ, flat, flat, ih]; rfl
  exact this n p
theorem way_get {np p n k : Nat} (h : k < n) : (way np p n k)[k * 6]? = some (.slice none 0 0) := by
  have e := flat_get (n := 6) (wayCells_length np) p (List.replicate k true ++ List.replicate (n - k) false) k 0 false (by simp [List.getElem?_append, List.getElem?_replicate]; omega) (by omega)
  rw [Nat.add_zero] at e
  unfold way; rw [e]; rfl

theorem New_good (b p s : Int) (w : World) (h : shapeRight b p s = true) :
    Calls Try.prog 6 #[.agg #[.int .i64 b, .int .i64 p, .int .i64 s], .slice none 0 0] w fun e w' => ∃ L : CL, (∀ k, L.foot k → w.heap.size ≤ k) ∧ e = .returned (.tuple #[.pointer (some ⟨L.a, 0, none⟩), .int .i64 0]) ∧ ChipAt w' L (Chip.new b p s []) ∧ Upd noBlk w w' := by
  have HR := hid (fun w => Right_any b p s w)
  rw [h] at HR
  obtain ⟨s1, s2, s3, s4, s5, s6⟩ := shapeRight_iff.1 h
  obtain ⟨n, rfl⟩ : ∃ n : Nat, b = n := ⟨b.toNat, by omega⟩
  obtain ⟨m, rfl⟩ : ∃ m : Nat, p = m := ⟨p.toNat, by omega⟩
  go_enter Try.func6, Try.ntmps6
  go_wp2_with fail
  refine (HR.out _).mono ?_; rintro e w1 ⟨rfl, hu⟩
  have hb0 : w1.cell? ⟨w.heap.size, 0, none⟩ = some (.int .i64 n) := hu.cell0 (by simp)
  have hb1 : w1.cell? ⟨w.heap.size, 1, none⟩ = some (.int .i64 m) := hu.cell0 (by simp)
  have hb2 : w1.cell? ⟨w.heap.size, 2, none⟩ = some (.int .i64 s) := hu.cell0 (by simp)
  have hmk := make_blk n (by omega) s2
  have hlt : w.heap.size < w1.heap.size := by have := hu.size; simp at this; omega
  have hu' : Upd noBlk w w1 := ((Upd.refl _ _).alloc _).trans' hu
  have HU := hid hu'; clear hu hu'
  go_wp2_with fail
  go_region
  clear hmk
  go_wp2_with fail
  go_loopw [25] (fun i wr => ∃ k : Nat, k ≤ n ∧ i = .int .i64 k ∧ wr.heap.size = w1.heap.size + 2 + k ∧ Row wr (w1.heap.size + 1) 70 (chipCells ⟨w1.heap.size + 1, w1.heap.size, w1.heap.size + 2, n⟩ (Chip.fresh n m s)) ∧
    Row wr w1.heap.size 73 (way m (w1.heap.size + 2) n k) ∧ (∀ i, i < k → Row wr (w1.heap.size + 2 + i) 9 (List.replicate m (.string ⟨#[]⟩))) ∧ Upd noBlk w wr ∧
    wr.cell? ⟨w.heap.size, 1, none⟩ = some (.int .i64 m)) (fun i _ => n - (intOf i).toNat)
  case atStart =>
    refine ⟨0, Nat.zero_le _, rfl, by simp, ?_, ?_, fun i hi => absurd hi (Nat.not_lt_zero _), ?_, ?_⟩
    · have := Row.new (w1.alloc (.cells (blk0s n).toArray 73)) (chipCells ⟨w1.heap.size + 1, w1.heap.size, w1.heap.size + 2, n⟩ (Chip.fresh n m s)) 70
      rw [World.size_alloc] at this
      exact this.drew
    · rw [way_zero]; exact ((Row.new w1 _ _).alloc _).drew
    · exact ((HU.out.alloc _).alloc _).drew
    · have := (Upd.refl noBlk w1).alloc (.cells (blk0s n).toArray 73)
      exact ((this.alloc _).drew).cell0 hb1
  case round =>
    obtain ⟨k, hk, rfl, hs, r1, r2, r3, hu, hc1⟩ := hrel
    by_cases hlt2 : k < n
    · have d3 := r1.cell 3
      have dk := r2.get (way_get (np := m) (p := w1.heap.size + 2) hlt2)
      have fk := r2.frozen (k * 6)
      have hmk := make_str m (by omega) (by omega)
      have HS := hid hs; have R1 := hid r1; have R2 := hid r2; have R3 := hid r3; have HUU := hid hu
      simp only [chipCells, List.getElem?_cons_succ, List.getElem?_cons_zero] at d3
      have l1 := r1.lt; have l2 := r2.lt
      clear hs r1 r2 r3 hu
      go_wp2_with fail
      go_region
      clear hmk
      go_wp2_with fail
      have hs := HS.out
      refine ⟨⟨k + 1, by omega, by go_num, by simp [hs]; omega, ?_, ?_, ?_, ?_, ?_⟩, by simp [intOf]; omega⟩
      · exact ((R1.out.far (p := ⟨w1.heap.size, k * 6, none⟩) (by show w1.heap.size + 1 ≠ w1.heap.size; omega) _).alloc _).drew
      · rw [hs]; exact ((R2.out.put _ _ (way_set hlt2)).alloc _).drew
      · intro i hi
        by_cases e : i = k
        · subst e
          have := Row.new (wr.setCell ⟨w1.heap.size, i * 6, none⟩ (.slice (some ⟨wr.heap.size, 0, none⟩) m m)) (List.replicate m (.string ⟨#[]⟩)) 9
          simp only [World.size_setCell, List.toArray_replicate] at this
          rw [← hs]
          exact this.drew
        · exact (((R3.out i (by omega)).far (p := ⟨w1.heap.size, k * 6, none⟩) (by show w1.heap.size + 2 + i ≠ w1.heap.size; omega) _).alloc _).drew
      · exact ((HUU.out.setCell (p := ⟨w1.heap.size, k * 6, none⟩) (.inr (by show w.heap.size ≤ w1.heap.size; omega)) _).alloc _).drew
      · have e1 := World.cell?_setCell_other wr ⟨w1.heap.size, k * 6, none⟩ ⟨w.heap.size, 1, none⟩ (.slice (some ⟨wr.heap.size, 0, none⟩) m m) (by simp)
        rw [World.cell?_drew, World.cell?_alloc_lt _ _ _ (by show w.heap.size < (World.setCell _ _ _).heap.size; simp; omega), e1]
        exact hc1
    · have e : k = n := by omega
      subst e
      have HS := hid hs; have R1 := hid r1; have R2 := hid r2; have R3 := hid r3; have HUU := hid hu
      clear hs r1 r2 r3 hu
      go_wp2_with fail
      go_loop [41] (fun i => i = .int .i64 0) (fun _ => 0)
      case atStart => rfl
      case round =>
        subst hrel
        go_wp2_with fail
        go_ret2
        have r2 := R2.out
        rw [way_all] at r2
        refine ⟨⟨w1.heap.size + 1, w1.heap.size, w1.heap.size + 2, k⟩, ?_, rfl, ⟨?_, ?_, R1.out, ?_, ?_, ?_, ?_, ?_⟩, HUU.out⟩
        · rintro i (hi | hi | hi) <;> simp only at hi <;> omega
        · refine ⟨by simp [Chip.new, Chip.fresh], by simp [Chip.new, Chip.fresh]; omega, by simp [Chip.new, Chip.fresh]; omega, s3, s4, s5, s6, by simp [Chip.new, Chip.fresh], by simp [Chip.new, Chip.fresh, mkS_size], ?_⟩
          intro b hb
          have e := List.eq_of_mem_replicate (show b ∈ List.replicate k (freshBlk m) by simpa [Chip.new, Chip.fresh] using hb)
          subst e
          refine ⟨by simp [freshBlk, Chip.new, Chip.fresh], fun s hs => ?_⟩
          have e := List.eq_of_mem_replicate (show s ∈ List.replicate m (mkS []) by simpa [freshBlk] using hs)
          subst e; exact .inl rfl
        · simp [Chip.new, Chip.fresh]
        · simpa [Chip.new, Chip.fresh] using r2
        · intro i b hb
          have hb' : i < k ∧ freshBlk m = b := by simpa [Chip.new, Chip.fresh, List.getElem?_replicate] using hb
          obtain ⟨hi, rfl⟩ := hb'
          have := R3.out i hi
          simpa [freshBlk, mkS] using this
        · show w1.heap.size + 1 ≠ w1.heap.size; omega
        · left; show w1.heap.size + 1 < w1.heap.size + 2; omega
        · left; show w1.heap.size < w1.heap.size + 2; omega

end Go.Proofs.Ytljphijjcagciaa
