/-
  The walk over a chip's Erase.
-/
import Derived.Test.YtljphijjcagciaaNand6
namespace Go.Proofs.Ytljphijjcagciaa
open Go.RowKit

theorem ChipAt.foot_lt {w : World} {L : CL} {c : Chip} (h : ChipAt w L c) {k : Nat} (hk : L.foot k) : k < w.heap.size := by
  rcases hk with rfl | rfl | ⟨h1, h2⟩
  · exact h.top.lt
  · exact h.bls.lt
  · have hn := h.n
    obtain ⟨i, rfl⟩ : ∃ i, k = L.p + i := ⟨k - L.p, by omega⟩
    have hi : i < c.bl.length := by omega
    exact (h.pgs i c.bl[i] (by simp [hi])).lt

theorem Blk.clearN_len (b : Blk) (which : Nat → Bool) : ∀ k, (b.clearN which k).pages.length = b.pages.length
  | 0 => rfl
  | k + 1 => by simp [Blk.clearN, Blk.clearN_len b which k]
theorem Blk.clearN_get (b : Blk) (which : Nat → Bool) : ∀ (k j : Nat), k ≤ j → (b.clearN which k).pages.getD j (mkS []) = b.pages.getD j (mkS [])
  | 0, _, _ => rfl
  | k + 1, j, h => by
    have := Blk.clearN_get b which k j (by omega)
    simp only [Blk.clearN, List.getD, List.getElem?_set] at this ⊢
    rw [if_neg (by omega), this]
theorem Blk.clearN_size (b : Blk) (which : Nat → Bool) {n : Nat} (h : ∀ s ∈ b.pages, s.size = 0 ∨ s.size = n) (k j : Nat) : (b.clearN which k).pages.getD j (mkS []) = mkS [] ∨ ((b.clearN which k).pages.getD j (mkS [])).size = 0 ∨ ((b.clearN which k).pages.getD j (mkS [])).size = n := by
  have key : ∀ k, ∀ s ∈ (b.clearN which k).pages, s.size = 0 ∨ s.size = n := by
    intro k
    induction k with
    | zero => exact h
    | succ k ih =>
      intro s hs
      simp only [Blk.clearN] at hs
      rcases List.mem_or_eq_of_mem_set hs with hs | rfl
      · exact ih s hs
      · split
        · left; rfl
        · by_cases hk : k < (b.clearN which k).pages.length
          · have := ih _ (List.getElem_mem hk)
            simpa [List.getD, hk] using this
          · left; simp [List.getD, List.getElem?_eq_none (Nat.le_of_not_lt hk), mkS_size]
  by_cases hj : j < (b.clearN which k).pages.length
  · right; have := key k _ (List.getElem_mem hj); simpa [List.getD, hj] using this
  · left; simp [List.getD, List.getElem?_eq_none (Nat.le_of_not_lt hj)]

theorem bs_getD {s : ByteArray} {i : Nat} (h : i < s.size) : (bs s).getD i 0 = s[i] := by
  cases s with
  | mk d =>
    have h' : i < d.size := h
    show d.toList.getD i 0 = d[i]
    simp [List.getD, h']

/-- 'func(int) bool { return true }' -/
theorem erase2_any (k : Nat) (w : World) : Calls Try.prog 66 #[.int .i64 (k : Int)] w fun e w' => e = .returned (.bool (allPg k)) ∧ w = w' := by
  go_enter Try.func66, Try.ntmps66
  go_wp2
  go_ret
  exact ⟨rfl, rfl⟩

theorem erase1_any (L : CL) (c : Chip) (B : Nat) (k : Nat) (hk : k < 64) (w : World) (h : ChipAt w L c) (hB : w.cell? ⟨B, 0, none⟩ = some (.pointer (some ⟨L.a, 0, none⟩))) :
    Calls Try.prog 65 #[.int .i64 k, .pointer (some ⟨B, 0, none⟩)] w fun e w' => e = .returned (.bool (c.tornBit k)) ∧ Upd noBlk w w' := by
  obtain ⟨c0, c1, c2, c3, c4, c5, c6, c7, c8, c9⟩ := h.cells
  have D5 : ∀ n : UW w, n.w.cell? ⟨L.a, 5, none⟩ = some (.string c.torn) := fun n => n.cell c5
  have DB : ∀ n : UW w, n.w.cell? ⟨B, 0, none⟩ = some (.pointer (some ⟨L.a, 0, none⟩)) := fun n => n.cell hB
  have ht := h.ok.torn
  by_cases hz : c.torn.size = 0
  · have z1 := toList_nil hz
    have z2 : c.torn.toList.isEmpty = true := by rw [z1]; rfl
    have e : c.tornBit k = true := by simp [Chip.tornBit, hz]
    rw [e]; clear e hz
    go_enter Try.func65, Try.ntmps65
    go_wp2_with fail
    refine wp_region_upd (by kernel_rfl) (by kernel_rfl) ?_
    repeat (go_big_quiet_step (fail))
    refine wpQuiet_nil ?_
    rintro _ ⟨nq, rfl⟩
    go_wp2_with fail
    go_ret
    exact ⟨rfl, nq.upd⟩
  · have z2 : c.torn.toList.isEmpty = false := by
      cases hh : c.torn.toList.isEmpty
      · rfl
      · exfalso; apply hz; have := List.isEmpty_iff.1 hh; rw [toList_bs] at this; rw [← bs_length, this]; rfl
    have hpos : 0 < c.torn.size := by omega
    have m0 : (k : Int) % (c.torn.size : Int) = ((k % c.torn.size : Nat) : Int) := rfl
    have m1 : k % c.torn.size < c.torn.size := Nat.mod_lt _ hpos
    have m2 : 0 ≤ (k : Int) % (c.torn.size : Int) := by rw [m0]; omega
    have m3 : (k : Int) % (c.torn.size : Int) < (c.torn.size : Int) := by rw [m0]; omega
    have HZ := hid hz; have M0 := hid m0; clear hz m0
    go_enter Try.func65, Try.ntmps65
    go_wp2_with fail
    refine wp_region_upd (by kernel_rfl) (by kernel_rfl) ?_
    repeat (go_big_quiet_step (fail))
    refine wpQuiet_nil ?_
    rintro _ ⟨nq, rfl⟩
    go_wp2_with fail
    go_ret
    refine ⟨?_, nq.upd⟩
    have e : ((bs c.torn).getD (k % c.torn.size) 0) = c.torn[k % c.torn.size] := bs_getD m1
    have e2 : c.tornBit k = (bits .and .u8 (c.torn[k % c.torn.size].toNat : Int) 1 == 1) := by
      unfold Chip.tornBit
      rw [e, show (c.torn.size == 0) = false by simp [HZ.out], Bool.false_or]
    rw [e2]; rfl


theorem clear2_any (L : CL) (c : Chip) (block : Int) (w : World) (h : ChipAt w L c) (hk : c.has block = true) :
    Calls Try.prog 64 #[.pointer (some ⟨L.bb, block.toNat * 6, none⟩), .func (.func 66) #[] #[]] w fun e w' => e = .returned (.tuple #[]) ∧ ChipAt w' L (c.put block ((c.at block).clear allPg)) ∧ Upd L.foot w w' := by
  obtain ⟨b0, b1, b2, b3, b4, b5⟩ := h.blk hk
  have fb1 := h.frb (block.toNat * 6 + 1)
  have hlen : (c.at block).pages.length = c.np.toNat := (h.ok.blk _ (List.mem_of_getElem? (Chip.at_eq hk))).1
  have g0 := h.blk_set hk 1 (by omega) (.int .i64 0) ((c.at block).clearN allPg 0) rfl rfl
  have np64 := h.ok.np64; have np2 := h.ok.np2
  have hn := h.n
  obtain ⟨k1, k2⟩ := Chip.has_iff.1 hk
  have HFT : Hid (L.foot (L.p + block.toNat)) := hid (.inr (.inr ⟨by omega, by omega⟩))
  obtain ⟨m, hm⟩ : ∃ m : Nat, m = c.np.toNat := ⟨_, rfl⟩
  have hmI : c.np = (m : Int) := by omega
  have nn : m ≤ 64 := by omega
  rw [← hm] at b0 hlen
  have hu0 : Upd L.foot w (w.setCell ⟨L.bb, block.toNat * 6 + 1, none⟩ (.int .i64 0)) := (Upd.refl _ _).setCell (.inl (.inr (.inl rfl))) _
  have HU0 := hid hu0
  have hne1 : L.p + block.toNat ≠ L.bb := by have := h.neb; omega
  have hne2 : L.bb ≠ L.p + block.toNat := fun e => hne1 e.symm
  have G0 := hid g0; have HLEN := hid hlen; have HHK := hid hk; have HMI := hid hmI
  clear g0 hlen hk hn k2 hm hmI hu0 np64 np2 h
  go_enter Try.func64, Try.ntmps64
  go_wp2
  go_loopw [13] (fun i wr => ∃ k : Nat, k ≤ m ∧ i = .int .i64 k ∧ ChipAt wr L (c.put block ((c.at block).clearN allPg k)) ∧ Upd L.foot w wr) (fun i _ => m - (intOf i).toNat)
  case atStart => exact ⟨0, Nat.zero_le _, rfl, G0.out, HU0.out⟩
  case round =>
    obtain ⟨k, hkm, rfl, hc, hu⟩ := hrel
    by_cases hlt : k < m
    · have hhas : (c.put block ((c.at block).clearN allPg k)).has block = true := by rw [Chip.has_put]; exact HHK.out
      have hat := Chip.at_put HHK.out ((c.at block).clearN allPg k)
      obtain ⟨d0, d1, d2, d3, d4, d5⟩ := hc.blk hhas
      have e0 : (c.put block ((c.at block).clearN allPg k)).np.toNat = m := by show c.np.toNat = m; rw [HMI.out]; rfl
      rw [e0] at d0
      have pg := hc.page (i := (k : Int)) hhas (by omega) (by show (k : Int) < c.np; rw [HMI.out]; omega)
      rw [hat, Int.toNat_natCast] at pg
      have hlk := Blk.clearN_len (c.at block) allPg k
      rw [HLEN.out] at hlk
      have hsame : ((c.at block).clearN allPg k).pages.set k (((c.at block).clearN allPg k).pages.getD k (mkS [])) = ((c.at block).clearN allPg k).pages := by
        refine List.ext_getElem? fun j => ?_
        rw [List.getElem?_set]
        split
        · rename_i ej; subst ej
          simp [List.getD, show k < ((c.at block).clearN allPg k).pages.length by omega]
        · rfl
      have HCALL := hid (fun w => erase2_any k w)
      cases hw : (allPg k : Bool)
      · have hs1 : (c.at block).clearN allPg (k + 1) = { (c.at block).clearN allPg k with next := if (((c.at block).clearN allPg k).pages.getD k (mkS [])).size = 0 then ((c.at block).clearN allPg k).next else (k : Int) + 1 } := by
          simp only [Blk.clearN, hw, Bool.false_eq_true, if_false, hsame]
        by_cases hz : (((c.at block).clearN allPg k).pages.getD k (mkS [])).size = 0
        · rw [if_pos hz] at hs1
          have z1 := toList_nil hz
          have z2 : (((c.at block).clearN allPg k).pages.getD k (mkS [])).toList.isEmpty = true := by rw [z1]; rfl
          generalize ((c.at block).clearN allPg k).pages.getD k (mkS []) = pp at pg z1 z2 hz
          have HS1 := hid hs1; have HC := hid hc; have HHAS := hid hhas; have HAT := hid hat; have HWK := hid hw
          clear hs1 hc hhas hat hsame hlk e0 hz hw z1
          go_wp2_with fail
          refine (HCALL.out _).mono ?_; rintro e w1 ⟨rfl, hw1⟩; have hu1 : Upd noBlk wr w1 := by rw [← hw1]; exact Upd.refl _ _
          rw [HWK.out]
          have pg' := hu1.cell0 pg; have d0' := hu1.cell0 d0
          go_wp2_with fail
          exact ⟨⟨k + 1, by omega, by go_num, by rw [HS1.out]; exact HC.out.upd hu1 (fun _ hk => hk.elim), hu.trans hu1 (fun _ _ hk => hk.elim)⟩, by simp [intOf]; omega⟩
        · rw [if_neg hz] at hs1
          have z2 : (((c.at block).clearN allPg k).pages.getD k (mkS [])).toList.isEmpty = false := by
            cases hh : (((c.at block).clearN allPg k).pages.getD k (mkS [])).toList.isEmpty
            · rfl
            · exfalso; apply hz; have := List.isEmpty_iff.1 hh; rw [toList_bs] at this; rw [← bs_length, this]; rfl
          generalize ((c.at block).clearN allPg k).pages.getD k (mkS []) = pp at pg z2 hz
          have HS1 := hid hs1; have HC := hid hc; have HHAS := hid hhas; have HAT := hid hat; have HWK := hid hw
          clear hs1 hc hhas hat hsame hlk e0 hz hw
          go_wp2_with fail
          refine (HCALL.out _).mono ?_; rintro e w1 ⟨rfl, hw1⟩; have hu1 : Upd noBlk wr w1 := by rw [← hw1]; exact Upd.refl _ _
          rw [HWK.out]
          have pg' := hu1.cell0 pg; have d0' := hu1.cell0 d0
          have hc' := HC.out.upd hu1 (fun _ hk => hk.elim)
          obtain ⟨q0, q1, q2, q3, q4, q5⟩ := hc'.blk HHAS.out
          have fbn' := hc'.frb (block.toNat * 6 + 1)
          have gb := hc'.blk_set HHAS.out 1 (by omega) (.int .i64 ((k : Int) + 1)) { (c.at block).clearN allPg k with next := (k : Int) + 1 } (by rw [HAT.out]) (by rw [HAT.out]; rfl)
          rw [Chip.put_put] at gb
          have GB := hid gb
          clear gb hc' q0
          go_wp2_with fail
          exact ⟨⟨k + 1, by omega, by go_num, by rw [HS1.out]; exact GB.out, (hu.trans hu1 (fun _ _ hk => hk.elim)).setCell (.inl (.inr (.inl rfl))) _⟩, by simp [intOf]; omega⟩
      · have hs1 : (c.at block).clearN allPg (k + 1) = { (c.at block).clearN allPg k with pages := ((c.at block).clearN allPg k).pages.set k (mkS []) } := by
          simp only [Blk.clearN, hw, if_true, show (mkS []).size = 0 from rfl]
        have HS1 := hid hs1; have HC := hid hc; have HHAS := hid hhas; have HAT := hid hat; have PG := hid pg; have HWK := hid hw
        clear hs1 hc hhas hat hsame hlk e0 hw pg
        go_wp2_with fail
        refine (HCALL.out _).mono ?_; rintro e w1 ⟨rfl, hw1⟩; have hu1 : Upd noBlk wr w1 := by rw [← hw1]; exact Upd.refl _ _
        rw [HWK.out]
        have d0' := hu1.cell0 d0
        have pg' := hu1.cell0 PG.out
        have hc' := HC.out.upd hu1 (fun _ hk => hk.elim)
        have fp' := hc'.frp HHAS.out k
        have gp := hc'.page_set (i := (k : Int)) HHAS.out (mkS []) (.inl rfl)
        rw [Chip.put_put, HAT.out, Int.toNat_natCast] at gp
        have GP := hid gp
        clear gp hc'
        go_wp2_with fail
        exact ⟨⟨k + 1, by omega, by go_num, by rw [HS1.out]; exact GP.out, (hu.trans hu1 (fun _ _ hk => hk.elim)).setCell (.inl HFT.out) _⟩, by simp [intOf]; omega⟩
    · go_wp2
      go_end0
      have e : k = m := by omega
      subst e
      have e2 : (c.at block).clear allPg = (c.at block).clearN allPg k := by unfold Blk.clear; rw [HLEN.out]
      rw [e2]
      exact ⟨rfl, hc, hu⟩

theorem clear1_any (L : CL) (c : Chip) (block : Int) (B : Nat) (w : World) (h : ChipAt w L c) (hk : c.has block = true) (hB : w.cell? ⟨B, 0, none⟩ = some (.pointer (some ⟨L.a, 0, none⟩))) (hBf : ¬ L.foot B) :
    Calls Try.prog 64 #[.pointer (some ⟨L.bb, block.toNat * 6, none⟩), .func (.func 65) #[] #[.pointer (some ⟨B, 0, none⟩)]] w fun e w' => e = .returned (.tuple #[]) ∧ ChipAt w' L (c.put block ((c.at block).clear c.tornBit)) ∧ Upd L.foot w w' := by
  obtain ⟨b0, b1, b2, b3, b4, b5⟩ := h.blk hk
  have fb1 := h.frb (block.toNat * 6 + 1)
  have hlen : (c.at block).pages.length = c.np.toNat := (h.ok.blk _ (List.mem_of_getElem? (Chip.at_eq hk))).1
  have g0 := h.blk_set hk 1 (by omega) (.int .i64 0) ((c.at block).clearN c.tornBit 0) rfl rfl
  have np64 := h.ok.np64; have np2 := h.ok.np2
  have hn := h.n
  obtain ⟨k1, k2⟩ := Chip.has_iff.1 hk
  have HFT : Hid (L.foot (L.p + block.toNat)) := hid (.inr (.inr ⟨by omega, by omega⟩))
  obtain ⟨m, hm⟩ : ∃ m : Nat, m = c.np.toNat := ⟨_, rfl⟩
  have hmI : c.np = (m : Int) := by omega
  have nn : m ≤ 64 := by omega
  rw [← hm] at b0 hlen
  have hu0 : Upd L.foot w (w.setCell ⟨L.bb, block.toNat * 6 + 1, none⟩ (.int .i64 0)) := (Upd.refl _ _).setCell (.inl (.inr (.inl rfl))) _
  have HU0 := hid hu0
  have hne1 : L.p + block.toNat ≠ L.bb := by have := h.neb; omega
  have hne2 : L.bb ≠ L.p + block.toNat := fun e => hne1 e.symm
  have G0 := hid g0; have HLEN := hid hlen; have HHK := hid hk; have HMI := hid hmI
  clear g0 hlen hk hn k2 hm hmI hu0 np64 np2 h
  go_enter Try.func64, Try.ntmps64
  go_wp2
  go_loopw [13] (fun i wr => ∃ k : Nat, k ≤ m ∧ i = .int .i64 k ∧ ChipAt wr L (c.put block ((c.at block).clearN c.tornBit k)) ∧ Upd L.foot w wr) (fun i _ => m - (intOf i).toNat)
  case atStart => exact ⟨0, Nat.zero_le _, rfl, G0.out, HU0.out⟩
  case round =>
    obtain ⟨k, hkm, rfl, hc, hu⟩ := hrel
    by_cases hlt : k < m
    · have hhas : (c.put block ((c.at block).clearN c.tornBit k)).has block = true := by rw [Chip.has_put]; exact HHK.out
      have hat := Chip.at_put HHK.out ((c.at block).clearN c.tornBit k)
      obtain ⟨d0, d1, d2, d3, d4, d5⟩ := hc.blk hhas
      have e0 : (c.put block ((c.at block).clearN c.tornBit k)).np.toNat = m := by show c.np.toNat = m; rw [HMI.out]; rfl
      rw [e0] at d0
      have pg := hc.page (i := (k : Int)) hhas (by omega) (by show (k : Int) < c.np; rw [HMI.out]; omega)
      rw [hat, Int.toNat_natCast] at pg
      have hlk := Blk.clearN_len (c.at block) c.tornBit k
      rw [HLEN.out] at hlk
      have hsame : ((c.at block).clearN c.tornBit k).pages.set k (((c.at block).clearN c.tornBit k).pages.getD k (mkS [])) = ((c.at block).clearN c.tornBit k).pages := by
        refine List.ext_getElem? fun j => ?_
        rw [List.getElem?_set]
        split
        · rename_i ej; subst ej
          simp [List.getD, show k < ((c.at block).clearN c.tornBit k).pages.length by omega]
        · rfl
      have HCALL := hid (erase1_any L _ B k (by omega) wr hc ((World.cell?_of_block (hu.block B (World.block_lt_of_cell? w _ hB) hBf)).trans hB))
      cases hw : (c.tornBit k : Bool)
      · have hs1 : (c.at block).clearN c.tornBit (k + 1) = { (c.at block).clearN c.tornBit k with next := if (((c.at block).clearN c.tornBit k).pages.getD k (mkS [])).size = 0 then ((c.at block).clearN c.tornBit k).next else (k : Int) + 1 } := by
          simp only [Blk.clearN, hw, Bool.false_eq_true, if_false, hsame]
        by_cases hz : (((c.at block).clearN c.tornBit k).pages.getD k (mkS [])).size = 0
        · rw [if_pos hz] at hs1
          have z1 := toList_nil hz
          have z2 : (((c.at block).clearN c.tornBit k).pages.getD k (mkS [])).toList.isEmpty = true := by rw [z1]; rfl
          generalize ((c.at block).clearN c.tornBit k).pages.getD k (mkS []) = pp at pg z1 z2 hz
          have HS1 := hid hs1; have HC := hid hc; have HHAS := hid hhas; have HAT := hid hat; have HWK := hid hw
          clear hs1 hc hhas hat hsame hlk e0 hz hw z1
          go_wp2_with fail
          refine HCALL.out.mono ?_; rintro e w1 ⟨rfl, hu1⟩; rw [show (c.put block ((c.at block).clearN c.tornBit k)).tornBit k = c.tornBit k from rfl]
          rw [HWK.out]
          have pg' := hu1.cell0 pg; have d0' := hu1.cell0 d0
          go_wp2_with fail
          exact ⟨⟨k + 1, by omega, by go_num, by rw [HS1.out]; exact HC.out.upd hu1 (fun _ hk => hk.elim), hu.trans hu1 (fun _ _ hk => hk.elim)⟩, by simp [intOf]; omega⟩
        · rw [if_neg hz] at hs1
          have z2 : (((c.at block).clearN c.tornBit k).pages.getD k (mkS [])).toList.isEmpty = false := by
            cases hh : (((c.at block).clearN c.tornBit k).pages.getD k (mkS [])).toList.isEmpty
            · rfl
            · exfalso; apply hz; have := List.isEmpty_iff.1 hh; rw [toList_bs] at this; rw [← bs_length, this]; rfl
          generalize ((c.at block).clearN c.tornBit k).pages.getD k (mkS []) = pp at pg z2 hz
          have HS1 := hid hs1; have HC := hid hc; have HHAS := hid hhas; have HAT := hid hat; have HWK := hid hw
          clear hs1 hc hhas hat hsame hlk e0 hz hw
          go_wp2_with fail
          refine HCALL.out.mono ?_; rintro e w1 ⟨rfl, hu1⟩; rw [show (c.put block ((c.at block).clearN c.tornBit k)).tornBit k = c.tornBit k from rfl]
          rw [HWK.out]
          have pg' := hu1.cell0 pg; have d0' := hu1.cell0 d0
          have hc' := HC.out.upd hu1 (fun _ hk => hk.elim)
          obtain ⟨q0, q1, q2, q3, q4, q5⟩ := hc'.blk HHAS.out
          have fbn' := hc'.frb (block.toNat * 6 + 1)
          have gb := hc'.blk_set HHAS.out 1 (by omega) (.int .i64 ((k : Int) + 1)) { (c.at block).clearN c.tornBit k with next := (k : Int) + 1 } (by rw [HAT.out]) (by rw [HAT.out]; rfl)
          rw [Chip.put_put] at gb
          have GB := hid gb
          clear gb hc' q0
          go_wp2_with fail
          exact ⟨⟨k + 1, by omega, by go_num, by rw [HS1.out]; exact GB.out, (hu.trans hu1 (fun _ _ hk => hk.elim)).setCell (.inl (.inr (.inl rfl))) _⟩, by simp [intOf]; omega⟩
      · have hs1 : (c.at block).clearN c.tornBit (k + 1) = { (c.at block).clearN c.tornBit k with pages := ((c.at block).clearN c.tornBit k).pages.set k (mkS []) } := by
          simp only [Blk.clearN, hw, if_true, show (mkS []).size = 0 from rfl]
        have HS1 := hid hs1; have HC := hid hc; have HHAS := hid hhas; have HAT := hid hat; have PG := hid pg; have HWK := hid hw
        clear hs1 hc hhas hat hsame hlk e0 hw pg
        go_wp2_with fail
        refine HCALL.out.mono ?_; rintro e w1 ⟨rfl, hu1⟩; rw [show (c.put block ((c.at block).clearN c.tornBit k)).tornBit k = c.tornBit k from rfl]
        rw [HWK.out]
        have d0' := hu1.cell0 d0
        have pg' := hu1.cell0 PG.out
        have hc' := HC.out.upd hu1 (fun _ hk => hk.elim)
        have fp' := hc'.frp HHAS.out k
        have gp := hc'.page_set (i := (k : Int)) HHAS.out (mkS []) (.inl rfl)
        rw [Chip.put_put, HAT.out, Int.toNat_natCast] at gp
        have GP := hid gp
        clear gp hc'
        go_wp2_with fail
        exact ⟨⟨k + 1, by omega, by go_num, by rw [HS1.out]; exact GP.out, (hu.trans hu1 (fun _ _ hk => hk.elim)).setCell (.inl HFT.out) _⟩, by simp [intOf]; omega⟩
    · go_wp2
      go_end0
      have e : k = m := by omega
      subst e
      have e2 : (c.at block).clear c.tornBit = (c.at block).clearN c.tornBit k := by unfold Blk.clear; rw [HLEN.out]
      rw [e2]
      exact ⟨rfl, hc, hu⟩

end Go.Proofs.Ytljphijjcagciaa
