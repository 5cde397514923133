/-
  The walks over the chip's questions, its fuse, and its being switched on.
-/
import Derived.Test.YtljphijjcagciaaNand1
namespace Go.Proofs.Ytljphijjcagciaa
open Go.RowKit

theorem Shape_any (L : CL) (c : Chip) (w : World) (h : ChipAt w L c) :
    Calls Try.prog 33 #[.pointer (some ⟨L.a, 0, none⟩)] w fun e w' => e = .returned (.agg #[.int .i64 c.nb, .int .i64 c.np, .int .i64 c.sz]) ∧ Upd noBlk w w' := by
  obtain ⟨c0, c1, c2, c3, c4, c5, c6, c7, c8, c9⟩ := h.cells
  have hlt := h.top.lt
  go_enter Try.func33, Try.ntmps33
  go_wp2
  exact bodyPost_ret (v := .agg #[.int .i64 c.nb, .int .i64 c.np, .int .i64 c.sz]) (by simp [results, Try.results33, go_sem]) rfl ⟨rfl, (Upd.refl _ _).alloc _⟩

theorem Sins_any (L : CL) (c : Chip) (w : World) (h : ChipAt w L c) :
    Calls Try.prog 36 #[.pointer (some ⟨L.a, 0, none⟩)] w fun e w' => e = .returned (.int .i64 c.sins) ∧ w = w' := by
  obtain ⟨c0, c1, c2, c3, c4, c5, c6, c7, c8, c9⟩ := h.cells
  go_enter Try.func36, Try.ntmps36
  go_wp2
  go_ret
  exact ⟨rfl, rfl⟩

theorem Off_any (L : CL) (c : Chip) (w : World) (h : ChipAt w L c) :
    Calls Try.prog 13 #[.pointer (some ⟨L.a, 0, none⟩)] w fun e w' => e = .returned (.bool c.off) ∧ w = w' := by
  obtain ⟨c0, c1, c2, c3, c4, c5, c6, c7, c8, c9⟩ := h.cells
  go_enter Try.func13, Try.ntmps13
  go_wp2
  go_ret
  exact ⟨rfl, rfl⟩

theorem Erases_any (L : CL) (c : Chip) (k : Int) (w : World) (h : ChipAt w L c) :
    Calls Try.prog 21 #[.pointer (some ⟨L.a, 0, none⟩), .int .i64 k] w fun e w' => e = .returned (.int .i64 (if c.has k then (c.at k).erases else 0)) ∧ w = w' := by
  cases hk : c.has k
  · have H := hid (block_none L c k w h hk)
    go_enter Try.func21, Try.ntmps21
    go_wp2_with (go_at_call 31; refine H.out.mono ?_; rintro e w' ⟨rfl, rfl⟩)
    go_ret
    exact ⟨rfl, rfl⟩
  · have H := hid (block_some L c k w h hk)
    obtain ⟨b0, b1, b2, b3, b4, b5⟩ := h.blk hk
    go_enter Try.func21, Try.ntmps21
    go_wp2_with (go_at_call 31; refine H.out.mono ?_; rintro e w' ⟨rfl, rfl⟩)
    go_ret
    exact ⟨rfl, rfl⟩

theorem Count_any (L : CL) (c : Chip) (w : World) (h : ChipAt w L c) :
    Calls Try.prog 26 #[.pointer (some ⟨L.a, 0, none⟩)] w fun e w' => e = .returned (.tuple #[.int .i64 c.progs, .int .i64 c.ers]) ∧ ∃ n, w' = w.drewN n := by
  obtain ⟨c0, c1, c2, c3, c4, c5, c6, c7, c8, c9⟩ := h.cells
  go_enter Try.func26, Try.ntmps26
  go_wp2
  go_quiet (fail)
  go_wp2
  go_ret2
  exact ⟨rfl, _, rfl⟩

theorem Right_any (b p s : Int) (w : World) :
    Calls Try.prog 30 #[.agg #[.int .i64 b, .int .i64 p, .int .i64 s]] w fun e w' => e = .returned (.bool (shapeRight b p s)) ∧ Upd noBlk w w' := by
  cases h1 : (decide (4 ≤ b) && decide (b ≤ 256))
  · have H1 := fun w => within_any b 4 256 w
    simp only [h1] at H1
    have H := hid H1; clear H1
    have e : shapeRight b p s = false := by unfold shapeRight; rw [h1]; simp
    rw [e]; clear e h1
    go_enter Try.func30, Try.ntmps30
    go_wp2_with (go_at_call 52; refine (H.out _).mono ?_; rintro e w' ⟨rfl, rfl⟩)
    go_ret
    exact ⟨rfl, (Upd.refl _ _).alloc _⟩
  · have H1 := fun w => within_any b 4 256 w
    simp only [h1] at H1
    have H := hid H1; clear H1
    cases h2 : (decide (2 ≤ p) && decide (p ≤ 64))
    · have H2 := fun w => within_any p 2 64 w
      simp only [h2] at H2
      have H' := hid H2; clear H2
      have e : shapeRight b p s = false := by
        unfold shapeRight; rw [h1]; rw [Bool.and_assoc _ _ (decide (p ≤ 64)), Bool.true_and, h2]; simp
      rw [e]; clear e h1 h2
      go_enter Try.func30, Try.ntmps30
      go_wp2_with fail
      refine (H.out _).mono ?_; rintro e w' ⟨rfl, rfl⟩
      go_wp2_with fail
      refine (H'.out _).mono ?_; rintro e w' ⟨rfl, rfl⟩
      go_wp2_with fail
      go_ret
      exact ⟨rfl, (Upd.refl _ _).alloc _⟩
    · have H2 := fun w => within_any p 2 64 w
      simp only [h2] at H2
      have H' := hid H2; clear H2
      have e : shapeRight b p s = (decide (32 ≤ s) && decide (s ≤ 1024)) := by
        unfold shapeRight; rw [h1]; rw [Bool.and_assoc _ _ (decide (p ≤ 64)), Bool.true_and, h2]; simp
      rw [e]; clear e h1 h2
      have H3 := fun w => within_any s 32 1024 w
      generalize (decide (32 ≤ s) && decide (s ≤ 1024)) = r at H3 ⊢
      have H'' := hid H3; clear H3
      go_enter Try.func30, Try.ntmps30
      go_wp2_with fail
      refine (H.out _).mono ?_; rintro e w' ⟨rfl, rfl⟩
      go_wp2_with fail
      refine (H'.out _).mono ?_; rintro e w' ⟨rfl, rfl⟩
      go_wp2_with fail
      refine (H''.out _).mono ?_; rintro e w' ⟨rfl, rfl⟩
      go_wp2_with fail
      go_ret
      exact ⟨rfl, (Upd.refl _ _).alloc _⟩

theorem Fuse_any (L : CL) (c : Chip) (n : Int) (torn : ByteArray) (w : World) (h : ChipAt w L c) (ht : torn.size ≤ 1000000) :
    Calls Try.prog 12 #[.pointer (some ⟨L.a, 0, none⟩), .int .i64 n, .string torn] w fun e w' => e = .returned (.tuple #[]) ∧ ChipAt w' L (c.fuse' n torn) ∧ Upd L.foot w w' := by
  obtain ⟨c0, c1, c2, c3, c4, c5, c6, c7, c8, c9⟩ := h.cells
  have f4 := h.fr 4; have f5 := h.fr 5
  obtain ⟨o1, o2, o3, o4, o5, o6, o7, o8, o9, o10⟩ := h.ok
  have g := (h.top_set (c' := { c with fuse := max n 0 }) 4 _ ⟨o1, o2, o3, o4, o5, o6, o7, (by show 0 ≤ max n 0; omega), o9, o10⟩ rfl rfl rfl).top_set (c' := c.fuse' n torn) 5 _ ⟨o1, o2, o3, o4, o5, o6, o7, (by show 0 ≤ max n 0; omega), ht, o10⟩ rfl rfl rfl
  have G := hid g; clear g
  go_enter Try.func12, Try.ntmps12
  go_wp2
  · go_end0
    exact ⟨rfl, (by have := G.out; rwa [show max n 0 = 0 by omega] at this), (((Upd.refl _ _).setCell (.inl (.inl rfl)) _).setCell (.inl (.inl rfl)) _)⟩
  · go_end0
    exact ⟨rfl, (by have := G.out; rwa [show max n 0 = n by omega] at this), (((Upd.refl _ _).setCell (.inl (.inl rfl)) _).setCell (.inl (.inl rfl)) _)⟩

/-- Switched on so far: of the first k blocks what failed since is forgotten. -/
def Chip.onN (c : Chip) (k : Nat) : Chip := { c with off := false, fuse := 0, bl := (c.bl.take k).map (fun b => { b with failed := b.mill }) ++ c.bl.drop k }
theorem Chip.onN_at {c : Chip} {k : Nat} (hk : k < c.bl.length) : (c.onN k).at (k : Int) = c.at (k : Int) ∧ (c.onN k).has (k : Int) = true ∧ (c.onN k).put (k : Int) { c.at (k : Int) with failed := (c.at (k : Int)).mill } = c.onN (k + 1) := by
  have e1 : c.at (k : Int) = c.bl[k] := by simp [Chip.at, List.getD, hk]
  refine ⟨?_, ?_, ?_⟩
  · simp [Chip.at, Chip.onN, List.getD, List.getElem?_append, Nat.min_eq_left (Nat.le_of_lt hk)]
  · simp [Chip.has, Chip.onN]; omega
  · rw [e1]
    simp only [Chip.put, Chip.onN, Int.toNat_natCast, Chip.mk.injEq, true_and, and_true]
    refine List.ext_getElem? fun i => ?_
    simp only [List.getElem?_set, List.getElem?_append, List.length_append, List.length_map, List.length_take, List.length_drop, List.getElem?_map, List.getElem?_take, List.getElem?_drop]
    rcases Nat.lt_trichotomy i k with h1 | h1 | h1
    · rw [if_neg (by omega), if_pos (by omega), if_pos h1, if_pos (by omega), if_pos (by omega)]
    · subst h1
      rw [if_pos rfl, if_pos (by omega), if_pos (by omega), if_pos (by omega)]
      simp [hk]
    · rw [if_neg (by omega), if_neg (by omega), if_neg (by omega)]
      congr 1; omega
theorem Chip.onN_all (c : Chip) : c.onN c.bl.length = c.on := by simp [Chip.onN, Chip.on]

theorem On_any (L : CL) (c : Chip) (w : World) (h : ChipAt w L c) :
    Calls Try.prog 15 #[.pointer (some ⟨L.a, 0, none⟩)] w fun e w' => e = .returned (.tuple #[]) ∧ ChipAt w' L c.on ∧ Upd L.foot w w' := by
  obtain ⟨c0, c1, c2, c3, c4, c5, c6, c7, c8, c9⟩ := h.cells
  have f4 := h.fr 4; have f6 := h.fr 6
  obtain ⟨o1, o2, o3, o4, o5, o6, o7, o8, o9, o10⟩ := h.ok
  have hn := h.n
  have g := (h.top_set (c' := { c with off := false }) 6 _ ⟨o1, o2, o3, o4, o5, o6, o7, o8, o9, o10⟩ rfl rfl rfl).top_set (c' := c.onN 0) 4 (.int .i64 0) ⟨by simpa [Chip.onN] using o1, by simpa [Chip.onN] using o2, by simpa [Chip.onN] using o3, o4, o5, o6, o7, (by show (0 : Int) ≤ 0; omega), o9, by simpa [Chip.onN] using o10⟩ (by simp [Chip.onN]) rfl rfl
  have hsz : (L.n : Int) ≤ 256 := by omega
  have G := hid g; have HN := hid hn; clear g hn
  go_enter Try.func15, Try.ntmps15
  go_wp2
  go_loopw [16] (fun i wr => ∃ k : Nat, k ≤ L.n ∧ i = .int .i64 k ∧ ChipAt wr L (c.onN k) ∧ Upd L.foot w wr) (fun i _ => L.n - (intOf i).toNat)
  case atStart => exact ⟨0, Nat.zero_le _, rfl, G.out, (((Upd.refl _ _).setCell (.inl (.inl rfl)) _).setCell (.inl (.inl rfl)) _)⟩
  case round =>
    obtain ⟨k, hk, rfl, hc, hu⟩ := hrel
    by_cases hlt : k < L.n
    · obtain ⟨e1, e2, e3⟩ := Chip.onN_at (c := c) (k := k) (by rw [← HN.out]; exact hlt)
      obtain ⟨d0, d1, d2, d3, d4, d5, d6, d7, d8, d9⟩ := hc.cells
      obtain ⟨b0, b1, b2, b3, b4, b5⟩ := hc.blk e2
      have fb := hc.frb (k * 6 + 5)
      rw [e1] at b1 b2 b3 b4 b5
      simp only [Int.toNat_natCast] at b0 b1 b2 b3 b4 b5
      have g := hc.blk_set e2 5 (by omega) (.bool (c.at k).mill) { c.at (k : Int) with failed := (c.at (k : Int)).mill } (by rw [e1]) (by rw [e1]; rfl)
      rw [e3] at g
      have G2 := hid g; have HC := hid hc; clear g hc e1 e2 e3
      go_wp2
      go_region
      go_wp2
      exact ⟨⟨k + 1, by omega, by go_num, G2.out.drew, (hu.setCell (.inl (.inr (.inl rfl))) _).drew⟩, by simp [intOf]; omega⟩
    · go_wp2
      go_end0
      have : k = c.bl.length := by have := HN.out; omega
      subst this
      rw [Chip.onN_all] at hc
      exact ⟨rfl, hc, hu⟩

end Go.Proofs.Ytljphijjcagciaa
