/-
  The walks over the chip's small methods.
  The walks over the chip's questions, its fuse, and its being switched on.
-/
import Derived.Test.YtljphijjcagciaaChecked
import Derived.Test.YtljphijjcagciaaCore
namespace Go.Proofs.Ytljphijjcagciaa
open Go.RowKit

theorem within_any (n l h : Int) (w : World) : Calls Try.prog 52 #[.int .i64 n, .int .i64 l, .int .i64 h] w fun e w' => e = .returned (.bool (decide (l ≤ n) && decide (n ≤ h))) ∧ w = w' := by
  by_cases h1 : l ≤ n
  all_goals
    go_enter Try.func52, Try.ntmps52
    go_wp2
    go_ret
    exact ⟨by simp [h1] <;> omega, rfl⟩

theorem whole_any (b p s : Int) (h : 0 ≤ s) (h2 : s ≤ 1024) (w : World) : Calls Try.prog 70 #[.agg #[.int .i64 b, .int .i64 p, .int .i64 s]] w fun e w' => e = .returned (.int .i64 (s + 32)) ∧ Upd noBlk w w' := by
  go_enter Try.func70, Try.ntmps70
  go_wp2
  go_ret
  exact ⟨rfl, (Upd.refl _ _).alloc _⟩

theorem block_none (L : CL) (c : Chip) (k : Int) (w : World) (h : ChipAt w L c) (hk : c.has k = false) :
    Calls Try.prog 31 #[.pointer (some ⟨L.a, 0, none⟩), .int .i64 k] w fun e w' => e = .returned (.pointer none) ∧ w = w' := by
  obtain ⟨c0, c1, c2, c3, c4, c5, c6, c7, c8, c9⟩ := h.cells
  have hn := h.n; have h256 := h.ok.nb256
  have hk' : k < 0 ∨ (L.n : Int) ≤ k := by
    rcases Int.lt_or_le k 0 with h1 | h1
    · exact .inl h1
    · right; simp [Chip.has, h1] at hk; omega
  have H : Hid (L.n = c.bl.length) := hn
  clear hn
  rcases hk' with h1 | h1
  · go_enter Try.func31, Try.ntmps31
    go_wp2
    go_ret
    exact ⟨rfl, rfl⟩
  · go_enter Try.func31, Try.ntmps31
    go_wp2
    all_goals
      go_ret
      exact ⟨rfl, rfl⟩
theorem block_some (L : CL) (c : Chip) (k : Int) (w : World) (h : ChipAt w L c) (hk : c.has k = true) :
    Calls Try.prog 31 #[.pointer (some ⟨L.a, 0, none⟩), .int .i64 k] w fun e w' => e = .returned (.pointer (some ⟨L.bb, k.toNat * 6, none⟩)) ∧ w = w' := by
  obtain ⟨c0, c1, c2, c3, c4, c5, c6, c7, c8, c9⟩ := h.cells
  have hn := h.n; have h256 := h.ok.nb256
  obtain ⟨h1, h2⟩ := Chip.has_iff.1 hk
  have h3 : k < (L.n : Int) := by omega
  have h4 : (L.n : Int) ≤ 256 := by omega
  clear hn h2
  go_enter Try.func31, Try.ntmps31
  go_wp2
  go_ret
  exact ⟨rfl, rfl⟩

theorem ready_any (L : CL) (c : Chip) (block page : Int) (w : World) (h : ChipAt w L c) :
    Calls Try.prog 61 #[.pointer (some ⟨L.a, 0, none⟩), .int .i64 block, .int .i64 page] w fun e w' => e = .returned (.int .i64 (c.ready block page)) ∧ w = w' := by
  obtain ⟨c0, c1, c2, c3, c4, c5, c6, c7, c8, c9⟩ := h.cells
  cases hoff : c.off
  · rw [hoff] at c6
    cases hk : c.has block
    · have hfin : c.ready block page = 3 := by simp [Chip.ready, hoff, hk]
      rw [hfin]; clear hfin
      have hb := block_none L c block w h hk
      have H := hid hb; clear hb
      go_enter Try.func61, Try.ntmps61
      go_wp2_with (go_at_call 31; refine H.out.mono ?_; rintro e w' ⟨rfl, rfl⟩)
      go_ret
      exact ⟨rfl, rfl⟩
    · have hb := block_some L c block w h hk
      have H := hid hb; clear hb
      by_cases h1 : page < 0
      · have hfin : c.ready block page = 3 := by simp [Chip.ready, hoff, h1]
        rw [hfin]; clear hfin
        go_enter Try.func61, Try.ntmps61
        go_wp2_with (go_at_call 31; refine H.out.mono ?_; rintro e w' ⟨rfl, rfl⟩)
        go_ret
        exact ⟨rfl, rfl⟩
      · by_cases h2 : c.np ≤ page
        · have hfin : c.ready block page = 3 := by simp [Chip.ready, hoff, h2]
          rw [hfin]; clear hfin
          go_enter Try.func61, Try.ntmps61
          go_wp2_with (go_at_call 31; refine H.out.mono ?_; rintro e w' ⟨rfl, rfl⟩)
          go_ret
          exact ⟨rfl, rfl⟩
        · have hfin : c.ready block page = 0 := by simp [Chip.ready, hoff, hk, h1, h2]
          rw [hfin]; clear hfin
          go_enter Try.func61, Try.ntmps61
          go_wp2_with (go_at_call 31; refine H.out.mono ?_; rintro e w' ⟨rfl, rfl⟩)
          go_ret
          exact ⟨rfl, rfl⟩
  · rw [hoff] at c6
    have hfin : c.ready block page = 9 := by simp [Chip.ready, hoff]
    rw [hfin]; clear hfin
    go_enter Try.func61, Try.ntmps61
    go_wp2
    go_ret
    exact ⟨rfl, rfl⟩

theorem sin_any (L : CL) (c : Chip) (n : Int) (w : World) (h : ChipAt w L c) :
    Calls Try.prog 62 #[.pointer (some ⟨L.a, 0, none⟩), .int .i64 n] w fun e w' => e = .returned (.int .i64 n) ∧ ChipAt w' L c.sin ∧ Upd L.foot w w' := by
  obtain ⟨c0, c1, c2, c3, c4, c5, c6, c7, c8, c9⟩ := h.cells
  have f9 := h.fr 9
  go_enter Try.func62, Try.ntmps62
  go_wp2
  go_ret
  obtain ⟨o1, o2, o3, o4, o5, o6, o7, o8, o9, o10⟩ := h.ok
  exact ⟨rfl, h.top_set 9 _ ⟨o1, o2, o3, o4, o5, o6, o7, o8, o9, o10⟩ rfl rfl rfl, (Upd.refl _ _).setCell (.inl (.inl rfl)) _⟩

theorem Chip.burn_ok {c : Chip} (h : c.Ok) (er : Bool) : (c.burn er).2.Ok := by
  obtain ⟨o1, o2, o3, o4, o5, o6, o7, o8, o9, o10⟩ := h
  unfold Chip.burn
  cases er <;> simp only [Bool.false_eq_true, if_true, if_false] <;> split <;> exact ⟨o1, o2, o3, o4, o5, o6, o7, by first | exact o8 | (simp only at *; omega), o9, o10⟩

theorem burn_any (L : CL) (c : Chip) (er : Bool) (w : World) (h : ChipAt w L c) (hf : c.fuse ≤ 1000000) :
    Calls Try.prog 63 #[.pointer (some ⟨L.a, 0, none⟩), .int .i64 (if er then 1 else 0)] w fun e w' => e = .returned (.bool (c.burn er).1) ∧ ChipAt w' L (c.burn er).2 ∧ Upd L.foot w w' := by
  obtain ⟨c0, c1, c2, c3, c4, c5, c6, c7, c8, c9⟩ := h.cells
  have f4 := h.fr 4; have f6 := h.fr 6; have f7 := h.fr 7; have f8 := h.fr 8
  have h0 := h.ok.fuse
  obtain ⟨o1, o2, o3, o4, o5, o6, o7, o8, o9, o10⟩ := h.ok
  cases er <;> simp only [Bool.false_eq_true, if_true, if_false]
  · have g := h.top_set (c' := { c with progs := inc c.progs }) 7 _ ⟨o1, o2, o3, o4, o5, o6, o7, o8, o9, o10⟩ rfl rfl rfl
    by_cases hz : c.fuse = 0
    · have hz' : (c.fuse == 0) = true := by simp [hz]
      have G := hid g; have HZ := hid hz; clear g hz
      go_enter Try.func63, Try.ntmps63
      go_wp2
      go_region
      go_wp2
      go_ret
      refine ⟨by simp [Chip.burn, HZ.out], ?_, ((Upd.refl _ _).setCell (.inl (.inl rfl)) _).drew⟩
      have e : (c.burn false).2 = { c with progs := inc c.progs } := by simp [Chip.burn, HZ.out]
      rw [e]; exact G.out.drew
    · have hz' : (c.fuse == 0) = false := by simp [hz]
      have hz2 : 1 ≤ c.fuse := by omega
      have G := hid g; have HZ := hid hz; clear g hz
      go_enter Try.func63, Try.ntmps63
      go_wp2
      go_region
      go_wp2
      go_ret
      have e1 : (c.fuse - 1 == 0) = decide (c.fuse = 1) := by rw [Bool.eq_iff_iff]; simp; omega
      have e : c.burn false = (decide (c.fuse = 1), { { c with progs := inc c.progs } with fuse := c.fuse - 1, off := decide (c.fuse = 1) }) := by simp [Chip.burn, HZ.out]
      rw [e]
      refine ⟨by simp only [← e1]; rfl, ?_, ((((Upd.refl _ _).setCell (.inl (.inl rfl)) _).setCell (.inl (.inl rfl)) _).setCell (.inl (.inl rfl)) _).drew⟩
      rw [e1]
      exact ((G.out.top_set (c' := { { c with progs := inc c.progs } with fuse := c.fuse - 1 }) 4 _ ⟨o1, o2, o3, o4, o5, o6, o7, (by show 0 ≤ c.fuse - 1; omega), o9, o10⟩ rfl rfl rfl).top_set
        (c' := { { c with progs := inc c.progs } with fuse := c.fuse - 1, off := decide (c.fuse = 1) }) 6 _ ⟨o1, o2, o3, o4, o5, o6, o7, (by show 0 ≤ c.fuse - 1; omega), o9, o10⟩ rfl rfl rfl).drew
  · have g := h.top_set (c' := { c with ers := inc c.ers }) 8 _ ⟨o1, o2, o3, o4, o5, o6, o7, o8, o9, o10⟩ rfl rfl rfl
    by_cases hz : c.fuse = 0
    · have hz' : (c.fuse == 0) = true := by simp [hz]
      have G := hid g; have HZ := hid hz; clear g hz
      go_enter Try.func63, Try.ntmps63
      go_wp2
      go_region
      go_wp2
      go_ret
      refine ⟨by simp [Chip.burn, HZ.out], ?_, ((Upd.refl _ _).setCell (.inl (.inl rfl)) _).drew⟩
      have e : (c.burn true).2 = { c with ers := inc c.ers } := by simp [Chip.burn, HZ.out]
      rw [e]; exact G.out.drew
    · have hz' : (c.fuse == 0) = false := by simp [hz]
      have hz2 : 1 ≤ c.fuse := by omega
      have G := hid g; have HZ := hid hz; clear g hz
      go_enter Try.func63, Try.ntmps63
      go_wp2
      go_region
      go_wp2
      go_ret
      have e1 : (c.fuse - 1 == 0) = decide (c.fuse = 1) := by rw [Bool.eq_iff_iff]; simp; omega
      have e : c.burn true = (decide (c.fuse = 1), { { c with ers := inc c.ers } with fuse := c.fuse - 1, off := decide (c.fuse = 1) }) := by simp [Chip.burn, HZ.out]
      rw [e]
      refine ⟨by simp only [← e1]; rfl, ?_, ((((Upd.refl _ _).setCell (.inl (.inl rfl)) _).setCell (.inl (.inl rfl)) _).setCell (.inl (.inl rfl)) _).drew⟩
      rw [e1]
      exact ((G.out.top_set (c' := { { c with ers := inc c.ers } with fuse := c.fuse - 1 }) 4 _ ⟨o1, o2, o3, o4, o5, o6, o7, (by show 0 ≤ c.fuse - 1; omega), o9, o10⟩ rfl rfl rfl).top_set
        (c' := { { c with ers := inc c.ers } with fuse := c.fuse - 1, off := decide (c.fuse = 1) }) 6 _ ⟨o1, o2, o3, o4, o5, o6, o7, (by show 0 ≤ c.fuse - 1; omega), o9, o10⟩ rfl rfl rfl).drew
end Go.Proofs.Ytljphijjcagciaa

namespace Go.Proofs.Ytljphijjcagciaa
open Go.RowKit

theorem Shape_any (L : CL) (c : Chip) (w : World) (h : ChipAt w L c) :
    Calls Try.prog 33 #[.pointer (some ⟨L.a, 0, none⟩)] w fun e w' => e = .returned (.agg #[.int .i64 c.nb, .int .i64 c.np, .int .i64 c.sz]) ∧ Upd noBlk w w' := by
  obtain ⟨c0, c1, c2, c3, c4, c5, c6, c7, c8, c9⟩ := h.cells
  have hlt := h.top.lt
  go_enter Try.func33, Try.ntmps33
  go_wp2
  exact bodyPost_ret (v := .agg #[.int .i64 c.nb, .int .i64 c.np, .int .i64 c.sz]) (by simp [results, Try.results33, go_sem]) rfl ⟨rfl, (Upd.refl _ _).alloc _⟩

theorem Sins_any (L : CL) (c : Chip) (w : World) (h : ChipAt w L c) :
    Calls Try.prog 36 #[.pointer (some ⟨L.a, 0, none⟩)] w fun e w' => e = .returned (.int .i64 c.sins) ∧ w = w' := by
  obtain ⟨c0, c1, c2, c3, c4, c5, c6, c7, c8, c9⟩ := h.cells
  go_enter Try.func36, Try.ntmps36
  go_wp2
  go_ret
  exact ⟨rfl, rfl⟩

theorem Off_any (L : CL) (c : Chip) (w : World) (h : ChipAt w L c) :
    Calls Try.prog 13 #[.pointer (some ⟨L.a, 0, none⟩)] w fun e w' => e = .returned (.bool c.off) ∧ w = w' := by
  obtain ⟨c0, c1, c2, c3, c4, c5, c6, c7, c8, c9⟩ := h.cells
  go_enter Try.func13, Try.ntmps13
  go_wp2
  go_ret
  exact ⟨rfl, rfl⟩

theorem Erases_any (L : CL) (c : Chip) (k : Int) (w : World) (h : ChipAt w L c) :
    Calls Try.prog 21 #[.pointer (some ⟨L.a, 0, none⟩), .int .i64 k] w fun e w' => e = .returned (.int .i64 (if c.has k then (c.at k).erases else 0)) ∧ w = w' := by
  cases hk : c.has k
  · have H := hid (block_none L c k w h hk)
    go_enter Try.func21, Try.ntmps21
    go_wp2_with (go_at_call 31; refine H.out.mono ?_; rintro e w' ⟨rfl, rfl⟩)
    go_ret
    exact ⟨rfl, rfl⟩
  · have H := hid (block_some L c k w h hk)
    obtain ⟨b0, b1, b2, b3, b4, b5⟩ := h.blk hk
    go_enter Try.func21, Try.ntmps21
    go_wp2_with (go_at_call 31; refine H.out.mono ?_; rintro e w' ⟨rfl, rfl⟩)
    go_ret
    exact ⟨rfl, rfl⟩

theorem Count_any (L : CL) (c : Chip) (w : World) (h : ChipAt w L c) :
    Calls Try.prog 26 #[.pointer (some ⟨L.a, 0, none⟩)] w fun e w' => e = .returned (.tuple #[.int .i64 c.progs, .int .i64 c.ers]) ∧ ∃ n, w' = w.drewN n := by
  obtain ⟨c0, c1, c2, c3, c4, c5, c6, c7, c8, c9⟩ := h.cells
  go_enter Try.func26, Try.ntmps26
  go_wp2
  go_quiet (fail)
  go_wp2
  go_ret2
  exact ⟨rfl, _, rfl⟩

theorem Right_any (b p s : Int) (w : World) :
    Calls Try.prog 30 #[.agg #[.int .i64 b, .int .i64 p, .int .i64 s]] w fun e w' => e = .returned (.bool (shapeRight b p s)) ∧ Upd noBlk w w' := by
  cases h1 : (decide (4 ≤ b) && decide (b ≤ 256))
  · have H1 := fun w => within_any b 4 256 w
    simp only [h1] at H1
    have H := hid H1; clear H1
    have e : shapeRight b p s = false := by unfold shapeRight; rw [h1]; simp
    rw [e]; clear e h1
    go_enter Try.func30, Try.ntmps30
    go_wp2_with (go_at_call 52; refine (H.out _).mono ?_; rintro e w' ⟨rfl, rfl⟩)
    go_ret
    exact ⟨rfl, (Upd.refl _ _).alloc _⟩
  · have H1 := fun w => within_any b 4 256 w
    simp only [h1] at H1
    have H := hid H1; clear H1
    cases h2 : (decide (2 ≤ p) && decide (p ≤ 64))
    · have H2 := fun w => within_any p 2 64 w
      simp only [h2] at H2
      have H' := hid H2; clear H2
      have e : shapeRight b p s = false := by
        unfold shapeRight; rw [h1]; rw [Bool.and_assoc _ _ (decide (p ≤ 64)), Bool.true_and, h2]; simp
      rw [e]; clear e h1 h2
      go_enter Try.func30, Try.ntmps30
      go_wp2_with fail
      refine (H.out _).mono ?_; rintro e w' ⟨rfl, rfl⟩
      go_wp2_with fail
      refine (H'.out _).mono ?_; rintro e w' ⟨rfl, rfl⟩
      go_wp2_with fail
      go_ret
      exact ⟨rfl, (Upd.refl _ _).alloc _⟩
    · have H2 := fun w => within_any p 2 64 w
      simp only [h2] at H2
      have H' := hid H2; clear H2
      have e : shapeRight b p s = (decide (32 ≤ s) && decide (s ≤ 1024)) := by
        unfold shapeRight; rw [h1]; rw [Bool.and_assoc _ _ (decide (p ≤ 64)), Bool.true_and, h2]; simp
      rw [e]; clear e h1 h2
      have H3 := fun w => within_any s 32 1024 w
      generalize (decide (32 ≤ s) && decide (s ≤ 1024)) = r at H3 ⊢
      have H'' := hid H3; clear H3
      go_enter Try.func30, Try.ntmps30
      go_wp2_with fail
      refine (H.out _).mono ?_; rintro e w' ⟨rfl, rfl⟩
      go_wp2_with fail
      refine (H'.out _).mono ?_; rintro e w' ⟨rfl, rfl⟩
      go_wp2_with fail
      refine (H''.out _).mono ?_; rintro e w' ⟨rfl, rfl⟩
      go_wp2_with fail
      go_ret
      exact ⟨rfl, (Upd.refl _ _).alloc _⟩

theorem Fuse_any (L : CL) (c : Chip) (n : Int) (torn : ByteArray) (w : World) (h : ChipAt w L c) (ht : torn.size ≤ 1000000) :
    Calls Try.prog 12 #[.pointer (some ⟨L.a, 0, none⟩), .int .i64 n, .string torn] w fun e w' => e = .returned (.tuple #[]) ∧ ChipAt w' L (c.fuse' n torn) ∧ Upd L.foot w w' := by
  obtain ⟨c0, c1, c2, c3, c4, c5, c6, c7, c8, c9⟩ := h.cells
  have f4 := h.fr 4; have f5 := h.fr 5
  obtain ⟨o1, o2, o3, o4, o5, o6, o7, o8, o9, o10⟩ := h.ok
  have g := (h.top_set (c' := { c with fuse := max n 0 }) 4 _ ⟨o1, o2, o3, o4, o5, o6, o7, (by show 0 ≤ max n 0; omega), o9, o10⟩ rfl rfl rfl).top_set (c' := c.fuse' n torn) 5 _ ⟨o1, o2, o3, o4, o5, o6, o7, (by show 0 ≤ max n 0; omega), ht, o10⟩ rfl rfl rfl
  have G := hid g; clear g
  go_enter Try.func12, Try.ntmps12
  go_wp2
  · go_end0
    exact ⟨rfl, (by have := G.out; rwa [show max n 0 = 0 by omega] at this), (((Upd.refl _ _).setCell (.inl (.inl rfl)) _).setCell (.inl (.inl rfl)) _)⟩
  · go_end0
    exact ⟨rfl, (by have := G.out; rwa [show max n 0 = n by omega] at this), (((Upd.refl _ _).setCell (.inl (.inl rfl)) _).setCell (.inl (.inl rfl)) _)⟩

/-- Switched on so far: of the first k blocks what failed since is forgotten. -/
def Chip.onN (c : Chip) (k : Nat) : Chip := { c with off := false, fuse := 0, bl := (c.bl.take k).map (fun b => { b with failed := b.mill }) ++ c.bl.drop k }
theorem Chip.onN_at {c : Chip} {k : Nat} (hk : k < c.bl.length) : (c.onN k).at (k : Int) = c.at (k : Int) ∧ (c.onN k).has (k : Int) = true ∧ (c.onN k).put (k : Int) { c.at (k : Int) with failed := (c.at (k : Int)).mill } = c.onN (k + 1) := by
  have e1 : c.at (k : Int) = c.bl[k] := by simp [Chip.at, List.getD, hk]
  refine ⟨?_, ?_, ?_⟩
  · simp [Chip.at, Chip.onN, List.getD, List.getElem?_append, Nat.min_eq_left (Nat.le_of_lt hk)]
  · simp [Chip.has, Chip.onN]; omega
  · rw [e1]
    simp only [Chip.put, Chip.onN, Int.toNat_natCast, Chip.mk.injEq, true_and, and_true]
    refine List.ext_getElem? fun i => ?_
    simp only [List.getElem?_set, List.getElem?_append, List.length_append, List.length_map, List.length_take, List.length_drop, List.getElem?_map, List.getElem?_take, List.getElem?_drop]
    rcases Nat.lt_trichotomy i k with h1 | h1 | h1
    · rw [if_neg (by omega), if_pos (by omega), if_pos h1, if_pos (by omega), if_pos (by omega)]
    · subst h1
      rw [if_pos rfl, if_pos (by omega), if_pos (by omega), if_pos (by omega)]
      simp [hk]
    · rw [if_neg (by omega), if_neg (by omega), if_neg (by omega)]
      congr 1; omega
theorem Chip.onN_all (c : Chip) : c.onN c.bl.length = c.on := by simp [Chip.onN, Chip.on]

theorem On_any (L : CL) (c : Chip) (w : World) (h : ChipAt w L c) :
    Calls Try.prog 15 #[.pointer (some ⟨L.a, 0, none⟩)] w fun e w' => e = .returned (.tuple #[]) ∧ ChipAt w' L c.on ∧ Upd L.foot w w' := by
  obtain ⟨c0, c1, c2, c3, c4, c5, c6, c7, c8, c9⟩ := h.cells
  have f4 := h.fr 4; have f6 := h.fr 6
  obtain ⟨o1, o2, o3, o4, o5, o6, o7, o8, o9, o10⟩ := h.ok
  have hn := h.n
  have g := (h.top_set (c' := { c with off := false }) 6 _ ⟨o1, o2, o3, o4, o5, o6, o7, o8, o9, o10⟩ rfl rfl rfl).top_set (c' := c.onN 0) 4 (.int .i64 0) ⟨by simpa [Chip.onN] using o1, by simpa [Chip.onN] using o2, by simpa [Chip.onN] using o3, o4, o5, o6, o7, (by show (0 : Int) ≤ 0; omega), o9, by simpa [Chip.onN] using o10⟩ (by simp [Chip.onN]) rfl rfl
  have hsz : (L.n : Int) ≤ 256 := by omega
  have G := hid g; have HN := hid hn; clear g hn
  go_enter Try.func15, Try.ntmps15
  go_wp2
  go_loopw [16] (fun i wr => ∃ k : Nat, k ≤ L.n ∧ i = .int .i64 k ∧ ChipAt wr L (c.onN k) ∧ Upd L.foot w wr) (fun i _ => L.n - (intOf i).toNat)
  case atStart => exact ⟨0, Nat.zero_le _, rfl, G.out, (((Upd.refl _ _).setCell (.inl (.inl rfl)) _).setCell (.inl (.inl rfl)) _)⟩
  case round =>
    obtain ⟨k, hk, rfl, hc, hu⟩ := hrel
    by_cases hlt : k < L.n
    · obtain ⟨e1, e2, e3⟩ := Chip.onN_at (c := c) (k := k) (by rw [← HN.out]; exact hlt)
      obtain ⟨d0, d1, d2, d3, d4, d5, d6, d7, d8, d9⟩ := hc.cells
      obtain ⟨b0, b1, b2, b3, b4, b5⟩ := hc.blk e2
      have fb := hc.frb (k * 6 + 5)
      rw [e1] at b1 b2 b3 b4 b5
      simp only [Int.toNat_natCast] at b0 b1 b2 b3 b4 b5
      have g := hc.blk_set e2 5 (by omega) (.bool (c.at k).mill) { c.at (k : Int) with failed := (c.at (k : Int)).mill } (by rw [e1]) (by rw [e1]; rfl)
      rw [e3] at g
      have G2 := hid g; have HC := hid hc; clear g hc e1 e2 e3
      go_wp2
      go_region
      go_wp2
      exact ⟨⟨k + 1, by omega, by go_num, G2.out.drew, (hu.setCell (.inl (.inr (.inl rfl))) _).drew⟩, by simp [intOf]; omega⟩
    · go_wp2
      go_end0
      have : k = c.bl.length := by have := HN.out; omega
      subst this
      rw [Chip.onN_all] at hc
      exact ⟨rfl, hc, hu⟩

end Go.Proofs.Ytljphijjcagciaa
