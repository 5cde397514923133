/-
  The walks over the chip's small methods.
-/
import Derived.Test.YtljphijjcagciaaChecked
import Derived.Test.YtljphijjcagciaaPred
namespace Go.Proofs.Ytljphijjcagciaa
open Go.RowKit

theorem within_any (n l h : Int) (w : World) : Calls Try.prog 52 #[.int .i64 n, .int .i64 l, .int .i64 h] w fun e w' => e = .returned (.bool (decide (l ≤ n) && decide (n ≤ h))) ∧ w = w' := by
  by_cases h1 : l ≤ n
  all_goals
    go_enter Try.func52, Try.ntmps52
    go_wp2
    go_ret
    exact ⟨by simp [h1] <;> omega, rfl⟩

theorem whole_any (b p s : Int) (h : 0 ≤ s) (h2 : s ≤ 1024) (w : World) : Calls Try.prog 70 #[.agg #[.int .i64 b, .int .i64 p, .int .i64 s]] w fun e w' => e = .returned (.int .i64 (s + 32)) ∧ Upd noBlk w w' := by
  go_enter Try.func70, Try.ntmps70
  go_wp2
  go_ret
  exact ⟨rfl, (Upd.refl _ _).alloc _⟩

theorem block_none (L : CL) (c : Chip) (k : Int) (w : World) (h : ChipAt w L c) (hk : c.has k = false) :
    Calls Try.prog 31 #[.pointer (some ⟨L.a, 0, none⟩), .int .i64 k] w fun e w' => e = .returned (.pointer none) ∧ w = w' := by
  obtain ⟨c0, c1, c2, c3, c4, c5, c6, c7, c8, c9⟩ := h.cells
  have hn := h.n; have h256 := h.ok.nb256
  have hk' : k < 0 ∨ (L.n : Int) ≤ k := by
    rcases Int.lt_or_le k 0 with h1 | h1
    · exact .inl h1
    · right; simp [Chip.has, h1] at hk; omega
  have H : Hid (L.n = c.bl.length) := hn
  clear hn
  rcases hk' with h1 | h1
  · go_enter Try.func31, Try.ntmps31
    go_wp2
    go_ret
    exact ⟨rfl, rfl⟩
  · go_enter Try.func31, Try.ntmps31
    go_wp2
    all_goals
      go_ret
      exact ⟨rfl, rfl⟩
theorem block_some (L : CL) (c : Chip) (k : Int) (w : World) (h : ChipAt w L c) (hk : c.has k = true) :
    Calls Try.prog 31 #[.pointer (some ⟨L.a, 0, none⟩), .int .i64 k] w fun e w' => e = .returned (.pointer (some ⟨L.bb, k.toNat * 6, none⟩)) ∧ w = w' := by
  obtain ⟨c0, c1, c2, c3, c4, c5, c6, c7, c8, c9⟩ := h.cells
  have hn := h.n; have h256 := h.ok.nb256
  obtain ⟨h1, h2⟩ := Chip.has_iff.1 hk
  have h3 : k < (L.n : Int) := by omega
  have h4 : (L.n : Int) ≤ 256 := by omega
  clear hn h2
  go_enter Try.func31, Try.ntmps31
  go_wp2
  go_ret
  exact ⟨rfl, rfl⟩

theorem ready_any (L : CL) (c : Chip) (block page : Int) (w : World) (h : ChipAt w L c) :
    Calls Try.prog 61 #[.pointer (some ⟨L.a, 0, none⟩), .int .i64 block, .int .i64 page] w fun e w' => e = .returned (.int .i64 (c.ready block page)) ∧ w = w' := by
  obtain ⟨c0, c1, c2, c3, c4, c5, c6, c7, c8, c9⟩ := h.cells
  cases hoff : c.off
  · rw [hoff] at c6
    cases hk : c.has block
    · have hfin : c.ready block page = 3 := by simp [Chip.ready, hoff, hk]
      rw [hfin]; clear hfin
      have hb := block_none L c block w h hk
      have H := hid hb; clear hb
      go_enter Try.func61, Try.ntmps61
      go_wp2_with (go_at_call 31; refine H.out.mono ?_; rintro e w' ⟨rfl, rfl⟩)
      go_ret
      exact ⟨rfl, rfl⟩
    · have hb := block_some L c block w h hk
      have H := hid hb; clear hb
      by_cases h1 : page < 0
      · have hfin : c.ready block page = 3 := by simp [Chip.ready, hoff, h1]
        rw [hfin]; clear hfin
        go_enter Try.func61, Try.ntmps61
        go_wp2_with (go_at_call 31; refine H.out.mono ?_; rintro e w' ⟨rfl, rfl⟩)
        go_ret
        exact ⟨rfl, rfl⟩
      · by_cases h2 : c.np ≤ page
        · have hfin : c.ready block page = 3 := by simp [Chip.ready, hoff, h2]
          rw [hfin]; clear hfin
          go_enter Try.func61, Try.ntmps61
          go_wp2_with (go_at_call 31; refine H.out.mono ?_; rintro e w' ⟨rfl, rfl⟩)
          go_ret
          exact ⟨rfl, rfl⟩
        · have hfin : c.ready block page = 0 := by simp [Chip.ready, hoff, hk, h1, h2]
          rw [hfin]; clear hfin
          go_enter Try.func61, Try.ntmps61
          go_wp2_with (go_at_call 31; refine H.out.mono ?_; rintro e w' ⟨rfl, rfl⟩)
          go_ret
          exact ⟨rfl, rfl⟩
  · rw [hoff] at c6
    have hfin : c.ready block page = 9 := by simp [Chip.ready, hoff]
    rw [hfin]; clear hfin
    go_enter Try.func61, Try.ntmps61
    go_wp2
    go_ret
    exact ⟨rfl, rfl⟩

theorem sin_any (L : CL) (c : Chip) (n : Int) (w : World) (h : ChipAt w L c) :
    Calls Try.prog 62 #[.pointer (some ⟨L.a, 0, none⟩), .int .i64 n] w fun e w' => e = .returned (.int .i64 n) ∧ ChipAt w' L c.sin ∧ Upd L.foot w w' := by
  obtain ⟨c0, c1, c2, c3, c4, c5, c6, c7, c8, c9⟩ := h.cells
  have f9 := h.fr 9
  go_enter Try.func62, Try.ntmps62
  go_wp2
  go_ret
  obtain ⟨o1, o2, o3, o4, o5, o6, o7, o8, o9, o10⟩ := h.ok
  exact ⟨rfl, h.top_set 9 _ ⟨o1, o2, o3, o4, o5, o6, o7, o8, o9, o10⟩ rfl rfl rfl, (Upd.refl _ _).setCell (.inl (.inl rfl)) _⟩

theorem Chip.burn_ok {c : Chip} (h : c.Ok) (er : Bool) : (c.burn er).2.Ok := by
  obtain ⟨o1, o2, o3, o4, o5, o6, o7, o8, o9, o10⟩ := h
  unfold Chip.burn
  cases er <;> simp only [Bool.false_eq_true, if_true, if_false] <;> split <;> exact ⟨o1, o2, o3, o4, o5, o6, o7, by first | exact o8 | (simp only at *; omega), o9, o10⟩

theorem burn_any (L : CL) (c : Chip) (er : Bool) (w : World) (h : ChipAt w L c) (hf : c.fuse ≤ 1000000) :
    Calls Try.prog 63 #[.pointer (some ⟨L.a, 0, none⟩), .int .i64 (if er then 1 else 0)] w fun e w' => e = .returned (.bool (c.burn er).1) ∧ ChipAt w' L (c.burn er).2 ∧ Upd L.foot w w' := by
  obtain ⟨c0, c1, c2, c3, c4, c5, c6, c7, c8, c9⟩ := h.cells
  have f4 := h.fr 4; have f6 := h.fr 6; have f7 := h.fr 7; have f8 := h.fr 8
  have h0 := h.ok.fuse
  obtain ⟨o1, o2, o3, o4, o5, o6, o7, o8, o9, o10⟩ := h.ok
  cases er <;> simp only [Bool.false_eq_true, if_true, if_false]
  · have g := h.top_set (c' := { c with progs := inc c.progs }) 7 _ ⟨o1, o2, o3, o4, o5, o6, o7, o8, o9, o10⟩ rfl rfl rfl
    by_cases hz : c.fuse = 0
    · have hz' : (c.fuse == 0) = true := by simp [hz]
      have G := hid g; have HZ := hid hz; clear g hz
      go_enter Try.func63, Try.ntmps63
      go_wp2
      go_region
      go_wp2
      go_ret
      refine ⟨by simp [Chip.burn, HZ.out], ?_, ((Upd.refl _ _).setCell (.inl (.inl rfl)) _).drew⟩
      have e : (c.burn false).2 = { c with progs := inc c.progs } := by simp [Chip.burn, HZ.out]
      rw [e]; exact G.out.drew
    · have hz' : (c.fuse == 0) = false := by simp [hz]
      have hz2 : 1 ≤ c.fuse := by omega
      have G := hid g; have HZ := hid hz; clear g hz
      go_enter Try.func63, Try.ntmps63
      go_wp2
      go_region
      go_wp2
      go_ret
      have e1 : (c.fuse - 1 == 0) = decide (c.fuse = 1) := by rw [Bool.eq_iff_iff]; simp; omega
      have e : c.burn false = (decide (c.fuse = 1), { { c with progs := inc c.progs } with fuse := c.fuse - 1, off := decide (c.fuse = 1) }) := by simp [Chip.burn, HZ.out]
      rw [e]
      refine ⟨by simp only [← e1]; rfl, ?_, ((((Upd.refl _ _).setCell (.inl (.inl rfl)) _).setCell (.inl (.inl rfl)) _).setCell (.inl (.inl rfl)) _).drew⟩
      rw [e1]
      exact ((G.out.top_set (c' := { { c with progs := inc c.progs } with fuse := c.fuse - 1 }) 4 _ ⟨o1, o2, o3, o4, o5, o6, o7, (by show 0 ≤ c.fuse - 1; omega), o9, o10⟩ rfl rfl rfl).top_set
        (c' := { { c with progs := inc c.progs } with fuse := c.fuse - 1, off := decide (c.fuse = 1) }) 6 _ ⟨o1, o2, o3, o4, o5, o6, o7, (by show 0 ≤ c.fuse - 1; omega), o9, o10⟩ rfl rfl rfl).drew
  · have g := h.top_set (c' := { c with ers := inc c.ers }) 8 _ ⟨o1, o2, o3, o4, o5, o6, o7, o8, o9, o10⟩ rfl rfl rfl
    by_cases hz : c.fuse = 0
    · have hz' : (c.fuse == 0) = true := by simp [hz]
      have G := hid g; have HZ := hid hz; clear g hz
      go_enter Try.func63, Try.ntmps63
      go_wp2
      go_region
      go_wp2
      go_ret
      refine ⟨by simp [Chip.burn, HZ.out], ?_, ((Upd.refl _ _).setCell (.inl (.inl rfl)) _).drew⟩
      have e : (c.burn true).2 = { c with ers := inc c.ers } := by simp [Chip.burn, HZ.out]
      rw [e]; exact G.out.drew
    · have hz' : (c.fuse == 0) = false := by simp [hz]
      have hz2 : 1 ≤ c.fuse := by omega
      have G := hid g; have HZ := hid hz; clear g hz
      go_enter Try.func63, Try.ntmps63
      go_wp2
      go_region
      go_wp2
      go_ret
      have e1 : (c.fuse - 1 == 0) = decide (c.fuse = 1) := by rw [Bool.eq_iff_iff]; simp; omega
      have e : c.burn true = (decide (c.fuse = 1), { { c with ers := inc c.ers } with fuse := c.fuse - 1, off := decide (c.fuse = 1) }) := by simp [Chip.burn, HZ.out]
      rw [e]
      refine ⟨by simp only [← e1]; rfl, ?_, ((((Upd.refl _ _).setCell (.inl (.inl rfl)) _).setCell (.inl (.inl rfl)) _).setCell (.inl (.inl rfl)) _).drew⟩
      rw [e1]
      exact ((G.out.top_set (c' := { { c with ers := inc c.ers } with fuse := c.fuse - 1 }) 4 _ ⟨o1, o2, o3, o4, o5, o6, o7, (by show 0 ≤ c.fuse - 1; omega), o9, o10⟩ rfl rfl rfl).top_set
        (c' := { { c with ers := inc c.ers } with fuse := c.fuse - 1, off := decide (c.fuse = 1) }) 6 _ ⟨o1, o2, o3, o4, o5, o6, o7, (by show 0 ≤ c.fuse - 1; omega), o9, o10⟩ rfl rfl rfl).drew
end Go.Proofs.Ytljphijjcagciaa
