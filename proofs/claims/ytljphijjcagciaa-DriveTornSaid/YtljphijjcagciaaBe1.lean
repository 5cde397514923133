/-
  The walks over numbers as bytes.
-/
import Derived.Test.YtljphijjcagciaaCur1
namespace Go.Proofs.Ytljphijjcagciaa
open Go.RowKit

theorem ret_bool {a b : Bool} (h : a = b) : Ending.returned (.bool a) = .returned (.bool b) := by rw [h]

theorem Fits_may (n : Nat) (w : Int) (h : mayB w = false) (wd : World) : Calls Try.prog 96 #[.int .u64 n, .int .i64 w] wd fun e w' => e = .returned (.bool false) ∧ wd = w' := by
  have H := hid (fun wd => may_any w wd)
  rw [h] at H
  go_enter Try.func96, Try.ntmps96
  go_wp2_with (go_at_call 97; refine (H.out _).mono ?_; rintro e w' ⟨rfl, rfl⟩)
  go_ret
  exact ⟨rfl, rfl⟩

/-- Of a number that has room. -/
theorem Fits_yes (n : Nat) (w : Nat) (h1 : 1 ≤ w) (h8 : w ≤ 8) (hn : n < 256 ^ w) (wd : World) : Calls Try.prog 96 #[.int .u64 n, .int .i64 w] wd fun e w' => e = .returned (.bool true) ∧ wd = w' := by
  have H := hid (fun wd => may_any w wd)
  rw [show mayB w = true by simp [mayB]; omega] at H
  have hw : w = 1 ∨ w = 2 ∨ w = 3 ∨ w = 4 ∨ w = 5 ∨ w = 6 ∨ w = 7 ∨ w = 8 := by omega
  have hn64 : (n : Int) ≤ 18446744073709551615 := by
    have : n < 256 ^ 8 := Nat.lt_of_lt_of_le hn (Nat.pow_le_pow_right (by omega) h8)
    omega
  rcases hw with rfl | rfl | rfl | rfl | rfl | rfl | rfl | rfl
  all_goals
    go_enter Try.func96, Try.ntmps96
    go_wp2_with (go_at_call 97; refine (H.out _).mono ?_; rintro e w' ⟨rfl, rfl⟩)
    go_ret
    first | exact ⟨rfl, rfl⟩ | exact ⟨ret_bool (by rw [beq_iff_eq]; omega), rfl⟩

/-- The array as far as it is filled, from its end. -/
def putWay (n k : Nat) : List Value := (List.range 8).map fun j => .int .u8 (if 7 - j < k then ((n / 256 ^ (7 - j) % 256 : Nat) : Int) else 0)
theorem putWay_length (n k : Nat) : (putWay n k).length = 8 := by simp [putWay]
theorem putWay_get (n k j : Nat) (hj : j < 8) : (putWay n k)[j]? = some (.int .u8 (if 7 - j < k then ((n / 256 ^ (7 - j) % 256 : Nat) : Int) else 0)) := by
  simp [putWay, hj]
theorem putWay_set (n k : Nat) (hk : k < 8) : (putWay n k).set (7 - k) (.int .u8 ((n / 256 ^ k % 256 : Nat) : Int)) = putWay n (k + 1) := by
  refine List.ext_getElem? fun j => ?_
  rw [List.getElem?_set]
  by_cases hj : j < 8
  · rw [putWay_get _ _ _ hj, putWay_get _ _ _ hj]
    by_cases e : 7 - k = j
    · subst e
      have e2 : 7 - (7 - k) = k := by omega
      rw [if_pos rfl, if_pos (by rw [putWay_length]; exact hj), e2, if_pos (Nat.lt_succ_self k)]
    · rw [if_neg e]
      have : (7 - j < k) = (7 - j < k + 1) := by rw [eq_iff_iff]; omega
      simp only [this]
  · rw [if_neg (by omega), List.getElem?_eq_none (by rw [putWay_length]; omega), List.getElem?_eq_none (by rw [putWay_length]; omega)]

set_option maxRecDepth 100000 in
theorem Put_any (n w : Nat) (h1 : 1 ≤ w) (h8 : w ≤ 8) (hn : n < 18446744073709551616) (wd : World) :
    Calls Try.prog 86 #[.int .u64 n, .int .i64 w] wd fun e w' => e = .returned (.string (mkS (putB n w))) ∧ Upd noBlk wd w' := by
  have H := hid (fun wd => may_any w wd)
  rw [show mayB w = true by simp [mayB]; omega] at H
  have hn2 : (n : Int) ≤ 18446744073709551615 := by omega
  have h8' : (w : Int) ≤ 8 := by omega
  have h1' : 1 ≤ (w : Int) := by omega
  have HN := hid hn; clear hn
  go_enter Try.func86, Try.ntmps86
  go_wp2_with (go_at_call 97; refine (H.out _).mono ?_; rintro e w' ⟨rfl, rfl⟩)
  go_loopw [10] (fun i wr => ∃ k : Nat, k ≤ 8 ∧ i = .int .i64 k ∧ Row wr wd.heap.size 154 (putWay n k) ∧ Upd noBlk wd wr) (fun i _ => 8 - (intOf i).toNat)
  case atStart => exact ⟨0, by omega, rfl, Row.new wd (putWay n 0) _, (Upd.refl _ _).alloc _⟩
  case round =>
    obtain ⟨k, hk, rfl, hr, hu⟩ := hrel
    by_cases hlt : k < 8
    · have hc := hr.get (putWay_get n k (7 - k) (by omega))
      have hf := hr.frozen (7 - k)
      have hset := hr.put _ _ (putWay_set n k hlt)
      have HU := hid (hu.setCell (p := ⟨wd.heap.size, 7 - k, none⟩) (.inr (Nat.le_refl _)) (.int .u8 ((n / 256 ^ k % 256 : Nat) : Int)))
      have HS := hid hset
      clear hset hr hu
      have hk8 : k = 0 ∨ k = 1 ∨ k = 2 ∨ k = 3 ∨ k = 4 ∨ k = 5 ∨ k = 6 ∨ k = 7 := by omega
      rcases hk8 with rfl | rfl | rfl | rfl | rfl | rfl | rfl | rfl
      all_goals
        simp at HS HU
        (try rw [show ((n : Int) / 72057594037927936 % 256) = (n : Int) / 72057594037927936 by omega] at HS HU)
        go_wp2_with fail
        exact ⟨⟨_, by decide, rfl, HS.out, HU.out⟩, by simp [intOf]⟩
    · have e : k = 8 := by omega
      subst e
      have hw : w = 1 ∨ w = 2 ∨ w = 3 ∨ w = 4 ∨ w = 5 ∨ w = 6 ∨ w = 7 ∨ w = 8 := by omega
      have hcs := fun j hj => hr.get (putWay_get n 8 j hj)
      have HU := hid hu; have HR := hid hr; clear hu hr
      have hcv := run_convert_bytes_back (P := Try.prog) wr 114 9 5 ⟨wd.heap.size, 8 - w, none⟩ w (putB n w) Try.underlying114 Try.underlying5 Try.underlying9 (fun j hj => by
        have hj' : j < w := by simpa [putB] using hj
        rw [Addr.add_lit, hcs (8 - w + j) (by omega), if_pos (by omega)]
        simp only [putB, List.getElem_map, List.getElem_range]
        rw [show 7 - (8 - w + j) = w - 1 - j by omega]
        rfl)
      rw [show (putB n w).length = w by simp [putB]] at hcv
      clear hcs
      rcases hw with rfl | rfl | rfl | rfl | rfl | rfl | rfl | rfl
      all_goals
        simp at hcv
        go_wp2_with fail
        go_ret
        exact ⟨rfl, HU.out⟩

theorem putB_length (n w : Nat) : (putB n w).length = w := by simp [putB]

theorem Number_any (a B : Nat) (l : List UInt8) (n width : Nat) (w : World) (h : WrAt w a B l false) (h1 : 1 ≤ width) (h8 : width ≤ 8) (hn : n < 256 ^ width) (hsz : l.length ≤ 900000) (hB : B ≤ w.heap.size) :
    Calls Try.prog 82 #[.pointer (some ⟨a, 0, none⟩), .int .u64 n, .int .i64 width] w fun e w' => e = .returned (.pointer (some ⟨a, 0, none⟩)) ∧ WrAt w' a B (l ++ putB n width) false ∧ Upd (wrFoot a B) w w' ∧ B ≤ w'.heap.size := by
  have hn64 : n < 18446744073709551616 := by
    have : n < 256 ^ 8 := Nat.lt_of_lt_of_le hn (Nat.pow_le_pow_right (by omega) h8)
    omega
  have HP := hid (fun w => Put_any n width h1 h8 hn64 w)
  have HF := hid (fun w => Fits_yes n width h1 h8 hn w)
  have HW := hid h; have HN := hid hn; have HN64 := hid hn64
  clear h hn hn64
  go_enter Try.func82, Try.ntmps82
  go_wp2_with fail
  refine (HP.out _).mono ?_; rintro e w1 ⟨rfl, hu1⟩
  have HU1 := hid hu1
  clear hu1
  go_wp2_with fail
  refine (HF.out _).mono ?_; rintro e w2 ⟨rfl, rfl⟩
  have h2 : WrAt w1 a B l false := by
    obtain ⟨g1, v, g2, g3⟩ := HW.out
    exact ⟨g1, v, g2.upd HU1.out id, g3.kept (row := none) ⟨HU1.out.os, HU1.out.tape, HU1.out.output, HU1.out.size, fun k hk _ => HU1.out.block k hk id⟩ (by cases v.ownBlock <;> simp)⟩
  have HPU := hid (put_any a B l false true (mkS (putB n width)) w1 h2 (by rw [show (mkS (putB n width)).size = (putB n width).length from rfl, putB_length]; omega) (Nat.le_trans hB HU1.out.size))
  clear h2
  go_wp2_with fail
  refine HPU.out.mono ?_; rintro e w3 ⟨rfl, h3, hu3⟩
  go_wp2_with fail
  go_ret
  have h3' : WrAt w3 a B (l ++ putB n width) false := h3
  exact ⟨rfl, h3', (HU1.out.mono (fun _ _ hk => hk.elim)).trans' hu3, Nat.le_trans hB (Nat.le_trans HU1.out.size hu3.size)⟩

end Go.Proofs.Ytljphijjcagciaa
