/-
  The walks over the checks of bytes, and over numbers as bytes.
-/
import Derived.Test.YtljphijjcagciaaChecked
import Derived.Test.YtljphijjcagciaaTagM
namespace Go.Proofs.Ytljphijjcagciaa
open Go.RowKit

theorem bits_u32 (op : BinOp) (x y : Int) : 0 ≤ bits op .u32 x y ∧ bits op .u32 x y ≤ 4294967295 := by
  unfold bits; simp only [IntKind.wrap_u32']; omega
theorem bits_u8 (op : BinOp) (x y : Int) : 0 ≤ bits op .u8 x y ∧ bits op .u8 x y < 256 := by
  unfold bits; simp only [IntKind.wrap_u8']; omega
theorem stepBit_range {y : Int} : 0 ≤ stepBit y ∧ stepBit y ≤ 4294967295 := by
  unfold stepBit; split
  · exact bits_u32 _ _ _
  · omega
theorem stepN_range {y : Int} (h : 0 ≤ y ∧ y ≤ 4294967295) : ∀ k, 0 ≤ stepN k y ∧ stepN k y ≤ 4294967295
  | 0 => h
  | _ + 1 => stepBit_range

theorem step_any (x : Int) (h0 : 0 ≤ x) (h1 : x ≤ 4294967295) (w : World) :
    Calls Try.prog 59 #[.int .u32 x] w fun e w' => e = .returned (.int .u32 (stepN 8 x)) ∧ w = w' := by
  go_enter Try.func59, Try.ntmps59
  go_wp2
  go_loop [0, 3] (fun s i => ∃ k : Nat, k ≤ 8 ∧ i = .int .i64 k ∧ s = .int .u32 (stepN k x)) (fun _ i => 8 - (intOf i).toNat)
  case atStart => exact ⟨0, by omega, rfl, rfl⟩
  case round =>
    obtain ⟨k, hk, rfl, rfl⟩ := hrel
    obtain ⟨hy0, hy1⟩ := stepN_range (y := x) ⟨h0, h1⟩ k
    have hs : stepN (k + 1) x = stepBit (stepN k x) := rfl
    generalize hy : stepN k x = y at *
    have HY := hid hy; have HS := hid hs; clear hy hs
    by_cases hlt : k < 8
    · cases hb : (bits .and .u32 y 2147483648 != 0)
      · have e : stepBit y = y * 2 % 4294967296 := by simp only [stepBit, hb, Bool.false_eq_true, if_false]
        have E := hid e; clear e
        go_wp2
        exact ⟨⟨k + 1, by omega, by go_num, by rw [HS.out, E.out]⟩, by simp [intOf]; omega⟩
      · have e : stepBit y = bits .xor .u32 (y * 2 % 4294967296) 79764919 := by simp only [stepBit, hb, if_true]
        have E := hid e; clear e
        go_wp2
        exact ⟨⟨k + 1, by omega, by go_num, by rw [HS.out, E.out]⟩, by simp [intOf]; omega⟩
    · go_wp2
      go_ret
      have e : k = 8 := by omega
      subst e
      exact ⟨by rw [HY.out]; rfl, rfl⟩

theorem First_any (w : World) : Calls Try.prog 85 #[] w fun e w' => e = .returned (.int .u32 4294967295) ∧ w = w' := by
  go_enter Try.func85, Try.ntmps85
  go_wp2
  go_ret
  exact ⟨rfl, rfl⟩
theorem Last_any (x : Int) (w : World) :
    Calls Try.prog 87 #[.int .u32 x] w fun e w' => e = .returned (.int .u32 (crcLast x)) ∧ w = w' := by
  go_enter Try.func87, Try.ntmps87
  go_wp2
  go_ret
  exact ⟨rfl, rfl⟩

theorem may_any (x : Int) (w : World) :
    Calls Try.prog 97 #[.int .i64 x] w fun e w' => e = .returned (.bool (mayB x)) ∧ w = w' := by
  by_cases h : 1 ≤ x
  all_goals
    go_enter Try.func97, Try.ntmps97
    go_wp2
    go_ret
    exact ⟨by simp [mayB, h] <;> omega, rfl⟩

end Go.Proofs.Ytljphijjcagciaa
