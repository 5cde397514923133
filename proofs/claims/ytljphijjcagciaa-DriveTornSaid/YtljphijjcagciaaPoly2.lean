/-
  The walks over a check of more bytes, and over the table's making.
-/
import Derived.Test.YtljphijjcagciaaPoly1
namespace Go.Proofs.Ytljphijjcagciaa
open Go.RowKit

/-- The table lies at d, from cell 'off' on. -/
def TabAt (w : World) (d off : Nat) : Prop := ∀ j, j < 256 → w.cell? ⟨d, off + j, none⟩ = some (.int .u32 (polyTab.getD j 0))
theorem polyTab_range (j : Nat) : 0 ≤ polyTab.getD j 0 ∧ polyTab.getD j 0 ≤ 4294967295 := by
  by_cases h : j < 256
  · have : polyTab.getD j 0 = stepN 8 ((j : Int) * 16777216) := by unfold polyTab; rw [List.getD_eq_getElem?_getD, List.getElem?_map, List.getElem?_range h]; rw [Option.map_some, Option.getD_some]
    rw [this]; exact stepN_range ⟨by omega, by omega⟩ 8
  · have : polyTab.getD j 0 = 0 := by unfold polyTab; rw [List.getD_eq_getElem?_getD, List.getElem?_map, List.getElem?_eq_none (by rw [List.length_range]; omega)]; rw [Option.map_none, Option.getD_none]
    omega
theorem crcByte_range (y : Int) (b : UInt8) : 0 ≤ crcByte y b ∧ crcByte y b ≤ 4294967295 := bits_u32 _ _ _
theorem crcMore_range {y : Int} (h : 0 ≤ y ∧ y ≤ 4294967295) : ∀ (l : List UInt8), 0 ≤ crcMore y l ∧ crcMore y l ≤ 4294967295 := by
  intro l
  induction l generalizing y with
  | nil => exact h
  | cons b l ih => exact ih (crcByte_range y b)
theorem crcMore_snoc (y : Int) (l : List UInt8) (b : UInt8) : crcMore y (l ++ [b]) = crcByte (crcMore y l) b := by simp [crcMore]

theorem bs_len (s : ByteArray) : (bs s).length = s.size := by cases s; simp [bs, ByteArray.size]

theorem More_any (d off : Nat) (x : Int) (s : ByteArray) (hs : s.size ≤ 100000) (h0 : 0 ≤ x) (h1 : x ≤ 4294967295) (w : World) (ht : TabAt w d off) :
    Calls Try.prog 84 #[.pointer (some ⟨d, off, none⟩), .int .u32 x, .string s] w fun e w' => e = .returned (.int .u32 (crcMore x (bs s))) ∧ ∃ n, w' = w.drewN n := by
  go_enter Try.func84, Try.ntmps84
  go_wp2
  go_loopw [1, 13] (fun st i wr => ∃ k : Nat, k ≤ s.size ∧ i = .int .i64 k ∧ st = .int .u32 (crcMore x ((bs s).take k)) ∧ ∃ n, wr = w.drewN n) (fun _ i _ => s.size - (intOf i).toNat)
  case atStart => exact ⟨0, by omega, rfl, rfl, 0, rfl⟩
  case round =>
    obtain ⟨k, hk, rfl, rfl, n, rfl⟩ := hrel
    by_cases hlt : k < s.size
    · have hsn : (bs s).take (k + 1) = (bs s).take k ++ [s[k]] := by
        have hl : k < (bs s).length := by rw [bs_len]; exact hlt
        rw [List.take_succ_eq_append_getElem hl]; rfl
      have hnx : crcMore x ((bs s).take (k + 1)) = crcByte (crcMore x ((bs s).take k)) s[k] := by rw [hsn, crcMore_snoc]
      obtain ⟨y0, y1⟩ := crcMore_range (y := x) ⟨h0, h1⟩ ((bs s).take k)
      generalize hy : crcMore x ((bs s).take k) = y at *
      obtain ⟨i0, i1⟩ := bits_u8 .xor (y / 16777216) (s[k].toNat : Int)
      have hc := ht (bits .xor .u8 (y / 16777216) (s[k].toNat : Int)).toNat (by omega)
      have HN := hid hnx; have HY := hid hy
      clear hnx hsn hy
      go_wp2_with fail
      go_quiet (fail)
      go_wp2_with fail
      exact ⟨⟨k + 1, by omega, by go_num, by rw [HN.out]; rfl, n + nq, rfl⟩, by simp [intOf]; omega⟩
    · go_wp2_with fail
      go_ret
      have e : k = s.size := by omega
      subst e
      exact ⟨by rw [List.take_of_length_le (by rw [bs_len]; omega)]; rfl, n, rfl⟩


/-- The table as a value. -/
def tabCells : List Value := polyTab.map (Value.int .u32)
/-- The table as far as it is made: its first k places, and zeros. -/
def tabWay (k : Nat) : List Value := (List.range 256).map fun j => .int .u32 (if j < k then polyTab.getD j 0 else 0)
theorem tabWay_length (k : Nat) : (tabWay k).length = 256 := by unfold tabWay; rw [List.length_map, List.length_range]
theorem tabWay_get (k j : Nat) (h : j < 256) : (tabWay k)[j]? = some (.int .u32 (if j < k then polyTab.getD j 0 else 0)) := by
  unfold tabWay; rw [List.getElem?_map, List.getElem?_range h]; rfl
theorem tabWay_set (k : Nat) (h : k < 256) : (tabWay k).set k (.int .u32 (polyTab.getD k 0)) = tabWay (k + 1) := by
  refine List.ext_getElem? fun j => ?_
  rw [List.getElem?_set]
  by_cases hj : j < 256
  · rw [tabWay_get _ _ hj, tabWay_get _ _ hj]
    by_cases e : k = j
    · subst e; rw [if_pos rfl, if_pos (by rw [tabWay_length]; exact h), if_pos (Nat.lt_succ_self k)]
    · rw [if_neg e]
      have : (j < k) = (j < k + 1) := by rw [eq_iff_iff]; omega
      simp only [this]
  · rw [if_neg (by omega), List.getElem?_eq_none (by rw [tabWay_length]; omega), List.getElem?_eq_none (by rw [tabWay_length]; omega)]
theorem tabWay_zero : tabWay 0 = List.replicate 256 (.int .u32 0) := by
  refine List.ext_getElem? fun j => ?_
  by_cases hj : j < 256
  · rw [tabWay_get _ _ hj, List.getElem?_replicate, if_pos hj]; rfl
  · rw [List.getElem?_eq_none (by rw [tabWay_length]; omega), List.getElem?_eq_none (by rw [List.length_replicate]; omega)]
theorem polyTab_getD (k : Nat) (h : k < 256) : polyTab.getD k 0 = stepN 8 ((k : Int) * 16777216) := by unfold polyTab; rw [List.getD_eq_getElem?_getD, List.getElem?_map, List.getElem?_range h]; rw [Option.map_some, Option.getD_some]

end Go.Proofs.Ytljphijjcagciaa
