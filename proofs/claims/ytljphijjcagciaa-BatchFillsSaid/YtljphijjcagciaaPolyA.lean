/-
  The walks over the checks of bytes, and over numbers as bytes.
  The walks over a check of more bytes, and over the table's making.
  The walk over the table's making.
-/
import Derived.Test.YtljphijjcagciaaChecked
import Derived.Test.YtljphijjcagciaaCore
namespace Go.Proofs.Ytljphijjcagciaa
open Go.RowKit

theorem bits_u32 (op : BinOp) (x y : Int) : 0 ≤ bits op .u32 x y ∧ bits op .u32 x y ≤ 4294967295 := by
  unfold bits; simp only [IntKind.wrap_u32']; omega
theorem bits_u8 (op : BinOp) (x y : Int) : 0 ≤ bits op .u8 x y ∧ bits op .u8 x y < 256 := by
  unfold bits; simp only [IntKind.wrap_u8']; omega
theorem stepBit_range {y : Int} : 0 ≤ stepBit y ∧ stepBit y ≤ 4294967295 := by
  unfold stepBit; split
  · exact bits_u32 _ _ _
  · omega
theorem stepN_range {y : Int} (h : 0 ≤ y ∧ y ≤ 4294967295) : ∀ k, 0 ≤ stepN k y ∧ stepN k y ≤ 4294967295
  | 0 => h
  | _ + 1 => stepBit_range

theorem step_any (x : Int) (h0 : 0 ≤ x) (h1 : x ≤ 4294967295) (w : World) :
    Calls Try.prog 59 #[.int .u32 x] w fun e w' => e = .returned (.int .u32 (stepN 8 x)) ∧ w = w' := by
  go_enter Try.func59, Try.ntmps59
  go_wp2
  go_loop [0, 3] (fun s i => ∃ k : Nat, k ≤ 8 ∧ i = .int .i64 k ∧ s = .int .u32 (stepN k x)) (fun _ i => 8 - (intOf i).toNat)
  case atStart => exact ⟨0, by omega, rfl, rfl⟩
  case round =>
    obtain ⟨k, hk, rfl, rfl⟩ := hrel
    obtain ⟨hy0, hy1⟩ := stepN_range (y := x) ⟨h0, h1⟩ k
    have hs : stepN (k + 1) x = stepBit (stepN k x) := rfl
    generalize hy : stepN k x = y at *
    have HY := hid hy; have HS := hid hs; clear hy hs
    by_cases hlt : k < 8
    · cases hb : (bits .and .u32 y 2147483648 != 0)
      · have e : stepBit y = y * 2 % 4294967296 := by simp only [stepBit, hb, Bool.false_eq_true, if_false]
        have E := hid e; clear e
        go_wp2
        exact ⟨⟨k + 1, by omega, by go_num, by rw [HS.out, E.out]⟩, by simp [intOf]; omega⟩
      · have e : stepBit y = bits .xor .u32 (y * 2 % 4294967296) 79764919 := by simp only [stepBit, hb, if_true]
        have E := hid e; clear e
        go_wp2
        exact ⟨⟨k + 1, by omega, by go_num, by rw [HS.out, E.out]⟩, by simp [intOf]; omega⟩
    · go_wp2
      go_ret
      have e : k = 8 := by omega
      subst e
      exact ⟨by rw [HY.out]; rfl, rfl⟩

theorem First_any (w : World) : Calls Try.prog 85 #[] w fun e w' => e = .returned (.int .u32 4294967295) ∧ w = w' := by
  go_enter Try.func85, Try.ntmps85
  go_wp2
  go_ret
  exact ⟨rfl, rfl⟩
theorem Last_any (x : Int) (w : World) :
    Calls Try.prog 87 #[.int .u32 x] w fun e w' => e = .returned (.int .u32 (crcLast x)) ∧ w = w' := by
  go_enter Try.func87, Try.ntmps87
  go_wp2
  go_ret
  exact ⟨rfl, rfl⟩

theorem may_any (x : Int) (w : World) :
    Calls Try.prog 97 #[.int .i64 x] w fun e w' => e = .returned (.bool (mayB x)) ∧ w = w' := by
  by_cases h : 1 ≤ x
  all_goals
    go_enter Try.func97, Try.ntmps97
    go_wp2
    go_ret
    exact ⟨by simp [mayB, h] <;> omega, rfl⟩

end Go.Proofs.Ytljphijjcagciaa

namespace Go.Proofs.Ytljphijjcagciaa
open Go.RowKit

/-- The table lies at d, from cell 'off' on. -/
def TabAt (w : World) (d off : Nat) : Prop := ∀ j, j < 256 → w.cell? ⟨d, off + j, none⟩ = some (.int .u32 (polyTab.getD j 0))
theorem polyTab_range (j : Nat) : 0 ≤ polyTab.getD j 0 ∧ polyTab.getD j 0 ≤ 4294967295 := by
  by_cases h : j < 256
  · have : polyTab.getD j 0 = stepN 8 ((j : Int) * 16777216) := by unfold polyTab; rw [List.getD_eq_getElem?_getD, List.getElem?_map, List.getElem?_range h]; rw [Option.map_some, Option.getD_some]
    rw [this]; exact stepN_range ⟨by omega, by omega⟩ 8
  · have : polyTab.getD j 0 = 0 := by unfold polyTab; rw [List.getD_eq_getElem?_getD, List.getElem?_map, List.getElem?_eq_none (by rw [List.length_range]; omega)]; rw [Option.map_none, Option.getD_none]
    omega
theorem crcByte_range (y : Int) (b : UInt8) : 0 ≤ crcByte y b ∧ crcByte y b ≤ 4294967295 := bits_u32 _ _ _
theorem crcMore_range {y : Int} (h : 0 ≤ y ∧ y ≤ 4294967295) : ∀ (l : List UInt8), 0 ≤ crcMore y l ∧ crcMore y l ≤ 4294967295 := by
  intro l
  induction l generalizing y with
  | nil => exact h
  | cons b l ih => exact ih (crcByte_range y b)
theorem crcMore_snoc (y : Int) (l : List UInt8) (b : UInt8) : crcMore y (l ++ [b]) = crcByte (crcMore y l) b := by simp [crcMore]

theorem bs_len (s : ByteArray) : (bs s).length = s.size := by cases s; simp [bs, ByteArray.size]

theorem More_any (d off : Nat) (x : Int) (s : ByteArray) (hs : s.size ≤ 100000) (h0 : 0 ≤ x) (h1 : x ≤ 4294967295) (w : World) (ht : TabAt w d off) :
    Calls Try.prog 84 #[.pointer (some ⟨d, off, none⟩), .int .u32 x, .string s] w fun e w' => e = .returned (.int .u32 (crcMore x (bs s))) ∧ ∃ n, w' = w.drewN n := by
  go_enter Try.func84, Try.ntmps84
  go_wp2
  go_loopw [1, 13] (fun st i wr => ∃ k : Nat, k ≤ s.size ∧ i = .int .i64 k ∧ st = .int .u32 (crcMore x ((bs s).take k)) ∧ ∃ n, wr = w.drewN n) (fun _ i _ => s.size - (intOf i).toNat)
  case atStart => exact ⟨0, by omega, rfl, rfl, 0, rfl⟩
  case round =>
    obtain ⟨k, hk, rfl, rfl, n, rfl⟩ := hrel
    by_cases hlt : k < s.size
    · have hsn : (bs s).take (k + 1) = (bs s).take k ++ [s[k]] := by
        have hl : k < (bs s).length := by rw [bs_len]; exact hlt
        rw [List.take_succ_eq_append_getElem hl]; rfl
      have hnx : crcMore x ((bs s).take (k + 1)) = crcByte (crcMore x ((bs s).take k)) s[k] := by rw [hsn, crcMore_snoc]
      obtain ⟨y0, y1⟩ := crcMore_range (y := x) ⟨h0, h1⟩ ((bs s).take k)
      generalize hy : crcMore x ((bs s).take k) = y at *
      obtain ⟨i0, i1⟩ := bits_u8 .xor (y / 16777216) (s[k].toNat : Int)
      have hc := ht (bits .xor .u8 (y / 16777216) (s[k].toNat : Int)).toNat (by omega)
      have HN := hid hnx; have HY := hid hy
      clear hnx hsn hy
      go_wp2_with fail
      go_quiet (fail)
      go_wp2_with fail
      exact ⟨⟨k + 1, by omega, by go_num, by rw [HN.out]; rfl, n + nq, rfl⟩, by simp [intOf]; omega⟩
    · go_wp2_with fail
      go_ret
      have e : k = s.size := by omega
      subst e
      exact ⟨by rw [List.take_of_length_le (by rw [bs_len]; omega)]; rfl, n, rfl⟩


/-- The table as a value. -/
def tabCells : List Value := polyTab.map (Value.int .u32)
/-- The table as far as it is made: its first k places, and zeros. -/
def tabWay (k : Nat) : List Value := (List.range 256).map fun j => .int .u32 (if j < k then polyTab.getD j 0 else 0)
theorem tabWay_length (k : Nat) : (tabWay k).length = 256 := by unfold tabWay; rw [List.length_map, List.length_range]
theorem tabWay_get (k j : Nat) (h : j < 256) : (tabWay k)[j]? = some (.int .u32 (if j < k then polyTab.getD j 0 else 0)) := by
  unfold tabWay; rw [List.getElem?_map, List.getElem?_range h]; rfl
theorem tabWay_set (k : Nat) (h : k < 256) : (tabWay k).set k (.int .u32 (polyTab.getD k 0)) = tabWay (k + 1) := by
  refine List.ext_getElem? fun j => ?_
  rw [List.getElem?_set]
  by_cases hj : j < 256
  · rw [tabWay_get _ _ hj, tabWay_get _ _ hj]
    by_cases e : k = j
    · subst e; rw [if_pos rfl, if_pos (by rw [tabWay_length]; exact h), if_pos (Nat.lt_succ_self k)]
    · rw [if_neg e]
      have : (j < k) = (j < k + 1) := by rw [eq_iff_iff]; omega
      simp only [this]
  · rw [if_neg (by omega), List.getElem?_eq_none (by rw [tabWay_length]; omega), List.getElem?_eq_none (by rw [tabWay_length]; omega)]
theorem tabWay_zero : tabWay 0 = List.replicate 256 (.int .u32 0) := by
  refine List.ext_getElem? fun j => ?_
  by_cases hj : j < 256
  · rw [tabWay_get _ _ hj, List.getElem?_replicate, if_pos hj]; rfl
  · rw [List.getElem?_eq_none (by rw [tabWay_length]; omega), List.getElem?_eq_none (by rw [List.length_replicate]; omega)]
theorem polyTab_getD (k : Nat) (h : k < 256) : polyTab.getD k 0 = stepN 8 ((k : Int) * 16777216) := by unfold polyTab; rw [List.getD_eq_getElem?_getD, List.getElem?_map, List.getElem?_range h]; rw [Option.map_some, Option.getD_some]

end Go.Proofs.Ytljphijjcagciaa

namespace Go.Proofs.Ytljphijjcagciaa
open Go.RowKit

theorem zero79 : Try.zeroCells79 = (List.replicate 256 (Value.int .u32 0)).toArray := by kernel_rfl

theorem tabSize : (Try.prog.info? 79).map (·.size) = some 256 := by kernel_rfl

set_option maxRecDepth 100000 in
theorem Make_any (w : World) :
    Calls Try.prog 34 #[] w fun e w' => e = .returned (.agg (tabWay 256).toArray) ∧ Upd noBlk w w' := by
  go_enter Try.func34, Try.ntmps34
  go_wp2_with fail
  go_loopw [3] (fun i wr => ∃ k : Nat, k ≤ 256 ∧ i = .int .i64 k ∧ Row wr (w.heap.size + 1) 79 (tabWay k) ∧ wr.heap.size = w.heap.size + 2 ∧ Row wr w.heap.size 79 (List.replicate 256 (.int .u32 0)) ∧ Upd noBlk w wr) (fun i _ => 256 - (intOf i).toNat)
  case atStart =>
    refine ⟨0, by omega, rfl, ?_, by simp, ?_, ((Upd.refl _ _).alloc _).alloc _⟩
    · have := Row.new (w.alloc (.cells Try.zeroCells79 79)) (List.replicate 256 (.int .u32 0)) 79
      rw [World.size_alloc, ← zero79] at this
      rw [tabWay_zero]; exact this
    · have := (Row.new w (List.replicate 256 (.int .u32 0)) 79).alloc (.cells Try.zeroCells79 79)
      rw [← zero79] at this
      exact this
  case round =>
    obtain ⟨k, hk, rfl, hr, hsz, hr0, hu⟩ := hrel
    by_cases hlt : k < 256
    · have hc := hr.get (tabWay_get k k hlt)
      have hfz := hr.frozen k

      have HC := hid (fun w => step_any ((k : Int) * 16777216) (by omega) (by omega) w)

      rw [← polyTab_getD k hlt] at HC

      have hset := hr.put k _ (tabWay_set k hlt)
      have hr0' := hr0.far (p := ⟨w.heap.size + 1, k, none⟩) (by show w.heap.size ≠ w.heap.size + 1; omega) (.int .u32 (polyTab.getD k 0))
      have hu' := hu.setCell (p := ⟨w.heap.size + 1, k, none⟩) (.inr (by show w.heap.size ≤ w.heap.size + 1; omega)) (.int .u32 (polyTab.getD k 0))
      generalize polyTab.getD k 0 = v at *
      have HSET := hid hset; have HR0 := hid hr0'; have HU := hid hu'; have HSZ := hid hsz
      clear hset hr0' hu' hr hr0 hu hsz
      rw [if_neg (Nat.lt_irrefl k)] at hc
      go_wp2_with fail
      refine (HC.out _).mono ?_; rintro e w1 ⟨rfl, rfl⟩
      go_wp2_with fail
      exact ⟨⟨k + 1, by omega, by go_num, HSET.out, by simpa using HSZ.out, HR0.out, HU.out⟩, by simp [intOf]; omega⟩
    · have e : k = 256 := by omega
      subst e
      have hlen := tabWay_length 256
      have hone : (tabWay 256).toArray.all (·.oneCell') = true := by
        rw [Array.all_eq_true_iff_forall_mem]
        intro v hv
        unfold tabWay at hv
        rw [List.mem_toArray, List.mem_map] at hv
        obtain ⟨j, _, rfl⟩ := hv
        rfl
      generalize hT : tabWay 256 = T at *
      have hsT : (Try.prog.info? 79).map (·.size) = some T.toArray.size := by rw [List.size_toArray, hlen]; exact tabSize
      have hs0 : (List.replicate 256 (Value.int .u32 0)).toArray.size = T.toArray.size := by rw [List.size_toArray, List.size_toArray, hlen, List.length_replicate]
      have HT := hid hT; have HR := hid hr; have HR0 := hid hr0; have HU := hid hu; have HST := hid hsT; have HS0 := hid hs0; have HONE := hid hone
      clear hT hr hr0 hu hsz hlen hsT hs0 hone
      go_wp2_with (first
        | (refine wpList_load_row rfl 79 _ rfl (w.heap.size + 1) rfl 79 T.toArray (0, 0) _ HR.out Try.underlying79 rfl HST.out ?_)
        | (refine wpList_store_row rfl 79 _ _ rfl w.heap.size T.toArray rfl rfl 79 _ HR0.out HST.out HS0.out HONE.out ?_))
      have hfin : (wr.setRow w.heap.size T.toArray).heap[w.heap.size]? = some (.cells T.toArray 79 (0, 0)) := setRow_heap _ _ _ _ _ _ HR0.out
      refine bodyPost_ret (results_cell_row rfl _ _ w.heap.size 79 _ (0, 0) _ rfl hfin Try.underlying79 rfl HST.out) rfl ⟨by rw [HT.out], ?_⟩
      exact ⟨HU.out.os, HU.out.tape, HU.out.output, by rw [setRow_size]; exact HU.out.size, fun j hj hn => by rw [setRow_other _ _ _ _ (by omega)]; exact HU.out.block j hj hn⟩

end Go.Proofs.Ytljphijjcagciaa
