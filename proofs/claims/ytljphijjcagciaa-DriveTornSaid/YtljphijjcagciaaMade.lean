/-
  What 'make' makes, as lists of cells.
-/
import Derived.Test.YtljphijjcagciaaChecked
import Derived.Test.YtljphijjcagciaaBase
namespace Go.Proofs.Ytljphijjcagciaa
open Go.RowKit

theorem madeCells_flat (z : List Value) (n : Nat) (hz : z ≠ []) : madeCells z.toArray (n * z.length) = (flat (fun _ (_ : Unit) => z) 0 (List.replicate n ())).toArray := by
  have hl : 0 < z.length := List.length_pos_iff.2 hz
  have key : ∀ (n p : Nat), flat (fun _ (_ : Unit) => z) p (List.replicate n ()) = (List.range (n * z.length)).map (fun i => z.toArray[i % z.toArray.size]!) := by
    intro n
    induction n with
    | zero => intro p; simp [flat]
    | succ n ih =>
      intro p
      rw [List.replicate_succ, flat, ih, Nat.succ_mul, Nat.add_comm (n * z.length) z.length, List.range_add, List.map_append, List.map_map]
      congr 1
      · refine List.ext_getElem? fun i => ?_
        simp only [List.getElem?_map]
        rcases Nat.lt_or_ge i z.length with h | h
        · rw [List.getElem?_range h, Option.map_some]
          simp [Nat.mod_eq_of_lt h, List.getElem?_eq_getElem h]
        · rw [List.getElem?_eq_none h, List.getElem?_eq_none (by simpa using h)]; rfl
      · refine List.map_congr_left fun i _ => ?_
        simp
  unfold madeCells
  rw [key n 0, ← Array.toList_inj]
  simp

theorem flat_const {α : Type} (f : Nat → α → List Value) (z : List Value) (x : α) (hf : ∀ p, f p x = z) : ∀ (n p : Nat), flat f p (List.replicate n x) = flat (fun _ (_ : Unit) => z) p (List.replicate n ())
  | 0, _ => by simp [flat]
  | n + 1, p => by rw [List.replicate_succ, List.replicate_succ, flat, flat, hf, flat_const f z x hf n (p + 1)]

theorem madeCells_one (z : Value) (n : Nat) : madeCells #[z] n = (List.replicate n z).toArray := by
  unfold madeCells
  rw [← Array.toList_inj]
  refine List.ext_getElem? fun i => ?_
  simp
  rcases Nat.lt_or_ge i n with h | h
  · simp [h, Nat.mod_one]
  · simp [Nat.not_lt.2 h]

/-- 'make([]T, n)', T's zero being one cell or more. -/
theorem run_make_list {P : Program} (t e : TypeId) (i : TypeInfo) (z : Value) (ht : P.underlying t = some (.slice e)) (hi : P.info? e = some i) (hz : i.zero = some z) (zs : List Value) (hzs : z.cells = zs.toArray) (hs : i.size = zs.length) (hne : zs ≠ [])
    (n : Int) (h0 : 0 ≤ n) (hb : (i.bytes : Int) * n ≤ 281474976710656) (h63 : n ≤ 9223372036854775807) (w : World) :
    (Instr.makeSlice t (.int .i64 n) (.int .i64 n)).run P w = .ok (.slice (some ⟨w.heap.size, 0, none⟩) n.toNat n.toNat) (w.alloc (.cells (flat (fun _ (_ : Unit) => zs) 0 (List.replicate n.toNat ())).toArray e)) := by
  rw [run_make w t e i z ht hi hz .i64 .i64 n n h0 (Int.le_refl _) hb h63, hzs, hs, madeCells_flat zs n.toNat hne]

theorem Try.info_blk : (Try.prog.info? 73).map (fun i => (i.zero, i.size, i.bytes)) = some (some (.agg #[.slice none 0 0, .int .i64 0, .int .i64 0, .bool false, .bool false, .bool false]), 6, 48) := by kernel_rfl
theorem Try.info_str : (Try.prog.info? 9).map (fun i => (i.zero, i.size, i.bytes)) = some (some (.string ⟨#[]⟩), 1, 16) := by kernel_rfl
theorem Try.info_int : (Try.prog.info? 3).map (fun i => (i.zero, i.size, i.bytes)) = some (some (.int .i64 0), 1, 8) := by kernel_rfl
theorem Try.info_bool : (Try.prog.info? 4).map (fun i => (i.zero, i.size, i.bytes)) = some (some (.bool false), 1, 1) := by kernel_rfl

/-- A row of n blocks as they are made. -/
def blk0s (n : Nat) : List Value := flat (fun _ (_ : Unit) => [.slice none 0 0, .int .i64 0, .int .i64 0, .bool false, .bool false, .bool false]) 0 (List.replicate n ())
theorem make_blk (n : Int) (h0 : 0 ≤ n) (h1 : n ≤ 256) (w : World) :
    (Instr.makeSlice 67 (.int .i64 n) (.int .i64 n)).run Try.prog w = .ok (.slice (some ⟨w.heap.size, 0, none⟩) n.toNat n.toNat)
      (w.alloc (.cells (blk0s n.toNat).toArray 73)) := by
  obtain ⟨i, hi, hz0, hz1, hz2⟩ := info_parts Try.info_blk
  exact run_make_list _ _ i _ Try.underlying67 hi hz0 _ rfl hz1 (by simp) n h0 (by rw [hz2]; omega) (by omega) w
theorem make_str (n : Int) (h0 : 0 ≤ n) (h1 : n ≤ 100000) (w : World) :
    (Instr.makeSlice 71 (.int .i64 n) (.int .i64 n)).run Try.prog w = .ok (.slice (some ⟨w.heap.size, 0, none⟩) n.toNat n.toNat) (w.alloc (.cells (List.replicate n.toNat (.string ⟨#[]⟩)).toArray 9)) := by
  obtain ⟨i, hi, hz0, hz1, hz2⟩ := info_parts Try.info_str
  rw [run_make w _ _ i _ Try.underlying71 hi hz0 .i64 .i64 n n h0 (Int.le_refl _) (by rw [hz2]; omega) (by omega), hz1, Nat.mul_one]
  rw [show (Value.string ⟨#[]⟩).cells = #[.string ⟨#[]⟩] from rfl, madeCells_one]
theorem make_int (n : Int) (h0 : 0 ≤ n) (h1 : n ≤ 100000) (w : World) :
    (Instr.makeSlice 64 (.int .i64 n) (.int .i64 n)).run Try.prog w = .ok (.slice (some ⟨w.heap.size, 0, none⟩) n.toNat n.toNat) (w.alloc (.cells (List.replicate n.toNat (.int .i64 0)).toArray 3)) := by
  obtain ⟨i, hi, hz0, hz1, hz2⟩ := info_parts Try.info_int
  rw [run_make w _ _ i _ Try.underlying64 hi hz0 .i64 .i64 n n h0 (Int.le_refl _) (by rw [hz2]; omega) (by omega), hz1, Nat.mul_one]
  rw [show (Value.int .i64 0).cells = #[.int .i64 0] from rfl, madeCells_one]
theorem make_bool (n : Int) (h0 : 0 ≤ n) (h1 : n ≤ 100000) (w : World) :
    (Instr.makeSlice 81 (.int .i64 n) (.int .i64 n)).run Try.prog w = .ok (.slice (some ⟨w.heap.size, 0, none⟩) n.toNat n.toNat) (w.alloc (.cells (List.replicate n.toNat (.bool false)).toArray 4)) := by
  obtain ⟨i, hi, hz0, hz1, hz2⟩ := info_parts Try.info_bool
  rw [run_make w _ _ i _ Try.underlying81 hi hz0 .i64 .i64 n n h0 (Int.le_refl _) (by rw [hz2]; omega) (by omega), hz1, Nat.mul_one]
  rw [show (Value.bool false).cells = #[.bool false] from rfl, madeCells_one]

end Go.Proofs.Ytljphijjcagciaa
