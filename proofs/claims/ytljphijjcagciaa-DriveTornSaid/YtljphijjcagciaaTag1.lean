/-
  The walks over a tag's bytes, and the check of a page.
-/
import Derived.Test.YtljphijjcagciaaBe1
import Derived.Test.YtljphijjcagciaaLib
import Derived.Test.YtljphijjcagciaaNand3
import Derived.Deep.RegionHeld3
namespace Go.Proofs.Ytljphijjcagciaa
open Go.RowKit

theorem bs_mkS (l : List UInt8) : bs (mkS l) = l := rfl
theorem bs_append (a b : ByteArray) : bs (a ++ b) = bs a ++ bs b := by
  unfold bs
  rw [ByteArray.data_append, Array.toList_append]

/-- A tag's value. -/
def Tag.val (t : Tag) : Value := .agg #[.int .u8 t.kind, .int .i64 t.logical, .int .u64 t.seq, .int .i64 t.pos, .int .i64 t.len]

theorem wrFoot_ne {a B k : Nat} (h : k < B) (hn : k ≠ a) : ¬ wrFoot a B k := by rintro (h1 | h1) <;> omega

/-- On the way of a tag's bytes: the tag lies at T, the writer behind it. -/
structure TagWr (w : World) (T : Nat) (k l s p n : Nat) (W : World) (b : List UInt8) : Prop where
  wr : WrAt W (T + 1) (T + 2) b false
  sz : T + 2 ≤ W.heap.size
  c0 : W.cell? ⟨T, 0, none⟩ = some (.int .u8 k)
  c1 : W.cell? ⟨T, 1, none⟩ = some (.int .i64 l)
  c2 : W.cell? ⟨T, 2, none⟩ = some (.int .u64 s)
  c3 : W.cell? ⟨T, 3, none⟩ = some (.int .i64 p)
  c4 : W.cell? ⟨T, 4, none⟩ = some (.int .i64 n)
  upd : Upd noBlk w W
  le : w.heap.size ≤ T

theorem number_step {w : World} {T k l s p n : Nat} {W : World} {b : List UInt8} (h : TagWr w T k l s p n W b) (x width : Nat) (h1 : 1 ≤ width) (h8 : width ≤ 8) (hx : x < 256 ^ width) (hb : b.length ≤ 900000) :
    Calls Try.prog 82 #[.pointer (some ⟨T + 1, 0, none⟩), .int .u64 x, .int .i64 width] W fun e w' => e = .returned (.pointer (some ⟨T + 1, 0, none⟩)) ∧ TagWr w T k l s p n w' (b ++ putB x width) := by
  refine (Number_any (T + 1) (T + 2) b x width W h.wr h1 h8 hx hb h.sz).mono ?_
  rintro e w' ⟨rfl, hw, hu, hs⟩
  have hT : T < W.heap.size := by have := h.sz; omega
  have key : w'.heap[T]? = W.heap[T]? := hu.block T hT (wrFoot_ne (by omega) (by omega))
  refine ⟨rfl, hw, hs, (World.cell?_of_block key).trans h.c0, (World.cell?_of_block key).trans h.c1, (World.cell?_of_block key).trans h.c2, (World.cell?_of_block key).trans h.c3, (World.cell?_of_block key).trans h.c4, ?_, h.le⟩
  exact h.upd.trans hu (fun i hi hf => by have := h.le; rcases hf with hf | hf <;> omega)

theorem TagWr.quiet {w : World} {T k l s p n : Nat} {W W' : World} {b : List UInt8} (h : TagWr w T k l s p n W b) (hu : Upd noBlk W W') : TagWr w T k l s p n W' b := by
  obtain ⟨g1, v, g2, g3⟩ := h.wr
  exact ⟨⟨g1, v, g2.upd hu id, g3.kept (row := none) ⟨hu.os, hu.tape, hu.output, hu.size, fun k hk _ => hu.block k hk id⟩ (by cases v.ownBlock <;> simp)⟩, Nat.le_trans h.sz hu.size,
    UW.cell ⟨W', hu⟩ h.c0, UW.cell ⟨W', hu⟩ h.c1, UW.cell ⟨W', hu⟩ h.c2, UW.cell ⟨W', hu⟩ h.c3, UW.cell ⟨W', hu⟩ h.c4, h.upd.trans' hu, h.le⟩

set_option maxHeartbeats 800000 in
theorem bytes_any (k l s p n : Nat) (hk : k < 256) (hl : l < 65536) (hs : s < 18446744073709551616) (hp : p < 256) (hn : n < 256) (w : World) :
    Calls Try.prog 67 #[.agg #[.int .u8 k, .int .i64 l, .int .u64 s, .int .i64 p, .int .i64 n]] w fun e w' => e = .returned (.string (mkS (Tag.bytes ⟨k, l, s, p, n⟩))) ∧ Upd noBlk w w' := by
  have H1 : Hid (∀ W, TagWr w w.heap.size k l s p n W ([]) → Calls Try.prog 82 #[.pointer (some ⟨w.heap.size + 1, 0, none⟩), .int .u64 (k : Int), .int .i64 1] W fun e w' => e = .returned (.pointer (some ⟨w.heap.size + 1, 0, none⟩)) ∧ TagWr w w.heap.size k l s p n w' ([] ++ putB k 1)) := hid (fun W h => number_step h k 1 (by omega) (by omega) (by simpa using hk) (by simp))
  have H2 : Hid (∀ W, TagWr w w.heap.size k l s p n W ([] ++ putB k 1) → Calls Try.prog 82 #[.pointer (some ⟨w.heap.size + 1, 0, none⟩), .int .u64 (l : Int), .int .i64 2] W fun e w' => e = .returned (.pointer (some ⟨w.heap.size + 1, 0, none⟩)) ∧ TagWr w w.heap.size k l s p n w' ([] ++ putB k 1 ++ putB l 2)) := hid (fun W h => number_step h l 2 (by omega) (by omega) (by simpa using hl) (by simp [putB]))
  have H3 : Hid (∀ W, TagWr w w.heap.size k l s p n W ([] ++ putB k 1 ++ putB l 2) → Calls Try.prog 82 #[.pointer (some ⟨w.heap.size + 1, 0, none⟩), .int .u64 (s : Int), .int .i64 8] W fun e w' => e = .returned (.pointer (some ⟨w.heap.size + 1, 0, none⟩)) ∧ TagWr w w.heap.size k l s p n w' ([] ++ putB k 1 ++ putB l 2 ++ putB s 8)) := hid (fun W h => number_step h s 8 (by omega) (by omega) (by simpa using hs) (by simp [putB]))
  have H4 : Hid (∀ W, TagWr w w.heap.size k l s p n W ([] ++ putB k 1 ++ putB l 2 ++ putB s 8) → Calls Try.prog 82 #[.pointer (some ⟨w.heap.size + 1, 0, none⟩), .int .u64 (p : Int), .int .i64 1] W fun e w' => e = .returned (.pointer (some ⟨w.heap.size + 1, 0, none⟩)) ∧ TagWr w w.heap.size k l s p n w' ([] ++ putB k 1 ++ putB l 2 ++ putB s 8 ++ putB p 1)) := hid (fun W h => number_step h p 1 (by omega) (by omega) (by simpa using hp) (by simp [putB]))
  have H5 : Hid (∀ W, TagWr w w.heap.size k l s p n W ([] ++ putB k 1 ++ putB l 2 ++ putB s 8 ++ putB p 1) → Calls Try.prog 82 #[.pointer (some ⟨w.heap.size + 1, 0, none⟩), .int .u64 (n : Int), .int .i64 1] W fun e w' => e = .returned (.pointer (some ⟨w.heap.size + 1, 0, none⟩)) ∧ TagWr w w.heap.size k l s p n w' ([] ++ putB k 1 ++ putB l 2 ++ putB s 8 ++ putB p 1 ++ putB n 1)) := hid (fun W h => number_step h n 1 (by omega) (by omega) (by simpa using hn) (by simp [putB]))
  have HB : Hid (∀ W, TagWr w w.heap.size k l s p n W ([] ++ putB k 1 ++ putB l 2 ++ putB s 8 ++ putB p 1 ++ putB n 1) → Calls Try.prog 83 #[.pointer (some ⟨w.heap.size + 1, 0, none⟩)] W fun e w' => e = .returned (.tuple #[.string (mkS ([] ++ putB k 1 ++ putB l 2 ++ putB s 8 ++ putB p 1 ++ putB n 1)), .int .i64 0]) ∧ TagWr w w.heap.size k l s p n w' ([] ++ putB k 1 ++ putB l 2 ++ putB s 8 ++ putB p 1 ++ putB n 1)) := hid (fun W h => (Bytes_any _ _ _ W h.wr).mono fun e w' ⟨he, hu⟩ => ⟨he, h.quiet hu⟩)
  have HRP := hid (fun W => Repeat_any (mkS [0]) 14 W (by omega) (by simp [mkS_size]))
  have e14 : repS (mkS [0]) (14 : Int).toNat = mkS (List.replicate 14 0) := rfl
  rw [e14] at HRP
  clear e14
  have qk : IntKind.u64.wrap (k : Int) = k := by rw [IntKind.wrap_u64]; omega
  have ql : IntKind.u64.wrap (l : Int) = l := by rw [IntKind.wrap_u64]; omega
  have qp : IntKind.u64.wrap (p : Int) = p := by rw [IntKind.wrap_u64]; omega
  have qn : IntKind.u64.wrap (n : Int) = n := by rw [IntKind.wrap_u64]; omega
  have hW : TagWr w w.heap.size k l s p n ((w.alloc (.cells #[.int .u8 k, .int .i64 l, .int .u64 s, .int .i64 p, .int .i64 n] 36)).alloc (.cells #[.slice none 0 0, .bool false] 139)) [] := by
    refine ⟨⟨by omega, .slice none 0 0, ?_, World.ownsRow_nil _ _ _ _⟩, by simp, by simp [World.cell?_alloc_lt], by simp [World.cell?_alloc_lt], by simp [World.cell?_alloc_lt], by simp [World.cell?_alloc_lt], by simp [World.cell?_alloc_lt], ((Upd.refl _ _).alloc _).alloc _, Nat.le_refl _⟩
    have := Row.new (w.alloc (.cells #[.int .u8 k, .int .i64 l, .int .u64 s, .int .i64 p, .int .i64 n] 36)) [.slice none 0 0, .bool false] 139
    rw [World.size_alloc] at this; exact this
  clear hk hl hs hp hn
  go_enter Try.func67, Try.ntmps67
  go_wp2_with fail
  generalize (w.alloc (.cells #[.int .u8 k, .int .i64 l, .int .u64 s, .int .i64 p, .int .i64 n] 36)).alloc (.cells #[.slice none 0 0, .bool false] 139) = W at hW ⊢
  have hWd : TagWr w w.heap.size k l s p n W.drew [] := ⟨hW.wr, hW.sz, hW.c0, hW.c1, hW.c2, hW.c3, hW.c4, hW.upd.drew, hW.le⟩
  have d0 := hW.c0; have d1 := hW.c1; have d2 := hW.c2
  go_region_held3 (fun w' => w'.cell? ⟨w.heap.size, 0, none⟩ = some (.int .u8 k) ∧ w'.cell? ⟨w.heap.size, 1, none⟩ = some (.int .i64 l) ∧ w'.cell? ⟨w.heap.size, 2, none⟩ = some (.int .u64 s))
    (first | go_keep)
    (first
      | (go_at_call 82; (with_reducible refine (H1.out _ ?_).mono ?_); assumption; rintro e w1 ⟨rfl, hg1⟩; have k0 := hg1.c0; have k1 := hg1.c1; have k2 := hg1.c2; have k3 := hg1.c3; have k4 := hg1.c4)
      | (go_at_call 82; (with_reducible refine (H2.out _ ?_).mono ?_); assumption; rintro e w2 ⟨rfl, hg2⟩; have k0 := hg2.c0; have k1 := hg2.c1; have k2 := hg2.c2; have k3 := hg2.c3; have k4 := hg2.c4)
      | (go_at_call 82; (with_reducible refine (H3.out _ ?_).mono ?_); assumption; rintro e w3 ⟨rfl, hg3⟩; have k0 := hg3.c0; have k1 := hg3.c1; have k2 := hg3.c2; have k3 := hg3.c3; have k4 := hg3.c4))
  go_wp2_with fail
  have hWe : TagWr w w.heap.size k l s p n w3.drew ([] ++ putB k 1 ++ putB l 2 ++ putB s 8) := ⟨hg3.wr, hg3.sz, hg3.c0, hg3.c1, hg3.c2, hg3.c3, hg3.c4, hg3.upd.drew, hg3.le⟩
  clear d0 d1 d2 hW hWd
  go_region_held3 (fun w' => w'.cell? ⟨w.heap.size, 3, none⟩ = some (.int .i64 p) ∧ w'.cell? ⟨w.heap.size, 4, none⟩ = some (.int .i64 n))
    (first | go_keep)
    (first
      | (go_at_call 82; (with_reducible refine (H4.out _ ?_).mono ?_); assumption; rintro e w4 ⟨rfl, hg4⟩; have k0 := hg4.c0; have k1 := hg4.c1; have k2 := hg4.c2; have k3 := hg4.c3; have k4 := hg4.c4)
      | (go_at_call 82; (with_reducible refine (H5.out _ ?_).mono ?_); assumption; rintro e w5 ⟨rfl, hg5⟩; have k0 := hg5.c0; have k1 := hg5.c1; have k2 := hg5.c2; have k3 := hg5.c3; have k4 := hg5.c4)
      | (go_at_call 83; (with_reducible refine (HB.out _ ?_).mono ?_); assumption; rintro e w6 ⟨rfl, hg6⟩; have k0 := hg6.c0; have k1 := hg6.c1; have k2 := hg6.c2; have k3 := hg6.c3; have k4 := hg6.c4))
  have HU6 := hid hg6.upd
  have hsz : (mkS (putB k 1 ++ (putB l 2 ++ (putB s 8 ++ (putB p 1 ++ putB n 1))))).size ≤ 13 := by simp [mkS_size, putB]
  have hz14 : (mkS [0, 0, 0, 0, 0, 0, 0, 0, 0, 0, 0, 0, 0, 0]).size ≤ 14 := by simp [mkS_size]
  clear hg1 hg2 hg3 hg4 hg5 hWe k0 k1 k2 k3 k4
  go_wp2_with fail
  refine (HRP.out _).mono ?_
  rintro e w7 ⟨rfl, hu7⟩
  have HU7 := hid hu7
  clear hu7
  go_wp2_with fail
  go_ret
  refine ⟨?_, HU6.out.trans' HU7.out⟩
  have e : ({ data := #[255] } : ByteArray) ++ mkS (putB k 1 ++ (putB l 2 ++ (putB s 8 ++ (putB p 1 ++ putB n 1)))) ++ mkS [0, 0, 0, 0, 0, 0, 0, 0, 0, 0, 0, 0, 0, 0] = mkS (Tag.bytes ⟨k, l, s, p, n⟩) := by
    refine bs_inj ?_
    rw [bs_append, bs_append, bs_mkS, bs_mkS, bs_mkS]
    simp [bs, Tag.bytes, List.replicate]
  exact congrArg (fun x => Ending.returned (Value.string x)) e

end Go.Proofs.Ytljphijjcagciaa
