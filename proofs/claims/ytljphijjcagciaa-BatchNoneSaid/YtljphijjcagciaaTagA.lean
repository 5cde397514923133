/-
  The walks over a tag's bytes, and the check of a page.
  The walks over what a tag may be, the check, and a page's frame.
  The walks over a reader of fields.
  The walk over the tag that stands beside a page.
-/
import Derived.Test.YtljphijjcagciaaCurA
import Derived.Test.YtljphijjcagciaaNandA
import Derived.Deep.RegionHeld3
namespace Go.Proofs.Ytljphijjcagciaa
open Go.RowKit

theorem bs_mkS (l : List UInt8) : bs (mkS l) = l := rfl
theorem bs_append (a b : ByteArray) : bs (a ++ b) = bs a ++ bs b := by
  unfold bs
  rw [ByteArray.data_append, Array.toList_append]

/-- A tag's value. -/
def Tag.val (t : Tag) : Value := .agg #[.int .u8 t.kind, .int .i64 t.logical, .int .u64 t.seq, .int .i64 t.pos, .int .i64 t.len]

theorem wrFoot_ne {a B k : Nat} (h : k < B) (hn : k ≠ a) : ¬ wrFoot a B k := by rintro (h1 | h1) <;> omega

/-- On the way of a tag's bytes: the tag lies at T, the writer behind it. -/
structure TagWr (w : World) (T : Nat) (k l s p n : Nat) (W : World) (b : List UInt8) : Prop where
  wr : WrAt W (T + 1) (T + 2) b false
  sz : T + 2 ≤ W.heap.size
  c0 : W.cell? ⟨T, 0, none⟩ = some (.int .u8 k)
  c1 : W.cell? ⟨T, 1, none⟩ = some (.int .i64 l)
  c2 : W.cell? ⟨T, 2, none⟩ = some (.int .u64 s)
  c3 : W.cell? ⟨T, 3, none⟩ = some (.int .i64 p)
  c4 : W.cell? ⟨T, 4, none⟩ = some (.int .i64 n)
  upd : Upd noBlk w W
  le : w.heap.size ≤ T

theorem number_step {w : World} {T k l s p n : Nat} {W : World} {b : List UInt8} (h : TagWr w T k l s p n W b) (x width : Nat) (h1 : 1 ≤ width) (h8 : width ≤ 8) (hx : x < 256 ^ width) (hb : b.length ≤ 900000) :
    Calls Try.prog 82 #[.pointer (some ⟨T + 1, 0, none⟩), .int .u64 x, .int .i64 width] W fun e w' => e = .returned (.pointer (some ⟨T + 1, 0, none⟩)) ∧ TagWr w T k l s p n w' (b ++ putB x width) := by
  refine (Number_any (T + 1) (T + 2) b x width W h.wr h1 h8 hx hb h.sz).mono ?_
  rintro e w' ⟨rfl, hw, hu, hs⟩
  have hT : T < W.heap.size := by have := h.sz; omega
  have key : w'.heap[T]? = W.heap[T]? := hu.block T hT (wrFoot_ne (by omega) (by omega))
  refine ⟨rfl, hw, hs, (World.cell?_of_block key).trans h.c0, (World.cell?_of_block key).trans h.c1, (World.cell?_of_block key).trans h.c2, (World.cell?_of_block key).trans h.c3, (World.cell?_of_block key).trans h.c4, ?_, h.le⟩
  exact h.upd.trans hu (fun i hi hf => by have := h.le; rcases hf with hf | hf <;> omega)

theorem TagWr.quiet {w : World} {T k l s p n : Nat} {W W' : World} {b : List UInt8} (h : TagWr w T k l s p n W b) (hu : Upd noBlk W W') : TagWr w T k l s p n W' b := by
  obtain ⟨g1, v, g2, g3⟩ := h.wr
  exact ⟨⟨g1, v, g2.upd hu id, g3.kept (row := none) ⟨hu.os, hu.tape, hu.output, hu.size, fun k hk _ => hu.block k hk id⟩ (by cases v.ownBlock <;> simp)⟩, Nat.le_trans h.sz hu.size,
    UW.cell ⟨W', hu⟩ h.c0, UW.cell ⟨W', hu⟩ h.c1, UW.cell ⟨W', hu⟩ h.c2, UW.cell ⟨W', hu⟩ h.c3, UW.cell ⟨W', hu⟩ h.c4, h.upd.trans' hu, h.le⟩

set_option maxHeartbeats 800000 in
theorem bytes_any (k l s p n : Nat) (hk : k < 256) (hl : l < 65536) (hs : s < 18446744073709551616) (hp : p < 256) (hn : n < 256) (w : World) :
    Calls Try.prog 67 #[.agg #[.int .u8 k, .int .i64 l, .int .u64 s, .int .i64 p, .int .i64 n]] w fun e w' => e = .returned (.string (mkS (Tag.bytes ⟨k, l, s, p, n⟩))) ∧ Upd noBlk w w' := by
  have H1 : Hid (∀ W, TagWr w w.heap.size k l s p n W ([]) → Calls Try.prog 82 #[.pointer (some ⟨w.heap.size + 1, 0, none⟩), .int .u64 (k : Int), .int .i64 1] W fun e w' => e = .returned (.pointer (some ⟨w.heap.size + 1, 0, none⟩)) ∧ TagWr w w.heap.size k l s p n w' ([] ++ putB k 1)) := hid (fun W h => number_step h k 1 (by omega) (by omega) (by simpa using hk) (by simp))
  have H2 : Hid (∀ W, TagWr w w.heap.size k l s p n W ([] ++ putB k 1) → Calls Try.prog 82 #[.pointer (some ⟨w.heap.size + 1, 0, none⟩), .int .u64 (l : Int), .int .i64 2] W fun e w' => e = .returned (.pointer (some ⟨w.heap.size + 1, 0, none⟩)) ∧ TagWr w w.heap.size k l s p n w' ([] ++ putB k 1 ++ putB l 2)) := hid (fun W h => number_step h l 2 (by omega) (by omega) (by simpa using hl) (by simp [putB]))
  have H3 : Hid (∀ W, TagWr w w.heap.size k l s p n W ([] ++ putB k 1 ++ putB l 2) → Calls Try.prog 82 #[.pointer (some ⟨w.heap.size + 1, 0, none⟩), .int .u64 (s : Int), .int .i64 8] W fun e w' => e = .returned (.pointer (some ⟨w.heap.size + 1, 0, none⟩)) ∧ TagWr w w.heap.size k l s p n w' ([] ++ putB k 1 ++ putB l 2 ++ putB s 8)) := hid (fun W h => number_step h s 8 (by omega) (by omega) (by simpa using hs) (by simp [putB]))
  have H4 : Hid (∀ W, TagWr w w.heap.size k l s p n W ([] ++ putB k 1 ++ putB l 2 ++ putB s 8) → Calls Try.prog 82 #[.pointer (some ⟨w.heap.size + 1, 0, none⟩), .int .u64 (p : Int), .int .i64 1] W fun e w' => e = .returned (.pointer (some ⟨w.heap.size + 1, 0, none⟩)) ∧ TagWr w w.heap.size k l s p n w' ([] ++ putB k 1 ++ putB l 2 ++ putB s 8 ++ putB p 1)) := hid (fun W h => number_step h p 1 (by omega) (by omega) (by simpa using hp) (by simp [putB]))
  have H5 : Hid (∀ W, TagWr w w.heap.size k l s p n W ([] ++ putB k 1 ++ putB l 2 ++ putB s 8 ++ putB p 1) → Calls Try.prog 82 #[.pointer (some ⟨w.heap.size + 1, 0, none⟩), .int .u64 (n : Int), .int .i64 1] W fun e w' => e = .returned (.pointer (some ⟨w.heap.size + 1, 0, none⟩)) ∧ TagWr w w.heap.size k l s p n w' ([] ++ putB k 1 ++ putB l 2 ++ putB s 8 ++ putB p 1 ++ putB n 1)) := hid (fun W h => number_step h n 1 (by omega) (by omega) (by simpa using hn) (by simp [putB]))
  have HB : Hid (∀ W, TagWr w w.heap.size k l s p n W ([] ++ putB k 1 ++ putB l 2 ++ putB s 8 ++ putB p 1 ++ putB n 1) → Calls Try.prog 83 #[.pointer (some ⟨w.heap.size + 1, 0, none⟩)] W fun e w' => e = .returned (.tuple #[.string (mkS ([] ++ putB k 1 ++ putB l 2 ++ putB s 8 ++ putB p 1 ++ putB n 1)), .int .i64 0]) ∧ TagWr w w.heap.size k l s p n w' ([] ++ putB k 1 ++ putB l 2 ++ putB s 8 ++ putB p 1 ++ putB n 1)) := hid (fun W h => (Bytes_any _ _ _ W h.wr).mono fun e w' ⟨he, hu⟩ => ⟨he, h.quiet hu⟩)
  have HRP := hid (fun W => Repeat_any (mkS [0]) 14 W (by omega) (by simp [mkS_size]))
  have e14 : repS (mkS [0]) (14 : Int).toNat = mkS (List.replicate 14 0) := rfl
  rw [e14] at HRP
  clear e14
  have qk : IntKind.u64.wrap (k : Int) = k := by rw [IntKind.wrap_u64]; omega
  have ql : IntKind.u64.wrap (l : Int) = l := by rw [IntKind.wrap_u64]; omega
  have qp : IntKind.u64.wrap (p : Int) = p := by rw [IntKind.wrap_u64]; omega
  have qn : IntKind.u64.wrap (n : Int) = n := by rw [IntKind.wrap_u64]; omega
  have hW : TagWr w w.heap.size k l s p n ((w.alloc (.cells #[.int .u8 k, .int .i64 l, .int .u64 s, .int .i64 p, .int .i64 n] 36)).alloc (.cells #[.slice none 0 0, .bool false] 139)) [] := by
    refine ⟨⟨by omega, .slice none 0 0, ?_, World.ownsRow_nil _ _ _ _⟩, by simp, by simp [World.cell?_alloc_lt], by simp [World.cell?_alloc_lt], by simp [World.cell?_alloc_lt], by simp [World.cell?_alloc_lt], by simp [World.cell?_alloc_lt], ((Upd.refl _ _).alloc _).alloc _, Nat.le_refl _⟩
    have := Row.new (w.alloc (.cells #[.int .u8 k, .int .i64 l, .int .u64 s, .int .i64 p, .int .i64 n] 36)) [.slice none 0 0, .bool false] 139
    rw [World.size_alloc] at this; exact this
  clear hk hl hs hp hn
  go_enter Try.func67, Try.ntmps67
  go_wp2_with fail
  generalize (w.alloc (.cells #[.int .u8 k, .int .i64 l, .int .u64 s, .int .i64 p, .int .i64 n] 36)).alloc (.cells #[.slice none 0 0, .bool false] 139) = W at hW ⊢
  have hWd : TagWr w w.heap.size k l s p n W.drew [] := ⟨hW.wr, hW.sz, hW.c0, hW.c1, hW.c2, hW.c3, hW.c4, hW.upd.drew, hW.le⟩
  have d0 := hW.c0; have d1 := hW.c1; have d2 := hW.c2
  go_region_held3 (fun w' => w'.cell? ⟨w.heap.size, 0, none⟩ = some (.int .u8 k) ∧ w'.cell? ⟨w.heap.size, 1, none⟩ = some (.int .i64 l) ∧ w'.cell? ⟨w.heap.size, 2, none⟩ = some (.int .u64 s))
    (first | go_keep)
    (first
      | (go_at_call 82; (with_reducible refine (H1.out _ ?_).mono ?_); assumption; rintro e w1 ⟨rfl, hg1⟩; have k0 := hg1.c0; have k1 := hg1.c1; have k2 := hg1.c2; have k3 := hg1.c3; have k4 := hg1.c4)
      | (go_at_call 82; (with_reducible refine (H2.out _ ?_).mono ?_); assumption; rintro e w2 ⟨rfl, hg2⟩; have k0 := hg2.c0; have k1 := hg2.c1; have k2 := hg2.c2; have k3 := hg2.c3; have k4 := hg2.c4)
      | (go_at_call 82; (with_reducible refine (H3.out _ ?_).mono ?_); assumption; rintro e w3 ⟨rfl, hg3⟩; have k0 := hg3.c0; have k1 := hg3.c1; have k2 := hg3.c2; have k3 := hg3.c3; have k4 := hg3.c4))
  go_wp2_with fail
  have hWe : TagWr w w.heap.size k l s p n w3.drew ([] ++ putB k 1 ++ putB l 2 ++ putB s 8) := ⟨hg3.wr, hg3.sz, hg3.c0, hg3.c1, hg3.c2, hg3.c3, hg3.c4, hg3.upd.drew, hg3.le⟩
  clear d0 d1 d2 hW hWd
  go_region_held3 (fun w' => w'.cell? ⟨w.heap.size, 3, none⟩ = some (.int .i64 p) ∧ w'.cell? ⟨w.heap.size, 4, none⟩ = some (.int .i64 n))
    (first | go_keep)
    (first
      | (go_at_call 82; (with_reducible refine (H4.out _ ?_).mono ?_); assumption; rintro e w4 ⟨rfl, hg4⟩; have k0 := hg4.c0; have k1 := hg4.c1; have k2 := hg4.c2; have k3 := hg4.c3; have k4 := hg4.c4)
      | (go_at_call 82; (with_reducible refine (H5.out _ ?_).mono ?_); assumption; rintro e w5 ⟨rfl, hg5⟩; have k0 := hg5.c0; have k1 := hg5.c1; have k2 := hg5.c2; have k3 := hg5.c3; have k4 := hg5.c4)
      | (go_at_call 83; (with_reducible refine (HB.out _ ?_).mono ?_); assumption; rintro e w6 ⟨rfl, hg6⟩; have k0 := hg6.c0; have k1 := hg6.c1; have k2 := hg6.c2; have k3 := hg6.c3; have k4 := hg6.c4))
  have HU6 := hid hg6.upd
  have hsz : (mkS (putB k 1 ++ (putB l 2 ++ (putB s 8 ++ (putB p 1 ++ putB n 1))))).size ≤ 13 := by simp [mkS_size, putB]
  have hz14 : (mkS [0, 0, 0, 0, 0, 0, 0, 0, 0, 0, 0, 0, 0, 0]).size ≤ 14 := by simp [mkS_size]
  clear hg1 hg2 hg3 hg4 hg5 hWe k0 k1 k2 k3 k4
  go_wp2_with fail
  refine (HRP.out _).mono ?_
  rintro e w7 ⟨rfl, hu7⟩
  have HU7 := hid hu7
  clear hu7
  go_wp2_with fail
  go_ret
  refine ⟨?_, HU6.out.trans' HU7.out⟩
  have e : ({ data := #[255] } : ByteArray) ++ mkS (putB k 1 ++ (putB l 2 ++ (putB s 8 ++ (putB p 1 ++ putB n 1)))) ++ mkS [0, 0, 0, 0, 0, 0, 0, 0, 0, 0, 0, 0, 0, 0] = mkS (Tag.bytes ⟨k, l, s, p, n⟩) := by
    refine bs_inj ?_
    rw [bs_append, bs_append, bs_mkS, bs_mkS, bs_mkS]
    simp [bs, Tag.bytes, List.replicate]
  exact congrArg (fun x => Ending.returned (Value.string x)) e

end Go.Proofs.Ytljphijjcagciaa

namespace Go.Proofs.Ytljphijjcagciaa
open Go.RowKit

theorem TagRight_any (t : Tag) (w : World) :
    Calls Try.prog 46 #[t.val] w fun e w' => e = .returned (.bool t.right) ∧ Upd noBlk w w' := by
  obtain ⟨k, l, s, p, n⟩ := t
  unfold Tag.val
  go_enter Try.func46, Try.ntmps46
  go_wp2_with fail
  all_goals
    go_ret
    refine ⟨ret_bool ?_, (Upd.refl _ _).alloc _⟩
    rw [Bool.eq_iff_iff]
    simp [Tag.right]
    omega

theorem sum_any (d off : Nat) (data beside : ByteArray) (h1 : data.size ≤ 100000) (h2 : beside.size ≤ 100000) (w : World) (ht : TabAt w d off) :
    Calls Try.prog 68 #[.pointer (some ⟨d, off, none⟩), .string data, .string beside] w fun e w' => e = .returned (.string (mkS (sumB data beside))) ∧ Upd noBlk w w' := by
  obtain ⟨x0, x1⟩ := crcMore_range (y := 4294967295) ⟨by omega, by omega⟩ (bs data)
  obtain ⟨y0, y1⟩ := crcMore_range ⟨x0, x1⟩ (bs beside)
  have H1 := hid (fun W (h : TabAt W d off) => More_any d off 4294967295 data h1 (by omega) (by omega) W h)
  have H2 := hid (fun W (h : TabAt W d off) => More_any d off _ beside h2 x0 x1 W h)
  have H3 := hid (fun W => Last_any (crcMore (crcMore 4294967295 (bs data)) (bs beside)) W)
  obtain ⟨z0, z1⟩ := bits_u32 .xor 4294967295 (crcMore (crcMore 4294967295 (bs data)) (bs beside))
  have hcr : crcLast (crcMore (crcMore 4294967295 (bs data)) (bs beside)) = crcOf data beside := rfl
  have hcr2 : bits .xor .u32 4294967295 (crcMore (crcMore 4294967295 (bs data)) (bs beside)) = crcOf data beside := rfl
  rw [hcr] at H3
  rw [hcr2] at z0 z1
  obtain ⟨N, hN⟩ : ∃ N : Nat, crcOf data beside = (N : Int) := ⟨(crcOf data beside).toNat, by omega⟩
  have H4 := hid (fun W => Put_any N 4 (by omega) (by omega) (by omega) W)
  have hsum : sumB data beside = putB N 4 := by unfold sumB; rw [hN]; rfl
  rw [hN] at H3 z0 z1
  rw [hsum]
  generalize crcMore 4294967295 (bs data) = X at *
  generalize crcMore X (bs beside) = Y at *
  clear hcr hcr2 hN hsum
  have HT := hid ht; clear ht
  go_enter Try.func68, Try.ntmps68
  go_wp2_with fail
  refine (First_any _).mono ?_; rintro e w1 ⟨rfl, rfl⟩
  go_wp2_with fail
  refine (H1.out _ HT.out).mono ?_; rintro e w1 ⟨rfl, m1, rfl⟩
  go_wp2_with fail
  refine (H2.out (w.drewN m1) HT.out).mono ?_; rintro e w1 ⟨rfl, m2, rfl⟩
  go_wp2_with fail
  refine (H3.out _).mono ?_; rintro e w1 ⟨rfl, rfl⟩
  go_wp2_with fail
  refine (H4.out _).mono ?_; rintro e w1 ⟨rfl, hu⟩
  have HU := hid hu; clear hu
  go_wp2_with fail
  go_ret
  exact ⟨rfl, ((Upd.refl _ _).drewN _).trans' HU.out⟩


theorem Tag.right_iff {t : Tag} : t.right = true ↔ 1 ≤ t.kind ∧ t.kind ≤ 3 ∧ 0 ≤ t.logical ∧ t.logical ≤ 65535 ∧ 1 ≤ t.len ∧ t.len ≤ 255 ∧ 0 ≤ t.pos ∧ t.pos < t.len := by
  simp [Tag.right, and_assoc]
theorem Tag.bytes_length (t : Tag) : t.bytes.length = 28 := by simp [Tag.bytes, putB]

theorem TagBytes_any (t : Tag) (h : t.right = true) (hs : 0 ≤ t.seq ∧ t.seq ≤ 18446744073709551615) (w : World) :
    Calls Try.prog 67 #[t.val] w fun e w' => e = .returned (.string (mkS t.bytes)) ∧ Upd noBlk w w' := by
  obtain ⟨r1, r2, r3, r4, r5, r6, r7, r8⟩ := Tag.right_iff.1 h
  obtain ⟨k, l, s, p, n⟩ := t
  simp only at *
  obtain ⟨k, rfl⟩ : ∃ k' : Nat, k = k' := ⟨k.toNat, by omega⟩
  obtain ⟨l, rfl⟩ : ∃ k' : Nat, l = k' := ⟨l.toNat, by omega⟩
  obtain ⟨s, rfl⟩ : ∃ k' : Nat, s = k' := ⟨s.toNat, by omega⟩
  obtain ⟨p, rfl⟩ : ∃ k' : Nat, p = k' := ⟨p.toNat, by omega⟩
  obtain ⟨n, rfl⟩ : ∃ k' : Nat, n = k' := ⟨n.toNat, by omega⟩
  exact bytes_any k l s p n (by omega) (by omega) (by omega) (by omega) (by omega) w

theorem Upd.tab {w w' : World} {d off : Nat} (hu : Upd noBlk w w') (h : TabAt w d off) : TabAt w' d off := fun j hj => hu.cell0 (h j hj)

theorem Frame_bad (d off : Nat) (t : Tag) (data : ByteArray) (w : World) (h : t.right = false) :
    Calls Try.prog 40 #[.pointer (some ⟨d, off, none⟩), t.val, .string data] w fun e w' => e = .returned (.tuple #[.string (mkS []), .int .i64 2]) ∧ Upd noBlk w w' := by
  have HR := hid (fun w => TagRight_any t w)
  rw [h] at HR
  obtain ⟨k, l, s, p, n⟩ := t
  unfold Tag.val at *
  clear h
  go_enter Try.func40, Try.ntmps40
  go_wp2_with fail
  refine (HR.out _).mono ?_; rintro e w1 ⟨rfl, hu⟩
  have HU := hid hu; clear hu
  go_wp2_with fail
  go_ret2
  exact ⟨rfl, ((Upd.refl _ _).alloc _).trans' HU.out⟩

theorem Frame_good (d off : Nat) (t : Tag) (data : ByteArray) (hd : data.size ≤ 100000) (w : World) (h : t.right = true) (hs : 0 ≤ t.seq ∧ t.seq ≤ 18446744073709551615) (ht : TabAt w d off) :
    Calls Try.prog 40 #[.pointer (some ⟨d, off, none⟩), t.val, .string data] w fun e w' => e = .returned (.tuple #[.string (t.beside data), .int .i64 0]) ∧ Upd noBlk w w' := by
  have HR := hid (fun w => TagRight_any t w)
  rw [h] at HR
  have HB := hid (fun w => TagBytes_any t h hs w)
  have hsz : (mkS t.bytes).size = 28 := by rw [mkS_size, Tag.bytes_length]
  have HSM := hid (fun W (hW : TabAt W d off) => sum_any d off data (mkS t.bytes) hd (by omega) W hW)
  have hss : (mkS (sumB data (mkS t.bytes))).size = 4 := by rw [mkS_size, sumB, putB_length]
  have hbe : t.beside data = mkS t.bytes ++ mkS (sumB data (mkS t.bytes)) := bs_inj (by rw [bs_append]; rfl)
  have HT := hid ht
  generalize mkS (sumB data (mkS t.bytes)) = SS at *
  generalize mkS t.bytes = TB at *
  have HBE := hid hbe
  have z1 : TB.size ≤ 28 := by omega
  have z2 : SS.size ≤ 4 := by omega
  clear hbe h hs ht hsz hss
  obtain ⟨k, l, s, p, n⟩ := t
  unfold Tag.val at *
  go_enter Try.func40, Try.ntmps40
  go_wp2_with fail
  refine (HR.out _).mono ?_; rintro e w1 ⟨rfl, hu⟩
  have e0 : w1.cell? ⟨w.heap.size, 0, none⟩ = some (.int .u8 k) := hu.cell0 (by simp)
  have e1 : w1.cell? ⟨w.heap.size, 1, none⟩ = some (.int .i64 l) := hu.cell0 (by simp)
  have e2 : w1.cell? ⟨w.heap.size, 2, none⟩ = some (.int .u64 s) := hu.cell0 (by simp)
  have e3 : w1.cell? ⟨w.heap.size, 3, none⟩ = some (.int .i64 p) := hu.cell0 (by simp)
  have e4 : w1.cell? ⟨w.heap.size, 4, none⟩ = some (.int .i64 n) := hu.cell0 (by simp)
  have HU := hid (((Upd.refl noBlk w).alloc (.cells #[.int .u8 k, .int .i64 l, .int .u64 s, .int .i64 p, .int .i64 n] 36)).trans' hu); clear hu
  go_wp2_with fail
  refine (HB.out _).mono ?_; rintro e w2 ⟨rfl, hu2⟩
  have HU2 := hid (HU.out.trans' hu2); clear hu2
  go_wp2_with fail
  refine (HSM.out _ (HU2.out.tab HT.out)).mono ?_; rintro e w3 ⟨rfl, hu3⟩
  have HU3 := hid hu3; clear hu3
  go_wp2_with fail
  go_ret2
  exact ⟨by rw [HBE.out]; rfl, HU2.out.trans' HU3.out⟩

end Go.Proofs.Ytljphijjcagciaa

namespace Go.Proofs.Ytljphijjcagciaa
open Go.RowKit

theorem or_add (y : Nat) (b : Nat) (hb : b < 256) : y * 256 ||| b = y * 256 + b := by
  have := Nat.two_pow_add_eq_or_of_lt (i := 8) (b := b) (by simpa using hb) y
  rw [Nat.mul_comm y 256]
  simpa using this.symm

theorem getB_snoc (l : List UInt8) (b : UInt8) : getB (l ++ [b]) = (getB l * 256 + b.toNat) % 18446744073709551616 := by simp [getB]
theorem getB_lt : ∀ (l : List UInt8), getB l < 18446744073709551616 := by
  intro l
  rcases List.eq_nil_or_concat l with rfl | ⟨l', b, rfl⟩
  · simp [getB]
  · rw [List.concat_eq_append, getB_snoc]; omega

theorem Get_any (s : ByteArray) (hs : s.size ≤ 1000000) (w : World) :
    Calls Try.prog 102 #[.string s] w fun e w' => e = .returned (.int .u64 (getB (bs s) : Nat)) ∧ w = w' := by
  go_enter Try.func102, Try.ntmps102
  go_wp2_with fail
  go_loop [3, 7] (fun n i => ∃ k : Nat, k ≤ s.size ∧ i = .int .i64 k ∧ n = .int .u64 (getB ((bs s).take k) : Nat)) (fun _ i => s.size - (intOf i).toNat)
  case atStart => exact ⟨0, by omega, rfl, rfl⟩
  case round =>
    obtain ⟨k, hk, rfl, rfl⟩ := hrel
    by_cases hlt : k < s.size
    · have hl : k < (bs s).length := by rw [bs_len]; exact hlt
      have hsn : (bs s).take (k + 1) = (bs s).take k ++ [s[k]] := by rw [List.take_succ_eq_append_getElem hl]; rfl
      have hnx := getB_snoc ((bs s).take k) s[k]
      rw [← hsn] at hnx
      have hy := getB_lt ((bs s).take k)
      have hb : s[k].toNat < 256 := UInt8.toNat_lt _
      generalize getB ((bs s).take k) = y at *
      have hor : bits .or .u64 (IntKind.u64.wrap ((y : Int) * 256)) (s[k].toNat : Int) = (getB ((bs s).take (k + 1)) : Nat) := by
        rw [IntKind.wrap_u64]
        have e : (y : Int) * 256 % 18446744073709551616 = ((y * 256 % 18446744073709551616 : Nat) : Int) := by omega
        rw [e, bits_or_u64_nat _ _ (Nat.mod_lt _ (by omega)) (by omega), hnx]
        have e2 : y * 256 % 18446744073709551616 = (y % 72057594037927936) * 256 := by omega
        rw [e2, or_add _ _ hb]
        omega
      have HO := hid hor
      clear hsn hnx hor
      go_wp2_with fail
      exact ⟨⟨k + 1, by omega, by go_num, congrArg (Value.int .u64) HO.out⟩, by simp [intOf]; omega⟩
    · go_wp2_with fail
      go_ret
      have e : k = s.size := by omega
      subst e
      exact ⟨by rw [List.take_of_length_le (by rw [bs_len]; omega)]; rfl, rfl⟩


/-- A reader at a has this left. -/
def RdAt (w : World) (a : Nat) (left : ByteArray) (wrong : Bool) : Prop := Row w a 159 [.string left, .bool wrong]
def at1 (a : Nat) (k : Nat) : Prop := k = a

theorem fail_any (a : Nat) (left : ByteArray) (wrong : Bool) (w : World) (h : RdAt w a left wrong) :
    Calls Try.prog 103 #[.pointer (some ⟨a, 0, none⟩)] w fun e w' => e = .returned (.tuple #[]) ∧ RdAt w' a (mkS []) true ∧ Upd (at1 a) w w' := by
  have c0 := h.cell 0; have c1 := h.cell 1
  simp only [List.getElem?_cons_zero, List.getElem?_cons_succ] at c0 c1
  have f0 := h.frozen 0; have f1 := h.frozen 1
  have g := (h.put (cs' := [.string left, .bool true]) 1 (.bool true) rfl).put (cs' := [.string (mkS []), .bool true]) 0 (.string (mkS [])) rfl
  have G := hid g; clear g h
  go_enter Try.func103, Try.ntmps103
  go_wp2_with fail
  go_end0
  exact ⟨rfl, G.out, ((Upd.refl (at1 a) w).setCell (p := ⟨a, 1, none⟩) (.inl (show at1 a a from rfl)) _).setCell (p := ⟨a, 0, none⟩) (.inl (show at1 a a from rfl)) _⟩

/-- As many bytes are there. -/
theorem take_yes (a : Nat) (left : ByteArray) (n : Nat) (hn : n ≤ left.size) (_hs : left.size ≤ 1000000) (w : World) (h : RdAt w a left false) :
    Calls Try.prog 101 #[.pointer (some ⟨a, 0, none⟩), .int .i64 n] w fun e w' => e = .returned (.tuple #[.string (left.extract 0 n), .bool true]) ∧ RdAt w' a (left.extract n left.size) false ∧ Upd (at1 a) w w' := by
  have c0 := h.cell 0; have c1 := h.cell 1
  simp only [List.getElem?_cons_zero, List.getElem?_cons_succ] at c0 c1
  have f0 := h.frozen 0; have f1 := h.frozen 1
  have g := h.put (cs' := [.string (left.extract n left.size), .bool false]) 0 (.string (left.extract n left.size)) rfl
  have G := hid g; clear g h
  go_enter Try.func101, Try.ntmps101
  go_wp2_with fail
  go_ret2
  exact ⟨rfl, G.out, (Upd.refl (at1 a) w).setCell (p := ⟨a, 0, none⟩) (.inl (show at1 a a from rfl)) _⟩

/-- They aren't. -/
theorem take_no (a : Nat) (left : ByteArray) (wrong : Bool) (n : Int) (hn : wrong = true ∨ n < 0 ∨ (left.size : Int) < n) (_hs : left.size ≤ 1000000) (w : World) (h : RdAt w a left wrong) :
    Calls Try.prog 101 #[.pointer (some ⟨a, 0, none⟩), .int .i64 n] w fun e w' => e = .returned (.tuple #[.string (mkS []), .bool false]) ∧ RdAt w' a (mkS []) true ∧ Upd (at1 a) w w' := by
  have c0 := h.cell 0; have c1 := h.cell 1
  simp only [List.getElem?_cons_zero, List.getElem?_cons_succ] at c0 c1
  have HF := hid (fail_any a left wrong w h)
  clear h
  cases wrong
  · have hn' : n < 0 ∨ (left.size : Int) < n := hn.resolve_left (by simp)
    clear hn
    rcases hn' with hn | hn
    all_goals
      go_enter Try.func101, Try.ntmps101
      go_wp2_with (go_at_call 103; refine HF.out.mono ?_; rintro e w1 ⟨rfl, hr, hu⟩; have HR := hid hr; have HU := hid hu; clear hr hu)
      all_goals
        go_ret2
        exact ⟨rfl, HR.out, HU.out⟩
  · clear hn
    go_enter Try.func101, Try.ntmps101
    go_wp2_with fail
    refine HF.out.mono ?_; rintro e w1 ⟨rfl, hr, hu⟩
    have HR := hid hr; have HU := hid hu; clear hr hu
    go_wp2_with fail
    go_ret2
    exact ⟨rfl, HR.out, HU.out⟩


theorem RNumber_yes (a : Nat) (left : ByteArray) (n : Nat) (h1 : 1 ≤ n) (h8 : n ≤ 8) (hn : n ≤ left.size) (hs : left.size ≤ 1000000) (w : World) (h : RdAt w a left false) :
    Calls Try.prog 99 #[.pointer (some ⟨a, 0, none⟩), .int .i64 n] w fun e w' => e = .returned (.int .u64 (getB ((bs left).take n) : Nat)) ∧ RdAt w' a (left.extract n left.size) false ∧ Upd (at1 a) w w' := by
  have HF := hid (fun w => Fits_yes 0 n h1 h8 (Nat.pow_pos (by omega)) w)
  have HT := hid (take_yes a left n hn hs w h)
  have hb : bs (left.extract 0 n) = (bs left).take n := by
    unfold bs
    rw [ByteArray.data_extract]
    simp
  have HG := hid (fun w => Get_any (left.extract 0 n) (by rw [ByteArray.size_extract]; omega) w)
  rw [hb] at HG
  clear h hb
  go_enter Try.func99, Try.ntmps99
  go_wp2_with fail
  refine (HF.out _).mono ?_; rintro e w1 ⟨rfl, rfl⟩
  go_wp2_with fail
  refine HT.out.mono ?_; rintro e w1 ⟨rfl, hr, hu⟩
  have HR := hid hr; have HU := hid hu; clear hr hu
  go_wp2_with fail
  refine (HG.out _).mono ?_; rintro e w2 ⟨rfl, rfl⟩
  go_wp2_with fail
  go_ret
  exact ⟨rfl, HR.out, HU.out⟩

theorem Read_new (s : ByteArray) (w : World) :
    Calls Try.prog 98 #[.string s] w fun e w' => e = .returned (.pointer (some ⟨w.heap.size, 0, none⟩)) ∧ RdAt w' w.heap.size s false ∧ w'.heap.size = w.heap.size + 1 ∧ Upd noBlk w w' := by
  go_enter Try.func98, Try.ntmps98
  go_wp2_with fail
  go_ret
  exact ⟨rfl, Row.new w [.string s, .bool false] _, by simp, (Upd.refl _ _).alloc _⟩

end Go.Proofs.Ytljphijjcagciaa

namespace Go.Proofs.Ytljphijjcagciaa
open Go.RowKit

theorem bs_extract (s : ByteArray) (a b : Nat) : bs (s.extract a b) = ((bs s).drop a).take (b - a) := by
  unfold bs
  rw [ByteArray.data_extract, Array.toList_extract, List.extract_eq_take_drop]
theorem getB_fold : ∀ (l : List UInt8) (n m : Nat), n < 256 ^ m → m + l.length ≤ 8 → l.foldl (fun n b => (n * 256 + b.toNat) % 18446744073709551616) n < 256 ^ (m + l.length)
  | [], n, m, h, _ => h
  | b :: l, n, m, h, h8 => by
    have hb : b.toNat < 256 := UInt8.toNat_lt _
    simp only [List.length_cons] at h8 ⊢
    have := getB_fold l ((n * 256 + b.toNat) % 18446744073709551616) (m + 1) (Nat.lt_of_le_of_lt (Nat.mod_le _ _) (by rw [Nat.pow_succ]; omega)) (by omega)
    rw [show m + (l.length + 1) = m + 1 + l.length by omega]
    exact this
theorem getB_le (l : List UInt8) (h : l.length ≤ 8) : getB l < 256 ^ l.length := by
  have := getB_fold l 0 0 (by simp) (by omega)
  rw [Nat.zero_add] at this
  exact this

theorem read_any (s : ByteArray) (hs : s.size = 32) (w : World) :
    Calls Try.prog 88 #[.string s] w fun e w' => e = .returned (Tag.read (bs s)).val ∧ Upd noBlk w w' := by
  have hlen : (bs s).length = 32 := by rw [bs_len]; exact hs
  have l0 : (s.extract 1 s.size).size = 31 := by rw [ByteArray.size_extract]; omega
  have b0 : bs (s.extract 1 s.size) = (bs s).drop 1 := by rw [bs_extract, List.take_of_length_le (by simp [hlen, hs])]
  generalize hs0 : s.extract 1 s.size = s0 at l0 b0
  have HS0 := hid hs0; clear hs0
  have l1 : (s0.extract 1 s0.size).size = 30 := by rw [ByteArray.size_extract]; omega
  have b1 : bs (s0.extract 1 s0.size) = (bs s).drop 2 := by rw [bs_extract, b0, List.drop_drop, List.take_of_length_le (by simp [hlen, l0])]
  have H1 := hid (fun a W (h : RdAt W a s0 false) => RNumber_yes a s0 1 (by omega) (by omega) (by omega) (by omega) W h)
  generalize s0.extract 1 s0.size = s1 at l1 b1 H1
  have l2 : (s1.extract 2 s1.size).size = 28 := by rw [ByteArray.size_extract]; omega
  have b2 : bs (s1.extract 2 s1.size) = (bs s).drop 4 := by rw [bs_extract, b1, List.drop_drop, List.take_of_length_le (by simp [hlen, l1])]
  have H2 := hid (fun a W (h : RdAt W a s1 false) => RNumber_yes a s1 2 (by omega) (by omega) (by omega) (by omega) W h)
  generalize s1.extract 2 s1.size = s2 at l2 b2 H2
  have l3 : (s2.extract 8 s2.size).size = 20 := by rw [ByteArray.size_extract]; omega
  have b3 : bs (s2.extract 8 s2.size) = (bs s).drop 12 := by rw [bs_extract, b2, List.drop_drop, List.take_of_length_le (by simp [hlen, l2])]
  have H3 := hid (fun a W (h : RdAt W a s2 false) => RNumber_yes a s2 8 (by omega) (by omega) (by omega) (by omega) W h)
  generalize s2.extract 8 s2.size = s3 at l3 b3 H3
  have l4 : (s3.extract 1 s3.size).size = 19 := by rw [ByteArray.size_extract]; omega
  have b4 : bs (s3.extract 1 s3.size) = (bs s).drop 13 := by rw [bs_extract, b3, List.drop_drop, List.take_of_length_le (by simp [hlen, l3])]
  have H4 := hid (fun a W (h : RdAt W a s3 false) => RNumber_yes a s3 1 (by omega) (by omega) (by omega) (by omega) W h)
  generalize s3.extract 1 s3.size = s4 at l4 b4 H4
  have H5 := hid (fun a W (h : RdAt W a s4 false) => RNumber_yes a s4 1 (by omega) (by omega) (by omega) (by omega) W h)
  rw [b0] at H1; rw [b1] at H2; rw [b2] at H3; rw [b3] at H4; rw [b4] at H5
  have m1 := getB_le (((bs s).drop 1).take 1) (by simp [hlen])
  have m2 := getB_le (((bs s).drop 2).take 2) (by simp [hlen])
  have m4 := getB_le (((bs s).drop 12).take 1) (by simp [hlen])
  have m5 := getB_le (((bs s).drop 13).take 1) (by simp [hlen])
  simp only [List.length_take, List.length_drop, hlen] at m1 m2 m4 m5
  have m1' : getB (((bs s).drop 1).take 1) < 256 := m1
  have m2' : getB (((bs s).drop 2).take 2) < 65536 := m2
  have m4' : getB (((bs s).drop 12).take 1) < 256 := m4
  have m5' : getB (((bs s).drop 13).take 1) < 256 := m5
  have hv : (Tag.read (bs s)).val = .agg #[.int .u8 (getB (((bs s).drop 1).take 1) : Nat), .int .i64 (getB (((bs s).drop 2).take 2) : Nat), .int .u64 (getB (((bs s).drop 4).take 8) : Nat), .int .i64 (getB (((bs s).drop 12).take 1) : Nat), .int .i64 (getB (((bs s).drop 13).take 1) : Nat)] := rfl
  rw [hv]
  generalize getB (((bs s).drop 1).take 1) = n1 at *
  generalize getB (((bs s).drop 2).take 2) = n2 at *
  generalize getB (((bs s).drop 4).take 8) = n3 at *
  generalize getB (((bs s).drop 12).take 1) = n4 at *
  generalize getB (((bs s).drop 13).take 1) = n5 at *
  clear m1 m2 m4 m5 b0 b1 b2 b3 b4 l0 l1 l2 l3 l4 hlen hv
  have HRD := hid (fun W => Read_new s0 W)
  have HS := hid hs; clear hs
  have hs1 : (s.size : Int) = 32 := by rw [HS.out]; rfl
  go_enter Try.func88, Try.ntmps88
  go_wp2_with fail
  rw [HS0.out]
  refine (HRD.out _).mono ?_
  rintro e w1 ⟨rfl, hr1, hz1, hu1⟩
  rw [World.size_alloc] at hr1 hz1
  rw [World.size_alloc]
  have R1 := hid ((Row.new w [.int .u8 0, .int .i64 0, .int .u64 0, .int .i64 0, .int .i64 0] 36).upd hu1 id)
  have HU1 := hid (((Upd.refl noBlk w).alloc _).trans' hu1); clear hu1
  have HZ1 := hid hz1; clear hz1
  go_wp2_with fail
  refine (H1.out _ _ hr1).mono ?_
  rintro e w2 ⟨rfl, hr2, hu2⟩
  have R2 := hid (R1.out.upd hu2 (fun e => by have : w.heap.size = w.heap.size + 1 := e; omega))
  have HU2 := hid (HU1.out.trans hu2 (fun i hi hk => by have : i = w.heap.size + 1 := hk; omega)); have HX2 := hid hu2; clear hu2 hr1
  go_wp2_with fail
  refine (H2.out _ _ hr2).mono ?_
  rintro e w3 ⟨rfl, hr3, hu3⟩
  have R3 := hid (R2.out.upd hu3 (fun e => by have : w.heap.size = w.heap.size + 1 := e; omega))
  have HU3 := hid (HU2.out.trans hu3 (fun i hi hk => by have : i = w.heap.size + 1 := hk; omega)); have HX3 := hid hu3; clear hu3 hr2
  go_wp2_with fail
  refine (H3.out _ _ hr3).mono ?_
  rintro e w4 ⟨rfl, hr4, hu4⟩
  have R4 := hid (R3.out.upd hu4 (fun e => by have : w.heap.size = w.heap.size + 1 := e; omega))
  have HU4 := hid (HU3.out.trans hu4 (fun i hi hk => by have : i = w.heap.size + 1 := hk; omega)); have HX4 := hid hu4; clear hu4 hr3
  have z4 : w.heap.size + 2 ≤ w4.heap.size := by have := HZ1.out; have := HX2.out.size; have := HX3.out.size; have := HX4.out.size; omega
  have r5 : RdAt (w4.alloc (.cells #[.int .u8 n1, .int .i64 n2, .int .u64 n3, .int .i64 0, .int .i64 0] 36)) (w.heap.size + 1) s3 false := hr4.alloc _
  clear hr4
  go_wp2_with fail
  refine (H4.out _ _ r5).mono ?_
  rintro e w5 ⟨rfl, hr5, hu5⟩
  have T5 : Row w5 w4.heap.size 36 [.int .u8 n1, .int .i64 n2, .int .u64 n3, .int .i64 0, .int .i64 0] := (Row.new w4 [.int .u8 n1, .int .i64 n2, .int .u64 n3, .int .i64 0, .int .i64 0] _).upd hu5 (fun e => by have : w4.heap.size = w.heap.size + 1 := e; omega)
  have R5 := hid ((R4.out.alloc _).upd hu5 (fun e => by have : w.heap.size = w.heap.size + 1 := e; omega))
  have HU5 := hid (((HU4.out.alloc (.cells #[.int .u8 n1, .int .i64 n2, .int .u64 n3, .int .i64 0, .int .i64 0] 36))).trans hu5 (fun i hi hk => by have : i = w.heap.size + 1 := hk; omega)); have z5 := hu5.size; clear hu5 r5
  rw [World.size_alloc] at z5
  have HT5 := hid T5; clear T5
  go_wp2_with fail
  refine (H5.out _ _ hr5).mono ?_
  rintro e w6 ⟨rfl, hr6, hu6⟩
  have T6 := HT5.out.upd hu6 (fun e => by have : w4.heap.size = w.heap.size + 1 := e; omega)
  have hres := R5.out.upd hu6 (fun e => by have : w.heap.size = w.heap.size + 1 := e; omega)
  have HU6 := hid (HU5.out.trans hu6 (fun i hi hk => by have : i = w.heap.size + 1 := hk; omega)); have z6 := hu6.size; clear hu6 hr5 hr6
  have t0 := T6.cell 0; have t1 := T6.cell 1; have t2 := T6.cell 2; have t3 := T6.cell 3; have t4 := T6.cell 4
  simp only [List.getElem?_cons_zero, List.getElem?_cons_succ] at t0 t1 t2 t3 t4
  have f3 := T6.frozen 3; have f4 := T6.frozen 4
  have q0 := hres.cell 0; have q1 := hres.cell 1; have q2 := hres.cell 2; have q3 := hres.cell 3; have q4 := hres.cell 4
  simp only [List.getElem?_cons_zero, List.getElem?_cons_succ] at q0 q1 q2 q3 q4
  have p0 := hres.frozen 0; have p1 := hres.frozen 1; have p2 := hres.frozen 2; have p3 := hres.frozen 3; have p4 := hres.frozen 4
  have hn1 : w.heap.size ≠ w4.heap.size := by omega
  have hn2 : w4.heap.size ≠ w.heap.size := by omega
  clear T6 hres
  go_wp2_with fail
  refine bodyPost_ret (v := .agg #[.int .u8 n1, .int .i64 n2, .int .u64 n3, .int .i64 n4, .int .i64 n5]) (by simp [results, Try.results88, go_sem, q0, q1, q2, q3, q4]) rfl ⟨rfl, ?_⟩
  exact ((((((HU6.out.setCell (.inr (by show w.heap.size ≤ w4.heap.size; omega)) _).setCell (.inr (by show w.heap.size ≤ w4.heap.size; omega)) _).setCell (.inr (Nat.le_refl _)) _).setCell (.inr (Nat.le_refl _)) _).setCell (.inr (Nat.le_refl _)) _).setCell (.inr (Nat.le_refl _)) _).setCell (.inr (Nat.le_refl _)) _

end Go.Proofs.Ytljphijjcagciaa
