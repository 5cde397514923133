/-
  The walks over what a tag may be, the check, and a page's frame.
-/
import Derived.Test.YtljphijjcagciaaTag1
namespace Go.Proofs.Ytljphijjcagciaa
open Go.RowKit

theorem TagRight_any (t : Tag) (w : World) :
    Calls Try.prog 46 #[t.val] w fun e w' => e = .returned (.bool t.right) ∧ Upd noBlk w w' := by
  obtain ⟨k, l, s, p, n⟩ := t
  unfold Tag.val
  go_enter Try.func46, Try.ntmps46
  go_wp2_with fail
  all_goals
    go_ret
    refine ⟨ret_bool ?_, (Upd.refl _ _).alloc _⟩
    rw [Bool.eq_iff_iff]
    simp [Tag.right]
    omega

theorem sum_any (d off : Nat) (data beside : ByteArray) (h1 : data.size ≤ 100000) (h2 : beside.size ≤ 100000) (w : World) (ht : TabAt w d off) :
    Calls Try.prog 68 #[.pointer (some ⟨d, off, none⟩), .string data, .string beside] w fun e w' => e = .returned (.string (mkS (sumB data beside))) ∧ Upd noBlk w w' := by
  obtain ⟨x0, x1⟩ := crcMore_range (y := 4294967295) ⟨by omega, by omega⟩ (bs data)
  obtain ⟨y0, y1⟩ := crcMore_range ⟨x0, x1⟩ (bs beside)
  have H1 := hid (fun W (h : TabAt W d off) => More_any d off 4294967295 data h1 (by omega) (by omega) W h)
  have H2 := hid (fun W (h : TabAt W d off) => More_any d off _ beside h2 x0 x1 W h)
  have H3 := hid (fun W => Last_any (crcMore (crcMore 4294967295 (bs data)) (bs beside)) W)
  obtain ⟨z0, z1⟩ := bits_u32 .xor 4294967295 (crcMore (crcMore 4294967295 (bs data)) (bs beside))
  have hcr : crcLast (crcMore (crcMore 4294967295 (bs data)) (bs beside)) = crcOf data beside := rfl
  have hcr2 : bits .xor .u32 4294967295 (crcMore (crcMore 4294967295 (bs data)) (bs beside)) = crcOf data beside := rfl
  rw [hcr] at H3
  rw [hcr2] at z0 z1
  obtain ⟨N, hN⟩ : ∃ N : Nat, crcOf data beside = (N : Int) := ⟨(crcOf data beside).toNat, by omega⟩
  have H4 := hid (fun W => Put_any N 4 (by omega) (by omega) (by omega) W)
  have hsum : sumB data beside = putB N 4 := by unfold sumB; rw [hN]; rfl
  rw [hN] at H3 z0 z1
  rw [hsum]
  generalize crcMore 4294967295 (bs data) = X at *
  generalize crcMore X (bs beside) = Y at *
  clear hcr hcr2 hN hsum
  have HT := hid ht; clear ht
  go_enter Try.func68, Try.ntmps68
  go_wp2_with fail
  refine (First_any _).mono ?_; rintro e w1 ⟨rfl, rfl⟩
  go_wp2_with fail
  refine (H1.out _ HT.out).mono ?_; rintro e w1 ⟨rfl, m1, rfl⟩
  go_wp2_with fail
  refine (H2.out (w.drewN m1) HT.out).mono ?_; rintro e w1 ⟨rfl, m2, rfl⟩
  go_wp2_with fail
  refine (H3.out _).mono ?_; rintro e w1 ⟨rfl, rfl⟩
  go_wp2_with fail
  refine (H4.out _).mono ?_; rintro e w1 ⟨rfl, hu⟩
  have HU := hid hu; clear hu
  go_wp2_with fail
  go_ret
  exact ⟨rfl, ((Upd.refl _ _).drewN _).trans' HU.out⟩


theorem Tag.right_iff {t : Tag} : t.right = true ↔ 1 ≤ t.kind ∧ t.kind ≤ 3 ∧ 0 ≤ t.logical ∧ t.logical ≤ 65535 ∧ 1 ≤ t.len ∧ t.len ≤ 255 ∧ 0 ≤ t.pos ∧ t.pos < t.len := by
  simp [Tag.right, and_assoc]
theorem Tag.bytes_length (t : Tag) : t.bytes.length = 28 := by simp [Tag.bytes, putB]

theorem TagBytes_any (t : Tag) (h : t.right = true) (hs : 0 ≤ t.seq ∧ t.seq ≤ 18446744073709551615) (w : World) :
    Calls Try.prog 67 #[t.val] w fun e w' => e = .returned (.string (mkS t.bytes)) ∧ Upd noBlk w w' := by
  obtain ⟨r1, r2, r3, r4, r5, r6, r7, r8⟩ := Tag.right_iff.1 h
  obtain ⟨k, l, s, p, n⟩ := t
  simp only at *
  obtain ⟨k, rfl⟩ : ∃ k' : Nat, k = k' := ⟨k.toNat, by omega⟩
  obtain ⟨l, rfl⟩ : ∃ k' : Nat, l = k' := ⟨l.toNat, by omega⟩
  obtain ⟨s, rfl⟩ : ∃ k' : Nat, s = k' := ⟨s.toNat, by omega⟩
  obtain ⟨p, rfl⟩ : ∃ k' : Nat, p = k' := ⟨p.toNat, by omega⟩
  obtain ⟨n, rfl⟩ : ∃ k' : Nat, n = k' := ⟨n.toNat, by omega⟩
  exact bytes_any k l s p n (by omega) (by omega) (by omega) (by omega) (by omega) w

theorem Upd.tab {w w' : World} {d off : Nat} (hu : Upd noBlk w w') (h : TabAt w d off) : TabAt w' d off := fun j hj => hu.cell0 (h j hj)

theorem Frame_bad (d off : Nat) (t : Tag) (data : ByteArray) (w : World) (h : t.right = false) :
    Calls Try.prog 40 #[.pointer (some ⟨d, off, none⟩), t.val, .string data] w fun e w' => e = .returned (.tuple #[.string (mkS []), .int .i64 2]) ∧ Upd noBlk w w' := by
  have HR := hid (fun w => TagRight_any t w)
  rw [h] at HR
  obtain ⟨k, l, s, p, n⟩ := t
  unfold Tag.val at *
  clear h
  go_enter Try.func40, Try.ntmps40
  go_wp2_with fail
  refine (HR.out _).mono ?_; rintro e w1 ⟨rfl, hu⟩
  have HU := hid hu; clear hu
  go_wp2_with fail
  go_ret2
  exact ⟨rfl, ((Upd.refl _ _).alloc _).trans' HU.out⟩

theorem Frame_good (d off : Nat) (t : Tag) (data : ByteArray) (hd : data.size ≤ 100000) (w : World) (h : t.right = true) (hs : 0 ≤ t.seq ∧ t.seq ≤ 18446744073709551615) (ht : TabAt w d off) :
    Calls Try.prog 40 #[.pointer (some ⟨d, off, none⟩), t.val, .string data] w fun e w' => e = .returned (.tuple #[.string (t.beside data), .int .i64 0]) ∧ Upd noBlk w w' := by
  have HR := hid (fun w => TagRight_any t w)
  rw [h] at HR
  have HB := hid (fun w => TagBytes_any t h hs w)
  have hsz : (mkS t.bytes).size = 28 := by rw [mkS_size, Tag.bytes_length]
  have HSM := hid (fun W (hW : TabAt W d off) => sum_any d off data (mkS t.bytes) hd (by omega) W hW)
  have hss : (mkS (sumB data (mkS t.bytes))).size = 4 := by rw [mkS_size, sumB, putB_length]
  have hbe : t.beside data = mkS t.bytes ++ mkS (sumB data (mkS t.bytes)) := bs_inj (by rw [bs_append]; rfl)
  have HT := hid ht
  generalize mkS (sumB data (mkS t.bytes)) = SS at *
  generalize mkS t.bytes = TB at *
  have HBE := hid hbe
  have z1 : TB.size ≤ 28 := by omega
  have z2 : SS.size ≤ 4 := by omega
  clear hbe h hs ht hsz hss
  obtain ⟨k, l, s, p, n⟩ := t
  unfold Tag.val at *
  go_enter Try.func40, Try.ntmps40
  go_wp2_with fail
  refine (HR.out _).mono ?_; rintro e w1 ⟨rfl, hu⟩
  have e0 : w1.cell? ⟨w.heap.size, 0, none⟩ = some (.int .u8 k) := hu.cell0 (by simp)
  have e1 : w1.cell? ⟨w.heap.size, 1, none⟩ = some (.int .i64 l) := hu.cell0 (by simp)
  have e2 : w1.cell? ⟨w.heap.size, 2, none⟩ = some (.int .u64 s) := hu.cell0 (by simp)
  have e3 : w1.cell? ⟨w.heap.size, 3, none⟩ = some (.int .i64 p) := hu.cell0 (by simp)
  have e4 : w1.cell? ⟨w.heap.size, 4, none⟩ = some (.int .i64 n) := hu.cell0 (by simp)
  have HU := hid (((Upd.refl noBlk w).alloc (.cells #[.int .u8 k, .int .i64 l, .int .u64 s, .int .i64 p, .int .i64 n] 36)).trans' hu); clear hu
  go_wp2_with fail
  refine (HB.out _).mono ?_; rintro e w2 ⟨rfl, hu2⟩
  have HU2 := hid (HU.out.trans' hu2); clear hu2
  go_wp2_with fail
  refine (HSM.out _ (HU2.out.tab HT.out)).mono ?_; rintro e w3 ⟨rfl, hu3⟩
  have HU3 := hid hu3; clear hu3
  go_wp2_with fail
  go_ret2
  exact ⟨by rw [HBE.out]; rfl, HU2.out.trans' HU3.out⟩

end Go.Proofs.Ytljphijjcagciaa
