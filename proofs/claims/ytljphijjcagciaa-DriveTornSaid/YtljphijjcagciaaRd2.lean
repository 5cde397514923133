/-
  The walk over the tag that stands beside a page.
-/
import Derived.Test.YtljphijjcagciaaRd1
namespace Go.Proofs.Ytljphijjcagciaa
open Go.RowKit

theorem bs_extract (s : ByteArray) (a b : Nat) : bs (s.extract a b) = ((bs s).drop a).take (b - a) := by
  unfold bs
  rw [ByteArray.data_extract, Array.toList_extract, List.extract_eq_take_drop]
theorem getB_fold : ∀ (l : List UInt8) (n m : Nat), n < 256 ^ m → m + l.length ≤ 8 → l.foldl (fun n b => (n * 256 + b.toNat) % 18446744073709551616) n < 256 ^ (m + l.length)
  | [], n, m, h, _ => h
  | b :: l, n, m, h, h8 => by
    have hb : b.toNat < 256 := UInt8.toNat_lt _
    simp only [List.length_cons] at h8 ⊢
    have := getB_fold l ((n * 256 + b.toNat) % 18446744073709551616) (m + 1) (Nat.lt_of_le_of_lt (Nat.mod_le _ _) (by rw [Nat.pow_succ]; omega)) (by omega)
    rw [show m + (l.length + 1) = m + 1 + l.length by omega]
    exact this
theorem getB_le (l : List UInt8) (h : l.length ≤ 8) : getB l < 256 ^ l.length := by
  have := getB_fold l 0 0 (by simp) (by omega)
  rw [Nat.zero_add] at this
  exact this

theorem read_any (s : ByteArray) (hs : s.size = 32) (w : World) :
    Calls Try.prog 88 #[.string s] w fun e w' => e = .returned (Tag.read (bs s)).val ∧ Upd noBlk w w' := by
  have hlen : (bs s).length = 32 := by rw [bs_len]; exact hs
  have l0 : (s.extract 1 s.size).size = 31 := by rw [ByteArray.size_extract]; omega
  have b0 : bs (s.extract 1 s.size) = (bs s).drop 1 := by rw [bs_extract, List.take_of_length_le (by simp [hlen, hs])]
  generalize hs0 : s.extract 1 s.size = s0 at l0 b0
  have HS0 := hid hs0; clear hs0
  have l1 : (s0.extract 1 s0.size).size = 30 := by rw [ByteArray.size_extract]; omega
  have b1 : bs (s0.extract 1 s0.size) = (bs s).drop 2 := by rw [bs_extract, b0, List.drop_drop, List.take_of_length_le (by simp [hlen, l0])]
  have H1 := hid (fun a W (h : RdAt W a s0 false) => RNumber_yes a s0 1 (by omega) (by omega) (by omega) (by omega) W h)
  generalize s0.extract 1 s0.size = s1 at l1 b1 H1
  have l2 : (s1.extract 2 s1.size).size = 28 := by rw [ByteArray.size_extract]; omega
  have b2 : bs (s1.extract 2 s1.size) = (bs s).drop 4 := by rw [bs_extract, b1, List.drop_drop, List.take_of_length_le (by simp [hlen, l1])]
  have H2 := hid (fun a W (h : RdAt W a s1 false) => RNumber_yes a s1 2 (by omega) (by omega) (by omega) (by omega) W h)
  generalize s1.extract 2 s1.size = s2 at l2 b2 H2
  have l3 : (s2.extract 8 s2.size).size = 20 := by rw [ByteArray.size_extract]; omega
  have b3 : bs (s2.extract 8 s2.size) = (bs s).drop 12 := by rw [bs_extract, b2, List.drop_drop, List.take_of_length_le (by simp [hlen, l2])]
  have H3 := hid (fun a W (h : RdAt W a s2 false) => RNumber_yes a s2 8 (by omega) (by omega) (by omega) (by omega) W h)
  generalize s2.extract 8 s2.size = s3 at l3 b3 H3
  have l4 : (s3.extract 1 s3.size).size = 19 := by rw [ByteArray.size_extract]; omega
  have b4 : bs (s3.extract 1 s3.size) = (bs s).drop 13 := by rw [bs_extract, b3, List.drop_drop, List.take_of_length_le (by simp [hlen, l3])]
  have H4 := hid (fun a W (h : RdAt W a s3 false) => RNumber_yes a s3 1 (by omega) (by omega) (by omega) (by omega) W h)
  generalize s3.extract 1 s3.size = s4 at l4 b4 H4
  have H5 := hid (fun a W (h : RdAt W a s4 false) => RNumber_yes a s4 1 (by omega) (by omega) (by omega) (by omega) W h)
  rw [b0] at H1; rw [b1] at H2; rw [b2] at H3; rw [b3] at H4; rw [b4] at H5
  have m1 := getB_le (((bs s).drop 1).take 1) (by simp [hlen])
  have m2 := getB_le (((bs s).drop 2).take 2) (by simp [hlen])
  have m4 := getB_le (((bs s).drop 12).take 1) (by simp [hlen])
  have m5 := getB_le (((bs s).drop 13).take 1) (by simp [hlen])
  simp only [List.length_take, List.length_drop, hlen] at m1 m2 m4 m5
  have m1' : getB (((bs s).drop 1).take 1) < 256 := m1
  have m2' : getB (((bs s).drop 2).take 2) < 65536 := m2
  have m4' : getB (((bs s).drop 12).take 1) < 256 := m4
  have m5' : getB (((bs s).drop 13).take 1) < 256 := m5
  have hv : (Tag.read (bs s)).val = .agg #[.int .u8 (getB (((bs s).drop 1).take 1) : Nat), .int .i64 (getB (((bs s).drop 2).take 2) : Nat), .int .u64 (getB (((bs s).drop 4).take 8) : Nat), .int .i64 (getB (((bs s).drop 12).take 1) : Nat), .int .i64 (getB (((bs s).drop 13).take 1) : Nat)] := rfl
  rw [hv]
  generalize getB (((bs s).drop 1).take 1) = n1 at *
  generalize getB (((bs s).drop 2).take 2) = n2 at *
  generalize getB (((bs s).drop 4).take 8) = n3 at *
  generalize getB (((bs s).drop 12).take 1) = n4 at *
  generalize getB (((bs s).drop 13).take 1) = n5 at *
  clear m1 m2 m4 m5 b0 b1 b2 b3 b4 l0 l1 l2 l3 l4 hlen hv
  have HRD := hid (fun W => Read_new s0 W)
  have HS := hid hs; clear hs
  have hs1 : (s.size : Int) = 32 := by rw [HS.out]; rfl
  go_enter Try.func88, Try.ntmps88
  go_wp2_with fail
  rw [HS0.out]
  refine (HRD.out _).mono ?_
  rintro e w1 ⟨rfl, hr1, hz1, hu1⟩
  rw [World.size_alloc] at hr1 hz1
  rw [World.size_alloc]
  have R1 := hid ((Row.new w [.int .u8 0, .int .i64 0, .int .u64 0, .int .i64 0, .int .i64 0] 36).upd hu1 id)
  have HU1 := hid (((Upd.refl noBlk w).alloc _).trans' hu1); clear hu1
  have HZ1 := hid hz1; clear hz1
  go_wp2_with fail
  refine (H1.out _ _ hr1).mono ?_
  rintro e w2 ⟨rfl, hr2, hu2⟩
  have R2 := hid (R1.out.upd hu2 (fun e => by have : w.heap.size = w.heap.size + 1 := e; omega))
  have HU2 := hid (HU1.out.trans hu2 (fun i hi hk => by have : i = w.heap.size + 1 := hk; omega)); have HX2 := hid hu2; clear hu2 hr1
  go_wp2_with fail
  refine (H2.out _ _ hr2).mono ?_
  rintro e w3 ⟨rfl, hr3, hu3⟩
  have R3 := hid (R2.out.upd hu3 (fun e => by have : w.heap.size = w.heap.size + 1 := e; omega))
  have HU3 := hid (HU2.out.trans hu3 (fun i hi hk => by have : i = w.heap.size + 1 := hk; omega)); have HX3 := hid hu3; clear hu3 hr2
  go_wp2_with fail
  refine (H3.out _ _ hr3).mono ?_
  rintro e w4 ⟨rfl, hr4, hu4⟩
  have R4 := hid (R3.out.upd hu4 (fun e => by have : w.heap.size = w.heap.size + 1 := e; omega))
  have HU4 := hid (HU3.out.trans hu4 (fun i hi hk => by have : i = w.heap.size + 1 := hk; omega)); have HX4 := hid hu4; clear hu4 hr3
  have z4 : w.heap.size + 2 ≤ w4.heap.size := by have := HZ1.out; have := HX2.out.size; have := HX3.out.size; have := HX4.out.size; omega
  have r5 : RdAt (w4.alloc (.cells #[.int .u8 n1, .int .i64 n2, .int .u64 n3, .int .i64 0, .int .i64 0] 36)) (w.heap.size + 1) s3 false := hr4.alloc _
  clear hr4
  go_wp2_with fail
  refine (H4.out _ _ r5).mono ?_
  rintro e w5 ⟨rfl, hr5, hu5⟩
  have T5 : Row w5 w4.heap.size 36 [.int .u8 n1, .int .i64 n2, .int .u64 n3, .int .i64 0, .int .i64 0] := (Row.new w4 [.int .u8 n1, .int .i64 n2, .int .u64 n3, .int .i64 0, .int .i64 0] _).upd hu5 (fun e => by have : w4.heap.size = w.heap.size + 1 := e; omega)
  have R5 := hid ((R4.out.alloc _).upd hu5 (fun e => by have : w.heap.size = w.heap.size + 1 := e; omega))
  have HU5 := hid (((HU4.out.alloc (.cells #[.int .u8 n1, .int .i64 n2, .int .u64 n3, .int .i64 0, .int .i64 0] 36))).trans hu5 (fun i hi hk => by have : i = w.heap.size + 1 := hk; omega)); have z5 := hu5.size; clear hu5 r5
  rw [World.size_alloc] at z5
  have HT5 := hid T5; clear T5
  go_wp2_with fail
  refine (H5.out _ _ hr5).mono ?_
  rintro e w6 ⟨rfl, hr6, hu6⟩
  have T6 := HT5.out.upd hu6 (fun e => by have : w4.heap.size = w.heap.size + 1 := e; omega)
  have hres := R5.out.upd hu6 (fun e => by have : w.heap.size = w.heap.size + 1 := e; omega)
  have HU6 := hid (HU5.out.trans hu6 (fun i hi hk => by have : i = w.heap.size + 1 := hk; omega)); have z6 := hu6.size; clear hu6 hr5 hr6
  have t0 := T6.cell 0; have t1 := T6.cell 1; have t2 := T6.cell 2; have t3 := T6.cell 3; have t4 := T6.cell 4
  simp only [List.getElem?_cons_zero, List.getElem?_cons_succ] at t0 t1 t2 t3 t4
  have f3 := T6.frozen 3; have f4 := T6.frozen 4
  have q0 := hres.cell 0; have q1 := hres.cell 1; have q2 := hres.cell 2; have q3 := hres.cell 3; have q4 := hres.cell 4
  simp only [List.getElem?_cons_zero, List.getElem?_cons_succ] at q0 q1 q2 q3 q4
  have p0 := hres.frozen 0; have p1 := hres.frozen 1; have p2 := hres.frozen 2; have p3 := hres.frozen 3; have p4 := hres.frozen 4
  have hn1 : w.heap.size ≠ w4.heap.size := by omega
  have hn2 : w4.heap.size ≠ w.heap.size := by omega
  clear T6 hres
  go_wp2_with fail
  refine bodyPost_ret (v := .agg #[.int .u8 n1, .int .i64 n2, .int .u64 n3, .int .i64 n4, .int .i64 n5]) (by simp [results, Try.results88, go_sem, q0, q1, q2, q3, q4]) rfl ⟨rfl, ?_⟩
  exact ((((((HU6.out.setCell (.inr (by show w.heap.size ≤ w4.heap.size; omega)) _).setCell (.inr (by show w.heap.size ≤ w4.heap.size; omega)) _).setCell (.inr (Nat.le_refl _)) _).setCell (.inr (Nat.le_refl _)) _).setCell (.inr (Nat.le_refl _)) _).setCell (.inr (Nat.le_refl _)) _).setCell (.inr (Nat.le_refl _)) _

end Go.Proofs.Ytljphijjcagciaa
