/-
  The walk over the statement on torn pages.
-/
import Derived.Test.YtljphijjcagciaaLaw08
namespace Go.Proofs.Ytljphijjcagciaa
open Go.RowKit

def st08 (P S : ByteArray) (j k : Nat) : Drive := if k ≤ j then way08 P S k j else cut08 P S j

set_option maxRecDepth 100000 in
set_option maxHeartbeats 1000000 in
theorem DriveTorn_any (n c : Nat) (hn : n < 256) (hc : c < 256) (w : World) :
    Calls Try.prog 3 #[.int .u8 (n : Int), .int .u8 (c : Int)] w fun e w' => e = .returned (.bool true) ∧ Upd noBlk w w' := by
  obtain ⟨j, hj⟩ : ∃ j, j = c % 4 := ⟨_, rfl⟩
  have hj4 : j < 4 := by omega
  have hcm : (c : Int) % 4 = (j : Int) := by omega
  have hn2 : (n : Int) ≤ 255 := by omega
  have HJ4 := hid hj4
  have HN := hid (fun W => New_good 4 4 32 W (by decide))
  have HF1 := hid (fun W => full08_any [102, 105, 114, 115, 116] 32 (by decide) (by decide) W)
  have HF2 := hid (fun W => full08_any [115, 101, 99, 111, 110, 100] 32 (by decide) (by decide) W)
  change Hid (∀ W, Calls _ _ #[.string (mkS [102, 105, 114, 115, 116]), .int .i64 32] W fun e w' => e = .returned (.string firstS) ∧ Upd noBlk W w') at HF1
  change Hid (∀ W, Calls _ _ #[.string (mkS [115, 101, 99, 111, 110, 100]), .int .i64 32] W fun e w' => e = .returned (.string secondS) ∧ Upd noBlk W w') at HF2
  have HE0 := hid (fun D W hW => driveErase_any D start08 0 W hW (by decide))
  rw [start08_e0] at HE0
  have HE1 := hid (fun D W hW => driveErase_any D (start08.erase 0).2 1 W hW (by decide))
  rw [start08_e1] at HE1
  have HP1 := hid (fun D W hW => driveProgram_any D erased08 0 (tag08 n) firstS W hW (by decide) (by unfold firstS; rw [fullS_size]; decide) (by simp [tag08]))
  rw [erased08_program hn] at HP1
  have hw0 := way08_zero (firstS ++ (tag08 n).beside firstS) (secondS ++ (tag08 n).beside secondS) j
  have hwf : ∀ k, k ≤ j → (way08 (firstS ++ (tag08 n).beside firstS) (secondS ++ (tag08 n).beside secondS) k j).chip.fuse ≤ 1000000 := fun k _ => by show (1 : Int) + ((j - k : Nat) : Int) ≤ 1000000; omega
  have HP2 : Hid (∀ D W (k : Nat), k < j → DriveAt W D (way08 (firstS ++ (tag08 n).beside firstS) (secondS ++ (tag08 n).beside secondS) k j) → Calls Try.prog 10 #[.pointer (some ⟨D.d, 0, none⟩), .int .i64 1, (tag08 n).val, .string secondS] W fun e w' =>
      e = .returned (.tuple #[.int .i64 (k : Int), .int .i64 0]) ∧ DriveAt w' D (way08 (firstS ++ (tag08 n).beside firstS) (secondS ++ (tag08 n).beside secondS) (k + 1) j) ∧ Upd D.foot W w') := hid (fun D W k hk hW => by
    have := driveProgram_any D (way08 (firstS ++ (tag08 n).beside firstS) (secondS ++ (tag08 n).beside secondS) k j) 1 (tag08 n) secondS W hW (hwf k (by omega)) (by unfold secondS; rw [fullS_size]; decide) (by simp [tag08])
    rw [way08_step hn _ hk hj4] at this; exact this)
  have HP2c : Hid (∀ D W, DriveAt W D (way08 (firstS ++ (tag08 n).beside firstS) (secondS ++ (tag08 n).beside secondS) j j) → Calls Try.prog 10 #[.pointer (some ⟨D.d, 0, none⟩), .int .i64 1, (tag08 n).val, .string secondS] W fun e w' =>
      e = .returned (.tuple #[.int .i64 0, .int .i64 9]) ∧ DriveAt w' D (cut08 (firstS ++ (tag08 n).beside firstS) (secondS ++ (tag08 n).beside secondS) j) ∧ Upd D.foot W w') := hid (fun D W hW => by
    have := driveProgram_any D (way08 (firstS ++ (tag08 n).beside firstS) (secondS ++ (tag08 n).beside secondS) j j) 1 (tag08 n) secondS W hW (hwf j (by omega)) (by unfold secondS; rw [fullS_size]; decide) (by simp [tag08])
    rw [way08_cut hn _ _ hj4] at this; exact this)
  have HP3 := hid (fun D W hW => driveProgram_any D (cut08 (firstS ++ (tag08 n).beside firstS) (secondS ++ (tag08 n).beside secondS) j) 1 (tag08 n) secondS W hW (by show (0 : Int) ≤ 1000000; decide) (by unfold secondS; rw [fullS_size]; decide) (by simp [tag08]))
  rw [cut08_order hn] at HP3
  have HR1 := hid (fun D W hW => driveRead_any D (on08 (firstS ++ (tag08 n).beside firstS) (secondS ++ (tag08 n).beside secondS) j) 0 0 W hW)
  rw [on08_first hn] at HR1
  obtain ⟨qs, qt, qx, hq, hq4, hq1⟩ := on08_torn (firstS ++ (tag08 n).beside firstS) (secondS ++ (tag08 n).beside secondS) hj4
  have HR2 := hid (fun D W hW => driveRead_any D (on08 (firstS ++ (tag08 n).beside firstS) (secondS ++ (tag08 n).beside secondS) j) 1 j W hW)
  rw [hq] at HR2
  have HW0 := hid hw0
  clear hq hw0 hwf
  generalize firstS ++ (tag08 n).beside firstS = P at *
  generalize secondS ++ (tag08 n).beside secondS = S at *
  have hq4' : (qs == 4) = false := by simpa using hq4
  have hq1' : (qs == 1) = false := by simpa using hq1
  have hq4'' : (qs != 4) = true := by simpa using hq4
  have hq1'' : (qs != 1) = true := by simpa using hq1
  clear hq4 hq1 hj hn hj4
  simp only [Tag.val, Page.val, tag08] at HP1 HP2 HP2c HP3 HR1 HR2
  generalize firstS = FS at *
  generalize secondS = SS at *
  go_enter Try.func3, Try.ntmps3
  go_wp2_with fail
  refine (HN.out _).mono ?_; rintro e w1 ⟨L, hL, rfl, hc, hu⟩
  have HC := hid hc; have HU := hid hu; have HL := hid hL; clear hc hu hL
  have HD := hid (fun W (hW : ChipAt W L (Chip.new 4 4 32 [])) => driveNew_any L (Chip.new 4 4 32 []) W hW)
  go_wp2_with fail
  refine (HD.out _ HC.out).mono ?_; rintro e w2 ⟨D, rfl, hDf, rfl, hd, hu2⟩
  clear HD
  change DriveAt w2 D start08 at hd
  have HFT := hid (fun k (hk : D.foot k) => (hDf k hk).elim (fun h => HL.out k h) (fun h => Nat.le_trans HU.out.size h))
  have HD := hid hd; have HU2 := hid (HU.out.trans' hu2); clear hd hu2 hDf HC HU HL
  have HWK := hid wakes08_any
  go_wp2_with fail
  refine (HWK.out _).mono ?_; rintro e w3 ⟨rfl, hu⟩
  have HD3 := hid (HD.out.upd hu fun _ h => h.elim); have HU3 := hid (HU2.out.trans' hu); clear hu HD HU2
  go_wp2_with fail
  refine (HE0.out _ _ HD3.out).mono ?_; rintro e w4 ⟨rfl, hd, hu⟩
  have HD4 := hid hd; have HU4 := hid (HU3.out.fresh hu HFT.out); clear hd hu HD3 HU3
  go_wp2_with fail
  refine (HE1.out _ _ HD4.out).mono ?_; rintro e w5 ⟨rfl, hd, hu⟩
  have HD5 := hid hd; have HU5 := hid (HU4.out.fresh hu HFT.out); clear hd hu HD4 HU4
  go_wp2_with fail
  have hA : Row (w5.alloc (.cells #[.int .u8 1, .int .i64 n, .int .u64 1, .int .i64 0, .int .i64 1] 36)) w5.heap.size 36 [.int .u8 1, .int .i64 n, .int .u64 1, .int .i64 0, .int .i64 1] := Row.new w5 _ _
  have hU : Upd noBlk w5 (w5.alloc (.cells #[.int .u8 1, .int .i64 n, .int .u64 1, .int .i64 0, .int .i64 1] 36)) := (Upd.refl _ _).alloc _
  have hTD : ¬ D.foot w5.heap.size := fun hk => by
    have := HD5.out.foot_lt hk; omega
  have hTn : w.heap.size ≤ w5.heap.size := HU5.out.size
  generalize w5.alloc (.cells #[.int .u8 1, .int .i64 n, .int .u64 1, .int .i64 0, .int .i64 1] 36) = W at hA hU ⊢
  generalize w5.heap.size = T at hA hTD hTn ⊢
  have HD6 := hid (HD5.out.upd hU fun _ h => h.elim); have HU6 := hid (HU5.out.trans' hU); have HA6 := hid hA; have HTD := hid hTD; have HTN := hid hTn
  clear hA hU hTD hTn HD5 HU5
  have c0 := HA6.out.get (i := 0) rfl; have c1 := HA6.out.get (i := 1) rfl; have c2 := HA6.out.get (i := 2) rfl; have c3 := HA6.out.get (i := 3) rfl; have c4 := HA6.out.get (i := 4) rfl
  go_region_held3 (fun w' => w'.cell? ⟨T, 0, none⟩ = some (.int .u8 1) ∧ w'.cell? ⟨T, 1, none⟩ = some (.int .i64 n) ∧ w'.cell? ⟨T, 2, none⟩ = some (.int .u64 1) ∧ w'.cell? ⟨T, 3, none⟩ = some (.int .i64 0) ∧ w'.cell? ⟨T, 4, none⟩ = some (.int .i64 1))
    (first | go_keep)
    (first
      | (go_at_call 11; refine (HF1.out _).mono ?_; rintro e w7 ⟨rfl, hu7⟩; have HA7 := hid (HA6.out.drew.upd hu7 id); have HD7 := hid (HD6.out.drew.upd hu7 fun _ h => h.elim); have HU7 := hid (HU6.out.drew.trans' hu7); have k0 := HA7.out.get (i := 0) rfl; have k1 := HA7.out.get (i := 1) rfl; have k2 := HA7.out.get (i := 2) rfl; have k3 := HA7.out.get (i := 3) rfl; have k4 := HA7.out.get (i := 4) rfl; clear hu7)
      | (go_at_call 10; refine (HP1.out _ _ HD7.out).mono ?_; rintro e w8 ⟨rfl, hd8, hu8⟩; have HA8 := hid (HA7.out.upd hu8 HTD.out); have HD8 := hid hd8; have HU8 := hid (HU7.out.fresh hu8 HFT.out); have k0 := HA8.out.get (i := 0) rfl; have k1 := HA8.out.get (i := 1) rfl; have k2 := HA8.out.get (i := 2) rfl; have k3 := HA8.out.get (i := 3) rfl; have k4 := HA8.out.get (i := 4) rfl; clear hd8 hu8))
  clear c0 c1 c2 c3 c4 k0 k1 k2 k3 k4 HA7 HD7 HU7
  have HFU := hid (fun W hW => Fuse_any D.c (first08 P).chip (1 + (j : Int)) tornS W hW (by decide))
  go_wp2_with fail
  refine (HFU.out _ HD8.out.chip).mono ?_; rintro e w9 ⟨rfl, hc, hu⟩
  have hd9 := HD8.out.chip_put hu hc rfl
  rw [HW0.out] at hd9
  have HD9 := hid hd9; have HA9 := hid (HA8.out.upd hu fun h => HTD.out (.inl h)); have HU9 := hid (HU8.out.fresh hu fun k h => HFT.out k (.inl h))
  clear hc hu hd9 HFU HD6 HA6 HU6 HD8 HU8 HA8
  go_wp2_with fail
  go_loopw [12, 67] (fun d i wr => ∃ k : Nat, k ≤ 4 ∧ i = .int .i64 k ∧ d = .int .i64 (min k j : Nat) ∧ DriveAt wr D (st08 P S j k) ∧ Row wr T 36 [.int .u8 1, .int .i64 n, .int .u64 1, .int .i64 0, .int .i64 1] ∧ Upd noBlk w wr) (fun _ i _ => 4 - (intOf i).toNat)
  case atStart => exact ⟨0, by omega, rfl, by simp, by unfold st08; rw [if_pos (by omega)]; exact HD9.out, HA9.out, HU9.out⟩
  case round =>
    obtain ⟨k, hk, rfl, rfl, hd, ha, hu⟩ := hrel
    clear HD9 HA9 HU9
    have HD10 := hid hd; have HA10 := hid ha; have HU10 := hid hu
    clear hd ha hu
    have hTs := HA10.out.lt
    by_cases hlt : k < 4
    · rcases Nat.lt_trichotomy k j with h1 | h1 | h1
      · have hd2 : DriveAt wr D (way08 P S k j) := by have := HD10.out; unfold st08 at this; rwa [if_pos (by omega)] at this
        have HP := hid (fun D W hW => HP2.out D W k h1 hW)
        have HD11 := hid hd2
        have HA11 := HA10; have HU11 := HU10
        have e1 : min k j = k := by omega
        have e2 : min (k + 1) j = k + 1 := by omega
        rw [e1]
        have E2 := hid e2
        clear hd2 e1 e2 HD10 HA10 HU10
        go_wp2_with fail
        have c0 := HA11.out.get (i := 0) rfl; have c1 := HA11.out.get (i := 1) rfl; have c2 := HA11.out.get (i := 2) rfl; have c3 := HA11.out.get (i := 3) rfl; have c4 := HA11.out.get (i := 4) rfl
        go_region_held3 (fun w' => w'.cell? ⟨T, 0, none⟩ = some (.int .u8 1) ∧ w'.cell? ⟨T, 1, none⟩ = some (.int .i64 n) ∧ w'.cell? ⟨T, 2, none⟩ = some (.int .u64 1) ∧ w'.cell? ⟨T, 3, none⟩ = some (.int .i64 0) ∧ w'.cell? ⟨T, 4, none⟩ = some (.int .i64 1))
          (first | go_keep)
          (first
            | (go_at_call 11; refine (HF2.out _).mono ?_; rintro e w12 ⟨rfl, hu12⟩; have HA12 := hid (HA11.out.drew.upd hu12 id); have HD12 := hid (HD11.out.drew.upd hu12 fun _ h => h.elim); have HU12 := hid (HU11.out.drew.trans' hu12); have k0 := HA12.out.get (i := 0) rfl; have k1 := HA12.out.get (i := 1) rfl; have k2 := HA12.out.get (i := 2) rfl; have k3 := HA12.out.get (i := 3) rfl; have k4 := HA12.out.get (i := 4) rfl; clear hu12)
            | (go_at_call 10; refine (HP.out _ _ HD12.out).mono ?_; rintro e w13 ⟨rfl, hd13, hu13⟩; have HA13 := hid (HA12.out.upd hu13 HTD.out); have HD13 := hid hd13; have HU13 := hid (HU12.out.fresh hu13 HFT.out); have k0 := HA13.out.get (i := 0) rfl; have k1 := HA13.out.get (i := 1) rfl; have k2 := HA13.out.get (i := 2) rfl; have k3 := HA13.out.get (i := 3) rfl; have k4 := HA13.out.get (i := 4) rfl; clear hd13 hu13))
        clear c0 c1 c2 c3 c4 k0 k1 k2 k3 k4 HA12 HD12 HU12
        go_wp2_with fail
        exact ⟨⟨k + 1, by omega, by go_num, by rw [E2.out]; go_num, by unfold st08; rw [if_pos (by omega)]; exact HD13.out, HA13.out, HU13.out⟩, by simp [intOf]; omega⟩
      · subst h1
        have hd2 : DriveAt wr D (way08 P S k k) := by have := HD10.out; unfold st08 at this; rwa [if_pos (by omega)] at this
        have HD11 := hid hd2
        have HA11 := HA10; have HU11 := HU10
        have E2 : Hid (min (k + 1) k = k) := hid (by omega)
        clear hd2 HD10 HA10 HU10
        go_wp2_with fail
        have c0 := HA11.out.get (i := 0) rfl; have c1 := HA11.out.get (i := 1) rfl; have c2 := HA11.out.get (i := 2) rfl; have c3 := HA11.out.get (i := 3) rfl; have c4 := HA11.out.get (i := 4) rfl
        go_region_held3 (fun w' => w'.cell? ⟨T, 0, none⟩ = some (.int .u8 1) ∧ w'.cell? ⟨T, 1, none⟩ = some (.int .i64 n) ∧ w'.cell? ⟨T, 2, none⟩ = some (.int .u64 1) ∧ w'.cell? ⟨T, 3, none⟩ = some (.int .i64 0) ∧ w'.cell? ⟨T, 4, none⟩ = some (.int .i64 1))
          (first | go_keep)
          (first
            | (go_at_call 11; refine (HF2.out _).mono ?_; rintro e w12 ⟨rfl, hu12⟩; have HA12 := hid (HA11.out.drew.upd hu12 id); have HD12 := hid (HD11.out.drew.upd hu12 fun _ h => h.elim); have HU12 := hid (HU11.out.drew.trans' hu12); have k0 := HA12.out.get (i := 0) rfl; have k1 := HA12.out.get (i := 1) rfl; have k2 := HA12.out.get (i := 2) rfl; have k3 := HA12.out.get (i := 3) rfl; have k4 := HA12.out.get (i := 4) rfl; clear hu12)
            | (go_at_call 10; refine (HP2c.out _ _ HD12.out).mono ?_; rintro e w13 ⟨rfl, hd13, hu13⟩; have HA13 := hid (HA12.out.upd hu13 HTD.out); have HD13 := hid hd13; have HU13 := hid (HU12.out.fresh hu13 HFT.out); have k0 := HA13.out.get (i := 0) rfl; have k1 := HA13.out.get (i := 1) rfl; have k2 := HA13.out.get (i := 2) rfl; have k3 := HA13.out.get (i := 3) rfl; have k4 := HA13.out.get (i := 4) rfl; clear hd13 hu13))
        clear c0 c1 c2 c3 c4 k0 k1 k2 k3 k4 HA12 HD12 HU12
        go_wp2_with fail
        exact ⟨⟨k + 1, by omega, by go_num, by rw [E2.out], by unfold st08; rw [if_neg (by omega)]; exact HD13.out, HA13.out, HU13.out⟩, by simp [intOf]; omega⟩
      · have hd2 : DriveAt wr D (cut08 P S j) := by have := HD10.out; unfold st08 at this; rwa [if_neg (by omega)] at this
        have HD11 := hid hd2
        have HA11 := HA10; have HU11 := HU10
        have E2 : Hid (min (k + 1) j = min k j) := hid (by omega)
        clear hd2 HD10 HA10 HU10
        go_wp2_with fail
        have c0 := HA11.out.get (i := 0) rfl; have c1 := HA11.out.get (i := 1) rfl; have c2 := HA11.out.get (i := 2) rfl; have c3 := HA11.out.get (i := 3) rfl; have c4 := HA11.out.get (i := 4) rfl
        go_region_held3 (fun w' => w'.cell? ⟨T, 0, none⟩ = some (.int .u8 1) ∧ w'.cell? ⟨T, 1, none⟩ = some (.int .i64 n) ∧ w'.cell? ⟨T, 2, none⟩ = some (.int .u64 1) ∧ w'.cell? ⟨T, 3, none⟩ = some (.int .i64 0) ∧ w'.cell? ⟨T, 4, none⟩ = some (.int .i64 1))
          (first | go_keep)
          (first
            | (go_at_call 11; refine (HF2.out _).mono ?_; rintro e w12 ⟨rfl, hu12⟩; have HA12 := hid (HA11.out.drew.upd hu12 id); have HD12 := hid (HD11.out.drew.upd hu12 fun _ h => h.elim); have HU12 := hid (HU11.out.drew.trans' hu12); have k0 := HA12.out.get (i := 0) rfl; have k1 := HA12.out.get (i := 1) rfl; have k2 := HA12.out.get (i := 2) rfl; have k3 := HA12.out.get (i := 3) rfl; have k4 := HA12.out.get (i := 4) rfl; clear hu12)
            | (go_at_call 10; refine (HP3.out _ _ HD12.out).mono ?_; rintro e w13 ⟨rfl, hd13, hu13⟩; have HA13 := hid (HA12.out.upd hu13 HTD.out); have HD13 := hid hd13; have HU13 := hid (HU12.out.fresh hu13 HFT.out); have k0 := HA13.out.get (i := 0) rfl; have k1 := HA13.out.get (i := 1) rfl; have k2 := HA13.out.get (i := 2) rfl; have k3 := HA13.out.get (i := 3) rfl; have k4 := HA13.out.get (i := 4) rfl; clear hd13 hu13))
        clear c0 c1 c2 c3 c4 k0 k1 k2 k3 k4 HA12 HD12 HU12
        go_wp2_with fail
        exact ⟨⟨k + 1, by omega, by go_num, by rw [E2.out], by unfold st08; rw [if_neg (by omega)]; exact HD13.out, HA13.out, HU13.out⟩, by simp [intOf]; omega⟩
    · have hd2 : DriveAt wr D (cut08 P S j) := by have := HD10.out; unfold st08 at this; rwa [if_neg (by have := HJ4.out; omega)] at this
      have e1 : min k j = j := by have := HJ4.out; omega
      rw [e1]
      have HD11 := hid hd2
      clear hd2 e1 HD10
      go_wp2_with fail
      have HOF := hid (fun W hW => Off_any D.c (cut08 P S j).chip W hW)
      change Hid (∀ W, ChipAt W D.c (cut08 P S j).chip → Calls _ _ _ W fun e w' => e = .returned (.bool true) ∧ W = w') at HOF
      have HX0 := hid (fun W hW => Next_any D (cut08 P S j) 0 W hW)
      change Hid (∀ W, DriveAt W D (cut08 P S j) → Calls _ _ _ W fun e w' => e = .returned (.int .i64 (-1)) ∧ W = w') at HX0
      have HX1 := hid (fun W hW => Next_any D (cut08 P S j) 1 W hW)
      change Hid (∀ W, DriveAt W D (cut08 P S j) → Calls _ _ _ W fun e w' => e = .returned (.int .i64 (-1)) ∧ W = w') at HX1
      refine (HOF.out _ HD11.out.chip).mono ?_; rintro e w12 ⟨rfl, rfl⟩
      go_wp2_with fail
      refine (HX0.out _ HD11.out).mono ?_; rintro e w12 ⟨rfl, rfl⟩
      go_wp2_with fail
      refine (HX1.out _ HD11.out).mono ?_; rintro e w12 ⟨rfl, rfl⟩
      have HON := hid (fun W hW => On_any D.c (cut08 P S j).chip W hW)
      go_wp2_with fail
      refine (HON.out _ HD11.out.chip).mono ?_; rintro e w13 ⟨rfl, hc, hu⟩
      have HD13 := hid (HD11.out.chip_put hu hc rfl); have HU13 := hid (HU10.out.fresh hu fun k h => HFT.out k (.inl h))
      change Hid (DriveAt w13 D (on08 P S j)) at HD13
      clear hc hu HD11 HU10 HA10
      go_wp2_with fail
      refine (HR1.out _ _ HD13.out).mono ?_; rintro e w14 ⟨rfl, hu⟩
      have HD14 := hid (HD13.out.upd hu fun _ h => h.elim); have HU14 := hid (HU13.out.trans' hu)
      clear hu HD13 HU13
      go_wp2_with fail
      have hP : Row (w14.alloc (.cells #[.int .i64 4, .int .u8 1, .int .i64 n, .int .u64 1, .int .i64 0, .int .i64 1, .string FS] 44)) w14.heap.size 44 [.int .i64 4, .int .u8 1, .int .i64 n, .int .u64 1, .int .i64 0, .int .i64 1, .string FS] := Row.new w14 _ _
      have hU : Upd noBlk w14 (w14.alloc (.cells #[.int .i64 4, .int .u8 1, .int .i64 n, .int .u64 1, .int .i64 0, .int .i64 1, .string FS] 44)) := (Upd.refl _ _).alloc _
      generalize w14.alloc (.cells #[.int .i64 4, .int .u8 1, .int .i64 n, .int .u64 1, .int .i64 0, .int .i64 1, .string FS] 44) = W15 at hP hU ⊢
      generalize w14.heap.size = B at hP ⊢
      have HD15 := hid (HD14.out.upd hU fun _ h => h.elim); have HU15 := hid (HU14.out.trans' hU); have HP15 := hid hP
      clear hP hU HD14 HU14
      refine (HR2.out _ _ HD15.out).mono ?_; rintro e w16 ⟨rfl, hu⟩
      have HD16 := hid (HD15.out.upd hu fun _ h => h.elim); have HU16 := hid (HU15.out.trans' hu); have HP16 := hid (HP15.out.upd hu id)
      clear hu HD15 HU15 HP15
      go_wp2_with fail
      have hQ : Row (w16.alloc (.cells #[.int .i64 qs, .int .u8 qt.kind, .int .i64 qt.logical, .int .u64 qt.seq, .int .i64 qt.pos, .int .i64 qt.len, .string qx] 44)) w16.heap.size 44 [.int .i64 qs, .int .u8 qt.kind, .int .i64 qt.logical, .int .u64 qt.seq, .int .i64 qt.pos, .int .i64 qt.len, .string qx] := Row.new w16 _ _
      have hP := HP16.out.alloc (.cells #[.int .i64 qs, .int .u8 qt.kind, .int .i64 qt.logical, .int .u64 qt.seq, .int .i64 qt.pos, .int .i64 qt.len, .string qx] 44)
      have hU := HU16.out.alloc (.cells #[.int .i64 qs, .int .u8 qt.kind, .int .i64 qt.logical, .int .u64 qt.seq, .int .i64 qt.pos, .int .i64 qt.len, .string qx] 44)
      generalize w16.alloc (.cells #[.int .i64 qs, .int .u8 qt.kind, .int .i64 qt.logical, .int .u64 qt.seq, .int .i64 qt.pos, .int .i64 qt.len, .string qx] 44) = W17 at hP hQ hU ⊢
      generalize w16.heap.size = C at hQ ⊢
      have P0 := hP.uw (i := 0) rfl; have P6 := hP.uw (i := 6) rfl; have Q0 := hQ.uw (i := 0) rfl
      have HU17 := hid hU
      have HFU := hid (fun n : UW W17 => UW.call (HF1.out n.w))
      clear hP hQ hU HD16 HU16 HP16
      refine wp_region_upd (by kernel_rfl) (by kernel_rfl) ?_
      repeat (go_big_quiet_step (exact HFU.out _))
      refine wpQuiet_nil ?_
      rintro _ ⟨nq, rfl⟩
      have HU18 := hid (HU17.out.trans' nq.upd)
      clear P0 P6 Q0 HFU
      go_wp2_with fail
      go_ret
      exact ⟨rfl, HU18.out⟩

end Go.Proofs.Ytljphijjcagciaa
