/-
  The walks over the statement on torn pages, and its signs of life.
-/
import Derived.Test.YtljphijjcagciaaLaw08a
namespace Go.Proofs.Ytljphijjcagciaa
open Go.RowKit

theorem wakes08_any (w : World) : Calls Try.prog 8 #[] w fun e w' => e = .returned (.bool true) ∧ Upd noBlk w w' := by
  have HN := hid (fun W => New_good 4 2 32 W (by decide))
  have HF := hid (fun W => full08_any [97] 32 (by decide) (by decide) W)
  have HP0 := hid (fun D W hW => driveProgram_any D wake0 1 tagW aS W hW (by decide) (by unfold aS; rw [fullS_size]; decide) (by decide))
  rw [wake0_order] at HP0
  have HE := hid (fun D W hW => driveErase_any D wake0 1 W hW (by decide))
  rw [wake0_erase] at HE
  have HP1 := hid (fun D W hW => driveProgram_any D wake1 1 tagW aS W hW (by decide) (by unfold aS; rw [fullS_size]; decide) (by decide))
  rw [wake1_program] at HP1
  have HR := hid (fun D W hW => driveRead_any D wake2 1 0 W hW)
  rw [wake2_read] at HR
  have HX := hid (fun D W hW => Next_any D wake2 1 W hW)
  rw [wake2_next] at HX
  change Hid (∀ W, Calls _ _ #[.string (mkS [97]), .int .i64 32] W fun e w' => e = .returned (.string aS) ∧ Upd noBlk W w') at HF
  simp only [Tag.val, Page.val, tagW] at HP0 HP1 HR
  generalize aS = S at *
  go_enter Try.func8, Try.ntmps8
  go_wp2_with fail
  refine (HN.out _).mono ?_; rintro e w1 ⟨L, hL, rfl, hc, hu⟩
  have HC := hid hc; have HU := hid hu; have HL := hid hL; clear hc hu hL
  have HD := hid (fun W (hW : ChipAt W L (Chip.new 4 2 32 [])) => driveNew_any L (Chip.new 4 2 32 []) W hW)
  go_wp2_with fail
  refine (HD.out _ HC.out).mono ?_; rintro e w2 ⟨D, rfl, hDf, rfl, hd, hu2⟩
  clear HD
  change DriveAt w2 D wake0 at hd
  have HFT := hid (fun k (hk : D.foot k) => (hDf k hk).elim (fun h => HL.out k h) (fun h => Nat.le_trans HU.out.size h))
  have HD := hid hd; have HU2 := hid (HU.out.trans' hu2); clear hd hu2 hDf HC HU HL
  go_wp2_with fail
  have hA : Row (w2.alloc (.cells #[.int .u8 1, .int .i64 0, .int .u64 9, .int .i64 0, .int .i64 1] 36)) w2.heap.size 36 [.int .u8 1, .int .i64 0, .int .u64 9, .int .i64 0, .int .i64 1] := Row.new w2 _ _
  have hU : Upd noBlk w2 (w2.alloc (.cells #[.int .u8 1, .int .i64 0, .int .u64 9, .int .i64 0, .int .i64 1] 36)) := (Upd.refl _ _).alloc _
  have hTD : ¬ D.foot w2.heap.size := fun hk => by
    have := HD.out.foot_lt hk; omega
  generalize w2.alloc (.cells #[.int .u8 1, .int .i64 0, .int .u64 9, .int .i64 0, .int .i64 1] 36) = W at hA hU ⊢
  generalize w2.heap.size = T at hA hTD ⊢
  have HD3 := hid (HD.out.upd hU fun _ h => h.elim); have HU3 := hid (HU2.out.trans' hU); have HA := hid hA; have HTD := hid hTD
  clear hU hTD
  have HA3 := HA; clear hA HA HD HU2
  have c0 := HA3.out.get (i := 0) rfl; have c1 := HA3.out.get (i := 1) rfl; have c2 := HA3.out.get (i := 2) rfl; have c3 := HA3.out.get (i := 3) rfl; have c4 := HA3.out.get (i := 4) rfl
  go_region_held3 (fun w' => w'.cell? ⟨T, 0, none⟩ = some (.int .u8 1) ∧ w'.cell? ⟨T, 1, none⟩ = some (.int .i64 0) ∧ w'.cell? ⟨T, 2, none⟩ = some (.int .u64 9) ∧ w'.cell? ⟨T, 3, none⟩ = some (.int .i64 0) ∧ w'.cell? ⟨T, 4, none⟩ = some (.int .i64 1))
    (first | go_keep)
    (first
      | (go_at_call 11; refine (HF.out _).mono ?_; rintro e w4 ⟨rfl, hu4⟩; have HA4 := hid (HA3.out.drew.upd hu4 id); have HD4 := hid (HD3.out.drew.upd hu4 fun _ h => h.elim); have HU4 := hid (HU3.out.drew.trans' hu4); have k0 := HA4.out.get (i := 0) rfl; have k1 := HA4.out.get (i := 1) rfl; have k2 := HA4.out.get (i := 2) rfl; have k3 := HA4.out.get (i := 3) rfl; have k4 := HA4.out.get (i := 4) rfl; clear hu4)
      | (go_at_call 10; refine (HP0.out _ _ HD4.out).mono ?_; rintro e w5 ⟨rfl, hd5, hu5⟩; have HA5 := hid (HA4.out.upd hu5 HTD.out); have HD5 := hid hd5; have HU5 := hid (HU4.out.fresh hu5 HFT.out); have k0 := HA5.out.get (i := 0) rfl; have k1 := HA5.out.get (i := 1) rfl; have k2 := HA5.out.get (i := 2) rfl; have k3 := HA5.out.get (i := 3) rfl; have k4 := HA5.out.get (i := 4) rfl; clear hd5 hu5))
  clear c0 c1 c2 c3 c4 k0 k1 k2 k3 k4 HA4 HD4 HU4
  go_wp2_with fail
  refine (HE.out _ _ HD5.out).mono ?_; rintro e w6 ⟨rfl, hd, hu⟩
  have HD6 := hid hd; have HU6 := hid (HU5.out.fresh hu HFT.out); have HA6 := hid (HA5.out.upd hu HTD.out)
  clear hd hu HA3 HD3 HU3 HD5 HU5 HA5
  go_wp2_with fail
  have c0 := HA6.out.get (i := 0) rfl; have c1 := HA6.out.get (i := 1) rfl; have c2 := HA6.out.get (i := 2) rfl; have c3 := HA6.out.get (i := 3) rfl; have c4 := HA6.out.get (i := 4) rfl
  go_region_held3 (fun w' => w'.cell? ⟨T, 0, none⟩ = some (.int .u8 1) ∧ w'.cell? ⟨T, 1, none⟩ = some (.int .i64 0) ∧ w'.cell? ⟨T, 2, none⟩ = some (.int .u64 9) ∧ w'.cell? ⟨T, 3, none⟩ = some (.int .i64 0) ∧ w'.cell? ⟨T, 4, none⟩ = some (.int .i64 1))
    (first | go_keep)
    (first
      | (go_at_call 11; refine (HF.out _).mono ?_; rintro e w7 ⟨rfl, hu7⟩; have HA7 := hid (HA6.out.drew.upd hu7 id); have HD7 := hid (HD6.out.drew.upd hu7 fun _ h => h.elim); have HU7 := hid (HU6.out.drew.trans' hu7); have k0 := HA7.out.get (i := 0) rfl; have k1 := HA7.out.get (i := 1) rfl; have k2 := HA7.out.get (i := 2) rfl; have k3 := HA7.out.get (i := 3) rfl; have k4 := HA7.out.get (i := 4) rfl; clear hu7)
      | (go_at_call 10; refine (HP1.out _ _ HD7.out).mono ?_; rintro e w8 ⟨rfl, hd8, hu8⟩; have HA8 := hid (HA7.out.upd hu8 HTD.out); have HD8 := hid hd8; have HU8 := hid (HU7.out.fresh hu8 HFT.out); have k0 := HA8.out.get (i := 0) rfl; have k1 := HA8.out.get (i := 1) rfl; have k2 := HA8.out.get (i := 2) rfl; have k3 := HA8.out.get (i := 3) rfl; have k4 := HA8.out.get (i := 4) rfl; clear hd8 hu8))
  clear c0 c1 c2 c3 c4 k0 k1 k2 k3 k4 HA7 HD7 HU7
  go_wp2_with fail
  refine (HR.out _ _ HD8.out).mono ?_; rintro e w9 ⟨rfl, hu⟩
  have HD9 := hid (HD8.out.upd hu fun _ h => h.elim); have HU9 := hid (HU8.out.trans' hu); have HA9 := hid (HA8.out.upd hu id)
  clear hu HD8 HU8 HA8 HA6 HD6 HU6
  have a0 := HA9.out.get (i := 0) rfl; have a1 := HA9.out.get (i := 1) rfl; have a2 := HA9.out.get (i := 2) rfl; have a3 := HA9.out.get (i := 3) rfl; have a4 := HA9.out.get (i := 4) rfl
  have hT := HA9.out.lt
  go_wp2_with fail
  refine (HX.out _ _ (HD9.out.upd ((Upd.refl noBlk _).alloc _) fun _ h => h.elim)).mono ?_; rintro e w10 ⟨rfl, hw⟩
  have HD10 := hid (hw ▸ HD9.out.upd ((Upd.refl noBlk w9).alloc _) fun _ h => h.elim); have HU10 := hid (hw ▸ HU9.out.alloc _)
  clear hw
  have HSI := hid (fun W hW => Sins_any D.c wake2.chip W hW)
  go_wp2_with fail
  refine (HSI.out _ HD10.out.chip).mono ?_; rintro e w11 ⟨rfl, rfl⟩
  go_wp2_with fail
  go_ret
  exact ⟨rfl, HU10.out⟩

end Go.Proofs.Ytljphijjcagciaa
