/-
  The walks over what stands beside a page: blank, factory, parsed.
-/
import Derived.Test.YtljphijjcagciaaTagA
import Derived.Deep.RegionWith
namespace Go.Proofs.Ytljphijjcagciaa
open Go.RowKit

theorem Blank_any (data beside : ByteArray) (h1 : data.size ≤ 10000) (h2 : beside.size ≤ 10000) (w : World) :
    Calls Try.prog 44 #[.string data, .string beside] w fun e w' => e = .returned (.bool (allFF (data ++ beside))) ∧ Upd noBlk w w' := by
  have hsz : (data ++ beside).size = data.size + beside.size := ByteArray.size_append
  have HP := hid (fun W => Repeat_any (mkS [255]) ((data.size : Int) + (beside.size : Int)) W (by omega) (by rw [show (mkS [255]).size = 1 from rfl]; omega))
  rw [show ((data.size : Int) + (beside.size : Int)).toNat = (data ++ beside).size by omega] at HP
  have hfin : ((data ++ beside).toList == (repS (mkS [255]) (data.size + beside.size)).toList) = allFF (data ++ beside) := by
    rw [← hsz]
    rw [Bool.eq_iff_iff]
    unfold allFF
    rw [decide_eq_true_eq, beq_iff_eq]
    exact ⟨toList_inj, fun h => by rw [← h]⟩
  have HF := hid hfin
  clear hfin hsz
  go_enter Try.func44, Try.ntmps44
  go_wp2_with fail
  refine (HP.out _).mono ?_; rintro e w1 ⟨rfl, hu⟩
  have HU := hid hu; clear hu
  go_wp2_with fail
  go_ret
  exact ⟨ret_bool HF.out, HU.out⟩

theorem HasPrefix_ff (s : ByteArray) (hs : s.size = 32) (w : World) :
    Calls Try.prog 54 #[.string s, .string (mkS [255])] w fun e w' => e = .returned (.bool (decide ((bs s).take 1 = [255]))) ∧ w = w' := by
  have hb : ((s.extract 0 1).toList == (mkS [255]).toList) = decide ((bs s).take 1 = [255]) := by
    rw [toList_bs, toList_bs, bs_extract, bs_mkS, Bool.eq_iff_iff]
    simp
  have HB := hid hb
  have h2 : (mkS [255]).size = 1 := rfl
  have hs1 : (1 : Int) ≤ (s.size : Int) := by omega
  clear hb hs
  go_enter Try.func54, Try.ntmps54
  go_wp2
  go_ret
  exact ⟨ret_bool HB.out, rfl⟩

theorem Factory_any (s : ByteArray) (hs : s.size = 32) (w : World) :
    Calls Try.prog 73 #[.string s] w fun e w' => e = .returned (.bool (factoryB s)) ∧ w = w' := by
  have HP := hid (fun W => HasPrefix_ff s hs W)
  have e : factoryB s = !decide ((bs s).take 1 = [255]) := rfl
  rw [e]
  have hs1 : (s.size : Int) = 32 := by omega
  generalize decide ((bs s).take 1 = [255]) = b at HP ⊢
  clear hs e
  go_enter Try.func73, Try.ntmps73
  go_wp2_with fail
  refine (HP.out _).mono ?_; rintro e w1 ⟨rfl, rfl⟩
  go_wp2_with fail
  go_ret
  exact ⟨rfl, rfl⟩

theorem Tag.read_seq (l : List UInt8) : 0 ≤ (Tag.read l).seq ∧ (Tag.read l).seq ≤ 18446744073709551615 := by
  have := getB_lt ((l.drop 4).take 8)
  show 0 ≤ ((getB ((l.drop 4).take 8) : Nat) : Int) ∧ ((getB ((l.drop 4).take 8) : Nat) : Int) ≤ 18446744073709551615
  omega

theorem Parse_any (d off : Nat) (data beside : ByteArray) (hd : data.size ≤ 100000) (hb : beside.size = 32) (w : World) (ht : TabAt w d off) :
    Calls Try.prog 72 #[.pointer (some ⟨d, off, none⟩), .string data, .string beside] w fun e w' => e = .returned (.tuple #[(Tag.parse data beside).1.val, .int .i64 (Tag.parse data beside).2]) ∧ Upd noBlk w w' := by
  have HRD := hid (fun W => read_any beside hb W)
  have HR := hid (fun W => TagRight_any (Tag.read (bs beside)) W)
  have hseq := Tag.read_seq (bs beside)
  have HB := hid (fun (h : (Tag.read (bs beside)).right = true) W => TagBytes_any (Tag.read (bs beside)) h hseq W)
  have hbz : (beside.size : Int) = 32 := by omega
  have hlen : (bs beside).length = 32 := by rw [bs_len]; exact hb
  have h28 : beside.extract 0 28 = mkS ((bs beside).take 28) := bs_inj (by rw [bs_extract, bs_mkS]; rfl)
  have HSM := hid (fun W (hW : TabAt W d off) => sum_any d off data (beside.extract 0 28) hd (by rw [ByteArray.size_extract]; omega) W hW)
  have hc1 : ((mkS (Tag.read (bs beside)).bytes).toList == (beside.extract 0 28).toList) = !decide ((Tag.read (bs beside)).bytes ≠ (bs beside).take 28) := by
    rw [h28, toList_bs, toList_bs, bs_mkS, bs_mkS, Bool.eq_iff_iff]; simp
  have hc2 : ((mkS (sumB data (beside.extract 0 28))).toList == (beside.extract 28 beside.size).toList) = !decide (sumB data (mkS ((bs beside).take 28)) ≠ (bs beside).drop 28) := by
    rw [← h28, toList_bs, toList_bs, bs_mkS, bs_extract, List.take_of_length_le (by simp [hlen]; omega), Bool.eq_iff_iff]; simp
  have hP : Tag.parse data beside = if (!(Tag.read (bs beside)).right || decide ((Tag.read (bs beside)).bytes ≠ (bs beside).take 28)) = true then (Tag.none, 4) else if decide (sumB data (mkS ((bs beside).take 28)) ≠ (bs beside).drop 28) = true then (Tag.none, 5) else (Tag.read (bs beside), 0) := by
    unfold Tag.parse; simp only [decide_eq_true_eq]
  generalize decide (sumB data (mkS ((bs beside).take 28)) ≠ (bs beside).drop 28) = q2 at hc2 hP
  generalize decide ((Tag.read (bs beside)).bytes ≠ (bs beside).take 28) = q1 at hc1 hP
  generalize mkS (Tag.read (bs beside)).bytes = TB at hc1 HB
  generalize mkS (sumB data (beside.extract 0 28)) = TS at hc2 HSM
  generalize (Tag.read (bs beside)).right = r at HR HB hP
  generalize Tag.read (bs beside) = t at HRD HR HB hP
  generalize Tag.parse data beside = pr at hP ⊢
  obtain ⟨k, l, s, p, n⟩ := t
  have HT := hid ht
  have HE := hid hP
  unfold Tag.val at HRD HR HB ⊢
  dsimp only at HRD HR HB
  have hz : (28 : Int) ≤ (beside.size : Int) := by omega
  clear hseq hb hlen h28 ht hP
  go_enter Try.func72, Try.ntmps72
  go_wp2_with fail
  have hW1 : Row (w.alloc (.cells #[.int .u8 0, .int .i64 0, .int .u64 0, .int .i64 0, .int .i64 0] 36)) w.heap.size 36 [.int .u8 0, .int .i64 0, .int .u64 0, .int .i64 0, .int .i64 0] := Row.new w _ _
  have hW2 : Upd noBlk w (w.alloc (.cells #[.int .u8 0, .int .i64 0, .int .u64 0, .int .i64 0, .int .i64 0] 36)) := (Upd.refl _ _).alloc _
  generalize w.alloc (.cells #[.int .u8 0, .int .i64 0, .int .u64 0, .int .i64 0, .int .i64 0] 36) = W at hW1 hW2 ⊢
  have HW1 := hid hW1; have HW2 := hid hW2; clear hW1 hW2
  go_region_with (go_at_call 88; refine (HRD.out _).mono ?_; rintro e w1 ⟨rfl, hu⟩; (first | (have hrow : Row w1 W.heap.size 36 [.int .u8 0, .int .i64 0, .int .u64 0, .int .i64 0, .int .i64 0] := Row.upd (S := noBlk) (show Row ((W.alloc (.cells (List.toArray [.int .u8 0, .int .i64 0, .int .u64 0, .int .i64 0, .int .i64 0]) 36)).drew) W.heap.size 36 [.int .u8 0, .int .i64 0, .int .u64 0, .int .i64 0, .int .i64 0] from Row.new W _ _) hu id; have e0 := hrow.cell 0; have e1 := hrow.cell 1; have e2 := hrow.cell 2; have e3 := hrow.cell 3; have e4 := hrow.cell 4; simp only [List.getElem?_cons_zero, List.getElem?_cons_succ] at e0 e1 e2 e3 e4; have f0 := hrow.frozen 0; have f1 := hrow.frozen 1; have f2 := hrow.frozen 2; have f3 := hrow.frozen 3; have f4 := hrow.frozen 4) | skip))
  all_goals (
    have hTop : w.heap.size < W.heap.size := HW1.out.lt
    first
    | (have hB : Row (w1.alloc (.cells #[.int .u8 k, .int .i64 l, .int .u64 s, .int .i64 p, .int .i64 n] 36)) w1.heap.size 36 [.int .u8 k, .int .i64 l, .int .u64 s, .int .i64 p, .int .i64 n] := Row.new w1 _ _
       have hA : Row (w1.alloc (.cells #[.int .u8 k, .int .i64 l, .int .u64 s, .int .i64 p, .int .i64 n] 36)) w.heap.size 36 [.int .u8 0, .int .i64 0, .int .u64 0, .int .i64 0, .int .i64 0] := (HW1.out.drew.upd hu id).alloc _
       have hU : Upd noBlk w (w1.alloc (.cells #[.int .u8 k, .int .i64 l, .int .u64 s, .int .i64 p, .int .i64 n] 36)) := (HW2.out.drew.trans' hu).alloc _
       have hne : w1.heap.size ≠ w.heap.size := by have := hu.size; have : W.heap.size ≤ w1.heap.size := this; omega
       generalize w1.alloc (.cells #[.int .u8 k, .int .i64 l, .int .u64 s, .int .i64 p, .int .i64 n] 36) = V at hB hA hU ⊢
       generalize w1.heap.size = B at hB hne ⊢)
    | (have hB : Row (((((w1.setCell ⟨W.heap.size, 0, none⟩ (.int .u8 k)).setCell ⟨W.heap.size, 1, none⟩ (.int .i64 l)).setCell ⟨W.heap.size, 2, none⟩ (.int .u64 s)).setCell ⟨W.heap.size, 3, none⟩ (.int .i64 p)).setCell ⟨W.heap.size, 4, none⟩ (.int .i64 n)) W.heap.size 36 [.int .u8 k, .int .i64 l, .int .u64 s, .int .i64 p, .int .i64 n] := ((((hrow.set 0 _).set 1 _).set 2 _).set 3 _).set 4 _
       have hne : W.heap.size ≠ w.heap.size := by omega
       have hu' : Upd noBlk W w1 := (((Upd.refl noBlk W).alloc (.cells #[.int .u8 0, .int .i64 0, .int .u64 0, .int .i64 0, .int .i64 0] 36)).drew.trans' hu)
       have hA : Row (((((w1.setCell ⟨W.heap.size, 0, none⟩ (.int .u8 k)).setCell ⟨W.heap.size, 1, none⟩ (.int .i64 l)).setCell ⟨W.heap.size, 2, none⟩ (.int .u64 s)).setCell ⟨W.heap.size, 3, none⟩ (.int .i64 p)).setCell ⟨W.heap.size, 4, none⟩ (.int .i64 n)) w.heap.size 36 [.int .u8 0, .int .i64 0, .int .u64 0, .int .i64 0, .int .i64 0] := (((((HW1.out.upd (S := noBlk) hu' id).far hne.symm _).far hne.symm _).far hne.symm _).far hne.symm _).far hne.symm _
       have hU : Upd noBlk w (((((w1.setCell ⟨W.heap.size, 0, none⟩ (.int .u8 k)).setCell ⟨W.heap.size, 1, none⟩ (.int .i64 l)).setCell ⟨W.heap.size, 2, none⟩ (.int .u64 s)).setCell ⟨W.heap.size, 3, none⟩ (.int .i64 p)).setCell ⟨W.heap.size, 4, none⟩ (.int .i64 n)) := (((((HW2.out.trans' hu').setCell (.inr (Nat.le_of_lt hTop)) _).setCell (.inr (Nat.le_of_lt hTop)) _).setCell (.inr (Nat.le_of_lt hTop)) _).setCell (.inr (Nat.le_of_lt hTop)) _).setCell (.inr (Nat.le_of_lt hTop)) _
       generalize ((((w1.setCell ⟨W.heap.size, 0, none⟩ (.int .u8 k)).setCell ⟨W.heap.size, 1, none⟩ (.int .i64 l)).setCell ⟨W.heap.size, 2, none⟩ (.int .u64 s)).setCell ⟨W.heap.size, 3, none⟩ (.int .i64 p)).setCell ⟨W.heap.size, 4, none⟩ (.int .i64 n) = V at hB hA hU ⊢
       clear hrow e0 e1 e2 e3 e4 f0 f1 f2 f3 f4
       generalize W.heap.size = B at hB hne ⊢)
    have HA := hid hA; have HBw := hid hB; have HU := hid hU; have HN := hid hne
    clear hA hB hU hne hu
    have e0 : V.cell? ⟨B, 0, none⟩ = some (.int .u8 k) := HBw.out.cell 0
    have e1 : V.cell? ⟨B, 1, none⟩ = some (.int .i64 l) := HBw.out.cell 1
    have e2 : V.cell? ⟨B, 2, none⟩ = some (.int .u64 s) := HBw.out.cell 2
    have e3 : V.cell? ⟨B, 3, none⟩ = some (.int .i64 p) := HBw.out.cell 3
    have e4 : V.cell? ⟨B, 4, none⟩ = some (.int .i64 n) := HBw.out.cell 4
    go_wp2_with fail
    refine (HR.out _).mono ?_; rintro e w2 ⟨rfl, hu2⟩
    have HA2 := hid (HA.out.upd hu2 id); have HB2 := hid (HBw.out.upd hu2 id); have HU2 := hid (HU.out.trans' hu2)
    clear e0 e1 e2 e3 e4 hu2
    cases r
    · have hn1 : w.heap.size ≠ B := fun h => HN.out h.symm
      have hn2 : B ≠ w.heap.size := HN.out
      have a0 : w2.cell? ⟨w.heap.size, 0, none⟩ = some (.int .u8 0) := HA2.out.cell 0
      have a1 : w2.cell? ⟨w.heap.size, 1, none⟩ = some (.int .i64 0) := HA2.out.cell 1
      have a2 : w2.cell? ⟨w.heap.size, 2, none⟩ = some (.int .u64 0) := HA2.out.cell 2
      have a3 : w2.cell? ⟨w.heap.size, 3, none⟩ = some (.int .i64 0) := HA2.out.cell 3
      have a4 : w2.cell? ⟨w.heap.size, 4, none⟩ = some (.int .i64 0) := HA2.out.cell 4
      have af0 : w2.frozen? ⟨w.heap.size, 0, none⟩ = false := HA2.out.frozen 0
      have af1 : w2.frozen? ⟨w.heap.size, 1, none⟩ = false := HA2.out.frozen 1
      have af2 : w2.frozen? ⟨w.heap.size, 2, none⟩ = false := HA2.out.frozen 2
      have af3 : w2.frozen? ⟨w.heap.size, 3, none⟩ = false := HA2.out.frozen 3
      have af4 : w2.frozen? ⟨w.heap.size, 4, none⟩ = false := HA2.out.frozen 4
      have b0 : w2.cell? ⟨B, 0, none⟩ = some (.int .u8 k) := HB2.out.cell 0
      have b1 : w2.cell? ⟨B, 1, none⟩ = some (.int .i64 l) := HB2.out.cell 1
      have b2 : w2.cell? ⟨B, 2, none⟩ = some (.int .u64 s) := HB2.out.cell 2
      have b3 : w2.cell? ⟨B, 3, none⟩ = some (.int .i64 p) := HB2.out.cell 3
      have b4 : w2.cell? ⟨B, 4, none⟩ = some (.int .i64 n) := HB2.out.cell 4
      go_wp2_with fail
      refine bodyPost_ret (v := .tuple #[.agg #[.int .u8 0, .int .i64 0, .int .u64 0, .int .i64 0, .int .i64 0], .int .i64 4]) (by simp [results, Try.results72, go_sem, a0, a1, a2, a3, a4]) rfl ⟨by rw [HE.out]; rfl, ?_⟩
      exact (((((HU2.out.setCell (.inr (Nat.le_refl _)) _).setCell (.inr (Nat.le_refl _)) _).setCell (.inr (Nat.le_refl _)) _).setCell (.inr (Nat.le_refl _)) _).setCell (.inr (Nat.le_refl _)) _)
    · have hn1 : w.heap.size ≠ B := fun h => HN.out h.symm
      have hn2 : B ≠ w.heap.size := HN.out
      have b0 : w2.cell? ⟨B, 0, none⟩ = some (.int .u8 k) := HB2.out.cell 0
      have b1 : w2.cell? ⟨B, 1, none⟩ = some (.int .i64 l) := HB2.out.cell 1
      have b2 : w2.cell? ⟨B, 2, none⟩ = some (.int .u64 s) := HB2.out.cell 2
      have b3 : w2.cell? ⟨B, 3, none⟩ = some (.int .i64 p) := HB2.out.cell 3
      have b4 : w2.cell? ⟨B, 4, none⟩ = some (.int .i64 n) := HB2.out.cell 4
      go_wp2_with fail
      refine (HB.out trivial _).mono ?_; rintro e w3 ⟨rfl, hu3⟩
      have HA3 := hid (HA2.out.upd hu3 id); have HB3 := hid (HB2.out.upd hu3 id); have HU3 := hid (HU2.out.trans' hu3)
      clear b0 b1 b2 b3 b4 hu3
      have a0 : w3.cell? ⟨w.heap.size, 0, none⟩ = some (.int .u8 0) := HA3.out.cell 0
      have a1 : w3.cell? ⟨w.heap.size, 1, none⟩ = some (.int .i64 0) := HA3.out.cell 1
      have a2 : w3.cell? ⟨w.heap.size, 2, none⟩ = some (.int .u64 0) := HA3.out.cell 2
      have a3 : w3.cell? ⟨w.heap.size, 3, none⟩ = some (.int .i64 0) := HA3.out.cell 3
      have a4 : w3.cell? ⟨w.heap.size, 4, none⟩ = some (.int .i64 0) := HA3.out.cell 4
      have af0 : w3.frozen? ⟨w.heap.size, 0, none⟩ = false := HA3.out.frozen 0
      have af1 : w3.frozen? ⟨w.heap.size, 1, none⟩ = false := HA3.out.frozen 1
      have af2 : w3.frozen? ⟨w.heap.size, 2, none⟩ = false := HA3.out.frozen 2
      have af3 : w3.frozen? ⟨w.heap.size, 3, none⟩ = false := HA3.out.frozen 3
      have af4 : w3.frozen? ⟨w.heap.size, 4, none⟩ = false := HA3.out.frozen 4
      have b0 : w3.cell? ⟨B, 0, none⟩ = some (.int .u8 k) := HB3.out.cell 0
      have b1 : w3.cell? ⟨B, 1, none⟩ = some (.int .i64 l) := HB3.out.cell 1
      have b2 : w3.cell? ⟨B, 2, none⟩ = some (.int .u64 s) := HB3.out.cell 2
      have b3 : w3.cell? ⟨B, 3, none⟩ = some (.int .i64 p) := HB3.out.cell 3
      have b4 : w3.cell? ⟨B, 4, none⟩ = some (.int .i64 n) := HB3.out.cell 4
      cases q1
      · go_wp2_with fail
        have HS := hid (fun n : UW w3 => UW.call (HSM.out n.w (n.upd.tab (HU3.out.tab HT.out))))
        clear a0 a1 a2 a3 a4 af0 af1 af2 af3 af4 b0 b1 b2 b3 b4
        refine wp_region_upd (by kernel_rfl) (by kernel_rfl) ?_
        repeat (go_big_quiet_step (exact HS.out _))
        refine wpQuiet_nil ?_
        rintro _ ⟨nq, rfl⟩
        have HA4 := hid (HA3.out.upd nq.upd id); have HB4 := hid (HB3.out.upd nq.upd id); have HU4 := hid (HU3.out.trans' nq.upd)
        have a0 : nq.w.cell? ⟨w.heap.size, 0, none⟩ = some (.int .u8 0) := HA4.out.cell 0
        have a1 : nq.w.cell? ⟨w.heap.size, 1, none⟩ = some (.int .i64 0) := HA4.out.cell 1
        have a2 : nq.w.cell? ⟨w.heap.size, 2, none⟩ = some (.int .u64 0) := HA4.out.cell 2
        have a3 : nq.w.cell? ⟨w.heap.size, 3, none⟩ = some (.int .i64 0) := HA4.out.cell 3
        have a4 : nq.w.cell? ⟨w.heap.size, 4, none⟩ = some (.int .i64 0) := HA4.out.cell 4
        have af0 : nq.w.frozen? ⟨w.heap.size, 0, none⟩ = false := HA4.out.frozen 0
        have af1 : nq.w.frozen? ⟨w.heap.size, 1, none⟩ = false := HA4.out.frozen 1
        have af2 : nq.w.frozen? ⟨w.heap.size, 2, none⟩ = false := HA4.out.frozen 2
        have af3 : nq.w.frozen? ⟨w.heap.size, 3, none⟩ = false := HA4.out.frozen 3
        have af4 : nq.w.frozen? ⟨w.heap.size, 4, none⟩ = false := HA4.out.frozen 4
        have b0 : nq.w.cell? ⟨B, 0, none⟩ = some (.int .u8 k) := HB4.out.cell 0
        have b1 : nq.w.cell? ⟨B, 1, none⟩ = some (.int .i64 l) := HB4.out.cell 1
        have b2 : nq.w.cell? ⟨B, 2, none⟩ = some (.int .u64 s) := HB4.out.cell 2
        have b3 : nq.w.cell? ⟨B, 3, none⟩ = some (.int .i64 p) := HB4.out.cell 3
        have b4 : nq.w.cell? ⟨B, 4, none⟩ = some (.int .i64 n) := HB4.out.cell 4
        cases q2
        · go_wp2_with fail
          refine bodyPost_ret (v := .tuple #[.agg #[.int .u8 k, .int .i64 l, .int .u64 s, .int .i64 p, .int .i64 n], .int .i64 0]) (by simp [results, Try.results72, go_sem, a0, a1, a2, a3, a4]) rfl ⟨by rw [HE.out]; rfl, ?_⟩
          exact (((((HU4.out.setCell (.inr (Nat.le_refl _)) _).setCell (.inr (Nat.le_refl _)) _).setCell (.inr (Nat.le_refl _)) _).setCell (.inr (Nat.le_refl _)) _).setCell (.inr (Nat.le_refl _)) _)
        · go_wp2_with fail
          refine bodyPost_ret (v := .tuple #[.agg #[.int .u8 0, .int .i64 0, .int .u64 0, .int .i64 0, .int .i64 0], .int .i64 5]) (by simp [results, Try.results72, go_sem, a0, a1, a2, a3, a4]) rfl ⟨by rw [HE.out]; rfl, ?_⟩
          exact (((((HU4.out.setCell (.inr (Nat.le_refl _)) _).setCell (.inr (Nat.le_refl _)) _).setCell (.inr (Nat.le_refl _)) _).setCell (.inr (Nat.le_refl _)) _).setCell (.inr (Nat.le_refl _)) _)
      · go_wp2_with fail
        refine bodyPost_ret (v := .tuple #[.agg #[.int .u8 0, .int .i64 0, .int .u64 0, .int .i64 0, .int .i64 0], .int .i64 4]) (by simp [results, Try.results72, go_sem, a0, a1, a2, a3, a4]) rfl ⟨by rw [HE.out]; rfl, ?_⟩
        exact (((((HU3.out.setCell (.inr (Nat.le_refl _)) _).setCell (.inr (Nat.le_refl _)) _).setCell (.inr (Nat.le_refl _)) _).setCell (.inr (Nat.le_refl _)) _).setCell (.inr (Nat.le_refl _)) _))

end Go.Proofs.Ytljphijjcagciaa
