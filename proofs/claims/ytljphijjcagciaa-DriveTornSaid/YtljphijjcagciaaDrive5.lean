/-
  The walk over a drive's read.
-/
import Derived.Test.YtljphijjcagciaaDrive4
namespace Go.Proofs.Ytljphijjcagciaa
open Go.RowKit

def Page.val (p : Page) : Value := .agg #[.int .i64 p.state, .int .u8 p.tag.kind, .int .i64 p.tag.logical, .int .u64 p.tag.seq, .int .i64 p.tag.pos, .int .i64 p.tag.len, .string p.data]

theorem Chip.read_size {c : Chip} (h : c.Ok) {b p : Int} (hr : c.ready b p = 0) : (c.read b p).1.size ≤ 1024 ∧ (c.read b p).2.1.size = 32 := by
  obtain ⟨hk, h0, h1⟩ := Chip.ready_zero hr
  have hs := Chip.page_size h hk h0 h1
  have := h.sz32; have := h.sz1024
  unfold Chip.read; rw [if_neg (by simp [hr])]
  dsimp only
  have hff : c.ff.size = c.sz.toNat + 32 := by unfold Chip.ff Chip.whole; simp [repS_size, mkS_size]
  split
  · rw [ByteArray.size_extract, ByteArray.size_extract, hff]; omega
  · rename_i hz
    have hw := hs.resolve_left hz
    unfold Chip.whole at hw
    rw [ByteArray.size_extract, ByteArray.size_extract, hw]; omega

theorem Page.none_val : Page.none.val = .agg #[.int .i64 0, .int .u8 0, .int .i64 0, .int .u64 0, .int .i64 0, .int .i64 0, .string ⟨#[]⟩] := rfl

theorem driveRead_any (D : DL) (d : Drive) (b p : Int) (w : World) (h : DriveAt w D d) :
    Calls Try.prog 16 #[.pointer (some ⟨D.d, 0, none⟩), .int .i64 b, .int .i64 p] w fun e w' => e = .returned (.tuple #[(d.read b p).1.val, .int .i64 (d.read b p).2]) ∧ Upd noBlk w w' := by
  have HC := hid (fun W hW => Read_any D.c d.chip b p W hW)
  have hsz : (d.chip.read b p).2.2 = 0 → (d.chip.read b p).1.size ≤ 1024 ∧ (d.chip.read b p).2.1.size = 32 := by
    intro he
    refine Chip.read_size h.chip.ok ?_
    unfold Chip.read at he
    by_cases hr : d.chip.ready b p = 0
    · exact hr
    · rw [if_pos hr] at he; exact he
  have hfin : d.read b p = if (d.chip.read b p).2.2 ≠ 0 then (Page.none, (d.chip.read b p).2.2) else if allFF ((d.chip.read b p).1 ++ (d.chip.read b p).2.1) = true then (⟨1, Tag.none, (d.chip.read b p).1⟩, 0) else
      (⟨(pageState p (d.chip.read b p).1 (d.chip.read b p).2.1).1, (pageState p (d.chip.read b p).1 (d.chip.read b p).2.1).2, (d.chip.read b p).1⟩, 0) := rfl
  generalize d.read b p = res at hfin ⊢
  generalize d.chip.read b p = q at *
  obtain ⟨data, beside, e⟩ := q
  dsimp only at *
  have HG := hid h
  have HE := hid hfin
  obtain ⟨c0, _, _⟩ := h.cells
  have hA : Row (w.alloc (.cells #[.int .i64 0, .int .u8 0, .int .i64 0, .int .u64 0, .int .i64 0, .int .i64 0, .string ⟨#[]⟩] 44)) w.heap.size 44 [.int .i64 0, .int .u8 0, .int .i64 0, .int .u64 0, .int .i64 0, .int .i64 0, .string ⟨#[]⟩] := Row.new w _ _
  have hU : Upd noBlk w (w.alloc (.cells #[.int .i64 0, .int .u8 0, .int .i64 0, .int .u64 0, .int .i64 0, .int .i64 0, .string ⟨#[]⟩] 44)) := (Upd.refl _ _).alloc _
  have hlt0 : D.d < w.heap.size := h.top.lt
  by_cases he : e = 0
  · subst he
    obtain ⟨z1, z2⟩ := hsz rfl
    have z1' : data.size ≤ 100000 := by omega
    have HB := hid (fun W => Blank_any data beside (by omega) (by omega) W)
    have HS := hid (fun W hW => state_any D d p data beside z1' z2 W hW)
    rw [if_neg (by simp)] at hfin
    have HE := hid hfin
    clear h hsz hfin
    go_enter Try.func16, Try.ntmps16
    go_wp2_with fail
    have HD := hid (HG.out.upd hU fun _ h => h.elim)
    refine (HC.out _ HD.out.chip).mono ?_; rintro x w1 ⟨rfl, hu⟩
    have HA := hid (hA.upd hu id); have HU := hid (hU.trans' hu); have HD1 := hid (HD.out.upd hu fun _ h => h.elim)
    clear hA hU hu
    go_wp2_with fail
    have hlt : w.heap.size < w1.heap.size := HA.out.lt
    have hA2 : Row (w1.alloc (.cells #[.int .i64 1, .int .u8 0, .int .i64 0, .int .u64 0, .int .i64 0, .int .i64 0, .string data] 44)) w.heap.size 44 [.int .i64 0, .int .u8 0, .int .i64 0, .int .u64 0, .int .i64 0, .int .i64 0, .string ⟨#[]⟩] := HA.out.alloc _
    have hB2 : Row (w1.alloc (.cells #[.int .i64 1, .int .u8 0, .int .i64 0, .int .u64 0, .int .i64 0, .int .i64 0, .string data] 44)) w1.heap.size 44 [.int .i64 1, .int .u8 0, .int .i64 0, .int .u64 0, .int .i64 0, .int .i64 0, .string data] := Row.new w1 _ _
    have hU2 : Upd noBlk w (w1.alloc (.cells #[.int .i64 1, .int .u8 0, .int .i64 0, .int .u64 0, .int .i64 0, .int .i64 0, .string data] 44)) := HU.out.alloc _
    have hD2 : DriveAt (w1.alloc (.cells #[.int .i64 1, .int .u8 0, .int .i64 0, .int .u64 0, .int .i64 0, .int .i64 0, .string data] 44)) D d := HD1.out.upd ((Upd.refl noBlk _).alloc _) fun _ h => h.elim
    generalize w1.alloc (.cells #[.int .i64 1, .int .u8 0, .int .i64 0, .int .u64 0, .int .i64 0, .int .i64 0, .string data] 44) = W2 at hA2 hB2 hU2 hD2 ⊢
    generalize w1.heap.size = B at hlt hB2 ⊢
    have HA2 := hid hA2; have HB2 := hid hB2; have HU2 := hid hU2; have HD2 := hid hD2
    clear hA2 hB2 hU2 hD2
    refine (HB.out _).mono ?_; rintro x w3 ⟨rfl, hu3⟩
    have HA3 := hid (HA2.out.upd hu3 id); have HB3 := hid (HB2.out.upd hu3 id); have HU3 := hid (HU2.out.trans' hu3); have HD3 := hid (HD2.out.upd hu3 fun _ h => h.elim)
    clear hu3
    have hn1 : w.heap.size ≠ B := by omega
    have hn2 : B ≠ w.heap.size := by omega
    generalize allFF (data ++ beside) = ff at HE ⊢
    cases ff
    · have hres := HE.out
      rw [if_neg (by simp)] at hres
      generalize pageState p data beside = ps at HS hres
      obtain ⟨st, k, l, s, pp, n⟩ := ps
      subst hres
      unfold Tag.val at HS
      dsimp only at HS
      go_wp2_with fail
      refine (HS.out _ HD3.out).mono ?_; rintro x w4 ⟨rfl, hu4⟩
      have HA4 := hid (HA3.out.upd hu4 id); have HB4 := hid (HB3.out.upd hu4 id); have HU4 := hid (HU3.out.trans' hu4)
      clear hu4
      have a0 := HA4.out.cell 0; have a1 := HA4.out.cell 1; have a2 := HA4.out.cell 2; have a3 := HA4.out.cell 3; have a4 := HA4.out.cell 4; have a5 := HA4.out.cell 5; have a6 := HA4.out.cell 6; simp only [List.getElem?_cons_zero, List.getElem?_cons_succ] at a0 a1 a2 a3 a4 a5 a6
      have b0 := HB4.out.cell 0; have b1 := HB4.out.cell 1; have b2 := HB4.out.cell 2; have b3 := HB4.out.cell 3; have b4 := HB4.out.cell 4; have b5 := HB4.out.cell 5; have b6 := HB4.out.cell 6; simp only [List.getElem?_cons_zero, List.getElem?_cons_succ] at b0 b1 b2 b3 b4 b5 b6
      have f0 := HA4.out.frozen 0; have f1 := HA4.out.frozen 1; have f2 := HA4.out.frozen 2; have f3 := HA4.out.frozen 3; have f4 := HA4.out.frozen 4; have f5 := HA4.out.frozen 5; have f6 := HA4.out.frozen 6
      have g0 := HB4.out.frozen 0; have g1 := HB4.out.frozen 1; have g2 := HB4.out.frozen 2; have g3 := HB4.out.frozen 3; have g4 := HB4.out.frozen 4; have g5 := HB4.out.frozen 5; have g6 := HB4.out.frozen 6
      go_wp2_with fail
      refine bodyPost_ret (v := .tuple #[.agg #[.int .i64 st, .int .u8 k, .int .i64 l, .int .u64 s, .int .i64 pp, .int .i64 n, .string data], .int .i64 0]) (by simp [results, Try.results16, go_sem, a0, a1, a2, a3, a4, a5, a6]) rfl ⟨rfl, ?_⟩
      repeat (first | with_reducible exact HU4.out | with_reducible refine Upd.drew ?_ | with_reducible refine Upd.drewN ?_ _ | with_reducible refine Upd.alloc ?_ _ | (with_reducible refine Upd.setCell ?_ (Or.inr ?_) _; rotate_left; (first | exact Nat.le_refl _ | (dsimp only; omega))))
    · have hres := HE.out
      rw [if_pos rfl] at hres
      subst hres
      have a0 := HA3.out.cell 0; have a1 := HA3.out.cell 1; have a2 := HA3.out.cell 2; have a3 := HA3.out.cell 3; have a4 := HA3.out.cell 4; have a5 := HA3.out.cell 5; have a6 := HA3.out.cell 6; simp only [List.getElem?_cons_zero, List.getElem?_cons_succ] at a0 a1 a2 a3 a4 a5 a6
      have b0 := HB3.out.cell 0; have b1 := HB3.out.cell 1; have b2 := HB3.out.cell 2; have b3 := HB3.out.cell 3; have b4 := HB3.out.cell 4; have b5 := HB3.out.cell 5; have b6 := HB3.out.cell 6; simp only [List.getElem?_cons_zero, List.getElem?_cons_succ] at b0 b1 b2 b3 b4 b5 b6
      have f0 := HA3.out.frozen 0; have f1 := HA3.out.frozen 1; have f2 := HA3.out.frozen 2; have f3 := HA3.out.frozen 3; have f4 := HA3.out.frozen 4; have f5 := HA3.out.frozen 5; have f6 := HA3.out.frozen 6
      go_wp2_with fail
      refine bodyPost_ret (v := .tuple #[.agg #[.int .i64 1, .int .u8 0, .int .i64 0, .int .u64 0, .int .i64 0, .int .i64 0, .string data], .int .i64 0]) (by simp [results, Try.results16, go_sem, a0, a1, a2, a3, a4, a5, a6]) rfl ⟨rfl, ?_⟩
      repeat (first | with_reducible exact HU3.out | with_reducible refine Upd.drew ?_ | with_reducible refine Upd.drewN ?_ _ | with_reducible refine Upd.alloc ?_ _ | (with_reducible refine Upd.setCell ?_ (Or.inr ?_) _; rotate_left; (first | exact Nat.le_refl _ | (dsimp only; omega))))
  · have hres : res = (Page.none, e) := by rw [HE.out, if_pos he]
    subst hres
    rw [Page.none_val]
    have b1 : (e == 0) = false := by simpa using he
    clear h hsz hfin
    go_enter Try.func16, Try.ntmps16
    go_wp2_with fail
    refine (HC.out _ (HG.out.upd hU fun _ h => h.elim).chip).mono ?_; rintro x w1 ⟨rfl, hu⟩
    have HA := hid (hA.upd hu id); have HU := hid (hU.trans' hu)
    clear hA hU hu
    have hlt : w.heap.size < w1.heap.size := HA.out.lt
    have a0 := HA.out.cell 0; have a1 := HA.out.cell 1; have a2 := HA.out.cell 2; have a3 := HA.out.cell 3; have a4 := HA.out.cell 4; have a5 := HA.out.cell 5; have a6 := HA.out.cell 6
    simp only [List.getElem?_cons_zero, List.getElem?_cons_succ] at a0 a1 a2 a3 a4 a5 a6
    have f0 := HA.out.frozen 0; have f1 := HA.out.frozen 1; have f2 := HA.out.frozen 2; have f3 := HA.out.frozen 3; have f4 := HA.out.frozen 4; have f5 := HA.out.frozen 5; have f6 := HA.out.frozen 6
    go_wp2_with fail
    refine bodyPost_ret (v := .tuple #[.agg #[.int .i64 0, .int .u8 0, .int .i64 0, .int .u64 0, .int .i64 0, .int .i64 0, .string ⟨#[]⟩], .int .i64 e]) (by simp [results, Try.results16, go_sem, a0, a1, a2, a3, a4, a5, a6]) rfl ⟨rfl, ?_⟩
    repeat (first | with_reducible exact HU.out | with_reducible refine Upd.drew ?_ | with_reducible refine Upd.drewN ?_ _ | with_reducible refine Upd.alloc ?_ _ | (with_reducible refine Upd.setCell ?_ (Or.inr ?_) _; rotate_left; (first | exact Nat.le_refl _ | (dsimp only; omega))))

end Go.Proofs.Ytljphijjcagciaa
