/-
  The walk over how a page is, and over a drive's read.
-/
import Derived.Test.YtljphijjcagciaaDrive3
namespace Go.Proofs.Ytljphijjcagciaa
open Go.RowKit

theorem state_any (D : DL) (d : Drive) (page : Int) (data beside : ByteArray) (hd : data.size ≤ 100000) (hb : beside.size = 32) (w : World) (h : DriveAt w D d) :
    Calls Try.prog 45 #[.pointer (some ⟨D.d, 0, none⟩), .int .i64 page, .string data, .string beside] w fun e w' => e = .returned (.tuple #[.int .i64 (pageState page data beside).1, (pageState page data beside).2.val]) ∧ Upd noBlk w w' := by
  have HP := hid (fun W hW => Parse_any D.d 1 data beside hd hb W hW)
  have HF := hid (fun W => Factory_any beside hb W)
  have hfin : pageState page data beside = if (Tag.parse data beside).2 = 0 then (4, (Tag.parse data beside).1) else if (decide (page = 0) && factoryB beside) = true then (3, Tag.none) else (2, Tag.none) := rfl
  generalize factoryB beside = fb at HF hfin
  generalize pageState page data beside = res at hfin ⊢
  generalize Tag.parse data beside = pr at HP hfin
  obtain ⟨⟨k, l, s, p, n⟩, e⟩ := pr
  have HT := hid h.tab
  have HE := hid hfin
  unfold Tag.val at HP
  dsimp only at HP HE
  clear hfin h
  go_enter Try.func45, Try.ntmps45
  go_wp2_with fail
  have hA : Row (w.alloc (.cells #[.int .u8 0, .int .i64 0, .int .u64 0, .int .i64 0, .int .i64 0] 36)) w.heap.size 36 [.int .u8 0, .int .i64 0, .int .u64 0, .int .i64 0, .int .i64 0] := Row.new w _ _
  have hU : Upd noBlk w (w.alloc (.cells #[.int .u8 0, .int .i64 0, .int .u64 0, .int .i64 0, .int .i64 0] 36)) := (Upd.refl _ _).alloc _
  refine (HP.out _ (hU.tab HT.out)).mono ?_; rintro x w1 ⟨rfl, hu⟩
  have HA := hid (hA.upd hu id); have HU := hid (hU.trans' hu)
  clear hA hU hu
  have hlt : w.heap.size < w1.heap.size := HA.out.lt
  have a0 := HA.out.cell 0; have a1 := HA.out.cell 1; have a2 := HA.out.cell 2; have a3 := HA.out.cell 3; have a4 := HA.out.cell 4
  simp only [List.getElem?_cons_zero, List.getElem?_cons_succ] at a0 a1 a2 a3 a4
  have f0 := HA.out.frozen 0; have f1 := HA.out.frozen 1; have f2 := HA.out.frozen 2; have f3 := HA.out.frozen 3; have f4 := HA.out.frozen 4
  by_cases he : e = 0
  · subst he
    have hres : res = (4, ⟨k, l, s, p, n⟩) := by rw [HE.out, if_pos rfl]
    subst hres
    go_wp2_with fail
    go_region
    go_wp2_with fail
    refine bodyPost_ret (v := .tuple #[.int .i64 4, .agg #[.int .u8 k, .int .i64 l, .int .u64 s, .int .i64 p, .int .i64 n]]) (by simp [results, Try.results45, go_sem, hlt, a0, a1, a2, a3, a4]) rfl ⟨rfl, ?_⟩
    repeat (first | with_reducible exact HU.out | with_reducible refine Upd.drew ?_ | with_reducible refine Upd.drewN ?_ _ | with_reducible refine Upd.alloc ?_ _ | (with_reducible refine Upd.setCell ?_ (Or.inr ?_) _; rotate_left; (first | exact Nat.le_refl _ | (dsimp only; omega))))
  · have b1 : (e == 0) = false := by simpa using he
    by_cases hp : page = 0
    · subst hp
      go_wp2_with fail
      refine (HF.out _).mono ?_; rintro x w2 ⟨rfl, rfl⟩
      cases fb
      · have hres : res = (2, Tag.none) := by rw [HE.out, if_neg he]; rfl
        subst hres
        go_wp2_with fail
        refine bodyPost_ret (v := .tuple #[.int .i64 2, .agg #[.int .u8 0, .int .i64 0, .int .u64 0, .int .i64 0, .int .i64 0]]) (by simp [results, Try.results45, go_sem, hlt, a0, a1, a2, a3, a4]) rfl ⟨rfl, ?_⟩
        repeat (first | with_reducible exact HU.out | with_reducible refine Upd.drew ?_ | with_reducible refine Upd.drewN ?_ _ | with_reducible refine Upd.alloc ?_ _ | (with_reducible refine Upd.setCell ?_ (Or.inr ?_) _; rotate_left; (first | exact Nat.le_refl _ | (dsimp only; omega))))
      · have hres : res = (3, Tag.none) := by rw [HE.out, if_neg he]; rfl
        subst hres
        go_wp2_with fail
        refine bodyPost_ret (v := .tuple #[.int .i64 3, .agg #[.int .u8 0, .int .i64 0, .int .u64 0, .int .i64 0, .int .i64 0]]) (by simp [results, Try.results45, go_sem, hlt, a0, a1, a2, a3, a4]) rfl ⟨rfl, ?_⟩
        repeat (first | with_reducible exact HU.out | with_reducible refine Upd.drew ?_ | with_reducible refine Upd.drewN ?_ _ | with_reducible refine Upd.alloc ?_ _ | (with_reducible refine Upd.setCell ?_ (Or.inr ?_) _; rotate_left; (first | exact Nat.le_refl _ | (dsimp only; omega))))
    · have hres : res = (2, Tag.none) := by rw [HE.out, if_neg he, if_neg (by simp [hp])]
      subst hres
      have b2 : (page == 0) = false := by simpa using hp
      go_wp2_with fail
      refine bodyPost_ret (v := .tuple #[.int .i64 2, .agg #[.int .u8 0, .int .i64 0, .int .u64 0, .int .i64 0, .int .i64 0]]) (by simp [results, Try.results45, go_sem, hlt, a0, a1, a2, a3, a4]) rfl ⟨rfl, ?_⟩
      repeat (first | with_reducible exact HU.out | with_reducible refine Upd.drew ?_ | with_reducible refine Upd.drewN ?_ _ | with_reducible refine Upd.alloc ?_ _ | (with_reducible refine Upd.setCell ?_ (Or.inr ?_) _; rotate_left; (first | exact Nat.le_refl _ | (dsimp only; omega))))

end Go.Proofs.Ytljphijjcagciaa
