/-
  The walks over layer 14's statements' own making of a stream, and their signs of life.
  The walk over layer 14's signs of life.
  The walk over the statement that blocks are filled page by page.
  The walk over the statement on nil ones.
-/
import Derived.Test.YtljphijjcagciaaBatchB
import Derived.Deep.DeepCutAuto
namespace Go.Proofs.Ytljphijjcagciaa
open Go.RowKit

theorem full14_any (l : List UInt8) (n : Nat) (hl : l.length ≤ 1000000) (hn : n ≤ 1000000) (w : World) :
    Calls Try.prog 20 #[.string (mkS l), .int .i64 (n : Int)] w fun e w' => e = .returned (.string (fullS l n)) ∧ Upd noBlk w w' := by
  have HR := hid (fun w' => Repeat_any (mkS [85]) (n : Int) w' (by omega) (by simp [mkS_size]; omega))
  have h1 : (repS (mkS [85]) n).size = n := by rw [repS_size, mkS_size]; simp
  have hs : (mkS l).size = l.length := rfl
  simp only [Int.toNat_natCast] at HR
  unfold fullS
  generalize repS (mkS [85]) n = R at HR h1 ⊢
  generalize mkS l = S at hs ⊢
  go_enter Try.func20, Try.ntmps20
  go_wp2_with fail
  refine (HR.out _).mono ?_; rintro e w1 ⟨rfl, hu⟩
  have HU := hid hu; clear hu
  go_wp2_with fail
  go_ret
  exact ⟨rfl, HU.out⟩

def fresh14 : Abs := Abs.fresh 6 4 32
theorem fresh14_any (w : World) : Calls Try.prog 17 #[] w fun e w' => ∃ S : SL, (∀ k, S.foot k → w.heap.size ≤ k) ∧
      e = .returned (.tuple #[.pointer (some ⟨S.d.c.a, 0, none⟩), .pointer (some ⟨S.d.d, 0, none⟩), .pointer (some ⟨S.p.a, 0, none⟩), .pointer (some ⟨S.s, 0, none⟩), .bool true]) ∧ StreamAt w' S fresh14.stream ∧ Upd noBlk w w' := by
  have HN := hid (fun W => New_good 6 4 32 W (by decide))
  have HPN := hid (fun W => poolNew_any 6 (by decide) (by decide) W)
  go_enter Try.func17, Try.ntmps17
  go_wp2_with fail
  refine (HN.out _).mono ?_; rintro e w1 ⟨L, hL, rfl, hc, hu⟩
  have HC := hid hc; have HU := hid hu; have HL := hid hL; clear hc hu hL
  have HD := hid (fun W (hW : ChipAt W L (Chip.new 6 4 32 [])) => driveNew_any L (Chip.new 6 4 32 []) W hW)
  go_wp2_with fail
  refine (HD.out _ HC.out).mono ?_; rintro e w2 ⟨D, rfl, hDf, rfl, hd, hu2⟩
  clear HD
  have HFT := hid (fun k (hk : D.foot k) => (hDf k hk).elim (fun h => HL.out k h) (fun h => Nat.le_trans HU.out.size h))
  have HD := hid hd; have HU2 := hid (HU.out.trans' hu2); clear hd hu2 hDf HC HU HL
  go_wp2_with fail
  refine (HPN.out _).mono ?_; rintro e w3 ⟨P, hPf, rfl, hp, hu⟩
  have hpl : ∀ k, P.foot k → ¬ D.foot k := fun k hk hd => absurd (hPf k hk) (by have := HD.out.foot_lt hd; omega)
  have HPL := hid hpl; clear hpl
  have HPF := hid (fun k (hk : P.foot k) => Nat.le_trans HU2.out.size (hPf k hk))
  have HD3 := hid (HD.out.upd hu fun _ h => h.elim); have HU3 := hid (HU2.out.trans' hu); have HP3 := hid hp; clear hu hp hPf HD HU2
  have HB := hid (fun W hD hP => batchNew_ok D (Drive.new (Chip.new 6 4 32 [])) P (Pool.new 6) W hD hP (fun k h1 h2 => HPL.out k h1 h2) (Pool.new_count 6))
  go_wp2_with fail
  refine (HB.out _ HD3.out HP3.out).mono ?_; rintro e w4 ⟨S, rfl, rfl, hS, rfl, hs, hu⟩
  have HS := hid hs; have HU4 := hid (HU3.out.trans' hu); have HSN := hid (Nat.le_trans HU3.out.size hS)
  clear hs hu hS HB
  go_wp2_with fail
  refine bodyPost_ret (v := .tuple #[.pointer (some ⟨S.d.c.a, 0, none⟩), .pointer (some ⟨S.d.d, 0, none⟩), .pointer (some ⟨S.p.a, 0, none⟩), .pointer (some ⟨S.s, 0, none⟩), .bool true]) (by simp [results, Try.results17, go_sem]) rfl ⟨S, ?_, rfl, ?_, HU4.out⟩
  · rintro k (hk | hk | hk)
    · exact HFT.out k hk
    · exact HPF.out k hk
    · rw [hk]; exact HSN.out
  · rw [fresh14, Abs.fresh_stream]; exact HS.out

end Go.Proofs.Ytljphijjcagciaa

namespace Go.Proofs.Ytljphijjcagciaa
open Go.RowKit

def tag14 : Tag := ⟨1, 3, 1, 0, 1⟩
theorem fresh14_ok : fresh14.Ok 0 := Abs.fresh_ok 6 4 32 (by decide) (by decide)
theorem fresh14_good : fresh14.Good := Abs.fresh_good 6 4 32
def woke14 : Abs := (fresh14.put tag14 aS).2
theorem woke14_put : fresh14.stream.put1 tag14 aS = (0, 1, 0, woke14.stream) := by
  rw [Abs.put_eq fresh14_ok (by decide)]
  have h : (fresh14.put tag14 aS).1 = (0, 1, 0) := by kernel_rfl
  rw [h]; rfl
theorem woke14_ok : woke14.Ok 1 := Abs.put_ok fresh14_ok (by decide) _ _
theorem woke14_good : woke14.Good := Abs.put_good fresh14_good fresh14_ok (by decide) _ _ (by decide)
theorem woke14_opn : woke14.stream.opn = 0 := by kernel_rfl
theorem woke14_room : woke14.stream.room = 2 := by
  rw [Abs.room_eq woke14_ok]
  have h : woke14.room = 2 := by kernel_rfl
  rw [h]; rfl
theorem woke14_wear : woke14.stream.pl.wear 0 = 1 := by kernel_rfl
theorem woke14_read : woke14.stream.dr.read 0 0 = (⟨4, ⟨2, 0, 1, 0, 1⟩, repS (mkS [0]) 32⟩, 0) := by
  have h := Abs.read woke14_good (k := 0) (i := 0) (by have h : woke14.bl.length = 6 := by kernel_rfl
                                                       omega) (by have h : (woke14.at 0).pages.length = 2 := by kernel_rfl
                                                                  omega) (by have h : (woke14.at 0).pages.length = 2 := by kernel_rfl
                                                                             have h2 : woke14.np = 4 := by kernel_rfl
                                                                             omega)
  have h2 : (woke14.at 0).pages.getD 0 default = (⟨2, 0, 1, 0, 1⟩, repS (mkS [0]) 32) := by kernel_rfl
  rw [h2] at h
  exact h

/-- What is held on the way to a put: a tag's block, a stream, nothing old written. -/
structure Held (w0 : World) (T : Nat) (tl : List Value) (S : SL) (st : Stream) (W : World) : Prop where
  row : Row W T 36 tl
  str : StreamAt W S st
  upd : Upd noBlk w0 W
  far : ¬ S.foot T
  fresh : ∀ k, S.foot k → w0.heap.size ≤ k
theorem Held.quiet {w0 : World} {T : Nat} {tl : List Value} {S : SL} {st : Stream} {W W' : World} (h : Held w0 T tl S st W) (hu : Upd noBlk W W') : Held w0 T tl S st W' :=
  ⟨h.row.upd hu id, h.str.upd hu fun _ h => h.elim, h.upd.trans' hu, h.far, h.fresh⟩
theorem Held.alloc {w0 : World} {T : Nat} {tl : List Value} {S : SL} {st : Stream} {W : World} (h : Held w0 T tl S st W) (o : Obj) : Held w0 T tl S st (W.alloc o) := h.quiet ((Upd.refl _ _).alloc o)
theorem Held.step {w0 : World} {T : Nat} {tl : List Value} {S : SL} {st st' : Stream} {W W' : World} (h : Held w0 T tl S st W) (hs : StreamAt W' S st') (hu : Upd S.foot W W') : Held w0 T tl S st' W' :=
  ⟨h.row.upd hu h.far, hs, h.upd.fresh hu h.fresh, h.far, h.fresh⟩
theorem Held.new {w0 : World} {T : Nat} {tl : List Value} {S : SL} {st : Stream} {W : World} (h : Held w0 T tl S st W) : ¬ S.foot W.heap.size := fun hk => absurd (h.str.foot_lt hk) (Nat.lt_irrefl _)
theorem Held.old {w0 : World} {T : Nat} {tl : List Value} {S : SL} {st : Stream} {W : World} (h : Held w0 T tl S st W) : w0.heap.size ≤ W.heap.size := h.upd.size

theorem Row.newDrew (w : World) (cs : List Value) (t : TypeId) : Row (w.drew.alloc (.cells cs.toArray t)) w.heap.size t cs := Row.new w.drew cs t
/-- What a put leaves in the variables for its place and its error. -/
def PutRel (S : SL) (st : Stream) (x y e : Int) (w0 : World) (T : Nat) (tl : List Value) (v7 v8 : Value) (W : World) : Prop :=
  ∃ B : Nat, v7 = .pointer (some ⟨B, 0, none⟩) ∧ v8 = .int .i64 e ∧ Row W B 53 [.int .i64 x, .int .i64 y] ∧ Held w0 T tl S st W
theorem PutRel.old {S : SL} {st : Stream} {x y e : Int} {w0 : World} {T : Nat} {tl : List Value} {W : World} {B : Nat} {x0 y0 : Value} (h : Held w0 T tl S st W) (hb : Row W B 53 [x0, y0]) (hn : w0.heap.size ≤ B) (hf : ¬ S.foot B) (hT : T ≠ B) :
    PutRel S st x y e w0 T tl (.pointer (some ⟨B, 0, none⟩)) (.int .i64 e) ((W.setCell ⟨B, 0, none⟩ (.int .i64 x)).setCell ⟨B, 1, none⟩ (.int .i64 y)) :=
  ⟨B, rfl, rfl, (hb.put 0 _ rfl).put 1 _ rfl,
    (h.row.far (p := ⟨B, 0, none⟩) hT _).far (p := ⟨B, 1, none⟩) hT _,
    h.str.upd (T := fun k => k = B) (Upd.setCell (S := fun k => k = B) (p := ⟨B, 1, none⟩) (Upd.setCell (S := fun k => k = B) (p := ⟨B, 0, none⟩) (Upd.refl _ _) (.inl rfl) _) (.inl rfl) _) (fun k hk hfk => hf (by rw [← hk]; exact hfk)),
    (h.upd.setCell (p := ⟨B, 0, none⟩) (.inr hn) _).setCell (p := ⟨B, 1, none⟩) (.inr hn) _, h.far, h.fresh⟩
theorem PutRel.fresh {S : SL} {st : Stream} {x y e : Int} {w0 : World} {T : Nat} {tl : List Value} {W : World} (h : Held w0 T tl S st W) :
    PutRel S st x y e w0 T tl (.pointer (some ⟨W.heap.size, 0, none⟩)) (.int .i64 e) (W.alloc (.cells #[.int .i64 x, .int .i64 y] 53)) :=
  ⟨W.heap.size, rfl, rfl, Row.new W _ _, h.alloc _⟩

theorem wakes14_any (w : World) : Calls Try.prog 18 #[] w fun e w' => e = .returned (.bool true) ∧ Upd noBlk w w' := by
  have HFR := hid (fun W => fresh14_any W)
  have HF := hid (fun W => full14_any [97] 32 (by decide) (by decide) W)
  change Hid (∀ W, Calls _ _ #[.string (mkS [97]), .int .i64 32] W fun e w' => e = .returned (.string aS) ∧ Upd noBlk W w') at HF
  have HP := hid (fun S W hW => Put1_any S fresh14.stream tag14 aS W hW (Abs.plain fresh14_ok (by decide) (by decide)) (by unfold aS; rw [fullS_size]; decide) (by decide))
  rw [woke14_put] at HP
  have HO := hid (fun S W hW => Open_any S woke14.stream W hW)
  rw [woke14_opn] at HO
  have HR := hid (fun S W hW => Room_any S woke14.stream W hW)
  rw [woke14_room] at HR
  have HW := hid (fun L W hW => Wear_any L woke14.stream.pl 0 W hW)
  rw [woke14_wear] at HW
  have HRD := hid (fun D W hW => driveRead_any D woke14.stream.dr 0 0 W hW)
  rw [woke14_read] at HRD
  have HSI := hid (fun L W hW => Sins_any L woke14.stream.dr.chip W hW)
  change Hid (∀ L W, ChipAt W L woke14.stream.dr.chip → Calls _ _ _ W fun e w' => e = .returned (.int .i64 0) ∧ W = w') at HSI
  simp only [Tag.val, Page.val, tag14] at HP HRD
  generalize aS = A at *
  generalize repS (mkS [0]) 32 = Z at *
  generalize woke14.stream = S1 at *
  generalize fresh14.stream = S0 at *
  go_enter Try.func18, Try.ntmps18
  go_wp2_with fail
  refine (HFR.out _).mono ?_; rintro e w1 ⟨S, hS, rfl, hs, hu⟩
  have HS := hid hs; have HU := hid hu; have HFT := hid hS; clear hs hu hS HFR
  go_wp2_with fail
  have hA : Row (w1.alloc (.cells #[.int .u8 1, .int .i64 3, .int .u64 1, .int .i64 0, .int .i64 1] 36)) w1.heap.size 36 [.int .u8 1, .int .i64 3, .int .u64 1, .int .i64 0, .int .i64 1] := Row.new w1 _ _
  have hU : Upd noBlk w1 (w1.alloc (.cells #[.int .u8 1, .int .i64 3, .int .u64 1, .int .i64 0, .int .i64 1] 36)) := (Upd.refl _ _).alloc _
  have hTD : ¬ S.foot w1.heap.size := fun hk => by
    have := HS.out.foot_lt hk; omega
  generalize w1.alloc (.cells #[.int .u8 1, .int .i64 3, .int .u64 1, .int .i64 0, .int .i64 1] 36) = W at hA hU ⊢
  generalize w1.heap.size = T at hA hTD ⊢
  have h2 : Held w T [.int .u8 1, .int .i64 3, .int .u64 1, .int .i64 0, .int .i64 1] S S0 W := ⟨hA, HS.out.upd hU (fun _ h => h.elim), HU.out.trans' hU, hTD, HFT.out⟩
  have h3 : Held w T [.int .u8 1, .int .i64 3, .int .u64 1, .int .i64 0, .int .i64 1] S S0 W.drew := h2.quiet (Upd.refl _ _).drew
  have k0 := h2.row.get (i := 0) rfl; have k1 := h2.row.get (i := 1) rfl; have k2 := h2.row.get (i := 2) rfl; have k3 := h2.row.get (i := 3) rfl; have k4 := h2.row.get (i := 4) rfl
  have t2 := Nat.ne_of_lt h2.row.lt; have t2' := t2.symm
  have HTN := hid (HU.out.size)
  clear hA hU hTD HS HU HFT
  go_upto_region 3 with fail
  go_cut [7, 8] (fun v7 v8 wx => PutRel S S1 0 1 0 w T [.int .u8 1, .int .i64 3, .int .u64 1, .int .i64 0, .int .i64 1] v7 v8 wx)
  case first =>
    go_region_held3 (fun w' => w'.cell? ⟨T, 0, none⟩ = some (.int .u8 1) ∧ w'.cell? ⟨T, 1, none⟩ = some (.int .i64 3) ∧ w'.cell? ⟨T, 2, none⟩ = some (.int .u64 1) ∧ w'.cell? ⟨T, 3, none⟩ = some (.int .i64 0) ∧ w'.cell? ⟨T, 4, none⟩ = some (.int .i64 1))
      (first | go_keep)
      (first
        | (go_at_call 20; refine (HF.out _).mono ?_; rintro e w4 ⟨rfl, hu4⟩; first
            | (have h4 := h3.quiet hu4; have t4 := Nat.ne_of_lt h4.row.lt; have t4' := t4.symm; have k0 := h4.row.get (i := 0) rfl; have k1 := h4.row.get (i := 1) rfl; have k2 := h4.row.get (i := 2) rfl; have k3 := h4.row.get (i := 3) rfl; have k4 := h4.row.get (i := 4) rfl)
            | (have h4 := (h3.alloc (.cells #[.int .i64 0, .int .i64 0] 53)).quiet hu4; have b4 := (Row.newDrew W [.int .i64 0, .int .i64 0] 53).upd hu4 id; have k0 := h4.row.get (i := 0) rfl; have k1 := h4.row.get (i := 1) rfl; have k2 := h4.row.get (i := 2) rfl; have k3 := h4.row.get (i := 3) rfl; have k4 := h4.row.get (i := 4) rfl; have m0 := b4.get (i := 0) rfl; have n0 := b4.frozen 0; have m1 := b4.get (i := 1) rfl; have n1 := b4.frozen 1))
        | (go_at_call 19; first
            | ((with_reducible refine (HP.out _ _ h4.str).mono ?_); rintro e w5 ⟨rfl, hs5, hu5⟩; have h5 := h4.step hs5 hu5; have k0 := h5.row.get (i := 0) rfl; have k1 := h5.row.get (i := 1) rfl; have k2 := h5.row.get (i := 2) rfl; have k3 := h5.row.get (i := 3) rfl; have k4 := h5.row.get (i := 4) rfl; first | (have b5 := b4.upd hu5 h2.new; have m0 := b5.get (i := 0) rfl; have n0 := b5.frozen 0; have m1 := b5.get (i := 1) rfl; have n1 := b5.frozen 1) | skip)
            | ((with_reducible refine (HP.out _ _ (h4.alloc (.cells #[.int .i64 0, .int .i64 0] 53)).str).mono ?_); rintro e w5 ⟨rfl, hs5, hu5⟩; have h5 := (h4.alloc _).step hs5 hu5; have b5 := (Row.new w4 [.int .i64 0, .int .i64 0] 53).upd hu5 h4.new; have k0 := h5.row.get (i := 0) rfl; have k1 := h5.row.get (i := 1) rfl; have k2 := h5.row.get (i := 2) rfl; have k3 := h5.row.get (i := 3) rfl; have k4 := h5.row.get (i := 4) rfl; have m0 := b5.get (i := 0) rfl; have n0 := b5.frozen 0; have m1 := b5.get (i := 1) rfl; have n1 := b5.frozen 1)))
    all_goals (go_wp2_with fail; go_meet; first
      | exact PutRel.fresh h5
      | exact PutRel.old h5 b5 h4.old h4.new t4
      | exact PutRel.old h5 b5 h2.old h2.new t2)
  case rest =>
    obtain ⟨B, rfl, rfl, hb, hh⟩ := hcut
    clear k0 k1 k2 k3 k4 h2 h3 t2 t2'
    have b0 := hb.get (i := 0) rfl
    have HB := hid hb; have HH := hid hh
    clear hb hh
    go_wp2_with fail
    refine (HRD.out _ _ HH.out.str.drive).mono ?_; rintro e w6 ⟨rfl, hu⟩
    have HB6 := hid (HB.out.upd hu id); have HH6 := hid (HH.out.quiet hu)
    clear hu b0 HB HH
    have b0 := HB6.out.get (i := 0) rfl; have b1 := HB6.out.get (i := 1) rfl
    have hBl := HB6.out.lt
    go_wp2_with fail
    refine (HO.out _ _ (HH6.out.alloc _).str).mono ?_; rintro e w7 ⟨rfl, hw⟩
    have HH7 := hid (hw ▸ HH6.out.alloc _)
    clear hw
    go_wp2_with fail
    refine (HR.out _ _ HH7.out.str).mono ?_; rintro e w8 ⟨rfl, hu⟩
    have HH8 := hid (HH7.out.quiet hu)
    clear hu
    go_wp2_with fail
    refine (HW.out _ _ HH8.out.str.pool).mono ?_; rintro e w9 ⟨rfl, rfl⟩
    go_wp2_with fail
    refine (HSI.out _ _ HH8.out.str.drive.chip).mono ?_; rintro e w9 ⟨rfl, rfl⟩
    go_wp2_with fail
    go_ret
    exact ⟨rfl, HH8.out.upd⟩

end Go.Proofs.Ytljphijjcagciaa

namespace Go.Proofs.Ytljphijjcagciaa
open Go.RowKit

def emptyS : ByteArray := fullS [] 32
def tagF (i : Nat) : Tag := ⟨1, i, 1, 0, 1⟩
def fill14 : Nat → Abs
  | 0 => fresh14
  | i + 1 => ((fill14 i).put (tagF i) emptyS).2
theorem fill14_ok : ∀ i : Nat, i ≤ 1000 → (fill14 i).Ok i
  | 0, _ => fresh14_ok
  | i + 1, h => by
    have := Abs.put_ok (fill14_ok i (by omega)) (by omega) (tagF i) emptyS
    show ((fill14 i).put (tagF i) emptyS).2.Ok ((i + 1 : Nat) : Int)
    rw [Int.natCast_add]; exact this
theorem fill14_put (i : Nat) (h : i < 18) : ((fill14 i).put (tagF i) emptyS).1 = (((i / 3 : Nat) : Int), ((1 + i % 3 : Nat) : Int), 0) := by
  have hall : ((List.range 18).all fun i => decide (((fill14 i).put (tagF i) emptyS).1 = (((i / 3 : Nat) : Int), ((1 + i % 3 : Nat) : Int), 0))) = true := by kernel_rfl
  exact of_decide_eq_true (List.all_eq_true.1 hall i (List.mem_range.2 h))
theorem fill14_full : ((fill14 18).put (tagF 18) emptyS).1 = (0, 0, 13) := by kernel_rfl
theorem fill14_wear (i k : Nat) (h : i < 19) (hk : k < 6) : (if (fill14 i).chip.has k then ((fill14 i).chip.at k).erases else 0) = (fill14 i).pool.wear k := by
  have hall : ((List.range 19).all fun i => (List.range 6).all fun k => decide ((if (fill14 i).chip.has k then ((fill14 i).chip.at k).erases else 0) = (fill14 i).pool.wear k)) = true := by kernel_rfl
  exact of_decide_eq_true (List.all_eq_true.1 (List.all_eq_true.1 hall i (List.mem_range.2 h)) k (List.mem_range.2 hk))
def lastX (k : Nat) : Int := if k = 0 then -1 else ((k - 1) / 3 : Nat)
def lastY (k : Nat) : Int := if k = 0 then 0 else (1 + (k - 1) % 3 : Nat)


set_option maxRecDepth 100000 in
set_option maxHeartbeats 1000000 in
theorem BatchFills_any (n : Nat) (hn : n < 256) (w : World) : Calls Try.prog 4 #[.int .u8 (n : Int)] w fun e w' => e = .returned (.bool true) ∧ Upd noBlk w w' := by
  have HFR := hid (fun W => fresh14_any W)
  have HWK := hid (fun W => wakes14_any W)
  have HF := hid (fun W => full14_any [] 32 (by decide) (by decide) W)
  change Hid (∀ W, Calls _ _ #[.string (mkS []), .int .i64 32] W fun e w' => e = .returned (.string emptyS) ∧ Upd noBlk W w') at HF
  have HP : ∀ S W (k : Nat), k ≤ 18 → StreamAt W S (fill14 k).stream → Calls Try.prog 19 #[.pointer (some ⟨S.s, 0, none⟩), .agg #[.int .u8 1, .int .i64 (k : Int), .int .u64 1, .int .i64 0, .int .i64 1], .string emptyS] W fun e w' =>
      e = .returned (.tuple #[.agg #[.int .i64 ((fill14 k).put (tagF k) emptyS).1.1, .int .i64 ((fill14 k).put (tagF k) emptyS).1.2.1], .int .i64 ((fill14 k).put (tagF k) emptyS).1.2.2]) ∧ StreamAt w' S (fill14 (k + 1)).stream ∧ Upd S.foot W w' := fun S W k hk hW => by
    have := Put1_any S (fill14 k).stream (tagF k) emptyS W hW (Abs.plain (fill14_ok k (by omega)) (by omega) (by omega)) (by unfold emptyS; rw [fullS_size]; decide) (by simp [tagF])
    rw [Abs.put_eq (fill14_ok k (by omega)) (by omega)] at this
    exact this
  have HPa : Hid (∀ S W (k : Nat), k < 18 → StreamAt W S (fill14 k).stream → Calls Try.prog 19 #[.pointer (some ⟨S.s, 0, none⟩), .agg #[.int .u8 1, .int .i64 (k : Int), .int .u64 1, .int .i64 0, .int .i64 1], .string emptyS] W fun e w' =>
      e = .returned (.tuple #[.agg #[.int .i64 ((k / 3 : Nat) : Int), .int .i64 ((1 + k % 3 : Nat) : Int)], .int .i64 0]) ∧ StreamAt w' S (fill14 (k + 1)).stream ∧ Upd S.foot W w') := hid (fun S W k hk hW => by
    have := HP S W k (by omega) hW
    rw [fill14_put k hk] at this
    exact this)
  have HPb : Hid (∀ S W, StreamAt W S (fill14 18).stream → Calls Try.prog 19 #[.pointer (some ⟨S.s, 0, none⟩), .agg #[.int .u8 1, .int .i64 18, .int .u64 1, .int .i64 0, .int .i64 1], .string emptyS] W fun e w' =>
      e = .returned (.tuple #[.agg #[.int .i64 0, .int .i64 0], .int .i64 13]) ∧ StreamAt w' S (fill14 19).stream ∧ Upd S.foot W w') := hid (fun S W hW => by
    have := HP S W 18 (by omega) hW
    rw [fill14_full] at this
    exact this)
  clear HP
  have HER : Hid (∀ (L : CL) W (i k : Nat), i < 19 → k < 6 → ChipAt W L (fill14 i).chip → Calls Try.prog 21 #[.pointer (some ⟨L.a, 0, none⟩), .int .i64 (k : Int)] W fun e w' => e = .returned (.int .i64 ((fill14 i).pool.wear k)) ∧ W = w') := hid (fun L W i k hi hk hW => by
    have := Erases_any L (fill14 i).chip k W hW
    rw [fill14_wear i k hi hk] at this
    exact this)
  have HWR := hid (fun (L : PL) W (i : Nat) (k : Nat) hW => Wear_any L (fill14 i).pool k W hW)
  obtain ⟨m, hm⟩ : ∃ m, m = n % 60 := ⟨_, rfl⟩
  have hm60 : m < 60 := by omega
  have hmm : (n : Int) % 60 = (m : Int) := by omega
  have hn2 : (n : Int) ≤ 255 := by omega
  clear hn hm
  generalize emptyS = E at *
  go_enter Try.func4, Try.ntmps4
  go_wp2_with fail
  refine (HFR.out _).mono ?_; rintro e w1 ⟨S, hS, rfl, hs, hu⟩
  have HS := hid hs; have HU := hid hu; have HFT := hid hS; clear hs hu hS HFR
  go_wp2_with fail
  refine (HWK.out _).mono ?_; rintro e w2 ⟨rfl, hu⟩
  have HS2 := hid (HS.out.upd hu fun _ h => h.elim); have HU2 := hid (HU.out.trans' hu)
  clear hu HS HU HWK
  go_wp2_with fail
  have hL : Row (w2.alloc (.cells #[.int .i64 (-1), .int .i64 0] 53)) w2.heap.size 53 [.int .i64 (lastX 0), .int .i64 (lastY 0)] := Row.new w2 _ _
  have HL := hid hL
  have HS3 := hid (HS2.out.upd ((Upd.refl noBlk _).alloc (.cells #[.int .i64 (-1), .int .i64 0] 53)) fun _ h => h.elim)
  have HU3 := hid (HU2.out.alloc (.cells #[.int .i64 (-1), .int .i64 0] 53))
  have HBF : Hid (¬ S.foot w2.heap.size) := hid (fun hk => absurd (HS2.out.foot_lt hk) (Nat.lt_irrefl _))
  have HBN := hid HU2.out.size
  clear hL HS2 HU2
  generalize w2.alloc (.cells #[.int .i64 (-1), .int .i64 0] 53) = W3 at *
  generalize w2.heap.size = B at *
  go_loopw [30] (fun i wr => ∃ k : Nat, k ≤ m ∧ k ≤ 18 ∧ i = .int .i64 k ∧ Row wr B 53 [.int .i64 (lastX k), .int .i64 (lastY k)] ∧ StreamAt wr S (fill14 k).stream ∧ Upd noBlk w wr) (fun i _ => m - (intOf i).toNat)
  case atStart => exact ⟨0, by omega, by omega, rfl, HL.out, HS3.out, HU3.out⟩
  case round =>
    obtain ⟨k, hk, hk18, rfl, hl, hs, hu⟩ := hrel
    clear HL HS3 HU3
    have HL := hid hl; have HS3 := hid hs; have HU3 := hid hu
    clear hl hs hu
    by_cases hlt : k < m
    · by_cases h18 : k = 18
      · subst h18
        go_wp2_with fail
        refine (HF.out _).mono ?_; rintro e w4 ⟨rfl, hu⟩
        have HL4 := hid (HL.out.upd hu id); have HS4 := hid (HS3.out.upd hu fun _ h => h.elim); have HU4 := hid (HU3.out.trans' hu)
        clear hu
        go_wp2_with fail
        refine (HPb.out _ _ HS4.out).mono ?_; rintro e w5 ⟨rfl, hs, hu⟩
        have HU5 := hid (HU4.out.fresh hu HFT.out)
        clear hs hu
        go_wp2_with fail
        go_ret
        exact ⟨rfl, HU5.out.alloc _⟩
      · have hPk := fun W hW => HPa.out S W k (by omega) hW
        have hlx : lastX (k + 1) = ((k / 3 : Nat) : Int) := by simp [lastX]
        have hly : lastY (k + 1) = ((1 + k % 3 : Nat) : Int) := by simp [lastY]
        have hcase : (decide (0 ≤ lastX k) = false ∧ (((k / 3 : Nat) : Int) == lastX k) = false ∧ (((k / 3 : Nat) : Int) != lastX k) = true ∧ (((1 + k % 3 : Nat) : Int) != 1) = false ∧ (lastY k != 3) = true) ∨
            (decide (0 ≤ lastX k) = true ∧ (((k / 3 : Nat) : Int) == lastX k) = false ∧ (((k / 3 : Nat) : Int) != lastX k) = true ∧ (((1 + k % 3 : Nat) : Int) != 1) = false ∧ (lastY k != 3) = false) ∨
            (decide (0 ≤ lastX k) = true ∧ (((k / 3 : Nat) : Int) == lastX k) = true ∧ (((k / 3 : Nat) : Int) != lastX k) = false ∧ (((1 + k % 3 : Nat) : Int) != lastY k + 1) = false ∧ decide (lastY k = lastY k) = true) := by
          unfold lastX lastY
          by_cases h0 : k = 0
          · subst h0; left; simp
          · rw [if_neg h0, if_neg h0]
            by_cases h1 : k % 3 = 0
            · right; left
              refine ⟨by simp; omega, ?_, ?_, ?_, ?_⟩ <;> simp <;> omega
            · right; right
              refine ⟨by simp; omega, ?_, ?_, ?_, by simp⟩ <;> simp <;> omega
        have hy0 : 0 ≤ lastY k := by unfold lastY; split <;> omega
        have hy1 : lastY k ≤ 3 := by unfold lastY; split <;> omega
        have HPK := hid hPk; have HLX := hid hlx; have HLY := hid hly
        have hk17 : k < 18 := by omega
        clear hPk hlx hly
        generalize ((k / 3 : Nat) : Int) = X at *
        generalize ((1 + k % 3 : Nat) : Int) = Y at *
        generalize lastX k = LX at *
        generalize lastY k = LY at *
        rcases hcase with ⟨b1, b2, b3, b4, b5⟩ | ⟨b1, b2, b3, b4, b5⟩ | ⟨b1, b2, b3, b4, b5⟩
        all_goals
          go_wp2_with fail
          refine (HF.out _).mono ?_; rintro e w4 ⟨rfl, hu⟩
          have HL4 := hid (HL.out.upd hu id); have HS4 := hid (HS3.out.upd hu fun _ h => h.elim); have HU4 := hid (HU3.out.trans' hu)
          clear hu
          go_wp2_with fail
          refine (HPK.out _ HS4.out).mono ?_; rintro e w5 ⟨rfl, hs, hu⟩
          have HL5 := hid (HL4.out.upd hu HBF.out); have HU5 := hid (HU4.out.fresh hu HFT.out); have HS5 := hid hs
          clear hs hu
          have l0 := HL5.out.get (i := 0) rfl; have l1 := HL5.out.get (i := 1) rfl
          have f0 := HL5.out.frozen 0; have f1 := HL5.out.frozen 1
          have hBl := HL5.out.lt
          have hne : B ≠ w5.heap.size := by omega
          have hne2 : w5.heap.size ≠ B := by omega
          go_wp2_with fail
          have hl6 : Row (((w5.setCell ⟨B, 0, none⟩ (.int .i64 X)).setCell ⟨B, 1, none⟩ (.int .i64 Y)).alloc (.cells #[.int .i64 X, .int .i64 Y] 53)) B 53 [.int .i64 X, .int .i64 Y] := ((HL5.out.put 0 _ rfl).put 1 _ rfl).alloc _
          have hu6 : Upd noBlk w (((w5.setCell ⟨B, 0, none⟩ (.int .i64 X)).setCell ⟨B, 1, none⟩ (.int .i64 Y)).alloc (.cells #[.int .i64 X, .int .i64 Y] 53)) := ((HU5.out.setCell (p := ⟨B, 0, none⟩) (.inr HBN.out) _).setCell (p := ⟨B, 1, none⟩) (.inr HBN.out) _).alloc _
          have hs6 : StreamAt (((w5.setCell ⟨B, 0, none⟩ (.int .i64 X)).setCell ⟨B, 1, none⟩ (.int .i64 Y)).alloc (.cells #[.int .i64 X, .int .i64 Y] 53)) S (fill14 (k + 1)).stream :=
            HS5.out.upd (T := fun j => j = B) ((Upd.setCell (S := fun j => j = B) (p := ⟨B, 1, none⟩) (Upd.setCell (S := fun j => j = B) (p := ⟨B, 0, none⟩) (Upd.refl _ _) (.inl rfl) _) (.inl rfl) _).alloc _) (fun j hj hf => HBF.out (by rw [← hj]; exact hf))
          generalize ((w5.setCell ⟨B, 0, none⟩ (.int .i64 X)).setCell ⟨B, 1, none⟩ (.int .i64 Y)).alloc (.cells #[.int .i64 X, .int .i64 Y] 53) = W6 at hl6 hu6 hs6 ⊢
          have HL6 := hid hl6; have HU6 := hid hu6; have HS6 := hid hs6
          clear hl6 hu6 hs6 l0 l1 f0 f1 hBl hne hne2 b1 b2 b3 b4 b5
          go_loop [85] (fun i => ∃ j : Nat, j ≤ 6 ∧ i = .int .i64 j) (fun i => 6 - (intOf i).toNat)
          case atStart => exact ⟨0, by omega, rfl⟩
          case round =>
            obtain ⟨j, hj, rfl⟩ := hrel
            by_cases hj6 : j < 6
            · have hE1 := fun W hW => HER.out S.d.c W (k + 1) j (by omega) hj6 hW
              have hE2 := fun W hW => HWR.out S.p W (k + 1) j hW
              have HE1 := hid hE1; have HE2 := hid hE2
              clear hE1 hE2
              generalize (fill14 (k + 1)).pool.wear (j : Int) = V at HE1 HE2
              go_wp2_with fail
              refine (HE1.out _ HS6.out.drive.chip).mono ?_; rintro e w7 ⟨rfl, rfl⟩
              go_wp2_with fail
              refine (HE2.out _ HS6.out.pool).mono ?_; rintro e w7 ⟨rfl, rfl⟩
              go_wp2_with fail
              go_round
              case rel => exact ⟨j + 1, by omega, by go_num⟩
              case measure => simp [intOf]; omega
            · go_wp2_with fail
              refine ⟨⟨_, _, _, _, _, .int .i64 ((k : Int) + 1), ⟨k + 1, by omega, by omega, by go_num, ?_, HS6.out, HU6.out⟩, rfl, rfl, rfl, rfl, rfl, rfl⟩, by simp [intOf]; omega⟩
              rw [HLX.out, HLY.out]; exact HL6.out
    · go_wp2_with fail
      go_ret
      exact ⟨rfl, HU3.out⟩

end Go.Proofs.Ytljphijjcagciaa

namespace Go.Proofs.Ytljphijjcagciaa
open Go.RowKit

set_option maxRecDepth 100000 in
set_option maxHeartbeats 1000000 in
theorem BatchNone_any (data : ByteArray) (n : Int) (hd : data.size ≤ 9223372036854775807) (hn : -9223372036854775808 ≤ n ∧ n ≤ 9223372036854775807) (w : World) :
    Calls Try.prog 5 #[.string data, .int .i64 n] w fun e w' => e = .returned (.bool true) ∧ Upd noBlk w w' := by
  have HFR := hid (fun W => fresh14_any W)
  have HWK := hid (fun W => wakes14_any W)
  have HF := hid (fun W => full14_any [] 32 (by decide) (by decide) W)
  change Hid (∀ W, Calls _ _ #[.string (mkS []), .int .i64 32] W fun e w' => e = .returned (.string emptyS) ∧ Upd noBlk W w') at HF
  obtain ⟨hn0, hn1⟩ := hn
  obtain ⟨j, hj⟩ : ∃ j : Nat, max (0 : Int) n % 12 = (j : Int) := ⟨(max (0 : Int) n % 12).toNat, by omega⟩
  have hj12 : j < 12 := by omega
  have hM0 : 0 ≤ max (0 : Int) n := by omega
  have hM1 : max (0 : Int) n ≤ 9223372036854775807 := by omega
  have HPN := hid (fun W => poolNew_any (1 + j) (by omega) (by omega) W)
  rw [show ((1 + j : Nat) : Int) = 1 + (j : Int) by omega] at HPN
  have HN1 := hid batchNew_nil; have HN2 := hid batchNew_nil2
  have HCL := hid Close_none; have HFN := hid Failed_none; have HPZ := hid (Put_none Tag.none); have HON := hid Open_none; have HRN := hid Room_none
  have HPX : Hid (∀ S W (x : ByteArray), x.size ≤ 31 → StreamAt W S fresh14.stream → Calls Try.prog 19 #[.pointer (some ⟨S.s, 0, none⟩), .agg #[.int .u8 1, .int .i64 0, .int .u64 0, .int .i64 0, .int .i64 1], .string x] W fun e w' =>
      e = .returned (.tuple #[.agg #[.int .i64 0, .int .i64 0], .int .i64 2]) ∧ StreamAt w' S fresh14.stream ∧ Upd S.foot W w') := hid (fun S W x hx hW => by
    have := Put1_any S fresh14.stream ⟨1, 0, 0, 0, 1⟩ x W hW (Abs.plain fresh14_ok (by decide) (by decide)) (by omega) (by decide)
    rw [Abs.put_eq fresh14_ok (by decide), Abs.put_bad (.inr (by show x.size ≠ 32; omega))] at this
    exact this)
  have HPY : Hid (∀ S W, StreamAt W S fresh14.stream → Calls Try.prog 19 #[.pointer (some ⟨S.s, 0, none⟩), .agg #[.int .u8 1, .int .i64 0, .int .u64 0, .int .i64 n, .int .i64 n], .string emptyS] W fun e w' =>
      e = .returned (.tuple #[.agg #[.int .i64 0, .int .i64 0], .int .i64 2]) ∧ StreamAt w' S fresh14.stream ∧ Upd S.foot W w') := hid (fun S W hW => by
    have := Put1_any S fresh14.stream ⟨1, 0, 0, n, n⟩ emptyS W hW (Abs.plain fresh14_ok (by decide) (by decide)) (by unfold emptyS; rw [fullS_size]; decide) (by constructor <;> (dsimp only; omega))
    rw [Abs.put_eq fresh14_ok (by decide), Abs.put_bad (.inl (by simp [Tag.right]))] at this
    exact this)
  have HCO := hid (fun L W hW => Count_any L fresh14.chip W hW)
  change Hid (∀ L W, ChipAt W L fresh14.chip → Calls _ _ _ W fun e w' => e = .returned (.tuple #[.int .i64 0, .int .i64 0]) ∧ ∃ n, w' = W.drewN n) at HCO
  simp only [Tag.val, Tag.none] at HPZ
  have hdi : (data.size : Int) ≤ 9223372036854775807 := by omega
  generalize emptyS = E at *
  clear hd
  go_enter Try.func5, Try.ntmps5
  go_wp2_with fail
  refine (HFR.out _).mono ?_; rintro e w1 ⟨S, hS, rfl, hs, hu⟩
  have HS := hid hs; have HU := hid hu; have HFT := hid hS; clear hs hu hS HFR
  go_wp2_with fail
  refine (HPN.out _).mono ?_; rintro e w2 ⟨P, hPf, rfl, hp, hu⟩
  have HPF := hid (fun k (hk : P.foot k) => Nat.le_trans HU.out.size (hPf k hk))
  have hpl : ∀ k, P.foot k → ¬ S.d.foot k := fun k hk hd => absurd (hPf k hk) (by have := HS.out.foot_lt (.inl hd); omega)
  have HPL := hid hpl; clear hpl
  have HS2 := hid (HS.out.upd hu fun _ h => h.elim); have HU2 := hid (HU.out.trans' hu); have HP2 := hid hp
  clear hu hp hPf HS HU
  go_wp2_with fail
  refine (HN1.out _ _).mono ?_; rintro e w3 ⟨rfl, rfl⟩
  go_wp2_with fail
  refine (HN2.out _ _).mono ?_; rintro e w3 ⟨rfl, rfl⟩
  go_wp2_with fail
  have hbn : Calls Try.prog 24 #[.pointer (some ⟨S.d.d, 0, none⟩), .pointer (some ⟨P.a, 0, none⟩)] w2 fun e w' => ∃ p : Option Addr, e = .returned (.tuple #[.pointer p, .int .i64 (if j = 5 then 0 else 2)]) ∧ Upd noBlk w2 w' := by
    by_cases h5 : j = 5
    · rw [if_pos h5]
      refine (batchNew_ok S.d fresh14.drive P (Pool.new (1 + (j : Int))) w2 HS2.out.drive HP2.out HPL.out ?_).mono ?_
      · rw [h5]; decide
      · rintro e w' ⟨S', _, _, _, rfl, _, hu⟩; exact ⟨_, rfl, hu⟩
    · rw [if_neg h5]
      refine (batchNew_no S.d fresh14.drive P (Pool.new (1 + (j : Int))) w2 HS2.out.drive HP2.out ?_).mono ?_
      · have h := Pool.new_count (1 + j)
        rw [show ((1 + j : Nat) : Int) = 1 + (j : Int) by omega] at h
        rw [h]
        show 1 + (j : Int) ≠ 6
        omega
      · rintro e w' ⟨rfl, hu⟩; exact ⟨_, rfl, hu⟩
  have HBN := hid hbn
  clear hbn
  have hg : ∃ b : Bool, ((if j = 5 then (0 : Int) else 2) == 0) = b ∧ (1 + (j : Int) == 6) = b := by
    by_cases h5 : j = 5
    · exact ⟨true, by simp [h5], by simp [h5]⟩
    · exact ⟨false, by simp [h5], by simp; omega⟩
  generalize (if j = 5 then (0 : Int) else 2) = g at HBN hg
  obtain ⟨bb, hg1, hg2⟩ := hg
  refine HBN.out.mono ?_; rintro e w3 ⟨p3, rfl, hu⟩
  have HS3 := hid (HS2.out.upd hu fun _ h => h.elim); have HU3 := hid (HU2.out.trans' hu)
  clear hu HP2 HBN HS2 HU2 HPN
  go_wp2_with fail
  refine (HCL.out _).mono ?_; rintro e w4 ⟨rfl, rfl⟩
  go_wp2_with fail
  refine (HPZ.out _ _).mono ?_; rintro e w4 ⟨rfl, hu⟩
  have HS4 := hid (HS3.out.upd hu fun _ h => h.elim); have HU4 := hid (HU3.out.trans' hu)
  clear hu HS3 HU3 HPZ
  go_wp2_with fail
  have hs5 := HS4.out.upd ((Upd.refl noBlk _).alloc (.cells #[.int .i64 0, .int .i64 0] 53)) fun _ h => h.elim
  refine (HPX.out _ _ _ (by rw [ByteArray.size_extract]; omega) hs5).mono ?_; rintro e w5 ⟨rfl, hs, hu⟩
  have HS5 := hid hs; have HU5 := hid ((HU4.out.alloc (.cells #[.int .i64 0, .int .i64 0] 53)).fresh hu HFT.out)
  clear hs hu hs5 HS4 HU4
  go_wp2_with fail
  refine (HF.out _).mono ?_; rintro e w6 ⟨rfl, hu⟩
  have HS6 := hid (HS5.out.upd (((Upd.refl noBlk _).alloc (.cells #[.int .i64 0, .int .i64 0] 53)).trans' hu) fun _ h => h.elim)
  have HU6 := hid ((HU5.out.alloc (.cells #[.int .i64 0, .int .i64 0] 53)).trans' hu)
  clear hu HS5 HU5
  go_wp2_with fail
  refine (HPY.out _ _ HS6.out).mono ?_; rintro e w7 ⟨rfl, hs, hu⟩
  have HS7 := hid hs; have HU7 := hid (HU6.out.fresh hu HFT.out)
  clear hs hu HS6 HU6
  go_wp2_with fail
  refine (HCO.out _ _ (HS7.out.upd ((Upd.refl noBlk _).alloc (.cells #[.int .i64 0, .int .i64 0] 53)) fun _ h => h.elim).drive.chip).mono ?_; rintro e w8 ⟨rfl, n8, hw⟩
  have HU8 : Hid (Upd noBlk w w8) := hid (hw ▸ (HU7.out.alloc (.cells #[.int .i64 0, .int .i64 0] 53)).drewN n8)
  clear hw HS7 HU7
  go_wp2_with fail
  refine (HWK.out _).mono ?_; rintro e w9 ⟨rfl, hu⟩
  have HU9 := hid (HU8.out.trans' hu)
  clear hu
  go_wp2_with fail
  refine (HON.out _).mono ?_; rintro e w10 ⟨rfl, rfl⟩
  go_wp2_with fail
  refine (HRN.out _).mono ?_; rintro e w10 ⟨rfl, rfl⟩
  go_wp2_with fail
  refine (HFN.out _).mono ?_; rintro e w10 ⟨rfl, rfl⟩
  go_wp2_with fail
  go_ret
  exact ⟨rfl, HU9.out⟩

end Go.Proofs.Ytljphijjcagciaa
