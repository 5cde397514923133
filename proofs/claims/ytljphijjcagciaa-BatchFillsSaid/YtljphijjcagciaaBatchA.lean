/-
  How a stream over a pool's blocks lies in memory, and the walks over its small methods.
  A chip none of whose blocks fails, and streams over it: plain laws.
  The walk over a stream's opening of a block.
  The walks over a stream's being ready, and its put, where no block fails.
  The walk over a stream's put, where no block fails.
-/
import Derived.Test.YtljphijjcagciaaPureP
import Derived.Test.YtljphijjcagciaaPoolA
import Derived.Test.YtljphijjcagciaaDriveA
import Derived.LoopN
namespace Go.Proofs.Ytljphijjcagciaa
open Go.RowKit

structure SL where
  d : DL
  p : PL
  s : Nat
def SL.foot (S : SL) (k : Nat) : Prop := S.d.foot k ∨ S.p.foot k ∨ k = S.s
structure StreamAt (w : World) (S : SL) (s : Stream) : Prop where
  drive : DriveAt w S.d s.dr
  pool : PoolAt w S.p s.pl
  top : Row w S.s 96 [.pointer (some ⟨S.d.d, 0, none⟩), .pointer (some ⟨S.p.a, 0, none⟩), .int .i64 s.opn, .slice none 0 0]
  nof : s.failed = []
  fp : ∀ k, S.p.foot k → ¬ S.d.foot k
  fs : ¬ S.d.foot S.s
  fq : ¬ S.p.foot S.s
theorem StreamAt.upd {w w' : World} {S : SL} {s : Stream} {T : Nat → Prop} (h : StreamAt w S s) (hu : Upd T w w') (hs : ∀ k, T k → ¬ S.foot k) : StreamAt w' S s :=
  ⟨h.drive.upd hu (fun k hk hf => hs k hk (.inl hf)), h.pool.upd hu (fun k hk hf => hs k hk (.inr (.inl hf))), h.top.upd hu (fun hk => hs _ hk (.inr (.inr rfl))), h.nof, h.fp, h.fs, h.fq⟩
theorem StreamAt.foot_lt {w : World} {S : SL} {s : Stream} (h : StreamAt w S s) {k : Nat} (hk : S.foot k) : k < w.heap.size := by
  rcases hk with hk | hk | hk
  · exact h.drive.foot_lt hk
  · exact h.pool.foot_lt hk
  · rw [hk]; exact h.top.lt
/-- The drive is another. -/
theorem StreamAt.drive_put {w w' : World} {S : SL} {s : Stream} (h : StreamAt w S s) {d : Drive} (hu : Upd S.d.foot w w') (hd : DriveAt w' S.d d) : StreamAt w' S { s with dr := d } :=
  ⟨hd, h.pool.upd hu (fun k hk hf => h.fp k hf hk), h.top.upd hu h.fs, h.nof, h.fp, h.fs, h.fq⟩
theorem StreamAt.pool_put {w w' : World} {S : SL} {s : Stream} (h : StreamAt w S s) {p : Pool} (hu : Upd S.p.foot w w') (hp : PoolAt w' S.p p) : StreamAt w' S { s with pl := p } :=
  ⟨h.drive.upd hu h.fp, hp, h.top.upd hu h.fq, h.nof, h.fp, h.fs, h.fq⟩
theorem StreamAt.opn_set {w : World} {S : SL} {s : Stream} (h : StreamAt w S s) (k : Int) : StreamAt (w.setCell ⟨S.s, 2, none⟩ (.int .i64 k)) S { s with opn := k } :=
  ⟨h.drive.upd (S := fun j => j = S.s) (Upd.setCell (S := fun j => j = S.s) (p := ⟨S.s, 2, none⟩) (Upd.refl _ _) (.inl rfl) _) (fun k hk hf => h.fs (by rw [← hk]; exact hf)),
    h.pool.upd (S := fun j => j = S.s) (Upd.setCell (S := fun j => j = S.s) (p := ⟨S.s, 2, none⟩) (Upd.refl _ _) (.inl rfl) _) (fun k hk hf => h.fq (by rw [← hk]; exact hf)),
    h.top.put 2 _ rfl, h.nof, h.fp, h.fs, h.fq⟩

theorem Open_any (S : SL) (s : Stream) (w : World) (h : StreamAt w S s) :
    Calls Try.prog 27 #[.pointer (some ⟨S.s, 0, none⟩)] w fun e w' => e = .returned (.int .i64 s.opn) ∧ w = w' := by
  have c2 := h.top.get (i := 2) rfl
  clear h
  go_enter Try.func27, Try.ntmps27
  go_wp2
  go_ret
  exact ⟨rfl, rfl⟩
theorem Open_none (w : World) : Calls Try.prog 27 #[.pointer none] w fun e w' => e = .returned (.int .i64 (-1)) ∧ w = w' := by
  go_enter Try.func27, Try.ntmps27
  go_wp2
  go_ret
  exact ⟨rfl, rfl⟩
theorem Room_none (w : World) : Calls Try.prog 28 #[.pointer none] w fun e w' => e = .returned (.int .i64 0) ∧ w = w' := by
  have H := hid Open_none
  go_enter Try.func28, Try.ntmps28
  go_wp2_with (go_at_call 27; refine (H.out _).mono ?_; rintro e w' ⟨rfl, rfl⟩)
  go_ret
  exact ⟨rfl, rfl⟩

theorem Drive.nextOf_range {w : World} {D : DL} {d : Drive} (h : DriveAt w D d) (k : Int) : -1 ≤ d.nextOf k ∧ d.nextOf k ≤ d.chip.np := by
  unfold Drive.nextOf
  cases hk : d.is k
  · have := h.chip.ok.np2; simp; omega
  · simpa using h.nextr hk
theorem Room_any (S : SL) (s : Stream) (w : World) (h : StreamAt w S s) :
    Calls Try.prog 28 #[.pointer (some ⟨S.s, 0, none⟩)] w fun e w' => e = .returned (.int .i64 s.room) ∧ Upd noBlk w w' := by
  have HO := hid (fun W hW => Open_any S s W hW)
  have HS := hid h
  have HFIN : Hid (s.room = if s.opn = -1 then 0 else max 0 (s.dr.chip.np - max 0 (s.dr.nextOf s.opn))) := hid rfl
  obtain ⟨n1, n2⟩ := Drive.nextOf_range h.drive s.opn
  have n3 := h.drive.chip.ok.np2; have n4 := h.drive.chip.ok.np64
  have HC := hid (fun W hW => Chip_any S.d s.dr W hW)
  have HSH := hid (fun W hW => Shape_any S.d.c s.dr.chip W hW)
  have HNX := hid (fun W hW => Next_any S.d s.dr s.opn W hW)
  have c0 : ∀ n : UW w, n.w.cell? ⟨S.s, 0, none⟩ = some (.pointer (some ⟨S.d.d, 0, none⟩)) := h.top.uw rfl
  have c2 : ∀ n : UW w, n.w.cell? ⟨S.s, 2, none⟩ = some (.int .i64 s.opn) := h.top.uw rfl
  have hf1 : ∀ W : World, (Instr.field 27 (.agg #[.int .i64 s.dr.chip.nb, .int .i64 s.dr.chip.np, .int .i64 s.dr.chip.sz]) 1).run Try.prog W = .ok (.int .i64 s.dr.chip.np) W := field_shape1 _ _ _
  clear h
  by_cases ho : s.opn = -1
  · have hres : s.room = 0 := by rw [HFIN.out, if_pos ho]
    rw [hres]
    rw [ho] at HO
    clear hres ho c0 c2 hf1 n1 n2 n3 n4
    go_enter Try.func28, Try.ntmps28
    go_wp2_with fail
    refine (HO.out _ HS.out).mono ?_; rintro e w1 ⟨rfl, rfl⟩
    go_wp2_with fail
    go_ret
    exact ⟨rfl, Upd.refl _ _⟩
  · have hres : s.room = max 0 (s.dr.chip.np - max 0 (s.dr.nextOf s.opn)) := by rw [HFIN.out, if_neg ho]
    rw [hres]
    have b1 : (s.opn == -1) = false := by simpa using ho
    clear hres ho
    have HCU := hid (fun n : UW w => UW.call_same (HC.out n.w (HS.out.drive.upd n.upd fun _ h => h.elim)))
    have HSU := hid (fun n : UW w => UW.call (HSH.out n.w (HS.out.drive.upd n.upd fun _ h => h.elim).chip))
    have HNU := hid (fun n : UW w => UW.call_same (HNX.out n.w (HS.out.drive.upd n.upd fun _ h => h.elim)))
    generalize s.dr.nextOf s.opn = x at *
    generalize s.dr.chip.np = np at *
    have HE : Hid (max (0 : Int) x = max 0 x) := hid rfl
    have q1 : 0 ≤ max (0 : Int) x := by omega
    have q2 : max (0 : Int) x ≤ np := by omega
    go_enter Try.func28, Try.ntmps28
    go_wp2_with fail
    refine (HO.out _ HS.out).mono ?_; rintro e w1 ⟨rfl, rfl⟩
    go_wp2_with fail
    refine wp_region_upd (by kernel_rfl) (by kernel_rfl) ?_
    repeat (go_big_quiet_step (first | exact HCU.out _ | exact HSU.out _ | exact HNU.out _))
    refine wpQuiet_nil ?_
    rintro _ ⟨nq, rfl⟩
    go_wp2_with fail
    go_ret
    exact ⟨rfl, nq.upd⟩

end Go.Proofs.Ytljphijjcagciaa

namespace Go.Proofs.Ytljphijjcagciaa
open Go.RowKit

def Chip.Calm (c : Chip) : Prop := 0 ≤ c.fuse ∧ c.fuse ≤ 1000000 ∧ ∀ b ∈ c.bl, b.weak = false
theorem Chip.calm_at {c : Chip} (h : c.Calm) {k : Int} (hk : c.has k = true) : (c.at k).weak = false := h.2.2 _ (List.mem_of_getElem? (Chip.at_eq hk))
theorem Chip.calm_sin {c : Chip} (h : c.Calm) : c.sin.Calm := h
theorem Chip.calm_put {c : Chip} (h : c.Calm) (k : Int) {b : Blk} (hb : b.weak = false) : (c.put k b).Calm :=
  ⟨h.1, h.2.1, fun x hx => by
    rcases List.mem_or_eq_of_mem_set hx with hx | rfl
    · exact h.2.2 x hx
    · exact hb⟩
theorem Chip.calm_burn {c : Chip} (h : c.Calm) (er : Bool) : (c.burn er).2.Calm := by
  obtain ⟨h0, h1, h2⟩ := h
  refine ⟨?_, ?_, by rw [Chip.burn_bl]; exact h2⟩
  · unfold Chip.burn; cases er <;> simp only [Bool.false_eq_true, if_true, if_false] <;> split <;> simp only <;> omega
  · unfold Chip.burn; cases er <;> simp only [Bool.false_eq_true, if_true, if_false] <;> split <;> simp only <;> omega
theorem Chip.erase_calm {c : Chip} (h : c.Calm) (b : Int) : (c.erase b).2.Calm ∧ (c.erase b).1 ≠ 10 := by
  by_cases hr : c.ready b 0 = 0
  · have hk := (Chip.ready_zero hr).1
    cases hf : (c.at b).failed
    · rw [Chip.erase_go hr hf]
      have hb := Chip.calm_burn h true
      have hc := Blk.clear_rest (c.at b)
      split
      · exact ⟨Chip.calm_put hb b (by rw [(hc _).2.1]; exact Chip.calm_at h hk), by simp⟩
      · rw [if_neg (by rw [Chip.calm_at h hk]; simp)]
        exact ⟨Chip.calm_put hb b (by show ((c.at b).clear allPg).weak = false; rw [(hc _).2.1]; exact Chip.calm_at h hk), by simp⟩
    · have : c.erase b = (12, c.sin) := by unfold Chip.erase; rw [if_neg (by omega)]; simp [hf]
      rw [this]; exact ⟨h, by simp⟩
  · have : c.erase b = (c.ready b 0, c) := by unfold Chip.erase; rw [if_pos hr]
    rw [this]
    refine ⟨h, ?_⟩
    unfold Chip.ready; split
    · simp
    · split <;> simp
theorem Chip.program_calm {c : Chip} (h : c.Calm) (b p : Int) (data beside : ByteArray) : (c.program b p data beside).2.Calm ∧ (c.program b p data beside).1 ≠ 10 := by
  by_cases hr : c.ready b p = 0
  · have hk := (Chip.ready_zero hr).1
    by_cases hs : (data.size : Int) = c.sz ∧ beside.size = 32
    · by_cases hf : (c.at b).failed = false ∧ p = (c.at b).next
      · rw [Chip.program_go hr hs.1 hs.2 hf.1 hf.2]
        have hw := Chip.calm_at h hk
        have hb := Chip.calm_burn (Chip.calm_put h b (b := { c.at b with next := inc (c.at b).next }) hw) false
        split
        · exact ⟨Chip.calm_put hb b hw, by simp⟩
        · rw [if_neg (by rw [hw]; simp)]
          exact ⟨Chip.calm_put hb b hw, by simp⟩
      · cases hff : (c.at b).failed
        · have hp : p ≠ (c.at b).next := fun e => hf ⟨hff, e⟩
          have e : c.program b p data beside = (11, c.sin) := by simp [Chip.program, hr, hs.1, hs.2, hff, hp]
          rw [e]; exact ⟨h, by simp⟩
        · have e : c.program b p data beside = (12, c.sin) := by simp [Chip.program, hr, hs.1, hs.2, hff]
          rw [e]; exact ⟨h, by simp⟩
    · have e : c.program b p data beside = (2, c) := by
        by_cases h1 : (data.size : Int) = c.sz
        · have h2 : beside.size ≠ 32 := fun e => hs ⟨h1, e⟩
          simp [Chip.program, hr, h2]
        · simp [Chip.program, hr, h1]
      rw [e]; exact ⟨h, by simp⟩
  · have : c.program b p data beside = (c.ready b p, c) := by unfold Chip.program; rw [if_pos hr]
    rw [this]
    refine ⟨h, ?_⟩
    unfold Chip.ready; split
    · simp
    · split <;> simp
theorem Drive.learn_chip (d : Drive) (k e : Int) : (d.learn k e).chip = d.chip := by
  unfold Drive.learn Drive.mark Drive.forget; split
  · split <;> rfl
  · split <;> rfl
theorem Drive.ready_ne (d : Drive) (k : Int) : d.ready k ≠ 10 := by
  unfold Drive.ready
  split
  · simp
  · split <;> simp
theorem Drive.erase_calm {d : Drive} (h : d.chip.Calm) (k : Int) : (d.erase k).2.chip.Calm ∧ (d.erase k).1 ≠ 10 := by
  by_cases hr : d.ready k = 0
  · have he := Chip.erase_calm h k
    rw [Drive.erase_eq hr (e := (d.chip.erase k).1) (c := (d.chip.erase k).2) rfl]
    split
    · exact ⟨he.1, by simp⟩
    · dsimp only; rw [Drive.learn_chip]; exact he
  · have : d.erase k = (d.ready k, d) := by unfold Drive.erase; rw [if_pos hr]
    rw [this]; exact ⟨h, Drive.ready_ne d k⟩
theorem Drive.program_calm {d : Drive} (h : d.chip.Calm) (k : Int) (t : Tag) (data : ByteArray) : (d.program k t data).2.2.chip.Calm ∧ (d.program k t data).2.1 ≠ 10 := by
  by_cases hr : d.ready k = 0
  · unfold Drive.program
    rw [if_neg (by omega)]
    dsimp only
    split
    · exact ⟨h, by simp⟩
    · split
      · exact ⟨h, by simp⟩
      · have he := Chip.program_calm h k (d.next.getD k.toNat 0) data (t.beside data)
        split
        · dsimp only; rw [Drive.learn_chip]; exact he
        · dsimp only; rw [Drive.learn_chip]; exact ⟨he.1, by simp⟩
  · have : d.program k t data = (0, d.ready k, d) := by unfold Drive.program; rw [if_pos hr]
    rw [this]; exact ⟨h, Drive.ready_ne d k⟩

end Go.Proofs.Ytljphijjcagciaa

namespace Go.Proofs.Ytljphijjcagciaa
open Go.RowKit

set_option maxHeartbeats 1000000 in
theorem head_any (S : SL) (s : Stream) (k : Int) (w : World) (h : StreamAt w S s) (hc : s.dr.chip.Calm) (hw : 0 ≤ s.pl.wear k ∧ s.pl.wear k ≤ 1000000000) :
    Calls Try.prog 75 #[.pointer (some ⟨S.s, 0, none⟩), .int .i64 k] w fun e w' => e = .returned (.int .i64 (s.head k).1) ∧ StreamAt w' S (s.head k).2 ∧ Upd S.foot w w' := by
  have HG := hid h
  have HE := hid (driveErase_any S.d s.dr k w h.drive hc.2.1)
  have hcalm := (Drive.erase_calm hc k).1
  have hi : inc (s.pl.wear k) = s.pl.wear k + 1 := inc_small (by omega) (by omega)
  have hfin : s.head k = if (s.dr.erase k).1 ≠ 0 then ((s.dr.erase k).1, { s with dr := (s.dr.erase k).2 }) else
      (((s.dr.erase k).2.program k ⟨2, 0, (s.pl.wear k + 1) % 18446744073709551616, 0, 1⟩ (repS (mkS [0]) (s.dr.erase k).2.chip.sz.toNat)).2.1,
        { s with pl := (s.pl.worn k (s.pl.wear k + 1)).2, dr := ((s.dr.erase k).2.program k ⟨2, 0, (s.pl.wear k + 1) % 18446744073709551616, 0, 1⟩ (repS (mkS [0]) (s.dr.erase k).2.chip.sz.toNat)).2.2 }) := by
    unfold Stream.head; dsimp only; rw [hi]
  rw [show (s.pl.wear k + 1) % 18446744073709551616 = s.pl.wear k + 1 by omega] at hfin
  clear hi
  have HWR := hid (fun W hW => Wear_any S.p s.pl k W hW)
  have HWN := hid (fun W hW => Worn_any S.p s.pl k (s.pl.wear k + 1) W hW (by omega))
  generalize s.head k = res at hfin ⊢
  generalize s.dr.erase k = er at *
  obtain ⟨ee, d1⟩ := er
  dsimp only at *
  generalize s.pl.worn k (s.pl.wear k + 1) = pw at *
  obtain ⟨pe, p1⟩ := pw
  dsimp only at *
  have HFIN := hid hfin
  generalize s.pl.wear k = x at *
  have c0 := h.top.get (i := 0) rfl; have c1 := h.top.get (i := 1) rfl
  clear h hfin hc
  by_cases hz : ee = 0
  · subst hz
    have hres := HFIN.out
    rw [if_neg (by simp)] at hres
    have HP := hid (fun W hsz hW => driveProgram_any S.d d1 k ⟨2, 0, x + 1, 0, 1⟩ (repS (mkS [0]) d1.chip.sz.toNat) W hW hcalm.2.1 hsz (by constructor <;> (dsimp only; omega)))
    generalize d1.program k ⟨2, 0, x + 1, 0, 1⟩ (repS (mkS [0]) d1.chip.sz.toNat) = pr at hres HP
    obtain ⟨q0, q1, d2⟩ := pr
    dsimp only at hres HP
    subst hres
    simp only [Tag.val] at HP
    have hwr : IntKind.u64.wrap (x + 1) = x + 1 := by rw [IntKind.wrap_u64]; omega
    clear HFIN hcalm
    go_enter Try.func75, Try.ntmps75
    go_wp2_with fail
    refine HE.out.mono ?_; rintro e w1 ⟨rfl, hd, hu⟩
    have HS1 := hid (HG.out.drive_put hu hd); have HU1 := hid (hu.mono (T := S.foot) fun _ _ h => .inl h)
    have c0 := HS1.out.top.get (i := 0) rfl; have c1 := HS1.out.top.get (i := 1) rfl
    clear hd hu
    go_wp2_with fail
    refine (HWR.out _ HS1.out.pool).mono ?_; rintro e w2 ⟨rfl, rfl⟩
    go_wp2_with fail
    refine (HWN.out _ HS1.out.pool).mono ?_; rintro e w2 ⟨rfl, hp, hu⟩
    have HS2 := hid (HS1.out.pool_put hu hp); have HU2 := hid (HU1.out.trans' (hu.mono (T := S.foot) fun _ _ h => .inr (.inl h)))
    clear hp hu c0 c1
    have c0 := HS2.out.top.get (i := 0) rfl
    have hsz1 := HS2.out.drive.chip.ok.sz32; have hsz2 := HS2.out.drive.chip.ok.sz1024
    change 32 ≤ d1.chip.sz at hsz1
    change d1.chip.sz ≤ 1024 at hsz2
    have HC := hid (fun W hW => Chip_any S.d d1 W hW)
    have HSH := hid (fun W hW => Shape_any S.d.c d1.chip W hW)
    have hf2 := field_shape2 d1.chip.nb d1.chip.np d1.chip.sz
    have HRP := hid (fun w' => Repeat_any (mkS [0]) d1.chip.sz w' (by omega) (by simp [mkS_size]; omega))
    have HRS : Hid ((repS (mkS [0]) d1.chip.sz.toNat).size ≤ 100000) := hid (by rw [repS_size, mkS_size]; simp; omega)
    generalize repS (mkS [0]) d1.chip.sz.toNat = Z at *
    go_wp2_with fail
    go_region_held3 (fun w' => w'.cell? ⟨S.s, 0, none⟩ = some (.pointer (some ⟨S.d.d, 0, none⟩)))
      (first | go_keep)
      (first
        | (go_at_call 47; refine (HC.out _ HS2.out.drive.drew).mono ?_; rintro e w3 ⟨rfl, hw3⟩; have HS3 := hid (hw3 ▸ HS2.out.upd (Upd.refl noBlk _).drew fun _ h => h.elim); have HU3 := hid (hw3 ▸ HU2.out.drew); have k0 := HS3.out.top.get (i := 0) rfl; clear hw3)
        | (go_at_call 33; refine (HSH.out _ HS3.out.drive.chip).mono ?_; rintro e w4 ⟨rfl, hu4⟩; have HS4 := hid (HS3.out.upd hu4 fun _ h => h.elim); have HU4 := hid (HU3.out.trans hu4 fun _ _ h => h.elim); have k0 := HS4.out.top.get (i := 0) rfl; clear hu4)
        | (go_at_call 32; refine (HRP.out _).mono ?_; rintro e w5 ⟨rfl, hu5⟩; have HS5 := hid (HS4.out.upd hu5 fun _ h => h.elim); have HU5 := hid (HU4.out.trans hu5 fun _ _ h => h.elim); have k0 := HS5.out.top.get (i := 0) rfl; clear hu5)
        | (go_at_call 10; refine (HP.out _ HRS.out HS5.out.drive).mono ?_; rintro e w6 ⟨rfl, hd6, hu6⟩; have HS6 := hid (HS5.out.drive_put hu6 hd6); have HU6 := hid (HU5.out.trans hu6 fun _ _ h => .inl h); have k0 := HS6.out.top.get (i := 0) rfl; clear hd6 hu6))
    go_wp2_with fail
    go_ret
    exact ⟨rfl, HS6.out, HU6.out⟩
  · have hres := HFIN.out
    rw [if_pos hz] at hres
    have b1 : (ee == 0) = false := by simpa using hz
    subst hres
    clear HFIN hz HWN
    go_enter Try.func75, Try.ntmps75
    go_wp2_with fail
    refine HE.out.mono ?_; rintro e w1 ⟨rfl, hd, hu⟩
    have HS1 := hid (HG.out.drive_put hu hd); have HU1 := hid (hu.mono (T := S.foot) fun _ _ h => .inl h)
    clear hd hu
    go_wp2_with fail
    go_ret
    exact ⟨rfl, HS1.out, HU1.out⟩

end Go.Proofs.Ytljphijjcagciaa

namespace Go.Proofs.Ytljphijjcagciaa
open Go.RowKit

/-- What being ready comes to, where no block fails. -/
def Stream.ready1 (s : Stream) : Int × Stream :=
  if s.room ≠ 0 then (0, s) else
  if s.pl.take.2.1 ≠ 0 then (s.pl.take.2.1, { s with pl := s.pl.take.2.2, opn := -1 }) else
  let h := ({ s with pl := s.pl.take.2.2 } : Stream).head s.pl.take.1
  if h.1 = 0 then (0, { h.2 with opn := s.pl.take.1 }) else (h.1, { h.2 with opn := -1 })

set_option maxHeartbeats 1000000 in
theorem ready1_any (S : SL) (s : Stream) (w : World) (h : StreamAt w S s) (hc : s.dr.chip.Calm) (hw : ∀ k, 0 ≤ s.pl.take.2.2.wear k ∧ s.pl.take.2.2.wear k ≤ 1000000000)
    (hroom : s.room = 0 → s.pl.take.2.1 = 0 → (({ s with pl := s.pl.take.2.2 } : Stream).head s.pl.take.1).1 = 0 → ({ (({ s with pl := s.pl.take.2.2 } : Stream).head s.pl.take.1).2 with opn := s.pl.take.1 } : Stream).room ≠ 0) :
    Calls Try.prog 48 #[.pointer (some ⟨S.s, 0, none⟩)] w fun e w' => e = .returned (.int .i64 s.ready1.1) ∧ StreamAt w' S s.ready1.2 ∧ Upd S.foot w w' := by
  have HG := hid h
  have HR := hid (fun W hW => Room_any S s W hW)
  have HRES : Hid (s.ready1 = if s.room ≠ 0 then (0, s) else if s.pl.take.2.1 ≠ 0 then (s.pl.take.2.1, { s with pl := s.pl.take.2.2, opn := -1 }) else
    if (({ s with pl := s.pl.take.2.2 } : Stream).head s.pl.take.1).1 = 0 then (0, { (({ s with pl := s.pl.take.2.2 } : Stream).head s.pl.take.1).2 with opn := s.pl.take.1 }) else ((({ s with pl := s.pl.take.2.2 } : Stream).head s.pl.take.1).1, { (({ s with pl := s.pl.take.2.2 } : Stream).head s.pl.take.1).2 with opn := -1 })) := hid rfl
  have HT := hid (fun W hW => Take_any S.p s.pl W hW)
  have HH := hid (fun W hW => head_any S { s with pl := s.pl.take.2.2 } s.pl.take.1 W hW hc (hw _))
  have hne : (({ s with pl := s.pl.take.2.2 } : Stream).head s.pl.take.1).1 ≠ 10 := by
    unfold Stream.head
    dsimp only
    have h1 := Drive.erase_calm hc s.pl.take.1
    split
    · exact h1.2
    · exact (Drive.program_calm h1.1 _ _ _).2
  have HROOM := hid hroom
  generalize s.ready1 = res at HRES ⊢
  have HR2 := hid (fun W (x : Stream) hW => Room_any S x W hW)
  generalize s.pl.take = tk at *
  obtain ⟨k, te, p1⟩ := tk
  dsimp only at *
  generalize ({ s with pl := p1 } : Stream).head k = hd at *
  obtain ⟨he, s2⟩ := hd
  dsimp only at *
  have HNE := hid hne
  clear h hc hw hroom hne
  by_cases hr : s.room = 0
  · have hres := HRES.out
    rw [if_neg (by simp [hr])] at hres
    rw [hr] at HR
    have HROOM := hid (HROOM.out hr)
    clear HRES hr
    have c1 := HG.out.top.get (i := 1) rfl
    by_cases ht : te = 0
    · subst ht
      rw [if_neg (by simp)] at hres
      by_cases hz : he = 0
      · subst hz
        rw [if_pos rfl] at hres
        subst hres
        have hrm := HROOM.out rfl rfl
        have b2 : (({ s2 with opn := k } : Stream).room == 0) = false := by simpa using hrm
        have HR3 := hid (fun W hW => Room_any S { s2 with opn := k } W hW)
        generalize ({ s2 with opn := k } : Stream).room = rm at HR3 b2
        clear HROOM hrm
        go_enter Try.func48, Try.ntmps48
        go_wp2_with fail
        refine wp_loop_rounds 2 ?_
        rw [rounds_succ]
        go_wp2_with fail
        refine (HR.out _ HG.out).mono ?_; rintro e w1 ⟨rfl, hu⟩
        have HS1 := hid (HG.out.upd hu fun _ h => h.elim); have HU1 := hid (hu.mono (T := S.foot) fun _ _ h => h.elim)
        have c1 := HS1.out.top.get (i := 1) rfl
        clear hu
        go_wp2_with fail
        refine (HT.out _ HS1.out.pool).mono ?_; rintro e w2 ⟨rfl, hp, hu⟩
        have HS2 := hid (HS1.out.pool_put hu hp); have HU2 := hid (HU1.out.trans' (hu.mono (T := S.foot) fun _ _ h => .inr (.inl h)))
        clear hp hu c1
        go_wp2_with fail
        refine (HH.out _ HS2.out).mono ?_; rintro e w3 ⟨rfl, hs, hu⟩
        have HS3 := hid hs; have HU3 := hid (HU2.out.trans' hu)
        have c2 := HS3.out.top.get (i := 2) rfl
        have f2 := HS3.out.top.frozen 2
        have HS4 := hid (HS3.out.opn_set k); have HU4 := hid (HU3.out.setCell (p := ⟨S.s, 2, none⟩) (.inl (.inr (.inr rfl))) (.int .i64 k))
        clear hs hu
        go_wp2_with fail
        rw [rounds_succ]
        clear c2 f2
        go_wp2_with fail
        refine (HR3.out _ HS4.out).mono ?_; rintro e w4 ⟨rfl, hu⟩
        have HS5 := hid (HS4.out.upd hu fun _ h => h.elim); have HU5 := hid (HU4.out.trans hu fun _ _ h => h.elim)
        clear hu
        go_wp2_with fail
        go_ret
        exact ⟨rfl, HS5.out, HU5.out⟩
      · rw [if_neg hz] at hres
        subst hres
        have b2 : (he == 0) = false := by simpa using hz
        have b3 : (he == 10) = false := by have := HNE.out; simpa using this
        clear HROOM hz
        go_enter Try.func48, Try.ntmps48
        go_wp2_with fail
        refine wp_loop_rounds 2 ?_
        rw [rounds_succ]
        go_wp2_with fail
        refine (HR.out _ HG.out).mono ?_; rintro e w1 ⟨rfl, hu⟩
        have HS1 := hid (HG.out.upd hu fun _ h => h.elim); have HU1 := hid (hu.mono (T := S.foot) fun _ _ h => h.elim)
        have c1 := HS1.out.top.get (i := 1) rfl
        clear hu
        go_wp2_with fail
        refine (HT.out _ HS1.out.pool).mono ?_; rintro e w2 ⟨rfl, hp, hu⟩
        have HS2 := hid (HS1.out.pool_put hu hp); have HU2 := hid (HU1.out.trans' (hu.mono (T := S.foot) fun _ _ h => .inr (.inl h)))
        clear hp hu c1
        go_wp2_with fail
        refine (HH.out _ HS2.out).mono ?_; rintro e w3 ⟨rfl, hs, hu⟩
        have HS3 := hid hs; have HU3 := hid (HU2.out.trans' hu)
        have c2 := HS3.out.top.get (i := 2) rfl
        have f2 := HS3.out.top.frozen 2
        have HS4 := hid (HS3.out.opn_set (-1)); have HU4 := hid (HU3.out.setCell (p := ⟨S.s, 2, none⟩) (.inl (.inr (.inr rfl))) (.int .i64 (-1)))
        clear hs hu
        go_wp2_with fail
        go_ret
        exact ⟨rfl, HS4.out, HU4.out⟩
    · rw [if_pos ht] at hres
      have b2 : (te == 0) = false := by simpa using ht
      subst hres
      clear HROOM ht HH
      go_enter Try.func48, Try.ntmps48
      go_wp2_with fail
      refine wp_loop_rounds 2 ?_
      rw [rounds_succ]
      go_wp2_with fail
      refine (HR.out _ HG.out).mono ?_; rintro e w1 ⟨rfl, hu⟩
      have HS1 := hid (HG.out.upd hu fun _ h => h.elim); have HU1 := hid (hu.mono (T := S.foot) fun _ _ h => h.elim)
      have c1 := HS1.out.top.get (i := 1) rfl
      clear hu
      go_wp2_with fail
      refine (HT.out _ HS1.out.pool).mono ?_; rintro e w2 ⟨rfl, hp, hu⟩
      have HS2 := hid (HS1.out.pool_put hu hp); have HU2 := hid (HU1.out.trans' (hu.mono (T := S.foot) fun _ _ h => .inr (.inl h)))
      clear hp hu c1
      have c2 := HS2.out.top.get (i := 2) rfl
      have f2 := HS2.out.top.frozen 2
      have HS4 := hid (HS2.out.opn_set (-1)); have HU4 := hid (HU2.out.setCell (p := ⟨S.s, 2, none⟩) (.inl (.inr (.inr rfl))) (.int .i64 (-1)))
      go_wp2_with fail
      go_ret
      exact ⟨rfl, HS4.out, HU4.out⟩
  · have hres := HRES.out
    rw [if_pos hr] at hres
    subst hres
    have b1 : (s.room == 0) = false := by simpa using hr
    clear HRES HROOM hr
    go_enter Try.func48, Try.ntmps48
    go_wp2_with fail
    refine wp_loop_rounds 1 ?_
    rw [rounds_succ]
    go_wp2_with fail
    refine (HR.out _ HG.out).mono ?_; rintro e w1 ⟨rfl, hu⟩
    have HS1 := hid (HG.out.upd hu fun _ h => h.elim); have HU1 := hid hu
    clear hu
    go_wp2_with fail
    go_ret
    exact ⟨rfl, HS1.out, HU1.out.mono fun _ _ h => h.elim⟩

end Go.Proofs.Ytljphijjcagciaa

namespace Go.Proofs.Ytljphijjcagciaa
open Go.RowKit

def Stream.put1 (s : Stream) (t : Tag) (data : ByteArray) : Int × Int × Int × Stream :=
  if (!t.right || decide ((data.size : Int) ≠ s.dr.chip.sz)) = true then (0, 0, 2, s) else
  if s.ready1.1 ≠ 0 then (0, 0, s.ready1.1, s.ready1.2) else
  let p := s.ready1.2.dr.program s.ready1.2.opn t data
  if p.2.1 = 0 then (s.ready1.2.opn, p.1, 0, { s.ready1.2 with dr := p.2.2 }) else (0, 0, p.2.1, { s.ready1.2 with dr := p.2.2, opn := -1 })

theorem Stream.head_calm {s : Stream} (hc : s.dr.chip.Calm) (k : Int) : (s.head k).2.dr.chip.Calm := by
  unfold Stream.head
  dsimp only
  have h1 := Drive.erase_calm hc k
  split
  · exact h1.1
  · exact (Drive.program_calm h1.1 _ _ _).1
theorem Stream.ready1_calm {s : Stream} (hc : s.dr.chip.Calm) : s.ready1.2.dr.chip.Calm := by
  unfold Stream.ready1
  dsimp only
  split
  · exact hc
  · split
    · exact hc
    · have := Stream.head_calm (s := { s with pl := s.pl.take.2.2 }) hc s.pl.take.1
      split <;> exact this

/-- What a stream must be for its put to be told by 'put1': nothing fails, wears are small, a block that was opened has room. -/
structure Stream.Plain (s : Stream) : Prop where
  calm : s.dr.chip.Calm
  wear : ∀ k, 0 ≤ s.pl.take.2.2.wear k ∧ s.pl.take.2.2.wear k ≤ 1000000000
  room : s.room = 0 → s.pl.take.2.1 = 0 → (({ s with pl := s.pl.take.2.2 } : Stream).head s.pl.take.1).1 = 0 → ({ (({ s with pl := s.pl.take.2.2 } : Stream).head s.pl.take.1).2 with opn := s.pl.take.1 } : Stream).room ≠ 0

set_option maxHeartbeats 1000000 in
theorem Put1_any (S : SL) (s : Stream) (t : Tag) (data : ByteArray) (w : World) (h : StreamAt w S s) (hp : s.Plain) (hd : data.size ≤ 100000) (hs : 0 ≤ t.seq ∧ t.seq ≤ 18446744073709551615) :
    Calls Try.prog 19 #[.pointer (some ⟨S.s, 0, none⟩), t.val, .string data] w fun e w' =>
      e = .returned (.tuple #[.agg #[.int .i64 (s.put1 t data).1, .int .i64 (s.put1 t data).2.1], .int .i64 (s.put1 t data).2.2.1]) ∧ StreamAt w' S (s.put1 t data).2.2.2 ∧ Upd S.foot w w' := by
  have HG := hid h
  have HRES : Hid (s.put1 t data = if (!t.right || decide ((data.size : Int) ≠ s.dr.chip.sz)) = true then (0, 0, 2, s) else
    if s.ready1.1 ≠ 0 then (0, 0, s.ready1.1, s.ready1.2) else
    if (s.ready1.2.dr.program s.ready1.2.opn t data).2.1 = 0 then (s.ready1.2.opn, (s.ready1.2.dr.program s.ready1.2.opn t data).1, 0, { s.ready1.2 with dr := (s.ready1.2.dr.program s.ready1.2.opn t data).2.2 }) else
      (0, 0, (s.ready1.2.dr.program s.ready1.2.opn t data).2.1, { s.ready1.2 with dr := (s.ready1.2.dr.program s.ready1.2.opn t data).2.2, opn := -1 })) := hid rfl
  have HR := hid (fun W hW => ready1_any S s W hW hp.calm hp.wear hp.room)
  have hcalm := Stream.ready1_calm hp.calm
  have hne := (Drive.program_calm hcalm s.ready1.2.opn t data).2
  have HP := hid (fun W hW => driveProgram_any S.d s.ready1.2.dr s.ready1.2.opn t data W hW hcalm.2.1 hd hs)
  have HTR := hid (fun W => TagRight_any t W)
  have hdi : (data.size : Int) ≤ 100000 := by omega
  generalize s.put1 t data = res at HRES ⊢
  generalize s.ready1 = r1 at *
  obtain ⟨re, s1⟩ := r1
  dsimp only at *
  generalize s1.dr.program s1.opn t data = pr at *
  obtain ⟨pg, pe, d2⟩ := pr
  dsimp only at *
  generalize hright : t.right = r at *
  have HSH := hid (fun W hW => Shape_any S.d.c s.dr.chip W hW)
  have HCH := hid (fun W hW => Chip_any S.d s.dr W hW)
  have hf2 := field_shape2 s.dr.chip.nb s.dr.chip.np s.dr.chip.sz
  obtain ⟨kk, l, sq, p, n⟩ := t
  unfold Tag.val at *
  dsimp only at HTR HP ⊢
  have c0 := h.top.get (i := 0) rfl
  have HNE := hid hne
  clear h hp hcalm hne hs hright
  go_enter Try.func19, Try.ntmps19
  go_wp2_with fail
  have hA : Row ((w.alloc (.cells #[.int .u8 kk, .int .i64 l, .int .u64 sq, .int .i64 p, .int .i64 n] 36)).alloc (.cells #[.int .i64 0, .int .i64 0] 53)) w.heap.size 36 [.int .u8 kk, .int .i64 l, .int .u64 sq, .int .i64 p, .int .i64 n] := (Row.new w _ _).alloc _
  have hB : Row ((w.alloc (.cells #[.int .u8 kk, .int .i64 l, .int .u64 sq, .int .i64 p, .int .i64 n] 36)).alloc (.cells #[.int .i64 0, .int .i64 0] 53)) (w.heap.size + 1) 53 [.int .i64 0, .int .i64 0] := by
    have := Row.new (w.alloc (.cells #[.int .u8 kk, .int .i64 l, .int .u64 sq, .int .i64 p, .int .i64 n] 36)) [.int .i64 0, .int .i64 0] 53
    rw [World.size_alloc] at this; exact this
  have hU : Upd noBlk w ((w.alloc (.cells #[.int .u8 kk, .int .i64 l, .int .u64 sq, .int .i64 p, .int .i64 n] 36)).alloc (.cells #[.int .i64 0, .int .i64 0] 53)) := ((Upd.refl _ _).alloc _).alloc _
  have hTD : ¬ S.foot w.heap.size := fun hk => by have := HG.out.foot_lt hk; omega
  have hBD : ¬ S.foot (w.heap.size + 1) := fun hk => by have := HG.out.foot_lt hk; omega
  have hBn : w.heap.size ≤ w.heap.size + 1 := by omega
  have hAB : w.heap.size ≠ w.heap.size + 1 := by omega
  have hBA : w.heap.size + 1 ≠ w.heap.size := by omega
  generalize (w.alloc (.cells #[.int .u8 kk, .int .i64 l, .int .u64 sq, .int .i64 p, .int .i64 n] 36)).alloc (.cells #[.int .i64 0, .int .i64 0] 53) = W at hA hB hU ⊢
  generalize w.heap.size + 1 = B at hB hBD hBn hAB hBA ⊢
  generalize hT : w.heap.size = T at hA hTD hBn hAB hBA ⊢
  have HBN := hid hBn; have HTN := hid hT; have HTD := hid hTD; have HBD := hid hBD
  have HG1 := hid (HG.out.upd hU fun _ h => h.elim); have HU1 := hid hU; have HA1 := hid hA; have HB1 := hid hB
  clear hA hB hU hTD hBD hBn hT c0
  have a0 := HA1.out.get (i := 0) rfl; have a1 := HA1.out.get (i := 1) rfl; have a2 := HA1.out.get (i := 2) rfl; have a3 := HA1.out.get (i := 3) rfl; have a4 := HA1.out.get (i := 4) rfl
  have b0 := HB1.out.get (i := 0) rfl; have b1 := HB1.out.get (i := 1) rfl
  have fb0 := HB1.out.frozen 0; have fb1 := HB1.out.frozen 1
  go_wp2_with fail
  refine (HTR.out _).mono ?_; rintro e w1 ⟨rfl, hu⟩
  have HG2 := hid (HG1.out.upd hu fun _ h => h.elim); have HU2 := hid (HU1.out.trans' hu); have HA2 := hid (HA1.out.upd hu id); have HB2 := hid (HB1.out.upd hu id)
  clear hu a0 a1 a2 a3 a4 b0 b1 fb0 fb1 HG1 HU1 HA1 HB1
  have b0 := HB2.out.get (i := 0) rfl; have b1 := HB2.out.get (i := 1) rfl
  have fb0 := HB2.out.frozen 0; have fb1 := HB2.out.frozen 1
  have c0 := HG2.out.top.get (i := 0) rfl
  have FIN : Hid (∀ (W : World) (s' : Stream) (u v : Value), StreamAt W S s' → Upd S.foot w W → StreamAt ((W.setCell ⟨B, 0, none⟩ u).setCell ⟨B, 1, none⟩ v) S s' ∧ Upd S.foot w ((W.setCell ⟨B, 0, none⟩ u).setCell ⟨B, 1, none⟩ v)) := hid (fun W s' u v hs hu =>
    ⟨hs.upd (T := fun k => k = B) (Upd.setCell (S := fun k => k = B) (p := ⟨B, 1, none⟩) (Upd.setCell (S := fun k => k = B) (p := ⟨B, 0, none⟩) (Upd.refl _ _) (.inl rfl) _) (.inl rfl) _) (fun k hk hf => HBD.out (by rw [← hk]; exact hf)),
      (hu.setCell (p := ⟨B, 0, none⟩) (.inr (by show w.heap.size ≤ B; rw [HTN.out]; exact HBN.out)) _).setCell (p := ⟨B, 1, none⟩) (.inr (by show w.heap.size ≤ B; rw [HTN.out]; exact HBN.out)) _⟩)
  cases r
  · have hres : res = (0, 0, 2, s) := by rw [HRES.out]; rfl
    subst hres
    go_wp2_with fail
    refine bodyPost_ret (v := .tuple #[.agg #[.int .i64 0, .int .i64 0], .int .i64 2]) (by simp [results, Try.results19, go_sem, b0, b1]) rfl ⟨rfl, ?_⟩
    exact FIN.out _ _ _ _ HG2.out (HU2.out.mono fun _ _ h => h.elim)
  · by_cases hsz : (data.size : Int) = s.dr.chip.sz
    · have hres := HRES.out
      rw [if_neg (by simp [hsz])] at hres
      have HRES := hid hres
      have q1 : ((data.size : Int) != s.dr.chip.sz) = false := by simpa using hsz
      clear hres hsz
      go_wp2_with fail
      refine (HCH.out _ HG2.out.drive).mono ?_; rintro e w3 ⟨rfl, rfl⟩
      go_wp2_with fail
      refine (HSH.out _ HG2.out.drive.chip).mono ?_; rintro e w3 ⟨rfl, hu⟩
      have HG3 := hid (HG2.out.upd hu fun _ h => h.elim); have HU3 := hid (HU2.out.trans' hu); have HA3 := hid (HA2.out.upd hu id); have HB3 := hid (HB2.out.upd hu id)
      clear hu b0 b1 fb0 fb1 c0 HG2 HU2 HA2 HB2
      go_wp2_with fail
      refine wp_loop_rounds 1 ?_
      rw [rounds_succ]
      go_wp2_with fail
      refine (HR.out _ HG3.out).mono ?_; rintro e w4 ⟨rfl, hs4, hu⟩
      have HG4 := hid hs4; have HU4 := hid ((HU3.out.mono (T := S.foot) fun _ _ h => h.elim).trans' hu); have HA4 := hid (HA3.out.upd hu HTD.out); have HB4 := hid (HB3.out.upd hu HBD.out)
      clear hs4 hu HG3 HU3 HA3 HB3
      by_cases he : re = 0
      · subst he
        have hres := HRES.out
        rw [if_neg (by simp)] at hres
        have HRES := hid hres
        clear hres
        have a0 := HA4.out.get (i := 0) rfl; have a1 := HA4.out.get (i := 1) rfl; have a2 := HA4.out.get (i := 2) rfl; have a3 := HA4.out.get (i := 3) rfl; have a4 := HA4.out.get (i := 4) rfl
        have c0 := HG4.out.top.get (i := 0) rfl; have c2 := HG4.out.top.get (i := 2) rfl
        go_wp2_with fail
        go_region_held3 (fun w' => w'.cell? ⟨S.s, 0, none⟩ = some (.pointer (some ⟨S.d.d, 0, none⟩)) ∧ w'.cell? ⟨S.s, 2, none⟩ = some (.int .i64 s1.opn) ∧ w'.cell? ⟨T, 0, none⟩ = some (.int .u8 kk) ∧ w'.cell? ⟨T, 1, none⟩ = some (.int .i64 l) ∧ w'.cell? ⟨T, 2, none⟩ = some (.int .u64 sq) ∧ w'.cell? ⟨T, 3, none⟩ = some (.int .i64 p) ∧ w'.cell? ⟨T, 4, none⟩ = some (.int .i64 n))
          (first | go_keep)
          (first
            | (go_at_call 10; refine (HP.out _ HG4.out.drive.drew).mono ?_; rintro e w5 ⟨rfl, hd5, hu5⟩; have HG5 := hid ((HG4.out.upd ((Upd.refl noBlk _).drew) fun _ h => h.elim).drive_put hu5 hd5); have HU5 := hid (HU4.out.drew.trans hu5 fun _ _ h => .inl h); have HA5 := hid (HA4.out.drew.upd hu5 fun h => HTD.out (.inl h)); have HB5 := hid (HB4.out.drew.upd hu5 fun h => HBD.out (.inl h)); have k0 := HA5.out.get (i := 0) rfl; have k1 := HA5.out.get (i := 1) rfl; have k2 := HA5.out.get (i := 2) rfl; have k3 := HA5.out.get (i := 3) rfl; have k4 := HA5.out.get (i := 4) rfl; have k5 := HG5.out.top.get (i := 0) rfl; have k6 := HG5.out.top.get (i := 2) rfl; clear hd5 hu5))
        clear a0 a1 a2 a3 a4 c0 c2 k0 k1 k2 k3 k4 k5 HG4 HU4 HA4 HB4
        have b0 := HB5.out.get (i := 0) rfl; have b1 := HB5.out.get (i := 1) rfl
        have fb0 := HB5.out.frozen 0; have fb1 := HB5.out.frozen 1
        by_cases hp : pe = 0
        · subst hp
          have hres := HRES.out
          rw [if_pos rfl] at hres
          subst hres
          go_wp2_with fail
          refine bodyPost_ret (v := .tuple #[.agg #[.int .i64 s1.opn, .int .i64 pg], .int .i64 0]) (by simp [results, Try.results19, go_sem, b0, b1]) rfl ⟨rfl, ?_⟩
          exact FIN.out _ _ _ _ HG5.out HU5.out
        · have hres := HRES.out
          rw [if_neg hp] at hres
          subst hres
          have q2 : (pe == 0) = false := by simpa using hp
          have q3 : (pe == 10) = false := by have := HNE.out; simpa using this
          have f2 := HG5.out.top.frozen 2
          have HG6 := hid (HG5.out.opn_set (-1)); have HU6 := hid (HU5.out.setCell (p := ⟨S.s, 2, none⟩) (.inl (.inr (.inr rfl))) (.int .i64 (-1)))
          have n1 : S.s ≠ B := fun e => HBD.out (.inr (.inr e.symm))
          have n2 : B ≠ S.s := fun e => n1 e.symm
          clear hp
          go_wp2_with fail
          refine bodyPost_ret (v := .tuple #[.agg #[.int .i64 0, .int .i64 0], .int .i64 pe]) (by simp [results, Try.results19, go_sem, b0, b1]) rfl ⟨rfl, ?_⟩
          exact FIN.out _ _ _ _ HG6.out HU6.out
      · have hres := HRES.out
        rw [if_pos he] at hres
        have q2 : (re == 0) = false := by simpa using he
        subst hres
        have b0 := HB4.out.get (i := 0) rfl; have b1 := HB4.out.get (i := 1) rfl
        have fb0 := HB4.out.frozen 0; have fb1 := HB4.out.frozen 1
        clear he
        go_wp2_with fail
        refine bodyPost_ret (v := .tuple #[.agg #[.int .i64 0, .int .i64 0], .int .i64 re]) (by simp [results, Try.results19, go_sem, b0, b1]) rfl ⟨rfl, ?_⟩
        exact FIN.out _ _ _ _ HG4.out HU4.out
    · have q1 : ((data.size : Int) != s.dr.chip.sz) = true := by simpa using hsz
      have hres : res = (0, 0, 2, s) := by rw [HRES.out, if_pos (by simp [hsz])]
      subst hres
      clear hsz
      go_wp2_with fail
      refine (HCH.out _ HG2.out.drive).mono ?_; rintro e w3 ⟨rfl, rfl⟩
      go_wp2_with fail
      refine (HSH.out _ HG2.out.drive.chip).mono ?_; rintro e w3 ⟨rfl, hu⟩
      have HG3 := hid (HG2.out.upd hu fun _ h => h.elim); have HU3 := hid (HU2.out.trans' hu); have HB3 := hid (HB2.out.upd hu id)
      clear hu b0 b1 fb0 fb1 c0 HG2 HU2 HA2 HB2
      have b0 := HB3.out.get (i := 0) rfl; have b1 := HB3.out.get (i := 1) rfl
      have fb0 := HB3.out.frozen 0; have fb1 := HB3.out.frozen 1
      go_wp2_with fail
      refine bodyPost_ret (v := .tuple #[.agg #[.int .i64 0, .int .i64 0], .int .i64 2]) (by simp [results, Try.results19, go_sem, b0, b1]) rfl ⟨rfl, ?_⟩
      exact FIN.out _ _ _ _ HG3.out (HU3.out.mono fun _ _ h => h.elim)

end Go.Proofs.Ytljphijjcagciaa
