/-
  The walk over a drive's program.
-/
import Derived.Test.YtljphijjcagciaaDrive2
namespace Go.Proofs.Ytljphijjcagciaa
open Go.RowKit

theorem Tag.beside_size (t : Tag) (data : ByteArray) : (t.beside data).size = 32 := by
  unfold Tag.beside; rw [mkS_size, List.length_append, Tag.bytes_length, sumB, putB_length]

theorem field_shape0 (a b c : Int) : ∀ w : World, (Instr.field 27 (.agg #[.int .i64 a, .int .i64 b, .int .i64 c]) 0).run Try.prog w = .ok (.int .i64 a) w := fun _ => by kernel_rfl
theorem field_shape1 (a b c : Int) : ∀ w : World, (Instr.field 27 (.agg #[.int .i64 a, .int .i64 b, .int .i64 c]) 1).run Try.prog w = .ok (.int .i64 b) w := fun _ => by kernel_rfl
theorem field_shape2 (a b c : Int) : ∀ w : World, (Instr.field 27 (.agg #[.int .i64 a, .int .i64 b, .int .i64 c]) 2).run Try.prog w = .ok (.int .i64 c) w := fun _ => by kernel_rfl

/-- Whatever the tag, what the frame gives. -/
theorem Frame_any (d off : Nat) (t : Tag) (data : ByteArray) (hd : data.size ≤ 100000) (w : World) (hs : 0 ≤ t.seq ∧ t.seq ≤ 18446744073709551615) (ht : TabAt w d off) :
    Calls Try.prog 40 #[.pointer (some ⟨d, off, none⟩), t.val, .string data] w fun e w' => e = .returned (.tuple #[.string (if t.right then t.beside data else mkS []), .int .i64 (if t.right then 0 else 2)]) ∧ Upd noBlk w w' := by
  cases h : t.right
  · exact Frame_bad d off t data w h
  · exact Frame_good d off t data hd w h hs ht

theorem driveProgram_no (D : DL) (d : Drive) (k : Int) (t : Tag) (data : ByteArray) (w : World) (h : DriveAt w D d) (hr : d.ready k ≠ 0) :
    Calls Try.prog 10 #[.pointer (some ⟨D.d, 0, none⟩), .int .i64 k, t.val, .string data] w fun e w' => e = .returned (.tuple #[.int .i64 0, .int .i64 (d.ready k)]) ∧ Upd noBlk w w' := by
  have HR := hid (fun W hW => driveReady_any D d k W hW)
  have he2 : (d.ready k == 0) = false := by simpa using hr
  have G := hid h
  generalize d.ready k = e at *
  obtain ⟨kk, l, s, p, n⟩ := t
  unfold Tag.val
  clear h hr
  go_enter Try.func10, Try.ntmps10
  go_wp2_with fail
  refine (HR.out _ (G.out.upd ((Upd.refl noBlk _).alloc _) fun _ h => h.elim)).mono ?_; rintro x w1 ⟨rfl, rfl⟩
  go_wp2_with fail
  go_ret2
  exact ⟨rfl, (Upd.refl _ _).alloc _⟩

theorem driveProgram_go (D : DL) (d : Drive) (k : Int) (t : Tag) (data : ByteArray) (w : World) (h : DriveAt w D d) (hfu : d.chip.fuse ≤ 1000000) (hd : data.size ≤ 100000) (hs : 0 ≤ t.seq ∧ t.seq ≤ 18446744073709551615) (hr : d.ready k = 0) :
    Calls Try.prog 10 #[.pointer (some ⟨D.d, 0, none⟩), .int .i64 k, t.val, .string data] w fun e w' => e = .returned (.tuple #[.int .i64 (d.program k t data).1, .int .i64 (d.program k t data).2.1]) ∧ DriveAt w' D (d.program k t data).2.2 ∧ Upd D.foot w w' := by
  have HR := hid (fun W hW => driveReady_any D d k W hW)
  rw [hr] at HR
  have hk := Drive.ready_zero hr
  obtain ⟨h0, h1⟩ := Drive.is_iff.1 hk
  rw [h.lenb] at h1
  have h256 := h.n256
  have hpr := h.nextr hk
  have hnp64 := h.chip.ok.np64
  have hsz1 := h.chip.ok.sz32; have hsz2 := h.chip.ok.sz1024
  have G := hid h; have HK := hid hk
  have hbs := Tag.beside_size t data
  have HF := hid (fun W hW => Frame_any D.d 1 t data hd W hs hW)
  have HSH := hid (fun W hW => Shape_any D.c d.chip W hW)
  have hdi : (data.size : Int) ≤ 100000 := by omega
  have HP := hid (fun W (hW : ChipAt W D.c d.chip) => Program_any D.c d.chip k (d.next.getD k.toNat 0) data (t.beside data) W hW hfu (by unfold maxLen; omega) (by rw [hbs]; unfold maxLen; omega))
  have hcode := Chip.program_code d.chip k (d.next.getD k.toNat 0) data (t.beside data)
  have hnp := Chip.program_np d.chip k (d.next.getD k.toNat 0) data (t.beside data)
  have hinc : inc (d.next.getD k.toNat 0) = d.next.getD k.toNat 0 + 1 := by
    unfold inc wrap64; omega
  have hfin : d.program k t data = (if (!t.right || decide ((data.size : Int) ≠ d.chip.sz)) = true then (0, 2, d) else if (decide (d.next.getD k.toNat 0 = -1) || decide (d.chip.np ≤ d.next.getD k.toNat 0)) = true then (0, 11, d) else
    if (d.chip.program k (d.next.getD k.toNat 0) data (t.beside data)).1 ≠ 0 then (0, (d.chip.program k (d.next.getD k.toNat 0) data (t.beside data)).1, ({ d with chip := (d.chip.program k (d.next.getD k.toNat 0) data (t.beside data)).2 } : Drive).learn k (d.chip.program k (d.next.getD k.toNat 0) data (t.beside data)).1) else
    (d.next.getD k.toNat 0, 0, { ({ d with chip := (d.chip.program k (d.next.getD k.toNat 0) data (t.beside data)).2 } : Drive).learn k (d.chip.program k (d.next.getD k.toNat 0) data (t.beside data)).1 with next := (({ d with chip := (d.chip.program k (d.next.getD k.toNat 0) data (t.beside data)).2 } : Drive).learn k (d.chip.program k (d.next.getD k.toNat 0) data (t.beside data)).1).next.set k.toNat (inc (d.next.getD k.toNat 0)) })) := by
    unfold Drive.program; rw [if_neg (by simp [hr])]
  rw [hinc] at hfin
  generalize d.program k t data = res at hfin ⊢
  have hne : ∀ W, DriveAt W D d → W.cell? ⟨D.x, k.toNat, none⟩ = some (.int .i64 (d.next.getD k.toNat 0)) := fun W hW => hW.nextc hk
  have HNE := hid hne
  generalize d.chip.program k (d.next.getD k.toNat 0) data (t.beside data) = pr at *
  obtain ⟨e, c1⟩ := pr
  dsimp only at *
  generalize hpg : d.next.getD k.toNat 0 = page at *
  have HPG := hid hpg
  have HL := hid (fun W (hW : DriveAt W D { d with chip := c1 }) => learn_any D { d with chip := c1 } k e W hW hcode)
  have HNP := hid hnp
  generalize t.beside data = BS at *
  generalize t.right = r at *
  obtain ⟨kk, l, s, p, n⟩ := t
  unfold Tag.val at *
  have HF2 := hid hfin
  dsimp only at HF
  clear h hk hinc hfin hne hnp hs hr hfu hpg
  have hf1 : ∀ W : World, (Instr.field 27 (.agg #[.int .i64 d.chip.nb, .int .i64 d.chip.np, .int .i64 d.chip.sz]) 1).run Try.prog W = .ok (.int .i64 d.chip.np) W := field_shape1 _ _ _
  have hf2 : ∀ W : World, (Instr.field 27 (.agg #[.int .i64 d.chip.nb, .int .i64 d.chip.np, .int .i64 d.chip.sz]) 2).run Try.prog W = .ok (.int .i64 d.chip.sz) W := field_shape2 _ _ _
  go_enter Try.func10, Try.ntmps10
  go_wp2_with fail
  have hB : Row (w.alloc (.cells #[.int .u8 kk, .int .i64 l, .int .u64 s, .int .i64 p, .int .i64 n] 36)) w.heap.size 36 [.int .u8 kk, .int .i64 l, .int .u64 s, .int .i64 p, .int .i64 n] := Row.new w _ _
  have hU : Upd noBlk w (w.alloc (.cells #[.int .u8 kk, .int .i64 l, .int .u64 s, .int .i64 p, .int .i64 n] 36)) := (Upd.refl _ _).alloc _
  generalize w.alloc (.cells #[.int .u8 kk, .int .i64 l, .int .u64 s, .int .i64 p, .int .i64 n] 36) = W at hB hU ⊢
  have HD := hid (G.out.upd hU fun _ h => h.elim)
  have E0 : ∀ n0 : UW W, n0.w.cell? ⟨w.heap.size, 0, none⟩ = some (.int .u8 kk) := fun n0 => n0.cell (hB.cell 0)
  have E1 : ∀ n0 : UW W, n0.w.cell? ⟨w.heap.size, 1, none⟩ = some (.int .i64 l) := fun n0 => n0.cell (hB.cell 1)
  have E2 : ∀ n0 : UW W, n0.w.cell? ⟨w.heap.size, 2, none⟩ = some (.int .u64 s) := fun n0 => n0.cell (hB.cell 2)
  have E3 : ∀ n0 : UW W, n0.w.cell? ⟨w.heap.size, 3, none⟩ = some (.int .i64 p) := fun n0 => n0.cell (hB.cell 3)
  have E4 : ∀ n0 : UW W, n0.w.cell? ⟨w.heap.size, 4, none⟩ = some (.int .i64 n) := fun n0 => n0.cell (hB.cell 4)
  have HU := hid hU
  have HFU := hid (fun n0 : UW W => UW.call (HF.out n0.w ((HD.out.upd n0.upd fun _ h => h.elim).tab)))
  clear hU hB
  refine (HR.out _ HD.out).mono ?_; rintro x w1 ⟨rfl, rfl⟩
  go_wp2_with fail
  refine wp_region_upd (by kernel_rfl) (by kernel_rfl) ?_
  repeat (go_big_quiet_step (exact HFU.out _))
  refine wpQuiet_nil ?_
  rintro _ ⟨nq, rfl⟩
  clear E0 E1 E2 E3 E4
  have HD1 := hid (HD.out.upd nq.upd fun _ h => h.elim)
  have HU1 := hid (HU.out.trans' nq.upd)
  generalize nq.w = w1 at *
  obtain ⟨c0, _, c2⟩ := HD1.out.cells
  have hnx := HNE.out w1 HD1.out
  cases r
  · have hres : res = (0, 2, d) := by rw [HF2.out]; rfl
    subst hres
    go_wp2_with fail
    go_ret2
    exact ⟨rfl, HD1.out, HU1.out.mono fun _ _ h => h.elim⟩
  · by_cases hsz : (data.size : Int) = d.chip.sz
    · have q1 : (!true || decide ((data.size : Int) ≠ d.chip.sz)) = false := by simp [hsz]
      have hres := HF2.out
      rw [q1, if_neg (by simp)] at hres; clear q1
      have HF2 := hid hres; clear hres
      have b1 : ((data.size : Int) == d.chip.sz) = true := by simpa using hsz
      have HSZ := hid hsz; clear hsz
      by_cases hp1 : page = -1
      · subst hp1
        have hres : res = (0, 11, d) := by rw [HF2.out]; rfl
        subst hres
        go_wp2_with fail
        refine (HSH.out _ HD1.out.chip).mono ?_; rintro x w2 ⟨rfl, hu2⟩
        have HU2 := hid (HU1.out.trans' hu2); have HD2 := hid (HD1.out.upd hu2 fun _ h => h.elim); clear hu2
        go_wp2_with fail
        go_ret2
        exact ⟨rfl, HD2.out, HU2.out.mono fun _ _ h => h.elim⟩
      · have b2 : (page == -1) = false := by simpa using hp1
        by_cases hp2 : d.chip.np ≤ page
        · have q2 : (decide (page = -1) || decide (d.chip.np ≤ page)) = true := by simp [hp2]
          have hres : res = (0, 11, d) := by rw [HF2.out, q2]; rfl
          subst hres
          clear q2
          go_wp2_with fail
          refine (HSH.out _ HD1.out.chip).mono ?_; rintro x w2 ⟨rfl, hu2⟩
          have HU2 := hid (HU1.out.trans' hu2); have HD2 := hid (HD1.out.upd hu2 fun _ h => h.elim); clear hu2
          obtain ⟨d0, _, _⟩ := HD2.out.cells
          clear c0 c2 hnx
          go_wp2_with fail
          refine (HSH.out _ HD2.out.chip).mono ?_; rintro x w3 ⟨rfl, hu3⟩
          have HU3 := hid (HU2.out.trans' hu3); have HD3 := hid (HD2.out.upd hu3 fun _ h => h.elim); clear hu3
          go_wp2_with fail
          go_ret2
          exact ⟨rfl, HD3.out, HU3.out.mono fun _ _ h => h.elim⟩
        · have q2 : (decide (page = -1) || decide (d.chip.np ≤ page)) = false := by simp [hp1, hp2]
          have hres := HF2.out
          rw [q2, if_neg (by simp)] at hres; clear q2
          have HF2 := hid hres; clear hres
          have hp3 : page < d.chip.np := by omega
          clear hp2 hp1
          go_wp2_with fail
          refine (HSH.out _ HD1.out.chip).mono ?_; rintro x w2 ⟨rfl, hu2⟩
          have HU2 := hid (HU1.out.trans' hu2); have HD2 := hid (HD1.out.upd hu2 fun _ h => h.elim); clear hu2
          obtain ⟨d0, _, _⟩ := HD2.out.cells
          clear c0 c2 hnx
          go_wp2_with fail
          refine (HSH.out _ HD2.out.chip).mono ?_; rintro x w3 ⟨rfl, hu3⟩
          have HU3 := hid (HU2.out.trans' hu3); have HD3 := hid (HD2.out.upd hu3 fun _ h => h.elim); clear hu3
          obtain ⟨f0, _, _⟩ := HD3.out.cells
          clear d0
          go_wp2_with fail
          refine (HP.out _ HD3.out.chip).mono ?_; rintro x w4 ⟨rfl, hc4, hu4⟩
          have HD4 := hid (HD3.out.chip_put hu4 hc4 HNP.out)
          have HU4 := hid ((HU3.out.mono (T := D.foot) (fun _ _ h => h.elim)).trans' (hu4.mono (T := D.foot) fun _ _ h => .inl h))
          clear hc4 hu4 f0
          go_wp2_with fail
          refine (HL.out _ HD4.out).mono ?_; rintro x w5 ⟨rfl, hd5, hu5⟩
          have HD5 := hid hd5
          have HU5 := hid (HU4.out.trans' (hu5.mono (T := D.foot) fun _ _ h => .inr (.inr h)))
          clear hd5 hu5
          by_cases he : e = 0
          · subst he
            have hl : ({ d with chip := c1 } : Drive).learn k 0 = { d with chip := c1 } := by simp [Drive.learn]
            rw [hl] at HD5
            have hres : res = (page, 0, { d with chip := c1, next := d.next.set k.toNat (page + 1) }) := by rw [HF2.out, if_neg (by simp), hl]
            subst hres
            clear hl
            obtain ⟨_, _, g2⟩ := HD5.out.cells
            have gx := HD5.out.nextc (k := k) HK.out
            have fx := HD5.out.next.frozen k.toNat
            have gp : d.next.getD k.toNat 0 = page := HPG.out
            rw [show ({ d with chip := c1 } : Drive).next = d.next from rfl, gp] at gx
            clear gp
            go_wp2_with fail
            go_ret2
            exact ⟨rfl, HD5.out.next_set k.toNat (page + 1) ⟨by omega, by show page + 1 ≤ c1.np; rw [HNP.out]; omega⟩, HU5.out.setCell (.inl (.inr (.inr (.inr rfl)))) _⟩
          · have b3 : (e == 0) = false := by simpa using he
            have hres : res = (0, e, ({ d with chip := c1 } : Drive).learn k e) := by rw [HF2.out, if_pos he]
            subst hres
            go_wp2_with fail
            go_ret2
            exact ⟨rfl, HD5.out, HU5.out⟩
    · have b1 : ((data.size : Int) == d.chip.sz) = false := by simpa using hsz
      have q1 : (!true || decide ((data.size : Int) ≠ d.chip.sz)) = true := by simp [hsz]
      have hres : res = (0, 2, d) := by rw [HF2.out, q1]; rfl
      subst hres
      clear q1 hsz
      go_wp2_with fail
      refine (HSH.out _ HD1.out.chip).mono ?_; rintro x w2 ⟨rfl, hu2⟩
      have HU2 := hid (HU1.out.trans' hu2); have HD2 := hid (HD1.out.upd hu2 fun _ h => h.elim); clear hu2
      go_wp2_with fail
      go_ret2
      exact ⟨rfl, HD2.out, HU2.out.mono fun _ _ h => h.elim⟩

end Go.Proofs.Ytljphijjcagciaa
