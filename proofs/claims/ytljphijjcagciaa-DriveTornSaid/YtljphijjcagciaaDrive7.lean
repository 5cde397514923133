/-
  The walk over drive.New.
-/
import Derived.Test.YtljphijjcagciaaDriveN
import Derived.Deep.DeepCutAuto
namespace Go.Proofs.Ytljphijjcagciaa
open Go.RowKit

theorem NewAt.drive {L : CL} {c : Chip} {w1 V : World} {X : List Value} {d b x : Nat} (h : NewAt L w1 V X d b x) (hc : ChipAt w1 L c) (hX : X = driveCells ⟨L, d, b, x⟩) :
    DriveAt V ⟨L, d, b, x⟩ { Drive.new c with next := List.replicate L.n 0 } := by
  have hf : ∀ k, w1.heap.size ≤ k → ¬ L.foot k := fun k hk hfk => by have := hc.foot_lt hfk; omega
  have hn := hc.n; have hnp := hc.ok.np2
  refine ⟨hc.upd h.upd (fun _ h => h.elim), by simp [Drive.new, hn], by simp, by rw [← hX]; exact h.top, ?_, ?_, ?_, hf _ h.d1, hf _ h.b1, hf _ h.x1, h.db, h.dx, h.bx⟩
  · have := h.bad; simp only [Drive.new, List.map_replicate, ← hn]; exact this
  · have := h.next; simp only [List.map_replicate]; exact this
  · intro v hv
    have : v = 0 := List.eq_of_mem_replicate hv
    subst this; show (-1 : Int) ≤ 0 ∧ 0 ≤ c.np; omega
theorem forget_new (c : Chip) (n : Nat) (h : n = c.bl.length) : ({ Drive.new c with next := List.replicate n 0 } : Drive).forget = Drive.new c := by
  simp [Drive.forget, Drive.new, h]

def NewRel (L : CL) (w1 : World) (v : Value) (W : World) : Prop := ∃ d b x : Nat, v = .pointer (some ⟨d, 0, none⟩) ∧ NewAt L w1 W (driveCells ⟨L, d, b, x⟩) d b x
theorem NewAt.rel {L : CL} {w1 V : World} {cs : List Value} {d b x : Nat} (h : NewAt L w1 V cs d b x) (e : cs = driveCells ⟨L, d, b, x⟩) : NewRel L w1 (.pointer (some ⟨d, 0, none⟩)) V := ⟨d, b, x, rfl, e ▸ h⟩

set_option maxHeartbeats 2000000 in
theorem driveNew_any (L : CL) (c : Chip) (w : World) (h : ChipAt w L c) :
    Calls Try.prog 7 #[.pointer (some ⟨L.a, 0, none⟩)] w fun e w' => ∃ D : DL, D.c = L ∧ (∀ k, D.foot k → L.foot k ∨ w.heap.size ≤ k) ∧ e = .returned (.tuple #[.pointer (some ⟨D.d, 0, none⟩), .int .i64 0]) ∧ DriveAt w' D (Drive.new c) ∧ Upd noBlk w w' := by
  have HSH := hid (fun W hW => Shape_any L c W hW)
  have hnb : c.nb = (L.n : Int) := by have := h.n; have := h.ok.nb; omega
  have h256 : (L.n : Int) ≤ 256 := by have := h.n; have := h.ok.nb256; omega
  have hnp := h.ok.np2
  have hmb := make_bool (L.n : Int) (by omega) (by omega)
  have hmi := make_int (L.n : Int) (by omega) (by omega)
  have hfs := field_shape0 (L.n : Int) c.np c.sz
  have hT := tabWay_length 256
  have HM := hid (fun W => Make_any W)
  have HC := hid h; have HNP := hid hnp
  rw [hnb] at HSH
  simp only [Int.toNat_natCast] at hmb hmi
  have hfold := driveX_fold (some ⟨L.a, 0, none⟩) (tabWay 256)
  have hXl := driveX_length Try.zeroCells83 (some ⟨L.a, 0, none⟩) (tabWay 256)
  have HXS := hid (driveX_set (some ⟨L.a, 0, none⟩) (tabWay 256) (tabWay_length 256))
  have HTC : Hid (∀ (d b x : Nat), driveCells ⟨L, d, b, x⟩ = .pointer (some ⟨L.a, 0, none⟩) :: (tabWay 256 ++ [.slice (some ⟨b, 0, none⟩) L.n L.n, .slice (some ⟨x, 0, none⟩) L.n L.n])) := hid (fun _ _ _ => rfl)
  generalize driveX Try.zeroCells83 (some ⟨L.a, 0, none⟩) (tabWay 256) = X at hfold hXl HXS
  generalize tabWay 256 = T at hT HM hfold HXS HTC
  clear h hnb hnp
  go_enter Try.func7, Try.ntmps7
  go_wp2_with fail
  refine (HSH.out _ HC.out).mono ?_; rintro e w1 ⟨rfl, hu⟩
  have HC1 := hid (HC.out.upd hu fun _ h => h.elim); have HU1 := hid hu; clear hu
  go_upto_region 4 with fail
  go_cut [5] (fun s5 wx => NewRel L w1 s5 wx)
  case first =>
    go_region_with (go_at_call 34; refine (HM.out _).mono ?_; rintro e w2 ⟨rfl, hu2⟩)
    clear hmb hmi hfs hfold
    all_goals (go_wp2_with fail; go_meet; first
      | exact (newAt1 L w1 w2 _ hu2).rel ((HXS.out _ _).trans (HTC.out _ _ _).symm)
      | exact (newAt2 L w1 w2 _ hu2).rel ((HXS.out _ _).trans (HTC.out _ _ _).symm)
      | exact (newAt3 L w1 w2 _ hu2).rel ((HXS.out _ _).trans (HTC.out _ _ _).symm)
      | exact (newAt4 L w1 w2 _ hu2).rel ((HXS.out _ _).trans (HTC.out _ _ _).symm)
      | exact (newAt5 L w1 w2 _ hu2).rel ((HXS.out _ _).trans (HTC.out _ _ _).symm)
      | exact (newAt6 L w1 w2 _ hu2).rel ((HXS.out _ _).trans (HTC.out _ _ _).symm))
  case rest =>
    obtain ⟨d, b, x, rfl, hN⟩ := hcut
    have hD := hN.drive HC1.out rfl
    have hU := hN.upd
    have HD := hid hD; have HU := hid hU
    have K := hid (And.intro hN.d1 (And.intro hN.b1 hN.x1))
    clear hN hD hU hT hXl h256 HXS HTC hmb hmi hfs hfold
    have HF := hid (fun W hW => forget_any ⟨L, d, b, x⟩ { Drive.new c with next := List.replicate L.n 0 } W hW)
    dsimp only at HF
    go_wp2_with fail
    refine (HF.out _ HD.out).mono ?_; rintro e w3 ⟨rfl, hd3, hu3⟩
    rw [forget_new c L.n HC.out.n] at hd3
    have HD3 := hid hd3; have HU3 := hid hu3; clear hd3 hu3
    go_wp2_with fail
    go_ret2
    have hs1 : w.heap.size ≤ w1.heap.size := HU1.out.size
    obtain ⟨j1, j2, j3⟩ := K.out
    refine ⟨_, rfl, ?_, rfl, HD3.out, ?_⟩
    · rintro k (hk | hk | hk | hk)
      · exact .inl hk
      · exact .inr (by rw [hk]; dsimp only; omega)
      · exact .inr (by rw [hk]; dsimp only; omega)
      · exact .inr (by rw [hk]; dsimp only; omega)
    · exact (HU1.out.trans' HU.out).trans HU3.out (fun i hi hik => by rw [hik] at hi; omega)

end Go.Proofs.Ytljphijjcagciaa
