/-
  The walk over a drive's erase.
-/
import Derived.Test.YtljphijjcagciaaDrive1
namespace Go.Proofs.Ytljphijjcagciaa
open Go.RowKit

theorem Chip.ready_code (c : Chip) (b p : Int) : 0 ≤ c.ready b p ∧ c.ready b p ≤ 100 := by
  unfold Chip.ready; split
  · omega
  · split <;> omega
theorem Chip.erase_code (c : Chip) (b : Int) : 0 ≤ (c.erase b).1 ∧ (c.erase b).1 ≤ 100 := by
  unfold Chip.erase
  dsimp only
  have h := Chip.burn_np c true
  generalize Chip.burn c true = q at h ⊢
  obtain ⟨cut, c1⟩ := q
  dsimp only at h ⊢
  repeat' split
  all_goals first | exact Chip.ready_code c b 0 | (constructor <;> simp)
theorem Chip.program_code (c : Chip) (b p : Int) (x y : ByteArray) : 0 ≤ (c.program b p x y).1 ∧ (c.program b p x y).1 ≤ 100 := by
  unfold Chip.program
  dsimp only
  have h := Chip.burn_np (c.put b { c.at b with next := inc (c.at b).next }) false
  generalize Chip.burn (c.put b { c.at b with next := inc (c.at b).next }) false = q at h ⊢
  obtain ⟨cut, c1⟩ := q
  dsimp only at h ⊢
  repeat' split
  all_goals first | exact Chip.ready_code c b p | (constructor <;> simp)
theorem Chip.erase_np (c : Chip) (b : Int) : (c.erase b).2.np = c.np := by
  unfold Chip.erase
  dsimp only
  have h := Chip.burn_np c true
  generalize Chip.burn c true = q at h ⊢
  obtain ⟨cut, c1⟩ := q
  dsimp only at h ⊢
  repeat' split
  all_goals first | rfl | exact h
theorem Chip.program_np (c : Chip) (b p : Int) (x y : ByteArray) : (c.program b p x y).2.np = c.np := by
  unfold Chip.program
  dsimp only
  have h := Chip.burn_np (c.put b { c.at b with next := inc (c.at b).next }) false
  generalize Chip.burn (c.put b { c.at b with next := inc (c.at b).next }) false = q at h ⊢
  obtain ⟨cut, c1⟩ := q
  dsimp only at h ⊢
  repeat' split
  all_goals first | rfl | exact h
theorem Drive.ready_zero {d : Drive} {k : Int} (h : d.ready k = 0) : d.is k = true := by
  unfold Drive.ready at h
  cases hk : d.is k
  · rw [hk] at h; exact absurd h (by simp)
  · rfl

theorem driveErase_any (D : DL) (d : Drive) (k : Int) (w : World) (h : DriveAt w D d) (hfu : d.chip.fuse ≤ 1000000) :
    Calls Try.prog 9 #[.pointer (some ⟨D.d, 0, none⟩), .int .i64 k] w fun e w' => e = .returned (.int .i64 (d.erase k).1) ∧ DriveAt w' D (d.erase k).2 ∧ Upd D.foot w w' := by
  have HR := hid (driveReady_any D d k w h)
  by_cases hr : d.ready k = 0
  · obtain ⟨c0, _, _⟩ := h.cells
    have HE := hid (Erase_any D.c d.chip k w h.chip hfu)
    have hec := Chip.erase_code d.chip k
    have henp := Chip.erase_np d.chip k
    have hfin : d.erase k = if (d.chip.erase k).1 = 0 then (0, { ({ d with chip := (d.chip.erase k).2 } : Drive).learn k (d.chip.erase k).1 with next := (({ d with chip := (d.chip.erase k).2 } : Drive).learn k (d.chip.erase k).1).next.set k.toNat 0 }) else ((d.chip.erase k).1, ({ d with chip := (d.chip.erase k).2 } : Drive).learn k (d.chip.erase k).1) := by
      unfold Drive.erase; rw [if_neg (by simp [hr])]
    rw [hfin, ]; clear hfin
    rw [hr] at HR
    have hk := Drive.ready_zero hr
    generalize (d.chip.erase k).1 = e at *
    generalize (d.chip.erase k).2 = c1 at *
    obtain ⟨h0, h1⟩ := Drive.is_iff.1 hk
    rw [h.lenb] at h1
    have h256 := h.n256
    have HL := hid (fun W (hW : DriveAt W D { d with chip := c1 }) => learn_any D { d with chip := c1 } k e W hW hec)
    have G := hid h; have HK := hid hk; have HNP := hid henp
    by_cases he : e = 0
    · subst he
      have hl : ({ d with chip := c1 } : Drive).learn k 0 = { d with chip := c1 } := by simp [Drive.learn]
      rw [if_pos rfl, hl]; rw [hl] at HL
      clear h hk hl henp hr
      go_enter Try.func9, Try.ntmps9
      go_wp2_with fail
      refine HR.out.mono ?_; rintro x w1 ⟨rfl, rfl⟩
      go_wp2_with fail
      refine HE.out.mono ?_; rintro x w1 ⟨rfl, hc, hu⟩
      have HD := hid (G.out.chip_put hu hc HNP.out); have HU := hid hu
      clear hc hu
      go_wp2_with fail
      refine (HL.out _ HD.out).mono ?_; rintro x w2 ⟨rfl, hd, hu2⟩
      have HD2 := hid hd; have HU2 := hid ((HU.out.mono (fun _ _ hk => .inl hk)).trans' (hu2.mono (T := D.foot) fun _ _ hk => .inr (.inr hk)))
      clear hd hu2
      obtain ⟨_, _, c2⟩ := HD2.out.cells
      have e2 := HD2.out.nextc (k := k) HK.out
      have f2 := HD2.out.next.frozen k.toNat
      go_wp2_with fail
      go_ret
      exact ⟨rfl, HD2.out.next_set k.toNat 0 ⟨by omega, by show (0 : Int) ≤ c1.np; have := HD2.out.chip.ok.np2; have : c1.np = d.chip.np := HNP.out; have := G.out.chip.ok.np2; omega⟩, HU2.out.setCell (.inl (.inr (.inr (.inr rfl)))) _⟩
    · rw [if_neg he]
      have he2 : (e == 0) = false := by simpa using he
      clear h hk henp hr he
      go_enter Try.func9, Try.ntmps9
      go_wp2_with fail
      refine HR.out.mono ?_; rintro x w1 ⟨rfl, rfl⟩
      go_wp2_with fail
      refine HE.out.mono ?_; rintro x w1 ⟨rfl, hc, hu⟩
      have HD := hid (G.out.chip_put hu hc HNP.out); have HU := hid hu
      clear hc hu
      go_wp2_with fail
      refine (HL.out _ HD.out).mono ?_; rintro x w2 ⟨rfl, hd, hu2⟩
      have HD2 := hid hd; have HU2 := hid ((HU.out.mono (fun _ _ hk => .inl hk)).trans' (hu2.mono (T := D.foot) fun _ _ hk => .inr (.inr hk)))
      clear hd hu2
      go_wp2_with fail
      go_ret
      exact ⟨rfl, HD2.out, HU2.out⟩
  · have hfin : d.erase k = (d.ready k, d) := by unfold Drive.erase; rw [if_pos hr]
    rw [hfin]
    have he2 : (d.ready k == 0) = false := by simpa using hr
    have G := hid h
    generalize d.ready k = e at *
    clear h hr hfin
    go_enter Try.func9, Try.ntmps9
    go_wp2_with fail
    refine HR.out.mono ?_; rintro x w1 ⟨rfl, rfl⟩
    go_wp2_with fail
    go_ret
    exact ⟨rfl, G.out, Upd.refl _ _⟩

end Go.Proofs.Ytljphijjcagciaa
