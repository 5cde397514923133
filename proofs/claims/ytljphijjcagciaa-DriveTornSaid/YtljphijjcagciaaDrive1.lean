/-
  The walks over a drive's small methods that write, and over its erase.
-/
import Derived.Test.YtljphijjcagciaaDriveP
namespace Go.Proofs.Ytljphijjcagciaa
open Go.RowKit

def Drive.forgetN (d : Drive) (k : Nat) : Drive := { d with next := List.replicate k (-1) ++ d.next.drop k }
theorem Drive.forgetN_zero (d : Drive) : d.forgetN 0 = d := by simp [Drive.forgetN]
theorem Drive.forgetN_set (d : Drive) (k : Nat) (h : k < d.next.length) : { d.forgetN k with next := (d.forgetN k).next.set k (-1) } = d.forgetN (k + 1) := by
  simp only [Drive.forgetN, Drive.mk.injEq, true_and]
  refine List.ext_getElem? fun i => ?_
  simp only [List.getElem?_set, List.getElem?_append, List.length_append, List.length_replicate, List.length_drop, List.getElem?_replicate, List.getElem?_drop]
  rcases Nat.lt_trichotomy i k with h1 | h1 | h1
  · rw [if_neg (by omega), if_pos h1, if_pos h1, if_pos (by omega), if_pos (by omega)]
  · subst h1
    rw [if_pos rfl, if_pos (by omega), if_pos (by omega), if_pos (by omega)]
  · rw [if_neg (by omega), if_neg (by omega), if_neg (by omega)]
    congr 1; omega
theorem Drive.forgetN_all (d : Drive) : d.forgetN d.next.length = d.forget := by simp [Drive.forgetN, Drive.forget]

theorem forget_any (D : DL) (d : Drive) (w : World) (h : DriveAt w D d) :
    Calls Try.prog 35 #[.pointer (some ⟨D.d, 0, none⟩)] w fun e w' => e = .returned (.tuple #[]) ∧ DriveAt w' D d.forget ∧ Upd (fun k => k = D.x) w w' := by
  obtain ⟨_, _, c2⟩ := h.cells
  have h256 := h.n256
  have hl := h.lenn
  have hnp := h.chip.ok.np2
  have G := hid h; have HL := hid hl; have HNP := hid hnp
  clear h hl hnp
  go_enter Try.func35, Try.ntmps35
  go_wp2
  go_loopw [8] (fun i wr => ∃ k : Nat, k ≤ D.c.n ∧ i = .int .i64 k ∧ DriveAt wr D (d.forgetN k) ∧ Upd (fun k => k = D.x) w wr) (fun i _ => D.c.n - (intOf i).toNat)
  case atStart => exact ⟨0, Nat.zero_le _, rfl, by rw [Drive.forgetN_zero]; exact G.out, Upd.refl _ _⟩
  case round =>
    obtain ⟨k, hk, rfl, hc, hu⟩ := hrel
    by_cases hlt : k < D.c.n
    · obtain ⟨_, _, d2⟩ := hc.cells
      have hx : wr.cell? ⟨D.x, k, none⟩ = some (.int .i64 ((d.forgetN k).next.getD k 0)) := by
        refine hc.next.get ?_
        rw [List.getElem?_map, getD_at (x := 0) (by rw [hc.lenn]; exact hlt)]; rfl
      have fx := hc.next.frozen k
      have g := hc.next_set k (-1) ⟨by omega, by show (-1 : Int) ≤ d.chip.np; have := HNP.out; omega⟩
      rw [Drive.forgetN_set d k (by rw [HL.out]; exact hlt)] at g
      have G2 := hid g; have HC := hid hc; clear g hc
      go_wp2
      exact ⟨⟨k + 1, by omega, by go_num, G2.out, hu.setCell (.inl rfl) _⟩, by simp [intOf]; omega⟩
    · go_wp2
      go_end0
      have : k = d.next.length := by have := HL.out; omega
      subst this
      rw [Drive.forgetN_all] at hc
      exact ⟨rfl, hc, hu⟩

theorem Mark_any (D : DL) (d : Drive) (k : Int) (w : World) (h : DriveAt w D d) :
    Calls Try.prog 60 #[.pointer (some ⟨D.d, 0, none⟩), .int .i64 k] w fun e w' => e = .returned (.tuple #[]) ∧ DriveAt w' D (d.mark k) ∧ Upd (fun k => k = D.b ∨ k = D.x) w w' := by
  have HI := hid (is_any D d k w h)
  cases hk : d.is k
  · have hfin : d.mark k = d := by simp [Drive.mark, hk]
    rw [hfin]; rw [hk] at HI
    have G := hid h
    clear h hfin hk
    go_enter Try.func60, Try.ntmps60
    go_wp2_with fail
    refine HI.out.mono ?_; rintro e w1 ⟨rfl, rfl⟩
    go_wp2_with fail
    go_end0
    exact ⟨rfl, G.out, Upd.refl _ _⟩
  · have hfin : d.mark k = { d with bad := d.bad.set k.toNat true, next := d.next.set k.toNat (-1) } := by simp [Drive.mark, hk]
    rw [hfin]; rw [hk] at HI
    obtain ⟨h0, h1⟩ := Drive.is_iff.1 hk
    rw [h.lenb] at h1
    obtain ⟨_, c1, c2⟩ := h.cells
    have h256 := h.n256
    have e1 := h.badc hk; have e2 := h.nextc hk
    have f1 := h.bad.frozen k.toNat; have f2 := h.next.frozen k.toNat
    have G := hid h; have HK := hid hk; have hnp := h.chip.ok.np2; have HNP := hid hnp
    have hne := h.bx; have hne2 := h.bx.symm
    clear h hfin hk hnp
    go_enter Try.func60, Try.ntmps60
    go_wp2_with fail
    refine HI.out.mono ?_; rintro e w1 ⟨rfl, rfl⟩
    go_wp2_with fail
    go_region
    go_wp2_with fail
    go_end0
    exact ⟨rfl, (G.out.drew.bad_set k.toNat true).next_set k.toNat (-1) ⟨by omega, by show (-1 : Int) ≤ d.chip.np; have := HNP.out; omega⟩,
      ((Upd.refl _ _).drew.setCell (.inl (.inl rfl)) _).setCell (.inl (.inr rfl)) _⟩

theorem learn_any (D : DL) (d : Drive) (k e : Int) (w : World) (h : DriveAt w D d) (he : 0 ≤ e ∧ e ≤ 100) :
    Calls Try.prog 38 #[.pointer (some ⟨D.d, 0, none⟩), .int .i64 k, .int .i64 e] w fun x w' => x = .returned (.int .i64 e) ∧ DriveAt w' D (d.learn k e) ∧ Upd (fun k => k = D.b ∨ k = D.x) w w' := by
  have HM := hid (Mark_any D d k w h)
  have HF := hid (forget_any D d w h)
  have G := hid h
  clear h
  by_cases h1 : e = 10
  · have hfin : d.learn k e = d.mark k := by simp [Drive.learn, h1]
    rw [hfin]; subst h1; clear hfin
    go_enter Try.func38, Try.ntmps38
    go_wp2_with fail
    refine HM.out.mono ?_; rintro x w1 ⟨rfl, hd, hu⟩
    have HD := hid hd; have HU := hid hu; clear hd hu
    go_wp2_with fail
    go_ret
    exact ⟨rfl, HD.out, HU.out⟩
  · by_cases h2 : e = 9
    · have hfin : d.learn k e = d.forget := by simp [Drive.learn, h2]
      rw [hfin]; subst h2; clear hfin
      go_enter Try.func38, Try.ntmps38
      go_wp2_with fail
      refine HF.out.mono ?_; rintro x w1 ⟨rfl, hd, hu⟩
      have HD := hid hd; have HU := hid hu; clear hd hu
      go_wp2_with fail
      go_ret
      exact ⟨rfl, HD.out, HU.out.mono (fun _ _ hk => .inr hk)⟩
    · have hfin : d.learn k e = d := by simp [Drive.learn, h1, h2]
      rw [hfin]; clear hfin
      have e1 : (e == 10) = false := by simpa using h1
      have e2 : (e == 9) = false := by simpa using h2
      go_enter Try.func38, Try.ntmps38
      go_wp2_with fail
      go_ret
      exact ⟨rfl, G.out, Upd.refl _ _⟩

end Go.Proofs.Ytljphijjcagciaa
