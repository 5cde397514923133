/-
  How a drive lies in memory.
  The walks over a drive's small methods that write, and over its erase.
  The walk over a drive's erase.
  The walk over a drive's program.
  The walk over how a page is, and over a drive's read.
  The walk over a drive's read.
-/
import Derived.Test.YtljphijjcagciaaNandB
import Derived.Test.YtljphijjcagciaaTagB
import Derived.Test.YtljphijjcagciaaCore
namespace Go.Proofs.Ytljphijjcagciaa
open Go.RowKit

structure DL where
  c : CL
  d : Nat
  b : Nat
  x : Nat
def DL.foot (D : DL) (k : Nat) : Prop := D.c.foot k ∨ k = D.d ∨ k = D.b ∨ k = D.x
def driveCells (D : DL) : List Value := .pointer (some ⟨D.c.a, 0, none⟩) :: (tabWay 256 ++ [.slice (some ⟨D.b, 0, none⟩) D.c.n D.c.n, .slice (some ⟨D.x, 0, none⟩) D.c.n D.c.n])

structure DriveAt (w : World) (D : DL) (d : Drive) : Prop where
  chip : ChipAt w D.c d.chip
  lenb : d.bad.length = D.c.n
  lenn : d.next.length = D.c.n
  top : Row w D.d 83 (driveCells D)
  bad : Row w D.b 4 (d.bad.map Value.bool)
  next : Row w D.x 3 (d.next.map (Value.int .i64))
  rng : ∀ v ∈ d.next, -1 ≤ v ∧ v ≤ d.chip.np
  fd : ¬ D.c.foot D.d
  fb : ¬ D.c.foot D.b
  fx : ¬ D.c.foot D.x
  db : D.d ≠ D.b
  dx : D.d ≠ D.x
  bx : D.b ≠ D.x

theorem DriveAt.upd {w w' : World} {D : DL} {d : Drive} {S : Nat → Prop} (h : DriveAt w D d) (hu : Upd S w w') (hs : ∀ k, S k → ¬ D.foot k) : DriveAt w' D d :=
  ⟨h.chip.upd hu (fun k hk hf => hs k hk (.inl hf)), h.lenb, h.lenn, h.top.upd hu (fun hk => hs _ hk (.inr (.inl rfl))), h.bad.upd hu (fun hk => hs _ hk (.inr (.inr (.inl rfl)))),
    h.next.upd hu (fun hk => hs _ hk (.inr (.inr (.inr rfl)))), h.rng, h.fd, h.fb, h.fx, h.db, h.dx, h.bx⟩
theorem DriveAt.drew {w : World} {D : DL} {d : Drive} (h : DriveAt w D d) : DriveAt w.drew D d :=
  h.upd (S := noBlk) ((Upd.refl _ _).drew) (fun _ h => h.elim)
theorem DriveAt.n {w : World} {D : DL} {d : Drive} (h : DriveAt w D d) : D.c.n = d.chip.bl.length := h.chip.n
theorem DriveAt.n256 {w : World} {D : DL} {d : Drive} (h : DriveAt w D d) : (D.c.n : Int) ≤ 256 := by have := h.chip.n; have := h.chip.ok.nb256; omega

theorem DriveAt.cells {w : World} {D : DL} {d : Drive} (h : DriveAt w D d) :
    w.cell? ⟨D.d, 0, none⟩ = some (.pointer (some ⟨D.c.a, 0, none⟩)) ∧ w.cell? ⟨D.d, 257, none⟩ = some (.slice (some ⟨D.b, 0, none⟩) D.c.n D.c.n) ∧ w.cell? ⟨D.d, 258, none⟩ = some (.slice (some ⟨D.x, 0, none⟩) D.c.n D.c.n) := by
  refine ⟨h.top.cell 0, ?_, ?_⟩
  · rw [h.top.cell 257]; unfold driveCells
    rw [List.getElem?_cons_succ, List.getElem?_append_right (by rw [tabWay_length]; omega), tabWay_length]; rfl
  · rw [h.top.cell 258]; unfold driveCells
    rw [List.getElem?_cons_succ, List.getElem?_append_right (by rw [tabWay_length]; omega), tabWay_length]; rfl
theorem DriveAt.tab {w : World} {D : DL} {d : Drive} (h : DriveAt w D d) : TabAt w D.d 1 := by
  intro j hj
  rw [h.top.cell (1 + j)]; unfold driveCells
  rw [Nat.add_comm 1 j, List.getElem?_cons_succ, List.getElem?_append_left (by rw [tabWay_length]; omega), tabWay_get _ _ hj, if_pos hj]

theorem Drive.is_iff {d : Drive} {k : Int} : d.is k = true ↔ 0 ≤ k ∧ k < d.bad.length := by simp [Drive.is]
theorem getD_at {α : Type} {l : List α} {k : Nat} {x : α} (h : k < l.length) : l[k]? = some (l.getD k x) := by
  rw [List.getD_eq_getElem?_getD, List.getElem?_eq_getElem h]; rfl

theorem DriveAt.badc {w : World} {D : DL} {d : Drive} (h : DriveAt w D d) {k : Int} (hk : d.is k = true) : w.cell? ⟨D.b, k.toNat, none⟩ = some (.bool (d.bad.getD k.toNat false)) := by
  obtain ⟨h0, h1⟩ := Drive.is_iff.1 hk
  refine h.bad.get ?_
  rw [List.getElem?_map, getD_at (x := false) (by omega)]; rfl
theorem DriveAt.nextc {w : World} {D : DL} {d : Drive} (h : DriveAt w D d) {k : Int} (hk : d.is k = true) : w.cell? ⟨D.x, k.toNat, none⟩ = some (.int .i64 (d.next.getD k.toNat 0)) := by
  obtain ⟨h0, h1⟩ := Drive.is_iff.1 hk
  refine h.next.get ?_
  have := h.lenb; have := h.lenn
  rw [List.getElem?_map, getD_at (x := 0) (by omega)]; rfl
theorem DriveAt.nextr {w : World} {D : DL} {d : Drive} (h : DriveAt w D d) {k : Int} (hk : d.is k = true) : -1 ≤ d.next.getD k.toNat 0 ∧ d.next.getD k.toNat 0 ≤ d.chip.np := by
  obtain ⟨h0, h1⟩ := Drive.is_iff.1 hk
  have := h.lenb; have := h.lenn
  exact h.rng _ (List.mem_of_getElem? (getD_at (x := 0) (by omega)))

theorem DriveAt.foot_lt {w : World} {D : DL} {d : Drive} (h : DriveAt w D d) {k : Nat} (hk : D.foot k) : k < w.heap.size := by
  rcases hk with hk | hk | hk | hk
  · exact h.chip.foot_lt hk
  · rw [hk]; exact h.top.lt
  · rw [hk]; exact h.bad.lt
  · rw [hk]; exact h.next.lt

/-- One block's next page is written down. -/
theorem DriveAt.next_set {w : World} {D : DL} {d : Drive} (h : DriveAt w D d) (k : Nat) (v : Int) (hv : -1 ≤ v ∧ v ≤ d.chip.np) :
    DriveAt (w.setCell ⟨D.x, k, none⟩ (.int .i64 v)) D { d with next := d.next.set k v } := by
  refine ⟨h.chip.upd (S := fun j => j = D.x) (Upd.setCell (S := fun j => j = D.x) (p := ⟨D.x, k, none⟩) (Upd.refl _ _) (.inl rfl) _) (fun k hk hf => h.fx (by rw [← hk]; exact hf)), h.lenb, by rw [List.length_set]; exact h.lenn,
    h.top.far (p := ⟨D.x, k, none⟩) h.dx _, h.bad.far (p := ⟨D.x, k, none⟩) h.bx _, ?_, ?_, h.fd, h.fb, h.fx, h.db, h.dx, h.bx⟩
  · have := h.next.set k (.int .i64 v)
    rw [← List.map_set] at this; exact this
  · intro u hu
    rcases List.mem_or_eq_of_mem_set hu with h1 | h1
    · exact h.rng u h1
    · rw [h1]; exact hv
/-- One block is bad. -/
theorem DriveAt.bad_set {w : World} {D : DL} {d : Drive} (h : DriveAt w D d) (k : Nat) (v : Bool) :
    DriveAt (w.setCell ⟨D.b, k, none⟩ (.bool v)) D { d with bad := d.bad.set k v } := by
  refine ⟨h.chip.upd (S := fun j => j = D.b) (Upd.setCell (S := fun j => j = D.b) (p := ⟨D.b, k, none⟩) (Upd.refl _ _) (.inl rfl) _) (fun k hk hf => h.fb (by rw [← hk]; exact hf)), by rw [List.length_set]; exact h.lenb, h.lenn,
    h.top.far (p := ⟨D.b, k, none⟩) h.db _, ?_, h.next.far (p := ⟨D.b, k, none⟩) h.bx.symm _, h.rng, h.fd, h.fb, h.fx, h.db, h.dx, h.bx⟩
  have := h.bad.set k (.bool v)
  rw [← List.map_set] at this; exact this
/-- The chip is another. -/
theorem DriveAt.chip_put {w w' : World} {D : DL} {d : Drive} (h : DriveAt w D d) {c : Chip} (hu : Upd D.c.foot w w') (hc : ChipAt w' D.c c) (hp : c.np = d.chip.np) : DriveAt w' D { d with chip := c } :=
  ⟨hc, h.lenb, h.lenn, h.top.upd hu h.fd, h.bad.upd hu h.fb, h.next.upd hu h.fx, fun v hv => by have := h.rng v hv; show -1 ≤ v ∧ v ≤ c.np; rw [hp]; exact this, h.fd, h.fb, h.fx, h.db, h.dx, h.bx⟩

theorem is_any (D : DL) (d : Drive) (k : Int) (w : World) (h : DriveAt w D d) :
    Calls Try.prog 42 #[.pointer (some ⟨D.d, 0, none⟩), .int .i64 k] w fun e w' => e = .returned (.bool (d.is k)) ∧ w = w' := by
  obtain ⟨_, c1, _⟩ := h.cells
  have hfin : d.is k = (decide (0 ≤ k) && decide (k < (D.c.n : Int))) := by unfold Drive.is; rw [h.lenb]
  rw [hfin]
  have h256 := h.n256
  clear hfin h
  by_cases h1 : 0 ≤ k
  all_goals
    go_enter Try.func42, Try.ntmps42
    go_wp2
    go_ret
    exact ⟨by simp [h1] <;> omega, rfl⟩

theorem Next_any (D : DL) (d : Drive) (k : Int) (w : World) (h : DriveAt w D d) :
    Calls Try.prog 14 #[.pointer (some ⟨D.d, 0, none⟩), .int .i64 k] w fun e w' => e = .returned (.int .i64 (d.nextOf k)) ∧ w = w' := by
  have HI := hid (is_any D d k w h)
  obtain ⟨_, _, c2⟩ := h.cells
  have h256 := h.n256
  cases hk : d.is k
  · have hfin : d.nextOf k = -1 := by simp [Drive.nextOf, hk]
    rw [hfin]; rw [hk] at HI
    clear h hfin hk
    go_enter Try.func14, Try.ntmps14
    go_wp2_with fail
    refine HI.out.mono ?_; rintro e w1 ⟨rfl, rfl⟩
    go_wp2_with fail
    go_ret
    exact ⟨rfl, rfl⟩
  · have hfin : d.nextOf k = d.next.getD k.toNat 0 := by simp [Drive.nextOf, hk]
    rw [hfin]; rw [hk] at HI
    obtain ⟨h0, h1⟩ := Drive.is_iff.1 hk
    rw [h.lenb] at h1
    have hc := h.nextc hk
    clear h hfin hk
    go_enter Try.func14, Try.ntmps14
    go_wp2_with fail
    refine HI.out.mono ?_; rintro e w1 ⟨rfl, rfl⟩
    go_wp2_with fail
    go_ret
    exact ⟨rfl, rfl⟩

theorem Chip_any (D : DL) (d : Drive) (w : World) (h : DriveAt w D d) :
    Calls Try.prog 47 #[.pointer (some ⟨D.d, 0, none⟩)] w fun e w' => e = .returned (.pointer (some ⟨D.c.a, 0, none⟩)) ∧ w = w' := by
  obtain ⟨c0, _, _⟩ := h.cells
  clear h
  go_enter Try.func47, Try.ntmps47
  go_wp2
  go_ret
  exact ⟨rfl, rfl⟩

theorem driveReady_any (D : DL) (d : Drive) (k : Int) (w : World) (h : DriveAt w D d) :
    Calls Try.prog 37 #[.pointer (some ⟨D.d, 0, none⟩), .int .i64 k] w fun e w' => e = .returned (.int .i64 (d.ready k)) ∧ w = w' := by
  have HI := hid (is_any D d k w h)
  obtain ⟨_, c1, _⟩ := h.cells
  have h256 := h.n256
  cases hk : d.is k
  · have hfin : d.ready k = 3 := by simp [Drive.ready, hk]
    rw [hfin]; rw [hk] at HI
    clear h hfin hk
    go_enter Try.func37, Try.ntmps37
    go_wp2_with fail
    refine HI.out.mono ?_; rintro e w1 ⟨rfl, rfl⟩
    go_wp2_with fail
    go_ret
    exact ⟨rfl, rfl⟩
  · have hfin : d.ready k = if d.bad.getD k.toNat false then 12 else 0 := by simp [Drive.ready, hk]
    rw [hfin]; rw [hk] at HI
    obtain ⟨h0, h1⟩ := Drive.is_iff.1 hk
    rw [h.lenb] at h1
    have hc := h.badc hk
    generalize d.bad.getD k.toNat false = b at hc ⊢
    clear h hfin hk
    cases b
    all_goals
      go_enter Try.func37, Try.ntmps37
      go_wp2_with fail
      refine HI.out.mono ?_; rintro e w1 ⟨rfl, rfl⟩
      go_wp2_with fail
      go_ret
      exact ⟨rfl, rfl⟩

end Go.Proofs.Ytljphijjcagciaa

namespace Go.Proofs.Ytljphijjcagciaa
open Go.RowKit

def Drive.forgetN (d : Drive) (k : Nat) : Drive := { d with next := List.replicate k (-1) ++ d.next.drop k }
theorem Drive.forgetN_zero (d : Drive) : d.forgetN 0 = d := by simp [Drive.forgetN]
theorem Drive.forgetN_set (d : Drive) (k : Nat) (h : k < d.next.length) : { d.forgetN k with next := (d.forgetN k).next.set k (-1) } = d.forgetN (k + 1) := by
  simp only [Drive.forgetN, Drive.mk.injEq, true_and]
  refine List.ext_getElem? fun i => ?_
  simp only [List.getElem?_set, List.getElem?_append, List.length_append, List.length_replicate, List.length_drop, List.getElem?_replicate, List.getElem?_drop]
  rcases Nat.lt_trichotomy i k with h1 | h1 | h1
  · rw [if_neg (by omega), if_pos h1, if_pos h1, if_pos (by omega), if_pos (by omega)]
  · subst h1
    rw [if_pos rfl, if_pos (by omega), if_pos (by omega), if_pos (by omega)]
  · rw [if_neg (by omega), if_neg (by omega), if_neg (by omega)]
    congr 1; omega
theorem Drive.forgetN_all (d : Drive) : d.forgetN d.next.length = d.forget := by simp [Drive.forgetN, Drive.forget]

theorem forget_any (D : DL) (d : Drive) (w : World) (h : DriveAt w D d) :
    Calls Try.prog 35 #[.pointer (some ⟨D.d, 0, none⟩)] w fun e w' => e = .returned (.tuple #[]) ∧ DriveAt w' D d.forget ∧ Upd (fun k => k = D.x) w w' := by
  obtain ⟨_, _, c2⟩ := h.cells
  have h256 := h.n256
  have hl := h.lenn
  have hnp := h.chip.ok.np2
  have G := hid h; have HL := hid hl; have HNP := hid hnp
  clear h hl hnp
  go_enter Try.func35, Try.ntmps35
  go_wp2
  go_loopw [8] (fun i wr => ∃ k : Nat, k ≤ D.c.n ∧ i = .int .i64 k ∧ DriveAt wr D (d.forgetN k) ∧ Upd (fun k => k = D.x) w wr) (fun i _ => D.c.n - (intOf i).toNat)
  case atStart => exact ⟨0, Nat.zero_le _, rfl, by rw [Drive.forgetN_zero]; exact G.out, Upd.refl _ _⟩
  case round =>
    obtain ⟨k, hk, rfl, hc, hu⟩ := hrel
    by_cases hlt : k < D.c.n
    · obtain ⟨_, _, d2⟩ := hc.cells
      have hx : wr.cell? ⟨D.x, k, none⟩ = some (.int .i64 ((d.forgetN k).next.getD k 0)) := by
        refine hc.next.get ?_
        rw [List.getElem?_map, getD_at (x := 0) (by rw [hc.lenn]; exact hlt)]; rfl
      have fx := hc.next.frozen k
      have g := hc.next_set k (-1) ⟨by omega, by show (-1 : Int) ≤ d.chip.np; have := HNP.out; omega⟩
      rw [Drive.forgetN_set d k (by rw [HL.out]; exact hlt)] at g
      have G2 := hid g; have HC := hid hc; clear g hc
      go_wp2
      exact ⟨⟨k + 1, by omega, by go_num, G2.out, hu.setCell (.inl rfl) _⟩, by simp [intOf]; omega⟩
    · go_wp2
      go_end0
      have : k = d.next.length := by have := HL.out; omega
      subst this
      rw [Drive.forgetN_all] at hc
      exact ⟨rfl, hc, hu⟩

theorem Mark_any (D : DL) (d : Drive) (k : Int) (w : World) (h : DriveAt w D d) :
    Calls Try.prog 60 #[.pointer (some ⟨D.d, 0, none⟩), .int .i64 k] w fun e w' => e = .returned (.tuple #[]) ∧ DriveAt w' D (d.mark k) ∧ Upd (fun k => k = D.b ∨ k = D.x) w w' := by
  have HI := hid (is_any D d k w h)
  cases hk : d.is k
  · have hfin : d.mark k = d := by simp [Drive.mark, hk]
    rw [hfin]; rw [hk] at HI
    have G := hid h
    clear h hfin hk
    go_enter Try.func60, Try.ntmps60
    go_wp2_with fail
    refine HI.out.mono ?_; rintro e w1 ⟨rfl, rfl⟩
    go_wp2_with fail
    go_end0
    exact ⟨rfl, G.out, Upd.refl _ _⟩
  · have hfin : d.mark k = { d with bad := d.bad.set k.toNat true, next := d.next.set k.toNat (-1) } := by simp [Drive.mark, hk]
    rw [hfin]; rw [hk] at HI
    obtain ⟨h0, h1⟩ := Drive.is_iff.1 hk
    rw [h.lenb] at h1
    obtain ⟨_, c1, c2⟩ := h.cells
    have h256 := h.n256
    have e1 := h.badc hk; have e2 := h.nextc hk
    have f1 := h.bad.frozen k.toNat; have f2 := h.next.frozen k.toNat
    have G := hid h; have HK := hid hk; have hnp := h.chip.ok.np2; have HNP := hid hnp
    have hne := h.bx; have hne2 := h.bx.symm
    clear h hfin hk hnp
    go_enter Try.func60, Try.ntmps60
    go_wp2_with fail
    refine HI.out.mono ?_; rintro e w1 ⟨rfl, rfl⟩
    go_wp2_with fail
    go_region
    go_wp2_with fail
    go_end0
    exact ⟨rfl, (G.out.drew.bad_set k.toNat true).next_set k.toNat (-1) ⟨by omega, by show (-1 : Int) ≤ d.chip.np; have := HNP.out; omega⟩,
      ((Upd.refl _ _).drew.setCell (.inl (.inl rfl)) _).setCell (.inl (.inr rfl)) _⟩

theorem learn_any (D : DL) (d : Drive) (k e : Int) (w : World) (h : DriveAt w D d) (he : 0 ≤ e ∧ e ≤ 100) :
    Calls Try.prog 38 #[.pointer (some ⟨D.d, 0, none⟩), .int .i64 k, .int .i64 e] w fun x w' => x = .returned (.int .i64 e) ∧ DriveAt w' D (d.learn k e) ∧ Upd (fun k => k = D.b ∨ k = D.x) w w' := by
  have HM := hid (Mark_any D d k w h)
  have HF := hid (forget_any D d w h)
  have G := hid h
  clear h
  by_cases h1 : e = 10
  · have hfin : d.learn k e = d.mark k := by simp [Drive.learn, h1]
    rw [hfin]; subst h1; clear hfin
    go_enter Try.func38, Try.ntmps38
    go_wp2_with fail
    refine HM.out.mono ?_; rintro x w1 ⟨rfl, hd, hu⟩
    have HD := hid hd; have HU := hid hu; clear hd hu
    go_wp2_with fail
    go_ret
    exact ⟨rfl, HD.out, HU.out⟩
  · by_cases h2 : e = 9
    · have hfin : d.learn k e = d.forget := by simp [Drive.learn, h2]
      rw [hfin]; subst h2; clear hfin
      go_enter Try.func38, Try.ntmps38
      go_wp2_with fail
      refine HF.out.mono ?_; rintro x w1 ⟨rfl, hd, hu⟩
      have HD := hid hd; have HU := hid hu; clear hd hu
      go_wp2_with fail
      go_ret
      exact ⟨rfl, HD.out, HU.out.mono (fun _ _ hk => .inr hk)⟩
    · have hfin : d.learn k e = d := by simp [Drive.learn, h1, h2]
      rw [hfin]; clear hfin
      have e1 : (e == 10) = false := by simpa using h1
      have e2 : (e == 9) = false := by simpa using h2
      go_enter Try.func38, Try.ntmps38
      go_wp2_with fail
      go_ret
      exact ⟨rfl, G.out, Upd.refl _ _⟩

end Go.Proofs.Ytljphijjcagciaa

namespace Go.Proofs.Ytljphijjcagciaa
open Go.RowKit

theorem Chip.ready_code (c : Chip) (b p : Int) : 0 ≤ c.ready b p ∧ c.ready b p ≤ 100 := by
  unfold Chip.ready; split
  · omega
  · split <;> omega
theorem Chip.erase_code (c : Chip) (b : Int) : 0 ≤ (c.erase b).1 ∧ (c.erase b).1 ≤ 100 := by
  unfold Chip.erase
  dsimp only
  have h := Chip.burn_np c true
  generalize Chip.burn c true = q at h ⊢
  obtain ⟨cut, c1⟩ := q
  dsimp only at h ⊢
  repeat' split
  all_goals first | exact Chip.ready_code c b 0 | (constructor <;> simp)
theorem Chip.program_code (c : Chip) (b p : Int) (x y : ByteArray) : 0 ≤ (c.program b p x y).1 ∧ (c.program b p x y).1 ≤ 100 := by
  unfold Chip.program
  dsimp only
  have h := Chip.burn_np (c.put b { c.at b with next := inc (c.at b).next }) false
  generalize Chip.burn (c.put b { c.at b with next := inc (c.at b).next }) false = q at h ⊢
  obtain ⟨cut, c1⟩ := q
  dsimp only at h ⊢
  repeat' split
  all_goals first | exact Chip.ready_code c b p | (constructor <;> simp)
theorem Chip.erase_np (c : Chip) (b : Int) : (c.erase b).2.np = c.np := by
  unfold Chip.erase
  dsimp only
  have h := Chip.burn_np c true
  generalize Chip.burn c true = q at h ⊢
  obtain ⟨cut, c1⟩ := q
  dsimp only at h ⊢
  repeat' split
  all_goals first | rfl | exact h
theorem Chip.program_np (c : Chip) (b p : Int) (x y : ByteArray) : (c.program b p x y).2.np = c.np := by
  unfold Chip.program
  dsimp only
  have h := Chip.burn_np (c.put b { c.at b with next := inc (c.at b).next }) false
  generalize Chip.burn (c.put b { c.at b with next := inc (c.at b).next }) false = q at h ⊢
  obtain ⟨cut, c1⟩ := q
  dsimp only at h ⊢
  repeat' split
  all_goals first | rfl | exact h
theorem Drive.ready_zero {d : Drive} {k : Int} (h : d.ready k = 0) : d.is k = true := by
  unfold Drive.ready at h
  cases hk : d.is k
  · rw [hk] at h; exact absurd h (by simp)
  · rfl

theorem driveErase_any (D : DL) (d : Drive) (k : Int) (w : World) (h : DriveAt w D d) (hfu : d.chip.fuse ≤ 1000000) :
    Calls Try.prog 9 #[.pointer (some ⟨D.d, 0, none⟩), .int .i64 k] w fun e w' => e = .returned (.int .i64 (d.erase k).1) ∧ DriveAt w' D (d.erase k).2 ∧ Upd D.foot w w' := by
  have HR := hid (driveReady_any D d k w h)
  by_cases hr : d.ready k = 0
  · obtain ⟨c0, _, _⟩ := h.cells
    have HE := hid (Erase_any D.c d.chip k w h.chip hfu)
    have hec := Chip.erase_code d.chip k
    have henp := Chip.erase_np d.chip k
    have hfin : d.erase k = if (d.chip.erase k).1 = 0 then (0, { ({ d with chip := (d.chip.erase k).2 } : Drive).learn k (d.chip.erase k).1 with next := (({ d with chip := (d.chip.erase k).2 } : Drive).learn k (d.chip.erase k).1).next.set k.toNat 0 }) else ((d.chip.erase k).1, ({ d with chip := (d.chip.erase k).2 } : Drive).learn k (d.chip.erase k).1) := by
      unfold Drive.erase; rw [if_neg (by simp [hr])]
    rw [hfin, ]; clear hfin
    rw [hr] at HR
    have hk := Drive.ready_zero hr
    generalize (d.chip.erase k).1 = e at *
    generalize (d.chip.erase k).2 = c1 at *
    obtain ⟨h0, h1⟩ := Drive.is_iff.1 hk
    rw [h.lenb] at h1
    have h256 := h.n256
    have HL := hid (fun W (hW : DriveAt W D { d with chip := c1 }) => learn_any D { d with chip := c1 } k e W hW hec)
    have G := hid h; have HK := hid hk; have HNP := hid henp
    by_cases he : e = 0
    · subst he
      have hl : ({ d with chip := c1 } : Drive).learn k 0 = { d with chip := c1 } := by simp [Drive.learn]
      rw [if_pos rfl, hl]; rw [hl] at HL
      clear h hk hl henp hr
      go_enter Try.func9, Try.ntmps9
      go_wp2_with fail
      refine HR.out.mono ?_; rintro x w1 ⟨rfl, rfl⟩
      go_wp2_with fail
      refine HE.out.mono ?_; rintro x w1 ⟨rfl, hc, hu⟩
      have HD := hid (G.out.chip_put hu hc HNP.out); have HU := hid hu
      clear hc hu
      go_wp2_with fail
      refine (HL.out _ HD.out).mono ?_; rintro x w2 ⟨rfl, hd, hu2⟩
      have HD2 := hid hd; have HU2 := hid ((HU.out.mono (fun _ _ hk => .inl hk)).trans' (hu2.mono (T := D.foot) fun _ _ hk => .inr (.inr hk)))
      clear hd hu2
      obtain ⟨_, _, c2⟩ := HD2.out.cells
      have e2 := HD2.out.nextc (k := k) HK.out
      have f2 := HD2.out.next.frozen k.toNat
      go_wp2_with fail
      go_ret
      exact ⟨rfl, HD2.out.next_set k.toNat 0 ⟨by omega, by show (0 : Int) ≤ c1.np; have := HD2.out.chip.ok.np2; have : c1.np = d.chip.np := HNP.out; have := G.out.chip.ok.np2; omega⟩, HU2.out.setCell (.inl (.inr (.inr (.inr rfl)))) _⟩
    · rw [if_neg he]
      have he2 : (e == 0) = false := by simpa using he
      clear h hk henp hr he
      go_enter Try.func9, Try.ntmps9
      go_wp2_with fail
      refine HR.out.mono ?_; rintro x w1 ⟨rfl, rfl⟩
      go_wp2_with fail
      refine HE.out.mono ?_; rintro x w1 ⟨rfl, hc, hu⟩
      have HD := hid (G.out.chip_put hu hc HNP.out); have HU := hid hu
      clear hc hu
      go_wp2_with fail
      refine (HL.out _ HD.out).mono ?_; rintro x w2 ⟨rfl, hd, hu2⟩
      have HD2 := hid hd; have HU2 := hid ((HU.out.mono (fun _ _ hk => .inl hk)).trans' (hu2.mono (T := D.foot) fun _ _ hk => .inr (.inr hk)))
      clear hd hu2
      go_wp2_with fail
      go_ret
      exact ⟨rfl, HD2.out, HU2.out⟩
  · have hfin : d.erase k = (d.ready k, d) := by unfold Drive.erase; rw [if_pos hr]
    rw [hfin]
    have he2 : (d.ready k == 0) = false := by simpa using hr
    have G := hid h
    generalize d.ready k = e at *
    clear h hr hfin
    go_enter Try.func9, Try.ntmps9
    go_wp2_with fail
    refine HR.out.mono ?_; rintro x w1 ⟨rfl, rfl⟩
    go_wp2_with fail
    go_ret
    exact ⟨rfl, G.out, Upd.refl _ _⟩

end Go.Proofs.Ytljphijjcagciaa

namespace Go.Proofs.Ytljphijjcagciaa
open Go.RowKit

theorem Tag.beside_size (t : Tag) (data : ByteArray) : (t.beside data).size = 32 := by
  unfold Tag.beside; rw [mkS_size, List.length_append, Tag.bytes_length, sumB, putB_length]

theorem field_shape0 (a b c : Int) : ∀ w : World, (Instr.field 27 (.agg #[.int .i64 a, .int .i64 b, .int .i64 c]) 0).run Try.prog w = .ok (.int .i64 a) w := fun _ => by kernel_rfl
theorem field_shape1 (a b c : Int) : ∀ w : World, (Instr.field 27 (.agg #[.int .i64 a, .int .i64 b, .int .i64 c]) 1).run Try.prog w = .ok (.int .i64 b) w := fun _ => by kernel_rfl
theorem field_shape2 (a b c : Int) : ∀ w : World, (Instr.field 27 (.agg #[.int .i64 a, .int .i64 b, .int .i64 c]) 2).run Try.prog w = .ok (.int .i64 c) w := fun _ => by kernel_rfl

/-- Whatever the tag, what the frame gives. -/
theorem Frame_any (d off : Nat) (t : Tag) (data : ByteArray) (hd : data.size ≤ 100000) (w : World) (hs : 0 ≤ t.seq ∧ t.seq ≤ 18446744073709551615) (ht : TabAt w d off) :
    Calls Try.prog 40 #[.pointer (some ⟨d, off, none⟩), t.val, .string data] w fun e w' => e = .returned (.tuple #[.string (if t.right then t.beside data else mkS []), .int .i64 (if t.right then 0 else 2)]) ∧ Upd noBlk w w' := by
  cases h : t.right
  · exact Frame_bad d off t data w h
  · exact Frame_good d off t data hd w h hs ht

theorem driveProgram_no (D : DL) (d : Drive) (k : Int) (t : Tag) (data : ByteArray) (w : World) (h : DriveAt w D d) (hr : d.ready k ≠ 0) :
    Calls Try.prog 10 #[.pointer (some ⟨D.d, 0, none⟩), .int .i64 k, t.val, .string data] w fun e w' => e = .returned (.tuple #[.int .i64 0, .int .i64 (d.ready k)]) ∧ Upd noBlk w w' := by
  have HR := hid (fun W hW => driveReady_any D d k W hW)
  have he2 : (d.ready k == 0) = false := by simpa using hr
  have G := hid h
  generalize d.ready k = e at *
  obtain ⟨kk, l, s, p, n⟩ := t
  unfold Tag.val
  clear h hr
  go_enter Try.func10, Try.ntmps10
  go_wp2_with fail
  refine (HR.out _ (G.out.upd ((Upd.refl noBlk _).alloc _) fun _ h => h.elim)).mono ?_; rintro x w1 ⟨rfl, rfl⟩
  go_wp2_with fail
  go_ret2
  exact ⟨rfl, (Upd.refl _ _).alloc _⟩

theorem driveProgram_go (D : DL) (d : Drive) (k : Int) (t : Tag) (data : ByteArray) (w : World) (h : DriveAt w D d) (hfu : d.chip.fuse ≤ 1000000) (hd : data.size ≤ 100000) (hs : 0 ≤ t.seq ∧ t.seq ≤ 18446744073709551615) (hr : d.ready k = 0) :
    Calls Try.prog 10 #[.pointer (some ⟨D.d, 0, none⟩), .int .i64 k, t.val, .string data] w fun e w' => e = .returned (.tuple #[.int .i64 (d.program k t data).1, .int .i64 (d.program k t data).2.1]) ∧ DriveAt w' D (d.program k t data).2.2 ∧ Upd D.foot w w' := by
  have HR := hid (fun W hW => driveReady_any D d k W hW)
  rw [hr] at HR
  have hk := Drive.ready_zero hr
  obtain ⟨h0, h1⟩ := Drive.is_iff.1 hk
  rw [h.lenb] at h1
  have h256 := h.n256
  have hpr := h.nextr hk
  have hnp64 := h.chip.ok.np64
  have hsz1 := h.chip.ok.sz32; have hsz2 := h.chip.ok.sz1024
  have G := hid h; have HK := hid hk
  have hbs := Tag.beside_size t data
  have HF := hid (fun W hW => Frame_any D.d 1 t data hd W hs hW)
  have HSH := hid (fun W hW => Shape_any D.c d.chip W hW)
  have hdi : (data.size : Int) ≤ 100000 := by omega
  have HP := hid (fun W (hW : ChipAt W D.c d.chip) => Program_any D.c d.chip k (d.next.getD k.toNat 0) data (t.beside data) W hW hfu (by unfold maxLen; omega) (by rw [hbs]; unfold maxLen; omega))
  have hcode := Chip.program_code d.chip k (d.next.getD k.toNat 0) data (t.beside data)
  have hnp := Chip.program_np d.chip k (d.next.getD k.toNat 0) data (t.beside data)
  have hinc : inc (d.next.getD k.toNat 0) = d.next.getD k.toNat 0 + 1 := by
    unfold inc wrap64; omega
  have hfin : d.program k t data = (if (!t.right || decide ((data.size : Int) ≠ d.chip.sz)) = true then (0, 2, d) else if (decide (d.next.getD k.toNat 0 = -1) || decide (d.chip.np ≤ d.next.getD k.toNat 0)) = true then (0, 11, d) else
    if (d.chip.program k (d.next.getD k.toNat 0) data (t.beside data)).1 ≠ 0 then (0, (d.chip.program k (d.next.getD k.toNat 0) data (t.beside data)).1, ({ d with chip := (d.chip.program k (d.next.getD k.toNat 0) data (t.beside data)).2 } : Drive).learn k (d.chip.program k (d.next.getD k.toNat 0) data (t.beside data)).1) else
    (d.next.getD k.toNat 0, 0, { ({ d with chip := (d.chip.program k (d.next.getD k.toNat 0) data (t.beside data)).2 } : Drive).learn k (d.chip.program k (d.next.getD k.toNat 0) data (t.beside data)).1 with next := (({ d with chip := (d.chip.program k (d.next.getD k.toNat 0) data (t.beside data)).2 } : Drive).learn k (d.chip.program k (d.next.getD k.toNat 0) data (t.beside data)).1).next.set k.toNat (inc (d.next.getD k.toNat 0)) })) := by
    unfold Drive.program; rw [if_neg (by simp [hr])]
  rw [hinc] at hfin
  generalize d.program k t data = res at hfin ⊢
  have hne : ∀ W, DriveAt W D d → W.cell? ⟨D.x, k.toNat, none⟩ = some (.int .i64 (d.next.getD k.toNat 0)) := fun W hW => hW.nextc hk
  have HNE := hid hne
  generalize d.chip.program k (d.next.getD k.toNat 0) data (t.beside data) = pr at *
  obtain ⟨e, c1⟩ := pr
  dsimp only at *
  generalize hpg : d.next.getD k.toNat 0 = page at *
  have HPG := hid hpg
  have HL := hid (fun W (hW : DriveAt W D { d with chip := c1 }) => learn_any D { d with chip := c1 } k e W hW hcode)
  have HNP := hid hnp
  generalize t.beside data = BS at *
  generalize t.right = r at *
  obtain ⟨kk, l, s, p, n⟩ := t
  unfold Tag.val at *
  have HF2 := hid hfin
  dsimp only at HF
  clear h hk hinc hfin hne hnp hs hr hfu hpg
  have hf1 : ∀ W : World, (Instr.field 27 (.agg #[.int .i64 d.chip.nb, .int .i64 d.chip.np, .int .i64 d.chip.sz]) 1).run Try.prog W = .ok (.int .i64 d.chip.np) W := field_shape1 _ _ _
  have hf2 : ∀ W : World, (Instr.field 27 (.agg #[.int .i64 d.chip.nb, .int .i64 d.chip.np, .int .i64 d.chip.sz]) 2).run Try.prog W = .ok (.int .i64 d.chip.sz) W := field_shape2 _ _ _
  go_enter Try.func10, Try.ntmps10
  go_wp2_with fail
  have hB : Row (w.alloc (.cells #[.int .u8 kk, .int .i64 l, .int .u64 s, .int .i64 p, .int .i64 n] 36)) w.heap.size 36 [.int .u8 kk, .int .i64 l, .int .u64 s, .int .i64 p, .int .i64 n] := Row.new w _ _
  have hU : Upd noBlk w (w.alloc (.cells #[.int .u8 kk, .int .i64 l, .int .u64 s, .int .i64 p, .int .i64 n] 36)) := (Upd.refl _ _).alloc _
  generalize w.alloc (.cells #[.int .u8 kk, .int .i64 l, .int .u64 s, .int .i64 p, .int .i64 n] 36) = W at hB hU ⊢
  have HD := hid (G.out.upd hU fun _ h => h.elim)
  have E0 : ∀ n0 : UW W, n0.w.cell? ⟨w.heap.size, 0, none⟩ = some (.int .u8 kk) := fun n0 => n0.cell (hB.cell 0)
  have E1 : ∀ n0 : UW W, n0.w.cell? ⟨w.heap.size, 1, none⟩ = some (.int .i64 l) := fun n0 => n0.cell (hB.cell 1)
  have E2 : ∀ n0 : UW W, n0.w.cell? ⟨w.heap.size, 2, none⟩ = some (.int .u64 s) := fun n0 => n0.cell (hB.cell 2)
  have E3 : ∀ n0 : UW W, n0.w.cell? ⟨w.heap.size, 3, none⟩ = some (.int .i64 p) := fun n0 => n0.cell (hB.cell 3)
  have E4 : ∀ n0 : UW W, n0.w.cell? ⟨w.heap.size, 4, none⟩ = some (.int .i64 n) := fun n0 => n0.cell (hB.cell 4)
  have HU := hid hU
  have HFU := hid (fun n0 : UW W => UW.call (HF.out n0.w ((HD.out.upd n0.upd fun _ h => h.elim).tab)))
  clear hU hB
  refine (HR.out _ HD.out).mono ?_; rintro x w1 ⟨rfl, rfl⟩
  go_wp2_with fail
  refine wp_region_upd (by kernel_rfl) (by kernel_rfl) ?_
  repeat (go_big_quiet_step (exact HFU.out _))
  refine wpQuiet_nil ?_
  rintro _ ⟨nq, rfl⟩
  clear E0 E1 E2 E3 E4
  have HD1 := hid (HD.out.upd nq.upd fun _ h => h.elim)
  have HU1 := hid (HU.out.trans' nq.upd)
  generalize nq.w = w1 at *
  obtain ⟨c0, _, c2⟩ := HD1.out.cells
  have hnx := HNE.out w1 HD1.out
  cases r
  · have hres : res = (0, 2, d) := by rw [HF2.out]; rfl
    subst hres
    go_wp2_with fail
    go_ret2
    exact ⟨rfl, HD1.out, HU1.out.mono fun _ _ h => h.elim⟩
  · by_cases hsz : (data.size : Int) = d.chip.sz
    · have q1 : (!true || decide ((data.size : Int) ≠ d.chip.sz)) = false := by simp [hsz]
      have hres := HF2.out
      rw [q1, if_neg (by simp)] at hres; clear q1
      have HF2 := hid hres; clear hres
      have b1 : ((data.size : Int) == d.chip.sz) = true := by simpa using hsz
      have HSZ := hid hsz; clear hsz
      by_cases hp1 : page = -1
      · subst hp1
        have hres : res = (0, 11, d) := by rw [HF2.out]; rfl
        subst hres
        go_wp2_with fail
        refine (HSH.out _ HD1.out.chip).mono ?_; rintro x w2 ⟨rfl, hu2⟩
        have HU2 := hid (HU1.out.trans' hu2); have HD2 := hid (HD1.out.upd hu2 fun _ h => h.elim); clear hu2
        go_wp2_with fail
        go_ret2
        exact ⟨rfl, HD2.out, HU2.out.mono fun _ _ h => h.elim⟩
      · have b2 : (page == -1) = false := by simpa using hp1
        by_cases hp2 : d.chip.np ≤ page
        · have q2 : (decide (page = -1) || decide (d.chip.np ≤ page)) = true := by simp [hp2]
          have hres : res = (0, 11, d) := by rw [HF2.out, q2]; rfl
          subst hres
          clear q2
          go_wp2_with fail
          refine (HSH.out _ HD1.out.chip).mono ?_; rintro x w2 ⟨rfl, hu2⟩
          have HU2 := hid (HU1.out.trans' hu2); have HD2 := hid (HD1.out.upd hu2 fun _ h => h.elim); clear hu2
          obtain ⟨d0, _, _⟩ := HD2.out.cells
          clear c0 c2 hnx
          go_wp2_with fail
          refine (HSH.out _ HD2.out.chip).mono ?_; rintro x w3 ⟨rfl, hu3⟩
          have HU3 := hid (HU2.out.trans' hu3); have HD3 := hid (HD2.out.upd hu3 fun _ h => h.elim); clear hu3
          go_wp2_with fail
          go_ret2
          exact ⟨rfl, HD3.out, HU3.out.mono fun _ _ h => h.elim⟩
        · have q2 : (decide (page = -1) || decide (d.chip.np ≤ page)) = false := by simp [hp1, hp2]
          have hres := HF2.out
          rw [q2, if_neg (by simp)] at hres; clear q2
          have HF2 := hid hres; clear hres
          have hp3 : page < d.chip.np := by omega
          clear hp2 hp1
          go_wp2_with fail
          refine (HSH.out _ HD1.out.chip).mono ?_; rintro x w2 ⟨rfl, hu2⟩
          have HU2 := hid (HU1.out.trans' hu2); have HD2 := hid (HD1.out.upd hu2 fun _ h => h.elim); clear hu2
          obtain ⟨d0, _, _⟩ := HD2.out.cells
          clear c0 c2 hnx
          go_wp2_with fail
          refine (HSH.out _ HD2.out.chip).mono ?_; rintro x w3 ⟨rfl, hu3⟩
          have HU3 := hid (HU2.out.trans' hu3); have HD3 := hid (HD2.out.upd hu3 fun _ h => h.elim); clear hu3
          obtain ⟨f0, _, _⟩ := HD3.out.cells
          clear d0
          go_wp2_with fail
          refine (HP.out _ HD3.out.chip).mono ?_; rintro x w4 ⟨rfl, hc4, hu4⟩
          have HD4 := hid (HD3.out.chip_put hu4 hc4 HNP.out)
          have HU4 := hid ((HU3.out.mono (T := D.foot) (fun _ _ h => h.elim)).trans' (hu4.mono (T := D.foot) fun _ _ h => .inl h))
          clear hc4 hu4 f0
          go_wp2_with fail
          refine (HL.out _ HD4.out).mono ?_; rintro x w5 ⟨rfl, hd5, hu5⟩
          have HD5 := hid hd5
          have HU5 := hid (HU4.out.trans' (hu5.mono (T := D.foot) fun _ _ h => .inr (.inr h)))
          clear hd5 hu5
          by_cases he : e = 0
          · subst he
            have hl : ({ d with chip := c1 } : Drive).learn k 0 = { d with chip := c1 } := by simp [Drive.learn]
            rw [hl] at HD5
            have hres : res = (page, 0, { d with chip := c1, next := d.next.set k.toNat (page + 1) }) := by rw [HF2.out, if_neg (by simp), hl]
            subst hres
            clear hl
            obtain ⟨_, _, g2⟩ := HD5.out.cells
            have gx := HD5.out.nextc (k := k) HK.out
            have fx := HD5.out.next.frozen k.toNat
            have gp : d.next.getD k.toNat 0 = page := HPG.out
            rw [show ({ d with chip := c1 } : Drive).next = d.next from rfl, gp] at gx
            clear gp
            go_wp2_with fail
            go_ret2
            exact ⟨rfl, HD5.out.next_set k.toNat (page + 1) ⟨by omega, by show page + 1 ≤ c1.np; rw [HNP.out]; omega⟩, HU5.out.setCell (.inl (.inr (.inr (.inr rfl)))) _⟩
          · have b3 : (e == 0) = false := by simpa using he
            have hres : res = (0, e, ({ d with chip := c1 } : Drive).learn k e) := by rw [HF2.out, if_pos he]
            subst hres
            go_wp2_with fail
            go_ret2
            exact ⟨rfl, HD5.out, HU5.out⟩
    · have b1 : ((data.size : Int) == d.chip.sz) = false := by simpa using hsz
      have q1 : (!true || decide ((data.size : Int) ≠ d.chip.sz)) = true := by simp [hsz]
      have hres : res = (0, 2, d) := by rw [HF2.out, q1]; rfl
      subst hres
      clear q1 hsz
      go_wp2_with fail
      refine (HSH.out _ HD1.out.chip).mono ?_; rintro x w2 ⟨rfl, hu2⟩
      have HU2 := hid (HU1.out.trans' hu2); have HD2 := hid (HD1.out.upd hu2 fun _ h => h.elim); clear hu2
      go_wp2_with fail
      go_ret2
      exact ⟨rfl, HD2.out, HU2.out.mono fun _ _ h => h.elim⟩

end Go.Proofs.Ytljphijjcagciaa

namespace Go.Proofs.Ytljphijjcagciaa
open Go.RowKit

theorem state_any (D : DL) (d : Drive) (page : Int) (data beside : ByteArray) (hd : data.size ≤ 100000) (hb : beside.size = 32) (w : World) (h : DriveAt w D d) :
    Calls Try.prog 45 #[.pointer (some ⟨D.d, 0, none⟩), .int .i64 page, .string data, .string beside] w fun e w' => e = .returned (.tuple #[.int .i64 (pageState page data beside).1, (pageState page data beside).2.val]) ∧ Upd noBlk w w' := by
  have HP := hid (fun W hW => Parse_any D.d 1 data beside hd hb W hW)
  have HF := hid (fun W => Factory_any beside hb W)
  have hfin : pageState page data beside = if (Tag.parse data beside).2 = 0 then (4, (Tag.parse data beside).1) else if (decide (page = 0) && factoryB beside) = true then (3, Tag.none) else (2, Tag.none) := rfl
  generalize factoryB beside = fb at HF hfin
  generalize pageState page data beside = res at hfin ⊢
  generalize Tag.parse data beside = pr at HP hfin
  obtain ⟨⟨k, l, s, p, n⟩, e⟩ := pr
  have HT := hid h.tab
  have HE := hid hfin
  unfold Tag.val at HP
  dsimp only at HP HE
  clear hfin h
  go_enter Try.func45, Try.ntmps45
  go_wp2_with fail
  have hA : Row (w.alloc (.cells #[.int .u8 0, .int .i64 0, .int .u64 0, .int .i64 0, .int .i64 0] 36)) w.heap.size 36 [.int .u8 0, .int .i64 0, .int .u64 0, .int .i64 0, .int .i64 0] := Row.new w _ _
  have hU : Upd noBlk w (w.alloc (.cells #[.int .u8 0, .int .i64 0, .int .u64 0, .int .i64 0, .int .i64 0] 36)) := (Upd.refl _ _).alloc _
  refine (HP.out _ (hU.tab HT.out)).mono ?_; rintro x w1 ⟨rfl, hu⟩
  have HA := hid (hA.upd hu id); have HU := hid (hU.trans' hu)
  clear hA hU hu
  have hlt : w.heap.size < w1.heap.size := HA.out.lt
  have a0 := HA.out.cell 0; have a1 := HA.out.cell 1; have a2 := HA.out.cell 2; have a3 := HA.out.cell 3; have a4 := HA.out.cell 4
  simp only [List.getElem?_cons_zero, List.getElem?_cons_succ] at a0 a1 a2 a3 a4
  have f0 := HA.out.frozen 0; have f1 := HA.out.frozen 1; have f2 := HA.out.frozen 2; have f3 := HA.out.frozen 3; have f4 := HA.out.frozen 4
  by_cases he : e = 0
  · subst he
    have hres : res = (4, ⟨k, l, s, p, n⟩) := by rw [HE.out, if_pos rfl]
    subst hres
    go_wp2_with fail
    go_region
    go_wp2_with fail
    refine bodyPost_ret (v := .tuple #[.int .i64 4, .agg #[.int .u8 k, .int .i64 l, .int .u64 s, .int .i64 p, .int .i64 n]]) (by simp [results, Try.results45, go_sem, hlt, a0, a1, a2, a3, a4]) rfl ⟨rfl, ?_⟩
    repeat (first | with_reducible exact HU.out | with_reducible refine Upd.drew ?_ | with_reducible refine Upd.drewN ?_ _ | with_reducible refine Upd.alloc ?_ _ | (with_reducible refine Upd.setCell ?_ (Or.inr ?_) _; rotate_left; (first | exact Nat.le_refl _ | (dsimp only; omega))))
  · have b1 : (e == 0) = false := by simpa using he
    by_cases hp : page = 0
    · subst hp
      go_wp2_with fail
      refine (HF.out _).mono ?_; rintro x w2 ⟨rfl, rfl⟩
      cases fb
      · have hres : res = (2, Tag.none) := by rw [HE.out, if_neg he]; rfl
        subst hres
        go_wp2_with fail
        refine bodyPost_ret (v := .tuple #[.int .i64 2, .agg #[.int .u8 0, .int .i64 0, .int .u64 0, .int .i64 0, .int .i64 0]]) (by simp [results, Try.results45, go_sem, hlt, a0, a1, a2, a3, a4]) rfl ⟨rfl, ?_⟩
        repeat (first | with_reducible exact HU.out | with_reducible refine Upd.drew ?_ | with_reducible refine Upd.drewN ?_ _ | with_reducible refine Upd.alloc ?_ _ | (with_reducible refine Upd.setCell ?_ (Or.inr ?_) _; rotate_left; (first | exact Nat.le_refl _ | (dsimp only; omega))))
      · have hres : res = (3, Tag.none) := by rw [HE.out, if_neg he]; rfl
        subst hres
        go_wp2_with fail
        refine bodyPost_ret (v := .tuple #[.int .i64 3, .agg #[.int .u8 0, .int .i64 0, .int .u64 0, .int .i64 0, .int .i64 0]]) (by simp [results, Try.results45, go_sem, hlt, a0, a1, a2, a3, a4]) rfl ⟨rfl, ?_⟩
        repeat (first | with_reducible exact HU.out | with_reducible refine Upd.drew ?_ | with_reducible refine Upd.drewN ?_ _ | with_reducible refine Upd.alloc ?_ _ | (with_reducible refine Upd.setCell ?_ (Or.inr ?_) _; rotate_left; (first | exact Nat.le_refl _ | (dsimp only; omega))))
    · have hres : res = (2, Tag.none) := by rw [HE.out, if_neg he, if_neg (by simp [hp])]
      subst hres
      have b2 : (page == 0) = false := by simpa using hp
      go_wp2_with fail
      refine bodyPost_ret (v := .tuple #[.int .i64 2, .agg #[.int .u8 0, .int .i64 0, .int .u64 0, .int .i64 0, .int .i64 0]]) (by simp [results, Try.results45, go_sem, hlt, a0, a1, a2, a3, a4]) rfl ⟨rfl, ?_⟩
      repeat (first | with_reducible exact HU.out | with_reducible refine Upd.drew ?_ | with_reducible refine Upd.drewN ?_ _ | with_reducible refine Upd.alloc ?_ _ | (with_reducible refine Upd.setCell ?_ (Or.inr ?_) _; rotate_left; (first | exact Nat.le_refl _ | (dsimp only; omega))))

end Go.Proofs.Ytljphijjcagciaa

namespace Go.Proofs.Ytljphijjcagciaa
open Go.RowKit

def Page.val (p : Page) : Value := .agg #[.int .i64 p.state, .int .u8 p.tag.kind, .int .i64 p.tag.logical, .int .u64 p.tag.seq, .int .i64 p.tag.pos, .int .i64 p.tag.len, .string p.data]

theorem Chip.read_size {c : Chip} (h : c.Ok) {b p : Int} (hr : c.ready b p = 0) : (c.read b p).1.size ≤ 1024 ∧ (c.read b p).2.1.size = 32 := by
  obtain ⟨hk, h0, h1⟩ := Chip.ready_zero hr
  have hs := Chip.page_size h hk h0 h1
  have := h.sz32; have := h.sz1024
  unfold Chip.read; rw [if_neg (by simp [hr])]
  dsimp only
  have hff : c.ff.size = c.sz.toNat + 32 := by unfold Chip.ff Chip.whole; simp [repS_size, mkS_size]
  split
  · rw [ByteArray.size_extract, ByteArray.size_extract, hff]; omega
  · rename_i hz
    have hw := hs.resolve_left hz
    unfold Chip.whole at hw
    rw [ByteArray.size_extract, ByteArray.size_extract, hw]; omega

theorem Page.none_val : Page.none.val = .agg #[.int .i64 0, .int .u8 0, .int .i64 0, .int .u64 0, .int .i64 0, .int .i64 0, .string ⟨#[]⟩] := rfl

theorem driveRead_any (D : DL) (d : Drive) (b p : Int) (w : World) (h : DriveAt w D d) :
    Calls Try.prog 16 #[.pointer (some ⟨D.d, 0, none⟩), .int .i64 b, .int .i64 p] w fun e w' => e = .returned (.tuple #[(d.read b p).1.val, .int .i64 (d.read b p).2]) ∧ Upd noBlk w w' := by
  have HC := hid (fun W hW => Read_any D.c d.chip b p W hW)
  have hsz : (d.chip.read b p).2.2 = 0 → (d.chip.read b p).1.size ≤ 1024 ∧ (d.chip.read b p).2.1.size = 32 := by
    intro he
    refine Chip.read_size h.chip.ok ?_
    unfold Chip.read at he
    by_cases hr : d.chip.ready b p = 0
    · exact hr
    · rw [if_pos hr] at he; exact he
  have hfin : d.read b p = if (d.chip.read b p).2.2 ≠ 0 then (Page.none, (d.chip.read b p).2.2) else if allFF ((d.chip.read b p).1 ++ (d.chip.read b p).2.1) = true then (⟨1, Tag.none, (d.chip.read b p).1⟩, 0) else
      (⟨(pageState p (d.chip.read b p).1 (d.chip.read b p).2.1).1, (pageState p (d.chip.read b p).1 (d.chip.read b p).2.1).2, (d.chip.read b p).1⟩, 0) := rfl
  generalize d.read b p = res at hfin ⊢
  generalize d.chip.read b p = q at *
  obtain ⟨data, beside, e⟩ := q
  dsimp only at *
  have HG := hid h
  have HE := hid hfin
  obtain ⟨c0, _, _⟩ := h.cells
  have hA : Row (w.alloc (.cells #[.int .i64 0, .int .u8 0, .int .i64 0, .int .u64 0, .int .i64 0, .int .i64 0, .string ⟨#[]⟩] 44)) w.heap.size 44 [.int .i64 0, .int .u8 0, .int .i64 0, .int .u64 0, .int .i64 0, .int .i64 0, .string ⟨#[]⟩] := Row.new w _ _
  have hU : Upd noBlk w (w.alloc (.cells #[.int .i64 0, .int .u8 0, .int .i64 0, .int .u64 0, .int .i64 0, .int .i64 0, .string ⟨#[]⟩] 44)) := (Upd.refl _ _).alloc _
  have hlt0 : D.d < w.heap.size := h.top.lt
  by_cases he : e = 0
  · subst he
    obtain ⟨z1, z2⟩ := hsz rfl
    have z1' : data.size ≤ 100000 := by omega
    have HB := hid (fun W => Blank_any data beside (by omega) (by omega) W)
    have HS := hid (fun W hW => state_any D d p data beside z1' z2 W hW)
    rw [if_neg (by simp)] at hfin
    have HE := hid hfin
    clear h hsz hfin
    go_enter Try.func16, Try.ntmps16
    go_wp2_with fail
    have HD := hid (HG.out.upd hU fun _ h => h.elim)
    refine (HC.out _ HD.out.chip).mono ?_; rintro x w1 ⟨rfl, hu⟩
    have HA := hid (hA.upd hu id); have HU := hid (hU.trans' hu); have HD1 := hid (HD.out.upd hu fun _ h => h.elim)
    clear hA hU hu
    go_wp2_with fail
    have hlt : w.heap.size < w1.heap.size := HA.out.lt
    have hA2 : Row (w1.alloc (.cells #[.int .i64 1, .int .u8 0, .int .i64 0, .int .u64 0, .int .i64 0, .int .i64 0, .string data] 44)) w.heap.size 44 [.int .i64 0, .int .u8 0, .int .i64 0, .int .u64 0, .int .i64 0, .int .i64 0, .string ⟨#[]⟩] := HA.out.alloc _
    have hB2 : Row (w1.alloc (.cells #[.int .i64 1, .int .u8 0, .int .i64 0, .int .u64 0, .int .i64 0, .int .i64 0, .string data] 44)) w1.heap.size 44 [.int .i64 1, .int .u8 0, .int .i64 0, .int .u64 0, .int .i64 0, .int .i64 0, .string data] := Row.new w1 _ _
    have hU2 : Upd noBlk w (w1.alloc (.cells #[.int .i64 1, .int .u8 0, .int .i64 0, .int .u64 0, .int .i64 0, .int .i64 0, .string data] 44)) := HU.out.alloc _
    have hD2 : DriveAt (w1.alloc (.cells #[.int .i64 1, .int .u8 0, .int .i64 0, .int .u64 0, .int .i64 0, .int .i64 0, .string data] 44)) D d := HD1.out.upd ((Upd.refl noBlk _).alloc _) fun _ h => h.elim
    generalize w1.alloc (.cells #[.int .i64 1, .int .u8 0, .int .i64 0, .int .u64 0, .int .i64 0, .int .i64 0, .string data] 44) = W2 at hA2 hB2 hU2 hD2 ⊢
    generalize w1.heap.size = B at hlt hB2 ⊢
    have HA2 := hid hA2; have HB2 := hid hB2; have HU2 := hid hU2; have HD2 := hid hD2
    clear hA2 hB2 hU2 hD2
    refine (HB.out _).mono ?_; rintro x w3 ⟨rfl, hu3⟩
    have HA3 := hid (HA2.out.upd hu3 id); have HB3 := hid (HB2.out.upd hu3 id); have HU3 := hid (HU2.out.trans' hu3); have HD3 := hid (HD2.out.upd hu3 fun _ h => h.elim)
    clear hu3
    have hn1 : w.heap.size ≠ B := by omega
    have hn2 : B ≠ w.heap.size := by omega
    generalize allFF (data ++ beside) = ff at HE ⊢
    cases ff
    · have hres := HE.out
      rw [if_neg (by simp)] at hres
      generalize pageState p data beside = ps at HS hres
      obtain ⟨st, k, l, s, pp, n⟩ := ps
      subst hres
      unfold Tag.val at HS
      dsimp only at HS
      go_wp2_with fail
      refine (HS.out _ HD3.out).mono ?_; rintro x w4 ⟨rfl, hu4⟩
      have HA4 := hid (HA3.out.upd hu4 id); have HB4 := hid (HB3.out.upd hu4 id); have HU4 := hid (HU3.out.trans' hu4)
      clear hu4
      have a0 := HA4.out.cell 0; have a1 := HA4.out.cell 1; have a2 := HA4.out.cell 2; have a3 := HA4.out.cell 3; have a4 := HA4.out.cell 4; have a5 := HA4.out.cell 5; have a6 := HA4.out.cell 6; simp only [List.getElem?_cons_zero, List.getElem?_cons_succ] at a0 a1 a2 a3 a4 a5 a6
      have b0 := HB4.out.cell 0; have b1 := HB4.out.cell 1; have b2 := HB4.out.cell 2; have b3 := HB4.out.cell 3; have b4 := HB4.out.cell 4; have b5 := HB4.out.cell 5; have b6 := HB4.out.cell 6; simp only [List.getElem?_cons_zero, List.getElem?_cons_succ] at b0 b1 b2 b3 b4 b5 b6
      have f0 := HA4.out.frozen 0; have f1 := HA4.out.frozen 1; have f2 := HA4.out.frozen 2; have f3 := HA4.out.frozen 3; have f4 := HA4.out.frozen 4; have f5 := HA4.out.frozen 5; have f6 := HA4.out.frozen 6
      have g0 := HB4.out.frozen 0; have g1 := HB4.out.frozen 1; have g2 := HB4.out.frozen 2; have g3 := HB4.out.frozen 3; have g4 := HB4.out.frozen 4; have g5 := HB4.out.frozen 5; have g6 := HB4.out.frozen 6
      go_wp2_with fail
      refine bodyPost_ret (v := .tuple #[.agg #[.int .i64 st, .int .u8 k, .int .i64 l, .int .u64 s, .int .i64 pp, .int .i64 n, .string data], .int .i64 0]) (by simp [results, Try.results16, go_sem, a0, a1, a2, a3, a4, a5, a6]) rfl ⟨rfl, ?_⟩
      repeat (first | with_reducible exact HU4.out | with_reducible refine Upd.drew ?_ | with_reducible refine Upd.drewN ?_ _ | with_reducible refine Upd.alloc ?_ _ | (with_reducible refine Upd.setCell ?_ (Or.inr ?_) _; rotate_left; (first | exact Nat.le_refl _ | (dsimp only; omega))))
    · have hres := HE.out
      rw [if_pos rfl] at hres
      subst hres
      have a0 := HA3.out.cell 0; have a1 := HA3.out.cell 1; have a2 := HA3.out.cell 2; have a3 := HA3.out.cell 3; have a4 := HA3.out.cell 4; have a5 := HA3.out.cell 5; have a6 := HA3.out.cell 6; simp only [List.getElem?_cons_zero, List.getElem?_cons_succ] at a0 a1 a2 a3 a4 a5 a6
      have b0 := HB3.out.cell 0; have b1 := HB3.out.cell 1; have b2 := HB3.out.cell 2; have b3 := HB3.out.cell 3; have b4 := HB3.out.cell 4; have b5 := HB3.out.cell 5; have b6 := HB3.out.cell 6; simp only [List.getElem?_cons_zero, List.getElem?_cons_succ] at b0 b1 b2 b3 b4 b5 b6
      have f0 := HA3.out.frozen 0; have f1 := HA3.out.frozen 1; have f2 := HA3.out.frozen 2; have f3 := HA3.out.frozen 3; have f4 := HA3.out.frozen 4; have f5 := HA3.out.frozen 5; have f6 := HA3.out.frozen 6
      go_wp2_with fail
      refine bodyPost_ret (v := .tuple #[.agg #[.int .i64 1, .int .u8 0, .int .i64 0, .int .u64 0, .int .i64 0, .int .i64 0, .string data], .int .i64 0]) (by simp [results, Try.results16, go_sem, a0, a1, a2, a3, a4, a5, a6]) rfl ⟨rfl, ?_⟩
      repeat (first | with_reducible exact HU3.out | with_reducible refine Upd.drew ?_ | with_reducible refine Upd.drewN ?_ _ | with_reducible refine Upd.alloc ?_ _ | (with_reducible refine Upd.setCell ?_ (Or.inr ?_) _; rotate_left; (first | exact Nat.le_refl _ | (dsimp only; omega))))
  · have hres : res = (Page.none, e) := by rw [HE.out, if_pos he]
    subst hres
    rw [Page.none_val]
    have b1 : (e == 0) = false := by simpa using he
    clear h hsz hfin
    go_enter Try.func16, Try.ntmps16
    go_wp2_with fail
    refine (HC.out _ (HG.out.upd hU fun _ h => h.elim).chip).mono ?_; rintro x w1 ⟨rfl, hu⟩
    have HA := hid (hA.upd hu id); have HU := hid (hU.trans' hu)
    clear hA hU hu
    have hlt : w.heap.size < w1.heap.size := HA.out.lt
    have a0 := HA.out.cell 0; have a1 := HA.out.cell 1; have a2 := HA.out.cell 2; have a3 := HA.out.cell 3; have a4 := HA.out.cell 4; have a5 := HA.out.cell 5; have a6 := HA.out.cell 6
    simp only [List.getElem?_cons_zero, List.getElem?_cons_succ] at a0 a1 a2 a3 a4 a5 a6
    have f0 := HA.out.frozen 0; have f1 := HA.out.frozen 1; have f2 := HA.out.frozen 2; have f3 := HA.out.frozen 3; have f4 := HA.out.frozen 4; have f5 := HA.out.frozen 5; have f6 := HA.out.frozen 6
    go_wp2_with fail
    refine bodyPost_ret (v := .tuple #[.agg #[.int .i64 0, .int .u8 0, .int .i64 0, .int .u64 0, .int .i64 0, .int .i64 0, .string ⟨#[]⟩], .int .i64 e]) (by simp [results, Try.results16, go_sem, a0, a1, a2, a3, a4, a5, a6]) rfl ⟨rfl, ?_⟩
    repeat (first | with_reducible exact HU.out | with_reducible refine Upd.drew ?_ | with_reducible refine Upd.drewN ?_ _ | with_reducible refine Upd.alloc ?_ _ | (with_reducible refine Upd.setCell ?_ (Or.inr ?_) _; rotate_left; (first | exact Nat.le_refl _ | (dsimp only; omega))))

end Go.Proofs.Ytljphijjcagciaa
