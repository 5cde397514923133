/-
  How a drive lies in memory.
-/
import Derived.Test.YtljphijjcagciaaNand9
import Derived.Test.YtljphijjcagciaaTag3
import Derived.Test.YtljphijjcagciaaDriveM
namespace Go.Proofs.Ytljphijjcagciaa
open Go.RowKit

structure DL where
  c : CL
  d : Nat
  b : Nat
  x : Nat
def DL.foot (D : DL) (k : Nat) : Prop := D.c.foot k ∨ k = D.d ∨ k = D.b ∨ k = D.x
def driveCells (D : DL) : List Value := .pointer (some ⟨D.c.a, 0, none⟩) :: (tabWay 256 ++ [.slice (some ⟨D.b, 0, none⟩) D.c.n D.c.n, .slice (some ⟨D.x, 0, none⟩) D.c.n D.c.n])

structure DriveAt (w : World) (D : DL) (d : Drive) : Prop where
  chip : ChipAt w D.c d.chip
  lenb : d.bad.length = D.c.n
  lenn : d.next.length = D.c.n
  top : Row w D.d 83 (driveCells D)
  bad : Row w D.b 4 (d.bad.map Value.bool)
  next : Row w D.x 3 (d.next.map (Value.int .i64))
  rng : ∀ v ∈ d.next, -1 ≤ v ∧ v ≤ d.chip.np
  fd : ¬ D.c.foot D.d
  fb : ¬ D.c.foot D.b
  fx : ¬ D.c.foot D.x
  db : D.d ≠ D.b
  dx : D.d ≠ D.x
  bx : D.b ≠ D.x

theorem DriveAt.upd {w w' : World} {D : DL} {d : Drive} {S : Nat → Prop} (h : DriveAt w D d) (hu : Upd S w w') (hs : ∀ k, S k → ¬ D.foot k) : DriveAt w' D d :=
  ⟨h.chip.upd hu (fun k hk hf => hs k hk (.inl hf)), h.lenb, h.lenn, h.top.upd hu (fun hk => hs _ hk (.inr (.inl rfl))), h.bad.upd hu (fun hk => hs _ hk (.inr (.inr (.inl rfl)))),
    h.next.upd hu (fun hk => hs _ hk (.inr (.inr (.inr rfl)))), h.rng, h.fd, h.fb, h.fx, h.db, h.dx, h.bx⟩
theorem DriveAt.drew {w : World} {D : DL} {d : Drive} (h : DriveAt w D d) : DriveAt w.drew D d :=
  h.upd (S := noBlk) ((Upd.refl _ _).drew) (fun _ h => h.elim)
theorem DriveAt.n {w : World} {D : DL} {d : Drive} (h : DriveAt w D d) : D.c.n = d.chip.bl.length := h.chip.n
theorem DriveAt.n256 {w : World} {D : DL} {d : Drive} (h : DriveAt w D d) : (D.c.n : Int) ≤ 256 := by have := h.chip.n; have := h.chip.ok.nb256; omega

theorem DriveAt.cells {w : World} {D : DL} {d : Drive} (h : DriveAt w D d) :
    w.cell? ⟨D.d, 0, none⟩ = some (.pointer (some ⟨D.c.a, 0, none⟩)) ∧ w.cell? ⟨D.d, 257, none⟩ = some (.slice (some ⟨D.b, 0, none⟩) D.c.n D.c.n) ∧ w.cell? ⟨D.d, 258, none⟩ = some (.slice (some ⟨D.x, 0, none⟩) D.c.n D.c.n) := by
  refine ⟨h.top.cell 0, ?_, ?_⟩
  · rw [h.top.cell 257]; unfold driveCells
    rw [List.getElem?_cons_succ, List.getElem?_append_right (by rw [tabWay_length]; omega), tabWay_length]; rfl
  · rw [h.top.cell 258]; unfold driveCells
    rw [List.getElem?_cons_succ, List.getElem?_append_right (by rw [tabWay_length]; omega), tabWay_length]; rfl
theorem DriveAt.tab {w : World} {D : DL} {d : Drive} (h : DriveAt w D d) : TabAt w D.d 1 := by
  intro j hj
  rw [h.top.cell (1 + j)]; unfold driveCells
  rw [Nat.add_comm 1 j, List.getElem?_cons_succ, List.getElem?_append_left (by rw [tabWay_length]; omega), tabWay_get _ _ hj, if_pos hj]

theorem Drive.is_iff {d : Drive} {k : Int} : d.is k = true ↔ 0 ≤ k ∧ k < d.bad.length := by simp [Drive.is]
theorem getD_at {α : Type} {l : List α} {k : Nat} {x : α} (h : k < l.length) : l[k]? = some (l.getD k x) := by
  rw [List.getD_eq_getElem?_getD, List.getElem?_eq_getElem h]; rfl

theorem DriveAt.badc {w : World} {D : DL} {d : Drive} (h : DriveAt w D d) {k : Int} (hk : d.is k = true) : w.cell? ⟨D.b, k.toNat, none⟩ = some (.bool (d.bad.getD k.toNat false)) := by
  obtain ⟨h0, h1⟩ := Drive.is_iff.1 hk
  refine h.bad.get ?_
  rw [List.getElem?_map, getD_at (x := false) (by omega)]; rfl
theorem DriveAt.nextc {w : World} {D : DL} {d : Drive} (h : DriveAt w D d) {k : Int} (hk : d.is k = true) : w.cell? ⟨D.x, k.toNat, none⟩ = some (.int .i64 (d.next.getD k.toNat 0)) := by
  obtain ⟨h0, h1⟩ := Drive.is_iff.1 hk
  refine h.next.get ?_
  have := h.lenb; have := h.lenn
  rw [List.getElem?_map, getD_at (x := 0) (by omega)]; rfl
theorem DriveAt.nextr {w : World} {D : DL} {d : Drive} (h : DriveAt w D d) {k : Int} (hk : d.is k = true) : -1 ≤ d.next.getD k.toNat 0 ∧ d.next.getD k.toNat 0 ≤ d.chip.np := by
  obtain ⟨h0, h1⟩ := Drive.is_iff.1 hk
  have := h.lenb; have := h.lenn
  exact h.rng _ (List.mem_of_getElem? (getD_at (x := 0) (by omega)))

/-- One block's next page is written down. -/
theorem DriveAt.next_set {w : World} {D : DL} {d : Drive} (h : DriveAt w D d) (k : Nat) (v : Int) (hv : -1 ≤ v ∧ v ≤ d.chip.np) :
    DriveAt (w.setCell ⟨D.x, k, none⟩ (.int .i64 v)) D { d with next := d.next.set k v } := by
  refine ⟨h.chip.upd (S := fun j => j = D.x) (Upd.setCell (S := fun j => j = D.x) (p := ⟨D.x, k, none⟩) (Upd.refl _ _) (.inl rfl) _) (fun k hk hf => h.fx (by rw [← hk]; exact hf)), h.lenb, by rw [List.length_set]; exact h.lenn,
    h.top.far (p := ⟨D.x, k, none⟩) h.dx _, h.bad.far (p := ⟨D.x, k, none⟩) h.bx _, ?_, ?_, h.fd, h.fb, h.fx, h.db, h.dx, h.bx⟩
  · have := h.next.set k (.int .i64 v)
    rw [← List.map_set] at this; exact this
  · intro u hu
    rcases List.mem_or_eq_of_mem_set hu with h1 | h1
    · exact h.rng u h1
    · rw [h1]; exact hv
/-- One block is bad. -/
theorem DriveAt.bad_set {w : World} {D : DL} {d : Drive} (h : DriveAt w D d) (k : Nat) (v : Bool) :
    DriveAt (w.setCell ⟨D.b, k, none⟩ (.bool v)) D { d with bad := d.bad.set k v } := by
  refine ⟨h.chip.upd (S := fun j => j = D.b) (Upd.setCell (S := fun j => j = D.b) (p := ⟨D.b, k, none⟩) (Upd.refl _ _) (.inl rfl) _) (fun k hk hf => h.fb (by rw [← hk]; exact hf)), by rw [List.length_set]; exact h.lenb, h.lenn,
    h.top.far (p := ⟨D.b, k, none⟩) h.db _, ?_, h.next.far (p := ⟨D.b, k, none⟩) h.bx.symm _, h.rng, h.fd, h.fb, h.fx, h.db, h.dx, h.bx⟩
  have := h.bad.set k (.bool v)
  rw [← List.map_set] at this; exact this
/-- The chip is another. -/
theorem DriveAt.chip_put {w w' : World} {D : DL} {d : Drive} (h : DriveAt w D d) {c : Chip} (hu : Upd D.c.foot w w') (hc : ChipAt w' D.c c) (hp : c.np = d.chip.np) : DriveAt w' D { d with chip := c } :=
  ⟨hc, h.lenb, h.lenn, h.top.upd hu h.fd, h.bad.upd hu h.fb, h.next.upd hu h.fx, fun v hv => by have := h.rng v hv; show -1 ≤ v ∧ v ≤ c.np; rw [hp]; exact this, h.fd, h.fb, h.fx, h.db, h.dx, h.bx⟩

theorem is_any (D : DL) (d : Drive) (k : Int) (w : World) (h : DriveAt w D d) :
    Calls Try.prog 42 #[.pointer (some ⟨D.d, 0, none⟩), .int .i64 k] w fun e w' => e = .returned (.bool (d.is k)) ∧ w = w' := by
  obtain ⟨_, c1, _⟩ := h.cells
  have hfin : d.is k = (decide (0 ≤ k) && decide (k < (D.c.n : Int))) := by unfold Drive.is; rw [h.lenb]
  rw [hfin]
  have h256 := h.n256
  clear hfin h
  by_cases h1 : 0 ≤ k
  all_goals
    go_enter Try.func42, Try.ntmps42
    go_wp2
    go_ret
    exact ⟨by simp [h1] <;> omega, rfl⟩

theorem Next_any (D : DL) (d : Drive) (k : Int) (w : World) (h : DriveAt w D d) :
    Calls Try.prog 14 #[.pointer (some ⟨D.d, 0, none⟩), .int .i64 k] w fun e w' => e = .returned (.int .i64 (d.nextOf k)) ∧ w = w' := by
  have HI := hid (is_any D d k w h)
  obtain ⟨_, _, c2⟩ := h.cells
  have h256 := h.n256
  cases hk : d.is k
  · have hfin : d.nextOf k = -1 := by simp [Drive.nextOf, hk]
    rw [hfin]; rw [hk] at HI
    clear h hfin hk
    go_enter Try.func14, Try.ntmps14
    go_wp2_with fail
    refine HI.out.mono ?_; rintro e w1 ⟨rfl, rfl⟩
    go_wp2_with fail
    go_ret
    exact ⟨rfl, rfl⟩
  · have hfin : d.nextOf k = d.next.getD k.toNat 0 := by simp [Drive.nextOf, hk]
    rw [hfin]; rw [hk] at HI
    obtain ⟨h0, h1⟩ := Drive.is_iff.1 hk
    rw [h.lenb] at h1
    have hc := h.nextc hk
    clear h hfin hk
    go_enter Try.func14, Try.ntmps14
    go_wp2_with fail
    refine HI.out.mono ?_; rintro e w1 ⟨rfl, rfl⟩
    go_wp2_with fail
    go_ret
    exact ⟨rfl, rfl⟩

theorem Chip_any (D : DL) (d : Drive) (w : World) (h : DriveAt w D d) :
    Calls Try.prog 47 #[.pointer (some ⟨D.d, 0, none⟩)] w fun e w' => e = .returned (.pointer (some ⟨D.c.a, 0, none⟩)) ∧ w = w' := by
  obtain ⟨c0, _, _⟩ := h.cells
  clear h
  go_enter Try.func47, Try.ntmps47
  go_wp2
  go_ret
  exact ⟨rfl, rfl⟩

theorem driveReady_any (D : DL) (d : Drive) (k : Int) (w : World) (h : DriveAt w D d) :
    Calls Try.prog 37 #[.pointer (some ⟨D.d, 0, none⟩), .int .i64 k] w fun e w' => e = .returned (.int .i64 (d.ready k)) ∧ w = w' := by
  have HI := hid (is_any D d k w h)
  obtain ⟨_, c1, _⟩ := h.cells
  have h256 := h.n256
  cases hk : d.is k
  · have hfin : d.ready k = 3 := by simp [Drive.ready, hk]
    rw [hfin]; rw [hk] at HI
    clear h hfin hk
    go_enter Try.func37, Try.ntmps37
    go_wp2_with fail
    refine HI.out.mono ?_; rintro e w1 ⟨rfl, rfl⟩
    go_wp2_with fail
    go_ret
    exact ⟨rfl, rfl⟩
  · have hfin : d.ready k = if d.bad.getD k.toNat false then 12 else 0 := by simp [Drive.ready, hk]
    rw [hfin]; rw [hk] at HI
    obtain ⟨h0, h1⟩ := Drive.is_iff.1 hk
    rw [h.lenb] at h1
    have hc := h.badc hk
    generalize d.bad.getD k.toNat false = b at hc ⊢
    clear h hfin hk
    cases b
    all_goals
      go_enter Try.func37, Try.ntmps37
      go_wp2_with fail
      refine HI.out.mono ?_; rintro e w1 ⟨rfl, rfl⟩
      go_wp2_with fail
      go_ret
      exact ⟨rfl, rfl⟩

end Go.Proofs.Ytljphijjcagciaa
