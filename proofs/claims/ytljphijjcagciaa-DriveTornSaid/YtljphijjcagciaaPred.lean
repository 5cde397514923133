/-
  How a chip, and a drive, lie in memory: which blocks hold them, cell by cell.
-/
import Derived.Test.YtljphijjcagciaaModel
namespace Go.Proofs.Ytljphijjcagciaa
open Go.RowKit

/-- Where a chip lies: its struct, its blocks' row, the first of its pages' rows. -/
structure CL where
  a : Nat
  bb : Nat
  p : Nat
  n : Nat

def CL.foot (L : CL) (k : Nat) : Prop := k = L.a ∨ k = L.bb ∨ (L.p ≤ k ∧ k < L.p + L.n)

def chipCells (L : CL) (c : Chip) : List Value :=
  [.int .i64 c.nb, .int .i64 c.np, .int .i64 c.sz, .slice (some ⟨L.bb, 0, none⟩) L.n L.n, .int .i64 c.fuse, .string c.torn, .bool c.off, .int .i64 c.progs, .int .i64 c.ers, .int .i64 c.sins]
def blkCells (np : Nat) (p : Nat) (b : Blk) : List Value :=
  [.slice (some ⟨p, 0, none⟩) np np, .int .i64 b.next, .int .i64 b.erases, .bool b.weak, .bool b.mill, .bool b.failed]

theorem blkCells_length (np p : Nat) (b : Blk) : (blkCells np p b).length = 6 := rfl

structure Chip.Ok (c : Chip) : Prop where
  nb : c.nb = c.bl.length
  nb4 : 4 ≤ c.bl.length
  nb256 : c.bl.length ≤ 256
  np2 : 2 ≤ c.np
  np64 : c.np ≤ 64
  sz32 : 32 ≤ c.sz
  sz1024 : c.sz ≤ 1024
  fuse : 0 ≤ c.fuse
  torn : c.torn.size ≤ 1000000
  blk : ∀ b ∈ c.bl, b.pages.length = c.np.toNat ∧ ∀ s ∈ b.pages, s.size = 0 ∨ s.size = c.sz.toNat + 32

structure ChipAt (w : World) (L : CL) (c : Chip) : Prop where
  ok : c.Ok
  n : L.n = c.bl.length
  top : Row w L.a 70 (chipCells L c)
  bls : Row w L.bb 73 (flat (blkCells c.np.toNat) L.p c.bl)
  pgs : ∀ (k : Nat) (b : Blk), c.bl[k]? = some b → Row w (L.p + k) 9 (b.pages.map Value.string)
  ne : L.a ≠ L.bb
  nea : L.a < L.p ∨ L.p + L.n ≤ L.a
  neb : L.bb < L.p ∨ L.p + L.n ≤ L.bb

theorem ChipAt.upd {w w' : World} {L : CL} {c : Chip} {S : Nat → Prop} (h : ChipAt w L c) (hu : Upd S w w') (hs : ∀ k, S k → ¬ L.foot k) : ChipAt w' L c :=
  ⟨h.ok, h.n, h.top.upd hu (fun k => hs _ k (Or.inl rfl)), h.bls.upd hu (fun k => hs _ k (Or.inr (Or.inl rfl))),
    fun k b hb => (h.pgs k b hb).upd hu (fun hk => hs _ hk (Or.inr (Or.inr ⟨by omega, by
      have := (List.getElem?_eq_some_iff.1 hb).1; rw [h.n]; omega⟩))), h.ne, h.nea, h.neb⟩
theorem ChipAt.drew {w : World} {L : CL} {c : Chip} (h : ChipAt w L c) : ChipAt w.drew L c := ⟨h.ok, h.n, h.top, h.bls, h.pgs, h.ne, h.nea, h.neb⟩
theorem ChipAt.drewN {w : World} {L : CL} {c : Chip} (h : ChipAt w L c) (n : Nat) : ChipAt (w.drewN n) L c := ⟨h.ok, h.n, h.top, h.bls, h.pgs, h.ne, h.nea, h.neb⟩
theorem ChipAt.alloc {w : World} {L : CL} {c : Chip} (h : ChipAt w L c) (o : Obj) : ChipAt (w.alloc o) L c :=
  ⟨h.ok, h.n, h.top.alloc o, h.bls.alloc o, fun k b hb => (h.pgs k b hb).alloc o, h.ne, h.nea, h.neb⟩

/-- The struct's own cells. -/
theorem ChipAt.cells {w : World} {L : CL} {c : Chip} (h : ChipAt w L c) :
    w.cell? ⟨L.a, 0, none⟩ = some (.int .i64 c.nb) ∧ w.cell? ⟨L.a, 1, none⟩ = some (.int .i64 c.np) ∧ w.cell? ⟨L.a, 2, none⟩ = some (.int .i64 c.sz) ∧
    w.cell? ⟨L.a, 3, none⟩ = some (.slice (some ⟨L.bb, 0, none⟩) L.n L.n) ∧ w.cell? ⟨L.a, 4, none⟩ = some (.int .i64 c.fuse) ∧ w.cell? ⟨L.a, 5, none⟩ = some (.string c.torn) ∧
    w.cell? ⟨L.a, 6, none⟩ = some (.bool c.off) ∧ w.cell? ⟨L.a, 7, none⟩ = some (.int .i64 c.progs) ∧ w.cell? ⟨L.a, 8, none⟩ = some (.int .i64 c.ers) ∧ w.cell? ⟨L.a, 9, none⟩ = some (.int .i64 c.sins) :=
  ⟨h.top.cell 0, h.top.cell 1, h.top.cell 2, h.top.cell 3, h.top.cell 4, h.top.cell 5, h.top.cell 6, h.top.cell 7, h.top.cell 8, h.top.cell 9⟩
theorem ChipAt.fr {w : World} {L : CL} {c : Chip} (h : ChipAt w L c) (i : Nat) : w.frozen? ⟨L.a, i, none⟩ = false := h.top.frozen i
theorem ChipAt.frb {w : World} {L : CL} {c : Chip} (h : ChipAt w L c) (i : Nat) : w.frozen? ⟨L.bb, i, none⟩ = false := h.bls.frozen i

theorem Chip.has_iff {c : Chip} {k : Int} : c.has k = true ↔ 0 ≤ k ∧ k < c.bl.length := by simp [Chip.has]
theorem Chip.at_eq {c : Chip} {k : Int} (hk : c.has k = true) : c.bl[k.toNat]? = some (c.at k) := by
  rw [Chip.has_iff] at hk
  have h2 : k.toNat < c.bl.length := by omega
  simp [Chip.at, List.getD, List.getElem?_eq_getElem h2]

/-- A block's cells. -/
theorem ChipAt.blk {w : World} {L : CL} {c : Chip} (h : ChipAt w L c) {k : Int} (hk : c.has k = true) :
    w.cell? ⟨L.bb, k.toNat * 6, none⟩ = some (.slice (some ⟨L.p + k.toNat, 0, none⟩) c.np.toNat c.np.toNat) ∧ w.cell? ⟨L.bb, k.toNat * 6 + 1, none⟩ = some (.int .i64 (c.at k).next) ∧
    w.cell? ⟨L.bb, k.toNat * 6 + 2, none⟩ = some (.int .i64 (c.at k).erases) ∧ w.cell? ⟨L.bb, k.toNat * 6 + 3, none⟩ = some (.bool (c.at k).weak) ∧
    w.cell? ⟨L.bb, k.toNat * 6 + 4, none⟩ = some (.bool (c.at k).mill) ∧ w.cell? ⟨L.bb, k.toNat * 6 + 5, none⟩ = some (.bool (c.at k).failed) := by
  have g := fun j hj => (h.bls.cell (k.toNat * 6 + j)).trans (flat_get (n := 6) (blkCells_length c.np.toNat) L.p c.bl k.toNat j (c.at k) (Chip.at_eq hk) hj)
  exact ⟨g 0 (by omega), g 1 (by omega), g 2 (by omega), g 3 (by omega), g 4 (by omega), g 5 (by omega)⟩

theorem ChipAt.page {w : World} {L : CL} {c : Chip} (h : ChipAt w L c) {k i : Int} (hk : c.has k = true) (h0 : 0 ≤ i) (h1 : i < c.np) :
    w.cell? ⟨L.p + k.toNat, i.toNat, none⟩ = some (.string ((c.at k).pages.getD i.toNat (mkS []))) := by
  have r := h.pgs k.toNat _ (Chip.at_eq hk)
  have hl := (h.ok.blk (c.at k) (List.mem_of_getElem? (Chip.at_eq hk))).1
  refine r.get ?_
  have h2 : i.toNat < (c.at k).pages.length := by omega
  simp [List.getElem?_eq_getElem h2]
theorem ChipAt.frp {w : World} {L : CL} {c : Chip} (h : ChipAt w L c) {k : Int} (hk : c.has k = true) (i : Nat) : w.frozen? ⟨L.p + k.toNat, i, none⟩ = false :=
  (h.pgs k.toNat _ (Chip.at_eq hk)).frozen i

/-- A field of the struct is written. -/
theorem ChipAt.top_set {w : World} {L : CL} {c c' : Chip} (h : ChipAt w L c) (i : Nat) (u : Value) (hok : c'.Ok) (hb : c'.bl = c.bl) (hp : c'.np = c.np) (he : (chipCells L c).set i u = chipCells L c') : ChipAt (w.setCell ⟨L.a, i, none⟩ u) L c' :=
  ⟨hok, by rw [hb]; exact h.n, h.top.put i u he, by rw [hb, hp]; exact h.bls.far (fun e => h.ne e.symm) u, by
    rw [hb]; intro k b hk
    have := (List.getElem?_eq_some_iff.1 hk).1
    have := h.n; have := h.nea
    exact (h.pgs k b hk).far (by show L.p + k ≠ L.a; omega) u, h.ne, h.nea, h.neb⟩

/-- A cell of a block, but not its pages, is written. -/
theorem ChipAt.blk_set {w : World} {L : CL} {c : Chip} (h : ChipAt w L c) {k : Int} (hk : c.has k = true) (j : Nat) (hj : j < 6) (u : Value) (b' : Blk) (hpg : b'.pages = (c.at k).pages)
    (he : (blkCells c.np.toNat (L.p + k.toNat) (c.at k)).set j u = blkCells c.np.toNat (L.p + k.toNat) b') : ChipAt (w.setCell ⟨L.bb, k.toNat * 6 + j, none⟩ u) L (c.put k b') := by
  have hat := Chip.at_eq hk
  have hlt := (List.getElem?_eq_some_iff.1 hat).1
  refine ⟨?_, by simp [Chip.put, h.n], ?_, ?_, ?_, h.ne, h.nea, h.neb⟩
  · obtain ⟨o1, o2, o3, o4, o5, o6, o7, o8, o9, o10⟩ := h.ok
    refine ⟨by simpa [Chip.put] using o1, by simpa [Chip.put] using o2, by simpa [Chip.put] using o3, o4, o5, o6, o7, o8, o9, fun b hb => ?_⟩
    rcases List.mem_or_eq_of_mem_set hb with hb | rfl
    · exact o10 b hb
    · rw [hpg]; exact o10 _ (List.mem_of_getElem? hat)
  · exact h.top.far h.ne u
  · exact h.bls.put _ _ (flat_set (n := 6) (blkCells_length c.np.toNat) L.p c.bl k.toNat j (c.at k) b' u hat hj he)
  · intro i b hb
    have hi : i < c.bl.length := by have := (List.getElem?_eq_some_iff.1 hb).1; simpa [Chip.put] using this
    have := h.n; have := h.neb
    by_cases e : k.toNat = i
    · subst e
      simp [Chip.put, hlt] at hb; subst hb; rw [hpg]
      exact (h.pgs _ _ hat).far (by show L.p + k.toNat ≠ L.bb; omega) u
    · simp [Chip.put, e] at hb
      exact (h.pgs _ _ (by simp [hb])).far (by show L.p + i ≠ L.bb; omega) u

/-- A page is written. -/
theorem ChipAt.page_set {w : World} {L : CL} {c : Chip} (h : ChipAt w L c) {k i : Int} (hk : c.has k = true) (s : ByteArray) (hs : s.size = 0 ∨ s.size = c.sz.toNat + 32) :
    ChipAt (w.setCell ⟨L.p + k.toNat, i.toNat, none⟩ (.string s)) L (c.put k { c.at k with pages := (c.at k).pages.set i.toNat s }) := by
  have hat := Chip.at_eq hk
  have hlt := (List.getElem?_eq_some_iff.1 hat).1
  have hn := h.n; have hna := h.nea; have hnb := h.neb
  refine ⟨?_, by simp [Chip.put, h.n], ?_, ?_, ?_, h.ne, h.nea, h.neb⟩
  · obtain ⟨o1, o2, o3, o4, o5, o6, o7, o8, o9, o10⟩ := h.ok
    refine ⟨by simpa [Chip.put] using o1, by simpa [Chip.put] using o2, by simpa [Chip.put] using o3, o4, o5, o6, o7, o8, o9, fun b hb => ?_⟩
    rcases List.mem_or_eq_of_mem_set hb with hb | rfl
    · exact o10 b hb
    · have := o10 _ (List.mem_of_getElem? hat)
      refine ⟨by simpa [Chip.put] using this.1, fun x hx => ?_⟩
      rcases List.mem_or_eq_of_mem_set hx with hx | rfl
      · exact this.2 x hx
      · exact hs
  · exact h.top.far (by show L.a ≠ L.p + k.toNat; omega) _
  · have := h.bls.far (p := ⟨L.p + k.toNat, i.toNat, none⟩) (by show L.bb ≠ L.p + k.toNat; omega) (.string s)
    have e : flat (blkCells c.np.toNat) L.p (c.bl.set k.toNat { c.at k with pages := (c.at k).pages.set i.toNat s }) = flat (blkCells c.np.toNat) L.p c.bl := by
      rw [← flat_set (n := 6) (blkCells_length c.np.toNat) L.p c.bl k.toNat 1 (c.at k) _ (.int .i64 (c.at k).next) hat (by omega) (by rfl)]
      refine List.ext_getElem? fun j => ?_
      rw [List.getElem?_set]
      split
      · rename_i ej; subst ej
        rw [if_pos, flat_get (n := 6) (blkCells_length c.np.toNat) L.p c.bl k.toNat 1 (c.at k) hat (by omega)]
        · rfl
        · rw [flat_length (n := 6) (blkCells_length c.np.toNat)]; omega
      · rfl
    show Row _ _ _ (flat (blkCells c.np.toNat) L.p (c.bl.set k.toNat _))
    rw [e]; exact this
  · intro j b hb
    have hi : j < c.bl.length := by have := (List.getElem?_eq_some_iff.1 hb).1; simpa [Chip.put] using this
    by_cases e : k.toNat = j
    · subst e
      simp [Chip.put, hlt] at hb; subst hb
      exact (h.pgs _ _ hat).put _ _ (by simp [List.map_set])
    · simp [Chip.put, e] at hb
      exact (h.pgs _ _ (by simp [hb])).far (by show L.p + j ≠ L.p + k.toNat; omega) _

end Go.Proofs.Ytljphijjcagciaa
