/-
  A stream on a chip whose power stays and none of whose blocks fails: what it has, block by block, and what its steps come to.
  A put on such a stream: plain laws.
  The walks over a stream's making, and over what is asked of none.
  A new chip's stream, and what is read of such a stream's pages.
-/
import Derived.Test.YtljphijjcagciaaBatchA
import Derived.Test.YtljphijjcagciaaPoolA
namespace Go.Proofs.Ytljphijjcagciaa
open Go.RowKit

structure ABlk where
  pages : List (Tag × ByteArray)
  known : Bool
  erases : Int
  st : Int
  wear : Int
  deriving Inhabited
structure Abs where
  np : Nat
  sz : Nat
  bl : List ABlk
  opn : Int
  progs : Int
  ers : Int
  deriving Inhabited

def enc (p : Tag × ByteArray) : ByteArray := p.2 ++ p.1.beside p.2
def ABlk.conc (np : Nat) (b : ABlk) : Blk := ⟨b.pages.map enc ++ List.replicate (np - b.pages.length) (mkS []), b.pages.length, b.erases, false, false, false⟩
def ABlk.next (b : ABlk) : Int := if b.known then b.pages.length else -1
def Abs.chip (a : Abs) : Chip := ⟨a.bl.length, a.np, a.sz, a.bl.map (ABlk.conc a.np), 0, mkS [], false, a.progs, a.ers, 0⟩
def Abs.drive (a : Abs) : Drive := ⟨a.chip, a.bl.map fun _ => false, a.bl.map ABlk.next⟩
def Abs.pool (a : Abs) : Pool := ⟨a.bl.map fun b => ⟨b.st, b.wear⟩⟩
def Abs.stream (a : Abs) : Stream := ⟨a.drive, a.pool, a.opn, []⟩
def Abs.at (a : Abs) (k : Nat) : ABlk := a.bl.getD k default
def Abs.put1 (a : Abs) (k : Nat) (b : ABlk) : Abs := { a with bl := a.bl.set k b }

structure Abs.Ok (a : Abs) (W : Int) : Prop where
  np2 : 2 ≤ a.np
  np64 : a.np ≤ 64
  blk : ∀ b ∈ a.bl, b.pages.length ≤ a.np ∧ (b.known = false → b.pages = []) ∧ 0 ≤ b.wear ∧ b.wear ≤ W
  opn : a.opn = -1 ∨ ∃ k : Nat, k < a.bl.length ∧ a.opn = k ∧ (a.at k).known = true

theorem Abs.at_mem {a : Abs} {k : Nat} (h : k < a.bl.length) : a.at k ∈ a.bl := by
  unfold Abs.at; rw [List.getD_eq_getElem?_getD, List.getElem?_eq_getElem h]; exact List.getElem_mem h
theorem Abs.at_put1 {a : Abs} {k : Nat} (h : k < a.bl.length) (b : ABlk) : (a.put1 k b).at k = b := by
  simp [Abs.at, Abs.put1, List.getD_eq_getElem?_getD, h]
theorem Abs.at_put1_ne {a : Abs} {k i : Nat} (h : k ≠ i) (b : ABlk) : (a.put1 k b).at i = a.at i := by
  simp [Abs.at, Abs.put1, List.getD_eq_getElem?_getD, h]
theorem Abs.put1_put1 (a : Abs) (k : Nat) (b b' : ABlk) : (a.put1 k b).put1 k b' = a.put1 k b' := by simp [Abs.put1]
theorem Abs.length_put1 (a : Abs) (k : Nat) (b : ABlk) : (a.put1 k b).bl.length = a.bl.length := by simp [Abs.put1]
theorem getD_map {α β : Type} (f : α → β) (l : List α) (k : Nat) (h : k < l.length) (x : β) (y : α) : (l.map f).getD k x = f (l.getD k y) := by
  simp [List.getD_eq_getElem?_getD, h]
theorem Abs.chip_at {a : Abs} {k : Nat} (h : k < a.bl.length) : a.chip.at (k : Int) = ABlk.conc a.np (a.at k) := by
  unfold Chip.at Abs.chip Abs.at; rw [Int.toNat_natCast]; exact getD_map _ _ _ h _ _
theorem Abs.chip_has {a : Abs} {k : Nat} (h : k < a.bl.length) : a.chip.has (k : Int) = true := Chip.has_iff.2 ⟨by omega, by simp [Abs.chip]; omega⟩
theorem Abs.drive_is {a : Abs} {k : Nat} (h : k < a.bl.length) : a.drive.is (k : Int) = true := Drive.is_iff.2 ⟨by omega, by simp [Abs.drive]; omega⟩
theorem Abs.drive_next {a : Abs} {k : Nat} (h : k < a.bl.length) : a.drive.next.getD (k : Int).toNat 0 = (a.at k).next := by
  unfold Abs.drive Abs.at; rw [Int.toNat_natCast]; exact getD_map _ _ _ h _ _
theorem Abs.drive_ready {a : Abs} {k : Nat} (h : k < a.bl.length) : a.drive.ready (k : Int) = 0 :=
  Drive.ready_ok (Abs.drive_is h) (by unfold Abs.drive; dsimp only; rw [Int.toNat_natCast, getD_map (fun _ => false) a.bl k h false default])
theorem Abs.calm (a : Abs) : a.chip.Calm := ⟨by simp [Abs.chip], by simp [Abs.chip], fun b hb => by
  simp only [Abs.chip, List.mem_map] at hb
  obtain ⟨x, _, rfl⟩ := hb
  rfl⟩

/-- A page more. -/
def Abs.push (a : Abs) (k : Nat) (t : Tag) (data : ByteArray) : Abs :=
  { a.put1 k { a.at k with pages := (a.at k).pages ++ [(t, data)] } with progs := inc a.progs }
theorem set_pages (l : List ByteArray) (n : Nat) (s : ByteArray) (h : l.length < n) : (l ++ List.replicate (n - l.length) (mkS [])).set l.length s = (l ++ [s]) ++ List.replicate (n - (l.length + 1)) (mkS []) := by
  obtain ⟨m, hm⟩ : ∃ m, n - l.length = m + 1 := ⟨n - l.length - 1, by omega⟩
  rw [hm, List.set_append_right _ _ (Nat.le_refl _), Nat.sub_self, List.replicate_succ, List.set_cons_zero, show n - (l.length + 1) = m by omega]
  simp
theorem Abs.program {a : Abs} {k : Nat} {t : Tag} {data : ByteArray} (hk : k < a.bl.length) (hkn : (a.at k).known = true) (hl : (a.at k).pages.length < a.np) (h64 : a.np ≤ 64) (ht : t.right = true) (hd : data.size = a.sz) :
    a.drive.program (k : Int) t data = (((a.at k).pages.length : Int), 0, (a.push k t data).drive) := by
  have hnx : (a.at k).next = ((a.at k).pages.length : Nat) := by unfold ABlk.next; rw [hkn]; rfl
  have hat := Abs.chip_at hk
  have hs : (data.size : Int) = a.chip.sz := by rw [hd]; rfl
  have hc := Chip.program_ok (c := a.chip) (k := (k : Int)) (page := ((a.at k).pages.length : Nat)) (data := data) (beside := t.beside data)
    (Chip.ready_ok rfl (Abs.chip_has hk) (by omega) (by show _ < (a.np : Int); omega)) hs (Tag.beside_size _ _) (by rw [hat]; rfl) (by rw [hat]; rfl) (by rw [hat]; rfl) (by omega) (by simp [Abs.chip]) (solid_tag hs ht) rfl
  rw [Drive.program_eq (page := ((a.at k).pages.length : Nat)) (Abs.drive_ready hk) ht hs (by rw [Abs.drive_next hk, hnx]) (by omega) (by show _ < (a.np : Int); omega) hc, if_pos rfl]
  have hi : inc ((a.at k).pages.length : Nat) = (((a.at k).pages.length + 1 : Nat) : Int) := by rw [inc_small (by omega) (by omega)]; omega
  rw [hi]
  refine Prod.ext rfl (Prod.ext rfl ?_)
  show Drive.mk _ _ _ = Drive.mk _ _ _
  have e1 : a.chip.progd (k : Int) ((a.at k).pages.length : Nat) (data ++ t.beside data) = (a.push k t data).chip := by
    unfold Chip.progd
    rw [hat]
    unfold Abs.push Abs.put1 Abs.chip
    dsimp only
    rw [if_pos rfl, Int.toNat_natCast, List.map_set, List.length_set]
    congr 2
    unfold ABlk.conc
    dsimp only
    have h1 := set_pages ((a.at k).pages.map enc) a.np (data ++ t.beside data) (by simpa using hl)
    rw [List.length_map] at h1
    rw [Int.toNat_natCast, h1]
    simp [enc]
  rw [e1]
  congr 1
  · unfold Abs.push Abs.put1
    dsimp only
    refine List.ext_getElem? fun i => ?_
    simp only [Abs.drive, List.getElem?_map, List.getElem?_set]
    split
    · rename_i h; subst h; simp [hk]
    · rfl
  · unfold Abs.push Abs.put1 Abs.drive
    dsimp only
    rw [Int.toNat_natCast, List.map_set]
    congr 1
    unfold ABlk.next
    simp [hkn]

/-- A block is erased. -/
def Abs.wipe (a : Abs) (k : Nat) : Abs :=
  { a.put1 k { a.at k with pages := [], known := true, erases := inc (a.at k).erases } with ers := inc a.ers }
theorem clearN_all (b : Blk) : ∀ k, k ≤ b.pages.length → b.clearN allPg k = { b with pages := List.replicate k (mkS []) ++ b.pages.drop k, next := 0 }
  | 0, _ => by simp [Blk.clearN]
  | k + 1, h => by
    unfold Blk.clearN
    rw [clearN_all b k (by omega)]
    dsimp only
    rw [show allPg k = true from rfl, if_pos rfl]
    have e : (List.replicate k (mkS []) ++ b.pages.drop k).set k (mkS []) = List.replicate (k + 1) (mkS []) ++ b.pages.drop (k + 1) := by
      rw [List.set_append_right _ _ (by simp), List.length_replicate, Nat.sub_self, List.drop_eq_getElem_cons (by omega), List.set_cons_zero, List.replicate_succ']
      simp
    rw [e]
    rfl
theorem clear_all (b : Blk) : b.clear allPg = { b with pages := List.replicate b.pages.length (mkS []), next := 0 } := by
  unfold Blk.clear
  rw [clearN_all b _ (Nat.le_refl _)]
  simp
theorem Abs.erase {a : Abs} {k : Nat} (hk : k < a.bl.length) (hl : (a.at k).pages.length ≤ a.np) (hnp : 0 < a.np) : a.drive.erase (k : Int) = (0, (a.wipe k).drive) := by
  have hat := Abs.chip_at hk
  have hc := Chip.erase_ok (c := a.chip) (k := (k : Int)) (Chip.ready_ok rfl (Abs.chip_has hk) (by omega) (by show 0 < (a.np : Int); omega)) (by rw [hat]; rfl) (by rw [hat]; rfl) (by simp [Abs.chip]) rfl
  rw [Drive.erase_eq (Abs.drive_ready hk) hc, if_pos rfl]
  refine Prod.ext rfl ?_
  show Drive.mk _ _ _ = Drive.mk _ _ _
  have e1 : a.chip.erasd (k : Int) = (a.wipe k).chip := by
    unfold Chip.erasd
    rw [hat, clear_all]
    unfold Abs.wipe Abs.put1 Abs.chip
    dsimp only
    rw [if_pos rfl, Int.toNat_natCast, List.map_set, List.length_set]
    congr 2
    unfold ABlk.conc
    dsimp only
    have : a.np - (a.at k).pages.length + (a.at k).pages.length = a.np := by omega
    simp
    omega
  rw [e1]
  congr 1
  · unfold Abs.wipe Abs.put1
    dsimp only
    refine List.ext_getElem? fun i => ?_
    simp only [Abs.drive, List.getElem?_map, List.getElem?_set]
    split
    · rename_i h; subst h; simp [hk]
    · rfl
  · unfold Abs.wipe Abs.put1 Abs.drive
    dsimp only
    rw [Int.toNat_natCast, List.map_set]
    congr 1

/-- What a block is for, and its wear. -/
def ABlk.pb (b : ABlk) : PBlk := ⟨b.st, b.wear⟩
def Abs.best (a : Abs) : Option Nat := (bestP (fun x y => decide (x < y)) (a.bl.map ABlk.pb) 0 none).map Prod.fst
def Abs.mark (a : Abs) (k : Nat) (st : Int) : Abs := a.put1 k { a.at k with st := st }
theorem Abs.pool_at {a : Abs} {k : Nat} (h : k < a.bl.length) : a.pool.at (k : Int) = (a.at k).pb := by
  unfold Pool.at Abs.pool Abs.at; rw [Int.toNat_natCast]; exact getD_map _ _ _ h _ _
theorem Abs.pool_has {a : Abs} {k : Nat} (h : k < a.bl.length) : a.pool.has (k : Int) = true := Pool.has_iff.2 ⟨by omega, by simp [Abs.pool]; omega⟩
theorem Abs.mark_pool (a : Abs) (k : Nat) (st : Int) : (a.mark k st).pool = ⟨a.pool.bl.set k ⟨st, (a.at k).wear⟩⟩ := by
  simp [Abs.pool, Abs.mark, Abs.put1, List.map_set]
theorem set_same {α β : Type} (f : α → β) (l : List α) (k : Nat) (x : α) (h : k < l.length) (e : f x = f l[k]) : (l.set k x).map f = l.map f := by
  refine List.ext_getElem? fun i => ?_
  rw [List.getElem?_map, List.getElem?_map, List.getElem?_set]
  split
  · rename_i hi; subst hi; simp [h, e]
  · rfl
theorem Abs.at_getElem {a : Abs} {k : Nat} (h : k < a.bl.length) : a.at k = a.bl[k] := by
  unfold Abs.at; rw [List.getD_eq_getElem?_getD, List.getElem?_eq_getElem h]; rfl
theorem Abs.mark_drive {a : Abs} {k : Nat} (h : k < a.bl.length) (st : Int) : (a.mark k st).drive = a.drive := by
  unfold Abs.mark Abs.put1 Abs.drive Abs.chip
  dsimp only
  rw [set_same _ _ _ _ h (by rw [Abs.at_getElem h]; rfl), set_same (fun _ => false) _ _ _ h (by rfl), set_same _ _ _ _ h (by rw [Abs.at_getElem h]; rfl), List.length_set]
theorem Abs.best_spec {a : Abs} {k : Nat} (h : a.best = some k) : k < a.bl.length ∧ (a.at k).st = 1 := by
  unfold Abs.best at h
  cases hb : bestP (fun x y => decide (x < y)) (a.bl.map ABlk.pb) 0 none with
  | none => rw [hb] at h; cases h
  | some p =>
    obtain ⟨i, w⟩ := p
    rw [hb] at h
    have e : i = k := Option.some.inj h
    subst e
    have := bestP_spec (fun x y => decide (x < y)) (a.bl.map ABlk.pb) (a.bl.map ABlk.pb).length (Nat.le_refl _) i w (by rw [List.take_length]; exact hb)
    rw [List.length_map] at this
    refine ⟨this.1, ?_⟩
    have h3 := this.2.2
    rw [getD_map ABlk.pb a.bl i this.1 default default] at h3
    exact h3
theorem Abs.take_none {a : Abs} (h : a.best = none) : a.pool.take = (0, 13, a.pool) := by
  unfold Abs.best at h
  have hb : bestP (fun x y => decide (x < y)) a.pool.bl 0 none = none := by
    cases hb : bestP (fun x y => decide (x < y)) (a.bl.map ABlk.pb) 0 none with
    | none => exact hb
    | some p => rw [hb] at h; cases h
  unfold Pool.take Pool.choose
  rw [hb]
theorem Abs.take_some {a : Abs} {k : Nat} (h : a.best = some k) : a.pool.take = ((k : Int), 0, (a.mark k 2).pool) := by
  have hk := (Abs.best_spec h).1
  have hat := Abs.pool_at hk
  unfold Abs.best at h
  cases hb : bestP (fun x y => decide (x < y)) (a.bl.map ABlk.pb) 0 none with
  | none => rw [hb] at h; cases h
  | some p =>
    obtain ⟨i, w⟩ := p
    rw [hb] at h
    have e : i = k := Option.some.inj h
    subst e
    unfold Pool.take Pool.choose
    have hb2 : bestP (fun x y => decide (x < y)) a.pool.bl 0 none = some (i, w) := hb
    rw [hb2]
    dsimp only
    rw [hat, Abs.mark_pool]
    rfl

/-- A block is begun: erased, and its head is programmed. -/
def headTag (w : Int) : Tag := ⟨2, 0, w % 18446744073709551616, 0, 1⟩
def Abs.begin (a : Abs) (k : Nat) : Abs :=
  { a.put1 k { pages := [(headTag (inc (a.at k).wear), repS (mkS [0]) a.sz)], known := true, erases := inc (a.at k).erases, st := (a.at k).st, wear := inc (a.at k).wear } with progs := inc a.progs, ers := inc a.ers }
theorem Abs.head {a : Abs} {k : Nat} (hk : k < a.bl.length) (hl : (a.at k).pages.length ≤ a.np) (hnp : 0 < a.np) (h64 : a.np ≤ 64) (hw : 0 ≤ inc (a.at k).wear) : a.stream.head (k : Int) = (0, (a.begin k).stream) := by
  unfold Stream.head
  dsimp only
  have he : a.stream.dr.erase (k : Int) = (0, (a.wipe k).drive) := Abs.erase hk hl hnp
  rw [he]
  dsimp only
  rw [if_neg (by simp)]
  have hwr : a.stream.pl.wear (k : Int) = (a.at k).wear := by
    show a.pool.wear (k : Int) = _
    unfold Pool.wear
    rw [Abs.pool_has hk, if_pos rfl, Abs.pool_at hk]; rfl
  rw [hwr]
  have hkw : k < (a.wipe k).bl.length := by show k < (a.put1 k _).bl.length; rw [Abs.length_put1]; exact hk
  have haw : (a.wipe k).at k = { a.at k with pages := [], known := true, erases := inc (a.at k).erases } := Abs.at_put1 hk _
  have hp := Abs.program (a := a.wipe k) (k := k) (t := headTag (inc (a.at k).wear)) (data := repS (mkS [0]) a.sz) hkw (by rw [haw]) (by rw [haw]; exact hnp) h64 rfl
    (by rw [repS_size, mkS_size]; simp; rfl)
  have hsz : (a.wipe k).drive.chip.sz.toNat = a.sz := Int.toNat_natCast _
  rw [hsz]
  have hp2 : (a.wipe k).drive.program (k : Int) ⟨2, 0, inc (a.at k).wear % 18446744073709551616, 0, 1⟩ (repS (mkS [0]) a.sz) = _ := hp
  rw [hp2]
  refine Prod.ext rfl ?_
  show Stream.mk _ _ _ _ = Stream.mk _ _ _ _
  have hpl : (a.stream.pl.worn (k : Int) (inc (a.at k).wear)).2 = (a.begin k).pool := by
    show (a.pool.worn (k : Int) (inc (a.at k).wear)).2 = _
    unfold Pool.worn
    rw [Abs.pool_has hk]
    rw [if_neg (by simp), if_neg (by omega), Abs.pool_at hk]
    unfold Abs.begin Abs.put1 Abs.pool
    dsimp only
    rw [Int.toNat_natCast, List.map_set]
    rfl
  have hdr : ((a.wipe k).push k (headTag (inc (a.at k).wear)) (repS (mkS [0]) a.sz)).drive = (a.begin k).drive := by
    have e : (a.wipe k).push k (headTag (inc (a.at k).wear)) (repS (mkS [0]) a.sz) = (a.begin k).put1 k { (a.begin k).at k with wear := (a.at k).wear } := by
      unfold Abs.push
      rw [haw]
      have hb : (a.begin k).at k = { pages := [(headTag (inc (a.at k).wear), repS (mkS [0]) a.sz)], known := true, erases := inc (a.at k).erases, st := (a.at k).st, wear := inc (a.at k).wear } := Abs.at_put1 hk _
      rw [hb]
      simp [Abs.wipe, Abs.begin, Abs.put1]
    rw [e]
    have hkb : k < (a.begin k).bl.length := by show k < (a.put1 k _).bl.length; rw [Abs.length_put1]; exact hk
    unfold Abs.put1 Abs.drive Abs.chip
    dsimp only
    rw [set_same _ _ _ _ hkb (by rw [Abs.at_getElem hkb]; rfl), set_same (fun _ => false) _ _ _ hkb (by rfl), set_same _ _ _ _ hkb (by rw [Abs.at_getElem hkb]; rfl), List.length_set]
  rw [hpl, hdr]
  rfl

end Go.Proofs.Ytljphijjcagciaa

namespace Go.Proofs.Ytljphijjcagciaa
open Go.RowKit

def Abs.opnN (a : Abs) : Nat := a.opn.toNat
/-- Pages that the open block has left. -/
def Abs.room (a : Abs) : Nat := if a.opn = -1 then 0 else a.np - (a.at a.opnN).pages.length
def Abs.ready (a : Abs) : Int × Abs :=
  if a.room ≠ 0 then (0, a) else
  match a.best with
  | none => (13, { a with opn := -1 })
  | some k => (0, { (a.mark k 2).begin k with opn := k })
/-- A put: the block, the page, the error's number, and what there is then. -/
def Abs.put (a : Abs) (t : Tag) (data : ByteArray) : (Int × Int × Int) × Abs :=
  if (!t.right || decide (data.size ≠ a.sz)) = true then ((0, 0, 2), a) else
  if a.ready.1 ≠ 0 then ((0, 0, a.ready.1), a.ready.2) else
  ((a.ready.2.opn, ((a.ready.2.at a.ready.2.opnN).pages.length : Int), 0), a.ready.2.push a.ready.2.opnN t data)

theorem Abs.Ok.opn_cases {a : Abs} {W : Int} (h : a.Ok W) : a.opn = -1 ∨ (a.opnN < a.bl.length ∧ a.opn = (a.opnN : Int) ∧ (a.at a.opnN).known = true ∧ a.opn ≠ -1) := by
  rcases h.opn with h1 | ⟨k, hk, ho, hkn⟩
  · exact .inl h1
  · right
    have e : a.opnN = k := by unfold Abs.opnN; rw [ho]; rfl
    rw [e]; exact ⟨hk, ho, hkn, by rw [ho]; omega⟩
theorem Abs.room_eq {a : Abs} {W : Int} (h : a.Ok W) : a.stream.room = (a.room : Int) := by
  unfold Stream.room Abs.room
  show (if a.opn = -1 then (0 : Int) else max 0 ((a.np : Int) - max 0 (a.drive.nextOf a.opn))) = _
  rcases h.opn_cases with h1 | ⟨hk, ho, hkn, hne⟩
  · rw [if_pos h1, if_pos h1]; rfl
  · rw [if_neg hne, if_neg hne]
    have hx : a.drive.nextOf a.opn = ((a.at a.opnN).pages.length : Int) := by
      rw [ho]
      unfold Drive.nextOf
      rw [Abs.drive_is hk, if_pos rfl, Abs.drive_next hk]
      unfold ABlk.next; rw [hkn]; rfl
    have hl := (h.blk _ (Abs.at_mem hk)).1
    rw [hx]
    omega

theorem Abs.Ok.wear_le {a : Abs} {W : Int} (h : a.Ok W) (hW : 0 ≤ W) (k : Int) : 0 ≤ a.pool.wear k ∧ a.pool.wear k ≤ W := by
  unfold Pool.wear
  cases hk : a.pool.has k
  · simpa using hW
  · obtain ⟨h0, h1⟩ := Pool.has_iff.1 hk
    obtain ⟨n, rfl⟩ : ∃ n : Nat, k = n := ⟨k.toNat, by omega⟩
    have hn : n < a.bl.length := by simp [Abs.pool] at h1; omega
    rw [if_pos rfl, Abs.pool_at hn]
    exact ⟨(h.blk _ (Abs.at_mem hn)).2.2.1, (h.blk _ (Abs.at_mem hn)).2.2.2⟩
theorem Abs.Ok.put1 {a : Abs} {W : Int} (h : a.Ok W) (k : Nat) (b : ABlk) (hb : b.pages.length ≤ a.np ∧ (b.known = false → b.pages = []) ∧ 0 ≤ b.wear ∧ b.wear ≤ W) (hk : (a.at k).known = true → b.known = true) : (a.put1 k b).Ok W :=
  ⟨h.np2, h.np64, fun x hx => by
    rcases List.mem_or_eq_of_mem_set hx with hx | rfl
    · exact h.blk x hx
    · exact hb, by
    rcases h.opn with h1 | ⟨i, hi, ho, hkn⟩
    · exact .inl h1
    · right
      refine ⟨i, by rw [Abs.length_put1]; exact hi, ho, ?_⟩
      by_cases e : k = i
      · subst e; rw [Abs.at_put1 hi]; exact hk hkn
      · rw [Abs.at_put1_ne e]; exact hkn⟩
theorem Abs.Ok.mono {a : Abs} {W W' : Int} (h : a.Ok W) (hW : W ≤ W') : a.Ok W' :=
  ⟨h.np2, h.np64, fun b hb => by have := h.blk b hb; exact ⟨this.1, this.2.1, this.2.2.1, by omega⟩, h.opn⟩
theorem Abs.mark_at {a : Abs} {k : Nat} (h : k < a.bl.length) (st : Int) : (a.mark k st).at k = { a.at k with st := st } := Abs.at_put1 h _
theorem Abs.Ok.mark {a : Abs} {W : Int} (h : a.Ok W) {k : Nat} (hk : k < a.bl.length) (st : Int) : (a.mark k st).Ok W :=
  h.put1 k _ (by have := h.blk _ (Abs.at_mem hk); exact this) id
theorem Abs.begin_at {a : Abs} {k : Nat} (h : k < a.bl.length) : (a.begin k).at k = { pages := [(headTag (inc (a.at k).wear), repS (mkS [0]) a.sz)], known := true, erases := inc (a.at k).erases, st := (a.at k).st, wear := inc (a.at k).wear } := Abs.at_put1 h _
theorem Abs.begin_length (a : Abs) (k : Nat) : (a.begin k).bl.length = a.bl.length := Abs.length_put1 _ _ _
theorem Abs.mark_length (a : Abs) (k : Nat) (st : Int) : (a.mark k st).bl.length = a.bl.length := Abs.length_put1 _ _ _
theorem Abs.Ok.begin {a : Abs} {W : Int} (h : a.Ok W) {k : Nat} (hk : k < a.bl.length) (hW : W < 100000000) : ({ a.begin k with opn := k } : Abs).Ok (W + 1) := by
  have hb := h.blk _ (Abs.at_mem hk)
  have hnp := h.np2
  have hi : inc (a.at k).wear = (a.at k).wear + 1 := inc_small (by omega) (by omega)
  have h1 := (h.mono (show W ≤ W + 1 by omega)).put1 k { pages := [(headTag (inc (a.at k).wear), repS (mkS [0]) a.sz)], known := true, erases := inc (a.at k).erases, st := (a.at k).st, wear := inc (a.at k).wear }
    ⟨by simp; omega, by simp, by show 0 ≤ inc (a.at k).wear; omega, by show inc (a.at k).wear ≤ W + 1; omega⟩ (fun _ => rfl)
  exact ⟨h1.np2, h1.np64, h1.blk, .inr ⟨k, by show k < (a.put1 k _).bl.length; rw [Abs.length_put1]; exact hk, rfl, by show ((a.put1 k _).at k).known = true; rw [Abs.at_put1 hk]⟩⟩
theorem Abs.begun_room {a : Abs} {k : Nat} (hk : k < a.bl.length) : ({ a.begin k with opn := k } : Abs).room = a.np - 1 := by
  unfold Abs.room Abs.opnN
  dsimp only
  rw [if_neg (by omega), Int.toNat_natCast]
  show a.np - ((a.begin k).at k).pages.length = _
  rw [Abs.begin_at hk]; rfl
theorem Abs.take_head {a : Abs} {W : Int} (h : a.Ok W) (hW : W < 100000000) {k : Nat} (hb : a.best = some k) :
    ({ a.stream with pl := (a.mark k 2).pool } : Stream).head (k : Int) = (0, { ((a.mark k 2).begin k).stream with opn := a.opn }) := by
  have hk := (Abs.best_spec hb).1
  have hm : ({ a.stream with pl := (a.mark k 2).pool } : Stream) = (a.mark k 2).stream := by
    unfold Abs.stream; rw [Abs.mark_drive hk]; rfl
  have hkm : k < (a.mark k 2).bl.length := by rw [Abs.mark_length]; exact hk
  have hblk := (h.mark hk 2).blk _ (Abs.at_mem hkm)
  have hnp := h.np2
  rw [hm, Abs.head hkm hblk.1 (by show 0 < a.np; omega) h.np64 (by rw [inc_small (by omega) (by omega)]; omega)]
  rfl
theorem Abs.plain {a : Abs} {W : Int} (h : a.Ok W) (h0 : 0 ≤ W) (hW : W < 100000000) : a.stream.Plain := by
  refine ⟨a.calm, ?_, ?_⟩
  · intro k
    show 0 ≤ a.pool.take.2.2.wear k ∧ a.pool.take.2.2.wear k ≤ 1000000000
    cases hb : a.best with
    | none => rw [Abs.take_none hb]; have := h.wear_le h0 k; exact ⟨this.1, by show a.pool.wear k ≤ _; omega⟩
    | some i =>
      rw [Abs.take_some hb]
      have := (h.mark (Abs.best_spec hb).1 2).wear_le h0 k
      exact ⟨this.1, by show (a.mark i 2).pool.wear k ≤ _; omega⟩
  · show a.stream.room = 0 → a.pool.take.2.1 = 0 → (({ a.stream with pl := a.pool.take.2.2 } : Stream).head a.pool.take.1).1 = 0 → ({ (({ a.stream with pl := a.pool.take.2.2 } : Stream).head a.pool.take.1).2 with opn := a.pool.take.1 } : Stream).room ≠ 0
    cases hb : a.best with
    | none => rw [Abs.take_none hb]; intro _ h1; exact absurd (show (13 : Int) = 0 from h1) (by decide)
    | some i =>
      rw [Abs.take_some hb]
      intro _ _ _
      dsimp only
      rw [Abs.take_head h hW hb]
      have hk := (Abs.best_spec hb).1
      have hkm : i < (a.mark i 2).bl.length := by rw [Abs.mark_length]; exact hk
      have hok := (h.mark hk 2).begin hkm hW
      show ({ (a.mark i 2).begin i with opn := (i : Int) } : Abs).stream.room ≠ 0
      rw [Abs.room_eq hok, Abs.begun_room hkm]
      have hnp := h.np2
      show ((a.np - 1 : Nat) : Int) ≠ 0
      omega
theorem Abs.ready_eq {a : Abs} {W : Int} (h : a.Ok W) (hW : W < 100000000) : a.stream.ready1 = (a.ready.1, a.ready.2.stream) := by
  unfold Stream.ready1
  rw [Abs.room_eq h]
  by_cases hr : a.room = 0
  · rw [if_neg (by simp [hr])]
    cases hb : a.best with
    | none =>
      have hR : a.ready = (13, { a with opn := -1 }) := by unfold Abs.ready; rw [if_neg (by simp [hr]), hb]
      have e : a.stream.pl.take = (0, 13, a.pool) := Abs.take_none hb
      rw [hR, e]; rfl
    | some k =>
      have hR : a.ready = (0, { (a.mark k 2).begin k with opn := k }) := by unfold Abs.ready; rw [if_neg (by simp [hr]), hb]
      have hh := Abs.take_head h hW hb
      have e : a.stream.pl.take = ((k : Int), 0, (a.mark k 2).pool) := Abs.take_some hb
      rw [hR, e, if_neg (by simp)]
      dsimp only
      rw [hh]
      dsimp only
      rw [if_pos rfl]
      rfl
  · have hR : a.ready = (0, a) := by unfold Abs.ready; rw [if_pos hr]
    rw [if_pos (by omega), hR]
theorem Abs.ready_ok {a : Abs} {W : Int} (h : a.Ok W) (hW : W < 100000000) : a.ready.2.Ok (W + 1) ∧ a.ready.2.np = a.np ∧ a.ready.2.sz = a.sz ∧ (a.ready.1 = 0 → a.ready.2.room ≠ 0) := by
  unfold Abs.ready
  by_cases hr : a.room = 0
  · rw [if_neg (by simp [hr])]
    cases hb : a.best with
    | none => exact ⟨⟨h.np2, h.np64, (h.mono (show W ≤ W + 1 by omega)).blk, .inl rfl⟩, rfl, rfl, fun h => absurd (show (13 : Int) = 0 from h) (by decide)⟩
    | some k =>
      have hk := (Abs.best_spec hb).1
      have hkm : k < (a.mark k 2).bl.length := by rw [Abs.mark_length]; exact hk
      refine ⟨(h.mark hk 2).begin hkm hW, rfl, rfl, fun _ => ?_⟩
      dsimp only
      rw [Abs.begun_room hkm]
      have hnp := h.np2
      show a.np - 1 ≠ 0
      omega
  · rw [if_pos hr]; exact ⟨h.mono (by omega), rfl, rfl, fun _ => hr⟩
/-- In the open block there is room: it is one of the blocks, and known. -/
theorem Abs.Ok.open_room {a : Abs} {W : Int} (h : a.Ok W) (hr : a.room ≠ 0) : a.opnN < a.bl.length ∧ a.opn = (a.opnN : Int) ∧ (a.at a.opnN).known = true ∧ (a.at a.opnN).pages.length < a.np := by
  rcases h.opn_cases with h1 | ⟨hk, ho, hkn, hne⟩
  · exact absurd (by unfold Abs.room; rw [if_pos h1]) hr
  · refine ⟨hk, ho, hkn, ?_⟩
    unfold Abs.room at hr
    rw [if_neg hne] at hr
    omega
theorem Abs.put_bad {a : Abs} {t : Tag} {data : ByteArray} (h : t.right = false ∨ data.size ≠ a.sz) : a.put t data = ((0, 0, 2), a) := by
  unfold Abs.put; rw [if_pos (by rcases h with h | h <;> simp [h])]
theorem Abs.put_full {a : Abs} {t : Tag} {data : ByteArray} (ht : t.right = true) (hd : data.size = a.sz) (hr : a.ready.1 ≠ 0) : a.put t data = ((0, 0, a.ready.1), a.ready.2) := by
  unfold Abs.put; rw [if_neg (by simp [ht, hd]), if_pos hr]
theorem Abs.put_go {a : Abs} {t : Tag} {data : ByteArray} (ht : t.right = true) (hd : data.size = a.sz) (hr : a.ready.1 = 0) :
    a.put t data = ((a.ready.2.opn, ((a.ready.2.at a.ready.2.opnN).pages.length : Int), 0), a.ready.2.push a.ready.2.opnN t data) := by
  unfold Abs.put; rw [if_neg (by simp [ht, hd]), if_neg (by simp [hr])]
theorem Abs.push_pool {a : Abs} {k : Nat} (h : k < a.bl.length) (t : Tag) (data : ByteArray) : (a.push k t data).pool = a.pool := by
  unfold Abs.push Abs.put1 Abs.pool
  dsimp only
  rw [set_same _ _ _ _ h (by rw [Abs.at_getElem h])]
theorem Abs.put_eq {a : Abs} {W : Int} (h : a.Ok W) (hW : W < 100000000) (t : Tag) (data : ByteArray) :
    a.stream.put1 t data = ((a.put t data).1.1, (a.put t data).1.2.1, (a.put t data).1.2.2, (a.put t data).2.stream) := by
  have hsz : decide ((data.size : Int) ≠ a.stream.dr.chip.sz) = decide (data.size ≠ a.sz) := by
    show decide ((data.size : Int) ≠ (a.sz : Int)) = _
    rw [decide_eq_decide]; omega
  by_cases hc : t.right = false ∨ data.size ≠ a.sz
  · rw [Abs.put_bad hc]
    unfold Stream.put1
    rw [hsz, if_pos (by rcases hc with h | h <;> simp [h])]
  · have h1 : t.right = true := Bool.of_not_eq_false fun e => hc (.inl e)
    have h2 : data.size = a.sz := Decidable.byContradiction fun e => hc (.inr e)
    obtain ⟨hok, hnp, hsz2, hroom⟩ := Abs.ready_ok h hW
    have hq : a.stream.put1 t data = if a.ready.1 ≠ 0 then (0, 0, a.ready.1, a.ready.2.stream) else
        if (a.ready.2.drive.program a.ready.2.opn t data).2.1 = 0 then (a.ready.2.opn, (a.ready.2.drive.program a.ready.2.opn t data).1, 0, { a.ready.2.stream with dr := (a.ready.2.drive.program a.ready.2.opn t data).2.2 })
        else (0, 0, (a.ready.2.drive.program a.ready.2.opn t data).2.1, { a.ready.2.stream with dr := (a.ready.2.drive.program a.ready.2.opn t data).2.2, opn := -1 }) := by
      unfold Stream.put1
      rw [hsz, if_neg (by simp [h1, h2]), Abs.ready_eq h hW]
      rfl
    rw [hq]
    by_cases hr : a.ready.1 = 0
    · rw [Abs.put_go h1 h2 hr, if_neg (by simp [hr])]
      obtain ⟨o1, o2, o3, o4⟩ := hok.open_room (hroom hr)
      have hp := Abs.program (t := t) (data := data) o1 o3 o4 hok.np64 h1 (by rw [hsz2]; exact h2)
      rw [← o2] at hp
      rw [hp]
      dsimp only
      rw [if_pos rfl]
      refine Prod.ext rfl (Prod.ext rfl (Prod.ext rfl ?_))
      show Stream.mk _ _ _ _ = Stream.mk _ _ _ _
      rw [Abs.push_pool o1]
      rfl
    · rw [Abs.put_full h1 h2 hr, if_pos hr]
theorem Abs.put_ok {a : Abs} {W : Int} (h : a.Ok W) (hW : W < 100000000) (t : Tag) (data : ByteArray) : (a.put t data).2.Ok (W + 1) := by
  obtain ⟨hok, hnp, hsz2, hroom⟩ := Abs.ready_ok h hW
  by_cases hc : t.right = false ∨ data.size ≠ a.sz
  · rw [Abs.put_bad hc]; exact h.mono (by omega)
  · have h1 : t.right = true := Bool.of_not_eq_false fun e => hc (.inl e)
    have h2 : data.size = a.sz := Decidable.byContradiction fun e => hc (.inr e)
    by_cases hr : a.ready.1 = 0
    · rw [Abs.put_go h1 h2 hr]
      obtain ⟨o1, o2, o3, o4⟩ := hok.open_room (hroom hr)
      have hb := hok.blk _ (Abs.at_mem o1)
      have := hok.put1 a.ready.2.opnN { a.ready.2.at a.ready.2.opnN with pages := (a.ready.2.at a.ready.2.opnN).pages ++ [(t, data)] }
        ⟨by simp; omega, fun e => by exact absurd (show (a.ready.2.at a.ready.2.opnN).known = false from e) (by rw [o3]; simp), hb.2.2⟩ id
      exact ⟨this.np2, this.np64, this.blk, this.opn⟩
    · rw [Abs.put_full h1 h2 hr]; exact hok
end Go.Proofs.Ytljphijjcagciaa

namespace Go.Proofs.Ytljphijjcagciaa
open Go.RowKit

theorem count_le (p : Pool) (s : Int) : 0 ≤ p.count s ∧ p.count s ≤ p.bl.length := by
  unfold Pool.count
  have := List.length_filter_le (fun b : PBlk => decide (b.st = s)) p.bl
  omega
theorem batchNew_ok (D : DL) (d : Drive) (L : PL) (p : Pool) (w : World) (h : DriveAt w D d) (hp : PoolAt w L p) (hf : ∀ k, L.foot k → ¬ D.foot k) (hsum : p.count 1 + p.count 2 + p.count 3 = d.chip.nb) :
    Calls Try.prog 24 #[.pointer (some ⟨D.d, 0, none⟩), .pointer (some ⟨L.a, 0, none⟩)] w fun e w' => ∃ S : SL, S.d = D ∧ S.p = L ∧ w.heap.size ≤ S.s ∧ e = .returned (.tuple #[.pointer (some ⟨S.s, 0, none⟩), .int .i64 0]) ∧ StreamAt w' S ⟨d, p, -1, []⟩ ∧ Upd noBlk w w' := by
  have HD := hid h; have HP := hid hp
  have HC1 := hid (fun W hW => poolCount_any L p 1 W hW)
  have HC2 := hid (fun W hW => poolCount_any L p 2 W hW)
  have HC3 := hid (fun W hW => poolCount_any L p 3 W hW)
  obtain ⟨a0, a1⟩ := count_le p 1; obtain ⟨b0, b1⟩ := count_le p 2; obtain ⟨c0, c1⟩ := count_le p 3
  have hn := hp.n256
  have q1 : p.count 1 ≤ 256 := by omega
  have q2 : p.count 2 ≤ 256 := by omega
  have q3 : p.count 3 ≤ 256 := by omega
  have HCH := hid (fun W hW => Chip_any D d W hW)
  have HSH := hid (fun W hW => Shape_any D.c d.chip W hW)
  have hf0 := field_shape0 d.chip.nb d.chip.np d.chip.sz
  have b4 : (p.count 1 + p.count 2 + p.count 3 != d.chip.nb) = false := by simp [hsum]
  generalize p.count 1 = x1 at *
  generalize p.count 2 = x2 at *
  generalize p.count 3 = x3 at *
  clear h hp hn hsum a1 b1 c1
  go_enter Try.func24, Try.ntmps24
  go_wp2_with fail
  refine (HC1.out _ HP.out).mono ?_; rintro e w1 ⟨rfl, hu⟩
  have HP1 := hid (HP.out.upd hu fun _ h => h.elim); have HD1 := hid (HD.out.upd hu fun _ h => h.elim); have HU1 := hid hu; clear hu
  go_wp2_with fail
  refine (HC2.out _ HP1.out).mono ?_; rintro e w2 ⟨rfl, hu⟩
  have HP2 := hid (HP1.out.upd hu fun _ h => h.elim); have HD2 := hid (HD1.out.upd hu fun _ h => h.elim); have HU2 := hid (HU1.out.trans' hu); clear hu
  go_wp2_with fail
  refine (HC3.out _ HP2.out).mono ?_; rintro e w3 ⟨rfl, hu⟩
  have HP3 := hid (HP2.out.upd hu fun _ h => h.elim); have HD3 := hid (HD2.out.upd hu fun _ h => h.elim); have HU3 := hid (HU2.out.trans' hu); clear hu
  go_wp2_with fail
  refine (HCH.out _ HD3.out).mono ?_; rintro e w4 ⟨rfl, rfl⟩
  go_wp2_with fail
  refine (HSH.out _ HD3.out.chip).mono ?_; rintro e w5 ⟨rfl, hu⟩
  have HP5 := hid (HP3.out.upd hu fun _ h => h.elim); have HD5 := hid (HD3.out.upd hu fun _ h => h.elim); have HU5 := hid (HU3.out.trans' hu); clear hu
  go_wp2_with fail
  go_ret2
  refine ⟨⟨D, L, w5.heap.size⟩, rfl, rfl, HU5.out.size, rfl, ⟨HD5.out.upd ((Upd.refl noBlk _).alloc _) fun _ h => h.elim, HP5.out.upd ((Upd.refl noBlk _).alloc _) fun _ h => h.elim, Row.new w5 _ _, rfl, hf, ?_, ?_⟩, HU5.out.alloc _⟩
  · intro hk; have := HD5.out.foot_lt hk; exact absurd this (Nat.lt_irrefl _)
  · intro hk; have := HP5.out.foot_lt hk; exact absurd this (Nat.lt_irrefl _)
theorem batchNew_no (D : DL) (d : Drive) (L : PL) (p : Pool) (w : World) (h : DriveAt w D d) (hp : PoolAt w L p) (hsum : p.count 1 + p.count 2 + p.count 3 ≠ d.chip.nb) :
    Calls Try.prog 24 #[.pointer (some ⟨D.d, 0, none⟩), .pointer (some ⟨L.a, 0, none⟩)] w fun e w' => e = .returned (.tuple #[.pointer none, .int .i64 2]) ∧ Upd noBlk w w' := by
  have HD := hid h; have HP := hid hp
  have HC1 := hid (fun W hW => poolCount_any L p 1 W hW)
  have HC2 := hid (fun W hW => poolCount_any L p 2 W hW)
  have HC3 := hid (fun W hW => poolCount_any L p 3 W hW)
  obtain ⟨a0, a1⟩ := count_le p 1; obtain ⟨b0, b1⟩ := count_le p 2; obtain ⟨c0, c1⟩ := count_le p 3
  have hn := hp.n256
  have q1 : p.count 1 ≤ 256 := by omega
  have q2 : p.count 2 ≤ 256 := by omega
  have q3 : p.count 3 ≤ 256 := by omega
  have HCH := hid (fun W hW => Chip_any D d W hW)
  have HSH := hid (fun W hW => Shape_any D.c d.chip W hW)
  have hf0 := field_shape0 d.chip.nb d.chip.np d.chip.sz
  have b4 : (p.count 1 + p.count 2 + p.count 3 != d.chip.nb) = true := by simpa using hsum
  generalize p.count 1 = x1 at *
  generalize p.count 2 = x2 at *
  generalize p.count 3 = x3 at *
  clear h hp hn hsum a1 b1 c1
  go_enter Try.func24, Try.ntmps24
  go_wp2_with fail
  refine (HC1.out _ HP.out).mono ?_; rintro e w1 ⟨rfl, hu⟩
  have HP1 := hid (HP.out.upd hu fun _ h => h.elim); have HD1 := hid (HD.out.upd hu fun _ h => h.elim); have HU1 := hid hu; clear hu
  go_wp2_with fail
  refine (HC2.out _ HP1.out).mono ?_; rintro e w2 ⟨rfl, hu⟩
  have HP2 := hid (HP1.out.upd hu fun _ h => h.elim); have HD2 := hid (HD1.out.upd hu fun _ h => h.elim); have HU2 := hid (HU1.out.trans' hu); clear hu
  go_wp2_with fail
  refine (HC3.out _ HP2.out).mono ?_; rintro e w3 ⟨rfl, hu⟩
  have HP3 := hid (HP2.out.upd hu fun _ h => h.elim); have HD3 := hid (HD2.out.upd hu fun _ h => h.elim); have HU3 := hid (HU2.out.trans' hu); clear hu
  go_wp2_with fail
  refine (HCH.out _ HD3.out).mono ?_; rintro e w4 ⟨rfl, rfl⟩
  go_wp2_with fail
  refine (HSH.out _ HD3.out.chip).mono ?_; rintro e w5 ⟨rfl, hu⟩
  have HU5 := hid (HU3.out.trans' hu); clear hu
  go_wp2_with fail
  go_ret2
  exact ⟨rfl, HU5.out⟩
theorem batchNew_nil (p : Option Addr) (w : World) :
    Calls Try.prog 24 #[.pointer none, .pointer p] w fun e w' => e = .returned (.tuple #[.pointer none, .int .i64 1]) ∧ w = w' := by
  go_enter Try.func24, Try.ntmps24
  go_wp2_with fail
  go_ret2
  exact ⟨rfl, rfl⟩
theorem batchNew_nil2 (d : Addr) (w : World) :
    Calls Try.prog 24 #[.pointer (some d), .pointer none] w fun e w' => e = .returned (.tuple #[.pointer none, .int .i64 1]) ∧ w = w' := by
  go_enter Try.func24, Try.ntmps24
  go_wp2_with fail
  go_ret2
  exact ⟨rfl, rfl⟩
theorem Close_none (w : World) : Calls Try.prog 25 #[.pointer none] w fun e w' => e = .returned (.tuple #[]) ∧ w = w' := by
  go_enter Try.func25, Try.ntmps25
  go_wp2_with fail
  go_end0
  exact ⟨rfl, rfl⟩
theorem Failed_none (w : World) : Calls Try.prog 29 #[.pointer none] w fun e w' => e = .returned (.slice none 0 0) ∧ w = w' := by
  go_enter Try.func29, Try.ntmps29
  go_wp2_with fail
  go_ret
  exact ⟨rfl, rfl⟩
theorem Put_none (t : Tag) (data : ByteArray) (w : World) :
    Calls Try.prog 19 #[.pointer none, t.val, .string data] w fun e w' => e = .returned (.tuple #[.agg #[.int .i64 0, .int .i64 0], .int .i64 1]) ∧ Upd noBlk w w' := by
  obtain ⟨kk, l, sq, p, n⟩ := t
  unfold Tag.val
  go_enter Try.func19, Try.ntmps19
  go_wp2_with fail
  refine bodyPost_ret (v := .tuple #[.agg #[.int .i64 0, .int .i64 0], .int .i64 1]) (by simp [results, Try.results19, go_sem]) rfl ⟨rfl, ?_⟩
  repeat (first | with_reducible exact Upd.refl _ _ | with_reducible refine Upd.drew ?_ | with_reducible refine Upd.drewN ?_ _ | with_reducible refine Upd.alloc ?_ _ | (with_reducible refine Upd.setCell ?_ (Or.inr ?_) _; rotate_left; (first | exact Nat.le_refl _ | (dsimp only; omega))))

end Go.Proofs.Ytljphijjcagciaa

namespace Go.Proofs.Ytljphijjcagciaa
open Go.RowKit

def Abs.fresh (nb np sz : Nat) : Abs := ⟨np, sz, List.replicate nb ⟨[], false, 0, 1, 0⟩, -1, 0, 0⟩
theorem Abs.fresh_stream (nb np sz : Nat) : (Abs.fresh nb np sz).stream = ⟨Drive.new (Chip.new nb np sz []), Pool.new nb, -1, []⟩ := by
  simp [Abs.fresh, Abs.stream, Abs.drive, Abs.pool, Abs.chip, Drive.new, Pool.new, Chip.new, Chip.fresh, List.map_replicate, ABlk.conc, freshBlk, ABlk.next]
theorem Abs.fresh_ok (nb np sz : Nat) (h : 2 ≤ np) (h2 : np ≤ 64) : (Abs.fresh nb np sz).Ok 0 :=
  ⟨h, h2, fun b hb => by
    have e := List.eq_of_mem_replicate hb
    subst e; exact ⟨Nat.zero_le _, fun _ => rfl, Int.le_refl _, Int.le_refl _⟩, .inl rfl⟩
theorem Pool.new_count (n : Nat) : (Pool.new n).count 1 + (Pool.new n).count 2 + (Pool.new n).count 3 = n := by
  unfold Pool.count Pool.new
  rw [Int.toNat_natCast]
  simp

/-- Each page's tag may be, and its bytes are as many as a page's. -/
def Abs.Good (a : Abs) : Prop := ∀ b ∈ a.bl, ∀ p ∈ b.pages, p.1.right = true ∧ (0 ≤ p.1.seq ∧ p.1.seq ≤ 18446744073709551615) ∧ p.2.size = a.sz
theorem Abs.fresh_good (nb np sz : Nat) : (Abs.fresh nb np sz).Good := fun b hb p hp => by
  have e := List.eq_of_mem_replicate hb
  subst e; cases hp
theorem Abs.read {a : Abs} (hg : a.Good) {k i : Nat} (hk : k < a.bl.length) (hi : i < (a.at k).pages.length) (hl : (a.at k).pages.length ≤ a.np) :
    a.drive.read (k : Int) (i : Int) = (⟨4, ((a.at k).pages.getD i default).1, ((a.at k).pages.getD i default).2⟩, 0) := by
  have hp := List.getD_eq_getElem?_getD (l := (a.at k).pages) (i := i) (a := default)
  rw [List.getElem?_eq_getElem hi] at hp
  have hm := hg _ (Abs.at_mem hk) _ (List.getElem_mem hi)
  rw [show (a.at k).pages.getD i default = (a.at k).pages[i] from hp]
  refine Drive.read_tag (d := a.drive) (Chip.ready_ok rfl (Abs.chip_has hk) (by omega) (by show (i : Int) < (a.np : Int); omega)) (by rw [hm.2.2]; rfl) hm.1 hm.2.1 ?_
  show (a.chip.at (k : Int)).pages.getD (i : Int).toNat (mkS []) = _
  rw [Abs.chip_at hk, Int.toNat_natCast]
  unfold ABlk.conc
  dsimp only
  rw [List.getD_eq_getElem?_getD, List.getElem?_append_left (by simpa using hi), List.getElem?_map, List.getElem?_eq_getElem hi]
  rfl
theorem Abs.Good.put1 {a : Abs} (h : a.Good) (k : Nat) (b : ABlk) (hb : ∀ p ∈ b.pages, p.1.right = true ∧ (0 ≤ p.1.seq ∧ p.1.seq ≤ 18446744073709551615) ∧ p.2.size = a.sz) : (a.put1 k b).Good := fun x hx => by
  rcases List.mem_or_eq_of_mem_set hx with hx | rfl
  · exact h x hx
  · exact hb
theorem headTag_ok (w : Int) : (headTag w).right = true ∧ (0 ≤ (headTag w).seq ∧ (headTag w).seq ≤ 18446744073709551615) := by
  refine ⟨rfl, ?_⟩
  show 0 ≤ w % 18446744073709551616 ∧ w % 18446744073709551616 ≤ 18446744073709551615
  omega
theorem Abs.ready_good {a : Abs} (h : a.Good) : a.ready.2.Good := by
  unfold Abs.ready
  split
  · exact h
  · cases hb : a.best with
    | none => exact h
    | some k =>
      have hk := (Abs.best_spec hb).1
      have hm : (a.mark k 2).Good := h.put1 k _ (by have := h _ (Abs.at_mem hk); exact this)
      exact hm.put1 k _ (fun p hp => by
        have e := List.mem_singleton.1 hp
        subst e
        exact ⟨(headTag_ok _).1, (headTag_ok _).2, by rw [repS_size, mkS_size]; simp⟩)
theorem Abs.ready_sz (a : Abs) : a.ready.2.sz = a.sz ∧ a.ready.2.np = a.np := by
  unfold Abs.ready
  split
  · exact ⟨rfl, rfl⟩
  · cases a.best with
    | none => exact ⟨rfl, rfl⟩
    | some k => exact ⟨rfl, rfl⟩
theorem Abs.ready_length (a : Abs) : a.ready.2.bl.length = a.bl.length := by
  unfold Abs.ready
  split
  · rfl
  · cases a.best with
    | none => rfl
    | some k => show ((a.mark k 2).begin k).bl.length = _; rw [Abs.begin_length, Abs.mark_length]
theorem Abs.put_good {a : Abs} {W : Int} (h : a.Good) (hok : a.Ok W) (hW : W < 100000000) (t : Tag) (data : ByteArray) (hs : 0 ≤ t.seq ∧ t.seq ≤ 18446744073709551615) : (a.put t data).2.Good := by
  by_cases hc : t.right = false ∨ data.size ≠ a.sz
  · rw [Abs.put_bad hc]; exact h
  · have h1 : t.right = true := Bool.of_not_eq_false fun e => hc (.inl e)
    have h2 : data.size = a.sz := Decidable.byContradiction fun e => hc (.inr e)
    have hr := Abs.ready_good h
    by_cases he : a.ready.1 = 0
    · rw [Abs.put_go h1 h2 he]
      obtain ⟨hok2, _, _, hroom⟩ := Abs.ready_ok hok hW
      obtain ⟨o1, _⟩ := hok2.open_room (hroom he)
      exact hr.put1 a.ready.2.opnN _ (fun p hp => by
        rcases List.mem_append.1 hp with hp | hp
        · exact hr _ (Abs.at_mem o1) p hp
        · have e := List.mem_singleton.1 hp
          subst e
          exact ⟨h1, hs, by rw [(Abs.ready_sz a).1]; exact h2⟩)
    · rw [Abs.put_full h1 h2 he]; exact hr
theorem Abs.put_length (a : Abs) (t : Tag) (data : ByteArray) : (a.put t data).2.bl.length = a.bl.length := by
  unfold Abs.put
  split
  · rfl
  · split
    · exact Abs.ready_length a
    · show (a.ready.2.put1 _ _).bl.length = _
      rw [Abs.length_put1, Abs.ready_length]

end Go.Proofs.Ytljphijjcagciaa
